/- YtlfhmbifgdhckaaGreatDoorPlayEndsA: a part of the proof; no conditions of its own. -/
import Derived.KernelRfl
import Derived.Lib.TrailingZeros
import Derived.Test.YtlfhmbifgdhckaaGreatDoorCoreC
set_option linter.unusedVariables false
set_option linter.unusedSimpArgs false

namespace Jq
open Go
def q42:Fn:={ np:=1,nt:=14,ns:=0,res:=[.t 2 (.i .i64)],gc:=false,code:=(.seq (.reg 0 false (xmk 2 0 .nil)) (.seq (.seq (.reg 1 false (xmv 3 0 (.op (some 4) (.bin .eql) [(.t 3),(.k (.c (.int .u64 0)))] .nil))) (.cond (.t 4) (.seq (.reg 2 false (xmk 2 64 .nil)) .ret) .skip)) (.seq (.reg 3 false (xmv 5 0 (xmv 6 0 (xoa 7 (.un .neg) 6 (xob 8 (.bin .and) 5 7 (.op (some 9) (.bin .mul) [(.t 8),(.k (.c (.int .u64 285870213051353865)))] (.op (some 10) (.bin .shr) [(.t 9),(.k (.c (.int .u64 58)))] (.op (some 11) (.idxA 64 1) [(.k (.c (.gptr 1 0))),(.t 10)] (xoa 12 (.ld .heap (.i .u8)) 11 (xoa 13 (.conv .i64) 12 (xmv 2 13 .nil))))))))))) .ret))) }
end Jq

namespace Jq
open Go
structure q42_In (E:Env):Prop where
 fn:E.fn 42=some q42
end Jq

namespace Jq
open Go
def q190:Fn:={ np:=1,nt:=11,ns:=1,res:=[.all (.slot 0) 2 74],gc:=false,code:=(.seq (.reg 0 false (.al 2 0 (List.replicate 74 ci0) .nil)) (.seq (.seq (.reg 1 false (xmv 3 0 (xoi 4 (.bin .neq) 3 2 (xmv 5 4 (.sc 5 true (xmv 6 0 (xoi 7 (.bin .neq) 6 3 .nil)) 7 8 false .nil))))) (.cond (.t 8) (.reg 2 false (xmk 0 0 .nil)) .skip)) (.seq (.reg 3 false (xmv 9 0 (xoa 10 (.build (List.replicate 74 ci0) [(0,1)]) 9 (.op none (.stAll (.slot 0) 74) [(.t 2),(.t 10)] .nil)))) .ret))) }
def q191:Fn:={ np:=1,nt:=6,ns:=1,res:=[.t 2 .b],gc:=false,code:=(.seq (.reg 0 false (.box 1 0 (.t 0) (.op (some 2) .mov [(.k (.c (.bool false)))] .nil))) (.seq (.reg 1 false (xad 3 1 1 (xoa 4 (.ld (.slot 0) (.i .i64)) 3 (xoi 5 (.bin .eql) 4 0 (xmv 2 5 .nil))))) .ret)) }
def q192:Fn:={ np:=2,nt:=29,ns:=1,res:=[.t 4 (.i .i64),.t 5 (.i .i64),.t 6 (.i .i64),.t 7 .b],gc:=false,code:=(.seq (.reg 0 false (.box 2 0 (.t 0) (xmk 4 0 (xmk 5 0 (xmk 6 0 (.op (some 7) .mov [(.k (.c (.bool false)))] .nil)))))) (.seq (.reg 1 false (xoa 9 (.ldAll (.slot 0) 74) 2 (xmv 10 1 (xob 11 (.call 204 [(.i .i64)]) 9 10 (xmv 8 11 .nil))))) (.seq (.seq (.reg 2 false (xmv 12 8 (xoi 13 (.bin .lss) 12 0 .nil))) (.cond (.t 13) (.seq (.reg 3 false (xmk 4 0 (xmk 5 0 (xmk 6 0 (.op (some 7) .mov [(.k (.c (.bool false)))] .nil))))) .ret) .skip)) (.seq (.reg 4 true (xmv 14 8 (xad 15 2 2 (xob 16 (.idxA 24 3) 15 14 (xad 17 0 16 (xoa 18 (.ld (.slot 0) (.i .i64)) 17 (xmv 19 8 (xad 20 2 2 (xob 21 (.idxA 24 3) 20 19 (xad 22 1 21 (xoa 23 (.ld (.slot 0) (.i .i64)) 22 (xmv 24 8 (xad 25 2 2 (xob 26 (.idxA 24 3) 25 24 (xad 27 2 26 (xoa 28 (.ld (.slot 0) (.i .i64)) 27 (xmv 4 18 (xmv 5 23 (xmv 6 28 (.op (some 7) .mov [(.k (.c (.bool true)))] .nil)))))))))))))))))))) .ret)))) }
def q204_b1:IC:=(.seq (.reg 2 false (xob 9 (.bin .lss) 8 7 .nil)) (.seq (.cond (.t 9) .skip (.exit 0)) (.seq (.blk 1 (.seq (.reg 3 false (xmv 10 8 (xmv 5 10 .nil))) (.seq (.reg 4 false (xad 11 0 2 (xoa 12 (.ld (.slot 0) (.i .i64)) 11 (xoi 13 (.bin .eql) 12 2 (xmv 14 13 (.sc 14 false (xmv 15 5 (xad 16 2 2 (xob 17 (.idxA 24 3) 16 15 (xad 18 0 17 (xoa 19 (.ld (.slot 0) (.i .i64)) 18 (xmv 20 1 (xob 21 (.bin .eql) 19 20 .nil))))))) 21 22 true .nil)))))) (.cond (.t 22) (.seq (.reg 5 false (xmv 23 5 (xmv 4 23 .nil))) .ret) .skip)))) (.reg 6 false (xoi 24 (.bin .add) 8 1 (xmv 8 24 .nil))))))
def q204_p1:IC:=(.seq (.reg 7 false (xmk 4 (-1) .nil)) .ret)
def q204:Fn:={ np:=2,nt:=25,ns:=1,res:=[.t 4 (.i .i64)],gc:=false,code:=(.seq (.reg 0 false (.box 2 0 (.t 0) (xmk 4 0 .nil))) (.seq (.seq (.reg 1 false (xad 6 1 2 (xoa 7 (.ld (.slot 0) (.i .i64)) 6 (xmk 8 0 .nil)))) (.blk 0 (.loop [1,2,7,8] [0] [(0,[4],[]),(1,[],[])] q204_b1))) q204_p1)) }
def q205_b1:IC:=(.seq (.seq (.reg 2 false (xmv 11 7 (xoi 12 (.bin .geq) 11 0 .nil))) (.cond (.t 12) .skip (.exit 0))) (.seq (.blk 1 (.seq (.reg 4 false (xmv 15 7 (xad 16 2 2 (xob 17 (.idxA 24 3) 16 15 (xad 18 0 17 (xoa 19 (.ld (.slot 0) (.i .i64)) 18 (xmv 20 1 (xob 21 (.bin .eql) 19 20 .nil)))))))) (.cond (.t 21) (.seq (.reg 5 true (xmv 22 7 (xad 23 2 2 (xob 24 (.idxA 24 3) 23 22 (xad 25 1 24 (xoa 26 (.ld (.slot 0) (.i .i64)) 25 (xmv 27 7 (xad 28 2 2 (xob 29 (.idxA 24 3) 28 27 (xad 30 2 29 (xoa 31 (.ld (.slot 0) (.i .i64)) 30 (xmv 4 26 (xmv 5 31 (.op (some 6) .mov [(.k (.c (.bool true)))] .nil)))))))))))))) .ret) .skip))) (.reg 3 false (xmv 13 7 (xoi 14 (.bin .sub) 13 1 (xmv 7 14 .nil))))))
def q205_p1:IC:=(.seq (.reg 6 false (xmk 4 0 (xmk 5 0 (.op (some 6) .mov [(.k (.c (.bool false)))] .nil)))) .ret)
def q205:Fn:={ np:=2,nt:=32,ns:=1,res:=[.t 4 (.i .i64),.t 5 (.i .i64),.t 6 .b],gc:=false,code:=(.seq (.reg 0 false (.box 2 0 (.t 0) (xmk 4 0 (xmk 5 0 (.op (some 6) .mov [(.k (.c (.bool false)))] .nil))))) (.seq (.seq (.reg 1 false (xad 8 1 2 (xoa 9 (.ld (.slot 0) (.i .i64)) 8 (xoi 10 (.bin .sub) 9 1 (xmv 7 10 .nil))))) (.blk 0 (.loop [1,2,7] [0] [(0,[4,5,6],[]),(1,[],[])] q205_b1))) q205_p1)) }
def q206:Fn:={ np:=4,nt:=39,ns:=2,res:=[.all (.slot 1) 8 74],gc:=false,code:=(.seq (.reg 0 false (.box 4 0 (.t 0) (.al 8 1 (List.replicate 74 ci0) .nil))) (.seq (.seq (.reg 1 false (xad 9 0 4 (xoa 10 (.ld (.slot 0) (.i .i64)) 9 (xoi 11 (.bin .eql) 10 0 (xmv 12 11 (.sc 12 false (xmv 13 1 (xoi 14 (.bin .lss) 13 0 .nil)) 14 15 true (xmv 16 15 (.sc 16 false (xmv 17 1 (xoi 18 (.bin .geq) 17 4 .nil)) 18 19 true (xmv 20 19 (.sc 20 false (xad 21 1 4 (xoa 22 (.ld (.slot 0) (.i .i64)) 21 (xoi 23 (.bin .geq) 22 24 .nil))) 23 24 true .nil)))))))))) (.cond (.t 24) (.seq (.reg 2 false (xoa 25 (.ldAll (.slot 0) 74) 4 (.op none (.stAll (.slot 1) 74) [(.t 8),(.t 25)] .nil))) .ret) .skip)) (.seq (.reg 3 false (xad 26 1 4 (xoa 27 (.ld (.slot 0) (.i .i64)) 26 (xmv 28 1 (xmv 29 2 (xmv 30 3 (.op (some 31) (.build ([ci0,ci0,ci0]) [(0,1),(1,1),(2,1)]) [(.t 28),(.t 29),(.t 30)] (xad 32 2 4 (xob 33 (.idxA 24 3) 32 27 (.op none (.stN (.slot 0) 3) [(.t 33),(.t 31)] .nil)))))))))) (.seq (.reg 4 false (xad 34 1 4 (xoa 35 (.ld (.slot 0) (.i .i64)) 34 (xoi 36 (.bin .add) 35 1 (xad 37 1 4 (.op none (.st (.slot 0)) [(.t 37),(.t 36)] .nil)))))) (.seq (.reg 5 false (xoa 38 (.ldAll (.slot 0) 74) 4 (.op none (.stAll (.slot 1) 74) [(.t 8),(.t 38)] .nil))) .ret))))) }
def q207:Fn:={ np:=2,nt:=30,ns:=1,res:=[.all (.slot 0) 4 74],gc:=true,code:=(.seq (.reg 0 false (xoa 2 .boxH 0 (.al 4 0 (List.replicate 74 ci0) .nil))) (.seq (.reg 1 false (xoa 6 (.ldAll .heap 74) 2 (xmv 7 1 (xob 8 (.call 204 [(.i .i64)]) 6 7 (xmv 5 8 .nil))))) (.seq (.seq (.reg 2 false (xmv 9 5 (xoi 10 (.bin .lss) 9 0 .nil))) (.cond (.t 10) (.seq (.reg 3 false (xoa 11 (.ldAll .heap 74) 2 (.op none (.stAll (.slot 0) 74) [(.t 4),(.t 11)] .nil))) .ret) .skip)) (.seq (.reg 4 true (xad 12 2 2 (xmv 13 5 (xob 14 (.slcA 24 3 true false) 12 13 (xad 15 2 2 (xmv 16 5 (xoi 17 (.bin .add) 16 1 (xob 18 (.slcA 24 3 true false) 15 17 (xob 19 (.copy 3) 14 18 .nil))))))))) (.seq (.reg 5 false (xad 20 1 2 (xoa 21 (.ld .heap (.i .i64)) 20 (xoi 22 (.bin .sub) 21 1 (xad 23 1 2 (.op none (.st .heap) [(.t 23),(.t 22)] .nil)))))) (.seq (.reg 6 false (xad 24 1 2 (xoa 25 (.ld .heap (.i .i64)) 24 (.op (some 26) (.build ([ci0,ci0,ci0]) []) [] (xad 27 2 2 (xob 28 (.idxA 24 3) 27 25 (.op none (.stN .heap 3) [(.t 28),(.t 26)] .nil))))))) (.seq (.reg 7 false (xoa 29 (.ldAll .heap 74) 2 (.op none (.stAll (.slot 0) 74) [(.t 4),(.t 29)] .nil))) .ret))))))) }
end Jq

namespace Jq
open Go
structure q190_In (E:Env):Prop where
 fn:E.fn 190=some q190
structure q191_In (E:Env):Prop where
 fn:E.fn 191=some q191
structure q204_In (E:Env):Prop where
 fn:E.fn 204=some q204
structure q192_In (E:Env):Prop where
 fn:E.fn 192=some q192
 c204:q204_In E
structure q205_In (E:Env):Prop where
 fn:E.fn 205=some q205
structure q206_In (E:Env):Prop where
 fn:E.fn 206=some q206
structure q207_In (E:Env):Prop where
 fn:E.fn 207=some q207
 c204:q204_In E
end Jq

namespace Jq
open Go
def q80:Fn:={ np:=1,nt:=11,ns:=1,res:=[.t 2 .b],gc:=false,code:=(.seq (.reg 0 false (.box 1 0 (.t 0) (.op (some 2) .mov [(.k (.c (.bool false)))] .nil))) (.seq (.reg 1 false (xad 3 2 1 (xoa 4 (.ld (.slot 0) (.i .i64)) 3 (xoi 5 (.bin .eql) 4 2 (xmv 6 5 (.sc 6 false (xad 7 2 1 (xoa 8 (.ld (.slot 0) (.i .i64)) 7 (xoi 9 (.bin .eql) 8 4 .nil))) 9 10 true (xmv 2 10 .nil))))))) .ret)) }
def q109:Fn:={ np:=3,nt:=46,ns:=3,res:=[.all (.slot 2) 6 6,.t 7 .b],gc:=false,code:=(.seq (.reg 0 false (.box 3 0 (.t 0) (.box 4 1 (.t 1) (.al 6 2 ([ci0,ci0,ci0,ci0,ci0,ci0]) (.op (some 7) .mov [(.k (.c (.bool false)))] .nil))))) (.seq (.seq (.reg 1 false (xad 8 0 3 (xoa 9 (.ld (.slot 0) (.i .i64)) 8 .nil))) (.blk 0 (.seq (.reg 2 false (xoi 11 (.bin .eql) 9 1 (xmv 10 11 .nil))) (.cond (.t 10) (.seq (.reg 3 true (xad 12 2 3 (xoa 13 (.ld (.slot 0) (.i .i64)) 12 (xad 14 3 3 (xoa 15 (.ldN (.slot 0) 2) 14 (xoa 16 (.ldAll (.slot 1) 5) 4 (xob 17 (.qcall 108 [(.i .i64)]) 15 16 (.op (some 18) (.build ([ci0,ci0,ci0,ci0,ci0,ci0]) [(2,1),(3,1),(5,1)]) [(.k (.c (.int .i64 2))),(.t 13),(.t 17)] (.op none (.stAll (.slot 2) 6) [(.t 6),(.t 18)] (.op (some 7) .mov [(.k (.c (.bool false)))] .nil)))))))))) .ret) (.seq (.reg 4 false (xoi 20 (.bin .eql) 9 2 (xmv 19 20 .nil))) (.cond (.t 19) (.seq (.reg 5 false (xad 21 2 3 (xoa 22 (.ld (.slot 0) (.i .i64)) 21 (xmv 23 2 (.op (some 24) (.build ([ci0,ci0,ci0,ci0,ci0,ci0]) [(2,1),(3,1),(4,1)]) [(.k (.c (.int .i64 1))),(.t 22),(.t 23)] (.op none (.stAll (.slot 2) 6) [(.t 6),(.t 24)] (.op (some 7) .mov [(.k (.c (.bool true)))] .nil))))))) .ret) (.seq (.reg 6 false (xoi 26 (.bin .eql) 9 4 (xmv 25 26 .nil))) (.cond (.t 25) (.seq (.seq (.reg 7 false (xad 27 3 3 (xoa 28 (.ldN (.slot 0) 2) 27 (xoa 29 (.ldAll (.slot 1) 5) 4 (xob 30 (.call 108 [(.i .i64)]) 28 29 (xmv 31 2 (xob 32 (.bin .eql) 30 31 .nil))))))) (.cond (.t 32) (.seq (.reg 8 true (xad 33 2 3 (xoa 34 (.ld (.slot 0) (.i .i64)) 33 (xmv 35 2 (xad 36 6 3 (xoa 37 (.ldN (.slot 0) 2) 36 (xoa 38 (.ldAll (.slot 1) 5) 4 (xob 39 (.qcall 108 [(.i .i64)]) 37 38 (.op (some 40) (.build ([ci0,ci0,ci0,ci0,ci0,ci0]) [(2,1),(3,1),(4,1),(5,1)]) [(.k (.c (.int .i64 4))),(.t 34),(.t 35),(.t 39)] (.op none (.stAll (.slot 2) 6) [(.t 6),(.t 40)] (.op (some 7) .mov [(.k (.c (.bool true)))] .nil))))))))))) .ret) .skip)) (.seq (.reg 9 false (xad 41 2 3 (xoa 42 (.ld (.slot 0) (.i .i64)) 41 (xmv 43 2 (.op (some 44) (.build ([ci0,ci0,ci0,ci0,ci0,ci0]) [(2,1),(3,1),(4,1)]) [(.k (.c (.int .i64 5))),(.t 42),(.t 43)] (.op none (.stAll (.slot 2) 6) [(.t 6),(.t 44)] (.op (some 7) .mov [(.k (.c (.bool true)))] .nil))))))) .ret)) .skip)))))))) (.seq (.reg 10 false (.op (some 45) (.build ([ci0,ci0,ci0,ci0,ci0,ci0]) [(2,1)]) [(.k (.c (.int .i64 3)))] (.op none (.stAll (.slot 2) 6) [(.t 6),(.t 45)] (.op (some 7) .mov [(.k (.c (.bool false)))] .nil)))) .ret))) }
end Jq

namespace Jq
open Go
def q94:Fn:={ np:=2,nt:=10,ns:=2,res:=[.all (.slot 1) 4 5],gc:=false,code:=(.seq (.reg 0 false (.box 2 0 (.t 0) (.al 4 1 ([ci0,ci0,ci0,ci0,ci0]) .nil))) (.seq (.reg 1 false (xoa 5 (.ldAll (.slot 0) 3) 2 (xmv 6 1 (xob 7 (.call 113 [.any]) 5 6 (.op (some 8) (.build ([ci0,ci0,ci0,ci0,ci0]) []) [] (xob 9 (.call 114 [.agg]) 7 8 (.op none (.stAll (.slot 1) 5) [(.t 4),(.t 9)] .nil))))))) .ret)) }
def q102_b1:IC:=(.seq (.reg 3 false (xob 10 (.bin .lss) 9 8 .nil)) (.seq (.cond (.t 10) .skip (.exit 0)) (.seq (.blk 1 (.seq (.reg 4 false (xob 11 (.idxS 1) 7 9 (xoa 12 (.ld .heap .any) 11 (xmv 5 12 .nil)))) (.reg 5 false (xmv 13 3 (xmv 14 5 (xoa 15 .len 14 (xob 16 (.bin .add) 13 15 (xmv 3 16 .nil)))))))) (.reg 6 false (xoi 17 (.bin .add) 9 1 (xmv 9 17 .nil))))))
def q102_p1:IC:=(.seq (.reg 7 false (xmv 18 3 (xmv 2 18 .nil))) .ret)
def q102:Fn:={ np:=1,nt:=19,ns:=1,res:=[.t 2 (.i .i64)],gc:=false,code:=(.seq (.reg 0 false (.box 1 0 (.t 0) (xmk 2 0 .nil))) (.seq (.reg 1 false (xmk 3 0 .nil)) (.seq (.seq (.reg 2 false (xad 6 2 1 (xoa 7 (.ld (.slot 0) .any) 6 (xoa 8 .len 7 (xmk 9 0 .nil))))) (.blk 0 (.loop [3,7,8,9] [] [(1,[3],[])] q102_b1))) q102_p1))) }
def q105:Fn:={ np:=3,nt:=39,ns:=4,res:=[.all (.slot 2) 6 9,.t 7 .b],gc:=false,code:=(.seq (.reg 0 false (.box 3 0 (.t 0) (.box 5 1 (.t 2) (.al 6 2 (List.replicate 9 ci0) (.op (some 7) .mov [(.k (.c (.bool false)))] .nil))))) (.seq (.reg 1 false (xoa 10 (.ldAll (.slot 0) 3) 3 (xmv 11 1 (xob 12 (.call 113 [.any]) 10 11 (xmv 8 12 .nil))))) (.seq (.seq (.reg 2 false (xad 13 0 5 (xoa 14 (.ld (.slot 1) (.i .i64)) 13 (xoi 15 (.bin .lss) 14 0 (xmv 16 15 (.sc 16 false (xad 17 0 5 (xoa 18 (.ld (.slot 1) (.i .i64)) 17 (xmv 19 8 (xoa 20 .len 19 (xob 21 (.bin .geq) 18 20 .nil))))) 21 22 true .nil)))))) (.cond (.t 22) (.seq (.reg 3 false (.op (some 23) (.build (List.replicate 9 ci0) []) [] (.op none (.stAll (.slot 2) 9) [(.t 6),(.t 23)] (.op (some 7) .mov [(.k (.c (.bool false)))] .nil)))) .ret) .skip)) (.seq (.reg 4 false (xmv 24 8 (xad 25 0 5 (xoa 26 (.ld (.slot 1) (.i .i64)) 25 (xob 27 (.idxS 9) 24 26 (xoa 28 (.ldN .heap 9) 27 (.al 9 3 (List.replicate 9 ci0) (.op none (.stAll (.slot 3) 9) [(.t 9),(.t 28)] .nil)))))))) (.seq (.seq (.reg 5 false (xad 29 0 9 (xoa 30 (.ld (.slot 3) (.i .i64)) 29 (xoi 31 (.bin .lss) 30 1 (xmv 32 31 (.sc 32 false (xad 33 0 9 (xoa 34 (.ld (.slot 3) (.i .i64)) 33 (xoi 35 (.bin .gtr) 34 4 .nil))) 35 36 true .nil)))))) (.cond (.t 36) (.seq (.reg 6 false (.op (some 37) (.build (List.replicate 9 ci0) []) [] (.op none (.stAll (.slot 2) 9) [(.t 6),(.t 37)] (.op (some 7) .mov [(.k (.c (.bool false)))] .nil)))) .ret) .skip)) (.seq (.reg 7 false (xoa 38 (.ldAll (.slot 3) 9) 9 (.op none (.stAll (.slot 2) 9) [(.t 6),(.t 38)] (.op (some 7) .mov [(.k (.c (.bool true)))] .nil)))) .ret)))))) }
def q106:Fn:={ np:=4,nt:=42,ns:=3,res:=[.all (.slot 1) 8 5],gc:=true,code:=(.seq (.reg 0 false (.box 4 0 (.t 0) (xoa 6 .boxH 2 (.al 8 1 ([ci0,ci0,ci0,ci0,ci0]) .nil)))) (.seq (.reg 1 false (xoa 12 (.ldAll (.slot 0) 3) 4 (xmv 13 1 (xoa 14 (.ldAll .heap 5) 6 (.op (some 15) (.call 105 [.agg,.b]) [(.t 12),(.t 13),(.t 14)] (xmv 11 15 (xoa 16 (.ext 0) 11 (xoa 17 (.ext 1) 11 (.al 9 2 (List.replicate 9 ci0) (.op none (.stAll (.slot 2) 9) [(.t 9),(.t 16)] (xmv 10 17 .nil))))))))))) (.seq (.seq (.reg 2 false (xmv 18 10 (xoa 19 (.un .not) 18 .nil))) (.cond (.t 19) (.seq (.reg 3 false (xoa 20 (.ldAll .heap 5) 6 (.op none (.stAll (.slot 1) 5) [(.t 8),(.t 20)] .nil))) .ret) .skip)) (.seq (.seq (.reg 4 false (xad 21 0 9 (xoa 22 (.ld (.slot 2) (.i .i64)) 21 (xoi 23 (.bin .eql) 22 2 (xmv 24 23 (.sc 24 false (xad 25 0 9 (xoa 26 (.ld (.slot 2) (.i .i64)) 25 (xoi 27 (.bin .eql) 26 4 .nil))) 27 28 true .nil)))))) (.cond (.t 28) (.reg 5 false (xad 29 1 9 (xoa 30 (.ld (.slot 2) (.i .i64)) 29 (xmv 31 3 (.op (some 32) (.call 124 []) [(.t 6),(.t 30),(.t 31)] .nil))))) .skip)) (.seq (.reg 6 false (xad 33 0 6 (xoa 34 (.ld .heap (.i .i64)) 33 (xoi 35 (.bin .add) 34 1 (xad 36 0 6 (.op none (.st .heap) [(.t 36),(.t 35)] .nil)))))) (.seq (.reg 7 true (xoa 37 (.ldAll (.slot 0) 3) 4 (xmv 38 1 (xob 39 (.qcall 113 [.any]) 37 38 (xoa 40 (.ldAll .heap 5) 6 (xob 41 (.qcall 114 [.agg]) 39 40 (.op none (.stAll (.slot 1) 5) [(.t 8),(.t 41)] .nil))))))) .ret)))))) }
def q108:Fn:={ np:=2,nt:=20,ns:=2,res:=[.t 4 (.i .i64)],gc:=false,code:=(.seq (.reg 0 false (.box 2 0 (.t 0) (.box 3 1 (.t 1) (xmk 4 0 .nil)))) (.seq (.seq (.reg 1 false (xad 5 0 2 (xoa 6 (.ld (.slot 0) (.i .i64)) 5 (xoi 7 (.bin .geq) 6 0 (xmv 8 7 (.sc 8 true (xad 9 0 2 (xoa 10 (.ld (.slot 0) (.i .i64)) 9 (xoi 11 (.bin .lss) 10 4 .nil))) 11 12 false .nil)))))) (.cond (.t 12) (.seq (.reg 2 false (xad 13 0 2 (xoa 14 (.ld (.slot 0) (.i .i64)) 13 (xad 15 1 3 (xob 16 (.idxA 4 1) 15 14 (xoa 17 (.ld (.slot 1) (.i .i64)) 16 (xmv 4 17 .nil))))))) .ret) .skip)) (.seq (.reg 3 false (xad 18 1 2 (xoa 19 (.ld (.slot 0) (.i .i64)) 18 (xmv 4 19 .nil)))) .ret))) }
def q113:Fn:={ np:=2,nt:=19,ns:=1,res:=[.t 4 .any],gc:=false,code:=(.seq (.reg 0 false (.box 2 0 (.t 0) (.op (some 4) .mov [(.k (.c .nils))] .nil))) (.seq (.seq (.reg 1 false (xmv 5 1 (xoi 6 (.bin .lss) 5 0 (xmv 7 6 (.sc 7 false (xmv 8 1 (xad 9 2 2 (xoa 10 (.ld (.slot 0) .any) 9 (xoa 11 .len 10 (xob 12 (.bin .geq) 8 11 .nil))))) 12 13 true .nil))))) (.cond (.t 13) (.seq (.reg 2 false (.op (some 4) .mov [(.k (.c .nils))] .nil)) .ret) .skip)) (.seq (.reg 3 false (xad 14 2 2 (xoa 15 (.ld (.slot 0) .any) 14 (xmv 16 1 (xob 17 (.idxS 1) 15 16 (xoa 18 (.ld .heap .any) 17 (xmv 4 18 .nil))))))) .ret))) }
def q114_b1:IC:=(.seq (.seq (.reg 1 false (xad 10 0 3 (xoa 11 (.ld .heap (.i .i64)) 10 (xoi 12 (.bin .geq) 11 0 (xmv 13 12 (.sc 13 true (xad 14 0 3 (xoa 15 (.ld .heap (.i .i64)) 14 (xmv 16 0 (xoa 17 .len 16 (xob 18 (.bin .lss) 15 17 .nil))))) 18 19 false .nil)))))) (.cond (.t 19) .skip (.exit 0))) (.blk 1 (.seq (.reg 2 false (xmv 20 0 (xad 21 0 3 (xoa 22 (.ld .heap (.i .i64)) 21 (xob 23 (.idxS 9) 20 22 (xoa 24 (.ldN .heap 9) 23 (.al 5 1 (List.replicate 9 ci0) (.op none (.stAll (.slot 1) 9) [(.t 5),(.t 24)] .nil)))))))) (.seq (.reg 3 true (xad 25 3 5 (xoa 26 (.ldN (.slot 1) 2) 25 (xoa 27 (.ldAll .heap 5) 3 (xob 28 (.qcall 108 [(.i .i64)]) 26 27 (xad 29 6 5 (xoa 30 (.ldN (.slot 1) 2) 29 (xoa 31 (.ldAll .heap 5) 3 (xob 32 (.qcall 108 [(.i .i64)]) 30 31 (xmv 6 28 (xmv 7 32 .nil))))))))))) (.seq (.seq (.reg 4 false (xad 33 0 5 (xoa 34 (.ld (.slot 1) (.i .i64)) 33 .nil))) (.blk 2 (.seq (.reg 6 false (xoi 37 (.bin .eql) 34 5 (xmv 36 37 .nil))) (.cond (.t 36) (.seq (.seq (.reg 7 false (xad 39 5 5 (xoa 40 (.ld (.slot 1) (.i .i64)) 39 (xmv 41 6 (xmv 42 7 (.op (some 43) (.call 125 [(.i .i64),.b]) [(.t 40),(.t 41),(.t 42)] (xmv 38 43 (xoa 44 (.ext 0) 38 (xoa 45 (.ext 1) 38 (xmv 8 44 (xmv 9 45 .nil))))))))))) (.seq (.reg 8 false (xmv 46 9 .nil)) (.cond (.t 46) (.reg 9 false (xmv 47 8 (xmv 6 47 .nil))) .skip))) (.reg 10 false (xad 48 1 5 (xoa 49 (.ld (.slot 1) (.i .i64)) 48 (xmv 50 6 (.op (some 51) (.call 124 []) [(.t 3),(.t 49),(.t 50)] .nil)))))) (.seq (.reg 11 false (xoi 53 (.bin .eql) 34 6 (xmv 52 53 .nil))) (.cond (.t 52) (.seq (.reg 12 false (xmv 54 6 (xmv 55 7 (xob 56 (.bin .eql) 54 55 .nil)))) (.cond (.t 56) (.reg 13 false (xad 57 0 3 (xoa 58 (.ld .heap (.i .i64)) 57 (xad 59 8 5 (xoa 60 (.ld (.slot 1) (.i .i64)) 59 (xoi 61 .mx 60 0 (xmv 62 0 (xoa 63 .len 62 (xob 64 .mn 61 63 (xob 65 (.bin .add) 58 64 (xad 66 0 3 (.op none (.st .heap) [(.t 66),(.t 65)] .nil)))))))))))) .skip)) (.seq (.reg 5 false (xoa 35 (.ldAll .heap 5) 3 (.op none (.stAll (.slot 0) 5) [(.t 4),(.t 35)] .nil))) .ret))))))) (.reg 14 false (xad 67 0 3 (xoa 68 (.ld .heap (.i .i64)) 67 (xoi 69 (.bin .add) 68 1 (xad 70 0 3 (.op none (.st .heap) [(.t 70),(.t 69)] .nil)))))))))))
def q114_p1:IC:=(.seq (.reg 15 false (xoa 71 (.ldAll .heap 5) 3 (.op none (.stAll (.slot 0) 5) [(.t 4),(.t 71)] .nil))) .ret)
def q114:Fn:={ np:=2,nt:=72,ns:=2,res:=[.all (.slot 0) 4 5],gc:=true,code:=(.seq (.reg 0 false (xoa 3 .boxH 1 (.al 4 0 ([ci0,ci0,ci0,ci0,ci0]) .nil))) (.seq (.blk 0 (.loop [0,3,4] [0] [(0,[4],[0]),(1,[3,4],[0])] q114_b1)) q114_p1)) }
def q124:Fn:={ np:=3,nt:=18,ns:=0,res:=[],gc:=false,code:=(.seq (.reg 0 false (xmv 6 1 (xoi 7 (.bin .geq) 6 0 (xmv 8 7 (.sc 8 true (xmv 9 1 (xoi 10 (.bin .lss) 9 4 .nil)) 10 11 false .nil))))) (.cond (.t 11) (.reg 1 false (xmv 12 0 (xmv 13 1 (xmv 14 2 (xoa 15 .nilchk 12 (xad 16 1 15 (xob 17 (.idxA 4 1) 16 13 (.op none (.st .heap) [(.t 17),(.t 14)] .nil)))))))) .skip)) }
def q188_b1:IC:=(.seq (.reg 4 false (xob 42 (.bin .lss) 41 40 .nil)) (.seq (.cond (.t 42) .skip (.exit 0)) (.seq (.blk 1 (.seq (.reg 5 false (xmv 43 41 (xob 44 (.idxS 1) 39 41 (xoa 45 (.ld .heap (.i .u8)) 44 (xmv 3 43 (xmv 4 45 .nil)))))) (.seq (.reg 6 false (xmv 46 4 (xoa 47 (.conv .i64) 46 (xoa 48 (.call 158 [.b]) 47 (xoa 49 (.un .not) 48 (xmv 50 49 (.sc 50 false (xmv 51 3 (xoi 52 (.bin .gtr) 51 0 (xmv 53 52 (.sc 53 true (xmv 54 4 (xad 55 0 1 (xoa 56 (.ld .heap .any) 55 (xmv 57 3 (xoi 58 (.bin .sub) 57 1 (xob 59 (.idxS 1) 56 58 (xoa 60 (.ld .heap (.i .u8)) 59 (xob 61 (.bin .leq) 54 60 .nil)))))))) 61 62 false .nil)))) 62 63 true .nil))))))) (.cond (.t 63) (.seq (.reg 7 false (.op (some 2) .mov [(.k (.c (.bool false)))] .nil)) .ret) .skip)))) (.reg 8 false (xoi 64 (.bin .add) 41 1 (xmv 41 64 .nil))))))
def q188_b2:IC:=(.seq (.reg 11 false (xob 70 (.bin .lss) 69 68 .nil)) (.seq (.cond (.t 70) .skip (.exit 2)) (.seq (.blk 3 (.seq (.reg 12 false (xob 71 (.idxS 1) 67 69 (xoa 72 (.ld .heap .any) 71 (xmv 7 72 .nil)))) (.seq (.reg 13 false (xmv 73 7 (xoa 74 .len 73 (xoi 75 (.bin .gtr) 74 10 (xmv 76 75 (.sc 76 false (xmv 77 7 (xoa 78 (.call 148 [.b]) 77 (xoa 79 (.un .not) 78 .nil))) 79 80 true (xmv 81 80 (.sc 81 false (xmv 82 7 (xoa 83 (.mkfn 201) 5 (xob 84 (.call 155 [.b]) 82 83 .nil))) 84 85 true .nil)))))))) (.cond (.t 85) (.seq (.reg 14 false (.op (some 2) .mov [(.k (.c (.bool false)))] .nil)) .ret) .skip)))) (.reg 15 false (xoi 86 (.bin .add) 69 1 (xmv 69 86 .nil))))))
def q188_p2:IC:=(.seq (.reg 16 false (.op (some 2) .mov [(.k (.c (.bool true)))] .nil)) .ret)
def q188_p1:IC:=(.seq (.reg 9 false (xoa 65 (.mkfn 200) 1 (.op (some 5) (.allocH ([Cell.nilf])) [] (.op none (.st .heap) [(.t 5),(.t 65)] .nil)))) (.seq (.seq (.reg 10 false (xad 66 2 1 (xoa 67 (.ld .heap .any) 66 (xoa 68 .len 67 (xmk 69 0 .nil))))) (.blk 2 (.loop [5,67,68,69] [] [(0,[2],[]),(3,[],[])] q188_b2))) q188_p2))
def q188:Fn:={ np:=1,nt:=87,ns:=0,res:=[.t 2 .b],gc:=true,code:=(.seq (.reg 0 false (xoa 1 .boxH 0 (.op (some 2) .mov [(.k (.c (.bool false)))] .nil))) (.seq (.seq (.reg 1 false (xad 8 2 1 (xoa 9 (.ld .heap .any) 8 (xoa 10 .len 9 (xoi 11 (.bin .eql) 10 0 (xmv 12 11 (.sc 12 false (xad 13 2 1 (xoa 14 (.ld .heap .any) 13 (xoa 15 .len 14 (xoi 16 (.bin .gtr) 15 4 .nil)))) 16 17 true (xmv 18 17 (.sc 18 false (xad 19 0 1 (xoa 20 (.ld .heap .any) 19 (xoa 21 .len 20 (xoi 22 (.bin .gtr) 21 4 .nil)))) 22 23 true (xmv 24 23 (.sc 24 false (xad 25 1 1 (xoa 26 (.ld .heap .any) 25 (xoa 27 .len 26 (xad 28 0 1 (xoa 29 (.ld .heap .any) 28 (xoa 30 .len 29 (xob 31 (.bin .neq) 27 30 .nil))))))) 31 32 true (xmv 33 32 (.sc 33 false (xoa 34 (.ldAll .heap 3) 1 (xoa 35 (.call 102 [(.i .i64)]) 34 (xoi 36 (.bin .gtr) 35 24 .nil))) 36 37 true .nil))))))))))))) (.cond (.t 37) (.seq (.reg 2 false (.op (some 2) .mov [(.k (.c (.bool false)))] .nil)) .ret) .skip)) (.seq (.seq (.reg 3 false (xad 38 0 1 (xoa 39 (.ld .heap .any) 38 (xoa 40 .len 39 (xmk 41 0 .nil))))) (.blk 0 (.loop [1,39,40,41] [] [(0,[2],[]),(1,[1],[])] q188_b1))) q188_p1))) }
def q200:Fn:={ np:=2,nt:=13,ns:=0,res:=[.t 3 .b],gc:=false,code:=(.seq (.reg 0 false (.op (some 3) .mov [(.k (.c (.bool false)))] .nil)) (.seq (.reg 1 false (xmv 4 0 (xoi 5 (.bin .geq) 4 0 (xmv 6 5 (.sc 6 true (xmv 7 0 (xad 8 0 1 (xoa 9 (.ld .heap .any) 8 (xoa 10 .len 9 (xob 11 (.bin .lss) 7 10 .nil))))) 11 12 false (xmv 3 12 .nil)))))) .ret)) }
def q201:Fn:={ np:=2,nt:=8,ns:=1,res:=[.t 3 .b],gc:=false,code:=(.seq (.reg 0 false (.box 2 0 (.t 0) (.op (some 3) .mov [(.k (.c (.bool false)))] .nil))) (.seq (.reg 1 false (xoa 4 (.ldAll (.slot 0) 9) 2 (xoa 5 (.ld .heap .any) 1 (xob 6 (.call 159 [.b]) 4 5 (xoa 7 (.un .not) 6 (xmv 3 7 .nil)))))) .ret)) }
end Jq

namespace Jq
open Go
def q125:Fn:={ np:=3,nt:=71,ns:=0,res:=[.t 6 (.i .i64),.t 7 .b],gc:=false,code:=(.seq (.reg 0 false (xmk 6 0 (.op (some 7) .mov [(.k (.c (.bool false)))] .nil))) (.seq (.reg 1 false (xmv 9 2 (xoa 10 (.conv .u64) 9 (.op (some 11) (.bin .rem) [(.t 10),(.k (.c (.int .u64 64)))] (xmv 8 11 .nil))))) (.seq (.seq (.reg 2 false (xmv 12 0 .nil)) (.blk 0 (.seq (.reg 3 false (xoi 14 (.bin .eql) 12 1 (xmv 13 14 .nil))) (.cond (.t 13) (.seq (.reg 4 false (xmv 15 1 (xmv 16 2 (xob 17 (.bin .add) 15 16 (xmv 6 17 (.op (some 7) .mov [(.k (.c (.bool true)))] .nil)))))) .ret) (.seq (.reg 5 false (xoi 19 (.bin .eql) 12 2 (xmv 18 19 .nil))) (.cond (.t 18) (.seq (.reg 6 false (xmv 20 1 (xmv 21 2 (xob 22 (.bin .sub) 20 21 (xmv 6 22 (.op (some 7) .mov [(.k (.c (.bool true)))] .nil)))))) .ret) (.seq (.reg 7 false (xoi 24 (.bin .eql) 12 3 (xmv 23 24 .nil))) (.cond (.t 23) (.seq (.reg 8 false (xmv 25 1 (xmv 26 2 (xob 27 (.bin .mul) 25 26 (xmv 6 27 (.op (some 7) .mov [(.k (.c (.bool true)))] .nil)))))) .ret) (.seq (.reg 9 false (xoi 29 (.bin .eql) 12 4 (xmv 28 29 .nil))) (.cond (.t 28) (.seq (.reg 10 false (xmv 30 1 (xmv 31 2 (xob 32 (.bin .and) 30 31 (xmv 6 32 (.op (some 7) .mov [(.k (.c (.bool true)))] .nil)))))) .ret) (.seq (.reg 11 false (xoi 34 (.bin .eql) 12 5 (xmv 33 34 .nil))) (.cond (.t 33) (.seq (.reg 12 false (xmv 35 1 (xmv 36 2 (xob 37 (.bin .or) 35 36 (xmv 6 37 (.op (some 7) .mov [(.k (.c (.bool true)))] .nil)))))) .ret) (.seq (.reg 13 false (xoi 39 (.bin .eql) 12 6 (xmv 38 39 .nil))) (.cond (.t 38) (.seq (.reg 14 false (xmv 40 1 (xmv 41 2 (xob 42 (.bin .xor) 40 41 (xmv 6 42 (.op (some 7) .mov [(.k (.c (.bool true)))] .nil)))))) .ret) (.seq (.reg 15 false (xoi 44 (.bin .eql) 12 7 (xmv 43 44 .nil))) (.cond (.t 43) (.seq (.reg 16 false (xmv 45 1 (xmv 46 8 (xob 47 (.bin .shl) 45 46 (xmv 6 47 (.op (some 7) .mov [(.k (.c (.bool true)))] .nil)))))) .ret) (.seq (.reg 17 false (xoi 49 (.bin .eql) 12 8 (xmv 48 49 .nil))) (.cond (.t 48) (.seq (.reg 18 false (xmv 50 1 (xmv 51 8 (xob 52 (.bin .shr) 50 51 (xmv 6 52 (.op (some 7) .mov [(.k (.c (.bool true)))] .nil)))))) .ret) (.seq (.reg 19 false (xoi 54 (.bin .eql) 12 9 (xmv 53 54 .nil))) (.cond (.t 53) (.seq (.reg 20 false (xmv 55 1 (xmv 56 2 (xob 57 (.bin .eql) 55 56 (xoa 58 (.call 139 [(.i .i64)]) 57 (xmv 6 58 (.op (some 7) .mov [(.k (.c (.bool true)))] .nil))))))) .ret) (.seq (.reg 21 false (xoi 60 (.bin .eql) 12 10 (xmv 59 60 .nil))) (.cond (.t 59) (.seq (.reg 22 false (xmv 61 1 (xmv 62 2 (xob 63 (.bin .neq) 61 62 (xoa 64 (.call 139 [(.i .i64)]) 63 (xmv 6 64 (.op (some 7) .mov [(.k (.c (.bool true)))] .nil))))))) .ret) (.seq (.reg 23 false (xoi 66 (.bin .eql) 12 11 (xmv 65 66 .nil))) (.cond (.t 65) (.seq (.reg 24 false (xmv 67 1 (xmv 68 2 (xob 69 (.bin .lss) 67 68 (xoa 70 (.call 139 [(.i .i64)]) 69 (xmv 6 70 (.op (some 7) .mov [(.k (.c (.bool true)))] .nil))))))) .ret) .skip)))))))))))))))))))))))) (.seq (.reg 25 false (xmk 6 0 (.op (some 7) .mov [(.k (.c (.bool false)))] .nil))) .ret)))) }
def q139:Fn:={ np:=1,nt:=4,ns:=0,res:=[.t 2 (.i .i64)],gc:=false,code:=(.seq (.reg 0 false (xmk 2 0 .nil)) (.seq (.seq (.reg 1 false (xmv 3 0 .nil)) (.cond (.t 3) (.seq (.reg 2 false (xmk 2 1 .nil)) .ret) .skip)) (.seq (.reg 3 false (xmk 2 0 .nil)) .ret))) }
end Jq

namespace Jq
open Go
structure q139_In (E:Env):Prop where
 fn:E.fn 139=some q139
structure q125_In (E:Env):Prop where
 fn:E.fn 125=some q125
 c139:q139_In E
end Jq

namespace Jq
open Go
def q158:Fn:={ np:=1,nt:=9,ns:=0,res:=[.t 2 .b],gc:=false,code:=(.seq (.reg 0 false (.op (some 2) .mov [(.k (.c (.bool false)))] .nil)) (.seq (.reg 1 false (xmv 3 0 (xoi 4 (.bin .geq) 3 97 (xmv 5 4 (.sc 5 true (xmv 6 0 (xoi 7 (.bin .leq) 6 122 .nil)) 7 8 false (xmv 2 8 .nil)))))) .ret)) }
def q159:Fn:={ np:=2,nt:=159,ns:=2,res:=[.t 4 .b],gc:=false,code:=(.seq (.reg 0 false (.box 2 0 (.t 0) (.op (some 4) .mov [(.k (.c (.bool false)))] .nil))) (.seq (.reg 1 false (xad 7 0 2 (xoa 8 (.ld (.slot 0) (.i .i64)) 7 (xoa 9 (.build (List.replicate 9 ci0) [(0,1)]) 8 (.al 5 1 (List.replicate 9 ci0) (.op none (.stAll (.slot 1) 9) [(.t 5),(.t 9)] .nil)))))) (.seq (.reg 2 false (.op (some 6) .mov [(.k (.c (.bool true)))] .nil)) (.seq (.seq (.reg 3 false (xad 10 0 2 (xoa 11 (.ld (.slot 0) (.i .i64)) 10 .nil))) (.blk 0 (.seq (.reg 5 false (xoi 13 (.bin .eql) 11 1 (xmv 12 13 .nil))) (.cond (.t 12) (.seq (.reg 6 true (xad 14 2 2 (xoa 15 (.ld (.slot 0) (.i .i64)) 14 (xad 16 3 2 (xoa 17 (.ldN (.slot 0) 2) 16 (xad 18 2 5 (.op none (.st (.slot 1)) [(.t 18),(.t 15)] (xad 19 3 5 (.op none (.stN (.slot 1) 2) [(.t 19),(.t 17)] .nil))))))))) (.reg 7 false (xmv 20 1 (xad 21 2 2 (xoa 22 (.ld (.slot 0) (.i .i64)) 21 (xob 23 (.callv [.b]) 20 22 (xmv 24 23 (.sc 24 true (xad 25 3 2 (xoa 26 (.ldN (.slot 0) 2) 25 (xoa 27 (.call 163 [.b]) 26 .nil))) 27 28 false (xmv 6 28 .nil))))))))) (.seq (.reg 8 false (xoi 30 (.bin .eql) 11 2 (xmv 29 30 .nil))) (.cond (.t 29) (.seq (.reg 9 true (xad 31 1 2 (xoa 32 (.ld (.slot 0) (.i .i64)) 31 (xad 33 2 2 (xoa 34 (.ld (.slot 0) (.i .i64)) 33 (xad 35 1 5 (.op none (.st (.slot 1)) [(.t 35),(.t 32)] (xad 36 2 5 (.op none (.st (.slot 1)) [(.t 36),(.t 34)] .nil))))))))) (.reg 10 false (xmv 37 1 (xad 38 2 2 (xoa 39 (.ld (.slot 0) (.i .i64)) 38 (xob 40 (.callv [.b]) 37 39 (xmv 41 40 (.sc 41 true (xad 42 1 2 (xoa 43 (.ld (.slot 0) (.i .i64)) 42 (xoa 44 (.call 164 [.b]) 43 .nil))) 44 45 false (xmv 6 45 .nil))))))))) (.seq (.reg 11 false (xoi 47 (.bin .eql) 11 3 (xmv 46 47 .nil))) (.cond (.t 46) .skip (.seq (.reg 12 false (xoi 49 (.bin .eql) 11 4 (xmv 48 49 .nil))) (.cond (.t 48) (.seq (.reg 13 true (xad 50 1 2 (xoa 51 (.ld (.slot 0) (.i .i64)) 50 (xad 52 2 2 (xoa 53 (.ld (.slot 0) (.i .i64)) 52 (xad 54 3 2 (xoa 55 (.ldN (.slot 0) 2) 54 (xad 56 6 2 (xoa 57 (.ldN (.slot 0) 2) 56 (xad 58 1 5 (.op none (.st (.slot 1)) [(.t 58),(.t 51)] (xad 59 2 5 (.op none (.st (.slot 1)) [(.t 59),(.t 53)] (xad 60 3 5 (.op none (.stN (.slot 1) 2) [(.t 60),(.t 55)] (xad 61 6 5 (.op none (.stN (.slot 1) 2) [(.t 61),(.t 57)] .nil))))))))))))))))) (.reg 14 false (xmv 62 1 (xad 63 2 2 (xoa 64 (.ld (.slot 0) (.i .i64)) 63 (xob 65 (.callv [.b]) 62 64 (xmv 66 65 (.sc 66 true (xad 67 1 2 (xoa 68 (.ld (.slot 0) (.i .i64)) 67 (xoa 69 (.call 164 [.b]) 68 .nil))) 69 70 false (xmv 71 70 (.sc 71 true (xad 72 3 2 (xoa 73 (.ldN (.slot 0) 2) 72 (xoa 74 (.call 163 [.b]) 73 .nil))) 74 75 false (xmv 76 75 (.sc 76 true (xad 77 6 2 (xoa 78 (.ldN (.slot 0) 2) 77 (xoa 79 (.call 163 [.b]) 78 .nil))) 79 80 false (xmv 6 80 .nil))))))))))))) (.seq (.reg 15 false (xoi 82 (.bin .eql) 11 5 (xmv 81 82 .nil))) (.cond (.t 81) (.seq (.reg 16 true (xad 83 1 2 (xoa 84 (.ld (.slot 0) (.i .i64)) 83 (xad 85 3 2 (xoa 86 (.ldN (.slot 0) 2) 85 (xad 87 5 2 (xoa 88 (.ld (.slot 0) (.i .i64)) 87 (xad 89 6 2 (xoa 90 (.ldN (.slot 0) 2) 89 (xad 91 1 5 (.op none (.st (.slot 1)) [(.t 91),(.t 84)] (xad 92 3 5 (.op none (.stN (.slot 1) 2) [(.t 92),(.t 86)] (xad 93 5 5 (.op none (.st (.slot 1)) [(.t 93),(.t 88)] (xad 94 6 5 (.op none (.stN (.slot 1) 2) [(.t 94),(.t 90)] .nil))))))))))))))))) (.reg 17 false (xad 95 1 2 (xoa 96 (.ld (.slot 0) (.i .i64)) 95 (xoa 97 (.call 164 [.b]) 96 (xmv 98 97 (.sc 98 true (xad 99 3 2 (xoa 100 (.ldN (.slot 0) 2) 99 (xoa 101 (.call 163 [.b]) 100 .nil))) 101 102 false (xmv 103 102 (.sc 103 true (xad 104 6 2 (xoa 105 (.ldN (.slot 0) 2) 104 (xoa 106 (.call 163 [.b]) 105 .nil))) 106 107 false (xmv 108 107 (.sc 108 true (xad 109 5 2 (xoa 110 (.ld (.slot 0) (.i .i64)) 109 (xoi 111 (.bin .geq) 110 0 .nil))) 111 112 false (xmv 113 112 (.sc 113 true (xad 114 5 2 (xoa 115 (.ld (.slot 0) (.i .i64)) 114 (xoi 116 (.bin .leq) 115 11 .nil))) 116 117 false (xmv 118 117 (.sc 118 true (xad 119 5 2 (xoa 120 (.ld (.slot 0) (.i .i64)) 119 (xoi 121 (.bin .gtr) 120 0 (xmv 122 121 (.sc 122 false (xad 123 6 2 (xoa 124 (.ldN (.slot 0) 2) 123 (.op (some 125) (.build ([ci0,ci0]) [(0,1)]) [(.k (.c (.int .i64 (-1))))] (xob 126 (.eqA false ([ci0,ci0])) 124 125 .nil)))) 126 127 true .nil))))) 127 128 false (xmv 6 128 .nil)))))))))))))))) (.seq (.reg 18 false (xoi 130 (.bin .eql) 11 6 (xmv 129 130 .nil))) (.cond (.t 129) (.seq (.reg 19 true (xad 131 8 2 (xoa 132 (.ld (.slot 0) (.i .i64)) 131 (xad 133 3 2 (xoa 134 (.ldN (.slot 0) 2) 133 (xad 135 6 2 (xoa 136 (.ldN (.slot 0) 2) 135 (xad 137 8 5 (.op none (.st (.slot 1)) [(.t 137),(.t 132)] (xad 138 3 5 (.op none (.stN (.slot 1) 2) [(.t 138),(.t 134)] (xad 139 6 5 (.op none (.stN (.slot 1) 2) [(.t 139),(.t 136)] .nil))))))))))))) (.reg 20 false (xad 140 8 2 (xoa 141 (.ld (.slot 0) (.i .i64)) 140 (xoi 142 (.bin .geq) 141 0 (xmv 143 142 (.sc 143 true (xad 144 3 2 (xoa 145 (.ldN (.slot 0) 2) 144 (xoa 146 (.call 163 [.b]) 145 .nil))) 146 147 false (xmv 148 147 (.sc 148 true (xad 149 6 2 (xoa 150 (.ldN (.slot 0) 2) 149 (xoa 151 (.call 163 [.b]) 150 .nil))) 151 152 false (xmv 6 152 .nil)))))))))) (.seq (.reg 4 false (.op (some 4) .mov [(.k (.c (.bool false)))] .nil)) .ret))))))))))))))) (.seq (.reg 21 false (xmv 153 6 (xmv 154 153 (.sc 154 true (xoa 155 (.ldAll (.slot 0) 9) 2 (xoa 156 (.ldAll (.slot 1) 9) 5 (xob 157 (.eqA false (List.replicate 9 ci0)) 155 156 .nil))) 157 158 false (xmv 4 158 .nil))))) .ret))))) }
def q163:Fn:={ np:=1,nt:=16,ns:=1,res:=[.t 2 .b],gc:=false,code:=(.seq (.reg 0 false (.box 1 0 (.t 0) (.op (some 2) .mov [(.k (.c (.bool false)))] .nil))) (.seq (.reg 1 false (xad 3 0 1 (xoa 4 (.ld (.slot 0) (.i .i64)) 3 (xoi 5 (.bin .eql) 4 (-1) (xmv 6 5 (.sc 6 false (xad 7 0 1 (xoa 8 (.ld (.slot 0) (.i .i64)) 7 (xoa 9 (.call 164 [.b]) 8 (xmv 10 9 (.sc 10 true (xad 11 1 1 (xoa 12 (.ld (.slot 0) (.i .i64)) 11 (xoi 13 (.bin .eql) 12 0 .nil))) 13 14 false .nil))))) 14 15 true (xmv 2 15 .nil))))))) .ret)) }
def q164:Fn:={ np:=1,nt:=9,ns:=0,res:=[.t 2 .b],gc:=false,code:=(.seq (.reg 0 false (.op (some 2) .mov [(.k (.c (.bool false)))] .nil)) (.seq (.reg 1 false (xmv 3 0 (xoi 4 (.bin .geq) 3 0 (xmv 5 4 (.sc 5 true (xmv 6 0 (xoi 7 (.bin .lss) 6 4 .nil)) 7 8 false (xmv 2 8 .nil)))))) .ret)) }
end Jq

namespace Jq
open Go
def q119:Fn:={ np:=1,nt:=8,ns:=0,res:=[.t 2 .any],gc:=false,code:=(.seq (.reg 0 false (.op (some 2) .mov [(.k (.c .nils))] .nil)) (.seq (.seq (.reg 1 false (xmv 3 0 (.op (some 4) (.eqNil false) [(.t 3),(.k (.c .nils))] .nil))) (.cond (.t 4) (.seq (.reg 2 false (.op (some 2) .mov [(.k (.c .nils))] .nil)) .ret) .skip)) (.seq (.reg 3 false (.op (some 5) (.bslice 9 0 (([]:List Cell)) []) [] (xmv 6 0 (xob 7 (.app 9 72) 5 6 (xmv 2 7 .nil))))) .ret))) }
def q155:Fn:={ np:=2,nt:=9,ns:=0,res:=[.t 4 .b],gc:=false,code:=(.seq (.reg 0 false (.op (some 4) .mov [(.k (.c (.bool false)))] .nil)) (.seq (.reg 1 false (xmv 5 0 (xmv 6 1 (xob 7 (.call 156 [(.i .i64)]) 5 6 (xoi 8 (.bin .geq) 7 0 (xmv 4 8 .nil)))))) .ret)) }
def q156_b1:IC:=(.seq (.reg 2 false (xob 9 (.bin .lss) 8 7 .nil)) (.seq (.cond (.t 9) .skip (.exit 0)) (.seq (.blk 1 (.seq (.reg 3 false (xmv 10 8 (xmv 5 10 .nil))) (.seq (.reg 4 false (xmv 11 1 (xmv 12 0 (xmv 13 5 (xob 14 (.idxS 9) 12 13 (xoa 15 (.ldN .heap 9) 14 (xob 16 (.callv [.b]) 11 15 .nil))))))) (.cond (.t 16) (.seq (.reg 5 false (xmv 17 5 (xmv 4 17 .nil))) .ret) .skip)))) (.reg 6 false (xoi 18 (.bin .add) 8 1 (xmv 8 18 .nil))))))
def q156_p1:IC:=(.seq (.reg 7 false (xmk 4 (-1) .nil)) .ret)
def q156:Fn:={ np:=2,nt:=19,ns:=0,res:=[.t 4 (.i .i64)],gc:=false,code:=(.seq (.reg 0 false (xmk 4 0 .nil)) (.seq (.seq (.reg 1 false (xmv 6 0 (xoa 7 .len 6 (xmk 8 0 .nil)))) (.blk 0 (.loop [0,1,7,8] [] [(0,[4],[]),(1,[],[])] q156_b1))) q156_p1)) }
def q195:Fn:={ np:=1,nt:=8,ns:=0,res:=[.t 2 .any],gc:=false,code:=(.seq (.reg 0 false (.op (some 2) .mov [(.k (.c .nils))] .nil)) (.seq (.seq (.reg 1 false (xmv 3 0 (.op (some 4) (.eqNil false) [(.t 3),(.k (.c .nils))] .nil))) (.cond (.t 4) (.seq (.reg 2 false (.op (some 2) .mov [(.k (.c .nils))] .nil)) .ret) .skip)) (.seq (.reg 3 false (.op (some 5) (.bslice 7 0 (([]:List Cell)) []) [] (xmv 6 0 (xob 7 (.app 7 56) 5 6 (xmv 2 7 .nil))))) .ret))) }
def q202:Fn:={ np:=1,nt:=8,ns:=0,res:=[.t 2 .any],gc:=false,code:=(.seq (.reg 0 false (.op (some 2) .mov [(.k (.c .nils))] .nil)) (.seq (.seq (.reg 1 false (xmv 3 0 (.op (some 4) (.eqNil false) [(.t 3),(.k (.c .nils))] .nil))) (.cond (.t 4) (.seq (.reg 2 false (.op (some 2) .mov [(.k (.c .nils))] .nil)) .ret) .skip)) (.seq (.reg 3 false (.op (some 5) (.bslice 1 0 (([]:List Cell)) []) [] (xmv 6 0 (xob 7 (.app 1 1) 5 6 (xmv 2 7 .nil))))) .ret))) }
def q203:Fn:={ np:=1,nt:=8,ns:=0,res:=[.t 2 .any],gc:=false,code:=(.seq (.reg 0 false (.op (some 2) .mov [(.k (.c .nils))] .nil)) (.seq (.seq (.reg 1 false (xmv 3 0 (.op (some 4) (.eqNil false) [(.t 3),(.k (.c .nils))] .nil))) (.cond (.t 4) (.seq (.reg 2 false (.op (some 2) .mov [(.k (.c .nils))] .nil)) .ret) .skip)) (.seq (.reg 3 false (.op (some 5) (.bslice 1 0 (([]:List Cell)) []) [] (xmv 6 0 (xob 7 (.app 1 8) 5 6 (xmv 2 7 .nil))))) .ret))) }
end Jq

namespace Jq
open Go
end Jq

namespace Jq
open Go
end Jq

namespace Jq
open Go
structure q156_In (E:Env):Prop where
 fn:E.fn 156=some q156
structure q155_In (E:Env):Prop where
 fn:E.fn 155=some q155
 c156:q156_In E
structure q119_In (E:Env):Prop where
 fn:E.fn 119=some q119
structure q202_In (E:Env):Prop where
 fn:E.fn 202=some q202
structure q203_In (E:Env):Prop where
 fn:E.fn 203=some q203
structure q195_In (E:Env):Prop where
 fn:E.fn 195=some q195
end Jq

namespace Jq
open Go
structure q158_In (E:Env):Prop where
 fn:E.fn 158=some q158
structure q164_In (E:Env):Prop where
 fn:E.fn 164=some q164
structure q163_In (E:Env):Prop where
 fn:E.fn 163=some q163
 c164:q164_In E
structure q159_In (E:Env):Prop where
 fn:E.fn 159=some q159
 c163:q163_In E
 c164:q164_In E
end Jq

namespace Jq
open Go
def q148_b1:IC:=(.seq (.reg 2 false (xob 8 (.bin .lss) 7 6 .nil)) (.seq (.cond (.t 8) .skip (.exit 0)) (.seq (.blk 1 (.seq (.reg 3 false (xmv 9 7 (xob 10 (.idxS 9) 5 7 (xoa 11 (.ldN .heap 9) 10 (.al 4 0 (List.replicate 9 ci0) (xmv 3 9 (.op none (.stAll (.slot 0) 9) [(.t 4),(.t 11)] .nil))))))) (.seq (.reg 4 false (xad 12 0 4 (xoa 13 (.ld (.slot 0) (.i .i64)) 12 (xoi 14 (.bin .eql) 13 6 (xmv 15 14 (.sc 15 true (xad 16 8 4 (xoa 17 (.ld (.slot 0) (.i .i64)) 16 (xoi 18 (.bin .lss) 17 1 (xmv 19 18 (.sc 19 false (xad 20 8 4 (xoa 21 (.ld (.slot 0) (.i .i64)) 20 (xmv 22 0 (xoa 23 .len 22 (xmv 24 3 (xob 25 (.bin .sub) 23 24 (xoi 26 (.bin .sub) 25 1 (xob 27 (.bin .gtr) 21 26 .nil)))))))) 27 28 true .nil))))) 28 29 false .nil)))))) (.cond (.t 29) (.seq (.reg 5 false (.op (some 2) .mov [(.k (.c (.bool false)))] .nil)) .ret) .skip)))) (.reg 6 false (xoi 30 (.bin .add) 7 1 (xmv 7 30 .nil))))))
def q148_p1:IC:=(.seq (.reg 7 false (.op (some 2) .mov [(.k (.c (.bool true)))] .nil)) .ret)
def q148:Fn:={ np:=1,nt:=31,ns:=1,res:=[.t 2 .b],gc:=false,code:=(.seq (.reg 0 false (.op (some 2) .mov [(.k (.c (.bool false)))] .nil)) (.seq (.seq (.reg 1 false (xmv 5 0 (xoa 6 .len 5 (xmk 7 0 .nil)))) (.blk 0 (.loop [0,5,6,7] [] [(0,[2],[]),(1,[],[])] q148_b1))) q148_p1)) }
end Jq

namespace Jq
open Go
structure q148_In (E:Env):Prop where
 fn:E.fn 148=some q148
end Jq

namespace Jq
open Go
structure q113_In (E:Env):Prop where
 fn:E.fn 113=some q113
structure q108_In (E:Env):Prop where
 fn:E.fn 108=some q108
structure q124_In (E:Env):Prop where
 fn:E.fn 124=some q124
structure q114_In (E:Env):Prop where
 fn:E.fn 114=some q114
 c108:q108_In E
 c124:q124_In E
 c125:q125_In E
structure q94_In (E:Env):Prop where
 fn:E.fn 94=some q94
 c113:q113_In E
 c114:q114_In E
structure q105_In (E:Env):Prop where
 fn:E.fn 105=some q105
 c113:q113_In E
structure q106_In (E:Env):Prop where
 fn:E.fn 106=some q106
 c105:q105_In E
 c113:q113_In E
 c114:q114_In E
 c124:q124_In E
structure q102_In (E:Env):Prop where
 fn:E.fn 102=some q102
structure q200_In (E:Env):Prop where
 fn:E.fn 200=some q200
structure q201_In (E:Env):Prop where
 fn:E.fn 201=some q201
 c159:q159_In E
structure q188_In (E:Env):Prop where
 fn:E.fn 188=some q188
 c102:q102_In E
 c148:q148_In E
 c155:q155_In E
 c158:q158_In E
 c200:q200_In E
 c201:q201_In E
end Jq

namespace Jq
open Go
end Jq

namespace Jq
open Go
def q17:Fn:={ np:=2,nt:=10,ns:=0,res:=[.t 4 .b],gc:=false,code:=(.seq (.reg 0 false (.op (some 4) .mov [(.k (.c (.bool false)))] .nil)) (.seq (.reg 1 false (xmv 5 0 (xmv 6 1 (xoa 7 (.call 19 [(.i .u64)]) 6 (xob 8 (.bin .and) 5 7 (.op (some 9) (.bin .neq) [(.t 8),(.k (.c (.int .u64 0)))] (xmv 4 9 .nil))))))) .ret)) }
def q18:Fn:={ np:=2,nt:=9,ns:=0,res:=[.t 4 (.i .u64)],gc:=false,code:=(.seq (.reg 0 false (.op (some 4) .mov [(.k (.c (.int .u64 0)))] .nil)) (.seq (.reg 1 false (xmv 5 0 (xmv 6 1 (xoa 7 (.call 19 [(.i .u64)]) 6 (xob 8 (.bin .or) 5 7 (xmv 4 8 .nil)))))) .ret)) }
def q19:Fn:={ np:=1,nt:=12,ns:=0,res:=[.t 2 (.i .u64)],gc:=false,code:=(.seq (.reg 0 false (.op (some 2) .mov [(.k (.c (.int .u64 0)))] .nil)) (.seq (.seq (.reg 1 false (xmv 3 0 (xoi 4 (.bin .lss) 3 0 (xmv 5 4 (.sc 5 false (xmv 6 0 (xoi 7 (.bin .geq) 6 64 .nil)) 7 8 true .nil))))) (.cond (.t 8) (.seq (.reg 2 false (.op (some 2) .mov [(.k (.c (.int .u64 0)))] .nil)) .ret) .skip)) (.seq (.reg 3 false (xmv 9 0 (xoa 10 (.conv .u64) 9 (.op (some 11) (.bin .shl) [(.k (.c (.int .u64 1))),(.t 10)] (xmv 2 11 .nil))))) .ret))) }
def q32_b1:IC:=(.seq (.seq (.reg 2 false (xmv 4 0 (.op (some 5) (.bin .neq) [(.t 4),(.k (.c (.int .u64 0)))] .nil))) (.cond (.t 5) .skip (.exit 0))) (.seq (.blk 1 (.reg 4 false (xmv 10 3 (xmv 11 0 (xoa 12 (.call 38 [(.i .i64)]) 11 (xoa 13 (.lit 1 1 ([ci0]) [(0,1)]) 12 (xob 14 (.app 1 8) 10 13 (xmv 3 14 .nil)))))))) (.reg 3 false (xmv 6 0 (xmv 7 0 (.op (some 8) (.bin .sub) [(.t 7),(.k (.c (.int .u64 1)))] (xob 9 (.bin .and) 6 8 (xmv 0 9 .nil))))))))
def q32_p1:IC:=(.seq (.reg 5 false (xmv 15 3 (xmv 2 15 .nil))) .ret)
def q32:Fn:={ np:=1,nt:=16,ns:=0,res:=[.t 2 .any],gc:=false,code:=(.seq (.reg 0 false (.op (some 2) .mov [(.k (.c .nils))] .nil)) (.seq (.reg 1 false (.op (some 3) .mov [(.k (.c .nils))] .nil)) (.seq (.blk 0 (.loop [0,3] [] [(1,[3],[])] q32_b1)) q32_p1))) }
def q38:Fn:={ np:=1,nt:=7,ns:=0,res:=[.t 2 (.i .i64)],gc:=false,code:=(.seq (.reg 0 false (xmk 2 0 .nil)) (.seq (.seq (.reg 1 false (xmv 3 0 (.op (some 4) (.bin .eql) [(.t 3),(.k (.c (.int .u64 0)))] .nil))) (.cond (.t 4) (.seq (.reg 2 false (xmk 2 (-1) .nil)) .ret) .skip)) (.seq (.reg 3 false (xmv 5 0 (xoa 6 (.call 42 [(.i .i64)]) 5 (xmv 2 6 .nil)))) .ret))) }
end Jq

namespace Jq
open Go
structure q19_In (E:Env):Prop where
 fn:E.fn 19=some q19
structure q18_In (E:Env):Prop where
 fn:E.fn 18=some q18
 c19:q19_In E
structure q17_In (E:Env):Prop where
 fn:E.fn 17=some q17
 c19:q19_In E
structure q38_In (E:Env):Prop where
 fn:E.fn 38=some q38
 c42:q42_In E
structure q32_In (E:Env):Prop where
 fn:E.fn 32=some q32
 c38:q38_In E
end Jq

namespace Jq
open Go
end Jq

namespace Jq
open Go
structure q109_In (E:Env):Prop where
 fn:E.fn 109=some q109
 c108:q108_In E
structure q80_In (E:Env):Prop where
 fn:E.fn 80=some q80
end Jq

namespace Jq
open Go
def q46:Fn:={ np:=1,nt:=5,ns:=0,res:=[.t 2 .s],gc:=false,code:=(.seq (.reg 0 false (.op (some 2) .mov [(.k (.c (.str (ByteArray.mk #[]))))] .nil)) (.seq (.reg 1 false (xmv 3 0 (xoi 4 (.call 47 [.s]) 3 10 (xmv 2 4 .nil)))) .ret)) }
def q47:Fn:={ np:=2,nt:=54,ns:=0,res:=[.t 4 .s],gc:=true,code:=(.seq (.reg 0 false (.op (some 4) .mov [(.k (.c (.str (ByteArray.mk #[]))))] .nil)) (.seq (.seq (.reg 1 false (xmv 10 1 (xoi 11 (.bin .eql) 10 10 .nil))) (.cond (.t 11) (.seq (.seq (.reg 2 false (xmv 12 0 (.op (some 13) (.bin .leq) [(.k (.c (.int .i64 0))),(.t 12)] (xmv 14 13 (.sc 14 true (xmv 15 0 (xoi 16 (.bin .lss) 15 100 .nil)) 16 17 false .nil))))) (.cond (.t 17) (.seq (.reg 3 false (xmv 18 0 (xoa 19 (.call 48 [.s]) 18 (xmv 4 19 .nil)))) .ret) .skip)) (.seq (.reg 4 false (.op (some 5) (.allocH (List.replicate 24 (Cell.int .u8 0))) [] .nil)) (.seq (.reg 5 false (xmv 20 0 (xoa 21 (.conv .u64) 20 (xmv 6 21 .nil)))) (.seq (.seq (.reg 6 false (xmv 22 0 (xoi 23 (.bin .lss) 22 0 .nil))) (.cond (.t 23) (.reg 7 false (xmv 24 6 (xoa 25 (.un .neg) 24 (xmv 6 25 .nil)))) .skip)) (.seq (.reg 8 false (xmv 26 6 (xoa 27 (.call 49 [(.i .i64)]) 26 (xmv 7 27 .nil)))) (.seq (.reg 9 false (xmv 28 7 (.op (some 29) (.bin .add) [(.k (.c (.int .i64 1))),(.t 28)] (.op (some 30) (.slcA 24 1 true true) [(.t 5),(.k (.c (.int .i64 1))),(.t 29)] (xmv 31 6 (xob 32 (.call 50 []) 30 31 .nil)))))) (.seq (.seq (.reg 10 false (xmv 33 0 (xoi 34 (.bin .lss) 33 0 .nil))) (.cond (.t 34) (.seq (.reg 11 false (xoi 35 (.idxA 24 1) 5 0 (.op none (.st .heap) [(.t 35),(.k (.c (.int .u8 45)))] .nil))) (.seq (.reg 12 false (xmv 36 7 (.op (some 37) (.bin .add) [(.k (.c (.int .i64 1))),(.t 36)] (xob 38 (.slcA 24 1 false true) 5 37 (xoa 39 .b2s 38 (xmv 4 39 .nil)))))) .ret)) .skip)) (.seq (.reg 13 false (xmv 40 7 (.op (some 41) (.bin .add) [(.k (.c (.int .i64 1))),(.t 40)] (.op (some 42) (.slcA 24 1 true true) [(.t 5),(.k (.c (.int .i64 1))),(.t 41)] (xoa 43 .b2s 42 (xmv 4 43 .nil)))))) .ret)))))))) .skip)) (.seq (.reg 14 false (xmv 45 0 (xoa 46 (.conv .u64) 45 (xmv 47 1 (xmv 48 0 (xoi 49 (.bin .lss) 48 0 (.op (some 50) (.call 51 [.any,.s]) [(.k (.c .nils)),(.t 46),(.t 47),(.t 49),(.k (.c (.bool false)))] (xmv 44 50 (xoa 51 (.ext 0) 44 (xoa 52 (.ext 1) 44 (xmv 8 51 (xmv 9 52 .nil)))))))))))) (.seq (.reg 15 false (xmv 53 9 (xmv 4 53 .nil))) .ret)))) }
def q48:Fn:={ np:=1,nt:=15,ns:=0,res:=[.t 2 .s],gc:=false,code:=(.seq (.reg 0 false (.op (some 2) .mov [(.k (.c (.str (ByteArray.mk #[]))))] .nil)) (.seq (.seq (.reg 1 false (xmv 3 0 (xoi 4 (.bin .lss) 3 10 .nil))) (.cond (.t 4) (.seq (.reg 2 false (xmv 5 0 (xmv 6 0 (xoi 7 (.bin .add) 6 1 (.op (some 8) (.slcStr true true) [(.k (.c (.str (ByteArray.mk #[48,49,50,51,52,53,54,55,56,57,97,98,99,100,101,102,103,104,105,106,107,108,109,110,111,112,113,114,115,116,117,118,119,120,121,122])))),(.t 5),(.t 7)] (xmv 2 8 .nil)))))) .ret) .skip)) (.seq (.reg 3 false (xmv 9 0 (xoi 10 (.bin .mul) 9 2 (xmv 11 0 (xoi 12 (.bin .mul) 11 2 (xoi 13 (.bin .add) 12 2 (.op (some 14) (.slcStr true true) [(.k (.c (.str (ByteArray.mk #[48,48,48,49,48,50,48,51,48,52,48,53,48,54,48,55,48,56,48,57,49,48,49,49,49,50,49,51,49,52,49,53,49,54,49,55,49,56,49,57,50,48,50,49,50,50,50,51,50,52,50,53,50,54,50,55,50,56,50,57,51,48,51,49,51,50,51,51,51,52,51,53,51,54,51,55,51,56,51,57,52,48,52,49,52,50,52,51,52,52,52,53,52,54,52,55,52,56,52,57,53,48,53,49,53,50,53,51,53,52,53,53,53,54,53,55,53,56,53,57,54,48,54,49,54,50,54,51,54,52,54,53,54,54,54,55,54,56,54,57,55,48,55,49,55,50,55,51,55,52,55,53,55,54,55,55,55,56,55,57,56,48,56,49,56,50,56,51,56,52,56,53,56,54,56,55,56,56,56,57,57,48,57,49,57,50,57,51,57,52,57,53,57,54,57,55,57,56,57,57])))),(.t 10),(.t 13)] (xmv 2 14 .nil)))))))) .ret))) }
end Jq

namespace Jq
open Go
structure q48_In (E:Env):Prop where
 fn:E.fn 48=some q48
structure q47_In (E:Env):Prop where
 fn:E.fn 47=some q47
 c48:q48_In E
structure q46_In (E:Env):Prop where
 fn:E.fn 46=some q46
 c47:q47_In E
end Jq

namespace Jq
open Go
def q187:Fn:={ np:=0,nt:=16,ns:=2,res:=[.all (.slot 0) 0 3],gc:=false,code:=(.seq (.reg 0 false (.al 0 0 ([Cell.nils,Cell.nils,Cell.nils]) .nil)) (.seq (.reg 1 false (.op (some 2) (.build ([ci0,ci0]) [(0,1),(1,1)]) [(.k (.c (.int .i64 (-1)))),(.k (.c (.int .i64 1)))] (.al 1 1 ([ci0,ci0]) (.op none (.stAll (.slot 1) 2) [(.t 1),(.t 2)] .nil)))) (.seq (.reg 2 false (.op (some 3) (.bslice 1 2 ([Cell.int .u8 0,Cell.int .u8 0]) [(0,1),(1,1)]) [(.k (.c (.int .u8 120))),(.k (.c (.int .u8 121)))] (xoa 4 .mark 3 (.op (some 5) (.bslice 1 2 ([ci0,ci0]) [(0,1),(1,1)]) [(.k (.c (.int .i64 0))),(.k (.c (.int .i64 0)))] (xoa 6 (.ldAll (.slot 1) 2) 1 (.op (some 7) (.build (List.replicate 9 ci0) [(0,1),(2,1),(3,2)]) [(.k (.c (.int .i64 1))),(.k (.c (.int .i64 0))),(.t 6)] (.op (some 8) (.build (List.replicate 9 ci0) [(0,1),(2,1)]) [(.k (.c (.int .i64 2))),(.k (.c (.int .i64 1)))] (xob 9 (.bslice 9 2 (List.replicate 18 ci0) [(0,9),(9,9)]) 7 8 (xoa 10 (.ldAll (.slot 1) 2) 1 (.op (some 11) (.build (List.replicate 9 ci0) [(0,1),(2,1),(3,2)]) [(.k (.c (.int .i64 1))),(.k (.c (.int .i64 1))),(.t 10)] (.op (some 12) (.build (List.replicate 9 ci0) [(0,1),(2,1)]) [(.k (.c (.int .i64 2))),(.k (.c (.int .i64 0)))] (xob 13 (.bslice 9 2 (List.replicate 18 ci0) [(0,9),(9,9)]) 11 12 (xob 14 (.bslice 1 2 ([Cell.nils,Cell.nils]) [(0,1),(1,1)]) 9 13 (.op (some 15) (.build ([Cell.nils,Cell.nils,Cell.nils]) [(0,1),(1,1),(2,1)]) [(.t 4),(.t 5),(.t 14)] (.op none (.stAll (.slot 0) 3) [(.t 0),(.t 15)] .nil))))))))))))))) .ret))) }
end Jq

namespace Jq
open Go
structure q187_In (E:Env):Prop where
 fn:E.fn 187=some q187
end Jq

namespace Jq
open Go
def q261:Fn:={ np:=0,nt:=47,ns:=0,res:=[.t 0 .b],gc:=true,code:=(.seq (.reg 0 false (.op (some 0) .mov [(.k (.c (.bool false)))] .nil)) (.seq (.reg 1 false (.op (some 7) (.call 260 [.any,.b]) [(.k (.c (.str (ByteArray.mk #[116,48,32,102,48,32,102,49,46,49]))))] (xmv 6 7 (xoa 8 (.ext 0) 6 (xoa 9 (.ext 1) 6 (xmv 1 8 (xmv 2 9 .nil))))))) (.seq (.reg 2 false (.op (some 11) (.call 187 [.agg]) [] (.op (some 12) (.bslice 1 3 ([ci0,ci0,ci0]) [(0,1),(1,1),(2,1)]) [(.k (.c (.int .i64 0))),(.k (.c (.int .i64 0))),(.k (.c (.int .i64 0)))] (.op (some 13) (.call 271 [.any,(.i .i64),.b]) [(.t 11),(.k (.c (.int .i64 1))),(.t 12)] (xmv 10 13 (xoa 14 (.ext 0) 10 (xoa 15 (.ext 1) 10 (xoa 16 (.ext 2) 10 (xmv 3 14 (xmv 4 15 (xmv 5 16 .nil))))))))))) (.seq (.reg 3 false (xmv 17 2 (xmv 18 17 (.sc 18 true (xmv 19 1 (xoa 20 .len 19 (xoi 21 (.bin .eql) 20 3 .nil))) 21 22 false (xmv 23 22 (.sc 23 true (xmv 24 1 (xoi 25 (.idxS 1) 24 2 (xoa 26 (.ld .heap (.i .i64)) 25 (xoi 27 (.bin .eql) 26 13 .nil)))) 27 28 false (xmv 29 28 (.sc 29 true (.op (some 30) (.bslice 1 3 ([ci0,ci0,ci0]) [(0,1),(1,1),(2,1)]) [(.k (.c (.int .i64 0))),(.k (.c (.int .i64 4))),(.k (.c (.int .i64 13)))] (xoa 31 (.call 262 [.s]) 30 (.op (some 32) (.bin .eql) [(.t 31),(.k (.c (.str (ByteArray.mk #[116,48,32,102,48,32,102,49,46,49]))))] .nil))) 32 33 false (xmv 34 33 (.sc 34 true (xmv 35 3 (xoa 36 .len 35 (xoi 37 (.bin .eql) 36 2 .nil))) 37 38 false (xmv 39 38 (.sc 39 true (xmv 40 4 (xoi 41 (.bin .eql) 40 2 .nil)) 41 42 false (xmv 43 42 (.sc 43 true (xmv 44 5 (xoa 45 (.un .not) 44 .nil)) 45 46 false (xmv 0 46 .nil))))))))))))))) .ret)))) }
def q425_b1:IC:=(.seq (.blk 1 (.seq (.reg 7 false (xmv 33 8 (xoa 34 (.call 181 [.any]) 33 (xmv 35 9 (xoa 36 (.call 181 [.any]) 35 (xmv 11 34 (xmv 12 36 .nil))))))) (.seq (.seq (.reg 8 false (xmv 37 11 (xoa 38 .len 37 (xoi 39 (.bin .eql) 38 0 (xmv 40 39 (.sc 40 true (xmv 41 12 (xoa 42 .len 41 (xoi 43 (.bin .eql) 42 0 .nil))) 43 44 false .nil)))))) (.cond (.t 44) (.seq (.reg 9 false (xmv 45 10 (xmv 46 6 (xoa 47 .len 46 (xob 48 (.bin .geq) 45 47 (xmv 49 48 (.sc 49 true (xmv 50 10 (xmv 51 7 (xoa 52 .len 51 (xob 53 (.bin .geq) 50 52 .nil)))) 53 54 false (xmv 55 54 (.sc 55 true (xoa 56 (.ldAll (.slot 0) 3) 5 (xmv 57 1 (xmv 58 6 (.op (some 59) (.call 306 [.b]) [(.t 56),(.t 57),(.t 58)] .nil)))) 59 60 false (xmv 61 60 (.sc 61 true (xoa 62 (.ldAll (.slot 0) 3) 5 (xmv 63 1 (xmv 64 7 (.op (some 65) (.call 306 [.b]) [(.t 62),(.t 63),(.t 64)] .nil)))) 65 66 false (xmv 67 66 (.sc 67 true (.op (some 68) (.call 261 [.b]) [] .nil) 68 69 false (xmv 4 69 .nil)))))))))))))) .ret) .skip)) (.seq (.seq (.reg 10 false (xmv 70 11 (xoa 71 .len 70 (xoi 72 (.bin .gtr) 71 0 .nil)))) (.cond (.t 72) (.seq (.seq (.reg 11 true (xmv 73 10 (xmv 74 6 (xoa 75 .len 74 (xob 76 (.bin .geq) 73 75 (xmv 77 76 (.sc 77 false (xmv 78 6 (xmv 79 10 (xob 80 (.idxS 1) 78 79 (xoa 81 (.ld .heap (.i .i64)) 80 (xmv 82 11 (xoi 83 (.idxS 1) 82 0 (xoa 84 (.ld .heap (.i .i64)) 83 (xob 85 (.bin .neq) 81 84 .nil)))))))) 85 86 true .nil))))))) (.cond (.t 86) (.seq (.reg 12 false (.op (some 4) .mov [(.k (.c (.bool false)))] .nil)) .ret) .skip)) (.reg 13 false (xmv 87 8 (xmv 88 11 (xoi 89 (.idxS 1) 88 0 (xoa 90 (.ld .heap (.i .i64)) 89 (xob 91 (.call 182 [.agg,.b]) 87 90 .nil))))))) .skip)) (.seq (.reg 14 false (xmv 92 12 (xoa 93 .len 92 (xoi 94 (.bin .gtr) 93 0 .nil)))) (.cond (.t 94) (.seq (.seq (.reg 15 true (xmv 95 10 (xmv 96 7 (xoa 97 .len 96 (xob 98 (.bin .geq) 95 97 (xmv 99 98 (.sc 99 false (xmv 100 7 (xmv 101 10 (xob 102 (.idxS 1) 100 101 (xoa 103 (.ld .heap (.i .i64)) 102 (xmv 104 12 (xmv 105 12 (xoa 106 .len 105 (xoi 107 (.bin .sub) 106 1 (xob 108 (.idxS 1) 104 107 (xoa 109 (.ld .heap (.i .i64)) 108 (xob 110 (.bin .neq) 103 109 .nil))))))))))) 110 111 true .nil))))))) (.cond (.t 111) (.seq (.reg 16 false (.op (some 4) .mov [(.k (.c (.bool false)))] .nil)) .ret) .skip)) (.reg 17 false (xmv 112 9 (xmv 113 12 (xmv 114 12 (xoa 115 .len 114 (xoi 116 (.bin .sub) 115 1 (xob 117 (.idxS 1) 113 116 (xoa 118 (.ld .heap (.i .i64)) 117 (xob 119 (.call 182 [.agg,.b]) 112 118 .nil)))))))))) .skip)))))) (.reg 6 false (xmv 31 10 (xoi 32 (.bin .add) 31 1 (xmv 10 32 .nil)))))
def q425:Fn:={ np:=2,nt:=120,ns:=1,res:=[.t 4 .b],gc:=false,code:=(.seq (.reg 0 false (.op (some 4) .mov [(.k (.c (.bool false)))] .nil)) (.seq (.reg 1 false (xmv 13 0 (xoi 14 (.call 76 [.agg]) 13 12 (.al 5 0 ([Cell.nils,Cell.nils,Cell.nils]) (.op none (.stAll (.slot 0) 3) [(.t 5),(.t 14)] .nil))))) (.seq (.reg 2 false (xmv 15 1 (xoi 16 (.bin .and) 15 255 (xoi 17 (.bin .rem) 16 3 (xoi 18 (.bin .add) 17 1 (xmv 1 18 .nil)))))) (.seq (.reg 3 true (xoa 19 (.ldAll (.slot 0) 3) 5 (xmv 20 1 (xob 21 (.call 423 [.any]) 19 20 (xoa 22 (.ldAll (.slot 0) 3) 5 (xmv 23 1 (xob 24 (.call 424 [.any]) 22 23 (xmv 6 21 (xmv 7 24 .nil))))))))) (.seq (.reg 4 true (xoa 25 (.ldAll (.slot 0) 3) 5 (xmv 26 1 (xob 27 (.call 180 [.any]) 25 26 (xoa 28 (.ldAll (.slot 0) 3) 5 (xmv 29 1 (xob 30 (.call 180 [.any]) 28 29 (xmv 8 27 (xmv 9 30 .nil))))))))) (.seq (.reg 5 false (xmk 10 0 .nil)) (.blk 0 (.loop [1,5,6,7,8,9,10] [0] [(0,[4],[])] q425_b1)))))))) }
end Jq

namespace Jq
open Go
def q76:Fn:={ np:=2,nt:=9,ns:=1,res:=[.all (.slot 0) 4 3],gc:=false,code:=(.seq (.reg 0 false (.al 4 0 ([Cell.nils,Cell.nils,Cell.nils]) .nil)) (.seq (.reg 1 false (xmv 5 0 (xmv 6 1 (xob 7 (.call 97 [.agg]) 5 6 (xoa 8 (.call 101 [.agg]) 7 (.op none (.stAll (.slot 0) 3) [(.t 4),(.t 8)] .nil)))))) .ret)) }
end Jq

namespace Jq
open Go
def q97_p8:IC:=(.cond (.t 108) (.seq (.reg 35 false (xmv 113 12 (xmv 114 17 (xmv 115 15 (.op (some 116) (.build (List.replicate 9 ci0) [(0,1),(1,1),(2,1)]) [(.k (.c (.int .i64 2))),(.t 114),(.t 115)] (xoa 117 (.lit 9 1 (List.replicate 9 ci0) [(0,9)]) 116 (xob 118 (.app 9 72) 113 117 (xmv 12 118 .nil)))))))) (.reg 36 false (xmv 119 10 (xoi 120 (.bin .add) 119 1 (xmv 10 120 .nil))))) (.seq (.reg 37 false (xoi 122 (.bin .eql) 83 8 (xmv 121 122 .nil))) (.cond (.t 121) (.reg 38 false (xmv 123 12 (.op (some 124) (.build (List.replicate 9 ci0) [(0,1)]) [(.k (.c (.int .i64 3)))] (xoa 125 (.lit 9 1 (List.replicate 9 ci0) [(0,9)]) 124 (xob 126 (.app 9 72) 123 125 (xmv 12 126 .nil)))))) (.seq (.reg 39 false (xoi 128 (.bin .eql) 83 9 (xmv 127 128 .nil))) (.cond (.t 127) (.seq (.reg 40 false (xmv 129 12 (xmv 130 17 (xmv 131 15 (xoa 132 (.ldAll (.slot 2) 2) 16 (.op (some 133) (.build ([ci0,ci0]) [(0,1),(1,1)]) [(.k (.c (.int .i64 (-1)))),(.k (.c (.int .i64 1)))] (.op (some 134) (.build (List.replicate 9 ci0) [(0,1),(1,1),(2,1),(3,2),(6,2)]) [(.k (.c (.int .i64 4))),(.t 130),(.t 131),(.t 132),(.t 133)] (xoa 135 (.lit 9 1 (List.replicate 9 ci0) [(0,9)]) 134 (xob 136 (.app 9 72) 129 135 (xmv 12 136 .nil)))))))))) (.reg 41 false (xmv 137 10 (xoi 138 (.bin .add) 137 1 (xmv 10 138 .nil))))) (.seq (.reg 42 false (xoi 140 (.bin .eql) 83 10 (xmv 139 140 .nil))) (.cond (.t 139) (.reg 43 false (xmv 141 12 (xmv 142 17 (xoa 143 (.ldAll (.slot 2) 2) 16 (.op (some 144) (.build ([ci0,ci0]) [(0,1),(1,1)]) [(.k (.c (.int .i64 (-1)))),(.k (.c (.int .i64 1)))] (.op (some 145) (.build (List.replicate 9 ci0) [(0,1),(1,1),(3,2),(5,1),(6,2)]) [(.k (.c (.int .i64 5))),(.t 142),(.t 143),(.k (.c (.int .i64 6))),(.t 144)] (xoa 146 (.lit 9 1 (List.replicate 9 ci0) [(0,9)]) 145 (xob 147 (.app 9 72) 141 146 (xmv 12 147 .nil))))))))) (.seq (.reg 23 false (xmv 84 12 (xoa 85 (.ldAll (.slot 2) 2) 16 (.op (some 86) (.build ([ci0,ci0]) [(0,1)]) [(.k (.c (.int .i64 (-1))))] (.op (some 87) (.build (List.replicate 9 ci0) [(0,1),(3,2),(6,2),(8,1)]) [(.k (.c (.int .i64 6))),(.t 85),(.t 86),(.k (.c (.int .i64 1)))] (xmv 88 15 (.op (some 89) (.build ([ci0,ci0]) [(0,1),(1,1)]) [(.k (.c (.int .i64 (-1)))),(.k (.c (.int .i64 2)))] (.op (some 90) (.build (List.replicate 9 ci0) [(0,1),(2,1),(3,2)]) [(.k (.c (.int .i64 1))),(.t 88),(.t 89)] (xob 91 (.lit 9 2 (List.replicate 18 ci0) [(0,9),(9,9)]) 87 90 (xob 92 (.app 9 72) 84 91 (xmv 12 92 .nil))))))))))) (.reg 24 false (xmv 93 10 (xoi 94 (.bin .add) 93 1 (xmv 10 94 .nil))))))))))))
def q97_p7:IC:=(.cond (.t 95) (.seq (.reg 29 false (xmv 100 12 (xmv 101 15 (xoa 102 (.ldAll (.slot 2) 2) 16 (.op (some 103) (.build (List.replicate 9 ci0) [(0,1),(2,1),(3,2)]) [(.k (.c (.int .i64 1))),(.t 101),(.t 102)] (xoa 104 (.lit 9 1 (List.replicate 9 ci0) [(0,9)]) 103 (xob 105 (.app 9 72) 100 104 (xmv 12 105 .nil)))))))) (.reg 30 false (xmv 106 10 (xoi 107 (.bin .add) 106 1 (xmv 10 107 .nil))))) (.cut [1,4,5,7,8,9,10,11,12,13,15,16,17,83,108] [0,1,2] [] (.seq (.reg 31 false (xoi 109 (.bin .eql) 83 4 (xmv 108 109 .nil))) (.cond (.t 108) .skip (.seq (.reg 32 false (xoi 110 (.bin .eql) 83 5 (xmv 108 110 .nil))) (.cond (.t 108) .skip (.seq (.reg 33 false (xoi 111 (.bin .eql) 83 6 (xmv 108 111 .nil))) (.cond (.t 108) .skip (.reg 34 false (xoi 112 (.bin .eql) 83 7 (xmv 108 112 .nil))))))))) q97_p8))
def q97_p6:IC:=(.seq (.reg 21 false (xmv 79 14 (.op (some 80) (.bin .shr) [(.t 79),(.k (.c (.int .u64 11)))] (xoi 81 (.bin .and) 80 1 (xmv 17 81 .nil))))) (.seq (.reg 22 false (xmv 82 14 (xoi 83 (.bin .rem) 82 12 .nil))) (.blk 4 (.cut [1,4,5,7,8,9,10,11,12,13,15,16,17,83,95] [0,1,2] [] (.seq (.reg 25 false (xoi 96 (.bin .eql) 83 0 (xmv 95 96 .nil))) (.cond (.t 95) .skip (.seq (.reg 26 false (xoi 97 (.bin .eql) 83 1 (xmv 95 97 .nil))) (.cond (.t 95) .skip (.seq (.reg 27 false (xoi 98 (.bin .eql) 83 2 (xmv 95 98 .nil))) (.cond (.t 95) .skip (.reg 28 false (xoi 99 (.bin .eql) 83 3 (xmv 95 99 .nil))))))))) q97_p7))))
def q97_p5:IC:=(.reg 15 false (xmv 58 13 (xoi 59 (.bin .sub) 58 1 (xmv 13 59 .nil))))
def q97_b1:IC:=(.seq (.seq (.reg 14 false (xmv 51 13 (xoi 52 (.bin .gtr) 51 0 (xmv 53 52 (.sc 53 true (xmv 54 10 (xmv 55 1 (xob 56 (.bin .lss) 54 55 .nil))) 56 57 false .nil))))) (.cond (.t 57) .skip (.exit 2))) (.seq (.blk 3 (.seq (.reg 16 false (xmv 60 7 (xoa 61 (.callv [(.i .i64)]) 60 (xmv 14 61 .nil)))) (.seq (.reg 17 false (xmv 62 14 (.op (some 63) (.bin .shr) [(.t 62),(.k (.c (.int .u64 4)))] (xmv 64 9 (xob 65 (.bin .rem) 63 64 (.op (some 66) (.bin .add) [(.k (.c (.int .i64 120))),(.t 65)] (xmv 15 66 .nil))))))) (.seq (.reg 18 false (xmv 67 14 (.op (some 68) (.bin .shr) [(.t 67),(.k (.c (.int .u64 6)))] (xoi 69 (.bin .rem) 68 3 (.op (some 70) (.build ([ci0,ci0]) [(0,1),(1,1)]) [(.k (.c (.int .i64 (-1)))),(.t 69)] (.al 16 2 ([ci0,ci0]) (.op none (.stAll (.slot 2) 2) [(.t 16),(.t 70)] .nil))))))) (.cut [1,4,5,7,8,9,10,11,12,13,14,15,16] [0,1,2] [] (.seq (.reg 19 false (xmv 71 14 (.op (some 72) (.bin .shr) [(.t 71),(.k (.c (.int .u64 8)))] (xoi 73 (.bin .rem) 72 3 (xoi 74 (.bin .eql) 73 0 .nil))))) (.cond (.t 74) (.reg 20 false (xmv 75 14 (.op (some 76) (.bin .shr) [(.t 75),(.k (.c (.int .u64 10)))] (xoi 77 (.bin .and) 76 1 (xoa 78 (.build ([ci0,ci0]) [(0,1)]) 77 (.op none (.stAll (.slot 2) 2) [(.t 16),(.t 78)] .nil)))))) .skip)) q97_p6))))) q97_p5))
def q97_p4:IC:=(.reg 44 false (xad 148 2 5 (xoa 149 (.ld (.slot 1) .any) 148 (xmv 150 12 (xoa 151 (.lit 1 1 ([Cell.nils]) [(0,1)]) 150 (xob 152 (.app 1 24) 149 151 (xad 153 2 5 (.op none (.st (.slot 1)) [(.t 153),(.t 152)] .nil))))))))
def q97_p3:IC:=(.reg 11 false (xmv 45 11 (xoi 46 (.bin .add) 45 1 (xmv 11 46 .nil))))
def q97_b2:IC:=(.seq (.seq (.reg 10 false (xmv 42 11 (xmv 43 8 (xob 44 (.bin .lss) 42 43 .nil)))) (.cond (.t 44) .skip (.exit 0))) (.seq (.blk 1 (.seq (.reg 12 false (.op (some 12) .mov [(.k (.c .nils))] .nil)) (.seq (.seq (.reg 13 false (xmv 47 7 (xoa 48 (.callv [(.i .i64)]) 47 (xoi 49 (.bin .rem) 48 3 (xoi 50 (.bin .add) 49 1 (xmv 13 50 .nil)))))) (.blk 2 (.loop [1,4,5,7,8,9,10,11,12,13] [0,1] [(3,[1,4,5,7,8,9,10,11,12],[0,1])] q97_b1))) q97_p4))) q97_p3))
def q97_p2:IC:=(.seq (.seq (.reg 45 false (xmv 154 7 (xoa 155 (.callv [(.i .i64)]) 154 (xmv 18 155 .nil)))) (.seq (.reg 46 false (xmv 156 18 (xoi 157 (.bin .rem) 156 3 (xoi 158 (.bin .eql) 157 0 .nil)))) (.cond (.t 158) (.reg 47 false (xmv 159 18 (xoi 160 (.bin .quo) 159 3 (xoi 161 (.bin .rem) 160 2 (xoi 162 (.bin .add) 161 1 (xmv 163 18 (.op (some 164) (.bin .shr) [(.t 163),(.k (.c (.int .u64 3)))] (xoi 165 (.bin .and) 164 1 (xmv 166 18 (.op (some 167) (.bin .shr) [(.t 166),(.k (.c (.int .u64 4)))] (xoi 168 (.bin .and) 167 1 (.op (some 169) (.build ([ci0,ci0,ci0,ci0]) [(0,1),(1,1),(3,1)]) [(.k (.c (.int .i64 0))),(.t 165),(.t 168)] (xoa 170 (.bslice 4 1 ([ci0,ci0,ci0,ci0]) [(0,4)]) 169 (xmv 171 18 (.op (some 172) (.bin .shr) [(.t 171),(.k (.c (.int .u64 5)))] (xoi 173 (.bin .rem) 172 3 (.op (some 174) (.build ([ci0,ci0,ci0,ci0]) [(0,1),(2,1),(3,1)]) [(.k (.c (.int .i64 (-1)))),(.k (.c (.int .i64 120))),(.t 173)] (xmv 175 18 (.op (some 176) (.bin .shr) [(.t 175),(.k (.c (.int .u64 7)))] (xoi 177 (.bin .and) 176 1 (.op (some 178) (.build ([ci0,ci0,ci0,ci0]) [(0,1),(1,1),(3,1)]) [(.k (.c (.int .i64 1))),(.k (.c (.int .i64 0))),(.t 177)] (xob 179 (.bslice 4 2 (List.replicate 8 ci0) [(0,4),(4,4)]) 174 178 (xob 180 (.bslice 1 2 ([Cell.nils,Cell.nils]) [(0,1),(1,1)]) 170 179 (xob 181 (.build ([ci0,Cell.nils]) [(0,1),(1,1)]) 162 180 (xad 182 3 5 (.op none (.stN (.slot 1) 2) [(.t 182),(.t 181)] .nil)))))))))))))))))))))))))) .skip))) (.seq (.reg 48 false (xoa 183 (.ldAll (.slot 1) 5) 5 (.op none (.stAll (.slot 0) 5) [(.t 4),(.t 183)] .nil))) .ret))
def q97_p1:IC:=(.seq (.reg 8 false (xmk 10 0 .nil)) (.seq (.seq (.reg 9 false (xmk 11 0 .nil)) (.blk 0 (.loop [1,4,5,7,8,9,10,11] [0,1] [(1,[4,5,7],[0,1])] q97_b2))) q97_p2))
def q97:Fn:={ np:=2,nt:=184,ns:=3,res:=[.all (.slot 0) 4 5],gc:=false,code:=(.seq (.reg 0 false (xoa 2 .boxH 0 (.al 4 0 ([Cell.str (ByteArray.mk #[]),Cell.nils,Cell.nils,ci0,Cell.nils]) .nil))) (.seq (.reg 1 false (.op (some 19) (.build ([Cell.str (ByteArray.mk #[]),Cell.nils,Cell.nils,ci0,Cell.nils]) [(0,1)]) [(.k (.c (.str (ByteArray.mk #[116]))))] (.al 5 1 ([Cell.str (ByteArray.mk #[]),Cell.nils,Cell.nils,ci0,Cell.nils]) (.op none (.stAll (.slot 1) 5) [(.t 5),(.t 19)] .nil)))) (.seq (.reg 2 false (.op (some 6) (.allocH ([ci0])) [] (.op none (.st .heap) [(.t 6),(.k (.c (.int .i64 0)))] .nil))) (.seq (.reg 3 false (xob 20 (.mkfn 115) 6 2 (xmv 7 20 .nil))) (.seq (.reg 4 false (xmv 21 7 (xoa 22 (.callv [(.i .i64)]) 21 (xoi 23 (.bin .rem) 22 2 (xoi 24 (.bin .add) 23 2 (xmv 8 24 .nil)))))) (.seq (.reg 5 false (xmv 25 7 (xoa 26 (.callv [(.i .i64)]) 25 (xoi 27 (.bin .rem) 26 2 (xoi 28 (.bin .add) 27 2 (xmv 9 28 .nil)))))) (.cut [1,4,5,7,8,9] [0,1] [] (.seq (.reg 6 false (xmv 29 7 (xoa 30 (.callv [(.i .i64)]) 29 (xoi 31 (.bin .rem) 30 4 (xoi 32 (.bin .eql) 31 0 .nil))))) (.cond (.t 32) (.reg 7 true (xad 33 1 5 (xoa 34 (.ld (.slot 1) .any) 33 (xmv 35 7 (xoa 36 (.callv [(.i .i64)]) 35 (xoi 37 (.bin .rem) 36 3 (.op (some 38) (.build ([ci0,ci0]) [(0,1),(1,1)]) [(.k (.c (.int .i64 120))),(.t 37)] (xoa 39 (.lit 2 1 ([ci0,ci0]) [(0,2)]) 38 (xob 40 (.app 2 16) 34 39 (xad 41 1 5 (.op none (.st (.slot 1)) [(.t 41),(.t 40)] .nil))))))))))) .skip)) q97_p1))))))) }
def q115:Fn:={ np:=2,nt:=15,ns:=0,res:=[.t 2 (.i .i64)],gc:=false,code:=(.seq (.reg 0 false (xmk 2 0 .nil)) (.seq (.reg 1 false (xoa 3 (.ld .heap (.i .i64)) 0 (xoi 4 (.bin .add) 3 1 (.op none (.st .heap) [(.t 0),(.t 4)] .nil)))) (.seq (.seq (.reg 2 false (xoa 5 (.ld .heap (.i .i64)) 0 (xoa 6 (.ld .heap .any) 1 (xoa 7 .len 6 (xob 8 (.bin .gtr) 5 7 .nil))))) (.cond (.t 8) (.seq (.reg 3 false (xmk 2 0 .nil)) .ret) .skip)) (.seq (.reg 4 false (xoa 9 (.ld .heap .any) 1 (xoa 10 (.ld .heap (.i .i64)) 0 (xoi 11 (.bin .sub) 10 1 (xob 12 (.idxS 1) 9 11 (xoa 13 (.ld .heap (.i .i64)) 12 (xoi 14 (.bin .and) 13 65535 (xmv 2 14 .nil)))))))) .ret)))) }
end Jq

namespace Jq
open Go
structure q115_In (E:Env):Prop where
 fn:E.fn 115=some q115
structure q97_In (E:Env):Prop where
 fn:E.fn 97=some q97
 c115:q115_In E
end Jq

namespace Jq
open Go
end Jq

namespace Jq
open Go
end Jq

namespace Jq
open Go
def q93:Fn:={ np:=3,nt:=81,ns:=0,res:=[.t 6 (.i .i64),.t 7 .b],gc:=false,code:=(.seq (.reg 0 false (xmk 6 0 (.op (some 7) .mov [(.k (.c (.bool false)))] .nil))) (.seq (.reg 1 false (xmv 10 2 (xoa 11 (.conv .u64) 10 (.op (some 12) (.bin .rem) [(.t 11),(.k (.c (.int .u64 64)))] (xmv 8 12 .nil))))) (.seq (.reg 2 false (.op (some 9) .mov [(.k (.c (.bool false)))] .nil)) (.seq (.seq (.reg 3 false (xmv 13 0 .nil)) (.blk 0 (.seq (.reg 5 false (xoi 15 (.bin .eql) 13 1 (xmv 14 15 .nil))) (.cond (.t 14) (.seq (.reg 6 false (xmv 16 1 (xoa 17 (.conv .u64) 16 (xmv 18 2 (xoa 19 (.conv .u64) 18 (xob 20 (.bin .add) 17 19 (xoa 21 (.conv .i64) 20 (xmv 6 21 (.op (some 7) .mov [(.k (.c (.bool true)))] .nil))))))))) .ret) (.seq (.reg 7 false (xoi 23 (.bin .eql) 13 2 (xmv 22 23 .nil))) (.cond (.t 22) (.seq (.reg 8 false (xmv 24 1 (xoa 25 (.conv .u64) 24 (xmv 26 2 (xoa 27 (.conv .u64) 26 (xob 28 (.bin .sub) 25 27 (xoa 29 (.conv .i64) 28 (xmv 6 29 (.op (some 7) .mov [(.k (.c (.bool true)))] .nil))))))))) .ret) (.seq (.reg 9 false (xoi 31 (.bin .eql) 13 3 (xmv 30 31 .nil))) (.cond (.t 30) (.seq (.reg 10 false (xmv 32 1 (xoa 33 (.conv .u64) 32 (xmv 34 2 (xoa 35 (.conv .u64) 34 (xob 36 (.bin .mul) 33 35 (xoa 37 (.conv .i64) 36 (xmv 6 37 (.op (some 7) .mov [(.k (.c (.bool true)))] .nil))))))))) .ret) (.seq (.reg 11 false (xoi 39 (.bin .eql) 13 4 (xmv 38 39 .nil))) (.cond (.t 38) (.seq (.reg 12 false (xmv 40 1 (xmv 41 2 (xob 42 (.bin .and) 40 41 (xmv 6 42 (.op (some 7) .mov [(.k (.c (.bool true)))] .nil)))))) .ret) (.seq (.reg 13 false (xoi 44 (.bin .eql) 13 5 (xmv 43 44 .nil))) (.cond (.t 43) (.seq (.reg 14 false (xmv 45 1 (xmv 46 2 (xob 47 (.bin .or) 45 46 (xmv 6 47 (.op (some 7) .mov [(.k (.c (.bool true)))] .nil)))))) .ret) (.seq (.reg 15 false (xoi 49 (.bin .eql) 13 6 (xmv 48 49 .nil))) (.cond (.t 48) (.seq (.reg 16 false (xmv 50 1 (xmv 51 2 (xob 52 (.bin .xor) 50 51 (xmv 6 52 (.op (some 7) .mov [(.k (.c (.bool true)))] .nil)))))) .ret) (.seq (.reg 17 false (xoi 54 (.bin .eql) 13 7 (xmv 53 54 .nil))) (.cond (.t 53) (.seq (.reg 18 false (xmv 55 1 (xoa 56 (.conv .u64) 55 (xmv 57 8 (xob 58 (.bin .shl) 56 57 (xoa 59 (.conv .i64) 58 (xmv 6 59 (.op (some 7) .mov [(.k (.c (.bool true)))] .nil)))))))) .ret) (.seq (.reg 19 false (xoi 61 (.bin .eql) 13 8 (xmv 60 61 .nil))) (.cond (.t 60) (.seq (.reg 20 false (xmv 62 1 (xmv 63 8 (xob 64 (.bin .shr) 62 63 (xmv 6 64 (.op (some 7) .mov [(.k (.c (.bool true)))] .nil)))))) .ret) (.seq (.reg 21 false (xoi 66 (.bin .eql) 13 9 (xmv 65 66 .nil))) (.cond (.t 65) (.reg 22 false (xmv 67 1 (xmv 68 2 (xob 69 (.bin .eql) 67 68 (xmv 9 69 .nil))))) (.seq (.reg 23 false (xoi 71 (.bin .eql) 13 10 (xmv 70 71 .nil))) (.cond (.t 70) (.reg 24 false (xmv 72 1 (xmv 73 2 (xob 74 (.bin .neq) 72 73 (xmv 9 74 .nil))))) (.seq (.reg 25 false (xoi 76 (.bin .eql) 13 11 (xmv 75 76 .nil))) (.cond (.t 75) (.reg 26 false (xmv 77 1 (xmv 78 2 (xob 79 (.bin .lss) 77 78 (xmv 9 79 .nil))))) (.seq (.reg 4 false (xmk 6 0 (.op (some 7) .mov [(.k (.c (.bool false)))] .nil))) .ret))))))))))))))))))))))))) (.seq (.seq (.reg 27 false (xmv 80 9 .nil)) (.cond (.t 80) (.seq (.reg 28 false (xmk 6 1 (.op (some 7) .mov [(.k (.c (.bool true)))] .nil))) .ret) .skip)) (.seq (.reg 29 false (xmk 6 0 (.op (some 7) .mov [(.k (.c (.bool true)))] .nil))) .ret)))))) }
def q121_b1:IC:=(.seq (.seq (.reg 3 false (xmv 11 4 (xad 12 1 1 (xoa 13 (.ld (.slot 0) .any) 12 (xoa 14 .len 13 (xob 15 (.bin .lss) 11 14 .nil)))))) (.cond (.t 15) .skip (.exit 0))) (.seq (.blk 1 (.reg 5 false (xad 18 1 1 (xoa 19 (.ld (.slot 0) .any) 18 (xmv 20 4 (xob 21 (.idxS 2) 19 20 (xad 22 0 21 (xoa 23 (.ld .heap (.i .i64)) 22 (xoi 24 (.bin .and) 23 255 (xob 25 (.idxA 256 1) 3 24 (.op none (.st (.slot 1)) [(.t 25),(.k (.c (.bool true)))] .nil))))))))))) (.reg 4 false (xmv 16 4 (xoi 17 (.bin .add) 16 1 (xmv 4 17 .nil))))))
def q121_b2:IC:=(.seq (.seq (.reg 10 false (xmv 33 6 (xad 34 2 1 (xoa 35 (.ld (.slot 0) .any) 34 (xmv 36 5 (xob 37 (.idxS 1) 35 36 (xoa 38 (.ld .heap .any) 37 (xoa 39 .len 38 (xob 40 (.bin .lss) 33 39 .nil))))))))) (.cond (.t 40) .skip (.exit 4))) (.seq (.blk 5 (.reg 12 false (xad 43 2 1 (xoa 44 (.ld (.slot 0) .any) 43 (xmv 45 5 (xob 46 (.idxS 1) 44 45 (xoa 47 (.ld .heap .any) 46 (xmv 48 6 (xob 49 (.idxS 9) 47 48 (xad 50 2 49 (xoa 51 (.ld .heap (.i .i64)) 50 (xoi 52 (.bin .and) 51 255 (xob 53 (.idxA 256 1) 3 52 (.op none (.st (.slot 1)) [(.t 53),(.k (.c (.bool true)))] .nil)))))))))))))) (.reg 11 false (xmv 41 6 (xoi 42 (.bin .add) 41 1 (xmv 6 42 .nil))))))
def q121_p3:IC:=(.reg 8 false (xmv 31 5 (xoi 32 (.bin .add) 31 1 (xmv 5 32 .nil))))
def q121_b3:IC:=(.seq (.seq (.reg 7 false (xmv 26 5 (xad 27 2 1 (xoa 28 (.ld (.slot 0) .any) 27 (xoa 29 .len 28 (xob 30 (.bin .lss) 26 29 .nil)))))) (.cond (.t 30) .skip (.exit 2))) (.seq (.blk 3 (.seq (.reg 9 false (xmk 6 0 .nil)) (.blk 4 (.loop [1,3,5,6] [0,1] [(5,[1,3,5],[0,1])] q121_b2)))) q121_p3))
def q121_b4:IC:=(.seq (.seq (.reg 17 false (xmv 62 8 (xad 63 3 1 (xad 64 1 63 (xoa 65 (.ld (.slot 0) .any) 64 (xmv 66 7 (xob 67 (.idxS 1) 65 66 (xoa 68 (.ld .heap .any) 67 (xoa 69 .len 68 (xob 70 (.bin .lss) 62 69 .nil)))))))))) (.cond (.t 70) .skip (.exit 8))) (.seq (.blk 9 (.reg 19 false (xad 73 3 1 (xad 74 1 73 (xoa 75 (.ld (.slot 0) .any) 74 (xmv 76 7 (xob 77 (.idxS 1) 75 76 (xoa 78 (.ld .heap .any) 77 (xmv 79 8 (xob 80 (.idxS 4) 78 79 (xad 81 2 80 (xoa 82 (.ld .heap (.i .i64)) 81 (xoi 83 (.bin .and) 82 255 (xob 84 (.idxA 256 1) 3 83 (.op none (.st (.slot 1)) [(.t 84),(.k (.c (.bool true)))] .nil))))))))))))))) (.reg 18 false (xmv 71 8 (xoi 72 (.bin .add) 71 1 (xmv 8 72 .nil))))))
def q121_p5:IC:=(.reg 15 false (xmv 60 7 (xoi 61 (.bin .add) 60 1 (xmv 7 61 .nil))))
def q121_b5:IC:=(.seq (.seq (.reg 14 false (xmv 54 7 (xad 55 3 1 (xad 56 1 55 (xoa 57 (.ld (.slot 0) .any) 56 (xoa 58 .len 57 (xob 59 (.bin .lss) 54 58 .nil))))))) (.cond (.t 59) .skip (.exit 6))) (.seq (.blk 7 (.seq (.reg 16 false (xmk 8 0 .nil)) (.blk 8 (.loop [1,3,7,8] [0,1] [(9,[1,3,7],[0,1])] q121_b4)))) q121_p5))
def q121_b6:IC:=(.seq (.seq (.reg 22 false (xmv 85 10 (.op (some 86) (.bin .leq) [(.t 85),(.k (.c (.int .i32 122)))] .nil))) (.cond (.t 86) .skip (.exit 10))) (.seq (.blk 11 (.seq (.reg 24 false (xmv 89 10 (xob 90 (.idxA 256 1) 3 89 (xoa 91 (.ld (.slot 1) .b) 90 .nil)))) (.cond (.t 91) (.reg 25 false (xmv 92 9 (xmv 93 10 (xoa 94 (.conv .u8) 93 (xoa 95 (.lit 1 1 ([Cell.int .u8 0]) [(0,1)]) 94 (xob 96 (.app 1 1) 92 95 (xmv 9 96 .nil))))))) .skip))) (.reg 23 false (xmv 87 10 (.op (some 88) (.bin .add) [(.t 87),(.k (.c (.int .i32 1)))] (xmv 10 88 .nil))))))
def q121_p6:IC:=(.seq (.reg 26 false (xmv 97 9 (xmv 2 97 .nil))) .ret)
def q121_p4:IC:=(.seq (.reg 20 false (.op (some 9) .mov [(.k (.c .nils))] .nil)) (.seq (.seq (.reg 21 false (.op (some 10) .mov [(.k (.c (.int .i32 97)))] .nil)) (.blk 10 (.loop [3,9,10] [1] [(11,[9],[])] q121_b6))) q121_p6))
def q121_p2:IC:=(.seq (.seq (.reg 13 false (xmk 7 0 .nil)) (.blk 6 (.loop [1,3,7] [0,1] [(7,[3],[1])] q121_b5))) q121_p4)
def q121_p1:IC:=(.seq (.seq (.reg 6 false (xmk 5 0 .nil)) (.blk 2 (.loop [1,3,5] [0,1] [(3,[1,3],[0,1])] q121_b3))) q121_p2)
def q121:Fn:={ np:=1,nt:=98,ns:=2,res:=[.t 2 .any],gc:=false,code:=(.seq (.reg 0 false (.box 1 0 (.t 0) (.op (some 2) .mov [(.k (.c .nils))] .nil))) (.seq (.reg 1 false (.al 3 1 (List.replicate 256 (Cell.bool false)) .nil)) (.seq (.seq (.reg 2 false (xmk 4 0 .nil)) (.blk 0 (.loop [1,3,4] [0,1] [(1,[1,3],[0,1])] q121_b1))) q121_p1))) }
end Jq

namespace Jq
open Go
structure q121_In (E:Env):Prop where
 fn:E.fn 121=some q121
structure q93_In (E:Env):Prop where
 fn:E.fn 93=some q93
end Jq

namespace Jq
open Go
def q81:Fn:={ np:=3,nt:=49,ns:=4,res:=[.all (.slot 2) 6 9,.t 7 .b],gc:=false,code:=(.seq (.reg 0 false (.box 3 0 (.t 0) (.box 5 1 (.t 2) (.al 6 2 (List.replicate 9 ci0) (.op (some 7) .mov [(.k (.c (.bool false)))] .nil))))) (.seq (.seq (.reg 1 true (xoa 9 (.ldAll (.slot 0) 3) 3 (xmv 10 1 (xob 11 (.qcall 110 [.b]) 9 10 (xoa 12 (.un .not) 11 (xmv 13 12 (.sc 13 false (xad 14 0 5 (xoa 15 (.ld (.slot 1) (.i .i64)) 14 (xoi 16 (.bin .lss) 15 0 .nil))) 16 17 true (xmv 18 17 (.sc 18 false (xad 19 0 5 (xoa 20 (.ld (.slot 1) (.i .i64)) 19 (xad 21 2 3 (xoa 22 (.ld (.slot 0) .any) 21 (xmv 23 1 (xob 24 (.idxS 1) 22 23 (xoa 25 (.ld .heap .any) 24 (xoa 26 .len 25 (xob 27 (.bin .geq) 20 26 .nil))))))))) 27 28 true .nil))))))))) (.cond (.t 28) (.seq (.reg 2 false (.op (some 29) (.build (List.replicate 9 ci0) []) [] (.op none (.stAll (.slot 2) 9) [(.t 6),(.t 29)] (.op (some 7) .mov [(.k (.c (.bool false)))] .nil)))) .ret) .skip)) (.seq (.reg 3 true (xad 30 2 3 (xoa 31 (.ld (.slot 0) .any) 30 (xmv 32 1 (xob 33 (.idxS 1) 31 32 (xoa 34 (.ld .heap .any) 33 (xad 35 0 5 (xoa 36 (.ld (.slot 1) (.i .i64)) 35 (xob 37 (.idxS 9) 34 36 (xoa 38 (.ldN .heap 9) 37 (.al 8 3 (List.replicate 9 ci0) (.op none (.stAll (.slot 3) 9) [(.t 8),(.t 38)] .nil)))))))))))) (.seq (.seq (.reg 4 false (xad 39 0 8 (xoa 40 (.ld (.slot 3) (.i .i64)) 39 (xoi 41 (.bin .eql) 40 5 (xmv 42 41 (.sc 42 false (xad 43 0 8 (xoa 44 (.ld (.slot 3) (.i .i64)) 43 (xoi 45 (.bin .eql) 44 6 .nil))) 45 46 true .nil)))))) (.cond (.t 46) (.seq (.reg 5 false (.op (some 47) (.build (List.replicate 9 ci0) []) [] (.op none (.stAll (.slot 2) 9) [(.t 6),(.t 47)] (.op (some 7) .mov [(.k (.c (.bool false)))] .nil)))) .ret) .skip)) (.seq (.reg 6 false (xoa 48 (.ldAll (.slot 3) 9) 8 (.op none (.stAll (.slot 2) 9) [(.t 6),(.t 48)] (.op (some 7) .mov [(.k (.c (.bool true)))] .nil)))) .ret))))) }
def q92:Fn:={ np:=2,nt:=20,ns:=2,res:=[.t 4 (.i .i64)],gc:=false,code:=(.seq (.reg 0 false (.box 2 0 (.t 0) (.box 3 1 (.t 1) (xmk 4 0 .nil)))) (.seq (.seq (.reg 1 false (xad 5 0 2 (xoa 6 (.ld (.slot 0) (.i .i64)) 5 (xoi 7 (.bin .geq) 6 0 (xmv 8 7 (.sc 8 true (xad 9 0 2 (xoa 10 (.ld (.slot 0) (.i .i64)) 9 (xoi 11 (.bin .leq) 10 3 .nil))) 11 12 false .nil)))))) (.cond (.t 12) (.seq (.reg 2 false (xad 13 0 2 (xoa 14 (.ld (.slot 0) (.i .i64)) 13 (xad 15 1 3 (xob 16 (.idxA 4 1) 15 14 (xoa 17 (.ld (.slot 1) (.i .i64)) 16 (xmv 4 17 .nil))))))) .ret) .skip)) (.seq (.reg 3 false (xad 18 1 2 (xoa 19 (.ld (.slot 0) (.i .i64)) 18 (xmv 4 19 .nil)))) .ret))) }
def q101_b1:IC:=(.seq (.seq (.reg 7 false (xmv 21 6 (xad 22 1 1 (xoa 23 (.ld (.slot 0) .any) 22 (xoa 24 .len 23 (xob 25 (.bin .lss) 21 24 .nil)))))) (.cond (.t 25) .skip (.exit 2))) (.seq (.blk 3 (.seq (.reg 9 true (xad 28 1 1 (xoa 29 (.ld (.slot 0) .any) 28 (xmv 30 6 (xob 31 (.idxS 2) 29 30 (xad 32 0 31 (xoa 33 (.ld .heap (.i .i64)) 32 (xad 34 0 3 (xoa 35 (.ld (.slot 2) .any) 34 (xmv 36 4 (xob 37 (.idxS 1) 35 36 (xoa 38 (.ld .heap (.i .u8)) 37 (xoa 39 (.conv .i64) 38 (xob 40 (.bin .eql) 33 39 .nil)))))))))))))) (.cond (.t 40) (.reg 10 false (xad 41 1 1 (xoa 42 (.ld (.slot 0) .any) 41 (xmv 43 6 (xob 44 (.idxS 2) 42 43 (xad 45 1 44 (xoa 46 (.ld .heap (.i .i64)) 45 (xmv 5 46 .nil)))))))) .skip))) (.reg 8 false (xmv 26 6 (xoi 27 (.bin .add) 26 1 (xmv 6 27 .nil))))))
def q101_p3:IC:=(.reg 11 false (xad 47 1 3 (xoa 48 (.ld (.slot 2) .any) 47 (xmv 49 5 (xoa 50 (.lit 1 1 ([ci0]) [(0,1)]) 49 (xob 51 (.app 1 8) 48 50 (xad 52 1 3 (.op none (.st (.slot 2)) [(.t 52),(.t 51)] .nil))))))))
def q101_p2:IC:=(.reg 4 false (xmv 19 4 (xoi 20 (.bin .add) 19 1 (xmv 4 20 .nil))))
def q101_b2:IC:=(.seq (.seq (.reg 3 false (xmv 14 4 (xad 15 0 3 (xoa 16 (.ld (.slot 2) .any) 15 (xoa 17 .len 16 (xob 18 (.bin .lss) 14 17 .nil)))))) (.cond (.t 18) .skip (.exit 0))) (.seq (.blk 1 (.seq (.reg 5 false (xmk 5 0 .nil)) (.seq (.seq (.reg 6 false (xmk 6 0 .nil)) (.blk 2 (.loop [1,2,3,4,5,6] [0,1,2] [(3,[1,2,3,4,5],[0,1,2])] q101_b1))) q101_p3))) q101_p2))
def q101_b3:IC:=(.seq (.seq (.reg 17 false (xmv 60 9 (xad 61 2 1 (xoa 62 (.ld (.slot 0) .any) 61 (xmv 63 7 (xob 64 (.idxS 1) 62 63 (xoa 65 (.ld .heap .any) 64 (xoa 66 .len 65 (xob 67 (.bin .lss) 60 66 .nil))))))))) (.cond (.t 67) .skip (.exit 6))) (.seq (.blk 7 (.seq (.reg 19 false (xad 70 2 1 (xoa 71 (.ld (.slot 0) .any) 70 (xmv 72 7 (xob 73 (.idxS 1) 71 72 (xoa 74 (.ld .heap .any) 73 (xmv 75 9 (xob 76 (.idxS 9) 74 75 (xoa 77 (.ldN .heap 9) 76 (.al 10 3 (List.replicate 9 ci0) (.op none (.stAll (.slot 3) 9) [(.t 10),(.t 77)] .nil))))))))))) (.seq (.seq (.reg 20 false (xad 78 2 10 (xoa 79 (.ld (.slot 3) (.i .i64)) 78 (xoi 80 (.bin .neq) 79 0 .nil)))) (.cond (.t 80) (.reg 21 false (xoa 81 (.ldAll (.slot 2) 3) 3 (xad 82 2 10 (xoa 83 (.ld (.slot 3) (.i .i64)) 82 (xob 84 (.call 122 [(.i .i64)]) 81 83 (xad 85 2 10 (.op none (.st (.slot 3)) [(.t 85),(.t 84)] .nil))))))) .skip)) (.reg 22 false (xmv 86 8 (xoa 87 (.ldAll (.slot 3) 9) 10 (xoa 88 (.lit 9 1 (List.replicate 9 ci0) [(0,9)]) 87 (xob 89 (.app 9 72) 86 88 (xmv 8 89 .nil))))))))) (.reg 18 false (xmv 68 9 (xoi 69 (.bin .add) 68 1 (xmv 9 69 .nil))))))
def q101_p6:IC:=(.reg 23 false (xad 90 2 3 (xoa 91 (.ld (.slot 2) .any) 90 (xmv 92 8 (xoa 93 (.lit 1 1 ([Cell.nils]) [(0,1)]) 92 (xob 94 (.app 1 24) 91 93 (xad 95 2 3 (.op none (.st (.slot 2)) [(.t 95),(.t 94)] .nil))))))))
def q101_p5:IC:=(.reg 14 false (xmv 58 7 (xoi 59 (.bin .add) 58 1 (xmv 7 59 .nil))))
def q101_b4:IC:=(.seq (.seq (.reg 13 false (xmv 53 7 (xad 54 2 1 (xoa 55 (.ld (.slot 0) .any) 54 (xoa 56 .len 55 (xob 57 (.bin .lss) 53 56 .nil)))))) (.cond (.t 57) .skip (.exit 4))) (.seq (.blk 5 (.seq (.reg 15 false (.op (some 8) .mov [(.k (.c .nils))] .nil)) (.seq (.seq (.reg 16 false (xmk 9 0 .nil)) (.blk 6 (.loop [1,2,3,7,8,9] [0,1,2] [(7,[1,2,3,7,8],[0,1,2])] q101_b3))) q101_p6))) q101_p5))
def q101_p4:IC:=(.seq (.reg 24 false (xoa 96 (.ldAll (.slot 2) 3) 3 (.op none (.stAll (.slot 1) 3) [(.t 2),(.t 96)] .nil))) .ret)
def q101_p1:IC:=(.seq (.seq (.reg 12 false (xmk 7 0 .nil)) (.blk 4 (.loop [1,2,3,7] [0,1,2] [(5,[2,3],[1,2])] q101_b4))) q101_p4)
def q101:Fn:={ np:=1,nt:=97,ns:=4,res:=[.all (.slot 1) 2 3],gc:=false,code:=(.seq (.reg 0 false (.box 1 0 (.t 0) (.al 2 1 ([Cell.nils,Cell.nils,Cell.nils]) .nil))) (.seq (.reg 1 false (xoa 11 (.ldAll (.slot 0) 5) 1 (xoa 12 (.call 121 [.any]) 11 (xoa 13 (.build ([Cell.nils,Cell.nils,Cell.nils]) [(0,1)]) 12 (.al 3 2 ([Cell.nils,Cell.nils,Cell.nils]) (.op none (.stAll (.slot 2) 3) [(.t 3),(.t 13)] .nil)))))) (.seq (.seq (.reg 2 false (xmk 4 0 .nil)) (.blk 0 (.loop [1,2,3,4] [0,1,2] [(1,[1,2,3],[0,1,2])] q101_b2))) q101_p1))) }
def q104:Fn:={ np:=2,nt:=14,ns:=2,res:=[.all (.slot 1) 4 5],gc:=false,code:=(.seq (.reg 0 false (.box 2 0 (.t 0) (.al 4 1 ([ci0,ci0,ci0,ci0,ci0]) .nil))) (.seq (.seq (.reg 1 false (xoa 5 (.ldAll (.slot 0) 3) 2 (xmv 6 1 (xob 7 (.call 110 [.b]) 5 6 (xoa 8 (.un .not) 7 .nil))))) (.cond (.t 8) (.seq (.reg 2 false (.op (some 9) (.build ([ci0,ci0,ci0,ci0,ci0]) []) [] (.op none (.stAll (.slot 1) 5) [(.t 4),(.t 9)] .nil))) .ret) .skip)) (.seq (.reg 3 false (xoa 10 (.ldAll (.slot 0) 3) 2 (xmv 11 1 (.op (some 12) (.build ([ci0,ci0,ci0,ci0,ci0]) []) [] (.op (some 13) (.call 123 [.agg]) [(.t 10),(.t 11),(.t 12)] (.op none (.stAll (.slot 1) 5) [(.t 4),(.t 13)] .nil)))))) .ret))) }
def q107:Fn:={ np:=4,nt:=42,ns:=4,res:=[.all (.slot 2) 8 5],gc:=false,code:=(.seq (.reg 0 false (.box 4 0 (.t 0) (.box 6 1 (.t 2) (.al 8 2 ([ci0,ci0,ci0,ci0,ci0]) .nil)))) (.seq (.reg 1 false (xoa 12 (.ldAll (.slot 0) 3) 4 (xmv 13 1 (xoa 14 (.ldAll (.slot 1) 5) 6 (.op (some 15) (.call 81 [.agg,.b]) [(.t 12),(.t 13),(.t 14)] (xmv 11 15 (xoa 16 (.ext 0) 11 (xoa 17 (.ext 1) 11 (.al 9 3 (List.replicate 9 ci0) (.op none (.stAll (.slot 3) 9) [(.t 9),(.t 16)] (xmv 10 17 .nil))))))))))) (.seq (.seq (.reg 2 false (xmv 18 10 (xoa 19 (.un .not) 18 .nil))) (.cond (.t 19) (.seq (.reg 3 false (xoa 20 (.ldAll (.slot 1) 5) 6 (.op none (.stAll (.slot 2) 5) [(.t 8),(.t 20)] .nil))) .ret) .skip)) (.seq (.seq (.reg 4 false (xad 21 0 9 (xoa 22 (.ld (.slot 3) (.i .i64)) 21 (xoi 23 (.bin .eql) 22 2 (xmv 24 23 (.sc 24 false (xad 25 0 9 (xoa 26 (.ld (.slot 3) (.i .i64)) 25 (xoi 27 (.bin .eql) 26 4 .nil))) 27 28 true .nil)))))) (.cond (.t 28) (.reg 5 false (xad 29 1 9 (xoa 30 (.ld (.slot 3) (.i .i64)) 29 (xmv 31 3 (xad 32 1 6 (xob 33 (.idxA 4 1) 32 30 (.op none (.st (.slot 1)) [(.t 33),(.t 31)] .nil))))))) .skip)) (.seq (.reg 6 false (xad 34 0 6 (xoa 35 (.ld (.slot 1) (.i .i64)) 34 (xoi 36 (.bin .add) 35 1 (xad 37 0 6 (.op none (.st (.slot 1)) [(.t 37),(.t 36)] .nil)))))) (.seq (.reg 7 false (xoa 38 (.ldAll (.slot 0) 3) 4 (xmv 39 1 (xoa 40 (.ldAll (.slot 1) 5) 6 (.op (some 41) (.call 123 [.agg]) [(.t 38),(.t 39),(.t 40)] (.op none (.stAll (.slot 2) 5) [(.t 8),(.t 41)] .nil)))))) .ret)))))) }
def q110:Fn:={ np:=2,nt:=14,ns:=1,res:=[.t 4 .b],gc:=false,code:=(.seq (.reg 0 false (.box 2 0 (.t 0) (.op (some 4) .mov [(.k (.c (.bool false)))] .nil))) (.seq (.reg 1 false (xmv 5 1 (xoi 6 (.bin .geq) 5 0 (xmv 7 6 (.sc 7 true (xmv 8 1 (xad 9 2 2 (xoa 10 (.ld (.slot 0) .any) 9 (xoa 11 .len 10 (xob 12 (.bin .lss) 8 11 .nil))))) 12 13 false (xmv 4 13 .nil)))))) .ret)) }
def q111:Fn:={ np:=3,nt:=45,ns:=3,res:=[.all (.slot 2) 6 6],gc:=false,code:=(.seq (.reg 0 false (.box 3 0 (.t 0) (.box 4 1 (.t 1) (.al 6 2 ([ci0,ci0,ci0,ci0,ci0,ci0]) .nil)))) (.seq (.seq (.reg 1 false (xad 7 0 3 (xoa 8 (.ld (.slot 0) (.i .i64)) 7 .nil))) (.blk 0 (.seq (.reg 2 false (xoi 10 (.bin .eql) 8 1 (xmv 9 10 .nil))) (.cond (.t 9) (.seq (.reg 3 true (xad 11 2 3 (xoa 12 (.ld (.slot 0) (.i .i64)) 11 (xad 13 3 3 (xoa 14 (.ldN (.slot 0) 2) 13 (xoa 15 (.ldAll (.slot 1) 5) 4 (xob 16 (.qcall 92 [(.i .i64)]) 14 15 (.op (some 17) (.build ([ci0,ci0,ci0,ci0,ci0,ci0]) [(2,1),(3,1),(5,1)]) [(.k (.c (.int .i64 2))),(.t 12),(.t 16)] (.op none (.stAll (.slot 2) 6) [(.t 6),(.t 17)] .nil))))))))) .ret) (.seq (.reg 4 false (xoi 19 (.bin .eql) 8 2 (xmv 18 19 .nil))) (.cond (.t 18) (.seq (.reg 5 false (xad 20 2 3 (xoa 21 (.ld (.slot 0) (.i .i64)) 20 (xmv 22 2 (.op (some 23) (.build ([ci0,ci0,ci0,ci0,ci0,ci0]) [(2,1),(3,1),(4,1)]) [(.k (.c (.int .i64 1))),(.t 21),(.t 22)] (.op none (.stAll (.slot 2) 6) [(.t 6),(.t 23)] .nil)))))) .ret) (.seq (.reg 6 false (xoi 25 (.bin .eql) 8 4 (xmv 24 25 .nil))) (.cond (.t 24) (.seq (.seq (.reg 7 false (xmv 26 2 (xad 27 3 3 (xoa 28 (.ldN (.slot 0) 2) 27 (xoa 29 (.ldAll (.slot 1) 5) 4 (xob 30 (.call 92 [(.i .i64)]) 28 29 (xob 31 (.bin .eql) 26 30 .nil))))))) (.cond (.t 31) (.seq (.reg 8 true (xad 32 2 3 (xoa 33 (.ld (.slot 0) (.i .i64)) 32 (xmv 34 2 (xad 35 6 3 (xoa 36 (.ldN (.slot 0) 2) 35 (xoa 37 (.ldAll (.slot 1) 5) 4 (xob 38 (.qcall 92 [(.i .i64)]) 36 37 (.op (some 39) (.build ([ci0,ci0,ci0,ci0,ci0,ci0]) [(2,1),(3,1),(4,1),(5,1)]) [(.k (.c (.int .i64 4))),(.t 33),(.t 34),(.t 38)] (.op none (.stAll (.slot 2) 6) [(.t 6),(.t 39)] .nil)))))))))) .ret) .skip)) (.seq (.reg 9 false (xad 40 2 3 (xoa 41 (.ld (.slot 0) (.i .i64)) 40 (xmv 42 2 (.op (some 43) (.build ([ci0,ci0,ci0,ci0,ci0,ci0]) [(2,1),(3,1),(4,1)]) [(.k (.c (.int .i64 5))),(.t 41),(.t 42)] (.op none (.stAll (.slot 2) 6) [(.t 6),(.t 43)] .nil)))))) .ret)) .skip)))))))) (.seq (.reg 10 false (.op (some 44) (.build ([ci0,ci0,ci0,ci0,ci0,ci0]) [(2,1)]) [(.k (.c (.int .i64 3)))] (.op none (.stAll (.slot 2) 6) [(.t 6),(.t 44)] .nil))) .ret))) }
def q122_b1:IC:=(.seq (.seq (.reg 2 false (xmv 6 5 (xad 7 0 2 (xoa 8 (.ld (.slot 0) .any) 7 (xoa 9 .len 8 (xob 10 (.bin .lss) 6 9 .nil)))))) (.cond (.t 10) .skip (.exit 0))) (.seq (.blk 1 (.seq (.reg 4 false (xad 13 0 2 (xoa 14 (.ld (.slot 0) .any) 13 (xmv 15 5 (xob 16 (.idxS 1) 14 15 (xoa 17 (.ld .heap (.i .u8)) 16 (xoa 18 (.conv .i64) 17 (xmv 19 1 (xob 20 (.bin .eql) 18 19 .nil))))))))) (.cond (.t 20) (.seq (.reg 5 false (xmv 21 5 (xmv 4 21 .nil))) .ret) .skip))) (.reg 3 false (xmv 11 5 (xoi 12 (.bin .add) 11 1 (xmv 5 12 .nil))))))
def q122_p1:IC:=(.seq (.reg 6 false (xmk 4 (-1) .nil)) .ret)
def q122:Fn:={ np:=2,nt:=22,ns:=1,res:=[.t 4 (.i .i64)],gc:=false,code:=(.seq (.reg 0 false (.box 2 0 (.t 0) (xmk 4 0 .nil))) (.seq (.seq (.reg 1 false (xmk 5 0 .nil)) (.blk 0 (.loop [1,2,5] [0] [(0,[4],[]),(1,[],[])] q122_b1))) q122_p1)) }
def q123_b1:IC:=(.seq (.seq (.reg 1 true (xad 9 0 5 (xoa 10 (.ld (.slot 1) (.i .i64)) 9 (xad 11 2 3 (xoa 12 (.ld (.slot 0) .any) 11 (xmv 13 1 (xob 14 (.idxS 1) 12 13 (xoa 15 (.ld .heap .any) 14 (xoa 16 .len 15 (xob 17 (.bin .lss) 10 16 .nil)))))))))) (.cond (.t 17) .skip (.exit 0))) (.blk 1 (.seq (.reg 2 true (xad 18 2 3 (xoa 19 (.ld (.slot 0) .any) 18 (xmv 20 1 (xob 21 (.idxS 1) 19 20 (xoa 22 (.ld .heap .any) 21 (xad 23 0 5 (xoa 24 (.ld (.slot 1) (.i .i64)) 23 (xob 25 (.idxS 9) 22 24 (xoa 26 (.ldN .heap 9) 25 (.al 7 3 (List.replicate 9 ci0) (.op none (.stAll (.slot 3) 9) [(.t 7),(.t 26)] .nil)))))))))))) (.seq (.reg 3 false (xad 27 0 7 (xoa 28 (.ld (.slot 3) (.i .i64)) 27 .nil))) (.blk 2 (.seq (.reg 5 false (xoi 31 (.bin .eql) 28 5 (xmv 30 31 .nil))) (.cond (.t 30) (.seq (.reg 6 false (xad 32 3 7 (xoa 33 (.ldN (.slot 3) 2) 32 (xoa 34 (.ldAll (.slot 1) 5) 5 (xob 35 (.call 92 [(.i .i64)]) 33 34 (xmv 8 35 .nil)))))) (.seq (.seq (.reg 7 false (xad 36 5 7 (xoa 37 (.ld (.slot 3) (.i .i64)) 36 (xoi 38 (.bin .neq) 37 0 .nil)))) (.cond (.t 38) (.reg 8 true (xad 40 5 7 (xoa 41 (.ld (.slot 3) (.i .i64)) 40 (xmv 42 8 (xad 43 6 7 (xoa 44 (.ldN (.slot 3) 2) 43 (xoa 45 (.ldAll (.slot 1) 5) 5 (xob 46 (.qcall 92 [(.i .i64)]) 44 45 (.op (some 47) (.qcall 93 [(.i .i64),.b]) [(.t 41),(.t 42),(.t 46)] (xmv 39 47 (xoa 48 (.ext 0) 39 (xoa 49 (.ext 1) 39 (xmv 8 48 .nil))))))))))))) .skip)) (.seq (.reg 9 false (xad 50 1 7 (xoa 51 (.ld (.slot 3) (.i .i64)) 50 (xmv 52 8 (xad 53 1 5 (xob 54 (.idxA 4 1) 53 51 (.op none (.st (.slot 1)) [(.t 54),(.t 52)] .nil))))))) (.reg 10 false (xad 55 0 5 (xoa 56 (.ld (.slot 1) (.i .i64)) 55 (xoi 57 (.bin .add) 56 1 (xad 58 0 5 (.op none (.st (.slot 1)) [(.t 58),(.t 57)] .nil))))))))) (.seq (.reg 11 false (xoi 60 (.bin .eql) 28 6 (xmv 59 60 .nil))) (.cond (.t 59) (.seq (.seq (.reg 12 true (xad 61 3 7 (xoa 62 (.ldN (.slot 3) 2) 61 (xoa 63 (.ldAll (.slot 1) 5) 5 (xob 64 (.qcall 92 [(.i .i64)]) 62 63 (xad 65 6 7 (xoa 66 (.ldN (.slot 3) 2) 65 (xoa 67 (.ldAll (.slot 1) 5) 5 (xob 68 (.qcall 92 [(.i .i64)]) 66 67 (xob 69 (.bin .eql) 64 68 .nil)))))))))) (.cond (.t 69) (.reg 13 false (xad 70 0 5 (xoa 71 (.ld (.slot 1) (.i .i64)) 70 (xad 72 8 7 (xoa 73 (.ld (.slot 3) (.i .i64)) 72 (xob 74 (.bin .add) 71 73 (xad 75 0 5 (.op none (.st (.slot 1)) [(.t 75),(.t 74)] .nil)))))))) .skip)) (.reg 14 false (xad 76 0 5 (xoa 77 (.ld (.slot 1) (.i .i64)) 76 (xoi 78 (.bin .add) 77 1 (xad 79 0 5 (.op none (.st (.slot 1)) [(.t 79),(.t 78)] .nil))))))) (.seq (.reg 4 false (xoa 29 (.ldAll (.slot 1) 5) 5 (.op none (.stAll (.slot 2) 5) [(.t 6),(.t 29)] .nil))) .ret))))))))))
def q123_p1:IC:=(.seq (.reg 15 false (xoa 80 (.ldAll (.slot 1) 5) 5 (.op none (.stAll (.slot 2) 5) [(.t 6),(.t 80)] .nil))) .ret)
def q123:Fn:={ np:=3,nt:=81,ns:=4,res:=[.all (.slot 2) 6 5],gc:=false,code:=(.seq (.reg 0 false (.box 3 0 (.t 0) (.box 5 1 (.t 2) (.al 6 2 ([ci0,ci0,ci0,ci0,ci0]) .nil)))) (.seq (.blk 0 (.loop [1,3,5,6] [0,1,2] [(0,[6],[2]),(1,[5,6],[1,2])] q123_b1)) q123_p1)) }
end Jq

namespace Jq
open Go
structure q122_In (E:Env):Prop where
 fn:E.fn 122=some q122
structure q101_In (E:Env):Prop where
 fn:E.fn 101=some q101
 c121:q121_In E
 c122:q122_In E
structure q110_In (E:Env):Prop where
 fn:E.fn 110=some q110
structure q81_In (E:Env):Prop where
 fn:E.fn 81=some q81
 c110:q110_In E
structure q92_In (E:Env):Prop where
 fn:E.fn 92=some q92
structure q123_In (E:Env):Prop where
 fn:E.fn 123=some q123
 c92:q92_In E
 c93:q93_In E
structure q104_In (E:Env):Prop where
 fn:E.fn 104=some q104
 c110:q110_In E
 c123:q123_In E
structure q107_In (E:Env):Prop where
 fn:E.fn 107=some q107
 c81:q81_In E
 c123:q123_In E
structure q111_In (E:Env):Prop where
 fn:E.fn 111=some q111
 c92:q92_In E
end Jq

namespace Jq
open Go
structure q76_In (E:Env):Prop where
 fn:E.fn 76=some q76
 c97:q97_In E
 c101:q101_In E
end Jq

namespace Jq
open Go
def q180_b1:IC:=(.seq (.seq (.reg 3 false (xmv 13 6 (xad 14 1 2 (xoa 15 (.ld (.slot 0) .any) 14 (xoa 16 .len 15 (xob 17 (.bin .lss) 13 16 .nil)))))) (.cond (.t 17) .skip (.exit 0))) (.seq (.blk 1 (.reg 5 true (xmv 20 5 (xmv 21 6 (xad 22 1 2 (xoa 23 (.ld (.slot 0) .any) 22 (xmv 24 6 (xob 25 (.idxS 1) 23 24 (xoa 26 (.ld .heap (.i .i64)) 25 (xoa 27 .nilchk 20 (xad 28 4 27 (xob 29 (.idxA 4 1) 28 21 (.op none (.st .heap) [(.t 29),(.t 26)] .nil))))))))))))) (.reg 4 false (xmv 18 6 (xoi 19 (.bin .add) 18 1 (xmv 6 19 .nil))))))
def q180_b2:IC:=(.seq (.seq (.reg 7 false (xmv 30 7 (xad 31 2 2 (xoa 32 (.ld (.slot 0) .any) 31 (xoa 33 .len 32 (xob 34 (.bin .lss) 30 33 .nil)))))) (.cond (.t 34) .skip (.exit 2))) (.seq (.blk 3 (.reg 9 true (xmv 37 5 (xmv 38 7 (xoa 39 (.ldAll (.slot 0) 3) 2 (xmv 40 7 (xob 41 (.qcall 104 [.agg]) 39 40 (xoa 42 .nilchk 37 (xad 43 12 42 (xob 44 (.idxA 4 5) 43 38 (.op none (.stN .heap 5) [(.t 44),(.t 41)] .nil))))))))))) (.reg 8 false (xmv 35 7 (xoi 36 (.bin .add) 35 1 (xmv 7 36 .nil))))))
def q180_p2:IC:=(.seq (.reg 10 false (xmv 45 5 (xmv 4 45 .nil))) .ret)
def q180_p1:IC:=(.seq (.seq (.reg 6 false (xmk 7 0 .nil)) (.blk 2 (.loop [2,5,7] [0] [(3,[5],[])] q180_b2))) q180_p2)
def q180:Fn:={ np:=2,nt:=46,ns:=1,res:=[.t 4 .any],gc:=false,code:=(.seq (.reg 0 false (.box 2 0 (.t 0) (.op (some 4) .mov [(.k (.c .nilp))] .nil))) (.seq (.reg 1 false (xoa 8 (.ldAll (.slot 0) 3) 2 (xmv 9 1 (.op (some 10) (.build ([ci0,ci0,ci0,ci0]) [(0,1),(1,1),(2,1),(3,1)]) [(.k (.c (.int .i64 (-1)))),(.k (.c (.int .i64 (-1)))),(.k (.c (.int .i64 (-1)))),(.k (.c (.int .i64 (-1))))] (.op (some 11) (.build ([Cell.nils,Cell.nils,Cell.nils]++List.replicate 29 ci0++List.replicate 5 (Cell.nils)) [(0,3),(3,1),(8,4)]) [(.t 8),(.t 9),(.t 10)] (xoa 12 .boxH 11 (xmv 5 12 .nil))))))) (.seq (.seq (.reg 2 false (xmk 6 0 .nil)) (.blk 0 (.loop [2,5,6] [0] [(1,[2,5],[0])] q180_b1))) q180_p1))) }
def q181_b1:IC:=(.seq (.seq (.reg 3 false (xmv 5 4 (xoi 6 (.bin .lss) 5 24 .nil))) (.cond (.t 6) .skip (.exit 0))) (.seq (.blk 1 (.seq (.reg 5 false (xmv 9 0 (xmv 10 4 (xob 11 (.call 196 [.b]) 9 10 .nil)))) (.cond (.t 11) (.reg 6 false (xmv 12 3 (xmv 13 4 (xoa 14 (.lit 1 1 ([ci0]) [(0,1)]) 13 (xob 15 (.app 1 8) 12 14 (xmv 3 15 .nil)))))) .skip))) (.reg 4 false (xmv 7 4 (xoi 8 (.bin .add) 7 1 (xmv 4 8 .nil))))))
def q181_p1:IC:=(.seq (.reg 7 false (xmv 16 3 (xmv 2 16 .nil))) .ret)
def q181:Fn:={ np:=1,nt:=17,ns:=0,res:=[.t 2 .any],gc:=false,code:=(.seq (.reg 0 false (.op (some 2) .mov [(.k (.c .nils))] .nil)) (.seq (.reg 1 false (.op (some 3) .mov [(.k (.c .nils))] .nil)) (.seq (.seq (.reg 2 false (xmk 4 0 .nil)) (.blk 0 (.loop [0,3,4] [] [(1,[3],[])] q181_b1))) q181_p1))) }
def q182_p10:IC:=(.seq (.reg 12 true (xmv 105 0 (xmv 106 0 (xoa 107 .nilchk 106 (xad 108 36 107 (xoa 109 (.ld .heap .any) 108 (xoa 110 (.ldAll (.slot 1) 7) 7 (xoa 111 (.lit 7 1 (List.replicate 7 ci0) [(0,7)]) 110 (xob 112 (.app 7 56) 109 111 (xoa 113 .nilchk 105 (xad 114 36 113 (.op none (.st .heap) [(.t 114),(.t 112)] .nil)))))))))))) (.seq (.reg 13 false (xoa 115 (.ldAll (.slot 1) 7) 7 (.op none (.stAll (.slot 0) 7) [(.t 4),(.t 115)] (.op (some 5) .mov [(.k (.c (.bool true)))] .nil)))) .ret))
def q182_p9:IC:=(.cut [0,4,7] [0,1] [] (.reg 11 true (xmv 93 8 (xad 94 0 12 (xoa 95 (.ld (.slot 2) (.i .i64)) 94 (xad 96 1 12 (xoa 97 (.ld (.slot 2) (.i .i64)) 96 (xad 98 2 12 (xoa 99 (.ld (.slot 2) (.i .i64)) 98 (xad 100 1 7 (.op none (.st (.slot 1)) [(.t 100),(.t 93)] (xad 101 2 7 (.op none (.st (.slot 1)) [(.t 101),(.k (.c (.int .i64 6)))] (xad 102 3 7 (.op none (.st (.slot 1)) [(.t 102),(.t 95)] (xad 103 5 7 (.op none (.st (.slot 1)) [(.t 103),(.t 97)] (xad 104 6 7 (.op none (.st (.slot 1)) [(.t 104),(.t 99)] .nil)))))))))))))))))) q182_p10)
def q182_p8:IC:=(.cut [0,4,7,8,12] [0,1,2] [] (.reg 10 true (xmv 77 0 (xad 78 0 12 (xoa 79 (.ld (.slot 2) (.i .i64)) 78 (xmv 80 0 (xad 81 0 12 (xoa 82 (.ld (.slot 2) (.i .i64)) 81 (xad 83 1 12 (xoa 84 (.ld (.slot 2) (.i .i64)) 83 (xad 85 2 12 (xoa 86 (.ld (.slot 2) (.i .i64)) 85 (xoa 87 .nilchk 77 (xad 88 4 87 (xob 89 (.idxA 4 1) 88 79 (.op none (.st .heap) [(.t 89),(.t 84)] (xoa 90 .nilchk 80 (xad 91 8 90 (xob 92 (.idxA 4 1) 91 82 (.op none (.st .heap) [(.t 92),(.t 86)] .nil))))))))))))))))))) q182_p9)
def q182_p7:IC:=(.cut [0,4,7,8,12] [0,1,2] [] (.reg 9 true (xmv 52 0 (xmv 53 8 (.op (some 54) (.bslice 3 0 (([]:List Cell)) []) [] (xmv 55 0 (xmv 56 8 (xoa 57 .nilchk 55 (xad 58 32 57 (xob 59 (.idxA 4 1) 58 56 (xoa 60 (.ld0 .any) 59 (xmv 61 11 (xob 62 (.slc 3 false true) 60 61 (xob 63 (.app 3 24) 54 62 (xmv 64 0 (xmv 65 8 (xoa 66 .nilchk 64 (xad 67 32 66 (xob 68 (.idxA 4 1) 67 65 (xoa 69 (.ld0 .any) 68 (xmv 70 11 (xoi 71 (.bin .add) 70 1 (xob 72 (.slc 3 true false) 69 71 (xob 73 (.app 3 24) 63 72 (xoa 74 .nilchk 52 (xad 75 32 74 (xob 76 (.idxA 4 1) 75 53 (.op none (.st .heap) [(.t 76),(.t 73)] .nil))))))))))))))))))))))))))) q182_p8)
def q182_p6:IC:=(.cut [0,4,7,8,11,12] [0,1,2] [] (.reg 8 false (xmv 43 0 (xmv 44 8 (xoa 45 .nilchk 43 (xad 46 32 45 (xob 47 (.idxA 4 1) 46 44 (xoa 48 (.ld .heap .any) 47 (xmv 49 11 (xob 50 (.idxS 3) 48 49 (xoa 51 (.ldN .heap 3) 50 (.al 12 2 ([ci0,ci0,ci0]) (.op none (.stAll (.slot 2) 3) [(.t 12),(.t 51)] .nil)))))))))))) q182_p7)
def q182_p5:IC:=(.seq (.reg 6 false (xmv 38 10 .nil)) (.cond (.t 38) (.cut [0,4,7,8,11] [0,1] [] (.reg 7 false (xmv 39 0 (xmv 40 8 (xmv 41 9 (.op (some 42) (.call 198 [(.i .i64)]) [(.t 39),(.t 40),(.t 41)] (xmv 11 42 .nil)))))) q182_p6) .skip))
def q182_p17:IC:=(.cond (.t 177) (.reg 22 true (xmv 178 0 (xmv 179 1 (xoa 180 .nilchk 178 (xad 181 32 180 (xob 182 (.idxA 4 1) 181 179 (xoa 183 (.ld .heap .any) 182 (xmv 184 16 (xob 185 (.idxS 3) 183 184 (xad 186 1 185 (xoa 187 (.ld .heap (.i .i64)) 186 (xmv 188 0 (xmv 189 1 (xoa 190 .nilchk 188 (xad 191 32 190 (xob 192 (.idxA 4 1) 191 189 (xoa 193 (.ld .heap .any) 192 (xmv 194 16 (xob 195 (.idxS 3) 193 194 (xad 196 2 195 (xoa 197 (.ld .heap (.i .i64)) 196 (xmv 15 187 (xad 198 6 7 (.op none (.st (.slot 1)) [(.t 198),(.t 197)] .nil)))))))))))))))))))))))) .skip)
def q182_p16:IC:=(.reg 20 false (xmv 163 16 (xoi 164 (.bin .add) 163 1 (xmv 16 164 .nil))))
def q182_p15:IC:=(.seq (.blk 1 (.cut [0,1,4,6,7,13,15,16,177] [0,1,3] [] (.reg 21 true (xmv 165 0 (xmv 166 1 (xoa 167 .nilchk 165 (xad 168 32 167 (xob 169 (.idxA 4 1) 168 166 (xoa 170 (.ld .heap .any) 169 (xmv 171 16 (xob 172 (.idxS 3) 170 171 (xad 173 0 172 (xoa 174 (.ld .heap (.i .i64)) 173 (xad 175 2 13 (xoa 176 (.ld (.slot 3) (.i .i64)) 175 (xob 177 (.bin .eql) 174 176 .nil)))))))))))))) q182_p17)) q182_p16)
def q182_b1:IC:=(.cut [0,1,4,6,7,13,15,16] [0,1,3] [(1,[0,1,4,6,7,13,15],[0,1,3])] (.seq (.reg 19 false (xmv 154 16 (xmv 155 0 (xmv 156 1 (xoa 157 .nilchk 155 (xad 158 32 157 (xob 159 (.idxA 4 1) 158 156 (xoa 160 (.ld .heap .any) 159 (xoa 161 .len 160 (xob 162 (.bin .lss) 154 161 .nil)))))))))) (.cond (.t 162) .skip (.exit 0))) q182_p15)
def q182_p14:IC:=(.seq (.reg 18 false (xmk 16 0 .nil)) (.blk 0 (.loop [0,1,4,6,7,13,15,16] [0,1,3] [(1,[0,1,4,6,7,13,15],[0,1,3])] q182_b1)))
def q182_p13:IC:=(.cond (.t 138) (.cut [0,1,4,6,7,13,15] [0,1,3] [] (.reg 17 true (xmv 139 0 (xad 140 2 13 (xoa 141 (.ld (.slot 3) (.i .i64)) 140 (xoa 142 .nilchk 139 (xad 143 4 142 (xob 144 (.idxA 4 1) 143 141 (xoa 145 (.ld .heap (.i .i64)) 144 (xmv 146 0 (xad 147 2 13 (xoa 148 (.ld (.slot 3) (.i .i64)) 147 (xoa 149 .nilchk 146 (xad 150 8 149 (xob 151 (.idxA 4 1) 150 148 (xoa 152 (.ld .heap (.i .i64)) 151 (xmv 15 145 (xad 153 6 7 (.op none (.st (.slot 1)) [(.t 153),(.t 152)] .nil)))))))))))))))))) q182_p14) .skip)
def q182_p22:IC:=(.cond (.t 251) (.reg 28 true (xmv 255 0 (xmv 256 1 (.op (some 257) (.bslice 3 0 (([]:List Cell)) []) [] (xmv 258 0 (xmv 259 1 (xoa 260 .nilchk 258 (xad 261 32 260 (xob 262 (.idxA 4 1) 261 259 (xoa 263 (.ld0 .any) 262 (xob 264 (.app 3 24) 257 263 (xad 265 3 17 (xoa 266 (.ld (.slot 4) (.i .i64)) 265 (xad 267 5 17 (xoa 268 (.ld (.slot 4) (.i .i64)) 267 (xmv 269 6 (.op (some 270) (.build ([ci0,ci0,ci0]) [(0,1),(1,1),(2,1)]) [(.t 266),(.t 268),(.t 269)] (xoa 271 (.lit 3 1 ([ci0,ci0,ci0]) [(0,3)]) 270 (xob 272 (.app 3 24) 264 271 (xoa 273 .nilchk 255 (xad 274 32 273 (xob 275 (.idxA 4 1) 274 256 (.op none (.st .heap) [(.t 275),(.t 272)] .nil))))))))))))))))))))))) .skip)
def q182_p21:IC:=(.cond (.t 220) (.reg 26 true (xmv 236 0 (xad 237 3 17 (xoa 238 (.ld (.slot 4) (.i .i64)) 237 (xmv 239 0 (xad 240 3 17 (xoa 241 (.ld (.slot 4) (.i .i64)) 240 (xad 242 5 17 (xoa 243 (.ld (.slot 4) (.i .i64)) 242 (xmv 244 6 (xoa 245 .nilchk 236 (xad 246 4 245 (xob 247 (.idxA 4 1) 246 238 (.op none (.st .heap) [(.t 247),(.t 243)] (xoa 248 .nilchk 239 (xad 249 8 248 (xob 250 (.idxA 4 1) 249 241 (.op none (.st .heap) [(.t 250),(.t 244)] .nil)))))))))))))))))) (.cut [0,1,4,6,7,15,17,251] [0,1,4] [] (.reg 27 false (xad 252 2 17 (xoa 253 (.ld (.slot 4) (.i .i64)) 252 (xoi 254 (.bin .eql) 253 2 (xmv 251 254 .nil))))) q182_p22))
def q182_p23:IC:=(.seq (.reg 30 true (xmv 294 0 (xmv 295 0 (xoa 296 .nilchk 295 (xad 297 36 296 (xoa 298 (.ld .heap .any) 297 (xoa 299 (.ldAll (.slot 1) 7) 7 (xoa 300 (.lit 7 1 (List.replicate 7 ci0) [(0,7)]) 299 (xob 301 (.app 7 56) 298 300 (xoa 302 .nilchk 294 (xad 303 36 302 (.op none (.st .heap) [(.t 303),(.t 301)] .nil)))))))))))) (.seq (.reg 31 false (xoa 304 (.ldAll (.slot 1) 7) 7 (.op none (.stAll (.slot 0) 7) [(.t 4),(.t 304)] (.op (some 5) .mov [(.k (.c (.bool true)))] .nil)))) .ret))
def q182_p20:IC:=(.cut [0,4,7] [0,1] [] (.reg 29 true (xmv 276 0 (xmv 277 1 (xmv 278 0 (xoa 279 .nilchk 278 (xad 280 0 279 (xoa 281 (.ldN .heap 3) 280 (xmv 282 1 (xmv 283 0 (xmv 284 1 (xoa 285 .nilchk 283 (xad 286 12 285 (xob 287 (.idxA 4 5) 286 284 (xoa 288 (.ldN .heap 5) 287 (xmv 289 15 (.op (some 290) (.qcall 107 [.agg]) [(.t 281),(.t 282),(.t 288),(.t 289)] (xoa 291 .nilchk 276 (xad 292 12 291 (xob 293 (.idxA 4 5) 292 277 (.op none (.stN .heap 5) [(.t 293),(.t 290)] .nil)))))))))))))))))))) q182_p23)
def q182_p19:IC:=(.cut [0,1,4,7,15] [0,1] [] (.blk 2 (.cut [0,1,4,6,7,15,17,220] [0,1,4] [] (.reg 25 false (xad 221 2 17 (xoa 222 (.ld (.slot 4) (.i .i64)) 221 (xoi 223 (.bin .eql) 222 4 (xmv 224 223 (.sc 224 false (xad 225 2 17 (xoa 226 (.ld (.slot 4) (.i .i64)) 225 (xoi 227 (.bin .eql) 226 2 (xmv 228 227 (.sc 228 true (xmv 229 0 (xoa 230 .nilchk 229 (xad 231 3 230 (xoa 232 (.ld .heap (.i .i64)) 231 (xoi 233 (.bin .eql) 232 1 .nil))))) 233 234 false .nil))))) 234 235 true (xmv 220 235 .nil))))))) q182_p21)) q182_p20)
def q182_p18:IC:=(.cut [0,1,4,6,7,15,17] [0,1,4] [] (.reg 24 true (xad 208 2 17 (xoa 209 (.ld (.slot 4) (.i .i64)) 208 (xad 210 3 17 (xoa 211 (.ld (.slot 4) (.i .i64)) 210 (xad 212 4 17 (xoa 213 (.ld (.slot 4) (.i .i64)) 212 (xad 214 5 17 (xoa 215 (.ld (.slot 4) (.i .i64)) 214 (xad 216 2 7 (.op none (.st (.slot 1)) [(.t 216),(.t 209)] (xad 217 3 7 (.op none (.st (.slot 1)) [(.t 217),(.t 211)] (xad 218 4 7 (.op none (.st (.slot 1)) [(.t 218),(.t 213)] (xad 219 5 7 (.op none (.st (.slot 1)) [(.t 219),(.t 215)] .nil))))))))))))))))) q182_p19)
def q182_p12:IC:=(.cut [0,1,4,6,7,15,17] [0,1,4] [] (.reg 23 true (xoa 199 (.ldAll (.slot 3) 9) 13 (xmv 200 0 (xmv 201 1 (xoa 202 .nilchk 200 (xad 203 12 202 (xob 204 (.idxA 4 5) 203 201 (xoa 205 (.ldN .heap 5) 204 (xmv 206 15 (.op (some 207) (.qcall 111 [.agg]) [(.t 199),(.t 205),(.t 206)] (.al 17 4 ([ci0,ci0,ci0,ci0,ci0,ci0]) (.op none (.stAll (.slot 4) 6) [(.t 17),(.t 207)] .nil)))))))))))) q182_p18)
def q182_p11:IC:=(.seq (.reg 15 false (xmk 15 0 .nil)) (.cut [0,1,4,6,7,13,15] [0,1,3] [] (.cut [0,1,4,6,7,13,15,138] [0,1,3] [] (.reg 16 false (xad 131 0 13 (xoa 132 (.ld (.slot 3) (.i .i64)) 131 (xoi 133 (.bin .eql) 132 2 (xmv 134 133 (.sc 134 false (xad 135 0 13 (xoa 136 (.ld (.slot 3) (.i .i64)) 135 (xoi 137 (.bin .eql) 136 4 .nil))) 137 138 true .nil)))))) q182_p13) q182_p12))
def q182_p4:IC:=(.cut [0,1,4,6,7,13] [0,1,3] [] (.reg 14 true (xmv 117 0 (xoa 118 .nilchk 117 (xad 119 0 118 (xoa 120 (.ldN .heap 3) 119 (xmv 121 1 (xmv 122 0 (xmv 123 1 (xoa 124 .nilchk 122 (xad 125 12 124 (xob 126 (.idxA 4 5) 125 123 (xoa 127 (.ldN .heap 5) 126 (.op (some 128) (.qcall 81 [.agg,.b]) [(.t 120),(.t 121),(.t 127)] (xmv 116 128 (xoa 129 (.ext 0) 116 (xoa 130 (.ext 1) 116 (.al 13 3 (List.replicate 9 ci0) (.op none (.stAll (.slot 3) 9) [(.t 13),(.t 129)] (xmv 14 130 .nil))))))))))))))))))) q182_p11)
def q182_p3:IC:=(.cut [0,1,4,6,7] [0,1] [(0,[4,5],[0])] (.cut [0,1,4,6,7,8,9,10] [0,1] [] (.reg 5 false (xmv 32 0 (xmv 33 1 (xob 34 (.call 197 [(.i .i64),(.i .i64),.b]) 32 33 (xmv 31 34 (xoa 35 (.ext 0) 31 (xoa 36 (.ext 1) 31 (xoa 37 (.ext 2) 31 (xmv 8 35 (xmv 9 36 (xmv 10 37 .nil))))))))))) q182_p5) q182_p4)
def q182_p2:IC:=(.cut [0,1,4,6,7] [0,1] [] (.reg 4 false (xmv 28 1 (xmv 29 1 (.op (some 30) (.build (List.replicate 7 ci0) [(0,1),(1,1),(6,1)]) [(.t 28),(.t 29),(.k (.c (.int .i64 (-1))))] (.al 7 1 (List.replicate 7 ci0) (.op none (.stAll (.slot 1) 7) [(.t 7),(.t 30)] .nil)))))) q182_p3)
def q182_p1:IC:=(.cut [0,1,4,6] [0] [] (.reg 3 false (xmv 23 0 (xoa 24 .nilchk 23 (xad 25 36 24 (xoa 26 (.ld .heap .any) 25 (xoa 27 .len 26 (xmv 6 27 .nil))))))) q182_p2)
def q182:Fn:={ np:=2,nt:=305,ns:=5,res:=[.all (.slot 0) 4 7,.t 5 .b],gc:=false,code:=(.seq (.reg 0 false (.al 4 0 (List.replicate 7 ci0) (.op (some 5) .mov [(.k (.c (.bool false)))] .nil))) (.cut [0,1,4] [0] [(0,[4,5],[0])] (.seq (.reg 1 false (xmv 18 0 (xmv 19 1 (xob 20 (.call 196 [.b]) 18 19 (xoa 21 (.un .not) 20 .nil))))) (.cond (.t 21) (.seq (.reg 2 false (.op (some 22) (.build (List.replicate 7 ci0) []) [] (.op none (.stAll (.slot 0) 7) [(.t 4),(.t 22)] (.op (some 5) .mov [(.k (.c (.bool false)))] .nil)))) .ret) .skip)) q182_p1)) }
def q196:Fn:={ np:=2,nt:=67,ns:=1,res:=[.t 4 .b],gc:=false,code:=(.seq (.reg 0 false (.op (some 4) .mov [(.k (.c (.bool false)))] .nil)) (.seq (.seq (.reg 1 false (xmv 10 1 (xoi 11 (.bin .geq) 10 0 (xmv 12 11 (.sc 12 true (xmv 13 1 (xoi 14 (.bin .lss) 13 4 .nil)) 14 15 false .nil))))) (.cond (.t 15) (.seq (.reg 2 true (xmv 17 0 (xoa 18 .nilchk 17 (xad 19 0 18 (xoa 20 (.ldN .heap 3) 19 (xmv 21 1 (xmv 22 0 (xmv 23 1 (xoa 24 .nilchk 22 (xad 25 12 24 (xob 26 (.idxA 4 5) 25 23 (xoa 27 (.ldN .heap 5) 26 (.op (some 28) (.qcall 81 [.agg,.b]) [(.t 20),(.t 21),(.t 27)] (xmv 16 28 (xoa 29 (.ext 0) 16 (xoa 30 (.ext 1) 16 (.al 5 0 (List.replicate 9 ci0) (.op none (.stAll (.slot 0) 9) [(.t 5),(.t 29)] (xmv 6 30 .nil))))))))))))))))))) (.seq (.reg 3 false (xmv 31 6 (xmv 32 31 (.sc 32 true (xad 33 0 5 (xoa 34 (.ld (.slot 0) (.i .i64)) 33 (xoi 35 (.bin .neq) 34 3 (xmv 36 35 (.sc 36 true (xad 37 0 5 (xoa 38 (.ld (.slot 0) (.i .i64)) 37 (xoi 39 (.bin .neq) 38 4 .nil))) 39 40 false (xmv 41 40 (.sc 41 false (xmv 42 0 (xmv 43 1 (xoa 44 .nilchk 42 (xad 45 32 44 (xob 46 (.idxA 4 1) 45 43 (xoa 47 (.ld .heap .any) 46 (xoa 48 .len 47 (xoi 49 (.bin .eql) 48 0 .nil)))))))) 49 50 true .nil))))))) 50 51 false (xmv 4 51 .nil))))) .ret)) .skip)) (.seq (.reg 4 false (xmv 53 0 (xmv 54 1 (xob 55 (.call 197 [(.i .i64),(.i .i64),.b]) 53 54 (xmv 52 55 (xoa 56 (.ext 0) 52 (xoa 57 (.ext 1) 52 (xoa 58 (.ext 2) 52 (xmv 7 56 (xmv 8 57 (xmv 9 58 .nil))))))))))) (.seq (.reg 5 false (xmv 59 9 (xmv 60 59 (.sc 60 true (xmv 61 0 (xmv 62 7 (xmv 63 8 (.op (some 64) (.call 198 [(.i .i64)]) [(.t 61),(.t 62),(.t 63)] (xoi 65 (.bin .geq) 64 0 .nil))))) 65 66 false (xmv 4 66 .nil))))) .ret)))) }
def q197:Fn:={ np:=2,nt:=43,ns:=0,res:=[.t 4 (.i .i64),.t 5 (.i .i64),.t 6 .b],gc:=false,code:=(.seq (.reg 0 false (xmk 4 0 (xmk 5 0 (.op (some 6) .mov [(.k (.c (.bool false)))] .nil)))) (.seq (.blk 0 (.seq (.reg 1 false (xmv 8 0 (xoa 9 .nilchk 8 (xad 10 3 9 (xoa 11 (.ld .heap (.i .i64)) 10 (xoi 12 (.bin .eql) 11 2 (xmv 13 12 (.sc 13 true (xmv 14 1 (xoi 15 (.bin .geq) 14 4 .nil)) 15 16 false (xmv 17 16 (.sc 17 true (xmv 18 1 (xoi 19 (.bin .lss) 18 8 .nil)) 19 20 false (xmv 7 20 .nil))))))))))) (.cond (.t 7) (.seq (.reg 2 false (xmv 21 1 (xoi 22 (.bin .sub) 21 4 (xmv 4 22 (xmk 5 (-1) (.op (some 6) .mov [(.k (.c (.bool true)))] .nil)))))) .ret) (.seq (.reg 3 false (xmv 24 0 (xoa 25 .nilchk 24 (xad 26 3 25 (xoa 27 (.ld .heap (.i .i64)) 26 (xoi 28 (.bin .eql) 27 3 (xmv 29 28 (.sc 29 true (xmv 30 1 (xoi 31 (.bin .geq) 30 8 .nil)) 31 32 false (xmv 33 32 (.sc 33 true (xmv 34 1 (xoi 35 (.bin .lss) 34 24 .nil)) 35 36 false (xmv 23 36 .nil))))))))))) (.cond (.t 23) (.seq (.reg 4 false (xmv 37 1 (xoi 38 (.bin .sub) 37 8 (xoi 39 (.bin .quo) 38 4 (xmv 40 1 (xoi 41 (.bin .sub) 40 8 (xoi 42 (.bin .rem) 41 4 (xmv 4 39 (xmv 5 42 (.op (some 6) .mov [(.k (.c (.bool true)))] .nil)))))))))) .ret) .skip))))) (.seq (.reg 5 false (xmk 4 0 (xmk 5 0 (.op (some 6) .mov [(.k (.c (.bool false)))] .nil)))) .ret))) }
def q198_b1:IC:=(.seq (.seq (.reg 2 false (xmv 8 7 (xmv 9 0 (xmv 10 1 (xoa 11 .nilchk 9 (xad 12 32 11 (xob 13 (.idxA 4 1) 12 10 (xoa 14 (.ld .heap .any) 13 (xoa 15 .len 14 (xob 16 (.bin .lss) 8 15 .nil)))))))))) (.cond (.t 16) .skip (.exit 0))) (.seq (.blk 1 (.seq (.reg 4 false (xmv 19 2 (xoi 20 (.bin .lss) 19 0 (xmv 21 20 (.sc 21 false (xmv 22 0 (xmv 23 1 (xoa 24 .nilchk 22 (xad 25 32 24 (xob 26 (.idxA 4 1) 25 23 (xoa 27 (.ld .heap .any) 26 (xmv 28 7 (xob 29 (.idxS 3) 27 28 (xad 30 0 29 (xoa 31 (.ld .heap (.i .i64)) 30 (xmv 32 2 (xob 33 (.bin .eql) 31 32 .nil)))))))))))) 33 34 true .nil))))) (.cond (.t 34) (.seq (.reg 5 false (xmv 35 7 (xmv 6 35 .nil))) .ret) .skip))) (.reg 3 false (xmv 17 7 (xoi 18 (.bin .add) 17 1 (xmv 7 18 .nil))))))
def q198_p1:IC:=(.seq (.reg 6 false (xmk 6 (-1) .nil)) .ret)
def q198:Fn:={ np:=3,nt:=36,ns:=0,res:=[.t 6 (.i .i64)],gc:=false,code:=(.seq (.reg 0 false (xmk 6 0 .nil)) (.seq (.seq (.reg 1 false (xmk 7 0 .nil)) (.blk 0 (.loop [0,1,2,7] [] [(0,[6],[]),(1,[],[])] q198_b1))) q198_p1)) }
end Jq

namespace Jq
open Go
structure q180_In (E:Env):Prop where
 fn:E.fn 180=some q180
 c104:q104_In E
structure q197_In (E:Env):Prop where
 fn:E.fn 197=some q197
structure q198_In (E:Env):Prop where
 fn:E.fn 198=some q198
structure q196_In (E:Env):Prop where
 fn:E.fn 196=some q196
 c81:q81_In E
 c197:q197_In E
 c198:q198_In E
structure q181_In (E:Env):Prop where
 fn:E.fn 181=some q181
 c196:q196_In E
structure q182_In (E:Env):Prop where
 fn:E.fn 182=some q182
 c81:q81_In E
 c107:q107_In E
 c111:q111_In E
 c196:q196_In E
 c197:q197_In E
 c198:q198_In E
end Jq

namespace Jq
open Go
def q262_b1:IC:=(.seq (.reg 3 false (xob 9 (.bin .lss) 8 7 .nil)) (.seq (.cond (.t 9) .skip (.exit 0)) (.seq (.blk 1 (.seq (.reg 4 false (xob 10 (.idxS 1) 6 8 (xoa 11 (.ld .heap (.i .i64)) 10 (xmv 5 11 .nil)))) (.reg 5 false (xmv 12 3 (xmv 13 5 (xoa 14 (.call 167 [.s]) 13 (.op (some 15) (.lit 1 1 ([Cell.str (ByteArray.mk #[])]) [(0,1)]) [(.t 14)] (xob 16 (.app 1 16) 12 15 (xmv 3 16 .nil))))))))) (.reg 6 false (xoi 17 (.bin .add) 8 1 (xmv 8 17 .nil))))))
def q262_p1:IC:=(.seq (.reg 7 false (xmv 18 3 (.op (some 19) (.call 272 [.s]) [(.t 18),(.k (.c (.str (ByteArray.mk #[32]))))] (xmv 2 19 .nil)))) .ret)
def q262:Fn:={ np:=1,nt:=20,ns:=0,res:=[.t 2 .s],gc:=false,code:=(.seq (.reg 0 false (.op (some 2) .mov [(.k (.c (.str (ByteArray.mk #[]))))] .nil)) (.seq (.reg 1 false (.op (some 3) .mov [(.k (.c .nils))] .nil)) (.seq (.seq (.reg 2 false (xmv 6 0 (xoa 7 .len 6 (xmk 8 0 .nil)))) (.blk 0 (.loop [3,6,7,8] [] [(1,[3],[])] q262_b1))) q262_p1))) }
def q271:Fn:={ np:=3,nt:=24,ns:=1,res:=[.t 6 .any,.t 7 (.i .i64),.t 8 .b],gc:=false,code:=(.seq (.reg 0 false (.box 3 0 (.t 0) (.op (some 6) .mov [(.k (.c .nils))] (xmk 7 0 (.op (some 8) .mov [(.k (.c (.bool false)))] .nil))))) (.seq (.reg 1 false (xoa 11 (.ldAll (.slot 0) 3) 3 (xmv 12 1 (xmv 13 2 (.op (some 14) (.call 278 [.any,(.i .i64)]) [(.t 11),(.t 12),(.t 13)] (xmv 10 14 (xoa 15 (.ext 0) 10 (xoa 16 (.ext 1) 10 (xmv 9 15 (xmv 7 16 .nil)))))))))) (.seq (.seq (.reg 2 false (xmv 17 9 (.op (some 18) (.eqNil false) [(.t 17),(.k (.c .nilp))] .nil))) (.cond (.t 18) (.seq (.reg 3 false (.op (some 6) .mov [(.k (.c .nils))] (xmk 7 0 (.op (some 8) .mov [(.k (.c (.bool false)))] .nil)))) .ret) .skip)) (.seq (.reg 4 false (xmv 19 9 (xoa 20 (.call 175 [.any]) 19 (xmv 21 7 (xmv 22 9 (xoa 23 (.call 174 [.b]) 22 (xmv 6 20 (xmv 7 21 (xmv 8 23 .nil))))))))) .ret)))) }
def q278_b1:IC:=(.seq (.reg 5 false (xob 25 (.bin .lss) 24 23 .nil)) (.seq (.cond (.t 25) .skip (.exit 0)) (.seq (.blk 1 (.seq (.reg 6 false (xmv 26 24 (xob 27 (.idxS 1) 22 24 (xoa 28 (.ld .heap (.i .i64)) 27 (xmv 10 26 (xmv 11 28 .nil)))))) (.seq (.reg 7 false (xmv 30 8 (xmv 31 11 (xob 32 (.call 173 [.agg,.b]) 30 31 (xmv 29 32 (xoa 33 (.ext 0) 29 (xoa 34 (.ext 1) 29 (.al 12 1 (List.replicate 7 ci0) (.op none (.stAll (.slot 1) 7) [(.t 12),(.t 33)] (xmv 13 34 .nil)))))))))) (.seq (.reg 8 false (xmv 35 13 (xoa 36 (.un .not) 35 .nil))) (.cond (.t 36) (.seq (.reg 9 false (xmv 37 8 (xmv 38 10 (xmv 6 37 (xmv 7 38 .nil))))) .ret) .skip))))) (.reg 10 false (xoi 39 (.bin .add) 24 1 (xmv 24 39 .nil))))))
def q278_p1:IC:=(.seq (.reg 11 false (xmv 40 8 (xmv 41 2 (xoa 42 .len 41 (xmv 6 40 (xmv 7 42 .nil)))))) .ret)
def q278:Fn:={ np:=3,nt:=43,ns:=2,res:=[.t 6 .any,.t 7 (.i .i64)],gc:=false,code:=(.seq (.reg 0 false (.box 3 0 (.t 0) (.op (some 6) .mov [(.k (.c .nilp))] (xmk 7 0 .nil)))) (.seq (.reg 1 false (xoa 15 (.ldAll (.slot 0) 3) 3 (xmv 16 1 (xob 17 (.call 171 [.any,(.i .i64)]) 15 16 (xmv 14 17 (xoa 18 (.ext 0) 14 (xoa 19 (.ext 1) 14 (xmv 8 18 (xmv 9 19 .nil))))))))) (.seq (.seq (.reg 2 false (xmv 20 9 (xoi 21 (.bin .neq) 20 0 .nil))) (.cond (.t 21) (.seq (.reg 3 false (.op (some 6) .mov [(.k (.c .nilp))] (xmk 7 0 .nil))) .ret) .skip)) (.seq (.seq (.reg 4 false (xmv 22 2 (xoa 23 .len 22 (xmk 24 0 .nil)))) (.blk 0 (.loop [2,8,22,23,24] [] [(0,[6,7],[]),(1,[2,8],[])] q278_b1))) q278_p1)))) }
def q306:Fn:={ np:=3,nt:=28,ns:=1,res:=[.t 6 .b],gc:=false,code:=(.seq (.reg 0 false (.box 3 0 (.t 0) (.op (some 6) .mov [(.k (.c (.bool false)))] .nil))) (.seq (.reg 1 false (xoa 10 (.ldAll (.slot 0) 3) 3 (xmv 11 1 (xmv 12 2 (.op (some 13) (.call 278 [.any,(.i .i64)]) [(.t 10),(.t 11),(.t 12)] (xmv 9 13 (xoa 14 (.ext 0) 9 (xoa 15 (.ext 1) 9 (xmv 7 14 (xmv 8 15 .nil)))))))))) (.seq (.reg 2 false (xmv 16 7 (.op (some 17) (.eqNil true) [(.t 16),(.k (.c .nilp))] (xmv 18 17 (.sc 18 true (xmv 19 8 (xmv 20 2 (xoa 21 .len 20 (xob 22 (.bin .eql) 19 21 .nil)))) 22 23 false (xmv 24 23 (.sc 24 true (xmv 25 7 (xoa 26 (.call 174 [.b]) 25 .nil)) 26 27 false (xmv 6 27 .nil)))))))) .ret))) }
def q423:Fn:={ np:=2,nt:=8,ns:=1,res:=[.t 4 .any],gc:=false,code:=(.seq (.reg 0 false (.box 2 0 (.t 0) (.op (some 4) .mov [(.k (.c .nils))] .nil))) (.seq (.reg 1 false (xoa 5 (.ldAll (.slot 0) 3) 2 (xmv 6 1 (.op (some 7) (.call 429 [.any]) [(.t 5),(.t 6),(.k (.c (.fn 428 [])))] (xmv 4 7 .nil))))) .ret)) }
def q424:Fn:={ np:=2,nt:=8,ns:=1,res:=[.t 4 .any],gc:=false,code:=(.seq (.reg 0 false (.box 2 0 (.t 0) (.op (some 4) .mov [(.k (.c .nils))] .nil))) (.seq (.reg 1 false (xoa 5 (.ldAll (.slot 0) 3) 2 (xmv 6 1 (.op (some 7) (.call 429 [.any]) [(.t 5),(.t 6),(.k (.c (.fn 430 [])))] (xmv 4 7 .nil))))) .ret)) }
def q428:Fn:={ np:=1,nt:=6,ns:=0,res:=[.t 2 (.i .i64)],gc:=false,code:=(.seq (.reg 0 false (xmk 2 0 .nil)) (.seq (.reg 1 false (xmv 3 0 (xoi 4 (.idxS 1) 3 0 (xoa 5 (.ld .heap (.i .i64)) 4 (xmv 2 5 .nil))))) .ret)) }
def q429_b1:IC:=(.seq (.seq (.reg 5 false (xmv 19 7 (xoa 20 (.call 174 [.b]) 19 (xoa 21 (.un .not) 20 .nil)))) (.cond (.t 21) .skip (.exit 0))) (.blk 1 (.seq (.reg 6 false (xmv 22 2 (xmv 23 7 (xoa 24 (.call 172 [(.i .u64)]) 23 (xoa 25 (.call 32 [.any]) 24 (xob 26 (.callv [(.i .i64)]) 22 25 (xmv 10 26 .nil))))))) (.seq (.reg 7 false (xmv 27 7 (xmv 28 10 (xob 29 (.call 173 [.agg,.b]) 27 28 .nil)))) (.reg 8 false (xmv 30 9 (xmv 31 10 (xoa 32 (.lit 1 1 ([ci0]) [(0,1)]) 31 (xob 33 (.app 1 8) 30 32 (xmv 9 33 .nil))))))))))
def q429_p1:IC:=(.seq (.reg 9 false (xmv 34 9 (xmv 6 34 .nil))) .ret)
def q429:Fn:={ np:=3,nt:=35,ns:=1,res:=[.t 6 .any],gc:=false,code:=(.seq (.reg 0 false (.box 3 0 (.t 0) (.op (some 6) .mov [(.k (.c .nils))] .nil))) (.seq (.reg 1 false (xoa 12 (.ldAll (.slot 0) 3) 3 (xmv 13 1 (xob 14 (.call 171 [.any,(.i .i64)]) 12 13 (xmv 11 14 (xoa 15 (.ext 0) 11 (xoa 16 (.ext 1) 11 (xmv 7 15 (xmv 8 16 .nil))))))))) (.seq (.seq (.reg 2 false (xmv 17 8 (xoi 18 (.bin .neq) 17 0 .nil))) (.cond (.t 18) (.seq (.reg 3 false (.op (some 6) .mov [(.k (.c .nils))] .nil)) .ret) .skip)) (.seq (.reg 4 false (.op (some 9) .mov [(.k (.c .nils))] .nil)) (.seq (.blk 0 (.loop [2,7,9] [] [(1,[9],[])] q429_b1)) q429_p1))))) }
def q430:Fn:={ np:=1,nt:=9,ns:=0,res:=[.t 2 (.i .i64)],gc:=false,code:=(.seq (.reg 0 false (xmk 2 0 .nil)) (.seq (.reg 1 false (xmv 3 0 (xmv 4 0 (xoa 5 .len 4 (xoi 6 (.bin .sub) 5 1 (xob 7 (.idxS 1) 3 6 (xoa 8 (.ld .heap (.i .i64)) 7 (xmv 2 8 .nil)))))))) .ret)) }
end Jq

namespace Jq
open Go
def q272_b1:IC:=(.seq (.reg 12 false (xob 42 (.bin .lss) 41 40 .nil)) (.seq (.cond (.t 42) .skip (.exit 1)) (.seq (.blk 2 (.seq (.reg 13 false (xob 43 (.idxS 1) 39 41 (xoa 44 (.ld .heap .s) 43 (xmv 7 44 .nil)))) (.seq (.seq (.reg 14 false (xmv 45 7 (xoa 46 .lenStr 45 (xmv 47 5 (.op (some 48) (.bin .sub) [(.k (.c (.int .i64 9223372036854775807))),(.t 47)] (xob 49 (.bin .gtr) 46 48 .nil)))))) (.cond (.t 49) (.reg 15 false (.op (some 50) .trap [] (.op none .trap [] .nil))) .skip)) (.reg 16 false (xmv 51 5 (xmv 52 7 (xoa 53 .lenStr 52 (xob 54 (.bin .add) 51 53 (xmv 5 54 .nil))))))))) (.reg 17 false (xoi 55 (.bin .add) 41 1 (xmv 41 55 .nil))))))
def q272_b2:IC:=(.seq (.reg 22 false (xob 66 (.bin .lss) 65 64 .nil)) (.seq (.cond (.t 66) .skip (.exit 3)) (.seq (.blk 4 (.seq (.reg 23 false (xob 67 (.idxS 1) 63 65 (xoa 68 (.ld .heap .s) 67 (xmv 10 68 .nil)))) (.seq (.reg 24 false (xmv 69 1 (xob 70 (.call 280 [(.i .i64),.any]) 8 69 .nil))) (.reg 25 false (xmv 71 10 (xob 72 (.call 280 [(.i .i64),.any]) 8 71 .nil)))))) (.reg 26 false (xoi 73 (.bin .add) 65 1 (xmv 65 73 .nil))))))
def q272_p3:IC:=(.seq (.reg 27 false (xoa 74 (.call 281 [.s]) 8 (xmv 4 74 .nil))) .ret)
def q272_p2:IC:=(.seq (.reg 18 false (.op (some 8) (.allocH ([Cell.nilp,Cell.nils])) [] .nil)) (.seq (.reg 19 false (xmv 56 5 (xob 57 (.call 279 []) 8 56 .nil))) (.seq (.reg 20 false (xmv 58 0 (xoi 59 (.idxS 1) 58 0 (xoa 60 (.ld .heap .s) 59 (xob 61 (.call 280 [(.i .i64),.any]) 8 60 .nil))))) (.seq (.seq (.reg 21 false (xmv 62 0 (xoi 63 (.slc 1 true false) 62 1 (xoa 64 .len 63 (xmk 65 0 .nil))))) (.blk 3 (.loop [1,8,63,64,65] [] [(4,[8],[])] q272_b2))) q272_p3))))
def q272_p1:IC:=(.seq (.seq (.reg 11 false (xmv 39 0 (xoa 40 .len 39 (xmk 41 0 .nil)))) (.blk 1 (.loop [0,1,5,39,40,41] [] [(2,[0,1,5],[])] q272_b1))) q272_p2)
def q272:Fn:={ np:=2,nt:=75,ns:=0,res:=[.t 4 .s],gc:=true,code:=(.seq (.reg 0 false (.op (some 4) .mov [(.k (.c (.str (ByteArray.mk #[]))))] .nil)) (.seq (.seq (.reg 1 false (xmv 11 0 (xoa 12 .len 11 .nil))) (.blk 0 (.seq (.reg 2 false (xoi 14 (.bin .eql) 12 0 (xmv 13 14 .nil))) (.cond (.t 13) (.seq (.reg 3 false (.op (some 4) .mov [(.k (.c (.str (ByteArray.mk #[]))))] .nil)) .ret) (.seq (.reg 4 false (xoi 16 (.bin .eql) 12 1 (xmv 15 16 .nil))) (.cond (.t 15) (.seq (.reg 5 false (xmv 17 0 (xoi 18 (.idxS 1) 17 0 (xoa 19 (.ld .heap .s) 18 (xmv 4 19 .nil))))) .ret) .skip)))))) (.seq (.reg 6 false (xmk 5 0 .nil)) (.cut [0,1,5] [] [] (.seq (.reg 7 false (xmv 20 1 (xoa 21 .lenStr 20 (xoi 22 (.bin .gtr) 21 0 .nil)))) (.cond (.t 22) (.seq (.seq (.reg 8 false (xmv 23 1 (xoa 24 .lenStr 23 (xmv 25 0 (xoa 26 .len 25 (xoi 27 (.bin .sub) 26 1 (.op (some 28) (.bin .quo) [(.k (.c (.int .i64 9223372036854775807))),(.t 27)] (xob 29 (.bin .geq) 24 28 .nil)))))))) (.cond (.t 29) (.reg 9 false (.op (some 30) .trap [] (.op none .trap [] .nil))) .skip)) (.reg 10 false (xmv 31 5 (xmv 32 1 (xoa 33 .lenStr 32 (xmv 34 0 (xoa 35 .len 34 (xoi 36 (.bin .sub) 35 1 (xob 37 (.bin .mul) 33 36 (xob 38 (.bin .add) 31 37 (xmv 5 38 .nil))))))))))) .skip)) q272_p1)))) }
end Jq

namespace Jq
open Go
end Jq

namespace Jq
open Go
end Jq

namespace Jq
open Go
structure q272_In (E:Env):Prop where
 fn:E.fn 272=some q272
end Jq

namespace Jq
open Go
def q167:Fn:={ np:=1,nt:=34,ns:=0,res:=[.t 2 .s],gc:=false,code:=(.seq (.reg 0 false (.op (some 2) .mov [(.k (.c (.str (ByteArray.mk #[]))))] .nil)) (.seq (.blk 0 (.seq (.reg 1 false (xmv 4 0 (xoi 5 (.bin .lss) 4 0 (xmv 6 5 (.sc 6 false (xmv 7 0 (xoi 8 (.bin .geq) 7 24 .nil)) 8 9 true (xmv 3 9 .nil)))))) (.cond (.t 3) (.seq (.reg 2 false (.op (some 2) .mov [(.k (.c (.str (ByteArray.mk #[]))))] .nil)) .ret) (.seq (.reg 3 false (xmv 11 0 (xoi 12 (.bin .lss) 11 4 (xmv 10 12 .nil)))) (.cond (.t 10) (.seq (.reg 4 false (xmv 13 0 (xoa 14 (.call 45 [.s]) 13 (.op (some 15) (.bin .add) [(.k (.c (.str (ByteArray.mk #[116])))),(.t 14)] (xmv 2 15 .nil))))) .ret) (.seq (.reg 5 false (xmv 17 0 (xoi 18 (.bin .lss) 17 8 (xmv 16 18 .nil)))) (.cond (.t 16) (.seq (.reg 6 false (xmv 19 0 (xoi 20 (.bin .sub) 19 4 (xoa 21 (.call 45 [.s]) 20 (.op (some 22) (.bin .add) [(.k (.c (.str (ByteArray.mk #[102])))),(.t 21)] (xmv 2 22 .nil)))))) .ret) .skip))))))) (.seq (.reg 7 false (xmv 23 0 (xoi 24 (.bin .sub) 23 8 (xoi 25 (.bin .quo) 24 4 (xoa 26 (.call 45 [.s]) 25 (.op (some 27) (.bin .add) [(.k (.c (.str (ByteArray.mk #[102])))),(.t 26)] (.op (some 28) (.bin .add) [(.t 27),(.k (.c (.str (ByteArray.mk #[46]))))] (xmv 29 0 (xoi 30 (.bin .sub) 29 8 (xoi 31 (.bin .rem) 30 4 (xoa 32 (.call 45 [.s]) 31 (xob 33 (.bin .add) 28 32 (xmv 2 33 .nil))))))))))))) .ret))) }
def q171_b1:IC:=(.seq (.reg 5 false (xoi 25 (.bin .lss) 24 4 .nil)) (.seq (.cond (.t 25) .skip (.exit 0)) (.seq (.blk 1 (.seq (.reg 6 false (xmv 26 24 (xmv 7 26 .nil))) (.seq (.reg 7 true (xmv 27 6 (xmv 28 7 (xmv 29 6 (xoa 30 .nilchk 29 (xad 31 0 30 (xoa 32 (.ldN .heap 3) 31 (xmv 33 7 (xob 34 (.qcall 94 [.agg]) 32 33 (xoa 35 .nilchk 27 (xad 36 4 35 (xob 37 (.idxA 4 5) 36 28 (.op none (.stN .heap 5) [(.t 37),(.t 34)] .nil))))))))))))) (.seq (.reg 8 true (xmv 38 6 (xmv 39 7 (xmv 40 1 (xoa 41 (.qcall 190 [.agg]) 40 (xoa 42 .nilchk 38 (xad 43 32 42 (xob 44 (.idxA 4 74) 43 39 (.op none (.stN .heap 74) [(.t 44),(.t 41)] .nil))))))))) (.reg 9 false (xmv 45 6 (xmv 46 7 (xoa 47 .nilchk 45 (xad 48 28 47 (xob 49 (.idxA 4 1) 48 46 (.op none (.st .heap) [(.t 49),(.k (.c (.int .i64 (-1))))] .nil))))))))))) (.reg 10 false (xoi 50 (.bin .add) 24 1 (xmv 24 50 .nil))))))
def q171_p1:IC:=(.seq (.reg 11 true (xmv 51 6 (xoa 52 .nilchk 51 (xad 53 24 52 (xoa 54 (.slcA 4 1 false false) 53 (xad 55 1 2 (xoa 56 (.ld (.slot 0) .any) 55 (xob 57 (.copy 1) 54 56 .nil)))))))) (.seq (.reg 12 false (xmv 58 6 (xmv 4 58 (xmk 5 0 .nil)))) .ret))
def q171:Fn:={ np:=2,nt:=59,ns:=1,res:=[.t 4 .any,.t 5 (.i .i64)],gc:=false,code:=(.seq (.reg 0 false (.box 2 0 (.t 0) (.op (some 4) .mov [(.k (.c .nilp))] (xmk 5 0 .nil)))) (.seq (.seq (.reg 1 false (xmv 8 1 (xoi 9 (.bin .lss) 8 1 (xmv 10 9 (.sc 10 false (xmv 11 1 (xoi 12 (.bin .gtr) 11 3 .nil)) 12 13 true (xmv 14 13 (.sc 14 false (xoa 15 (.ldAll (.slot 0) 3) 2 (xoa 16 (.call 188 [.b]) 15 (xoa 17 (.un .not) 16 .nil))) 17 18 true .nil))))))) (.cond (.t 18) (.seq (.reg 2 false (.op (some 4) .mov [(.k (.c .nilp))] (xmk 5 1 .nil))) .ret) .skip)) (.seq (.reg 3 false (xoa 19 (.ldAll (.slot 0) 3) 2 (xoa 20 (.call 189 [.agg]) 19 (xmv 21 1 (xob 22 (.build ([Cell.nils,Cell.nils,Cell.nils]++List.replicate 325 ci0++[Cell.nils]) [(0,3),(3,1)]) 20 21 (xoa 23 .boxH 22 (xmv 6 23 .nil))))))) (.seq (.seq (.reg 4 false (xmk 24 0 .nil)) (.blk 0 (.loop [1,2,6,24] [0] [(1,[2,6],[0])] q171_b1))) q171_p1)))) }
def q172_b1:IC:=(.seq (.reg 12 false (xoi 76 (.bin .lss) 75 4 .nil)) (.seq (.cond (.t 76) .skip (.exit 2)) (.seq (.blk 3 (.seq (.reg 13 false (xmv 77 75 (xmv 8 77 .nil))) (.seq (.reg 14 false (xmv 79 0 (xmv 80 4 (xoa 81 .nilchk 79 (xad 82 32 81 (xob 83 (.idxA 4 74) 82 80 (xoa 84 (.ldN .heap 74) 83 (xmv 85 8 (xob 86 (.call 192 [(.i .i64),(.i .i64),(.i .i64),.b]) 84 85 (xmv 78 86 (xoa 87 (.ext 0) 78 (xoa 88 (.ext 1) 78 (xoa 89 (.ext 2) 78 (xoa 90 (.ext 3) 78 (xmv 9 87 (xmv 10 88 (xmv 11 89 (xmv 12 90 .nil)))))))))))))))))) (.seq (.reg 15 false (xmv 91 0 (xoa 92 .nilchk 91 (xad 93 3 92 (xoa 94 (.ld .heap (.i .i64)) 93 (xoi 95 (.bin .eql) 94 3 (xmv 96 95 (.sc 96 true (xmv 97 12 .nil) 97 98 false .nil)))))))) (.cond (.t 98) (.reg 16 false (xmv 99 3 (xmv 100 4 (.op (some 101) (.bin .mul) [(.k (.c (.int .i64 4))),(.t 100)] (.op (some 102) (.bin .add) [(.k (.c (.int .i64 8))),(.t 101)] (xmv 103 8 (xob 104 (.bin .add) 102 103 (xob 105 (.call 18 [(.i .u64)]) 99 104 (xmv 3 105 .nil))))))))) .skip))))) (.reg 17 false (xoi 106 (.bin .add) 75 1 (xmv 75 106 .nil))))))
def q172_p3:IC:=(.seq (.seq (.reg 9 false (xmv 56 0 (xoa 57 .nilchk 56 (xad 58 3 57 (xoa 59 (.ld .heap (.i .i64)) 58 (xoi 60 (.bin .eql) 59 2 (xmv 61 60 (.sc 61 true (xmv 62 0 (xmv 63 4 (xoa 64 .nilchk 62 (xad 65 32 64 (xob 66 (.idxA 4 74) 65 63 (xoa 67 (.ldN .heap 74) 66 (xoa 68 (.call 191 [.b]) 67 (xoa 69 (.un .not) 68 .nil)))))))) 69 70 false .nil)))))))) (.cond (.t 70) (.reg 10 false (xmv 71 3 (xmv 72 4 (.op (some 73) (.bin .add) [(.k (.c (.int .i64 4))),(.t 72)] (xob 74 (.call 18 [(.i .u64)]) 71 73 (xmv 3 74 .nil)))))) .skip)) (.seq (.reg 11 false (xmk 75 0 .nil)) (.blk 2 (.loop [0,3,4,13,75] [] [(3,[0,3,13],[])] q172_b1))))
def q172_p2:IC:=(.reg 18 false (xoi 107 (.bin .add) 13 1 (xmv 13 107 .nil)))
def q172_b2:IC:=(.seq (.reg 3 false (xoi 14 (.bin .lss) 13 4 .nil)) (.seq (.cond (.t 14) .skip (.exit 0)) (.seq (.blk 1 (.seq (.reg 4 false (xmv 15 13 (xmv 4 15 .nil))) (.seq (.reg 5 true (xmv 17 0 (xoa 18 .nilchk 17 (xad 19 0 18 (xoa 20 (.ldN .heap 3) 19 (xmv 21 4 (xmv 22 0 (xmv 23 4 (xoa 24 .nilchk 22 (xad 25 4 24 (xob 26 (.idxA 4 5) 25 23 (xoa 27 (.ldN .heap 5) 26 (.op (some 28) (.qcall 105 [.agg,.b]) [(.t 20),(.t 21),(.t 27)] (xmv 16 28 (xoa 29 (.ext 0) 16 (xoa 30 (.ext 1) 16 (.al 5 0 (List.replicate 9 ci0) (.op none (.stAll (.slot 0) 9) [(.t 5),(.t 29)] (xmv 6 30 .nil))))))))))))))))))) (.seq (.reg 6 false (xad 31 0 5 (xoa 32 (.ld (.slot 0) (.i .i64)) 31 (xoi 33 (.bin .eql) 32 3 (xmv 34 33 (.sc 34 false (xad 35 0 5 (xoa 36 (.ld (.slot 0) (.i .i64)) 35 (xoi 37 (.bin .eql) 36 4 .nil))) 37 38 true (xmv 7 38 .nil))))))) (.cut [0,3,4,13] [] [] (.seq (.reg 7 false (xmv 39 6 (xmv 40 39 (.sc 40 true (xmv 41 7 (xoa 42 (.un .not) 41 (xmv 43 42 (.sc 43 false (xmv 44 0 (xmv 45 4 (xoa 46 .nilchk 44 (xad 47 32 46 (xob 48 (.idxA 4 74) 47 45 (xoa 49 (.ldN .heap 74) 48 (xoa 50 (.call 191 [.b]) 49 .nil))))))) 50 51 true .nil)))) 51 52 false .nil)))) (.cond (.t 52) (.reg 8 false (xmv 53 3 (xmv 54 4 (xob 55 (.call 18 [(.i .u64)]) 53 54 (xmv 3 55 .nil))))) .skip)) q172_p3))))) q172_p2)))
def q172_p1:IC:=(.seq (.reg 19 false (xmv 108 3 (xmv 2 108 .nil))) .ret)
def q172:Fn:={ np:=1,nt:=109,ns:=1,res:=[.t 2 (.i .u64)],gc:=false,code:=(.seq (.reg 0 false (.op (some 2) .mov [(.k (.c (.int .u64 0)))] .nil)) (.seq (.reg 1 false (.op (some 3) .mov [(.k (.c (.int .u64 0)))] .nil)) (.seq (.seq (.reg 2 false (xmk 13 0 .nil)) (.blk 0 (.loop [0,3,13] [] [(1,[3],[])] q172_b2))) q172_p1))) }
def q173:Fn:={ np:=2,nt:=47,ns:=2,res:=[.all (.slot 0) 4 7,.t 5 .b],gc:=false,code:=(.seq (.reg 0 false (.al 4 0 (List.replicate 7 ci0) (.op (some 5) .mov [(.k (.c (.bool false)))] .nil))) (.seq (.seq (.reg 1 false (xmv 7 0 (xoa 8 (.call 172 [(.i .u64)]) 7 (xmv 9 1 (xob 10 (.call 17 [.b]) 8 9 (xoa 11 (.un .not) 10 .nil)))))) (.cond (.t 11) (.seq (.reg 2 false (.op (some 12) (.build (List.replicate 7 ci0) []) [] (.op none (.stAll (.slot 0) 7) [(.t 4),(.t 12)] (.op (some 5) .mov [(.k (.c (.bool false)))] .nil)))) .ret) .skip)) (.seq (.reg 3 false (.al 6 1 (List.replicate 7 ci0) .nil)) (.seq (.blk 0 (.seq (.reg 5 false (xmv 22 1 (xoi 23 (.bin .lss) 22 4 (xmv 21 23 .nil)))) (.cond (.t 21) (.reg 6 false (xmv 24 0 (xmv 25 1 (xob 26 (.call 193 [.agg]) 24 25 (.op none (.stAll (.slot 1) 7) [(.t 6),(.t 26)] .nil))))) (.seq (.reg 7 false (xmv 28 1 (xoi 29 (.bin .lss) 28 8 (xmv 27 29 .nil)))) (.cond (.t 27) (.reg 8 false (xmv 30 0 (xmv 31 1 (xoi 32 (.bin .sub) 31 4 (.op (some 33) (.call 194 [.agg]) [(.t 30),(.t 32),(.k (.c (.int .i64 0)))] (.op none (.stAll (.slot 1) 7) [(.t 6),(.t 33)] .nil)))))) (.reg 4 false (xmv 13 0 (xmv 14 1 (xoi 15 (.bin .sub) 14 8 (xoi 16 (.bin .quo) 15 4 (xmv 17 1 (xoi 18 (.bin .sub) 17 8 (xoi 19 (.bin .rem) 18 4 (.op (some 20) (.call 194 [.agg]) [(.t 13),(.t 16),(.t 19)] (.op none (.stAll (.slot 1) 7) [(.t 6),(.t 20)] .nil))))))))))))))) (.seq (.reg 9 false (xmv 34 1 (xad 35 0 6 (.op none (.st (.slot 1)) [(.t 35),(.t 34)] .nil)))) (.seq (.reg 10 true (xmv 36 0 (xmv 37 0 (xoa 38 .nilchk 37 (xad 39 328 38 (xoa 40 (.ld .heap .any) 39 (xoa 41 (.ldAll (.slot 1) 7) 6 (xoa 42 (.lit 7 1 (List.replicate 7 ci0) [(0,7)]) 41 (xob 43 (.app 7 56) 40 42 (xoa 44 .nilchk 36 (xad 45 328 44 (.op none (.st .heap) [(.t 45),(.t 43)] .nil)))))))))))) (.seq (.reg 11 false (xoa 46 (.ldAll (.slot 1) 7) 6 (.op none (.stAll (.slot 0) 7) [(.t 4),(.t 46)] (.op (some 5) .mov [(.k (.c (.bool true)))] .nil)))) .ret))))))) }
def q174:Fn:={ np:=1,nt:=6,ns:=0,res:=[.t 2 .b],gc:=false,code:=(.seq (.reg 0 false (.op (some 2) .mov [(.k (.c (.bool false)))] .nil)) (.seq (.reg 1 false (xmv 3 0 (xoa 4 (.call 172 [(.i .u64)]) 3 (.op (some 5) (.bin .eql) [(.t 4),(.k (.c (.int .u64 0)))] (xmv 2 5 .nil))))) .ret)) }
def q175:Fn:={ np:=1,nt:=8,ns:=0,res:=[.t 2 .any],gc:=false,code:=(.seq (.reg 0 false (.op (some 2) .mov [(.k (.c .nils))] .nil)) (.seq (.reg 1 false (xmv 3 0 (xoa 4 .nilchk 3 (xad 5 328 4 (xoa 6 (.ld .heap .any) 5 (xoa 7 (.call 195 [.any]) 6 (xmv 2 7 .nil))))))) .ret)) }
def q189_b1:IC:=(.seq (.reg 3 false (xob 17 (.bin .lss) 16 15 .nil)) (.seq (.cond (.t 17) .skip (.exit 0)) (.seq (.blk 1 (.seq (.reg 4 false (xob 18 (.idxS 1) 14 16 (xoa 19 (.ld .heap .any) 18 (xmv 5 19 .nil)))) (.reg 5 true (xad 20 2 3 (xoa 21 (.ld (.slot 2) .any) 20 (xmv 22 5 (xoa 23 (.call 119 [.any]) 22 (xoa 24 (.lit 1 1 ([Cell.nils]) [(0,1)]) 23 (xob 25 (.app 1 24) 21 24 (xad 26 2 3 (.op none (.st (.slot 2)) [(.t 26),(.t 25)] .nil))))))))))) (.reg 6 false (xoi 27 (.bin .add) 16 1 (xmv 16 27 .nil))))))
def q189_p1:IC:=(.seq (.reg 7 false (xoa 28 (.ldAll (.slot 2) 3) 3 (.op none (.stAll (.slot 1) 3) [(.t 2),(.t 28)] .nil))) .ret)
def q189:Fn:={ np:=1,nt:=29,ns:=3,res:=[.all (.slot 1) 2 3],gc:=false,code:=(.seq (.reg 0 false (.box 1 0 (.t 0) (.al 2 1 ([Cell.nils,Cell.nils,Cell.nils]) .nil))) (.seq (.reg 1 true (xad 6 0 1 (xoa 7 (.ld (.slot 0) .any) 6 (xoa 8 (.call 202 [.any]) 7 (xad 9 1 1 (xoa 10 (.ld (.slot 0) .any) 9 (xoa 11 (.call 203 [.any]) 10 (xob 12 (.build ([Cell.nils,Cell.nils,Cell.nils]) [(0,1),(1,1)]) 8 11 (.al 3 2 ([Cell.nils,Cell.nils,Cell.nils]) (.op none (.stAll (.slot 2) 3) [(.t 3),(.t 12)] .nil)))))))))) (.seq (.seq (.reg 2 false (xad 13 2 1 (xoa 14 (.ld (.slot 0) .any) 13 (xoa 15 .len 14 (xmk 16 0 .nil))))) (.blk 0 (.loop [2,3,14,15,16] [1,2] [(1,[2,3],[1,2])] q189_b1))) q189_p1))) }
def q193_p2:IC:=(.seq (.reg 10 false (xmv 71 0 (xoa 72 .nilchk 71 (xad 73 328 72 (xoa 74 (.ld .heap .any) 73 (xoa 75 .len 74 (xmv 15 75 .nil))))))) (.seq (.blk 0 (.seq (.reg 11 false (xad 77 2 13 (xoa 78 (.ld (.slot 3) (.i .i64)) 77 (xoi 79 (.bin .eql) 78 2 (xmv 80 79 (.sc 80 true (xmv 81 0 (xoa 82 .nilchk 81 (xad 83 3 82 (xoa 84 (.ld .heap (.i .i64)) 83 (xoi 85 (.bin .neq) 84 1 .nil))))) 85 86 false (xmv 76 86 .nil))))))) (.cond (.t 76) (.reg 12 true (xmv 87 0 (xmv 88 1 (xmv 89 0 (xmv 90 1 (xoa 91 .nilchk 89 (xad 92 32 91 (xob 93 (.idxA 4 74) 92 90 (xoa 94 (.ldN .heap 74) 93 (xad 95 3 13 (xoa 96 (.ld (.slot 3) (.i .i64)) 95 (xad 97 5 13 (xoa 98 (.ld (.slot 3) (.i .i64)) 97 (xmv 99 15 (.op (some 100) (.qcall 206 [.agg]) [(.t 94),(.t 96),(.t 98),(.t 99)] (xoa 101 .nilchk 87 (xad 102 32 101 (xob 103 (.idxA 4 74) 102 88 (.op none (.stN .heap 74) [(.t 103),(.t 100)] .nil))))))))))))))))))) (.seq (.reg 13 false (xoa 105 (.ldAll (.slot 3) 6) 13 (xoa 106 (.call 80 [.b]) 105 (xmv 104 106 .nil)))) (.cond (.t 104) (.reg 14 true (xmv 107 0 (xad 108 3 13 (xoa 109 (.ld (.slot 3) (.i .i64)) 108 (xmv 110 0 (xad 111 3 13 (xoa 112 (.ld (.slot 3) (.i .i64)) 111 (xad 113 5 13 (xoa 114 (.ld (.slot 3) (.i .i64)) 113 (xmv 115 15 (xoa 116 .nilchk 107 (xad 117 24 116 (xob 118 (.idxA 4 1) 117 109 (.op none (.st .heap) [(.t 118),(.t 114)] (xoa 119 .nilchk 110 (xad 120 28 119 (xob 121 (.idxA 4 1) 120 112 (.op none (.st .heap) [(.t 121),(.t 115)] .nil)))))))))))))))))) .skip))))) (.seq (.reg 15 true (xmv 122 0 (xmv 123 1 (xmv 124 0 (xoa 125 .nilchk 124 (xad 126 0 125 (xoa 127 (.ldN .heap 3) 126 (xmv 128 1 (xoa 129 (.ldAll (.slot 1) 5) 5 (xmv 130 8 (.op (some 131) (.qcall 106 [.agg]) [(.t 127),(.t 128),(.t 129),(.t 130)] (xoa 132 .nilchk 122 (xad 133 4 132 (xob 134 (.idxA 4 5) 133 123 (.op none (.stN .heap 5) [(.t 134),(.t 131)] .nil))))))))))))))) (.seq (.reg 16 false (xmv 135 1 (xad 136 2 13 (xoa 137 (.ld (.slot 3) (.i .i64)) 136 (xad 138 3 13 (xoa 139 (.ld (.slot 3) (.i .i64)) 138 (xad 140 4 13 (xoa 141 (.ld (.slot 3) (.i .i64)) 140 (xad 142 5 13 (xoa 143 (.ld (.slot 3) (.i .i64)) 142 (xmv 144 9 (.op (some 145) (.build (List.replicate 7 ci0) [(1,1),(2,1),(3,1),(4,1),(5,1),(6,1)]) [(.t 135),(.t 137),(.t 139),(.t 141),(.t 143),(.t 144)] (.op none (.stAll (.slot 0) 7) [(.t 4),(.t 145)] .nil))))))))))))) .ret))))
def q193_p1:IC:=(.seq (.reg 7 false (xoa 63 (.ldAll (.slot 2) 9) 6 (xoa 64 (.ldAll (.slot 1) 5) 5 (xmv 65 8 (.op (some 66) (.call 109 [.agg,.b]) [(.t 63),(.t 64),(.t 65)] (xmv 62 66 (xoa 67 (.ext 0) 62 (xoa 68 (.ext 1) 62 (.al 13 3 ([ci0,ci0,ci0,ci0,ci0,ci0]) (.op none (.stAll (.slot 3) 6) [(.t 13),(.t 67)] (xmv 14 68 .nil))))))))))) (.cut [0,1,4,5,8,9,13] [0,1,3] [] (.seq (.reg 8 false (xmv 69 14 (xoa 70 (.un .not) 69 .nil))) (.cond (.t 70) (.reg 9 false (xmk 9 (-1) .nil)) .skip)) q193_p2))
def q193:Fn:={ np:=2,nt:=146,ns:=4,res:=[.all (.slot 0) 4 7],gc:=false,code:=(.seq (.reg 0 false (.al 4 0 (List.replicate 7 ci0) .nil)) (.seq (.reg 1 false (xmv 16 0 (xmv 17 1 (xoa 18 .nilchk 16 (xad 19 4 18 (xob 20 (.idxA 4 5) 19 17 (xoa 21 (.ldN .heap 5) 20 (.al 5 1 ([ci0,ci0,ci0,ci0,ci0]) (.op none (.stAll (.slot 1) 5) [(.t 5),(.t 21)] .nil))))))))) (.seq (.reg 2 true (xmv 23 0 (xoa 24 .nilchk 23 (xad 25 0 24 (xoa 26 (.ldN .heap 3) 25 (xmv 27 1 (xoa 28 (.ldAll (.slot 1) 5) 5 (.op (some 29) (.qcall 105 [.agg,.b]) [(.t 26),(.t 27),(.t 28)] (xmv 22 29 (xoa 30 (.ext 0) 22 (xoa 31 (.ext 1) 22 (.al 6 2 (List.replicate 9 ci0) (.op none (.stAll (.slot 2) 9) [(.t 6),(.t 30)] (xmv 7 31 .nil)))))))))))))) (.seq (.reg 3 true (xmv 32 0 (xad 33 2 6 (xoa 34 (.ld (.slot 2) (.i .i64)) 33 (xoa 35 .nilchk 32 (xad 36 24 35 (xob 37 (.idxA 4 1) 36 34 (xoa 38 (.ld .heap (.i .i64)) 37 (xmv 39 0 (xad 40 2 6 (xoa 41 (.ld (.slot 2) (.i .i64)) 40 (xoa 42 .nilchk 39 (xad 43 28 42 (xob 44 (.idxA 4 1) 43 41 (xoa 45 (.ld .heap (.i .i64)) 44 (xmv 8 38 (xmv 9 45 .nil))))))))))))))))) (.cut [0,1,4,5,6,8,9] [0,1,2] [] (.seq (.reg 4 true (xmv 47 0 (xmv 48 1 (xoa 49 .nilchk 47 (xad 50 32 49 (xob 51 (.idxA 4 74) 50 48 (xoa 52 (.ldN .heap 74) 51 (xad 53 2 6 (xoa 54 (.ld (.slot 2) (.i .i64)) 53 (xob 55 (.qcall 205 [(.i .i64),(.i .i64),.b]) 52 54 (xmv 46 55 (xoa 56 (.ext 0) 46 (xoa 57 (.ext 1) 46 (xoa 58 (.ext 2) 46 (xmv 10 56 (xmv 11 57 (xmv 12 58 .nil))))))))))))))))) (.seq (.reg 5 false (xmv 59 12 .nil)) (.cond (.t 59) (.reg 6 false (xmv 60 10 (xmv 61 11 (xmv 8 60 (xmv 9 61 .nil))))) .skip))) q193_p1))))) }
def q194:Fn:={ np:=3,nt:=54,ns:=1,res:=[.all (.slot 0) 6 7],gc:=false,code:=(.seq (.reg 0 false (.al 6 0 (List.replicate 7 ci0) .nil)) (.seq (.reg 1 false (xmv 12 0 (xmv 13 1 (xoa 14 .nilchk 12 (xad 15 32 14 (xob 16 (.idxA 4 74) 15 13 (xoa 17 (.ldN .heap 74) 16 (xmv 18 2 (xob 19 (.call 192 [(.i .i64),(.i .i64),(.i .i64),.b]) 17 18 (xmv 11 19 (xoa 20 (.ext 0) 11 (xoa 21 (.ext 1) 11 (xoa 22 (.ext 2) 11 (xoa 23 (.ext 3) 11 (xmv 7 20 (xmv 8 21 (xmv 9 22 (xmv 10 23 .nil)))))))))))))))))) (.seq (.reg 2 true (xmv 24 0 (xmv 25 1 (xmv 26 0 (xmv 27 1 (xoa 28 .nilchk 26 (xad 29 32 28 (xob 30 (.idxA 4 74) 29 27 (xoa 31 (.ldN .heap 74) 30 (xmv 32 2 (xob 33 (.qcall 207 [.agg]) 31 32 (xoa 34 .nilchk 24 (xad 35 32 34 (xob 36 (.idxA 4 74) 35 25 (.op none (.stN .heap 74) [(.t 36),(.t 33)] .nil))))))))))))))) (.seq (.reg 3 true (xmv 37 0 (xmv 38 7 (xmv 39 0 (xmv 40 7 (xmv 41 8 (xmv 42 9 (xoa 43 .nilchk 37 (xad 44 24 43 (xob 45 (.idxA 4 1) 44 38 (.op none (.st .heap) [(.t 45),(.t 41)] (xoa 46 .nilchk 39 (xad 47 28 46 (xob 48 (.idxA 4 1) 47 40 (.op none (.st .heap) [(.t 48),(.t 42)] .nil))))))))))))))) (.seq (.reg 4 false (xmv 49 1 (xmv 50 7 (xmv 51 8 (xmv 52 9 (.op (some 53) (.build (List.replicate 7 ci0) [(1,1),(2,1),(3,1),(5,1),(6,1)]) [(.t 49),(.k (.c (.int .i64 6))),(.t 50),(.t 51),(.t 52)] (.op none (.stAll (.slot 0) 7) [(.t 6),(.t 53)] .nil))))))) .ret))))) }
end Jq

namespace Jq
open Go
def q45:Fn:={ np:=1,nt:=5,ns:=0,res:=[.t 2 .s],gc:=false,code:=(.seq (.reg 0 false (.op (some 2) .mov [(.k (.c (.str (ByteArray.mk #[]))))] .nil)) (.seq (.reg 1 false (xmv 3 0 (xoa 4 (.call 46 [.s]) 3 (xmv 2 4 .nil)))) .ret)) }
end Jq

namespace Jq
open Go
structure q45_In (E:Env):Prop where
 fn:E.fn 45=some q45
 c46:q46_In E
end Jq

namespace Jq
open Go
structure q167_In (E:Env):Prop where
 fn:E.fn 167=some q167
 c45:q45_In E
structure q189_In (E:Env):Prop where
 fn:E.fn 189=some q189
 c119:q119_In E
 c202:q202_In E
 c203:q203_In E
structure q171_In (E:Env):Prop where
 fn:E.fn 171=some q171
 c94:q94_In E
 c188:q188_In E
 c189:q189_In E
 c190:q190_In E
structure q172_In (E:Env):Prop where
 fn:E.fn 172=some q172
 c18:q18_In E
 c105:q105_In E
 c191:q191_In E
 c192:q192_In E
structure q193_In (E:Env):Prop where
 fn:E.fn 193=some q193
 c80:q80_In E
 c105:q105_In E
 c106:q106_In E
 c109:q109_In E
 c205:q205_In E
 c206:q206_In E
structure q194_In (E:Env):Prop where
 fn:E.fn 194=some q194
 c192:q192_In E
 c207:q207_In E
structure q173_In (E:Env):Prop where
 fn:E.fn 173=some q173
 c17:q17_In E
 c172:q172_In E
 c193:q193_In E
 c194:q194_In E
structure q174_In (E:Env):Prop where
 fn:E.fn 174=some q174
 c172:q172_In E
structure q175_In (E:Env):Prop where
 fn:E.fn 175=some q175
 c195:q195_In E
end Jq

namespace Jq
open Go
structure q278_In (E:Env):Prop where
 fn:E.fn 278=some q278
 c171:q171_In E
 c173:q173_In E
structure q271_In (E:Env):Prop where
 fn:E.fn 271=some q271
 c174:q174_In E
 c175:q175_In E
 c278:q278_In E
structure q262_In (E:Env):Prop where
 fn:E.fn 262=some q262
 c167:q167_In E
 x272:E.fn 272=none
structure q306_In (E:Env):Prop where
 fn:E.fn 306=some q306
 c174:q174_In E
 c278:q278_In E
structure q428_In (E:Env):Prop where
 fn:E.fn 428=some q428
structure q429_In (E:Env):Prop where
 fn:E.fn 429=some q429
 c32:q32_In E
 c171:q171_In E
 c172:q172_In E
 c173:q173_In E
 c174:q174_In E
structure q423_In (E:Env):Prop where
 fn:E.fn 423=some q423
 c428:q428_In E
 c429:q429_In E
structure q430_In (E:Env):Prop where
 fn:E.fn 430=some q430
structure q424_In (E:Env):Prop where
 fn:E.fn 424=some q424
 c429:q429_In E
 c430:q430_In E
end Jq

namespace Jq
open Go
structure q261_In (E:Env):Prop where
 fn:E.fn 261=some q261
 x260:E.fn 260=none
 c187:q187_In E
 c262:q262_In E
 c271:q271_In E
structure q425_In (E:Env):Prop where
 fn:E.fn 425=some q425
 c76:q76_In E
 c180:q180_In E
 c181:q181_In E
 c182:q182_In E
 c261:q261_In E
 c306:q306_In E
 c423:q423_In E
 c424:q424_In E
end Jq

namespace Jq
open Go
variable (C:CallF) (L:LoopF) (G:Glo)
set_option maxRecDepth 100000 in
theorem q17_eq (a0 a1:Int) (h0:AHeap):q17.body C L G [(.c (.int .u64 a0)),(.c (.int .i64 a1))] h0=c1 (C 19 [(.c (.int .i64 a1))] h0) fun y_2 h_1=>asI .u64 y_2 fun n_3=>some ([(.c (.bool ((G.band .u64 a0 n_3) != 0)))],h_1):=by kernel_rfl
set_option maxRecDepth 100000 in
theorem q18_eq (a0 a1:Int) (h0:AHeap):q18.body C L G [(.c (.int .u64 a0)),(.c (.int .i64 a1))] h0=c1 (C 19 [(.c (.int .i64 a1))] h0) fun y_2 h_1=>asI .u64 y_2 fun n_3=>some ([(.c (.int .u64 (G.bor .u64 a0 n_3)))],h_1):=by kernel_rfl
set_option maxRecDepth 100000 in
theorem q19_eq (a0:Int) (h0:AHeap):q19.body C L G [(.c (.int .i64 a0))] h0=scK (decide (a0<0)) false (some ((decide (a0≥64)),h0)) true h0 fun b_1 h_2=>if b_1=true then some ([(.c (.int .u64 0))],h_2) else if (G.wrap .u64 a0)<0 then none else some ([(.c (.int .u64 (G.shl .u64 1 (G.wrap .u64 a0))))],h_2):=by kernel_rfl
def q32_k2 (C:CallF) (L:LoopF) (G:Glo) (h0:AHeap):Ex→St→Option (List AV × AHeap):=kSeq (fun st=>q32_p1.exec C L G st (q32.fin G h0)) (q32.fin G h0)
def q32_k3 (C:CallF) (L:LoopF) (G:Glo) (h0:AHeap):Ex→St→Option (List AV × AHeap):=kBlk 0 (q32_k2 C L G h0)
def q32_s1 (a0:Int) (x3:Cell) (h:AHeap):St:=⟨.v (.c (.int .u64 a0)) :: tops 2 (.v (.c x3) :: tops 12 []),[],h⟩
def q32_F1 (C:CallF) (L:LoopF) (G:Glo):St→Option (Ex × St):=roundF (fun st f=>q32_b1.exec C L G st f) [0,3] [] [(1,[3],[])]
def q32_x1_1 (x3:Cell) (h:AHeap):St:=⟨tops 3 (.v (.c x3) :: tops 12 []),[],h⟩
theorem q32_r1 (a0:Int) (x3:Cell) (h:AHeap):q32_F1 C L G (q32_s1 a0 x3 h)=if (a0 != 0)=true then c1 (C 38 [(.c (.int .u64 a0))] h) fun y_2 h_1=>asI .i64 y_2 fun n_3=>if (splice [ci0] 0 [(.int .i64 n_3)]).length=1*1 then appK 1 8 x3 (splice [ci0] 0 [(.int .i64 n_3)]) h_1 fun x_4 h_5=>some (.normal,(q32_s1 (G.band .u64 a0 (G.wrap .u64 (a0 - 1))) x_4 h_5)) else none else some ((.exit 0),(q32_x1_1 x3 h)):=by kernel_rfl
theorem q32_e1_1 (h0:AHeap) (x3:Cell) (h:AHeap):(q32_k3 C L G h0) (.exit 0) (q32_x1_1 x3 h)=some ([(.c x3)],h):=by kernel_rfl
set_option maxRecDepth 100000 in
theorem q32_eq (a0:Int) (h0:AHeap):q32.body C L G [(.c (.int .u64 a0))] h0=(L (q32_F1 C L G) (q32_s1 a0 .nils h0)).bind fun p_6=>(q32_k3 C L G h0) p_6.1 p_6.2:=by kernel_rfl
set_option maxRecDepth 100000 in
theorem q38_eq (a0:Int) (h0:AHeap):q38.body C L G [(.c (.int .u64 a0))] h0=if (a0==0)=true then some ([(.c (.int .i64 (-1)))],h0) else c1 (C 42 [(.c (.int .u64 a0))] h0) fun y_2 h_1=>asI .i64 y_2 fun n_3=>some ([(.c (.int .i64 n_3))],h_1):=by kernel_rfl
end Jq

namespace Jq
open Go
def bitI (i:Int):Nat:=if 0≤i∧i<64 then 2 ^ i.toNat else 0
theorem bitI_lt (i:Int):bitI i<2 ^ 64:=by
 unfold bitI;split
 ·exact Nat.pow_lt_pow_right (by omega) (by omega)
 ·omega
def hasI (s:Nat) (i:Int):Bool:=decide (0≤i)&&s.testBit i.toNat&&decide (i<64)
theorem and_bitI {s:Nat} (i:Int):((s &&& bitI i) != 0)=hasI s i:=by
 unfold hasI bitI
 by_cases h:0≤i∧i<64
 ·rw [if_pos h]
  simp only [h.1,h.2,decide_true,Bool.true_and,Bool.and_true]
  cases hb:s.testBit i.toNat with
  | true =>
   simp only [bne_iff_ne,ne_eq]
   intro h0
   have:=congrArg (fun x=>x.testBit i.toNat) h0
   simp [Nat.testBit_and,hb,Nat.testBit_two_pow] at this
  | false =>
   have:s &&& 2 ^ i.toNat=0:=by
    refine Nat.eq_of_testBit_eq fun j=>?_
    rw [Nat.testBit_and,Nat.testBit_two_pow,Nat.zero_testBit]
    by_cases hj:i.toNat=j
    ·subst hj;simp [hb]
    ·simp [hj]
   simp [this]
 ·rw [if_neg h]
  have:¬(0≤i)∨¬(i<64):=by omega
  rcases this with h | h<;>simp [h]
theorem hasI_nat {s i:Nat} (hi:i<64):hasI s (i:Int)=s.testBit i:=by
 unfold hasI;simp;omega
variable {E:Env}
theorem bit_R (hE:q19_In E) (i:Int) (h:AHeap):R E 19 [.c (.int .i64 i)] h=some ([.c (.int .u64 (bitI i))],h):=by
 refine R_intro hE.fn ?_
 rw [q19_eq,scK_or]
 unfold bitI
 by_cases hi:0≤i∧i<64
 ·have h1:(decide (i<0)||decide (i≥64))=false:=by simp;omega
  rw [h1,if_pos hi]
  obtain ⟨n,rfl⟩:=Int.eq_ofNat_of_zero_le hi.1
  have hw:E.glob.wrap .u64 (n:Int)=n:=wrap_u64n (by omega)
  rw [hw]
  simp only [Bool.false_eq_true,if_false]
  rw [if_neg (by omega),show E.glob.shl .u64 1 (n:Int)=_ from std_shl_one (by omega)]
  simp
 ·have h1:(decide (i<0)||decide (i≥64))=true:=by simp;omega
  rw [h1,if_neg hi];simp
theorem Has_R (hE:q17_In E) {s:Nat} (hs:s<2 ^ 64) (i:Int) (h:AHeap):R E 17 [.c (.int .u64 s),.c (.int .i64 i)] h=some ([.c (.bool (hasI s i))],h):=by
 refine R_intro hE.fn ?_
 rw [q17_eq,bit_R hE.c19,c1_ok,asI_ok,show E.glob.band .u64 (s:Int) _=_ from std_band hs (bitI_lt i),←and_bitI]
 have:(((s &&& bitI i:Nat):Int) != 0)=(s &&& bitI i != 0):=by rw [Bool.eq_iff_iff];simp
 rw [this]
theorem With_R (hE:q18_In E) {s:Nat} (hs:s<2 ^ 64) (i:Int) (h:AHeap):R E 18 [.c (.int .u64 s),.c (.int .i64 i)] h=some ([.c (.int .u64 ((s ||| bitI i:Nat):Int))],h):=by
 refine R_intro hE.fn ?_
 rw [q18_eq,bit_R hE.c19,c1_ok,asI_ok,show E.glob.bor .u64 (s:Int) _=_ from std_bor hs (bitI_lt i)]
end Jq

namespace Jq
open Go
end Jq

namespace Jq
open Go
def relL (n:Nat) (f:Nat→Nat):List Cell:=.int .i64 n :: (List.range 64).map fun i=>.int .u64 (f i)
def updF (f:Nat→Nat) (i v:Nat):Nat→Nat:=fun j=>if j=i then v else f j
def zeroL:List Cell:=[ci0]++List.replicate 64 (Cell.int .u64 0)
def Words (f:Nat→Nat):Prop:=∀i,f i<2 ^ 64
def clamp (a:Int):Nat:=min a.toNat 64
variable {E:Env}
def inR (n:Nat) (a:Int):Bool:=decide (0≤a)&&decide (a<n)
def hasR (n:Nat) (f:Nat→Nat) (a b:Int):Bool:=inR n a&&hasI (f a.toNat) b
def addR (n:Nat) (f:Nat→Nat) (a b:Int):Nat→Nat:=if inR n a&&inR n b then updF f a.toNat (f a.toNat ||| bitI b) else f
def clS (f:Nat→Nat) (k i:Nat):Nat→Nat:=if (f i).testBit k then updF f i (f i ||| f k) else f
def cl1 (k:Nat):Nat→(Nat→Nat)→Nat→Nat
 | 0,f=>f
 | i+1,f=>clS (cl1 k i f) k i
def clK (n:Nat) (f:Nat→Nat):Nat→Nat→Nat
 | 0=>f
 | k+1=>cl1 k n (clK n f k)
def acycR (n:Nat) (f:Nat→Nat):Bool:=!(List.range n).any fun i=>(clK n f n i).testBit i
end Jq

namespace Jq
inductive Way (f:Nat→Nat) (k:Nat):Nat→Nat→Prop
 | one {a b:Nat}:(f a).testBit b=true→Way f k a b
 | step {a c b:Nat}:(f a).testBit c=true→c<k→Way f k c b→Way f k a b
theorem Way.mono {f:Nat→Nat} {k m:Nat} (hkm:k≤m) {a b:Nat} (w:Way f k a b):Way f m a b:=by
 induction w with
 | one h=>exact .one h
 | step h hc _ ih=>exact .step h (by omega) ih
theorem Way.trans {f:Nat→Nat} {k a c b:Nat} (w:Way f k a c) (hc:c<k) (v:Way f k c b):Way f k a b:=by
 induction w with
 | one h=>exact .step h hc v
 | step h hc' _ ih=>exact .step h hc' (ih hc v)
theorem Way.succ {f:Nat→Nat} {k a b:Nat}:Way f (k+1) a b↔Way f k a b∨(Way f k a k∧Way f k k b):=by
 constructor
 ·intro w
  induction w with
  | one h=>exact .inl (.one h)
  | step h hc _ ih =>
   rcases Nat.lt_or_ge _ k with hk | hk
   ·rcases ih with ih | ⟨i1,i2⟩
    ·exact .inl (.step h hk ih)
    ·exact .inr ⟨.step h hk i1,i2⟩
   ·have:_=k:=Nat.le_antisymm (Nat.lt_succ_iff.1 hc) hk
    subst this
    rcases ih with ih | ⟨_,i2⟩
    ·exact .inr ⟨.one h,ih⟩
    ·exact .inr ⟨.one h,i2⟩
 ·rintro (w | ⟨w1,w2⟩)
  ·exact w.mono (by omega)
  ·exact (w1.mono (by omega)).trans (Nat.lt_succ_self k) (w2.mono (by omega))
end Jq

namespace Jq
open Go
end Jq

namespace Jq
open Go
end Jq

namespace Jq
open Go
end Jq

namespace Jq
open Go
variable (C:CallF) (L:LoopF) (G:Glo)
set_option maxRecDepth 100000 in
theorem q81_eq (l0:List Cell) (a1:Int) (l2:List Cell) (h0:AHeap):q81.body C L G [(.agg l0),(.c (.int .i64 a1)),(.agg l2)] h0=if 0=0∧l0.length=3 then c1 (qh h0 (C 110 [(.agg l0),(.c (.int .i64 a1))] h0)) fun y_2 h_1=>asB y_2 fun b_3=>scK (!b_3) false (atK l2 0 fun q_4=>asI .i64 (.c q_4) fun n_5=>some ((decide (n_5<0)),h0)) true h0 fun b_6 h_7=>scK b_6 false (atK l2 0 fun q_8=>asI .i64 (.c q_8) fun n_9=>atK l0 2 fun q_10=>idxSK 1 q_10 a1 fun k_11 N_12 o_13=>rdH h_7 k_11 N_12 fun l_14=>atK l_14 o_13 fun q_15=>lenK q_15 fun n_16=>some ((decide (n_9≥n_16)),h_7)) true h_7 fun b_17 h_18=>if b_17=true then if 0=0∧(List.replicate 9 ci0).length=9∧(List.replicate 9 ci0).length=9 then if 0=0∧(List.replicate 9 ci0).length=9 then some ([(.agg (List.replicate 9 ci0)),(.c (.bool false))],h_18) else none else none else atK l0 2 fun q_19=>idxSK 1 q_19 a1 fun k_20 N_21 o_22=>rdH h_18 k_20 N_21 fun l_23=>atK l_23 o_22 fun q_24=>atK l2 0 fun q_25=>asI .i64 (.c q_25) fun n_26=>idxSK 9 q_24 n_26 fun k_27 N_28 o_29=>rdH h_18 k_27 N_28 fun l_30=>if o_29+9≤l_30.length then if 0=0∧(List.replicate 9 ci0).length=9∧((l_30.drop o_29).take 9).length=9 then atK ((l_30.drop o_29).take 9) 0 fun q_31=>asI .i64 (.c q_31) fun n_32=>scK (n_32==5) false (atK ((l_30.drop o_29).take 9) 0 fun q_33=>asI .i64 (.c q_33) fun n_34=>some ((n_34==6),h_18)) true h_18 fun b_35 h_36=>if b_35=true then if 0=0∧(List.replicate 9 ci0).length=9∧(List.replicate 9 ci0).length=9 then if 0=0∧(List.replicate 9 ci0).length=9 then some ([(.agg (List.replicate 9 ci0)),(.c (.bool false))],h_36) else none else none else if 0=0∧((l_30.drop o_29).take 9).length=9 then if 0=0∧(List.replicate 9 ci0).length=9∧((l_30.drop o_29).take 9).length=9 then if 0=0∧((l_30.drop o_29).take 9).length=9 then some ([(.agg ((l_30.drop o_29).take 9)),(.c (.bool true))],h_36) else none else none else none else none else none else none:=by kernel_rfl
set_option maxRecDepth 100000 in
theorem q92_eq (l0 l1:List Cell) (h0:AHeap):q92.body C L G [(.agg l0),(.agg l1)] h0=atK l0 0 fun q_1=>asI .i64 (.c q_1) fun n_2=>scK (decide (n_2≥0)) true (atK l0 0 fun q_3=>asI .i64 (.c q_3) fun n_4=>some ((decide (n_4≤3)),h0)) false h0 fun b_5 h_6=>if b_5=true then atK l0 0 fun q_7=>asI .i64 (.c q_7) fun n_8=>if 0≤n_8∧n_8<((4:Nat):Int) then atK l1 (1+((Int.toNat n_8)*1)) fun q_9=>asI .i64 (.c q_9) fun n_10=>some ([(.c (.int .i64 n_10))],h_6) else none else atK l0 1 fun q_11=>asI .i64 (.c q_11) fun n_12=>some ([(.c (.int .i64 n_12))],h_6):=by kernel_rfl
def q101_k2 (C:CallF) (L:LoopF) (G:Glo) (h0:AHeap):Ex→St→Option (List AV × AHeap):=kSeq (fun st=>q101_p1.exec C L G st (q101.fin G h0)) (q101.fin G h0)
def q101_k3 (C:CallF) (L:LoopF) (G:Glo) (h0:AHeap):Ex→St→Option (List AV × AHeap):=kBlk 0 (q101_k2 C L G h0)
def q101_s2 (a4:Int) (s0 s1 s2:List Cell) (h:AHeap):St:=⟨tops 1 (.loc 0 0 :: .loc 1 0 :: .loc 2 0 :: .v (.c (.int .i64 a4)) :: tops 92 []),[some s0,some s1,some s2,none],h⟩
def q101_F2 (C:CallF) (L:LoopF) (G:Glo):St→Option (Ex × St):=roundF (fun st f=>q101_b2.exec C L G st f) [1,2,3,4] [0,1,2] [(1,[1,2,3],[0,1,2])]
def q101_k4 (C:CallF) (L:LoopF) (G:Glo):Ex→St→Option (Ex × St):=kSeq (fun st=>q101_p2.exec C L G st (kLoop [1,2,3,4] [0,1,2] [(1,[1,2,3],[0,1,2])])) (kLoop [1,2,3,4] [0,1,2] [(1,[1,2,3],[0,1,2])])
def q101_k5 (C:CallF) (L:LoopF) (G:Glo):Ex→St→Option (Ex × St):=kBlk 1 (q101_k4 C L G)
def q101_k6 (C:CallF) (L:LoopF) (G:Glo):Ex→St→Option (Ex × St):=kSeq (fun st=>q101_p3.exec C L G st (q101_k5 C L G)) (q101_k5 C L G)
def q101_k7 (C:CallF) (L:LoopF) (G:Glo):Ex→St→Option (Ex × St):=kBlk 2 (q101_k6 C L G)
def q101_s1 (a4 a5 a6:Int) (s0 s1 s2:List Cell) (h:AHeap):St:=⟨tops 1 (.loc 0 0 :: .loc 1 0 :: .loc 2 0 :: .v (.c (.int .i64 a4)) :: .v (.c (.int .i64 a5)) :: .v (.c (.int .i64 a6)) :: tops 90 []),[some s0,some s1,some s2,none],h⟩
def q101_F1 (C:CallF) (L:LoopF) (G:Glo):St→Option (Ex × St):=roundF (fun st f=>q101_b1.exec C L G st f) [1,2,3,4,5,6] [0,1,2] [(3,[1,2,3,4,5],[0,1,2])]
def q101_x1_3 (a4 a5:Int) (s0 s1 s2:List Cell) (h:AHeap):St:=⟨tops 1 (.loc 0 0 :: .loc 1 0 :: .loc 2 0 :: .v (.c (.int .i64 a4)) :: .v (.c (.int .i64 a5)) :: tops 91 []),[some s0,some s1,some s2,none],h⟩
def q101_x2_1 (s0 s1 s2:List Cell) (h:AHeap):St:=⟨tops 1 (.loc 0 0 :: .loc 1 0 :: .loc 2 0 :: tops 93 []),[some s0,some s1,some s2,none],h⟩
def q101_k8 (C:CallF) (L:LoopF) (G:Glo) (h0:AHeap):Ex→St→Option (List AV × AHeap):=kSeq (fun st=>q101_p4.exec C L G st (q101.fin G h0)) (q101.fin G h0)
def q101_k9 (C:CallF) (L:LoopF) (G:Glo) (h0:AHeap):Ex→St→Option (List AV × AHeap):=kBlk 4 (q101_k8 C L G h0)
def q101_s4 (a7:Int) (s0 s1 s2:List Cell) (h:AHeap):St:=⟨tops 1 (.loc 0 0 :: .loc 1 0 :: .loc 2 0 :: tops 3 (.v (.c (.int .i64 a7)) :: tops 89 [])),[some s0,some s1,some s2,none],h⟩
def q101_F4 (C:CallF) (L:LoopF) (G:Glo):St→Option (Ex × St):=roundF (fun st f=>q101_b4.exec C L G st f) [1,2,3,7] [0,1,2] [(5,[2,3],[1,2])]
def q101_k10 (C:CallF) (L:LoopF) (G:Glo):Ex→St→Option (Ex × St):=kSeq (fun st=>q101_p5.exec C L G st (kLoop [1,2,3,7] [0,1,2] [(5,[2,3],[1,2])])) (kLoop [1,2,3,7] [0,1,2] [(5,[2,3],[1,2])])
def q101_k11 (C:CallF) (L:LoopF) (G:Glo):Ex→St→Option (Ex × St):=kBlk 5 (q101_k10 C L G)
def q101_k12 (C:CallF) (L:LoopF) (G:Glo):Ex→St→Option (Ex × St):=kSeq (fun st=>q101_p6.exec C L G st (q101_k11 C L G)) (q101_k11 C L G)
def q101_k13 (C:CallF) (L:LoopF) (G:Glo):Ex→St→Option (Ex × St):=kBlk 6 (q101_k12 C L G)
def q101_s3 (a7:Int) (x8:Cell) (a9:Int) (s0 s1 s2:List Cell) (h:AHeap):St:=⟨tops 1 (.loc 0 0 :: .loc 1 0 :: .loc 2 0 :: tops 3 (.v (.c (.int .i64 a7)) :: .v (.c x8) :: .v (.c (.int .i64 a9)) :: tops 87 [])),[some s0,some s1,some s2,none],h⟩
def q101_F3 (C:CallF) (L:LoopF) (G:Glo):St→Option (Ex × St):=roundF (fun st f=>q101_b3.exec C L G st f) [1,2,3,7,8,9] [0,1,2] [(7,[1,2,3,7,8],[0,1,2])]
def q101_x3_7 (a7:Int) (x8:Cell) (s0 s1 s2:List Cell) (h:AHeap):St:=⟨tops 1 (.loc 0 0 :: .loc 1 0 :: .loc 2 0 :: tops 3 (.v (.c (.int .i64 a7)) :: .v (.c x8) :: tops 88 [])),[some s0,some s1,some s2,none],h⟩
def q101_x4_5 (s1 s2:List Cell) (h:AHeap):St:=⟨tops 2 (.loc 1 0 :: .loc 2 0 :: tops 93 []),[none,some s1,some s2,none],h⟩
theorem q101_r1 (a4 a5 a6:Int) (s0 s1 s2:List Cell) (h:AHeap):q101_F1 C L G (q101_s1 a4 a5 a6 s0 s1 s2 h)=atK s0 1 fun q_6=>lenK q_6 fun n_7=>if (decide (a6<n_7))=true then atK s0 1 fun q_8=>idxSK 2 q_8 a6 fun k_9 N_10 o_11=>rdH h k_9 N_10 fun l_12=>atK l_12 (o_11+0) fun q_13=>asI .i64 (.c q_13) fun n_14=>atK s2 0 fun q_15=>idxSK 1 q_15 a4 fun k_16 N_17 o_18=>rdH h k_16 N_17 fun l_19=>atK l_19 o_18 fun q_20=>asI .u8 (.c q_20) fun n_21=>if (n_14==(G.wrap .i64 n_21))=true then atK s0 1 fun q_22=>idxSK 2 q_22 a6 fun k_23 N_24 o_25=>rdH h k_23 N_24 fun l_26=>atK l_26 (o_25+1) fun q_27=>asI .i64 (.c q_27) fun n_28=>some (.normal,(q101_s1 a4 n_28 (G.wrap .i64 (a6+1)) s0 s1 s2 h)) else some (.normal,(q101_s1 a4 a5 (G.wrap .i64 (a6+1)) s0 s1 s2 h)) else some ((.exit 2),(q101_x1_3 a4 a5 s0 s1 s2 h)):=by kernel_rfl
theorem q101_e1_3 (a4 a5:Int) (s0 s1 s2:List Cell) (h:AHeap):(q101_k7 C L G) (.exit 2) (q101_x1_3 a4 a5 s0 s1 s2 h)=atK s2 1 fun q_29=>if (splice [ci0] 0 [(.int .i64 a5)]).length=1*1 then appK 1 8 q_29 (splice [ci0] 0 [(.int .i64 a5)]) h fun x_30 h_31=>if 1<s2.length then some (.normal,(q101_s2 (G.wrap .i64 (a4+1)) s0 s1 (s2.set 1 x_30) h_31)) else none else none:=by kernel_rfl
theorem q101_r2 (a4:Int) (s0 s1 s2:List Cell) (h:AHeap):q101_F2 C L G (q101_s2 a4 s0 s1 s2 h)=atK s2 0 fun q_4=>lenK q_4 fun n_5=>if (decide (a4<n_5))=true then (L (q101_F1 C L G) (q101_s1 a4 0 0 s0 s1 s2 h)).bind fun p_32=>(q101_k7 C L G) p_32.1 p_32.2 else some ((.exit 0),(q101_x2_1 s0 s1 s2 h)):=by kernel_rfl
theorem q101_r3 (a7:Int) (x8:Cell) (a9:Int) (s0 s1 s2:List Cell) (h:AHeap):q101_F3 C L G (q101_s3 a7 x8 a9 s0 s1 s2 h)=atK s0 2 fun q_35=>idxSK 1 q_35 a7 fun k_36 N_37 o_38=>rdH h k_36 N_37 fun l_39=>atK l_39 o_38 fun q_40=>lenK q_40 fun n_41=>if (decide (a9<n_41))=true then atK s0 2 fun q_42=>idxSK 1 q_42 a7 fun k_43 N_44 o_45=>rdH h k_43 N_44 fun l_46=>atK l_46 o_45 fun q_47=>idxSK 9 q_47 a9 fun k_48 N_49 o_50=>rdH h k_48 N_49 fun l_51=>if o_50+9≤l_51.length then if 0=0∧(List.replicate 9 ci0).length=9∧((l_51.drop o_50).take 9).length=9 then atK ((l_51.drop o_50).take 9) 2 fun q_52=>asI .i64 (.c q_52) fun n_53=>if (n_53 != 0)=true then if 0=0∧s2.length=3 then atK ((l_51.drop o_50).take 9) 2 fun q_54=>asI .i64 (.c q_54) fun n_55=>c1 (C 122 [(.agg s2),(.c (.int .i64 n_55))] h) fun y_57 h_56=>asI .i64 y_57 fun n_58=>if 2<((l_51.drop o_50).take 9).length then if 0=0∧(((l_51.drop o_50).take 9).set 2 (.int .i64 n_58)).length=9 then if (((l_51.drop o_50).take 9).set 2 (.int .i64 n_58)).length=9∧0+9≤(List.replicate 9 ci0).length then if (splice (List.replicate 9 ci0) 0 (((l_51.drop o_50).take 9).set 2 (.int .i64 n_58))).length=1*9 then appK 9 72 x8 (splice (List.replicate 9 ci0) 0 (((l_51.drop o_50).take 9).set 2 (.int .i64 n_58))) h_56 fun x_59 h_60=>some (.normal,(q101_s3 a7 x_59 (G.wrap .i64 (a9+1)) s0 s1 s2 h_60)) else none else none else none else none else none else if 0=0∧((l_51.drop o_50).take 9).length=9 then if ((l_51.drop o_50).take 9).length=9∧0+9≤(List.replicate 9 ci0).length then if (splice (List.replicate 9 ci0) 0 ((l_51.drop o_50).take 9)).length=1*9 then appK 9 72 x8 (splice (List.replicate 9 ci0) 0 ((l_51.drop o_50).take 9)) h fun x_61 h_62=>some (.normal,(q101_s3 a7 x_61 (G.wrap .i64 (a9+1)) s0 s1 s2 h_62)) else none else none else none else none else none else some ((.exit 6),(q101_x3_7 a7 x8 s0 s1 s2 h)):=by kernel_rfl
theorem q101_e3_7 (a7:Int) (x8:Cell) (s0 s1 s2:List Cell) (h:AHeap):(q101_k13 C L G) (.exit 6) (q101_x3_7 a7 x8 s0 s1 s2 h)=atK s2 2 fun q_63=>if (splice [Cell.nils] 0 [x8]).length=1*1 then appK 1 24 q_63 (splice [Cell.nils] 0 [x8]) h fun x_64 h_65=>if 2<s2.length then some (.normal,(q101_s4 (G.wrap .i64 (a7+1)) s0 s1 (s2.set 2 x_64) h_65)) else none else none:=by kernel_rfl
theorem q101_r4 (a7:Int) (s0 s1 s2:List Cell) (h:AHeap):q101_F4 C L G (q101_s4 a7 s0 s1 s2 h)=atK s0 2 fun q_33=>lenK q_33 fun n_34=>if (decide (a7<n_34))=true then (L (q101_F3 C L G) (q101_s3 a7 .nils 0 s0 s1 s2 h)).bind fun p_66=>(q101_k13 C L G) p_66.1 p_66.2 else some ((.exit 4),(q101_x4_5 s1 s2 h)):=by kernel_rfl
theorem q101_e4_5 (h0:AHeap) (s1 s2:List Cell) (h:AHeap):(q101_k9 C L G h0) (.exit 4) (q101_x4_5 s1 s2 h)=if 0=0∧s2.length=3 then if 0=0∧s1.length=3∧s2.length=3 then if 0=0∧s2.length=3 then some ([(.agg s2)],h) else none else none else none:=by kernel_rfl
theorem q101_e2_1 (h0:AHeap) (s0 s1 s2:List Cell) (h:AHeap):(q101_k3 C L G h0) (.exit 0) (q101_x2_1 s0 s1 s2 h)=(L (q101_F4 C L G) (q101_s4 0 s0 s1 s2 h)).bind fun p_67=>(q101_k9 C L G h0) p_67.1 p_67.2:=by kernel_rfl
set_option maxRecDepth 100000 in
theorem q101_eq (l0:List Cell) (h0:AHeap):q101.body C L G [(.agg l0)] h0=if 0=0∧l0.length=5 then c1 (C 121 [(.agg l0)] h0) fun y_2 h_1=>asC y_2 fun x_3=>if 0=0∧[Cell.nils,Cell.nils,Cell.nils].length=3∧(splice [Cell.nils,Cell.nils,Cell.nils] 0 [x_3]).length=3 then (L (q101_F2 C L G) (q101_s2 0 l0 [Cell.nils,Cell.nils,Cell.nils] (splice [Cell.nils,Cell.nils,Cell.nils] 0 [x_3]) h_1)).bind fun p_68=>(q101_k3 C L G h0) p_68.1 p_68.2 else none else none:=by kernel_rfl
set_option maxRecDepth 100000 in
theorem q104_eq (l0:List Cell) (a1:Int) (h0:AHeap):q104.body C L G [(.agg l0),(.c (.int .i64 a1))] h0=if 0=0∧l0.length=3 then c1 (C 110 [(.agg l0),(.c (.int .i64 a1))] h0) fun y_2 h_1=>asB y_2 fun b_3=>if (!b_3)=true then if 0=0∧[ci0,ci0,ci0,ci0,ci0].length=5∧[ci0,ci0,ci0,ci0,ci0].length=5 then if 0=0∧[ci0,ci0,ci0,ci0,ci0].length=5 then some ([(.agg [ci0,ci0,ci0,ci0,ci0])],h_1) else none else none else if 0=0∧l0.length=3 then c1 (C 123 [(.agg l0),(.c (.int .i64 a1)),(.agg [ci0,ci0,ci0,ci0,ci0])] h_1) fun y_5 h_4=>asA y_5 fun l_6=>if 0=0∧[ci0,ci0,ci0,ci0,ci0].length=5∧l_6.length=5 then if 0=0∧l_6.length=5 then some ([(.agg l_6)],h_4) else none else none else none else none:=by kernel_rfl
set_option maxRecDepth 100000 in
theorem q107_eq (l0:List Cell) (a1:Int) (l2:List Cell) (a3:Int) (h0:AHeap):q107.body C L G [(.agg l0),(.c (.int .i64 a1)),(.agg l2),(.c (.int .i64 a3))] h0=if 0=0∧l0.length=3 then if 0=0∧l2.length=5 then c2 (C 81 [(.agg l0),(.c (.int .i64 a1)),(.agg l2)] h0) fun y_2 y_3 h_1=>asA y_2 fun l_4=>asB y_3 fun b_5=>if 0=0∧(List.replicate 9 ci0).length=9∧l_4.length=9 then if (!b_5)=true then if 0=0∧l2.length=5 then if 0=0∧[ci0,ci0,ci0,ci0,ci0].length=5∧l2.length=5 then if 0=0∧l2.length=5 then some ([(.agg l2)],h_1) else none else none else none else atK l_4 0 fun q_6=>asI .i64 (.c q_6) fun n_7=>scK (n_7==2) false (atK l_4 0 fun q_8=>asI .i64 (.c q_8) fun n_9=>some ((n_9==4),h_1)) true h_1 fun b_10 h_11=>if b_10=true then atK l_4 1 fun q_12=>asI .i64 (.c q_12) fun n_13=>if 0≤n_13∧n_13<((4:Nat):Int) then if (1+((Int.toNat n_13)*1))<l2.length then atK (l2.set (1+((Int.toNat n_13)*1)) (.int .i64 a3)) 0 fun q_14=>asI .i64 (.c q_14) fun n_15=>if 0<(l2.set (1+((Int.toNat n_13)*1)) (.int .i64 a3)).length then if 0=0∧l0.length=3 then if 0=0∧((l2.set (1+((Int.toNat n_13)*1)) (.int .i64 a3)).set 0 (.int .i64 (G.wrap .i64 (n_15+1)))).length=5 then c1 (C 123 [(.agg l0),(.c (.int .i64 a1)),(.agg ((l2.set (1+((Int.toNat n_13)*1)) (.int .i64 a3)).set 0 (.int .i64 (G.wrap .i64 (n_15+1)))))] h_11) fun y_17 h_16=>asA y_17 fun l_18=>if 0=0∧[ci0,ci0,ci0,ci0,ci0].length=5∧l_18.length=5 then if 0=0∧l_18.length=5 then some ([(.agg l_18)],h_16) else none else none else none else none else none else none else none else atK l2 0 fun q_19=>asI .i64 (.c q_19) fun n_20=>if 0<l2.length then if 0=0∧l0.length=3 then if 0=0∧(l2.set 0 (.int .i64 (G.wrap .i64 (n_20+1)))).length=5 then c1 (C 123 [(.agg l0),(.c (.int .i64 a1)),(.agg (l2.set 0 (.int .i64 (G.wrap .i64 (n_20+1)))))] h_11) fun y_22 h_21=>asA y_22 fun l_23=>if 0=0∧[ci0,ci0,ci0,ci0,ci0].length=5∧l_23.length=5 then if 0=0∧l_23.length=5 then some ([(.agg l_23)],h_21) else none else none else none else none else none else none else none else none:=by kernel_rfl
set_option maxRecDepth 100000 in
theorem q110_eq (l0:List Cell) (a1:Int) (h0:AHeap):q110.body C L G [(.agg l0),(.c (.int .i64 a1))] h0=scK (decide (a1≥0)) true (atK l0 2 fun q_1=>lenK q_1 fun n_2=>some ((decide (a1<n_2)),h0)) false h0 fun b_3 h_4=>some ([(.c (.bool b_3))],h_4):=by kernel_rfl
set_option maxRecDepth 100000 in
theorem q111_eq (l0 l1:List Cell) (a2:Int) (h0:AHeap):q111.body C L G [(.agg l0),(.agg l1),(.c (.int .i64 a2))] h0=atK l0 0 fun q_1=>asI .i64 (.c q_1) fun n_2=>if (n_2==1)=true then atK l0 2 fun q_3=>asI .i64 (.c q_3) fun n_4=>if 3+2≤l0.length then if 0=0∧l1.length=5 then c1 (qh h0 (C 92 [(.agg ((l0.drop 3).take 2)),(.agg l1)] h0)) fun y_6 h_5=>asI .i64 y_6 fun n_7=>if 0=0∧[ci0,ci0,ci0,ci0,ci0,ci0].length=6∧(splice (splice (splice [ci0,ci0,ci0,ci0,ci0,ci0] 2 [(.int .i64 2)]) 3 [(.int .i64 n_4)]) 5 [(.int .i64 n_7)]).length=6 then if 0=0∧(splice (splice (splice [ci0,ci0,ci0,ci0,ci0,ci0] 2 [(.int .i64 2)]) 3 [(.int .i64 n_4)]) 5 [(.int .i64 n_7)]).length=6 then some ([(.agg (splice (splice (splice [ci0,ci0,ci0,ci0,ci0,ci0] 2 [(.int .i64 2)]) 3 [(.int .i64 n_4)]) 5 [(.int .i64 n_7)]))],h0) else none else none else none else none else if (n_2==2)=true then atK l0 2 fun q_8=>asI .i64 (.c q_8) fun n_9=>if 0=0∧[ci0,ci0,ci0,ci0,ci0,ci0].length=6∧(splice (splice (splice [ci0,ci0,ci0,ci0,ci0,ci0] 2 [(.int .i64 1)]) 3 [(.int .i64 n_9)]) 4 [(.int .i64 a2)]).length=6 then if 0=0∧(splice (splice (splice [ci0,ci0,ci0,ci0,ci0,ci0] 2 [(.int .i64 1)]) 3 [(.int .i64 n_9)]) 4 [(.int .i64 a2)]).length=6 then some ([(.agg (splice (splice (splice [ci0,ci0,ci0,ci0,ci0,ci0] 2 [(.int .i64 1)]) 3 [(.int .i64 n_9)]) 4 [(.int .i64 a2)]))],h0) else none else none else if (n_2==4)=true then if 3+2≤l0.length then if 0=0∧l1.length=5 then c1 (C 92 [(.agg ((l0.drop 3).take 2)),(.agg l1)] h0) fun y_11 h_10=>asI .i64 y_11 fun n_12=>if (a2==n_12)=true then atK l0 2 fun q_13=>asI .i64 (.c q_13) fun n_14=>if 6+2≤l0.length then if 0=0∧l1.length=5 then c1 (qh h_10 (C 92 [(.agg ((l0.drop 6).take 2)),(.agg l1)] h_10)) fun y_16 h_15=>asI .i64 y_16 fun n_17=>if 0=0∧[ci0,ci0,ci0,ci0,ci0,ci0].length=6∧(splice (splice (splice (splice [ci0,ci0,ci0,ci0,ci0,ci0] 2 [(.int .i64 4)]) 3 [(.int .i64 n_14)]) 4 [(.int .i64 a2)]) 5 [(.int .i64 n_17)]).length=6 then if 0=0∧(splice (splice (splice (splice [ci0,ci0,ci0,ci0,ci0,ci0] 2 [(.int .i64 4)]) 3 [(.int .i64 n_14)]) 4 [(.int .i64 a2)]) 5 [(.int .i64 n_17)]).length=6 then some ([(.agg (splice (splice (splice (splice [ci0,ci0,ci0,ci0,ci0,ci0] 2 [(.int .i64 4)]) 3 [(.int .i64 n_14)]) 4 [(.int .i64 a2)]) 5 [(.int .i64 n_17)]))],h_10) else none else none else none else none else atK l0 2 fun q_18=>asI .i64 (.c q_18) fun n_19=>if 0=0∧[ci0,ci0,ci0,ci0,ci0,ci0].length=6∧(splice (splice (splice [ci0,ci0,ci0,ci0,ci0,ci0] 2 [(.int .i64 5)]) 3 [(.int .i64 n_19)]) 4 [(.int .i64 a2)]).length=6 then if 0=0∧(splice (splice (splice [ci0,ci0,ci0,ci0,ci0,ci0] 2 [(.int .i64 5)]) 3 [(.int .i64 n_19)]) 4 [(.int .i64 a2)]).length=6 then some ([(.agg (splice (splice (splice [ci0,ci0,ci0,ci0,ci0,ci0] 2 [(.int .i64 5)]) 3 [(.int .i64 n_19)]) 4 [(.int .i64 a2)]))],h_10) else none else none else none else none else if 0=0∧[ci0,ci0,ci0,ci0,ci0,ci0].length=6∧(splice [ci0,ci0,ci0,ci0,ci0,ci0] 2 [(.int .i64 3)]).length=6 then if 0=0∧(splice [ci0,ci0,ci0,ci0,ci0,ci0] 2 [(.int .i64 3)]).length=6 then some ([(.agg (splice [ci0,ci0,ci0,ci0,ci0,ci0] 2 [(.int .i64 3)]))],h0) else none else none:=by kernel_rfl
def q122_k2 (C:CallF) (L:LoopF) (G:Glo) (h0:AHeap):Ex→St→Option (List AV × AHeap):=kSeq (fun st=>q122_p1.exec C L G st (q122.fin G h0)) (q122.fin G h0)
def q122_k3 (C:CallF) (L:LoopF) (G:Glo) (h0:AHeap):Ex→St→Option (List AV × AHeap):=kBlk 0 (q122_k2 C L G h0)
def q122_s1 (a1 a5:Int) (s0:List Cell) (h:AHeap):St:=⟨tops 1 (.v (.c (.int .i64 a1)) :: .loc 0 0 :: tops 2 (.v (.c (.int .i64 a5)) :: tops 16 [])),[some s0],h⟩
def q122_F1 (C:CallF) (L:LoopF) (G:Glo):St→Option (Ex × St):=roundF (fun st f=>q122_b1.exec C L G st f) [1,2,5] [0] [(0,[4],[]),(1,[],[])]
def q122_x1_0 (a4:Int) (h:AHeap):St:=⟨tops 4 (.v (.c (.int .i64 a4)) :: tops 17 []),[none],h⟩
def q122_x1_1 (h:AHeap):St:=⟨tops 22 [],[none],h⟩
theorem q122_r1 (a1 a5:Int) (s0:List Cell) (h:AHeap):q122_F1 C L G (q122_s1 a1 a5 s0 h)=atK s0 0 fun q_1=>lenK q_1 fun n_2=>if (decide (a5<n_2))=true then atK s0 0 fun q_3=>idxSK 1 q_3 a5 fun k_4 N_5 o_6=>rdH h k_4 N_5 fun l_7=>atK l_7 o_6 fun q_8=>asI .u8 (.c q_8) fun n_9=>if ((G.wrap .i64 n_9)==a1)=true then some (.ret,(q122_x1_0 a5 h)) else some (.normal,(q122_s1 a1 (G.wrap .i64 (a5+1)) s0 h)) else some ((.exit 0),(q122_x1_1 h)):=by kernel_rfl
theorem q122_e1_0 (h0:AHeap) (a4:Int) (h:AHeap):(q122_k3 C L G h0) .ret (q122_x1_0 a4 h)=some ([(.c (.int .i64 a4))],h):=by kernel_rfl
theorem q122_e1_1 (h0:AHeap) (h:AHeap):(q122_k3 C L G h0) (.exit 0) (q122_x1_1 h)=some ([(.c (.int .i64 (-1)))],h):=by kernel_rfl
set_option maxRecDepth 100000 in
theorem q122_eq (l0:List Cell) (a1:Int) (h0:AHeap):q122.body C L G [(.agg l0),(.c (.int .i64 a1))] h0=(L (q122_F1 C L G) (q122_s1 a1 0 l0 h0)).bind fun p_10=>(q122_k3 C L G h0) p_10.1 p_10.2:=by kernel_rfl
def q123_k2 (C:CallF) (L:LoopF) (G:Glo) (h0:AHeap):Ex→St→Option (List AV × AHeap):=kSeq (fun st=>q123_p1.exec C L G st (q123.fin G h0)) (q123.fin G h0)
def q123_k3 (C:CallF) (L:LoopF) (G:Glo) (h0:AHeap):Ex→St→Option (List AV × AHeap):=kBlk 0 (q123_k2 C L G h0)
def q123_s1 (a1:Int) (s0 s1 s2:List Cell) (h:AHeap):St:=⟨tops 1 (.v (.c (.int .i64 a1)) :: tops 1 (.loc 0 0 :: tops 1 (.loc 1 0 :: .loc 2 0 :: tops 74 []))),[some s0,some s1,some s2,none],h⟩
def q123_F1 (C:CallF) (L:LoopF) (G:Glo):St→Option (Ex × St):=roundF (fun st f=>q123_b1.exec C L G st f) [1,3,5,6] [0,1,2] [(0,[6],[2]),(1,[5,6],[1,2])]
def q123_x1_0 (s2:List Cell) (h:AHeap):St:=⟨tops 6 (.loc 2 0 :: tops 74 []),[none,none,some s2,none],h⟩
def q123_x1_1 (s1 s2:List Cell) (h:AHeap):St:=⟨tops 5 (.loc 1 0 :: .loc 2 0 :: tops 74 []),[none,some s1,some s2,none],h⟩
theorem q123_r1 (a1:Int) (s0 s1 s2:List Cell) (h:AHeap):q123_F1 C L G (q123_s1 a1 s0 s1 s2 h)=atK s1 0 fun q_1=>asI .i64 (.c q_1) fun n_2=>atK s0 2 fun q_3=>idxSK 1 q_3 a1 fun k_4 N_5 o_6=>rdH h k_4 N_5 fun l_7=>atK l_7 o_6 fun q_8=>lenK q_8 fun n_9=>if (decide (n_2<n_9))=true then atK s0 2 fun q_10=>idxSK 1 q_10 a1 fun k_11 N_12 o_13=>rdH h k_11 N_12 fun l_14=>atK l_14 o_13 fun q_15=>atK s1 0 fun q_16=>asI .i64 (.c q_16) fun n_17=>idxSK 9 q_15 n_17 fun k_18 N_19 o_20=>rdH h k_18 N_19 fun l_21=>if o_20+9≤l_21.length then if 0=0∧(List.replicate 9 ci0).length=9∧((l_21.drop o_20).take 9).length=9 then atK ((l_21.drop o_20).take 9) 0 fun q_22=>asI .i64 (.c q_22) fun n_23=>if (n_23==5)=true then if 3+2≤((l_21.drop o_20).take 9).length then if 0=0∧s1.length=5 then c1 (C 92 [(.agg ((((l_21.drop o_20).take 9).drop 3).take 2)),(.agg s1)] h) fun y_25 h_24=>asI .i64 y_25 fun n_26=>atK ((l_21.drop o_20).take 9) 5 fun q_27=>asI .i64 (.c q_27) fun n_28=>if (n_28 != 0)=true then atK ((l_21.drop o_20).take 9) 5 fun q_29=>asI .i64 (.c q_29) fun n_30=>if 6+2≤((l_21.drop o_20).take 9).length then if 0=0∧s1.length=5 then c1 (qh h_24 (C 92 [(.agg ((((l_21.drop o_20).take 9).drop 6).take 2)),(.agg s1)] h_24)) fun y_32 h_31=>asI .i64 y_32 fun n_33=>c2 (qh h_24 (C 93 [(.c (.int .i64 n_30)),(.c (.int .i64 n_26)),(.c (.int .i64 n_33))] h_24)) fun y_35 y_36 h_34=>asI .i64 y_35 fun n_37=>asB y_36 fun b_38=>atK ((l_21.drop o_20).take 9) 1 fun q_39=>asI .i64 (.c q_39) fun n_40=>if 0≤n_40∧n_40<((4:Nat):Int) then if (1+((Int.toNat n_40)*1))<s1.length then atK (s1.set (1+((Int.toNat n_40)*1)) (.int .i64 n_37)) 0 fun q_41=>asI .i64 (.c q_41) fun n_42=>if 0<(s1.set (1+((Int.toNat n_40)*1)) (.int .i64 n_37)).length then some (.normal,(q123_s1 a1 s0 ((s1.set (1+((Int.toNat n_40)*1)) (.int .i64 n_37)).set 0 (.int .i64 (G.wrap .i64 (n_42+1)))) s2 h_24)) else none else none else none else none else none else atK ((l_21.drop o_20).take 9) 1 fun q_43=>asI .i64 (.c q_43) fun n_44=>if 0≤n_44∧n_44<((4:Nat):Int) then if (1+((Int.toNat n_44)*1))<s1.length then atK (s1.set (1+((Int.toNat n_44)*1)) (.int .i64 n_26)) 0 fun q_45=>asI .i64 (.c q_45) fun n_46=>if 0<(s1.set (1+((Int.toNat n_44)*1)) (.int .i64 n_26)).length then some (.normal,(q123_s1 a1 s0 ((s1.set (1+((Int.toNat n_44)*1)) (.int .i64 n_26)).set 0 (.int .i64 (G.wrap .i64 (n_46+1)))) s2 h_24)) else none else none else none else none else none else if (n_23==6)=true then if 3+2≤((l_21.drop o_20).take 9).length then if 0=0∧s1.length=5 then c1 (qh h (C 92 [(.agg ((((l_21.drop o_20).take 9).drop 3).take 2)),(.agg s1)] h)) fun y_48 h_47=>asI .i64 y_48 fun n_49=>if 6+2≤((l_21.drop o_20).take 9).length then if 0=0∧s1.length=5 then c1 (qh h (C 92 [(.agg ((((l_21.drop o_20).take 9).drop 6).take 2)),(.agg s1)] h)) fun y_51 h_50=>asI .i64 y_51 fun n_52=>if (n_49==n_52)=true then atK s1 0 fun q_53=>asI .i64 (.c q_53) fun n_54=>atK ((l_21.drop o_20).take 9) 8 fun q_55=>asI .i64 (.c q_55) fun n_56=>if 0<s1.length then atK (s1.set 0 (.int .i64 (G.wrap .i64 (n_54+n_56)))) 0 fun q_57=>asI .i64 (.c q_57) fun n_58=>if 0<(s1.set 0 (.int .i64 (G.wrap .i64 (n_54+n_56)))).length then some (.normal,(q123_s1 a1 s0 ((s1.set 0 (.int .i64 (G.wrap .i64 (n_54+n_56)))).set 0 (.int .i64 (G.wrap .i64 (n_58+1)))) s2 h)) else none else none else atK s1 0 fun q_59=>asI .i64 (.c q_59) fun n_60=>if 0<s1.length then some (.normal,(q123_s1 a1 s0 (s1.set 0 (.int .i64 (G.wrap .i64 (n_60+1)))) s2 h)) else none else none else none else none else none else if 0=0∧s1.length=5 then if 0=0∧s2.length=5∧s1.length=5 then some (.ret,(q123_x1_0 s1 h)) else none else none else none else none else some ((.exit 0),(q123_x1_1 s1 s2 h)):=by kernel_rfl
theorem q123_e1_0 (h0:AHeap) (s2:List Cell) (h:AHeap):(q123_k3 C L G h0) .ret (q123_x1_0 s2 h)=if 0=0∧s2.length=5 then some ([(.agg s2)],h) else none:=by kernel_rfl
theorem q123_e1_1 (h0:AHeap) (s1 s2:List Cell) (h:AHeap):(q123_k3 C L G h0) (.exit 0) (q123_x1_1 s1 s2 h)=if 0=0∧s1.length=5 then if 0=0∧s2.length=5∧s1.length=5 then if 0=0∧s1.length=5 then some ([(.agg s1)],h) else none else none else none:=by kernel_rfl
set_option maxRecDepth 100000 in
theorem q123_eq (l0:List Cell) (a1:Int) (l2:List Cell) (h0:AHeap):q123.body C L G [(.agg l0),(.c (.int .i64 a1)),(.agg l2)] h0=(L (q123_F1 C L G) (q123_s1 a1 l0 l2 [ci0,ci0,ci0,ci0,ci0] h0)).bind fun p_61=>(q123_k3 C L G h0) p_61.1 p_61.2:=by kernel_rfl
end Jq

namespace Jq
open Go
def ofR (n:Nat) (l:List (Int × Int)):Nat→Nat:=l.foldl (fun f p=>addR n f p.1 p.2) fun _=>0
variable {E:Env}
end Jq

namespace Jq
open Go
variable (C:CallF) (L:LoopF) (G:Glo)
set_option maxRecDepth 100000 in
theorem q42_eq (a0:Int) (h0:AHeap):q42.body C L G [(.c (.int .u64 a0))] h0=if (a0==0)=true then some ([(.c (.int .i64 64))],h0) else let v_1:Int:=(G.wrap .u64 ((G.band .u64 a0 (G.wrap .u64 (0 - a0)))*285870213051353865));if 0≤(G.shr .u64 v_1 58)∧(G.shr .u64 v_1 58)<((64:Nat):Int) then atK (G.tab 1) (0+((Int.toNat (G.shr .u64 v_1 58))*1)) fun q_2=>asI .u8 (.c q_2) fun n_3=>some ([(.c (.int .i64 (G.wrap .i64 n_3)))],h0) else none:=by kernel_rfl
end Jq

namespace Jq
open Go
def pcN:Nat→Nat→Nat
 | 0,_=>0
 | k+1,x=>x % 2+pcN k (x / 2)
def pc (x:Nat):Nat:=pcN 64 x
def mapB (f:Nat→Nat):Nat→Nat→Nat
 | 0,_=>0
 | k+1,x=>f (x % 256)+256*mapB f k (x / 256)
def repB (c:Nat):Nat→Nat
 | 0=>0
 | k+1=>c+256*repB c k
def fb1 (b:Nat):Nat:=((b / 2) &&& 0x55)+(b &&& 0x55)
def fb2 (b:Nat):Nat:=((b / 4) &&& 0x33)+(b &&& 0x33)
def fb3 (b:Nat):Nat:=(b+b / 16) &&& 0x0f
variable {E:Env}
theorem sh_by {k m:Nat} (hk:k≤64) (hm:2 ^ k=m) (y:Nat):E.glob.shr .u64 (y:Int) (k:Int)=((y / m:Nat):Int):=by
 rw [g_shr hk,Nat.shiftRight_eq_div_pow,hm]
end Jq

namespace Jq
open Go
variable {E:Env}
theorem mul_wrap (y:Nat):E.glob.wrap .u64 ((y:Int)*285870213051353865)=((y*285870213051353865 % 18446744073709551616:Nat):Int):=by
 show IntKind.wrap .u64 _=_
 simp only [IntKind.wrap,IntKind.signed,IntKind.bits,Bool.false_and,Bool.false_eq_true,if_false];omega
theorem neg_wrap {x:Nat} (hx:x<2 ^ 64) (h0:x≠0):E.glob.wrap .u64 (0 - (x:Int))=((2 ^ 64 - x:Nat):Int):=by
 show IntKind.wrap .u64 _=_
 simp only [IntKind.wrap,IntKind.signed,IntKind.bits,Bool.false_and,Bool.false_eq_true,if_false];omega
theorem shr58 (y:Nat):E.glob.shr .u64 (y:Int) 58=((y / 288230376151711744:Nat):Int):=sh_by (k:=58) (by omega) (by decide) y
theorem getD_some {L:List Nat} {n i k:Nat} (hn:L.length=n) (hi:i<n) (hd:L.getD i 0=k):L[i]? = some k:=by
 rw [List.getD_eq_getElem?_getD] at hd
 cases h:L[i]? with
 | none=>rw [List.getElem?_eq_none_iff] at h;omega
 | some x=>rw [h] at hd;exact congrArg some hd
theorem deB_len:Go.Lib.deBruijn64tab.length=64:=by decide
theorem TrailingZeros_R (hE:q42_In E) (htab:∀k,k<64→(E.tab 1)[k]? = (Go.Lib.deBruijn64tab[k]?).map fun (n:Nat)=>Cell.int .u8 (n:Int)) {x:Nat} (hx:x<2 ^ 64) (h0:x≠0) (h:AHeap) :
  R E 42 [.c (.int .u64 x)] h=some ([.c (.int .i64 (Go.Lib.ctz 64 x))],h):=by
 refine R_intro hE.fn ?_
 have hne:((x:Int)==0)=false:=by rw [beq_eq_false_iff_ne];omega
 obtain ⟨q1,q2⟩:=Go.Lib.lowest_bit 64 x h0 hx
 rw [q42_eq,hne,neg_wrap hx h0,g_band hx (by omega),q1,mul_wrap]
 dsimp only
 rw [shr58]
 simp only [Bool.false_eq_true,if_false]
 obtain ⟨d1,d2⟩:=Go.Lib.deBruijn64_at (Go.Lib.ctz 64 x) q2
 generalize Go.Lib.ctz 64 x=k at *
 generalize 2 ^ k*285870213051353865 % 18446744073709551616 / 288230376151711744=i at *
 have hc:(E.glob.tab 1)[0+(i:Int).toNat*1]? = some (.int .u8 (k:Int)):=by
  rw [Int.toNat_natCast,Nat.mul_one,Nat.zero_add]
  show (E.tab 1)[i]? = _
  rw [htab i d1,getD_some deB_len d1 d2]
  rfl
 have hi:0≤(i:Int)∧(i:Int)<((64:Nat):Int):=⟨Int.natCast_nonneg _,by exact_mod_cast d1⟩
 rw [if_pos hi,atK_ok hc,asI_ok,g_wrap_i64 (by omega) (by omega)]
end Jq

namespace Jq
open Go
def bitsL (s:Nat):List Nat:=(List.range 64).filter fun i=>s.testBit i
theorem mem_bitsL {s i:Nat}:i∈bitsL s↔i<64∧s.testBit i=true:=by simp [bitsL]
theorem low_form {s:Nat} (hs:s<2 ^ 64) (h0:s≠0):∃m,s=2 ^ (Lib.ctz 64 s+1)*m+2 ^ Lib.ctz 64 s∧Lib.ctz 64 s<64:=by
 have:Lib.ctz 64 s=Lib.ctzFrom 64 s:=by unfold Lib.ctz;rw [if_neg h0]
 rw [this]
 obtain ⟨m,h1,h2⟩:=Lib.ctzFrom_spec 64 s (by omega) hs
 refine ⟨m,?_,h2⟩
 conv=>lhs;rw [h1]
 rw [Nat.mul_add,Nat.mul_one,←Nat.mul_assoc,Nat.pow_succ]
theorem low_bit {s:Nat} (hs:s<2 ^ 64) (h0:s≠0):s.testBit (Lib.ctz 64 s)=true∧(∀j,j<Lib.ctz 64 s→s.testBit j=false)∧∀j,(s &&& (s - 1)).testBit j=(s.testBit j&&decide (j≠Lib.ctz 64 s)):=by
 obtain ⟨m,h1,h2⟩:=low_form hs h0
 generalize Lib.ctz 64 s=k at h1 h2
 have hp:0<2 ^ k:=Nat.two_pow_pos k
 have hlt:2 ^ k<2 ^ (k+1):=by rw [Nat.pow_succ];omega
 have t1:∀j,s.testBit j=if j<k+1 then decide (j=k) else m.testBit (j - (k+1)):=by
  intro j
  rw [h1,Nat.testBit_two_pow_mul_add _ hlt]
  split
  ·rw [Nat.testBit_two_pow,Bool.eq_iff_iff];simp;exact eq_comm
  ·rfl
 have t2:∀j,(s - 1).testBit j=if j<k+1 then decide (j<k) else m.testBit (j - (k+1)):=by
  intro j
  have:s - 1=2 ^ (k+1)*m+(2 ^ k - 1):=by omega
  rw [this,Nat.testBit_two_pow_mul_add _ (by omega)]
  split
  ·rw [Nat.testBit_two_pow_sub_one]
  ·rfl
 refine ⟨by rw [t1,if_pos (by omega)];simp,fun j hj=>by rw [t1,if_pos (by omega)];simp;omega,fun j=>?_⟩
 rw [Nat.testBit_and,t1,t2]
 split
 ·rw [Bool.eq_iff_iff];simp;omega
 ·rename_i hj
  have:decide (j≠k)=true:=by simp;omega
  rw [this,Bool.and_self,Bool.and_true]
theorem bitsL_cons {s:Nat} (hs:s<2 ^ 64) (h0:s≠0):bitsL s=Lib.ctz 64 s :: bitsL (s &&& (s - 1)):=by
 obtain ⟨b1,b2,b3⟩:=low_bit hs h0
 obtain ⟨_,_,hk⟩:=low_form hs h0
 generalize Lib.ctz 64 s=k at b1 b2 b3 hk
 unfold bitsL
 have hr:List.range 64=List.range k++k :: List.range' (k+1) (64 - (k+1)):=by
  rw [List.range_eq_range',List.range_eq_range']
  have:(64:Nat)=k+(1+(64 - (k+1))):=by omega
  conv=>lhs;rw [this]
  rw [List.range'_append_1.symm,Nat.zero_add,Nat.add_comm 1,List.range'_succ]
 rw [hr,List.filter_append,List.filter_append,List.filter_cons,List.filter_cons,if_pos b1,b3 k]
 have e1:(List.range k).filter (fun i=>s.testBit i)=[]:=List.filter_eq_nil_iff.2 fun x hx=>by rw [b2 x (by simpa using hx)];simp
 have e2:(List.range k).filter (fun i=>(s &&& (s - 1)).testBit i)=[]:=List.filter_eq_nil_iff.2 fun x hx=>by rw [b3,b2 x (by simpa using hx)];simp
 rw [e1,e2,List.nil_append,List.nil_append,if_neg (by simp)]
 congr 1
 refine List.filter_congr fun x hx=>?_
 rw [List.mem_range'_1] at hx
 rw [b3]
 have:decide (x≠k)=true:=by simp;omega
 rw [this,Bool.and_true]
theorem and_pred_lt {s:Nat} (h0:s≠0):s &&& (s - 1)<s:=Nat.lt_of_le_of_lt Nat.and_le_right (by omega)
theorem bitsL_zero:bitsL 0=[]:=by decide
theorem bitsL_nil {s:Nat} (hs:s<2 ^ 64):bitsL s=[]↔s=0:=by
 constructor
 ·intro h
  by_cases h0:s=0
  ·exact h0
  ·rw [bitsL_cons hs h0] at h;cases h
 ·rintro rfl;exact bitsL_zero
def firstI (s:Nat):Int:=if s=0 then -1 else Lib.ctz 64 s
def TabOk (E:Env):Prop:=∀k,k<64→(E.tab 1)[k]? = (Lib.deBruijn64tab[k]?).map fun (n:Nat)=>Cell.int .u8 (n:Int)
variable {E:Env}
theorem First_R (hE:q38_In E) (ht:TabOk E) {s:Nat} (hs:s<2 ^ 64) (h:AHeap):R E 38 [.c (.int .u64 s)] h=some ([.c (.int .i64 (firstI s))],h):=by
 refine R_intro hE.fn ?_
 rw [q38_eq]
 unfold firstI
 by_cases h0:s=0
 ·subst h0;simp
 ·have hne:((s:Int)==0)=false:=by rw [beq_eq_false_iff_ne];omega
  rw [hne,if_neg h0]
  simp only [Bool.false_eq_true,if_false]
  rw [TrailingZeros_R hE.c42 ht hs h0,c1_ok,asI_ok]
def natC (l:List Nat):List Cell:=intC .i64 (l.map fun (n:Nat)=>(n:Int))
theorem natC_len (l:List Nat):(natC l).length=l.length:=by simp [natC,intC]
theorem natC_snoc (l:List Nat) (n:Nat):natC (l++[n])=natC l++[.int .i64 n]:=by simp [natC,intC]
theorem natC_get {l:List Nat} {i n:Nat} (h:l[i]? = some n):(natC l)[i]? = some (.int .i64 n):=by simp [natC,intC,h]
theorem List_R (hE:q32_In E) (ht:TabOk E) {s:Nat} (hs:s<2 ^ 64) (h:AHeap) :
  ∃x h',R E 32 [.c (.int .u64 s)] h=some ([.c x],h')∧Own h.length h' x 1 (natC (bitsL s)) (bitsL s).length∧Kp h.length h h':=by
 suffices hs':∃x h',q32.body (R E) Lim E.glob [.c (.int .u64 s)] h=some ([.c x],h')∧Own h.length h' x 1 (natC (bitsL s)) (bitsL s).length∧Kp h.length h h' by
  obtain ⟨x,h',hh,hr⟩:=hs';exact ⟨x,h',R_intro hE.fn hh,hr⟩
 obtain ⟨p,hp,x,h',rfl,ho,hk⟩:=Lim_fall (F:=q32_F1 (R E) Lim E.glob) (fun st=>match st.t with | .v (.c (.int _ n)) :: _=>n.toNat | _=>0)
  (fun st=>∃(a:Nat) (x:Cell) (h':AHeap) (done:List Nat),st=q32_s1 a x h'∧a<2 ^ 64∧done++bitsL a=bitsL s∧Own h.length h' x 1 (natC done) done.length∧Kp h.length h h')
  (fun p=>∃x h',p=(.exit 0,q32_x1_1 x h')∧Own h.length h' x 1 (natC (bitsL s)) (bitsL s).length∧Kp h.length h h')
  (fun st hI=>by
   obtain ⟨a,x,h',done,rfl,ha,hd,ho,hk⟩:=hI
   by_cases h0:a=0
   ·right
    subst h0
    refine ⟨_,by rw [q32_r1];rfl,by simp,x,h',rfl,?_,hk⟩
    rw [bitsL_zero,List.append_nil] at hd
    rw [←hd];exact ho
   ·left
    have hne:((a:Int) != 0)=true:=by rw [bne_iff_ne];omega
    have hlen:done.length<64:=by
     have h1:(bitsL s).length≤64:=by unfold bitsL;exact Nat.le_trans (List.length_filter_le _ _) (by simp)
     rw [←hd,bitsL_cons ha h0] at h1
     simp at h1;omega
    obtain ⟨x',h2,hap,ho',hk',_⟩:=ho.app (xs:=[.int .i64 (Lib.ctz 64 a:Nat)]) (bytes:=8) hk.1 rfl (by omega) (by unfold maxBytes;omega) (by unfold maxBytes;omega)
    refine ⟨q32_s1 ((a &&& (a - 1):Nat):Int) x' h2,?_,⟨a &&& (a - 1),x',h2,done++[Lib.ctz 64 a],rfl,and_lt ha,?_,?_,hk.trans hk'⟩,?_⟩
    ·rw [q32_r1,if_pos hne,First_R hE.c38 ht ha,c1_ok,asI_ok]
     unfold firstI
     rw [if_neg h0,show splice [ci0] 0 [Cell.int .i64 ((Lib.ctz 64 a:Nat):Int)]=[.int .i64 ((Lib.ctz 64 a:Nat):Int)] from rfl,if_pos (show (List.length [_]:Nat)=1*1 from rfl),hap]
     rw [show E.glob.wrap .u64 ((a:Int) - 1)=((a - 1:Nat):Int) by rw [g_wrap_u64 (by omega) (by omega)];omega,g_band ha (by omega)]
    ·rw [List.append_assoc,List.singleton_append,←bitsL_cons ha h0,hd]
    ·rw [natC_snoc,List.length_append];exact ho'
    ·have:=and_pred_lt h0
     show ((a &&& (a - 1):Nat):Int).toNat<((a:Nat):Int).toNat
     omega)
  (st:=q32_s1 s .nils h) ⟨s,.nils,h,[],rfl,hs,rfl,by exact Own.nil _ _ _,Kp.refl _ _⟩
 refine ⟨x,h',?_,ho,hk⟩
 rw [q32_eq,hp,bind_ok,q32_e1_1]
def ofL (l:List Int):Nat:=l.foldl (fun s i=>s ||| bitI i) 0
def nextN (s:Nat):Nat :=
 if s=0 then 0 else
  let up:=(s+2 ^ Lib.ctz 64 s) % 2 ^ 64
  if up=0 then 0 else up ||| (((s ^^^ up) >>> 2) >>> Lib.ctz 64 s)
end Jq

namespace Jq
open Go
def mkN (p:Nat→Bool):Nat:=(List.range 64).foldl (fun a j=>if p j then a ||| 2 ^ j else a) 0
def upF (T:Nat→Nat) (i:Nat):Nat→Nat:=fun j=>if j<i then T j else 0
variable {E:Env}
def relM (n:Nat) (p:Nat→Nat→Bool):List Cell:=relL n fun i=>mkN (p i)
def orL (T:Nat→Nat) (l:List Nat):Nat:=l.foldl (fun a k=>a ||| T k) 0
def thenF (n:Nat) (f g:Nat→Nat) (i:Nat):Nat:=orL (fun k=>g k &&& (2 ^ n - 1)) (bitsL (f i &&& (2 ^ n - 1)))
def invP (f:Nat→Nat) (i:Nat) (done:List Nat):Nat→Nat:=fun k=>mkN fun j=>(decide (j<i)&&(f j).testBit k)||(decide (j=i)&&decide (k∈done))
end Jq

namespace Jq
open Go
def TH (n:Nat) (f g:Nat→Nat):Nat→Nat:=fun i=>mkN fun j=>decide (i<n)&&decide (j<n)&&(List.range n).any fun k=>(f i).testBit k&&(g k).testBit j
def UNI (n:Nat) (f g:Nat→Nat):Nat→Nat:=fun i=>mkN fun j=>decide (i<n)&&decide (j<n)&&((f i).testBit j||(g i).testBit j)
def MIN (n:Nat) (f g:Nat→Nat):Nat→Nat:=fun i=>mkN fun j=>decide (i<n)&&decide (j<n)&&((f i).testBit j&&!(g i).testBit j)
def MEE (n:Nat) (f g:Nat→Nat):Nat→Nat:=fun i=>mkN fun j=>decide (i<n)&&decide (j<n)&&((f i).testBit j&&(g i).testBit j)
def INV (n:Nat) (f:Nat→Nat):Nat→Nat:=fun i=>mkN fun j=>decide (j<n)&&(f j).testBit i
def KEE (n:Nat) (f:Nat→Nat) (s:Nat):Nat→Nat:=fun i=>mkN fun j=>decide (i<n)&&s.testBit i&&((f i).testBit j&&s.testBit j)
def Fit (n:Nat) (f:Nat→Nat):Prop:=∀i j,(f i).testBit j=true→i<n∧j<n
variable {E:Env} {n:Nat}
end Jq

namespace Jq
open Go
def rowP (f:Nat→Nat) (i:Nat):List (Int × Int):=(bitsL (f i)).map fun (k:Nat)=>((i:Int),(k:Int))
def pairsP (n:Nat) (f:Nat→Nat):List (Int × Int):=(List.range n).flatMap (rowP f)
theorem bits_len (s:Nat):(bitsL s).length≤64:=by unfold bitsL;exact Nat.le_trans (List.length_filter_le _ _) (by simp)
theorem Own.keep {n:Nat} {h h':AHeap} {x:Cell} {esz len:Nat} {cs:List Cell} (o:Own n h x esz cs len) (a:Kp h.length h h'):Own n h' x esz cs len:=by
 refine ⟨o.1,o.2.imp id ?_⟩
 rintro ⟨k,rfl,hk,hb⟩
 exact ⟨k,rfl,hk,by rw [a.blk (blk_lt' hb)];exact hb⟩
def ApartB (x y:Cell):Prop:=∀k,isBlk y k→¬isBlk x k
theorem Own.apart {n m:Nat} {h:AHeap} {x y:Cell} {e1 e2 l1 l2:Nat} {c1 c2:List Cell} (o:Own n h x e1 c1 l1) (hm:h.length≤m) {h':AHeap} (o2:Own m h' y e2 c2 l2):ApartB x y:=by
 intro k hk hx
 rcases o.2 with ⟨rfl,_⟩ | ⟨k1,rfl,_,hb⟩
 ·cases hx
 ·rcases o2.2 with ⟨rfl,_⟩ | ⟨k2,rfl,hk2,_⟩
  ·cases hk
  ·have e1:k1=k:=hx
   have e2:k2=k:=hk
   have:=blk_lt' hb
   omega
variable {E:Env}
end Jq

namespace Jq
open Go
def rowU (f:Nat→Nat) (i j:Nat):List (Int × Int):=((List.range j).filter fun k=>(f i).testBit k).map fun (k:Nat)=>((i:Int),(k:Int))
section
variable {E:Env}
end
variable {E:Env}
end Jq

namespace Jq
open Go
end Jq

namespace Jq
open Go
end Jq

namespace Jq
open Go
end Jq

namespace Jq
open Go
end Jq

namespace Jq
open Go
end Jq

namespace Jq
open Go
end Jq

namespace Jq
open Go
end Jq

namespace Jq
open Go
end Jq

namespace Jq
open Go
variable (C:CallF) (L:LoopF) (G:Glo)
def q180_k2 (C:CallF) (L:LoopF) (G:Glo) (h0:AHeap):Ex→St→Option (List AV × AHeap):=kSeq (fun st=>q180_p1.exec C L G st (q180.fin G h0)) (q180.fin G h0)
def q180_k3 (C:CallF) (L:LoopF) (G:Glo) (h0:AHeap):Ex→St→Option (List AV × AHeap):=kBlk 0 (q180_k2 C L G h0)
def q180_s1 (k5 N5 o5:Nat) (a6:Int) (s0:List Cell) (h:AHeap):St:=⟨tops 2 (.loc 0 0 :: tops 2 (.v (.c (.ptr k5 N5 o5)) :: .v (.c (.int .i64 a6)) :: tops 39 [])),[some s0],h⟩
def q180_F1 (C:CallF) (L:LoopF) (G:Glo):St→Option (Ex × St):=roundF (fun st f=>q180_b1.exec C L G st f) [2,5,6] [0] [(1,[2,5],[0])]
def q180_x1_1 (k5 N5 o5:Nat) (s0:List Cell) (h:AHeap):St:=⟨tops 2 (.loc 0 0 :: tops 2 (.v (.c (.ptr k5 N5 o5)) :: tops 40 [])),[some s0],h⟩
def q180_k4 (C:CallF) (L:LoopF) (G:Glo) (h0:AHeap):Ex→St→Option (List AV × AHeap):=kSeq (fun st=>q180_p2.exec C L G st (q180.fin G h0)) (q180.fin G h0)
def q180_k5 (C:CallF) (L:LoopF) (G:Glo) (h0:AHeap):Ex→St→Option (List AV × AHeap):=kBlk 2 (q180_k4 C L G h0)
def q180_s2 (k5 N5 o5:Nat) (a7:Int) (s0:List Cell) (h:AHeap):St:=⟨tops 2 (.loc 0 0 :: tops 2 (.v (.c (.ptr k5 N5 o5)) :: tops 1 (.v (.c (.int .i64 a7)) :: tops 38 []))),[some s0],h⟩
def q180_F2 (C:CallF) (L:LoopF) (G:Glo):St→Option (Ex × St):=roundF (fun st f=>q180_b2.exec C L G st f) [2,5,7] [0] [(3,[5],[])]
def q180_x2_3 (k5 N5 o5:Nat) (h:AHeap):St:=⟨tops 5 (.v (.c (.ptr k5 N5 o5)) :: tops 40 []),[none],h⟩
theorem q180_r1 (k5 N5 o5:Nat) (a6:Int) (s0:List Cell) (h:AHeap):q180_F1 C L G (q180_s1 k5 N5 o5 a6 s0 h)=atK s0 1 fun q_1=>lenK q_1 fun n_2=>if (decide (a6<n_2))=true then atK s0 1 fun q_3=>idxSK 1 q_3 a6 fun k_4 N_5 o_6=>rdH h k_4 N_5 fun l_7=>atK l_7 o_6 fun q_8=>asI .i64 (.c q_8) fun n_9=>if 0≤a6∧a6<((4:Nat):Int) then rdH h k5 N5 fun l_10=>if ((o5+4)+((Int.toNat a6)*1))<l_10.length then putH h k5 (l_10.set ((o5+4)+((Int.toNat a6)*1)) (.int .i64 n_9)) fun h_11=>some (.normal,(q180_s1 k5 N5 o5 (G.wrap .i64 (a6+1)) s0 h_11)) else none else none else some ((.exit 0),(q180_x1_1 k5 N5 o5 s0 h)):=by kernel_rfl
theorem q180_r2 (k5 N5 o5:Nat) (a7:Int) (s0:List Cell) (h:AHeap):q180_F2 C L G (q180_s2 k5 N5 o5 a7 s0 h)=atK s0 2 fun q_12=>lenK q_12 fun n_13=>if (decide (a7<n_13))=true then if 0=0∧s0.length=3 then c1 (qh h (C 104 [(.agg s0),(.c (.int .i64 a7))] h)) fun y_15 h_14=>asA y_15 fun l_16=>if 0≤a7∧a7<((4:Nat):Int) then rdH h k5 N5 fun l_17=>if ((o5+12)+((Int.toNat a7)*5))+5≤l_17.length∧l_16.length=5 then putH h k5 (splice l_17 ((o5+12)+((Int.toNat a7)*5)) l_16) fun h_18=>some (.normal,(q180_s2 k5 N5 o5 (G.wrap .i64 (a7+1)) s0 h_18)) else none else none else none else some ((.exit 2),(q180_x2_3 k5 N5 o5 h)):=by kernel_rfl
theorem q180_e2_3 (h0:AHeap) (k5 N5 o5:Nat) (h:AHeap):(q180_k5 C L G h0) (.exit 2) (q180_x2_3 k5 N5 o5 h)=some ([(.c (.ptr k5 N5 o5))],h):=by kernel_rfl
theorem q180_e1_1 (h0:AHeap) (k5 N5 o5:Nat) (s0:List Cell) (h:AHeap):(q180_k3 C L G h0) (.exit 0) (q180_x1_1 k5 N5 o5 s0 h)=(L (q180_F2 C L G) (q180_s2 k5 N5 o5 0 s0 h)).bind fun p_19=>(q180_k5 C L G h0) p_19.1 p_19.2:=by kernel_rfl
set_option maxRecDepth 100000 in
theorem q180_eq (l0:List Cell) (a1:Int) (h0:AHeap):q180.body C L G [(.agg l0),(.c (.int .i64 a1))] h0=if 0=0∧l0.length=3 then if l0.length=3∧0+3≤([Cell.nils,Cell.nils,Cell.nils]++List.replicate 29 ci0++List.replicate 5 (Cell.nils)).length then if ([(.int .i64 a1)]:List Cell).length=1∧3+1≤(splice ([Cell.nils,Cell.nils,Cell.nils]++List.replicate 29 ci0++List.replicate 5 (Cell.nils)) 0 l0).length then if (splice (splice (splice (splice [ci0,ci0,ci0,ci0] 0 [(.int .i64 (-1))]) 1 [(.int .i64 (-1))]) 2 [(.int .i64 (-1))]) 3 [(.int .i64 (-1))]).length=4∧8+4≤(splice (splice ([Cell.nils,Cell.nils,Cell.nils]++List.replicate 29 ci0++List.replicate 5 (Cell.nils)) 0 l0) 3 [(.int .i64 a1)]).length then (L (q180_F1 C L G) (q180_s1 h0.length ((AV.cells (.agg (splice (splice (splice ([Cell.nils,Cell.nils,Cell.nils]++List.replicate 29 ci0++List.replicate 5 (Cell.nils)) 0 l0) 3 [(.int .i64 a1)]) 8 (splice (splice (splice (splice [ci0,ci0,ci0,ci0] 0 [(.int .i64 (-1))]) 1 [(.int .i64 (-1))]) 2 [(.int .i64 (-1))]) 3 [(.int .i64 (-1))])))).length) 0 0 l0 (h0++[some (Blk.mk true 0 (AV.cells (.agg (splice (splice (splice ([Cell.nils,Cell.nils,Cell.nils]++List.replicate 29 ci0++List.replicate 5 (Cell.nils)) 0 l0) 3 [(.int .i64 a1)]) 8 (splice (splice (splice (splice [ci0,ci0,ci0,ci0] 0 [(.int .i64 (-1))]) 1 [(.int .i64 (-1))]) 2 [(.int .i64 (-1))]) 3 [(.int .i64 (-1))])))))]))).bind fun p_20=>(q180_k3 C L G h0) p_20.1 p_20.2 else none else none else none else none:=by kernel_rfl
def q181_k2 (C:CallF) (L:LoopF) (G:Glo) (h0:AHeap):Ex→St→Option (List AV × AHeap):=kSeq (fun st=>q181_p1.exec C L G st (q181.fin G h0)) (q181.fin G h0)
def q181_k3 (C:CallF) (L:LoopF) (G:Glo) (h0:AHeap):Ex→St→Option (List AV × AHeap):=kBlk 0 (q181_k2 C L G h0)
def q181_s1 (k0 N0 o0:Nat) (x3:Cell) (a4:Int) (h:AHeap):St:=⟨.v (.c (.ptr k0 N0 o0)) :: tops 2 (.v (.c x3) :: .v (.c (.int .i64 a4)) :: tops 12 []),[],h⟩
def q181_F1 (C:CallF) (L:LoopF) (G:Glo):St→Option (Ex × St):=roundF (fun st f=>q181_b1.exec C L G st f) [0,3,4] [] [(1,[3],[])]
def q181_x1_1 (x3:Cell) (h:AHeap):St:=⟨tops 3 (.v (.c x3) :: tops 13 []),[],h⟩
theorem q181_r1 (k0 N0 o0:Nat) (x3:Cell) (a4:Int) (h:AHeap):q181_F1 C L G (q181_s1 k0 N0 o0 x3 a4 h)=if (decide (a4<24))=true then c1 (C 196 [(.c (.ptr k0 N0 o0)),(.c (.int .i64 a4))] h) fun y_2 h_1=>asB y_2 fun b_3=>if b_3=true then if (splice [ci0] 0 [(.int .i64 a4)]).length=1*1 then appK 1 8 x3 (splice [ci0] 0 [(.int .i64 a4)]) h_1 fun x_4 h_5=>some (.normal,(q181_s1 k0 N0 o0 x_4 (G.wrap .i64 (a4+1)) h_5)) else none else some (.normal,(q181_s1 k0 N0 o0 x3 (G.wrap .i64 (a4+1)) h_1)) else some ((.exit 0),(q181_x1_1 x3 h)):=by kernel_rfl
theorem q181_e1_1 (h0:AHeap) (x3:Cell) (h:AHeap):(q181_k3 C L G h0) (.exit 0) (q181_x1_1 x3 h)=some ([(.c x3)],h):=by kernel_rfl
set_option maxRecDepth 100000 in
theorem q181_eq (k0 N0 o0:Nat) (h0:AHeap):q181.body C L G [(.c (.ptr k0 N0 o0))] h0=(L (q181_F1 C L G) (q181_s1 k0 N0 o0 .nils 0 h0)).bind fun p_6=>(q181_k3 C L G h0) p_6.1 p_6.2:=by kernel_rfl
def q182_k2 (C:CallF) (L:LoopF) (G:Glo) (h0:AHeap):Ex→St→Option (List AV × AHeap):=kSeq (fun st=>q182_p1.exec C L G st (q182.fin G h0)) (q182.fin G h0)
def q182_c1_0 (b5:Bool) (s0:List Cell) (h:AHeap):St:=⟨tops 4 (.loc 0 0 :: .v (.c (.bool b5)) :: tops 299 []),[some s0,none,none,none,none],h⟩
def q182_c1 (k0 N0 o0:Nat) (a1:Int) (s0:List Cell) (h:AHeap):St:=⟨.v (.c (.ptr k0 N0 o0)) :: .v (.c (.int .i64 a1)) :: tops 2 (.loc 0 0 :: tops 300 []),[some s0,none,none,none,none],h⟩
def q182_k3 (C:CallF) (L:LoopF) (G:Glo) (h0:AHeap):Ex→St→Option (List AV × AHeap):=kSeq (fun st=>q182_p2.exec C L G st (q182.fin G h0)) (q182.fin G h0)
def q182_c2 (k0 N0 o0:Nat) (a1 a6:Int) (s0:List Cell) (h:AHeap):St:=⟨.v (.c (.ptr k0 N0 o0)) :: .v (.c (.int .i64 a1)) :: tops 2 (.loc 0 0 :: tops 1 (.v (.c (.int .i64 a6)) :: tops 298 [])),[some s0,none,none,none,none],h⟩
def q182_k4 (C:CallF) (L:LoopF) (G:Glo) (h0:AHeap):Ex→St→Option (List AV × AHeap):=kSeq (fun st=>q182_p3.exec C L G st (q182.fin G h0)) (q182.fin G h0)
def q182_c3 (k0 N0 o0:Nat) (a1 a6:Int) (s0 s1:List Cell) (h:AHeap):St:=⟨.v (.c (.ptr k0 N0 o0)) :: .v (.c (.int .i64 a1)) :: tops 2 (.loc 0 0 :: tops 1 (.v (.c (.int .i64 a6)) :: .loc 1 0 :: tops 297 [])),[some s0,some s1,none,none,none],h⟩
def q182_k5 (C:CallF) (L:LoopF) (G:Glo) (h0:AHeap):Ex→St→Option (List AV × AHeap):=kSeq (fun st=>q182_p4.exec C L G st (q182.fin G h0)) (q182.fin G h0)
def q182_k6 (C:CallF) (L:LoopF) (G:Glo):Ex→St→Option (Ex × St):=kSeq (fun st=>q182_p5.exec C L G st (kLoop [0,1,4,6,7] [0,1] [(0,[4,5],[0])])) (kLoop [0,1,4,6,7] [0,1] [(0,[4,5],[0])])
def q182_c5 (k0 N0 o0:Nat) (a1 a6:Int) (a8 a9:Int) (b10:Bool) (s0 s1:List Cell) (h:AHeap):St:=⟨.v (.c (.ptr k0 N0 o0)) :: .v (.c (.int .i64 a1)) :: tops 2 (.loc 0 0 :: tops 1 (.v (.c (.int .i64 a6)) :: .loc 1 0 :: .v (.c (.int .i64 a8)) :: .v (.c (.int .i64 a9)) :: .v (.c (.bool b10)) :: tops 294 [])),[some s0,some s1,none,none,none],h⟩
def q182_k7 (C:CallF) (L:LoopF) (G:Glo):Ex→St→Option (Ex × St):=kSeq (fun st=>q182_p6.exec C L G st (kLoop [0,1,4,6,7] [0,1] [(0,[4,5],[0])])) (kLoop [0,1,4,6,7] [0,1] [(0,[4,5],[0])])
def q182_c6 (k0 N0 o0:Nat) (a8 a11:Int) (s0 s1:List Cell) (h:AHeap):St:=⟨.v (.c (.ptr k0 N0 o0)) :: tops 3 (.loc 0 0 :: tops 2 (.loc 1 0 :: .v (.c (.int .i64 a8)) :: tops 2 (.v (.c (.int .i64 a11)) :: tops 293 []))),[some s0,some s1,none,none,none],h⟩
def q182_k8 (C:CallF) (L:LoopF) (G:Glo):Ex→St→Option (Ex × St):=kSeq (fun st=>q182_p7.exec C L G st (kLoop [0,1,4,6,7] [0,1] [(0,[4,5],[0])])) (kLoop [0,1,4,6,7] [0,1] [(0,[4,5],[0])])
def q182_c7 (k0 N0 o0:Nat) (a8 a11:Int) (s0 s1 s2:List Cell) (h:AHeap):St:=⟨.v (.c (.ptr k0 N0 o0)) :: tops 3 (.loc 0 0 :: tops 2 (.loc 1 0 :: .v (.c (.int .i64 a8)) :: tops 2 (.v (.c (.int .i64 a11)) :: .loc 2 0 :: tops 292 []))),[some s0,some s1,some s2,none,none],h⟩
def q182_k9 (C:CallF) (L:LoopF) (G:Glo):Ex→St→Option (Ex × St):=kSeq (fun st=>q182_p8.exec C L G st (kLoop [0,1,4,6,7] [0,1] [(0,[4,5],[0])])) (kLoop [0,1,4,6,7] [0,1] [(0,[4,5],[0])])
def q182_c8 (k0 N0 o0:Nat) (a8:Int) (s0 s1 s2:List Cell) (h:AHeap):St:=⟨.v (.c (.ptr k0 N0 o0)) :: tops 3 (.loc 0 0 :: tops 2 (.loc 1 0 :: .v (.c (.int .i64 a8)) :: tops 3 (.loc 2 0 :: tops 292 []))),[some s0,some s1,some s2,none,none],h⟩
def q182_k10 (C:CallF) (L:LoopF) (G:Glo):Ex→St→Option (Ex × St):=kSeq (fun st=>q182_p9.exec C L G st (kLoop [0,1,4,6,7] [0,1] [(0,[4,5],[0])])) (kLoop [0,1,4,6,7] [0,1] [(0,[4,5],[0])])
def q182_c9 (k0 N0 o0:Nat) (a8:Int) (s0 s1 s2:List Cell) (h:AHeap):St:=⟨.v (.c (.ptr k0 N0 o0)) :: tops 3 (.loc 0 0 :: tops 2 (.loc 1 0 :: .v (.c (.int .i64 a8)) :: tops 3 (.loc 2 0 :: tops 292 []))),[some s0,some s1,some s2,none,none],h⟩
def q182_k11 (C:CallF) (L:LoopF) (G:Glo):Ex→St→Option (Ex × St):=kSeq (fun st=>q182_p10.exec C L G st (kLoop [0,1,4,6,7] [0,1] [(0,[4,5],[0])])) (kLoop [0,1,4,6,7] [0,1] [(0,[4,5],[0])])
def q182_c10 (k0 N0 o0:Nat) (s0 s1:List Cell) (h:AHeap):St:=⟨.v (.c (.ptr k0 N0 o0)) :: tops 3 (.loc 0 0 :: tops 2 (.loc 1 0 :: tops 297 [])),[some s0,some s1,none,none,none],h⟩
def q182_c4_0 (b5:Bool) (s0:List Cell) (h:AHeap):St:=⟨tops 4 (.loc 0 0 :: .v (.c (.bool b5)) :: tops 299 []),[some s0,none,none,none,none],h⟩
def q182_c4 (k0 N0 o0:Nat) (a1 a6:Int) (s0 s1:List Cell) (h:AHeap):St:=⟨.v (.c (.ptr k0 N0 o0)) :: .v (.c (.int .i64 a1)) :: tops 2 (.loc 0 0 :: tops 1 (.v (.c (.int .i64 a6)) :: .loc 1 0 :: tops 297 [])),[some s0,some s1,none,none,none],h⟩
def q182_k12 (C:CallF) (L:LoopF) (G:Glo) (h0:AHeap):Ex→St→Option (List AV × AHeap):=kSeq (fun st=>q182_p11.exec C L G st (q182.fin G h0)) (q182.fin G h0)
def q182_c11 (k0 N0 o0:Nat) (a1 a6:Int) (s0 s1 s3:List Cell) (h:AHeap):St:=⟨.v (.c (.ptr k0 N0 o0)) :: .v (.c (.int .i64 a1)) :: tops 2 (.loc 0 0 :: tops 1 (.v (.c (.int .i64 a6)) :: .loc 1 0 :: tops 5 (.loc 3 0 :: tops 291 []))),[some s0,some s1,none,some s3,none],h⟩
def q182_k13 (C:CallF) (L:LoopF) (G:Glo) (h0:AHeap):Ex→St→Option (List AV × AHeap):=kSeq (fun st=>q182_p12.exec C L G st (q182.fin G h0)) (q182.fin G h0)
def q182_k14 (C:CallF) (L:LoopF) (G:Glo):Ex→St→Option (Ex × St):=kSeq (fun st=>q182_p13.exec C L G st (kLoop [0,1,4,6,7,13,15] [0,1,3] [])) (kLoop [0,1,4,6,7,13,15] [0,1,3] [])
def q182_c13 (k0 N0 o0:Nat) (a1 a6 a15:Int) (b138:Bool) (s0 s1 s3:List Cell) (h:AHeap):St:=⟨.v (.c (.ptr k0 N0 o0)) :: .v (.c (.int .i64 a1)) :: tops 2 (.loc 0 0 :: tops 1 (.v (.c (.int .i64 a6)) :: .loc 1 0 :: tops 5 (.loc 3 0 :: tops 1 (.v (.c (.int .i64 a15)) :: tops 122 (.v (.c (.bool b138)) :: tops 166 []))))),[some s0,some s1,none,some s3,none],h⟩
def q182_k15 (C:CallF) (L:LoopF) (G:Glo):Ex→St→Option (Ex × St):=kSeq (fun st=>q182_p14.exec C L G st (kLoop [0,1,4,6,7,13,15] [0,1,3] [])) (kLoop [0,1,4,6,7,13,15] [0,1,3] [])
def q182_c14 (k0 N0 o0:Nat) (a1 a6 a15:Int) (s0 s1 s3:List Cell) (h:AHeap):St:=⟨.v (.c (.ptr k0 N0 o0)) :: .v (.c (.int .i64 a1)) :: tops 2 (.loc 0 0 :: tops 1 (.v (.c (.int .i64 a6)) :: .loc 1 0 :: tops 5 (.loc 3 0 :: tops 1 (.v (.c (.int .i64 a15)) :: tops 289 [])))),[some s0,some s1,none,some s3,none],h⟩
def q182_k16 (C:CallF) (L:LoopF) (G:Glo):Ex→St→Option (Ex × St):=kBlk 0 (kLoop [0,1,4,6,7,13,15] [0,1,3] [])
def q182_s1 (k0 N0 o0:Nat) (a1 a6:Int) (a15 a16:Int) (s0 s1 s3:List Cell) (h:AHeap):St:=⟨.v (.c (.ptr k0 N0 o0)) :: .v (.c (.int .i64 a1)) :: tops 2 (.loc 0 0 :: tops 1 (.v (.c (.int .i64 a6)) :: .loc 1 0 :: tops 5 (.loc 3 0 :: tops 1 (.v (.c (.int .i64 a15)) :: .v (.c (.int .i64 a16)) :: tops 288 [])))),[some s0,some s1,none,some s3,none],h⟩
def q182_F1 (C:CallF) (L:LoopF) (G:Glo):St→Option (Ex × St):=roundF (fun st f=>q182_b1.exec C L G st f) [0,1,4,6,7,13,15,16] [0,1,3] [(1,[0,1,4,6,7,13,15],[0,1,3])]
def q182_k17 (C:CallF) (L:LoopF) (G:Glo):Ex→St→Option (Ex × St):=kSeq (fun st=>q182_p15.exec C L G st (kLoop [0,1,4,6,7,13,15,16] [0,1,3] [(1,[0,1,4,6,7,13,15],[0,1,3])])) (kLoop [0,1,4,6,7,13,15,16] [0,1,3] [(1,[0,1,4,6,7,13,15],[0,1,3])])
def q182_c15 (k0 N0 o0:Nat) (a1 a6:Int) (a15 a16:Int) (s0 s1 s3:List Cell) (h:AHeap):St:=⟨.v (.c (.ptr k0 N0 o0)) :: .v (.c (.int .i64 a1)) :: tops 2 (.loc 0 0 :: tops 1 (.v (.c (.int .i64 a6)) :: .loc 1 0 :: tops 5 (.loc 3 0 :: tops 1 (.v (.c (.int .i64 a15)) :: .v (.c (.int .i64 a16)) :: tops 288 [])))),[some s0,some s1,none,some s3,none],h⟩
def q182_c15_1 (k0 N0 o0:Nat) (a1 a6 a15:Int) (s0 s1 s3:List Cell) (h:AHeap):St:=⟨.v (.c (.ptr k0 N0 o0)) :: .v (.c (.int .i64 a1)) :: tops 2 (.loc 0 0 :: tops 1 (.v (.c (.int .i64 a6)) :: .loc 1 0 :: tops 5 (.loc 3 0 :: tops 1 (.v (.c (.int .i64 a15)) :: tops 289 [])))),[some s0,some s1,none,some s3,none],h⟩
def q182_k18 (C:CallF) (L:LoopF) (G:Glo):Ex→St→Option (Ex × St):=kSeq (fun st=>q182_p16.exec C L G st (kLoop [0,1,4,6,7,13,15,16] [0,1,3] [(1,[0,1,4,6,7,13,15],[0,1,3])])) (kLoop [0,1,4,6,7,13,15,16] [0,1,3] [(1,[0,1,4,6,7,13,15],[0,1,3])])
def q182_k19 (C:CallF) (L:LoopF) (G:Glo):Ex→St→Option (Ex × St):=kBlk 1 (q182_k18 C L G)
def q182_k20 (C:CallF) (L:LoopF) (G:Glo):Ex→St→Option (Ex × St):=kSeq (fun st=>q182_p17.exec C L G st (q182_k19 C L G)) (q182_k19 C L G)
def q182_c16 (k0 N0 o0:Nat) (a1 a6:Int) (a15 a16:Int) (b177:Bool) (s0 s1 s3:List Cell) (h:AHeap):St:=⟨.v (.c (.ptr k0 N0 o0)) :: .v (.c (.int .i64 a1)) :: tops 2 (.loc 0 0 :: tops 1 (.v (.c (.int .i64 a6)) :: .loc 1 0 :: tops 5 (.loc 3 0 :: tops 1 (.v (.c (.int .i64 a15)) :: .v (.c (.int .i64 a16)) :: tops 160 (.v (.c (.bool b177)) :: tops 127 []))))),[some s0,some s1,none,some s3,none],h⟩
def q182_x1_1 (k0 N0 o0:Nat) (a1 a6 a15:Int) (s0 s1 s3:List Cell) (h:AHeap):St:=⟨.v (.c (.ptr k0 N0 o0)) :: .v (.c (.int .i64 a1)) :: tops 2 (.loc 0 0 :: tops 1 (.v (.c (.int .i64 a6)) :: .loc 1 0 :: tops 5 (.loc 3 0 :: tops 1 (.v (.c (.int .i64 a15)) :: tops 289 [])))),[some s0,some s1,none,some s3,none],h⟩
def q182_c12 (k0 N0 o0:Nat) (a1 a6 a15:Int) (s0 s1 s3:List Cell) (h:AHeap):St:=⟨.v (.c (.ptr k0 N0 o0)) :: .v (.c (.int .i64 a1)) :: tops 2 (.loc 0 0 :: tops 1 (.v (.c (.int .i64 a6)) :: .loc 1 0 :: tops 5 (.loc 3 0 :: tops 1 (.v (.c (.int .i64 a15)) :: tops 289 [])))),[some s0,some s1,none,some s3,none],h⟩
def q182_k21 (C:CallF) (L:LoopF) (G:Glo) (h0:AHeap):Ex→St→Option (List AV × AHeap):=kSeq (fun st=>q182_p18.exec C L G st (q182.fin G h0)) (q182.fin G h0)
def q182_c17 (k0 N0 o0:Nat) (a1 a6 a15:Int) (s0 s1 s4:List Cell) (h:AHeap):St:=⟨.v (.c (.ptr k0 N0 o0)) :: .v (.c (.int .i64 a1)) :: tops 2 (.loc 0 0 :: tops 1 (.v (.c (.int .i64 a6)) :: .loc 1 0 :: tops 7 (.v (.c (.int .i64 a15)) :: tops 1 (.loc 4 0 :: tops 287 [])))),[some s0,some s1,none,none,some s4],h⟩
def q182_k22 (C:CallF) (L:LoopF) (G:Glo) (h0:AHeap):Ex→St→Option (List AV × AHeap):=kSeq (fun st=>q182_p19.exec C L G st (q182.fin G h0)) (q182.fin G h0)
def q182_c18 (k0 N0 o0:Nat) (a1 a6 a15:Int) (s0 s1 s4:List Cell) (h:AHeap):St:=⟨.v (.c (.ptr k0 N0 o0)) :: .v (.c (.int .i64 a1)) :: tops 2 (.loc 0 0 :: tops 1 (.v (.c (.int .i64 a6)) :: .loc 1 0 :: tops 7 (.v (.c (.int .i64 a15)) :: tops 1 (.loc 4 0 :: tops 287 [])))),[some s0,some s1,none,none,some s4],h⟩
def q182_k23 (C:CallF) (L:LoopF) (G:Glo) (h0:AHeap):Ex→St→Option (List AV × AHeap):=kSeq (fun st=>q182_p20.exec C L G st (q182.fin G h0)) (q182.fin G h0)
def q182_k24 (C:CallF) (L:LoopF) (G:Glo):Ex→St→Option (Ex × St):=kBlk 2 (kLoop [0,1,4,7,15] [0,1] [])
def q182_k25 (C:CallF) (L:LoopF) (G:Glo):Ex→St→Option (Ex × St):=kSeq (fun st=>q182_p21.exec C L G st (q182_k24 C L G)) (q182_k24 C L G)
def q182_c20 (k0 N0 o0:Nat) (a1 a6 a15:Int) (b220:Bool) (s0 s1 s4:List Cell) (h:AHeap):St:=⟨.v (.c (.ptr k0 N0 o0)) :: .v (.c (.int .i64 a1)) :: tops 2 (.loc 0 0 :: tops 1 (.v (.c (.int .i64 a6)) :: .loc 1 0 :: tops 7 (.v (.c (.int .i64 a15)) :: tops 1 (.loc 4 0 :: tops 202 (.v (.c (.bool b220)) :: tops 84 []))))),[some s0,some s1,none,none,some s4],h⟩
def q182_c19 (k0 N0 o0:Nat) (a1 a15:Int) (s0 s1:List Cell) (h:AHeap):St:=⟨.v (.c (.ptr k0 N0 o0)) :: .v (.c (.int .i64 a1)) :: tops 2 (.loc 0 0 :: tops 2 (.loc 1 0 :: tops 7 (.v (.c (.int .i64 a15)) :: tops 289 []))),[some s0,some s1,none,none,none],h⟩
def q182_k26 (C:CallF) (L:LoopF) (G:Glo):Ex→St→Option (Ex × St):=kSeq (fun st=>q182_p22.exec C L G st (q182_k24 C L G)) (q182_k24 C L G)
def q182_c21 (k0 N0 o0:Nat) (a1 a6 a15:Int) (b251:Bool) (s0 s1 s4:List Cell) (h:AHeap):St:=⟨.v (.c (.ptr k0 N0 o0)) :: .v (.c (.int .i64 a1)) :: tops 2 (.loc 0 0 :: tops 1 (.v (.c (.int .i64 a6)) :: .loc 1 0 :: tops 7 (.v (.c (.int .i64 a15)) :: tops 1 (.loc 4 0 :: tops 233 (.v (.c (.bool b251)) :: tops 53 []))))),[some s0,some s1,none,none,some s4],h⟩
def q182_k27 (C:CallF) (L:LoopF) (G:Glo) (h0:AHeap):Ex→St→Option (List AV × AHeap):=kSeq (fun st=>q182_p23.exec C L G st (q182.fin G h0)) (q182.fin G h0)
def q182_c22 (k0 N0 o0:Nat) (s0 s1:List Cell) (h:AHeap):St:=⟨.v (.c (.ptr k0 N0 o0)) :: tops 3 (.loc 0 0 :: tops 2 (.loc 1 0 :: tops 297 [])),[some s0,some s1,none,none,none],h⟩
theorem q182_ec10_n (k0 N0 o0:Nat) (s0 s1:List Cell) (h:AHeap):(q182_k11 C L G) .normal (q182_c10 k0 N0 o0 s0 s1 h)=rdH h k0 N0 fun l_55=>atK l_55 (o0+36) fun q_56=>if 0=0∧s1.length=7 then if s1.length=7∧0+7≤(List.replicate 7 ci0).length then if (splice (List.replicate 7 ci0) 0 s1).length=1*7 then appK 7 56 q_56 (splice (List.replicate 7 ci0) 0 s1) h fun x_57 h_58=>rdH h_58 k0 N0 fun l_59=>if (o0+36)<l_59.length then putH h_58 k0 (l_59.set (o0+36) x_57) fun h_60=>if 0=0∧s1.length=7 then if 0=0∧s0.length=7∧s1.length=7 then some (.ret,(q182_c4_0 true s1 h_60)) else none else none else none else none else none else none:=by kernel_rfl
theorem q182_ec9_n (k0 N0 o0:Nat) (a8:Int) (s0 s1 s2:List Cell) (h:AHeap):(q182_k10 C L G) .normal (q182_c9 k0 N0 o0 a8 s0 s1 s2 h)=(atK s2 0 fun q_49=>asI .i64 (.c q_49) fun n_50=>atK s2 1 fun q_51=>asI .i64 (.c q_51) fun n_52=>atK s2 2 fun q_53=>asI .i64 (.c q_53) fun n_54=>if 1<s1.length then if 2<(s1.set 1 (.int .i64 a8)).length then if 3<((s1.set 1 (.int .i64 a8)).set 2 (.int .i64 6)).length then if 5<(((s1.set 1 (.int .i64 a8)).set 2 (.int .i64 6)).set 3 (.int .i64 n_50)).length then if 6<((((s1.set 1 (.int .i64 a8)).set 2 (.int .i64 6)).set 3 (.int .i64 n_50)).set 5 (.int .i64 n_52)).length then some (.normal,(q182_c10 k0 N0 o0 s0 (((((s1.set 1 (.int .i64 a8)).set 2 (.int .i64 6)).set 3 (.int .i64 n_50)).set 5 (.int .i64 n_52)).set 6 (.int .i64 n_54)) h)) else none else none else none else none else none:Option (Ex × St)).bind fun p_61=>(q182_k11 C L G) p_61.1 p_61.2:=by kernel_rfl
theorem q182_ec8_n (k0 N0 o0:Nat) (a8:Int) (s0 s1 s2:List Cell) (h:AHeap):(q182_k9 C L G) .normal (q182_c8 k0 N0 o0 a8 s0 s1 s2 h)=(atK s2 0 fun q_37=>asI .i64 (.c q_37) fun n_38=>atK s2 0 fun q_39=>asI .i64 (.c q_39) fun n_40=>atK s2 1 fun q_41=>asI .i64 (.c q_41) fun n_42=>atK s2 2 fun q_43=>asI .i64 (.c q_43) fun n_44=>if 0≤n_38∧n_38<((4:Nat):Int) then rdH h k0 N0 fun l_45=>if ((o0+4)+((Int.toNat n_38)*1))<l_45.length then putH h k0 (l_45.set ((o0+4)+((Int.toNat n_38)*1)) (.int .i64 n_42)) fun h_46=>if 0≤n_40∧n_40<((4:Nat):Int) then rdH h_46 k0 N0 fun l_47=>if ((o0+8)+((Int.toNat n_40)*1))<l_47.length then putH h_46 k0 (l_47.set ((o0+8)+((Int.toNat n_40)*1)) (.int .i64 n_44)) fun h_48=>some (.normal,(q182_c9 k0 N0 o0 a8 s0 s1 s2 h_48)) else none else none else none else none:Option (Ex × St)).bind fun p_62=>(q182_k10 C L G) p_62.1 p_62.2:=by kernel_rfl
theorem q182_ec7_n (k0 N0 o0:Nat) (a8 a11:Int) (s0 s1 s2:List Cell) (h:AHeap):(q182_k8 C L G) .normal (q182_c7 k0 N0 o0 a8 a11 s0 s1 s2 h)=(if ([]:List Cell).length=0*3 then if 0≤a8∧a8<((4:Nat):Int) then rd0 (h++[some (Blk.mk true 3 [])]) k0 N0 fun l_23=>atK l_23 ((o0+32)+((Int.toNat a8)*1)) fun q_24=>sliceK (h++[some (Blk.mk true 3 [])]) 3 false true q_24 [.v (.c (.int .i64 a11))] fun x_25=>(slCells (h++[some (Blk.mk true 3 [])]) 3 x_25).bind fun l_28=>appK 3 24 (.sl h.length (([]:List Cell).length) 0 0) l_28 (h++[some (Blk.mk true 3 [])]) fun x_26 h_27=>if 0≤a8∧a8<((4:Nat):Int) then rd0 h_27 k0 N0 fun l_29=>atK l_29 ((o0+32)+((Int.toNat a8)*1)) fun q_30=>sliceK h_27 3 true false q_30 [.v (.c (.int .i64 (G.wrap .i64 (a11+1))))] fun x_31=>(slCells h_27 3 x_31).bind fun l_34=>appK 3 24 x_26 l_34 h_27 fun x_32 h_33=>if 0≤a8∧a8<((4:Nat):Int) then rdH h_33 k0 N0 fun l_35=>if ((o0+32)+((Int.toNat a8)*1))<l_35.length then putH h_33 k0 (l_35.set ((o0+32)+((Int.toNat a8)*1)) x_32) fun h_36=>some (.normal,(q182_c8 k0 N0 o0 a8 s0 s1 s2 h_36)) else none else none else none else none else none:Option (Ex × St)).bind fun p_63=>(q182_k9 C L G) p_63.1 p_63.2:=by kernel_rfl
theorem q182_ec6_n (k0 N0 o0:Nat) (a8 a11:Int) (s0 s1:List Cell) (h:AHeap):(q182_k7 C L G) .normal (q182_c6 k0 N0 o0 a8 a11 s0 s1 h)=(if 0≤a8∧a8<((4:Nat):Int) then rdH h k0 N0 fun l_17=>atK l_17 ((o0+32)+((Int.toNat a8)*1)) fun q_18=>idxSK 3 q_18 a11 fun k_19 N_20 o_21=>rdH h k_19 N_20 fun l_22=>if o_21+3≤l_22.length then if 0=0∧[ci0,ci0,ci0].length=3∧((l_22.drop o_21).take 3).length=3 then some (.normal,(q182_c7 k0 N0 o0 a8 a11 s0 s1 ((l_22.drop o_21).take 3) h)) else none else none else none:Option (Ex × St)).bind fun p_64=>(q182_k8 C L G) p_64.1 p_64.2:=by kernel_rfl
theorem q182_ec5_n (k0 N0 o0:Nat) (a1 a6:Int) (a8 a9:Int) (b10:Bool) (s0 s1:List Cell) (h:AHeap):(q182_k6 C L G) .normal (q182_c5 k0 N0 o0 a1 a6 a8 a9 b10 s0 s1 h)=if b10=true then (c1 (C 198 [(.c (.ptr k0 N0 o0)),(.c (.int .i64 a8)),(.c (.int .i64 a9))] h) fun y_15 h_14=>asI .i64 y_15 fun n_16=>some (.normal,(q182_c6 k0 N0 o0 a8 n_16 s0 s1 h_14)):Option (Ex × St)).bind fun p_65=>(q182_k7 C L G) p_65.1 p_65.2 else some (.normal,(q182_c4 k0 N0 o0 a1 a6 s0 s1 h)):=by kernel_rfl
theorem q182_ec16_n (k0 N0 o0:Nat) (a1 a6:Int) (a15 a16:Int) (b177:Bool) (s0 s1 s3:List Cell) (h:AHeap):(q182_k20 C L G) .normal (q182_c16 k0 N0 o0 a1 a6 a15 a16 b177 s0 s1 s3 h)=if b177=true then if 0≤a1∧a1<((4:Nat):Int) then rdH h k0 N0 fun l_103=>atK l_103 ((o0+32)+((Int.toNat a1)*1)) fun q_104=>idxSK 3 q_104 a16 fun k_105 N_106 o_107=>rdH h k_105 N_106 fun l_108=>atK l_108 (o_107+1) fun q_109=>asI .i64 (.c q_109) fun n_110=>if 0≤a1∧a1<((4:Nat):Int) then rdH h k0 N0 fun l_111=>atK l_111 ((o0+32)+((Int.toNat a1)*1)) fun q_112=>idxSK 3 q_112 a16 fun k_113 N_114 o_115=>rdH h k_113 N_114 fun l_116=>atK l_116 (o_115+2) fun q_117=>asI .i64 (.c q_117) fun n_118=>if 6<s1.length then some (.normal,(q182_s1 k0 N0 o0 a1 a6 n_110 (G.wrap .i64 (a16+1)) s0 (s1.set 6 (.int .i64 n_118)) s3 h)) else none else none else none else some (.normal,(q182_s1 k0 N0 o0 a1 a6 a15 (G.wrap .i64 (a16+1)) s0 s1 s3 h)):=by kernel_rfl
theorem q182_ec15_n (k0 N0 o0:Nat) (a1 a6:Int) (a15 a16:Int) (s0 s1 s3:List Cell) (h:AHeap):(q182_k17 C L G) .normal (q182_c15 k0 N0 o0 a1 a6 a15 a16 s0 s1 s3 h)=(if 0≤a1∧a1<((4:Nat):Int) then rdH h k0 N0 fun l_93=>atK l_93 ((o0+32)+((Int.toNat a1)*1)) fun q_94=>idxSK 3 q_94 a16 fun k_95 N_96 o_97=>rdH h k_95 N_96 fun l_98=>atK l_98 (o_97+0) fun q_99=>asI .i64 (.c q_99) fun n_100=>atK s3 2 fun q_101=>asI .i64 (.c q_101) fun n_102=>some (.normal,(q182_c16 k0 N0 o0 a1 a6 a15 a16 (n_100==n_102) s0 s1 s3 h)) else none:Option (Ex × St)).bind fun p_119=>(q182_k20 C L G) p_119.1 p_119.2:=by kernel_rfl
theorem q182_ec15_1 (k0 N0 o0:Nat) (a1 a6 a15:Int) (s0 s1 s3:List Cell) (h:AHeap):(q182_k17 C L G) (.exit 0) (q182_c15_1 k0 N0 o0 a1 a6 a15 s0 s1 s3 h)=some ((.exit 0),(q182_x1_1 k0 N0 o0 a1 a6 a15 s0 s1 s3 h)):=by kernel_rfl
theorem q182_r1 (k0 N0 o0:Nat) (a1 a6:Int) (a15 a16:Int) (s0 s1 s3:List Cell) (h:AHeap):q182_F1 C L G (q182_s1 k0 N0 o0 a1 a6 a15 a16 s0 s1 s3 h)=(if 0≤a1∧a1<((4:Nat):Int) then rdH h k0 N0 fun l_90=>atK l_90 ((o0+32)+((Int.toNat a1)*1)) fun q_91=>lenK q_91 fun n_92=>if (decide (a16<n_92))=true then some (.normal,(q182_c15 k0 N0 o0 a1 a6 a15 a16 s0 s1 s3 h)) else some ((.exit 0),(q182_c15_1 k0 N0 o0 a1 a6 a15 s0 s1 s3 h)) else none:Option (Ex × St)).bind fun p_120=>(q182_k17 C L G) p_120.1 p_120.2:=by kernel_rfl
theorem q182_e1_1 (k0 N0 o0:Nat) (a1 a6 a15:Int) (s0 s1 s3:List Cell) (h:AHeap):(q182_k16 C L G) (.exit 0) (q182_x1_1 k0 N0 o0 a1 a6 a15 s0 s1 s3 h)=some (.normal,(q182_c12 k0 N0 o0 a1 a6 a15 s0 s1 s3 h)):=by kernel_rfl
theorem q182_ec14_n (k0 N0 o0:Nat) (a1 a6 a15:Int) (s0 s1 s3:List Cell) (h:AHeap):(q182_k15 C L G) .normal (q182_c14 k0 N0 o0 a1 a6 a15 s0 s1 s3 h)=(L (q182_F1 C L G) (q182_s1 k0 N0 o0 a1 a6 a15 0 s0 s1 s3 h)).bind fun p_121=>(q182_k16 C L G) p_121.1 p_121.2:=by kernel_rfl
theorem q182_ec13_n (k0 N0 o0:Nat) (a1 a6 a15:Int) (b138:Bool) (s0 s1 s3:List Cell) (h:AHeap):(q182_k14 C L G) .normal (q182_c13 k0 N0 o0 a1 a6 a15 b138 s0 s1 s3 h)=if b138=true then (atK s3 2 fun q_80=>asI .i64 (.c q_80) fun n_81=>if 0≤n_81∧n_81<((4:Nat):Int) then rdH h k0 N0 fun l_82=>atK l_82 ((o0+4)+((Int.toNat n_81)*1)) fun q_83=>asI .i64 (.c q_83) fun n_84=>atK s3 2 fun q_85=>asI .i64 (.c q_85) fun n_86=>if 0≤n_86∧n_86<((4:Nat):Int) then rdH h k0 N0 fun l_87=>atK l_87 ((o0+8)+((Int.toNat n_86)*1)) fun q_88=>asI .i64 (.c q_88) fun n_89=>if 6<s1.length then some (.normal,(q182_c14 k0 N0 o0 a1 a6 n_84 s0 (s1.set 6 (.int .i64 n_89)) s3 h)) else none else none else none:Option (Ex × St)).bind fun p_122=>(q182_k15 C L G) p_122.1 p_122.2 else some (.normal,(q182_c12 k0 N0 o0 a1 a6 a15 s0 s1 s3 h)):=by kernel_rfl
theorem q182_ec21_n (k0 N0 o0:Nat) (a1 a6 a15:Int) (b251:Bool) (s0 s1 s4:List Cell) (h:AHeap):(q182_k26 C L G) .normal (q182_c21 k0 N0 o0 a1 a6 a15 b251 s0 s1 s4 h)=if b251=true then if ([]:List Cell).length=0*3 then if 0≤a1∧a1<((4:Nat):Int) then rd0 (h++[some (Blk.mk true 3 [])]) k0 N0 fun l_159=>atK l_159 ((o0+32)+((Int.toNat a1)*1)) fun q_160=>(slCells (h++[some (Blk.mk true 3 [])]) 3 q_160).bind fun l_163=>appK 3 24 (.sl h.length (([]:List Cell).length) 0 0) l_163 (h++[some (Blk.mk true 3 [])]) fun x_161 h_162=>atK s4 3 fun q_164=>asI .i64 (.c q_164) fun n_165=>atK s4 5 fun q_166=>asI .i64 (.c q_166) fun n_167=>if (splice (splice (splice [ci0,ci0,ci0] 0 [(.int .i64 n_165)]) 1 [(.int .i64 n_167)]) 2 [(.int .i64 a6)]).length=3∧0+3≤[ci0,ci0,ci0].length then if (splice [ci0,ci0,ci0] 0 (splice (splice (splice [ci0,ci0,ci0] 0 [(.int .i64 n_165)]) 1 [(.int .i64 n_167)]) 2 [(.int .i64 a6)])).length=1*3 then appK 3 24 x_161 (splice [ci0,ci0,ci0] 0 (splice (splice (splice [ci0,ci0,ci0] 0 [(.int .i64 n_165)]) 1 [(.int .i64 n_167)]) 2 [(.int .i64 a6)])) h_162 fun x_168 h_169=>if 0≤a1∧a1<((4:Nat):Int) then rdH h_169 k0 N0 fun l_170=>if ((o0+32)+((Int.toNat a1)*1))<l_170.length then putH h_169 k0 (l_170.set ((o0+32)+((Int.toNat a1)*1)) x_168) fun h_171=>some (.normal,(q182_c19 k0 N0 o0 a1 a15 s0 s1 h_171)) else none else none else none else none else none else none else some (.normal,(q182_c19 k0 N0 o0 a1 a15 s0 s1 h)):=by kernel_rfl
theorem q182_ec20_n (k0 N0 o0:Nat) (a1 a6 a15:Int) (b220:Bool) (s0 s1 s4:List Cell) (h:AHeap):(q182_k25 C L G) .normal (q182_c20 k0 N0 o0 a1 a6 a15 b220 s0 s1 s4 h)=if b220=true then atK s4 3 fun q_147=>asI .i64 (.c q_147) fun n_148=>atK s4 3 fun q_149=>asI .i64 (.c q_149) fun n_150=>atK s4 5 fun q_151=>asI .i64 (.c q_151) fun n_152=>if 0≤n_148∧n_148<((4:Nat):Int) then rdH h k0 N0 fun l_153=>if ((o0+4)+((Int.toNat n_148)*1))<l_153.length then putH h k0 (l_153.set ((o0+4)+((Int.toNat n_148)*1)) (.int .i64 n_152)) fun h_154=>if 0≤n_150∧n_150<((4:Nat):Int) then rdH h_154 k0 N0 fun l_155=>if ((o0+8)+((Int.toNat n_150)*1))<l_155.length then putH h_154 k0 (l_155.set ((o0+8)+((Int.toNat n_150)*1)) (.int .i64 a6)) fun h_156=>some (.normal,(q182_c19 k0 N0 o0 a1 a15 s0 s1 h_156)) else none else none else none else none else (atK s4 2 fun q_157=>asI .i64 (.c q_157) fun n_158=>some (.normal,(q182_c21 k0 N0 o0 a1 a6 a15 (n_158==2) s0 s1 s4 h)):Option (Ex × St)).bind fun p_172=>(q182_k26 C L G) p_172.1 p_172.2:=by kernel_rfl
theorem q182_ec22_n (h0:AHeap) (k0 N0 o0:Nat) (s0 s1:List Cell) (h:AHeap):(q182_k27 C L G h0) .normal (q182_c22 k0 N0 o0 s0 s1 h)=rdH h k0 N0 fun l_181=>atK l_181 (o0+36) fun q_182=>if 0=0∧s1.length=7 then if s1.length=7∧0+7≤(List.replicate 7 ci0).length then if (splice (List.replicate 7 ci0) 0 s1).length=1*7 then appK 7 56 q_182 (splice (List.replicate 7 ci0) 0 s1) h fun x_183 h_184=>rdH h_184 k0 N0 fun l_185=>if (o0+36)<l_185.length then putH h_184 k0 (l_185.set (o0+36) x_183) fun h_186=>if 0=0∧s1.length=7 then if 0=0∧s0.length=7∧s1.length=7 then if 0=0∧s1.length=7 then some ([(.agg s1),(.c (.bool true))],h_186) else none else none else none else none else none else none else none:=by kernel_rfl
theorem q182_ec19_n (h0:AHeap) (k0 N0 o0:Nat) (a1 a15:Int) (s0 s1:List Cell) (h:AHeap):(q182_k23 C L G h0) .normal (q182_c19 k0 N0 o0 a1 a15 s0 s1 h)=(rdH h k0 N0 fun l_174=>if (o0+0)+3≤l_174.length then if 0≤a1∧a1<((4:Nat):Int) then rdH h k0 N0 fun l_175=>if ((o0+12)+((Int.toNat a1)*5))+5≤l_175.length then c1 (qh h (C 107 [(.agg ((l_174.drop (o0+0)).take 3)),(.c (.int .i64 a1)),(.agg ((l_175.drop ((o0+12)+((Int.toNat a1)*5))).take 5)),(.c (.int .i64 a15))] h)) fun y_177 h_176=>asA y_177 fun l_178=>if 0≤a1∧a1<((4:Nat):Int) then rdH h k0 N0 fun l_179=>if ((o0+12)+((Int.toNat a1)*5))+5≤l_179.length∧l_178.length=5 then putH h k0 (splice l_179 ((o0+12)+((Int.toNat a1)*5)) l_178) fun h_180=>some (.normal,(q182_c22 k0 N0 o0 s0 s1 h_180)) else none else none else none else none else none:Option (Ex × St)).bind fun p_187=>(q182_k27 C L G h0) p_187.1 p_187.2:=by kernel_rfl
theorem q182_ec18_n (h0:AHeap) (k0 N0 o0:Nat) (a1 a6 a15:Int) (s0 s1 s4:List Cell) (h:AHeap):(q182_k22 C L G h0) .normal (q182_c18 k0 N0 o0 a1 a6 a15 s0 s1 s4 h)=((atK s4 2 fun q_136=>asI .i64 (.c q_136) fun n_137=>scK (n_137==4) false (atK s4 2 fun q_138=>asI .i64 (.c q_138) fun n_139=>scK (n_139==2) true (rdH h k0 N0 fun l_140=>atK l_140 (o0+3) fun q_141=>asI .i64 (.c q_141) fun n_142=>some ((n_142==1),h)) false h fun b_143 h_144=>some (b_143,h_144)) true h fun b_145 h_146=>some (.normal,(q182_c20 k0 N0 o0 a1 a6 a15 b_145 s0 s1 s4 h_146)):Option (Ex × St)).bind fun p_173=>(q182_k25 C L G) p_173.1 p_173.2:Option (Ex × St)).bind fun p_188=>(q182_k23 C L G h0) p_188.1 p_188.2:=by kernel_rfl
theorem q182_ec17_n (h0:AHeap) (k0 N0 o0:Nat) (a1 a6 a15:Int) (s0 s1 s4:List Cell) (h:AHeap):(q182_k21 C L G h0) .normal (q182_c17 k0 N0 o0 a1 a6 a15 s0 s1 s4 h)=(atK s4 2 fun q_128=>asI .i64 (.c q_128) fun n_129=>atK s4 3 fun q_130=>asI .i64 (.c q_130) fun n_131=>atK s4 4 fun q_132=>asI .i64 (.c q_132) fun n_133=>atK s4 5 fun q_134=>asI .i64 (.c q_134) fun n_135=>if 2<s1.length then if 3<(s1.set 2 (.int .i64 n_129)).length then if 4<((s1.set 2 (.int .i64 n_129)).set 3 (.int .i64 n_131)).length then if 5<(((s1.set 2 (.int .i64 n_129)).set 3 (.int .i64 n_131)).set 4 (.int .i64 n_133)).length then some (.normal,(q182_c18 k0 N0 o0 a1 a6 a15 s0 ((((s1.set 2 (.int .i64 n_129)).set 3 (.int .i64 n_131)).set 4 (.int .i64 n_133)).set 5 (.int .i64 n_135)) s4 h)) else none else none else none else none:Option (Ex × St)).bind fun p_189=>(q182_k22 C L G h0) p_189.1 p_189.2:=by kernel_rfl
theorem q182_ec12_n (h0:AHeap) (k0 N0 o0:Nat) (a1 a6 a15:Int) (s0 s1 s3:List Cell) (h:AHeap):(q182_k13 C L G h0) .normal (q182_c12 k0 N0 o0 a1 a6 a15 s0 s1 s3 h)=(if 0=0∧s3.length=9 then if 0≤a1∧a1<((4:Nat):Int) then rdH h k0 N0 fun l_124=>if ((o0+12)+((Int.toNat a1)*5))+5≤l_124.length then c1 (qh h (C 111 [(.agg s3),(.agg ((l_124.drop ((o0+12)+((Int.toNat a1)*5))).take 5)),(.c (.int .i64 a15))] h)) fun y_126 h_125=>asA y_126 fun l_127=>if 0=0∧[ci0,ci0,ci0,ci0,ci0,ci0].length=6∧l_127.length=6 then some (.normal,(q182_c17 k0 N0 o0 a1 a6 a15 s0 s1 l_127 h)) else none else none else none else none:Option (Ex × St)).bind fun p_190=>(q182_k21 C L G h0) p_190.1 p_190.2:=by kernel_rfl
theorem q182_ec11_n (h0:AHeap) (k0 N0 o0:Nat) (a1 a6:Int) (s0 s1 s3:List Cell) (h:AHeap):(q182_k12 C L G h0) .normal (q182_c11 k0 N0 o0 a1 a6 s0 s1 s3 h)=((atK s3 0 fun q_74=>asI .i64 (.c q_74) fun n_75=>scK (n_75==2) false (atK s3 0 fun q_76=>asI .i64 (.c q_76) fun n_77=>some ((n_77==4),h)) true h fun b_78 h_79=>some (.normal,(q182_c13 k0 N0 o0 a1 a6 0 b_78 s0 s1 s3 h_79)):Option (Ex × St)).bind fun p_123=>(q182_k14 C L G) p_123.1 p_123.2:Option (Ex × St)).bind fun p_191=>(q182_k13 C L G h0) p_191.1 p_191.2:=by kernel_rfl
theorem q182_ec4_n (h0:AHeap) (k0 N0 o0:Nat) (a1 a6:Int) (s0 s1:List Cell) (h:AHeap):(q182_k5 C L G h0) .normal (q182_c4 k0 N0 o0 a1 a6 s0 s1 h)=(rdH h k0 N0 fun l_67=>if (o0+0)+3≤l_67.length then if 0≤a1∧a1<((4:Nat):Int) then rdH h k0 N0 fun l_68=>if ((o0+12)+((Int.toNat a1)*5))+5≤l_68.length then c2 (qh h (C 81 [(.agg ((l_67.drop (o0+0)).take 3)),(.c (.int .i64 a1)),(.agg ((l_68.drop ((o0+12)+((Int.toNat a1)*5))).take 5))] h)) fun y_70 y_71 h_69=>asA y_70 fun l_72=>asB y_71 fun b_73=>if 0=0∧(List.replicate 9 ci0).length=9∧l_72.length=9 then some (.normal,(q182_c11 k0 N0 o0 a1 a6 s0 s1 l_72 h)) else none else none else none else none:Option (Ex × St)).bind fun p_192=>(q182_k12 C L G h0) p_192.1 p_192.2:=by kernel_rfl
theorem q182_ec4_0 (h0:AHeap) (b5:Bool) (s0:List Cell) (h:AHeap):(q182_k5 C L G h0) .ret (q182_c4_0 b5 s0 h)=if 0=0∧s0.length=7 then some ([(.agg s0),(.c (.bool b5))],h) else none:=by kernel_rfl
theorem q182_ec3_n (h0:AHeap) (k0 N0 o0:Nat) (a1 a6:Int) (s0 s1:List Cell) (h:AHeap):(q182_k4 C L G h0) .normal (q182_c3 k0 N0 o0 a1 a6 s0 s1 h)=((c3 (C 197 [(.c (.ptr k0 N0 o0)),(.c (.int .i64 a1))] h) fun y_8 y_9 y_10 h_7=>asI .i64 y_8 fun n_11=>asI .i64 y_9 fun n_12=>asB y_10 fun b_13=>some (.normal,(q182_c5 k0 N0 o0 a1 a6 n_11 n_12 b_13 s0 s1 h_7)):Option (Ex × St)).bind fun p_66=>(q182_k6 C L G) p_66.1 p_66.2:Option (Ex × St)).bind fun p_193=>(q182_k5 C L G h0) p_193.1 p_193.2:=by kernel_rfl
theorem q182_ec2_n (h0:AHeap) (k0 N0 o0:Nat) (a1 a6:Int) (s0:List Cell) (h:AHeap):(q182_k3 C L G h0) .normal (q182_c2 k0 N0 o0 a1 a6 s0 h)=(if 0=0∧(List.replicate 7 ci0).length=7∧(splice (splice (splice (List.replicate 7 ci0) 0 [(.int .i64 a1)]) 1 [(.int .i64 a1)]) 6 [(.int .i64 (-1))]).length=7 then some (.normal,(q182_c3 k0 N0 o0 a1 a6 s0 (splice (splice (splice (List.replicate 7 ci0) 0 [(.int .i64 a1)]) 1 [(.int .i64 a1)]) 6 [(.int .i64 (-1))]) h)) else none:Option (Ex × St)).bind fun p_194=>(q182_k4 C L G h0) p_194.1 p_194.2:=by kernel_rfl
theorem q182_ec1_n (h0:AHeap) (k0 N0 o0:Nat) (a1:Int) (s0:List Cell) (h:AHeap):(q182_k2 C L G h0) .normal (q182_c1 k0 N0 o0 a1 s0 h)=(rdH h k0 N0 fun l_4=>atK l_4 (o0+36) fun q_5=>lenK q_5 fun n_6=>some (.normal,(q182_c2 k0 N0 o0 a1 n_6 s0 h)):Option (Ex × St)).bind fun p_195=>(q182_k3 C L G h0) p_195.1 p_195.2:=by kernel_rfl
set_option maxRecDepth 100000 in
theorem q182_eq (k0 N0 o0:Nat) (a1:Int) (h0:AHeap):q182.body C L G [(.c (.ptr k0 N0 o0)),(.c (.int .i64 a1))] h0=(c1 (C 196 [(.c (.ptr k0 N0 o0)),(.c (.int .i64 a1))] h0) fun y_2 h_1=>asB y_2 fun b_3=>if (!b_3)=true then if 0=0∧(List.replicate 7 ci0).length=7∧(List.replicate 7 ci0).length=7 then some (.ret,(q182_c1_0 false (List.replicate 7 ci0) h_1)) else none else some (.normal,(q182_c1 k0 N0 o0 a1 (List.replicate 7 ci0) h_1)):Option (Ex × St)).bind fun p_196=>(q182_k2 C L G h0) p_196.1 p_196.2:=by kernel_rfl
set_option maxRecDepth 100000 in
theorem q196_eq (k0 N0 o0:Nat) (a1:Int) (h0:AHeap):q196.body C L G [(.c (.ptr k0 N0 o0)),(.c (.int .i64 a1))] h0=scK (decide (a1≥0)) true (some ((decide (a1<4)),h0)) false h0 fun b_1 h_2=>if b_1=true then rdH h_2 k0 N0 fun l_3=>if (o0+0)+3≤l_3.length then if 0≤a1∧a1<((4:Nat):Int) then rdH h_2 k0 N0 fun l_4=>if ((o0+12)+((Int.toNat a1)*5))+5≤l_4.length then c2 (qh h_2 (C 81 [(.agg ((l_3.drop (o0+0)).take 3)),(.c (.int .i64 a1)),(.agg ((l_4.drop ((o0+12)+((Int.toNat a1)*5))).take 5))] h_2)) fun y_6 y_7 h_5=>asA y_6 fun l_8=>asB y_7 fun b_9=>if 0=0∧(List.replicate 9 ci0).length=9∧l_8.length=9 then scK b_9 true (atK l_8 0 fun q_10=>asI .i64 (.c q_10) fun n_11=>scK (n_11 != 3) true (atK l_8 0 fun q_12=>asI .i64 (.c q_12) fun n_13=>some ((n_13 != 4),h_2)) false h_2 fun b_14 h_15=>scK b_14 false (if 0≤a1∧a1<((4:Nat):Int) then rdH h_15 k0 N0 fun l_16=>atK l_16 ((o0+32)+((Int.toNat a1)*1)) fun q_17=>lenK q_17 fun n_18=>some ((n_18==0),h_15) else none) true h_15 fun b_19 h_20=>some (b_19,h_20)) false h_2 fun b_21 h_22=>some ([(.c (.bool b_21))],h_22) else none else none else none else none else c3 (C 197 [(.c (.ptr k0 N0 o0)),(.c (.int .i64 a1))] h_2) fun y_24 y_25 y_26 h_23=>asI .i64 y_24 fun n_27=>asI .i64 y_25 fun n_28=>asB y_26 fun b_29=>scK b_29 true (c1 (C 198 [(.c (.ptr k0 N0 o0)),(.c (.int .i64 n_27)),(.c (.int .i64 n_28))] h_23) fun y_31 h_30=>asI .i64 y_31 fun n_32=>some ((decide (n_32≥0)),h_30)) false h_23 fun b_33 h_34=>some ([(.c (.bool b_33))],h_34):=by kernel_rfl
set_option maxRecDepth 100000 in
theorem q197_eq (k0 N0 o0:Nat) (a1:Int) (h0:AHeap):q197.body C L G [(.c (.ptr k0 N0 o0)),(.c (.int .i64 a1))] h0=rdH h0 k0 N0 fun l_1=>atK l_1 (o0+3) fun q_2=>asI .i64 (.c q_2) fun n_3=>scK (n_3==2) true (some ((decide (a1≥4)),h0)) false h0 fun b_4 h_5=>scK b_4 true (some ((decide (a1<8)),h_5)) false h_5 fun b_6 h_7=>if b_6=true then some ([(.c (.int .i64 (G.wrap .i64 (a1 - 4)))),(.c (.int .i64 (-1))),(.c (.bool true))],h_7) else rdH h_7 k0 N0 fun l_8=>atK l_8 (o0+3) fun q_9=>asI .i64 (.c q_9) fun n_10=>scK (n_10==3) true (some ((decide (a1≥8)),h_7)) false h_7 fun b_11 h_12=>scK b_11 true (some ((decide (a1<24)),h_12)) false h_12 fun b_13 h_14=>if b_13=true then some ([(.c (.int .i64 (G.quo .i64 (G.wrap .i64 (a1 - 8)) 4))),(.c (.int .i64 (G.rem .i64 (G.wrap .i64 (a1 - 8)) 4))),(.c (.bool true))],h_14) else some ([(.c (.int .i64 0)),(.c (.int .i64 0)),(.c (.bool false))],h_14):=by kernel_rfl
def q198_k2 (C:CallF) (L:LoopF) (G:Glo) (h0:AHeap):Ex→St→Option (List AV × AHeap):=kSeq (fun st=>q198_p1.exec C L G st (q198.fin G h0)) (q198.fin G h0)
def q198_k3 (C:CallF) (L:LoopF) (G:Glo) (h0:AHeap):Ex→St→Option (List AV × AHeap):=kBlk 0 (q198_k2 C L G h0)
def q198_s1 (k0 N0 o0:Nat) (a1 a2 a7:Int) (h:AHeap):St:=⟨.v (.c (.ptr k0 N0 o0)) :: .v (.c (.int .i64 a1)) :: .v (.c (.int .i64 a2)) :: tops 4 (.v (.c (.int .i64 a7)) :: tops 28 []),[],h⟩
def q198_F1 (C:CallF) (L:LoopF) (G:Glo):St→Option (Ex × St):=roundF (fun st f=>q198_b1.exec C L G st f) [0,1,2,7] [] [(0,[6],[]),(1,[],[])]
def q198_x1_0 (a6:Int) (h:AHeap):St:=⟨tops 6 (.v (.c (.int .i64 a6)) :: tops 29 []),[],h⟩
def q198_x1_1 (h:AHeap):St:=⟨tops 36 [],[],h⟩
theorem q198_r1 (k0 N0 o0:Nat) (a1 a2 a7:Int) (h:AHeap):q198_F1 C L G (q198_s1 k0 N0 o0 a1 a2 a7 h)=if 0≤a1∧a1<((4:Nat):Int) then rdH h k0 N0 fun l_1=>atK l_1 ((o0+32)+((Int.toNat a1)*1)) fun q_2=>lenK q_2 fun n_3=>if (decide (a7<n_3))=true then scK (decide (a2<0)) false (if 0≤a1∧a1<((4:Nat):Int) then rdH h k0 N0 fun l_4=>atK l_4 ((o0+32)+((Int.toNat a1)*1)) fun q_5=>idxSK 3 q_5 a7 fun k_6 N_7 o_8=>rdH h k_6 N_7 fun l_9=>atK l_9 (o_8+0) fun q_10=>asI .i64 (.c q_10) fun n_11=>some ((n_11==a2),h) else none) true h fun b_12 h_13=>if b_12=true then some (.ret,(q198_x1_0 a7 h_13)) else some (.normal,(q198_s1 k0 N0 o0 a1 a2 (G.wrap .i64 (a7+1)) h_13)) else some ((.exit 0),(q198_x1_1 h)) else none:=by kernel_rfl
theorem q198_e1_0 (h0:AHeap) (a6:Int) (h:AHeap):(q198_k3 C L G h0) .ret (q198_x1_0 a6 h)=some ([(.c (.int .i64 a6))],h):=by kernel_rfl
theorem q198_e1_1 (h0:AHeap) (h:AHeap):(q198_k3 C L G h0) (.exit 0) (q198_x1_1 h)=some ([(.c (.int .i64 (-1)))],h):=by kernel_rfl
set_option maxRecDepth 100000 in
theorem q198_eq (k0 N0 o0:Nat) (a1 a2:Int) (h0:AHeap):q198.body C L G [(.c (.ptr k0 N0 o0)),(.c (.int .i64 a1)),(.c (.int .i64 a2))] h0=(L (q198_F1 C L G) (q198_s1 k0 N0 o0 a1 a2 0 h0)).bind fun p_14=>(q198_k3 C L G h0) p_14.1 p_14.2:=by kernel_rfl
end Jq

namespace Jq
open Go
structure Stp where
 pick:Int
 t:Int
 kind:Int
 loc:Int
 r:Int
 w:Int
 frm:Int
def Stp.cs (s:Stp):List Cell:=[.int .i64 s.pick,.int .i64 s.t,.int .i64 s.kind,.int .i64 s.loc,.int .i64 s.r,.int .i64 s.w,.int .i64 s.frm]
def shStep:Sh:=.agg (Sh.rep (.i .i64) 7)
def stepsC (l:List Stp):List Cell:=l.flatMap Stp.cs
theorem stp_len (s:Stp):s.cs.length=7:=rfl
theorem stepsC_len:∀l:List Stp,(stepsC l).length=l.length*7
 | []=>rfl
 | s :: l=>by simp only [stepsC,List.flatMap_cons,List.length_append];rw [show (l.flatMap _).length=_ from stepsC_len l,stp_len];simp;omega
theorem stepsC_at:∀(l:List Stp) (i:Nat) (s:Stp),l[i]? = some s→((stepsC l).drop (i*7)).take 7=s.cs
 | [],_,_,h=>by simp at h
 | q :: l,0,s,h=>by simp at h;subst h;rfl
 | q :: l,i+1,s,h=>by
  have:=stepsC_at l i s (by simpa using h)
  have e:stepsC (q :: l)=q.cs++stepsC l:=rfl
  rw [e,List.drop_append,List.drop_of_length_le (by rw [stp_len];omega),List.nil_append,show (i+1)*7 - q.cs.length=i*7 by rw [stp_len];omega]
  exact this
theorem stepsC_snoc (l:List Stp) (s:Stp):stepsC (l++[s])=stepsC l++s.cs:=by simp [stepsC]
theorem SlAt.elG {h:AHeap} {x:Cell} {esz len:Nat} {cs:List Cell} (s:SlAt h x esz cs len) {i:Nat} (hi:i<len) :
  ∃off cs',(∀{α:Type} (G:Nat→List Cell→Option α),(idxSK esz x (i:Int) fun k N o=>rdH h k N fun l=>G o l)=G off cs')∧off+esz≤cs'.length∧(cs'.drop off).take esz=(cs.drop (i*esz)).take esz:=by
 rcases s.2 with ⟨_,rfl⟩ | ⟨k,N,off,rfl,h0 | ⟨b,hb,hN,hle,hat⟩⟩
 ·omega
 ·omega
 ·have hlt:i*esz+esz≤len*esz:=by
   have:(i+1)*esz≤len*esz:=Nat.mul_le_mul_right _ hi
   rw [Nat.succ_mul] at this;exact this
  refine ⟨off+i*esz,b.cs,fun G=>by rw [idxSK_ok hi,rdH_ok hb hN],by omega,?_⟩
  refine List.ext_getElem? fun j=>?_
  rw [List.getElem?_take,List.getElem?_take]
  by_cases hj:j<esz
  ·rw [if_pos hj,if_pos hj,List.getElem?_drop,List.getElem?_drop,Nat.add_assoc,hat _ (by omega)]
  ·rw [if_neg hj,if_neg hj]
theorem SlAt.step {α:Type} {h:AHeap} {x:Cell} {l:List Stp} (s:SlAt h x 7 (stepsC l) l.length) {i:Nat} {q:Stp} (hq:l[i]? = some q) {f:List Cell→Option α} :
  (idxSK 7 x (i:Int) fun k N o=>rdH h k N fun l=>if o+7≤l.length then f ((l.drop o).take 7) else none)=f q.cs:=by
 have hi:i<l.length:=by
  rcases Nat.lt_or_ge i l.length with h | h
  ·exact h
  ·rw [List.getElem?_eq_none h] at hq;cases hq
 rw [s.getN hi,stepsC_at l i q hq]
def wrS (s:Stp) (m:Int):Bool:=s.kind==6||s.kind==4||(m==1&&s.kind==2)
def rdS (s:Stp):Bool:=s.kind==1||s.kind==4||s.kind==5
def fnS (s:Stp):Bool:=s.kind==3||s.kind==4||s.kind==5
def tchS (s:Stp) (m:Int):Bool:=wrS s m||rdS s
def clash (a b:Stp) (m:Int):Bool :=
 if (a.pick==b.pick)=true then true
 else if (a.t==b.t)=true then (a.kind==6&&fnS b)||(b.kind==6&&fnS a)
 else tchS a m&&tchS b m&&a.loc==b.loc&&(wrS a m||wrS b m)
theorem clash_comm (a b:Stp) (m:Int):clash a b m=clash b a m:=by
 have ec:∀x y:Int,(y==x)=(x==y):=fun x y=>by rw [Bool.eq_iff_iff,beq_iff_eq,beq_iff_eq];exact eq_comm
 unfold clash
 rw [ec a.pick b.pick,ec a.t b.t,ec a.loc b.loc]
 split
 ·rfl
 ·split
  ·exact Bool.or_comm _ _
  ·cases tchS a m<;>cases tchS b m<;>cases (a.loc==b.loc)<;>cases wrS a m<;>cases wrS b m<;>rfl
def wakeS (a:Stp) (m:Int):List Stp→Nat→Nat
 | [],s=>s
 | x :: l,s=>wakeS a m l (if clash x a m=true then ndiff s (bitI x.pick) else s)
section
variable {E:Env}
def frI (f:Nat→Nat) (a k:Nat):Nat→Bool
 | 0=>true
 | i+1=>frI f a k i&&!(decide (a≤i)&&(f i).testBit k)
def iniS (f:Nat→Nat) (l:List Int) (a:Nat):Nat→Nat
 | 0=>0
 | k+1=>if (decide (a≤k)&&frI f a k l.length)=true then iniS f l a k ||| bitI (l.getD k 0) else iniS f l a k
end
end Jq

namespace Jq
open Go
variable (C:CallF) (L:LoopF) (G:Glo)
set_option maxRecDepth 100000 in
theorem q94_eq (l0:List Cell) (a1:Int) (h0:AHeap):q94.body C L G [(.agg l0),(.c (.int .i64 a1))] h0=if 0=0∧l0.length=3 then c1 (C 113 [(.agg l0),(.c (.int .i64 a1))] h0) fun y_2 h_1=>asC y_2 fun x_3=>c1 (C 114 [(.c x_3),(.agg [ci0,ci0,ci0,ci0,ci0])] h_1) fun y_5 h_4=>asA y_5 fun l_6=>if 0=0∧[ci0,ci0,ci0,ci0,ci0].length=5∧l_6.length=5 then if 0=0∧l_6.length=5 then some ([(.agg l_6)],h_4) else none else none else none:=by kernel_rfl
def q102_k2 (C:CallF) (L:LoopF) (G:Glo) (h0:AHeap):Ex→St→Option (List AV × AHeap):=kSeq (fun st=>q102_p1.exec C L G st (q102.fin G h0)) (q102.fin G h0)
def q102_k3 (C:CallF) (L:LoopF) (G:Glo) (h0:AHeap):Ex→St→Option (List AV × AHeap):=kBlk 0 (q102_k2 C L G h0)
def q102_s1 (a3:Int) (x7:Cell) (a8 a9:Int) (h:AHeap):St:=⟨tops 3 (.v (.c (.int .i64 a3)) :: tops 3 (.v (.c x7) :: .v (.c (.int .i64 a8)) :: .v (.c (.int .i64 a9)) :: tops 9 [])),[none],h⟩
def q102_F1 (C:CallF) (L:LoopF) (G:Glo):St→Option (Ex × St):=roundF (fun st f=>q102_b1.exec C L G st f) [3,7,8,9] [] [(1,[3],[])]
def q102_x1_1 (a3:Int) (h:AHeap):St:=⟨tops 3 (.v (.c (.int .i64 a3)) :: tops 15 []),[none],h⟩
theorem q102_r1 (a3:Int) (x7:Cell) (a8 a9:Int) (h:AHeap):q102_F1 C L G (q102_s1 a3 x7 a8 a9 h)=if (decide (a9<a8))=true then idxSK 1 x7 a9 fun k_3 N_4 o_5=>rdH h k_3 N_4 fun l_6=>atK l_6 o_5 fun q_7=>lenK q_7 fun n_8=>some (.normal,(q102_s1 (G.wrap .i64 (a3+n_8)) x7 a8 (G.wrap .i64 (a9+1)) h)) else some ((.exit 0),(q102_x1_1 a3 h)):=by kernel_rfl
theorem q102_e1_1 (h0:AHeap) (a3:Int) (h:AHeap):(q102_k3 C L G h0) (.exit 0) (q102_x1_1 a3 h)=some ([(.c (.int .i64 a3))],h):=by kernel_rfl
set_option maxRecDepth 100000 in
theorem q102_eq (l0:List Cell) (h0:AHeap):q102.body C L G [(.agg l0)] h0=atK l0 2 fun q_1=>lenK q_1 fun n_2=>(L (q102_F1 C L G) (q102_s1 0 q_1 n_2 0 h0)).bind fun p_9=>(q102_k3 C L G h0) p_9.1 p_9.2:=by kernel_rfl
set_option maxRecDepth 100000 in
theorem q105_eq (l0:List Cell) (a1:Int) (l2:List Cell) (h0:AHeap):q105.body C L G [(.agg l0),(.c (.int .i64 a1)),(.agg l2)] h0=if 0=0∧l0.length=3 then c1 (C 113 [(.agg l0),(.c (.int .i64 a1))] h0) fun y_2 h_1=>asC y_2 fun x_3=>atK l2 0 fun q_4=>asI .i64 (.c q_4) fun n_5=>scK (decide (n_5<0)) false (atK l2 0 fun q_6=>asI .i64 (.c q_6) fun n_7=>lenK x_3 fun n_8=>some ((decide (n_7≥n_8)),h_1)) true h_1 fun b_9 h_10=>if b_9=true then if 0=0∧(List.replicate 9 ci0).length=9∧(List.replicate 9 ci0).length=9 then if 0=0∧(List.replicate 9 ci0).length=9 then some ([(.agg (List.replicate 9 ci0)),(.c (.bool false))],h_10) else none else none else atK l2 0 fun q_11=>asI .i64 (.c q_11) fun n_12=>idxSK 9 x_3 n_12 fun k_13 N_14 o_15=>rdH h_10 k_13 N_14 fun l_16=>if o_15+9≤l_16.length then if 0=0∧(List.replicate 9 ci0).length=9∧((l_16.drop o_15).take 9).length=9 then atK ((l_16.drop o_15).take 9) 0 fun q_17=>asI .i64 (.c q_17) fun n_18=>scK (decide (n_18<1)) false (atK ((l_16.drop o_15).take 9) 0 fun q_19=>asI .i64 (.c q_19) fun n_20=>some ((decide (n_20 > 4)),h_10)) true h_10 fun b_21 h_22=>if b_21=true then if 0=0∧(List.replicate 9 ci0).length=9∧(List.replicate 9 ci0).length=9 then if 0=0∧(List.replicate 9 ci0).length=9 then some ([(.agg (List.replicate 9 ci0)),(.c (.bool false))],h_22) else none else none else if 0=0∧((l_16.drop o_15).take 9).length=9 then if 0=0∧(List.replicate 9 ci0).length=9∧((l_16.drop o_15).take 9).length=9 then if 0=0∧((l_16.drop o_15).take 9).length=9 then some ([(.agg ((l_16.drop o_15).take 9)),(.c (.bool true))],h_22) else none else none else none else none else none else none:=by kernel_rfl
set_option maxRecDepth 100000 in
theorem q106_eq (l0:List Cell) (a1:Int) (l2:List Cell) (a3:Int) (h0:AHeap):q106.body C L G [(.agg l0),(.c (.int .i64 a1)),(.agg l2),(.c (.int .i64 a3))] h0=if 0=0∧l0.length=3 then rdH (h0++[some (Blk.mk true 0 (AV.cells (.agg l2)))]) h0.length ((AV.cells (.agg l2)).length) fun l_1=>if 0=0∧l_1.length=5 then c2 (C 105 [(.agg l0),(.c (.int .i64 a1)),(.agg l_1)] (h0++[some (Blk.mk true 0 (AV.cells (.agg l2)))])) fun y_3 y_4 h_2=>asA y_3 fun l_5=>asB y_4 fun b_6=>if 0=0∧(List.replicate 9 ci0).length=9∧l_5.length=9 then if (!b_6)=true then rdH h_2 h0.length ((AV.cells (.agg l2)).length) fun l_7=>if 0=0∧l_7.length=5 then if 0=0∧[ci0,ci0,ci0,ci0,ci0].length=5∧l_7.length=5 then if 0=0∧l_7.length=5 then finish true h0 [(.agg l_7)] h_2 else none else none else none else atK l_5 0 fun q_8=>asI .i64 (.c q_8) fun n_9=>scK (n_9==2) false (atK l_5 0 fun q_10=>asI .i64 (.c q_10) fun n_11=>some ((n_11==4),h_2)) true h_2 fun b_12 h_13=>if b_12=true then atK l_5 1 fun q_14=>asI .i64 (.c q_14) fun n_15=>c0 (C 124 [(.c (.ptr h0.length ((AV.cells (.agg l2)).length) 0)),(.c (.int .i64 n_15)),(.c (.int .i64 a3))] h_13) fun h_16=>rdH h_16 h0.length ((AV.cells (.agg l2)).length) fun l_17=>atK l_17 0 fun q_18=>asI .i64 (.c q_18) fun n_19=>rdH h_16 h0.length ((AV.cells (.agg l2)).length) fun l_20=>if 0<l_20.length then putH h_16 h0.length (l_20.set 0 (.int .i64 (G.wrap .i64 (n_19+1)))) fun h_21=>if 0=0∧l0.length=3 then c1 (qh h_21 (C 113 [(.agg l0),(.c (.int .i64 a1))] h_21)) fun y_23 h_22=>asC y_23 fun x_24=>rdH h_21 h0.length ((AV.cells (.agg l2)).length) fun l_25=>if 0=0∧l_25.length=5 then c1 (qh h_21 (C 114 [(.c x_24),(.agg l_25)] h_21)) fun y_27 h_26=>asA y_27 fun l_28=>if 0=0∧[ci0,ci0,ci0,ci0,ci0].length=5∧l_28.length=5 then if 0=0∧l_28.length=5 then finish true h0 [(.agg l_28)] h_21 else none else none else none else none else none else rdH h_13 h0.length ((AV.cells (.agg l2)).length) fun l_29=>atK l_29 0 fun q_30=>asI .i64 (.c q_30) fun n_31=>rdH h_13 h0.length ((AV.cells (.agg l2)).length) fun l_32=>if 0<l_32.length then putH h_13 h0.length (l_32.set 0 (.int .i64 (G.wrap .i64 (n_31+1)))) fun h_33=>if 0=0∧l0.length=3 then c1 (qh h_33 (C 113 [(.agg l0),(.c (.int .i64 a1))] h_33)) fun y_35 h_34=>asC y_35 fun x_36=>rdH h_33 h0.length ((AV.cells (.agg l2)).length) fun l_37=>if 0=0∧l_37.length=5 then c1 (qh h_33 (C 114 [(.c x_36),(.agg l_37)] h_33)) fun y_39 h_38=>asA y_39 fun l_40=>if 0=0∧[ci0,ci0,ci0,ci0,ci0].length=5∧l_40.length=5 then if 0=0∧l_40.length=5 then finish true h0 [(.agg l_40)] h_33 else none else none else none else none else none else none else none else none:=by kernel_rfl
set_option maxRecDepth 100000 in
theorem q108_eq (l0 l1:List Cell) (h0:AHeap):q108.body C L G [(.agg l0),(.agg l1)] h0=atK l0 0 fun q_1=>asI .i64 (.c q_1) fun n_2=>scK (decide (n_2≥0)) true (atK l0 0 fun q_3=>asI .i64 (.c q_3) fun n_4=>some ((decide (n_4<4)),h0)) false h0 fun b_5 h_6=>if b_5=true then atK l0 0 fun q_7=>asI .i64 (.c q_7) fun n_8=>if 0≤n_8∧n_8<((4:Nat):Int) then atK l1 (1+((Int.toNat n_8)*1)) fun q_9=>asI .i64 (.c q_9) fun n_10=>some ([(.c (.int .i64 n_10))],h_6) else none else atK l0 1 fun q_11=>asI .i64 (.c q_11) fun n_12=>some ([(.c (.int .i64 n_12))],h_6):=by kernel_rfl
set_option maxRecDepth 100000 in
theorem q113_eq (l0:List Cell) (a1:Int) (h0:AHeap):q113.body C L G [(.agg l0),(.c (.int .i64 a1))] h0=scK (decide (a1<0)) false (atK l0 2 fun q_1=>lenK q_1 fun n_2=>some ((decide (a1≥n_2)),h0)) true h0 fun b_3 h_4=>if b_3=true then some ([(.c .nils)],h_4) else atK l0 2 fun q_5=>idxSK 1 q_5 a1 fun k_6 N_7 o_8=>rdH h_4 k_6 N_7 fun l_9=>atK l_9 o_8 fun q_10=>some ([(.c q_10)],h_4):=by kernel_rfl
def q114_k2 (C:CallF) (L:LoopF) (G:Glo) (h0:AHeap):Ex→St→Option (List AV × AHeap):=kSeq (fun st=>q114_p1.exec C L G st (q114.fin G h0)) (q114.fin G h0)
def q114_k3 (C:CallF) (L:LoopF) (G:Glo) (h0:AHeap):Ex→St→Option (List AV × AHeap):=kBlk 0 (q114_k2 C L G h0)
def q114_s1 (x0:Cell) (k3 N3 o3:Nat) (s0:List Cell) (h:AHeap):St:=⟨.v (.c x0) :: tops 2 (.v (.c (.ptr k3 N3 o3)) :: .loc 0 0 :: tops 67 []),[some s0,none],h⟩
def q114_F1 (C:CallF) (L:LoopF) (G:Glo):St→Option (Ex × St):=roundF (fun st f=>q114_b1.exec C L G st f) [0,3,4] [0] [(0,[4],[0]),(1,[3,4],[0])]
def q114_x1_0 (s0:List Cell) (h:AHeap):St:=⟨tops 4 (.loc 0 0 :: tops 67 []),[some s0,none],h⟩
def q114_x1_1 (k3 N3 o3:Nat) (s0:List Cell) (h:AHeap):St:=⟨tops 3 (.v (.c (.ptr k3 N3 o3)) :: .loc 0 0 :: tops 67 []),[some s0,none],h⟩
theorem q114_r1 (x0:Cell) (k3 N3 o3:Nat) (s0:List Cell) (h:AHeap):q114_F1 C L G (q114_s1 x0 k3 N3 o3 s0 h)=rdH h k3 N3 fun l_1=>atK l_1 (o3+0) fun q_2=>asI .i64 (.c q_2) fun n_3=>scK (decide (n_3≥0)) true (rdH h k3 N3 fun l_4=>atK l_4 (o3+0) fun q_5=>asI .i64 (.c q_5) fun n_6=>lenK x0 fun n_7=>some ((decide (n_6<n_7)),h)) false h fun b_8 h_9=>if b_8=true then rdH h_9 k3 N3 fun l_10=>atK l_10 (o3+0) fun q_11=>asI .i64 (.c q_11) fun n_12=>idxSK 9 x0 n_12 fun k_13 N_14 o_15=>rdH h_9 k_13 N_14 fun l_16=>if o_15+9≤l_16.length then if 0=0∧(List.replicate 9 ci0).length=9∧((l_16.drop o_15).take 9).length=9 then if 3+2≤((l_16.drop o_15).take 9).length then rdH h_9 k3 N3 fun l_17=>if o3=0∧l_17.length=5 then c1 (qh h_9 (C 108 [(.agg ((((l_16.drop o_15).take 9).drop 3).take 2)),(.agg l_17)] h_9)) fun y_19 h_18=>asI .i64 y_19 fun n_20=>if 6+2≤((l_16.drop o_15).take 9).length then rdH h_9 k3 N3 fun l_21=>if o3=0∧l_21.length=5 then c1 (qh h_9 (C 108 [(.agg ((((l_16.drop o_15).take 9).drop 6).take 2)),(.agg l_21)] h_9)) fun y_23 h_22=>asI .i64 y_23 fun n_24=>atK ((l_16.drop o_15).take 9) 0 fun q_25=>asI .i64 (.c q_25) fun n_26=>if (n_26==5)=true then atK ((l_16.drop o_15).take 9) 5 fun q_27=>asI .i64 (.c q_27) fun n_28=>c2 (C 125 [(.c (.int .i64 n_28)),(.c (.int .i64 n_20)),(.c (.int .i64 n_24))] h_9) fun y_30 y_31 h_29=>asI .i64 y_30 fun n_32=>asB y_31 fun b_33=>if b_33=true then atK ((l_16.drop o_15).take 9) 1 fun q_34=>asI .i64 (.c q_34) fun n_35=>c0 (C 124 [(.c (.ptr k3 N3 o3)),(.c (.int .i64 n_35)),(.c (.int .i64 n_32))] h_29) fun h_36=>rdH h_36 k3 N3 fun l_37=>atK l_37 (o3+0) fun q_38=>asI .i64 (.c q_38) fun n_39=>rdH h_36 k3 N3 fun l_40=>if (o3+0)<l_40.length then putH h_36 k3 (l_40.set (o3+0) (.int .i64 (G.wrap .i64 (n_39+1)))) fun h_41=>some (.normal,(q114_s1 x0 k3 N3 o3 s0 h_41)) else none else atK ((l_16.drop o_15).take 9) 1 fun q_42=>asI .i64 (.c q_42) fun n_43=>c0 (C 124 [(.c (.ptr k3 N3 o3)),(.c (.int .i64 n_43)),(.c (.int .i64 n_20))] h_29) fun h_44=>rdH h_44 k3 N3 fun l_45=>atK l_45 (o3+0) fun q_46=>asI .i64 (.c q_46) fun n_47=>rdH h_44 k3 N3 fun l_48=>if (o3+0)<l_48.length then putH h_44 k3 (l_48.set (o3+0) (.int .i64 (G.wrap .i64 (n_47+1)))) fun h_49=>some (.normal,(q114_s1 x0 k3 N3 o3 s0 h_49)) else none else if (n_26==6)=true then if (n_20==n_24)=true then rdH h_9 k3 N3 fun l_50=>atK l_50 (o3+0) fun q_51=>asI .i64 (.c q_51) fun n_52=>atK ((l_16.drop o_15).take 9) 8 fun q_53=>asI .i64 (.c q_53) fun n_54=>lenK x0 fun n_55=>let v_56:Int:=(if n_55<(if 0 > n_54 then 0 else n_54) then n_55 else (if 0 > n_54 then 0 else n_54));rdH h_9 k3 N3 fun l_57=>if (o3+0)<l_57.length then putH h_9 k3 (l_57.set (o3+0) (.int .i64 (G.wrap .i64 (n_52+v_56)))) fun h_58=>rdH h_58 k3 N3 fun l_59=>atK l_59 (o3+0) fun q_60=>asI .i64 (.c q_60) fun n_61=>rdH h_58 k3 N3 fun l_62=>if (o3+0)<l_62.length then putH h_58 k3 (l_62.set (o3+0) (.int .i64 (G.wrap .i64 (n_61+1)))) fun h_63=>some (.normal,(q114_s1 x0 k3 N3 o3 s0 h_63)) else none else none else rdH h_9 k3 N3 fun l_64=>atK l_64 (o3+0) fun q_65=>asI .i64 (.c q_65) fun n_66=>rdH h_9 k3 N3 fun l_67=>if (o3+0)<l_67.length then putH h_9 k3 (l_67.set (o3+0) (.int .i64 (G.wrap .i64 (n_66+1)))) fun h_68=>some (.normal,(q114_s1 x0 k3 N3 o3 s0 h_68)) else none else rdH h_9 k3 N3 fun l_69=>if o3=0∧l_69.length=5 then if 0=0∧s0.length=5∧l_69.length=5 then some (.ret,(q114_x1_0 l_69 h_9)) else none else none else none else none else none else none else none else none else some ((.exit 0),(q114_x1_1 k3 N3 o3 s0 h_9)):=by kernel_rfl
theorem q114_e1_0 (h0:AHeap) (s0:List Cell) (h:AHeap):(q114_k3 C L G h0) .ret (q114_x1_0 s0 h)=if 0=0∧s0.length=5 then finish true h0 [(.agg s0)] h else none:=by kernel_rfl
theorem q114_e1_1 (h0:AHeap) (k3 N3 o3:Nat) (s0:List Cell) (h:AHeap):(q114_k3 C L G h0) (.exit 0) (q114_x1_1 k3 N3 o3 s0 h)=rdH h k3 N3 fun l_70=>if o3=0∧l_70.length=5 then if 0=0∧s0.length=5∧l_70.length=5 then if 0=0∧l_70.length=5 then finish true h0 [(.agg l_70)] h else none else none else none:=by kernel_rfl
set_option maxRecDepth 100000 in
theorem q114_eq (x0:Cell) (l1:List Cell) (h0:AHeap):q114.body C L G [(.c x0),(.agg l1)] h0=(L (q114_F1 C L G) (q114_s1 x0 h0.length ((AV.cells (.agg l1)).length) 0 [ci0,ci0,ci0,ci0,ci0] (h0++[some (Blk.mk true 0 (AV.cells (.agg l1)))]))).bind fun p_71=>(q114_k3 C L G h0) p_71.1 p_71.2:=by kernel_rfl
set_option maxRecDepth 100000 in
theorem q124_eq (k0 N0 o0:Nat) (a1 a2:Int) (h0:AHeap):q124.body C L G [(.c (.ptr k0 N0 o0)),(.c (.int .i64 a1)),(.c (.int .i64 a2))] h0=scK (decide (a1≥0)) true (some ((decide (a1<4)),h0)) false h0 fun b_1 h_2=>if b_1=true then if 0≤a1∧a1<((4:Nat):Int) then rdH h_2 k0 N0 fun l_3=>if ((o0+1)+((Int.toNat a1)*1))<l_3.length then putH h_2 k0 (l_3.set ((o0+1)+((Int.toNat a1)*1)) (.int .i64 a2)) fun h_4=>some ([],h_4) else none else none else some ([],h_2):=by kernel_rfl
def q188_k2 (C:CallF) (L:LoopF) (G:Glo) (h0:AHeap):Ex→St→Option (List AV × AHeap):=kSeq (fun st=>q188_p1.exec C L G st (q188.fin G h0)) (q188.fin G h0)
def q188_k3 (C:CallF) (L:LoopF) (G:Glo) (h0:AHeap):Ex→St→Option (List AV × AHeap):=kBlk 0 (q188_k2 C L G h0)
def q188_s1 (k1 N1 o1:Nat) (x39:Cell) (a40 a41:Int) (h:AHeap):St:=⟨tops 1 (.v (.c (.ptr k1 N1 o1)) :: tops 37 (.v (.c x39) :: .v (.c (.int .i64 a40)) :: .v (.c (.int .i64 a41)) :: tops 45 [])),[],h⟩
def q188_F1 (C:CallF) (L:LoopF) (G:Glo):St→Option (Ex × St):=roundF (fun st f=>q188_b1.exec C L G st f) [1,39,40,41] [] [(0,[2],[]),(1,[1],[])]
def q188_x1_0 (b2:Bool) (h:AHeap):St:=⟨tops 2 (.v (.c (.bool b2)) :: tops 84 []),[],h⟩
def q188_x1_1 (k1 N1 o1:Nat) (h:AHeap):St:=⟨tops 1 (.v (.c (.ptr k1 N1 o1)) :: tops 85 []),[],h⟩
def q188_k4 (C:CallF) (L:LoopF) (G:Glo) (h0:AHeap):Ex→St→Option (List AV × AHeap):=kSeq (fun st=>q188_p2.exec C L G st (q188.fin G h0)) (q188.fin G h0)
def q188_k5 (C:CallF) (L:LoopF) (G:Glo) (h0:AHeap):Ex→St→Option (List AV × AHeap):=kBlk 2 (q188_k4 C L G h0)
def q188_s2 (k5 N5 o5:Nat) (x67:Cell) (a68 a69:Int) (h:AHeap):St:=⟨tops 5 (.v (.c (.ptr k5 N5 o5)) :: tops 61 (.v (.c x67) :: .v (.c (.int .i64 a68)) :: .v (.c (.int .i64 a69)) :: tops 17 [])),[],h⟩
def q188_F2 (C:CallF) (L:LoopF) (G:Glo):St→Option (Ex × St):=roundF (fun st f=>q188_b2.exec C L G st f) [5,67,68,69] [] [(0,[2],[]),(3,[],[])]
def q188_x2_0 (b2:Bool) (h:AHeap):St:=⟨tops 2 (.v (.c (.bool b2)) :: tops 84 []),[],h⟩
def q188_x2_3 (h:AHeap):St:=⟨tops 87 [],[],h⟩
theorem q188_r1 (k1 N1 o1:Nat) (x39:Cell) (a40 a41:Int) (h:AHeap):q188_F1 C L G (q188_s1 k1 N1 o1 x39 a40 a41 h)=if (decide (a41<a40))=true then idxSK 1 x39 a41 fun k_31 N_32 o_33=>rdH h k_31 N_32 fun l_34=>atK l_34 o_33 fun q_35=>asI .u8 (.c q_35) fun n_36=>c1 (C 158 [(.c (.int .i64 (G.wrap .i64 n_36)))] h) fun y_38 h_37=>asB y_38 fun b_39=>scK (!b_39) false (scK (decide (a41 > 0)) true (rdH h_37 k1 N1 fun l_40=>atK l_40 (o1+0) fun q_41=>idxSK 1 q_41 (G.wrap .i64 (a41 - 1)) fun k_42 N_43 o_44=>rdH h_37 k_42 N_43 fun l_45=>atK l_45 o_44 fun q_46=>asI .u8 (.c q_46) fun n_47=>some ((decide (n_36≤n_47)),h_37)) false h_37 fun b_48 h_49=>some (b_48,h_49)) true h_37 fun b_50 h_51=>if b_50=true then some (.ret,(q188_x1_0 false h_51)) else some (.normal,(q188_s1 k1 N1 o1 x39 a40 (G.wrap .i64 (a41+1)) h_51)) else some ((.exit 0),(q188_x1_1 k1 N1 o1 h)):=by kernel_rfl
theorem q188_e1_0 (h0:AHeap) (b2:Bool) (h:AHeap):(q188_k3 C L G h0) .ret (q188_x1_0 b2 h)=finish true h0 [(.c (.bool b2))] h:=by kernel_rfl
theorem q188_r2 (k5 N5 o5:Nat) (x67:Cell) (a68 a69:Int) (h:AHeap):q188_F2 C L G (q188_s2 k5 N5 o5 x67 a68 a69 h)=if (decide (a69<a68))=true then idxSK 1 x67 a69 fun k_57 N_58 o_59=>rdH h k_57 N_58 fun l_60=>atK l_60 o_59 fun q_61=>lenK q_61 fun n_62=>scK (decide (n_62 > 10)) false (c1 (C 148 [(.c q_61)] h) fun y_64 h_63=>asB y_64 fun b_65=>some ((!b_65),h_63)) true h fun b_66 h_67=>scK b_66 false (c1 (C 155 [(.c q_61),(.c (.fn 201 [(k5,N5,o5)]))] h_67) fun y_69 h_68=>asB y_69 fun b_70=>some (b_70,h_68)) true h_67 fun b_71 h_72=>if b_71=true then some (.ret,(q188_x2_0 false h_72)) else some (.normal,(q188_s2 k5 N5 o5 x67 a68 (G.wrap .i64 (a69+1)) h_72)) else some ((.exit 2),(q188_x2_3 h)):=by kernel_rfl
theorem q188_e2_0 (h0:AHeap) (b2:Bool) (h:AHeap):(q188_k5 C L G h0) .ret (q188_x2_0 b2 h)=finish true h0 [(.c (.bool b2))] h:=by kernel_rfl
theorem q188_e2_3 (h0:AHeap) (h:AHeap):(q188_k5 C L G h0) (.exit 2) (q188_x2_3 h)=finish true h0 [(.c (.bool true))] h:=by kernel_rfl
theorem q188_e1_1 (h0:AHeap) (k1 N1 o1:Nat) (h:AHeap):(q188_k3 C L G h0) (.exit 0) (q188_x1_1 k1 N1 o1 h)=rdH (h++[some (Blk.mk true 0 ([Cell.nilf]))]) h.length (([Cell.nilf]).length) fun l_52=>if 0<l_52.length then putH (h++[some (Blk.mk true 0 ([Cell.nilf]))]) h.length (l_52.set 0 (.fn 200 [(k1,N1,o1)])) fun h_53=>rdH h_53 k1 N1 fun l_54=>atK l_54 (o1+2) fun q_55=>lenK q_55 fun n_56=>(L (q188_F2 C L G) (q188_s2 h.length (([Cell.nilf]).length) 0 q_55 n_56 0 h_53)).bind fun p_73=>(q188_k5 C L G h0) p_73.1 p_73.2 else none:=by kernel_rfl
set_option maxRecDepth 100000 in
theorem q188_eq (l0:List Cell) (h0:AHeap):q188.body C L G [(.agg l0)] h0=rdH (h0++[some (Blk.mk true 0 (AV.cells (.agg l0)))]) h0.length ((AV.cells (.agg l0)).length) fun l_1=>atK l_1 2 fun q_2=>lenK q_2 fun n_3=>scK (n_3==0) false (rdH (h0++[some (Blk.mk true 0 (AV.cells (.agg l0)))]) h0.length ((AV.cells (.agg l0)).length) fun l_4=>atK l_4 2 fun q_5=>lenK q_5 fun n_6=>some ((decide (n_6 > 4)),(h0++[some (Blk.mk true 0 (AV.cells (.agg l0)))]))) true (h0++[some (Blk.mk true 0 (AV.cells (.agg l0)))]) fun b_7 h_8=>scK b_7 false (rdH h_8 h0.length ((AV.cells (.agg l0)).length) fun l_9=>atK l_9 0 fun q_10=>lenK q_10 fun n_11=>some ((decide (n_11 > 4)),h_8)) true h_8 fun b_12 h_13=>scK b_12 false (rdH h_13 h0.length ((AV.cells (.agg l0)).length) fun l_14=>atK l_14 1 fun q_15=>lenK q_15 fun n_16=>rdH h_13 h0.length ((AV.cells (.agg l0)).length) fun l_17=>atK l_17 0 fun q_18=>lenK q_18 fun n_19=>some ((n_16 != n_19),h_13)) true h_13 fun b_20 h_21=>scK b_20 false (rdH h_21 h0.length ((AV.cells (.agg l0)).length) fun l_22=>if 0=0∧l_22.length=3 then c1 (C 102 [(.agg l_22)] h_21) fun y_24 h_23=>asI .i64 y_24 fun n_25=>some ((decide (n_25 > 24)),h_23) else none) true h_21 fun b_26 h_27=>if b_26=true then finish true h0 [(.c (.bool false))] h_27 else rdH h_27 h0.length ((AV.cells (.agg l0)).length) fun l_28=>atK l_28 0 fun q_29=>lenK q_29 fun n_30=>(L (q188_F1 C L G) (q188_s1 h0.length ((AV.cells (.agg l0)).length) 0 q_29 n_30 0 h_27)).bind fun p_74=>(q188_k3 C L G h0) p_74.1 p_74.2:=by kernel_rfl
set_option maxRecDepth 100000 in
theorem q200_eq (a0:Int) (k1 N1 o1:Nat) (h0:AHeap):q200.body C L G [(.c (.int .i64 a0)),(.c (.ptr k1 N1 o1))] h0=scK (decide (a0≥0)) true (rdH h0 k1 N1 fun l_1=>atK l_1 (o1+0) fun q_2=>lenK q_2 fun n_3=>some ((decide (a0<n_3)),h0)) false h0 fun b_4 h_5=>some ([(.c (.bool b_4))],h_5):=by kernel_rfl
set_option maxRecDepth 100000 in
theorem q201_eq (l0:List Cell) (k1 N1 o1:Nat) (h0:AHeap):q201.body C L G [(.agg l0),(.c (.ptr k1 N1 o1))] h0=if 0=0∧l0.length=9 then rdH h0 k1 N1 fun l_1=>atK l_1 o1 fun q_2=>c1 (C 159 [(.agg l0),(.c q_2)] h0) fun y_4 h_3=>asB y_4 fun b_5=>some ([(.c (.bool (!b_5)))],h_3) else none:=by kernel_rfl
end Jq

namespace Jq
open Go
variable (C:CallF) (L:LoopF) (G:Glo)
set_option maxRecDepth 100000 in
theorem q125_eq (a0 a1 a2:Int) (h0:AHeap):q125.body C L G [(.c (.int .i64 a0)),(.c (.int .i64 a1)),(.c (.int .i64 a2))] h0=if (a0==1)=true then some ([(.c (.int .i64 (G.wrap .i64 (a1+a2)))),(.c (.bool true))],h0) else if (a0==2)=true then some ([(.c (.int .i64 (G.wrap .i64 (a1 - a2)))),(.c (.bool true))],h0) else if (a0==3)=true then some ([(.c (.int .i64 (G.wrap .i64 (a1*a2)))),(.c (.bool true))],h0) else if (a0==4)=true then some ([(.c (.int .i64 (G.band .i64 a1 a2))),(.c (.bool true))],h0) else if (a0==5)=true then some ([(.c (.int .i64 (G.bor .i64 a1 a2))),(.c (.bool true))],h0) else if (a0==6)=true then some ([(.c (.int .i64 (G.bxor .i64 a1 a2))),(.c (.bool true))],h0) else if (a0==7)=true then if (G.rem .u64 (G.wrap .u64 a2) 64)<0 then none else let v_1:Int:=(G.shl .i64 a1 (G.rem .u64 (G.wrap .u64 a2) 64));some ([(.c (.int .i64 v_1)),(.c (.bool true))],h0) else if (a0==8)=true then if (G.rem .u64 (G.wrap .u64 a2) 64)<0 then none else let v_2:Int:=(G.shr .i64 a1 (G.rem .u64 (G.wrap .u64 a2) 64));some ([(.c (.int .i64 v_2)),(.c (.bool true))],h0) else if (a0==9)=true then c1 (C 139 [(.c (.bool (a1==a2)))] h0) fun y_4 h_3=>asI .i64 y_4 fun n_5=>some ([(.c (.int .i64 n_5)),(.c (.bool true))],h_3) else if (a0==10)=true then c1 (C 139 [(.c (.bool (a1 != a2)))] h0) fun y_7 h_6=>asI .i64 y_7 fun n_8=>some ([(.c (.int .i64 n_8)),(.c (.bool true))],h_6) else if (a0==11)=true then c1 (C 139 [(.c (.bool (decide (a1<a2))))] h0) fun y_10 h_9=>asI .i64 y_10 fun n_11=>some ([(.c (.int .i64 n_11)),(.c (.bool true))],h_9) else some ([(.c (.int .i64 0)),(.c (.bool false))],h0):=by kernel_rfl
set_option maxRecDepth 100000 in
theorem q139_eq (b0:Bool) (h0:AHeap):q139.body C L G [(.c (.bool b0))] h0=if b0=true then some ([(.c (.int .i64 1))],h0) else some ([(.c (.int .i64 0))],h0):=by kernel_rfl
end Jq

namespace Jq
open Go
structure Opd where
 reg:Int
 val:Int
 deriving DecidableEq
structure Ins where
 kind:Int
 reg:Int
 loc:Int
 a:Opd
 op:Int
 b:Opd
 n:Int
 deriving DecidableEq
structure Lcl where
 pc:Int
 r0:Int
 r1:Int
 r2:Int
 r3:Int
 deriving DecidableEq
def Opd.cs (o:Opd):List Cell:=[.int .i64 o.reg,.int .i64 o.val]
def Ins.cs (i:Ins):List Cell:=[.int .i64 i.kind,.int .i64 i.reg,.int .i64 i.loc,.int .i64 i.a.reg,.int .i64 i.a.val,.int .i64 i.op,.int .i64 i.b.reg,.int .i64 i.b.val,.int .i64 i.n]
def Lcl.cs (l:Lcl):List Cell:=[.int .i64 l.pc,.int .i64 l.r0,.int .i64 l.r1,.int .i64 l.r2,.int .i64 l.r3]
def codeC (l:List Ins):List Cell:=l.flatMap Ins.cs
def Ins.zero:Ins:=⟨0,0,0,⟨0,0⟩,0,⟨0,0⟩,0⟩
def Lcl.zero:Lcl:=⟨0,0,0,0,0⟩
theorem Ins.len (i:Ins):i.cs.length=9:=rfl
theorem Lcl.len (l:Lcl):l.cs.length=5:=rfl
theorem zero5:[ci0,ci0,ci0,ci0,ci0]=Lcl.zero.cs:=rfl
theorem codeC_len:∀l:List Ins,(codeC l).length=l.length*9
 | []=>rfl
 | s :: l=>by simp only [codeC,List.flatMap_cons,List.length_append];rw [show (l.flatMap _).length=_ from codeC_len l,Ins.len];simp;omega
theorem codeC_at:∀(l:List Ins) (i:Nat) (s:Ins),l[i]? = some s→((codeC l).drop (i*9)).take 9=s.cs
 | [],_,_,h=>by simp at h
 | q :: l,0,s,h=>by simp at h;subst h;rfl
 | q :: l,i+1,s,h=>by
  have:=codeC_at l i s (by simpa using h)
  have e:codeC (q :: l)=q.cs++codeC l:=rfl
  rw [e,List.drop_append,List.drop_of_length_le (by rw [Ins.len];omega),List.nil_append,show (i+1)*9 - q.cs.length=i*9 by rw [Ins.len];omega]
  exact this
theorem codeC_snoc (l:List Ins) (s:Ins):codeC (l++[s])=codeC l++s.cs:=by simp [codeC]
theorem SlAt.insG {h:AHeap} {x:Cell} {l:List Ins} (s:SlAt h x 9 (codeC l) l.length) {i:Nat} {q:Ins} (hq:l[i]? = some q) :
  ∃off cs',(∀{α:Type} (G:Nat→List Cell→Option α),(idxSK 9 x (i:Int) fun k N o=>rdH h k N fun l=>G o l)=G off cs')∧off+9≤cs'.length∧(cs'.drop off).take 9=q.cs:=by
 have hi:i<l.length:=by
  rcases Nat.lt_or_ge i l.length with h | h
  ·exact h
  ·rw [List.getElem?_eq_none h] at hq;cases hq
 obtain ⟨off,cs',h1,h2,h3⟩:=s.elG hi
 exact ⟨off,cs',h1,h2,h3.trans (codeC_at l i q hq)⟩
def Lcl.reg (l:Lcl) (i:Int):Int:=if i=0 then l.r0 else if i=1 then l.r1 else if i=2 then l.r2 else l.r3
def Lcl.setR (l:Lcl) (i v:Int):Lcl:=if i=0 then { l with r0:=v } else if i=1 then { l with r1:=v } else if i=2 then { l with r2:=v } else if i=3 then { l with r3:=v } else l
def opV (o:Opd) (l:Lcl):Int:=if 0≤o.reg∧o.reg<4 then l.reg o.reg else o.val
def GN:Glo:=Glo.std fun _=>[]
def doV (op a b:Int):Option Int :=
 if op=1 then some (GN.wrap .i64 (a+b)) else if op=2 then some (GN.wrap .i64 (a - b)) else if op=3 then some (GN.wrap .i64 (a*b))
 else if op=4 then some (GN.band .i64 a b) else if op=5 then some (GN.bor .i64 a b) else if op=6 then some (GN.bxor .i64 a b)
 else if op=7 then some (GN.shl .i64 a (GN.rem .u64 (GN.wrap .u64 b) 64)) else if op=8 then some (GN.shr .i64 a (GN.rem .u64 (GN.wrap .u64 b) 64))
 else if op=9 then some (if a=b then 1 else 0) else if op=10 then some (if a=b then 0 else 1) else if op=11 then some (if a<b then 1 else 0) else none
def stepI (code:List Ins) (l:Lcl):Option Lcl :=
 if 0≤l.pc then match code[l.pc.toNat]? with
  | none=>none
  | some i =>
   if i.kind=5 then
    let m:=l.setR i.reg ((doV i.op (opV i.a l) (opV i.b l)).getD (opV i.a l))
    some { m with pc:=m.pc+1 }
   else if i.kind=6 then
    (if opV i.a l=opV i.b l then some { l with pc:=l.pc+min (max i.n 0) code.length+1 } else some { l with pc:=l.pc+1 })
   else none
 else none
def nrm (code:List Ins):Nat→Lcl→Lcl
 | 0,l=>l
 | k+1,l=>match stepI code l with
  | none=>l
  | some l'=>nrm code k l'
def normL (code:List Ins) (l:Lcl):Lcl:=nrm code code.length l
theorem getI_lt {α:Type} {l:List α} {i:Nat} {v:α} (h:l[i]? = some v):i<l.length:=by
 rcases Nat.lt_or_ge i l.length with h1 | h1
 ·exact h1
 ·rw [List.getElem?_eq_none h1] at h;cases h
theorem Lcl.setR_pc (l:Lcl) (i v:Int):(l.setR i v).pc=l.pc:=by unfold Lcl.setR;repeat' split<;>try rfl
theorem stepI_pc {code:List Ins} {l l':Lcl} (h:stepI code l=some l'):0≤l.pc∧l.pc<code.length∧l.pc<l'.pc∧l'.pc≤2*code.length:=by
 unfold stepI at h
 split at h
 ·rename_i h0
  cases hi:code[l.pc.toNat]? with
  | none=>rw [hi] at h;cases h
  | some i =>
   rw [hi] at h
   have hlt:=getI_lt hi
   simp only at h
   split at h
   ·cases h
    have:=l.setR_pc i.reg ((doV i.op (opV i.a l) (opV i.b l)).getD (opV i.a l))
    refine ⟨h0,by omega,?_,?_⟩<;>simp only [this]<;>omega
   ·split at h
    ·split at h
     ·cases h;refine ⟨h0,by omega,?_,?_⟩<;>simp only<;>omega
     ·cases h;refine ⟨h0,by omega,?_,?_⟩<;>simp only<;>omega
    ·cases h
 ·cases h
theorem nrm_done {code:List Ins}:∀(k:Nat) (l:Lcl),(0≤l.pc→(code.length:Int)≤l.pc+k)→stepI code (nrm code k l)=none
 | 0,l,h=>by
  rw [nrm]
  cases hs:stepI code l with
  | none=>rfl
  | some l'=>have:=stepI_pc hs;have:=h this.1;omega
 | k+1,l,h=>by
  rw [nrm]
  cases hs:stepI code l with
  | none=>exact hs
  | some l' =>
   have:=stepI_pc hs
   exact nrm_done k l' (fun _=>by have:=h this.1;omega)
theorem normL_done (code:List Ins) (l:Lcl):stepI code (normL code l)=none:=nrm_done _ _ (fun _=>by omega)
section
variable {E:Env}
theorem lcl_get {l:Lcl} {i:Int} (h0:0≤i) (h1:i<4):l.cs[1+Int.toNat i*1]? = some (.int .i64 (l.reg i)):=by
 have h:i=0∨i=1∨i=2∨i=3:=by omega
 rcases h with rfl | rfl | rfl | rfl<;>rfl
theorem lcl_set {l:Lcl} {i v:Int} (h0:0≤i) (h1:i<4):l.cs.set (1+Int.toNat i*1) (.int .i64 v)=(l.setR i v).cs:=by
 have h:i=0∨i=1∨i=2∨i=3:=by omega
 rcases h with rfl | rfl | rfl | rfl<;>rfl
theorem Value_R (hE:q108_In E) (o:Opd) (l:Lcl) (h:AHeap):R E 108 [.agg o.cs,.agg l.cs] h=some ([.c (.int .i64 (opV o l))],h):=by
 refine R_intro hE.fn ?_
 have a0:∀{α:Type} (f:Cell→Option α),atK o.cs 0 f=f (.int .i64 o.reg):=fun _=>rfl
 have a1:∀{α:Type} (f:Cell→Option α),atK o.cs 1 f=f (.int .i64 o.val):=fun _=>rfl
 unfold opV
 rw [q108_eq]
 simp only [a0,a1,asI_ok,scK_and]
 by_cases h1:0≤o.reg∧o.reg<4
 ·rw [if_pos (by simp;exact h1),if_pos ⟨h1.1,h1.2⟩,if_pos h1,atK_ok (lcl_get h1.1 h1.2),asI_ok]
 ·rw [if_neg (by simp;omega),if_neg h1]
theorem set_R (hE:q124_In E) (i v:Int) {l:Lcl} {k:Nat} {h:AHeap} (hk:blk? h k=some ⟨true,0,l.cs⟩) :
  R E 124 [.c (.ptr k 5 0),.c (.int .i64 i),.c (.int .i64 v)] h=some ([],setBlk h k (some ⟨true,0,(l.setR i v).cs⟩)):=by
 refine R_intro hE.fn ?_
 rw [q124_eq,scK_and]
 by_cases h1:0≤i∧i<4
 ·rw [if_pos (by simp;exact h1),if_pos ⟨h1.1,h1.2⟩,rdH_ok hk (Lcl.len l),if_pos (by rw [Lcl.len];omega),show 0+1+Int.toNat i*1=1+Int.toNat i*1 by omega,lcl_set h1.1 h1.2,putH_ok hk rfl]
 ·have e:l.setR i v=l:=by unfold Lcl.setR;rw [if_neg (by omega),if_neg (by omega),if_neg (by omega),if_neg (by omega)]
  have e2:setBlk h k (some ⟨true,0,l.cs⟩)=h:=by
   refine List.ext_getElem? fun j=>?_
   unfold setBlk
   rw [List.getElem?_set]
   by_cases hj:k=j
   ·subst hj
    rw [if_pos rfl,if_pos (blk_lt' hk)]
    unfold blk? at hk
    cases hh:h[k]? with
    | none=>rw [hh] at hk;cases hk
    | some b=>rw [hh] at hk;simp at hk;rw [hk]
   ·rw [if_neg hj]
  rw [if_neg (by simp;omega),e,e2]
theorem one_R (hE:q139_In E) (b:Bool) (h:AHeap):R E 139 [.c (.bool b)] h=some ([.c (.int .i64 (if b=true then 1 else 0))],h):=by
 refine R_intro hE.fn ?_
 rw [q139_eq]
 cases b<;>rfl
theorem Do_R (hE:q125_In E) (op a b:Int) (h:AHeap):R E 125 [.c (.int .i64 op),.c (.int .i64 a),.c (.int .i64 b)] h=some ([.c (.int .i64 ((doV op a b).getD 0)),.c (.bool (doV op a b).isSome)],h):=by
 refine R_intro hE.fn ?_
 rw [q125_eq]
 simp only [one_R hE.c139,c1_ok,asI_ok]
 have hr:∀x:Int,¬E.glob.rem .u64 (E.glob.wrap .u64 x) 64<0:=by
  intro x
  show ¬Int.tmod (IntKind.wrap .u64 x) 64<0
  have h0:0≤IntKind.wrap .u64 x:=by
   simp only [IntKind.wrap,IntKind.signed,IntKind.bits,Bool.false_and,Bool.false_eq_true,if_false]
   exact Int.emod_nonneg _ (by omega)
  rw [Int.tmod_eq_emod_of_nonneg h0]
  have:=Int.emod_nonneg (IntKind.wrap .u64 x) (b:=64) (by omega)
  omega
 simp only [hr,if_false]
 unfold doV
 have key:∀k:Int,((op==k)=true)=(op=k):=fun k=>by rw [beq_iff_eq]
 simp only [key]
 by_cases h1:op=1
 ·simp only [if_pos h1];rfl
 simp only [if_neg h1]
 by_cases h2:op=2
 ·simp only [if_pos h2];rfl
 simp only [if_neg h2]
 by_cases h3:op=3
 ·simp only [if_pos h3];rfl
 simp only [if_neg h3]
 by_cases h4:op=4
 ·simp only [if_pos h4];rfl
 simp only [if_neg h4]
 by_cases h5:op=5
 ·simp only [if_pos h5];rfl
 simp only [if_neg h5]
 by_cases h6:op=6
 ·simp only [if_pos h6];rfl
 simp only [if_neg h6]
 by_cases h7:op=7
 ·simp only [if_pos h7];rfl
 simp only [if_neg h7]
 by_cases h8:op=8
 ·simp only [if_pos h8];rfl
 simp only [if_neg h8]
 by_cases h9:op=9
 ·simp only [if_pos h9];(by_cases hab:a=b<;>simp [hab])
 simp only [if_neg h9]
 by_cases h10:op=10
 ·simp only [if_pos h10];(by_cases hab:a=b<;>simp [hab])
 simp only [if_neg h10]
 by_cases h11:op=11
 ·simp only [if_pos h11];(by_cases hab:a<b<;>simp [hab])
 simp only [if_neg h11]
 rfl
end
end Jq

namespace Jq
open Go
variable {E:Env}
end Jq

namespace Jq
open Go
theorem Low_mono {n m:Nat} (hm:n≤m):∀{x:Cell},Low n x→Low m x:=by
 intro x h
 unfold Low at *
 split<;>simp_all
 omega
def ACC (r:Nat) (q:Nat→Nat→Bool):Nat→Nat:=fun a=>mkN fun b=>decide (a<r)&&decide (b<r)&&q a b
variable {E:Env}
def upto (i j a b:Nat):Bool:=decide (a<i)||(decide (a=i)&&decide (b<j))
end Jq

