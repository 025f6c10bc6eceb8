/- YtjamopobfdnlkaaDoorRaceFreeA: a part of the proof; no conditions of its own. -/
import Derived.KernelRfl
import Derived.Lib.TrailingZeros
import Derived.Test.YtjamopobfdnlkaaDoorRows
import Derived.Test.YtjamopobfdnlkaaDoorCoreC
set_option linter.unusedVariables false
set_option linter.unusedSimpArgs false

namespace Jq
open Go
def q42:Fn:={ np:=1,nt:=14,ns:=0,res:=[.t 2 (.i .i64)],gc:=false,code:=(.seq (.reg 0 false (xmk 2 0 .nil)) (.seq (.seq (.reg 1 false (xmv 3 0 (.op (some 4) (.bin .eql) [(.t 3),(.k (.c (.int .u64 0)))] .nil))) (.cond (.t 4) (.seq (.reg 2 false (xmk 2 64 .nil)) .ret) .skip)) (.seq (.reg 3 false (xmv 5 0 (xmv 6 0 (xoa 7 (.un .neg) 6 (xob 8 (.bin .and) 5 7 (.op (some 9) (.bin .mul) [(.t 8),(.k (.c (.int .u64 285870213051353865)))] (.op (some 10) (.bin .shr) [(.t 9),(.k (.c (.int .u64 58)))] (.op (some 11) (.idxA 64 1) [(.k (.c (.gptr 1 0))),(.t 10)] (xoa 12 (.ld .heap (.i .u8)) 11 (xoa 13 (.conv .i64) 12 (xmv 2 13 .nil))))))))))) .ret))) }
end Jq

namespace Jq
open Go
structure q42_In (E:Env):Prop where
  fn:E.fn 42=some q42
end Jq

namespace Jq
open Go
def q190:Fn:={ np:=1,nt:=11,ns:=1,res:=[.all (.slot 0) 2 74],gc:=false,code:=(.seq (.reg 0 false (.al 2 0 (List.replicate 74 (Cell.int .i64 0)) .nil)) (.seq (.seq (.reg 1 false (xmv 3 0 (xoi 4 (.bin .neq) 3 2 (xmv 5 4 (.sc 5 true (xmv 6 0 (xoi 7 (.bin .neq) 6 3 .nil)) 7 8 false .nil))))) (.cond (.t 8) (.reg 2 false (xmk 0 0 .nil)) .skip)) (.seq (.reg 3 false (xmv 9 0 (.op (some 10) (.build (List.replicate 74 (Cell.int .i64 0)) [(0,1)]) [(.t 9)] (.op none (.stAll (.slot 0) 74) [(.t 2),(.t 10)] .nil)))) .ret))) }
def q191:Fn:={ np:=1,nt:=6,ns:=1,res:=[.t 2 .b],gc:=false,code:=(.seq (.reg 0 false (.box 1 0 (.t 0) (.op (some 2) .mov [(.k (.c (.bool false)))] .nil))) (.seq (.reg 1 false (xad 3 1 1 (xoa 4 (.ld (.slot 0) (.i .i64)) 3 (xoi 5 (.bin .eql) 4 0 (xmv 2 5 .nil))))) .ret)) }
def q192:Fn:={ np:=2,nt:=29,ns:=1,res:=[.t 4 (.i .i64),.t 5 (.i .i64),.t 6 (.i .i64),.t 7 .b],gc:=false,code:=(.seq (.reg 0 false (.box 2 0 (.t 0) (xmk 4 0 (xmk 5 0 (xmk 6 0 (.op (some 7) .mov [(.k (.c (.bool false)))] .nil)))))) (.seq (.reg 1 false (xoa 9 (.ldAll (.slot 0) 74) 2 (xmv 10 1 (xob 11 (.call 204 [(.i .i64)]) 9 10 (xmv 8 11 .nil))))) (.seq (.seq (.reg 2 false (xmv 12 8 (xoi 13 (.bin .lss) 12 0 .nil))) (.cond (.t 13) (.seq (.reg 3 false (xmk 4 0 (xmk 5 0 (xmk 6 0 (.op (some 7) .mov [(.k (.c (.bool false)))] .nil))))) .ret) .skip)) (.seq (.reg 4 true (xmv 14 8 (xad 15 2 2 (xob 16 (.idxA 24 3) 15 14 (xad 17 0 16 (xoa 18 (.ld (.slot 0) (.i .i64)) 17 (xmv 19 8 (xad 20 2 2 (xob 21 (.idxA 24 3) 20 19 (xad 22 1 21 (xoa 23 (.ld (.slot 0) (.i .i64)) 22 (xmv 24 8 (xad 25 2 2 (xob 26 (.idxA 24 3) 25 24 (xad 27 2 26 (xoa 28 (.ld (.slot 0) (.i .i64)) 27 (xmv 4 18 (xmv 5 23 (xmv 6 28 (.op (some 7) .mov [(.k (.c (.bool true)))] .nil)))))))))))))))))))) .ret)))) }
def q204_b1:IC:=(.seq (.reg 2 false (xob 9 (.bin .lss) 8 7 .nil)) (.seq (.cond (.t 9) .skip (.exit 0)) (.seq (.blk 1 (.seq (.reg 3 false (xmv 10 8 (xmv 5 10 .nil))) (.seq (.reg 4 false (xad 11 0 2 (xoa 12 (.ld (.slot 0) (.i .i64)) 11 (xoi 13 (.bin .eql) 12 2 (xmv 14 13 (.sc 14 false (xmv 15 5 (xad 16 2 2 (xob 17 (.idxA 24 3) 16 15 (xad 18 0 17 (xoa 19 (.ld (.slot 0) (.i .i64)) 18 (xmv 20 1 (xob 21 (.bin .eql) 19 20 .nil))))))) 21 22 true .nil)))))) (.cond (.t 22) (.seq (.reg 5 false (xmv 23 5 (xmv 4 23 .nil))) .ret) .skip)))) (.reg 6 false (xoi 24 (.bin .add) 8 1 (xmv 8 24 .nil))))))
def q204_p1:IC:=(.seq (.reg 7 false (xmk 4 (-1) .nil)) .ret)
def q204:Fn:={ np:=2,nt:=25,ns:=1,res:=[.t 4 (.i .i64)],gc:=false,code:=(.seq (.reg 0 false (.box 2 0 (.t 0) (xmk 4 0 .nil))) (.seq (.seq (.reg 1 false (xad 6 1 2 (xoa 7 (.ld (.slot 0) (.i .i64)) 6 (xmk 8 0 .nil)))) (.blk 0 (.loop [1,2,7,8] [0] [(0,[4],[]),(1,[],[])] q204_b1))) q204_p1)) }
def q205_b1:IC:=(.seq (.seq (.reg 2 false (xmv 11 7 (xoi 12 (.bin .geq) 11 0 .nil))) (.cond (.t 12) .skip (.exit 0))) (.seq (.blk 1 (.seq (.reg 4 false (xmv 15 7 (xad 16 2 2 (xob 17 (.idxA 24 3) 16 15 (xad 18 0 17 (xoa 19 (.ld (.slot 0) (.i .i64)) 18 (xmv 20 1 (xob 21 (.bin .eql) 19 20 .nil)))))))) (.cond (.t 21) (.seq (.reg 5 true (xmv 22 7 (xad 23 2 2 (xob 24 (.idxA 24 3) 23 22 (xad 25 1 24 (xoa 26 (.ld (.slot 0) (.i .i64)) 25 (xmv 27 7 (xad 28 2 2 (xob 29 (.idxA 24 3) 28 27 (xad 30 2 29 (xoa 31 (.ld (.slot 0) (.i .i64)) 30 (xmv 4 26 (xmv 5 31 (.op (some 6) .mov [(.k (.c (.bool true)))] .nil)))))))))))))) .ret) .skip))) (.reg 3 false (xmv 13 7 (xoi 14 (.bin .sub) 13 1 (xmv 7 14 .nil))))))
def q205_p1:IC:=(.seq (.reg 6 false (xmk 4 0 (xmk 5 0 (.op (some 6) .mov [(.k (.c (.bool false)))] .nil)))) .ret)
def q205:Fn:={ np:=2,nt:=32,ns:=1,res:=[.t 4 (.i .i64),.t 5 (.i .i64),.t 6 .b],gc:=false,code:=(.seq (.reg 0 false (.box 2 0 (.t 0) (xmk 4 0 (xmk 5 0 (.op (some 6) .mov [(.k (.c (.bool false)))] .nil))))) (.seq (.seq (.reg 1 false (xad 8 1 2 (xoa 9 (.ld (.slot 0) (.i .i64)) 8 (xoi 10 (.bin .sub) 9 1 (xmv 7 10 .nil))))) (.blk 0 (.loop [1,2,7] [0] [(0,[4,5,6],[]),(1,[],[])] q205_b1))) q205_p1)) }
def q206:Fn:={ np:=4,nt:=39,ns:=2,res:=[.all (.slot 1) 8 74],gc:=false,code:=(.seq (.reg 0 false (.box 4 0 (.t 0) (.al 8 1 (List.replicate 74 (Cell.int .i64 0)) .nil))) (.seq (.seq (.reg 1 false (xad 9 0 4 (xoa 10 (.ld (.slot 0) (.i .i64)) 9 (xoi 11 (.bin .eql) 10 0 (xmv 12 11 (.sc 12 false (xmv 13 1 (xoi 14 (.bin .lss) 13 0 .nil)) 14 15 true (xmv 16 15 (.sc 16 false (xmv 17 1 (xoi 18 (.bin .geq) 17 4 .nil)) 18 19 true (xmv 20 19 (.sc 20 false (xad 21 1 4 (xoa 22 (.ld (.slot 0) (.i .i64)) 21 (xoi 23 (.bin .geq) 22 24 .nil))) 23 24 true .nil)))))))))) (.cond (.t 24) (.seq (.reg 2 false (xoa 25 (.ldAll (.slot 0) 74) 4 (.op none (.stAll (.slot 1) 74) [(.t 8),(.t 25)] .nil))) .ret) .skip)) (.seq (.reg 3 false (xad 26 1 4 (xoa 27 (.ld (.slot 0) (.i .i64)) 26 (xmv 28 1 (xmv 29 2 (xmv 30 3 (.op (some 31) (.build ([Cell.int .i64 0,Cell.int .i64 0,Cell.int .i64 0]) [(0,1),(1,1),(2,1)]) [(.t 28),(.t 29),(.t 30)] (xad 32 2 4 (xob 33 (.idxA 24 3) 32 27 (.op none (.stN (.slot 0) 3) [(.t 33),(.t 31)] .nil)))))))))) (.seq (.reg 4 false (xad 34 1 4 (xoa 35 (.ld (.slot 0) (.i .i64)) 34 (xoi 36 (.bin .add) 35 1 (xad 37 1 4 (.op none (.st (.slot 0)) [(.t 37),(.t 36)] .nil)))))) (.seq (.reg 5 false (xoa 38 (.ldAll (.slot 0) 74) 4 (.op none (.stAll (.slot 1) 74) [(.t 8),(.t 38)] .nil))) .ret))))) }
def q207:Fn:={ np:=2,nt:=30,ns:=1,res:=[.all (.slot 0) 4 74],gc:=true,code:=(.seq (.reg 0 false (xoa 2 .boxH 0 (.al 4 0 (List.replicate 74 (Cell.int .i64 0)) .nil))) (.seq (.reg 1 false (xoa 6 (.ldAll .heap 74) 2 (xmv 7 1 (xob 8 (.call 204 [(.i .i64)]) 6 7 (xmv 5 8 .nil))))) (.seq (.seq (.reg 2 false (xmv 9 5 (xoi 10 (.bin .lss) 9 0 .nil))) (.cond (.t 10) (.seq (.reg 3 false (xoa 11 (.ldAll .heap 74) 2 (.op none (.stAll (.slot 0) 74) [(.t 4),(.t 11)] .nil))) .ret) .skip)) (.seq (.reg 4 true (xad 12 2 2 (xmv 13 5 (xob 14 (.slcA 24 3 true false) 12 13 (xad 15 2 2 (xmv 16 5 (xoi 17 (.bin .add) 16 1 (xob 18 (.slcA 24 3 true false) 15 17 (xob 19 (.copy 3) 14 18 .nil))))))))) (.seq (.reg 5 false (xad 20 1 2 (xoa 21 (.ld .heap (.i .i64)) 20 (xoi 22 (.bin .sub) 21 1 (xad 23 1 2 (.op none (.st .heap) [(.t 23),(.t 22)] .nil)))))) (.seq (.reg 6 false (xad 24 1 2 (xoa 25 (.ld .heap (.i .i64)) 24 (.op (some 26) (.build ([Cell.int .i64 0,Cell.int .i64 0,Cell.int .i64 0]) []) [] (xad 27 2 2 (xob 28 (.idxA 24 3) 27 25 (.op none (.stN .heap 3) [(.t 28),(.t 26)] .nil))))))) (.seq (.reg 7 false (xoa 29 (.ldAll .heap 74) 2 (.op none (.stAll (.slot 0) 74) [(.t 4),(.t 29)] .nil))) .ret))))))) }
end Jq

namespace Jq
open Go
structure q190_In (E:Env):Prop where
  fn:E.fn 190=some q190
structure q191_In (E:Env):Prop where
  fn:E.fn 191=some q191
structure q204_In (E:Env):Prop where
  fn:E.fn 204=some q204
structure q192_In (E:Env):Prop where
  fn:E.fn 192=some q192
  c204:q204_In E
structure q205_In (E:Env):Prop where
  fn:E.fn 205=some q205
structure q206_In (E:Env):Prop where
  fn:E.fn 206=some q206
structure q207_In (E:Env):Prop where
  fn:E.fn 207=some q207
  c204:q204_In E
end Jq

namespace Jq
open Go
def q80:Fn:={ np:=1,nt:=11,ns:=1,res:=[.t 2 .b],gc:=false,code:=(.seq (.reg 0 false (.box 1 0 (.t 0) (.op (some 2) .mov [(.k (.c (.bool false)))] .nil))) (.seq (.reg 1 false (xad 3 2 1 (xoa 4 (.ld (.slot 0) (.i .i64)) 3 (xoi 5 (.bin .eql) 4 2 (xmv 6 5 (.sc 6 false (xad 7 2 1 (xoa 8 (.ld (.slot 0) (.i .i64)) 7 (xoi 9 (.bin .eql) 8 4 .nil))) 9 10 true (xmv 2 10 .nil))))))) .ret)) }
def q109:Fn:={ np:=3,nt:=46,ns:=3,res:=[.all (.slot 2) 6 6,.t 7 .b],gc:=false,code:=(.seq (.reg 0 false (.box 3 0 (.t 0) (.box 4 1 (.t 1) (.al 6 2 ([Cell.int .i64 0,Cell.int .i64 0,Cell.int .i64 0,Cell.int .i64 0,Cell.int .i64 0,Cell.int .i64 0]) (.op (some 7) .mov [(.k (.c (.bool false)))] .nil))))) (.seq (.seq (.reg 1 false (xad 8 0 3 (xoa 9 (.ld (.slot 0) (.i .i64)) 8 .nil))) (.blk 0 (.seq (.reg 2 false (xoi 11 (.bin .eql) 9 1 (xmv 10 11 .nil))) (.cond (.t 10) (.seq (.reg 3 true (xad 12 2 3 (xoa 13 (.ld (.slot 0) (.i .i64)) 12 (xad 14 3 3 (xoa 15 (.ldN (.slot 0) 2) 14 (xoa 16 (.ldAll (.slot 1) 5) 4 (xob 17 (.qcall 108 [(.i .i64)]) 15 16 (.op (some 18) (.build ([Cell.int .i64 0,Cell.int .i64 0,Cell.int .i64 0,Cell.int .i64 0,Cell.int .i64 0,Cell.int .i64 0]) [(2,1),(3,1),(5,1)]) [(.k (.c (.int .i64 2))),(.t 13),(.t 17)] (.op none (.stAll (.slot 2) 6) [(.t 6),(.t 18)] (.op (some 7) .mov [(.k (.c (.bool false)))] .nil)))))))))) .ret) (.seq (.reg 4 false (xoi 20 (.bin .eql) 9 2 (xmv 19 20 .nil))) (.cond (.t 19) (.seq (.reg 5 false (xad 21 2 3 (xoa 22 (.ld (.slot 0) (.i .i64)) 21 (xmv 23 2 (.op (some 24) (.build ([Cell.int .i64 0,Cell.int .i64 0,Cell.int .i64 0,Cell.int .i64 0,Cell.int .i64 0,Cell.int .i64 0]) [(2,1),(3,1),(4,1)]) [(.k (.c (.int .i64 1))),(.t 22),(.t 23)] (.op none (.stAll (.slot 2) 6) [(.t 6),(.t 24)] (.op (some 7) .mov [(.k (.c (.bool true)))] .nil))))))) .ret) (.seq (.reg 6 false (xoi 26 (.bin .eql) 9 4 (xmv 25 26 .nil))) (.cond (.t 25) (.seq (.seq (.reg 7 false (xad 27 3 3 (xoa 28 (.ldN (.slot 0) 2) 27 (xoa 29 (.ldAll (.slot 1) 5) 4 (xob 30 (.call 108 [(.i .i64)]) 28 29 (xmv 31 2 (xob 32 (.bin .eql) 30 31 .nil))))))) (.cond (.t 32) (.seq (.reg 8 true (xad 33 2 3 (xoa 34 (.ld (.slot 0) (.i .i64)) 33 (xmv 35 2 (xad 36 6 3 (xoa 37 (.ldN (.slot 0) 2) 36 (xoa 38 (.ldAll (.slot 1) 5) 4 (xob 39 (.qcall 108 [(.i .i64)]) 37 38 (.op (some 40) (.build ([Cell.int .i64 0,Cell.int .i64 0,Cell.int .i64 0,Cell.int .i64 0,Cell.int .i64 0,Cell.int .i64 0]) [(2,1),(3,1),(4,1),(5,1)]) [(.k (.c (.int .i64 4))),(.t 34),(.t 35),(.t 39)] (.op none (.stAll (.slot 2) 6) [(.t 6),(.t 40)] (.op (some 7) .mov [(.k (.c (.bool true)))] .nil))))))))))) .ret) .skip)) (.seq (.reg 9 false (xad 41 2 3 (xoa 42 (.ld (.slot 0) (.i .i64)) 41 (xmv 43 2 (.op (some 44) (.build ([Cell.int .i64 0,Cell.int .i64 0,Cell.int .i64 0,Cell.int .i64 0,Cell.int .i64 0,Cell.int .i64 0]) [(2,1),(3,1),(4,1)]) [(.k (.c (.int .i64 5))),(.t 42),(.t 43)] (.op none (.stAll (.slot 2) 6) [(.t 6),(.t 44)] (.op (some 7) .mov [(.k (.c (.bool true)))] .nil))))))) .ret)) .skip)))))))) (.seq (.reg 10 false (.op (some 45) (.build ([Cell.int .i64 0,Cell.int .i64 0,Cell.int .i64 0,Cell.int .i64 0,Cell.int .i64 0,Cell.int .i64 0]) [(2,1)]) [(.k (.c (.int .i64 3)))] (.op none (.stAll (.slot 2) 6) [(.t 6),(.t 45)] (.op (some 7) .mov [(.k (.c (.bool false)))] .nil)))) .ret))) }
end Jq

namespace Jq
open Go
def q94:Fn:={ np:=2,nt:=10,ns:=2,res:=[.all (.slot 1) 4 5],gc:=false,code:=(.seq (.reg 0 false (.box 2 0 (.t 0) (.al 4 1 ([Cell.int .i64 0,Cell.int .i64 0,Cell.int .i64 0,Cell.int .i64 0,Cell.int .i64 0]) .nil))) (.seq (.reg 1 false (xoa 5 (.ldAll (.slot 0) 3) 2 (xmv 6 1 (xob 7 (.call 113 [.any]) 5 6 (.op (some 8) (.build ([Cell.int .i64 0,Cell.int .i64 0,Cell.int .i64 0,Cell.int .i64 0,Cell.int .i64 0]) []) [] (xob 9 (.call 114 [.agg]) 7 8 (.op none (.stAll (.slot 1) 5) [(.t 4),(.t 9)] .nil))))))) .ret)) }
def q102_b1:IC:=(.seq (.reg 3 false (xob 10 (.bin .lss) 9 8 .nil)) (.seq (.cond (.t 10) .skip (.exit 0)) (.seq (.blk 1 (.seq (.reg 4 false (xob 11 (.idxS 1) 7 9 (xoa 12 (.ld .heap .any) 11 (xmv 5 12 .nil)))) (.reg 5 false (xmv 13 3 (xmv 14 5 (xoa 15 .len 14 (xob 16 (.bin .add) 13 15 (xmv 3 16 .nil)))))))) (.reg 6 false (xoi 17 (.bin .add) 9 1 (xmv 9 17 .nil))))))
def q102_p1:IC:=(.seq (.reg 7 false (xmv 18 3 (xmv 2 18 .nil))) .ret)
def q102:Fn:={ np:=1,nt:=19,ns:=1,res:=[.t 2 (.i .i64)],gc:=false,code:=(.seq (.reg 0 false (.box 1 0 (.t 0) (xmk 2 0 .nil))) (.seq (.reg 1 false (xmk 3 0 .nil)) (.seq (.seq (.reg 2 false (xad 6 2 1 (xoa 7 (.ld (.slot 0) .any) 6 (xoa 8 .len 7 (xmk 9 0 .nil))))) (.blk 0 (.loop [3,7,8,9] [] [(1,[3],[])] q102_b1))) q102_p1))) }
def q105:Fn:={ np:=3,nt:=39,ns:=4,res:=[.all (.slot 2) 6 9,.t 7 .b],gc:=false,code:=(.seq (.reg 0 false (.box 3 0 (.t 0) (.box 5 1 (.t 2) (.al 6 2 (List.replicate 9 (Cell.int .i64 0)) (.op (some 7) .mov [(.k (.c (.bool false)))] .nil))))) (.seq (.reg 1 false (xoa 10 (.ldAll (.slot 0) 3) 3 (xmv 11 1 (xob 12 (.call 113 [.any]) 10 11 (xmv 8 12 .nil))))) (.seq (.seq (.reg 2 false (xad 13 0 5 (xoa 14 (.ld (.slot 1) (.i .i64)) 13 (xoi 15 (.bin .lss) 14 0 (xmv 16 15 (.sc 16 false (xad 17 0 5 (xoa 18 (.ld (.slot 1) (.i .i64)) 17 (xmv 19 8 (xoa 20 .len 19 (xob 21 (.bin .geq) 18 20 .nil))))) 21 22 true .nil)))))) (.cond (.t 22) (.seq (.reg 3 false (.op (some 23) (.build (List.replicate 9 (Cell.int .i64 0)) []) [] (.op none (.stAll (.slot 2) 9) [(.t 6),(.t 23)] (.op (some 7) .mov [(.k (.c (.bool false)))] .nil)))) .ret) .skip)) (.seq (.reg 4 false (xmv 24 8 (xad 25 0 5 (xoa 26 (.ld (.slot 1) (.i .i64)) 25 (xob 27 (.idxS 9) 24 26 (xoa 28 (.ldN .heap 9) 27 (.al 9 3 (List.replicate 9 (Cell.int .i64 0)) (.op none (.stAll (.slot 3) 9) [(.t 9),(.t 28)] .nil)))))))) (.seq (.seq (.reg 5 false (xad 29 0 9 (xoa 30 (.ld (.slot 3) (.i .i64)) 29 (xoi 31 (.bin .lss) 30 1 (xmv 32 31 (.sc 32 false (xad 33 0 9 (xoa 34 (.ld (.slot 3) (.i .i64)) 33 (xoi 35 (.bin .gtr) 34 4 .nil))) 35 36 true .nil)))))) (.cond (.t 36) (.seq (.reg 6 false (.op (some 37) (.build (List.replicate 9 (Cell.int .i64 0)) []) [] (.op none (.stAll (.slot 2) 9) [(.t 6),(.t 37)] (.op (some 7) .mov [(.k (.c (.bool false)))] .nil)))) .ret) .skip)) (.seq (.reg 7 false (xoa 38 (.ldAll (.slot 3) 9) 9 (.op none (.stAll (.slot 2) 9) [(.t 6),(.t 38)] (.op (some 7) .mov [(.k (.c (.bool true)))] .nil)))) .ret)))))) }
def q106:Fn:={ np:=4,nt:=42,ns:=3,res:=[.all (.slot 1) 8 5],gc:=true,code:=(.seq (.reg 0 false (.box 4 0 (.t 0) (xoa 6 .boxH 2 (.al 8 1 ([Cell.int .i64 0,Cell.int .i64 0,Cell.int .i64 0,Cell.int .i64 0,Cell.int .i64 0]) .nil)))) (.seq (.reg 1 false (xoa 12 (.ldAll (.slot 0) 3) 4 (xmv 13 1 (xoa 14 (.ldAll .heap 5) 6 (.op (some 15) (.call 105 [.agg,.b]) [(.t 12),(.t 13),(.t 14)] (xmv 11 15 (xoa 16 (.ext 0) 11 (xoa 17 (.ext 1) 11 (.al 9 2 (List.replicate 9 (Cell.int .i64 0)) (.op none (.stAll (.slot 2) 9) [(.t 9),(.t 16)] (xmv 10 17 .nil))))))))))) (.seq (.seq (.reg 2 false (xmv 18 10 (xoa 19 (.un .not) 18 .nil))) (.cond (.t 19) (.seq (.reg 3 false (xoa 20 (.ldAll .heap 5) 6 (.op none (.stAll (.slot 1) 5) [(.t 8),(.t 20)] .nil))) .ret) .skip)) (.seq (.seq (.reg 4 false (xad 21 0 9 (xoa 22 (.ld (.slot 2) (.i .i64)) 21 (xoi 23 (.bin .eql) 22 2 (xmv 24 23 (.sc 24 false (xad 25 0 9 (xoa 26 (.ld (.slot 2) (.i .i64)) 25 (xoi 27 (.bin .eql) 26 4 .nil))) 27 28 true .nil)))))) (.cond (.t 28) (.reg 5 false (xad 29 1 9 (xoa 30 (.ld (.slot 2) (.i .i64)) 29 (xmv 31 3 (.op (some 32) (.call 124 []) [(.t 6),(.t 30),(.t 31)] .nil))))) .skip)) (.seq (.reg 6 false (xad 33 0 6 (xoa 34 (.ld .heap (.i .i64)) 33 (xoi 35 (.bin .add) 34 1 (xad 36 0 6 (.op none (.st .heap) [(.t 36),(.t 35)] .nil)))))) (.seq (.reg 7 true (xoa 37 (.ldAll (.slot 0) 3) 4 (xmv 38 1 (xob 39 (.qcall 113 [.any]) 37 38 (xoa 40 (.ldAll .heap 5) 6 (xob 41 (.qcall 114 [.agg]) 39 40 (.op none (.stAll (.slot 1) 5) [(.t 8),(.t 41)] .nil))))))) .ret)))))) }
def q108:Fn:={ np:=2,nt:=20,ns:=2,res:=[.t 4 (.i .i64)],gc:=false,code:=(.seq (.reg 0 false (.box 2 0 (.t 0) (.box 3 1 (.t 1) (xmk 4 0 .nil)))) (.seq (.seq (.reg 1 false (xad 5 0 2 (xoa 6 (.ld (.slot 0) (.i .i64)) 5 (xoi 7 (.bin .geq) 6 0 (xmv 8 7 (.sc 8 true (xad 9 0 2 (xoa 10 (.ld (.slot 0) (.i .i64)) 9 (xoi 11 (.bin .lss) 10 4 .nil))) 11 12 false .nil)))))) (.cond (.t 12) (.seq (.reg 2 false (xad 13 0 2 (xoa 14 (.ld (.slot 0) (.i .i64)) 13 (xad 15 1 3 (xob 16 (.idxA 4 1) 15 14 (xoa 17 (.ld (.slot 1) (.i .i64)) 16 (xmv 4 17 .nil))))))) .ret) .skip)) (.seq (.reg 3 false (xad 18 1 2 (xoa 19 (.ld (.slot 0) (.i .i64)) 18 (xmv 4 19 .nil)))) .ret))) }
def q113:Fn:={ np:=2,nt:=19,ns:=1,res:=[.t 4 .any],gc:=false,code:=(.seq (.reg 0 false (.box 2 0 (.t 0) (.op (some 4) .mov [(.k (.c .nils))] .nil))) (.seq (.seq (.reg 1 false (xmv 5 1 (xoi 6 (.bin .lss) 5 0 (xmv 7 6 (.sc 7 false (xmv 8 1 (xad 9 2 2 (xoa 10 (.ld (.slot 0) .any) 9 (xoa 11 .len 10 (xob 12 (.bin .geq) 8 11 .nil))))) 12 13 true .nil))))) (.cond (.t 13) (.seq (.reg 2 false (.op (some 4) .mov [(.k (.c .nils))] .nil)) .ret) .skip)) (.seq (.reg 3 false (xad 14 2 2 (xoa 15 (.ld (.slot 0) .any) 14 (xmv 16 1 (xob 17 (.idxS 1) 15 16 (xoa 18 (.ld .heap .any) 17 (xmv 4 18 .nil))))))) .ret))) }
def q114_b1:IC:=(.seq (.seq (.reg 1 false (xad 10 0 3 (xoa 11 (.ld .heap (.i .i64)) 10 (xoi 12 (.bin .geq) 11 0 (xmv 13 12 (.sc 13 true (xad 14 0 3 (xoa 15 (.ld .heap (.i .i64)) 14 (xmv 16 0 (xoa 17 .len 16 (xob 18 (.bin .lss) 15 17 .nil))))) 18 19 false .nil)))))) (.cond (.t 19) .skip (.exit 0))) (.blk 1 (.seq (.reg 2 false (xmv 20 0 (xad 21 0 3 (xoa 22 (.ld .heap (.i .i64)) 21 (xob 23 (.idxS 9) 20 22 (xoa 24 (.ldN .heap 9) 23 (.al 5 1 (List.replicate 9 (Cell.int .i64 0)) (.op none (.stAll (.slot 1) 9) [(.t 5),(.t 24)] .nil)))))))) (.seq (.reg 3 true (xad 25 3 5 (xoa 26 (.ldN (.slot 1) 2) 25 (xoa 27 (.ldAll .heap 5) 3 (xob 28 (.qcall 108 [(.i .i64)]) 26 27 (xad 29 6 5 (xoa 30 (.ldN (.slot 1) 2) 29 (xoa 31 (.ldAll .heap 5) 3 (xob 32 (.qcall 108 [(.i .i64)]) 30 31 (xmv 6 28 (xmv 7 32 .nil))))))))))) (.seq (.seq (.reg 4 false (xad 33 0 5 (xoa 34 (.ld (.slot 1) (.i .i64)) 33 .nil))) (.blk 2 (.seq (.reg 6 false (xoi 37 (.bin .eql) 34 5 (xmv 36 37 .nil))) (.cond (.t 36) (.seq (.seq (.reg 7 false (xad 39 5 5 (xoa 40 (.ld (.slot 1) (.i .i64)) 39 (xmv 41 6 (xmv 42 7 (.op (some 43) (.call 125 [(.i .i64),.b]) [(.t 40),(.t 41),(.t 42)] (xmv 38 43 (xoa 44 (.ext 0) 38 (xoa 45 (.ext 1) 38 (xmv 8 44 (xmv 9 45 .nil))))))))))) (.seq (.reg 8 false (xmv 46 9 .nil)) (.cond (.t 46) (.reg 9 false (xmv 47 8 (xmv 6 47 .nil))) .skip))) (.reg 10 false (xad 48 1 5 (xoa 49 (.ld (.slot 1) (.i .i64)) 48 (xmv 50 6 (.op (some 51) (.call 124 []) [(.t 3),(.t 49),(.t 50)] .nil)))))) (.seq (.reg 11 false (xoi 53 (.bin .eql) 34 6 (xmv 52 53 .nil))) (.cond (.t 52) (.seq (.reg 12 false (xmv 54 6 (xmv 55 7 (xob 56 (.bin .eql) 54 55 .nil)))) (.cond (.t 56) (.reg 13 false (xad 57 0 3 (xoa 58 (.ld .heap (.i .i64)) 57 (xad 59 8 5 (xoa 60 (.ld (.slot 1) (.i .i64)) 59 (xoi 61 .mx 60 0 (xmv 62 0 (xoa 63 .len 62 (xob 64 .mn 61 63 (xob 65 (.bin .add) 58 64 (xad 66 0 3 (.op none (.st .heap) [(.t 66),(.t 65)] .nil)))))))))))) .skip)) (.seq (.reg 5 false (xoa 35 (.ldAll .heap 5) 3 (.op none (.stAll (.slot 0) 5) [(.t 4),(.t 35)] .nil))) .ret))))))) (.reg 14 false (xad 67 0 3 (xoa 68 (.ld .heap (.i .i64)) 67 (xoi 69 (.bin .add) 68 1 (xad 70 0 3 (.op none (.st .heap) [(.t 70),(.t 69)] .nil)))))))))))
def q114_p1:IC:=(.seq (.reg 15 false (xoa 71 (.ldAll .heap 5) 3 (.op none (.stAll (.slot 0) 5) [(.t 4),(.t 71)] .nil))) .ret)
def q114:Fn:={ np:=2,nt:=72,ns:=2,res:=[.all (.slot 0) 4 5],gc:=true,code:=(.seq (.reg 0 false (xoa 3 .boxH 1 (.al 4 0 ([Cell.int .i64 0,Cell.int .i64 0,Cell.int .i64 0,Cell.int .i64 0,Cell.int .i64 0]) .nil))) (.seq (.blk 0 (.loop [0,3,4] [0] [(0,[4],[0]),(1,[3,4],[0])] q114_b1)) q114_p1)) }
def q124:Fn:={ np:=3,nt:=18,ns:=0,res:=[],gc:=false,code:=(.seq (.reg 0 false (xmv 6 1 (xoi 7 (.bin .geq) 6 0 (xmv 8 7 (.sc 8 true (xmv 9 1 (xoi 10 (.bin .lss) 9 4 .nil)) 10 11 false .nil))))) (.cond (.t 11) (.reg 1 false (xmv 12 0 (xmv 13 1 (xmv 14 2 (xoa 15 .nilchk 12 (xad 16 1 15 (xob 17 (.idxA 4 1) 16 13 (.op none (.st .heap) [(.t 17),(.t 14)] .nil)))))))) .skip)) }
def q188_b1:IC:=(.seq (.reg 4 false (xob 42 (.bin .lss) 41 40 .nil)) (.seq (.cond (.t 42) .skip (.exit 0)) (.seq (.blk 1 (.seq (.reg 5 false (xmv 43 41 (xob 44 (.idxS 1) 39 41 (xoa 45 (.ld .heap (.i .u8)) 44 (xmv 3 43 (xmv 4 45 .nil)))))) (.seq (.reg 6 false (xmv 46 4 (xoa 47 (.conv .i64) 46 (xoa 48 (.call 158 [.b]) 47 (xoa 49 (.un .not) 48 (xmv 50 49 (.sc 50 false (xmv 51 3 (xoi 52 (.bin .gtr) 51 0 (xmv 53 52 (.sc 53 true (xmv 54 4 (xad 55 0 1 (xoa 56 (.ld .heap .any) 55 (xmv 57 3 (xoi 58 (.bin .sub) 57 1 (xob 59 (.idxS 1) 56 58 (xoa 60 (.ld .heap (.i .u8)) 59 (xob 61 (.bin .leq) 54 60 .nil)))))))) 61 62 false .nil)))) 62 63 true .nil))))))) (.cond (.t 63) (.seq (.reg 7 false (.op (some 2) .mov [(.k (.c (.bool false)))] .nil)) .ret) .skip)))) (.reg 8 false (xoi 64 (.bin .add) 41 1 (xmv 41 64 .nil))))))
def q188_b2:IC:=(.seq (.reg 11 false (xob 70 (.bin .lss) 69 68 .nil)) (.seq (.cond (.t 70) .skip (.exit 2)) (.seq (.blk 3 (.seq (.reg 12 false (xob 71 (.idxS 1) 67 69 (xoa 72 (.ld .heap .any) 71 (xmv 7 72 .nil)))) (.seq (.reg 13 false (xmv 73 7 (xoa 74 .len 73 (xoi 75 (.bin .gtr) 74 10 (xmv 76 75 (.sc 76 false (xmv 77 7 (xoa 78 (.call 148 [.b]) 77 (xoa 79 (.un .not) 78 .nil))) 79 80 true (xmv 81 80 (.sc 81 false (xmv 82 7 (xoa 83 (.mkfn 201) 5 (xob 84 (.call 155 [.b]) 82 83 .nil))) 84 85 true .nil)))))))) (.cond (.t 85) (.seq (.reg 14 false (.op (some 2) .mov [(.k (.c (.bool false)))] .nil)) .ret) .skip)))) (.reg 15 false (xoi 86 (.bin .add) 69 1 (xmv 69 86 .nil))))))
def q188_p2:IC:=(.seq (.reg 16 false (.op (some 2) .mov [(.k (.c (.bool true)))] .nil)) .ret)
def q188_p1:IC:=(.seq (.reg 9 false (xoa 65 (.mkfn 200) 1 (.op (some 5) (.allocH ([Cell.nilf])) [] (.op none (.st .heap) [(.t 5),(.t 65)] .nil)))) (.seq (.seq (.reg 10 false (xad 66 2 1 (xoa 67 (.ld .heap .any) 66 (xoa 68 .len 67 (xmk 69 0 .nil))))) (.blk 2 (.loop [5,67,68,69] [] [(0,[2],[]),(3,[],[])] q188_b2))) q188_p2))
def q188:Fn:={ np:=1,nt:=87,ns:=0,res:=[.t 2 .b],gc:=true,code:=(.seq (.reg 0 false (xoa 1 .boxH 0 (.op (some 2) .mov [(.k (.c (.bool false)))] .nil))) (.seq (.seq (.reg 1 false (xad 8 2 1 (xoa 9 (.ld .heap .any) 8 (xoa 10 .len 9 (xoi 11 (.bin .eql) 10 0 (xmv 12 11 (.sc 12 false (xad 13 2 1 (xoa 14 (.ld .heap .any) 13 (xoa 15 .len 14 (xoi 16 (.bin .gtr) 15 4 .nil)))) 16 17 true (xmv 18 17 (.sc 18 false (xad 19 0 1 (xoa 20 (.ld .heap .any) 19 (xoa 21 .len 20 (xoi 22 (.bin .gtr) 21 4 .nil)))) 22 23 true (xmv 24 23 (.sc 24 false (xad 25 1 1 (xoa 26 (.ld .heap .any) 25 (xoa 27 .len 26 (xad 28 0 1 (xoa 29 (.ld .heap .any) 28 (xoa 30 .len 29 (xob 31 (.bin .neq) 27 30 .nil))))))) 31 32 true (xmv 33 32 (.sc 33 false (xoa 34 (.ldAll .heap 3) 1 (xoa 35 (.call 102 [(.i .i64)]) 34 (xoi 36 (.bin .gtr) 35 24 .nil))) 36 37 true .nil))))))))))))) (.cond (.t 37) (.seq (.reg 2 false (.op (some 2) .mov [(.k (.c (.bool false)))] .nil)) .ret) .skip)) (.seq (.seq (.reg 3 false (xad 38 0 1 (xoa 39 (.ld .heap .any) 38 (xoa 40 .len 39 (xmk 41 0 .nil))))) (.blk 0 (.loop [1,39,40,41] [] [(0,[2],[]),(1,[1],[])] q188_b1))) q188_p1))) }
def q200:Fn:={ np:=2,nt:=13,ns:=0,res:=[.t 3 .b],gc:=false,code:=(.seq (.reg 0 false (.op (some 3) .mov [(.k (.c (.bool false)))] .nil)) (.seq (.reg 1 false (xmv 4 0 (xoi 5 (.bin .geq) 4 0 (xmv 6 5 (.sc 6 true (xmv 7 0 (xad 8 0 1 (xoa 9 (.ld .heap .any) 8 (xoa 10 .len 9 (xob 11 (.bin .lss) 7 10 .nil))))) 11 12 false (xmv 3 12 .nil)))))) .ret)) }
def q201:Fn:={ np:=2,nt:=8,ns:=1,res:=[.t 3 .b],gc:=false,code:=(.seq (.reg 0 false (.box 2 0 (.t 0) (.op (some 3) .mov [(.k (.c (.bool false)))] .nil))) (.seq (.reg 1 false (xoa 4 (.ldAll (.slot 0) 9) 2 (xoa 5 (.ld .heap .any) 1 (xob 6 (.call 159 [.b]) 4 5 (xoa 7 (.un .not) 6 (xmv 3 7 .nil)))))) .ret)) }
end Jq

namespace Jq
open Go
def q125:Fn:={ np:=3,nt:=71,ns:=0,res:=[.t 6 (.i .i64),.t 7 .b],gc:=false,code:=(.seq (.reg 0 false (xmk 6 0 (.op (some 7) .mov [(.k (.c (.bool false)))] .nil))) (.seq (.reg 1 false (xmv 9 2 (xoa 10 (.conv .u64) 9 (.op (some 11) (.bin .rem) [(.t 10),(.k (.c (.int .u64 64)))] (xmv 8 11 .nil))))) (.seq (.seq (.reg 2 false (xmv 12 0 .nil)) (.blk 0 (.seq (.reg 3 false (xoi 14 (.bin .eql) 12 1 (xmv 13 14 .nil))) (.cond (.t 13) (.seq (.reg 4 false (xmv 15 1 (xmv 16 2 (xob 17 (.bin .add) 15 16 (xmv 6 17 (.op (some 7) .mov [(.k (.c (.bool true)))] .nil)))))) .ret) (.seq (.reg 5 false (xoi 19 (.bin .eql) 12 2 (xmv 18 19 .nil))) (.cond (.t 18) (.seq (.reg 6 false (xmv 20 1 (xmv 21 2 (xob 22 (.bin .sub) 20 21 (xmv 6 22 (.op (some 7) .mov [(.k (.c (.bool true)))] .nil)))))) .ret) (.seq (.reg 7 false (xoi 24 (.bin .eql) 12 3 (xmv 23 24 .nil))) (.cond (.t 23) (.seq (.reg 8 false (xmv 25 1 (xmv 26 2 (xob 27 (.bin .mul) 25 26 (xmv 6 27 (.op (some 7) .mov [(.k (.c (.bool true)))] .nil)))))) .ret) (.seq (.reg 9 false (xoi 29 (.bin .eql) 12 4 (xmv 28 29 .nil))) (.cond (.t 28) (.seq (.reg 10 false (xmv 30 1 (xmv 31 2 (xob 32 (.bin .and) 30 31 (xmv 6 32 (.op (some 7) .mov [(.k (.c (.bool true)))] .nil)))))) .ret) (.seq (.reg 11 false (xoi 34 (.bin .eql) 12 5 (xmv 33 34 .nil))) (.cond (.t 33) (.seq (.reg 12 false (xmv 35 1 (xmv 36 2 (xob 37 (.bin .or) 35 36 (xmv 6 37 (.op (some 7) .mov [(.k (.c (.bool true)))] .nil)))))) .ret) (.seq (.reg 13 false (xoi 39 (.bin .eql) 12 6 (xmv 38 39 .nil))) (.cond (.t 38) (.seq (.reg 14 false (xmv 40 1 (xmv 41 2 (xob 42 (.bin .xor) 40 41 (xmv 6 42 (.op (some 7) .mov [(.k (.c (.bool true)))] .nil)))))) .ret) (.seq (.reg 15 false (xoi 44 (.bin .eql) 12 7 (xmv 43 44 .nil))) (.cond (.t 43) (.seq (.reg 16 false (xmv 45 1 (xmv 46 8 (xob 47 (.bin .shl) 45 46 (xmv 6 47 (.op (some 7) .mov [(.k (.c (.bool true)))] .nil)))))) .ret) (.seq (.reg 17 false (xoi 49 (.bin .eql) 12 8 (xmv 48 49 .nil))) (.cond (.t 48) (.seq (.reg 18 false (xmv 50 1 (xmv 51 8 (xob 52 (.bin .shr) 50 51 (xmv 6 52 (.op (some 7) .mov [(.k (.c (.bool true)))] .nil)))))) .ret) (.seq (.reg 19 false (xoi 54 (.bin .eql) 12 9 (xmv 53 54 .nil))) (.cond (.t 53) (.seq (.reg 20 false (xmv 55 1 (xmv 56 2 (xob 57 (.bin .eql) 55 56 (xoa 58 (.call 139 [(.i .i64)]) 57 (xmv 6 58 (.op (some 7) .mov [(.k (.c (.bool true)))] .nil))))))) .ret) (.seq (.reg 21 false (xoi 60 (.bin .eql) 12 10 (xmv 59 60 .nil))) (.cond (.t 59) (.seq (.reg 22 false (xmv 61 1 (xmv 62 2 (xob 63 (.bin .neq) 61 62 (xoa 64 (.call 139 [(.i .i64)]) 63 (xmv 6 64 (.op (some 7) .mov [(.k (.c (.bool true)))] .nil))))))) .ret) (.seq (.reg 23 false (xoi 66 (.bin .eql) 12 11 (xmv 65 66 .nil))) (.cond (.t 65) (.seq (.reg 24 false (xmv 67 1 (xmv 68 2 (xob 69 (.bin .lss) 67 68 (xoa 70 (.call 139 [(.i .i64)]) 69 (xmv 6 70 (.op (some 7) .mov [(.k (.c (.bool true)))] .nil))))))) .ret) .skip)))))))))))))))))))))))) (.seq (.reg 25 false (xmk 6 0 (.op (some 7) .mov [(.k (.c (.bool false)))] .nil))) .ret)))) }
def q139:Fn:={ np:=1,nt:=4,ns:=0,res:=[.t 2 (.i .i64)],gc:=false,code:=(.seq (.reg 0 false (xmk 2 0 .nil)) (.seq (.seq (.reg 1 false (xmv 3 0 .nil)) (.cond (.t 3) (.seq (.reg 2 false (xmk 2 1 .nil)) .ret) .skip)) (.seq (.reg 3 false (xmk 2 0 .nil)) .ret))) }
end Jq

namespace Jq
open Go
structure q139_In (E:Env):Prop where
  fn:E.fn 139=some q139
structure q125_In (E:Env):Prop where
  fn:E.fn 125=some q125
  c139:q139_In E
end Jq

namespace Jq
open Go
def q158:Fn:={ np:=1,nt:=9,ns:=0,res:=[.t 2 .b],gc:=false,code:=(.seq (.reg 0 false (.op (some 2) .mov [(.k (.c (.bool false)))] .nil)) (.seq (.reg 1 false (xmv 3 0 (xoi 4 (.bin .geq) 3 97 (xmv 5 4 (.sc 5 true (xmv 6 0 (xoi 7 (.bin .leq) 6 122 .nil)) 7 8 false (xmv 2 8 .nil)))))) .ret)) }
def q159:Fn:={ np:=2,nt:=159,ns:=2,res:=[.t 4 .b],gc:=false,code:=(.seq (.reg 0 false (.box 2 0 (.t 0) (.op (some 4) .mov [(.k (.c (.bool false)))] .nil))) (.seq (.reg 1 false (xad 7 0 2 (xoa 8 (.ld (.slot 0) (.i .i64)) 7 (.op (some 9) (.build (List.replicate 9 (Cell.int .i64 0)) [(0,1)]) [(.t 8)] (.al 5 1 (List.replicate 9 (Cell.int .i64 0)) (.op none (.stAll (.slot 1) 9) [(.t 5),(.t 9)] .nil)))))) (.seq (.reg 2 false (.op (some 6) .mov [(.k (.c (.bool true)))] .nil)) (.seq (.seq (.reg 3 false (xad 10 0 2 (xoa 11 (.ld (.slot 0) (.i .i64)) 10 .nil))) (.blk 0 (.seq (.reg 5 false (xoi 13 (.bin .eql) 11 1 (xmv 12 13 .nil))) (.cond (.t 12) (.seq (.reg 6 true (xad 14 2 2 (xoa 15 (.ld (.slot 0) (.i .i64)) 14 (xad 16 3 2 (xoa 17 (.ldN (.slot 0) 2) 16 (xad 18 2 5 (.op none (.st (.slot 1)) [(.t 18),(.t 15)] (xad 19 3 5 (.op none (.stN (.slot 1) 2) [(.t 19),(.t 17)] .nil))))))))) (.reg 7 false (xmv 20 1 (xad 21 2 2 (xoa 22 (.ld (.slot 0) (.i .i64)) 21 (xob 23 (.callv [.b]) 20 22 (xmv 24 23 (.sc 24 true (xad 25 3 2 (xoa 26 (.ldN (.slot 0) 2) 25 (xoa 27 (.call 163 [.b]) 26 .nil))) 27 28 false (xmv 6 28 .nil))))))))) (.seq (.reg 8 false (xoi 30 (.bin .eql) 11 2 (xmv 29 30 .nil))) (.cond (.t 29) (.seq (.reg 9 true (xad 31 1 2 (xoa 32 (.ld (.slot 0) (.i .i64)) 31 (xad 33 2 2 (xoa 34 (.ld (.slot 0) (.i .i64)) 33 (xad 35 1 5 (.op none (.st (.slot 1)) [(.t 35),(.t 32)] (xad 36 2 5 (.op none (.st (.slot 1)) [(.t 36),(.t 34)] .nil))))))))) (.reg 10 false (xmv 37 1 (xad 38 2 2 (xoa 39 (.ld (.slot 0) (.i .i64)) 38 (xob 40 (.callv [.b]) 37 39 (xmv 41 40 (.sc 41 true (xad 42 1 2 (xoa 43 (.ld (.slot 0) (.i .i64)) 42 (xoa 44 (.call 164 [.b]) 43 .nil))) 44 45 false (xmv 6 45 .nil))))))))) (.seq (.reg 11 false (xoi 47 (.bin .eql) 11 3 (xmv 46 47 .nil))) (.cond (.t 46) .skip (.seq (.reg 12 false (xoi 49 (.bin .eql) 11 4 (xmv 48 49 .nil))) (.cond (.t 48) (.seq (.reg 13 true (xad 50 1 2 (xoa 51 (.ld (.slot 0) (.i .i64)) 50 (xad 52 2 2 (xoa 53 (.ld (.slot 0) (.i .i64)) 52 (xad 54 3 2 (xoa 55 (.ldN (.slot 0) 2) 54 (xad 56 6 2 (xoa 57 (.ldN (.slot 0) 2) 56 (xad 58 1 5 (.op none (.st (.slot 1)) [(.t 58),(.t 51)] (xad 59 2 5 (.op none (.st (.slot 1)) [(.t 59),(.t 53)] (xad 60 3 5 (.op none (.stN (.slot 1) 2) [(.t 60),(.t 55)] (xad 61 6 5 (.op none (.stN (.slot 1) 2) [(.t 61),(.t 57)] .nil))))))))))))))))) (.reg 14 false (xmv 62 1 (xad 63 2 2 (xoa 64 (.ld (.slot 0) (.i .i64)) 63 (xob 65 (.callv [.b]) 62 64 (xmv 66 65 (.sc 66 true (xad 67 1 2 (xoa 68 (.ld (.slot 0) (.i .i64)) 67 (xoa 69 (.call 164 [.b]) 68 .nil))) 69 70 false (xmv 71 70 (.sc 71 true (xad 72 3 2 (xoa 73 (.ldN (.slot 0) 2) 72 (xoa 74 (.call 163 [.b]) 73 .nil))) 74 75 false (xmv 76 75 (.sc 76 true (xad 77 6 2 (xoa 78 (.ldN (.slot 0) 2) 77 (xoa 79 (.call 163 [.b]) 78 .nil))) 79 80 false (xmv 6 80 .nil))))))))))))) (.seq (.reg 15 false (xoi 82 (.bin .eql) 11 5 (xmv 81 82 .nil))) (.cond (.t 81) (.seq (.reg 16 true (xad 83 1 2 (xoa 84 (.ld (.slot 0) (.i .i64)) 83 (xad 85 3 2 (xoa 86 (.ldN (.slot 0) 2) 85 (xad 87 5 2 (xoa 88 (.ld (.slot 0) (.i .i64)) 87 (xad 89 6 2 (xoa 90 (.ldN (.slot 0) 2) 89 (xad 91 1 5 (.op none (.st (.slot 1)) [(.t 91),(.t 84)] (xad 92 3 5 (.op none (.stN (.slot 1) 2) [(.t 92),(.t 86)] (xad 93 5 5 (.op none (.st (.slot 1)) [(.t 93),(.t 88)] (xad 94 6 5 (.op none (.stN (.slot 1) 2) [(.t 94),(.t 90)] .nil))))))))))))))))) (.reg 17 false (xad 95 1 2 (xoa 96 (.ld (.slot 0) (.i .i64)) 95 (xoa 97 (.call 164 [.b]) 96 (xmv 98 97 (.sc 98 true (xad 99 3 2 (xoa 100 (.ldN (.slot 0) 2) 99 (xoa 101 (.call 163 [.b]) 100 .nil))) 101 102 false (xmv 103 102 (.sc 103 true (xad 104 6 2 (xoa 105 (.ldN (.slot 0) 2) 104 (xoa 106 (.call 163 [.b]) 105 .nil))) 106 107 false (xmv 108 107 (.sc 108 true (xad 109 5 2 (xoa 110 (.ld (.slot 0) (.i .i64)) 109 (xoi 111 (.bin .geq) 110 0 .nil))) 111 112 false (xmv 113 112 (.sc 113 true (xad 114 5 2 (xoa 115 (.ld (.slot 0) (.i .i64)) 114 (xoi 116 (.bin .leq) 115 11 .nil))) 116 117 false (xmv 118 117 (.sc 118 true (xad 119 5 2 (xoa 120 (.ld (.slot 0) (.i .i64)) 119 (xoi 121 (.bin .gtr) 120 0 (xmv 122 121 (.sc 122 false (xad 123 6 2 (xoa 124 (.ldN (.slot 0) 2) 123 (.op (some 125) (.build ([Cell.int .i64 0,Cell.int .i64 0]) [(0,1)]) [(.k (.c (.int .i64 (-1))))] (xob 126 (.eqA false ([Cell.int .i64 0,Cell.int .i64 0])) 124 125 .nil)))) 126 127 true .nil))))) 127 128 false (xmv 6 128 .nil)))))))))))))))) (.seq (.reg 18 false (xoi 130 (.bin .eql) 11 6 (xmv 129 130 .nil))) (.cond (.t 129) (.seq (.reg 19 true (xad 131 8 2 (xoa 132 (.ld (.slot 0) (.i .i64)) 131 (xad 133 3 2 (xoa 134 (.ldN (.slot 0) 2) 133 (xad 135 6 2 (xoa 136 (.ldN (.slot 0) 2) 135 (xad 137 8 5 (.op none (.st (.slot 1)) [(.t 137),(.t 132)] (xad 138 3 5 (.op none (.stN (.slot 1) 2) [(.t 138),(.t 134)] (xad 139 6 5 (.op none (.stN (.slot 1) 2) [(.t 139),(.t 136)] .nil))))))))))))) (.reg 20 false (xad 140 8 2 (xoa 141 (.ld (.slot 0) (.i .i64)) 140 (xoi 142 (.bin .geq) 141 0 (xmv 143 142 (.sc 143 true (xad 144 3 2 (xoa 145 (.ldN (.slot 0) 2) 144 (xoa 146 (.call 163 [.b]) 145 .nil))) 146 147 false (xmv 148 147 (.sc 148 true (xad 149 6 2 (xoa 150 (.ldN (.slot 0) 2) 149 (xoa 151 (.call 163 [.b]) 150 .nil))) 151 152 false (xmv 6 152 .nil)))))))))) (.seq (.reg 4 false (.op (some 4) .mov [(.k (.c (.bool false)))] .nil)) .ret))))))))))))))) (.seq (.reg 21 false (xmv 153 6 (xmv 154 153 (.sc 154 true (xoa 155 (.ldAll (.slot 0) 9) 2 (xoa 156 (.ldAll (.slot 1) 9) 5 (.op (some 157) (.eqA false (List.replicate 9 (Cell.int .i64 0))) [(.t 155),(.t 156)] .nil))) 157 158 false (xmv 4 158 .nil))))) .ret))))) }
def q163:Fn:={ np:=1,nt:=16,ns:=1,res:=[.t 2 .b],gc:=false,code:=(.seq (.reg 0 false (.box 1 0 (.t 0) (.op (some 2) .mov [(.k (.c (.bool false)))] .nil))) (.seq (.reg 1 false (xad 3 0 1 (xoa 4 (.ld (.slot 0) (.i .i64)) 3 (xoi 5 (.bin .eql) 4 (-1) (xmv 6 5 (.sc 6 false (xad 7 0 1 (xoa 8 (.ld (.slot 0) (.i .i64)) 7 (xoa 9 (.call 164 [.b]) 8 (xmv 10 9 (.sc 10 true (xad 11 1 1 (xoa 12 (.ld (.slot 0) (.i .i64)) 11 (xoi 13 (.bin .eql) 12 0 .nil))) 13 14 false .nil))))) 14 15 true (xmv 2 15 .nil))))))) .ret)) }
def q164:Fn:={ np:=1,nt:=9,ns:=0,res:=[.t 2 .b],gc:=false,code:=(.seq (.reg 0 false (.op (some 2) .mov [(.k (.c (.bool false)))] .nil)) (.seq (.reg 1 false (xmv 3 0 (xoi 4 (.bin .geq) 3 0 (xmv 5 4 (.sc 5 true (xmv 6 0 (xoi 7 (.bin .lss) 6 4 .nil)) 7 8 false (xmv 2 8 .nil)))))) .ret)) }
end Jq

namespace Jq
open Go
def q119:Fn:={ np:=1,nt:=8,ns:=0,res:=[.t 2 .any],gc:=false,code:=(.seq (.reg 0 false (.op (some 2) .mov [(.k (.c .nils))] .nil)) (.seq (.seq (.reg 1 false (xmv 3 0 (.op (some 4) (.eqNil false) [(.t 3),(.k (.c .nils))] .nil))) (.cond (.t 4) (.seq (.reg 2 false (.op (some 2) .mov [(.k (.c .nils))] .nil)) .ret) .skip)) (.seq (.reg 3 false (.op (some 5) (.bslice 9 0 (([]:List Cell)) []) [] (xmv 6 0 (xob 7 (.app 9 72) 5 6 (xmv 2 7 .nil))))) .ret))) }
def q155:Fn:={ np:=2,nt:=9,ns:=0,res:=[.t 4 .b],gc:=false,code:=(.seq (.reg 0 false (.op (some 4) .mov [(.k (.c (.bool false)))] .nil)) (.seq (.reg 1 false (xmv 5 0 (xmv 6 1 (xob 7 (.call 156 [(.i .i64)]) 5 6 (xoi 8 (.bin .geq) 7 0 (xmv 4 8 .nil)))))) .ret)) }
def q156_b1:IC:=(.seq (.reg 2 false (xob 9 (.bin .lss) 8 7 .nil)) (.seq (.cond (.t 9) .skip (.exit 0)) (.seq (.blk 1 (.seq (.reg 3 false (xmv 10 8 (xmv 5 10 .nil))) (.seq (.reg 4 false (xmv 11 1 (xmv 12 0 (xmv 13 5 (xob 14 (.idxS 9) 12 13 (xoa 15 (.ldN .heap 9) 14 (xob 16 (.callv [.b]) 11 15 .nil))))))) (.cond (.t 16) (.seq (.reg 5 false (xmv 17 5 (xmv 4 17 .nil))) .ret) .skip)))) (.reg 6 false (xoi 18 (.bin .add) 8 1 (xmv 8 18 .nil))))))
def q156_p1:IC:=(.seq (.reg 7 false (xmk 4 (-1) .nil)) .ret)
def q156:Fn:={ np:=2,nt:=19,ns:=0,res:=[.t 4 (.i .i64)],gc:=false,code:=(.seq (.reg 0 false (xmk 4 0 .nil)) (.seq (.seq (.reg 1 false (xmv 6 0 (xoa 7 .len 6 (xmk 8 0 .nil)))) (.blk 0 (.loop [0,1,7,8] [] [(0,[4],[]),(1,[],[])] q156_b1))) q156_p1)) }
def q195:Fn:={ np:=1,nt:=8,ns:=0,res:=[.t 2 .any],gc:=false,code:=(.seq (.reg 0 false (.op (some 2) .mov [(.k (.c .nils))] .nil)) (.seq (.seq (.reg 1 false (xmv 3 0 (.op (some 4) (.eqNil false) [(.t 3),(.k (.c .nils))] .nil))) (.cond (.t 4) (.seq (.reg 2 false (.op (some 2) .mov [(.k (.c .nils))] .nil)) .ret) .skip)) (.seq (.reg 3 false (.op (some 5) (.bslice 7 0 (([]:List Cell)) []) [] (xmv 6 0 (xob 7 (.app 7 56) 5 6 (xmv 2 7 .nil))))) .ret))) }
def q202:Fn:={ np:=1,nt:=8,ns:=0,res:=[.t 2 .any],gc:=false,code:=(.seq (.reg 0 false (.op (some 2) .mov [(.k (.c .nils))] .nil)) (.seq (.seq (.reg 1 false (xmv 3 0 (.op (some 4) (.eqNil false) [(.t 3),(.k (.c .nils))] .nil))) (.cond (.t 4) (.seq (.reg 2 false (.op (some 2) .mov [(.k (.c .nils))] .nil)) .ret) .skip)) (.seq (.reg 3 false (.op (some 5) (.bslice 1 0 (([]:List Cell)) []) [] (xmv 6 0 (xob 7 (.app 1 1) 5 6 (xmv 2 7 .nil))))) .ret))) }
def q203:Fn:={ np:=1,nt:=8,ns:=0,res:=[.t 2 .any],gc:=false,code:=(.seq (.reg 0 false (.op (some 2) .mov [(.k (.c .nils))] .nil)) (.seq (.seq (.reg 1 false (xmv 3 0 (.op (some 4) (.eqNil false) [(.t 3),(.k (.c .nils))] .nil))) (.cond (.t 4) (.seq (.reg 2 false (.op (some 2) .mov [(.k (.c .nils))] .nil)) .ret) .skip)) (.seq (.reg 3 false (.op (some 5) (.bslice 1 0 (([]:List Cell)) []) [] (xmv 6 0 (xob 7 (.app 1 8) 5 6 (xmv 2 7 .nil))))) .ret))) }
def q275:Fn:={ np:=2,nt:=9,ns:=1,res:=[.t 4 .b],gc:=false,code:=(.seq (.reg 0 false (.box 3 0 (.t 1) (.op (some 4) .mov [(.k (.c (.bool false)))] .nil))) (.seq (.reg 1 false (xmv 5 0 (xoa 6 (.ldAll (.slot 0) 2) 3 (xob 7 (.call 284 [(.i .i64)]) 5 6 (xoi 8 (.bin .geq) 7 0 (xmv 4 8 .nil)))))) .ret)) }
def q276_b1:IC:=(.seq (.reg 4 false (xob 14 (.bin .lss) 13 12 .nil)) (.seq (.cond (.t 14) .skip (.exit 0)) (.seq (.blk 1 (.seq (.reg 5 false (xmv 15 13 (xmv 5 15 .nil))) (.seq (.reg 6 true (xmv 16 0 (xmv 17 5 (xob 18 (.idxS 7) 16 17 (xoa 19 (.ldN .heap 7) 18 (xmv 20 1 (xmv 21 5 (xob 22 (.idxS 7) 20 21 (xoa 23 (.ldN .heap 7) 22 (.op (some 24) (.eqA true (List.replicate 7 (Cell.int .i64 0))) [(.t 19),(.t 23)] .nil)))))))))) (.cond (.t 24) (.seq (.reg 7 false (.op (some 4) .mov [(.k (.c (.bool false)))] .nil)) .ret) .skip)))) (.reg 8 false (xoi 25 (.bin .add) 13 1 (xmv 13 25 .nil))))))
def q276_p1:IC:=(.seq (.reg 9 false (.op (some 4) .mov [(.k (.c (.bool true)))] .nil)) .ret)
def q276:Fn:={ np:=2,nt:=26,ns:=0,res:=[.t 4 .b],gc:=false,code:=(.seq (.reg 0 false (.op (some 4) .mov [(.k (.c (.bool false)))] .nil)) (.seq (.seq (.reg 1 false (xmv 6 0 (xoa 7 .len 6 (xmv 8 1 (xoa 9 .len 8 (xob 10 (.bin .neq) 7 9 .nil)))))) (.cond (.t 10) (.seq (.reg 2 false (.op (some 4) .mov [(.k (.c (.bool false)))] .nil)) .ret) .skip)) (.seq (.seq (.reg 3 false (xmv 11 0 (xoa 12 .len 11 (xmk 13 0 .nil)))) (.blk 0 (.loop [0,1,12,13] [] [(0,[4],[]),(1,[],[])] q276_b1))) q276_p1))) }
def q283_b1:IC:=(.seq (.reg 2 false (xob 9 (.bin .lss) 8 7 .nil)) (.seq (.cond (.t 9) .skip (.exit 0)) (.seq (.blk 1 (.seq (.reg 3 false (xmv 10 8 (xmv 5 10 .nil))) (.seq (.reg 4 false (xmv 11 1 (xmv 12 0 (xmv 13 5 (xob 14 (.idxS 7) 12 13 (xoa 15 (.ldN .heap 7) 14 (xob 16 (.callv [.b]) 11 15 .nil))))))) (.cond (.t 16) (.seq (.reg 5 false (xmv 17 5 (xmv 4 17 .nil))) .ret) .skip)))) (.reg 6 false (xoi 18 (.bin .add) 8 1 (xmv 8 18 .nil))))))
def q283_p1:IC:=(.seq (.reg 7 false (xmk 4 (-1) .nil)) .ret)
def q283:Fn:={ np:=2,nt:=19,ns:=0,res:=[.t 4 (.i .i64)],gc:=false,code:=(.seq (.reg 0 false (xmk 4 0 .nil)) (.seq (.seq (.reg 1 false (xmv 6 0 (xoa 7 .len 6 (xmk 8 0 .nil)))) (.blk 0 (.loop [0,1,7,8] [] [(0,[4],[]),(1,[],[])] q283_b1))) q283_p1)) }
def q284_b1:IC:=(.seq (.reg 2 false (xob 9 (.bin .lss) 8 7 .nil)) (.seq (.cond (.t 9) .skip (.exit 0)) (.seq (.blk 1 (.seq (.reg 3 false (xmv 10 8 (xmv 5 10 .nil))) (.seq (.reg 4 true (xoa 11 (.ldAll (.slot 0) 2) 3 (xmv 12 0 (xmv 13 5 (xob 14 (.idxS 2) 12 13 (xoa 15 (.ldN .heap 2) 14 (xob 16 (.eqA false ([Cell.int .i64 0,Cell.int .i64 0])) 11 15 .nil))))))) (.cond (.t 16) (.seq (.reg 5 false (xmv 17 5 (xmv 4 17 .nil))) .ret) .skip)))) (.reg 6 false (xoi 18 (.bin .add) 8 1 (xmv 8 18 .nil))))))
def q284_p1:IC:=(.seq (.reg 7 false (xmk 4 (-1) .nil)) .ret)
def q284:Fn:={ np:=2,nt:=19,ns:=1,res:=[.t 4 (.i .i64)],gc:=false,code:=(.seq (.reg 0 false (.box 3 0 (.t 1) (xmk 4 0 .nil))) (.seq (.seq (.reg 1 false (xmv 6 0 (xoa 7 .len 6 (xmk 8 0 .nil)))) (.blk 0 (.loop [0,3,7,8] [0] [(0,[4],[]),(1,[],[])] q284_b1))) q284_p1)) }
end Jq

namespace Jq
open Go
end Jq

namespace Jq
open Go
end Jq

namespace Jq
open Go
structure q156_In (E:Env):Prop where
  fn:E.fn 156=some q156
structure q155_In (E:Env):Prop where
  fn:E.fn 155=some q155
  c156:q156_In E
structure q119_In (E:Env):Prop where
  fn:E.fn 119=some q119
structure q202_In (E:Env):Prop where
  fn:E.fn 202=some q202
structure q203_In (E:Env):Prop where
  fn:E.fn 203=some q203
structure q195_In (E:Env):Prop where
  fn:E.fn 195=some q195
structure q283_In (E:Env):Prop where
  fn:E.fn 283=some q283
structure q284_In (E:Env):Prop where
  fn:E.fn 284=some q284
structure q275_In (E:Env):Prop where
  fn:E.fn 275=some q275
  c284:q284_In E
structure q276_In (E:Env):Prop where
  fn:E.fn 276=some q276
end Jq

namespace Jq
open Go
structure q158_In (E:Env):Prop where
  fn:E.fn 158=some q158
structure q164_In (E:Env):Prop where
  fn:E.fn 164=some q164
structure q163_In (E:Env):Prop where
  fn:E.fn 163=some q163
  c164:q164_In E
structure q159_In (E:Env):Prop where
  fn:E.fn 159=some q159
  c163:q163_In E
  c164:q164_In E
end Jq

namespace Jq
open Go
def q148_b1:IC:=(.seq (.reg 2 false (xob 8 (.bin .lss) 7 6 .nil)) (.seq (.cond (.t 8) .skip (.exit 0)) (.seq (.blk 1 (.seq (.reg 3 false (xmv 9 7 (xob 10 (.idxS 9) 5 7 (xoa 11 (.ldN .heap 9) 10 (.al 4 0 (List.replicate 9 (Cell.int .i64 0)) (xmv 3 9 (.op none (.stAll (.slot 0) 9) [(.t 4),(.t 11)] .nil))))))) (.seq (.reg 4 false (xad 12 0 4 (xoa 13 (.ld (.slot 0) (.i .i64)) 12 (xoi 14 (.bin .eql) 13 6 (xmv 15 14 (.sc 15 true (xad 16 8 4 (xoa 17 (.ld (.slot 0) (.i .i64)) 16 (xoi 18 (.bin .lss) 17 1 (xmv 19 18 (.sc 19 false (xad 20 8 4 (xoa 21 (.ld (.slot 0) (.i .i64)) 20 (xmv 22 0 (xoa 23 .len 22 (xmv 24 3 (xob 25 (.bin .sub) 23 24 (xoi 26 (.bin .sub) 25 1 (xob 27 (.bin .gtr) 21 26 .nil)))))))) 27 28 true .nil))))) 28 29 false .nil)))))) (.cond (.t 29) (.seq (.reg 5 false (.op (some 2) .mov [(.k (.c (.bool false)))] .nil)) .ret) .skip)))) (.reg 6 false (xoi 30 (.bin .add) 7 1 (xmv 7 30 .nil))))))
def q148_p1:IC:=(.seq (.reg 7 false (.op (some 2) .mov [(.k (.c (.bool true)))] .nil)) .ret)
def q148:Fn:={ np:=1,nt:=31,ns:=1,res:=[.t 2 .b],gc:=false,code:=(.seq (.reg 0 false (.op (some 2) .mov [(.k (.c (.bool false)))] .nil)) (.seq (.seq (.reg 1 false (xmv 5 0 (xoa 6 .len 5 (xmk 7 0 .nil)))) (.blk 0 (.loop [0,5,6,7] [] [(0,[2],[]),(1,[],[])] q148_b1))) q148_p1)) }
end Jq

namespace Jq
open Go
structure q148_In (E:Env):Prop where
  fn:E.fn 148=some q148
end Jq

namespace Jq
open Go
structure q113_In (E:Env):Prop where
  fn:E.fn 113=some q113
structure q108_In (E:Env):Prop where
  fn:E.fn 108=some q108
structure q124_In (E:Env):Prop where
  fn:E.fn 124=some q124
structure q114_In (E:Env):Prop where
  fn:E.fn 114=some q114
  c108:q108_In E
  c124:q124_In E
  c125:q125_In E
structure q94_In (E:Env):Prop where
  fn:E.fn 94=some q94
  c113:q113_In E
  c114:q114_In E
structure q105_In (E:Env):Prop where
  fn:E.fn 105=some q105
  c113:q113_In E
structure q106_In (E:Env):Prop where
  fn:E.fn 106=some q106
  c105:q105_In E
  c113:q113_In E
  c114:q114_In E
  c124:q124_In E
structure q102_In (E:Env):Prop where
  fn:E.fn 102=some q102
structure q200_In (E:Env):Prop where
  fn:E.fn 200=some q200
structure q201_In (E:Env):Prop where
  fn:E.fn 201=some q201
  c159:q159_In E
structure q188_In (E:Env):Prop where
  fn:E.fn 188=some q188
  c102:q102_In E
  c148:q148_In E
  c155:q155_In E
  c158:q158_In E
  c200:q200_In E
  c201:q201_In E
end Jq

namespace Jq
open Go
def q3:Fn:={ np:=3,nt:=18,ns:=1,res:=[.t 6 .b],gc:=false,code:=(.seq (.reg 0 false (.box 3 0 (.t 0) (.op (some 6) .mov [(.k (.c (.bool false)))] .nil))) (.seq (.reg 1 false (xoa 7 (.ldAll (.slot 0) 65) 3 (xmv 8 1 (xob 9 (.call 16 [.b]) 7 8 (xmv 10 9 (.sc 10 true (xmv 11 1 (xad 12 1 3 (xob 13 (.idxA 64 1) 12 11 (xoa 14 (.ld (.slot 0) (.i .u64)) 13 (xmv 15 2 (xob 16 (.call 17 [.b]) 14 15 .nil)))))) 16 17 false (xmv 6 17 .nil))))))) .ret)) }
def q9:Fn:={ np:=1,nt:=7,ns:=1,res:=[.all (.slot 0) 2 65],gc:=false,code:=(.seq (.reg 0 false (.al 2 0 ([Cell.int .i64 0]++List.replicate 64 (Cell.int .u64 0)) .nil)) (.seq (.reg 1 false (xmv 3 0 (xoi 4 .mx 3 0 (xoi 5 .mn 4 64 (.op (some 6) (.build ([Cell.int .i64 0]++List.replicate 64 (Cell.int .u64 0)) [(0,1)]) [(.t 5)] (.op none (.stAll (.slot 0) 65) [(.t 2),(.t 6)] .nil)))))) .ret)) }
def q10:Fn:={ np:=3,nt:=25,ns:=2,res:=[.all (.slot 1) 6 65],gc:=false,code:=(.seq (.reg 0 false (.box 3 0 (.t 0) (.al 6 1 ([Cell.int .i64 0]++List.replicate 64 (Cell.int .u64 0)) .nil))) (.seq (.seq (.reg 1 false (xoa 7 (.ldAll (.slot 0) 65) 3 (xmv 8 1 (xob 9 (.call 16 [.b]) 7 8 (xmv 10 9 (.sc 10 true (xoa 11 (.ldAll (.slot 0) 65) 3 (xmv 12 2 (xob 13 (.call 16 [.b]) 11 12 .nil))) 13 14 false .nil)))))) (.cond (.t 14) (.reg 2 false (xmv 15 1 (xmv 16 1 (xad 17 1 3 (xob 18 (.idxA 64 1) 17 16 (xoa 19 (.ld (.slot 0) (.i .u64)) 18 (xmv 20 2 (xob 21 (.call 18 [(.i .u64)]) 19 20 (xad 22 1 3 (xob 23 (.idxA 64 1) 22 15 (.op none (.st (.slot 0)) [(.t 23),(.t 21)] .nil))))))))))) .skip)) (.seq (.reg 3 false (xoa 24 (.ldAll (.slot 0) 65) 3 (.op none (.stAll (.slot 1) 65) [(.t 6),(.t 24)] .nil))) .ret))) }
def q12_b1:IC:=(.seq (.reg 5 false (xob 13 (.bin .lss) 12 11 .nil)) (.seq (.cond (.t 13) .skip (.exit 2)) (.seq (.blk 3 (.seq (.reg 6 false (xmv 14 12 (xmv 4 14 .nil))) (.seq (.reg 7 false (xmv 15 4 (xad 16 1 1 (xob 17 (.idxA 64 1) 16 15 (xoa 18 (.ld (.slot 0) (.i .u64)) 17 (xmv 19 3 (xob 20 (.call 17 [.b]) 18 19 .nil))))))) (.cond (.t 20) (.reg 8 true (xmv 21 4 (xad 22 1 1 (xob 23 (.idxA 64 1) 22 21 (xoa 24 (.ld (.slot 0) (.i .u64)) 23 (xmv 25 3 (xad 26 1 1 (xob 27 (.idxA 64 1) 26 25 (xoa 28 (.ld (.slot 0) (.i .u64)) 27 (xob 29 (.bin .or) 24 28 (xad 30 1 1 (xob 31 (.idxA 64 1) 30 21 (.op none (.st (.slot 0)) [(.t 31),(.t 29)] .nil))))))))))))) .skip)))) (.reg 9 false (xoi 32 (.bin .add) 12 1 (xmv 12 32 .nil))))))
def q12_p2:IC:=(.reg 10 false (xoi 33 (.bin .add) 7 1 (xmv 7 33 .nil)))
def q12_b2:IC:=(.seq (.reg 2 false (xob 8 (.bin .lss) 7 6 .nil)) (.seq (.cond (.t 8) .skip (.exit 0)) (.seq (.blk 1 (.seq (.reg 3 false (xmv 9 7 (xmv 3 9 .nil))) (.seq (.reg 4 false (xad 10 0 1 (xoa 11 (.ld (.slot 0) (.i .i64)) 10 (xmk 12 0 .nil)))) (.blk 2 (.loop [1,2,3,6,7,11,12] [0,1] [(3,[1,2,6,7],[0,1])] q12_b1))))) q12_p2)))
def q12_p1:IC:=(.seq (.reg 11 false (xoa 34 (.ldAll (.slot 0) 65) 1 (.op none (.stAll (.slot 1) 65) [(.t 2),(.t 34)] .nil))) .ret)
def q12:Fn:={ np:=1,nt:=35,ns:=2,res:=[.all (.slot 1) 2 65],gc:=false,code:=(.seq (.reg 0 false (.box 1 0 (.t 0) (.al 2 1 ([Cell.int .i64 0]++List.replicate 64 (Cell.int .u64 0)) .nil))) (.seq (.seq (.reg 1 false (xad 5 0 1 (xoa 6 (.ld (.slot 0) (.i .i64)) 5 (xmk 7 0 .nil)))) (.blk 0 (.loop [1,2,6,7] [0,1] [(1,[1,2],[0,1])] q12_b2))) q12_p1)) }
def q14:Fn:={ np:=1,nt:=5,ns:=1,res:=[.t 2 (.i .i64)],gc:=false,code:=(.seq (.reg 0 false (.box 1 0 (.t 0) (xmk 2 0 .nil))) (.seq (.reg 1 false (xad 3 0 1 (xoa 4 (.ld (.slot 0) (.i .i64)) 3 (xmv 2 4 .nil)))) .ret)) }
def q16:Fn:={ np:=2,nt:=13,ns:=1,res:=[.t 4 .b],gc:=false,code:=(.seq (.reg 0 false (.box 2 0 (.t 0) (.op (some 4) .mov [(.k (.c (.bool false)))] .nil))) (.seq (.reg 1 false (xmv 5 1 (xoi 6 (.bin .geq) 5 0 (xmv 7 6 (.sc 7 true (xmv 8 1 (xad 9 0 2 (xoa 10 (.ld (.slot 0) (.i .i64)) 9 (xob 11 (.bin .lss) 8 10 .nil)))) 11 12 false (xmv 4 12 .nil)))))) .ret)) }
def q40_b1:IC:=(.seq (.seq (.reg 6 false (xmv 18 5 (.op (some 19) (.bin .neq) [(.t 18),(.k (.c (.int .u64 0)))] .nil))) (.cond (.t 19) .skip (.exit 2))) (.seq (.blk 3 (.reg 8 false (xmv 24 5 (xoa 25 (.call 38 [(.i .i64)]) 24 (xmv 26 5 (xoa 27 (.call 38 [(.i .i64)]) 26 (xad 28 1 3 (xob 29 (.idxA 64 1) 28 27 (xoa 30 (.ld (.slot 2) (.i .u64)) 29 (xmv 31 4 (xob 32 (.call 18 [(.i .u64)]) 30 31 (xad 33 1 3 (xob 34 (.idxA 64 1) 33 25 (.op none (.st (.slot 2)) [(.t 34),(.t 32)] .nil)))))))))))))) (.reg 7 false (xmv 20 5 (xmv 21 5 (.op (some 22) (.bin .sub) [(.t 21),(.k (.c (.int .u64 1)))] (xob 23 (.bin .and) 20 22 (xmv 5 23 .nil))))))))
def q40_p2:IC:=(.reg 9 false (xoi 35 (.bin .add) 11 1 (xmv 11 35 .nil)))
def q40_b2:IC:=(.seq (.reg 3 false (xob 12 (.bin .lss) 11 10 .nil)) (.seq (.cond (.t 12) .skip (.exit 0)) (.seq (.blk 1 (.seq (.reg 4 false (xmv 13 11 (xmv 4 13 .nil))) (.seq (.reg 5 false (xmv 14 4 (xad 15 1 1 (xob 16 (.idxA 64 1) 15 14 (xoa 17 (.ld (.slot 0) (.i .u64)) 16 (xmv 5 17 .nil)))))) (.blk 2 (.loop [1,2,3,4,5,10,11] [0,1,2] [(3,[1,2,3,10,11],[0,1,2])] q40_b1))))) q40_p2)))
def q40_p1:IC:=(.seq (.reg 10 false (xoa 36 (.ldAll (.slot 2) 65) 3 (.op none (.stAll (.slot 1) 65) [(.t 2),(.t 36)] .nil))) .ret)
def q40:Fn:={ np:=1,nt:=37,ns:=3,res:=[.all (.slot 1) 2 65],gc:=false,code:=(.seq (.reg 0 false (.box 1 0 (.t 0) (.al 2 1 ([Cell.int .i64 0]++List.replicate 64 (Cell.int .u64 0)) .nil))) (.seq (.reg 1 false (xad 6 0 1 (xoa 7 (.ld (.slot 0) (.i .i64)) 6 (xoa 8 (.call 9 [.agg]) 7 (.al 3 2 ([Cell.int .i64 0]++List.replicate 64 (Cell.int .u64 0)) (.op none (.stAll (.slot 2) 65) [(.t 3),(.t 8)] .nil)))))) (.seq (.seq (.reg 2 false (xad 9 0 1 (xoa 10 (.ld (.slot 0) (.i .i64)) 9 (xmk 11 0 .nil)))) (.blk 0 (.loop [1,2,3,10,11] [0,1,2] [(1,[2,3],[1,2])] q40_b2))) q40_p1))) }
def q41:Fn:={ np:=2,nt:=13,ns:=1,res:=[.t 4 (.i .u64)],gc:=false,code:=(.seq (.reg 0 false (.box 2 0 (.t 0) (.op (some 4) .mov [(.k (.c (.int .u64 0)))] .nil))) (.seq (.seq (.reg 1 false (xoa 5 (.ldAll (.slot 0) 65) 2 (xmv 6 1 (xob 7 (.call 16 [.b]) 5 6 (xoa 8 (.un .not) 7 .nil))))) (.cond (.t 8) (.seq (.reg 2 false (.op (some 4) .mov [(.k (.c (.int .u64 0)))] .nil)) .ret) .skip)) (.seq (.reg 3 false (xmv 9 1 (xad 10 1 2 (xob 11 (.idxA 64 1) 10 9 (xoa 12 (.ld (.slot 0) (.i .u64)) 11 (xmv 4 12 .nil)))))) .ret))) }
end Jq

namespace Jq
open Go
def q17:Fn:={ np:=2,nt:=10,ns:=0,res:=[.t 4 .b],gc:=false,code:=(.seq (.reg 0 false (.op (some 4) .mov [(.k (.c (.bool false)))] .nil)) (.seq (.reg 1 false (xmv 5 0 (xmv 6 1 (xoa 7 (.call 19 [(.i .u64)]) 6 (xob 8 (.bin .and) 5 7 (.op (some 9) (.bin .neq) [(.t 8),(.k (.c (.int .u64 0)))] (xmv 4 9 .nil))))))) .ret)) }
def q18:Fn:={ np:=2,nt:=9,ns:=0,res:=[.t 4 (.i .u64)],gc:=false,code:=(.seq (.reg 0 false (.op (some 4) .mov [(.k (.c (.int .u64 0)))] .nil)) (.seq (.reg 1 false (xmv 5 0 (xmv 6 1 (xoa 7 (.call 19 [(.i .u64)]) 6 (xob 8 (.bin .or) 5 7 (xmv 4 8 .nil)))))) .ret)) }
def q19:Fn:={ np:=1,nt:=12,ns:=0,res:=[.t 2 (.i .u64)],gc:=false,code:=(.seq (.reg 0 false (.op (some 2) .mov [(.k (.c (.int .u64 0)))] .nil)) (.seq (.seq (.reg 1 false (xmv 3 0 (xoi 4 (.bin .lss) 3 0 (xmv 5 4 (.sc 5 false (xmv 6 0 (xoi 7 (.bin .geq) 6 64 .nil)) 7 8 true .nil))))) (.cond (.t 8) (.seq (.reg 2 false (.op (some 2) .mov [(.k (.c (.int .u64 0)))] .nil)) .ret) .skip)) (.seq (.reg 3 false (xmv 9 0 (xoa 10 (.conv .u64) 9 (.op (some 11) (.bin .shl) [(.k (.c (.int .u64 1))),(.t 10)] (xmv 2 11 .nil))))) .ret))) }
def q38:Fn:={ np:=1,nt:=7,ns:=0,res:=[.t 2 (.i .i64)],gc:=false,code:=(.seq (.reg 0 false (xmk 2 0 .nil)) (.seq (.seq (.reg 1 false (xmv 3 0 (.op (some 4) (.bin .eql) [(.t 3),(.k (.c (.int .u64 0)))] .nil))) (.cond (.t 4) (.seq (.reg 2 false (xmk 2 (-1) .nil)) .ret) .skip)) (.seq (.reg 3 false (xmv 5 0 (xoa 6 (.call 42 [(.i .i64)]) 5 (xmv 2 6 .nil)))) .ret))) }
end Jq

namespace Jq
open Go
structure q19_In (E:Env):Prop where
  fn:E.fn 19=some q19
structure q18_In (E:Env):Prop where
  fn:E.fn 18=some q18
  c19:q19_In E
structure q17_In (E:Env):Prop where
  fn:E.fn 17=some q17
  c19:q19_In E
structure q38_In (E:Env):Prop where
  fn:E.fn 38=some q38
  c42:q42_In E
end Jq

namespace Jq
open Go
structure q9_In (E:Env):Prop where
  fn:E.fn 9=some q9
structure q16_In (E:Env):Prop where
  fn:E.fn 16=some q16
structure q10_In (E:Env):Prop where
  fn:E.fn 10=some q10
  c16:q16_In E
  c18:q18_In E
structure q3_In (E:Env):Prop where
  fn:E.fn 3=some q3
  c16:q16_In E
  c17:q17_In E
structure q12_In (E:Env):Prop where
  fn:E.fn 12=some q12
  c17:q17_In E
structure q14_In (E:Env):Prop where
  fn:E.fn 14=some q14
structure q40_In (E:Env):Prop where
  fn:E.fn 40=some q40
  c9:q9_In E
  c18:q18_In E
  c38:q38_In E
structure q41_In (E:Env):Prop where
  fn:E.fn 41=some q41
  c16:q16_In E
end Jq

namespace Jq
open Go
structure q109_In (E:Env):Prop where
  fn:E.fn 109=some q109
  c108:q108_In E
structure q80_In (E:Env):Prop where
  fn:E.fn 80=some q80
end Jq

namespace Jq
open Go
def q254_b1:IC:=(.seq (.seq (.reg 4 false (xmv 15 9 (xoi 16 (.bin .lss) 15 60 .nil))) (.cond (.t 16) .skip (.exit 0))) (.seq (.blk 1 (.seq (.reg 6 false (xmv 19 7 (xoa 20 (.call 181 [.any]) 19 (xmv 10 20 .nil)))) (.seq (.seq (.reg 7 false (xmv 21 10 (xoa 22 .len 21 (xoi 23 (.bin .eql) 22 0 .nil)))) (.cond (.t 23) (.seq (.reg 8 false (xmv 24 8 (xmv 6 24 .nil))) .ret) .skip)) (.seq (.reg 9 false (xmv 25 9 (xoi 26 (.bin .mul) 25 3 (xmv 11 26 .nil)))) (.seq (.seq (.reg 10 false (xmv 27 9 (xmv 28 2 (xoa 29 .len 28 (xob 30 (.bin .lss) 27 29 .nil))))) (.cond (.t 30) (.reg 11 false (xmv 31 2 (xmv 32 9 (xob 33 (.idxS 1) 31 32 (xoa 34 (.ld .heap (.i .i64)) 33 (xoi 35 (.bin .and) 34 65535 (xmv 11 35 .nil))))))) .skip)) (.seq (.reg 12 false (xmv 36 7 (xmv 37 10 (xmv 38 11 (xmv 39 10 (xoa 40 .len 39 (xob 41 (.bin .rem) 38 40 (xob 42 (.idxS 1) 37 41 (xoa 43 (.ld .heap (.i .i64)) 42 (xob 44 (.call 182 [.agg,.b]) 36 43 .nil)))))))))) (.reg 13 false (xmv 45 8 (xmv 46 10 (xmv 47 11 (xmv 48 10 (xoa 49 .len 48 (xob 50 (.bin .rem) 47 49 (xob 51 (.idxS 1) 46 50 (xoa 52 (.ld .heap (.i .i64)) 51 (xoa 53 (.lit 1 1 ([Cell.int .i64 0]) [(0,1)]) 52 (xob 54 (.app 1 8) 45 53 (xmv 8 54 .nil)))))))))))))))))) (.reg 5 false (xmv 17 9 (xoi 18 (.bin .add) 17 1 (xmv 9 18 .nil))))))
def q254_p1:IC:=(.seq (.reg 14 false (xmv 55 8 (xmv 6 55 .nil))) .ret)
def q254:Fn:={ np:=3,nt:=56,ns:=1,res:=[.t 6 .any],gc:=false,code:=(.seq (.reg 0 false (.box 3 0 (.t 0) (.op (some 6) .mov [(.k (.c .nils))] .nil))) (.seq (.reg 1 false (xoa 12 (.ldAll (.slot 0) 3) 3 (xmv 13 1 (xob 14 (.call 180 [.any]) 12 13 (xmv 7 14 .nil))))) (.seq (.reg 2 false (.op (some 8) .mov [(.k (.c .nils))] .nil)) (.seq (.seq (.reg 3 false (xmk 9 0 .nil)) (.blk 0 (.loop [2,7,8,9] [] [(0,[6],[]),(1,[8],[])] q254_b1))) q254_p1)))) }
end Jq

namespace Jq
open Go
end Jq

namespace Jq
open Go
end Jq

namespace Jq
open Go
def q76:Fn:={ np:=2,nt:=9,ns:=1,res:=[.all (.slot 0) 4 3],gc:=false,code:=(.seq (.reg 0 false (.al 4 0 ([Cell.nils,Cell.nils,Cell.nils]) .nil)) (.seq (.reg 1 false (xmv 5 0 (xmv 6 1 (xob 7 (.call 97 [.agg]) 5 6 (xoa 8 (.call 101 [.agg]) 7 (.op none (.stAll (.slot 0) 3) [(.t 4),(.t 8)] .nil)))))) .ret)) }
end Jq

namespace Jq
open Go
def q97_p8:IC:=(.cond (.t 108) (.seq (.reg 35 false (xmv 113 12 (xmv 114 17 (xmv 115 15 (.op (some 116) (.build (List.replicate 9 (Cell.int .i64 0)) [(0,1),(1,1),(2,1)]) [(.k (.c (.int .i64 2))),(.t 114),(.t 115)] (.op (some 117) (.lit 9 1 (List.replicate 9 (Cell.int .i64 0)) [(0,9)]) [(.t 116)] (xob 118 (.app 9 72) 113 117 (xmv 12 118 .nil)))))))) (.reg 36 false (xmv 119 10 (xoi 120 (.bin .add) 119 1 (xmv 10 120 .nil))))) (.seq (.reg 37 false (xoi 122 (.bin .eql) 83 8 (xmv 121 122 .nil))) (.cond (.t 121) (.reg 38 false (xmv 123 12 (.op (some 124) (.build (List.replicate 9 (Cell.int .i64 0)) [(0,1)]) [(.k (.c (.int .i64 3)))] (.op (some 125) (.lit 9 1 (List.replicate 9 (Cell.int .i64 0)) [(0,9)]) [(.t 124)] (xob 126 (.app 9 72) 123 125 (xmv 12 126 .nil)))))) (.seq (.reg 39 false (xoi 128 (.bin .eql) 83 9 (xmv 127 128 .nil))) (.cond (.t 127) (.seq (.reg 40 false (xmv 129 12 (xmv 130 17 (xmv 131 15 (xoa 132 (.ldAll (.slot 2) 2) 16 (.op (some 133) (.build ([Cell.int .i64 0,Cell.int .i64 0]) [(0,1),(1,1)]) [(.k (.c (.int .i64 (-1)))),(.k (.c (.int .i64 1)))] (.op (some 134) (.build (List.replicate 9 (Cell.int .i64 0)) [(0,1),(1,1),(2,1),(3,2),(6,2)]) [(.k (.c (.int .i64 4))),(.t 130),(.t 131),(.t 132),(.t 133)] (.op (some 135) (.lit 9 1 (List.replicate 9 (Cell.int .i64 0)) [(0,9)]) [(.t 134)] (xob 136 (.app 9 72) 129 135 (xmv 12 136 .nil)))))))))) (.reg 41 false (xmv 137 10 (xoi 138 (.bin .add) 137 1 (xmv 10 138 .nil))))) (.seq (.reg 42 false (xoi 140 (.bin .eql) 83 10 (xmv 139 140 .nil))) (.cond (.t 139) (.reg 43 false (xmv 141 12 (xmv 142 17 (xoa 143 (.ldAll (.slot 2) 2) 16 (.op (some 144) (.build ([Cell.int .i64 0,Cell.int .i64 0]) [(0,1),(1,1)]) [(.k (.c (.int .i64 (-1)))),(.k (.c (.int .i64 1)))] (.op (some 145) (.build (List.replicate 9 (Cell.int .i64 0)) [(0,1),(1,1),(3,2),(5,1),(6,2)]) [(.k (.c (.int .i64 5))),(.t 142),(.t 143),(.k (.c (.int .i64 6))),(.t 144)] (.op (some 146) (.lit 9 1 (List.replicate 9 (Cell.int .i64 0)) [(0,9)]) [(.t 145)] (xob 147 (.app 9 72) 141 146 (xmv 12 147 .nil))))))))) (.seq (.reg 23 false (xmv 84 12 (xoa 85 (.ldAll (.slot 2) 2) 16 (.op (some 86) (.build ([Cell.int .i64 0,Cell.int .i64 0]) [(0,1)]) [(.k (.c (.int .i64 (-1))))] (.op (some 87) (.build (List.replicate 9 (Cell.int .i64 0)) [(0,1),(3,2),(6,2),(8,1)]) [(.k (.c (.int .i64 6))),(.t 85),(.t 86),(.k (.c (.int .i64 1)))] (xmv 88 15 (.op (some 89) (.build ([Cell.int .i64 0,Cell.int .i64 0]) [(0,1),(1,1)]) [(.k (.c (.int .i64 (-1)))),(.k (.c (.int .i64 2)))] (.op (some 90) (.build (List.replicate 9 (Cell.int .i64 0)) [(0,1),(2,1),(3,2)]) [(.k (.c (.int .i64 1))),(.t 88),(.t 89)] (.op (some 91) (.lit 9 2 (List.replicate 18 (Cell.int .i64 0)) [(0,9),(9,9)]) [(.t 87),(.t 90)] (xob 92 (.app 9 72) 84 91 (xmv 12 92 .nil))))))))))) (.reg 24 false (xmv 93 10 (xoi 94 (.bin .add) 93 1 (xmv 10 94 .nil))))))))))))
def q97_p7:IC:=(.cond (.t 95) (.seq (.reg 29 false (xmv 100 12 (xmv 101 15 (xoa 102 (.ldAll (.slot 2) 2) 16 (.op (some 103) (.build (List.replicate 9 (Cell.int .i64 0)) [(0,1),(2,1),(3,2)]) [(.k (.c (.int .i64 1))),(.t 101),(.t 102)] (.op (some 104) (.lit 9 1 (List.replicate 9 (Cell.int .i64 0)) [(0,9)]) [(.t 103)] (xob 105 (.app 9 72) 100 104 (xmv 12 105 .nil)))))))) (.reg 30 false (xmv 106 10 (xoi 107 (.bin .add) 106 1 (xmv 10 107 .nil))))) (.cut [1,4,5,7,8,9,10,11,12,13,15,16,17,83,108] [0,1,2] [] (.seq (.reg 31 false (xoi 109 (.bin .eql) 83 4 (xmv 108 109 .nil))) (.cond (.t 108) .skip (.seq (.reg 32 false (xoi 110 (.bin .eql) 83 5 (xmv 108 110 .nil))) (.cond (.t 108) .skip (.seq (.reg 33 false (xoi 111 (.bin .eql) 83 6 (xmv 108 111 .nil))) (.cond (.t 108) .skip (.reg 34 false (xoi 112 (.bin .eql) 83 7 (xmv 108 112 .nil))))))))) q97_p8))
def q97_p6:IC:=(.seq (.reg 21 false (xmv 79 14 (.op (some 80) (.bin .shr) [(.t 79),(.k (.c (.int .u64 11)))] (xoi 81 (.bin .and) 80 1 (xmv 17 81 .nil))))) (.seq (.reg 22 false (xmv 82 14 (xoi 83 (.bin .rem) 82 12 .nil))) (.blk 4 (.cut [1,4,5,7,8,9,10,11,12,13,15,16,17,83,95] [0,1,2] [] (.seq (.reg 25 false (xoi 96 (.bin .eql) 83 0 (xmv 95 96 .nil))) (.cond (.t 95) .skip (.seq (.reg 26 false (xoi 97 (.bin .eql) 83 1 (xmv 95 97 .nil))) (.cond (.t 95) .skip (.seq (.reg 27 false (xoi 98 (.bin .eql) 83 2 (xmv 95 98 .nil))) (.cond (.t 95) .skip (.reg 28 false (xoi 99 (.bin .eql) 83 3 (xmv 95 99 .nil))))))))) q97_p7))))
def q97_p5:IC:=(.reg 15 false (xmv 58 13 (xoi 59 (.bin .sub) 58 1 (xmv 13 59 .nil))))
def q97_b1:IC:=(.seq (.seq (.reg 14 false (xmv 51 13 (xoi 52 (.bin .gtr) 51 0 (xmv 53 52 (.sc 53 true (xmv 54 10 (xmv 55 1 (xob 56 (.bin .lss) 54 55 .nil))) 56 57 false .nil))))) (.cond (.t 57) .skip (.exit 2))) (.seq (.blk 3 (.seq (.reg 16 false (xmv 60 7 (xoa 61 (.callv [(.i .i64)]) 60 (xmv 14 61 .nil)))) (.seq (.reg 17 false (xmv 62 14 (.op (some 63) (.bin .shr) [(.t 62),(.k (.c (.int .u64 4)))] (xmv 64 9 (xob 65 (.bin .rem) 63 64 (.op (some 66) (.bin .add) [(.k (.c (.int .i64 120))),(.t 65)] (xmv 15 66 .nil))))))) (.seq (.reg 18 false (xmv 67 14 (.op (some 68) (.bin .shr) [(.t 67),(.k (.c (.int .u64 6)))] (xoi 69 (.bin .rem) 68 3 (.op (some 70) (.build ([Cell.int .i64 0,Cell.int .i64 0]) [(0,1),(1,1)]) [(.k (.c (.int .i64 (-1)))),(.t 69)] (.al 16 2 ([Cell.int .i64 0,Cell.int .i64 0]) (.op none (.stAll (.slot 2) 2) [(.t 16),(.t 70)] .nil))))))) (.cut [1,4,5,7,8,9,10,11,12,13,14,15,16] [0,1,2] [] (.seq (.reg 19 false (xmv 71 14 (.op (some 72) (.bin .shr) [(.t 71),(.k (.c (.int .u64 8)))] (xoi 73 (.bin .rem) 72 3 (xoi 74 (.bin .eql) 73 0 .nil))))) (.cond (.t 74) (.reg 20 false (xmv 75 14 (.op (some 76) (.bin .shr) [(.t 75),(.k (.c (.int .u64 10)))] (xoi 77 (.bin .and) 76 1 (xoa 78 (.build ([Cell.int .i64 0,Cell.int .i64 0]) [(0,1)]) 77 (.op none (.stAll (.slot 2) 2) [(.t 16),(.t 78)] .nil)))))) .skip)) q97_p6))))) q97_p5))
def q97_p4:IC:=(.reg 44 false (xad 148 2 5 (xoa 149 (.ld (.slot 1) .any) 148 (xmv 150 12 (xoa 151 (.lit 1 1 ([Cell.nils]) [(0,1)]) 150 (xob 152 (.app 1 24) 149 151 (xad 153 2 5 (.op none (.st (.slot 1)) [(.t 153),(.t 152)] .nil))))))))
def q97_p3:IC:=(.reg 11 false (xmv 45 11 (xoi 46 (.bin .add) 45 1 (xmv 11 46 .nil))))
def q97_b2:IC:=(.seq (.seq (.reg 10 false (xmv 42 11 (xmv 43 8 (xob 44 (.bin .lss) 42 43 .nil)))) (.cond (.t 44) .skip (.exit 0))) (.seq (.blk 1 (.seq (.reg 12 false (.op (some 12) .mov [(.k (.c .nils))] .nil)) (.seq (.seq (.reg 13 false (xmv 47 7 (xoa 48 (.callv [(.i .i64)]) 47 (xoi 49 (.bin .rem) 48 3 (xoi 50 (.bin .add) 49 1 (xmv 13 50 .nil)))))) (.blk 2 (.loop [1,4,5,7,8,9,10,11,12,13] [0,1] [(3,[1,4,5,7,8,9,10,11,12],[0,1])] q97_b1))) q97_p4))) q97_p3))
def q97_p2:IC:=(.seq (.seq (.reg 45 false (xmv 154 7 (xoa 155 (.callv [(.i .i64)]) 154 (xmv 18 155 .nil)))) (.seq (.reg 46 false (xmv 156 18 (xoi 157 (.bin .rem) 156 3 (xoi 158 (.bin .eql) 157 0 .nil)))) (.cond (.t 158) (.reg 47 false (xmv 159 18 (xoi 160 (.bin .quo) 159 3 (xoi 161 (.bin .rem) 160 2 (xoi 162 (.bin .add) 161 1 (xmv 163 18 (.op (some 164) (.bin .shr) [(.t 163),(.k (.c (.int .u64 3)))] (xoi 165 (.bin .and) 164 1 (xmv 166 18 (.op (some 167) (.bin .shr) [(.t 166),(.k (.c (.int .u64 4)))] (xoi 168 (.bin .and) 167 1 (.op (some 169) (.build ([Cell.int .i64 0,Cell.int .i64 0,Cell.int .i64 0,Cell.int .i64 0]) [(0,1),(1,1),(3,1)]) [(.k (.c (.int .i64 0))),(.t 165),(.t 168)] (xoa 170 (.bslice 4 1 ([Cell.int .i64 0,Cell.int .i64 0,Cell.int .i64 0,Cell.int .i64 0]) [(0,4)]) 169 (xmv 171 18 (.op (some 172) (.bin .shr) [(.t 171),(.k (.c (.int .u64 5)))] (xoi 173 (.bin .rem) 172 3 (.op (some 174) (.build ([Cell.int .i64 0,Cell.int .i64 0,Cell.int .i64 0,Cell.int .i64 0]) [(0,1),(2,1),(3,1)]) [(.k (.c (.int .i64 (-1)))),(.k (.c (.int .i64 120))),(.t 173)] (xmv 175 18 (.op (some 176) (.bin .shr) [(.t 175),(.k (.c (.int .u64 7)))] (xoi 177 (.bin .and) 176 1 (.op (some 178) (.build ([Cell.int .i64 0,Cell.int .i64 0,Cell.int .i64 0,Cell.int .i64 0]) [(0,1),(1,1),(3,1)]) [(.k (.c (.int .i64 1))),(.k (.c (.int .i64 0))),(.t 177)] (.op (some 179) (.bslice 4 2 (List.replicate 8 (Cell.int .i64 0)) [(0,4),(4,4)]) [(.t 174),(.t 178)] (xob 180 (.bslice 1 2 ([Cell.nils,Cell.nils]) [(0,1),(1,1)]) 170 179 (xob 181 (.build ([Cell.int .i64 0,Cell.nils]) [(0,1),(1,1)]) 162 180 (xad 182 3 5 (.op none (.stN (.slot 1) 2) [(.t 182),(.t 181)] .nil)))))))))))))))))))))))))) .skip))) (.seq (.reg 48 false (xoa 183 (.ldAll (.slot 1) 5) 5 (.op none (.stAll (.slot 0) 5) [(.t 4),(.t 183)] .nil))) .ret))
def q97_p1:IC:=(.seq (.reg 8 false (xmk 10 0 .nil)) (.seq (.seq (.reg 9 false (xmk 11 0 .nil)) (.blk 0 (.loop [1,4,5,7,8,9,10,11] [0,1] [(1,[4,5,7],[0,1])] q97_b2))) q97_p2))
def q97:Fn:={ np:=2,nt:=184,ns:=3,res:=[.all (.slot 0) 4 5],gc:=false,code:=(.seq (.reg 0 false (xoa 2 .boxH 0 (.al 4 0 ([Cell.str (ByteArray.mk #[]),Cell.nils,Cell.nils,Cell.int .i64 0,Cell.nils]) .nil))) (.seq (.reg 1 false (.op (some 19) (.build ([Cell.str (ByteArray.mk #[]),Cell.nils,Cell.nils,Cell.int .i64 0,Cell.nils]) [(0,1)]) [(.k (.c (.str (ByteArray.mk #[116]))))] (.al 5 1 ([Cell.str (ByteArray.mk #[]),Cell.nils,Cell.nils,Cell.int .i64 0,Cell.nils]) (.op none (.stAll (.slot 1) 5) [(.t 5),(.t 19)] .nil)))) (.seq (.reg 2 false (.op (some 6) (.allocH ([Cell.int .i64 0])) [] (.op none (.st .heap) [(.t 6),(.k (.c (.int .i64 0)))] .nil))) (.seq (.reg 3 false (xob 20 (.mkfn 115) 6 2 (xmv 7 20 .nil))) (.seq (.reg 4 false (xmv 21 7 (xoa 22 (.callv [(.i .i64)]) 21 (xoi 23 (.bin .rem) 22 2 (xoi 24 (.bin .add) 23 2 (xmv 8 24 .nil)))))) (.seq (.reg 5 false (xmv 25 7 (xoa 26 (.callv [(.i .i64)]) 25 (xoi 27 (.bin .rem) 26 2 (xoi 28 (.bin .add) 27 2 (xmv 9 28 .nil)))))) (.cut [1,4,5,7,8,9] [0,1] [] (.seq (.reg 6 false (xmv 29 7 (xoa 30 (.callv [(.i .i64)]) 29 (xoi 31 (.bin .rem) 30 4 (xoi 32 (.bin .eql) 31 0 .nil))))) (.cond (.t 32) (.reg 7 true (xad 33 1 5 (xoa 34 (.ld (.slot 1) .any) 33 (xmv 35 7 (xoa 36 (.callv [(.i .i64)]) 35 (xoi 37 (.bin .rem) 36 3 (.op (some 38) (.build ([Cell.int .i64 0,Cell.int .i64 0]) [(0,1),(1,1)]) [(.k (.c (.int .i64 120))),(.t 37)] (xoa 39 (.lit 2 1 ([Cell.int .i64 0,Cell.int .i64 0]) [(0,2)]) 38 (xob 40 (.app 2 16) 34 39 (xad 41 1 5 (.op none (.st (.slot 1)) [(.t 41),(.t 40)] .nil))))))))))) .skip)) q97_p1))))))) }
def q115:Fn:={ np:=2,nt:=15,ns:=0,res:=[.t 2 (.i .i64)],gc:=false,code:=(.seq (.reg 0 false (xmk 2 0 .nil)) (.seq (.reg 1 false (xoa 3 (.ld .heap (.i .i64)) 0 (xoi 4 (.bin .add) 3 1 (.op none (.st .heap) [(.t 0),(.t 4)] .nil)))) (.seq (.seq (.reg 2 false (xoa 5 (.ld .heap (.i .i64)) 0 (xoa 6 (.ld .heap .any) 1 (xoa 7 .len 6 (xob 8 (.bin .gtr) 5 7 .nil))))) (.cond (.t 8) (.seq (.reg 3 false (xmk 2 0 .nil)) .ret) .skip)) (.seq (.reg 4 false (xoa 9 (.ld .heap .any) 1 (xoa 10 (.ld .heap (.i .i64)) 0 (xoi 11 (.bin .sub) 10 1 (xob 12 (.idxS 1) 9 11 (xoa 13 (.ld .heap (.i .i64)) 12 (xoi 14 (.bin .and) 13 65535 (xmv 2 14 .nil)))))))) .ret)))) }
end Jq

namespace Jq
open Go
structure q115_In (E:Env):Prop where
  fn:E.fn 115=some q115
structure q97_In (E:Env):Prop where
  fn:E.fn 97=some q97
  c115:q115_In E
end Jq

namespace Jq
open Go
end Jq

namespace Jq
open Go
end Jq

namespace Jq
open Go
def q93:Fn:={ np:=3,nt:=81,ns:=0,res:=[.t 6 (.i .i64),.t 7 .b],gc:=false,code:=(.seq (.reg 0 false (xmk 6 0 (.op (some 7) .mov [(.k (.c (.bool false)))] .nil))) (.seq (.reg 1 false (xmv 10 2 (xoa 11 (.conv .u64) 10 (.op (some 12) (.bin .rem) [(.t 11),(.k (.c (.int .u64 64)))] (xmv 8 12 .nil))))) (.seq (.reg 2 false (.op (some 9) .mov [(.k (.c (.bool false)))] .nil)) (.seq (.seq (.reg 3 false (xmv 13 0 .nil)) (.blk 0 (.seq (.reg 5 false (xoi 15 (.bin .eql) 13 1 (xmv 14 15 .nil))) (.cond (.t 14) (.seq (.reg 6 false (xmv 16 1 (xoa 17 (.conv .u64) 16 (xmv 18 2 (xoa 19 (.conv .u64) 18 (xob 20 (.bin .add) 17 19 (xoa 21 (.conv .i64) 20 (xmv 6 21 (.op (some 7) .mov [(.k (.c (.bool true)))] .nil))))))))) .ret) (.seq (.reg 7 false (xoi 23 (.bin .eql) 13 2 (xmv 22 23 .nil))) (.cond (.t 22) (.seq (.reg 8 false (xmv 24 1 (xoa 25 (.conv .u64) 24 (xmv 26 2 (xoa 27 (.conv .u64) 26 (xob 28 (.bin .sub) 25 27 (xoa 29 (.conv .i64) 28 (xmv 6 29 (.op (some 7) .mov [(.k (.c (.bool true)))] .nil))))))))) .ret) (.seq (.reg 9 false (xoi 31 (.bin .eql) 13 3 (xmv 30 31 .nil))) (.cond (.t 30) (.seq (.reg 10 false (xmv 32 1 (xoa 33 (.conv .u64) 32 (xmv 34 2 (xoa 35 (.conv .u64) 34 (xob 36 (.bin .mul) 33 35 (xoa 37 (.conv .i64) 36 (xmv 6 37 (.op (some 7) .mov [(.k (.c (.bool true)))] .nil))))))))) .ret) (.seq (.reg 11 false (xoi 39 (.bin .eql) 13 4 (xmv 38 39 .nil))) (.cond (.t 38) (.seq (.reg 12 false (xmv 40 1 (xmv 41 2 (xob 42 (.bin .and) 40 41 (xmv 6 42 (.op (some 7) .mov [(.k (.c (.bool true)))] .nil)))))) .ret) (.seq (.reg 13 false (xoi 44 (.bin .eql) 13 5 (xmv 43 44 .nil))) (.cond (.t 43) (.seq (.reg 14 false (xmv 45 1 (xmv 46 2 (xob 47 (.bin .or) 45 46 (xmv 6 47 (.op (some 7) .mov [(.k (.c (.bool true)))] .nil)))))) .ret) (.seq (.reg 15 false (xoi 49 (.bin .eql) 13 6 (xmv 48 49 .nil))) (.cond (.t 48) (.seq (.reg 16 false (xmv 50 1 (xmv 51 2 (xob 52 (.bin .xor) 50 51 (xmv 6 52 (.op (some 7) .mov [(.k (.c (.bool true)))] .nil)))))) .ret) (.seq (.reg 17 false (xoi 54 (.bin .eql) 13 7 (xmv 53 54 .nil))) (.cond (.t 53) (.seq (.reg 18 false (xmv 55 1 (xoa 56 (.conv .u64) 55 (xmv 57 8 (xob 58 (.bin .shl) 56 57 (xoa 59 (.conv .i64) 58 (xmv 6 59 (.op (some 7) .mov [(.k (.c (.bool true)))] .nil)))))))) .ret) (.seq (.reg 19 false (xoi 61 (.bin .eql) 13 8 (xmv 60 61 .nil))) (.cond (.t 60) (.seq (.reg 20 false (xmv 62 1 (xmv 63 8 (xob 64 (.bin .shr) 62 63 (xmv 6 64 (.op (some 7) .mov [(.k (.c (.bool true)))] .nil)))))) .ret) (.seq (.reg 21 false (xoi 66 (.bin .eql) 13 9 (xmv 65 66 .nil))) (.cond (.t 65) (.reg 22 false (xmv 67 1 (xmv 68 2 (xob 69 (.bin .eql) 67 68 (xmv 9 69 .nil))))) (.seq (.reg 23 false (xoi 71 (.bin .eql) 13 10 (xmv 70 71 .nil))) (.cond (.t 70) (.reg 24 false (xmv 72 1 (xmv 73 2 (xob 74 (.bin .neq) 72 73 (xmv 9 74 .nil))))) (.seq (.reg 25 false (xoi 76 (.bin .eql) 13 11 (xmv 75 76 .nil))) (.cond (.t 75) (.reg 26 false (xmv 77 1 (xmv 78 2 (xob 79 (.bin .lss) 77 78 (xmv 9 79 .nil))))) (.seq (.reg 4 false (xmk 6 0 (.op (some 7) .mov [(.k (.c (.bool false)))] .nil))) .ret))))))))))))))))))))))))) (.seq (.seq (.reg 27 false (xmv 80 9 .nil)) (.cond (.t 80) (.seq (.reg 28 false (xmk 6 1 (.op (some 7) .mov [(.k (.c (.bool true)))] .nil))) .ret) .skip)) (.seq (.reg 29 false (xmk 6 0 (.op (some 7) .mov [(.k (.c (.bool true)))] .nil))) .ret)))))) }
def q121_b1:IC:=(.seq (.seq (.reg 3 false (xmv 11 4 (xad 12 1 1 (xoa 13 (.ld (.slot 0) .any) 12 (xoa 14 .len 13 (xob 15 (.bin .lss) 11 14 .nil)))))) (.cond (.t 15) .skip (.exit 0))) (.seq (.blk 1 (.reg 5 false (xad 18 1 1 (xoa 19 (.ld (.slot 0) .any) 18 (xmv 20 4 (xob 21 (.idxS 2) 19 20 (xad 22 0 21 (xoa 23 (.ld .heap (.i .i64)) 22 (xoi 24 (.bin .and) 23 255 (xob 25 (.idxA 256 1) 3 24 (.op none (.st (.slot 1)) [(.t 25),(.k (.c (.bool true)))] .nil))))))))))) (.reg 4 false (xmv 16 4 (xoi 17 (.bin .add) 16 1 (xmv 4 17 .nil))))))
def q121_b2:IC:=(.seq (.seq (.reg 10 false (xmv 33 6 (xad 34 2 1 (xoa 35 (.ld (.slot 0) .any) 34 (xmv 36 5 (xob 37 (.idxS 1) 35 36 (xoa 38 (.ld .heap .any) 37 (xoa 39 .len 38 (xob 40 (.bin .lss) 33 39 .nil))))))))) (.cond (.t 40) .skip (.exit 4))) (.seq (.blk 5 (.reg 12 false (xad 43 2 1 (xoa 44 (.ld (.slot 0) .any) 43 (xmv 45 5 (xob 46 (.idxS 1) 44 45 (xoa 47 (.ld .heap .any) 46 (xmv 48 6 (xob 49 (.idxS 9) 47 48 (xad 50 2 49 (xoa 51 (.ld .heap (.i .i64)) 50 (xoi 52 (.bin .and) 51 255 (xob 53 (.idxA 256 1) 3 52 (.op none (.st (.slot 1)) [(.t 53),(.k (.c (.bool true)))] .nil)))))))))))))) (.reg 11 false (xmv 41 6 (xoi 42 (.bin .add) 41 1 (xmv 6 42 .nil))))))
def q121_p3:IC:=(.reg 8 false (xmv 31 5 (xoi 32 (.bin .add) 31 1 (xmv 5 32 .nil))))
def q121_b3:IC:=(.seq (.seq (.reg 7 false (xmv 26 5 (xad 27 2 1 (xoa 28 (.ld (.slot 0) .any) 27 (xoa 29 .len 28 (xob 30 (.bin .lss) 26 29 .nil)))))) (.cond (.t 30) .skip (.exit 2))) (.seq (.blk 3 (.seq (.reg 9 false (xmk 6 0 .nil)) (.blk 4 (.loop [1,3,5,6] [0,1] [(5,[1,3,5],[0,1])] q121_b2)))) q121_p3))
def q121_b4:IC:=(.seq (.seq (.reg 17 false (xmv 62 8 (xad 63 3 1 (xad 64 1 63 (xoa 65 (.ld (.slot 0) .any) 64 (xmv 66 7 (xob 67 (.idxS 1) 65 66 (xoa 68 (.ld .heap .any) 67 (xoa 69 .len 68 (xob 70 (.bin .lss) 62 69 .nil)))))))))) (.cond (.t 70) .skip (.exit 8))) (.seq (.blk 9 (.reg 19 false (xad 73 3 1 (xad 74 1 73 (xoa 75 (.ld (.slot 0) .any) 74 (xmv 76 7 (xob 77 (.idxS 1) 75 76 (xoa 78 (.ld .heap .any) 77 (xmv 79 8 (xob 80 (.idxS 4) 78 79 (xad 81 2 80 (xoa 82 (.ld .heap (.i .i64)) 81 (xoi 83 (.bin .and) 82 255 (xob 84 (.idxA 256 1) 3 83 (.op none (.st (.slot 1)) [(.t 84),(.k (.c (.bool true)))] .nil))))))))))))))) (.reg 18 false (xmv 71 8 (xoi 72 (.bin .add) 71 1 (xmv 8 72 .nil))))))
def q121_p5:IC:=(.reg 15 false (xmv 60 7 (xoi 61 (.bin .add) 60 1 (xmv 7 61 .nil))))
def q121_b5:IC:=(.seq (.seq (.reg 14 false (xmv 54 7 (xad 55 3 1 (xad 56 1 55 (xoa 57 (.ld (.slot 0) .any) 56 (xoa 58 .len 57 (xob 59 (.bin .lss) 54 58 .nil))))))) (.cond (.t 59) .skip (.exit 6))) (.seq (.blk 7 (.seq (.reg 16 false (xmk 8 0 .nil)) (.blk 8 (.loop [1,3,7,8] [0,1] [(9,[1,3,7],[0,1])] q121_b4)))) q121_p5))
def q121_b6:IC:=(.seq (.seq (.reg 22 false (xmv 85 10 (.op (some 86) (.bin .leq) [(.t 85),(.k (.c (.int .i32 122)))] .nil))) (.cond (.t 86) .skip (.exit 10))) (.seq (.blk 11 (.seq (.reg 24 false (xmv 89 10 (xob 90 (.idxA 256 1) 3 89 (xoa 91 (.ld (.slot 1) .b) 90 .nil)))) (.cond (.t 91) (.reg 25 false (xmv 92 9 (xmv 93 10 (xoa 94 (.conv .u8) 93 (xoa 95 (.lit 1 1 ([Cell.int .u8 0]) [(0,1)]) 94 (xob 96 (.app 1 1) 92 95 (xmv 9 96 .nil))))))) .skip))) (.reg 23 false (xmv 87 10 (.op (some 88) (.bin .add) [(.t 87),(.k (.c (.int .i32 1)))] (xmv 10 88 .nil))))))
def q121_p6:IC:=(.seq (.reg 26 false (xmv 97 9 (xmv 2 97 .nil))) .ret)
def q121_p4:IC:=(.seq (.reg 20 false (.op (some 9) .mov [(.k (.c .nils))] .nil)) (.seq (.seq (.reg 21 false (.op (some 10) .mov [(.k (.c (.int .i32 97)))] .nil)) (.blk 10 (.loop [3,9,10] [1] [(11,[9],[])] q121_b6))) q121_p6))
def q121_p2:IC:=(.seq (.seq (.reg 13 false (xmk 7 0 .nil)) (.blk 6 (.loop [1,3,7] [0,1] [(7,[3],[1])] q121_b5))) q121_p4)
def q121_p1:IC:=(.seq (.seq (.reg 6 false (xmk 5 0 .nil)) (.blk 2 (.loop [1,3,5] [0,1] [(3,[1,3],[0,1])] q121_b3))) q121_p2)
def q121:Fn:={ np:=1,nt:=98,ns:=2,res:=[.t 2 .any],gc:=false,code:=(.seq (.reg 0 false (.box 1 0 (.t 0) (.op (some 2) .mov [(.k (.c .nils))] .nil))) (.seq (.reg 1 false (.al 3 1 (List.replicate 256 (Cell.bool false)) .nil)) (.seq (.seq (.reg 2 false (xmk 4 0 .nil)) (.blk 0 (.loop [1,3,4] [0,1] [(1,[1,3],[0,1])] q121_b1))) q121_p1))) }
end Jq

namespace Jq
open Go
structure q121_In (E:Env):Prop where
  fn:E.fn 121=some q121
structure q93_In (E:Env):Prop where
  fn:E.fn 93=some q93
end Jq

namespace Jq
open Go
def q81:Fn:={ np:=3,nt:=49,ns:=4,res:=[.all (.slot 2) 6 9,.t 7 .b],gc:=false,code:=(.seq (.reg 0 false (.box 3 0 (.t 0) (.box 5 1 (.t 2) (.al 6 2 (List.replicate 9 (Cell.int .i64 0)) (.op (some 7) .mov [(.k (.c (.bool false)))] .nil))))) (.seq (.seq (.reg 1 true (xoa 9 (.ldAll (.slot 0) 3) 3 (xmv 10 1 (xob 11 (.qcall 110 [.b]) 9 10 (xoa 12 (.un .not) 11 (xmv 13 12 (.sc 13 false (xad 14 0 5 (xoa 15 (.ld (.slot 1) (.i .i64)) 14 (xoi 16 (.bin .lss) 15 0 .nil))) 16 17 true (xmv 18 17 (.sc 18 false (xad 19 0 5 (xoa 20 (.ld (.slot 1) (.i .i64)) 19 (xad 21 2 3 (xoa 22 (.ld (.slot 0) .any) 21 (xmv 23 1 (xob 24 (.idxS 1) 22 23 (xoa 25 (.ld .heap .any) 24 (xoa 26 .len 25 (xob 27 (.bin .geq) 20 26 .nil))))))))) 27 28 true .nil))))))))) (.cond (.t 28) (.seq (.reg 2 false (.op (some 29) (.build (List.replicate 9 (Cell.int .i64 0)) []) [] (.op none (.stAll (.slot 2) 9) [(.t 6),(.t 29)] (.op (some 7) .mov [(.k (.c (.bool false)))] .nil)))) .ret) .skip)) (.seq (.reg 3 true (xad 30 2 3 (xoa 31 (.ld (.slot 0) .any) 30 (xmv 32 1 (xob 33 (.idxS 1) 31 32 (xoa 34 (.ld .heap .any) 33 (xad 35 0 5 (xoa 36 (.ld (.slot 1) (.i .i64)) 35 (xob 37 (.idxS 9) 34 36 (xoa 38 (.ldN .heap 9) 37 (.al 8 3 (List.replicate 9 (Cell.int .i64 0)) (.op none (.stAll (.slot 3) 9) [(.t 8),(.t 38)] .nil)))))))))))) (.seq (.seq (.reg 4 false (xad 39 0 8 (xoa 40 (.ld (.slot 3) (.i .i64)) 39 (xoi 41 (.bin .eql) 40 5 (xmv 42 41 (.sc 42 false (xad 43 0 8 (xoa 44 (.ld (.slot 3) (.i .i64)) 43 (xoi 45 (.bin .eql) 44 6 .nil))) 45 46 true .nil)))))) (.cond (.t 46) (.seq (.reg 5 false (.op (some 47) (.build (List.replicate 9 (Cell.int .i64 0)) []) [] (.op none (.stAll (.slot 2) 9) [(.t 6),(.t 47)] (.op (some 7) .mov [(.k (.c (.bool false)))] .nil)))) .ret) .skip)) (.seq (.reg 6 false (xoa 48 (.ldAll (.slot 3) 9) 8 (.op none (.stAll (.slot 2) 9) [(.t 6),(.t 48)] (.op (some 7) .mov [(.k (.c (.bool true)))] .nil)))) .ret))))) }
def q92:Fn:={ np:=2,nt:=20,ns:=2,res:=[.t 4 (.i .i64)],gc:=false,code:=(.seq (.reg 0 false (.box 2 0 (.t 0) (.box 3 1 (.t 1) (xmk 4 0 .nil)))) (.seq (.seq (.reg 1 false (xad 5 0 2 (xoa 6 (.ld (.slot 0) (.i .i64)) 5 (xoi 7 (.bin .geq) 6 0 (xmv 8 7 (.sc 8 true (xad 9 0 2 (xoa 10 (.ld (.slot 0) (.i .i64)) 9 (xoi 11 (.bin .leq) 10 3 .nil))) 11 12 false .nil)))))) (.cond (.t 12) (.seq (.reg 2 false (xad 13 0 2 (xoa 14 (.ld (.slot 0) (.i .i64)) 13 (xad 15 1 3 (xob 16 (.idxA 4 1) 15 14 (xoa 17 (.ld (.slot 1) (.i .i64)) 16 (xmv 4 17 .nil))))))) .ret) .skip)) (.seq (.reg 3 false (xad 18 1 2 (xoa 19 (.ld (.slot 0) (.i .i64)) 18 (xmv 4 19 .nil)))) .ret))) }
def q101_b1:IC:=(.seq (.seq (.reg 7 false (xmv 21 6 (xad 22 1 1 (xoa 23 (.ld (.slot 0) .any) 22 (xoa 24 .len 23 (xob 25 (.bin .lss) 21 24 .nil)))))) (.cond (.t 25) .skip (.exit 2))) (.seq (.blk 3 (.seq (.reg 9 true (xad 28 1 1 (xoa 29 (.ld (.slot 0) .any) 28 (xmv 30 6 (xob 31 (.idxS 2) 29 30 (xad 32 0 31 (xoa 33 (.ld .heap (.i .i64)) 32 (xad 34 0 3 (xoa 35 (.ld (.slot 2) .any) 34 (xmv 36 4 (xob 37 (.idxS 1) 35 36 (xoa 38 (.ld .heap (.i .u8)) 37 (xoa 39 (.conv .i64) 38 (xob 40 (.bin .eql) 33 39 .nil)))))))))))))) (.cond (.t 40) (.reg 10 false (xad 41 1 1 (xoa 42 (.ld (.slot 0) .any) 41 (xmv 43 6 (xob 44 (.idxS 2) 42 43 (xad 45 1 44 (xoa 46 (.ld .heap (.i .i64)) 45 (xmv 5 46 .nil)))))))) .skip))) (.reg 8 false (xmv 26 6 (xoi 27 (.bin .add) 26 1 (xmv 6 27 .nil))))))
def q101_p3:IC:=(.reg 11 false (xad 47 1 3 (xoa 48 (.ld (.slot 2) .any) 47 (xmv 49 5 (xoa 50 (.lit 1 1 ([Cell.int .i64 0]) [(0,1)]) 49 (xob 51 (.app 1 8) 48 50 (xad 52 1 3 (.op none (.st (.slot 2)) [(.t 52),(.t 51)] .nil))))))))
def q101_p2:IC:=(.reg 4 false (xmv 19 4 (xoi 20 (.bin .add) 19 1 (xmv 4 20 .nil))))
def q101_b2:IC:=(.seq (.seq (.reg 3 false (xmv 14 4 (xad 15 0 3 (xoa 16 (.ld (.slot 2) .any) 15 (xoa 17 .len 16 (xob 18 (.bin .lss) 14 17 .nil)))))) (.cond (.t 18) .skip (.exit 0))) (.seq (.blk 1 (.seq (.reg 5 false (xmk 5 0 .nil)) (.seq (.seq (.reg 6 false (xmk 6 0 .nil)) (.blk 2 (.loop [1,2,3,4,5,6] [0,1,2] [(3,[1,2,3,4,5],[0,1,2])] q101_b1))) q101_p3))) q101_p2))
def q101_b3:IC:=(.seq (.seq (.reg 17 false (xmv 60 9 (xad 61 2 1 (xoa 62 (.ld (.slot 0) .any) 61 (xmv 63 7 (xob 64 (.idxS 1) 62 63 (xoa 65 (.ld .heap .any) 64 (xoa 66 .len 65 (xob 67 (.bin .lss) 60 66 .nil))))))))) (.cond (.t 67) .skip (.exit 6))) (.seq (.blk 7 (.seq (.reg 19 false (xad 70 2 1 (xoa 71 (.ld (.slot 0) .any) 70 (xmv 72 7 (xob 73 (.idxS 1) 71 72 (xoa 74 (.ld .heap .any) 73 (xmv 75 9 (xob 76 (.idxS 9) 74 75 (xoa 77 (.ldN .heap 9) 76 (.al 10 3 (List.replicate 9 (Cell.int .i64 0)) (.op none (.stAll (.slot 3) 9) [(.t 10),(.t 77)] .nil))))))))))) (.seq (.seq (.reg 20 false (xad 78 2 10 (xoa 79 (.ld (.slot 3) (.i .i64)) 78 (xoi 80 (.bin .neq) 79 0 .nil)))) (.cond (.t 80) (.reg 21 false (xoa 81 (.ldAll (.slot 2) 3) 3 (xad 82 2 10 (xoa 83 (.ld (.slot 3) (.i .i64)) 82 (xob 84 (.call 122 [(.i .i64)]) 81 83 (xad 85 2 10 (.op none (.st (.slot 3)) [(.t 85),(.t 84)] .nil))))))) .skip)) (.reg 22 false (xmv 86 8 (xoa 87 (.ldAll (.slot 3) 9) 10 (.op (some 88) (.lit 9 1 (List.replicate 9 (Cell.int .i64 0)) [(0,9)]) [(.t 87)] (xob 89 (.app 9 72) 86 88 (xmv 8 89 .nil))))))))) (.reg 18 false (xmv 68 9 (xoi 69 (.bin .add) 68 1 (xmv 9 69 .nil))))))
def q101_p6:IC:=(.reg 23 false (xad 90 2 3 (xoa 91 (.ld (.slot 2) .any) 90 (xmv 92 8 (xoa 93 (.lit 1 1 ([Cell.nils]) [(0,1)]) 92 (xob 94 (.app 1 24) 91 93 (xad 95 2 3 (.op none (.st (.slot 2)) [(.t 95),(.t 94)] .nil))))))))
def q101_p5:IC:=(.reg 14 false (xmv 58 7 (xoi 59 (.bin .add) 58 1 (xmv 7 59 .nil))))
def q101_b4:IC:=(.seq (.seq (.reg 13 false (xmv 53 7 (xad 54 2 1 (xoa 55 (.ld (.slot 0) .any) 54 (xoa 56 .len 55 (xob 57 (.bin .lss) 53 56 .nil)))))) (.cond (.t 57) .skip (.exit 4))) (.seq (.blk 5 (.seq (.reg 15 false (.op (some 8) .mov [(.k (.c .nils))] .nil)) (.seq (.seq (.reg 16 false (xmk 9 0 .nil)) (.blk 6 (.loop [1,2,3,7,8,9] [0,1,2] [(7,[1,2,3,7,8],[0,1,2])] q101_b3))) q101_p6))) q101_p5))
def q101_p4:IC:=(.seq (.reg 24 false (xoa 96 (.ldAll (.slot 2) 3) 3 (.op none (.stAll (.slot 1) 3) [(.t 2),(.t 96)] .nil))) .ret)
def q101_p1:IC:=(.seq (.seq (.reg 12 false (xmk 7 0 .nil)) (.blk 4 (.loop [1,2,3,7] [0,1,2] [(5,[2,3],[1,2])] q101_b4))) q101_p4)
def q101:Fn:={ np:=1,nt:=97,ns:=4,res:=[.all (.slot 1) 2 3],gc:=false,code:=(.seq (.reg 0 false (.box 1 0 (.t 0) (.al 2 1 ([Cell.nils,Cell.nils,Cell.nils]) .nil))) (.seq (.reg 1 false (xoa 11 (.ldAll (.slot 0) 5) 1 (xoa 12 (.call 121 [.any]) 11 (xoa 13 (.build ([Cell.nils,Cell.nils,Cell.nils]) [(0,1)]) 12 (.al 3 2 ([Cell.nils,Cell.nils,Cell.nils]) (.op none (.stAll (.slot 2) 3) [(.t 3),(.t 13)] .nil)))))) (.seq (.seq (.reg 2 false (xmk 4 0 .nil)) (.blk 0 (.loop [1,2,3,4] [0,1,2] [(1,[1,2,3],[0,1,2])] q101_b2))) q101_p1))) }
def q104:Fn:={ np:=2,nt:=14,ns:=2,res:=[.all (.slot 1) 4 5],gc:=false,code:=(.seq (.reg 0 false (.box 2 0 (.t 0) (.al 4 1 ([Cell.int .i64 0,Cell.int .i64 0,Cell.int .i64 0,Cell.int .i64 0,Cell.int .i64 0]) .nil))) (.seq (.seq (.reg 1 false (xoa 5 (.ldAll (.slot 0) 3) 2 (xmv 6 1 (xob 7 (.call 110 [.b]) 5 6 (xoa 8 (.un .not) 7 .nil))))) (.cond (.t 8) (.seq (.reg 2 false (.op (some 9) (.build ([Cell.int .i64 0,Cell.int .i64 0,Cell.int .i64 0,Cell.int .i64 0,Cell.int .i64 0]) []) [] (.op none (.stAll (.slot 1) 5) [(.t 4),(.t 9)] .nil))) .ret) .skip)) (.seq (.reg 3 false (xoa 10 (.ldAll (.slot 0) 3) 2 (xmv 11 1 (.op (some 12) (.build ([Cell.int .i64 0,Cell.int .i64 0,Cell.int .i64 0,Cell.int .i64 0,Cell.int .i64 0]) []) [] (.op (some 13) (.call 123 [.agg]) [(.t 10),(.t 11),(.t 12)] (.op none (.stAll (.slot 1) 5) [(.t 4),(.t 13)] .nil)))))) .ret))) }
def q107:Fn:={ np:=4,nt:=42,ns:=4,res:=[.all (.slot 2) 8 5],gc:=false,code:=(.seq (.reg 0 false (.box 4 0 (.t 0) (.box 6 1 (.t 2) (.al 8 2 ([Cell.int .i64 0,Cell.int .i64 0,Cell.int .i64 0,Cell.int .i64 0,Cell.int .i64 0]) .nil)))) (.seq (.reg 1 false (xoa 12 (.ldAll (.slot 0) 3) 4 (xmv 13 1 (xoa 14 (.ldAll (.slot 1) 5) 6 (.op (some 15) (.call 81 [.agg,.b]) [(.t 12),(.t 13),(.t 14)] (xmv 11 15 (xoa 16 (.ext 0) 11 (xoa 17 (.ext 1) 11 (.al 9 3 (List.replicate 9 (Cell.int .i64 0)) (.op none (.stAll (.slot 3) 9) [(.t 9),(.t 16)] (xmv 10 17 .nil))))))))))) (.seq (.seq (.reg 2 false (xmv 18 10 (xoa 19 (.un .not) 18 .nil))) (.cond (.t 19) (.seq (.reg 3 false (xoa 20 (.ldAll (.slot 1) 5) 6 (.op none (.stAll (.slot 2) 5) [(.t 8),(.t 20)] .nil))) .ret) .skip)) (.seq (.seq (.reg 4 false (xad 21 0 9 (xoa 22 (.ld (.slot 3) (.i .i64)) 21 (xoi 23 (.bin .eql) 22 2 (xmv 24 23 (.sc 24 false (xad 25 0 9 (xoa 26 (.ld (.slot 3) (.i .i64)) 25 (xoi 27 (.bin .eql) 26 4 .nil))) 27 28 true .nil)))))) (.cond (.t 28) (.reg 5 false (xad 29 1 9 (xoa 30 (.ld (.slot 3) (.i .i64)) 29 (xmv 31 3 (xad 32 1 6 (xob 33 (.idxA 4 1) 32 30 (.op none (.st (.slot 1)) [(.t 33),(.t 31)] .nil))))))) .skip)) (.seq (.reg 6 false (xad 34 0 6 (xoa 35 (.ld (.slot 1) (.i .i64)) 34 (xoi 36 (.bin .add) 35 1 (xad 37 0 6 (.op none (.st (.slot 1)) [(.t 37),(.t 36)] .nil)))))) (.seq (.reg 7 false (xoa 38 (.ldAll (.slot 0) 3) 4 (xmv 39 1 (xoa 40 (.ldAll (.slot 1) 5) 6 (.op (some 41) (.call 123 [.agg]) [(.t 38),(.t 39),(.t 40)] (.op none (.stAll (.slot 2) 5) [(.t 8),(.t 41)] .nil)))))) .ret)))))) }
def q110:Fn:={ np:=2,nt:=14,ns:=1,res:=[.t 4 .b],gc:=false,code:=(.seq (.reg 0 false (.box 2 0 (.t 0) (.op (some 4) .mov [(.k (.c (.bool false)))] .nil))) (.seq (.reg 1 false (xmv 5 1 (xoi 6 (.bin .geq) 5 0 (xmv 7 6 (.sc 7 true (xmv 8 1 (xad 9 2 2 (xoa 10 (.ld (.slot 0) .any) 9 (xoa 11 .len 10 (xob 12 (.bin .lss) 8 11 .nil))))) 12 13 false (xmv 4 13 .nil)))))) .ret)) }
def q111:Fn:={ np:=3,nt:=45,ns:=3,res:=[.all (.slot 2) 6 6],gc:=false,code:=(.seq (.reg 0 false (.box 3 0 (.t 0) (.box 4 1 (.t 1) (.al 6 2 ([Cell.int .i64 0,Cell.int .i64 0,Cell.int .i64 0,Cell.int .i64 0,Cell.int .i64 0,Cell.int .i64 0]) .nil)))) (.seq (.seq (.reg 1 false (xad 7 0 3 (xoa 8 (.ld (.slot 0) (.i .i64)) 7 .nil))) (.blk 0 (.seq (.reg 2 false (xoi 10 (.bin .eql) 8 1 (xmv 9 10 .nil))) (.cond (.t 9) (.seq (.reg 3 true (xad 11 2 3 (xoa 12 (.ld (.slot 0) (.i .i64)) 11 (xad 13 3 3 (xoa 14 (.ldN (.slot 0) 2) 13 (xoa 15 (.ldAll (.slot 1) 5) 4 (xob 16 (.qcall 92 [(.i .i64)]) 14 15 (.op (some 17) (.build ([Cell.int .i64 0,Cell.int .i64 0,Cell.int .i64 0,Cell.int .i64 0,Cell.int .i64 0,Cell.int .i64 0]) [(2,1),(3,1),(5,1)]) [(.k (.c (.int .i64 2))),(.t 12),(.t 16)] (.op none (.stAll (.slot 2) 6) [(.t 6),(.t 17)] .nil))))))))) .ret) (.seq (.reg 4 false (xoi 19 (.bin .eql) 8 2 (xmv 18 19 .nil))) (.cond (.t 18) (.seq (.reg 5 false (xad 20 2 3 (xoa 21 (.ld (.slot 0) (.i .i64)) 20 (xmv 22 2 (.op (some 23) (.build ([Cell.int .i64 0,Cell.int .i64 0,Cell.int .i64 0,Cell.int .i64 0,Cell.int .i64 0,Cell.int .i64 0]) [(2,1),(3,1),(4,1)]) [(.k (.c (.int .i64 1))),(.t 21),(.t 22)] (.op none (.stAll (.slot 2) 6) [(.t 6),(.t 23)] .nil)))))) .ret) (.seq (.reg 6 false (xoi 25 (.bin .eql) 8 4 (xmv 24 25 .nil))) (.cond (.t 24) (.seq (.seq (.reg 7 false (xmv 26 2 (xad 27 3 3 (xoa 28 (.ldN (.slot 0) 2) 27 (xoa 29 (.ldAll (.slot 1) 5) 4 (xob 30 (.call 92 [(.i .i64)]) 28 29 (xob 31 (.bin .eql) 26 30 .nil))))))) (.cond (.t 31) (.seq (.reg 8 true (xad 32 2 3 (xoa 33 (.ld (.slot 0) (.i .i64)) 32 (xmv 34 2 (xad 35 6 3 (xoa 36 (.ldN (.slot 0) 2) 35 (xoa 37 (.ldAll (.slot 1) 5) 4 (xob 38 (.qcall 92 [(.i .i64)]) 36 37 (.op (some 39) (.build ([Cell.int .i64 0,Cell.int .i64 0,Cell.int .i64 0,Cell.int .i64 0,Cell.int .i64 0,Cell.int .i64 0]) [(2,1),(3,1),(4,1),(5,1)]) [(.k (.c (.int .i64 4))),(.t 33),(.t 34),(.t 38)] (.op none (.stAll (.slot 2) 6) [(.t 6),(.t 39)] .nil)))))))))) .ret) .skip)) (.seq (.reg 9 false (xad 40 2 3 (xoa 41 (.ld (.slot 0) (.i .i64)) 40 (xmv 42 2 (.op (some 43) (.build ([Cell.int .i64 0,Cell.int .i64 0,Cell.int .i64 0,Cell.int .i64 0,Cell.int .i64 0,Cell.int .i64 0]) [(2,1),(3,1),(4,1)]) [(.k (.c (.int .i64 5))),(.t 41),(.t 42)] (.op none (.stAll (.slot 2) 6) [(.t 6),(.t 43)] .nil)))))) .ret)) .skip)))))))) (.seq (.reg 10 false (.op (some 44) (.build ([Cell.int .i64 0,Cell.int .i64 0,Cell.int .i64 0,Cell.int .i64 0,Cell.int .i64 0,Cell.int .i64 0]) [(2,1)]) [(.k (.c (.int .i64 3)))] (.op none (.stAll (.slot 2) 6) [(.t 6),(.t 44)] .nil))) .ret))) }
def q122_b1:IC:=(.seq (.seq (.reg 2 false (xmv 6 5 (xad 7 0 2 (xoa 8 (.ld (.slot 0) .any) 7 (xoa 9 .len 8 (xob 10 (.bin .lss) 6 9 .nil)))))) (.cond (.t 10) .skip (.exit 0))) (.seq (.blk 1 (.seq (.reg 4 false (xad 13 0 2 (xoa 14 (.ld (.slot 0) .any) 13 (xmv 15 5 (xob 16 (.idxS 1) 14 15 (xoa 17 (.ld .heap (.i .u8)) 16 (xoa 18 (.conv .i64) 17 (xmv 19 1 (xob 20 (.bin .eql) 18 19 .nil))))))))) (.cond (.t 20) (.seq (.reg 5 false (xmv 21 5 (xmv 4 21 .nil))) .ret) .skip))) (.reg 3 false (xmv 11 5 (xoi 12 (.bin .add) 11 1 (xmv 5 12 .nil))))))
def q122_p1:IC:=(.seq (.reg 6 false (xmk 4 (-1) .nil)) .ret)
def q122:Fn:={ np:=2,nt:=22,ns:=1,res:=[.t 4 (.i .i64)],gc:=false,code:=(.seq (.reg 0 false (.box 2 0 (.t 0) (xmk 4 0 .nil))) (.seq (.seq (.reg 1 false (xmk 5 0 .nil)) (.blk 0 (.loop [1,2,5] [0] [(0,[4],[]),(1,[],[])] q122_b1))) q122_p1)) }
def q123_b1:IC:=(.seq (.seq (.reg 1 true (xad 9 0 5 (xoa 10 (.ld (.slot 1) (.i .i64)) 9 (xad 11 2 3 (xoa 12 (.ld (.slot 0) .any) 11 (xmv 13 1 (xob 14 (.idxS 1) 12 13 (xoa 15 (.ld .heap .any) 14 (xoa 16 .len 15 (xob 17 (.bin .lss) 10 16 .nil)))))))))) (.cond (.t 17) .skip (.exit 0))) (.blk 1 (.seq (.reg 2 true (xad 18 2 3 (xoa 19 (.ld (.slot 0) .any) 18 (xmv 20 1 (xob 21 (.idxS 1) 19 20 (xoa 22 (.ld .heap .any) 21 (xad 23 0 5 (xoa 24 (.ld (.slot 1) (.i .i64)) 23 (xob 25 (.idxS 9) 22 24 (xoa 26 (.ldN .heap 9) 25 (.al 7 3 (List.replicate 9 (Cell.int .i64 0)) (.op none (.stAll (.slot 3) 9) [(.t 7),(.t 26)] .nil)))))))))))) (.seq (.reg 3 false (xad 27 0 7 (xoa 28 (.ld (.slot 3) (.i .i64)) 27 .nil))) (.blk 2 (.seq (.reg 5 false (xoi 31 (.bin .eql) 28 5 (xmv 30 31 .nil))) (.cond (.t 30) (.seq (.reg 6 false (xad 32 3 7 (xoa 33 (.ldN (.slot 3) 2) 32 (xoa 34 (.ldAll (.slot 1) 5) 5 (xob 35 (.call 92 [(.i .i64)]) 33 34 (xmv 8 35 .nil)))))) (.seq (.seq (.reg 7 false (xad 36 5 7 (xoa 37 (.ld (.slot 3) (.i .i64)) 36 (xoi 38 (.bin .neq) 37 0 .nil)))) (.cond (.t 38) (.reg 8 true (xad 40 5 7 (xoa 41 (.ld (.slot 3) (.i .i64)) 40 (xmv 42 8 (xad 43 6 7 (xoa 44 (.ldN (.slot 3) 2) 43 (xoa 45 (.ldAll (.slot 1) 5) 5 (xob 46 (.qcall 92 [(.i .i64)]) 44 45 (.op (some 47) (.qcall 93 [(.i .i64),.b]) [(.t 41),(.t 42),(.t 46)] (xmv 39 47 (xoa 48 (.ext 0) 39 (xoa 49 (.ext 1) 39 (xmv 8 48 .nil))))))))))))) .skip)) (.seq (.reg 9 false (xad 50 1 7 (xoa 51 (.ld (.slot 3) (.i .i64)) 50 (xmv 52 8 (xad 53 1 5 (xob 54 (.idxA 4 1) 53 51 (.op none (.st (.slot 1)) [(.t 54),(.t 52)] .nil))))))) (.reg 10 false (xad 55 0 5 (xoa 56 (.ld (.slot 1) (.i .i64)) 55 (xoi 57 (.bin .add) 56 1 (xad 58 0 5 (.op none (.st (.slot 1)) [(.t 58),(.t 57)] .nil))))))))) (.seq (.reg 11 false (xoi 60 (.bin .eql) 28 6 (xmv 59 60 .nil))) (.cond (.t 59) (.seq (.seq (.reg 12 true (xad 61 3 7 (xoa 62 (.ldN (.slot 3) 2) 61 (xoa 63 (.ldAll (.slot 1) 5) 5 (xob 64 (.qcall 92 [(.i .i64)]) 62 63 (xad 65 6 7 (xoa 66 (.ldN (.slot 3) 2) 65 (xoa 67 (.ldAll (.slot 1) 5) 5 (xob 68 (.qcall 92 [(.i .i64)]) 66 67 (xob 69 (.bin .eql) 64 68 .nil)))))))))) (.cond (.t 69) (.reg 13 false (xad 70 0 5 (xoa 71 (.ld (.slot 1) (.i .i64)) 70 (xad 72 8 7 (xoa 73 (.ld (.slot 3) (.i .i64)) 72 (xob 74 (.bin .add) 71 73 (xad 75 0 5 (.op none (.st (.slot 1)) [(.t 75),(.t 74)] .nil)))))))) .skip)) (.reg 14 false (xad 76 0 5 (xoa 77 (.ld (.slot 1) (.i .i64)) 76 (xoi 78 (.bin .add) 77 1 (xad 79 0 5 (.op none (.st (.slot 1)) [(.t 79),(.t 78)] .nil))))))) (.seq (.reg 4 false (xoa 29 (.ldAll (.slot 1) 5) 5 (.op none (.stAll (.slot 2) 5) [(.t 6),(.t 29)] .nil))) .ret))))))))))
def q123_p1:IC:=(.seq (.reg 15 false (xoa 80 (.ldAll (.slot 1) 5) 5 (.op none (.stAll (.slot 2) 5) [(.t 6),(.t 80)] .nil))) .ret)
def q123:Fn:={ np:=3,nt:=81,ns:=4,res:=[.all (.slot 2) 6 5],gc:=false,code:=(.seq (.reg 0 false (.box 3 0 (.t 0) (.box 5 1 (.t 2) (.al 6 2 ([Cell.int .i64 0,Cell.int .i64 0,Cell.int .i64 0,Cell.int .i64 0,Cell.int .i64 0]) .nil)))) (.seq (.blk 0 (.loop [1,3,5,6] [0,1,2] [(0,[6],[2]),(1,[5,6],[1,2])] q123_b1)) q123_p1)) }
end Jq

namespace Jq
open Go
structure q122_In (E:Env):Prop where
  fn:E.fn 122=some q122
structure q101_In (E:Env):Prop where
  fn:E.fn 101=some q101
  c121:q121_In E
  c122:q122_In E
structure q110_In (E:Env):Prop where
  fn:E.fn 110=some q110
structure q81_In (E:Env):Prop where
  fn:E.fn 81=some q81
  c110:q110_In E
structure q92_In (E:Env):Prop where
  fn:E.fn 92=some q92
structure q123_In (E:Env):Prop where
  fn:E.fn 123=some q123
  c92:q92_In E
  c93:q93_In E
structure q104_In (E:Env):Prop where
  fn:E.fn 104=some q104
  c110:q110_In E
  c123:q123_In E
structure q107_In (E:Env):Prop where
  fn:E.fn 107=some q107
  c81:q81_In E
  c123:q123_In E
structure q111_In (E:Env):Prop where
  fn:E.fn 111=some q111
  c92:q92_In E
end Jq

namespace Jq
open Go
structure q76_In (E:Env):Prop where
  fn:E.fn 76=some q76
  c97:q97_In E
  c101:q101_In E
end Jq

namespace Jq
open Go
def q180_b1:IC:=(.seq (.seq (.reg 3 false (xmv 13 6 (xad 14 1 2 (xoa 15 (.ld (.slot 0) .any) 14 (xoa 16 .len 15 (xob 17 (.bin .lss) 13 16 .nil)))))) (.cond (.t 17) .skip (.exit 0))) (.seq (.blk 1 (.reg 5 true (xmv 20 5 (xmv 21 6 (xad 22 1 2 (xoa 23 (.ld (.slot 0) .any) 22 (xmv 24 6 (xob 25 (.idxS 1) 23 24 (xoa 26 (.ld .heap (.i .i64)) 25 (xoa 27 .nilchk 20 (xad 28 4 27 (xob 29 (.idxA 4 1) 28 21 (.op none (.st .heap) [(.t 29),(.t 26)] .nil))))))))))))) (.reg 4 false (xmv 18 6 (xoi 19 (.bin .add) 18 1 (xmv 6 19 .nil))))))
def q180_b2:IC:=(.seq (.seq (.reg 7 false (xmv 30 7 (xad 31 2 2 (xoa 32 (.ld (.slot 0) .any) 31 (xoa 33 .len 32 (xob 34 (.bin .lss) 30 33 .nil)))))) (.cond (.t 34) .skip (.exit 2))) (.seq (.blk 3 (.reg 9 true (xmv 37 5 (xmv 38 7 (xoa 39 (.ldAll (.slot 0) 3) 2 (xmv 40 7 (xob 41 (.qcall 104 [.agg]) 39 40 (xoa 42 .nilchk 37 (xad 43 12 42 (xob 44 (.idxA 4 5) 43 38 (.op none (.stN .heap 5) [(.t 44),(.t 41)] .nil))))))))))) (.reg 8 false (xmv 35 7 (xoi 36 (.bin .add) 35 1 (xmv 7 36 .nil))))))
def q180_p2:IC:=(.seq (.reg 10 false (xmv 45 5 (xmv 4 45 .nil))) .ret)
def q180_p1:IC:=(.seq (.seq (.reg 6 false (xmk 7 0 .nil)) (.blk 2 (.loop [2,5,7] [0] [(3,[5],[])] q180_b2))) q180_p2)
def q180:Fn:={ np:=2,nt:=46,ns:=1,res:=[.t 4 .any],gc:=false,code:=(.seq (.reg 0 false (.box 2 0 (.t 0) (.op (some 4) .mov [(.k (.c .nilp))] .nil))) (.seq (.reg 1 false (xoa 8 (.ldAll (.slot 0) 3) 2 (xmv 9 1 (.op (some 10) (.build ([Cell.int .i64 0,Cell.int .i64 0,Cell.int .i64 0,Cell.int .i64 0]) [(0,1),(1,1),(2,1),(3,1)]) [(.k (.c (.int .i64 (-1)))),(.k (.c (.int .i64 (-1)))),(.k (.c (.int .i64 (-1)))),(.k (.c (.int .i64 (-1))))] (.op (some 11) (.build ([Cell.nils,Cell.nils,Cell.nils]++List.replicate 29 (Cell.int .i64 0)++List.replicate 5 (Cell.nils)) [(0,3),(3,1),(8,4)]) [(.t 8),(.t 9),(.t 10)] (xoa 12 .boxH 11 (xmv 5 12 .nil))))))) (.seq (.seq (.reg 2 false (xmk 6 0 .nil)) (.blk 0 (.loop [2,5,6] [0] [(1,[2,5],[0])] q180_b1))) q180_p1))) }
def q181_b1:IC:=(.seq (.seq (.reg 3 false (xmv 5 4 (xoi 6 (.bin .lss) 5 24 .nil))) (.cond (.t 6) .skip (.exit 0))) (.seq (.blk 1 (.seq (.reg 5 false (xmv 9 0 (xmv 10 4 (xob 11 (.call 196 [.b]) 9 10 .nil)))) (.cond (.t 11) (.reg 6 false (xmv 12 3 (xmv 13 4 (xoa 14 (.lit 1 1 ([Cell.int .i64 0]) [(0,1)]) 13 (xob 15 (.app 1 8) 12 14 (xmv 3 15 .nil)))))) .skip))) (.reg 4 false (xmv 7 4 (xoi 8 (.bin .add) 7 1 (xmv 4 8 .nil))))))
def q181_p1:IC:=(.seq (.reg 7 false (xmv 16 3 (xmv 2 16 .nil))) .ret)
def q181:Fn:={ np:=1,nt:=17,ns:=0,res:=[.t 2 .any],gc:=false,code:=(.seq (.reg 0 false (.op (some 2) .mov [(.k (.c .nils))] .nil)) (.seq (.reg 1 false (.op (some 3) .mov [(.k (.c .nils))] .nil)) (.seq (.seq (.reg 2 false (xmk 4 0 .nil)) (.blk 0 (.loop [0,3,4] [] [(1,[3],[])] q181_b1))) q181_p1))) }
def q182_p10:IC:=(.seq (.reg 12 true (xmv 105 0 (xmv 106 0 (xoa 107 .nilchk 106 (xad 108 36 107 (xoa 109 (.ld .heap .any) 108 (xoa 110 (.ldAll (.slot 1) 7) 7 (.op (some 111) (.lit 7 1 (List.replicate 7 (Cell.int .i64 0)) [(0,7)]) [(.t 110)] (xob 112 (.app 7 56) 109 111 (xoa 113 .nilchk 105 (xad 114 36 113 (.op none (.st .heap) [(.t 114),(.t 112)] .nil)))))))))))) (.seq (.reg 13 false (xoa 115 (.ldAll (.slot 1) 7) 7 (.op none (.stAll (.slot 0) 7) [(.t 4),(.t 115)] (.op (some 5) .mov [(.k (.c (.bool true)))] .nil)))) .ret))
def q182_p9:IC:=(.cut [0,4,7] [0,1] [] (.reg 11 true (xmv 93 8 (xad 94 0 12 (xoa 95 (.ld (.slot 2) (.i .i64)) 94 (xad 96 1 12 (xoa 97 (.ld (.slot 2) (.i .i64)) 96 (xad 98 2 12 (xoa 99 (.ld (.slot 2) (.i .i64)) 98 (xad 100 1 7 (.op none (.st (.slot 1)) [(.t 100),(.t 93)] (xad 101 2 7 (.op none (.st (.slot 1)) [(.t 101),(.k (.c (.int .i64 6)))] (xad 102 3 7 (.op none (.st (.slot 1)) [(.t 102),(.t 95)] (xad 103 5 7 (.op none (.st (.slot 1)) [(.t 103),(.t 97)] (xad 104 6 7 (.op none (.st (.slot 1)) [(.t 104),(.t 99)] .nil)))))))))))))))))) q182_p10)
def q182_p8:IC:=(.cut [0,4,7,8,12] [0,1,2] [] (.reg 10 true (xmv 77 0 (xad 78 0 12 (xoa 79 (.ld (.slot 2) (.i .i64)) 78 (xmv 80 0 (xad 81 0 12 (xoa 82 (.ld (.slot 2) (.i .i64)) 81 (xad 83 1 12 (xoa 84 (.ld (.slot 2) (.i .i64)) 83 (xad 85 2 12 (xoa 86 (.ld (.slot 2) (.i .i64)) 85 (xoa 87 .nilchk 77 (xad 88 4 87 (xob 89 (.idxA 4 1) 88 79 (.op none (.st .heap) [(.t 89),(.t 84)] (xoa 90 .nilchk 80 (xad 91 8 90 (xob 92 (.idxA 4 1) 91 82 (.op none (.st .heap) [(.t 92),(.t 86)] .nil))))))))))))))))))) q182_p9)
def q182_p7:IC:=(.cut [0,4,7,8,12] [0,1,2] [] (.reg 9 true (xmv 52 0 (xmv 53 8 (.op (some 54) (.bslice 3 0 (([]:List Cell)) []) [] (xmv 55 0 (xmv 56 8 (xoa 57 .nilchk 55 (xad 58 32 57 (xob 59 (.idxA 4 1) 58 56 (xoa 60 (.ld0 .any) 59 (xmv 61 11 (xob 62 (.slc 3 false true) 60 61 (xob 63 (.app 3 24) 54 62 (xmv 64 0 (xmv 65 8 (xoa 66 .nilchk 64 (xad 67 32 66 (xob 68 (.idxA 4 1) 67 65 (xoa 69 (.ld0 .any) 68 (xmv 70 11 (xoi 71 (.bin .add) 70 1 (xob 72 (.slc 3 true false) 69 71 (xob 73 (.app 3 24) 63 72 (xoa 74 .nilchk 52 (xad 75 32 74 (xob 76 (.idxA 4 1) 75 53 (.op none (.st .heap) [(.t 76),(.t 73)] .nil))))))))))))))))))))))))))) q182_p8)
def q182_p6:IC:=(.cut [0,4,7,8,11,12] [0,1,2] [] (.reg 8 false (xmv 43 0 (xmv 44 8 (xoa 45 .nilchk 43 (xad 46 32 45 (xob 47 (.idxA 4 1) 46 44 (xoa 48 (.ld .heap .any) 47 (xmv 49 11 (xob 50 (.idxS 3) 48 49 (xoa 51 (.ldN .heap 3) 50 (.al 12 2 ([Cell.int .i64 0,Cell.int .i64 0,Cell.int .i64 0]) (.op none (.stAll (.slot 2) 3) [(.t 12),(.t 51)] .nil)))))))))))) q182_p7)
def q182_p5:IC:=(.seq (.reg 6 false (xmv 38 10 .nil)) (.cond (.t 38) (.cut [0,4,7,8,11] [0,1] [] (.reg 7 false (xmv 39 0 (xmv 40 8 (xmv 41 9 (.op (some 42) (.call 198 [(.i .i64)]) [(.t 39),(.t 40),(.t 41)] (xmv 11 42 .nil)))))) q182_p6) .skip))
def q182_p17:IC:=(.cond (.t 177) (.reg 22 true (xmv 178 0 (xmv 179 1 (xoa 180 .nilchk 178 (xad 181 32 180 (xob 182 (.idxA 4 1) 181 179 (xoa 183 (.ld .heap .any) 182 (xmv 184 16 (xob 185 (.idxS 3) 183 184 (xad 186 1 185 (xoa 187 (.ld .heap (.i .i64)) 186 (xmv 188 0 (xmv 189 1 (xoa 190 .nilchk 188 (xad 191 32 190 (xob 192 (.idxA 4 1) 191 189 (xoa 193 (.ld .heap .any) 192 (xmv 194 16 (xob 195 (.idxS 3) 193 194 (xad 196 2 195 (xoa 197 (.ld .heap (.i .i64)) 196 (xmv 15 187 (xad 198 6 7 (.op none (.st (.slot 1)) [(.t 198),(.t 197)] .nil)))))))))))))))))))))))) .skip)
def q182_p16:IC:=(.reg 20 false (xmv 163 16 (xoi 164 (.bin .add) 163 1 (xmv 16 164 .nil))))
def q182_p15:IC:=(.seq (.blk 1 (.cut [0,1,4,6,7,13,15,16,177] [0,1,3] [] (.reg 21 true (xmv 165 0 (xmv 166 1 (xoa 167 .nilchk 165 (xad 168 32 167 (xob 169 (.idxA 4 1) 168 166 (xoa 170 (.ld .heap .any) 169 (xmv 171 16 (xob 172 (.idxS 3) 170 171 (xad 173 0 172 (xoa 174 (.ld .heap (.i .i64)) 173 (xad 175 2 13 (xoa 176 (.ld (.slot 3) (.i .i64)) 175 (xob 177 (.bin .eql) 174 176 .nil)))))))))))))) q182_p17)) q182_p16)
def q182_b1:IC:=(.cut [0,1,4,6,7,13,15,16] [0,1,3] [(1,[0,1,4,6,7,13,15],[0,1,3])] (.seq (.reg 19 false (xmv 154 16 (xmv 155 0 (xmv 156 1 (xoa 157 .nilchk 155 (xad 158 32 157 (xob 159 (.idxA 4 1) 158 156 (xoa 160 (.ld .heap .any) 159 (xoa 161 .len 160 (xob 162 (.bin .lss) 154 161 .nil)))))))))) (.cond (.t 162) .skip (.exit 0))) q182_p15)
def q182_p14:IC:=(.seq (.reg 18 false (xmk 16 0 .nil)) (.blk 0 (.loop [0,1,4,6,7,13,15,16] [0,1,3] [(1,[0,1,4,6,7,13,15],[0,1,3])] q182_b1)))
def q182_p13:IC:=(.cond (.t 138) (.cut [0,1,4,6,7,13,15] [0,1,3] [] (.reg 17 true (xmv 139 0 (xad 140 2 13 (xoa 141 (.ld (.slot 3) (.i .i64)) 140 (xoa 142 .nilchk 139 (xad 143 4 142 (xob 144 (.idxA 4 1) 143 141 (xoa 145 (.ld .heap (.i .i64)) 144 (xmv 146 0 (xad 147 2 13 (xoa 148 (.ld (.slot 3) (.i .i64)) 147 (xoa 149 .nilchk 146 (xad 150 8 149 (xob 151 (.idxA 4 1) 150 148 (xoa 152 (.ld .heap (.i .i64)) 151 (xmv 15 145 (xad 153 6 7 (.op none (.st (.slot 1)) [(.t 153),(.t 152)] .nil)))))))))))))))))) q182_p14) .skip)
def q182_p22:IC:=(.cond (.t 251) (.reg 28 true (xmv 255 0 (xmv 256 1 (.op (some 257) (.bslice 3 0 (([]:List Cell)) []) [] (xmv 258 0 (xmv 259 1 (xoa 260 .nilchk 258 (xad 261 32 260 (xob 262 (.idxA 4 1) 261 259 (xoa 263 (.ld0 .any) 262 (xob 264 (.app 3 24) 257 263 (xad 265 3 17 (xoa 266 (.ld (.slot 4) (.i .i64)) 265 (xad 267 5 17 (xoa 268 (.ld (.slot 4) (.i .i64)) 267 (xmv 269 6 (.op (some 270) (.build ([Cell.int .i64 0,Cell.int .i64 0,Cell.int .i64 0]) [(0,1),(1,1),(2,1)]) [(.t 266),(.t 268),(.t 269)] (xoa 271 (.lit 3 1 ([Cell.int .i64 0,Cell.int .i64 0,Cell.int .i64 0]) [(0,3)]) 270 (xob 272 (.app 3 24) 264 271 (xoa 273 .nilchk 255 (xad 274 32 273 (xob 275 (.idxA 4 1) 274 256 (.op none (.st .heap) [(.t 275),(.t 272)] .nil))))))))))))))))))))))) .skip)
def q182_p21:IC:=(.cond (.t 220) (.reg 26 true (xmv 236 0 (xad 237 3 17 (xoa 238 (.ld (.slot 4) (.i .i64)) 237 (xmv 239 0 (xad 240 3 17 (xoa 241 (.ld (.slot 4) (.i .i64)) 240 (xad 242 5 17 (xoa 243 (.ld (.slot 4) (.i .i64)) 242 (xmv 244 6 (xoa 245 .nilchk 236 (xad 246 4 245 (xob 247 (.idxA 4 1) 246 238 (.op none (.st .heap) [(.t 247),(.t 243)] (xoa 248 .nilchk 239 (xad 249 8 248 (xob 250 (.idxA 4 1) 249 241 (.op none (.st .heap) [(.t 250),(.t 244)] .nil)))))))))))))))))) (.cut [0,1,4,6,7,15,17,251] [0,1,4] [] (.reg 27 false (xad 252 2 17 (xoa 253 (.ld (.slot 4) (.i .i64)) 252 (xoi 254 (.bin .eql) 253 2 (xmv 251 254 .nil))))) q182_p22))
def q182_p23:IC:=(.seq (.reg 30 true (xmv 294 0 (xmv 295 0 (xoa 296 .nilchk 295 (xad 297 36 296 (xoa 298 (.ld .heap .any) 297 (xoa 299 (.ldAll (.slot 1) 7) 7 (.op (some 300) (.lit 7 1 (List.replicate 7 (Cell.int .i64 0)) [(0,7)]) [(.t 299)] (xob 301 (.app 7 56) 298 300 (xoa 302 .nilchk 294 (xad 303 36 302 (.op none (.st .heap) [(.t 303),(.t 301)] .nil)))))))))))) (.seq (.reg 31 false (xoa 304 (.ldAll (.slot 1) 7) 7 (.op none (.stAll (.slot 0) 7) [(.t 4),(.t 304)] (.op (some 5) .mov [(.k (.c (.bool true)))] .nil)))) .ret))
def q182_p20:IC:=(.cut [0,4,7] [0,1] [] (.reg 29 true (xmv 276 0 (xmv 277 1 (xmv 278 0 (xoa 279 .nilchk 278 (xad 280 0 279 (xoa 281 (.ldN .heap 3) 280 (xmv 282 1 (xmv 283 0 (xmv 284 1 (xoa 285 .nilchk 283 (xad 286 12 285 (xob 287 (.idxA 4 5) 286 284 (xoa 288 (.ldN .heap 5) 287 (xmv 289 15 (.op (some 290) (.qcall 107 [.agg]) [(.t 281),(.t 282),(.t 288),(.t 289)] (xoa 291 .nilchk 276 (xad 292 12 291 (xob 293 (.idxA 4 5) 292 277 (.op none (.stN .heap 5) [(.t 293),(.t 290)] .nil)))))))))))))))))))) q182_p23)
def q182_p19:IC:=(.cut [0,1,4,7,15] [0,1] [] (.blk 2 (.cut [0,1,4,6,7,15,17,220] [0,1,4] [] (.reg 25 false (xad 221 2 17 (xoa 222 (.ld (.slot 4) (.i .i64)) 221 (xoi 223 (.bin .eql) 222 4 (xmv 224 223 (.sc 224 false (xad 225 2 17 (xoa 226 (.ld (.slot 4) (.i .i64)) 225 (xoi 227 (.bin .eql) 226 2 (xmv 228 227 (.sc 228 true (xmv 229 0 (xoa 230 .nilchk 229 (xad 231 3 230 (xoa 232 (.ld .heap (.i .i64)) 231 (xoi 233 (.bin .eql) 232 1 .nil))))) 233 234 false .nil))))) 234 235 true (xmv 220 235 .nil))))))) q182_p21)) q182_p20)
def q182_p18:IC:=(.cut [0,1,4,6,7,15,17] [0,1,4] [] (.reg 24 true (xad 208 2 17 (xoa 209 (.ld (.slot 4) (.i .i64)) 208 (xad 210 3 17 (xoa 211 (.ld (.slot 4) (.i .i64)) 210 (xad 212 4 17 (xoa 213 (.ld (.slot 4) (.i .i64)) 212 (xad 214 5 17 (xoa 215 (.ld (.slot 4) (.i .i64)) 214 (xad 216 2 7 (.op none (.st (.slot 1)) [(.t 216),(.t 209)] (xad 217 3 7 (.op none (.st (.slot 1)) [(.t 217),(.t 211)] (xad 218 4 7 (.op none (.st (.slot 1)) [(.t 218),(.t 213)] (xad 219 5 7 (.op none (.st (.slot 1)) [(.t 219),(.t 215)] .nil))))))))))))))))) q182_p19)
def q182_p12:IC:=(.cut [0,1,4,6,7,15,17] [0,1,4] [] (.reg 23 true (xoa 199 (.ldAll (.slot 3) 9) 13 (xmv 200 0 (xmv 201 1 (xoa 202 .nilchk 200 (xad 203 12 202 (xob 204 (.idxA 4 5) 203 201 (xoa 205 (.ldN .heap 5) 204 (xmv 206 15 (.op (some 207) (.qcall 111 [.agg]) [(.t 199),(.t 205),(.t 206)] (.al 17 4 ([Cell.int .i64 0,Cell.int .i64 0,Cell.int .i64 0,Cell.int .i64 0,Cell.int .i64 0,Cell.int .i64 0]) (.op none (.stAll (.slot 4) 6) [(.t 17),(.t 207)] .nil)))))))))))) q182_p18)
def q182_p11:IC:=(.seq (.reg 15 false (xmk 15 0 .nil)) (.cut [0,1,4,6,7,13,15] [0,1,3] [] (.cut [0,1,4,6,7,13,15,138] [0,1,3] [] (.reg 16 false (xad 131 0 13 (xoa 132 (.ld (.slot 3) (.i .i64)) 131 (xoi 133 (.bin .eql) 132 2 (xmv 134 133 (.sc 134 false (xad 135 0 13 (xoa 136 (.ld (.slot 3) (.i .i64)) 135 (xoi 137 (.bin .eql) 136 4 .nil))) 137 138 true .nil)))))) q182_p13) q182_p12))
def q182_p4:IC:=(.cut [0,1,4,6,7,13] [0,1,3] [] (.reg 14 true (xmv 117 0 (xoa 118 .nilchk 117 (xad 119 0 118 (xoa 120 (.ldN .heap 3) 119 (xmv 121 1 (xmv 122 0 (xmv 123 1 (xoa 124 .nilchk 122 (xad 125 12 124 (xob 126 (.idxA 4 5) 125 123 (xoa 127 (.ldN .heap 5) 126 (.op (some 128) (.qcall 81 [.agg,.b]) [(.t 120),(.t 121),(.t 127)] (xmv 116 128 (xoa 129 (.ext 0) 116 (xoa 130 (.ext 1) 116 (.al 13 3 (List.replicate 9 (Cell.int .i64 0)) (.op none (.stAll (.slot 3) 9) [(.t 13),(.t 129)] (xmv 14 130 .nil))))))))))))))))))) q182_p11)
def q182_p3:IC:=(.cut [0,1,4,6,7] [0,1] [(0,[4,5],[0])] (.cut [0,1,4,6,7,8,9,10] [0,1] [] (.reg 5 false (xmv 32 0 (xmv 33 1 (xob 34 (.call 197 [(.i .i64),(.i .i64),.b]) 32 33 (xmv 31 34 (xoa 35 (.ext 0) 31 (xoa 36 (.ext 1) 31 (xoa 37 (.ext 2) 31 (xmv 8 35 (xmv 9 36 (xmv 10 37 .nil))))))))))) q182_p5) q182_p4)
def q182_p2:IC:=(.cut [0,1,4,6,7] [0,1] [] (.reg 4 false (xmv 28 1 (xmv 29 1 (.op (some 30) (.build (List.replicate 7 (Cell.int .i64 0)) [(0,1),(1,1),(6,1)]) [(.t 28),(.t 29),(.k (.c (.int .i64 (-1))))] (.al 7 1 (List.replicate 7 (Cell.int .i64 0)) (.op none (.stAll (.slot 1) 7) [(.t 7),(.t 30)] .nil)))))) q182_p3)
def q182_p1:IC:=(.cut [0,1,4,6] [0] [] (.reg 3 false (xmv 23 0 (xoa 24 .nilchk 23 (xad 25 36 24 (xoa 26 (.ld .heap .any) 25 (xoa 27 .len 26 (xmv 6 27 .nil))))))) q182_p2)
def q182:Fn:={ np:=2,nt:=305,ns:=5,res:=[.all (.slot 0) 4 7,.t 5 .b],gc:=false,code:=(.seq (.reg 0 false (.al 4 0 (List.replicate 7 (Cell.int .i64 0)) (.op (some 5) .mov [(.k (.c (.bool false)))] .nil))) (.cut [0,1,4] [0] [(0,[4,5],[0])] (.seq (.reg 1 false (xmv 18 0 (xmv 19 1 (xob 20 (.call 196 [.b]) 18 19 (xoa 21 (.un .not) 20 .nil))))) (.cond (.t 21) (.seq (.reg 2 false (.op (some 22) (.build (List.replicate 7 (Cell.int .i64 0)) []) [] (.op none (.stAll (.slot 0) 7) [(.t 4),(.t 22)] (.op (some 5) .mov [(.k (.c (.bool false)))] .nil)))) .ret) .skip)) q182_p1)) }
def q186_b1:IC:=(.seq (.seq (.reg 3 false (xmv 15 9 (xmv 16 2 (xoa 17 .len 16 (xob 18 (.bin .lss) 15 17 .nil))))) (.cond (.t 18) .skip (.exit 0))) (.seq (.blk 1 (.seq (.reg 5 false (xmv 22 8 (xmv 23 2 (xmv 24 9 (xob 25 (.idxS 1) 23 24 (xoa 26 (.ld .heap (.i .i64)) 25 (xob 27 (.call 182 [.agg,.b]) 22 26 (xmv 21 27 (xoa 28 (.ext 0) 21 (xoa 29 (.ext 1) 21 (.al 10 1 (List.replicate 7 (Cell.int .i64 0)) (.op none (.stAll (.slot 1) 7) [(.t 10),(.t 28)] (xmv 11 29 .nil))))))))))))) (.seq (.reg 6 false (xmv 30 11 (xoa 31 (.un .not) 30 .nil))) (.cond (.t 31) (.seq (.reg 7 false (xmv 32 8 (xmv 33 9 (xmv 6 32 (xmv 7 33 .nil))))) .ret) .skip)))) (.reg 4 false (xmv 19 9 (xoi 20 (.bin .add) 19 1 (xmv 9 20 .nil))))))
def q186_p1:IC:=(.seq (.reg 8 false (xmv 34 8 (xmv 35 2 (xoa 36 .len 35 (xmv 6 34 (xmv 7 36 .nil)))))) .ret)
def q186:Fn:={ np:=3,nt:=37,ns:=2,res:=[.t 6 .any,.t 7 (.i .i64)],gc:=false,code:=(.seq (.reg 0 false (.box 3 0 (.t 0) (.op (some 6) .mov [(.k (.c .nilp))] (xmk 7 0 .nil)))) (.seq (.reg 1 false (xoa 12 (.ldAll (.slot 0) 3) 3 (xmv 13 1 (xob 14 (.call 180 [.any]) 12 13 (xmv 8 14 .nil))))) (.seq (.seq (.reg 2 false (xmk 9 0 .nil)) (.blk 0 (.loop [2,8,9] [] [(0,[6,7],[]),(1,[2,8],[])] q186_b1))) q186_p1))) }
def q196:Fn:={ np:=2,nt:=67,ns:=1,res:=[.t 4 .b],gc:=false,code:=(.seq (.reg 0 false (.op (some 4) .mov [(.k (.c (.bool false)))] .nil)) (.seq (.seq (.reg 1 false (xmv 10 1 (xoi 11 (.bin .geq) 10 0 (xmv 12 11 (.sc 12 true (xmv 13 1 (xoi 14 (.bin .lss) 13 4 .nil)) 14 15 false .nil))))) (.cond (.t 15) (.seq (.reg 2 true (xmv 17 0 (xoa 18 .nilchk 17 (xad 19 0 18 (xoa 20 (.ldN .heap 3) 19 (xmv 21 1 (xmv 22 0 (xmv 23 1 (xoa 24 .nilchk 22 (xad 25 12 24 (xob 26 (.idxA 4 5) 25 23 (xoa 27 (.ldN .heap 5) 26 (.op (some 28) (.qcall 81 [.agg,.b]) [(.t 20),(.t 21),(.t 27)] (xmv 16 28 (xoa 29 (.ext 0) 16 (xoa 30 (.ext 1) 16 (.al 5 0 (List.replicate 9 (Cell.int .i64 0)) (.op none (.stAll (.slot 0) 9) [(.t 5),(.t 29)] (xmv 6 30 .nil))))))))))))))))))) (.seq (.reg 3 false (xmv 31 6 (xmv 32 31 (.sc 32 true (xad 33 0 5 (xoa 34 (.ld (.slot 0) (.i .i64)) 33 (xoi 35 (.bin .neq) 34 3 (xmv 36 35 (.sc 36 true (xad 37 0 5 (xoa 38 (.ld (.slot 0) (.i .i64)) 37 (xoi 39 (.bin .neq) 38 4 .nil))) 39 40 false (xmv 41 40 (.sc 41 false (xmv 42 0 (xmv 43 1 (xoa 44 .nilchk 42 (xad 45 32 44 (xob 46 (.idxA 4 1) 45 43 (xoa 47 (.ld .heap .any) 46 (xoa 48 .len 47 (xoi 49 (.bin .eql) 48 0 .nil)))))))) 49 50 true .nil))))))) 50 51 false (xmv 4 51 .nil))))) .ret)) .skip)) (.seq (.reg 4 false (xmv 53 0 (xmv 54 1 (xob 55 (.call 197 [(.i .i64),(.i .i64),.b]) 53 54 (xmv 52 55 (xoa 56 (.ext 0) 52 (xoa 57 (.ext 1) 52 (xoa 58 (.ext 2) 52 (xmv 7 56 (xmv 8 57 (xmv 9 58 .nil))))))))))) (.seq (.reg 5 false (xmv 59 9 (xmv 60 59 (.sc 60 true (xmv 61 0 (xmv 62 7 (xmv 63 8 (.op (some 64) (.call 198 [(.i .i64)]) [(.t 61),(.t 62),(.t 63)] (xoi 65 (.bin .geq) 64 0 .nil))))) 65 66 false (xmv 4 66 .nil))))) .ret)))) }
def q197:Fn:={ np:=2,nt:=43,ns:=0,res:=[.t 4 (.i .i64),.t 5 (.i .i64),.t 6 .b],gc:=false,code:=(.seq (.reg 0 false (xmk 4 0 (xmk 5 0 (.op (some 6) .mov [(.k (.c (.bool false)))] .nil)))) (.seq (.blk 0 (.seq (.reg 1 false (xmv 8 0 (xoa 9 .nilchk 8 (xad 10 3 9 (xoa 11 (.ld .heap (.i .i64)) 10 (xoi 12 (.bin .eql) 11 2 (xmv 13 12 (.sc 13 true (xmv 14 1 (xoi 15 (.bin .geq) 14 4 .nil)) 15 16 false (xmv 17 16 (.sc 17 true (xmv 18 1 (xoi 19 (.bin .lss) 18 8 .nil)) 19 20 false (xmv 7 20 .nil))))))))))) (.cond (.t 7) (.seq (.reg 2 false (xmv 21 1 (xoi 22 (.bin .sub) 21 4 (xmv 4 22 (xmk 5 (-1) (.op (some 6) .mov [(.k (.c (.bool true)))] .nil)))))) .ret) (.seq (.reg 3 false (xmv 24 0 (xoa 25 .nilchk 24 (xad 26 3 25 (xoa 27 (.ld .heap (.i .i64)) 26 (xoi 28 (.bin .eql) 27 3 (xmv 29 28 (.sc 29 true (xmv 30 1 (xoi 31 (.bin .geq) 30 8 .nil)) 31 32 false (xmv 33 32 (.sc 33 true (xmv 34 1 (xoi 35 (.bin .lss) 34 24 .nil)) 35 36 false (xmv 23 36 .nil))))))))))) (.cond (.t 23) (.seq (.reg 4 false (xmv 37 1 (xoi 38 (.bin .sub) 37 8 (xoi 39 (.bin .quo) 38 4 (xmv 40 1 (xoi 41 (.bin .sub) 40 8 (xoi 42 (.bin .rem) 41 4 (xmv 4 39 (xmv 5 42 (.op (some 6) .mov [(.k (.c (.bool true)))] .nil)))))))))) .ret) .skip))))) (.seq (.reg 5 false (xmk 4 0 (xmk 5 0 (.op (some 6) .mov [(.k (.c (.bool false)))] .nil)))) .ret))) }
def q198_b1:IC:=(.seq (.seq (.reg 2 false (xmv 8 7 (xmv 9 0 (xmv 10 1 (xoa 11 .nilchk 9 (xad 12 32 11 (xob 13 (.idxA 4 1) 12 10 (xoa 14 (.ld .heap .any) 13 (xoa 15 .len 14 (xob 16 (.bin .lss) 8 15 .nil)))))))))) (.cond (.t 16) .skip (.exit 0))) (.seq (.blk 1 (.seq (.reg 4 false (xmv 19 2 (xoi 20 (.bin .lss) 19 0 (xmv 21 20 (.sc 21 false (xmv 22 0 (xmv 23 1 (xoa 24 .nilchk 22 (xad 25 32 24 (xob 26 (.idxA 4 1) 25 23 (xoa 27 (.ld .heap .any) 26 (xmv 28 7 (xob 29 (.idxS 3) 27 28 (xad 30 0 29 (xoa 31 (.ld .heap (.i .i64)) 30 (xmv 32 2 (xob 33 (.bin .eql) 31 32 .nil)))))))))))) 33 34 true .nil))))) (.cond (.t 34) (.seq (.reg 5 false (xmv 35 7 (xmv 6 35 .nil))) .ret) .skip))) (.reg 3 false (xmv 17 7 (xoi 18 (.bin .add) 17 1 (xmv 7 18 .nil))))))
def q198_p1:IC:=(.seq (.reg 6 false (xmk 6 (-1) .nil)) .ret)
def q198:Fn:={ np:=3,nt:=36,ns:=0,res:=[.t 6 (.i .i64)],gc:=false,code:=(.seq (.reg 0 false (xmk 6 0 .nil)) (.seq (.seq (.reg 1 false (xmk 7 0 .nil)) (.blk 0 (.loop [0,1,2,7] [] [(0,[6],[]),(1,[],[])] q198_b1))) q198_p1)) }
end Jq

namespace Jq
open Go
structure q180_In (E:Env):Prop where
  fn:E.fn 180=some q180
  c104:q104_In E
structure q197_In (E:Env):Prop where
  fn:E.fn 197=some q197
structure q198_In (E:Env):Prop where
  fn:E.fn 198=some q198
structure q196_In (E:Env):Prop where
  fn:E.fn 196=some q196
  c81:q81_In E
  c197:q197_In E
  c198:q198_In E
structure q181_In (E:Env):Prop where
  fn:E.fn 181=some q181
  c196:q196_In E
structure q182_In (E:Env):Prop where
  fn:E.fn 182=some q182
  c81:q81_In E
  c107:q107_In E
  c111:q111_In E
  c196:q196_In E
  c197:q197_In E
  c198:q198_In E
structure q186_In (E:Env):Prop where
  fn:E.fn 186=some q186
  c180:q180_In E
  c182:q182_In E
end Jq

namespace Jq
open Go
def q271:Fn:={ np:=3,nt:=24,ns:=1,res:=[.t 6 .any,.t 7 (.i .i64),.t 8 .b],gc:=false,code:=(.seq (.reg 0 false (.box 3 0 (.t 0) (.op (some 6) .mov [(.k (.c .nils))] (xmk 7 0 (.op (some 8) .mov [(.k (.c (.bool false)))] .nil))))) (.seq (.reg 1 false (xoa 11 (.ldAll (.slot 0) 3) 3 (xmv 12 1 (xmv 13 2 (.op (some 14) (.call 278 [.any,(.i .i64)]) [(.t 11),(.t 12),(.t 13)] (xmv 10 14 (xoa 15 (.ext 0) 10 (xoa 16 (.ext 1) 10 (xmv 9 15 (xmv 7 16 .nil)))))))))) (.seq (.seq (.reg 2 false (xmv 17 9 (.op (some 18) (.eqNil false) [(.t 17),(.k (.c .nilp))] .nil))) (.cond (.t 18) (.seq (.reg 3 false (.op (some 6) .mov [(.k (.c .nils))] (xmk 7 0 (.op (some 8) .mov [(.k (.c (.bool false)))] .nil)))) .ret) .skip)) (.seq (.reg 4 false (xmv 19 9 (xoa 20 (.call 175 [.any]) 19 (xmv 21 7 (xmv 22 9 (xoa 23 (.call 174 [.b]) 22 (xmv 6 20 (xmv 7 21 (xmv 8 23 .nil))))))))) .ret)))) }
def q278_b1:IC:=(.seq (.reg 5 false (xob 25 (.bin .lss) 24 23 .nil)) (.seq (.cond (.t 25) .skip (.exit 0)) (.seq (.blk 1 (.seq (.reg 6 false (xmv 26 24 (xob 27 (.idxS 1) 22 24 (xoa 28 (.ld .heap (.i .i64)) 27 (xmv 10 26 (xmv 11 28 .nil)))))) (.seq (.reg 7 false (xmv 30 8 (xmv 31 11 (xob 32 (.call 173 [.agg,.b]) 30 31 (xmv 29 32 (xoa 33 (.ext 0) 29 (xoa 34 (.ext 1) 29 (.al 12 1 (List.replicate 7 (Cell.int .i64 0)) (.op none (.stAll (.slot 1) 7) [(.t 12),(.t 33)] (xmv 13 34 .nil)))))))))) (.seq (.reg 8 false (xmv 35 13 (xoa 36 (.un .not) 35 .nil))) (.cond (.t 36) (.seq (.reg 9 false (xmv 37 8 (xmv 38 10 (xmv 6 37 (xmv 7 38 .nil))))) .ret) .skip))))) (.reg 10 false (xoi 39 (.bin .add) 24 1 (xmv 24 39 .nil))))))
def q278_p1:IC:=(.seq (.reg 11 false (xmv 40 8 (xmv 41 2 (xoa 42 .len 41 (xmv 6 40 (xmv 7 42 .nil)))))) .ret)
def q278:Fn:={ np:=3,nt:=43,ns:=2,res:=[.t 6 .any,.t 7 (.i .i64)],gc:=false,code:=(.seq (.reg 0 false (.box 3 0 (.t 0) (.op (some 6) .mov [(.k (.c .nilp))] (xmk 7 0 .nil)))) (.seq (.reg 1 false (xoa 15 (.ldAll (.slot 0) 3) 3 (xmv 16 1 (xob 17 (.call 171 [.any,(.i .i64)]) 15 16 (xmv 14 17 (xoa 18 (.ext 0) 14 (xoa 19 (.ext 1) 14 (xmv 8 18 (xmv 9 19 .nil))))))))) (.seq (.seq (.reg 2 false (xmv 20 9 (xoi 21 (.bin .neq) 20 0 .nil))) (.cond (.t 21) (.seq (.reg 3 false (.op (some 6) .mov [(.k (.c .nilp))] (xmk 7 0 .nil))) .ret) .skip)) (.seq (.seq (.reg 4 false (xmv 22 2 (xoa 23 .len 22 (xmk 24 0 .nil)))) (.blk 0 (.loop [2,8,22,23,24] [] [(0,[6,7],[]),(1,[2,8],[])] q278_b1))) q278_p1)))) }
end Jq

namespace Jq
open Go
end Jq

namespace Jq
open Go
end Jq

namespace Jq
open Go
end Jq

namespace Jq
open Go
end Jq

namespace Jq
open Go
def q171_b1:IC:=(.seq (.reg 5 false (xoi 25 (.bin .lss) 24 4 .nil)) (.seq (.cond (.t 25) .skip (.exit 0)) (.seq (.blk 1 (.seq (.reg 6 false (xmv 26 24 (xmv 7 26 .nil))) (.seq (.reg 7 true (xmv 27 6 (xmv 28 7 (xmv 29 6 (xoa 30 .nilchk 29 (xad 31 0 30 (xoa 32 (.ldN .heap 3) 31 (xmv 33 7 (xob 34 (.qcall 94 [.agg]) 32 33 (xoa 35 .nilchk 27 (xad 36 4 35 (xob 37 (.idxA 4 5) 36 28 (.op none (.stN .heap 5) [(.t 37),(.t 34)] .nil))))))))))))) (.seq (.reg 8 true (xmv 38 6 (xmv 39 7 (xmv 40 1 (xoa 41 (.qcall 190 [.agg]) 40 (xoa 42 .nilchk 38 (xad 43 32 42 (xob 44 (.idxA 4 74) 43 39 (.op none (.stN .heap 74) [(.t 44),(.t 41)] .nil))))))))) (.reg 9 false (xmv 45 6 (xmv 46 7 (xoa 47 .nilchk 45 (xad 48 28 47 (xob 49 (.idxA 4 1) 48 46 (.op none (.st .heap) [(.t 49),(.k (.c (.int .i64 (-1))))] .nil))))))))))) (.reg 10 false (xoi 50 (.bin .add) 24 1 (xmv 24 50 .nil))))))
def q171_p1:IC:=(.seq (.reg 11 true (xmv 51 6 (xoa 52 .nilchk 51 (xad 53 24 52 (xoa 54 (.slcA 4 1 false false) 53 (xad 55 1 2 (xoa 56 (.ld (.slot 0) .any) 55 (xob 57 (.copy 1) 54 56 .nil)))))))) (.seq (.reg 12 false (xmv 58 6 (xmv 4 58 (xmk 5 0 .nil)))) .ret))
def q171:Fn:={ np:=2,nt:=59,ns:=1,res:=[.t 4 .any,.t 5 (.i .i64)],gc:=false,code:=(.seq (.reg 0 false (.box 2 0 (.t 0) (.op (some 4) .mov [(.k (.c .nilp))] (xmk 5 0 .nil)))) (.seq (.seq (.reg 1 false (xmv 8 1 (xoi 9 (.bin .lss) 8 1 (xmv 10 9 (.sc 10 false (xmv 11 1 (xoi 12 (.bin .gtr) 11 3 .nil)) 12 13 true (xmv 14 13 (.sc 14 false (xoa 15 (.ldAll (.slot 0) 3) 2 (xoa 16 (.call 188 [.b]) 15 (xoa 17 (.un .not) 16 .nil))) 17 18 true .nil))))))) (.cond (.t 18) (.seq (.reg 2 false (.op (some 4) .mov [(.k (.c .nilp))] (xmk 5 1 .nil))) .ret) .skip)) (.seq (.reg 3 false (xoa 19 (.ldAll (.slot 0) 3) 2 (xoa 20 (.call 189 [.agg]) 19 (xmv 21 1 (.op (some 22) (.build ([Cell.nils,Cell.nils,Cell.nils]++List.replicate 325 (Cell.int .i64 0)++[Cell.nils]) [(0,3),(3,1)]) [(.t 20),(.t 21)] (xoa 23 .boxH 22 (xmv 6 23 .nil))))))) (.seq (.seq (.reg 4 false (xmk 24 0 .nil)) (.blk 0 (.loop [1,2,6,24] [0] [(1,[2,6],[0])] q171_b1))) q171_p1)))) }
def q172_b1:IC:=(.seq (.reg 12 false (xoi 76 (.bin .lss) 75 4 .nil)) (.seq (.cond (.t 76) .skip (.exit 2)) (.seq (.blk 3 (.seq (.reg 13 false (xmv 77 75 (xmv 8 77 .nil))) (.seq (.reg 14 false (xmv 79 0 (xmv 80 4 (xoa 81 .nilchk 79 (xad 82 32 81 (xob 83 (.idxA 4 74) 82 80 (xoa 84 (.ldN .heap 74) 83 (xmv 85 8 (xob 86 (.call 192 [(.i .i64),(.i .i64),(.i .i64),.b]) 84 85 (xmv 78 86 (xoa 87 (.ext 0) 78 (xoa 88 (.ext 1) 78 (xoa 89 (.ext 2) 78 (xoa 90 (.ext 3) 78 (xmv 9 87 (xmv 10 88 (xmv 11 89 (xmv 12 90 .nil)))))))))))))))))) (.seq (.reg 15 false (xmv 91 0 (xoa 92 .nilchk 91 (xad 93 3 92 (xoa 94 (.ld .heap (.i .i64)) 93 (xoi 95 (.bin .eql) 94 3 (xmv 96 95 (.sc 96 true (xmv 97 12 .nil) 97 98 false .nil)))))))) (.cond (.t 98) (.reg 16 false (xmv 99 3 (xmv 100 4 (.op (some 101) (.bin .mul) [(.k (.c (.int .i64 4))),(.t 100)] (.op (some 102) (.bin .add) [(.k (.c (.int .i64 8))),(.t 101)] (xmv 103 8 (xob 104 (.bin .add) 102 103 (xob 105 (.call 18 [(.i .u64)]) 99 104 (xmv 3 105 .nil))))))))) .skip))))) (.reg 17 false (xoi 106 (.bin .add) 75 1 (xmv 75 106 .nil))))))
def q172_p3:IC:=(.seq (.seq (.reg 9 false (xmv 56 0 (xoa 57 .nilchk 56 (xad 58 3 57 (xoa 59 (.ld .heap (.i .i64)) 58 (xoi 60 (.bin .eql) 59 2 (xmv 61 60 (.sc 61 true (xmv 62 0 (xmv 63 4 (xoa 64 .nilchk 62 (xad 65 32 64 (xob 66 (.idxA 4 74) 65 63 (xoa 67 (.ldN .heap 74) 66 (xoa 68 (.call 191 [.b]) 67 (xoa 69 (.un .not) 68 .nil)))))))) 69 70 false .nil)))))))) (.cond (.t 70) (.reg 10 false (xmv 71 3 (xmv 72 4 (.op (some 73) (.bin .add) [(.k (.c (.int .i64 4))),(.t 72)] (xob 74 (.call 18 [(.i .u64)]) 71 73 (xmv 3 74 .nil)))))) .skip)) (.seq (.reg 11 false (xmk 75 0 .nil)) (.blk 2 (.loop [0,3,4,13,75] [] [(3,[0,3,13],[])] q172_b1))))
def q172_p2:IC:=(.reg 18 false (xoi 107 (.bin .add) 13 1 (xmv 13 107 .nil)))
def q172_b2:IC:=(.seq (.reg 3 false (xoi 14 (.bin .lss) 13 4 .nil)) (.seq (.cond (.t 14) .skip (.exit 0)) (.seq (.blk 1 (.seq (.reg 4 false (xmv 15 13 (xmv 4 15 .nil))) (.seq (.reg 5 true (xmv 17 0 (xoa 18 .nilchk 17 (xad 19 0 18 (xoa 20 (.ldN .heap 3) 19 (xmv 21 4 (xmv 22 0 (xmv 23 4 (xoa 24 .nilchk 22 (xad 25 4 24 (xob 26 (.idxA 4 5) 25 23 (xoa 27 (.ldN .heap 5) 26 (.op (some 28) (.qcall 105 [.agg,.b]) [(.t 20),(.t 21),(.t 27)] (xmv 16 28 (xoa 29 (.ext 0) 16 (xoa 30 (.ext 1) 16 (.al 5 0 (List.replicate 9 (Cell.int .i64 0)) (.op none (.stAll (.slot 0) 9) [(.t 5),(.t 29)] (xmv 6 30 .nil))))))))))))))))))) (.seq (.reg 6 false (xad 31 0 5 (xoa 32 (.ld (.slot 0) (.i .i64)) 31 (xoi 33 (.bin .eql) 32 3 (xmv 34 33 (.sc 34 false (xad 35 0 5 (xoa 36 (.ld (.slot 0) (.i .i64)) 35 (xoi 37 (.bin .eql) 36 4 .nil))) 37 38 true (xmv 7 38 .nil))))))) (.cut [0,3,4,13] [] [] (.seq (.reg 7 false (xmv 39 6 (xmv 40 39 (.sc 40 true (xmv 41 7 (xoa 42 (.un .not) 41 (xmv 43 42 (.sc 43 false (xmv 44 0 (xmv 45 4 (xoa 46 .nilchk 44 (xad 47 32 46 (xob 48 (.idxA 4 74) 47 45 (xoa 49 (.ldN .heap 74) 48 (xoa 50 (.call 191 [.b]) 49 .nil))))))) 50 51 true .nil)))) 51 52 false .nil)))) (.cond (.t 52) (.reg 8 false (xmv 53 3 (xmv 54 4 (xob 55 (.call 18 [(.i .u64)]) 53 54 (xmv 3 55 .nil))))) .skip)) q172_p3))))) q172_p2)))
def q172_p1:IC:=(.seq (.reg 19 false (xmv 108 3 (xmv 2 108 .nil))) .ret)
def q172:Fn:={ np:=1,nt:=109,ns:=1,res:=[.t 2 (.i .u64)],gc:=false,code:=(.seq (.reg 0 false (.op (some 2) .mov [(.k (.c (.int .u64 0)))] .nil)) (.seq (.reg 1 false (.op (some 3) .mov [(.k (.c (.int .u64 0)))] .nil)) (.seq (.seq (.reg 2 false (xmk 13 0 .nil)) (.blk 0 (.loop [0,3,13] [] [(1,[3],[])] q172_b2))) q172_p1))) }
def q173:Fn:={ np:=2,nt:=47,ns:=2,res:=[.all (.slot 0) 4 7,.t 5 .b],gc:=false,code:=(.seq (.reg 0 false (.al 4 0 (List.replicate 7 (Cell.int .i64 0)) (.op (some 5) .mov [(.k (.c (.bool false)))] .nil))) (.seq (.seq (.reg 1 false (xmv 7 0 (xoa 8 (.call 172 [(.i .u64)]) 7 (xmv 9 1 (xob 10 (.call 17 [.b]) 8 9 (xoa 11 (.un .not) 10 .nil)))))) (.cond (.t 11) (.seq (.reg 2 false (.op (some 12) (.build (List.replicate 7 (Cell.int .i64 0)) []) [] (.op none (.stAll (.slot 0) 7) [(.t 4),(.t 12)] (.op (some 5) .mov [(.k (.c (.bool false)))] .nil)))) .ret) .skip)) (.seq (.reg 3 false (.al 6 1 (List.replicate 7 (Cell.int .i64 0)) .nil)) (.seq (.blk 0 (.seq (.reg 5 false (xmv 22 1 (xoi 23 (.bin .lss) 22 4 (xmv 21 23 .nil)))) (.cond (.t 21) (.reg 6 false (xmv 24 0 (xmv 25 1 (xob 26 (.call 193 [.agg]) 24 25 (.op none (.stAll (.slot 1) 7) [(.t 6),(.t 26)] .nil))))) (.seq (.reg 7 false (xmv 28 1 (xoi 29 (.bin .lss) 28 8 (xmv 27 29 .nil)))) (.cond (.t 27) (.reg 8 false (xmv 30 0 (xmv 31 1 (xoi 32 (.bin .sub) 31 4 (.op (some 33) (.call 194 [.agg]) [(.t 30),(.t 32),(.k (.c (.int .i64 0)))] (.op none (.stAll (.slot 1) 7) [(.t 6),(.t 33)] .nil)))))) (.reg 4 false (xmv 13 0 (xmv 14 1 (xoi 15 (.bin .sub) 14 8 (xoi 16 (.bin .quo) 15 4 (xmv 17 1 (xoi 18 (.bin .sub) 17 8 (xoi 19 (.bin .rem) 18 4 (.op (some 20) (.call 194 [.agg]) [(.t 13),(.t 16),(.t 19)] (.op none (.stAll (.slot 1) 7) [(.t 6),(.t 20)] .nil))))))))))))))) (.seq (.reg 9 false (xmv 34 1 (xad 35 0 6 (.op none (.st (.slot 1)) [(.t 35),(.t 34)] .nil)))) (.seq (.reg 10 true (xmv 36 0 (xmv 37 0 (xoa 38 .nilchk 37 (xad 39 328 38 (xoa 40 (.ld .heap .any) 39 (xoa 41 (.ldAll (.slot 1) 7) 6 (.op (some 42) (.lit 7 1 (List.replicate 7 (Cell.int .i64 0)) [(0,7)]) [(.t 41)] (xob 43 (.app 7 56) 40 42 (xoa 44 .nilchk 36 (xad 45 328 44 (.op none (.st .heap) [(.t 45),(.t 43)] .nil)))))))))))) (.seq (.reg 11 false (xoa 46 (.ldAll (.slot 1) 7) 6 (.op none (.stAll (.slot 0) 7) [(.t 4),(.t 46)] (.op (some 5) .mov [(.k (.c (.bool true)))] .nil)))) .ret))))))) }
def q174:Fn:={ np:=1,nt:=6,ns:=0,res:=[.t 2 .b],gc:=false,code:=(.seq (.reg 0 false (.op (some 2) .mov [(.k (.c (.bool false)))] .nil)) (.seq (.reg 1 false (xmv 3 0 (xoa 4 (.call 172 [(.i .u64)]) 3 (.op (some 5) (.bin .eql) [(.t 4),(.k (.c (.int .u64 0)))] (xmv 2 5 .nil))))) .ret)) }
def q175:Fn:={ np:=1,nt:=8,ns:=0,res:=[.t 2 .any],gc:=false,code:=(.seq (.reg 0 false (.op (some 2) .mov [(.k (.c .nils))] .nil)) (.seq (.reg 1 false (xmv 3 0 (xoa 4 .nilchk 3 (xad 5 328 4 (xoa 6 (.ld .heap .any) 5 (xoa 7 (.call 195 [.any]) 6 (xmv 2 7 .nil))))))) .ret)) }
def q189_b1:IC:=(.seq (.reg 3 false (xob 17 (.bin .lss) 16 15 .nil)) (.seq (.cond (.t 17) .skip (.exit 0)) (.seq (.blk 1 (.seq (.reg 4 false (xob 18 (.idxS 1) 14 16 (xoa 19 (.ld .heap .any) 18 (xmv 5 19 .nil)))) (.reg 5 true (xad 20 2 3 (xoa 21 (.ld (.slot 2) .any) 20 (xmv 22 5 (xoa 23 (.call 119 [.any]) 22 (xoa 24 (.lit 1 1 ([Cell.nils]) [(0,1)]) 23 (xob 25 (.app 1 24) 21 24 (xad 26 2 3 (.op none (.st (.slot 2)) [(.t 26),(.t 25)] .nil))))))))))) (.reg 6 false (xoi 27 (.bin .add) 16 1 (xmv 16 27 .nil))))))
def q189_p1:IC:=(.seq (.reg 7 false (xoa 28 (.ldAll (.slot 2) 3) 3 (.op none (.stAll (.slot 1) 3) [(.t 2),(.t 28)] .nil))) .ret)
def q189:Fn:={ np:=1,nt:=29,ns:=3,res:=[.all (.slot 1) 2 3],gc:=false,code:=(.seq (.reg 0 false (.box 1 0 (.t 0) (.al 2 1 ([Cell.nils,Cell.nils,Cell.nils]) .nil))) (.seq (.reg 1 true (xad 6 0 1 (xoa 7 (.ld (.slot 0) .any) 6 (xoa 8 (.call 202 [.any]) 7 (xad 9 1 1 (xoa 10 (.ld (.slot 0) .any) 9 (xoa 11 (.call 203 [.any]) 10 (xob 12 (.build ([Cell.nils,Cell.nils,Cell.nils]) [(0,1),(1,1)]) 8 11 (.al 3 2 ([Cell.nils,Cell.nils,Cell.nils]) (.op none (.stAll (.slot 2) 3) [(.t 3),(.t 12)] .nil)))))))))) (.seq (.seq (.reg 2 false (xad 13 2 1 (xoa 14 (.ld (.slot 0) .any) 13 (xoa 15 .len 14 (xmk 16 0 .nil))))) (.blk 0 (.loop [2,3,14,15,16] [1,2] [(1,[2,3],[1,2])] q189_b1))) q189_p1))) }
def q193_p2:IC:=(.seq (.reg 10 false (xmv 71 0 (xoa 72 .nilchk 71 (xad 73 328 72 (xoa 74 (.ld .heap .any) 73 (xoa 75 .len 74 (xmv 15 75 .nil))))))) (.seq (.blk 0 (.seq (.reg 11 false (xad 77 2 13 (xoa 78 (.ld (.slot 3) (.i .i64)) 77 (xoi 79 (.bin .eql) 78 2 (xmv 80 79 (.sc 80 true (xmv 81 0 (xoa 82 .nilchk 81 (xad 83 3 82 (xoa 84 (.ld .heap (.i .i64)) 83 (xoi 85 (.bin .neq) 84 1 .nil))))) 85 86 false (xmv 76 86 .nil))))))) (.cond (.t 76) (.reg 12 true (xmv 87 0 (xmv 88 1 (xmv 89 0 (xmv 90 1 (xoa 91 .nilchk 89 (xad 92 32 91 (xob 93 (.idxA 4 74) 92 90 (xoa 94 (.ldN .heap 74) 93 (xad 95 3 13 (xoa 96 (.ld (.slot 3) (.i .i64)) 95 (xad 97 5 13 (xoa 98 (.ld (.slot 3) (.i .i64)) 97 (xmv 99 15 (.op (some 100) (.qcall 206 [.agg]) [(.t 94),(.t 96),(.t 98),(.t 99)] (xoa 101 .nilchk 87 (xad 102 32 101 (xob 103 (.idxA 4 74) 102 88 (.op none (.stN .heap 74) [(.t 103),(.t 100)] .nil))))))))))))))))))) (.seq (.reg 13 false (xoa 105 (.ldAll (.slot 3) 6) 13 (xoa 106 (.call 80 [.b]) 105 (xmv 104 106 .nil)))) (.cond (.t 104) (.reg 14 true (xmv 107 0 (xad 108 3 13 (xoa 109 (.ld (.slot 3) (.i .i64)) 108 (xmv 110 0 (xad 111 3 13 (xoa 112 (.ld (.slot 3) (.i .i64)) 111 (xad 113 5 13 (xoa 114 (.ld (.slot 3) (.i .i64)) 113 (xmv 115 15 (xoa 116 .nilchk 107 (xad 117 24 116 (xob 118 (.idxA 4 1) 117 109 (.op none (.st .heap) [(.t 118),(.t 114)] (xoa 119 .nilchk 110 (xad 120 28 119 (xob 121 (.idxA 4 1) 120 112 (.op none (.st .heap) [(.t 121),(.t 115)] .nil)))))))))))))))))) .skip))))) (.seq (.reg 15 true (xmv 122 0 (xmv 123 1 (xmv 124 0 (xoa 125 .nilchk 124 (xad 126 0 125 (xoa 127 (.ldN .heap 3) 126 (xmv 128 1 (xoa 129 (.ldAll (.slot 1) 5) 5 (xmv 130 8 (.op (some 131) (.qcall 106 [.agg]) [(.t 127),(.t 128),(.t 129),(.t 130)] (xoa 132 .nilchk 122 (xad 133 4 132 (xob 134 (.idxA 4 5) 133 123 (.op none (.stN .heap 5) [(.t 134),(.t 131)] .nil))))))))))))))) (.seq (.reg 16 false (xmv 135 1 (xad 136 2 13 (xoa 137 (.ld (.slot 3) (.i .i64)) 136 (xad 138 3 13 (xoa 139 (.ld (.slot 3) (.i .i64)) 138 (xad 140 4 13 (xoa 141 (.ld (.slot 3) (.i .i64)) 140 (xad 142 5 13 (xoa 143 (.ld (.slot 3) (.i .i64)) 142 (xmv 144 9 (.op (some 145) (.build (List.replicate 7 (Cell.int .i64 0)) [(1,1),(2,1),(3,1),(4,1),(5,1),(6,1)]) [(.t 135),(.t 137),(.t 139),(.t 141),(.t 143),(.t 144)] (.op none (.stAll (.slot 0) 7) [(.t 4),(.t 145)] .nil))))))))))))) .ret))))
def q193_p1:IC:=(.seq (.reg 7 false (xoa 63 (.ldAll (.slot 2) 9) 6 (xoa 64 (.ldAll (.slot 1) 5) 5 (xmv 65 8 (.op (some 66) (.call 109 [.agg,.b]) [(.t 63),(.t 64),(.t 65)] (xmv 62 66 (xoa 67 (.ext 0) 62 (xoa 68 (.ext 1) 62 (.al 13 3 ([Cell.int .i64 0,Cell.int .i64 0,Cell.int .i64 0,Cell.int .i64 0,Cell.int .i64 0,Cell.int .i64 0]) (.op none (.stAll (.slot 3) 6) [(.t 13),(.t 67)] (xmv 14 68 .nil))))))))))) (.cut [0,1,4,5,8,9,13] [0,1,3] [] (.seq (.reg 8 false (xmv 69 14 (xoa 70 (.un .not) 69 .nil))) (.cond (.t 70) (.reg 9 false (xmk 9 (-1) .nil)) .skip)) q193_p2))
def q193:Fn:={ np:=2,nt:=146,ns:=4,res:=[.all (.slot 0) 4 7],gc:=false,code:=(.seq (.reg 0 false (.al 4 0 (List.replicate 7 (Cell.int .i64 0)) .nil)) (.seq (.reg 1 false (xmv 16 0 (xmv 17 1 (xoa 18 .nilchk 16 (xad 19 4 18 (xob 20 (.idxA 4 5) 19 17 (xoa 21 (.ldN .heap 5) 20 (.al 5 1 ([Cell.int .i64 0,Cell.int .i64 0,Cell.int .i64 0,Cell.int .i64 0,Cell.int .i64 0]) (.op none (.stAll (.slot 1) 5) [(.t 5),(.t 21)] .nil))))))))) (.seq (.reg 2 true (xmv 23 0 (xoa 24 .nilchk 23 (xad 25 0 24 (xoa 26 (.ldN .heap 3) 25 (xmv 27 1 (xoa 28 (.ldAll (.slot 1) 5) 5 (.op (some 29) (.qcall 105 [.agg,.b]) [(.t 26),(.t 27),(.t 28)] (xmv 22 29 (xoa 30 (.ext 0) 22 (xoa 31 (.ext 1) 22 (.al 6 2 (List.replicate 9 (Cell.int .i64 0)) (.op none (.stAll (.slot 2) 9) [(.t 6),(.t 30)] (xmv 7 31 .nil)))))))))))))) (.seq (.reg 3 true (xmv 32 0 (xad 33 2 6 (xoa 34 (.ld (.slot 2) (.i .i64)) 33 (xoa 35 .nilchk 32 (xad 36 24 35 (xob 37 (.idxA 4 1) 36 34 (xoa 38 (.ld .heap (.i .i64)) 37 (xmv 39 0 (xad 40 2 6 (xoa 41 (.ld (.slot 2) (.i .i64)) 40 (xoa 42 .nilchk 39 (xad 43 28 42 (xob 44 (.idxA 4 1) 43 41 (xoa 45 (.ld .heap (.i .i64)) 44 (xmv 8 38 (xmv 9 45 .nil))))))))))))))))) (.cut [0,1,4,5,6,8,9] [0,1,2] [] (.seq (.reg 4 true (xmv 47 0 (xmv 48 1 (xoa 49 .nilchk 47 (xad 50 32 49 (xob 51 (.idxA 4 74) 50 48 (xoa 52 (.ldN .heap 74) 51 (xad 53 2 6 (xoa 54 (.ld (.slot 2) (.i .i64)) 53 (xob 55 (.qcall 205 [(.i .i64),(.i .i64),.b]) 52 54 (xmv 46 55 (xoa 56 (.ext 0) 46 (xoa 57 (.ext 1) 46 (xoa 58 (.ext 2) 46 (xmv 10 56 (xmv 11 57 (xmv 12 58 .nil))))))))))))))))) (.seq (.reg 5 false (xmv 59 12 .nil)) (.cond (.t 59) (.reg 6 false (xmv 60 10 (xmv 61 11 (xmv 8 60 (xmv 9 61 .nil))))) .skip))) q193_p1))))) }
def q194:Fn:={ np:=3,nt:=54,ns:=1,res:=[.all (.slot 0) 6 7],gc:=false,code:=(.seq (.reg 0 false (.al 6 0 (List.replicate 7 (Cell.int .i64 0)) .nil)) (.seq (.reg 1 false (xmv 12 0 (xmv 13 1 (xoa 14 .nilchk 12 (xad 15 32 14 (xob 16 (.idxA 4 74) 15 13 (xoa 17 (.ldN .heap 74) 16 (xmv 18 2 (xob 19 (.call 192 [(.i .i64),(.i .i64),(.i .i64),.b]) 17 18 (xmv 11 19 (xoa 20 (.ext 0) 11 (xoa 21 (.ext 1) 11 (xoa 22 (.ext 2) 11 (xoa 23 (.ext 3) 11 (xmv 7 20 (xmv 8 21 (xmv 9 22 (xmv 10 23 .nil)))))))))))))))))) (.seq (.reg 2 true (xmv 24 0 (xmv 25 1 (xmv 26 0 (xmv 27 1 (xoa 28 .nilchk 26 (xad 29 32 28 (xob 30 (.idxA 4 74) 29 27 (xoa 31 (.ldN .heap 74) 30 (xmv 32 2 (xob 33 (.qcall 207 [.agg]) 31 32 (xoa 34 .nilchk 24 (xad 35 32 34 (xob 36 (.idxA 4 74) 35 25 (.op none (.stN .heap 74) [(.t 36),(.t 33)] .nil))))))))))))))) (.seq (.reg 3 true (xmv 37 0 (xmv 38 7 (xmv 39 0 (xmv 40 7 (xmv 41 8 (xmv 42 9 (xoa 43 .nilchk 37 (xad 44 24 43 (xob 45 (.idxA 4 1) 44 38 (.op none (.st .heap) [(.t 45),(.t 41)] (xoa 46 .nilchk 39 (xad 47 28 46 (xob 48 (.idxA 4 1) 47 40 (.op none (.st .heap) [(.t 48),(.t 42)] .nil))))))))))))))) (.seq (.reg 4 false (xmv 49 1 (xmv 50 7 (xmv 51 8 (xmv 52 9 (.op (some 53) (.build (List.replicate 7 (Cell.int .i64 0)) [(1,1),(2,1),(3,1),(5,1),(6,1)]) [(.t 49),(.k (.c (.int .i64 6))),(.t 50),(.t 51),(.t 52)] (.op none (.stAll (.slot 0) 7) [(.t 6),(.t 53)] .nil))))))) .ret))))) }
end Jq

namespace Jq
open Go
end Jq

namespace Jq
open Go
end Jq

namespace Jq
open Go
end Jq

namespace Jq
open Go
end Jq

namespace Jq
open Go
structure q189_In (E:Env):Prop where
  fn:E.fn 189=some q189
  c119:q119_In E
  c202:q202_In E
  c203:q203_In E
structure q171_In (E:Env):Prop where
  fn:E.fn 171=some q171
  c94:q94_In E
  c188:q188_In E
  c189:q189_In E
  c190:q190_In E
structure q172_In (E:Env):Prop where
  fn:E.fn 172=some q172
  c18:q18_In E
  c105:q105_In E
  c191:q191_In E
  c192:q192_In E
structure q193_In (E:Env):Prop where
  fn:E.fn 193=some q193
  c80:q80_In E
  c105:q105_In E
  c106:q106_In E
  c109:q109_In E
  c205:q205_In E
  c206:q206_In E
structure q194_In (E:Env):Prop where
  fn:E.fn 194=some q194
  c192:q192_In E
  c207:q207_In E
structure q173_In (E:Env):Prop where
  fn:E.fn 173=some q173
  c17:q17_In E
  c172:q172_In E
  c193:q193_In E
  c194:q194_In E
structure q174_In (E:Env):Prop where
  fn:E.fn 174=some q174
  c172:q172_In E
structure q175_In (E:Env):Prop where
  fn:E.fn 175=some q175
  c195:q195_In E
end Jq

namespace Jq
open Go
structure q278_In (E:Env):Prop where
  fn:E.fn 278=some q278
  c171:q171_In E
  c173:q173_In E
structure q271_In (E:Env):Prop where
  fn:E.fn 271=some q271
  c174:q174_In E
  c175:q175_In E
  c278:q278_In E
end Jq

namespace Jq
open Go
structure q254_In (E:Env):Prop where
  fn:E.fn 254=some q254
  c180:q180_In E
  c181:q181_In E
  c182:q182_In E
end Jq

namespace Jq
open Go
def q258:Fn:={ np:=0,nt:=66,ns:=2,res:=[.t 0 .b],gc:=true,code:=(.seq (.reg 0 false (.op (some 0) .mov [(.k (.c (.bool false)))] .nil)) (.seq (.reg 1 false (.op (some 8) (.build ([Cell.int .i64 0,Cell.int .i64 0]) [(0,1),(1,1)]) [(.k (.c (.int .i64 (-1)))),(.k (.c (.int .i64 1)))] (.al 1 0 ([Cell.int .i64 0,Cell.int .i64 0]) (.op none (.stAll (.slot 0) 2) [(.t 1),(.t 8)] .nil)))) (.seq (.reg 2 false (.op (some 9) (.bslice 1 1 ([Cell.int .u8 0]) [(0,1)]) [(.k (.c (.int .u8 120)))] (xoa 10 .mark 9 (.op (some 11) (.bslice 1 1 ([Cell.int .i64 0]) [(0,1)]) [(.k (.c (.int .i64 0)))] (xoa 12 (.ldAll (.slot 0) 2) 1 (.op (some 13) (.build (List.replicate 9 (Cell.int .i64 0)) [(0,1),(3,2)]) [(.k (.c (.int .i64 1))),(.t 12)] (.op (some 14) (.bslice 9 1 (List.replicate 9 (Cell.int .i64 0)) [(0,9)]) [(.t 13)] (.op (some 15) (.build (List.replicate 9 (Cell.int .i64 0)) [(0,1)]) [(.k (.c (.int .i64 2)))] (.op (some 16) (.bslice 9 1 (List.replicate 9 (Cell.int .i64 0)) [(0,9)]) [(.t 15)] (xob 17 (.bslice 1 2 ([Cell.nils,Cell.nils]) [(0,1),(1,1)]) 14 16 (.op (some 18) (.build ([Cell.nils,Cell.nils,Cell.nils]) [(0,1),(1,1),(2,1)]) [(.t 10),(.t 11),(.t 17)] (.al 2 1 ([Cell.nils,Cell.nils,Cell.nils]) (.op none (.stAll (.slot 1) 3) [(.t 2),(.t 18)] .nil))))))))))))) (.seq (.reg 3 false (xoa 20 (.ldAll (.slot 1) 3) 2 (.op (some 21) (.bslice 1 2 ([Cell.int .i64 0,Cell.int .i64 0]) [(0,1),(1,1)]) [(.k (.c (.int .i64 0))),(.k (.c (.int .i64 1)))] (.op (some 22) (.call 186 [.any,(.i .i64)]) [(.t 20),(.k (.c (.int .i64 1))),(.t 21)] (xmv 19 22 (xoa 23 (.ext 0) 19 (xoa 24 (.ext 1) 19 (xmv 3 23 (xmv 4 24 .nil))))))))) (.seq (.reg 4 false (xmv 25 3 (xoa 26 .nilchk 25 (xad 27 36 26 (xoa 28 (.ld .heap .any) 27 (xoi 29 (.call 256 [.any]) 28 1 (xmv 5 29 .nil))))))) (.seq (.reg 5 true (xoa 31 (.ldAll (.slot 1) 3) 2 (xmv 32 3 (xoa 33 .nilchk 32 (xad 34 36 33 (xoa 35 (.ld .heap .any) 34 (.op (some 36) (.call 269 [.any,.b]) [(.t 31),(.k (.c (.int .i64 1))),(.t 35),(.k (.c (.int .i64 0))),(.k (.c (.int .i64 1)))] (xmv 30 36 (xoa 37 (.ext 0) 30 (xoa 38 (.ext 1) 30 (xmv 6 37 (xmv 7 38 .nil)))))))))))) (.seq (.reg 6 false (xmv 39 5 (xoa 40 .len 39 (xoi 41 (.bin .eql) 40 1 (xmv 42 41 (.sc 42 true (xmv 43 5 (xoi 44 (.idxS 2) 43 0 (xoa 45 (.ldN .heap 2) 44 (.op (some 46) (.build ([Cell.int .i64 0,Cell.int .i64 0]) [(0,1),(1,1)]) [(.k (.c (.int .i64 0))),(.k (.c (.int .i64 1)))] (xob 47 (.eqA false ([Cell.int .i64 0,Cell.int .i64 0])) 45 46 .nil))))) 47 48 false (xmv 49 48 (.sc 49 true (xmv 50 7 .nil) 50 51 false (xmv 52 51 (.sc 52 true (xmv 53 6 (xoa 54 .len 53 (xoi 55 (.bin .eql) 54 1 .nil))) 55 56 false (xmv 57 56 (.sc 57 true (xmv 58 6 (xoi 59 (.idxS 1) 58 0 (xoa 60 (.ld .heap (.i .i64)) 59 (xoi 61 (.bin .eql) 60 1 .nil)))) 61 62 false (xmv 63 62 (.sc 63 true (.op (some 64) (.call 259 [.b]) [(.k (.c .nils)),(.k (.c (.int .i64 1)))] .nil) 64 65 false (xmv 0 65 .nil))))))))))))))) .ret))))))) }
def q414_b1:IC:=(.seq (.seq (.reg 9 false (xmv 38 10 (xmv 39 9 (xoa 40 .len 39 (xob 41 (.bin .lss) 38 40 .nil))))) (.cond (.t 41) .skip (.exit 2))) (.seq (.blk 3 (.seq (.reg 11 false (xmv 44 9 (xmv 45 10 (xob 46 (.idxS 9) 44 45 (xad 47 0 46 (xoa 48 (.ld .heap (.i .i64)) 47 (xoi 49 (.bin .eql) 48 1 (xmv 50 49 (.sc 50 false (xmv 51 9 (xmv 52 10 (xob 53 (.idxS 9) 51 52 (xad 54 0 53 (xoa 55 (.ld .heap (.i .i64)) 54 (xoi 56 (.bin .eql) 55 2 .nil)))))) 56 57 true (xmv 58 57 (.sc 58 false (xmv 59 9 (xmv 60 10 (xob 61 (.idxS 9) 59 60 (xad 62 0 61 (xoa 63 (.ld .heap (.i .i64)) 62 (xoi 64 (.bin .eql) 63 4 .nil)))))) 64 65 true .nil))))))))))) (.cond (.t 65) (.reg 12 false (xmv 66 9 (xmv 67 10 (xmv 68 8 (xob 69 (.idxS 9) 66 67 (xad 70 2 69 (.op none (.st .heap) [(.t 70),(.t 68)] .nil))))))) .skip))) (.reg 10 false (xmv 42 10 (xoi 43 (.bin .add) 42 1 (xmv 10 43 .nil))))))
def q414_p3:IC:=(.reg 13 false (xad 71 2 7 (xoa 72 (.ld (.slot 0) .any) 71 (xmv 73 8 (xmv 74 9 (xob 75 (.idxS 1) 72 73 (.op none (.st .heap) [(.t 75),(.t 74)] .nil)))))))
def q414_p2:IC:=(.reg 6 false (xmv 29 8 (xoi 30 (.bin .add) 29 1 (xmv 8 30 .nil))))
def q414_b2:IC:=(.seq (.seq (.reg 5 false (xmv 24 8 (xad 25 2 7 (xoa 26 (.ld (.slot 0) .any) 25 (xoa 27 .len 26 (xob 28 (.bin .lss) 24 27 .nil)))))) (.cond (.t 28) .skip (.exit 0))) (.seq (.blk 1 (.seq (.reg 7 false (.op (some 31) (.bslice 9 0 (([]:List Cell)) []) [] (xad 32 2 7 (xoa 33 (.ld (.slot 0) .any) 32 (xmv 34 8 (xob 35 (.idxS 1) 33 34 (xoa 36 (.ld .heap .any) 35 (xob 37 (.app 9 72) 31 36 (xmv 9 37 .nil))))))))) (.seq (.seq (.reg 8 false (xmk 10 0 .nil)) (.blk 2 (.loop [1,2,7,8,9,10] [0] [(3,[1,2,7,8,9],[0])] q414_b1))) q414_p3))) q414_p2))
def q414_p1:IC:=(.seq (.reg 14 true (xoa 77 (.ldAll (.slot 0) 3) 7 (xmv 78 1 (xoa 79 (.ldAll (.slot 0) 3) 7 (xmv 80 1 (xmv 81 2 (.op (some 82) (.call 254 [.any]) [(.t 79),(.t 80),(.t 81)] (.op (some 83) (.call 186 [.any,(.i .i64)]) [(.t 77),(.t 78),(.t 82)] (xmv 76 83 (xoa 84 (.ext 0) 76 (xoa 85 (.ext 1) 76 (xmv 11 84 (xmv 12 85 .nil))))))))))))) (.seq (.reg 15 false (xmv 86 11 (xoa 87 .nilchk 86 (xad 88 36 87 (xoa 89 (.ld .heap .any) 88 (xmv 90 1 (xob 91 (.call 259 [.b]) 89 90 (xmv 92 91 (.sc 92 true (xmv 93 11 (xoa 94 .nilchk 93 (xad 95 36 94 (xoa 96 (.ld .heap .any) 95 (xmv 97 1 (xob 98 (.call 256 [.any]) 96 97 (xoa 99 .len 98 (xoi 100 (.bin .eql) 99 0 .nil)))))))) 100 101 false (xmv 102 101 (.sc 102 true (.op (some 103) (.call 258 [.b]) [] .nil) 103 104 false (xmv 6 104 .nil)))))))))))) .ret))
def q414:Fn:={ np:=3,nt:=105,ns:=1,res:=[.t 6 .b],gc:=true,code:=(.seq (.reg 0 false (.op (some 6) .mov [(.k (.c (.bool false)))] .nil)) (.seq (.reg 1 false (xmv 13 0 (xoi 14 (.call 76 [.agg]) 13 8 (.al 7 0 ([Cell.nils,Cell.nils,Cell.nils]) (.op none (.stAll (.slot 0) 3) [(.t 7),(.t 14)] .nil))))) (.seq (.reg 2 false (xmv 15 1 (xoi 16 (.bin .and) 15 255 (xoi 17 (.bin .rem) 16 3 (xoi 18 (.bin .add) 17 1 (xmv 1 18 .nil)))))) (.seq (.reg 3 false (.op (some 19) (.bslice 1 3 ([Cell.int .u8 0,Cell.int .u8 0,Cell.int .u8 0]) [(0,1),(1,1),(2,1)]) [(.k (.c (.int .u8 120))),(.k (.c (.int .u8 121))),(.k (.c (.int .u8 122)))] (xoa 20 .mark 19 (.op (some 21) (.bslice 1 3 ([Cell.int .i64 0,Cell.int .i64 0,Cell.int .i64 0]) [(0,1),(1,1),(2,1)]) [(.k (.c (.int .i64 0))),(.k (.c (.int .i64 1))),(.k (.c (.int .i64 2)))] (xad 22 0 7 (.op none (.st (.slot 0)) [(.t 22),(.t 20)] (xad 23 1 7 (.op none (.st (.slot 0)) [(.t 23),(.t 21)] .nil)))))))) (.seq (.seq (.reg 4 false (xmk 8 0 .nil)) (.blk 0 (.loop [1,2,7,8] [0] [(1,[1,2,7],[0])] q414_b2))) q414_p1))))) }
end Jq

namespace Jq
open Go
def q256:Fn:={ np:=2,nt:=11,ns:=0,res:=[.t 4 .any],gc:=false,code:=(.seq (.reg 0 false (.op (some 4) .mov [(.k (.c .nils))] .nil)) (.seq (.reg 1 false (xmv 5 0 (xmv 6 1 (xob 7 (.call 255 [.agg]) 5 6 (xmv 8 0 (xmv 9 1 (.op (some 10) (.call 268 [.any]) [(.t 7),(.t 8),(.t 9)] (xmv 4 10 .nil)))))))) .ret)) }
def q259:Fn:={ np:=2,nt:=10,ns:=0,res:=[.t 4 .b],gc:=false,code:=(.seq (.reg 0 false (.op (some 4) .mov [(.k (.c (.bool false)))] .nil)) (.seq (.reg 1 false (xmv 5 0 (xmv 6 1 (xob 7 (.call 256 [.any]) 5 6 (xoa 8 .len 7 (xoi 9 (.bin .eql) 8 0 (xmv 4 9 .nil))))))) .ret)) }
def q268_b1:IC:=(.seq (.reg 7 false (xob 20 (.bin .lss) 19 18 .nil)) (.seq (.cond (.t 20) .skip (.exit 2)) (.seq (.blk 3 (.seq (.reg 8 false (xmv 21 19 (xmv 10 21 .nil))) (.seq (.reg 9 true (xoa 22 (.ldAll (.slot 0) 65) 3 (xmv 23 10 (xmv 24 9 (.op (some 25) (.qcall 3 [.b]) [(.t 22),(.t 23),(.t 24)] (xmv 26 25 (.sc 26 true (xoa 27 (.ldAll (.slot 0) 65) 3 (xmv 28 10 (xob 29 (.qcall 41 [(.i .u64)]) 27 28 (xoa 30 (.ldAll (.slot 1) 65) 8 (xmv 31 9 (xob 32 (.qcall 41 [(.i .u64)]) 30 31 (xob 33 (.bin .and) 29 32 (.op (some 34) (.bin .eql) [(.t 33),(.k (.c (.int .u64 0)))] .nil)))))))) 34 35 false (xmv 36 35 (.sc 36 true (xmv 37 1 (xmv 38 10 (xob 39 (.idxS 7) 37 38 (xoa 40 (.ldN .heap 7) 39 (xmv 41 1 (xmv 42 9 (xob 43 (.idxS 7) 41 42 (xoa 44 (.ldN .heap 7) 43 (xmv 45 2 (.op (some 46) (.qcall 274 [.b]) [(.t 40),(.t 44),(.t 45)] .nil)))))))))) 46 47 false .nil))))))))) (.cond (.t 47) (.reg 10 false (xmv 48 7 (xmv 49 10 (xmv 50 9 (xob 51 (.build ([Cell.int .i64 0,Cell.int .i64 0]) [(0,1),(1,1)]) 49 50 (xoa 52 (.lit 2 1 ([Cell.int .i64 0,Cell.int .i64 0]) [(0,2)]) 51 (xob 53 (.app 2 16) 48 52 (xmv 7 53 .nil)))))))) .skip)))) (.reg 11 false (xoi 54 (.bin .add) 19 1 (xmv 19 54 .nil))))))
def q268_p2:IC:=(.reg 12 false (xoi 55 (.bin .add) 15 1 (xmv 15 55 .nil)))
def q268_b2:IC:=(.seq (.reg 4 false (xob 16 (.bin .lss) 15 14 .nil)) (.seq (.cond (.t 16) .skip (.exit 0)) (.seq (.blk 1 (.seq (.reg 5 false (xmv 17 15 (xmv 9 17 .nil))) (.seq (.reg 6 false (xmv 18 9 (xmk 19 0 .nil))) (.blk 2 (.loop [1,2,3,7,8,9,14,15,18,19] [0,1] [(3,[1,2,3,7,8,14,15],[0,1])] q268_b1))))) q268_p2)))
def q268_p1:IC:=(.seq (.reg 13 false (xmv 56 7 (xmv 6 56 .nil))) .ret)
def q268:Fn:={ np:=3,nt:=57,ns:=2,res:=[.t 6 .any],gc:=false,code:=(.seq (.reg 0 false (.box 3 0 (.t 0) (.op (some 6) .mov [(.k (.c .nils))] .nil))) (.seq (.reg 1 false (.op (some 7) .mov [(.k (.c .nils))] .nil)) (.seq (.reg 2 false (xoa 11 (.ldAll (.slot 0) 65) 3 (xoa 12 (.call 40 [.agg]) 11 (.al 8 1 ([Cell.int .i64 0]++List.replicate 64 (Cell.int .u64 0)) (.op none (.stAll (.slot 1) 65) [(.t 8),(.t 12)] .nil))))) (.seq (.seq (.reg 3 false (xoa 13 (.ldAll (.slot 0) 65) 3 (xoa 14 (.call 14 [(.i .i64)]) 13 (xmk 15 0 .nil)))) (.blk 0 (.loop [1,2,3,7,8,14,15] [0,1] [(1,[7],[])] q268_b2))) q268_p1)))) }
def q269_b1:IC:=(.seq (.reg 5 false (xob 35 (.bin .lss) 34 33 .nil)) (.seq (.cond (.t 35) .skip (.exit 0)) (.seq (.blk 1 (.seq (.reg 6 false (xob 36 (.idxS 7) 32 34 (xoa 37 (.ldN .heap 7) 36 (.al 14 1 (List.replicate 7 (Cell.int .i64 0)) (.op none (.stAll (.slot 1) 7) [(.t 14),(.t 37)] .nil))))) (.reg 7 false (xmv 38 12 (xad 39 0 14 (xoa 40 (.ld (.slot 1) (.i .i64)) 39 (xoa 41 (.lit 1 1 ([Cell.int .i64 0]) [(0,1)]) 40 (xob 42 (.app 1 8) 38 41 (xmv 12 42 .nil))))))))) (.reg 8 false (xoi 43 (.bin .add) 34 1 (xmv 34 43 .nil))))))
def q269_b2:IC:=(.seq (.reg 15 false (xob 67 (.bin .lss) 66 65 .nil)) (.seq (.cond (.t 67) .skip (.exit 2)) (.seq (.blk 3 (.seq (.reg 16 false (xmv 68 66 (xmv 20 68 .nil))) (.seq (.reg 17 false (xmv 69 20 (xmv 70 3 (xob 71 (.bin .neq) 69 70 (xmv 72 71 (.sc 72 true (xoa 73 (.ldAll (.slot 2) 65) 18 (xmv 74 3 (xmv 75 20 (.op (some 76) (.call 3 [.b]) [(.t 73),(.t 74),(.t 75)] (xoa 77 (.un .not) 76 .nil))))) 77 78 false .nil)))))) (.cond (.t 78) (.reg 18 false (xmv 79 19 (xmv 80 12 (xmv 81 20 (xob 82 (.idxS 1) 80 81 (xoa 83 (.ld .heap (.i .i64)) 82 (xoa 84 (.lit 1 1 ([Cell.int .i64 0]) [(0,1)]) 83 (xob 85 (.app 1 8) 79 84 (xmv 19 85 .nil))))))))) .skip)))) (.reg 19 false (xoi 86 (.bin .add) 66 1 (xmv 66 86 .nil))))))
def q269_p2:IC:=(.seq (.reg 20 false (xmv 87 19 (xmv 88 12 (xmv 89 4 (xob 90 (.idxS 1) 88 89 (xoa 91 (.ld .heap (.i .i64)) 90 (xoa 92 (.lit 1 1 ([Cell.int .i64 0]) [(0,1)]) 91 (xob 93 (.app 1 8) 87 92 (xmv 19 93 .nil))))))))) (.seq (.seq (.reg 21 false (xoa 95 (.ldAll (.slot 0) 3) 5 (xmv 96 1 (xmv 97 19 (.op (some 98) (.call 271 [.any,(.i .i64),.b]) [(.t 95),(.t 96),(.t 97)] (xmv 94 98 (xoa 99 (.ext 0) 94 (xoa 100 (.ext 1) 94 (xoa 101 (.ext 2) 94 (xmv 21 99 (xmv 22 100 (xmv 23 101 .nil)))))))))))) (.seq (.reg 22 false (xmv 102 22 (xmv 103 19 (xoa 104 .len 103 (xob 105 (.bin .neq) 102 104 .nil))))) (.cond (.t 105) (.seq (.reg 23 false (.op (some 10) .mov [(.k (.c .nils))] (.op (some 11) .mov [(.k (.c (.bool false)))] .nil))) .ret) .skip))) (.seq (.reg 24 false (xmv 106 19 (xmv 10 106 (.op (some 11) .mov [(.k (.c (.bool true)))] .nil)))) .ret)))
def q269_p1:IC:=(.seq (.seq (.reg 9 false (xoa 45 (.ldAll (.slot 0) 3) 5 (xmv 46 1 (xmv 47 12 (.op (some 48) (.call 271 [.any,(.i .i64),.b]) [(.t 45),(.t 46),(.t 47)] (xmv 44 48 (xoa 49 (.ext 0) 44 (xoa 50 (.ext 1) 44 (xoa 51 (.ext 2) 44 (xmv 15 49 (xmv 16 50 (xmv 17 51 .nil)))))))))))) (.seq (.reg 10 false (xmv 52 16 (xmv 53 12 (xoa 54 .len 53 (xob 55 (.bin .neq) 52 54 (xmv 56 55 (.sc 56 false (xmv 57 15 (xmv 58 2 (xob 59 (.call 276 [.b]) 57 58 (xoa 60 (.un .not) 59 .nil)))) 60 61 true .nil))))))) (.cond (.t 61) (.seq (.reg 11 false (.op (some 10) .mov [(.k (.c .nils))] (.op (some 11) .mov [(.k (.c (.bool false)))] .nil))) .ret) .skip))) (.seq (.reg 12 false (xmv 62 2 (xmv 63 1 (xob 64 (.call 255 [.agg]) 62 63 (.al 18 2 ([Cell.int .i64 0]++List.replicate 64 (Cell.int .u64 0)) (.op none (.stAll (.slot 2) 65) [(.t 18),(.t 64)] .nil)))))) (.seq (.reg 13 false (.op (some 19) .mov [(.k (.c .nils))] .nil)) (.seq (.seq (.reg 14 false (xmv 65 4 (xmk 66 0 .nil))) (.blk 2 (.loop [1,3,4,5,12,18,19,65,66] [0,2] [(3,[1,4,5,12,19],[0])] q269_b2))) q269_p2))))
def q269:Fn:={ np:=5,nt:=107,ns:=3,res:=[.t 10 .any,.t 11 .b],gc:=false,code:=(.seq (.reg 0 false (.box 5 0 (.t 0) (.op (some 10) .mov [(.k (.c .nils))] (.op (some 11) .mov [(.k (.c (.bool false)))] .nil)))) (.seq (.seq (.reg 1 false (xmv 24 2 (xmv 25 1 (xob 26 (.call 256 [.any]) 24 25 (xmv 27 3 (xmv 28 4 (xob 29 (.build ([Cell.int .i64 0,Cell.int .i64 0]) [(0,1),(1,1)]) 27 28 (xob 30 (.call 275 [.b]) 26 29 (xoa 31 (.un .not) 30 .nil))))))))) (.cond (.t 31) (.seq (.reg 2 false (.op (some 10) .mov [(.k (.c .nils))] (.op (some 11) .mov [(.k (.c (.bool false)))] .nil))) .ret) .skip)) (.seq (.reg 3 false (.op (some 12) .mov [(.k (.c .nils))] .nil)) (.seq (.seq (.reg 4 false (xmv 32 2 (xoa 33 .len 32 (xmk 34 0 .nil)))) (.blk 0 (.loop [1,2,3,4,5,12,32,33,34] [0] [(1,[1,2,3,4,5,12],[0])] q269_b1))) q269_p1)))) }
def q274:Fn:={ np:=3,nt:=29,ns:=2,res:=[.t 6 .b],gc:=false,code:=(.seq (.reg 0 false (.box 3 0 (.t 0) (.box 4 1 (.t 1) (.op (some 6) .mov [(.k (.c (.bool false)))] .nil)))) (.seq (.reg 1 false (xad 7 1 3 (xoa 8 (.ld (.slot 0) (.i .i64)) 7 (xad 9 1 4 (xoa 10 (.ld (.slot 1) (.i .i64)) 9 (xob 11 (.bin .neq) 8 10 (xmv 12 11 (.sc 12 true (xad 13 3 3 (xoa 14 (.ld (.slot 0) (.i .i64)) 13 (xad 15 3 4 (xoa 16 (.ld (.slot 1) (.i .i64)) 15 (xob 17 (.bin .eql) 14 16 .nil))))) 17 18 false (xmv 19 18 (.sc 19 true (xoa 20 (.ldAll (.slot 0) 7) 3 (xmv 21 2 (xob 22 (.call 257 [.b]) 20 21 (xmv 23 22 (.sc 23 false (xoa 24 (.ldAll (.slot 1) 7) 4 (xmv 25 2 (xob 26 (.call 257 [.b]) 24 25 .nil))) 26 27 true .nil))))) 27 28 false (xmv 6 28 .nil))))))))))) .ret)) }
end Jq

namespace Jq
open Go
def q255_b1:IC:=(.seq (.seq (.reg 8 false (xmv 27 8 (xmv 28 0 (xoa 29 .len 28 (xob 30 (.bin .lss) 27 29 .nil))))) (.cond (.t 30) .skip (.exit 2))) (.seq (.blk 3 (.seq (.reg 10 false (xmv 33 0 (xmv 34 8 (xob 35 (.idxS 7) 33 34 (xoa 36 (.ldN .heap 7) 35 (.al 9 3 (List.replicate 7 (Cell.int .i64 0)) (.op none (.stAll (.slot 3) 7) [(.t 9),(.t 36)] .nil))))))) (.seq (.reg 11 false (xoa 37 (.ldAll (.slot 2) 7) 7 (xmv 38 1 (xob 39 (.call 257 [.b]) 37 38 (xmv 40 39 (.sc 40 true (xoa 41 (.ldAll (.slot 3) 7) 9 (xmv 42 1 (xob 43 (.call 257 [.b]) 41 42 .nil))) 43 44 false (xmv 45 44 (.sc 45 true (xad 46 3 7 (xoa 47 (.ld (.slot 2) (.i .i64)) 46 (xad 48 3 9 (xoa 49 (.ld (.slot 3) (.i .i64)) 48 (xob 50 (.bin .eql) 47 49 .nil))))) 50 51 false (xmv 10 51 .nil))))))))) (.seq (.reg 12 false (xad 52 0 7 (xoa 53 (.ld (.slot 2) (.i .i64)) 52 (xad 54 0 9 (xoa 55 (.ld (.slot 3) (.i .i64)) 54 (xob 56 (.bin .eql) 53 55 (xmv 57 56 (.sc 57 false (xmv 58 10 .nil) 58 59 true (xmv 60 59 (.sc 60 false (xad 61 2 9 (xoa 62 (.ld (.slot 3) (.i .i64)) 61 (xoi 63 (.bin .eql) 62 6 (xmv 64 63 (.sc 64 true (xad 65 6 9 (xoa 66 (.ld (.slot 3) (.i .i64)) 65 (xmv 67 6 (xob 68 (.bin .eql) 66 67 .nil)))) 68 69 false .nil))))) 69 70 true (xmv 71 70 (.sc 71 false (xad 72 2 7 (xoa 73 (.ld (.slot 2) (.i .i64)) 72 (xoi 74 (.bin .eql) 73 6 (xmv 75 74 (.sc 75 true (xad 76 1 7 (xoa 77 (.ld (.slot 2) (.i .i64)) 76 (xad 78 1 9 (xoa 79 (.ld (.slot 3) (.i .i64)) 78 (xob 80 (.bin .eql) 77 79 .nil))))) 80 81 false (xmv 82 81 (.sc 82 true (xoa 83 (.ldAll (.slot 3) 7) 9 (xoa 84 (.call 265 [.b]) 83 .nil)) 84 85 false .nil))))))) 85 86 true .nil)))))))))))) (.cond (.t 86) (.reg 13 false (xoa 87 (.ldAll (.slot 1) 65) 5 (xmv 88 6 (xmv 89 8 (.op (some 90) (.call 10 [.agg]) [(.t 87),(.t 88),(.t 89)] (.op none (.stAll (.slot 1) 65) [(.t 5),(.t 90)] .nil)))))) .skip))))) (.reg 9 false (xmv 31 8 (xoi 32 (.bin .add) 31 1 (xmv 8 32 .nil))))))
def q255_p3:IC:=(.seq (.reg 14 false (xoa 91 (.ldAll (.slot 2) 7) 7 (xoa 92 (.call 266 [.b]) 91 .nil))) (.cond (.t 92) (.reg 15 false (xoa 93 (.ldAll (.slot 1) 65) 5 (xmv 94 0 (xmv 95 1 (xmv 96 6 (.op (some 97) (.call 267 [.agg]) [(.t 93),(.t 94),(.t 95),(.t 96)] (.op none (.stAll (.slot 1) 65) [(.t 5),(.t 97)] .nil))))))) .skip))
def q255_p2:IC:=(.reg 16 false (xoi 98 (.bin .add) 20 1 (xmv 20 98 .nil)))
def q255_b2:IC:=(.seq (.reg 5 false (xob 21 (.bin .lss) 20 19 .nil)) (.seq (.cond (.t 21) .skip (.exit 0)) (.seq (.blk 1 (.seq (.reg 6 false (xmv 22 20 (xob 23 (.idxS 7) 18 20 (xoa 24 (.ldN .heap 7) 23 (.al 7 2 (List.replicate 7 (Cell.int .i64 0)) (xmv 6 22 (.op none (.stAll (.slot 2) 7) [(.t 7),(.t 24)] .nil))))))) (.seq (.seq (.reg 7 false (xmv 25 6 (xoi 26 (.bin .add) 25 1 (xmv 8 26 .nil)))) (.blk 2 (.loop [0,1,4,5,6,7,8,18,19,20] [0,1,2] [(3,[0,1,4,5,6,7,18,19,20],[0,1,2])] q255_b1))) q255_p3))) q255_p2)))
def q255_p1:IC:=(.seq (.reg 17 false (xoa 99 (.ldAll (.slot 1) 65) 5 (xoa 100 (.call 12 [.agg]) 99 (.op none (.stAll (.slot 0) 65) [(.t 4),(.t 100)] .nil)))) .ret)
def q255:Fn:={ np:=2,nt:=101,ns:=4,res:=[.all (.slot 0) 4 65],gc:=false,code:=(.seq (.reg 0 false (.al 4 0 ([Cell.int .i64 0]++List.replicate 64 (Cell.int .u64 0)) .nil)) (.seq (.seq (.reg 1 false (xmv 11 0 (xoa 12 .len 11 (xoi 13 (.bin .gtr) 12 64 .nil)))) (.cond (.t 13) (.seq (.reg 2 false (.op (some 14) (.call 9 [.agg]) [(.k (.c (.int .i64 0)))] (.op none (.stAll (.slot 0) 65) [(.t 4),(.t 14)] .nil))) .ret) .skip)) (.seq (.reg 3 false (xmv 15 0 (xoa 16 .len 15 (xoa 17 (.call 9 [.agg]) 16 (.al 5 1 ([Cell.int .i64 0]++List.replicate 64 (Cell.int .u64 0)) (.op none (.stAll (.slot 1) 65) [(.t 5),(.t 17)] .nil)))))) (.seq (.seq (.reg 4 false (xmv 18 0 (xoa 19 .len 18 (xmk 20 0 .nil)))) (.blk 0 (.loop [0,1,4,5,18,19,20] [0,1] [(1,[4,5],[0,1])] q255_b2))) q255_p1)))) }
def q257:Fn:={ np:=2,nt:=22,ns:=1,res:=[.t 4 .b],gc:=false,code:=(.seq (.reg 0 false (.box 2 0 (.t 0) (.op (some 4) .mov [(.k (.c (.bool false)))] .nil))) (.seq (.reg 1 false (xad 5 2 2 (xoa 6 (.ld (.slot 0) (.i .i64)) 5 (xoi 7 (.bin .eql) 6 6 (xmv 8 7 (.sc 8 false (xad 9 2 2 (xoa 10 (.ld (.slot 0) (.i .i64)) 9 (xoi 11 (.bin .eql) 10 4 .nil))) 11 12 true (xmv 13 12 (.sc 13 false (xmv 14 1 (xoi 15 (.bin .eql) 14 1 (xmv 16 15 (.sc 16 true (xad 17 2 2 (xoa 18 (.ld (.slot 0) (.i .i64)) 17 (xoi 19 (.bin .eql) 18 2 .nil))) 19 20 false .nil)))) 20 21 true (xmv 4 21 .nil))))))))) .ret)) }
def q265:Fn:={ np:=1,nt:=16,ns:=1,res:=[.t 2 .b],gc:=false,code:=(.seq (.reg 0 false (.box 1 0 (.t 0) (.op (some 2) .mov [(.k (.c (.bool false)))] .nil))) (.seq (.reg 1 false (xad 3 2 1 (xoa 4 (.ld (.slot 0) (.i .i64)) 3 (xoi 5 (.bin .eql) 4 3 (xmv 6 5 (.sc 6 false (xad 7 2 1 (xoa 8 (.ld (.slot 0) (.i .i64)) 7 (xoi 9 (.bin .eql) 8 4 .nil))) 9 10 true (xmv 11 10 (.sc 11 false (xad 12 2 1 (xoa 13 (.ld (.slot 0) (.i .i64)) 12 (xoi 14 (.bin .eql) 13 5 .nil))) 14 15 true (xmv 2 15 .nil))))))))) .ret)) }
def q266:Fn:={ np:=1,nt:=16,ns:=1,res:=[.t 2 .b],gc:=false,code:=(.seq (.reg 0 false (.box 1 0 (.t 0) (.op (some 2) .mov [(.k (.c (.bool false)))] .nil))) (.seq (.reg 1 false (xad 3 2 1 (xoa 4 (.ld (.slot 0) (.i .i64)) 3 (xoi 5 (.bin .eql) 4 1 (xmv 6 5 (.sc 6 false (xad 7 2 1 (xoa 8 (.ld (.slot 0) (.i .i64)) 7 (xoi 9 (.bin .eql) 8 4 .nil))) 9 10 true (xmv 11 10 (.sc 11 false (xad 12 2 1 (xoa 13 (.ld (.slot 0) (.i .i64)) 12 (xoi 14 (.bin .eql) 13 5 .nil))) 14 15 true (xmv 2 15 .nil))))))))) .ret)) }
def q267_b1:IC:=(.seq (.seq (.reg 10 false (xmv 49 11 (xmv 50 1 (xoa 51 .len 50 (xob 52 (.bin .lss) 49 51 .nil))))) (.cond (.t 52) .skip (.exit 0))) (.seq (.blk 1 (.seq (.reg 12 true (xmv 55 11 (xmv 56 3 (xob 57 (.bin .neq) 55 56 (xmv 58 57 (.sc 58 true (xmv 59 1 (xmv 60 11 (xob 61 (.idxS 7) 59 60 (xoa 62 (.ldN .heap 7) 61 (xmv 63 2 (xob 64 (.qcall 257 [.b]) 62 63 .nil)))))) 64 65 false (xmv 66 65 (.sc 66 true (xmv 67 1 (xmv 68 11 (xob 69 (.idxS 7) 67 68 (xad 70 3 69 (xoa 71 (.ld .heap (.i .i64)) 70 (xad 72 3 9 (xoa 73 (.ld (.slot 2) (.i .i64)) 72 (xob 74 (.bin .eql) 71 73 .nil)))))))) 74 75 false .nil)))))))) (.cond (.t 75) (.reg 13 false (xoa 76 (.ldAll (.slot 0) 65) 4 (xmv 77 3 (xmv 78 11 (.op (some 79) (.call 10 [.agg]) [(.t 76),(.t 77),(.t 78)] (.op none (.stAll (.slot 0) 65) [(.t 4),(.t 79)] .nil)))))) .skip))) (.reg 11 false (xmv 53 11 (xoi 54 (.bin .add) 53 1 (xmv 11 54 .nil))))))
def q267_p2:IC:=(.seq (.reg 14 false (xoa 80 (.ldAll (.slot 0) 65) 4 (.op none (.stAll (.slot 1) 65) [(.t 8),(.t 80)] .nil))) .ret)
def q267_p1:IC:=(.seq (.seq (.reg 9 false (xmv 47 10 (xoi 48 (.bin .add) 47 1 (xmv 11 48 .nil)))) (.blk 0 (.loop [1,2,3,4,8,9,11] [0,1,2] [(1,[4,8],[0,1])] q267_b1))) q267_p2)
def q267:Fn:={ np:=4,nt:=81,ns:=3,res:=[.all (.slot 1) 8 65],gc:=false,code:=(.seq (.reg 0 false (.box 4 0 (.t 0) (.al 8 1 ([Cell.int .i64 0]++List.replicate 64 (Cell.int .u64 0)) .nil))) (.seq (.reg 1 false (xmv 12 1 (xmv 13 3 (xob 14 (.idxS 7) 12 13 (xoa 15 (.ldN .heap 7) 14 (.al 9 2 (List.replicate 7 (Cell.int .i64 0)) (.op none (.stAll (.slot 2) 7) [(.t 9),(.t 15)] .nil))))))) (.seq (.reg 2 false (xmk 10 (-1) .nil)) (.cut [1,2,3,4,8,9,10] [0,1,2] [(0,[8],[1])] (.seq (.reg 3 false (xad 16 6 9 (xoa 17 (.ld (.slot 2) (.i .i64)) 16 (xoi 18 (.bin .geq) 17 0 (xmv 19 18 (.sc 19 true (xad 20 6 9 (xoa 21 (.ld (.slot 2) (.i .i64)) 20 (xmv 22 1 (xoa 23 .len 22 (xob 24 (.bin .lss) 21 23 .nil))))) 24 25 false .nil)))))) (.cond (.t 25) (.seq (.seq (.reg 4 false (xmv 26 1 (xmv 27 2 (xad 28 6 9 (xoa 29 (.ld (.slot 2) (.i .i64)) 28 (.op (some 30) (.call 273 [(.i .i64)]) [(.t 26),(.t 27),(.t 29)] (xmv 10 30 .nil))))))) (.seq (.reg 5 false (xmv 31 10 (xoi 32 (.bin .lss) 31 0 .nil))) (.cond (.t 32) (.seq (.reg 6 false (xoa 33 (.ldAll (.slot 0) 65) 4 (.op none (.stAll (.slot 1) 65) [(.t 8),(.t 33)] .nil))) .ret) .skip))) (.seq (.reg 7 true (xmv 34 1 (xad 35 6 9 (xoa 36 (.ld (.slot 2) (.i .i64)) 35 (xob 37 (.idxS 7) 34 36 (xad 38 1 37 (xoa 39 (.ld .heap (.i .i64)) 38 (xad 40 1 9 (xoa 41 (.ld (.slot 2) (.i .i64)) 40 (xob 42 (.bin .neq) 39 41 .nil)))))))))) (.cond (.t 42) (.reg 8 false (xoa 43 (.ldAll (.slot 0) 65) 4 (xmv 44 10 (xmv 45 3 (.op (some 46) (.call 10 [.agg]) [(.t 43),(.t 44),(.t 45)] (.op none (.stAll (.slot 0) 65) [(.t 4),(.t 46)] .nil)))))) .skip))) .skip)) q267_p1)))) }
def q273:Fn:={ np:=3,nt:=17,ns:=0,res:=[.t 6 (.i .i64)],gc:=true,code:=(.seq (.reg 0 false (xoa 5 .boxH 2 (xmk 6 0 .nil))) (.seq (.seq (.reg 1 false (xmv 7 0 (xoa 8 (.ld .heap (.i .i64)) 5 (xob 9 (.idxS 7) 7 8 (xoa 10 (.ldN .heap 7) 9 (xmv 11 1 (xob 12 (.call 257 [.b]) 10 11 .nil))))))) (.cond (.t 12) (.seq (.reg 2 false (xoa 13 (.ld .heap (.i .i64)) 5 (xmv 6 13 .nil))) .ret) .skip)) (.seq (.reg 3 false (xmv 14 0 (xoa 15 (.mkfn 282) 5 (xob 16 (.call 283 [(.i .i64)]) 14 15 (xmv 6 16 .nil))))) .ret))) }
def q282:Fn:={ np:=2,nt:=13,ns:=1,res:=[.t 3 .b],gc:=false,code:=(.seq (.reg 0 false (.box 2 0 (.t 0) (.op (some 3) .mov [(.k (.c (.bool false)))] .nil))) (.seq (.reg 1 false (xad 4 2 2 (xoa 5 (.ld (.slot 0) (.i .i64)) 4 (xoi 6 (.bin .eql) 5 6 (xmv 7 6 (.sc 7 true (xad 8 6 2 (xoa 9 (.ld (.slot 0) (.i .i64)) 8 (xoa 10 (.ld .heap (.i .i64)) 1 (xob 11 (.bin .eql) 9 10 .nil)))) 11 12 false (xmv 3 12 .nil))))))) .ret)) }
end Jq

namespace Jq
open Go
end Jq

namespace Jq
open Go
end Jq

namespace Jq
open Go
structure q257_In (E:Env):Prop where
  fn:E.fn 257=some q257
structure q265_In (E:Env):Prop where
  fn:E.fn 265=some q265
structure q266_In (E:Env):Prop where
  fn:E.fn 266=some q266
structure q282_In (E:Env):Prop where
  fn:E.fn 282=some q282
structure q273_In (E:Env):Prop where
  fn:E.fn 273=some q273
  c257:q257_In E
  c282:q282_In E
  c283:q283_In E
structure q267_In (E:Env):Prop where
  fn:E.fn 267=some q267
  c10:q10_In E
  c257:q257_In E
  c273:q273_In E
structure q255_In (E:Env):Prop where
  fn:E.fn 255=some q255
  c9:q9_In E
  c10:q10_In E
  c12:q12_In E
  c257:q257_In E
  c265:q265_In E
  c266:q266_In E
  c267:q267_In E
end Jq

namespace Jq
open Go
structure q274_In (E:Env):Prop where
  fn:E.fn 274=some q274
  c257:q257_In E
structure q268_In (E:Env):Prop where
  fn:E.fn 268=some q268
  c3:q3_In E
  c14:q14_In E
  c40:q40_In E
  c41:q41_In E
  c274:q274_In E
structure q256_In (E:Env):Prop where
  fn:E.fn 256=some q256
  c255:q255_In E
  c268:q268_In E
structure q259_In (E:Env):Prop where
  fn:E.fn 259=some q259
  c256:q256_In E
structure q269_In (E:Env):Prop where
  fn:E.fn 269=some q269
  c3:q3_In E
  c255:q255_In E
  c256:q256_In E
  c271:q271_In E
  c275:q275_In E
  c276:q276_In E
end Jq

namespace Jq
open Go
structure q258_In (E:Env):Prop where
  fn:E.fn 258=some q258
  c186:q186_In E
  c256:q256_In E
  c259:q259_In E
  c269:q269_In E
structure q414_In (E:Env):Prop where
  fn:E.fn 414=some q414
  c76:q76_In E
  c186:q186_In E
  c254:q254_In E
  c256:q256_In E
  c258:q258_In E
  c259:q259_In E
end Jq

namespace Jq
open Go
variable (C:CallF) (L:LoopF) (G:Glo)
set_option maxRecDepth 100000 in
theorem q17_eq (a0 a1:Int) (h0:AHeap):q17.body C L G [(.c (.int .u64 a0)),(.c (.int .i64 a1))] h0=c1 (C 19 [(.c (.int .i64 a1))] h0) fun y_2 h_1=>asI .u64 y_2 fun n_3=>some ([(.c (.bool ((G.band .u64 a0 n_3) != 0)))],h_1):=by kernel_rfl
set_option maxRecDepth 100000 in
theorem q18_eq (a0 a1:Int) (h0:AHeap):q18.body C L G [(.c (.int .u64 a0)),(.c (.int .i64 a1))] h0=c1 (C 19 [(.c (.int .i64 a1))] h0) fun y_2 h_1=>asI .u64 y_2 fun n_3=>some ([(.c (.int .u64 (G.bor .u64 a0 n_3)))],h_1):=by kernel_rfl
set_option maxRecDepth 100000 in
theorem q19_eq (a0:Int) (h0:AHeap):q19.body C L G [(.c (.int .i64 a0))] h0=scK (decide (a0<0)) false (some ((decide (a0≥64)),h0)) true h0 fun b_1 h_2=>if b_1=true then some ([(.c (.int .u64 0))],h_2) else if (G.wrap .u64 a0)<0 then none else some ([(.c (.int .u64 (G.shl .u64 1 (G.wrap .u64 a0))))],h_2):=by kernel_rfl
set_option maxRecDepth 100000 in
theorem q38_eq (a0:Int) (h0:AHeap):q38.body C L G [(.c (.int .u64 a0))] h0=if (a0==0)=true then some ([(.c (.int .i64 (-1)))],h0) else c1 (C 42 [(.c (.int .u64 a0))] h0) fun y_2 h_1=>asI .i64 y_2 fun n_3=>some ([(.c (.int .i64 n_3))],h_1):=by kernel_rfl
end Jq

namespace Jq
open Go
def bitI (i:Int):Nat:=if 0≤i∧i<64 then 2 ^ i.toNat else 0
theorem bitI_lt (i:Int):bitI i<2 ^ 64:=by
  unfold bitI;split
  · exact Nat.pow_lt_pow_right (by omega) (by omega)
  · omega
theorem testBit_bitI (i:Int) (j:Nat):(bitI i).testBit j=(decide (i=j)&&decide (j<64)):=by
  unfold bitI;split
  · rename_i h
    rw [Nat.testBit_two_pow]
    rw [Bool.eq_iff_iff];simp;omega
  · rename_i h
    rw [Nat.zero_testBit,eq_comm,Bool.eq_false_iff];simp;omega
def hasI (s:Nat) (i:Int):Bool:=decide (0≤i)&&s.testBit i.toNat&&decide (i<64)
theorem and_bitI {s:Nat} (i:Int):((s &&& bitI i) != 0)=hasI s i:=by
  unfold hasI bitI
  by_cases h:0≤i∧i<64
  · rw [if_pos h]
    simp only [h.1,h.2,decide_true,Bool.true_and,Bool.and_true]
    cases hb:s.testBit i.toNat with
    | true =>
      simp only [bne_iff_ne,ne_eq]
      intro h0
      have:=congrArg (fun x=>x.testBit i.toNat) h0
      simp [Nat.testBit_and,hb,Nat.testBit_two_pow] at this
    | false =>
      have:s &&& 2 ^ i.toNat=0:=by
        refine Nat.eq_of_testBit_eq fun j=>?_
        rw [Nat.testBit_and,Nat.testBit_two_pow,Nat.zero_testBit]
        by_cases hj:i.toNat=j
        · subst hj;simp [hb]
        · simp [hj]
      simp [this]
  · rw [if_neg h]
    have:¬(0≤i)∨¬(i<64):=by omega
    rcases this with h | h<;>simp [h]
theorem hasI_nat {s i:Nat} (hi:i<64):hasI s (i:Int)=s.testBit i:=by
  unfold hasI;simp;omega
variable {E:Env}
theorem bit_R (hE:q19_In E) (i:Int) (h:AHeap):R E 19 [.c (.int .i64 i)] h=some ([.c (.int .u64 (bitI i))],h):=by
  refine R_intro hE.fn ?_
  rw [q19_eq,scK_or]
  unfold bitI
  by_cases hi:0≤i∧i<64
  · have h1:(decide (i<0)||decide (i≥64))=false:=by simp;omega
    rw [h1,if_pos hi]
    obtain ⟨n,rfl⟩:=Int.eq_ofNat_of_zero_le hi.1
    have hw:E.glob.wrap .u64 (n:Int)=n:=wrap_u64n (by omega)
    rw [hw]
    simp only [Bool.false_eq_true,if_false]
    rw [if_neg (by omega),show E.glob.shl .u64 1 (n:Int)=_ from std_shl_one (by omega)]
    simp
  · have h1:(decide (i<0)||decide (i≥64))=true:=by simp;omega
    rw [h1,if_neg hi];simp
theorem Has_R (hE:q17_In E) {s:Nat} (hs:s<2 ^ 64) (i:Int) (h:AHeap):R E 17 [.c (.int .u64 s),.c (.int .i64 i)] h=some ([.c (.bool (hasI s i))],h):=by
  refine R_intro hE.fn ?_
  rw [q17_eq,bit_R hE.c19,c1_ok,asI_ok,show E.glob.band .u64 (s:Int) _=_ from std_band hs (bitI_lt i),←and_bitI]
  have:(((s &&& bitI i:Nat):Int) != 0)=(s &&& bitI i != 0):=by rw [Bool.eq_iff_iff];simp
  rw [this]
theorem With_R (hE:q18_In E) {s:Nat} (hs:s<2 ^ 64) (i:Int) (h:AHeap):R E 18 [.c (.int .u64 s),.c (.int .i64 i)] h=some ([.c (.int .u64 ((s ||| bitI i:Nat):Int))],h):=by
  refine R_intro hE.fn ?_
  rw [q18_eq,bit_R hE.c19,c1_ok,asI_ok,show E.glob.bor .u64 (s:Int) _=_ from std_bor hs (bitI_lt i)]
end Jq

namespace Jq
open Go
variable (C:CallF) (L:LoopF) (G:Glo)
set_option maxRecDepth 100000 in
theorem q42_eq (a0:Int) (h0:AHeap):q42.body C L G [(.c (.int .u64 a0))] h0=if (a0==0)=true then some ([(.c (.int .i64 64))],h0) else let v_1:Int:=(G.wrap .u64 ((G.band .u64 a0 (G.wrap .u64 (0 - a0)))*285870213051353865));if 0≤(G.shr .u64 v_1 58)∧(G.shr .u64 v_1 58)<((64:Nat):Int) then atK (G.tab 1) (0+((Int.toNat (G.shr .u64 v_1 58))*1)) fun q_2=>asI .u8 (.c q_2) fun n_3=>some ([(.c (.int .i64 (G.wrap .i64 n_3)))],h0) else none:=by kernel_rfl
end Jq

namespace Jq
open Go
def pcN:Nat→Nat→Nat
  | 0,_=>0
  | k+1,x=>x % 2+pcN k (x / 2)
def pc (x:Nat):Nat:=pcN 64 x
def mapB (f:Nat→Nat):Nat→Nat→Nat
  | 0,_=>0
  | k+1,x=>f (x % 256)+256*mapB f k (x / 256)
def repB (c:Nat):Nat→Nat
  | 0=>0
  | k+1=>c+256*repB c k
def fb1 (b:Nat):Nat:=((b / 2) &&& 0x55)+(b &&& 0x55)
def fb2 (b:Nat):Nat:=((b / 4) &&& 0x33)+(b &&& 0x33)
def fb3 (b:Nat):Nat:=(b+b / 16) &&& 0x0f
variable {E:Env}
theorem sh_by {k m:Nat} (hk:k≤64) (hm:2 ^ k=m) (y:Nat):E.glob.shr .u64 (y:Int) (k:Int)=((y / m:Nat):Int):=by
  rw [g_shr hk,Nat.shiftRight_eq_div_pow,hm]
end Jq

namespace Jq
open Go
variable {E:Env}
theorem mul_wrap (y:Nat):E.glob.wrap .u64 ((y:Int)*285870213051353865)=((y*285870213051353865 % 18446744073709551616:Nat):Int):=by
  show IntKind.wrap .u64 _=_
  simp only [IntKind.wrap,IntKind.signed,IntKind.bits,Bool.false_and,Bool.false_eq_true,if_false];omega
theorem neg_wrap {x:Nat} (hx:x<2 ^ 64) (h0:x≠0):E.glob.wrap .u64 (0 - (x:Int))=((2 ^ 64 - x:Nat):Int):=by
  show IntKind.wrap .u64 _=_
  simp only [IntKind.wrap,IntKind.signed,IntKind.bits,Bool.false_and,Bool.false_eq_true,if_false];omega
theorem shr58 (y:Nat):E.glob.shr .u64 (y:Int) 58=((y / 288230376151711744:Nat):Int):=sh_by (k:=58) (by omega) (by decide) y
theorem getD_some {L:List Nat} {n i k:Nat} (hn:L.length=n) (hi:i<n) (hd:L.getD i 0=k):L[i]? = some k:=by
  rw [List.getD_eq_getElem?_getD] at hd
  cases h:L[i]? with
  | none=>rw [List.getElem?_eq_none_iff] at h;omega
  | some x=>rw [h] at hd;exact congrArg some hd
theorem deB_len:Go.Lib.deBruijn64tab.length=64:=by decide
theorem TrailingZeros_R (hE:q42_In E) (htab:∀k,k<64→(E.tab 1)[k]? = (Go.Lib.deBruijn64tab[k]?).map fun (n:Nat)=>Cell.int .u8 (n:Int)) {x:Nat} (hx:x<2 ^ 64) (h0:x≠0) (h:AHeap) :
    R E 42 [.c (.int .u64 x)] h=some ([.c (.int .i64 (Go.Lib.ctz 64 x))],h):=by
  refine R_intro hE.fn ?_
  have hne:((x:Int)==0)=false:=by rw [beq_eq_false_iff_ne];omega
  obtain ⟨q1,q2⟩:=Go.Lib.lowest_bit 64 x h0 hx
  rw [q42_eq,hne,neg_wrap hx h0,g_band hx (by omega),q1,mul_wrap]
  dsimp only
  rw [shr58]
  simp only [Bool.false_eq_true,if_false]
  obtain ⟨d1,d2⟩:=Go.Lib.deBruijn64_at (Go.Lib.ctz 64 x) q2
  generalize Go.Lib.ctz 64 x=k at *
  generalize 2 ^ k*285870213051353865 % 18446744073709551616 / 288230376151711744=i at *
  have hc:(E.glob.tab 1)[0+(i:Int).toNat*1]? = some (.int .u8 (k:Int)):=by
    rw [Int.toNat_natCast,Nat.mul_one,Nat.zero_add]
    show (E.tab 1)[i]? = _
    rw [htab i d1,getD_some deB_len d1 d2]
    rfl
  have hi:0≤(i:Int)∧(i:Int)<((64:Nat):Int):=⟨Int.natCast_nonneg _,by exact_mod_cast d1⟩
  rw [if_pos hi,atK_ok hc,asI_ok,g_wrap_i64 (by omega) (by omega)]
end Jq

namespace Jq
open Go
def bitsL (s:Nat):List Nat:=(List.range 64).filter fun i=>s.testBit i
theorem mem_bitsL {s i:Nat}:i∈bitsL s↔i<64∧s.testBit i=true:=by simp [bitsL]
theorem low_form {s:Nat} (hs:s<2 ^ 64) (h0:s≠0):∃m,s=2 ^ (Lib.ctz 64 s+1)*m+2 ^ Lib.ctz 64 s∧Lib.ctz 64 s<64:=by
  have:Lib.ctz 64 s=Lib.ctzFrom 64 s:=by unfold Lib.ctz;rw [if_neg h0]
  rw [this]
  obtain ⟨m,h1,h2⟩:=Lib.ctzFrom_spec 64 s (by omega) hs
  refine ⟨m,?_,h2⟩
  conv=>lhs;rw [h1]
  rw [Nat.mul_add,Nat.mul_one,←Nat.mul_assoc,Nat.pow_succ]
theorem low_bit {s:Nat} (hs:s<2 ^ 64) (h0:s≠0):s.testBit (Lib.ctz 64 s)=true∧(∀j,j<Lib.ctz 64 s→s.testBit j=false)∧∀j,(s &&& (s - 1)).testBit j=(s.testBit j&&decide (j≠Lib.ctz 64 s)):=by
  obtain ⟨m,h1,h2⟩:=low_form hs h0
  generalize Lib.ctz 64 s=k at h1 h2
  have hp:0<2 ^ k:=Nat.two_pow_pos k
  have hlt:2 ^ k<2 ^ (k+1):=by rw [Nat.pow_succ];omega
  have t1:∀j,s.testBit j=if j<k+1 then decide (j=k) else m.testBit (j - (k+1)):=by
    intro j
    rw [h1,Nat.testBit_two_pow_mul_add _ hlt]
    split
    · rw [Nat.testBit_two_pow,Bool.eq_iff_iff];simp;exact eq_comm
    · rfl
  have t2:∀j,(s - 1).testBit j=if j<k+1 then decide (j<k) else m.testBit (j - (k+1)):=by
    intro j
    have:s - 1=2 ^ (k+1)*m+(2 ^ k - 1):=by omega
    rw [this,Nat.testBit_two_pow_mul_add _ (by omega)]
    split
    · rw [Nat.testBit_two_pow_sub_one]
    · rfl
  refine ⟨by rw [t1,if_pos (by omega)];simp,fun j hj=>by rw [t1,if_pos (by omega)];simp;omega,fun j=>?_⟩
  rw [Nat.testBit_and,t1,t2]
  split
  · rw [Bool.eq_iff_iff];simp;omega
  · rename_i hj
    have:decide (j≠k)=true:=by simp;omega
    rw [this,Bool.and_self,Bool.and_true]
theorem bitsL_cons {s:Nat} (hs:s<2 ^ 64) (h0:s≠0):bitsL s=Lib.ctz 64 s :: bitsL (s &&& (s - 1)):=by
  obtain ⟨b1,b2,b3⟩:=low_bit hs h0
  obtain ⟨_,_,hk⟩:=low_form hs h0
  generalize Lib.ctz 64 s=k at b1 b2 b3 hk
  unfold bitsL
  have hr:List.range 64=List.range k++k :: List.range' (k+1) (64 - (k+1)):=by
    rw [List.range_eq_range',List.range_eq_range']
    have:(64:Nat)=k+(1+(64 - (k+1))):=by omega
    conv=>lhs;rw [this]
    rw [List.range'_append_1.symm,Nat.zero_add,Nat.add_comm 1,List.range'_succ]
  rw [hr,List.filter_append,List.filter_append,List.filter_cons,List.filter_cons,if_pos b1,b3 k]
  have e1:(List.range k).filter (fun i=>s.testBit i)=[]:=List.filter_eq_nil_iff.2 fun x hx=>by rw [b2 x (by simpa using hx)];simp
  have e2:(List.range k).filter (fun i=>(s &&& (s - 1)).testBit i)=[]:=List.filter_eq_nil_iff.2 fun x hx=>by rw [b3,b2 x (by simpa using hx)];simp
  rw [e1,e2,List.nil_append,List.nil_append,if_neg (by simp)]
  congr 1
  refine List.filter_congr fun x hx=>?_
  rw [List.mem_range'_1] at hx
  rw [b3]
  have:decide (x≠k)=true:=by simp;omega
  rw [this,Bool.and_true]
theorem and_pred_lt {s:Nat} (h0:s≠0):s &&& (s - 1)<s:=Nat.lt_of_le_of_lt Nat.and_le_right (by omega)
theorem bitsL_zero:bitsL 0=[]:=by decide
theorem bitsL_nil {s:Nat} (hs:s<2 ^ 64):bitsL s=[]↔s=0:=by
  constructor
  · intro h
    by_cases h0:s=0
    · exact h0
    · rw [bitsL_cons hs h0] at h;cases h
  · rintro rfl;exact bitsL_zero
def firstI (s:Nat):Int:=if s=0 then -1 else Lib.ctz 64 s
def TabOk (E:Env):Prop:=∀k,k<64→(E.tab 1)[k]? = (Lib.deBruijn64tab[k]?).map fun (n:Nat)=>Cell.int .u8 (n:Int)
variable {E:Env}
theorem First_R (hE:q38_In E) (ht:TabOk E) {s:Nat} (hs:s<2 ^ 64) (h:AHeap):R E 38 [.c (.int .u64 s)] h=some ([.c (.int .i64 (firstI s))],h):=by
  refine R_intro hE.fn ?_
  rw [q38_eq]
  unfold firstI
  by_cases h0:s=0
  · subst h0;simp
  · have hne:((s:Int)==0)=false:=by rw [beq_eq_false_iff_ne];omega
    rw [hne,if_neg h0]
    simp only [Bool.false_eq_true,if_false]
    rw [TrailingZeros_R hE.c42 ht hs h0,c1_ok,asI_ok]
def natC (l:List Nat):List Cell:=intC .i64 (l.map fun (n:Nat)=>(n:Int))
theorem natC_snoc (l:List Nat) (n:Nat):natC (l++[n])=natC l++[.int .i64 n]:=by simp [natC,intC]
theorem natC_get {l:List Nat} {i n:Nat} (h:l[i]? = some n):(natC l)[i]? = some (.int .i64 n):=by simp [natC,intC,h]
def ofL (l:List Int):Nat:=l.foldl (fun s i=>s ||| bitI i) 0
def nextN (s:Nat):Nat :=
  if s=0 then 0 else
    let up:=(s+2 ^ Lib.ctz 64 s) % 2 ^ 64
    if up=0 then 0 else up ||| (((s ^^^ up) >>> 2) >>> Lib.ctz 64 s)
end Jq

namespace Go.Proofs.YtjamopobfdnlkaaDoor.LRaceFree
open Go Jq
def seatFn:Nat→Nat
  | 3=>10
  | 9=>19
  | 10=>21
  | 12=>24
  | 14=>42
  | 16=>26
  | 17=>27
  | 18=>39
  | 19=>45
  | 38=>54
  | 40=>41
  | 41=>43
  | 42=>60
  | 76=>5
  | 80=>89
  | 81=>36
  | 92=>51
  | 93=>59
  | 94=>67
  | 97=>15
  | 101=>14
  | 102=>74
  | 104=>32
  | 105=>71
  | 106=>90
  | 107=>38
  | 108=>96
  | 109=>87
  | 110=>49
  | 111=>37
  | 113=>85
  | 114=>84
  | 115=>31
  | 119=>83
  | 121=>29
  | 122=>30
  | 123=>50
  | 124=>98
  | 125=>97
  | 139=>99
  | 148=>77
  | 155=>78
  | 156=>93
  | 158=>75
  | 159=>80
  | 163=>94
  | 164=>95
  | 171=>61
  | 172=>64
  | 173=>62
  | 174=>58
  | 175=>57
  | 180=>16
  | 181=>18
  | 182=>17
  | 186=>6
  | 188=>65
  | 189=>66
  | 190=>68
  | 191=>72
  | 192=>73
  | 193=>69
  | 194=>70
  | 195=>63
  | 196=>33
  | 197=>34
  | 198=>35
  | 200=>76
  | 201=>79
  | 202=>81
  | 203=>82
  | 204=>92
  | 205=>86
  | 206=>88
  | 207=>91
  | 254=>7
  | 255=>8
  | 256=>9
  | 257=>11
  | 258=>12
  | 259=>13
  | 265=>20
  | 266=>22
  | 267=>23
  | 268=>25
  | 269=>28
  | 271=>47
  | 273=>40
  | 274=>44
  | 275=>46
  | 276=>48
  | 278=>56
  | 282=>53
  | 283=>52
  | 284=>55
  | 414=>4
  | _=>0
def envFn:Nat→Option Jq.Fn
  | 3=>some q3
  | 9=>some q9
  | 10=>some q10
  | 12=>some q12
  | 14=>some q14
  | 16=>some q16
  | 17=>some q17
  | 18=>some q18
  | 19=>some q19
  | 38=>some q38
  | 40=>some q40
  | 41=>some q41
  | 42=>some q42
  | 76=>some q76
  | 80=>some q80
  | 81=>some q81
  | 92=>some q92
  | 93=>some q93
  | 94=>some q94
  | 97=>some q97
  | 101=>some q101
  | 102=>some q102
  | 104=>some q104
  | 105=>some q105
  | 106=>some q106
  | 107=>some q107
  | 108=>some q108
  | 109=>some q109
  | 110=>some q110
  | 111=>some q111
  | 113=>some q113
  | 114=>some q114
  | 115=>some q115
  | 119=>some q119
  | 121=>some q121
  | 122=>some q122
  | 123=>some q123
  | 124=>some q124
  | 125=>some q125
  | 139=>some q139
  | 148=>some q148
  | 155=>some q155
  | 156=>some q156
  | 158=>some q158
  | 159=>some q159
  | 163=>some q163
  | 164=>some q164
  | 171=>some q171
  | 172=>some q172
  | 173=>some q173
  | 174=>some q174
  | 175=>some q175
  | 180=>some q180
  | 181=>some q181
  | 182=>some q182
  | 186=>some q186
  | 188=>some q188
  | 189=>some q189
  | 190=>some q190
  | 191=>some q191
  | 192=>some q192
  | 193=>some q193
  | 194=>some q194
  | 195=>some q195
  | 196=>some q196
  | 197=>some q197
  | 198=>some q198
  | 200=>some q200
  | 201=>some q201
  | 202=>some q202
  | 203=>some q203
  | 204=>some q204
  | 205=>some q205
  | 206=>some q206
  | 207=>some q207
  | 254=>some q254
  | 255=>some q255
  | 256=>some q256
  | 257=>some q257
  | 258=>some q258
  | 259=>some q259
  | 265=>some q265
  | 266=>some q266
  | 267=>some q267
  | 268=>some q268
  | 269=>some q269
  | 271=>some q271
  | 273=>some q273
  | 274=>some q274
  | 275=>some q275
  | 276=>some q276
  | 278=>some q278
  | 282=>some q282
  | 283=>some q283
  | 284=>some q284
  | 414=>some q414
  | _=>none
def deB:List Int:=[0,1,56,2,57,49,28,3,61,58,42,50,38,29,17,4,62,47,59,36,45,43,51,22,53,39,33,30,24,18,12,5,63,55,48,27,60,41,37,16,46,35,44,21,52,32,23,11,54,26,40,15,34,20,31,10,25,14,19,9,13,8,7,6]
def seatTab:Nat→List Cell:=fun k=>if k=1 then deB.map (Cell.int .u8) else []
noncomputable def seat:Seat:={ P:=Tryd.prog,fn:=seatFn,gl:=fun _=>0,tab:=seatTab }
def env:Env:={ fn:=envFn,tab:=seatTab }
theorem tabOk:TabOk env:=by
  have:∀k,k<64→(seatTab 1)[k]? = (Lib.deBruijn64tab[k]?).map fun (n:Nat)=>Cell.int .u8 (n:Int):=by decide +kernel
  exact this
theorem mixed:true=true→seat.P.follows .mixedOrders=true:=fun _=>by kernel_rfl
theorem ok_3:FnOk seat 3 q3:=⟨⟨Tryd.f10,_,drK seat true,Tryd.func10,rfl,by kernel_rfl,by kernel_rfl,by kernel_rfl,by kernel_rfl,fun _ _ h=>draw_sound mixed h⟩⟩
theorem ok_9:FnOk seat 9 q9:=⟨⟨Tryd.f19,_,drK seat true,Tryd.func19,rfl,by kernel_rfl,by kernel_rfl,by kernel_rfl,by kernel_rfl,fun _ _ h=>draw_sound mixed h⟩⟩
theorem ok_10:FnOk seat 10 q10:=⟨⟨Tryd.f21,_,drK seat true,Tryd.func21,rfl,by kernel_rfl,by kernel_rfl,by kernel_rfl,by kernel_rfl,fun _ _ h=>draw_sound mixed h⟩⟩
theorem ok_12:FnOk seat 12 q12:=⟨⟨Tryd.f24,_,drK seat true,Tryd.func24,rfl,by kernel_rfl,by kernel_rfl,by kernel_rfl,by kernel_rfl,fun _ _ h=>draw_sound mixed h⟩⟩
theorem ok_14:FnOk seat 14 q14:=⟨⟨Tryd.f42,_,drK seat true,Tryd.func42,rfl,by kernel_rfl,by kernel_rfl,by kernel_rfl,by kernel_rfl,fun _ _ h=>draw_sound mixed h⟩⟩
theorem ok_16:FnOk seat 16 q16:=⟨⟨Tryd.f26,_,drK seat true,Tryd.func26,rfl,by kernel_rfl,by kernel_rfl,by kernel_rfl,by kernel_rfl,fun _ _ h=>draw_sound mixed h⟩⟩
theorem ok_17:FnOk seat 17 q17:=⟨⟨Tryd.f27,_,drK seat true,Tryd.func27,rfl,by kernel_rfl,by kernel_rfl,by kernel_rfl,by kernel_rfl,fun _ _ h=>draw_sound mixed h⟩⟩
theorem ok_18:FnOk seat 18 q18:=⟨⟨Tryd.f39,_,drK seat true,Tryd.func39,rfl,by kernel_rfl,by kernel_rfl,by kernel_rfl,by kernel_rfl,fun _ _ h=>draw_sound mixed h⟩⟩
theorem ok_19:FnOk seat 19 q19:=⟨⟨Tryd.f45,_,drK seat true,Tryd.func45,rfl,by kernel_rfl,by kernel_rfl,by kernel_rfl,by kernel_rfl,fun _ _ h=>draw_sound mixed h⟩⟩
theorem ok_38:FnOk seat 38 q38:=⟨⟨Tryd.f54,_,drK seat true,Tryd.func54,rfl,by kernel_rfl,by kernel_rfl,by kernel_rfl,by kernel_rfl,fun _ _ h=>draw_sound mixed h⟩⟩
theorem ok_40:FnOk seat 40 q40:=⟨⟨Tryd.f41,_,drK seat true,Tryd.func41,rfl,by kernel_rfl,by kernel_rfl,by kernel_rfl,by kernel_rfl,fun _ _ h=>draw_sound mixed h⟩⟩
theorem ok_41:FnOk seat 41 q41:=⟨⟨Tryd.f43,_,drK seat true,Tryd.func43,rfl,by kernel_rfl,by kernel_rfl,by kernel_rfl,by kernel_rfl,fun _ _ h=>draw_sound mixed h⟩⟩
theorem ok_42:FnOk seat 42 q42:=⟨⟨Tryd.f60,_,drK seat true,Tryd.func60,rfl,by kernel_rfl,by kernel_rfl,by kernel_rfl,by kernel_rfl,fun _ _ h=>draw_sound mixed h⟩⟩
theorem ok_76:FnOk seat 76 q76:=⟨⟨Tryd.f5,_,drK seat true,Tryd.func5,rfl,by kernel_rfl,by kernel_rfl,by kernel_rfl,by kernel_rfl,fun _ _ h=>draw_sound mixed h⟩⟩
theorem ok_80:FnOk seat 80 q80:=⟨⟨Tryd.f89,_,drK seat true,Tryd.func89,rfl,by kernel_rfl,by kernel_rfl,by kernel_rfl,by kernel_rfl,fun _ _ h=>draw_sound mixed h⟩⟩
theorem ok_81:FnOk seat 81 q81:=⟨⟨Tryd.f36,_,drK seat true,Tryd.func36,rfl,by kernel_rfl,by kernel_rfl,by kernel_rfl,by kernel_rfl,fun _ _ h=>draw_sound mixed h⟩⟩
theorem ok_92:FnOk seat 92 q92:=⟨⟨Tryd.f51,_,drK seat true,Tryd.func51,rfl,by kernel_rfl,by kernel_rfl,by kernel_rfl,by kernel_rfl,fun _ _ h=>draw_sound mixed h⟩⟩
theorem ok_93:FnOk seat 93 q93:=⟨⟨Tryd.f59,_,drK seat true,Tryd.func59,rfl,by kernel_rfl,by kernel_rfl,by kernel_rfl,by kernel_rfl,fun _ _ h=>draw_sound mixed h⟩⟩
theorem ok_94:FnOk seat 94 q94:=⟨⟨Tryd.f67,_,drK seat true,Tryd.func67,rfl,by kernel_rfl,by kernel_rfl,by kernel_rfl,by kernel_rfl,fun _ _ h=>draw_sound mixed h⟩⟩
theorem ok_97:FnOk seat 97 q97:=⟨⟨Tryd.f15,_,drK seat true,Tryd.func15,rfl,by kernel_rfl,by kernel_rfl,by kernel_rfl,by kernel_rfl,fun _ _ h=>draw_sound mixed h⟩⟩
theorem ok_101:FnOk seat 101 q101:=⟨⟨Tryd.f14,_,drK seat true,Tryd.func14,rfl,by kernel_rfl,by kernel_rfl,by kernel_rfl,by kernel_rfl,fun _ _ h=>draw_sound mixed h⟩⟩
theorem ok_102:FnOk seat 102 q102:=⟨⟨Tryd.f74,_,drK seat true,Tryd.func74,rfl,by kernel_rfl,by kernel_rfl,by kernel_rfl,by kernel_rfl,fun _ _ h=>draw_sound mixed h⟩⟩
theorem ok_104:FnOk seat 104 q104:=⟨⟨Tryd.f32,_,drK seat true,Tryd.func32,rfl,by kernel_rfl,by kernel_rfl,by kernel_rfl,by kernel_rfl,fun _ _ h=>draw_sound mixed h⟩⟩
theorem ok_105:FnOk seat 105 q105:=⟨⟨Tryd.f71,_,drK seat true,Tryd.func71,rfl,by kernel_rfl,by kernel_rfl,by kernel_rfl,by kernel_rfl,fun _ _ h=>draw_sound mixed h⟩⟩
theorem ok_106:FnOk seat 106 q106:=⟨⟨Tryd.f90,_,drK seat true,Tryd.func90,rfl,by kernel_rfl,by kernel_rfl,by kernel_rfl,by kernel_rfl,fun _ _ h=>draw_sound mixed h⟩⟩
theorem ok_107:FnOk seat 107 q107:=⟨⟨Tryd.f38,_,drK seat true,Tryd.func38,rfl,by kernel_rfl,by kernel_rfl,by kernel_rfl,by kernel_rfl,fun _ _ h=>draw_sound mixed h⟩⟩
theorem ok_108:FnOk seat 108 q108:=⟨⟨Tryd.f96,_,drK seat true,Tryd.func96,rfl,by kernel_rfl,by kernel_rfl,by kernel_rfl,by kernel_rfl,fun _ _ h=>draw_sound mixed h⟩⟩
theorem ok_109:FnOk seat 109 q109:=⟨⟨Tryd.f87,_,drK seat true,Tryd.func87,rfl,by kernel_rfl,by kernel_rfl,by kernel_rfl,by kernel_rfl,fun _ _ h=>draw_sound mixed h⟩⟩
theorem ok_110:FnOk seat 110 q110:=⟨⟨Tryd.f49,_,drK seat true,Tryd.func49,rfl,by kernel_rfl,by kernel_rfl,by kernel_rfl,by kernel_rfl,fun _ _ h=>draw_sound mixed h⟩⟩
theorem ok_111:FnOk seat 111 q111:=⟨⟨Tryd.f37,_,drK seat true,Tryd.func37,rfl,by kernel_rfl,by kernel_rfl,by kernel_rfl,by kernel_rfl,fun _ _ h=>draw_sound mixed h⟩⟩
theorem ok_113:FnOk seat 113 q113:=⟨⟨Tryd.f85,_,drK seat true,Tryd.func85,rfl,by kernel_rfl,by kernel_rfl,by kernel_rfl,by kernel_rfl,fun _ _ h=>draw_sound mixed h⟩⟩
theorem ok_114:FnOk seat 114 q114:=⟨⟨Tryd.f84,_,drK seat true,Tryd.func84,rfl,by kernel_rfl,by kernel_rfl,by kernel_rfl,by kernel_rfl,fun _ _ h=>draw_sound mixed h⟩⟩
theorem ok_115:FnOk seat 115 q115:=⟨⟨Tryd.f31,_,drK seat true,Tryd.func31,rfl,by kernel_rfl,by kernel_rfl,by kernel_rfl,by kernel_rfl,fun _ _ h=>draw_sound mixed h⟩⟩
theorem ok_119:FnOk seat 119 q119:=⟨⟨Tryd.f83,_,drK seat true,Tryd.func83,rfl,by kernel_rfl,by kernel_rfl,by kernel_rfl,by kernel_rfl,fun _ _ h=>draw_sound mixed h⟩⟩
theorem ok_121:FnOk seat 121 q121:=⟨⟨Tryd.f29,_,drK seat true,Tryd.func29,rfl,by kernel_rfl,by kernel_rfl,by kernel_rfl,by kernel_rfl,fun _ _ h=>draw_sound mixed h⟩⟩
theorem ok_122:FnOk seat 122 q122:=⟨⟨Tryd.f30,_,drK seat true,Tryd.func30,rfl,by kernel_rfl,by kernel_rfl,by kernel_rfl,by kernel_rfl,fun _ _ h=>draw_sound mixed h⟩⟩
theorem ok_123:FnOk seat 123 q123:=⟨⟨Tryd.f50,_,drK seat true,Tryd.func50,rfl,by kernel_rfl,by kernel_rfl,by kernel_rfl,by kernel_rfl,fun _ _ h=>draw_sound mixed h⟩⟩
theorem ok_124:FnOk seat 124 q124:=⟨⟨Tryd.f98,_,drK seat true,Tryd.func98,rfl,by kernel_rfl,by kernel_rfl,by kernel_rfl,by kernel_rfl,fun _ _ h=>draw_sound mixed h⟩⟩
theorem ok_125:FnOk seat 125 q125:=⟨⟨Tryd.f97,_,drK seat true,Tryd.func97,rfl,by kernel_rfl,by kernel_rfl,by kernel_rfl,by kernel_rfl,fun _ _ h=>draw_sound mixed h⟩⟩
theorem ok_139:FnOk seat 139 q139:=⟨⟨Tryd.f99,_,drK seat true,Tryd.func99,rfl,by kernel_rfl,by kernel_rfl,by kernel_rfl,by kernel_rfl,fun _ _ h=>draw_sound mixed h⟩⟩
theorem ok_148:FnOk seat 148 q148:=⟨⟨Tryd.f77,_,drK seat true,Tryd.func77,rfl,by kernel_rfl,by kernel_rfl,by kernel_rfl,by kernel_rfl,fun _ _ h=>draw_sound mixed h⟩⟩
theorem ok_155:FnOk seat 155 q155:=⟨⟨Tryd.f78,_,drK seat true,Tryd.func78,rfl,by kernel_rfl,by kernel_rfl,by kernel_rfl,by kernel_rfl,fun _ _ h=>draw_sound mixed h⟩⟩
theorem ok_156:FnOk seat 156 q156:=⟨⟨Tryd.f93,_,drK seat true,Tryd.func93,rfl,by kernel_rfl,by kernel_rfl,by kernel_rfl,by kernel_rfl,fun _ _ h=>draw_sound mixed h⟩⟩
theorem ok_158:FnOk seat 158 q158:=⟨⟨Tryd.f75,_,drK seat true,Tryd.func75,rfl,by kernel_rfl,by kernel_rfl,by kernel_rfl,by kernel_rfl,fun _ _ h=>draw_sound mixed h⟩⟩
theorem ok_159:FnOk seat 159 q159:=⟨⟨Tryd.f80,_,drK seat true,Tryd.func80,rfl,by kernel_rfl,by kernel_rfl,by kernel_rfl,by kernel_rfl,fun _ _ h=>draw_sound mixed h⟩⟩
theorem ok_163:FnOk seat 163 q163:=⟨⟨Tryd.f94,_,drK seat true,Tryd.func94,rfl,by kernel_rfl,by kernel_rfl,by kernel_rfl,by kernel_rfl,fun _ _ h=>draw_sound mixed h⟩⟩
theorem ok_164:FnOk seat 164 q164:=⟨⟨Tryd.f95,_,drK seat true,Tryd.func95,rfl,by kernel_rfl,by kernel_rfl,by kernel_rfl,by kernel_rfl,fun _ _ h=>draw_sound mixed h⟩⟩
theorem ok_171:FnOk seat 171 q171:=⟨⟨Tryd.f61,_,drK seat true,Tryd.func61,rfl,by kernel_rfl,by kernel_rfl,by kernel_rfl,by kernel_rfl,fun _ _ h=>draw_sound mixed h⟩⟩
theorem ok_172:FnOk seat 172 q172:=⟨⟨Tryd.f64,_,drK seat true,Tryd.func64,rfl,by kernel_rfl,by kernel_rfl,by kernel_rfl,by kernel_rfl,fun _ _ h=>draw_sound mixed h⟩⟩
theorem ok_173:FnOk seat 173 q173:=⟨⟨Tryd.f62,_,drK seat true,Tryd.func62,rfl,by kernel_rfl,by kernel_rfl,by kernel_rfl,by kernel_rfl,fun _ _ h=>draw_sound mixed h⟩⟩
theorem ok_174:FnOk seat 174 q174:=⟨⟨Tryd.f58,_,drK seat true,Tryd.func58,rfl,by kernel_rfl,by kernel_rfl,by kernel_rfl,by kernel_rfl,fun _ _ h=>draw_sound mixed h⟩⟩
theorem ok_175:FnOk seat 175 q175:=⟨⟨Tryd.f57,_,drK seat true,Tryd.func57,rfl,by kernel_rfl,by kernel_rfl,by kernel_rfl,by kernel_rfl,fun _ _ h=>draw_sound mixed h⟩⟩
theorem ok_180:FnOk seat 180 q180:=⟨⟨Tryd.f16,_,drK seat true,Tryd.func16,rfl,by kernel_rfl,by kernel_rfl,by kernel_rfl,by kernel_rfl,fun _ _ h=>draw_sound mixed h⟩⟩
theorem ok_181:FnOk seat 181 q181:=⟨⟨Tryd.f18,_,drK seat true,Tryd.func18,rfl,by kernel_rfl,by kernel_rfl,by kernel_rfl,by kernel_rfl,fun _ _ h=>draw_sound mixed h⟩⟩
theorem ok_182:FnOk seat 182 q182:=⟨⟨Tryd.f17,_,drK seat true,Tryd.func17,rfl,by kernel_rfl,by kernel_rfl,by kernel_rfl,by kernel_rfl,fun _ _ h=>draw_sound mixed h⟩⟩
theorem ok_186:FnOk seat 186 q186:=⟨⟨Tryd.f6,_,drK seat true,Tryd.func6,rfl,by kernel_rfl,by kernel_rfl,by kernel_rfl,by kernel_rfl,fun _ _ h=>draw_sound mixed h⟩⟩
theorem ok_188:FnOk seat 188 q188:=⟨⟨Tryd.f65,_,drK seat true,Tryd.func65,rfl,by kernel_rfl,by kernel_rfl,by kernel_rfl,by kernel_rfl,fun _ _ h=>draw_sound mixed h⟩⟩
theorem ok_189:FnOk seat 189 q189:=⟨⟨Tryd.f66,_,drK seat true,Tryd.func66,rfl,by kernel_rfl,by kernel_rfl,by kernel_rfl,by kernel_rfl,fun _ _ h=>draw_sound mixed h⟩⟩
theorem ok_190:FnOk seat 190 q190:=⟨⟨Tryd.f68,_,drK seat true,Tryd.func68,rfl,by kernel_rfl,by kernel_rfl,by kernel_rfl,by kernel_rfl,fun _ _ h=>draw_sound mixed h⟩⟩
theorem ok_191:FnOk seat 191 q191:=⟨⟨Tryd.f72,_,drK seat true,Tryd.func72,rfl,by kernel_rfl,by kernel_rfl,by kernel_rfl,by kernel_rfl,fun _ _ h=>draw_sound mixed h⟩⟩
theorem ok_192:FnOk seat 192 q192:=⟨⟨Tryd.f73,_,drK seat true,Tryd.func73,rfl,by kernel_rfl,by kernel_rfl,by kernel_rfl,by kernel_rfl,fun _ _ h=>draw_sound mixed h⟩⟩
theorem ok_193:FnOk seat 193 q193:=⟨⟨Tryd.f69,_,drK seat true,Tryd.func69,rfl,by kernel_rfl,by kernel_rfl,by kernel_rfl,by kernel_rfl,fun _ _ h=>draw_sound mixed h⟩⟩
theorem ok_194:FnOk seat 194 q194:=⟨⟨Tryd.f70,_,drK seat true,Tryd.func70,rfl,by kernel_rfl,by kernel_rfl,by kernel_rfl,by kernel_rfl,fun _ _ h=>draw_sound mixed h⟩⟩
theorem ok_195:FnOk seat 195 q195:=⟨⟨Tryd.f63,_,drK seat true,Tryd.func63,rfl,by kernel_rfl,by kernel_rfl,by kernel_rfl,by kernel_rfl,fun _ _ h=>draw_sound mixed h⟩⟩
theorem ok_196:FnOk seat 196 q196:=⟨⟨Tryd.f33,_,drK seat true,Tryd.func33,rfl,by kernel_rfl,by kernel_rfl,by kernel_rfl,by kernel_rfl,fun _ _ h=>draw_sound mixed h⟩⟩
theorem ok_197:FnOk seat 197 q197:=⟨⟨Tryd.f34,_,drK seat true,Tryd.func34,rfl,by kernel_rfl,by kernel_rfl,by kernel_rfl,by kernel_rfl,fun _ _ h=>draw_sound mixed h⟩⟩
theorem ok_198:FnOk seat 198 q198:=⟨⟨Tryd.f35,_,drK seat true,Tryd.func35,rfl,by kernel_rfl,by kernel_rfl,by kernel_rfl,by kernel_rfl,fun _ _ h=>draw_sound mixed h⟩⟩
theorem ok_200:FnOk seat 200 q200:=⟨⟨Tryd.f76,_,drK seat true,Tryd.func76,rfl,by kernel_rfl,by kernel_rfl,by kernel_rfl,by kernel_rfl,fun _ _ h=>draw_sound mixed h⟩⟩
theorem ok_201:FnOk seat 201 q201:=⟨⟨Tryd.f79,_,drK seat true,Tryd.func79,rfl,by kernel_rfl,by kernel_rfl,by kernel_rfl,by kernel_rfl,fun _ _ h=>draw_sound mixed h⟩⟩
theorem ok_202:FnOk seat 202 q202:=⟨⟨Tryd.f81,_,drK seat true,Tryd.func81,rfl,by kernel_rfl,by kernel_rfl,by kernel_rfl,by kernel_rfl,fun _ _ h=>draw_sound mixed h⟩⟩
theorem ok_203:FnOk seat 203 q203:=⟨⟨Tryd.f82,_,drK seat true,Tryd.func82,rfl,by kernel_rfl,by kernel_rfl,by kernel_rfl,by kernel_rfl,fun _ _ h=>draw_sound mixed h⟩⟩
theorem ok_204:FnOk seat 204 q204:=⟨⟨Tryd.f92,_,drK seat true,Tryd.func92,rfl,by kernel_rfl,by kernel_rfl,by kernel_rfl,by kernel_rfl,fun _ _ h=>draw_sound mixed h⟩⟩
theorem ok_205:FnOk seat 205 q205:=⟨⟨Tryd.f86,_,drK seat true,Tryd.func86,rfl,by kernel_rfl,by kernel_rfl,by kernel_rfl,by kernel_rfl,fun _ _ h=>draw_sound mixed h⟩⟩
theorem ok_206:FnOk seat 206 q206:=⟨⟨Tryd.f88,_,drK seat true,Tryd.func88,rfl,by kernel_rfl,by kernel_rfl,by kernel_rfl,by kernel_rfl,fun _ _ h=>draw_sound mixed h⟩⟩
theorem ok_207:FnOk seat 207 q207:=⟨⟨Tryd.f91,_,drK seat true,Tryd.func91,rfl,by kernel_rfl,by kernel_rfl,by kernel_rfl,by kernel_rfl,fun _ _ h=>draw_sound mixed h⟩⟩
theorem ok_254:FnOk seat 254 q254:=⟨⟨Tryd.f7,_,drK seat true,Tryd.func7,rfl,by kernel_rfl,by kernel_rfl,by kernel_rfl,by kernel_rfl,fun _ _ h=>draw_sound mixed h⟩⟩
theorem ok_255:FnOk seat 255 q255:=⟨⟨Tryd.f8,_,drK seat true,Tryd.func8,rfl,by kernel_rfl,by kernel_rfl,by kernel_rfl,by kernel_rfl,fun _ _ h=>draw_sound mixed h⟩⟩
theorem ok_256:FnOk seat 256 q256:=⟨⟨Tryd.f9,_,drK seat true,Tryd.func9,rfl,by kernel_rfl,by kernel_rfl,by kernel_rfl,by kernel_rfl,fun _ _ h=>draw_sound mixed h⟩⟩
theorem ok_257:FnOk seat 257 q257:=⟨⟨Tryd.f11,_,drK seat true,Tryd.func11,rfl,by kernel_rfl,by kernel_rfl,by kernel_rfl,by kernel_rfl,fun _ _ h=>draw_sound mixed h⟩⟩
theorem ok_258:FnOk seat 258 q258:=⟨⟨Tryd.f12,_,drK seat true,Tryd.func12,rfl,by kernel_rfl,by kernel_rfl,by kernel_rfl,by kernel_rfl,fun _ _ h=>draw_sound mixed h⟩⟩
theorem ok_259:FnOk seat 259 q259:=⟨⟨Tryd.f13,_,drK seat true,Tryd.func13,rfl,by kernel_rfl,by kernel_rfl,by kernel_rfl,by kernel_rfl,fun _ _ h=>draw_sound mixed h⟩⟩
theorem ok_265:FnOk seat 265 q265:=⟨⟨Tryd.f20,_,drK seat true,Tryd.func20,rfl,by kernel_rfl,by kernel_rfl,by kernel_rfl,by kernel_rfl,fun _ _ h=>draw_sound mixed h⟩⟩
theorem ok_266:FnOk seat 266 q266:=⟨⟨Tryd.f22,_,drK seat true,Tryd.func22,rfl,by kernel_rfl,by kernel_rfl,by kernel_rfl,by kernel_rfl,fun _ _ h=>draw_sound mixed h⟩⟩
theorem ok_267:FnOk seat 267 q267:=⟨⟨Tryd.f23,_,drK seat true,Tryd.func23,rfl,by kernel_rfl,by kernel_rfl,by kernel_rfl,by kernel_rfl,fun _ _ h=>draw_sound mixed h⟩⟩
theorem ok_268:FnOk seat 268 q268:=⟨⟨Tryd.f25,_,drK seat true,Tryd.func25,rfl,by kernel_rfl,by kernel_rfl,by kernel_rfl,by kernel_rfl,fun _ _ h=>draw_sound mixed h⟩⟩
theorem ok_269:FnOk seat 269 q269:=⟨⟨Tryd.f28,_,drK seat true,Tryd.func28,rfl,by kernel_rfl,by kernel_rfl,by kernel_rfl,by kernel_rfl,fun _ _ h=>draw_sound mixed h⟩⟩
theorem ok_271:FnOk seat 271 q271:=⟨⟨Tryd.f47,_,drK seat true,Tryd.func47,rfl,by kernel_rfl,by kernel_rfl,by kernel_rfl,by kernel_rfl,fun _ _ h=>draw_sound mixed h⟩⟩
theorem ok_273:FnOk seat 273 q273:=⟨⟨Tryd.f40,_,drK seat true,Tryd.func40,rfl,by kernel_rfl,by kernel_rfl,by kernel_rfl,by kernel_rfl,fun _ _ h=>draw_sound mixed h⟩⟩
theorem ok_274:FnOk seat 274 q274:=⟨⟨Tryd.f44,_,drK seat true,Tryd.func44,rfl,by kernel_rfl,by kernel_rfl,by kernel_rfl,by kernel_rfl,fun _ _ h=>draw_sound mixed h⟩⟩
theorem ok_275:FnOk seat 275 q275:=⟨⟨Tryd.f46,_,drK seat true,Tryd.func46,rfl,by kernel_rfl,by kernel_rfl,by kernel_rfl,by kernel_rfl,fun _ _ h=>draw_sound mixed h⟩⟩
theorem ok_276:FnOk seat 276 q276:=⟨⟨Tryd.f48,_,drK seat true,Tryd.func48,rfl,by kernel_rfl,by kernel_rfl,by kernel_rfl,by kernel_rfl,fun _ _ h=>draw_sound mixed h⟩⟩
theorem ok_278:FnOk seat 278 q278:=⟨⟨Tryd.f56,_,drK seat true,Tryd.func56,rfl,by kernel_rfl,by kernel_rfl,by kernel_rfl,by kernel_rfl,fun _ _ h=>draw_sound mixed h⟩⟩
theorem ok_282:FnOk seat 282 q282:=⟨⟨Tryd.f53,_,drK seat true,Tryd.func53,rfl,by kernel_rfl,by kernel_rfl,by kernel_rfl,by kernel_rfl,fun _ _ h=>draw_sound mixed h⟩⟩
theorem ok_283:FnOk seat 283 q283:=⟨⟨Tryd.f52,_,drK seat true,Tryd.func52,rfl,by kernel_rfl,by kernel_rfl,by kernel_rfl,by kernel_rfl,fun _ _ h=>draw_sound mixed h⟩⟩
theorem ok_284:FnOk seat 284 q284:=⟨⟨Tryd.f55,_,drK seat true,Tryd.func55,rfl,by kernel_rfl,by kernel_rfl,by kernel_rfl,by kernel_rfl,fun _ _ h=>draw_sound mixed h⟩⟩
theorem ok_414:FnOk seat 414 q414:=⟨⟨Tryd.f4,_,drK seat true,Tryd.func4,rfl,by kernel_rfl,by kernel_rfl,by kernel_rfl,by kernel_rfl,fun _ _ h=>draw_sound mixed h⟩⟩
theorem allOk:∀g fn,env.fn g=some fn→FnOk seat g fn:=by
  intro g fn h
  unfold env envFn at h
  dsimp only at h
  split at h
  · cases h;exact ok_3
  · cases h;exact ok_9
  · cases h;exact ok_10
  · cases h;exact ok_12
  · cases h;exact ok_14
  · cases h;exact ok_16
  · cases h;exact ok_17
  · cases h;exact ok_18
  · cases h;exact ok_19
  · cases h;exact ok_38
  · cases h;exact ok_40
  · cases h;exact ok_41
  · cases h;exact ok_42
  · cases h;exact ok_76
  · cases h;exact ok_80
  · cases h;exact ok_81
  · cases h;exact ok_92
  · cases h;exact ok_93
  · cases h;exact ok_94
  · cases h;exact ok_97
  · cases h;exact ok_101
  · cases h;exact ok_102
  · cases h;exact ok_104
  · cases h;exact ok_105
  · cases h;exact ok_106
  · cases h;exact ok_107
  · cases h;exact ok_108
  · cases h;exact ok_109
  · cases h;exact ok_110
  · cases h;exact ok_111
  · cases h;exact ok_113
  · cases h;exact ok_114
  · cases h;exact ok_115
  · cases h;exact ok_119
  · cases h;exact ok_121
  · cases h;exact ok_122
  · cases h;exact ok_123
  · cases h;exact ok_124
  · cases h;exact ok_125
  · cases h;exact ok_139
  · cases h;exact ok_148
  · cases h;exact ok_155
  · cases h;exact ok_156
  · cases h;exact ok_158
  · cases h;exact ok_159
  · cases h;exact ok_163
  · cases h;exact ok_164
  · cases h;exact ok_171
  · cases h;exact ok_172
  · cases h;exact ok_173
  · cases h;exact ok_174
  · cases h;exact ok_175
  · cases h;exact ok_180
  · cases h;exact ok_181
  · cases h;exact ok_182
  · cases h;exact ok_186
  · cases h;exact ok_188
  · cases h;exact ok_189
  · cases h;exact ok_190
  · cases h;exact ok_191
  · cases h;exact ok_192
  · cases h;exact ok_193
  · cases h;exact ok_194
  · cases h;exact ok_195
  · cases h;exact ok_196
  · cases h;exact ok_197
  · cases h;exact ok_198
  · cases h;exact ok_200
  · cases h;exact ok_201
  · cases h;exact ok_202
  · cases h;exact ok_203
  · cases h;exact ok_204
  · cases h;exact ok_205
  · cases h;exact ok_206
  · cases h;exact ok_207
  · cases h;exact ok_254
  · cases h;exact ok_255
  · cases h;exact ok_256
  · cases h;exact ok_257
  · cases h;exact ok_258
  · cases h;exact ok_259
  · cases h;exact ok_265
  · cases h;exact ok_266
  · cases h;exact ok_267
  · cases h;exact ok_268
  · cases h;exact ok_269
  · cases h;exact ok_271
  · cases h;exact ok_273
  · cases h;exact ok_274
  · cases h;exact ok_275
  · cases h;exact ok_276
  · cases h;exact ok_278
  · cases h;exact ok_282
  · cases h;exact ok_283
  · cases h;exact ok_284
  · cases h;exact ok_414
  · cases h
theorem in_115:q115_In env:={ fn:=rfl }
theorem in_97:q97_In env:={ fn:=rfl,c115:=in_115 }
theorem in_121:q121_In env:={ fn:=rfl }
theorem in_122:q122_In env:={ fn:=rfl }
theorem in_101:q101_In env:={ fn:=rfl,c121:=in_121,c122:=in_122 }
theorem in_76:q76_In env:={ fn:=rfl,c97:=in_97,c101:=in_101 }
theorem in_110:q110_In env:={ fn:=rfl }
theorem in_92:q92_In env:={ fn:=rfl }
theorem in_93:q93_In env:={ fn:=rfl }
theorem in_123:q123_In env:={ fn:=rfl,c92:=in_92,c93:=in_93 }
theorem in_104:q104_In env:={ fn:=rfl,c110:=in_110,c123:=in_123 }
theorem in_180:q180_In env:={ fn:=rfl,c104:=in_104 }
theorem in_81:q81_In env:={ fn:=rfl,c110:=in_110 }
theorem in_107:q107_In env:={ fn:=rfl,c81:=in_81,c123:=in_123 }
theorem in_111:q111_In env:={ fn:=rfl,c92:=in_92 }
theorem in_197:q197_In env:={ fn:=rfl }
theorem in_198:q198_In env:={ fn:=rfl }
theorem in_196:q196_In env:={ fn:=rfl,c81:=in_81,c197:=in_197,c198:=in_198 }
theorem in_182:q182_In env:={ fn:=rfl,c81:=in_81,c107:=in_107,c111:=in_111,c196:=in_196,c197:=in_197,c198:=in_198 }
theorem in_186:q186_In env:={ fn:=rfl,c180:=in_180,c182:=in_182 }
theorem in_181:q181_In env:={ fn:=rfl,c196:=in_196 }
theorem in_254:q254_In env:={ fn:=rfl,c180:=in_180,c181:=in_181,c182:=in_182 }
theorem in_9:q9_In env:={ fn:=rfl }
theorem in_16:q16_In env:={ fn:=rfl }
theorem in_19:q19_In env:={ fn:=rfl }
theorem in_18:q18_In env:={ fn:=rfl,c19:=in_19 }
theorem in_10:q10_In env:={ fn:=rfl,c16:=in_16,c18:=in_18 }
theorem in_17:q17_In env:={ fn:=rfl,c19:=in_19 }
theorem in_12:q12_In env:={ fn:=rfl,c17:=in_17 }
theorem in_257:q257_In env:={ fn:=rfl }
theorem in_265:q265_In env:={ fn:=rfl }
theorem in_266:q266_In env:={ fn:=rfl }
theorem in_282:q282_In env:={ fn:=rfl }
theorem in_283:q283_In env:={ fn:=rfl }
theorem in_273:q273_In env:={ fn:=rfl,c257:=in_257,c282:=in_282,c283:=in_283 }
theorem in_267:q267_In env:={ fn:=rfl,c10:=in_10,c257:=in_257,c273:=in_273 }
theorem in_255:q255_In env:={ fn:=rfl,c9:=in_9,c10:=in_10,c12:=in_12,c257:=in_257,c265:=in_265,c266:=in_266,c267:=in_267 }
theorem in_3:q3_In env:={ fn:=rfl,c16:=in_16,c17:=in_17 }
theorem in_14:q14_In env:={ fn:=rfl }
theorem in_42:q42_In env:={ fn:=rfl }
theorem in_38:q38_In env:={ fn:=rfl,c42:=in_42 }
theorem in_40:q40_In env:={ fn:=rfl,c9:=in_9,c18:=in_18,c38:=in_38 }
theorem in_41:q41_In env:={ fn:=rfl,c16:=in_16 }
theorem in_274:q274_In env:={ fn:=rfl,c257:=in_257 }
theorem in_268:q268_In env:={ fn:=rfl,c3:=in_3,c14:=in_14,c40:=in_40,c41:=in_41,c274:=in_274 }
theorem in_256:q256_In env:={ fn:=rfl,c255:=in_255,c268:=in_268 }
theorem in_259:q259_In env:={ fn:=rfl,c256:=in_256 }
theorem in_113:q113_In env:={ fn:=rfl }
theorem in_105:q105_In env:={ fn:=rfl,c113:=in_113 }
theorem in_191:q191_In env:={ fn:=rfl }
theorem in_204:q204_In env:={ fn:=rfl }
theorem in_192:q192_In env:={ fn:=rfl,c204:=in_204 }
theorem in_172:q172_In env:={ fn:=rfl,c18:=in_18,c105:=in_105,c191:=in_191,c192:=in_192 }
theorem in_174:q174_In env:={ fn:=rfl,c172:=in_172 }
theorem in_195:q195_In env:={ fn:=rfl }
theorem in_175:q175_In env:={ fn:=rfl,c195:=in_195 }
theorem in_108:q108_In env:={ fn:=rfl }
theorem in_124:q124_In env:={ fn:=rfl }
theorem in_139:q139_In env:={ fn:=rfl }
theorem in_125:q125_In env:={ fn:=rfl,c139:=in_139 }
theorem in_114:q114_In env:={ fn:=rfl,c108:=in_108,c124:=in_124,c125:=in_125 }
theorem in_94:q94_In env:={ fn:=rfl,c113:=in_113,c114:=in_114 }
theorem in_102:q102_In env:={ fn:=rfl }
theorem in_148:q148_In env:={ fn:=rfl }
theorem in_156:q156_In env:={ fn:=rfl }
theorem in_155:q155_In env:={ fn:=rfl,c156:=in_156 }
theorem in_158:q158_In env:={ fn:=rfl }
theorem in_200:q200_In env:={ fn:=rfl }
theorem in_164:q164_In env:={ fn:=rfl }
theorem in_163:q163_In env:={ fn:=rfl,c164:=in_164 }
theorem in_159:q159_In env:={ fn:=rfl,c163:=in_163,c164:=in_164 }
theorem in_201:q201_In env:={ fn:=rfl,c159:=in_159 }
theorem in_188:q188_In env:={ fn:=rfl,c102:=in_102,c148:=in_148,c155:=in_155,c158:=in_158,c200:=in_200,c201:=in_201 }
theorem in_119:q119_In env:={ fn:=rfl }
theorem in_202:q202_In env:={ fn:=rfl }
theorem in_203:q203_In env:={ fn:=rfl }
theorem in_189:q189_In env:={ fn:=rfl,c119:=in_119,c202:=in_202,c203:=in_203 }
theorem in_190:q190_In env:={ fn:=rfl }
theorem in_171:q171_In env:={ fn:=rfl,c94:=in_94,c188:=in_188,c189:=in_189,c190:=in_190 }
theorem in_80:q80_In env:={ fn:=rfl }
theorem in_106:q106_In env:={ fn:=rfl,c105:=in_105,c113:=in_113,c114:=in_114,c124:=in_124 }
theorem in_109:q109_In env:={ fn:=rfl,c108:=in_108 }
theorem in_205:q205_In env:={ fn:=rfl }
theorem in_206:q206_In env:={ fn:=rfl }
theorem in_193:q193_In env:={ fn:=rfl,c80:=in_80,c105:=in_105,c106:=in_106,c109:=in_109,c205:=in_205,c206:=in_206 }
theorem in_207:q207_In env:={ fn:=rfl,c204:=in_204 }
theorem in_194:q194_In env:={ fn:=rfl,c192:=in_192,c207:=in_207 }
theorem in_173:q173_In env:={ fn:=rfl,c17:=in_17,c172:=in_172,c193:=in_193,c194:=in_194 }
theorem in_278:q278_In env:={ fn:=rfl,c171:=in_171,c173:=in_173 }
theorem in_271:q271_In env:={ fn:=rfl,c174:=in_174,c175:=in_175,c278:=in_278 }
theorem in_284:q284_In env:={ fn:=rfl }
theorem in_275:q275_In env:={ fn:=rfl,c284:=in_284 }
theorem in_276:q276_In env:={ fn:=rfl }
theorem in_269:q269_In env:={ fn:=rfl,c3:=in_3,c255:=in_255,c256:=in_256,c271:=in_271,c275:=in_275,c276:=in_276 }
theorem in_258:q258_In env:={ fn:=rfl,c186:=in_186,c256:=in_256,c259:=in_259,c269:=in_269 }
theorem in_414:q414_In env:={ fn:=rfl,c76:=in_76,c186:=in_186,c254:=in_254,c256:=in_256,c258:=in_258,c259:=in_259 }
end Go.Proofs.YtjamopobfdnlkaaDoor.LRaceFree

namespace Jq
open Go
variable (C:CallF) (L:LoopF) (G:Glo)
set_option maxRecDepth 100000 in
theorem q3_eq (l0:List Cell) (a1 a2:Int) (h0:AHeap):q3.body C L G [(.agg l0),(.c (.int .i64 a1)),(.c (.int .i64 a2))] h0=if 0=0∧l0.length=65 then c1 (C 16 [(.agg l0),(.c (.int .i64 a1))] h0) fun y_2 h_1=>asB y_2 fun b_3=>scK b_3 true (if 0≤a1∧a1<((64:Nat):Int) then atK l0 (1+((Int.toNat a1)*1)) fun q_4=>asI .u64 (.c q_4) fun n_5=>c1 (C 17 [(.c (.int .u64 n_5)),(.c (.int .i64 a2))] h_1) fun y_7 h_6=>asB y_7 fun b_8=>some (b_8,h_6) else none) false h_1 fun b_9 h_10=>some ([(.c (.bool b_9))],h_10) else none:=by kernel_rfl
set_option maxRecDepth 100000 in
theorem q9_eq (a0:Int) (h0:AHeap):q9.body C L G [(.c (.int .i64 a0))] h0=let v_1:Int:=(if 64<(if 0 > a0 then 0 else a0) then 64 else (if 0 > a0 then 0 else a0));if 0=0∧([Cell.int .i64 0]++List.replicate 64 (Cell.int .u64 0)).length=65∧(splice ([Cell.int .i64 0]++List.replicate 64 (Cell.int .u64 0)) 0 ([(.int .i64 v_1)]:List Cell)).length=65 then if 0=0∧(splice ([Cell.int .i64 0]++List.replicate 64 (Cell.int .u64 0)) 0 ([(.int .i64 v_1)]:List Cell)).length=65 then some ([(.agg (splice ([Cell.int .i64 0]++List.replicate 64 (Cell.int .u64 0)) 0 ([(.int .i64 v_1)]:List Cell)))],h0) else none else none:=by kernel_rfl
set_option maxRecDepth 100000 in
theorem q10_eq (l0:List Cell) (a1 a2:Int) (h0:AHeap):q10.body C L G [(.agg l0),(.c (.int .i64 a1)),(.c (.int .i64 a2))] h0=if 0=0∧l0.length=65 then c1 (C 16 [(.agg l0),(.c (.int .i64 a1))] h0) fun y_2 h_1=>asB y_2 fun b_3=>scK b_3 true (if 0=0∧l0.length=65 then c1 (C 16 [(.agg l0),(.c (.int .i64 a2))] h_1) fun y_5 h_4=>asB y_5 fun b_6=>some (b_6,h_4) else none) false h_1 fun b_7 h_8=>if b_7=true then if 0≤a1∧a1<((64:Nat):Int) then atK l0 (1+((Int.toNat a1)*1)) fun q_9=>asI .u64 (.c q_9) fun n_10=>c1 (C 18 [(.c (.int .u64 n_10)),(.c (.int .i64 a2))] h_8) fun y_12 h_11=>asI .u64 y_12 fun n_13=>if 0≤a1∧a1<((64:Nat):Int) then if (1+((Int.toNat a1)*1))<l0.length then if 0=0∧(l0.set (1+((Int.toNat a1)*1)) (.int .u64 n_13)).length=65 then if 0=0∧([Cell.int .i64 0]++List.replicate 64 (Cell.int .u64 0)).length=65∧(l0.set (1+((Int.toNat a1)*1)) (.int .u64 n_13)).length=65 then if 0=0∧(l0.set (1+((Int.toNat a1)*1)) (.int .u64 n_13)).length=65 then some ([(.agg (l0.set (1+((Int.toNat a1)*1)) (.int .u64 n_13)))],h_11) else none else none else none else none else none else none else if 0=0∧l0.length=65 then if 0=0∧([Cell.int .i64 0]++List.replicate 64 (Cell.int .u64 0)).length=65∧l0.length=65 then if 0=0∧l0.length=65 then some ([(.agg l0)],h_8) else none else none else none else none:=by kernel_rfl
def q12_k2 (C:CallF) (L:LoopF) (G:Glo) (h0:AHeap):Ex→St→Option (List AV × AHeap):=kSeq (fun st=>q12_p1.exec C L G st (q12.fin G h0)) (q12.fin G h0)
def q12_k3 (C:CallF) (L:LoopF) (G:Glo) (h0:AHeap):Ex→St→Option (List AV × AHeap):=kBlk 0 (q12_k2 C L G h0)
def q12_s2 (a6 a7:Int) (s0 s1:List Cell) (h:AHeap):St:=⟨tops 1 (.loc 0 0 :: .loc 1 0 :: tops 3 (.v (.c (.int .i64 a6)) :: .v (.c (.int .i64 a7)) :: tops 27 [])),[some s0,some s1],h⟩
def q12_F2 (C:CallF) (L:LoopF) (G:Glo):St→Option (Ex × St):=roundF (fun st f=>q12_b2.exec C L G st f) [1,2,6,7] [0,1] [(1,[1,2],[0,1])]
def q12_k4 (C:CallF) (L:LoopF) (G:Glo):Ex→St→Option (Ex × St):=kSeq (fun st=>q12_p2.exec C L G st (kLoop [1,2,6,7] [0,1] [(1,[1,2],[0,1])])) (kLoop [1,2,6,7] [0,1] [(1,[1,2],[0,1])])
def q12_k5 (C:CallF) (L:LoopF) (G:Glo):Ex→St→Option (Ex × St):=kBlk 1 (q12_k4 C L G)
def q12_k6 (C:CallF) (L:LoopF) (G:Glo):Ex→St→Option (Ex × St):=kBlk 2 (q12_k5 C L G)
def q12_s1 (a3 a6:Int) (a7 a11 a12:Int) (s0 s1:List Cell) (h:AHeap):St:=⟨tops 1 (.loc 0 0 :: .loc 1 0 :: .v (.c (.int .i64 a3)) :: tops 2 (.v (.c (.int .i64 a6)) :: .v (.c (.int .i64 a7)) :: tops 3 (.v (.c (.int .i64 a11)) :: .v (.c (.int .i64 a12)) :: tops 22 []))),[some s0,some s1],h⟩
def q12_F1 (C:CallF) (L:LoopF) (G:Glo):St→Option (Ex × St):=roundF (fun st f=>q12_b1.exec C L G st f) [1,2,3,6,7,11,12] [0,1] [(3,[1,2,6,7],[0,1])]
def q12_x1_3 (a6 a7:Int) (s0 s1:List Cell) (h:AHeap):St:=⟨tops 1 (.loc 0 0 :: .loc 1 0 :: tops 3 (.v (.c (.int .i64 a6)) :: .v (.c (.int .i64 a7)) :: tops 27 [])),[some s0,some s1],h⟩
def q12_x2_1 (s0 s1:List Cell) (h:AHeap):St:=⟨tops 1 (.loc 0 0 :: .loc 1 0 :: tops 32 []),[some s0,some s1],h⟩
theorem q12_r1 (a3 a6:Int) (a7 a11 a12:Int) (s0 s1:List Cell) (h:AHeap):q12_F1 C L G (q12_s1 a3 a6 a7 a11 a12 s0 s1 h)=if (decide (a12<a11))=true then if 0≤a12∧a12<((64:Nat):Int) then atK s0 (1+((Int.toNat a12)*1)) fun q_5=>asI .u64 (.c q_5) fun n_6=>c1 (C 17 [(.c (.int .u64 n_6)),(.c (.int .i64 a3))] h) fun y_8 h_7=>asB y_8 fun b_9=>if b_9=true then if 0≤a12∧a12<((64:Nat):Int) then atK s0 (1+((Int.toNat a12)*1)) fun q_10=>asI .u64 (.c q_10) fun n_11=>if 0≤a3∧a3<((64:Nat):Int) then atK s0 (1+((Int.toNat a3)*1)) fun q_12=>asI .u64 (.c q_12) fun n_13=>if 0≤a12∧a12<((64:Nat):Int) then if (1+((Int.toNat a12)*1))<s0.length then some (.normal,(q12_s1 a3 a6 a7 a11 (G.wrap .i64 (a12+1)) (s0.set (1+((Int.toNat a12)*1)) (.int .u64 (G.bor .u64 n_11 n_13))) s1 h_7)) else none else none else none else none else some (.normal,(q12_s1 a3 a6 a7 a11 (G.wrap .i64 (a12+1)) s0 s1 h_7)) else none else some ((.exit 2),(q12_x1_3 a6 a7 s0 s1 h)):=by kernel_rfl
theorem q12_e1_3 (a6 a7:Int) (s0 s1:List Cell) (h:AHeap):(q12_k6 C L G) (.exit 2) (q12_x1_3 a6 a7 s0 s1 h)=some (.normal,(q12_s2 a6 (G.wrap .i64 (a7+1)) s0 s1 h)):=by kernel_rfl
theorem q12_r2 (a6 a7:Int) (s0 s1:List Cell) (h:AHeap):q12_F2 C L G (q12_s2 a6 a7 s0 s1 h)=if (decide (a7<a6))=true then atK s0 0 fun q_3=>asI .i64 (.c q_3) fun n_4=>(L (q12_F1 C L G) (q12_s1 a7 a6 a7 n_4 0 s0 s1 h)).bind fun p_14=>(q12_k6 C L G) p_14.1 p_14.2 else some ((.exit 0),(q12_x2_1 s0 s1 h)):=by kernel_rfl
theorem q12_e2_1 (h0:AHeap) (s0 s1:List Cell) (h:AHeap):(q12_k3 C L G h0) (.exit 0) (q12_x2_1 s0 s1 h)=if 0=0∧s0.length=65 then if 0=0∧s1.length=65∧s0.length=65 then if 0=0∧s0.length=65 then some ([(.agg s0)],h) else none else none else none:=by kernel_rfl
set_option maxRecDepth 100000 in
theorem q12_eq (l0:List Cell) (h0:AHeap):q12.body C L G [(.agg l0)] h0=atK l0 0 fun q_1=>asI .i64 (.c q_1) fun n_2=>(L (q12_F2 C L G) (q12_s2 n_2 0 l0 ([Cell.int .i64 0]++List.replicate 64 (Cell.int .u64 0)) h0)).bind fun p_15=>(q12_k3 C L G h0) p_15.1 p_15.2:=by kernel_rfl
set_option maxRecDepth 100000 in
theorem q14_eq (l0:List Cell) (h0:AHeap):q14.body C L G [(.agg l0)] h0=atK l0 0 fun q_1=>asI .i64 (.c q_1) fun n_2=>some ([(.c (.int .i64 n_2))],h0):=by kernel_rfl
set_option maxRecDepth 100000 in
theorem q16_eq (l0:List Cell) (a1:Int) (h0:AHeap):q16.body C L G [(.agg l0),(.c (.int .i64 a1))] h0=scK (decide (a1≥0)) true (atK l0 0 fun q_1=>asI .i64 (.c q_1) fun n_2=>some ((decide (a1<n_2)),h0)) false h0 fun b_3 h_4=>some ([(.c (.bool b_3))],h_4):=by kernel_rfl
def q40_k2 (C:CallF) (L:LoopF) (G:Glo) (h0:AHeap):Ex→St→Option (List AV × AHeap):=kSeq (fun st=>q40_p1.exec C L G st (q40.fin G h0)) (q40.fin G h0)
def q40_k3 (C:CallF) (L:LoopF) (G:Glo) (h0:AHeap):Ex→St→Option (List AV × AHeap):=kBlk 0 (q40_k2 C L G h0)
def q40_s2 (a10 a11:Int) (s0 s1 s2:List Cell) (h:AHeap):St:=⟨tops 1 (.loc 0 0 :: .loc 1 0 :: .loc 2 0 :: tops 6 (.v (.c (.int .i64 a10)) :: .v (.c (.int .i64 a11)) :: tops 25 [])),[some s0,some s1,some s2],h⟩
def q40_F2 (C:CallF) (L:LoopF) (G:Glo):St→Option (Ex × St):=roundF (fun st f=>q40_b2.exec C L G st f) [1,2,3,10,11] [0,1,2] [(1,[2,3],[1,2])]
def q40_k4 (C:CallF) (L:LoopF) (G:Glo):Ex→St→Option (Ex × St):=kSeq (fun st=>q40_p2.exec C L G st (kLoop [1,2,3,10,11] [0,1,2] [(1,[2,3],[1,2])])) (kLoop [1,2,3,10,11] [0,1,2] [(1,[2,3],[1,2])])
def q40_k5 (C:CallF) (L:LoopF) (G:Glo):Ex→St→Option (Ex × St):=kBlk 1 (q40_k4 C L G)
def q40_k6 (C:CallF) (L:LoopF) (G:Glo):Ex→St→Option (Ex × St):=kBlk 2 (q40_k5 C L G)
def q40_s1 (a4 a5:Int) (a10 a11:Int) (s0 s1 s2:List Cell) (h:AHeap):St:=⟨tops 1 (.loc 0 0 :: .loc 1 0 :: .loc 2 0 :: .v (.c (.int .i64 a4)) :: .v (.c (.int .u64 a5)) :: tops 4 (.v (.c (.int .i64 a10)) :: .v (.c (.int .i64 a11)) :: tops 25 [])),[some s0,some s1,some s2],h⟩
def q40_F1 (C:CallF) (L:LoopF) (G:Glo):St→Option (Ex × St):=roundF (fun st f=>q40_b1.exec C L G st f) [1,2,3,4,5,10,11] [0,1,2] [(3,[1,2,3,10,11],[0,1,2])]
def q40_x1_3 (a10 a11:Int) (s0 s1 s2:List Cell) (h:AHeap):St:=⟨tops 1 (.loc 0 0 :: .loc 1 0 :: .loc 2 0 :: tops 6 (.v (.c (.int .i64 a10)) :: .v (.c (.int .i64 a11)) :: tops 25 [])),[some s0,some s1,some s2],h⟩
def q40_x2_1 (s1 s2:List Cell) (h:AHeap):St:=⟨tops 2 (.loc 1 0 :: .loc 2 0 :: tops 33 []),[none,some s1,some s2],h⟩
theorem q40_r1 (a4 a5:Int) (a10 a11:Int) (s0 s1 s2:List Cell) (h:AHeap):q40_F1 C L G (q40_s1 a4 a5 a10 a11 s0 s1 s2 h)=if (a5 != 0)=true then c1 (C 38 [(.c (.int .u64 a5))] h) fun y_11 h_10=>asI .i64 y_11 fun n_12=>c1 (C 38 [(.c (.int .u64 a5))] h_10) fun y_14 h_13=>asI .i64 y_14 fun n_15=>if 0≤n_15∧n_15<((64:Nat):Int) then atK s2 (1+((Int.toNat n_15)*1)) fun q_16=>asI .u64 (.c q_16) fun n_17=>c1 (C 18 [(.c (.int .u64 n_17)),(.c (.int .i64 a4))] h_13) fun y_19 h_18=>asI .u64 y_19 fun n_20=>if 0≤n_12∧n_12<((64:Nat):Int) then if (1+((Int.toNat n_12)*1))<s2.length then some (.normal,(q40_s1 a4 (G.band .u64 a5 (G.wrap .u64 (a5 - 1))) a10 a11 s0 s1 (s2.set (1+((Int.toNat n_12)*1)) (.int .u64 n_20)) h_18)) else none else none else none else some ((.exit 2),(q40_x1_3 a10 a11 s0 s1 s2 h)):=by kernel_rfl
theorem q40_e1_3 (a10 a11:Int) (s0 s1 s2:List Cell) (h:AHeap):(q40_k6 C L G) (.exit 2) (q40_x1_3 a10 a11 s0 s1 s2 h)=some (.normal,(q40_s2 a10 (G.wrap .i64 (a11+1)) s0 s1 s2 h)):=by kernel_rfl
theorem q40_r2 (a10 a11:Int) (s0 s1 s2:List Cell) (h:AHeap):q40_F2 C L G (q40_s2 a10 a11 s0 s1 s2 h)=if (decide (a11<a10))=true then if 0≤a11∧a11<((64:Nat):Int) then atK s0 (1+((Int.toNat a11)*1)) fun q_8=>asI .u64 (.c q_8) fun n_9=>(L (q40_F1 C L G) (q40_s1 a11 n_9 a10 a11 s0 s1 s2 h)).bind fun p_21=>(q40_k6 C L G) p_21.1 p_21.2 else none else some ((.exit 0),(q40_x2_1 s1 s2 h)):=by kernel_rfl
theorem q40_e2_1 (h0:AHeap) (s1 s2:List Cell) (h:AHeap):(q40_k3 C L G h0) (.exit 0) (q40_x2_1 s1 s2 h)=if 0=0∧s2.length=65 then if 0=0∧s1.length=65∧s2.length=65 then if 0=0∧s2.length=65 then some ([(.agg s2)],h) else none else none else none:=by kernel_rfl
set_option maxRecDepth 100000 in
theorem q40_eq (l0:List Cell) (h0:AHeap):q40.body C L G [(.agg l0)] h0=atK l0 0 fun q_1=>asI .i64 (.c q_1) fun n_2=>c1 (C 9 [(.c (.int .i64 n_2))] h0) fun y_4 h_3=>asA y_4 fun l_5=>if 0=0∧([Cell.int .i64 0]++List.replicate 64 (Cell.int .u64 0)).length=65∧l_5.length=65 then atK l0 0 fun q_6=>asI .i64 (.c q_6) fun n_7=>(L (q40_F2 C L G) (q40_s2 n_7 0 l0 ([Cell.int .i64 0]++List.replicate 64 (Cell.int .u64 0)) l_5 h_3)).bind fun p_22=>(q40_k3 C L G h0) p_22.1 p_22.2 else none:=by kernel_rfl
set_option maxRecDepth 100000 in
theorem q41_eq (l0:List Cell) (a1:Int) (h0:AHeap):q41.body C L G [(.agg l0),(.c (.int .i64 a1))] h0=if 0=0∧l0.length=65 then c1 (C 16 [(.agg l0),(.c (.int .i64 a1))] h0) fun y_2 h_1=>asB y_2 fun b_3=>if (!b_3)=true then some ([(.c (.int .u64 0))],h_1) else if 0≤a1∧a1<((64:Nat):Int) then atK l0 (1+((Int.toNat a1)*1)) fun q_4=>asI .u64 (.c q_4) fun n_5=>some ([(.c (.int .u64 n_5))],h_1) else none else none:=by kernel_rfl
end Jq

namespace Jq
open Go
def relL (n:Nat) (f:Nat→Nat):List Cell:=.int .i64 n :: (List.range 64).map fun i=>.int .u64 (f i)
theorem relL_len (n:Nat) (f:Nat→Nat):(relL n f).length=65:=by simp [relL]
theorem relL_zero (n:Nat) (f:Nat→Nat):(relL n f)[0]? = some (.int .i64 n):=rfl
theorem relL_row {n:Nat} {f:Nat→Nat} {i:Nat} (hi:i<64):(relL n f)[1+i]? = some (.int .u64 (f i)):=by
  rw [relL,Nat.add_comm,List.getElem?_cons_succ,List.getElem?_map,List.getElem?_range hi];rfl
def updF (f:Nat→Nat) (i v:Nat):Nat→Nat:=fun j=>if j=i then v else f j
theorem relL_set {n:Nat} {f:Nat→Nat} {i v:Nat}:(relL n f).set (1+i) (.int .u64 v)=relL n (updF f i v):=by
  rw [relL,Nat.add_comm,List.set_cons_succ,relL]
  congr 1
  refine List.ext_getElem? fun j=>?_
  rw [List.getElem?_set]
  simp only [List.length_map,List.length_range,List.getElem?_map,updF]
  by_cases hj:j<64
  · rw [List.getElem?_range hj]
    by_cases hij:i=j
    · subst hij;simp [hj]
    · have:¬j=i:=fun h=>hij h.symm
      simp [hij,this]
  · rw [List.getElem?_eq_none (by simp;omega)]
    simp;intro h1;omega
theorem relL_congr {n:Nat} {f g:Nat→Nat} (h:∀i,i<64→f i=g i):relL n f=relL n g:=by
  unfold relL
  congr 1
  refine List.map_congr_left fun i hi=>?_
  rw [h i (by simpa using hi)]
def zeroL:List Cell:=[Cell.int .i64 0]++List.replicate 64 (Cell.int .u64 0)
theorem zero_len:([Cell.int .i64 0]++List.replicate 64 (Cell.int .u64 0)).length=65:=by simp
theorem zero_rel:([Cell.int .i64 0]++List.replicate 64 (Cell.int .u64 0))=relL 0 fun _=>0:=by
  rw [relL,List.singleton_append];congr 1
theorem splice_zero {n m:Nat} {f:Nat→Nat}:splice (relL m f) 0 [.int .i64 n]=relL n f:=by
  simp [splice,relL]
def Words (f:Nat→Nat):Prop:=∀i,f i<2 ^ 64
theorem words_zero:Words fun _=>0:=fun _=>by simp
theorem words_upd {f:Nat→Nat} (h:Words f) {i v:Nat} (hv:v<2 ^ 64):Words (updF f i v):=fun j=>by unfold updF;split;exact hv;exact h j
def clamp (a:Int):Nat:=min a.toNat 64
variable {E:Env}
theorem New_R (hE:q9_In E) (a:Int) (h:AHeap):R E 9 [.c (.int .i64 a)] h=some ([.agg (relL (clamp a) fun _=>0)],h):=by
  refine R_intro hE.fn ?_
  rw [q9_eq]
  have hv:(if 64<(if 0 > a then 0 else a) then 64 else (if 0 > a then 0 else a))=((clamp a:Nat):Int):=by
    unfold clamp;split<;>split<;>omega
  simp only [hv,zero_rel,splice_zero,relL_len,and_self,if_true]
def inR (n:Nat) (a:Int):Bool:=decide (0≤a)&&decide (a<n)
theorem in_R (hE:q16_In E) (n:Nat) (f:Nat→Nat) (a:Int) (h:AHeap):R E 16 [.agg (relL n f),.c (.int .i64 a)] h=some ([.c (.bool (inR n a))],h):=by
  refine R_intro hE.fn ?_
  rw [q16_eq,atK_ok (relL_zero n f),asI_ok,scK_and]
  rfl
theorem N_R (hE:q14_In E) (n:Nat) (f:Nat→Nat) (h:AHeap):R E 14 [.agg (relL n f)] h=some ([.c (.int .i64 n)],h):=by
  refine R_intro hE.fn ?_
  rw [q14_eq,atK_ok (relL_zero n f),asI_ok]
def hasR (n:Nat) (f:Nat→Nat) (a b:Int):Bool:=inR n a&&hasI (f a.toNat) b
theorem HasR_R (hE:q3_In E) {n:Nat} (hn:n≤64) {f:Nat→Nat} (hf:Words f) (a b:Int) (h:AHeap):R E 3 [.agg (relL n f),.c (.int .i64 a),.c (.int .i64 b)] h=some ([.c (.bool (hasR n f a b))],h):=by
  refine R_intro hE.fn ?_
  rw [q3_eq,if_pos ⟨rfl,relL_len n f⟩,in_R hE.c16,c1_ok,asB_ok]
  unfold hasR
  by_cases hi:inR n a=true
  · have h2:0≤a∧a<n:=by simpa [inR] using hi
    have h3:a.toNat<64:=by omega
    rw [hi,scK_ok,if_pos ⟨h2.1,by omega⟩,Nat.mul_one,atK_ok (relL_row h3),asI_ok,Has_R hE.c17 (hf _),c1_ok,asB_ok,bind_ok,Bool.true_and]
  · have hi':inR n a=false:=by simpa using hi
    rw [hi',scK_ft,Bool.false_and]
def addR (n:Nat) (f:Nat→Nat) (a b:Int):Nat→Nat:=if inR n a&&inR n b then updF f a.toNat (f a.toNat ||| bitI b) else f
theorem words_add {n:Nat} {f:Nat→Nat} (hf:Words f) (a b:Int):Words (addR n f a b):=by
  unfold addR;split
  · exact words_upd hf (or_lt (hf _) (bitI_lt b))
  · exact hf
theorem Add_R (hE:q10_In E) {n:Nat} (hn:n≤64) {f:Nat→Nat} (hf:Words f) (a b:Int) (h:AHeap):R E 10 [.agg (relL n f),.c (.int .i64 a),.c (.int .i64 b)] h=some ([.agg (relL n (addR n f a b))],h):=by
  refine R_intro hE.fn ?_
  rw [q10_eq,if_pos ⟨rfl,relL_len n f⟩,in_R hE.c16,c1_ok,asB_ok,if_pos ⟨rfl,relL_len n f⟩,in_R hE.c16,c1_ok,asB_ok,scK_and]
  unfold addR
  by_cases hi:(inR n a&&inR n b)=true
  · rw [hi]
    simp only [Bool.and_eq_true] at hi
    have h2:0≤a∧a<n:=by simpa [inR] using hi.1
    have h3:a.toNat<64:=by omega
    simp only [if_true]
    rw [if_pos ⟨h2.1,by omega⟩,Nat.mul_one,atK_ok (relL_row h3),asI_ok,With_R hE.c18 (hf _),c1_ok,asI_ok,if_pos ⟨h2.1,by omega⟩,relL_set]
    simp only [relL_len,zero_len,and_self,if_true]
    rw [if_pos (by omega)]
  · rw [show (inR n a&&inR n b)=false by simpa using hi]
    simp only [Bool.false_eq_true,if_false,relL_len,zero_len,and_self,if_true]
theorem Row_R (hE:q41_In E) {n:Nat} (hn:n≤64) (f:Nat→Nat) (a:Int) (h:AHeap):R E 41 [.agg (relL n f),.c (.int .i64 a)] h=some ([.c (.int .u64 ((if inR n a then f a.toNat else 0:Nat):Int))],h):=by
  refine R_intro hE.fn ?_
  rw [q41_eq,if_pos ⟨rfl,relL_len n f⟩,in_R hE.c16,c1_ok,asB_ok]
  by_cases hi:inR n a=true
  · have h2:0≤a∧a<n:=by simpa [inR] using hi
    have h3:a.toNat<64:=by omega
    rw [hi]
    simp only [Bool.not_true,Bool.false_eq_true,if_false,if_true]
    rw [if_pos ⟨h2.1,by omega⟩,Nat.mul_one,atK_ok (relL_row h3),asI_ok]
  · rw [show inR n a=false by simpa using hi]
    simp
def clS (f:Nat→Nat) (k i:Nat):Nat→Nat:=if (f i).testBit k then updF f i (f i ||| f k) else f
def cl1 (k:Nat):Nat→(Nat→Nat)→Nat→Nat
  | 0,f=>f
  | i+1,f=>clS (cl1 k i f) k i
def clK (n:Nat) (f:Nat→Nat):Nat→Nat→Nat
  | 0=>f
  | k+1=>cl1 k n (clK n f k)
theorem words_cl1 {f:Nat→Nat} (hf:Words f) (k:Nat):∀n,Words (cl1 k n f)
  | 0=>hf
  | i+1=>by
    have ih:=words_cl1 hf k i
    unfold cl1 clS;split
    · exact words_upd ih (or_lt (ih _) (ih _))
    · exact ih
theorem words_clK {f:Nat→Nat} (hf:Words f) (n:Nat):∀k,Words (clK n f k)
  | 0=>hf
  | k+1=>words_cl1 (words_clK hf n k) k n
theorem wrap_succ {E:Env} {i:Nat} (hi:i<9223372036854775807):E.glob.wrap .i64 ((i:Int)+1)=((i+1:Nat):Int):=by
  show IntKind.wrap .i64 _=_
  rw [wrap_i64 (by omega) (by omega)];omega
theorem Closure_R (hE:q12_In E) {n:Nat} (hn:n≤64) {f:Nat→Nat} (hf:Words f) (h:AHeap):R E 12 [.agg (relL n f)] h=some ([.agg (relL n (clK n f n))],h):=by
  refine R_intro hE.fn ?_
  rw [q12_eq,atK_ok (relL_zero n f),asI_ok]
  have outer:Lim (q12_F2 (R E) Lim E.glob) (q12_s2 n ((0:Nat):Int) (relL n (clK n f 0)) zeroL h)=some (.exit 0,q12_x2_1 (relL n (clK n f n)) zeroL h):=by
    refine Lim_count (fun k=>q12_s2 n (k:Int) (relL n (clK n f k)) zeroL h) 0 n (by omega) (fun k _ hk=>?_) (Lim_exit ?_)
    · try dsimp only
      rw [q12_r2,if_pos (by simp;omega),atK_ok (relL_zero _ _),asI_ok]
      have inner:Lim (q12_F1 (R E) Lim E.glob) (q12_s1 k n k n ((0:Nat):Int) (relL n (cl1 k 0 (clK n f k))) zeroL h)=some (.exit 2,q12_x1_3 n k (relL n (cl1 k n (clK n f k))) zeroL h):=by
        refine Lim_count (fun i=>q12_s1 k n k n (i:Int) (relL n (cl1 k i (clK n f k))) zeroL h) 0 n (by omega) (fun i _ hi=>?_) (Lim_exit ?_)
        · try dsimp only
          have hw:=words_cl1 (words_clK hf n k) k i
          have e1:(i:Int).toNat=i:=by omega
          have e2:(k:Int).toNat=k:=by omega
          have q1:0≤(i:Int)∧(i:Int)<((64:Nat):Int):=by omega
          have q2:0≤(k:Int)∧(k:Int)<((64:Nat):Int):=by omega
          rw [q12_r1,if_pos (by simp;omega),if_pos q1,e1,e2,Nat.mul_one,Nat.mul_one,atK_ok (relL_row (by omega)),asI_ok,Has_R hE.c17 (hw _),c1_ok,asB_ok,wrap_succ (by omega),hasI_nat (by omega)]
          rw [cl1,clS]
          cases hb:(cl1 k i (clK n f k) i).testBit k with
          | true =>
            simp only [if_true]
            rw [if_pos q1,atK_ok (relL_row (by omega)),asI_ok,if_pos q2,atK_ok (relL_row (by omega)),asI_ok,if_pos q1,g_bor (hw _) (hw _),relL_set,if_pos (by rw [relL_len];omega)]
          | false=>simp only [Bool.false_eq_true,if_false]
        · try dsimp only
          rw [q12_r1,if_neg (by simp)]
      have inner':=inner
      simp only [Int.ofNat_zero,Int.natCast_zero] at inner'
      rw [show q12_s1 k n k n 0 (relL n (clK n f k)) zeroL h=q12_s1 k n k n ((0:Nat):Int) (relL n (cl1 k 0 (clK n f k))) zeroL h from rfl,inner,bind_ok,q12_e1_3,wrap_succ (by omega)]
      rfl
    · try dsimp only
      rw [q12_r2,if_neg (by simp)]
  rw [show q12_s2 n 0 (relL n f) ([Cell.int .i64 0]++List.replicate 64 (Cell.int .u64 0)) h=q12_s2 n ((0:Nat):Int) (relL n (clK n f 0)) zeroL h from rfl,outer,bind_ok,q12_e2_1]
  simp only [relL_len,zeroL,zero_len,and_self,if_true]
def acycR (n:Nat) (f:Nat→Nat):Bool:=!(List.range n).any fun i=>(clK n f n i).testBit i
end Jq

namespace Jq
inductive Way (f:Nat→Nat) (k:Nat):Nat→Nat→Prop
  | one {a b:Nat}:(f a).testBit b=true→Way f k a b
  | step {a c b:Nat}:(f a).testBit c=true→c<k→Way f k c b→Way f k a b
theorem Way.mono {f:Nat→Nat} {k m:Nat} (hkm:k≤m) {a b:Nat} (w:Way f k a b):Way f m a b:=by
  induction w with
  | one h=>exact .one h
  | step h hc _ ih=>exact .step h (by omega) ih
theorem Way.trans {f:Nat→Nat} {k a c b:Nat} (w:Way f k a c) (hc:c<k) (v:Way f k c b):Way f k a b:=by
  induction w with
  | one h=>exact .step h hc v
  | step h hc' _ ih=>exact .step h hc' (ih hc v)
theorem Way.succ {f:Nat→Nat} {k a b:Nat}:Way f (k+1) a b↔Way f k a b∨(Way f k a k∧Way f k k b):=by
  constructor
  · intro w
    induction w with
    | one h=>exact .inl (.one h)
    | step h hc _ ih =>
      rcases Nat.lt_or_ge _ k with hk | hk
      · rcases ih with ih | ⟨i1,i2⟩
        · exact .inl (.step h hk ih)
        · exact .inr ⟨.step h hk i1,i2⟩
      · have:_=k:=Nat.le_antisymm (Nat.lt_succ_iff.1 hc) hk
        subst this
        rcases ih with ih | ⟨_,i2⟩
        · exact .inr ⟨.one h,ih⟩
        · exact .inr ⟨.one h,i2⟩
  · rintro (w | ⟨w1,w2⟩)
    · exact w.mono (by omega)
    · exact (w1.mono (by omega)).trans (Nat.lt_succ_self k) (w2.mono (by omega))
theorem cl1_eq (f:Nat→Nat) (k:Nat):∀n i,cl1 k n f i=if i<n∧(f i).testBit k=true then f i ||| f k else f i:=by
  intro n
  induction n with
  | zero=>intro i;rw [if_neg (by omega)];rfl
  | succ n ih =>
    intro i
    have hk:cl1 k n f k=f k:=by
      rw [ih];split
      · exact Nat.or_self _
      · rfl
    rw [cl1,clS]
    by_cases hb:(f n).testBit k=true
    · have hn:cl1 k n f n=f n:=by rw [ih,if_neg (by omega)]
      rw [hn,if_pos hb,hk]
      unfold updF
      by_cases hi:i=n
      · subst hi;rw [if_pos rfl,if_pos ⟨by omega,hb⟩]
      · rw [if_neg hi,ih]
        congr 1
        rw [eq_iff_iff]
        exact and_congr_left fun _=>by omega
    · have hn:cl1 k n f n=f n:=by rw [ih,if_neg (by omega)]
      rw [hn,if_neg hb,ih]
      by_cases hi:i=n
      · subst hi;rw [if_neg (by omega),if_neg (fun h=>hb h.2)]
      · congr 1
        rw [eq_iff_iff]
        exact and_congr_left fun _=>by omega
theorem clK_way (n:Nat) (f:Nat→Nat):∀k,k≤n→∀a b,a<n→((clK n f k a).testBit b=true↔Way f k a b):=by
  intro k
  induction k with
  | zero =>
    intro _ a b _
    constructor
    · exact fun h=>.one h
    · intro w
      cases w with
      | one h=>exact h
      | step _ hc _=>omega
  | succ k ih =>
    intro hk a b ha
    have ih':=ih (by omega)
    rw [clK,cl1_eq,Way.succ,←ih' a b ha,←ih' a k ha,←ih' k b (by omega)]
    by_cases hb:(clK n f k a).testBit k=true
    · rw [if_pos ⟨ha,hb⟩,Nat.testBit_or,Bool.or_eq_true];simp [hb]
    · rw [if_neg (fun h=>hb h.2)];simp [hb]
end Jq

namespace Jq
open Go
end Jq

namespace Jq
open Go
end Jq

namespace Jq
open Go
end Jq

namespace Jq
open Go
variable (C:CallF) (L:LoopF) (G:Glo)
set_option maxRecDepth 100000 in
theorem q81_eq (l0:List Cell) (a1:Int) (l2:List Cell) (h0:AHeap):q81.body C L G [(.agg l0),(.c (.int .i64 a1)),(.agg l2)] h0=if 0=0∧l0.length=3 then c1 (qh h0 (C 110 [(.agg l0),(.c (.int .i64 a1))] h0)) fun y_2 h_1=>asB y_2 fun b_3=>scK (!b_3) false (atK l2 0 fun q_4=>asI .i64 (.c q_4) fun n_5=>some ((decide (n_5<0)),h0)) true h0 fun b_6 h_7=>scK b_6 false (atK l2 0 fun q_8=>asI .i64 (.c q_8) fun n_9=>atK l0 2 fun q_10=>idxSK 1 q_10 a1 fun k_11 N_12 o_13=>rdH h_7 k_11 N_12 fun l_14=>atK l_14 o_13 fun q_15=>lenK q_15 fun n_16=>some ((decide (n_9≥n_16)),h_7)) true h_7 fun b_17 h_18=>if b_17=true then if 0=0∧(List.replicate 9 (Cell.int .i64 0)).length=9∧(List.replicate 9 (Cell.int .i64 0)).length=9 then if 0=0∧(List.replicate 9 (Cell.int .i64 0)).length=9 then some ([(.agg (List.replicate 9 (Cell.int .i64 0))),(.c (.bool false))],h_18) else none else none else atK l0 2 fun q_19=>idxSK 1 q_19 a1 fun k_20 N_21 o_22=>rdH h_18 k_20 N_21 fun l_23=>atK l_23 o_22 fun q_24=>atK l2 0 fun q_25=>asI .i64 (.c q_25) fun n_26=>idxSK 9 q_24 n_26 fun k_27 N_28 o_29=>rdH h_18 k_27 N_28 fun l_30=>if o_29+9≤l_30.length then if 0=0∧(List.replicate 9 (Cell.int .i64 0)).length=9∧((l_30.drop o_29).take 9).length=9 then atK ((l_30.drop o_29).take 9) 0 fun q_31=>asI .i64 (.c q_31) fun n_32=>scK (n_32==5) false (atK ((l_30.drop o_29).take 9) 0 fun q_33=>asI .i64 (.c q_33) fun n_34=>some ((n_34==6),h_18)) true h_18 fun b_35 h_36=>if b_35=true then if 0=0∧(List.replicate 9 (Cell.int .i64 0)).length=9∧(List.replicate 9 (Cell.int .i64 0)).length=9 then if 0=0∧(List.replicate 9 (Cell.int .i64 0)).length=9 then some ([(.agg (List.replicate 9 (Cell.int .i64 0))),(.c (.bool false))],h_36) else none else none else if 0=0∧((l_30.drop o_29).take 9).length=9 then if 0=0∧(List.replicate 9 (Cell.int .i64 0)).length=9∧((l_30.drop o_29).take 9).length=9 then if 0=0∧((l_30.drop o_29).take 9).length=9 then some ([(.agg ((l_30.drop o_29).take 9)),(.c (.bool true))],h_36) else none else none else none else none else none else none:=by kernel_rfl
set_option maxRecDepth 100000 in
theorem q92_eq (l0 l1:List Cell) (h0:AHeap):q92.body C L G [(.agg l0),(.agg l1)] h0=atK l0 0 fun q_1=>asI .i64 (.c q_1) fun n_2=>scK (decide (n_2≥0)) true (atK l0 0 fun q_3=>asI .i64 (.c q_3) fun n_4=>some ((decide (n_4≤3)),h0)) false h0 fun b_5 h_6=>if b_5=true then atK l0 0 fun q_7=>asI .i64 (.c q_7) fun n_8=>if 0≤n_8∧n_8<((4:Nat):Int) then atK l1 (1+((Int.toNat n_8)*1)) fun q_9=>asI .i64 (.c q_9) fun n_10=>some ([(.c (.int .i64 n_10))],h_6) else none else atK l0 1 fun q_11=>asI .i64 (.c q_11) fun n_12=>some ([(.c (.int .i64 n_12))],h_6):=by kernel_rfl
def q101_k2 (C:CallF) (L:LoopF) (G:Glo) (h0:AHeap):Ex→St→Option (List AV × AHeap):=kSeq (fun st=>q101_p1.exec C L G st (q101.fin G h0)) (q101.fin G h0)
def q101_k3 (C:CallF) (L:LoopF) (G:Glo) (h0:AHeap):Ex→St→Option (List AV × AHeap):=kBlk 0 (q101_k2 C L G h0)
def q101_s2 (a4:Int) (s0 s1 s2:List Cell) (h:AHeap):St:=⟨tops 1 (.loc 0 0 :: .loc 1 0 :: .loc 2 0 :: .v (.c (.int .i64 a4)) :: tops 92 []),[some s0,some s1,some s2,none],h⟩
def q101_F2 (C:CallF) (L:LoopF) (G:Glo):St→Option (Ex × St):=roundF (fun st f=>q101_b2.exec C L G st f) [1,2,3,4] [0,1,2] [(1,[1,2,3],[0,1,2])]
def q101_k4 (C:CallF) (L:LoopF) (G:Glo):Ex→St→Option (Ex × St):=kSeq (fun st=>q101_p2.exec C L G st (kLoop [1,2,3,4] [0,1,2] [(1,[1,2,3],[0,1,2])])) (kLoop [1,2,3,4] [0,1,2] [(1,[1,2,3],[0,1,2])])
def q101_k5 (C:CallF) (L:LoopF) (G:Glo):Ex→St→Option (Ex × St):=kBlk 1 (q101_k4 C L G)
def q101_k6 (C:CallF) (L:LoopF) (G:Glo):Ex→St→Option (Ex × St):=kSeq (fun st=>q101_p3.exec C L G st (q101_k5 C L G)) (q101_k5 C L G)
def q101_k7 (C:CallF) (L:LoopF) (G:Glo):Ex→St→Option (Ex × St):=kBlk 2 (q101_k6 C L G)
def q101_s1 (a4 a5 a6:Int) (s0 s1 s2:List Cell) (h:AHeap):St:=⟨tops 1 (.loc 0 0 :: .loc 1 0 :: .loc 2 0 :: .v (.c (.int .i64 a4)) :: .v (.c (.int .i64 a5)) :: .v (.c (.int .i64 a6)) :: tops 90 []),[some s0,some s1,some s2,none],h⟩
def q101_F1 (C:CallF) (L:LoopF) (G:Glo):St→Option (Ex × St):=roundF (fun st f=>q101_b1.exec C L G st f) [1,2,3,4,5,6] [0,1,2] [(3,[1,2,3,4,5],[0,1,2])]
def q101_x1_3 (a4 a5:Int) (s0 s1 s2:List Cell) (h:AHeap):St:=⟨tops 1 (.loc 0 0 :: .loc 1 0 :: .loc 2 0 :: .v (.c (.int .i64 a4)) :: .v (.c (.int .i64 a5)) :: tops 91 []),[some s0,some s1,some s2,none],h⟩
def q101_x2_1 (s0 s1 s2:List Cell) (h:AHeap):St:=⟨tops 1 (.loc 0 0 :: .loc 1 0 :: .loc 2 0 :: tops 93 []),[some s0,some s1,some s2,none],h⟩
def q101_k8 (C:CallF) (L:LoopF) (G:Glo) (h0:AHeap):Ex→St→Option (List AV × AHeap):=kSeq (fun st=>q101_p4.exec C L G st (q101.fin G h0)) (q101.fin G h0)
def q101_k9 (C:CallF) (L:LoopF) (G:Glo) (h0:AHeap):Ex→St→Option (List AV × AHeap):=kBlk 4 (q101_k8 C L G h0)
def q101_s4 (a7:Int) (s0 s1 s2:List Cell) (h:AHeap):St:=⟨tops 1 (.loc 0 0 :: .loc 1 0 :: .loc 2 0 :: tops 3 (.v (.c (.int .i64 a7)) :: tops 89 [])),[some s0,some s1,some s2,none],h⟩
def q101_F4 (C:CallF) (L:LoopF) (G:Glo):St→Option (Ex × St):=roundF (fun st f=>q101_b4.exec C L G st f) [1,2,3,7] [0,1,2] [(5,[2,3],[1,2])]
def q101_k10 (C:CallF) (L:LoopF) (G:Glo):Ex→St→Option (Ex × St):=kSeq (fun st=>q101_p5.exec C L G st (kLoop [1,2,3,7] [0,1,2] [(5,[2,3],[1,2])])) (kLoop [1,2,3,7] [0,1,2] [(5,[2,3],[1,2])])
def q101_k11 (C:CallF) (L:LoopF) (G:Glo):Ex→St→Option (Ex × St):=kBlk 5 (q101_k10 C L G)
def q101_k12 (C:CallF) (L:LoopF) (G:Glo):Ex→St→Option (Ex × St):=kSeq (fun st=>q101_p6.exec C L G st (q101_k11 C L G)) (q101_k11 C L G)
def q101_k13 (C:CallF) (L:LoopF) (G:Glo):Ex→St→Option (Ex × St):=kBlk 6 (q101_k12 C L G)
def q101_s3 (a7:Int) (x8:Cell) (a9:Int) (s0 s1 s2:List Cell) (h:AHeap):St:=⟨tops 1 (.loc 0 0 :: .loc 1 0 :: .loc 2 0 :: tops 3 (.v (.c (.int .i64 a7)) :: .v (.c x8) :: .v (.c (.int .i64 a9)) :: tops 87 [])),[some s0,some s1,some s2,none],h⟩
def q101_F3 (C:CallF) (L:LoopF) (G:Glo):St→Option (Ex × St):=roundF (fun st f=>q101_b3.exec C L G st f) [1,2,3,7,8,9] [0,1,2] [(7,[1,2,3,7,8],[0,1,2])]
def q101_x3_7 (a7:Int) (x8:Cell) (s0 s1 s2:List Cell) (h:AHeap):St:=⟨tops 1 (.loc 0 0 :: .loc 1 0 :: .loc 2 0 :: tops 3 (.v (.c (.int .i64 a7)) :: .v (.c x8) :: tops 88 [])),[some s0,some s1,some s2,none],h⟩
def q101_x4_5 (s1 s2:List Cell) (h:AHeap):St:=⟨tops 2 (.loc 1 0 :: .loc 2 0 :: tops 93 []),[none,some s1,some s2,none],h⟩
theorem q101_r1 (a4 a5 a6:Int) (s0 s1 s2:List Cell) (h:AHeap):q101_F1 C L G (q101_s1 a4 a5 a6 s0 s1 s2 h)=atK s0 1 fun q_6=>lenK q_6 fun n_7=>if (decide (a6<n_7))=true then atK s0 1 fun q_8=>idxSK 2 q_8 a6 fun k_9 N_10 o_11=>rdH h k_9 N_10 fun l_12=>atK l_12 (o_11+0) fun q_13=>asI .i64 (.c q_13) fun n_14=>atK s2 0 fun q_15=>idxSK 1 q_15 a4 fun k_16 N_17 o_18=>rdH h k_16 N_17 fun l_19=>atK l_19 o_18 fun q_20=>asI .u8 (.c q_20) fun n_21=>if (n_14==(G.wrap .i64 n_21))=true then atK s0 1 fun q_22=>idxSK 2 q_22 a6 fun k_23 N_24 o_25=>rdH h k_23 N_24 fun l_26=>atK l_26 (o_25+1) fun q_27=>asI .i64 (.c q_27) fun n_28=>some (.normal,(q101_s1 a4 n_28 (G.wrap .i64 (a6+1)) s0 s1 s2 h)) else some (.normal,(q101_s1 a4 a5 (G.wrap .i64 (a6+1)) s0 s1 s2 h)) else some ((.exit 2),(q101_x1_3 a4 a5 s0 s1 s2 h)):=by kernel_rfl
theorem q101_e1_3 (a4 a5:Int) (s0 s1 s2:List Cell) (h:AHeap):(q101_k7 C L G) (.exit 2) (q101_x1_3 a4 a5 s0 s1 s2 h)=atK s2 1 fun q_29=>if (splice [Cell.int .i64 0] 0 ([(.int .i64 a5)]:List Cell)).length=1*1 then appK 1 8 q_29 (splice [Cell.int .i64 0] 0 ([(.int .i64 a5)]:List Cell)) h fun x_30 h_31=>if 1<s2.length then some (.normal,(q101_s2 (G.wrap .i64 (a4+1)) s0 s1 (s2.set 1 x_30) h_31)) else none else none:=by kernel_rfl
theorem q101_r2 (a4:Int) (s0 s1 s2:List Cell) (h:AHeap):q101_F2 C L G (q101_s2 a4 s0 s1 s2 h)=atK s2 0 fun q_4=>lenK q_4 fun n_5=>if (decide (a4<n_5))=true then (L (q101_F1 C L G) (q101_s1 a4 0 0 s0 s1 s2 h)).bind fun p_32=>(q101_k7 C L G) p_32.1 p_32.2 else some ((.exit 0),(q101_x2_1 s0 s1 s2 h)):=by kernel_rfl
theorem q101_r3 (a7:Int) (x8:Cell) (a9:Int) (s0 s1 s2:List Cell) (h:AHeap):q101_F3 C L G (q101_s3 a7 x8 a9 s0 s1 s2 h)=atK s0 2 fun q_35=>idxSK 1 q_35 a7 fun k_36 N_37 o_38=>rdH h k_36 N_37 fun l_39=>atK l_39 o_38 fun q_40=>lenK q_40 fun n_41=>if (decide (a9<n_41))=true then atK s0 2 fun q_42=>idxSK 1 q_42 a7 fun k_43 N_44 o_45=>rdH h k_43 N_44 fun l_46=>atK l_46 o_45 fun q_47=>idxSK 9 q_47 a9 fun k_48 N_49 o_50=>rdH h k_48 N_49 fun l_51=>if o_50+9≤l_51.length then if 0=0∧(List.replicate 9 (Cell.int .i64 0)).length=9∧((l_51.drop o_50).take 9).length=9 then atK ((l_51.drop o_50).take 9) 2 fun q_52=>asI .i64 (.c q_52) fun n_53=>if (n_53 != 0)=true then if 0=0∧s2.length=3 then atK ((l_51.drop o_50).take 9) 2 fun q_54=>asI .i64 (.c q_54) fun n_55=>c1 (C 122 [(.agg s2),(.c (.int .i64 n_55))] h) fun y_57 h_56=>asI .i64 y_57 fun n_58=>if 2<((l_51.drop o_50).take 9).length then if 0=0∧(((l_51.drop o_50).take 9).set 2 (.int .i64 n_58)).length=9 then if (((l_51.drop o_50).take 9).set 2 (.int .i64 n_58)).length=9∧0+9≤(List.replicate 9 (Cell.int .i64 0)).length then if (splice (List.replicate 9 (Cell.int .i64 0)) 0 (((l_51.drop o_50).take 9).set 2 (.int .i64 n_58))).length=1*9 then appK 9 72 x8 (splice (List.replicate 9 (Cell.int .i64 0)) 0 (((l_51.drop o_50).take 9).set 2 (.int .i64 n_58))) h_56 fun x_59 h_60=>some (.normal,(q101_s3 a7 x_59 (G.wrap .i64 (a9+1)) s0 s1 s2 h_60)) else none else none else none else none else none else if 0=0∧((l_51.drop o_50).take 9).length=9 then if ((l_51.drop o_50).take 9).length=9∧0+9≤(List.replicate 9 (Cell.int .i64 0)).length then if (splice (List.replicate 9 (Cell.int .i64 0)) 0 ((l_51.drop o_50).take 9)).length=1*9 then appK 9 72 x8 (splice (List.replicate 9 (Cell.int .i64 0)) 0 ((l_51.drop o_50).take 9)) h fun x_61 h_62=>some (.normal,(q101_s3 a7 x_61 (G.wrap .i64 (a9+1)) s0 s1 s2 h_62)) else none else none else none else none else none else some ((.exit 6),(q101_x3_7 a7 x8 s0 s1 s2 h)):=by kernel_rfl
theorem q101_e3_7 (a7:Int) (x8:Cell) (s0 s1 s2:List Cell) (h:AHeap):(q101_k13 C L G) (.exit 6) (q101_x3_7 a7 x8 s0 s1 s2 h)=atK s2 2 fun q_63=>if (splice [Cell.nils] 0 ([x8]:List Cell)).length=1*1 then appK 1 24 q_63 (splice [Cell.nils] 0 ([x8]:List Cell)) h fun x_64 h_65=>if 2<s2.length then some (.normal,(q101_s4 (G.wrap .i64 (a7+1)) s0 s1 (s2.set 2 x_64) h_65)) else none else none:=by kernel_rfl
theorem q101_r4 (a7:Int) (s0 s1 s2:List Cell) (h:AHeap):q101_F4 C L G (q101_s4 a7 s0 s1 s2 h)=atK s0 2 fun q_33=>lenK q_33 fun n_34=>if (decide (a7<n_34))=true then (L (q101_F3 C L G) (q101_s3 a7 .nils 0 s0 s1 s2 h)).bind fun p_66=>(q101_k13 C L G) p_66.1 p_66.2 else some ((.exit 4),(q101_x4_5 s1 s2 h)):=by kernel_rfl
theorem q101_e4_5 (h0:AHeap) (s1 s2:List Cell) (h:AHeap):(q101_k9 C L G h0) (.exit 4) (q101_x4_5 s1 s2 h)=if 0=0∧s2.length=3 then if 0=0∧s1.length=3∧s2.length=3 then if 0=0∧s2.length=3 then some ([(.agg s2)],h) else none else none else none:=by kernel_rfl
theorem q101_e2_1 (h0:AHeap) (s0 s1 s2:List Cell) (h:AHeap):(q101_k3 C L G h0) (.exit 0) (q101_x2_1 s0 s1 s2 h)=(L (q101_F4 C L G) (q101_s4 0 s0 s1 s2 h)).bind fun p_67=>(q101_k9 C L G h0) p_67.1 p_67.2:=by kernel_rfl
set_option maxRecDepth 100000 in
theorem q101_eq (l0:List Cell) (h0:AHeap):q101.body C L G [(.agg l0)] h0=if 0=0∧l0.length=5 then c1 (C 121 [(.agg l0)] h0) fun y_2 h_1=>asC y_2 fun x_3=>if 0=0∧[Cell.nils,Cell.nils,Cell.nils].length=3∧(splice [Cell.nils,Cell.nils,Cell.nils] 0 ([x_3]:List Cell)).length=3 then (L (q101_F2 C L G) (q101_s2 0 l0 [Cell.nils,Cell.nils,Cell.nils] (splice [Cell.nils,Cell.nils,Cell.nils] 0 ([x_3]:List Cell)) h_1)).bind fun p_68=>(q101_k3 C L G h0) p_68.1 p_68.2 else none else none:=by kernel_rfl
set_option maxRecDepth 100000 in
theorem q104_eq (l0:List Cell) (a1:Int) (h0:AHeap):q104.body C L G [(.agg l0),(.c (.int .i64 a1))] h0=if 0=0∧l0.length=3 then c1 (C 110 [(.agg l0),(.c (.int .i64 a1))] h0) fun y_2 h_1=>asB y_2 fun b_3=>if (!b_3)=true then if 0=0∧[Cell.int .i64 0,Cell.int .i64 0,Cell.int .i64 0,Cell.int .i64 0,Cell.int .i64 0].length=5∧[Cell.int .i64 0,Cell.int .i64 0,Cell.int .i64 0,Cell.int .i64 0,Cell.int .i64 0].length=5 then if 0=0∧[Cell.int .i64 0,Cell.int .i64 0,Cell.int .i64 0,Cell.int .i64 0,Cell.int .i64 0].length=5 then some ([(.agg [Cell.int .i64 0,Cell.int .i64 0,Cell.int .i64 0,Cell.int .i64 0,Cell.int .i64 0])],h_1) else none else none else if 0=0∧l0.length=3 then c1 (C 123 [(.agg l0),(.c (.int .i64 a1)),(.agg [Cell.int .i64 0,Cell.int .i64 0,Cell.int .i64 0,Cell.int .i64 0,Cell.int .i64 0])] h_1) fun y_5 h_4=>asA y_5 fun l_6=>if 0=0∧[Cell.int .i64 0,Cell.int .i64 0,Cell.int .i64 0,Cell.int .i64 0,Cell.int .i64 0].length=5∧l_6.length=5 then if 0=0∧l_6.length=5 then some ([(.agg l_6)],h_4) else none else none else none else none:=by kernel_rfl
set_option maxRecDepth 100000 in
theorem q107_eq (l0:List Cell) (a1:Int) (l2:List Cell) (a3:Int) (h0:AHeap):q107.body C L G [(.agg l0),(.c (.int .i64 a1)),(.agg l2),(.c (.int .i64 a3))] h0=if 0=0∧l0.length=3 then if 0=0∧l2.length=5 then c2 (C 81 [(.agg l0),(.c (.int .i64 a1)),(.agg l2)] h0) fun y_2 y_3 h_1=>asA y_2 fun l_4=>asB y_3 fun b_5=>if 0=0∧(List.replicate 9 (Cell.int .i64 0)).length=9∧l_4.length=9 then if (!b_5)=true then if 0=0∧l2.length=5 then if 0=0∧[Cell.int .i64 0,Cell.int .i64 0,Cell.int .i64 0,Cell.int .i64 0,Cell.int .i64 0].length=5∧l2.length=5 then if 0=0∧l2.length=5 then some ([(.agg l2)],h_1) else none else none else none else atK l_4 0 fun q_6=>asI .i64 (.c q_6) fun n_7=>scK (n_7==2) false (atK l_4 0 fun q_8=>asI .i64 (.c q_8) fun n_9=>some ((n_9==4),h_1)) true h_1 fun b_10 h_11=>if b_10=true then atK l_4 1 fun q_12=>asI .i64 (.c q_12) fun n_13=>if 0≤n_13∧n_13<((4:Nat):Int) then if (1+((Int.toNat n_13)*1))<l2.length then atK (l2.set (1+((Int.toNat n_13)*1)) (.int .i64 a3)) 0 fun q_14=>asI .i64 (.c q_14) fun n_15=>if 0<(l2.set (1+((Int.toNat n_13)*1)) (.int .i64 a3)).length then if 0=0∧l0.length=3 then if 0=0∧((l2.set (1+((Int.toNat n_13)*1)) (.int .i64 a3)).set 0 (.int .i64 (G.wrap .i64 (n_15+1)))).length=5 then c1 (C 123 [(.agg l0),(.c (.int .i64 a1)),(.agg ((l2.set (1+((Int.toNat n_13)*1)) (.int .i64 a3)).set 0 (.int .i64 (G.wrap .i64 (n_15+1)))))] h_11) fun y_17 h_16=>asA y_17 fun l_18=>if 0=0∧[Cell.int .i64 0,Cell.int .i64 0,Cell.int .i64 0,Cell.int .i64 0,Cell.int .i64 0].length=5∧l_18.length=5 then if 0=0∧l_18.length=5 then some ([(.agg l_18)],h_16) else none else none else none else none else none else none else none else atK l2 0 fun q_19=>asI .i64 (.c q_19) fun n_20=>if 0<l2.length then if 0=0∧l0.length=3 then if 0=0∧(l2.set 0 (.int .i64 (G.wrap .i64 (n_20+1)))).length=5 then c1 (C 123 [(.agg l0),(.c (.int .i64 a1)),(.agg (l2.set 0 (.int .i64 (G.wrap .i64 (n_20+1)))))] h_11) fun y_22 h_21=>asA y_22 fun l_23=>if 0=0∧[Cell.int .i64 0,Cell.int .i64 0,Cell.int .i64 0,Cell.int .i64 0,Cell.int .i64 0].length=5∧l_23.length=5 then if 0=0∧l_23.length=5 then some ([(.agg l_23)],h_21) else none else none else none else none else none else none else none else none:=by kernel_rfl
set_option maxRecDepth 100000 in
theorem q110_eq (l0:List Cell) (a1:Int) (h0:AHeap):q110.body C L G [(.agg l0),(.c (.int .i64 a1))] h0=scK (decide (a1≥0)) true (atK l0 2 fun q_1=>lenK q_1 fun n_2=>some ((decide (a1<n_2)),h0)) false h0 fun b_3 h_4=>some ([(.c (.bool b_3))],h_4):=by kernel_rfl
set_option maxRecDepth 100000 in
theorem q111_eq (l0 l1:List Cell) (a2:Int) (h0:AHeap):q111.body C L G [(.agg l0),(.agg l1),(.c (.int .i64 a2))] h0=atK l0 0 fun q_1=>asI .i64 (.c q_1) fun n_2=>if (n_2==1)=true then atK l0 2 fun q_3=>asI .i64 (.c q_3) fun n_4=>if 3+2≤l0.length then if 0=0∧l1.length=5 then c1 (qh h0 (C 92 [(.agg ((l0.drop 3).take 2)),(.agg l1)] h0)) fun y_6 h_5=>asI .i64 y_6 fun n_7=>if 0=0∧[Cell.int .i64 0,Cell.int .i64 0,Cell.int .i64 0,Cell.int .i64 0,Cell.int .i64 0,Cell.int .i64 0].length=6∧(splice (splice (splice [Cell.int .i64 0,Cell.int .i64 0,Cell.int .i64 0,Cell.int .i64 0,Cell.int .i64 0,Cell.int .i64 0] 2 ([(.int .i64 2)]:List Cell)) 3 ([(.int .i64 n_4)]:List Cell)) 5 ([(.int .i64 n_7)]:List Cell)).length=6 then if 0=0∧(splice (splice (splice [Cell.int .i64 0,Cell.int .i64 0,Cell.int .i64 0,Cell.int .i64 0,Cell.int .i64 0,Cell.int .i64 0] 2 ([(.int .i64 2)]:List Cell)) 3 ([(.int .i64 n_4)]:List Cell)) 5 ([(.int .i64 n_7)]:List Cell)).length=6 then some ([(.agg (splice (splice (splice [Cell.int .i64 0,Cell.int .i64 0,Cell.int .i64 0,Cell.int .i64 0,Cell.int .i64 0,Cell.int .i64 0] 2 ([(.int .i64 2)]:List Cell)) 3 ([(.int .i64 n_4)]:List Cell)) 5 ([(.int .i64 n_7)]:List Cell)))],h0) else none else none else none else none else if (n_2==2)=true then atK l0 2 fun q_8=>asI .i64 (.c q_8) fun n_9=>if 0=0∧[Cell.int .i64 0,Cell.int .i64 0,Cell.int .i64 0,Cell.int .i64 0,Cell.int .i64 0,Cell.int .i64 0].length=6∧(splice (splice (splice [Cell.int .i64 0,Cell.int .i64 0,Cell.int .i64 0,Cell.int .i64 0,Cell.int .i64 0,Cell.int .i64 0] 2 ([(.int .i64 1)]:List Cell)) 3 ([(.int .i64 n_9)]:List Cell)) 4 ([(.int .i64 a2)]:List Cell)).length=6 then if 0=0∧(splice (splice (splice [Cell.int .i64 0,Cell.int .i64 0,Cell.int .i64 0,Cell.int .i64 0,Cell.int .i64 0,Cell.int .i64 0] 2 ([(.int .i64 1)]:List Cell)) 3 ([(.int .i64 n_9)]:List Cell)) 4 ([(.int .i64 a2)]:List Cell)).length=6 then some ([(.agg (splice (splice (splice [Cell.int .i64 0,Cell.int .i64 0,Cell.int .i64 0,Cell.int .i64 0,Cell.int .i64 0,Cell.int .i64 0] 2 ([(.int .i64 1)]:List Cell)) 3 ([(.int .i64 n_9)]:List Cell)) 4 ([(.int .i64 a2)]:List Cell)))],h0) else none else none else if (n_2==4)=true then if 3+2≤l0.length then if 0=0∧l1.length=5 then c1 (C 92 [(.agg ((l0.drop 3).take 2)),(.agg l1)] h0) fun y_11 h_10=>asI .i64 y_11 fun n_12=>if (a2==n_12)=true then atK l0 2 fun q_13=>asI .i64 (.c q_13) fun n_14=>if 6+2≤l0.length then if 0=0∧l1.length=5 then c1 (qh h_10 (C 92 [(.agg ((l0.drop 6).take 2)),(.agg l1)] h_10)) fun y_16 h_15=>asI .i64 y_16 fun n_17=>if 0=0∧[Cell.int .i64 0,Cell.int .i64 0,Cell.int .i64 0,Cell.int .i64 0,Cell.int .i64 0,Cell.int .i64 0].length=6∧(splice (splice (splice (splice [Cell.int .i64 0,Cell.int .i64 0,Cell.int .i64 0,Cell.int .i64 0,Cell.int .i64 0,Cell.int .i64 0] 2 ([(.int .i64 4)]:List Cell)) 3 ([(.int .i64 n_14)]:List Cell)) 4 ([(.int .i64 a2)]:List Cell)) 5 ([(.int .i64 n_17)]:List Cell)).length=6 then if 0=0∧(splice (splice (splice (splice [Cell.int .i64 0,Cell.int .i64 0,Cell.int .i64 0,Cell.int .i64 0,Cell.int .i64 0,Cell.int .i64 0] 2 ([(.int .i64 4)]:List Cell)) 3 ([(.int .i64 n_14)]:List Cell)) 4 ([(.int .i64 a2)]:List Cell)) 5 ([(.int .i64 n_17)]:List Cell)).length=6 then some ([(.agg (splice (splice (splice (splice [Cell.int .i64 0,Cell.int .i64 0,Cell.int .i64 0,Cell.int .i64 0,Cell.int .i64 0,Cell.int .i64 0] 2 ([(.int .i64 4)]:List Cell)) 3 ([(.int .i64 n_14)]:List Cell)) 4 ([(.int .i64 a2)]:List Cell)) 5 ([(.int .i64 n_17)]:List Cell)))],h_10) else none else none else none else none else atK l0 2 fun q_18=>asI .i64 (.c q_18) fun n_19=>if 0=0∧[Cell.int .i64 0,Cell.int .i64 0,Cell.int .i64 0,Cell.int .i64 0,Cell.int .i64 0,Cell.int .i64 0].length=6∧(splice (splice (splice [Cell.int .i64 0,Cell.int .i64 0,Cell.int .i64 0,Cell.int .i64 0,Cell.int .i64 0,Cell.int .i64 0] 2 ([(.int .i64 5)]:List Cell)) 3 ([(.int .i64 n_19)]:List Cell)) 4 ([(.int .i64 a2)]:List Cell)).length=6 then if 0=0∧(splice (splice (splice [Cell.int .i64 0,Cell.int .i64 0,Cell.int .i64 0,Cell.int .i64 0,Cell.int .i64 0,Cell.int .i64 0] 2 ([(.int .i64 5)]:List Cell)) 3 ([(.int .i64 n_19)]:List Cell)) 4 ([(.int .i64 a2)]:List Cell)).length=6 then some ([(.agg (splice (splice (splice [Cell.int .i64 0,Cell.int .i64 0,Cell.int .i64 0,Cell.int .i64 0,Cell.int .i64 0,Cell.int .i64 0] 2 ([(.int .i64 5)]:List Cell)) 3 ([(.int .i64 n_19)]:List Cell)) 4 ([(.int .i64 a2)]:List Cell)))],h_10) else none else none else none else none else if 0=0∧[Cell.int .i64 0,Cell.int .i64 0,Cell.int .i64 0,Cell.int .i64 0,Cell.int .i64 0,Cell.int .i64 0].length=6∧(splice [Cell.int .i64 0,Cell.int .i64 0,Cell.int .i64 0,Cell.int .i64 0,Cell.int .i64 0,Cell.int .i64 0] 2 ([(.int .i64 3)]:List Cell)).length=6 then if 0=0∧(splice [Cell.int .i64 0,Cell.int .i64 0,Cell.int .i64 0,Cell.int .i64 0,Cell.int .i64 0,Cell.int .i64 0] 2 ([(.int .i64 3)]:List Cell)).length=6 then some ([(.agg (splice [Cell.int .i64 0,Cell.int .i64 0,Cell.int .i64 0,Cell.int .i64 0,Cell.int .i64 0,Cell.int .i64 0] 2 ([(.int .i64 3)]:List Cell)))],h0) else none else none:=by kernel_rfl
def q122_k2 (C:CallF) (L:LoopF) (G:Glo) (h0:AHeap):Ex→St→Option (List AV × AHeap):=kSeq (fun st=>q122_p1.exec C L G st (q122.fin G h0)) (q122.fin G h0)
def q122_k3 (C:CallF) (L:LoopF) (G:Glo) (h0:AHeap):Ex→St→Option (List AV × AHeap):=kBlk 0 (q122_k2 C L G h0)
def q122_s1 (a1 a5:Int) (s0:List Cell) (h:AHeap):St:=⟨tops 1 (.v (.c (.int .i64 a1)) :: .loc 0 0 :: tops 2 (.v (.c (.int .i64 a5)) :: tops 16 [])),[some s0],h⟩
def q122_F1 (C:CallF) (L:LoopF) (G:Glo):St→Option (Ex × St):=roundF (fun st f=>q122_b1.exec C L G st f) [1,2,5] [0] [(0,[4],[]),(1,[],[])]
def q122_x1_0 (a4:Int) (h:AHeap):St:=⟨tops 4 (.v (.c (.int .i64 a4)) :: tops 17 []),[none],h⟩
def q122_x1_1 (h:AHeap):St:=⟨tops 22 [],[none],h⟩
theorem q122_r1 (a1 a5:Int) (s0:List Cell) (h:AHeap):q122_F1 C L G (q122_s1 a1 a5 s0 h)=atK s0 0 fun q_1=>lenK q_1 fun n_2=>if (decide (a5<n_2))=true then atK s0 0 fun q_3=>idxSK 1 q_3 a5 fun k_4 N_5 o_6=>rdH h k_4 N_5 fun l_7=>atK l_7 o_6 fun q_8=>asI .u8 (.c q_8) fun n_9=>if ((G.wrap .i64 n_9)==a1)=true then some (.ret,(q122_x1_0 a5 h)) else some (.normal,(q122_s1 a1 (G.wrap .i64 (a5+1)) s0 h)) else some ((.exit 0),(q122_x1_1 h)):=by kernel_rfl
theorem q122_e1_0 (h0:AHeap) (a4:Int) (h:AHeap):(q122_k3 C L G h0) .ret (q122_x1_0 a4 h)=some ([(.c (.int .i64 a4))],h):=by kernel_rfl
theorem q122_e1_1 (h0:AHeap) (h:AHeap):(q122_k3 C L G h0) (.exit 0) (q122_x1_1 h)=some ([(.c (.int .i64 (-1)))],h):=by kernel_rfl
set_option maxRecDepth 100000 in
theorem q122_eq (l0:List Cell) (a1:Int) (h0:AHeap):q122.body C L G [(.agg l0),(.c (.int .i64 a1))] h0=(L (q122_F1 C L G) (q122_s1 a1 0 l0 h0)).bind fun p_10=>(q122_k3 C L G h0) p_10.1 p_10.2:=by kernel_rfl
def q123_k2 (C:CallF) (L:LoopF) (G:Glo) (h0:AHeap):Ex→St→Option (List AV × AHeap):=kSeq (fun st=>q123_p1.exec C L G st (q123.fin G h0)) (q123.fin G h0)
def q123_k3 (C:CallF) (L:LoopF) (G:Glo) (h0:AHeap):Ex→St→Option (List AV × AHeap):=kBlk 0 (q123_k2 C L G h0)
def q123_s1 (a1:Int) (s0 s1 s2:List Cell) (h:AHeap):St:=⟨tops 1 (.v (.c (.int .i64 a1)) :: tops 1 (.loc 0 0 :: tops 1 (.loc 1 0 :: .loc 2 0 :: tops 74 []))),[some s0,some s1,some s2,none],h⟩
def q123_F1 (C:CallF) (L:LoopF) (G:Glo):St→Option (Ex × St):=roundF (fun st f=>q123_b1.exec C L G st f) [1,3,5,6] [0,1,2] [(0,[6],[2]),(1,[5,6],[1,2])]
def q123_x1_0 (s2:List Cell) (h:AHeap):St:=⟨tops 6 (.loc 2 0 :: tops 74 []),[none,none,some s2,none],h⟩
def q123_x1_1 (s1 s2:List Cell) (h:AHeap):St:=⟨tops 5 (.loc 1 0 :: .loc 2 0 :: tops 74 []),[none,some s1,some s2,none],h⟩
theorem q123_r1 (a1:Int) (s0 s1 s2:List Cell) (h:AHeap):q123_F1 C L G (q123_s1 a1 s0 s1 s2 h)=atK s1 0 fun q_1=>asI .i64 (.c q_1) fun n_2=>atK s0 2 fun q_3=>idxSK 1 q_3 a1 fun k_4 N_5 o_6=>rdH h k_4 N_5 fun l_7=>atK l_7 o_6 fun q_8=>lenK q_8 fun n_9=>if (decide (n_2<n_9))=true then atK s0 2 fun q_10=>idxSK 1 q_10 a1 fun k_11 N_12 o_13=>rdH h k_11 N_12 fun l_14=>atK l_14 o_13 fun q_15=>atK s1 0 fun q_16=>asI .i64 (.c q_16) fun n_17=>idxSK 9 q_15 n_17 fun k_18 N_19 o_20=>rdH h k_18 N_19 fun l_21=>if o_20+9≤l_21.length then if 0=0∧(List.replicate 9 (Cell.int .i64 0)).length=9∧((l_21.drop o_20).take 9).length=9 then atK ((l_21.drop o_20).take 9) 0 fun q_22=>asI .i64 (.c q_22) fun n_23=>if (n_23==5)=true then if 3+2≤((l_21.drop o_20).take 9).length then if 0=0∧s1.length=5 then c1 (C 92 [(.agg ((((l_21.drop o_20).take 9).drop 3).take 2)),(.agg s1)] h) fun y_25 h_24=>asI .i64 y_25 fun n_26=>atK ((l_21.drop o_20).take 9) 5 fun q_27=>asI .i64 (.c q_27) fun n_28=>if (n_28 != 0)=true then atK ((l_21.drop o_20).take 9) 5 fun q_29=>asI .i64 (.c q_29) fun n_30=>if 6+2≤((l_21.drop o_20).take 9).length then if 0=0∧s1.length=5 then c1 (qh h_24 (C 92 [(.agg ((((l_21.drop o_20).take 9).drop 6).take 2)),(.agg s1)] h_24)) fun y_32 h_31=>asI .i64 y_32 fun n_33=>c2 (qh h_24 (C 93 [(.c (.int .i64 n_30)),(.c (.int .i64 n_26)),(.c (.int .i64 n_33))] h_24)) fun y_35 y_36 h_34=>asI .i64 y_35 fun n_37=>asB y_36 fun b_38=>atK ((l_21.drop o_20).take 9) 1 fun q_39=>asI .i64 (.c q_39) fun n_40=>if 0≤n_40∧n_40<((4:Nat):Int) then if (1+((Int.toNat n_40)*1))<s1.length then atK (s1.set (1+((Int.toNat n_40)*1)) (.int .i64 n_37)) 0 fun q_41=>asI .i64 (.c q_41) fun n_42=>if 0<(s1.set (1+((Int.toNat n_40)*1)) (.int .i64 n_37)).length then some (.normal,(q123_s1 a1 s0 ((s1.set (1+((Int.toNat n_40)*1)) (.int .i64 n_37)).set 0 (.int .i64 (G.wrap .i64 (n_42+1)))) s2 h_24)) else none else none else none else none else none else atK ((l_21.drop o_20).take 9) 1 fun q_43=>asI .i64 (.c q_43) fun n_44=>if 0≤n_44∧n_44<((4:Nat):Int) then if (1+((Int.toNat n_44)*1))<s1.length then atK (s1.set (1+((Int.toNat n_44)*1)) (.int .i64 n_26)) 0 fun q_45=>asI .i64 (.c q_45) fun n_46=>if 0<(s1.set (1+((Int.toNat n_44)*1)) (.int .i64 n_26)).length then some (.normal,(q123_s1 a1 s0 ((s1.set (1+((Int.toNat n_44)*1)) (.int .i64 n_26)).set 0 (.int .i64 (G.wrap .i64 (n_46+1)))) s2 h_24)) else none else none else none else none else none else if (n_23==6)=true then if 3+2≤((l_21.drop o_20).take 9).length then if 0=0∧s1.length=5 then c1 (qh h (C 92 [(.agg ((((l_21.drop o_20).take 9).drop 3).take 2)),(.agg s1)] h)) fun y_48 h_47=>asI .i64 y_48 fun n_49=>if 6+2≤((l_21.drop o_20).take 9).length then if 0=0∧s1.length=5 then c1 (qh h (C 92 [(.agg ((((l_21.drop o_20).take 9).drop 6).take 2)),(.agg s1)] h)) fun y_51 h_50=>asI .i64 y_51 fun n_52=>if (n_49==n_52)=true then atK s1 0 fun q_53=>asI .i64 (.c q_53) fun n_54=>atK ((l_21.drop o_20).take 9) 8 fun q_55=>asI .i64 (.c q_55) fun n_56=>if 0<s1.length then atK (s1.set 0 (.int .i64 (G.wrap .i64 (n_54+n_56)))) 0 fun q_57=>asI .i64 (.c q_57) fun n_58=>if 0<(s1.set 0 (.int .i64 (G.wrap .i64 (n_54+n_56)))).length then some (.normal,(q123_s1 a1 s0 ((s1.set 0 (.int .i64 (G.wrap .i64 (n_54+n_56)))).set 0 (.int .i64 (G.wrap .i64 (n_58+1)))) s2 h)) else none else none else atK s1 0 fun q_59=>asI .i64 (.c q_59) fun n_60=>if 0<s1.length then some (.normal,(q123_s1 a1 s0 (s1.set 0 (.int .i64 (G.wrap .i64 (n_60+1)))) s2 h)) else none else none else none else none else none else if 0=0∧s1.length=5 then if 0=0∧s2.length=5∧s1.length=5 then some (.ret,(q123_x1_0 s1 h)) else none else none else none else none else some ((.exit 0),(q123_x1_1 s1 s2 h)):=by kernel_rfl
theorem q123_e1_0 (h0:AHeap) (s2:List Cell) (h:AHeap):(q123_k3 C L G h0) .ret (q123_x1_0 s2 h)=if 0=0∧s2.length=5 then some ([(.agg s2)],h) else none:=by kernel_rfl
theorem q123_e1_1 (h0:AHeap) (s1 s2:List Cell) (h:AHeap):(q123_k3 C L G h0) (.exit 0) (q123_x1_1 s1 s2 h)=if 0=0∧s1.length=5 then if 0=0∧s2.length=5∧s1.length=5 then if 0=0∧s1.length=5 then some ([(.agg s1)],h) else none else none else none:=by kernel_rfl
set_option maxRecDepth 100000 in
theorem q123_eq (l0:List Cell) (a1:Int) (l2:List Cell) (h0:AHeap):q123.body C L G [(.agg l0),(.c (.int .i64 a1)),(.agg l2)] h0=(L (q123_F1 C L G) (q123_s1 a1 l0 l2 [Cell.int .i64 0,Cell.int .i64 0,Cell.int .i64 0,Cell.int .i64 0,Cell.int .i64 0] h0)).bind fun p_61=>(q123_k3 C L G h0) p_61.1 p_61.2:=by kernel_rfl
end Jq

namespace Jq
open Go
def ofR (n:Nat) (l:List (Int × Int)):Nat→Nat:=l.foldl (fun f p=>addR n f p.1 p.2) fun _=>0
variable {E:Env}
theorem addR_bit {n:Nat} (hn:n≤64) (f:Nat→Nat) (x y:Int) (a b:Nat):(addR n f x y a).testBit b=((f a).testBit b||(inR n x&&inR n y&&decide (x=a)&&decide (y=b))):=by
  unfold addR
  by_cases hin:(inR n x&&inR n y)=true
  · rw [if_pos hin,hin,Bool.true_and]
    simp only [Bool.and_eq_true] at hin
    have hx:0≤x∧x<n:=by simpa [inR] using hin.1
    have hy:0≤y∧y<n:=by simpa [inR] using hin.2
    unfold updF
    by_cases ha:a=x.toNat
    · rw [if_pos ha,Nat.testBit_or,testBit_bitI,←ha]
      have h1:decide (x=(a:Int))=true:=by simp;omega
      rw [h1,Bool.true_and]
      by_cases hb:y=(b:Int)
      · have:b<64:=by omega
        simp [hb,this]
      · simp [hb]
    · rw [if_neg ha]
      have h1:decide (x=(a:Int))=false:=by simp;omega
      rw [h1,Bool.false_and,Bool.or_false]
  · rw [if_neg hin,show (inR n x&&inR n y)=false by simpa using hin];simp
theorem inR_nat {n a:Nat}:inR n (a:Int)=decide (a<n):=by
  unfold inR
  rw [Bool.eq_iff_iff];simp
end Jq

namespace Jq
open Go
def mkN (p:Nat→Bool):Nat:=(List.range 64).foldl (fun a j=>if p j then a ||| 2 ^ j else a) 0
theorem mkN_aux (p:Nat→Bool):∀m,m≤64→((List.range m).foldl (fun a j=>if p j then a ||| 2 ^ j else a) 0)<2 ^ 64∧∀j,((List.range m).foldl (fun a j=>if p j then a ||| 2 ^ j else a) 0).testBit j=(decide (j<m)&&p j)
  | 0,_=>⟨by simp,fun j=>by simp⟩
  | m+1,hm=>by
    obtain ⟨h1,h2⟩:=mkN_aux p m (by omega)
    rw [List.range_succ,List.foldl_append,List.foldl_cons,List.foldl_nil]
    have hp:2 ^ m<2 ^ 64:=Nat.pow_lt_pow_right (by omega) (by omega)
    by_cases hpm:p m=true
    · rw [if_pos hpm]
      refine ⟨or_lt h1 hp,fun j=>?_⟩
      rw [Nat.testBit_or,h2,Nat.testBit_two_pow]
      by_cases hj:j=m
      · subst hj;simp [hpm]
      · rw [show decide (m=j)=false by simp;omega,Bool.or_false]
        congr 1
        rw [Bool.eq_iff_iff];simp;omega
    · rw [if_neg hpm]
      refine ⟨h1,fun j=>?_⟩
      rw [h2]
      by_cases hj:j=m
      · subst hj;simp [hpm]
      · congr 1
        rw [Bool.eq_iff_iff];simp;omega
theorem mkN_lt (p:Nat→Bool):mkN p<2 ^ 64:=(mkN_aux p 64 (Nat.le_refl _)).1
theorem testBit_mkN (p:Nat→Bool) (j:Nat):(mkN p).testBit j=(decide (j<64)&&p j):=(mkN_aux p 64 (Nat.le_refl _)).2 j
theorem words_mkN (p:Nat→Nat→Bool):Words fun i=>mkN (p i):=fun _=>mkN_lt _
theorem eq_of_bits {a b:Nat} (ha:a<2 ^ 64) (hb:b<2 ^ 64) (h:∀j,j<64→a.testBit j=b.testBit j):a=b:=by
  refine Nat.eq_of_testBit_eq fun j=>?_
  rcases Nat.lt_or_ge j 64 with hj | hj
  · exact h j hj
  · have h64:2 ^ 64≤2 ^ j:=Nat.pow_le_pow_right (by omega) hj
    rw [Nat.testBit_lt_two_pow (Nat.lt_of_lt_of_le ha h64),Nat.testBit_lt_two_pow (Nat.lt_of_lt_of_le hb h64)]
theorem relL_ext {n m:Nat} {f g:Nat→Nat} (hn:n=m) (hf:Words f) (hg:Words g) (h:∀i j,i<64→j<64→(f i).testBit j=(g i).testBit j):relL n f=relL m g:=by
  subst hn
  exact relL_congr fun i hi=>eq_of_bits (hf i) (hg i) fun j hj=>h i j hi hj
def upF (T:Nat→Nat) (i:Nat):Nat→Nat:=fun j=>if j<i then T j else 0
variable {E:Env}
theorem clamp_nat {n:Nat} (hn:n≤64):clamp (n:Int)=n:=by unfold clamp;omega
def relM (n:Nat) (p:Nat→Nat→Bool):List Cell:=relL n fun i=>mkN (p i)
def orL (T:Nat→Nat) (l:List Nat):Nat:=l.foldl (fun a k=>a ||| T k) 0
theorem Lim_bits {F:St→Option (Ex × St)} (g:Nat→List Nat→St) {s:Nat} (hs:s<2 ^ 64) (hstep:∀a done,a<2 ^ 64→a≠0→done++bitsL a=bitsL s→Lib.ctz 64 a<64→s.testBit (Lib.ctz 64 a)=true→F (g a done)=some (.normal,g (a &&& (a - 1)) (done++[Lib.ctz 64 a])))
    {p:Ex × St} (hend:Lim F (g 0 (bitsL s))=some p):Lim F (g s [])=some p:=by
  have:∀k a done,a≤k→a<2 ^ 64→done++bitsL a=bitsL s→Lim F (g a done)=some p:=by
    intro k
    induction k with
    | zero =>
      intro a done hak _ hd
      have h0:a=0:=by omega
      subst h0
      rw [bitsL_zero,List.append_nil] at hd
      rw [hd];exact hend
    | succ k ih =>
      intro a done hak ha hd
      by_cases h0:a=0
      · subst h0
        rw [bitsL_zero,List.append_nil] at hd
        rw [hd];exact hend
      · have hc:=bitsL_cons ha h0
        have hmem:Lib.ctz 64 a∈bitsL s:=by rw [←hd,hc];simp
        obtain ⟨m1,m2⟩:=mem_bitsL.1 hmem
        refine Lim_next (hstep a done ha h0 hd m1 m2) (ih _ _ ?_ (and_lt ha) ?_)
        · have:=and_pred_lt h0;omega
        · rw [List.append_assoc,List.singleton_append,←hc,hd]
  exact this s s [] (Nat.le_refl _) hs rfl
theorem pred_wrap {a:Nat} (ha:a<2 ^ 64) (h0:a≠0):E.glob.band .u64 (a:Int) (E.glob.wrap .u64 ((a:Int) - 1))=((a &&& (a - 1):Nat):Int):=by
  rw [show E.glob.wrap .u64 ((a:Int) - 1)=((a - 1:Nat):Int) by rw [g_wrap_u64 (by omega) (by omega)];omega,g_band ha (by omega)]
theorem ne_zero {a:Nat} (h0:a≠0):((a:Int) != 0)=true:=by rw [bne_iff_ne];omega
def thenF (n:Nat) (f g:Nat→Nat) (i:Nat):Nat:=orL (fun k=>g k &&& (2 ^ n - 1)) (bitsL (f i &&& (2 ^ n - 1)))
def invP (f:Nat→Nat) (i:Nat) (done:List Nat):Nat→Nat:=fun k=>mkN fun j=>(decide (j<i)&&(f j).testBit k)||(decide (j=i)&&decide (k∈done))
theorem invP_lt (f:Nat→Nat) (i:Nat) (done:List Nat):Words (invP f i done):=fun _=>mkN_lt _
theorem Inverse_R (hE:q40_In E) (ht:TabOk E) {n:Nat} (hn:n≤64) {f:Nat→Nat} (hf:Words f) (h:AHeap) :
    R E 40 [.agg (relL n f)] h=some ([.agg (relM n fun i j=>decide (j<n)&&(f j).testBit i)],h):=by
  refine R_intro hE.fn ?_
  rw [q40_eq,atK_ok (relL_zero _ _),asI_ok,New_R hE.c9,c1_ok,asA_ok,clamp_nat hn,if_pos ⟨rfl,zero_len,relL_len _ _⟩,atK_ok (relL_zero _ _),asI_ok]
  have loop:Lim (q40_F2 (R E) Lim E.glob) (q40_s2 n ((0:Nat):Int) (relL n f) zeroL (relL n (invP f 0 [])) h)=some (.exit 0,q40_x2_1 zeroL (relL n (invP f n [])) h):=by
    refine Lim_count (fun i=>q40_s2 n (i:Int) (relL n f) zeroL (relL n (invP f i [])) h) 0 n (by omega) (fun i _ hi=>?_) (Lim_exit ?_)
    · have q1:0≤(i:Int)∧(i:Int)<((64:Nat):Int):=by omega
      rw [q40_r2,if_pos (by simp;omega),if_pos q1,Int.toNat_natCast,Nat.mul_one,atK_ok (relL_row (by omega)),asI_ok]
      have inner:=Lim_bits (F:=q40_F1 (R E) Lim E.glob) (fun a done=>q40_s1 i (a:Nat) n i (relL n f) zeroL (relL n (invP f i done)) h) (hf i) (fun a done ha h0 hd hc hb=>by
        have q2:0≤((Lib.ctz 64 a:Nat):Int)∧((Lib.ctz 64 a:Nat):Int)<((64:Nat):Int):=by omega
        have hF:firstI a=((Lib.ctz 64 a:Nat):Int):=by unfold firstI;rw [if_neg h0]
        have hupd:relL n (updF (invP f i done) (Lib.ctz 64 a) (invP f i done (Lib.ctz 64 a) ||| bitI (i:Int)))=relL n (invP f i (done++[Lib.ctz 64 a])):=by
          refine relL_ext rfl (words_upd (invP_lt f i done) (or_lt (invP_lt f i done _) (bitI_lt _))) (invP_lt f i _) fun k j hk hj=>?_
          unfold updF
          by_cases hkc:k=Lib.ctz 64 a
          · rw [if_pos hkc,Nat.testBit_or,testBit_bitI]
            unfold invP
            rw [testBit_mkN,testBit_mkN,Bool.eq_iff_iff]
            simp only [Bool.or_eq_true,Bool.and_eq_true,decide_eq_true_eq,List.mem_append,List.mem_singleton,hj,true_and,hkc,or_true,and_true]
            constructor
            · rintro ((h1 | ⟨h1,_⟩) | h1)
              · exact .inl h1
              · exact .inr h1
              · exact .inr (by omega)
            · rintro (h1 | h1)
              · exact .inl (.inl h1)
              · exact .inr (by omega)
          · rw [if_neg hkc]
            unfold invP
            rw [testBit_mkN,testBit_mkN]
            simp [hkc]
        rw [q40_r1,if_pos (ne_zero h0),First_R hE.c38 ht ha,c1_ok,asI_ok,First_R hE.c38 ht ha,c1_ok,asI_ok,hF,if_pos q2,Int.toNat_natCast,Nat.mul_one,atK_ok (relL_row hc),asI_ok,With_R hE.c18 (invP_lt f i done _),c1_ok,asI_ok,if_pos q2,if_pos (by rw [relL_len];omega),pred_wrap ha h0,relL_set,hupd])
        (p:=(.exit 2,q40_x1_3 n i (relL n f) zeroL (relL n (invP f (i+1) [])) h)) (Lim_exit (by
          have hnext:relL n (invP f i (bitsL (f i)))=relL n (invP f (i+1) []):=by
            refine relL_ext rfl (invP_lt f i _) (invP_lt f (i+1) _) fun k j hk hj=>?_
            unfold invP
            rw [testBit_mkN,testBit_mkN,Bool.eq_iff_iff]
            simp only [Bool.or_eq_true,Bool.and_eq_true,decide_eq_true_eq,hj,true_and,mem_bitsL,hk,List.not_mem_nil,and_false,or_false]
            constructor
            · rintro (⟨h1,h2⟩ | ⟨h1,h2⟩)
              · exact ⟨by omega,h2⟩
              · subst h1;exact ⟨by omega,h2⟩
            · rintro ⟨h1,h2⟩
              by_cases hji:j=i
              · subst hji;exact .inr ⟨rfl,h2⟩
              · exact .inl ⟨by omega,h2⟩
          rw [q40_r1,if_neg (by simp),hnext]))
      rw [inner,bind_ok,q40_e1_3,g_succ (by omega)]
    · rw [q40_r2,if_neg (by simp)]
  have h00:relL n (invP f 0 [])=relL n fun _=>0:=by
    refine relL_ext rfl (invP_lt f 0 _) words_zero fun k j hk hj=>?_
    unfold invP
    rw [testBit_mkN];simp
  rw [h00] at loop
  rw [show q40_s2 n 0 (relL n f) ([Cell.int .i64 0]++List.replicate 64 (Cell.int .u64 0)) (relL n fun _=>0) h=q40_s2 n ((0:Nat):Int) (relL n f) zeroL (relL n fun _=>0) h from rfl,loop,bind_ok,q40_e2_1]
  simp only [relL_len,zeroL,zero_len,and_self,if_true]
  congr 4
  refine relL_ext rfl (invP_lt f n _) (words_mkN _) fun i j hi hj=>?_
  unfold invP
  rw [testBit_mkN,testBit_mkN];simp
end Jq

namespace Jq
open Go
def TH (n:Nat) (f g:Nat→Nat):Nat→Nat:=fun i=>mkN fun j=>decide (i<n)&&decide (j<n)&&(List.range n).any fun k=>(f i).testBit k&&(g k).testBit j
def UNI (n:Nat) (f g:Nat→Nat):Nat→Nat:=fun i=>mkN fun j=>decide (i<n)&&decide (j<n)&&((f i).testBit j||(g i).testBit j)
def MIN (n:Nat) (f g:Nat→Nat):Nat→Nat:=fun i=>mkN fun j=>decide (i<n)&&decide (j<n)&&((f i).testBit j&&!(g i).testBit j)
def MEE (n:Nat) (f g:Nat→Nat):Nat→Nat:=fun i=>mkN fun j=>decide (i<n)&&decide (j<n)&&((f i).testBit j&&(g i).testBit j)
def INV (n:Nat) (f:Nat→Nat):Nat→Nat:=fun i=>mkN fun j=>decide (j<n)&&(f j).testBit i
def KEE (n:Nat) (f:Nat→Nat) (s:Nat):Nat→Nat:=fun i=>mkN fun j=>decide (i<n)&&s.testBit i&&((f i).testBit j&&s.testBit j)
theorem w_INV (n:Nat) (f:Nat→Nat):Words (INV n f):=fun _=>mkN_lt _
def Fit (n:Nat) (f:Nat→Nat):Prop:=∀i j,(f i).testBit j=true→i<n∧j<n
theorem rel_eq {n:Nat} {f g:Nat→Nat} (hf:Words f) (hg:Words g) (h:∀i j,(f i).testBit j=true↔(g i).testBit j=true):relL n f=relL n g :=
  relL_ext rfl hf hg fun i j _ _=>by rw [Bool.eq_iff_iff];exact h i j
variable {E:Env} {n:Nat}
theorem Inverse_S (hE:q40_In E) (ht:TabOk E) (hn:n≤64) {f:Nat→Nat} (hf:Words f) (h:AHeap):R E 40 [.agg (relL n f)] h=some ([.agg (relL n (INV n f))],h):=Inverse_R hE ht hn hf h
end Jq

namespace Jq
open Go
def rowP (f:Nat→Nat) (i:Nat):List (Int × Int):=(bitsL (f i)).map fun (k:Nat)=>((i:Int),(k:Int))
def pairsP (n:Nat) (f:Nat→Nat):List (Int × Int):=(List.range n).flatMap (rowP f)
theorem bits_len (s:Nat):(bitsL s).length≤64:=by unfold bitsL;exact Nat.le_trans (List.length_filter_le _ _) (by simp)
theorem Own.keep {n:Nat} {h h':AHeap} {x:Cell} {esz len:Nat} {cs:List Cell} (o:Own n h x esz cs len) (a:Kp h.length h h'):Own n h' x esz cs len:=by
  refine ⟨o.1,o.2.imp id ?_⟩
  rintro ⟨k,rfl,hk,hb⟩
  exact ⟨k,rfl,hk,by rw [a.blk (blk_lt' hb)];exact hb⟩
def ApartB (x y:Cell):Prop:=∀k,isBlk y k→¬isBlk x k
theorem Own.apart {n m:Nat} {h:AHeap} {x y:Cell} {e1 e2 l1 l2:Nat} {c1 c2:List Cell} (o:Own n h x e1 c1 l1) (hm:h.length≤m) {h':AHeap} (o2:Own m h' y e2 c2 l2):ApartB x y:=by
  intro k hk hx
  rcases o.2 with ⟨rfl,_⟩ | ⟨k1,rfl,_,hb⟩
  · cases hx
  · rcases o2.2 with ⟨rfl,_⟩ | ⟨k2,rfl,hk2,_⟩
    · cases hk
    · have e1:k1=k:=hx
      have e2:k2=k:=hk
      have:=blk_lt' hb
      omega
variable {E:Env}
end Jq

namespace Jq
open Go
def rowU (f:Nat→Nat) (i j:Nat):List (Int × Int):=((List.range j).filter fun k=>(f i).testBit k).map fun (k:Nat)=>((i:Int),(k:Int))
section
variable {E:Env}
end
variable {E:Env}
end Jq

namespace Jq
open Go
end Jq

namespace Jq
open Go
end Jq

namespace Jq
open Go
end Jq

