/- YtjamopobfdnlkaaDoorRaceFreeC: a part of the proof; no conditions of its own. -/
import Derived.KernelRfl
import Derived.Test.YtjamopobfdnlkaaDoorRaceFreeB
set_option linter.unusedVariables false
set_option linter.unusedSimpArgs false

namespace Jq
open Go
variable (C:CallF) (L:LoopF) (G:Glo)
def q97_k2 (C:CallF) (L:LoopF) (G:Glo) (h0:AHeap):Ex→St→Option (List AV × AHeap):=kSeq (fun st=>q97_p1.exec C L G st (q97.fin G h0)) (q97.fin G h0)
def q97_c1 (a1:Int) (x7:Cell) (a8 a9:Int) (s0 s1:List Cell) (h:AHeap):St:=⟨tops 1 (.v (.c (.int .i64 a1)) :: tops 2 (.loc 0 0 :: .loc 1 0 :: tops 1 (.v (.c x7) :: .v (.c (.int .i64 a8)) :: .v (.c (.int .i64 a9)) :: tops 174 []))),[some s0,some s1,none],h⟩
def q97_k3 (C:CallF) (L:LoopF) (G:Glo) (h0:AHeap):Ex→St→Option (List AV × AHeap):=kSeq (fun st=>q97_p2.exec C L G st (q97.fin G h0)) (q97.fin G h0)
def q97_k4 (C:CallF) (L:LoopF) (G:Glo) (h0:AHeap):Ex→St→Option (List AV × AHeap):=kBlk 0 (q97_k3 C L G h0)
def q97_s2 (a1:Int) (x7:Cell) (a8 a9:Int) (a10 a11:Int) (s0 s1:List Cell) (h:AHeap):St:=⟨tops 1 (.v (.c (.int .i64 a1)) :: tops 2 (.loc 0 0 :: .loc 1 0 :: tops 1 (.v (.c x7) :: .v (.c (.int .i64 a8)) :: .v (.c (.int .i64 a9)) :: .v (.c (.int .i64 a10)) :: .v (.c (.int .i64 a11)) :: tops 172 []))),[some s0,some s1,none],h⟩
def q97_F2 (C:CallF) (L:LoopF) (G:Glo):St→Option (Ex × St):=roundF (fun st f=>q97_b2.exec C L G st f) [1,4,5,7,8,9,10,11] [0,1] [(1,[4,5,7],[0,1])]
def q97_k5 (C:CallF) (L:LoopF) (G:Glo):Ex→St→Option (Ex × St):=kSeq (fun st=>q97_p3.exec C L G st (kLoop [1,4,5,7,8,9,10,11] [0,1] [(1,[4,5,7],[0,1])])) (kLoop [1,4,5,7,8,9,10,11] [0,1] [(1,[4,5,7],[0,1])])
def q97_k6 (C:CallF) (L:LoopF) (G:Glo):Ex→St→Option (Ex × St):=kBlk 1 (q97_k5 C L G)
def q97_k7 (C:CallF) (L:LoopF) (G:Glo):Ex→St→Option (Ex × St):=kSeq (fun st=>q97_p4.exec C L G st (q97_k6 C L G)) (q97_k6 C L G)
def q97_k8 (C:CallF) (L:LoopF) (G:Glo):Ex→St→Option (Ex × St):=kBlk 2 (q97_k7 C L G)
def q97_s1 (a1:Int) (x7:Cell) (a8 a9:Int) (a10 a11:Int) (x12:Cell) (a13:Int) (s0 s1:List Cell) (h:AHeap):St:=⟨tops 1 (.v (.c (.int .i64 a1)) :: tops 2 (.loc 0 0 :: .loc 1 0 :: tops 1 (.v (.c x7) :: .v (.c (.int .i64 a8)) :: .v (.c (.int .i64 a9)) :: .v (.c (.int .i64 a10)) :: .v (.c (.int .i64 a11)) :: .v (.c x12) :: .v (.c (.int .i64 a13)) :: tops 170 []))),[some s0,some s1,none],h⟩
def q97_F1 (C:CallF) (L:LoopF) (G:Glo):St→Option (Ex × St):=roundF (fun st f=>q97_b1.exec C L G st f) [1,4,5,7,8,9,10,11,12,13] [0,1] [(3,[1,4,5,7,8,9,10,11,12],[0,1])]
def q97_k9 (C:CallF) (L:LoopF) (G:Glo):Ex→St→Option (Ex × St):=kSeq (fun st=>q97_p5.exec C L G st (kLoop [1,4,5,7,8,9,10,11,12,13] [0,1] [(3,[1,4,5,7,8,9,10,11,12],[0,1])])) (kLoop [1,4,5,7,8,9,10,11,12,13] [0,1] [(3,[1,4,5,7,8,9,10,11,12],[0,1])])
def q97_k10 (C:CallF) (L:LoopF) (G:Glo):Ex→St→Option (Ex × St):=kBlk 3 (q97_k9 C L G)
def q97_k11 (C:CallF) (L:LoopF) (G:Glo):Ex→St→Option (Ex × St):=kSeq (fun st=>q97_p6.exec C L G st (q97_k10 C L G)) (q97_k10 C L G)
def q97_c2 (a1:Int) (x7:Cell) (a8 a9:Int) (a10 a11:Int) (x12:Cell) (a13 a14 a15:Int) (s0 s1 s2:List Cell) (h:AHeap):St:=⟨tops 1 (.v (.c (.int .i64 a1)) :: tops 2 (.loc 0 0 :: .loc 1 0 :: tops 1 (.v (.c x7) :: .v (.c (.int .i64 a8)) :: .v (.c (.int .i64 a9)) :: .v (.c (.int .i64 a10)) :: .v (.c (.int .i64 a11)) :: .v (.c x12) :: .v (.c (.int .i64 a13)) :: .v (.c (.int .i64 a14)) :: .v (.c (.int .i64 a15)) :: .loc 2 0 :: tops 167 []))),[some s0,some s1,some s2],h⟩
def q97_k12 (C:CallF) (L:LoopF) (G:Glo):Ex→St→Option (Ex × St):=kBlk 4 (q97_k10 C L G)
def q97_k13 (C:CallF) (L:LoopF) (G:Glo):Ex→St→Option (Ex × St):=kSeq (fun st=>q97_p7.exec C L G st (q97_k12 C L G)) (q97_k12 C L G)
def q97_c3 (a1:Int) (x7:Cell) (a8 a9:Int) (a10 a11:Int) (x12:Cell) (a13 a15:Int) (a17 a83:Int) (b95:Bool) (s0 s1 s2:List Cell) (h:AHeap):St:=⟨tops 1 (.v (.c (.int .i64 a1)) :: tops 2 (.loc 0 0 :: .loc 1 0 :: tops 1 (.v (.c x7) :: .v (.c (.int .i64 a8)) :: .v (.c (.int .i64 a9)) :: .v (.c (.int .i64 a10)) :: .v (.c (.int .i64 a11)) :: .v (.c x12) :: .v (.c (.int .i64 a13)) :: tops 1 (.v (.c (.int .i64 a15)) :: .loc 2 0 :: .v (.c (.int .i64 a17)) :: tops 65 (.v (.c (.int .i64 a83)) :: tops 11 (.v (.c (.bool b95)) :: tops 88 [])))))),[some s0,some s1,some s2],h⟩
def q97_k14 (C:CallF) (L:LoopF) (G:Glo):Ex→St→Option (Ex × St):=kSeq (fun st=>q97_p8.exec C L G st (q97_k12 C L G)) (q97_k12 C L G)
def q97_c4 (a1:Int) (x7:Cell) (a8 a9:Int) (a10 a11:Int) (x12:Cell) (a13 a15:Int) (a17 a83:Int) (b108:Bool) (s0 s1 s2:List Cell) (h:AHeap):St:=⟨tops 1 (.v (.c (.int .i64 a1)) :: tops 2 (.loc 0 0 :: .loc 1 0 :: tops 1 (.v (.c x7) :: .v (.c (.int .i64 a8)) :: .v (.c (.int .i64 a9)) :: .v (.c (.int .i64 a10)) :: .v (.c (.int .i64 a11)) :: .v (.c x12) :: .v (.c (.int .i64 a13)) :: tops 1 (.v (.c (.int .i64 a15)) :: .loc 2 0 :: .v (.c (.int .i64 a17)) :: tops 65 (.v (.c (.int .i64 a83)) :: tops 24 (.v (.c (.bool b108)) :: tops 75 [])))))),[some s0,some s1,some s2],h⟩
def q97_x1_3 (a1:Int) (x7:Cell) (a8 a9:Int) (a10 a11:Int) (x12:Cell) (s0 s1:List Cell) (h:AHeap):St:=⟨tops 1 (.v (.c (.int .i64 a1)) :: tops 2 (.loc 0 0 :: .loc 1 0 :: tops 1 (.v (.c x7) :: .v (.c (.int .i64 a8)) :: .v (.c (.int .i64 a9)) :: .v (.c (.int .i64 a10)) :: .v (.c (.int .i64 a11)) :: .v (.c x12) :: tops 171 []))),[some s0,some s1,none],h⟩
def q97_x2_1 (x7:Cell) (s0 s1:List Cell) (h:AHeap):St:=⟨tops 4 (.loc 0 0 :: .loc 1 0 :: tops 1 (.v (.c x7) :: tops 176 [])),[some s0,some s1,none],h⟩
theorem q97_ec4_n (a1:Int) (x7:Cell) (a8 a9:Int) (a10 a11:Int) (x12:Cell) (a13 a15:Int) (a17 a83:Int) (b108:Bool) (s0 s1 s2:List Cell) (h:AHeap):(q97_k14 C L G) .normal (q97_c4 a1 x7 a8 a9 a10 a11 x12 a13 a15 a17 a83 b108 s0 s1 s2 h)=if b108=true then if (splice (splice (splice (List.replicate 9 (Cell.int .i64 0)) 0 ([(.int .i64 2)]:List Cell)) 1 ([(.int .i64 a17)]:List Cell)) 2 ([(.int .i64 a15)]:List Cell)).length=9∧0+9≤(List.replicate 9 (Cell.int .i64 0)).length then if (splice (List.replicate 9 (Cell.int .i64 0)) 0 (splice (splice (splice (List.replicate 9 (Cell.int .i64 0)) 0 ([(.int .i64 2)]:List Cell)) 1 ([(.int .i64 a17)]:List Cell)) 2 ([(.int .i64 a15)]:List Cell))).length=1*9 then appK 9 72 x12 (splice (List.replicate 9 (Cell.int .i64 0)) 0 (splice (splice (splice (List.replicate 9 (Cell.int .i64 0)) 0 ([(.int .i64 2)]:List Cell)) 1 ([(.int .i64 a17)]:List Cell)) 2 ([(.int .i64 a15)]:List Cell))) h fun x_41 h_42=>some (.normal,(q97_s1 a1 x7 a8 a9 (G.wrap .i64 (a10+1)) a11 x_41 (G.wrap .i64 (a13 - 1)) s0 s1 h_42)) else none else none else if (a83==8)=true then if (splice (List.replicate 9 (Cell.int .i64 0)) 0 ([(.int .i64 3)]:List Cell)).length=9∧0+9≤(List.replicate 9 (Cell.int .i64 0)).length then if (splice (List.replicate 9 (Cell.int .i64 0)) 0 (splice (List.replicate 9 (Cell.int .i64 0)) 0 ([(.int .i64 3)]:List Cell))).length=1*9 then appK 9 72 x12 (splice (List.replicate 9 (Cell.int .i64 0)) 0 (splice (List.replicate 9 (Cell.int .i64 0)) 0 ([(.int .i64 3)]:List Cell))) h fun x_43 h_44=>some (.normal,(q97_s1 a1 x7 a8 a9 a10 a11 x_43 (G.wrap .i64 (a13 - 1)) s0 s1 h_44)) else none else none else if (a83==9)=true then if 0=0∧s2.length=2 then if s2.length=2∧3+2≤(splice (splice (splice (List.replicate 9 (Cell.int .i64 0)) 0 ([(.int .i64 4)]:List Cell)) 1 ([(.int .i64 a17)]:List Cell)) 2 ([(.int .i64 a15)]:List Cell)).length then if (splice (splice [Cell.int .i64 0,Cell.int .i64 0] 0 ([(.int .i64 (-1))]:List Cell)) 1 ([(.int .i64 1)]:List Cell)).length=2∧6+2≤(splice (splice (splice (splice (List.replicate 9 (Cell.int .i64 0)) 0 ([(.int .i64 4)]:List Cell)) 1 ([(.int .i64 a17)]:List Cell)) 2 ([(.int .i64 a15)]:List Cell)) 3 s2).length then if (splice (splice (splice (splice (splice (List.replicate 9 (Cell.int .i64 0)) 0 ([(.int .i64 4)]:List Cell)) 1 ([(.int .i64 a17)]:List Cell)) 2 ([(.int .i64 a15)]:List Cell)) 3 s2) 6 (splice (splice [Cell.int .i64 0,Cell.int .i64 0] 0 ([(.int .i64 (-1))]:List Cell)) 1 ([(.int .i64 1)]:List Cell))).length=9∧0+9≤(List.replicate 9 (Cell.int .i64 0)).length then if (splice (List.replicate 9 (Cell.int .i64 0)) 0 (splice (splice (splice (splice (splice (List.replicate 9 (Cell.int .i64 0)) 0 ([(.int .i64 4)]:List Cell)) 1 ([(.int .i64 a17)]:List Cell)) 2 ([(.int .i64 a15)]:List Cell)) 3 s2) 6 (splice (splice [Cell.int .i64 0,Cell.int .i64 0] 0 ([(.int .i64 (-1))]:List Cell)) 1 ([(.int .i64 1)]:List Cell)))).length=1*9 then appK 9 72 x12 (splice (List.replicate 9 (Cell.int .i64 0)) 0 (splice (splice (splice (splice (splice (List.replicate 9 (Cell.int .i64 0)) 0 ([(.int .i64 4)]:List Cell)) 1 ([(.int .i64 a17)]:List Cell)) 2 ([(.int .i64 a15)]:List Cell)) 3 s2) 6 (splice (splice [Cell.int .i64 0,Cell.int .i64 0] 0 ([(.int .i64 (-1))]:List Cell)) 1 ([(.int .i64 1)]:List Cell)))) h fun x_45 h_46=>some (.normal,(q97_s1 a1 x7 a8 a9 (G.wrap .i64 (a10+1)) a11 x_45 (G.wrap .i64 (a13 - 1)) s0 s1 h_46)) else none else none else none else none else none else if (a83==10)=true then if 0=0∧s2.length=2 then if s2.length=2∧3+2≤(splice (splice (List.replicate 9 (Cell.int .i64 0)) 0 ([(.int .i64 5)]:List Cell)) 1 ([(.int .i64 a17)]:List Cell)).length then if ([(.int .i64 6)]:List Cell).length=1∧5+1≤(splice (splice (splice (List.replicate 9 (Cell.int .i64 0)) 0 ([(.int .i64 5)]:List Cell)) 1 ([(.int .i64 a17)]:List Cell)) 3 s2).length then if (splice (splice [Cell.int .i64 0,Cell.int .i64 0] 0 ([(.int .i64 (-1))]:List Cell)) 1 ([(.int .i64 1)]:List Cell)).length=2∧6+2≤(splice (splice (splice (splice (List.replicate 9 (Cell.int .i64 0)) 0 ([(.int .i64 5)]:List Cell)) 1 ([(.int .i64 a17)]:List Cell)) 3 s2) 5 ([(.int .i64 6)]:List Cell)).length then if (splice (splice (splice (splice (splice (List.replicate 9 (Cell.int .i64 0)) 0 ([(.int .i64 5)]:List Cell)) 1 ([(.int .i64 a17)]:List Cell)) 3 s2) 5 ([(.int .i64 6)]:List Cell)) 6 (splice (splice [Cell.int .i64 0,Cell.int .i64 0] 0 ([(.int .i64 (-1))]:List Cell)) 1 ([(.int .i64 1)]:List Cell))).length=9∧0+9≤(List.replicate 9 (Cell.int .i64 0)).length then if (splice (List.replicate 9 (Cell.int .i64 0)) 0 (splice (splice (splice (splice (splice (List.replicate 9 (Cell.int .i64 0)) 0 ([(.int .i64 5)]:List Cell)) 1 ([(.int .i64 a17)]:List Cell)) 3 s2) 5 ([(.int .i64 6)]:List Cell)) 6 (splice (splice [Cell.int .i64 0,Cell.int .i64 0] 0 ([(.int .i64 (-1))]:List Cell)) 1 ([(.int .i64 1)]:List Cell)))).length=1*9 then appK 9 72 x12 (splice (List.replicate 9 (Cell.int .i64 0)) 0 (splice (splice (splice (splice (splice (List.replicate 9 (Cell.int .i64 0)) 0 ([(.int .i64 5)]:List Cell)) 1 ([(.int .i64 a17)]:List Cell)) 3 s2) 5 ([(.int .i64 6)]:List Cell)) 6 (splice (splice [Cell.int .i64 0,Cell.int .i64 0] 0 ([(.int .i64 (-1))]:List Cell)) 1 ([(.int .i64 1)]:List Cell)))) h fun x_47 h_48=>some (.normal,(q97_s1 a1 x7 a8 a9 a10 a11 x_47 (G.wrap .i64 (a13 - 1)) s0 s1 h_48)) else none else none else none else none else none else none else if 0=0∧s2.length=2 then if s2.length=2∧3+2≤(splice (List.replicate 9 (Cell.int .i64 0)) 0 ([(.int .i64 6)]:List Cell)).length then if (splice [Cell.int .i64 0,Cell.int .i64 0] 0 ([(.int .i64 (-1))]:List Cell)).length=2∧6+2≤(splice (splice (List.replicate 9 (Cell.int .i64 0)) 0 ([(.int .i64 6)]:List Cell)) 3 s2).length then if ([(.int .i64 1)]:List Cell).length=1∧8+1≤(splice (splice (splice (List.replicate 9 (Cell.int .i64 0)) 0 ([(.int .i64 6)]:List Cell)) 3 s2) 6 (splice [Cell.int .i64 0,Cell.int .i64 0] 0 ([(.int .i64 (-1))]:List Cell))).length then if (splice (splice [Cell.int .i64 0,Cell.int .i64 0] 0 ([(.int .i64 (-1))]:List Cell)) 1 ([(.int .i64 2)]:List Cell)).length=2∧3+2≤(splice (splice (List.replicate 9 (Cell.int .i64 0)) 0 ([(.int .i64 1)]:List Cell)) 2 ([(.int .i64 a15)]:List Cell)).length then if (splice (splice (splice (splice (List.replicate 9 (Cell.int .i64 0)) 0 ([(.int .i64 6)]:List Cell)) 3 s2) 6 (splice [Cell.int .i64 0,Cell.int .i64 0] 0 ([(.int .i64 (-1))]:List Cell))) 8 ([(.int .i64 1)]:List Cell)).length=9∧0+9≤(List.replicate 18 (Cell.int .i64 0)).length then if (splice (splice (splice (List.replicate 9 (Cell.int .i64 0)) 0 ([(.int .i64 1)]:List Cell)) 2 ([(.int .i64 a15)]:List Cell)) 3 (splice (splice [Cell.int .i64 0,Cell.int .i64 0] 0 ([(.int .i64 (-1))]:List Cell)) 1 ([(.int .i64 2)]:List Cell))).length=9∧9+9≤(splice (List.replicate 18 (Cell.int .i64 0)) 0 (splice (splice (splice (splice (List.replicate 9 (Cell.int .i64 0)) 0 ([(.int .i64 6)]:List Cell)) 3 s2) 6 (splice [Cell.int .i64 0,Cell.int .i64 0] 0 ([(.int .i64 (-1))]:List Cell))) 8 ([(.int .i64 1)]:List Cell))).length then if (splice (splice (List.replicate 18 (Cell.int .i64 0)) 0 (splice (splice (splice (splice (List.replicate 9 (Cell.int .i64 0)) 0 ([(.int .i64 6)]:List Cell)) 3 s2) 6 (splice [Cell.int .i64 0,Cell.int .i64 0] 0 ([(.int .i64 (-1))]:List Cell))) 8 ([(.int .i64 1)]:List Cell))) 9 (splice (splice (splice (List.replicate 9 (Cell.int .i64 0)) 0 ([(.int .i64 1)]:List Cell)) 2 ([(.int .i64 a15)]:List Cell)) 3 (splice (splice [Cell.int .i64 0,Cell.int .i64 0] 0 ([(.int .i64 (-1))]:List Cell)) 1 ([(.int .i64 2)]:List Cell)))).length=2*9 then appK 9 72 x12 (splice (splice (List.replicate 18 (Cell.int .i64 0)) 0 (splice (splice (splice (splice (List.replicate 9 (Cell.int .i64 0)) 0 ([(.int .i64 6)]:List Cell)) 3 s2) 6 (splice [Cell.int .i64 0,Cell.int .i64 0] 0 ([(.int .i64 (-1))]:List Cell))) 8 ([(.int .i64 1)]:List Cell))) 9 (splice (splice (splice (List.replicate 9 (Cell.int .i64 0)) 0 ([(.int .i64 1)]:List Cell)) 2 ([(.int .i64 a15)]:List Cell)) 3 (splice (splice [Cell.int .i64 0,Cell.int .i64 0] 0 ([(.int .i64 (-1))]:List Cell)) 1 ([(.int .i64 2)]:List Cell)))) h fun x_49 h_50=>some (.normal,(q97_s1 a1 x7 a8 a9 (G.wrap .i64 (a10+1)) a11 x_49 (G.wrap .i64 (a13 - 1)) s0 s1 h_50)) else none else none else none else none else none else none else none else none:=by kernel_rfl
theorem q97_ec3_n (a1:Int) (x7:Cell) (a8 a9:Int) (a10 a11:Int) (x12:Cell) (a13 a15:Int) (a17 a83:Int) (b95:Bool) (s0 s1 s2:List Cell) (h:AHeap):(q97_k13 C L G) .normal (q97_c3 a1 x7 a8 a9 a10 a11 x12 a13 a15 a17 a83 b95 s0 s1 s2 h)=if b95=true then if 0=0∧s2.length=2 then if s2.length=2∧3+2≤(splice (splice (List.replicate 9 (Cell.int .i64 0)) 0 ([(.int .i64 1)]:List Cell)) 2 ([(.int .i64 a15)]:List Cell)).length then if (splice (splice (splice (List.replicate 9 (Cell.int .i64 0)) 0 ([(.int .i64 1)]:List Cell)) 2 ([(.int .i64 a15)]:List Cell)) 3 s2).length=9∧0+9≤(List.replicate 9 (Cell.int .i64 0)).length then if (splice (List.replicate 9 (Cell.int .i64 0)) 0 (splice (splice (splice (List.replicate 9 (Cell.int .i64 0)) 0 ([(.int .i64 1)]:List Cell)) 2 ([(.int .i64 a15)]:List Cell)) 3 s2)).length=1*9 then appK 9 72 x12 (splice (List.replicate 9 (Cell.int .i64 0)) 0 (splice (splice (splice (List.replicate 9 (Cell.int .i64 0)) 0 ([(.int .i64 1)]:List Cell)) 2 ([(.int .i64 a15)]:List Cell)) 3 s2)) h fun x_39 h_40=>some (.normal,(q97_s1 a1 x7 a8 a9 (G.wrap .i64 (a10+1)) a11 x_39 (G.wrap .i64 (a13 - 1)) s0 s1 h_40)) else none else none else none else none else (if (a83==4)=true then some (.normal,(q97_c4 a1 x7 a8 a9 a10 a11 x12 a13 a15 a17 a83 (a83==4) s0 s1 s2 h)) else if (a83==5)=true then some (.normal,(q97_c4 a1 x7 a8 a9 a10 a11 x12 a13 a15 a17 a83 (a83==5) s0 s1 s2 h)) else if (a83==6)=true then some (.normal,(q97_c4 a1 x7 a8 a9 a10 a11 x12 a13 a15 a17 a83 (a83==6) s0 s1 s2 h)) else some (.normal,(q97_c4 a1 x7 a8 a9 a10 a11 x12 a13 a15 a17 a83 (a83==7) s0 s1 s2 h)):Option (Ex × St)).bind fun p_51=>(q97_k14 C L G) p_51.1 p_51.2:=by kernel_rfl
theorem q97_ec2_n (a1:Int) (x7:Cell) (a8 a9:Int) (a10 a11:Int) (x12:Cell) (a13 a14 a15:Int) (s0 s1 s2:List Cell) (h:AHeap):(q97_k11 C L G) .normal (q97_c2 a1 x7 a8 a9 a10 a11 x12 a13 a14 a15 s0 s1 s2 h)=(if ((G.rem .i64 a14 12)==0)=true then some (.normal,(q97_c3 a1 x7 a8 a9 a10 a11 x12 a13 a15 (G.band .i64 (G.shr .i64 a14 11) 1) (G.rem .i64 a14 12) ((G.rem .i64 a14 12)==0) s0 s1 s2 h)) else if ((G.rem .i64 a14 12)==1)=true then some (.normal,(q97_c3 a1 x7 a8 a9 a10 a11 x12 a13 a15 (G.band .i64 (G.shr .i64 a14 11) 1) (G.rem .i64 a14 12) ((G.rem .i64 a14 12)==1) s0 s1 s2 h)) else if ((G.rem .i64 a14 12)==2)=true then some (.normal,(q97_c3 a1 x7 a8 a9 a10 a11 x12 a13 a15 (G.band .i64 (G.shr .i64 a14 11) 1) (G.rem .i64 a14 12) ((G.rem .i64 a14 12)==2) s0 s1 s2 h)) else some (.normal,(q97_c3 a1 x7 a8 a9 a10 a11 x12 a13 a15 (G.band .i64 (G.shr .i64 a14 11) 1) (G.rem .i64 a14 12) ((G.rem .i64 a14 12)==3) s0 s1 s2 h)):Option (Ex × St)).bind fun p_52=>(q97_k13 C L G) p_52.1 p_52.2:=by kernel_rfl
theorem q97_r1 (a1:Int) (x7:Cell) (a8 a9:Int) (a10 a11:Int) (x12:Cell) (a13:Int) (s0 s1:List Cell) (h:AHeap):q97_F1 C L G (q97_s1 a1 x7 a8 a9 a10 a11 x12 a13 s0 s1 h)=scK (decide (a13 > 0)) true (some ((decide (a10<a1)),h)) false h fun b_31 h_32=>if b_31=true then fnK x7 fun g_33 l_34=>c1 (C g_33 ([]++l_34) h_32) fun y_36 h_35=>asI .i64 y_36 fun n_37=>if a9=0 then none else let v_38:Int:=(G.wrap .i64 (120+(G.rem .i64 (G.shr .i64 n_37 4) a9)));if 0=0∧[Cell.int .i64 0,Cell.int .i64 0].length=2∧(splice (splice [Cell.int .i64 0,Cell.int .i64 0] 0 ([(.int .i64 (-1))]:List Cell)) 1 ([(.int .i64 (G.rem .i64 (G.shr .i64 n_37 6) 3))]:List Cell)).length=2 then (if ((G.rem .i64 (G.shr .i64 n_37 8) 3)==0)=true then if 0=0∧(splice (splice [Cell.int .i64 0,Cell.int .i64 0] 0 ([(.int .i64 (-1))]:List Cell)) 1 ([(.int .i64 (G.rem .i64 (G.shr .i64 n_37 6) 3))]:List Cell)).length=2∧(splice [Cell.int .i64 0,Cell.int .i64 0] 0 ([(.int .i64 (G.band .i64 (G.shr .i64 n_37 10) 1))]:List Cell)).length=2 then some (.normal,(q97_c2 a1 x7 a8 a9 a10 a11 x12 a13 n_37 v_38 s0 s1 (splice [Cell.int .i64 0,Cell.int .i64 0] 0 ([(.int .i64 (G.band .i64 (G.shr .i64 n_37 10) 1))]:List Cell)) h_35)) else none else some (.normal,(q97_c2 a1 x7 a8 a9 a10 a11 x12 a13 n_37 v_38 s0 s1 (splice (splice [Cell.int .i64 0,Cell.int .i64 0] 0 ([(.int .i64 (-1))]:List Cell)) 1 ([(.int .i64 (G.rem .i64 (G.shr .i64 n_37 6) 3))]:List Cell)) h_35)):Option (Ex × St)).bind fun p_53=>(q97_k11 C L G) p_53.1 p_53.2 else none else some ((.exit 2),(q97_x1_3 a1 x7 a8 a9 a10 a11 x12 s0 s1 h_32)):=by kernel_rfl
theorem q97_e1_3 (a1:Int) (x7:Cell) (a8 a9:Int) (a10 a11:Int) (x12:Cell) (s0 s1:List Cell) (h:AHeap):(q97_k8 C L G) (.exit 2) (q97_x1_3 a1 x7 a8 a9 a10 a11 x12 s0 s1 h)=atK s1 2 fun q_54=>if (splice [Cell.nils] 0 ([x12]:List Cell)).length=1*1 then appK 1 24 q_54 (splice [Cell.nils] 0 ([x12]:List Cell)) h fun x_55 h_56=>if 2<s1.length then some (.normal,(q97_s2 a1 x7 a8 a9 a10 (G.wrap .i64 (a11+1)) s0 (s1.set 2 x_55) h_56)) else none else none:=by kernel_rfl
theorem q97_r2 (a1:Int) (x7:Cell) (a8 a9:Int) (a10 a11:Int) (s0 s1:List Cell) (h:AHeap):q97_F2 C L G (q97_s2 a1 x7 a8 a9 a10 a11 s0 s1 h)=if (decide (a11<a8))=true then fnK x7 fun g_26 l_27=>c1 (C g_26 ([]++l_27) h) fun y_29 h_28=>asI .i64 y_29 fun n_30=>(L (q97_F1 C L G) (q97_s1 a1 x7 a8 a9 a10 a11 .nils (G.wrap .i64 ((G.rem .i64 n_30 3)+1)) s0 s1 h_28)).bind fun p_57=>(q97_k8 C L G) p_57.1 p_57.2 else some ((.exit 0),(q97_x2_1 x7 s0 s1 h)):=by kernel_rfl
theorem q97_e2_1 (h0:AHeap) (x7:Cell) (s0 s1:List Cell) (h:AHeap):(q97_k4 C L G h0) (.exit 0) (q97_x2_1 x7 s0 s1 h)=fnK x7 fun g_58 l_59=>c1 (C g_58 ([]++l_59) h) fun y_61 h_60=>asI .i64 y_61 fun n_62=>if ((G.rem .i64 n_62 3)==0)=true then let v_63:Int:=(G.wrap .i64 ((G.rem .i64 (G.quo .i64 n_62 3) 2)+1));if (splice (splice (splice [Cell.int .i64 0,Cell.int .i64 0,Cell.int .i64 0,Cell.int .i64 0] 0 ([(.int .i64 0)]:List Cell)) 1 ([(.int .i64 (G.band .i64 (G.shr .i64 n_62 3) 1))]:List Cell)) 3 ([(.int .i64 (G.band .i64 (G.shr .i64 n_62 4) 1))]:List Cell)).length=4∧0+4≤[Cell.int .i64 0,Cell.int .i64 0,Cell.int .i64 0,Cell.int .i64 0].length then if (splice [Cell.int .i64 0,Cell.int .i64 0,Cell.int .i64 0,Cell.int .i64 0] 0 (splice (splice (splice [Cell.int .i64 0,Cell.int .i64 0,Cell.int .i64 0,Cell.int .i64 0] 0 ([(.int .i64 0)]:List Cell)) 1 ([(.int .i64 (G.band .i64 (G.shr .i64 n_62 3) 1))]:List Cell)) 3 ([(.int .i64 (G.band .i64 (G.shr .i64 n_62 4) 1))]:List Cell))).length=1*4 then if (splice (splice (splice [Cell.int .i64 0,Cell.int .i64 0,Cell.int .i64 0,Cell.int .i64 0] 0 ([(.int .i64 (-1))]:List Cell)) 2 ([(.int .i64 120)]:List Cell)) 3 ([(.int .i64 (G.rem .i64 (G.shr .i64 n_62 5) 3))]:List Cell)).length=4∧0+4≤(List.replicate 8 (Cell.int .i64 0)).length then if (splice (splice (splice [Cell.int .i64 0,Cell.int .i64 0,Cell.int .i64 0,Cell.int .i64 0] 0 ([(.int .i64 1)]:List Cell)) 1 ([(.int .i64 0)]:List Cell)) 3 ([(.int .i64 (G.band .i64 (G.shr .i64 n_62 7) 1))]:List Cell)).length=4∧4+4≤(splice (List.replicate 8 (Cell.int .i64 0)) 0 (splice (splice (splice [Cell.int .i64 0,Cell.int .i64 0,Cell.int .i64 0,Cell.int .i64 0] 0 ([(.int .i64 (-1))]:List Cell)) 2 ([(.int .i64 120)]:List Cell)) 3 ([(.int .i64 (G.rem .i64 (G.shr .i64 n_62 5) 3))]:List Cell))).length then if (splice (splice (List.replicate 8 (Cell.int .i64 0)) 0 (splice (splice (splice [Cell.int .i64 0,Cell.int .i64 0,Cell.int .i64 0,Cell.int .i64 0] 0 ([(.int .i64 (-1))]:List Cell)) 2 ([(.int .i64 120)]:List Cell)) 3 ([(.int .i64 (G.rem .i64 (G.shr .i64 n_62 5) 3))]:List Cell))) 4 (splice (splice (splice [Cell.int .i64 0,Cell.int .i64 0,Cell.int .i64 0,Cell.int .i64 0] 0 ([(.int .i64 1)]:List Cell)) 1 ([(.int .i64 0)]:List Cell)) 3 ([(.int .i64 (G.band .i64 (G.shr .i64 n_62 7) 1))]:List Cell))).length=2*4 then if (splice (splice [Cell.nils,Cell.nils] 0 ([(.sl h_60.length ((splice [Cell.int .i64 0,Cell.int .i64 0,Cell.int .i64 0,Cell.int .i64 0] 0 (splice (splice (splice [Cell.int .i64 0,Cell.int .i64 0,Cell.int .i64 0,Cell.int .i64 0] 0 ([(.int .i64 0)]:List Cell)) 1 ([(.int .i64 (G.band .i64 (G.shr .i64 n_62 3) 1))]:List Cell)) 3 ([(.int .i64 (G.band .i64 (G.shr .i64 n_62 4) 1))]:List Cell))).length) 0 1)]:List Cell)) 1 ([(.sl ((h_60++[some (Blk.mk true 4 (splice [Cell.int .i64 0,Cell.int .i64 0,Cell.int .i64 0,Cell.int .i64 0] 0 (splice (splice (splice [Cell.int .i64 0,Cell.int .i64 0,Cell.int .i64 0,Cell.int .i64 0] 0 ([(.int .i64 0)]:List Cell)) 1 ([(.int .i64 (G.band .i64 (G.shr .i64 n_62 3) 1))]:List Cell)) 3 ([(.int .i64 (G.band .i64 (G.shr .i64 n_62 4) 1))]:List Cell))))]).length) ((splice (splice (List.replicate 8 (Cell.int .i64 0)) 0 (splice (splice (splice [Cell.int .i64 0,Cell.int .i64 0,Cell.int .i64 0,Cell.int .i64 0] 0 ([(.int .i64 (-1))]:List Cell)) 2 ([(.int .i64 120)]:List Cell)) 3 ([(.int .i64 (G.rem .i64 (G.shr .i64 n_62 5) 3))]:List Cell))) 4 (splice (splice (splice [Cell.int .i64 0,Cell.int .i64 0,Cell.int .i64 0,Cell.int .i64 0] 0 ([(.int .i64 1)]:List Cell)) 1 ([(.int .i64 0)]:List Cell)) 3 ([(.int .i64 (G.band .i64 (G.shr .i64 n_62 7) 1))]:List Cell))).length) 0 2)]:List Cell)).length=2*1 then if 3+2≤s1.length∧(splice (splice [Cell.int .i64 0,Cell.nils] 0 ([(.int .i64 v_63)]:List Cell)) 1 ([(.sl (((h_60++[some (Blk.mk true 4 (splice [Cell.int .i64 0,Cell.int .i64 0,Cell.int .i64 0,Cell.int .i64 0] 0 (splice (splice (splice [Cell.int .i64 0,Cell.int .i64 0,Cell.int .i64 0,Cell.int .i64 0] 0 ([(.int .i64 0)]:List Cell)) 1 ([(.int .i64 (G.band .i64 (G.shr .i64 n_62 3) 1))]:List Cell)) 3 ([(.int .i64 (G.band .i64 (G.shr .i64 n_62 4) 1))]:List Cell))))])++[some (Blk.mk true 4 (splice (splice (List.replicate 8 (Cell.int .i64 0)) 0 (splice (splice (splice [Cell.int .i64 0,Cell.int .i64 0,Cell.int .i64 0,Cell.int .i64 0] 0 ([(.int .i64 (-1))]:List Cell)) 2 ([(.int .i64 120)]:List Cell)) 3 ([(.int .i64 (G.rem .i64 (G.shr .i64 n_62 5) 3))]:List Cell))) 4 (splice (splice (splice [Cell.int .i64 0,Cell.int .i64 0,Cell.int .i64 0,Cell.int .i64 0] 0 ([(.int .i64 1)]:List Cell)) 1 ([(.int .i64 0)]:List Cell)) 3 ([(.int .i64 (G.band .i64 (G.shr .i64 n_62 7) 1))]:List Cell))))]).length) ((splice (splice [Cell.nils,Cell.nils] 0 ([(.sl h_60.length ((splice [Cell.int .i64 0,Cell.int .i64 0,Cell.int .i64 0,Cell.int .i64 0] 0 (splice (splice (splice [Cell.int .i64 0,Cell.int .i64 0,Cell.int .i64 0,Cell.int .i64 0] 0 ([(.int .i64 0)]:List Cell)) 1 ([(.int .i64 (G.band .i64 (G.shr .i64 n_62 3) 1))]:List Cell)) 3 ([(.int .i64 (G.band .i64 (G.shr .i64 n_62 4) 1))]:List Cell))).length) 0 1)]:List Cell)) 1 ([(.sl ((h_60++[some (Blk.mk true 4 (splice [Cell.int .i64 0,Cell.int .i64 0,Cell.int .i64 0,Cell.int .i64 0] 0 (splice (splice (splice [Cell.int .i64 0,Cell.int .i64 0,Cell.int .i64 0,Cell.int .i64 0] 0 ([(.int .i64 0)]:List Cell)) 1 ([(.int .i64 (G.band .i64 (G.shr .i64 n_62 3) 1))]:List Cell)) 3 ([(.int .i64 (G.band .i64 (G.shr .i64 n_62 4) 1))]:List Cell))))]).length) ((splice (splice (List.replicate 8 (Cell.int .i64 0)) 0 (splice (splice (splice [Cell.int .i64 0,Cell.int .i64 0,Cell.int .i64 0,Cell.int .i64 0] 0 ([(.int .i64 (-1))]:List Cell)) 2 ([(.int .i64 120)]:List Cell)) 3 ([(.int .i64 (G.rem .i64 (G.shr .i64 n_62 5) 3))]:List Cell))) 4 (splice (splice (splice [Cell.int .i64 0,Cell.int .i64 0,Cell.int .i64 0,Cell.int .i64 0] 0 ([(.int .i64 1)]:List Cell)) 1 ([(.int .i64 0)]:List Cell)) 3 ([(.int .i64 (G.band .i64 (G.shr .i64 n_62 7) 1))]:List Cell))).length) 0 2)]:List Cell)).length) 0 2)]:List Cell)).length=2 then if 0=0∧(splice s1 3 (splice (splice [Cell.int .i64 0,Cell.nils] 0 ([(.int .i64 v_63)]:List Cell)) 1 ([(.sl (((h_60++[some (Blk.mk true 4 (splice [Cell.int .i64 0,Cell.int .i64 0,Cell.int .i64 0,Cell.int .i64 0] 0 (splice (splice (splice [Cell.int .i64 0,Cell.int .i64 0,Cell.int .i64 0,Cell.int .i64 0] 0 ([(.int .i64 0)]:List Cell)) 1 ([(.int .i64 (G.band .i64 (G.shr .i64 n_62 3) 1))]:List Cell)) 3 ([(.int .i64 (G.band .i64 (G.shr .i64 n_62 4) 1))]:List Cell))))])++[some (Blk.mk true 4 (splice (splice (List.replicate 8 (Cell.int .i64 0)) 0 (splice (splice (splice [Cell.int .i64 0,Cell.int .i64 0,Cell.int .i64 0,Cell.int .i64 0] 0 ([(.int .i64 (-1))]:List Cell)) 2 ([(.int .i64 120)]:List Cell)) 3 ([(.int .i64 (G.rem .i64 (G.shr .i64 n_62 5) 3))]:List Cell))) 4 (splice (splice (splice [Cell.int .i64 0,Cell.int .i64 0,Cell.int .i64 0,Cell.int .i64 0] 0 ([(.int .i64 1)]:List Cell)) 1 ([(.int .i64 0)]:List Cell)) 3 ([(.int .i64 (G.band .i64 (G.shr .i64 n_62 7) 1))]:List Cell))))]).length) ((splice (splice [Cell.nils,Cell.nils] 0 ([(.sl h_60.length ((splice [Cell.int .i64 0,Cell.int .i64 0,Cell.int .i64 0,Cell.int .i64 0] 0 (splice (splice (splice [Cell.int .i64 0,Cell.int .i64 0,Cell.int .i64 0,Cell.int .i64 0] 0 ([(.int .i64 0)]:List Cell)) 1 ([(.int .i64 (G.band .i64 (G.shr .i64 n_62 3) 1))]:List Cell)) 3 ([(.int .i64 (G.band .i64 (G.shr .i64 n_62 4) 1))]:List Cell))).length) 0 1)]:List Cell)) 1 ([(.sl ((h_60++[some (Blk.mk true 4 (splice [Cell.int .i64 0,Cell.int .i64 0,Cell.int .i64 0,Cell.int .i64 0] 0 (splice (splice (splice [Cell.int .i64 0,Cell.int .i64 0,Cell.int .i64 0,Cell.int .i64 0] 0 ([(.int .i64 0)]:List Cell)) 1 ([(.int .i64 (G.band .i64 (G.shr .i64 n_62 3) 1))]:List Cell)) 3 ([(.int .i64 (G.band .i64 (G.shr .i64 n_62 4) 1))]:List Cell))))]).length) ((splice (splice (List.replicate 8 (Cell.int .i64 0)) 0 (splice (splice (splice [Cell.int .i64 0,Cell.int .i64 0,Cell.int .i64 0,Cell.int .i64 0] 0 ([(.int .i64 (-1))]:List Cell)) 2 ([(.int .i64 120)]:List Cell)) 3 ([(.int .i64 (G.rem .i64 (G.shr .i64 n_62 5) 3))]:List Cell))) 4 (splice (splice (splice [Cell.int .i64 0,Cell.int .i64 0,Cell.int .i64 0,Cell.int .i64 0] 0 ([(.int .i64 1)]:List Cell)) 1 ([(.int .i64 0)]:List Cell)) 3 ([(.int .i64 (G.band .i64 (G.shr .i64 n_62 7) 1))]:List Cell))).length) 0 2)]:List Cell)).length) 0 2)]:List Cell))).length=5 then if 0=0∧s0.length=5∧(splice s1 3 (splice (splice [Cell.int .i64 0,Cell.nils] 0 ([(.int .i64 v_63)]:List Cell)) 1 ([(.sl (((h_60++[some (Blk.mk true 4 (splice [Cell.int .i64 0,Cell.int .i64 0,Cell.int .i64 0,Cell.int .i64 0] 0 (splice (splice (splice [Cell.int .i64 0,Cell.int .i64 0,Cell.int .i64 0,Cell.int .i64 0] 0 ([(.int .i64 0)]:List Cell)) 1 ([(.int .i64 (G.band .i64 (G.shr .i64 n_62 3) 1))]:List Cell)) 3 ([(.int .i64 (G.band .i64 (G.shr .i64 n_62 4) 1))]:List Cell))))])++[some (Blk.mk true 4 (splice (splice (List.replicate 8 (Cell.int .i64 0)) 0 (splice (splice (splice [Cell.int .i64 0,Cell.int .i64 0,Cell.int .i64 0,Cell.int .i64 0] 0 ([(.int .i64 (-1))]:List Cell)) 2 ([(.int .i64 120)]:List Cell)) 3 ([(.int .i64 (G.rem .i64 (G.shr .i64 n_62 5) 3))]:List Cell))) 4 (splice (splice (splice [Cell.int .i64 0,Cell.int .i64 0,Cell.int .i64 0,Cell.int .i64 0] 0 ([(.int .i64 1)]:List Cell)) 1 ([(.int .i64 0)]:List Cell)) 3 ([(.int .i64 (G.band .i64 (G.shr .i64 n_62 7) 1))]:List Cell))))]).length) ((splice (splice [Cell.nils,Cell.nils] 0 ([(.sl h_60.length ((splice [Cell.int .i64 0,Cell.int .i64 0,Cell.int .i64 0,Cell.int .i64 0] 0 (splice (splice (splice [Cell.int .i64 0,Cell.int .i64 0,Cell.int .i64 0,Cell.int .i64 0] 0 ([(.int .i64 0)]:List Cell)) 1 ([(.int .i64 (G.band .i64 (G.shr .i64 n_62 3) 1))]:List Cell)) 3 ([(.int .i64 (G.band .i64 (G.shr .i64 n_62 4) 1))]:List Cell))).length) 0 1)]:List Cell)) 1 ([(.sl ((h_60++[some (Blk.mk true 4 (splice [Cell.int .i64 0,Cell.int .i64 0,Cell.int .i64 0,Cell.int .i64 0] 0 (splice (splice (splice [Cell.int .i64 0,Cell.int .i64 0,Cell.int .i64 0,Cell.int .i64 0] 0 ([(.int .i64 0)]:List Cell)) 1 ([(.int .i64 (G.band .i64 (G.shr .i64 n_62 3) 1))]:List Cell)) 3 ([(.int .i64 (G.band .i64 (G.shr .i64 n_62 4) 1))]:List Cell))))]).length) ((splice (splice (List.replicate 8 (Cell.int .i64 0)) 0 (splice (splice (splice [Cell.int .i64 0,Cell.int .i64 0,Cell.int .i64 0,Cell.int .i64 0] 0 ([(.int .i64 (-1))]:List Cell)) 2 ([(.int .i64 120)]:List Cell)) 3 ([(.int .i64 (G.rem .i64 (G.shr .i64 n_62 5) 3))]:List Cell))) 4 (splice (splice (splice [Cell.int .i64 0,Cell.int .i64 0,Cell.int .i64 0,Cell.int .i64 0] 0 ([(.int .i64 1)]:List Cell)) 1 ([(.int .i64 0)]:List Cell)) 3 ([(.int .i64 (G.band .i64 (G.shr .i64 n_62 7) 1))]:List Cell))).length) 0 2)]:List Cell)).length) 0 2)]:List Cell))).length=5 then if 0=0∧(splice s1 3 (splice (splice [Cell.int .i64 0,Cell.nils] 0 ([(.int .i64 v_63)]:List Cell)) 1 ([(.sl (((h_60++[some (Blk.mk true 4 (splice [Cell.int .i64 0,Cell.int .i64 0,Cell.int .i64 0,Cell.int .i64 0] 0 (splice (splice (splice [Cell.int .i64 0,Cell.int .i64 0,Cell.int .i64 0,Cell.int .i64 0] 0 ([(.int .i64 0)]:List Cell)) 1 ([(.int .i64 (G.band .i64 (G.shr .i64 n_62 3) 1))]:List Cell)) 3 ([(.int .i64 (G.band .i64 (G.shr .i64 n_62 4) 1))]:List Cell))))])++[some (Blk.mk true 4 (splice (splice (List.replicate 8 (Cell.int .i64 0)) 0 (splice (splice (splice [Cell.int .i64 0,Cell.int .i64 0,Cell.int .i64 0,Cell.int .i64 0] 0 ([(.int .i64 (-1))]:List Cell)) 2 ([(.int .i64 120)]:List Cell)) 3 ([(.int .i64 (G.rem .i64 (G.shr .i64 n_62 5) 3))]:List Cell))) 4 (splice (splice (splice [Cell.int .i64 0,Cell.int .i64 0,Cell.int .i64 0,Cell.int .i64 0] 0 ([(.int .i64 1)]:List Cell)) 1 ([(.int .i64 0)]:List Cell)) 3 ([(.int .i64 (G.band .i64 (G.shr .i64 n_62 7) 1))]:List Cell))))]).length) ((splice (splice [Cell.nils,Cell.nils] 0 ([(.sl h_60.length ((splice [Cell.int .i64 0,Cell.int .i64 0,Cell.int .i64 0,Cell.int .i64 0] 0 (splice (splice (splice [Cell.int .i64 0,Cell.int .i64 0,Cell.int .i64 0,Cell.int .i64 0] 0 ([(.int .i64 0)]:List Cell)) 1 ([(.int .i64 (G.band .i64 (G.shr .i64 n_62 3) 1))]:List Cell)) 3 ([(.int .i64 (G.band .i64 (G.shr .i64 n_62 4) 1))]:List Cell))).length) 0 1)]:List Cell)) 1 ([(.sl ((h_60++[some (Blk.mk true 4 (splice [Cell.int .i64 0,Cell.int .i64 0,Cell.int .i64 0,Cell.int .i64 0] 0 (splice (splice (splice [Cell.int .i64 0,Cell.int .i64 0,Cell.int .i64 0,Cell.int .i64 0] 0 ([(.int .i64 0)]:List Cell)) 1 ([(.int .i64 (G.band .i64 (G.shr .i64 n_62 3) 1))]:List Cell)) 3 ([(.int .i64 (G.band .i64 (G.shr .i64 n_62 4) 1))]:List Cell))))]).length) ((splice (splice (List.replicate 8 (Cell.int .i64 0)) 0 (splice (splice (splice [Cell.int .i64 0,Cell.int .i64 0,Cell.int .i64 0,Cell.int .i64 0] 0 ([(.int .i64 (-1))]:List Cell)) 2 ([(.int .i64 120)]:List Cell)) 3 ([(.int .i64 (G.rem .i64 (G.shr .i64 n_62 5) 3))]:List Cell))) 4 (splice (splice (splice [Cell.int .i64 0,Cell.int .i64 0,Cell.int .i64 0,Cell.int .i64 0] 0 ([(.int .i64 1)]:List Cell)) 1 ([(.int .i64 0)]:List Cell)) 3 ([(.int .i64 (G.band .i64 (G.shr .i64 n_62 7) 1))]:List Cell))).length) 0 2)]:List Cell)).length) 0 2)]:List Cell))).length=5 then some ([(.agg (splice s1 3 (splice (splice [Cell.int .i64 0,Cell.nils] 0 ([(.int .i64 v_63)]:List Cell)) 1 ([(.sl (((h_60++[some (Blk.mk true 4 (splice [Cell.int .i64 0,Cell.int .i64 0,Cell.int .i64 0,Cell.int .i64 0] 0 (splice (splice (splice [Cell.int .i64 0,Cell.int .i64 0,Cell.int .i64 0,Cell.int .i64 0] 0 ([(.int .i64 0)]:List Cell)) 1 ([(.int .i64 (G.band .i64 (G.shr .i64 n_62 3) 1))]:List Cell)) 3 ([(.int .i64 (G.band .i64 (G.shr .i64 n_62 4) 1))]:List Cell))))])++[some (Blk.mk true 4 (splice (splice (List.replicate 8 (Cell.int .i64 0)) 0 (splice (splice (splice [Cell.int .i64 0,Cell.int .i64 0,Cell.int .i64 0,Cell.int .i64 0] 0 ([(.int .i64 (-1))]:List Cell)) 2 ([(.int .i64 120)]:List Cell)) 3 ([(.int .i64 (G.rem .i64 (G.shr .i64 n_62 5) 3))]:List Cell))) 4 (splice (splice (splice [Cell.int .i64 0,Cell.int .i64 0,Cell.int .i64 0,Cell.int .i64 0] 0 ([(.int .i64 1)]:List Cell)) 1 ([(.int .i64 0)]:List Cell)) 3 ([(.int .i64 (G.band .i64 (G.shr .i64 n_62 7) 1))]:List Cell))))]).length) ((splice (splice [Cell.nils,Cell.nils] 0 ([(.sl h_60.length ((splice [Cell.int .i64 0,Cell.int .i64 0,Cell.int .i64 0,Cell.int .i64 0] 0 (splice (splice (splice [Cell.int .i64 0,Cell.int .i64 0,Cell.int .i64 0,Cell.int .i64 0] 0 ([(.int .i64 0)]:List Cell)) 1 ([(.int .i64 (G.band .i64 (G.shr .i64 n_62 3) 1))]:List Cell)) 3 ([(.int .i64 (G.band .i64 (G.shr .i64 n_62 4) 1))]:List Cell))).length) 0 1)]:List Cell)) 1 ([(.sl ((h_60++[some (Blk.mk true 4 (splice [Cell.int .i64 0,Cell.int .i64 0,Cell.int .i64 0,Cell.int .i64 0] 0 (splice (splice (splice [Cell.int .i64 0,Cell.int .i64 0,Cell.int .i64 0,Cell.int .i64 0] 0 ([(.int .i64 0)]:List Cell)) 1 ([(.int .i64 (G.band .i64 (G.shr .i64 n_62 3) 1))]:List Cell)) 3 ([(.int .i64 (G.band .i64 (G.shr .i64 n_62 4) 1))]:List Cell))))]).length) ((splice (splice (List.replicate 8 (Cell.int .i64 0)) 0 (splice (splice (splice [Cell.int .i64 0,Cell.int .i64 0,Cell.int .i64 0,Cell.int .i64 0] 0 ([(.int .i64 (-1))]:List Cell)) 2 ([(.int .i64 120)]:List Cell)) 3 ([(.int .i64 (G.rem .i64 (G.shr .i64 n_62 5) 3))]:List Cell))) 4 (splice (splice (splice [Cell.int .i64 0,Cell.int .i64 0,Cell.int .i64 0,Cell.int .i64 0] 0 ([(.int .i64 1)]:List Cell)) 1 ([(.int .i64 0)]:List Cell)) 3 ([(.int .i64 (G.band .i64 (G.shr .i64 n_62 7) 1))]:List Cell))).length) 0 2)]:List Cell)).length) 0 2)]:List Cell))))],(((h_60++[some (Blk.mk true 4 (splice [Cell.int .i64 0,Cell.int .i64 0,Cell.int .i64 0,Cell.int .i64 0] 0 (splice (splice (splice [Cell.int .i64 0,Cell.int .i64 0,Cell.int .i64 0,Cell.int .i64 0] 0 ([(.int .i64 0)]:List Cell)) 1 ([(.int .i64 (G.band .i64 (G.shr .i64 n_62 3) 1))]:List Cell)) 3 ([(.int .i64 (G.band .i64 (G.shr .i64 n_62 4) 1))]:List Cell))))])++[some (Blk.mk true 4 (splice (splice (List.replicate 8 (Cell.int .i64 0)) 0 (splice (splice (splice [Cell.int .i64 0,Cell.int .i64 0,Cell.int .i64 0,Cell.int .i64 0] 0 ([(.int .i64 (-1))]:List Cell)) 2 ([(.int .i64 120)]:List Cell)) 3 ([(.int .i64 (G.rem .i64 (G.shr .i64 n_62 5) 3))]:List Cell))) 4 (splice (splice (splice [Cell.int .i64 0,Cell.int .i64 0,Cell.int .i64 0,Cell.int .i64 0] 0 ([(.int .i64 1)]:List Cell)) 1 ([(.int .i64 0)]:List Cell)) 3 ([(.int .i64 (G.band .i64 (G.shr .i64 n_62 7) 1))]:List Cell))))])++[some (Blk.mk true 1 (splice (splice [Cell.nils,Cell.nils] 0 ([(.sl h_60.length ((splice [Cell.int .i64 0,Cell.int .i64 0,Cell.int .i64 0,Cell.int .i64 0] 0 (splice (splice (splice [Cell.int .i64 0,Cell.int .i64 0,Cell.int .i64 0,Cell.int .i64 0] 0 ([(.int .i64 0)]:List Cell)) 1 ([(.int .i64 (G.band .i64 (G.shr .i64 n_62 3) 1))]:List Cell)) 3 ([(.int .i64 (G.band .i64 (G.shr .i64 n_62 4) 1))]:List Cell))).length) 0 1)]:List Cell)) 1 ([(.sl ((h_60++[some (Blk.mk true 4 (splice [Cell.int .i64 0,Cell.int .i64 0,Cell.int .i64 0,Cell.int .i64 0] 0 (splice (splice (splice [Cell.int .i64 0,Cell.int .i64 0,Cell.int .i64 0,Cell.int .i64 0] 0 ([(.int .i64 0)]:List Cell)) 1 ([(.int .i64 (G.band .i64 (G.shr .i64 n_62 3) 1))]:List Cell)) 3 ([(.int .i64 (G.band .i64 (G.shr .i64 n_62 4) 1))]:List Cell))))]).length) ((splice (splice (List.replicate 8 (Cell.int .i64 0)) 0 (splice (splice (splice [Cell.int .i64 0,Cell.int .i64 0,Cell.int .i64 0,Cell.int .i64 0] 0 ([(.int .i64 (-1))]:List Cell)) 2 ([(.int .i64 120)]:List Cell)) 3 ([(.int .i64 (G.rem .i64 (G.shr .i64 n_62 5) 3))]:List Cell))) 4 (splice (splice (splice [Cell.int .i64 0,Cell.int .i64 0,Cell.int .i64 0,Cell.int .i64 0] 0 ([(.int .i64 1)]:List Cell)) 1 ([(.int .i64 0)]:List Cell)) 3 ([(.int .i64 (G.band .i64 (G.shr .i64 n_62 7) 1))]:List Cell))).length) 0 2)]:List Cell)))])) else none else none else none else none else none else none else none else none else none else none else if 0=0∧s1.length=5 then if 0=0∧s0.length=5∧s1.length=5 then if 0=0∧s1.length=5 then some ([(.agg s1)],h_60) else none else none else none:=by kernel_rfl
theorem q97_ec1_n (h0:AHeap) (a1:Int) (x7:Cell) (a8 a9:Int) (s0 s1:List Cell) (h:AHeap):(q97_k2 C L G h0) .normal (q97_c1 a1 x7 a8 a9 s0 s1 h)=(L (q97_F2 C L G) (q97_s2 a1 x7 a8 a9 0 0 s0 s1 h)).bind fun p_64=>(q97_k4 C L G h0) p_64.1 p_64.2:=by kernel_rfl
set_option maxRecDepth 100000 in
theorem q97_eq (x0:Cell) (a1:Int) (h0:AHeap):q97.body C L G [(.c x0),(.c (.int .i64 a1))] h0=if 0=0∧[Cell.str (ByteArray.mk #[]),Cell.nils,Cell.nils,Cell.int .i64 0,Cell.nils].length=5∧(splice [Cell.str (ByteArray.mk #[]),Cell.nils,Cell.nils,Cell.int .i64 0,Cell.nils] 0 ([(.str (ByteArray.mk #[116]))]:List Cell)).length=5 then rdH ((h0++[some (Blk.mk true 0 (AV.cells (.c x0)))])++[some (Blk.mk true 0 ([Cell.int .i64 0]))]) ((h0++[some (Blk.mk true 0 (AV.cells (.c x0)))]).length) (([Cell.int .i64 0]).length) fun l_1=>if 0<l_1.length then putH ((h0++[some (Blk.mk true 0 (AV.cells (.c x0)))])++[some (Blk.mk true 0 ([Cell.int .i64 0]))]) ((h0++[some (Blk.mk true 0 (AV.cells (.c x0)))]).length) (l_1.set 0 (.int .i64 0)) fun h_2=>fnK (.fn 115 [((h0++[some (Blk.mk true 0 (AV.cells (.c x0)))]).length,([Cell.int .i64 0]).length,0),(h0.length,(AV.cells (.c x0)).length,0)]) fun g_3 l_4=>c1 (C g_3 ([]++l_4) h_2) fun y_6 h_5=>asI .i64 y_6 fun n_7=>fnK (.fn 115 [((h0++[some (Blk.mk true 0 (AV.cells (.c x0)))]).length,([Cell.int .i64 0]).length,0),(h0.length,(AV.cells (.c x0)).length,0)]) fun g_8 l_9=>c1 (C g_8 ([]++l_9) h_5) fun y_11 h_10=>asI .i64 y_11 fun n_12=>(fnK (.fn 115 [((h0++[some (Blk.mk true 0 (AV.cells (.c x0)))]).length,([Cell.int .i64 0]).length,0),(h0.length,(AV.cells (.c x0)).length,0)]) fun g_13 l_14=>c1 (C g_13 ([]++l_14) h_10) fun y_16 h_15=>asI .i64 y_16 fun n_17=>if ((G.rem .i64 n_17 4)==0)=true then atK (splice [Cell.str (ByteArray.mk #[]),Cell.nils,Cell.nils,Cell.int .i64 0,Cell.nils] 0 ([(.str (ByteArray.mk #[116]))]:List Cell)) 1 fun q_18=>fnK (.fn 115 [((h0++[some (Blk.mk true 0 (AV.cells (.c x0)))]).length,([Cell.int .i64 0]).length,0),(h0.length,(AV.cells (.c x0)).length,0)]) fun g_19 l_20=>c1 (C g_19 ([]++l_20) h_15) fun y_22 h_21=>asI .i64 y_22 fun n_23=>if (splice (splice [Cell.int .i64 0,Cell.int .i64 0] 0 ([(.int .i64 120)]:List Cell)) 1 ([(.int .i64 (G.rem .i64 n_23 3))]:List Cell)).length=2∧0+2≤[Cell.int .i64 0,Cell.int .i64 0].length then if (splice [Cell.int .i64 0,Cell.int .i64 0] 0 (splice (splice [Cell.int .i64 0,Cell.int .i64 0] 0 ([(.int .i64 120)]:List Cell)) 1 ([(.int .i64 (G.rem .i64 n_23 3))]:List Cell))).length=1*2 then appK 2 16 q_18 (splice [Cell.int .i64 0,Cell.int .i64 0] 0 (splice (splice [Cell.int .i64 0,Cell.int .i64 0] 0 ([(.int .i64 120)]:List Cell)) 1 ([(.int .i64 (G.rem .i64 n_23 3))]:List Cell))) h_21 fun x_24 h_25=>if 1<(splice [Cell.str (ByteArray.mk #[]),Cell.nils,Cell.nils,Cell.int .i64 0,Cell.nils] 0 ([(.str (ByteArray.mk #[116]))]:List Cell)).length then some (.normal,(q97_c1 a1 (.fn 115 [((h0++[some (Blk.mk true 0 (AV.cells (.c x0)))]).length,([Cell.int .i64 0]).length,0),(h0.length,(AV.cells (.c x0)).length,0)]) (G.wrap .i64 ((G.rem .i64 n_7 2)+2)) (G.wrap .i64 ((G.rem .i64 n_12 2)+2)) [Cell.str (ByteArray.mk #[]),Cell.nils,Cell.nils,Cell.int .i64 0,Cell.nils] ((splice [Cell.str (ByteArray.mk #[]),Cell.nils,Cell.nils,Cell.int .i64 0,Cell.nils] 0 ([(.str (ByteArray.mk #[116]))]:List Cell)).set 1 x_24) h_25)) else none else none else none else some (.normal,(q97_c1 a1 (.fn 115 [((h0++[some (Blk.mk true 0 (AV.cells (.c x0)))]).length,([Cell.int .i64 0]).length,0),(h0.length,(AV.cells (.c x0)).length,0)]) (G.wrap .i64 ((G.rem .i64 n_7 2)+2)) (G.wrap .i64 ((G.rem .i64 n_12 2)+2)) [Cell.str (ByteArray.mk #[]),Cell.nils,Cell.nils,Cell.int .i64 0,Cell.nils] (splice [Cell.str (ByteArray.mk #[]),Cell.nils,Cell.nils,Cell.int .i64 0,Cell.nils] 0 ([(.str (ByteArray.mk #[116]))]:List Cell)) h_15)):Option (Ex × St)).bind fun p_65=>(q97_k2 C L G h0) p_65.1 p_65.2 else none else none:=by kernel_rfl
set_option maxRecDepth 100000 in
theorem q115_eq (k0 N0:Nat) (o0 k1:Nat) (N1 o1:Nat) (h0:AHeap):q115.body C L G [(.c (.ptr k0 N0 o0)),(.c (.ptr k1 N1 o1))] h0=rdH h0 k0 N0 fun l_1=>atK l_1 o0 fun q_2=>asI .i64 (.c q_2) fun n_3=>rdH h0 k0 N0 fun l_4=>if o0<l_4.length then putH h0 k0 (l_4.set o0 (.int .i64 (G.wrap .i64 (n_3+1)))) fun h_5=>rdH h_5 k0 N0 fun l_6=>atK l_6 o0 fun q_7=>asI .i64 (.c q_7) fun n_8=>rdH h_5 k1 N1 fun l_9=>atK l_9 o1 fun q_10=>lenK q_10 fun n_11=>if (decide (n_8 > n_11))=true then some ([(.c (.int .i64 0))],h_5) else rdH h_5 k1 N1 fun l_12=>atK l_12 o1 fun q_13=>rdH h_5 k0 N0 fun l_14=>atK l_14 o0 fun q_15=>asI .i64 (.c q_15) fun n_16=>idxSK 1 q_13 (G.wrap .i64 (n_16 - 1)) fun k_17 N_18 o_19=>rdH h_5 k_17 N_18 fun l_20=>atK l_20 o_19 fun q_21=>asI .i64 (.c q_21) fun n_22=>some ([(.c (.int .i64 (G.band .i64 n_22 65535)))],h_5) else none:=by kernel_rfl
end Jq

namespace Jq
open Go
def opdOk (o:Opd):Prop:=(o.reg = -1∧0≤o.val∧o.val<3)∨((o.reg=0∨o.reg=1)∧o.val=0)
def SmI (L:Int) (i:Ins):Prop :=
  (i.kind=1∧i.reg=0∧(120≤i.loc∧i.loc<120+L)∧opdOk i.a∧i.op=0∧i.b=⟨0,0⟩∧i.n=0) ∨
  (i.kind=2∧(i.reg=0∨i.reg=1)∧(120≤i.loc∧i.loc<120+L)∧i.a=⟨0,0⟩∧i.op=0∧i.b=⟨0,0⟩∧i.n=0) ∨
  (i=⟨3,0,0,⟨0,0⟩,0,⟨0,0⟩,0⟩) ∨
  (i.kind=4∧(i.reg=0∨i.reg=1)∧(120≤i.loc∧i.loc<120+L)∧opdOk i.a∧i.op=0∧i.b=⟨-1,1⟩∧i.n=0) ∨
  (i.kind=5∧(i.reg=0∨i.reg=1)∧i.loc=0∧opdOk i.a∧i.op=6∧i.b=⟨-1,1⟩∧i.n=0) ∨
  (i.kind=6∧i.reg=0∧i.loc=0∧opdOk i.a∧i.op=0∧i.b=⟨-1,0⟩∧i.n=1)
def memC (c:List Ins):Nat:=c.countP fun i=>decide (i.kind=1∨i.kind=2∨i.kind=4)
inductive ThrOk (L:Int):Nat→List Ins→Prop
  | nil:ThrOk L 0 []
  | one {k:Nat} {c:List Ins} {i:Ins}:ThrOk L k c→SmI L i→i.kind≠6→ThrOk L (k+1) (c++[i])
  | two {k:Nat} {c:List Ins} {i j:Ins}:ThrOk L k c→SmI L i→i.kind=6→SmI L j→j.kind=1→ThrOk L (k+1) (c++[i,j])
theorem ThrOk.len {L:Int} {k:Nat} {c:List Ins} (t:ThrOk L k c):c.length≤2*k:=by
  induction t with
  | nil=>simp
  | one _ _ _ ih=>rw [List.length_append];simp;omega
  | two _ _ _ _ _ ih=>rw [List.length_append];simp;omega
theorem ThrOk.all {L:Int} {k:Nat} {c:List Ins} (t:ThrOk L k c):∀i∈c,SmI L i:=by
  induction t with
  | nil=>simp
  | one _ h _ ih =>
    intro i hi
    rcases List.mem_append.1 hi with hi | hi
    · exact ih i hi
    · simp at hi;subst hi;exact h
  | two _ h _ h' _ ih =>
    intro i hi
    rcases List.mem_append.1 hi with hi | hi
    · exact ih i hi
    · simp at hi;rcases hi with rfl | rfl
      · exact h
      · exact h'
theorem memC_app (a b:List Ins):memC (a++b)=memC a+memC b:=by unfold memC;rw [List.countP_append]
theorem Own.appM {n:Nat} {h:AHeap} {x:Cell} {esz len bytes m:Nat} {cs xs:List Cell} (o:Own n h x esz cs len) (hn:n≤h.length) (hx:xs.length=m*esz) (hm:0<m) (he:0<esz) (h1:(len+m)*bytes≤maxBytes) (h2:len+m≤maxBytes) :
    ∃x' h',(∀{α:Type} (f:Cell→AHeap→Option α),appK esz bytes x xs h f=f x' h')∧Own n h' x' esz (cs++xs) (len+m)∧Kp n h h':=by
  have hd:xs.length / esz=m:=by rw [hx];exact Nat.mul_div_cancel _ he
  have hpos:0<xs.length:=by rw [hx];exact Nat.mul_pos hm he
  rcases o.2 with ⟨rfl,rfl⟩ | ⟨k,rfl,hk,hb⟩
  · have hcs:cs=[]:=List.length_eq_zero_iff.1 (by have:=o.1;omega)
    subst hcs
    refine ⟨.sl h.length xs.length 0 m,h++[some ⟨true,esz,xs⟩],fun f=>?_,⟨by simp [hx],.inr ⟨h.length,by simp,hn,by rw [List.nil_append];exact blk_new _ _⟩⟩,Kp.app _ hn⟩
    unfold appK;simp only;rw [if_neg (by omega),hd,if_pos ⟨by rw [Nat.zero_add] at h1;exact h1,by omega⟩]
  · have hl:=o.1
    refine ⟨.sl k (len*esz+xs.length) 0 (len+m),setBlk h k (some ⟨true,esz,cs++xs⟩),fun f=>?_,⟨by simp [hl,hx,Nat.add_mul],.inr ⟨k,by simp [hl],hk,blk_set_self (blk_lt' hb) _⟩⟩,Kp.set hk _⟩
    unfold appK;simp only;rw [hb,Option.bind_some];dsimp only
    rw [if_pos ⟨rfl,rfl,rfl,by omega,by rw [hd];exact h1,by rw [hd];exact h2⟩,if_neg (by omega),if_pos trivial,hd,List.take_of_length_le (by omega)]
section
variable {E:Env}
theorem shr_nn {x k:Int} (hx:0≤x):0≤E.glob.shr .i64 x k:=by
  show 0≤x.fdiv (2 ^ min k.toNat 64)
  exact Int.fdiv_nonneg hx (Int.le_of_lt (Int.pow_pos (by omega)))
theorem rem_rng {x m:Int} (hx:0≤x) (hm:0<m):0≤E.glob.rem .i64 x m∧E.glob.rem .i64 x m<m:=by
  rw [g_rem,Int.tmod_eq_emod_of_nonneg hx]
  exact ⟨Int.emod_nonneg _ (by omega),Int.emod_lt_of_pos _ hm⟩
theorem g_band1 {x:Int}:E.glob.band .i64 x 1=x % 2:=by
  show IntKind.wrap .i64 ((BitVec.ofInt 64 x &&& BitVec.ofInt 64 1).toNat:Nat)=_
  have h1:(BitVec.ofInt 64 x &&& BitVec.ofInt 64 1).toNat=(BitVec.ofInt 64 x).toNat % 2:=by
    rw [BitVec.toNat_and]
    have:(BitVec.ofInt 64 1).toNat=2 ^ 1 - 1:=by decide
    rw [this,Nat.and_two_pow_sub_one_eq_mod]
  rw [h1,BitVec.toNat_ofInt]
  have h3:((((x % ((2 ^ 64:Nat):Int)).toNat % 2:Nat):Int))=x % 2:=by omega
  rw [h3]
  exact wrap_i64 (by omega) (by omega)
theorem band1_rng (x:Int):E.glob.band .i64 x 1=0∨E.glob.band .i64 x 1=1:=by rw [g_band1];omega
theorem g_band16 {x:Int}:0≤E.glob.band .i64 x 65535∧E.glob.band .i64 x 65535<65536:=by
  have h:E.glob.band .i64 x 65535=x % 65536:=by
    show IntKind.wrap .i64 ((BitVec.ofInt 64 x &&& BitVec.ofInt 64 65535).toNat:Nat)=_
    have h1:(BitVec.ofInt 64 x &&& BitVec.ofInt 64 65535).toNat=(BitVec.ofInt 64 x).toNat % 65536:=by
      rw [BitVec.toNat_and]
      have:(BitVec.ofInt 64 65535).toNat=2 ^ 16 - 1:=by decide
      rw [this,Nat.and_two_pow_sub_one_eq_mod]
    rw [h1,BitVec.toNat_ofInt]
    have h3:((((x % ((2 ^ 64:Nat):Int)).toNat % 65536:Nat):Int))=x % 65536:=by omega
    rw [h3]
    exact wrap_i64 (by omega) (by omega)
  rw [h];omega
def VarsAt (h0:AHeap) (x:Cell) (h:AHeap) (m:Nat):Prop :=
  blk? h h0.length=some ⟨true,0,[x]⟩∧blk? h (h0.length+1)=some ⟨true,0,[.int .i64 (m:Int)]⟩∧h0.length+2≤h.length∧Kp h0.length h0 h
def nxF (h0:AHeap):Cell:=.fn 115 [(h0.length+1,1,0),(h0.length,1,0)]
theorem VarsAt.keep {h0 h h':AHeap} {x:Cell} {m:Nat} (v:VarsAt h0 x h m) (hk:Kp (h0.length+2) h h'):VarsAt h0 x h' m :=
  ⟨by rw [hk.blk (by omega)];exact v.1,by rw [hk.blk (by omega)];exact v.2.1,Nat.le_trans v.2.2.1 hk.1,v.2.2.2.trans (hk.mono (by omega))⟩
theorem rd1' {α:Type} {h:AHeap} {k:Nat} {a:Cell} (hk:blk? h k=some ⟨true,0,[a]⟩) {F:List Cell→Option α}:rdH h k 1 F=F [a]:=rdH_ok hk rfl
theorem next_R (hE:q115_In E) {h0 h:AHeap} {x:Cell} {l:List Int} {m:Nat} (hx:SlAt h0 x 1 (intC .i64 l) l.length) (hlow:Low h0.length x) (hl:l.length<9223372036854775808) (v:VarsAt h0 x h m) (hm:m<100000) :
    ∃r:Int,0≤r∧r<65536∧(∀{α:Type} (F:AV→AHeap→Option α),(fnK (nxF h0) fun g cs=>c1 (R E g ([]++cs) h) F)=F (.c (.int .i64 r)) (setBlk h (h0.length+1) (some ⟨true,0,[.int .i64 ((m+1:Nat):Int)]⟩))) ∧
      VarsAt h0 x (setBlk h (h0.length+1) (some ⟨true,0,[.int .i64 ((m+1:Nat):Int)]⟩)) (m+1):=by
  obtain ⟨v1,v2,v3,v4⟩:=v
  have b2:blk? (setBlk h (h0.length+1) (some ⟨true,0,[.int .i64 ((m+1:Nat):Int)]⟩)) (h0.length+1)=some ⟨true,0,[.int .i64 ((m+1:Nat):Int)]⟩:=blk_set_self (blk_lt' v2) _
  have b1:blk? (setBlk h (h0.length+1) (some ⟨true,0,[.int .i64 ((m+1:Nat):Int)]⟩)) h0.length=some ⟨true,0,[x]⟩:=by rw [blk_set_ne (by omega)];exact v1
  have kk:Kp h0.length h0 (setBlk h (h0.length+1) (some ⟨true,0,[.int .i64 ((m+1:Nat):Int)]⟩)):=v4.trans (Kp.set (by omega) _)
  have hx':=hx.keep hlow kk
  have hV:VarsAt h0 x (setBlk h (h0.length+1) (some ⟨true,0,[.int .i64 ((m+1:Nat):Int)]⟩)) (m+1):=⟨b1,b2,by rw [setBlk_len];exact v3,kk⟩
  have hb:q115.body (R E) Lim E.glob [.c (.ptr (h0.length+1) 1 0),.c (.ptr h0.length 1 0)] h=some ([.c (.int .i64 (if m+1 > l.length then 0 else E.glob.band .i64 (l.getD m 0) 65535))],setBlk h (h0.length+1) (some ⟨true,0,[.int .i64 ((m+1:Nat):Int)]⟩)):=by
    rw [q115_eq,rd1' v2,atK_ok (i:=0) (c:=.int .i64 (m:Int)) rfl,asI_ok,rd1' v2,if_pos (by simp),g_succ (by omega),putH_ok v2 rfl]
    dsimp only [List.set]
    rw [rd1' b2,atK_ok (i:=0) (c:=.int .i64 ((m+1:Nat):Int)) rfl,asI_ok,rd1' b1,atK_ok (i:=0) (c:=x) rfl,hx'.len]
    by_cases hgt:m+1 > l.length
    · rw [if_pos (by simp;omega),if_pos hgt]
    · rw [if_neg (by simp;omega),if_neg hgt,rd1' b1,atK_ok (i:=0) (c:=x) rfl,rd1' b2,atK_ok (i:=0) (c:=.int .i64 ((m+1:Nat):Int)) rfl,asI_ok,g_wrap_i64 (by omega) (by omega),show ((m+1:Nat):Int) - 1=(m:Int) by omega,hx'.get1 (show m<l.length by omega) (intC_get (getDI (by omega))),asI_ok]
  refine ⟨if m+1 > l.length then 0 else E.glob.band .i64 (l.getD m 0) 65535,?_,?_,fun F=>?_,hV⟩
  · split
    · omega
    · exact g_band16.1
  · split
    · omega
    · exact g_band16.2
  · show c1 (R E 115 [.c (.ptr (h0.length+1) 1 0),.c (.ptr h0.length 1 0)] h) F=_
    rw [R_intro hE.fn hb,c1_ok]
end
end Jq

namespace Jq
open Go
section
variable {E:Env}
def OneMore (E:Env) (most:Int) (fnc:Cell) (n L:Int) (mem:Nat) (i:Int) (k:Int) (s0 s1:List Cell) (N kk:Nat) (c:List Ins) (h:AHeap) (o:Option (Ex × St)):Prop :=
  ∃(c2:List Ins) (mem2:Nat) (xs2:Cell) (h2:AHeap),o=some (.normal,q97_s1 most fnc n L (mem2:Int) i xs2 (k - 1) s0 s1 h2)∧ThrOk L (kk+1) c2∧memC c2+mem=memC c+mem2∧mem≤mem2∧mem2≤mem+1 ∧
    Own N h2 xs2 9 (codeC c2) c2.length∧Kp N h h2
variable {most:Int} {fnc:Cell} {n L:Int} {mem:Nat} {i:Int} {xs:Cell} {k loc x r m:Int} {s0 s1:List Cell} {v:Opd} {h:AHeap} {N kk:Nat} {c:List Ins}
theorem one_ins {f:Cell→AHeap→Option (Ex × St)} {mem2:Nat} {j:Ins} (hxs:Own N h xs 9 (codeC c) c.length) (hN:N≤h.length) (hc:c.length≤100) (t:ThrOk L kk c) (hj:SmI L j) (h6:j.kind≠6)
    (hm2:mem2=mem+memC [j]) (hf:∀x' h',f x' h'=some (.normal,q97_s1 most fnc n L (mem2:Int) i x' (k - 1) s0 s1 h')) :
    OneMore E most fnc n L mem i k s0 s1 N kk c h (appK 9 72 xs j.cs h f):=by
  have hm:maxBytes≥200*72:=by unfold maxBytes;omega
  obtain ⟨x',h',ha,ho,hk,_⟩:=hxs.app (bytes:=72) (xs:=j.cs) hN rfl (by omega) (by omega) (by omega)
  have h1:memC [j]≤1:=by unfold memC;exact Nat.le_trans (List.countP_le_length) (by simp)
  refine ⟨c++[j],mem2,x',h',by rw [ha,hf],t.one hj h6,by rw [memC_app,hm2];omega,by omega,by omega,?_,hk⟩
  rw [codeC_snoc,List.length_append,List.length_singleton];exact ho
theorem memC_yes {j:Ins} (h:j.kind=1∨j.kind=2∨j.kind=4):memC [j]=1:=by unfold memC;rw [List.countP_cons,List.countP_nil];simp [h]
theorem memC_no {j:Ins} (h:¬(j.kind=1∨j.kind=2∨j.kind=4)):memC [j]=0:=by unfold memC;rw [List.countP_cons,List.countP_nil];simp [h]
theorem small_st (hxs:Own N h xs 9 (codeC c) c.length) (hN:N≤h.length) (hc:c.length≤100) (t:ThrOk L kk c) (hv:opdOk v) (hloc:120≤loc∧loc<120+L) (hmem:mem<1000) (hk:0≤k∧k≤3) {b:Bool} (hb:b=true) :
    OneMore E most fnc n L mem i k s0 s1 N kk c h ((q97_k13 (R E) Lim E.glob) .normal (q97_c3 most fnc n L (mem:Int) i xs k loc r m b s0 s1 v.cs h)):=by
  have e:splice (splice (splice (List.replicate 9 (Cell.int .i64 0)) 0 ([(.int .i64 1)]:List Cell)) 2 ([(.int .i64 loc)]:List Cell)) 3 v.cs=(Ins.mk 1 0 loc v 0 ⟨0,0⟩ 0).cs:=rfl
  rw [q97_ec3_n,if_pos hb,if_pos ⟨rfl,rfl⟩,if_pos ⟨rfl,by simp [splice]⟩,e,if_pos ⟨rfl,by simp⟩,ins_splice,if_pos (ins_len19 _)]
  refine one_ins (mem2:=mem+1) hxs hN hc t (.inl ⟨rfl,rfl,hloc,hv,rfl,rfl,rfl⟩) (by simp) (by rw [memC_yes (.inl rfl)]) fun x' h'=>?_
  rw [g_succ (by omega),g_wrap_i64 (by omega) (by omega)]
theorem small_ld (hxs:Own N h xs 9 (codeC c) c.length) (hN:N≤h.length) (hc:c.length≤100) (t:ThrOk L kk c) (hr:r=0∨r=1) (hloc:120≤loc∧loc<120+L) (hmem:mem<1000) (hk:0≤k∧k≤3) {b:Bool} (hb:b=true) {s2:List Cell} :
    OneMore E most fnc n L mem i k s0 s1 N kk c h ((q97_k14 (R E) Lim E.glob) .normal (q97_c4 most fnc n L (mem:Int) i xs k loc r m b s0 s1 s2 h)):=by
  have e:splice (splice (splice (List.replicate 9 (Cell.int .i64 0)) 0 ([(.int .i64 2)]:List Cell)) 1 ([(.int .i64 r)]:List Cell)) 2 ([(.int .i64 loc)]:List Cell)=(Ins.mk 2 r loc ⟨0,0⟩ 0 ⟨0,0⟩ 0).cs:=rfl
  rw [q97_ec4_n,if_pos hb,e,if_pos ⟨rfl,by simp⟩,ins_splice,if_pos (ins_len19 _)]
  refine one_ins (mem2:=mem+1) hxs hN hc t (.inr (.inl ⟨rfl,hr,hloc,rfl,rfl,rfl,rfl⟩)) (by simp) (by rw [memC_yes (.inr (.inl rfl))]) fun x' h'=>?_
  rw [g_succ (by omega),g_wrap_i64 (by omega) (by omega)]
theorem mb2 {k:Nat} (hk:k≤100):(k+2)*72≤maxBytes∧k+2≤maxBytes:=by
  have hm:maxBytes≥200*72:=by unfold maxBytes;omega
  omega
theorem z18_len2 (a b:Ins):(codeC [a,b]).length=2*9:=by rw [codeC_len];rfl
theorem two_ins {f:Cell→AHeap→Option (Ex × St)} {j q:Ins} (hxs:Own N h xs 9 (codeC c) c.length) (hN:N≤h.length) (hc:c.length≤100) (t:ThrOk L kk c) (hj:SmI L j) (h6:j.kind=6) (hq:SmI L q) (h1:q.kind=1)
    (hf:∀x' h',f x' h'=some (.normal,q97_s1 most fnc n L ((mem+1:Nat):Int) i x' (k - 1) s0 s1 h')) :
    OneMore E most fnc n L mem i k s0 s1 N kk c h (appK 9 72 xs (codeC [j,q]) h f):=by
  obtain ⟨f1,f2⟩:=mb2 hc
  obtain ⟨x',h',ha,ho,hkp⟩:=hxs.appM hN (z18_len2 j q) Nat.zero_lt_two (Nat.succ_pos 8) f1 f2
  have e4:codeC (c++[j,q])=codeC c++codeC [j,q]:=by simp [codeC]
  refine ⟨c++[j,q],mem+1,x',h',by rw [ha,hf],t.two hj h6 hq h1,?_,by omega,by omega,?_,hkp⟩
  · rw [memC_app]
    have:memC [j,q]=1:=by
      show memC ([j]++[q])=1
      rw [memC_app,memC_no (by omega),memC_yes (.inl h1)]
    omega
  · rw [e4,List.length_append];exact ho
theorem z18_len:0+9≤(List.replicate 18 (Cell.int .i64 0)).length:=by rw [List.length_replicate];omega
theorem z18_one (a:Ins):9+9≤(splice (List.replicate 18 (Cell.int .i64 0)) 0 a.cs).length:=by
  unfold splice
  rw [List.length_append,List.length_append,List.length_drop,List.length_take,List.length_replicate,Ins.len];omega
theorem z18_two (a b:Ins):splice (splice (List.replicate 18 (Cell.int .i64 0)) 0 a.cs) 9 b.cs=codeC [a,b]:=rfl
theorem small_other (hxs:Own N h xs 9 (codeC c) c.length) (hN:N≤h.length) (hc:c.length≤100) (t:ThrOk L kk c) (hL:0<L) (hv:opdOk v) (hr:r=0∨r=1) (hloc:120≤loc∧loc<120+L) (hmem:mem<1000) (hk:0≤k∧k≤3) {b:Bool} (hb:b=false) :
    OneMore E most fnc n L mem i k s0 s1 N kk c h ((q97_k14 (R E) Lim E.glob) .normal (q97_c4 most fnc n L (mem:Int) i xs k loc r m b s0 s1 v.cs h)):=by
  have hm:maxBytes≥200*72:=by unfold maxBytes;omega
  rw [q97_ec4_n,if_neg (by rw [hb];simp)]
  by_cases h8:m=8
  · have e:splice (List.replicate 9 (Cell.int .i64 0)) 0 ([(.int .i64 3)]:List Cell)=(Ins.mk 3 0 0 ⟨0,0⟩ 0 ⟨0,0⟩ 0).cs:=rfl
    rw [if_pos (by rw [h8];rfl),e,if_pos ⟨rfl,by simp⟩,ins_splice,if_pos (ins_len19 _)]
    refine one_ins (mem2:=mem) hxs hN hc t (.inr (.inr (.inl rfl))) (by simp) (by rw [memC_no (by simp)];rfl) fun x' h'=>?_
    rw [g_wrap_i64 (by omega) (by omega)]
  · rw [if_neg (by rw [beq_iff_eq];exact h8)]
    by_cases h9:m=9
    · have e:splice (splice (splice (splice (splice (List.replicate 9 (Cell.int .i64 0)) 0 ([(.int .i64 4)]:List Cell)) 1 ([(.int .i64 r)]:List Cell)) 2 ([(.int .i64 loc)]:List Cell)) 3 v.cs) 6 (splice (splice [Cell.int .i64 0,Cell.int .i64 0] 0 ([(.int .i64 (-1))]:List Cell)) 1 ([(.int .i64 1)]:List Cell))=(Ins.mk 4 r loc v 0 ⟨-1,1⟩ 0).cs:=rfl
      rw [if_pos (by rw [h9];rfl),if_pos ⟨rfl,rfl⟩,if_pos ⟨rfl,by simp [splice]⟩,if_pos ⟨rfl,by simp [splice,Opd.cs]⟩,e,if_pos ⟨rfl,by simp⟩,ins_splice,if_pos (ins_len19 _)]
      refine one_ins (mem2:=mem+1) hxs hN hc t (.inr (.inr (.inr (.inl ⟨rfl,hr,hloc,hv,rfl,rfl,rfl⟩)))) (by simp) (by rw [memC_yes (.inr (.inr rfl))]) fun x' h'=>?_
      rw [g_succ (by omega),g_wrap_i64 (by omega) (by omega)]
    · rw [if_neg (by rw [beq_iff_eq];exact h9)]
      by_cases h10:m=10
      · have e:splice (splice (splice (splice (splice (List.replicate 9 (Cell.int .i64 0)) 0 ([(.int .i64 5)]:List Cell)) 1 ([(.int .i64 r)]:List Cell)) 3 v.cs) 5 ([(.int .i64 6)]:List Cell)) 6 (splice (splice [Cell.int .i64 0,Cell.int .i64 0] 0 ([(.int .i64 (-1))]:List Cell)) 1 ([(.int .i64 1)]:List Cell))=(Ins.mk 5 r 0 v 6 ⟨-1,1⟩ 0).cs:=rfl
        rw [if_pos (by rw [h10];rfl),if_pos ⟨rfl,rfl⟩,if_pos ⟨rfl,by simp [splice]⟩,if_pos ⟨rfl,by simp [splice,Opd.cs]⟩,if_pos ⟨rfl,by simp [splice,Opd.cs]⟩,e,if_pos ⟨rfl,by simp⟩,ins_splice,if_pos (ins_len19 _)]
        refine one_ins (mem2:=mem) hxs hN hc t (.inr (.inr (.inr (.inr (.inl ⟨rfl,hr,rfl,hv,rfl,rfl,rfl⟩))))) (by simp) (by rw [memC_no (by simp)];rfl) fun x' h'=>?_
        rw [g_wrap_i64 (by omega) (by omega)]
      · have e1:splice (splice (splice (splice (List.replicate 9 (Cell.int .i64 0)) 0 ([(.int .i64 6)]:List Cell)) 3 v.cs) 6 (splice [Cell.int .i64 0,Cell.int .i64 0] 0 ([(.int .i64 (-1))]:List Cell))) 8 ([(.int .i64 1)]:List Cell)=(Ins.mk 6 0 0 v 0 ⟨-1,0⟩ 1).cs:=rfl
        have e2:splice (splice (splice (List.replicate 9 (Cell.int .i64 0)) 0 ([(.int .i64 1)]:List Cell)) 2 ([(.int .i64 loc)]:List Cell)) 3 (splice (splice [Cell.int .i64 0,Cell.int .i64 0] 0 ([(.int .i64 (-1))]:List Cell)) 1 ([(.int .i64 2)]:List Cell))=(Ins.mk 1 0 loc ⟨-1,2⟩ 0 ⟨0,0⟩ 0).cs:=rfl
        rw [if_neg (by rw [beq_iff_eq];exact h10),if_pos ⟨rfl,rfl⟩,if_pos ⟨rfl,by simp [splice]⟩,if_pos ⟨rfl,by simp [splice,Opd.cs]⟩,if_pos ⟨rfl,by simp [splice,Opd.cs]⟩,if_pos ⟨rfl,by simp [splice]⟩,e1,e2,if_pos ⟨Ins.len _,z18_len⟩,if_pos ⟨Ins.len _,z18_one _⟩,z18_two,if_pos (z18_len2 _ _)]
        have hL2:(2:Int)<3∧(0:Int)≤2:=⟨by decide,by decide⟩
        have hst:SmI L (Ins.mk 1 0 loc ⟨-1,2⟩ 0 ⟨0,0⟩ 0):=.inl ⟨rfl,rfl,hloc,.inl ⟨rfl,hL2.2,hL2.1⟩,rfl,rfl,rfl⟩
        have hsk:SmI L (Ins.mk 6 0 0 v 0 ⟨-1,0⟩ 1):=.inr (.inr (.inr (.inr (.inr ⟨rfl,rfl,rfl,hv,rfl,rfl,rfl⟩))))
        refine two_ins hxs hN hc t hsk rfl hst rfl fun x' h'=>?_
        rw [g_succ (by omega),g_wrap_i64 (by omega) (by omega)]
theorem small_case (hxs:Own N h xs 9 (codeC c) c.length) (hN:N≤h.length) (hc:c.length≤100) (t:ThrOk L kk c) (hL:0<L) (hv:opdOk v) (hx:0≤x) (hloc:120≤loc∧loc<120+L) (hmem:mem<1000) (hk:0≤k∧k≤3) :
    OneMore E most fnc n L mem i k s0 s1 N kk c h ((q97_k11 (R E) Lim E.glob) .normal (q97_c2 most fnc n L (mem:Int) i xs k x loc s0 s1 v.cs h)):=by
  have hr:=band1_rng (E:=E) (E.glob.shr .i64 x 11)
  have hm:=rem_rng (E:=E) hx (show (0:Int)<12 by omega)
  rw [q97_ec2_n]
  generalize E.glob.band .i64 (E.glob.shr .i64 x 11) 1=r at *
  generalize E.glob.rem .i64 x 12=m at *
  by_cases h0:m=0
  · rw [if_pos (by rw [h0];rfl),bind_ok];exact small_st hxs hN hc t hv hloc hmem hk (by rw [h0];rfl)
  rw [if_neg (by rw [beq_iff_eq];exact h0)]
  by_cases h1:m=1
  · rw [if_pos (by rw [h1];rfl),bind_ok];exact small_st hxs hN hc t hv hloc hmem hk (by rw [h1];rfl)
  rw [if_neg (by rw [beq_iff_eq];exact h1)]
  by_cases h2:m=2
  · rw [if_pos (by rw [h2];rfl),bind_ok];exact small_st hxs hN hc t hv hloc hmem hk (by rw [h2];rfl)
  rw [if_neg (by rw [beq_iff_eq];exact h2),bind_ok]
  by_cases h3:m=3
  · exact small_st hxs hN hc t hv hloc hmem hk (by rw [h3];rfl)
  rw [q97_ec3_n,if_neg (by rw [beq_iff_eq];exact h3)]
  by_cases h4:m=4
  · rw [if_pos (by rw [h4];rfl),bind_ok];exact small_ld hxs hN hc t hr hloc hmem hk (by rw [h4];rfl)
  rw [if_neg (by rw [beq_iff_eq];exact h4)]
  by_cases h5:m=5
  · rw [if_pos (by rw [h5];rfl),bind_ok];exact small_ld hxs hN hc t hr hloc hmem hk (by rw [h5];rfl)
  rw [if_neg (by rw [beq_iff_eq];exact h5)]
  by_cases h6:m=6
  · rw [if_pos (by rw [h6];rfl),bind_ok];exact small_ld hxs hN hc t hr hloc hmem hk (by rw [h6];rfl)
  rw [if_neg (by rw [beq_iff_eq];exact h6),bind_ok]
  by_cases h7:m=7
  · exact small_ld hxs hN hc t hr hloc hmem hk (by rw [h7];rfl)
  exact small_other hxs hN hc t hL hv hr hloc hmem hk (by rw [beq_eq_false_iff_ne];exact h7)
end
end Jq

namespace Jq
open Go
def KpX (a n:Nat) (h h':AHeap):Prop:=h.length≤h'.length∧∀k,k<n→k≠a→h'[k]? = h[k]?
theorem KpX.refl (a n:Nat) (h:AHeap):KpX a n h h:=⟨Nat.le_refl _,fun _ _ _=>rfl⟩
theorem KpX.trans {a n:Nat} {h h' h'':AHeap} (x:KpX a n h h') (y:KpX a n h' h''):KpX a n h h'':=⟨Nat.le_trans x.1 y.1,fun k hk ha=>(y.2 k hk ha).trans (x.2 k hk ha)⟩
theorem KpX.mono {a n m:Nat} {h h':AHeap} (x:KpX a n h h') (hm:m≤n):KpX a m h h':=⟨x.1,fun k hk ha=>x.2 k (by omega) ha⟩
theorem Kp.x {a n:Nat} {h h':AHeap} (x:Kp n h h'):KpX a n h h':=⟨x.1,fun k hk _=>x.2 k hk⟩
theorem KpX.set (a n:Nat) (h:AHeap) (b:Option Blk):KpX a n h (setBlk h a b):=⟨by simp [setBlk],fun j _ ha=>by unfold setBlk;rw [List.getElem?_set_ne (fun e=>ha e.symm)]⟩
theorem KpX.blk {a n:Nat} {h h':AHeap} (x:KpX a n h h') {k:Nat} (hk:k<n) (ha:k≠a):blk? h' k=blk? h k:=by unfold blk?;rw [x.2 k hk ha]
theorem Own.keepX {a n:Nat} {h h':AHeap} {x:Cell} {esz len:Nat} {cs:List Cell} (o:Own n h x esz cs len) (ha:a<n) (hk:KpX a h.length h h'):Own n h' x esz cs len:=by
  refine ⟨o.1,o.2.imp id ?_⟩
  rintro ⟨k,e,hn,hb⟩
  exact ⟨k,e,hn,by rw [hk.blk (blk_lt' hb) (by omega)];exact hb⟩
theorem RowsOwn.keepX {α:Type} {esz:Nat} {C:List α→List Cell} {a n:Nat} {h h':AHeap} {y:Cell} {rows:List (List α)} (r:RowsOwn esz C n h y rows) (ha:a<n) (hk:KpX a h.length h h'):RowsOwn esz C n h' y rows:=by
  obtain ⟨ts,h1,h2⟩:=r
  exact ⟨ts,h1.keepX ha hk,fun t r hr=>by obtain ⟨x,x1,x2,x3⟩:=h2 t r hr;exact ⟨x,x1,x2.keepX ha hk,x3⟩⟩
structure GoodT (most:Nat) (T:PTest):Prop where
  name:T.name.size≤20
  n:2≤T.thr.length∧T.thr.length≤3
  code:∃L:Int,(L=2∨L=3)∧∀c∈T.thr,∃k,k≤3∧ThrOk L k c
  mem:(T.thr.map memC).sum≤most
  inits:T.inits=[]∨∃v:Int,0≤v∧v<3∧T.inits=[(120,v)]
  any:T.any.length≤2∧∀row∈T.any,row.length≤2∧∀a∈row,a.loc=0∨a.loc=120
section
variable {E:Env}
theorem opd_reg {r:Int}:splice [Cell.int .i64 0,Cell.int .i64 0] 0 ([(.int .i64 r)]:List Cell)=(Opd.mk r 0).cs:=rfl
theorem opd_num {v:Int}:splice (splice [Cell.int .i64 0,Cell.int .i64 0] 0 ([(.int .i64 (-1))]:List Cell)) 1 ([(.int .i64 v)]:List Cell)=(Opd.mk (-1) v).cs:=rfl
theorem small_thr (hE:q115_In E) {h0:AHeap} {x:Cell} {l:List Int} (hx:SlAt h0 x 1 (intC .i64 l) l.length) (hlow:Low h0.length x) (hl:l.length<9223372036854775808)
    {most:Nat} (hmost:most≤900) {n i L:Int} (hL:L=2∨L=3) (s0 s1:List Cell) (N:Nat) (hN0:h0.length+2≤N):∀(k mem m kk:Nat) (c:List Ins) (xs:Cell) (h:AHeap),k≤3→kk+k≤10→mem≤most→m+k<1000 →
      VarsAt h0 x h m→N≤h.length→Own N h xs 9 (codeC c) c.length→ThrOk L kk c →
      ∃(mem' m' kk':Nat) (c':List Ins) (xs':Cell) (h':AHeap),Lim (q97_F1 (R E) Lim E.glob) (q97_s1 (most:Int) (nxF h0) n L (mem:Int) i xs (k:Int) s0 s1 h)=some (.exit 2,q97_x1_3 (most:Int) (nxF h0) n L (mem':Int) i xs' s0 s1 h') ∧
        ThrOk L kk' c'∧kk'≤kk+k∧memC c'+mem=memC c+mem'∧mem'≤most∧VarsAt h0 x h' m'∧m'≤m+k∧N≤h'.length∧Own N h' xs' 9 (codeC c') c'.length∧KpX (h0.length+1) N h h':=by
  intro k
  induction k with
  | zero =>
    intro mem m kk c xs h _ _ hmem _ hv hN ho ht
    refine ⟨mem,m,kk,c,xs,h,Lim_exit ?_,ht,by omega,by omega,hmem,hv,by omega,hN,ho,KpX.refl _ _ _⟩
    rw [q97_r1,show decide (((0:Nat):Int) > 0)=false from rfl,scK_ft,if_neg (by simp)]
  | succ k ih =>
    intro mem m kk c xs h hk hkk hmem hm hv hN ho ht
    by_cases hmm:mem<most
    · obtain ⟨r,r0,r1,hF,hv2⟩:=next_R hE hx hlow hl hv (by omega)
      have hLp:0<L:=by omega
      have hset:KpX (h0.length+1) N h (setBlk h (h0.length+1) (some ⟨true,0,[.int .i64 ((m+1:Nat):Int)]⟩)):=KpX.set _ _ _ _
      have ho2:=ho.keepX (show h0.length+1<N by omega) (KpX.set (h0.length+1) h.length h (some ⟨true,0,[.int .i64 ((m+1:Nat):Int)]⟩))
      have hN2:N≤(setBlk h (h0.length+1) (some ⟨true,0,[.int .i64 ((m+1:Nat):Int)]⟩)).length:=by rw [setBlk_len];exact hN
      generalize setBlk h (h0.length+1) (some ⟨true,0,[.int .i64 ((m+1:Nat):Int)]⟩)=H at *
      have q4:=rem_rng (E:=E) (shr_nn (E:=E) (k:=4) r0) hLp
      have q6:=rem_rng (E:=E) (shr_nn (E:=E) (k:=6) r0) (show (0:Int)<3 by omega)
      have hb1:=band1_rng (E:=E) (E.glob.shr .i64 r 10)
      have hclen:=ht.len
      have hcase:∀v:Opd,opdOk v→OneMore E (most:Int) (nxF h0) n L mem i ((k+1:Nat):Int) s0 s1 N kk c H ((q97_k11 (R E) Lim E.glob) .normal (q97_c2 (most:Int) (nxF h0) n L (mem:Int) i xs ((k+1:Nat):Int) r (120+E.glob.rem .i64 (E.glob.shr .i64 r 4) L) s0 s1 v.cs H)):=by
        intro v hvv
        exact small_case ho2 hN2 (by omega) ht hLp hvv r0 ⟨by omega,by omega⟩ (by omega) ⟨by omega,by omega⟩
      have hround:∃v:Opd,opdOk v∧q97_F1 (R E) Lim E.glob (q97_s1 (most:Int) (nxF h0) n L (mem:Int) i xs ((k+1:Nat):Int) s0 s1 h)=(q97_k11 (R E) Lim E.glob) .normal (q97_c2 (most:Int) (nxF h0) n L (mem:Int) i xs ((k+1:Nat):Int) r (120+E.glob.rem .i64 (E.glob.shr .i64 r 4) L) s0 s1 v.cs H):=by
        have hw:E.glob.wrap .i64 (120+E.glob.rem .i64 (E.glob.shr .i64 r 4) L)=120+E.glob.rem .i64 (E.glob.shr .i64 r 4) L:=g_wrap_i64 (by omega) (by omega)
        rw [q97_r1,show decide (((k+1:Nat):Int) > 0)=true from decide_eq_true (by omega),scK_ok,bind_ok]
        dsimp only
        rw [if_pos (decide_eq_true (by omega)),hF,asI_ok,if_neg (by omega)]
        rw [hw,opd_num,opd_reg,if_pos ⟨rfl,rfl,rfl⟩]
        by_cases h8:(E.glob.rem .i64 (E.glob.shr .i64 r 8) 3==0)=true
        · refine ⟨⟨E.glob.band .i64 (E.glob.shr .i64 r 10) 1,0⟩,.inr ⟨hb1,rfl⟩,?_⟩
          rw [if_pos h8,if_pos ⟨rfl,rfl,rfl⟩,bind_ok]
        · refine ⟨⟨-1,E.glob.rem .i64 (E.glob.shr .i64 r 6) 3⟩,.inl ⟨rfl,q6.1,q6.2⟩,?_⟩
          rw [if_neg h8,bind_ok]
      obtain ⟨v,hvv,hround⟩:=hround
      obtain ⟨c2,mem2,xs2,h2,g1,g2,g3,g4,g5,g6,g7⟩:=hcase v hvv
      rw [g1,show ((k+1:Nat):Int) - 1=(k:Int) by omega] at hround
      obtain ⟨mem',m',kk',c',xs',h',f1,f2,f3,f4,f5,f6,f7,f8,f9,f10⟩:=ih mem2 (m+1) (kk+1) c2 xs2 h2 (by omega) (by omega) (by omega) (by omega) (hv2.keep (g7.mono hN0)) (Nat.le_trans hN2 g7.1) g6 g2
      exact ⟨mem',m',kk',c',xs',h',Lim_next hround f1,f2,by omega,by omega,f5,f6,by omega,f8,f9,(hset.trans g7.x).trans f10⟩
    · refine ⟨mem,m,kk,c,xs,h,Lim_exit ?_,ht,by omega,by omega,hmem,hv,by omega,hN,ho,KpX.refl _ _ _⟩
      rw [q97_r1,show decide (((k+1:Nat):Int) > 0)=true from decide_eq_true (by omega),scK_ok,bind_ok]
      dsimp only
      rw [if_neg (by simp;omega)]
theorem sum_app_one (l:List (List Ins)) (c:List Ins):((l++[c]).map memC).sum=(l.map memC).sum+memC c:=by
  rw [List.map_append,List.sum_append];simp
theorem small_thrs (hE:q115_In E) {h0:AHeap} {x:Cell} {l:List Int} (hx:SlAt h0 x 1 (intC .i64 l) l.length) (hlow:Low h0.length x) (hl:l.length<9223372036854775808)
    {most:Nat} (hmost:most≤900) {n:Nat} (hn:n≤3) {L:Int} (hL:L=2∨L=3) (s0:List Cell) (a:Cell) {name:ByteArray} {Nb:Nat} (hNb:h0.length+2≤Nb):∀(q i mem m:Nat) (rows:List (List Ins)) (y:Cell) (h:AHeap),i+q=n→rows.length=i→mem≤most→m+4*q<900 →
      (rows.map memC).sum=mem→(∀c∈rows,∃k,k≤3∧ThrOk L k c)→VarsAt h0 x h m→Nb≤h.length→RowsOwn 9 codeC Nb h y rows →
      ∃(mem' m':Nat) (rows':List (List Ins)) (y':Cell) (h':AHeap),Lim (q97_F2 (R E) Lim E.glob) (q97_s2 (most:Int) (nxF h0) (n:Int) L (mem:Int) (i:Int) s0 [.str name,a,y,.int .i64 0,.nils] h)=some (.exit 0,q97_x2_1 (nxF h0) s0 [.str name,a,y',.int .i64 0,.nils] h') ∧
        rows'.length=n∧mem'≤most∧(rows'.map memC).sum=mem'∧(∀c∈rows',∃k,k≤3∧ThrOk L k c)∧VarsAt h0 x h' m'∧m'≤m+4*q∧Nb≤h'.length∧RowsOwn 9 codeC Nb h' y' rows'∧KpX (h0.length+1) Nb h h':=by
  intro q
  induction q with
  | zero =>
    intro i mem m rows y h hi hr hmem _ hs hc hv hN hy
    refine ⟨mem,m,rows,y,h,Lim_exit ?_,by omega,hmem,hs,hc,hv,by omega,hN,hy,KpX.refl _ _ _⟩
    rw [q97_r2,if_neg (by simp;omega)]
  | succ q ih =>
    intro i mem m rows y h hi hr hmem hm hs hc hv hN hy
    obtain ⟨r,r0,r1,hF,hv2⟩:=next_R hE hx hlow hl hv (by omega)
    have hset:KpX (h0.length+1) Nb h (setBlk h (h0.length+1) (some ⟨true,0,[.int .i64 ((m+1:Nat):Int)]⟩)):=KpX.set _ _ _ _
    have hy2:=hy.keepX (show h0.length+1<Nb by omega) (KpX.set (h0.length+1) h.length h (some ⟨true,0,[.int .i64 ((m+1:Nat):Int)]⟩))
    have hN2:Nb≤(setBlk h (h0.length+1) (some ⟨true,0,[.int .i64 ((m+1:Nat):Int)]⟩)).length:=by rw [setBlk_len];exact hN
    generalize setBlk h (h0.length+1) (some ⟨true,0,[.int .i64 ((m+1:Nat):Int)]⟩)=H at *
    have q3:=rem_rng (E:=E) r0 (show (0:Int)<3 by omega)
    obtain ⟨k,hk⟩:∃k:Nat,E.glob.rem .i64 r 3+1=(k:Int):=⟨(E.glob.rem .i64 r 3+1).toNat,by omega⟩
    obtain ⟨mem',m',kk',c',xs',h',f1,f2,f3,f4,f5,f6,f7,f8,f9,f10⟩:=small_thr hE hx hlow hl hmost (n:=n) (i:=(i:Int)) hL s0 [.str name,a,y,.int .i64 0,.nils] H.length (Nat.le_trans hNb hN2) k mem (m+1) 0 [] .nils H (by omega) (by omega) hmem (by omega) hv2 (Nat.le_refl _) (Own.nil _ _ _) ThrOk.nil
    have hy3:=hy2.keepX (show h0.length+1<Nb by omega) f10
    obtain ⟨y2,h2,hap,hyp,hkp,_⟩:=hy3.push (f9.monoN hN2) (fun j h1 h2=>by have:=(f9.blkLt h1).2;have:=(hy2.blkLt h2).1;omega) (Nat.le_trans hN2 f8) (by omega)
    have hm0:memC c'+mem=mem':=by have:memC ([]:List Ins)=0:=rfl;omega
    have hround:q97_F2 (R E) Lim E.glob (q97_s2 (most:Int) (nxF h0) (n:Int) L (mem:Int) (i:Int) s0 [.str name,a,y,.int .i64 0,.nils] h)=some (.normal,q97_s2 (most:Int) (nxF h0) (n:Int) L (mem':Int) ((i+1:Nat):Int) s0 [.str name,a,y2,.int .i64 0,.nils] h2):=by
      have hw:E.glob.wrap .i64 (E.glob.rem .i64 r 3+1)=(k:Int):=by rw [g_wrap_i64 (by omega) (by omega),hk]
      rw [q97_r2,if_pos (by simp;omega),hF,asI_ok,hw,f1,bind_ok,q97_e1_3,show ∀{α:Type} (f:Cell→Option α),atK [.str name,a,y,.int .i64 0,.nils] 2 f=f y from fun _=>rfl,if_pos (show (splice [Cell.nils] 0 ([xs']:List Cell)).length=1*1 from rfl),show splice [Cell.nils] 0 ([xs']:List Cell)=[xs'] from rfl,hap,if_pos (show 2<([.str name,a,y,.int .i64 0,.nils]:List Cell).length by simp),g_succ (by omega)]
      rfl
    obtain ⟨mem3,m3,rows3,y3,h3,g1,g2,g3,g4,g5,g6,g7,g8,g9,g10⟩:=ih (i+1) mem' m' (rows++[c']) y2 h2 (by omega) (by rw [List.length_append,List.length_singleton];omega) f5 (by omega) (by rw [sum_app_one];omega)
      (fun c hcm=>by
        rcases List.mem_append.1 hcm with hcm | hcm
        · exact hc c hcm
        · simp at hcm;subst hcm;exact ⟨kk',by omega,f2⟩) (f6.keep (hkp.mono hNb)) (Nat.le_trans (Nat.le_trans hN2 f8) hkp.1) hyp
    exact ⟨mem3,m3,rows3,y3,h3,Lim_next hround g1,g2,g3,g4,g5,g6,by omega,g8,g9,((hset.trans (f10.mono hN2)).trans hkp.x).trans g10⟩
end
end Jq

namespace Jq
open Go
theorem plc_get {c:Int}:∀(l:List Int) (i:Nat),c∈l→∃j:Nat,plc l c i=((i+j:Nat):Int)∧l[j]? = some c
  | [],_,h=>by cases h
  | d :: t,i,h=>by
    rw [plc]
    by_cases e:d=c
    · exact ⟨0,by rw [if_pos e];rfl,by rw [e];rfl⟩
    · rw [if_neg e]
      have hm:c∈t:=by
        rcases List.mem_cons.1 h with h | h
        · exact absurd h.symm e
        · exact h
      obtain ⟨j,h1,h2⟩:=plc_get t (i+1) hm
      exact ⟨j+1,by rw [h1];congr 1;omega,by simpa using h2⟩
section
variable {E:Env}
theorem Own.setG {n:Nat} {h:AHeap} {x:Cell} {esz len:Nat} {cs:List Cell} (o:Own n h x esz cs len) {i j:Nat} (hi:i<len) (hj:j<esz) (c:Cell) :
    ∃k,n≤k∧k<h.length∧isBlk x k∧(∀{α:Type} (f:AHeap→Option α),(idxSK esz x (i:Int) fun k N o=>rdH h k N fun l=>if o+j<l.length then putH h k (l.set (o+j) c) f else none)=f (setBlk h k (some ⟨true,esz,cs.set (i*esz+j) c⟩))) ∧
      Own n (setBlk h k (some ⟨true,esz,cs.set (i*esz+j) c⟩)) x esz (cs.set (i*esz+j) c) len:=by
  rcases o.2 with ⟨_,h0⟩ | ⟨k,rfl,hk,hb⟩
  · omega
  · have hlt:=idx_lt hi hj
    refine ⟨k,hk,blk_lt' hb,rfl,fun f=>?_,by rw [List.length_set];exact o.1,.inr ⟨k,by rw [List.length_set],hk,blk_set_self (blk_lt' hb) _⟩⟩
    unfold idxSK
    simp only
    rw [if_pos ⟨by omega,by omega⟩,rdH_ok hb rfl]
    dsimp only
    rw [Int.toNat_natCast,Nat.zero_add,if_pos (by rw [o.1];exact hlt),putH_ok hb rfl]
theorem codeC_set:∀(l:List Ins) (i:Nat) (q:Ins) (v:Int),l[i]? = some q→(codeC l).set (i*9+2) (.int .i64 v)=codeC (l.set i { q with loc:=v })
  | [],_,_,_,h=>by simp at h
  | a :: l,0,q,v,h=>by
    simp at h;subst h
    have e:codeC (a :: l)=a.cs++codeC l:=rfl
    rw [e,List.set_append_left _ _ (by rw [Ins.len];omega)]
    rfl
  | a :: l,i+1,q,v,h=>by
    have ih:=codeC_set l i q v (by simpa using h)
    have e:codeC (a :: l)=a.cs++codeC l:=rfl
    rw [e,List.set_append_right _ _ (by rw [Ins.len];omega),show (i+1)*9+2 - a.cs.length=i*9+2 by rw [Ins.len];omega,ih]
    rfl
theorem Clone_R (hE:q119_In E) {x:Cell} {l:List Ins} {h:AHeap} (hx:SlAt h x 9 (codeC l) l.length) (hlow:Low h.length x) (hl:l.length≤1000) :
    ∃x' h',R E 119 [.c x] h=some ([.c x'],h')∧Own h.length h' x' 9 (codeC l) l.length∧Kp h.length h h':=by
  have hm:maxBytes≥1000*72:=by unfold maxBytes;omega
  have hlen:=codeC_len l
  rcases hx.2 with ⟨rfl,h0⟩ | ⟨k,N,off,rfl,hb⟩
  · refine ⟨.nils,h,R_intro hE.fn ?_,⟨hlen,.inl ⟨rfl,h0⟩⟩,Kp.refl _ _⟩
    rw [q119_eq];rfl
  · have hk1:Kp h.length h (h++[some ⟨true,9,[]⟩]):=Kp.app _ (Nat.le_refl _)
    have hx2:=hx.keep hlow hk1
    have hc:slCells (h++[some ⟨true,9,[]⟩]) 9 (.sl k N off l.length)=some (codeC l):=by
      unfold slCells
      dsimp only
      by_cases h0:l.length=0
      · have:l=[]:=List.length_eq_zero_iff.1 h0
        rw [if_pos h0,this];rfl
      · rw [if_neg h0]
        rcases hx2.2 with ⟨e,_⟩ | ⟨k',N',off',e,hb⟩
        · cases e
        · cases e
          rcases hb with hb | ⟨b,hb,hN,hle,hat⟩
          · exact absurd hb h0
          · rw [hb]
            simp only
            rw [if_pos ⟨hN,hle⟩]
            congr 1
            refine List.ext_getElem? fun j=>?_
            rw [List.getElem?_take,List.getElem?_drop]
            by_cases hj:j<l.length*9
            · rw [if_pos hj,hat j hj]
            · rw [if_neg hj,List.getElem?_eq_none (by omega)]
    have hap:∀{α:Type} (f:Cell→AHeap→Option α),appK 9 72 (.sl h.length 0 0 0) (codeC l) (h++[some ⟨true,9,[]⟩]) f=f (.sl h.length (codeC l).length 0 l.length) (h++[some ⟨true,9,codeC l⟩]):=by
      intro α f
      unfold appK
      simp only
      rw [blk_new,Option.bind_some]
      dsimp only
      have hd:(codeC l).length / 9=l.length:=by rw [hlen];omega
      rw [if_pos ⟨rfl,rfl,rfl,by simp,by rw [hd];simp;omega,by rw [hd];simp;omega⟩,hd]
      by_cases h0:l.length=0
      · have:l=[]:=List.length_eq_zero_iff.1 h0
        subst this
        rw [if_pos (by simp [codeC]),setBlk_last];rfl
      · rw [if_neg (by omega),if_pos trivial,setBlk_last]
        simp
    refine ⟨.sl h.length (codeC l).length 0 l.length,h++[some ⟨true,9,codeC l⟩],R_intro hE.fn ?_,⟨hlen,.inr ⟨h.length,rfl,Nat.le_refl _,blk_new _ _⟩⟩,Kp.app _ (Nat.le_refl _)⟩
    rw [q119_eq,show ∀{α:Type} (f:Bool→Option α),eqNilK false (.sl k N off l.length) .nils f=f false from fun _=>rfl,if_neg (by simp),if_pos (show ([]:List Cell).length=0*9 from rfl),hc,bind_ok,show ([]:List Cell).length=0 from rfl,hap]
end
end Jq

namespace Jq
open Go
def mixL {α:Type} (f:α→α) (l:List α) (i:Nat):List α:=(l.take i).map f++l.drop i
theorem KpX.kp {a n m:Nat} {h h':AHeap} (x:KpX a n h h') (h1:m≤n) (h2:m≤a):Kp m h h':=⟨x.1,fun k hk=>x.2 k (by omega) (by omega)⟩
section
variable {E:Env}
theorem rd3 {α:Type} {h:AHeap} {k:Nat} {a b c:Cell} (hk:blk? h k=some ⟨true,0,[a,b,c]⟩) {F:List Cell→Option α}:rdH h k 3 F=F [a,b,c]:=rdH_ok hk rfl
theorem Own.setG1 {n:Nat} {h:AHeap} {x:Cell} {len:Nat} {cs:List Cell} (o:Own n h x 1 cs len) {i:Nat} (hi:i<len) (c:Cell) :
    ∃k,n≤k∧k<h.length∧isBlk x k∧(∀{α:Type} (f:AHeap→Option α),(idxSK 1 x (i:Int) fun k N o=>rdH h k N fun l=>if o<l.length then putH h k (l.set o c) f else none)=f (setBlk h k (some ⟨true,1,cs.set i c⟩))) ∧
      Own n (setBlk h k (some ⟨true,1,cs.set i c⟩)) x 1 (cs.set i c) len:=by
  obtain ⟨k,h1,h2,h3,h4,h5⟩:=o.setG (j:=0) hi (by omega) c
  rw [show i*1+0=i by omega] at h4 h5
  exact ⟨k,h1,h2,h3,h4,h5⟩
end
end Jq

namespace Jq
open Go
variable (C:CallF) (L:LoopF) (G:Glo)
set_option maxRecDepth 100000 in
theorem q76_eq (x0:Cell) (a1:Int) (h0:AHeap):q76.body C L G [(.c x0),(.c (.int .i64 a1))] h0=c1 (C 97 [(.c x0),(.c (.int .i64 a1))] h0) fun y_2 h_1=>asA y_2 fun l_3=>c1 (C 101 [(.agg l_3)] h_1) fun y_5 h_4=>asA y_5 fun l_6=>if 0=0∧[Cell.nils,Cell.nils,Cell.nils].length=3∧l_6.length=3 then if 0=0∧l_6.length=3 then some ([(.agg l_6)],h_4) else none else none:=by kernel_rfl
end Jq

namespace Jq
open Go
section
variable {E:Env}
def tName:ByteArray:=ByteArray.mk #[116]
theorem small_end (hE:q115_In E) {h0 h hb:AHeap} {x:Cell} {l:List Int} (hx:SlAt h0 x 1 (intC .i64 l) l.length) (hlow:Low h0.length x) (hl:l.length<9223372036854775808) {m:Nat} (hv:VarsAt h0 x h m) (hm:m<1000)
    {most:Nat} {rows:List (List Ins)} {a y:Cell} {inits:List (Int × Int)} {Nb:Nat} (hNb:h0.length+2≤Nb) (hN:Nb≤h.length) (hy:RowsOwn 9 codeC Nb h y rows) (ha:SlAt h a 2 (pairC inits) inits.length∧Low h.length a∧∀k,isBlk a k→k≠h0.length+1)
    (hi:inits=[]∨∃v:Int,0≤v∧v<3∧inits=[(120,v)]) (hn:2≤rows.length∧rows.length≤3) (hmem:(rows.map memC).sum≤most) (hc:∃L:Int,(L=2∨L=3)∧∀c∈rows,∃k,k≤3∧ThrOk L k c) {s0:List Cell} (hs0:s0.length=5) :
    ∃(cs:List Cell) (h':AHeap) (T:PTest),(q97_k4 (R E) Lim E.glob hb) (.exit 0) (q97_x2_1 (nxF h0) s0 [.str tName,a,y,.int .i64 0,.nils] h)=some ([.agg cs],h')∧TestAt h' cs T∧GoodT most T∧Kp h0.length h0 h':=by
  obtain ⟨r,r0,r1,hF,hv2⟩:=next_R hE hx hlow hl hv (by omega)
  have hset:=KpX.set (h0.length+1) h.length h (some ⟨true,0,[.int .i64 ((m+1:Nat):Int)]⟩)
  have hy2:=hy.keepX (show h0.length+1<Nb by omega) hset
  have ha2:SlAt (setBlk h (h0.length+1) (some ⟨true,0,[.int .i64 ((m+1:Nat):Int)]⟩)) a 2 (pairC inits) inits.length:=by
    refine ⟨ha.1.1,ha.1.2.imp id ?_⟩
    rintro ⟨k,N,off,e,hh | ⟨b,hb,hN,hle,hat⟩⟩
    · exact ⟨k,N,off,e,.inl hh⟩
    · have hk:=ha.2.2 k (by rw [e];rfl)
      exact ⟨k,N,off,e,.inr ⟨b,by rw [blk_set_ne (fun q=>hk q.symm)];exact hb,hN,hle,hat⟩⟩
  have hal2:Low (setBlk h (h0.length+1) (some ⟨true,0,[.int .i64 ((m+1:Nat):Int)]⟩)).length a:=by rw [setBlk_len];exact ha.2.1
  rw [q97_e2_1,hF,asI_ok]
  generalize setBlk h (h0.length+1) (some ⟨true,0,[.int .i64 ((m+1:Nat):Int)]⟩)=H at *
  have q5:=rem_rng (E:=E) (shr_nn (E:=E) (k:=5) r0) (show (0:Int)<3 by omega)
  by_cases h3:(E.glob.rem .i64 r 3==0)=true
  · rw [if_pos h3]
    dsimp only
    generalize E.glob.band .i64 (E.glob.shr .i64 r 3) 1=b3
    generalize E.glob.band .i64 (E.glob.shr .i64 r 4) 1=b4
    generalize E.glob.rem .i64 (E.glob.shr .i64 r 5) 3=v5
    generalize E.glob.band .i64 (E.glob.shr .i64 r 7) 1=b7
    generalize E.glob.wrap .i64 (E.glob.rem .i64 (E.glob.quo .i64 r 3) 2+1)=ck
    have e1:splice (splice (splice [Cell.int .i64 0,Cell.int .i64 0,Cell.int .i64 0,Cell.int .i64 0] 0 ([(.int .i64 0)]:List Cell)) 1 ([(.int .i64 b3)]:List Cell)) 3 ([(.int .i64 b4)]:List Cell)=(Atm.mk 0 b3 0 b4).cs:=rfl
    have e2:splice (splice (splice [Cell.int .i64 0,Cell.int .i64 0,Cell.int .i64 0,Cell.int .i64 0] 0 ([(.int .i64 (-1))]:List Cell)) 2 ([(.int .i64 120)]:List Cell)) 3 ([(.int .i64 v5)]:List Cell)=(Atm.mk (-1) 0 120 v5).cs:=rfl
    have e3:splice (splice (splice [Cell.int .i64 0,Cell.int .i64 0,Cell.int .i64 0,Cell.int .i64 0] 0 ([(.int .i64 1)]:List Cell)) 1 ([(.int .i64 0)]:List Cell)) 3 ([(.int .i64 b7)]:List Cell)=(Atm.mk 1 0 0 b7).cs:=rfl
    have e4:∀a:Atm,splice [Cell.int .i64 0,Cell.int .i64 0,Cell.int .i64 0,Cell.int .i64 0] 0 a.cs=atmC [a]:=fun _=>rfl
    have e5:∀a b:Atm,splice (splice (List.replicate 8 (Cell.int .i64 0)) 0 a.cs) 4 b.cs=atmC [a,b]:=fun _ _=>rfl
    have e6:∀a b:Cell,splice (splice [Cell.nils,Cell.nils] 0 ([a]:List Cell)) 1 ([b]:List Cell)=[a,b]:=fun _ _=>rfl
    have e7:∀a b:Cell,splice (splice [Cell.int .i64 0,Cell.nils] 0 ([a]:List Cell)) 1 ([b]:List Cell)=[a,b]:=fun _ _=>rfl
    have l1:∀a:Atm,(atmC [a]).length=4:=fun _=>rfl
    have l2:∀a b:Atm,(atmC [a,b]).length=8:=fun _ _=>rfl
    simp only [e1,e2,e3,e4,e5,e6,e7,l1,l2]
    rw [if_pos ⟨rfl,by simp⟩,if_pos trivial,if_pos ⟨rfl,by simp⟩,if_pos ⟨rfl,by simp [splice,Atm.cs]⟩,if_pos trivial,if_pos (by simp),if_pos (by simp),if_pos (by simp [splice]),if_pos (by simp [splice,hs0]),if_pos (by simp [splice])]
    have k1:Kp H.length H (H++[some ⟨true,4,atmC [⟨0,b3,0,b4⟩]⟩]):=Kp.app _ (Nat.le_refl _)
    have n1:(H++[some (Blk.mk true 4 (atmC [⟨0,b3,0,b4⟩]))]).length=H.length+1:=by simp
    have c1':blk? (H++[some ⟨true,4,atmC [⟨0,b3,0,b4⟩]⟩]) H.length=some ⟨true,4,atmC [⟨0,b3,0,b4⟩]⟩:=blk_new _ _
    generalize H++[some (Blk.mk true 4 (atmC [⟨0,b3,0,b4⟩]))]=H1 at *
    have k2:Kp H.length H (H1++[some ⟨true,4,atmC [⟨-1,0,120,v5⟩,⟨1,0,0,b7⟩]⟩]):=k1.trans (Kp.app _ (by omega))
    have n2:(H1++[some (Blk.mk true 4 (atmC [⟨-1,0,120,v5⟩,⟨1,0,0,b7⟩]))]).length=H1.length+1:=by simp
    have c2':blk? (H1++[some ⟨true,4,atmC [⟨-1,0,120,v5⟩,⟨1,0,0,b7⟩]⟩]) H1.length=some ⟨true,4,atmC [⟨-1,0,120,v5⟩,⟨1,0,0,b7⟩]⟩:=blk_new _ _
    have c1'':blk? (H1++[some ⟨true,4,atmC [⟨-1,0,120,v5⟩,⟨1,0,0,b7⟩]⟩]) H.length=some ⟨true,4,atmC [⟨0,b3,0,b4⟩]⟩:=blk_old c1' _
    generalize H1++[some (Blk.mk true 4 (atmC [⟨-1,0,120,v5⟩,⟨1,0,0,b7⟩]))]=H2 at *
    have k3:Kp H.length H (H2++[some ⟨true,1,[Cell.sl H.length 4 0 1,Cell.sl H1.length 8 0 2]⟩]):=k2.trans (Kp.app _ (by omega))
    have c3':blk? (H2++[some ⟨true,1,[Cell.sl H.length 4 0 1,Cell.sl H1.length 8 0 2]⟩]) H2.length=some ⟨true,1,[Cell.sl H.length 4 0 1,Cell.sl H1.length 8 0 2]⟩:=blk_new _ _
    have c2'':blk? (H2++[some ⟨true,1,[Cell.sl H.length 4 0 1,Cell.sl H1.length 8 0 2]⟩]) H1.length=some ⟨true,4,atmC [⟨-1,0,120,v5⟩,⟨1,0,0,b7⟩]⟩:=blk_old c2' _
    have c1''':blk? (H2++[some ⟨true,1,[Cell.sl H.length 4 0 1,Cell.sl H1.length 8 0 2]⟩]) H.length=some ⟨true,4,atmC [⟨0,b3,0,b4⟩]⟩:=blk_old c1'' _
    have n3:(H2++[some (Blk.mk true 1 [Cell.sl H.length 4 0 1,Cell.sl H1.length 8 0 2])]).length=H2.length+1:=by simp
    refine ⟨_,_,⟨tName,inits,rows,ck,[[⟨0,b3,0,b4⟩],[⟨-1,0,120,v5⟩,⟨1,0,0,b7⟩]]⟩,rfl,?_,⟨(by show tName.size≤20;decide),hn,hc,hmem,hi,by simp,?_⟩,hv2.2.2.2.trans (k3.mono (by have:=hv2.2.2.1;omega))⟩
    · refine ⟨a,y,.sl H2.length 2 0 2,by simp [splice],⟨ha2.keep hal2 k3,Low_mono k3.1 hal2⟩,hy2.of.keep k3,⟨[Cell.sl H.length 4 0 1,Cell.sl H1.length 8 0 2],⟨rfl,.inr ⟨_,_,0,rfl,.inr ⟨_,c3',rfl,by simp,fun j _=>by simp⟩⟩⟩,.inr (by omega),fun t r ht=>?_⟩⟩
      match t,ht with
      | 0,ht =>
        cases ht
        exact ⟨_,rfl,⟨rfl,.inr ⟨_,_,0,rfl,.inr ⟨_,c1''',rfl,by simp,fun j _=>by simp⟩⟩⟩,.inr (by omega)⟩
      | 1,ht =>
        cases ht
        exact ⟨_,rfl,⟨rfl,.inr ⟨_,_,0,rfl,.inr ⟨_,c2'',rfl,by simp,fun j _=>by simp⟩⟩⟩,.inr (by omega)⟩
      | t+2,ht=>simp at ht
    · intro row hr
      simp only [List.mem_cons,List.not_mem_nil,or_false] at hr
      rcases hr with rfl | rfl
      · exact ⟨by simp,fun a ha=>by simp at ha;subst ha;exact .inl rfl⟩
      · refine ⟨by simp,fun a ha=>?_⟩
        simp at ha
        rcases ha with rfl | rfl
        · exact .inr rfl
        · exact .inl rfl
  · rw [if_neg h3,if_pos ⟨rfl,rfl⟩,if_pos ⟨rfl,hs0,rfl⟩,if_pos ⟨rfl,rfl⟩]
    refine ⟨_,_,⟨tName,inits,rows,0,[]⟩,rfl,⟨a,y,.nils,rfl,⟨ha2,hal2⟩,hy2.of,⟨[],⟨rfl,.inl ⟨rfl,rfl⟩⟩,trivial,fun t r ht=>by simp at ht⟩⟩,⟨(by show tName.size≤20;decide),hn,hc,hmem,hi,by simp,by simp⟩,hv2.2.2.2⟩
theorem Small_R (hE:q97_In E) {h:AHeap} {x:Cell} {l:List Int} (hx:SlAt h x 1 (intC .i64 l) l.length) (hlow:Low h.length x) (hl:l.length<9223372036854775808) {most:Nat} (hmost:most≤900) :
    ∃(cs:List Cell) (h':AHeap) (T:PTest),R E 97 [.c x,.c (.int .i64 (most:Int))] h=some ([.agg cs],h')∧TestAt h' cs T∧GoodT most T∧Kp h.length h h':=by
  suffices hs:∃(cs:List Cell) (h':AHeap) (T:PTest),q97.body (R E) Lim E.glob [.c x,.c (.int .i64 (most:Int))] h=some ([.agg cs],h')∧TestAt h' cs T∧GoodT most T∧Kp h.length h h' by
    obtain ⟨cs,h',T,h1,h2⟩:=hs;exact ⟨cs,h',T,R_intro hE.fn h1,h2⟩
  have hc:AV.cells (.c x)=[x]:=rfl
  have hl1:([x]:List Cell).length=1:=rfl
  have hl0:([Cell.int .i64 0]:List Cell).length=1:=rfl
  have hln:(h++[some (Blk.mk true 0 [x])]).length=h.length+1:=by simp
  have hnm:splice [Cell.str (ByteArray.mk #[]),Cell.nils,Cell.nils,Cell.int .i64 0,Cell.nils] 0 ([(.str (ByteArray.mk #[116]))]:List Cell)=[.str tName,.nils,.nils,.int .i64 0,.nils]:=rfl
  rw [q97_eq,hc,hl1,hl0,hnm,if_pos ⟨rfl,rfl,rfl⟩,rd1' (blk_new _ _),if_pos (by simp),putH_ok (blk_new _ _) rfl,setBlk_last]
  dsimp only [List.set]
  rw [hln]
  have hv0:VarsAt h x (h++[some ⟨true,0,[x]⟩]++[some ⟨true,0,[Cell.int .i64 0]⟩]) 0:=by
    refine ⟨blk_old (blk_new _ _) _,?_,by simp,?_⟩
    · have:=blk_new (h++[some (Blk.mk true 0 [x])]) ⟨true,0,[Cell.int .i64 0]⟩
      rw [hln] at this;exact this
    · rw [List.append_assoc];exact Kp.app _ (Nat.le_refl _)
  have hlen0:(h++[some (Blk.mk true 0 [x])]++[some (Blk.mk true 0 [Cell.int .i64 0])]).length=h.length+2:=by simp
  generalize h++[some (Blk.mk true 0 [x])]++[some (Blk.mk true 0 [Cell.int .i64 0])]=H0 at *
  rw [show (Cell.fn 115 [(h.length+1,1,0),(h.length,1,0)])=nxF h from rfl]
  obtain ⟨a0,a0p,_,hF1,hv1⟩:=next_R hE.c115 hx hlow hl hv0 (by omega)
  rw [hF1,asI_ok]
  have hlen1:(setBlk H0 (h.length+1) (some ⟨true,0,[.int .i64 ((0+1:Nat):Int)]⟩)).length=h.length+2:=by rw [setBlk_len,hlen0]
  generalize setBlk H0 (h.length+1) (some ⟨true,0,[.int .i64 ((0+1:Nat):Int)]⟩)=H1 at *
  obtain ⟨a1,a1p,_,hF2,hv2⟩:=next_R hE.c115 hx hlow hl hv1 (by omega)
  rw [hF2,asI_ok]
  have hlen2:(setBlk H1 (h.length+1) (some ⟨true,0,[.int .i64 ((0+1+1:Nat):Int)]⟩)).length=h.length+2:=by rw [setBlk_len,hlen1]
  generalize setBlk H1 (h.length+1) (some ⟨true,0,[.int .i64 ((0+1+1:Nat):Int)]⟩)=H2 at *
  obtain ⟨a2,a2p,_,hF3,hv3⟩:=next_R hE.c115 hx hlow hl hv2 (by omega)
  rw [hF3,asI_ok]
  have hlen3:(setBlk H2 (h.length+1) (some ⟨true,0,[.int .i64 ((0+1+1+1:Nat):Int)]⟩)).length=h.length+2:=by rw [setBlk_len,hlen2]
  generalize setBlk H2 (h.length+1) (some ⟨true,0,[.int .i64 ((0+1+1+1:Nat):Int)]⟩)=H3 at *
  have n2:=rem_rng (E:=E) a0p (show (0:Int)<2 by omega)
  have n3:=rem_rng (E:=E) a1p (show (0:Int)<2 by omega)
  have w2:E.glob.wrap .i64 (E.glob.rem .i64 a0 2+2)=E.glob.rem .i64 a0 2+2:=g_wrap_i64 (by omega) (by omega)
  have w3:E.glob.wrap .i64 (E.glob.rem .i64 a1 2+2)=E.glob.rem .i64 a1 2+2:=g_wrap_i64 (by omega) (by omega)
  rw [w2,w3]
  obtain ⟨n,hn⟩:∃n:Nat,E.glob.rem .i64 a0 2+2=(n:Int):=⟨(E.glob.rem .i64 a0 2+2).toNat,by omega⟩
  generalize hLL:E.glob.rem .i64 a1 2+2=L at *
  rw [hn]
  have rest:∀(m:Nat) (H:AHeap) (a:Cell) (inits:List (Int × Int)),m≤4→VarsAt h x H m→SlAt H a 2 (pairC inits) inits.length→Low H.length a→(∀k,isBlk a k→k≠h.length+1)→(inits=[]∨∃v:Int,0≤v∧v<3∧inits=[(120,v)]) →
      ∃(cs:List Cell) (h':AHeap) (T:PTest),(q97_k2 (R E) Lim E.glob h) .normal (q97_c1 (most:Int) (nxF h) (n:Int) L [Cell.str (ByteArray.mk #[]),Cell.nils,Cell.nils,Cell.int .i64 0,Cell.nils] [.str tName,a,.nils,.int .i64 0,.nils] H)=some ([.agg cs],h')∧TestAt h' cs T∧GoodT most T∧Kp h.length h h':=by
    intro m H a inits hm hv ha hal had hi
    obtain ⟨mem',m',rows',y',H',f1,f2,f3,f4,f5,f6,f7,f8,f9,f10⟩:=small_thrs hE.c115 hx hlow hl hmost (n:=n) (by omega) (L:=L) (by omega) [Cell.str (ByteArray.mk #[]),Cell.nils,Cell.nils,Cell.int .i64 0,Cell.nils] a (name:=tName) (Nb:=H.length) hv.2.2.1 n 0 0 m [] .nils H (by omega) rfl (by omega) (by omega) rfl (by simp) hv (Nat.le_refl _) (RowsOwn.nil _)
    have ha':SlAt H' a 2 (pairC inits) inits.length:=by
      refine ⟨ha.1,ha.2.imp id ?_⟩
      rintro ⟨k,N,off,e,hh | ⟨b,hb,hN,hle,hat⟩⟩
      · exact ⟨k,N,off,e,.inl hh⟩
      · exact ⟨k,N,off,e,.inr ⟨b,by rw [f10.blk (blk_lt' hb) (had k (by rw [e];rfl))];exact hb,hN,hle,hat⟩⟩
    obtain ⟨cs,h',T,g1,g2,g3,g4⟩:=small_end hE.c115 (hb:=h) hx hlow hl f6 (by omega) (most:=most) (rows:=rows') (a:=a) (y:=y') (inits:=inits) (Nb:=H.length) hv.2.2.1 f8 f9 ⟨ha',Low_mono f10.1 hal,had⟩ hi (by omega) (by omega) ⟨L,by omega,f5⟩ (s0:=[Cell.str (ByteArray.mk #[]),Cell.nils,Cell.nils,Cell.int .i64 0,Cell.nils]) rfl
    refine ⟨cs,h',T,?_,g2,g3,g4⟩
    rw [q97_ec1_n]
    have e0:q97_s2 (most:Int) (nxF h) (n:Int) L 0 0 [Cell.str (ByteArray.mk #[]),Cell.nils,Cell.nils,Cell.int .i64 0,Cell.nils] [.str tName,a,.nils,.int .i64 0,.nils] H=q97_s2 (most:Int) (nxF h) (n:Int) L ((0:Nat):Int) ((0:Nat):Int) [Cell.str (ByteArray.mk #[]),Cell.nils,Cell.nils,Cell.int .i64 0,Cell.nils] [.str tName,a,.nils,.int .i64 0,.nils] H:=rfl
    rw [e0,f1,bind_ok,g1]
  by_cases h4:(E.glob.rem .i64 a2 4==0)=true
  · obtain ⟨a3,a3p,_,hF4,hv4⟩:=next_R hE.c115 hx hlow hl hv3 (by omega)
    have q3:=rem_rng (E:=E) a3p (show (0:Int)<3 by omega)
    rw [if_pos h4,show ∀{α:Type} (f:Cell→Option α),atK [Cell.str tName,.nils,.nils,.int .i64 0,.nils] 1 f=f .nils from fun _=>rfl,hF4,asI_ok]
    have hlen4:(setBlk H3 (h.length+1) (some ⟨true,0,[.int .i64 ((0+1+1+1+1:Nat):Int)]⟩)).length=h.length+2:=by rw [setBlk_len,hlen3]
    generalize setBlk H3 (h.length+1) (some ⟨true,0,[.int .i64 ((0+1+1+1+1:Nat):Int)]⟩)=H4 at *
    generalize E.glob.rem .i64 a3 3=v at *
    have e1:splice (splice [Cell.int .i64 0,Cell.int .i64 0] 0 ([(.int .i64 120)]:List Cell)) 1 ([(.int .i64 v)]:List Cell)=pairC [(120,v)]:=rfl
    have e2:splice [Cell.int .i64 0,Cell.int .i64 0] 0 (pairC [(120,v)])=pairC [(120,v)]:=rfl
    have hm:maxBytes≥100:=by unfold maxBytes;omega
    have hap:∀{α:Type} (f:Cell→AHeap→Option α),appK 2 16 .nils (pairC [(120,v)]) H4 f=f (.sl H4.length 2 0 1) (H4++[some ⟨true,2,pairC [(120,v)]⟩]):=by
      intro α f
      unfold appK
      simp only
      rw [if_neg (by simp [pairC]),if_pos ⟨by simp [pairC];omega,by simp [pairC];omega⟩]
      simp [pairC]
    rw [e1,if_pos ⟨rfl,by simp⟩,e2,if_pos (show (pairC [(120,v)]).length=1*2 from rfl),hap,if_pos (by simp),bind_ok]
    have hv5:VarsAt h x (H4++[some ⟨true,2,pairC [(120,v)]⟩]) (0+1+1+1+1):=hv4.keep (Kp.app _ (by omega))
    exact rest (0+1+1+1+1) _ (.sl H4.length 2 0 1) [(120,v)] (by omega) hv5 ⟨rfl,.inr ⟨_,_,0,rfl,.inr ⟨_,blk_new _ _,rfl,by simp,fun j _=>by simp⟩⟩⟩ (.inr (by simp)) (fun k hk=>by have:H4.length=k:=hk;omega) (.inr ⟨v,q3.1,q3.2,rfl⟩)
  · rw [if_neg h4,bind_ok]
    exact rest (0+1+1+1) _ .nils [] (by omega) hv3 ⟨rfl,.inl ⟨rfl,rfl⟩⟩ trivial (fun k hk=>by cases hk) (.inl rfl)
end
end Jq

namespace Jq
open Go
section
variable {E:Env}
end
end Jq

namespace Jq
open Go
section
variable {E:Env}
theorem SlAt.whole {h:AHeap} {k len esz:Nat} {cs:List Cell} {o:Bool} {e:Nat} (hb:blk? h k=some ⟨o,e,cs⟩) (hl:cs.length=len*esz):SlAt h (.sl k cs.length 0 len) esz cs len :=
  ⟨hl,.inr ⟨k,_,0,rfl,.inr ⟨_,hb,rfl,by omega,fun j _=>by simp⟩⟩⟩
end
end Jq

namespace Jq
open Go
def SkipOk (code:List Ins):Prop:=∀(j:Nat) (i:Ins),code[j]? = some i→i.kind=6→0≤i.n∧(j:Int)+1+i.n≤code.length
structure GoodP (most:Nat) (P:PProg):Prop where
  small:P.small
  good:P.good
  n:2≤P.thr.length∧P.thr.length≤3
  init:P.init.length≤3
  locs:P.locs.length=P.init.length
  code:∀c∈P.thr,c.length≤6
  skip:∀c∈P.thr,SkipOk c
theorem SmI.good {L:Int} {i:Ins} (s:SmI L i) {n:Nat} (hn:1≤n):GoodI n i:=by
  rcases s with ⟨h1,h2,_⟩ | ⟨h1,h2,_⟩ | rfl | ⟨h1,h2,_⟩ | ⟨h1,h2,_,_,h3,_⟩ | ⟨h1,h2,_,_,h3,_,h4⟩
  all_goals refine ⟨?_,?_,?_,?_⟩<;>(try simp only)<;>omega
theorem SmI.skip {L:Int} {i:Ins} (s:SmI L i) (h:i.kind=6):i.n=1:=by
  rcases s with ⟨h1,_⟩ | ⟨h1,_⟩ | rfl | ⟨h1,_⟩ | ⟨h1,_⟩ | ⟨h1,h2,_,_,h3,_,h4⟩
  · omega
  · omega
  · simp at h
  · omega
  · omega
  · exact h4
theorem ThrOk.skip {L:Int} {k:Nat} {c:List Ins} (t:ThrOk L k c):SkipOk c:=by
  induction t with
  | nil=>intro j i h;simp at h
  | @one k c q t hq h6 ih =>
    intro j i h hk
    rcases Nat.lt_or_ge j c.length with hj | hj
    · rw [List.getElem?_append_left hj] at h
      have:=ih j i h hk
      rw [List.length_append];simp;omega
    · rw [List.getElem?_append_right hj] at h
      have:=List.mem_of_getElem? h
      rw [List.mem_singleton] at this
      subst this;exact absurd hk h6
  | @two k c q r t hq h6 hr hr1 ih =>
    intro j i h hk
    rcases Nat.lt_or_ge j c.length with hj | hj
    · rw [List.getElem?_append_left hj] at h
      have:=ih j i h hk
      rw [List.length_append];simp;omega
    · rw [List.getElem?_append_right hj] at h
      have h2:=getI_lt h
      simp only [List.length_cons,List.length_nil] at h2
      rcases (show j - c.length=0∨j - c.length=1 by omega) with e | e
      · rw [e] at h
        cases h
        have:=hq.skip hk
        rw [List.length_append];simp;omega
      · rw [e] at h
        cases h
        omega
theorem compI_kn {locs:List Int} {i:Ins}:(compI locs i).kind=i.kind∧(compI locs i).n=i.n:=by
  unfold compI;split<;>exact ⟨rfl,rfl⟩
theorem SkipOk.map {locs:List Int} {c:List Ins} (s:SkipOk c):SkipOk (c.map (compI locs)):=by
  intro j i h hk
  rw [List.getElem?_map] at h
  cases hc:c[j]? with
  | none=>rw [hc] at h;cases h
  | some q =>
    rw [hc] at h
    cases h
    rw [compI_kn.1] at hk
    rw [compI_kn.2,List.length_map]
    exact s j q hc hk
theorem compI_good {locs:List Int} {i:Ins} {n:Nat} (g:GoodI n i):GoodI n (compI locs i):=by
  unfold compI
  split
  · exact ⟨g.1,g.2,g.3,g.4⟩
  · exact g
theorem SmI.loc {L:Int} {i:Ins} (s:SmI L i):i.loc=0∨(120≤i.loc∧i.loc<120+L):=by
  rcases s with ⟨h1,h2,h3,_⟩ | ⟨h1,h2,h3,_⟩ | rfl | ⟨h1,h2,h3,_⟩ | ⟨h1,h2,h3,_,_⟩ | ⟨h1,h2,h3,_,_,_⟩
  · exact .inr h3
  · exact .inr h3
  · exact .inl rfl
  · exact .inr h3
  · exact .inl h3
  · exact .inl h3
theorem locsF_few (S:Nat→Bool) (hS:∀b,97≤b→b<120→S b=false):∀n,n≤26→(locsF S n).length≤n - 23
  | 0,_=>by simp [locsF]
  | n+1,h=>by
    have ih:=locsF_few S hS n (by omega)
    rw [locsF_succ]
    split
    · rename_i hs
      have:¬97+n<120:=fun hlt=>by rw [hS _ (by omega) hlt] at hs;cases hs
      rw [List.length_append,List.length_singleton];omega
    · omega
theorem GoodT.small {most:Nat} {T:PTest} (g:GoodT most T):T.small:=by
  obtain ⟨L,hL,hc⟩:=g.code
  refine ⟨?_,by have:=g.n;omega,fun c hcm=>?_,by have:=g.any.1;omega,fun c hcm=>by have:=(g.any.2 c hcm).1;omega⟩
  · rcases g.inits with h | ⟨v,_,_,h⟩<;>rw [h]<;>simp
  · obtain ⟨k,hk,ht⟩:=hc c hcm
    have:=ht.len;omega
theorem GoodT.few {most:Nat} {T:PTest} (g:GoodT most T):(locsT T).length≤3:=by
  obtain ⟨L,hL,hc⟩:=g.code
  refine Nat.le_trans (locsF_few (thereT T) (fun b h1 h2=>?_) 26 (Nat.le_refl _)) (by omega)
  unfold thereT
  rw [Bool.or_eq_false_iff,Bool.or_eq_false_iff]
  refine ⟨⟨?_,?_⟩,?_⟩
  · rw [List.any_eq_false]
    intro p hp
    rcases g.inits with h | ⟨v,_,_,h⟩
    · rw [h] at hp;cases hp
    · rw [h] at hp
      rw [List.mem_singleton] at hp
      subst hp
      rw [beq_iff_eq];simp only;omega
  · rw [List.any_eq_false]
    intro c hcm
    rw [Bool.not_eq_true,List.any_eq_false]
    intro i hi
    obtain ⟨k,hk,ht⟩:=hc c hcm
    rw [beq_iff_eq]
    have:=(ht.all i hi).loc
    omega
  · rw [List.any_eq_false]
    intro c hcm
    rw [Bool.not_eq_true,List.any_eq_false]
    intro i hi
    rw [beq_iff_eq]
    have:=(g.any.2 c hcm).2 i hi
    omega
theorem GoodT.goodP {most:Nat} {T:PTest} (g:GoodT most T):GoodP most (compT T):=by
  obtain ⟨L,hL,hc⟩:=g.code
  have hlen:∀c∈T.thr,c.length≤6:=fun c hcm=>by
    obtain ⟨k,hk,ht⟩:=hc c hcm
    have:=ht.len;omega
  have hcode:∀c∈(compT T).thr,c.length≤6:=fun c hcm=>by
    obtain ⟨d,hd,rfl⟩:=List.mem_map.1 hcm
    rw [List.length_map];exact hlen d hd
  have hn:(compT T).thr.length=T.thr.length:=List.length_map _
  have hi:(compT T).init.length=(locsT T).length:=List.length_map _
  have hfew:=g.few
  have hgn:=g.n
  refine ⟨⟨by omega,fun c hcm=>by have:=hcode c hcm;omega⟩,⟨⟨by omega,fun c hcm=>by have:=hcode c hcm;omega⟩,fun c hcm=>?_⟩,by omega,by omega,hi.symm,hcode,fun c hcm=>by
    obtain ⟨d,hd,rfl⟩:=List.mem_map.1 hcm
    obtain ⟨k,hk,ht⟩:=hc d hd
    exact ht.skip.map⟩
  obtain ⟨d,hd,rfl⟩:=List.mem_map.1 hcm
  intro i him
  obtain ⟨j,hj,rfl⟩:=List.mem_map.1 him
  rw [List.length_map]
  obtain ⟨k,hk,ht⟩:=hc d hd
  exact compI_good ((ht.all j hj).good (List.length_pos_of_mem hj))
section
variable {E:Env}
end
def rdc (l:List Evt):Nat:=l.countP evRd
def EvOk (t:Int) (all:List Int) (j n:Nat) (e:Evt):Prop :=
  e.t=t∧e.i=(j:Int)∧1≤e.kind∧e.kind≤5∧(evWr e=false→e.w=0)∧(evRd e=true→all[n]? = some e.r)∧(evRd e=false→e.r=0)
def OutOk (t:Int) (all:List Int) (out:List Evt):Prop:=∀(j:Nat) (e:Evt),out[j]? = some e→EvOk t all j (rdc (out.take j)) e
theorem OutOk.nil (t:Int) (all:List Int):OutOk t all []:=fun j e h=>by simp at h
end Jq

namespace Jq
open Go
section
variable {E:Env}
theorem Size_R (hE:q102_In E) {cs:List Cell} {P:PProg} {h:AHeap} (p:ProgAt h cs P) (hs:P.small):R E 102 [.agg cs] h=some ([.c (.int .i64 (sumL P.thr))],h):=by
  obtain ⟨a,b,c,ts,rfl,_,_,⟨hc,_⟩,hx⟩:=p
  refine R_intro hE.fn ?_
  have a2:∀{α:Type} (f:Cell→Option α),atK [a,b,c] 2 f=f c:=fun _=>rfl
  have n2:=hs.1
  have loop:=Lim_count (F:=q102_F1 (R E) Lim E.glob) (fun i=>q102_s1 (sumL (P.thr.take i)) c P.thr.length (i:Int) h) 0 P.thr.length (by omega) (p:=(.exit 0,q102_x1_1 (sumL (P.thr.take P.thr.length)) h))
    (fun i _ hi=>by
      have hq:P.thr[i]? = some P.thr[i]:=List.getElem?_eq_getElem hi
      generalize P.thr[i]=q at hq
      obtain ⟨y,y1,y2,y3⟩:=hx i q hq
      have hsum:=sumT_le (P.thr.take i) fun c hc=>hs.2 c (List.mem_of_mem_take hc)
      rw [List.length_take] at hsum
      have hql:=hs.2 q (List.mem_of_getElem? hq)
      have hw:E.glob.wrap .i64 (sumL (P.thr.take i)+(q.length:Int))=sumL (P.thr.take (i+1)):=by
        rw [takeI_succ hq,sumL_snoc]
        unfold sumL
        exact g_wrap_i64 (by omega) (by omega)
      rw [q102_r1,if_pos (by simp;omega),hc.get1 hi y1,y2.len,hw,g_succ (by omega)])
    (Lim_exit (by rw [q102_r1,if_neg (by simp)]))
  rw [List.take_of_length_le (Nat.le_refl _),show sumL (P.thr.take 0)=0 from rfl,show ((0:Nat):Int)=0 from rfl] at loop
  rw [q102_eq,a2,hc.len,loop,bind_ok,q102_e1_1]
def T6:PTest:=⟨ByteArray.mk #[97],[],[[⟨5,0,0,⟨-1,1⟩,0,⟨-1,0⟩,0⟩,⟨1,0,120,⟨0,0⟩,0,⟨0,0⟩,0⟩]],0,[]⟩
end
end Jq

namespace Jq
open Go
def incI:Ins:=⟨5,0,0,⟨0,0⟩,1,⟨-1,1⟩,0⟩
def skipI (a b n:Int):Ins:=⟨6,0,0,⟨-1,a⟩,0,⟨-1,b⟩,n⟩
section
variable {E:Env}
end
end Jq

namespace Jq
open Go
def SetOk (i:Ins):Prop:=i.kind=5∧(0≤i.reg∧i.reg<4)∧0≤i.op∧i.op≤11
def regsC (l:Lcl):List Cell:=[.int .i64 l.r0,.int .i64 l.r1,.int .i64 l.r2,.int .i64 l.r3]
def setV (i:Ins) (l:Lcl):Lcl:=l.setR i.reg ((doV i.op (opV i.a l) (opV i.b l)).getD (opV i.a l))
theorem splice_app (a b xs:List Cell) (j:Nat):splice (a++b) (a.length+j) xs=a++splice b j xs:=by
  unfold splice
  rw [List.take_append,List.drop_append,List.take_of_length_le (by omega),List.drop_of_length_le (l:=a) (by omega)]
  simp only [List.nil_append,List.append_assoc,show a.length+j - a.length=j by omega,show a.length+j+xs.length - a.length=j+xs.length by omega]
section
variable {E:Env}
def mkOp (E:Env) (x:Int):Int:=E.glob.rem .i64 (E.glob.band .i64 (E.glob.shr .i64 x 4) 255) 12
def mkRaw (E:Env) (x:Int):Ins:=⟨5,E.glob.band .i64 x 3,0,⟨E.glob.band .i64 (E.glob.shr .i64 x 2) 3,0⟩,mkOp E x,⟨E.glob.band .i64 (E.glob.shr .i64 x 12) 3,0⟩,0⟩
def mkI (E:Env) (x:Int):Ins:=if mkOp E x=0 then { mkRaw E x with b:=⟨-1,0⟩ } else mkRaw E x
def setsBase (a b:Int):List Ins:=[⟨5,0,0,⟨-1,a⟩,0,⟨-1,0⟩,0⟩,⟨5,1,0,⟨-1,b⟩,0,⟨-1,0⟩,0⟩]
end
end Jq

namespace Jq
open Go
variable (C:CallF) (L:LoopF) (G:Glo)
set_option maxRecDepth 100000 in
theorem q190_eq (a0:Int) (h0:AHeap):q190.body C L G [(.c (.int .i64 a0))] h0=scK (a0 != 2) true (some ((a0 != 3),h0)) false h0 fun b_1 h_2=>if b_1=true then if 0=0∧(List.replicate 74 (Cell.int .i64 0)).length=74∧(splice (List.replicate 74 (Cell.int .i64 0)) 0 ([(.int .i64 0)]:List Cell)).length=74 then if 0=0∧(splice (List.replicate 74 (Cell.int .i64 0)) 0 ([(.int .i64 0)]:List Cell)).length=74 then some ([(.agg (splice (List.replicate 74 (Cell.int .i64 0)) 0 ([(.int .i64 0)]:List Cell)))],h_2) else none else none else if 0=0∧(List.replicate 74 (Cell.int .i64 0)).length=74∧(splice (List.replicate 74 (Cell.int .i64 0)) 0 ([(.int .i64 a0)]:List Cell)).length=74 then if 0=0∧(splice (List.replicate 74 (Cell.int .i64 0)) 0 ([(.int .i64 a0)]:List Cell)).length=74 then some ([(.agg (splice (List.replicate 74 (Cell.int .i64 0)) 0 ([(.int .i64 a0)]:List Cell)))],h_2) else none else none:=by kernel_rfl
set_option maxRecDepth 100000 in
theorem q191_eq (l0:List Cell) (h0:AHeap):q191.body C L G [(.agg l0)] h0=atK l0 1 fun q_1=>asI .i64 (.c q_1) fun n_2=>some ([(.c (.bool (n_2==0)))],h0):=by kernel_rfl
set_option maxRecDepth 100000 in
theorem q192_eq (l0:List Cell) (a1:Int) (h0:AHeap):q192.body C L G [(.agg l0),(.c (.int .i64 a1))] h0=if 0=0∧l0.length=74 then c1 (C 204 [(.agg l0),(.c (.int .i64 a1))] h0) fun y_2 h_1=>asI .i64 y_2 fun n_3=>if (decide (n_3<0))=true then some ([(.c (.int .i64 0)),(.c (.int .i64 0)),(.c (.int .i64 0)),(.c (.bool false))],h_1) else if 0≤n_3∧n_3<((24:Nat):Int) then atK l0 ((2+((Int.toNat n_3)*3))+0) fun q_4=>asI .i64 (.c q_4) fun n_5=>if 0≤n_3∧n_3<((24:Nat):Int) then atK l0 ((2+((Int.toNat n_3)*3))+1) fun q_6=>asI .i64 (.c q_6) fun n_7=>if 0≤n_3∧n_3<((24:Nat):Int) then atK l0 ((2+((Int.toNat n_3)*3))+2) fun q_8=>asI .i64 (.c q_8) fun n_9=>some ([(.c (.int .i64 n_5)),(.c (.int .i64 n_7)),(.c (.int .i64 n_9)),(.c (.bool true))],h_1) else none else none else none else none:=by kernel_rfl
def q204_k2 (C:CallF) (L:LoopF) (G:Glo) (h0:AHeap):Ex→St→Option (List AV × AHeap):=kSeq (fun st=>q204_p1.exec C L G st (q204.fin G h0)) (q204.fin G h0)
def q204_k3 (C:CallF) (L:LoopF) (G:Glo) (h0:AHeap):Ex→St→Option (List AV × AHeap):=kBlk 0 (q204_k2 C L G h0)
def q204_s1 (a1 a7 a8:Int) (s0:List Cell) (h:AHeap):St:=⟨tops 1 (.v (.c (.int .i64 a1)) :: .loc 0 0 :: tops 4 (.v (.c (.int .i64 a7)) :: .v (.c (.int .i64 a8)) :: tops 16 [])),[some s0],h⟩
def q204_F1 (C:CallF) (L:LoopF) (G:Glo):St→Option (Ex × St):=roundF (fun st f=>q204_b1.exec C L G st f) [1,2,7,8] [0] [(0,[4],[]),(1,[],[])]
def q204_x1_0 (a4:Int) (h:AHeap):St:=⟨tops 4 (.v (.c (.int .i64 a4)) :: tops 20 []),[none],h⟩
def q204_x1_1 (h:AHeap):St:=⟨tops 25 [],[none],h⟩
theorem q204_r1 (a1 a7 a8:Int) (s0:List Cell) (h:AHeap):q204_F1 C L G (q204_s1 a1 a7 a8 s0 h)=if (decide (a8<a7))=true then atK s0 0 fun q_3=>asI .i64 (.c q_3) fun n_4=>scK (n_4==2) false (if 0≤a8∧a8<((24:Nat):Int) then atK s0 ((2+((Int.toNat a8)*3))+0) fun q_5=>asI .i64 (.c q_5) fun n_6=>some ((n_6==a1),h) else none) true h fun b_7 h_8=>if b_7=true then some (.ret,(q204_x1_0 a8 h_8)) else some (.normal,(q204_s1 a1 a7 (G.wrap .i64 (a8+1)) s0 h_8)) else some ((.exit 0),(q204_x1_1 h)):=by kernel_rfl
theorem q204_e1_0 (h0:AHeap) (a4:Int) (h:AHeap):(q204_k3 C L G h0) .ret (q204_x1_0 a4 h)=some ([(.c (.int .i64 a4))],h):=by kernel_rfl
theorem q204_e1_1 (h0:AHeap) (h:AHeap):(q204_k3 C L G h0) (.exit 0) (q204_x1_1 h)=some ([(.c (.int .i64 (-1)))],h):=by kernel_rfl
set_option maxRecDepth 100000 in
theorem q204_eq (l0:List Cell) (a1:Int) (h0:AHeap):q204.body C L G [(.agg l0),(.c (.int .i64 a1))] h0=atK l0 1 fun q_1=>asI .i64 (.c q_1) fun n_2=>(L (q204_F1 C L G) (q204_s1 a1 n_2 0 l0 h0)).bind fun p_9=>(q204_k3 C L G h0) p_9.1 p_9.2:=by kernel_rfl
def q205_k2 (C:CallF) (L:LoopF) (G:Glo) (h0:AHeap):Ex→St→Option (List AV × AHeap):=kSeq (fun st=>q205_p1.exec C L G st (q205.fin G h0)) (q205.fin G h0)
def q205_k3 (C:CallF) (L:LoopF) (G:Glo) (h0:AHeap):Ex→St→Option (List AV × AHeap):=kBlk 0 (q205_k2 C L G h0)
def q205_s1 (a1 a7:Int) (s0:List Cell) (h:AHeap):St:=⟨tops 1 (.v (.c (.int .i64 a1)) :: .loc 0 0 :: tops 4 (.v (.c (.int .i64 a7)) :: tops 24 [])),[some s0],h⟩
def q205_F1 (C:CallF) (L:LoopF) (G:Glo):St→Option (Ex × St):=roundF (fun st f=>q205_b1.exec C L G st f) [1,2,7] [0] [(0,[4,5,6],[]),(1,[],[])]
def q205_x1_0 (a4 a5:Int) (b6:Bool) (h:AHeap):St:=⟨tops 4 (.v (.c (.int .i64 a4)) :: .v (.c (.int .i64 a5)) :: .v (.c (.bool b6)) :: tops 25 []),[none],h⟩
def q205_x1_1 (h:AHeap):St:=⟨tops 32 [],[none],h⟩
theorem q205_r1 (a1 a7:Int) (s0:List Cell) (h:AHeap):q205_F1 C L G (q205_s1 a1 a7 s0 h)=if (decide (a7≥0))=true then if 0≤a7∧a7<((24:Nat):Int) then atK s0 ((2+((Int.toNat a7)*3))+0) fun q_3=>asI .i64 (.c q_3) fun n_4=>if (n_4==a1)=true then if 0≤a7∧a7<((24:Nat):Int) then atK s0 ((2+((Int.toNat a7)*3))+1) fun q_5=>asI .i64 (.c q_5) fun n_6=>if 0≤a7∧a7<((24:Nat):Int) then atK s0 ((2+((Int.toNat a7)*3))+2) fun q_7=>asI .i64 (.c q_7) fun n_8=>some (.ret,(q205_x1_0 n_6 n_8 true h)) else none else none else some (.normal,(q205_s1 a1 (G.wrap .i64 (a7 - 1)) s0 h)) else none else some ((.exit 0),(q205_x1_1 h)):=by kernel_rfl
theorem q205_e1_0 (h0:AHeap) (a4 a5:Int) (b6:Bool) (h:AHeap):(q205_k3 C L G h0) .ret (q205_x1_0 a4 a5 b6 h)=some ([(.c (.int .i64 a4)),(.c (.int .i64 a5)),(.c (.bool b6))],h):=by kernel_rfl
theorem q205_e1_1 (h0:AHeap) (h:AHeap):(q205_k3 C L G h0) (.exit 0) (q205_x1_1 h)=some ([(.c (.int .i64 0)),(.c (.int .i64 0)),(.c (.bool false))],h):=by kernel_rfl
set_option maxRecDepth 100000 in
theorem q205_eq (l0:List Cell) (a1:Int) (h0:AHeap):q205.body C L G [(.agg l0),(.c (.int .i64 a1))] h0=atK l0 1 fun q_1=>asI .i64 (.c q_1) fun n_2=>(L (q205_F1 C L G) (q205_s1 a1 (G.wrap .i64 (n_2 - 1)) l0 h0)).bind fun p_9=>(q205_k3 C L G h0) p_9.1 p_9.2:=by kernel_rfl
set_option maxRecDepth 100000 in
theorem q206_eq (l0:List Cell) (a1 a2 a3:Int) (h0:AHeap):q206.body C L G [(.agg l0),(.c (.int .i64 a1)),(.c (.int .i64 a2)),(.c (.int .i64 a3))] h0=atK l0 0 fun q_1=>asI .i64 (.c q_1) fun n_2=>scK (n_2==0) false (some ((decide (a1<0)),h0)) true h0 fun b_3 h_4=>scK b_3 false (some ((decide (a1≥4)),h_4)) true h_4 fun b_5 h_6=>scK b_5 false (atK l0 1 fun q_7=>asI .i64 (.c q_7) fun n_8=>some ((decide (n_8≥24)),h_6)) true h_6 fun b_9 h_10=>if b_9=true then if 0=0∧l0.length=74 then if 0=0∧(List.replicate 74 (Cell.int .i64 0)).length=74∧l0.length=74 then if 0=0∧l0.length=74 then some ([(.agg l0)],h_10) else none else none else none else atK l0 1 fun q_11=>asI .i64 (.c q_11) fun n_12=>if 0≤n_12∧n_12<((24:Nat):Int) then if (2+((Int.toNat n_12)*3))+3≤l0.length∧(splice (splice (splice [Cell.int .i64 0,Cell.int .i64 0,Cell.int .i64 0] 0 ([(.int .i64 a1)]:List Cell)) 1 ([(.int .i64 a2)]:List Cell)) 2 ([(.int .i64 a3)]:List Cell)).length=3 then atK (splice l0 (2+((Int.toNat n_12)*3)) (splice (splice (splice [Cell.int .i64 0,Cell.int .i64 0,Cell.int .i64 0] 0 ([(.int .i64 a1)]:List Cell)) 1 ([(.int .i64 a2)]:List Cell)) 2 ([(.int .i64 a3)]:List Cell))) 1 fun q_13=>asI .i64 (.c q_13) fun n_14=>if 1<(splice l0 (2+((Int.toNat n_12)*3)) (splice (splice (splice [Cell.int .i64 0,Cell.int .i64 0,Cell.int .i64 0] 0 ([(.int .i64 a1)]:List Cell)) 1 ([(.int .i64 a2)]:List Cell)) 2 ([(.int .i64 a3)]:List Cell))).length then if 0=0∧((splice l0 (2+((Int.toNat n_12)*3)) (splice (splice (splice [Cell.int .i64 0,Cell.int .i64 0,Cell.int .i64 0] 0 ([(.int .i64 a1)]:List Cell)) 1 ([(.int .i64 a2)]:List Cell)) 2 ([(.int .i64 a3)]:List Cell))).set 1 (.int .i64 (G.wrap .i64 (n_14+1)))).length=74 then if 0=0∧(List.replicate 74 (Cell.int .i64 0)).length=74∧((splice l0 (2+((Int.toNat n_12)*3)) (splice (splice (splice [Cell.int .i64 0,Cell.int .i64 0,Cell.int .i64 0] 0 ([(.int .i64 a1)]:List Cell)) 1 ([(.int .i64 a2)]:List Cell)) 2 ([(.int .i64 a3)]:List Cell))).set 1 (.int .i64 (G.wrap .i64 (n_14+1)))).length=74 then if 0=0∧((splice l0 (2+((Int.toNat n_12)*3)) (splice (splice (splice [Cell.int .i64 0,Cell.int .i64 0,Cell.int .i64 0] 0 ([(.int .i64 a1)]:List Cell)) 1 ([(.int .i64 a2)]:List Cell)) 2 ([(.int .i64 a3)]:List Cell))).set 1 (.int .i64 (G.wrap .i64 (n_14+1)))).length=74 then some ([(.agg ((splice l0 (2+((Int.toNat n_12)*3)) (splice (splice (splice [Cell.int .i64 0,Cell.int .i64 0,Cell.int .i64 0] 0 ([(.int .i64 a1)]:List Cell)) 1 ([(.int .i64 a2)]:List Cell)) 2 ([(.int .i64 a3)]:List Cell))).set 1 (.int .i64 (G.wrap .i64 (n_14+1)))))],h_10) else none else none else none else none else none else none:=by kernel_rfl
set_option maxRecDepth 100000 in
theorem q207_eq (l0:List Cell) (a1:Int) (h0:AHeap):q207.body C L G [(.agg l0),(.c (.int .i64 a1))] h0=rdH (h0++[some (Blk.mk true 0 (AV.cells (.agg l0)))]) h0.length ((AV.cells (.agg l0)).length) fun l_1=>if 0=0∧l_1.length=74 then c1 (C 204 [(.agg l_1),(.c (.int .i64 a1))] (h0++[some (Blk.mk true 0 (AV.cells (.agg l0)))])) fun y_3 h_2=>asI .i64 y_3 fun n_4=>if (decide (n_4<0))=true then rdH h_2 h0.length ((AV.cells (.agg l0)).length) fun l_5=>if 0=0∧l_5.length=74 then if 0=0∧(List.replicate 74 (Cell.int .i64 0)).length=74∧l_5.length=74 then if 0=0∧l_5.length=74 then finish true h0 [(.agg l_5)] h_2 else none else none else none else sliceAK h_2 24 3 true false (.ptr h0.length ((AV.cells (.agg l0)).length) 2) [.v (.c (.int .i64 n_4))] fun x_6=>sliceAK h_2 24 3 true false (.ptr h0.length ((AV.cells (.agg l0)).length) 2) [.v (.c (.int .i64 (G.wrap .i64 (n_4+1))))] fun x_7=>copyK 3 x_6 x_7 h_2 fun n_8 h_9=>rdH h_9 h0.length ((AV.cells (.agg l0)).length) fun l_10=>atK l_10 1 fun q_11=>asI .i64 (.c q_11) fun n_12=>rdH h_9 h0.length ((AV.cells (.agg l0)).length) fun l_13=>if 1<l_13.length then putH h_9 h0.length (l_13.set 1 (.int .i64 (G.wrap .i64 (n_12 - 1)))) fun h_14=>rdH h_14 h0.length ((AV.cells (.agg l0)).length) fun l_15=>atK l_15 1 fun q_16=>asI .i64 (.c q_16) fun n_17=>if 0≤n_17∧n_17<((24:Nat):Int) then rdH h_14 h0.length ((AV.cells (.agg l0)).length) fun l_18=>if (2+((Int.toNat n_17)*3))+3≤l_18.length∧[Cell.int .i64 0,Cell.int .i64 0,Cell.int .i64 0].length=3 then putH h_14 h0.length (splice l_18 (2+((Int.toNat n_17)*3)) [Cell.int .i64 0,Cell.int .i64 0,Cell.int .i64 0]) fun h_19=>rdH h_19 h0.length ((AV.cells (.agg l0)).length) fun l_20=>if 0=0∧l_20.length=74 then if 0=0∧(List.replicate 74 (Cell.int .i64 0)).length=74∧l_20.length=74 then if 0=0∧l_20.length=74 then finish true h0 [(.agg l_20)] h_19 else none else none else none else none else none else none else none:=by kernel_rfl
end Jq

namespace Jq
open Go
structure Ent where
  loc:Int
  val:Int
  id:Int
  deriving DecidableEq
def Ent.cs (e:Ent):List Cell:=[.int .i64 e.loc,.int .i64 e.val,.int .i64 e.id]
def entsC (l:List Ent):List Cell:=l.flatMap Ent.cs
theorem entsC_len:∀l:List Ent,(entsC l).length=l.length*3
  | []=>rfl
  | s :: l=>by simp only [entsC,List.flatMap_cons,List.length_append];rw [show (l.flatMap _).length=_ from entsC_len l];simp [Ent.cs];omega
theorem entsC_get:∀(l:List Ent) (i:Nat) (s:Ent),l[i]? = some s→∀j,j<3→(entsC l)[i*3+j]? = s.cs[j]?
  | [],_,_,h,_,_=>by simp at h
  | q :: l,0,s,h,j,hj=>by
    simp at h;subst h
    rw [show entsC (q :: l)=q.cs++entsC l from rfl,List.getElem?_append_left (by simp [Ent.cs];omega)];congr 1;omega
  | q :: l,i+1,s,h,j,hj=>by
    have:=entsC_get l i s (by simpa using h) j hj
    rw [show entsC (q :: l)=q.cs++entsC l from rfl,List.getElem?_append_right (by simp [Ent.cs];omega),←this]
    congr 1;simp [Ent.cs];omega
def bufC (m:Int) (l:List Ent):List Cell:=[.int .i64 m,.int .i64 (l.length:Int)]++(entsC l++List.replicate (72 - l.length*3) (.int .i64 0))
theorem bufC_len (m:Int) {l:List Ent} (h:l.length≤24):(bufC m l).length=74:=by
  unfold bufC;rw [List.length_append,List.length_append,entsC_len,List.length_replicate];simp;omega
theorem bufC_at {α:Type} {m:Int} {l:List Ent} {i j:Nat} {s:Ent} {c:Cell} (h:l[i]? = some s) (hj:j<3) (hc:s.cs[j]? = some c) {f:Cell→Option α}:atK (bufC m l) ((2+i*3)+j) f=f c:=by
  refine atK_ok ?_
  have hi:=getI_lt h
  have hl:=entsC_len l
  unfold bufC
  rw [List.getElem?_append_right (by simp;omega),List.getElem?_append_left (by simp;omega)]
  rw [show 2+i*3+j - [Cell.int .i64 m,Cell.int .i64 (l.length:Int)].length=i*3+j by simp;omega,entsC_get l i s h j hj,hc]
def oldP (m loc:Int) (e:Ent):Bool:=m==2||e.loc==loc
def oldI (m loc:Int) (l:List Ent):Int:=match l.findIdx? (oldP m loc) with | some i=>i | none=>-1
def newE (loc:Int) (l:List Ent):Option Ent:=l.reverse.find? fun e=>e.loc==loc
theorem Lim_find {α:Type} {F:St→Option (Ex × St)} (S r:Nat→St) (x:St) (e:Nat) (l:List α) (p:α→Bool) (hs:∀(i:Nat) (q:α),l[i]? = some q→F (S i)=if p q=true then some (.ret,r i) else some (.normal,S (i+1))) (he:F (S l.length)=some (.exit e,x)) :
    Lim F (S 0)=some (match l.findIdx? p with | some i=>(.ret,r i) | none=>(.exit e,x)):=by
  have key:∀(t:List α) (i:Nat),l.drop i=t→i≤l.length→Lim F (S i)=some (match t.findIdx? p with | some k=>(.ret,r (i+k)) | none=>(.exit e,x)):=by
    intro t
    induction t with
    | nil =>
      intro i hd hi
      have:l.length≤i:=by
        have:=congrArg List.length hd
        rw [List.length_drop,List.length_nil] at this;omega
      obtain rfl:i=l.length:=by omega
      rw [Lim_exit he];rfl
    | cons q t ih =>
      intro i hd hi
      have hlt:i<l.length:=by
        have:=congrArg List.length hd
        rw [List.length_drop,List.length_cons] at this;omega
      have hq:l[i]? = some q:=by rw [←List.head?_drop,hd];rfl
      have hd2:l.drop (i+1)=t:=by rw [←List.drop_drop,hd];rfl
      have h1:=hs i q hq
      rw [List.findIdx?_cons]
      cases hp:p q with
      | true =>
        rw [hp,if_pos rfl] at h1
        rw [Lim_ret h1,if_pos rfl];rfl
      | false =>
        rw [hp,if_neg (by simp)] at h1
        rw [Lim_next h1 (ih (i+1) hd2 (by omega)),if_neg (by simp)]
        cases t.findIdx? p with
        | none=>rfl
        | some k=>show some (Ex.ret,r (i+1+k))=some (Ex.ret,r (i+(k+1)));rw [show i+1+k=i+(k+1) by omega]
  have:=key l 0 rfl (Nat.zero_le _)
  rw [this]
  cases l.findIdx? p with
  | none=>rfl
  | some k=>simp
section
variable {E:Env}
theorem bufNew_R (hE:q190_In E) (m:Int) (h:AHeap):R E 190 [.c (.int .i64 m)] h=some ([.agg (bufC (if m=2∨m=3 then m else 0) [])],h):=by
  refine R_intro hE.fn ?_
  rw [q190_eq,scK_and]
  by_cases hm:m=2∨m=3
  · rw [if_neg (by simp;omega),if_pos hm,if_pos (by exact ⟨rfl,rfl,rfl⟩),if_pos (by exact ⟨rfl,rfl⟩)]
    rfl
  · rw [if_pos (by simp;omega),if_neg hm,if_pos (by exact ⟨rfl,rfl,rfl⟩),if_pos (by exact ⟨rfl,rfl⟩)]
    rfl
theorem bufEmpty_R (hE:q191_In E) {m:Int} {l:List Ent} (h:AHeap):R E 191 [.agg (bufC m l)] h=some ([.c (.bool (l.length==0))],h):=by
  refine R_intro hE.fn ?_
  have a1:∀{α:Type} (f:Cell→Option α),atK (bufC m l) 1 f=f (.int .i64 (l.length:Int)):=fun _=>rfl
  have hz:((l.length:Int)==0)=(l.length==0):=by cases l<;>rfl
  rw [q191_eq,a1,asI_ok,hz]
theorem buf_a0 {α:Type} {m:Int} {l:List Ent} {f:Cell→Option α}:atK (bufC m l) 0 f=f (.int .i64 m):=rfl
theorem buf_a1 {α:Type} {m:Int} {l:List Ent} {f:Cell→Option α}:atK (bufC m l) 1 f=f (.int .i64 (l.length:Int)):=rfl
theorem bufoldest_R (hE:q204_In E) {m:Int} {l:List Ent} (hl:l.length≤24) (loc:Int) (h:AHeap):R E 204 [.agg (bufC m l),.c (.int .i64 loc)] h=some ([.c (.int .i64 (oldI m loc l))],h):=by
  refine R_intro hE.fn ?_
  have hL:=Lim_find (F:=q204_F1 (R E) Lim E.glob) (fun i=>q204_s1 loc l.length (i:Int) (bufC m l) h) (fun i=>q204_x1_0 (i:Int) h) (q204_x1_1 h) 0 l (oldP m loc) (fun i q hq=>by
    have hi:=getI_lt hq
    rw [q204_r1,if_pos (by simp;omega),buf_a0,asI_ok,if_pos ⟨by omega,by omega⟩,Int.toNat_natCast,bufC_at hq (by omega) (c:=.int .i64 q.loc) rfl,asI_ok,scK_or,g_succ (by omega)]
    rfl) (by rw [q204_r1,if_neg (by simp)])
  have hL':Lim (q204_F1 (R E) Lim E.glob) (q204_s1 loc l.length 0 (bufC m l) h)=_:=hL
  rw [q204_eq,buf_a1,asI_ok,hL',bind_ok]
  unfold oldI
  cases l.findIdx? (oldP m loc) with
  | none=>dsimp only;rw [q204_e1_1]
  | some i=>dsimp only;rw [q204_e1_0]
theorem bufOldest_R (hE:q192_In E) {m:Int} {l:List Ent} (hl:l.length≤24) (loc:Int) (h:AHeap) :
    R E 192 [.agg (bufC m l),.c (.int .i64 loc)] h=some (match l.find? (oldP m loc) with | some e=>([.c (.int .i64 e.loc),.c (.int .i64 e.val),.c (.int .i64 e.id),.c (.bool true)],h) | none=>([.c (.int .i64 0),.c (.int .i64 0),.c (.int .i64 0),.c (.bool false)],h)):=by
  refine R_intro hE.fn ?_
  rw [q192_eq,if_pos ⟨rfl,bufC_len m hl⟩,bufoldest_R hE.c204 hl,c1_ok,asI_ok]
  unfold oldI
  cases hf:l.findIdx? (oldP m loc) with
  | none =>
    have:l.find? (oldP m loc)=none:=by
      rw [List.find?_eq_none]
      intro e he
      rw [List.findIdx?_eq_none_iff] at hf
      rw [hf e he];simp
    rw [this]
    dsimp only
    rw [if_pos (by decide)]
  | some i =>
    obtain ⟨hi,hp,hlt⟩:=List.findIdx?_eq_some_iff_getElem.1 hf
    have hq:l[i]? = some l[i]:=List.getElem?_eq_getElem hi
    have hfi:l.find? (oldP m loc)=some l[i]:=by
      rw [List.find?_eq_some_iff_getElem]
      exact ⟨hp,i,hi,rfl,fun j hj=>by have:=hlt j hj;simpa using this⟩
    rw [hfi]
    generalize l[i]=e at hq
    dsimp only
    rw [if_neg (by rw [decide_eq_true_eq];omega),if_pos ⟨by omega,by omega⟩,Int.toNat_natCast,bufC_at hq (by omega) (c:=.int .i64 e.loc) rfl,asI_ok,if_pos ⟨by omega,by omega⟩,bufC_at hq (by omega) (c:=.int .i64 e.val) rfl,asI_ok,if_pos ⟨by omega,by omega⟩,bufC_at hq (by omega) (c:=.int .i64 e.id) rfl,asI_ok]
theorem bufNewest_R (hE:q205_In E) {m:Int} {l:List Ent} (hl:l.length≤24) (loc:Int) (h:AHeap) :
    R E 205 [.agg (bufC m l),.c (.int .i64 loc)] h=some (match newE loc l with | some e=>([.c (.int .i64 e.val),.c (.int .i64 e.id),.c (.bool true)],h) | none=>([.c (.int .i64 0),.c (.int .i64 0),.c (.bool false)],h)):=by
  refine R_intro hE.fn ?_
  have key:∀i:Nat,i≤l.length→(Lim (q205_F1 (R E) Lim E.glob) (q205_s1 loc ((i:Int) - 1) (bufC m l) h)).bind (fun p=>q205_k3 (R E) Lim E.glob h p.1 p.2) =
      some (match (l.take i).reverse.find? (fun e=>e.loc==loc) with | some e=>([.c (.int .i64 e.val),.c (.int .i64 e.id),.c (.bool true)],h) | none=>([.c (.int .i64 0),.c (.int .i64 0),.c (.bool false)],h)):=by
    intro i
    induction i with
    | zero =>
      intro _
      have hr:q205_F1 (R E) Lim E.glob (q205_s1 loc (((0:Nat):Int) - 1) (bufC m l) h)=some (.exit 0,q205_x1_1 h):=by
        rw [q205_r1,if_neg (by rw [decide_eq_true_eq];omega)]
      rw [Lim_exit hr,bind_ok,q205_e1_1];rfl
    | succ i ih =>
      intro hi
      have hq:l[i]? = some l[i]:=List.getElem?_eq_getElem (by omega)
      generalize l[i]=e at hq
      have he:(((i+1:Nat):Int) - 1)=(i:Int):=by omega
      rw [he,takeI_succ hq,List.reverse_append,List.reverse_singleton,List.singleton_append,List.find?_cons]
      have hg:∀(b:Bool),(e.loc==loc)=b→q205_F1 (R E) Lim E.glob (q205_s1 loc (i:Int) (bufC m l) h)=if b=true then some (.ret,q205_x1_0 e.val e.id true h) else some (.normal,q205_s1 loc ((i:Int) - 1) (bufC m l) h):=by
        intro b hb
        rw [q205_r1,if_pos (by rw [decide_eq_true_eq];omega),if_pos ⟨by omega,by omega⟩,Int.toNat_natCast,bufC_at hq (by omega) (c:=.int .i64 e.loc) rfl,asI_ok,hb]
        cases b with
        | true=>rw [if_pos rfl,if_pos rfl,if_pos ⟨by omega,by omega⟩,bufC_at hq (by omega) (c:=.int .i64 e.val) rfl,asI_ok,if_pos ⟨by omega,by omega⟩,bufC_at hq (by omega) (c:=.int .i64 e.id) rfl,asI_ok]
        | false=>rw [if_neg (by simp),if_neg (by simp),g_wrap_i64 (by omega) (by omega)]
      cases hb:(e.loc==loc) with
      | true =>
        have h1:=hg true hb
        rw [if_pos rfl] at h1
        rw [Lim_ret h1,bind_ok,q205_e1_0]
      | false =>
        have h1:=hg false hb
        rw [if_neg (by simp)] at h1
        have h2:=ih (by omega)
        dsimp only
        rw [←h2]
        cases hL:Lim (q205_F1 (R E) Lim E.glob) (q205_s1 loc ((i:Int) - 1) (bufC m l) h) with
        | none=>rw [hL] at h2;cases h2
        | some w=>rw [Lim_next h1 hL]
  have:=key l.length (Nat.le_refl _)
  rw [List.take_of_length_le (Nat.le_refl _)] at this
  rw [q205_eq,buf_a1,asI_ok,g_wrap_i64 (by omega) (by omega)]
  exact this
theorem bufC_put {m:Int} {l:List Ent} (hl:l.length<24) (e:Ent):(splice (bufC m l) (2+l.length*3) e.cs).set 1 (.int .i64 ((l.length:Int)+1))=bufC m (l++[e]):=by
  have h1:bufC m l=([Cell.int .i64 m,Cell.int .i64 (l.length:Int)]++entsC l)++List.replicate (72 - l.length*3) (.int .i64 0):=by unfold bufC;rw [List.append_assoc]
  have h2:2+l.length*3=([Cell.int .i64 m,Cell.int .i64 (l.length:Int)]++entsC l).length+0:=by rw [List.length_append,entsC_len];simp
  have h3:splice (List.replicate (72 - l.length*3) (Cell.int .i64 0)) 0 e.cs=e.cs++List.replicate (72 - (l++[e]).length*3) (Cell.int .i64 0):=by
    unfold splice
    rw [List.take_zero,List.nil_append,List.drop_replicate]
    congr 2
    simp [Ent.cs];omega
  have h4:entsC (l++[e])=entsC l++e.cs:=by simp [entsC]
  rw [h1,h2,splice_app,h3]
  unfold bufC
  rw [h4,List.length_append,List.length_singleton]
  simp [List.append_assoc]
theorem bufPut_R (hE:q206_In E) {m:Int} {l:List Ent} (hl:l.length<24) (hm:m≠0) {loc:Int} (hloc:0≤loc∧loc<4) (v id:Int) (h:AHeap) :
    R E 206 [.agg (bufC m l),.c (.int .i64 loc),.c (.int .i64 v),.c (.int .i64 id)] h=some ([.agg (bufC m (l++[⟨loc,v,id⟩]))],h):=by
  refine R_intro hE.fn ?_
  have hz:(m==0)=false:=by rw [beq_eq_false_iff_ne];exact hm
  have e3:splice (splice (splice [Cell.int .i64 0,Cell.int .i64 0,Cell.int .i64 0] 0 ([(.int .i64 loc)]:List Cell)) 1 ([(.int .i64 v)]:List Cell)) 2 ([(.int .i64 id)]:List Cell)=(Ent.mk loc v id).cs:=rfl
  have hlen:=bufC_len m (Nat.le_of_lt hl)
  have hsl:(splice (bufC m l) (2+l.length*3) (Ent.mk loc v id).cs).length=74:=by
    unfold splice
    rw [List.length_append,List.length_append,List.length_take,List.length_drop,hlen];simp [Ent.cs];omega
  have ha1:∀{α:Type} (f:Cell→Option α),atK (splice (bufC m l) (2+l.length*3) (Ent.mk loc v id).cs) 1 f=f (.int .i64 (l.length:Int)):=fun f=>by
    refine atK_ok ?_
    unfold splice
    rw [List.append_assoc,List.getElem?_append_left (by rw [List.length_take,hlen];omega),List.getElem?_take,if_pos (by omega)];rfl
  have hw:E.glob.wrap .i64 ((l.length:Int)+1)=(l.length:Int)+1:=g_wrap_i64 (by omega) (by omega)
  have hput:=bufC_put (m:=m) hl ⟨loc,v,id⟩
  rw [q206_eq,buf_a0,asI_ok,hz,scK_or,show decide (loc<0)=false from decide_eq_false (by omega),scK_or,show decide (loc≥4)=false from decide_eq_false (by omega),buf_a1,asI_ok,scK_or,show decide ((l.length:Int)≥24)=false from decide_eq_false (by omega),if_neg (by simp),buf_a1,asI_ok,if_pos ⟨by omega,by omega⟩,Int.toNat_natCast,e3,if_pos ⟨by rw [hlen];omega,rfl⟩,ha1,asI_ok,if_pos (by rw [hsl];omega),hw,hput]
  have hl2:=bufC_len m (l:=l++[⟨loc,v,id⟩]) (by rw [List.length_append,List.length_singleton];omega)
  rw [if_pos ⟨rfl,hl2⟩,if_pos ⟨rfl,rfl,hl2⟩,if_pos ⟨rfl,hl2⟩]
theorem entsC_append (a b:List Ent):entsC (a++b)=entsC a++entsC b:=by simp [entsC]
theorem drop_len_app {α:Type} {a b:List α} {n:Nat} (h:a.length=n):(a++b).drop n=b:=by subst h;simp
theorem bufC_drop {m:Int} {l:List Ent} (hl:l.length≤24) {i:Nat} (hi:i<l.length) :
    splice ((splice (bufC m l) (2+i*3) (((bufC m l).drop (2+(i+1)*3)).take ((23 - i)*3))).set 1 (Cell.int .i64 ((l.length:Int) - 1))) (2+(l.length - 1)*3) [Cell.int .i64 0,Cell.int .i64 0,Cell.int .i64 0]=bufC m (l.eraseIdx i):=by
  have hq:l[i]? = some l[i]:=List.getElem?_eq_getElem hi
  generalize l[i]=e at hq
  have hsp:l=l.take i++e :: l.drop (i+1):=by
    have:l.drop i=e :: l.drop (i+1):=by
      rw [List.drop_eq_getElem_cons hi]
      have:=List.getElem?_eq_getElem hi
      rw [hq] at this
      rw [←Option.some.inj this]
    rw [←this,List.take_append_drop]
  have her:l.eraseIdx i=l.take i++l.drop (i+1):=List.eraseIdx_eq_take_drop_succ _ _
  have hn:l.length=i+1+(l.drop (i+1)).length:=by rw [List.length_drop];omega
  have hti:(l.take i).length=i:=by rw [List.length_take];omega
  rw [her]
  generalize hA:l.take i=A at *
  generalize hB:l.drop (i+1)=B at *
  have hlA:=entsC_len A
  have hlB:=entsC_len B
  have hcs:bufC m l=([Cell.int .i64 m,Cell.int .i64 (l.length:Int)]++entsC A)++(e.cs++(entsC B++List.replicate (72 - l.length*3) (Cell.int .i64 0))):=by
    have:entsC l=entsC A++(e.cs++entsC B):=by
      have h2:entsC l=entsC (A++e :: B):=by rw [←hsp]
      rw [h2,entsC_append];rfl
    unfold bufC
    rw [this];simp [List.append_assoc]
  have hhd:([Cell.int .i64 m,Cell.int .i64 (l.length:Int)]++entsC A).length=2+i*3:=by rw [List.length_append,hlA,hti];simp
  have hR:((bufC m l).drop (2+(i+1)*3)).take ((23 - i)*3)=entsC B++List.replicate (72 - l.length*3) (Cell.int .i64 0):=by
    rw [hcs,←List.append_assoc,drop_len_app (by rw [List.length_append,hhd];simp [Ent.cs];omega)]
    exact List.take_of_length_le (by rw [List.length_append,List.length_replicate,hlB];omega)
  rw [hR]
  have hs1:splice (bufC m l) (2+i*3) (entsC B++List.replicate (72 - l.length*3) (Cell.int .i64 0))=([Cell.int .i64 m,Cell.int .i64 (l.length:Int)]++entsC A)++((entsC B++List.replicate (72 - l.length*3) (Cell.int .i64 0))++(e.cs++(entsC B++List.replicate (72 - l.length*3) (Cell.int .i64 0))).drop (entsC B++List.replicate (72 - l.length*3) (Cell.int .i64 0):List Cell).length):=by
    rw [hcs]
    have:=splice_app ([Cell.int .i64 m,Cell.int .i64 (l.length:Int)]++entsC A) (e.cs++(entsC B++List.replicate (72 - l.length*3) (Cell.int .i64 0))) (entsC B++List.replicate (72 - l.length*3) (Cell.int .i64 0)) 0
    rw [Nat.add_zero,hhd] at this
    rw [this]
    unfold splice
    rw [List.take_zero,List.nil_append,Nat.zero_add]
  rw [hs1]
  generalize hL3:(e.cs++(entsC B++List.replicate (72 - l.length*3) (Cell.int .i64 0))).drop (entsC B++List.replicate (72 - l.length*3) (Cell.int .i64 0):List Cell).length=L3
  have hL3l:L3.length=3:=by
    rw [←hL3,List.length_drop,List.length_append];simp [Ent.cs]
  have hset:(([Cell.int .i64 m,Cell.int .i64 (l.length:Int)]++entsC A)++((entsC B++List.replicate (72 - l.length*3) (Cell.int .i64 0))++L3)).set 1 (Cell.int .i64 ((l.length:Int) - 1))=([Cell.int .i64 m,Cell.int .i64 ((l.length:Int) - 1)]++(entsC A++entsC B))++(List.replicate (72 - l.length*3) (Cell.int .i64 0)++L3):=by
    simp [List.append_assoc]
  rw [hset]
  have hoff:2+(l.length - 1)*3=([Cell.int .i64 m,Cell.int .i64 ((l.length:Int) - 1)]++(entsC A++entsC B)).length+0:=by
    rw [List.length_append,List.length_append,hlA,hlB,hti];simp;omega
  rw [hoff,splice_app]
  have hz:splice (List.replicate (72 - l.length*3) (Cell.int .i64 0)++L3) 0 [Cell.int .i64 0,Cell.int .i64 0,Cell.int .i64 0]=List.replicate (72 - (A++B).length*3) (Cell.int .i64 0):=by
    have hlen:(A++B).length=l.length - 1:=by rw [List.length_append,hti];omega
    rw [hlen]
    unfold splice
    rw [List.take_zero,List.nil_append]
    by_cases h24:l.length=24
    · rw [show 72 - l.length*3=0 by omega,List.replicate_zero,List.nil_append,List.drop_of_length_le (by rw [hL3l];simp),h24];rfl
    · have hL3z:L3=List.replicate 3 (Cell.int .i64 0):=by
        rw [←hL3]
        refine List.ext_getElem? fun j=>?_
        rw [List.getElem?_drop,List.getElem?_append_right (by simp [Ent.cs,hlB];omega),List.getElem?_append_right (by simp [Ent.cs,hlB];omega),List.getElem?_replicate,List.getElem?_replicate]
        simp [Ent.cs,hlB]
        by_cases hj:j<3
        · rw [if_pos (by omega),if_pos hj]
        · rw [if_neg (by omega),if_neg hj]
      rw [hL3z,List.replicate_append_replicate,List.drop_replicate,show [Cell.int .i64 0,Cell.int .i64 0,Cell.int .i64 0]=List.replicate 3 (Cell.int .i64 0) from rfl,List.replicate_append_replicate]
      congr 1
      simp;omega
  rw [hz]
  unfold bufC
  rw [entsC_append,List.length_append,hti]
  have:(l.length:Int) - 1=((i+B.length:Nat):Int):=by omega
  rw [this]
  simp [List.append_assoc]
theorem bufC_ok {m:Int} {l:List Ent} {n:Nat} {c:Cell} (h:c∈bufC m l):idOk n c=true:=by
  unfold bufC at h
  rcases List.mem_append.1 h with h | h
  · simp at h;rcases h with rfl | rfl<;>rfl
  · rcases List.mem_append.1 h with h | h
    · unfold entsC at h
      obtain ⟨e,_,he⟩:=List.mem_flatMap.1 h
      simp [Ent.cs] at he
      rcases he with rfl | rfl | rfl<;>rfl
    · rw [List.eq_of_mem_replicate h];rfl
theorem bufDrop_R (hE:q207_In E) {m:Int} {l:List Ent} (hl:l.length≤24) {loc:Int} {i:Nat} (hf:l.findIdx? (oldP m loc)=some i) (h:AHeap) :
    R E 207 [.agg (bufC m l),.c (.int .i64 loc)] h=some ([.agg (bufC m (l.eraseIdx i))],h):=by
  refine R_intro hE.fn ?_
  obtain ⟨hi,_,_⟩:=List.findIdx?_eq_some_iff_getElem.1 hf
  have hold:oldI m loc l=(i:Int):=by unfold oldI;rw [hf]
  have hlen:=bufC_len m hl
  have hd:=bufC_drop (m:=m) hl hi
  have hlen2:=bufC_len m (l:=l.eraseIdx i) (by rw [List.length_eraseIdx];split<;>omega)
  have hcell:∀cs:List Cell,AV.cells (.agg cs)=cs:=fun _=>rfl
  have b0:blk? (h++[some ⟨true,0,bufC m l⟩]) h.length=some ⟨true,0,bufC m l⟩:=blk_new _ _
  have hxl:(((bufC m l).drop (2+(i+1)*3)).take ((23 - i)*3)).length=(23 - i)*3:=by rw [List.length_take,List.length_drop,hlen];omega
  have hsl1:∀{α:Type} (f:Cell→Option α),sliceAK (h++[some ⟨true,0,bufC m l⟩]) 24 3 true false (.ptr h.length 74 2) [.v (.c (.int .i64 (i:Int)))] f=f (.sl h.length 74 (2+i*3) (24 - i)):=fun f=>by
    unfold sliceAK okSl boundsK
    simp only
    rw [b0]
    simp only
    rw [if_pos (by simp),if_pos ⟨by omega,by omega⟩,Int.toNat_natCast]
  have hsl2:∀{α:Type} (f:Cell→Option α),sliceAK (h++[some ⟨true,0,bufC m l⟩]) 24 3 true false (.ptr h.length 74 2) [.v (.c (.int .i64 ((i+1:Nat):Int)))] f=f (.sl h.length 74 (2+(i+1)*3) (24 - (i+1))):=fun f=>by
    unfold sliceAK okSl boundsK
    simp only
    rw [b0]
    simp only
    rw [if_pos (by simp),if_pos ⟨by omega,by omega⟩,Int.toNat_natCast]
  have hsc:slCells (h++[some ⟨true,0,bufC m l⟩]) 3 (.sl h.length 74 (2+(i+1)*3) (24 - (i+1)))=some (((bufC m l).drop (2+(i+1)*3)).take ((23 - i)*3)):=by
    unfold slCells
    dsimp only
    by_cases hz:24 - (i+1)=0
    · rw [if_pos hz,show (23 - i)*3=0 by omega];simp
    · rw [if_neg hz,b0]
      simp only
      rw [if_pos ⟨hlen,by omega⟩,show 24 - (i+1)=23 - i by omega]
  have hcp:∀{α:Type} (f:Int→AHeap→Option α),copyK 3 (.sl h.length 74 (2+i*3) (24 - i)) (.sl h.length 74 (2+(i+1)*3) (24 - (i+1))) (h++[some ⟨true,0,bufC m l⟩]) f=f ((23 - i:Nat):Int) (h++[some ⟨true,0,splice (bufC m l) (2+i*3) (((bufC m l).drop (2+(i+1)*3)).take ((23 - i)*3))⟩]):=fun f=>by
    unfold copyK
    rw [hsc,Option.bind_some]
    simp only
    rw [b0,Option.bind_some]
    dsimp only
    rw [if_pos ⟨rfl,hlen,by omega⟩,hxl,show min ((23 - i)*3 / 3) (24 - i)=23 - i by omega,List.take_of_length_le (by rw [hxl];exact Nat.le_refl _),setBlk_last]
  generalize hX:((bufC m l).drop (2+(i+1)*3)).take ((23 - i)*3)=X at *
  have hc2l:(splice (bufC m l) (2+i*3) X).length=74:=by
    unfold splice
    rw [List.length_append,List.length_append,List.length_take,List.length_drop,hlen,hxl];omega
  have hat2:(splice (bufC m l) (2+i*3) X)[1]? = some (.int .i64 (l.length:Int)):=by
    unfold splice
    rw [List.append_assoc,List.getElem?_append_left (by rw [List.length_take,hlen];omega),List.getElem?_take,if_pos (by omega)];rfl
  generalize splice (bufC m l) (2+i*3) X=Y at *
  have b2:blk? (h++[some ⟨true,0,Y⟩]) h.length=some ⟨true,0,Y⟩:=blk_new _ _
  have hw1:E.glob.wrap .i64 ((l.length:Int) - 1)=(l.length:Int) - 1:=g_wrap_i64 (by omega) (by omega)
  have hat3:(Y.set 1 (.int .i64 ((l.length:Int) - 1)))[1]? = some (.int .i64 ((l.length:Int) - 1)):=by rw [List.getElem?_set_self (by omega)]
  have hc3l:(Y.set 1 (.int .i64 ((l.length:Int) - 1))).length=74:=by rw [List.length_set];exact hc2l
  generalize hZ:Y.set 1 (.int .i64 ((l.length:Int) - 1))=Z at *
  have b3:blk? (h++[some ⟨true,0,Z⟩]) h.length=some ⟨true,0,Z⟩:=blk_new _ _
  have b4:blk? (h++[some ⟨true,0,bufC m (l.eraseIdx i)⟩]) h.length=some ⟨true,0,bufC m (l.eraseIdx i)⟩:=blk_new _ _
  have htn:Int.toNat ((l.length:Int) - 1)=l.length - 1:=by omega
  rw [q207_eq]
  simp only [hcell,hlen]
  rw [rdH_ok b0 hlen]
  dsimp only
  rw [if_pos ⟨trivial,hlen⟩,bufoldest_R hE.c204 hl,c1_ok,asI_ok,hold,if_neg (by rw [decide_eq_true_eq];omega),hsl1,g_succ (by omega),hsl2,hcp,rdH_ok b2 hc2l]
  dsimp only
  rw [atK_ok hat2,asI_ok,rdH_ok b2 hc2l]
  dsimp only
  rw [if_pos (by omega),putH_ok b2 rfl,setBlk_last,hw1]
  dsimp only
  rw [hZ,rdH_ok b3 hc3l]
  dsimp only
  rw [atK_ok hat3,asI_ok,if_pos ⟨by omega,by omega⟩,rdH_ok b3 hc3l]
  dsimp only
  rw [if_pos ⟨by rw [hc3l,htn];omega,rfl⟩,putH_ok b3 rfl,setBlk_last,htn]
  dsimp only
  rw [hd,rdH_ok b4 hlen2]
  dsimp only
  rw [if_pos ⟨trivial,hlen2⟩,if_pos ⟨trivial,rfl,hlen2⟩,if_pos ⟨trivial,hlen2⟩]
  refine finish_gc (Kp.app _ (Nat.le_refl _)) ?_
  intro x hx
  rw [List.mem_singleton] at hx
  subst hx
  unfold avOk
  rw [hcell,List.all_eq_true]
  intro c hc
  exact bufC_ok hc
end
end Jq

namespace Jq
open Go
theorem dec_iff {p:Prop} [Decidable p] {b:Bool} (h:p↔b=true):decide p=b:=by
  rw [Bool.eq_iff_iff,decide_eq_true_eq];exact h
theorem cs1 (i:Ins):decide (i.cs=(⟨i.kind,0,i.loc,i.a,0,⟨0,0⟩,0⟩:Ins).cs)=(((i.reg==0&&i.op==0)&&decide (i.b.cs=[Cell.int .i64 0,Cell.int .i64 0]))&&i.n==0):=by
  refine dec_iff ?_
  simp [Ins.cs,Opd.cs,and_assoc]
theorem cs2 (i:Ins):decide (i.cs=(⟨i.kind,i.reg,i.loc,⟨0,0⟩,0,⟨0,0⟩,0⟩:Ins).cs)=(((decide (i.a.cs=[Cell.int .i64 0,Cell.int .i64 0])&&i.op==0)&&decide (i.b.cs=[Cell.int .i64 0,Cell.int .i64 0]))&&i.n==0):=by
  refine dec_iff ?_
  simp [Ins.cs,Opd.cs,and_assoc]
section
variable {E:Env}
end
end Jq

namespace Jq
open Go
theorem Lim_scan {F:St→Option (Ex × St)} (S:Nat→St) (n:Nat) (bad:Nat→Bool) (r x:St) (e:Nat) (hs:∀i,i<n→F (S i)=if bad i=true then some (.ret,r) else some (.normal,S (i+1))) (he:F (S n)=some (.exit e,x)) :
    Lim F (S 0)=some (if (List.range n).any bad=true then (.ret,r) else (.exit e,x)):=by
  have key:∀(d i:Nat),i+d=n→Lim F (S i)=some (if (List.range d).any (fun k=>bad (i+k))=true then (.ret,r) else (.exit e,x)):=by
    intro d
    induction d with
    | zero =>
      intro i hi
      obtain rfl:i=n:=by omega
      rw [Lim_exit he];rfl
    | succ d ih =>
      intro i hi
      have h1:=hs i (by omega)
      rw [List.range_succ_eq_map,List.any_cons,List.any_map,Nat.add_zero]
      cases hb:bad i with
      | true =>
        rw [hb,if_pos rfl] at h1
        rw [Lim_ret h1,Bool.true_or,if_pos rfl]
      | false =>
        rw [hb,if_neg (by simp)] at h1
        have h2:=ih (i+1) (by omega)
        rw [Bool.false_or]
        have he:((List.range d).any ((fun k=>bad (i+k)) ∘ Nat.succ))=(List.range d).any fun k=>bad (i+1+k):=by
          congr 1
          funext k
          show bad (i+(k+1))=_
          rw [show i+(k+1)=i+1+k by omega]
        rw [he]
        exact Lim_next h1 h2
  have:=key n 0 (by omega)
  simpa only [Nat.zero_add] using this
def atB {α:Type} (l:List α) (f:Nat→α→Bool) (i:Nat):Bool:=match l[i]? with | some q=>f i q | none=>false
theorem atB_ok {α:Type} {l:List α} {f:Nat→α→Bool} {i:Nat} {q:α} (h:l[i]? = some q):atB l f i=f i q:=by unfold atB;rw [h]
theorem atB_any {α:Type} (l:List α) (f:α→Bool):(List.range l.length).any (atB l fun _=>f)=l.any f:=by
  induction l with
  | nil=>rfl
  | cons a l ih =>
    rw [List.length_cons,List.range_succ_eq_map,List.any_cons,List.any_map,List.any_cons,←ih]
    rfl
def memB (a:Atm):Bool:=(a.thread==-1&&a.reg==0)&&locB a.loc
def ownB (a:Atm):Bool:=((((decide (a.thread≥0)&&decide (a.thread≤9))&&decide (a.reg≥0))&&decide (a.reg≤3))&&a.loc==0)
section
variable {E:Env}
end
end Jq

namespace Jq
open Go
def hasB (P:PProg) (n:Int):Bool:=decide (n≥0)&&decide (n<(P.locs.length:Int))
def locBad (l:List Int) (i:Nat) (c:Int):Bool:=!locB c||(decide ((i:Int) > 0)&&decide (c≤l.getD (i - 1) 0))
def thrBad (P:PProg) (c:List Ins):Bool:=(decide ((c.length:Int) > 10)||!jmpB c)||c.any fun i=>!fldB (hasB P) i
def sizeBad (P:PProg):Bool:=((((P.thr.length:Int)==0||decide ((P.thr.length:Int) > 4))||decide ((P.locs.length:Int) > 4))||((P.init.length:Int) != (P.locs.length:Int)))||decide (sumL P.thr > 24)
def pokB (P:PProg):Bool:=if sizeBad P=true then false else if (List.range P.locs.length).any (atB P.locs (locBad P.locs))=true then false else !(P.thr.any (thrBad P))
section
variable {E:Env}
theorem progOk_R (hE:q188_In E) {cs:List Cell} {P:PProg} {h:AHeap} (p:ProgAt h cs P) (hsm:P.small) (hu:∀x∈P.locs,0≤x∧x<256) (hll:P.locs.length≤1000):R E 188 [.agg cs] h=some ([.c (.bool (pokB P))],h):=by
  refine R_intro hE.fn ?_
  obtain ⟨a,b,c,ts,rfl,⟨ha,hal⟩,⟨hb,hbl⟩,⟨hc,hcl⟩,hts⟩:=p
  have p:ProgAt h [a,b,c] P:=⟨a,b,c,ts,rfl,⟨ha,hal⟩,⟨hb,hbl⟩,⟨hc,hcl⟩,hts⟩
  have hcell:AV.cells (.agg [a,b,c])=[a,b,c]:=rfl
  have l3:([a,b,c]:List Cell).length=3:=rfl
  have b1:blk? (h++[some ⟨true,0,[a,b,c]⟩]) h.length=some ⟨true,0,[a,b,c]⟩:=blk_new _ _
  have k1:Kp h.length h (h++[some ⟨true,0,[a,b,c]⟩]):=Kp.app _ (Nat.le_refl _)
  have nn:(h++[some (Blk.mk true 0 [a,b,c])]).length=h.length+1:=by simp
  have fin:∀(h':AHeap) (x:Bool),Kp h.length h h'→finish true h [.c (.bool x)] h'=some ([.c (.bool x)],h):=fun h' x hk=>finish_gc hk (by simp [avOk,AV.cells,idOk])
  rw [q188_eq]
  simp only [hcell,l3]
  generalize h++[some (Blk.mk true 0 [a,b,c])]=H at *
  have p1:=p.keep k1
  have ha1:=ha.keep hal k1
  have hb1:=hb.keep hbl k1
  have hc1:=hc.keep hcl k1
  have a0:∀{α:Type} (f:Cell→Option α),atK [a,b,c] 0 f=f a:=fun _=>rfl
  have a1:∀{α:Type} (f:Cell→Option α),atK [a,b,c] 1 f=f b:=fun _=>rfl
  have a2:∀{α:Type} (f:Cell→Option α),atK [a,b,c] 2 f=f c:=fun _=>rfl
  have rb:∀{α:Type} (F:List Cell→Option α),rdH H h.length 3 F=F [a,b,c]:=fun F=>rd3 b1
  rw [rb,a2,hc1.len,rb,a2,hc1.len,scK_or,rb,a0,ha1.len,scK_or,rb,a1,hb1.len,rb,a0,ha1.len,scK_or,rb,if_pos ⟨trivial,rfl⟩,Size_R hE.c102 p1 hsm,c1_ok,asI_ok,scK_or]
  unfold pokB
  rw [show (((((P.thr.length:Int)==0||decide ((P.thr.length:Int) > 4))||decide ((P.locs.length:Int) > 4))||((P.init.length:Int) != (P.locs.length:Int)))||decide (sumL P.thr > 24))=sizeBad P from rfl]
  cases hsb:sizeBad P with
  | true=>rw [if_pos rfl,if_pos rfl,fin _ _ k1]
  | false =>
    rw [if_neg (by simp),if_neg (by simp),rb,a0,ha1.len]
    have f1:Lim (q188_F1 (R E) Lim E.glob) (q188_s1 h.length 3 0 a P.locs.length 0 H)=some (if (List.range P.locs.length).any (atB P.locs (locBad P.locs))=true then (.ret,q188_x1_0 false H) else (.exit 0,q188_x1_1 h.length 3 0 H)):=by
      exact Lim_scan (F:=q188_F1 (R E) Lim E.glob) (fun i=>q188_s1 h.length 3 0 a P.locs.length (i:Int) H) P.locs.length (atB P.locs (locBad P.locs)) _ _ 0 (fun i hi=>by
        have hq:P.locs[i]? = some P.locs[i]:=List.getElem?_eq_getElem hi
        generalize P.locs[i]=v at hq
        have hv:=hu v (List.mem_of_getElem? hq)
        rw [q188_r1,if_pos (by simp;omega),ha1.get1 hi (intC_get hq),asI_ok,g_wrap_i64 (by omega) (by omega),IsLoc_R hE.c158,c1_ok,asB_ok,atB_ok hq,g_succ (by omega)]
        unfold locBad
        by_cases h0:i=0
        · subst h0
          rw [show decide (((0:Nat):Int) > 0)=false from rfl,scK_ft,scK_or,Bool.false_and]
        · have hd:decide ((i:Int) > 0)=true:=decide_eq_true (by omega)
          have hq2:=getDI (show i - 1<P.locs.length by omega)
          have hw:E.glob.wrap .i64 ((i:Int) - 1)=((i - 1:Nat):Int):=by rw [g_wrap_i64 (by omega) (by omega)];omega
          rw [hd,scK_ok,rb,show 0+0=0 from rfl,a0,hw,ha1.get1 (show i - 1<P.locs.length by omega) (intC_get hq2),asI_ok,bind_ok]
          dsimp only
          rw [scK_or,Bool.true_and]) (by rw [q188_r1,if_neg (by simp)])
    rw [f1,bind_ok]
    cases hlb:(List.range P.locs.length).any (atB P.locs (locBad P.locs)) with
    | true=>rw [if_pos rfl,if_pos rfl];dsimp only;rw [q188_e1_0,fin _ _ k1]
    | false =>
      rw [if_neg (by simp),if_neg (by simp)]
      dsimp only
      rw [q188_e1_1]
      have l1:([Cell.nilf]:List Cell).length=1:=rfl
      rw [l1,rd1' (blk_new _ _),if_pos (by simp),putH_ok (blk_new _ _) rfl,setBlk_last]
      dsimp only [List.set]
      have k2:Kp H.length H (H++[some (Blk.mk true 0 [.fn 200 [(h.length,3,0)]])]):=Kp.app _ (Nat.le_refl _)
      have b2:blk? (H++[some (Blk.mk true 0 [.fn 200 [(h.length,3,0)]])]) H.length=some ⟨true,0,[.fn 200 [(h.length,3,0)]]⟩:=blk_new _ _
      have b1':blk? (H++[some (Blk.mk true 0 [.fn 200 [(h.length,3,0)]])]) h.length=some ⟨true,0,[a,b,c]⟩:=blk_old b1 _
      generalize H++[some (Blk.mk true 0 [.fn 200 [(h.length,3,0)]])]=H2 at *
      have kk:Kp h.length h H2:=k1.trans (k2.mono k1.1)
      have hc2:=hc.keep hcl kk
      have ha2:=ha.keep hal kk
      have hsays:Says E H2 (.fn 200 [(h.length,3,0)]) (hasB P):=fun n α F=>by
        show c1 (R E 200 ([.c (.int .i64 n)]++[.c (.ptr h.length 3 0)]) H2) F=_
        have:R E 200 ([.c (.int .i64 n)]++[.c (.ptr h.length 3 0)]) H2=some ([.c (.bool (hasB P n))],H2):=by
          refine R_intro hE.c200.fn ?_
          show q200.body (R E) Lim E.glob [.c (.int .i64 n),.c (.ptr h.length 3 0)] H2=_
          rw [q200_eq,rd3 b1',show 0+0=0 from rfl,a0,ha2.len,scK_and];rfl
        rw [this,c1_ok]
      have hins:∀(c:List Ins) (y:Cell),c.length≤1000→SlAt H2 y 9 (codeC c) c.length→R E 155 [.c y,.c (.fn 201 [(H.length,1,0)])] H2=some ([.c (.bool (c.any fun i=>!fldB (hasB P) i))],H2):=by
        intro c y hcl hy
        refine any_sIns_Ins_R hE.c155 hy (by omega) (fun i=>!fldB (hasB P) i) fun i _ α F=>?_
        show c1 (R E 201 ([.agg i.cs]++[.c (.ptr H.length 1 0)]) H2) F=_
        have:R E 201 ([.agg i.cs]++[.c (.ptr H.length 1 0)]) H2=some ([.c (.bool (!fldB (hasB P) i))],H2):=by
          refine R_intro hE.c201.fn ?_
          show q201.body (R E) Lim E.glob [.agg i.cs,.c (.ptr H.length 1 0)] H2=_
          rw [q201_eq,if_pos ⟨rfl,rfl⟩,rd1' b2,atK_ok (i:=0) (c:=.fn 200 [(h.length,3,0)]) rfl,Fields_R hE.c201.c159 i hsays,c1_ok,asB_ok]
        rw [this,c1_ok]
      have n2:=hsm.1
      have f2:Lim (q188_F2 (R E) Lim E.glob) (q188_s2 H.length 1 0 c P.thr.length 0 H2)=some (if P.thr.any (thrBad P)=true then (.ret,q188_x2_0 false H2) else (.exit 2,q188_x2_3 H2)):=by
        rw [←atB_any]
        exact Lim_scan (F:=q188_F2 (R E) Lim E.glob) (fun i=>q188_s2 H.length 1 0 c P.thr.length (i:Int) H2) P.thr.length (atB P.thr fun _=>thrBad P) _ _ 2 (fun t ht=>by
          have hq:P.thr[t]? = some P.thr[t]:=List.getElem?_eq_getElem ht
          generalize P.thr[t]=code at hq
          have hcl2:=hsm.2 code (List.mem_of_getElem? hq)
          obtain ⟨y,y1,y2,y3⟩:=hts t code hq
          have y2':=y2.keep y3 kk
          rw [q188_r2,if_pos (by simp;omega),hc2.get1 ht y1,y2'.len,Jumps_R hE.c148 y2' (by omega),c1_ok,asB_ok,scK_or,hins code y hcl2 y2',c1_ok,asB_ok,scK_or,atB_ok hq,g_succ (by omega)]
          rfl) (by rw [q188_r2,if_neg (by simp)])
      rw [rd3 b1',show 0+2=2 from rfl,a2,hc2.len,f2,bind_ok]
      cases htb:P.thr.any (thrBad P) with
      | true=>rw [if_pos rfl];dsimp only;rw [q188_e2_0,fin _ _ kk];rfl
      | false=>rw [if_neg (by simp)];dsimp only;rw [q188_e2_3,fin _ _ kk];rfl
end
end Jq

namespace Jq
open Go
section
variable {E:Env}
theorem cells1 {h:AHeap} {x:Cell} {cs:List Cell} {len:Nat} (s:SlAt h x 1 cs len):slCells h 1 x=some cs:=by
  have hl:=s.1
  rcases s.2 with ⟨rfl,rfl⟩ | ⟨k,N,off,rfl,hb⟩
  · have:cs=[]:=List.length_eq_zero_iff.1 (by omega)
    rw [this];rfl
  · unfold slCells
    dsimp only
    by_cases h0:len=0
    · have:cs=[]:=List.length_eq_zero_iff.1 (by omega)
      rw [if_pos h0,this]
    · rw [if_neg h0]
      rcases hb with hb | ⟨b,hb,hN,hle,hat⟩
      · exact absurd hb h0
      · rw [hb]
        simp only
        rw [if_pos ⟨hN,hle⟩]
        congr 1
        refine List.ext_getElem? fun j=>?_
        rw [List.getElem?_take,List.getElem?_drop]
        by_cases hj:j<len*1
        · rw [if_pos hj,hat j hj]
        · rw [if_neg hj,List.getElem?_eq_none (by omega)]
theorem app_empty {α:Type} {h:AHeap} {bytes len:Nat} {cs:List Cell} (hlen:cs.length=len) (h1:len*bytes≤maxBytes) (h2:len≤maxBytes) (f:Cell→AHeap→Option α) :
    appK 1 bytes (.sl h.length 0 0 0) cs (h++[some ⟨true,1,[]⟩]) f=f (.sl h.length cs.length 0 len) (h++[some ⟨true,1,cs⟩]):=by
  unfold appK
  simp only
  rw [blk_new,Option.bind_some]
  dsimp only
  have hd:cs.length / 1=len:=by rw [Nat.div_one,hlen]
  rw [if_pos ⟨rfl,rfl,rfl,by simp,by rw [hd];simp;omega,by rw [hd];simp;omega⟩,hd]
  by_cases h0:len=0
  · have:cs=[]:=List.length_eq_zero_iff.1 (by omega)
    subst this
    rw [if_pos (by simp),setBlk_last,h0];rfl
  · rw [if_neg (by omega),if_pos trivial,setBlk_last]
    simp
theorem slices_Clone_sbyte_byte_R (hE:q202_In E) {x:Cell} {cs:List Cell} {len:Nat} {h:AHeap} (hx:SlAt h x 1 cs len) (hlow:Low h.length x) (hl:len≤1000) :
    ∃x' h',R E 202 [.c x] h=some ([.c x'],h')∧Own h.length h' x' 1 cs len∧Kp h.length h h':=by
  have hm:maxBytes≥1000*8:=by unfold maxBytes;omega
  have hlen:cs.length=len:=by have:=hx.1;omega
  have hx0:=hx
  rcases hx.2 with ⟨rfl,h0⟩ | ⟨k,N,off,rfl,hb⟩
  · refine ⟨.nils,h,R_intro hE.fn ?_,⟨hx.1,.inl ⟨rfl,h0⟩⟩,Kp.refl _ _⟩
    rw [q202_eq];rfl
  · have hk1:Kp h.length h (h++[some ⟨true,1,[]⟩]):=Kp.app _ (Nat.le_refl _)
    have hc:=cells1 (hx0.keep hlow hk1)
    refine ⟨.sl h.length cs.length 0 len,h++[some ⟨true,1,cs⟩],R_intro hE.fn ?_,⟨hx.1,.inr ⟨h.length,rfl,Nat.le_refl _,blk_new _ _⟩⟩,Kp.app _ (Nat.le_refl _)⟩
    rw [q202_eq,show ∀{α:Type} (f:Bool→Option α),eqNilK false (.sl k N off len) .nils f=f false from fun _=>rfl,if_neg (by simp),if_pos (show ([]:List Cell).length=0*1 from rfl),hc,bind_ok,show ([]:List Cell).length=0 from rfl,app_empty hlen (by omega) (by omega)]
theorem slices_Clone_sint64_int64_R (hE:q203_In E) {x:Cell} {cs:List Cell} {len:Nat} {h:AHeap} (hx:SlAt h x 1 cs len) (hlow:Low h.length x) (hl:len≤1000) :
    ∃x' h',R E 203 [.c x] h=some ([.c x'],h')∧Own h.length h' x' 1 cs len∧Kp h.length h h':=by
  have hm:maxBytes≥1000*8:=by unfold maxBytes;omega
  have hlen:cs.length=len:=by have:=hx.1;omega
  have hx0:=hx
  rcases hx.2 with ⟨rfl,h0⟩ | ⟨k,N,off,rfl,hb⟩
  · refine ⟨.nils,h,R_intro hE.fn ?_,⟨hx.1,.inl ⟨rfl,h0⟩⟩,Kp.refl _ _⟩
    rw [q203_eq];rfl
  · have hk1:Kp h.length h (h++[some ⟨true,1,[]⟩]):=Kp.app _ (Nat.le_refl _)
    have hc:=cells1 (hx0.keep hlow hk1)
    refine ⟨.sl h.length cs.length 0 len,h++[some ⟨true,1,cs⟩],R_intro hE.fn ?_,⟨hx.1,.inr ⟨h.length,rfl,Nat.le_refl _,blk_new _ _⟩⟩,Kp.app _ (Nat.le_refl _)⟩
    rw [q203_eq,show ∀{α:Type} (f:Bool→Option α),eqNilK false (.sl k N off len) .nils f=f false from fun _=>rfl,if_neg (by simp),if_pos (show ([]:List Cell).length=0*1 from rfl),hc,bind_ok,show ([]:List Cell).length=0 from rfl,app_empty hlen (by omega) (by omega)]
end
end Jq

namespace Jq
open Go
variable (C:CallF) (L:LoopF) (G:Glo)
def q171_k2 (C:CallF) (L:LoopF) (G:Glo) (h0:AHeap):Ex→St→Option (List AV × AHeap):=kSeq (fun st=>q171_p1.exec C L G st (q171.fin G h0)) (q171.fin G h0)
def q171_k3 (C:CallF) (L:LoopF) (G:Glo) (h0:AHeap):Ex→St→Option (List AV × AHeap):=kBlk 0 (q171_k2 C L G h0)
def q171_s1 (a1:Int) (k6 N6 o6:Nat) (a24:Int) (s0:List Cell) (h:AHeap):St:=⟨tops 1 (.v (.c (.int .i64 a1)) :: .loc 0 0 :: tops 3 (.v (.c (.ptr k6 N6 o6)) :: tops 17 (.v (.c (.int .i64 a24)) :: tops 34 []))),[some s0],h⟩
def q171_F1 (C:CallF) (L:LoopF) (G:Glo):St→Option (Ex × St):=roundF (fun st f=>q171_b1.exec C L G st f) [1,2,6,24] [0] [(1,[2,6],[0])]
def q171_x1_1 (k6 N6 o6:Nat) (s0:List Cell) (h:AHeap):St:=⟨tops 2 (.loc 0 0 :: tops 3 (.v (.c (.ptr k6 N6 o6)) :: tops 52 [])),[some s0],h⟩
theorem q171_r1 (a1:Int) (k6 N6 o6:Nat) (a24:Int) (s0:List Cell) (h:AHeap):q171_F1 C L G (q171_s1 a1 k6 N6 o6 a24 s0 h)=if (decide (a24<4))=true then rdH h k6 N6 fun l_11=>if (o6+0)+3≤l_11.length then c1 (qh h (C 94 [(.agg ((l_11.drop (o6+0)).take 3)),(.c (.int .i64 a24))] h)) fun y_13 h_12=>asA y_13 fun l_14=>if 0≤a24∧a24<((4:Nat):Int) then rdH h k6 N6 fun l_15=>if ((o6+4)+((Int.toNat a24)*5))+5≤l_15.length∧l_14.length=5 then putH h k6 (splice l_15 ((o6+4)+((Int.toNat a24)*5)) l_14) fun h_16=>c1 (qh h_16 (C 190 [(.c (.int .i64 a1))] h_16)) fun y_18 h_17=>asA y_18 fun l_19=>if 0≤a24∧a24<((4:Nat):Int) then rdH h_16 k6 N6 fun l_20=>if ((o6+32)+((Int.toNat a24)*74))+74≤l_20.length∧l_19.length=74 then putH h_16 k6 (splice l_20 ((o6+32)+((Int.toNat a24)*74)) l_19) fun h_21=>if 0≤a24∧a24<((4:Nat):Int) then rdH h_21 k6 N6 fun l_22=>if ((o6+28)+((Int.toNat a24)*1))<l_22.length then putH h_21 k6 (l_22.set ((o6+28)+((Int.toNat a24)*1)) (.int .i64 (-1))) fun h_23=>some (.normal,(q171_s1 a1 k6 N6 o6 (G.wrap .i64 (a24+1)) s0 h_23)) else none else none else none else none else none else none else none else some ((.exit 0),(q171_x1_1 k6 N6 o6 s0 h)):=by kernel_rfl
theorem q171_e1_1 (h0:AHeap) (k6 N6 o6:Nat) (s0:List Cell) (h:AHeap):(q171_k3 C L G h0) (.exit 0) (q171_x1_1 k6 N6 o6 s0 h)=sliceAK h 4 1 false false (.ptr k6 N6 (o6+24)) [] fun x_24=>atK s0 1 fun q_25=>copyK 1 x_24 q_25 h fun n_26 h_27=>some ([(.c (.ptr k6 N6 o6)),(.c (.int .i64 0))],h_27):=by kernel_rfl
set_option maxRecDepth 100000 in
theorem q171_eq (l0:List Cell) (a1:Int) (h0:AHeap):q171.body C L G [(.agg l0),(.c (.int .i64 a1))] h0=scK (decide (a1<1)) false (some ((decide (a1 > 3)),h0)) true h0 fun b_1 h_2=>scK b_1 false (if 0=0∧l0.length=3 then c1 (C 188 [(.agg l0)] h_2) fun y_4 h_3=>asB y_4 fun b_5=>some ((!b_5),h_3) else none) true h_2 fun b_6 h_7=>if b_6=true then some ([(.c .nilp),(.c (.int .i64 1))],h_7) else if 0=0∧l0.length=3 then c1 (C 189 [(.agg l0)] h_7) fun y_9 h_8=>asA y_9 fun l_10=>if l_10.length=3∧0+3≤([Cell.nils,Cell.nils,Cell.nils]++List.replicate 325 (Cell.int .i64 0)++[Cell.nils]).length then if ([(.int .i64 a1)]:List Cell).length=1∧3+1≤(splice ([Cell.nils,Cell.nils,Cell.nils]++List.replicate 325 (Cell.int .i64 0)++[Cell.nils]) 0 l_10).length then (L (q171_F1 C L G) (q171_s1 a1 h_8.length ((AV.cells (.agg (splice (splice ([Cell.nils,Cell.nils,Cell.nils]++List.replicate 325 (Cell.int .i64 0)++[Cell.nils]) 0 l_10) 3 ([(.int .i64 a1)]:List Cell)))).length) 0 0 l0 (h_8++[some (Blk.mk true 0 (AV.cells (.agg (splice (splice ([Cell.nils,Cell.nils,Cell.nils]++List.replicate 325 (Cell.int .i64 0)++[Cell.nils]) 0 l_10) 3 ([(.int .i64 a1)]:List Cell)))))]))).bind fun p_28=>(q171_k3 C L G h0) p_28.1 p_28.2 else none else none else none:=by kernel_rfl
def q172_k2 (C:CallF) (L:LoopF) (G:Glo) (h0:AHeap):Ex→St→Option (List AV × AHeap):=kSeq (fun st=>q172_p1.exec C L G st (q172.fin G h0)) (q172.fin G h0)
def q172_k3 (C:CallF) (L:LoopF) (G:Glo) (h0:AHeap):Ex→St→Option (List AV × AHeap):=kBlk 0 (q172_k2 C L G h0)
def q172_s2 (k0 N0 o0:Nat) (a3 a13:Int) (h:AHeap):St:=⟨.v (.c (.ptr k0 N0 o0)) :: tops 2 (.v (.c (.int .u64 a3)) :: tops 9 (.v (.c (.int .i64 a13)) :: tops 95 [])),[none],h⟩
def q172_F2 (C:CallF) (L:LoopF) (G:Glo):St→Option (Ex × St):=roundF (fun st f=>q172_b2.exec C L G st f) [0,3,13] [] [(1,[3],[])]
def q172_k4 (C:CallF) (L:LoopF) (G:Glo):Ex→St→Option (Ex × St):=kSeq (fun st=>q172_p2.exec C L G st (kLoop [0,3,13] [] [(1,[3],[])])) (kLoop [0,3,13] [] [(1,[3],[])])
def q172_k5 (C:CallF) (L:LoopF) (G:Glo):Ex→St→Option (Ex × St):=kBlk 1 (q172_k4 C L G)
def q172_k6 (C:CallF) (L:LoopF) (G:Glo):Ex→St→Option (Ex × St):=kSeq (fun st=>q172_p3.exec C L G st (q172_k5 C L G)) (q172_k5 C L G)
def q172_c1 (k0 N0 o0:Nat) (a3 a4 a13:Int) (h:AHeap):St:=⟨.v (.c (.ptr k0 N0 o0)) :: tops 2 (.v (.c (.int .u64 a3)) :: .v (.c (.int .i64 a4)) :: tops 8 (.v (.c (.int .i64 a13)) :: tops 95 [])),[none],h⟩
def q172_k7 (C:CallF) (L:LoopF) (G:Glo):Ex→St→Option (Ex × St):=kBlk 2 (q172_k5 C L G)
def q172_s1 (k0 N0 o0:Nat) (a3 a4:Int) (a13 a75:Int) (h:AHeap):St:=⟨.v (.c (.ptr k0 N0 o0)) :: tops 2 (.v (.c (.int .u64 a3)) :: .v (.c (.int .i64 a4)) :: tops 8 (.v (.c (.int .i64 a13)) :: tops 61 (.v (.c (.int .i64 a75)) :: tops 33 []))),[none],h⟩
def q172_F1 (C:CallF) (L:LoopF) (G:Glo):St→Option (Ex × St):=roundF (fun st f=>q172_b1.exec C L G st f) [0,3,4,13,75] [] [(3,[0,3,13],[])]
def q172_x1_3 (k0 N0 o0:Nat) (a3 a13:Int) (h:AHeap):St:=⟨.v (.c (.ptr k0 N0 o0)) :: tops 2 (.v (.c (.int .u64 a3)) :: tops 9 (.v (.c (.int .i64 a13)) :: tops 95 [])),[none],h⟩
def q172_k8 (C:CallF) (L:LoopF) (G:Glo):Ex→St→Option (Ex × St):=kBlk 2 (q172_k5 C L G)
def q172_x2_1 (a3:Int) (h:AHeap):St:=⟨tops 3 (.v (.c (.int .u64 a3)) :: tops 105 []),[none],h⟩
theorem q172_r1 (k0 N0 o0:Nat) (a3 a4:Int) (a13 a75:Int) (h:AHeap):q172_F1 C L G (q172_s1 k0 N0 o0 a3 a4 a13 a75 h)=if (decide (a75<4))=true then if 0≤a4∧a4<((4:Nat):Int) then rdH h k0 N0 fun l_37=>if ((o0+32)+((Int.toNat a4)*74))+74≤l_37.length then c4 (C 192 [(.agg ((l_37.drop ((o0+32)+((Int.toNat a4)*74))).take 74)),(.c (.int .i64 a75))] h) fun y_39 y_40 y_41 y_42 h_38=>asI .i64 y_39 fun n_43=>asI .i64 y_40 fun n_44=>asI .i64 y_41 fun n_45=>asB y_42 fun b_46=>rdH h_38 k0 N0 fun l_47=>atK l_47 (o0+3) fun q_48=>asI .i64 (.c q_48) fun n_49=>scK (n_49==3) true (some (b_46,h_38)) false h_38 fun b_50 h_51=>if b_50=true then let v_52:Int:=(G.wrap .i64 (8+(G.wrap .i64 (4*a4))));c1 (C 18 [(.c (.int .u64 a3)),(.c (.int .i64 (G.wrap .i64 (v_52+a75))))] h_51) fun y_54 h_53=>asI .u64 y_54 fun n_55=>some (.normal,(q172_s1 k0 N0 o0 n_55 a4 a13 (G.wrap .i64 (a75+1)) h_53)) else some (.normal,(q172_s1 k0 N0 o0 a3 a4 a13 (G.wrap .i64 (a75+1)) h_51)) else none else none else some ((.exit 2),(q172_x1_3 k0 N0 o0 a3 a13 h)):=by kernel_rfl
theorem q172_e1_3 (k0 N0 o0:Nat) (a3 a13:Int) (h:AHeap):(q172_k7 C L G) (.exit 2) (q172_x1_3 k0 N0 o0 a3 a13 h)=some (.normal,(q172_s2 k0 N0 o0 a3 (G.wrap .i64 (a13+1)) h)):=by kernel_rfl
theorem q172_ec1_n (k0 N0 o0:Nat) (a3 a4 a13:Int) (h:AHeap):(q172_k6 C L G) .normal (q172_c1 k0 N0 o0 a3 a4 a13 h)=rdH h k0 N0 fun l_25=>atK l_25 (o0+3) fun q_26=>asI .i64 (.c q_26) fun n_27=>scK (n_27==2) true (if 0≤a4∧a4<((4:Nat):Int) then rdH h k0 N0 fun l_28=>if ((o0+32)+((Int.toNat a4)*74))+74≤l_28.length then c1 (C 191 [(.agg ((l_28.drop ((o0+32)+((Int.toNat a4)*74))).take 74))] h) fun y_30 h_29=>asB y_30 fun b_31=>some ((!b_31),h_29) else none else none) false h fun b_32 h_33=>if b_32=true then c1 (C 18 [(.c (.int .u64 a3)),(.c (.int .i64 (G.wrap .i64 (4+a4))))] h_33) fun y_35 h_34=>asI .u64 y_35 fun n_36=>(L (q172_F1 C L G) (q172_s1 k0 N0 o0 n_36 a4 a13 0 h_34)).bind fun p_56=>(q172_k7 C L G) p_56.1 p_56.2 else (L (q172_F1 C L G) (q172_s1 k0 N0 o0 a3 a4 a13 0 h_33)).bind fun p_57=>(q172_k8 C L G) p_57.1 p_57.2:=by kernel_rfl
theorem q172_r2 (k0 N0 o0:Nat) (a3 a13:Int) (h:AHeap):q172_F2 C L G (q172_s2 k0 N0 o0 a3 a13 h)=if (decide (a13<4))=true then rdH h k0 N0 fun l_1=>if (o0+0)+3≤l_1.length then if 0≤a13∧a13<((4:Nat):Int) then rdH h k0 N0 fun l_2=>if ((o0+4)+((Int.toNat a13)*5))+5≤l_2.length then c2 (qh h (C 105 [(.agg ((l_1.drop (o0+0)).take 3)),(.c (.int .i64 a13)),(.agg ((l_2.drop ((o0+4)+((Int.toNat a13)*5))).take 5))] h)) fun y_4 y_5 h_3=>asA y_4 fun l_6=>asB y_5 fun b_7=>if 0=0∧(List.replicate 9 (Cell.int .i64 0)).length=9∧l_6.length=9 then atK l_6 0 fun q_8=>asI .i64 (.c q_8) fun n_9=>scK (n_9==3) false (atK l_6 0 fun q_10=>asI .i64 (.c q_10) fun n_11=>some ((n_11==4),h)) true h fun b_12 h_13=>(scK b_7 true (scK (!b_12) false (if 0≤a13∧a13<((4:Nat):Int) then rdH h_13 k0 N0 fun l_14=>if ((o0+32)+((Int.toNat a13)*74))+74≤l_14.length then c1 (C 191 [(.agg ((l_14.drop ((o0+32)+((Int.toNat a13)*74))).take 74))] h_13) fun y_16 h_15=>asB y_16 fun b_17=>some (b_17,h_15) else none else none) true h_13 fun b_18 h_19=>some (b_18,h_19)) false h_13 fun b_20 h_21=>if b_20=true then c1 (C 18 [(.c (.int .u64 a3)),(.c (.int .i64 a13))] h_21) fun y_23 h_22=>asI .u64 y_23 fun n_24=>some (.normal,(q172_c1 k0 N0 o0 n_24 a13 a13 h_22)) else some (.normal,(q172_c1 k0 N0 o0 a3 a13 a13 h_21)):Option (Ex × St)).bind fun p_58=>(q172_k6 C L G) p_58.1 p_58.2 else none else none else none else none else some ((.exit 0),(q172_x2_1 a3 h)):=by kernel_rfl
theorem q172_e2_1 (h0:AHeap) (a3:Int) (h:AHeap):(q172_k3 C L G h0) (.exit 0) (q172_x2_1 a3 h)=some ([(.c (.int .u64 a3))],h):=by kernel_rfl
set_option maxRecDepth 100000 in
theorem q172_eq (k0 N0 o0:Nat) (h0:AHeap):q172.body C L G [(.c (.ptr k0 N0 o0))] h0=(L (q172_F2 C L G) (q172_s2 k0 N0 o0 0 0 h0)).bind fun p_59=>(q172_k3 C L G h0) p_59.1 p_59.2:=by kernel_rfl
set_option maxRecDepth 100000 in
theorem q173_eq (k0 N0 o0:Nat) (a1:Int) (h0:AHeap):q173.body C L G [(.c (.ptr k0 N0 o0)),(.c (.int .i64 a1))] h0=c1 (C 172 [(.c (.ptr k0 N0 o0))] h0) fun y_2 h_1=>asI .u64 y_2 fun n_3=>c1 (C 17 [(.c (.int .u64 n_3)),(.c (.int .i64 a1))] h_1) fun y_5 h_4=>asB y_5 fun b_6=>if (!b_6)=true then if 0=0∧(List.replicate 7 (Cell.int .i64 0)).length=7∧(List.replicate 7 (Cell.int .i64 0)).length=7 then if 0=0∧(List.replicate 7 (Cell.int .i64 0)).length=7 then some ([(.agg (List.replicate 7 (Cell.int .i64 0))),(.c (.bool false))],h_4) else none else none else if (decide (a1<4))=true then c1 (C 193 [(.c (.ptr k0 N0 o0)),(.c (.int .i64 a1))] h_4) fun y_8 h_7=>asA y_8 fun l_9=>if 0=0∧(List.replicate 7 (Cell.int .i64 0)).length=7∧l_9.length=7 then if 0<l_9.length then rdH h_7 k0 N0 fun l_10=>atK l_10 (o0+328) fun q_11=>if 0=0∧(l_9.set 0 (.int .i64 a1)).length=7 then if (l_9.set 0 (.int .i64 a1)).length=7∧0+7≤(List.replicate 7 (Cell.int .i64 0)).length then if (splice (List.replicate 7 (Cell.int .i64 0)) 0 (l_9.set 0 (.int .i64 a1))).length=1*7 then appK 7 56 q_11 (splice (List.replicate 7 (Cell.int .i64 0)) 0 (l_9.set 0 (.int .i64 a1))) h_7 fun x_12 h_13=>rdH h_13 k0 N0 fun l_14=>if (o0+328)<l_14.length then putH h_13 k0 (l_14.set (o0+328) x_12) fun h_15=>if 0=0∧(l_9.set 0 (.int .i64 a1)).length=7 then if 0=0∧(List.replicate 7 (Cell.int .i64 0)).length=7∧(l_9.set 0 (.int .i64 a1)).length=7 then if 0=0∧(l_9.set 0 (.int .i64 a1)).length=7 then some ([(.agg (l_9.set 0 (.int .i64 a1))),(.c (.bool true))],h_15) else none else none else none else none else none else none else none else none else none else if (decide (a1<8))=true then c1 (C 194 [(.c (.ptr k0 N0 o0)),(.c (.int .i64 (G.wrap .i64 (a1 - 4)))),(.c (.int .i64 0))] h_4) fun y_17 h_16=>asA y_17 fun l_18=>if 0=0∧(List.replicate 7 (Cell.int .i64 0)).length=7∧l_18.length=7 then if 0<l_18.length then rdH h_16 k0 N0 fun l_19=>atK l_19 (o0+328) fun q_20=>if 0=0∧(l_18.set 0 (.int .i64 a1)).length=7 then if (l_18.set 0 (.int .i64 a1)).length=7∧0+7≤(List.replicate 7 (Cell.int .i64 0)).length then if (splice (List.replicate 7 (Cell.int .i64 0)) 0 (l_18.set 0 (.int .i64 a1))).length=1*7 then appK 7 56 q_20 (splice (List.replicate 7 (Cell.int .i64 0)) 0 (l_18.set 0 (.int .i64 a1))) h_16 fun x_21 h_22=>rdH h_22 k0 N0 fun l_23=>if (o0+328)<l_23.length then putH h_22 k0 (l_23.set (o0+328) x_21) fun h_24=>if 0=0∧(l_18.set 0 (.int .i64 a1)).length=7 then if 0=0∧(List.replicate 7 (Cell.int .i64 0)).length=7∧(l_18.set 0 (.int .i64 a1)).length=7 then if 0=0∧(l_18.set 0 (.int .i64 a1)).length=7 then some ([(.agg (l_18.set 0 (.int .i64 a1))),(.c (.bool true))],h_24) else none else none else none else none else none else none else none else none else none else c1 (C 194 [(.c (.ptr k0 N0 o0)),(.c (.int .i64 (G.quo .i64 (G.wrap .i64 (a1 - 8)) 4))),(.c (.int .i64 (G.rem .i64 (G.wrap .i64 (a1 - 8)) 4)))] h_4) fun y_26 h_25=>asA y_26 fun l_27=>if 0=0∧(List.replicate 7 (Cell.int .i64 0)).length=7∧l_27.length=7 then if 0<l_27.length then rdH h_25 k0 N0 fun l_28=>atK l_28 (o0+328) fun q_29=>if 0=0∧(l_27.set 0 (.int .i64 a1)).length=7 then if (l_27.set 0 (.int .i64 a1)).length=7∧0+7≤(List.replicate 7 (Cell.int .i64 0)).length then if (splice (List.replicate 7 (Cell.int .i64 0)) 0 (l_27.set 0 (.int .i64 a1))).length=1*7 then appK 7 56 q_29 (splice (List.replicate 7 (Cell.int .i64 0)) 0 (l_27.set 0 (.int .i64 a1))) h_25 fun x_30 h_31=>rdH h_31 k0 N0 fun l_32=>if (o0+328)<l_32.length then putH h_31 k0 (l_32.set (o0+328) x_30) fun h_33=>if 0=0∧(l_27.set 0 (.int .i64 a1)).length=7 then if 0=0∧(List.replicate 7 (Cell.int .i64 0)).length=7∧(l_27.set 0 (.int .i64 a1)).length=7 then if 0=0∧(l_27.set 0 (.int .i64 a1)).length=7 then some ([(.agg (l_27.set 0 (.int .i64 a1))),(.c (.bool true))],h_33) else none else none else none else none else none else none else none else none else none:=by kernel_rfl
set_option maxRecDepth 100000 in
theorem q174_eq (k0 N0 o0:Nat) (h0:AHeap):q174.body C L G [(.c (.ptr k0 N0 o0))] h0=c1 (C 172 [(.c (.ptr k0 N0 o0))] h0) fun y_2 h_1=>asI .u64 y_2 fun n_3=>some ([(.c (.bool (n_3==0)))],h_1):=by kernel_rfl
set_option maxRecDepth 100000 in
theorem q175_eq (k0 N0 o0:Nat) (h0:AHeap):q175.body C L G [(.c (.ptr k0 N0 o0))] h0=rdH h0 k0 N0 fun l_1=>atK l_1 (o0+328) fun q_2=>c1 (C 195 [(.c q_2)] h0) fun y_4 h_3=>asC y_4 fun x_5=>some ([(.c x_5)],h_3):=by kernel_rfl
def q189_k2 (C:CallF) (L:LoopF) (G:Glo) (h0:AHeap):Ex→St→Option (List AV × AHeap):=kSeq (fun st=>q189_p1.exec C L G st (q189.fin G h0)) (q189.fin G h0)
def q189_k3 (C:CallF) (L:LoopF) (G:Glo) (h0:AHeap):Ex→St→Option (List AV × AHeap):=kBlk 0 (q189_k2 C L G h0)
def q189_s1 (x14:Cell) (a15 a16:Int) (s1 s2:List Cell) (h:AHeap):St:=⟨tops 2 (.loc 1 0 :: .loc 2 0 :: tops 10 (.v (.c x14) :: .v (.c (.int .i64 a15)) :: .v (.c (.int .i64 a16)) :: tops 12 [])),[none,some s1,some s2],h⟩
def q189_F1 (C:CallF) (L:LoopF) (G:Glo):St→Option (Ex × St):=roundF (fun st f=>q189_b1.exec C L G st f) [2,3,14,15,16] [1,2] [(1,[2,3],[1,2])]
def q189_x1_1 (s1 s2:List Cell) (h:AHeap):St:=⟨tops 2 (.loc 1 0 :: .loc 2 0 :: tops 25 []),[none,some s1,some s2],h⟩
theorem q189_r1 (x14:Cell) (a15 a16:Int) (s1 s2:List Cell) (h:AHeap):q189_F1 C L G (q189_s1 x14 a15 a16 s1 s2 h)=if (decide (a16<a15))=true then idxSK 1 x14 a16 fun k_11 N_12 o_13=>rdH h k_11 N_12 fun l_14=>atK l_14 o_13 fun q_15=>atK s2 2 fun q_16=>c1 (C 119 [(.c q_15)] h) fun y_18 h_17=>asC y_18 fun x_19=>if (splice [Cell.nils] 0 ([x_19]:List Cell)).length=1*1 then appK 1 24 q_16 (splice [Cell.nils] 0 ([x_19]:List Cell)) h_17 fun x_20 h_21=>if 2<s2.length then some (.normal,(q189_s1 x14 a15 (G.wrap .i64 (a16+1)) s1 (s2.set 2 x_20) h_21)) else none else none else some ((.exit 0),(q189_x1_1 s1 s2 h)):=by kernel_rfl
theorem q189_e1_1 (h0:AHeap) (s1 s2:List Cell) (h:AHeap):(q189_k3 C L G h0) (.exit 0) (q189_x1_1 s1 s2 h)=if 0=0∧s2.length=3 then if 0=0∧s1.length=3∧s2.length=3 then if 0=0∧s2.length=3 then some ([(.agg s2)],h) else none else none else none:=by kernel_rfl
set_option maxRecDepth 100000 in
theorem q189_eq (l0:List Cell) (h0:AHeap):q189.body C L G [(.agg l0)] h0=atK l0 0 fun q_1=>c1 (C 202 [(.c q_1)] h0) fun y_3 h_2=>asC y_3 fun x_4=>atK l0 1 fun q_5=>c1 (C 203 [(.c q_5)] h_2) fun y_7 h_6=>asC y_7 fun x_8=>if 0=0∧[Cell.nils,Cell.nils,Cell.nils].length=3∧(splice (splice [Cell.nils,Cell.nils,Cell.nils] 0 ([x_4]:List Cell)) 1 ([x_8]:List Cell)).length=3 then atK l0 2 fun q_9=>lenK q_9 fun n_10=>(L (q189_F1 C L G) (q189_s1 q_9 n_10 0 [Cell.nils,Cell.nils,Cell.nils] (splice (splice [Cell.nils,Cell.nils,Cell.nils] 0 ([x_4]:List Cell)) 1 ([x_8]:List Cell)) h_6)).bind fun p_22=>(q189_k3 C L G h0) p_22.1 p_22.2 else none:=by kernel_rfl
def q193_k2 (C:CallF) (L:LoopF) (G:Glo) (h0:AHeap):Ex→St→Option (List AV × AHeap):=kSeq (fun st=>q193_p1.exec C L G st (q193.fin G h0)) (q193.fin G h0)
def q193_c1 (k0 N0 o0:Nat) (a1 a8 a9:Int) (s0 s1 s2:List Cell) (h:AHeap):St:=⟨.v (.c (.ptr k0 N0 o0)) :: .v (.c (.int .i64 a1)) :: tops 2 (.loc 0 0 :: .loc 1 0 :: .loc 2 0 :: tops 1 (.v (.c (.int .i64 a8)) :: .v (.c (.int .i64 a9)) :: tops 136 [])),[some s0,some s1,some s2,none],h⟩
def q193_k3 (C:CallF) (L:LoopF) (G:Glo) (h0:AHeap):Ex→St→Option (List AV × AHeap):=kSeq (fun st=>q193_p2.exec C L G st (q193.fin G h0)) (q193.fin G h0)
def q193_c2 (k0 N0 o0:Nat) (a1 a8 a9:Int) (s0 s1 s3:List Cell) (h:AHeap):St:=⟨.v (.c (.ptr k0 N0 o0)) :: .v (.c (.int .i64 a1)) :: tops 2 (.loc 0 0 :: .loc 1 0 :: tops 2 (.v (.c (.int .i64 a8)) :: .v (.c (.int .i64 a9)) :: tops 3 (.loc 3 0 :: tops 132 []))),[some s0,some s1,none,some s3],h⟩
theorem q193_ec2_n (h0:AHeap) (k0 N0 o0:Nat) (a1 a8 a9:Int) (s0 s1 s3:List Cell) (h:AHeap):(q193_k3 C L G h0) .normal (q193_c2 k0 N0 o0 a1 a8 a9 s0 s1 s3 h)=rdH h k0 N0 fun l_33=>atK l_33 (o0+328) fun q_34=>lenK q_34 fun n_35=>atK s3 2 fun q_36=>asI .i64 (.c q_36) fun n_37=>scK (n_37==2) true (rdH h k0 N0 fun l_38=>atK l_38 (o0+3) fun q_39=>asI .i64 (.c q_39) fun n_40=>some ((n_40 != 1),h)) false h fun b_41 h_42=>if b_41=true then if 0≤a1∧a1<((4:Nat):Int) then rdH h_42 k0 N0 fun l_43=>if ((o0+32)+((Int.toNat a1)*74))+74≤l_43.length then atK s3 3 fun q_44=>asI .i64 (.c q_44) fun n_45=>atK s3 5 fun q_46=>asI .i64 (.c q_46) fun n_47=>c1 (qh h_42 (C 206 [(.agg ((l_43.drop ((o0+32)+((Int.toNat a1)*74))).take 74)),(.c (.int .i64 n_45)),(.c (.int .i64 n_47)),(.c (.int .i64 n_35))] h_42)) fun y_49 h_48=>asA y_49 fun l_50=>if 0≤a1∧a1<((4:Nat):Int) then rdH h_42 k0 N0 fun l_51=>if ((o0+32)+((Int.toNat a1)*74))+74≤l_51.length∧l_50.length=74 then putH h_42 k0 (splice l_51 ((o0+32)+((Int.toNat a1)*74)) l_50) fun h_52=>rdH h_52 k0 N0 fun l_53=>if (o0+0)+3≤l_53.length then if 0=0∧s1.length=5 then c1 (qh h_52 (C 106 [(.agg ((l_53.drop (o0+0)).take 3)),(.c (.int .i64 a1)),(.agg s1),(.c (.int .i64 a8))] h_52)) fun y_55 h_54=>asA y_55 fun l_56=>if 0≤a1∧a1<((4:Nat):Int) then rdH h_52 k0 N0 fun l_57=>if ((o0+4)+((Int.toNat a1)*5))+5≤l_57.length∧l_56.length=5 then putH h_52 k0 (splice l_57 ((o0+4)+((Int.toNat a1)*5)) l_56) fun h_58=>atK s3 2 fun q_59=>asI .i64 (.c q_59) fun n_60=>atK s3 3 fun q_61=>asI .i64 (.c q_61) fun n_62=>atK s3 4 fun q_63=>asI .i64 (.c q_63) fun n_64=>atK s3 5 fun q_65=>asI .i64 (.c q_65) fun n_66=>if 0=0∧s0.length=7∧(splice (splice (splice (splice (splice (splice (List.replicate 7 (Cell.int .i64 0)) 1 ([(.int .i64 a1)]:List Cell)) 2 ([(.int .i64 n_60)]:List Cell)) 3 ([(.int .i64 n_62)]:List Cell)) 4 ([(.int .i64 n_64)]:List Cell)) 5 ([(.int .i64 n_66)]:List Cell)) 6 ([(.int .i64 a9)]:List Cell)).length=7 then if 0=0∧(splice (splice (splice (splice (splice (splice (List.replicate 7 (Cell.int .i64 0)) 1 ([(.int .i64 a1)]:List Cell)) 2 ([(.int .i64 n_60)]:List Cell)) 3 ([(.int .i64 n_62)]:List Cell)) 4 ([(.int .i64 n_64)]:List Cell)) 5 ([(.int .i64 n_66)]:List Cell)) 6 ([(.int .i64 a9)]:List Cell)).length=7 then some ([(.agg (splice (splice (splice (splice (splice (splice (List.replicate 7 (Cell.int .i64 0)) 1 ([(.int .i64 a1)]:List Cell)) 2 ([(.int .i64 n_60)]:List Cell)) 3 ([(.int .i64 n_62)]:List Cell)) 4 ([(.int .i64 n_64)]:List Cell)) 5 ([(.int .i64 n_66)]:List Cell)) 6 ([(.int .i64 a9)]:List Cell)))],h_58) else none else none else none else none else none else none else none else none else none else none else if 0=0∧s3.length=6 then c1 (C 80 [(.agg s3)] h_42) fun y_68 h_67=>asB y_68 fun b_69=>if b_69=true then atK s3 3 fun q_70=>asI .i64 (.c q_70) fun n_71=>atK s3 3 fun q_72=>asI .i64 (.c q_72) fun n_73=>atK s3 5 fun q_74=>asI .i64 (.c q_74) fun n_75=>if 0≤n_71∧n_71<((4:Nat):Int) then rdH h_67 k0 N0 fun l_76=>if ((o0+24)+((Int.toNat n_71)*1))<l_76.length then putH h_67 k0 (l_76.set ((o0+24)+((Int.toNat n_71)*1)) (.int .i64 n_75)) fun h_77=>if 0≤n_73∧n_73<((4:Nat):Int) then rdH h_77 k0 N0 fun l_78=>if ((o0+28)+((Int.toNat n_73)*1))<l_78.length then putH h_77 k0 (l_78.set ((o0+28)+((Int.toNat n_73)*1)) (.int .i64 n_35)) fun h_79=>rdH h_79 k0 N0 fun l_80=>if (o0+0)+3≤l_80.length then if 0=0∧s1.length=5 then c1 (qh h_79 (C 106 [(.agg ((l_80.drop (o0+0)).take 3)),(.c (.int .i64 a1)),(.agg s1),(.c (.int .i64 a8))] h_79)) fun y_82 h_81=>asA y_82 fun l_83=>if 0≤a1∧a1<((4:Nat):Int) then rdH h_79 k0 N0 fun l_84=>if ((o0+4)+((Int.toNat a1)*5))+5≤l_84.length∧l_83.length=5 then putH h_79 k0 (splice l_84 ((o0+4)+((Int.toNat a1)*5)) l_83) fun h_85=>atK s3 2 fun q_86=>asI .i64 (.c q_86) fun n_87=>atK s3 3 fun q_88=>asI .i64 (.c q_88) fun n_89=>atK s3 4 fun q_90=>asI .i64 (.c q_90) fun n_91=>atK s3 5 fun q_92=>asI .i64 (.c q_92) fun n_93=>if 0=0∧s0.length=7∧(splice (splice (splice (splice (splice (splice (List.replicate 7 (Cell.int .i64 0)) 1 ([(.int .i64 a1)]:List Cell)) 2 ([(.int .i64 n_87)]:List Cell)) 3 ([(.int .i64 n_89)]:List Cell)) 4 ([(.int .i64 n_91)]:List Cell)) 5 ([(.int .i64 n_93)]:List Cell)) 6 ([(.int .i64 a9)]:List Cell)).length=7 then if 0=0∧(splice (splice (splice (splice (splice (splice (List.replicate 7 (Cell.int .i64 0)) 1 ([(.int .i64 a1)]:List Cell)) 2 ([(.int .i64 n_87)]:List Cell)) 3 ([(.int .i64 n_89)]:List Cell)) 4 ([(.int .i64 n_91)]:List Cell)) 5 ([(.int .i64 n_93)]:List Cell)) 6 ([(.int .i64 a9)]:List Cell)).length=7 then some ([(.agg (splice (splice (splice (splice (splice (splice (List.replicate 7 (Cell.int .i64 0)) 1 ([(.int .i64 a1)]:List Cell)) 2 ([(.int .i64 n_87)]:List Cell)) 3 ([(.int .i64 n_89)]:List Cell)) 4 ([(.int .i64 n_91)]:List Cell)) 5 ([(.int .i64 n_93)]:List Cell)) 6 ([(.int .i64 a9)]:List Cell)))],h_85) else none else none else none else none else none else none else none else none else none else none else rdH h_67 k0 N0 fun l_94=>if (o0+0)+3≤l_94.length then if 0=0∧s1.length=5 then c1 (qh h_67 (C 106 [(.agg ((l_94.drop (o0+0)).take 3)),(.c (.int .i64 a1)),(.agg s1),(.c (.int .i64 a8))] h_67)) fun y_96 h_95=>asA y_96 fun l_97=>if 0≤a1∧a1<((4:Nat):Int) then rdH h_67 k0 N0 fun l_98=>if ((o0+4)+((Int.toNat a1)*5))+5≤l_98.length∧l_97.length=5 then putH h_67 k0 (splice l_98 ((o0+4)+((Int.toNat a1)*5)) l_97) fun h_99=>atK s3 2 fun q_100=>asI .i64 (.c q_100) fun n_101=>atK s3 3 fun q_102=>asI .i64 (.c q_102) fun n_103=>atK s3 4 fun q_104=>asI .i64 (.c q_104) fun n_105=>atK s3 5 fun q_106=>asI .i64 (.c q_106) fun n_107=>if 0=0∧s0.length=7∧(splice (splice (splice (splice (splice (splice (List.replicate 7 (Cell.int .i64 0)) 1 ([(.int .i64 a1)]:List Cell)) 2 ([(.int .i64 n_101)]:List Cell)) 3 ([(.int .i64 n_103)]:List Cell)) 4 ([(.int .i64 n_105)]:List Cell)) 5 ([(.int .i64 n_107)]:List Cell)) 6 ([(.int .i64 a9)]:List Cell)).length=7 then if 0=0∧(splice (splice (splice (splice (splice (splice (List.replicate 7 (Cell.int .i64 0)) 1 ([(.int .i64 a1)]:List Cell)) 2 ([(.int .i64 n_101)]:List Cell)) 3 ([(.int .i64 n_103)]:List Cell)) 4 ([(.int .i64 n_105)]:List Cell)) 5 ([(.int .i64 n_107)]:List Cell)) 6 ([(.int .i64 a9)]:List Cell)).length=7 then some ([(.agg (splice (splice (splice (splice (splice (splice (List.replicate 7 (Cell.int .i64 0)) 1 ([(.int .i64 a1)]:List Cell)) 2 ([(.int .i64 n_101)]:List Cell)) 3 ([(.int .i64 n_103)]:List Cell)) 4 ([(.int .i64 n_105)]:List Cell)) 5 ([(.int .i64 n_107)]:List Cell)) 6 ([(.int .i64 a9)]:List Cell)))],h_99) else none else none else none else none else none else none else none:=by kernel_rfl
theorem q193_ec1_n (h0:AHeap) (k0 N0 o0:Nat) (a1 a8 a9:Int) (s0 s1 s2:List Cell) (h:AHeap):(q193_k2 C L G h0) .normal (q193_c1 k0 N0 o0 a1 a8 a9 s0 s1 s2 h)=if 0=0∧s2.length=9 then if 0=0∧s1.length=5 then c2 (C 109 [(.agg s2),(.agg s1),(.c (.int .i64 a8))] h) fun y_29 y_30 h_28=>asA y_29 fun l_31=>asB y_30 fun b_32=>if 0=0∧[Cell.int .i64 0,Cell.int .i64 0,Cell.int .i64 0,Cell.int .i64 0,Cell.int .i64 0,Cell.int .i64 0].length=6∧l_31.length=6 then (if (!b_32)=true then some (.normal,(q193_c2 k0 N0 o0 a1 a8 (-1) s0 s1 l_31 h_28)) else some (.normal,(q193_c2 k0 N0 o0 a1 a8 a9 s0 s1 l_31 h_28)):Option (Ex × St)).bind fun p_108=>(q193_k3 C L G h0) p_108.1 p_108.2 else none else none else none:=by kernel_rfl
set_option maxRecDepth 100000 in
theorem q193_eq (k0 N0 o0:Nat) (a1:Int) (h0:AHeap):q193.body C L G [(.c (.ptr k0 N0 o0)),(.c (.int .i64 a1))] h0=if 0≤a1∧a1<((4:Nat):Int) then rdH h0 k0 N0 fun l_1=>if ((o0+4)+((Int.toNat a1)*5))+5≤l_1.length then if 0=0∧[Cell.int .i64 0,Cell.int .i64 0,Cell.int .i64 0,Cell.int .i64 0,Cell.int .i64 0].length=5∧((l_1.drop ((o0+4)+((Int.toNat a1)*5))).take 5).length=5 then rdH h0 k0 N0 fun l_2=>if (o0+0)+3≤l_2.length then if 0=0∧((l_1.drop ((o0+4)+((Int.toNat a1)*5))).take 5).length=5 then c2 (qh h0 (C 105 [(.agg ((l_2.drop (o0+0)).take 3)),(.c (.int .i64 a1)),(.agg ((l_1.drop ((o0+4)+((Int.toNat a1)*5))).take 5))] h0)) fun y_4 y_5 h_3=>asA y_4 fun l_6=>asB y_5 fun b_7=>if 0=0∧(List.replicate 9 (Cell.int .i64 0)).length=9∧l_6.length=9 then atK l_6 2 fun q_8=>asI .i64 (.c q_8) fun n_9=>if 0≤n_9∧n_9<((4:Nat):Int) then rdH h0 k0 N0 fun l_10=>atK l_10 ((o0+24)+((Int.toNat n_9)*1)) fun q_11=>asI .i64 (.c q_11) fun n_12=>atK l_6 2 fun q_13=>asI .i64 (.c q_13) fun n_14=>if 0≤n_14∧n_14<((4:Nat):Int) then rdH h0 k0 N0 fun l_15=>atK l_15 ((o0+28)+((Int.toNat n_14)*1)) fun q_16=>asI .i64 (.c q_16) fun n_17=>(if 0≤a1∧a1<((4:Nat):Int) then rdH h0 k0 N0 fun l_18=>if ((o0+32)+((Int.toNat a1)*74))+74≤l_18.length then atK l_6 2 fun q_19=>asI .i64 (.c q_19) fun n_20=>c3 (qh h0 (C 205 [(.agg ((l_18.drop ((o0+32)+((Int.toNat a1)*74))).take 74)),(.c (.int .i64 n_20))] h0)) fun y_22 y_23 y_24 h_21=>asI .i64 y_22 fun n_25=>asI .i64 y_23 fun n_26=>asB y_24 fun b_27=>if b_27=true then some (.normal,(q193_c1 k0 N0 o0 a1 n_25 n_26 (List.replicate 7 (Cell.int .i64 0)) ((l_1.drop ((o0+4)+((Int.toNat a1)*5))).take 5) l_6 h0)) else some (.normal,(q193_c1 k0 N0 o0 a1 n_12 n_17 (List.replicate 7 (Cell.int .i64 0)) ((l_1.drop ((o0+4)+((Int.toNat a1)*5))).take 5) l_6 h0)) else none else none:Option (Ex × St)).bind fun p_109=>(q193_k2 C L G h0) p_109.1 p_109.2 else none else none else none else none else none else none else none else none:=by kernel_rfl
set_option maxRecDepth 100000 in
theorem q194_eq (k0 N0 o0:Nat) (a1 a2:Int) (h0:AHeap):q194.body C L G [(.c (.ptr k0 N0 o0)),(.c (.int .i64 a1)),(.c (.int .i64 a2))] h0=if 0≤a1∧a1<((4:Nat):Int) then rdH h0 k0 N0 fun l_1=>if ((o0+32)+((Int.toNat a1)*74))+74≤l_1.length then c4 (C 192 [(.agg ((l_1.drop ((o0+32)+((Int.toNat a1)*74))).take 74)),(.c (.int .i64 a2))] h0) fun y_3 y_4 y_5 y_6 h_2=>asI .i64 y_3 fun n_7=>asI .i64 y_4 fun n_8=>asI .i64 y_5 fun n_9=>asB y_6 fun b_10=>if 0≤a1∧a1<((4:Nat):Int) then rdH h_2 k0 N0 fun l_11=>if ((o0+32)+((Int.toNat a1)*74))+74≤l_11.length then c1 (qh h_2 (C 207 [(.agg ((l_11.drop ((o0+32)+((Int.toNat a1)*74))).take 74)),(.c (.int .i64 a2))] h_2)) fun y_13 h_12=>asA y_13 fun l_14=>if 0≤a1∧a1<((4:Nat):Int) then rdH h_2 k0 N0 fun l_15=>if ((o0+32)+((Int.toNat a1)*74))+74≤l_15.length∧l_14.length=74 then putH h_2 k0 (splice l_15 ((o0+32)+((Int.toNat a1)*74)) l_14) fun h_16=>if 0≤n_7∧n_7<((4:Nat):Int) then rdH h_16 k0 N0 fun l_17=>if ((o0+24)+((Int.toNat n_7)*1))<l_17.length then putH h_16 k0 (l_17.set ((o0+24)+((Int.toNat n_7)*1)) (.int .i64 n_8)) fun h_18=>if 0≤n_7∧n_7<((4:Nat):Int) then rdH h_18 k0 N0 fun l_19=>if ((o0+28)+((Int.toNat n_7)*1))<l_19.length then putH h_18 k0 (l_19.set ((o0+28)+((Int.toNat n_7)*1)) (.int .i64 n_9)) fun h_20=>if 0=0∧(List.replicate 7 (Cell.int .i64 0)).length=7∧(splice (splice (splice (splice (splice (List.replicate 7 (Cell.int .i64 0)) 1 ([(.int .i64 a1)]:List Cell)) 2 ([(.int .i64 6)]:List Cell)) 3 ([(.int .i64 n_7)]:List Cell)) 5 ([(.int .i64 n_8)]:List Cell)) 6 ([(.int .i64 n_9)]:List Cell)).length=7 then if 0=0∧(splice (splice (splice (splice (splice (List.replicate 7 (Cell.int .i64 0)) 1 ([(.int .i64 a1)]:List Cell)) 2 ([(.int .i64 6)]:List Cell)) 3 ([(.int .i64 n_7)]:List Cell)) 5 ([(.int .i64 n_8)]:List Cell)) 6 ([(.int .i64 n_9)]:List Cell)).length=7 then some ([(.agg (splice (splice (splice (splice (splice (List.replicate 7 (Cell.int .i64 0)) 1 ([(.int .i64 a1)]:List Cell)) 2 ([(.int .i64 6)]:List Cell)) 3 ([(.int .i64 n_7)]:List Cell)) 5 ([(.int .i64 n_8)]:List Cell)) 6 ([(.int .i64 n_9)]:List Cell)))],h_20) else none else none else none else none else none else none else none else none else none else none else none else none:=by kernel_rfl
end Jq

namespace Jq
open Go
def ProgO (n:Nat) (h:AHeap) (cs:List Cell) (P:PProg):Prop :=
  ∃x y th,cs=[x,y,th]∧Own n h x 1 (intC .u8 P.locs) P.locs.length∧Own n h y 1 (intC .i64 P.init) P.init.length∧RowsOwn 9 codeC n h th P.thr
theorem ProgO.at {n:Nat} {h:AHeap} {cs:List Cell} {P:PProg} (p:ProgO n h cs P):ProgAt h cs P:=by
  obtain ⟨x,y,th,rfl,o1,o2,rr⟩:=p
  obtain ⟨us,u1,u2,u3⟩:=rr.of
  exact ⟨x,y,th,us,rfl,⟨o1.at,o1.low⟩,⟨o2.at,o2.low⟩,⟨u1,u2⟩,u3⟩
section
variable {E:Env}
theorem copied_S (hE:q189_In E) {cs:List Cell} {P:PProg} {h:AHeap} (p:ProgAt h cs P) (hsm:P.small) (hll:P.locs.length≤1000) (hil:P.init.length≤1000) :
    ∃cs' h',R E 189 [.agg cs] h=some ([.agg cs'],h')∧ProgO h.length h' cs' P∧Kp h.length h h':=by
  have p0:=p
  obtain ⟨a,b,c,ts,rfl,⟨ha,hal⟩,⟨hb,hbl⟩,⟨hc,hcl⟩,hts⟩:=p
  obtain ⟨x,h1,r1,o1,k1⟩:=slices_Clone_sbyte_byte_R hE.c202 ha hal hll
  obtain ⟨y,h2,r2,o2,k2⟩:=slices_Clone_sint64_int64_R hE.c203 (hb.keep hbl k1) (Low_mono k1.1 hbl) hil
  have k12:Kp h.length h h2:=k1.trans (k2.mono k1.1)
  have n2:=hsm.1
  obtain ⟨st,⟨th,h3,rfl,rr,k3⟩,hL⟩:=Lim_inv (F:=q189_F1 (R E) Lim E.glob) (fun t st=>∃th h',st=q189_s1 c P.thr.length (t:Int) [.nils,.nils,.nils] [x,y,th] h'∧RowsOwn 9 codeC h2.length h' th (P.thr.take t)∧Kp h2.length h2 h') 0 P.thr.length (by omega)
    (fun t st _ ht=>by
      rintro ⟨th,h',rfl,rr,kk⟩
      have hq:P.thr[t]? = some P.thr[t]:=List.getElem?_eq_getElem ht
      generalize P.thr[t]=code at hq
      have hcl2:=hsm.2 code (List.mem_of_getElem? hq)
      obtain ⟨z,z1,z2,z3⟩:=hts t code hq
      have kh:Kp h.length h h':=k12.trans (kk.mono k12.1)
      obtain ⟨x',h'',c1',c2',c3'⟩:=Clone_R hE.c119 (z2.keep z3 kh) (Low_mono kh.1 z3) hcl2
      obtain ⟨th2,h4,ap,r4,k4,_⟩:=(rr.keep c3').push (c2'.monoN kk.1) (fun k q1 q2=>by have:=(c2'.blkLt q1).2;have:=(rr.blkLt q2).1;omega) (Nat.le_trans kk.1 c3'.1) (by rw [List.length_take];omega)
      refine ⟨q189_s1 c P.thr.length ((t+1:Nat):Int) [.nils,.nils,.nils] [x,y,th2] h4,?_,th2,h4,rfl,by rw [takeI_succ hq];exact r4,kk.trans ((c3'.mono kk.1).trans k4)⟩
      rw [q189_r1,if_pos (by simp;omega),(hc.keep hcl kh).get1 ht z1,show ∀{α:Type} (f:Cell→Option α),atK [x,y,th] 2 f=f th from fun _=>rfl,c1',c1_ok,asC_ok,if_pos (show (splice [Cell.nils] 0 ([x']:List Cell)).length=1*1 from rfl),show splice [Cell.nils] 0 ([x']:List Cell)=[x'] from rfl,ap,if_pos (by simp),g_succ (by omega)]
      rfl) (st:=q189_s1 c P.thr.length ((0:Nat):Int) [.nils,.nils,.nils] [x,y,.nils] h2) ⟨.nils,h2,rfl,by rw [List.take_zero];exact RowsOwn.nil _,Kp.refl _ _⟩
  have e1:q189_F1 (R E) Lim E.glob (q189_s1 c P.thr.length (P.thr.length:Int) [.nils,.nils,.nils] [x,y,th] h3)=some (.exit 0,q189_x1_1 [.nils,.nils,.nils] [x,y,th] h3):=by
    rw [q189_r1,if_neg (by simp)]
  have hr:=hL _ (Lim_exit e1)
  rw [show ((0:Nat):Int)=0 from rfl] at hr
  rw [List.take_of_length_le (Nat.le_refl _)] at rr
  have kx:=k2.trans (k3.mono k2.1)
  refine ⟨[x,y,th],h3,R_intro hE.fn ?_,⟨x,y,th,rfl,o1.keepK kx,(o2.keepK k3).monoN k1.1,by
    obtain ⟨ts,w1,w2⟩:=rr
    exact ⟨ts,w1.monoN k12.1,fun t r hr=>by
      obtain ⟨z,z1,z2,z3⟩:=w2 t r hr
      exact ⟨z,z1,z2.monoN k12.1,z3⟩⟩⟩,k12.trans (k3.mono k12.1)⟩
  rw [q189_eq,show ∀{α:Type} (f:Cell→Option α),atK [a,b,c] 0 f=f a from fun _=>rfl,r1,c1_ok,asC_ok,show ∀{α:Type} (f:Cell→Option α),atK [a,b,c] 1 f=f b from fun _=>rfl,r2,c1_ok,asC_ok,if_pos (by exact ⟨rfl,rfl,rfl⟩),show ∀{α:Type} (f:Cell→Option α),atK [a,b,c] 2 f=f c from fun _=>rfl,hc.len]
  refine Eq.trans (congrArg (fun z=>Option.bind z _) hr) ?_
  rw [bind_ok]
  dsimp only
  rw [q189_e1_1,if_pos ⟨rfl,rfl⟩,if_pos ⟨rfl,rfl,rfl⟩,if_pos ⟨rfl,rfl⟩]
end
end Jq

namespace Jq
open Go
structure MV where
  P:PProg
  m:Int
  lc:List Lcl
  mem:List Int
  frm:List Int
  bf:List (List Ent)
  st:List Stp
def bmod (m:Int):Int:=if m=2∨m=3 then m else 0
def vmC (pc:List Cell) (V:MV) (x:Cell):List Cell :=
  pc++(([.int .i64 V.m]:List Cell)++(V.lc.flatMap Lcl.cs++(intC .i64 V.mem++(intC .i64 V.frm++(V.bf.flatMap (bufC (bmod V.m))++[x])))))
structure MV.Fit (V:MV):Prop where
  m:1≤V.m∧V.m≤3
  lc:V.lc.length=4
  mem:V.mem.length=4
  frm:V.frm.length=4
  bf:V.bf.length=4
  b:∀l∈V.bf,l.length≤24
section seg
variable {α:Type}
theorem seg_get {a s b:List α} {n m:Nat} (hn:a.length=n) (hm:s.length=m):((a++(s++b)).drop n).take m=s:=by
  subst hn hm
  rw [List.drop_append_of_le_length (Nat.le_refl _),List.drop_length,List.nil_append,List.take_append_of_le_length (Nat.le_refl _),List.take_length]
theorem seg_set {a s b s':List Cell} {n:Nat} (hn:a.length=n) (hm:s.length=s'.length):splice (a++(s++b)) n s'=a++(s'++b):=by
  subst hn
  unfold splice
  rw [List.take_append_of_le_length (Nat.le_refl _),List.take_length,←hm,←List.append_assoc a s b,List.drop_append,List.drop_of_length_le (by rw [List.length_append];exact Nat.le_refl _),List.nil_append,
    show a.length+s.length - (a++s).length=0 by rw [List.length_append];omega,List.drop_zero,List.append_assoc]
theorem flat_len {f:α→List Cell} {n:Nat}:∀{l:List α},(∀x∈l,(f x).length=n)→(l.flatMap f).length=l.length*n
  | [],_=>by simp
  | x :: l,h=>by
    rw [List.flatMap_cons,List.length_append,h x List.mem_cons_self,flat_len fun y hy=>h y (List.mem_cons_of_mem _ hy),List.length_cons,Nat.succ_mul];omega
theorem flat_split {f:α→List Cell} {l:List α} {i:Nat} {x:α} (h:l[i]? = some x):l.flatMap f=(l.take i).flatMap f++(f x++(l.drop (i+1)).flatMap f):=by
  have hi:=getI_lt h
  have he:l=l.take i++x :: l.drop (i+1):=by
    rw [List.getElem?_eq_getElem hi] at h
    cases h
    rw [List.getElem_cons_drop,List.take_append_drop]
  conv=>lhs;rw [he]
  rw [List.flatMap_append,List.flatMap_cons]
theorem flat_set {f:α→List Cell} {l:List α} {i:Nat} (hi:i<l.length) (y:α):(l.set i y).flatMap f=(l.take i).flatMap f++(f y++(l.drop (i+1)).flatMap f):=by
  have:=flat_split (f:=f) (l:=l.set i y) (i:=i) (x:=y) (by rw [List.getElem?_set_self hi])
  rw [this,List.take_set_of_le (Nat.le_refl _),List.drop_set_of_lt (by omega)]
theorem take_flat_len {f:α→List Cell} {n:Nat} {l:List α} (hl:∀x∈l,(f x).length=n) {i:Nat} (hi:i≤l.length):((l.take i).flatMap f).length=i*n:=by
  rw [flat_len fun x hx=>hl x (List.mem_of_mem_take hx),List.length_take,Nat.min_eq_left hi]
end seg
theorem MV.Fit.lcs {V:MV} {pc:List Cell} (_:V.Fit) (_:pc.length=3):∀l∈V.lc,(Lcl.cs l).length=5:=fun _ _=>rfl
theorem MV.Fit.bfs {V:MV} {pc:List Cell} (f:V.Fit) (_:pc.length=3):∀l∈V.bf,(bufC (bmod V.m) l).length=74:=fun l hl=>bufC_len _ (f.b l hl)
theorem vm_prog {V:MV} {pc:List Cell} {x:Cell} (_:V.Fit) (hpc:pc.length=3):((vmC pc V x).drop (0+0)).take 3=pc:=by
  unfold vmC
  exact seg_get (a:=[]) rfl hpc
theorem vm_m {V:MV} {pc:List Cell} {x:Cell} (_:V.Fit) (hpc:pc.length=3) {α:Type} {g:Cell→Option α}:atK (vmC pc V x) (0+3) g=g (.int .i64 V.m):=by
  unfold vmC
  refine atK_ok ?_
  rw [List.getElem?_append_right (by omega),hpc];rfl
section
variable {V:MV} {pc:List Cell} {x:Cell} (f:V.Fit) (hpc:pc.length=3)
include f hpc
theorem vm_len:(vmC pc V x).length=329:=by
  have h1:=flat_len (f.lcs hpc)
  have h2:=flat_len (f.bfs hpc)
  have:=f.lc;have:=f.mem;have:=f.frm;have:=f.bf
  unfold vmC
  simp only [List.length_append,intC_len,List.length_cons,List.length_nil]
  omega
theorem vm_lensL {t:Nat} {l:Lcl} (h:V.lc[t]? = some l):∃A B:List Cell,vmC pc V x=A++(l.cs++B)∧A.length=(0+4)+t*5∧∀l':Lcl,vmC pc { V with lc:=V.lc.set t l' } x=A++(l'.cs++B):=by
  have hi:=getI_lt h
  have e:=take_flat_len (f.lcs hpc) (Nat.le_of_lt hi)
  refine ⟨pc++(([.int .i64 V.m]:List Cell)++(V.lc.take t).flatMap Lcl.cs),(V.lc.drop (t+1)).flatMap Lcl.cs++(intC .i64 V.mem++(intC .i64 V.frm++(V.bf.flatMap (bufC (bmod V.m))++[x]))),?_,?_,fun l'=>?_⟩
  · unfold vmC;rw [flat_split h];simp only [List.append_assoc]
  · simp only [List.length_append,e,hpc,List.length_cons,List.length_nil];omega
  · unfold vmC;dsimp only;rw [flat_set hi];simp only [List.append_assoc]
theorem vm_lensB {t:Nat} {l:List Ent} (h:V.bf[t]? = some l):∃A B:List Cell,vmC pc V x=A++(bufC (bmod V.m) l++B)∧A.length=(0+32)+t*74∧∀l':List Ent,vmC pc { V with bf:=V.bf.set t l' } x=A++(bufC (bmod V.m) l'++B):=by
  have hi:=getI_lt h
  have e:=take_flat_len (f.bfs hpc) (Nat.le_of_lt hi)
  have e2:=flat_len (f.lcs hpc)
  have:=f.lc;have:=f.mem;have:=f.frm
  refine ⟨pc++(([.int .i64 V.m]:List Cell)++(V.lc.flatMap Lcl.cs++(intC .i64 V.mem++(intC .i64 V.frm++(V.bf.take t).flatMap (bufC (bmod V.m)))))),(V.bf.drop (t+1)).flatMap (bufC (bmod V.m))++[x],?_,?_,fun l'=>?_⟩
  · unfold vmC;rw [flat_split h];simp only [List.append_assoc]
  · simp only [List.length_append,e,e2,hpc,List.length_cons,List.length_nil,intC_len];omega
  · unfold vmC;dsimp only;rw [flat_set hi];simp only [List.append_assoc]
theorem vm_lensM:∃A B:List Cell,vmC pc V x=A++(intC .i64 V.mem++B)∧A.length=0+24∧∀l':List Int,vmC pc { V with mem:=l' } x=A++(intC .i64 l'++B):=by
  have e2:=flat_len (f.lcs hpc)
  have:=f.lc
  refine ⟨pc++(([.int .i64 V.m]:List Cell)++V.lc.flatMap Lcl.cs),intC .i64 V.frm++(V.bf.flatMap (bufC (bmod V.m))++[x]),?_,?_,fun l'=>?_⟩
  · unfold vmC;simp only [List.append_assoc]
  · simp only [List.length_append,e2,hpc,List.length_cons,List.length_nil];omega
  · unfold vmC;simp only [List.append_assoc]
theorem vm_lensF:∃A B:List Cell,vmC pc V x=A++(intC .i64 V.frm++B)∧A.length=0+28∧∀l':List Int,vmC pc { V with frm:=l' } x=A++(intC .i64 l'++B):=by
  have e2:=flat_len (f.lcs hpc)
  have:=f.lc;have:=f.mem
  refine ⟨pc++(([.int .i64 V.m]:List Cell)++(V.lc.flatMap Lcl.cs++intC .i64 V.mem)),V.bf.flatMap (bufC (bmod V.m))++[x],?_,?_,fun l'=>?_⟩
  · unfold vmC;simp only [List.append_assoc]
  · simp only [List.length_append,e2,hpc,List.length_cons,List.length_nil,intC_len];omega
  · unfold vmC;simp only [List.append_assoc]
theorem vm_lensX:∃A:List Cell,(∀y,vmC pc V y=A++[y])∧A.length=328:=by
  have h1:=flat_len (f.lcs hpc)
  have h2:=flat_len (f.bfs hpc)
  have:=f.lc;have:=f.mem;have:=f.frm;have:=f.bf
  refine ⟨pc++(([.int .i64 V.m]:List Cell)++(V.lc.flatMap Lcl.cs++(intC .i64 V.mem++(intC .i64 V.frm++V.bf.flatMap (bufC (bmod V.m)))))),fun y=>?_,?_⟩
  · unfold vmC;simp only [List.append_assoc]
  · simp only [List.length_append,h1,h2,hpc,List.length_cons,List.length_nil,intC_len];omega
theorem vm_lcl {t:Nat} {l:Lcl} (h:V.lc[t]? = some l):((vmC pc V x).drop ((0+4)+t*5)).take 5=l.cs:=by
  obtain ⟨A,B,e,hA,_⟩:=vm_lensL (x:=x) f hpc h
  rw [e];exact seg_get hA rfl
theorem vm_setL {t:Nat} (ht:t<4) (l:Lcl):splice (vmC pc V x) ((0+4)+t*5) l.cs=vmC pc { V with lc:=V.lc.set t l } x:=by
  obtain ⟨A,B,e,hA,h2⟩:=vm_lensL (x:=x) f hpc (List.getElem?_eq_getElem (show t<V.lc.length by rw [f.lc];exact ht))
  rw [e,h2];exact seg_set hA rfl
theorem vm_buf {t:Nat} {l:List Ent} (h:V.bf[t]? = some l):((vmC pc V x).drop ((0+32)+t*74)).take 74=bufC (bmod V.m) l:=by
  obtain ⟨A,B,e,hA,_⟩:=vm_lensB (x:=x) f hpc h
  rw [e];exact seg_get hA (bufC_len _ (f.b _ (List.mem_of_getElem? h)))
theorem vm_setB {t:Nat} (ht:t<4) {l:List Ent} (hl:l.length≤24):splice (vmC pc V x) ((0+32)+t*74) (bufC (bmod V.m) l)=vmC pc { V with bf:=V.bf.set t l } x:=by
  have hq:=List.getElem?_eq_getElem (show t<V.bf.length by rw [f.bf];exact ht)
  obtain ⟨A,B,e,hA,h2⟩:=vm_lensB (x:=x) f hpc hq
  rw [e,h2];exact seg_set hA (by rw [bufC_len _ (f.b _ (List.mem_of_getElem? hq)),bufC_len _ hl])
theorem vm_mem {α:Type} {i:Nat} {v:Int} (h:V.mem[i]? = some v) {g:Cell→Option α}:atK (vmC pc V x) ((0+24)+i*1) g=g (.int .i64 v):=by
  obtain ⟨A,B,e,hA,_⟩:=vm_lensM (x:=x) f hpc
  have hi:=getI_lt h
  refine atK_ok ?_
  rw [e,List.getElem?_append_right (by omega),List.getElem?_append_left (by rw [intC_len];omega),show 0+24+i*1 - A.length=i by omega]
  exact intC_get h
theorem vm_frm {α:Type} {i:Nat} {v:Int} (h:V.frm[i]? = some v) {g:Cell→Option α}:atK (vmC pc V x) ((0+28)+i*1) g=g (.int .i64 v):=by
  obtain ⟨A,B,e,hA,_⟩:=vm_lensF (x:=x) f hpc
  have hi:=getI_lt h
  refine atK_ok ?_
  rw [e,List.getElem?_append_right (by omega),List.getElem?_append_left (by rw [intC_len];omega),show 0+28+i*1 - A.length=i by omega]
  exact intC_get h
theorem vm_setM {i:Nat} (hi:i<4) (v:Int):(vmC pc V x).set ((0+24)+i*1) (.int .i64 v)=vmC pc { V with mem:=V.mem.set i v } x:=by
  obtain ⟨A,B,e,hA,h2⟩:=vm_lensM (x:=x) f hpc
  have:=f.mem
  rw [e,h2,List.set_append_right _ _ (by omega),List.set_append_left _ _ (by rw [intC_len];omega),show 0+24+i*1 - A.length=i by omega]
  unfold intC
  rw [List.map_set]
theorem vm_setF {i:Nat} (hi:i<4) (v:Int):(vmC pc V x).set ((0+28)+i*1) (.int .i64 v)=vmC pc { V with frm:=V.frm.set i v } x:=by
  obtain ⟨A,B,e,hA,h2⟩:=vm_lensF (x:=x) f hpc
  have:=f.frm
  rw [e,h2,List.set_append_right _ _ (by omega),List.set_append_left _ _ (by rw [intC_len];omega),show 0+28+i*1 - A.length=i by omega]
  unfold intC
  rw [List.map_set]
theorem vm_steps {α:Type} {g:Cell→Option α}:atK (vmC pc V x) (0+328) g=g x:=by
  obtain ⟨A,e,hA⟩:=vm_lensX f hpc
  refine atK_ok ?_
  rw [e,List.getElem?_append_right (by omega),hA];rfl
theorem vm_setX (y:Cell):(vmC pc V x).set (0+328) y=vmC pc V y:=by
  obtain ⟨A,e,hA⟩:=vm_lensX f hpc
  rw [e,e,List.set_append_right _ _ (by omega),hA];rfl
end
def MV.l (V:MV) (t:Nat):Lcl:=V.lc.getD t Lcl.zero
def MV.b (V:MV) (t:Nat):List Ent:=V.bf.getD t []
def MV.nxt (V:MV) (t:Nat):Option Ins:=nextI (V.P.code t) (V.l t)
def MV.mayT (V:MV) (t:Nat):Bool:=match V.nxt t with
  | none=>false
  | some i=>!(i.kind==3||i.kind==4)||(V.b t).length==0
def MV.mayF (V:MV) (t:Nat):Bool:=V.m==2&&!((V.b t).length==0)
def MV.mayL (V:MV) (t loc:Nat):Bool:=V.m==3&&((V.b t).find? (oldP 3 (loc:Int))).isSome
def MV.may (V:MV) (i:Nat):Bool :=
  if i<4 then V.mayT i else if i<8 then V.mayF (i - 4) else if i<24 then V.mayL ((i - 8) / 4) ((i - 8) % 4) else false
def wordOf (p:Nat→Bool):Nat→Nat
  | 0=>0
  | n+1=>if p n=true then wordOf p n ||| 2 ^ n else wordOf p n
theorem wordOf_bit (p:Nat→Bool):∀n i,(wordOf p n).testBit i=(decide (i<n)&&p i)
  | 0,i=>by simp [wordOf]
  | n+1,i=>by
    have ih:=wordOf_bit p n i
    rw [wordOf]
    split
    · rename_i hp
      rw [Nat.testBit_or,ih,Nat.testBit_two_pow]
      by_cases h:n=i
      · subst h;simp [hp]
      · rw [decide_eq_false h,Bool.or_false];congr 1;simp;omega
    · rename_i hp
      rw [ih]
      by_cases h:n=i
      · subst h;simp [hp]
      · congr 1;simp;omega
theorem wordOf_lt (p:Nat→Bool) {n:Nat} (hn:n≤64):wordOf p n<2 ^ 64:=by
  refine Nat.lt_pow_two_of_testBit _ fun i hi=>?_
  rw [wordOf_bit,decide_eq_false (by omega)];rfl
def MV.word (V:MV):Nat:=wordOf V.may 24
theorem MV.may_out {V:MV} {i:Nat} (h:24≤i):V.may i=false:=by
  unfold MV.may
  rw [if_neg (by omega),if_neg (by omega),if_neg (by omega)]
theorem MV.word_bit (V:MV) (i:Nat):V.word.testBit i=V.may i:=by
  unfold MV.word
  rw [wordOf_bit]
  by_cases h:i<24
  · rw [decide_eq_true h,Bool.true_and]
  · rw [MV.may_out (by omega),Bool.and_false]
theorem MV.l_at {V:MV} {t:Nat} (h:t<V.lc.length):V.lc[t]? = some (V.l t):=by
  unfold MV.l;rw [List.getD_eq_getElem?_getD,List.getElem?_eq_getElem h];rfl
theorem MV.b_at {V:MV} {t:Nat} (h:t<V.bf.length):V.bf[t]? = some (V.b t):=by
  unfold MV.b;rw [List.getD_eq_getElem?_getD,List.getElem?_eq_getElem h];rfl
end Jq

namespace Jq
open Go
def Dn (a b c i:Nat):Bool:=if i<4 then decide (i<a) else if i<8 then decide (i - 4<b) else decide (i - 8<c)
theorem Dn_t {a b c:Nat} (ha:a<4) (i:Nat):Dn (a+1) b c i=(Dn a b c i||decide (i=a)):=by
  unfold Dn
  rw [Bool.eq_iff_iff]
  split
  · simp;omega
  · split<;>simp<;>omega
theorem Dn_f {a b c:Nat} (hb:b<4) (i:Nat):Dn a (b+1) c i=(Dn a b c i||decide (i=4+b)):=by
  unfold Dn
  rw [Bool.eq_iff_iff]
  split
  · simp;omega
  · split<;>simp<;>omega
theorem Dn_l {a b c:Nat} (i:Nat):Dn a b (c+1) i=(Dn a b c i||decide (i=8+c)):=by
  unfold Dn
  rw [Bool.eq_iff_iff]
  split
  · simp;omega
  · split<;>simp<;>omega
theorem bits_add {M D D':Nat→Bool} {s p:Nat} (hp:p<64) (hs:s<2 ^ 64) (hb:∀i,s.testBit i=(M i&&D i)) (hD:∀i,D' i=(D i||decide (i=p))) :
    (if M p=true then s ||| bitI (p:Int) else s)<2 ^ 64∧∀i,(if M p=true then s ||| bitI (p:Int) else s).testBit i=(M i&&D' i):=by
  have e:bitI (p:Int)=2 ^ p:=by unfold bitI;rw [if_pos ⟨by omega,by omega⟩,Int.toNat_natCast]
  have hlt:=bitI_lt (p:Int)
  rw [e] at hlt ⊢
  refine ⟨?_,fun i=>?_⟩
  · split
    · exact or_lt hs hlt
    · exact hs
  · rw [hD]
    split
    · rename_i hm
      rw [Nat.testBit_or,hb,Nat.testBit_two_pow]
      by_cases h:p=i
      · subst h;simp [hm]
      · rw [decide_eq_false h,decide_eq_false (fun q=>h q.symm)];simp
    · rename_i hm
      rw [hb]
      by_cases h:p=i
      · subst h;simp [hm]
      · rw [decide_eq_false (fun q=>h q.symm)];simp
section
variable {E:Env}
theorem Enabled_R (hE:q172_In E) {h:AHeap} {k:Nat} {x:Cell} {pc:List Cell} {V:MV} (hb:blk? h k=some ⟨true,0,vmC pc V x⟩) (f:V.Fit) (p:ProgAt h pc V.P) :
    R E 172 [.c (.ptr k 329 0)] h=some ([.c (.int .u64 (V.word:Int))],h):=by
  refine R_intro hE.fn ?_
  have hpc:=p.len
  have hl:=vm_len (x:=x) f hpc
  have rd:∀{α:Type} {F:List Cell→Option α},rdH h k 329 F=F (vmC pc V x):=fun {α F}=>rdH_ok hb hl
  have inner:∀(t:Nat) (s:Nat),t<4→s<2 ^ 64→(∀i,s.testBit i=(V.may i&&Dn (t+1) (t+1) (4*t) i)) →
      ∃s':Nat,Lim (q172_F1 (R E) Lim E.glob) (q172_s1 k 329 0 (s:Int) (t:Int) (t:Int) 0 h)=some (.exit 2,q172_x1_3 k 329 0 (s':Int) (t:Int) h)∧s'<2 ^ 64∧∀i,s'.testBit i=(V.may i&&Dn (t+1) (t+1) (4*(t+1)) i):=by
    intro t s ht hs hbit
    obtain ⟨st,⟨s',rfl,hs',hbit'⟩,hL⟩:=Lim_inv (F:=q172_F1 (R E) Lim E.glob) (fun j st=>∃s':Nat,st=q172_s1 k 329 0 (s':Int) (t:Int) (t:Int) (j:Int) h∧s'<2 ^ 64∧∀i,s'.testBit i=(V.may i&&Dn (t+1) (t+1) (4*t+j) i)) 0 4 (by omega)
      (fun j st _ hj=>by
        rintro ⟨s',rfl,hs',hbit'⟩
        obtain ⟨n1,n2⟩:=bits_add (p:=8+(4*t+j)) (by omega) hs' hbit' (fun i=>Dn_l i)
        have hm:V.may (8+(4*t+j))=V.mayL t j:=by
          unfold MV.may
          rw [if_neg (by omega),if_neg (by omega),if_pos (by omega),show (8+(4*t+j) - 8) / 4=t by omega,show (8+(4*t+j) - 8) % 4=j by omega]
        rw [hm] at n1 n2
        refine ⟨q172_s1 k 329 0 ((if V.mayL t j=true then s' ||| bitI ((8+(4*t+j):Nat):Int) else s':Nat):Int) (t:Int) (t:Int) ((j+1:Nat):Int) h,?_,_,rfl,n1,n2⟩
        have hq:=MV.b_at (V:=V) (t:=t) (by rw [f.bf];exact ht)
        have hbl:=f.b _ (List.mem_of_getElem? hq)
        rw [q172_r1,if_pos (by simp;omega),if_pos ⟨by omega,by omega⟩,rd,Int.toNat_natCast,if_pos (by rw [hl];omega),vm_buf f hpc hq,bufOldest_R hE.c192 hbl]
        have key:∀(n1 n2 n3:Int) (b:Bool) (hb:V.m=3→b=((V.b t).find? (oldP 3 (j:Int))).isSome),
            (c4 (some ([AV.c (.int .i64 n1),.c (.int .i64 n2),.c (.int .i64 n3),.c (.bool b)],h)) fun y_39 y_40 y_41 y_42 h_38=>asI .i64 y_39 fun n_43=>asI .i64 y_40 fun n_44=>asI .i64 y_41 fun n_45=>asB y_42 fun b_46=>rdH h_38 k 329 fun l_47=>atK l_47 (0+3) fun q_48=>asI .i64 (.c q_48) fun n_49=>scK (n_49==3) true (some (b_46,h_38)) false h_38 fun b_50 h_51=>if b_50=true then let v_52:Int:=(E.glob.wrap .i64 (8+(E.glob.wrap .i64 (4*(t:Int)))));c1 (R E 18 [(.c (.int .u64 (s':Int))),(.c (.int .i64 (E.glob.wrap .i64 (v_52+(j:Int)))))] h_51) fun y_54 h_53=>asI .u64 y_54 fun n_55=>some (Ex.normal,(q172_s1 k 329 0 n_55 t t (E.glob.wrap .i64 ((j:Int)+1)) h_53)) else some (.normal,(q172_s1 k 329 0 (s':Int) t t (E.glob.wrap .i64 ((j:Int)+1)) h_51))) =
            some (.normal,q172_s1 k 329 0 ((if V.mayL t j=true then s' ||| bitI ((8+(4*t+j):Nat):Int) else s':Nat):Int) (t:Int) (t:Int) ((j+1:Nat):Int) h):=by
          intro n1 n2 n3 b hbb
          rw [c4_ok,asI_ok,asI_ok,asI_ok,asB_ok,rd,vm_m f hpc,asI_ok,scK_and,g_succ (by omega)]
          have e:V.mayL t j=((V.m==3)&&b):=by
            unfold MV.mayL
            by_cases h3:V.m=3
            · rw [hbb h3]
            · rw [beq_false_of_ne h3];rfl
          rw [e]
          cases hv:((V.m==3)&&b) with
          | false=>rfl
          | true =>
            simp only [if_true]
            rw [g_wrap_i64 (x:=4*(t:Int)) (by omega) (by omega),g_wrap_i64 (x:=8+4*(t:Int)) (by omega) (by omega),g_wrap_i64 (by omega) (by omega),show (8+4*(t:Int)+(j:Int))=((8+(4*t+j):Nat):Int) by omega,With_R hE.c18 hs',c1_ok,asI_ok]
        have e3:V.m=3→bmod V.m=3:=fun h=>by unfold bmod;rw [h];rfl
        cases hf:(V.b t).find? (oldP (bmod V.m) (j:Int)) with
        | none=>exact key _ _ _ _ fun h3=>by rw [e3 h3] at hf;rw [hf];rfl
        | some e=>exact key _ _ _ _ fun h3=>by rw [e3 h3] at hf;rw [hf];rfl) (st:=q172_s1 k 329 0 (s:Int) (t:Int) (t:Int) ((0:Nat):Int) h) ⟨s,rfl,hs,hbit⟩
    refine ⟨s',hL _ (Lim_exit ?_),hs',fun i=>by rw [hbit',Nat.mul_succ]⟩
    rw [q172_r1,if_neg (by simp)]
  obtain ⟨st,⟨s,rfl,hs,hbit⟩,hL⟩:=Lim_inv (F:=q172_F2 (R E) Lim E.glob) (fun t st=>∃s:Nat,st=q172_s2 k 329 0 (s:Int) (t:Int) h∧s<2 ^ 64∧∀i,s.testBit i=(V.may i&&Dn t t (4*t) i)) 0 4 (by omega)
    (fun t st _ ht=>by
      rintro ⟨s,rfl,hs,hbit⟩
      have hq:=MV.b_at (V:=V) (t:=t) (by rw [f.bf];exact ht)
      have hbl:=f.b _ (List.mem_of_getElem? hq)
      have hql:=MV.l_at (V:=V) (t:=t) (by rw [f.lc];exact ht)
      obtain ⟨a1,a2⟩:=bits_add (p:=t) (by omega) hs hbit (fun i=>Dn_t ht i)
      have hm1:V.may t=V.mayT t:=by unfold MV.may;rw [if_pos ht]
      rw [hm1] at a1 a2
      obtain ⟨b1,b2⟩:=bits_add (p:=4+t) (by omega) a1 a2 (fun i=>Dn_f ht i)
      have hm2:V.may (4+t)=V.mayF t:=by unfold MV.may;rw [if_neg (by omega),if_pos (by omega),show 4+t - 4=t by omega]
      rw [hm2] at b1 b2
      generalize hs1:(if V.mayT t=true then s ||| bitI (t:Int) else s)=s1 at *
      generalize hs2:(if V.mayF t=true then s1 ||| bitI ((4+t:Nat):Int) else s1)=s2 at *
      obtain ⟨s3,l1,l2,l3⟩:=inner t s2 ht b1 b2
      refine ⟨q172_s2 k 329 0 (s3:Int) ((t+1:Nat):Int) h,?_,s3,rfl,l2,l3⟩
      have hr:0≤(t:Int)∧(t:Int)<((4:Nat):Int):=⟨by omega,by omega⟩
      have h74:(0+32)+t*74+74≤(vmC pc V x).length:=by rw [hl];omega
      have hemp:∀{β:Type} (g:Bool→AHeap→Option β),(c1 (R E 191 [(.agg (bufC (bmod V.m) (V.b t)))] h) fun y h'=>asB y fun b=>g b h')=g ((V.b t).length==0) h:=fun g=>by
        rw [bufEmpty_R hE.c191,c1_ok,asB_ok]
      have hk:(q172_k6 (R E) Lim E.glob) .normal (q172_c1 k 329 0 (s1:Int) (t:Int) (t:Int) h)=some (.normal,q172_s2 k 329 0 (s3:Int) ((t+1:Nat):Int) h):=by
        have fin:∀w:Nat,w=s2→(Lim (q172_F1 (R E) Lim E.glob) (q172_s1 k 329 0 (w:Int) (t:Int) (t:Int) 0 h)).bind (fun p_56=>(q172_k7 (R E) Lim E.glob) p_56.1 p_56.2)=some (.normal,q172_s2 k 329 0 (s3:Int) ((t+1:Nat):Int) h):=by
          rintro w rfl
          rw [l1,bind_ok]
          dsimp only
          rw [q172_e1_3,g_succ (by omega)]
        rw [q172_ec1_n,rd,vm_m f hpc,asI_ok]
        simp only [rd,Int.toNat_natCast,if_pos hr,if_pos h74,vm_buf f hpc hq,bufEmpty_R hE.c191,c1_ok,asB_ok,scK_and]
        rw [show (V.m==2&&!((V.b t).length==0))=V.mayF t from rfl]
        cases hv:V.mayF t with
        | false =>
          rw [hv] at hs2
          exact fin s1 hs2
        | true =>
          rw [hv,if_pos rfl] at hs2
          rw [if_pos rfl,g_wrap_i64 (by omega) (by omega),show (4+(t:Int))=((4+t:Nat):Int) by omega,With_R hE.c18 a1,c1_ok,asI_ok]
          exact fin _ hs2
      rw [q172_r2,if_pos (by simp;omega),rd,if_pos (by rw [hl];omega),if_pos hr,rd,Int.toNat_natCast,if_pos (by rw [hl];omega),vm_prog f hpc,vm_lcl f hpc hql,PNext_R hE.c105 p,qh_ok,c2_ok,asA_ok,asB_ok,if_pos (by exact ⟨rfl,rfl,rfl⟩)]
      simp only [ins_kind,asI_ok,scK_or,rd,if_pos hr,if_pos h74,vm_buf f hpc hq,bufEmpty_R hE.c191,c1_ok,asB_ok]
      have step:∀b:Bool,b=V.mayT t→((if b=true then c1 (R E 18 [(.c (.int .u64 (s:Int))),(.c (.int .i64 (t:Int)))] h) fun y_23 h_22=>asI .u64 y_23 fun n_24=>some (Ex.normal,(q172_c1 k 329 0 n_24 t t h_22)) else some (.normal,(q172_c1 k 329 0 (s:Int) t t h)):Option (Ex × St)).bind fun p_58=>(q172_k6 (R E) Lim E.glob) p_58.1 p_58.2)=some (.normal,q172_s2 k 329 0 (s3:Int) ((t+1:Nat):Int) h):=by
        rintro b rfl
        cases hv:V.mayT t with
        | false =>
          rw [hv] at hs1
          rw [if_neg (by simp),bind_ok]
          rw [if_neg (by simp)] at hs1
          rw [hs1];exact hk
        | true =>
          rw [hv,if_pos rfl] at hs1
          rw [if_pos rfl,With_R hE.c18 hs,c1_ok,asI_ok,bind_ok,hs1]
          exact hk
      have hT:V.mayT t=match nextI (V.P.code t) (V.l t) with | none=>false | some i=>!(i.kind==3||i.kind==4)||(V.b t).length==0:=rfl
      cases hn:nextI (V.P.code t) (V.l t) with
      | none =>
        rw [hn] at hT
        exact step false hT.symm
      | some i =>
        rw [hn] at hT
        dsimp only at hT
        simp only [Option.getD_some,Option.isSome_some]
        cases hkk:(i.kind==3||i.kind==4) with
        | false=>exact step true (by rw [hT,hkk];rfl)
        | true=>exact step _ (by rw [hT,hkk])) (st:=q172_s2 k 329 0 ((0:Nat):Int) ((0:Nat):Int) h) ⟨0,rfl,by decide,fun i=>by
        rw [show Dn 0 0 (4*0) i=false by unfold Dn;split<;>(try split)<;>simp,Bool.and_false];simp⟩
  have hw:s=V.word:=by
    refine Nat.eq_of_testBit_eq fun i=>?_
    rw [hbit,MV.word_bit]
    by_cases hi:i<24
    · rw [show Dn 4 4 (4*4) i=true by unfold Dn;split;(· exact decide_eq_true (by omega));split<;>exact decide_eq_true (by omega),Bool.and_true]
    · rw [MV.may_out (by omega)];rfl
  subst hw
  have e1:q172_F2 (R E) Lim E.glob (q172_s2 k 329 0 (V.word:Int) ((4:Nat):Int) h)=some (.exit 0,q172_x2_1 (V.word:Int) h):=by
    rw [q172_r2,if_neg (by simp)]
  have hr:=hL _ (Lim_exit e1)
  rw [show (((0:Nat):Int))=0 from rfl] at hr
  rw [q172_eq,hr,bind_ok]
  dsimp only
  rw [q172_e2_1]
end
end Jq

namespace Jq
open Go
theorem prog_at {n:Nat} {h h':AHeap} {pc:List Cell} {P:PProg} (p:ProgAt (h.take n) pc P) (hn:n≤h.length) (hk:Kp n h h'):ProgAt h' pc P:=by
  have hl:(h.take n).length=n:=by rw [List.length_take];omega
  refine p.keep ⟨by rw [hl];exact Nat.le_trans hn hk.1,fun k hk2=>?_⟩
  rw [hl] at hk2
  rw [hk.2 k hk2,List.getElem?_take,if_pos hk2]
theorem putB {α:Type} {h:AHeap} {k:Nat} {l:List Cell} (hb:blk? h k=some ⟨true,0,l⟩) {cs:List Cell} {F:AHeap→Option α}:putH h k cs F=F (setBlk h k (some ⟨true,0,cs⟩)):=putH_ok hb rfl
def MV.val (V:MV) (t:Nat) (i:Ins):Int × Int:=match newE i.loc (V.b t) with
  | some e=>(e.val,e.id)
  | none=>(V.mem.getD i.loc.toNat 0,V.frm.getD i.loc.toNat 0)
def MV.wr (V:MV) (t:Nat) (e:Evt):MV :=
  if e.kind=2∧V.m≠1 then { V with bf:=V.bf.set t (V.b t++[⟨e.loc,e.w,V.st.length⟩]) }
  else if evWr e=true then { V with mem:=V.mem.set e.loc.toNat e.w,frm:=V.frm.set e.loc.toNat V.st.length }
  else V
def MV.thrM (V:MV) (t:Nat) (i:Ins):MV :=
  { V.wr t (evOf i (V.l t) (V.val t i).1) with lc:=V.lc.set t (afterL (V.P.code t) (V.l t) (V.val t i).1) }
def MV.thrS (V:MV) (t:Nat) (i:Ins):Stp :=
  ⟨0,t,(evOf i (V.l t) (V.val t i).1).kind,(evOf i (V.l t) (V.val t i).1).loc,(evOf i (V.l t) (V.val t i).1).r,(evOf i (V.l t) (V.val t i).1).w,if rdI i=true then (V.val t i).2 else -1⟩
theorem evt_kind {α:Type} {e:Evt} {f:Cell→Option α}:atK e.cs 2 f=f (.int .i64 e.kind):=rfl
theorem evt_loc {α:Type} {e:Evt} {f:Cell→Option α}:atK e.cs 3 f=f (.int .i64 e.loc):=rfl
theorem evt_r {α:Type} {e:Evt} {f:Cell→Option α}:atK e.cs 4 f=f (.int .i64 e.r):=rfl
theorem evt_w {α:Type} {e:Evt} {f:Cell→Option α}:atK e.cs 5 f=f (.int .i64 e.w):=rfl
theorem evOf_loc {i:Ins} {l:Lcl} {v:Int} (h:0≤i.loc∧i.loc<4):0≤(evOf i l v).loc∧(evOf i l v).loc<4:=by
  unfold evOf
  split
  · exact h
  · split
    · exact h
    · split
      · split<;>exact h
      · exact ⟨by decide,by decide⟩
section
variable {E:Env}
set_option maxHeartbeats 1000000 in
theorem thread_R' (hE:q193_In E) {n k:Nat} {h:AHeap} {x:Cell} {pc:List Cell} {V:MV} (hb:blk? h k=some ⟨true,0,vmC pc V x⟩) (f:V.Fit) (hp:ProgAt (h.take n) pc V.P) (hn:n≤h.length) (hnk:n≤k)
    (hP:V.P.fits) (hx:Own n h x 7 (stepsC V.st) V.st.length) {t:Nat} (ht:t<4) {i:Ins} (hi:V.nxt t=some i) (hloc:0≤i.loc∧i.loc<4) (hbl:(V.b t).length<24) :
    R E 193 [.c (.ptr k 329 0),.c (.int .i64 (t:Int))] h=some ([.agg (V.thrS t i).cs],setBlk h k (some ⟨true,0,vmC pc (V.thrM t i) x⟩)):=by
  refine R_intro hE.fn ?_
  have hpc:=hp.len
  have hl:=vm_len (x:=x) f hpc
  have rd:∀{α:Type} {F:List Cell→Option α},rdH h k 329 F=F (vmC pc V x):=fun {α F}=>rdH_ok hb hl
  have p:=prog_at hp hn (Kp.refl n h)
  have hr:0≤(t:Int)∧(t:Int)<((4:Nat):Int):=⟨by omega,by omega⟩
  have h74:(0+32)+t*74+74≤(vmC pc V x).length:=by rw [hl];omega
  have hq:=MV.b_at (V:=V) (t:=t) (by rw [f.bf];exact ht)
  have hql:=MV.l_at (V:=V) (t:=t) (by rw [f.lc];exact ht)
  have hil:0≤i.loc∧i.loc<((4:Nat):Int):=⟨hloc.1,by omega⟩
  have hi4:i.loc.toNat<4:=by omega
  have hmem:V.mem[i.loc.toNat]? = some (V.mem.getD i.loc.toNat 0):=by
    rw [List.getD_eq_getElem?_getD,List.getElem?_eq_getElem (by rw [f.mem];exact hi4)];rfl
  have hfrm:V.frm[i.loc.toNat]? = some (V.frm.getD i.loc.toNat 0):=by
    rw [List.getD_eq_getElem?_getD,List.getElem?_eq_getElem (by rw [f.frm];exact hi4)];rfl
  have hk:k<h.length:=blk_lt' hb
  have hlcs:(Lcl.cs (V.l t)).length=5:=rfl
  have two:∀(v fr:Int),v=(V.val t i).1→fr=(V.val t i).2 →
      (q193_k2 (R E) Lim E.glob h) .normal (q193_c1 k 329 0 (t:Int) v fr (List.replicate 7 (Cell.int .i64 0)) (V.l t).cs i.cs h)=some ([.agg (V.thrS t i).cs],setBlk h k (some ⟨true,0,vmC pc (V.thrM t i) x⟩)):=by
    rintro v fr hv hfr
    have three:∀a9:Int,a9=(if rdI i=true then fr else -1) →
        (q193_k3 (R E) Lim E.glob h) .normal (q193_c2 k 329 0 (t:Int) v a9 (List.replicate 7 (Cell.int .i64 0)) (V.l t).cs (evOf i (V.l t) v).cs h)=some ([.agg (V.thrS t i).cs],setBlk h k (some ⟨true,0,vmC pc (V.thrM t i) x⟩)):=by
      intro a9 h9
      have hev:=evOf_loc (l:=V.l t) (v:=v) hloc
      have hS:V.thrS t i=⟨0,t,(evOf i (V.l t) v).kind,(evOf i (V.l t) v).loc,(evOf i (V.l t) v).r,(evOf i (V.l t) v).w,a9⟩:=by unfold MV.thrS;rw [←hv,←hfr,h9]
      have hM:V.thrM t i={ V.wr t (evOf i (V.l t) v) with lc:=V.lc.set t (afterL (V.P.code t) (V.l t) v) }:=by unfold MV.thrM;rw [←hv]
      rw [hS,hM]
      generalize evOf i (V.l t) v=e at hev
      have he:0≤e.loc∧e.loc<((4:Nat):Int):=⟨hev.1,by omega⟩
      have he4:e.loc.toNat<4:=by omega
      rw [q193_ec2_n,rd,vm_steps f hpc,hx.at.len,evt_kind,asI_ok]
      simp only [rd,vm_m f hpc,asI_ok,scK_and]
      unfold MV.wr
      by_cases h2:e.kind=2∧V.m≠1
      · have hm0:bmod V.m≠0:=by have:=f.m;unfold bmod;rw [if_pos (by omega)];omega
        rw [if_pos (by rw [Bool.and_eq_true];exact ⟨beq_iff_eq.2 h2.1,bne_iff_ne.2 h2.2⟩),if_pos h2]
        have hbl2:(V.b t++[(⟨e.loc,e.w,V.st.length⟩:Ent)]).length≤24:=by rw [List.length_append,List.length_singleton];omega
        rw [if_pos hr,Int.toNat_natCast,if_pos h74,evt_loc,asI_ok,evt_w,asI_ok,vm_buf f hpc hq,bufPut_R hE.c206 hbl hm0 hev,qh_ok,c1_ok,asA_ok,if_pos hr,if_pos (by exact ⟨h74,bufC_len _ hbl2⟩),vm_setB f hpc ht hbl2,putB hb]
        have fW:MV.Fit { V with bf:=V.bf.set t (V.b t++[⟨e.loc,e.w,V.st.length⟩]) }:=⟨f.m,f.lc,f.mem,f.frm,by rw [List.length_set];exact f.bf,fun l hl=>by
          rcases List.mem_or_eq_of_mem_set hl with hl | rfl
          · exact f.b l hl
          · exact hbl2⟩
        have hb2:blk? (setBlk h k (some ⟨true,0,vmC pc { V with bf:=V.bf.set t (V.b t++[⟨e.loc,e.w,V.st.length⟩]) } x⟩)) k=some ⟨true,0,vmC pc { V with bf:=V.bf.set t (V.b t++[⟨e.loc,e.w,V.st.length⟩]) } x⟩:=blk_set_self hk _
        rw [rdH_ok hb2 (vm_len fW hpc),if_pos (by rw [vm_len fW hpc];omega),if_pos (by exact ⟨by trivial,rfl⟩),vm_prog fW hpc,PAfter_R hE.c106 hP (prog_at hp hn (Kp.set hnk _)),qh_ok,c1_ok,asA_ok,if_pos hr,rdH_ok hb2 (vm_len fW hpc),if_pos (by exact ⟨by rw [vm_len fW hpc];omega,rfl⟩)]
        try rw [Int.toNat_natCast]
        rw [vm_setL fW hpc ht,putB hb2]
        simp only [evt_kind,evt_loc,evt_r,evt_w,asI_ok]
        rw [if_pos (by exact ⟨by trivial,rfl,rfl⟩),if_pos (by exact ⟨by trivial,rfl⟩)]
        rw [setBlk_set]
        rfl
      · rw [if_neg (by rw [Bool.and_eq_true];intro q;exact h2 ⟨beq_iff_eq.1 q.1,bne_iff_ne.1 q.2⟩),if_neg h2,if_pos (by exact ⟨by trivial,rfl⟩),evWrites_R hE.c80,c1_ok,asB_ok]
        cases hw:evWr e with
        | true =>
          rw [if_pos rfl,if_pos rfl]
          simp only [evt_loc,evt_w,asI_ok]
          have fW1:MV.Fit { V with mem:=V.mem.set e.loc.toNat e.w }:=⟨f.m,f.lc,by rw [List.length_set];exact f.mem,f.frm,f.bf,f.b⟩
          have hb1:blk? (setBlk h k (some ⟨true,0,vmC pc { V with mem:=V.mem.set e.loc.toNat e.w } x⟩)) k=some ⟨true,0,vmC pc { V with mem:=V.mem.set e.loc.toNat e.w } x⟩:=blk_set_self hk _
          have fW:MV.Fit { V with mem:=V.mem.set e.loc.toNat e.w,frm:=V.frm.set e.loc.toNat V.st.length }:=⟨f.m,f.lc,by rw [List.length_set];exact f.mem,by rw [List.length_set];exact f.frm,f.bf,f.b⟩
          have hb2:blk? (setBlk h k (some ⟨true,0,vmC pc { V with mem:=V.mem.set e.loc.toNat e.w,frm:=V.frm.set e.loc.toNat V.st.length } x⟩)) k=some ⟨true,0,vmC pc { V with mem:=V.mem.set e.loc.toNat e.w,frm:=V.frm.set e.loc.toNat V.st.length } x⟩:=blk_set_self hk _
          rw [if_pos he,rd,if_pos (by rw [hl];omega),vm_setM f hpc he4,putB hb,if_pos he,rdH_ok hb1 (vm_len fW1 hpc),if_pos (by rw [vm_len fW1 hpc];omega),vm_setF fW1 hpc he4,putB hb1,setBlk_set]
          rw [rdH_ok hb2 (vm_len fW hpc),if_pos (by rw [vm_len fW hpc];omega),if_pos (by exact ⟨by trivial,rfl⟩),vm_prog fW hpc,PAfter_R hE.c106 hP (prog_at hp hn (Kp.set hnk _)),qh_ok,c1_ok,asA_ok,if_pos hr,rdH_ok hb2 (vm_len fW hpc),if_pos (by exact ⟨by rw [vm_len fW hpc];omega,rfl⟩)]
          try rw [Int.toNat_natCast]
          rw [vm_setL fW hpc ht,putB hb2]
          simp only [evt_kind,evt_r,asI_ok]
          rw [if_pos (by exact ⟨by trivial,rfl,rfl⟩),if_pos (by exact ⟨by trivial,rfl⟩)]
          rw [setBlk_set]
          rfl
        | false =>
          rw [if_neg (by simp),if_neg (by simp)]
          rw [rdH_ok hb (vm_len f hpc),if_pos (by rw [vm_len f hpc];omega),if_pos (by exact ⟨by trivial,rfl⟩),vm_prog f hpc,PAfter_R hE.c106 hP (prog_at hp hn (Kp.refl n h)),qh_ok,c1_ok,asA_ok,if_pos hr,rdH_ok hb (vm_len f hpc),if_pos (by exact ⟨by rw [vm_len f hpc];omega,rfl⟩)]
          try rw [Int.toNat_natCast]
          rw [vm_setL f hpc ht,putB hb]
          simp only [evt_kind,evt_loc,evt_r,evt_w,asI_ok]
          rw [if_pos (by exact ⟨by trivial,rfl,rfl⟩),if_pos (by exact ⟨by trivial,rfl⟩)]
          rfl
    rw [q193_ec1_n,if_pos (by exact ⟨by trivial,rfl⟩),if_pos (by exact ⟨by trivial,rfl⟩),evOf_prog hE.c109,c2_ok,asA_ok,asB_ok,if_pos (by exact ⟨by trivial,rfl,rfl⟩)]
    cases hrd:rdI i with
    | false=>exact three (-1) (by rw [hrd];rfl)
    | true=>exact three fr (by rw [hrd];rfl)
  rw [q193_eq,if_pos hr,rd,Int.toNat_natCast,if_pos (by rw [hl];omega),vm_lcl f hpc hql,if_pos (by exact ⟨by trivial,rfl,rfl⟩),rd,if_pos (by rw [hl];omega),if_pos (by exact ⟨by trivial,rfl⟩),vm_prog f hpc,PNext_R hE.c105 p,qh_ok,c2_ok,asA_ok,asB_ok,if_pos (by exact ⟨by trivial,rfl,rfl⟩)]
  rw [show nextI (V.P.code t) (V.l t)=some i from hi]
  simp only [Option.getD_some,ins_loc,asI_ok]
  rw [if_pos hil,rd,vm_mem f hpc hmem,asI_ok,if_pos hil,rd,vm_frm f hpc hfrm,asI_ok,if_pos hr,rd,if_pos h74,vm_buf f hpc hq,bufNewest_R hE.c205 (Nat.le_of_lt hbl)]
  have hv:V.val t i=match newE i.loc (V.b t) with | some e=>(e.val,e.id) | none=>(V.mem.getD i.loc.toNat 0,V.frm.getD i.loc.toNat 0):=rfl
  cases hnw:newE i.loc (V.b t) with
  | none =>
    rw [hnw] at hv
    dsimp only
    rw [qh_ok,c3_ok,asI_ok,asI_ok,asB_ok,if_neg (by simp),bind_ok]
    exact two _ _ (by rw [hv]) (by rw [hv])
  | some e =>
    rw [hnw] at hv
    dsimp only
    rw [qh_ok,c3_ok,asI_ok,asI_ok,asB_ok,if_pos rfl,bind_ok]
    exact two _ _ (by rw [hv]) (by rw [hv])
end
end Jq

namespace Jq
open Go
def MV.fluE (V:MV) (t:Nat) (loc:Int):Ent:=((V.b t).find? (oldP (bmod V.m) loc)).getD ⟨0,0,0⟩
def MV.fluM (V:MV) (t:Nat) (loc:Int):MV :=
  { V with bf:=V.bf.set t ((V.b t).eraseP (oldP (bmod V.m) loc)),mem:=V.mem.set (V.fluE t loc).loc.toNat (V.fluE t loc).val,frm:=V.frm.set (V.fluE t loc).loc.toNat (V.fluE t loc).id }
def MV.fluS (V:MV) (t:Nat) (loc:Int):Stp:=⟨0,t,6,(V.fluE t loc).loc,0,(V.fluE t loc).val,(V.fluE t loc).id⟩
def MV.thrI (V:MV) (t:Nat):Ins:=(V.nxt t).getD Ins.zero
def MV.stp (V:MV) (i:Nat):Stp :=
  { (if i<4 then V.thrS i (V.thrI i) else if i<8 then V.fluS (i - 4) 0 else V.fluS ((i - 8) / 4) (((i - 8) % 4:Nat):Int)) with pick:=i }
def MV.nx (V:MV) (i:Nat):MV :=
  { (if i<4 then V.thrM i (V.thrI i) else if i<8 then V.fluM (i - 4) 0 else V.fluM ((i - 8) / 4) (((i - 8) % 4:Nat):Int)) with st:=V.st++[V.stp i] }
structure MV.Inv (V:MV):Prop where
  fit:V.Fit
  small:V.P.small
  fld:∀c∈V.P.thr,∀i∈c,fldB (hasB V.P) i=true
  locs:V.P.locs.length≤4
  c10:∀c∈V.P.thr,c.length≤10
  ents:∀b∈V.bf,∀e∈b,0≤e.loc∧e.loc<4
  pcs:∀t,t<4→((V.b t).length:Int)≤(V.l t).pc
theorem fldV_loc {P:PProg} (h4:P.locs.length≤4) {i:Ins} (h:fldB (hasB P) i=true) (hk:1≤i.kind∧i.kind≤4):0≤i.loc∧i.loc<4:=by
  unfold fldB hasB at h
  split at h
  · simp at h;omega
  · split at h
    · simp at h;omega
    · split at h
      · have h:=of_decide_eq_true h
        unfold Ins.cs at h
        simp at h
        omega
      · split at h
        · simp at h;omega
        · omega
theorem MV.Inv.code10 {V:MV} (v:V.Inv) (t:Int):(V.P.code t).length≤10:=by
  unfold PProg.code
  split
  · rw [List.getD_eq_getElem?_getD]
    cases hq:V.P.thr[t.toNat]? with
    | none=>simp
    | some c=>exact v.c10 c (List.mem_of_getElem? hq)
  · simp
theorem MV.Inv.nxt {V:MV} (v:V.Inv) {t:Nat} {i:Ins} (h:V.nxt t=some i):(0≤i.loc∧i.loc<4)∧(1≤i.kind∧i.kind≤4)∧0≤(V.l t).pc∧(V.l t).pc<10∧i∈V.P.code t:=by
  obtain ⟨h1,h2,h3,h4,h5⟩:=nextI_kind h
  have hm:i∈V.P.code t:=List.mem_of_getElem? h3
  have:=v.code10 t
  refine ⟨fldV_loc v.locs ?_ ⟨h4,h5⟩,⟨h4,h5⟩,h1,by omega,hm⟩
  unfold PProg.code at hm
  split at hm
  · rw [List.getD_eq_getElem?_getD] at hm
    cases hq:V.P.thr[(t:Int).toNat]? with
    | none=>rw [hq] at hm;simp at hm
    | some c=>rw [hq] at hm;exact v.fld c (List.mem_of_getElem? hq) i hm
  · simp at hm
theorem MV.Inv.blen {V:MV} (v:V.Inv) {t:Nat} (ht:t<4):(V.b t).length≤24:=v.fit.b _ (List.mem_of_getElem? (MV.b_at (by rw [v.fit.bf];exact ht)))
structure VmAt (n:Nat) (h:AHeap) (k:Nat) (x:Cell) (pc:List Cell) (V:MV):Prop where
  hn:n≤h.length
  nk:n≤k
  prog:ProgAt (h.take n) pc V.P
  blk:blk? h k=some ⟨true,0,vmC pc V x⟩
  st:Own n h x 7 (stepsC V.st) V.st.length
  sep:¬isBlk x k
structure KpV (n k:Nat) (x x':Cell) (h h':AHeap):Prop where
  kp:Kp n h h'
  old:∀j b,blk? h j=some b→j≠k→¬isBlk x j→blk? h' j=some b∧¬isBlk x' j
theorem Own.blkLt' {n:Nat} {h:AHeap} {x:Cell} {esz len:Nat} {cs:List Cell} (o:Own n h x esz cs len) {k:Nat} (hk:isBlk x k):n≤k∧k<h.length:=by
  rcases o.2 with ⟨rfl,_⟩ | ⟨k',rfl,h1,h2⟩
  · exact absurd hk (by simp [isBlk])
  · cases hk;exact ⟨h1,blk_lt' h2⟩
theorem Own.setO {n:Nat} {h:AHeap} {x:Cell} {esz len:Nat} {cs:List Cell} (o:Own n h x esz cs len) {k:Nat} (hk:¬isBlk x k) (b:Option Blk):Own n (setBlk h k b) x esz cs len:=by
  refine ⟨o.1,o.2.imp id ?_⟩
  rintro ⟨k',rfl,h1,h2⟩
  exact ⟨k',rfl,h1,by rw [blk_set_ne (fun e=>hk e.symm)];exact h2⟩
theorem MV.word_lt (V:MV):V.word<2 ^ 64:=wordOf_lt _ (by omega)
section
variable {E:Env}
theorem flush_R' (hE:q194_In E) {k:Nat} {h:AHeap} {x:Cell} {pc:List Cell} {V:MV} (hb:blk? h k=some ⟨true,0,vmC pc V x⟩) (v:V.Inv) (hpc:pc.length=3)
    {t:Nat} (ht:t<4) {loc:Int} (hf:((V.b t).find? (oldP (bmod V.m) loc)).isSome=true) :
    R E 194 [.c (.ptr k 329 0),.c (.int .i64 (t:Int)),.c (.int .i64 loc)] h=some ([.agg (V.fluS t loc).cs],setBlk h k (some ⟨true,0,vmC pc (V.fluM t loc) x⟩)):=by
  refine R_intro hE.fn ?_
  have f:=v.fit
  have hl:=vm_len (x:=x) f hpc
  have rd:∀{α:Type} {F:List Cell→Option α},rdH h k 329 F=F (vmC pc V x):=fun {α F}=>rdH_ok hb hl
  have hr:0≤(t:Int)∧(t:Int)<((4:Nat):Int):=⟨by omega,by omega⟩
  have h74:(0+32)+t*74+74≤(vmC pc V x).length:=by rw [hl];omega
  have hq:=MV.b_at (V:=V) (t:=t) (by rw [f.bf];exact ht)
  have hbl:=v.blen ht
  have hk:k<h.length:=blk_lt' hb
  cases he:(V.b t).find? (oldP (bmod V.m) loc) with
  | none=>rw [he] at hf;cases hf
  | some e =>
    have hee:V.fluE t loc=e:=by unfold MV.fluE;rw [he];rfl
    have hel:=v.ents _ (List.mem_of_getElem? hq) e (List.mem_of_find?_eq_some he)
    have hel':0≤e.loc∧e.loc<((4:Nat):Int):=⟨hel.1,by omega⟩
    have he4:e.loc.toNat<4:=by omega
    obtain ⟨j,hj⟩:∃j,(V.b t).findIdx? (oldP (bmod V.m) loc)=some j:=by
      cases hx:(V.b t).findIdx? (oldP (bmod V.m) loc) with
      | some j=>exact ⟨j,rfl⟩
      | none =>
        rw [List.findIdx?_eq_none_iff] at hx
        have:=hx e (List.mem_of_find?_eq_some he)
        rw [List.find?_some he] at this;cases this
    have hep:(V.b t).eraseP (oldP (bmod V.m) loc)=(V.b t).eraseIdx j:=by rw [List.eraseP_eq_eraseIdx,hj]
    have hlen2:((V.b t).eraseIdx j).length≤24:=by rw [List.length_eraseIdx];split<;>omega
    unfold MV.fluM MV.fluS
    rw [hee,hep]
    have f1:MV.Fit { V with bf:=V.bf.set t ((V.b t).eraseIdx j) }:=⟨f.m,f.lc,f.mem,f.frm,by rw [List.length_set];exact f.bf,fun l hl=>by
      rcases List.mem_or_eq_of_mem_set hl with hl | rfl
      · exact f.b l hl
      · exact hlen2⟩
    have f2:MV.Fit { V with bf:=V.bf.set t ((V.b t).eraseIdx j),mem:=V.mem.set e.loc.toNat e.val }:=⟨f1.m,f1.lc,by rw [List.length_set];exact f1.mem,f1.frm,f1.bf,f1.b⟩
    have b1:∀l,blk? (setBlk h k (some ⟨true,0,l⟩)) k=some ⟨true,0,l⟩:=fun l=>blk_set_self hk _
    have rd1:∀(W:MV) (fW:W.Fit) {α:Type} {F:List Cell→Option α},rdH (setBlk h k (some ⟨true,0,vmC pc W x⟩)) k 329 F=F (vmC pc W x):=fun W fW {α F}=>rdH_ok (b1 _) (vm_len fW hpc)
    rw [q194_eq,if_pos hr,rd,Int.toNat_natCast,if_pos h74,vm_buf f hpc hq,bufOldest_R hE.c192 hbl,he]
    dsimp only
    rw [c4_ok,asI_ok,asI_ok,asI_ok,asB_ok,if_pos hr,rd,if_pos h74,vm_buf f hpc hq,bufDrop_R hE.c207 hbl hj,qh_ok,c1_ok,asA_ok,if_pos hr,rd,if_pos ⟨h74,bufC_len _ hlen2⟩,vm_setB f hpc ht hlen2,putB hb,
      if_pos hel',rd1 _ f1,if_pos (by rw [vm_len f1 hpc];omega),vm_setM f1 hpc he4,putB (b1 _),setBlk_set,if_pos hel',rd1 _ f2,if_pos (by rw [vm_len f2 hpc];omega),vm_setF f2 hpc he4,putB (b1 _),setBlk_set,
      if_pos (by exact ⟨by trivial,rfl,rfl⟩),if_pos (by exact ⟨by trivial,rfl⟩)]
    rfl
theorem Pick_no (hE:q173_In E) {n k:Nat} {h:AHeap} {x:Cell} {pc:List Cell} {V:MV} (a:VmAt n h k x pc V) (v:V.Inv) {i:Int} (hi:hasI V.word i=false) :
    R E 173 [.c (.ptr k 329 0),.c (.int .i64 i)] h=some ([.agg (Stp.cs ⟨0,0,0,0,0,0,0⟩),.c (.bool false)],h):=by
  refine R_intro hE.fn ?_
  rw [q173_eq,Enabled_R hE.c172 a.blk v.fit (prog_at a.prog a.hn (Kp.refl n h)),c1_ok,asI_ok,Has_R hE.c17 V.word_lt,c1_ok,asB_ok,hi,if_pos (by simp),if_pos (by exact ⟨by trivial,rfl,rfl⟩),if_pos (by exact ⟨by trivial,rfl⟩)]
  rfl
theorem MV.may_lt {V:MV} {i:Nat} (h:V.may i=true):i<24:=by
  rcases Nat.lt_or_ge i 24 with h1 | h1
  · exact h1
  · rw [MV.may_out h1] at h;cases h
set_option maxHeartbeats 1000000 in
theorem Pick_R (hE:q173_In E) {n k:Nat} {h:AHeap} {x:Cell} {pc:List Cell} {V:MV} (a:VmAt n h k x pc V) (v:V.Inv) (hst:V.st.length<100000) {i:Nat} (hi:V.may i=true) :
    ∃x' h',R E 173 [.c (.ptr k 329 0),.c (.int .i64 (i:Int))] h=some ([.agg (V.stp i).cs,.c (.bool true)],h')∧VmAt n h' k x' pc (V.nx i)∧KpV n k x x' h h':=by
  have hi24:=MV.may_lt hi
  have f:=v.fit
  have hpc:=a.prog.len
  have hk:k<h.length:=blk_lt' a.blk
  have hb:maxBytes≥200000*56:=by unfold maxBytes;omega
  have hfits:=v.small.fits
  have push:∀(W:MV) (s:Stp),W.Fit→W.P=V.P→W.st=V.st→∃x' h',(∀{α:Type} (F:Cell→AHeap→Option α),appK 7 56 x s.cs (setBlk h k (some ⟨true,0,vmC pc W x⟩)) F=F x' h')∧blk? h' k=some ⟨true,0,vmC pc W x⟩ ∧
      VmAt n (setBlk h' k (some ⟨true,0,vmC pc W x'⟩)) k x' pc { W with st:=V.st++[s] }∧KpV n k x x' h (setBlk h' k (some ⟨true,0,vmC pc W x'⟩)):=by
    intro W s fW hWP hWs
    have b1:blk? (setBlk h k (some ⟨true,0,vmC pc W x⟩)) k=some ⟨true,0,vmC pc W x⟩:=blk_set_self hk _
    obtain ⟨x',h',e1,o1,k1,r1⟩:=(a.st.setO a.sep (some ⟨true,0,vmC pc W x⟩)).app (bytes:=56) (by rw [setBlk_len];exact a.hn) (stp_len s) (by omega) (by omega) (by omega)
    obtain ⟨c1,c2⟩:=r1 k _ b1 a.sep
    have kp1:Kp n h h':=(Kp.set a.nk _).trans k1
    have kp2:Kp n h (setBlk h' k (some ⟨true,0,vmC pc W x'⟩)):=kp1.trans (Kp.set a.nk _)
    refine ⟨x',h',e1,c1,⟨Nat.le_trans a.hn kp2.1,a.nk,?_,blk_set_self (blk_lt' c1) _,?_,c2⟩,kp2,fun j b hj hne hnx=>?_⟩
    · have:(setBlk h' k (some ⟨true,0,vmC pc W x'⟩)).take n=h.take n:=by
        refine List.ext_getElem? fun j=>?_
        rw [List.getElem?_take,List.getElem?_take]
        split
        · exact kp2.2 j (by assumption)
        · rfl
      rw [this]
      show ProgAt (h.take n) pc W.P
      rw [hWP];exact a.prog
    · show Own n _ x' 7 (stepsC (V.st++[s])) (V.st++[s]).length
      rw [stepsC_snoc,List.length_append,List.length_singleton]
      exact o1.setO c2 _
    · obtain ⟨d1,d2⟩:=r1 j b (by rw [blk_set_ne (fun e=>hne e.symm)];exact hj) hnx
      exact ⟨by rw [blk_set_ne (fun e=>hne e.symm)];exact d1,d2⟩
  have hhas:hasI V.word (i:Int)=true:=by rw [hasI_nat (by omega),MV.word_bit,hi]
  have en:=Enabled_R hE.c172 a.blk f (prog_at a.prog a.hn (Kp.refl n h))
  have s7:∀s:Stp,(s.cs.set 0 (.int .i64 (i:Int)))=({ s with pick:=i }:Stp).cs:=fun _=>rfl
  have s7':∀s:Stp,splice (List.replicate 7 (Cell.int .i64 0)) 0 s.cs=s.cs:=fun _=>rfl
  have fluW:∀(t:Nat) (loc:Int),t<4→(V.fluM t loc).Fit:=fun t loc ht=>by
    have hbl:=v.blen ht
    refine ⟨f.m,f.lc,by show (V.mem.set _ _).length=4;rw [List.length_set];exact f.mem,by show (V.frm.set _ _).length=4;rw [List.length_set];exact f.frm,by show (V.bf.set _ _).length=4;rw [List.length_set];exact f.bf,fun l hl=>?_⟩
    rcases List.mem_or_eq_of_mem_set hl with hl | rfl
    · exact f.b l hl
    · exact Nat.le_trans List.length_eraseP_le hbl
  by_cases h4:i<4
  · have hm:V.mayT i=true:=by unfold MV.may at hi;rw [if_pos h4] at hi;exact hi
    obtain ⟨q,hq⟩:∃q,V.nxt i=some q:=by
      unfold MV.mayT at hm
      cases hq:V.nxt i with
      | none=>rw [hq] at hm;cases hm
      | some q=>exact ⟨q,rfl⟩
    have hqI:V.thrI i=q:=by unfold MV.thrI;rw [hq];rfl
    obtain ⟨q1,q2,q3,q4,q5⟩:=v.nxt hq
    have hpb:=v.pcs i h4
    have th:=thread_R' hE.c193 a.blk f a.prog a.hn a.nk hfits a.st h4 hq q1 (by omega)
    have fW:(V.thrM i q).Fit:=by
      have hfw:(V.wr i (evOf q (V.l i) (V.val i q).1)).Fit:=by
        unfold MV.wr
        split
        · refine ⟨f.m,f.lc,f.mem,f.frm,by rw [List.length_set];exact f.bf,fun l hl=>?_⟩
          rcases List.mem_or_eq_of_mem_set hl with hl | rfl
          · exact f.b l hl
          · rw [List.length_append,List.length_singleton];omega
        · split
          · exact ⟨f.m,f.lc,by rw [List.length_set];exact f.mem,by rw [List.length_set];exact f.frm,f.bf,f.b⟩
          · exact f
      exact ⟨hfw.m,by show (V.lc.set _ _).length=4;rw [List.length_set];exact f.lc,hfw.mem,hfw.frm,hfw.bf,hfw.b⟩
    have hPP:(V.thrM i q).P=V.P:=by unfold MV.thrM MV.wr;split<;>(try split)<;>rfl
    have hSS:(V.thrM i q).st=V.st:=by unfold MV.thrM MV.wr;split<;>(try split)<;>rfl
    obtain ⟨x',h',e1,c1,c2,c3⟩:=push (V.thrM i q) { V.thrS i q with pick:=i } fW hPP hSS
    have e2:V.stp i={ V.thrS i q with pick:=i }:=by unfold MV.stp;rw [if_pos h4,hqI]
    have e3:V.nx i={ V.thrM i q with st:=V.st++[{ V.thrS i q with pick:=i }] }:=by unfold MV.nx;rw [if_pos h4,hqI,e2]
    rw [e2,e3]
    have b1:blk? (setBlk h k (some ⟨true,0,vmC pc (V.thrM i q) x⟩)) k=some ⟨true,0,vmC pc (V.thrM i q) x⟩:=blk_set_self hk _
    have l1:=vm_len (x:=x) fW hpc
    refine ⟨x',_,R_intro hE.fn ?_,c2,c3⟩
    rw [q173_eq,en,c1_ok,asI_ok,Has_R hE.c17 V.word_lt,c1_ok,asB_ok,hhas,if_neg (by simp),if_pos (by simp;omega),th,c1_ok,asA_ok,if_pos (by exact ⟨by trivial,rfl,rfl⟩),if_pos (by rw [stp_len];omega),rdH_ok b1 l1,vm_steps fW hpc]
    simp only [s7,s7',e1]
    rw [if_pos (by exact ⟨by trivial,rfl⟩),if_pos (by exact ⟨rfl,by decide⟩),if_pos (by exact rfl),rdH_ok c1 l1,if_pos (by rw [l1];omega),vm_setX fW hpc,putB c1,if_pos (by exact ⟨by trivial,rfl⟩),if_pos (by exact ⟨by trivial,rfl,rfl⟩),if_pos (by exact ⟨by trivial,rfl⟩)]
  · have flu:∀(t:Nat) (loc:Int),t<4→((V.b t).find? (oldP (bmod V.m) loc)).isSome=true→V.stp i={ V.fluS t loc with pick:=i }→V.nx i={ V.fluM t loc with st:=V.st++[V.stp i] } →
        (((i:Int)<8∧R E 194 [(.c (.ptr k 329 0)),(.c (.int .i64 (E.glob.wrap .i64 ((i:Int) - 4)))),(.c (.int .i64 0))] h=R E 194 [.c (.ptr k 329 0),.c (.int .i64 (t:Int)),.c (.int .i64 loc)] h) ∨
         (¬(i:Int)<8∧R E 194 [(.c (.ptr k 329 0)),(.c (.int .i64 (E.glob.quo .i64 (E.glob.wrap .i64 ((i:Int) - 8)) 4))),(.c (.int .i64 (E.glob.rem .i64 (E.glob.wrap .i64 ((i:Int) - 8)) 4)))] h=R E 194 [.c (.ptr k 329 0),.c (.int .i64 (t:Int)),.c (.int .i64 loc)] h)) →
        ∃x' h',R E 173 [.c (.ptr k 329 0),.c (.int .i64 (i:Int))] h=some ([.agg (V.stp i).cs,.c (.bool true)],h')∧VmAt n h' k x' pc (V.nx i)∧KpV n k x x' h h':=by
      intro t loc ht hf e2 e3 hF
      have fW:=fluW t loc ht
      have fl:=flush_R' hE.c194 a.blk v hpc ht hf
      obtain ⟨x',h',e1,c1,c2,c3⟩:=push (V.fluM t loc) { V.fluS t loc with pick:=i } fW rfl rfl
      rw [e3,e2]
      have b1:blk? (setBlk h k (some ⟨true,0,vmC pc (V.fluM t loc) x⟩)) k=some ⟨true,0,vmC pc (V.fluM t loc) x⟩:=blk_set_self hk _
      have l1:=vm_len (x:=x) fW hpc
      refine ⟨x',_,R_intro hE.fn ?_,c2,c3⟩
      rw [q173_eq,en,c1_ok,asI_ok,Has_R hE.c17 V.word_lt,c1_ok,asB_ok,hhas,if_neg (by simp),if_neg (by simp;omega)]
      rcases hF with ⟨h8,hF⟩ | ⟨h8,hF⟩
      · rw [if_pos (decide_eq_true h8),hF]
        rw [fl,c1_ok,asA_ok,if_pos (by exact ⟨by trivial,rfl,rfl⟩),if_pos (by rw [stp_len];omega),rdH_ok b1 l1,vm_steps fW hpc]
        simp only [s7,s7',e1]
        rw [if_pos (by exact ⟨by trivial,rfl⟩),if_pos (by exact ⟨rfl,by decide⟩),if_pos (by exact rfl),rdH_ok c1 l1,if_pos (by rw [l1];omega),vm_setX fW hpc,putB c1,if_pos (by exact ⟨by trivial,rfl⟩),if_pos (by exact ⟨by trivial,rfl,rfl⟩),if_pos (by exact ⟨by trivial,rfl⟩)]
      · rw [if_neg (by rw [decide_eq_false h8];simp),hF]
        rw [fl,c1_ok,asA_ok,if_pos (by exact ⟨by trivial,rfl,rfl⟩),if_pos (by rw [stp_len];omega),rdH_ok b1 l1,vm_steps fW hpc]
        simp only [s7,s7',e1]
        rw [if_pos (by exact ⟨by trivial,rfl⟩),if_pos (by exact ⟨rfl,by decide⟩),if_pos (by exact rfl),rdH_ok c1 l1,if_pos (by rw [l1];omega),vm_setX fW hpc,putB c1,if_pos (by exact ⟨by trivial,rfl⟩),if_pos (by exact ⟨by trivial,rfl,rfl⟩),if_pos (by exact ⟨by trivial,rfl⟩)]
    by_cases h8:i<8
    · have hm:V.mayF (i - 4)=true:=by unfold MV.may at hi;rw [if_neg h4,if_pos h8] at hi;exact hi
      unfold MV.mayF at hm
      rw [Bool.and_eq_true] at hm
      have hm2:V.m=2:=beq_iff_eq.1 hm.1
      have hne:(V.b (i - 4)).length≠0:=by simpa using hm.2
      refine flu (i - 4) 0 (by omega) ?_ (by unfold MV.stp;rw [if_neg h4,if_pos h8]) (by unfold MV.nx;rw [if_neg h4,if_pos h8]) (.inl ⟨by omega,?_⟩)
      · rw [hm2]
        cases hbb:V.b (i - 4) with
        | nil=>rw [hbb] at hne;exact absurd rfl hne
        | cons e l=>rfl
      · rw [g_wrap_i64 (by omega) (by omega),show ((i:Int) - 4)=((i - 4:Nat):Int) by omega]
    · have hm:V.mayL ((i - 8) / 4) ((i - 8) % 4)=true:=by unfold MV.may at hi;rw [if_neg h4,if_neg h8,if_pos hi24] at hi;exact hi
      unfold MV.mayL at hm
      rw [Bool.and_eq_true] at hm
      have hm3:V.m=3:=beq_iff_eq.1 hm.1
      refine flu ((i - 8) / 4) (((i - 8) % 4:Nat):Int) (by omega) ?_ (by unfold MV.stp;rw [if_neg h4,if_neg h8]) (by unfold MV.nx;rw [if_neg h4,if_neg h8]) (.inr ⟨by omega,?_⟩)
      · rw [hm3];exact hm.2
      · rw [g_wrap_i64 (by omega) (by omega),show ((i:Int) - 8)=((i - 8:Nat):Int) by omega,g_quo,g_rem,Int.tdiv_eq_ediv_of_nonneg (by omega),Int.tmod_eq_emod_of_nonneg (by omega),
          show (((i - 8:Nat):Int) / 4)=(((i - 8) / 4:Nat):Int) by omega,show (((i - 8:Nat):Int) % 4)=(((i - 8) % 4:Nat):Int) by omega,wrap_i64 (by omega) (by omega)]
end
end Jq

namespace Jq
open Go
def nwC (a b c:Cell) (m bm:Int) (l:Nat→Lcl) (t:Nat):List Cell :=
  [a,b,c,.int .i64 m]++(((if 0<t then (l 0).cs else Lcl.zero.cs)++((if 1<t then (l 1).cs else Lcl.zero.cs)++((if 2<t then (l 2).cs else Lcl.zero.cs)++(if 3<t then (l 3).cs else Lcl.zero.cs)))) ++
    (List.replicate 4 (.int .i64 0)++(([if 0<t then .int .i64 (-1) else .int .i64 0,if 1<t then .int .i64 (-1) else .int .i64 0,if 2<t then .int .i64 (-1) else .int .i64 0,if 3<t then .int .i64 (-1) else .int .i64 0]:List Cell) ++
      (((if 0<t then bufC bm [] else bufC 0 [])++((if 1<t then bufC bm [] else bufC 0 [])++((if 2<t then bufC bm [] else bufC 0 [])++(if 3<t then bufC bm [] else bufC 0 []))))++[.nils]))))
set_option maxRecDepth 100000 in
theorem nw_0 (a b c:Cell) (m bm:Int) (l:Nat→Lcl):splice (splice ([Cell.nils,Cell.nils,Cell.nils]++List.replicate 325 (Cell.int .i64 0)++[Cell.nils]) 0 [a,b,c]) 3 ([(.int .i64 m)]:List Cell)=nwC a b c m bm l 0:=by kernel_rfl
set_option maxRecDepth 100000 in
theorem nw_next (a b c:Cell) (m bm:Int) (l:Nat→Lcl):∀t,t<4→(splice (splice (nwC a b c m bm l t) ((0+4)+t*5) (l t).cs) ((0+32)+t*74) (bufC bm [])).set ((0+28)+t*1) (.int .i64 (-1))=nwC a b c m bm l (t+1)
  | 0,_=>by kernel_rfl
  | 1,_=>by kernel_rfl
  | 2,_=>by kernel_rfl
  | 3,_=>by kernel_rfl
  | t+4,h=>by omega
theorem nw_len (a b c:Cell) (m bm:Int) (l:Nat→Lcl):∀t,t≤4→(nwC a b c m bm l t).length=329
  | 0,_=>by kernel_rfl
  | 1,_=>by kernel_rfl
  | 2,_=>by kernel_rfl
  | 3,_=>by kernel_rfl
  | 4,_=>by kernel_rfl
  | t+5,h=>by omega
theorem nw_pc (a b c:Cell) (m bm:Int) (l:Nat→Lcl) (t:Nat):((nwC a b c m bm l t).drop (0+0)).take 3=[a,b,c]:=by
  rw [Nat.add_zero,List.drop_zero];rfl
set_option maxRecDepth 100000 in
theorem nw_z:([Cell.nils,Cell.nils,Cell.nils]++List.replicate 325 (Cell.int .i64 0)++[Cell.nils]).length=329:=by kernel_rfl
theorem splice_len {l xs:List Cell} {n:Nat} (h:n+xs.length≤l.length):(splice l n xs).length=l.length:=by
  unfold splice
  rw [List.length_append,List.length_append,List.length_take,List.length_drop];omega
def MV.new (P:PProg) (m:Int):MV :=
  ⟨P,m,[startL P 0,startL P 1,startL P 2,startL P 3],P.init++List.replicate (4 - P.init.length) 0,[-1,-1,-1,-1],[[],[],[],[]],[]⟩
set_option maxRecDepth 100000 in
theorem nw_end (a b c:Cell) (P:PProg) (m:Int):nwC a b c m (bmod m) (fun t=>startL P t) 4=vmC [a,b,c] { MV.new P m with mem:=[0,0,0,0] } .nils:=by kernel_rfl
theorem MV.new_fit {P:PProg} {m:Int} (hm:1≤m∧m≤3) (hi:P.init.length≤4):(MV.new P m).Fit :=
  ⟨hm,rfl,by show (P.init++List.replicate (4 - P.init.length) 0).length=4;rw [List.length_append,List.length_replicate];omega,rfl,rfl,fun l hl=>by
    simp [MV.new] at hl;subst hl;simp⟩
attribute [local irreducible] nwC vmC bufC
section
variable {E:Env}
theorem new_cnt (hE:q171_In E) {h8:AHeap} {a b c:Cell} {pc:List Cell} {P:PProg} (p8:ProgAt h8 [a,b,c] P) (hfits:P.fits) {m:Int} :
    Lim (q171_F1 (R E) Lim E.glob) (q171_s1 m h8.length 329 0 ((0:Nat):Int) pc (h8++[some ⟨true,0,nwC a b c m (bmod m) (fun t=>startL P t) 0⟩]))=some (.exit 0,q171_x1_1 h8.length 329 0 pc (h8++[some ⟨true,0,nwC a b c m (bmod m) (fun t=>startL P t) 4⟩])):=by
  have b8:∀l:List Cell,blk? (h8++[some ⟨true,0,l⟩]) h8.length=some ⟨true,0,l⟩:=fun l=>blk_new _ _
  have p9:∀q,ProgAt (h8++[some q]) [a,b,c] P:=fun q=>p8.keep (Kp.app _ (Nat.le_refl _))
  have rd:∀(l:List Cell) {α:Type} {F:List Cell→Option α},l.length=329→rdH (h8++[some ⟨true,0,l⟩]) h8.length 329 F=F l:=fun l α F hl=>rdH_ok (b8 l) hl
  have put:∀(l cs:List Cell) {α:Type} {F:AHeap→Option α},putH (h8++[some ⟨true,0,l⟩]) h8.length cs F=F (h8++[some ⟨true,0,cs⟩]):=fun l cs α F=>by rw [putB (b8 l),setBlk_last]
  refine Lim_count (F:=q171_F1 (R E) Lim E.glob) (fun t=>q171_s1 m h8.length 329 0 (t:Int) pc (h8++[some ⟨true,0,nwC a b c m (bmod m) (fun t=>startL P t) t⟩])) 0 4 (by omega) (fun t _ ht=>?_) (Lim_exit ?_)
  · have hl:=nw_len a b c m (bmod m) (fun t=>startL P t) t (by omega)
    have hnx:=nw_next a b c m (bmod m) (fun t=>startL P t) t ht
    have hr:0≤(t:Int)∧(t:Int)<((4:Nat):Int):=⟨by omega,by omega⟩
    have hpcs:=nw_pc a b c m (bmod m) (fun t=>startL P t) t
    have hb0:(bufC (bmod m) []).length=74:=bufC_len _ (by simp)
    generalize nwC a b c m (bmod m) (fun t=>startL P t) t=l0 at *
    generalize nwC a b c m (bmod m) (fun t=>startL P t) (t+1)=l9 at *
    have hl1:(splice l0 ((0+4)+t*5) (startL P t).cs).length=329:=by
      rw [splice_len (by rw [hl,Lcl.len];omega),hl]
    have hl2:(splice (splice l0 ((0+4)+t*5) (startL P t).cs) ((0+32)+t*74) (bufC (bmod m) [])).length=329:=by
      rw [splice_len (by rw [hl1,hb0];omega),hl1]
    rw [q171_r1,if_pos (by simp;omega),rd _ hl,if_pos (by rw [hl];omega),hpcs,PStart_R hE.c94 hfits (p9 _),qh_ok,c1_ok,asA_ok,if_pos hr,rd _ hl,Int.toNat_natCast,if_pos ⟨by rw [hl];omega,rfl⟩,put,bufNew_R hE.c190,qh_ok,c1_ok,asA_ok,if_pos hr]
    rw [show (if m=2∨m=3 then m else 0)=bmod m from rfl,rd _ hl1,if_pos ⟨by rw [hl1];omega,hb0⟩,put,if_pos hr,rd _ hl2,if_pos (by rw [hl2];omega),put,g_succ (by omega),hnx]
  · rw [q171_r1,if_neg (by simp)]
theorem new_mem {a b c:Cell} {P:PProg} {m:Int} (f0:MV.Fit { MV.new P m with mem:=[0,0,0,0] }) (hil:P.init.length≤4) :
    splice (vmC [a,b,c] { MV.new P m with mem:=[0,0,0,0] } .nils) 24 (intC .i64 P.init)=vmC [a,b,c] (MV.new P m) .nils:=by
  obtain ⟨A,B,eA,hA,eM⟩:=vm_lensM (pc:=[a,b,c]) (x:=.nils) f0 rfl
  have e1:vmC [a,b,c] (MV.new P m) .nils=A++(intC .i64 (MV.new P m).mem++B):=eM (MV.new P m).mem
  rw [eA,e1,show 24=A.length+0 by omega,splice_app]
  congr 1
  unfold splice
  rw [List.take_zero,List.nil_append,Nat.zero_add,intC_len]
  show intC .i64 P.init++_=intC .i64 (P.init++List.replicate (4 - P.init.length) 0)++B
  rw [show intC .i64 (P.init++List.replicate (4 - P.init.length) 0)=intC .i64 P.init++List.replicate (4 - P.init.length) (.int .i64 0) by simp [intC],List.append_assoc]
  congr 1
  rw [List.drop_append_of_le_length (by rw [intC_len];exact hil)]
  congr 1
  show (List.replicate 4 (Cell.int .i64 0)).drop _=_
  rw [List.drop_replicate]
theorem new_loop (hE:q171_In E) {h8:AHeap} {a b c:Cell} {pc:List Cell} {P:PProg} (p8:ProgAt h8 [a,b,c] P) (hfits:P.fits) {m:Int} (z:List Cell) (hz:z=nwC a b c m (bmod m) (fun t=>startL P t) 0) :
    Lim (q171_F1 (R E) Lim E.glob) (q171_s1 m h8.length (AV.cells (.agg z)).length 0 0 pc (h8++[some (Blk.mk true 0 (AV.cells (.agg z)))]))=some (.exit 0,q171_x1_1 h8.length 329 0 pc (h8++[some ⟨true,0,vmC [a,b,c] { MV.new P m with mem:=[0,0,0,0] } .nils⟩])):=by
  have h1:AV.cells (.agg z)=z:=rfl
  rw [h1,hz,nw_len _ _ _ _ _ _ _ (by omega),←nw_end]
  exact new_cnt hE p8 hfits
theorem VNew_S (hE:q171_In E) {h:AHeap} {pc:List Cell} {P:PProg} (p:ProgAt h pc P) (hsm:P.small) (hu:∀x∈P.locs,0≤x∧x<256) (hll:P.locs.length≤1000) (hil:P.init.length≤4) {m:Int} (hm:1≤m∧m≤3) (hpok:pokB P=true) :
    ∃n k pc' h',R E 171 [.agg pc,.c (.int .i64 m)] h=some ([.c (.ptr k 329 0),.c (.int .i64 0)],h')∧VmAt n h' k .nils pc' (MV.new P m)∧h.length≤n∧Kp h.length h h'∧ProgO h.length (h'.take n) pc' P∧k<h'.length:=by
  obtain ⟨pc',h8,r8,po8,k8⟩:=copied_S hE.c189 p hsm hll (by omega)
  have p8:=po8.at
  obtain ⟨a,b,c,ts,he,_⟩:=id p8
  subst he
  have hfits:=hsm.fits
  have f0:MV.Fit { MV.new P m with mem:=[0,0,0,0] }:=⟨hm,rfl,rfl,rfl,rfl,fun l hl=>by simp [MV.new] at hl;subst hl;simp⟩
  have hpc:([a,b,c]:List Cell).length=3:=rfl
  have b8:∀l:List Cell,blk? (h8++[some ⟨true,0,l⟩]) h8.length=some ⟨true,0,l⟩:=fun l=>blk_new _ _
  have cnt:=new_loop hE (pc:=pc) p8 hfits _ (nw_0 a b c m (bmod m) (fun t=>startL P t))
  obtain ⟨bi,hbi,hbl,hbg⟩:=p.initG
  have hl0:=vm_len (x:=.nils) f0 hpc
  have hsp:=new_mem (a:=a) (b:=b) (c:=c) f0 hil
  generalize vmC [a,b,c] { MV.new P m with mem:=[0,0,0,0] } .nils=l0 at *
  have hci:=cells1 (hbi.keep hbl (k8.trans (Kp.app [some ⟨true,0,l0⟩] k8.1)))
  refine ⟨h8.length,h8.length,[a,b,c],h8++[some ⟨true,0,vmC [a,b,c] (MV.new P m) .nils⟩],R_intro hE.fn ?_,⟨by simp,Nat.le_refl _,?_,b8 _,Own.nil _ _ _,fun h=>h⟩,k8.1,k8.trans (Kp.app _ k8.1),by rw [List.take_append_of_le_length (Nat.le_refl _),List.take_length];exact po8,by simp⟩
  · rw [q171_eq,scK_or,show (decide (m<1)||decide (m > 3))=false by simp;omega,scK_ok,if_pos (by exact ⟨rfl,p.len⟩),progOk_R hE.c188 p hsm hu hll,c1_ok,asB_ok,hpok,bind_ok]
    dsimp only
    rw [if_neg (by simp),if_pos (by exact ⟨rfl,p.len⟩),r8,c1_ok,asA_ok,if_pos (by exact ⟨rfl,by rw [nw_z];omega⟩),if_pos (by exact ⟨rfl,by rw [splice_len (by rw [nw_z];simp),nw_z];omega⟩),cnt,bind_ok]
    dsimp only
    rw [q171_e1_1]
    have hsl:∀{α:Type} (F:Cell→Option α),sliceAK (h8++[some ⟨true,0,l0⟩]) 4 1 false false (.ptr h8.length 329 (0+24)) [] F=F (.sl h8.length 329 24 4):=fun F=>by
      unfold sliceAK okSl boundsK
      simp only
      rw [b8]
      simp only
      rw [if_pos (by rw [hl0];simp)]
    rw [hsl,hbg]
    unfold copyK
    rw [hci,bind_ok]
    dsimp only
    rw [b8,bind_ok]
    dsimp only
    rw [if_pos ⟨rfl,hl0,by omega⟩,intC_len,Nat.div_one,Nat.min_eq_left hil,Nat.mul_one,List.take_of_length_le (by rw [intC_len];exact Nat.le_refl _),hsp,setBlk_last]
  · rw [List.take_append_of_le_length (Nat.le_refl _),List.take_length];exact p8
theorem VNew_R (hE:q171_In E) {h:AHeap} {pc:List Cell} {P:PProg} (p:ProgAt h pc P) (hsm:P.small) (hu:∀x∈P.locs,0≤x∧x<256) (hll:P.locs.length≤1000) (hil:P.init.length≤4) {m:Int} (hm:1≤m∧m≤3) (hpok:pokB P=true) :
    ∃n k pc' h',R E 171 [.agg pc,.c (.int .i64 m)] h=some ([.c (.ptr k 329 0),.c (.int .i64 0)],h')∧VmAt n h' k .nils pc' (MV.new P m)∧h.length≤n∧Kp h.length h h':=by
  obtain ⟨n,k,pc',h',r1,r2,r3,r4,_⟩:=VNew_S hE p hsm hu hll hil hm hpok
  exact ⟨n,k,pc',h',r1,r2,r3,r4⟩
end
end Jq

namespace Jq
open Go
theorem getDset {α:Type} {l:List α} {i:Nat} (hi:i<l.length) (y d:α) (j:Nat):(l.set i y).getD j d=if j=i then y else l.getD j d:=by
  rw [List.getD_eq_getElem?_getD,List.getD_eq_getElem?_getD,List.getElem?_set]
  by_cases h:i=j
  · subst h;rw [if_pos rfl,if_pos hi,if_pos rfl];rfl
  · rw [if_neg h,if_neg (fun e=>h e.symm)]
theorem startL_pc (P:PProg) (t:Int):0≤(startL P t).pc:=by
  unfold startL normL
  exact nrm_pc (code:=P.code t) _ Lcl.zero
theorem MV.new_inv {P:PProg} {m:Int} (hm:1≤m∧m≤3) (hs:P.small) (hf:∀c∈P.thr,∀i∈c,fldB (hasB P) i=true) (hl:P.locs.length≤4) (hi:P.init.length≤4) (hc:∀c∈P.thr,c.length≤10):(MV.new P m).Inv:=by
  refine ⟨MV.new_fit hm hi,hs,hf,hl,hc,fun b hb e he=>?_,fun t ht=>?_⟩
  · simp [MV.new] at hb;subst hb;simp at he
  · match t with
    | 0=>exact startL_pc P 0
    | 1=>exact startL_pc P 1
    | 2=>exact startL_pc P 2
    | 3=>exact startL_pc P 3
    | t+4=>omega
theorem MV.wr_lc (V:MV) (t:Nat) (e:Evt):(V.wr t e).lc=V.lc∧(V.wr t e).P=V.P∧(V.wr t e).m=V.m:=by
  unfold MV.wr;split<;>(try split)<;>exact ⟨rfl,rfl,rfl⟩
theorem MV.wr_bf (V:MV) (t:Nat) (e:Evt):(V.wr t e).bf=if e.kind=2∧V.m≠1 then V.bf.set t (V.b t++[⟨e.loc,e.w,V.st.length⟩]) else V.bf:=by
  unfold MV.wr;split
  · rfl
  · split<;>rfl
theorem MV.rows_of {W:MV} (h4:W.bf.length=4) {p:List Ent→Prop} (h:∀t,t<4→p (W.b t)):∀b∈W.bf,p b:=by
  intro b hb
  obtain ⟨t,ht,rfl⟩:=List.mem_iff_getElem.1 hb
  have:=h t (by omega)
  unfold MV.b at this
  rw [List.getD_eq_getElem?_getD,List.getElem?_eq_getElem ht] at this
  exact this
theorem MV.may_thr {V:MV} {i:Nat} (hi:i<4) (h:V.may i=true):V.nxt i=some (V.thrI i):=by
  unfold MV.may at h
  rw [if_pos hi] at h
  unfold MV.mayT at h
  unfold MV.thrI
  cases hq:V.nxt i with
  | none=>rw [hq] at h;cases h
  | some q=>rfl
section nx
variable {V:MV} (v:V.Inv)
include v
theorem MV.Inv.thrL {i:Nat} (hi:i<4) (q:Ins) (t:Nat):(V.thrM i q).l t=if t=i then afterL (V.P.code i) (V.l i) (V.val i q).1 else V.l t:=by
  show (V.lc.set i _).getD t Lcl.zero=_
  rw [getDset (by rw [v.fit.lc];exact hi)]
  rfl
theorem MV.Inv.thrB {i:Nat} (hi:i<4) (q:Ins) (t:Nat):(V.thrM i q).b t=if t=i∧(evOf q (V.l i) (V.val i q).1).kind=2∧V.m≠1 then V.b i++[⟨(evOf q (V.l i) (V.val i q).1).loc,(evOf q (V.l i) (V.val i q).1).w,V.st.length⟩] else V.b t:=by
  show (V.wr i _).bf.getD t []=_
  rw [V.wr_bf]
  split
  · rename_i h
    rw [getDset (by rw [v.fit.bf];exact hi)]
    by_cases ht:t=i
    · rw [if_pos ht,if_pos ⟨ht,h⟩]
    · rw [if_neg ht,if_neg (fun q=>ht q.1)];rfl
  · rename_i h
    rw [if_neg (fun q=>h q.2)];rfl
theorem MV.Inv.fluB {i:Nat} (hi:i<4) (loc:Int) (t:Nat):(V.fluM i loc).b t=if t=i then (V.b i).eraseP (oldP (bmod V.m) loc) else V.b t:=by
  show (V.bf.set i _).getD t []=_
  rw [getDset (by rw [v.fit.bf];exact hi)]
  rfl
theorem MV.Inv.mem_b {t:Nat} {e:Ent} (he:e∈V.b t):0≤e.loc∧e.loc<4:=by
  by_cases ht:t<V.bf.length
  · exact v.ents _ (List.mem_of_getElem? (MV.b_at ht)) e he
  · unfold MV.b at he
    rw [List.getD_eq_getElem?_getD,List.getElem?_eq_none (by omega)] at he
    simp at he
theorem MV.Inv.thr {i:Nat} (hi:i<4) {q:Ins} (hq:V.nxt i=some q):(V.thrM i q).Inv:=by
  obtain ⟨q1,q2,q3,q4,q5⟩:=v.nxt hq
  have hb:=v.thrB hi q
  have hl:=v.thrL hi q
  have hpc:(V.l i).pc+1≤(afterL (V.P.code i) (V.l i) (V.val i q).1).pc:=afterL_pc hq _
  have hev:=evOf_loc (l:=V.l i) (v:=(V.val i q).1) q1
  obtain ⟨w1,w2,w3⟩:=V.wr_lc i (evOf q (V.l i) (V.val i q).1)
  have f:=v.fit
  have e0:(V.thrM i q).bf.length=4:=by
    show (V.wr i _).bf.length=4
    rw [V.wr_bf];split
    · rw [List.length_set];exact f.bf
    · exact f.bf
  have blen:∀t,t<4→((V.thrM i q).b t).length≤24:=fun t ht=>by
    rw [hb]
    split
    · have:=v.pcs i hi
      rw [List.length_append,List.length_singleton];omega
    · exact v.blen ht
  have hmm:(V.thrM i q).m=V.m:=w3
  have hPP:(V.thrM i q).P=V.P:=w2
  refine ⟨⟨by rw [hmm];exact f.m,by show (V.lc.set _ _).length=4;rw [List.length_set];exact f.lc,?_,?_,e0,MV.rows_of e0 blen⟩,by rw [hPP];exact v.small,by rw [hPP];exact v.fld,by rw [hPP];exact v.locs,by rw [hPP];exact v.c10,MV.rows_of e0 fun t ht e he=>?_,fun t ht=>?_⟩
  · show (V.wr i _).mem.length=4
    unfold MV.wr;split
    · exact f.mem
    · split
      · rw [List.length_set];exact f.mem
      · exact f.mem
  · show (V.wr i _).frm.length=4
    unfold MV.wr;split
    · exact f.frm
    · split
      · rw [List.length_set];exact f.frm
      · exact f.frm
  · rw [hb] at he
    split at he
    · rcases List.mem_append.1 he with he | he
      · exact v.mem_b he
      · rw [List.mem_singleton] at he;subst he;exact hev
    · exact v.mem_b he
  · rw [hb,hl]
    by_cases h:t=i
    · subst h
      rw [if_pos rfl]
      have:=v.pcs t ht
      split
      · rw [List.length_append,List.length_singleton];omega
      · omega
    · rw [if_neg h,if_neg (fun q=>h q.1)]
      exact v.pcs t ht
theorem MV.Inv.flu {i:Nat} (hi:i<4) (loc:Int):(V.fluM i loc).Inv:=by
  have hb:=v.fluB hi loc
  have f:=v.fit
  have e0:(V.fluM i loc).bf.length=4:=by show (V.bf.set _ _).length=4;rw [List.length_set];exact f.bf
  refine ⟨⟨f.m,f.lc,by show (V.mem.set _ _).length=4;rw [List.length_set];exact f.mem,by show (V.frm.set _ _).length=4;rw [List.length_set];exact f.frm,e0,MV.rows_of e0 fun t ht=>?_⟩,v.small,v.fld,v.locs,v.c10,MV.rows_of e0 fun t ht e he=>?_,fun t ht=>?_⟩
  · rw [hb];split
    · exact Nat.le_trans List.length_eraseP_le (v.blen hi)
    · exact v.blen ht
  · rw [hb] at he
    split at he
    · exact v.mem_b (List.mem_of_mem_eraseP he)
    · exact v.mem_b he
  · rw [hb]
    show _≤(V.l t).pc
    split
    · rename_i h
      subst h
      have:=v.pcs t ht
      have h2:=List.length_eraseP_le (p:=oldP (bmod V.m) loc) (l:=V.b t)
      omega
    · exact v.pcs t ht
theorem MV.Inv.st {s:List Stp}:MV.Inv { V with st:=s }:=⟨⟨v.fit.m,v.fit.lc,v.fit.mem,v.fit.frm,v.fit.bf,v.fit.b⟩,v.small,v.fld,v.locs,v.c10,v.ents,v.pcs⟩
theorem MV.Inv.nx {i:Nat} (h:V.may i=true):(V.nx i).Inv:=by
  have hi:=MV.may_lt h
  unfold MV.nx
  split
  · rename_i h4
    exact (v.thr h4 (MV.may_thr h4 h)).st
  · split
    · exact (v.flu (by omega) _).st
    · exact (v.flu (by omega) _).st
end nx
theorem MV.nx_st (V:MV) (i:Nat):(V.nx i).st=V.st++[V.stp i]:=rfl
theorem MV.nx_P (V:MV) (i:Nat):(V.nx i).P=V.P∧(V.nx i).m=V.m:=by
  unfold MV.nx
  split
  · exact ⟨(V.wr_lc _ _).2.1,(V.wr_lc _ _).2.2⟩
  · split<;>exact ⟨rfl,rfl⟩
end Jq

namespace Jq
open Go
theorem SlAt.cellsG {h:AHeap} {x:Cell} {esz:Nat} {cs:List Cell} {len:Nat} (s:SlAt h x esz cs len):slCells h esz x=some cs:=by
  have hl:=s.1
  rcases s.2 with ⟨rfl,rfl⟩ | ⟨k,N,off,rfl,hb⟩
  · have:cs=[]:=List.length_eq_zero_iff.1 (by omega)
    rw [this];rfl
  · unfold slCells
    dsimp only
    by_cases h0:len=0
    · have:cs=[]:=List.length_eq_zero_iff.1 (by rw [h0] at hl;omega)
      rw [if_pos h0,this]
    · rw [if_neg h0]
      rcases hb with hb | ⟨b,hb,hN,hle,hat⟩
      · exact absurd hb h0
      · rw [hb]
        simp only
        rw [if_pos ⟨hN,hle⟩]
        congr 1
        refine List.ext_getElem? fun j=>?_
        rw [List.getElem?_take,List.getElem?_drop]
        by_cases hj:j<len*esz
        · rw [if_pos hj,hat j hj]
        · rw [if_neg hj,List.getElem?_eq_none (by omega)]
theorem app_emptyG {α:Type} {h:AHeap} {esz bytes len:Nat} {cs:List Cell} (he:0<esz) (hlen:cs.length=len*esz) (h1:len*bytes≤maxBytes) (h2:len≤maxBytes) (f:Cell→AHeap→Option α) :
    appK esz bytes (.sl h.length 0 0 0) cs (h++[some ⟨true,esz,[]⟩]) f=f (.sl h.length cs.length 0 len) (h++[some ⟨true,esz,cs⟩]):=by
  unfold appK
  simp only
  rw [blk_new,Option.bind_some]
  dsimp only
  have hd:cs.length / esz=len:=by rw [hlen];exact Nat.mul_div_cancel _ he
  rw [if_pos ⟨rfl,rfl,rfl,by simp,by rw [hd];simp;omega,by rw [hd];simp;omega⟩,hd]
  by_cases h0:len=0
  · have:cs=[]:=List.length_eq_zero_iff.1 (by rw [hlen,h0];omega)
    subst this
    rw [if_pos (by simp),setBlk_last,h0]
    simp [splice]
  · have hpos:0<cs.length:=by rw [hlen];exact Nat.mul_pos (by omega) he
    rw [if_neg (by omega),if_pos trivial,setBlk_last]
    simp
def finC (V:MV):List Cell:=V.lc.flatMap regsC++intC .i64 V.mem
def finT (V:MV) (t:Nat):List Cell:=(V.lc.take t).flatMap regsC++List.replicate (20 - t*4) (.int .i64 0)
section
variable {E:Env}
theorem Done_R (hE:q174_In E) {h:AHeap} {k:Nat} {x:Cell} {pc:List Cell} {V:MV} (hb:blk? h k=some ⟨true,0,vmC pc V x⟩) (f:V.Fit) (p:ProgAt h pc V.P) :
    R E 174 [.c (.ptr k 329 0)] h=some ([.c (.bool (V.word==0))],h):=by
  refine R_intro hE.fn ?_
  rw [q174_eq,Enabled_R hE.c172 hb f p,c1_ok,asI_ok]
  have:(((V.word:Nat):Int)==0)=(V.word==0):=by rw [Bool.eq_iff_iff,beq_iff_eq,beq_iff_eq];omega
  rw [this]
theorem CloneS_R (hE:q195_In E) {x:Cell} {l:List Stp} {h:AHeap} (hx:SlAt h x 7 (stepsC l) l.length) (hlow:Low h.length x) (hl:l.length≤100000) :
    ∃x' h',R E 195 [.c x] h=some ([.c x'],h')∧Own h.length h' x' 7 (stepsC l) l.length∧Kp h.length h h':=by
  have hm:maxBytes≥100000*56:=by unfold maxBytes;omega
  have hlen:=stepsC_len l
  have hx0:=hx
  rcases hx.2 with ⟨rfl,h0⟩ | ⟨k,N,off,rfl,hb⟩
  · refine ⟨.nils,h,R_intro hE.fn ?_,⟨hlen,.inl ⟨rfl,h0⟩⟩,Kp.refl _ _⟩
    rw [q195_eq];rfl
  · have hk1:Kp h.length h (h++[some ⟨true,7,[]⟩]):=Kp.app _ (Nat.le_refl _)
    have hc:=(hx0.keep hlow hk1).cellsG
    refine ⟨.sl h.length (stepsC l).length 0 l.length,h++[some ⟨true,7,stepsC l⟩],R_intro hE.fn ?_,⟨hlen,.inr ⟨h.length,rfl,Nat.le_refl _,blk_new _ _⟩⟩,Kp.app _ (Nat.le_refl _)⟩
    rw [q195_eq,show ∀{α:Type} (f:Bool→Option α),eqNilK false (.sl k N off l.length) .nils f=f false from fun _=>rfl,if_neg (by simp),if_pos (show ([]:List Cell).length=0*7 from rfl),hc,bind_ok,show ([]:List Cell).length=0 from rfl,app_emptyG (by omega) hlen (by omega) (by omega)]
theorem Steps_R (hE:q175_In E) {n k:Nat} {h:AHeap} {x:Cell} {pc:List Cell} {V:MV} (a:VmAt n h k x pc V) (f:V.Fit) (hst:V.st.length≤100000) :
    ∃y h',R E 175 [.c (.ptr k 329 0)] h=some ([.c y],h')∧Own h.length h' y 7 (stepsC V.st) V.st.length∧Kp h.length h h':=by
  obtain ⟨y,h',r,o,kk⟩:=CloneS_R hE.c195 a.st.at a.st.low hst
  refine ⟨y,h',R_intro hE.fn ?_,o,kk⟩
  rw [q175_eq,rdH_ok a.blk (vm_len f a.prog.len),vm_steps f a.prog.len,r,c1_ok,asC_ok]
end
end Jq

namespace Jq
open Go
end Jq

namespace Jq
open Go
end Jq

namespace Jq
open Go
end Jq

namespace Jq
open Go
end Jq

namespace Jq
open Go
end Jq

namespace Jq
open Go
end Jq

namespace Jq
open Go
end Jq

namespace Jq
open Go
end Jq

namespace Jq
open Go
variable {E:Env}
def nums:List (Int × Int):=[(0,0),(1,1),(2,2),(4,4),(5,5),(6,6),(7,7),(8,8),(9,9),(10,10),(4000,4000),(4,4),(10,10),(24,24),(4,4),(1,1),(2,2),(3,3),(4,4),(5,5),(6,6),(7,7),(8,8),(9,9),(10,10),(11,11),(1,1),(2,2),(3,3),(4,4),(1,1),(2,2),(3,3),(4,4),(5,5),(6,6),(1,1),(2,2),(1,1),(2,2),(3,3),(4,4),(5,5),(6,6),(1,1),(2,2),(3,3),(0,0),(1,1),(2,2),(1,1),(2,2),(3,3),(4,4),(5,5),(6,6),(7,7),(8,8),(9,9),(10,10),(11,11),(12,12),(13,13)]
end Jq

namespace Jq
open Go
end Jq

namespace Jq
open Go
end Jq

namespace Jq
open Go
end Jq

namespace Jq
open Go
end Jq

namespace Jq
open Go
section
variable {E:Env}
def sbC (a b:Int):List Ins:=[⟨1,0,a,⟨-1,1⟩,0,⟨0,0⟩,0⟩,⟨2,0,b,⟨0,0⟩,0,⟨0,0⟩,0⟩]
def sbP:PProg:=⟨[120,121],[0,0],[sbC 0 1,sbC 1 0]⟩
def nameOf (i:Int):ByteArray :=
  if i<0∨i≥24 then ByteArray.mk #[]
  else if i<4 then ByteArray.mk #[116]++ByteArray.mk #[UInt8.ofNat (48+i.toNat)]
  else if i<8 then ByteArray.mk #[102]++ByteArray.mk #[UInt8.ofNat (48+(i.toNat - 4))]
  else ((ByteArray.mk #[102]++ByteArray.mk #[UInt8.ofNat (48+(i.toNat - 8) / 4)])++ByteArray.mk #[46])++ByteArray.mk #[UInt8.ofNat (48+(i.toNat - 8) % 4)]
def sbV:MV:=MV.new sbP 2
end
end Jq

namespace Jq
open Go
theorem locs_rise (S:Nat→Bool) (n:Nat):(locsF S n).Pairwise (·<·):=by
  unfold locsF
  refine List.Pairwise.map _ (fun a b (hab:a<b)=>?_) (List.Pairwise.filter _ List.pairwise_lt_range)
  omega
theorem locs_ok (S:Nat→Bool):(List.range (locsF S 26).length).any (atB (locsF S 26) (locBad (locsF S 26)))=false:=by
  have hp:=locs_rise S 26
  have hm:∀x∈locsF S 26,97≤x∧x≤122:=fun x h=>by
    obtain ⟨c,h1,_,rfl⟩:=locsF_mem.1 h
    omega
  generalize locsF S 26=l at *
  rw [List.any_eq_false]
  intro i hi
  rw [List.mem_range] at hi
  rw [atB_ok (List.getElem?_eq_getElem hi)]
  have h1:=hm _ (List.getElem_mem hi)
  have h2:0<i→l.getD (i - 1) 0<l[i]:=fun h0=>by
    rw [List.getD_eq_getElem?_getD,List.getElem?_eq_getElem (by omega)]
    exact List.pairwise_iff_getElem.1 hp (i - 1) i (by omega) hi (by omega)
  unfold locBad locB
  rw [decide_eq_true h1.1,decide_eq_true h1.2]
  by_cases h0:0<i
  · have:=h2 h0
    rw [decide_eq_false (p:=l[i]≤_) (by omega)];simp
  · rw [decide_eq_false (p:=(i:Int) > 0) (by omega)];simp
theorem sumLen_le {c:Nat}:∀l:List (List Ins),(∀x∈l,x.length≤c)→(l.map List.length).sum≤l.length*c
  | [],_=>by simp
  | x :: l,h=>by
    have:=sumLen_le l fun y hy=>h y (List.mem_cons_of_mem _ hy)
    have h1:=h x List.mem_cons_self
    rw [List.map_cons,List.sum_cons,List.length_cons,Nat.succ_mul];omega
theorem opdOk.opB {o:Opd} (h:opdOk o):opB o=true:=by
  unfold Jq.opB regB
  rcases h with ⟨h1,_⟩ | ⟨h1 | h1,h2⟩<;>rw [h1]<;>simp [*]
theorem SmI.fld {L:Int} {T:PTest} {i:Ins} (s:SmI L i) (hin:i.loc≠0→i.loc∈locsT T):fldB (hasB (compT T)) (compI (locsT T) i)=true:=by
  have hl:i.loc≠0→compI (locsT T) i={ i with loc:=plc (locsT T) i.loc 0 }∧hasB (compT T) (plc (locsT T) i.loc 0)=true:=fun h=>by
    refine ⟨by unfold compI;rw [if_pos h],?_⟩
    obtain ⟨j,hj,hg⟩:=plc_get (locsT T) 0 (hin h)
    have:=getI_lt hg
    rw [hj]
    unfold hasB
    rw [show (compT T).locs=locsT T from rfl,decide_eq_true (by omega),decide_eq_true (by omega)];rfl
  rcases s with ⟨h1,h2,h3,h4,h5,h6,h7⟩ | ⟨h1,h2,h3,h4,h5,h6,h7⟩ | rfl | ⟨h1,h2,h3,h4,h5,h6,h7⟩ | ⟨h1,h2,h3,h4,h5,h6,h7⟩ | ⟨h1,h2,h3,h4,h5,h6,h7⟩
  · obtain ⟨e,hh⟩:=hl (by omega)
    rw [e]
    unfold fldB
    dsimp only
    rw [if_pos h1,hh,h4.opB,h1,h2,h5,h6,h7]
    simp [Ins.cs]
  · obtain ⟨e,hh⟩:=hl (by omega)
    rw [e]
    unfold fldB regB
    dsimp only
    rw [if_neg (by omega),if_pos h1,hh,h1,h4,h5,h6,h7,decide_eq_true (by omega),decide_eq_true (by omega)]
    simp [Ins.cs]
  · rfl
  · obtain ⟨e,hh⟩:=hl (by omega)
    rw [e]
    unfold fldB regB
    dsimp only
    rw [if_neg (by omega),if_neg (by omega),if_neg (by omega),if_pos h1,hh,h4.opB,h1,h5,h6,h7,decide_eq_true (by omega),decide_eq_true (by omega)]
    simp [Ins.cs,opB]
  · have e:compI (locsT T) i=i:=by unfold compI;rw [if_neg (by omega)]
    rw [e]
    unfold fldB regB
    rw [if_neg (by omega),if_neg (by omega),if_neg (by omega),if_neg (by omega),if_pos h1,h4.opB,h1,h5,h6,decide_eq_true (by omega),decide_eq_true (by omega)]
    simp [Ins.cs,opB,h1,h3,h5,h6,h7]
  · have e:compI (locsT T) i=i:=by unfold compI;rw [if_neg (by omega)]
    rw [e]
    unfold fldB
    rw [if_neg (by omega),if_neg (by omega),if_neg (by omega),if_neg (by omega),if_neg (by omega),if_pos h1,h4.opB,h1,h6,h7]
    simp [Ins.cs,opB,h1,h2,h3,h5,h6,h7]
theorem there_loc {T:PTest} {c:List Ins} (hc:c∈T.thr) {i:Ins} (hi:i∈c) (hl:97≤i.loc∧i.loc≤122):i.loc∈locsT T:=by
  unfold locsT
  refine locsF_mem.2 ⟨(i.loc - 97).toNat,by omega,?_,by omega⟩
  unfold thereT
  rw [Bool.or_eq_true,Bool.or_eq_true]
  refine .inl (.inr (List.any_eq_true.2 ⟨c,hc,List.any_eq_true.2 ⟨i,hi,?_⟩⟩))
  rw [beq_iff_eq];omega
theorem SkipOk.jmp {c:List Ins} (s:SkipOk c) (h1:∀i∈c,i.kind=6→i.n=1):jmpB c=true:=by
  unfold jmpB
  rw [List.all_eq_true]
  intro k hk
  cases hq:c[k]? with
  | none=>rfl
  | some i =>
    dsimp only
    by_cases h6:i.kind=6
    · have a:=s k i hq h6
      have b:=h1 i (List.mem_of_getElem? hq) h6
      rw [decide_eq_false (p:=i.n<1) (by omega),decide_eq_false (p:=i.n > _) (by omega)];simp
    · rw [beq_false_of_ne h6];rfl
structure RunP (P:PProg):Prop where
  pok:pokB P=true
  fld:∀c∈P.thr,∀i∈c,fldB (hasB P) i=true
theorem GoodT.run {most:Nat} {T:PTest} (g:GoodT most T):RunP (compT T):=by
  have gp:=g.goodP
  obtain ⟨L,hL,hc⟩:=g.code
  have hf:∀c∈(compT T).thr,∀i∈c,fldB (hasB (compT T)) i=true:=fun c hcm i hi=>by
    obtain ⟨d,hd,rfl⟩:=List.mem_map.1 hcm
    obtain ⟨j,hj,rfl⟩:=List.mem_map.1 hi
    obtain ⟨k,hk,ht⟩:=hc d hd
    have:=ht.all j hj
    refine this.fld fun h0=>there_loc hd hj ?_
    have:=this.loc;omega
  refine ⟨?_,hf⟩
  have hgn:=gp.n
  have hgl:=gp.locs
  have hgi:=gp.init
  have hsum:=sumLen_le (c:=6) (compT T).thr gp.code
  have hs:sizeBad (compT T)=false:=by
    unfold sizeBad sumL
    rw [beq_false_of_ne (by omega),decide_eq_false (p:=((compT T).thr.length:Int) > 4) (by omega),decide_eq_false (p:=((compT T).locs.length:Int) > 4) (by omega),decide_eq_false (p:=_ > (24:Int)) (by omega),show (((compT T).init.length:Int) != ((compT T).locs.length:Int))=false by simp [hgl]]
    rfl
  unfold pokB
  rw [if_neg (by rw [hs];simp),if_neg (by rw [show (compT T).locs=locsF (thereT T) 26 from rfl,locs_ok];simp),Bool.not_eq_true',List.any_eq_false]
  intro c hcm
  have hj:jmpB c=true:=(gp.skip c hcm).jmp fun i hi h6=>by
    obtain ⟨d,hd,rfl⟩:=List.mem_map.1 hcm
    obtain ⟨j,hj,rfl⟩:=List.mem_map.1 hi
    obtain ⟨k,hk,ht⟩:=hc d hd
    rw [compI_kn.1] at h6
    rw [compI_kn.2]
    exact (ht.all j hj).skip h6
  have hcl:=gp.code c hcm
  unfold thrBad
  rw [hj,decide_eq_false (by omega),show (c.any fun i=>!fldB (hasB (compT T)) i)=false by
    rw [List.any_eq_false];intro i hi;rw [hf c hcm i hi];simp]
  simp
section
variable {E:Env}
theorem OfO_R (hE:q76_In E) {h:AHeap} {x:Cell} {l:List Int} (hx:SlAt h x 1 (intC .i64 l) l.length) (hlow:Low h.length x) (hl:l.length<9223372036854775808) {most:Nat} (hmost:most≤900) :
    ∃(cs:List Cell) (h':AHeap) (P:PProg),R E 76 [.c x,.c (.int .i64 (most:Int))] h=some ([.agg cs],h')∧ProgOwn h.length h' cs P∧GoodP most P∧RunP P∧(∀x∈P.locs,0≤x∧x<256)∧Kp h.length h h':=by
  obtain ⟨cs,h1,T,s1,s2,s3,s4⟩:=Small_R hE.c97 hx hlow hl hmost
  obtain ⟨cs2,h2,t1,t2,t3⟩:=refCompile_S hE.c101 s2 s3.small
  refine ⟨cs2,h2,compT T,R_intro hE.fn ?_,by obtain ⟨m,a,b,y,e1,e2,e3⟩:=t2;exact ⟨m,a,b,y,e1,Nat.le_trans s4.1 e2,e3⟩,s3.goodP,s3.run,fun x hx=>by have:=locsT_u8 (T:=T) hx;omega,s4.trans (t3.mono s4.1)⟩
  rw [q76_eq,s1,c1_ok,asA_ok,t1,c1_ok,asA_ok,if_pos ⟨rfl,rfl,t2.at.len⟩,if_pos ⟨rfl,t2.at.len⟩]
end
end Jq

namespace Jq
open Go
theorem take_keep {n:Nat} {h h':AHeap} (hk:Kp n h h'):h'.take n=h.take n:=by
  refine List.ext_getElem? fun j=>?_
  rw [List.getElem?_take,List.getElem?_take]
  split
  · exact hk.2 j (by assumption)
  · rfl
theorem VmAt.keep {n:Nat} {h h':AHeap} {k:Nat} {x:Cell} {pc:List Cell} {V:MV} (a:VmAt n h k x pc V) (hk:Kp h.length h h'):VmAt n h' k x pc V :=
  ⟨Nat.le_trans a.hn hk.1,a.nk,by rw [take_keep (hk.mono a.hn)];exact a.prog,by rw [hk.blk (blk_lt' a.blk)];exact a.blk,a.st.keepK hk,a.sep⟩
theorem VmAt.other {n:Nat} {h h':AHeap} {k:Nat} {x:Cell} {pc:List Cell} {V:MV} (a:VmAt n h k x pc V) (hl:h.length≤h'.length) (hn:Kp n h h') (hk:blk? h' k=blk? h k) (hx:∀j,isBlk x j→blk? h' j=blk? h j):VmAt n h' k x pc V:=by
  refine ⟨Nat.le_trans a.hn hl,a.nk,by rw [take_keep hn];exact a.prog,by rw [hk];exact a.blk,⟨a.st.1,a.st.2.imp id ?_⟩,a.sep⟩
  rintro ⟨j,rfl,h1,h2⟩
  exact ⟨j,rfl,h1,by rw [hx j rfl];exact h2⟩
theorem GoodP.inv {most:Nat} {P:PProg} (g:GoodP most P) (r:RunP P) {m:Int} (hm:1≤m∧m≤3):(MV.new P m).Inv :=
  MV.new_inv hm g.small r.fld (by have:=g.locs;have:=g.init;omega) (by have:=g.init;omega) (fun c hc=>by have:=g.code c hc;omega)
theorem bits_may {V:MV} {j i:Nat} (h:(bitsL V.word)[j]? = some i):V.may i=true:=by
  have:=(mem_bitsL.1 (List.mem_of_getElem? h)).2
  rwa [MV.word_bit] at this
section
variable {E:Env}
theorem ptr_nil {α:Type} {k:Nat} {f:Bool→Option α}:eqNilK false (.ptr k 329 0) .nilp f=f false:=rfl
theorem choose {V:MV} {y:Cell} {n:Nat} {h:AHeap} (o:Own n h y 1 (natC (bitsL V.word)) (bitsL V.word).length) {v:Int} (h0:0≤v) (h1:v<(bitsL V.word).length) :
    ∃i:Nat,V.may i=true∧∀{α:Type} (f:Cell→Option α),(idxSK 1 y v fun k N o=>rdH h k N fun l=>atK l o f)=f (.int .i64 (i:Int)):=by
  obtain ⟨q,rfl⟩:=Int.eq_ofNat_of_zero_le h0
  have hq:q<(bitsL V.word).length:=by omega
  have hg:=List.getElem?_eq_getElem hq
  exact ⟨(bitsL V.word)[q],bits_may hg,fun f=>o.at.get1 hq (natC_get hg)⟩
end
end Jq

namespace Jq
open Go
def MV.cnt (V:MV) (q:Nat):Int :=
  if V.m=2∧4≤q∧q<8 then ((V.b (q - 4)).length:Int)
  else if V.m=3∧8≤q∧q<24 then ((V.b ((q - 8) / 4)).countP (oldP 3 (((q - 8) % 4:Nat):Int)):Int) else 0
theorem MV.cnt2 {V:MV} (hm:V.m=2) (q:Nat):V.cnt q=if 4≤q∧q<8 then ((V.b (q - 4)).length:Int) else 0:=by
  unfold MV.cnt
  by_cases h:4≤q∧q<8
  · rw [if_pos ⟨hm,h⟩,if_pos h]
  · rw [if_neg (fun c=>h c.2),if_neg (fun c=>by omega),if_neg h]
theorem MV.cnt3 {V:MV} (hm:V.m=3) (q:Nat):V.cnt q=if 8≤q∧q<24 then ((V.b ((q - 8) / 4)).countP (oldP 3 (((q - 8) % 4:Nat):Int)):Int) else 0:=by
  unfold MV.cnt
  rw [if_neg (fun c=>by omega)]
  by_cases h:8≤q∧q<24
  · rw [if_pos ⟨hm,h⟩,if_pos h]
  · rw [if_neg (fun c=>h c.2),if_neg h]
def cntC (V:MV):List Cell:=(List.range 24).map fun q=>.int .i64 (V.cnt q)
theorem MV.may_cnt (V:MV) {k:Nat} (h4:4≤k) (h24:k<24):V.may k=decide (V.cnt k > 0):=by
  unfold MV.may MV.cnt
  rw [if_neg (by omega)]
  by_cases h8:k<8
  · rw [if_pos h8]
    unfold MV.mayF
    by_cases hm:V.m=2
    · rw [if_pos ⟨hm,h4,h8⟩,hm]
      cases V.b (k - 4) with
      | nil=>rfl
      | cons e l=>rw [decide_eq_true (by rw [List.length_cons];omega)];rfl
    · rw [if_neg (fun q=>hm q.1),if_neg (show ¬(V.m=3∧8≤k∧k<24) by omega),beq_false_of_ne hm];rfl
  · rw [if_neg h8,if_pos h24,if_neg (by omega)]
    unfold MV.mayL
    by_cases hm:V.m=3
    · rw [if_pos ⟨hm,by omega,h24⟩,hm,Bool.eq_iff_iff,decide_eq_true_eq]
      have:((3:Int)==3)=true:=rfl
      rw [this,Bool.true_and,List.find?_isSome]
      constructor
      · rintro ⟨e,he,hp⟩
        have:=List.countP_pos_iff.2 ⟨e,he,hp⟩
        omega
      · intro hp
        obtain ⟨e,he,hp⟩:=List.countP_pos_iff.1 (show 0<(V.b ((k - 8) / 4)).countP (oldP 3 (((k - 8) % 4:Nat):Int)) by omega)
        exact ⟨e,he,hp⟩
    · rw [if_neg (fun q=>hm q.1),beq_false_of_ne hm];rfl
def qOf (m:Int) (s:Stp):Nat:=if m=3 then 8+(4*s.t.toNat+s.loc.toNat) else 4+s.t.toNat
theorem evOf_kinds (i:Ins) (l:Lcl) (v:Int):1≤(evOf i l v).kind∧(evOf i l v).kind≤5:=by
  unfold evOf
  split
  · exact ⟨by dsimp only;omega,by dsimp only;omega⟩
  · split
    · exact ⟨by dsimp only;omega,by dsimp only;omega⟩
    · split
      · split<;>exact ⟨by dsimp only;omega,by dsimp only;omega⟩
      · exact ⟨by dsimp only;omega,by dsimp only;omega⟩
theorem new_b (P:PProg) (m:Int) (t:Nat):(MV.new P m).b t=[]:=by
  unfold MV.b MV.new
  match t with
  | 0=>rfl
  | 1=>rfl
  | 2=>rfl
  | 3=>rfl
  | t+4=>rfl
section
variable {E:Env}
end
end Jq

namespace Jq
open Go
section
variable {E:Env}
end
end Jq

namespace Jq
open Go
def sumM (l:List (List Ins)):Int:=((l.map fun c=>min c.length 100).sum:Nat)
def jmpAt (len:Nat) (k:Nat) (i:Ins):Bool:=i.kind==6&&(decide (i.n<1)||decide (i.n > (len:Int) - k - 1))
section
variable {E:Env}
end
end Jq

namespace Jq
open Go
section
variable {E:Env}
end
end Jq

namespace Jq
open Go
end Jq

namespace Jq
open Go
def shOpd:Sh:=.agg (.cons (.i .i64) (.cons (.i .i64) .nil))
def shIns:Sh:=.agg (.cons (.i .i64) (.cons (.i .i64) (.cons (.i .i64) (.cons shOpd (.cons (.i .i64) (.cons shOpd (.cons (.i .i64) .nil)))))))
def shAtm:Sh:=.agg (.cons (.i .i64) (.cons (.i .i64) (.cons (.i .i64) (.cons (.i .i64) .nil))))
def shCond:Sh:=.agg (.cons (.i .i64) (.cons (.sl (.sl shAtm)) .nil))
def shTest:Sh:=.agg (.cons .s (.cons (.sl shPair) (.cons (.sl (.sl shIns)) (.cons shCond .nil))))
def shLcl:Sh:=.agg (.cons (.i .i64) (.cons (.agg (Sh.rep (.i .i64) 4)) .nil))
def fewB (T:PTest):Bool:=!(((decide ((T.thr.length:Int) > 6)||decide ((T.inits.length:Int) > 40))||decide ((T.name.size:Int) > 60))||decide ((T.any.length:Int) > 12))&&!(T.thr.any fun c=>decide ((c.length:Int) > 30))&&!(T.any.any fun c=>decide ((c.length:Int) > 12))
section
variable {E:Env}
end
end Jq

namespace Jq
open Go
section
variable {E:Env}
end
end Jq

namespace Jq
open Go
theorem SlAt.cells1 {h:AHeap} {x:Cell} {cs:List Cell} {len:Nat} (s:SlAt h x 1 cs len):slCells h 1 x=some cs:=by
  have hl:=s.1
  rcases s.2 with ⟨rfl,rfl⟩ | ⟨k,N,off,rfl,hb⟩
  · have:cs=[]:=List.length_eq_zero_iff.1 (by omega)
    rw [this];rfl
  · unfold slCells
    dsimp only
    by_cases h0:len=0
    · have:cs=[]:=List.length_eq_zero_iff.1 (by omega)
      rw [if_pos h0,this]
    · rw [if_neg h0]
      rcases hb with hb | ⟨b,hb,hN,hle,hat⟩
      · exact absurd hb h0
      · rw [hb]
        simp only
        rw [if_pos ⟨hN,hle⟩]
        congr 1
        refine List.ext_getElem? fun j=>?_
        rw [List.getElem?_take,List.getElem?_drop]
        by_cases hj:j<len*1
        · rw [if_pos hj,hat j hj]
        · rw [if_neg hj,List.getElem?_eq_none (by omega)]
section
variable {E:Env}
end
end Jq

namespace Jq
open Go
def MV.sumB (V:MV):Int:=(V.b 0).length+(V.b 1).length+(V.b 2).length+(V.b 3).length
def MV.sumP (V:MV):Int:=(V.l 0).pc+(V.l 1).pc+(V.l 2).pc+(V.l 3).pc
def isSt (m:Int) (s:Stp):Bool:=s.kind==2&&m != 1
def isFl (s:Stp):Bool:=s.kind==6
def MV.skips (V:MV):Prop:=∀c∈V.P.thr,SkipOk c
structure MV.Inv2 (V:MV):Prop where
  le:∀t,t<4→(V.l t).pc≤(V.P.code t).length
  ms:(V.st.length:Int)+V.sumB≤2*V.sumP
  m1:V.m=1→∀t,V.b t=[]
  bal:(V.st.countP (isSt V.m):Int)=V.st.countP isFl+V.sumB
theorem sum_codes {P:PProg} (h4:P.thr.length≤4):((P.code 0).length:Int)+(P.code 1).length+(P.code 2).length+(P.code 3).length=sumL P.thr:=by
  have hc:∀t:Nat,P.code (t:Int)=P.thr.getD t []:=fun t=>by unfold PProg.code;rw [if_pos (by omega),Int.toNat_natCast]
  have e0:=hc 0;have e1:=hc 1;have e2:=hc 2;have e3:=hc 3
  rw [show ((0:Nat):Int)=0 from rfl] at e0
  rw [show ((1:Nat):Int)=1 from rfl] at e1
  rw [show ((2:Nat):Int)=2 from rfl] at e2
  rw [show ((3:Nat):Int)=3 from rfl] at e3
  rw [e0,e1,e2,e3]
  unfold sumL
  generalize P.thr=l at *
  match l with
  | []=>rfl
  | [a]=>simp
  | [a,b]=>simp
  | [a,b,c]=>simp<;>omega
  | [a,b,c,d]=>simp<;>omega
  | a :: b :: c :: d :: e :: r=>simp at h4
theorem MV.Inv2.most {V:MV} (w:V.Inv2) (h4:V.P.thr.length≤4):(V.st.length:Int)≤2*sumL V.P.thr:=by
  have:=w.ms
  have h:=sum_codes h4
  have l0:=w.le 0 (by omega);have l1:=w.le 1 (by omega);have l2:=w.le 2 (by omega);have l3:=w.le 3 (by omega)
  rw [show ((0:Nat):Int)=0 from rfl] at l0
  rw [show ((1:Nat):Int)=1 from rfl] at l1
  rw [show ((2:Nat):Int)=2 from rfl] at l2
  rw [show ((3:Nat):Int)=3 from rfl] at l3
  unfold MV.sumB MV.sumP at this
  omega
theorem MV.may_flu {V:MV} {i:Nat} (h4:¬i<4) (hi:V.may i=true):∃(t:Nat) (loc:Int) (e:Ent),t<4∧(V.b t).find? (oldP (bmod V.m) loc)=some e∧V.stp i=⟨i,t,6,e.loc,0,e.val,e.id⟩∧(V.m≠1) ∧
    (V.nx i)={ V with bf:=V.bf.set t ((V.b t).eraseP (oldP (bmod V.m) loc)),mem:=V.mem.set e.loc.toNat e.val,frm:=V.frm.set e.loc.toNat e.id,st:=V.st++[V.stp i] }:=by
  have h24:=MV.may_lt hi
  have key:∀(t:Nat) (loc:Int) (e:Ent),(V.b t).find? (oldP (bmod V.m) loc)=some e→V.stp i={ V.fluS t loc with pick:=i }→V.nx i={ V.fluM t loc with st:=V.st++[V.stp i] } →
      V.stp i=⟨i,t,6,e.loc,0,e.val,e.id⟩∧(V.nx i)={ V with bf:=V.bf.set t ((V.b t).eraseP (oldP (bmod V.m) loc)),mem:=V.mem.set e.loc.toNat e.val,frm:=V.frm.set e.loc.toNat e.id,st:=V.st++[V.stp i] }:=by
    intro t loc e he e1 e2
    have hee:V.fluE t loc=e:=by unfold MV.fluE;rw [he];rfl
    refine ⟨?_,?_⟩
    · rw [e1];unfold MV.fluS;rw [hee]
    · rw [e2];unfold MV.fluM;rw [hee]
  by_cases h8:i<8
  · have hi':=hi
    unfold MV.may MV.mayF at hi'
    rw [if_neg h4,if_pos h8,Bool.and_eq_true] at hi'
    have hm2:V.m=2:=beq_iff_eq.1 hi'.1
    have hne:(V.b (i - 4)).length≠0:=by simpa using hi'.2
    obtain ⟨e,he⟩:∃e,(V.b (i - 4)).find? (oldP (bmod V.m) 0)=some e:=by
      rw [hm2]
      cases hbb:V.b (i - 4) with
      | nil=>rw [hbb] at hne;exact absurd rfl hne
      | cons e l=>exact ⟨e,rfl⟩
    obtain ⟨k1,k2⟩:=key (i - 4) 0 e he (by unfold MV.stp;rw [if_neg h4,if_pos h8]) (by unfold MV.nx;rw [if_neg h4,if_pos h8])
    exact ⟨i - 4,0,e,by omega,he,k1,by omega,k2⟩
  · have hi':=hi
    unfold MV.may MV.mayL at hi'
    rw [if_neg h4,if_neg h8,if_pos h24,Bool.and_eq_true] at hi'
    have hm3:V.m=3:=beq_iff_eq.1 hi'.1
    obtain ⟨e,he⟩:=Option.isSome_iff_exists.1 hi'.2
    have he':(V.b ((i - 8) / 4)).find? (oldP (bmod V.m) (((i - 8) % 4:Nat):Int))=some e:=by rw [hm3];exact he
    obtain ⟨k1,k2⟩:=key ((i - 8) / 4) _ e he' (by unfold MV.stp;rw [if_neg h4,if_neg h8]) (by unfold MV.nx;rw [if_neg h4,if_neg h8])
    exact ⟨(i - 8) / 4,_,e,by omega,he',k1,by omega,k2⟩
theorem MV.Inv.done {V:MV} (v:V.Inv) (w:V.Inv2) (h0:V.word=0):V.sumB=0:=by
  have hno:∀i,V.may i=false:=fun i=>by rw [←MV.word_bit,h0,Nat.zero_testBit]
  have hb:∀t,t<4→V.b t=[]:=fun t ht=>by
    have hm:=v.fit.m
    rcases (show V.m=1∨V.m=2∨V.m=3 by omega) with h1 | h2 | h3
    · exact w.m1 h1 t
    · have:=hno (4+t)
      rw [MV.may_cnt V (by omega) (by omega),MV.cnt2 h2,if_pos ⟨by omega,by omega⟩,show 4+t - 4=t by omega,decide_eq_false_iff_not] at this
      exact List.length_eq_zero_iff.1 (by omega)
    · cases hbb:V.b t with
      | nil=>rfl
      | cons e l =>
        exfalso
        have he:=v.mem_b (t:=t) (e:=e) (by rw [hbb];exact List.mem_cons_self)
        have:=hno (8+(4*t+e.loc.toNat))
        rw [MV.may_cnt V (by omega) (by omega),MV.cnt3 h3,if_pos ⟨by omega,by omega⟩,show (8+(4*t+e.loc.toNat) - 8) / 4=t by omega,show (8+(4*t+e.loc.toNat) - 8) % 4=e.loc.toNat by omega,decide_eq_false_iff_not,hbb,List.countP_cons,if_pos (show oldP 3 ((e.loc.toNat:Nat):Int) e=true by unfold oldP;simp;omega)] at this
        omega
  unfold MV.sumB
  rw [hb 0 (by omega),hb 1 (by omega),hb 2 (by omega),hb 3 (by omega)];rfl
end Jq

