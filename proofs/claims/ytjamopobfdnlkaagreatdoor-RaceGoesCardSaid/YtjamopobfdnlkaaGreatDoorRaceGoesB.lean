/- YtjamopobfdnlkaaGreatDoorRaceGoesB: a part of the proof; no conditions of its own. -/
import Derived.KernelRfl
import Derived.Test.YtjamopobfdnlkaaGreatDoorRaceGoesA
set_option linter.unusedVariables false
set_option linter.unusedSectionVars false
set_option linter.unusedSimpArgs false
set_option maxRecDepth 100000
open List renaming replicate→Ya,getElem?_eq_getElem→Yd,mem_of_getElem?→Ye,getElem?_eq_none→Yf,length_append→Yg,getD_eq_getElem?_getD→Yh,drop_of_length_le→Yj,take_of_length_le→Yk,getElem?_drop→Yl,take_length→Ym,nil_append→Yn,getElem?_take→Yo,length_singleton→Yq,drop_append→Yr,getElem?_map→Yw,range→Yy,getElem?_append_right→Yae,getElem?_append_left→Yaf,length_map→Yag,length→Yah,length_replicate→Yaj,flatMap_cons→Yao,ext_getElem?→Yap,getElem_mem→Yaq,length_take→Yar,countP_cons→Yat,mem_filter→Yau,mem_append→Yav,countP_nil→Yaw,take_zero→Yay
open Nat renaming le_of_ble_eq_true→Yb,le_refl→Yu,le_trans→Yz,and_two_pow_sub_one_eq_mod→Yaa,lt_or_ge→Yak
open Int renaming toNat→Yc,tmod_eq_emod_of_nonneg→Yt,emod_nonneg→Yv,emod_emod_of_dvd→Yx,dvd_refl→Yal,mul_emod→Yam
open BitVec renaming ofInt→Yi,toNat_ofInt→Yan,toNat_and→Yas
open Bool renaming or_eq_true→Yp,and_eq_true→Ys,false_eq_true→Yab,true_and→Yac,or_assoc→Yad,false_and→Yai,not_false→Yax
namespace Jq
open Go
section
variable (C:Zab) (L:Zbv) (G:Glo)
variable {h h0:Za}
variable {x0 x1 x2 x3 x8 x18 x28 x90:Cell}
variable {a1 a2 a3 a6 a8 a9 a10 a11 a14 a19 a20 a24 a25 a29 a30 a78 a79 a91 a92:Int}
variable {l0 s0 s1 s2 s4:List Cell}
variable {N1 k1 o1:Nat}
def q255_k2 (h0:Za):Ex->St->Rs:=Zac (fun st=>q255_p1.exec C L G st (q255.fin G h0)) (q255.fin G h0)
def q255_k3 (h0:Za):Ex->St->Rs:=Zag 0 (q255_k2 C L G h0)
def q255_s2 (x0:Cell) (a1:Int) (x18:Cell) (a19 a20:Int) (s0 s1:List Cell) (h:Za):St:=⟨.v (.c x0) :: .v (.c (.int .i64 a1)) :: tops 2 (.loc 0 0 :: .loc 1 0 :: tops 12 (.v (.c x18) :: .v (.c (.int .i64 a19)) :: .v (.c (.int .i64 a20)) :: tops 80 [])),[some s0,some s1,none,none],h⟩
def q255_F2 :St->Option (Ex × St):=Zt (q255_b2.exec C L G) [0,1,4,5,18,19,20] [0,1] [(1,[4,5],[0,1])]
def q255_k4 :Ex->St->Option (Ex × St):=Zac (fun st=>q255_p2.exec C L G st (Zah [0,1,4,5,18,19,20] [0,1] [(1,[4,5],[0,1])])) (Zah [0,1,4,5,18,19,20] [0,1] [(1,[4,5],[0,1])])
def q255_k5 :Ex->St->Option (Ex × St):=Zag 1 (q255_k4 C L G)
def q255_k6 :Ex->St->Option (Ex × St):=Zac (fun st=>q255_p3.exec C L G st (q255_k5 C L G)) (q255_k5 C L G)
def q255_k7 :Ex->St->Option (Ex × St):=Zag 2 (q255_k6 C L G)
def q255_s1 (x0:Cell) (a1 a6 a8:Int) (x18:Cell) (a19 a20:Int) (s0 s1 s2:List Cell) (h:Za):St:=⟨.v (.c x0) :: .v (.c (.int .i64 a1)) :: tops 2 (.loc 0 0 :: .loc 1 0 :: .v (.c (.int .i64 a6)) :: .loc 2 0 :: .v (.c (.int .i64 a8)) :: tops 9 (.v (.c x18) :: .v (.c (.int .i64 a19)) :: .v (.c (.int .i64 a20)) :: tops 80 [])),[some s0,some s1,some s2,none],h⟩
def q255_F1 :St->Option (Ex × St):=Zt (q255_b1.exec C L G) [0,1,4,5,6,7,8,18,19,20] [0,1,2] [(3,[0,1,4,5,6,7,18,19,20],[0,1,2])]
def q255_x1_3 (x0:Cell) (a1 a6:Int) (x18:Cell) (a19 a20:Int) (s0 s1 s2:List Cell) (h:Za):St:=⟨.v (.c x0) :: .v (.c (.int .i64 a1)) :: tops 2 (.loc 0 0 :: .loc 1 0 :: .v (.c (.int .i64 a6)) :: .loc 2 0 :: tops 10 (.v (.c x18) :: .v (.c (.int .i64 a19)) :: .v (.c (.int .i64 a20)) :: tops 80 [])),[some s0,some s1,some s2,none],h⟩
def q255_x2_1 (s0 s1:List Cell) (h:Za):St:=⟨tops 4 (.loc 0 0 :: .loc 1 0 :: tops 95 []),[some s0,some s1,none,none],h⟩
theorem q255_r1:q255_F1 C L G (q255_s1 x0 a1 a6 a8 x18 a19 a20 s0 s1 s2 h)=Zz x0 fun n=>if (decide (a8<n))=true then Zl 7 x0 a8 fun k N o=>Zp h k N fun l=>if o+7<=l.length then if 0=0/\(Ya 7 ci0).length=7/\((l.drop o).take 7).length=7 then if 0=0/\s2.length=7 then c1 (C 257 [(.agg s2),(.c (.int .i64 a1))] h) fun y h1=>asB y fun b=>scK b true (if 0=0/\((l.drop o).take 7).length=7 then c1 (C 257 [(.agg ((l.drop o).take 7)),(.c (.int .i64 a1))] h1) fun y h=>asB y fun b=>some (b,h) else none) false h1 fun b h1=>scK b true (Ze s2 3 fun q=>Zk .i64 (.c q) fun n=>Ze ((l.drop o).take 7) 3 fun q=>Zk .i64 (.c q) fun n1=>some ((n==n1),h1)) false h1 fun b h1=>Ze s2 0 fun q=>Zk .i64 (.c q) fun n=>Ze ((l.drop o).take 7) 0 fun q=>Zk .i64 (.c q) fun n1=>scK (n==n1) false (some (b,h1)) true h1 fun b h1=>scK b false (Ze ((l.drop o).take 7) 2 fun q=>Zk .i64 (.c q) fun n=>scK (n==6) true (Ze ((l.drop o).take 7) 6 fun q=>Zk .i64 (.c q) fun n=>some ((n==a6),h1)) false h1 fun b h=>some (b,h)) true h1 fun b h1=>scK b false (Ze s2 2 fun q=>Zk .i64 (.c q) fun n=>scK (n==6) true (Ze s2 1 fun q=>Zk .i64 (.c q) fun n=>Ze ((l.drop o).take 7) 1 fun q=>Zk .i64 (.c q) fun n1=>some ((n==n1),h1)) false h1 fun b h=>scK b true (if 0=0/\((l.drop o).take 7).length=7 then c1 (C 265 [(.agg ((l.drop o).take 7))] h) fun y h=>asB y fun b=>some (b,h) else none) false h fun b h=>some (b,h)) true h1 fun b h1=>if b=true then if 0=0/\s1.length=65 then c1 (C 10 [(.agg s1),(.c (.int .i64 a6)),(.c (.int .i64 a8))] h1) fun y h2=>asA y fun l=>if 0=0/\s1.length=65/\l.length=65 then some (.normal,(q255_s1 x0 a1 a6 (G.wrap .i64 (a8+1)) x18 a19 a20 s0 l s2 h2)) else none else none else some (.normal,(q255_s1 x0 a1 a6 (G.wrap .i64 (a8+1)) x18 a19 a20 s0 s1 s2 h1)) else none else none else none else some ((.exit 2),(q255_x1_3 x0 a1 a6 x18 a19 a20 s0 s1 s2 h)):=by kernel_rfl
theorem q255_e1_3:(q255_k7 C L G) (.exit 2) (q255_x1_3 x0 a1 a6 x18 a19 a20 s0 s1 s2 h)=if 0=0/\s2.length=7 then c1 (C 266 [(.agg s2)] h) fun y h=>asB y fun b=>if b=true then if 0=0/\s1.length=65 then c1 (C 267 [(.agg s1),(.c x0),(.c (.int .i64 a1)),(.c (.int .i64 a6))] h) fun y h1=>asA y fun l=>if 0=0/\s1.length=65/\l.length=65 then some (.normal,(q255_s2 x0 a1 x18 a19 (G.wrap .i64 (a20+1)) s0 l h1)) else none else none else some (.normal,(q255_s2 x0 a1 x18 a19 (G.wrap .i64 (a20+1)) s0 s1 h)) else none:=by kernel_rfl
theorem q255_r2:q255_F2 C L G (q255_s2 x0 a1 x18 a19 a20 s0 s1 h)=if (decide (a20<a19))=true then Zl 7 x18 a20 fun k N o=>Zp h k N fun l=>if o+7<=l.length then if 0=0/\(Ya 7 ci0).length=7/\((l.drop o).take 7).length=7 then (L (q255_F1 C L G) (q255_s1 x0 a1 a20 (G.wrap .i64 (a20+1)) x18 a19 a20 s0 s1 ((l.drop o).take 7) h)).bind fun p=>(q255_k7 C L G) p.1 p.2 else none else none else some ((.exit 0),(q255_x2_1 s0 s1 h)):=by kernel_rfl
theorem q255_e2_1:(q255_k3 C L G h0) (.exit 0) (q255_x2_1 s0 s1 h)=if 0=0/\s1.length=65 then c1 (C 12 [(.agg s1)] h) fun y h=>asA y fun l=>if 0=0/\s0.length=65/\l.length=65 then if 0=0/\l.length=65 then some ([(.agg l)],h) else none else none else none:=by kernel_rfl
theorem q255_eq:q255.body C L G [(.c x0),(.c (.int .i64 a1))] h0=Zz x0 fun n=>if (decide (n > 64))=true then c1 (C 9 [(.c (.int .i64 0))] h0) fun y h=>asA y fun l=>if 0=0/\([ci0]++Ya 64 (Cell.int .u64 0)).length=65/\l.length=65 then if 0=0/\l.length=65 then some ([(.agg l)],h) else none else none else Zz x0 fun n=>c1 (C 9 [(.c (.int .i64 n))] h0) fun y h=>asA y fun l=>if 0=0/\([ci0]++Ya 64 (Cell.int .u64 0)).length=65/\l.length=65 then Zz x0 fun n=>(L (q255_F2 C L G) (q255_s2 x0 a1 x0 n 0 ([ci0]++Ya 64 (Cell.int .u64 0)) l h)).bind fun p=>(q255_k3 C L G h0) p.1 p.2 else none:=by kernel_rfl
theorem q257_eq:q257.body C L G [(.agg l0),(.c (.int .i64 a1))] h0=Ze l0 2 fun q=>Zk .i64 (.c q) fun n=>scK (n==6) false (Ze l0 2 fun q=>Zk .i64 (.c q) fun n=>some ((n==4),h0)) true h0 fun b h=>scK b false (scK (a1==1) true (Ze l0 2 fun q=>Zk .i64 (.c q) fun n=>some ((n==2),h)) false h fun b h=>some (b,h)) true h fun b h=>some ([(.c (.bool b))],h):=by kernel_rfl
theorem q265_eq:q265.body C L G [(.agg l0)] h0=Ze l0 2 fun q=>Zk .i64 (.c q) fun n=>scK (n==3) false (Ze l0 2 fun q=>Zk .i64 (.c q) fun n=>some ((n==4),h0)) true h0 fun b h=>scK b false (Ze l0 2 fun q=>Zk .i64 (.c q) fun n=>some ((n==5),h)) true h fun b h=>some ([(.c (.bool b))],h):=by kernel_rfl
theorem q266_eq:q266.body C L G [(.agg l0)] h0=Ze l0 2 fun q=>Zk .i64 (.c q) fun n=>scK (n==1) false (Ze l0 2 fun q=>Zk .i64 (.c q) fun n=>some ((n==4),h0)) true h0 fun b h=>scK b false (Ze l0 2 fun q=>Zk .i64 (.c q) fun n=>some ((n==5),h)) true h fun b h=>some ([(.c (.bool b))],h):=by kernel_rfl
def q267_k2 (h0:Za):Ex->St->Rs:=Zac (fun st=>q267_p1.exec C L G st (q267.fin G h0)) (q267.fin G h0)
def q267_c1_0 (s1:List Cell) (h:Za):St:=⟨tops 8 (.loc 1 0 :: tops 72 []),[none,some s1,none],h⟩
def q267_c1 (x1:Cell) (a2 a3 a10:Int) (s0 s1 s2:List Cell) (h:Za):St:=⟨tops 1 (.v (.c x1) :: .v (.c (.int .i64 a2)) :: .v (.c (.int .i64 a3)) :: .loc 0 0 :: tops 3 (.loc 1 0 :: .loc 2 0 :: .v (.c (.int .i64 a10)) :: tops 70 [])),[some s0,some s1,some s2],h⟩
def q267_k3 (h0:Za):Ex->St->Rs:=Zac (fun st=>q267_p2.exec C L G st (q267.fin G h0)) (q267.fin G h0)
def q267_k4 (h0:Za):Ex->St->Rs:=Zag 0 (q267_k3 C L G h0)
def q267_s1 (x1:Cell) (a2 a3 a11:Int) (s0 s1 s2:List Cell) (h:Za):St:=⟨tops 1 (.v (.c x1) :: .v (.c (.int .i64 a2)) :: .v (.c (.int .i64 a3)) :: .loc 0 0 :: tops 3 (.loc 1 0 :: .loc 2 0 :: tops 1 (.v (.c (.int .i64 a11)) :: tops 69 []))),[some s0,some s1,some s2],h⟩
def q267_F1 :St->Option (Ex × St):=Zt (q267_b1.exec C L G) [1,2,3,4,8,9,11] [0,1,2] [(1,[4,8],[0,1])]
def q267_x1_1 (s0 s1:List Cell) (h:Za):St:=⟨tops 4 (.loc 0 0 :: tops 3 (.loc 1 0 :: tops 72 [])),[some s0,some s1,none],h⟩
theorem q267_r1:q267_F1 C L G (q267_s1 x1 a2 a3 a11 s0 s1 s2 h)=Zz x1 fun n=>if (decide (a11<n))=true then scK (a11 != a3) true (Zl 7 x1 a11 fun k N o=>Zp h k N fun l=>if o+7<=l.length then c1 (qh h (C 257 [(.agg ((l.drop o).take 7)),(.c (.int .i64 a2))] h)) fun y h1=>asB y fun b=>some (b,h) else none) false h fun b h1=>scK b true (Zl 7 x1 a11 fun k N o=>Zp h1 k N fun l=>Ze l (o+3) fun q=>Zk .i64 (.c q) fun n=>Ze s2 3 fun q=>Zk .i64 (.c q) fun n1=>some ((n==n1),h1)) false h1 fun b h1=>if b=true then if 0=0/\s0.length=65 then c1 (C 10 [(.agg s0),(.c (.int .i64 a3)),(.c (.int .i64 a11))] h1) fun y h2=>asA y fun l=>if 0=0/\s0.length=65/\l.length=65 then some (.normal,(q267_s1 x1 a2 a3 (G.wrap .i64 (a11+1)) l s1 s2 h2)) else none else none else some (.normal,(q267_s1 x1 a2 a3 (G.wrap .i64 (a11+1)) s0 s1 s2 h1)) else some ((.exit 0),(q267_x1_1 s0 s1 h)):=by kernel_rfl
theorem q267_e1_1:(q267_k4 C L G h0) (.exit 0) (q267_x1_1 s0 s1 h)=if 0=0/\s0.length=65 then if 0=0/\s1.length=65/\s0.length=65 then if 0=0/\s0.length=65 then some ([(.agg s0)],h) else none else none else none:=by kernel_rfl
theorem q267_ec1_n:(q267_k2 C L G h0) .normal (q267_c1 x1 a2 a3 a10 s0 s1 s2 h)=(L (q267_F1 C L G) (q267_s1 x1 a2 a3 (G.wrap .i64 (a10+1)) s0 s1 s2 h)).bind fun p=>(q267_k4 C L G h0) p.1 p.2:=by kernel_rfl
theorem q267_ec1_0:(q267_k2 C L G h0) .ret (q267_c1_0 s1 h)=if 0=0/\s1.length=65 then some ([(.agg s1)],h) else none:=by kernel_rfl
theorem q267_eq:q267.body C L G [(.agg l0),(.c x1),(.c (.int .i64 a2)),(.c (.int .i64 a3))] h0=Zl 7 x1 a3 fun k N o=>Zp h0 k N fun l=>if o+7<=l.length then if 0=0/\(Ya 7 ci0).length=7/\((l.drop o).take 7).length=7 then (Ze ((l.drop o).take 7) 6 fun q=>Zk .i64 (.c q) fun n=>scK (decide (n>=0)) true (Ze ((l.drop o).take 7) 6 fun q=>Zk .i64 (.c q) fun n=>Zz x1 fun n1=>some ((decide (n<n1)),h0)) false h0 fun b h=>if b=true then Ze ((l.drop o).take 7) 6 fun q=>Zk .i64 (.c q) fun n=>c1 (C 273 [(.c x1),(.c (.int .i64 a2)),(.c (.int .i64 n))] h) fun y h1=>Zk .i64 y fun n=>if (decide (n<0))=true then if 0=0/\l0.length=65 then if 0=0/\([ci0]++Ya 64 (Cell.int .u64 0)).length=65/\l0.length=65 then some (.ret,(q267_c1_0 l0 h1)) else none else none else Ze ((l.drop o).take 7) 6 fun q=>Zk .i64 (.c q) fun n1=>Zl 7 x1 n1 fun k N o1=>Zp h1 k N fun l1=>Ze l1 (o1+1) fun q=>Zk .i64 (.c q) fun n1=>Ze ((l.drop o).take 7) 1 fun q=>Zk .i64 (.c q) fun n2=>if (n1 != n2)=true then if 0=0/\l0.length=65 then c1 (C 10 [(.agg l0),(.c (.int .i64 n)),(.c (.int .i64 a3))] h1) fun y h2=>asA y fun l1=>if 0=0/\l0.length=65/\l1.length=65 then some (.normal,(q267_c1 x1 a2 a3 n l1 ([ci0]++Ya 64 (Cell.int .u64 0)) ((l.drop o).take 7) h2)) else none else none else some (.normal,(q267_c1 x1 a2 a3 n l0 ([ci0]++Ya 64 (Cell.int .u64 0)) ((l.drop o).take 7) h1)) else some (.normal,(q267_c1 x1 a2 a3 (-1) l0 ([ci0]++Ya 64 (Cell.int .u64 0)) ((l.drop o).take 7) h)):Option (Ex × St)).bind fun p=>(q267_k2 C L G h0) p.1 p.2 else none else none:=by kernel_rfl
theorem q273_eq:q273.body C L G [(.c x0),(.c (.int .i64 a1)),(.c (.int .i64 a2))] h0=Zp (h0++[some (Blk.mk true 0 (AV.cells (.c (.int .i64 a2))))]) h0.length ((AV.cells (.c (.int .i64 a2))).length) fun l=>Ze l 0 fun q=>Zk .i64 (.c q) fun n=>Zl 7 x0 n fun k N o=>Zp (h0++[some (Blk.mk true 0 (AV.cells (.c (.int .i64 a2))))]) k N fun l=>if o+7<=l.length then c1 (C 257 [(.agg ((l.drop o).take 7)),(.c (.int .i64 a1))] (h0++[some (Blk.mk true 0 (AV.cells (.c (.int .i64 a2))))])) fun y h=>asB y fun b=>if b=true then Zp h h0.length ((AV.cells (.c (.int .i64 a2))).length) fun l=>Ze l 0 fun q=>Zk .i64 (.c q) fun n=>Zbr true h0 [(.c (.int .i64 n))] h else c1 (C 283 [(.c x0),(.c (.fn 282 [(h0.length,(AV.cells (.c (.int .i64 a2))).length,0)]))] h) fun y h=>Zk .i64 y fun n=>Zbr true h0 [(.c (.int .i64 n))] h else none:=by kernel_rfl
theorem q282_eq:q282.body C L G [(.agg l0),(.c (.ptr k1 N1 o1))] h0=Ze l0 2 fun q=>Zk .i64 (.c q) fun n=>scK (n==6) true (Ze l0 6 fun q=>Zk .i64 (.c q) fun n=>Zp h0 k1 N1 fun l=>Ze l o1 fun q=>Zk .i64 (.c q) fun n1=>some ((n==n1),h0)) false h0 fun b h=>some ([(.c (.bool b))],h):=by kernel_rfl
theorem q302_eq:q302.body C L G [(.agg l0),(.c (.int .i64 a1)),(.c x2)] h0=if 0=0/\l0.length=3 then c3 (C 271 [(.agg l0),(.c (.int .i64 a1)),(.c x2)] h0) fun y y1 y2 h=>asC y fun x=>Zk .i64 y1 fun n=>asB y2 fun b=>Zz x2 fun n1=>scK (n != n1) false (some ((!b),h)) true h fun b h=>if b=true then if 0=0/\[Cell.nils,Cell.nils,Cell.nils].length=3/\[Cell.nils,Cell.nils,Cell.nils].length=3 then if 0=0/\[Cell.nils,Cell.nils,Cell.nils].length=3 then some ([(.agg [Cell.nils,Cell.nils,Cell.nils]),(.c (.bool false))],h) else none else none else if 0=0/\l0.length=3 then c1 (C 315 [(.agg l0),(.c (.int .i64 a1)),(.c x)] h) fun y h=>asA y fun l=>if 0=0/\[Cell.nils,Cell.nils,Cell.nils].length=3/\l.length=3 then if 0=0/\l.length=3 then some ([(.agg l),(.c (.bool true))],h) else none else none else none else none:=by kernel_rfl
def q315_k2 (h0:Za):Ex->St->Rs:=Zac (fun st=>q315_p1.exec C L G st (q315.fin G h0)) (q315.fin G h0)
def q315_k3 (h0:Za):Ex->St->Rs:=Zag 0 (q315_k2 C L G h0)
def q315_s2 (a1:Int) (x2 x8:Cell) (a24 a25:Int) (s0 s1 s2:List Cell) (h:Za):St:=⟨tops 1 (.v (.c (.int .i64 a1)) :: .v (.c x2) :: .loc 0 0 :: tops 2 (.loc 1 0 :: .loc 2 0 :: .v (.c x8) :: tops 15 (.v (.c (.int .i64 a24)) :: .v (.c (.int .i64 a25)) :: tops 142 []))),[some s0,some s1,some s2,none,none],h⟩
def q315_F2 :St->Option (Ex × St):=Zt (q315_b2.exec C L G) [1,2,3,6,7,8,24,25] [0,1,2] [(1,[1,2,3,6,7,8],[0,1,2])]
def q315_k4 :Ex->St->Option (Ex × St):=Zac (fun st=>q315_p2.exec C L G st (Zah [1,2,3,6,7,8,24,25] [0,1,2] [(1,[1,2,3,6,7,8],[0,1,2])])) (Zah [1,2,3,6,7,8,24,25] [0,1,2] [(1,[1,2,3,6,7,8],[0,1,2])])
def q315_k5 :Ex->St->Option (Ex × St):=Zag 1 (q315_k4 C L G)
def q315_k6 :Ex->St->Option (Ex × St):=Zag 2 (q315_k5 C L G)
def q315_s1 (a1:Int) (x2 x8:Cell) (a9 a10:Int) (a24 a25:Int) (x28:Cell) (a29 a30:Int) (s0 s1 s2:List Cell) (h:Za):St:=⟨tops 1 (.v (.c (.int .i64 a1)) :: .v (.c x2) :: .loc 0 0 :: tops 2 (.loc 1 0 :: .loc 2 0 :: .v (.c x8) :: .v (.c (.int .i64 a9)) :: .v (.c (.int .i64 a10)) :: tops 13 (.v (.c (.int .i64 a24)) :: .v (.c (.int .i64 a25)) :: tops 2 (.v (.c x28) :: .v (.c (.int .i64 a29)) :: .v (.c (.int .i64 a30)) :: tops 137 [])))),[some s0,some s1,some s2,none,none],h⟩
def q315_F1 :St->Option (Ex × St):=Zt (q315_b1.exec C L G) [1,2,3,6,7,8,9,10,24,25,28,29,30] [0,1,2] [(3,[1,2,3,6,7,8,24,25],[0,1,2])]
def q315_x1_3 (a1:Int) (x2 x8:Cell) (a24 a25:Int) (s0 s1 s2:List Cell) (h:Za):St:=⟨tops 1 (.v (.c (.int .i64 a1)) :: .v (.c x2) :: .loc 0 0 :: tops 2 (.loc 1 0 :: .loc 2 0 :: .v (.c x8) :: tops 15 (.v (.c (.int .i64 a24)) :: .v (.c (.int .i64 a25)) :: tops 142 []))),[some s0,some s1,some s2,none,none],h⟩
def q315_x2_1 (a1:Int) (x2 x8:Cell) (s0 s1 s2:List Cell) (h:Za):St:=⟨tops 1 (.v (.c (.int .i64 a1)) :: .v (.c x2) :: .loc 0 0 :: tops 2 (.loc 1 0 :: .loc 2 0 :: .v (.c x8) :: tops 159 [])),[some s0,some s1,some s2,none,none],h⟩
def q315_k7 (h0:Za):Ex->St->Rs:=Zac (fun st=>q315_p3.exec C L G st (q315.fin G h0)) (q315.fin G h0)
def q315_k8 (h0:Za):Ex->St->Rs:=Zag 4 (q315_k7 C L G h0)
def q315_s3 (a1:Int) (x2 x8:Cell) (a78 a79:Int) (s1 s2:List Cell) (h:Za):St:=⟨tops 1 (.v (.c (.int .i64 a1)) :: .v (.c x2) :: tops 3 (.loc 1 0 :: .loc 2 0 :: .v (.c x8) :: tops 69 (.v (.c (.int .i64 a78)) :: .v (.c (.int .i64 a79)) :: tops 88 []))),[none,some s1,some s2,none,none],h⟩
def q315_F3 :St->Option (Ex × St):=Zt (q315_b3.exec C L G) [1,2,6,7,8,78,79] [1,2] [(5,[1,2,6,7,8],[1,2])]
def q315_x3_5 (a1:Int) (x2 x8:Cell) (s1 s2:List Cell) (h:Za):St:=⟨tops 1 (.v (.c (.int .i64 a1)) :: .v (.c x2) :: tops 3 (.loc 1 0 :: .loc 2 0 :: .v (.c x8) :: tops 159 [])),[none,some s1,some s2,none,none],h⟩
def q315_k9 (h0:Za):Ex->St->Rs:=Zac (fun st=>q315_p4.exec C L G st (q315.fin G h0)) (q315.fin G h0)
def q315_k10 (h0:Za):Ex->St->Rs:=Zag 6 (q315_k9 C L G h0)
def q315_s4 (a1:Int) (x8 x90:Cell) (a91 a92:Int) (s1 s2:List Cell) (h:Za):St:=⟨tops 1 (.v (.c (.int .i64 a1)) :: tops 4 (.loc 1 0 :: .loc 2 0 :: .v (.c x8) :: tops 81 (.v (.c x90) :: .v (.c (.int .i64 a91)) :: .v (.c (.int .i64 a92)) :: tops 75 []))),[none,some s1,some s2,none,none],h⟩
def q315_F4 :St->Option (Ex × St):=Zt (q315_b4.exec C L G) [1,6,7,8,90,91,92] [1,2] [(7,[6,7],[1,2])]
def q315_k11 :Ex->St->Option (Ex × St):=Zac (fun st=>q315_p5.exec C L G st (Zah [1,6,7,8,90,91,92] [1,2] [(7,[6,7],[1,2])])) (Zah [1,6,7,8,90,91,92] [1,2] [(7,[6,7],[1,2])])
def q315_k12 :Ex->St->Option (Ex × St):=Zag 7 (q315_k11 C L G)
def q315_k13 :Ex->St->Option (Ex × St):=Zac (fun st=>q315_p6.exec C L G st (q315_k12 C L G)) (q315_k12 C L G)
def q315_c1 (a1:Int) (x8:Cell) (a14:Int) (x90:Cell) (a91 a92:Int) (s1 s2 s4:List Cell) (h:Za):St:=⟨tops 1 (.v (.c (.int .i64 a1)) :: tops 4 (.loc 1 0 :: .loc 2 0 :: .v (.c x8) :: tops 5 (.v (.c (.int .i64 a14)) :: .loc 4 0 :: tops 74 (.v (.c x90) :: .v (.c (.int .i64 a91)) :: .v (.c (.int .i64 a92)) :: tops 75 [])))),[none,some s1,some s2,none,some s4],h⟩
def q315_x4_7 (s1 s2:List Cell) (h:Za):St:=⟨tops 6 (.loc 1 0 :: .loc 2 0 :: tops 160 []),[none,some s1,some s2,none,none],h⟩
theorem q315_r1:q315_F1 C L G (q315_s1 a1 x2 x8 a9 a10 a24 a25 x28 a29 a30 s0 s1 s2 h)=if (decide (a30<a29))=true then Zl 7 x28 a30 fun k N o=>Zp h k N fun l=>if o+7<=l.length then if 0=0/\(Ya 7 ci0).length=7/\((l.drop o).take 7).length=7 then Ze ((l.drop o).take 7) 1 fun q=>Zk .i64 (.c q) fun n=>scK (n==a9) true (Ze ((l.drop o).take 7) 2 fun q=>Zk .i64 (.c q) fun n=>some ((n != 6),h)) false h fun b h1=>if b=true then Ze s2 0 fun q=>Zz q fun n=>Zl 1 x8 a30 fun k N o1=>Zp h1 k N fun l1=>if o1<l1.length then Zbe h1 k (l1.set o1 (.int .i64 n)) fun h2=>Ze s2 0 fun q=>Ze ((l.drop o).take 7) 2 fun q1=>Zk .i64 (.c q1) fun n=>Ze ((l.drop o).take 7) 3 fun q1=>Zk .i64 (.c q1) fun n1=>Ze ((l.drop o).take 7) 4 fun q1=>Zk .i64 (.c q1) fun n2=>Ze ((l.drop o).take 7) 5 fun q1=>Zk .i64 (.c q1) fun n3=>if (splice (splice (splice (splice (splice (splice [ci0,ci0,ci0,ci0,ci0,ci0] 0 [(.int .i64 a9)]) 1 [(.int .i64 a10)]) 2 [(.int .i64 n)]) 3 [(.int .i64 n1)]) 4 [(.int .i64 n2)]) 5 [(.int .i64 n3)]).length=6/\0+6<=[ci0,ci0,ci0,ci0,ci0,ci0].length then if (splice [ci0,ci0,ci0,ci0,ci0,ci0] 0 (splice (splice (splice (splice (splice (splice [ci0,ci0,ci0,ci0,ci0,ci0] 0 [(.int .i64 a9)]) 1 [(.int .i64 a10)]) 2 [(.int .i64 n)]) 3 [(.int .i64 n1)]) 4 [(.int .i64 n2)]) 5 [(.int .i64 n3)])).length=1*6 then Zao 6 48 q (splice [ci0,ci0,ci0,ci0,ci0,ci0] 0 (splice (splice (splice (splice (splice (splice [ci0,ci0,ci0,ci0,ci0,ci0] 0 [(.int .i64 a9)]) 1 [(.int .i64 a10)]) 2 [(.int .i64 n)]) 3 [(.int .i64 n1)]) 4 [(.int .i64 n2)]) 5 [(.int .i64 n3)])) h2 fun x h2=>if 0<s2.length then some (.normal,(q315_s1 a1 x2 x8 a9 (G.wrap .i64 (a10+1)) a24 a25 x28 a29 (G.wrap .i64 (a30+1)) s0 s1 (s2.set 0 x) h2)) else none else none else none else none else some (.normal,(q315_s1 a1 x2 x8 a9 a10 a24 a25 x28 a29 (G.wrap .i64 (a30+1)) s0 s1 s2 h1)) else none else none else some ((.exit 2),(q315_x1_3 a1 x2 x8 a24 a25 s0 s1 s2 h)):=by kernel_rfl
theorem q315_e1_3:(q315_k6 C L G) (.exit 2) (q315_x1_3 a1 x2 x8 a24 a25 s0 s1 s2 h)=some (.normal,(q315_s2 a1 x2 x8 a24 (G.wrap .i64 (a25+1)) s0 s1 s2 h)):=by kernel_rfl
theorem q315_r2:q315_F2 C L G (q315_s2 a1 x2 x8 a24 a25 s0 s1 s2 h)=if (decide (a25<a24))=true then Zz x2 fun n=>(L (q315_F1 C L G) (q315_s1 a1 x2 x8 a25 0 a24 a25 x2 n 0 s0 s1 s2 h)).bind fun p=>(q315_k6 C L G) p.1 p.2 else some ((.exit 0),(q315_x2_1 a1 x2 x8 s0 s1 s2 h)):=by kernel_rfl
theorem q315_r3:q315_F3 C L G (q315_s3 a1 x2 x8 a78 a79 s1 s2 h)=if (decide (a79<a78))=true then Ze s2 2 fun q=>if (splice [ci0] 0 [(.int .i64 a79)]).length=1*1 then if (splice [Cell.nils] 0 ([(.sl h.length ((splice [ci0] 0 [(.int .i64 a79)]).length) 0 1)]:List Cell)).length=1*1 then Zao 1 24 q (splice [Cell.nils] 0 ([(.sl h.length ((splice [ci0] 0 [(.int .i64 a79)]).length) 0 1)]:List Cell)) (h++[some (Blk.mk true 1 (splice [ci0] 0 [(.int .i64 a79)]))]) fun x h1=>if 2<s2.length then some (.normal,(q315_s3 a1 x2 x8 a78 (G.wrap .i64 (a79+1)) s1 (s2.set 2 x) h1)) else none else none else none else some ((.exit 4),(q315_x3_5 a1 x2 x8 s1 s2 h)):=by kernel_rfl
theorem q315_ec1_n:(q315_k13 C L G) .normal (q315_c1 a1 x8 a14 x90 a91 a92 s1 s2 s4 h)=Ze s4 2 fun q=>Zk .i64 (.c q) fun n=>if (n==6)=true then Ze s2 2 fun q=>Ze s4 3 fun q1=>Zk .i64 (.c q1) fun n=>Ze s2 2 fun q1=>Ze s4 3 fun q2=>Zk .i64 (.c q2) fun n1=>Zl 1 q1 n1 fun k N o=>Zp h k N fun l=>Ze l o fun q1=>Ze s4 6 fun q2=>Zk .i64 (.c q2) fun n1=>Zl 1 x8 n1 fun k N o=>Zp h k N fun l=>Ze l o fun q2=>Zk .i64 (.c q2) fun n1=>if (splice [ci0] 0 [(.int .i64 n1)]).length=1*1 then Zao 1 8 q1 (splice [ci0] 0 [(.int .i64 n1)]) h fun x h1=>Zl 1 q n fun k N o=>Zp h1 k N fun l=>if o<l.length then Zbe h1 k (l.set o x) fun h1=>some (.normal,(q315_s4 a1 x8 x90 a91 (G.wrap .i64 (a92+1)) s1 s2 h1)) else none else none else if 0=0/\s4.length=7 then c1 (C 257 [(.agg s4),(.c (.int .i64 a1))] h) fun y h=>asB y fun b=>if b=true then Ze s2 2 fun q=>Ze s4 3 fun q1=>Zk .i64 (.c q1) fun n=>Ze s2 2 fun q1=>Ze s4 3 fun q2=>Zk .i64 (.c q2) fun n1=>Zl 1 q1 n1 fun k N o=>Zp h k N fun l=>Ze l o fun q1=>Zl 1 x8 a14 fun k N o=>Zp h k N fun l=>Ze l o fun q2=>Zk .i64 (.c q2) fun n1=>if (splice [ci0] 0 [(.int .i64 n1)]).length=1*1 then Zao 1 8 q1 (splice [ci0] 0 [(.int .i64 n1)]) h fun x h1=>Zl 1 q n fun k N o=>Zp h1 k N fun l=>if o<l.length then Zbe h1 k (l.set o x) fun h1=>some (.normal,(q315_s4 a1 x8 x90 a91 (G.wrap .i64 (a92+1)) s1 s2 h1)) else none else none else some (.normal,(q315_s4 a1 x8 x90 a91 (G.wrap .i64 (a92+1)) s1 s2 h)) else none:=by kernel_rfl
theorem q315_r4:q315_F4 C L G (q315_s4 a1 x8 x90 a91 a92 s1 s2 h)=if (decide (a92<a91))=true then Zl 7 x90 a92 fun k N o=>Zp h k N fun l=>if o+7<=l.length then if 0=0/\(Ya 7 ci0).length=7/\((l.drop o).take 7).length=7 then (if 0=0/\((l.drop o).take 7).length=7 then c1 (C 266 [(.agg ((l.drop o).take 7))] h) fun y h=>asB y fun b=>if b=true then Ze s2 1 fun q=>Zl 1 x8 a92 fun k N o1=>Zp h k N fun l1=>Ze l1 o1 fun q1=>Zk .i64 (.c q1) fun n=>Ze ((l.drop o).take 7) 3 fun q1=>Zk .i64 (.c q1) fun n1=>Zl 1 q n fun k N o1=>Zp h k N fun l1=>if o1<l1.length then Zbe h k (l1.set o1 (.int .i64 n1)) fun h1=>Ze ((l.drop o).take 7) 6 fun q=>Zk .i64 (.c q) fun n=>if (decide (n>=0))=true then Ze s2 1 fun q=>Zl 1 x8 a92 fun k N o1=>Zp h1 k N fun l1=>Ze l1 o1 fun q1=>Zk .i64 (.c q1) fun n=>Ze ((l.drop o).take 7) 6 fun q1=>Zk .i64 (.c q1) fun n1=>Zl 1 x8 n1 fun k N o1=>Zp h1 k N fun l1=>Ze l1 o1 fun q1=>Zk .i64 (.c q1) fun n1=>Zl 1 q n fun k N o1=>Zp h1 k N fun l1=>if o1<l1.length then Zbe h1 k (l1.set o1 (.int .i64 n1)) fun h2=>some (.normal,(q315_c1 a1 x8 a92 x90 a91 a92 s1 s2 ((l.drop o).take 7) h2)) else none else some (.normal,(q315_c1 a1 x8 a92 x90 a91 a92 s1 s2 ((l.drop o).take 7) h1)) else none else some (.normal,(q315_c1 a1 x8 a92 x90 a91 a92 s1 s2 ((l.drop o).take 7) h)) else none:Option (Ex × St)).bind fun p=>(q315_k13 C L G) p.1 p.2 else none else none else some ((.exit 6),(q315_x4_7 s1 s2 h)):=by kernel_rfl
theorem q315_e4_7:(q315_k10 C L G h0) (.exit 6) (q315_x4_7 s1 s2 h)=if 0=0/\s2.length=3 then if 0=0/\s1.length=3/\s2.length=3 then if 0=0/\s2.length=3 then some ([(.agg s2)],h) else none else none else none:=by kernel_rfl
theorem q315_e3_5:(q315_k8 C L G h0) (.exit 4) (q315_x3_5 a1 x2 x8 s1 s2 h)=Zz x2 fun n=>(L (q315_F4 C L G) (q315_s4 a1 x8 x2 n 0 s1 s2 h)).bind fun p=>(q315_k10 C L G h0) p.1 p.2:=by kernel_rfl
theorem q315_e2_1:(q315_k3 C L G h0) (.exit 0) (q315_x2_1 a1 x2 x8 s0 s1 s2 h)=if (splice [ci0] 0 [(.int .i64 (-1))]).length=1*1 then Ze s2 0 fun q=>Zz q fun n=>c1 (C 340 [(.c (.sl h.length ((splice [ci0] 0 [(.int .i64 (-1))]).length) 0 1)),(.c (.int .i64 n))] (h++[some (Blk.mk true 1 (splice [ci0] 0 [(.int .i64 (-1))]))])) fun y h=>asC y fun x=>if 1<s2.length then Ze s0 0 fun q=>Zz q fun n=>(L (q315_F3 C L G) (q315_s3 a1 x2 x8 n 0 s1 (s2.set 1 x) h)).bind fun p=>(q315_k8 C L G h0) p.1 p.2 else none else none:=by kernel_rfl
theorem q315_eq:q315.body C L G [(.agg l0),(.c (.int .i64 a1)),(.c x2)] h0=if 0=0/\l0.length=3 then c1 (C 88 [(.agg l0)] h0) fun y h=>asC y fun x=>if 0=0/\[Cell.nils,Cell.nils,Cell.nils].length=3/\(splice [Cell.nils,Cell.nils,Cell.nils] 0 [x]).length=3 then Zz x2 fun n=>if 0<=n/\n<=n/\(Yc n)*8<=maxBytes/\n<=(maxBytes:Nat) then Ze l0 2 fun q=>Zz q fun n1=>(L (q315_F2 C L G) (q315_s2 a1 x2 (.sl h.length ((rep (Yc n) ([ci0])).length) 0 (Yc n)) n1 0 l0 [Cell.nils,Cell.nils,Cell.nils] (splice [Cell.nils,Cell.nils,Cell.nils] 0 [x]) (h++[some (Blk.mk true 1 (rep (Yc n) ([ci0])))]))).bind fun p=>(q315_k3 C L G h0) p.1 p.2 else none else none else none:=by kernel_rfl
theorem q415_eq:q415.body C L G [(.agg l0),(.c (.int .i64 a1)),(.c x2),(.c x3)] h0=if 0=0/\l0.length=3 then c2 (C 302 [(.agg l0),(.c (.int .i64 a1)),(.c x2)] h0) fun y y1 h=>asA y fun l=>asB y1 fun b=>if 0=0/\[Cell.nils,Cell.nils,Cell.nils].length=3/\l.length=3 then if 0=0/\l0.length=3 then c2 (C 302 [(.agg l0),(.c (.int .i64 a1)),(.c x3)] h) fun y y1 h=>asA y fun l1=>asB y1 fun b1=>if 0=0/\[Cell.nils,Cell.nils,Cell.nils].length=3/\l1.length=3 then scK b true (some (b1,h)) false h fun b h=>scK b true (if 0=0/\l.length=3 then if 0=0/\l1.length=3 then c1 (C 303 [(.agg l),(.agg l1)] h) fun y h=>asB y fun b=>some (b,h) else none else none) false h fun b h=>some ([(.c (.bool b))],h) else none else none else none else none:=by kernel_rfl
end
section
variable (C:Zab) (L:Zbv) (G:Glo)
variable {h h0:Za}
variable {b5 b10 b138 b177 b220 b251:Bool}
variable {x2 x3 x6 x8:Cell}
variable {a1 a2 a4 a6 a7 a8 a9 a11 a15 a16:Int}
variable {l0 s0 s1 s2 s3 s4:List Cell}
variable {N0 N5 k0 k5 o0 o5:Nat}
def q180_k2 (h0:Za):Ex->St->Rs:=Zac (fun st=>q180_p1.exec C L G st (q180.fin G h0)) (q180.fin G h0)
def q180_k3 (h0:Za):Ex->St->Rs:=Zag 0 (q180_k2 C L G h0)
def q180_s1 (k5 N5 o5:Nat) (a6:Int) (s0:List Cell) (h:Za):St:=⟨tops 2 (.loc 0 0 :: tops 2 (.v (.c (.ptr k5 N5 o5)) :: .v (.c (.int .i64 a6)) :: tops 39 [])),[some s0],h⟩
def q180_F1 :St->Option (Ex × St):=Zt (q180_b1.exec C L G) [2,5,6] [0] [(1,[2,5],[0])]
def q180_x1_1 (k5 N5 o5:Nat) (s0:List Cell) (h:Za):St:=⟨tops 2 (.loc 0 0 :: tops 2 (.v (.c (.ptr k5 N5 o5)) :: tops 40 [])),[some s0],h⟩
def q180_k4 (h0:Za):Ex->St->Rs:=Zac (fun st=>q180_p2.exec C L G st (q180.fin G h0)) (q180.fin G h0)
def q180_k5 (h0:Za):Ex->St->Rs:=Zag 2 (q180_k4 C L G h0)
def q180_s2 (k5 N5 o5:Nat) (a7:Int) (s0:List Cell) (h:Za):St:=⟨tops 2 (.loc 0 0 :: tops 2 (.v (.c (.ptr k5 N5 o5)) :: tops 1 (.v (.c (.int .i64 a7)) :: tops 38 []))),[some s0],h⟩
def q180_F2 :St->Option (Ex × St):=Zt (q180_b2.exec C L G) [2,5,7] [0] [(3,[5],[])]
def q180_x2_3 (k5 N5 o5:Nat) (h:Za):St:=⟨tops 5 (.v (.c (.ptr k5 N5 o5)) :: tops 40 []),[none],h⟩
theorem q180_r1:q180_F1 C L G (q180_s1 k5 N5 o5 a6 s0 h)=Ze s0 1 fun q=>Zz q fun n=>if (decide (a6<n))=true then Ze s0 1 fun q=>Zl 1 q a6 fun k N o=>Zp h k N fun l=>Ze l o fun q=>Zk .i64 (.c q) fun n=>if 0<=a6/\a6<((4:Nat):Int) then Zp h k5 N5 fun l=>if ((o5+4)+((Yc a6)*1))<l.length then Zbe h k5 (l.set ((o5+4)+((Yc a6)*1)) (.int .i64 n)) fun h1=>some (.normal,(q180_s1 k5 N5 o5 (G.wrap .i64 (a6+1)) s0 h1)) else none else none else some ((.exit 0),(q180_x1_1 k5 N5 o5 s0 h)):=by kernel_rfl
theorem q180_r2:q180_F2 C L G (q180_s2 k5 N5 o5 a7 s0 h)=Ze s0 2 fun q=>Zz q fun n=>if (decide (a7<n))=true then if 0=0/\s0.length=3 then c1 (qh h (C 104 [(.agg s0),(.c (.int .i64 a7))] h)) fun y h1=>asA y fun l=>if 0<=a7/\a7<((4:Nat):Int) then Zp h k5 N5 fun l1=>if ((o5+12)+((Yc a7)*5))+5<=l1.length/\l.length=5 then Zbe h k5 (splice l1 ((o5+12)+((Yc a7)*5)) l) fun h1=>some (.normal,(q180_s2 k5 N5 o5 (G.wrap .i64 (a7+1)) s0 h1)) else none else none else none else some ((.exit 2),(q180_x2_3 k5 N5 o5 h)):=by kernel_rfl
theorem q180_e2_3:(q180_k5 C L G h0) (.exit 2) (q180_x2_3 k5 N5 o5 h)=some ([(.c (.ptr k5 N5 o5))],h):=by kernel_rfl
theorem q180_e1_1:(q180_k3 C L G h0) (.exit 0) (q180_x1_1 k5 N5 o5 s0 h)=(L (q180_F2 C L G) (q180_s2 k5 N5 o5 0 s0 h)).bind fun p=>(q180_k5 C L G h0) p.1 p.2:=by kernel_rfl
theorem q180_eq:q180.body C L G [(.agg l0),(.c (.int .i64 a1))] h0=if 0=0/\l0.length=3 then if l0.length=3/\0+3<=([Cell.nils,Cell.nils,Cell.nils]++Ya 29 ci0++Ya 5 (Cell.nils)).length then if ([(.int .i64 a1)]:List Cell).length=1/\3+1<=(splice ([Cell.nils,Cell.nils,Cell.nils]++Ya 29 ci0++Ya 5 (Cell.nils)) 0 l0).length then if (splice (splice (splice (splice [ci0,ci0,ci0,ci0] 0 [(.int .i64 (-1))]) 1 [(.int .i64 (-1))]) 2 [(.int .i64 (-1))]) 3 [(.int .i64 (-1))]).length=4/\8+4<=(splice (splice ([Cell.nils,Cell.nils,Cell.nils]++Ya 29 ci0++Ya 5 (Cell.nils)) 0 l0) 3 [(.int .i64 a1)]).length then (L (q180_F1 C L G) (q180_s1 h0.length ((AV.cells (.agg (splice (splice (splice ([Cell.nils,Cell.nils,Cell.nils]++Ya 29 ci0++Ya 5 (Cell.nils)) 0 l0) 3 [(.int .i64 a1)]) 8 (splice (splice (splice (splice [ci0,ci0,ci0,ci0] 0 [(.int .i64 (-1))]) 1 [(.int .i64 (-1))]) 2 [(.int .i64 (-1))]) 3 [(.int .i64 (-1))])))).length) 0 0 l0 (h0++[some (Blk.mk true 0 (AV.cells (.agg (splice (splice (splice ([Cell.nils,Cell.nils,Cell.nils]++Ya 29 ci0++Ya 5 (Cell.nils)) 0 l0) 3 [(.int .i64 a1)]) 8 (splice (splice (splice (splice [ci0,ci0,ci0,ci0] 0 [(.int .i64 (-1))]) 1 [(.int .i64 (-1))]) 2 [(.int .i64 (-1))]) 3 [(.int .i64 (-1))])))))]))).bind fun p=>(q180_k3 C L G h0) p.1 p.2 else none else none else none else none:=by kernel_rfl
def q181_k2 (h0:Za):Ex->St->Rs:=Zac (fun st=>q181_p1.exec C L G st (q181.fin G h0)) (q181.fin G h0)
def q181_k3 (h0:Za):Ex->St->Rs:=Zag 0 (q181_k2 C L G h0)
def q181_s1 (k0 N0 o0:Nat) (x3:Cell) (a4:Int) (h:Za):St:=⟨.v (.c (.ptr k0 N0 o0)) :: tops 2 (.v (.c x3) :: .v (.c (.int .i64 a4)) :: tops 12 []),[],h⟩
def q181_F1 :St->Option (Ex × St):=Zt (q181_b1.exec C L G) [0,3,4] [] [(1,[3],[])]
def q181_x1_1 (x3:Cell) (h:Za):St:=⟨tops 3 (.v (.c x3) :: tops 13 []),[],h⟩
theorem q181_r1:q181_F1 C L G (q181_s1 k0 N0 o0 x3 a4 h)=if (decide (a4<24))=true then c1 (C 196 [(.c (.ptr k0 N0 o0)),(.c (.int .i64 a4))] h) fun y h1=>asB y fun b=>if b=true then if (splice [ci0] 0 [(.int .i64 a4)]).length=1*1 then Zao 1 8 x3 (splice [ci0] 0 [(.int .i64 a4)]) h1 fun x h2=>some (.normal,(q181_s1 k0 N0 o0 x (G.wrap .i64 (a4+1)) h2)) else none else some (.normal,(q181_s1 k0 N0 o0 x3 (G.wrap .i64 (a4+1)) h1)) else some ((.exit 0),(q181_x1_1 x3 h)):=by kernel_rfl
theorem q181_e1_1:(q181_k3 C L G h0) (.exit 0) (q181_x1_1 x3 h)=some ([(.c x3)],h):=by kernel_rfl
theorem q181_eq:q181.body C L G [(.c (.ptr k0 N0 o0))] h0=(L (q181_F1 C L G) (q181_s1 k0 N0 o0 .nils 0 h0)).bind fun p=>(q181_k3 C L G h0) p.1 p.2:=by kernel_rfl
def q182_k2 (h0:Za):Ex->St->Rs:=Zac (fun st=>q182_p1.exec C L G st (q182.fin G h0)) (q182.fin G h0)
def q182_c1_0 (b5:Bool) (s0:List Cell) (h:Za):St:=⟨tops 4 (.loc 0 0 :: .v (.c (.bool b5)) :: tops 299 []),[some s0,none,none,none,none],h⟩
def q182_c1 (k0 N0 o0:Nat) (a1:Int) (s0:List Cell) (h:Za):St:=⟨.v (.c (.ptr k0 N0 o0)) :: .v (.c (.int .i64 a1)) :: tops 2 (.loc 0 0 :: tops 300 []),[some s0,none,none,none,none],h⟩
def q182_k3 (h0:Za):Ex->St->Rs:=Zac (fun st=>q182_p2.exec C L G st (q182.fin G h0)) (q182.fin G h0)
def q182_c2 (k0 N0 o0:Nat) (a1 a6:Int) (s0:List Cell) (h:Za):St:=⟨.v (.c (.ptr k0 N0 o0)) :: .v (.c (.int .i64 a1)) :: tops 2 (.loc 0 0 :: tops 1 (.v (.c (.int .i64 a6)) :: tops 298 [])),[some s0,none,none,none,none],h⟩
def q182_k4 (h0:Za):Ex->St->Rs:=Zac (fun st=>q182_p3.exec C L G st (q182.fin G h0)) (q182.fin G h0)
def q182_c3 (k0 N0 o0:Nat) (a1 a6:Int) (s0 s1:List Cell) (h:Za):St:=⟨.v (.c (.ptr k0 N0 o0)) :: .v (.c (.int .i64 a1)) :: tops 2 (.loc 0 0 :: tops 1 (.v (.c (.int .i64 a6)) :: .loc 1 0 :: tops 297 [])),[some s0,some s1,none,none,none],h⟩
def q182_k5 (h0:Za):Ex->St->Rs:=Zac (fun st=>q182_p4.exec C L G st (q182.fin G h0)) (q182.fin G h0)
def q182_k6 :Ex->St->Option (Ex × St):=Zac (fun st=>q182_p5.exec C L G st (Zah [0,1,4,6,7] [0,1] [(0,[4,5],[0])])) (Zah [0,1,4,6,7] [0,1] [(0,[4,5],[0])])
def q182_c5 (k0 N0 o0:Nat) (a1 a6:Int) (a8 a9:Int) (b10:Bool) (s0 s1:List Cell) (h:Za):St:=⟨.v (.c (.ptr k0 N0 o0)) :: .v (.c (.int .i64 a1)) :: tops 2 (.loc 0 0 :: tops 1 (.v (.c (.int .i64 a6)) :: .loc 1 0 :: .v (.c (.int .i64 a8)) :: .v (.c (.int .i64 a9)) :: .v (.c (.bool b10)) :: tops 294 [])),[some s0,some s1,none,none,none],h⟩
def q182_k7 :Ex->St->Option (Ex × St):=Zac (fun st=>q182_p6.exec C L G st (Zah [0,1,4,6,7] [0,1] [(0,[4,5],[0])])) (Zah [0,1,4,6,7] [0,1] [(0,[4,5],[0])])
def q182_c6 (k0 N0 o0:Nat) (a8 a11:Int) (s0 s1:List Cell) (h:Za):St:=⟨.v (.c (.ptr k0 N0 o0)) :: tops 3 (.loc 0 0 :: tops 2 (.loc 1 0 :: .v (.c (.int .i64 a8)) :: tops 2 (.v (.c (.int .i64 a11)) :: tops 293 []))),[some s0,some s1,none,none,none],h⟩
def q182_k8 :Ex->St->Option (Ex × St):=Zac (fun st=>q182_p7.exec C L G st (Zah [0,1,4,6,7] [0,1] [(0,[4,5],[0])])) (Zah [0,1,4,6,7] [0,1] [(0,[4,5],[0])])
def q182_c7 (k0 N0 o0:Nat) (a8 a11:Int) (s0 s1 s2:List Cell) (h:Za):St:=⟨.v (.c (.ptr k0 N0 o0)) :: tops 3 (.loc 0 0 :: tops 2 (.loc 1 0 :: .v (.c (.int .i64 a8)) :: tops 2 (.v (.c (.int .i64 a11)) :: .loc 2 0 :: tops 292 []))),[some s0,some s1,some s2,none,none],h⟩
def q182_k9 :Ex->St->Option (Ex × St):=Zac (fun st=>q182_p8.exec C L G st (Zah [0,1,4,6,7] [0,1] [(0,[4,5],[0])])) (Zah [0,1,4,6,7] [0,1] [(0,[4,5],[0])])
def q182_c8 (k0 N0 o0:Nat) (a8:Int) (s0 s1 s2:List Cell) (h:Za):St:=⟨.v (.c (.ptr k0 N0 o0)) :: tops 3 (.loc 0 0 :: tops 2 (.loc 1 0 :: .v (.c (.int .i64 a8)) :: tops 3 (.loc 2 0 :: tops 292 []))),[some s0,some s1,some s2,none,none],h⟩
def q182_k10 :Ex->St->Option (Ex × St):=Zac (fun st=>q182_p9.exec C L G st (Zah [0,1,4,6,7] [0,1] [(0,[4,5],[0])])) (Zah [0,1,4,6,7] [0,1] [(0,[4,5],[0])])
def q182_c9 (k0 N0 o0:Nat) (a8:Int) (s0 s1 s2:List Cell) (h:Za):St:=⟨.v (.c (.ptr k0 N0 o0)) :: tops 3 (.loc 0 0 :: tops 2 (.loc 1 0 :: .v (.c (.int .i64 a8)) :: tops 3 (.loc 2 0 :: tops 292 []))),[some s0,some s1,some s2,none,none],h⟩
def q182_k11 :Ex->St->Option (Ex × St):=Zac (fun st=>q182_p10.exec C L G st (Zah [0,1,4,6,7] [0,1] [(0,[4,5],[0])])) (Zah [0,1,4,6,7] [0,1] [(0,[4,5],[0])])
def q182_c10 (k0 N0 o0:Nat) (s0 s1:List Cell) (h:Za):St:=⟨.v (.c (.ptr k0 N0 o0)) :: tops 3 (.loc 0 0 :: tops 2 (.loc 1 0 :: tops 297 [])),[some s0,some s1,none,none,none],h⟩
def q182_c4_0 (b5:Bool) (s0:List Cell) (h:Za):St:=⟨tops 4 (.loc 0 0 :: .v (.c (.bool b5)) :: tops 299 []),[some s0,none,none,none,none],h⟩
def q182_c4 (k0 N0 o0:Nat) (a1 a6:Int) (s0 s1:List Cell) (h:Za):St:=⟨.v (.c (.ptr k0 N0 o0)) :: .v (.c (.int .i64 a1)) :: tops 2 (.loc 0 0 :: tops 1 (.v (.c (.int .i64 a6)) :: .loc 1 0 :: tops 297 [])),[some s0,some s1,none,none,none],h⟩
def q182_k12 (h0:Za):Ex->St->Rs:=Zac (fun st=>q182_p11.exec C L G st (q182.fin G h0)) (q182.fin G h0)
def q182_c11 (k0 N0 o0:Nat) (a1 a6:Int) (s0 s1 s3:List Cell) (h:Za):St:=⟨.v (.c (.ptr k0 N0 o0)) :: .v (.c (.int .i64 a1)) :: tops 2 (.loc 0 0 :: tops 1 (.v (.c (.int .i64 a6)) :: .loc 1 0 :: tops 5 (.loc 3 0 :: tops 291 []))),[some s0,some s1,none,some s3,none],h⟩
def q182_k13 (h0:Za):Ex->St->Rs:=Zac (fun st=>q182_p12.exec C L G st (q182.fin G h0)) (q182.fin G h0)
def q182_k14 :Ex->St->Option (Ex × St):=Zac (fun st=>q182_p13.exec C L G st (Zah [0,1,4,6,7,13,15] [0,1,3] [])) (Zah [0,1,4,6,7,13,15] [0,1,3] [])
def q182_c13 (k0 N0 o0:Nat) (a1 a6 a15:Int) (b138:Bool) (s0 s1 s3:List Cell) (h:Za):St:=⟨.v (.c (.ptr k0 N0 o0)) :: .v (.c (.int .i64 a1)) :: tops 2 (.loc 0 0 :: tops 1 (.v (.c (.int .i64 a6)) :: .loc 1 0 :: tops 5 (.loc 3 0 :: tops 1 (.v (.c (.int .i64 a15)) :: tops 122 (.v (.c (.bool b138)) :: tops 166 []))))),[some s0,some s1,none,some s3,none],h⟩
def q182_k15 :Ex->St->Option (Ex × St):=Zac (fun st=>q182_p14.exec C L G st (Zah [0,1,4,6,7,13,15] [0,1,3] [])) (Zah [0,1,4,6,7,13,15] [0,1,3] [])
def q182_c14 (k0 N0 o0:Nat) (a1 a6 a15:Int) (s0 s1 s3:List Cell) (h:Za):St:=⟨.v (.c (.ptr k0 N0 o0)) :: .v (.c (.int .i64 a1)) :: tops 2 (.loc 0 0 :: tops 1 (.v (.c (.int .i64 a6)) :: .loc 1 0 :: tops 5 (.loc 3 0 :: tops 1 (.v (.c (.int .i64 a15)) :: tops 289 [])))),[some s0,some s1,none,some s3,none],h⟩
def q182_k16 (C:Zab) (L:Zbv) (G:Glo):Ex->St->Option (Ex × St):=Zag 0 (Zah [0,1,4,6,7,13,15] [0,1,3] [])
def q182_s1 (k0 N0 o0:Nat) (a1 a6:Int) (a15 a16:Int) (s0 s1 s3:List Cell) (h:Za):St:=⟨.v (.c (.ptr k0 N0 o0)) :: .v (.c (.int .i64 a1)) :: tops 2 (.loc 0 0 :: tops 1 (.v (.c (.int .i64 a6)) :: .loc 1 0 :: tops 5 (.loc 3 0 :: tops 1 (.v (.c (.int .i64 a15)) :: .v (.c (.int .i64 a16)) :: tops 288 [])))),[some s0,some s1,none,some s3,none],h⟩
def q182_F1 :St->Option (Ex × St):=Zt (q182_b1.exec C L G) [0,1,4,6,7,13,15,16] [0,1,3] [(1,[0,1,4,6,7,13,15],[0,1,3])]
def q182_k17 :Ex->St->Option (Ex × St):=Zac (fun st=>q182_p15.exec C L G st (Zah [0,1,4,6,7,13,15,16] [0,1,3] [(1,[0,1,4,6,7,13,15],[0,1,3])])) (Zah [0,1,4,6,7,13,15,16] [0,1,3] [(1,[0,1,4,6,7,13,15],[0,1,3])])
def q182_c15 (k0 N0 o0:Nat) (a1 a6:Int) (a15 a16:Int) (s0 s1 s3:List Cell) (h:Za):St:=⟨.v (.c (.ptr k0 N0 o0)) :: .v (.c (.int .i64 a1)) :: tops 2 (.loc 0 0 :: tops 1 (.v (.c (.int .i64 a6)) :: .loc 1 0 :: tops 5 (.loc 3 0 :: tops 1 (.v (.c (.int .i64 a15)) :: .v (.c (.int .i64 a16)) :: tops 288 [])))),[some s0,some s1,none,some s3,none],h⟩
def q182_c15_1 (k0 N0 o0:Nat) (a1 a6 a15:Int) (s0 s1 s3:List Cell) (h:Za):St:=⟨.v (.c (.ptr k0 N0 o0)) :: .v (.c (.int .i64 a1)) :: tops 2 (.loc 0 0 :: tops 1 (.v (.c (.int .i64 a6)) :: .loc 1 0 :: tops 5 (.loc 3 0 :: tops 1 (.v (.c (.int .i64 a15)) :: tops 289 [])))),[some s0,some s1,none,some s3,none],h⟩
def q182_k18 :Ex->St->Option (Ex × St):=Zac (fun st=>q182_p16.exec C L G st (Zah [0,1,4,6,7,13,15,16] [0,1,3] [(1,[0,1,4,6,7,13,15],[0,1,3])])) (Zah [0,1,4,6,7,13,15,16] [0,1,3] [(1,[0,1,4,6,7,13,15],[0,1,3])])
def q182_k19 :Ex->St->Option (Ex × St):=Zag 1 (q182_k18 C L G)
def q182_k20 :Ex->St->Option (Ex × St):=Zac (fun st=>q182_p17.exec C L G st (q182_k19 C L G)) (q182_k19 C L G)
def q182_c16 (k0 N0 o0:Nat) (a1 a6:Int) (a15 a16:Int) (b177:Bool) (s0 s1 s3:List Cell) (h:Za):St:=⟨.v (.c (.ptr k0 N0 o0)) :: .v (.c (.int .i64 a1)) :: tops 2 (.loc 0 0 :: tops 1 (.v (.c (.int .i64 a6)) :: .loc 1 0 :: tops 5 (.loc 3 0 :: tops 1 (.v (.c (.int .i64 a15)) :: .v (.c (.int .i64 a16)) :: tops 160 (.v (.c (.bool b177)) :: tops 127 []))))),[some s0,some s1,none,some s3,none],h⟩
def q182_x1_1 (k0 N0 o0:Nat) (a1 a6 a15:Int) (s0 s1 s3:List Cell) (h:Za):St:=⟨.v (.c (.ptr k0 N0 o0)) :: .v (.c (.int .i64 a1)) :: tops 2 (.loc 0 0 :: tops 1 (.v (.c (.int .i64 a6)) :: .loc 1 0 :: tops 5 (.loc 3 0 :: tops 1 (.v (.c (.int .i64 a15)) :: tops 289 [])))),[some s0,some s1,none,some s3,none],h⟩
def q182_c12 (k0 N0 o0:Nat) (a1 a6 a15:Int) (s0 s1 s3:List Cell) (h:Za):St:=⟨.v (.c (.ptr k0 N0 o0)) :: .v (.c (.int .i64 a1)) :: tops 2 (.loc 0 0 :: tops 1 (.v (.c (.int .i64 a6)) :: .loc 1 0 :: tops 5 (.loc 3 0 :: tops 1 (.v (.c (.int .i64 a15)) :: tops 289 [])))),[some s0,some s1,none,some s3,none],h⟩
def q182_k21 (h0:Za):Ex->St->Rs:=Zac (fun st=>q182_p18.exec C L G st (q182.fin G h0)) (q182.fin G h0)
def q182_c17 (k0 N0 o0:Nat) (a1 a6 a15:Int) (s0 s1 s4:List Cell) (h:Za):St:=⟨.v (.c (.ptr k0 N0 o0)) :: .v (.c (.int .i64 a1)) :: tops 2 (.loc 0 0 :: tops 1 (.v (.c (.int .i64 a6)) :: .loc 1 0 :: tops 7 (.v (.c (.int .i64 a15)) :: tops 1 (.loc 4 0 :: tops 287 [])))),[some s0,some s1,none,none,some s4],h⟩
def q182_k22 (h0:Za):Ex->St->Rs:=Zac (fun st=>q182_p19.exec C L G st (q182.fin G h0)) (q182.fin G h0)
def q182_c18 (k0 N0 o0:Nat) (a1 a6 a15:Int) (s0 s1 s4:List Cell) (h:Za):St:=⟨.v (.c (.ptr k0 N0 o0)) :: .v (.c (.int .i64 a1)) :: tops 2 (.loc 0 0 :: tops 1 (.v (.c (.int .i64 a6)) :: .loc 1 0 :: tops 7 (.v (.c (.int .i64 a15)) :: tops 1 (.loc 4 0 :: tops 287 [])))),[some s0,some s1,none,none,some s4],h⟩
def q182_k23 (h0:Za):Ex->St->Rs:=Zac (fun st=>q182_p20.exec C L G st (q182.fin G h0)) (q182.fin G h0)
def q182_k24 (C:Zab) (L:Zbv) (G:Glo):Ex->St->Option (Ex × St):=Zag 2 (Zah [0,1,4,7,15] [0,1] [])
def q182_k25 :Ex->St->Option (Ex × St):=Zac (fun st=>q182_p21.exec C L G st (q182_k24 C L G)) (q182_k24 C L G)
def q182_c20 (k0 N0 o0:Nat) (a1 a6 a15:Int) (b220:Bool) (s0 s1 s4:List Cell) (h:Za):St:=⟨.v (.c (.ptr k0 N0 o0)) :: .v (.c (.int .i64 a1)) :: tops 2 (.loc 0 0 :: tops 1 (.v (.c (.int .i64 a6)) :: .loc 1 0 :: tops 7 (.v (.c (.int .i64 a15)) :: tops 1 (.loc 4 0 :: tops 202 (.v (.c (.bool b220)) :: tops 84 []))))),[some s0,some s1,none,none,some s4],h⟩
def q182_c19 (k0 N0 o0:Nat) (a1 a15:Int) (s0 s1:List Cell) (h:Za):St:=⟨.v (.c (.ptr k0 N0 o0)) :: .v (.c (.int .i64 a1)) :: tops 2 (.loc 0 0 :: tops 2 (.loc 1 0 :: tops 7 (.v (.c (.int .i64 a15)) :: tops 289 []))),[some s0,some s1,none,none,none],h⟩
def q182_k26 :Ex->St->Option (Ex × St):=Zac (fun st=>q182_p22.exec C L G st (q182_k24 C L G)) (q182_k24 C L G)
def q182_c21 (k0 N0 o0:Nat) (a1 a6 a15:Int) (b251:Bool) (s0 s1 s4:List Cell) (h:Za):St:=⟨.v (.c (.ptr k0 N0 o0)) :: .v (.c (.int .i64 a1)) :: tops 2 (.loc 0 0 :: tops 1 (.v (.c (.int .i64 a6)) :: .loc 1 0 :: tops 7 (.v (.c (.int .i64 a15)) :: tops 1 (.loc 4 0 :: tops 233 (.v (.c (.bool b251)) :: tops 53 []))))),[some s0,some s1,none,none,some s4],h⟩
def q182_k27 (h0:Za):Ex->St->Rs:=Zac (fun st=>q182_p23.exec C L G st (q182.fin G h0)) (q182.fin G h0)
def q182_c22 (k0 N0 o0:Nat) (s0 s1:List Cell) (h:Za):St:=⟨.v (.c (.ptr k0 N0 o0)) :: tops 3 (.loc 0 0 :: tops 2 (.loc 1 0 :: tops 297 [])),[some s0,some s1,none,none,none],h⟩
theorem q182_ec10_n:(q182_k11 C L G) .normal (q182_c10 k0 N0 o0 s0 s1 h)=Zp h k0 N0 fun l=>Ze l (o0+36) fun q=>if 0=0/\s1.length=7 then if s1.length=7/\0+7<=(Ya 7 ci0).length then if (splice (Ya 7 ci0) 0 s1).length=1*7 then Zao 7 56 q (splice (Ya 7 ci0) 0 s1) h fun x h=>Zp h k0 N0 fun l=>if (o0+36)<l.length then Zbe h k0 (l.set (o0+36) x) fun h=>if 0=0/\s1.length=7 then if 0=0/\s0.length=7/\s1.length=7 then some (.ret,(q182_c4_0 true s1 h)) else none else none else none else none else none else none:=by kernel_rfl
theorem q182_ec9_n:(q182_k10 C L G) .normal (q182_c9 k0 N0 o0 a8 s0 s1 s2 h)=(Ze s2 0 fun q=>Zk .i64 (.c q) fun n=>Ze s2 1 fun q=>Zk .i64 (.c q) fun n1=>Ze s2 2 fun q=>Zk .i64 (.c q) fun n2=>if 1<s1.length then if 2<(s1.set 1 (.int .i64 a8)).length then if 3<((s1.set 1 (.int .i64 a8)).set 2 (.int .i64 6)).length then if 5<(((s1.set 1 (.int .i64 a8)).set 2 (.int .i64 6)).set 3 (.int .i64 n)).length then if 6<((((s1.set 1 (.int .i64 a8)).set 2 (.int .i64 6)).set 3 (.int .i64 n)).set 5 (.int .i64 n1)).length then some (.normal,(q182_c10 k0 N0 o0 s0 (((((s1.set 1 (.int .i64 a8)).set 2 (.int .i64 6)).set 3 (.int .i64 n)).set 5 (.int .i64 n1)).set 6 (.int .i64 n2)) h)) else none else none else none else none else none:Option (Ex × St)).bind fun p=>(q182_k11 C L G) p.1 p.2:=by kernel_rfl
theorem q182_ec8_n:(q182_k9 C L G) .normal (q182_c8 k0 N0 o0 a8 s0 s1 s2 h)=(Ze s2 0 fun q=>Zk .i64 (.c q) fun n=>Ze s2 0 fun q=>Zk .i64 (.c q) fun n1=>Ze s2 1 fun q=>Zk .i64 (.c q) fun n2=>Ze s2 2 fun q=>Zk .i64 (.c q) fun n3=>if 0<=n/\n<((4:Nat):Int) then Zp h k0 N0 fun l=>if ((o0+4)+((Yc n)*1))<l.length then Zbe h k0 (l.set ((o0+4)+((Yc n)*1)) (.int .i64 n2)) fun h=>if 0<=n1/\n1<((4:Nat):Int) then Zp h k0 N0 fun l=>if ((o0+8)+((Yc n1)*1))<l.length then Zbe h k0 (l.set ((o0+8)+((Yc n1)*1)) (.int .i64 n3)) fun h=>some (.normal,(q182_c9 k0 N0 o0 a8 s0 s1 s2 h)) else none else none else none else none:Option (Ex × St)).bind fun p=>(q182_k10 C L G) p.1 p.2:=by kernel_rfl
theorem q182_ec7_n:(q182_k8 C L G) .normal (q182_c7 k0 N0 o0 a8 a11 s0 s1 s2 h)=(if ([]:List Cell).length=0*3 then if 0<=a8/\a8<((4:Nat):Int) then rd0 (h++[some (Blk.mk true 3 [])]) k0 N0 fun l=>Ze l ((o0+32)+((Yc a8)*1)) fun q=>Zcm (h++[some (Blk.mk true 3 [])]) 3 false true q [.v (.c (.int .i64 a11))] fun x=>(Zaq (h++[some (Blk.mk true 3 [])]) 3 x).bind fun l=>Zao 3 24 (.sl h.length (([]:List Cell).length) 0 0) l (h++[some (Blk.mk true 3 [])]) fun x h=>if 0<=a8/\a8<((4:Nat):Int) then rd0 h k0 N0 fun l=>Ze l ((o0+32)+((Yc a8)*1)) fun q=>Zcm h 3 true false q [.v (.c (.int .i64 (G.wrap .i64 (a11+1))))] fun x1=>(Zaq h 3 x1).bind fun l=>Zao 3 24 x l h fun x h=>if 0<=a8/\a8<((4:Nat):Int) then Zp h k0 N0 fun l=>if ((o0+32)+((Yc a8)*1))<l.length then Zbe h k0 (l.set ((o0+32)+((Yc a8)*1)) x) fun h=>some (.normal,(q182_c8 k0 N0 o0 a8 s0 s1 s2 h)) else none else none else none else none else none:Option (Ex × St)).bind fun p=>(q182_k9 C L G) p.1 p.2:=by kernel_rfl
theorem q182_ec6_n:(q182_k7 C L G) .normal (q182_c6 k0 N0 o0 a8 a11 s0 s1 h)=(if 0<=a8/\a8<((4:Nat):Int) then Zp h k0 N0 fun l=>Ze l ((o0+32)+((Yc a8)*1)) fun q=>Zl 3 q a11 fun k N o=>Zp h k N fun l=>if o+3<=l.length then if 0=0/\[ci0,ci0,ci0].length=3/\((l.drop o).take 3).length=3 then some (.normal,(q182_c7 k0 N0 o0 a8 a11 s0 s1 ((l.drop o).take 3) h)) else none else none else none:Option (Ex × St)).bind fun p=>(q182_k8 C L G) p.1 p.2:=by kernel_rfl
theorem q182_ec5_n:(q182_k6 C L G) .normal (q182_c5 k0 N0 o0 a1 a6 a8 a9 b10 s0 s1 h)=if b10=true then (c1 (C 198 [(.c (.ptr k0 N0 o0)),(.c (.int .i64 a8)),(.c (.int .i64 a9))] h) fun y h=>Zk .i64 y fun n=>some (.normal,(q182_c6 k0 N0 o0 a8 n s0 s1 h)):Option (Ex × St)).bind fun p=>(q182_k7 C L G) p.1 p.2 else some (.normal,(q182_c4 k0 N0 o0 a1 a6 s0 s1 h)):=by kernel_rfl
theorem q182_ec16_n:(q182_k20 C L G) .normal (q182_c16 k0 N0 o0 a1 a6 a15 a16 b177 s0 s1 s3 h)=if b177=true then if 0<=a1/\a1<((4:Nat):Int) then Zp h k0 N0 fun l=>Ze l ((o0+32)+((Yc a1)*1)) fun q=>Zl 3 q a16 fun k N o=>Zp h k N fun l=>Ze l (o+1) fun q=>Zk .i64 (.c q) fun n=>if 0<=a1/\a1<((4:Nat):Int) then Zp h k0 N0 fun l=>Ze l ((o0+32)+((Yc a1)*1)) fun q=>Zl 3 q a16 fun k N o=>Zp h k N fun l=>Ze l (o+2) fun q=>Zk .i64 (.c q) fun n1=>if 6<s1.length then some (.normal,(q182_s1 k0 N0 o0 a1 a6 n (G.wrap .i64 (a16+1)) s0 (s1.set 6 (.int .i64 n1)) s3 h)) else none else none else none else some (.normal,(q182_s1 k0 N0 o0 a1 a6 a15 (G.wrap .i64 (a16+1)) s0 s1 s3 h)):=by kernel_rfl
theorem q182_ec15_n:(q182_k17 C L G) .normal (q182_c15 k0 N0 o0 a1 a6 a15 a16 s0 s1 s3 h)=(if 0<=a1/\a1<((4:Nat):Int) then Zp h k0 N0 fun l=>Ze l ((o0+32)+((Yc a1)*1)) fun q=>Zl 3 q a16 fun k N o=>Zp h k N fun l=>Ze l (o+0) fun q=>Zk .i64 (.c q) fun n=>Ze s3 2 fun q=>Zk .i64 (.c q) fun n1=>some (.normal,(q182_c16 k0 N0 o0 a1 a6 a15 a16 (n==n1) s0 s1 s3 h)) else none:Option (Ex × St)).bind fun p=>(q182_k20 C L G) p.1 p.2:=by kernel_rfl
theorem q182_ec15_1:(q182_k17 C L G) (.exit 0) (q182_c15_1 k0 N0 o0 a1 a6 a15 s0 s1 s3 h)=some ((.exit 0),(q182_x1_1 k0 N0 o0 a1 a6 a15 s0 s1 s3 h)):=by kernel_rfl
theorem q182_r1:q182_F1 C L G (q182_s1 k0 N0 o0 a1 a6 a15 a16 s0 s1 s3 h)=(if 0<=a1/\a1<((4:Nat):Int) then Zp h k0 N0 fun l=>Ze l ((o0+32)+((Yc a1)*1)) fun q=>Zz q fun n=>if (decide (a16<n))=true then some (.normal,(q182_c15 k0 N0 o0 a1 a6 a15 a16 s0 s1 s3 h)) else some ((.exit 0),(q182_c15_1 k0 N0 o0 a1 a6 a15 s0 s1 s3 h)) else none:Option (Ex × St)).bind fun p=>(q182_k17 C L G) p.1 p.2:=by kernel_rfl
theorem q182_e1_1:(q182_k16 C L G) (.exit 0) (q182_x1_1 k0 N0 o0 a1 a6 a15 s0 s1 s3 h)=some (.normal,(q182_c12 k0 N0 o0 a1 a6 a15 s0 s1 s3 h)):=by kernel_rfl
theorem q182_ec14_n:(q182_k15 C L G) .normal (q182_c14 k0 N0 o0 a1 a6 a15 s0 s1 s3 h)=(L (q182_F1 C L G) (q182_s1 k0 N0 o0 a1 a6 a15 0 s0 s1 s3 h)).bind fun p=>(q182_k16 C L G) p.1 p.2:=by kernel_rfl
theorem q182_ec13_n:(q182_k14 C L G) .normal (q182_c13 k0 N0 o0 a1 a6 a15 b138 s0 s1 s3 h)=if b138=true then (Ze s3 2 fun q=>Zk .i64 (.c q) fun n=>if 0<=n/\n<((4:Nat):Int) then Zp h k0 N0 fun l=>Ze l ((o0+4)+((Yc n)*1)) fun q=>Zk .i64 (.c q) fun n=>Ze s3 2 fun q=>Zk .i64 (.c q) fun n1=>if 0<=n1/\n1<((4:Nat):Int) then Zp h k0 N0 fun l=>Ze l ((o0+8)+((Yc n1)*1)) fun q=>Zk .i64 (.c q) fun n1=>if 6<s1.length then some (.normal,(q182_c14 k0 N0 o0 a1 a6 n s0 (s1.set 6 (.int .i64 n1)) s3 h)) else none else none else none:Option (Ex × St)).bind fun p=>(q182_k15 C L G) p.1 p.2 else some (.normal,(q182_c12 k0 N0 o0 a1 a6 a15 s0 s1 s3 h)):=by kernel_rfl
theorem q182_ec21_n:(q182_k26 C L G) .normal (q182_c21 k0 N0 o0 a1 a6 a15 b251 s0 s1 s4 h)=if b251=true then if ([]:List Cell).length=0*3 then if 0<=a1/\a1<((4:Nat):Int) then rd0 (h++[some (Blk.mk true 3 [])]) k0 N0 fun l=>Ze l ((o0+32)+((Yc a1)*1)) fun q=>(Zaq (h++[some (Blk.mk true 3 [])]) 3 q).bind fun l=>Zao 3 24 (.sl h.length (([]:List Cell).length) 0 0) l (h++[some (Blk.mk true 3 [])]) fun x h1=>Ze s4 3 fun q=>Zk .i64 (.c q) fun n=>Ze s4 5 fun q=>Zk .i64 (.c q) fun n1=>if (splice (splice (splice [ci0,ci0,ci0] 0 [(.int .i64 n)]) 1 [(.int .i64 n1)]) 2 [(.int .i64 a6)]).length=3/\0+3<=[ci0,ci0,ci0].length then if (splice [ci0,ci0,ci0] 0 (splice (splice (splice [ci0,ci0,ci0] 0 [(.int .i64 n)]) 1 [(.int .i64 n1)]) 2 [(.int .i64 a6)])).length=1*3 then Zao 3 24 x (splice [ci0,ci0,ci0] 0 (splice (splice (splice [ci0,ci0,ci0] 0 [(.int .i64 n)]) 1 [(.int .i64 n1)]) 2 [(.int .i64 a6)])) h1 fun x h1=>if 0<=a1/\a1<((4:Nat):Int) then Zp h1 k0 N0 fun l=>if ((o0+32)+((Yc a1)*1))<l.length then Zbe h1 k0 (l.set ((o0+32)+((Yc a1)*1)) x) fun h1=>some (.normal,(q182_c19 k0 N0 o0 a1 a15 s0 s1 h1)) else none else none else none else none else none else none else some (.normal,(q182_c19 k0 N0 o0 a1 a15 s0 s1 h)):=by kernel_rfl
theorem q182_ec20_n:(q182_k25 C L G) .normal (q182_c20 k0 N0 o0 a1 a6 a15 b220 s0 s1 s4 h)=if b220=true then Ze s4 3 fun q=>Zk .i64 (.c q) fun n=>Ze s4 3 fun q=>Zk .i64 (.c q) fun n1=>Ze s4 5 fun q=>Zk .i64 (.c q) fun n2=>if 0<=n/\n<((4:Nat):Int) then Zp h k0 N0 fun l=>if ((o0+4)+((Yc n)*1))<l.length then Zbe h k0 (l.set ((o0+4)+((Yc n)*1)) (.int .i64 n2)) fun h1=>if 0<=n1/\n1<((4:Nat):Int) then Zp h1 k0 N0 fun l=>if ((o0+8)+((Yc n1)*1))<l.length then Zbe h1 k0 (l.set ((o0+8)+((Yc n1)*1)) (.int .i64 a6)) fun h1=>some (.normal,(q182_c19 k0 N0 o0 a1 a15 s0 s1 h1)) else none else none else none else none else (Ze s4 2 fun q=>Zk .i64 (.c q) fun n=>some (.normal,(q182_c21 k0 N0 o0 a1 a6 a15 (n==2) s0 s1 s4 h)):Option (Ex × St)).bind fun p=>(q182_k26 C L G) p.1 p.2:=by kernel_rfl
theorem q182_ec22_n:(q182_k27 C L G h0) .normal (q182_c22 k0 N0 o0 s0 s1 h)=Zp h k0 N0 fun l=>Ze l (o0+36) fun q=>if 0=0/\s1.length=7 then if s1.length=7/\0+7<=(Ya 7 ci0).length then if (splice (Ya 7 ci0) 0 s1).length=1*7 then Zao 7 56 q (splice (Ya 7 ci0) 0 s1) h fun x h=>Zp h k0 N0 fun l=>if (o0+36)<l.length then Zbe h k0 (l.set (o0+36) x) fun h=>if 0=0/\s1.length=7 then if 0=0/\s0.length=7/\s1.length=7 then if 0=0/\s1.length=7 then some ([(.agg s1),(.c (.bool true))],h) else none else none else none else none else none else none else none:=by kernel_rfl
theorem q182_ec19_n:(q182_k23 C L G h0) .normal (q182_c19 k0 N0 o0 a1 a15 s0 s1 h)=(Zp h k0 N0 fun l=>if (o0+0)+3<=l.length then if 0<=a1/\a1<((4:Nat):Int) then Zp h k0 N0 fun l1=>if ((o0+12)+((Yc a1)*5))+5<=l1.length then c1 (qh h (C 107 [(.agg ((l.drop (o0+0)).take 3)),(.c (.int .i64 a1)),(.agg ((l1.drop ((o0+12)+((Yc a1)*5))).take 5)),(.c (.int .i64 a15))] h)) fun y h1=>asA y fun l=>if 0<=a1/\a1<((4:Nat):Int) then Zp h k0 N0 fun l1=>if ((o0+12)+((Yc a1)*5))+5<=l1.length/\l.length=5 then Zbe h k0 (splice l1 ((o0+12)+((Yc a1)*5)) l) fun h=>some (.normal,(q182_c22 k0 N0 o0 s0 s1 h)) else none else none else none else none else none:Option (Ex × St)).bind fun p=>(q182_k27 C L G h0) p.1 p.2:=by kernel_rfl
theorem q182_ec18_n:(q182_k22 C L G h0) .normal (q182_c18 k0 N0 o0 a1 a6 a15 s0 s1 s4 h)=((Ze s4 2 fun q=>Zk .i64 (.c q) fun n=>scK (n==4) false (Ze s4 2 fun q=>Zk .i64 (.c q) fun n=>scK (n==2) true (Zp h k0 N0 fun l=>Ze l (o0+3) fun q=>Zk .i64 (.c q) fun n=>some ((n==1),h)) false h fun b h=>some (b,h)) true h fun b h=>some (.normal,(q182_c20 k0 N0 o0 a1 a6 a15 b s0 s1 s4 h)):Option (Ex × St)).bind fun p=>(q182_k25 C L G) p.1 p.2:Option (Ex × St)).bind fun p=>(q182_k23 C L G h0) p.1 p.2:=by kernel_rfl
theorem q182_ec17_n:(q182_k21 C L G h0) .normal (q182_c17 k0 N0 o0 a1 a6 a15 s0 s1 s4 h)=(Ze s4 2 fun q=>Zk .i64 (.c q) fun n=>Ze s4 3 fun q=>Zk .i64 (.c q) fun n1=>Ze s4 4 fun q=>Zk .i64 (.c q) fun n2=>Ze s4 5 fun q=>Zk .i64 (.c q) fun n3=>if 2<s1.length then if 3<(s1.set 2 (.int .i64 n)).length then if 4<((s1.set 2 (.int .i64 n)).set 3 (.int .i64 n1)).length then if 5<(((s1.set 2 (.int .i64 n)).set 3 (.int .i64 n1)).set 4 (.int .i64 n2)).length then some (.normal,(q182_c18 k0 N0 o0 a1 a6 a15 s0 ((((s1.set 2 (.int .i64 n)).set 3 (.int .i64 n1)).set 4 (.int .i64 n2)).set 5 (.int .i64 n3)) s4 h)) else none else none else none else none:Option (Ex × St)).bind fun p=>(q182_k22 C L G h0) p.1 p.2:=by kernel_rfl
theorem q182_ec12_n:(q182_k13 C L G h0) .normal (q182_c12 k0 N0 o0 a1 a6 a15 s0 s1 s3 h)=(if 0=0/\s3.length=9 then if 0<=a1/\a1<((4:Nat):Int) then Zp h k0 N0 fun l=>if ((o0+12)+((Yc a1)*5))+5<=l.length then c1 (qh h (C 111 [(.agg s3),(.agg ((l.drop ((o0+12)+((Yc a1)*5))).take 5)),(.c (.int .i64 a15))] h)) fun y h1=>asA y fun l=>if 0=0/\[ci0,ci0,ci0,ci0,ci0,ci0].length=6/\l.length=6 then some (.normal,(q182_c17 k0 N0 o0 a1 a6 a15 s0 s1 l h)) else none else none else none else none:Option (Ex × St)).bind fun p=>(q182_k21 C L G h0) p.1 p.2:=by kernel_rfl
theorem q182_ec11_n:(q182_k12 C L G h0) .normal (q182_c11 k0 N0 o0 a1 a6 s0 s1 s3 h)=((Ze s3 0 fun q=>Zk .i64 (.c q) fun n=>scK (n==2) false (Ze s3 0 fun q=>Zk .i64 (.c q) fun n=>some ((n==4),h)) true h fun b h=>some (.normal,(q182_c13 k0 N0 o0 a1 a6 0 b s0 s1 s3 h)):Option (Ex × St)).bind fun p=>(q182_k14 C L G) p.1 p.2:Option (Ex × St)).bind fun p=>(q182_k13 C L G h0) p.1 p.2:=by kernel_rfl
theorem q182_ec4_n:(q182_k5 C L G h0) .normal (q182_c4 k0 N0 o0 a1 a6 s0 s1 h)=(Zp h k0 N0 fun l=>if (o0+0)+3<=l.length then if 0<=a1/\a1<((4:Nat):Int) then Zp h k0 N0 fun l1=>if ((o0+12)+((Yc a1)*5))+5<=l1.length then c2 (qh h (C 81 [(.agg ((l.drop (o0+0)).take 3)),(.c (.int .i64 a1)),(.agg ((l1.drop ((o0+12)+((Yc a1)*5))).take 5))] h)) fun y y1 h1=>asA y fun l=>asB y1 fun b=>if 0=0/\(Ya 9 ci0).length=9/\l.length=9 then some (.normal,(q182_c11 k0 N0 o0 a1 a6 s0 s1 l h)) else none else none else none else none:Option (Ex × St)).bind fun p=>(q182_k12 C L G h0) p.1 p.2:=by kernel_rfl
theorem q182_ec4_0:(q182_k5 C L G h0) .ret (q182_c4_0 b5 s0 h)=if 0=0/\s0.length=7 then some ([(.agg s0),(.c (.bool b5))],h) else none:=by kernel_rfl
theorem q182_ec3_n:(q182_k4 C L G h0) .normal (q182_c3 k0 N0 o0 a1 a6 s0 s1 h)=((c3 (C 197 [(.c (.ptr k0 N0 o0)),(.c (.int .i64 a1))] h) fun y y1 y2 h=>Zk .i64 y fun n=>Zk .i64 y1 fun n1=>asB y2 fun b=>some (.normal,(q182_c5 k0 N0 o0 a1 a6 n n1 b s0 s1 h)):Option (Ex × St)).bind fun p=>(q182_k6 C L G) p.1 p.2:Option (Ex × St)).bind fun p=>(q182_k5 C L G h0) p.1 p.2:=by kernel_rfl
theorem q182_ec2_n:(q182_k3 C L G h0) .normal (q182_c2 k0 N0 o0 a1 a6 s0 h)=(if 0=0/\(Ya 7 ci0).length=7/\(splice (splice (splice (Ya 7 ci0) 0 [(.int .i64 a1)]) 1 [(.int .i64 a1)]) 6 [(.int .i64 (-1))]).length=7 then some (.normal,(q182_c3 k0 N0 o0 a1 a6 s0 (splice (splice (splice (Ya 7 ci0) 0 [(.int .i64 a1)]) 1 [(.int .i64 a1)]) 6 [(.int .i64 (-1))]) h)) else none:Option (Ex × St)).bind fun p=>(q182_k4 C L G h0) p.1 p.2:=by kernel_rfl
theorem q182_ec1_n:(q182_k2 C L G h0) .normal (q182_c1 k0 N0 o0 a1 s0 h)=(Zp h k0 N0 fun l=>Ze l (o0+36) fun q=>Zz q fun n=>some (.normal,(q182_c2 k0 N0 o0 a1 n s0 h)):Option (Ex × St)).bind fun p=>(q182_k3 C L G h0) p.1 p.2:=by kernel_rfl
theorem q182_ec1_0:(q182_k2 C L G h0) .ret (q182_c1_0 b5 s0 h)=if 0=0/\s0.length=7 then some ([(.agg s0),(.c (.bool b5))],h) else none:=by kernel_rfl
theorem q182_eq:q182.body C L G [(.c (.ptr k0 N0 o0)),(.c (.int .i64 a1))] h0=(c1 (C 196 [(.c (.ptr k0 N0 o0)),(.c (.int .i64 a1))] h0) fun y h=>asB y fun b=>if (!b)=true then if 0=0/\(Ya 7 ci0).length=7/\(Ya 7 ci0).length=7 then some (.ret,(q182_c1_0 false (Ya 7 ci0) h)) else none else some (.normal,(q182_c1 k0 N0 o0 a1 (Ya 7 ci0) h)):Option (Ex × St)).bind fun p=>(q182_k2 C L G h0) p.1 p.2:=by kernel_rfl
def q186_k2 (h0:Za):Ex->St->Rs:=Zac (fun st=>q186_p1.exec C L G st (q186.fin G h0)) (q186.fin G h0)
def q186_k3 (h0:Za):Ex->St->Rs:=Zag 0 (q186_k2 C L G h0)
def q186_s1 (x2 x8:Cell) (a9:Int) (h:Za):St:=⟨tops 2 (.v (.c x2) :: tops 5 (.v (.c x8) :: .v (.c (.int .i64 a9)) :: tops 27 [])),[none,none],h⟩
def q186_F1 :St->Option (Ex × St):=Zt (q186_b1.exec C L G) [2,8,9] [] [(0,[6,7],[]),(1,[2,8],[])]
def q186_x1_0 (x6:Cell) (a7:Int) (h:Za):St:=⟨tops 6 (.v (.c x6) :: .v (.c (.int .i64 a7)) :: tops 29 []),[none,none],h⟩
def q186_x1_1 (x2 x8:Cell) (h:Za):St:=⟨tops 2 (.v (.c x2) :: tops 5 (.v (.c x8) :: tops 28 [])),[none,none],h⟩
theorem q186_r1:q186_F1 C L G (q186_s1 x2 x8 a9 h)=Zz x2 fun n=>if (decide (a9<n))=true then Zl 1 x2 a9 fun k N o=>Zp h k N fun l=>Ze l o fun q=>Zk .i64 (.c q) fun n=>c2 (C 182 [(.c x8),(.c (.int .i64 n))] h) fun y y1 h1=>asA y fun l=>asB y1 fun b=>if 0=0/\(Ya 7 ci0).length=7/\l.length=7 then if (!b)=true then some (.ret,(q186_x1_0 x8 a9 h1)) else some (.normal,(q186_s1 x2 x8 (G.wrap .i64 (a9+1)) h1)) else none else some ((.exit 0),(q186_x1_1 x2 x8 h)):=by kernel_rfl
theorem q186_e1_0:(q186_k3 C L G h0) .ret (q186_x1_0 x6 a7 h)=some ([(.c x6),(.c (.int .i64 a7))],h):=by kernel_rfl
theorem q186_e1_1:(q186_k3 C L G h0) (.exit 0) (q186_x1_1 x2 x8 h)=Zz x2 fun n=>some ([(.c x8),(.c (.int .i64 n))],h):=by kernel_rfl
theorem q186_eq:q186.body C L G [(.agg l0),(.c (.int .i64 a1)),(.c x2)] h0=if 0=0/\l0.length=3 then c1 (C 180 [(.agg l0),(.c (.int .i64 a1))] h0) fun y h=>asC y fun x=>(L (q186_F1 C L G) (q186_s1 x2 x 0 h)).bind fun p=>(q186_k3 C L G h0) p.1 p.2 else none:=by kernel_rfl
theorem q196_eq:q196.body C L G [(.c (.ptr k0 N0 o0)),(.c (.int .i64 a1))] h0=scK (decide (a1>=0)) true (some ((decide (a1<4)),h0)) false h0 fun b h=>if b=true then Zp h k0 N0 fun l=>if (o0+0)+3<=l.length then if 0<=a1/\a1<((4:Nat):Int) then Zp h k0 N0 fun l1=>if ((o0+12)+((Yc a1)*5))+5<=l1.length then c2 (qh h (C 81 [(.agg ((l.drop (o0+0)).take 3)),(.c (.int .i64 a1)),(.agg ((l1.drop ((o0+12)+((Yc a1)*5))).take 5))] h)) fun y y1 h1=>asA y fun l=>asB y1 fun b=>if 0=0/\(Ya 9 ci0).length=9/\l.length=9 then scK b true (Ze l 0 fun q=>Zk .i64 (.c q) fun n=>scK (n != 3) true (Ze l 0 fun q=>Zk .i64 (.c q) fun n=>some ((n != 4),h)) false h fun b h=>scK b false (if 0<=a1/\a1<((4:Nat):Int) then Zp h k0 N0 fun l=>Ze l ((o0+32)+((Yc a1)*1)) fun q=>Zz q fun n=>some ((n==0),h) else none) true h fun b h=>some (b,h)) false h fun b h1=>some ([(.c (.bool b))],h1) else none else none else none else none else c3 (C 197 [(.c (.ptr k0 N0 o0)),(.c (.int .i64 a1))] h) fun y y1 y2 h=>Zk .i64 y fun n=>Zk .i64 y1 fun n1=>asB y2 fun b=>scK b true (c1 (C 198 [(.c (.ptr k0 N0 o0)),(.c (.int .i64 n)),(.c (.int .i64 n1))] h) fun y h=>Zk .i64 y fun n=>some ((decide (n>=0)),h)) false h fun b h=>some ([(.c (.bool b))],h):=by kernel_rfl
theorem q197_eq:q197.body C L G [(.c (.ptr k0 N0 o0)),(.c (.int .i64 a1))] h0=Zp h0 k0 N0 fun l=>Ze l (o0+3) fun q=>Zk .i64 (.c q) fun n=>scK (n==2) true (some ((decide (a1>=4)),h0)) false h0 fun b h=>scK b true (some ((decide (a1<8)),h)) false h fun b h=>if b=true then some ([(.c (.int .i64 (G.wrap .i64 (a1 - 4)))),(.c (.int .i64 (-1))),(.c (.bool true))],h) else Zp h k0 N0 fun l=>Ze l (o0+3) fun q=>Zk .i64 (.c q) fun n=>scK (n==3) true (some ((decide (a1>=8)),h)) false h fun b h=>scK b true (some ((decide (a1<24)),h)) false h fun b h=>if b=true then some ([(.c (.int .i64 (G.quo .i64 (G.wrap .i64 (a1 - 8)) 4))),(.c (.int .i64 (G.rem .i64 (G.wrap .i64 (a1 - 8)) 4))),(.c (.bool true))],h) else some ([(.c (.int .i64 0)),(.c (.int .i64 0)),(.c (.bool false))],h):=by kernel_rfl
def q198_k2 (h0:Za):Ex->St->Rs:=Zac (fun st=>q198_p1.exec C L G st (q198.fin G h0)) (q198.fin G h0)
def q198_k3 (h0:Za):Ex->St->Rs:=Zag 0 (q198_k2 C L G h0)
def q198_s1 (k0 N0 o0:Nat) (a1 a2 a7:Int) (h:Za):St:=⟨.v (.c (.ptr k0 N0 o0)) :: .v (.c (.int .i64 a1)) :: .v (.c (.int .i64 a2)) :: tops 4 (.v (.c (.int .i64 a7)) :: tops 28 []),[],h⟩
def q198_F1 :St->Option (Ex × St):=Zt (q198_b1.exec C L G) [0,1,2,7] [] [(0,[6],[]),(1,[],[])]
def q198_x1_0 (a6:Int) (h:Za):St:=⟨tops 6 (.v (.c (.int .i64 a6)) :: tops 29 []),[],h⟩
def q198_x1_1 (h:Za):St:=⟨tops 36 [],[],h⟩
theorem q198_r1:q198_F1 C L G (q198_s1 k0 N0 o0 a1 a2 a7 h)=if 0<=a1/\a1<((4:Nat):Int) then Zp h k0 N0 fun l=>Ze l ((o0+32)+((Yc a1)*1)) fun q=>Zz q fun n=>if (decide (a7<n))=true then scK (decide (a2<0)) false (if 0<=a1/\a1<((4:Nat):Int) then Zp h k0 N0 fun l=>Ze l ((o0+32)+((Yc a1)*1)) fun q=>Zl 3 q a7 fun k N o=>Zp h k N fun l=>Ze l (o+0) fun q=>Zk .i64 (.c q) fun n=>some ((n==a2),h) else none) true h fun b h1=>if b=true then some (.ret,(q198_x1_0 a7 h1)) else some (.normal,(q198_s1 k0 N0 o0 a1 a2 (G.wrap .i64 (a7+1)) h1)) else some ((.exit 0),(q198_x1_1 h)) else none:=by kernel_rfl
theorem q198_e1_0:(q198_k3 C L G h0) .ret (q198_x1_0 a6 h)=some ([(.c (.int .i64 a6))],h):=by kernel_rfl
theorem q198_e1_1:(q198_k3 C L G h0) (.exit 0) (q198_x1_1 h)=some ([(.c (.int .i64 (-1)))],h):=by kernel_rfl
theorem q198_eq:q198.body C L G [(.c (.ptr k0 N0 o0)),(.c (.int .i64 a1)),(.c (.int .i64 a2))] h0=(L (q198_F1 C L G) (q198_s1 k0 N0 o0 a1 a2 0 h0)).bind fun p=>(q198_k3 C L G h0) p.1 p.2:=by kernel_rfl
end
structure Stp where
 pick:Int
 t:Int
 kind:Int
 loc:Int
 r:Int
 w:Int
 frm:Int
def Stp.cs (s:Stp):List Cell:=[.int .i64 s.pick,.int .i64 s.t,.int .i64 s.kind,.int .i64 s.loc,.int .i64 s.r,.int .i64 s.w,.int .i64 s.frm]
def Zai (l:List Stp):List Cell:=l.flatMap Stp.cs
theorem Zgb (s:Stp):s.cs.length=7:=rfl
theorem stp_pick {α:Type} {s:Stp} {f:Cell->Option α}:Ze s.cs 0 f=f (.int .i64 s.pick):=rfl
theorem stp_t {α:Type} {s:Stp} {f:Cell->Option α}:Ze s.cs 1 f=f (.int .i64 s.t):=rfl
theorem stp_kind {α:Type} {s:Stp} {f:Cell->Option α}:Ze s.cs 2 f=f (.int .i64 s.kind):=rfl
theorem stp_loc {α:Type} {s:Stp} {f:Cell->Option α}:Ze s.cs 3 f=f (.int .i64 s.loc):=rfl
theorem stp_r {α:Type} {s:Stp} {f:Cell->Option α}:Ze s.cs 4 f=f (.int .i64 s.r):=rfl
theorem stp_w {α:Type} {s:Stp} {f:Cell->Option α}:Ze s.cs 5 f=f (.int .i64 s.w):=rfl
theorem stp_frm {α:Type} {s:Stp} {f:Cell->Option α}:Ze s.cs 6 f=f (.int .i64 s.frm):=rfl
theorem Zqh:∀l:List Stp,(Zai l).length=l.length*7
 | []=>rfl
 | s :: l=>by simp only [Zai,Yao,Yg];rw [show (l.flatMap _).length=_ from Zqh l,Zgb];simp;omega
theorem Zlv:∀(l:List Stp) (i:Nat) (s:Stp),l[i]? = some s->((Zai l).drop (i*7)).take 7=s.cs
 | [],_,_,h=>by simp at h
 | q :: l,0,s,h=>by simp at h;subst h;rfl
 | q :: l,i+1,s,h=>by
  have:=Zlv l i s (by simpa using h)
  have e:Zai (q :: l)=q.cs++Zai l:=rfl
  rw [e,Yr,Yj (by rw [Zgb];omega),Yn,show (i+1)*7 - q.cs.length=i*7 by rw [Zgb];omega]
  exact this
theorem Zvi {l:List Stp} {i j:Nat} {s:Stp} {c:Cell} (h:l[i]? = some s) (hj:j<7) (hc:s.cs[j]? = some c):(Zai l)[i*7+j]? = some c:=by
 rw [←hc,←Zlv l i s h,Yo,if_pos hj,Yl]
theorem Zmy (l:List Stp) (s:Stp):Zai (l++[s])=Zai l++s.cs:=by simp [Zai]
theorem SlAt.elG {h:Za} {x:Cell} {esz len:Nat} {cs:List Cell} (s:SlAt h x esz cs len) {i:Nat} (hi:i<len) :
  ∃off cs',(∀{α:Type} (G:Nat->List Cell->Option α),(Zl esz x (i:Int) fun k N o=>Zp h k N fun l=>G o l)=G off cs')/\off+esz<=cs'.length/\(cs'.drop off).take esz=(cs.drop (i*esz)).take esz:=by
 rcases s.2 with ⟨_,rfl⟩ | ⟨k,N,off,rfl,h0 | ⟨b,hb,hN,hle,hat⟩⟩
 ·omega
 ·omega
 ·have hlt:i*esz+esz<=len*esz:=by
   have:(i+1)*esz<=len*esz:=Nat.mul_le_mul_right _ hi
   rw [Nat.succ_mul] at this;exact this
  refine ⟨off+i*esz,b.cs,fun G=>by rw [Zvv hi,Zy hb hN],by omega,?_⟩
  refine Yap fun j=>?_
  rw [Yo,Yo]
  by_cases hj:j<esz
  ·rw [if_pos hj,if_pos hj,Yl,Yl,Nat.add_assoc,hat _ (by omega)]
  ·rw [if_neg hj,if_neg hj]
theorem SlAt.stepG {h:Za} {x:Cell} {l:List Stp} (s:SlAt h x 7 (Zai l) l.length) {i:Nat} {q:Stp} (hq:l[i]? = some q) :
  ∃off cs',(∀{α:Type} (G:Nat->List Cell->Option α),(Zl 7 x (i:Int) fun k N o=>Zp h k N fun l=>G o l)=G off cs')/\off+7<=cs'.length/\(cs'.drop off).take 7=q.cs:=by
 have hi:i<l.length:=by
  rcases Yak i l.length with h | h
  ·exact h
  ·rw [Yf h] at hq;cases hq
 obtain ⟨off,cs',h1,h2,h3⟩:=s.elG hi
 exact ⟨off,cs',h1,h2,h3.trans (Zlv l i q hq)⟩
def wrS (s:Stp) (m:Int):Bool:=s.kind==6||s.kind==4||(m==1&&s.kind==2)
def rdS (s:Stp):Bool:=s.kind==1||s.kind==4||s.kind==5
def fnS (s:Stp):Bool:=s.kind==3||s.kind==4||s.kind==5
def tchS (s:Stp) (m:Int):Bool:=wrS s m||rdS s
def clash (a b:Stp) (m:Int):Bool :=
 if (a.pick==b.pick)=true then true
 else if (a.t==b.t)=true then (a.kind==6&&fnS b)||(b.kind==6&&fnS a)
 else tchS a m&&tchS b m&&a.loc==b.loc&&(wrS a m||wrS b m)
section
variable {E:Env}
theorem Zes (hE:q257_In E) (s:Stp) (m:Int) (h:Za):R E 257 [.agg s.cs,.c (.int .i64 m)] h=some ([.c (.bool (wrS s m))],h):=by
 refine Zd hE.fn ?_
 rw [q257_eq]
 simp only [stp_kind,asI_ok,scK_or,scK_and,scK_ok]
 rfl
theorem Znm (hE:q266_In E) (s:Stp) (h:Za):R E 266 [.agg s.cs] h=some ([.c (.bool (rdS s))],h):=by
 refine Zd hE.fn ?_
 rw [q266_eq]
 simp only [stp_kind,asI_ok,scK_or,scK_and,scK_ok]
 rfl
theorem Fences_R (hE:q265_In E) (s:Stp) (h:Za):R E 265 [.agg s.cs] h=some ([.c (.bool (fnS s))],h):=by
 refine Zd hE.fn ?_
 rw [q265_eq]
 simp only [stp_kind,asI_ok,scK_or,scK_and,scK_ok]
 rfl
end
section
variable (C:Zab) (L:Zbv) (G:Glo)
variable {h h0:Za}
variable {b2:Bool}
variable {x0 x7 x39 x67:Cell}
variable {a0 a1 a2 a3 a8 a9 a40 a41 a68 a69:Int}
variable {l0 l1 l2 s0:List Cell}
variable {N0 N1 N3 N5 k0 k1 k3 k5 o0 o1 o3 o5:Nat}
theorem q94_eq:q94.body C L G [(.agg l0),(.c (.int .i64 a1))] h0=if 0=0/\l0.length=3 then c1 (C 113 [(.agg l0),(.c (.int .i64 a1))] h0) fun y h=>asC y fun x=>c1 (C 114 [(.c x),(.agg [ci0,ci0,ci0,ci0,ci0])] h) fun y h=>asA y fun l=>if 0=0/\[ci0,ci0,ci0,ci0,ci0].length=5/\l.length=5 then if 0=0/\l.length=5 then some ([(.agg l)],h) else none else none else none:=by kernel_rfl
def q102_k2 (h0:Za):Ex->St->Rs:=Zac (fun st=>q102_p1.exec C L G st (q102.fin G h0)) (q102.fin G h0)
def q102_k3 (h0:Za):Ex->St->Rs:=Zag 0 (q102_k2 C L G h0)
def q102_s1 (a3:Int) (x7:Cell) (a8 a9:Int) (h:Za):St:=⟨tops 3 (.v (.c (.int .i64 a3)) :: tops 3 (.v (.c x7) :: .v (.c (.int .i64 a8)) :: .v (.c (.int .i64 a9)) :: tops 9 [])),[none],h⟩
def q102_F1 :St->Option (Ex × St):=Zt (q102_b1.exec C L G) [3,7,8,9] [] [(1,[3],[])]
def q102_x1_1 (a3:Int) (h:Za):St:=⟨tops 3 (.v (.c (.int .i64 a3)) :: tops 15 []),[none],h⟩
theorem q102_r1:q102_F1 C L G (q102_s1 a3 x7 a8 a9 h)=if (decide (a9<a8))=true then Zl 1 x7 a9 fun k N o=>Zp h k N fun l=>Ze l o fun q=>Zz q fun n=>some (.normal,(q102_s1 (G.wrap .i64 (a3+n)) x7 a8 (G.wrap .i64 (a9+1)) h)) else some ((.exit 0),(q102_x1_1 a3 h)):=by kernel_rfl
theorem q102_e1_1:(q102_k3 C L G h0) (.exit 0) (q102_x1_1 a3 h)=some ([(.c (.int .i64 a3))],h):=by kernel_rfl
theorem q102_eq:q102.body C L G [(.agg l0)] h0=Ze l0 2 fun q=>Zz q fun n=>(L (q102_F1 C L G) (q102_s1 0 q n 0 h0)).bind fun p=>(q102_k3 C L G h0) p.1 p.2:=by kernel_rfl
theorem q105_eq:q105.body C L G [(.agg l0),(.c (.int .i64 a1)),(.agg l2)] h0=if 0=0/\l0.length=3 then c1 (C 113 [(.agg l0),(.c (.int .i64 a1))] h0) fun y h=>asC y fun x=>Ze l2 0 fun q=>Zk .i64 (.c q) fun n=>scK (decide (n<0)) false (Ze l2 0 fun q=>Zk .i64 (.c q) fun n=>Zz x fun n1=>some ((decide (n>=n1)),h)) true h fun b h=>if b=true then if 0=0/\(Ya 9 ci0).length=9/\(Ya 9 ci0).length=9 then if 0=0/\(Ya 9 ci0).length=9 then some ([(.agg (Ya 9 ci0)),(.c (.bool false))],h) else none else none else Ze l2 0 fun q=>Zk .i64 (.c q) fun n=>Zl 9 x n fun k N o=>Zp h k N fun l=>if o+9<=l.length then if 0=0/\(Ya 9 ci0).length=9/\((l.drop o).take 9).length=9 then Ze ((l.drop o).take 9) 0 fun q=>Zk .i64 (.c q) fun n=>scK (decide (n<1)) false (Ze ((l.drop o).take 9) 0 fun q=>Zk .i64 (.c q) fun n=>some ((decide (n > 4)),h)) true h fun b h=>if b=true then if 0=0/\(Ya 9 ci0).length=9/\(Ya 9 ci0).length=9 then if 0=0/\(Ya 9 ci0).length=9 then some ([(.agg (Ya 9 ci0)),(.c (.bool false))],h) else none else none else if 0=0/\((l.drop o).take 9).length=9 then if 0=0/\(Ya 9 ci0).length=9/\((l.drop o).take 9).length=9 then if 0=0/\((l.drop o).take 9).length=9 then some ([(.agg ((l.drop o).take 9)),(.c (.bool true))],h) else none else none else none else none else none else none:=by kernel_rfl
theorem q106_eq:q106.body C L G [(.agg l0),(.c (.int .i64 a1)),(.agg l2),(.c (.int .i64 a3))] h0=if 0=0/\l0.length=3 then Zp (h0++[some (Blk.mk true 0 (AV.cells (.agg l2)))]) h0.length ((AV.cells (.agg l2)).length) fun l=>if 0=0/\l.length=5 then c2 (C 105 [(.agg l0),(.c (.int .i64 a1)),(.agg l)] (h0++[some (Blk.mk true 0 (AV.cells (.agg l2)))])) fun y y1 h=>asA y fun l=>asB y1 fun b=>if 0=0/\(Ya 9 ci0).length=9/\l.length=9 then if (!b)=true then Zp h h0.length ((AV.cells (.agg l2)).length) fun l1=>if 0=0/\l1.length=5 then if 0=0/\[ci0,ci0,ci0,ci0,ci0].length=5/\l1.length=5 then if 0=0/\l1.length=5 then Zbr true h0 [(.agg l1)] h else none else none else none else Ze l 0 fun q=>Zk .i64 (.c q) fun n=>scK (n==2) false (Ze l 0 fun q=>Zk .i64 (.c q) fun n=>some ((n==4),h)) true h fun b h=>if b=true then Ze l 1 fun q=>Zk .i64 (.c q) fun n=>c0 (C 124 [(.c (.ptr h0.length ((AV.cells (.agg l2)).length) 0)),(.c (.int .i64 n)),(.c (.int .i64 a3))] h) fun h1=>Zp h1 h0.length ((AV.cells (.agg l2)).length) fun l=>Ze l 0 fun q=>Zk .i64 (.c q) fun n=>Zp h1 h0.length ((AV.cells (.agg l2)).length) fun l=>if 0<l.length then Zbe h1 h0.length (l.set 0 (.int .i64 (G.wrap .i64 (n+1)))) fun h1=>if 0=0/\l0.length=3 then c1 (qh h1 (C 113 [(.agg l0),(.c (.int .i64 a1))] h1)) fun y h2=>asC y fun x=>Zp h1 h0.length ((AV.cells (.agg l2)).length) fun l=>if 0=0/\l.length=5 then c1 (qh h1 (C 114 [(.c x),(.agg l)] h1)) fun y h2=>asA y fun l=>if 0=0/\[ci0,ci0,ci0,ci0,ci0].length=5/\l.length=5 then if 0=0/\l.length=5 then Zbr true h0 [(.agg l)] h1 else none else none else none else none else none else Zp h h0.length ((AV.cells (.agg l2)).length) fun l=>Ze l 0 fun q=>Zk .i64 (.c q) fun n=>Zp h h0.length ((AV.cells (.agg l2)).length) fun l=>if 0<l.length then Zbe h h0.length (l.set 0 (.int .i64 (G.wrap .i64 (n+1)))) fun h=>if 0=0/\l0.length=3 then c1 (qh h (C 113 [(.agg l0),(.c (.int .i64 a1))] h)) fun y h1=>asC y fun x=>Zp h h0.length ((AV.cells (.agg l2)).length) fun l=>if 0=0/\l.length=5 then c1 (qh h (C 114 [(.c x),(.agg l)] h)) fun y h1=>asA y fun l=>if 0=0/\[ci0,ci0,ci0,ci0,ci0].length=5/\l.length=5 then if 0=0/\l.length=5 then Zbr true h0 [(.agg l)] h else none else none else none else none else none else none else none else none:=by kernel_rfl
theorem q108_eq:q108.body C L G [(.agg l0),(.agg l1)] h0=Ze l0 0 fun q=>Zk .i64 (.c q) fun n=>scK (decide (n>=0)) true (Ze l0 0 fun q=>Zk .i64 (.c q) fun n=>some ((decide (n<4)),h0)) false h0 fun b h=>if b=true then Ze l0 0 fun q=>Zk .i64 (.c q) fun n=>if 0<=n/\n<((4:Nat):Int) then Ze l1 (1+((Yc n)*1)) fun q=>Zk .i64 (.c q) fun n=>some ([(.c (.int .i64 n))],h) else none else Ze l0 1 fun q=>Zk .i64 (.c q) fun n=>some ([(.c (.int .i64 n))],h):=by kernel_rfl
theorem q113_eq:q113.body C L G [(.agg l0),(.c (.int .i64 a1))] h0=scK (decide (a1<0)) false (Ze l0 2 fun q=>Zz q fun n=>some ((decide (a1>=n)),h0)) true h0 fun b h=>if b=true then some ([(.c .nils)],h) else Ze l0 2 fun q=>Zl 1 q a1 fun k N o=>Zp h k N fun l=>Ze l o fun q=>some ([(.c q)],h):=by kernel_rfl
def q114_k2 (h0:Za):Ex->St->Rs:=Zac (fun st=>q114_p1.exec C L G st (q114.fin G h0)) (q114.fin G h0)
def q114_k3 (h0:Za):Ex->St->Rs:=Zag 0 (q114_k2 C L G h0)
def q114_s1 (x0:Cell) (k3 N3 o3:Nat) (s0:List Cell) (h:Za):St:=⟨.v (.c x0) :: tops 2 (.v (.c (.ptr k3 N3 o3)) :: .loc 0 0 :: tops 67 []),[some s0,none],h⟩
def q114_F1 :St->Option (Ex × St):=Zt (q114_b1.exec C L G) [0,3,4] [0] [(0,[4],[0]),(1,[3,4],[0])]
def q114_x1_0 (s0:List Cell) (h:Za):St:=⟨tops 4 (.loc 0 0 :: tops 67 []),[some s0,none],h⟩
def q114_x1_1 (k3 N3 o3:Nat) (s0:List Cell) (h:Za):St:=⟨tops 3 (.v (.c (.ptr k3 N3 o3)) :: .loc 0 0 :: tops 67 []),[some s0,none],h⟩
theorem q114_r1:q114_F1 C L G (q114_s1 x0 k3 N3 o3 s0 h)=Zp h k3 N3 fun l=>Ze l (o3+0) fun q=>Zk .i64 (.c q) fun n=>scK (decide (n>=0)) true (Zp h k3 N3 fun l=>Ze l (o3+0) fun q=>Zk .i64 (.c q) fun n=>Zz x0 fun n1=>some ((decide (n<n1)),h)) false h fun b h=>if b=true then Zp h k3 N3 fun l=>Ze l (o3+0) fun q=>Zk .i64 (.c q) fun n=>Zl 9 x0 n fun k N o=>Zp h k N fun l=>if o+9<=l.length then if 0=0/\(Ya 9 ci0).length=9/\((l.drop o).take 9).length=9 then if 3+2<=((l.drop o).take 9).length then Zp h k3 N3 fun l1=>if o3=0/\l1.length=5 then c1 (qh h (C 108 [(.agg ((((l.drop o).take 9).drop 3).take 2)),(.agg l1)] h)) fun y h1=>Zk .i64 y fun n=>if 6+2<=((l.drop o).take 9).length then Zp h k3 N3 fun l1=>if o3=0/\l1.length=5 then c1 (qh h (C 108 [(.agg ((((l.drop o).take 9).drop 6).take 2)),(.agg l1)] h)) fun y h1=>Zk .i64 y fun n1=>Ze ((l.drop o).take 9) 0 fun q=>Zk .i64 (.c q) fun n2=>if (n2==5)=true then Ze ((l.drop o).take 9) 5 fun q=>Zk .i64 (.c q) fun n3=>c2 (C 125 [(.c (.int .i64 n3)),(.c (.int .i64 n)),(.c (.int .i64 n1))] h) fun y y1 h1=>Zk .i64 y fun n3=>asB y1 fun b=>if b=true then Ze ((l.drop o).take 9) 1 fun q=>Zk .i64 (.c q) fun n4=>c0 (C 124 [(.c (.ptr k3 N3 o3)),(.c (.int .i64 n4)),(.c (.int .i64 n3))] h1) fun h2=>Zp h2 k3 N3 fun l1=>Ze l1 (o3+0) fun q=>Zk .i64 (.c q) fun n3=>Zp h2 k3 N3 fun l1=>if (o3+0)<l1.length then Zbe h2 k3 (l1.set (o3+0) (.int .i64 (G.wrap .i64 (n3+1)))) fun h2=>some (.normal,(q114_s1 x0 k3 N3 o3 s0 h2)) else none else Ze ((l.drop o).take 9) 1 fun q=>Zk .i64 (.c q) fun n3=>c0 (C 124 [(.c (.ptr k3 N3 o3)),(.c (.int .i64 n3)),(.c (.int .i64 n))] h1) fun h1=>Zp h1 k3 N3 fun l1=>Ze l1 (o3+0) fun q=>Zk .i64 (.c q) fun n3=>Zp h1 k3 N3 fun l1=>if (o3+0)<l1.length then Zbe h1 k3 (l1.set (o3+0) (.int .i64 (G.wrap .i64 (n3+1)))) fun h1=>some (.normal,(q114_s1 x0 k3 N3 o3 s0 h1)) else none else if (n2==6)=true then if (n==n1)=true then Zp h k3 N3 fun l1=>Ze l1 (o3+0) fun q=>Zk .i64 (.c q) fun n=>Ze ((l.drop o).take 9) 8 fun q=>Zk .i64 (.c q) fun n1=>Zz x0 fun n2=>let v:Int:=(if n2<(if 0 > n1 then 0 else n1) then n2 else (if 0 > n1 then 0 else n1));Zp h k3 N3 fun l=>if (o3+0)<l.length then Zbe h k3 (l.set (o3+0) (.int .i64 (G.wrap .i64 (n+v)))) fun h1=>Zp h1 k3 N3 fun l=>Ze l (o3+0) fun q=>Zk .i64 (.c q) fun n=>Zp h1 k3 N3 fun l=>if (o3+0)<l.length then Zbe h1 k3 (l.set (o3+0) (.int .i64 (G.wrap .i64 (n+1)))) fun h1=>some (.normal,(q114_s1 x0 k3 N3 o3 s0 h1)) else none else none else Zp h k3 N3 fun l=>Ze l (o3+0) fun q=>Zk .i64 (.c q) fun n=>Zp h k3 N3 fun l=>if (o3+0)<l.length then Zbe h k3 (l.set (o3+0) (.int .i64 (G.wrap .i64 (n+1)))) fun h1=>some (.normal,(q114_s1 x0 k3 N3 o3 s0 h1)) else none else Zp h k3 N3 fun l=>if o3=0/\l.length=5 then if 0=0/\s0.length=5/\l.length=5 then some (.ret,(q114_x1_0 l h)) else none else none else none else none else none else none else none else none else some ((.exit 0),(q114_x1_1 k3 N3 o3 s0 h)):=by kernel_rfl
theorem q114_e1_0:(q114_k3 C L G h0) .ret (q114_x1_0 s0 h)=if 0=0/\s0.length=5 then Zbr true h0 [(.agg s0)] h else none:=by kernel_rfl
theorem q114_e1_1:(q114_k3 C L G h0) (.exit 0) (q114_x1_1 k3 N3 o3 s0 h)=Zp h k3 N3 fun l=>if o3=0/\l.length=5 then if 0=0/\s0.length=5/\l.length=5 then if 0=0/\l.length=5 then Zbr true h0 [(.agg l)] h else none else none else none:=by kernel_rfl
theorem q114_eq:q114.body C L G [(.c x0),(.agg l1)] h0=(L (q114_F1 C L G) (q114_s1 x0 h0.length ((AV.cells (.agg l1)).length) 0 [ci0,ci0,ci0,ci0,ci0] (h0++[some (Blk.mk true 0 (AV.cells (.agg l1)))]))).bind fun p=>(q114_k3 C L G h0) p.1 p.2:=by kernel_rfl
theorem q124_eq:q124.body C L G [(.c (.ptr k0 N0 o0)),(.c (.int .i64 a1)),(.c (.int .i64 a2))] h0=scK (decide (a1>=0)) true (some ((decide (a1<4)),h0)) false h0 fun b h=>if b=true then if 0<=a1/\a1<((4:Nat):Int) then Zp h k0 N0 fun l=>if ((o0+1)+((Yc a1)*1))<l.length then Zbe h k0 (l.set ((o0+1)+((Yc a1)*1)) (.int .i64 a2)) fun h1=>some ([],h1) else none else none else some ([],h):=by kernel_rfl
def q188_k2 (h0:Za):Ex->St->Rs:=Zac (fun st=>q188_p1.exec C L G st (q188.fin G h0)) (q188.fin G h0)
def q188_k3 (h0:Za):Ex->St->Rs:=Zag 0 (q188_k2 C L G h0)
def q188_s1 (k1 N1 o1:Nat) (x39:Cell) (a40 a41:Int) (h:Za):St:=⟨tops 1 (.v (.c (.ptr k1 N1 o1)) :: tops 37 (.v (.c x39) :: .v (.c (.int .i64 a40)) :: .v (.c (.int .i64 a41)) :: tops 45 [])),[],h⟩
def q188_F1 :St->Option (Ex × St):=Zt (q188_b1.exec C L G) [1,39,40,41] [] [(0,[2],[]),(1,[1],[])]
def q188_x1_0 (b2:Bool) (h:Za):St:=⟨tops 2 (.v (.c (.bool b2)) :: tops 84 []),[],h⟩
def q188_x1_1 (k1 N1 o1:Nat) (h:Za):St:=⟨tops 1 (.v (.c (.ptr k1 N1 o1)) :: tops 85 []),[],h⟩
def q188_k4 (h0:Za):Ex->St->Rs:=Zac (fun st=>q188_p2.exec C L G st (q188.fin G h0)) (q188.fin G h0)
def q188_k5 (h0:Za):Ex->St->Rs:=Zag 2 (q188_k4 C L G h0)
def q188_s2 (k5 N5 o5:Nat) (x67:Cell) (a68 a69:Int) (h:Za):St:=⟨tops 5 (.v (.c (.ptr k5 N5 o5)) :: tops 61 (.v (.c x67) :: .v (.c (.int .i64 a68)) :: .v (.c (.int .i64 a69)) :: tops 17 [])),[],h⟩
def q188_F2 :St->Option (Ex × St):=Zt (q188_b2.exec C L G) [5,67,68,69] [] [(0,[2],[]),(3,[],[])]
def q188_x2_0 (b2:Bool) (h:Za):St:=⟨tops 2 (.v (.c (.bool b2)) :: tops 84 []),[],h⟩
def q188_x2_3 (h:Za):St:=⟨tops 87 [],[],h⟩
theorem q188_r1:q188_F1 C L G (q188_s1 k1 N1 o1 x39 a40 a41 h)=if (decide (a41<a40))=true then Zl 1 x39 a41 fun k N o=>Zp h k N fun l=>Ze l o fun q=>Zk .u8 (.c q) fun n=>c1 (C 158 [(.c (.int .i64 (G.wrap .i64 n)))] h) fun y h1=>asB y fun b=>scK (!b) false (scK (decide (a41 > 0)) true (Zp h1 k1 N1 fun l=>Ze l (o1+0) fun q=>Zl 1 q (G.wrap .i64 (a41 - 1)) fun k N o=>Zp h1 k N fun l=>Ze l o fun q=>Zk .u8 (.c q) fun n1=>some ((decide (n<=n1)),h1)) false h1 fun b h=>some (b,h)) true h1 fun b h1=>if b=true then some (.ret,(q188_x1_0 false h1)) else some (.normal,(q188_s1 k1 N1 o1 x39 a40 (G.wrap .i64 (a41+1)) h1)) else some ((.exit 0),(q188_x1_1 k1 N1 o1 h)):=by kernel_rfl
theorem q188_e1_0:(q188_k3 C L G h0) .ret (q188_x1_0 b2 h)=Zbr true h0 [(.c (.bool b2))] h:=by kernel_rfl
theorem q188_r2:q188_F2 C L G (q188_s2 k5 N5 o5 x67 a68 a69 h)=if (decide (a69<a68))=true then Zl 1 x67 a69 fun k N o=>Zp h k N fun l=>Ze l o fun q=>Zz q fun n=>scK (decide (n > 10)) false (c1 (C 148 [(.c q)] h) fun y h=>asB y fun b=>some ((!b),h)) true h fun b h1=>scK b false (c1 (C 155 [(.c q),(.c (.fn 201 [(k5,N5,o5)]))] h1) fun y h=>asB y fun b=>some (b,h)) true h1 fun b h1=>if b=true then some (.ret,(q188_x2_0 false h1)) else some (.normal,(q188_s2 k5 N5 o5 x67 a68 (G.wrap .i64 (a69+1)) h1)) else some ((.exit 2),(q188_x2_3 h)):=by kernel_rfl
theorem q188_e2_0:(q188_k5 C L G h0) .ret (q188_x2_0 b2 h)=Zbr true h0 [(.c (.bool b2))] h:=by kernel_rfl
theorem q188_e2_3:(q188_k5 C L G h0) (.exit 2) (q188_x2_3 h)=Zbr true h0 [(.c (.bool true))] h:=by kernel_rfl
theorem q188_e1_1:(q188_k3 C L G h0) (.exit 0) (q188_x1_1 k1 N1 o1 h)=Zp (h++[some (Blk.mk true 0 ([Cell.nilf]))]) h.length (([Cell.nilf]).length) fun l=>if 0<l.length then Zbe (h++[some (Blk.mk true 0 ([Cell.nilf]))]) h.length (l.set 0 (.fn 200 [(k1,N1,o1)])) fun h1=>Zp h1 k1 N1 fun l=>Ze l (o1+2) fun q=>Zz q fun n=>(L (q188_F2 C L G) (q188_s2 h.length (([Cell.nilf]).length) 0 q n 0 h1)).bind fun p=>(q188_k5 C L G h0) p.1 p.2 else none:=by kernel_rfl
theorem q188_eq:q188.body C L G [(.agg l0)] h0=Zp (h0++[some (Blk.mk true 0 (AV.cells (.agg l0)))]) h0.length ((AV.cells (.agg l0)).length) fun l=>Ze l 2 fun q=>Zz q fun n=>scK (n==0) false (Zp (h0++[some (Blk.mk true 0 (AV.cells (.agg l0)))]) h0.length ((AV.cells (.agg l0)).length) fun l=>Ze l 2 fun q=>Zz q fun n=>some ((decide (n > 4)),(h0++[some (Blk.mk true 0 (AV.cells (.agg l0)))]))) true (h0++[some (Blk.mk true 0 (AV.cells (.agg l0)))]) fun b h=>scK b false (Zp h h0.length ((AV.cells (.agg l0)).length) fun l=>Ze l 0 fun q=>Zz q fun n=>some ((decide (n > 4)),h)) true h fun b h=>scK b false (Zp h h0.length ((AV.cells (.agg l0)).length) fun l=>Ze l 1 fun q=>Zz q fun n=>Zp h h0.length ((AV.cells (.agg l0)).length) fun l=>Ze l 0 fun q=>Zz q fun n1=>some ((n != n1),h)) true h fun b h=>scK b false (Zp h h0.length ((AV.cells (.agg l0)).length) fun l=>if 0=0/\l.length=3 then c1 (C 102 [(.agg l)] h) fun y h=>Zk .i64 y fun n=>some ((decide (n > 24)),h) else none) true h fun b h=>if b=true then Zbr true h0 [(.c (.bool false))] h else Zp h h0.length ((AV.cells (.agg l0)).length) fun l=>Ze l 0 fun q=>Zz q fun n=>(L (q188_F1 C L G) (q188_s1 h0.length ((AV.cells (.agg l0)).length) 0 q n 0 h)).bind fun p=>(q188_k3 C L G h0) p.1 p.2:=by kernel_rfl
theorem q200_eq:q200.body C L G [(.c (.int .i64 a0)),(.c (.ptr k1 N1 o1))] h0=scK (decide (a0>=0)) true (Zp h0 k1 N1 fun l=>Ze l (o1+0) fun q=>Zz q fun n=>some ((decide (a0<n)),h0)) false h0 fun b h=>some ([(.c (.bool b))],h):=by kernel_rfl
theorem q201_eq:q201.body C L G [(.agg l0),(.c (.ptr k1 N1 o1))] h0=if 0=0/\l0.length=9 then Zp h0 k1 N1 fun l=>Ze l o1 fun q=>c1 (C 159 [(.agg l0),(.c q)] h0) fun y h=>asB y fun b=>some ([(.c (.bool (!b)))],h) else none:=by kernel_rfl
end
section
variable (C:Zab) (L:Zbv) (G:Glo)
variable {h0:Za}
variable {b0:Bool}
variable {a0 a1 a2:Int}
theorem q125_eq:q125.body C L G [(.c (.int .i64 a0)),(.c (.int .i64 a1)),(.c (.int .i64 a2))] h0=if (a0==1)=true then some ([(.c (.int .i64 (G.wrap .i64 (a1+a2)))),(.c (.bool true))],h0) else if (a0==2)=true then some ([(.c (.int .i64 (G.wrap .i64 (a1 - a2)))),(.c (.bool true))],h0) else if (a0==3)=true then some ([(.c (.int .i64 (G.wrap .i64 (a1*a2)))),(.c (.bool true))],h0) else if (a0==4)=true then some ([(.c (.int .i64 (G.band .i64 a1 a2))),(.c (.bool true))],h0) else if (a0==5)=true then some ([(.c (.int .i64 (G.bor .i64 a1 a2))),(.c (.bool true))],h0) else if (a0==6)=true then some ([(.c (.int .i64 (G.bxor .i64 a1 a2))),(.c (.bool true))],h0) else if (a0==7)=true then if (G.rem .u64 (G.wrap .u64 a2) 64)<0 then none else let v:Int:=(G.shl .i64 a1 (G.rem .u64 (G.wrap .u64 a2) 64));some ([(.c (.int .i64 v)),(.c (.bool true))],h0) else if (a0==8)=true then if (G.rem .u64 (G.wrap .u64 a2) 64)<0 then none else let v:Int:=(G.shr .i64 a1 (G.rem .u64 (G.wrap .u64 a2) 64));some ([(.c (.int .i64 v)),(.c (.bool true))],h0) else if (a0==9)=true then c1 (C 139 [(.c (.bool (a1==a2)))] h0) fun y h=>Zk .i64 y fun n=>some ([(.c (.int .i64 n)),(.c (.bool true))],h) else if (a0==10)=true then c1 (C 139 [(.c (.bool (a1 != a2)))] h0) fun y h=>Zk .i64 y fun n=>some ([(.c (.int .i64 n)),(.c (.bool true))],h) else if (a0==11)=true then c1 (C 139 [(.c (.bool (decide (a1<a2))))] h0) fun y h=>Zk .i64 y fun n=>some ([(.c (.int .i64 n)),(.c (.bool true))],h) else some ([(.c (.int .i64 0)),(.c (.bool false))],h0):=by kernel_rfl
theorem q139_eq:q139.body C L G [(.c (.bool b0))] h0=if b0=true then some ([(.c (.int .i64 1))],h0) else some ([(.c (.int .i64 0))],h0):=by kernel_rfl
end
structure Opd where
 reg:Int
 val:Int
 deriving DecidableEq
structure Ins where
 kind:Int
 reg:Int
 loc:Int
 a:Opd
 op:Int
 b:Opd
 n:Int
 deriving DecidableEq
structure Lcl where
 pc:Int
 r0:Int
 r1:Int
 r2:Int
 r3:Int
 deriving DecidableEq
def Opd.cs (o:Opd):List Cell:=[.int .i64 o.reg,.int .i64 o.val]
def Ins.cs (i:Ins):List Cell:=[.int .i64 i.kind,.int .i64 i.reg,.int .i64 i.loc,.int .i64 i.a.reg,.int .i64 i.a.val,.int .i64 i.op,.int .i64 i.b.reg,.int .i64 i.b.val,.int .i64 i.n]
def Lcl.cs (l:Lcl):List Cell:=[.int .i64 l.pc,.int .i64 l.r0,.int .i64 l.r1,.int .i64 l.r2,.int .i64 l.r3]
def Zaf (l:List Ins):List Cell:=l.flatMap Ins.cs
def Ins.zero:Ins:=⟨0,0,0,⟨0,0⟩,0,⟨0,0⟩,0⟩
def Lcl.zero:Lcl:=⟨0,0,0,0,0⟩
theorem Ins.len (i:Ins):i.cs.length=9:=rfl
theorem Lcl.len (l:Lcl):l.cs.length=5:=rfl
theorem zero5:[ci0,ci0,ci0,ci0,ci0]=Lcl.zero.cs:=rfl
theorem Zml:∀l:List Ins,(Zaf l).length=l.length*9
 | []=>rfl
 | s :: l=>by simp only [Zaf,Yao,Yg];rw [show (l.flatMap _).length=_ from Zml l,Ins.len];simp;omega
theorem Zqb:∀(l:List Ins) (i:Nat) (s:Ins),l[i]? = some s->((Zaf l).drop (i*9)).take 9=s.cs
 | [],_,_,h=>by simp at h
 | q :: l,0,s,h=>by simp at h;subst h;rfl
 | q :: l,i+1,s,h=>by
  have:=Zqb l i s (by simpa using h)
  have e:Zaf (q :: l)=q.cs++Zaf l:=rfl
  rw [e,Yr,Yj (by rw [Ins.len];omega),Yn,show (i+1)*9 - q.cs.length=i*9 by rw [Ins.len];omega]
  exact this
theorem Zpk (l:List Ins) (s:Ins):Zaf (l++[s])=Zaf l++s.cs:=by simp [Zaf]
theorem SlAt.insG {h:Za} {x:Cell} {l:List Ins} (s:SlAt h x 9 (Zaf l) l.length) {i:Nat} {q:Ins} (hq:l[i]? = some q) :
  ∃off cs',(∀{α:Type} (G:Nat->List Cell->Option α),(Zl 9 x (i:Int) fun k N o=>Zp h k N fun l=>G o l)=G off cs')/\off+9<=cs'.length/\(cs'.drop off).take 9=q.cs:=by
 have hi:i<l.length:=by
  rcases Yak i l.length with h | h
  ·exact h
  ·rw [Yf h] at hq;cases hq
 obtain ⟨off,cs',h1,h2,h3⟩:=s.elG hi
 exact ⟨off,cs',h1,h2,h3.trans (Zqb l i q hq)⟩
def Lcl.reg (l:Lcl) (i:Int):Int:=if i=0 then l.r0 else if i=1 then l.r1 else if i=2 then l.r2 else l.r3
def Lcl.setR (l:Lcl) (i v:Int):Lcl:=if i=0 then { l with r0:=v } else if i=1 then { l with r1:=v } else if i=2 then { l with r2:=v } else if i=3 then { l with r3:=v } else l
def opV (o:Opd) (l:Lcl):Int:=if 0<=o.reg/\o.reg<4 then l.reg o.reg else o.val
def GN:Glo:=Glo.std fun _=>[]
def doV (op a b:Int):Option Int :=
 if op=1 then some (GN.wrap .i64 (a+b)) else if op=2 then some (GN.wrap .i64 (a - b)) else if op=3 then some (GN.wrap .i64 (a*b))
 else if op=4 then some (GN.band .i64 a b) else if op=5 then some (GN.bor .i64 a b) else if op=6 then some (GN.bxor .i64 a b)
 else if op=7 then some (GN.shl .i64 a (GN.rem .u64 (GN.wrap .u64 b) 64)) else if op=8 then some (GN.shr .i64 a (GN.rem .u64 (GN.wrap .u64 b) 64))
 else if op=9 then some (if a=b then 1 else 0) else if op=10 then some (if a=b then 0 else 1) else if op=11 then some (if a<b then 1 else 0) else none
def Zdn (code:List Ins) (l:Lcl):Option Lcl :=
 if 0<=l.pc then match code[l.pc.toNat]? with
  | none=>none
  | some i =>
   if i.kind=5 then
    let m:=l.setR i.reg ((doV i.op (opV i.a l) (opV i.b l)).getD (opV i.a l))
    some { m with pc:=m.pc+1 }
   else if i.kind=6 then
    (if opV i.a l=opV i.b l then some { l with pc:=l.pc+min (max i.n 0) code.length+1 } else some { l with pc:=l.pc+1 })
   else none
 else none
def nrm (code:List Ins):Nat->Lcl->Lcl
 | 0,l=>l
 | k+1,l=>match Zdn code l with
  | none=>l
  | some l'=>nrm code k l'
def Zrq (code:List Ins) (l:Lcl):Lcl:=nrm code code.length l
theorem Zf {α:Type} {l:List α} {i:Nat} {v:α} (h:l[i]? = some v):i<l.length:=by
 rcases Yak i l.length with h1 | h1
 ·exact h1
 ·rw [Yf h1] at h;cases h
theorem Lcl.setR_pc (l:Lcl) (i v:Int):(l.setR i v).pc=l.pc:=by unfold Lcl.setR;repeat' split<;>try rfl
theorem Zii {code:List Ins} {l l':Lcl} (h:Zdn code l=some l'):0<=l.pc/\l.pc<code.length/\l.pc<l'.pc/\l'.pc<=2*code.length:=by
 unfold Zdn at h
 split at h
 ·rename_i h0
  cases hi:code[l.pc.toNat]? with
  | none=>rw [hi] at h;cases h
  | some i =>
   rw [hi] at h
   have hlt:=Zf hi
   simp only at h
   split at h
   ·cases h
    have:=l.setR_pc i.reg ((doV i.op (opV i.a l) (opV i.b l)).getD (opV i.a l))
    refine ⟨h0,by omega,?_,?_⟩<;>simp only [this]<;>omega
   ·split at h
    ·split at h
     ·cases h;refine ⟨h0,by omega,?_,?_⟩<;>simp only<;>omega
     ·cases h;refine ⟨h0,by omega,?_,?_⟩<;>simp only<;>omega
    ·cases h
 ·cases h
section
variable {E:Env}
theorem Zzh {l:Lcl} {i:Int} (h0:0<=i) (h1:i<4):l.cs[1+Yc i*1]? = some (.int .i64 (l.reg i)):=by
 have h:i=0∨i=1∨i=2∨i=3:=by omega
 rcases h with rfl | rfl | rfl | rfl<;>rfl
theorem Znr {l:Lcl} {i v:Int} (h0:0<=i) (h1:i<4):l.cs.set (1+Yc i*1) (.int .i64 v)=(l.setR i v).cs:=by
 have h:i=0∨i=1∨i=2∨i=3:=by omega
 rcases h with rfl | rfl | rfl | rfl<;>rfl
theorem Zkw (hE:q108_In E) (o:Opd) (l:Lcl) (h:Za):R E 108 [.agg o.cs,.agg l.cs] h=some ([.c (.int .i64 (opV o l))],h):=by
 refine Zd hE.fn ?_
 have a0:∀{α:Type} (f:Cell->Option α),Ze o.cs 0 f=f (.int .i64 o.reg):=fun _=>rfl
 have a1:∀{α:Type} (f:Cell->Option α),Ze o.cs 1 f=f (.int .i64 o.val):=fun _=>rfl
 unfold opV
 rw [q108_eq]
 simp only [a0,a1,asI_ok,scK_and]
 by_cases h1:0<=o.reg/\o.reg<4
 ·rw [if_pos (by simp;exact h1),if_pos ⟨h1.1,h1.2⟩,if_pos h1,Zae (Zzh h1.1 h1.2),asI_ok]
 ·rw [if_neg (by simp;omega),if_neg h1]
theorem set_R (hE:q124_In E) (i v:Int) {l:Lcl} {k:Nat} {h:Za} (hk:blk? h k=some ⟨true,0,l.cs⟩) :
  R E 124 [.c (.ptr k 5 0),.c (.int .i64 i),.c (.int .i64 v)] h=some ([],setBlk h k (some ⟨true,0,(l.setR i v).cs⟩)):=by
 refine Zd hE.fn ?_
 rw [q124_eq,scK_and]
 by_cases h1:0<=i/\i<4
 ·rw [if_pos (by simp;exact h1),if_pos ⟨h1.1,h1.2⟩,Zy hk (Lcl.len l),if_pos (by rw [Lcl.len];omega),show 0+1+Yc i*1=1+Yc i*1 by omega,Znr h1.1 h1.2,Zco hk rfl]
 ·have e:l.setR i v=l:=by unfold Lcl.setR;rw [if_neg (by omega),if_neg (by omega),if_neg (by omega),if_neg (by omega)]
  have e2:setBlk h k (some ⟨true,0,l.cs⟩)=h:=by
   refine Yap fun j=>?_
   unfold setBlk
   rw [List.getElem?_set]
   by_cases hj:k=j
   ·subst hj
    rw [if_pos rfl,if_pos (Zan hk)]
    unfold blk? at hk
    cases hh:h[k]? with
    | none=>rw [hh] at hk;cases hk
    | some b=>rw [hh] at hk;simp at hk;rw [hk]
   ·rw [if_neg hj]
  rw [if_neg (by simp;omega),e,e2]
theorem one_R (hE:q139_In E) (b:Bool) (h:Za):R E 139 [.c (.bool b)] h=some ([.c (.int .i64 (if b=true then 1 else 0))],h):=by
 refine Zd hE.fn ?_
 rw [q139_eq]
 cases b<;>rfl
theorem Do_R (hE:q125_In E) (op a b:Int) (h:Za):R E 125 [.c (.int .i64 op),.c (.int .i64 a),.c (.int .i64 b)] h=some ([.c (.int .i64 ((doV op a b).getD 0)),.c (.bool (doV op a b).isSome)],h):=by
 refine Zd hE.fn ?_
 rw [q125_eq]
 simp only [one_R hE.c139,c1_ok,asI_ok]
 have hr:∀x:Int,¬E.glob.rem .u64 (E.glob.wrap .u64 x) 64<0:=by
  intro x
  show ¬Int.tmod (IntKind.wrap .u64 x) 64<0
  have h0:0<=IntKind.wrap .u64 x:=by
   simp only [IntKind.wrap,IntKind.signed,IntKind.bits,Yai,Yab,if_false]
   exact Yv _ (by omega)
  rw [Yt h0]
  have:=Yv (IntKind.wrap .u64 x) (b:=64) (by omega)
  omega
 simp only [hr,if_false]
 unfold doV
 have key:∀k:Int,((op==k)=true)=(op=k):=fun k=>by rw [beq_iff_eq]
 simp only [key]
 by_cases h1:op=1
 ·simp only [if_pos h1];rfl
 simp only [if_neg h1]
 by_cases h2:op=2
 ·simp only [if_pos h2];rfl
 simp only [if_neg h2]
 by_cases h3:op=3
 ·simp only [if_pos h3];rfl
 simp only [if_neg h3]
 by_cases h4:op=4
 ·simp only [if_pos h4];rfl
 simp only [if_neg h4]
 by_cases h5:op=5
 ·simp only [if_pos h5];rfl
 simp only [if_neg h5]
 by_cases h6:op=6
 ·simp only [if_pos h6];rfl
 simp only [if_neg h6]
 by_cases h7:op=7
 ·simp only [if_pos h7];rfl
 simp only [if_neg h7]
 by_cases h8:op=8
 ·simp only [if_pos h8];rfl
 simp only [if_neg h8]
 by_cases h9:op=9
 ·simp only [if_pos h9];(by_cases hab:a=b<;>simp [hab])
 simp only [if_neg h9]
 by_cases h10:op=10
 ·simp only [if_pos h10];(by_cases hab:a=b<;>simp [hab])
 simp only [if_neg h10]
 by_cases h11:op=11
 ·simp only [if_pos h11];(by_cases hab:a<b<;>simp [hab])
 simp only [if_neg h11]
 rfl
end
section
variable {E:Env}
end
section
theorem Zau {n m:Nat} (hm:n<=m):∀{x:Cell},Low n x->Low m x:=by
 intro x h
 unfold Low at *
 split<;>simp_all
 omega
def ACC (r:Nat) (q:Nat->Nat->Bool):Nat->Nat:=fun a=>mkN fun b=>decide (a<r)&&decide (b<r)&&q a b
theorem Zjk (r:Nat) (q:Nat->Nat->Bool):Zcx (ACC r q):=fun _=>Zta _
theorem Zov {r:Nat} (hr:r<=64) (q:Nat->Nat->Bool) (a b:Nat):(ACC r q a).testBit b=(decide (a<r)&&decide (b<r)&&q a b):=by
 unfold ACC
 rw [testBit_mkN,Bool.eq_iff_iff]
 simp only [Ys,decide_eq_true_eq]
 constructor
 ·rintro ⟨_,h⟩;exact h
 ·rintro h;exact ⟨by omega,h⟩
theorem Zex {r:Nat} (hr:r<=64) {q q':Nat->Nat->Bool} (h:∀a b,a<r->b<r->q a b=q' a b):Zs r (ACC r q)=Zs r (ACC r q'):=Zwx (Zjk _ _) (Zjk _ _) fun a b=>by
 rw [Zov hr,Zov hr]
 simp only [Ys,decide_eq_true_eq]
 constructor
 ·rintro ⟨⟨h1,h2⟩,h3⟩;exact ⟨⟨h1,h2⟩,by rw [←h a b h1 h2];exact h3⟩
 ·rintro ⟨⟨h1,h2⟩,h3⟩;exact ⟨⟨h1,h2⟩,by rw [h a b h1 h2];exact h3⟩
theorem Zsa {r:Nat} (hr:r<=64) {q q':Nat->Nat->Bool} {i j:Nat} (hi:i<r) (hj:j<r) (h:∀a b,a<r->b<r->q' a b=(q a b||(decide (a=i)&&decide (b=j)))) :
  Zs r (Ztg r (ACC r q) (i:Int) (j:Int))=Zs r (ACC r q'):=Zwx (Zq727 (Zjk _ _) _ _) (Zjk _ _) fun a b=>by
 rw [addR_bit hr,Zov hr,Zov hr,inR_nat,inR_nat,show decide (i<r)=true by simpa using hi,show decide (j<r)=true by simpa using hj]
 simp only [Ys,Yp,decide_eq_true_eq,Yac]
 constructor
 ·rintro (⟨⟨h1,h2⟩,h3⟩ | ⟨h1,h2⟩)
  ·exact ⟨⟨h1,h2⟩,by rw [h a b h1 h2,h3];rfl⟩
  ·have h1:a=i:=(Int.ofNat.inj h1).symm
   have h2:b=j:=(Int.ofNat.inj h2).symm
   subst h1;subst h2
   exact ⟨⟨hi,hj⟩,by rw [h a b hi hj];simp⟩
 ·rintro ⟨⟨h1,h2⟩,h3⟩
  rw [h a b h1 h2] at h3
  simp only [Yp,Ys,decide_eq_true_eq] at h3
  rcases h3 with h3 | ⟨rfl,rfl⟩
  ·exact .inl ⟨⟨h1,h2⟩,h3⟩
  ·exact .inr ⟨rfl,rfl⟩
theorem ACC_none {r:Nat} (hr:r<=64) {q:Nat->Nat->Bool} (h:∀a b,a<r->b<r->q a b=false):Zs r (ACC r q)=Zs r fun _=>0:=Zwx (Zjk _ _) Zjv fun a b=>by
 rw [Zov hr]
 simp only [Ys,decide_eq_true_eq,Nat.zero_testBit]
 constructor
 ·rintro ⟨⟨h1,h2⟩,h3⟩;rw [h a b h1 h2] at h3;exact h3
 ·intro h;cases h
variable {E:Env}
def upto (i j a b:Nat):Bool:=decide (a<i)||(decide (a=i)&&decide (b<j))
end
section
variable {E:Env}
theorem rdL {α:Type} {h:Za} {k:Nat} {l:Lcl} (hk:blk? h k=some ⟨true,0,l.cs⟩) {F:List Cell->Option α}:Zp h k 5 F=F l.cs:=Zy hk rfl
theorem lcl_pc {α:Type} {l:Lcl} {f:Cell->Option α}:Ze l.cs 0 f=f (.int .i64 l.pc):=rfl
theorem lcl_pc' {α:Type} {l:Lcl} {f:Cell->Option α}:Ze l.cs (0+0) f=f (.int .i64 l.pc):=rfl
theorem lcl_setpc {l:Lcl} {v:Int}:l.cs.set 0 (.int .i64 v)=({ l with pc:=v }:Lcl).cs:=rfl
theorem lcl_setpc' {l:Lcl} {v:Int}:l.cs.set (0+0) (.int .i64 v)=({ l with pc:=v }:Lcl).cs:=rfl
theorem ins_kind {α:Type} {i:Ins} {f:Cell->Option α}:Ze i.cs 0 f=f (.int .i64 i.kind):=rfl
theorem ins_reg {α:Type} {i:Ins} {f:Cell->Option α}:Ze i.cs 1 f=f (.int .i64 i.reg):=rfl
theorem ins_loc {α:Type} {i:Ins} {f:Cell->Option α}:Ze i.cs 2 f=f (.int .i64 i.loc):=rfl
theorem ins_op {α:Type} {i:Ins} {f:Cell->Option α}:Ze i.cs 5 f=f (.int .i64 i.op):=rfl
theorem ins_n {α:Type} {i:Ins} {f:Cell->Option α}:Ze i.cs 8 f=f (.int .i64 i.n):=rfl
theorem ins_a {i:Ins}:(i.cs.drop 3).take 2=i.a.cs:=rfl
theorem ins_b {i:Ins}:(i.cs.drop 6).take 2=i.b.cs:=rfl
theorem Zuw (m:Nat) (l:Lcl):Zlc m (.agg l.cs)=true:=by simp [Zlc,AV.cells,Lcl.cs,Zgq]
theorem Zlr (hE:q114_In E) {x:Cell} {code:List Ins} {h:Za} (hlen:code.length<4000000000000000000) (z:List Cell) (l:Lcl) (hx:SlAt (h++[some ⟨true,0,l.cs⟩]) x 9 (Zaf code) code.length) :
  q114_F1 (R E) Zq E.glob (q114_s1 x h.length 5 0 z (h++[some ⟨true,0,l.cs⟩]))=match Zdn code l with
   | some l'=>some (.normal,q114_s1 x h.length 5 0 z (h++[some ⟨true,0,l'.cs⟩]))
   | none=>if 0<=l.pc/\l.pc<code.length then (if z.length=5 then some (.ret,q114_x1_0 l.cs (h++[some ⟨true,0,l.cs⟩])) else none) else some (.exit 0,q114_x1_1 h.length 5 0 z (h++[some ⟨true,0,l.cs⟩])):=by
 have hb:∀l:Lcl,blk? (h++[some ⟨true,0,l.cs⟩]) h.length=some ⟨true,0,l.cs⟩:=fun l=>Zw _ _
 rw [q114_r1,rdL (hb l),lcl_pc',asI_ok]
 by_cases h0:0<=l.pc
 ·rw [show decide (l.pc>=0)=true from decide_eq_true h0,scK_ok,rdL (hb l),lcl_pc',asI_ok,hx.len,bind_ok]
  dsimp only
  by_cases h1:l.pc<code.length
  ·obtain ⟨p,hp⟩:∃p:Nat,l.pc=(p:Int):=⟨l.pc.toNat,by omega⟩
   have hpl:p<code.length:=by omega
   have hq:code[p]? = some code[p]:=Yd hpl
   generalize code[p]=i at hq
   obtain ⟨off,cs',hG0,hle,hcs⟩:=hx.insG hq
   have hG:∀{α:Type} (G:Nat->List Cell->Option α),(Zl 9 x l.pc fun k N o=>Zp (h++[some ⟨true,0,l.cs⟩]) k N fun l=>G o l)=G off cs':=by intro α G;rw [hp];exact hG0 G
   have hst:Zdn code l=if i.kind=5 then
     some { (l.setR i.reg ((doV i.op (opV i.a l) (opV i.b l)).getD (opV i.a l))) with pc:=(l.setR i.reg ((doV i.op (opV i.a l) (opV i.b l)).getD (opV i.a l))).pc+1 }
    else if i.kind=6 then (if opV i.a l=opV i.b l then some { l with pc:=l.pc+min (max i.n 0) code.length+1 } else some { l with pc:=l.pc+1 }) else none:=by
    unfold Zdn
    rw [if_pos h0,show l.pc.toNat=p by omega,hq]
   rw [hst,if_pos (decide_eq_true h1),rdL (hb l),lcl_pc',asI_ok,hG,if_pos hle,hcs,if_pos ⟨rfl,rfl,rfl⟩,if_pos (show 3+2<=i.cs.length by rw [Ins.len];omega),rdL (hb l),if_pos ⟨rfl,rfl⟩,ins_a,Zkw hE.c108,qh_ok,c1_ok,asI_ok,if_pos (show 6+2<=i.cs.length by rw [Ins.len];omega),rdL (hb l),if_pos ⟨rfl,rfl⟩,ins_b,Zkw hE.c108,qh_ok,c1_ok,asI_ok,ins_kind,asI_ok]
   by_cases k5:i.kind=5
   ·rw [if_pos (by rw [k5];rfl),if_pos k5,ins_op,asI_ok,Do_R hE.c125,c2_ok,asI_ok,asB_ok]
    cases hd:doV i.op (opV i.a l) (opV i.b l) with
    | some v =>
     have hpc:=l.setR_pc i.reg v
     rw [show (some v:Option Int).isSome=true from rfl,if_pos rfl,ins_reg,asI_ok,set_R hE.c124 _ _ (hb l),setBlk_last,c0_ok,rdL (hb _),lcl_pc',asI_ok,rdL (hb _),if_pos (by rw [Lcl.len];omega),lcl_setpc',Zco (hb _) rfl,setBlk_last]
     rw [show (some v:Option Int).getD 0=v from rfl,show (some v:Option Int).getD (opV i.a l)=v from rfl,hpc,Zj (x:=l.pc+1) (by omega) (by omega)]
    | none =>
     have hpc:=l.setR_pc i.reg (opV i.a l)
     rw [show (none:Option Int).isSome=false from rfl,if_neg (by simp),ins_reg,asI_ok,set_R hE.c124 _ _ (hb l),setBlk_last,c0_ok,rdL (hb _),lcl_pc',asI_ok,rdL (hb _),if_pos (by rw [Lcl.len];omega),lcl_setpc',Zco (hb _) rfl,setBlk_last]
     rw [show (none:Option Int).getD (opV i.a l)=opV i.a l from rfl,hpc,Zj (x:=l.pc+1) (by omega) (by omega)]
   ·rw [if_neg (by rw [beq_iff_eq];exact k5),if_neg k5]
    by_cases k6:i.kind=6
    ·rw [if_pos (by rw [k6];rfl),if_pos k6]
     by_cases hab:opV i.a l=opV i.b l
     ·have hv:(if (code.length:Int)<(if 0 > i.n then 0 else i.n) then (code.length:Int) else (if 0 > i.n then 0 else i.n))=min (max i.n 0) code.length:=by
       split<;>split at *<;>omega
      rw [if_pos (by rw [hab];exact beq_self_eq_true _),if_pos hab,rdL (hb l),lcl_pc',asI_ok,ins_n,asI_ok,hx.len]
      dsimp only
      rw [hv,rdL (hb l),if_pos (by rw [Lcl.len];omega),lcl_setpc',Zco (hb _) rfl,setBlk_last,rdL (hb _),lcl_pc',asI_ok,rdL (hb _),if_pos (by rw [Lcl.len];omega),lcl_setpc',Zco (hb _) rfl,setBlk_last]
      dsimp only
      rw [Zj (x:=l.pc+min (max i.n 0) code.length) (by omega) (by omega),Zj (x:=l.pc+min (max i.n 0) code.length+1) (by omega) (by omega)]
     ·rw [if_neg (by rw [beq_iff_eq];exact hab),if_neg hab,rdL (hb l),lcl_pc',asI_ok,rdL (hb l),if_pos (by rw [Lcl.len];omega),lcl_setpc',Zco (hb _) rfl,setBlk_last,Zj (x:=l.pc+1) (by omega) (by omega)]
    ·rw [if_neg (by rw [beq_iff_eq];exact k6),if_neg k6,rdL (hb l),if_pos ⟨rfl,rfl⟩]
     dsimp only
     rw [if_pos (show 0<=l.pc/\l.pc<code.length from ⟨h0,h1⟩)]
     by_cases hz:z.length=5
     ·rw [if_pos ⟨rfl,hz,rfl⟩,if_pos hz]
     ·rw [if_neg (fun q=>hz q.2.1),if_neg hz]
  ·have hst:Zdn code l=none:=by
    unfold Zdn
    rw [if_pos h0,Yf (by omega)]
   rw [hst,if_neg (by simpa using h1)]
   dsimp only
   rw [if_neg (fun q=>h1 q.2)]
 ·have hst:Zdn code l=none:=by unfold Zdn;rw [if_neg h0]
  rw [hst,show decide (l.pc>=0)=false from decide_eq_false h0,scK_ft,if_neg (by simp)]
  dsimp only
  rw [if_neg (fun q=>h0 q.1)]
theorem Zox (hE:q114_In E) {x:Cell} {code:List Ins} {h:Za} (hlen:code.length<4000000000000000000) (hx:SlAt h x 9 (Zaf code) code.length) (hlow:Low h.length x) (l:Lcl) :
  R E 114 [.c x,.agg l.cs] h=some ([.agg (Zrq code l).cs],h):=by
 refine Zd hE.fn ?_
 have hx':∀l:Lcl,SlAt (h++[some ⟨true,0,l.cs⟩]) x 9 (Zaf code) code.length:=fun l=>hx.keep hlow (Kp.app _ (Yu _))
 have hb:∀l:Lcl,blk? (h++[some ⟨true,0,l.cs⟩]) h.length=some ⟨true,0,l.cs⟩:=fun l=>Zw _ _
 have loop:∀(k:Nat) (l:Lcl),(0<=l.pc->(code.length:Int)<=l.pc+k)->(Zq (q114_F1 (R E) Zq E.glob) (q114_s1 x h.length 5 0 Lcl.zero.cs (h++[some ⟨true,0,l.cs⟩]))).bind (fun p=>q114_k3 (R E) Zq E.glob h p.1 p.2)=some ([.agg (nrm code k l).cs],h):=by
  intro k
  have stop:∀l:Lcl,Zdn code l=none->(Zq (q114_F1 (R E) Zq E.glob) (q114_s1 x h.length 5 0 Lcl.zero.cs (h++[some ⟨true,0,l.cs⟩]))).bind (fun p=>q114_k3 (R E) Zq E.glob h p.1 p.2)=some ([.agg l.cs],h):=by
   intro l hs
   have hr:=Zlr hE hlen Lcl.zero.cs l (hx' l)
   rw [hs] at hr
   dsimp only at hr
   have fin:Zbr true h [.agg l.cs] (h++[some ⟨true,0,l.cs⟩])=some ([.agg l.cs],h):=Zdj (Kp.app _ (Yu _)) (by simp [Zuw])
   split at hr
   ·rw [if_pos (show Lcl.zero.cs.length=5 from rfl)] at hr
    rw [Zcf hr,bind_ok,q114_e1_0,if_pos ⟨rfl,rfl⟩,fin]
   ·rw [Zm hr,bind_ok,q114_e1_1,rdL (hb l),if_pos ⟨rfl,rfl⟩,if_pos ⟨rfl,rfl,rfl⟩,if_pos ⟨rfl,rfl⟩,fin]
  induction k with
  | zero =>
   intro l hk
   rw [nrm]
   refine stop l ?_
   cases hs:Zdn code l with
   | none=>rfl
   | some l'=>have:=Zii hs;have:=hk this.1;omega
  | succ k ih =>
   intro l hk
   rw [nrm]
   cases hs:Zdn code l with
   | none=>exact stop l hs
   | some l' =>
    have hr:=Zlr hE hlen Lcl.zero.cs l (hx' l)
    rw [hs] at hr
    have h3:=Zii hs
    have:=ih l' (fun _=>by have:=hk h3.1;omega)
    cases hL:Zq (q114_F1 (R E) Zq E.glob) (q114_s1 x h.length 5 0 Lcl.zero.cs (h++[some ⟨true,0,l'.cs⟩])) with
    | none=>rw [hL] at this;cases this
    | some p=>rw [Zat hr hL];rw [hL] at this;exact this
 have hc:AV.cells (.agg l.cs)=l.cs:=rfl
 rw [q114_eq,hc,Lcl.len]
 exact loop code.length l (fun _=>by omega)
structure PProg where
 locs:List Int
 init:List Int
 thr:List (List Ins)
def ProgAt (h:Za) (cs:List Cell) (P:PProg):Prop :=
 ∃a b c ts,cs=[a,b,c]/\(SlAt h a 1 (intC .u8 P.locs) P.locs.length/\Low h.length a)/\(SlAt h b 1 (intC .i64 P.init) P.init.length/\Low h.length b)/\(SlAt h c 1 ts P.thr.length/\Low h.length c) /\
  ∀(t:Nat) (code:List Ins),P.thr[t]? = some code->∃x:Cell,ts[t]? = some x/\SlAt h x 9 (Zaf code) code.length/\Low h.length x
theorem ProgAt.len {h:Za} {cs:List Cell} {P:PProg} (p:ProgAt h cs P):cs.length=3:=by
 obtain ⟨a,b,c,ts,rfl,_⟩:=p;rfl
theorem ProgAt.keep {h h':Za} {cs:List Cell} {P:PProg} (p:ProgAt h cs P) (hk:Kp h.length h h'):ProgAt h' cs P:=by
 obtain ⟨a,b,c,ts,e,⟨a1,a2⟩,⟨b1,b2⟩,⟨c1,c2⟩,ht⟩:=p
 exact ⟨a,b,c,ts,e,⟨a1.keep a2 hk,Zau hk.1 a2⟩,⟨b1.keep b2 hk,Zau hk.1 b2⟩,⟨c1.keep c2 hk,Zau hk.1 c2⟩,fun t code h1=>by
  obtain ⟨x,x1,x2,x3⟩:=ht t code h1
  exact ⟨x,x1,x2.keep x3 hk,Zau hk.1 x3⟩⟩
def PProg.fits (P:PProg):Prop:=P.thr.length<4000000000000000000/\∀code∈P.thr,code.length<4000000000000000000
def PProg.code (P:PProg) (t:Int):List Ins:=if 0<=t then P.thr.getD t.toNat [] else []
theorem PProg.code_fits {P:PProg} (hf:P.fits) (t:Int):(P.code t).length<4000000000000000000:=by
 unfold PProg.code
 split
 ·rw [Yh]
  cases h:P.thr[t.toNat]? with
  | none=>show (0:Nat)<_;omega
  | some c=>exact hf.2 c (Ye h)
 ·show (0:Nat)<_;omega
theorem Zli (hE:q113_In E) {cs:List Cell} {P:PProg} {h:Za} (p:ProgAt h cs P) (t:Int) :
  ∃x,R E 113 [.agg cs,.c (.int .i64 t)] h=some ([.c x],h)/\SlAt h x 9 (Zaf (P.code t)) (P.code t).length/\Low h.length x:=by
 obtain ⟨a,b,c,ts,rfl,_,_,⟨hc,hcl⟩,ht⟩:=p
 have a2:∀{α:Type} (f:Cell->Option α),Ze [a,b,c] 2 f=f c:=fun _=>rfl
 by_cases h0:0<=t
 ·by_cases h1:t.toNat<P.thr.length
  ·have hg:P.thr[t.toNat]? = some P.thr[t.toNat]:=Yd h1
   generalize P.thr[t.toNat]=code at hg
   obtain ⟨x,x1,x2,x3⟩:=ht _ _ hg
   have hcode:P.code t=code:=by unfold PProg.code;rw [if_pos h0,Yh,hg];rfl
   rw [hcode]
   refine ⟨x,Zd hE.fn ?_,x2,x3⟩
   have hti:t=((t.toNat:Nat):Int):=by omega
   rw [q113_eq,show decide (t<0)=false from decide_eq_false (by omega),scK_ok,a2,hc.len,show decide (t>=(P.thr.length:Int))=false from decide_eq_false (by omega),bind_ok]
   dsimp only
   rw [if_neg (by simp),a2,hc.getAt t.toNat hti h1 x1]
  ·have hcode:P.code t=[]:=by unfold PProg.code;rw [if_pos h0,Yh,Yf (by omega)];rfl
   rw [hcode]
   refine ⟨.nils,Zd hE.fn ?_,⟨rfl,.inl ⟨rfl,rfl⟩⟩,trivial⟩
   rw [q113_eq,show decide (t<0)=false from decide_eq_false (by omega),scK_ok,a2,hc.len,show decide (t>=(P.thr.length:Int))=true from decide_eq_true (by omega),bind_ok]
   dsimp only
   rw [if_pos rfl]
 ·have hcode:P.code t=[]:=by unfold PProg.code;rw [if_neg h0]
  rw [hcode]
  refine ⟨.nils,Zd hE.fn ?_,⟨rfl,.inl ⟨rfl,rfl⟩⟩,trivial⟩
  rw [q113_eq,show decide (t<0)=true from decide_eq_true (by omega),scK_tf,if_pos rfl]
def Zak (P:PProg) (t:Int):Lcl:=Zrq (P.code t) Lcl.zero
theorem PStart_R (hE:q94_In E) {cs:List Cell} {P:PProg} {h:Za} (hf:P.fits) (p:ProgAt h cs P) (t:Int) :
  R E 94 [.agg cs,.c (.int .i64 t)] h=some ([.agg (Zak P t).cs],h):=by
 refine Zd hE.fn ?_
 obtain ⟨x,hr,hx,hl⟩:=Zli hE.c113 p t
 rw [q94_eq,if_pos ⟨rfl,p.len⟩,hr,c1_ok,asC_ok,zero5,Zox hE.c114 (PProg.code_fits hf t) hx hl,c1_ok,asA_ok,if_pos ⟨rfl,rfl,rfl⟩,if_pos ⟨rfl,rfl⟩]
 rfl
def Zbg (code:List Ins) (l:Lcl):Option Ins :=
 if 0<=l.pc then match code[l.pc.toNat]? with
  | none=>none
  | some i=>if 1<=i.kind/\i.kind<=4 then some i else none
 else none
theorem Zjt {code:List Ins} {l:Lcl} {i:Ins} (h:Zbg code l=some i):0<=l.pc/\l.pc<code.length/\code[l.pc.toNat]? = some i/\1<=i.kind/\i.kind<=4:=by
 unfold Zbg at h
 split at h
 ·rename_i h0
  cases hi:code[l.pc.toNat]? with
  | none=>rw [hi] at h;cases h
  | some j =>
   rw [hi] at h
   simp only at h
   split at h
   ·cases h
    have:=Zf hi
    rename_i hk
    exact ⟨h0,by omega,rfl,hk⟩
   ·cases h
 ·cases h
theorem Zrx (hE:q105_In E) {cs:List Cell} {P:PProg} {h:Za} (p:ProgAt h cs P) (t:Int) (l:Lcl) :
  R E 105 [.agg cs,.c (.int .i64 t),.agg l.cs] h=some ([.agg ((Zbg (P.code t) l).getD Ins.zero).cs,.c (.bool (Zbg (P.code t) l).isSome)],h):=by
 refine Zd hE.fn ?_
 obtain ⟨x,hr,hx,hlo⟩:=Zli hE.c113 p t
 generalize P.code t=code at *
 rw [q105_eq,if_pos ⟨rfl,p.len⟩,hr,c1_ok,asC_ok,lcl_pc,asI_ok]
 by_cases h0:0<=l.pc
 ·rw [show decide (l.pc<0)=false from decide_eq_false (by omega),scK_ok,lcl_pc,asI_ok,hx.len,bind_ok]
  dsimp only
  by_cases h1:l.pc<code.length
  ·obtain ⟨q,hq⟩:∃q:Nat,l.pc=(q:Int):=⟨l.pc.toNat,by omega⟩
   have hql:q<code.length:=by omega
   have hg:code[q]? = some code[q]:=Yd hql
   generalize code[q]=i at hg
   obtain ⟨off,cs',hG0,hle,hcs⟩:=hx.insG hg
   have hG:∀{α:Type} (G:Nat->List Cell->Option α),(Zl 9 x l.pc fun k N o=>Zp h k N fun l=>G o l)=G off cs':=by intro α G;rw [hq];exact hG0 G
   have hn:Zbg code l=if 1<=i.kind/\i.kind<=4 then some i else none:=by
    unfold Zbg
    rw [if_pos h0,show l.pc.toNat=q by omega,hg]
   rw [show decide (l.pc>=(code.length:Int))=false from decide_eq_false (by omega),if_neg (by simp),lcl_pc,asI_ok,hG,if_pos hle,hcs,if_pos ⟨rfl,rfl,rfl⟩,ins_kind,asI_ok,ins_kind,asI_ok,scK_or,hn]
   by_cases hk:1<=i.kind/\i.kind<=4
   ·rw [if_neg (by simp;omega),if_pos hk,if_pos ⟨rfl,rfl⟩,if_pos ⟨rfl,rfl,rfl⟩,if_pos ⟨rfl,rfl⟩];rfl
   ·rw [if_pos (by simp;omega),if_neg hk,if_pos ⟨rfl,rfl,rfl⟩,if_pos ⟨rfl,rfl⟩];rfl
  ·have hn:Zbg code l=none:=by unfold Zbg;rw [if_pos h0,Yf (by omega)]
   rw [show decide (l.pc>=(code.length:Int))=true from decide_eq_true (by omega),if_pos rfl,hn,if_pos ⟨rfl,rfl,rfl⟩,if_pos ⟨rfl,rfl⟩];rfl
 ·have hn:Zbg code l=none:=by unfold Zbg;rw [if_neg h0]
  rw [show decide (l.pc<0)=true from decide_eq_true (by omega),scK_tf,if_pos rfl,hn,if_pos ⟨rfl,rfl,rfl⟩,if_pos ⟨rfl,rfl⟩];rfl
def Zbi (code:List Ins) (l:Lcl) (v:Int):Lcl:=match Zbg code l with
 | none=>l
 | some i=>Zrq code { (if i.kind=2∨i.kind=4 then l.setR i.reg v else l) with pc:=l.pc+1 }
theorem Zph (hE:q106_In E) {cs:List Cell} {P:PProg} {h:Za} (hf:P.fits) (p:ProgAt h cs P) (t:Int) (l:Lcl) (v:Int) :
  R E 106 [.agg cs,.c (.int .i64 t),.agg l.cs,.c (.int .i64 v)] h=some ([.agg (Zbi (P.code t) l v).cs],h):=by
 refine Zd hE.fn ?_
 have hK:∀b,Kp h.length h (h++[some b]):=fun b=>Kp.app _ (Yu _)
 have p':∀b,ProgAt (h++[some b]) cs P:=fun b=>p.keep (hK b)
 have hb:∀l:Lcl,blk? (h++[some ⟨true,0,l.cs⟩]) h.length=some ⟨true,0,l.cs⟩:=fun l=>Zw _ _
 have fin:∀(m l:Lcl),Zbr true h [.agg m.cs] (h++[some ⟨true,0,l.cs⟩])=some ([.agg m.cs],h):=fun m l=>Zdj (hK _) (by simp [Zuw])
 have hc:AV.cells (.agg l.cs)=l.cs:=rfl
 have hfit:=PProg.code_fits hf t
 rw [q106_eq,if_pos ⟨rfl,p.len⟩,hc,Lcl.len,rdL (hb l),if_pos ⟨rfl,rfl⟩,Zrx hE.c105 (p' _),c2_ok,asA_ok,asB_ok,if_pos ⟨rfl,rfl,rfl⟩]
 unfold Zbi
 cases hn:Zbg (P.code t) l with
 | none =>
  rw [show (none:Option Ins).isSome=false from rfl,if_pos (show (!false)=true from rfl),rdL (hb l),if_pos ⟨rfl,rfl⟩,if_pos ⟨rfl,rfl,rfl⟩,if_pos ⟨rfl,rfl⟩,fin]
 | some i =>
  obtain ⟨n0,n1,n2,n3,n4⟩:=Zjt hn
  rw [show (some i:Option Ins).isSome=true from rfl,if_neg (by simp),show (some i:Option Ins).getD Ins.zero=i from rfl,ins_kind,asI_ok,ins_kind,asI_ok,scK_or]
  by_cases hk:i.kind=2∨i.kind=4
  ·have hpc:=l.setR_pc i.reg v
   obtain ⟨x,hr,hx,hlo⟩:=Zli hE.c113 (p' ⟨true,0,({ (l.setR i.reg v) with pc:=l.pc+1 }:Lcl).cs⟩) t
   rw [if_pos (by rw [Yp,beq_iff_eq,beq_iff_eq];exact hk),ins_reg,asI_ok,set_R hE.c124 _ _ (hb l),setBlk_last,c0_ok,rdL (hb _),lcl_pc,asI_ok,rdL (hb _),if_pos (by rw [Lcl.len];omega),lcl_setpc,Zco (hb _) rfl,setBlk_last,if_pos ⟨rfl,p.len⟩,hpc,Zj (x:=l.pc+1) (by omega) (by omega),hr,qh_ok,c1_ok,asC_ok,rdL (hb _),if_pos ⟨rfl,rfl⟩,Zox hE.c114 hfit hx hlo,qh_ok,c1_ok,asA_ok,if_pos ⟨rfl,rfl,rfl⟩,if_pos ⟨rfl,rfl⟩,fin]
   dsimp only
   rw [if_pos hk]
  ·obtain ⟨x,hr,hx,hlo⟩:=Zli hE.c113 (p' ⟨true,0,({ l with pc:=l.pc+1 }:Lcl).cs⟩) t
   rw [if_neg (by rw [Yp,beq_iff_eq,beq_iff_eq];exact hk),rdL (hb _),lcl_pc,asI_ok,rdL (hb _),if_pos (by rw [Lcl.len];omega),lcl_setpc,Zco (hb _) rfl,setBlk_last,if_pos ⟨rfl,p.len⟩,Zj (x:=l.pc+1) (by omega) (by omega),hr,qh_ok,c1_ok,asC_ok,rdL (hb _),if_pos ⟨rfl,rfl⟩,Zox hE.c114 hfit hx hlo,qh_ok,c1_ok,asA_ok,if_pos ⟨rfl,rfl,rfl⟩,if_pos ⟨rfl,rfl⟩,fin]
   dsimp only
   rw [if_neg hk]
end
section
variable (C:Zab) (L:Zbv) (G:Glo)
variable {h h0:Za}
variable {x9:Cell}
variable {a0 a1 a2 a4 a5 a6 a7 a8 a10:Int}
variable {l0 s0 s1:List Cell}
theorem q93_eq:q93.body C L G [(.c (.int .i64 a0)),(.c (.int .i64 a1)),(.c (.int .i64 a2))] h0=if (a0==1)=true then let v:Int:=(G.wrap .u64 ((G.wrap .u64 a1)+(G.wrap .u64 a2)));some ([(.c (.int .i64 (G.wrap .i64 v))),(.c (.bool true))],h0) else if (a0==2)=true then let v:Int:=(G.wrap .u64 ((G.wrap .u64 a1) - (G.wrap .u64 a2)));some ([(.c (.int .i64 (G.wrap .i64 v))),(.c (.bool true))],h0) else if (a0==3)=true then let v:Int:=(G.wrap .u64 ((G.wrap .u64 a1)*(G.wrap .u64 a2)));some ([(.c (.int .i64 (G.wrap .i64 v))),(.c (.bool true))],h0) else if (a0==4)=true then some ([(.c (.int .i64 (G.band .i64 a1 a2))),(.c (.bool true))],h0) else if (a0==5)=true then some ([(.c (.int .i64 (G.bor .i64 a1 a2))),(.c (.bool true))],h0) else if (a0==6)=true then some ([(.c (.int .i64 (G.bxor .i64 a1 a2))),(.c (.bool true))],h0) else if (a0==7)=true then if (G.rem .u64 (G.wrap .u64 a2) 64)<0 then none else let v:Int:=(G.shl .u64 (G.wrap .u64 a1) (G.rem .u64 (G.wrap .u64 a2) 64));some ([(.c (.int .i64 (G.wrap .i64 v))),(.c (.bool true))],h0) else if (a0==8)=true then if (G.rem .u64 (G.wrap .u64 a2) 64)<0 then none else let v:Int:=(G.shr .i64 a1 (G.rem .u64 (G.wrap .u64 a2) 64));some ([(.c (.int .i64 v)),(.c (.bool true))],h0) else if (a0==9)=true then if (a1==a2)=true then some ([(.c (.int .i64 1)),(.c (.bool true))],h0) else some ([(.c (.int .i64 0)),(.c (.bool true))],h0) else if (a0==10)=true then if (a1 != a2)=true then some ([(.c (.int .i64 1)),(.c (.bool true))],h0) else some ([(.c (.int .i64 0)),(.c (.bool true))],h0) else if (a0==11)=true then if (decide (a1<a2))=true then some ([(.c (.int .i64 1)),(.c (.bool true))],h0) else some ([(.c (.int .i64 0)),(.c (.bool true))],h0) else some ([(.c (.int .i64 0)),(.c (.bool false))],h0):=by kernel_rfl
def q121_k2 (h0:Za):Ex->St->Rs:=Zac (fun st=>q121_p1.exec C L G st (q121.fin G h0)) (q121.fin G h0)
def q121_k3 (h0:Za):Ex->St->Rs:=Zag 0 (q121_k2 C L G h0)
def q121_s1 (a4:Int) (s0 s1:List Cell) (h:Za):St:=⟨tops 1 (.loc 0 0 :: tops 1 (.loc 1 0 :: .v (.c (.int .i64 a4)) :: tops 93 [])),[some s0,some s1],h⟩
def q121_F1 :St->Option (Ex × St):=Zt (q121_b1.exec C L G) [1,3,4] [0,1] [(1,[1,3],[0,1])]
def q121_x1_1 (s0 s1:List Cell) (h:Za):St:=⟨tops 1 (.loc 0 0 :: tops 1 (.loc 1 0 :: tops 94 [])),[some s0,some s1],h⟩
def q121_k4 (h0:Za):Ex->St->Rs:=Zac (fun st=>q121_p2.exec C L G st (q121.fin G h0)) (q121.fin G h0)
def q121_k5 (h0:Za):Ex->St->Rs:=Zag 2 (q121_k4 C L G h0)
def q121_s3 (a5:Int) (s0 s1:List Cell) (h:Za):St:=⟨tops 1 (.loc 0 0 :: tops 1 (.loc 1 0 :: tops 1 (.v (.c (.int .i64 a5)) :: tops 92 []))),[some s0,some s1],h⟩
def q121_F3 :St->Option (Ex × St):=Zt (q121_b3.exec C L G) [1,3,5] [0,1] [(3,[1,3],[0,1])]
def q121_k6 :Ex->St->Option (Ex × St):=Zac (fun st=>q121_p3.exec C L G st (Zah [1,3,5] [0,1] [(3,[1,3],[0,1])])) (Zah [1,3,5] [0,1] [(3,[1,3],[0,1])])
def q121_k7 :Ex->St->Option (Ex × St):=Zag 3 (q121_k6 C L G)
def q121_k8 :Ex->St->Option (Ex × St):=Zag 4 (q121_k7 C L G)
def q121_s2 (a5 a6:Int) (s0 s1:List Cell) (h:Za):St:=⟨tops 1 (.loc 0 0 :: tops 1 (.loc 1 0 :: tops 1 (.v (.c (.int .i64 a5)) :: .v (.c (.int .i64 a6)) :: tops 91 []))),[some s0,some s1],h⟩
def q121_F2 :St->Option (Ex × St):=Zt (q121_b2.exec C L G) [1,3,5,6] [0,1] [(5,[1,3,5],[0,1])]
def q121_x2_5 (a5:Int) (s0 s1:List Cell) (h:Za):St:=⟨tops 1 (.loc 0 0 :: tops 1 (.loc 1 0 :: tops 1 (.v (.c (.int .i64 a5)) :: tops 92 []))),[some s0,some s1],h⟩
def q121_x3_3 (s0 s1:List Cell) (h:Za):St:=⟨tops 1 (.loc 0 0 :: tops 1 (.loc 1 0 :: tops 94 [])),[some s0,some s1],h⟩
def q121_k9 (h0:Za):Ex->St->Rs:=Zac (fun st=>q121_p4.exec C L G st (q121.fin G h0)) (q121.fin G h0)
def q121_k10 (h0:Za):Ex->St->Rs:=Zag 6 (q121_k9 C L G h0)
def q121_s5 (a7:Int) (s0 s1:List Cell) (h:Za):St:=⟨tops 1 (.loc 0 0 :: tops 1 (.loc 1 0 :: tops 3 (.v (.c (.int .i64 a7)) :: tops 90 []))),[some s0,some s1],h⟩
def q121_F5 :St->Option (Ex × St):=Zt (q121_b5.exec C L G) [1,3,7] [0,1] [(7,[3],[1])]
def q121_k11 :Ex->St->Option (Ex × St):=Zac (fun st=>q121_p5.exec C L G st (Zah [1,3,7] [0,1] [(7,[3],[1])])) (Zah [1,3,7] [0,1] [(7,[3],[1])])
def q121_k12 :Ex->St->Option (Ex × St):=Zag 7 (q121_k11 C L G)
def q121_k13 :Ex->St->Option (Ex × St):=Zag 8 (q121_k12 C L G)
def q121_s4 (a7 a8:Int) (s0 s1:List Cell) (h:Za):St:=⟨tops 1 (.loc 0 0 :: tops 1 (.loc 1 0 :: tops 3 (.v (.c (.int .i64 a7)) :: .v (.c (.int .i64 a8)) :: tops 89 []))),[some s0,some s1],h⟩
def q121_F4 :St->Option (Ex × St):=Zt (q121_b4.exec C L G) [1,3,7,8] [0,1] [(9,[1,3,7],[0,1])]
def q121_x4_9 (a7:Int) (s0 s1:List Cell) (h:Za):St:=⟨tops 1 (.loc 0 0 :: tops 1 (.loc 1 0 :: tops 3 (.v (.c (.int .i64 a7)) :: tops 90 []))),[some s0,some s1],h⟩
def q121_x5_7 (s1:List Cell) (h:Za):St:=⟨tops 3 (.loc 1 0 :: tops 94 []),[none,some s1],h⟩
def q121_k14 (h0:Za):Ex->St->Rs:=Zac (fun st=>q121_p6.exec C L G st (q121.fin G h0)) (q121.fin G h0)
def q121_k15 (h0:Za):Ex->St->Rs:=Zag 10 (q121_k14 C L G h0)
def q121_s6 (x9:Cell) (a10:Int) (s1:List Cell) (h:Za):St:=⟨tops 3 (.loc 1 0 :: tops 5 (.v (.c x9) :: .v (.c (.int .i32 a10)) :: tops 87 [])),[none,some s1],h⟩
def q121_F6 :St->Option (Ex × St):=Zt (q121_b6.exec C L G) [3,9,10] [1] [(11,[9],[])]
def q121_x6_11 (x9:Cell) (h:Za):St:=⟨tops 9 (.v (.c x9) :: tops 88 []),[none,none],h⟩
theorem q121_r1:q121_F1 C L G (q121_s1 a4 s0 s1 h)=Ze s0 1 fun q=>Zz q fun n=>if (decide (a4<n))=true then Ze s0 1 fun q=>Zl 2 q a4 fun k N o=>Zp h k N fun l=>Ze l (o+0) fun q=>Zk .i64 (.c q) fun n=>if 0<=(G.band .i64 n 255)/\(G.band .i64 n 255)<((256:Nat):Int) then if (0+((Yc (G.band .i64 n 255))*1))<s1.length then some (.normal,(q121_s1 (G.wrap .i64 (a4+1)) s0 (s1.set (0+((Yc (G.band .i64 n 255))*1)) (.bool true)) h)) else none else none else some ((.exit 0),(q121_x1_1 s0 s1 h)):=by kernel_rfl
theorem q121_r2:q121_F2 C L G (q121_s2 a5 a6 s0 s1 h)=Ze s0 2 fun q=>Zl 1 q a5 fun k N o=>Zp h k N fun l=>Ze l o fun q=>Zz q fun n=>if (decide (a6<n))=true then Ze s0 2 fun q=>Zl 1 q a5 fun k N o=>Zp h k N fun l=>Ze l o fun q=>Zl 9 q a6 fun k N o=>Zp h k N fun l=>Ze l (o+2) fun q=>Zk .i64 (.c q) fun n=>if 0<=(G.band .i64 n 255)/\(G.band .i64 n 255)<((256:Nat):Int) then if (0+((Yc (G.band .i64 n 255))*1))<s1.length then some (.normal,(q121_s2 a5 (G.wrap .i64 (a6+1)) s0 (s1.set (0+((Yc (G.band .i64 n 255))*1)) (.bool true)) h)) else none else none else some ((.exit 4),(q121_x2_5 a5 s0 s1 h)):=by kernel_rfl
theorem q121_e2_5:(q121_k8 C L G) (.exit 4) (q121_x2_5 a5 s0 s1 h)=some (.normal,(q121_s3 (G.wrap .i64 (a5+1)) s0 s1 h)):=by kernel_rfl
theorem q121_r3:q121_F3 C L G (q121_s3 a5 s0 s1 h)=Ze s0 2 fun q=>Zz q fun n=>if (decide (a5<n))=true then (L (q121_F2 C L G) (q121_s2 a5 0 s0 s1 h)).bind fun p=>(q121_k8 C L G) p.1 p.2 else some ((.exit 2),(q121_x3_3 s0 s1 h)):=by kernel_rfl
theorem q121_r4:q121_F4 C L G (q121_s4 a7 a8 s0 s1 h)=Ze s0 4 fun q=>Zl 1 q a7 fun k N o=>Zp h k N fun l=>Ze l o fun q=>Zz q fun n=>if (decide (a8<n))=true then Ze s0 4 fun q=>Zl 1 q a7 fun k N o=>Zp h k N fun l=>Ze l o fun q=>Zl 4 q a8 fun k N o=>Zp h k N fun l=>Ze l (o+2) fun q=>Zk .i64 (.c q) fun n=>if 0<=(G.band .i64 n 255)/\(G.band .i64 n 255)<((256:Nat):Int) then if (0+((Yc (G.band .i64 n 255))*1))<s1.length then some (.normal,(q121_s4 a7 (G.wrap .i64 (a8+1)) s0 (s1.set (0+((Yc (G.band .i64 n 255))*1)) (.bool true)) h)) else none else none else some ((.exit 8),(q121_x4_9 a7 s0 s1 h)):=by kernel_rfl
theorem q121_e4_9:(q121_k13 C L G) (.exit 8) (q121_x4_9 a7 s0 s1 h)=some (.normal,(q121_s5 (G.wrap .i64 (a7+1)) s0 s1 h)):=by kernel_rfl
theorem q121_r5:q121_F5 C L G (q121_s5 a7 s0 s1 h)=Ze s0 4 fun q=>Zz q fun n=>if (decide (a7<n))=true then (L (q121_F4 C L G) (q121_s4 a7 0 s0 s1 h)).bind fun p=>(q121_k13 C L G) p.1 p.2 else some ((.exit 6),(q121_x5_7 s1 h)):=by kernel_rfl
theorem q121_r6:q121_F6 C L G (q121_s6 x9 a10 s1 h)=if (decide (a10<=122))=true then if 0<=a10/\a10<((256:Nat):Int) then Ze s1 (0+((Yc a10)*1)) fun q=>asB (.c q) fun b=>if b=true then if (splice [Cell.int .u8 0] 0 [(.int .u8 (G.wrap .u8 a10))]).length=1*1 then Zao 1 1 x9 (splice [Cell.int .u8 0] 0 [(.int .u8 (G.wrap .u8 a10))]) h fun x h1=>some (.normal,(q121_s6 x (G.wrap .i32 (a10+1)) s1 h1)) else none else some (.normal,(q121_s6 x9 (G.wrap .i32 (a10+1)) s1 h)) else none else some ((.exit 10),(q121_x6_11 x9 h)):=by kernel_rfl
theorem q121_e6_11:(q121_k15 C L G h0) (.exit 10) (q121_x6_11 x9 h)=some ([(.c x9)],h):=by kernel_rfl
theorem q121_e5_7:(q121_k10 C L G h0) (.exit 6) (q121_x5_7 s1 h)=(L (q121_F6 C L G) (q121_s6 .nils 97 s1 h)).bind fun p=>(q121_k15 C L G h0) p.1 p.2:=by kernel_rfl
theorem q121_e3_3:(q121_k5 C L G h0) (.exit 2) (q121_x3_3 s0 s1 h)=(L (q121_F5 C L G) (q121_s5 0 s0 s1 h)).bind fun p=>(q121_k10 C L G h0) p.1 p.2:=by kernel_rfl
theorem q121_e1_1:(q121_k3 C L G h0) (.exit 0) (q121_x1_1 s0 s1 h)=(L (q121_F3 C L G) (q121_s3 0 s0 s1 h)).bind fun p=>(q121_k5 C L G h0) p.1 p.2:=by kernel_rfl
theorem q121_eq:q121.body C L G [(.agg l0)] h0=(L (q121_F1 C L G) (q121_s1 0 l0 (Ya 256 (Cell.bool false)) h0)).bind fun p=>(q121_k3 C L G h0) p.1 p.2:=by kernel_rfl
end
theorem Zlo {x y:Int} (h:x % 18446744073709551616=y % 18446744073709551616):IntKind.wrap .i64 x=IntKind.wrap .i64 y:=by
 simp only [IntKind.wrap,IntKind.signed,IntKind.bits,Yac]
 split
 ·rename_i h1
  have h1:=of_decide_eq_true h1
  split
  ·omega
  ·rename_i h2;exact absurd (decide_eq_true (by omega)) h2
 ·rename_i h1
  split
  ·rename_i h2
   have h2:=of_decide_eq_true h2
   exact absurd (decide_eq_true (by omega)) h1
  ·omega
theorem u64_mod (x:Int):IntKind.wrap .u64 x=x % 18446744073709551616:=by
 simp only [IntKind.wrap,IntKind.signed,IntKind.bits,Yai,Yab,if_false];rfl
structure GoodI (len:Nat) (i:Ins):Prop where
 kind:1<=i.kind/\i.kind<=6
 reg:i.kind=2∨i.kind=4∨i.kind=5->0<=i.reg/\i.reg<4
 op:i.kind=5->0<=i.op/\i.op<=11
 n:i.kind=6->0<=i.n/\i.n<=len
def GoodC (code:List Ins):Prop:=∀i∈code,GoodI code.length i
section
variable {E:Env}
theorem Zdw (hE:q92_In E) (o:Opd) (l:Lcl) (h:Za):R E 92 [.agg o.cs,.agg l.cs] h=some ([.c (.int .i64 (opV o l))],h):=by
 refine Zd hE.fn ?_
 have a0:∀{α:Type} (f:Cell->Option α),Ze o.cs 0 f=f (.int .i64 o.reg):=fun _=>rfl
 have a1:∀{α:Type} (f:Cell->Option α),Ze o.cs 1 f=f (.int .i64 o.val):=fun _=>rfl
 unfold opV
 rw [q92_eq]
 simp only [a0,a1,asI_ok,scK_and]
 by_cases h1:0<=o.reg/\o.reg<4
 ·rw [if_pos (by simp;omega),if_pos ⟨h1.1,h1.2⟩,if_pos h1,Zae (Zzh h1.1 h1.2),asI_ok]
 ·rw [if_neg (by simp;omega),if_neg h1]
theorem refDo_R (hE:q93_In E) (op a b:Int) (h:Za):R E 93 [.c (.int .i64 op),.c (.int .i64 a),.c (.int .i64 b)] h=some ([.c (.int .i64 ((doV op a b).getD 0)),.c (.bool (doV op a b).isSome)],h):=by
 refine Zd hE.fn ?_
 rw [q93_eq]
 have hr:∀x:Int,0<=E.glob.rem .u64 (E.glob.wrap .u64 x) 64:=by
  intro x
  show 0<=Int.tmod (IntKind.wrap .u64 x) 64
  rw [u64_mod,Yt (Yv _ (by omega))]
  exact Yv _ (by omega)
 have hr':∀x:Int,¬E.glob.rem .u64 (E.glob.wrap .u64 x) 64<0:=fun x=>by have:=hr x;omega
 simp only [hr',if_false]
 have w1:E.glob.wrap .i64 (E.glob.wrap .u64 (E.glob.wrap .u64 a+E.glob.wrap .u64 b))=GN.wrap .i64 (a+b):=by
  show IntKind.wrap .i64 (IntKind.wrap .u64 (IntKind.wrap .u64 a+IntKind.wrap .u64 b))=IntKind.wrap .i64 (a+b)
  refine Zlo ?_
  rw [u64_mod,u64_mod,u64_mod];omega
 have w2:E.glob.wrap .i64 (E.glob.wrap .u64 (E.glob.wrap .u64 a - E.glob.wrap .u64 b))=GN.wrap .i64 (a - b):=by
  show IntKind.wrap .i64 (IntKind.wrap .u64 (IntKind.wrap .u64 a - IntKind.wrap .u64 b))=IntKind.wrap .i64 (a - b)
  refine Zlo ?_
  rw [u64_mod,u64_mod,u64_mod];omega
 have w3:E.glob.wrap .i64 (E.glob.wrap .u64 (E.glob.wrap .u64 a*E.glob.wrap .u64 b))=GN.wrap .i64 (a*b):=by
  show IntKind.wrap .i64 (IntKind.wrap .u64 (IntKind.wrap .u64 a*IntKind.wrap .u64 b))=IntKind.wrap .i64 (a*b)
  refine Zlo ?_
  rw [u64_mod,u64_mod,u64_mod,Yx _ (Yal _),←Yam]
 have w7:∀k:Int,E.glob.wrap .i64 (E.glob.shl .u64 (E.glob.wrap .u64 a) k)=GN.shl .i64 a k:=by
  intro k
  show IntKind.wrap .i64 (IntKind.wrap .u64 (IntKind.wrap .u64 a*2 ^ min k.toNat IntKind.u64.bits))=IntKind.wrap .i64 (a*2 ^ min k.toNat IntKind.i64.bits)
  refine Zlo ?_
  rw [u64_mod,u64_mod,Yx _ (Yal _)]
  show _=(a*2 ^ min k.toNat IntKind.u64.bits) % _
  rw [Yam,Yx _ (Yal _),←Yam]
 simp only [w1,w2,w3,w7]
 unfold doV
 have key:∀k:Int,((op==k)=true)=(op=k):=fun k=>by rw [beq_iff_eq]
 simp only [key]
 by_cases h1:op=1
 ·simp only [if_pos h1];rfl
 simp only [if_neg h1]
 by_cases h2:op=2
 ·simp only [if_pos h2];rfl
 simp only [if_neg h2]
 by_cases h3:op=3
 ·simp only [if_pos h3];rfl
 simp only [if_neg h3]
 by_cases h4:op=4
 ·simp only [if_pos h4];rfl
 simp only [if_neg h4]
 by_cases h5:op=5
 ·simp only [if_pos h5];rfl
 simp only [if_neg h5]
 by_cases h6:op=6
 ·simp only [if_pos h6];rfl
 simp only [if_neg h6]
 by_cases h7:op=7
 ·simp only [if_pos h7];rfl
 simp only [if_neg h7]
 by_cases h8:op=8
 ·simp only [if_pos h8];rfl
 simp only [if_neg h8]
 by_cases h9:op=9
 ·simp only [if_pos h9];(by_cases hab:a=b<;>simp [hab])
 simp only [if_neg h9]
 by_cases h10:op=10
 ·simp only [if_pos h10];(by_cases hab:a=b<;>simp [hab])
 simp only [if_neg h10]
 by_cases h11:op=11
 ·simp only [if_pos h11];(by_cases hab:a<b<;>simp [hab])
 simp only [if_neg h11]
 rfl
theorem doV_some {op:Int} (a b:Int) (h1:1<=op) (h2:op<=11):∃v,doV op a b=some v:=by
 have h:op=1∨op=2∨op=3∨op=4∨op=5∨op=6∨op=7∨op=8∨op=9∨op=10∨op=11:=by omega
 rcases h with rfl | rfl | rfl | rfl | rfl | rfl | rfl | rfl | rfl | rfl | rfl<;>exact ⟨_,rfl⟩
theorem ProgAt.thr {h:Za} {cs:List Cell} {P:PProg} (p:ProgAt h cs P) {t:Nat} {code:List Ins} (ht:P.thr[t]? = some code) :
  ∃x,SlAt h x 9 (Zaf code) code.length/\Low h.length x/\∀{α:Type} (f:Cell->Option α),(Ze cs 2 fun q=>Zl 1 q (t:Int) fun k N o=>Zp h k N fun l=>Ze l o f)=f x:=by
 obtain ⟨a,b,c,ts,rfl,_,_,⟨hc,hcl⟩,hts⟩:=p
 obtain ⟨x,x1,x2,x3⟩:=hts _ _ ht
 refine ⟨x,x2,x3,fun f=>?_⟩
 show (Zl 1 c (t:Int) fun k N o=>Zp h k N fun l=>Ze l o f)=f x
 exact hc.get1 (Zf ht) x1
theorem ProgAt.nthr {α:Type} {h:Za} {cs:List Cell} {P:PProg} (p:ProgAt h cs P) {f:Int->Option α}:(Ze cs 2 fun q=>Zz q f)=f P.thr.length:=by
 obtain ⟨a,b,c,ts,rfl,_,_,⟨hc,hcl⟩,hts⟩:=p
 show Zz c f=_
 exact hc.len
theorem Zsg {P:PProg} {t:Nat} {code:List Ins} (ht:P.thr[t]? = some code):P.code (t:Int)=code:=by
 unfold PProg.code
 rw [if_pos (by omega),Int.toNat_natCast,Yh,ht];rfl
theorem Zhq (hE:q123_In E) {cs:List Cell} {P:PProg} {h:Za} (p:ProgAt h cs P) {t:Nat} {code:List Ins} (ht:P.thr[t]? = some code) (hlen:code.length<4000000000000000000) (hg:GoodC code) (l:Lcl) (h0:0<=l.pc) :
  R E 123 [.agg cs,.c (.int .i64 (t:Int)),.agg l.cs] h=some ([.agg (Zrq code l).cs],h):=by
 refine Zd hE.fn ?_
 obtain ⟨x,hx,hxl,hT⟩:=p.thr ht
 have round:∀l:Lcl,0<=l.pc->q123_F1 (R E) Zq E.glob (q123_s1 t cs l.cs Lcl.zero.cs h)=match Zdn code l with
   | some l'=>some (.normal,q123_s1 t cs l'.cs Lcl.zero.cs h)
   | none=>if l.pc<code.length then some (.ret,q123_x1_0 l.cs h) else some (.exit 0,q123_x1_1 l.cs Lcl.zero.cs h):=by
  intro l h0
  rw [q123_r1,lcl_pc,asI_ok,hT,hx.len]
  by_cases h1:l.pc<code.length
  ·obtain ⟨q,hp⟩:∃q:Nat,l.pc=(q:Int):=⟨l.pc.toNat,by omega⟩
   have hpl:q<code.length:=by omega
   have hq:code[q]? = some code[q]:=Yd hpl
   have hgi:=hg _ (Yaq hpl)
   generalize code[q]=i at hq hgi
   obtain ⟨off,cs',hG0,hle,hcs⟩:=hx.insG hq
   have hG:∀{α:Type} (G:Nat->List Cell->Option α),(Zl 9 x l.pc fun k N o=>Zp h k N fun l=>G o l)=G off cs':=by intro α G;rw [hp];exact hG0 G
   have hst:Zdn code l=if i.kind=5 then
     some { (l.setR i.reg ((doV i.op (opV i.a l) (opV i.b l)).getD (opV i.a l))) with pc:=(l.setR i.reg ((doV i.op (opV i.a l) (opV i.b l)).getD (opV i.a l))).pc+1 }
    else if i.kind=6 then (if opV i.a l=opV i.b l then some { l with pc:=l.pc+min (max i.n 0) code.length+1 } else some { l with pc:=l.pc+1 }) else none:=by
    unfold Zdn
    rw [if_pos h0,show l.pc.toNat=q by omega,hq]
   rw [hst,if_pos (decide_eq_true h1),hT,lcl_pc,asI_ok,hG,if_pos hle,hcs,if_pos ⟨rfl,rfl,rfl⟩,ins_kind,asI_ok]
   by_cases k5:i.kind=5
   ·obtain ⟨r0,r1⟩:=hgi.reg (.inr (.inr k5))
    obtain ⟨o0,o1⟩:=hgi.op k5
    rw [if_pos (by rw [k5];rfl),if_pos k5,if_pos (show 3+2<=i.cs.length by rw [Ins.len];omega),if_pos ⟨rfl,rfl⟩,ins_a,Zdw hE.c92,c1_ok,asI_ok,ins_op,asI_ok]
    by_cases hop:i.op=0
    ·have hd:doV i.op (opV i.a l) (opV i.b l)=none:=by rw [hop];rfl
     have hpc:=l.setR_pc i.reg (opV i.a l)
     rw [hd,if_neg (by rw [hop];simp),ins_reg,asI_ok,if_pos ⟨r0,r1⟩,if_pos (by rw [Lcl.len];omega),Znr r0 r1,lcl_pc,asI_ok,if_pos (by rw [Lcl.len];omega),lcl_setpc]
     rw [show (none:Option Int).getD (opV i.a l)=opV i.a l from rfl,hpc,Zj (x:=l.pc+1) (by omega) (by omega)]
    ·obtain ⟨v,hd⟩:=doV_some (opV i.a l) (opV i.b l) (show 1<=i.op by omega) o1
     have hpc:=l.setR_pc i.reg v
     rw [hd,if_pos (by rw [bne_iff_ne];exact hop),ins_op,asI_ok,if_pos (show 6+2<=i.cs.length by rw [Ins.len];omega),if_pos ⟨rfl,rfl⟩,ins_b,Zdw hE.c92,qh_ok,c1_ok,asI_ok,refDo_R hE.c93,qh_ok,c2_ok,asI_ok,asB_ok,hd,ins_reg,asI_ok,if_pos ⟨r0,r1⟩,if_pos (by rw [Lcl.len];omega),show (some v:Option Int).getD 0=v from rfl,Znr r0 r1,lcl_pc,asI_ok,if_pos (by rw [Lcl.len];omega),lcl_setpc]
     rw [show (some v:Option Int).getD (opV i.a l)=v from rfl,hpc,Zj (x:=l.pc+1) (by omega) (by omega)]
   ·rw [if_neg (by rw [beq_iff_eq];exact k5),if_neg k5]
    by_cases k6:i.kind=6
    ·obtain ⟨n0,n1⟩:=hgi.n k6
     rw [if_pos (by rw [k6];rfl),if_pos k6,if_pos (show 3+2<=i.cs.length by rw [Ins.len];omega),if_pos ⟨rfl,rfl⟩,ins_a,Zdw hE.c92,qh_ok,c1_ok,asI_ok,if_pos (show 6+2<=i.cs.length by rw [Ins.len];omega),if_pos ⟨rfl,rfl⟩,ins_b,Zdw hE.c92,qh_ok,c1_ok,asI_ok]
     by_cases hab:opV i.a l=opV i.b l
     ·rw [if_pos (by rw [hab];exact beq_self_eq_true _),if_pos hab,lcl_pc,asI_ok,ins_n,asI_ok,if_pos (by rw [Lcl.len];omega),lcl_setpc,lcl_pc,asI_ok,if_pos (by rw [Lcl.len];omega),lcl_setpc]
      dsimp only
      rw [show min (max i.n 0) (code.length:Int)=i.n by omega,Zj (x:=l.pc+i.n) (by omega) (by omega),Zj (x:=l.pc+i.n+1) (by omega) (by omega)]
     ·rw [if_neg (by rw [beq_iff_eq];exact hab),if_neg hab,lcl_pc,asI_ok,if_pos (by rw [Lcl.len];omega),lcl_setpc,Zj (x:=l.pc+1) (by omega) (by omega)]
    ·rw [if_neg (by rw [beq_iff_eq];exact k6),if_neg k6,if_pos ⟨rfl,rfl⟩,if_pos ⟨rfl,rfl,rfl⟩]
     dsimp only
     rw [if_pos h1]
  ·have hst:Zdn code l=none:=by
    unfold Zdn
    rw [if_pos h0,Yf (by omega)]
   rw [hst,if_neg (by simpa using h1)]
   dsimp only
   rw [if_neg h1]
 have stop:∀l:Lcl,0<=l.pc->Zdn code l=none->(Zq (q123_F1 (R E) Zq E.glob) (q123_s1 t cs l.cs Lcl.zero.cs h)).bind (fun p=>q123_k3 (R E) Zq E.glob h p.1 p.2)=some ([.agg l.cs],h):=by
  intro l h0 hs
  have hr:=round l h0
  rw [hs] at hr
  dsimp only at hr
  split at hr
  ·rw [Zcf hr,bind_ok,q123_e1_0,if_pos ⟨rfl,rfl⟩]
  ·rw [Zm hr,bind_ok,q123_e1_1,if_pos ⟨rfl,rfl⟩,if_pos ⟨rfl,rfl,rfl⟩,if_pos ⟨rfl,rfl⟩]
 have loop:∀(k:Nat) (l:Lcl),0<=l.pc->(code.length:Int)<=l.pc+k->(Zq (q123_F1 (R E) Zq E.glob) (q123_s1 t cs l.cs Lcl.zero.cs h)).bind (fun p=>q123_k3 (R E) Zq E.glob h p.1 p.2)=some ([.agg (nrm code k l).cs],h):=by
  intro k
  induction k with
  | zero =>
   intro l h0 hk
   rw [nrm]
   refine stop l h0 ?_
   cases hs:Zdn code l with
   | none=>rfl
   | some l'=>have:=Zii hs;omega
  | succ k ih =>
   intro l h0 hk
   rw [nrm]
   cases hs:Zdn code l with
   | none=>exact stop l h0 hs
   | some l' =>
    have hr:=round l h0
    rw [hs] at hr
    have h3:=Zii hs
    have:=ih l' (by omega) (by omega)
    cases hL:Zq (q123_F1 (R E) Zq E.glob) (q123_s1 t cs l'.cs Lcl.zero.cs h) with
    | none=>rw [hL] at this;cases this
    | some p=>rw [Zat hr hL];rw [hL] at this;exact this
 rw [q123_eq,zero5]
 exact loop code.length l h0 (by omega)
theorem Zze (hE:q110_In E) {cs:List Cell} {P:PProg} {h:Za} (p:ProgAt h cs P) (t:Int) :
  R E 110 [.agg cs,.c (.int .i64 t)] h=some ([.c (.bool (decide (0<=t)&&decide (t<P.thr.length)))],h):=by
 refine Zd hE.fn ?_
 rw [q110_eq]
 by_cases h0:0<=t
 ·rw [show decide (t>=0)=true from decide_eq_true h0,scK_ok,p.nthr,bind_ok]
  rfl
 ·rw [show decide (t>=0)=false from decide_eq_false h0,scK_ft]
  rfl
def PProg.good (P:PProg):Prop:=P.fits/\∀code∈P.thr,GoodC code
theorem Zlh {P:PProg} {t:Int} (h:¬(0<=t/\t<P.thr.length)):P.code t=[]:=by
 unfold PProg.code
 split
 ·rw [Yh,Yf (by omega)];rfl
 ·rfl
theorem Zxz (hE:q104_In E) {cs:List Cell} {P:PProg} {h:Za} (hg:P.good) (p:ProgAt h cs P) (t:Int) :
  R E 104 [.agg cs,.c (.int .i64 t)] h=some ([.agg (Zak P t).cs],h):=by
 refine Zd hE.fn ?_
 rw [q104_eq,if_pos ⟨rfl,p.len⟩,Zze hE.c110 p,c1_ok,asB_ok]
 by_cases ht:0<=t/\t<P.thr.length
 ·obtain ⟨q,hq⟩:∃q:Nat,t=(q:Int):=⟨t.toNat,by omega⟩
  have hqq:P.thr[q]? = some P.thr[q]:=Yd (by omega)
  have hm:=Ye hqq
  generalize P.thr[q]=code at hqq hm
  rw [show (decide (0<=t)&&decide (t<P.thr.length))=true by simp [ht.1,ht.2],if_neg (by simp),if_pos ⟨rfl,p.len⟩,zero5,hq,Zhq hE.c123 p hqq (hg.1.2 _ hm) (hg.2 _ hm) Lcl.zero (by simp [Lcl.zero]),c1_ok,asA_ok,if_pos ⟨rfl,rfl,rfl⟩,if_pos ⟨rfl,rfl⟩]
  unfold Zak
  rw [Zsg hqq]
 ·have hs:Zak P t=Lcl.zero:=by unfold Zak;rw [Zlh ht];rfl
  rw [show (decide (0<=t)&&decide (t<P.thr.length))=false by simp;omega,if_pos (show (!false)=true from rfl),zero5,if_pos ⟨rfl,rfl,rfl⟩,if_pos ⟨rfl,rfl⟩,hs]
theorem Zlw (hE:q81_In E) {cs:List Cell} {P:PProg} {h:Za} (hg:P.good) (p:ProgAt h cs P) (t:Int) (l:Lcl) :
  R E 81 [.agg cs,.c (.int .i64 t),.agg l.cs] h=some ([.agg ((Zbg (P.code t) l).getD Ins.zero).cs,.c (.bool (Zbg (P.code t) l).isSome)],h):=by
 refine Zd hE.fn ?_
 rw [q81_eq,if_pos ⟨rfl,p.len⟩,Zze hE.c110 p,qh_ok,c1_ok,asB_ok]
 by_cases ht:0<=t/\t<P.thr.length
 ·obtain ⟨q,hq⟩:∃q:Nat,t=(q:Int):=⟨t.toNat,by omega⟩
  have hqq:P.thr[q]? = some P.thr[q]:=Yd (by omega)
  have hm:=Ye hqq
  generalize P.thr[q]=code at hqq hm
  have hgc:=hg.2 _ hm
  obtain ⟨x,hx,hxl,hT⟩:=p.thr hqq
  rw [show (decide (0<=t)&&decide (t<P.thr.length))=true by simp [ht.1,ht.2],Bool.not_true,scK_ok,lcl_pc,asI_ok,bind_ok]
  dsimp only
  subst hq
  rw [Zsg hqq]
  by_cases h0:0<=l.pc
  ·rw [show decide (l.pc<0)=false from decide_eq_false (by omega),scK_ok,lcl_pc,asI_ok,hT,hx.len,bind_ok]
   dsimp only
   by_cases h1:l.pc<code.length
   ·obtain ⟨m,hmm⟩:∃m:Nat,l.pc=(m:Int):=⟨l.pc.toNat,by omega⟩
    have hml:m<code.length:=by omega
    have hi:code[m]? = some code[m]:=Yd hml
    have hgi:=hgc _ (Yaq hml)
    generalize code[m]=i at hi hgi
    obtain ⟨off,cs',hG0,hle,hcs⟩:=hx.insG hi
    have hG:∀{α:Type} (G:Nat->List Cell->Option α),(Zl 9 x l.pc fun k N o=>Zp h k N fun l=>G o l)=G off cs':=by intro α G;rw [hmm];exact hG0 G
    have hn:Zbg code l=if 1<=i.kind/\i.kind<=4 then some i else none:=by
     unfold Zbg
     rw [if_pos h0,show l.pc.toNat=m by omega,hi]
    have hk2:=hgi.kind
    rw [show decide (l.pc>=(code.length:Int))=false from decide_eq_false (by omega),if_neg (by simp),hT,lcl_pc,asI_ok,hG,if_pos hle,hcs,if_pos ⟨rfl,rfl,rfl⟩,ins_kind,asI_ok,ins_kind,asI_ok,scK_or,hn]
    by_cases hk:1<=i.kind/\i.kind<=4
    ·rw [if_neg (by simp;omega),if_pos hk,if_pos ⟨rfl,rfl⟩,if_pos ⟨rfl,rfl,rfl⟩,if_pos ⟨rfl,rfl⟩];rfl
    ·rw [if_pos (by simp;omega),if_neg hk,if_pos ⟨rfl,rfl,rfl⟩,if_pos ⟨rfl,rfl⟩];rfl
   ·have hn:Zbg code l=none:=by unfold Zbg;rw [if_pos h0,Yf (by omega)]
    rw [show decide (l.pc>=(code.length:Int))=true from decide_eq_true (by omega),if_pos rfl,hn,if_pos ⟨rfl,rfl,rfl⟩,if_pos ⟨rfl,rfl⟩];rfl
  ·have hn:Zbg code l=none:=by unfold Zbg;rw [if_neg h0]
   rw [show decide (l.pc<0)=true from decide_eq_true (by omega),scK_tf,if_pos rfl,hn,if_pos ⟨rfl,rfl,rfl⟩,if_pos ⟨rfl,rfl⟩];rfl
 ·have hn:Zbg (P.code t) l=none:=by rw [Zlh ht];unfold Zbg;split<;>simp
  rw [show (decide (0<=t)&&decide (t<P.thr.length))=false by simp;omega,Yax,scK_tf,scK_tf,if_pos rfl,hn,if_pos ⟨rfl,rfl,rfl⟩,if_pos ⟨rfl,rfl⟩];rfl
theorem Zxu (hE:q107_In E) {cs:List Cell} {P:PProg} {h:Za} (hg:P.good) (p:ProgAt h cs P) (t:Int) (l:Lcl) (v:Int) :
  R E 107 [.agg cs,.c (.int .i64 t),.agg l.cs,.c (.int .i64 v)] h=some ([.agg (Zbi (P.code t) l v).cs],h):=by
 refine Zd hE.fn ?_
 rw [q107_eq,if_pos ⟨rfl,p.len⟩,if_pos ⟨rfl,rfl⟩,Zlw hE.c81 hg p,c2_ok,asA_ok,asB_ok,if_pos ⟨rfl,rfl,rfl⟩]
 unfold Zbi
 cases hn:Zbg (P.code t) l with
 | none =>
  rw [show (none:Option Ins).isSome=false from rfl,if_pos (show (!false)=true from rfl),if_pos ⟨rfl,rfl⟩,if_pos ⟨rfl,rfl,rfl⟩,if_pos ⟨rfl,rfl⟩]
 | some i =>
  obtain ⟨n0,n1,n2,n3,n4⟩:=Zjt hn
  have ht:0<=t/\t<P.thr.length:=by
   refine Classical.byContradiction fun hc=>?_
   rw [Zlh hc] at n2;simp at n2
  obtain ⟨q,hq⟩:∃q:Nat,t=(q:Int):=⟨t.toNat,by omega⟩
  have hqq:P.thr[q]? = some P.thr[q]:=Yd (by omega)
  have hm:=Ye hqq
  generalize P.thr[q]=code at hqq hm
  subst hq
  rw [Zsg hqq] at n1 n2 ⊢
  have hgi:=hg.2 _ hm i (Ye n2)
  have hfit:=hg.1.2 _ hm
  rw [show (some i:Option Ins).isSome=true from rfl,if_neg (by simp),show (some i:Option Ins).getD Ins.zero=i from rfl,ins_kind,asI_ok,ins_kind,asI_ok,scK_or]
  by_cases hk:i.kind=2∨i.kind=4
  ·have hpc:=l.setR_pc i.reg v
   obtain ⟨r0,r1⟩:=hgi.reg (hk.imp id .inl)
   rw [if_pos (by rw [Yp,beq_iff_eq,beq_iff_eq];exact hk),ins_reg,asI_ok,if_pos ⟨r0,r1⟩,if_pos (by rw [Lcl.len];omega),Znr r0 r1,lcl_pc,asI_ok,if_pos (by rw [Lcl.len];omega),lcl_setpc,if_pos ⟨rfl,p.len⟩,if_pos ⟨rfl,rfl⟩,hpc,Zj (x:=l.pc+1) (by omega) (by omega),Zhq hE.c123 p hqq hfit (hg.2 _ hm) _ (by dsimp only;omega),c1_ok,asA_ok,if_pos ⟨rfl,rfl,rfl⟩,if_pos ⟨rfl,rfl⟩]
   dsimp only
   rw [if_pos hk]
  ·rw [if_neg (by rw [Yp,beq_iff_eq,beq_iff_eq];exact hk),lcl_pc,asI_ok,if_pos (by rw [Lcl.len];omega),lcl_setpc,if_pos ⟨rfl,p.len⟩,if_pos ⟨rfl,rfl⟩,Zj (x:=l.pc+1) (by omega) (by omega),Zhq hE.c123 p hqq hfit (hg.2 _ hm) _ (by dsimp only;omega),c1_ok,asA_ok,if_pos ⟨rfl,rfl,rfl⟩,if_pos ⟨rfl,rfl⟩]
   dsimp only
   rw [if_neg hk]
end
section
variable (C:Zab) (L:Zbv) (G:Glo)
variable {h h0:Za}
variable {x3 x7:Cell}
variable {a2 a8 a9:Int}
variable {l0 l1:List Cell}
theorem q80_eq:q80.body C L G [(.agg l0)] h0=Ze l0 2 fun q=>Zk .i64 (.c q) fun n=>scK (n==2) false (Ze l0 2 fun q=>Zk .i64 (.c q) fun n=>some ((n==4),h0)) true h0 fun b h=>some ([(.c (.bool b))],h):=by kernel_rfl
def q88_k2 (h0:Za):Ex->St->Rs:=Zac (fun st=>q88_p1.exec C L G st (q88.fin G h0)) (q88.fin G h0)
def q88_k3 (h0:Za):Ex->St->Rs:=Zag 0 (q88_k2 C L G h0)
def q88_s1 (x3 x7:Cell) (a8 a9:Int) (h:Za):St:=⟨tops 3 (.v (.c x3) :: tops 3 (.v (.c x7) :: .v (.c (.int .i64 a8)) :: .v (.c (.int .i64 a9)) :: tops 13 [])),[none],h⟩
def q88_F1 :St->Option (Ex × St):=Zt (q88_b1.exec C L G) [3,7,8,9] [] [(1,[3],[])]
def q88_x1_1 (x3:Cell) (h:Za):St:=⟨tops 3 (.v (.c x3) :: tops 19 []),[none],h⟩
theorem q88_r1:q88_F1 C L G (q88_s1 x3 x7 a8 a9 h)=if (decide (a9<a8))=true then Zl 1 x7 a9 fun k N o=>Zp h k N fun l=>Ze l o fun q=>Zk .i64 (.c q) fun n=>if (splice (splice (splice (splice (splice [ci0,ci0,ci0,ci0,ci0,ci0] 0 [(.int .i64 (-1))]) 1 [(.int .i64 a9)]) 2 [(.int .i64 2)]) 3 [(.int .i64 a9)]) 5 [(.int .i64 n)]).length=6/\0+6<=[ci0,ci0,ci0,ci0,ci0,ci0].length then if (splice [ci0,ci0,ci0,ci0,ci0,ci0] 0 (splice (splice (splice (splice (splice [ci0,ci0,ci0,ci0,ci0,ci0] 0 [(.int .i64 (-1))]) 1 [(.int .i64 a9)]) 2 [(.int .i64 2)]) 3 [(.int .i64 a9)]) 5 [(.int .i64 n)])).length=1*6 then Zao 6 48 x3 (splice [ci0,ci0,ci0,ci0,ci0,ci0] 0 (splice (splice (splice (splice (splice [ci0,ci0,ci0,ci0,ci0,ci0] 0 [(.int .i64 (-1))]) 1 [(.int .i64 a9)]) 2 [(.int .i64 2)]) 3 [(.int .i64 a9)]) 5 [(.int .i64 n)])) h fun x h1=>some (.normal,(q88_s1 x x7 a8 (G.wrap .i64 (a9+1)) h1)) else none else none else some ((.exit 0),(q88_x1_1 x3 h)):=by kernel_rfl
theorem q88_e1_1:(q88_k3 C L G h0) (.exit 0) (q88_x1_1 x3 h)=some ([(.c x3)],h):=by kernel_rfl
theorem q88_eq:q88.body C L G [(.agg l0)] h0=Ze l0 1 fun q=>Zz q fun n=>(L (q88_F1 C L G) (q88_s1 .nils q n 0 h0)).bind fun p=>(q88_k3 C L G h0) p.1 p.2:=by kernel_rfl
theorem q109_eq:q109.body C L G [(.agg l0),(.agg l1),(.c (.int .i64 a2))] h0=Ze l0 0 fun q=>Zk .i64 (.c q) fun n=>if (n==1)=true then Ze l0 2 fun q=>Zk .i64 (.c q) fun n1=>if 3+2<=l0.length then if 0=0/\l1.length=5 then c1 (qh h0 (C 108 [(.agg ((l0.drop 3).take 2)),(.agg l1)] h0)) fun y h=>Zk .i64 y fun n2=>if 0=0/\[ci0,ci0,ci0,ci0,ci0,ci0].length=6/\(splice (splice (splice [ci0,ci0,ci0,ci0,ci0,ci0] 2 [(.int .i64 2)]) 3 [(.int .i64 n1)]) 5 [(.int .i64 n2)]).length=6 then if 0=0/\(splice (splice (splice [ci0,ci0,ci0,ci0,ci0,ci0] 2 [(.int .i64 2)]) 3 [(.int .i64 n1)]) 5 [(.int .i64 n2)]).length=6 then some ([(.agg (splice (splice (splice [ci0,ci0,ci0,ci0,ci0,ci0] 2 [(.int .i64 2)]) 3 [(.int .i64 n1)]) 5 [(.int .i64 n2)])),(.c (.bool false))],h0) else none else none else none else none else if (n==2)=true then Ze l0 2 fun q=>Zk .i64 (.c q) fun n1=>if 0=0/\[ci0,ci0,ci0,ci0,ci0,ci0].length=6/\(splice (splice (splice [ci0,ci0,ci0,ci0,ci0,ci0] 2 [(.int .i64 1)]) 3 [(.int .i64 n1)]) 4 [(.int .i64 a2)]).length=6 then if 0=0/\(splice (splice (splice [ci0,ci0,ci0,ci0,ci0,ci0] 2 [(.int .i64 1)]) 3 [(.int .i64 n1)]) 4 [(.int .i64 a2)]).length=6 then some ([(.agg (splice (splice (splice [ci0,ci0,ci0,ci0,ci0,ci0] 2 [(.int .i64 1)]) 3 [(.int .i64 n1)]) 4 [(.int .i64 a2)])),(.c (.bool true))],h0) else none else none else if (n==4)=true then if 3+2<=l0.length then if 0=0/\l1.length=5 then c1 (C 108 [(.agg ((l0.drop 3).take 2)),(.agg l1)] h0) fun y h=>Zk .i64 y fun n=>if (n==a2)=true then Ze l0 2 fun q=>Zk .i64 (.c q) fun n=>if 6+2<=l0.length then if 0=0/\l1.length=5 then c1 (qh h (C 108 [(.agg ((l0.drop 6).take 2)),(.agg l1)] h)) fun y h1=>Zk .i64 y fun n1=>if 0=0/\[ci0,ci0,ci0,ci0,ci0,ci0].length=6/\(splice (splice (splice (splice [ci0,ci0,ci0,ci0,ci0,ci0] 2 [(.int .i64 4)]) 3 [(.int .i64 n)]) 4 [(.int .i64 a2)]) 5 [(.int .i64 n1)]).length=6 then if 0=0/\(splice (splice (splice (splice [ci0,ci0,ci0,ci0,ci0,ci0] 2 [(.int .i64 4)]) 3 [(.int .i64 n)]) 4 [(.int .i64 a2)]) 5 [(.int .i64 n1)]).length=6 then some ([(.agg (splice (splice (splice (splice [ci0,ci0,ci0,ci0,ci0,ci0] 2 [(.int .i64 4)]) 3 [(.int .i64 n)]) 4 [(.int .i64 a2)]) 5 [(.int .i64 n1)])),(.c (.bool true))],h) else none else none else none else none else Ze l0 2 fun q=>Zk .i64 (.c q) fun n=>if 0=0/\[ci0,ci0,ci0,ci0,ci0,ci0].length=6/\(splice (splice (splice [ci0,ci0,ci0,ci0,ci0,ci0] 2 [(.int .i64 5)]) 3 [(.int .i64 n)]) 4 [(.int .i64 a2)]).length=6 then if 0=0/\(splice (splice (splice [ci0,ci0,ci0,ci0,ci0,ci0] 2 [(.int .i64 5)]) 3 [(.int .i64 n)]) 4 [(.int .i64 a2)]).length=6 then some ([(.agg (splice (splice (splice [ci0,ci0,ci0,ci0,ci0,ci0] 2 [(.int .i64 5)]) 3 [(.int .i64 n)]) 4 [(.int .i64 a2)])),(.c (.bool true))],h) else none else none else none else none else if 0=0/\[ci0,ci0,ci0,ci0,ci0,ci0].length=6/\(splice [ci0,ci0,ci0,ci0,ci0,ci0] 2 [(.int .i64 3)]).length=6 then if 0=0/\(splice [ci0,ci0,ci0,ci0,ci0,ci0] 2 [(.int .i64 3)]).length=6 then some ([(.agg (splice [ci0,ci0,ci0,ci0,ci0,ci0] 2 [(.int .i64 3)])),(.c (.bool false))],h0) else none else none:=by kernel_rfl
end
structure Evt where
 t:Int
 i:Int
 kind:Int
 loc:Int
 r:Int
 w:Int
 deriving DecidableEq
def Evt.cs (e:Evt):List Cell:=[.int .i64 e.t,.int .i64 e.i,.int .i64 e.kind,.int .i64 e.loc,.int .i64 e.r,.int .i64 e.w]
def Zif (l:List Evt):List Cell:=l.flatMap Evt.cs
theorem Evt.len (e:Evt):e.cs.length=6:=rfl
theorem Zzk:∀(l:List Evt) (i:Nat) (s:Evt),l[i]? = some s->((Zif l).drop (i*6)).take 6=s.cs
 | [],_,_,h=>by simp at h
 | q :: l,0,s,h=>by simp at h;subst h;rfl
 | q :: l,i+1,s,h=>by
  have:=Zzk l i s (by simpa using h)
  have e:Zif (q :: l)=q.cs++Zif l:=rfl
  rw [e,Yr,Yj (by rw [Evt.len];omega),Yn,show (i+1)*6 - q.cs.length=i*6 by rw [Evt.len];omega]
  exact this
theorem evsC_snoc (l:List Evt) (s:Evt):Zif (l++[s])=Zif l++s.cs:=by simp [Zif]
theorem SlAt.evG {h:Za} {x:Cell} {l:List Evt} (s:SlAt h x 6 (Zif l) l.length) {i:Nat} {q:Evt} (hq:l[i]? = some q) :
  ∃off cs',(∀{α:Type} (G:Nat->List Cell->Option α),(Zl 6 x (i:Int) fun k N o=>Zp h k N fun l=>G o l)=G off cs')/\off+6<=cs'.length/\(cs'.drop off).take 6=q.cs:=by
 obtain ⟨off,cs',h1,h2,h3⟩:=s.elG (Zf hq)
 exact ⟨off,cs',h1,h2,h3.trans (Zzk l i q hq)⟩
def evOf (i:Ins) (l:Lcl) (v:Int):Evt :=
 if i.kind=1 then ⟨0,0,2,i.loc,0,opV i.a l⟩
 else if i.kind=2 then ⟨0,0,1,i.loc,v,0⟩
 else if i.kind=4 then (if opV i.a l=v then ⟨0,0,4,i.loc,v,opV i.b l⟩ else ⟨0,0,5,i.loc,v,0⟩)
 else ⟨0,0,3,0,0,0⟩
def rdI (i:Ins):Bool:=decide (i.kind=2∨i.kind=4)
theorem Zws {code:List Ins}:∀(k:Nat) (l:Lcl),l.pc<=(nrm code k l).pc
 | 0,l=>by rw [nrm];omega
 | k+1,l=>by
  rw [nrm]
  cases hs:Zdn code l with
  | none=>show l.pc<=l.pc;omega
  | some l' =>
   have h1:=Zii hs
   have h2:=Zws (code:=code) k l'
   show l.pc<=(nrm code k l').pc
   omega
theorem Zq726 {code:List Ins} {l:Lcl} {i:Ins} (h:Zbg code l=some i) (v:Int):l.pc+1<=(Zbi code l v).pc:=by
 unfold Zbi
 rw [h]
 exact Zws _ _
theorem Zko {i:Ins} (h:rdI i=false) (l:Lcl) (v w:Int):evOf i l v=evOf i l w:=by
 unfold rdI at h
 rw [decide_eq_false_iff_not] at h
 unfold evOf
 split
 ·rfl
 ·rw [if_neg (by omega),if_neg (by omega),if_neg (by omega),if_neg (by omega)]
theorem Zhu {code:List Ins} {l:Lcl} {i:Ins} (hn:Zbg code l=some i) (h:rdI i=false) (v w:Int):Zbi code l v=Zbi code l w:=by
 unfold rdI at h
 rw [decide_eq_false_iff_not] at h
 unfold Zbi
 rw [hn]
 dsimp only
 rw [if_neg h,if_neg h]
section
variable {E:Env}
theorem Zq707 (hE:q109_In E) (i:Ins) (l:Lcl) (v:Int) (h:Za):R E 109 [.agg i.cs,.agg l.cs,.c (.int .i64 v)] h=some ([.agg (evOf i l v).cs,.c (.bool (rdI i))],h):=by
 refine Zd hE.fn ?_
 have n3:(3+2<=i.cs.length):=by rw [Ins.len];omega
 have n6:(6+2<=i.cs.length):=by rw [Ins.len];omega
 unfold evOf rdI
 rw [q109_eq,ins_kind,asI_ok]
 by_cases k1:i.kind=1
 ·rw [if_pos (by rw [k1];rfl),if_pos k1,ins_loc,asI_ok,if_pos n3,if_pos ⟨rfl,rfl⟩,ins_a,Zkw hE.c108,qh_ok,c1_ok,asI_ok,if_pos ⟨rfl,rfl,rfl⟩,if_pos ⟨rfl,rfl⟩,show decide (i.kind=2∨i.kind=4)=false from decide_eq_false (by omega)]
  rfl
 ·rw [if_neg (by rw [beq_iff_eq];exact k1),if_neg k1]
  by_cases k2:i.kind=2
  ·rw [if_pos (by rw [k2];rfl),if_pos k2,ins_loc,asI_ok,if_pos ⟨rfl,rfl,rfl⟩,if_pos ⟨rfl,rfl⟩,show decide (i.kind=2∨i.kind=4)=true from decide_eq_true (by omega)]
   rfl
  ·rw [if_neg (by rw [beq_iff_eq];exact k2),if_neg k2]
   by_cases k4:i.kind=4
   ·rw [if_pos (by rw [k4];rfl),if_pos k4,if_pos n3,if_pos ⟨rfl,rfl⟩,ins_a,Zkw hE.c108,c1_ok,asI_ok,show decide (i.kind=2∨i.kind=4)=true from decide_eq_true (by omega)]
    by_cases hv:opV i.a l=v
    ·rw [if_pos (by rw [hv];exact beq_self_eq_true _),if_pos hv,ins_loc,asI_ok,if_pos n6,if_pos ⟨rfl,rfl⟩,ins_b,Zkw hE.c108,qh_ok,c1_ok,asI_ok,if_pos ⟨rfl,rfl,rfl⟩,if_pos ⟨rfl,rfl⟩]
     rfl
    ·rw [if_neg (by rw [beq_iff_eq];exact hv),if_neg hv,ins_loc,asI_ok,if_pos ⟨rfl,rfl,rfl⟩,if_pos ⟨rfl,rfl⟩]
     rfl
   ·rw [if_neg (by rw [beq_iff_eq];exact k4),if_neg k4,if_pos ⟨rfl,rfl,rfl⟩,if_pos ⟨rfl,rfl⟩,show decide (i.kind=2∨i.kind=4)=false from decide_eq_false (by omega)]
    rfl
theorem evOf_ref (hE:q111_In E) (i:Ins) (l:Lcl) (v:Int) (h:Za):R E 111 [.agg i.cs,.agg l.cs,.c (.int .i64 v)] h=some ([.agg (evOf i l v).cs],h):=by
 refine Zd hE.fn ?_
 have n3:(3+2<=i.cs.length):=by rw [Ins.len];omega
 have n6:(6+2<=i.cs.length):=by rw [Ins.len];omega
 unfold evOf
 rw [q111_eq,ins_kind,asI_ok]
 by_cases k1:i.kind=1
 ·rw [if_pos (by rw [k1];rfl),if_pos k1,ins_loc,asI_ok,if_pos n3,if_pos ⟨rfl,rfl⟩,ins_a,Zdw hE.c92,qh_ok,c1_ok,asI_ok,if_pos ⟨rfl,rfl,rfl⟩,if_pos ⟨rfl,rfl⟩]
  rfl
 ·rw [if_neg (by rw [beq_iff_eq];exact k1),if_neg k1]
  by_cases k2:i.kind=2
  ·rw [if_pos (by rw [k2];rfl),if_pos k2,ins_loc,asI_ok,if_pos ⟨rfl,rfl,rfl⟩,if_pos ⟨rfl,rfl⟩]
   rfl
  ·rw [if_neg (by rw [beq_iff_eq];exact k2),if_neg k2]
   by_cases k4:i.kind=4
   ·rw [if_pos (by rw [k4];rfl),if_pos k4,if_pos n3,if_pos ⟨rfl,rfl⟩,ins_a,Zdw hE.c92,c1_ok,asI_ok]
    by_cases hv:opV i.a l=v
    ·rw [if_pos (by rw [hv];exact beq_self_eq_true _),if_pos hv,ins_loc,asI_ok,if_pos n6,if_pos ⟨rfl,rfl⟩,ins_b,Zdw hE.c92,qh_ok,c1_ok,asI_ok,if_pos ⟨rfl,rfl,rfl⟩,if_pos ⟨rfl,rfl⟩]
     rfl
    ·rw [if_neg (by rw [beq_iff_eq];exact fun e=>hv e.symm),if_neg hv,ins_loc,asI_ok,if_pos ⟨rfl,rfl,rfl⟩,if_pos ⟨rfl,rfl⟩]
     rfl
   ·rw [if_neg (by rw [beq_iff_eq];exact k4),if_neg k4,if_pos ⟨rfl,rfl,rfl⟩,if_pos ⟨rfl,rfl⟩]
    rfl
def PProg.small (P:PProg):Prop:=P.thr.length<=1000/\∀code∈P.thr,code.length<=1000
theorem PProg.small.fits {P:PProg} (h:P.small):P.fits:=⟨by have:=h.1;omega,fun c hc=>by have:=h.2 c hc;omega⟩
theorem Zub (e:Evt):e.cs.length=1*6:=rfl
theorem ev_splice {e:Evt}:splice [ci0,ci0,ci0,ci0,ci0,ci0] 0 e.cs=e.cs:=rfl
end



section
variable (C:Zab) (L:Zbv) (G:Glo)
variable {h h0:Za}
variable {x0 x1 x2 x7 x9 x11:Cell}
variable {a1 a4 a6 a7 a8 a10 a11 a12 a13:Int}
variable {l1 s0:List Cell}
theorem q119_eq:q119.body C L G [(.c x0)] h0=Zcu false x0 .nils fun b=>if b=true then some ([(.c .nils)],h0) else if ([]:List Cell).length=0*9 then (Zaq (h0++[some (Blk.mk true 9 [])]) 9 x0).bind fun l=>Zao 9 72 (.sl h0.length (([]:List Cell).length) 0 0) l (h0++[some (Blk.mk true 9 [])]) fun x h=>some ([(.c x)],h) else none:=by kernel_rfl
theorem q155_eq:q155.body C L G [(.c x0),(.c x1)] h0=c1 (C 156 [(.c x0),(.c x1)] h0) fun y h=>Zk .i64 y fun n=>some ([(.c (.bool (decide (n>=0))))],h):=by kernel_rfl
def q156_k2 (h0:Za):Ex->St->Rs:=Zac (fun st=>q156_p1.exec C L G st (q156.fin G h0)) (q156.fin G h0)
def q156_k3 (h0:Za):Ex->St->Rs:=Zag 0 (q156_k2 C L G h0)
def q156_s1 (x0 x1:Cell) (a7 a8:Int) (h:Za):St:=⟨.v (.c x0) :: .v (.c x1) :: tops 5 (.v (.c (.int .i64 a7)) :: .v (.c (.int .i64 a8)) :: tops 10 []),[],h⟩
def q156_F1 :St->Option (Ex × St):=Zt (q156_b1.exec C L G) [0,1,7,8] [] [(0,[4],[]),(1,[],[])]
def q156_x1_0 (a4:Int) (h:Za):St:=⟨tops 4 (.v (.c (.int .i64 a4)) :: tops 14 []),[],h⟩
def q156_x1_1 (h:Za):St:=⟨tops 19 [],[],h⟩
theorem q156_r1:q156_F1 C L G (q156_s1 x0 x1 a7 a8 h)=if (decide (a8<a7))=true then Zl 9 x0 a8 fun k N o=>Zp h k N fun l=>if o+9<=l.length then fnK x1 fun g l1=>c1 (C g ([(.agg ((l.drop o).take 9))]++l1) h) fun y h1=>asB y fun b=>if b=true then some (.ret,(q156_x1_0 a8 h1)) else some (.normal,(q156_s1 x0 x1 a7 (G.wrap .i64 (a8+1)) h1)) else none else some ((.exit 0),(q156_x1_1 h)):=by kernel_rfl
theorem q156_e1_0:(q156_k3 C L G h0) .ret (q156_x1_0 a4 h)=some ([(.c (.int .i64 a4))],h):=by kernel_rfl
theorem q156_e1_1:(q156_k3 C L G h0) (.exit 0) (q156_x1_1 h)=some ([(.c (.int .i64 (-1)))],h):=by kernel_rfl
theorem q156_eq:q156.body C L G [(.c x0),(.c x1)] h0=Zz x0 fun n=>(L (q156_F1 C L G) (q156_s1 x0 x1 n 0 h0)).bind fun p=>(q156_k3 C L G h0) p.1 p.2:=by kernel_rfl
theorem q195_eq:q195.body C L G [(.c x0)] h0=Zcu false x0 .nils fun b=>if b=true then some ([(.c .nils)],h0) else if ([]:List Cell).length=0*7 then (Zaq (h0++[some (Blk.mk true 7 [])]) 7 x0).bind fun l=>Zao 7 56 (.sl h0.length (([]:List Cell).length) 0 0) l (h0++[some (Blk.mk true 7 [])]) fun x h=>some ([(.c x)],h) else none:=by kernel_rfl
theorem q202_eq:q202.body C L G [(.c x0)] h0=Zcu false x0 .nils fun b=>if b=true then some ([(.c .nils)],h0) else if ([]:List Cell).length=0*1 then (Zaq (h0++[some (Blk.mk true 1 [])]) 1 x0).bind fun l=>Zao 1 1 (.sl h0.length (([]:List Cell).length) 0 0) l (h0++[some (Blk.mk true 1 [])]) fun x h=>some ([(.c x)],h) else none:=by kernel_rfl
theorem q203_eq:q203.body C L G [(.c x0)] h0=Zcu false x0 .nils fun b=>if b=true then some ([(.c .nils)],h0) else if ([]:List Cell).length=0*1 then (Zaq (h0++[some (Blk.mk true 1 [])]) 1 x0).bind fun l=>Zao 1 8 (.sl h0.length (([]:List Cell).length) 0 0) l (h0++[some (Blk.mk true 1 [])]) fun x h=>some ([(.c x)],h) else none:=by kernel_rfl
theorem q275_eq:q275.body C L G [(.c x0),(.agg l1)] h0=if 0=0/\l1.length=2 then c1 (C 284 [(.c x0),(.agg l1)] h0) fun y h=>Zk .i64 y fun n=>some ([(.c (.bool (decide (n>=0))))],h) else none:=by kernel_rfl
def q276_k2 (h0:Za):Ex->St->Rs:=Zac (fun st=>q276_p1.exec C L G st (q276.fin G h0)) (q276.fin G h0)
def q276_k3 (h0:Za):Ex->St->Rs:=Zag 0 (q276_k2 C L G h0)
def q276_s1 (x0 x1:Cell) (a12 a13:Int) (h:Za):St:=⟨.v (.c x0) :: .v (.c x1) :: tops 10 (.v (.c (.int .i64 a12)) :: .v (.c (.int .i64 a13)) :: tops 12 []),[],h⟩
def q276_F1 :St->Option (Ex × St):=Zt (q276_b1.exec C L G) [0,1,12,13] [] [(0,[4],[]),(1,[],[])]
def q276_x1_0 (b4:Bool) (h:Za):St:=⟨tops 4 (.v (.c (.bool b4)) :: tops 21 []),[],h⟩
def q276_x1_1 (h:Za):St:=⟨tops 26 [],[],h⟩
theorem q276_r1:q276_F1 C L G (q276_s1 x0 x1 a12 a13 h)=if (decide (a13<a12))=true then Zl 7 x0 a13 fun k N o=>Zp h k N fun l=>if o+7<=l.length then Zl 7 x1 a13 fun k N o1=>Zp h k N fun l1=>if o1+7<=l1.length then if alike ((l.drop o).take 7) (Ya 7 ci0)=true/\alike ((l1.drop o1).take 7) (Ya 7 ci0)=true then if (!(decide (((l.drop o).take 7)=((l1.drop o1).take 7))))=true then some (.ret,(q276_x1_0 false h)) else some (.normal,(q276_s1 x0 x1 a12 (G.wrap .i64 (a13+1)) h)) else none else none else none else some ((.exit 0),(q276_x1_1 h)):=by kernel_rfl
theorem q276_e1_1:(q276_k3 C L G h0) (.exit 0) (q276_x1_1 h)=some ([(.c (.bool true))],h):=by kernel_rfl
theorem q276_eq:q276.body C L G [(.c x0),(.c x1)] h0=Zz x0 fun n=>Zz x1 fun n1=>if (n != n1)=true then some ([(.c (.bool false))],h0) else Zz x0 fun n=>(L (q276_F1 C L G) (q276_s1 x0 x1 n 0 h0)).bind fun p=>(q276_k3 C L G h0) p.1 p.2:=by kernel_rfl
def q283_k2 (h0:Za):Ex->St->Rs:=Zac (fun st=>q283_p1.exec C L G st (q283.fin G h0)) (q283.fin G h0)
def q283_k3 (h0:Za):Ex->St->Rs:=Zag 0 (q283_k2 C L G h0)
def q283_s1 (x0 x1:Cell) (a7 a8:Int) (h:Za):St:=⟨.v (.c x0) :: .v (.c x1) :: tops 5 (.v (.c (.int .i64 a7)) :: .v (.c (.int .i64 a8)) :: tops 10 []),[],h⟩
def q283_F1 :St->Option (Ex × St):=Zt (q283_b1.exec C L G) [0,1,7,8] [] [(0,[4],[]),(1,[],[])]
def q283_x1_0 (a4:Int) (h:Za):St:=⟨tops 4 (.v (.c (.int .i64 a4)) :: tops 14 []),[],h⟩
def q283_x1_1 (h:Za):St:=⟨tops 19 [],[],h⟩
theorem q283_r1:q283_F1 C L G (q283_s1 x0 x1 a7 a8 h)=if (decide (a8<a7))=true then Zl 7 x0 a8 fun k N o=>Zp h k N fun l=>if o+7<=l.length then fnK x1 fun g l1=>c1 (C g ([(.agg ((l.drop o).take 7))]++l1) h) fun y h1=>asB y fun b=>if b=true then some (.ret,(q283_x1_0 a8 h1)) else some (.normal,(q283_s1 x0 x1 a7 (G.wrap .i64 (a8+1)) h1)) else none else some ((.exit 0),(q283_x1_1 h)):=by kernel_rfl
theorem q283_e1_0:(q283_k3 C L G h0) .ret (q283_x1_0 a4 h)=some ([(.c (.int .i64 a4))],h):=by kernel_rfl
theorem q283_e1_1:(q283_k3 C L G h0) (.exit 0) (q283_x1_1 h)=some ([(.c (.int .i64 (-1)))],h):=by kernel_rfl
theorem q283_eq:q283.body C L G [(.c x0),(.c x1)] h0=Zz x0 fun n=>(L (q283_F1 C L G) (q283_s1 x0 x1 n 0 h0)).bind fun p=>(q283_k3 C L G h0) p.1 p.2:=by kernel_rfl
def q284_k2 (h0:Za):Ex->St->Rs:=Zac (fun st=>q284_p1.exec C L G st (q284.fin G h0)) (q284.fin G h0)
def q284_k3 (h0:Za):Ex->St->Rs:=Zag 0 (q284_k2 C L G h0)
def q284_s1 (x0:Cell) (a7 a8:Int) (s0:List Cell) (h:Za):St:=⟨.v (.c x0) :: tops 2 (.loc 0 0 :: tops 3 (.v (.c (.int .i64 a7)) :: .v (.c (.int .i64 a8)) :: tops 10 [])),[some s0],h⟩
def q284_F1 :St->Option (Ex × St):=Zt (q284_b1.exec C L G) [0,3,7,8] [0] [(0,[4],[]),(1,[],[])]
def q284_x1_0 (a4:Int) (h:Za):St:=⟨tops 4 (.v (.c (.int .i64 a4)) :: tops 14 []),[none],h⟩
def q284_x1_1 (h:Za):St:=⟨tops 19 [],[none],h⟩
theorem q284_r1:q284_F1 C L G (q284_s1 x0 a7 a8 s0 h)=if (decide (a8<a7))=true then if 0=0/\s0.length=2 then Zl 2 x0 a8 fun k N o=>Zp h k N fun l=>if o+2<=l.length then if alike s0 ([ci0,ci0])=true/\alike ((l.drop o).take 2) ([ci0,ci0])=true then if (decide (s0=((l.drop o).take 2)))=true then some (.ret,(q284_x1_0 a8 h)) else some (.normal,(q284_s1 x0 a7 (G.wrap .i64 (a8+1)) s0 h)) else none else none else none else some ((.exit 0),(q284_x1_1 h)):=by kernel_rfl
theorem q284_e1_0:(q284_k3 C L G h0) .ret (q284_x1_0 a4 h)=some ([(.c (.int .i64 a4))],h):=by kernel_rfl
theorem q284_eq:q284.body C L G [(.c x0),(.agg l1)] h0=Zz x0 fun n=>(L (q284_F1 C L G) (q284_s1 x0 n 0 l1 h0)).bind fun p=>(q284_k3 C L G h0) p.1 p.2:=by kernel_rfl
def q340_k2 (h0:Za):Ex->St->Rs:=Zac (fun st=>q340_p1.exec C L G st (q340.fin G h0)) (q340.fin G h0)
def q340_c1 (x0:Cell) (a1:Int) (h:Za):St:=⟨.v (.c x0) :: .v (.c (.int .i64 a1)) :: tops 46 [],[],h⟩
def q340_k3 (h0:Za):Ex->St->Rs:=Zac (fun st=>q340_p2.exec C L G st (q340.fin G h0)) (q340.fin G h0)
def q340_k4 (h0:Za):Ex->St->Rs:=Zag 0 (q340_k3 C L G h0)
def q340_s1 (x7:Cell) (a8:Int) (h:Za):St:=⟨tops 7 (.v (.c x7) :: .v (.c (.int .i64 a8)) :: tops 39 []),[],h⟩
def q340_F1 :St->Option (Ex × St):=Zt (q340_b1.exec C L G) [7,8] [] [(1,[7],[])]
def q340_x1_1 (x7:Cell) (h:Za):St:=⟨tops 7 (.v (.c x7) :: tops 40 []),[],h⟩
theorem q340_r1:q340_F1 C L G (q340_s1 x7 a8 h)=Zz x7 fun n=>if (decide (a8<n))=true then Zcm h 1 true false x7 [.v (.c (.int .i64 a8))] fun x=>Zcm h 1 false true x7 [.v (.c (.int .i64 a8))] fun x1=>Zgf 1 x x1 h fun n h1=>some (.normal,(q340_s1 x7 (G.wrap .i64 (a8+n)) h1)) else some ((.exit 0),(q340_x1_1 x7 h)):=by kernel_rfl
theorem q340_e1_1:(q340_k4 C L G h0) (.exit 0) (q340_x1_1 x7 h)=some ([(.c x7)],h):=by kernel_rfl
theorem q340_ec1_n:(q340_k2 C L G h0) .normal (q340_c1 x0 a1 h)=Zz x0 fun n=>c2 (C 369 [(.c (.int .u64 (G.wrap .u64 n))),(.c (.int .u64 (G.wrap .u64 a1)))] h) fun y y1 h=>Zk .u64 y fun n=>Zk .u64 y1 fun n1=>scK (decide (n > 0)) false (some ((decide (n1 > 9223372036854775807)),h)) true h fun b h=>if b=true then none else if 0<=(G.wrap .i64 n1)/\(G.wrap .i64 n1)<=(G.wrap .i64 n1)/\(Yc (G.wrap .i64 n1))*8<=maxBytes/\(G.wrap .i64 n1)<=(maxBytes:Nat) then Zgf 1 (.sl h.length ((rep (Yc (G.wrap .i64 n1)) ([ci0])).length) 0 (Yc (G.wrap .i64 n1))) x0 (h++[some (Blk.mk true 1 (rep (Yc (G.wrap .i64 n1)) ([ci0])))]) fun n h1=>(L (q340_F1 C L G) (q340_s1 (.sl h.length ((rep (Yc (G.wrap .i64 n1)) ([ci0])).length) 0 (Yc (G.wrap .i64 n1))) n h1)).bind fun p=>(q340_k4 C L G h0) p.1 p.2 else none:=by kernel_rfl
theorem q340_eq:q340.body C L G [(.c x0),(.c (.int .i64 a1))] h0=(if (decide (a1<0))=true then none else some (.normal,(q340_c1 x0 a1 h0)):Option (Ex × St)).bind fun p=>(q340_k2 C L G h0) p.1 p.2:=by kernel_rfl
def q342_k2 (h0:Za):Ex->St->Rs:=Zac (fun st=>q342_p1.exec C L G st (q342.fin G h0)) (q342.fin G h0)
def q342_k3 (h0:Za):Ex->St->Rs:=Zag 0 (q342_k2 C L G h0)
def q342_s1 (x0 x1:Cell) (x2 x11:Cell) (a12 a13:Int) (h:Za):St:=⟨.v (.c x0) :: .v (.c x1) :: .v (.c x2) :: tops 8 (.v (.c x11) :: .v (.c (.int .i64 a12)) :: .v (.c (.int .i64 a13)) :: tops 25 []),[none,none],h⟩
def q342_F1 :St->Option (Ex × St):=Zt (q342_b1.exec C L G) [0,1,2,11,12,13] [] [(0,[6],[]),(1,[0,1],[])]
def q342_x1_0 (a6:Int) (h:Za):St:=⟨tops 6 (.v (.c (.int .i64 a6)) :: tops 32 []),[none,none],h⟩
def q342_x1_1 (x0 x1:Cell) (h:Za):St:=⟨.v (.c x0) :: .v (.c x1) :: tops 37 [],[none,none],h⟩
theorem q342_r1:q342_F1 C L G (q342_s1 x0 x1 x2 x11 a12 a13 h)=if (decide (a13<a12))=true then Zl 6 x11 a13 fun k N o=>Zp h k N fun l=>if o+6<=l.length then if 0=0/\[ci0,ci0,ci0,ci0,ci0,ci0].length=6/\((l.drop o).take 6).length=6 then Zz x1 fun n=>if (decide (a13>=n))=true then some (.ret,(q342_x1_0 1 h)) else Zl 6 x1 a13 fun k N o1=>Zp h k N fun l1=>if o1+6<=l1.length then if 0=0/\[ci0,ci0,ci0,ci0,ci0,ci0].length=6/\((l1.drop o1).take 6).length=6 then if 0=0/\((l.drop o).take 6).length=6 then if 0=0/\((l1.drop o1).take 6).length=6 then fnK x2 fun g l2=>c1 (C g ([(.agg ((l.drop o).take 6)),(.agg ((l1.drop o1).take 6))]++l2) h) fun y h1=>Zk .i64 y fun n=>if (n != 0)=true then some (.ret,(q342_x1_0 n h1)) else some (.normal,(q342_s1 x0 x1 x2 x11 a12 (G.wrap .i64 (a13+1)) h1)) else none else none else none else none else none else none else some ((.exit 0),(q342_x1_1 x0 x1 h)):=by kernel_rfl
theorem q342_e1_0:(q342_k3 C L G h0) .ret (q342_x1_0 a6 h)=some ([(.c (.int .i64 a6))],h):=by kernel_rfl
theorem q342_e1_1:(q342_k3 C L G h0) (.exit 0) (q342_x1_1 x0 x1 h)=Zz x0 fun n=>Zz x1 fun n1=>if (decide (n<n1))=true then some ([(.c (.int .i64 (-1)))],h) else some ([(.c (.int .i64 0))],h):=by kernel_rfl
theorem q342_eq:q342.body C L G [(.c x0),(.c x1),(.c x2)] h0=Zz x0 fun n=>(L (q342_F1 C L G) (q342_s1 x0 x1 x2 x0 n 0 h0)).bind fun p=>(q342_k3 C L G h0) p.1 p.2:=by kernel_rfl
def q343_k2 (h0:Za):Ex->St->Rs:=Zac (fun st=>q343_p1.exec C L G st (q343.fin G h0)) (q343.fin G h0)
def q343_k3 (h0:Za):Ex->St->Rs:=Zag 0 (q343_k2 C L G h0)
def q343_s1 (x0 x1 x9:Cell) (a10 a11:Int) (h:Za):St:=⟨.v (.c x0) :: .v (.c x1) :: tops 7 (.v (.c x9) :: .v (.c (.int .i64 a10)) :: .v (.c (.int .i64 a11)) :: tops 24 []),[],h⟩
def q343_F1 :St->Option (Ex × St):=Zt (q343_b1.exec C L G) [0,1,9,10,11] [] [(0,[4],[]),(1,[0,1],[])]
def q343_x1_0 (a4:Int) (h:Za):St:=⟨tops 4 (.v (.c (.int .i64 a4)) :: tops 31 []),[],h⟩
def q343_x1_1 (x0 x1:Cell) (h:Za):St:=⟨.v (.c x0) :: .v (.c x1) :: tops 34 [],[],h⟩
theorem q343_r1:q343_F1 C L G (q343_s1 x0 x1 x9 a10 a11 h)=if (decide (a11<a10))=true then Zl 1 x9 a11 fun k N o=>Zp h k N fun l=>Ze l o fun q=>Zk .i64 (.c q) fun n=>Zz x1 fun n1=>if (decide (a11>=n1))=true then some (.ret,(q343_x1_0 1 h)) else Zl 1 x1 a11 fun k N o=>Zp h k N fun l=>Ze l o fun q=>Zk .i64 (.c q) fun n1=>c1 (C 370 [(.c (.int .i64 n)),(.c (.int .i64 n1))] h) fun y h1=>Zk .i64 y fun n=>if (n != 0)=true then some (.ret,(q343_x1_0 n h1)) else some (.normal,(q343_s1 x0 x1 x9 a10 (G.wrap .i64 (a11+1)) h1)) else some ((.exit 0),(q343_x1_1 x0 x1 h)):=by kernel_rfl
theorem q343_e1_0:(q343_k3 C L G h0) .ret (q343_x1_0 a4 h)=some ([(.c (.int .i64 a4))],h):=by kernel_rfl
theorem q343_e1_1:(q343_k3 C L G h0) (.exit 0) (q343_x1_1 x0 x1 h)=Zz x0 fun n=>Zz x1 fun n1=>if (decide (n<n1))=true then some ([(.c (.int .i64 (-1)))],h) else some ([(.c (.int .i64 0))],h):=by kernel_rfl
theorem q343_eq:q343.body C L G [(.c x0),(.c x1)] h0=Zz x0 fun n=>(L (q343_F1 C L G) (q343_s1 x0 x1 x0 n 0 h0)).bind fun p=>(q343_k3 C L G h0) p.1 p.2:=by kernel_rfl
def q344_k2 (h0:Za):Ex->St->Rs:=Zac (fun st=>q344_p1.exec C L G st (q344.fin G h0)) (q344.fin G h0)
def q344_k3 (h0:Za):Ex->St->Rs:=Zag 0 (q344_k2 C L G h0)
def q344_s1 (x0 x1:Cell) (x2 x11:Cell) (a12 a13:Int) (h:Za):St:=⟨.v (.c x0) :: .v (.c x1) :: .v (.c x2) :: tops 8 (.v (.c x11) :: .v (.c (.int .i64 a12)) :: .v (.c (.int .i64 a13)) :: tops 25 []),[],h⟩
def q344_F1 :St->Option (Ex × St):=Zt (q344_b1.exec C L G) [0,1,2,11,12,13] [] [(0,[6],[]),(1,[0,1],[])]
def q344_x1_0 (a6:Int) (h:Za):St:=⟨tops 6 (.v (.c (.int .i64 a6)) :: tops 32 []),[],h⟩
def q344_x1_1 (x0 x1:Cell) (h:Za):St:=⟨.v (.c x0) :: .v (.c x1) :: tops 37 [],[],h⟩
theorem q344_r1:q344_F1 C L G (q344_s1 x0 x1 x2 x11 a12 a13 h)=if (decide (a13<a12))=true then Zl 1 x11 a13 fun k N o=>Zp h k N fun l=>Ze l o fun q=>Zz x1 fun n=>if (decide (a13>=n))=true then some (.ret,(q344_x1_0 1 h)) else Zl 1 x1 a13 fun k N o=>Zp h k N fun l=>Ze l o fun q1=>fnK x2 fun g l=>c1 (C g ([(.c q),(.c q1)]++l) h) fun y h1=>Zk .i64 y fun n=>if (n != 0)=true then some (.ret,(q344_x1_0 n h1)) else some (.normal,(q344_s1 x0 x1 x2 x11 a12 (G.wrap .i64 (a13+1)) h1)) else some ((.exit 0),(q344_x1_1 x0 x1 h)):=by kernel_rfl
theorem q344_e1_0:(q344_k3 C L G h0) .ret (q344_x1_0 a6 h)=some ([(.c (.int .i64 a6))],h):=by kernel_rfl
theorem q344_e1_1:(q344_k3 C L G h0) (.exit 0) (q344_x1_1 x0 x1 h)=Zz x0 fun n=>Zz x1 fun n1=>if (decide (n<n1))=true then some ([(.c (.int .i64 (-1)))],h) else some ([(.c (.int .i64 0))],h):=by kernel_rfl
theorem q344_eq:q344.body C L G [(.c x0),(.c x1),(.c x2)] h0=Zz x0 fun n=>(L (q344_F1 C L G) (q344_s1 x0 x1 x2 x0 n 0 h0)).bind fun p=>(q344_k3 C L G h0) p.1 p.2:=by kernel_rfl
end
def Zgk (l:List Int):List Evt:=(Yy l.length).map fun (i:Nat)=>⟨-1,i,2,i,0,l.getD i 0⟩
theorem Zka (l:List Int):(Zgk l).length=l.length:=by simp [Zgk]
theorem Zxj {l:List Int} {i:Nat} (hi:i<l.length):(Zgk l)[i]? = some ⟨-1,i,2,i,0,l.getD i 0⟩:=by
 unfold Zgk;rw [Yw,List.getElem?_range hi];rfl
theorem getDI {l:List Int} {i:Nat} (hi:i<l.length):l[i]? = some (l.getD i 0):=by
 rw [Yh,Yd hi];rfl
theorem Zal {α:Type} {l:List α} {i:Nat} {p:α} (h:l[i]? = some p):l.take (i+1)=l.take i++[p]:=by
 rw [List.take_add_one,h];rfl
section
variable {E:Env}
theorem ProgAt.initG {h:Za} {cs:List Cell} {P:PProg} (p:ProgAt h cs P):∃b,SlAt h b 1 (intC .i64 P.init) P.init.length/\Low h.length b/\∀{α:Type} (f:Cell->Option α),Ze cs 1 f=f b:=by
 obtain ⟨a,b,c,ts,rfl,_,⟨hb,hbl⟩,_⟩:=p
 exact ⟨b,hb,hbl,fun _=>rfl⟩
theorem ev_init {i v:Int}:splice (splice (splice (splice (splice [ci0,ci0,ci0,ci0,ci0,ci0] 0 [(.int .i64 (-1))]) 1 [(.int .i64 i)]) 2 [(.int .i64 2)]) 3 [(.int .i64 i)]) 5 [(.int .i64 v)]=(Evt.mk (-1) i 2 i 0 v).cs:=rfl
theorem Inits_R (hE:q88_In E) {cs:List Cell} {P:PProg} {h:Za} (p:ProgAt h cs P) (hl:P.init.length<=1000) :
  ∃y h',R E 88 [.agg cs] h=some ([.c y],h')/\Own h.length h' y 6 (Zif (Zgk P.init)) P.init.length/\Kp h.length h h':=by
 obtain ⟨b,hb,hbl,hB⟩:=p.initG
 have hm:maxBytes>=1001*48:=by unfold maxBytes;omega
 obtain ⟨st,⟨y,h1,rfl,hy,hk⟩,hL⟩:=Zcb (F:=q88_F1 (R E) Zq E.glob) (fun i st=>∃y h1,st=q88_s1 y b P.init.length (i:Int) h1/\Own h.length h1 y 6 (Zif ((Zgk P.init).take i)) i/\Kp h.length h h1) 0 P.init.length (by omega)
  (fun i st _ hi=>by
   rintro ⟨y,h1,rfl,hy,hk⟩
   obtain ⟨y2,h2,ha,hy2,hk2,_⟩:=hy.app (bytes:=48) (xs:=(Evt.mk (-1) i 2 i 0 (P.init.getD i 0)).cs) hk.1 rfl (by omega) (by omega) (by omega)
   refine ⟨_,?_,y2,h2,rfl,?_,hk.trans hk2⟩
   ·rw [q88_r1,if_pos (by simp;omega),(hb.keep hbl hk).get1 hi (Zar (getDI hi)),asI_ok,ev_init,if_pos ⟨rfl,by simp⟩,ev_splice,if_pos (Zub _),ha,Zo (by omega)]
   ·rw [Zal (Zxj hi),evsC_snoc];exact hy2) (st:=q88_s1 .nils b P.init.length ((0:Nat):Int) h) ⟨.nils,h,rfl,by rw [Yay];exact Own.nil _ _ _,Kp.refl _ _⟩
 have hfin:q88_F1 (R E) Zq E.glob (q88_s1 y b P.init.length (P.init.length:Int) h1)=some (.exit 0,q88_x1_1 y h1):=by
  rw [q88_r1,if_neg (by simp)]
 have hr:=hL _ (Zm hfin)
 refine ⟨y,h1,Zd hE.fn ?_,?_,hk⟩
 ·rw [q88_eq,hB,hb.len,show (0:Int)=((0:Nat):Int) from rfl,hr,bind_ok,q88_e1_1]
 ·rw [Yk (by rw [Zka];exact Yu _)] at hy;exact hy
theorem rdE_eq {k:Int} {e:Evt} (h:e.kind=k) {α:Type} {f:Cell->Option α}:Ze e.cs 2 f=f (.int .i64 k):=by subst h;rfl
def Zpw (e:Evt):Bool:=e.kind==2||e.kind==4
theorem Zwm (hE:q80_In E) (e:Evt) (h:Za):R E 80 [.agg e.cs] h=some ([.c (.bool (Zpw e))],h):=by
 refine Zd hE.fn ?_
 rw [q80_eq]
 simp only [rdE_eq (e:=e) rfl,asI_ok,scK_or];rfl
end
structure Atm where
 thread:Int
 reg:Int
 loc:Int
 value:Int
def Atm.cs (a:Atm):List Cell:=[.int .i64 a.thread,.int .i64 a.reg,.int .i64 a.loc,.int .i64 a.value]
def Zfm (l:List Atm):List Cell:=l.flatMap Atm.cs
theorem Atm.len (a:Atm):a.cs.length=4:=rfl
theorem Zzs:∀(l:List Atm) (i:Nat) (s:Atm),l[i]? = some s->((Zfm l).drop (i*4)).take 4=s.cs
 | [],_,_,h=>by simp at h
 | q :: l,0,s,h=>by simp at h;subst h;rfl
 | q :: l,i+1,s,h=>by
  have:=Zzs l i s (by simpa using h)
  have e:Zfm (q :: l)=q.cs++Zfm l:=rfl
  rw [e,Yr,Yj (by rw [Atm.len];omega),Yn,show (i+1)*4 - q.cs.length=i*4 by rw [Atm.len];omega]
  exact this
theorem Zq742 {l:List Atm} {i j:Nat} {s:Atm} {c:Cell} (h:l[i]? = some s) (hj:j<4) (hc:s.cs[j]? = some c):(Zfm l)[i*4+j]? = some c:=by
 rw [←hc,←Zzs l i s h,Yo,if_pos hj,Yl]
theorem Zxe {l:List Ins} {i j:Nat} {s:Ins} {c:Cell} (h:l[i]? = some s) (hj:j<9) (hc:s.cs[j]? = some c):(Zaf l)[i*9+j]? = some c:=by
 rw [←hc,←Zqb l i s h,Yo,if_pos hj,Yl]
structure PTest where
 name:ByteArray
 inits:List (Int × Int)
 thr:List (List Ins)
 ck:Int
 any:List (List Atm)
def RowsOf {α:Type} (esz:Nat) (C:List α->List Cell) (h:Za) (x:Cell) (rows:List (List α)):Prop :=
 ∃ts,SlAt h x 1 ts rows.length/\Low h.length x/\∀(t:Nat) (r:List α),rows[t]? = some r->∃y:Cell,ts[t]? = some y/\SlAt h y esz (C r) r.length/\Low h.length y
theorem RowsOf.keep {α:Type} {esz:Nat} {C:List α->List Cell} {h h':Za} {x:Cell} {rows:List (List α)} (r:RowsOf esz C h x rows) (hk:Kp h.length h h'):RowsOf esz C h' x rows:=by
 obtain ⟨ts,h1,h2,h3⟩:=r
 exact ⟨ts,h1.keep h2 hk,Zau hk.1 h2,fun t r hr=>by
  obtain ⟨y,y1,y2,y3⟩:=h3 t r hr
  exact ⟨y,y1,y2.keep y3 hk,Zau hk.1 y3⟩⟩
theorem RowsOf.get {α β:Type} {esz:Nat} {C:List α->List Cell} {h:Za} {x:Cell} {rows:List (List α)} (r:RowsOf esz C h x rows) {t:Nat} {row:List α} (ht:rows[t]? = some row) :
  ∃y,SlAt h y esz (C row) row.length/\Low h.length y/\∀(f:Cell->Option β),(Zl 1 x (t:Int) fun k N o=>Zp h k N fun l=>Ze l o f)=f y:=by
 obtain ⟨ts,h1,h2,h3⟩:=r
 obtain ⟨y,y1,y2,y3⟩:=h3 t row ht
 exact ⟨y,y2,y3,fun f=>h1.get1 (Zf ht) y1⟩
theorem RowsOf.len {α β:Type} {esz:Nat} {C:List α->List Cell} {h:Za} {x:Cell} {rows:List (List α)} (r:RowsOf esz C h x rows) {f:Int->Option β}:Zz x f=f rows.length:=by
 obtain ⟨ts,h1,_⟩:=r;exact h1.len
def TestAt (h:Za) (cs:List Cell) (T:PTest):Prop :=
 ∃a b c,cs=[.str T.name,a,b,.int .i64 T.ck,c]/\(SlAt h a 2 (Zbo T.inits) T.inits.length/\Low h.length a)/\RowsOf 9 Zaf h b T.thr/\RowsOf 4 Zfm h c T.any
theorem TestAt.keep {h h':Za} {cs:List Cell} {T:PTest} (p:TestAt h cs T) (hk:Kp h.length h h'):TestAt h' cs T:=by
 obtain ⟨a,b,c,e,⟨a1,a2⟩,hb,hc⟩:=p
 exact ⟨a,b,c,e,⟨a1.keep a2 hk,Zau hk.1 a2⟩,hb.keep hk,hc.keep hk⟩
theorem TestAt.len {h:Za} {cs:List Cell} {T:PTest} (p:TestAt h cs T):cs.length=5:=by
 obtain ⟨a,b,c,rfl,_⟩:=p;rfl
structure PTest.small (T:PTest):Prop where
 inits:T.inits.length<=1000
 thr:T.thr.length<=1000
 code:∀c∈T.thr,c.length<=1000
 any:T.any.length<=1000
 row:∀c∈T.any,c.length<=1000
def Zdg (T:PTest) (b:Nat):Bool:=(T.inits.any fun p=>p.1 % 256==(b:Int))||(T.thr.any fun c=>c.any fun i=>i.loc % 256==(b:Int))||(T.any.any fun c=>c.any fun a=>a.loc % 256==(b:Int))
def locsF (S:Nat->Bool) (n:Nat):List Int:=((Yy n).filter fun c=>S (97+c)).map fun (c:Nat)=>((97+c:Nat):Int)
def Zbd (T:PTest):List Int:=locsF (Zdg T) 26
theorem Zhl (S:Nat->Bool) (n:Nat):locsF S (n+1)=if S (97+n)=true then locsF S n++[((97+n:Nat):Int)] else locsF S n:=by
 unfold locsF
 rw [List.range_succ,List.filter_append,List.filter_cons,List.filter_nil]
 split<;>simp
theorem Zmp (S:Nat->Bool):∀n,(locsF S n).length<=n
 | 0=>by simp [locsF]
 | n+1=>by
  have:=Zmp S n
  rw [Zhl];split
  ·rw [Yg,Yq];omega
  ·omega
theorem Zmo {S:Nat->Bool} {n:Nat} {x:Int}:x∈locsF S n↔∃c,c<n/\S (97+c)=true/\x=((97+c:Nat):Int):=by
 unfold locsF
 rw [List.mem_map]
 constructor
 ·rintro ⟨c,hc,rfl⟩
  rw [Yau] at hc
  exact ⟨c,by simpa using hc.1,hc.2,rfl⟩
 ·rintro ⟨c,h1,h2,rfl⟩
  exact ⟨c,by rw [Yau];exact ⟨by simpa using h1,h2⟩,rfl⟩
theorem Zci {s t:Nat->Bool} {n:Nat} (h:∀i,i<n->s i=t i):Zaw s n=Zaw t n:=List.map_congr_left fun i hi=>by rw [h i (by simpa using hi)]
theorem Zly {S S':Nat->Bool} {v:Int} (h:∀b:Nat,b<256->S' b=(S b||(v % 256==(b:Int)))) :
  (Zaw S 256).set (0+(v % 256).toNat*1) (.bool true)=Zaw S' 256:=by
 rw [show 0+(v % 256).toNat*1=(v % 256).toNat by omega,Zq755]
 refine Zci fun i hi=>?_
 rw [h i hi]
 by_cases e:i=(v % 256).toNat
 ·rw [if_pos e,show (v % 256==(i:Int))=true by rw [beq_iff_eq];omega,Bool.or_true]
 ·rw [if_neg e,show (v % 256==(i:Int))=false by rw [beq_eq_false_iff_ne];omega,Bool.or_false]
theorem Zdr {α:Type} {l:List α} {i:Nat} {p:α} (h:l[i]? = some p) (f:α->Bool):(l.take (i+1)).any f=((l.take i).any f||f p):=by
 rw [Zal h,List.any_append];simp
section
variable {E:Env}
theorem Zq729 (hE:q121_In E) {cs:List Cell} {T:PTest} {h:Za} (p:TestAt h cs T) (hs:T.small) :
  ∃y h',R E 121 [.agg cs] h=some ([.c y],h')/\Own h.length h' y 1 (intC .u8 (Zbd T)) (Zbd T).length/\Kp h.length h h':=by
 obtain ⟨a,b,c,rfl,⟨ha,hal⟩,hb,hc⟩:=p
 have a1:∀{α:Type} (f:Cell->Option α),Ze [.str T.name,a,b,.int .i64 T.ck,c] 1 f=f a:=fun _=>rfl
 have a2:∀{α:Type} (f:Cell->Option α),Ze [.str T.name,a,b,.int .i64 T.ck,c] 2 f=f b:=fun _=>rfl
 have a4:∀{α:Type} (f:Cell->Option α),Ze [.str T.name,a,b,.int .i64 T.ck,c] 4 f=f c:=fun _=>rfl
 have w:∀v:Int,0<=v % 256/\v % 256<((256:Nat):Int):=fun v=>by omega
 have w2:∀(v:Int) (S:Nat->Bool),0+Yc (v % 256)*1<(Zaw S 256).length:=fun v S=>by rw [Zrk];omega
 have loop1:Zq (q121_F1 (R E) Zq E.glob) (q121_s1 ((0:Nat):Int) [.str T.name,a,b,.int .i64 T.ck,c] (Zaw (fun q=>(T.inits.take 0).any fun p=>p.1 % 256==(q:Int)) 256) h)=some (.exit 0,q121_x1_1 [.str T.name,a,b,.int .i64 T.ck,c] (Zaw (fun q=>(T.inits.take T.inits.length).any fun p=>p.1 % 256==(q:Int)) 256) h):=by
  refine Zax (fun i=>q121_s1 (i:Int) [.str T.name,a,b,.int .i64 T.ck,c] (Zaw (fun q=>(T.inits.take i).any fun p=>p.1 % 256==(q:Int)) 256) h) 0 T.inits.length (by omega) (fun i _ hi=>?_) (Zm ?_)
  ·have hq:T.inits[i]? = some T.inits[i]:=Yd hi
   generalize T.inits[i]=q at hq
   have:=hs.inits
   rw [q121_r1,a1,ha.len,if_pos (by simp;omega),a1,ha.get hi (by omega) (Zir _ _ _ hq).1,asI_ok,g_band255,if_pos (w _),if_pos (w2 _ _),Zo (by omega),Zly (S':=fun r=>(T.inits.take (i+1)).any fun p=>p.1 % 256==(r:Int)) (fun r _=>Zdr hq _)]
  ·rw [q121_r1,a1,ha.len,if_neg (by simp)]
 rw [Ym] at loop1
 generalize hS1:(fun q:Nat=>T.inits.any fun p=>p.1 % 256==(q:Int))=S1 at loop1
 have loop2:∀(t:Nat) (code:List Ins) (S:Nat->Bool),T.thr[t]? = some code->Zq (q121_F2 (R E) Zq E.glob) (q121_s2 (t:Int) ((0:Nat):Int) [.str T.name,a,b,.int .i64 T.ck,c] (Zaw (fun q=>S q||(code.take 0).any fun i=>i.loc % 256==(q:Int)) 256) h)=some (.exit 4,q121_x2_5 (t:Int) [.str T.name,a,b,.int .i64 T.ck,c] (Zaw (fun q=>S q||(code.take code.length).any fun i=>i.loc % 256==(q:Int)) 256) h):=by
  intro t code S ht
  obtain ⟨y,y1,y2,y3⟩:=hb.get (β:=Ex × St) ht
  refine Zax (fun i=>q121_s2 (t:Int) (i:Int) [.str T.name,a,b,.int .i64 T.ck,c] (Zaw (fun q=>S q||(code.take i).any fun i=>i.loc % 256==(q:Int)) 256) h) 0 code.length (by omega) (fun i _ hi=>?_) (Zm ?_)
  ·have hq:code[i]? = some code[i]:=Yd hi
   generalize code[i]=q at hq
   have:=hs.code code (Ye ht)
   rw [q121_r2,a2,y3,y1.len,if_pos (by simp;omega),a2,y3,y1.get hi (by omega) (Zxe hq (by omega) (c:=.int .i64 q.loc) rfl),asI_ok,g_band255,if_pos (w _),if_pos (w2 _ _),Zo (by omega),Zly (S':=fun r=>S r||(code.take (i+1)).any fun i=>i.loc % 256==(r:Int)) (fun r _=>by rw [Zdr hq,Yad])]
  ·rw [q121_r2,a2,y3,y1.len,if_neg (by simp)]
 have loop3:Zq (q121_F3 (R E) Zq E.glob) (q121_s3 ((0:Nat):Int) [.str T.name,a,b,.int .i64 T.ck,c] (Zaw (fun q=>S1 q||(T.thr.take 0).any fun c=>c.any fun i=>i.loc % 256==(q:Int)) 256) h)=some (.exit 2,q121_x3_3 [.str T.name,a,b,.int .i64 T.ck,c] (Zaw (fun q=>S1 q||(T.thr.take T.thr.length).any fun c=>c.any fun i=>i.loc % 256==(q:Int)) 256) h):=by
  refine Zax (fun t=>q121_s3 (t:Int) [.str T.name,a,b,.int .i64 T.ck,c] (Zaw (fun q=>S1 q||(T.thr.take t).any fun c=>c.any fun i=>i.loc % 256==(q:Int)) 256) h) 0 T.thr.length (by omega) (fun t _ ht=>?_) (Zm ?_)
  ·have hq:T.thr[t]? = some T.thr[t]:=Yd ht
   generalize T.thr[t]=code at hq
   have:=hs.thr
   have l2:=loop2 t code (fun q=>S1 q||(T.thr.take t).any fun c=>c.any fun i=>i.loc % 256==(q:Int)) hq
   rw [Ym,show ((0:Nat):Int)=0 from rfl] at l2
   have e0:Zaw (fun q=>(S1 q||(T.thr.take t).any fun c=>c.any fun i=>i.loc % 256==(q:Int))||(code.take 0).any fun i=>i.loc % 256==(q:Int)) 256=Zaw (fun q=>S1 q||(T.thr.take t).any fun c=>c.any fun i=>i.loc % 256==(q:Int)) 256:=Zci fun q _=>by simp
   rw [e0] at l2
   rw [q121_r3,a2,hb.len,if_pos (by simp;omega),l2,bind_ok,q121_e2_5,Zo (by omega)]
   congr 3
   exact Zci fun q _=>by rw [Zdr hq,Yad]
  ·rw [q121_r3,a2,hb.len,if_neg (by simp)]
 rw [Ym] at loop3
 have e3:Zaw (fun q=>S1 q||(T.thr.take 0).any fun c=>c.any fun i=>i.loc % 256==(q:Int)) 256=Zaw S1 256:=Zci fun q _=>by simp
 rw [e3,show ((0:Nat):Int)=0 from rfl] at loop3
 generalize hS2:(fun q:Nat=>S1 q||T.thr.any fun c=>c.any fun i=>i.loc % 256==(q:Int))=S2 at loop3
 have loop4:∀(t:Nat) (row:List Atm) (S:Nat->Bool),T.any[t]? = some row->Zq (q121_F4 (R E) Zq E.glob) (q121_s4 (t:Int) ((0:Nat):Int) [.str T.name,a,b,.int .i64 T.ck,c] (Zaw (fun q=>S q||(row.take 0).any fun i=>i.loc % 256==(q:Int)) 256) h)=some (.exit 8,q121_x4_9 (t:Int) [.str T.name,a,b,.int .i64 T.ck,c] (Zaw (fun q=>S q||(row.take row.length).any fun i=>i.loc % 256==(q:Int)) 256) h):=by
  intro t row S ht
  obtain ⟨y,y1,y2,y3⟩:=hc.get (β:=Ex × St) ht
  refine Zax (fun i=>q121_s4 (t:Int) (i:Int) [.str T.name,a,b,.int .i64 T.ck,c] (Zaw (fun q=>S q||(row.take i).any fun i=>i.loc % 256==(q:Int)) 256) h) 0 row.length (by omega) (fun i _ hi=>?_) (Zm ?_)
  ·have hq:row[i]? = some row[i]:=Yd hi
   generalize row[i]=q at hq
   have:=hs.row row (Ye ht)
   rw [q121_r4,a4,y3,y1.len,if_pos (by simp;omega),a4,y3,y1.get hi (by omega) (Zq742 hq (by omega) (c:=.int .i64 q.loc) rfl),asI_ok,g_band255,if_pos (w _),if_pos (w2 _ _),Zo (by omega),Zly (S':=fun r=>S r||(row.take (i+1)).any fun i=>i.loc % 256==(r:Int)) (fun r _=>by rw [Zdr hq,Yad])]
  ·rw [q121_r4,a4,y3,y1.len,if_neg (by simp)]
 have loop5:Zq (q121_F5 (R E) Zq E.glob) (q121_s5 ((0:Nat):Int) [.str T.name,a,b,.int .i64 T.ck,c] (Zaw (fun q=>S2 q||(T.any.take 0).any fun c=>c.any fun i=>i.loc % 256==(q:Int)) 256) h)=some (.exit 6,q121_x5_7 (Zaw (fun q=>S2 q||(T.any.take T.any.length).any fun c=>c.any fun i=>i.loc % 256==(q:Int)) 256) h):=by
  refine Zax (fun t=>q121_s5 (t:Int) [.str T.name,a,b,.int .i64 T.ck,c] (Zaw (fun q=>S2 q||(T.any.take t).any fun c=>c.any fun i=>i.loc % 256==(q:Int)) 256) h) 0 T.any.length (by omega) (fun t _ ht=>?_) (Zm ?_)
  ·have hq:T.any[t]? = some T.any[t]:=Yd ht
   generalize T.any[t]=row at hq
   have:=hs.any
   have l2:=loop4 t row (fun q=>S2 q||(T.any.take t).any fun c=>c.any fun i=>i.loc % 256==(q:Int)) hq
   rw [Ym,show ((0:Nat):Int)=0 from rfl] at l2
   have e0:Zaw (fun q=>(S2 q||(T.any.take t).any fun c=>c.any fun i=>i.loc % 256==(q:Int))||(row.take 0).any fun i=>i.loc % 256==(q:Int)) 256=Zaw (fun q=>S2 q||(T.any.take t).any fun c=>c.any fun i=>i.loc % 256==(q:Int)) 256:=Zci fun q _=>by simp
   rw [e0] at l2
   rw [q121_r5,a4,hc.len,if_pos (by simp;omega),l2,bind_ok,q121_e4_9,Zo (by omega)]
   congr 3
   exact Zci fun q _=>by rw [Zdr hq,Yad]
  ·rw [q121_r5,a4,hc.len,if_neg (by simp)]
 rw [Ym] at loop5
 have e5:Zaw (fun q=>S2 q||(T.any.take 0).any fun c=>c.any fun i=>i.loc % 256==(q:Int)) 256=Zaw S2 256:=Zci fun q _=>by simp
 rw [e5,show ((0:Nat):Int)=0 from rfl] at loop5
 have hS3:(fun q:Nat=>S2 q||T.any.any fun c=>c.any fun i=>i.loc % 256==(q:Int))=Zdg T:=by
  funext q;rw [←hS2,←hS1];rfl
 rw [hS3] at loop5
 have hm:maxBytes>=100:=by unfold maxBytes;omega
 obtain ⟨st,⟨y,h1,rfl,hy,hk⟩,hL⟩:=Zcb (F:=q121_F6 (R E) Zq E.glob) (fun i st=>∃y h1,st=q121_s6 y ((97+i:Nat):Int) (Zaw (Zdg T) 256) h1/\Own h.length h1 y 1 (intC .u8 (locsF (Zdg T) i)) (locsF (Zdg T) i).length/\Kp h.length h h1) 0 26 (by omega)
  (fun i st _ hi=>by
   rintro ⟨y,h1,rfl,hy,hk⟩
   have hlen:=Zmp (Zdg T) i
   have hw:E.glob.wrap .i32 (((97+i:Nat):Int)+1)=((97+(i+1):Nat):Int):=by
    show IntKind.wrap .i32 _=_
    simp only [IntKind.wrap,IntKind.signed,IntKind.bits,Yac]
    split
    ·rename_i hh;have hh:=of_decide_eq_true hh;omega
    ·omega
   have hw8:E.glob.wrap .u8 ((97+i:Nat):Int)=((97+i:Nat):Int):=by
    show IntKind.wrap .u8 _=_
    simp only [IntKind.wrap,IntKind.signed,IntKind.bits,Yai,Yab,if_false];omega
   have hrd:q121_F6 (R E) Zq E.glob (q121_s6 y ((97+i:Nat):Int) (Zaw (Zdg T) 256) h1)=if Zdg T (97+i)=true then Zao 1 1 y [.int .u8 ((97+i:Nat):Int)] h1 fun x h'=>some (.normal,q121_s6 x ((97+(i+1):Nat):Int) (Zaw (Zdg T) 256) h') else some (.normal,q121_s6 y ((97+(i+1):Nat):Int) (Zaw (Zdg T) 256) h1):=by
    rw [q121_r6,if_pos (by simp;omega),if_pos ⟨by omega,by omega⟩,show 0+Yc ((97+i:Nat):Int)*1=97+i by omega,Zae (Zqq (show 97+i<256 by omega)),asB_ok,hw,hw8]
    rfl
   rw [hrd]
   by_cases ht:Zdg T (97+i)=true
   ·obtain ⟨y2,h2,hap,hy2,hk2,_⟩:=hy.app (bytes:=1) (xs:=[.int .u8 ((97+i:Nat):Int)]) hk.1 rfl (by omega) (by omega) (by omega)
    refine ⟨_,by rw [if_pos ht,hap],y2,h2,rfl,?_,hk.trans hk2⟩
    rw [Zhl,if_pos ht,intC_snoc,Yg,Yq];exact hy2
   ·refine ⟨_,by rw [if_neg ht],y,h1,rfl,?_,hk⟩
    rw [Zhl,if_neg ht];exact hy) (st:=q121_s6 .nils ((97+0:Nat):Int) (Zaw (Zdg T) 256) h) ⟨.nils,h,rfl,Own.nil _ _ _,Kp.refl _ _⟩
 have hfin:q121_F6 (R E) Zq E.glob (q121_s6 y ((97+26:Nat):Int) (Zaw (Zdg T) 256) h1)=some (.exit 10,q121_x6_11 y h1):=by
  rw [q121_r6,if_neg (by simp)]
 have hr:=hL _ (Zm hfin)
 refine ⟨y,h1,Zd hE.fn ?_,hy,hk⟩
 have e1:Zaw (fun q=>(T.inits.take 0).any fun p=>p.1 % 256==(q:Int)) 256=Ya 256 (Cell.bool false):=by rw [Ztr];exact Zci fun q _=>by simp
 rw [e1,show ((0:Nat):Int)=0 from rfl] at loop1
 rw [q121_eq,loop1,bind_ok,q121_e1_1,loop3,bind_ok,q121_e3_3,loop5,bind_ok,q121_e5_7,show (97:Int)=((97+0:Nat):Int) from rfl,hr,bind_ok,q121_e6_11]
end
theorem Own.keepK {n:Nat} {h h':Za} {x:Cell} {esz len:Nat} {cs:List Cell} (o:Own n h x esz cs len) (hk:Kp h.length h h'):Own n h' x esz cs len:=by
 refine ⟨o.1,o.2.imp id ?_⟩
 rintro ⟨k,e,hn,hb⟩
 exact ⟨k,e,hn,by rw [hk.blk (Zan hb)];exact hb⟩
theorem Own.monoN {n m:Nat} (hm:m<=n) {h:Za} {x:Cell} {esz len:Nat} {cs:List Cell} (o:Own n h x esz cs len):Own m h x esz cs len :=
 ⟨o.1,o.2.imp id fun ⟨k,e,hn,hb⟩=>⟨k,e,by omega,hb⟩⟩
theorem Own.blkLt {n:Nat} {h:Za} {x:Cell} {esz len:Nat} {cs:List Cell} (o:Own n h x esz cs len) {k:Nat} (hk:Zv x k):k<h.length/\n<=k:=by
 rcases o.2 with ⟨rfl,_⟩ | ⟨j,rfl,hn,hb⟩
 ·cases hk
 ·have:j=k:=hk
  subst this;exact ⟨Zan hb,hn⟩
def RowsOwn {α:Type} (esz:Nat) (C:List α->List Cell) (n:Nat) (h:Za) (y:Cell) (rows:List (List α)):Prop :=
 ∃ts,Own n h y 1 ts rows.length/\∀(t:Nat) (r:List α),rows[t]? = some r->∃x:Cell,ts[t]? = some x/\Own n h x esz (C r) r.length/\∀k,Zv x k->¬Zv y k
section rows
variable {α:Type} {esz:Nat} {C:List α->List Cell} {n:Nat}
theorem RowsOwn.nil (h:Za):RowsOwn esz C n h .nils ([]:List (List α)):=⟨[],Own.nil _ _ _,fun t r hr=>by simp at hr⟩
theorem RowsOwn.keep {h h':Za} {y:Cell} {rows:List (List α)} (r:RowsOwn esz C n h y rows) (hk:Kp h.length h h'):RowsOwn esz C n h' y rows:=by
 obtain ⟨ts,h1,h2⟩:=r
 exact ⟨ts,h1.keepK hk,fun t r hr=>by obtain ⟨x,x1,x2,x3⟩:=h2 t r hr;exact ⟨x,x1,x2.keepK hk,x3⟩⟩
theorem RowsOwn.blkLt {h:Za} {y:Cell} {rows:List (List α)} (r:RowsOwn esz C n h y rows) {k:Nat} (hk:Zv y k):k<h.length/\n<=k:=by
 obtain ⟨ts,h1,_⟩:=r;exact h1.blkLt hk
theorem RowsOwn.of {h:Za} {y:Cell} {rows:List (List α)} (r:RowsOwn esz C n h y rows):RowsOf esz C h y rows:=by
 obtain ⟨ts,h1,h2⟩:=r
 exact ⟨ts,h1.at,h1.low,fun t r hr=>by obtain ⟨x,x1,x2,_⟩:=h2 t r hr;exact ⟨x,x1,x2.at,x2.low⟩⟩
theorem RowsOwn.push {h:Za} {y x:Cell} {rows:List (List α)} {r:List α} (w:RowsOwn esz C n h y rows) (hx:Own n h x esz (C r) r.length) (hd:∀k,Zv x k->¬Zv y k) (hn:n<=h.length) (hl:rows.length<=2000) :
  ∃y' h',(∀{β:Type} (f:Cell->Za->Option β),Zao 1 24 y [x] h f=f y' h')/\RowsOwn esz C n h' y' (rows++[r])/\Kp n h h'/\∀j b,blk? h j=some b->¬Zv y j->blk? h' j=some b/\¬Zv y' j:=by
 have hm:maxBytes>=2001*24:=by unfold maxBytes;omega
 obtain ⟨ts,h1,h2⟩:=w
 obtain ⟨y',h',ha,ho,hk,hf⟩:=h1.app (bytes:=24) (xs:=[x]) hn rfl (by omega) (by omega) (by omega)
 have mv:∀{z:Cell} {cs:List Cell} {len:Nat},Own n h z esz cs len->(∀k,Zv z k->¬Zv y k)->Own n h' z esz cs len/\∀k,Zv z k->¬Zv y' k:=by
  intro z cs len oz dz
  rcases oz.2 with e | ⟨k,e,hnk,hb⟩
  ·refine ⟨⟨oz.1,.inl e⟩,fun k hk=>?_⟩
   rw [e.1] at hk;cases hk
  ·have hik:Zv z k:=by rw [e];rfl
   obtain ⟨b1,b2⟩:=hf k _ hb (dz k hik)
   refine ⟨⟨oz.1,.inr ⟨k,e,hnk,b1⟩⟩,fun j hj=>?_⟩
   rw [e] at hj
   have:k=j:=hj
   subst this;exact b2
 refine ⟨y',h',ha,⟨ts++[x],by rw [Yg,Yq];exact ho,fun t r' hr=>?_⟩,hk,hf⟩
 have hts:ts.length=rows.length:=by have:=h1.1;omega
 by_cases ht:t<rows.length
 ·rw [Yaf ht] at hr
  obtain ⟨z,z1,z2,z3⟩:=h2 t r' hr
  obtain ⟨w1,w2⟩:=mv z2 z3
  exact ⟨z,by rw [Yaf (by omega)];exact z1,w1,w2⟩
 ·rw [Yae (by omega)] at hr
  have h0:t - rows.length=0:=by
   rcases Nat.eq_zero_or_pos (t - rows.length) with e | e
   ·exact e
   ·rw [Yf (by simp;omega)] at hr;cases hr
  rw [h0] at hr
  obtain rfl:r=r':=by simpa using hr
  obtain ⟨w1,w2⟩:=mv hx hd
  exact ⟨x,by rw [Yae (by omega),show t - ts.length=0 by omega];rfl,w1,w2⟩
end rows
def plc:List Int->Int->Nat->Int
 | [],_,_=>-1
 | c :: t,x,i=>if c=x then i else plc t x (i+1)
def Zfa (l:List (Int × Int)) (c:Int):Int:=l.foldl (fun v p=>if p.1=c then p.2 else v) 0
def Zcz (locs:List Int) (i:Ins):Ins:=if i.loc≠0 then { i with loc:=plc locs i.loc 0 } else i
def Zdm (T:PTest):PProg:=⟨Zbd T,(Zbd T).map (Zfa T.inits),T.thr.map fun c=>c.map (Zcz (Zbd T))⟩
theorem Zto {T:PTest} {x:Int} (h:x∈Zbd T):97<=x/\x<=122:=by
 obtain ⟨c,h1,_,rfl⟩:=Zmo.1 h
 omega
section
variable {E:Env}
theorem Place_R (hE:q122_In E) {a b c:Cell} {locs:List Int} {h:Za} (ha:SlAt h a 1 (intC .u8 locs) locs.length) (hu:∀x∈locs,97<=x/\x<=122) (hl:locs.length<=100) (x:Int) :
  R E 122 [.agg [a,b,c],.c (.int .i64 x)] h=some ([.c (.int .i64 (plc locs x 0))],h):=by
 refine Zd hE.fn ?_
 have a0:∀{α:Type} (f:Cell->Option α),Ze [a,b,c] 0 f=f a:=fun _=>rfl
 have key:∀(t:List Int) (i:Nat),locs.drop i=t->(Zq (q122_F1 (R E) Zq E.glob) (q122_s1 x (i:Int) [a,b,c] h)).bind (fun p=>q122_k3 (R E) Zq E.glob h p.1 p.2)=some ([.c (.int .i64 (plc t x i))],h):=by
  intro t
  induction t with
  | nil =>
   intro i hd
   have hi:locs.length<=i:=by
    have:=congrArg Yah hd
    simp at this;omega
   have hr:q122_F1 (R E) Zq E.glob (q122_s1 x (i:Int) [a,b,c] h)=some (.exit 0,q122_x1_1 h):=by
    rw [q122_r1,a0,ha.len,if_neg (by simp;omega)]
   rw [Zm hr,bind_ok,q122_e1_1];rfl
  | cons v t ih =>
   intro i hd
   have hi:i<locs.length:=by
    have:=congrArg Yah hd
    simp at this;omega
   have hv:locs[i]? = some v:=by
    have:=congrArg (fun z=>z[0]?) hd
    simpa [Yl] using this
   have hd2:locs.drop (i+1)=t:=by
    have:=congrArg (List.drop 1) hd
    simpa [List.drop_drop] using this
   have huv:=hu v (Ye hv)
   have hr:q122_F1 (R E) Zq E.glob (q122_s1 x (i:Int) [a,b,c] h)=if (v==x)=true then some (.ret,q122_x1_0 i h) else some (.normal,q122_s1 x ((i+1:Nat):Int) [a,b,c] h):=by
    rw [q122_r1,a0,ha.len,if_pos (by simp;omega),a0,ha.get1 hi (Zar hv),asI_ok,Zj (by omega) (by omega),Zo (by omega)]
   rw [plc]
   by_cases hvx:v=x
   ·rw [if_pos (by rw [hvx];exact beq_self_eq_true _)] at hr
    rw [Zcf hr,bind_ok,q122_e1_0,if_pos hvx]
   ·rw [if_neg (by rw [beq_iff_eq];exact hvx)] at hr
    rw [if_neg hvx]
    have:=ih (i+1) hd2
    cases hL:Zq (q122_F1 (R E) Zq E.glob) (q122_s1 x ((i+1:Nat):Int) [a,b,c] h) with
    | none=>rw [hL] at this;cases this
    | some p=>rw [Zat hr hL];rw [hL] at this;exact this
 rw [q122_eq]
 exact key locs 0 rfl
theorem ins_setloc {i:Ins} {v:Int}:i.cs.set 2 (.int .i64 v)=({ i with loc:=v }:Ins).cs:=rfl
theorem ins_splice {i:Ins}:splice (Ya 9 ci0) 0 i.cs=i.cs:=rfl
theorem Zen (i:Ins):i.cs.length=1*9:=rfl
theorem Zxp (l:List (Int × Int)) (p:Int × Int) (c:Int):Zfa (l++[p]) c=if p.1=c then p.2 else Zfa l c:=by
 unfold Zfa;rw [List.foldl_append];rfl
def ProgOwn (n:Nat) (h:Za) (cs:List Cell) (P:PProg):Prop :=
 ∃(m:Nat) (a b y:Cell),cs=[a,b,y]/\n<=m/\m<=h.length/\(SlAt h a 1 (intC .u8 P.locs) P.locs.length/\Low m a)/\(SlAt h b 1 (intC .i64 P.init) P.init.length/\Low m b)/\RowsOwn 9 Zaf m h y P.thr
theorem Zte (hE:q101_In E) {cs:List Cell} {T:PTest} {h:Za} (p:TestAt h cs T) (hs:T.small) :
  ∃cs' h',R E 101 [.agg cs] h=some ([.agg cs'],h')/\ProgOwn h.length h' cs' (Zdm T)/\Kp h.length h h':=by
 obtain ⟨a,h1,hr1,ha,hk1⟩:=Zq729 hE.c121 p hs
 have hll:(Zbd T).length<=26:=Zmp _ _
 have hu:=fun x (hx:x∈Zbd T)=>Zto hx
 have p1:=p.keep hk1
 have hlen:=p.len
 obtain ⟨ta,tb,tc,hcs,⟨hta,htal⟩,htb,htc⟩:=p1
 have t1:∀{α:Type} (f:Cell->Option α),Ze cs 1 f=f ta:=fun f=>by rw [hcs];rfl
 have t2:∀{α:Type} (f:Cell->Option α),Ze cs 2 f=f tb:=fun f=>by rw [hcs];rfl
 have hat:=ha.at
 have hal:=ha.low
 have hm:maxBytes>=2000*72:=by unfold maxBytes;omega
 have pu:∀(x y z:Cell),([x,y,z]:List Cell).length=3:=fun _ _ _=>rfl
 have inner1:∀(i:Nat) (b:Cell) (h2:Za) (v:Int) (z:List Cell),(Zbd T)[i]? = some v->Kp h1.length h1 h2 ->
   Zq (q101_F1 (R E) Zq E.glob) (q101_s1 (i:Int) 0 ((0:Nat):Int) cs z [a,b,.nils] h2)=some (.exit 2,q101_x1_3 (i:Int) (Zfa T.inits v) cs z [a,b,.nils] h2):=by
  intro i b h2 v z hv hk
  have h0:(0:Int)=Zfa (T.inits.take 0) v:=rfl
  have he:Zfa T.inits v=Zfa (T.inits.take T.inits.length) v:=by rw [Ym]
  rw [he]
  rw [show q101_s1 (i:Int) 0 ((0:Nat):Int) cs z [a,b,.nils] h2=q101_s1 (i:Int) (Zfa (T.inits.take 0) v) ((0:Nat):Int) cs z [a,b,.nils] h2 from rfl]
  have huv:=hu v (Ye hv)
  refine Zax (fun k=>q101_s1 (i:Int) (Zfa (T.inits.take k) v) (k:Int) cs z [a,b,.nils] h2) 0 T.inits.length (by omega) (fun k _ hkk=>?_) (Zm ?_)
  ·have hq:T.inits[k]? = some T.inits[k]:=Yd hkk
   generalize T.inits[k]=q at hq
   have:=hs.inits
   have hta2:=hta.keep htal hk
   rw [q101_r1,t1,hta2.len,if_pos (by simp;omega),t1,hta2.get hkk (by omega) (Zir _ _ _ hq).1,asI_ok,show ∀{α:Type} (f:Cell->Option α),Ze [a,b,Cell.nils] 0 f=f a from fun _=>rfl,(hat.keep hal hk).get1 (Zf hv) (Zar hv),asI_ok,Zj (by omega) (by omega),Zal hq,Zxp]
   by_cases hqv:q.1=v
   ·rw [if_pos (by rw [hqv];exact beq_self_eq_true _),if_pos hqv,t1,hta2.get hkk (by omega) (Zir _ _ _ hq).2,asI_ok,Zo (by omega)]
   ·rw [if_neg (by rw [beq_iff_eq];exact hqv),if_neg hqv,Zo (by omega)]
  ·have hta2:=hta.keep htal hk
   rw [q101_r1,t1,hta2.len,if_neg (by simp)]
 obtain ⟨st,⟨b,h2,rfl,hb,hk2⟩,hL2⟩:=Zcb (F:=q101_F2 (R E) Zq E.glob) (fun i st=>∃b h2,st=q101_s2 (i:Int) cs [Cell.nils,Cell.nils,Cell.nils] [a,b,.nils] h2/\Own h1.length h2 b 1 (intC .i64 (((Zbd T).map (Zfa T.inits)).take i)) i/\Kp h1.length h1 h2) 0 (Zbd T).length (by omega)
  (fun i st _ hi=>by
   rintro ⟨b,h2,rfl,hb,hk⟩
   have hv:(Zbd T)[i]? = some (Zbd T)[i]:=Yd hi
   generalize (Zbd T)[i]=v at hv
   have hin:=inner1 i b h2 v [Cell.nils,Cell.nils,Cell.nils] hv hk
   rw [show ((0:Nat):Int)=0 from rfl] at hin
   obtain ⟨b2,h3,hap,hb2,hk3,_⟩:=hb.app (bytes:=8) (xs:=[.int .i64 (Zfa T.inits v)]) hk.1 rfl (by omega) (by omega) (by omega)
   refine ⟨_,?_,b2,h3,rfl,?_,hk.trans hk3⟩
   ·rw [q101_r2,show ∀{α:Type} (f:Cell->Option α),Ze [a,b,Cell.nils] 0 f=f a from fun _=>rfl,hat.len,if_pos (by simp;omega),hin,bind_ok,q101_e1_3,show ∀{α:Type} (f:Cell->Option α),Ze [a,b,Cell.nils] 1 f=f b from fun _=>rfl,if_pos (show (splice [ci0] 0 [(.int .i64 (Zfa T.inits v))]).length=1*1 from rfl),show splice [ci0] 0 [(.int .i64 (Zfa T.inits v))]=[.int .i64 (Zfa T.inits v)] from rfl,hap,if_pos (show 1<([a,b,Cell.nils]:List Cell).length by simp),Zo (by omega)]
    rfl
   ·rw [Zal (p:=Zfa T.inits v) (by rw [Yw,hv];rfl),intC_snoc];exact hb2) (st:=q101_s2 ((0:Nat):Int) cs [Cell.nils,Cell.nils,Cell.nils] [a,.nils,.nils] h1) ⟨.nils,h1,rfl,Own.nil _ _ _,Kp.refl _ _⟩
 have hfin2:q101_F2 (R E) Zq E.glob (q101_s2 ((Zbd T).length:Int) cs [Cell.nils,Cell.nils,Cell.nils] [a,b,.nils] h2)=some (.exit 0,q101_x2_1 cs [Cell.nils,Cell.nils,Cell.nils] [a,b,.nils] h2):=by
  rw [q101_r2,show ∀{α:Type} (f:Cell->Option α),Ze [a,b,Cell.nils] 0 f=f a from fun _=>rfl,hat.len,if_neg (by simp)]
 have hr2:=hL2 _ (Zm hfin2)
 rw [Yk (by rw [Yag];exact Yu _)] at hb
 have htb2:=htb.keep hk2
 have hat2:=hat.keep hal hk2
 have hal2:Low h2.length a:=Zau hk2.1 hal
 have hbt:=hb.at
 have hbl:=hb.low
 have inner2:∀(t:Nat) (code:List Ins) (y:Cell) (h3:Za),T.thr[t]? = some code->Kp h2.length h2 h3 ->
   ∃x h4,Zq (q101_F3 (R E) Zq E.glob) (q101_s3 (t:Int) .nils ((0:Nat):Int) cs [Cell.nils,Cell.nils,Cell.nils] [a,b,y] h3)=some (.exit 6,q101_x3_7 (t:Int) x cs [Cell.nils,Cell.nils,Cell.nils] [a,b,y] h4)/\Own h3.length h4 x 9 (Zaf (code.map (Zcz (Zbd T)))) code.length/\Kp h3.length h3 h4:=by
  intro t code y h3 ht hk3
  obtain ⟨cx,c1x,c2x,c3x⟩:=(htb2.keep hk3).get (β:=Ex × St) ht
  have hcl:=hs.code code (Ye ht)
  obtain ⟨st,⟨x,h4,rfl,hx,hk4⟩,hL⟩:=Zcb (F:=q101_F3 (R E) Zq E.glob) (fun i st=>∃x h4,st=q101_s3 (t:Int) x (i:Int) cs [Cell.nils,Cell.nils,Cell.nils] [a,b,y] h4/\Own h3.length h4 x 9 (Zaf ((code.map (Zcz (Zbd T))).take i)) i/\Kp h3.length h3 h4) 0 code.length (by omega)
   (fun i st _ hi=>by
    rintro ⟨x,h4,rfl,hx,hk4⟩
    obtain ⟨cx',c1x',c2x',c3x'⟩:=((htb2.keep hk3).keep hk4).get (β:=Ex × St) ht
    have hq:code[i]? = some code[i]:=Yd hi
    generalize code[i]=q at hq
    obtain ⟨off,cs',hG,hle,hcc⟩:=c1x'.insG hq
    have hsn:(code.map (Zcz (Zbd T)))[i]? = some (Zcz (Zbd T) q):=by rw [Yw,hq];rfl
    obtain ⟨x2,h5,hap,hx2,hk5,_⟩:=hx.app (bytes:=72) (xs:=(Zcz (Zbd T) q).cs) hk4.1 rfl (by omega) (by omega) (by omega)
    refine ⟨_,?_,x2,h5,rfl,?_,hk4.trans hk5⟩
    ·rw [q101_r3,t2,c3x',c1x'.len,if_pos (by simp;omega),t2,c3x',hG,if_pos hle,hcc,if_pos ⟨rfl,rfl,rfl⟩,ins_loc,asI_ok]
     unfold Zcz at hap
     by_cases hz:q.loc≠0
     ·have hpl:=Place_R hE.c122 (b:=b) (c:=y) ((hat2.keep hal2 hk3).keep (Zau hk3.1 hal2) hk4) hu (by omega) q.loc
      rw [if_pos hz] at hap
      rw [if_pos (by rw [bne_iff_ne];exact hz),if_pos ⟨rfl,pu _ _ _⟩,ins_loc,asI_ok,hpl,c1_ok,asI_ok,if_pos (by rw [Ins.len];omega),ins_setloc,if_pos ⟨rfl,rfl⟩,if_pos ⟨rfl,by simp⟩,ins_splice,if_pos (Zen _),hap,Zo (by omega)]
     ·rw [if_neg hz] at hap
      rw [if_neg (by rw [bne_iff_ne];exact hz),if_pos ⟨rfl,rfl⟩,if_pos ⟨rfl,by simp⟩,ins_splice,if_pos (Zen _),hap,Zo (by omega)]
    ·rw [Zal hsn,Zpk];exact hx2) (st:=q101_s3 (t:Int) .nils ((0:Nat):Int) cs [Cell.nils,Cell.nils,Cell.nils] [a,b,y] h3) ⟨.nils,h3,rfl,Own.nil _ _ _,Kp.refl _ _⟩
  have hfin:q101_F3 (R E) Zq E.glob (q101_s3 (t:Int) x (code.length:Int) cs [Cell.nils,Cell.nils,Cell.nils] [a,b,y] h4)=some (.exit 6,q101_x3_7 (t:Int) x cs [Cell.nils,Cell.nils,Cell.nils] [a,b,y] h4):=by
   obtain ⟨cx',c1x',c2x',c3x'⟩:=((htb2.keep hk3).keep hk4).get (β:=Ex × St) ht
   rw [q101_r3,t2,c3x',c1x'.len,if_neg (by simp)]
  rw [Yk (by rw [Yag];exact Yu _)] at hx
  exact ⟨x,h4,hL _ (Zm hfin),hx,hk4⟩
 have hthl:=hs.thr
 obtain ⟨st,⟨y,h3,rfl,hy,hk3⟩,hL4⟩:=Zcb (F:=q101_F4 (R E) Zq E.glob) (fun t st=>∃y h3,st=q101_s4 (t:Int) cs [Cell.nils,Cell.nils,Cell.nils] [a,b,y] h3/\RowsOwn 9 Zaf h2.length h3 y ((T.thr.map fun c=>c.map (Zcz (Zbd T))).take t)/\Kp h2.length h2 h3) 0 T.thr.length (by omega)
  (fun t st _ ht=>by
   rintro ⟨y,h3,rfl,hy,hk3⟩
   have hq:T.thr[t]? = some T.thr[t]:=Yd ht
   generalize T.thr[t]=code at hq
   obtain ⟨x,h4,hin,hx,hk4⟩:=inner2 t code y h3 hq hk3
   rw [show ((0:Nat):Int)=0 from rfl] at hin
   have hsn:(T.thr.map fun c=>c.map (Zcz (Zbd T)))[t]? = some (code.map (Zcz (Zbd T))):=by rw [Yw,hq];rfl
   have hxl:code.length=(code.map (Zcz (Zbd T))).length:=by simp
   rw [hxl] at hx
   obtain ⟨y2,h5,hap,hy2,hk5,_⟩:=(hy.keep hk4).push (hx.monoN hk3.1) (fun k h1 h2=>by have:=(hx.blkLt h1).2;have:=(hy.blkLt h2).1;omega) (Yz hk3.1 hk4.1) (by rw [Yar];omega)
   refine ⟨_,?_,y2,h5,rfl,?_,hk3.trans ((hk4.mono hk3.1).trans hk5)⟩
   ·rw [q101_r4,t2,htb2.len,if_pos (by simp;omega),hin,bind_ok,q101_e3_7,show ∀{α:Type} (f:Cell->Option α),Ze [a,b,y] 2 f=f y from fun _=>rfl,if_pos (show (splice [Cell.nils] 0 [x]).length=1*1 from rfl),show splice [Cell.nils] 0 [x]=[x] from rfl,hap,if_pos (show 2<([a,b,y]:List Cell).length by simp),Zo (by omega)]
    rfl
   ·rw [Zal hsn];exact hy2) (st:=q101_s4 ((0:Nat):Int) cs [Cell.nils,Cell.nils,Cell.nils] [a,b,.nils] h2) ⟨.nils,h2,rfl,by rw [Yay];exact RowsOwn.nil _,Kp.refl _ _⟩
 have hfin4:q101_F4 (R E) Zq E.glob (q101_s4 (T.thr.length:Int) cs [Cell.nils,Cell.nils,Cell.nils] [a,b,y] h3)=some (.exit 4,q101_x4_5 [Cell.nils,Cell.nils,Cell.nils] [a,b,y] h3):=by
  rw [q101_r4,t2,htb2.len,if_neg (by simp)]
 have hr4:=hL4 _ (Zm hfin4)
 rw [Yk (by rw [Yag];exact Yu _)] at hy
 refine ⟨[a,b,y],h3,Zd hE.fn ?_,⟨h2.length,a,b,y,rfl,Yz hk1.1 hk2.1,hk3.1,⟨hat2.keep hal2 hk3,hal2⟩,⟨?_,hbl⟩,hy⟩,hk1.trans ((hk2.mono hk1.1).trans (hk3.mono (Yz hk1.1 hk2.1)))⟩
 ·rw [q101_eq,if_pos ⟨rfl,hlen⟩,hr1,c1_ok,asC_ok,show splice [Cell.nils,Cell.nils,Cell.nils] 0 [a]=[a,.nils,.nils] from rfl,if_pos ⟨rfl,rfl,rfl⟩,show (0:Int)=((0:Nat):Int) from rfl,hr2,bind_ok,q101_e2_1,show (0:Int)=((0:Nat):Int) from rfl,hr4,bind_ok,q101_e4_5,if_pos ⟨rfl,rfl⟩,if_pos ⟨rfl,rfl,rfl⟩,if_pos ⟨rfl,rfl⟩]
 ·have:=hbt.keep hbl hk3
  have e:(Zdm T).init.length=(Zbd T).length:=by simp [Zdm]
  rw [e];exact this
theorem ProgOwn.at {n:Nat} {h:Za} {cs:List Cell} {P:PProg} (p:ProgOwn n h cs P):ProgAt h cs P:=by
 obtain ⟨m,a,b,y,rfl,h1,h2,⟨a1,a2⟩,⟨b1,b2⟩,hy⟩:=p
 obtain ⟨ts,y1,y2,y3⟩:=hy.of
 exact ⟨a,b,y,ts,rfl,⟨a1,Zau h2 a2⟩,⟨b1,Zau h2 b2⟩,⟨y1,y2⟩,y3⟩
end
def Zdy (p:Int × Int):List Cell:=[.int .i64 p.1,.int .i64 p.2]
theorem Ztn:∀(l:List (Int × Int)) (i:Nat) (s:Int × Int),l[i]? = some s->((Zbo l).drop (i*2)).take 2=Zdy s
 | [],_,_,h=>by simp at h
 | q :: l,0,s,h=>by simp at h;subst h;rfl
 | q :: l,i+1,s,h=>by
  have:=Ztn l i s (by simpa using h)
  have e:Zbo (q :: l)=Zdy q++Zbo l:=by simp [Zbo,Zdy]
  rw [e,Yr,Yj (by simp [Zdy];omega),Yn,show (i+1)*2 - (Zdy q).length=i*2 by simp [Zdy];omega]
  exact this
theorem SlAt.pairG {h:Za} {x:Cell} {l:List (Int × Int)} (s:SlAt h x 2 (Zbo l) l.length) {i:Nat} {q:Int × Int} (hq:l[i]? = some q) :
  ∃off cs',(∀{α:Type} (G:Nat->List Cell->Option α),(Zl 2 x (i:Int) fun k N o=>Zp h k N fun l=>G o l)=G off cs')/\off+2<=cs'.length/\(cs'.drop off).take 2=Zdy q:=by
 obtain ⟨off,cs',h1,h2,h3⟩:=s.elG (Zf hq)
 exact ⟨off,cs',h1,h2,h3.trans (Ztn l i q hq)⟩
section
variable {E:Env}
theorem Zpx (hE:q155_In E) {x f:Cell} {l:List (Ins)} {h:Za} (hx:SlAt h x 9 (Zaf l) l.length) (hl:l.length<9223372036854775807) (p:Ins->Bool)
  (hf:∀i∈l,∀{α:Type} (F:AV->Za->Option α),(fnK f fun g cs=>c1 (R E g ([.agg (i.cs)]++cs) h) F)=F (.c (.bool (p i))) h):R E 155 [.c x,.c f] h=some ([.c (.bool (l.any p))],h):=by
 have loop:∀(n i:Nat),i+n=l.length->∃r:Int,(Zq (q156_F1 (R E) Zq E.glob) (q156_s1 x f l.length (i:Int) h)).bind (fun q=>q156_k3 (R E) Zq E.glob h q.1 q.2)=some ([.c (.int .i64 r)],h)/\decide (r>=0)=(l.drop i).any p:=by
  intro n
  induction n with
  | zero =>
   intro i hi
   refine ⟨-1,?_,?_⟩
   ·have hr:q156_F1 (R E) Zq E.glob (q156_s1 x f l.length (i:Int) h)=some (.exit 0,q156_x1_1 h):=by rw [q156_r1,if_neg (by simp;omega)]
    rw [Zm hr,bind_ok,q156_e1_1]
   ·rw [Yj (by omega)];rfl
  | succ n ih =>
   intro i hi
   have hq:l[i]? = some l[i]:=Yd (by omega)
   have hdr:l.drop i=l[i] :: l.drop (i+1):=List.drop_eq_getElem_cons (by omega)
   generalize l[i]=q at hq hdr
   obtain ⟨off,c,g1,g2,g3⟩:=hx.insG hq
   have hp:=@hf q (Ye hq) (Ex × St)
   rw [hdr,List.any_cons]
   cases hb:p q with
   | true =>
    refine ⟨(i:Int),?_,?_⟩
    ·have hr:q156_F1 (R E) Zq E.glob (q156_s1 x f l.length (i:Int) h)=some (.ret,q156_x1_0 (i:Int) h):=by rw [q156_r1,if_pos (by simp;omega),g1,if_pos g2,g3,hp,asB_ok,hb,if_pos rfl]
     rw [Zcf hr,bind_ok,q156_e1_0]
    ·rw [Bool.true_or];exact decide_eq_true (by omega)
   | false =>
    obtain ⟨r,h1,h2⟩:=ih (i+1) (by omega)
    refine ⟨r,?_,by rw [Bool.false_or];exact h2⟩
    cases hL:Zq (q156_F1 (R E) Zq E.glob) (q156_s1 x f l.length ((i+1:Nat):Int) h) with
    | none=>rw [hL] at h1;cases h1
    | some w =>
     have hr:q156_F1 (R E) Zq E.glob (q156_s1 x f l.length (i:Int) h)=some (.normal,q156_s1 x f l.length ((i+1:Nat):Int) h):=by rw [q156_r1,if_pos (by simp;omega),g1,if_pos g2,g3,hp,asB_ok,hb,if_neg (by simp),Zo (by omega)]
     rw [Zat hr hL]
     rw [hL] at h1;exact h1
 obtain ⟨r,h1,h2⟩:=loop l.length 0 (by omega)
 have h3:R E 156 [.c x,.c f] h=some ([.c (.int .i64 r)],h):=by
  refine Zd hE.c156.fn ?_
  rw [q156_eq,hx.len];exact h1
 refine Zd hE.fn ?_
 rw [q155_eq,h3,c1_ok,asI_ok,h2];rfl
end
section
variable (C:Zab) (L:Zbv) (G:Glo)
variable {h0:Za}
variable {x1:Cell}
variable {a0:Int}
variable {l0:List Cell}
theorem q158_eq:q158.body C L G [(.c (.int .i64 a0))] h0=scK (decide (a0>=97)) true (some ((decide (a0<=122)),h0)) false h0 fun b h=>some ([(.c (.bool b))],h):=by kernel_rfl
theorem q159_eq:q159.body C L G [(.agg l0),(.c x1)] h0=Ze l0 0 fun q=>Zk .i64 (.c q) fun n=>if 0=0/\(Ya 9 ci0).length=9/\(splice (Ya 9 ci0) 0 [(.int .i64 n)]).length=9 then Ze l0 0 fun q=>Zk .i64 (.c q) fun n1=>if (n1==1)=true then Ze l0 2 fun q=>Zk .i64 (.c q) fun n2=>if 3+2<=l0.length then if 2<(splice (Ya 9 ci0) 0 [(.int .i64 n)]).length then if 3+2<=((splice (Ya 9 ci0) 0 [(.int .i64 n)]).set 2 (.int .i64 n2)).length/\((l0.drop 3).take 2).length=2 then Ze l0 2 fun q=>Zk .i64 (.c q) fun n3=>fnK x1 fun g l=>c1 (C g ([(.c (.int .i64 n3))]++l) h0) fun y h=>asB y fun b=>scK b true (if 3+2<=l0.length then c1 (C 163 [(.agg ((l0.drop 3).take 2))] h) fun y h=>asB y fun b=>some (b,h) else none) false h fun b h=>scK b true (if 0=0/\l0.length=9 then if 0=0/\(splice ((splice (Ya 9 ci0) 0 [(.int .i64 n)]).set 2 (.int .i64 n2)) 3 ((l0.drop 3).take 2)).length=9 then if alike l0 (Ya 9 ci0)=true/\alike (splice ((splice (Ya 9 ci0) 0 [(.int .i64 n)]).set 2 (.int .i64 n2)) 3 ((l0.drop 3).take 2)) (Ya 9 ci0)=true then some ((decide (l0=(splice ((splice (Ya 9 ci0) 0 [(.int .i64 n)]).set 2 (.int .i64 n2)) 3 ((l0.drop 3).take 2)))),h) else none else none else none) false h fun b h=>some ([(.c (.bool b))],h) else none else none else none else if (n1==2)=true then Ze l0 1 fun q=>Zk .i64 (.c q) fun n2=>Ze l0 2 fun q=>Zk .i64 (.c q) fun n3=>if 1<(splice (Ya 9 ci0) 0 [(.int .i64 n)]).length then if 2<((splice (Ya 9 ci0) 0 [(.int .i64 n)]).set 1 (.int .i64 n2)).length then Ze l0 2 fun q=>Zk .i64 (.c q) fun n4=>fnK x1 fun g l=>c1 (C g ([(.c (.int .i64 n4))]++l) h0) fun y h=>asB y fun b=>scK b true (Ze l0 1 fun q=>Zk .i64 (.c q) fun n=>c1 (C 164 [(.c (.int .i64 n))] h) fun y h=>asB y fun b=>some (b,h)) false h fun b h=>scK b true (if 0=0/\l0.length=9 then if 0=0/\(((splice (Ya 9 ci0) 0 [(.int .i64 n)]).set 1 (.int .i64 n2)).set 2 (.int .i64 n3)).length=9 then if alike l0 (Ya 9 ci0)=true/\alike (((splice (Ya 9 ci0) 0 [(.int .i64 n)]).set 1 (.int .i64 n2)).set 2 (.int .i64 n3)) (Ya 9 ci0)=true then some ((decide (l0=(((splice (Ya 9 ci0) 0 [(.int .i64 n)]).set 1 (.int .i64 n2)).set 2 (.int .i64 n3)))),h) else none else none else none) false h fun b h=>some ([(.c (.bool b))],h) else none else none else if (n1==3)=true then scK true true (if 0=0/\l0.length=9 then if 0=0/\(splice (Ya 9 ci0) 0 [(.int .i64 n)]).length=9 then if alike l0 (Ya 9 ci0)=true/\alike (splice (Ya 9 ci0) 0 [(.int .i64 n)]) (Ya 9 ci0)=true then some ((decide (l0=(splice (Ya 9 ci0) 0 [(.int .i64 n)]))),h0) else none else none else none) false h0 fun b h=>some ([(.c (.bool b))],h) else if (n1==4)=true then Ze l0 1 fun q=>Zk .i64 (.c q) fun n2=>Ze l0 2 fun q=>Zk .i64 (.c q) fun n3=>if 3+2<=l0.length then if 6+2<=l0.length then if 1<(splice (Ya 9 ci0) 0 [(.int .i64 n)]).length then if 2<((splice (Ya 9 ci0) 0 [(.int .i64 n)]).set 1 (.int .i64 n2)).length then if 3+2<=(((splice (Ya 9 ci0) 0 [(.int .i64 n)]).set 1 (.int .i64 n2)).set 2 (.int .i64 n3)).length/\((l0.drop 3).take 2).length=2 then if 6+2<=(splice (((splice (Ya 9 ci0) 0 [(.int .i64 n)]).set 1 (.int .i64 n2)).set 2 (.int .i64 n3)) 3 ((l0.drop 3).take 2)).length/\((l0.drop 6).take 2).length=2 then Ze l0 2 fun q=>Zk .i64 (.c q) fun n4=>fnK x1 fun g l=>c1 (C g ([(.c (.int .i64 n4))]++l) h0) fun y h=>asB y fun b=>scK b true (Ze l0 1 fun q=>Zk .i64 (.c q) fun n=>c1 (C 164 [(.c (.int .i64 n))] h) fun y h=>asB y fun b=>some (b,h)) false h fun b h=>scK b true (if 3+2<=l0.length then c1 (C 163 [(.agg ((l0.drop 3).take 2))] h) fun y h=>asB y fun b=>some (b,h) else none) false h fun b h=>scK b true (if 6+2<=l0.length then c1 (C 163 [(.agg ((l0.drop 6).take 2))] h) fun y h=>asB y fun b=>some (b,h) else none) false h fun b h=>scK b true (if 0=0/\l0.length=9 then if 0=0/\(splice (splice (((splice (Ya 9 ci0) 0 [(.int .i64 n)]).set 1 (.int .i64 n2)).set 2 (.int .i64 n3)) 3 ((l0.drop 3).take 2)) 6 ((l0.drop 6).take 2)).length=9 then if alike l0 (Ya 9 ci0)=true/\alike (splice (splice (((splice (Ya 9 ci0) 0 [(.int .i64 n)]).set 1 (.int .i64 n2)).set 2 (.int .i64 n3)) 3 ((l0.drop 3).take 2)) 6 ((l0.drop 6).take 2)) (Ya 9 ci0)=true then some ((decide (l0=(splice (splice (((splice (Ya 9 ci0) 0 [(.int .i64 n)]).set 1 (.int .i64 n2)).set 2 (.int .i64 n3)) 3 ((l0.drop 3).take 2)) 6 ((l0.drop 6).take 2)))),h) else none else none else none) false h fun b h=>some ([(.c (.bool b))],h) else none else none else none else none else none else none else if (n1==5)=true then Ze l0 1 fun q=>Zk .i64 (.c q) fun n2=>if 3+2<=l0.length then Ze l0 5 fun q=>Zk .i64 (.c q) fun n3=>if 6+2<=l0.length then if 1<(splice (Ya 9 ci0) 0 [(.int .i64 n)]).length then if 3+2<=((splice (Ya 9 ci0) 0 [(.int .i64 n)]).set 1 (.int .i64 n2)).length/\((l0.drop 3).take 2).length=2 then if 5<(splice ((splice (Ya 9 ci0) 0 [(.int .i64 n)]).set 1 (.int .i64 n2)) 3 ((l0.drop 3).take 2)).length then if 6+2<=((splice ((splice (Ya 9 ci0) 0 [(.int .i64 n)]).set 1 (.int .i64 n2)) 3 ((l0.drop 3).take 2)).set 5 (.int .i64 n3)).length/\((l0.drop 6).take 2).length=2 then Ze l0 1 fun q=>Zk .i64 (.c q) fun n4=>c1 (C 164 [(.c (.int .i64 n4))] h0) fun y h=>asB y fun b=>scK b true (if 3+2<=l0.length then c1 (C 163 [(.agg ((l0.drop 3).take 2))] h) fun y h=>asB y fun b=>some (b,h) else none) false h fun b h=>scK b true (if 6+2<=l0.length then c1 (C 163 [(.agg ((l0.drop 6).take 2))] h) fun y h=>asB y fun b=>some (b,h) else none) false h fun b h=>scK b true (Ze l0 5 fun q=>Zk .i64 (.c q) fun n=>some ((decide (n>=0)),h)) false h fun b h=>scK b true (Ze l0 5 fun q=>Zk .i64 (.c q) fun n=>some ((decide (n<=11)),h)) false h fun b h=>scK b true (Ze l0 5 fun q=>Zk .i64 (.c q) fun n=>scK (decide (n > 0)) false (if 6+2<=l0.length then if alike ((l0.drop 6).take 2) ([ci0,ci0])=true/\alike (splice [ci0,ci0] 0 [(.int .i64 (-1))]) ([ci0,ci0])=true then some ((decide (((l0.drop 6).take 2)=(splice [ci0,ci0] 0 [(.int .i64 (-1))]))),h) else none else none) true h fun b h=>some (b,h)) false h fun b h=>scK b true (if 0=0/\l0.length=9 then if 0=0/\(splice ((splice ((splice (Ya 9 ci0) 0 [(.int .i64 n)]).set 1 (.int .i64 n2)) 3 ((l0.drop 3).take 2)).set 5 (.int .i64 n3)) 6 ((l0.drop 6).take 2)).length=9 then if alike l0 (Ya 9 ci0)=true/\alike (splice ((splice ((splice (Ya 9 ci0) 0 [(.int .i64 n)]).set 1 (.int .i64 n2)) 3 ((l0.drop 3).take 2)).set 5 (.int .i64 n3)) 6 ((l0.drop 6).take 2)) (Ya 9 ci0)=true then some ((decide (l0=(splice ((splice ((splice (Ya 9 ci0) 0 [(.int .i64 n)]).set 1 (.int .i64 n2)) 3 ((l0.drop 3).take 2)).set 5 (.int .i64 n3)) 6 ((l0.drop 6).take 2)))),h) else none else none else none) false h fun b h=>some ([(.c (.bool b))],h) else none else none else none else none else none else none else if (n1==6)=true then Ze l0 8 fun q=>Zk .i64 (.c q) fun n1=>if 3+2<=l0.length then if 6+2<=l0.length then if 8<(splice (Ya 9 ci0) 0 [(.int .i64 n)]).length then if 3+2<=((splice (Ya 9 ci0) 0 [(.int .i64 n)]).set 8 (.int .i64 n1)).length/\((l0.drop 3).take 2).length=2 then if 6+2<=(splice ((splice (Ya 9 ci0) 0 [(.int .i64 n)]).set 8 (.int .i64 n1)) 3 ((l0.drop 3).take 2)).length/\((l0.drop 6).take 2).length=2 then Ze l0 8 fun q=>Zk .i64 (.c q) fun n2=>scK (decide (n2>=0)) true (if 3+2<=l0.length then c1 (C 163 [(.agg ((l0.drop 3).take 2))] h0) fun y h=>asB y fun b=>some (b,h) else none) false h0 fun b h=>scK b true (if 6+2<=l0.length then c1 (C 163 [(.agg ((l0.drop 6).take 2))] h) fun y h=>asB y fun b=>some (b,h) else none) false h fun b h=>scK b true (if 0=0/\l0.length=9 then if 0=0/\(splice (splice ((splice (Ya 9 ci0) 0 [(.int .i64 n)]).set 8 (.int .i64 n1)) 3 ((l0.drop 3).take 2)) 6 ((l0.drop 6).take 2)).length=9 then if alike l0 (Ya 9 ci0)=true/\alike (splice (splice ((splice (Ya 9 ci0) 0 [(.int .i64 n)]).set 8 (.int .i64 n1)) 3 ((l0.drop 3).take 2)) 6 ((l0.drop 6).take 2)) (Ya 9 ci0)=true then some ((decide (l0=(splice (splice ((splice (Ya 9 ci0) 0 [(.int .i64 n)]).set 8 (.int .i64 n1)) 3 ((l0.drop 3).take 2)) 6 ((l0.drop 6).take 2)))),h) else none else none else none) false h fun b h=>some ([(.c (.bool b))],h) else none else none else none else none else none else some ([(.c (.bool false))],h0) else none:=by kernel_rfl
theorem q163_eq:q163.body C L G [(.agg l0)] h0=Ze l0 0 fun q=>Zk .i64 (.c q) fun n=>scK (n==(-1)) false (Ze l0 0 fun q=>Zk .i64 (.c q) fun n=>c1 (C 164 [(.c (.int .i64 n))] h0) fun y h=>asB y fun b=>scK b true (Ze l0 1 fun q=>Zk .i64 (.c q) fun n=>some ((n==0),h)) false h fun b h=>some (b,h)) true h0 fun b h=>some ([(.c (.bool b))],h):=by kernel_rfl
theorem q164_eq:q164.body C L G [(.c (.int .i64 a0))] h0=scK (decide (a0>=0)) true (some ((decide (a0<4)),h0)) false h0 fun b h=>some ([(.c (.bool b))],h):=by kernel_rfl
end
def locB (n:Int):Bool:=decide (n>=97)&&decide (n<=122)
def Zsj (n:Int):Bool:=decide (n>=0)&&decide (n<4)
def opB (o:Opd):Bool:=o.reg==-1||(Zsj o.reg&&o.val==0)
def fldB (has:Int->Bool) (i:Ins):Bool :=
 if i.kind=1 then has i.loc&&opB i.a&&decide (i.cs=(⟨i.kind,0,i.loc,i.a,0,⟨0,0⟩,0⟩:Ins).cs)
 else if i.kind=2 then has i.loc&&Zsj i.reg&&decide (i.cs=(⟨i.kind,i.reg,i.loc,⟨0,0⟩,0,⟨0,0⟩,0⟩:Ins).cs)
 else if i.kind=3 then decide (i.cs=(⟨i.kind,0,0,⟨0,0⟩,0,⟨0,0⟩,0⟩:Ins).cs)
 else if i.kind=4 then has i.loc&&Zsj i.reg&&opB i.a&&opB i.b&&decide (i.cs=(⟨i.kind,i.reg,i.loc,i.a,0,i.b,0⟩:Ins).cs)
 else if i.kind=5 then Zsj i.reg&&opB i.a&&opB i.b&&decide (i.op>=0)&&decide (i.op<=11)&&(decide (i.op > 0)||decide (i.b.cs=(⟨-1,0⟩:Opd).cs))&&decide (i.cs=(⟨i.kind,i.reg,0,i.a,i.op,i.b,0⟩:Ins).cs)
 else if i.kind=6 then decide (i.n>=0)&&opB i.a&&opB i.b&&decide (i.cs=(⟨i.kind,0,0,i.a,0,i.b,i.n⟩:Ins).cs)
 else false
section
variable {E:Env}
theorem IsLoc_R (hE:q158_In E) (n:Int) (h:Za):R E 158 [.c (.int .i64 n)] h=some ([.c (.bool (locB n))],h):=by
 refine Zd hE.fn ?_
 rw [q158_eq,scK_and];rfl
theorem Zoa (hE:q164_In E) (n:Int) (h:Za):R E 164 [.c (.int .i64 n)] h=some ([.c (.bool (Zsj n))],h):=by
 refine Zd hE.fn ?_
 rw [q164_eq,scK_and];rfl
theorem Zdh (hE:q163_In E) (o:Opd) (h:Za):R E 163 [.agg o.cs] h=some ([.c (.bool (opB o))],h):=by
 refine Zd hE.fn ?_
 have a0:∀{α:Type} (f:Cell->Option α),Ze o.cs 0 f=f (.int .i64 o.reg):=fun _=>rfl
 have a1:∀{α:Type} (f:Cell->Option α),Ze o.cs 1 f=f (.int .i64 o.val):=fun _=>rfl
 rw [q163_eq]
 simp only [a0,a1,asI_ok,Zoa hE.c164,c1_ok,asB_ok,scK_and,scK_or]
 rfl
def Says (E:Env) (h:Za) (f:Cell) (has:Int->Bool):Prop:=∀(n:Int) {α:Type} (F:AV->Za->Option α),(fnK f fun g cs=>c1 (R E g ([.c (.int .i64 n)]++cs) h) F)=F (.c (.bool (has n))) h
theorem Fields_R (hE:q159_In E) (i:Ins) {f:Cell} {has:Int->Bool} {h:Za} (hf:Says E h f has):R E 159 [.agg i.cs,.c f] h=some ([.c (.bool (fldB has i))],h):=by
 refine Zd hE.fn ?_
 rw [q159_eq,ins_kind,asI_ok,if_pos ⟨rfl,rfl,rfl⟩,ins_kind,asI_ok]
 by_cases h1:i.kind=1
 ·rw [if_pos (by simpa using h1),ins_loc,asI_ok,if_pos (by exact Yb rfl),if_pos (by exact Yb rfl),if_pos (by exact ⟨Yb rfl,rfl⟩),ins_loc,asI_ok,hf,asB_ok,if_pos (by exact Yb rfl),ins_a,Zdh hE.c163,c1_ok,asB_ok,scK_and,if_pos ⟨rfl,rfl⟩,if_pos ⟨rfl,rfl⟩,if_pos ⟨rfl,rfl⟩,scK_and,fldB,if_pos h1]
  rfl
 rw [if_neg (by simpa using h1)]
 by_cases h2:i.kind=2
 ·rw [if_pos (by simpa using h2),ins_reg,asI_ok,ins_loc,asI_ok,if_pos (by exact Yb rfl),if_pos (by exact Yb rfl),ins_loc,asI_ok,hf,asB_ok,ins_reg,asI_ok,Zoa hE.c164,c1_ok,asB_ok,scK_and,if_pos ⟨rfl,rfl⟩,if_pos ⟨rfl,rfl⟩,if_pos ⟨rfl,rfl⟩,scK_and,fldB,if_neg h1,if_pos h2]
  rfl
 rw [if_neg (by simpa using h2)]
 by_cases h3:i.kind=3
 ·rw [if_pos (by simpa using h3),if_pos ⟨rfl,rfl⟩,if_pos ⟨rfl,rfl⟩,if_pos ⟨rfl,rfl⟩,scK_and,fldB,if_neg h1,if_neg h2,if_pos h3]
  rfl
 rw [if_neg (by simpa using h3)]
 by_cases h4:i.kind=4
 ·rw [if_pos (by simpa using h4),ins_reg,asI_ok,ins_loc,asI_ok,if_pos (by exact Yb rfl),if_pos (by exact Yb rfl),if_pos (by exact Yb rfl),if_pos (by exact Yb rfl),if_pos (by exact ⟨Yb rfl,rfl⟩),if_pos (by exact ⟨Yb rfl,rfl⟩),ins_loc,asI_ok,hf,asB_ok,ins_reg,asI_ok,Zoa hE.c164,c1_ok,asB_ok,scK_and,if_pos (by exact Yb rfl),ins_a,Zdh hE.c163,c1_ok,asB_ok,scK_and,if_pos (by exact Yb rfl),ins_b,Zdh hE.c163,c1_ok,asB_ok,scK_and,if_pos ⟨rfl,rfl⟩,if_pos ⟨rfl,rfl⟩,if_pos ⟨rfl,rfl⟩,scK_and,fldB,if_neg h1,if_neg h2,if_neg h3,if_pos h4]
  rfl
 rw [if_neg (by simpa using h4)]
 by_cases h5:i.kind=5
 ·rw [if_pos (by simpa using h5),ins_reg,asI_ok,if_pos (by exact Yb rfl),ins_op,asI_ok,if_pos (by exact Yb rfl),if_pos (by exact Yb rfl),if_pos (by exact ⟨Yb rfl,rfl⟩),if_pos (by exact Yb rfl),if_pos (by exact ⟨Yb rfl,rfl⟩),ins_reg,asI_ok,Zoa hE.c164,c1_ok,asB_ok,if_pos (by exact Yb rfl),ins_a,Zdh hE.c163,c1_ok,asB_ok,scK_and,if_pos (by exact Yb rfl),ins_b,Zdh hE.c163,c1_ok,asB_ok,scK_and,ins_op,asI_ok,scK_and,ins_op,asI_ok,scK_and,ins_op,asI_ok,if_pos (by exact Yb rfl),if_pos ⟨rfl,rfl⟩,scK_or,scK_and,if_pos ⟨rfl,rfl⟩,if_pos ⟨rfl,rfl⟩,if_pos ⟨rfl,rfl⟩,scK_and,fldB,if_neg h1,if_neg h2,if_neg h3,if_neg h4,if_pos h5]
  rfl
 rw [if_neg (by simpa using h5)]
 by_cases h6:i.kind=6
 ·rw [if_pos (by simpa using h6),ins_n,asI_ok,if_pos (by exact Yb rfl),if_pos (by exact Yb rfl),if_pos (by exact Yb rfl),if_pos (by exact ⟨Yb rfl,rfl⟩),if_pos (by exact ⟨Yb rfl,rfl⟩),ins_n,asI_ok,if_pos (by exact Yb rfl),ins_a,Zdh hE.c163,c1_ok,asB_ok,scK_and,if_pos (by exact Yb rfl),ins_b,Zdh hE.c163,c1_ok,asB_ok,scK_and,if_pos ⟨rfl,rfl⟩,if_pos ⟨rfl,rfl⟩,if_pos ⟨rfl,rfl⟩,scK_and,fldB,if_neg h1,if_neg h2,if_neg h3,if_neg h4,if_neg h5,if_pos h6]
  rfl
 rw [if_neg (by simpa using h6),fldB,if_neg h1,if_neg h2,if_neg h3,if_neg h4,if_neg h5,if_neg h6]
structure PTest.fits (T:PTest):Prop where
 name:T.name.size<9223372036854775807
 inits:T.inits.length<9223372036854775807
 thr:T.thr.length<9223372036854775807
 code:∀c∈T.thr,c.length<9223372036854775807
 any:T.any.length<9223372036854775807
 row:∀c∈T.any,c.length<9223372036854775807
end
section
variable (C:Zab) (L:Zbv) (G:Glo)
variable {h h0:Za}
variable {b2:Bool}
variable {x0 x5:Cell}
variable {a6 a7:Int}
def q148_k2 (h0:Za):Ex->St->Rs:=Zac (fun st=>q148_p1.exec C L G st (q148.fin G h0)) (q148.fin G h0)
def q148_k3 (h0:Za):Ex->St->Rs:=Zag 0 (q148_k2 C L G h0)
def q148_s1 (x0 x5:Cell) (a6 a7:Int) (h:Za):St:=⟨.v (.c x0) :: tops 4 (.v (.c x5) :: .v (.c (.int .i64 a6)) :: .v (.c (.int .i64 a7)) :: tops 23 []),[none],h⟩
def q148_F1 :St->Option (Ex × St):=Zt (q148_b1.exec C L G) [0,5,6,7] [] [(0,[2],[]),(1,[],[])]
def q148_x1_0 (b2:Bool) (h:Za):St:=⟨tops 2 (.v (.c (.bool b2)) :: tops 28 []),[none],h⟩
def q148_x1_1 (h:Za):St:=⟨tops 31 [],[none],h⟩
theorem q148_r1:q148_F1 C L G (q148_s1 x0 x5 a6 a7 h)=if (decide (a7<a6))=true then Zl 9 x5 a7 fun k N o=>Zp h k N fun l=>if o+9<=l.length then if 0=0/\(Ya 9 ci0).length=9/\((l.drop o).take 9).length=9 then Ze ((l.drop o).take 9) 0 fun q=>Zk .i64 (.c q) fun n=>scK (n==6) true (Ze ((l.drop o).take 9) 8 fun q=>Zk .i64 (.c q) fun n=>scK (decide (n<1)) false (Ze ((l.drop o).take 9) 8 fun q=>Zk .i64 (.c q) fun n=>Zz x0 fun n1=>let v:Int:=(G.wrap .i64 ((G.wrap .i64 (n1 - a7)) - 1));some ((decide (n > v)),h)) true h fun b h=>some (b,h)) false h fun b h1=>if b=true then some (.ret,(q148_x1_0 false h1)) else some (.normal,(q148_s1 x0 x5 a6 (G.wrap .i64 (a7+1)) h1)) else none else none else some ((.exit 0),(q148_x1_1 h)):=by kernel_rfl
theorem q148_e1_0:(q148_k3 C L G h0) .ret (q148_x1_0 b2 h)=some ([(.c (.bool b2))],h):=by kernel_rfl
theorem q148_e1_1:(q148_k3 C L G h0) (.exit 0) (q148_x1_1 h)=some ([(.c (.bool true))],h):=by kernel_rfl
theorem q148_eq:q148.body C L G [(.c x0)] h0=Zz x0 fun n=>(L (q148_F1 C L G) (q148_s1 x0 x0 n 0 h0)).bind fun p=>(q148_k3 C L G h0) p.1 p.2:=by kernel_rfl
end
section
variable {E:Env}
end
def jmpB (l:List Ins):Bool:=(Yy l.length).all fun k=>match l[k]? with | some i=>!(i.kind==6&&(decide (i.n<1)||decide (i.n > (l.length:Int) - k - 1))) | none=>true
def Zls (l:List (List Ins)):Int:=((l.map Yah).sum:Nat)
section
variable {E:Env}
theorem Jumps_R (hE:q148_In E) {x:Cell} {l:List Ins} {h:Za} (hx:SlAt h x 9 (Zaf l) l.length) (hl:l.length<9223372036854775807):R E 148 [.c x] h=some ([.c (.bool (jmpB l))],h):=by
 refine Zd hE.fn ?_
 have loop:∀(n i:Nat),i+n=l.length->(Zq (q148_F1 (R E) Zq E.glob) (q148_s1 x x l.length (i:Int) h)).bind (fun q=>q148_k3 (R E) Zq E.glob h q.1 q.2) =
   some ([.c (.bool ((Yy n).all fun k=>match l[i+k]? with | some q=>!(q.kind==6&&(decide (q.n<1)||decide (q.n > (l.length:Int) - ((i+k:Nat):Int) - 1))) | none=>true))],h):=by
  intro n
  induction n with
  | zero =>
   intro i hi
   have hr:q148_F1 (R E) Zq E.glob (q148_s1 x x l.length (i:Int) h)=some (.exit 0,q148_x1_1 h):=by rw [q148_r1,if_neg (by simp;omega)]
   rw [Zm hr,bind_ok,q148_e1_1];rfl
  | succ n ih =>
   intro i hi
   have hq:l[i]? = some l[i]:=Yd (by omega)
   generalize l[i]=b at hq
   obtain ⟨off,cc,g1,g2,g3⟩:=hx.insG hq
   have hg:q148_F1 (R E) Zq E.glob (q148_s1 x x l.length (i:Int) h)=if (b.kind==6&&(decide (b.n<1)||decide (b.n > (l.length:Int) - (i:Int) - 1)))=true then some (.ret,q148_x1_0 false h) else some (.normal,q148_s1 x x l.length ((i+1:Nat):Int) h):=by
    rw [q148_r1,if_pos (by simp;omega),g1,if_pos g2,g3,if_pos ⟨rfl,rfl,rfl⟩,ins_kind,asI_ok,ins_n,asI_ok,ins_n,asI_ok,hx.len]
    dsimp only
    rw [Zj (x:=(l.length:Int) - (i:Int)) (by omega) (by omega),Zj (by omega) (by omega),scK_or,scK_and,Zo (by omega)]
   rw [List.range_succ_eq_map,List.all_cons,List.all_map,Nat.add_zero,hq]
   dsimp only
   cases hb:(b.kind==6&&(decide (b.n<1)||decide (b.n > (l.length:Int) - (i:Int) - 1))) with
   | true =>
    rw [hb,if_pos rfl] at hg
    rw [Zcf hg,bind_ok,q148_e1_0];rfl
   | false =>
    rw [hb,if_neg (by simp)] at hg
    have h1:=ih (i+1) (by omega)
    rw [Yax,Yac]
    have he:((Yy n).all ((fun k=>match l[i+k]? with | some q=>!(q.kind==6&&(decide (q.n<1)||decide (q.n > (l.length:Int) - ((i+k:Nat):Int) - 1))) | none=>true) ∘ Nat.succ))=((Yy n).all fun k=>match l[i+1+k]? with | some q=>!(q.kind==6&&(decide (q.n<1)||decide (q.n > (l.length:Int) - ((i+1+k:Nat):Int) - 1))) | none=>true):=by
     congr 1
     funext k
     show (match l[i+(k+1)]? with | some q=>!(q.kind==6&&(decide (q.n<1)||decide (q.n > (l.length:Int) - ((i+(k+1):Nat):Int) - 1))) | none=>true)=_
     rw [show i+(k+1)=i+1+k by omega]
    rw [he]
    cases hL:Zq (q148_F1 (R E) Zq E.glob) (q148_s1 x x l.length ((i+1:Nat):Int) h) with
    | none=>rw [hL] at h1;cases h1
    | some w=>rw [Zat hg hL];rw [hL] at h1;exact h1
 have:=loop l.length 0 (by omega)
 rw [q148_eq,hx.len]
 rw [show ((0:Nat):Int)=0 from rfl] at this
 rw [this]
 unfold jmpB
 simp only [Nat.zero_add]
end
section
variable {E:Env}
theorem sumT_le (l:List (List Ins)) (h:∀c∈l,c.length<=1000):(l.map Yah).sum<=1000*l.length:=by
 induction l with
 | nil=>simp
 | cons a l ih =>
  have h1:=h a (by simp)
  have h2:=ih fun c hc=>h c (by simp [hc])
  rw [List.map_cons,List.sum_cons,List.length_cons];omega
theorem Zq709 (l:List (List Ins)) (c:List Ins):Zls (l++[c])=Zls l+c.length:=by
 unfold Zls;rw [List.map_append,List.sum_append];simp
end
section
variable (C:Zab) (L:Zbv) (G:Glo)
variable {h h0:Za}
variable {b95 b108:Bool}
variable {x0 x7 x12:Cell}
variable {a1 a8 a9 a10 a11 a13 a14 a15 a17 a83:Int}
variable {s0 s1 s2:List Cell}
variable {N0 N1 k0 k1 o0 o1:Nat}
def q97_k2 (h0:Za):Ex->St->Rs:=Zac (fun st=>q97_p1.exec C L G st (q97.fin G h0)) (q97.fin G h0)
def q97_c1 (a1:Int) (x7:Cell) (a8 a9:Int) (s0 s1:List Cell) (h:Za):St:=⟨tops 1 (.v (.c (.int .i64 a1)) :: tops 2 (.loc 0 0 :: .loc 1 0 :: tops 1 (.v (.c x7) :: .v (.c (.int .i64 a8)) :: .v (.c (.int .i64 a9)) :: tops 174 []))),[some s0,some s1,none],h⟩
def q97_k3 (h0:Za):Ex->St->Rs:=Zac (fun st=>q97_p2.exec C L G st (q97.fin G h0)) (q97.fin G h0)
def q97_k4 (h0:Za):Ex->St->Rs:=Zag 0 (q97_k3 C L G h0)
def q97_s2 (a1:Int) (x7:Cell) (a8 a9:Int) (a10 a11:Int) (s0 s1:List Cell) (h:Za):St:=⟨tops 1 (.v (.c (.int .i64 a1)) :: tops 2 (.loc 0 0 :: .loc 1 0 :: tops 1 (.v (.c x7) :: .v (.c (.int .i64 a8)) :: .v (.c (.int .i64 a9)) :: .v (.c (.int .i64 a10)) :: .v (.c (.int .i64 a11)) :: tops 172 []))),[some s0,some s1,none],h⟩
def q97_F2 :St->Option (Ex × St):=Zt (q97_b2.exec C L G) [1,4,5,7,8,9,10,11] [0,1] [(1,[4,5,7],[0,1])]
def q97_k5 :Ex->St->Option (Ex × St):=Zac (fun st=>q97_p3.exec C L G st (Zah [1,4,5,7,8,9,10,11] [0,1] [(1,[4,5,7],[0,1])])) (Zah [1,4,5,7,8,9,10,11] [0,1] [(1,[4,5,7],[0,1])])
def q97_k6 :Ex->St->Option (Ex × St):=Zag 1 (q97_k5 C L G)
def q97_k7 :Ex->St->Option (Ex × St):=Zac (fun st=>q97_p4.exec C L G st (q97_k6 C L G)) (q97_k6 C L G)
def q97_k8 :Ex->St->Option (Ex × St):=Zag 2 (q97_k7 C L G)
def q97_s1 (a1:Int) (x7:Cell) (a8 a9:Int) (a10 a11:Int) (x12:Cell) (a13:Int) (s0 s1:List Cell) (h:Za):St:=⟨tops 1 (.v (.c (.int .i64 a1)) :: tops 2 (.loc 0 0 :: .loc 1 0 :: tops 1 (.v (.c x7) :: .v (.c (.int .i64 a8)) :: .v (.c (.int .i64 a9)) :: .v (.c (.int .i64 a10)) :: .v (.c (.int .i64 a11)) :: .v (.c x12) :: .v (.c (.int .i64 a13)) :: tops 170 []))),[some s0,some s1,none],h⟩
def q97_F1 :St->Option (Ex × St):=Zt (q97_b1.exec C L G) [1,4,5,7,8,9,10,11,12,13] [0,1] [(3,[1,4,5,7,8,9,10,11,12],[0,1])]
def q97_k9 :Ex->St->Option (Ex × St):=Zac (fun st=>q97_p5.exec C L G st (Zah [1,4,5,7,8,9,10,11,12,13] [0,1] [(3,[1,4,5,7,8,9,10,11,12],[0,1])])) (Zah [1,4,5,7,8,9,10,11,12,13] [0,1] [(3,[1,4,5,7,8,9,10,11,12],[0,1])])
def q97_k10 :Ex->St->Option (Ex × St):=Zag 3 (q97_k9 C L G)
def q97_k11 :Ex->St->Option (Ex × St):=Zac (fun st=>q97_p6.exec C L G st (q97_k10 C L G)) (q97_k10 C L G)
def q97_c2 (a1:Int) (x7:Cell) (a8 a9:Int) (a10 a11:Int) (x12:Cell) (a13 a14 a15:Int) (s0 s1 s2:List Cell) (h:Za):St:=⟨tops 1 (.v (.c (.int .i64 a1)) :: tops 2 (.loc 0 0 :: .loc 1 0 :: tops 1 (.v (.c x7) :: .v (.c (.int .i64 a8)) :: .v (.c (.int .i64 a9)) :: .v (.c (.int .i64 a10)) :: .v (.c (.int .i64 a11)) :: .v (.c x12) :: .v (.c (.int .i64 a13)) :: .v (.c (.int .i64 a14)) :: .v (.c (.int .i64 a15)) :: .loc 2 0 :: tops 167 []))),[some s0,some s1,some s2],h⟩
def q97_k12 :Ex->St->Option (Ex × St):=Zag 4 (q97_k10 C L G)
def q97_k13 :Ex->St->Option (Ex × St):=Zac (fun st=>q97_p7.exec C L G st (q97_k12 C L G)) (q97_k12 C L G)
def q97_c3 (a1:Int) (x7:Cell) (a8 a9:Int) (a10 a11:Int) (x12:Cell) (a13 a15:Int) (a17 a83:Int) (b95:Bool) (s0 s1 s2:List Cell) (h:Za):St:=⟨tops 1 (.v (.c (.int .i64 a1)) :: tops 2 (.loc 0 0 :: .loc 1 0 :: tops 1 (.v (.c x7) :: .v (.c (.int .i64 a8)) :: .v (.c (.int .i64 a9)) :: .v (.c (.int .i64 a10)) :: .v (.c (.int .i64 a11)) :: .v (.c x12) :: .v (.c (.int .i64 a13)) :: tops 1 (.v (.c (.int .i64 a15)) :: .loc 2 0 :: .v (.c (.int .i64 a17)) :: tops 65 (.v (.c (.int .i64 a83)) :: tops 11 (.v (.c (.bool b95)) :: tops 88 [])))))),[some s0,some s1,some s2],h⟩
def q97_k14 :Ex->St->Option (Ex × St):=Zac (fun st=>q97_p8.exec C L G st (q97_k12 C L G)) (q97_k12 C L G)
def q97_c4 (a1:Int) (x7:Cell) (a8 a9:Int) (a10 a11:Int) (x12:Cell) (a13 a15:Int) (a17 a83:Int) (b108:Bool) (s0 s1 s2:List Cell) (h:Za):St:=⟨tops 1 (.v (.c (.int .i64 a1)) :: tops 2 (.loc 0 0 :: .loc 1 0 :: tops 1 (.v (.c x7) :: .v (.c (.int .i64 a8)) :: .v (.c (.int .i64 a9)) :: .v (.c (.int .i64 a10)) :: .v (.c (.int .i64 a11)) :: .v (.c x12) :: .v (.c (.int .i64 a13)) :: tops 1 (.v (.c (.int .i64 a15)) :: .loc 2 0 :: .v (.c (.int .i64 a17)) :: tops 65 (.v (.c (.int .i64 a83)) :: tops 24 (.v (.c (.bool b108)) :: tops 75 [])))))),[some s0,some s1,some s2],h⟩
def q97_x1_3 (a1:Int) (x7:Cell) (a8 a9:Int) (a10 a11:Int) (x12:Cell) (s0 s1:List Cell) (h:Za):St:=⟨tops 1 (.v (.c (.int .i64 a1)) :: tops 2 (.loc 0 0 :: .loc 1 0 :: tops 1 (.v (.c x7) :: .v (.c (.int .i64 a8)) :: .v (.c (.int .i64 a9)) :: .v (.c (.int .i64 a10)) :: .v (.c (.int .i64 a11)) :: .v (.c x12) :: tops 171 []))),[some s0,some s1,none],h⟩
def q97_x2_1 (x7:Cell) (s0 s1:List Cell) (h:Za):St:=⟨tops 4 (.loc 0 0 :: .loc 1 0 :: tops 1 (.v (.c x7) :: tops 176 [])),[some s0,some s1,none],h⟩
theorem q97_ec4_n:(q97_k14 C L G) .normal (q97_c4 a1 x7 a8 a9 a10 a11 x12 a13 a15 a17 a83 b108 s0 s1 s2 h)=if b108=true then if (splice (splice (splice (Ya 9 ci0) 0 [(.int .i64 2)]) 1 [(.int .i64 a17)]) 2 [(.int .i64 a15)]).length=9/\0+9<=(Ya 9 ci0).length then if (splice (Ya 9 ci0) 0 (splice (splice (splice (Ya 9 ci0) 0 [(.int .i64 2)]) 1 [(.int .i64 a17)]) 2 [(.int .i64 a15)])).length=1*9 then Zao 9 72 x12 (splice (Ya 9 ci0) 0 (splice (splice (splice (Ya 9 ci0) 0 [(.int .i64 2)]) 1 [(.int .i64 a17)]) 2 [(.int .i64 a15)])) h fun x h1=>some (.normal,(q97_s1 a1 x7 a8 a9 (G.wrap .i64 (a10+1)) a11 x (G.wrap .i64 (a13 - 1)) s0 s1 h1)) else none else none else if (a83==8)=true then if (splice (Ya 9 ci0) 0 [(.int .i64 3)]).length=9/\0+9<=(Ya 9 ci0).length then if (splice (Ya 9 ci0) 0 (splice (Ya 9 ci0) 0 [(.int .i64 3)])).length=1*9 then Zao 9 72 x12 (splice (Ya 9 ci0) 0 (splice (Ya 9 ci0) 0 [(.int .i64 3)])) h fun x h1=>some (.normal,(q97_s1 a1 x7 a8 a9 a10 a11 x (G.wrap .i64 (a13 - 1)) s0 s1 h1)) else none else none else if (a83==9)=true then if 0=0/\s2.length=2 then if s2.length=2/\3+2<=(splice (splice (splice (Ya 9 ci0) 0 [(.int .i64 4)]) 1 [(.int .i64 a17)]) 2 [(.int .i64 a15)]).length then if (splice (splice [ci0,ci0] 0 [(.int .i64 (-1))]) 1 [(.int .i64 1)]).length=2/\6+2<=(splice (splice (splice (splice (Ya 9 ci0) 0 [(.int .i64 4)]) 1 [(.int .i64 a17)]) 2 [(.int .i64 a15)]) 3 s2).length then if (splice (splice (splice (splice (splice (Ya 9 ci0) 0 [(.int .i64 4)]) 1 [(.int .i64 a17)]) 2 [(.int .i64 a15)]) 3 s2) 6 (splice (splice [ci0,ci0] 0 [(.int .i64 (-1))]) 1 [(.int .i64 1)])).length=9/\0+9<=(Ya 9 ci0).length then if (splice (Ya 9 ci0) 0 (splice (splice (splice (splice (splice (Ya 9 ci0) 0 [(.int .i64 4)]) 1 [(.int .i64 a17)]) 2 [(.int .i64 a15)]) 3 s2) 6 (splice (splice [ci0,ci0] 0 [(.int .i64 (-1))]) 1 [(.int .i64 1)]))).length=1*9 then Zao 9 72 x12 (splice (Ya 9 ci0) 0 (splice (splice (splice (splice (splice (Ya 9 ci0) 0 [(.int .i64 4)]) 1 [(.int .i64 a17)]) 2 [(.int .i64 a15)]) 3 s2) 6 (splice (splice [ci0,ci0] 0 [(.int .i64 (-1))]) 1 [(.int .i64 1)]))) h fun x h1=>some (.normal,(q97_s1 a1 x7 a8 a9 (G.wrap .i64 (a10+1)) a11 x (G.wrap .i64 (a13 - 1)) s0 s1 h1)) else none else none else none else none else none else if (a83==10)=true then if 0=0/\s2.length=2 then if s2.length=2/\3+2<=(splice (splice (Ya 9 ci0) 0 [(.int .i64 5)]) 1 [(.int .i64 a17)]).length then if ([(.int .i64 6)]:List Cell).length=1/\5+1<=(splice (splice (splice (Ya 9 ci0) 0 [(.int .i64 5)]) 1 [(.int .i64 a17)]) 3 s2).length then if (splice (splice [ci0,ci0] 0 [(.int .i64 (-1))]) 1 [(.int .i64 1)]).length=2/\6+2<=(splice (splice (splice (splice (Ya 9 ci0) 0 [(.int .i64 5)]) 1 [(.int .i64 a17)]) 3 s2) 5 [(.int .i64 6)]).length then if (splice (splice (splice (splice (splice (Ya 9 ci0) 0 [(.int .i64 5)]) 1 [(.int .i64 a17)]) 3 s2) 5 [(.int .i64 6)]) 6 (splice (splice [ci0,ci0] 0 [(.int .i64 (-1))]) 1 [(.int .i64 1)])).length=9/\0+9<=(Ya 9 ci0).length then if (splice (Ya 9 ci0) 0 (splice (splice (splice (splice (splice (Ya 9 ci0) 0 [(.int .i64 5)]) 1 [(.int .i64 a17)]) 3 s2) 5 [(.int .i64 6)]) 6 (splice (splice [ci0,ci0] 0 [(.int .i64 (-1))]) 1 [(.int .i64 1)]))).length=1*9 then Zao 9 72 x12 (splice (Ya 9 ci0) 0 (splice (splice (splice (splice (splice (Ya 9 ci0) 0 [(.int .i64 5)]) 1 [(.int .i64 a17)]) 3 s2) 5 [(.int .i64 6)]) 6 (splice (splice [ci0,ci0] 0 [(.int .i64 (-1))]) 1 [(.int .i64 1)]))) h fun x h1=>some (.normal,(q97_s1 a1 x7 a8 a9 a10 a11 x (G.wrap .i64 (a13 - 1)) s0 s1 h1)) else none else none else none else none else none else none else if 0=0/\s2.length=2 then if s2.length=2/\3+2<=(splice (Ya 9 ci0) 0 [(.int .i64 6)]).length then if (splice [ci0,ci0] 0 [(.int .i64 (-1))]).length=2/\6+2<=(splice (splice (Ya 9 ci0) 0 [(.int .i64 6)]) 3 s2).length then if ([(.int .i64 1)]:List Cell).length=1/\8+1<=(splice (splice (splice (Ya 9 ci0) 0 [(.int .i64 6)]) 3 s2) 6 (splice [ci0,ci0] 0 [(.int .i64 (-1))])).length then if (splice (splice [ci0,ci0] 0 [(.int .i64 (-1))]) 1 [(.int .i64 2)]).length=2/\3+2<=(splice (splice (Ya 9 ci0) 0 [(.int .i64 1)]) 2 [(.int .i64 a15)]).length then if (splice (splice (splice (splice (Ya 9 ci0) 0 [(.int .i64 6)]) 3 s2) 6 (splice [ci0,ci0] 0 [(.int .i64 (-1))])) 8 [(.int .i64 1)]).length=9/\0+9<=(Ya 18 ci0).length then if (splice (splice (splice (Ya 9 ci0) 0 [(.int .i64 1)]) 2 [(.int .i64 a15)]) 3 (splice (splice [ci0,ci0] 0 [(.int .i64 (-1))]) 1 [(.int .i64 2)])).length=9/\9+9<=(splice (Ya 18 ci0) 0 (splice (splice (splice (splice (Ya 9 ci0) 0 [(.int .i64 6)]) 3 s2) 6 (splice [ci0,ci0] 0 [(.int .i64 (-1))])) 8 [(.int .i64 1)])).length then if (splice (splice (Ya 18 ci0) 0 (splice (splice (splice (splice (Ya 9 ci0) 0 [(.int .i64 6)]) 3 s2) 6 (splice [ci0,ci0] 0 [(.int .i64 (-1))])) 8 [(.int .i64 1)])) 9 (splice (splice (splice (Ya 9 ci0) 0 [(.int .i64 1)]) 2 [(.int .i64 a15)]) 3 (splice (splice [ci0,ci0] 0 [(.int .i64 (-1))]) 1 [(.int .i64 2)]))).length=2*9 then Zao 9 72 x12 (splice (splice (Ya 18 ci0) 0 (splice (splice (splice (splice (Ya 9 ci0) 0 [(.int .i64 6)]) 3 s2) 6 (splice [ci0,ci0] 0 [(.int .i64 (-1))])) 8 [(.int .i64 1)])) 9 (splice (splice (splice (Ya 9 ci0) 0 [(.int .i64 1)]) 2 [(.int .i64 a15)]) 3 (splice (splice [ci0,ci0] 0 [(.int .i64 (-1))]) 1 [(.int .i64 2)]))) h fun x h=>some (.normal,(q97_s1 a1 x7 a8 a9 (G.wrap .i64 (a10+1)) a11 x (G.wrap .i64 (a13 - 1)) s0 s1 h)) else none else none else none else none else none else none else none else none:=by kernel_rfl
theorem q97_ec3_n:(q97_k13 C L G) .normal (q97_c3 a1 x7 a8 a9 a10 a11 x12 a13 a15 a17 a83 b95 s0 s1 s2 h)=if b95=true then if 0=0/\s2.length=2 then if s2.length=2/\3+2<=(splice (splice (Ya 9 ci0) 0 [(.int .i64 1)]) 2 [(.int .i64 a15)]).length then if (splice (splice (splice (Ya 9 ci0) 0 [(.int .i64 1)]) 2 [(.int .i64 a15)]) 3 s2).length=9/\0+9<=(Ya 9 ci0).length then if (splice (Ya 9 ci0) 0 (splice (splice (splice (Ya 9 ci0) 0 [(.int .i64 1)]) 2 [(.int .i64 a15)]) 3 s2)).length=1*9 then Zao 9 72 x12 (splice (Ya 9 ci0) 0 (splice (splice (splice (Ya 9 ci0) 0 [(.int .i64 1)]) 2 [(.int .i64 a15)]) 3 s2)) h fun x h1=>some (.normal,(q97_s1 a1 x7 a8 a9 (G.wrap .i64 (a10+1)) a11 x (G.wrap .i64 (a13 - 1)) s0 s1 h1)) else none else none else none else none else (if (a83==4)=true then some (.normal,(q97_c4 a1 x7 a8 a9 a10 a11 x12 a13 a15 a17 a83 (a83==4) s0 s1 s2 h)) else if (a83==5)=true then some (.normal,(q97_c4 a1 x7 a8 a9 a10 a11 x12 a13 a15 a17 a83 (a83==5) s0 s1 s2 h)) else if (a83==6)=true then some (.normal,(q97_c4 a1 x7 a8 a9 a10 a11 x12 a13 a15 a17 a83 (a83==6) s0 s1 s2 h)) else some (.normal,(q97_c4 a1 x7 a8 a9 a10 a11 x12 a13 a15 a17 a83 (a83==7) s0 s1 s2 h)):Option (Ex × St)).bind fun p=>(q97_k14 C L G) p.1 p.2:=by kernel_rfl
theorem q97_ec2_n:(q97_k11 C L G) .normal (q97_c2 a1 x7 a8 a9 a10 a11 x12 a13 a14 a15 s0 s1 s2 h)=(if ((G.rem .i64 a14 12)==0)=true then some (.normal,(q97_c3 a1 x7 a8 a9 a10 a11 x12 a13 a15 (G.band .i64 (G.shr .i64 a14 11) 1) (G.rem .i64 a14 12) ((G.rem .i64 a14 12)==0) s0 s1 s2 h)) else if ((G.rem .i64 a14 12)==1)=true then some (.normal,(q97_c3 a1 x7 a8 a9 a10 a11 x12 a13 a15 (G.band .i64 (G.shr .i64 a14 11) 1) (G.rem .i64 a14 12) ((G.rem .i64 a14 12)==1) s0 s1 s2 h)) else if ((G.rem .i64 a14 12)==2)=true then some (.normal,(q97_c3 a1 x7 a8 a9 a10 a11 x12 a13 a15 (G.band .i64 (G.shr .i64 a14 11) 1) (G.rem .i64 a14 12) ((G.rem .i64 a14 12)==2) s0 s1 s2 h)) else some (.normal,(q97_c3 a1 x7 a8 a9 a10 a11 x12 a13 a15 (G.band .i64 (G.shr .i64 a14 11) 1) (G.rem .i64 a14 12) ((G.rem .i64 a14 12)==3) s0 s1 s2 h)):Option (Ex × St)).bind fun p=>(q97_k13 C L G) p.1 p.2:=by kernel_rfl
theorem q97_r1:q97_F1 C L G (q97_s1 a1 x7 a8 a9 a10 a11 x12 a13 s0 s1 h)=scK (decide (a13 > 0)) true (some ((decide (a10<a1)),h)) false h fun b h=>if b=true then fnK x7 fun g l=>c1 (C g ([]++l) h) fun y h1=>Zk .i64 y fun n=>if a9=0 then none else let v:Int:=(G.wrap .i64 (120+(G.rem .i64 (G.shr .i64 n 4) a9)));if 0=0/\[ci0,ci0].length=2/\(splice (splice [ci0,ci0] 0 [(.int .i64 (-1))]) 1 [(.int .i64 (G.rem .i64 (G.shr .i64 n 6) 3))]).length=2 then (if ((G.rem .i64 (G.shr .i64 n 8) 3)==0)=true then if 0=0/\(splice (splice [ci0,ci0] 0 [(.int .i64 (-1))]) 1 [(.int .i64 (G.rem .i64 (G.shr .i64 n 6) 3))]).length=2/\(splice [ci0,ci0] 0 [(.int .i64 (G.band .i64 (G.shr .i64 n 10) 1))]).length=2 then some (.normal,(q97_c2 a1 x7 a8 a9 a10 a11 x12 a13 n v s0 s1 (splice [ci0,ci0] 0 [(.int .i64 (G.band .i64 (G.shr .i64 n 10) 1))]) h1)) else none else some (.normal,(q97_c2 a1 x7 a8 a9 a10 a11 x12 a13 n v s0 s1 (splice (splice [ci0,ci0] 0 [(.int .i64 (-1))]) 1 [(.int .i64 (G.rem .i64 (G.shr .i64 n 6) 3))]) h1)):Option (Ex × St)).bind fun p=>(q97_k11 C L G) p.1 p.2 else none else some ((.exit 2),(q97_x1_3 a1 x7 a8 a9 a10 a11 x12 s0 s1 h)):=by kernel_rfl
theorem q97_e1_3:(q97_k8 C L G) (.exit 2) (q97_x1_3 a1 x7 a8 a9 a10 a11 x12 s0 s1 h)=Ze s1 2 fun q=>if (splice [Cell.nils] 0 [x12]).length=1*1 then Zao 1 24 q (splice [Cell.nils] 0 [x12]) h fun x h=>if 2<s1.length then some (.normal,(q97_s2 a1 x7 a8 a9 a10 (G.wrap .i64 (a11+1)) s0 (s1.set 2 x) h)) else none else none:=by kernel_rfl
theorem q97_r2:q97_F2 C L G (q97_s2 a1 x7 a8 a9 a10 a11 s0 s1 h)=if (decide (a11<a8))=true then fnK x7 fun g l=>c1 (C g ([]++l) h) fun y h1=>Zk .i64 y fun n=>(L (q97_F1 C L G) (q97_s1 a1 x7 a8 a9 a10 a11 .nils (G.wrap .i64 ((G.rem .i64 n 3)+1)) s0 s1 h1)).bind fun p=>(q97_k8 C L G) p.1 p.2 else some ((.exit 0),(q97_x2_1 x7 s0 s1 h)):=by kernel_rfl
theorem q97_e2_1:(q97_k4 C L G h0) (.exit 0) (q97_x2_1 x7 s0 s1 h)=fnK x7 fun g l=>c1 (C g ([]++l) h) fun y h=>Zk .i64 y fun n=>if ((G.rem .i64 n 3)==0)=true then let v:Int:=(G.wrap .i64 ((G.rem .i64 (G.quo .i64 n 3) 2)+1));if (splice (splice (splice [ci0,ci0,ci0,ci0] 0 [(.int .i64 0)]) 1 [(.int .i64 (G.band .i64 (G.shr .i64 n 3) 1))]) 3 [(.int .i64 (G.band .i64 (G.shr .i64 n 4) 1))]).length=4/\0+4<=[ci0,ci0,ci0,ci0].length then if (splice [ci0,ci0,ci0,ci0] 0 (splice (splice (splice [ci0,ci0,ci0,ci0] 0 [(.int .i64 0)]) 1 [(.int .i64 (G.band .i64 (G.shr .i64 n 3) 1))]) 3 [(.int .i64 (G.band .i64 (G.shr .i64 n 4) 1))])).length=1*4 then if (splice (splice (splice [ci0,ci0,ci0,ci0] 0 [(.int .i64 (-1))]) 2 [(.int .i64 120)]) 3 [(.int .i64 (G.rem .i64 (G.shr .i64 n 5) 3))]).length=4/\0+4<=(Ya 8 ci0).length then if (splice (splice (splice [ci0,ci0,ci0,ci0] 0 [(.int .i64 1)]) 1 [(.int .i64 0)]) 3 [(.int .i64 (G.band .i64 (G.shr .i64 n 7) 1))]).length=4/\4+4<=(splice (Ya 8 ci0) 0 (splice (splice (splice [ci0,ci0,ci0,ci0] 0 [(.int .i64 (-1))]) 2 [(.int .i64 120)]) 3 [(.int .i64 (G.rem .i64 (G.shr .i64 n 5) 3))])).length then if (splice (splice (Ya 8 ci0) 0 (splice (splice (splice [ci0,ci0,ci0,ci0] 0 [(.int .i64 (-1))]) 2 [(.int .i64 120)]) 3 [(.int .i64 (G.rem .i64 (G.shr .i64 n 5) 3))])) 4 (splice (splice (splice [ci0,ci0,ci0,ci0] 0 [(.int .i64 1)]) 1 [(.int .i64 0)]) 3 [(.int .i64 (G.band .i64 (G.shr .i64 n 7) 1))])).length=2*4 then if (splice (splice [Cell.nils,Cell.nils] 0 ([(.sl h.length ((splice [ci0,ci0,ci0,ci0] 0 (splice (splice (splice [ci0,ci0,ci0,ci0] 0 [(.int .i64 0)]) 1 [(.int .i64 (G.band .i64 (G.shr .i64 n 3) 1))]) 3 [(.int .i64 (G.band .i64 (G.shr .i64 n 4) 1))])).length) 0 1)]:List Cell)) 1 ([(.sl ((h++[some (Blk.mk true 4 (splice [ci0,ci0,ci0,ci0] 0 (splice (splice (splice [ci0,ci0,ci0,ci0] 0 [(.int .i64 0)]) 1 [(.int .i64 (G.band .i64 (G.shr .i64 n 3) 1))]) 3 [(.int .i64 (G.band .i64 (G.shr .i64 n 4) 1))])))]).length) ((splice (splice (Ya 8 ci0) 0 (splice (splice (splice [ci0,ci0,ci0,ci0] 0 [(.int .i64 (-1))]) 2 [(.int .i64 120)]) 3 [(.int .i64 (G.rem .i64 (G.shr .i64 n 5) 3))])) 4 (splice (splice (splice [ci0,ci0,ci0,ci0] 0 [(.int .i64 1)]) 1 [(.int .i64 0)]) 3 [(.int .i64 (G.band .i64 (G.shr .i64 n 7) 1))])).length) 0 2)]:List Cell)).length=2*1 then if 3+2<=s1.length/\(splice (splice [ci0,Cell.nils] 0 [(.int .i64 v)]) 1 ([(.sl (((h++[some (Blk.mk true 4 (splice [ci0,ci0,ci0,ci0] 0 (splice (splice (splice [ci0,ci0,ci0,ci0] 0 [(.int .i64 0)]) 1 [(.int .i64 (G.band .i64 (G.shr .i64 n 3) 1))]) 3 [(.int .i64 (G.band .i64 (G.shr .i64 n 4) 1))])))])++[some (Blk.mk true 4 (splice (splice (Ya 8 ci0) 0 (splice (splice (splice [ci0,ci0,ci0,ci0] 0 [(.int .i64 (-1))]) 2 [(.int .i64 120)]) 3 [(.int .i64 (G.rem .i64 (G.shr .i64 n 5) 3))])) 4 (splice (splice (splice [ci0,ci0,ci0,ci0] 0 [(.int .i64 1)]) 1 [(.int .i64 0)]) 3 [(.int .i64 (G.band .i64 (G.shr .i64 n 7) 1))])))]).length) ((splice (splice [Cell.nils,Cell.nils] 0 ([(.sl h.length ((splice [ci0,ci0,ci0,ci0] 0 (splice (splice (splice [ci0,ci0,ci0,ci0] 0 [(.int .i64 0)]) 1 [(.int .i64 (G.band .i64 (G.shr .i64 n 3) 1))]) 3 [(.int .i64 (G.band .i64 (G.shr .i64 n 4) 1))])).length) 0 1)]:List Cell)) 1 ([(.sl ((h++[some (Blk.mk true 4 (splice [ci0,ci0,ci0,ci0] 0 (splice (splice (splice [ci0,ci0,ci0,ci0] 0 [(.int .i64 0)]) 1 [(.int .i64 (G.band .i64 (G.shr .i64 n 3) 1))]) 3 [(.int .i64 (G.band .i64 (G.shr .i64 n 4) 1))])))]).length) ((splice (splice (Ya 8 ci0) 0 (splice (splice (splice [ci0,ci0,ci0,ci0] 0 [(.int .i64 (-1))]) 2 [(.int .i64 120)]) 3 [(.int .i64 (G.rem .i64 (G.shr .i64 n 5) 3))])) 4 (splice (splice (splice [ci0,ci0,ci0,ci0] 0 [(.int .i64 1)]) 1 [(.int .i64 0)]) 3 [(.int .i64 (G.band .i64 (G.shr .i64 n 7) 1))])).length) 0 2)]:List Cell)).length) 0 2)]:List Cell)).length=2 then if 0=0/\(splice s1 3 (splice (splice [ci0,Cell.nils] 0 [(.int .i64 v)]) 1 ([(.sl (((h++[some (Blk.mk true 4 (splice [ci0,ci0,ci0,ci0] 0 (splice (splice (splice [ci0,ci0,ci0,ci0] 0 [(.int .i64 0)]) 1 [(.int .i64 (G.band .i64 (G.shr .i64 n 3) 1))]) 3 [(.int .i64 (G.band .i64 (G.shr .i64 n 4) 1))])))])++[some (Blk.mk true 4 (splice (splice (Ya 8 ci0) 0 (splice (splice (splice [ci0,ci0,ci0,ci0] 0 [(.int .i64 (-1))]) 2 [(.int .i64 120)]) 3 [(.int .i64 (G.rem .i64 (G.shr .i64 n 5) 3))])) 4 (splice (splice (splice [ci0,ci0,ci0,ci0] 0 [(.int .i64 1)]) 1 [(.int .i64 0)]) 3 [(.int .i64 (G.band .i64 (G.shr .i64 n 7) 1))])))]).length) ((splice (splice [Cell.nils,Cell.nils] 0 ([(.sl h.length ((splice [ci0,ci0,ci0,ci0] 0 (splice (splice (splice [ci0,ci0,ci0,ci0] 0 [(.int .i64 0)]) 1 [(.int .i64 (G.band .i64 (G.shr .i64 n 3) 1))]) 3 [(.int .i64 (G.band .i64 (G.shr .i64 n 4) 1))])).length) 0 1)]:List Cell)) 1 ([(.sl ((h++[some (Blk.mk true 4 (splice [ci0,ci0,ci0,ci0] 0 (splice (splice (splice [ci0,ci0,ci0,ci0] 0 [(.int .i64 0)]) 1 [(.int .i64 (G.band .i64 (G.shr .i64 n 3) 1))]) 3 [(.int .i64 (G.band .i64 (G.shr .i64 n 4) 1))])))]).length) ((splice (splice (Ya 8 ci0) 0 (splice (splice (splice [ci0,ci0,ci0,ci0] 0 [(.int .i64 (-1))]) 2 [(.int .i64 120)]) 3 [(.int .i64 (G.rem .i64 (G.shr .i64 n 5) 3))])) 4 (splice (splice (splice [ci0,ci0,ci0,ci0] 0 [(.int .i64 1)]) 1 [(.int .i64 0)]) 3 [(.int .i64 (G.band .i64 (G.shr .i64 n 7) 1))])).length) 0 2)]:List Cell)).length) 0 2)]:List Cell))).length=5 then if 0=0/\s0.length=5/\(splice s1 3 (splice (splice [ci0,Cell.nils] 0 [(.int .i64 v)]) 1 ([(.sl (((h++[some (Blk.mk true 4 (splice [ci0,ci0,ci0,ci0] 0 (splice (splice (splice [ci0,ci0,ci0,ci0] 0 [(.int .i64 0)]) 1 [(.int .i64 (G.band .i64 (G.shr .i64 n 3) 1))]) 3 [(.int .i64 (G.band .i64 (G.shr .i64 n 4) 1))])))])++[some (Blk.mk true 4 (splice (splice (Ya 8 ci0) 0 (splice (splice (splice [ci0,ci0,ci0,ci0] 0 [(.int .i64 (-1))]) 2 [(.int .i64 120)]) 3 [(.int .i64 (G.rem .i64 (G.shr .i64 n 5) 3))])) 4 (splice (splice (splice [ci0,ci0,ci0,ci0] 0 [(.int .i64 1)]) 1 [(.int .i64 0)]) 3 [(.int .i64 (G.band .i64 (G.shr .i64 n 7) 1))])))]).length) ((splice (splice [Cell.nils,Cell.nils] 0 ([(.sl h.length ((splice [ci0,ci0,ci0,ci0] 0 (splice (splice (splice [ci0,ci0,ci0,ci0] 0 [(.int .i64 0)]) 1 [(.int .i64 (G.band .i64 (G.shr .i64 n 3) 1))]) 3 [(.int .i64 (G.band .i64 (G.shr .i64 n 4) 1))])).length) 0 1)]:List Cell)) 1 ([(.sl ((h++[some (Blk.mk true 4 (splice [ci0,ci0,ci0,ci0] 0 (splice (splice (splice [ci0,ci0,ci0,ci0] 0 [(.int .i64 0)]) 1 [(.int .i64 (G.band .i64 (G.shr .i64 n 3) 1))]) 3 [(.int .i64 (G.band .i64 (G.shr .i64 n 4) 1))])))]).length) ((splice (splice (Ya 8 ci0) 0 (splice (splice (splice [ci0,ci0,ci0,ci0] 0 [(.int .i64 (-1))]) 2 [(.int .i64 120)]) 3 [(.int .i64 (G.rem .i64 (G.shr .i64 n 5) 3))])) 4 (splice (splice (splice [ci0,ci0,ci0,ci0] 0 [(.int .i64 1)]) 1 [(.int .i64 0)]) 3 [(.int .i64 (G.band .i64 (G.shr .i64 n 7) 1))])).length) 0 2)]:List Cell)).length) 0 2)]:List Cell))).length=5 then if 0=0/\(splice s1 3 (splice (splice [ci0,Cell.nils] 0 [(.int .i64 v)]) 1 ([(.sl (((h++[some (Blk.mk true 4 (splice [ci0,ci0,ci0,ci0] 0 (splice (splice (splice [ci0,ci0,ci0,ci0] 0 [(.int .i64 0)]) 1 [(.int .i64 (G.band .i64 (G.shr .i64 n 3) 1))]) 3 [(.int .i64 (G.band .i64 (G.shr .i64 n 4) 1))])))])++[some (Blk.mk true 4 (splice (splice (Ya 8 ci0) 0 (splice (splice (splice [ci0,ci0,ci0,ci0] 0 [(.int .i64 (-1))]) 2 [(.int .i64 120)]) 3 [(.int .i64 (G.rem .i64 (G.shr .i64 n 5) 3))])) 4 (splice (splice (splice [ci0,ci0,ci0,ci0] 0 [(.int .i64 1)]) 1 [(.int .i64 0)]) 3 [(.int .i64 (G.band .i64 (G.shr .i64 n 7) 1))])))]).length) ((splice (splice [Cell.nils,Cell.nils] 0 ([(.sl h.length ((splice [ci0,ci0,ci0,ci0] 0 (splice (splice (splice [ci0,ci0,ci0,ci0] 0 [(.int .i64 0)]) 1 [(.int .i64 (G.band .i64 (G.shr .i64 n 3) 1))]) 3 [(.int .i64 (G.band .i64 (G.shr .i64 n 4) 1))])).length) 0 1)]:List Cell)) 1 ([(.sl ((h++[some (Blk.mk true 4 (splice [ci0,ci0,ci0,ci0] 0 (splice (splice (splice [ci0,ci0,ci0,ci0] 0 [(.int .i64 0)]) 1 [(.int .i64 (G.band .i64 (G.shr .i64 n 3) 1))]) 3 [(.int .i64 (G.band .i64 (G.shr .i64 n 4) 1))])))]).length) ((splice (splice (Ya 8 ci0) 0 (splice (splice (splice [ci0,ci0,ci0,ci0] 0 [(.int .i64 (-1))]) 2 [(.int .i64 120)]) 3 [(.int .i64 (G.rem .i64 (G.shr .i64 n 5) 3))])) 4 (splice (splice (splice [ci0,ci0,ci0,ci0] 0 [(.int .i64 1)]) 1 [(.int .i64 0)]) 3 [(.int .i64 (G.band .i64 (G.shr .i64 n 7) 1))])).length) 0 2)]:List Cell)).length) 0 2)]:List Cell))).length=5 then some ([(.agg (splice s1 3 (splice (splice [ci0,Cell.nils] 0 [(.int .i64 v)]) 1 ([(.sl (((h++[some (Blk.mk true 4 (splice [ci0,ci0,ci0,ci0] 0 (splice (splice (splice [ci0,ci0,ci0,ci0] 0 [(.int .i64 0)]) 1 [(.int .i64 (G.band .i64 (G.shr .i64 n 3) 1))]) 3 [(.int .i64 (G.band .i64 (G.shr .i64 n 4) 1))])))])++[some (Blk.mk true 4 (splice (splice (Ya 8 ci0) 0 (splice (splice (splice [ci0,ci0,ci0,ci0] 0 [(.int .i64 (-1))]) 2 [(.int .i64 120)]) 3 [(.int .i64 (G.rem .i64 (G.shr .i64 n 5) 3))])) 4 (splice (splice (splice [ci0,ci0,ci0,ci0] 0 [(.int .i64 1)]) 1 [(.int .i64 0)]) 3 [(.int .i64 (G.band .i64 (G.shr .i64 n 7) 1))])))]).length) ((splice (splice [Cell.nils,Cell.nils] 0 ([(.sl h.length ((splice [ci0,ci0,ci0,ci0] 0 (splice (splice (splice [ci0,ci0,ci0,ci0] 0 [(.int .i64 0)]) 1 [(.int .i64 (G.band .i64 (G.shr .i64 n 3) 1))]) 3 [(.int .i64 (G.band .i64 (G.shr .i64 n 4) 1))])).length) 0 1)]:List Cell)) 1 ([(.sl ((h++[some (Blk.mk true 4 (splice [ci0,ci0,ci0,ci0] 0 (splice (splice (splice [ci0,ci0,ci0,ci0] 0 [(.int .i64 0)]) 1 [(.int .i64 (G.band .i64 (G.shr .i64 n 3) 1))]) 3 [(.int .i64 (G.band .i64 (G.shr .i64 n 4) 1))])))]).length) ((splice (splice (Ya 8 ci0) 0 (splice (splice (splice [ci0,ci0,ci0,ci0] 0 [(.int .i64 (-1))]) 2 [(.int .i64 120)]) 3 [(.int .i64 (G.rem .i64 (G.shr .i64 n 5) 3))])) 4 (splice (splice (splice [ci0,ci0,ci0,ci0] 0 [(.int .i64 1)]) 1 [(.int .i64 0)]) 3 [(.int .i64 (G.band .i64 (G.shr .i64 n 7) 1))])).length) 0 2)]:List Cell)).length) 0 2)]:List Cell))))],(((h++[some (Blk.mk true 4 (splice [ci0,ci0,ci0,ci0] 0 (splice (splice (splice [ci0,ci0,ci0,ci0] 0 [(.int .i64 0)]) 1 [(.int .i64 (G.band .i64 (G.shr .i64 n 3) 1))]) 3 [(.int .i64 (G.band .i64 (G.shr .i64 n 4) 1))])))])++[some (Blk.mk true 4 (splice (splice (Ya 8 ci0) 0 (splice (splice (splice [ci0,ci0,ci0,ci0] 0 [(.int .i64 (-1))]) 2 [(.int .i64 120)]) 3 [(.int .i64 (G.rem .i64 (G.shr .i64 n 5) 3))])) 4 (splice (splice (splice [ci0,ci0,ci0,ci0] 0 [(.int .i64 1)]) 1 [(.int .i64 0)]) 3 [(.int .i64 (G.band .i64 (G.shr .i64 n 7) 1))])))])++[some (Blk.mk true 1 (splice (splice [Cell.nils,Cell.nils] 0 ([(.sl h.length ((splice [ci0,ci0,ci0,ci0] 0 (splice (splice (splice [ci0,ci0,ci0,ci0] 0 [(.int .i64 0)]) 1 [(.int .i64 (G.band .i64 (G.shr .i64 n 3) 1))]) 3 [(.int .i64 (G.band .i64 (G.shr .i64 n 4) 1))])).length) 0 1)]:List Cell)) 1 ([(.sl ((h++[some (Blk.mk true 4 (splice [ci0,ci0,ci0,ci0] 0 (splice (splice (splice [ci0,ci0,ci0,ci0] 0 [(.int .i64 0)]) 1 [(.int .i64 (G.band .i64 (G.shr .i64 n 3) 1))]) 3 [(.int .i64 (G.band .i64 (G.shr .i64 n 4) 1))])))]).length) ((splice (splice (Ya 8 ci0) 0 (splice (splice (splice [ci0,ci0,ci0,ci0] 0 [(.int .i64 (-1))]) 2 [(.int .i64 120)]) 3 [(.int .i64 (G.rem .i64 (G.shr .i64 n 5) 3))])) 4 (splice (splice (splice [ci0,ci0,ci0,ci0] 0 [(.int .i64 1)]) 1 [(.int .i64 0)]) 3 [(.int .i64 (G.band .i64 (G.shr .i64 n 7) 1))])).length) 0 2)]:List Cell)))])) else none else none else none else none else none else none else none else none else none else none else if 0=0/\s1.length=5 then if 0=0/\s0.length=5/\s1.length=5 then if 0=0/\s1.length=5 then some ([(.agg s1)],h) else none else none else none:=by kernel_rfl
theorem q97_ec1_n:(q97_k2 C L G h0) .normal (q97_c1 a1 x7 a8 a9 s0 s1 h)=(L (q97_F2 C L G) (q97_s2 a1 x7 a8 a9 0 0 s0 s1 h)).bind fun p=>(q97_k4 C L G h0) p.1 p.2:=by kernel_rfl
theorem q97_eq:q97.body C L G [(.c x0),(.c (.int .i64 a1))] h0=if 0=0/\[Cell.str (ByteArray.mk #[]),Cell.nils,Cell.nils,ci0,Cell.nils].length=5/\(splice [Cell.str (ByteArray.mk #[]),Cell.nils,Cell.nils,ci0,Cell.nils] 0 ([(.str (ByteArray.mk #[116]))]:List Cell)).length=5 then Zp ((h0++[some (Blk.mk true 0 (AV.cells (.c x0)))])++[some (Blk.mk true 0 ([ci0]))]) ((h0++[some (Blk.mk true 0 (AV.cells (.c x0)))]).length) (([ci0]).length) fun l=>if 0<l.length then Zbe ((h0++[some (Blk.mk true 0 (AV.cells (.c x0)))])++[some (Blk.mk true 0 ([ci0]))]) ((h0++[some (Blk.mk true 0 (AV.cells (.c x0)))]).length) (l.set 0 (.int .i64 0)) fun h=>fnK (.fn 115 [((h0++[some (Blk.mk true 0 (AV.cells (.c x0)))]).length,([ci0]).length,0),(h0.length,(AV.cells (.c x0)).length,0)]) fun g l=>c1 (C g ([]++l) h) fun y h=>Zk .i64 y fun n=>fnK (.fn 115 [((h0++[some (Blk.mk true 0 (AV.cells (.c x0)))]).length,([ci0]).length,0),(h0.length,(AV.cells (.c x0)).length,0)]) fun g l=>c1 (C g ([]++l) h) fun y h=>Zk .i64 y fun n1=>(fnK (.fn 115 [((h0++[some (Blk.mk true 0 (AV.cells (.c x0)))]).length,([ci0]).length,0),(h0.length,(AV.cells (.c x0)).length,0)]) fun g l=>c1 (C g ([]++l) h) fun y h=>Zk .i64 y fun n2=>if ((G.rem .i64 n2 4)==0)=true then Ze (splice [Cell.str (ByteArray.mk #[]),Cell.nils,Cell.nils,ci0,Cell.nils] 0 ([(.str (ByteArray.mk #[116]))]:List Cell)) 1 fun q=>fnK (.fn 115 [((h0++[some (Blk.mk true 0 (AV.cells (.c x0)))]).length,([ci0]).length,0),(h0.length,(AV.cells (.c x0)).length,0)]) fun g l=>c1 (C g ([]++l) h) fun y h1=>Zk .i64 y fun n2=>if (splice (splice [ci0,ci0] 0 [(.int .i64 120)]) 1 [(.int .i64 (G.rem .i64 n2 3))]).length=2/\0+2<=[ci0,ci0].length then if (splice [ci0,ci0] 0 (splice (splice [ci0,ci0] 0 [(.int .i64 120)]) 1 [(.int .i64 (G.rem .i64 n2 3))])).length=1*2 then Zao 2 16 q (splice [ci0,ci0] 0 (splice (splice [ci0,ci0] 0 [(.int .i64 120)]) 1 [(.int .i64 (G.rem .i64 n2 3))])) h1 fun x h1=>if 1<(splice [Cell.str (ByteArray.mk #[]),Cell.nils,Cell.nils,ci0,Cell.nils] 0 ([(.str (ByteArray.mk #[116]))]:List Cell)).length then some (.normal,(q97_c1 a1 (.fn 115 [((h0++[some (Blk.mk true 0 (AV.cells (.c x0)))]).length,([ci0]).length,0),(h0.length,(AV.cells (.c x0)).length,0)]) (G.wrap .i64 ((G.rem .i64 n 2)+2)) (G.wrap .i64 ((G.rem .i64 n1 2)+2)) [Cell.str (ByteArray.mk #[]),Cell.nils,Cell.nils,ci0,Cell.nils] ((splice [Cell.str (ByteArray.mk #[]),Cell.nils,Cell.nils,ci0,Cell.nils] 0 ([(.str (ByteArray.mk #[116]))]:List Cell)).set 1 x) h1)) else none else none else none else some (.normal,(q97_c1 a1 (.fn 115 [((h0++[some (Blk.mk true 0 (AV.cells (.c x0)))]).length,([ci0]).length,0),(h0.length,(AV.cells (.c x0)).length,0)]) (G.wrap .i64 ((G.rem .i64 n 2)+2)) (G.wrap .i64 ((G.rem .i64 n1 2)+2)) [Cell.str (ByteArray.mk #[]),Cell.nils,Cell.nils,ci0,Cell.nils] (splice [Cell.str (ByteArray.mk #[]),Cell.nils,Cell.nils,ci0,Cell.nils] 0 ([(.str (ByteArray.mk #[116]))]:List Cell)) h)):Option (Ex × St)).bind fun p=>(q97_k2 C L G h0) p.1 p.2 else none else none:=by kernel_rfl
theorem q115_eq:q115.body C L G [(.c (.ptr k0 N0 o0)),(.c (.ptr k1 N1 o1))] h0=Zp h0 k0 N0 fun l=>Ze l o0 fun q=>Zk .i64 (.c q) fun n=>Zp h0 k0 N0 fun l=>if o0<l.length then Zbe h0 k0 (l.set o0 (.int .i64 (G.wrap .i64 (n+1)))) fun h=>Zp h k0 N0 fun l=>Ze l o0 fun q=>Zk .i64 (.c q) fun n=>Zp h k1 N1 fun l=>Ze l o1 fun q=>Zz q fun n1=>if (decide (n > n1))=true then some ([(.c (.int .i64 0))],h) else Zp h k1 N1 fun l=>Ze l o1 fun q=>Zp h k0 N0 fun l=>Ze l o0 fun q1=>Zk .i64 (.c q1) fun n=>Zl 1 q (G.wrap .i64 (n - 1)) fun k N o=>Zp h k N fun l=>Ze l o fun q=>Zk .i64 (.c q) fun n=>some ([(.c (.int .i64 (G.band .i64 n 65535)))],h) else none:=by kernel_rfl
end
def opdOk (o:Opd):Prop:=(o.reg = -1/\0<=o.val/\o.val<3)∨((o.reg=0∨o.reg=1)/\o.val=0)
def SmI (L:Int) (i:Ins):Prop :=
 (i.kind=1/\i.reg=0/\(120<=i.loc/\i.loc<120+L)/\opdOk i.a/\i.op=0/\i.b=⟨0,0⟩/\i.n=0) ∨
 (i.kind=2/\(i.reg=0∨i.reg=1)/\(120<=i.loc/\i.loc<120+L)/\i.a=⟨0,0⟩/\i.op=0/\i.b=⟨0,0⟩/\i.n=0) ∨
 (i=⟨3,0,0,⟨0,0⟩,0,⟨0,0⟩,0⟩) ∨
 (i.kind=4/\(i.reg=0∨i.reg=1)/\(120<=i.loc/\i.loc<120+L)/\opdOk i.a/\i.op=0/\i.b=⟨-1,1⟩/\i.n=0) ∨
 (i.kind=5/\(i.reg=0∨i.reg=1)/\i.loc=0/\opdOk i.a/\i.op=6/\i.b=⟨-1,1⟩/\i.n=0) ∨
 (i.kind=6/\i.reg=0/\i.loc=0/\opdOk i.a/\i.op=0/\i.b=⟨-1,0⟩/\i.n=1)
def Zet (c:List Ins):Nat:=c.countP fun i=>decide (i.kind=1∨i.kind=2∨i.kind=4)
inductive ThrOk (L:Int):Nat->List Ins->Prop
 | nil:ThrOk L 0 []
 | one {k:Nat} {c:List Ins} {i:Ins}:ThrOk L k c->SmI L i->i.kind≠6->ThrOk L (k+1) (c++[i])
 | two {k:Nat} {c:List Ins} {i j:Ins}:ThrOk L k c->SmI L i->i.kind=6->SmI L j->j.kind=1->ThrOk L (k+1) (c++[i,j])
theorem ThrOk.len {L:Int} {k:Nat} {c:List Ins} (t:ThrOk L k c):c.length<=2*k:=by
 induction t with
 | nil=>simp
 | one _ _ _ ih=>rw [Yg];simp;omega
 | two _ _ _ _ _ ih=>rw [Yg];simp;omega
theorem ThrOk.all {L:Int} {k:Nat} {c:List Ins} (t:ThrOk L k c):∀i∈c,SmI L i:=by
 induction t with
 | nil=>simp
 | one _ h _ ih =>
  intro i hi
  rcases Yav.1 hi with hi | hi
  ·exact ih i hi
  ·simp at hi;subst hi;exact h
 | two _ h _ h' _ ih =>
  intro i hi
  rcases Yav.1 hi with hi | hi
  ·exact ih i hi
  ·simp at hi;rcases hi with rfl | rfl
   ·exact h
   ·exact h'
theorem Zpi (a b:List Ins):Zet (a++b)=Zet a+Zet b:=by unfold Zet;rw [List.countP_append]
theorem Own.appM {n:Nat} {h:Za} {x:Cell} {esz len bytes m:Nat} {cs xs:List Cell} (o:Own n h x esz cs len) (hn:n<=h.length) (hx:xs.length=m*esz) (hm:0<m) (he:0<esz) (h1:(len+m)*bytes<=maxBytes) (h2:len+m<=maxBytes) :
  ∃x' h',(∀{α:Type} (f:Cell->Za->Option α),Zao esz bytes x xs h f=f x' h')/\Own n h' x' esz (cs++xs) (len+m)/\Kp n h h':=by
 have hd:xs.length / esz=m:=by rw [hx];exact Nat.mul_div_cancel _ he
 have hpos:0<xs.length:=by rw [hx];exact Nat.mul_pos hm he
 rcases o.2 with ⟨rfl,rfl⟩ | ⟨k,rfl,hk,hb⟩
 ·have hcs:cs=[]:=List.length_eq_zero_iff.1 (by have:=o.1;omega)
  subst hcs
  refine ⟨.sl h.length xs.length 0 m,h++[some ⟨true,esz,xs⟩],fun f=>?_,⟨by simp [hx],.inr ⟨h.length,by simp,hn,by rw [Yn];exact Zw _ _⟩⟩,Kp.app _ hn⟩
  unfold Zao;simp only;rw [if_neg (by omega),hd,if_pos ⟨by rw [Nat.zero_add] at h1;exact h1,by omega⟩]
 ·have hl:=o.1
  refine ⟨.sl k (len*esz+xs.length) 0 (len+m),setBlk h k (some ⟨true,esz,cs++xs⟩),fun f=>?_,⟨by simp [hl,hx,Nat.add_mul],.inr ⟨k,by simp [hl],hk,Zad (Zan hb) _⟩⟩,Kp.set hk _⟩
  unfold Zao;simp only;rw [hb,Option.bind_some];dsimp only
  rw [if_pos ⟨rfl,rfl,rfl,by omega,by rw [hd];exact h1,by rw [hd];exact h2⟩,if_neg (by omega),if_pos trivial,hd,Yk (by omega)]
section
variable {E:Env}
theorem Zxr {x k:Int} (hx:0<=x):0<=E.glob.shr .i64 x k:=by
 show 0<=x.fdiv (2 ^ min k.toNat 64)
 exact Int.fdiv_nonneg hx (Int.le_of_lt (Int.pow_pos (by omega)))
theorem Zdt {x m:Int} (hx:0<=x) (hm:0<m):0<=E.glob.rem .i64 x m/\E.glob.rem .i64 x m<m:=by
 rw [g_rem,Yt hx]
 exact ⟨Yv _ (by omega),Int.emod_lt_of_pos _ hm⟩
theorem g_band1 {x:Int}:E.glob.band .i64 x 1=x % 2:=by
 show IntKind.wrap .i64 ((Yi 64 x &&& Yi 64 1).toNat:Nat)=_
 have h1:(Yi 64 x &&& Yi 64 1).toNat=(Yi 64 x).toNat % 2:=by
  rw [Yas]
  have:(Yi 64 1).toNat=2 ^ 1 - 1:=by decide
  rw [this,Yaa]
 rw [h1,Yan]
 have h3:((((x % ((2 ^ 64:Nat):Int)).toNat % 2:Nat):Int))=x % 2:=by omega
 rw [h3]
 exact Zfo (by omega) (by omega)
theorem Zrh (x:Int):E.glob.band .i64 x 1=0∨E.glob.band .i64 x 1=1:=by rw [g_band1];omega
theorem Zlq {x:Int}:0<=E.glob.band .i64 x 65535/\E.glob.band .i64 x 65535<65536:=by
 have h:E.glob.band .i64 x 65535=x % 65536:=by
  show IntKind.wrap .i64 ((Yi 64 x &&& Yi 64 65535).toNat:Nat)=_
  have h1:(Yi 64 x &&& Yi 64 65535).toNat=(Yi 64 x).toNat % 65536:=by
   rw [Yas]
   have:(Yi 64 65535).toNat=2 ^ 16 - 1:=by decide
   rw [this,Yaa]
  rw [h1,Yan]
  have h3:((((x % ((2 ^ 64:Nat):Int)).toNat % 65536:Nat):Int))=x % 65536:=by omega
  rw [h3]
  exact Zfo (by omega) (by omega)
 rw [h];omega
def VarsAt (h0:Za) (x:Cell) (h:Za) (m:Nat):Prop :=
 blk? h h0.length=some ⟨true,0,[x]⟩/\blk? h (h0.length+1)=some ⟨true,0,[.int .i64 (m:Int)]⟩/\h0.length+2<=h.length/\Kp h0.length h0 h
def nxF (h0:Za):Cell:=.fn 115 [(h0.length+1,1,0),(h0.length,1,0)]
theorem VarsAt.keep {h0 h h':Za} {x:Cell} {m:Nat} (v:VarsAt h0 x h m) (hk:Kp (h0.length+2) h h'):VarsAt h0 x h' m :=
 ⟨by rw [hk.blk (by omega)];exact v.1,by rw [hk.blk (by omega)];exact v.2.1,Yz v.2.2.1 hk.1,v.2.2.2.trans (hk.mono (by omega))⟩
theorem Zsc {α:Type} {h:Za} {k:Nat} {a:Cell} (hk:blk? h k=some ⟨true,0,[a]⟩) {F:List Cell->Option α}:Zp h k 1 F=F [a]:=Zy hk rfl
theorem Zkg (hE:q115_In E) {h0 h:Za} {x:Cell} {l:List Int} {m:Nat} (hx:SlAt h0 x 1 (intC .i64 l) l.length) (hlow:Low h0.length x) (hl:l.length<9223372036854775808) (v:VarsAt h0 x h m) (hm:m<100000) :
  ∃r:Int,0<=r/\r<65536/\(∀{α:Type} (F:AV->Za->Option α),(fnK (nxF h0) fun g cs=>c1 (R E g ([]++cs) h) F)=F (.c (.int .i64 r)) (setBlk h (h0.length+1) (some ⟨true,0,[.int .i64 ((m+1:Nat):Int)]⟩))) /\
   VarsAt h0 x (setBlk h (h0.length+1) (some ⟨true,0,[.int .i64 ((m+1:Nat):Int)]⟩)) (m+1):=by
 obtain ⟨v1,v2,v3,v4⟩:=v
 have b2:blk? (setBlk h (h0.length+1) (some ⟨true,0,[.int .i64 ((m+1:Nat):Int)]⟩)) (h0.length+1)=some ⟨true,0,[.int .i64 ((m+1:Nat):Int)]⟩:=Zad (Zan v2) _
 have b1:blk? (setBlk h (h0.length+1) (some ⟨true,0,[.int .i64 ((m+1:Nat):Int)]⟩)) h0.length=some ⟨true,0,[x]⟩:=by rw [Zbh (by omega)];exact v1
 have kk:Kp h0.length h0 (setBlk h (h0.length+1) (some ⟨true,0,[.int .i64 ((m+1:Nat):Int)]⟩)):=v4.trans (Kp.set (by omega) _)
 have hx':=hx.keep hlow kk
 have hV:VarsAt h0 x (setBlk h (h0.length+1) (some ⟨true,0,[.int .i64 ((m+1:Nat):Int)]⟩)) (m+1):=⟨b1,b2,by rw [Zbw];exact v3,kk⟩
 have hb:q115.body (R E) Zq E.glob [.c (.ptr (h0.length+1) 1 0),.c (.ptr h0.length 1 0)] h=some ([.c (.int .i64 (if m+1 > l.length then 0 else E.glob.band .i64 (l.getD m 0) 65535))],setBlk h (h0.length+1) (some ⟨true,0,[.int .i64 ((m+1:Nat):Int)]⟩)):=by
  rw [q115_eq,Zsc v2,Zae (i:=0) (c:=.int .i64 (m:Int)) rfl,asI_ok,Zsc v2,if_pos (by simp),Zo (by omega),Zco v2 rfl]
  dsimp only [List.set]
  rw [Zsc b2,Zae (i:=0) (c:=.int .i64 ((m+1:Nat):Int)) rfl,asI_ok,Zsc b1,Zae (i:=0) (c:=x) rfl,hx'.len]
  by_cases hgt:m+1 > l.length
  ·rw [if_pos (by simp;omega),if_pos hgt]
  ·rw [if_neg (by simp;omega),if_neg hgt,Zsc b1,Zae (i:=0) (c:=x) rfl,Zsc b2,Zae (i:=0) (c:=.int .i64 ((m+1:Nat):Int)) rfl,asI_ok,Zj (by omega) (by omega),show ((m+1:Nat):Int) - 1=(m:Int) by omega,hx'.get1 (show m<l.length by omega) (Zar (getDI (by omega))),asI_ok]
 refine ⟨if m+1 > l.length then 0 else E.glob.band .i64 (l.getD m 0) 65535,?_,?_,fun F=>?_,hV⟩
 ·split
  ·omega
  ·exact Zlq.1
 ·split
  ·omega
  ·exact Zlq.2
 ·show c1 (R E 115 [.c (.ptr (h0.length+1) 1 0),.c (.ptr h0.length 1 0)] h) F=_
  rw [Zd hE.fn hb,c1_ok]
end
section
variable {E:Env}
def Zhm (E:Env) (most:Int) (fnc:Cell) (n L:Int) (mem:Nat) (i:Int) (k:Int) (s0 s1:List Cell) (N kk:Nat) (c:List Ins) (h:Za) (o:Option (Ex × St)):Prop :=
 ∃(c2:List Ins) (mem2:Nat) (xs2:Cell) (h2:Za),o=some (.normal,q97_s1 most fnc n L (mem2:Int) i xs2 (k - 1) s0 s1 h2)/\ThrOk L (kk+1) c2/\Zet c2+mem=Zet c+mem2/\mem<=mem2/\mem2<=mem+1 /\
  Own N h2 xs2 9 (Zaf c2) c2.length/\Kp N h h2
variable {most:Int} {fnc:Cell} {n L:Int} {mem:Nat} {i:Int} {xs:Cell} {k loc x r m:Int} {s0 s1:List Cell} {v:Opd} {h:Za} {N kk:Nat} {c:List Ins}
theorem Zlp {f:Cell->Za->Option (Ex × St)} {mem2:Nat} {j:Ins} (hxs:Own N h xs 9 (Zaf c) c.length) (hN:N<=h.length) (hc:c.length<=100) (t:ThrOk L kk c) (hj:SmI L j) (h6:j.kind≠6)
  (hm2:mem2=mem+Zet [j]) (hf:∀x' h',f x' h'=some (.normal,q97_s1 most fnc n L (mem2:Int) i x' (k - 1) s0 s1 h')) :
  Zhm E most fnc n L mem i k s0 s1 N kk c h (Zao 9 72 xs j.cs h f):=by
 have hm:maxBytes>=200*72:=by unfold maxBytes;omega
 obtain ⟨x',h',ha,ho,hk,_⟩:=hxs.app (bytes:=72) (xs:=j.cs) hN rfl (by omega) (by omega) (by omega)
 have h1:Zet [j]<=1:=by unfold Zet;exact Yz (List.countP_le_length) (by simp)
 refine ⟨c++[j],mem2,x',h',by rw [ha,hf],t.one hj h6,by rw [Zpi,hm2];omega,by omega,by omega,?_,hk⟩
 rw [Zpk,Yg,Yq];exact ho
theorem Zkr {j:Ins} (h:j.kind=1∨j.kind=2∨j.kind=4):Zet [j]=1:=by unfold Zet;rw [Yat,Yaw];simp [h]
theorem Zst {j:Ins} (h:¬(j.kind=1∨j.kind=2∨j.kind=4)):Zet [j]=0:=by unfold Zet;rw [Yat,Yaw];simp [h]
theorem Zkv (hxs:Own N h xs 9 (Zaf c) c.length) (hN:N<=h.length) (hc:c.length<=100) (t:ThrOk L kk c) (hv:opdOk v) (hloc:120<=loc/\loc<120+L) (hmem:mem<1000) (hk:0<=k/\k<=3) {b:Bool} (hb:b=true) :
  Zhm E most fnc n L mem i k s0 s1 N kk c h ((q97_k13 (R E) Zq E.glob) .normal (q97_c3 most fnc n L (mem:Int) i xs k loc r m b s0 s1 v.cs h)):=by
 have e:splice (splice (splice (Ya 9 ci0) 0 [(.int .i64 1)]) 2 [(.int .i64 loc)]) 3 v.cs=(Ins.mk 1 0 loc v 0 ⟨0,0⟩ 0).cs:=rfl
 rw [q97_ec3_n,if_pos hb,if_pos ⟨rfl,rfl⟩,if_pos ⟨rfl,by simp [splice]⟩,e,if_pos ⟨rfl,by simp⟩,ins_splice,if_pos (Zen _)]
 refine Zlp (mem2:=mem+1) hxs hN hc t (.inl ⟨rfl,rfl,hloc,hv,rfl,rfl,rfl⟩) (by simp) (by rw [Zkr (.inl rfl)]) fun x' h'=>?_
 rw [Zo (by omega),Zj (by omega) (by omega)]
theorem Zlj (hxs:Own N h xs 9 (Zaf c) c.length) (hN:N<=h.length) (hc:c.length<=100) (t:ThrOk L kk c) (hr:r=0∨r=1) (hloc:120<=loc/\loc<120+L) (hmem:mem<1000) (hk:0<=k/\k<=3) {b:Bool} (hb:b=true) {s2:List Cell} :
  Zhm E most fnc n L mem i k s0 s1 N kk c h ((q97_k14 (R E) Zq E.glob) .normal (q97_c4 most fnc n L (mem:Int) i xs k loc r m b s0 s1 s2 h)):=by
 have e:splice (splice (splice (Ya 9 ci0) 0 [(.int .i64 2)]) 1 [(.int .i64 r)]) 2 [(.int .i64 loc)]=(Ins.mk 2 r loc ⟨0,0⟩ 0 ⟨0,0⟩ 0).cs:=rfl
 rw [q97_ec4_n,if_pos hb,e,if_pos ⟨rfl,by simp⟩,ins_splice,if_pos (Zen _)]
 refine Zlp (mem2:=mem+1) hxs hN hc t (.inr (.inl ⟨rfl,hr,hloc,rfl,rfl,rfl,rfl⟩)) (by simp) (by rw [Zkr (.inr (.inl rfl))]) fun x' h'=>?_
 rw [Zo (by omega),Zj (by omega) (by omega)]
theorem mb2 {k:Nat} (hk:k<=100):(k+2)*72<=maxBytes/\k+2<=maxBytes:=by
 have hm:maxBytes>=200*72:=by unfold maxBytes;omega
 omega
theorem Zuy (a b:Ins):(Zaf [a,b]).length=2*9:=by rw [Zml];rfl
theorem two_ins {f:Cell->Za->Option (Ex × St)} {j q:Ins} (hxs:Own N h xs 9 (Zaf c) c.length) (hN:N<=h.length) (hc:c.length<=100) (t:ThrOk L kk c) (hj:SmI L j) (h6:j.kind=6) (hq:SmI L q) (h1:q.kind=1)
  (hf:∀x' h',f x' h'=some (.normal,q97_s1 most fnc n L ((mem+1:Nat):Int) i x' (k - 1) s0 s1 h')) :
  Zhm E most fnc n L mem i k s0 s1 N kk c h (Zao 9 72 xs (Zaf [j,q]) h f):=by
 obtain ⟨f1,f2⟩:=mb2 hc
 obtain ⟨x',h',ha,ho,hkp⟩:=hxs.appM hN (Zuy j q) Nat.zero_lt_two (Nat.succ_pos 8) f1 f2
 have e4:Zaf (c++[j,q])=Zaf c++Zaf [j,q]:=by simp [Zaf]
 refine ⟨c++[j,q],mem+1,x',h',by rw [ha,hf],t.two hj h6 hq h1,?_,by omega,by omega,?_,hkp⟩
 ·rw [Zpi]
  have:Zet [j,q]=1:=by
   show Zet ([j]++[q])=1
   rw [Zpi,Zst (by omega),Zkr (.inl h1)]
  omega
 ·rw [e4,Yg];exact ho
theorem z18_len:0+9<=(Ya 18 ci0).length:=by rw [Yaj];omega
theorem z18_one (a:Ins):9+9<=(splice (Ya 18 ci0) 0 a.cs).length:=by
 unfold splice
 rw [Yg,Yg,List.length_drop,Yar,Yaj,Ins.len];omega
theorem z18_two (a b:Ins):splice (splice (Ya 18 ci0) 0 a.cs) 9 b.cs=Zaf [a,b]:=rfl
theorem Ztx (hxs:Own N h xs 9 (Zaf c) c.length) (hN:N<=h.length) (hc:c.length<=100) (t:ThrOk L kk c) (hL:0<L) (hv:opdOk v) (hr:r=0∨r=1) (hloc:120<=loc/\loc<120+L) (hmem:mem<1000) (hk:0<=k/\k<=3) {b:Bool} (hb:b=false) :
  Zhm E most fnc n L mem i k s0 s1 N kk c h ((q97_k14 (R E) Zq E.glob) .normal (q97_c4 most fnc n L (mem:Int) i xs k loc r m b s0 s1 v.cs h)):=by
 have hm:maxBytes>=200*72:=by unfold maxBytes;omega
 rw [q97_ec4_n,if_neg (by rw [hb];simp)]
 by_cases h8:m=8
 ·have e:splice (Ya 9 ci0) 0 [(.int .i64 3)]=(Ins.mk 3 0 0 ⟨0,0⟩ 0 ⟨0,0⟩ 0).cs:=rfl
  rw [if_pos (by rw [h8];rfl),e,if_pos ⟨rfl,by simp⟩,ins_splice,if_pos (Zen _)]
  refine Zlp (mem2:=mem) hxs hN hc t (.inr (.inr (.inl rfl))) (by simp) (by rw [Zst (by simp)];rfl) fun x' h'=>?_
  rw [Zj (by omega) (by omega)]
 ·rw [if_neg (by rw [beq_iff_eq];exact h8)]
  by_cases h9:m=9
  ·have e:splice (splice (splice (splice (splice (Ya 9 ci0) 0 [(.int .i64 4)]) 1 [(.int .i64 r)]) 2 [(.int .i64 loc)]) 3 v.cs) 6 (splice (splice [ci0,ci0] 0 [(.int .i64 (-1))]) 1 [(.int .i64 1)])=(Ins.mk 4 r loc v 0 ⟨-1,1⟩ 0).cs:=rfl
   rw [if_pos (by rw [h9];rfl),if_pos ⟨rfl,rfl⟩,if_pos ⟨rfl,by simp [splice]⟩,if_pos ⟨rfl,by simp [splice,Opd.cs]⟩,e,if_pos ⟨rfl,by simp⟩,ins_splice,if_pos (Zen _)]
   refine Zlp (mem2:=mem+1) hxs hN hc t (.inr (.inr (.inr (.inl ⟨rfl,hr,hloc,hv,rfl,rfl,rfl⟩)))) (by simp) (by rw [Zkr (.inr (.inr rfl))]) fun x' h'=>?_
   rw [Zo (by omega),Zj (by omega) (by omega)]
  ·rw [if_neg (by rw [beq_iff_eq];exact h9)]
   by_cases h10:m=10
   ·have e:splice (splice (splice (splice (splice (Ya 9 ci0) 0 [(.int .i64 5)]) 1 [(.int .i64 r)]) 3 v.cs) 5 [(.int .i64 6)]) 6 (splice (splice [ci0,ci0] 0 [(.int .i64 (-1))]) 1 [(.int .i64 1)])=(Ins.mk 5 r 0 v 6 ⟨-1,1⟩ 0).cs:=rfl
    rw [if_pos (by rw [h10];rfl),if_pos ⟨rfl,rfl⟩,if_pos ⟨rfl,by simp [splice]⟩,if_pos ⟨rfl,by simp [splice,Opd.cs]⟩,if_pos ⟨rfl,by simp [splice,Opd.cs]⟩,e,if_pos ⟨rfl,by simp⟩,ins_splice,if_pos (Zen _)]
    refine Zlp (mem2:=mem) hxs hN hc t (.inr (.inr (.inr (.inr (.inl ⟨rfl,hr,rfl,hv,rfl,rfl,rfl⟩))))) (by simp) (by rw [Zst (by simp)];rfl) fun x' h'=>?_
    rw [Zj (by omega) (by omega)]
   ·have e1:splice (splice (splice (splice (Ya 9 ci0) 0 [(.int .i64 6)]) 3 v.cs) 6 (splice [ci0,ci0] 0 [(.int .i64 (-1))])) 8 [(.int .i64 1)]=(Ins.mk 6 0 0 v 0 ⟨-1,0⟩ 1).cs:=rfl
    have e2:splice (splice (splice (Ya 9 ci0) 0 [(.int .i64 1)]) 2 [(.int .i64 loc)]) 3 (splice (splice [ci0,ci0] 0 [(.int .i64 (-1))]) 1 [(.int .i64 2)])=(Ins.mk 1 0 loc ⟨-1,2⟩ 0 ⟨0,0⟩ 0).cs:=rfl
    rw [if_neg (by rw [beq_iff_eq];exact h10),if_pos ⟨rfl,rfl⟩,if_pos ⟨rfl,by simp [splice]⟩,if_pos ⟨rfl,by simp [splice,Opd.cs]⟩,if_pos ⟨rfl,by simp [splice,Opd.cs]⟩,if_pos ⟨rfl,by simp [splice]⟩,e1,e2,if_pos ⟨Ins.len _,z18_len⟩,if_pos ⟨Ins.len _,z18_one _⟩,z18_two,if_pos (Zuy _ _)]
    have hL2:(2:Int)<3/\(0:Int)<=2:=⟨by decide,by decide⟩
    have hst:SmI L (Ins.mk 1 0 loc ⟨-1,2⟩ 0 ⟨0,0⟩ 0):=.inl ⟨rfl,rfl,hloc,.inl ⟨rfl,hL2.2,hL2.1⟩,rfl,rfl,rfl⟩
    have hsk:SmI L (Ins.mk 6 0 0 v 0 ⟨-1,0⟩ 1):=.inr (.inr (.inr (.inr (.inr ⟨rfl,rfl,rfl,hv,rfl,rfl,rfl⟩))))
    refine two_ins hxs hN hc t hsk rfl hst rfl fun x' h'=>?_
    rw [Zo (by omega),Zj (by omega) (by omega)]
theorem Zwl (hxs:Own N h xs 9 (Zaf c) c.length) (hN:N<=h.length) (hc:c.length<=100) (t:ThrOk L kk c) (hL:0<L) (hv:opdOk v) (hx:0<=x) (hloc:120<=loc/\loc<120+L) (hmem:mem<1000) (hk:0<=k/\k<=3) :
  Zhm E most fnc n L mem i k s0 s1 N kk c h ((q97_k11 (R E) Zq E.glob) .normal (q97_c2 most fnc n L (mem:Int) i xs k x loc s0 s1 v.cs h)):=by
 have hr:=Zrh (E:=E) (E.glob.shr .i64 x 11)
 have hm:=Zdt (E:=E) hx (show (0:Int)<12 by omega)
 rw [q97_ec2_n]
 generalize E.glob.band .i64 (E.glob.shr .i64 x 11) 1=r at *
 generalize E.glob.rem .i64 x 12=m at *
 by_cases h0:m=0
 ·rw [if_pos (by rw [h0];rfl),bind_ok];exact Zkv hxs hN hc t hv hloc hmem hk (by rw [h0];rfl)
 rw [if_neg (by rw [beq_iff_eq];exact h0)]
 by_cases h1:m=1
 ·rw [if_pos (by rw [h1];rfl),bind_ok];exact Zkv hxs hN hc t hv hloc hmem hk (by rw [h1];rfl)
 rw [if_neg (by rw [beq_iff_eq];exact h1)]
 by_cases h2:m=2
 ·rw [if_pos (by rw [h2];rfl),bind_ok];exact Zkv hxs hN hc t hv hloc hmem hk (by rw [h2];rfl)
 rw [if_neg (by rw [beq_iff_eq];exact h2),bind_ok]
 by_cases h3:m=3
 ·exact Zkv hxs hN hc t hv hloc hmem hk (by rw [h3];rfl)
 rw [q97_ec3_n,if_neg (by rw [beq_iff_eq];exact h3)]
 by_cases h4:m=4
 ·rw [if_pos (by rw [h4];rfl),bind_ok];exact Zlj hxs hN hc t hr hloc hmem hk (by rw [h4];rfl)
 rw [if_neg (by rw [beq_iff_eq];exact h4)]
 by_cases h5:m=5
 ·rw [if_pos (by rw [h5];rfl),bind_ok];exact Zlj hxs hN hc t hr hloc hmem hk (by rw [h5];rfl)
 rw [if_neg (by rw [beq_iff_eq];exact h5)]
 by_cases h6:m=6
 ·rw [if_pos (by rw [h6];rfl),bind_ok];exact Zlj hxs hN hc t hr hloc hmem hk (by rw [h6];rfl)
 rw [if_neg (by rw [beq_iff_eq];exact h6),bind_ok]
 by_cases h7:m=7
 ·exact Zlj hxs hN hc t hr hloc hmem hk (by rw [h7];rfl)
 exact Ztx hxs hN hc t hL hv hr hloc hmem hk (by rw [beq_eq_false_iff_ne];exact h7)
end
end Jq
