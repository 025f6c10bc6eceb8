/- YtlfhmbifgdhckaaGreatDoorPlayEndsC: a part of the proof; no conditions of its own. -/
import Derived.KernelRfl
import Derived.Lib.Join
import Derived.Below
import Derived.Laws.AppendOwn
import Derived.RangeFuncNested
import Derived.RangeFuncBound
import Derived.RangeFuncCalls
import Derived.RangeFuncLeaves
import Derived.Shelf.Abstract
import Derived.Shelf.RegionOpen
import Derived.WalkKit
import Derived.OwnWalkIn
import Derived.TacticsInMore
import Derived.LoopNIn
import Derived.LoopIn
import Derived.Lib.Strings
import Derived.Lib.Slices
import Derived.Lib.Walk
import Derived.Lib.Bytealg
import Derived.Maps.AppendAt
import Derived.Shelf.Strings.OnBuilder
import Derived.Test.YtlfhmbifgdhckaaGreatDoorProg
import Derived.Test.YtlfhmbifgdhckaaGreatDoorRows
import Derived.Test.YtlfhmbifgdhckaaGreatDoorPlayEndsB
set_option linter.unusedVariables false
set_option linter.unusedSimpArgs false

namespace Jq
open Go
variable (C:CallF) (L:LoopF) (G:Glo)
set_option maxRecDepth 100000 in
theorem q167_eq (a0:Int) (h0:AHeap):q167.body C L G [(.c (.int .i64 a0))] h0=scK (decide (a0<0)) false (some ((decide (a0≥24)),h0)) true h0 fun b_1 h_2=>if b_1=true then some ([(.c (.str (ByteArray.mk #[])))],h_2) else if (decide (a0<4))=true then c1 (C 45 [(.c (.int .i64 a0))] h_2) fun y_4 h_3=>asS y_4 fun z_5=>if ByteArray.size (ByteArray.mk #[116])+ByteArray.size z_5≤1099511627776 then some ([(.c (.str ((ByteArray.mk #[116])++z_5)))],h_3) else none else if (decide (a0<8))=true then c1 (C 45 [(.c (.int .i64 (G.wrap .i64 (a0 - 4))))] h_2) fun y_7 h_6=>asS y_7 fun z_8=>if ByteArray.size (ByteArray.mk #[102])+ByteArray.size z_8≤1099511627776 then some ([(.c (.str ((ByteArray.mk #[102])++z_8)))],h_6) else none else c1 (C 45 [(.c (.int .i64 (G.quo .i64 (G.wrap .i64 (a0 - 8)) 4)))] h_2) fun y_10 h_9=>asS y_10 fun z_11=>if ByteArray.size (ByteArray.mk #[102])+ByteArray.size z_11≤1099511627776 then if ByteArray.size ((ByteArray.mk #[102])++z_11)+ByteArray.size (ByteArray.mk #[46])≤1099511627776 then c1 (C 45 [(.c (.int .i64 (G.rem .i64 (G.wrap .i64 (a0 - 8)) 4)))] h_9) fun y_13 h_12=>asS y_13 fun z_14=>if ByteArray.size (((ByteArray.mk #[102])++z_11)++(ByteArray.mk #[46]))+ByteArray.size z_14≤1099511627776 then some ([(.c (.str ((((ByteArray.mk #[102])++z_11)++(ByteArray.mk #[46]))++z_14)))],h_12) else none else none else none:=by kernel_rfl
def q171_k2 (C:CallF) (L:LoopF) (G:Glo) (h0:AHeap):Ex→St→Option (List AV × AHeap):=kSeq (fun st=>q171_p1.exec C L G st (q171.fin G h0)) (q171.fin G h0)
def q171_k3 (C:CallF) (L:LoopF) (G:Glo) (h0:AHeap):Ex→St→Option (List AV × AHeap):=kBlk 0 (q171_k2 C L G h0)
def q171_s1 (a1:Int) (k6 N6 o6:Nat) (a24:Int) (s0:List Cell) (h:AHeap):St:=⟨tops 1 (.v (.c (.int .i64 a1)) :: .loc 0 0 :: tops 3 (.v (.c (.ptr k6 N6 o6)) :: tops 17 (.v (.c (.int .i64 a24)) :: tops 34 []))),[some s0],h⟩
def q171_F1 (C:CallF) (L:LoopF) (G:Glo):St→Option (Ex × St):=roundF (fun st f=>q171_b1.exec C L G st f) [1,2,6,24] [0] [(1,[2,6],[0])]
def q171_x1_1 (k6 N6 o6:Nat) (s0:List Cell) (h:AHeap):St:=⟨tops 2 (.loc 0 0 :: tops 3 (.v (.c (.ptr k6 N6 o6)) :: tops 52 [])),[some s0],h⟩
theorem q171_r1 (a1:Int) (k6 N6 o6:Nat) (a24:Int) (s0:List Cell) (h:AHeap):q171_F1 C L G (q171_s1 a1 k6 N6 o6 a24 s0 h)=if (decide (a24<4))=true then rdH h k6 N6 fun l_11=>if (o6+0)+3≤l_11.length then c1 (qh h (C 94 [(.agg ((l_11.drop (o6+0)).take 3)),(.c (.int .i64 a24))] h)) fun y_13 h_12=>asA y_13 fun l_14=>if 0≤a24∧a24<((4:Nat):Int) then rdH h k6 N6 fun l_15=>if ((o6+4)+((Int.toNat a24)*5))+5≤l_15.length∧l_14.length=5 then putH h k6 (splice l_15 ((o6+4)+((Int.toNat a24)*5)) l_14) fun h_16=>c1 (qh h_16 (C 190 [(.c (.int .i64 a1))] h_16)) fun y_18 h_17=>asA y_18 fun l_19=>if 0≤a24∧a24<((4:Nat):Int) then rdH h_16 k6 N6 fun l_20=>if ((o6+32)+((Int.toNat a24)*74))+74≤l_20.length∧l_19.length=74 then putH h_16 k6 (splice l_20 ((o6+32)+((Int.toNat a24)*74)) l_19) fun h_21=>if 0≤a24∧a24<((4:Nat):Int) then rdH h_21 k6 N6 fun l_22=>if ((o6+28)+((Int.toNat a24)*1))<l_22.length then putH h_21 k6 (l_22.set ((o6+28)+((Int.toNat a24)*1)) (.int .i64 (-1))) fun h_23=>some (.normal,(q171_s1 a1 k6 N6 o6 (G.wrap .i64 (a24+1)) s0 h_23)) else none else none else none else none else none else none else none else some ((.exit 0),(q171_x1_1 k6 N6 o6 s0 h)):=by kernel_rfl
theorem q171_e1_1 (h0:AHeap) (k6 N6 o6:Nat) (s0:List Cell) (h:AHeap):(q171_k3 C L G h0) (.exit 0) (q171_x1_1 k6 N6 o6 s0 h)=sliceAK h 4 1 false false (.ptr k6 N6 (o6+24)) [] fun x_24=>atK s0 1 fun q_25=>copyK 1 x_24 q_25 h fun n_26 h_27=>some ([(.c (.ptr k6 N6 o6)),(.c (.int .i64 0))],h_27):=by kernel_rfl
set_option maxRecDepth 100000 in
theorem q171_eq (l0:List Cell) (a1:Int) (h0:AHeap):q171.body C L G [(.agg l0),(.c (.int .i64 a1))] h0=scK (decide (a1<1)) false (some ((decide (a1 > 3)),h0)) true h0 fun b_1 h_2=>scK b_1 false (if 0=0∧l0.length=3 then c1 (C 188 [(.agg l0)] h_2) fun y_4 h_3=>asB y_4 fun b_5=>some ((!b_5),h_3) else none) true h_2 fun b_6 h_7=>if b_6=true then some ([(.c .nilp),(.c (.int .i64 1))],h_7) else if 0=0∧l0.length=3 then c1 (C 189 [(.agg l0)] h_7) fun y_9 h_8=>asA y_9 fun l_10=>if l_10.length=3∧0+3≤([Cell.nils,Cell.nils,Cell.nils]++List.replicate 325 ci0++[Cell.nils]).length then if ([(.int .i64 a1)]:List Cell).length=1∧3+1≤(splice ([Cell.nils,Cell.nils,Cell.nils]++List.replicate 325 ci0++[Cell.nils]) 0 l_10).length then (L (q171_F1 C L G) (q171_s1 a1 h_8.length ((AV.cells (.agg (splice (splice ([Cell.nils,Cell.nils,Cell.nils]++List.replicate 325 ci0++[Cell.nils]) 0 l_10) 3 [(.int .i64 a1)]))).length) 0 0 l0 (h_8++[some (Blk.mk true 0 (AV.cells (.agg (splice (splice ([Cell.nils,Cell.nils,Cell.nils]++List.replicate 325 ci0++[Cell.nils]) 0 l_10) 3 [(.int .i64 a1)]))))]))).bind fun p_28=>(q171_k3 C L G h0) p_28.1 p_28.2 else none else none else none:=by kernel_rfl
def q172_k2 (C:CallF) (L:LoopF) (G:Glo) (h0:AHeap):Ex→St→Option (List AV × AHeap):=kSeq (fun st=>q172_p1.exec C L G st (q172.fin G h0)) (q172.fin G h0)
def q172_k3 (C:CallF) (L:LoopF) (G:Glo) (h0:AHeap):Ex→St→Option (List AV × AHeap):=kBlk 0 (q172_k2 C L G h0)
def q172_s2 (k0 N0 o0:Nat) (a3 a13:Int) (h:AHeap):St:=⟨.v (.c (.ptr k0 N0 o0)) :: tops 2 (.v (.c (.int .u64 a3)) :: tops 9 (.v (.c (.int .i64 a13)) :: tops 95 [])),[none],h⟩
def q172_F2 (C:CallF) (L:LoopF) (G:Glo):St→Option (Ex × St):=roundF (fun st f=>q172_b2.exec C L G st f) [0,3,13] [] [(1,[3],[])]
def q172_k4 (C:CallF) (L:LoopF) (G:Glo):Ex→St→Option (Ex × St):=kSeq (fun st=>q172_p2.exec C L G st (kLoop [0,3,13] [] [(1,[3],[])])) (kLoop [0,3,13] [] [(1,[3],[])])
def q172_k5 (C:CallF) (L:LoopF) (G:Glo):Ex→St→Option (Ex × St):=kBlk 1 (q172_k4 C L G)
def q172_k6 (C:CallF) (L:LoopF) (G:Glo):Ex→St→Option (Ex × St):=kSeq (fun st=>q172_p3.exec C L G st (q172_k5 C L G)) (q172_k5 C L G)
def q172_c1 (k0 N0 o0:Nat) (a3 a4 a13:Int) (h:AHeap):St:=⟨.v (.c (.ptr k0 N0 o0)) :: tops 2 (.v (.c (.int .u64 a3)) :: .v (.c (.int .i64 a4)) :: tops 8 (.v (.c (.int .i64 a13)) :: tops 95 [])),[none],h⟩
def q172_k7 (C:CallF) (L:LoopF) (G:Glo):Ex→St→Option (Ex × St):=kBlk 2 (q172_k5 C L G)
def q172_s1 (k0 N0 o0:Nat) (a3 a4:Int) (a13 a75:Int) (h:AHeap):St:=⟨.v (.c (.ptr k0 N0 o0)) :: tops 2 (.v (.c (.int .u64 a3)) :: .v (.c (.int .i64 a4)) :: tops 8 (.v (.c (.int .i64 a13)) :: tops 61 (.v (.c (.int .i64 a75)) :: tops 33 []))),[none],h⟩
def q172_F1 (C:CallF) (L:LoopF) (G:Glo):St→Option (Ex × St):=roundF (fun st f=>q172_b1.exec C L G st f) [0,3,4,13,75] [] [(3,[0,3,13],[])]
def q172_x1_3 (k0 N0 o0:Nat) (a3 a13:Int) (h:AHeap):St:=⟨.v (.c (.ptr k0 N0 o0)) :: tops 2 (.v (.c (.int .u64 a3)) :: tops 9 (.v (.c (.int .i64 a13)) :: tops 95 [])),[none],h⟩
def q172_k8 (C:CallF) (L:LoopF) (G:Glo):Ex→St→Option (Ex × St):=kBlk 2 (q172_k5 C L G)
def q172_x2_1 (a3:Int) (h:AHeap):St:=⟨tops 3 (.v (.c (.int .u64 a3)) :: tops 105 []),[none],h⟩
theorem q172_r1 (k0 N0 o0:Nat) (a3 a4:Int) (a13 a75:Int) (h:AHeap):q172_F1 C L G (q172_s1 k0 N0 o0 a3 a4 a13 a75 h)=if (decide (a75<4))=true then if 0≤a4∧a4<((4:Nat):Int) then rdH h k0 N0 fun l_37=>if ((o0+32)+((Int.toNat a4)*74))+74≤l_37.length then c4 (C 192 [(.agg ((l_37.drop ((o0+32)+((Int.toNat a4)*74))).take 74)),(.c (.int .i64 a75))] h) fun y_39 y_40 y_41 y_42 h_38=>asI .i64 y_39 fun n_43=>asI .i64 y_40 fun n_44=>asI .i64 y_41 fun n_45=>asB y_42 fun b_46=>rdH h_38 k0 N0 fun l_47=>atK l_47 (o0+3) fun q_48=>asI .i64 (.c q_48) fun n_49=>scK (n_49==3) true (some (b_46,h_38)) false h_38 fun b_50 h_51=>if b_50=true then let v_52:Int:=(G.wrap .i64 (8+(G.wrap .i64 (4*a4))));c1 (C 18 [(.c (.int .u64 a3)),(.c (.int .i64 (G.wrap .i64 (v_52+a75))))] h_51) fun y_54 h_53=>asI .u64 y_54 fun n_55=>some (.normal,(q172_s1 k0 N0 o0 n_55 a4 a13 (G.wrap .i64 (a75+1)) h_53)) else some (.normal,(q172_s1 k0 N0 o0 a3 a4 a13 (G.wrap .i64 (a75+1)) h_51)) else none else none else some ((.exit 2),(q172_x1_3 k0 N0 o0 a3 a13 h)):=by kernel_rfl
theorem q172_e1_3 (k0 N0 o0:Nat) (a3 a13:Int) (h:AHeap):(q172_k7 C L G) (.exit 2) (q172_x1_3 k0 N0 o0 a3 a13 h)=some (.normal,(q172_s2 k0 N0 o0 a3 (G.wrap .i64 (a13+1)) h)):=by kernel_rfl
theorem q172_ec1_n (k0 N0 o0:Nat) (a3 a4 a13:Int) (h:AHeap):(q172_k6 C L G) .normal (q172_c1 k0 N0 o0 a3 a4 a13 h)=rdH h k0 N0 fun l_25=>atK l_25 (o0+3) fun q_26=>asI .i64 (.c q_26) fun n_27=>scK (n_27==2) true (if 0≤a4∧a4<((4:Nat):Int) then rdH h k0 N0 fun l_28=>if ((o0+32)+((Int.toNat a4)*74))+74≤l_28.length then c1 (C 191 [(.agg ((l_28.drop ((o0+32)+((Int.toNat a4)*74))).take 74))] h) fun y_30 h_29=>asB y_30 fun b_31=>some ((!b_31),h_29) else none else none) false h fun b_32 h_33=>if b_32=true then c1 (C 18 [(.c (.int .u64 a3)),(.c (.int .i64 (G.wrap .i64 (4+a4))))] h_33) fun y_35 h_34=>asI .u64 y_35 fun n_36=>(L (q172_F1 C L G) (q172_s1 k0 N0 o0 n_36 a4 a13 0 h_34)).bind fun p_56=>(q172_k7 C L G) p_56.1 p_56.2 else (L (q172_F1 C L G) (q172_s1 k0 N0 o0 a3 a4 a13 0 h_33)).bind fun p_57=>(q172_k8 C L G) p_57.1 p_57.2:=by kernel_rfl
theorem q172_r2 (k0 N0 o0:Nat) (a3 a13:Int) (h:AHeap):q172_F2 C L G (q172_s2 k0 N0 o0 a3 a13 h)=if (decide (a13<4))=true then rdH h k0 N0 fun l_1=>if (o0+0)+3≤l_1.length then if 0≤a13∧a13<((4:Nat):Int) then rdH h k0 N0 fun l_2=>if ((o0+4)+((Int.toNat a13)*5))+5≤l_2.length then c2 (qh h (C 105 [(.agg ((l_1.drop (o0+0)).take 3)),(.c (.int .i64 a13)),(.agg ((l_2.drop ((o0+4)+((Int.toNat a13)*5))).take 5))] h)) fun y_4 y_5 h_3=>asA y_4 fun l_6=>asB y_5 fun b_7=>if 0=0∧(List.replicate 9 ci0).length=9∧l_6.length=9 then atK l_6 0 fun q_8=>asI .i64 (.c q_8) fun n_9=>scK (n_9==3) false (atK l_6 0 fun q_10=>asI .i64 (.c q_10) fun n_11=>some ((n_11==4),h)) true h fun b_12 h_13=>(scK b_7 true (scK (!b_12) false (if 0≤a13∧a13<((4:Nat):Int) then rdH h_13 k0 N0 fun l_14=>if ((o0+32)+((Int.toNat a13)*74))+74≤l_14.length then c1 (C 191 [(.agg ((l_14.drop ((o0+32)+((Int.toNat a13)*74))).take 74))] h_13) fun y_16 h_15=>asB y_16 fun b_17=>some (b_17,h_15) else none else none) true h_13 fun b_18 h_19=>some (b_18,h_19)) false h_13 fun b_20 h_21=>if b_20=true then c1 (C 18 [(.c (.int .u64 a3)),(.c (.int .i64 a13))] h_21) fun y_23 h_22=>asI .u64 y_23 fun n_24=>some (.normal,(q172_c1 k0 N0 o0 n_24 a13 a13 h_22)) else some (.normal,(q172_c1 k0 N0 o0 a3 a13 a13 h_21)):Option (Ex × St)).bind fun p_58=>(q172_k6 C L G) p_58.1 p_58.2 else none else none else none else none else some ((.exit 0),(q172_x2_1 a3 h)):=by kernel_rfl
theorem q172_e2_1 (h0:AHeap) (a3:Int) (h:AHeap):(q172_k3 C L G h0) (.exit 0) (q172_x2_1 a3 h)=some ([(.c (.int .u64 a3))],h):=by kernel_rfl
set_option maxRecDepth 100000 in
theorem q172_eq (k0 N0 o0:Nat) (h0:AHeap):q172.body C L G [(.c (.ptr k0 N0 o0))] h0=(L (q172_F2 C L G) (q172_s2 k0 N0 o0 0 0 h0)).bind fun p_59=>(q172_k3 C L G h0) p_59.1 p_59.2:=by kernel_rfl
set_option maxRecDepth 100000 in
theorem q173_eq (k0 N0 o0:Nat) (a1:Int) (h0:AHeap):q173.body C L G [(.c (.ptr k0 N0 o0)),(.c (.int .i64 a1))] h0=c1 (C 172 [(.c (.ptr k0 N0 o0))] h0) fun y_2 h_1=>asI .u64 y_2 fun n_3=>c1 (C 17 [(.c (.int .u64 n_3)),(.c (.int .i64 a1))] h_1) fun y_5 h_4=>asB y_5 fun b_6=>if (!b_6)=true then if 0=0∧(List.replicate 7 ci0).length=7∧(List.replicate 7 ci0).length=7 then if 0=0∧(List.replicate 7 ci0).length=7 then some ([(.agg (List.replicate 7 ci0)),(.c (.bool false))],h_4) else none else none else if (decide (a1<4))=true then c1 (C 193 [(.c (.ptr k0 N0 o0)),(.c (.int .i64 a1))] h_4) fun y_8 h_7=>asA y_8 fun l_9=>if 0=0∧(List.replicate 7 ci0).length=7∧l_9.length=7 then if 0<l_9.length then rdH h_7 k0 N0 fun l_10=>atK l_10 (o0+328) fun q_11=>if 0=0∧(l_9.set 0 (.int .i64 a1)).length=7 then if (l_9.set 0 (.int .i64 a1)).length=7∧0+7≤(List.replicate 7 ci0).length then if (splice (List.replicate 7 ci0) 0 (l_9.set 0 (.int .i64 a1))).length=1*7 then appK 7 56 q_11 (splice (List.replicate 7 ci0) 0 (l_9.set 0 (.int .i64 a1))) h_7 fun x_12 h_13=>rdH h_13 k0 N0 fun l_14=>if (o0+328)<l_14.length then putH h_13 k0 (l_14.set (o0+328) x_12) fun h_15=>if 0=0∧(l_9.set 0 (.int .i64 a1)).length=7 then if 0=0∧(List.replicate 7 ci0).length=7∧(l_9.set 0 (.int .i64 a1)).length=7 then if 0=0∧(l_9.set 0 (.int .i64 a1)).length=7 then some ([(.agg (l_9.set 0 (.int .i64 a1))),(.c (.bool true))],h_15) else none else none else none else none else none else none else none else none else none else if (decide (a1<8))=true then c1 (C 194 [(.c (.ptr k0 N0 o0)),(.c (.int .i64 (G.wrap .i64 (a1 - 4)))),(.c (.int .i64 0))] h_4) fun y_17 h_16=>asA y_17 fun l_18=>if 0=0∧(List.replicate 7 ci0).length=7∧l_18.length=7 then if 0<l_18.length then rdH h_16 k0 N0 fun l_19=>atK l_19 (o0+328) fun q_20=>if 0=0∧(l_18.set 0 (.int .i64 a1)).length=7 then if (l_18.set 0 (.int .i64 a1)).length=7∧0+7≤(List.replicate 7 ci0).length then if (splice (List.replicate 7 ci0) 0 (l_18.set 0 (.int .i64 a1))).length=1*7 then appK 7 56 q_20 (splice (List.replicate 7 ci0) 0 (l_18.set 0 (.int .i64 a1))) h_16 fun x_21 h_22=>rdH h_22 k0 N0 fun l_23=>if (o0+328)<l_23.length then putH h_22 k0 (l_23.set (o0+328) x_21) fun h_24=>if 0=0∧(l_18.set 0 (.int .i64 a1)).length=7 then if 0=0∧(List.replicate 7 ci0).length=7∧(l_18.set 0 (.int .i64 a1)).length=7 then if 0=0∧(l_18.set 0 (.int .i64 a1)).length=7 then some ([(.agg (l_18.set 0 (.int .i64 a1))),(.c (.bool true))],h_24) else none else none else none else none else none else none else none else none else none else c1 (C 194 [(.c (.ptr k0 N0 o0)),(.c (.int .i64 (G.quo .i64 (G.wrap .i64 (a1 - 8)) 4))),(.c (.int .i64 (G.rem .i64 (G.wrap .i64 (a1 - 8)) 4)))] h_4) fun y_26 h_25=>asA y_26 fun l_27=>if 0=0∧(List.replicate 7 ci0).length=7∧l_27.length=7 then if 0<l_27.length then rdH h_25 k0 N0 fun l_28=>atK l_28 (o0+328) fun q_29=>if 0=0∧(l_27.set 0 (.int .i64 a1)).length=7 then if (l_27.set 0 (.int .i64 a1)).length=7∧0+7≤(List.replicate 7 ci0).length then if (splice (List.replicate 7 ci0) 0 (l_27.set 0 (.int .i64 a1))).length=1*7 then appK 7 56 q_29 (splice (List.replicate 7 ci0) 0 (l_27.set 0 (.int .i64 a1))) h_25 fun x_30 h_31=>rdH h_31 k0 N0 fun l_32=>if (o0+328)<l_32.length then putH h_31 k0 (l_32.set (o0+328) x_30) fun h_33=>if 0=0∧(l_27.set 0 (.int .i64 a1)).length=7 then if 0=0∧(List.replicate 7 ci0).length=7∧(l_27.set 0 (.int .i64 a1)).length=7 then if 0=0∧(l_27.set 0 (.int .i64 a1)).length=7 then some ([(.agg (l_27.set 0 (.int .i64 a1))),(.c (.bool true))],h_33) else none else none else none else none else none else none else none else none else none:=by kernel_rfl
set_option maxRecDepth 100000 in
theorem q174_eq (k0 N0 o0:Nat) (h0:AHeap):q174.body C L G [(.c (.ptr k0 N0 o0))] h0=c1 (C 172 [(.c (.ptr k0 N0 o0))] h0) fun y_2 h_1=>asI .u64 y_2 fun n_3=>some ([(.c (.bool (n_3==0)))],h_1):=by kernel_rfl
set_option maxRecDepth 100000 in
theorem q175_eq (k0 N0 o0:Nat) (h0:AHeap):q175.body C L G [(.c (.ptr k0 N0 o0))] h0=rdH h0 k0 N0 fun l_1=>atK l_1 (o0+328) fun q_2=>c1 (C 195 [(.c q_2)] h0) fun y_4 h_3=>asC y_4 fun x_5=>some ([(.c x_5)],h_3):=by kernel_rfl
def q189_k2 (C:CallF) (L:LoopF) (G:Glo) (h0:AHeap):Ex→St→Option (List AV × AHeap):=kSeq (fun st=>q189_p1.exec C L G st (q189.fin G h0)) (q189.fin G h0)
def q189_k3 (C:CallF) (L:LoopF) (G:Glo) (h0:AHeap):Ex→St→Option (List AV × AHeap):=kBlk 0 (q189_k2 C L G h0)
def q189_s1 (x14:Cell) (a15 a16:Int) (s1 s2:List Cell) (h:AHeap):St:=⟨tops 2 (.loc 1 0 :: .loc 2 0 :: tops 10 (.v (.c x14) :: .v (.c (.int .i64 a15)) :: .v (.c (.int .i64 a16)) :: tops 12 [])),[none,some s1,some s2],h⟩
def q189_F1 (C:CallF) (L:LoopF) (G:Glo):St→Option (Ex × St):=roundF (fun st f=>q189_b1.exec C L G st f) [2,3,14,15,16] [1,2] [(1,[2,3],[1,2])]
def q189_x1_1 (s1 s2:List Cell) (h:AHeap):St:=⟨tops 2 (.loc 1 0 :: .loc 2 0 :: tops 25 []),[none,some s1,some s2],h⟩
theorem q189_r1 (x14:Cell) (a15 a16:Int) (s1 s2:List Cell) (h:AHeap):q189_F1 C L G (q189_s1 x14 a15 a16 s1 s2 h)=if (decide (a16<a15))=true then idxSK 1 x14 a16 fun k_11 N_12 o_13=>rdH h k_11 N_12 fun l_14=>atK l_14 o_13 fun q_15=>atK s2 2 fun q_16=>c1 (C 119 [(.c q_15)] h) fun y_18 h_17=>asC y_18 fun x_19=>if (splice [Cell.nils] 0 [x_19]).length=1*1 then appK 1 24 q_16 (splice [Cell.nils] 0 [x_19]) h_17 fun x_20 h_21=>if 2<s2.length then some (.normal,(q189_s1 x14 a15 (G.wrap .i64 (a16+1)) s1 (s2.set 2 x_20) h_21)) else none else none else some ((.exit 0),(q189_x1_1 s1 s2 h)):=by kernel_rfl
theorem q189_e1_1 (h0:AHeap) (s1 s2:List Cell) (h:AHeap):(q189_k3 C L G h0) (.exit 0) (q189_x1_1 s1 s2 h)=if 0=0∧s2.length=3 then if 0=0∧s1.length=3∧s2.length=3 then if 0=0∧s2.length=3 then some ([(.agg s2)],h) else none else none else none:=by kernel_rfl
set_option maxRecDepth 100000 in
theorem q189_eq (l0:List Cell) (h0:AHeap):q189.body C L G [(.agg l0)] h0=atK l0 0 fun q_1=>c1 (C 202 [(.c q_1)] h0) fun y_3 h_2=>asC y_3 fun x_4=>atK l0 1 fun q_5=>c1 (C 203 [(.c q_5)] h_2) fun y_7 h_6=>asC y_7 fun x_8=>if 0=0∧[Cell.nils,Cell.nils,Cell.nils].length=3∧(splice (splice [Cell.nils,Cell.nils,Cell.nils] 0 [x_4]) 1 [x_8]).length=3 then atK l0 2 fun q_9=>lenK q_9 fun n_10=>(L (q189_F1 C L G) (q189_s1 q_9 n_10 0 [Cell.nils,Cell.nils,Cell.nils] (splice (splice [Cell.nils,Cell.nils,Cell.nils] 0 [x_4]) 1 [x_8]) h_6)).bind fun p_22=>(q189_k3 C L G h0) p_22.1 p_22.2 else none:=by kernel_rfl
def q193_k2 (C:CallF) (L:LoopF) (G:Glo) (h0:AHeap):Ex→St→Option (List AV × AHeap):=kSeq (fun st=>q193_p1.exec C L G st (q193.fin G h0)) (q193.fin G h0)
def q193_c1 (k0 N0 o0:Nat) (a1 a8 a9:Int) (s0 s1 s2:List Cell) (h:AHeap):St:=⟨.v (.c (.ptr k0 N0 o0)) :: .v (.c (.int .i64 a1)) :: tops 2 (.loc 0 0 :: .loc 1 0 :: .loc 2 0 :: tops 1 (.v (.c (.int .i64 a8)) :: .v (.c (.int .i64 a9)) :: tops 136 [])),[some s0,some s1,some s2,none],h⟩
def q193_k3 (C:CallF) (L:LoopF) (G:Glo) (h0:AHeap):Ex→St→Option (List AV × AHeap):=kSeq (fun st=>q193_p2.exec C L G st (q193.fin G h0)) (q193.fin G h0)
def q193_c2 (k0 N0 o0:Nat) (a1 a8 a9:Int) (s0 s1 s3:List Cell) (h:AHeap):St:=⟨.v (.c (.ptr k0 N0 o0)) :: .v (.c (.int .i64 a1)) :: tops 2 (.loc 0 0 :: .loc 1 0 :: tops 2 (.v (.c (.int .i64 a8)) :: .v (.c (.int .i64 a9)) :: tops 3 (.loc 3 0 :: tops 132 []))),[some s0,some s1,none,some s3],h⟩
theorem q193_ec2_n (h0:AHeap) (k0 N0 o0:Nat) (a1 a8 a9:Int) (s0 s1 s3:List Cell) (h:AHeap):(q193_k3 C L G h0) .normal (q193_c2 k0 N0 o0 a1 a8 a9 s0 s1 s3 h)=rdH h k0 N0 fun l_33=>atK l_33 (o0+328) fun q_34=>lenK q_34 fun n_35=>atK s3 2 fun q_36=>asI .i64 (.c q_36) fun n_37=>scK (n_37==2) true (rdH h k0 N0 fun l_38=>atK l_38 (o0+3) fun q_39=>asI .i64 (.c q_39) fun n_40=>some ((n_40 != 1),h)) false h fun b_41 h_42=>if b_41=true then if 0≤a1∧a1<((4:Nat):Int) then rdH h_42 k0 N0 fun l_43=>if ((o0+32)+((Int.toNat a1)*74))+74≤l_43.length then atK s3 3 fun q_44=>asI .i64 (.c q_44) fun n_45=>atK s3 5 fun q_46=>asI .i64 (.c q_46) fun n_47=>c1 (qh h_42 (C 206 [(.agg ((l_43.drop ((o0+32)+((Int.toNat a1)*74))).take 74)),(.c (.int .i64 n_45)),(.c (.int .i64 n_47)),(.c (.int .i64 n_35))] h_42)) fun y_49 h_48=>asA y_49 fun l_50=>if 0≤a1∧a1<((4:Nat):Int) then rdH h_42 k0 N0 fun l_51=>if ((o0+32)+((Int.toNat a1)*74))+74≤l_51.length∧l_50.length=74 then putH h_42 k0 (splice l_51 ((o0+32)+((Int.toNat a1)*74)) l_50) fun h_52=>rdH h_52 k0 N0 fun l_53=>if (o0+0)+3≤l_53.length then if 0=0∧s1.length=5 then c1 (qh h_52 (C 106 [(.agg ((l_53.drop (o0+0)).take 3)),(.c (.int .i64 a1)),(.agg s1),(.c (.int .i64 a8))] h_52)) fun y_55 h_54=>asA y_55 fun l_56=>if 0≤a1∧a1<((4:Nat):Int) then rdH h_52 k0 N0 fun l_57=>if ((o0+4)+((Int.toNat a1)*5))+5≤l_57.length∧l_56.length=5 then putH h_52 k0 (splice l_57 ((o0+4)+((Int.toNat a1)*5)) l_56) fun h_58=>atK s3 2 fun q_59=>asI .i64 (.c q_59) fun n_60=>atK s3 3 fun q_61=>asI .i64 (.c q_61) fun n_62=>atK s3 4 fun q_63=>asI .i64 (.c q_63) fun n_64=>atK s3 5 fun q_65=>asI .i64 (.c q_65) fun n_66=>if 0=0∧s0.length=7∧(splice (splice (splice (splice (splice (splice (List.replicate 7 ci0) 1 [(.int .i64 a1)]) 2 [(.int .i64 n_60)]) 3 [(.int .i64 n_62)]) 4 [(.int .i64 n_64)]) 5 [(.int .i64 n_66)]) 6 [(.int .i64 a9)]).length=7 then if 0=0∧(splice (splice (splice (splice (splice (splice (List.replicate 7 ci0) 1 [(.int .i64 a1)]) 2 [(.int .i64 n_60)]) 3 [(.int .i64 n_62)]) 4 [(.int .i64 n_64)]) 5 [(.int .i64 n_66)]) 6 [(.int .i64 a9)]).length=7 then some ([(.agg (splice (splice (splice (splice (splice (splice (List.replicate 7 ci0) 1 [(.int .i64 a1)]) 2 [(.int .i64 n_60)]) 3 [(.int .i64 n_62)]) 4 [(.int .i64 n_64)]) 5 [(.int .i64 n_66)]) 6 [(.int .i64 a9)]))],h_58) else none else none else none else none else none else none else none else none else none else none else if 0=0∧s3.length=6 then c1 (C 80 [(.agg s3)] h_42) fun y_68 h_67=>asB y_68 fun b_69=>if b_69=true then atK s3 3 fun q_70=>asI .i64 (.c q_70) fun n_71=>atK s3 3 fun q_72=>asI .i64 (.c q_72) fun n_73=>atK s3 5 fun q_74=>asI .i64 (.c q_74) fun n_75=>if 0≤n_71∧n_71<((4:Nat):Int) then rdH h_67 k0 N0 fun l_76=>if ((o0+24)+((Int.toNat n_71)*1))<l_76.length then putH h_67 k0 (l_76.set ((o0+24)+((Int.toNat n_71)*1)) (.int .i64 n_75)) fun h_77=>if 0≤n_73∧n_73<((4:Nat):Int) then rdH h_77 k0 N0 fun l_78=>if ((o0+28)+((Int.toNat n_73)*1))<l_78.length then putH h_77 k0 (l_78.set ((o0+28)+((Int.toNat n_73)*1)) (.int .i64 n_35)) fun h_79=>rdH h_79 k0 N0 fun l_80=>if (o0+0)+3≤l_80.length then if 0=0∧s1.length=5 then c1 (qh h_79 (C 106 [(.agg ((l_80.drop (o0+0)).take 3)),(.c (.int .i64 a1)),(.agg s1),(.c (.int .i64 a8))] h_79)) fun y_82 h_81=>asA y_82 fun l_83=>if 0≤a1∧a1<((4:Nat):Int) then rdH h_79 k0 N0 fun l_84=>if ((o0+4)+((Int.toNat a1)*5))+5≤l_84.length∧l_83.length=5 then putH h_79 k0 (splice l_84 ((o0+4)+((Int.toNat a1)*5)) l_83) fun h_85=>atK s3 2 fun q_86=>asI .i64 (.c q_86) fun n_87=>atK s3 3 fun q_88=>asI .i64 (.c q_88) fun n_89=>atK s3 4 fun q_90=>asI .i64 (.c q_90) fun n_91=>atK s3 5 fun q_92=>asI .i64 (.c q_92) fun n_93=>if 0=0∧s0.length=7∧(splice (splice (splice (splice (splice (splice (List.replicate 7 ci0) 1 [(.int .i64 a1)]) 2 [(.int .i64 n_87)]) 3 [(.int .i64 n_89)]) 4 [(.int .i64 n_91)]) 5 [(.int .i64 n_93)]) 6 [(.int .i64 a9)]).length=7 then if 0=0∧(splice (splice (splice (splice (splice (splice (List.replicate 7 ci0) 1 [(.int .i64 a1)]) 2 [(.int .i64 n_87)]) 3 [(.int .i64 n_89)]) 4 [(.int .i64 n_91)]) 5 [(.int .i64 n_93)]) 6 [(.int .i64 a9)]).length=7 then some ([(.agg (splice (splice (splice (splice (splice (splice (List.replicate 7 ci0) 1 [(.int .i64 a1)]) 2 [(.int .i64 n_87)]) 3 [(.int .i64 n_89)]) 4 [(.int .i64 n_91)]) 5 [(.int .i64 n_93)]) 6 [(.int .i64 a9)]))],h_85) else none else none else none else none else none else none else none else none else none else none else rdH h_67 k0 N0 fun l_94=>if (o0+0)+3≤l_94.length then if 0=0∧s1.length=5 then c1 (qh h_67 (C 106 [(.agg ((l_94.drop (o0+0)).take 3)),(.c (.int .i64 a1)),(.agg s1),(.c (.int .i64 a8))] h_67)) fun y_96 h_95=>asA y_96 fun l_97=>if 0≤a1∧a1<((4:Nat):Int) then rdH h_67 k0 N0 fun l_98=>if ((o0+4)+((Int.toNat a1)*5))+5≤l_98.length∧l_97.length=5 then putH h_67 k0 (splice l_98 ((o0+4)+((Int.toNat a1)*5)) l_97) fun h_99=>atK s3 2 fun q_100=>asI .i64 (.c q_100) fun n_101=>atK s3 3 fun q_102=>asI .i64 (.c q_102) fun n_103=>atK s3 4 fun q_104=>asI .i64 (.c q_104) fun n_105=>atK s3 5 fun q_106=>asI .i64 (.c q_106) fun n_107=>if 0=0∧s0.length=7∧(splice (splice (splice (splice (splice (splice (List.replicate 7 ci0) 1 [(.int .i64 a1)]) 2 [(.int .i64 n_101)]) 3 [(.int .i64 n_103)]) 4 [(.int .i64 n_105)]) 5 [(.int .i64 n_107)]) 6 [(.int .i64 a9)]).length=7 then if 0=0∧(splice (splice (splice (splice (splice (splice (List.replicate 7 ci0) 1 [(.int .i64 a1)]) 2 [(.int .i64 n_101)]) 3 [(.int .i64 n_103)]) 4 [(.int .i64 n_105)]) 5 [(.int .i64 n_107)]) 6 [(.int .i64 a9)]).length=7 then some ([(.agg (splice (splice (splice (splice (splice (splice (List.replicate 7 ci0) 1 [(.int .i64 a1)]) 2 [(.int .i64 n_101)]) 3 [(.int .i64 n_103)]) 4 [(.int .i64 n_105)]) 5 [(.int .i64 n_107)]) 6 [(.int .i64 a9)]))],h_99) else none else none else none else none else none else none else none:=by kernel_rfl
theorem q193_ec1_n (h0:AHeap) (k0 N0 o0:Nat) (a1 a8 a9:Int) (s0 s1 s2:List Cell) (h:AHeap):(q193_k2 C L G h0) .normal (q193_c1 k0 N0 o0 a1 a8 a9 s0 s1 s2 h)=if 0=0∧s2.length=9 then if 0=0∧s1.length=5 then c2 (C 109 [(.agg s2),(.agg s1),(.c (.int .i64 a8))] h) fun y_29 y_30 h_28=>asA y_29 fun l_31=>asB y_30 fun b_32=>if 0=0∧[ci0,ci0,ci0,ci0,ci0,ci0].length=6∧l_31.length=6 then (if (!b_32)=true then some (.normal,(q193_c2 k0 N0 o0 a1 a8 (-1) s0 s1 l_31 h_28)) else some (.normal,(q193_c2 k0 N0 o0 a1 a8 a9 s0 s1 l_31 h_28)):Option (Ex × St)).bind fun p_108=>(q193_k3 C L G h0) p_108.1 p_108.2 else none else none else none:=by kernel_rfl
set_option maxRecDepth 100000 in
theorem q193_eq (k0 N0 o0:Nat) (a1:Int) (h0:AHeap):q193.body C L G [(.c (.ptr k0 N0 o0)),(.c (.int .i64 a1))] h0=if 0≤a1∧a1<((4:Nat):Int) then rdH h0 k0 N0 fun l_1=>if ((o0+4)+((Int.toNat a1)*5))+5≤l_1.length then if 0=0∧[ci0,ci0,ci0,ci0,ci0].length=5∧((l_1.drop ((o0+4)+((Int.toNat a1)*5))).take 5).length=5 then rdH h0 k0 N0 fun l_2=>if (o0+0)+3≤l_2.length then if 0=0∧((l_1.drop ((o0+4)+((Int.toNat a1)*5))).take 5).length=5 then c2 (qh h0 (C 105 [(.agg ((l_2.drop (o0+0)).take 3)),(.c (.int .i64 a1)),(.agg ((l_1.drop ((o0+4)+((Int.toNat a1)*5))).take 5))] h0)) fun y_4 y_5 h_3=>asA y_4 fun l_6=>asB y_5 fun b_7=>if 0=0∧(List.replicate 9 ci0).length=9∧l_6.length=9 then atK l_6 2 fun q_8=>asI .i64 (.c q_8) fun n_9=>if 0≤n_9∧n_9<((4:Nat):Int) then rdH h0 k0 N0 fun l_10=>atK l_10 ((o0+24)+((Int.toNat n_9)*1)) fun q_11=>asI .i64 (.c q_11) fun n_12=>atK l_6 2 fun q_13=>asI .i64 (.c q_13) fun n_14=>if 0≤n_14∧n_14<((4:Nat):Int) then rdH h0 k0 N0 fun l_15=>atK l_15 ((o0+28)+((Int.toNat n_14)*1)) fun q_16=>asI .i64 (.c q_16) fun n_17=>(if 0≤a1∧a1<((4:Nat):Int) then rdH h0 k0 N0 fun l_18=>if ((o0+32)+((Int.toNat a1)*74))+74≤l_18.length then atK l_6 2 fun q_19=>asI .i64 (.c q_19) fun n_20=>c3 (qh h0 (C 205 [(.agg ((l_18.drop ((o0+32)+((Int.toNat a1)*74))).take 74)),(.c (.int .i64 n_20))] h0)) fun y_22 y_23 y_24 h_21=>asI .i64 y_22 fun n_25=>asI .i64 y_23 fun n_26=>asB y_24 fun b_27=>if b_27=true then some (.normal,(q193_c1 k0 N0 o0 a1 n_25 n_26 (List.replicate 7 ci0) ((l_1.drop ((o0+4)+((Int.toNat a1)*5))).take 5) l_6 h0)) else some (.normal,(q193_c1 k0 N0 o0 a1 n_12 n_17 (List.replicate 7 ci0) ((l_1.drop ((o0+4)+((Int.toNat a1)*5))).take 5) l_6 h0)) else none else none:Option (Ex × St)).bind fun p_109=>(q193_k2 C L G h0) p_109.1 p_109.2 else none else none else none else none else none else none else none else none:=by kernel_rfl
set_option maxRecDepth 100000 in
theorem q194_eq (k0 N0 o0:Nat) (a1 a2:Int) (h0:AHeap):q194.body C L G [(.c (.ptr k0 N0 o0)),(.c (.int .i64 a1)),(.c (.int .i64 a2))] h0=if 0≤a1∧a1<((4:Nat):Int) then rdH h0 k0 N0 fun l_1=>if ((o0+32)+((Int.toNat a1)*74))+74≤l_1.length then c4 (C 192 [(.agg ((l_1.drop ((o0+32)+((Int.toNat a1)*74))).take 74)),(.c (.int .i64 a2))] h0) fun y_3 y_4 y_5 y_6 h_2=>asI .i64 y_3 fun n_7=>asI .i64 y_4 fun n_8=>asI .i64 y_5 fun n_9=>asB y_6 fun b_10=>if 0≤a1∧a1<((4:Nat):Int) then rdH h_2 k0 N0 fun l_11=>if ((o0+32)+((Int.toNat a1)*74))+74≤l_11.length then c1 (qh h_2 (C 207 [(.agg ((l_11.drop ((o0+32)+((Int.toNat a1)*74))).take 74)),(.c (.int .i64 a2))] h_2)) fun y_13 h_12=>asA y_13 fun l_14=>if 0≤a1∧a1<((4:Nat):Int) then rdH h_2 k0 N0 fun l_15=>if ((o0+32)+((Int.toNat a1)*74))+74≤l_15.length∧l_14.length=74 then putH h_2 k0 (splice l_15 ((o0+32)+((Int.toNat a1)*74)) l_14) fun h_16=>if 0≤n_7∧n_7<((4:Nat):Int) then rdH h_16 k0 N0 fun l_17=>if ((o0+24)+((Int.toNat n_7)*1))<l_17.length then putH h_16 k0 (l_17.set ((o0+24)+((Int.toNat n_7)*1)) (.int .i64 n_8)) fun h_18=>if 0≤n_7∧n_7<((4:Nat):Int) then rdH h_18 k0 N0 fun l_19=>if ((o0+28)+((Int.toNat n_7)*1))<l_19.length then putH h_18 k0 (l_19.set ((o0+28)+((Int.toNat n_7)*1)) (.int .i64 n_9)) fun h_20=>if 0=0∧(List.replicate 7 ci0).length=7∧(splice (splice (splice (splice (splice (List.replicate 7 ci0) 1 [(.int .i64 a1)]) 2 [(.int .i64 6)]) 3 [(.int .i64 n_7)]) 5 [(.int .i64 n_8)]) 6 [(.int .i64 n_9)]).length=7 then if 0=0∧(splice (splice (splice (splice (splice (List.replicate 7 ci0) 1 [(.int .i64 a1)]) 2 [(.int .i64 6)]) 3 [(.int .i64 n_7)]) 5 [(.int .i64 n_8)]) 6 [(.int .i64 n_9)]).length=7 then some ([(.agg (splice (splice (splice (splice (splice (List.replicate 7 ci0) 1 [(.int .i64 a1)]) 2 [(.int .i64 6)]) 3 [(.int .i64 n_7)]) 5 [(.int .i64 n_8)]) 6 [(.int .i64 n_9)]))],h_20) else none else none else none else none else none else none else none else none else none else none else none else none:=by kernel_rfl
end Jq

namespace Jq
open Go
def ProgO (n:Nat) (h:AHeap) (cs:List Cell) (P:PProg):Prop :=
 ∃x y th,cs=[x,y,th]∧Own n h x 1 (intC .u8 P.locs) P.locs.length∧Own n h y 1 (intC .i64 P.init) P.init.length∧RowsOwn 9 codeC n h th P.thr
theorem ProgO.at {n:Nat} {h:AHeap} {cs:List Cell} {P:PProg} (p:ProgO n h cs P):ProgAt h cs P:=by
 obtain ⟨x,y,th,rfl,o1,o2,rr⟩:=p
 obtain ⟨us,u1,u2,u3⟩:=rr.of
 exact ⟨x,y,th,us,rfl,⟨o1.at,o1.low⟩,⟨o2.at,o2.low⟩,⟨u1,u2⟩,u3⟩
section
variable {E:Env}
theorem copied_S (hE:q189_In E) {cs:List Cell} {P:PProg} {h:AHeap} (p:ProgAt h cs P) (hsm:P.small) (hll:P.locs.length≤1000) (hil:P.init.length≤1000) :
  ∃cs' h',R E 189 [.agg cs] h=some ([.agg cs'],h')∧ProgO h.length h' cs' P∧Kp h.length h h':=by
 have p0:=p
 obtain ⟨a,b,c,ts,rfl,⟨ha,hal⟩,⟨hb,hbl⟩,⟨hc,hcl⟩,hts⟩:=p
 obtain ⟨x,h1,r1,o1,k1⟩:=slices_Clone_sbyte_byte_R hE.c202 ha hal hll
 obtain ⟨y,h2,r2,o2,k2⟩:=slices_Clone_sint64_int64_R hE.c203 (hb.keep hbl k1) (Low_mono k1.1 hbl) hil
 have k12:Kp h.length h h2:=k1.trans (k2.mono k1.1)
 have n2:=hsm.1
 obtain ⟨st,⟨th,h3,rfl,rr,k3⟩,hL⟩:=Lim_inv (F:=q189_F1 (R E) Lim E.glob) (fun t st=>∃th h',st=q189_s1 c P.thr.length (t:Int) [.nils,.nils,.nils] [x,y,th] h'∧RowsOwn 9 codeC h2.length h' th (P.thr.take t)∧Kp h2.length h2 h') 0 P.thr.length (by omega)
  (fun t st _ ht=>by
   rintro ⟨th,h',rfl,rr,kk⟩
   have hq:P.thr[t]? = some P.thr[t]:=List.getElem?_eq_getElem ht
   generalize P.thr[t]=code at hq
   have hcl2:=hsm.2 code (List.mem_of_getElem? hq)
   obtain ⟨z,z1,z2,z3⟩:=hts t code hq
   have kh:Kp h.length h h':=k12.trans (kk.mono k12.1)
   obtain ⟨x',h'',c1',c2',c3'⟩:=Clone_R hE.c119 (z2.keep z3 kh) (Low_mono kh.1 z3) hcl2
   obtain ⟨th2,h4,ap,r4,k4,_⟩:=(rr.keep c3').push (c2'.monoN kk.1) (fun k q1 q2=>by have:=(c2'.blkLt q1).2;have:=(rr.blkLt q2).1;omega) (Nat.le_trans kk.1 c3'.1) (by rw [List.length_take];omega)
   refine ⟨q189_s1 c P.thr.length ((t+1:Nat):Int) [.nils,.nils,.nils] [x,y,th2] h4,?_,th2,h4,rfl,by rw [takeI_succ hq];exact r4,kk.trans ((c3'.mono kk.1).trans k4)⟩
   rw [q189_r1,if_pos (by simp;omega),(hc.keep hcl kh).get1 ht z1,show ∀{α:Type} (f:Cell→Option α),atK [x,y,th] 2 f=f th from fun _=>rfl,c1',c1_ok,asC_ok,if_pos (show (splice [Cell.nils] 0 [x']).length=1*1 from rfl),show splice [Cell.nils] 0 [x']=[x'] from rfl,ap,if_pos (by simp),g_succ (by omega)]
   rfl) (st:=q189_s1 c P.thr.length ((0:Nat):Int) [.nils,.nils,.nils] [x,y,.nils] h2) ⟨.nils,h2,rfl,by rw [List.take_zero];exact RowsOwn.nil _,Kp.refl _ _⟩
 have e1:q189_F1 (R E) Lim E.glob (q189_s1 c P.thr.length (P.thr.length:Int) [.nils,.nils,.nils] [x,y,th] h3)=some (.exit 0,q189_x1_1 [.nils,.nils,.nils] [x,y,th] h3):=by
  rw [q189_r1,if_neg (by simp)]
 have hr:=hL _ (Lim_exit e1)
 rw [show ((0:Nat):Int)=0 from rfl] at hr
 rw [List.take_of_length_le (Nat.le_refl _)] at rr
 have kx:=k2.trans (k3.mono k2.1)
 refine ⟨[x,y,th],h3,R_intro hE.fn ?_,⟨x,y,th,rfl,o1.keepK kx,(o2.keepK k3).monoN k1.1,by
  obtain ⟨ts,w1,w2⟩:=rr
  exact ⟨ts,w1.monoN k12.1,fun t r hr=>by
   obtain ⟨z,z1,z2,z3⟩:=w2 t r hr
   exact ⟨z,z1,z2.monoN k12.1,z3⟩⟩⟩,k12.trans (k3.mono k12.1)⟩
 rw [q189_eq,show ∀{α:Type} (f:Cell→Option α),atK [a,b,c] 0 f=f a from fun _=>rfl,r1,c1_ok,asC_ok,show ∀{α:Type} (f:Cell→Option α),atK [a,b,c] 1 f=f b from fun _=>rfl,r2,c1_ok,asC_ok,if_pos (by exact ⟨rfl,rfl,rfl⟩),show ∀{α:Type} (f:Cell→Option α),atK [a,b,c] 2 f=f c from fun _=>rfl,hc.len]
 refine Eq.trans (congrArg (fun z=>Option.bind z _) hr) ?_
 rw [bind_ok]
 dsimp only
 rw [q189_e1_1,if_pos ⟨rfl,rfl⟩,if_pos ⟨rfl,rfl,rfl⟩,if_pos ⟨rfl,rfl⟩]
end
end Jq

namespace Jq
open Go
structure MV where
 P:PProg
 m:Int
 lc:List Lcl
 mem:List Int
 frm:List Int
 bf:List (List Ent)
 st:List Stp
def bmod (m:Int):Int:=if m=2∨m=3 then m else 0
def vmC (pc:List Cell) (V:MV) (x:Cell):List Cell :=
 pc++(([.int .i64 V.m]:List Cell)++(V.lc.flatMap Lcl.cs++(intC .i64 V.mem++(intC .i64 V.frm++(V.bf.flatMap (bufC (bmod V.m))++[x])))))
structure MV.Fit (V:MV):Prop where
 m:1≤V.m∧V.m≤3
 lc:V.lc.length=4
 mem:V.mem.length=4
 frm:V.frm.length=4
 bf:V.bf.length=4
 b:∀l∈V.bf,l.length≤24
section seg
variable {α:Type}
theorem seg_get {a s b:List α} {n m:Nat} (hn:a.length=n) (hm:s.length=m):((a++(s++b)).drop n).take m=s:=by
 subst hn hm
 rw [List.drop_append_of_le_length (Nat.le_refl _),List.drop_length,List.nil_append,List.take_append_of_le_length (Nat.le_refl _),List.take_length]
theorem seg_set {a s b s':List Cell} {n:Nat} (hn:a.length=n) (hm:s.length=s'.length):splice (a++(s++b)) n s'=a++(s'++b):=by
 subst hn
 unfold splice
 rw [List.take_append_of_le_length (Nat.le_refl _),List.take_length,←hm,←List.append_assoc a s b,List.drop_append,List.drop_of_length_le (by rw [List.length_append];exact Nat.le_refl _),List.nil_append,
  show a.length+s.length - (a++s).length=0 by rw [List.length_append];omega,List.drop_zero,List.append_assoc]
theorem flat_len {f:α→List Cell} {n:Nat}:∀{l:List α},(∀x∈l,(f x).length=n)→(l.flatMap f).length=l.length*n
 | [],_=>by simp
 | x :: l,h=>by
  rw [List.flatMap_cons,List.length_append,h x List.mem_cons_self,flat_len fun y hy=>h y (List.mem_cons_of_mem _ hy),List.length_cons,Nat.succ_mul];omega
theorem flat_split {f:α→List Cell} {l:List α} {i:Nat} {x:α} (h:l[i]? = some x):l.flatMap f=(l.take i).flatMap f++(f x++(l.drop (i+1)).flatMap f):=by
 have hi:=getI_lt h
 have he:l=l.take i++x :: l.drop (i+1):=by
  rw [List.getElem?_eq_getElem hi] at h
  cases h
  rw [List.getElem_cons_drop,List.take_append_drop]
 conv=>lhs;rw [he]
 rw [List.flatMap_append,List.flatMap_cons]
theorem flat_set {f:α→List Cell} {l:List α} {i:Nat} (hi:i<l.length) (y:α):(l.set i y).flatMap f=(l.take i).flatMap f++(f y++(l.drop (i+1)).flatMap f):=by
 have:=flat_split (f:=f) (l:=l.set i y) (i:=i) (x:=y) (by rw [List.getElem?_set_self hi])
 rw [this,List.take_set_of_le (Nat.le_refl _),List.drop_set_of_lt (by omega)]
theorem take_flat_len {f:α→List Cell} {n:Nat} {l:List α} (hl:∀x∈l,(f x).length=n) {i:Nat} (hi:i≤l.length):((l.take i).flatMap f).length=i*n:=by
 rw [flat_len fun x hx=>hl x (List.mem_of_mem_take hx),List.length_take,Nat.min_eq_left hi]
end seg
theorem MV.Fit.lcs {V:MV} {pc:List Cell} (_:V.Fit) (_:pc.length=3):∀l∈V.lc,(Lcl.cs l).length=5:=fun _ _=>rfl
theorem MV.Fit.bfs {V:MV} {pc:List Cell} (f:V.Fit) (_:pc.length=3):∀l∈V.bf,(bufC (bmod V.m) l).length=74:=fun l hl=>bufC_len _ (f.b l hl)
theorem vm_prog {V:MV} {pc:List Cell} {x:Cell} (_:V.Fit) (hpc:pc.length=3):((vmC pc V x).drop (0+0)).take 3=pc:=by
 unfold vmC
 exact seg_get (a:=[]) rfl hpc
theorem vm_m {V:MV} {pc:List Cell} {x:Cell} (_:V.Fit) (hpc:pc.length=3) {α:Type} {g:Cell→Option α}:atK (vmC pc V x) (0+3) g=g (.int .i64 V.m):=by
 unfold vmC
 refine atK_ok ?_
 rw [List.getElem?_append_right (by omega),hpc];rfl
section
variable {V:MV} {pc:List Cell} {x:Cell} (f:V.Fit) (hpc:pc.length=3)
include f hpc
theorem vm_len:(vmC pc V x).length=329:=by
 have h1:=flat_len (f.lcs hpc)
 have h2:=flat_len (f.bfs hpc)
 have:=f.lc;have:=f.mem;have:=f.frm;have:=f.bf
 unfold vmC
 simp only [List.length_append,intC_len,List.length_cons,List.length_nil]
 omega
theorem vm_lensL {t:Nat} {l:Lcl} (h:V.lc[t]? = some l):∃A B:List Cell,vmC pc V x=A++(l.cs++B)∧A.length=(0+4)+t*5∧∀l':Lcl,vmC pc { V with lc:=V.lc.set t l' } x=A++(l'.cs++B):=by
 have hi:=getI_lt h
 have e:=take_flat_len (f.lcs hpc) (Nat.le_of_lt hi)
 refine ⟨pc++(([.int .i64 V.m]:List Cell)++(V.lc.take t).flatMap Lcl.cs),(V.lc.drop (t+1)).flatMap Lcl.cs++(intC .i64 V.mem++(intC .i64 V.frm++(V.bf.flatMap (bufC (bmod V.m))++[x]))),?_,?_,fun l'=>?_⟩
 ·unfold vmC;rw [flat_split h];simp only [List.append_assoc]
 ·simp only [List.length_append,e,hpc,List.length_cons,List.length_nil];omega
 ·unfold vmC;dsimp only;rw [flat_set hi];simp only [List.append_assoc]
theorem vm_lensB {t:Nat} {l:List Ent} (h:V.bf[t]? = some l):∃A B:List Cell,vmC pc V x=A++(bufC (bmod V.m) l++B)∧A.length=(0+32)+t*74∧∀l':List Ent,vmC pc { V with bf:=V.bf.set t l' } x=A++(bufC (bmod V.m) l'++B):=by
 have hi:=getI_lt h
 have e:=take_flat_len (f.bfs hpc) (Nat.le_of_lt hi)
 have e2:=flat_len (f.lcs hpc)
 have:=f.lc;have:=f.mem;have:=f.frm
 refine ⟨pc++(([.int .i64 V.m]:List Cell)++(V.lc.flatMap Lcl.cs++(intC .i64 V.mem++(intC .i64 V.frm++(V.bf.take t).flatMap (bufC (bmod V.m)))))),(V.bf.drop (t+1)).flatMap (bufC (bmod V.m))++[x],?_,?_,fun l'=>?_⟩
 ·unfold vmC;rw [flat_split h];simp only [List.append_assoc]
 ·simp only [List.length_append,e,e2,hpc,List.length_cons,List.length_nil,intC_len];omega
 ·unfold vmC;dsimp only;rw [flat_set hi];simp only [List.append_assoc]
theorem vm_lensM:∃A B:List Cell,vmC pc V x=A++(intC .i64 V.mem++B)∧A.length=0+24∧∀l':List Int,vmC pc { V with mem:=l' } x=A++(intC .i64 l'++B):=by
 have e2:=flat_len (f.lcs hpc)
 have:=f.lc
 refine ⟨pc++(([.int .i64 V.m]:List Cell)++V.lc.flatMap Lcl.cs),intC .i64 V.frm++(V.bf.flatMap (bufC (bmod V.m))++[x]),?_,?_,fun l'=>?_⟩
 ·unfold vmC;simp only [List.append_assoc]
 ·simp only [List.length_append,e2,hpc,List.length_cons,List.length_nil];omega
 ·unfold vmC;simp only [List.append_assoc]
theorem vm_lensF:∃A B:List Cell,vmC pc V x=A++(intC .i64 V.frm++B)∧A.length=0+28∧∀l':List Int,vmC pc { V with frm:=l' } x=A++(intC .i64 l'++B):=by
 have e2:=flat_len (f.lcs hpc)
 have:=f.lc;have:=f.mem
 refine ⟨pc++(([.int .i64 V.m]:List Cell)++(V.lc.flatMap Lcl.cs++intC .i64 V.mem)),V.bf.flatMap (bufC (bmod V.m))++[x],?_,?_,fun l'=>?_⟩
 ·unfold vmC;simp only [List.append_assoc]
 ·simp only [List.length_append,e2,hpc,List.length_cons,List.length_nil,intC_len];omega
 ·unfold vmC;simp only [List.append_assoc]
theorem vm_lensX:∃A:List Cell,(∀y,vmC pc V y=A++[y])∧A.length=328:=by
 have h1:=flat_len (f.lcs hpc)
 have h2:=flat_len (f.bfs hpc)
 have:=f.lc;have:=f.mem;have:=f.frm;have:=f.bf
 refine ⟨pc++(([.int .i64 V.m]:List Cell)++(V.lc.flatMap Lcl.cs++(intC .i64 V.mem++(intC .i64 V.frm++V.bf.flatMap (bufC (bmod V.m)))))),fun y=>?_,?_⟩
 ·unfold vmC;simp only [List.append_assoc]
 ·simp only [List.length_append,h1,h2,hpc,List.length_cons,List.length_nil,intC_len];omega
theorem vm_lcl {t:Nat} {l:Lcl} (h:V.lc[t]? = some l):((vmC pc V x).drop ((0+4)+t*5)).take 5=l.cs:=by
 obtain ⟨A,B,e,hA,_⟩:=vm_lensL (x:=x) f hpc h
 rw [e];exact seg_get hA rfl
theorem vm_setL {t:Nat} (ht:t<4) (l:Lcl):splice (vmC pc V x) ((0+4)+t*5) l.cs=vmC pc { V with lc:=V.lc.set t l } x:=by
 obtain ⟨A,B,e,hA,h2⟩:=vm_lensL (x:=x) f hpc (List.getElem?_eq_getElem (show t<V.lc.length by rw [f.lc];exact ht))
 rw [e,h2];exact seg_set hA rfl
theorem vm_buf {t:Nat} {l:List Ent} (h:V.bf[t]? = some l):((vmC pc V x).drop ((0+32)+t*74)).take 74=bufC (bmod V.m) l:=by
 obtain ⟨A,B,e,hA,_⟩:=vm_lensB (x:=x) f hpc h
 rw [e];exact seg_get hA (bufC_len _ (f.b _ (List.mem_of_getElem? h)))
theorem vm_setB {t:Nat} (ht:t<4) {l:List Ent} (hl:l.length≤24):splice (vmC pc V x) ((0+32)+t*74) (bufC (bmod V.m) l)=vmC pc { V with bf:=V.bf.set t l } x:=by
 have hq:=List.getElem?_eq_getElem (show t<V.bf.length by rw [f.bf];exact ht)
 obtain ⟨A,B,e,hA,h2⟩:=vm_lensB (x:=x) f hpc hq
 rw [e,h2];exact seg_set hA (by rw [bufC_len _ (f.b _ (List.mem_of_getElem? hq)),bufC_len _ hl])
theorem vm_mem {α:Type} {i:Nat} {v:Int} (h:V.mem[i]? = some v) {g:Cell→Option α}:atK (vmC pc V x) ((0+24)+i*1) g=g (.int .i64 v):=by
 obtain ⟨A,B,e,hA,_⟩:=vm_lensM (x:=x) f hpc
 have hi:=getI_lt h
 refine atK_ok ?_
 rw [e,List.getElem?_append_right (by omega),List.getElem?_append_left (by rw [intC_len];omega),show 0+24+i*1 - A.length=i by omega]
 exact intC_get h
theorem vm_frm {α:Type} {i:Nat} {v:Int} (h:V.frm[i]? = some v) {g:Cell→Option α}:atK (vmC pc V x) ((0+28)+i*1) g=g (.int .i64 v):=by
 obtain ⟨A,B,e,hA,_⟩:=vm_lensF (x:=x) f hpc
 have hi:=getI_lt h
 refine atK_ok ?_
 rw [e,List.getElem?_append_right (by omega),List.getElem?_append_left (by rw [intC_len];omega),show 0+28+i*1 - A.length=i by omega]
 exact intC_get h
theorem vm_setM {i:Nat} (hi:i<4) (v:Int):(vmC pc V x).set ((0+24)+i*1) (.int .i64 v)=vmC pc { V with mem:=V.mem.set i v } x:=by
 obtain ⟨A,B,e,hA,h2⟩:=vm_lensM (x:=x) f hpc
 have:=f.mem
 rw [e,h2,List.set_append_right _ _ (by omega),List.set_append_left _ _ (by rw [intC_len];omega),show 0+24+i*1 - A.length=i by omega]
 unfold intC
 rw [List.map_set]
theorem vm_setF {i:Nat} (hi:i<4) (v:Int):(vmC pc V x).set ((0+28)+i*1) (.int .i64 v)=vmC pc { V with frm:=V.frm.set i v } x:=by
 obtain ⟨A,B,e,hA,h2⟩:=vm_lensF (x:=x) f hpc
 have:=f.frm
 rw [e,h2,List.set_append_right _ _ (by omega),List.set_append_left _ _ (by rw [intC_len];omega),show 0+28+i*1 - A.length=i by omega]
 unfold intC
 rw [List.map_set]
theorem vm_steps {α:Type} {g:Cell→Option α}:atK (vmC pc V x) (0+328) g=g x:=by
 obtain ⟨A,e,hA⟩:=vm_lensX f hpc
 refine atK_ok ?_
 rw [e,List.getElem?_append_right (by omega),hA];rfl
theorem vm_setX (y:Cell):(vmC pc V x).set (0+328) y=vmC pc V y:=by
 obtain ⟨A,e,hA⟩:=vm_lensX f hpc
 rw [e,e,List.set_append_right _ _ (by omega),hA];rfl
end
def MV.l (V:MV) (t:Nat):Lcl:=V.lc.getD t Lcl.zero
def MV.b (V:MV) (t:Nat):List Ent:=V.bf.getD t []
def MV.nxt (V:MV) (t:Nat):Option Ins:=nextI (V.P.code t) (V.l t)
def MV.mayT (V:MV) (t:Nat):Bool:=match V.nxt t with
 | none=>false
 | some i=>!(i.kind==3||i.kind==4)||(V.b t).length==0
def MV.mayF (V:MV) (t:Nat):Bool:=V.m==2&&!((V.b t).length==0)
def MV.mayL (V:MV) (t loc:Nat):Bool:=V.m==3&&((V.b t).find? (oldP 3 (loc:Int))).isSome
def MV.may (V:MV) (i:Nat):Bool :=
 if i<4 then V.mayT i else if i<8 then V.mayF (i - 4) else if i<24 then V.mayL ((i - 8) / 4) ((i - 8) % 4) else false
def wordOf (p:Nat→Bool):Nat→Nat
 | 0=>0
 | n+1=>if p n=true then wordOf p n ||| 2 ^ n else wordOf p n
theorem wordOf_bit (p:Nat→Bool):∀n i,(wordOf p n).testBit i=(decide (i<n)&&p i)
 | 0,i=>by simp [wordOf]
 | n+1,i=>by
  have ih:=wordOf_bit p n i
  rw [wordOf]
  split
  ·rename_i hp
   rw [Nat.testBit_or,ih,Nat.testBit_two_pow]
   by_cases h:n=i
   ·subst h;simp [hp]
   ·rw [decide_eq_false h,Bool.or_false];congr 1;simp;omega
  ·rename_i hp
   rw [ih]
   by_cases h:n=i
   ·subst h;simp [hp]
   ·congr 1;simp;omega
theorem wordOf_lt (p:Nat→Bool) {n:Nat} (hn:n≤64):wordOf p n<2 ^ 64:=by
 refine Nat.lt_pow_two_of_testBit _ fun i hi=>?_
 rw [wordOf_bit,decide_eq_false (by omega)];rfl
def MV.word (V:MV):Nat:=wordOf V.may 24
theorem MV.may_out {V:MV} {i:Nat} (h:24≤i):V.may i=false:=by
 unfold MV.may
 rw [if_neg (by omega),if_neg (by omega),if_neg (by omega)]
theorem MV.word_bit (V:MV) (i:Nat):V.word.testBit i=V.may i:=by
 unfold MV.word
 rw [wordOf_bit]
 by_cases h:i<24
 ·rw [decide_eq_true h,Bool.true_and]
 ·rw [MV.may_out (by omega),Bool.and_false]
theorem MV.l_at {V:MV} {t:Nat} (h:t<V.lc.length):V.lc[t]? = some (V.l t):=by
 unfold MV.l;rw [List.getD_eq_getElem?_getD,List.getElem?_eq_getElem h];rfl
theorem MV.b_at {V:MV} {t:Nat} (h:t<V.bf.length):V.bf[t]? = some (V.b t):=by
 unfold MV.b;rw [List.getD_eq_getElem?_getD,List.getElem?_eq_getElem h];rfl
end Jq

namespace Jq
open Go
def Dn (a b c i:Nat):Bool:=if i<4 then decide (i<a) else if i<8 then decide (i - 4<b) else decide (i - 8<c)
theorem Dn_t {a b c:Nat} (ha:a<4) (i:Nat):Dn (a+1) b c i=(Dn a b c i||decide (i=a)):=by
 unfold Dn
 rw [Bool.eq_iff_iff]
 split
 ·simp;omega
 ·split<;>simp<;>omega
theorem Dn_f {a b c:Nat} (hb:b<4) (i:Nat):Dn a (b+1) c i=(Dn a b c i||decide (i=4+b)):=by
 unfold Dn
 rw [Bool.eq_iff_iff]
 split
 ·simp;omega
 ·split<;>simp<;>omega
theorem Dn_l {a b c:Nat} (i:Nat):Dn a b (c+1) i=(Dn a b c i||decide (i=8+c)):=by
 unfold Dn
 rw [Bool.eq_iff_iff]
 split
 ·simp;omega
 ·split<;>simp<;>omega
theorem bits_add {M D D':Nat→Bool} {s p:Nat} (hp:p<64) (hs:s<2 ^ 64) (hb:∀i,s.testBit i=(M i&&D i)) (hD:∀i,D' i=(D i||decide (i=p))) :
  (if M p=true then s ||| bitI (p:Int) else s)<2 ^ 64∧∀i,(if M p=true then s ||| bitI (p:Int) else s).testBit i=(M i&&D' i):=by
 have e:bitI (p:Int)=2 ^ p:=by unfold bitI;rw [if_pos ⟨by omega,by omega⟩,Int.toNat_natCast]
 have hlt:=bitI_lt (p:Int)
 rw [e] at hlt ⊢
 refine ⟨?_,fun i=>?_⟩
 ·split
  ·exact or_lt hs hlt
  ·exact hs
 ·rw [hD]
  split
  ·rename_i hm
   rw [Nat.testBit_or,hb,Nat.testBit_two_pow]
   by_cases h:p=i
   ·subst h;simp [hm]
   ·rw [decide_eq_false h,decide_eq_false (fun q=>h q.symm)];simp
  ·rename_i hm
   rw [hb]
   by_cases h:p=i
   ·subst h;simp [hm]
   ·rw [decide_eq_false (fun q=>h q.symm)];simp
section
variable {E:Env}
theorem Enabled_R (hE:q172_In E) {h:AHeap} {k:Nat} {x:Cell} {pc:List Cell} {V:MV} (hb:blk? h k=some ⟨true,0,vmC pc V x⟩) (f:V.Fit) (p:ProgAt h pc V.P) :
  R E 172 [.c (.ptr k 329 0)] h=some ([.c (.int .u64 (V.word:Int))],h):=by
 refine R_intro hE.fn ?_
 have hpc:=p.len
 have hl:=vm_len (x:=x) f hpc
 have rd:∀{α:Type} {F:List Cell→Option α},rdH h k 329 F=F (vmC pc V x):=fun {α F}=>rdH_ok hb hl
 have inner:∀(t:Nat) (s:Nat),t<4→s<2 ^ 64→(∀i,s.testBit i=(V.may i&&Dn (t+1) (t+1) (4*t) i)) →
   ∃s':Nat,Lim (q172_F1 (R E) Lim E.glob) (q172_s1 k 329 0 (s:Int) (t:Int) (t:Int) 0 h)=some (.exit 2,q172_x1_3 k 329 0 (s':Int) (t:Int) h)∧s'<2 ^ 64∧∀i,s'.testBit i=(V.may i&&Dn (t+1) (t+1) (4*(t+1)) i):=by
  intro t s ht hs hbit
  obtain ⟨st,⟨s',rfl,hs',hbit'⟩,hL⟩:=Lim_inv (F:=q172_F1 (R E) Lim E.glob) (fun j st=>∃s':Nat,st=q172_s1 k 329 0 (s':Int) (t:Int) (t:Int) (j:Int) h∧s'<2 ^ 64∧∀i,s'.testBit i=(V.may i&&Dn (t+1) (t+1) (4*t+j) i)) 0 4 (by omega)
   (fun j st _ hj=>by
    rintro ⟨s',rfl,hs',hbit'⟩
    obtain ⟨n1,n2⟩:=bits_add (p:=8+(4*t+j)) (by omega) hs' hbit' (fun i=>Dn_l i)
    have hm:V.may (8+(4*t+j))=V.mayL t j:=by
     unfold MV.may
     rw [if_neg (by omega),if_neg (by omega),if_pos (by omega),show (8+(4*t+j) - 8) / 4=t by omega,show (8+(4*t+j) - 8) % 4=j by omega]
    rw [hm] at n1 n2
    refine ⟨q172_s1 k 329 0 ((if V.mayL t j=true then s' ||| bitI ((8+(4*t+j):Nat):Int) else s':Nat):Int) (t:Int) (t:Int) ((j+1:Nat):Int) h,?_,_,rfl,n1,n2⟩
    have hq:=MV.b_at (V:=V) (t:=t) (by rw [f.bf];exact ht)
    have hbl:=f.b _ (List.mem_of_getElem? hq)
    rw [q172_r1,if_pos (by simp;omega),if_pos ⟨by omega,by omega⟩,rd,Int.toNat_natCast,if_pos (by rw [hl];omega),vm_buf f hpc hq,bufOldest_R hE.c192 hbl]
    have key:∀(n1 n2 n3:Int) (b:Bool) (hb:V.m=3→b=((V.b t).find? (oldP 3 (j:Int))).isSome),
      (c4 (some ([AV.c (.int .i64 n1),.c (.int .i64 n2),.c (.int .i64 n3),.c (.bool b)],h)) fun y_39 y_40 y_41 y_42 h_38=>asI .i64 y_39 fun n_43=>asI .i64 y_40 fun n_44=>asI .i64 y_41 fun n_45=>asB y_42 fun b_46=>rdH h_38 k 329 fun l_47=>atK l_47 (0+3) fun q_48=>asI .i64 (.c q_48) fun n_49=>scK (n_49==3) true (some (b_46,h_38)) false h_38 fun b_50 h_51=>if b_50=true then let v_52:Int:=(E.glob.wrap .i64 (8+(E.glob.wrap .i64 (4*(t:Int)))));c1 (R E 18 [(.c (.int .u64 (s':Int))),(.c (.int .i64 (E.glob.wrap .i64 (v_52+(j:Int)))))] h_51) fun y_54 h_53=>asI .u64 y_54 fun n_55=>some (Ex.normal,(q172_s1 k 329 0 n_55 t t (E.glob.wrap .i64 ((j:Int)+1)) h_53)) else some (.normal,(q172_s1 k 329 0 (s':Int) t t (E.glob.wrap .i64 ((j:Int)+1)) h_51))) =
      some (.normal,q172_s1 k 329 0 ((if V.mayL t j=true then s' ||| bitI ((8+(4*t+j):Nat):Int) else s':Nat):Int) (t:Int) (t:Int) ((j+1:Nat):Int) h):=by
     intro n1 n2 n3 b hbb
     rw [c4_ok,asI_ok,asI_ok,asI_ok,asB_ok,rd,vm_m f hpc,asI_ok,scK_and,g_succ (by omega)]
     have e:V.mayL t j=((V.m==3)&&b):=by
      unfold MV.mayL
      by_cases h3:V.m=3
      ·rw [hbb h3]
      ·rw [beq_false_of_ne h3];rfl
     rw [e]
     cases hv:((V.m==3)&&b) with
     | false=>rfl
     | true =>
      simp only [if_true]
      rw [g_wrap_i64 (x:=4*(t:Int)) (by omega) (by omega),g_wrap_i64 (x:=8+4*(t:Int)) (by omega) (by omega),g_wrap_i64 (by omega) (by omega),show (8+4*(t:Int)+(j:Int))=((8+(4*t+j):Nat):Int) by omega,With_R hE.c18 hs',c1_ok,asI_ok]
    have e3:V.m=3→bmod V.m=3:=fun h=>by unfold bmod;rw [h];rfl
    cases hf:(V.b t).find? (oldP (bmod V.m) (j:Int)) with
    | none=>exact key _ _ _ _ fun h3=>by rw [e3 h3] at hf;rw [hf];rfl
    | some e=>exact key _ _ _ _ fun h3=>by rw [e3 h3] at hf;rw [hf];rfl) (st:=q172_s1 k 329 0 (s:Int) (t:Int) (t:Int) ((0:Nat):Int) h) ⟨s,rfl,hs,hbit⟩
  refine ⟨s',hL _ (Lim_exit ?_),hs',fun i=>by rw [hbit',Nat.mul_succ]⟩
  rw [q172_r1,if_neg (by simp)]
 obtain ⟨st,⟨s,rfl,hs,hbit⟩,hL⟩:=Lim_inv (F:=q172_F2 (R E) Lim E.glob) (fun t st=>∃s:Nat,st=q172_s2 k 329 0 (s:Int) (t:Int) h∧s<2 ^ 64∧∀i,s.testBit i=(V.may i&&Dn t t (4*t) i)) 0 4 (by omega)
  (fun t st _ ht=>by
   rintro ⟨s,rfl,hs,hbit⟩
   have hq:=MV.b_at (V:=V) (t:=t) (by rw [f.bf];exact ht)
   have hbl:=f.b _ (List.mem_of_getElem? hq)
   have hql:=MV.l_at (V:=V) (t:=t) (by rw [f.lc];exact ht)
   obtain ⟨a1,a2⟩:=bits_add (p:=t) (by omega) hs hbit (fun i=>Dn_t ht i)
   have hm1:V.may t=V.mayT t:=by unfold MV.may;rw [if_pos ht]
   rw [hm1] at a1 a2
   obtain ⟨b1,b2⟩:=bits_add (p:=4+t) (by omega) a1 a2 (fun i=>Dn_f ht i)
   have hm2:V.may (4+t)=V.mayF t:=by unfold MV.may;rw [if_neg (by omega),if_pos (by omega),show 4+t - 4=t by omega]
   rw [hm2] at b1 b2
   generalize hs1:(if V.mayT t=true then s ||| bitI (t:Int) else s)=s1 at *
   generalize hs2:(if V.mayF t=true then s1 ||| bitI ((4+t:Nat):Int) else s1)=s2 at *
   obtain ⟨s3,l1,l2,l3⟩:=inner t s2 ht b1 b2
   refine ⟨q172_s2 k 329 0 (s3:Int) ((t+1:Nat):Int) h,?_,s3,rfl,l2,l3⟩
   have hr:0≤(t:Int)∧(t:Int)<((4:Nat):Int):=⟨by omega,by omega⟩
   have h74:(0+32)+t*74+74≤(vmC pc V x).length:=by rw [hl];omega
   have hemp:∀{β:Type} (g:Bool→AHeap→Option β),(c1 (R E 191 [(.agg (bufC (bmod V.m) (V.b t)))] h) fun y h'=>asB y fun b=>g b h')=g ((V.b t).length==0) h:=fun g=>by
    rw [bufEmpty_R hE.c191,c1_ok,asB_ok]
   have hk:(q172_k6 (R E) Lim E.glob) .normal (q172_c1 k 329 0 (s1:Int) (t:Int) (t:Int) h)=some (.normal,q172_s2 k 329 0 (s3:Int) ((t+1:Nat):Int) h):=by
    have fin:∀w:Nat,w=s2→(Lim (q172_F1 (R E) Lim E.glob) (q172_s1 k 329 0 (w:Int) (t:Int) (t:Int) 0 h)).bind (fun p_56=>(q172_k7 (R E) Lim E.glob) p_56.1 p_56.2)=some (.normal,q172_s2 k 329 0 (s3:Int) ((t+1:Nat):Int) h):=by
     rintro w rfl
     rw [l1,bind_ok]
     dsimp only
     rw [q172_e1_3,g_succ (by omega)]
    rw [q172_ec1_n,rd,vm_m f hpc,asI_ok]
    simp only [rd,Int.toNat_natCast,if_pos hr,if_pos h74,vm_buf f hpc hq,bufEmpty_R hE.c191,c1_ok,asB_ok,scK_and]
    rw [show (V.m==2&&!((V.b t).length==0))=V.mayF t from rfl]
    cases hv:V.mayF t with
    | false =>
     rw [hv] at hs2
     exact fin s1 hs2
    | true =>
     rw [hv,if_pos rfl] at hs2
     rw [if_pos rfl,g_wrap_i64 (by omega) (by omega),show (4+(t:Int))=((4+t:Nat):Int) by omega,With_R hE.c18 a1,c1_ok,asI_ok]
     exact fin _ hs2
   rw [q172_r2,if_pos (by simp;omega),rd,if_pos (by rw [hl];omega),if_pos hr,rd,Int.toNat_natCast,if_pos (by rw [hl];omega),vm_prog f hpc,vm_lcl f hpc hql,PNext_R hE.c105 p,qh_ok,c2_ok,asA_ok,asB_ok,if_pos (by exact ⟨rfl,rfl,rfl⟩)]
   simp only [ins_kind,asI_ok,scK_or,rd,if_pos hr,if_pos h74,vm_buf f hpc hq,bufEmpty_R hE.c191,c1_ok,asB_ok]
   have step:∀b:Bool,b=V.mayT t→((if b=true then c1 (R E 18 [(.c (.int .u64 (s:Int))),(.c (.int .i64 (t:Int)))] h) fun y_23 h_22=>asI .u64 y_23 fun n_24=>some (Ex.normal,(q172_c1 k 329 0 n_24 t t h_22)) else some (.normal,(q172_c1 k 329 0 (s:Int) t t h)):Option (Ex × St)).bind fun p_58=>(q172_k6 (R E) Lim E.glob) p_58.1 p_58.2)=some (.normal,q172_s2 k 329 0 (s3:Int) ((t+1:Nat):Int) h):=by
    rintro b rfl
    cases hv:V.mayT t with
    | false =>
     rw [hv] at hs1
     rw [if_neg (by simp),bind_ok]
     rw [if_neg (by simp)] at hs1
     rw [hs1];exact hk
    | true =>
     rw [hv,if_pos rfl] at hs1
     rw [if_pos rfl,With_R hE.c18 hs,c1_ok,asI_ok,bind_ok,hs1]
     exact hk
   have hT:V.mayT t=match nextI (V.P.code t) (V.l t) with | none=>false | some i=>!(i.kind==3||i.kind==4)||(V.b t).length==0:=rfl
   cases hn:nextI (V.P.code t) (V.l t) with
   | none =>
    rw [hn] at hT
    exact step false hT.symm
   | some i =>
    rw [hn] at hT
    dsimp only at hT
    simp only [Option.getD_some,Option.isSome_some]
    cases hkk:(i.kind==3||i.kind==4) with
    | false=>exact step true (by rw [hT,hkk];rfl)
    | true=>exact step _ (by rw [hT,hkk])) (st:=q172_s2 k 329 0 ((0:Nat):Int) ((0:Nat):Int) h) ⟨0,rfl,by decide,fun i=>by
    rw [show Dn 0 0 (4*0) i=false by unfold Dn;split<;>(try split)<;>simp,Bool.and_false];simp⟩
 have hw:s=V.word:=by
  refine Nat.eq_of_testBit_eq fun i=>?_
  rw [hbit,MV.word_bit]
  by_cases hi:i<24
  ·rw [show Dn 4 4 (4*4) i=true by unfold Dn;split;(· exact decide_eq_true (by omega));split<;>exact decide_eq_true (by omega),Bool.and_true]
  ·rw [MV.may_out (by omega)];rfl
 subst hw
 have e1:q172_F2 (R E) Lim E.glob (q172_s2 k 329 0 (V.word:Int) ((4:Nat):Int) h)=some (.exit 0,q172_x2_1 (V.word:Int) h):=by
  rw [q172_r2,if_neg (by simp)]
 have hr:=hL _ (Lim_exit e1)
 rw [show (((0:Nat):Int))=0 from rfl] at hr
 rw [q172_eq,hr,bind_ok]
 dsimp only
 rw [q172_e2_1]
end
end Jq

namespace Jq
open Go
theorem prog_at {n:Nat} {h h':AHeap} {pc:List Cell} {P:PProg} (p:ProgAt (h.take n) pc P) (hn:n≤h.length) (hk:Kp n h h'):ProgAt h' pc P:=by
 have hl:(h.take n).length=n:=by rw [List.length_take];omega
 refine p.keep ⟨by rw [hl];exact Nat.le_trans hn hk.1,fun k hk2=>?_⟩
 rw [hl] at hk2
 rw [hk.2 k hk2,List.getElem?_take,if_pos hk2]
theorem putB {α:Type} {h:AHeap} {k:Nat} {l:List Cell} (hb:blk? h k=some ⟨true,0,l⟩) {cs:List Cell} {F:AHeap→Option α}:putH h k cs F=F (setBlk h k (some ⟨true,0,cs⟩)):=putH_ok hb rfl
def MV.val (V:MV) (t:Nat) (i:Ins):Int × Int:=match newE i.loc (V.b t) with
 | some e=>(e.val,e.id)
 | none=>(V.mem.getD i.loc.toNat 0,V.frm.getD i.loc.toNat 0)
def MV.wr (V:MV) (t:Nat) (e:Evt):MV :=
 if e.kind=2∧V.m≠1 then { V with bf:=V.bf.set t (V.b t++[⟨e.loc,e.w,V.st.length⟩]) }
 else if evWr e=true then { V with mem:=V.mem.set e.loc.toNat e.w,frm:=V.frm.set e.loc.toNat V.st.length }
 else V
def MV.thrM (V:MV) (t:Nat) (i:Ins):MV :=
 { V.wr t (evOf i (V.l t) (V.val t i).1) with lc:=V.lc.set t (afterL (V.P.code t) (V.l t) (V.val t i).1) }
def MV.thrS (V:MV) (t:Nat) (i:Ins):Stp :=
 ⟨0,t,(evOf i (V.l t) (V.val t i).1).kind,(evOf i (V.l t) (V.val t i).1).loc,(evOf i (V.l t) (V.val t i).1).r,(evOf i (V.l t) (V.val t i).1).w,if rdI i=true then (V.val t i).2 else -1⟩
theorem evt_kind {α:Type} {e:Evt} {f:Cell→Option α}:atK e.cs 2 f=f (.int .i64 e.kind):=rfl
theorem evt_loc {α:Type} {e:Evt} {f:Cell→Option α}:atK e.cs 3 f=f (.int .i64 e.loc):=rfl
theorem evt_r {α:Type} {e:Evt} {f:Cell→Option α}:atK e.cs 4 f=f (.int .i64 e.r):=rfl
theorem evt_w {α:Type} {e:Evt} {f:Cell→Option α}:atK e.cs 5 f=f (.int .i64 e.w):=rfl
theorem evOf_loc {i:Ins} {l:Lcl} {v:Int} (h:0≤i.loc∧i.loc<4):0≤(evOf i l v).loc∧(evOf i l v).loc<4:=by
 unfold evOf
 split
 ·exact h
 ·split
  ·exact h
  ·split
   ·split<;>exact h
   ·exact ⟨by decide,by decide⟩
section
variable {E:Env}
set_option maxHeartbeats 1000000 in
theorem thread_R' (hE:q193_In E) {n k:Nat} {h:AHeap} {x:Cell} {pc:List Cell} {V:MV} (hb:blk? h k=some ⟨true,0,vmC pc V x⟩) (f:V.Fit) (hp:ProgAt (h.take n) pc V.P) (hn:n≤h.length) (hnk:n≤k)
  (hP:V.P.fits) (hx:Own n h x 7 (stepsC V.st) V.st.length) {t:Nat} (ht:t<4) {i:Ins} (hi:V.nxt t=some i) (hloc:0≤i.loc∧i.loc<4) (hbl:(V.b t).length<24) :
  R E 193 [.c (.ptr k 329 0),.c (.int .i64 (t:Int))] h=some ([.agg (V.thrS t i).cs],setBlk h k (some ⟨true,0,vmC pc (V.thrM t i) x⟩)):=by
 refine R_intro hE.fn ?_
 have hpc:=hp.len
 have hl:=vm_len (x:=x) f hpc
 have rd:∀{α:Type} {F:List Cell→Option α},rdH h k 329 F=F (vmC pc V x):=fun {α F}=>rdH_ok hb hl
 have p:=prog_at hp hn (Kp.refl n h)
 have hr:0≤(t:Int)∧(t:Int)<((4:Nat):Int):=⟨by omega,by omega⟩
 have h74:(0+32)+t*74+74≤(vmC pc V x).length:=by rw [hl];omega
 have hq:=MV.b_at (V:=V) (t:=t) (by rw [f.bf];exact ht)
 have hql:=MV.l_at (V:=V) (t:=t) (by rw [f.lc];exact ht)
 have hil:0≤i.loc∧i.loc<((4:Nat):Int):=⟨hloc.1,by omega⟩
 have hi4:i.loc.toNat<4:=by omega
 have hmem:V.mem[i.loc.toNat]? = some (V.mem.getD i.loc.toNat 0):=by
  rw [List.getD_eq_getElem?_getD,List.getElem?_eq_getElem (by rw [f.mem];exact hi4)];rfl
 have hfrm:V.frm[i.loc.toNat]? = some (V.frm.getD i.loc.toNat 0):=by
  rw [List.getD_eq_getElem?_getD,List.getElem?_eq_getElem (by rw [f.frm];exact hi4)];rfl
 have hk:k<h.length:=blk_lt' hb
 have hlcs:(Lcl.cs (V.l t)).length=5:=rfl
 have two:∀(v fr:Int),v=(V.val t i).1→fr=(V.val t i).2 →
   (q193_k2 (R E) Lim E.glob h) .normal (q193_c1 k 329 0 (t:Int) v fr (List.replicate 7 ci0) (V.l t).cs i.cs h)=some ([.agg (V.thrS t i).cs],setBlk h k (some ⟨true,0,vmC pc (V.thrM t i) x⟩)):=by
  rintro v fr hv hfr
  have three:∀a9:Int,a9=(if rdI i=true then fr else -1) →
    (q193_k3 (R E) Lim E.glob h) .normal (q193_c2 k 329 0 (t:Int) v a9 (List.replicate 7 ci0) (V.l t).cs (evOf i (V.l t) v).cs h)=some ([.agg (V.thrS t i).cs],setBlk h k (some ⟨true,0,vmC pc (V.thrM t i) x⟩)):=by
   intro a9 h9
   have hev:=evOf_loc (l:=V.l t) (v:=v) hloc
   have hS:V.thrS t i=⟨0,t,(evOf i (V.l t) v).kind,(evOf i (V.l t) v).loc,(evOf i (V.l t) v).r,(evOf i (V.l t) v).w,a9⟩:=by unfold MV.thrS;rw [←hv,←hfr,h9]
   have hM:V.thrM t i={ V.wr t (evOf i (V.l t) v) with lc:=V.lc.set t (afterL (V.P.code t) (V.l t) v) }:=by unfold MV.thrM;rw [←hv]
   rw [hS,hM]
   generalize evOf i (V.l t) v=e at hev
   have he:0≤e.loc∧e.loc<((4:Nat):Int):=⟨hev.1,by omega⟩
   have he4:e.loc.toNat<4:=by omega
   rw [q193_ec2_n,rd,vm_steps f hpc,hx.at.len,evt_kind,asI_ok]
   simp only [rd,vm_m f hpc,asI_ok,scK_and]
   unfold MV.wr
   by_cases h2:e.kind=2∧V.m≠1
   ·have hm0:bmod V.m≠0:=by have:=f.m;unfold bmod;rw [if_pos (by omega)];omega
    rw [if_pos (by rw [Bool.and_eq_true];exact ⟨beq_iff_eq.2 h2.1,bne_iff_ne.2 h2.2⟩),if_pos h2]
    have hbl2:(V.b t++[(⟨e.loc,e.w,V.st.length⟩:Ent)]).length≤24:=by rw [List.length_append,List.length_singleton];omega
    rw [if_pos hr,Int.toNat_natCast,if_pos h74,evt_loc,asI_ok,evt_w,asI_ok,vm_buf f hpc hq,bufPut_R hE.c206 hbl hm0 hev,qh_ok,c1_ok,asA_ok,if_pos hr,if_pos (by exact ⟨h74,bufC_len _ hbl2⟩),vm_setB f hpc ht hbl2,putB hb]
    have fW:MV.Fit { V with bf:=V.bf.set t (V.b t++[⟨e.loc,e.w,V.st.length⟩]) }:=⟨f.m,f.lc,f.mem,f.frm,by rw [List.length_set];exact f.bf,fun l hl=>by
     rcases List.mem_or_eq_of_mem_set hl with hl | rfl
     ·exact f.b l hl
     ·exact hbl2⟩
    have hb2:blk? (setBlk h k (some ⟨true,0,vmC pc { V with bf:=V.bf.set t (V.b t++[⟨e.loc,e.w,V.st.length⟩]) } x⟩)) k=some ⟨true,0,vmC pc { V with bf:=V.bf.set t (V.b t++[⟨e.loc,e.w,V.st.length⟩]) } x⟩:=blk_set_self hk _
    rw [rdH_ok hb2 (vm_len fW hpc),if_pos (by rw [vm_len fW hpc];omega),if_pos (by exact ⟨by trivial,rfl⟩),vm_prog fW hpc,PAfter_R hE.c106 hP (prog_at hp hn (Kp.set hnk _)),qh_ok,c1_ok,asA_ok,if_pos hr,rdH_ok hb2 (vm_len fW hpc),if_pos (by exact ⟨by rw [vm_len fW hpc];omega,rfl⟩)]
    try rw [Int.toNat_natCast]
    rw [vm_setL fW hpc ht,putB hb2]
    simp only [evt_kind,evt_loc,evt_r,evt_w,asI_ok]
    rw [if_pos (by exact ⟨by trivial,rfl,rfl⟩),if_pos (by exact ⟨by trivial,rfl⟩)]
    rw [setBlk_set]
    rfl
   ·rw [if_neg (by rw [Bool.and_eq_true];intro q;exact h2 ⟨beq_iff_eq.1 q.1,bne_iff_ne.1 q.2⟩),if_neg h2,if_pos (by exact ⟨by trivial,rfl⟩),evWrites_R hE.c80,c1_ok,asB_ok]
    cases hw:evWr e with
    | true =>
     rw [if_pos rfl,if_pos rfl]
     simp only [evt_loc,evt_w,asI_ok]
     have fW1:MV.Fit { V with mem:=V.mem.set e.loc.toNat e.w }:=⟨f.m,f.lc,by rw [List.length_set];exact f.mem,f.frm,f.bf,f.b⟩
     have hb1:blk? (setBlk h k (some ⟨true,0,vmC pc { V with mem:=V.mem.set e.loc.toNat e.w } x⟩)) k=some ⟨true,0,vmC pc { V with mem:=V.mem.set e.loc.toNat e.w } x⟩:=blk_set_self hk _
     have fW:MV.Fit { V with mem:=V.mem.set e.loc.toNat e.w,frm:=V.frm.set e.loc.toNat V.st.length }:=⟨f.m,f.lc,by rw [List.length_set];exact f.mem,by rw [List.length_set];exact f.frm,f.bf,f.b⟩
     have hb2:blk? (setBlk h k (some ⟨true,0,vmC pc { V with mem:=V.mem.set e.loc.toNat e.w,frm:=V.frm.set e.loc.toNat V.st.length } x⟩)) k=some ⟨true,0,vmC pc { V with mem:=V.mem.set e.loc.toNat e.w,frm:=V.frm.set e.loc.toNat V.st.length } x⟩:=blk_set_self hk _
     rw [if_pos he,rd,if_pos (by rw [hl];omega),vm_setM f hpc he4,putB hb,if_pos he,rdH_ok hb1 (vm_len fW1 hpc),if_pos (by rw [vm_len fW1 hpc];omega),vm_setF fW1 hpc he4,putB hb1,setBlk_set]
     rw [rdH_ok hb2 (vm_len fW hpc),if_pos (by rw [vm_len fW hpc];omega),if_pos (by exact ⟨by trivial,rfl⟩),vm_prog fW hpc,PAfter_R hE.c106 hP (prog_at hp hn (Kp.set hnk _)),qh_ok,c1_ok,asA_ok,if_pos hr,rdH_ok hb2 (vm_len fW hpc),if_pos (by exact ⟨by rw [vm_len fW hpc];omega,rfl⟩)]
     try rw [Int.toNat_natCast]
     rw [vm_setL fW hpc ht,putB hb2]
     simp only [evt_kind,evt_r,asI_ok]
     rw [if_pos (by exact ⟨by trivial,rfl,rfl⟩),if_pos (by exact ⟨by trivial,rfl⟩)]
     rw [setBlk_set]
     rfl
    | false =>
     rw [if_neg (by simp),if_neg (by simp)]
     rw [rdH_ok hb (vm_len f hpc),if_pos (by rw [vm_len f hpc];omega),if_pos (by exact ⟨by trivial,rfl⟩),vm_prog f hpc,PAfter_R hE.c106 hP (prog_at hp hn (Kp.refl n h)),qh_ok,c1_ok,asA_ok,if_pos hr,rdH_ok hb (vm_len f hpc),if_pos (by exact ⟨by rw [vm_len f hpc];omega,rfl⟩)]
     try rw [Int.toNat_natCast]
     rw [vm_setL f hpc ht,putB hb]
     simp only [evt_kind,evt_loc,evt_r,evt_w,asI_ok]
     rw [if_pos (by exact ⟨by trivial,rfl,rfl⟩),if_pos (by exact ⟨by trivial,rfl⟩)]
     rfl
  rw [q193_ec1_n,if_pos (by exact ⟨by trivial,rfl⟩),if_pos (by exact ⟨by trivial,rfl⟩),evOf_prog hE.c109,c2_ok,asA_ok,asB_ok,if_pos (by exact ⟨by trivial,rfl,rfl⟩)]
  cases hrd:rdI i with
  | false=>exact three (-1) (by rw [hrd];rfl)
  | true=>exact three fr (by rw [hrd];rfl)
 rw [q193_eq,if_pos hr,rd,Int.toNat_natCast,if_pos (by rw [hl];omega),vm_lcl f hpc hql,if_pos (by exact ⟨by trivial,rfl,rfl⟩),rd,if_pos (by rw [hl];omega),if_pos (by exact ⟨by trivial,rfl⟩),vm_prog f hpc,PNext_R hE.c105 p,qh_ok,c2_ok,asA_ok,asB_ok,if_pos (by exact ⟨by trivial,rfl,rfl⟩)]
 rw [show nextI (V.P.code t) (V.l t)=some i from hi]
 simp only [Option.getD_some,ins_loc,asI_ok]
 rw [if_pos hil,rd,vm_mem f hpc hmem,asI_ok,if_pos hil,rd,vm_frm f hpc hfrm,asI_ok,if_pos hr,rd,if_pos h74,vm_buf f hpc hq,bufNewest_R hE.c205 (Nat.le_of_lt hbl)]
 have hv:V.val t i=match newE i.loc (V.b t) with | some e=>(e.val,e.id) | none=>(V.mem.getD i.loc.toNat 0,V.frm.getD i.loc.toNat 0):=rfl
 cases hnw:newE i.loc (V.b t) with
 | none =>
  rw [hnw] at hv
  dsimp only
  rw [qh_ok,c3_ok,asI_ok,asI_ok,asB_ok,if_neg (by simp),bind_ok]
  exact two _ _ (by rw [hv]) (by rw [hv])
 | some e =>
  rw [hnw] at hv
  dsimp only
  rw [qh_ok,c3_ok,asI_ok,asI_ok,asB_ok,if_pos rfl,bind_ok]
  exact two _ _ (by rw [hv]) (by rw [hv])
end
end Jq

namespace Jq
open Go
def MV.fluE (V:MV) (t:Nat) (loc:Int):Ent:=((V.b t).find? (oldP (bmod V.m) loc)).getD ⟨0,0,0⟩
def MV.fluM (V:MV) (t:Nat) (loc:Int):MV :=
 { V with bf:=V.bf.set t ((V.b t).eraseP (oldP (bmod V.m) loc)),mem:=V.mem.set (V.fluE t loc).loc.toNat (V.fluE t loc).val,frm:=V.frm.set (V.fluE t loc).loc.toNat (V.fluE t loc).id }
def MV.fluS (V:MV) (t:Nat) (loc:Int):Stp:=⟨0,t,6,(V.fluE t loc).loc,0,(V.fluE t loc).val,(V.fluE t loc).id⟩
def MV.thrI (V:MV) (t:Nat):Ins:=(V.nxt t).getD Ins.zero
def MV.stp (V:MV) (i:Nat):Stp :=
 { (if i<4 then V.thrS i (V.thrI i) else if i<8 then V.fluS (i - 4) 0 else V.fluS ((i - 8) / 4) (((i - 8) % 4:Nat):Int)) with pick:=i }
def MV.nx (V:MV) (i:Nat):MV :=
 { (if i<4 then V.thrM i (V.thrI i) else if i<8 then V.fluM (i - 4) 0 else V.fluM ((i - 8) / 4) (((i - 8) % 4:Nat):Int)) with st:=V.st++[V.stp i] }
structure MV.Inv (V:MV):Prop where
 fit:V.Fit
 small:V.P.small
 fld:∀c∈V.P.thr,∀i∈c,fldB (hasB V.P) i=true
 locs:V.P.locs.length≤4
 c10:∀c∈V.P.thr,c.length≤10
 ents:∀b∈V.bf,∀e∈b,0≤e.loc∧e.loc<4
 pcs:∀t,t<4→((V.b t).length:Int)≤(V.l t).pc
theorem fldV_loc {P:PProg} (h4:P.locs.length≤4) {i:Ins} (h:fldB (hasB P) i=true) (hk:1≤i.kind∧i.kind≤4):0≤i.loc∧i.loc<4:=by
 unfold fldB hasB at h
 split at h
 ·simp at h;omega
 ·split at h
  ·simp at h;omega
  ·split at h
   ·have h:=of_decide_eq_true h
    unfold Ins.cs at h
    simp at h
    omega
   ·split at h
    ·simp at h;omega
    ·omega
theorem MV.Inv.code10 {V:MV} (v:V.Inv) (t:Int):(V.P.code t).length≤10:=by
 unfold PProg.code
 split
 ·rw [List.getD_eq_getElem?_getD]
  cases hq:V.P.thr[t.toNat]? with
  | none=>simp
  | some c=>exact v.c10 c (List.mem_of_getElem? hq)
 ·simp
theorem MV.Inv.nxt {V:MV} (v:V.Inv) {t:Nat} {i:Ins} (h:V.nxt t=some i):(0≤i.loc∧i.loc<4)∧(1≤i.kind∧i.kind≤4)∧0≤(V.l t).pc∧(V.l t).pc<10∧i∈V.P.code t:=by
 obtain ⟨h1,h2,h3,h4,h5⟩:=nextI_kind h
 have hm:i∈V.P.code t:=List.mem_of_getElem? h3
 have:=v.code10 t
 refine ⟨fldV_loc v.locs ?_ ⟨h4,h5⟩,⟨h4,h5⟩,h1,by omega,hm⟩
 unfold PProg.code at hm
 split at hm
 ·rw [List.getD_eq_getElem?_getD] at hm
  cases hq:V.P.thr[(t:Int).toNat]? with
  | none=>rw [hq] at hm;simp at hm
  | some c=>rw [hq] at hm;exact v.fld c (List.mem_of_getElem? hq) i hm
 ·simp at hm
theorem MV.Inv.blen {V:MV} (v:V.Inv) {t:Nat} (ht:t<4):(V.b t).length≤24:=v.fit.b _ (List.mem_of_getElem? (MV.b_at (by rw [v.fit.bf];exact ht)))
structure VmAt (n:Nat) (h:AHeap) (k:Nat) (x:Cell) (pc:List Cell) (V:MV):Prop where
 hn:n≤h.length
 nk:n≤k
 prog:ProgAt (h.take n) pc V.P
 blk:blk? h k=some ⟨true,0,vmC pc V x⟩
 st:Own n h x 7 (stepsC V.st) V.st.length
 sep:¬isBlk x k
structure KpV (n k:Nat) (x x':Cell) (h h':AHeap):Prop where
 kp:Kp n h h'
 old:∀j b,blk? h j=some b→j≠k→¬isBlk x j→blk? h' j=some b∧¬isBlk x' j
theorem Own.blkLt' {n:Nat} {h:AHeap} {x:Cell} {esz len:Nat} {cs:List Cell} (o:Own n h x esz cs len) {k:Nat} (hk:isBlk x k):n≤k∧k<h.length:=by
 rcases o.2 with ⟨rfl,_⟩ | ⟨k',rfl,h1,h2⟩
 ·exact absurd hk (by simp [isBlk])
 ·cases hk;exact ⟨h1,blk_lt' h2⟩
theorem Own.setO {n:Nat} {h:AHeap} {x:Cell} {esz len:Nat} {cs:List Cell} (o:Own n h x esz cs len) {k:Nat} (hk:¬isBlk x k) (b:Option Blk):Own n (setBlk h k b) x esz cs len:=by
 refine ⟨o.1,o.2.imp id ?_⟩
 rintro ⟨k',rfl,h1,h2⟩
 exact ⟨k',rfl,h1,by rw [blk_set_ne (fun e=>hk e.symm)];exact h2⟩
theorem MV.word_lt (V:MV):V.word<2 ^ 64:=wordOf_lt _ (by omega)
section
variable {E:Env}
theorem flush_R' (hE:q194_In E) {k:Nat} {h:AHeap} {x:Cell} {pc:List Cell} {V:MV} (hb:blk? h k=some ⟨true,0,vmC pc V x⟩) (v:V.Inv) (hpc:pc.length=3)
  {t:Nat} (ht:t<4) {loc:Int} (hf:((V.b t).find? (oldP (bmod V.m) loc)).isSome=true) :
  R E 194 [.c (.ptr k 329 0),.c (.int .i64 (t:Int)),.c (.int .i64 loc)] h=some ([.agg (V.fluS t loc).cs],setBlk h k (some ⟨true,0,vmC pc (V.fluM t loc) x⟩)):=by
 refine R_intro hE.fn ?_
 have f:=v.fit
 have hl:=vm_len (x:=x) f hpc
 have rd:∀{α:Type} {F:List Cell→Option α},rdH h k 329 F=F (vmC pc V x):=fun {α F}=>rdH_ok hb hl
 have hr:0≤(t:Int)∧(t:Int)<((4:Nat):Int):=⟨by omega,by omega⟩
 have h74:(0+32)+t*74+74≤(vmC pc V x).length:=by rw [hl];omega
 have hq:=MV.b_at (V:=V) (t:=t) (by rw [f.bf];exact ht)
 have hbl:=v.blen ht
 have hk:k<h.length:=blk_lt' hb
 cases he:(V.b t).find? (oldP (bmod V.m) loc) with
 | none=>rw [he] at hf;cases hf
 | some e =>
  have hee:V.fluE t loc=e:=by unfold MV.fluE;rw [he];rfl
  have hel:=v.ents _ (List.mem_of_getElem? hq) e (List.mem_of_find?_eq_some he)
  have hel':0≤e.loc∧e.loc<((4:Nat):Int):=⟨hel.1,by omega⟩
  have he4:e.loc.toNat<4:=by omega
  obtain ⟨j,hj⟩:∃j,(V.b t).findIdx? (oldP (bmod V.m) loc)=some j:=by
   cases hx:(V.b t).findIdx? (oldP (bmod V.m) loc) with
   | some j=>exact ⟨j,rfl⟩
   | none =>
    rw [List.findIdx?_eq_none_iff] at hx
    have:=hx e (List.mem_of_find?_eq_some he)
    rw [List.find?_some he] at this;cases this
  have hep:(V.b t).eraseP (oldP (bmod V.m) loc)=(V.b t).eraseIdx j:=by rw [List.eraseP_eq_eraseIdx,hj]
  have hlen2:((V.b t).eraseIdx j).length≤24:=by rw [List.length_eraseIdx];split<;>omega
  unfold MV.fluM MV.fluS
  rw [hee,hep]
  have f1:MV.Fit { V with bf:=V.bf.set t ((V.b t).eraseIdx j) }:=⟨f.m,f.lc,f.mem,f.frm,by rw [List.length_set];exact f.bf,fun l hl=>by
   rcases List.mem_or_eq_of_mem_set hl with hl | rfl
   ·exact f.b l hl
   ·exact hlen2⟩
  have f2:MV.Fit { V with bf:=V.bf.set t ((V.b t).eraseIdx j),mem:=V.mem.set e.loc.toNat e.val }:=⟨f1.m,f1.lc,by rw [List.length_set];exact f1.mem,f1.frm,f1.bf,f1.b⟩
  have b1:∀l,blk? (setBlk h k (some ⟨true,0,l⟩)) k=some ⟨true,0,l⟩:=fun l=>blk_set_self hk _
  have rd1:∀(W:MV) (fW:W.Fit) {α:Type} {F:List Cell→Option α},rdH (setBlk h k (some ⟨true,0,vmC pc W x⟩)) k 329 F=F (vmC pc W x):=fun W fW {α F}=>rdH_ok (b1 _) (vm_len fW hpc)
  rw [q194_eq,if_pos hr,rd,Int.toNat_natCast,if_pos h74,vm_buf f hpc hq,bufOldest_R hE.c192 hbl,he]
  dsimp only
  rw [c4_ok,asI_ok,asI_ok,asI_ok,asB_ok,if_pos hr,rd,if_pos h74,vm_buf f hpc hq,bufDrop_R hE.c207 hbl hj,qh_ok,c1_ok,asA_ok,if_pos hr,rd,if_pos ⟨h74,bufC_len _ hlen2⟩,vm_setB f hpc ht hlen2,putB hb,
   if_pos hel',rd1 _ f1,if_pos (by rw [vm_len f1 hpc];omega),vm_setM f1 hpc he4,putB (b1 _),setBlk_set,if_pos hel',rd1 _ f2,if_pos (by rw [vm_len f2 hpc];omega),vm_setF f2 hpc he4,putB (b1 _),setBlk_set,
   if_pos (by exact ⟨by trivial,rfl,rfl⟩),if_pos (by exact ⟨by trivial,rfl⟩)]
  rfl
theorem Pick_no (hE:q173_In E) {n k:Nat} {h:AHeap} {x:Cell} {pc:List Cell} {V:MV} (a:VmAt n h k x pc V) (v:V.Inv) {i:Int} (hi:hasI V.word i=false) :
  R E 173 [.c (.ptr k 329 0),.c (.int .i64 i)] h=some ([.agg (Stp.cs ⟨0,0,0,0,0,0,0⟩),.c (.bool false)],h):=by
 refine R_intro hE.fn ?_
 rw [q173_eq,Enabled_R hE.c172 a.blk v.fit (prog_at a.prog a.hn (Kp.refl n h)),c1_ok,asI_ok,Has_R hE.c17 V.word_lt,c1_ok,asB_ok,hi,if_pos (by simp),if_pos (by exact ⟨by trivial,rfl,rfl⟩),if_pos (by exact ⟨by trivial,rfl⟩)]
 rfl
theorem MV.may_lt {V:MV} {i:Nat} (h:V.may i=true):i<24:=by
 rcases Nat.lt_or_ge i 24 with h1 | h1
 ·exact h1
 ·rw [MV.may_out h1] at h;cases h
set_option maxHeartbeats 1000000 in
theorem Pick_R (hE:q173_In E) {n k:Nat} {h:AHeap} {x:Cell} {pc:List Cell} {V:MV} (a:VmAt n h k x pc V) (v:V.Inv) (hst:V.st.length<100000) {i:Nat} (hi:V.may i=true) :
  ∃x' h',R E 173 [.c (.ptr k 329 0),.c (.int .i64 (i:Int))] h=some ([.agg (V.stp i).cs,.c (.bool true)],h')∧VmAt n h' k x' pc (V.nx i)∧KpV n k x x' h h':=by
 have hi24:=MV.may_lt hi
 have f:=v.fit
 have hpc:=a.prog.len
 have hk:k<h.length:=blk_lt' a.blk
 have hb:maxBytes≥200000*56:=by unfold maxBytes;omega
 have hfits:=v.small.fits
 have push:∀(W:MV) (s:Stp),W.Fit→W.P=V.P→W.st=V.st→∃x' h',(∀{α:Type} (F:Cell→AHeap→Option α),appK 7 56 x s.cs (setBlk h k (some ⟨true,0,vmC pc W x⟩)) F=F x' h')∧blk? h' k=some ⟨true,0,vmC pc W x⟩ ∧
   VmAt n (setBlk h' k (some ⟨true,0,vmC pc W x'⟩)) k x' pc { W with st:=V.st++[s] }∧KpV n k x x' h (setBlk h' k (some ⟨true,0,vmC pc W x'⟩)):=by
  intro W s fW hWP hWs
  have b1:blk? (setBlk h k (some ⟨true,0,vmC pc W x⟩)) k=some ⟨true,0,vmC pc W x⟩:=blk_set_self hk _
  obtain ⟨x',h',e1,o1,k1,r1⟩:=(a.st.setO a.sep (some ⟨true,0,vmC pc W x⟩)).app (bytes:=56) (by rw [setBlk_len];exact a.hn) (stp_len s) (by omega) (by omega) (by omega)
  obtain ⟨c1,c2⟩:=r1 k _ b1 a.sep
  have kp1:Kp n h h':=(Kp.set a.nk _).trans k1
  have kp2:Kp n h (setBlk h' k (some ⟨true,0,vmC pc W x'⟩)):=kp1.trans (Kp.set a.nk _)
  refine ⟨x',h',e1,c1,⟨Nat.le_trans a.hn kp2.1,a.nk,?_,blk_set_self (blk_lt' c1) _,?_,c2⟩,kp2,fun j b hj hne hnx=>?_⟩
  ·have:(setBlk h' k (some ⟨true,0,vmC pc W x'⟩)).take n=h.take n:=by
    refine List.ext_getElem? fun j=>?_
    rw [List.getElem?_take,List.getElem?_take]
    split
    ·exact kp2.2 j (by assumption)
    ·rfl
   rw [this]
   show ProgAt (h.take n) pc W.P
   rw [hWP];exact a.prog
  ·show Own n _ x' 7 (stepsC (V.st++[s])) (V.st++[s]).length
   rw [stepsC_snoc,List.length_append,List.length_singleton]
   exact o1.setO c2 _
  ·obtain ⟨d1,d2⟩:=r1 j b (by rw [blk_set_ne (fun e=>hne e.symm)];exact hj) hnx
   exact ⟨by rw [blk_set_ne (fun e=>hne e.symm)];exact d1,d2⟩
 have hhas:hasI V.word (i:Int)=true:=by rw [hasI_nat (by omega),MV.word_bit,hi]
 have en:=Enabled_R hE.c172 a.blk f (prog_at a.prog a.hn (Kp.refl n h))
 have s7:∀s:Stp,(s.cs.set 0 (.int .i64 (i:Int)))=({ s with pick:=i }:Stp).cs:=fun _=>rfl
 have s7':∀s:Stp,splice (List.replicate 7 ci0) 0 s.cs=s.cs:=fun _=>rfl
 have fluW:∀(t:Nat) (loc:Int),t<4→(V.fluM t loc).Fit:=fun t loc ht=>by
  have hbl:=v.blen ht
  refine ⟨f.m,f.lc,by show (V.mem.set _ _).length=4;rw [List.length_set];exact f.mem,by show (V.frm.set _ _).length=4;rw [List.length_set];exact f.frm,by show (V.bf.set _ _).length=4;rw [List.length_set];exact f.bf,fun l hl=>?_⟩
  rcases List.mem_or_eq_of_mem_set hl with hl | rfl
  ·exact f.b l hl
  ·exact Nat.le_trans List.length_eraseP_le hbl
 by_cases h4:i<4
 ·have hm:V.mayT i=true:=by unfold MV.may at hi;rw [if_pos h4] at hi;exact hi
  obtain ⟨q,hq⟩:∃q,V.nxt i=some q:=by
   unfold MV.mayT at hm
   cases hq:V.nxt i with
   | none=>rw [hq] at hm;cases hm
   | some q=>exact ⟨q,rfl⟩
  have hqI:V.thrI i=q:=by unfold MV.thrI;rw [hq];rfl
  obtain ⟨q1,q2,q3,q4,q5⟩:=v.nxt hq
  have hpb:=v.pcs i h4
  have th:=thread_R' hE.c193 a.blk f a.prog a.hn a.nk hfits a.st h4 hq q1 (by omega)
  have fW:(V.thrM i q).Fit:=by
   have hfw:(V.wr i (evOf q (V.l i) (V.val i q).1)).Fit:=by
    unfold MV.wr
    split
    ·refine ⟨f.m,f.lc,f.mem,f.frm,by rw [List.length_set];exact f.bf,fun l hl=>?_⟩
     rcases List.mem_or_eq_of_mem_set hl with hl | rfl
     ·exact f.b l hl
     ·rw [List.length_append,List.length_singleton];omega
    ·split
     ·exact ⟨f.m,f.lc,by rw [List.length_set];exact f.mem,by rw [List.length_set];exact f.frm,f.bf,f.b⟩
     ·exact f
   exact ⟨hfw.m,by show (V.lc.set _ _).length=4;rw [List.length_set];exact f.lc,hfw.mem,hfw.frm,hfw.bf,hfw.b⟩
  have hPP:(V.thrM i q).P=V.P:=by unfold MV.thrM MV.wr;split<;>(try split)<;>rfl
  have hSS:(V.thrM i q).st=V.st:=by unfold MV.thrM MV.wr;split<;>(try split)<;>rfl
  obtain ⟨x',h',e1,c1,c2,c3⟩:=push (V.thrM i q) { V.thrS i q with pick:=i } fW hPP hSS
  have e2:V.stp i={ V.thrS i q with pick:=i }:=by unfold MV.stp;rw [if_pos h4,hqI]
  have e3:V.nx i={ V.thrM i q with st:=V.st++[{ V.thrS i q with pick:=i }] }:=by unfold MV.nx;rw [if_pos h4,hqI,e2]
  rw [e2,e3]
  have b1:blk? (setBlk h k (some ⟨true,0,vmC pc (V.thrM i q) x⟩)) k=some ⟨true,0,vmC pc (V.thrM i q) x⟩:=blk_set_self hk _
  have l1:=vm_len (x:=x) fW hpc
  refine ⟨x',_,R_intro hE.fn ?_,c2,c3⟩
  rw [q173_eq,en,c1_ok,asI_ok,Has_R hE.c17 V.word_lt,c1_ok,asB_ok,hhas,if_neg (by simp),if_pos (by simp;omega),th,c1_ok,asA_ok,if_pos (by exact ⟨by trivial,rfl,rfl⟩),if_pos (by rw [stp_len];omega),rdH_ok b1 l1,vm_steps fW hpc]
  simp only [s7,s7',e1]
  rw [if_pos (by exact ⟨by trivial,rfl⟩),if_pos (by exact ⟨rfl,by decide⟩),if_pos (by exact rfl),rdH_ok c1 l1,if_pos (by rw [l1];omega),vm_setX fW hpc,putB c1,if_pos (by exact ⟨by trivial,rfl⟩),if_pos (by exact ⟨by trivial,rfl,rfl⟩),if_pos (by exact ⟨by trivial,rfl⟩)]
 ·have flu:∀(t:Nat) (loc:Int),t<4→((V.b t).find? (oldP (bmod V.m) loc)).isSome=true→V.stp i={ V.fluS t loc with pick:=i }→V.nx i={ V.fluM t loc with st:=V.st++[V.stp i] } →
    (((i:Int)<8∧R E 194 [(.c (.ptr k 329 0)),(.c (.int .i64 (E.glob.wrap .i64 ((i:Int) - 4)))),(.c (.int .i64 0))] h=R E 194 [.c (.ptr k 329 0),.c (.int .i64 (t:Int)),.c (.int .i64 loc)] h) ∨
     (¬(i:Int)<8∧R E 194 [(.c (.ptr k 329 0)),(.c (.int .i64 (E.glob.quo .i64 (E.glob.wrap .i64 ((i:Int) - 8)) 4))),(.c (.int .i64 (E.glob.rem .i64 (E.glob.wrap .i64 ((i:Int) - 8)) 4)))] h=R E 194 [.c (.ptr k 329 0),.c (.int .i64 (t:Int)),.c (.int .i64 loc)] h)) →
    ∃x' h',R E 173 [.c (.ptr k 329 0),.c (.int .i64 (i:Int))] h=some ([.agg (V.stp i).cs,.c (.bool true)],h')∧VmAt n h' k x' pc (V.nx i)∧KpV n k x x' h h':=by
   intro t loc ht hf e2 e3 hF
   have fW:=fluW t loc ht
   have fl:=flush_R' hE.c194 a.blk v hpc ht hf
   obtain ⟨x',h',e1,c1,c2,c3⟩:=push (V.fluM t loc) { V.fluS t loc with pick:=i } fW rfl rfl
   rw [e3,e2]
   have b1:blk? (setBlk h k (some ⟨true,0,vmC pc (V.fluM t loc) x⟩)) k=some ⟨true,0,vmC pc (V.fluM t loc) x⟩:=blk_set_self hk _
   have l1:=vm_len (x:=x) fW hpc
   refine ⟨x',_,R_intro hE.fn ?_,c2,c3⟩
   rw [q173_eq,en,c1_ok,asI_ok,Has_R hE.c17 V.word_lt,c1_ok,asB_ok,hhas,if_neg (by simp),if_neg (by simp;omega)]
   rcases hF with ⟨h8,hF⟩ | ⟨h8,hF⟩
   ·rw [if_pos (decide_eq_true h8),hF]
    rw [fl,c1_ok,asA_ok,if_pos (by exact ⟨by trivial,rfl,rfl⟩),if_pos (by rw [stp_len];omega),rdH_ok b1 l1,vm_steps fW hpc]
    simp only [s7,s7',e1]
    rw [if_pos (by exact ⟨by trivial,rfl⟩),if_pos (by exact ⟨rfl,by decide⟩),if_pos (by exact rfl),rdH_ok c1 l1,if_pos (by rw [l1];omega),vm_setX fW hpc,putB c1,if_pos (by exact ⟨by trivial,rfl⟩),if_pos (by exact ⟨by trivial,rfl,rfl⟩),if_pos (by exact ⟨by trivial,rfl⟩)]
   ·rw [if_neg (by rw [decide_eq_false h8];simp),hF]
    rw [fl,c1_ok,asA_ok,if_pos (by exact ⟨by trivial,rfl,rfl⟩),if_pos (by rw [stp_len];omega),rdH_ok b1 l1,vm_steps fW hpc]
    simp only [s7,s7',e1]
    rw [if_pos (by exact ⟨by trivial,rfl⟩),if_pos (by exact ⟨rfl,by decide⟩),if_pos (by exact rfl),rdH_ok c1 l1,if_pos (by rw [l1];omega),vm_setX fW hpc,putB c1,if_pos (by exact ⟨by trivial,rfl⟩),if_pos (by exact ⟨by trivial,rfl,rfl⟩),if_pos (by exact ⟨by trivial,rfl⟩)]
  by_cases h8:i<8
  ·have hm:V.mayF (i - 4)=true:=by unfold MV.may at hi;rw [if_neg h4,if_pos h8] at hi;exact hi
   unfold MV.mayF at hm
   rw [Bool.and_eq_true] at hm
   have hm2:V.m=2:=beq_iff_eq.1 hm.1
   have hne:(V.b (i - 4)).length≠0:=by simpa using hm.2
   refine flu (i - 4) 0 (by omega) ?_ (by unfold MV.stp;rw [if_neg h4,if_pos h8]) (by unfold MV.nx;rw [if_neg h4,if_pos h8]) (.inl ⟨by omega,?_⟩)
   ·rw [hm2]
    cases hbb:V.b (i - 4) with
    | nil=>rw [hbb] at hne;exact absurd rfl hne
    | cons e l=>rfl
   ·rw [g_wrap_i64 (by omega) (by omega),show ((i:Int) - 4)=((i - 4:Nat):Int) by omega]
  ·have hm:V.mayL ((i - 8) / 4) ((i - 8) % 4)=true:=by unfold MV.may at hi;rw [if_neg h4,if_neg h8,if_pos hi24] at hi;exact hi
   unfold MV.mayL at hm
   rw [Bool.and_eq_true] at hm
   have hm3:V.m=3:=beq_iff_eq.1 hm.1
   refine flu ((i - 8) / 4) (((i - 8) % 4:Nat):Int) (by omega) ?_ (by unfold MV.stp;rw [if_neg h4,if_neg h8]) (by unfold MV.nx;rw [if_neg h4,if_neg h8]) (.inr ⟨by omega,?_⟩)
   ·rw [hm3];exact hm.2
   ·rw [g_wrap_i64 (by omega) (by omega),show ((i:Int) - 8)=((i - 8:Nat):Int) by omega,g_quo,g_rem,Int.tdiv_eq_ediv_of_nonneg (by omega),Int.tmod_eq_emod_of_nonneg (by omega),
     show (((i - 8:Nat):Int) / 4)=(((i - 8) / 4:Nat):Int) by omega,show (((i - 8:Nat):Int) % 4)=(((i - 8) % 4:Nat):Int) by omega,wrap_i64 (by omega) (by omega)]
end
end Jq

namespace Jq
open Go
def nwC (a b c:Cell) (m bm:Int) (l:Nat→Lcl) (t:Nat):List Cell :=
 [a,b,c,.int .i64 m]++(((if 0<t then (l 0).cs else Lcl.zero.cs)++((if 1<t then (l 1).cs else Lcl.zero.cs)++((if 2<t then (l 2).cs else Lcl.zero.cs)++(if 3<t then (l 3).cs else Lcl.zero.cs)))) ++
  (List.replicate 4 (.int .i64 0)++(([if 0<t then .int .i64 (-1) else .int .i64 0,if 1<t then .int .i64 (-1) else .int .i64 0,if 2<t then .int .i64 (-1) else .int .i64 0,if 3<t then .int .i64 (-1) else .int .i64 0]:List Cell) ++
   (((if 0<t then bufC bm [] else bufC 0 [])++((if 1<t then bufC bm [] else bufC 0 [])++((if 2<t then bufC bm [] else bufC 0 [])++(if 3<t then bufC bm [] else bufC 0 []))))++[.nils]))))
set_option maxRecDepth 100000 in
theorem nw_0 (a b c:Cell) (m bm:Int) (l:Nat→Lcl):splice (splice ([Cell.nils,Cell.nils,Cell.nils]++List.replicate 325 ci0++[Cell.nils]) 0 [a,b,c]) 3 [(.int .i64 m)]=nwC a b c m bm l 0:=by kernel_rfl
set_option maxRecDepth 100000 in
theorem nw_next (a b c:Cell) (m bm:Int) (l:Nat→Lcl):∀t,t<4→(splice (splice (nwC a b c m bm l t) ((0+4)+t*5) (l t).cs) ((0+32)+t*74) (bufC bm [])).set ((0+28)+t*1) (.int .i64 (-1))=nwC a b c m bm l (t+1)
 | 0,_=>by kernel_rfl
 | 1,_=>by kernel_rfl
 | 2,_=>by kernel_rfl
 | 3,_=>by kernel_rfl
 | t+4,h=>by omega
theorem nw_len (a b c:Cell) (m bm:Int) (l:Nat→Lcl):∀t,t≤4→(nwC a b c m bm l t).length=329
 | 0,_=>by kernel_rfl
 | 1,_=>by kernel_rfl
 | 2,_=>by kernel_rfl
 | 3,_=>by kernel_rfl
 | 4,_=>by kernel_rfl
 | t+5,h=>by omega
theorem nw_pc (a b c:Cell) (m bm:Int) (l:Nat→Lcl) (t:Nat):((nwC a b c m bm l t).drop (0+0)).take 3=[a,b,c]:=by
 rw [Nat.add_zero,List.drop_zero];rfl
set_option maxRecDepth 100000 in
theorem nw_z:([Cell.nils,Cell.nils,Cell.nils]++List.replicate 325 ci0++[Cell.nils]).length=329:=by kernel_rfl
theorem splice_len {l xs:List Cell} {n:Nat} (h:n+xs.length≤l.length):(splice l n xs).length=l.length:=by
 unfold splice
 rw [List.length_append,List.length_append,List.length_take,List.length_drop];omega
def MV.new (P:PProg) (m:Int):MV :=
 ⟨P,m,[startL P 0,startL P 1,startL P 2,startL P 3],P.init++List.replicate (4 - P.init.length) 0,[-1,-1,-1,-1],[[],[],[],[]],[]⟩
set_option maxRecDepth 100000 in
theorem nw_end (a b c:Cell) (P:PProg) (m:Int):nwC a b c m (bmod m) (fun t=>startL P t) 4=vmC [a,b,c] { MV.new P m with mem:=[0,0,0,0] } .nils:=by kernel_rfl
theorem MV.new_fit {P:PProg} {m:Int} (hm:1≤m∧m≤3) (hi:P.init.length≤4):(MV.new P m).Fit :=
 ⟨hm,rfl,by show (P.init++List.replicate (4 - P.init.length) 0).length=4;rw [List.length_append,List.length_replicate];omega,rfl,rfl,fun l hl=>by
  simp [MV.new] at hl;subst hl;simp⟩
attribute [local irreducible] nwC vmC bufC
section
variable {E:Env}
theorem new_cnt (hE:q171_In E) {h8:AHeap} {a b c:Cell} {pc:List Cell} {P:PProg} (p8:ProgAt h8 [a,b,c] P) (hfits:P.fits) {m:Int} :
  Lim (q171_F1 (R E) Lim E.glob) (q171_s1 m h8.length 329 0 ((0:Nat):Int) pc (h8++[some ⟨true,0,nwC a b c m (bmod m) (fun t=>startL P t) 0⟩]))=some (.exit 0,q171_x1_1 h8.length 329 0 pc (h8++[some ⟨true,0,nwC a b c m (bmod m) (fun t=>startL P t) 4⟩])):=by
 have b8:∀l:List Cell,blk? (h8++[some ⟨true,0,l⟩]) h8.length=some ⟨true,0,l⟩:=fun l=>blk_new _ _
 have p9:∀q,ProgAt (h8++[some q]) [a,b,c] P:=fun q=>p8.keep (Kp.app _ (Nat.le_refl _))
 have rd:∀(l:List Cell) {α:Type} {F:List Cell→Option α},l.length=329→rdH (h8++[some ⟨true,0,l⟩]) h8.length 329 F=F l:=fun l α F hl=>rdH_ok (b8 l) hl
 have put:∀(l cs:List Cell) {α:Type} {F:AHeap→Option α},putH (h8++[some ⟨true,0,l⟩]) h8.length cs F=F (h8++[some ⟨true,0,cs⟩]):=fun l cs α F=>by rw [putB (b8 l),setBlk_last]
 refine Lim_count (F:=q171_F1 (R E) Lim E.glob) (fun t=>q171_s1 m h8.length 329 0 (t:Int) pc (h8++[some ⟨true,0,nwC a b c m (bmod m) (fun t=>startL P t) t⟩])) 0 4 (by omega) (fun t _ ht=>?_) (Lim_exit ?_)
 ·have hl:=nw_len a b c m (bmod m) (fun t=>startL P t) t (by omega)
  have hnx:=nw_next a b c m (bmod m) (fun t=>startL P t) t ht
  have hr:0≤(t:Int)∧(t:Int)<((4:Nat):Int):=⟨by omega,by omega⟩
  have hpcs:=nw_pc a b c m (bmod m) (fun t=>startL P t) t
  have hb0:(bufC (bmod m) []).length=74:=bufC_len _ (by simp)
  generalize nwC a b c m (bmod m) (fun t=>startL P t) t=l0 at *
  generalize nwC a b c m (bmod m) (fun t=>startL P t) (t+1)=l9 at *
  have hl1:(splice l0 ((0+4)+t*5) (startL P t).cs).length=329:=by
   rw [splice_len (by rw [hl,Lcl.len];omega),hl]
  have hl2:(splice (splice l0 ((0+4)+t*5) (startL P t).cs) ((0+32)+t*74) (bufC (bmod m) [])).length=329:=by
   rw [splice_len (by rw [hl1,hb0];omega),hl1]
  rw [q171_r1,if_pos (by simp;omega),rd _ hl,if_pos (by rw [hl];omega),hpcs,PStart_R hE.c94 hfits (p9 _),qh_ok,c1_ok,asA_ok,if_pos hr,rd _ hl,Int.toNat_natCast,if_pos ⟨by rw [hl];omega,rfl⟩,put,bufNew_R hE.c190,qh_ok,c1_ok,asA_ok,if_pos hr]
  rw [show (if m=2∨m=3 then m else 0)=bmod m from rfl,rd _ hl1,if_pos ⟨by rw [hl1];omega,hb0⟩,put,if_pos hr,rd _ hl2,if_pos (by rw [hl2];omega),put,g_succ (by omega),hnx]
 ·rw [q171_r1,if_neg (by simp)]
theorem new_mem {a b c:Cell} {P:PProg} {m:Int} (f0:MV.Fit { MV.new P m with mem:=[0,0,0,0] }) (hil:P.init.length≤4) :
  splice (vmC [a,b,c] { MV.new P m with mem:=[0,0,0,0] } .nils) 24 (intC .i64 P.init)=vmC [a,b,c] (MV.new P m) .nils:=by
 obtain ⟨A,B,eA,hA,eM⟩:=vm_lensM (pc:=[a,b,c]) (x:=.nils) f0 rfl
 have e1:vmC [a,b,c] (MV.new P m) .nils=A++(intC .i64 (MV.new P m).mem++B):=eM (MV.new P m).mem
 rw [eA,e1,show 24=A.length+0 by omega,splice_app]
 congr 1
 unfold splice
 rw [List.take_zero,List.nil_append,Nat.zero_add,intC_len]
 show intC .i64 P.init++_=intC .i64 (P.init++List.replicate (4 - P.init.length) 0)++B
 rw [show intC .i64 (P.init++List.replicate (4 - P.init.length) 0)=intC .i64 P.init++List.replicate (4 - P.init.length) (.int .i64 0) by simp [intC],List.append_assoc]
 congr 1
 rw [List.drop_append_of_le_length (by rw [intC_len];exact hil)]
 congr 1
 show (List.replicate 4 ci0).drop _=_
 rw [List.drop_replicate]
theorem new_loop (hE:q171_In E) {h8:AHeap} {a b c:Cell} {pc:List Cell} {P:PProg} (p8:ProgAt h8 [a,b,c] P) (hfits:P.fits) {m:Int} (z:List Cell) (hz:z=nwC a b c m (bmod m) (fun t=>startL P t) 0) :
  Lim (q171_F1 (R E) Lim E.glob) (q171_s1 m h8.length (AV.cells (.agg z)).length 0 0 pc (h8++[some (Blk.mk true 0 (AV.cells (.agg z)))]))=some (.exit 0,q171_x1_1 h8.length 329 0 pc (h8++[some ⟨true,0,vmC [a,b,c] { MV.new P m with mem:=[0,0,0,0] } .nils⟩])):=by
 have h1:AV.cells (.agg z)=z:=rfl
 rw [h1,hz,nw_len _ _ _ _ _ _ _ (by omega),←nw_end]
 exact new_cnt hE p8 hfits
theorem VNew_S (hE:q171_In E) {h:AHeap} {pc:List Cell} {P:PProg} (p:ProgAt h pc P) (hsm:P.small) (hu:∀x∈P.locs,0≤x∧x<256) (hll:P.locs.length≤1000) (hil:P.init.length≤4) {m:Int} (hm:1≤m∧m≤3) (hpok:pokB P=true) :
  ∃n k pc' h',R E 171 [.agg pc,.c (.int .i64 m)] h=some ([.c (.ptr k 329 0),.c (.int .i64 0)],h')∧VmAt n h' k .nils pc' (MV.new P m)∧h.length≤n∧Kp h.length h h'∧ProgO h.length (h'.take n) pc' P∧k<h'.length:=by
 obtain ⟨pc',h8,r8,po8,k8⟩:=copied_S hE.c189 p hsm hll (by omega)
 have p8:=po8.at
 obtain ⟨a,b,c,ts,he,_⟩:=id p8
 subst he
 have hfits:=hsm.fits
 have f0:MV.Fit { MV.new P m with mem:=[0,0,0,0] }:=⟨hm,rfl,rfl,rfl,rfl,fun l hl=>by simp [MV.new] at hl;subst hl;simp⟩
 have hpc:([a,b,c]:List Cell).length=3:=rfl
 have b8:∀l:List Cell,blk? (h8++[some ⟨true,0,l⟩]) h8.length=some ⟨true,0,l⟩:=fun l=>blk_new _ _
 have cnt:=new_loop hE (pc:=pc) p8 hfits _ (nw_0 a b c m (bmod m) (fun t=>startL P t))
 obtain ⟨bi,hbi,hbl,hbg⟩:=p.initG
 have hl0:=vm_len (x:=.nils) f0 hpc
 have hsp:=new_mem (a:=a) (b:=b) (c:=c) f0 hil
 generalize vmC [a,b,c] { MV.new P m with mem:=[0,0,0,0] } .nils=l0 at *
 have hci:=cells1 (hbi.keep hbl (k8.trans (Kp.app [some ⟨true,0,l0⟩] k8.1)))
 refine ⟨h8.length,h8.length,[a,b,c],h8++[some ⟨true,0,vmC [a,b,c] (MV.new P m) .nils⟩],R_intro hE.fn ?_,⟨by simp,Nat.le_refl _,?_,b8 _,Own.nil _ _ _,fun h=>h⟩,k8.1,k8.trans (Kp.app _ k8.1),by rw [List.take_append_of_le_length (Nat.le_refl _),List.take_length];exact po8,by simp⟩
 ·rw [q171_eq,scK_or,show (decide (m<1)||decide (m > 3))=false by simp;omega,scK_ok,if_pos (by exact ⟨rfl,p.len⟩),progOk_R hE.c188 p hsm hu hll,c1_ok,asB_ok,hpok,bind_ok]
  dsimp only
  rw [if_neg (by simp),if_pos (by exact ⟨rfl,p.len⟩),r8,c1_ok,asA_ok,if_pos (by exact ⟨rfl,by rw [nw_z];omega⟩),if_pos (by exact ⟨rfl,by rw [splice_len (by rw [nw_z];simp),nw_z];omega⟩),cnt,bind_ok]
  dsimp only
  rw [q171_e1_1]
  have hsl:∀{α:Type} (F:Cell→Option α),sliceAK (h8++[some ⟨true,0,l0⟩]) 4 1 false false (.ptr h8.length 329 (0+24)) [] F=F (.sl h8.length 329 24 4):=fun F=>by
   unfold sliceAK okSl boundsK
   simp only
   rw [b8]
   simp only
   rw [if_pos (by rw [hl0];simp)]
  rw [hsl,hbg]
  unfold copyK
  rw [hci,bind_ok]
  dsimp only
  rw [b8,bind_ok]
  dsimp only
  rw [if_pos ⟨rfl,hl0,by omega⟩,intC_len,Nat.div_one,Nat.min_eq_left hil,Nat.mul_one,List.take_of_length_le (by rw [intC_len];exact Nat.le_refl _),hsp,setBlk_last]
 ·rw [List.take_append_of_le_length (Nat.le_refl _),List.take_length];exact p8
theorem VNew_R (hE:q171_In E) {h:AHeap} {pc:List Cell} {P:PProg} (p:ProgAt h pc P) (hsm:P.small) (hu:∀x∈P.locs,0≤x∧x<256) (hll:P.locs.length≤1000) (hil:P.init.length≤4) {m:Int} (hm:1≤m∧m≤3) (hpok:pokB P=true) :
  ∃n k pc' h',R E 171 [.agg pc,.c (.int .i64 m)] h=some ([.c (.ptr k 329 0),.c (.int .i64 0)],h')∧VmAt n h' k .nils pc' (MV.new P m)∧h.length≤n∧Kp h.length h h':=by
 obtain ⟨n,k,pc',h',r1,r2,r3,r4,_⟩:=VNew_S hE p hsm hu hll hil hm hpok
 exact ⟨n,k,pc',h',r1,r2,r3,r4⟩
end
end Jq

namespace Jq
open Go
theorem getDset {α:Type} {l:List α} {i:Nat} (hi:i<l.length) (y d:α) (j:Nat):(l.set i y).getD j d=if j=i then y else l.getD j d:=by
 rw [List.getD_eq_getElem?_getD,List.getD_eq_getElem?_getD,List.getElem?_set]
 by_cases h:i=j
 ·subst h;rw [if_pos rfl,if_pos hi,if_pos rfl];rfl
 ·rw [if_neg h,if_neg (fun e=>h e.symm)]
theorem startL_pc (P:PProg) (t:Int):0≤(startL P t).pc:=by
 unfold startL normL
 exact nrm_pc (code:=P.code t) _ Lcl.zero
theorem MV.new_inv {P:PProg} {m:Int} (hm:1≤m∧m≤3) (hs:P.small) (hf:∀c∈P.thr,∀i∈c,fldB (hasB P) i=true) (hl:P.locs.length≤4) (hi:P.init.length≤4) (hc:∀c∈P.thr,c.length≤10):(MV.new P m).Inv:=by
 refine ⟨MV.new_fit hm hi,hs,hf,hl,hc,fun b hb e he=>?_,fun t ht=>?_⟩
 ·simp [MV.new] at hb;subst hb;simp at he
 ·match t with
  | 0=>exact startL_pc P 0
  | 1=>exact startL_pc P 1
  | 2=>exact startL_pc P 2
  | 3=>exact startL_pc P 3
  | t+4=>omega
theorem MV.wr_lc (V:MV) (t:Nat) (e:Evt):(V.wr t e).lc=V.lc∧(V.wr t e).P=V.P∧(V.wr t e).m=V.m:=by
 unfold MV.wr;split<;>(try split)<;>exact ⟨rfl,rfl,rfl⟩
theorem MV.wr_bf (V:MV) (t:Nat) (e:Evt):(V.wr t e).bf=if e.kind=2∧V.m≠1 then V.bf.set t (V.b t++[⟨e.loc,e.w,V.st.length⟩]) else V.bf:=by
 unfold MV.wr;split
 ·rfl
 ·split<;>rfl
theorem MV.rows_of {W:MV} (h4:W.bf.length=4) {p:List Ent→Prop} (h:∀t,t<4→p (W.b t)):∀b∈W.bf,p b:=by
 intro b hb
 obtain ⟨t,ht,rfl⟩:=List.mem_iff_getElem.1 hb
 have:=h t (by omega)
 unfold MV.b at this
 rw [List.getD_eq_getElem?_getD,List.getElem?_eq_getElem ht] at this
 exact this
theorem MV.may_thr {V:MV} {i:Nat} (hi:i<4) (h:V.may i=true):V.nxt i=some (V.thrI i):=by
 unfold MV.may at h
 rw [if_pos hi] at h
 unfold MV.mayT at h
 unfold MV.thrI
 cases hq:V.nxt i with
 | none=>rw [hq] at h;cases h
 | some q=>rfl
section nx
variable {V:MV} (v:V.Inv)
include v
theorem MV.Inv.thrL {i:Nat} (hi:i<4) (q:Ins) (t:Nat):(V.thrM i q).l t=if t=i then afterL (V.P.code i) (V.l i) (V.val i q).1 else V.l t:=by
 show (V.lc.set i _).getD t Lcl.zero=_
 rw [getDset (by rw [v.fit.lc];exact hi)]
 rfl
theorem MV.Inv.thrB {i:Nat} (hi:i<4) (q:Ins) (t:Nat):(V.thrM i q).b t=if t=i∧(evOf q (V.l i) (V.val i q).1).kind=2∧V.m≠1 then V.b i++[⟨(evOf q (V.l i) (V.val i q).1).loc,(evOf q (V.l i) (V.val i q).1).w,V.st.length⟩] else V.b t:=by
 show (V.wr i _).bf.getD t []=_
 rw [V.wr_bf]
 split
 ·rename_i h
  rw [getDset (by rw [v.fit.bf];exact hi)]
  by_cases ht:t=i
  ·rw [if_pos ht,if_pos ⟨ht,h⟩]
  ·rw [if_neg ht,if_neg (fun q=>ht q.1)];rfl
 ·rename_i h
  rw [if_neg (fun q=>h q.2)];rfl
theorem MV.Inv.fluB {i:Nat} (hi:i<4) (loc:Int) (t:Nat):(V.fluM i loc).b t=if t=i then (V.b i).eraseP (oldP (bmod V.m) loc) else V.b t:=by
 show (V.bf.set i _).getD t []=_
 rw [getDset (by rw [v.fit.bf];exact hi)]
 rfl
theorem MV.Inv.mem_b {t:Nat} {e:Ent} (he:e∈V.b t):0≤e.loc∧e.loc<4:=by
 by_cases ht:t<V.bf.length
 ·exact v.ents _ (List.mem_of_getElem? (MV.b_at ht)) e he
 ·unfold MV.b at he
  rw [List.getD_eq_getElem?_getD,List.getElem?_eq_none (by omega)] at he
  simp at he
theorem MV.Inv.thr {i:Nat} (hi:i<4) {q:Ins} (hq:V.nxt i=some q):(V.thrM i q).Inv:=by
 obtain ⟨q1,q2,q3,q4,q5⟩:=v.nxt hq
 have hb:=v.thrB hi q
 have hl:=v.thrL hi q
 have hpc:(V.l i).pc+1≤(afterL (V.P.code i) (V.l i) (V.val i q).1).pc:=afterL_pc hq _
 have hev:=evOf_loc (l:=V.l i) (v:=(V.val i q).1) q1
 obtain ⟨w1,w2,w3⟩:=V.wr_lc i (evOf q (V.l i) (V.val i q).1)
 have f:=v.fit
 have e0:(V.thrM i q).bf.length=4:=by
  show (V.wr i _).bf.length=4
  rw [V.wr_bf];split
  ·rw [List.length_set];exact f.bf
  ·exact f.bf
 have blen:∀t,t<4→((V.thrM i q).b t).length≤24:=fun t ht=>by
  rw [hb]
  split
  ·have:=v.pcs i hi
   rw [List.length_append,List.length_singleton];omega
  ·exact v.blen ht
 have hmm:(V.thrM i q).m=V.m:=w3
 have hPP:(V.thrM i q).P=V.P:=w2
 refine ⟨⟨by rw [hmm];exact f.m,by show (V.lc.set _ _).length=4;rw [List.length_set];exact f.lc,?_,?_,e0,MV.rows_of e0 blen⟩,by rw [hPP];exact v.small,by rw [hPP];exact v.fld,by rw [hPP];exact v.locs,by rw [hPP];exact v.c10,MV.rows_of e0 fun t ht e he=>?_,fun t ht=>?_⟩
 ·show (V.wr i _).mem.length=4
  unfold MV.wr;split
  ·exact f.mem
  ·split
   ·rw [List.length_set];exact f.mem
   ·exact f.mem
 ·show (V.wr i _).frm.length=4
  unfold MV.wr;split
  ·exact f.frm
  ·split
   ·rw [List.length_set];exact f.frm
   ·exact f.frm
 ·rw [hb] at he
  split at he
  ·rcases List.mem_append.1 he with he | he
   ·exact v.mem_b he
   ·rw [List.mem_singleton] at he;subst he;exact hev
  ·exact v.mem_b he
 ·rw [hb,hl]
  by_cases h:t=i
  ·subst h
   rw [if_pos rfl]
   have:=v.pcs t ht
   split
   ·rw [List.length_append,List.length_singleton];omega
   ·omega
  ·rw [if_neg h,if_neg (fun q=>h q.1)]
   exact v.pcs t ht
theorem MV.Inv.flu {i:Nat} (hi:i<4) (loc:Int):(V.fluM i loc).Inv:=by
 have hb:=v.fluB hi loc
 have f:=v.fit
 have e0:(V.fluM i loc).bf.length=4:=by show (V.bf.set _ _).length=4;rw [List.length_set];exact f.bf
 refine ⟨⟨f.m,f.lc,by show (V.mem.set _ _).length=4;rw [List.length_set];exact f.mem,by show (V.frm.set _ _).length=4;rw [List.length_set];exact f.frm,e0,MV.rows_of e0 fun t ht=>?_⟩,v.small,v.fld,v.locs,v.c10,MV.rows_of e0 fun t ht e he=>?_,fun t ht=>?_⟩
 ·rw [hb];split
  ·exact Nat.le_trans List.length_eraseP_le (v.blen hi)
  ·exact v.blen ht
 ·rw [hb] at he
  split at he
  ·exact v.mem_b (List.mem_of_mem_eraseP he)
  ·exact v.mem_b he
 ·rw [hb]
  show _≤(V.l t).pc
  split
  ·rename_i h
   subst h
   have:=v.pcs t ht
   have h2:=List.length_eraseP_le (p:=oldP (bmod V.m) loc) (l:=V.b t)
   omega
  ·exact v.pcs t ht
theorem MV.Inv.st {s:List Stp}:MV.Inv { V with st:=s }:=⟨⟨v.fit.m,v.fit.lc,v.fit.mem,v.fit.frm,v.fit.bf,v.fit.b⟩,v.small,v.fld,v.locs,v.c10,v.ents,v.pcs⟩
theorem MV.Inv.nx {i:Nat} (h:V.may i=true):(V.nx i).Inv:=by
 have hi:=MV.may_lt h
 unfold MV.nx
 split
 ·rename_i h4
  exact (v.thr h4 (MV.may_thr h4 h)).st
 ·split
  ·exact (v.flu (by omega) _).st
  ·exact (v.flu (by omega) _).st
end nx
theorem MV.nx_st (V:MV) (i:Nat):(V.nx i).st=V.st++[V.stp i]:=rfl
theorem MV.nx_P (V:MV) (i:Nat):(V.nx i).P=V.P∧(V.nx i).m=V.m:=by
 unfold MV.nx
 split
 ·exact ⟨(V.wr_lc _ _).2.1,(V.wr_lc _ _).2.2⟩
 ·split<;>exact ⟨rfl,rfl⟩
end Jq

namespace Jq
open Go
end Jq

namespace Jq
open Go
end Jq

namespace Jq
open Go
end Jq

namespace Jq
open Go
end Jq

namespace Jq
open Go
end Jq

namespace Jq
open Go
end Jq

namespace Jq
open Go
variable (C:CallF) (L:LoopF) (G:Glo)
set_option maxRecDepth 100000 in
theorem q45_eq (a0:Int) (h0:AHeap):q45.body C L G [(.c (.int .i64 a0))] h0=c1 (C 46 [(.c (.int .i64 a0))] h0) fun y_2 h_1=>asS y_2 fun z_3=>some ([(.c (.str z_3))],h_1):=by kernel_rfl
end Jq

namespace Jq
open Go
variable (C:CallF) (L:LoopF) (G:Glo)
set_option maxRecDepth 100000 in
theorem q46_eq (a0:Int) (h0:AHeap):q46.body C L G [(.c (.int .i64 a0))] h0=c1 (C 47 [(.c (.int .i64 a0)),(.c (.int .i64 10))] h0) fun y_2 h_1=>asS y_2 fun z_3=>some ([(.c (.str z_3))],h_1):=by kernel_rfl
set_option maxRecDepth 100000 in
theorem q47_eq (a0 a1:Int) (h0:AHeap):q47.body C L G [(.c (.int .i64 a0)),(.c (.int .i64 a1))] h0=if (a1==10)=true then scK (decide (0≤a0)) true (some ((decide (a0<100)),h0)) false h0 fun b_1 h_2=>if b_1=true then c1 (C 48 [(.c (.int .i64 a0))] h_2) fun y_4 h_3=>asS y_4 fun z_5=>finish true h0 [(.c (.str z_5))] h_3 else if (decide (a0<0))=true then c1 (C 49 [(.c (.int .u64 (G.wrap .u64 (0 - (G.wrap .u64 a0)))))] (h_2++[some (Blk.mk true 0 (List.replicate 24 (Cell.int .u8 0)))])) fun y_7 h_6=>asI .i64 y_7 fun n_8=>sliceAK h_6 24 1 true true (.ptr h_2.length ((List.replicate 24 (Cell.int .u8 0)).length) 0) [.v (.c (.int .i64 1)),.v (.c (.int .i64 (G.wrap .i64 (1+n_8))))] fun x_9=>c0 (C 50 [(.c x_9),(.c (.int .u64 (G.wrap .u64 (0 - (G.wrap .u64 a0)))))] h_6) fun h_10=>if (decide (a0<0))=true then rdH h_10 h_2.length ((List.replicate 24 (Cell.int .u8 0)).length) fun l_11=>if 0<l_11.length then putH h_10 h_2.length (l_11.set 0 (.int .u8 45)) fun h_12=>sliceAK h_12 24 1 false true (.ptr h_2.length ((List.replicate 24 (Cell.int .u8 0)).length) 0) [.v (.c (.int .i64 (G.wrap .i64 (1+n_8))))] fun x_13=>(slCells h_12 1 x_13).bind fun l_14=>(bytesOf l_14).bind fun l_15=>finish true h0 [(.c (.str (ByteArray.mk l_15.toArray)))] h_12 else none else sliceAK h_10 24 1 true true (.ptr h_2.length ((List.replicate 24 (Cell.int .u8 0)).length) 0) [.v (.c (.int .i64 1)),.v (.c (.int .i64 (G.wrap .i64 (1+n_8))))] fun x_16=>(slCells h_10 1 x_16).bind fun l_17=>(bytesOf l_17).bind fun l_18=>finish true h0 [(.c (.str (ByteArray.mk l_18.toArray)))] h_10 else c1 (C 49 [(.c (.int .u64 (G.wrap .u64 a0)))] (h_2++[some (Blk.mk true 0 (List.replicate 24 (Cell.int .u8 0)))])) fun y_20 h_19=>asI .i64 y_20 fun n_21=>sliceAK h_19 24 1 true true (.ptr h_2.length ((List.replicate 24 (Cell.int .u8 0)).length) 0) [.v (.c (.int .i64 1)),.v (.c (.int .i64 (G.wrap .i64 (1+n_21))))] fun x_22=>c0 (C 50 [(.c x_22),(.c (.int .u64 (G.wrap .u64 a0)))] h_19) fun h_23=>if (decide (a0<0))=true then rdH h_23 h_2.length ((List.replicate 24 (Cell.int .u8 0)).length) fun l_24=>if 0<l_24.length then putH h_23 h_2.length (l_24.set 0 (.int .u8 45)) fun h_25=>sliceAK h_25 24 1 false true (.ptr h_2.length ((List.replicate 24 (Cell.int .u8 0)).length) 0) [.v (.c (.int .i64 (G.wrap .i64 (1+n_21))))] fun x_26=>(slCells h_25 1 x_26).bind fun l_27=>(bytesOf l_27).bind fun l_28=>finish true h0 [(.c (.str (ByteArray.mk l_28.toArray)))] h_25 else none else sliceAK h_23 24 1 true true (.ptr h_2.length ((List.replicate 24 (Cell.int .u8 0)).length) 0) [.v (.c (.int .i64 1)),.v (.c (.int .i64 (G.wrap .i64 (1+n_21))))] fun x_29=>(slCells h_23 1 x_29).bind fun l_30=>(bytesOf l_30).bind fun l_31=>finish true h0 [(.c (.str (ByteArray.mk l_31.toArray)))] h_23 else c2 (C 51 [(.c .nils),(.c (.int .u64 (G.wrap .u64 a0))),(.c (.int .i64 a1)),(.c (.bool (decide (a0<0)))),(.c (.bool false))] h0) fun y_33 y_34 h_32=>asC y_33 fun x_35=>asS y_34 fun z_36=>finish true h0 [(.c (.str z_36))] h_32:=by kernel_rfl
set_option maxRecDepth 100000 in
theorem q48_eq (a0:Int) (h0:AHeap):q48.body C L G [(.c (.int .i64 a0))] h0=if (decide (a0<10))=true then sliceStrK true true (.str (ByteArray.mk #[48,49,50,51,52,53,54,55,56,57,97,98,99,100,101,102,103,104,105,106,107,108,109,110,111,112,113,114,115,116,117,118,119,120,121,122])) [.v (.c (.int .i64 a0)),.v (.c (.int .i64 (G.wrap .i64 (a0+1))))] fun x_1=>some ([(.c (.str x_1))],h0) else let v_2:Int:=(G.wrap .i64 ((G.wrap .i64 (a0*2))+2));sliceStrK true true (.str (ByteArray.mk #[48,48,48,49,48,50,48,51,48,52,48,53,48,54,48,55,48,56,48,57,49,48,49,49,49,50,49,51,49,52,49,53,49,54,49,55,49,56,49,57,50,48,50,49,50,50,50,51,50,52,50,53,50,54,50,55,50,56,50,57,51,48,51,49,51,50,51,51,51,52,51,53,51,54,51,55,51,56,51,57,52,48,52,49,52,50,52,51,52,52,52,53,52,54,52,55,52,56,52,57,53,48,53,49,53,50,53,51,53,52,53,53,53,54,53,55,53,56,53,57,54,48,54,49,54,50,54,51,54,52,54,53,54,54,54,55,54,56,54,57,55,48,55,49,55,50,55,51,55,52,55,53,55,54,55,55,55,56,55,57,56,48,56,49,56,50,56,51,56,52,56,53,56,54,56,55,56,56,56,57,57,48,57,49,57,50,57,51,57,52,57,53,57,54,57,55,57,56,57,57])) [.v (.c (.int .i64 (G.wrap .i64 (a0*2)))),.v (.c (.int .i64 v_2))] fun x_3=>some ([(.c (.str x_3))],h0):=by kernel_rfl
end Jq

namespace Jq
open Go
variable {E:Env}
theorem Itoa_of (hE:q45_In E) {a:Int} {z:ByteArray} (ha:0≤a∧a<100) {h:AHeap} (small:R E 48 [.c (.int .i64 a)] h=some ([.c (.str z)],h)):R E 45 [.c (.int .i64 a)] h=some ([.c (.str z)],h):=by
 refine R_intro hE.fn ?_
 have fmt:R E 47 [.c (.int .i64 a),.c (.int .i64 10)] h=some ([.c (.str z)],h):=by
  refine R_intro hE.c46.c47.fn ?_
  rw [q47_eq,if_pos (by rfl),scK_and,if_pos (by simp;omega),small,c1_ok,asS_ok]
  exact finish_gc (Kp.refl _ _) (by simp [avOk,AV.cells,idOk])
 have it:R E 46 [.c (.int .i64 a)] h=some ([.c (.str z)],h):=by
  refine R_intro hE.c46.fn ?_
  rw [q46_eq,fmt,c1_ok,asS_ok]
 rw [q45_eq,it,c1_ok,asS_ok]
def nums:List (Int × Int):=[(0,0),(1,1),(2,2),(4,4),(5,5),(6,6),(7,7),(8,8),(9,9),(10,10),(4000,4000),(4,4),(10,10),(24,24),(4,4),(1,1),(2,2),(3,3),(4,4),(5,5),(6,6),(7,7),(8,8),(9,9),(10,10),(11,11),(1,1),(2,2),(3,3),(4,4),(1,1),(2,2),(3,3),(4,4),(5,5),(6,6),(1,1),(2,2),(1,1),(2,2),(3,3),(4,4),(5,5),(6,6),(1,1),(2,2),(3,3),(0,0),(1,1),(2,2),(1,1),(2,2),(3,3),(4,4),(5,5),(6,6),(7,7),(8,8),(9,9),(10,10),(11,11),(12,12),(13,13)]
end Jq

namespace Jq
open Go
variable (C:CallF) (L:LoopF) (G:Glo)
set_option maxRecDepth 100000 in
theorem q187_eq  (h0:AHeap):q187.body C L G [] h0=if 0=0∧[ci0,ci0].length=2∧(splice (splice [ci0,ci0] 0 [(.int .i64 (-1))]) 1 [(.int .i64 1)]).length=2 then if (splice (splice [Cell.int .u8 0,Cell.int .u8 0] 0 [(.int .u8 120)]) 1 [(.int .u8 121)]).length=2*1 then markK (.sl h0.length ((splice (splice [Cell.int .u8 0,Cell.int .u8 0] 0 [(.int .u8 120)]) 1 [(.int .u8 121)]).length) 0 2) (h0++[some (Blk.mk true 1 (splice (splice [Cell.int .u8 0,Cell.int .u8 0] 0 [(.int .u8 120)]) 1 [(.int .u8 121)]))]) fun x_1 h_2=>if (splice (splice [ci0,ci0] 0 [(.int .i64 0)]) 1 [(.int .i64 0)]).length=2*1 then if 0=0∧(splice (splice [ci0,ci0] 0 [(.int .i64 (-1))]) 1 [(.int .i64 1)]).length=2 then if (splice (splice [ci0,ci0] 0 [(.int .i64 (-1))]) 1 [(.int .i64 1)]).length=2∧3+2≤(splice (splice (List.replicate 9 ci0) 0 [(.int .i64 1)]) 2 [(.int .i64 0)]).length then if (splice (splice (splice (List.replicate 9 ci0) 0 [(.int .i64 1)]) 2 [(.int .i64 0)]) 3 (splice (splice [ci0,ci0] 0 [(.int .i64 (-1))]) 1 [(.int .i64 1)])).length=9∧0+9≤(List.replicate 18 ci0).length then if (splice (splice (List.replicate 9 ci0) 0 [(.int .i64 2)]) 2 [(.int .i64 1)]).length=9∧9+9≤(splice (List.replicate 18 ci0) 0 (splice (splice (splice (List.replicate 9 ci0) 0 [(.int .i64 1)]) 2 [(.int .i64 0)]) 3 (splice (splice [ci0,ci0] 0 [(.int .i64 (-1))]) 1 [(.int .i64 1)]))).length then if (splice (splice (List.replicate 18 ci0) 0 (splice (splice (splice (List.replicate 9 ci0) 0 [(.int .i64 1)]) 2 [(.int .i64 0)]) 3 (splice (splice [ci0,ci0] 0 [(.int .i64 (-1))]) 1 [(.int .i64 1)]))) 9 (splice (splice (List.replicate 9 ci0) 0 [(.int .i64 2)]) 2 [(.int .i64 1)])).length=2*9 then if 0=0∧(splice (splice [ci0,ci0] 0 [(.int .i64 (-1))]) 1 [(.int .i64 1)]).length=2 then if (splice (splice [ci0,ci0] 0 [(.int .i64 (-1))]) 1 [(.int .i64 1)]).length=2∧3+2≤(splice (splice (List.replicate 9 ci0) 0 [(.int .i64 1)]) 2 [(.int .i64 1)]).length then if (splice (splice (splice (List.replicate 9 ci0) 0 [(.int .i64 1)]) 2 [(.int .i64 1)]) 3 (splice (splice [ci0,ci0] 0 [(.int .i64 (-1))]) 1 [(.int .i64 1)])).length=9∧0+9≤(List.replicate 18 ci0).length then if (splice (splice (List.replicate 9 ci0) 0 [(.int .i64 2)]) 2 [(.int .i64 0)]).length=9∧9+9≤(splice (List.replicate 18 ci0) 0 (splice (splice (splice (List.replicate 9 ci0) 0 [(.int .i64 1)]) 2 [(.int .i64 1)]) 3 (splice (splice [ci0,ci0] 0 [(.int .i64 (-1))]) 1 [(.int .i64 1)]))).length then if (splice (splice (List.replicate 18 ci0) 0 (splice (splice (splice (List.replicate 9 ci0) 0 [(.int .i64 1)]) 2 [(.int .i64 1)]) 3 (splice (splice [ci0,ci0] 0 [(.int .i64 (-1))]) 1 [(.int .i64 1)]))) 9 (splice (splice (List.replicate 9 ci0) 0 [(.int .i64 2)]) 2 [(.int .i64 0)])).length=2*9 then if (splice (splice [Cell.nils,Cell.nils] 0 ([(.sl ((h_2++[some (Blk.mk true 1 (splice (splice [ci0,ci0] 0 [(.int .i64 0)]) 1 [(.int .i64 0)]))]).length) ((splice (splice (List.replicate 18 ci0) 0 (splice (splice (splice (List.replicate 9 ci0) 0 [(.int .i64 1)]) 2 [(.int .i64 0)]) 3 (splice (splice [ci0,ci0] 0 [(.int .i64 (-1))]) 1 [(.int .i64 1)]))) 9 (splice (splice (List.replicate 9 ci0) 0 [(.int .i64 2)]) 2 [(.int .i64 1)])).length) 0 2)]:List Cell)) 1 ([(.sl (((h_2++[some (Blk.mk true 1 (splice (splice [ci0,ci0] 0 [(.int .i64 0)]) 1 [(.int .i64 0)]))])++[some (Blk.mk true 9 (splice (splice (List.replicate 18 ci0) 0 (splice (splice (splice (List.replicate 9 ci0) 0 [(.int .i64 1)]) 2 [(.int .i64 0)]) 3 (splice (splice [ci0,ci0] 0 [(.int .i64 (-1))]) 1 [(.int .i64 1)]))) 9 (splice (splice (List.replicate 9 ci0) 0 [(.int .i64 2)]) 2 [(.int .i64 1)])))]).length) ((splice (splice (List.replicate 18 ci0) 0 (splice (splice (splice (List.replicate 9 ci0) 0 [(.int .i64 1)]) 2 [(.int .i64 1)]) 3 (splice (splice [ci0,ci0] 0 [(.int .i64 (-1))]) 1 [(.int .i64 1)]))) 9 (splice (splice (List.replicate 9 ci0) 0 [(.int .i64 2)]) 2 [(.int .i64 0)])).length) 0 2)]:List Cell)).length=2*1 then if 0=0∧[Cell.nils,Cell.nils,Cell.nils].length=3∧(splice (splice (splice [Cell.nils,Cell.nils,Cell.nils] 0 [x_1]) 1 ([(.sl h_2.length ((splice (splice [ci0,ci0] 0 [(.int .i64 0)]) 1 [(.int .i64 0)]).length) 0 2)]:List Cell)) 2 ([(.sl ((((h_2++[some (Blk.mk true 1 (splice (splice [ci0,ci0] 0 [(.int .i64 0)]) 1 [(.int .i64 0)]))])++[some (Blk.mk true 9 (splice (splice (List.replicate 18 ci0) 0 (splice (splice (splice (List.replicate 9 ci0) 0 [(.int .i64 1)]) 2 [(.int .i64 0)]) 3 (splice (splice [ci0,ci0] 0 [(.int .i64 (-1))]) 1 [(.int .i64 1)]))) 9 (splice (splice (List.replicate 9 ci0) 0 [(.int .i64 2)]) 2 [(.int .i64 1)])))])++[some (Blk.mk true 9 (splice (splice (List.replicate 18 ci0) 0 (splice (splice (splice (List.replicate 9 ci0) 0 [(.int .i64 1)]) 2 [(.int .i64 1)]) 3 (splice (splice [ci0,ci0] 0 [(.int .i64 (-1))]) 1 [(.int .i64 1)]))) 9 (splice (splice (List.replicate 9 ci0) 0 [(.int .i64 2)]) 2 [(.int .i64 0)])))]).length) ((splice (splice [Cell.nils,Cell.nils] 0 ([(.sl ((h_2++[some (Blk.mk true 1 (splice (splice [ci0,ci0] 0 [(.int .i64 0)]) 1 [(.int .i64 0)]))]).length) ((splice (splice (List.replicate 18 ci0) 0 (splice (splice (splice (List.replicate 9 ci0) 0 [(.int .i64 1)]) 2 [(.int .i64 0)]) 3 (splice (splice [ci0,ci0] 0 [(.int .i64 (-1))]) 1 [(.int .i64 1)]))) 9 (splice (splice (List.replicate 9 ci0) 0 [(.int .i64 2)]) 2 [(.int .i64 1)])).length) 0 2)]:List Cell)) 1 ([(.sl (((h_2++[some (Blk.mk true 1 (splice (splice [ci0,ci0] 0 [(.int .i64 0)]) 1 [(.int .i64 0)]))])++[some (Blk.mk true 9 (splice (splice (List.replicate 18 ci0) 0 (splice (splice (splice (List.replicate 9 ci0) 0 [(.int .i64 1)]) 2 [(.int .i64 0)]) 3 (splice (splice [ci0,ci0] 0 [(.int .i64 (-1))]) 1 [(.int .i64 1)]))) 9 (splice (splice (List.replicate 9 ci0) 0 [(.int .i64 2)]) 2 [(.int .i64 1)])))]).length) ((splice (splice (List.replicate 18 ci0) 0 (splice (splice (splice (List.replicate 9 ci0) 0 [(.int .i64 1)]) 2 [(.int .i64 1)]) 3 (splice (splice [ci0,ci0] 0 [(.int .i64 (-1))]) 1 [(.int .i64 1)]))) 9 (splice (splice (List.replicate 9 ci0) 0 [(.int .i64 2)]) 2 [(.int .i64 0)])).length) 0 2)]:List Cell)).length) 0 2)]:List Cell)).length=3 then if 0=0∧(splice (splice (splice [Cell.nils,Cell.nils,Cell.nils] 0 [x_1]) 1 ([(.sl h_2.length ((splice (splice [ci0,ci0] 0 [(.int .i64 0)]) 1 [(.int .i64 0)]).length) 0 2)]:List Cell)) 2 ([(.sl ((((h_2++[some (Blk.mk true 1 (splice (splice [ci0,ci0] 0 [(.int .i64 0)]) 1 [(.int .i64 0)]))])++[some (Blk.mk true 9 (splice (splice (List.replicate 18 ci0) 0 (splice (splice (splice (List.replicate 9 ci0) 0 [(.int .i64 1)]) 2 [(.int .i64 0)]) 3 (splice (splice [ci0,ci0] 0 [(.int .i64 (-1))]) 1 [(.int .i64 1)]))) 9 (splice (splice (List.replicate 9 ci0) 0 [(.int .i64 2)]) 2 [(.int .i64 1)])))])++[some (Blk.mk true 9 (splice (splice (List.replicate 18 ci0) 0 (splice (splice (splice (List.replicate 9 ci0) 0 [(.int .i64 1)]) 2 [(.int .i64 1)]) 3 (splice (splice [ci0,ci0] 0 [(.int .i64 (-1))]) 1 [(.int .i64 1)]))) 9 (splice (splice (List.replicate 9 ci0) 0 [(.int .i64 2)]) 2 [(.int .i64 0)])))]).length) ((splice (splice [Cell.nils,Cell.nils] 0 ([(.sl ((h_2++[some (Blk.mk true 1 (splice (splice [ci0,ci0] 0 [(.int .i64 0)]) 1 [(.int .i64 0)]))]).length) ((splice (splice (List.replicate 18 ci0) 0 (splice (splice (splice (List.replicate 9 ci0) 0 [(.int .i64 1)]) 2 [(.int .i64 0)]) 3 (splice (splice [ci0,ci0] 0 [(.int .i64 (-1))]) 1 [(.int .i64 1)]))) 9 (splice (splice (List.replicate 9 ci0) 0 [(.int .i64 2)]) 2 [(.int .i64 1)])).length) 0 2)]:List Cell)) 1 ([(.sl (((h_2++[some (Blk.mk true 1 (splice (splice [ci0,ci0] 0 [(.int .i64 0)]) 1 [(.int .i64 0)]))])++[some (Blk.mk true 9 (splice (splice (List.replicate 18 ci0) 0 (splice (splice (splice (List.replicate 9 ci0) 0 [(.int .i64 1)]) 2 [(.int .i64 0)]) 3 (splice (splice [ci0,ci0] 0 [(.int .i64 (-1))]) 1 [(.int .i64 1)]))) 9 (splice (splice (List.replicate 9 ci0) 0 [(.int .i64 2)]) 2 [(.int .i64 1)])))]).length) ((splice (splice (List.replicate 18 ci0) 0 (splice (splice (splice (List.replicate 9 ci0) 0 [(.int .i64 1)]) 2 [(.int .i64 1)]) 3 (splice (splice [ci0,ci0] 0 [(.int .i64 (-1))]) 1 [(.int .i64 1)]))) 9 (splice (splice (List.replicate 9 ci0) 0 [(.int .i64 2)]) 2 [(.int .i64 0)])).length) 0 2)]:List Cell)).length) 0 2)]:List Cell)).length=3 then some ([(.agg (splice (splice (splice [Cell.nils,Cell.nils,Cell.nils] 0 [x_1]) 1 ([(.sl h_2.length ((splice (splice [ci0,ci0] 0 [(.int .i64 0)]) 1 [(.int .i64 0)]).length) 0 2)]:List Cell)) 2 ([(.sl ((((h_2++[some (Blk.mk true 1 (splice (splice [ci0,ci0] 0 [(.int .i64 0)]) 1 [(.int .i64 0)]))])++[some (Blk.mk true 9 (splice (splice (List.replicate 18 ci0) 0 (splice (splice (splice (List.replicate 9 ci0) 0 [(.int .i64 1)]) 2 [(.int .i64 0)]) 3 (splice (splice [ci0,ci0] 0 [(.int .i64 (-1))]) 1 [(.int .i64 1)]))) 9 (splice (splice (List.replicate 9 ci0) 0 [(.int .i64 2)]) 2 [(.int .i64 1)])))])++[some (Blk.mk true 9 (splice (splice (List.replicate 18 ci0) 0 (splice (splice (splice (List.replicate 9 ci0) 0 [(.int .i64 1)]) 2 [(.int .i64 1)]) 3 (splice (splice [ci0,ci0] 0 [(.int .i64 (-1))]) 1 [(.int .i64 1)]))) 9 (splice (splice (List.replicate 9 ci0) 0 [(.int .i64 2)]) 2 [(.int .i64 0)])))]).length) ((splice (splice [Cell.nils,Cell.nils] 0 ([(.sl ((h_2++[some (Blk.mk true 1 (splice (splice [ci0,ci0] 0 [(.int .i64 0)]) 1 [(.int .i64 0)]))]).length) ((splice (splice (List.replicate 18 ci0) 0 (splice (splice (splice (List.replicate 9 ci0) 0 [(.int .i64 1)]) 2 [(.int .i64 0)]) 3 (splice (splice [ci0,ci0] 0 [(.int .i64 (-1))]) 1 [(.int .i64 1)]))) 9 (splice (splice (List.replicate 9 ci0) 0 [(.int .i64 2)]) 2 [(.int .i64 1)])).length) 0 2)]:List Cell)) 1 ([(.sl (((h_2++[some (Blk.mk true 1 (splice (splice [ci0,ci0] 0 [(.int .i64 0)]) 1 [(.int .i64 0)]))])++[some (Blk.mk true 9 (splice (splice (List.replicate 18 ci0) 0 (splice (splice (splice (List.replicate 9 ci0) 0 [(.int .i64 1)]) 2 [(.int .i64 0)]) 3 (splice (splice [ci0,ci0] 0 [(.int .i64 (-1))]) 1 [(.int .i64 1)]))) 9 (splice (splice (List.replicate 9 ci0) 0 [(.int .i64 2)]) 2 [(.int .i64 1)])))]).length) ((splice (splice (List.replicate 18 ci0) 0 (splice (splice (splice (List.replicate 9 ci0) 0 [(.int .i64 1)]) 2 [(.int .i64 1)]) 3 (splice (splice [ci0,ci0] 0 [(.int .i64 (-1))]) 1 [(.int .i64 1)]))) 9 (splice (splice (List.replicate 9 ci0) 0 [(.int .i64 2)]) 2 [(.int .i64 0)])).length) 0 2)]:List Cell)).length) 0 2)]:List Cell)))],((((h_2++[some (Blk.mk true 1 (splice (splice [ci0,ci0] 0 [(.int .i64 0)]) 1 [(.int .i64 0)]))])++[some (Blk.mk true 9 (splice (splice (List.replicate 18 ci0) 0 (splice (splice (splice (List.replicate 9 ci0) 0 [(.int .i64 1)]) 2 [(.int .i64 0)]) 3 (splice (splice [ci0,ci0] 0 [(.int .i64 (-1))]) 1 [(.int .i64 1)]))) 9 (splice (splice (List.replicate 9 ci0) 0 [(.int .i64 2)]) 2 [(.int .i64 1)])))])++[some (Blk.mk true 9 (splice (splice (List.replicate 18 ci0) 0 (splice (splice (splice (List.replicate 9 ci0) 0 [(.int .i64 1)]) 2 [(.int .i64 1)]) 3 (splice (splice [ci0,ci0] 0 [(.int .i64 (-1))]) 1 [(.int .i64 1)]))) 9 (splice (splice (List.replicate 9 ci0) 0 [(.int .i64 2)]) 2 [(.int .i64 0)])))])++[some (Blk.mk true 1 (splice (splice [Cell.nils,Cell.nils] 0 ([(.sl ((h_2++[some (Blk.mk true 1 (splice (splice [ci0,ci0] 0 [(.int .i64 0)]) 1 [(.int .i64 0)]))]).length) ((splice (splice (List.replicate 18 ci0) 0 (splice (splice (splice (List.replicate 9 ci0) 0 [(.int .i64 1)]) 2 [(.int .i64 0)]) 3 (splice (splice [ci0,ci0] 0 [(.int .i64 (-1))]) 1 [(.int .i64 1)]))) 9 (splice (splice (List.replicate 9 ci0) 0 [(.int .i64 2)]) 2 [(.int .i64 1)])).length) 0 2)]:List Cell)) 1 ([(.sl (((h_2++[some (Blk.mk true 1 (splice (splice [ci0,ci0] 0 [(.int .i64 0)]) 1 [(.int .i64 0)]))])++[some (Blk.mk true 9 (splice (splice (List.replicate 18 ci0) 0 (splice (splice (splice (List.replicate 9 ci0) 0 [(.int .i64 1)]) 2 [(.int .i64 0)]) 3 (splice (splice [ci0,ci0] 0 [(.int .i64 (-1))]) 1 [(.int .i64 1)]))) 9 (splice (splice (List.replicate 9 ci0) 0 [(.int .i64 2)]) 2 [(.int .i64 1)])))]).length) ((splice (splice (List.replicate 18 ci0) 0 (splice (splice (splice (List.replicate 9 ci0) 0 [(.int .i64 1)]) 2 [(.int .i64 1)]) 3 (splice (splice [ci0,ci0] 0 [(.int .i64 (-1))]) 1 [(.int .i64 1)]))) 9 (splice (splice (List.replicate 9 ci0) 0 [(.int .i64 2)]) 2 [(.int .i64 0)])).length) 0 2)]:List Cell)))])) else none else none else none else none else none else none else none else none else none else none else none else none else none else none else none else none:=by kernel_rfl
end Jq

namespace Jq
open Go
end Jq

namespace Jq
open Go
end Jq

namespace Jq
open Go
end Jq

namespace Jq
open Go
section
variable {E:Env}
def sbC (a b:Int):List Ins:=[⟨1,0,a,⟨-1,1⟩,0,⟨0,0⟩,0⟩,⟨2,0,b,⟨0,0⟩,0,⟨0,0⟩,0⟩]
def sbP:PProg:=⟨[120,121],[0,0],[sbC 0 1,sbC 1 0]⟩
theorem SB_R (hE:q187_In E) (h:AHeap):∃cs h',R E 187 [] h=some ([.agg cs],h')∧ProgAt h' cs sbP∧Kp h.length h h':=by
 have hmark:∀{α:Type} (f:Cell→AHeap→Option α),markK (.sl h.length ((splice (splice [Cell.int .u8 0,Cell.int .u8 0] 0 [(.int .u8 120)]) 1 [(.int .u8 121)]).length) 0 2) (h++[some (Blk.mk true 1 (splice (splice [Cell.int .u8 0,Cell.int .u8 0] 0 [(.int .u8 120)]) 1 [(.int .u8 121)]))]) f=f (.sl h.length 2 0 2) (h++[some ⟨false,1,intC .u8 [120,121]⟩]):=by
  intro α f
  unfold markK
  simp only
  rw [blk_new,Option.bind_some]
  dsimp only
  rw [if_pos ⟨rfl,rfl⟩,setBlk_last];rfl
 generalize h1:h++[some (Blk.mk false 1 (intC .u8 [120,121]))]=H1 at hmark
 generalize h2:H1++[some (Blk.mk true 1 (intC .i64 [0,0]))]=H2
 generalize h3:H2++[some (Blk.mk true 9 (codeC (sbC 0 1)))]=H3
 generalize h4:H3++[some (Blk.mk true 9 (codeC (sbC 1 0)))]=H4
 generalize h5:H4++[some (Blk.mk true 1 [Cell.sl H2.length 18 0 2,.sl H3.length 18 0 2])]=H5
 have n1:H1.length=h.length+1:=by rw [←h1];simp
 have n2:H2.length=h.length+2:=by rw [←h2,List.length_append,n1];simp
 have n3:H3.length=h.length+3:=by rw [←h3,List.length_append,n2];simp
 have n4:H4.length=h.length+4:=by rw [←h4,List.length_append,n3];simp
 have n5:H5.length=h.length+5:=by rw [←h5,List.length_append,n4];simp
 have b1:blk? H5 h.length=some ⟨false,1,intC .u8 [120,121]⟩:=by
  rw [←h5,←h4,←h3,←h2,←h1]
  exact blk_old (blk_old (blk_old (blk_old (blk_new _ _) _) _) _) _
 have b2:blk? H5 H1.length=some ⟨true,1,intC .i64 [0,0]⟩:=by
  rw [←h5,←h4,←h3,←h2]
  exact blk_old (blk_old (blk_old (blk_new _ _) _) _) _
 have b3:blk? H5 H2.length=some ⟨true,9,codeC (sbC 0 1)⟩:=by
  rw [←h5,←h4,←h3]
  exact blk_old (blk_old (blk_new _ _) _) _
 have b4:blk? H5 H3.length=some ⟨true,9,codeC (sbC 1 0)⟩:=by
  rw [←h5,←h4]
  exact blk_old (blk_new _ _) _
 have b5:blk? H5 H4.length=some ⟨true,1,[Cell.sl H2.length 18 0 2,.sl H3.length 18 0 2]⟩:=by
  rw [←h5]
  exact blk_new _ _
 have kk:Kp h.length h H5:=by
  rw [←h5,←h4,←h3,←h2,←h1]
  simp only [List.append_assoc]
  exact Kp.app _ (Nat.le_refl _)
 refine ⟨[.sl h.length 2 0 2,.sl H1.length 2 0 2,.sl H4.length 2 0 2],H5,R_intro hE.fn ?_,⟨_,_,_,[Cell.sl H2.length 18 0 2,.sl H3.length 18 0 2],rfl,⟨SlAt.whole b1 rfl,.inr (by omega)⟩,⟨SlAt.whole b2 rfl,.inr (by omega)⟩,⟨SlAt.whole b5 rfl,.inr (by omega)⟩,fun t code ht=>?_⟩,kk⟩
 ·rw [q187_eq,if_pos ⟨rfl,rfl,rfl⟩,if_pos (by rfl),hmark]
  rw [←h5,←h4,←h3,←h2]
  kernel_rfl
 ·match t with
  | 0=>cases ht;exact ⟨_,rfl,SlAt.whole b3 rfl,.inr (by omega)⟩
  | 1=>cases ht;exact ⟨_,rfl,SlAt.whole b4 rfl,.inr (by omega)⟩
  | t+2=>simp [sbP] at ht
theorem small_R (hE:q48_In E) (h:AHeap):∀n:Nat,n<4→R E 48 [.c (.int .i64 (n:Int))] h=some ([.c (.str (ByteArray.mk #[UInt8.ofNat (48+n)]))],h)
 | 0,_=>R_intro hE.fn ((q48_eq (R E) Lim E.glob 0 h).trans (by kernel_rfl))
 | 1,_=>R_intro hE.fn ((q48_eq (R E) Lim E.glob 1 h).trans (by kernel_rfl))
 | 2,_=>R_intro hE.fn ((q48_eq (R E) Lim E.glob 2 h).trans (by kernel_rfl))
 | 3,_=>R_intro hE.fn ((q48_eq (R E) Lim E.glob 3 h).trans (by kernel_rfl))
 | n+4,h=>by omega
theorem Itoa_R (hE:q45_In E) (h:AHeap) {n:Nat} (hn:n<4):R E 45 [.c (.int .i64 (n:Int))] h=some ([.c (.str (ByteArray.mk #[UInt8.ofNat (48+n)]))],h) :=
 Itoa_of hE (by omega) (small_R hE.c46.c47.c48 h n hn)
def nameOf (i:Int):ByteArray :=
 if i<0∨i≥24 then ByteArray.mk #[]
 else if i<4 then ByteArray.mk #[116]++ByteArray.mk #[UInt8.ofNat (48+i.toNat)]
 else if i<8 then ByteArray.mk #[102]++ByteArray.mk #[UInt8.ofNat (48+(i.toNat - 4))]
 else ((ByteArray.mk #[102]++ByteArray.mk #[UInt8.ofNat (48+(i.toNat - 8) / 4)])++ByteArray.mk #[46])++ByteArray.mk #[UInt8.ofNat (48+(i.toNat - 8) % 4)]
theorem one_size (n:Nat):(ByteArray.mk #[UInt8.ofNat n]).size=1:=rfl
theorem VName_R (hE:q167_In E) (i:Int) (h:AHeap):R E 167 [.c (.int .i64 i)] h=some ([.c (.str (nameOf i))],h):=by
 refine R_intro hE.fn ?_
 rw [q167_eq,scK_or]
 unfold nameOf
 by_cases h0:i<0∨i≥24
 ·rw [if_pos (by simp;omega),if_pos h0]
 ·rw [if_neg (by simp;omega),if_neg h0]
  obtain ⟨n,rfl⟩:=Int.eq_ofNat_of_zero_le (show 0≤i by omega)
  rw [Int.toNat_natCast]
  by_cases h4:n<4
  ·rw [if_pos (by simp;omega),if_pos (by omega),Itoa_R hE.c45 _ h4,c1_ok,asS_ok,if_pos (by rw [one_size];decide)]
  ·rw [if_neg (by simp;omega),if_neg (c:=((n:Int)<4)) (by omega)]
   by_cases h8:n<8
   ·rw [if_pos (by simp;omega),if_pos (c:=((n:Int)<8)) (by omega),g_wrap_i64 (by omega) (by omega),show ((n:Int) - 4)=((n - 4:Nat):Int) by omega,Itoa_R hE.c45 _ (by omega),c1_ok,asS_ok,if_pos (by rw [one_size];decide)]
   ·rw [if_neg (by simp;omega),if_neg (c:=((n:Int)<8)) (by omega),g_wrap_i64 (by omega) (by omega),show ((n:Int) - 8)=((n - 8:Nat):Int) by omega,g_quo,g_rem,Int.tdiv_eq_ediv_of_nonneg (by omega),Int.tmod_eq_emod_of_nonneg (by omega),
     show (((n - 8:Nat):Int) / 4)=(((n - 8) / 4:Nat):Int) by omega,show (((n - 8:Nat):Int) % 4)=(((n - 8) % 4:Nat):Int) by omega,wrap_i64 (by omega) (by omega),Itoa_R hE.c45 _ (by omega),c1_ok,asS_ok,
     if_pos (by rw [one_size];decide),if_pos (by rw [ByteArray.size_append,one_size];decide),Itoa_R hE.c45 _ (by omega),c1_ok,asS_ok,if_pos (by rw [ByteArray.size_append,ByteArray.size_append,one_size,one_size];decide)]
theorem sb_small:sbP.small:=⟨by decide,fun c hc=>by
 simp [sbP] at hc
 rcases hc with rfl | rfl<;>decide⟩
def sbV:MV:=MV.new sbP 2
theorem sb_pok:pokB sbP=true:=by decide +kernel
theorem sb_fld:∀c∈sbP.thr,∀i∈c,fldB (hasB sbP) i=true:=by decide +kernel
end
end Jq

namespace Jq
open Go
theorem SlAt.cellsG {h:AHeap} {x:Cell} {esz:Nat} {cs:List Cell} {len:Nat} (s:SlAt h x esz cs len):slCells h esz x=some cs:=by
 have hl:=s.1
 rcases s.2 with ⟨rfl,rfl⟩ | ⟨k,N,off,rfl,hb⟩
 ·have:cs=[]:=List.length_eq_zero_iff.1 (by omega)
  rw [this];rfl
 ·unfold slCells
  dsimp only
  by_cases h0:len=0
  ·have:cs=[]:=List.length_eq_zero_iff.1 (by rw [h0] at hl;omega)
   rw [if_pos h0,this]
  ·rw [if_neg h0]
   rcases hb with hb | ⟨b,hb,hN,hle,hat⟩
   ·exact absurd hb h0
   ·rw [hb]
    simp only
    rw [if_pos ⟨hN,hle⟩]
    congr 1
    refine List.ext_getElem? fun j=>?_
    rw [List.getElem?_take,List.getElem?_drop]
    by_cases hj:j<len*esz
    ·rw [if_pos hj,hat j hj]
    ·rw [if_neg hj,List.getElem?_eq_none (by omega)]
theorem app_emptyG {α:Type} {h:AHeap} {esz bytes len:Nat} {cs:List Cell} (he:0<esz) (hlen:cs.length=len*esz) (h1:len*bytes≤maxBytes) (h2:len≤maxBytes) (f:Cell→AHeap→Option α) :
  appK esz bytes (.sl h.length 0 0 0) cs (h++[some ⟨true,esz,[]⟩]) f=f (.sl h.length cs.length 0 len) (h++[some ⟨true,esz,cs⟩]):=by
 unfold appK
 simp only
 rw [blk_new,Option.bind_some]
 dsimp only
 have hd:cs.length / esz=len:=by rw [hlen];exact Nat.mul_div_cancel _ he
 rw [if_pos ⟨rfl,rfl,rfl,by simp,by rw [hd];simp;omega,by rw [hd];simp;omega⟩,hd]
 by_cases h0:len=0
 ·have:cs=[]:=List.length_eq_zero_iff.1 (by rw [hlen,h0];omega)
  subst this
  rw [if_pos (by simp),setBlk_last,h0]
  simp [splice]
 ·have hpos:0<cs.length:=by rw [hlen];exact Nat.mul_pos (by omega) he
  rw [if_neg (by omega),if_pos trivial,setBlk_last]
  simp
def finC (V:MV):List Cell:=V.lc.flatMap regsC++intC .i64 V.mem
def finT (V:MV) (t:Nat):List Cell:=(V.lc.take t).flatMap regsC++List.replicate (20 - t*4) (.int .i64 0)
section
variable {E:Env}
theorem Done_R (hE:q174_In E) {h:AHeap} {k:Nat} {x:Cell} {pc:List Cell} {V:MV} (hb:blk? h k=some ⟨true,0,vmC pc V x⟩) (f:V.Fit) (p:ProgAt h pc V.P) :
  R E 174 [.c (.ptr k 329 0)] h=some ([.c (.bool (V.word==0))],h):=by
 refine R_intro hE.fn ?_
 rw [q174_eq,Enabled_R hE.c172 hb f p,c1_ok,asI_ok]
 have:(((V.word:Nat):Int)==0)=(V.word==0):=by rw [Bool.eq_iff_iff,beq_iff_eq,beq_iff_eq];omega
 rw [this]
theorem CloneS_R (hE:q195_In E) {x:Cell} {l:List Stp} {h:AHeap} (hx:SlAt h x 7 (stepsC l) l.length) (hlow:Low h.length x) (hl:l.length≤100000) :
  ∃x' h',R E 195 [.c x] h=some ([.c x'],h')∧Own h.length h' x' 7 (stepsC l) l.length∧Kp h.length h h':=by
 have hm:maxBytes≥100000*56:=by unfold maxBytes;omega
 have hlen:=stepsC_len l
 have hx0:=hx
 rcases hx.2 with ⟨rfl,h0⟩ | ⟨k,N,off,rfl,hb⟩
 ·refine ⟨.nils,h,R_intro hE.fn ?_,⟨hlen,.inl ⟨rfl,h0⟩⟩,Kp.refl _ _⟩
  rw [q195_eq];rfl
 ·have hk1:Kp h.length h (h++[some ⟨true,7,[]⟩]):=Kp.app _ (Nat.le_refl _)
  have hc:=(hx0.keep hlow hk1).cellsG
  refine ⟨.sl h.length (stepsC l).length 0 l.length,h++[some ⟨true,7,stepsC l⟩],R_intro hE.fn ?_,⟨hlen,.inr ⟨h.length,rfl,Nat.le_refl _,blk_new _ _⟩⟩,Kp.app _ (Nat.le_refl _)⟩
  rw [q195_eq,show ∀{α:Type} (f:Bool→Option α),eqNilK false (.sl k N off l.length) .nils f=f false from fun _=>rfl,if_neg (by simp),if_pos (show ([]:List Cell).length=0*7 from rfl),hc,bind_ok,show ([]:List Cell).length=0 from rfl,app_emptyG (by omega) hlen (by omega) (by omega)]
theorem Steps_R (hE:q175_In E) {n k:Nat} {h:AHeap} {x:Cell} {pc:List Cell} {V:MV} (a:VmAt n h k x pc V) (f:V.Fit) (hst:V.st.length≤100000) :
  ∃y h',R E 175 [.c (.ptr k 329 0)] h=some ([.c y],h')∧Own h.length h' y 7 (stepsC V.st) V.st.length∧Kp h.length h h':=by
 obtain ⟨y,h',r,o,kk⟩:=CloneS_R hE.c195 a.st.at a.st.low hst
 refine ⟨y,h',R_intro hE.fn ?_,o,kk⟩
 rw [q175_eq,rdH_ok a.blk (vm_len f a.prog.len),vm_steps f a.prog.len,r,c1_ok,asC_ok]
end
end Jq

namespace Jq
open Go
end Jq

namespace Jq
open Go
end Jq

namespace Jq
open Go
end Jq

namespace Jq
open Go
def setC (n:Nat) (F:Nat→Nat):List Cell:=(List.range n).map fun j=>.int .u64 (F j:Nat)
variable {E:Env}
def kpR (n:Nat) (B:Nat→Nat):List Int→Nat→Bool
 | [],_=>true
 | v :: t,d=>if (decide (v<0)||decide (v≥(n:Int))||hasI d v||(ndiff (B v.toNat) d != 0))=true then false else kpR n B t (d ||| bitI v)
end Jq

namespace Jq
open Go
def ext (n:Nat) (B:Nat→Nat):Nat→Nat→List Nat→List (List Nat)
 | 0,_,row=>[row]
 | k+1,d,row=>(List.range n).flatMap fun i=>if (d.testBit i||(ndiff (B i) d != 0))=true then [] else ext n B k (d ||| 2 ^ i) (row++[i])
def feed {S:Type} (P:S→List Nat→S × Bool):S→List (List Nat)→S × Bool
 | s,[]=>(s,true)
 | s,r :: rs=>if (P s r).2=true then feed P (P s r).1 rs else ((P s r).1,false)
def RowQ (h:AHeap) (q:Cell) (row:List Nat):Prop :=
 (q=.nils∧row=[])∨∃kr cs,q=.sl kr cs.length 0 row.length∧blk? h kr=some ⟨true,1,cs⟩∧cs.take row.length=natC row∧row.length≤cs.length
theorem RowQ.at {h:AHeap} {q:Cell} {row:List Nat} (r:RowQ h q row):SlAt h q 1 (natC row) row.length:=by
 refine ⟨by rw [natC_len];omega,?_⟩
 rcases r with ⟨rfl,rfl⟩ | ⟨kr,cs,rfl,hb,ht,hl⟩
 ·exact .inl ⟨rfl,rfl⟩
 ·refine .inr ⟨kr,_,0,rfl,.inr ⟨_,hb,rfl,by omega,fun j hj=>?_⟩⟩
  rw [←ht,List.getElem?_take,if_pos (by omega),Nat.zero_add]
theorem RowQ.lt {h:AHeap} {q:Cell} {row:List Nat} (r:RowQ h q row) {k:Nat} (hk:isBlk q k):k<h.length:=by
 rcases r with ⟨rfl,_⟩ | ⟨kr,cs,rfl,hb,_⟩
 ·cases hk
 ·have:kr=k:=hk
  subst this;exact blk_lt' hb
theorem RowQ.app {h:AHeap} {q:Cell} {row:List Nat} (r:RowQ h q row) (hr:row.length<100) (i:Nat) :
  ∃q' h',(∀{α:Type} (f:Cell→AHeap→Option α),appK 1 8 q [.int .i64 (i:Int)] h f=f q' h')∧RowQ h' q' (row++[i])∧h.length≤h'.length∧(∃k,isBlk q' k)∧∀k,k<h.length→¬isBlk q k→h'[k]? = h[k]?∧¬isBlk q' k:=by
 have hm:maxBytes≥101*8:=by unfold maxBytes;omega
 rcases r with ⟨rfl,rfl⟩ | ⟨kr,cs,rfl,hb,ht,hl⟩
 ·refine ⟨.sl h.length 1 0 1,h++[some ⟨true,1,[.int .i64 (i:Int)]⟩],fun f=>?_,.inr ⟨h.length,[.int .i64 (i:Int)],rfl,blk_new _ _,rfl,by simp⟩,by simp,⟨_,rfl⟩,fun k hk _=>⟨List.getElem?_append_left hk,fun hq=>?_⟩⟩
  ·unfold appK;simp only;rw [if_neg (by simp),if_pos ⟨by simp;omega,by simp;omega⟩];simp
  ·have:h.length=k:=hq
   omega
 ·have hkl:=blk_lt' hb
  have hsl:row.length<cs.length→(splice cs row.length [Cell.int .i64 (i:Int)]).length=cs.length:=fun hlt=>by
   unfold splice
   simp only [List.length_append,List.length_take,List.length_drop,List.length_singleton];omega
  by_cases hlt:row.length<cs.length
  ·refine ⟨.sl kr cs.length 0 (row.length+1),setBlk h kr (some ⟨true,1,splice cs row.length [.int .i64 (i:Int)]⟩),fun f=>?_,.inr ⟨kr,splice cs row.length [.int .i64 (i:Int)],?_,blk_set_self hkl _,?_,?_⟩,by rw [setBlk_len];exact Nat.le_refl _,⟨_,rfl⟩,fun k hk hq=>⟨?_,hq⟩⟩
   ·unfold appK;simp only;rw [hb,Option.bind_some];dsimp only
    rw [if_pos ⟨rfl,rfl,rfl,by omega,by simp;omega,by simp;omega⟩,if_pos (by simp;omega)]
    simp
   ·rw [hsl hlt];simp
   ·rw [natC_snoc,←ht,List.length_append,List.length_singleton];unfold splice
    rw [List.take_append_of_le_length (by simp;omega),List.take_of_length_le (by simp;omega)]
   ·rw [hsl hlt];simp;omega
   ·unfold setBlk;rw [List.getElem?_set_ne (fun h=>hq h)]
  ·have he:row.length=cs.length:=by omega
   refine ⟨.sl kr (cs.length+1) 0 (row.length+1),setBlk h kr (some ⟨true,1,cs++[.int .i64 (i:Int)]⟩),fun f=>?_,.inr ⟨kr,cs++[.int .i64 (i:Int)],by simp,blk_set_self hkl _,?_,by simp;omega⟩,by rw [setBlk_len];exact Nat.le_refl _,⟨_,rfl⟩,fun k hk hq=>⟨?_,hq⟩⟩
   ·unfold appK;simp only;rw [hb,Option.bind_some];dsimp only
    rw [if_pos ⟨rfl,rfl,rfl,by omega,by simp;omega,by simp;omega⟩,if_neg (by simp;omega),if_pos trivial,he]
    simp
   ·rw [natC_snoc,←ht,List.take_of_length_le (by simp;omega),List.take_of_length_le (l:=cs) (by omega)]
   ·unfold setBlk;rw [List.getElem?_set_ne (fun h=>hq h)]
theorem RowQ.cut {h:AHeap} {q:Cell} {row:List Nat} {i:Nat} (r:RowQ h q (row++[i])) :
  ∃q',(∀{α:Type} (f:Cell→Option α),sliceK h 1 false true q [.v (.c (.int .i64 (row.length:Int)))] f=f q')∧RowQ h q' row∧∀k,isBlk q' k↔isBlk q k:=by
 rcases r with ⟨_,hn⟩ | ⟨kr,cs,rfl,hb,ht,hl⟩
 ·simp at hn
 ·refine ⟨.sl kr cs.length 0 row.length,fun f=>?_,.inr ⟨kr,cs,rfl,hb,?_,by simp at hl;omega⟩,fun k=>Iff.rfl⟩
  ·unfold sliceK
   have hok:okSl h 1 kr cs.length=true:=by unfold okSl;rw [hb];simp
   simp only [hok,if_true]
   unfold boundsK
   simp only
   rw [if_pos ⟨by omega,by simp;omega⟩]
   simp
  ·have:=congrArg (List.take row.length) ht
   rw [List.take_take,natC_snoc] at this
   simp [natC_len] at this
   exact this
structure Put (E:Env) (S:Type) (P:S→List Nat→S × Bool) (fnc:Cell) (I:S→(Nat→Prop)→AHeap→Prop) (go:S→Prop):Prop where
 on:∀s row,go s→(P s row).2=true→go (P s row).1
 frame:∀s L h h',I s L h→(∀k,L k→h'[k]? = h[k]?)→h.length≤h'.length→I s L h'
 low:∀s L h,I s L h→∀k,L k→k<h.length
 put:∀s L h x row,I s L h→go s→row.length≤64→SlAt h x 1 (natC row) row.length→(∀k,isBlk x k→k<h.length∧¬L k) →
  ∃h' L',(∀{α:Type} (F:AV→AHeap→Option α),(fnK fnc fun g cs=>c1 (R E g ([.c x]++cs) h) F)=F (.c (.bool (P s row).2)) h')∧I (P s row).1 L' h'∧h.length≤h'.length∧∀k,k<h.length→¬L k→h'[k]? = h[k]?∧¬L' k
end Jq

namespace Jq
open Go
variable {E:Env}
structure WI {S:Type} (I:S→(Nat→Prop)→AHeap→Prop) (n kw kb:Nat) (B:Nat→Nat) (fnc:Cell) (row:List Nat) (s:S) (L:Nat→Prop) (h:AHeap) (q:Cell):Prop where
 i:I s L h
 w:blk? h kw=some ⟨true,0,[.sl kb n 0 n,q,fnc]⟩
 b:blk? h kb=some ⟨true,1,setC n B⟩
 r:RowQ h q row
 lw:¬L kw
 lb:¬L kb
 wb:kw≠kb
 ap:∀j,isBlk q j→¬L j∧j≠kw∧j≠kb
def Left (kw:Nat) (L:Nat→Prop) (h:AHeap) (q:Cell) (L':Nat→Prop) (h':AHeap) (q':Cell):Prop :=
 h.length≤h'.length∧∀j,j<h.length→¬L j→j≠kw→¬isBlk q j→h'[j]? = h[j]?∧¬L' j∧¬isBlk q' j
theorem Left.refl (kw:Nat) (L:Nat→Prop) (h:AHeap) (q:Cell):Left kw L h q L h q:=⟨Nat.le_refl _,fun _ _ a _ b=>⟨rfl,a,b⟩⟩
theorem Left.trans {kw:Nat} {L L' L'':Nat→Prop} {h h' h'':AHeap} {q q' q'':Cell} (a:Left kw L h q L' h' q') (b:Left kw L' h' q' L'' h'' q''):Left kw L h q L'' h'' q'':=by
 refine ⟨Nat.le_trans a.1 b.1,fun j h1 h2 h3 h4=>?_⟩
 obtain ⟨a1,a2,a3⟩:=a.2 j h1 h2 h3 h4
 obtain ⟨b1,b2,b3⟩:=b.2 j (by have:=a.1;omega) a2 h3 a3
 exact ⟨b1.trans a1,b2,b3⟩
theorem blk_of_get {h h':AHeap} {k:Nat} (e:h'[k]? = h[k]?):blk? h' k=blk? h k:=by unfold blk?;rw [e]
theorem set_get {h:AHeap} {k j:Nat} {x:Option Blk} (hj:j≠k):(setBlk h k x)[j]? = h[j]?:=by
 unfold setBlk;rw [List.getElem?_set_ne (fun e=>hj e.symm)]
section
variable {S:Type} {P:S→List Nat→S × Bool} {fnc:Cell} {I:S→(Nat→Prop)→AHeap→Prop} {go:S→Prop} {n kw kb:Nat} {B:Nat→Nat}
theorem WI.push (pu:Put E S P fnc I go) {row:List Nat} {s:S} {L:Nat→Prop} {h:AHeap} {q:Cell} (w:WI I n kw kb B fnc row s L h q) (hr:row.length<100) (i:Nat) :
  ∃q1 h1,(∀{α:Type} (f:Cell→AHeap→Option α),appK 1 8 q [.int .i64 (i:Int)] h f=f q1 h1)∧blk? h1 kw=some ⟨true,0,[.sl kb n 0 n,q,fnc]⟩ ∧
   WI I n kw kb B fnc (row++[i]) s L (setBlk h1 kw (some ⟨true,0,[.sl kb n 0 n,q1,fnc]⟩)) q1∧Left kw L h q L (setBlk h1 kw (some ⟨true,0,[.sl kb n 0 n,q1,fnc]⟩)) q1:=by
 obtain ⟨q1,h1,ha,hrow,hlen,⟨k1,hk1⟩,hfr⟩:=w.r.app hr i
 have hkw:=blk_lt' w.w
 have hkb:=blk_lt' w.b
 have nw:¬isBlk q kw:=fun e=>(w.ap kw e).2.1 rfl
 have nb:¬isBlk q kb:=fun e=>(w.ap kb e).2.2 rfl
 obtain ⟨f1,f2⟩:=hfr kw hkw nw
 obtain ⟨g1,g2⟩:=hfr kb hkb nb
 have hw1:blk? h1 kw=some ⟨true,0,[.sl kb n 0 n,q,fnc]⟩:=(blk_of_get f1).trans w.w
 have hkw1:=blk_lt' hw1
 have nL:∀j,isBlk q1 j→¬L j∧j≠kw∧j≠kb:=by
  intro j hj
  refine ⟨fun hL=>?_,fun e=>f2 (e ▸ hj),fun e=>g2 (e ▸ hj)⟩
  have hjl:=pu.low _ _ _ w.i j hL
  by_cases hq:isBlk q j
  ·exact (w.ap j hq).1 hL
  ·exact (hfr j hjl hq).2 hj
 refine ⟨q1,h1,ha,hw1,⟨?_,blk_set_self hkw1 _,?_,?_,w.lw,w.lb,w.wb,nL⟩,?_,?_⟩
 ·refine pu.frame _ _ _ _ w.i (fun j hL=>?_) (by rw [setBlk_len];exact hlen)
  have hjw:j≠kw:=fun e=>w.lw (e ▸ hL)
  rw [set_get hjw]
  exact (hfr j (pu.low _ _ _ w.i j hL) (fun e=>(w.ap j e).1 hL)).1
 ·rw [blk_of_get (set_get (fun e=>w.wb e.symm)),blk_of_get g1];exact w.b
 ·rcases hrow with ⟨e,he⟩ | ⟨kr,cs,e,hb,ht,hl⟩
  ·exact .inl ⟨e,he⟩
  ·have hne:kr≠kw:=(nL kr (by rw [e];rfl)).2.1
   exact .inr ⟨kr,cs,e,by rw [blk_of_get (set_get hne)];exact hb,ht,hl⟩
 ·rw [setBlk_len];exact hlen
 ·intro j h2 h3 h4 h5
  obtain ⟨a1,a2⟩:=hfr j h2 h5
  exact ⟨by rw [set_get h4];exact a1,h3,a2⟩
end
end Jq

namespace Jq
open Go
def extF (n:Nat) (B:Nat→Nat) (k d:Nat) (row:List Nat) (i m:Nat):List (List Nat) :=
 (List.range' i m).flatMap fun i=>if (d.testBit i||(ndiff (B i) d != 0))=true then [] else ext n B k (d ||| 2 ^ i) (row++[i])
section
variable {E:Env} {S:Type} {P:S→List Nat→S × Bool} {fnc:Cell} {I:S→(Nat→Prop)→AHeap→Prop} {go:S→Prop} {n kw kb:Nat} {B:Nat→Nat}
end
end Jq

namespace Jq
open Go
section
variable {E:Env} {S:Type} {P:S→List Nat→S × Bool} {fnc:Cell} {I:S→(Nat→Prop)→AHeap→Prop} {go:S→Prop} {n:Nat}
def ords (n:Nat) (f:Nat→Nat):List (List Nat):=if acycR n f=true then ext n (INV n f) n 0 [] else []
end
end Jq

namespace Jq
open Go
def rowsC:List Nat→List (List Nat)→List Cell
 | k :: ks,r :: rs=>.sl k r.length 0 r.length :: rowsC ks rs
 | _,_=>[]
def outF (lim:Int):List (List Nat)→List Nat→List (List Nat) × Bool:=fun s r=>(s++[r],decide (((s.length+1:Nat):Int)<lim))
def OutI (ko kl:Nat) (lim:Int):List (List Nat)→(Nat→Prop)→AHeap→Prop:=fun s L h =>
 ∃(y:Cell) (ks:List Nat),blk? h ko=some ⟨true,0,[y]⟩∧blk? h kl=some ⟨true,0,[.int .i64 lim]⟩∧ko≠kl∧ks.length=s.length ∧
  ((y=.nils∧s=[])∨∃ky,y=.sl ky s.length 0 s.length∧blk? h ky=some ⟨true,1,rowsC ks s⟩∧ky≠ko∧ky≠kl∧¬ky∈ks) ∧
  (∀(j k:Nat) (r:List Nat),ks[j]? = some k→s[j]? = some r→blk? h k=some ⟨true,1,natC r⟩∧k≠ko∧k≠kl) ∧
  (∀k,L k↔(k=ko∨k=kl∨isBlk y k∨k∈ks))
theorem OutI.low {ko kl:Nat} {lim:Int} {s:List (List Nat)} {L:Nat→Prop} {h:AHeap} (o:OutI ko kl lim s L h):∀k,L k→k<h.length:=by
 obtain ⟨y,ks,h1,h2,_,hks,hy,hrow,hL⟩:=o
 intro k hk
 rcases (hL k).1 hk with rfl | rfl | hb | hm
 ·exact blk_lt' h1
 ·exact blk_lt' h2
 ·rcases hy with ⟨rfl,_⟩ | ⟨ky,rfl,hb2,_⟩
  ·cases hb
  ·have:ky=k:=hb
   subst this;exact blk_lt' hb2
 ·obtain ⟨j,hj⟩:=List.getElem?_of_mem hm
  have hjl:j<s.length:=by
   rcases Nat.lt_or_ge j ks.length with h3 | h3
   ·omega
   ·rw [List.getElem?_eq_none h3] at hj;cases hj
  exact blk_lt' (hrow j k s[j] hj (by simp [hjl])).1
theorem OutI.frame {ko kl:Nat} {lim:Int} {s:List (List Nat)} {L:Nat→Prop} {h h':AHeap} (o:OutI ko kl lim s L h) (hk:∀k,L k→h'[k]? = h[k]?):OutI ko kl lim s L h':=by
 obtain ⟨y,ks,h1,h2,hne,hks,hy,hrow,hL⟩:=o
 have e:∀k,L k→blk? h' k=blk? h k:=fun k hl=>blk_of_get (hk k hl)
 refine ⟨y,ks,(e ko ((hL ko).2 (.inl rfl))).trans h1,(e kl ((hL kl).2 (.inr (.inl rfl)))).trans h2,hne,hks,?_,fun j k r hj hr=>?_,hL⟩
 ·rcases hy with hy | ⟨ky,hy,hb,hr⟩
  ·exact .inl hy
  ·exact .inr ⟨ky,hy,(e ky ((hL ky).2 (.inr (.inr (.inl (by rw [hy];rfl)))))).trans hb,hr⟩
 ·obtain ⟨a,b⟩:=hrow j k r hj hr
  exact ⟨(e k ((hL k).2 (.inr (.inr (.inr (List.mem_of_getElem? hj)))))).trans a,b⟩
theorem SlAt.cells {h:AHeap} {x:Cell} {cs:List Cell} {len:Nat} (s:SlAt h x 1 cs len):slCells h 1 x=some cs:=by
 have hl:=s.1
 rcases s.2 with ⟨rfl,rfl⟩ | ⟨k,N,off,rfl,hb⟩
 ·have:cs=[]:=List.length_eq_zero_iff.1 (by omega)
  rw [this];rfl
 ·unfold slCells
  dsimp only
  by_cases h0:len=0
  ·have:cs=[]:=List.length_eq_zero_iff.1 (by omega)
   rw [if_pos h0,this]
  ·rw [if_neg h0]
   rcases hb with hb | ⟨b,hb,hN,hle,hat⟩
   ·exact absurd hb h0
   ·rw [hb]
    simp only
    rw [if_pos ⟨hN,hle⟩]
    congr 1
    refine List.ext_getElem? fun j=>?_
    rw [List.getElem?_take,List.getElem?_drop]
    by_cases hj:j<len*1
    ·rw [if_pos hj,hat j hj]
    ·rw [if_neg hj,List.getElem?_eq_none (by omega)]
end Jq

namespace Jq
open Go
variable (C:CallF) (L:LoopF) (G:Glo)
def q262_k2 (C:CallF) (L:LoopF) (G:Glo) (h0:AHeap):Ex→St→Option (List AV × AHeap):=kSeq (fun st=>q262_p1.exec C L G st (q262.fin G h0)) (q262.fin G h0)
def q262_k3 (C:CallF) (L:LoopF) (G:Glo) (h0:AHeap):Ex→St→Option (List AV × AHeap):=kBlk 0 (q262_k2 C L G h0)
def q262_s1 (x3 x6:Cell) (a7 a8:Int) (h:AHeap):St:=⟨tops 3 (.v (.c x3) :: tops 2 (.v (.c x6) :: .v (.c (.int .i64 a7)) :: .v (.c (.int .i64 a8)) :: tops 11 [])),[],h⟩
def q262_F1 (C:CallF) (L:LoopF) (G:Glo):St→Option (Ex × St):=roundF (fun st f=>q262_b1.exec C L G st f) [3,6,7,8] [] [(1,[3],[])]
def q262_x1_1 (x3:Cell) (h:AHeap):St:=⟨tops 3 (.v (.c x3) :: tops 16 []),[],h⟩
theorem q262_r1 (x3 x6:Cell) (a7 a8:Int) (h:AHeap):q262_F1 C L G (q262_s1 x3 x6 a7 a8 h)=if (decide (a8<a7))=true then idxSK 1 x6 a8 fun k_2 N_3 o_4=>rdH h k_2 N_3 fun l_5=>atK l_5 o_4 fun q_6=>asI .i64 (.c q_6) fun n_7=>c1 (C 167 [(.c (.int .i64 n_7))] h) fun y_9 h_8=>asS y_9 fun z_10=>if (splice [Cell.str (ByteArray.mk #[])] 0 [(.str z_10)]).length=1*1 then appK 1 16 x3 (splice [Cell.str (ByteArray.mk #[])] 0 [(.str z_10)]) h_8 fun x_11 h_12=>some (.normal,(q262_s1 x_11 x6 a7 (G.wrap .i64 (a8+1)) h_12)) else none else some ((.exit 0),(q262_x1_1 x3 h)):=by kernel_rfl
theorem q262_e1_1 (h0:AHeap) (x3:Cell) (h:AHeap):(q262_k3 C L G h0) (.exit 0) (q262_x1_1 x3 h)=c1 (C 272 [(.c x3),(.c (.str (ByteArray.mk #[32])))] h) fun y_14 h_13=>asS y_14 fun z_15=>some ([(.c (.str z_15))],h_13):=by kernel_rfl
set_option maxRecDepth 100000 in
theorem q262_eq (x0:Cell) (h0:AHeap):q262.body C L G [(.c x0)] h0=lenK x0 fun n_1=>(L (q262_F1 C L G) (q262_s1 .nils x0 n_1 0 h0)).bind fun p_16=>(q262_k3 C L G h0) p_16.1 p_16.2:=by kernel_rfl
set_option maxRecDepth 100000 in
theorem q271_eq (l0:List Cell) (a1:Int) (x2:Cell) (h0:AHeap):q271.body C L G [(.agg l0),(.c (.int .i64 a1)),(.c x2)] h0=if 0=0∧l0.length=3 then c2 (C 278 [(.agg l0),(.c (.int .i64 a1)),(.c x2)] h0) fun y_2 y_3 h_1=>asC y_2 fun x_4=>asI .i64 y_3 fun n_5=>eqNilK false x_4 .nilp fun b_6=>if b_6=true then some ([(.c .nils),(.c (.int .i64 0)),(.c (.bool false))],h_1) else c1 (C 175 [(.c x_4)] h_1) fun y_8 h_7=>asC y_8 fun x_9=>c1 (C 174 [(.c x_4)] h_7) fun y_11 h_10=>asB y_11 fun b_12=>some ([(.c x_9),(.c (.int .i64 n_5)),(.c (.bool b_12))],h_10) else none:=by kernel_rfl
def q278_k2 (C:CallF) (L:LoopF) (G:Glo) (h0:AHeap):Ex→St→Option (List AV × AHeap):=kSeq (fun st=>q278_p1.exec C L G st (q278.fin G h0)) (q278.fin G h0)
def q278_k3 (C:CallF) (L:LoopF) (G:Glo) (h0:AHeap):Ex→St→Option (List AV × AHeap):=kBlk 0 (q278_k2 C L G h0)
def q278_s1 (x2 x8 x22:Cell) (a23 a24:Int) (h:AHeap):St:=⟨tops 2 (.v (.c x2) :: tops 5 (.v (.c x8) :: tops 13 (.v (.c x22) :: .v (.c (.int .i64 a23)) :: .v (.c (.int .i64 a24)) :: tops 18 []))),[none,none],h⟩
def q278_F1 (C:CallF) (L:LoopF) (G:Glo):St→Option (Ex × St):=roundF (fun st f=>q278_b1.exec C L G st f) [2,8,22,23,24] [] [(0,[6,7],[]),(1,[2,8],[])]
def q278_x1_0 (x6:Cell) (a7:Int) (h:AHeap):St:=⟨tops 6 (.v (.c x6) :: .v (.c (.int .i64 a7)) :: tops 35 []),[none,none],h⟩
def q278_x1_1 (x2 x8:Cell) (h:AHeap):St:=⟨tops 2 (.v (.c x2) :: tops 5 (.v (.c x8) :: tops 34 [])),[none,none],h⟩
theorem q278_r1 (x2 x8 x22:Cell) (a23 a24:Int) (h:AHeap):q278_F1 C L G (q278_s1 x2 x8 x22 a23 a24 h)=if (decide (a24<a23))=true then idxSK 1 x22 a24 fun k_7 N_8 o_9=>rdH h k_7 N_8 fun l_10=>atK l_10 o_9 fun q_11=>asI .i64 (.c q_11) fun n_12=>c2 (C 173 [(.c x8),(.c (.int .i64 n_12))] h) fun y_14 y_15 h_13=>asA y_14 fun l_16=>asB y_15 fun b_17=>if 0=0∧(List.replicate 7 ci0).length=7∧l_16.length=7 then if (!b_17)=true then some (.ret,(q278_x1_0 x8 a24 h_13)) else some (.normal,(q278_s1 x2 x8 x22 a23 (G.wrap .i64 (a24+1)) h_13)) else none else some ((.exit 0),(q278_x1_1 x2 x8 h)):=by kernel_rfl
theorem q278_e1_0 (h0:AHeap) (x6:Cell) (a7:Int) (h:AHeap):(q278_k3 C L G h0) .ret (q278_x1_0 x6 a7 h)=some ([(.c x6),(.c (.int .i64 a7))],h):=by kernel_rfl
theorem q278_e1_1 (h0:AHeap) (x2 x8:Cell) (h:AHeap):(q278_k3 C L G h0) (.exit 0) (q278_x1_1 x2 x8 h)=lenK x2 fun n_18=>some ([(.c x8),(.c (.int .i64 n_18))],h):=by kernel_rfl
set_option maxRecDepth 100000 in
theorem q278_eq (l0:List Cell) (a1:Int) (x2:Cell) (h0:AHeap):q278.body C L G [(.agg l0),(.c (.int .i64 a1)),(.c x2)] h0=if 0=0∧l0.length=3 then c2 (C 171 [(.agg l0),(.c (.int .i64 a1))] h0) fun y_2 y_3 h_1=>asC y_2 fun x_4=>asI .i64 y_3 fun n_5=>if (n_5 != 0)=true then some ([(.c .nilp),(.c (.int .i64 0))],h_1) else lenK x2 fun n_6=>(L (q278_F1 C L G) (q278_s1 x2 x_4 x2 n_6 0 h_1)).bind fun p_19=>(q278_k3 C L G h0) p_19.1 p_19.2 else none:=by kernel_rfl
set_option maxRecDepth 100000 in
theorem q306_eq (l0:List Cell) (a1:Int) (x2:Cell) (h0:AHeap):q306.body C L G [(.agg l0),(.c (.int .i64 a1)),(.c x2)] h0=if 0=0∧l0.length=3 then c2 (C 278 [(.agg l0),(.c (.int .i64 a1)),(.c x2)] h0) fun y_2 y_3 h_1=>asC y_2 fun x_4=>asI .i64 y_3 fun n_5=>eqNilK true x_4 .nilp fun b_6=>scK b_6 true (lenK x2 fun n_7=>some ((n_5==n_7),h_1)) false h_1 fun b_8 h_9=>scK b_8 true (c1 (C 174 [(.c x_4)] h_9) fun y_11 h_10=>asB y_11 fun b_12=>some (b_12,h_10)) false h_9 fun b_13 h_14=>some ([(.c (.bool b_13))],h_14) else none:=by kernel_rfl
set_option maxRecDepth 100000 in
theorem q423_eq (l0:List Cell) (a1:Int) (h0:AHeap):q423.body C L G [(.agg l0),(.c (.int .i64 a1))] h0=if 0=0∧l0.length=3 then c1 (C 429 [(.agg l0),(.c (.int .i64 a1)),(.c (.fn 428 []))] h0) fun y_2 h_1=>asC y_2 fun x_3=>some ([(.c x_3)],h_1) else none:=by kernel_rfl
set_option maxRecDepth 100000 in
theorem q424_eq (l0:List Cell) (a1:Int) (h0:AHeap):q424.body C L G [(.agg l0),(.c (.int .i64 a1))] h0=if 0=0∧l0.length=3 then c1 (C 429 [(.agg l0),(.c (.int .i64 a1)),(.c (.fn 430 []))] h0) fun y_2 h_1=>asC y_2 fun x_3=>some ([(.c x_3)],h_1) else none:=by kernel_rfl
set_option maxRecDepth 100000 in
theorem q428_eq (x0:Cell) (h0:AHeap):q428.body C L G [(.c x0)] h0=idxSK 1 x0 0 fun k_1 N_2 o_3=>rdH h0 k_1 N_2 fun l_4=>atK l_4 o_3 fun q_5=>asI .i64 (.c q_5) fun n_6=>some ([(.c (.int .i64 n_6))],h0):=by kernel_rfl
def q429_k2 (C:CallF) (L:LoopF) (G:Glo) (h0:AHeap):Ex→St→Option (List AV × AHeap):=kSeq (fun st=>q429_p1.exec C L G st (q429.fin G h0)) (q429.fin G h0)
def q429_k3 (C:CallF) (L:LoopF) (G:Glo) (h0:AHeap):Ex→St→Option (List AV × AHeap):=kBlk 0 (q429_k2 C L G h0)
def q429_s1 (x2 x7 x9:Cell) (h:AHeap):St:=⟨tops 2 (.v (.c x2) :: tops 4 (.v (.c x7) :: tops 1 (.v (.c x9) :: tops 25 []))),[none],h⟩
def q429_F1 (C:CallF) (L:LoopF) (G:Glo):St→Option (Ex × St):=roundF (fun st f=>q429_b1.exec C L G st f) [2,7,9] [] [(1,[9],[])]
def q429_x1_1 (x9:Cell) (h:AHeap):St:=⟨tops 9 (.v (.c x9) :: tops 25 []),[none],h⟩
theorem q429_r1 (x2 x7 x9:Cell) (h:AHeap):q429_F1 C L G (q429_s1 x2 x7 x9 h)=c1 (C 174 [(.c x7)] h) fun y_7 h_6=>asB y_7 fun b_8=>if (!b_8)=true then c1 (C 172 [(.c x7)] h_6) fun y_10 h_9=>asI .u64 y_10 fun n_11=>c1 (C 32 [(.c (.int .u64 n_11))] h_9) fun y_13 h_12=>asC y_13 fun x_14=>fnK x2 fun g_15 l_16=>c1 (C g_15 ([(.c x_14)]++l_16) h_12) fun y_18 h_17=>asI .i64 y_18 fun n_19=>c2 (C 173 [(.c x7),(.c (.int .i64 n_19))] h_17) fun y_21 y_22 h_20=>asA y_21 fun l_23=>asB y_22 fun b_24=>if (splice [ci0] 0 [(.int .i64 n_19)]).length=1*1 then appK 1 8 x9 (splice [ci0] 0 [(.int .i64 n_19)]) h_20 fun x_25 h_26=>some (.normal,(q429_s1 x2 x7 x_25 h_26)) else none else some ((.exit 0),(q429_x1_1 x9 h_6)):=by kernel_rfl
theorem q429_e1_1 (h0:AHeap) (x9:Cell) (h:AHeap):(q429_k3 C L G h0) (.exit 0) (q429_x1_1 x9 h)=some ([(.c x9)],h):=by kernel_rfl
set_option maxRecDepth 100000 in
theorem q429_eq (l0:List Cell) (a1:Int) (x2:Cell) (h0:AHeap):q429.body C L G [(.agg l0),(.c (.int .i64 a1)),(.c x2)] h0=if 0=0∧l0.length=3 then c2 (C 171 [(.agg l0),(.c (.int .i64 a1))] h0) fun y_2 y_3 h_1=>asC y_2 fun x_4=>asI .i64 y_3 fun n_5=>if (n_5 != 0)=true then some ([(.c .nils)],h_1) else (L (q429_F1 C L G) (q429_s1 x2 x_4 .nils h_1)).bind fun p_27=>(q429_k3 C L G h0) p_27.1 p_27.2 else none:=by kernel_rfl
set_option maxRecDepth 100000 in
theorem q430_eq (x0:Cell) (h0:AHeap):q430.body C L G [(.c x0)] h0=lenK x0 fun n_1=>idxSK 1 x0 (G.wrap .i64 (n_1 - 1)) fun k_2 N_3 o_4=>rdH h0 k_2 N_3 fun l_5=>atK l_5 o_4 fun q_6=>asI .i64 (.c q_6) fun n_7=>some ([(.c (.int .i64 n_7))],h0):=by kernel_rfl
end Jq

namespace Jq
open Go
def strsOf:List Cell→Option (List ByteArray)
 | []=>some []
 | .str s :: cs=>(strsOf cs).map (s :: ·)
 | _ :: _=>none
theorem strsOf_map (l:List ByteArray):strsOf (l.map Cell.str)=some l:=by
 induction l with
 | nil=>rfl
 | cons s l ih=>rw [List.map_cons,strsOf,ih];rfl
def joined (l:List ByteArray) (sep:ByteArray):ByteArray:=⟨(Lib.join (l.map (·.data.toList)) sep.data.toList).toArray⟩
def joinX (args:List AV) (h:AHeap):Option (List AV × AHeap):=match args with
 | [.c x,.c (.str sep)]=>(slCells h 1 x).bind fun cs=>(strsOf cs).bind fun l =>
  if l.length≤140737488355328∧(Lib.join (l.map (·.data.toList)) sep.data.toList).length≤140737488355328 then some ([.c (.str (joined l sep))],h) else none
 | _=>none
def parts:List UInt8→List (List UInt8)
 | []=>[[]]
 | b :: l=>if b=32 then [] :: parts l else match parts l with
  | p :: ps=>(b :: p) :: ps
  | []=>[[b]]
theorem parts_ne (l:List UInt8):parts l≠[]:=by
 cases l with
 | nil=>simp [parts]
 | cons b l =>
  unfold parts
  split
  ·simp
  ·split<;>simp
def pickOf (w:List UInt8):Nat:=((List.range 24).find? fun (i:Nat)=>decide ((nameOf (i:Int)).data.toList=w)).getD 24
def picksOf:List (List UInt8)→Option (List Int)
 | []=>some []
 | w :: ws=>if pickOf w=24 then none else (picksOf ws).map ((pickOf w:Int) :: ·)
def parseX (args:List AV) (h:AHeap):Option (List AV × AHeap):=match args with
 | [.c (.str s)] =>
  if s.size=0 then some ([.c .nils,.c (.bool true)],h)
  else if s.size≤4611686018427387904∧((parts s.data.toList).length+1)*8≤140737488355328 then match picksOf (parts s.data.toList) with
   | none=>some ([.c .nils,.c (.bool false)],h)
   | some l=>some ([.c (.sl h.length l.length 0 l.length),.c (.bool true)],h++[some ⟨true,1,intC .i64 l⟩])
  else none
 | _=>none
def ext17:CallF:=fun g args h=>if g=272 then joinX args h else if g=260 then parseX args h else none
structure Ext17 (E:Env):Prop where
 join:∀args h,E.ext 272 args h=joinX args h
 parse:∀args h,E.ext 260 args h=parseX args h
def namesOf (l:List Int):List ByteArray:=l.map nameOf
def textOf (l:List Int):ByteArray:=joined (namesOf l) (ByteArray.mk #[32])
section
variable {E:Env}
theorem Join_R (hx17:Ext17 E) (hn:E.fn 272=none) {h:AHeap} {x:Cell} {l:List ByteArray} (hx:SlAt h x 1 (l.map Cell.str) l.length) (sep:ByteArray) (h1:l.length≤140737488355328) (h2:(Lib.join (l.map (·.data.toList)) sep.data.toList).length≤140737488355328) :
  R E 272 [.c x,.c (.str sep)] h=some ([.c (.str (joined l sep))],h):=by
 refine R_ext hn ?_
 rw [hx17.join]
 unfold joinX
 dsimp only
 rw [hx.cellsG,Option.bind_some,strsOf_map,Option.bind_some,if_pos ⟨h1,h2⟩]
theorem Parse_R (hx17:Ext17 E) (hn:E.fn 260=none) {h:AHeap} {s:ByteArray} {r:List AV × AHeap} (hr:parseX [.c (.str s)] h=some r):R E 260 [.c (.str s)] h=some r :=
 R_ext hn ((hx17.parse _ _).trans hr)
theorem name_size (i:Int):(nameOf i).size≤4:=by
 unfold nameOf
 split
 ·decide
 ·split
  ·rw [ByteArray.size_append,one_size];decide
  ·split
   ·rw [ByteArray.size_append,one_size];decide
   ·rw [ByteArray.size_append,ByteArray.size_append,ByteArray.size_append,one_size,one_size];decide
theorem joinTail_le (r:List (List UInt8)) (h:∀x∈r,x.length≤4):(Lib.joinTail [32] r).length≤5*r.length:=by
 induction r with
 | nil=>simp [Lib.joinTail]
 | cons x r ih =>
  have h1:=h x List.mem_cons_self
  have h2:=ih fun y hy=>h y (List.mem_cons_of_mem _ hy)
  unfold Lib.joinTail at h2 ⊢
  rw [List.map_cons,List.flatten_cons,List.length_append,List.length_append,List.length_cons,List.length_cons]
  simp only [List.length_nil]
  omega
theorem join_names (l:List Int):(Lib.join ((namesOf l).map (·.data.toList)) [32]).length≤5*l.length:=by
 cases l with
 | nil=>simp [namesOf,Lib.join]
 | cons i l =>
  unfold namesOf
  rw [List.map_cons,List.map_cons,Lib.join_cons,List.length_append]
  have h1:(nameOf i).data.toList.length≤4:=name_size i
  have h2:=joinTail_le ((l.map nameOf).map (·.data.toList)) (by
   intro x hx
   simp only [List.mem_map] at hx
   obtain ⟨y,⟨k,_,rfl⟩,rfl⟩:=hx
   exact name_size k)
  rw [List.length_map,List.length_map] at h2
  rw [List.length_cons]
  omega
theorem Text_R (hE:q262_In E) (hx17:Ext17 E) {h:AHeap} {y:Cell} {l:List Int} (hy:SlAt h y 1 (intC .i64 l) l.length) (hlow:Low h.length y) (hlen:(l.length+1)*16≤maxBytes) :
  ∃h',R E 262 [.c y] h=some ([.c (.str (textOf l))],h')∧Kp h.length h h':=by
 have hM:maxBytes=1099511627776:=rfl
 obtain ⟨st,⟨z,h',rfl,o,kk⟩,hL⟩:=Lim_inv (F:=q262_F1 (R E) Lim E.glob)
  (fun i st=>∃z h',st=q262_s1 z y (l.length:Int) (i:Int) h'∧Own h.length h' z 1 ((namesOf (l.take i)).map Cell.str) i∧Kp h.length h h') 0 l.length (by omega)
  (fun i st _ hi=>by
   rintro ⟨z,h',rfl,o,kk⟩
   have hq:l[i]? = some l[i]:=List.getElem?_eq_getElem hi
   generalize l[i]=q at hq
   have hy':=hy.keep hlow kk
   obtain ⟨z2,h2,e2,o2,k2,_⟩:=o.app (bytes:=16) (xs:=[.str (nameOf q)]) kk.1 rfl (by omega) (by omega) (by omega)
   refine ⟨q262_s1 z2 y (l.length:Int) ((i+1:Nat):Int) h2,?_,z2,h2,rfl,?_,kk.trans k2⟩
   ·rw [q262_r1,if_pos (by simp;omega),hy'.get1 hi (intC_get hq),asI_ok,VName_R hE.c167,c1_ok,asS_ok,if_pos (by rfl),g_succ (by omega)]
    exact e2 _
   ·rw [takeI_succ hq]
    unfold namesOf at o2 ⊢
    rw [List.map_append,List.map_append]
    exact o2) (st:=q262_s1 .nils y (l.length:Int) ((0:Nat):Int) h) ⟨.nils,h,rfl,Own.nil _ _ _,Kp.refl _ _⟩
 have hr:=hL _ (Lim_exit (show q262_F1 (R E) Lim E.glob (q262_s1 z y (l.length:Int) (l.length:Int) h')=some (.exit 0,q262_x1_1 z h') by rw [q262_r1,if_neg (by simp)]))
 rw [show ((0:Nat):Int)=0 from rfl] at hr
 rw [List.take_length] at o
 have hn:l.length=(namesOf l).length:=by unfold namesOf;rw [List.length_map]
 have hx:SlAt h' z 1 ((namesOf l).map Cell.str) (namesOf l).length:=by rw [←hn];exact o.at
 refine ⟨h',R_intro hE.fn ?_,kk⟩
 rw [q262_eq,hy.len,hr,bind_ok]
 dsimp only
 have hj:=join_names l
 rw [q262_e1_1,Join_R hx17 hE.x272 hx (ByteArray.mk #[32]) (by omega) (by show (Lib.join ((namesOf l).map (·.data.toList)) [32]).length≤_;omega),c1_ok,asS_ok]
 rfl
end
end Jq

namespace Jq
open Go Go.RowKit
def PPost (T:TypeId) (s:ByteArray) (w:World) (e:Ending) (w':World):Prop:=Below w.heap.size w w'∧(match picksOf (parts s.data.toList) with
   | none=>e=.returned (.tuple #[.slice none 0 0,.bool false])
   | some l=>∃v,e=.returned (.tuple #[v,.bool true])∧w'.ownsRow w.heap.size T 1 v l.length (l.map (Value.int .i64)))
section
variable {S:Seat} {h:AHeap} {w w':World} {ρ:Rho}
theorem blk_nil (k:Nat):blk? [] k=none:=by simp [blk?]
theorem HI.empty (hi:HI S ρ h w):HI S ρ [] w where
 blks:=fun k b hb=>by rw [blk_nil] at hb;cases hb
 inj:=fun k b _ _ hb=>by rw [blk_nil] at hb;cases hb
 glo:=fun g i c hc=>by
  obtain ⟨v,hv,hr⟩:=hi.glo g i c hc
  exact ⟨v,hv,relC.const (hi.gcl g c (List.mem_of_getElem? hc)) hr _ _⟩
 gno:=fun g k b _ hb=>by rw [blk_nil] at hb;cases hb
 gcl:=hi.gcl
theorem HI.below0 (hi:HI S ρ h w) (hb:Below w.heap.size w w'):HI S ρ h w':=hi.same fun x hx=>hb.block x hx
theorem text_calls {C:CallF} (sc:SoundC S C) {g:Nat} {args:List AV} {vals:Array Value} {s:ByteArray} (hr:C g args []=some ([.c (.str s)],[])) (hi:HI S ρ [] w) (ha:L2 (relA S ρ []) args vals.toList) :
  Calls S.P (S.fn g) vals w fun e w'=>e=.returned (.string s)∧Below w.heap.size w w':=by
 refine Calls.mono ((sc g args [] _ hr).2 w ρ vals hi ha) ?_
 rintro e w' ⟨v,ρ',rfl,hr,hi',st⟩
 have hv:v=.string s:=hr
 exact ⟨by rw [hv],st.os,st.tape,st.output,st.size,fun k hk=>st.keep k hk fun j bl hb=>by rw [blk_nil] at hb;cases hb⟩
theorem HI.stay (hi:HI S ρ h w) (hb:Below w.heap.size w w'):HI S ρ h w'∧Step h w ρ h w' ρ :=
 ⟨hi.below0 hb,Step.same (fun x hx=>hb.block x hx) hb.size hb.os hb.tape hb.output⟩
theorem HI.adopt (hi:HI S ρ h w) (hb:Below w.heap.size w w') {T:TypeId} {g n cap:Nat} {cur:Array Value} {cs:List Cell} {vs:List Value} (hg:w.heap.size≤g) (hc:w'.heap[g]? = some (.cells cur T (0,0))) (hcap:cur.size=cap) (hn:cs.length=n) (hle:n≤cap) (ht:cur.toList.take n=vs)
  (hr:∀h ρ,L2 (relC S ρ h) cs vs) :
  ∃ρ',HI S ρ' (h++[some ⟨true,1,cs⟩]) w'∧Step h w ρ (h++[some ⟨true,1,cs⟩]) w' ρ'∧relC S ρ' (h++[some ⟨true,1,cs⟩]) (.sl h.length n 0 n) (.slice (some ⟨g,0,none⟩) n cap):=by
 have e0:Ext h ρ (h++[some ⟨true,1,cs⟩]) (fun k=>if k=h.length then ⟨g,0,cap⟩ else ρ k):=Ext.append h ρ _ _
 have hnew:blk? (h++[some ⟨true,1,cs⟩]) h.length=some ⟨true,1,cs⟩:=blk_append_new _ _
 have hoth:∀j b,j≠h.length→blk? (h++[some ⟨true,1,cs⟩]) j=some b→blk? h j=some b∧(fun k=>if k=h.length then (⟨g,0,cap⟩:Pl) else ρ k) j=ρ j:=by
  intro j b hj hb
  rcases blk_append hb with ⟨rfl,_⟩ | ⟨_,hb⟩
  ·exact absurd rfl hj
  ·exact ⟨hb,if_neg hj⟩
 refine ⟨fun k=>if k=h.length then ⟨g,0,cap⟩ else ρ k,hi.put e0 hnew (if_pos rfl) hoth ?_ (fun x _ hx=>hb.block x hx) (.inr hg),Step.put e0 hnew (if_pos rfl) hoth (fun x _ hx=>hb.block x hx) (.inr hg) hb.size hb.os hb.tape hb.output,?_⟩
 ·refine ⟨cur,T,(0,0),hc,hcap,by show 0+cs.length≤cur.size;omega,fun i c hi=>?_,fun _=>rfl⟩
  obtain ⟨u,hu,hru⟩:=(hr (h++[some ⟨true,1,cs⟩]) (fun k=>if k=h.length then (⟨g,0,cap⟩:Pl) else ρ k)).get hi
  rw [←ht,List.getElem?_take] at hu
  split at hu
  ·refine ⟨u,?_,hru⟩
   rw [Nat.zero_add]
   simpa using hu
  ·cases hu
 ·refine ⟨by simp,_,_,rfl,hle,fun b hbb=>?_⟩
  rw [hnew] at hbb
  cases hbb
  refine ⟨by show n≤cs.length;omega,fun _=>⟨fun _=>by show n≤0+cap*1;omega,.inr ⟨?_,fun _=>?_⟩⟩⟩
  ·dsimp only;rw [if_pos rfl]
  ·dsimp only;rw [if_pos rfl];show 0+0+cap*1=cap;omega
theorem ints_rel (l:List Int) (h:AHeap) (ρ:Rho):L2 (relC S ρ h) (intC .i64 l) (l.map (Value.int .i64)):=by
 unfold intC
 exact L2.of_map l fun _ _=>rfl
theorem parse_sound (hfn : ∃ fn c, S.P.funcs[S.fn 260]? = some fn ∧ fn.body = some c ∧ (fn.name == "runtime.NumGoroutine") = false) {T : TypeId}
  (hw0:∀s w,s.size=0→Calls S.P (S.fn 260) #[.string s] w fun e w'=>Below w.heap.size w w'∧e=.returned (.tuple #[.slice none 0 0,.bool true]))
  (hw:∀s w ρ,HI S ρ [] w→s.size≤4611686018427387904→s.size≠0→((parts s.data.toList).length+1)*8≤140737488355328→Calls S.P (S.fn 260) #[.string s] w (PPost T s w)) :
  SoundC S fun g args h=>if g=260 then parseX args h else none:=by
 intro g args h r hr
 have hr:(if g=260 then parseX args h else none)=some r:=hr
 obtain ⟨rfl,hr⟩:=ite_inv hr
 refine ⟨hfn,fun w ρ vals hi ha=>?_⟩
 have hargs:∃s,args=[.c (.str s)]:=by
  rcases args with _ | ⟨a,_ | ⟨b,t⟩⟩
  ·exfalso;simp [parseX] at hr
  ·rcases a with c | c
   ·cases c<;>first | exact ⟨_,rfl⟩ | (exfalso;simp [parseX] at hr)
   ·exfalso;simp [parseX] at hr
  ·exfalso
   rcases a with c | c
   ·cases c<;>simp [parseX] at hr
   ·simp [parseX] at hr
 obtain ⟨s,rfl⟩:=hargs
 have hr:(if s.size=0 then some ([.c .nils,.c (.bool true)],h)
  else if s.size≤4611686018427387904∧((parts s.data.toList).length+1)*8≤140737488355328 then match picksOf (parts s.data.toList) with
   | none=>some ([.c .nils,.c (.bool false)],h)
   | some l=>some ([.c (.sl h.length l.length 0 l.length),.c (.bool true)],h++[some ⟨true,1,intC .i64 l⟩])
  else none:Option (List AV × AHeap))=some r:=hr
 ·obtain ⟨v,vs,hv,rv,ht⟩:=ha.cons_left
  have hvs:=ht.nil_left
  subst hvs
  have hv1:v=.string s:=rv
  have hvals:vals=#[.string s]:=by apply Array.toList_inj.1;rw [hv,hv1]
  subst hvals
  by_cases h0:s.size=0
  ·rw [if_pos h0] at hr
   cases hr
   refine Calls.mono (hw0 s w h0) ?_
   rintro e w' ⟨hb,rfl⟩
   obtain ⟨h1,h2⟩:=hi.stay hb
   exact ⟨_,ρ,rfl,⟨#[.slice none 0 0,.bool true],rfl,L2.cons rfl (L2.cons rfl L2.nil)⟩,h1,h2⟩
  ·rw [if_neg h0] at hr
   obtain ⟨⟨hs,hb⟩,hr⟩:=ite_inv hr
   refine Calls.mono (hw s w ρ hi.empty hs h0 hb) ?_
   rintro e w' ⟨hbl,hp⟩
   split at hr
   ·rename_i hn
    rw [hn] at hp
    cases hr
    obtain ⟨h1,h2⟩:=hi.stay hbl
    exact ⟨_,ρ,hp,⟨#[.slice none 0 0,.bool false],rfl,L2.cons rfl (L2.cons rfl L2.nil)⟩,h1,h2⟩
   ·rename_i l hl
    rw [hl] at hp
    cases hr
    obtain ⟨v,rfl,hrow⟩:=hp
    rcases hrow.2 with ⟨_,hl0⟩ | ⟨q,cap,cur,rfl,hq,hc,hle,_,hcap,ht⟩
    ·exfalso
     have hpl:∀(ws:List (List UInt8)) (l:List Int),picksOf ws=some l→l.length=ws.length:=by
      intro ws
      induction ws with
      | nil=>intro l h;cases h;rfl
      | cons x ws ih =>
       intro l h
       unfold picksOf at h
       split at h
       ·cases h
       ·cases hp:picksOf ws with
        | none=>rw [hp] at h;cases h
        | some q=>rw [hp] at h;cases h;rw [List.length_cons,List.length_cons,ih q hp]
     have:=hpl _ _ hl
     have h2:=List.length_pos_iff.2 (parts_ne s.data.toList)
     omega
    ·obtain ⟨ρ',h1,h2,h3⟩:=hi.adopt hbl hq hc (by omega) (show (intC .i64 l).length=l.length by simp [intC]) hle (by rw [←ht,Nat.mul_one]) (fun h ρ=>ints_rel l h ρ)
     exact ⟨_,ρ',rfl,⟨#[.slice (some ⟨q,0,none⟩) l.length cap,.bool true],rfl,L2.cons h3 (L2.cons rfl L2.nil)⟩,h1,h2⟩
theorem strs_cells {cs:List Cell}:∀{l:List ByteArray},strsOf cs=some l→cs=l.map Cell.str:=by
 induction cs with
 | nil=>intro l h;cases h;rfl
 | cons c cs ih =>
  intro l h
  cases c with
  | str s =>
   rw [strsOf] at h
   cases hp:strsOf cs with
   | none=>rw [hp] at h;cases h
   | some q=>rw [hp] at h;cases h;rw [ih hp];rfl
  | _=>cases h
theorem join_sound (hfn : ∃ fn c, S.P.funcs[S.fn 272]? = some fn ∧ fn.body = some c ∧ (fn.name == "runtime.NumGoroutine") = false)
  (hw0:∀a c sep w,Calls S.P (S.fn 272) #[.slice a 0 c,.string sep] w fun e w'=>e=.returned (.string ⟨#[]⟩)∧w'=w)
  (hw:∀(bk o c:Nat) (xs:List ByteArray) (sep:ByteArray) (w:World),(∀(j:Nat) x,xs[j]? = some x→w.cell? ⟨bk,o+j,none⟩=some (.string x))→bk<w.heap.size→xs.length≤140737488355328→xs.length≤c →
   (Lib.join (xs.map (·.data.toList)) sep.data.toList).length≤140737488355328→Calls S.P (S.fn 272) #[.slice (some ⟨bk,o,none⟩) xs.length c,.string sep] w fun e w'=>e=.returned (.string ⟨(Lib.join (xs.map (·.data.toList)) sep.data.toList).toArray⟩)∧Below w.heap.size w w') :
  SoundC S fun g args h=>if g=272 then joinX args h else none:=by
 intro g args h r hr
 have hr:(if g=272 then joinX args h else none)=some r:=hr
 obtain ⟨rfl,hr⟩:=ite_inv hr
 refine ⟨hfn,fun w ρ vals hi ha=>?_⟩
 have hargs:∃x sep,args=[.c x,.c (.str sep)]:=by
  rcases args with _ | ⟨a,_ | ⟨b,_ | ⟨d,t⟩⟩⟩
  ·exfalso;simp [joinX] at hr
  ·exfalso;simp [joinX] at hr
  ·rcases a with c | c
   ·rcases b with d | d
    ·cases d<;>first | exact ⟨_,_,rfl⟩ | (exfalso;simp [joinX] at hr)
    ·exfalso;simp [joinX] at hr
   ·exfalso;simp [joinX] at hr
  ·exfalso;simp [joinX] at hr
 obtain ⟨x,sep,rfl⟩:=hargs
 unfold joinX at hr
 dsimp only at hr
 ·obtain ⟨v,vs,hv,rv,ht⟩:=ha.cons_left
  obtain ⟨v2,vs2,rfl,rv2,ht2⟩:=ht.cons_left
  have hvs:=ht2.nil_left
  subst hvs
  have hv2:v2=.string sep:=rv2
  have hvals:vals=#[v,.string sep]:=by apply Array.toList_inj.1;rw [hv,hv2]
  subst hvals
  obtain ⟨cs,hcs,hr⟩:=bind_some hr
  obtain ⟨l,hl,hr⟩:=bind_some hr
  obtain ⟨⟨b1,b2⟩,hr⟩:=ite_inv hr
  cases some_inv hr
  have hcl:=strs_cells hl
  subst hcl
  have none_:∀a c,v=.slice a 0 c→l=[]→Calls S.P (S.fn 272) #[v,.string sep] w fun e w'=>∃u ρ',e=.returned u∧relR S ρ' h [.c (.str (joined l sep))] u∧HI S ρ' h w'∧Step h w ρ h w' ρ':=by
   rintro a c rfl rfl
   refine Calls.mono (hw0 a c sep w) ?_
   rintro e w' ⟨rfl,rfl⟩
   exact ⟨_,ρ,rfl,rfl,hi,Step.refl _ _ _⟩
  unfold slCells at hcs
  split at hcs
  ·have:l=[]:=by cases l with
    | nil=>rfl
    | cons a t=>cases hcs
   exact none_ none 0 rv this
  ·rename_i k N off len _ _
   split at hcs
   ·rename_i h0
    subst h0
    have:l=[]:=by cases l with
     | nil=>rfl
     | cons a t=>cases hcs
    obtain ⟨_,a,c,hva,_⟩:=rv
    exact none_ _ _ hva this
   ·rename_i h0
    cases hb:blk? h k with
    | none=>rw [hb] at hcs;cases hcs
    | some b =>
     rw [hb] at hcs
     obtain ⟨⟨hN,hle⟩,hcs⟩:=ite_inv hcs
     have hcs:=some_inv hcs
     obtain ⟨_,a,cp,hva,hlc,hrr⟩:=rv
     obtain ⟨_,hrr⟩:=hrr b hb
     obtain ⟨_,hrr⟩:=hrr hN
     have hlen:len=l.length:=by
      have:=congrArg List.length hcs
      simp at this
      omega
     rcases hrr with ⟨hc0,_⟩ | ⟨ha2,_⟩
     ·omega
     ·obtain ⟨C,e,fz,hC,_,_,hat,_⟩:=hi.blks k b hb
      subst hva ha2 hlen
      refine Calls.mono (hw (ρ k).b ((ρ k).o+off) cp l sep w (fun j y hy=>?_) (Array.getElem?_eq_some_iff.1 hC).1 b1 hlc b2) ?_
      ·have hc:b.cs[off+j]? = some (.str y):=by
        have h1:(l.map Cell.str)[j]? = some (.str y):=by rw [List.getElem?_map,hy];rfl
        rw [←hcs,List.getElem?_take] at h1
        split at h1
        ·rw [List.getElem?_drop] at h1;exact h1
        ·cases h1
       obtain ⟨u,hu,hru⟩:=hat _ _ hc
       have hu2:u=.string y:=hru
       rw [hu2] at hu
       rw [Nat.add_assoc]
       simp [World.cell?,hC,hu]
      ·rintro e w' ⟨rfl,hbl⟩
       obtain ⟨h1,h2⟩:=hi.stay hbl
       exact ⟨_,ρ,rfl,rfl,h1,h2⟩
  ·cases hcs
theorem ext17_sound (hj:SoundC S fun g args h=>if g=272 then joinX args h else none) (hp:SoundC S fun g args h=>if g=260 then parseX args h else none):SoundC S ext17:=by
 intro g args h r hr
 unfold ext17 at hr
 by_cases h1:g=272
 ·rw [if_pos h1] at hr
  exact hj g args h r (by show (if g=272 then joinX args h else none)=some r;rw [if_pos h1];exact hr)
 ·rw [if_neg h1] at hr
  exact hp g args h r hr
end
end Jq

namespace Go.Proofs
open Go.RowKit Go.Shelf
attribute [local go_sem] Oper.semAt_some
namespace PX
open Jq (parts parts_ne nameOf pickOf picksOf PPost)
def jren:Go.Shelf.Ren:=⟨fun | 156=>49 | 165=>67 | 166=>68 | 169=>69 | 240=>96 | 241=>97 | 276=>108 | 277=>109 | n=>n,fun | 31=>129 | 9=>9 | 3=>3 | 4=>4 | 0=>0 | 20=>20 | 72=>146 | 76=>150 | 70=>144 | 37=>23 | 75=>149 | 127=>176 | 164=>183 | 5=>5 | 80=>152 | n=>n,fun | n=>n⟩
theorem jlays:Go.Proofs.Lays.n156 Tryz.prog jren:={
 mixed:=by kernel_rfl
 f156:=Tryz.func49.trans (congrArg some (by kernel_rfl))
 f165:=Tryz.func67.trans (congrArg some (by kernel_rfl))
 f166:=Tryz.func68.trans (congrArg some (by kernel_rfl))
 f169:=Tryz.func69.trans (congrArg some (by kernel_rfl))
 f240:=Tryz.func96.trans (congrArg some (by kernel_rfl))
 f241:=Tryz.func97.trans (congrArg some (by kernel_rfl))
 f276:=Tryz.func108.trans (congrArg some (by kernel_rfl))
 f277:=Tryz.func109.trans (congrArg some (by kernel_rfl))
 t0:=Tryz.underlying0
 a0:=Tryz.isAgg0
 z0:=Tryz.sizeOf0
 v0:=Tryz.zeroValue0
 t3:=Tryz.underlying3
 a3:=Tryz.isAgg3
 z3:=Tryz.sizeOf3
 v3:=Tryz.zeroValue3
 t4:=Tryz.underlying4
 a4:=Tryz.isAgg4
 z4:=Tryz.sizeOf4
 v4:=Tryz.zeroValue4
 t9:=Tryz.underlying9
 a9:=Tryz.isAgg9
 z9:=Tryz.sizeOf9
 v9:=Tryz.zeroValue9
 t20:=Tryz.underlying20
 a20:=Tryz.isAgg20
 z20:=Tryz.sizeOf20
 v20:=Tryz.zeroValue20
 t31:=Tryz.underlying129
 a31:=Tryz.isAgg129
 z31:=Tryz.sizeOf129
 v31:=Tryz.zeroValue129
 t37:=Tryz.underlying23
 a37:=Tryz.isAgg23
 z37:=Tryz.sizeOf23
 v37:=Tryz.zeroValue23
 t70:=Tryz.underlying144
 a70:=Tryz.isAgg144
 z70:=Tryz.sizeOf144
 v70:=Tryz.zeroValue144
 t72:=Tryz.underlying146
 a72:=Tryz.isAgg146
 z72:=Tryz.sizeOf146
 v72:=Tryz.zeroValue146
 t75:=Tryz.underlying149
 a75:=Tryz.isAgg149
 z75:=Tryz.sizeOf149
 v75:=Tryz.zeroValue149
 t76:=Tryz.underlying150
 a76:=Tryz.isAgg150
 z76:=Tryz.sizeOf150
 v76:=Tryz.zeroValue150
 t127:=Tryz.underlying176
 a127:=Tryz.isAgg176
 z127:=Tryz.sizeOf176
 v127:=Tryz.zeroValue176
 t164:=Tryz.underlying183
 a164:=Tryz.isAgg183
 z164:=Tryz.sizeOf183
 v164:=Tryz.zeroValue183 }
theorem jextra:Builder.Extra Tryz.prog jren:={
 sizeBuilder:=by kernel_rfl
 liesBuilder:=by kernel_rfl
 t5:=Tryz.underlying5
 a5:=Tryz.isAgg5
 z5:=Tryz.sizeOf5
 v5:=Tryz.zeroValue5
 infoByte:=by kernel_rfl
 cellsByte:=by kernel_rfl
 sizeByte:=by kernel_rfl
 neB5:=by decide }
theorem Join_none (a:Option Addr) (c:Nat) (sep:ByteArray) (w:World) :
  Calls Tryz.prog 49 #[.slice a 0 c,.string sep] w fun e w'=>e=.returned (.string ⟨#[]⟩)∧w'=w:=Any.strings_Join_none jlays jextra a c sep w
theorem Join_w (bk o c:Nat) (xs:List ByteArray) (sep:ByteArray) (w:World) (hcells:∀(j:Nat) x,xs[j]? = some x→w.cell? ⟨bk,o+j,none⟩=some (.string x)) (hbk:bk<w.heap.size) (hN:xs.length≤140737488355328) (hcap:xs.length≤c) (hlen:(Lib.join (xs.map (·.data.toList)) sep.data.toList).length≤140737488355328) :
  Calls Tryz.prog 49 #[.slice (some ⟨bk,o,none⟩) xs.length c,.string sep] w fun e w'=>e=.returned (.string ⟨(Lib.join (xs.map (·.data.toList)) sep.data.toList).toArray⟩)∧Below w.heap.size w w':=Any.strings_Join jlays jextra bk o c xs sep w hcells hbk hN hcap hlen
set_option maxHeartbeats 1000000 in
set_option maxRecDepth 100000 in
theorem IndexByte_w (s:ByteArray) (c:Int) (w:World) :
  Calls Tryz.prog 111 #[.string s,.int .u8 c] w fun e w'=>e=.returned (.int .i64 (Lib.indexByte s.data.toList c.toNat.toUInt8))∧w'=w:=by
 go_enter Tryz.func111,Tryz.ntmps111
 go_wp2
 rw [run_callFunc_extern Tryz.func119 (by kernel_rfl) (by kernel_rfl) (by kernel_rfl) (e:=Extern.BytealgIndexByte.indexByte) (by kernel_rfl),Lib.run_indexByteString]
 simp only [Result.andThen]
 rw [Oper.upon_value]
 go_wp2
 go_ret
 exact ⟨rfl,rfl⟩
set_option maxHeartbeats 2000000 in
set_option maxRecDepth 100000 in
theorem slIndex_w (s:ByteArray) (c:UInt8) (w:World) :
  Calls Tryz.prog 106 #[.string s,.string ⟨#[c]⟩] w fun e w'=>e=.returned (.int .i64 (Lib.indexByte s.data.toList c))∧w'=w:=by
 go_enter Tryz.func106,Tryz.ntmps106
 go_wp2_with (go_at_call 111;refine (IndexByte_w _ _ _).mono ?_;rintro e w' ⟨rfl,rfl⟩)
 ·have h:([c]==s.toList)=true:=by assumption
  go_ret
  refine ⟨?_,rfl⟩
  have e:s.data.toList=[c]:=by rw [←Lib.toList_data];exact (beq_iff_eq.1 h).symm
  rw [e]
  simp [Lib.indexByte]
 ·go_ret
  exact ⟨rfl,rfl⟩
set_option maxHeartbeats 1000000 in
theorem Index_w (s:ByteArray) (c:UInt8) (w:World) :
  Calls Tryz.prog 94 #[.string s,.string ⟨#[c]⟩] w fun e w'=>e=.returned (.int .i64 (Lib.indexByte s.data.toList c))∧w'=w:=by
 go_enter Tryz.func94,Tryz.ntmps94
 go_wp2_with (go_at_call 106;refine (slIndex_w _ _ _).mono ?_;rintro e w' ⟨rfl,rfl⟩)
 go_ret
 exact ⟨rfl,rfl⟩
theorem parts_cons (b:UInt8) (l:List UInt8):parts (b :: l)=if b=32 then [] :: parts l else match parts l with
  | p :: ps=>(b :: p) :: ps
  | []=>[[b]]:=rfl
theorem wrap_in {n:Int} (h0:0≤n) (h1:n<9223372036854775808):wrap64 n=n:=by unfold wrap64;omega
theorem parts_idx:∀l:List UInt8,(Lib.indexByte l 32 = -1∧parts l=[l])∨∃k:Nat,Lib.indexByte l 32=(k:Int)∧k<l.length∧parts l=l.take k :: parts (l.drop (k+1))
 | []=>.inl ⟨rfl,rfl⟩
 | b :: l=>by
  rw [parts_cons]
  unfold Lib.indexByte
  by_cases hb:b=32
  ·rw [if_pos (by rw [hb];rfl),if_pos hb]
   exact .inr ⟨0,rfl,by simp,by simp⟩
  ·rw [if_neg (by rw [beq_iff_eq];exact hb),if_neg hb]
   rcases parts_idx l with ⟨h1,h2⟩ | ⟨k,h1,h2,h3⟩
   ·exact .inl ⟨by rw [h1];rfl,by rw [h2]⟩
   ·refine .inr ⟨k+1,by rw [h1,if_neg (by rw [beq_iff_eq];omega)];rfl,by simp;omega,?_⟩
    rw [h3]
    simp
def leftS (W:World) (Bs:Nat):Nat:=match W.cell? ⟨Bs,0,none⟩ with
 | some (.string c)=>c.size
 | _=>0
set_option maxHeartbeats 4000000 in
set_option maxRecDepth 100000 in
theorem iter_in (n:Nat) (hn:1≤n) (l Bs Bp Bz:Nat) (hne1:Bp≠Bs) (hne2:Bz≠Bs) (J Jx:List (List UInt8)→World→Prop)
  (hJs:∀pre W c c',J pre W→Boxed W Bs 9 (.string c)→J pre (W.setCell ⟨Bs,0,none⟩ (.string c')))
  (s:ByteArray) (hY:∀pre x W,pre++[x.data.toList] <+: parts s.data.toList→J pre W→YieldAt Fence.wide (n - 1) Tryz.prog l #[.string x] W fun e W' =>
   (e=.returned (.bool true)∧J (pre++[x.data.toList]) W'∧∀k t v,(k=Bs∨k=Bp∨k=Bz)→Boxed W k t v→Boxed W' k t v)∨(e=.returned (.bool false)∧Jx (pre++[x.data.toList]) W'))
  (W:World) (hs:s.size≤4611686018427387904) (b1:Boxed W Bs 9 (.string s)) (b2:Boxed W Bp 9 (.string ⟨#[32]⟩)) (b3:Boxed W Bz 3 (.int .i64 0)) (h0:J [] W) :
  CallsIn Fence.wide n Tryz.prog 92 #[.func (.yield l) #[] #[],.pointer (some ⟨Bp,0,none⟩),.pointer (some ⟨Bs,0,none⟩),.pointer (some ⟨Bz,0,none⟩)] W fun e W' =>
   (∃v,e=.returned v)∧(J (parts s.data.toList) W'∨∃pre,pre <+: parts s.data.toList∧Jx pre W'):=by
 refine callsIn_of_wp Tryz.func92 rfl trivial ?_ rfl
 simp only [Tryz.ntmps92,List.size_toArray,List.length_cons,List.length_nil,Nat.reduceAdd,Nat.reduceSub,Array.replicate_succ,Array.replicate_zero,List.push_toArray,List.append_toArray,List.nil_append,List.cons_append]
 have c1:=b1.cell
 have c2:=b2.cell
 have c3:=b3.cell
 gi_wp2
 gi_loopw [7] (fun i wr=>∃(pre:List (List UInt8)) (cur:ByteArray),Boxed wr Bs 9 (.string cur)∧Boxed wr Bp 9 (.string ⟨#[32]⟩)∧Boxed wr Bz 3 (.int .i64 0)∧J pre wr∧parts s.data.toList=pre++parts cur.data.toList∧cur.size≤s.size)
  (fun _ wr=>leftS wr Bs)
 case atStart =>
  exact ⟨[],s,b1,b2,b3,h0,rfl,Nat.le_refl _⟩
 case round =>
  obtain ⟨pre,cur,d1,d2,d3,hj,hp,hc⟩:=hrel
  have e1:=d1.cell
  have e2:=d2.cell
  have e3:=d3.cell
  have hsz:cur.data.toList.length=cur.size:=rfl
  rcases parts_idx cur.data.toList with ⟨h1,h2⟩ | ⟨k,h1,h2,h3⟩
  ·obtain ⟨f1,t1,a1,q1,hy1,hR1⟩:=hY pre cur wr (by rw [hp,h2];exact List.prefix_refl _) hj
   have hpc:parts s.data.toList=pre++[cur.data.toList]:=by rw [hp,h2]
   gi_wp2_with (first
    | (refine ⟨trivial,?_⟩;gi_at_call 94;refine ((callsIn_wide (n:=n - 1)).2 (Index_w _ _ _)).mono ?_;rintro e w' ⟨rfl,rfl⟩;rw [h1])
    | gi_in)
   refine hR1.mono ?_
   rintro e W3 (⟨rfl,hJ3,hk3⟩ | ⟨rfl,hJx3⟩)
   ·gi_wp2
    go_end0
    exact ⟨⟨_,rfl⟩,.inl (by rw [hpc];exact hJ3)⟩
   ·gi_wp2
    go_end0
    exact ⟨⟨_,rfl⟩,.inr ⟨_,by rw [hpc];exact List.prefix_refl _,hJx3⟩⟩
  ·have hfrag:(cur.extract 0 k).data.toList=cur.data.toList.take k:=by
    rw [Lib.extract_data];simp
   obtain ⟨f2,t2,a2,q2,hy2,hR2⟩:=hY pre (cur.extract 0 k) wr (by rw [hp,h3,hfrag];exact ⟨_,by rw [List.append_assoc];rfl⟩) hj
   have hw1:wrap64 (k:Int)=k:=wrap_in (by omega) (by omega)
   have hw2:wrap64 ((k:Int)+1)=((k+1:Nat):Int):=wrap_in (by omega) (by omega)
   have hrest:(cur.extract (k+1) cur.size).data.toList=cur.data.toList.drop (k+1):=by
    rw [Lib.extract_data,List.take_of_length_le]
    rw [List.length_drop];omega
   gi_wp2_with (first
    | (refine ⟨trivial,?_⟩;gi_at_call 94;refine ((callsIn_wide (n:=n - 1)).2 (Index_w _ _ _)).mono ?_;rintro e w' ⟨rfl,rfl⟩;rw [h1])
    | gi_in)
   refine hR2.mono ?_
   rintro e W3 (⟨rfl,hJ3,hk3⟩ | ⟨rfl,hJx3⟩)
   ·have g1:Boxed W3 Bs 9 (.string cur):=hk3 _ _ _ (.inl rfl) d1
    have g2:Boxed W3 Bp 9 (.string ⟨#[32]⟩):=hk3 _ _ _ (.inr (.inl rfl)) d2
    have g3:Boxed W3 Bz 3 (.int .i64 0):=hk3 _ _ _ (.inr (.inr rfl)) d3
    have k1:=g1.cell
    have k2:=g2.cell
    have k3:=g3.cell
    have k4:=g1.frozen
    gi_wp2
    have s1:=g1.set (.string (cur.extract (k+1) cur.size))
    have hl:=congrArg List.length hrest
    rw [List.length_drop] at hl
    have hl2:(cur.extract (k+1) cur.size).size=cur.data.toList.length - (k+1):=hl
    refine ⟨⟨pre++[cur.data.toList.take k],_,s1,g2.kept (grownBy_setCell' _ _ _) (by simpa using hne1),g3.kept (grownBy_setCell' _ _ _) (by simpa using hne2),hJs _ _ _ _ (by rw [←hfrag];exact hJ3) g1,?_,by omega⟩,?_⟩
    ·rw [hp,h3,hrest,List.append_assoc];rfl
    ·unfold leftS
     rw [s1.cell,d1.cell]
     show (cur.extract (k+1) cur.size).size<cur.size
     omega
   ·gi_wp2
    refine bodyPost_ret (results_none rfl _ _ _) rfl ?_
    exact ⟨⟨_,rfl⟩,.inr ⟨_,by rw [hp,h3,hfrag];exact ⟨_,by rw [List.append_assoc];rfl⟩,hJx3⟩⟩
set_option maxHeartbeats 1000000 in
theorem wp_range {g:Operand} {ps:Array Tmp} {assign body:Code} {Q:Exit→Act→World→Prop} {a:Act} {w:World} {n:Nat} (hn:1≤n) {lb:Array Value} (hg:a.eval g=.func (.func 92) #[] lb) (hps:ps.size=1)
  (I Ix:List (List UInt8)→World→Prop) (hIa:∀W o,Below w.heap.size w W→I [] W→I [] (W.alloc o)) (hI:∀pre W j o o',I pre W→w.heap.size≤j→W.heap[j]? = some o→o.isCells=false→I pre (W.putObj j o')) (hIx:∀pre W j o o',Ix pre W→w.heap.size≤j→W.heap[j]? = some o→o.isCells=false→Ix pre (W.putObj j o')) (h0:I [] w) (Bs Bp Bz:Nat) (full:List (List UInt8))
  (hIs:∀pre W c c',I pre W→Boxed W Bs 9 (.string c)→I pre (W.setCell ⟨Bs,0,none⟩ (.string c')))
  (hcall:∀(l:Nat) (W1:World) (J Jx:List (List UInt8)→World→Prop),w.grownBy W1 none →
   (∀pre W c c',J pre W→Boxed W Bs 9 (.string c)→J pre (W.setCell ⟨Bs,0,none⟩ (.string c'))) →
   (∀pre x W,pre++[x.data.toList] <+: full→J pre W→YieldAt Fence.wide (n - 1 - 1) Tryz.prog l #[.string x] W fun e W' =>
    (e=.returned (.bool true)∧J (pre++[x.data.toList]) W'∧∀k t v,(k=Bs∨k=Bp∨k=Bz)→Boxed W k t v→Boxed W' k t v)∨(e=.returned (.bool false)∧Jx (pre++[x.data.toList]) W')) →
   J [] W1→CallsIn Fence.wide (n - 1) Tryz.prog 92 (#[.func (.yield l) #[] #[]]++lb) W1 fun e W'=>(∃v,e=.returned v)∧(J full W'∨∃pre,pre <+: full∧Jx pre W'))
  (a₁:ByteArray→Act)
  (hassign:∀(l:Nat) (x:ByteArray) (W:World) (K:Act→World→Prop),K (a₁ x) W →
   assign.wpIn (Fence.wide.inRound l) (n - 1 - 1) Tryz.prog (Exit.then K (fun _ _ _=>False)) { tmps:=(ps.zip #[.string x]).foldl (fun t (p,v)=>t.setIfInBounds p v) a.tmps,defers:=[] } W)
  (hbody:∀(l:Nat) (pre:List (List UInt8)) (x:ByteArray) (W:World),pre++[x.data.toList] <+: full→I pre W→body.wpIn (Fence.wide.inRound l) (n - 1 - 1) Tryz.prog
   (fun e _ W'=>KeepsOthers W W'∧(∀k t v,(k=Bs∨k=Bp∨k=Bz)→Boxed W k t v→Boxed W' k t v)∧((e=.normal∧I (pre++[x.data.toList]) W')∨(e=.ret∧Ix (pre++[x.data.toList]) W'))) (a₁ x) W)
  (hdone:∀(D:Nat) (W:World),I full W→W.heap[D]? = some (.deferred (some []))→w.heap.size≤D→Q .normal { a with defers:={ target:=.collected D,args:=#[] } :: a.defers } W)
  (hstop:∀(D:Nat) (pre:List (List UInt8)) (W:World),pre <+: full→Ix pre W→W.heap[D]? = some (.deferred (some []))→w.heap.size≤D→Code.ret.wpIn Fence.wide n Tryz.prog Q { a with defers:={ target:=.collected D,args:=#[] } :: a.defers } W) :
  (Code.rangeFunc g ps assign body).wpIn Fence.wide n Tryz.prog Q a w:=by
 refine wpIn_rangeFunc ?_
 intro fn _
 obtain ⟨rec,hrec⟩:∃rec:LoopState→Option Code→Loop,rec=fun st pe=>{ state:=st,pending:=pe,fn,tmps:=a.tmps,params:=ps,assign,body,defers:=w.heap.size }:=⟨_,rfl⟩
 obtain ⟨W1,hW1⟩:∃W1,(w.alloc (.deferred (some []))).alloc (.loop (rec .ready none))=W1:=⟨_,rfl⟩
 have hL1:W1.heap[w.heap.size+1]? = some (.loop (rec .ready none)):=by
  rw [←hW1];have:=World.alloc_heap_new (w.alloc (.deferred (some []))) (.loop (rec .ready none));rwa [World.size_alloc] at this
 have hK1:W1.heap[w.heap.size]? = some (.deferred (some [])):=by
  rw [←hW1];exact (Below.heap_alloc _ _ _ (by simp)).trans (World.alloc_heap_new w _)
 have hI1:I [] W1:=by rw [←hW1];exact hIa _ _ ((Below.refl w.heap.size w).alloc (Nat.le_refl _) _) (hIa _ _ (Below.refl _ _) h0)
 have hgr:w.grownBy W1 none:=by
  have b:=(((Below.refl w.heap.size w).alloc (Nat.le_refl _) (.deferred (some []))).alloc (by simp) (.loop (rec .ready none)))
  rw [hW1] at b
  exact ⟨b.os,b.tape,b.output,b.size,fun k hk _=>b.block k hk⟩
 refine ⟨w.heap.size+1,[{ target:=.collected w.heap.size,args:=#[] }],W1,{ target:=.fn (.func 92) lb,args:=#[.func (.yield (w.heap.size+1)) #[] #[]] },W1,92,
  #[.func (.yield (w.heap.size+1)) #[] #[]]++lb,W1,?_,?_,fun f' _=>trivial,?_,fun _=>hn,?_⟩
 ·rw [←hW1,hrec];exact run_enterLoop_outer _ _ _ _ _
 ·simp only [resolve,hg]
  simp [go_sem]
 ·have eg:∀args w,(callFunc 92 args).run Tryz.prog w=.ok (.enter 92 args) w:=enters_of Tryz.func92 (by kernel_rfl) rfl
  simp [invoke,go_sem,eg]
 ·have ncell:∀{W:World} {k:Nat} {o:Obj} {c:ByteArray},W.heap[k]? = some o→o.isCells=false→Boxed W Bs 9 (.string c)→k≠Bs:=by
   intro W k o c h1 h2 h3 e
   rw [e,show W.heap[Bs]? = _ from h3] at h1
   cases h1;cases h2
  have other:∀{W:World} {k:Nat} (v:Value),k≠Bs→(W.setCell ⟨Bs,0,none⟩ v).heap[k]? = W.heap[k]?:=fun v hk=>Below.heap_setCell _ _ _ _ hk
  refine (hcall (w.heap.size+1) W1
   (fun pre W=>I pre W∧W.heap[w.heap.size+1]? = some (.loop (rec .ready none))∧W.heap[w.heap.size]? = some (.deferred (some [])))
   (fun pre W=>Ix pre W∧W.heap[w.heap.size+1]? = some (.loop (rec .done (some .ret)))∧W.heap[w.heap.size]? = some (.deferred (some [])))
   hgr (fun pre W c c' hj hb=>⟨hIs pre W c c' hj.1 hb,(other _ (ncell hj.2.1 rfl hb)).trans hj.2.1,(other _ (ncell hj.2.2 rfl hb)).trans hj.2.2⟩) ?_ ⟨hI1,hL1,hK1⟩).mono ?_
  ·rintro pre x W hpre ⟨hi,hl,hk⟩
   have hlt:w.heap.size+1<W.heap.size:=(Array.getElem?_eq_some_iff.1 hl).1
   have hy:=run_yield (P:=Tryz.prog) (args:=#[.string x]) hl (by rw [hrec];simp [hps])
   rw [hrec] at hy
   refine ⟨fn,_,assign,body,hy,roundIn_of_wpIn trivial (hassign _ x W _ ⟨_,run_beginRound hl (by rw [hrec]),?_⟩)⟩
   have hl2:(W.putObj (w.heap.size+1) (.loop { rec .ready none with state:=.busy })).heap[w.heap.size+1]? = some (.loop { rec .ready none with state:=.busy }):=World.putObj_heap_same hlt
   have hk2:(W.putObj (w.heap.size+1) (.loop { rec .ready none with state:=.busy })).heap[w.heap.size]? = some (.deferred (some [])):=(World.putObj_heap_other (by omega)).trans hk
   have box:∀{W:World} {j:Nat} {o:Obj} (o':Obj) {k:Nat} {t:TypeId} {v:Value},W.heap[j]? = some o→o.isCells=false→Boxed W k t v→Boxed (W.putObj j o') k t v:=by
    intro W j o o' k t v h1 h2 h3
    refine (World.putObj_heap_other ?_).trans h3
    intro e
    rw [←e,show W.heap[k]? = _ from h3] at h1
    cases h1;cases h2
   refine wpIn_mono (hbody _ pre x _ hpre (hI _ _ _ _ _ hi (by omega) hl rfl)) ?_
   have fin:∀(jump:Option Code) (W3:World),KeepsOthers (W.putObj (w.heap.size+1) (.loop { rec .ready none with state:=.busy })) W3 →
     (Instr.endRound (w.heap.size+1) jump).run Tryz.prog W3=.ok (.bool jump.isNone) (W3.putObj (w.heap.size+1) (.loop (rec (if jump.isNone then .ready else .done) jump))) ∧
     W3.heap[w.heap.size+1]? = some (.loop { rec .ready none with state:=.busy }) ∧
     (W3.putObj (w.heap.size+1) (.loop (rec (if jump.isNone then .ready else .done) jump))).heap[w.heap.size+1]? = some (.loop (rec (if jump.isNone then .ready else .done) jump)) ∧
     (W3.putObj (w.heap.size+1) (.loop (rec (if jump.isNone then .ready else .done) jump))).heap[w.heap.size]? = some (.deferred (some [])):=fun jump W3 hk3=>by
    have hl3:=hk3.same _ _ hl2 rfl
    have:=run_endRound (P:=Tryz.prog) jump hl3
    rw [hrec] at this ⊢
    exact ⟨this,by rw [hrec] at hl3;exact hl3,World.putObj_heap_same (Array.getElem?_eq_some_iff.1 hl3).1,(World.putObj_heap_other (by omega)).trans (hk3.same _ _ hk2 rfl)⟩
   rintro e a3 W3 ⟨hk3,hb3,(⟨rfl,hi3⟩ | ⟨rfl,hi3⟩)⟩
   ·obtain ⟨hr,hl3,hl4,hk4⟩:=fin none W3 hk3
    exact ⟨_,_,hr,.inl ⟨rfl,⟨hI _ _ _ _ _ hi3 (by omega) hl3 rfl,hl4,hk4⟩,fun k t v hk hb=>box _ hl3 rfl (hb3 k t v hk (box _ hl rfl hb))⟩⟩
   ·obtain ⟨hr,hl3,hl4,hk4⟩:=fin (some .ret) W3 hk3
    exact ⟨_,_,hr,.inr ⟨rfl,hIx _ _ _ _ _ hi3 (by omega) hl3 rfl,hl4,hk4⟩⟩
  ·rintro e W2 ⟨⟨v,rfl⟩,(⟨hi,hl,hk⟩ | ⟨pre,hSp,hi,hl,hk⟩)⟩
   ·exact ⟨none,_,by have:=run_endLoop (P:=Tryz.prog) hl (by rw [hrec];simp);rw [hrec] at this;exact this,hdone _ _ (hI _ _ _ _ _ hi (by omega) hl rfl) ((World.putObj_heap_other (by omega)).trans hk) (Nat.le_refl _)⟩
   ·exact ⟨some .ret,_,by have:=run_endLoop (P:=Tryz.prog) hl (by rw [hrec];simp);rw [hrec] at this;exact this,hstop _ pre _ hSp (hIx _ _ _ _ _ hi (by omega) hl rfl) ((World.putObj_heap_other (by omega)).trans hk) (Nat.le_refl _)⟩
set_option maxHeartbeats 1000000 in
theorem splitSeq_w (s sep:ByteArray) (w:World) :
  Calls Tryz.prog 65 #[.string s,.string sep,.int .i64 0] w fun e w'=>e=.returned (.func (.func 92) #[] #[.pointer (some ⟨w.heap.size+1,0,none⟩),.pointer (some ⟨w.heap.size,0,none⟩),.pointer (some ⟨w.heap.size+1+1,0,none⟩)]) ∧
   w'=((w.alloc (.cells #[.string s] 9)).alloc (.cells #[.string sep] 9)).alloc (.cells #[.int .i64 0] 3):=by
 go_enter Tryz.func65,Tryz.ntmps65
 go_wp2
 go_ret
 exact ⟨rfl,rfl⟩
set_option maxHeartbeats 1000000 in
theorem SplitSeq_w (s sep:ByteArray) (w:World) :
  Calls Tryz.prog 47 #[.string s,.string sep] w fun e w'=>e=.returned (.func (.func 92) #[] #[.pointer (some ⟨w.heap.size+1,0,none⟩),.pointer (some ⟨w.heap.size,0,none⟩),.pointer (some ⟨w.heap.size+1+1,0,none⟩)]) ∧
   w'=((w.alloc (.cells #[.string s] 9)).alloc (.cells #[.string sep] 9)).alloc (.cells #[.int .i64 0] 3):=by
 go_enter Tryz.func47,Tryz.ntmps47
 go_wp2_with (go_at_call 65;refine (splitSeq_w _ _ _).mono ?_;rintro e w' ⟨rfl,rfl⟩)
 go_ret
 exact ⟨rfl,rfl⟩
theorem picksOf_snoc (x:List UInt8):∀pre:List (List UInt8),picksOf (pre++[x])=match picksOf pre with
  | none=>none
  | some l=>if pickOf x=24 then none else some (l++[(pickOf x:Int)])
 | []=>by
  show (if pickOf x=24 then none else _)=if pickOf x=24 then none else _
  rfl
 | y :: pre=>by
  rw [List.cons_append]
  unfold picksOf
  by_cases hy:pickOf y=24
  ·rw [if_pos hy,if_pos hy]
  ·rw [if_neg hy,if_neg hy,picksOf_snoc x pre]
   cases picksOf pre with
   | none=>rfl
   | some l =>
    dsimp only [Option.map]
    by_cases hx:pickOf x=24
    ·rw [if_pos hx,if_pos hx]
    ·rw [if_neg hx,if_neg hx];rfl
theorem picksOf_none (pre t:List (List UInt8)) (h:picksOf pre=none):picksOf (pre++t)=none:=by
 induction t generalizing pre with
 | nil=>rw [List.append_nil];exact h
 | cons x t ih =>
  rw [show pre++x :: t=(pre++[x])++t by simp]
  exact ih _ (by rw [picksOf_snoc,h])
theorem picksOf_len (l:List (List UInt8)):∀{r:List Int},picksOf l=some r→r.length=l.length:=by
 induction l with
 | nil=>intro r h;cases h;rfl
 | cons x l ih =>
  intro r h
  unfold picksOf at h
  split at h
  ·cases h
  ·cases hp:picksOf l with
   | none=>rw [hp] at h;cases h
   | some q=>rw [hp] at h;cases h;rw [List.length_cons,List.length_cons,ih hp]
theorem pickOf_eq {x:List UInt8} {k:Nat} (hk:k≤24) (h:∀j:Nat,j<k→(nameOf (j:Int)).data.toList≠x) (he:k=24∨(nameOf (k:Int)).data.toList=x):pickOf x=k:=by
 unfold pickOf
 by_cases h24:k=24
 ·subst h24
  have:((List.range 24).find? fun (i:Nat)=>decide ((nameOf (i:Int)).data.toList=x))=none:=by
   rw [List.find?_eq_none]
   intro j hj
   rw [List.mem_range] at hj
   simpa using h j hj
  rw [this];rfl
 ·have:((List.range 24).find? fun (i:Nat)=>decide ((nameOf (i:Int)).data.toList=x))=some k:=by
   rw [List.find?_range_eq_some]
   refine ⟨by simpa using he.resolve_left h24,by rw [List.mem_range];omega,fun j hj=>by simpa using h j hj⟩
  rw [this];rfl
def PI (w:World) (pre:List (List UInt8)) (W:World):Prop:=∃l,picksOf pre=some l∧Boxed W w.heap.size 22 (.slice none 0 0)∧Boxed W (w.heap.size+1) 4 (.bool false) ∧
 (∃v,Boxed W (w.heap.size+1+1) 22 v∧W.ownsRow (w.heap.size+6) 3 1 v l.length (l.map (Value.int .i64)))∧Below w.heap.size w W∧w.heap.size+6≤W.heap.size
theorem ownsRow_low {W:World} {b b':Nat} {e:TypeId} {size:Nat} {v:Value} {k:Nat} {xs:List Value} (h:W.ownsRow b e size v k xs) (hb:b'≤b):W.ownsRow b' e size v k xs :=
 ⟨h.1,h.2.imp id fun ⟨g,cap,cur,q1,q2,q3⟩=>⟨g,cap,cur,q1,by omega,q3⟩⟩
def PIx (w:World) (pre:List (List UInt8)) (W:World):Prop:=picksOf pre=none∧Boxed W w.heap.size 22 (.slice none 0 0)∧Boxed W (w.heap.size+1) 4 (.bool false)∧Below w.heap.size w W
theorem Boxed.notCells {W:World} {j:Nat} {o:Obj} (h1:W.heap[j]? = some o) (h2:o.isCells=false) {k:Nat} {t:TypeId} {v:Value} (h3:Boxed W k t v):some k≠some j:=by
 intro e
 obtain rfl:k=j:=Option.some.inj e
 rw [show W.heap[k]? = _ from h3] at h1
 cases h1;cases h2
theorem Below.put {B:Nat} {w W:World} {j:Nat} (o:Obj) (h:Below B w W) (hj:B≤j) (hlt:j<W.heap.size):Below B w (W.putObj j o) :=
 h.trans ((Below.refl B W).grown (grownBy_putObj' W j o) (by have:=h.size;omega) (fun k e=>by cases e;exact hj))
theorem PI.put {w:World} {pre:List (List UInt8)} {W:World} {j:Nat} {o:Obj} (o':Obj) (h:PI w pre W) (hj:w.heap.size≤j) (h1:W.heap[j]? = some o) (h2:o.isCells=false):PI w pre (W.putObj j o'):=by
 obtain ⟨l,a1,a2,a3,⟨v,a4,a5⟩,a6,a7⟩:=h
 have hlt:j<W.heap.size:=(Array.getElem?_eq_some_iff.1 h1).1
 exact ⟨l,a1,a2.kept (grownBy_putObj' W j o') (Boxed.notCells h1 h2 a2),a3.kept (grownBy_putObj' W j o') (Boxed.notCells h1 h2 a3),⟨v,a4.kept (grownBy_putObj' W j o') (Boxed.notCells h1 h2 a4),ownsRow_putObj a5 o' h1 h2⟩,Below.put o' a6 hj hlt,by simpa using a7⟩
theorem PIx.put {w:World} {pre:List (List UInt8)} {W:World} {j:Nat} {o:Obj} (o':Obj) (h:PIx w pre W) (hj:w.heap.size≤j) (h1:W.heap[j]? = some o) (h2:o.isCells=false):PIx w pre (W.putObj j o'):=by
 obtain ⟨a1,a2,a3,a6⟩:=h
 have hlt:j<W.heap.size:=(Array.getElem?_eq_some_iff.1 h1).1
 exact ⟨a1,a2.kept (grownBy_putObj' W j o') (Boxed.notCells h1 h2 a2),a3.kept (grownBy_putObj' W j o') (Boxed.notCells h1 h2 a3),Below.put o' a6 hj hlt⟩
theorem PI.grown {w:World} {pre:List (List UInt8)} {W W':World} (h:PI w pre W) (hg:W.grownBy W' none) (hb:Below w.heap.size w W'):PI w pre W':=by
 obtain ⟨l,a1,a2,a3,⟨v,a4,a5⟩,a6,a7⟩:=h
 refine ⟨l,a1,a2.kept hg (by simp),a3.kept hg (by simp),⟨v,a4.kept hg (by simp),a5.kept hg ?_⟩,hb,by have:=hg.size;omega⟩
 rcases a5.2 with ⟨rfl,_⟩ | ⟨g,cap,cur,rfl,_⟩
 ·exact .inl rfl
 ·exact .inr (by simp [Value.ownBlock])
theorem PI.set {w:World} {pre:List (List UInt8)} {W:World} {B:Nat} {c:Value} (c':Value) (h:PI w pre W) (hB:w.heap.size+1+1<B) (hb:Boxed W B 9 c):PI w pre (W.setCell ⟨B,0,none⟩ c'):=by
 obtain ⟨l,a1,a2,a3,⟨v,a4,a5⟩,a6,a7⟩:=h
 have hg:=grownBy_setCell' W B c'
 refine ⟨l,a1,a2.kept hg (by simp;omega),a3.kept hg (by simp;omega),⟨v,a4.kept hg (by simp;omega),a5.kept hg (.inr (hb.not_row (by decide) a5).symm)⟩,a6.setCell (p:=⟨B,0,none⟩) (by simp;omega) c',by have:=hg.size;omega⟩
theorem results_two (tmps:Array Value) (W:World) (b c:Nat) (u v:Value) (h1:tmps.getD 2 undef=.pointer (some ⟨b,0,none⟩)) (h2:tmps.getD 3 undef=.pointer (some ⟨c,0,none⟩)) (hu:W.cell? ⟨b,0,none⟩=some u) (hv:W.cell? ⟨c,0,none⟩=some v) :
  (results Tryz.f27 tmps).run Tryz.prog W=.ok (.tuple #[u,v]) W:=by
 have a22:∀w,(isAgg 22).run Tryz.prog w=.ok false w:=fun w=>by kernel_rfl
 have a4:∀w,(isAgg 4).run Tryz.prog w=.ok false w:=fun w=>by kernel_rfl
 have:=Jq.run_results (fn:=Tryz.f27) (tmps:=tmps) (us:=[u,v]) (P:=Tryz.prog) (w:=W) (by
  show (List.mapM (Jq.readR tmps) [.cell 2 22,.cell 3 4]).run _ _=_
  simp [Jq.readR,h1,h2,asAddr,loadVar,a22,a4,hu,hv])
 rw [this]
 rfl
set_option maxHeartbeats 4000000 in
set_option maxRecDepth 100000 in
theorem Parse_w (s:ByteArray) (w:World) (hs:s.size≤4611686018427387904) (h0:s.size≠0) (hb:((parts s.data.toList).length+1)*8≤140737488355328)
  (hN:∀(i:Nat) (W:World),i<24→Below w.heap.size w W→Calls Tryz.prog 48 #[.int .i64 i] W fun e W'=>e=.returned (.string (nameOf i))∧Below W.heap.size W W') :
  Calls Tryz.prog 27 #[.string s] w (PPost 3 s w):=by
 refine (callsIn_wide (n:=5)).1 ?_
 refine callsIn_of_wp_marks Tryz.func27 rfl trivial ?_ rfl
 simp only [Tryz.ntmps27,List.size_toArray,List.length_cons,List.length_nil,Nat.reduceAdd,Nat.reduceSub,Array.replicate_succ,Array.replicate_zero,List.push_toArray,List.append_toArray,List.nil_append,List.cons_append]
 have hne:(s.toList==[])=false:=by
  rw [Lib.toList_data]
  cases h:s.data.toList with
  | nil=>exact absurd (show s.data.toList.length=0 by rw [h];rfl) h0
  | cons a t=>rfl
 gi_wp2_with (first
  | (refine ⟨trivial,?_⟩;gi_at_call 47;refine ((callsIn_wide (n:=5 - 1)).2 (SplitSeq_w _ _ _)).mono ?_;rintro e w' ⟨rfl,rfl⟩)
  | gi_in)
 obtain ⟨W0,hW0⟩:∃W0,((((((w.alloc (.cells #[.slice none 0 0] 22)).alloc (.cells #[.bool false] 4)).alloc (.cells #[.slice none 0 0] 22)).alloc (.cells #[.string s] 9)).alloc (.cells #[.string ⟨#[32]⟩] 9)).alloc (.cells #[.int .i64 0] 3))=W0:=⟨_,rfl⟩
 rw [hW0]
 have q0:Boxed W0 w.heap.size 22 (.slice none 0 0):=by
  rw [←hW0];exact (((((Boxed.new w 22 _).alloc _).alloc _).alloc _).alloc _).alloc _
 have q1:Boxed W0 (w.heap.size+1) 4 (.bool false):=by
  rw [←hW0];have:=Boxed.new (w.alloc (.cells #[.slice none 0 0] 22)) 4 (.bool false);rw [World.size_alloc] at this
  exact ((((this).alloc _).alloc _).alloc _).alloc _
 have q2:Boxed W0 (w.heap.size+1+1) 22 (.slice none 0 0):=by
  rw [←hW0];have:=Boxed.new ((w.alloc (.cells #[.slice none 0 0] 22)).alloc (.cells #[.bool false] 4)) 22 (.slice none 0 0);rw [World.size_alloc,World.size_alloc] at this
  exact (((this).alloc _).alloc _).alloc _
 have q3:Boxed W0 (w.heap.size+1+1+1) 9 (.string s):=by
  rw [←hW0];have:=Boxed.new (((w.alloc (.cells #[.slice none 0 0] 22)).alloc (.cells #[.bool false] 4)).alloc (.cells #[.slice none 0 0] 22)) 9 (.string s);rw [World.size_alloc,World.size_alloc,World.size_alloc] at this
  exact ((this).alloc _).alloc _
 have q4:Boxed W0 (w.heap.size+1+1+1+1) 9 (.string ⟨#[32]⟩):=by
  rw [←hW0];have:=Boxed.new ((((w.alloc (.cells #[.slice none 0 0] 22)).alloc (.cells #[.bool false] 4)).alloc (.cells #[.slice none 0 0] 22)).alloc (.cells #[.string s] 9)) 9 (.string ⟨#[32]⟩);rw [World.size_alloc,World.size_alloc,World.size_alloc,World.size_alloc] at this
  exact (this).alloc _
 have q5:Boxed W0 (w.heap.size+1+1+1+1+1) 3 (.int .i64 0):=by
  rw [←hW0];have:=Boxed.new (((((w.alloc (.cells #[.slice none 0 0] 22)).alloc (.cells #[.bool false] 4)).alloc (.cells #[.slice none 0 0] 22)).alloc (.cells #[.string s] 9)).alloc (.cells #[.string ⟨#[32]⟩] 9)) 3 (.int .i64 0);rw [World.size_alloc,World.size_alloc,World.size_alloc,World.size_alloc,World.size_alloc] at this
  exact this
 have qB:Below w.heap.size w W0:=by
  rw [←hW0]
  exact ((((((Below.refl w.heap.size w).alloc (by simp) _).alloc (by simp) _).alloc (by simp;omega) _).alloc (by simp;omega) _).alloc (by simp;omega) _).alloc (by simp;omega) _
 have qs:W0.heap.size=w.heap.size+6:=by rw [←hW0];simp
 clear hW0
 refine wp_range (n:=5) (by omega) (lb:=#[.pointer (some ⟨w.heap.size+1+1+1+1,0,none⟩),.pointer (some ⟨w.heap.size+1+1+1,0,none⟩),.pointer (some ⟨w.heap.size+1+1+1+1+1,0,none⟩)]) rfl rfl (PI w) (PIx w)
  (fun W o hb h=>h.grown (World.grownBy_alloc W o none) (qB.trans (((hb.trans (Below.refl _ _)).mono (by omega)).alloc (by have:=hb.size;omega) o)))
  (fun pre W j o o' h hj h1 h2=>h.put o' (by omega) h1 h2) (fun pre W j o o' h hj h1 h2=>h.put o' (by omega) h1 h2)
  ⟨[],rfl,q0,q1,⟨_,q2,World.ownsRow_nil _ _ _ _⟩,qB,by omega⟩ (w.heap.size+1+1+1) (w.heap.size+1+1+1+1) (w.heap.size+1+1+1+1+1) (parts s.data.toList)
  (fun pre W c c' h hb=>h.set _ (by omega) hb)
  (fun l W1 J Jx hg hJs hY h0=>iter_in (5 - 1) (by omega) l _ _ _ (by omega) (by omega) J Jx hJs s hY W1 hs (q3.kept hg (by simp)) (q4.kept hg (by simp)) (q5.kept hg (by simp)) h0)
  (fun x=>{ tmps:=#[.string s,undef,.pointer (some ⟨w.heap.size,0,none⟩),.pointer (some ⟨w.heap.size+1,0,none⟩),.pointer (some ⟨w.heap.size+1+1,0,none⟩),.string x,undef,.string s,.bool false,.string s,
   .func (.func 92) #[] #[.pointer (some ⟨w.heap.size+1+1+1+1,0,none⟩),.pointer (some ⟨w.heap.size+1+1+1,0,none⟩),.pointer (some ⟨w.heap.size+1+1+1+1+1,0,none⟩)],
   .string x,undef,undef,undef,undef,undef,undef,undef,undef,undef,undef,undef,undef,undef,undef,undef,undef,undef],defers:=[] }) ?assign ?body ?done ?stop
 case assign =>
  intro l x W K hK
  gi_wp2
  exact hK
 case body =>
  rintro l pre x W hpre ⟨l',hl',c0,c1,⟨v,c2,hrow⟩,hB,hsz⟩
  have hd:1≤5 - 1 - 1:=by omega
  have hlen:l'.length+1≤(parts s.data.toList).length:=by
   have:=hpre.length_le
   rw [List.length_append,List.length_singleton] at this
   rw [picksOf_len _ hl'];exact this
  have box:∀{W':World} {B:Nat} {t:TypeId} {v:Value},Below W.heap.size W W'→Boxed W B t v→Boxed W' B t v:=fun h b=>(h.block _ b.lt).trans b
  have keep:∀{W':World},Below W.heap.size W W'→KeepsOthers W W':=fun h=>⟨h.size,fun k o hk _=>(h.block k (Array.getElem?_eq_some_iff.1 hk).1).trans hk⟩
  have grow:∀{W':World},Below W.heap.size W W'→W.grownBy W' none:=fun h=>⟨h.os,h.tape,h.output,h.size,fun k hk _=>h.block k hk⟩
  obtain ⟨i0,hi,hz0,hz1,hz2⟩:=info_parts (show (Tryz.prog.info? 3).map (fun i=>(i.zero,i.size,i.bytes))=some (some (.int .i64 0),1,8) by kernel_rfl)
  gi_wp2
  gi_loopw [6] (fun iv wr=>∃k:Nat,iv=.int .i64 k∧k≤24∧(∀j:Nat,j<k→(nameOf (j:Int)).data.toList≠x.data.toList)∧Below W.heap.size W wr) (fun iv _=>(24 - intOf iv).toNat)
  case atStart =>
   exact ⟨0,rfl,by omega,fun j hj=>by omega,Below.refl _ _⟩
  case round =>
   obtain ⟨k,rfl,hk,hno,hb⟩:=hrel
   by_cases h24:k=24
   ·subst h24
    have d0:=(box hb c0).cell;have f0:=(box hb c0).frozen;have d1:=(box hb c1).cell;have f1:=(box hb c1).frozen
    gi_wp2_with (first
     | (refine ⟨trivial,?_⟩;gi_at_call 48;refine (CallsIn.inRound l ((callsIn_wide (n:=5 - 1 - 1 - 1)).2 (hN 24 _ (by omega) (hB.trans (hb.mono hB.size))))).mono ?_;rintro e w' ⟨rfl,hb'⟩)
     | gi_in)
    refine ⟨trivial,?_⟩
    gi_wp2
    have p1:=grownBy_setCell' wr w.heap.size (.slice none 0 0)
    have p2:=grownBy_setCell' (wr.setCell ⟨w.heap.size,0,none⟩ (.slice none 0 0)) (w.heap.size+1) (.bool false)
    refine ⟨((keep hb).trans (KeepsOthers.setCell _ _ _)).trans (KeepsOthers.setCell _ _ _),fun k t v hk b=>((box hb b).kept p1 (by simp;omega)).kept p2 (by simp;omega),?_,((box hb c0).set _).kept p2 (by simp),((box hb c1).kept p1 (by simp)).set _,?_⟩
    ·rw [picksOf_snoc,hl']
     dsimp only
     rw [if_pos (pickOf_eq (Nat.le_refl 24) hno (.inl rfl))]
    ·exact ((hB.trans (hb.mono hB.size)).setCell (p:=⟨w.heap.size,0,none⟩) (by simp) _).setCell (p:=⟨w.heap.size+1,0,none⟩) (by simp) _
   ·have hk4:k<24:=by omega
    have hw1:wrap64 ((k:Int)+1)=((k+1:Nat):Int):=wrap_in (by omega) (by omega)
    have hk5:((k:Int)==24)=false:=by rw [beq_eq_false_iff_ne];omega
    by_cases hx:(nameOf (k:Int)).data.toList=x.data.toList
    ·have hx2:((nameOf (k:Int)).toList==x.toList)=true:=by rw [Lib.toList_data,Lib.toList_data,hx];simp
     gi_wp2_with (first
      | (refine ⟨trivial,?_⟩;gi_at_call 48;refine (CallsIn.inRound l ((callsIn_wide (n:=5 - 1 - 1 - 1)).2 (hN k _ hk4 (hB.trans (hb.mono hB.size))))).mono ?_;rintro e w' ⟨rfl,hb'⟩;have hbb:=hb.trans (hb'.mono hb.size);have d2:=(box hbb c2).cell;have f2:=(box hbb c2).frozen;have hrow2:=hrow.kept (grow hbb) (by rcases hrow.2 with ⟨rfl,_⟩ | ⟨g,cap,cur,rfl,_⟩;exact .inl rfl;exact .inr (by simp [Value.ownBlock])))
      | (gi_at_builtin;refine wpListIn_append_own _ rfl _ _ 22 rfl (w.heap.size+6) 3 i0 (.int .i64 0) 1 8 Tryz.underlying22 hi hz0 hz1 hz2 rfl (by decide) _ _ _ rfl (hrow2.alloc _) ⟨_,0,none⟩ 1 1 [.int .i64 k] rfl rfl (cell_one_new _ _ _) (by simp [Value.oneCell']) (by unfold maxLen;omega) (by omega) (by have:=hbb.size;simp;omega) ?_;intro v' w1 hown' hgrow _;obtain ⟨g',cap',rfl⟩:=ownsRow_succ hown';obtain ⟨hv1,hv2,hr2,hk2,hb2⟩:=(box hbb c2).appended (by decide) (ownsRow_low hrow2 (show w.heap.size≤_ by omega)) (by have:=hbb.size;omega) (by omega) (ownsRow_low hown' (show w.heap.size≤_ by omega)) hgrow;have hc1:=hv1.cell;have hf1:=hv1.frozen)
      | gi_in)
     have rowLt:∀j,v.ownBlock=some j→w.heap.size+6≤j:=fun j e=>(hrow.lt j e).1
     have oth:∀{B:Nat} {t:TypeId} {u:Value},Boxed W B t u→B<w.heap.size+6→B≠w.heap.size+1+1→Boxed (w1.setCell ⟨w.heap.size+1+1,0,none⟩ (.slice (some ⟨g',0,none⟩) (l'.length+1) cap')) B t u:=fun {B t u} b h1 h2 =>
      (((box hbb b).alloc _).kept hgrow (fun e=>by have:=rowLt B e.symm;omega)).kept (grownBy_setCell' _ _ _) (by simpa using h2)
     refine ⟨(keep hbb).trans hk2,fun k t v hk b=>oth b (by omega) (by omega),⟨l'++[(k:Int)],?_,oth c0 (by omega) (by omega),oth c1 (by omega) (by omega),⟨_,hv2,?_⟩,(hB.trans (hbb.mono hB.size)).trans hb2,?_⟩⟩
     ·rw [picksOf_snoc,hl']
      dsimp only
      rw [if_neg (by rw [pickOf_eq hk hno (.inr hx)];exact h24),pickOf_eq hk hno (.inr hx)]
     ·have hr3:=hown'.kept (grownBy_setCell' w1 (w.heap.size+1+1) (.slice (some ⟨g',0,none⟩) (l'.length+1) cap')) (.inr (hv1.not_row (by decide) hown').symm)
      rw [List.length_append,List.length_singleton,List.map_append]
      exact hr3
     ·have:=hb2.size;have:=hbb.size;omega
    ·have hx2:((nameOf (k:Int)).toList==x.toList)=false:=by rw [Lib.toList_data,Lib.toList_data,beq_eq_false_iff_ne];exact hx
     gi_wp2_with (first
      | (refine ⟨trivial,?_⟩;gi_at_call 48;refine (CallsIn.inRound l ((callsIn_wide (n:=5 - 1 - 1 - 1)).2 (hN k _ hk4 (hB.trans (hb.mono hB.size))))).mono ?_;rintro e w' ⟨rfl,hb'⟩)
      | gi_in)
     refine ⟨⟨k+1,rfl,by omega,fun j hj=>?_,hb.trans (hb'.mono hb.size)⟩,?_⟩
     ·rcases Nat.lt_or_ge j k with c | c
      ·exact hno j c
      ·obtain rfl:j=k:=by omega
       exact hx
     ·show (24 - ((k:Int)+1)).toNat<(24 - (k:Int)).toNat
      omega
 case done =>
  rintro D W ⟨l',hl',c0,c1,⟨v,c2,hrow⟩,hB,hsz⟩ hK hD
  have d0:=c0.cell;have f0:=c0.frozen;have d1:=c1.cell;have f1:=c1.frozen;have d2:=c2.cell;have f2:=c2.frozen
  have p1:=grownBy_setCell' W w.heap.size v
  have p2:=grownBy_setCell' (W.setCell ⟨w.heap.size,0,none⟩ v) (w.heap.size+1) (.bool true)
  have e0:=((c0.set v).kept p2 (by simp)).cell
  have e1:=((c1.kept p1 (by simp)).set (.bool true)).cell
  have hb2:=(hB.setCell (p:=⟨w.heap.size,0,none⟩) (by simp) v).setCell (p:=⟨w.heap.size+1,0,none⟩) (by simp) (.bool true)
  have hr2:=((ownsRow_low hrow (show w.heap.size≤_ by omega)).kept p1 (by
   rcases h:v.ownBlock with _ | j
   ·exact .inl rfl
   ·exact .inr (by have:=(hrow.lt j h).1;simp;omega))).kept p2 (by
   rcases h:v.ownBlock with _ | j
   ·exact .inl rfl
   ·exact .inr (by have:=(hrow.lt j h).1;simp;omega))
  have hK2:((W.setCell ⟨w.heap.size,0,none⟩ v).setCell ⟨w.heap.size+1,0,none⟩ (.bool true)).heap[D]? = some (.deferred (some [])):=((KeepsOthers.setCell _ _ _).trans (KeepsOthers.setCell _ _ _)).same D _ hK rfl
  have hDlt:=(Array.getElem?_eq_some_iff.1 hK2).1
  have hv:∃a b c,v=.slice a b c:=by
   rcases hrow.2 with ⟨rfl,_⟩ | ⟨g,cap,cur,rfl,_⟩
   ·exact ⟨_,_,_,rfl⟩
   ·exact ⟨_,_,_,rfl⟩
  obtain ⟨a,b,c,rfl⟩:=hv
  dsimp only
  gi_wp2
  refine ⟨by simp,.inl ⟨_,_,rfl,run_takeDeferred hK2,?_⟩⟩
  have pD:=grownBy_putObj' ((W.setCell ⟨w.heap.size,0,none⟩ (.slice a b c)).setCell ⟨w.heap.size+1,0,none⟩ (.bool true)) D (.deferred none)
  refine ⟨_,results_two _ _ _ _ _ _ rfl rfl (((((c0.set _).kept p2 (by simp))).kept pD (by simp;omega)).cell) ((((c1.kept p1 (by simp)).set _).kept pD (by simp;omega)).cell),?_⟩
  unfold PPost
  rw [hl']
  exact ⟨Below.put _ hb2 (by omega) hDlt,_,rfl,ownsRow_putObj hr2 _ hK2 rfl⟩
 case stop =>
  rintro D pre W hpre ⟨hn',c0,c1,hB⟩ hK hD
  have d0:=c0.cell;have f0:=c0.frozen;have d1:=c1.cell;have f1:=c1.frozen
  dsimp only
  gi_wp2
  refine ⟨by simp,.inl ⟨_,_,rfl,run_takeDeferred hK,?_⟩⟩
  have pD:=grownBy_putObj' W D (.deferred none)
  refine ⟨_,results_two _ _ _ _ _ _ rfl rfl ((c0.kept pD (by simp;omega)).cell) ((c1.kept pD (by simp;omega)).cell),?_⟩
  obtain ⟨t,ht⟩:=hpre
  unfold PPost
  rw [←ht,picksOf_none _ _ hn']
  exact ⟨Below.put _ hB (by omega) (Array.getElem?_eq_some_iff.1 hK).1,rfl⟩
set_option maxHeartbeats 1000000 in
set_option maxRecDepth 100000 in
theorem Parse_w0 (s:ByteArray) (w:World) (h0:s.size=0):Calls Tryz.prog 27 #[.string s] w fun e w'=>Below w.heap.size w w'∧e=.returned (.tuple #[.slice none 0 0,.bool true]):=by
 refine (callsIn_wide (n:=5)).1 ?_
 refine callsIn_of_wp_marks Tryz.func27 rfl trivial ?_ rfl
 simp only [Tryz.ntmps27,List.size_toArray,List.length_cons,List.length_nil,Nat.reduceAdd,Nat.reduceSub,Array.replicate_succ,Array.replicate_zero,List.push_toArray,List.append_toArray,List.nil_append,List.cons_append]
 have hne:(s.toList==[])=true:=by
  rw [Lib.toList_data]
  cases h:s.data.toList with
  | nil=>rfl
  | cons a t=>exact absurd (show s.data.toList.length=0 from h0) (by rw [h];simp)
 gi_wp2_with gi_in
 have n0:Boxed ((w.alloc (.cells #[.slice none 0 0] 22)).alloc (.cells #[.bool true] 4)) w.heap.size 22 (.slice none 0 0):=(Boxed.new w 22 _).alloc _
 have n1:Boxed ((w.alloc (.cells #[.slice none 0 0] 22)).alloc (.cells #[.bool true] 4)) (w.heap.size+1) 4 (.bool true):=by
  have:=Boxed.new (w.alloc (.cells #[.slice none 0 0] 22)) 4 (.bool true);rwa [World.size_alloc] at this
 exact ⟨_,results_two _ _ _ _ _ _ rfl rfl n0.cell n1.cell,((Below.refl w.heap.size w).alloc (by simp) _).alloc (by simp) _,rfl⟩
end PX
end Go.Proofs

namespace Go.Proofs.YtlfhmbifgdhckaaGreatDoor.LPlayEnds
open Go Jq
def seatFn:Nat→Nat
 | 17=>58
 | 18=>63
 | 19=>84
 | 32=>50
 | 38=>70
 | 42=>98
 | 45=>66
 | 46=>95
 | 47=>107
 | 48=>115
 | 49=>116
 | 50=>117
 | 51=>118
 | 76=>7
 | 80=>88
 | 81=>37
 | 92=>53
 | 93=>71
 | 94=>56
 | 97=>22
 | 101=>21
 | 102=>72
 | 104=>34
 | 105=>61
 | 106=>89
 | 107=>39
 | 108=>102
 | 109=>86
 | 110=>51
 | 111=>38
 | 113=>83
 | 114=>82
 | 115=>42
 | 119=>81
 | 121=>40
 | 122=>41
 | 123=>52
 | 124=>104
 | 125=>103
 | 139=>110
 | 148=>75
 | 155=>76
 | 156=>99
 | 158=>73
 | 159=>78
 | 163=>100
 | 164=>101
 | 167=>48
 | 171=>43
 | 172=>46
 | 173=>44
 | 174=>25
 | 175=>24
 | 180=>19
 | 181=>14
 | 182=>20
 | 187=>28
 | 188=>54
 | 189=>55
 | 190=>57
 | 191=>62
 | 192=>64
 | 193=>59
 | 194=>60
 | 195=>45
 | 196=>30
 | 197=>35
 | 198=>36
 | 200=>74
 | 201=>77
 | 202=>79
 | 203=>80
 | 204=>91
 | 205=>85
 | 206=>87
 | 207=>90
 | 260=>27
 | 261=>12
 | 262=>29
 | 271=>9
 | 272=>49
 | 278=>23
 | 306=>11
 | 423=>17
 | 424=>18
 | 425=>5
 | 428=>32
 | 429=>31
 | 430=>33
 | _=>0
def envFn:Nat→Option Jq.Fn
 | 17=>some q17
 | 18=>some q18
 | 19=>some q19
 | 32=>some q32
 | 38=>some q38
 | 42=>some q42
 | 45=>some q45
 | 46=>some q46
 | 47=>some q47
 | 48=>some q48
 | 76=>some q76
 | 80=>some q80
 | 81=>some q81
 | 92=>some q92
 | 93=>some q93
 | 94=>some q94
 | 97=>some q97
 | 101=>some q101
 | 102=>some q102
 | 104=>some q104
 | 105=>some q105
 | 106=>some q106
 | 107=>some q107
 | 108=>some q108
 | 109=>some q109
 | 110=>some q110
 | 111=>some q111
 | 113=>some q113
 | 114=>some q114
 | 115=>some q115
 | 119=>some q119
 | 121=>some q121
 | 122=>some q122
 | 123=>some q123
 | 124=>some q124
 | 125=>some q125
 | 139=>some q139
 | 148=>some q148
 | 155=>some q155
 | 156=>some q156
 | 158=>some q158
 | 159=>some q159
 | 163=>some q163
 | 164=>some q164
 | 167=>some q167
 | 171=>some q171
 | 172=>some q172
 | 173=>some q173
 | 174=>some q174
 | 175=>some q175
 | 180=>some q180
 | 181=>some q181
 | 182=>some q182
 | 187=>some q187
 | 188=>some q188
 | 189=>some q189
 | 190=>some q190
 | 191=>some q191
 | 192=>some q192
 | 193=>some q193
 | 194=>some q194
 | 195=>some q195
 | 196=>some q196
 | 197=>some q197
 | 198=>some q198
 | 200=>some q200
 | 201=>some q201
 | 202=>some q202
 | 203=>some q203
 | 204=>some q204
 | 205=>some q205
 | 206=>some q206
 | 207=>some q207
 | 261=>some q261
 | 262=>some q262
 | 271=>some q271
 | 278=>some q278
 | 306=>some q306
 | 423=>some q423
 | 424=>some q424
 | 425=>some q425
 | 428=>some q428
 | 429=>some q429
 | 430=>some q430
 | _=>none
def deB:List Int:=[0,1,56,2,57,49,28,3,61,58,42,50,38,29,17,4,62,47,59,36,45,43,51,22,53,39,33,30,24,18,12,5,63,55,48,27,60,41,37,16,46,35,44,21,52,32,23,11,54,26,40,15,34,20,31,10,25,14,19,9,13,8,7,6]
def seatTab:Nat→List Cell:=fun k=>if k=1 then deB.map (Cell.int .u8) else []
noncomputable def seat:Seat:={ P:=Tryz.prog,fn:=seatFn,gl:=fun _=>0,tab:=seatTab }
def env:Env:={ fn:=envFn,tab:=seatTab,ext:=ext17 }
theorem tabOk:TabOk env:=by
 have:∀k,k<64→(seatTab 1)[k]? = (Lib.deBruijn64tab[k]?).map fun (n:Nat)=>Cell.int .u8 (n:Int):=by decide +kernel
 exact this
theorem mixed:true=true→seat.P.follows .mixedOrders=true:=fun _=>by kernel_rfl
theorem ok_17:FnOk seat 17 q17:=⟨⟨Tryz.f58,_,drK seat true,Tryz.func58,rfl,by kernel_rfl,by kernel_rfl,by kernel_rfl,by kernel_rfl,fun _ _ h=>draw_sound mixed h⟩⟩
theorem ok_18:FnOk seat 18 q18:=⟨⟨Tryz.f63,_,drK seat true,Tryz.func63,rfl,by kernel_rfl,by kernel_rfl,by kernel_rfl,by kernel_rfl,fun _ _ h=>draw_sound mixed h⟩⟩
theorem ok_19:FnOk seat 19 q19:=⟨⟨Tryz.f84,_,drK seat true,Tryz.func84,rfl,by kernel_rfl,by kernel_rfl,by kernel_rfl,by kernel_rfl,fun _ _ h=>draw_sound mixed h⟩⟩
theorem ok_32:FnOk seat 32 q32:=⟨⟨Tryz.f50,_,drK seat true,Tryz.func50,rfl,by kernel_rfl,by kernel_rfl,by kernel_rfl,by kernel_rfl,fun _ _ h=>draw_sound mixed h⟩⟩
theorem ok_38:FnOk seat 38 q38:=⟨⟨Tryz.f70,_,drK seat true,Tryz.func70,rfl,by kernel_rfl,by kernel_rfl,by kernel_rfl,by kernel_rfl,fun _ _ h=>draw_sound mixed h⟩⟩
theorem ok_42:FnOk seat 42 q42:=⟨⟨Tryz.f98,_,drK seat true,Tryz.func98,rfl,by kernel_rfl,by kernel_rfl,by kernel_rfl,by kernel_rfl,fun _ _ h=>draw_sound mixed h⟩⟩
theorem ok_45:FnOk seat 45 q45:=⟨⟨Tryz.f66,_,drK seat true,Tryz.func66,rfl,by kernel_rfl,by kernel_rfl,by kernel_rfl,by kernel_rfl,fun _ _ h=>draw_sound mixed h⟩⟩
theorem ok_46:FnOk seat 46 q46:=⟨⟨Tryz.f95,_,drK seat true,Tryz.func95,rfl,by kernel_rfl,by kernel_rfl,by kernel_rfl,by kernel_rfl,fun _ _ h=>draw_sound mixed h⟩⟩
theorem ok_47:FnOk seat 47 q47:=⟨⟨Tryz.f107,_,drK seat true,Tryz.func107,rfl,by kernel_rfl,by kernel_rfl,by kernel_rfl,by kernel_rfl,fun _ _ h=>draw_sound mixed h⟩⟩
theorem ok_48:FnOk seat 48 q48:=⟨⟨Tryz.f115,_,drK seat true,Tryz.func115,rfl,by kernel_rfl,by kernel_rfl,by kernel_rfl,by kernel_rfl,fun _ _ h=>draw_sound mixed h⟩⟩
theorem ok_76:FnOk seat 76 q76:=⟨⟨Tryz.f7,_,drK seat true,Tryz.func7,rfl,by kernel_rfl,by kernel_rfl,by kernel_rfl,by kernel_rfl,fun _ _ h=>draw_sound mixed h⟩⟩
theorem ok_80:FnOk seat 80 q80:=⟨⟨Tryz.f88,_,drK seat true,Tryz.func88,rfl,by kernel_rfl,by kernel_rfl,by kernel_rfl,by kernel_rfl,fun _ _ h=>draw_sound mixed h⟩⟩
theorem ok_81:FnOk seat 81 q81:=⟨⟨Tryz.f37,_,drK seat true,Tryz.func37,rfl,by kernel_rfl,by kernel_rfl,by kernel_rfl,by kernel_rfl,fun _ _ h=>draw_sound mixed h⟩⟩
theorem ok_92:FnOk seat 92 q92:=⟨⟨Tryz.f53,_,drK seat true,Tryz.func53,rfl,by kernel_rfl,by kernel_rfl,by kernel_rfl,by kernel_rfl,fun _ _ h=>draw_sound mixed h⟩⟩
theorem ok_93:FnOk seat 93 q93:=⟨⟨Tryz.f71,_,drK seat true,Tryz.func71,rfl,by kernel_rfl,by kernel_rfl,by kernel_rfl,by kernel_rfl,fun _ _ h=>draw_sound mixed h⟩⟩
theorem ok_94:FnOk seat 94 q94:=⟨⟨Tryz.f56,_,drK seat true,Tryz.func56,rfl,by kernel_rfl,by kernel_rfl,by kernel_rfl,by kernel_rfl,fun _ _ h=>draw_sound mixed h⟩⟩
theorem ok_97:FnOk seat 97 q97:=⟨⟨Tryz.f22,_,drK seat true,Tryz.func22,rfl,by kernel_rfl,by kernel_rfl,by kernel_rfl,by kernel_rfl,fun _ _ h=>draw_sound mixed h⟩⟩
theorem ok_101:FnOk seat 101 q101:=⟨⟨Tryz.f21,_,drK seat true,Tryz.func21,rfl,by kernel_rfl,by kernel_rfl,by kernel_rfl,by kernel_rfl,fun _ _ h=>draw_sound mixed h⟩⟩
theorem ok_102:FnOk seat 102 q102:=⟨⟨Tryz.f72,_,drK seat true,Tryz.func72,rfl,by kernel_rfl,by kernel_rfl,by kernel_rfl,by kernel_rfl,fun _ _ h=>draw_sound mixed h⟩⟩
theorem ok_104:FnOk seat 104 q104:=⟨⟨Tryz.f34,_,drK seat true,Tryz.func34,rfl,by kernel_rfl,by kernel_rfl,by kernel_rfl,by kernel_rfl,fun _ _ h=>draw_sound mixed h⟩⟩
theorem ok_105:FnOk seat 105 q105:=⟨⟨Tryz.f61,_,drK seat true,Tryz.func61,rfl,by kernel_rfl,by kernel_rfl,by kernel_rfl,by kernel_rfl,fun _ _ h=>draw_sound mixed h⟩⟩
theorem ok_106:FnOk seat 106 q106:=⟨⟨Tryz.f89,_,drK seat true,Tryz.func89,rfl,by kernel_rfl,by kernel_rfl,by kernel_rfl,by kernel_rfl,fun _ _ h=>draw_sound mixed h⟩⟩
theorem ok_107:FnOk seat 107 q107:=⟨⟨Tryz.f39,_,drK seat true,Tryz.func39,rfl,by kernel_rfl,by kernel_rfl,by kernel_rfl,by kernel_rfl,fun _ _ h=>draw_sound mixed h⟩⟩
theorem ok_108:FnOk seat 108 q108:=⟨⟨Tryz.f102,_,drK seat true,Tryz.func102,rfl,by kernel_rfl,by kernel_rfl,by kernel_rfl,by kernel_rfl,fun _ _ h=>draw_sound mixed h⟩⟩
theorem ok_109:FnOk seat 109 q109:=⟨⟨Tryz.f86,_,drK seat true,Tryz.func86,rfl,by kernel_rfl,by kernel_rfl,by kernel_rfl,by kernel_rfl,fun _ _ h=>draw_sound mixed h⟩⟩
theorem ok_110:FnOk seat 110 q110:=⟨⟨Tryz.f51,_,drK seat true,Tryz.func51,rfl,by kernel_rfl,by kernel_rfl,by kernel_rfl,by kernel_rfl,fun _ _ h=>draw_sound mixed h⟩⟩
theorem ok_111:FnOk seat 111 q111:=⟨⟨Tryz.f38,_,drK seat true,Tryz.func38,rfl,by kernel_rfl,by kernel_rfl,by kernel_rfl,by kernel_rfl,fun _ _ h=>draw_sound mixed h⟩⟩
theorem ok_113:FnOk seat 113 q113:=⟨⟨Tryz.f83,_,drK seat true,Tryz.func83,rfl,by kernel_rfl,by kernel_rfl,by kernel_rfl,by kernel_rfl,fun _ _ h=>draw_sound mixed h⟩⟩
theorem ok_114:FnOk seat 114 q114:=⟨⟨Tryz.f82,_,drK seat true,Tryz.func82,rfl,by kernel_rfl,by kernel_rfl,by kernel_rfl,by kernel_rfl,fun _ _ h=>draw_sound mixed h⟩⟩
theorem ok_115:FnOk seat 115 q115:=⟨⟨Tryz.f42,_,drK seat true,Tryz.func42,rfl,by kernel_rfl,by kernel_rfl,by kernel_rfl,by kernel_rfl,fun _ _ h=>draw_sound mixed h⟩⟩
theorem ok_119:FnOk seat 119 q119:=⟨⟨Tryz.f81,_,drK seat true,Tryz.func81,rfl,by kernel_rfl,by kernel_rfl,by kernel_rfl,by kernel_rfl,fun _ _ h=>draw_sound mixed h⟩⟩
theorem ok_121:FnOk seat 121 q121:=⟨⟨Tryz.f40,_,drK seat true,Tryz.func40,rfl,by kernel_rfl,by kernel_rfl,by kernel_rfl,by kernel_rfl,fun _ _ h=>draw_sound mixed h⟩⟩
theorem ok_122:FnOk seat 122 q122:=⟨⟨Tryz.f41,_,drK seat true,Tryz.func41,rfl,by kernel_rfl,by kernel_rfl,by kernel_rfl,by kernel_rfl,fun _ _ h=>draw_sound mixed h⟩⟩
theorem ok_123:FnOk seat 123 q123:=⟨⟨Tryz.f52,_,drK seat true,Tryz.func52,rfl,by kernel_rfl,by kernel_rfl,by kernel_rfl,by kernel_rfl,fun _ _ h=>draw_sound mixed h⟩⟩
theorem ok_124:FnOk seat 124 q124:=⟨⟨Tryz.f104,_,drK seat true,Tryz.func104,rfl,by kernel_rfl,by kernel_rfl,by kernel_rfl,by kernel_rfl,fun _ _ h=>draw_sound mixed h⟩⟩
theorem ok_125:FnOk seat 125 q125:=⟨⟨Tryz.f103,_,drK seat true,Tryz.func103,rfl,by kernel_rfl,by kernel_rfl,by kernel_rfl,by kernel_rfl,fun _ _ h=>draw_sound mixed h⟩⟩
theorem ok_139:FnOk seat 139 q139:=⟨⟨Tryz.f110,_,drK seat true,Tryz.func110,rfl,by kernel_rfl,by kernel_rfl,by kernel_rfl,by kernel_rfl,fun _ _ h=>draw_sound mixed h⟩⟩
theorem ok_148:FnOk seat 148 q148:=⟨⟨Tryz.f75,_,drK seat true,Tryz.func75,rfl,by kernel_rfl,by kernel_rfl,by kernel_rfl,by kernel_rfl,fun _ _ h=>draw_sound mixed h⟩⟩
theorem ok_155:FnOk seat 155 q155:=⟨⟨Tryz.f76,_,drK seat true,Tryz.func76,rfl,by kernel_rfl,by kernel_rfl,by kernel_rfl,by kernel_rfl,fun _ _ h=>draw_sound mixed h⟩⟩
theorem ok_156:FnOk seat 156 q156:=⟨⟨Tryz.f99,_,drK seat true,Tryz.func99,rfl,by kernel_rfl,by kernel_rfl,by kernel_rfl,by kernel_rfl,fun _ _ h=>draw_sound mixed h⟩⟩
theorem ok_158:FnOk seat 158 q158:=⟨⟨Tryz.f73,_,drK seat true,Tryz.func73,rfl,by kernel_rfl,by kernel_rfl,by kernel_rfl,by kernel_rfl,fun _ _ h=>draw_sound mixed h⟩⟩
theorem ok_159:FnOk seat 159 q159:=⟨⟨Tryz.f78,_,drK seat true,Tryz.func78,rfl,by kernel_rfl,by kernel_rfl,by kernel_rfl,by kernel_rfl,fun _ _ h=>draw_sound mixed h⟩⟩
theorem ok_163:FnOk seat 163 q163:=⟨⟨Tryz.f100,_,drK seat true,Tryz.func100,rfl,by kernel_rfl,by kernel_rfl,by kernel_rfl,by kernel_rfl,fun _ _ h=>draw_sound mixed h⟩⟩
theorem ok_164:FnOk seat 164 q164:=⟨⟨Tryz.f101,_,drK seat true,Tryz.func101,rfl,by kernel_rfl,by kernel_rfl,by kernel_rfl,by kernel_rfl,fun _ _ h=>draw_sound mixed h⟩⟩
theorem ok_167:FnOk seat 167 q167:=⟨⟨Tryz.f48,_,drK seat true,Tryz.func48,rfl,by kernel_rfl,by kernel_rfl,by kernel_rfl,by kernel_rfl,fun _ _ h=>draw_sound mixed h⟩⟩
theorem ok_171:FnOk seat 171 q171:=⟨⟨Tryz.f43,_,drK seat true,Tryz.func43,rfl,by kernel_rfl,by kernel_rfl,by kernel_rfl,by kernel_rfl,fun _ _ h=>draw_sound mixed h⟩⟩
theorem ok_172:FnOk seat 172 q172:=⟨⟨Tryz.f46,_,drK seat true,Tryz.func46,rfl,by kernel_rfl,by kernel_rfl,by kernel_rfl,by kernel_rfl,fun _ _ h=>draw_sound mixed h⟩⟩
theorem ok_173:FnOk seat 173 q173:=⟨⟨Tryz.f44,_,drK seat true,Tryz.func44,rfl,by kernel_rfl,by kernel_rfl,by kernel_rfl,by kernel_rfl,fun _ _ h=>draw_sound mixed h⟩⟩
theorem ok_174:FnOk seat 174 q174:=⟨⟨Tryz.f25,_,drK seat true,Tryz.func25,rfl,by kernel_rfl,by kernel_rfl,by kernel_rfl,by kernel_rfl,fun _ _ h=>draw_sound mixed h⟩⟩
theorem ok_175:FnOk seat 175 q175:=⟨⟨Tryz.f24,_,drK seat true,Tryz.func24,rfl,by kernel_rfl,by kernel_rfl,by kernel_rfl,by kernel_rfl,fun _ _ h=>draw_sound mixed h⟩⟩
theorem ok_180:FnOk seat 180 q180:=⟨⟨Tryz.f19,_,drK seat true,Tryz.func19,rfl,by kernel_rfl,by kernel_rfl,by kernel_rfl,by kernel_rfl,fun _ _ h=>draw_sound mixed h⟩⟩
theorem ok_181:FnOk seat 181 q181:=⟨⟨Tryz.f14,_,drK seat true,Tryz.func14,rfl,by kernel_rfl,by kernel_rfl,by kernel_rfl,by kernel_rfl,fun _ _ h=>draw_sound mixed h⟩⟩
theorem ok_182:FnOk seat 182 q182:=⟨⟨Tryz.f20,_,drK seat true,Tryz.func20,rfl,by kernel_rfl,by kernel_rfl,by kernel_rfl,by kernel_rfl,fun _ _ h=>draw_sound mixed h⟩⟩
theorem ok_187:FnOk seat 187 q187:=⟨⟨Tryz.f28,_,drK seat true,Tryz.func28,rfl,by kernel_rfl,by kernel_rfl,by kernel_rfl,by kernel_rfl,fun _ _ h=>draw_sound mixed h⟩⟩
theorem ok_188:FnOk seat 188 q188:=⟨⟨Tryz.f54,_,drK seat true,Tryz.func54,rfl,by kernel_rfl,by kernel_rfl,by kernel_rfl,by kernel_rfl,fun _ _ h=>draw_sound mixed h⟩⟩
theorem ok_189:FnOk seat 189 q189:=⟨⟨Tryz.f55,_,drK seat true,Tryz.func55,rfl,by kernel_rfl,by kernel_rfl,by kernel_rfl,by kernel_rfl,fun _ _ h=>draw_sound mixed h⟩⟩
theorem ok_190:FnOk seat 190 q190:=⟨⟨Tryz.f57,_,drK seat true,Tryz.func57,rfl,by kernel_rfl,by kernel_rfl,by kernel_rfl,by kernel_rfl,fun _ _ h=>draw_sound mixed h⟩⟩
theorem ok_191:FnOk seat 191 q191:=⟨⟨Tryz.f62,_,drK seat true,Tryz.func62,rfl,by kernel_rfl,by kernel_rfl,by kernel_rfl,by kernel_rfl,fun _ _ h=>draw_sound mixed h⟩⟩
theorem ok_192:FnOk seat 192 q192:=⟨⟨Tryz.f64,_,drK seat true,Tryz.func64,rfl,by kernel_rfl,by kernel_rfl,by kernel_rfl,by kernel_rfl,fun _ _ h=>draw_sound mixed h⟩⟩
theorem ok_193:FnOk seat 193 q193:=⟨⟨Tryz.f59,_,drK seat true,Tryz.func59,rfl,by kernel_rfl,by kernel_rfl,by kernel_rfl,by kernel_rfl,fun _ _ h=>draw_sound mixed h⟩⟩
theorem ok_194:FnOk seat 194 q194:=⟨⟨Tryz.f60,_,drK seat true,Tryz.func60,rfl,by kernel_rfl,by kernel_rfl,by kernel_rfl,by kernel_rfl,fun _ _ h=>draw_sound mixed h⟩⟩
theorem ok_195:FnOk seat 195 q195:=⟨⟨Tryz.f45,_,drK seat true,Tryz.func45,rfl,by kernel_rfl,by kernel_rfl,by kernel_rfl,by kernel_rfl,fun _ _ h=>draw_sound mixed h⟩⟩
theorem ok_196:FnOk seat 196 q196:=⟨⟨Tryz.f30,_,drK seat true,Tryz.func30,rfl,by kernel_rfl,by kernel_rfl,by kernel_rfl,by kernel_rfl,fun _ _ h=>draw_sound mixed h⟩⟩
theorem ok_197:FnOk seat 197 q197:=⟨⟨Tryz.f35,_,drK seat true,Tryz.func35,rfl,by kernel_rfl,by kernel_rfl,by kernel_rfl,by kernel_rfl,fun _ _ h=>draw_sound mixed h⟩⟩
theorem ok_198:FnOk seat 198 q198:=⟨⟨Tryz.f36,_,drK seat true,Tryz.func36,rfl,by kernel_rfl,by kernel_rfl,by kernel_rfl,by kernel_rfl,fun _ _ h=>draw_sound mixed h⟩⟩
theorem ok_200:FnOk seat 200 q200:=⟨⟨Tryz.f74,_,drK seat true,Tryz.func74,rfl,by kernel_rfl,by kernel_rfl,by kernel_rfl,by kernel_rfl,fun _ _ h=>draw_sound mixed h⟩⟩
theorem ok_201:FnOk seat 201 q201:=⟨⟨Tryz.f77,_,drK seat true,Tryz.func77,rfl,by kernel_rfl,by kernel_rfl,by kernel_rfl,by kernel_rfl,fun _ _ h=>draw_sound mixed h⟩⟩
theorem ok_202:FnOk seat 202 q202:=⟨⟨Tryz.f79,_,drK seat true,Tryz.func79,rfl,by kernel_rfl,by kernel_rfl,by kernel_rfl,by kernel_rfl,fun _ _ h=>draw_sound mixed h⟩⟩
theorem ok_203:FnOk seat 203 q203:=⟨⟨Tryz.f80,_,drK seat true,Tryz.func80,rfl,by kernel_rfl,by kernel_rfl,by kernel_rfl,by kernel_rfl,fun _ _ h=>draw_sound mixed h⟩⟩
theorem ok_204:FnOk seat 204 q204:=⟨⟨Tryz.f91,_,drK seat true,Tryz.func91,rfl,by kernel_rfl,by kernel_rfl,by kernel_rfl,by kernel_rfl,fun _ _ h=>draw_sound mixed h⟩⟩
theorem ok_205:FnOk seat 205 q205:=⟨⟨Tryz.f85,_,drK seat true,Tryz.func85,rfl,by kernel_rfl,by kernel_rfl,by kernel_rfl,by kernel_rfl,fun _ _ h=>draw_sound mixed h⟩⟩
theorem ok_206:FnOk seat 206 q206:=⟨⟨Tryz.f87,_,drK seat true,Tryz.func87,rfl,by kernel_rfl,by kernel_rfl,by kernel_rfl,by kernel_rfl,fun _ _ h=>draw_sound mixed h⟩⟩
theorem ok_207:FnOk seat 207 q207:=⟨⟨Tryz.f90,_,drK seat true,Tryz.func90,rfl,by kernel_rfl,by kernel_rfl,by kernel_rfl,by kernel_rfl,fun _ _ h=>draw_sound mixed h⟩⟩
theorem ok_261:FnOk seat 261 q261:=⟨⟨Tryz.f12,_,drK seat true,Tryz.func12,rfl,by kernel_rfl,by kernel_rfl,by kernel_rfl,by kernel_rfl,fun _ _ h=>draw_sound mixed h⟩⟩
theorem ok_262:FnOk seat 262 q262:=⟨⟨Tryz.f29,_,drK seat true,Tryz.func29,rfl,by kernel_rfl,by kernel_rfl,by kernel_rfl,by kernel_rfl,fun _ _ h=>draw_sound mixed h⟩⟩
theorem ok_271:FnOk seat 271 q271:=⟨⟨Tryz.f9,_,drK seat true,Tryz.func9,rfl,by kernel_rfl,by kernel_rfl,by kernel_rfl,by kernel_rfl,fun _ _ h=>draw_sound mixed h⟩⟩
theorem ok_278:FnOk seat 278 q278:=⟨⟨Tryz.f23,_,drK seat true,Tryz.func23,rfl,by kernel_rfl,by kernel_rfl,by kernel_rfl,by kernel_rfl,fun _ _ h=>draw_sound mixed h⟩⟩
theorem ok_306:FnOk seat 306 q306:=⟨⟨Tryz.f11,_,drK seat true,Tryz.func11,rfl,by kernel_rfl,by kernel_rfl,by kernel_rfl,by kernel_rfl,fun _ _ h=>draw_sound mixed h⟩⟩
theorem ok_423:FnOk seat 423 q423:=⟨⟨Tryz.f17,_,drK seat true,Tryz.func17,rfl,by kernel_rfl,by kernel_rfl,by kernel_rfl,by kernel_rfl,fun _ _ h=>draw_sound mixed h⟩⟩
theorem ok_424:FnOk seat 424 q424:=⟨⟨Tryz.f18,_,drK seat true,Tryz.func18,rfl,by kernel_rfl,by kernel_rfl,by kernel_rfl,by kernel_rfl,fun _ _ h=>draw_sound mixed h⟩⟩
theorem ok_425:FnOk seat 425 q425:=⟨⟨Tryz.f5,_,drK seat true,Tryz.func5,rfl,by kernel_rfl,by kernel_rfl,by kernel_rfl,by kernel_rfl,fun _ _ h=>draw_sound mixed h⟩⟩
theorem ok_428:FnOk seat 428 q428:=⟨⟨Tryz.f32,_,drK seat true,Tryz.func32,rfl,by kernel_rfl,by kernel_rfl,by kernel_rfl,by kernel_rfl,fun _ _ h=>draw_sound mixed h⟩⟩
theorem ok_429:FnOk seat 429 q429:=⟨⟨Tryz.f31,_,drK seat true,Tryz.func31,rfl,by kernel_rfl,by kernel_rfl,by kernel_rfl,by kernel_rfl,fun _ _ h=>draw_sound mixed h⟩⟩
theorem ok_430:FnOk seat 430 q430:=⟨⟨Tryz.f33,_,drK seat true,Tryz.func33,rfl,by kernel_rfl,by kernel_rfl,by kernel_rfl,by kernel_rfl,fun _ _ h=>draw_sound mixed h⟩⟩
theorem allOk:∀g fn,env.fn g=some fn→FnOk seat g fn:=by
 intro g fn h
 unfold env envFn at h
 dsimp only at h
 split at h
 ·cases h;exact ok_17
 ·cases h;exact ok_18
 ·cases h;exact ok_19
 ·cases h;exact ok_32
 ·cases h;exact ok_38
 ·cases h;exact ok_42
 ·cases h;exact ok_45
 ·cases h;exact ok_46
 ·cases h;exact ok_47
 ·cases h;exact ok_48
 ·cases h;exact ok_76
 ·cases h;exact ok_80
 ·cases h;exact ok_81
 ·cases h;exact ok_92
 ·cases h;exact ok_93
 ·cases h;exact ok_94
 ·cases h;exact ok_97
 ·cases h;exact ok_101
 ·cases h;exact ok_102
 ·cases h;exact ok_104
 ·cases h;exact ok_105
 ·cases h;exact ok_106
 ·cases h;exact ok_107
 ·cases h;exact ok_108
 ·cases h;exact ok_109
 ·cases h;exact ok_110
 ·cases h;exact ok_111
 ·cases h;exact ok_113
 ·cases h;exact ok_114
 ·cases h;exact ok_115
 ·cases h;exact ok_119
 ·cases h;exact ok_121
 ·cases h;exact ok_122
 ·cases h;exact ok_123
 ·cases h;exact ok_124
 ·cases h;exact ok_125
 ·cases h;exact ok_139
 ·cases h;exact ok_148
 ·cases h;exact ok_155
 ·cases h;exact ok_156
 ·cases h;exact ok_158
 ·cases h;exact ok_159
 ·cases h;exact ok_163
 ·cases h;exact ok_164
 ·cases h;exact ok_167
 ·cases h;exact ok_171
 ·cases h;exact ok_172
 ·cases h;exact ok_173
 ·cases h;exact ok_174
 ·cases h;exact ok_175
 ·cases h;exact ok_180
 ·cases h;exact ok_181
 ·cases h;exact ok_182
 ·cases h;exact ok_187
 ·cases h;exact ok_188
 ·cases h;exact ok_189
 ·cases h;exact ok_190
 ·cases h;exact ok_191
 ·cases h;exact ok_192
 ·cases h;exact ok_193
 ·cases h;exact ok_194
 ·cases h;exact ok_195
 ·cases h;exact ok_196
 ·cases h;exact ok_197
 ·cases h;exact ok_198
 ·cases h;exact ok_200
 ·cases h;exact ok_201
 ·cases h;exact ok_202
 ·cases h;exact ok_203
 ·cases h;exact ok_204
 ·cases h;exact ok_205
 ·cases h;exact ok_206
 ·cases h;exact ok_207
 ·cases h;exact ok_261
 ·cases h;exact ok_262
 ·cases h;exact ok_271
 ·cases h;exact ok_278
 ·cases h;exact ok_306
 ·cases h;exact ok_423
 ·cases h;exact ok_424
 ·cases h;exact ok_425
 ·cases h;exact ok_428
 ·cases h;exact ok_429
 ·cases h;exact ok_430
 ·cases h
theorem in_115:q115_In env:={ fn:=rfl }
theorem in_97:q97_In env:={ fn:=rfl,c115:=in_115 }
theorem in_121:q121_In env:={ fn:=rfl }
theorem in_122:q122_In env:={ fn:=rfl }
theorem in_101:q101_In env:={ fn:=rfl,c121:=in_121,c122:=in_122 }
theorem in_76:q76_In env:={ fn:=rfl,c97:=in_97,c101:=in_101 }
theorem in_110:q110_In env:={ fn:=rfl }
theorem in_92:q92_In env:={ fn:=rfl }
theorem in_93:q93_In env:={ fn:=rfl }
theorem in_123:q123_In env:={ fn:=rfl,c92:=in_92,c93:=in_93 }
theorem in_104:q104_In env:={ fn:=rfl,c110:=in_110,c123:=in_123 }
theorem in_180:q180_In env:={ fn:=rfl,c104:=in_104 }
theorem in_81:q81_In env:={ fn:=rfl,c110:=in_110 }
theorem in_197:q197_In env:={ fn:=rfl }
theorem in_198:q198_In env:={ fn:=rfl }
theorem in_196:q196_In env:={ fn:=rfl,c81:=in_81,c197:=in_197,c198:=in_198 }
theorem in_181:q181_In env:={ fn:=rfl,c196:=in_196 }
theorem in_107:q107_In env:={ fn:=rfl,c81:=in_81,c123:=in_123 }
theorem in_111:q111_In env:={ fn:=rfl,c92:=in_92 }
theorem in_182:q182_In env:={ fn:=rfl,c81:=in_81,c107:=in_107,c111:=in_111,c196:=in_196,c197:=in_197,c198:=in_198 }
theorem in_187:q187_In env:={ fn:=rfl }
theorem in_48:q48_In env:={ fn:=rfl }
theorem in_47:q47_In env:={ fn:=rfl,c48:=in_48 }
theorem in_46:q46_In env:={ fn:=rfl,c47:=in_47 }
theorem in_45:q45_In env:={ fn:=rfl,c46:=in_46 }
theorem in_167:q167_In env:={ fn:=rfl,c45:=in_45 }
theorem in_262:q262_In env:={ fn:=rfl,c167:=in_167,x272:=rfl }
theorem in_19:q19_In env:={ fn:=rfl }
theorem in_18:q18_In env:={ fn:=rfl,c19:=in_19 }
theorem in_113:q113_In env:={ fn:=rfl }
theorem in_105:q105_In env:={ fn:=rfl,c113:=in_113 }
theorem in_191:q191_In env:={ fn:=rfl }
theorem in_204:q204_In env:={ fn:=rfl }
theorem in_192:q192_In env:={ fn:=rfl,c204:=in_204 }
theorem in_172:q172_In env:={ fn:=rfl,c18:=in_18,c105:=in_105,c191:=in_191,c192:=in_192 }
theorem in_174:q174_In env:={ fn:=rfl,c172:=in_172 }
theorem in_195:q195_In env:={ fn:=rfl }
theorem in_175:q175_In env:={ fn:=rfl,c195:=in_195 }
theorem in_108:q108_In env:={ fn:=rfl }
theorem in_124:q124_In env:={ fn:=rfl }
theorem in_139:q139_In env:={ fn:=rfl }
theorem in_125:q125_In env:={ fn:=rfl,c139:=in_139 }
theorem in_114:q114_In env:={ fn:=rfl,c108:=in_108,c124:=in_124,c125:=in_125 }
theorem in_94:q94_In env:={ fn:=rfl,c113:=in_113,c114:=in_114 }
theorem in_102:q102_In env:={ fn:=rfl }
theorem in_148:q148_In env:={ fn:=rfl }
theorem in_156:q156_In env:={ fn:=rfl }
theorem in_155:q155_In env:={ fn:=rfl,c156:=in_156 }
theorem in_158:q158_In env:={ fn:=rfl }
theorem in_200:q200_In env:={ fn:=rfl }
theorem in_164:q164_In env:={ fn:=rfl }
theorem in_163:q163_In env:={ fn:=rfl,c164:=in_164 }
theorem in_159:q159_In env:={ fn:=rfl,c163:=in_163,c164:=in_164 }
theorem in_201:q201_In env:={ fn:=rfl,c159:=in_159 }
theorem in_188:q188_In env:={ fn:=rfl,c102:=in_102,c148:=in_148,c155:=in_155,c158:=in_158,c200:=in_200,c201:=in_201 }
theorem in_119:q119_In env:={ fn:=rfl }
theorem in_202:q202_In env:={ fn:=rfl }
theorem in_203:q203_In env:={ fn:=rfl }
theorem in_189:q189_In env:={ fn:=rfl,c119:=in_119,c202:=in_202,c203:=in_203 }
theorem in_190:q190_In env:={ fn:=rfl }
theorem in_171:q171_In env:={ fn:=rfl,c94:=in_94,c188:=in_188,c189:=in_189,c190:=in_190 }
theorem in_17:q17_In env:={ fn:=rfl,c19:=in_19 }
theorem in_80:q80_In env:={ fn:=rfl }
theorem in_106:q106_In env:={ fn:=rfl,c105:=in_105,c113:=in_113,c114:=in_114,c124:=in_124 }
theorem in_109:q109_In env:={ fn:=rfl,c108:=in_108 }
theorem in_205:q205_In env:={ fn:=rfl }
theorem in_206:q206_In env:={ fn:=rfl }
theorem in_193:q193_In env:={ fn:=rfl,c80:=in_80,c105:=in_105,c106:=in_106,c109:=in_109,c205:=in_205,c206:=in_206 }
theorem in_207:q207_In env:={ fn:=rfl,c204:=in_204 }
theorem in_194:q194_In env:={ fn:=rfl,c192:=in_192,c207:=in_207 }
theorem in_173:q173_In env:={ fn:=rfl,c17:=in_17,c172:=in_172,c193:=in_193,c194:=in_194 }
theorem in_278:q278_In env:={ fn:=rfl,c171:=in_171,c173:=in_173 }
theorem in_271:q271_In env:={ fn:=rfl,c174:=in_174,c175:=in_175,c278:=in_278 }
theorem in_261:q261_In env:={ fn:=rfl,x260:=rfl,c187:=in_187,c262:=in_262,c271:=in_271 }
theorem in_306:q306_In env:={ fn:=rfl,c174:=in_174,c278:=in_278 }
theorem in_428:q428_In env:={ fn:=rfl }
theorem in_42:q42_In env:={ fn:=rfl }
theorem in_38:q38_In env:={ fn:=rfl,c42:=in_42 }
theorem in_32:q32_In env:={ fn:=rfl,c38:=in_38 }
theorem in_429:q429_In env:={ fn:=rfl,c32:=in_32,c171:=in_171,c172:=in_172,c173:=in_173,c174:=in_174 }
theorem in_423:q423_In env:={ fn:=rfl,c428:=in_428,c429:=in_429 }
theorem in_430:q430_In env:={ fn:=rfl }
theorem in_424:q424_In env:={ fn:=rfl,c429:=in_429,c430:=in_430 }
theorem in_425:q425_In env:={ fn:=rfl,c76:=in_76,c180:=in_180,c181:=in_181,c182:=in_182,c261:=in_261,c306:=in_306,c423:=in_423,c424:=in_424 }
def env0:Env:={ fn:=envFn,tab:=seatTab }
theorem in0_48:q48_In env0:={ fn:=rfl }
theorem in0_47:q47_In env0:={ fn:=rfl,c48:=in0_48 }
theorem in0_46:q46_In env0:={ fn:=rfl,c47:=in0_47 }
theorem in0_45:q45_In env0:={ fn:=rfl,c46:=in0_46 }
theorem in0_167:q167_In env0:={ fn:=rfl,c45:=in0_45 }
theorem ext17ok:Ext17 env:=⟨fun _ _=>rfl,fun _ _=>rfl⟩
theorem extOk:SoundC seat ext17:=ext17_sound
 (join_sound ⟨_,_,Tryz.func49,rfl,by kernel_rfl⟩ (fun a c sep w=>PX.Join_none a c sep w) (fun bk o c xs sep w h1 h2 h3 h4 h5=>PX.Join_w bk o c xs sep w h1 h2 h3 h4 h5))
 (parse_sound (T:=3) ⟨_,_,Tryz.func27,rfl,by kernel_rfl⟩ (fun s w h=>PX.Parse_w0 s w h)
  (fun s w ρ hi h1 h2 h3=>PX.Parse_w s w h1 h2 h3 fun i W _ hb =>
   text_calls (S:=seat) (R_sound (S:=seat) (E:=env0) rfl allOk) (g:=167) (args:=[.c (.int .i64 (i:Int))]) (vals:=#[.int .i64 (i:Int)]) (VName_R in0_167 (i:Int) []) (hi.below0 hb) (L2.cons rfl L2.nil)))
end Go.Proofs.YtlfhmbifgdhckaaGreatDoor.LPlayEnds

namespace Jq
open Go
theorem locs_rise (S:Nat→Bool) (n:Nat):(locsF S n).Pairwise (·<·):=by
 unfold locsF
 refine List.Pairwise.map _ (fun a b (hab:a<b)=>?_) (List.Pairwise.filter _ List.pairwise_lt_range)
 omega
theorem locs_ok (S:Nat→Bool):(List.range (locsF S 26).length).any (atB (locsF S 26) (locBad (locsF S 26)))=false:=by
 have hp:=locs_rise S 26
 have hm:∀x∈locsF S 26,97≤x∧x≤122:=fun x h=>by
  obtain ⟨c,h1,_,rfl⟩:=locsF_mem.1 h
  omega
 generalize locsF S 26=l at *
 rw [List.any_eq_false]
 intro i hi
 rw [List.mem_range] at hi
 rw [atB_ok (List.getElem?_eq_getElem hi)]
 have h1:=hm _ (List.getElem_mem hi)
 have h2:0<i→l.getD (i - 1) 0<l[i]:=fun h0=>by
  rw [List.getD_eq_getElem?_getD,List.getElem?_eq_getElem (by omega)]
  exact List.pairwise_iff_getElem.1 hp (i - 1) i (by omega) hi (by omega)
 unfold locBad locB
 rw [decide_eq_true h1.1,decide_eq_true h1.2]
 by_cases h0:0<i
 ·have:=h2 h0
  rw [decide_eq_false (p:=l[i]≤_) (by omega)];simp
 ·rw [decide_eq_false (p:=(i:Int) > 0) (by omega)];simp
theorem sumLen_le {c:Nat}:∀l:List (List Ins),(∀x∈l,x.length≤c)→(l.map List.length).sum≤l.length*c
 | [],_=>by simp
 | x :: l,h=>by
  have:=sumLen_le l fun y hy=>h y (List.mem_cons_of_mem _ hy)
  have h1:=h x List.mem_cons_self
  rw [List.map_cons,List.sum_cons,List.length_cons,Nat.succ_mul];omega
theorem opdOk.opB {o:Opd} (h:opdOk o):opB o=true:=by
 unfold Jq.opB regB
 rcases h with ⟨h1,_⟩ | ⟨h1 | h1,h2⟩<;>rw [h1]<;>simp [*]
theorem SmI.fld {L:Int} {T:PTest} {i:Ins} (s:SmI L i) (hin:i.loc≠0→i.loc∈locsT T):fldB (hasB (compT T)) (compI (locsT T) i)=true:=by
 have hl:i.loc≠0→compI (locsT T) i={ i with loc:=plc (locsT T) i.loc 0 }∧hasB (compT T) (plc (locsT T) i.loc 0)=true:=fun h=>by
  refine ⟨by unfold compI;rw [if_pos h],?_⟩
  obtain ⟨j,hj,hg⟩:=plc_get (locsT T) 0 (hin h)
  have:=getI_lt hg
  rw [hj]
  unfold hasB
  rw [show (compT T).locs=locsT T from rfl,decide_eq_true (by omega),decide_eq_true (by omega)];rfl
 rcases s with ⟨h1,h2,h3,h4,h5,h6,h7⟩ | ⟨h1,h2,h3,h4,h5,h6,h7⟩ | rfl | ⟨h1,h2,h3,h4,h5,h6,h7⟩ | ⟨h1,h2,h3,h4,h5,h6,h7⟩ | ⟨h1,h2,h3,h4,h5,h6,h7⟩
 ·obtain ⟨e,hh⟩:=hl (by omega)
  rw [e]
  unfold fldB
  dsimp only
  rw [if_pos h1,hh,h4.opB,h1,h2,h5,h6,h7]
  simp [Ins.cs]
 ·obtain ⟨e,hh⟩:=hl (by omega)
  rw [e]
  unfold fldB regB
  dsimp only
  rw [if_neg (by omega),if_pos h1,hh,h1,h4,h5,h6,h7,decide_eq_true (by omega),decide_eq_true (by omega)]
  simp [Ins.cs]
 ·rfl
 ·obtain ⟨e,hh⟩:=hl (by omega)
  rw [e]
  unfold fldB regB
  dsimp only
  rw [if_neg (by omega),if_neg (by omega),if_neg (by omega),if_pos h1,hh,h4.opB,h1,h5,h6,h7,decide_eq_true (by omega),decide_eq_true (by omega)]
  simp [Ins.cs,opB]
 ·have e:compI (locsT T) i=i:=by unfold compI;rw [if_neg (by omega)]
  rw [e]
  unfold fldB regB
  rw [if_neg (by omega),if_neg (by omega),if_neg (by omega),if_neg (by omega),if_pos h1,h4.opB,h1,h5,h6,decide_eq_true (by omega),decide_eq_true (by omega)]
  simp [Ins.cs,opB,h1,h3,h5,h6,h7]
 ·have e:compI (locsT T) i=i:=by unfold compI;rw [if_neg (by omega)]
  rw [e]
  unfold fldB
  rw [if_neg (by omega),if_neg (by omega),if_neg (by omega),if_neg (by omega),if_neg (by omega),if_pos h1,h4.opB,h1,h6,h7]
  simp [Ins.cs,opB,h1,h2,h3,h5,h6,h7]
theorem there_loc {T:PTest} {c:List Ins} (hc:c∈T.thr) {i:Ins} (hi:i∈c) (hl:97≤i.loc∧i.loc≤122):i.loc∈locsT T:=by
 unfold locsT
 refine locsF_mem.2 ⟨(i.loc - 97).toNat,by omega,?_,by omega⟩
 unfold thereT
 rw [Bool.or_eq_true,Bool.or_eq_true]
 refine .inl (.inr (List.any_eq_true.2 ⟨c,hc,List.any_eq_true.2 ⟨i,hi,?_⟩⟩))
 rw [beq_iff_eq];omega
theorem SkipOk.jmp {c:List Ins} (s:SkipOk c) (h1:∀i∈c,i.kind=6→i.n=1):jmpB c=true:=by
 unfold jmpB
 rw [List.all_eq_true]
 intro k hk
 cases hq:c[k]? with
 | none=>rfl
 | some i =>
  dsimp only
  by_cases h6:i.kind=6
  ·have a:=s k i hq h6
   have b:=h1 i (List.mem_of_getElem? hq) h6
   rw [decide_eq_false (p:=i.n<1) (by omega),decide_eq_false (p:=i.n > _) (by omega)];simp
  ·rw [beq_false_of_ne h6];rfl
structure RunP (P:PProg):Prop where
 pok:pokB P=true
 fld:∀c∈P.thr,∀i∈c,fldB (hasB P) i=true
theorem GoodT.run {most:Nat} {T:PTest} (g:GoodT most T):RunP (compT T):=by
 have gp:=g.goodP
 obtain ⟨L,hL,hc⟩:=g.code
 have hf:∀c∈(compT T).thr,∀i∈c,fldB (hasB (compT T)) i=true:=fun c hcm i hi=>by
  obtain ⟨d,hd,rfl⟩:=List.mem_map.1 hcm
  obtain ⟨j,hj,rfl⟩:=List.mem_map.1 hi
  obtain ⟨k,hk,ht⟩:=hc d hd
  have:=ht.all j hj
  refine this.fld fun h0=>there_loc hd hj ?_
  have:=this.loc;omega
 refine ⟨?_,hf⟩
 have hgn:=gp.n
 have hgl:=gp.locs
 have hgi:=gp.init
 have hsum:=sumLen_le (c:=6) (compT T).thr gp.code
 have hs:sizeBad (compT T)=false:=by
  unfold sizeBad sumL
  rw [beq_false_of_ne (by omega),decide_eq_false (p:=((compT T).thr.length:Int) > 4) (by omega),decide_eq_false (p:=((compT T).locs.length:Int) > 4) (by omega),decide_eq_false (p:=_ > (24:Int)) (by omega),show (((compT T).init.length:Int) != ((compT T).locs.length:Int))=false by simp [hgl]]
  rfl
 unfold pokB
 rw [if_neg (by rw [hs];simp),if_neg (by rw [show (compT T).locs=locsF (thereT T) 26 from rfl,locs_ok];simp),Bool.not_eq_true',List.any_eq_false]
 intro c hcm
 have hj:jmpB c=true:=(gp.skip c hcm).jmp fun i hi h6=>by
  obtain ⟨d,hd,rfl⟩:=List.mem_map.1 hcm
  obtain ⟨j,hj,rfl⟩:=List.mem_map.1 hi
  obtain ⟨k,hk,ht⟩:=hc d hd
  rw [compI_kn.1] at h6
  rw [compI_kn.2]
  exact (ht.all j hj).skip h6
 have hcl:=gp.code c hcm
 unfold thrBad
 rw [hj,decide_eq_false (by omega),show (c.any fun i=>!fldB (hasB (compT T)) i)=false by
  rw [List.any_eq_false];intro i hi;rw [hf c hcm i hi];simp]
 simp
section
variable {E:Env}
theorem OfO_R (hE:q76_In E) {h:AHeap} {x:Cell} {l:List Int} (hx:SlAt h x 1 (intC .i64 l) l.length) (hlow:Low h.length x) (hl:l.length<9223372036854775808) {most:Nat} (hmost:most≤900) :
  ∃(cs:List Cell) (h':AHeap) (P:PProg),R E 76 [.c x,.c (.int .i64 (most:Int))] h=some ([.agg cs],h')∧ProgOwn h.length h' cs P∧GoodP most P∧RunP P∧(∀x∈P.locs,0≤x∧x<256)∧Kp h.length h h':=by
 obtain ⟨cs,h1,T,s1,s2,s3,s4⟩:=Small_R hE.c97 hx hlow hl hmost
 obtain ⟨cs2,h2,t1,t2,t3⟩:=refCompile_S hE.c101 s2 s3.small
 refine ⟨cs2,h2,compT T,R_intro hE.fn ?_,by obtain ⟨m,a,b,y,e1,e2,e3⟩:=t2;exact ⟨m,a,b,y,e1,Nat.le_trans s4.1 e2,e3⟩,s3.goodP,s3.run,fun x hx=>by have:=locsT_u8 (T:=T) hx;omega,s4.trans (t3.mono s4.1)⟩
 rw [q76_eq,s1,c1_ok,asA_ok,t1,c1_ok,asA_ok,if_pos ⟨rfl,rfl,t2.at.len⟩,if_pos ⟨rfl,t2.at.len⟩]
theorem OfP_R (hE:q76_In E) {h:AHeap} {x:Cell} {l:List Int} (hx:SlAt h x 1 (intC .i64 l) l.length) (hlow:Low h.length x) (hl:l.length<9223372036854775808) {most:Nat} (hmost:most≤900) :
  ∃(cs:List Cell) (h':AHeap) (P:PProg),R E 76 [.c x,.c (.int .i64 (most:Int))] h=some ([.agg cs],h')∧ProgAt h' cs P∧GoodP most P∧RunP P∧(∀x∈P.locs,0≤x∧x<256)∧Kp h.length h h':=by
 obtain ⟨cs,h',P,r1,r2,r3⟩:=OfO_R hE hx hlow hl hmost
 exact ⟨cs,h',P,r1,r2.at,r3⟩
end
end Jq

namespace Jq
open Go
theorem take_keep {n:Nat} {h h':AHeap} (hk:Kp n h h'):h'.take n=h.take n:=by
 refine List.ext_getElem? fun j=>?_
 rw [List.getElem?_take,List.getElem?_take]
 split
 ·exact hk.2 j (by assumption)
 ·rfl
theorem VmAt.keep {n:Nat} {h h':AHeap} {k:Nat} {x:Cell} {pc:List Cell} {V:MV} (a:VmAt n h k x pc V) (hk:Kp h.length h h'):VmAt n h' k x pc V :=
 ⟨Nat.le_trans a.hn hk.1,a.nk,by rw [take_keep (hk.mono a.hn)];exact a.prog,by rw [hk.blk (blk_lt' a.blk)];exact a.blk,a.st.keepK hk,a.sep⟩
theorem VmAt.other {n:Nat} {h h':AHeap} {k:Nat} {x:Cell} {pc:List Cell} {V:MV} (a:VmAt n h k x pc V) (hl:h.length≤h'.length) (hn:Kp n h h') (hk:blk? h' k=blk? h k) (hx:∀j,isBlk x j→blk? h' j=blk? h j):VmAt n h' k x pc V:=by
 refine ⟨Nat.le_trans a.hn hl,a.nk,by rw [take_keep hn];exact a.prog,by rw [hk];exact a.blk,⟨a.st.1,a.st.2.imp id ?_⟩,a.sep⟩
 rintro ⟨j,rfl,h1,h2⟩
 exact ⟨j,rfl,h1,by rw [hx j rfl];exact h2⟩
theorem GoodP.inv {most:Nat} {P:PProg} (g:GoodP most P) (r:RunP P) {m:Int} (hm:1≤m∧m≤3):(MV.new P m).Inv :=
 MV.new_inv hm g.small r.fld (by have:=g.locs;have:=g.init;omega) (by have:=g.init;omega) (fun c hc=>by have:=g.code c hc;omega)
theorem bits_may {V:MV} {j i:Nat} (h:(bitsL V.word)[j]? = some i):V.may i=true:=by
 have:=(mem_bitsL.1 (List.mem_of_getElem? h)).2
 rwa [MV.word_bit] at this
section
variable {E:Env}
theorem ptr_nil {α:Type} {k:Nat} {f:Bool→Option α}:eqNilK false (.ptr k 329 0) .nilp f=f false:=rfl
theorem choose {V:MV} {y:Cell} {n:Nat} {h:AHeap} (o:Own n h y 1 (natC (bitsL V.word)) (bitsL V.word).length) {v:Int} (h0:0≤v) (h1:v<(bitsL V.word).length) :
  ∃i:Nat,V.may i=true∧∀{α:Type} (f:Cell→Option α),(idxSK 1 y v fun k N o=>rdH h k N fun l=>atK l o f)=f (.int .i64 (i:Int)):=by
 obtain ⟨q,rfl⟩:=Int.eq_ofNat_of_zero_le h0
 have hq:q<(bitsL V.word).length:=by omega
 have hg:=List.getElem?_eq_getElem hq
 exact ⟨(bitsL V.word)[q],bits_may hg,fun f=>o.at.get1 hq (natC_get hg)⟩
end
end Jq

namespace Jq
open Go
def MV.cnt (V:MV) (q:Nat):Int :=
 if V.m=2∧4≤q∧q<8 then ((V.b (q - 4)).length:Int)
 else if V.m=3∧8≤q∧q<24 then ((V.b ((q - 8) / 4)).countP (oldP 3 (((q - 8) % 4:Nat):Int)):Int) else 0
theorem MV.cnt2 {V:MV} (hm:V.m=2) (q:Nat):V.cnt q=if 4≤q∧q<8 then ((V.b (q - 4)).length:Int) else 0:=by
 unfold MV.cnt
 by_cases h:4≤q∧q<8
 ·rw [if_pos ⟨hm,h⟩,if_pos h]
 ·rw [if_neg (fun c=>h c.2),if_neg (fun c=>by omega),if_neg h]
theorem MV.cnt3 {V:MV} (hm:V.m=3) (q:Nat):V.cnt q=if 8≤q∧q<24 then ((V.b ((q - 8) / 4)).countP (oldP 3 (((q - 8) % 4:Nat):Int)):Int) else 0:=by
 unfold MV.cnt
 rw [if_neg (fun c=>by omega)]
 by_cases h:8≤q∧q<24
 ·rw [if_pos ⟨hm,h⟩,if_pos h]
 ·rw [if_neg (fun c=>h c.2),if_neg h]
def cntC (V:MV):List Cell:=(List.range 24).map fun q=>.int .i64 (V.cnt q)
theorem MV.may_cnt (V:MV) {k:Nat} (h4:4≤k) (h24:k<24):V.may k=decide (V.cnt k > 0):=by
 unfold MV.may MV.cnt
 rw [if_neg (by omega)]
 by_cases h8:k<8
 ·rw [if_pos h8]
  unfold MV.mayF
  by_cases hm:V.m=2
  ·rw [if_pos ⟨hm,h4,h8⟩,hm]
   cases V.b (k - 4) with
   | nil=>rfl
   | cons e l=>rw [decide_eq_true (by rw [List.length_cons];omega)];rfl
  ·rw [if_neg (fun q=>hm q.1),if_neg (show ¬(V.m=3∧8≤k∧k<24) by omega),beq_false_of_ne hm];rfl
 ·rw [if_neg h8,if_pos h24,if_neg (by omega)]
  unfold MV.mayL
  by_cases hm:V.m=3
  ·rw [if_pos ⟨hm,by omega,h24⟩,hm,Bool.eq_iff_iff,decide_eq_true_eq]
   have:((3:Int)==3)=true:=rfl
   rw [this,Bool.true_and,List.find?_isSome]
   constructor
   ·rintro ⟨e,he,hp⟩
    have:=List.countP_pos_iff.2 ⟨e,he,hp⟩
    omega
   ·intro hp
    obtain ⟨e,he,hp⟩:=List.countP_pos_iff.1 (show 0<(V.b ((k - 8) / 4)).countP (oldP 3 (((k - 8) % 4:Nat):Int)) by omega)
    exact ⟨e,he,hp⟩
  ·rw [if_neg (fun q=>hm q.1),beq_false_of_ne hm];rfl
def qOf (m:Int) (s:Stp):Nat:=if m=3 then 8+(4*s.t.toNat+s.loc.toNat) else 4+s.t.toNat
theorem evOf_kinds (i:Ins) (l:Lcl) (v:Int):1≤(evOf i l v).kind∧(evOf i l v).kind≤5:=by
 unfold evOf
 split
 ·exact ⟨by dsimp only;omega,by dsimp only;omega⟩
 ·split
  ·exact ⟨by dsimp only;omega,by dsimp only;omega⟩
  ·split
   ·split<;>exact ⟨by dsimp only;omega,by dsimp only;omega⟩
   ·exact ⟨by dsimp only;omega,by dsimp only;omega⟩
theorem MV.nx_b (V:MV) (i t:Nat):(V.nx i).b t=(if i<4 then V.thrM i (V.thrI i) else if i<8 then V.fluM (i - 4) 0 else V.fluM ((i - 8) / 4) (((i - 8) % 4:Nat):Int)).b t:=rfl
theorem countP_erase {l:List Ent} {p q:Ent→Bool} {e:Ent} (hf:l.find? p=some e):((l.eraseP p).countP q:Int)=(l.countP q:Int) - if q e=true then 1 else 0:=by
 induction l with
 | nil=>cases hf
 | cons a l ih =>
  rw [List.find?_cons] at hf
  cases hp:p a with
  | true =>
   rw [hp] at hf
   cases hf
   rw [List.eraseP_cons_of_pos hp,List.countP_cons]
   split<;>omega
  | false =>
   rw [hp] at hf
   rw [List.eraseP_cons_of_neg (by rw [hp];simp),List.countP_cons,List.countP_cons]
   have:=ih hf
   split<;>omega
theorem new_b (P:PProg) (m:Int) (t:Nat):(MV.new P m).b t=[]:=by
 unfold MV.b MV.new
 match t with
 | 0=>rfl
 | 1=>rfl
 | 2=>rfl
 | 3=>rfl
 | t+4=>rfl
section
variable {E:Env}
end
end Jq

namespace Jq
open Go
theorem stepI_le {code:List Ins} (hs:SkipOk code) {l l':Lcl} (h:stepI code l=some l'):l'.pc≤code.length:=by
 obtain ⟨h0,h1,_⟩:=stepI_pc h
 unfold stepI at h
 rw [if_pos h0] at h
 cases hi:code[l.pc.toNat]? with
 | none=>rw [hi] at h;cases h
 | some i =>
  rw [hi] at h
  dsimp only at h
  by_cases h5:i.kind=5
  ·rw [if_pos h5] at h
   cases h
   show (Lcl.setR _ _ _).pc+1≤_
   rw [Lcl.setR_pc];omega
  ·rw [if_neg h5] at h
   by_cases h6:i.kind=6
   ·rw [if_pos h6] at h
    have:=hs _ _ hi h6
    split at h
    ·cases h
     show l.pc+min (max i.n 0) code.length+1≤_
     omega
    ·cases h
     show l.pc+1≤_
     omega
   ·rw [if_neg h6] at h;cases h
theorem nrm_le {code:List Ins} (hs:SkipOk code):∀(k:Nat) (l:Lcl),l.pc≤code.length→(nrm code k l).pc≤code.length
 | 0,l,h=>h
 | k+1,l,h=>by
  rw [nrm]
  cases hl:stepI code l with
  | none=>exact h
  | some l'=>exact nrm_le hs k l' (stepI_le hs hl)
theorem afterL_le {code:List Ins} (hs:SkipOk code) {l:Lcl} {i:Ins} (hn:nextI code l=some i) (v:Int):(afterL code l v).pc≤code.length∧stepI code (afterL code l v)=none:=by
 have hk:=nextI_kind hn
 unfold afterL
 rw [hn]
 refine ⟨nrm_le hs _ _ ?_,normL_done _ _⟩
 show l.pc+1≤_
 omega
section
variable {E:Env}
end
end Jq

namespace Jq
open Go
def sumM (l:List (List Ins)):Int:=((l.map fun c=>min c.length 100).sum:Nat)
def jmpAt (len:Nat) (k:Nat) (i:Ins):Bool:=i.kind==6&&(decide (i.n<1)||decide (i.n > (len:Int) - k - 1))
section
variable {E:Env}
end
end Jq

namespace Jq
open Go
section
variable {E:Env}
end
end Jq

namespace Jq
open Go
end Jq

namespace Jq
open Go
def shOpd:Sh:=.agg (.cons (.i .i64) (.cons (.i .i64) .nil))
def shIns:Sh:=.agg (.cons (.i .i64) (.cons (.i .i64) (.cons (.i .i64) (.cons shOpd (.cons (.i .i64) (.cons shOpd (.cons (.i .i64) .nil)))))))
def shAtm:Sh:=.agg (.cons (.i .i64) (.cons (.i .i64) (.cons (.i .i64) (.cons (.i .i64) .nil))))
def shCond:Sh:=.agg (.cons (.i .i64) (.cons (.sl (.sl shAtm)) .nil))
def shTest:Sh:=.agg (.cons .s (.cons (.sl shPair) (.cons (.sl (.sl shIns)) (.cons shCond .nil))))
def shLcl:Sh:=.agg (.cons (.i .i64) (.cons (.agg (Sh.rep (.i .i64) 4)) .nil))
def fewB (T:PTest):Bool:=!(((decide ((T.thr.length:Int) > 6)||decide ((T.inits.length:Int) > 40))||decide ((T.name.size:Int) > 60))||decide ((T.any.length:Int) > 12))&&!(T.thr.any fun c=>decide ((c.length:Int) > 30))&&!(T.any.any fun c=>decide ((c.length:Int) > 12))
section
variable {E:Env}
end
end Jq

namespace Jq
open Go
section
variable {E:Env}
end
end Jq

namespace Jq
open Go
theorem SlAt.cells1 {h:AHeap} {x:Cell} {cs:List Cell} {len:Nat} (s:SlAt h x 1 cs len):slCells h 1 x=some cs:=by
 have hl:=s.1
 rcases s.2 with ⟨rfl,rfl⟩ | ⟨k,N,off,rfl,hb⟩
 ·have:cs=[]:=List.length_eq_zero_iff.1 (by omega)
  rw [this];rfl
 ·unfold slCells
  dsimp only
  by_cases h0:len=0
  ·have:cs=[]:=List.length_eq_zero_iff.1 (by omega)
   rw [if_pos h0,this]
  ·rw [if_neg h0]
   rcases hb with hb | ⟨b,hb,hN,hle,hat⟩
   ·exact absurd hb h0
   ·rw [hb]
    simp only
    rw [if_pos ⟨hN,hle⟩]
    congr 1
    refine List.ext_getElem? fun j=>?_
    rw [List.getElem?_take,List.getElem?_drop]
    by_cases hj:j<len*1
    ·rw [if_pos hj,hat j hj]
    ·rw [if_neg hj,List.getElem?_eq_none (by omega)]
section
variable {E:Env}
end
end Jq

namespace Jq
open Go
def MV.sumB (V:MV):Int:=(V.b 0).length+(V.b 1).length+(V.b 2).length+(V.b 3).length
def MV.sumP (V:MV):Int:=(V.l 0).pc+(V.l 1).pc+(V.l 2).pc+(V.l 3).pc
def isSt (m:Int) (s:Stp):Bool:=s.kind==2&&m != 1
def isFl (s:Stp):Bool:=s.kind==6
def MV.skips (V:MV):Prop:=∀c∈V.P.thr,SkipOk c
structure MV.Inv2 (V:MV):Prop where
 le:∀t,t<4→(V.l t).pc≤(V.P.code t).length
 ms:(V.st.length:Int)+V.sumB≤2*V.sumP
 m1:V.m=1→∀t,V.b t=[]
 bal:(V.st.countP (isSt V.m):Int)=V.st.countP isFl+V.sumB
theorem sum4 {f g:Nat→Int} {i:Nat} {d:Int} (hi:i<4) (h:∀t,g t=if t=i then f i+d else f t):g 0+g 1+g 2+g 3=f 0+f 1+f 2+f 3+d:=by
 match i with
 | 0=>have h0:=h 0;have h1:=h 1;have h2:=h 2;have h3:=h 3;simp at h0 h1 h2 h3;omega
 | 1=>have h0:=h 0;have h1:=h 1;have h2:=h 2;have h3:=h 3;simp at h0 h1 h2 h3;omega
 | 2=>have h0:=h 0;have h1:=h 1;have h2:=h 2;have h3:=h 3;simp at h0 h1 h2 h3;omega
 | 3=>have h0:=h 0;have h1:=h 1;have h2:=h 2;have h3:=h 3;simp at h0 h1 h2 h3;omega
 | i+4=>omega
theorem code_skip {P:PProg} (h:∀c∈P.thr,SkipOk c) (t:Int):SkipOk (P.code t):=by
 unfold PProg.code
 split
 ·rw [List.getD_eq_getElem?_getD]
  cases hq:P.thr[t.toNat]? with
  | none=>intro j i hi;simp at hi
  | some c=>exact h c (List.mem_of_getElem? hq)
 ·intro j i hi;simp at hi
theorem startL_le {P:PProg} (h:∀c∈P.thr,SkipOk c) (t:Int):(startL P t).pc≤(P.code t).length:=by
 unfold startL normL
 exact nrm_le (code_skip h t) _ _ (by show (0:Int)≤_;omega)
theorem sum_codes {P:PProg} (h4:P.thr.length≤4):((P.code 0).length:Int)+(P.code 1).length+(P.code 2).length+(P.code 3).length=sumL P.thr:=by
 have hc:∀t:Nat,P.code (t:Int)=P.thr.getD t []:=fun t=>by unfold PProg.code;rw [if_pos (by omega),Int.toNat_natCast]
 have e0:=hc 0;have e1:=hc 1;have e2:=hc 2;have e3:=hc 3
 rw [show ((0:Nat):Int)=0 from rfl] at e0
 rw [show ((1:Nat):Int)=1 from rfl] at e1
 rw [show ((2:Nat):Int)=2 from rfl] at e2
 rw [show ((3:Nat):Int)=3 from rfl] at e3
 rw [e0,e1,e2,e3]
 unfold sumL
 generalize P.thr=l at *
 match l with
 | []=>rfl
 | [a]=>simp
 | [a,b]=>simp
 | [a,b,c]=>simp<;>omega
 | [a,b,c,d]=>simp<;>omega
 | a :: b :: c :: d :: e :: r=>simp at h4
theorem MV.Inv2.most {V:MV} (w:V.Inv2) (h4:V.P.thr.length≤4):(V.st.length:Int)≤2*sumL V.P.thr:=by
 have:=w.ms
 have h:=sum_codes h4
 have l0:=w.le 0 (by omega);have l1:=w.le 1 (by omega);have l2:=w.le 2 (by omega);have l3:=w.le 3 (by omega)
 rw [show ((0:Nat):Int)=0 from rfl] at l0
 rw [show ((1:Nat):Int)=1 from rfl] at l1
 rw [show ((2:Nat):Int)=2 from rfl] at l2
 rw [show ((3:Nat):Int)=3 from rfl] at l3
 unfold MV.sumB MV.sumP at this
 omega
theorem MV.new_inv2 {P:PProg} {m:Int} (hs:∀c∈P.thr,SkipOk c):(MV.new P m).Inv2:=by
 have hb:(MV.new P m).sumB=0:=by unfold MV.sumB;simp only [new_b];rfl
 refine ⟨fun t ht=>?_,?_,fun _ t=>new_b P m t,?_⟩
 ·match t with
  | 0=>exact startL_le hs 0
  | 1=>exact startL_le hs 1
  | 2=>exact startL_le hs 2
  | 3=>exact startL_le hs 3
  | t+4=>omega
 ·rw [hb]
  have h0:0≤((MV.new P m).l 0).pc:=startL_pc P 0
  have h1:0≤((MV.new P m).l 1).pc:=startL_pc P 1
  have h2:0≤((MV.new P m).l 2).pc:=startL_pc P 2
  have h3:0≤((MV.new P m).l 3).pc:=startL_pc P 3
  show ((0:Nat):Int)+0≤2*MV.sumP _
  unfold MV.sumP
  omega
 ·rw [hb];rfl
theorem MV.nx_l (V:MV) (i t:Nat):(V.nx i).l t=(if i<4 then V.thrM i (V.thrI i) else if i<8 then V.fluM (i - 4) 0 else V.fluM ((i - 8) / 4) (((i - 8) % 4:Nat):Int)).l t:=rfl
theorem MV.may_flu {V:MV} {i:Nat} (h4:¬i<4) (hi:V.may i=true):∃(t:Nat) (loc:Int) (e:Ent),t<4∧(V.b t).find? (oldP (bmod V.m) loc)=some e∧V.stp i=⟨i,t,6,e.loc,0,e.val,e.id⟩∧(V.m≠1) ∧
  (V.nx i)={ V with bf:=V.bf.set t ((V.b t).eraseP (oldP (bmod V.m) loc)),mem:=V.mem.set e.loc.toNat e.val,frm:=V.frm.set e.loc.toNat e.id,st:=V.st++[V.stp i] }:=by
 have h24:=MV.may_lt hi
 have key:∀(t:Nat) (loc:Int) (e:Ent),(V.b t).find? (oldP (bmod V.m) loc)=some e→V.stp i={ V.fluS t loc with pick:=i }→V.nx i={ V.fluM t loc with st:=V.st++[V.stp i] } →
   V.stp i=⟨i,t,6,e.loc,0,e.val,e.id⟩∧(V.nx i)={ V with bf:=V.bf.set t ((V.b t).eraseP (oldP (bmod V.m) loc)),mem:=V.mem.set e.loc.toNat e.val,frm:=V.frm.set e.loc.toNat e.id,st:=V.st++[V.stp i] }:=by
  intro t loc e he e1 e2
  have hee:V.fluE t loc=e:=by unfold MV.fluE;rw [he];rfl
  refine ⟨?_,?_⟩
  ·rw [e1];unfold MV.fluS;rw [hee]
  ·rw [e2];unfold MV.fluM;rw [hee]
 by_cases h8:i<8
 ·have hi':=hi
  unfold MV.may MV.mayF at hi'
  rw [if_neg h4,if_pos h8,Bool.and_eq_true] at hi'
  have hm2:V.m=2:=beq_iff_eq.1 hi'.1
  have hne:(V.b (i - 4)).length≠0:=by simpa using hi'.2
  obtain ⟨e,he⟩:∃e,(V.b (i - 4)).find? (oldP (bmod V.m) 0)=some e:=by
   rw [hm2]
   cases hbb:V.b (i - 4) with
   | nil=>rw [hbb] at hne;exact absurd rfl hne
   | cons e l=>exact ⟨e,rfl⟩
  obtain ⟨k1,k2⟩:=key (i - 4) 0 e he (by unfold MV.stp;rw [if_neg h4,if_pos h8]) (by unfold MV.nx;rw [if_neg h4,if_pos h8])
  exact ⟨i - 4,0,e,by omega,he,k1,by omega,k2⟩
 ·have hi':=hi
  unfold MV.may MV.mayL at hi'
  rw [if_neg h4,if_neg h8,if_pos h24,Bool.and_eq_true] at hi'
  have hm3:V.m=3:=beq_iff_eq.1 hi'.1
  obtain ⟨e,he⟩:=Option.isSome_iff_exists.1 hi'.2
  have he':(V.b ((i - 8) / 4)).find? (oldP (bmod V.m) (((i - 8) % 4:Nat):Int))=some e:=by rw [hm3];exact he
  obtain ⟨k1,k2⟩:=key ((i - 8) / 4) _ e he' (by unfold MV.stp;rw [if_neg h4,if_neg h8]) (by unfold MV.nx;rw [if_neg h4,if_neg h8])
  exact ⟨(i - 8) / 4,_,e,by omega,he',k1,by omega,k2⟩
theorem MV.Inv.inv2_nx {V:MV} (v:V.Inv) (w:V.Inv2) (hs:V.skips) {i:Nat} (hi:V.may i=true):(V.nx i).Inv2:=by
 have hmm:(V.nx i).m=V.m:=(V.nx_P i).2
 have hPP:(V.nx i).P=V.P:=(V.nx_P i).1
 have hst:(V.nx i).st=V.st++[V.stp i]:=V.nx_st i
 by_cases h4:i<4
 ·have hq:=MV.may_thr h4 hi
  have hl:∀t,(V.nx i).l t=if t=i then afterL (V.P.code i) (V.l i) (V.val i (V.thrI i)).1 else V.l t:=fun t=>by rw [V.nx_l,if_pos h4,v.thrL h4]
  have hb:∀t,(V.nx i).b t=if t=i∧isSt V.m (V.stp i)=true then V.b i++[⟨(V.stp i).loc,(V.stp i).w,V.st.length⟩] else V.b t:=fun t=>by
   have e:V.stp i={ V.thrS i (V.thrI i) with pick:=i }:=by unfold MV.stp;rw [if_pos h4]
   rw [V.nx_b,if_pos h4,v.thrB h4,e]
   have hiff:isSt V.m { V.thrS i (V.thrI i) with pick:=i }=true↔((evOf (V.thrI i) (V.l i) (V.val i (V.thrI i)).1).kind=2∧V.m≠1):=by
    unfold isSt
    rw [Bool.and_eq_true,beq_iff_eq,bne_iff_ne]
    exact Iff.rfl
   by_cases hc:t=i∧(evOf (V.thrI i) (V.l i) (V.val i (V.thrI i)).1).kind=2∧V.m≠1
   ·rw [if_pos hc,if_pos ⟨hc.1,hiff.2 hc.2⟩];rfl
   ·rw [if_neg hc,if_neg (fun q=>hc ⟨q.1,hiff.1 q.2⟩)]
  have hk:isFl (V.stp i)=false:=by
   have:(V.stp i).kind=(evOf (V.thrI i) (V.l i) (V.val i (V.thrI i)).1).kind:=by unfold MV.stp;rw [if_pos h4];rfl
   have:=evOf_kinds (V.thrI i) (V.l i) (V.val i (V.thrI i)).1
   unfold isFl
   exact beq_false_of_ne (by omega)
  obtain ⟨a1,_⟩:=afterL_le (code_skip hs i) hq (V.val i (V.thrI i)).1
  have a2:(V.l i).pc+1≤(afterL (V.P.code i) (V.l i) (V.val i (V.thrI i)).1).pc:=afterL_pc hq _
  have sP:(V.nx i).sumP=V.sumP+((afterL (V.P.code i) (V.l i) (V.val i (V.thrI i)).1).pc - (V.l i).pc):=by
   unfold MV.sumP
   exact sum4 (f:=fun t=>(V.l t).pc) (g:=fun t=>((V.nx i).l t).pc) h4 fun t=>by
    try dsimp only
    rw [hl]
    by_cases e:t=i
    ·rw [if_pos e,if_pos e];omega
    ·rw [if_neg e,if_neg e]
  have sB:(V.nx i).sumB=V.sumB+(if isSt V.m (V.stp i)=true then 1 else 0):=by
   unfold MV.sumB
   exact sum4 (f:=fun t=>((V.b t).length:Int)) (g:=fun t=>(((V.nx i).b t).length:Int)) h4 fun t=>by
    try dsimp only
    rw [hb]
    by_cases e:t=i
    ·by_cases hs:isSt V.m (V.stp i)=true
     ·rw [if_pos ⟨e,hs⟩,if_pos e,if_pos hs,List.length_append,List.length_singleton];omega
     ·rw [if_neg (fun c=>hs c.2),if_pos e,if_neg hs,e];omega
    ·rw [if_neg (fun c=>e c.1),if_neg e]
  refine ⟨fun t ht=>?_,?_,fun hm t=>?_,?_⟩
  ·rw [hl,hPP]
   split
   ·rename_i e;rw [e];exact a1
   ·exact w.le t ht
  ·have:=w.ms
   rw [hst,sP,sB,List.length_append,List.length_singleton]
   split<;>omega
  ·rw [hmm] at hm
   have hns:¬(t=i∧isSt V.m (V.stp i)=true):=fun c=>by
    have:=c.2
    rw [hm] at this
    simp [isSt] at this
   rw [hb,if_neg hns]
   exact w.m1 hm t
  ·have:=w.bal
   rw [hst,sB,hmm,List.countP_append,List.countP_append,List.countP_singleton,List.countP_singleton,hk,if_neg (c:=(false=true)) (by simp)]
   split<;>omega
 ·obtain ⟨t,loc,e,ht,hf,hs',hm1,hnx⟩:=MV.may_flu h4 hi
  have hl:∀t,(V.nx i).l t=V.l t:=fun t=>by rw [hnx];rfl
  have hb:∀t',(V.nx i).b t'=if t'=t then (V.b t).eraseP (oldP (bmod V.m) loc) else V.b t':=fun t'=>by
   rw [hnx]
   show (V.bf.set t _).getD t' []=_
   rw [getDset (by rw [v.fit.bf];exact ht)];rfl
  have hlen:=countP_erase (q:=fun _=>true) hf
  simp only [List.countP_true,if_true] at hlen
  have sP:(V.nx i).sumP=V.sumP:=by unfold MV.sumP;rw [hl,hl,hl,hl]
  have sB:(V.nx i).sumB=V.sumB+(-1):=by
   unfold MV.sumB
   exact sum4 (f:=fun t=>((V.b t).length:Int)) (g:=fun t=>(((V.nx i).b t).length:Int)) ht fun t'=>by
    try dsimp only
    rw [hb]
    by_cases e:t'=t
    ·rw [if_pos e,if_pos e];omega
    ·rw [if_neg e,if_neg e]
  refine ⟨fun t ht=>by rw [hl,hPP];exact w.le t ht,?_,fun hm=>absurd (hmm.symm.trans hm) hm1,?_⟩
  ·have:=w.ms
   rw [hst,sP,sB,List.length_append,List.length_singleton];omega
  ·have:=w.bal
   rw [hst,sB,hmm,List.countP_append,List.countP_append,List.countP_singleton,List.countP_singleton,hs',if_neg (by unfold isSt;simp),if_pos (by unfold isFl;simp)]
   omega
theorem MV.skips_nx {V:MV} (h:V.skips) (i:Nat):(V.nx i).skips:=by
 unfold MV.skips;rw [(V.nx_P i).1];exact h
theorem MV.Inv.done {V:MV} (v:V.Inv) (w:V.Inv2) (h0:V.word=0):V.sumB=0:=by
 have hno:∀i,V.may i=false:=fun i=>by rw [←MV.word_bit,h0,Nat.zero_testBit]
 have hb:∀t,t<4→V.b t=[]:=fun t ht=>by
  have hm:=v.fit.m
  rcases (show V.m=1∨V.m=2∨V.m=3 by omega) with h1 | h2 | h3
  ·exact w.m1 h1 t
  ·have:=hno (4+t)
   rw [MV.may_cnt V (by omega) (by omega),MV.cnt2 h2,if_pos ⟨by omega,by omega⟩,show 4+t - 4=t by omega,decide_eq_false_iff_not] at this
   exact List.length_eq_zero_iff.1 (by omega)
  ·cases hbb:V.b t with
   | nil=>rfl
   | cons e l =>
    exfalso
    have he:=v.mem_b (t:=t) (e:=e) (by rw [hbb];exact List.mem_cons_self)
    have:=hno (8+(4*t+e.loc.toNat))
    rw [MV.may_cnt V (by omega) (by omega),MV.cnt3 h3,if_pos ⟨by omega,by omega⟩,show (8+(4*t+e.loc.toNat) - 8) / 4=t by omega,show (8+(4*t+e.loc.toNat) - 8) % 4=e.loc.toNat by omega,decide_eq_false_iff_not,hbb,List.countP_cons,if_pos (show oldP 3 ((e.loc.toNat:Nat):Int) e=true by unfold oldP;simp;omega)] at this
    omega
 unfold MV.sumB
 rw [hb 0 (by omega),hb 1 (by omega),hb 2 (by omega),hb 3 (by omega)];rfl
end Jq

