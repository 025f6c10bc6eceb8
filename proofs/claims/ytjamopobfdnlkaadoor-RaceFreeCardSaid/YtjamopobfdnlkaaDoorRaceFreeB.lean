/- YtjamopobfdnlkaaDoorRaceFreeB: a part of the proof; no conditions of its own. -/
import Derived.KernelRfl
import Derived.Test.YtjamopobfdnlkaaDoorRaceFreeA
set_option linter.unusedVariables false
set_option linter.unusedSimpArgs false

namespace Jq
open Go
variable (C:CallF) (L:LoopF) (G:Glo)
def q255_k2 (C:CallF) (L:LoopF) (G:Glo) (h0:AHeap):Ex→St→Option (List AV × AHeap):=kSeq (fun st=>q255_p1.exec C L G st (q255.fin G h0)) (q255.fin G h0)
def q255_k3 (C:CallF) (L:LoopF) (G:Glo) (h0:AHeap):Ex→St→Option (List AV × AHeap):=kBlk 0 (q255_k2 C L G h0)
def q255_s2 (x0:Cell) (a1:Int) (x18:Cell) (a19 a20:Int) (s0 s1:List Cell) (h:AHeap):St:=⟨.v (.c x0) :: .v (.c (.int .i64 a1)) :: tops 2 (.loc 0 0 :: .loc 1 0 :: tops 12 (.v (.c x18) :: .v (.c (.int .i64 a19)) :: .v (.c (.int .i64 a20)) :: tops 80 [])),[some s0,some s1,none,none],h⟩
def q255_F2 (C:CallF) (L:LoopF) (G:Glo):St→Option (Ex × St):=roundF (fun st f=>q255_b2.exec C L G st f) [0,1,4,5,18,19,20] [0,1] [(1,[4,5],[0,1])]
def q255_k4 (C:CallF) (L:LoopF) (G:Glo):Ex→St→Option (Ex × St):=kSeq (fun st=>q255_p2.exec C L G st (kLoop [0,1,4,5,18,19,20] [0,1] [(1,[4,5],[0,1])])) (kLoop [0,1,4,5,18,19,20] [0,1] [(1,[4,5],[0,1])])
def q255_k5 (C:CallF) (L:LoopF) (G:Glo):Ex→St→Option (Ex × St):=kBlk 1 (q255_k4 C L G)
def q255_k6 (C:CallF) (L:LoopF) (G:Glo):Ex→St→Option (Ex × St):=kSeq (fun st=>q255_p3.exec C L G st (q255_k5 C L G)) (q255_k5 C L G)
def q255_k7 (C:CallF) (L:LoopF) (G:Glo):Ex→St→Option (Ex × St):=kBlk 2 (q255_k6 C L G)
def q255_s1 (x0:Cell) (a1 a6 a8:Int) (x18:Cell) (a19 a20:Int) (s0 s1 s2:List Cell) (h:AHeap):St:=⟨.v (.c x0) :: .v (.c (.int .i64 a1)) :: tops 2 (.loc 0 0 :: .loc 1 0 :: .v (.c (.int .i64 a6)) :: .loc 2 0 :: .v (.c (.int .i64 a8)) :: tops 9 (.v (.c x18) :: .v (.c (.int .i64 a19)) :: .v (.c (.int .i64 a20)) :: tops 80 [])),[some s0,some s1,some s2,none],h⟩
def q255_F1 (C:CallF) (L:LoopF) (G:Glo):St→Option (Ex × St):=roundF (fun st f=>q255_b1.exec C L G st f) [0,1,4,5,6,7,8,18,19,20] [0,1,2] [(3,[0,1,4,5,6,7,18,19,20],[0,1,2])]
def q255_x1_3 (x0:Cell) (a1 a6:Int) (x18:Cell) (a19 a20:Int) (s0 s1 s2:List Cell) (h:AHeap):St:=⟨.v (.c x0) :: .v (.c (.int .i64 a1)) :: tops 2 (.loc 0 0 :: .loc 1 0 :: .v (.c (.int .i64 a6)) :: .loc 2 0 :: tops 10 (.v (.c x18) :: .v (.c (.int .i64 a19)) :: .v (.c (.int .i64 a20)) :: tops 80 [])),[some s0,some s1,some s2,none],h⟩
def q255_x2_1 (s0 s1:List Cell) (h:AHeap):St:=⟨tops 4 (.loc 0 0 :: .loc 1 0 :: tops 95 []),[some s0,some s1,none,none],h⟩
theorem q255_r1 (x0:Cell) (a1 a6 a8:Int) (x18:Cell) (a19 a20:Int) (s0 s1 s2:List Cell) (h:AHeap):q255_F1 C L G (q255_s1 x0 a1 a6 a8 x18 a19 a20 s0 s1 s2 h)=lenK x0 fun n_14=>if (decide (a8<n_14))=true then idxSK 7 x0 a8 fun k_15 N_16 o_17=>rdH h k_15 N_16 fun l_18=>if o_17+7≤l_18.length then if 0=0∧(List.replicate 7 (Cell.int .i64 0)).length=7∧((l_18.drop o_17).take 7).length=7 then if 0=0∧s2.length=7 then c1 (C 257 [(.agg s2),(.c (.int .i64 a1))] h) fun y_20 h_19=>asB y_20 fun b_21=>scK b_21 true (if 0=0∧((l_18.drop o_17).take 7).length=7 then c1 (C 257 [(.agg ((l_18.drop o_17).take 7)),(.c (.int .i64 a1))] h_19) fun y_23 h_22=>asB y_23 fun b_24=>some (b_24,h_22) else none) false h_19 fun b_25 h_26=>scK b_25 true (atK s2 3 fun q_27=>asI .i64 (.c q_27) fun n_28=>atK ((l_18.drop o_17).take 7) 3 fun q_29=>asI .i64 (.c q_29) fun n_30=>some ((n_28==n_30),h_26)) false h_26 fun b_31 h_32=>atK s2 0 fun q_33=>asI .i64 (.c q_33) fun n_34=>atK ((l_18.drop o_17).take 7) 0 fun q_35=>asI .i64 (.c q_35) fun n_36=>scK (n_34==n_36) false (some (b_31,h_32)) true h_32 fun b_37 h_38=>scK b_37 false (atK ((l_18.drop o_17).take 7) 2 fun q_39=>asI .i64 (.c q_39) fun n_40=>scK (n_40==6) true (atK ((l_18.drop o_17).take 7) 6 fun q_41=>asI .i64 (.c q_41) fun n_42=>some ((n_42==a6),h_38)) false h_38 fun b_43 h_44=>some (b_43,h_44)) true h_38 fun b_45 h_46=>scK b_45 false (atK s2 2 fun q_47=>asI .i64 (.c q_47) fun n_48=>scK (n_48==6) true (atK s2 1 fun q_49=>asI .i64 (.c q_49) fun n_50=>atK ((l_18.drop o_17).take 7) 1 fun q_51=>asI .i64 (.c q_51) fun n_52=>some ((n_50==n_52),h_46)) false h_46 fun b_53 h_54=>scK b_53 true (if 0=0∧((l_18.drop o_17).take 7).length=7 then c1 (C 265 [(.agg ((l_18.drop o_17).take 7))] h_54) fun y_56 h_55=>asB y_56 fun b_57=>some (b_57,h_55) else none) false h_54 fun b_58 h_59=>some (b_58,h_59)) true h_46 fun b_60 h_61=>if b_60=true then if 0=0∧s1.length=65 then c1 (C 10 [(.agg s1),(.c (.int .i64 a6)),(.c (.int .i64 a8))] h_61) fun y_63 h_62=>asA y_63 fun l_64=>if 0=0∧s1.length=65∧l_64.length=65 then some (.normal,(q255_s1 x0 a1 a6 (G.wrap .i64 (a8+1)) x18 a19 a20 s0 l_64 s2 h_62)) else none else none else some (.normal,(q255_s1 x0 a1 a6 (G.wrap .i64 (a8+1)) x18 a19 a20 s0 s1 s2 h_61)) else none else none else none else some ((.exit 2),(q255_x1_3 x0 a1 a6 x18 a19 a20 s0 s1 s2 h)):=by kernel_rfl
theorem q255_e1_3 (x0:Cell) (a1 a6:Int) (x18:Cell) (a19 a20:Int) (s0 s1 s2:List Cell) (h:AHeap):(q255_k7 C L G) (.exit 2) (q255_x1_3 x0 a1 a6 x18 a19 a20 s0 s1 s2 h)=if 0=0∧s2.length=7 then c1 (C 266 [(.agg s2)] h) fun y_66 h_65=>asB y_66 fun b_67=>if b_67=true then if 0=0∧s1.length=65 then c1 (C 267 [(.agg s1),(.c x0),(.c (.int .i64 a1)),(.c (.int .i64 a6))] h_65) fun y_69 h_68=>asA y_69 fun l_70=>if 0=0∧s1.length=65∧l_70.length=65 then some (.normal,(q255_s2 x0 a1 x18 a19 (G.wrap .i64 (a20+1)) s0 l_70 h_68)) else none else none else some (.normal,(q255_s2 x0 a1 x18 a19 (G.wrap .i64 (a20+1)) s0 s1 h_65)) else none:=by kernel_rfl
theorem q255_r2 (x0:Cell) (a1:Int) (x18:Cell) (a19 a20:Int) (s0 s1:List Cell) (h:AHeap):q255_F2 C L G (q255_s2 x0 a1 x18 a19 a20 s0 s1 h)=if (decide (a20<a19))=true then idxSK 7 x18 a20 fun k_10 N_11 o_12=>rdH h k_10 N_11 fun l_13=>if o_12+7≤l_13.length then if 0=0∧(List.replicate 7 (Cell.int .i64 0)).length=7∧((l_13.drop o_12).take 7).length=7 then (L (q255_F1 C L G) (q255_s1 x0 a1 a20 (G.wrap .i64 (a20+1)) x18 a19 a20 s0 s1 ((l_13.drop o_12).take 7) h)).bind fun p_71=>(q255_k7 C L G) p_71.1 p_71.2 else none else none else some ((.exit 0),(q255_x2_1 s0 s1 h)):=by kernel_rfl
theorem q255_e2_1 (h0:AHeap) (s0 s1:List Cell) (h:AHeap):(q255_k3 C L G h0) (.exit 0) (q255_x2_1 s0 s1 h)=if 0=0∧s1.length=65 then c1 (C 12 [(.agg s1)] h) fun y_73 h_72=>asA y_73 fun l_74=>if 0=0∧s0.length=65∧l_74.length=65 then if 0=0∧l_74.length=65 then some ([(.agg l_74)],h_72) else none else none else none:=by kernel_rfl
set_option maxRecDepth 100000 in
theorem q255_eq (x0:Cell) (a1:Int) (h0:AHeap):q255.body C L G [(.c x0),(.c (.int .i64 a1))] h0=lenK x0 fun n_1=>if (decide (n_1 > 64))=true then c1 (C 9 [(.c (.int .i64 0))] h0) fun y_3 h_2=>asA y_3 fun l_4=>if 0=0∧([Cell.int .i64 0]++List.replicate 64 (Cell.int .u64 0)).length=65∧l_4.length=65 then if 0=0∧l_4.length=65 then some ([(.agg l_4)],h_2) else none else none else lenK x0 fun n_5=>c1 (C 9 [(.c (.int .i64 n_5))] h0) fun y_7 h_6=>asA y_7 fun l_8=>if 0=0∧([Cell.int .i64 0]++List.replicate 64 (Cell.int .u64 0)).length=65∧l_8.length=65 then lenK x0 fun n_9=>(L (q255_F2 C L G) (q255_s2 x0 a1 x0 n_9 0 ([Cell.int .i64 0]++List.replicate 64 (Cell.int .u64 0)) l_8 h_6)).bind fun p_75=>(q255_k3 C L G h0) p_75.1 p_75.2 else none:=by kernel_rfl
set_option maxRecDepth 100000 in
theorem q257_eq (l0:List Cell) (a1:Int) (h0:AHeap):q257.body C L G [(.agg l0),(.c (.int .i64 a1))] h0=atK l0 2 fun q_1=>asI .i64 (.c q_1) fun n_2=>scK (n_2==6) false (atK l0 2 fun q_3=>asI .i64 (.c q_3) fun n_4=>some ((n_4==4),h0)) true h0 fun b_5 h_6=>scK b_5 false (scK (a1==1) true (atK l0 2 fun q_7=>asI .i64 (.c q_7) fun n_8=>some ((n_8==2),h_6)) false h_6 fun b_9 h_10=>some (b_9,h_10)) true h_6 fun b_11 h_12=>some ([(.c (.bool b_11))],h_12):=by kernel_rfl
set_option maxRecDepth 100000 in
theorem q265_eq (l0:List Cell) (h0:AHeap):q265.body C L G [(.agg l0)] h0=atK l0 2 fun q_1=>asI .i64 (.c q_1) fun n_2=>scK (n_2==3) false (atK l0 2 fun q_3=>asI .i64 (.c q_3) fun n_4=>some ((n_4==4),h0)) true h0 fun b_5 h_6=>scK b_5 false (atK l0 2 fun q_7=>asI .i64 (.c q_7) fun n_8=>some ((n_8==5),h_6)) true h_6 fun b_9 h_10=>some ([(.c (.bool b_9))],h_10):=by kernel_rfl
set_option maxRecDepth 100000 in
theorem q266_eq (l0:List Cell) (h0:AHeap):q266.body C L G [(.agg l0)] h0=atK l0 2 fun q_1=>asI .i64 (.c q_1) fun n_2=>scK (n_2==1) false (atK l0 2 fun q_3=>asI .i64 (.c q_3) fun n_4=>some ((n_4==4),h0)) true h0 fun b_5 h_6=>scK b_5 false (atK l0 2 fun q_7=>asI .i64 (.c q_7) fun n_8=>some ((n_8==5),h_6)) true h_6 fun b_9 h_10=>some ([(.c (.bool b_9))],h_10):=by kernel_rfl
def q267_k2 (C:CallF) (L:LoopF) (G:Glo) (h0:AHeap):Ex→St→Option (List AV × AHeap):=kSeq (fun st=>q267_p1.exec C L G st (q267.fin G h0)) (q267.fin G h0)
def q267_c1_0 (s1:List Cell) (h:AHeap):St:=⟨tops 8 (.loc 1 0 :: tops 72 []),[none,some s1,none],h⟩
def q267_c1 (x1:Cell) (a2 a3 a10:Int) (s0 s1 s2:List Cell) (h:AHeap):St:=⟨tops 1 (.v (.c x1) :: .v (.c (.int .i64 a2)) :: .v (.c (.int .i64 a3)) :: .loc 0 0 :: tops 3 (.loc 1 0 :: .loc 2 0 :: .v (.c (.int .i64 a10)) :: tops 70 [])),[some s0,some s1,some s2],h⟩
def q267_k3 (C:CallF) (L:LoopF) (G:Glo) (h0:AHeap):Ex→St→Option (List AV × AHeap):=kSeq (fun st=>q267_p2.exec C L G st (q267.fin G h0)) (q267.fin G h0)
def q267_k4 (C:CallF) (L:LoopF) (G:Glo) (h0:AHeap):Ex→St→Option (List AV × AHeap):=kBlk 0 (q267_k3 C L G h0)
def q267_s1 (x1:Cell) (a2 a3 a11:Int) (s0 s1 s2:List Cell) (h:AHeap):St:=⟨tops 1 (.v (.c x1) :: .v (.c (.int .i64 a2)) :: .v (.c (.int .i64 a3)) :: .loc 0 0 :: tops 3 (.loc 1 0 :: .loc 2 0 :: tops 1 (.v (.c (.int .i64 a11)) :: tops 69 []))),[some s0,some s1,some s2],h⟩
def q267_F1 (C:CallF) (L:LoopF) (G:Glo):St→Option (Ex × St):=roundF (fun st f=>q267_b1.exec C L G st f) [1,2,3,4,8,9,11] [0,1,2] [(1,[4,8],[0,1])]
def q267_x1_1 (s0 s1:List Cell) (h:AHeap):St:=⟨tops 4 (.loc 0 0 :: tops 3 (.loc 1 0 :: tops 72 [])),[some s0,some s1,none],h⟩
theorem q267_r1 (x1:Cell) (a2 a3 a11:Int) (s0 s1 s2:List Cell) (h:AHeap):q267_F1 C L G (q267_s1 x1 a2 a3 a11 s0 s1 s2 h)=lenK x1 fun n_30=>if (decide (a11<n_30))=true then scK (a11 != a3) true (idxSK 7 x1 a11 fun k_31 N_32 o_33=>rdH h k_31 N_32 fun l_34=>if o_33+7≤l_34.length then c1 (qh h (C 257 [(.agg ((l_34.drop o_33).take 7)),(.c (.int .i64 a2))] h)) fun y_36 h_35=>asB y_36 fun b_37=>some (b_37,h) else none) false h fun b_38 h_39=>scK b_38 true (idxSK 7 x1 a11 fun k_40 N_41 o_42=>rdH h_39 k_40 N_41 fun l_43=>atK l_43 (o_42+3) fun q_44=>asI .i64 (.c q_44) fun n_45=>atK s2 3 fun q_46=>asI .i64 (.c q_46) fun n_47=>some ((n_45==n_47),h_39)) false h_39 fun b_48 h_49=>if b_48=true then if 0=0∧s0.length=65 then c1 (C 10 [(.agg s0),(.c (.int .i64 a3)),(.c (.int .i64 a11))] h_49) fun y_51 h_50=>asA y_51 fun l_52=>if 0=0∧s0.length=65∧l_52.length=65 then some (.normal,(q267_s1 x1 a2 a3 (G.wrap .i64 (a11+1)) l_52 s1 s2 h_50)) else none else none else some (.normal,(q267_s1 x1 a2 a3 (G.wrap .i64 (a11+1)) s0 s1 s2 h_49)) else some ((.exit 0),(q267_x1_1 s0 s1 h)):=by kernel_rfl
theorem q267_e1_1 (h0:AHeap) (s0 s1:List Cell) (h:AHeap):(q267_k4 C L G h0) (.exit 0) (q267_x1_1 s0 s1 h)=if 0=0∧s0.length=65 then if 0=0∧s1.length=65∧s0.length=65 then if 0=0∧s0.length=65 then some ([(.agg s0)],h) else none else none else none:=by kernel_rfl
theorem q267_ec1_n (h0:AHeap) (x1:Cell) (a2 a3 a10:Int) (s0 s1 s2:List Cell) (h:AHeap):(q267_k2 C L G h0) .normal (q267_c1 x1 a2 a3 a10 s0 s1 s2 h)=(L (q267_F1 C L G) (q267_s1 x1 a2 a3 (G.wrap .i64 (a10+1)) s0 s1 s2 h)).bind fun p_53=>(q267_k4 C L G h0) p_53.1 p_53.2:=by kernel_rfl
theorem q267_ec1_0 (h0:AHeap) (s1:List Cell) (h:AHeap):(q267_k2 C L G h0) .ret (q267_c1_0 s1 h)=if 0=0∧s1.length=65 then some ([(.agg s1)],h) else none:=by kernel_rfl
set_option maxRecDepth 100000 in
theorem q267_eq (l0:List Cell) (x1:Cell) (a2 a3:Int) (h0:AHeap):q267.body C L G [(.agg l0),(.c x1),(.c (.int .i64 a2)),(.c (.int .i64 a3))] h0=idxSK 7 x1 a3 fun k_1 N_2 o_3=>rdH h0 k_1 N_2 fun l_4=>if o_3+7≤l_4.length then if 0=0∧(List.replicate 7 (Cell.int .i64 0)).length=7∧((l_4.drop o_3).take 7).length=7 then (atK ((l_4.drop o_3).take 7) 6 fun q_5=>asI .i64 (.c q_5) fun n_6=>scK (decide (n_6≥0)) true (atK ((l_4.drop o_3).take 7) 6 fun q_7=>asI .i64 (.c q_7) fun n_8=>lenK x1 fun n_9=>some ((decide (n_8<n_9)),h0)) false h0 fun b_10 h_11=>if b_10=true then atK ((l_4.drop o_3).take 7) 6 fun q_12=>asI .i64 (.c q_12) fun n_13=>c1 (C 273 [(.c x1),(.c (.int .i64 a2)),(.c (.int .i64 n_13))] h_11) fun y_15 h_14=>asI .i64 y_15 fun n_16=>if (decide (n_16<0))=true then if 0=0∧l0.length=65 then if 0=0∧([Cell.int .i64 0]++List.replicate 64 (Cell.int .u64 0)).length=65∧l0.length=65 then some (.ret,(q267_c1_0 l0 h_14)) else none else none else atK ((l_4.drop o_3).take 7) 6 fun q_17=>asI .i64 (.c q_17) fun n_18=>idxSK 7 x1 n_18 fun k_19 N_20 o_21=>rdH h_14 k_19 N_20 fun l_22=>atK l_22 (o_21+1) fun q_23=>asI .i64 (.c q_23) fun n_24=>atK ((l_4.drop o_3).take 7) 1 fun q_25=>asI .i64 (.c q_25) fun n_26=>if (n_24 != n_26)=true then if 0=0∧l0.length=65 then c1 (C 10 [(.agg l0),(.c (.int .i64 n_16)),(.c (.int .i64 a3))] h_14) fun y_28 h_27=>asA y_28 fun l_29=>if 0=0∧l0.length=65∧l_29.length=65 then some (.normal,(q267_c1 x1 a2 a3 n_16 l_29 ([Cell.int .i64 0]++List.replicate 64 (Cell.int .u64 0)) ((l_4.drop o_3).take 7) h_27)) else none else none else some (.normal,(q267_c1 x1 a2 a3 n_16 l0 ([Cell.int .i64 0]++List.replicate 64 (Cell.int .u64 0)) ((l_4.drop o_3).take 7) h_14)) else some (.normal,(q267_c1 x1 a2 a3 (-1) l0 ([Cell.int .i64 0]++List.replicate 64 (Cell.int .u64 0)) ((l_4.drop o_3).take 7) h_11)):Option (Ex × St)).bind fun p_54=>(q267_k2 C L G h0) p_54.1 p_54.2 else none else none:=by kernel_rfl
set_option maxRecDepth 100000 in
theorem q273_eq (x0:Cell) (a1 a2:Int) (h0:AHeap):q273.body C L G [(.c x0),(.c (.int .i64 a1)),(.c (.int .i64 a2))] h0=rdH (h0++[some (Blk.mk true 0 (AV.cells (.c (.int .i64 a2))))]) h0.length ((AV.cells (.c (.int .i64 a2))).length) fun l_1=>atK l_1 0 fun q_2=>asI .i64 (.c q_2) fun n_3=>idxSK 7 x0 n_3 fun k_4 N_5 o_6=>rdH (h0++[some (Blk.mk true 0 (AV.cells (.c (.int .i64 a2))))]) k_4 N_5 fun l_7=>if o_6+7≤l_7.length then c1 (C 257 [(.agg ((l_7.drop o_6).take 7)),(.c (.int .i64 a1))] (h0++[some (Blk.mk true 0 (AV.cells (.c (.int .i64 a2))))])) fun y_9 h_8=>asB y_9 fun b_10=>if b_10=true then rdH h_8 h0.length ((AV.cells (.c (.int .i64 a2))).length) fun l_11=>atK l_11 0 fun q_12=>asI .i64 (.c q_12) fun n_13=>finish true h0 [(.c (.int .i64 n_13))] h_8 else c1 (C 283 [(.c x0),(.c (.fn 282 [(h0.length,(AV.cells (.c (.int .i64 a2))).length,0)]))] h_8) fun y_15 h_14=>asI .i64 y_15 fun n_16=>finish true h0 [(.c (.int .i64 n_16))] h_14 else none:=by kernel_rfl
set_option maxRecDepth 100000 in
theorem q282_eq (l0:List Cell) (k1 N1 o1:Nat) (h0:AHeap):q282.body C L G [(.agg l0),(.c (.ptr k1 N1 o1))] h0=atK l0 2 fun q_1=>asI .i64 (.c q_1) fun n_2=>scK (n_2==6) true (atK l0 6 fun q_3=>asI .i64 (.c q_3) fun n_4=>rdH h0 k1 N1 fun l_5=>atK l_5 o1 fun q_6=>asI .i64 (.c q_6) fun n_7=>some ((n_4==n_7),h0)) false h0 fun b_8 h_9=>some ([(.c (.bool b_8))],h_9):=by kernel_rfl
end Jq

namespace Jq
open Go
variable (C:CallF) (L:LoopF) (G:Glo)
def q180_k2 (C:CallF) (L:LoopF) (G:Glo) (h0:AHeap):Ex→St→Option (List AV × AHeap):=kSeq (fun st=>q180_p1.exec C L G st (q180.fin G h0)) (q180.fin G h0)
def q180_k3 (C:CallF) (L:LoopF) (G:Glo) (h0:AHeap):Ex→St→Option (List AV × AHeap):=kBlk 0 (q180_k2 C L G h0)
def q180_s1 (k5 N5 o5:Nat) (a6:Int) (s0:List Cell) (h:AHeap):St:=⟨tops 2 (.loc 0 0 :: tops 2 (.v (.c (.ptr k5 N5 o5)) :: .v (.c (.int .i64 a6)) :: tops 39 [])),[some s0],h⟩
def q180_F1 (C:CallF) (L:LoopF) (G:Glo):St→Option (Ex × St):=roundF (fun st f=>q180_b1.exec C L G st f) [2,5,6] [0] [(1,[2,5],[0])]
def q180_x1_1 (k5 N5 o5:Nat) (s0:List Cell) (h:AHeap):St:=⟨tops 2 (.loc 0 0 :: tops 2 (.v (.c (.ptr k5 N5 o5)) :: tops 40 [])),[some s0],h⟩
def q180_k4 (C:CallF) (L:LoopF) (G:Glo) (h0:AHeap):Ex→St→Option (List AV × AHeap):=kSeq (fun st=>q180_p2.exec C L G st (q180.fin G h0)) (q180.fin G h0)
def q180_k5 (C:CallF) (L:LoopF) (G:Glo) (h0:AHeap):Ex→St→Option (List AV × AHeap):=kBlk 2 (q180_k4 C L G h0)
def q180_s2 (k5 N5 o5:Nat) (a7:Int) (s0:List Cell) (h:AHeap):St:=⟨tops 2 (.loc 0 0 :: tops 2 (.v (.c (.ptr k5 N5 o5)) :: tops 1 (.v (.c (.int .i64 a7)) :: tops 38 []))),[some s0],h⟩
def q180_F2 (C:CallF) (L:LoopF) (G:Glo):St→Option (Ex × St):=roundF (fun st f=>q180_b2.exec C L G st f) [2,5,7] [0] [(3,[5],[])]
def q180_x2_3 (k5 N5 o5:Nat) (h:AHeap):St:=⟨tops 5 (.v (.c (.ptr k5 N5 o5)) :: tops 40 []),[none],h⟩
theorem q180_r1 (k5 N5 o5:Nat) (a6:Int) (s0:List Cell) (h:AHeap):q180_F1 C L G (q180_s1 k5 N5 o5 a6 s0 h)=atK s0 1 fun q_1=>lenK q_1 fun n_2=>if (decide (a6<n_2))=true then atK s0 1 fun q_3=>idxSK 1 q_3 a6 fun k_4 N_5 o_6=>rdH h k_4 N_5 fun l_7=>atK l_7 o_6 fun q_8=>asI .i64 (.c q_8) fun n_9=>if 0≤a6∧a6<((4:Nat):Int) then rdH h k5 N5 fun l_10=>if ((o5+4)+((Int.toNat a6)*1))<l_10.length then putH h k5 (l_10.set ((o5+4)+((Int.toNat a6)*1)) (.int .i64 n_9)) fun h_11=>some (.normal,(q180_s1 k5 N5 o5 (G.wrap .i64 (a6+1)) s0 h_11)) else none else none else some ((.exit 0),(q180_x1_1 k5 N5 o5 s0 h)):=by kernel_rfl
theorem q180_r2 (k5 N5 o5:Nat) (a7:Int) (s0:List Cell) (h:AHeap):q180_F2 C L G (q180_s2 k5 N5 o5 a7 s0 h)=atK s0 2 fun q_12=>lenK q_12 fun n_13=>if (decide (a7<n_13))=true then if 0=0∧s0.length=3 then c1 (qh h (C 104 [(.agg s0),(.c (.int .i64 a7))] h)) fun y_15 h_14=>asA y_15 fun l_16=>if 0≤a7∧a7<((4:Nat):Int) then rdH h k5 N5 fun l_17=>if ((o5+12)+((Int.toNat a7)*5))+5≤l_17.length∧l_16.length=5 then putH h k5 (splice l_17 ((o5+12)+((Int.toNat a7)*5)) l_16) fun h_18=>some (.normal,(q180_s2 k5 N5 o5 (G.wrap .i64 (a7+1)) s0 h_18)) else none else none else none else some ((.exit 2),(q180_x2_3 k5 N5 o5 h)):=by kernel_rfl
theorem q180_e2_3 (h0:AHeap) (k5 N5 o5:Nat) (h:AHeap):(q180_k5 C L G h0) (.exit 2) (q180_x2_3 k5 N5 o5 h)=some ([(.c (.ptr k5 N5 o5))],h):=by kernel_rfl
theorem q180_e1_1 (h0:AHeap) (k5 N5 o5:Nat) (s0:List Cell) (h:AHeap):(q180_k3 C L G h0) (.exit 0) (q180_x1_1 k5 N5 o5 s0 h)=(L (q180_F2 C L G) (q180_s2 k5 N5 o5 0 s0 h)).bind fun p_19=>(q180_k5 C L G h0) p_19.1 p_19.2:=by kernel_rfl
set_option maxRecDepth 100000 in
theorem q180_eq (l0:List Cell) (a1:Int) (h0:AHeap):q180.body C L G [(.agg l0),(.c (.int .i64 a1))] h0=if 0=0∧l0.length=3 then if l0.length=3∧0+3≤([Cell.nils,Cell.nils,Cell.nils]++List.replicate 29 (Cell.int .i64 0)++List.replicate 5 (Cell.nils)).length then if ([(.int .i64 a1)]:List Cell).length=1∧3+1≤(splice ([Cell.nils,Cell.nils,Cell.nils]++List.replicate 29 (Cell.int .i64 0)++List.replicate 5 (Cell.nils)) 0 l0).length then if (splice (splice (splice (splice [Cell.int .i64 0,Cell.int .i64 0,Cell.int .i64 0,Cell.int .i64 0] 0 ([(.int .i64 (-1))]:List Cell)) 1 ([(.int .i64 (-1))]:List Cell)) 2 ([(.int .i64 (-1))]:List Cell)) 3 ([(.int .i64 (-1))]:List Cell)).length=4∧8+4≤(splice (splice ([Cell.nils,Cell.nils,Cell.nils]++List.replicate 29 (Cell.int .i64 0)++List.replicate 5 (Cell.nils)) 0 l0) 3 ([(.int .i64 a1)]:List Cell)).length then (L (q180_F1 C L G) (q180_s1 h0.length ((AV.cells (.agg (splice (splice (splice ([Cell.nils,Cell.nils,Cell.nils]++List.replicate 29 (Cell.int .i64 0)++List.replicate 5 (Cell.nils)) 0 l0) 3 ([(.int .i64 a1)]:List Cell)) 8 (splice (splice (splice (splice [Cell.int .i64 0,Cell.int .i64 0,Cell.int .i64 0,Cell.int .i64 0] 0 ([(.int .i64 (-1))]:List Cell)) 1 ([(.int .i64 (-1))]:List Cell)) 2 ([(.int .i64 (-1))]:List Cell)) 3 ([(.int .i64 (-1))]:List Cell))))).length) 0 0 l0 (h0++[some (Blk.mk true 0 (AV.cells (.agg (splice (splice (splice ([Cell.nils,Cell.nils,Cell.nils]++List.replicate 29 (Cell.int .i64 0)++List.replicate 5 (Cell.nils)) 0 l0) 3 ([(.int .i64 a1)]:List Cell)) 8 (splice (splice (splice (splice [Cell.int .i64 0,Cell.int .i64 0,Cell.int .i64 0,Cell.int .i64 0] 0 ([(.int .i64 (-1))]:List Cell)) 1 ([(.int .i64 (-1))]:List Cell)) 2 ([(.int .i64 (-1))]:List Cell)) 3 ([(.int .i64 (-1))]:List Cell))))))]))).bind fun p_20=>(q180_k3 C L G h0) p_20.1 p_20.2 else none else none else none else none:=by kernel_rfl
def q181_k2 (C:CallF) (L:LoopF) (G:Glo) (h0:AHeap):Ex→St→Option (List AV × AHeap):=kSeq (fun st=>q181_p1.exec C L G st (q181.fin G h0)) (q181.fin G h0)
def q181_k3 (C:CallF) (L:LoopF) (G:Glo) (h0:AHeap):Ex→St→Option (List AV × AHeap):=kBlk 0 (q181_k2 C L G h0)
def q181_s1 (k0 N0 o0:Nat) (x3:Cell) (a4:Int) (h:AHeap):St:=⟨.v (.c (.ptr k0 N0 o0)) :: tops 2 (.v (.c x3) :: .v (.c (.int .i64 a4)) :: tops 12 []),[],h⟩
def q181_F1 (C:CallF) (L:LoopF) (G:Glo):St→Option (Ex × St):=roundF (fun st f=>q181_b1.exec C L G st f) [0,3,4] [] [(1,[3],[])]
def q181_x1_1 (x3:Cell) (h:AHeap):St:=⟨tops 3 (.v (.c x3) :: tops 13 []),[],h⟩
theorem q181_r1 (k0 N0 o0:Nat) (x3:Cell) (a4:Int) (h:AHeap):q181_F1 C L G (q181_s1 k0 N0 o0 x3 a4 h)=if (decide (a4<24))=true then c1 (C 196 [(.c (.ptr k0 N0 o0)),(.c (.int .i64 a4))] h) fun y_2 h_1=>asB y_2 fun b_3=>if b_3=true then if (splice [Cell.int .i64 0] 0 ([(.int .i64 a4)]:List Cell)).length=1*1 then appK 1 8 x3 (splice [Cell.int .i64 0] 0 ([(.int .i64 a4)]:List Cell)) h_1 fun x_4 h_5=>some (.normal,(q181_s1 k0 N0 o0 x_4 (G.wrap .i64 (a4+1)) h_5)) else none else some (.normal,(q181_s1 k0 N0 o0 x3 (G.wrap .i64 (a4+1)) h_1)) else some ((.exit 0),(q181_x1_1 x3 h)):=by kernel_rfl
theorem q181_e1_1 (h0:AHeap) (x3:Cell) (h:AHeap):(q181_k3 C L G h0) (.exit 0) (q181_x1_1 x3 h)=some ([(.c x3)],h):=by kernel_rfl
set_option maxRecDepth 100000 in
theorem q181_eq (k0 N0 o0:Nat) (h0:AHeap):q181.body C L G [(.c (.ptr k0 N0 o0))] h0=(L (q181_F1 C L G) (q181_s1 k0 N0 o0 .nils 0 h0)).bind fun p_6=>(q181_k3 C L G h0) p_6.1 p_6.2:=by kernel_rfl
def q182_k2 (C:CallF) (L:LoopF) (G:Glo) (h0:AHeap):Ex→St→Option (List AV × AHeap):=kSeq (fun st=>q182_p1.exec C L G st (q182.fin G h0)) (q182.fin G h0)
def q182_c1_0 (b5:Bool) (s0:List Cell) (h:AHeap):St:=⟨tops 4 (.loc 0 0 :: .v (.c (.bool b5)) :: tops 299 []),[some s0,none,none,none,none],h⟩
def q182_c1 (k0 N0 o0:Nat) (a1:Int) (s0:List Cell) (h:AHeap):St:=⟨.v (.c (.ptr k0 N0 o0)) :: .v (.c (.int .i64 a1)) :: tops 2 (.loc 0 0 :: tops 300 []),[some s0,none,none,none,none],h⟩
def q182_k3 (C:CallF) (L:LoopF) (G:Glo) (h0:AHeap):Ex→St→Option (List AV × AHeap):=kSeq (fun st=>q182_p2.exec C L G st (q182.fin G h0)) (q182.fin G h0)
def q182_c2 (k0 N0 o0:Nat) (a1 a6:Int) (s0:List Cell) (h:AHeap):St:=⟨.v (.c (.ptr k0 N0 o0)) :: .v (.c (.int .i64 a1)) :: tops 2 (.loc 0 0 :: tops 1 (.v (.c (.int .i64 a6)) :: tops 298 [])),[some s0,none,none,none,none],h⟩
def q182_k4 (C:CallF) (L:LoopF) (G:Glo) (h0:AHeap):Ex→St→Option (List AV × AHeap):=kSeq (fun st=>q182_p3.exec C L G st (q182.fin G h0)) (q182.fin G h0)
def q182_c3 (k0 N0 o0:Nat) (a1 a6:Int) (s0 s1:List Cell) (h:AHeap):St:=⟨.v (.c (.ptr k0 N0 o0)) :: .v (.c (.int .i64 a1)) :: tops 2 (.loc 0 0 :: tops 1 (.v (.c (.int .i64 a6)) :: .loc 1 0 :: tops 297 [])),[some s0,some s1,none,none,none],h⟩
def q182_k5 (C:CallF) (L:LoopF) (G:Glo) (h0:AHeap):Ex→St→Option (List AV × AHeap):=kSeq (fun st=>q182_p4.exec C L G st (q182.fin G h0)) (q182.fin G h0)
def q182_k6 (C:CallF) (L:LoopF) (G:Glo):Ex→St→Option (Ex × St):=kSeq (fun st=>q182_p5.exec C L G st (kLoop [0,1,4,6,7] [0,1] [(0,[4,5],[0])])) (kLoop [0,1,4,6,7] [0,1] [(0,[4,5],[0])])
def q182_c5 (k0 N0 o0:Nat) (a1 a6:Int) (a8 a9:Int) (b10:Bool) (s0 s1:List Cell) (h:AHeap):St:=⟨.v (.c (.ptr k0 N0 o0)) :: .v (.c (.int .i64 a1)) :: tops 2 (.loc 0 0 :: tops 1 (.v (.c (.int .i64 a6)) :: .loc 1 0 :: .v (.c (.int .i64 a8)) :: .v (.c (.int .i64 a9)) :: .v (.c (.bool b10)) :: tops 294 [])),[some s0,some s1,none,none,none],h⟩
def q182_k7 (C:CallF) (L:LoopF) (G:Glo):Ex→St→Option (Ex × St):=kSeq (fun st=>q182_p6.exec C L G st (kLoop [0,1,4,6,7] [0,1] [(0,[4,5],[0])])) (kLoop [0,1,4,6,7] [0,1] [(0,[4,5],[0])])
def q182_c6 (k0 N0 o0:Nat) (a8 a11:Int) (s0 s1:List Cell) (h:AHeap):St:=⟨.v (.c (.ptr k0 N0 o0)) :: tops 3 (.loc 0 0 :: tops 2 (.loc 1 0 :: .v (.c (.int .i64 a8)) :: tops 2 (.v (.c (.int .i64 a11)) :: tops 293 []))),[some s0,some s1,none,none,none],h⟩
def q182_k8 (C:CallF) (L:LoopF) (G:Glo):Ex→St→Option (Ex × St):=kSeq (fun st=>q182_p7.exec C L G st (kLoop [0,1,4,6,7] [0,1] [(0,[4,5],[0])])) (kLoop [0,1,4,6,7] [0,1] [(0,[4,5],[0])])
def q182_c7 (k0 N0 o0:Nat) (a8 a11:Int) (s0 s1 s2:List Cell) (h:AHeap):St:=⟨.v (.c (.ptr k0 N0 o0)) :: tops 3 (.loc 0 0 :: tops 2 (.loc 1 0 :: .v (.c (.int .i64 a8)) :: tops 2 (.v (.c (.int .i64 a11)) :: .loc 2 0 :: tops 292 []))),[some s0,some s1,some s2,none,none],h⟩
def q182_k9 (C:CallF) (L:LoopF) (G:Glo):Ex→St→Option (Ex × St):=kSeq (fun st=>q182_p8.exec C L G st (kLoop [0,1,4,6,7] [0,1] [(0,[4,5],[0])])) (kLoop [0,1,4,6,7] [0,1] [(0,[4,5],[0])])
def q182_c8 (k0 N0 o0:Nat) (a8:Int) (s0 s1 s2:List Cell) (h:AHeap):St:=⟨.v (.c (.ptr k0 N0 o0)) :: tops 3 (.loc 0 0 :: tops 2 (.loc 1 0 :: .v (.c (.int .i64 a8)) :: tops 3 (.loc 2 0 :: tops 292 []))),[some s0,some s1,some s2,none,none],h⟩
def q182_k10 (C:CallF) (L:LoopF) (G:Glo):Ex→St→Option (Ex × St):=kSeq (fun st=>q182_p9.exec C L G st (kLoop [0,1,4,6,7] [0,1] [(0,[4,5],[0])])) (kLoop [0,1,4,6,7] [0,1] [(0,[4,5],[0])])
def q182_c9 (k0 N0 o0:Nat) (a8:Int) (s0 s1 s2:List Cell) (h:AHeap):St:=⟨.v (.c (.ptr k0 N0 o0)) :: tops 3 (.loc 0 0 :: tops 2 (.loc 1 0 :: .v (.c (.int .i64 a8)) :: tops 3 (.loc 2 0 :: tops 292 []))),[some s0,some s1,some s2,none,none],h⟩
def q182_k11 (C:CallF) (L:LoopF) (G:Glo):Ex→St→Option (Ex × St):=kSeq (fun st=>q182_p10.exec C L G st (kLoop [0,1,4,6,7] [0,1] [(0,[4,5],[0])])) (kLoop [0,1,4,6,7] [0,1] [(0,[4,5],[0])])
def q182_c10 (k0 N0 o0:Nat) (s0 s1:List Cell) (h:AHeap):St:=⟨.v (.c (.ptr k0 N0 o0)) :: tops 3 (.loc 0 0 :: tops 2 (.loc 1 0 :: tops 297 [])),[some s0,some s1,none,none,none],h⟩
def q182_c4_0 (b5:Bool) (s0:List Cell) (h:AHeap):St:=⟨tops 4 (.loc 0 0 :: .v (.c (.bool b5)) :: tops 299 []),[some s0,none,none,none,none],h⟩
def q182_c4 (k0 N0 o0:Nat) (a1 a6:Int) (s0 s1:List Cell) (h:AHeap):St:=⟨.v (.c (.ptr k0 N0 o0)) :: .v (.c (.int .i64 a1)) :: tops 2 (.loc 0 0 :: tops 1 (.v (.c (.int .i64 a6)) :: .loc 1 0 :: tops 297 [])),[some s0,some s1,none,none,none],h⟩
def q182_k12 (C:CallF) (L:LoopF) (G:Glo) (h0:AHeap):Ex→St→Option (List AV × AHeap):=kSeq (fun st=>q182_p11.exec C L G st (q182.fin G h0)) (q182.fin G h0)
def q182_c11 (k0 N0 o0:Nat) (a1 a6:Int) (s0 s1 s3:List Cell) (h:AHeap):St:=⟨.v (.c (.ptr k0 N0 o0)) :: .v (.c (.int .i64 a1)) :: tops 2 (.loc 0 0 :: tops 1 (.v (.c (.int .i64 a6)) :: .loc 1 0 :: tops 5 (.loc 3 0 :: tops 291 []))),[some s0,some s1,none,some s3,none],h⟩
def q182_k13 (C:CallF) (L:LoopF) (G:Glo) (h0:AHeap):Ex→St→Option (List AV × AHeap):=kSeq (fun st=>q182_p12.exec C L G st (q182.fin G h0)) (q182.fin G h0)
def q182_k14 (C:CallF) (L:LoopF) (G:Glo):Ex→St→Option (Ex × St):=kSeq (fun st=>q182_p13.exec C L G st (kLoop [0,1,4,6,7,13,15] [0,1,3] [])) (kLoop [0,1,4,6,7,13,15] [0,1,3] [])
def q182_c13 (k0 N0 o0:Nat) (a1 a6 a15:Int) (b138:Bool) (s0 s1 s3:List Cell) (h:AHeap):St:=⟨.v (.c (.ptr k0 N0 o0)) :: .v (.c (.int .i64 a1)) :: tops 2 (.loc 0 0 :: tops 1 (.v (.c (.int .i64 a6)) :: .loc 1 0 :: tops 5 (.loc 3 0 :: tops 1 (.v (.c (.int .i64 a15)) :: tops 122 (.v (.c (.bool b138)) :: tops 166 []))))),[some s0,some s1,none,some s3,none],h⟩
def q182_k15 (C:CallF) (L:LoopF) (G:Glo):Ex→St→Option (Ex × St):=kSeq (fun st=>q182_p14.exec C L G st (kLoop [0,1,4,6,7,13,15] [0,1,3] [])) (kLoop [0,1,4,6,7,13,15] [0,1,3] [])
def q182_c14 (k0 N0 o0:Nat) (a1 a6 a15:Int) (s0 s1 s3:List Cell) (h:AHeap):St:=⟨.v (.c (.ptr k0 N0 o0)) :: .v (.c (.int .i64 a1)) :: tops 2 (.loc 0 0 :: tops 1 (.v (.c (.int .i64 a6)) :: .loc 1 0 :: tops 5 (.loc 3 0 :: tops 1 (.v (.c (.int .i64 a15)) :: tops 289 [])))),[some s0,some s1,none,some s3,none],h⟩
def q182_k16 (C:CallF) (L:LoopF) (G:Glo):Ex→St→Option (Ex × St):=kBlk 0 (kLoop [0,1,4,6,7,13,15] [0,1,3] [])
def q182_s1 (k0 N0 o0:Nat) (a1 a6:Int) (a15 a16:Int) (s0 s1 s3:List Cell) (h:AHeap):St:=⟨.v (.c (.ptr k0 N0 o0)) :: .v (.c (.int .i64 a1)) :: tops 2 (.loc 0 0 :: tops 1 (.v (.c (.int .i64 a6)) :: .loc 1 0 :: tops 5 (.loc 3 0 :: tops 1 (.v (.c (.int .i64 a15)) :: .v (.c (.int .i64 a16)) :: tops 288 [])))),[some s0,some s1,none,some s3,none],h⟩
def q182_F1 (C:CallF) (L:LoopF) (G:Glo):St→Option (Ex × St):=roundF (fun st f=>q182_b1.exec C L G st f) [0,1,4,6,7,13,15,16] [0,1,3] [(1,[0,1,4,6,7,13,15],[0,1,3])]
def q182_k17 (C:CallF) (L:LoopF) (G:Glo):Ex→St→Option (Ex × St):=kSeq (fun st=>q182_p15.exec C L G st (kLoop [0,1,4,6,7,13,15,16] [0,1,3] [(1,[0,1,4,6,7,13,15],[0,1,3])])) (kLoop [0,1,4,6,7,13,15,16] [0,1,3] [(1,[0,1,4,6,7,13,15],[0,1,3])])
def q182_c15 (k0 N0 o0:Nat) (a1 a6:Int) (a15 a16:Int) (s0 s1 s3:List Cell) (h:AHeap):St:=⟨.v (.c (.ptr k0 N0 o0)) :: .v (.c (.int .i64 a1)) :: tops 2 (.loc 0 0 :: tops 1 (.v (.c (.int .i64 a6)) :: .loc 1 0 :: tops 5 (.loc 3 0 :: tops 1 (.v (.c (.int .i64 a15)) :: .v (.c (.int .i64 a16)) :: tops 288 [])))),[some s0,some s1,none,some s3,none],h⟩
def q182_c15_1 (k0 N0 o0:Nat) (a1 a6 a15:Int) (s0 s1 s3:List Cell) (h:AHeap):St:=⟨.v (.c (.ptr k0 N0 o0)) :: .v (.c (.int .i64 a1)) :: tops 2 (.loc 0 0 :: tops 1 (.v (.c (.int .i64 a6)) :: .loc 1 0 :: tops 5 (.loc 3 0 :: tops 1 (.v (.c (.int .i64 a15)) :: tops 289 [])))),[some s0,some s1,none,some s3,none],h⟩
def q182_k18 (C:CallF) (L:LoopF) (G:Glo):Ex→St→Option (Ex × St):=kSeq (fun st=>q182_p16.exec C L G st (kLoop [0,1,4,6,7,13,15,16] [0,1,3] [(1,[0,1,4,6,7,13,15],[0,1,3])])) (kLoop [0,1,4,6,7,13,15,16] [0,1,3] [(1,[0,1,4,6,7,13,15],[0,1,3])])
def q182_k19 (C:CallF) (L:LoopF) (G:Glo):Ex→St→Option (Ex × St):=kBlk 1 (q182_k18 C L G)
def q182_k20 (C:CallF) (L:LoopF) (G:Glo):Ex→St→Option (Ex × St):=kSeq (fun st=>q182_p17.exec C L G st (q182_k19 C L G)) (q182_k19 C L G)
def q182_c16 (k0 N0 o0:Nat) (a1 a6:Int) (a15 a16:Int) (b177:Bool) (s0 s1 s3:List Cell) (h:AHeap):St:=⟨.v (.c (.ptr k0 N0 o0)) :: .v (.c (.int .i64 a1)) :: tops 2 (.loc 0 0 :: tops 1 (.v (.c (.int .i64 a6)) :: .loc 1 0 :: tops 5 (.loc 3 0 :: tops 1 (.v (.c (.int .i64 a15)) :: .v (.c (.int .i64 a16)) :: tops 160 (.v (.c (.bool b177)) :: tops 127 []))))),[some s0,some s1,none,some s3,none],h⟩
def q182_x1_1 (k0 N0 o0:Nat) (a1 a6 a15:Int) (s0 s1 s3:List Cell) (h:AHeap):St:=⟨.v (.c (.ptr k0 N0 o0)) :: .v (.c (.int .i64 a1)) :: tops 2 (.loc 0 0 :: tops 1 (.v (.c (.int .i64 a6)) :: .loc 1 0 :: tops 5 (.loc 3 0 :: tops 1 (.v (.c (.int .i64 a15)) :: tops 289 [])))),[some s0,some s1,none,some s3,none],h⟩
def q182_c12 (k0 N0 o0:Nat) (a1 a6 a15:Int) (s0 s1 s3:List Cell) (h:AHeap):St:=⟨.v (.c (.ptr k0 N0 o0)) :: .v (.c (.int .i64 a1)) :: tops 2 (.loc 0 0 :: tops 1 (.v (.c (.int .i64 a6)) :: .loc 1 0 :: tops 5 (.loc 3 0 :: tops 1 (.v (.c (.int .i64 a15)) :: tops 289 [])))),[some s0,some s1,none,some s3,none],h⟩
def q182_k21 (C:CallF) (L:LoopF) (G:Glo) (h0:AHeap):Ex→St→Option (List AV × AHeap):=kSeq (fun st=>q182_p18.exec C L G st (q182.fin G h0)) (q182.fin G h0)
def q182_c17 (k0 N0 o0:Nat) (a1 a6 a15:Int) (s0 s1 s4:List Cell) (h:AHeap):St:=⟨.v (.c (.ptr k0 N0 o0)) :: .v (.c (.int .i64 a1)) :: tops 2 (.loc 0 0 :: tops 1 (.v (.c (.int .i64 a6)) :: .loc 1 0 :: tops 7 (.v (.c (.int .i64 a15)) :: tops 1 (.loc 4 0 :: tops 287 [])))),[some s0,some s1,none,none,some s4],h⟩
def q182_k22 (C:CallF) (L:LoopF) (G:Glo) (h0:AHeap):Ex→St→Option (List AV × AHeap):=kSeq (fun st=>q182_p19.exec C L G st (q182.fin G h0)) (q182.fin G h0)
def q182_c18 (k0 N0 o0:Nat) (a1 a6 a15:Int) (s0 s1 s4:List Cell) (h:AHeap):St:=⟨.v (.c (.ptr k0 N0 o0)) :: .v (.c (.int .i64 a1)) :: tops 2 (.loc 0 0 :: tops 1 (.v (.c (.int .i64 a6)) :: .loc 1 0 :: tops 7 (.v (.c (.int .i64 a15)) :: tops 1 (.loc 4 0 :: tops 287 [])))),[some s0,some s1,none,none,some s4],h⟩
def q182_k23 (C:CallF) (L:LoopF) (G:Glo) (h0:AHeap):Ex→St→Option (List AV × AHeap):=kSeq (fun st=>q182_p20.exec C L G st (q182.fin G h0)) (q182.fin G h0)
def q182_k24 (C:CallF) (L:LoopF) (G:Glo):Ex→St→Option (Ex × St):=kBlk 2 (kLoop [0,1,4,7,15] [0,1] [])
def q182_k25 (C:CallF) (L:LoopF) (G:Glo):Ex→St→Option (Ex × St):=kSeq (fun st=>q182_p21.exec C L G st (q182_k24 C L G)) (q182_k24 C L G)
def q182_c20 (k0 N0 o0:Nat) (a1 a6 a15:Int) (b220:Bool) (s0 s1 s4:List Cell) (h:AHeap):St:=⟨.v (.c (.ptr k0 N0 o0)) :: .v (.c (.int .i64 a1)) :: tops 2 (.loc 0 0 :: tops 1 (.v (.c (.int .i64 a6)) :: .loc 1 0 :: tops 7 (.v (.c (.int .i64 a15)) :: tops 1 (.loc 4 0 :: tops 202 (.v (.c (.bool b220)) :: tops 84 []))))),[some s0,some s1,none,none,some s4],h⟩
def q182_c19 (k0 N0 o0:Nat) (a1 a15:Int) (s0 s1:List Cell) (h:AHeap):St:=⟨.v (.c (.ptr k0 N0 o0)) :: .v (.c (.int .i64 a1)) :: tops 2 (.loc 0 0 :: tops 2 (.loc 1 0 :: tops 7 (.v (.c (.int .i64 a15)) :: tops 289 []))),[some s0,some s1,none,none,none],h⟩
def q182_k26 (C:CallF) (L:LoopF) (G:Glo):Ex→St→Option (Ex × St):=kSeq (fun st=>q182_p22.exec C L G st (q182_k24 C L G)) (q182_k24 C L G)
def q182_c21 (k0 N0 o0:Nat) (a1 a6 a15:Int) (b251:Bool) (s0 s1 s4:List Cell) (h:AHeap):St:=⟨.v (.c (.ptr k0 N0 o0)) :: .v (.c (.int .i64 a1)) :: tops 2 (.loc 0 0 :: tops 1 (.v (.c (.int .i64 a6)) :: .loc 1 0 :: tops 7 (.v (.c (.int .i64 a15)) :: tops 1 (.loc 4 0 :: tops 233 (.v (.c (.bool b251)) :: tops 53 []))))),[some s0,some s1,none,none,some s4],h⟩
def q182_k27 (C:CallF) (L:LoopF) (G:Glo) (h0:AHeap):Ex→St→Option (List AV × AHeap):=kSeq (fun st=>q182_p23.exec C L G st (q182.fin G h0)) (q182.fin G h0)
def q182_c22 (k0 N0 o0:Nat) (s0 s1:List Cell) (h:AHeap):St:=⟨.v (.c (.ptr k0 N0 o0)) :: tops 3 (.loc 0 0 :: tops 2 (.loc 1 0 :: tops 297 [])),[some s0,some s1,none,none,none],h⟩
theorem q182_ec10_n (k0 N0 o0:Nat) (s0 s1:List Cell) (h:AHeap):(q182_k11 C L G) .normal (q182_c10 k0 N0 o0 s0 s1 h)=rdH h k0 N0 fun l_55=>atK l_55 (o0+36) fun q_56=>if 0=0∧s1.length=7 then if s1.length=7∧0+7≤(List.replicate 7 (Cell.int .i64 0)).length then if (splice (List.replicate 7 (Cell.int .i64 0)) 0 s1).length=1*7 then appK 7 56 q_56 (splice (List.replicate 7 (Cell.int .i64 0)) 0 s1) h fun x_57 h_58=>rdH h_58 k0 N0 fun l_59=>if (o0+36)<l_59.length then putH h_58 k0 (l_59.set (o0+36) x_57) fun h_60=>if 0=0∧s1.length=7 then if 0=0∧s0.length=7∧s1.length=7 then some (.ret,(q182_c4_0 true s1 h_60)) else none else none else none else none else none else none:=by kernel_rfl
theorem q182_ec9_n (k0 N0 o0:Nat) (a8:Int) (s0 s1 s2:List Cell) (h:AHeap):(q182_k10 C L G) .normal (q182_c9 k0 N0 o0 a8 s0 s1 s2 h)=(atK s2 0 fun q_49=>asI .i64 (.c q_49) fun n_50=>atK s2 1 fun q_51=>asI .i64 (.c q_51) fun n_52=>atK s2 2 fun q_53=>asI .i64 (.c q_53) fun n_54=>if 1<s1.length then if 2<(s1.set 1 (.int .i64 a8)).length then if 3<((s1.set 1 (.int .i64 a8)).set 2 (.int .i64 6)).length then if 5<(((s1.set 1 (.int .i64 a8)).set 2 (.int .i64 6)).set 3 (.int .i64 n_50)).length then if 6<((((s1.set 1 (.int .i64 a8)).set 2 (.int .i64 6)).set 3 (.int .i64 n_50)).set 5 (.int .i64 n_52)).length then some (.normal,(q182_c10 k0 N0 o0 s0 (((((s1.set 1 (.int .i64 a8)).set 2 (.int .i64 6)).set 3 (.int .i64 n_50)).set 5 (.int .i64 n_52)).set 6 (.int .i64 n_54)) h)) else none else none else none else none else none:Option (Ex × St)).bind fun p_61=>(q182_k11 C L G) p_61.1 p_61.2:=by kernel_rfl
theorem q182_ec8_n (k0 N0 o0:Nat) (a8:Int) (s0 s1 s2:List Cell) (h:AHeap):(q182_k9 C L G) .normal (q182_c8 k0 N0 o0 a8 s0 s1 s2 h)=(atK s2 0 fun q_37=>asI .i64 (.c q_37) fun n_38=>atK s2 0 fun q_39=>asI .i64 (.c q_39) fun n_40=>atK s2 1 fun q_41=>asI .i64 (.c q_41) fun n_42=>atK s2 2 fun q_43=>asI .i64 (.c q_43) fun n_44=>if 0≤n_38∧n_38<((4:Nat):Int) then rdH h k0 N0 fun l_45=>if ((o0+4)+((Int.toNat n_38)*1))<l_45.length then putH h k0 (l_45.set ((o0+4)+((Int.toNat n_38)*1)) (.int .i64 n_42)) fun h_46=>if 0≤n_40∧n_40<((4:Nat):Int) then rdH h_46 k0 N0 fun l_47=>if ((o0+8)+((Int.toNat n_40)*1))<l_47.length then putH h_46 k0 (l_47.set ((o0+8)+((Int.toNat n_40)*1)) (.int .i64 n_44)) fun h_48=>some (.normal,(q182_c9 k0 N0 o0 a8 s0 s1 s2 h_48)) else none else none else none else none:Option (Ex × St)).bind fun p_62=>(q182_k10 C L G) p_62.1 p_62.2:=by kernel_rfl
theorem q182_ec7_n (k0 N0 o0:Nat) (a8 a11:Int) (s0 s1 s2:List Cell) (h:AHeap):(q182_k8 C L G) .normal (q182_c7 k0 N0 o0 a8 a11 s0 s1 s2 h)=(if ([]:List Cell).length=0*3 then if 0≤a8∧a8<((4:Nat):Int) then rd0 (h++[some (Blk.mk true 3 ([]:List Cell))]) k0 N0 fun l_23=>atK l_23 ((o0+32)+((Int.toNat a8)*1)) fun q_24=>sliceK (h++[some (Blk.mk true 3 ([]:List Cell))]) 3 false true q_24 [.v (.c (.int .i64 a11))] fun x_25=>(slCells (h++[some (Blk.mk true 3 ([]:List Cell))]) 3 x_25).bind fun l_28=>appK 3 24 (.sl h.length (([]:List Cell).length) 0 0) l_28 (h++[some (Blk.mk true 3 ([]:List Cell))]) fun x_26 h_27=>if 0≤a8∧a8<((4:Nat):Int) then rd0 h_27 k0 N0 fun l_29=>atK l_29 ((o0+32)+((Int.toNat a8)*1)) fun q_30=>sliceK h_27 3 true false q_30 [.v (.c (.int .i64 (G.wrap .i64 (a11+1))))] fun x_31=>(slCells h_27 3 x_31).bind fun l_34=>appK 3 24 x_26 l_34 h_27 fun x_32 h_33=>if 0≤a8∧a8<((4:Nat):Int) then rdH h_33 k0 N0 fun l_35=>if ((o0+32)+((Int.toNat a8)*1))<l_35.length then putH h_33 k0 (l_35.set ((o0+32)+((Int.toNat a8)*1)) x_32) fun h_36=>some (.normal,(q182_c8 k0 N0 o0 a8 s0 s1 s2 h_36)) else none else none else none else none else none:Option (Ex × St)).bind fun p_63=>(q182_k9 C L G) p_63.1 p_63.2:=by kernel_rfl
theorem q182_ec6_n (k0 N0 o0:Nat) (a8 a11:Int) (s0 s1:List Cell) (h:AHeap):(q182_k7 C L G) .normal (q182_c6 k0 N0 o0 a8 a11 s0 s1 h)=(if 0≤a8∧a8<((4:Nat):Int) then rdH h k0 N0 fun l_17=>atK l_17 ((o0+32)+((Int.toNat a8)*1)) fun q_18=>idxSK 3 q_18 a11 fun k_19 N_20 o_21=>rdH h k_19 N_20 fun l_22=>if o_21+3≤l_22.length then if 0=0∧[Cell.int .i64 0,Cell.int .i64 0,Cell.int .i64 0].length=3∧((l_22.drop o_21).take 3).length=3 then some (.normal,(q182_c7 k0 N0 o0 a8 a11 s0 s1 ((l_22.drop o_21).take 3) h)) else none else none else none:Option (Ex × St)).bind fun p_64=>(q182_k8 C L G) p_64.1 p_64.2:=by kernel_rfl
theorem q182_ec5_n (k0 N0 o0:Nat) (a1 a6:Int) (a8 a9:Int) (b10:Bool) (s0 s1:List Cell) (h:AHeap):(q182_k6 C L G) .normal (q182_c5 k0 N0 o0 a1 a6 a8 a9 b10 s0 s1 h)=if b10=true then (c1 (C 198 [(.c (.ptr k0 N0 o0)),(.c (.int .i64 a8)),(.c (.int .i64 a9))] h) fun y_15 h_14=>asI .i64 y_15 fun n_16=>some (.normal,(q182_c6 k0 N0 o0 a8 n_16 s0 s1 h_14)):Option (Ex × St)).bind fun p_65=>(q182_k7 C L G) p_65.1 p_65.2 else some (.normal,(q182_c4 k0 N0 o0 a1 a6 s0 s1 h)):=by kernel_rfl
theorem q182_ec16_n (k0 N0 o0:Nat) (a1 a6:Int) (a15 a16:Int) (b177:Bool) (s0 s1 s3:List Cell) (h:AHeap):(q182_k20 C L G) .normal (q182_c16 k0 N0 o0 a1 a6 a15 a16 b177 s0 s1 s3 h)=if b177=true then if 0≤a1∧a1<((4:Nat):Int) then rdH h k0 N0 fun l_103=>atK l_103 ((o0+32)+((Int.toNat a1)*1)) fun q_104=>idxSK 3 q_104 a16 fun k_105 N_106 o_107=>rdH h k_105 N_106 fun l_108=>atK l_108 (o_107+1) fun q_109=>asI .i64 (.c q_109) fun n_110=>if 0≤a1∧a1<((4:Nat):Int) then rdH h k0 N0 fun l_111=>atK l_111 ((o0+32)+((Int.toNat a1)*1)) fun q_112=>idxSK 3 q_112 a16 fun k_113 N_114 o_115=>rdH h k_113 N_114 fun l_116=>atK l_116 (o_115+2) fun q_117=>asI .i64 (.c q_117) fun n_118=>if 6<s1.length then some (.normal,(q182_s1 k0 N0 o0 a1 a6 n_110 (G.wrap .i64 (a16+1)) s0 (s1.set 6 (.int .i64 n_118)) s3 h)) else none else none else none else some (.normal,(q182_s1 k0 N0 o0 a1 a6 a15 (G.wrap .i64 (a16+1)) s0 s1 s3 h)):=by kernel_rfl
theorem q182_ec15_n (k0 N0 o0:Nat) (a1 a6:Int) (a15 a16:Int) (s0 s1 s3:List Cell) (h:AHeap):(q182_k17 C L G) .normal (q182_c15 k0 N0 o0 a1 a6 a15 a16 s0 s1 s3 h)=(if 0≤a1∧a1<((4:Nat):Int) then rdH h k0 N0 fun l_93=>atK l_93 ((o0+32)+((Int.toNat a1)*1)) fun q_94=>idxSK 3 q_94 a16 fun k_95 N_96 o_97=>rdH h k_95 N_96 fun l_98=>atK l_98 (o_97+0) fun q_99=>asI .i64 (.c q_99) fun n_100=>atK s3 2 fun q_101=>asI .i64 (.c q_101) fun n_102=>some (.normal,(q182_c16 k0 N0 o0 a1 a6 a15 a16 (n_100==n_102) s0 s1 s3 h)) else none:Option (Ex × St)).bind fun p_119=>(q182_k20 C L G) p_119.1 p_119.2:=by kernel_rfl
theorem q182_ec15_1 (k0 N0 o0:Nat) (a1 a6 a15:Int) (s0 s1 s3:List Cell) (h:AHeap):(q182_k17 C L G) (.exit 0) (q182_c15_1 k0 N0 o0 a1 a6 a15 s0 s1 s3 h)=some ((.exit 0),(q182_x1_1 k0 N0 o0 a1 a6 a15 s0 s1 s3 h)):=by kernel_rfl
theorem q182_r1 (k0 N0 o0:Nat) (a1 a6:Int) (a15 a16:Int) (s0 s1 s3:List Cell) (h:AHeap):q182_F1 C L G (q182_s1 k0 N0 o0 a1 a6 a15 a16 s0 s1 s3 h)=(if 0≤a1∧a1<((4:Nat):Int) then rdH h k0 N0 fun l_90=>atK l_90 ((o0+32)+((Int.toNat a1)*1)) fun q_91=>lenK q_91 fun n_92=>if (decide (a16<n_92))=true then some (.normal,(q182_c15 k0 N0 o0 a1 a6 a15 a16 s0 s1 s3 h)) else some ((.exit 0),(q182_c15_1 k0 N0 o0 a1 a6 a15 s0 s1 s3 h)) else none:Option (Ex × St)).bind fun p_120=>(q182_k17 C L G) p_120.1 p_120.2:=by kernel_rfl
theorem q182_e1_1 (k0 N0 o0:Nat) (a1 a6 a15:Int) (s0 s1 s3:List Cell) (h:AHeap):(q182_k16 C L G) (.exit 0) (q182_x1_1 k0 N0 o0 a1 a6 a15 s0 s1 s3 h)=some (.normal,(q182_c12 k0 N0 o0 a1 a6 a15 s0 s1 s3 h)):=by kernel_rfl
theorem q182_ec14_n (k0 N0 o0:Nat) (a1 a6 a15:Int) (s0 s1 s3:List Cell) (h:AHeap):(q182_k15 C L G) .normal (q182_c14 k0 N0 o0 a1 a6 a15 s0 s1 s3 h)=(L (q182_F1 C L G) (q182_s1 k0 N0 o0 a1 a6 a15 0 s0 s1 s3 h)).bind fun p_121=>(q182_k16 C L G) p_121.1 p_121.2:=by kernel_rfl
theorem q182_ec13_n (k0 N0 o0:Nat) (a1 a6 a15:Int) (b138:Bool) (s0 s1 s3:List Cell) (h:AHeap):(q182_k14 C L G) .normal (q182_c13 k0 N0 o0 a1 a6 a15 b138 s0 s1 s3 h)=if b138=true then (atK s3 2 fun q_80=>asI .i64 (.c q_80) fun n_81=>if 0≤n_81∧n_81<((4:Nat):Int) then rdH h k0 N0 fun l_82=>atK l_82 ((o0+4)+((Int.toNat n_81)*1)) fun q_83=>asI .i64 (.c q_83) fun n_84=>atK s3 2 fun q_85=>asI .i64 (.c q_85) fun n_86=>if 0≤n_86∧n_86<((4:Nat):Int) then rdH h k0 N0 fun l_87=>atK l_87 ((o0+8)+((Int.toNat n_86)*1)) fun q_88=>asI .i64 (.c q_88) fun n_89=>if 6<s1.length then some (.normal,(q182_c14 k0 N0 o0 a1 a6 n_84 s0 (s1.set 6 (.int .i64 n_89)) s3 h)) else none else none else none:Option (Ex × St)).bind fun p_122=>(q182_k15 C L G) p_122.1 p_122.2 else some (.normal,(q182_c12 k0 N0 o0 a1 a6 a15 s0 s1 s3 h)):=by kernel_rfl
theorem q182_ec21_n (k0 N0 o0:Nat) (a1 a6 a15:Int) (b251:Bool) (s0 s1 s4:List Cell) (h:AHeap):(q182_k26 C L G) .normal (q182_c21 k0 N0 o0 a1 a6 a15 b251 s0 s1 s4 h)=if b251=true then if ([]:List Cell).length=0*3 then if 0≤a1∧a1<((4:Nat):Int) then rd0 (h++[some (Blk.mk true 3 ([]:List Cell))]) k0 N0 fun l_159=>atK l_159 ((o0+32)+((Int.toNat a1)*1)) fun q_160=>(slCells (h++[some (Blk.mk true 3 ([]:List Cell))]) 3 q_160).bind fun l_163=>appK 3 24 (.sl h.length (([]:List Cell).length) 0 0) l_163 (h++[some (Blk.mk true 3 ([]:List Cell))]) fun x_161 h_162=>atK s4 3 fun q_164=>asI .i64 (.c q_164) fun n_165=>atK s4 5 fun q_166=>asI .i64 (.c q_166) fun n_167=>if (splice (splice (splice [Cell.int .i64 0,Cell.int .i64 0,Cell.int .i64 0] 0 ([(.int .i64 n_165)]:List Cell)) 1 ([(.int .i64 n_167)]:List Cell)) 2 ([(.int .i64 a6)]:List Cell)).length=3∧0+3≤[Cell.int .i64 0,Cell.int .i64 0,Cell.int .i64 0].length then if (splice [Cell.int .i64 0,Cell.int .i64 0,Cell.int .i64 0] 0 (splice (splice (splice [Cell.int .i64 0,Cell.int .i64 0,Cell.int .i64 0] 0 ([(.int .i64 n_165)]:List Cell)) 1 ([(.int .i64 n_167)]:List Cell)) 2 ([(.int .i64 a6)]:List Cell))).length=1*3 then appK 3 24 x_161 (splice [Cell.int .i64 0,Cell.int .i64 0,Cell.int .i64 0] 0 (splice (splice (splice [Cell.int .i64 0,Cell.int .i64 0,Cell.int .i64 0] 0 ([(.int .i64 n_165)]:List Cell)) 1 ([(.int .i64 n_167)]:List Cell)) 2 ([(.int .i64 a6)]:List Cell))) h_162 fun x_168 h_169=>if 0≤a1∧a1<((4:Nat):Int) then rdH h_169 k0 N0 fun l_170=>if ((o0+32)+((Int.toNat a1)*1))<l_170.length then putH h_169 k0 (l_170.set ((o0+32)+((Int.toNat a1)*1)) x_168) fun h_171=>some (.normal,(q182_c19 k0 N0 o0 a1 a15 s0 s1 h_171)) else none else none else none else none else none else none else some (.normal,(q182_c19 k0 N0 o0 a1 a15 s0 s1 h)):=by kernel_rfl
theorem q182_ec20_n (k0 N0 o0:Nat) (a1 a6 a15:Int) (b220:Bool) (s0 s1 s4:List Cell) (h:AHeap):(q182_k25 C L G) .normal (q182_c20 k0 N0 o0 a1 a6 a15 b220 s0 s1 s4 h)=if b220=true then atK s4 3 fun q_147=>asI .i64 (.c q_147) fun n_148=>atK s4 3 fun q_149=>asI .i64 (.c q_149) fun n_150=>atK s4 5 fun q_151=>asI .i64 (.c q_151) fun n_152=>if 0≤n_148∧n_148<((4:Nat):Int) then rdH h k0 N0 fun l_153=>if ((o0+4)+((Int.toNat n_148)*1))<l_153.length then putH h k0 (l_153.set ((o0+4)+((Int.toNat n_148)*1)) (.int .i64 n_152)) fun h_154=>if 0≤n_150∧n_150<((4:Nat):Int) then rdH h_154 k0 N0 fun l_155=>if ((o0+8)+((Int.toNat n_150)*1))<l_155.length then putH h_154 k0 (l_155.set ((o0+8)+((Int.toNat n_150)*1)) (.int .i64 a6)) fun h_156=>some (.normal,(q182_c19 k0 N0 o0 a1 a15 s0 s1 h_156)) else none else none else none else none else (atK s4 2 fun q_157=>asI .i64 (.c q_157) fun n_158=>some (.normal,(q182_c21 k0 N0 o0 a1 a6 a15 (n_158==2) s0 s1 s4 h)):Option (Ex × St)).bind fun p_172=>(q182_k26 C L G) p_172.1 p_172.2:=by kernel_rfl
theorem q182_ec22_n (h0:AHeap) (k0 N0 o0:Nat) (s0 s1:List Cell) (h:AHeap):(q182_k27 C L G h0) .normal (q182_c22 k0 N0 o0 s0 s1 h)=rdH h k0 N0 fun l_181=>atK l_181 (o0+36) fun q_182=>if 0=0∧s1.length=7 then if s1.length=7∧0+7≤(List.replicate 7 (Cell.int .i64 0)).length then if (splice (List.replicate 7 (Cell.int .i64 0)) 0 s1).length=1*7 then appK 7 56 q_182 (splice (List.replicate 7 (Cell.int .i64 0)) 0 s1) h fun x_183 h_184=>rdH h_184 k0 N0 fun l_185=>if (o0+36)<l_185.length then putH h_184 k0 (l_185.set (o0+36) x_183) fun h_186=>if 0=0∧s1.length=7 then if 0=0∧s0.length=7∧s1.length=7 then if 0=0∧s1.length=7 then some ([(.agg s1),(.c (.bool true))],h_186) else none else none else none else none else none else none else none:=by kernel_rfl
theorem q182_ec19_n (h0:AHeap) (k0 N0 o0:Nat) (a1 a15:Int) (s0 s1:List Cell) (h:AHeap):(q182_k23 C L G h0) .normal (q182_c19 k0 N0 o0 a1 a15 s0 s1 h)=(rdH h k0 N0 fun l_174=>if (o0+0)+3≤l_174.length then if 0≤a1∧a1<((4:Nat):Int) then rdH h k0 N0 fun l_175=>if ((o0+12)+((Int.toNat a1)*5))+5≤l_175.length then c1 (qh h (C 107 [(.agg ((l_174.drop (o0+0)).take 3)),(.c (.int .i64 a1)),(.agg ((l_175.drop ((o0+12)+((Int.toNat a1)*5))).take 5)),(.c (.int .i64 a15))] h)) fun y_177 h_176=>asA y_177 fun l_178=>if 0≤a1∧a1<((4:Nat):Int) then rdH h k0 N0 fun l_179=>if ((o0+12)+((Int.toNat a1)*5))+5≤l_179.length∧l_178.length=5 then putH h k0 (splice l_179 ((o0+12)+((Int.toNat a1)*5)) l_178) fun h_180=>some (.normal,(q182_c22 k0 N0 o0 s0 s1 h_180)) else none else none else none else none else none:Option (Ex × St)).bind fun p_187=>(q182_k27 C L G h0) p_187.1 p_187.2:=by kernel_rfl
theorem q182_ec18_n (h0:AHeap) (k0 N0 o0:Nat) (a1 a6 a15:Int) (s0 s1 s4:List Cell) (h:AHeap):(q182_k22 C L G h0) .normal (q182_c18 k0 N0 o0 a1 a6 a15 s0 s1 s4 h)=((atK s4 2 fun q_136=>asI .i64 (.c q_136) fun n_137=>scK (n_137==4) false (atK s4 2 fun q_138=>asI .i64 (.c q_138) fun n_139=>scK (n_139==2) true (rdH h k0 N0 fun l_140=>atK l_140 (o0+3) fun q_141=>asI .i64 (.c q_141) fun n_142=>some ((n_142==1),h)) false h fun b_143 h_144=>some (b_143,h_144)) true h fun b_145 h_146=>some (.normal,(q182_c20 k0 N0 o0 a1 a6 a15 b_145 s0 s1 s4 h_146)):Option (Ex × St)).bind fun p_173=>(q182_k25 C L G) p_173.1 p_173.2:Option (Ex × St)).bind fun p_188=>(q182_k23 C L G h0) p_188.1 p_188.2:=by kernel_rfl
theorem q182_ec17_n (h0:AHeap) (k0 N0 o0:Nat) (a1 a6 a15:Int) (s0 s1 s4:List Cell) (h:AHeap):(q182_k21 C L G h0) .normal (q182_c17 k0 N0 o0 a1 a6 a15 s0 s1 s4 h)=(atK s4 2 fun q_128=>asI .i64 (.c q_128) fun n_129=>atK s4 3 fun q_130=>asI .i64 (.c q_130) fun n_131=>atK s4 4 fun q_132=>asI .i64 (.c q_132) fun n_133=>atK s4 5 fun q_134=>asI .i64 (.c q_134) fun n_135=>if 2<s1.length then if 3<(s1.set 2 (.int .i64 n_129)).length then if 4<((s1.set 2 (.int .i64 n_129)).set 3 (.int .i64 n_131)).length then if 5<(((s1.set 2 (.int .i64 n_129)).set 3 (.int .i64 n_131)).set 4 (.int .i64 n_133)).length then some (.normal,(q182_c18 k0 N0 o0 a1 a6 a15 s0 ((((s1.set 2 (.int .i64 n_129)).set 3 (.int .i64 n_131)).set 4 (.int .i64 n_133)).set 5 (.int .i64 n_135)) s4 h)) else none else none else none else none:Option (Ex × St)).bind fun p_189=>(q182_k22 C L G h0) p_189.1 p_189.2:=by kernel_rfl
theorem q182_ec12_n (h0:AHeap) (k0 N0 o0:Nat) (a1 a6 a15:Int) (s0 s1 s3:List Cell) (h:AHeap):(q182_k13 C L G h0) .normal (q182_c12 k0 N0 o0 a1 a6 a15 s0 s1 s3 h)=(if 0=0∧s3.length=9 then if 0≤a1∧a1<((4:Nat):Int) then rdH h k0 N0 fun l_124=>if ((o0+12)+((Int.toNat a1)*5))+5≤l_124.length then c1 (qh h (C 111 [(.agg s3),(.agg ((l_124.drop ((o0+12)+((Int.toNat a1)*5))).take 5)),(.c (.int .i64 a15))] h)) fun y_126 h_125=>asA y_126 fun l_127=>if 0=0∧[Cell.int .i64 0,Cell.int .i64 0,Cell.int .i64 0,Cell.int .i64 0,Cell.int .i64 0,Cell.int .i64 0].length=6∧l_127.length=6 then some (.normal,(q182_c17 k0 N0 o0 a1 a6 a15 s0 s1 l_127 h)) else none else none else none else none:Option (Ex × St)).bind fun p_190=>(q182_k21 C L G h0) p_190.1 p_190.2:=by kernel_rfl
theorem q182_ec11_n (h0:AHeap) (k0 N0 o0:Nat) (a1 a6:Int) (s0 s1 s3:List Cell) (h:AHeap):(q182_k12 C L G h0) .normal (q182_c11 k0 N0 o0 a1 a6 s0 s1 s3 h)=((atK s3 0 fun q_74=>asI .i64 (.c q_74) fun n_75=>scK (n_75==2) false (atK s3 0 fun q_76=>asI .i64 (.c q_76) fun n_77=>some ((n_77==4),h)) true h fun b_78 h_79=>some (.normal,(q182_c13 k0 N0 o0 a1 a6 0 b_78 s0 s1 s3 h_79)):Option (Ex × St)).bind fun p_123=>(q182_k14 C L G) p_123.1 p_123.2:Option (Ex × St)).bind fun p_191=>(q182_k13 C L G h0) p_191.1 p_191.2:=by kernel_rfl
theorem q182_ec4_n (h0:AHeap) (k0 N0 o0:Nat) (a1 a6:Int) (s0 s1:List Cell) (h:AHeap):(q182_k5 C L G h0) .normal (q182_c4 k0 N0 o0 a1 a6 s0 s1 h)=(rdH h k0 N0 fun l_67=>if (o0+0)+3≤l_67.length then if 0≤a1∧a1<((4:Nat):Int) then rdH h k0 N0 fun l_68=>if ((o0+12)+((Int.toNat a1)*5))+5≤l_68.length then c2 (qh h (C 81 [(.agg ((l_67.drop (o0+0)).take 3)),(.c (.int .i64 a1)),(.agg ((l_68.drop ((o0+12)+((Int.toNat a1)*5))).take 5))] h)) fun y_70 y_71 h_69=>asA y_70 fun l_72=>asB y_71 fun b_73=>if 0=0∧(List.replicate 9 (Cell.int .i64 0)).length=9∧l_72.length=9 then some (.normal,(q182_c11 k0 N0 o0 a1 a6 s0 s1 l_72 h)) else none else none else none else none:Option (Ex × St)).bind fun p_192=>(q182_k12 C L G h0) p_192.1 p_192.2:=by kernel_rfl
theorem q182_ec4_0 (h0:AHeap) (b5:Bool) (s0:List Cell) (h:AHeap):(q182_k5 C L G h0) .ret (q182_c4_0 b5 s0 h)=if 0=0∧s0.length=7 then some ([(.agg s0),(.c (.bool b5))],h) else none:=by kernel_rfl
theorem q182_ec3_n (h0:AHeap) (k0 N0 o0:Nat) (a1 a6:Int) (s0 s1:List Cell) (h:AHeap):(q182_k4 C L G h0) .normal (q182_c3 k0 N0 o0 a1 a6 s0 s1 h)=((c3 (C 197 [(.c (.ptr k0 N0 o0)),(.c (.int .i64 a1))] h) fun y_8 y_9 y_10 h_7=>asI .i64 y_8 fun n_11=>asI .i64 y_9 fun n_12=>asB y_10 fun b_13=>some (.normal,(q182_c5 k0 N0 o0 a1 a6 n_11 n_12 b_13 s0 s1 h_7)):Option (Ex × St)).bind fun p_66=>(q182_k6 C L G) p_66.1 p_66.2:Option (Ex × St)).bind fun p_193=>(q182_k5 C L G h0) p_193.1 p_193.2:=by kernel_rfl
theorem q182_ec2_n (h0:AHeap) (k0 N0 o0:Nat) (a1 a6:Int) (s0:List Cell) (h:AHeap):(q182_k3 C L G h0) .normal (q182_c2 k0 N0 o0 a1 a6 s0 h)=(if 0=0∧(List.replicate 7 (Cell.int .i64 0)).length=7∧(splice (splice (splice (List.replicate 7 (Cell.int .i64 0)) 0 ([(.int .i64 a1)]:List Cell)) 1 ([(.int .i64 a1)]:List Cell)) 6 ([(.int .i64 (-1))]:List Cell)).length=7 then some (.normal,(q182_c3 k0 N0 o0 a1 a6 s0 (splice (splice (splice (List.replicate 7 (Cell.int .i64 0)) 0 ([(.int .i64 a1)]:List Cell)) 1 ([(.int .i64 a1)]:List Cell)) 6 ([(.int .i64 (-1))]:List Cell)) h)) else none:Option (Ex × St)).bind fun p_194=>(q182_k4 C L G h0) p_194.1 p_194.2:=by kernel_rfl
theorem q182_ec1_n (h0:AHeap) (k0 N0 o0:Nat) (a1:Int) (s0:List Cell) (h:AHeap):(q182_k2 C L G h0) .normal (q182_c1 k0 N0 o0 a1 s0 h)=(rdH h k0 N0 fun l_4=>atK l_4 (o0+36) fun q_5=>lenK q_5 fun n_6=>some (.normal,(q182_c2 k0 N0 o0 a1 n_6 s0 h)):Option (Ex × St)).bind fun p_195=>(q182_k3 C L G h0) p_195.1 p_195.2:=by kernel_rfl
theorem q182_ec1_0 (h0:AHeap) (b5:Bool) (s0:List Cell) (h:AHeap):(q182_k2 C L G h0) .ret (q182_c1_0 b5 s0 h)=if 0=0∧s0.length=7 then some ([(.agg s0),(.c (.bool b5))],h) else none:=by kernel_rfl
set_option maxRecDepth 100000 in
theorem q182_eq (k0 N0 o0:Nat) (a1:Int) (h0:AHeap):q182.body C L G [(.c (.ptr k0 N0 o0)),(.c (.int .i64 a1))] h0=(c1 (C 196 [(.c (.ptr k0 N0 o0)),(.c (.int .i64 a1))] h0) fun y_2 h_1=>asB y_2 fun b_3=>if (!b_3)=true then if 0=0∧(List.replicate 7 (Cell.int .i64 0)).length=7∧(List.replicate 7 (Cell.int .i64 0)).length=7 then some (.ret,(q182_c1_0 false (List.replicate 7 (Cell.int .i64 0)) h_1)) else none else some (.normal,(q182_c1 k0 N0 o0 a1 (List.replicate 7 (Cell.int .i64 0)) h_1)):Option (Ex × St)).bind fun p_196=>(q182_k2 C L G h0) p_196.1 p_196.2:=by kernel_rfl
def q186_k2 (C:CallF) (L:LoopF) (G:Glo) (h0:AHeap):Ex→St→Option (List AV × AHeap):=kSeq (fun st=>q186_p1.exec C L G st (q186.fin G h0)) (q186.fin G h0)
def q186_k3 (C:CallF) (L:LoopF) (G:Glo) (h0:AHeap):Ex→St→Option (List AV × AHeap):=kBlk 0 (q186_k2 C L G h0)
def q186_s1 (x2 x8:Cell) (a9:Int) (h:AHeap):St:=⟨tops 2 (.v (.c x2) :: tops 5 (.v (.c x8) :: .v (.c (.int .i64 a9)) :: tops 27 [])),[none,none],h⟩
def q186_F1 (C:CallF) (L:LoopF) (G:Glo):St→Option (Ex × St):=roundF (fun st f=>q186_b1.exec C L G st f) [2,8,9] [] [(0,[6,7],[]),(1,[2,8],[])]
def q186_x1_0 (x6:Cell) (a7:Int) (h:AHeap):St:=⟨tops 6 (.v (.c x6) :: .v (.c (.int .i64 a7)) :: tops 29 []),[none,none],h⟩
def q186_x1_1 (x2 x8:Cell) (h:AHeap):St:=⟨tops 2 (.v (.c x2) :: tops 5 (.v (.c x8) :: tops 28 [])),[none,none],h⟩
theorem q186_r1 (x2 x8:Cell) (a9:Int) (h:AHeap):q186_F1 C L G (q186_s1 x2 x8 a9 h)=lenK x2 fun n_4=>if (decide (a9<n_4))=true then idxSK 1 x2 a9 fun k_5 N_6 o_7=>rdH h k_5 N_6 fun l_8=>atK l_8 o_7 fun q_9=>asI .i64 (.c q_9) fun n_10=>c2 (C 182 [(.c x8),(.c (.int .i64 n_10))] h) fun y_12 y_13 h_11=>asA y_12 fun l_14=>asB y_13 fun b_15=>if 0=0∧(List.replicate 7 (Cell.int .i64 0)).length=7∧l_14.length=7 then if (!b_15)=true then some (.ret,(q186_x1_0 x8 a9 h_11)) else some (.normal,(q186_s1 x2 x8 (G.wrap .i64 (a9+1)) h_11)) else none else some ((.exit 0),(q186_x1_1 x2 x8 h)):=by kernel_rfl
theorem q186_e1_0 (h0:AHeap) (x6:Cell) (a7:Int) (h:AHeap):(q186_k3 C L G h0) .ret (q186_x1_0 x6 a7 h)=some ([(.c x6),(.c (.int .i64 a7))],h):=by kernel_rfl
theorem q186_e1_1 (h0:AHeap) (x2 x8:Cell) (h:AHeap):(q186_k3 C L G h0) (.exit 0) (q186_x1_1 x2 x8 h)=lenK x2 fun n_16=>some ([(.c x8),(.c (.int .i64 n_16))],h):=by kernel_rfl
set_option maxRecDepth 100000 in
theorem q186_eq (l0:List Cell) (a1:Int) (x2:Cell) (h0:AHeap):q186.body C L G [(.agg l0),(.c (.int .i64 a1)),(.c x2)] h0=if 0=0∧l0.length=3 then c1 (C 180 [(.agg l0),(.c (.int .i64 a1))] h0) fun y_2 h_1=>asC y_2 fun x_3=>(L (q186_F1 C L G) (q186_s1 x2 x_3 0 h_1)).bind fun p_17=>(q186_k3 C L G h0) p_17.1 p_17.2 else none:=by kernel_rfl
set_option maxRecDepth 100000 in
theorem q196_eq (k0 N0 o0:Nat) (a1:Int) (h0:AHeap):q196.body C L G [(.c (.ptr k0 N0 o0)),(.c (.int .i64 a1))] h0=scK (decide (a1≥0)) true (some ((decide (a1<4)),h0)) false h0 fun b_1 h_2=>if b_1=true then rdH h_2 k0 N0 fun l_3=>if (o0+0)+3≤l_3.length then if 0≤a1∧a1<((4:Nat):Int) then rdH h_2 k0 N0 fun l_4=>if ((o0+12)+((Int.toNat a1)*5))+5≤l_4.length then c2 (qh h_2 (C 81 [(.agg ((l_3.drop (o0+0)).take 3)),(.c (.int .i64 a1)),(.agg ((l_4.drop ((o0+12)+((Int.toNat a1)*5))).take 5))] h_2)) fun y_6 y_7 h_5=>asA y_6 fun l_8=>asB y_7 fun b_9=>if 0=0∧(List.replicate 9 (Cell.int .i64 0)).length=9∧l_8.length=9 then scK b_9 true (atK l_8 0 fun q_10=>asI .i64 (.c q_10) fun n_11=>scK (n_11 != 3) true (atK l_8 0 fun q_12=>asI .i64 (.c q_12) fun n_13=>some ((n_13 != 4),h_2)) false h_2 fun b_14 h_15=>scK b_14 false (if 0≤a1∧a1<((4:Nat):Int) then rdH h_15 k0 N0 fun l_16=>atK l_16 ((o0+32)+((Int.toNat a1)*1)) fun q_17=>lenK q_17 fun n_18=>some ((n_18==0),h_15) else none) true h_15 fun b_19 h_20=>some (b_19,h_20)) false h_2 fun b_21 h_22=>some ([(.c (.bool b_21))],h_22) else none else none else none else none else c3 (C 197 [(.c (.ptr k0 N0 o0)),(.c (.int .i64 a1))] h_2) fun y_24 y_25 y_26 h_23=>asI .i64 y_24 fun n_27=>asI .i64 y_25 fun n_28=>asB y_26 fun b_29=>scK b_29 true (c1 (C 198 [(.c (.ptr k0 N0 o0)),(.c (.int .i64 n_27)),(.c (.int .i64 n_28))] h_23) fun y_31 h_30=>asI .i64 y_31 fun n_32=>some ((decide (n_32≥0)),h_30)) false h_23 fun b_33 h_34=>some ([(.c (.bool b_33))],h_34):=by kernel_rfl
set_option maxRecDepth 100000 in
theorem q197_eq (k0 N0 o0:Nat) (a1:Int) (h0:AHeap):q197.body C L G [(.c (.ptr k0 N0 o0)),(.c (.int .i64 a1))] h0=rdH h0 k0 N0 fun l_1=>atK l_1 (o0+3) fun q_2=>asI .i64 (.c q_2) fun n_3=>scK (n_3==2) true (some ((decide (a1≥4)),h0)) false h0 fun b_4 h_5=>scK b_4 true (some ((decide (a1<8)),h_5)) false h_5 fun b_6 h_7=>if b_6=true then some ([(.c (.int .i64 (G.wrap .i64 (a1 - 4)))),(.c (.int .i64 (-1))),(.c (.bool true))],h_7) else rdH h_7 k0 N0 fun l_8=>atK l_8 (o0+3) fun q_9=>asI .i64 (.c q_9) fun n_10=>scK (n_10==3) true (some ((decide (a1≥8)),h_7)) false h_7 fun b_11 h_12=>scK b_11 true (some ((decide (a1<24)),h_12)) false h_12 fun b_13 h_14=>if b_13=true then some ([(.c (.int .i64 (G.quo .i64 (G.wrap .i64 (a1 - 8)) 4))),(.c (.int .i64 (G.rem .i64 (G.wrap .i64 (a1 - 8)) 4))),(.c (.bool true))],h_14) else some ([(.c (.int .i64 0)),(.c (.int .i64 0)),(.c (.bool false))],h_14):=by kernel_rfl
def q198_k2 (C:CallF) (L:LoopF) (G:Glo) (h0:AHeap):Ex→St→Option (List AV × AHeap):=kSeq (fun st=>q198_p1.exec C L G st (q198.fin G h0)) (q198.fin G h0)
def q198_k3 (C:CallF) (L:LoopF) (G:Glo) (h0:AHeap):Ex→St→Option (List AV × AHeap):=kBlk 0 (q198_k2 C L G h0)
def q198_s1 (k0 N0 o0:Nat) (a1 a2 a7:Int) (h:AHeap):St:=⟨.v (.c (.ptr k0 N0 o0)) :: .v (.c (.int .i64 a1)) :: .v (.c (.int .i64 a2)) :: tops 4 (.v (.c (.int .i64 a7)) :: tops 28 []),[],h⟩
def q198_F1 (C:CallF) (L:LoopF) (G:Glo):St→Option (Ex × St):=roundF (fun st f=>q198_b1.exec C L G st f) [0,1,2,7] [] [(0,[6],[]),(1,[],[])]
def q198_x1_0 (a6:Int) (h:AHeap):St:=⟨tops 6 (.v (.c (.int .i64 a6)) :: tops 29 []),[],h⟩
def q198_x1_1 (h:AHeap):St:=⟨tops 36 [],[],h⟩
theorem q198_r1 (k0 N0 o0:Nat) (a1 a2 a7:Int) (h:AHeap):q198_F1 C L G (q198_s1 k0 N0 o0 a1 a2 a7 h)=if 0≤a1∧a1<((4:Nat):Int) then rdH h k0 N0 fun l_1=>atK l_1 ((o0+32)+((Int.toNat a1)*1)) fun q_2=>lenK q_2 fun n_3=>if (decide (a7<n_3))=true then scK (decide (a2<0)) false (if 0≤a1∧a1<((4:Nat):Int) then rdH h k0 N0 fun l_4=>atK l_4 ((o0+32)+((Int.toNat a1)*1)) fun q_5=>idxSK 3 q_5 a7 fun k_6 N_7 o_8=>rdH h k_6 N_7 fun l_9=>atK l_9 (o_8+0) fun q_10=>asI .i64 (.c q_10) fun n_11=>some ((n_11==a2),h) else none) true h fun b_12 h_13=>if b_12=true then some (.ret,(q198_x1_0 a7 h_13)) else some (.normal,(q198_s1 k0 N0 o0 a1 a2 (G.wrap .i64 (a7+1)) h_13)) else some ((.exit 0),(q198_x1_1 h)) else none:=by kernel_rfl
theorem q198_e1_0 (h0:AHeap) (a6:Int) (h:AHeap):(q198_k3 C L G h0) .ret (q198_x1_0 a6 h)=some ([(.c (.int .i64 a6))],h):=by kernel_rfl
theorem q198_e1_1 (h0:AHeap) (h:AHeap):(q198_k3 C L G h0) (.exit 0) (q198_x1_1 h)=some ([(.c (.int .i64 (-1)))],h):=by kernel_rfl
set_option maxRecDepth 100000 in
theorem q198_eq (k0 N0 o0:Nat) (a1 a2:Int) (h0:AHeap):q198.body C L G [(.c (.ptr k0 N0 o0)),(.c (.int .i64 a1)),(.c (.int .i64 a2))] h0=(L (q198_F1 C L G) (q198_s1 k0 N0 o0 a1 a2 0 h0)).bind fun p_14=>(q198_k3 C L G h0) p_14.1 p_14.2:=by kernel_rfl
end Jq

namespace Jq
open Go
structure Stp where
  pick:Int
  t:Int
  kind:Int
  loc:Int
  r:Int
  w:Int
  frm:Int
def Stp.cs (s:Stp):List Cell:=[.int .i64 s.pick,.int .i64 s.t,.int .i64 s.kind,.int .i64 s.loc,.int .i64 s.r,.int .i64 s.w,.int .i64 s.frm]
def shStep:Sh:=.agg (Sh.rep (.i .i64) 7)
def stepsC (l:List Stp):List Cell:=l.flatMap Stp.cs
theorem stp_len (s:Stp):s.cs.length=7:=rfl
theorem stp_pick {α:Type} {s:Stp} {f:Cell→Option α}:atK s.cs 0 f=f (.int .i64 s.pick):=rfl
theorem stp_t {α:Type} {s:Stp} {f:Cell→Option α}:atK s.cs 1 f=f (.int .i64 s.t):=rfl
theorem stp_kind {α:Type} {s:Stp} {f:Cell→Option α}:atK s.cs 2 f=f (.int .i64 s.kind):=rfl
theorem stp_loc {α:Type} {s:Stp} {f:Cell→Option α}:atK s.cs 3 f=f (.int .i64 s.loc):=rfl
theorem stp_frm {α:Type} {s:Stp} {f:Cell→Option α}:atK s.cs 6 f=f (.int .i64 s.frm):=rfl
theorem stepsC_len:∀l:List Stp,(stepsC l).length=l.length*7
  | []=>rfl
  | s :: l=>by simp only [stepsC,List.flatMap_cons,List.length_append];rw [show (l.flatMap _).length=_ from stepsC_len l,stp_len];simp;omega
theorem stepsC_at:∀(l:List Stp) (i:Nat) (s:Stp),l[i]? = some s→((stepsC l).drop (i*7)).take 7=s.cs
  | [],_,_,h=>by simp at h
  | q :: l,0,s,h=>by simp at h;subst h;rfl
  | q :: l,i+1,s,h=>by
    have:=stepsC_at l i s (by simpa using h)
    have e:stepsC (q :: l)=q.cs++stepsC l:=rfl
    rw [e,List.drop_append,List.drop_of_length_le (by rw [stp_len];omega),List.nil_append,show (i+1)*7 - q.cs.length=i*7 by rw [stp_len];omega]
    exact this
theorem stepsC_cell {l:List Stp} {i j:Nat} {s:Stp} {c:Cell} (h:l[i]? = some s) (hj:j<7) (hc:s.cs[j]? = some c):(stepsC l)[i*7+j]? = some c:=by
  rw [←hc,←stepsC_at l i s h,List.getElem?_take,if_pos hj,List.getElem?_drop]
theorem stepsC_snoc (l:List Stp) (s:Stp):stepsC (l++[s])=stepsC l++s.cs:=by simp [stepsC]
theorem SlAt.elG {h:AHeap} {x:Cell} {esz len:Nat} {cs:List Cell} (s:SlAt h x esz cs len) {i:Nat} (hi:i<len) :
    ∃off cs',(∀{α:Type} (G:Nat→List Cell→Option α),(idxSK esz x (i:Int) fun k N o=>rdH h k N fun l=>G o l)=G off cs')∧off+esz≤cs'.length∧(cs'.drop off).take esz=(cs.drop (i*esz)).take esz:=by
  rcases s.2 with ⟨_,rfl⟩ | ⟨k,N,off,rfl,h0 | ⟨b,hb,hN,hle,hat⟩⟩
  · omega
  · omega
  · have hlt:i*esz+esz≤len*esz:=by
      have:(i+1)*esz≤len*esz:=Nat.mul_le_mul_right _ hi
      rw [Nat.succ_mul] at this;exact this
    refine ⟨off+i*esz,b.cs,fun G=>by rw [idxSK_ok hi,rdH_ok hb hN],by omega,?_⟩
    refine List.ext_getElem? fun j=>?_
    rw [List.getElem?_take,List.getElem?_take]
    by_cases hj:j<esz
    · rw [if_pos hj,if_pos hj,List.getElem?_drop,List.getElem?_drop,Nat.add_assoc,hat _ (by omega)]
    · rw [if_neg hj,if_neg hj]
theorem SlAt.stepG {h:AHeap} {x:Cell} {l:List Stp} (s:SlAt h x 7 (stepsC l) l.length) {i:Nat} {q:Stp} (hq:l[i]? = some q) :
    ∃off cs',(∀{α:Type} (G:Nat→List Cell→Option α),(idxSK 7 x (i:Int) fun k N o=>rdH h k N fun l=>G o l)=G off cs')∧off+7≤cs'.length∧(cs'.drop off).take 7=q.cs:=by
  have hi:i<l.length:=by
    rcases Nat.lt_or_ge i l.length with h | h
    · exact h
    · rw [List.getElem?_eq_none h] at hq;cases hq
  obtain ⟨off,cs',h1,h2,h3⟩:=s.elG hi
  exact ⟨off,cs',h1,h2,h3.trans (stepsC_at l i q hq)⟩
theorem SlAt.step {α:Type} {h:AHeap} {x:Cell} {l:List Stp} (s:SlAt h x 7 (stepsC l) l.length) {i:Nat} {q:Stp} (hq:l[i]? = some q) {f:List Cell→Option α} :
    (idxSK 7 x (i:Int) fun k N o=>rdH h k N fun l=>if o+7≤l.length then f ((l.drop o).take 7) else none)=f q.cs:=by
  have hi:i<l.length:=by
    rcases Nat.lt_or_ge i l.length with h | h
    · exact h
    · rw [List.getElem?_eq_none h] at hq;cases hq
  rw [s.getN hi,stepsC_at l i q hq]
def wrS (s:Stp) (m:Int):Bool:=s.kind==6||s.kind==4||(m==1&&s.kind==2)
def rdS (s:Stp):Bool:=s.kind==1||s.kind==4||s.kind==5
def fnS (s:Stp):Bool:=s.kind==3||s.kind==4||s.kind==5
def tchS (s:Stp) (m:Int):Bool:=wrS s m||rdS s
def clash (a b:Stp) (m:Int):Bool :=
  if (a.pick==b.pick)=true then true
  else if (a.t==b.t)=true then (a.kind==6&&fnS b)||(b.kind==6&&fnS a)
  else tchS a m&&tchS b m&&a.loc==b.loc&&(wrS a m||wrS b m)
def wakeS (a:Stp) (m:Int):List Stp→Nat→Nat
  | [],s=>s
  | x :: l,s=>wakeS a m l (if clash x a m=true then ndiff s (bitI x.pick) else s)
section
variable {E:Env}
theorem Writes_R (hE:q257_In E) (s:Stp) (m:Int) (h:AHeap):R E 257 [.agg s.cs,.c (.int .i64 m)] h=some ([.c (.bool (wrS s m))],h):=by
  refine R_intro hE.fn ?_
  rw [q257_eq]
  simp only [stp_kind,asI_ok,scK_or,scK_and,scK_ok]
  rfl
theorem Reads_R (hE:q266_In E) (s:Stp) (h:AHeap):R E 266 [.agg s.cs] h=some ([.c (.bool (rdS s))],h):=by
  refine R_intro hE.fn ?_
  rw [q266_eq]
  simp only [stp_kind,asI_ok,scK_or,scK_and,scK_ok]
  rfl
theorem Fences_R (hE:q265_In E) (s:Stp) (h:AHeap):R E 265 [.agg s.cs] h=some ([.c (.bool (fnS s))],h):=by
  refine R_intro hE.fn ?_
  rw [q265_eq]
  simp only [stp_kind,asI_ok,scK_or,scK_and,scK_ok]
  rfl
def frI (f:Nat→Nat) (a k:Nat):Nat→Bool
  | 0=>true
  | i+1=>frI f a k i&&!(decide (a≤i)&&(f i).testBit k)
def iniS (f:Nat→Nat) (l:List Int) (a:Nat):Nat→Nat
  | 0=>0
  | k+1=>if (decide (a≤k)&&frI f a k l.length)=true then iniS f l a k ||| bitI (l.getD k 0) else iniS f l a k
end
end Jq

namespace Jq
open Go
variable {E:Env}
end Jq

namespace Jq
open Go
theorem Low_mono {n m:Nat} (hm:n≤m):∀{x:Cell},Low n x→Low m x:=by
  intro x h
  unfold Low at *
  split<;>simp_all
  omega
def ACC (r:Nat) (q:Nat→Nat→Bool):Nat→Nat:=fun a=>mkN fun b=>decide (a<r)&&decide (b<r)&&q a b
theorem w_ACC (r:Nat) (q:Nat→Nat→Bool):Words (ACC r q):=fun _=>mkN_lt _
theorem b_ACC {r:Nat} (hr:r≤64) (q:Nat→Nat→Bool) (a b:Nat):(ACC r q a).testBit b=(decide (a<r)&&decide (b<r)&&q a b):=by
  unfold ACC
  rw [testBit_mkN,Bool.eq_iff_iff]
  simp only [Bool.and_eq_true,decide_eq_true_eq]
  constructor
  · rintro ⟨_,h⟩;exact h
  · rintro h;exact ⟨by omega,h⟩
theorem ACC_eq {r:Nat} (hr:r≤64) {q q':Nat→Nat→Bool} (h:∀a b,a<r→b<r→q a b=q' a b):relL r (ACC r q)=relL r (ACC r q'):=rel_eq (w_ACC _ _) (w_ACC _ _) fun a b=>by
  rw [b_ACC hr,b_ACC hr]
  simp only [Bool.and_eq_true,decide_eq_true_eq]
  constructor
  · rintro ⟨⟨h1,h2⟩,h3⟩;exact ⟨⟨h1,h2⟩,by rw [←h a b h1 h2];exact h3⟩
  · rintro ⟨⟨h1,h2⟩,h3⟩;exact ⟨⟨h1,h2⟩,by rw [h a b h1 h2];exact h3⟩
theorem ACC_add {r:Nat} (hr:r≤64) {q q':Nat→Nat→Bool} {i j:Nat} (hi:i<r) (hj:j<r) (h:∀a b,a<r→b<r→q' a b=(q a b||(decide (a=i)&&decide (b=j)))) :
    relL r (addR r (ACC r q) (i:Int) (j:Int))=relL r (ACC r q'):=rel_eq (words_add (w_ACC _ _) _ _) (w_ACC _ _) fun a b=>by
  rw [addR_bit hr,b_ACC hr,b_ACC hr,inR_nat,inR_nat,show decide (i<r)=true by simpa using hi,show decide (j<r)=true by simpa using hj]
  simp only [Bool.and_eq_true,Bool.or_eq_true,decide_eq_true_eq,Bool.true_and]
  constructor
  · rintro (⟨⟨h1,h2⟩,h3⟩ | ⟨h1,h2⟩)
    · exact ⟨⟨h1,h2⟩,by rw [h a b h1 h2,h3];rfl⟩
    · have h1:a=i:=(Int.ofNat.inj h1).symm
      have h2:b=j:=(Int.ofNat.inj h2).symm
      subst h1;subst h2
      exact ⟨⟨hi,hj⟩,by rw [h a b hi hj];simp⟩
  · rintro ⟨⟨h1,h2⟩,h3⟩
    rw [h a b h1 h2] at h3
    simp only [Bool.or_eq_true,Bool.and_eq_true,decide_eq_true_eq] at h3
    rcases h3 with h3 | ⟨rfl,rfl⟩
    · exact .inl ⟨⟨h1,h2⟩,h3⟩
    · exact .inr ⟨rfl,rfl⟩
theorem ACC_none {r:Nat} (hr:r≤64) {q:Nat→Nat→Bool} (h:∀a b,a<r→b<r→q a b=false):relL r (ACC r q)=relL r fun _=>0:=rel_eq (w_ACC _ _) words_zero fun a b=>by
  rw [b_ACC hr]
  simp only [Bool.and_eq_true,decide_eq_true_eq,Nat.zero_testBit]
  constructor
  · rintro ⟨⟨h1,h2⟩,h3⟩;rw [h a b h1 h2] at h3;exact h3
  · intro h;cases h
variable {E:Env}
def upto (i j a b:Nat):Bool:=decide (a<i)||(decide (a=i)&&decide (b<j))
end Jq

namespace Jq
open Go
variable (C:CallF) (L:LoopF) (G:Glo)
set_option maxRecDepth 100000 in
theorem q119_eq (x0:Cell) (h0:AHeap):q119.body C L G [(.c x0)] h0=eqNilK false x0 .nils fun b_1=>if b_1=true then some ([(.c .nils)],h0) else if ([]:List Cell).length=0*9 then (slCells (h0++[some (Blk.mk true 9 ([]:List Cell))]) 9 x0).bind fun l_4=>appK 9 72 (.sl h0.length (([]:List Cell).length) 0 0) l_4 (h0++[some (Blk.mk true 9 ([]:List Cell))]) fun x_2 h_3=>some ([(.c x_2)],h_3) else none:=by kernel_rfl
set_option maxRecDepth 100000 in
theorem q155_eq (x0 x1:Cell) (h0:AHeap):q155.body C L G [(.c x0),(.c x1)] h0=c1 (C 156 [(.c x0),(.c x1)] h0) fun y_2 h_1=>asI .i64 y_2 fun n_3=>some ([(.c (.bool (decide (n_3≥0))))],h_1):=by kernel_rfl
def q156_k2 (C:CallF) (L:LoopF) (G:Glo) (h0:AHeap):Ex→St→Option (List AV × AHeap):=kSeq (fun st=>q156_p1.exec C L G st (q156.fin G h0)) (q156.fin G h0)
def q156_k3 (C:CallF) (L:LoopF) (G:Glo) (h0:AHeap):Ex→St→Option (List AV × AHeap):=kBlk 0 (q156_k2 C L G h0)
def q156_s1 (x0 x1:Cell) (a7 a8:Int) (h:AHeap):St:=⟨.v (.c x0) :: .v (.c x1) :: tops 5 (.v (.c (.int .i64 a7)) :: .v (.c (.int .i64 a8)) :: tops 10 []),[],h⟩
def q156_F1 (C:CallF) (L:LoopF) (G:Glo):St→Option (Ex × St):=roundF (fun st f=>q156_b1.exec C L G st f) [0,1,7,8] [] [(0,[4],[]),(1,[],[])]
def q156_x1_0 (a4:Int) (h:AHeap):St:=⟨tops 4 (.v (.c (.int .i64 a4)) :: tops 14 []),[],h⟩
def q156_x1_1 (h:AHeap):St:=⟨tops 19 [],[],h⟩
theorem q156_r1 (x0 x1:Cell) (a7 a8:Int) (h:AHeap):q156_F1 C L G (q156_s1 x0 x1 a7 a8 h)=if (decide (a8<a7))=true then idxSK 9 x0 a8 fun k_2 N_3 o_4=>rdH h k_2 N_3 fun l_5=>if o_4+9≤l_5.length then fnK x1 fun g_6 l_7=>c1 (C g_6 ([(.agg ((l_5.drop o_4).take 9))]++l_7) h) fun y_9 h_8=>asB y_9 fun b_10=>if b_10=true then some (.ret,(q156_x1_0 a8 h_8)) else some (.normal,(q156_s1 x0 x1 a7 (G.wrap .i64 (a8+1)) h_8)) else none else some ((.exit 0),(q156_x1_1 h)):=by kernel_rfl
theorem q156_e1_0 (h0:AHeap) (a4:Int) (h:AHeap):(q156_k3 C L G h0) .ret (q156_x1_0 a4 h)=some ([(.c (.int .i64 a4))],h):=by kernel_rfl
theorem q156_e1_1 (h0:AHeap) (h:AHeap):(q156_k3 C L G h0) (.exit 0) (q156_x1_1 h)=some ([(.c (.int .i64 (-1)))],h):=by kernel_rfl
set_option maxRecDepth 100000 in
theorem q156_eq (x0 x1:Cell) (h0:AHeap):q156.body C L G [(.c x0),(.c x1)] h0=lenK x0 fun n_1=>(L (q156_F1 C L G) (q156_s1 x0 x1 n_1 0 h0)).bind fun p_11=>(q156_k3 C L G h0) p_11.1 p_11.2:=by kernel_rfl
set_option maxRecDepth 100000 in
theorem q195_eq (x0:Cell) (h0:AHeap):q195.body C L G [(.c x0)] h0=eqNilK false x0 .nils fun b_1=>if b_1=true then some ([(.c .nils)],h0) else if ([]:List Cell).length=0*7 then (slCells (h0++[some (Blk.mk true 7 ([]:List Cell))]) 7 x0).bind fun l_4=>appK 7 56 (.sl h0.length (([]:List Cell).length) 0 0) l_4 (h0++[some (Blk.mk true 7 ([]:List Cell))]) fun x_2 h_3=>some ([(.c x_2)],h_3) else none:=by kernel_rfl
set_option maxRecDepth 100000 in
theorem q202_eq (x0:Cell) (h0:AHeap):q202.body C L G [(.c x0)] h0=eqNilK false x0 .nils fun b_1=>if b_1=true then some ([(.c .nils)],h0) else if ([]:List Cell).length=0*1 then (slCells (h0++[some (Blk.mk true 1 ([]:List Cell))]) 1 x0).bind fun l_4=>appK 1 1 (.sl h0.length (([]:List Cell).length) 0 0) l_4 (h0++[some (Blk.mk true 1 ([]:List Cell))]) fun x_2 h_3=>some ([(.c x_2)],h_3) else none:=by kernel_rfl
set_option maxRecDepth 100000 in
theorem q203_eq (x0:Cell) (h0:AHeap):q203.body C L G [(.c x0)] h0=eqNilK false x0 .nils fun b_1=>if b_1=true then some ([(.c .nils)],h0) else if ([]:List Cell).length=0*1 then (slCells (h0++[some (Blk.mk true 1 ([]:List Cell))]) 1 x0).bind fun l_4=>appK 1 8 (.sl h0.length (([]:List Cell).length) 0 0) l_4 (h0++[some (Blk.mk true 1 ([]:List Cell))]) fun x_2 h_3=>some ([(.c x_2)],h_3) else none:=by kernel_rfl
set_option maxRecDepth 100000 in
theorem q275_eq (x0:Cell) (l1:List Cell) (h0:AHeap):q275.body C L G [(.c x0),(.agg l1)] h0=if 0=0∧l1.length=2 then c1 (C 284 [(.c x0),(.agg l1)] h0) fun y_2 h_1=>asI .i64 y_2 fun n_3=>some ([(.c (.bool (decide (n_3≥0))))],h_1) else none:=by kernel_rfl
def q276_k2 (C:CallF) (L:LoopF) (G:Glo) (h0:AHeap):Ex→St→Option (List AV × AHeap):=kSeq (fun st=>q276_p1.exec C L G st (q276.fin G h0)) (q276.fin G h0)
def q276_k3 (C:CallF) (L:LoopF) (G:Glo) (h0:AHeap):Ex→St→Option (List AV × AHeap):=kBlk 0 (q276_k2 C L G h0)
def q276_s1 (x0 x1:Cell) (a12 a13:Int) (h:AHeap):St:=⟨.v (.c x0) :: .v (.c x1) :: tops 10 (.v (.c (.int .i64 a12)) :: .v (.c (.int .i64 a13)) :: tops 12 []),[],h⟩
def q276_F1 (C:CallF) (L:LoopF) (G:Glo):St→Option (Ex × St):=roundF (fun st f=>q276_b1.exec C L G st f) [0,1,12,13] [] [(0,[4],[]),(1,[],[])]
def q276_x1_0 (b4:Bool) (h:AHeap):St:=⟨tops 4 (.v (.c (.bool b4)) :: tops 21 []),[],h⟩
def q276_x1_1 (h:AHeap):St:=⟨tops 26 [],[],h⟩
theorem q276_r1 (x0 x1:Cell) (a12 a13:Int) (h:AHeap):q276_F1 C L G (q276_s1 x0 x1 a12 a13 h)=if (decide (a13<a12))=true then idxSK 7 x0 a13 fun k_4 N_5 o_6=>rdH h k_4 N_5 fun l_7=>if o_6+7≤l_7.length then idxSK 7 x1 a13 fun k_8 N_9 o_10=>rdH h k_8 N_9 fun l_11=>if o_10+7≤l_11.length then if alike ((l_7.drop o_6).take 7) (List.replicate 7 (Cell.int .i64 0))=true∧alike ((l_11.drop o_10).take 7) (List.replicate 7 (Cell.int .i64 0))=true then if (!(decide (((l_7.drop o_6).take 7)=((l_11.drop o_10).take 7))))=true then some (.ret,(q276_x1_0 false h)) else some (.normal,(q276_s1 x0 x1 a12 (G.wrap .i64 (a13+1)) h)) else none else none else none else some ((.exit 0),(q276_x1_1 h)):=by kernel_rfl
theorem q276_e1_0 (h0:AHeap) (b4:Bool) (h:AHeap):(q276_k3 C L G h0) .ret (q276_x1_0 b4 h)=some ([(.c (.bool b4))],h):=by kernel_rfl
theorem q276_e1_1 (h0:AHeap) (h:AHeap):(q276_k3 C L G h0) (.exit 0) (q276_x1_1 h)=some ([(.c (.bool true))],h):=by kernel_rfl
set_option maxRecDepth 100000 in
theorem q276_eq (x0 x1:Cell) (h0:AHeap):q276.body C L G [(.c x0),(.c x1)] h0=lenK x0 fun n_1=>lenK x1 fun n_2=>if (n_1 != n_2)=true then some ([(.c (.bool false))],h0) else lenK x0 fun n_3=>(L (q276_F1 C L G) (q276_s1 x0 x1 n_3 0 h0)).bind fun p_12=>(q276_k3 C L G h0) p_12.1 p_12.2:=by kernel_rfl
def q283_k2 (C:CallF) (L:LoopF) (G:Glo) (h0:AHeap):Ex→St→Option (List AV × AHeap):=kSeq (fun st=>q283_p1.exec C L G st (q283.fin G h0)) (q283.fin G h0)
def q283_k3 (C:CallF) (L:LoopF) (G:Glo) (h0:AHeap):Ex→St→Option (List AV × AHeap):=kBlk 0 (q283_k2 C L G h0)
def q283_s1 (x0 x1:Cell) (a7 a8:Int) (h:AHeap):St:=⟨.v (.c x0) :: .v (.c x1) :: tops 5 (.v (.c (.int .i64 a7)) :: .v (.c (.int .i64 a8)) :: tops 10 []),[],h⟩
def q283_F1 (C:CallF) (L:LoopF) (G:Glo):St→Option (Ex × St):=roundF (fun st f=>q283_b1.exec C L G st f) [0,1,7,8] [] [(0,[4],[]),(1,[],[])]
def q283_x1_0 (a4:Int) (h:AHeap):St:=⟨tops 4 (.v (.c (.int .i64 a4)) :: tops 14 []),[],h⟩
def q283_x1_1 (h:AHeap):St:=⟨tops 19 [],[],h⟩
theorem q283_r1 (x0 x1:Cell) (a7 a8:Int) (h:AHeap):q283_F1 C L G (q283_s1 x0 x1 a7 a8 h)=if (decide (a8<a7))=true then idxSK 7 x0 a8 fun k_2 N_3 o_4=>rdH h k_2 N_3 fun l_5=>if o_4+7≤l_5.length then fnK x1 fun g_6 l_7=>c1 (C g_6 ([(.agg ((l_5.drop o_4).take 7))]++l_7) h) fun y_9 h_8=>asB y_9 fun b_10=>if b_10=true then some (.ret,(q283_x1_0 a8 h_8)) else some (.normal,(q283_s1 x0 x1 a7 (G.wrap .i64 (a8+1)) h_8)) else none else some ((.exit 0),(q283_x1_1 h)):=by kernel_rfl
theorem q283_e1_0 (h0:AHeap) (a4:Int) (h:AHeap):(q283_k3 C L G h0) .ret (q283_x1_0 a4 h)=some ([(.c (.int .i64 a4))],h):=by kernel_rfl
theorem q283_e1_1 (h0:AHeap) (h:AHeap):(q283_k3 C L G h0) (.exit 0) (q283_x1_1 h)=some ([(.c (.int .i64 (-1)))],h):=by kernel_rfl
set_option maxRecDepth 100000 in
theorem q283_eq (x0 x1:Cell) (h0:AHeap):q283.body C L G [(.c x0),(.c x1)] h0=lenK x0 fun n_1=>(L (q283_F1 C L G) (q283_s1 x0 x1 n_1 0 h0)).bind fun p_11=>(q283_k3 C L G h0) p_11.1 p_11.2:=by kernel_rfl
def q284_k2 (C:CallF) (L:LoopF) (G:Glo) (h0:AHeap):Ex→St→Option (List AV × AHeap):=kSeq (fun st=>q284_p1.exec C L G st (q284.fin G h0)) (q284.fin G h0)
def q284_k3 (C:CallF) (L:LoopF) (G:Glo) (h0:AHeap):Ex→St→Option (List AV × AHeap):=kBlk 0 (q284_k2 C L G h0)
def q284_s1 (x0:Cell) (a7 a8:Int) (s0:List Cell) (h:AHeap):St:=⟨.v (.c x0) :: tops 2 (.loc 0 0 :: tops 3 (.v (.c (.int .i64 a7)) :: .v (.c (.int .i64 a8)) :: tops 10 [])),[some s0],h⟩
def q284_F1 (C:CallF) (L:LoopF) (G:Glo):St→Option (Ex × St):=roundF (fun st f=>q284_b1.exec C L G st f) [0,3,7,8] [0] [(0,[4],[]),(1,[],[])]
def q284_x1_0 (a4:Int) (h:AHeap):St:=⟨tops 4 (.v (.c (.int .i64 a4)) :: tops 14 []),[none],h⟩
def q284_x1_1 (h:AHeap):St:=⟨tops 19 [],[none],h⟩
theorem q284_r1 (x0:Cell) (a7 a8:Int) (s0:List Cell) (h:AHeap):q284_F1 C L G (q284_s1 x0 a7 a8 s0 h)=if (decide (a8<a7))=true then if 0=0∧s0.length=2 then idxSK 2 x0 a8 fun k_2 N_3 o_4=>rdH h k_2 N_3 fun l_5=>if o_4+2≤l_5.length then if alike s0 ([Cell.int .i64 0,Cell.int .i64 0])=true∧alike ((l_5.drop o_4).take 2) ([Cell.int .i64 0,Cell.int .i64 0])=true then if (decide (s0=((l_5.drop o_4).take 2)))=true then some (.ret,(q284_x1_0 a8 h)) else some (.normal,(q284_s1 x0 a7 (G.wrap .i64 (a8+1)) s0 h)) else none else none else none else some ((.exit 0),(q284_x1_1 h)):=by kernel_rfl
theorem q284_e1_0 (h0:AHeap) (a4:Int) (h:AHeap):(q284_k3 C L G h0) .ret (q284_x1_0 a4 h)=some ([(.c (.int .i64 a4))],h):=by kernel_rfl
theorem q284_e1_1 (h0:AHeap) (h:AHeap):(q284_k3 C L G h0) (.exit 0) (q284_x1_1 h)=some ([(.c (.int .i64 (-1)))],h):=by kernel_rfl
set_option maxRecDepth 100000 in
theorem q284_eq (x0:Cell) (l1:List Cell) (h0:AHeap):q284.body C L G [(.c x0),(.agg l1)] h0=lenK x0 fun n_1=>(L (q284_F1 C L G) (q284_s1 x0 n_1 0 l1 h0)).bind fun p_6=>(q284_k3 C L G h0) p_6.1 p_6.2:=by kernel_rfl
end Jq

namespace Jq
open Go
def isCame (s:Nat) (x:Stp):Bool:=x.kind==6&&x.frm==(s:Int)
def cameT (l:List Stp) (m:Int) (s:Nat):Int:=match l[s]? with
  | some q=>if wrS q m=true then (s:Int) else match l.findIdx? (isCame s) with
    | some i=>(i:Int)
    | none=>-1
  | none=>-1
theorem cameT_lt (l:List Stp) (m:Int) (s:Nat):-1≤cameT l m s∧cameT l m s<l.length:=by
  unfold cameT
  split
  · rename_i q hq
    have hs:s<l.length:=by
      rcases Nat.lt_or_ge s l.length with h | h
      · exact h
      · rw [List.getElem?_eq_none h] at hq;cases hq
    split
    · omega
    · split
      · rename_i i hi
        have:=(List.findIdx?_eq_some_iff_getElem.1 hi).1
        omega
      · omega
  · omega
def pairE (a b:Stp) (m:Int) (i:Nat):Bool:=a.pick==b.pick||(wrS a m&&wrS b m&&a.loc==b.loc)||(b.kind==6&&b.frm==(i:Int))||(a.kind==6&&a.t==b.t&&fnS b)
def edgeE (l:List Stp) (m:Int) (i k:Nat):Bool:=match l[i]?,l[k]? with
  | some a,some b=>pairE a b m i
  | _,_=>false
def fromE (l:List Stp) (m:Int) (s:Stp):Option Int:=if 0≤s.frm∧s.frm<l.length then (if cameT l m s.frm.toNat<0 then none else some (cameT l m s.frm.toNat)) else some (-1)
def wrE (l:List Stp) (m:Int) (loc:Int) (k:Nat):Bool:=match l[k]? with
  | some b=>wrS b m&&b.loc==loc
  | none=>false
def farE (l:List Stp) (s:Stp):Bool:=match l[s.frm.toNat]? with
  | some b=>decide (0≤s.frm∧s.frm<l.length)&&b.t != s.t
  | none=>false
def readE (l:List Stp) (m:Int) (i:Nat) (s:Stp) (a b:Nat):Bool:=match fromE l m s with
  | none=>false
  | some f=>(farE l s&&decide (0≤f)&&decide (a=f.toNat)&&decide (b=i))||(decide (a=i)&&decide (f<(b:Int))&&b != i&&wrE l m s.loc b)
def rdE (l:List Stp) (m:Int) (i a b:Nat):Bool:=match l[i]? with
  | some s=>rdS s&&readE l m i s a b
  | none=>false
def baseE (l:List Stp) (m:Int) (a b:Nat):Bool:=(decide (a<b)&&edgeE l m a b)||(List.range l.length).any fun i=>rdE l m i a b
def hbF (l:List Stp) (m:Int):Nat→Nat:=clK l.length (ACC l.length (baseE l m)) l.length
theorem SlAt.sfld {α:Type} {h:AHeap} {x:Cell} {l:List Stp} (s:SlAt h x 7 (stepsC l) l.length) {i:Nat} {q:Stp} (hq:l[i]? = some q) {j:Nat} (hj:j<7) {c:Cell} (hc:q.cs[j]? = some c) {f:Cell→Option α} :
    (idxSK 7 x (i:Int) fun k N o=>rdH h k N fun l=>atK l (o+j) f)=f c:=by
  have hi:i<l.length:=by
    rcases Nat.lt_or_ge i l.length with h | h
    · exact h
    · rw [List.getElem?_eq_none h] at hq;cases hq
  exact s.get hi hj (stepsC_cell hq hj hc)
section
variable {E:Env}
theorem idx_Step_R (hE:q283_In E) {x f:Cell} {l:List Stp} {h:AHeap} (hx:SlAt h x 7 (stepsC l) l.length) (hl:l.length<9223372036854775807) (p:Stp→Bool)
    (hf:∀i∈l,∀{α:Type} (F:AV→AHeap→Option α),(fnK f fun g cs=>c1 (R E g ([.agg i.cs]++cs) h) F)=F (.c (.bool (p i))) h):R E 283 [.c x,.c f] h=some ([.c (.int .i64 (match l.findIdx? p with | some i=>(i:Int) | none=>-1))],h):=by
  have loop:∀(n i:Nat),i+n=l.length→(Lim (q283_F1 (R E) Lim E.glob) (q283_s1 x f l.length (i:Int) h)).bind (fun q=>q283_k3 (R E) Lim E.glob h q.1 q.2)=some ([.c (.int .i64 (match (l.drop i).findIdx? p with | some j=>((i+j:Nat):Int) | none=>-1))],h):=by
    intro n
    induction n with
    | zero =>
      intro i hi
      have hr:q283_F1 (R E) Lim E.glob (q283_s1 x f l.length (i:Int) h)=some (.exit 0,q283_x1_1 h):=by rw [q283_r1,if_neg (by simp;omega)]
      rw [Lim_exit hr,bind_ok,q283_e1_1,List.drop_of_length_le (by omega)];rfl
    | succ n ih =>
      intro i hi
      have hq:l[i]? = some l[i]:=List.getElem?_eq_getElem (by omega)
      have hdr:l.drop i=l[i] :: l.drop (i+1):=List.drop_eq_getElem_cons (by omega)
      generalize l[i]=q at hq hdr
      obtain ⟨off,c,g1,g2,g3⟩:=hx.stepG hq
      have hp:=@hf q (List.mem_of_getElem? hq) (Ex × St)
      rw [hdr,List.findIdx?_cons]
      cases hb:p q with
      | true =>
        have hr:q283_F1 (R E) Lim E.glob (q283_s1 x f l.length (i:Int) h)=some (.ret,q283_x1_0 (i:Int) h):=by rw [q283_r1,if_pos (by simp;omega),g1,if_pos g2,g3,hp,asB_ok,hb,if_pos rfl]
        rw [Lim_ret hr,bind_ok,q283_e1_0]
        rfl
      | false =>
        have h1:=ih (i+1) (by omega)
        have h2:(match (if false=true then some 0 else Option.map (fun j=>j+1) ((l.drop (i+1)).findIdx? p)) with | some j=>((i+j:Nat):Int) | none=>-1)=match (l.drop (i+1)).findIdx? p with | some j=>((i+1+j:Nat):Int) | none=>-1:=by
          cases (l.drop (i+1)).findIdx? p with
          | none=>rfl
          | some j=>show ((i+(j+1):Nat):Int)=((i+1+j:Nat):Int);omega
        rw [h2]
        cases hL:Lim (q283_F1 (R E) Lim E.glob) (q283_s1 x f l.length ((i+1:Nat):Int) h) with
        | none=>rw [hL] at h1;cases h1
        | some w =>
          have hr:q283_F1 (R E) Lim E.glob (q283_s1 x f l.length (i:Int) h)=some (.normal,q283_s1 x f l.length ((i+1:Nat):Int) h):=by rw [q283_r1,if_pos (by simp;omega),g1,if_pos g2,g3,hp,asB_ok,hb,if_neg (by simp),g_succ (by omega)]
          rw [Lim_next hr hL]
          rw [hL] at h1;exact h1
  have h1:=loop l.length 0 (by omega)
  refine R_intro hE.fn ?_
  rw [q283_eq,hx.len,show (0:Int)=((0:Nat):Int) from rfl,h1,List.drop_zero]
  cases l.findIdx? p with
  | none=>rfl
  | some j=>show some ([AV.c (Cell.int .i64 ((0+j:Nat):Int))],h)=_;rw [Nat.zero_add]
theorem came_R (hE:q273_In E) {x:Cell} {l:List Stp} {h:AHeap} (hx:SlAt h x 7 (stepsC l) l.length) (hlow:Low h.length x) (hl:l.length<9223372036854775807) (m:Int) {s:Nat} (hs:s<l.length) :
    R E 273 [.c x,.c (.int .i64 m),.c (.int .i64 (s:Int))] h=some ([.c (.int .i64 (cameT l m s))],h):=by
  refine R_intro hE.fn ?_
  have hq:=List.getElem?_eq_getElem hs
  generalize hqq:l[s]=q at hq
  have hb:blk? (h++[some ⟨true,0,[.int .i64 (s:Int)]⟩]) h.length=some ⟨true,0,[.int .i64 (s:Int)]⟩:=blk_new _ _
  have hx':=hx.keep hlow (Kp.app [some ⟨true,0,[.int .i64 (s:Int)]⟩] (Nat.le_refl h.length))
  have kp:Kp h.length h (h++[some ⟨true,0,[.int .i64 (s:Int)]⟩]):=Kp.app _ (Nat.le_refl _)
  have hav:∀v:Int,∀x∈([AV.c (Cell.int .i64 v)]:List AV),avOk h.length x=true:=fun v x hx=>by
    rw [List.mem_singleton] at hx;subst hx;simp [avOk,AV.cells,idOk]
  obtain ⟨off,c,g1,g2,g3⟩:=hx'.stepG hq
  rw [q273_eq,show AV.cells (.c (.int .i64 (s:Int)))=[.int .i64 (s:Int)] from rfl,rdH_ok hb rfl,atK_ok (show ([.int .i64 (s:Int)]:List Cell)[0]? = some (.int .i64 (s:Int)) from rfl),asI_ok,g1,if_pos g2,g3,Writes_R hE.c257,c1_ok,asB_ok]
  unfold cameT
  rw [hq]
  dsimp only
  by_cases hw:wrS q m=true
  · rw [if_pos hw,if_pos hw,rdH_ok hb rfl,atK_ok (show ([.int .i64 (s:Int)]:List Cell)[0]? = some (.int .i64 (s:Int)) from rfl),asI_ok]
    exact finish_gc kp (hav _)
  · rw [if_neg hw,if_neg hw,idx_Step_R hE.c283 hx' hl (isCame s) (fun i _ α F=>?_),c1_ok,asI_ok]
    · exact finish_gc kp (hav _)
    · show c1 (R E 282 ([.agg i.cs]++[.c (.ptr h.length 1 0)]) _) F=_
      have:R E 282 [.agg i.cs,.c (.ptr h.length 1 0)] (h++[some ⟨true,0,[.int .i64 (s:Int)]⟩])=some ([.c (.bool (isCame s i))],h++[some ⟨true,0,[.int .i64 (s:Int)]⟩]):=by
        refine R_intro hE.c282.fn ?_
        rw [q282_eq,stp_kind,asI_ok,stp_frm,asI_ok,rdH_ok (N:=1) hb rfl,atK_ok (show ([.int .i64 (s:Int)]:List Cell)[0]? = some (.int .i64 (s:Int)) from rfl),asI_ok,scK_and]
        rfl
      rw [List.singleton_append,this,c1_ok]
theorem reading_R (hE:q267_In E) {x:Cell} {l:List Stp} {h:AHeap} (hx:SlAt h x 7 (stepsC l) l.length) (hlow:Low h.length x) (hl:l.length≤64) (m:Int) {i:Nat} {s:Stp} (hs:l[i]? = some s) (q:Nat→Nat→Bool) :
    R E 267 [.agg (relL l.length (ACC l.length q)),.c x,.c (.int .i64 m),.c (.int .i64 (i:Int))] h=some ([.agg (relL l.length (ACC l.length fun a b=>q a b||readE l m i s a b))],h):=by
  have hi:i<l.length:=by
    rcases Nat.lt_or_ge i l.length with h1 | h1
    · exact h1
    · rw [List.getElem?_eq_none h1] at hs;cases hs
  have rl:∀p,(relL l.length (ACC l.length p)).length=65:=fun p=>relL_len _ _
  have loop:∀(f:Int) (p:Nat→Nat→Bool),-1≤f→f<l.length→Lim (q267_F1 (R E) Lim E.glob) (q267_s1 x m (i:Int) (E.glob.wrap .i64 (f+1)) (relL l.length (ACC l.length p)) zeroL s.cs h) =
      some (.exit 0,q267_x1_1 (relL l.length (ACC l.length fun a b=>p a b||(decide (a=i)&&decide (f<(b:Int))&&b != i&&wrE l m s.loc b))) zeroL h):=by
    intro f p h1 h2
    obtain ⟨k0,hk0⟩:=Int.eq_ofNat_of_zero_le (show 0≤f+1 by omega)
    rw [g_wrap_i64 (by omega) (by omega),hk0]
    have key:∀(n k:Nat),k+n=l.length→k0≤k→Lim (q267_F1 (R E) Lim E.glob) (q267_s1 x m (i:Int) (k:Int) (relL l.length (ACC l.length fun a b=>p a b||(decide (a=i)&&decide (f<(b:Int))&&b != i&&wrE l m s.loc b&&decide (b<k)))) zeroL s.cs h) =
        some (.exit 0,q267_x1_1 (relL l.length (ACC l.length fun a b=>p a b||(decide (a=i)&&decide (f<(b:Int))&&b != i&&wrE l m s.loc b))) zeroL h):=by
      intro n
      induction n with
      | zero =>
        intro k hk hkk
        rw [Lim_exit (show q267_F1 (R E) Lim E.glob (q267_s1 x m (i:Int) (k:Int) (relL l.length (ACC l.length fun a b=>p a b||(decide (a=i)&&decide (f<(b:Int))&&b != i&&wrE l m s.loc b&&decide (b<k)))) zeroL s.cs h)=some (.exit 0,q267_x1_1 (relL l.length (ACC l.length fun a b=>p a b||(decide (a=i)&&decide (f<(b:Int))&&b != i&&wrE l m s.loc b&&decide (b<k)))) zeroL h) by
          rw [q267_r1,hx.len,if_neg (by simp;omega)])]
        rw [ACC_eq hl (q':=fun a b=>p a b||(decide (a=i)&&decide (f<(b:Int))&&b != i&&wrE l m s.loc b)) (fun a b _ hb=>by rw [decide_eq_true (show b<k by omega),Bool.and_true])]
      | succ n ih =>
        intro k hk hkk
        have hq:l[k]? = some l[k]:=List.getElem?_eq_getElem (by omega)
        generalize l[k]=b at hq
        obtain ⟨off,c,g1,g2,g3⟩:=hx.stepG hq
        have hwr:wrE l m s.loc k=(wrS b m&&b.loc==s.loc):=by unfold wrE;rw [hq]
        have hfk:decide (f<(k:Int))=true:=decide_eq_true (by omega)
        have e1:q267_F1 (R E) Lim E.glob (q267_s1 x m (i:Int) (k:Int) (relL l.length (ACC l.length fun a b=>p a b||(decide (a=i)&&decide (f<(b:Int))&&b != i&&wrE l m s.loc b&&decide (b<k)))) zeroL s.cs h) =
            some (.normal,q267_s1 x m (i:Int) ((k+1:Nat):Int) (relL l.length (ACC l.length fun a b=>p a b||(decide (a=i)&&decide (f<(b:Int))&&b != i&&wrE l m s.loc b&&decide (b<k+1)))) zeroL s.cs h):=by
          have hne:((k:Int) != (i:Int))=(k != i):=by rw [Bool.eq_iff_iff,bne_iff_ne,bne_iff_ne];omega
          have stay:(k != i&&wrE l m s.loc k)=false→relL l.length (ACC l.length fun a b=>p a b||(decide (a=i)&&decide (f<(b:Int))&&b != i&&wrE l m s.loc b&&decide (b<k+1)))=relL l.length (ACC l.length fun a b=>p a b||(decide (a=i)&&decide (f<(b:Int))&&b != i&&wrE l m s.loc b&&decide (b<k))):=fun hno=>by
            refine ACC_eq hl fun a b _ _=>?_
            by_cases hbk:b=k
            · subst hbk
              rw [decide_eq_false (show ¬b<b by omega)]
              rw [Bool.and_assoc (decide (a=i)&&decide (f<(b:Int))),hno]
              simp
            · rw [show decide (b<k+1)=decide (b<k) by rw [decide_eq_decide];omega]
          have add:(k != i&&wrE l m s.loc k)=true→relL l.length (addR l.length (ACC l.length fun a b=>p a b||(decide (a=i)&&decide (f<(b:Int))&&b != i&&wrE l m s.loc b&&decide (b<k))) (i:Int) (k:Int))=relL l.length (ACC l.length fun a b=>p a b||(decide (a=i)&&decide (f<(b:Int))&&b != i&&wrE l m s.loc b&&decide (b<k+1))):=fun hy=>by
            refine ACC_add hl hi (by omega) fun a b _ _=>?_
            by_cases hbk:b=k
            · subst hbk
              rw [decide_eq_false (show ¬b<b by omega),decide_eq_true (show b<b+1 by omega),Bool.and_assoc (decide (a=i)&&decide (f<(b:Int))),hy,hfk]
              simp
            · rw [show decide (b<k+1)=decide (b<k) by rw [decide_eq_decide];omega,decide_eq_false hbk]
              simp
          rw [q267_r1,hx.len,if_pos (by simp;omega),hne]
          by_cases hki:(k != i)=true
          · rw [hki,scK_ok,g1,if_pos g2,g3,Writes_R hE.c257,qh_ok,c1_ok,asB_ok,bind_ok]
            dsimp only
            by_cases hw:wrS b m=true
            · rw [hw,scK_ok,hx.sfld hq (j:=3) (by omega) (c:=.int .i64 b.loc) rfl,asI_ok,stp_loc,asI_ok,bind_ok]
              dsimp only
              by_cases hlc:(b.loc==s.loc)=true
              · have hy:(k != i&&wrE l m s.loc k)=true:=by rw [hki,hwr,hw,hlc];rfl
                rw [hlc,if_pos rfl,if_pos ⟨by trivial,rl _⟩,Add_R hE.c10 hl (w_ACC _ _),c1_ok,asA_ok,if_pos ⟨by trivial,rl _,relL_len _ _⟩,add hy,g_succ (by omega)]
              · have hno:(k != i&&wrE l m s.loc k)=false:=by rw [hwr,show (b.loc==s.loc)=false by simpa using hlc,Bool.and_false,Bool.and_false]
                rw [if_neg hlc,stay hno,g_succ (by omega)]
            · have hno:(k != i&&wrE l m s.loc k)=false:=by rw [hwr,show wrS b m=false by simpa using hw,Bool.false_and,Bool.and_false]
              rw [show wrS b m=false by simpa using hw,scK_ft,if_neg (by simp),stay hno,g_succ (by omega)]
          · have hki':(k != i)=false:=by simpa using hki
            have hno:(k != i&&wrE l m s.loc k)=false:=by rw [hki',Bool.false_and]
            rw [hki',scK_ft,scK_ft,if_neg (by simp),stay hno,g_succ (by omega)]
        rw [Lim_next e1 (ih (k+1) (by omega) (by omega))]
    have h3:=key (l.length - k0) k0 (by omega) (Nat.le_refl _)
    rw [ACC_eq hl (q':=p) (fun a b _ _=>by
      by_cases hb:b<k0
      · rw [decide_eq_false (show ¬f<(b:Int) by omega)];simp
      · rw [decide_eq_false hb];simp)] at h3
    exact h3
  obtain ⟨off,c,g1,g2,g3⟩:=hx.stepG hs
  refine R_intro hE.fn ?_
  rw [q267_eq,g1,if_pos g2,g3,if_pos ⟨by trivial,by rfl,by rfl⟩,stp_frm,asI_ok]
  have fin:∀(f:Int) (p:Nat→Nat→Bool),-1≤f→f<l.length→(q267_k2 (R E) Lim E.glob h) .normal (q267_c1 x m (i:Int) f (relL l.length (ACC l.length p)) zeroL s.cs h) =
      some ([.agg (relL l.length (ACC l.length fun a b=>p a b||(decide (a=i)&&decide (f<(b:Int))&&b != i&&wrE l m s.loc b)))],h):=fun f p h1 h2=>by
    rw [q267_ec1_n,loop f p h1 h2,bind_ok]
    dsimp only
    rw [q267_e1_1,if_pos ⟨by trivial,rl _⟩,if_pos ⟨by trivial,zero_len,rl _⟩,if_pos ⟨by trivial,rl _⟩]
  by_cases h0:0≤s.frm
  · by_cases hn:s.frm<l.length
    · obtain ⟨g,hg⟩:=Int.eq_ofNat_of_zero_le h0
      have hgl:g<l.length:=by omega
      have hgq:=List.getElem?_eq_getElem hgl
      generalize l[g]=sg at hgq
      have hc:=cameT_lt l m g
      have hfar:farE l s=(sg.t != s.t):=by
        unfold farE
        rw [hg,Int.toNat_natCast,hgq,decide_eq_true (show (0:Int)≤(g:Int)∧(g:Int)<l.length by omega)]
        rfl
      rw [decide_eq_true (show s.frm≥0 from h0),scK_ok,stp_frm,asI_ok,hx.len,decide_eq_true hn,bind_ok]
      dsimp only
      rw [if_pos rfl,stp_frm,asI_ok,hg,came_R hE.c273 hx hlow (by omega) m hgl,c1_ok,asI_ok]
      have hfr:fromE l m s=if cameT l m g<0 then none else some (cameT l m g):=by
        unfold fromE
        rw [if_pos ⟨h0,hn⟩,hg,Int.toNat_natCast]
      by_cases hcn:cameT l m g<0
      · rw [decide_eq_true hcn,if_pos rfl,if_pos ⟨by trivial,rl _⟩,if_pos ⟨by trivial,zero_len,rl _⟩,bind_ok]
        dsimp only
        rw [q267_ec1_0,if_pos ⟨by trivial,rl _⟩]
        rw [if_pos hcn] at hfr
        rw [ACC_eq hl (q':=fun a b=>q a b||readE l m i s a b) (fun a b _ _=>by unfold readE;rw [hfr];simp)]
      · rw [if_neg hcn] at hfr
        obtain ⟨c',hc'⟩:=Int.eq_ofNat_of_zero_le (show 0≤cameT l m g by omega)
        rw [decide_eq_false hcn,if_neg (by simp),stp_frm,asI_ok,hg,hx.sfld hgq (j:=1) (by omega) (c:=.int .i64 sg.t) rfl,asI_ok,stp_t,asI_ok]
        by_cases hft:(sg.t != s.t)=true
        · rw [if_pos hft,if_pos ⟨by trivial,rl _⟩,Add_R hE.c10 hl (w_ACC _ _),c1_ok,asA_ok,if_pos ⟨by trivial,rl _,relL_len _ _⟩,bind_ok]
          dsimp only
          rw [hc',ACC_add hl (q':=fun a b=>q a b||(decide (a=c')&&decide (b=i))) (by omega) hi (fun a b _ _=>rfl)]
          have h9:=fin (c':Int) (fun a b=>q a b||(decide (a=c')&&decide (b=i))) (by omega) (by omega)
          refine h9.trans ?_
          rw [ACC_eq hl (q':=fun a b=>q a b||readE l m i s a b) (fun a b _ _=>by
            unfold readE
            rw [hfr,hfar,hft,hc']
            dsimp only
            rw [Int.toNat_natCast,decide_eq_true (show (0:Int)≤(c':Int) by omega)]
            simp [Bool.or_assoc])]
        · rw [if_neg hft,bind_ok]
          dsimp only
          have h9:=fin (cameT l m g) q (by omega) (by omega)
          refine h9.trans ?_
          rw [ACC_eq hl (q':=fun a b=>q a b||readE l m i s a b) (fun a b _ _=>by
            unfold readE
            rw [hfr,hfar,show (sg.t != s.t)=false by simpa using hft]
            simp)]
    · have hfr:fromE l m s=some (-1):=by unfold fromE;rw [if_neg (by omega)]
      rw [decide_eq_true (show s.frm≥0 from h0),scK_ok,stp_frm,asI_ok,hx.len,decide_eq_false hn,bind_ok]
      dsimp only
      rw [if_neg (by simp),bind_ok]
      dsimp only
      have h9:=fin (-1) q (by omega) (by omega)
      refine h9.trans ?_
      rw [ACC_eq hl (q':=fun a b=>q a b||readE l m i s a b) (fun a b _ _=>by
        unfold readE
        rw [hfr]
        simp)]
  · have hfr:fromE l m s=some (-1):=by unfold fromE;rw [if_neg (by omega)]
    rw [decide_eq_false (show ¬s.frm≥0 from h0),scK_ft,if_neg (by simp),bind_ok]
    dsimp only
    have h9:=fin (-1) q (by omega) (by omega)
    refine h9.trans ?_
    rw [ACC_eq hl (q':=fun a b=>q a b||readE l m i s a b) (fun a b _ _=>by
      unfold readE
      rw [hfr]
      simp)]
end
end Jq

namespace Jq
open Go
def stageE (l:List Stp) (m:Int) (i k a b:Nat):Bool:=(decide (a<b)&&edgeE l m a b&&(decide (a<i)||(decide (a=i)&&decide (b<k))))||(List.range i).any fun j=>rdE l m j a b
theorem any_succ (p:Nat→Bool) (i:Nat):(List.range (i+1)).any p=((List.range i).any p||p i):=by
  rw [List.range_succ,List.any_append];simp
theorem stage_end (l:List Stp) (m:Int) {a b:Nat} (ha:a<l.length):stageE l m l.length 0 a b=baseE l m a b:=by
  unfold stageE baseE
  rw [decide_eq_true ha,Bool.true_or,Bool.and_true]
theorem stage_next (l:List Stp) (m:Int) {i a b:Nat} (hb:b<l.length):stageE l m (i+1) 0 a b=(stageE l m i l.length a b||rdE l m i a b):=by
  unfold stageE
  rw [any_succ,decide_eq_true hb,Bool.and_true,decide_eq_false (Nat.not_lt_zero b),Bool.and_false,Bool.or_false,show decide (a<i+1)=(decide (a<i)||decide (a=i)) by rw [Bool.eq_iff_iff,Bool.or_eq_true,decide_eq_true_eq,decide_eq_true_eq,decide_eq_true_eq];omega,Bool.or_assoc]
section
variable {E:Env}
theorem HB_R (hE:q255_In E) {x:Cell} {l:List Stp} {h:AHeap} (hx:SlAt h x 7 (stepsC l) l.length) (hlow:Low h.length x) (hl:l.length≤64) (m:Int) :
    R E 255 [.c x,.c (.int .i64 m)] h=some ([.agg (relL l.length (hbF l m))],h):=by
  have rl:∀p,(relL l.length (ACC l.length p)).length=65:=fun p=>relL_len _ _
  have hcl:clamp (l.length:Int)=l.length:=by unfold clamp;omega
  have inner:∀(i:Nat) (a:Stp),l[i]? = some a→Lim (q255_F1 (R E) Lim E.glob) (q255_s1 x m (i:Int) ((i+1:Nat):Int) x (l.length:Int) (i:Int) zeroL (relL l.length (ACC l.length (stageE l m i 0))) a.cs h) =
      some (.exit 2,q255_x1_3 x m (i:Int) x (l.length:Int) (i:Int) zeroL (relL l.length (ACC l.length (stageE l m i l.length))) a.cs h):=by
    intro i a ha
    have hi:i<l.length:=by
      rcases Nat.lt_or_ge i l.length with h1 | h1
      · exact h1
      · rw [List.getElem?_eq_none h1] at ha;cases ha
    have key:=Lim_count (F:=q255_F1 (R E) Lim E.glob) (fun k=>q255_s1 x m (i:Int) (k:Int) x (l.length:Int) (i:Int) zeroL (relL l.length (ACC l.length (stageE l m i k))) a.cs h) (i+1) l.length (by omega) (p:=(.exit 2,q255_x1_3 x m (i:Int) x (l.length:Int) (i:Int) zeroL (relL l.length (ACC l.length (stageE l m i l.length))) a.cs h)) (fun k hk1 hk=>by
      have hq:l[k]? = some l[k]:=List.getElem?_eq_getElem hk
      generalize l[k]=b at hq
      obtain ⟨off,c,g1,g2,g3⟩:=hx.stepG hq
      have he:edgeE l m i k=pairE a b m i:=by unfold edgeE;rw [ha,hq]
      have hstep:q255_F1 (R E) Lim E.glob (q255_s1 x m (i:Int) (k:Int) x (l.length:Int) (i:Int) zeroL (relL l.length (ACC l.length (stageE l m i k))) a.cs h) =
          if pairE a b m i=true then some (.normal,q255_s1 x m (i:Int) ((k+1:Nat):Int) x (l.length:Int) (i:Int) zeroL (relL l.length (addR l.length (ACC l.length (stageE l m i k)) (i:Int) (k:Int))) a.cs h) else some (.normal,q255_s1 x m (i:Int) ((k+1:Nat):Int) x (l.length:Int) (i:Int) zeroL (relL l.length (ACC l.length (stageE l m i k))) a.cs h):=by
        rw [q255_r1,hx.len,if_pos (by simp;omega),g1,if_pos g2,g3,if_pos ⟨by trivial,by rfl,by rfl⟩,if_pos ⟨by trivial,by rfl⟩,Writes_R hE.c257,c1_ok,asB_ok,if_pos ⟨by trivial,by rfl⟩,Writes_R hE.c257,c1_ok,asB_ok,scK_and,stp_loc,asI_ok,stp_loc,asI_ok,scK_and,stp_pick,asI_ok,stp_pick,asI_ok,scK_or,stp_kind,asI_ok,stp_frm,asI_ok,scK_and,scK_or,
          stp_kind,asI_ok,stp_t,asI_ok,stp_t,asI_ok,scK_and,if_pos ⟨by trivial,by rfl⟩,Fences_R hE.c265,c1_ok,asB_ok,scK_and,scK_or]
        show (if pairE a b m i=true then _ else _)=_
        by_cases hp:pairE a b m i=true
        · rw [if_pos hp,if_pos hp,if_pos ⟨by trivial,rl _⟩,Add_R hE.c10 hl (w_ACC _ _),c1_ok,asA_ok,if_pos ⟨by trivial,rl _,relL_len _ _⟩,g_succ (by omega)]
        · rw [if_neg hp,if_neg hp,g_succ (by omega)]
      rw [hstep]
      by_cases hp:pairE a b m i=true
      · rw [if_pos hp,ACC_add hl (q':=stageE l m i (k+1)) hi hk (fun a' b' _ _=>by
          unfold stageE
          by_cases h1:a'=i∧b'=k
          · rw [h1.1,h1.2,he,hp,decide_eq_true (show i<k by omega)];simp
          · have:(decide (a'=i)&&decide (b'<k+1))=(decide (a'=i)&&decide (b'<k)):=by
              rw [Bool.eq_iff_iff];simp;omega
            rw [this,show (decide (a'=i)&&decide (b'=k))=false by simpa using h1,Bool.or_false])]
      · rw [if_neg hp,ACC_eq hl (q':=stageE l m i (k+1)) (fun a' b' _ _=>by
          unfold stageE
          by_cases h1:a'=i∧b'=k
          · rw [h1.1,h1.2,he,show pairE a b m i=false by simpa using hp];simp
          · have:(decide (a'=i)&&decide (b'<k+1))=(decide (a'=i)&&decide (b'<k)):=by
              rw [Bool.eq_iff_iff];simp;omega
            rw [this])]) (Lim_exit (by rw [q255_r1,hx.len,if_neg (by simp)]))
    rw [ACC_eq hl (q':=stageE l m i 0) (fun a' b' _ _=>by
      unfold stageE
      by_cases h1:a'=i∧b'<i+1
      · rw [h1.1,decide_eq_false (show ¬i<b' by omega)];simp
      · rw [show (decide (a'=i)&&decide (b'<i+1))=false by simpa using h1];simp)] at key
    exact key
  have outer:Lim (q255_F2 (R E) Lim E.glob) (q255_s2 x m x (l.length:Int) ((0:Nat):Int) zeroL (relL l.length (ACC l.length (stageE l m 0 0))) h)=some (.exit 0,q255_x2_1 zeroL (relL l.length (ACC l.length (stageE l m l.length 0))) h) :=
    Lim_count (F:=q255_F2 (R E) Lim E.glob) (fun i=>q255_s2 x m x (l.length:Int) (i:Int) zeroL (relL l.length (ACC l.length (stageE l m i 0))) h) 0 l.length (by omega) (fun i _ hi=>by
      have hq:l[i]? = some l[i]:=List.getElem?_eq_getElem hi
      generalize l[i]=a at hq
      obtain ⟨off,c,g1,g2,g3⟩:=hx.stepG hq
      rw [q255_r2,if_pos (by simp;omega),g1,if_pos g2,g3,if_pos ⟨by trivial,by rfl,by rfl⟩,g_succ (by omega),inner i a hq,bind_ok]
      dsimp only
      rw [q255_e1_3,if_pos ⟨by trivial,by rfl⟩,Reads_R hE.c266,c1_ok,asB_ok]
      by_cases hr:rdS a=true
      · rw [if_pos hr,if_pos ⟨by trivial,rl _⟩,reading_R hE.c267 hx hlow hl m hq,c1_ok,asA_ok,if_pos ⟨by trivial,rl _,rl _⟩,g_succ (by omega),ACC_eq hl (q':=stageE l m (i+1) 0) (fun a' b' _ hb'=>by
          rw [stage_next l m hb']
          have:rdE l m i a' b'=readE l m i a a' b':=by unfold rdE;rw [hq];dsimp only;rw [hr,Bool.true_and]
          rw [this])]
      · rw [if_neg hr,g_succ (by omega),ACC_eq hl (q':=stageE l m (i+1) 0) (fun a' b' _ hb'=>by
          rw [stage_next l m hb']
          have:rdE l m i a' b'=false:=by unfold rdE;rw [hq];dsimp only;rw [show rdS a=false by simpa using hr,Bool.false_and]
          rw [this,Bool.or_false])]) (Lim_exit (by rw [q255_r2,if_neg (by simp)]))
  refine R_intro hE.fn ?_
  rw [q255_eq,hx.len,if_neg (by simp;omega),hx.len,New_R hE.c9,c1_ok,asA_ok,hcl]
  have h0:relL l.length (fun _=>0)=relL l.length (ACC l.length (stageE l m 0 0)):=(ACC_none hl fun a b _ _=>by
    unfold stageE
    simp).symm
  rw [if_pos ⟨by trivial,zero_len,relL_len _ _⟩,hx.len,h0]
  refine (congrArg (fun z=>Option.bind z fun p_75=>(q255_k3 (R E) Lim E.glob h) p_75.1 p_75.2) outer).trans ?_
  rw [bind_ok]
  dsimp only
  have hfn:ACC l.length (stageE l m l.length 0)=ACC l.length (baseE l m):=by
    funext a
    unfold ACC
    congr 1
    funext b
    by_cases ha:a<l.length
    · rw [stage_end l m ha]
    · rw [decide_eq_false ha];rfl
  rw [hfn,q255_e2_1,if_pos ⟨by trivial,rl _⟩,Closure_R hE.c12 hl (w_ACC _ _),c1_ok,asA_ok,if_pos ⟨by trivial,zero_len,relL_len _ _⟩,if_pos ⟨by trivial,relL_len _ _⟩]
  rfl
theorem HB_many (hE:q255_In E) {x:Cell} {l:List Stp} {h:AHeap} (hx:SlAt h x 7 (stepsC l) l.length) (hl:64<l.length) (m:Int) :
    R E 255 [.c x,.c (.int .i64 m)] h=some ([.agg (relL 0 fun _=>0)],h):=by
  refine R_intro hE.fn ?_
  rw [q255_eq,hx.len,if_pos (by simp;omega),New_R hE.c9,c1_ok,asA_ok,show clamp 0=0 from rfl,if_pos ⟨by trivial,zero_len,relL_len _ _⟩,if_pos ⟨by trivial,relL_len _ _⟩]
end
end Jq

namespace Jq
open Go
variable (C:CallF) (L:LoopF) (G:Glo)
set_option maxRecDepth 100000 in
theorem q94_eq (l0:List Cell) (a1:Int) (h0:AHeap):q94.body C L G [(.agg l0),(.c (.int .i64 a1))] h0=if 0=0∧l0.length=3 then c1 (C 113 [(.agg l0),(.c (.int .i64 a1))] h0) fun y_2 h_1=>asC y_2 fun x_3=>c1 (C 114 [(.c x_3),(.agg [Cell.int .i64 0,Cell.int .i64 0,Cell.int .i64 0,Cell.int .i64 0,Cell.int .i64 0])] h_1) fun y_5 h_4=>asA y_5 fun l_6=>if 0=0∧[Cell.int .i64 0,Cell.int .i64 0,Cell.int .i64 0,Cell.int .i64 0,Cell.int .i64 0].length=5∧l_6.length=5 then if 0=0∧l_6.length=5 then some ([(.agg l_6)],h_4) else none else none else none:=by kernel_rfl
def q102_k2 (C:CallF) (L:LoopF) (G:Glo) (h0:AHeap):Ex→St→Option (List AV × AHeap):=kSeq (fun st=>q102_p1.exec C L G st (q102.fin G h0)) (q102.fin G h0)
def q102_k3 (C:CallF) (L:LoopF) (G:Glo) (h0:AHeap):Ex→St→Option (List AV × AHeap):=kBlk 0 (q102_k2 C L G h0)
def q102_s1 (a3:Int) (x7:Cell) (a8 a9:Int) (h:AHeap):St:=⟨tops 3 (.v (.c (.int .i64 a3)) :: tops 3 (.v (.c x7) :: .v (.c (.int .i64 a8)) :: .v (.c (.int .i64 a9)) :: tops 9 [])),[none],h⟩
def q102_F1 (C:CallF) (L:LoopF) (G:Glo):St→Option (Ex × St):=roundF (fun st f=>q102_b1.exec C L G st f) [3,7,8,9] [] [(1,[3],[])]
def q102_x1_1 (a3:Int) (h:AHeap):St:=⟨tops 3 (.v (.c (.int .i64 a3)) :: tops 15 []),[none],h⟩
theorem q102_r1 (a3:Int) (x7:Cell) (a8 a9:Int) (h:AHeap):q102_F1 C L G (q102_s1 a3 x7 a8 a9 h)=if (decide (a9<a8))=true then idxSK 1 x7 a9 fun k_3 N_4 o_5=>rdH h k_3 N_4 fun l_6=>atK l_6 o_5 fun q_7=>lenK q_7 fun n_8=>some (.normal,(q102_s1 (G.wrap .i64 (a3+n_8)) x7 a8 (G.wrap .i64 (a9+1)) h)) else some ((.exit 0),(q102_x1_1 a3 h)):=by kernel_rfl
theorem q102_e1_1 (h0:AHeap) (a3:Int) (h:AHeap):(q102_k3 C L G h0) (.exit 0) (q102_x1_1 a3 h)=some ([(.c (.int .i64 a3))],h):=by kernel_rfl
set_option maxRecDepth 100000 in
theorem q102_eq (l0:List Cell) (h0:AHeap):q102.body C L G [(.agg l0)] h0=atK l0 2 fun q_1=>lenK q_1 fun n_2=>(L (q102_F1 C L G) (q102_s1 0 q_1 n_2 0 h0)).bind fun p_9=>(q102_k3 C L G h0) p_9.1 p_9.2:=by kernel_rfl
set_option maxRecDepth 100000 in
theorem q105_eq (l0:List Cell) (a1:Int) (l2:List Cell) (h0:AHeap):q105.body C L G [(.agg l0),(.c (.int .i64 a1)),(.agg l2)] h0=if 0=0∧l0.length=3 then c1 (C 113 [(.agg l0),(.c (.int .i64 a1))] h0) fun y_2 h_1=>asC y_2 fun x_3=>atK l2 0 fun q_4=>asI .i64 (.c q_4) fun n_5=>scK (decide (n_5<0)) false (atK l2 0 fun q_6=>asI .i64 (.c q_6) fun n_7=>lenK x_3 fun n_8=>some ((decide (n_7≥n_8)),h_1)) true h_1 fun b_9 h_10=>if b_9=true then if 0=0∧(List.replicate 9 (Cell.int .i64 0)).length=9∧(List.replicate 9 (Cell.int .i64 0)).length=9 then if 0=0∧(List.replicate 9 (Cell.int .i64 0)).length=9 then some ([(.agg (List.replicate 9 (Cell.int .i64 0))),(.c (.bool false))],h_10) else none else none else atK l2 0 fun q_11=>asI .i64 (.c q_11) fun n_12=>idxSK 9 x_3 n_12 fun k_13 N_14 o_15=>rdH h_10 k_13 N_14 fun l_16=>if o_15+9≤l_16.length then if 0=0∧(List.replicate 9 (Cell.int .i64 0)).length=9∧((l_16.drop o_15).take 9).length=9 then atK ((l_16.drop o_15).take 9) 0 fun q_17=>asI .i64 (.c q_17) fun n_18=>scK (decide (n_18<1)) false (atK ((l_16.drop o_15).take 9) 0 fun q_19=>asI .i64 (.c q_19) fun n_20=>some ((decide (n_20 > 4)),h_10)) true h_10 fun b_21 h_22=>if b_21=true then if 0=0∧(List.replicate 9 (Cell.int .i64 0)).length=9∧(List.replicate 9 (Cell.int .i64 0)).length=9 then if 0=0∧(List.replicate 9 (Cell.int .i64 0)).length=9 then some ([(.agg (List.replicate 9 (Cell.int .i64 0))),(.c (.bool false))],h_22) else none else none else if 0=0∧((l_16.drop o_15).take 9).length=9 then if 0=0∧(List.replicate 9 (Cell.int .i64 0)).length=9∧((l_16.drop o_15).take 9).length=9 then if 0=0∧((l_16.drop o_15).take 9).length=9 then some ([(.agg ((l_16.drop o_15).take 9)),(.c (.bool true))],h_22) else none else none else none else none else none else none:=by kernel_rfl
set_option maxRecDepth 100000 in
theorem q106_eq (l0:List Cell) (a1:Int) (l2:List Cell) (a3:Int) (h0:AHeap):q106.body C L G [(.agg l0),(.c (.int .i64 a1)),(.agg l2),(.c (.int .i64 a3))] h0=if 0=0∧l0.length=3 then rdH (h0++[some (Blk.mk true 0 (AV.cells (.agg l2)))]) h0.length ((AV.cells (.agg l2)).length) fun l_1=>if 0=0∧l_1.length=5 then c2 (C 105 [(.agg l0),(.c (.int .i64 a1)),(.agg l_1)] (h0++[some (Blk.mk true 0 (AV.cells (.agg l2)))])) fun y_3 y_4 h_2=>asA y_3 fun l_5=>asB y_4 fun b_6=>if 0=0∧(List.replicate 9 (Cell.int .i64 0)).length=9∧l_5.length=9 then if (!b_6)=true then rdH h_2 h0.length ((AV.cells (.agg l2)).length) fun l_7=>if 0=0∧l_7.length=5 then if 0=0∧[Cell.int .i64 0,Cell.int .i64 0,Cell.int .i64 0,Cell.int .i64 0,Cell.int .i64 0].length=5∧l_7.length=5 then if 0=0∧l_7.length=5 then finish true h0 [(.agg l_7)] h_2 else none else none else none else atK l_5 0 fun q_8=>asI .i64 (.c q_8) fun n_9=>scK (n_9==2) false (atK l_5 0 fun q_10=>asI .i64 (.c q_10) fun n_11=>some ((n_11==4),h_2)) true h_2 fun b_12 h_13=>if b_12=true then atK l_5 1 fun q_14=>asI .i64 (.c q_14) fun n_15=>c0 (C 124 [(.c (.ptr h0.length ((AV.cells (.agg l2)).length) 0)),(.c (.int .i64 n_15)),(.c (.int .i64 a3))] h_13) fun h_16=>rdH h_16 h0.length ((AV.cells (.agg l2)).length) fun l_17=>atK l_17 0 fun q_18=>asI .i64 (.c q_18) fun n_19=>rdH h_16 h0.length ((AV.cells (.agg l2)).length) fun l_20=>if 0<l_20.length then putH h_16 h0.length (l_20.set 0 (.int .i64 (G.wrap .i64 (n_19+1)))) fun h_21=>if 0=0∧l0.length=3 then c1 (qh h_21 (C 113 [(.agg l0),(.c (.int .i64 a1))] h_21)) fun y_23 h_22=>asC y_23 fun x_24=>rdH h_21 h0.length ((AV.cells (.agg l2)).length) fun l_25=>if 0=0∧l_25.length=5 then c1 (qh h_21 (C 114 [(.c x_24),(.agg l_25)] h_21)) fun y_27 h_26=>asA y_27 fun l_28=>if 0=0∧[Cell.int .i64 0,Cell.int .i64 0,Cell.int .i64 0,Cell.int .i64 0,Cell.int .i64 0].length=5∧l_28.length=5 then if 0=0∧l_28.length=5 then finish true h0 [(.agg l_28)] h_21 else none else none else none else none else none else rdH h_13 h0.length ((AV.cells (.agg l2)).length) fun l_29=>atK l_29 0 fun q_30=>asI .i64 (.c q_30) fun n_31=>rdH h_13 h0.length ((AV.cells (.agg l2)).length) fun l_32=>if 0<l_32.length then putH h_13 h0.length (l_32.set 0 (.int .i64 (G.wrap .i64 (n_31+1)))) fun h_33=>if 0=0∧l0.length=3 then c1 (qh h_33 (C 113 [(.agg l0),(.c (.int .i64 a1))] h_33)) fun y_35 h_34=>asC y_35 fun x_36=>rdH h_33 h0.length ((AV.cells (.agg l2)).length) fun l_37=>if 0=0∧l_37.length=5 then c1 (qh h_33 (C 114 [(.c x_36),(.agg l_37)] h_33)) fun y_39 h_38=>asA y_39 fun l_40=>if 0=0∧[Cell.int .i64 0,Cell.int .i64 0,Cell.int .i64 0,Cell.int .i64 0,Cell.int .i64 0].length=5∧l_40.length=5 then if 0=0∧l_40.length=5 then finish true h0 [(.agg l_40)] h_33 else none else none else none else none else none else none else none else none:=by kernel_rfl
set_option maxRecDepth 100000 in
theorem q108_eq (l0 l1:List Cell) (h0:AHeap):q108.body C L G [(.agg l0),(.agg l1)] h0=atK l0 0 fun q_1=>asI .i64 (.c q_1) fun n_2=>scK (decide (n_2≥0)) true (atK l0 0 fun q_3=>asI .i64 (.c q_3) fun n_4=>some ((decide (n_4<4)),h0)) false h0 fun b_5 h_6=>if b_5=true then atK l0 0 fun q_7=>asI .i64 (.c q_7) fun n_8=>if 0≤n_8∧n_8<((4:Nat):Int) then atK l1 (1+((Int.toNat n_8)*1)) fun q_9=>asI .i64 (.c q_9) fun n_10=>some ([(.c (.int .i64 n_10))],h_6) else none else atK l0 1 fun q_11=>asI .i64 (.c q_11) fun n_12=>some ([(.c (.int .i64 n_12))],h_6):=by kernel_rfl
set_option maxRecDepth 100000 in
theorem q113_eq (l0:List Cell) (a1:Int) (h0:AHeap):q113.body C L G [(.agg l0),(.c (.int .i64 a1))] h0=scK (decide (a1<0)) false (atK l0 2 fun q_1=>lenK q_1 fun n_2=>some ((decide (a1≥n_2)),h0)) true h0 fun b_3 h_4=>if b_3=true then some ([(.c .nils)],h_4) else atK l0 2 fun q_5=>idxSK 1 q_5 a1 fun k_6 N_7 o_8=>rdH h_4 k_6 N_7 fun l_9=>atK l_9 o_8 fun q_10=>some ([(.c q_10)],h_4):=by kernel_rfl
def q114_k2 (C:CallF) (L:LoopF) (G:Glo) (h0:AHeap):Ex→St→Option (List AV × AHeap):=kSeq (fun st=>q114_p1.exec C L G st (q114.fin G h0)) (q114.fin G h0)
def q114_k3 (C:CallF) (L:LoopF) (G:Glo) (h0:AHeap):Ex→St→Option (List AV × AHeap):=kBlk 0 (q114_k2 C L G h0)
def q114_s1 (x0:Cell) (k3 N3 o3:Nat) (s0:List Cell) (h:AHeap):St:=⟨.v (.c x0) :: tops 2 (.v (.c (.ptr k3 N3 o3)) :: .loc 0 0 :: tops 67 []),[some s0,none],h⟩
def q114_F1 (C:CallF) (L:LoopF) (G:Glo):St→Option (Ex × St):=roundF (fun st f=>q114_b1.exec C L G st f) [0,3,4] [0] [(0,[4],[0]),(1,[3,4],[0])]
def q114_x1_0 (s0:List Cell) (h:AHeap):St:=⟨tops 4 (.loc 0 0 :: tops 67 []),[some s0,none],h⟩
def q114_x1_1 (k3 N3 o3:Nat) (s0:List Cell) (h:AHeap):St:=⟨tops 3 (.v (.c (.ptr k3 N3 o3)) :: .loc 0 0 :: tops 67 []),[some s0,none],h⟩
theorem q114_r1 (x0:Cell) (k3 N3 o3:Nat) (s0:List Cell) (h:AHeap):q114_F1 C L G (q114_s1 x0 k3 N3 o3 s0 h)=rdH h k3 N3 fun l_1=>atK l_1 (o3+0) fun q_2=>asI .i64 (.c q_2) fun n_3=>scK (decide (n_3≥0)) true (rdH h k3 N3 fun l_4=>atK l_4 (o3+0) fun q_5=>asI .i64 (.c q_5) fun n_6=>lenK x0 fun n_7=>some ((decide (n_6<n_7)),h)) false h fun b_8 h_9=>if b_8=true then rdH h_9 k3 N3 fun l_10=>atK l_10 (o3+0) fun q_11=>asI .i64 (.c q_11) fun n_12=>idxSK 9 x0 n_12 fun k_13 N_14 o_15=>rdH h_9 k_13 N_14 fun l_16=>if o_15+9≤l_16.length then if 0=0∧(List.replicate 9 (Cell.int .i64 0)).length=9∧((l_16.drop o_15).take 9).length=9 then if 3+2≤((l_16.drop o_15).take 9).length then rdH h_9 k3 N3 fun l_17=>if o3=0∧l_17.length=5 then c1 (qh h_9 (C 108 [(.agg ((((l_16.drop o_15).take 9).drop 3).take 2)),(.agg l_17)] h_9)) fun y_19 h_18=>asI .i64 y_19 fun n_20=>if 6+2≤((l_16.drop o_15).take 9).length then rdH h_9 k3 N3 fun l_21=>if o3=0∧l_21.length=5 then c1 (qh h_9 (C 108 [(.agg ((((l_16.drop o_15).take 9).drop 6).take 2)),(.agg l_21)] h_9)) fun y_23 h_22=>asI .i64 y_23 fun n_24=>atK ((l_16.drop o_15).take 9) 0 fun q_25=>asI .i64 (.c q_25) fun n_26=>if (n_26==5)=true then atK ((l_16.drop o_15).take 9) 5 fun q_27=>asI .i64 (.c q_27) fun n_28=>c2 (C 125 [(.c (.int .i64 n_28)),(.c (.int .i64 n_20)),(.c (.int .i64 n_24))] h_9) fun y_30 y_31 h_29=>asI .i64 y_30 fun n_32=>asB y_31 fun b_33=>if b_33=true then atK ((l_16.drop o_15).take 9) 1 fun q_34=>asI .i64 (.c q_34) fun n_35=>c0 (C 124 [(.c (.ptr k3 N3 o3)),(.c (.int .i64 n_35)),(.c (.int .i64 n_32))] h_29) fun h_36=>rdH h_36 k3 N3 fun l_37=>atK l_37 (o3+0) fun q_38=>asI .i64 (.c q_38) fun n_39=>rdH h_36 k3 N3 fun l_40=>if (o3+0)<l_40.length then putH h_36 k3 (l_40.set (o3+0) (.int .i64 (G.wrap .i64 (n_39+1)))) fun h_41=>some (.normal,(q114_s1 x0 k3 N3 o3 s0 h_41)) else none else atK ((l_16.drop o_15).take 9) 1 fun q_42=>asI .i64 (.c q_42) fun n_43=>c0 (C 124 [(.c (.ptr k3 N3 o3)),(.c (.int .i64 n_43)),(.c (.int .i64 n_20))] h_29) fun h_44=>rdH h_44 k3 N3 fun l_45=>atK l_45 (o3+0) fun q_46=>asI .i64 (.c q_46) fun n_47=>rdH h_44 k3 N3 fun l_48=>if (o3+0)<l_48.length then putH h_44 k3 (l_48.set (o3+0) (.int .i64 (G.wrap .i64 (n_47+1)))) fun h_49=>some (.normal,(q114_s1 x0 k3 N3 o3 s0 h_49)) else none else if (n_26==6)=true then if (n_20==n_24)=true then rdH h_9 k3 N3 fun l_50=>atK l_50 (o3+0) fun q_51=>asI .i64 (.c q_51) fun n_52=>atK ((l_16.drop o_15).take 9) 8 fun q_53=>asI .i64 (.c q_53) fun n_54=>lenK x0 fun n_55=>let v_56:Int:=(if n_55<(if 0 > n_54 then 0 else n_54) then n_55 else (if 0 > n_54 then 0 else n_54));rdH h_9 k3 N3 fun l_57=>if (o3+0)<l_57.length then putH h_9 k3 (l_57.set (o3+0) (.int .i64 (G.wrap .i64 (n_52+v_56)))) fun h_58=>rdH h_58 k3 N3 fun l_59=>atK l_59 (o3+0) fun q_60=>asI .i64 (.c q_60) fun n_61=>rdH h_58 k3 N3 fun l_62=>if (o3+0)<l_62.length then putH h_58 k3 (l_62.set (o3+0) (.int .i64 (G.wrap .i64 (n_61+1)))) fun h_63=>some (.normal,(q114_s1 x0 k3 N3 o3 s0 h_63)) else none else none else rdH h_9 k3 N3 fun l_64=>atK l_64 (o3+0) fun q_65=>asI .i64 (.c q_65) fun n_66=>rdH h_9 k3 N3 fun l_67=>if (o3+0)<l_67.length then putH h_9 k3 (l_67.set (o3+0) (.int .i64 (G.wrap .i64 (n_66+1)))) fun h_68=>some (.normal,(q114_s1 x0 k3 N3 o3 s0 h_68)) else none else rdH h_9 k3 N3 fun l_69=>if o3=0∧l_69.length=5 then if 0=0∧s0.length=5∧l_69.length=5 then some (.ret,(q114_x1_0 l_69 h_9)) else none else none else none else none else none else none else none else none else some ((.exit 0),(q114_x1_1 k3 N3 o3 s0 h_9)):=by kernel_rfl
theorem q114_e1_0 (h0:AHeap) (s0:List Cell) (h:AHeap):(q114_k3 C L G h0) .ret (q114_x1_0 s0 h)=if 0=0∧s0.length=5 then finish true h0 [(.agg s0)] h else none:=by kernel_rfl
theorem q114_e1_1 (h0:AHeap) (k3 N3 o3:Nat) (s0:List Cell) (h:AHeap):(q114_k3 C L G h0) (.exit 0) (q114_x1_1 k3 N3 o3 s0 h)=rdH h k3 N3 fun l_70=>if o3=0∧l_70.length=5 then if 0=0∧s0.length=5∧l_70.length=5 then if 0=0∧l_70.length=5 then finish true h0 [(.agg l_70)] h else none else none else none:=by kernel_rfl
set_option maxRecDepth 100000 in
theorem q114_eq (x0:Cell) (l1:List Cell) (h0:AHeap):q114.body C L G [(.c x0),(.agg l1)] h0=(L (q114_F1 C L G) (q114_s1 x0 h0.length ((AV.cells (.agg l1)).length) 0 [Cell.int .i64 0,Cell.int .i64 0,Cell.int .i64 0,Cell.int .i64 0,Cell.int .i64 0] (h0++[some (Blk.mk true 0 (AV.cells (.agg l1)))]))).bind fun p_71=>(q114_k3 C L G h0) p_71.1 p_71.2:=by kernel_rfl
set_option maxRecDepth 100000 in
theorem q124_eq (k0 N0 o0:Nat) (a1 a2:Int) (h0:AHeap):q124.body C L G [(.c (.ptr k0 N0 o0)),(.c (.int .i64 a1)),(.c (.int .i64 a2))] h0=scK (decide (a1≥0)) true (some ((decide (a1<4)),h0)) false h0 fun b_1 h_2=>if b_1=true then if 0≤a1∧a1<((4:Nat):Int) then rdH h_2 k0 N0 fun l_3=>if ((o0+1)+((Int.toNat a1)*1))<l_3.length then putH h_2 k0 (l_3.set ((o0+1)+((Int.toNat a1)*1)) (.int .i64 a2)) fun h_4=>some ([],h_4) else none else none else some ([],h_2):=by kernel_rfl
def q188_k2 (C:CallF) (L:LoopF) (G:Glo) (h0:AHeap):Ex→St→Option (List AV × AHeap):=kSeq (fun st=>q188_p1.exec C L G st (q188.fin G h0)) (q188.fin G h0)
def q188_k3 (C:CallF) (L:LoopF) (G:Glo) (h0:AHeap):Ex→St→Option (List AV × AHeap):=kBlk 0 (q188_k2 C L G h0)
def q188_s1 (k1 N1 o1:Nat) (x39:Cell) (a40 a41:Int) (h:AHeap):St:=⟨tops 1 (.v (.c (.ptr k1 N1 o1)) :: tops 37 (.v (.c x39) :: .v (.c (.int .i64 a40)) :: .v (.c (.int .i64 a41)) :: tops 45 [])),[],h⟩
def q188_F1 (C:CallF) (L:LoopF) (G:Glo):St→Option (Ex × St):=roundF (fun st f=>q188_b1.exec C L G st f) [1,39,40,41] [] [(0,[2],[]),(1,[1],[])]
def q188_x1_0 (b2:Bool) (h:AHeap):St:=⟨tops 2 (.v (.c (.bool b2)) :: tops 84 []),[],h⟩
def q188_x1_1 (k1 N1 o1:Nat) (h:AHeap):St:=⟨tops 1 (.v (.c (.ptr k1 N1 o1)) :: tops 85 []),[],h⟩
def q188_k4 (C:CallF) (L:LoopF) (G:Glo) (h0:AHeap):Ex→St→Option (List AV × AHeap):=kSeq (fun st=>q188_p2.exec C L G st (q188.fin G h0)) (q188.fin G h0)
def q188_k5 (C:CallF) (L:LoopF) (G:Glo) (h0:AHeap):Ex→St→Option (List AV × AHeap):=kBlk 2 (q188_k4 C L G h0)
def q188_s2 (k5 N5 o5:Nat) (x67:Cell) (a68 a69:Int) (h:AHeap):St:=⟨tops 5 (.v (.c (.ptr k5 N5 o5)) :: tops 61 (.v (.c x67) :: .v (.c (.int .i64 a68)) :: .v (.c (.int .i64 a69)) :: tops 17 [])),[],h⟩
def q188_F2 (C:CallF) (L:LoopF) (G:Glo):St→Option (Ex × St):=roundF (fun st f=>q188_b2.exec C L G st f) [5,67,68,69] [] [(0,[2],[]),(3,[],[])]
def q188_x2_0 (b2:Bool) (h:AHeap):St:=⟨tops 2 (.v (.c (.bool b2)) :: tops 84 []),[],h⟩
def q188_x2_3 (h:AHeap):St:=⟨tops 87 [],[],h⟩
theorem q188_r1 (k1 N1 o1:Nat) (x39:Cell) (a40 a41:Int) (h:AHeap):q188_F1 C L G (q188_s1 k1 N1 o1 x39 a40 a41 h)=if (decide (a41<a40))=true then idxSK 1 x39 a41 fun k_31 N_32 o_33=>rdH h k_31 N_32 fun l_34=>atK l_34 o_33 fun q_35=>asI .u8 (.c q_35) fun n_36=>c1 (C 158 [(.c (.int .i64 (G.wrap .i64 n_36)))] h) fun y_38 h_37=>asB y_38 fun b_39=>scK (!b_39) false (scK (decide (a41 > 0)) true (rdH h_37 k1 N1 fun l_40=>atK l_40 (o1+0) fun q_41=>idxSK 1 q_41 (G.wrap .i64 (a41 - 1)) fun k_42 N_43 o_44=>rdH h_37 k_42 N_43 fun l_45=>atK l_45 o_44 fun q_46=>asI .u8 (.c q_46) fun n_47=>some ((decide (n_36≤n_47)),h_37)) false h_37 fun b_48 h_49=>some (b_48,h_49)) true h_37 fun b_50 h_51=>if b_50=true then some (.ret,(q188_x1_0 false h_51)) else some (.normal,(q188_s1 k1 N1 o1 x39 a40 (G.wrap .i64 (a41+1)) h_51)) else some ((.exit 0),(q188_x1_1 k1 N1 o1 h)):=by kernel_rfl
theorem q188_e1_0 (h0:AHeap) (b2:Bool) (h:AHeap):(q188_k3 C L G h0) .ret (q188_x1_0 b2 h)=finish true h0 [(.c (.bool b2))] h:=by kernel_rfl
theorem q188_r2 (k5 N5 o5:Nat) (x67:Cell) (a68 a69:Int) (h:AHeap):q188_F2 C L G (q188_s2 k5 N5 o5 x67 a68 a69 h)=if (decide (a69<a68))=true then idxSK 1 x67 a69 fun k_57 N_58 o_59=>rdH h k_57 N_58 fun l_60=>atK l_60 o_59 fun q_61=>lenK q_61 fun n_62=>scK (decide (n_62 > 10)) false (c1 (C 148 [(.c q_61)] h) fun y_64 h_63=>asB y_64 fun b_65=>some ((!b_65),h_63)) true h fun b_66 h_67=>scK b_66 false (c1 (C 155 [(.c q_61),(.c (.fn 201 [(k5,N5,o5)]))] h_67) fun y_69 h_68=>asB y_69 fun b_70=>some (b_70,h_68)) true h_67 fun b_71 h_72=>if b_71=true then some (.ret,(q188_x2_0 false h_72)) else some (.normal,(q188_s2 k5 N5 o5 x67 a68 (G.wrap .i64 (a69+1)) h_72)) else some ((.exit 2),(q188_x2_3 h)):=by kernel_rfl
theorem q188_e2_0 (h0:AHeap) (b2:Bool) (h:AHeap):(q188_k5 C L G h0) .ret (q188_x2_0 b2 h)=finish true h0 [(.c (.bool b2))] h:=by kernel_rfl
theorem q188_e2_3 (h0:AHeap) (h:AHeap):(q188_k5 C L G h0) (.exit 2) (q188_x2_3 h)=finish true h0 [(.c (.bool true))] h:=by kernel_rfl
theorem q188_e1_1 (h0:AHeap) (k1 N1 o1:Nat) (h:AHeap):(q188_k3 C L G h0) (.exit 0) (q188_x1_1 k1 N1 o1 h)=rdH (h++[some (Blk.mk true 0 ([Cell.nilf]))]) h.length (([Cell.nilf]).length) fun l_52=>if 0<l_52.length then putH (h++[some (Blk.mk true 0 ([Cell.nilf]))]) h.length (l_52.set 0 (.fn 200 [(k1,N1,o1)])) fun h_53=>rdH h_53 k1 N1 fun l_54=>atK l_54 (o1+2) fun q_55=>lenK q_55 fun n_56=>(L (q188_F2 C L G) (q188_s2 h.length (([Cell.nilf]).length) 0 q_55 n_56 0 h_53)).bind fun p_73=>(q188_k5 C L G h0) p_73.1 p_73.2 else none:=by kernel_rfl
set_option maxRecDepth 100000 in
theorem q188_eq (l0:List Cell) (h0:AHeap):q188.body C L G [(.agg l0)] h0=rdH (h0++[some (Blk.mk true 0 (AV.cells (.agg l0)))]) h0.length ((AV.cells (.agg l0)).length) fun l_1=>atK l_1 2 fun q_2=>lenK q_2 fun n_3=>scK (n_3==0) false (rdH (h0++[some (Blk.mk true 0 (AV.cells (.agg l0)))]) h0.length ((AV.cells (.agg l0)).length) fun l_4=>atK l_4 2 fun q_5=>lenK q_5 fun n_6=>some ((decide (n_6 > 4)),(h0++[some (Blk.mk true 0 (AV.cells (.agg l0)))]))) true (h0++[some (Blk.mk true 0 (AV.cells (.agg l0)))]) fun b_7 h_8=>scK b_7 false (rdH h_8 h0.length ((AV.cells (.agg l0)).length) fun l_9=>atK l_9 0 fun q_10=>lenK q_10 fun n_11=>some ((decide (n_11 > 4)),h_8)) true h_8 fun b_12 h_13=>scK b_12 false (rdH h_13 h0.length ((AV.cells (.agg l0)).length) fun l_14=>atK l_14 1 fun q_15=>lenK q_15 fun n_16=>rdH h_13 h0.length ((AV.cells (.agg l0)).length) fun l_17=>atK l_17 0 fun q_18=>lenK q_18 fun n_19=>some ((n_16 != n_19),h_13)) true h_13 fun b_20 h_21=>scK b_20 false (rdH h_21 h0.length ((AV.cells (.agg l0)).length) fun l_22=>if 0=0∧l_22.length=3 then c1 (C 102 [(.agg l_22)] h_21) fun y_24 h_23=>asI .i64 y_24 fun n_25=>some ((decide (n_25 > 24)),h_23) else none) true h_21 fun b_26 h_27=>if b_26=true then finish true h0 [(.c (.bool false))] h_27 else rdH h_27 h0.length ((AV.cells (.agg l0)).length) fun l_28=>atK l_28 0 fun q_29=>lenK q_29 fun n_30=>(L (q188_F1 C L G) (q188_s1 h0.length ((AV.cells (.agg l0)).length) 0 q_29 n_30 0 h_27)).bind fun p_74=>(q188_k3 C L G h0) p_74.1 p_74.2:=by kernel_rfl
set_option maxRecDepth 100000 in
theorem q200_eq (a0:Int) (k1 N1 o1:Nat) (h0:AHeap):q200.body C L G [(.c (.int .i64 a0)),(.c (.ptr k1 N1 o1))] h0=scK (decide (a0≥0)) true (rdH h0 k1 N1 fun l_1=>atK l_1 (o1+0) fun q_2=>lenK q_2 fun n_3=>some ((decide (a0<n_3)),h0)) false h0 fun b_4 h_5=>some ([(.c (.bool b_4))],h_5):=by kernel_rfl
set_option maxRecDepth 100000 in
theorem q201_eq (l0:List Cell) (k1 N1 o1:Nat) (h0:AHeap):q201.body C L G [(.agg l0),(.c (.ptr k1 N1 o1))] h0=if 0=0∧l0.length=9 then rdH h0 k1 N1 fun l_1=>atK l_1 o1 fun q_2=>c1 (C 159 [(.agg l0),(.c q_2)] h0) fun y_4 h_3=>asB y_4 fun b_5=>some ([(.c (.bool (!b_5)))],h_3) else none:=by kernel_rfl
end Jq

namespace Jq
open Go
variable (C:CallF) (L:LoopF) (G:Glo)
set_option maxRecDepth 100000 in
theorem q125_eq (a0 a1 a2:Int) (h0:AHeap):q125.body C L G [(.c (.int .i64 a0)),(.c (.int .i64 a1)),(.c (.int .i64 a2))] h0=if (a0==1)=true then some ([(.c (.int .i64 (G.wrap .i64 (a1+a2)))),(.c (.bool true))],h0) else if (a0==2)=true then some ([(.c (.int .i64 (G.wrap .i64 (a1 - a2)))),(.c (.bool true))],h0) else if (a0==3)=true then some ([(.c (.int .i64 (G.wrap .i64 (a1*a2)))),(.c (.bool true))],h0) else if (a0==4)=true then some ([(.c (.int .i64 (G.band .i64 a1 a2))),(.c (.bool true))],h0) else if (a0==5)=true then some ([(.c (.int .i64 (G.bor .i64 a1 a2))),(.c (.bool true))],h0) else if (a0==6)=true then some ([(.c (.int .i64 (G.bxor .i64 a1 a2))),(.c (.bool true))],h0) else if (a0==7)=true then if (G.rem .u64 (G.wrap .u64 a2) 64)<0 then none else let v_1:Int:=(G.shl .i64 a1 (G.rem .u64 (G.wrap .u64 a2) 64));some ([(.c (.int .i64 v_1)),(.c (.bool true))],h0) else if (a0==8)=true then if (G.rem .u64 (G.wrap .u64 a2) 64)<0 then none else let v_2:Int:=(G.shr .i64 a1 (G.rem .u64 (G.wrap .u64 a2) 64));some ([(.c (.int .i64 v_2)),(.c (.bool true))],h0) else if (a0==9)=true then c1 (C 139 [(.c (.bool (a1==a2)))] h0) fun y_4 h_3=>asI .i64 y_4 fun n_5=>some ([(.c (.int .i64 n_5)),(.c (.bool true))],h_3) else if (a0==10)=true then c1 (C 139 [(.c (.bool (a1 != a2)))] h0) fun y_7 h_6=>asI .i64 y_7 fun n_8=>some ([(.c (.int .i64 n_8)),(.c (.bool true))],h_6) else if (a0==11)=true then c1 (C 139 [(.c (.bool (decide (a1<a2))))] h0) fun y_10 h_9=>asI .i64 y_10 fun n_11=>some ([(.c (.int .i64 n_11)),(.c (.bool true))],h_9) else some ([(.c (.int .i64 0)),(.c (.bool false))],h0):=by kernel_rfl
set_option maxRecDepth 100000 in
theorem q139_eq (b0:Bool) (h0:AHeap):q139.body C L G [(.c (.bool b0))] h0=if b0=true then some ([(.c (.int .i64 1))],h0) else some ([(.c (.int .i64 0))],h0):=by kernel_rfl
end Jq

namespace Jq
open Go
structure Opd where
  reg:Int
  val:Int
  deriving DecidableEq
structure Ins where
  kind:Int
  reg:Int
  loc:Int
  a:Opd
  op:Int
  b:Opd
  n:Int
  deriving DecidableEq
structure Lcl where
  pc:Int
  r0:Int
  r1:Int
  r2:Int
  r3:Int
  deriving DecidableEq
def Opd.cs (o:Opd):List Cell:=[.int .i64 o.reg,.int .i64 o.val]
def Ins.cs (i:Ins):List Cell:=[.int .i64 i.kind,.int .i64 i.reg,.int .i64 i.loc,.int .i64 i.a.reg,.int .i64 i.a.val,.int .i64 i.op,.int .i64 i.b.reg,.int .i64 i.b.val,.int .i64 i.n]
def Lcl.cs (l:Lcl):List Cell:=[.int .i64 l.pc,.int .i64 l.r0,.int .i64 l.r1,.int .i64 l.r2,.int .i64 l.r3]
def codeC (l:List Ins):List Cell:=l.flatMap Ins.cs
def Ins.zero:Ins:=⟨0,0,0,⟨0,0⟩,0,⟨0,0⟩,0⟩
def Lcl.zero:Lcl:=⟨0,0,0,0,0⟩
theorem Ins.len (i:Ins):i.cs.length=9:=rfl
theorem Lcl.len (l:Lcl):l.cs.length=5:=rfl
theorem zero5:[Cell.int .i64 0,Cell.int .i64 0,Cell.int .i64 0,Cell.int .i64 0,Cell.int .i64 0]=Lcl.zero.cs:=rfl
theorem codeC_len:∀l:List Ins,(codeC l).length=l.length*9
  | []=>rfl
  | s :: l=>by simp only [codeC,List.flatMap_cons,List.length_append];rw [show (l.flatMap _).length=_ from codeC_len l,Ins.len];simp;omega
theorem codeC_at:∀(l:List Ins) (i:Nat) (s:Ins),l[i]? = some s→((codeC l).drop (i*9)).take 9=s.cs
  | [],_,_,h=>by simp at h
  | q :: l,0,s,h=>by simp at h;subst h;rfl
  | q :: l,i+1,s,h=>by
    have:=codeC_at l i s (by simpa using h)
    have e:codeC (q :: l)=q.cs++codeC l:=rfl
    rw [e,List.drop_append,List.drop_of_length_le (by rw [Ins.len];omega),List.nil_append,show (i+1)*9 - q.cs.length=i*9 by rw [Ins.len];omega]
    exact this
theorem codeC_snoc (l:List Ins) (s:Ins):codeC (l++[s])=codeC l++s.cs:=by simp [codeC]
theorem SlAt.insG {h:AHeap} {x:Cell} {l:List Ins} (s:SlAt h x 9 (codeC l) l.length) {i:Nat} {q:Ins} (hq:l[i]? = some q) :
    ∃off cs',(∀{α:Type} (G:Nat→List Cell→Option α),(idxSK 9 x (i:Int) fun k N o=>rdH h k N fun l=>G o l)=G off cs')∧off+9≤cs'.length∧(cs'.drop off).take 9=q.cs:=by
  have hi:i<l.length:=by
    rcases Nat.lt_or_ge i l.length with h | h
    · exact h
    · rw [List.getElem?_eq_none h] at hq;cases hq
  obtain ⟨off,cs',h1,h2,h3⟩:=s.elG hi
  exact ⟨off,cs',h1,h2,h3.trans (codeC_at l i q hq)⟩
def Lcl.reg (l:Lcl) (i:Int):Int:=if i=0 then l.r0 else if i=1 then l.r1 else if i=2 then l.r2 else l.r3
def Lcl.setR (l:Lcl) (i v:Int):Lcl:=if i=0 then { l with r0:=v } else if i=1 then { l with r1:=v } else if i=2 then { l with r2:=v } else if i=3 then { l with r3:=v } else l
def opV (o:Opd) (l:Lcl):Int:=if 0≤o.reg∧o.reg<4 then l.reg o.reg else o.val
def GN:Glo:=Glo.std fun _=>[]
def doV (op a b:Int):Option Int :=
  if op=1 then some (GN.wrap .i64 (a+b)) else if op=2 then some (GN.wrap .i64 (a - b)) else if op=3 then some (GN.wrap .i64 (a*b))
  else if op=4 then some (GN.band .i64 a b) else if op=5 then some (GN.bor .i64 a b) else if op=6 then some (GN.bxor .i64 a b)
  else if op=7 then some (GN.shl .i64 a (GN.rem .u64 (GN.wrap .u64 b) 64)) else if op=8 then some (GN.shr .i64 a (GN.rem .u64 (GN.wrap .u64 b) 64))
  else if op=9 then some (if a=b then 1 else 0) else if op=10 then some (if a=b then 0 else 1) else if op=11 then some (if a<b then 1 else 0) else none
def stepI (code:List Ins) (l:Lcl):Option Lcl :=
  if 0≤l.pc then match code[l.pc.toNat]? with
    | none=>none
    | some i =>
      if i.kind=5 then
        let m:=l.setR i.reg ((doV i.op (opV i.a l) (opV i.b l)).getD (opV i.a l))
        some { m with pc:=m.pc+1 }
      else if i.kind=6 then
        (if opV i.a l=opV i.b l then some { l with pc:=l.pc+min (max i.n 0) code.length+1 } else some { l with pc:=l.pc+1 })
      else none
  else none
def nrm (code:List Ins):Nat→Lcl→Lcl
  | 0,l=>l
  | k+1,l=>match stepI code l with
    | none=>l
    | some l'=>nrm code k l'
def normL (code:List Ins) (l:Lcl):Lcl:=nrm code code.length l
theorem getI_lt {α:Type} {l:List α} {i:Nat} {v:α} (h:l[i]? = some v):i<l.length:=by
  rcases Nat.lt_or_ge i l.length with h1 | h1
  · exact h1
  · rw [List.getElem?_eq_none h1] at h;cases h
theorem Lcl.setR_pc (l:Lcl) (i v:Int):(l.setR i v).pc=l.pc:=by unfold Lcl.setR;repeat' split<;>try rfl
theorem stepI_pc {code:List Ins} {l l':Lcl} (h:stepI code l=some l'):0≤l.pc∧l.pc<code.length∧l.pc<l'.pc∧l'.pc≤2*code.length:=by
  unfold stepI at h
  split at h
  · rename_i h0
    cases hi:code[l.pc.toNat]? with
    | none=>rw [hi] at h;cases h
    | some i =>
      rw [hi] at h
      have hlt:=getI_lt hi
      simp only at h
      split at h
      · cases h
        have:=l.setR_pc i.reg ((doV i.op (opV i.a l) (opV i.b l)).getD (opV i.a l))
        refine ⟨h0,by omega,?_,?_⟩<;>simp only [this]<;>omega
      · split at h
        · split at h
          · cases h;refine ⟨h0,by omega,?_,?_⟩<;>simp only<;>omega
          · cases h;refine ⟨h0,by omega,?_,?_⟩<;>simp only<;>omega
        · cases h
  · cases h
section
variable {E:Env}
theorem lcl_get {l:Lcl} {i:Int} (h0:0≤i) (h1:i<4):l.cs[1+Int.toNat i*1]? = some (.int .i64 (l.reg i)):=by
  have h:i=0∨i=1∨i=2∨i=3:=by omega
  rcases h with rfl | rfl | rfl | rfl<;>rfl
theorem lcl_set {l:Lcl} {i v:Int} (h0:0≤i) (h1:i<4):l.cs.set (1+Int.toNat i*1) (.int .i64 v)=(l.setR i v).cs:=by
  have h:i=0∨i=1∨i=2∨i=3:=by omega
  rcases h with rfl | rfl | rfl | rfl<;>rfl
theorem Value_R (hE:q108_In E) (o:Opd) (l:Lcl) (h:AHeap):R E 108 [.agg o.cs,.agg l.cs] h=some ([.c (.int .i64 (opV o l))],h):=by
  refine R_intro hE.fn ?_
  have a0:∀{α:Type} (f:Cell→Option α),atK o.cs 0 f=f (.int .i64 o.reg):=fun _=>rfl
  have a1:∀{α:Type} (f:Cell→Option α),atK o.cs 1 f=f (.int .i64 o.val):=fun _=>rfl
  unfold opV
  rw [q108_eq]
  simp only [a0,a1,asI_ok,scK_and]
  by_cases h1:0≤o.reg∧o.reg<4
  · rw [if_pos (by simp;exact h1),if_pos ⟨h1.1,h1.2⟩,if_pos h1,atK_ok (lcl_get h1.1 h1.2),asI_ok]
  · rw [if_neg (by simp;omega),if_neg h1]
theorem set_R (hE:q124_In E) (i v:Int) {l:Lcl} {k:Nat} {h:AHeap} (hk:blk? h k=some ⟨true,0,l.cs⟩) :
    R E 124 [.c (.ptr k 5 0),.c (.int .i64 i),.c (.int .i64 v)] h=some ([],setBlk h k (some ⟨true,0,(l.setR i v).cs⟩)):=by
  refine R_intro hE.fn ?_
  rw [q124_eq,scK_and]
  by_cases h1:0≤i∧i<4
  · rw [if_pos (by simp;exact h1),if_pos ⟨h1.1,h1.2⟩,rdH_ok hk (Lcl.len l),if_pos (by rw [Lcl.len];omega),show 0+1+Int.toNat i*1=1+Int.toNat i*1 by omega,lcl_set h1.1 h1.2,putH_ok hk rfl]
  · have e:l.setR i v=l:=by unfold Lcl.setR;rw [if_neg (by omega),if_neg (by omega),if_neg (by omega),if_neg (by omega)]
    have e2:setBlk h k (some ⟨true,0,l.cs⟩)=h:=by
      refine List.ext_getElem? fun j=>?_
      unfold setBlk
      rw [List.getElem?_set]
      by_cases hj:k=j
      · subst hj
        rw [if_pos rfl,if_pos (blk_lt' hk)]
        unfold blk? at hk
        cases hh:h[k]? with
        | none=>rw [hh] at hk;cases hk
        | some b=>rw [hh] at hk;simp at hk;rw [hk]
      · rw [if_neg hj]
    rw [if_neg (by simp;omega),e,e2]
theorem one_R (hE:q139_In E) (b:Bool) (h:AHeap):R E 139 [.c (.bool b)] h=some ([.c (.int .i64 (if b=true then 1 else 0))],h):=by
  refine R_intro hE.fn ?_
  rw [q139_eq]
  cases b<;>rfl
theorem Do_R (hE:q125_In E) (op a b:Int) (h:AHeap):R E 125 [.c (.int .i64 op),.c (.int .i64 a),.c (.int .i64 b)] h=some ([.c (.int .i64 ((doV op a b).getD 0)),.c (.bool (doV op a b).isSome)],h):=by
  refine R_intro hE.fn ?_
  rw [q125_eq]
  simp only [one_R hE.c139,c1_ok,asI_ok]
  have hr:∀x:Int,¬E.glob.rem .u64 (E.glob.wrap .u64 x) 64<0:=by
    intro x
    show ¬Int.tmod (IntKind.wrap .u64 x) 64<0
    have h0:0≤IntKind.wrap .u64 x:=by
      simp only [IntKind.wrap,IntKind.signed,IntKind.bits,Bool.false_and,Bool.false_eq_true,if_false]
      exact Int.emod_nonneg _ (by omega)
    rw [Int.tmod_eq_emod_of_nonneg h0]
    have:=Int.emod_nonneg (IntKind.wrap .u64 x) (b:=64) (by omega)
    omega
  simp only [hr,if_false]
  unfold doV
  have key:∀k:Int,((op==k)=true)=(op=k):=fun k=>by rw [beq_iff_eq]
  simp only [key]
  by_cases h1:op=1
  · simp only [if_pos h1];rfl
  simp only [if_neg h1]
  by_cases h2:op=2
  · simp only [if_pos h2];rfl
  simp only [if_neg h2]
  by_cases h3:op=3
  · simp only [if_pos h3];rfl
  simp only [if_neg h3]
  by_cases h4:op=4
  · simp only [if_pos h4];rfl
  simp only [if_neg h4]
  by_cases h5:op=5
  · simp only [if_pos h5];rfl
  simp only [if_neg h5]
  by_cases h6:op=6
  · simp only [if_pos h6];rfl
  simp only [if_neg h6]
  by_cases h7:op=7
  · simp only [if_pos h7];rfl
  simp only [if_neg h7]
  by_cases h8:op=8
  · simp only [if_pos h8];rfl
  simp only [if_neg h8]
  by_cases h9:op=9
  · simp only [if_pos h9];(by_cases hab:a=b<;>simp [hab])
  simp only [if_neg h9]
  by_cases h10:op=10
  · simp only [if_pos h10];(by_cases hab:a=b<;>simp [hab])
  simp only [if_neg h10]
  by_cases h11:op=11
  · simp only [if_pos h11];(by_cases hab:a<b<;>simp [hab])
  simp only [if_neg h11]
  rfl
end
end Jq

namespace Jq
open Go
section
variable {E:Env}
theorem rdL {α:Type} {h:AHeap} {k:Nat} {l:Lcl} (hk:blk? h k=some ⟨true,0,l.cs⟩) {F:List Cell→Option α}:rdH h k 5 F=F l.cs:=rdH_ok hk rfl
theorem lcl_pc {α:Type} {l:Lcl} {f:Cell→Option α}:atK l.cs 0 f=f (.int .i64 l.pc):=rfl
theorem lcl_pc' {α:Type} {l:Lcl} {f:Cell→Option α}:atK l.cs (0+0) f=f (.int .i64 l.pc):=rfl
theorem lcl_setpc {l:Lcl} {v:Int}:l.cs.set 0 (.int .i64 v)=({ l with pc:=v }:Lcl).cs:=rfl
theorem lcl_setpc' {l:Lcl} {v:Int}:l.cs.set (0+0) (.int .i64 v)=({ l with pc:=v }:Lcl).cs:=rfl
theorem ins_kind {α:Type} {i:Ins} {f:Cell→Option α}:atK i.cs 0 f=f (.int .i64 i.kind):=rfl
theorem ins_reg {α:Type} {i:Ins} {f:Cell→Option α}:atK i.cs 1 f=f (.int .i64 i.reg):=rfl
theorem ins_loc {α:Type} {i:Ins} {f:Cell→Option α}:atK i.cs 2 f=f (.int .i64 i.loc):=rfl
theorem ins_op {α:Type} {i:Ins} {f:Cell→Option α}:atK i.cs 5 f=f (.int .i64 i.op):=rfl
theorem ins_n {α:Type} {i:Ins} {f:Cell→Option α}:atK i.cs 8 f=f (.int .i64 i.n):=rfl
theorem ins_a {i:Ins}:(i.cs.drop 3).take 2=i.a.cs:=rfl
theorem ins_b {i:Ins}:(i.cs.drop 6).take 2=i.b.cs:=rfl
theorem avOk_lcl (m:Nat) (l:Lcl):avOk m (.agg l.cs)=true:=by simp [avOk,AV.cells,Lcl.cs,idOk]
theorem normal_round (hE:q114_In E) {x:Cell} {code:List Ins} {h:AHeap} (hlen:code.length<4000000000000000000) (z:List Cell) (l:Lcl) (hx:SlAt (h++[some ⟨true,0,l.cs⟩]) x 9 (codeC code) code.length) :
    q114_F1 (R E) Lim E.glob (q114_s1 x h.length 5 0 z (h++[some ⟨true,0,l.cs⟩]))=match stepI code l with
      | some l'=>some (.normal,q114_s1 x h.length 5 0 z (h++[some ⟨true,0,l'.cs⟩]))
      | none=>if 0≤l.pc∧l.pc<code.length then (if z.length=5 then some (.ret,q114_x1_0 l.cs (h++[some ⟨true,0,l.cs⟩])) else none) else some (.exit 0,q114_x1_1 h.length 5 0 z (h++[some ⟨true,0,l.cs⟩])):=by
  have hb:∀l:Lcl,blk? (h++[some ⟨true,0,l.cs⟩]) h.length=some ⟨true,0,l.cs⟩:=fun l=>blk_new _ _
  rw [q114_r1,rdL (hb l),lcl_pc',asI_ok]
  by_cases h0:0≤l.pc
  · rw [show decide (l.pc≥0)=true from decide_eq_true h0,scK_ok,rdL (hb l),lcl_pc',asI_ok,hx.len,bind_ok]
    dsimp only
    by_cases h1:l.pc<code.length
    · obtain ⟨p,hp⟩:∃p:Nat,l.pc=(p:Int):=⟨l.pc.toNat,by omega⟩
      have hpl:p<code.length:=by omega
      have hq:code[p]? = some code[p]:=List.getElem?_eq_getElem hpl
      generalize code[p]=i at hq
      obtain ⟨off,cs',hG0,hle,hcs⟩:=hx.insG hq
      have hG:∀{α:Type} (G:Nat→List Cell→Option α),(idxSK 9 x l.pc fun k N o=>rdH (h++[some ⟨true,0,l.cs⟩]) k N fun l=>G o l)=G off cs':=by intro α G;rw [hp];exact hG0 G
      have hst:stepI code l=if i.kind=5 then
          some { (l.setR i.reg ((doV i.op (opV i.a l) (opV i.b l)).getD (opV i.a l))) with pc:=(l.setR i.reg ((doV i.op (opV i.a l) (opV i.b l)).getD (opV i.a l))).pc+1 }
        else if i.kind=6 then (if opV i.a l=opV i.b l then some { l with pc:=l.pc+min (max i.n 0) code.length+1 } else some { l with pc:=l.pc+1 }) else none:=by
        unfold stepI
        rw [if_pos h0,show l.pc.toNat=p by omega,hq]
      rw [hst,if_pos (decide_eq_true h1),rdL (hb l),lcl_pc',asI_ok,hG,if_pos hle,hcs,if_pos ⟨rfl,rfl,rfl⟩,if_pos (show 3+2≤i.cs.length by rw [Ins.len];omega),rdL (hb l),if_pos ⟨rfl,rfl⟩,ins_a,Value_R hE.c108,qh_ok,c1_ok,asI_ok,if_pos (show 6+2≤i.cs.length by rw [Ins.len];omega),rdL (hb l),if_pos ⟨rfl,rfl⟩,ins_b,Value_R hE.c108,qh_ok,c1_ok,asI_ok,ins_kind,asI_ok]
      by_cases k5:i.kind=5
      · rw [if_pos (by rw [k5];rfl),if_pos k5,ins_op,asI_ok,Do_R hE.c125,c2_ok,asI_ok,asB_ok]
        cases hd:doV i.op (opV i.a l) (opV i.b l) with
        | some v =>
          have hpc:=l.setR_pc i.reg v
          rw [show (some v:Option Int).isSome=true from rfl,if_pos rfl,ins_reg,asI_ok,set_R hE.c124 _ _ (hb l),setBlk_last,c0_ok,rdL (hb _),lcl_pc',asI_ok,rdL (hb _),if_pos (by rw [Lcl.len];omega),lcl_setpc',putH_ok (hb _) rfl,setBlk_last]
          rw [show (some v:Option Int).getD 0=v from rfl,show (some v:Option Int).getD (opV i.a l)=v from rfl,hpc,g_wrap_i64 (x:=l.pc+1) (by omega) (by omega)]
        | none =>
          have hpc:=l.setR_pc i.reg (opV i.a l)
          rw [show (none:Option Int).isSome=false from rfl,if_neg (by simp),ins_reg,asI_ok,set_R hE.c124 _ _ (hb l),setBlk_last,c0_ok,rdL (hb _),lcl_pc',asI_ok,rdL (hb _),if_pos (by rw [Lcl.len];omega),lcl_setpc',putH_ok (hb _) rfl,setBlk_last]
          rw [show (none:Option Int).getD (opV i.a l)=opV i.a l from rfl,hpc,g_wrap_i64 (x:=l.pc+1) (by omega) (by omega)]
      · rw [if_neg (by rw [beq_iff_eq];exact k5),if_neg k5]
        by_cases k6:i.kind=6
        · rw [if_pos (by rw [k6];rfl),if_pos k6]
          by_cases hab:opV i.a l=opV i.b l
          · have hv:(if (code.length:Int)<(if 0 > i.n then 0 else i.n) then (code.length:Int) else (if 0 > i.n then 0 else i.n))=min (max i.n 0) code.length:=by
              split<;>split at *<;>omega
            rw [if_pos (by rw [hab];exact beq_self_eq_true _),if_pos hab,rdL (hb l),lcl_pc',asI_ok,ins_n,asI_ok,hx.len]
            dsimp only
            rw [hv,rdL (hb l),if_pos (by rw [Lcl.len];omega),lcl_setpc',putH_ok (hb _) rfl,setBlk_last,rdL (hb _),lcl_pc',asI_ok,rdL (hb _),if_pos (by rw [Lcl.len];omega),lcl_setpc',putH_ok (hb _) rfl,setBlk_last]
            dsimp only
            rw [g_wrap_i64 (x:=l.pc+min (max i.n 0) code.length) (by omega) (by omega),g_wrap_i64 (x:=l.pc+min (max i.n 0) code.length+1) (by omega) (by omega)]
          · rw [if_neg (by rw [beq_iff_eq];exact hab),if_neg hab,rdL (hb l),lcl_pc',asI_ok,rdL (hb l),if_pos (by rw [Lcl.len];omega),lcl_setpc',putH_ok (hb _) rfl,setBlk_last,g_wrap_i64 (x:=l.pc+1) (by omega) (by omega)]
        · rw [if_neg (by rw [beq_iff_eq];exact k6),if_neg k6,rdL (hb l),if_pos ⟨rfl,rfl⟩]
          dsimp only
          rw [if_pos (show 0≤l.pc∧l.pc<code.length from ⟨h0,h1⟩)]
          by_cases hz:z.length=5
          · rw [if_pos ⟨rfl,hz,rfl⟩,if_pos hz]
          · rw [if_neg (fun q=>hz q.2.1),if_neg hz]
    · have hst:stepI code l=none:=by
        unfold stepI
        rw [if_pos h0,List.getElem?_eq_none (by omega)]
      rw [hst,if_neg (by simpa using h1)]
      dsimp only
      rw [if_neg (fun q=>h1 q.2)]
  · have hst:stepI code l=none:=by unfold stepI;rw [if_neg h0]
    rw [hst,show decide (l.pc≥0)=false from decide_eq_false h0,scK_ft,if_neg (by simp)]
    dsimp only
    rw [if_neg (fun q=>h0 q.1)]
theorem normal_R (hE:q114_In E) {x:Cell} {code:List Ins} {h:AHeap} (hlen:code.length<4000000000000000000) (hx:SlAt h x 9 (codeC code) code.length) (hlow:Low h.length x) (l:Lcl) :
    R E 114 [.c x,.agg l.cs] h=some ([.agg (normL code l).cs],h):=by
  refine R_intro hE.fn ?_
  have hx':∀l:Lcl,SlAt (h++[some ⟨true,0,l.cs⟩]) x 9 (codeC code) code.length:=fun l=>hx.keep hlow (Kp.app _ (Nat.le_refl _))
  have hb:∀l:Lcl,blk? (h++[some ⟨true,0,l.cs⟩]) h.length=some ⟨true,0,l.cs⟩:=fun l=>blk_new _ _
  have loop:∀(k:Nat) (l:Lcl),(0≤l.pc→(code.length:Int)≤l.pc+k)→(Lim (q114_F1 (R E) Lim E.glob) (q114_s1 x h.length 5 0 Lcl.zero.cs (h++[some ⟨true,0,l.cs⟩]))).bind (fun p=>q114_k3 (R E) Lim E.glob h p.1 p.2)=some ([.agg (nrm code k l).cs],h):=by
    intro k
    have stop:∀l:Lcl,stepI code l=none→(Lim (q114_F1 (R E) Lim E.glob) (q114_s1 x h.length 5 0 Lcl.zero.cs (h++[some ⟨true,0,l.cs⟩]))).bind (fun p=>q114_k3 (R E) Lim E.glob h p.1 p.2)=some ([.agg l.cs],h):=by
      intro l hs
      have hr:=normal_round hE hlen Lcl.zero.cs l (hx' l)
      rw [hs] at hr
      dsimp only at hr
      have fin:finish true h [.agg l.cs] (h++[some ⟨true,0,l.cs⟩])=some ([.agg l.cs],h):=finish_gc (Kp.app _ (Nat.le_refl _)) (by simp [avOk_lcl])
      split at hr
      · rw [if_pos (show Lcl.zero.cs.length=5 from rfl)] at hr
        rw [Lim_ret hr,bind_ok,q114_e1_0,if_pos ⟨rfl,rfl⟩,fin]
      · rw [Lim_exit hr,bind_ok,q114_e1_1,rdL (hb l),if_pos ⟨rfl,rfl⟩,if_pos ⟨rfl,rfl,rfl⟩,if_pos ⟨rfl,rfl⟩,fin]
    induction k with
    | zero =>
      intro l hk
      rw [nrm]
      refine stop l ?_
      cases hs:stepI code l with
      | none=>rfl
      | some l'=>have:=stepI_pc hs;have:=hk this.1;omega
    | succ k ih =>
      intro l hk
      rw [nrm]
      cases hs:stepI code l with
      | none=>exact stop l hs
      | some l' =>
        have hr:=normal_round hE hlen Lcl.zero.cs l (hx' l)
        rw [hs] at hr
        have h3:=stepI_pc hs
        have:=ih l' (fun _=>by have:=hk h3.1;omega)
        cases hL:Lim (q114_F1 (R E) Lim E.glob) (q114_s1 x h.length 5 0 Lcl.zero.cs (h++[some ⟨true,0,l'.cs⟩])) with
        | none=>rw [hL] at this;cases this
        | some p=>rw [Lim_next hr hL];rw [hL] at this;exact this
  have hc:AV.cells (.agg l.cs)=l.cs:=rfl
  rw [q114_eq,hc,Lcl.len]
  exact loop code.length l (fun _=>by omega)
structure PProg where
  locs:List Int
  init:List Int
  thr:List (List Ins)
def ProgAt (h:AHeap) (cs:List Cell) (P:PProg):Prop :=
  ∃a b c ts,cs=[a,b,c]∧(SlAt h a 1 (intC .u8 P.locs) P.locs.length∧Low h.length a)∧(SlAt h b 1 (intC .i64 P.init) P.init.length∧Low h.length b)∧(SlAt h c 1 ts P.thr.length∧Low h.length c) ∧
    ∀(t:Nat) (code:List Ins),P.thr[t]? = some code→∃x:Cell,ts[t]? = some x∧SlAt h x 9 (codeC code) code.length∧Low h.length x
theorem ProgAt.len {h:AHeap} {cs:List Cell} {P:PProg} (p:ProgAt h cs P):cs.length=3:=by
  obtain ⟨a,b,c,ts,rfl,_⟩:=p;rfl
theorem ProgAt.keep {h h':AHeap} {cs:List Cell} {P:PProg} (p:ProgAt h cs P) (hk:Kp h.length h h'):ProgAt h' cs P:=by
  obtain ⟨a,b,c,ts,e,⟨a1,a2⟩,⟨b1,b2⟩,⟨c1,c2⟩,ht⟩:=p
  exact ⟨a,b,c,ts,e,⟨a1.keep a2 hk,Low_mono hk.1 a2⟩,⟨b1.keep b2 hk,Low_mono hk.1 b2⟩,⟨c1.keep c2 hk,Low_mono hk.1 c2⟩,fun t code h1=>by
    obtain ⟨x,x1,x2,x3⟩:=ht t code h1
    exact ⟨x,x1,x2.keep x3 hk,Low_mono hk.1 x3⟩⟩
def PProg.fits (P:PProg):Prop:=P.thr.length<4000000000000000000∧∀code∈P.thr,code.length<4000000000000000000
def PProg.code (P:PProg) (t:Int):List Ins:=if 0≤t then P.thr.getD t.toNat [] else []
theorem PProg.code_fits {P:PProg} (hf:P.fits) (t:Int):(P.code t).length<4000000000000000000:=by
  unfold PProg.code
  split
  · rw [List.getD_eq_getElem?_getD]
    cases h:P.thr[t.toNat]? with
    | none=>show (0:Nat)<_;omega
    | some c=>exact hf.2 c (List.mem_of_getElem? h)
  · show (0:Nat)<_;omega
theorem thread_R (hE:q113_In E) {cs:List Cell} {P:PProg} {h:AHeap} (p:ProgAt h cs P) (t:Int) :
    ∃x,R E 113 [.agg cs,.c (.int .i64 t)] h=some ([.c x],h)∧SlAt h x 9 (codeC (P.code t)) (P.code t).length∧Low h.length x:=by
  obtain ⟨a,b,c,ts,rfl,_,_,⟨hc,hcl⟩,ht⟩:=p
  have a2:∀{α:Type} (f:Cell→Option α),atK [a,b,c] 2 f=f c:=fun _=>rfl
  by_cases h0:0≤t
  · by_cases h1:t.toNat<P.thr.length
    · have hg:P.thr[t.toNat]? = some P.thr[t.toNat]:=List.getElem?_eq_getElem h1
      generalize P.thr[t.toNat]=code at hg
      obtain ⟨x,x1,x2,x3⟩:=ht _ _ hg
      have hcode:P.code t=code:=by unfold PProg.code;rw [if_pos h0,List.getD_eq_getElem?_getD,hg];rfl
      rw [hcode]
      refine ⟨x,R_intro hE.fn ?_,x2,x3⟩
      have hti:t=((t.toNat:Nat):Int):=by omega
      rw [q113_eq,show decide (t<0)=false from decide_eq_false (by omega),scK_ok,a2,hc.len,show decide (t≥(P.thr.length:Int))=false from decide_eq_false (by omega),bind_ok]
      dsimp only
      rw [if_neg (by simp),a2,hc.getAt t.toNat hti h1 x1]
    · have hcode:P.code t=[]:=by unfold PProg.code;rw [if_pos h0,List.getD_eq_getElem?_getD,List.getElem?_eq_none (by omega)];rfl
      rw [hcode]
      refine ⟨.nils,R_intro hE.fn ?_,⟨rfl,.inl ⟨rfl,rfl⟩⟩,trivial⟩
      rw [q113_eq,show decide (t<0)=false from decide_eq_false (by omega),scK_ok,a2,hc.len,show decide (t≥(P.thr.length:Int))=true from decide_eq_true (by omega),bind_ok]
      dsimp only
      rw [if_pos rfl]
  · have hcode:P.code t=[]:=by unfold PProg.code;rw [if_neg h0]
    rw [hcode]
    refine ⟨.nils,R_intro hE.fn ?_,⟨rfl,.inl ⟨rfl,rfl⟩⟩,trivial⟩
    rw [q113_eq,show decide (t<0)=true from decide_eq_true (by omega),scK_tf,if_pos rfl]
def startL (P:PProg) (t:Int):Lcl:=normL (P.code t) Lcl.zero
theorem PStart_R (hE:q94_In E) {cs:List Cell} {P:PProg} {h:AHeap} (hf:P.fits) (p:ProgAt h cs P) (t:Int) :
    R E 94 [.agg cs,.c (.int .i64 t)] h=some ([.agg (startL P t).cs],h):=by
  refine R_intro hE.fn ?_
  obtain ⟨x,hr,hx,hl⟩:=thread_R hE.c113 p t
  rw [q94_eq,if_pos ⟨rfl,p.len⟩,hr,c1_ok,asC_ok,zero5,normal_R hE.c114 (PProg.code_fits hf t) hx hl,c1_ok,asA_ok,if_pos ⟨rfl,rfl,rfl⟩,if_pos ⟨rfl,rfl⟩]
  rfl
def nextI (code:List Ins) (l:Lcl):Option Ins :=
  if 0≤l.pc then match code[l.pc.toNat]? with
    | none=>none
    | some i=>if 1≤i.kind∧i.kind≤4 then some i else none
  else none
theorem nextI_kind {code:List Ins} {l:Lcl} {i:Ins} (h:nextI code l=some i):0≤l.pc∧l.pc<code.length∧code[l.pc.toNat]? = some i∧1≤i.kind∧i.kind≤4:=by
  unfold nextI at h
  split at h
  · rename_i h0
    cases hi:code[l.pc.toNat]? with
    | none=>rw [hi] at h;cases h
    | some j =>
      rw [hi] at h
      simp only at h
      split at h
      · cases h
        have:=getI_lt hi
        rename_i hk
        exact ⟨h0,by omega,rfl,hk⟩
      · cases h
  · cases h
theorem PNext_R (hE:q105_In E) {cs:List Cell} {P:PProg} {h:AHeap} (p:ProgAt h cs P) (t:Int) (l:Lcl) :
    R E 105 [.agg cs,.c (.int .i64 t),.agg l.cs] h=some ([.agg ((nextI (P.code t) l).getD Ins.zero).cs,.c (.bool (nextI (P.code t) l).isSome)],h):=by
  refine R_intro hE.fn ?_
  obtain ⟨x,hr,hx,hlo⟩:=thread_R hE.c113 p t
  generalize P.code t=code at *
  rw [q105_eq,if_pos ⟨rfl,p.len⟩,hr,c1_ok,asC_ok,lcl_pc,asI_ok]
  by_cases h0:0≤l.pc
  · rw [show decide (l.pc<0)=false from decide_eq_false (by omega),scK_ok,lcl_pc,asI_ok,hx.len,bind_ok]
    dsimp only
    by_cases h1:l.pc<code.length
    · obtain ⟨q,hq⟩:∃q:Nat,l.pc=(q:Int):=⟨l.pc.toNat,by omega⟩
      have hql:q<code.length:=by omega
      have hg:code[q]? = some code[q]:=List.getElem?_eq_getElem hql
      generalize code[q]=i at hg
      obtain ⟨off,cs',hG0,hle,hcs⟩:=hx.insG hg
      have hG:∀{α:Type} (G:Nat→List Cell→Option α),(idxSK 9 x l.pc fun k N o=>rdH h k N fun l=>G o l)=G off cs':=by intro α G;rw [hq];exact hG0 G
      have hn:nextI code l=if 1≤i.kind∧i.kind≤4 then some i else none:=by
        unfold nextI
        rw [if_pos h0,show l.pc.toNat=q by omega,hg]
      rw [show decide (l.pc≥(code.length:Int))=false from decide_eq_false (by omega),if_neg (by simp),lcl_pc,asI_ok,hG,if_pos hle,hcs,if_pos ⟨rfl,rfl,rfl⟩,ins_kind,asI_ok,ins_kind,asI_ok,scK_or,hn]
      by_cases hk:1≤i.kind∧i.kind≤4
      · rw [if_neg (by simp;omega),if_pos hk,if_pos ⟨rfl,rfl⟩,if_pos ⟨rfl,rfl,rfl⟩,if_pos ⟨rfl,rfl⟩];rfl
      · rw [if_pos (by simp;omega),if_neg hk,if_pos ⟨rfl,rfl,rfl⟩,if_pos ⟨rfl,rfl⟩];rfl
    · have hn:nextI code l=none:=by unfold nextI;rw [if_pos h0,List.getElem?_eq_none (by omega)]
      rw [show decide (l.pc≥(code.length:Int))=true from decide_eq_true (by omega),if_pos rfl,hn,if_pos ⟨rfl,rfl,rfl⟩,if_pos ⟨rfl,rfl⟩];rfl
  · have hn:nextI code l=none:=by unfold nextI;rw [if_neg h0]
    rw [show decide (l.pc<0)=true from decide_eq_true (by omega),scK_tf,if_pos rfl,hn,if_pos ⟨rfl,rfl,rfl⟩,if_pos ⟨rfl,rfl⟩];rfl
def afterL (code:List Ins) (l:Lcl) (v:Int):Lcl:=match nextI code l with
  | none=>l
  | some i=>normL code { (if i.kind=2∨i.kind=4 then l.setR i.reg v else l) with pc:=l.pc+1 }
theorem PAfter_R (hE:q106_In E) {cs:List Cell} {P:PProg} {h:AHeap} (hf:P.fits) (p:ProgAt h cs P) (t:Int) (l:Lcl) (v:Int) :
    R E 106 [.agg cs,.c (.int .i64 t),.agg l.cs,.c (.int .i64 v)] h=some ([.agg (afterL (P.code t) l v).cs],h):=by
  refine R_intro hE.fn ?_
  have hK:∀b,Kp h.length h (h++[some b]):=fun b=>Kp.app _ (Nat.le_refl _)
  have p':∀b,ProgAt (h++[some b]) cs P:=fun b=>p.keep (hK b)
  have hb:∀l:Lcl,blk? (h++[some ⟨true,0,l.cs⟩]) h.length=some ⟨true,0,l.cs⟩:=fun l=>blk_new _ _
  have fin:∀(m l:Lcl),finish true h [.agg m.cs] (h++[some ⟨true,0,l.cs⟩])=some ([.agg m.cs],h):=fun m l=>finish_gc (hK _) (by simp [avOk_lcl])
  have hc:AV.cells (.agg l.cs)=l.cs:=rfl
  have hfit:=PProg.code_fits hf t
  rw [q106_eq,if_pos ⟨rfl,p.len⟩,hc,Lcl.len,rdL (hb l),if_pos ⟨rfl,rfl⟩,PNext_R hE.c105 (p' _),c2_ok,asA_ok,asB_ok,if_pos ⟨rfl,rfl,rfl⟩]
  unfold afterL
  cases hn:nextI (P.code t) l with
  | none =>
    rw [show (none:Option Ins).isSome=false from rfl,if_pos (show (!false)=true from rfl),rdL (hb l),if_pos ⟨rfl,rfl⟩,if_pos ⟨rfl,rfl,rfl⟩,if_pos ⟨rfl,rfl⟩,fin]
  | some i =>
    obtain ⟨n0,n1,n2,n3,n4⟩:=nextI_kind hn
    rw [show (some i:Option Ins).isSome=true from rfl,if_neg (by simp),show (some i:Option Ins).getD Ins.zero=i from rfl,ins_kind,asI_ok,ins_kind,asI_ok,scK_or]
    by_cases hk:i.kind=2∨i.kind=4
    · have hpc:=l.setR_pc i.reg v
      obtain ⟨x,hr,hx,hlo⟩:=thread_R hE.c113 (p' ⟨true,0,({ (l.setR i.reg v) with pc:=l.pc+1 }:Lcl).cs⟩) t
      rw [if_pos (by rw [Bool.or_eq_true,beq_iff_eq,beq_iff_eq];exact hk),ins_reg,asI_ok,set_R hE.c124 _ _ (hb l),setBlk_last,c0_ok,rdL (hb _),lcl_pc,asI_ok,rdL (hb _),if_pos (by rw [Lcl.len];omega),lcl_setpc,putH_ok (hb _) rfl,setBlk_last,if_pos ⟨rfl,p.len⟩,hpc,g_wrap_i64 (x:=l.pc+1) (by omega) (by omega),hr,qh_ok,c1_ok,asC_ok,rdL (hb _),if_pos ⟨rfl,rfl⟩,normal_R hE.c114 hfit hx hlo,qh_ok,c1_ok,asA_ok,if_pos ⟨rfl,rfl,rfl⟩,if_pos ⟨rfl,rfl⟩,fin]
      dsimp only
      rw [if_pos hk]
    · obtain ⟨x,hr,hx,hlo⟩:=thread_R hE.c113 (p' ⟨true,0,({ l with pc:=l.pc+1 }:Lcl).cs⟩) t
      rw [if_neg (by rw [Bool.or_eq_true,beq_iff_eq,beq_iff_eq];exact hk),rdL (hb _),lcl_pc,asI_ok,rdL (hb _),if_pos (by rw [Lcl.len];omega),lcl_setpc,putH_ok (hb _) rfl,setBlk_last,if_pos ⟨rfl,p.len⟩,g_wrap_i64 (x:=l.pc+1) (by omega) (by omega),hr,qh_ok,c1_ok,asC_ok,rdL (hb _),if_pos ⟨rfl,rfl⟩,normal_R hE.c114 hfit hx hlo,qh_ok,c1_ok,asA_ok,if_pos ⟨rfl,rfl,rfl⟩,if_pos ⟨rfl,rfl⟩,fin]
      dsimp only
      rw [if_neg hk]
end
end Jq

namespace Jq
open Go
variable (C:CallF) (L:LoopF) (G:Glo)
set_option maxRecDepth 100000 in
theorem q93_eq (a0 a1 a2:Int) (h0:AHeap):q93.body C L G [(.c (.int .i64 a0)),(.c (.int .i64 a1)),(.c (.int .i64 a2))] h0=if (a0==1)=true then let v_1:Int:=(G.wrap .u64 ((G.wrap .u64 a1)+(G.wrap .u64 a2)));some ([(.c (.int .i64 (G.wrap .i64 v_1))),(.c (.bool true))],h0) else if (a0==2)=true then let v_2:Int:=(G.wrap .u64 ((G.wrap .u64 a1) - (G.wrap .u64 a2)));some ([(.c (.int .i64 (G.wrap .i64 v_2))),(.c (.bool true))],h0) else if (a0==3)=true then let v_3:Int:=(G.wrap .u64 ((G.wrap .u64 a1)*(G.wrap .u64 a2)));some ([(.c (.int .i64 (G.wrap .i64 v_3))),(.c (.bool true))],h0) else if (a0==4)=true then some ([(.c (.int .i64 (G.band .i64 a1 a2))),(.c (.bool true))],h0) else if (a0==5)=true then some ([(.c (.int .i64 (G.bor .i64 a1 a2))),(.c (.bool true))],h0) else if (a0==6)=true then some ([(.c (.int .i64 (G.bxor .i64 a1 a2))),(.c (.bool true))],h0) else if (a0==7)=true then if (G.rem .u64 (G.wrap .u64 a2) 64)<0 then none else let v_4:Int:=(G.shl .u64 (G.wrap .u64 a1) (G.rem .u64 (G.wrap .u64 a2) 64));some ([(.c (.int .i64 (G.wrap .i64 v_4))),(.c (.bool true))],h0) else if (a0==8)=true then if (G.rem .u64 (G.wrap .u64 a2) 64)<0 then none else let v_5:Int:=(G.shr .i64 a1 (G.rem .u64 (G.wrap .u64 a2) 64));some ([(.c (.int .i64 v_5)),(.c (.bool true))],h0) else if (a0==9)=true then if (a1==a2)=true then some ([(.c (.int .i64 1)),(.c (.bool true))],h0) else some ([(.c (.int .i64 0)),(.c (.bool true))],h0) else if (a0==10)=true then if (a1 != a2)=true then some ([(.c (.int .i64 1)),(.c (.bool true))],h0) else some ([(.c (.int .i64 0)),(.c (.bool true))],h0) else if (a0==11)=true then if (decide (a1<a2))=true then some ([(.c (.int .i64 1)),(.c (.bool true))],h0) else some ([(.c (.int .i64 0)),(.c (.bool true))],h0) else some ([(.c (.int .i64 0)),(.c (.bool false))],h0):=by kernel_rfl
def q121_k2 (C:CallF) (L:LoopF) (G:Glo) (h0:AHeap):Ex→St→Option (List AV × AHeap):=kSeq (fun st=>q121_p1.exec C L G st (q121.fin G h0)) (q121.fin G h0)
def q121_k3 (C:CallF) (L:LoopF) (G:Glo) (h0:AHeap):Ex→St→Option (List AV × AHeap):=kBlk 0 (q121_k2 C L G h0)
def q121_s1 (a4:Int) (s0 s1:List Cell) (h:AHeap):St:=⟨tops 1 (.loc 0 0 :: tops 1 (.loc 1 0 :: .v (.c (.int .i64 a4)) :: tops 93 [])),[some s0,some s1],h⟩
def q121_F1 (C:CallF) (L:LoopF) (G:Glo):St→Option (Ex × St):=roundF (fun st f=>q121_b1.exec C L G st f) [1,3,4] [0,1] [(1,[1,3],[0,1])]
def q121_x1_1 (s0 s1:List Cell) (h:AHeap):St:=⟨tops 1 (.loc 0 0 :: tops 1 (.loc 1 0 :: tops 94 [])),[some s0,some s1],h⟩
def q121_k4 (C:CallF) (L:LoopF) (G:Glo) (h0:AHeap):Ex→St→Option (List AV × AHeap):=kSeq (fun st=>q121_p2.exec C L G st (q121.fin G h0)) (q121.fin G h0)
def q121_k5 (C:CallF) (L:LoopF) (G:Glo) (h0:AHeap):Ex→St→Option (List AV × AHeap):=kBlk 2 (q121_k4 C L G h0)
def q121_s3 (a5:Int) (s0 s1:List Cell) (h:AHeap):St:=⟨tops 1 (.loc 0 0 :: tops 1 (.loc 1 0 :: tops 1 (.v (.c (.int .i64 a5)) :: tops 92 []))),[some s0,some s1],h⟩
def q121_F3 (C:CallF) (L:LoopF) (G:Glo):St→Option (Ex × St):=roundF (fun st f=>q121_b3.exec C L G st f) [1,3,5] [0,1] [(3,[1,3],[0,1])]
def q121_k6 (C:CallF) (L:LoopF) (G:Glo):Ex→St→Option (Ex × St):=kSeq (fun st=>q121_p3.exec C L G st (kLoop [1,3,5] [0,1] [(3,[1,3],[0,1])])) (kLoop [1,3,5] [0,1] [(3,[1,3],[0,1])])
def q121_k7 (C:CallF) (L:LoopF) (G:Glo):Ex→St→Option (Ex × St):=kBlk 3 (q121_k6 C L G)
def q121_k8 (C:CallF) (L:LoopF) (G:Glo):Ex→St→Option (Ex × St):=kBlk 4 (q121_k7 C L G)
def q121_s2 (a5 a6:Int) (s0 s1:List Cell) (h:AHeap):St:=⟨tops 1 (.loc 0 0 :: tops 1 (.loc 1 0 :: tops 1 (.v (.c (.int .i64 a5)) :: .v (.c (.int .i64 a6)) :: tops 91 []))),[some s0,some s1],h⟩
def q121_F2 (C:CallF) (L:LoopF) (G:Glo):St→Option (Ex × St):=roundF (fun st f=>q121_b2.exec C L G st f) [1,3,5,6] [0,1] [(5,[1,3,5],[0,1])]
def q121_x2_5 (a5:Int) (s0 s1:List Cell) (h:AHeap):St:=⟨tops 1 (.loc 0 0 :: tops 1 (.loc 1 0 :: tops 1 (.v (.c (.int .i64 a5)) :: tops 92 []))),[some s0,some s1],h⟩
def q121_x3_3 (s0 s1:List Cell) (h:AHeap):St:=⟨tops 1 (.loc 0 0 :: tops 1 (.loc 1 0 :: tops 94 [])),[some s0,some s1],h⟩
def q121_k9 (C:CallF) (L:LoopF) (G:Glo) (h0:AHeap):Ex→St→Option (List AV × AHeap):=kSeq (fun st=>q121_p4.exec C L G st (q121.fin G h0)) (q121.fin G h0)
def q121_k10 (C:CallF) (L:LoopF) (G:Glo) (h0:AHeap):Ex→St→Option (List AV × AHeap):=kBlk 6 (q121_k9 C L G h0)
def q121_s5 (a7:Int) (s0 s1:List Cell) (h:AHeap):St:=⟨tops 1 (.loc 0 0 :: tops 1 (.loc 1 0 :: tops 3 (.v (.c (.int .i64 a7)) :: tops 90 []))),[some s0,some s1],h⟩
def q121_F5 (C:CallF) (L:LoopF) (G:Glo):St→Option (Ex × St):=roundF (fun st f=>q121_b5.exec C L G st f) [1,3,7] [0,1] [(7,[3],[1])]
def q121_k11 (C:CallF) (L:LoopF) (G:Glo):Ex→St→Option (Ex × St):=kSeq (fun st=>q121_p5.exec C L G st (kLoop [1,3,7] [0,1] [(7,[3],[1])])) (kLoop [1,3,7] [0,1] [(7,[3],[1])])
def q121_k12 (C:CallF) (L:LoopF) (G:Glo):Ex→St→Option (Ex × St):=kBlk 7 (q121_k11 C L G)
def q121_k13 (C:CallF) (L:LoopF) (G:Glo):Ex→St→Option (Ex × St):=kBlk 8 (q121_k12 C L G)
def q121_s4 (a7 a8:Int) (s0 s1:List Cell) (h:AHeap):St:=⟨tops 1 (.loc 0 0 :: tops 1 (.loc 1 0 :: tops 3 (.v (.c (.int .i64 a7)) :: .v (.c (.int .i64 a8)) :: tops 89 []))),[some s0,some s1],h⟩
def q121_F4 (C:CallF) (L:LoopF) (G:Glo):St→Option (Ex × St):=roundF (fun st f=>q121_b4.exec C L G st f) [1,3,7,8] [0,1] [(9,[1,3,7],[0,1])]
def q121_x4_9 (a7:Int) (s0 s1:List Cell) (h:AHeap):St:=⟨tops 1 (.loc 0 0 :: tops 1 (.loc 1 0 :: tops 3 (.v (.c (.int .i64 a7)) :: tops 90 []))),[some s0,some s1],h⟩
def q121_x5_7 (s1:List Cell) (h:AHeap):St:=⟨tops 3 (.loc 1 0 :: tops 94 []),[none,some s1],h⟩
def q121_k14 (C:CallF) (L:LoopF) (G:Glo) (h0:AHeap):Ex→St→Option (List AV × AHeap):=kSeq (fun st=>q121_p6.exec C L G st (q121.fin G h0)) (q121.fin G h0)
def q121_k15 (C:CallF) (L:LoopF) (G:Glo) (h0:AHeap):Ex→St→Option (List AV × AHeap):=kBlk 10 (q121_k14 C L G h0)
def q121_s6 (x9:Cell) (a10:Int) (s1:List Cell) (h:AHeap):St:=⟨tops 3 (.loc 1 0 :: tops 5 (.v (.c x9) :: .v (.c (.int .i32 a10)) :: tops 87 [])),[none,some s1],h⟩
def q121_F6 (C:CallF) (L:LoopF) (G:Glo):St→Option (Ex × St):=roundF (fun st f=>q121_b6.exec C L G st f) [3,9,10] [1] [(11,[9],[])]
def q121_x6_11 (x9:Cell) (h:AHeap):St:=⟨tops 9 (.v (.c x9) :: tops 88 []),[none,none],h⟩
theorem q121_r1 (a4:Int) (s0 s1:List Cell) (h:AHeap):q121_F1 C L G (q121_s1 a4 s0 s1 h)=atK s0 1 fun q_1=>lenK q_1 fun n_2=>if (decide (a4<n_2))=true then atK s0 1 fun q_3=>idxSK 2 q_3 a4 fun k_4 N_5 o_6=>rdH h k_4 N_5 fun l_7=>atK l_7 (o_6+0) fun q_8=>asI .i64 (.c q_8) fun n_9=>if 0≤(G.band .i64 n_9 255)∧(G.band .i64 n_9 255)<((256:Nat):Int) then if (0+((Int.toNat (G.band .i64 n_9 255))*1))<s1.length then some (.normal,(q121_s1 (G.wrap .i64 (a4+1)) s0 (s1.set (0+((Int.toNat (G.band .i64 n_9 255))*1)) (.bool true)) h)) else none else none else some ((.exit 0),(q121_x1_1 s0 s1 h)):=by kernel_rfl
theorem q121_r2 (a5 a6:Int) (s0 s1:List Cell) (h:AHeap):q121_F2 C L G (q121_s2 a5 a6 s0 s1 h)=atK s0 2 fun q_12=>idxSK 1 q_12 a5 fun k_13 N_14 o_15=>rdH h k_13 N_14 fun l_16=>atK l_16 o_15 fun q_17=>lenK q_17 fun n_18=>if (decide (a6<n_18))=true then atK s0 2 fun q_19=>idxSK 1 q_19 a5 fun k_20 N_21 o_22=>rdH h k_20 N_21 fun l_23=>atK l_23 o_22 fun q_24=>idxSK 9 q_24 a6 fun k_25 N_26 o_27=>rdH h k_25 N_26 fun l_28=>atK l_28 (o_27+2) fun q_29=>asI .i64 (.c q_29) fun n_30=>if 0≤(G.band .i64 n_30 255)∧(G.band .i64 n_30 255)<((256:Nat):Int) then if (0+((Int.toNat (G.band .i64 n_30 255))*1))<s1.length then some (.normal,(q121_s2 a5 (G.wrap .i64 (a6+1)) s0 (s1.set (0+((Int.toNat (G.band .i64 n_30 255))*1)) (.bool true)) h)) else none else none else some ((.exit 4),(q121_x2_5 a5 s0 s1 h)):=by kernel_rfl
theorem q121_e2_5 (a5:Int) (s0 s1:List Cell) (h:AHeap):(q121_k8 C L G) (.exit 4) (q121_x2_5 a5 s0 s1 h)=some (.normal,(q121_s3 (G.wrap .i64 (a5+1)) s0 s1 h)):=by kernel_rfl
theorem q121_r3 (a5:Int) (s0 s1:List Cell) (h:AHeap):q121_F3 C L G (q121_s3 a5 s0 s1 h)=atK s0 2 fun q_10=>lenK q_10 fun n_11=>if (decide (a5<n_11))=true then (L (q121_F2 C L G) (q121_s2 a5 0 s0 s1 h)).bind fun p_31=>(q121_k8 C L G) p_31.1 p_31.2 else some ((.exit 2),(q121_x3_3 s0 s1 h)):=by kernel_rfl
theorem q121_r4 (a7 a8:Int) (s0 s1:List Cell) (h:AHeap):q121_F4 C L G (q121_s4 a7 a8 s0 s1 h)=atK s0 4 fun q_34=>idxSK 1 q_34 a7 fun k_35 N_36 o_37=>rdH h k_35 N_36 fun l_38=>atK l_38 o_37 fun q_39=>lenK q_39 fun n_40=>if (decide (a8<n_40))=true then atK s0 4 fun q_41=>idxSK 1 q_41 a7 fun k_42 N_43 o_44=>rdH h k_42 N_43 fun l_45=>atK l_45 o_44 fun q_46=>idxSK 4 q_46 a8 fun k_47 N_48 o_49=>rdH h k_47 N_48 fun l_50=>atK l_50 (o_49+2) fun q_51=>asI .i64 (.c q_51) fun n_52=>if 0≤(G.band .i64 n_52 255)∧(G.band .i64 n_52 255)<((256:Nat):Int) then if (0+((Int.toNat (G.band .i64 n_52 255))*1))<s1.length then some (.normal,(q121_s4 a7 (G.wrap .i64 (a8+1)) s0 (s1.set (0+((Int.toNat (G.band .i64 n_52 255))*1)) (.bool true)) h)) else none else none else some ((.exit 8),(q121_x4_9 a7 s0 s1 h)):=by kernel_rfl
theorem q121_e4_9 (a7:Int) (s0 s1:List Cell) (h:AHeap):(q121_k13 C L G) (.exit 8) (q121_x4_9 a7 s0 s1 h)=some (.normal,(q121_s5 (G.wrap .i64 (a7+1)) s0 s1 h)):=by kernel_rfl
theorem q121_r5 (a7:Int) (s0 s1:List Cell) (h:AHeap):q121_F5 C L G (q121_s5 a7 s0 s1 h)=atK s0 4 fun q_32=>lenK q_32 fun n_33=>if (decide (a7<n_33))=true then (L (q121_F4 C L G) (q121_s4 a7 0 s0 s1 h)).bind fun p_53=>(q121_k13 C L G) p_53.1 p_53.2 else some ((.exit 6),(q121_x5_7 s1 h)):=by kernel_rfl
theorem q121_r6 (x9:Cell) (a10:Int) (s1:List Cell) (h:AHeap):q121_F6 C L G (q121_s6 x9 a10 s1 h)=if (decide (a10≤122))=true then if 0≤a10∧a10<((256:Nat):Int) then atK s1 (0+((Int.toNat a10)*1)) fun q_54=>asB (.c q_54) fun b_55=>if b_55=true then if (splice [Cell.int .u8 0] 0 ([(.int .u8 (G.wrap .u8 a10))]:List Cell)).length=1*1 then appK 1 1 x9 (splice [Cell.int .u8 0] 0 ([(.int .u8 (G.wrap .u8 a10))]:List Cell)) h fun x_56 h_57=>some (.normal,(q121_s6 x_56 (G.wrap .i32 (a10+1)) s1 h_57)) else none else some (.normal,(q121_s6 x9 (G.wrap .i32 (a10+1)) s1 h)) else none else some ((.exit 10),(q121_x6_11 x9 h)):=by kernel_rfl
theorem q121_e6_11 (h0:AHeap) (x9:Cell) (h:AHeap):(q121_k15 C L G h0) (.exit 10) (q121_x6_11 x9 h)=some ([(.c x9)],h):=by kernel_rfl
theorem q121_e5_7 (h0:AHeap) (s1:List Cell) (h:AHeap):(q121_k10 C L G h0) (.exit 6) (q121_x5_7 s1 h)=(L (q121_F6 C L G) (q121_s6 .nils 97 s1 h)).bind fun p_58=>(q121_k15 C L G h0) p_58.1 p_58.2:=by kernel_rfl
theorem q121_e3_3 (h0:AHeap) (s0 s1:List Cell) (h:AHeap):(q121_k5 C L G h0) (.exit 2) (q121_x3_3 s0 s1 h)=(L (q121_F5 C L G) (q121_s5 0 s0 s1 h)).bind fun p_59=>(q121_k10 C L G h0) p_59.1 p_59.2:=by kernel_rfl
theorem q121_e1_1 (h0:AHeap) (s0 s1:List Cell) (h:AHeap):(q121_k3 C L G h0) (.exit 0) (q121_x1_1 s0 s1 h)=(L (q121_F3 C L G) (q121_s3 0 s0 s1 h)).bind fun p_60=>(q121_k5 C L G h0) p_60.1 p_60.2:=by kernel_rfl
set_option maxRecDepth 100000 in
theorem q121_eq (l0:List Cell) (h0:AHeap):q121.body C L G [(.agg l0)] h0=(L (q121_F1 C L G) (q121_s1 0 l0 (List.replicate 256 (Cell.bool false)) h0)).bind fun p_61=>(q121_k3 C L G h0) p_61.1 p_61.2:=by kernel_rfl
end Jq

namespace Jq
open Go
theorem wrap_res {x y:Int} (h:x % 18446744073709551616=y % 18446744073709551616):IntKind.wrap .i64 x=IntKind.wrap .i64 y:=by
  simp only [IntKind.wrap,IntKind.signed,IntKind.bits,Bool.true_and]
  split
  · rename_i h1
    have h1:=of_decide_eq_true h1
    split
    · omega
    · rename_i h2;exact absurd (decide_eq_true (by omega)) h2
  · rename_i h1
    split
    · rename_i h2
      have h2:=of_decide_eq_true h2
      exact absurd (decide_eq_true (by omega)) h1
    · omega
theorem u64_mod (x:Int):IntKind.wrap .u64 x=x % 18446744073709551616:=by
  simp only [IntKind.wrap,IntKind.signed,IntKind.bits,Bool.false_and,Bool.false_eq_true,if_false];rfl
structure GoodI (len:Nat) (i:Ins):Prop where
  kind:1≤i.kind∧i.kind≤6
  reg:i.kind=2∨i.kind=4∨i.kind=5→0≤i.reg∧i.reg<4
  op:i.kind=5→0≤i.op∧i.op≤11
  n:i.kind=6→0≤i.n∧i.n≤len
def GoodC (code:List Ins):Prop:=∀i∈code,GoodI code.length i
section
variable {E:Env}
theorem refValue_R (hE:q92_In E) (o:Opd) (l:Lcl) (h:AHeap):R E 92 [.agg o.cs,.agg l.cs] h=some ([.c (.int .i64 (opV o l))],h):=by
  refine R_intro hE.fn ?_
  have a0:∀{α:Type} (f:Cell→Option α),atK o.cs 0 f=f (.int .i64 o.reg):=fun _=>rfl
  have a1:∀{α:Type} (f:Cell→Option α),atK o.cs 1 f=f (.int .i64 o.val):=fun _=>rfl
  unfold opV
  rw [q92_eq]
  simp only [a0,a1,asI_ok,scK_and]
  by_cases h1:0≤o.reg∧o.reg<4
  · rw [if_pos (by simp;omega),if_pos ⟨h1.1,h1.2⟩,if_pos h1,atK_ok (lcl_get h1.1 h1.2),asI_ok]
  · rw [if_neg (by simp;omega),if_neg h1]
theorem refDo_R (hE:q93_In E) (op a b:Int) (h:AHeap):R E 93 [.c (.int .i64 op),.c (.int .i64 a),.c (.int .i64 b)] h=some ([.c (.int .i64 ((doV op a b).getD 0)),.c (.bool (doV op a b).isSome)],h):=by
  refine R_intro hE.fn ?_
  rw [q93_eq]
  have hr:∀x:Int,0≤E.glob.rem .u64 (E.glob.wrap .u64 x) 64:=by
    intro x
    show 0≤Int.tmod (IntKind.wrap .u64 x) 64
    rw [u64_mod,Int.tmod_eq_emod_of_nonneg (Int.emod_nonneg _ (by omega))]
    exact Int.emod_nonneg _ (by omega)
  have hr':∀x:Int,¬E.glob.rem .u64 (E.glob.wrap .u64 x) 64<0:=fun x=>by have:=hr x;omega
  simp only [hr',if_false]
  have w1:E.glob.wrap .i64 (E.glob.wrap .u64 (E.glob.wrap .u64 a+E.glob.wrap .u64 b))=GN.wrap .i64 (a+b):=by
    show IntKind.wrap .i64 (IntKind.wrap .u64 (IntKind.wrap .u64 a+IntKind.wrap .u64 b))=IntKind.wrap .i64 (a+b)
    refine wrap_res ?_
    rw [u64_mod,u64_mod,u64_mod];omega
  have w2:E.glob.wrap .i64 (E.glob.wrap .u64 (E.glob.wrap .u64 a - E.glob.wrap .u64 b))=GN.wrap .i64 (a - b):=by
    show IntKind.wrap .i64 (IntKind.wrap .u64 (IntKind.wrap .u64 a - IntKind.wrap .u64 b))=IntKind.wrap .i64 (a - b)
    refine wrap_res ?_
    rw [u64_mod,u64_mod,u64_mod];omega
  have w3:E.glob.wrap .i64 (E.glob.wrap .u64 (E.glob.wrap .u64 a*E.glob.wrap .u64 b))=GN.wrap .i64 (a*b):=by
    show IntKind.wrap .i64 (IntKind.wrap .u64 (IntKind.wrap .u64 a*IntKind.wrap .u64 b))=IntKind.wrap .i64 (a*b)
    refine wrap_res ?_
    rw [u64_mod,u64_mod,u64_mod,Int.emod_emod_of_dvd _ (Int.dvd_refl _),←Int.mul_emod]
  have w7:∀k:Int,E.glob.wrap .i64 (E.glob.shl .u64 (E.glob.wrap .u64 a) k)=GN.shl .i64 a k:=by
    intro k
    show IntKind.wrap .i64 (IntKind.wrap .u64 (IntKind.wrap .u64 a*2 ^ min k.toNat IntKind.u64.bits))=IntKind.wrap .i64 (a*2 ^ min k.toNat IntKind.i64.bits)
    refine wrap_res ?_
    rw [u64_mod,u64_mod,Int.emod_emod_of_dvd _ (Int.dvd_refl _)]
    show _=(a*2 ^ min k.toNat IntKind.u64.bits) % _
    rw [Int.mul_emod,Int.emod_emod_of_dvd _ (Int.dvd_refl _),←Int.mul_emod]
  simp only [w1,w2,w3,w7]
  unfold doV
  have key:∀k:Int,((op==k)=true)=(op=k):=fun k=>by rw [beq_iff_eq]
  simp only [key]
  by_cases h1:op=1
  · simp only [if_pos h1];rfl
  simp only [if_neg h1]
  by_cases h2:op=2
  · simp only [if_pos h2];rfl
  simp only [if_neg h2]
  by_cases h3:op=3
  · simp only [if_pos h3];rfl
  simp only [if_neg h3]
  by_cases h4:op=4
  · simp only [if_pos h4];rfl
  simp only [if_neg h4]
  by_cases h5:op=5
  · simp only [if_pos h5];rfl
  simp only [if_neg h5]
  by_cases h6:op=6
  · simp only [if_pos h6];rfl
  simp only [if_neg h6]
  by_cases h7:op=7
  · simp only [if_pos h7];rfl
  simp only [if_neg h7]
  by_cases h8:op=8
  · simp only [if_pos h8];rfl
  simp only [if_neg h8]
  by_cases h9:op=9
  · simp only [if_pos h9];(by_cases hab:a=b<;>simp [hab])
  simp only [if_neg h9]
  by_cases h10:op=10
  · simp only [if_pos h10];(by_cases hab:a=b<;>simp [hab])
  simp only [if_neg h10]
  by_cases h11:op=11
  · simp only [if_pos h11];(by_cases hab:a<b<;>simp [hab])
  simp only [if_neg h11]
  rfl
theorem doV_some {op:Int} (a b:Int) (h1:1≤op) (h2:op≤11):∃v,doV op a b=some v:=by
  have h:op=1∨op=2∨op=3∨op=4∨op=5∨op=6∨op=7∨op=8∨op=9∨op=10∨op=11:=by omega
  rcases h with rfl | rfl | rfl | rfl | rfl | rfl | rfl | rfl | rfl | rfl | rfl<;>exact ⟨_,rfl⟩
theorem ProgAt.thr {h:AHeap} {cs:List Cell} {P:PProg} (p:ProgAt h cs P) {t:Nat} {code:List Ins} (ht:P.thr[t]? = some code) :
    ∃x,SlAt h x 9 (codeC code) code.length∧Low h.length x∧∀{α:Type} (f:Cell→Option α),(atK cs 2 fun q=>idxSK 1 q (t:Int) fun k N o=>rdH h k N fun l=>atK l o f)=f x:=by
  obtain ⟨a,b,c,ts,rfl,_,_,⟨hc,hcl⟩,hts⟩:=p
  obtain ⟨x,x1,x2,x3⟩:=hts _ _ ht
  refine ⟨x,x2,x3,fun f=>?_⟩
  show (idxSK 1 c (t:Int) fun k N o=>rdH h k N fun l=>atK l o f)=f x
  exact hc.get1 (getI_lt ht) x1
theorem ProgAt.nthr {α:Type} {h:AHeap} {cs:List Cell} {P:PProg} (p:ProgAt h cs P) {f:Int→Option α}:(atK cs 2 fun q=>lenK q f)=f P.thr.length:=by
  obtain ⟨a,b,c,ts,rfl,_,_,⟨hc,hcl⟩,hts⟩:=p
  show lenK c f=_
  exact hc.len
theorem code_of {P:PProg} {t:Nat} {code:List Ins} (ht:P.thr[t]? = some code):P.code (t:Int)=code:=by
  unfold PProg.code
  rw [if_pos (by omega),Int.toNat_natCast,List.getD_eq_getElem?_getD,ht];rfl
theorem refnormal_R (hE:q123_In E) {cs:List Cell} {P:PProg} {h:AHeap} (p:ProgAt h cs P) {t:Nat} {code:List Ins} (ht:P.thr[t]? = some code) (hlen:code.length<4000000000000000000) (hg:GoodC code) (l:Lcl) (h0:0≤l.pc) :
    R E 123 [.agg cs,.c (.int .i64 (t:Int)),.agg l.cs] h=some ([.agg (normL code l).cs],h):=by
  refine R_intro hE.fn ?_
  obtain ⟨x,hx,hxl,hT⟩:=p.thr ht
  have round:∀l:Lcl,0≤l.pc→q123_F1 (R E) Lim E.glob (q123_s1 t cs l.cs Lcl.zero.cs h)=match stepI code l with
      | some l'=>some (.normal,q123_s1 t cs l'.cs Lcl.zero.cs h)
      | none=>if l.pc<code.length then some (.ret,q123_x1_0 l.cs h) else some (.exit 0,q123_x1_1 l.cs Lcl.zero.cs h):=by
    intro l h0
    rw [q123_r1,lcl_pc,asI_ok,hT,hx.len]
    by_cases h1:l.pc<code.length
    · obtain ⟨q,hp⟩:∃q:Nat,l.pc=(q:Int):=⟨l.pc.toNat,by omega⟩
      have hpl:q<code.length:=by omega
      have hq:code[q]? = some code[q]:=List.getElem?_eq_getElem hpl
      have hgi:=hg _ (List.getElem_mem hpl)
      generalize code[q]=i at hq hgi
      obtain ⟨off,cs',hG0,hle,hcs⟩:=hx.insG hq
      have hG:∀{α:Type} (G:Nat→List Cell→Option α),(idxSK 9 x l.pc fun k N o=>rdH h k N fun l=>G o l)=G off cs':=by intro α G;rw [hp];exact hG0 G
      have hst:stepI code l=if i.kind=5 then
          some { (l.setR i.reg ((doV i.op (opV i.a l) (opV i.b l)).getD (opV i.a l))) with pc:=(l.setR i.reg ((doV i.op (opV i.a l) (opV i.b l)).getD (opV i.a l))).pc+1 }
        else if i.kind=6 then (if opV i.a l=opV i.b l then some { l with pc:=l.pc+min (max i.n 0) code.length+1 } else some { l with pc:=l.pc+1 }) else none:=by
        unfold stepI
        rw [if_pos h0,show l.pc.toNat=q by omega,hq]
      rw [hst,if_pos (decide_eq_true h1),hT,lcl_pc,asI_ok,hG,if_pos hle,hcs,if_pos ⟨rfl,rfl,rfl⟩,ins_kind,asI_ok]
      by_cases k5:i.kind=5
      · obtain ⟨r0,r1⟩:=hgi.reg (.inr (.inr k5))
        obtain ⟨o0,o1⟩:=hgi.op k5
        rw [if_pos (by rw [k5];rfl),if_pos k5,if_pos (show 3+2≤i.cs.length by rw [Ins.len];omega),if_pos ⟨rfl,rfl⟩,ins_a,refValue_R hE.c92,c1_ok,asI_ok,ins_op,asI_ok]
        by_cases hop:i.op=0
        · have hd:doV i.op (opV i.a l) (opV i.b l)=none:=by rw [hop];rfl
          have hpc:=l.setR_pc i.reg (opV i.a l)
          rw [hd,if_neg (by rw [hop];simp),ins_reg,asI_ok,if_pos ⟨r0,r1⟩,if_pos (by rw [Lcl.len];omega),lcl_set r0 r1,lcl_pc,asI_ok,if_pos (by rw [Lcl.len];omega),lcl_setpc]
          rw [show (none:Option Int).getD (opV i.a l)=opV i.a l from rfl,hpc,g_wrap_i64 (x:=l.pc+1) (by omega) (by omega)]
        · obtain ⟨v,hd⟩:=doV_some (opV i.a l) (opV i.b l) (show 1≤i.op by omega) o1
          have hpc:=l.setR_pc i.reg v
          rw [hd,if_pos (by rw [bne_iff_ne];exact hop),ins_op,asI_ok,if_pos (show 6+2≤i.cs.length by rw [Ins.len];omega),if_pos ⟨rfl,rfl⟩,ins_b,refValue_R hE.c92,qh_ok,c1_ok,asI_ok,refDo_R hE.c93,qh_ok,c2_ok,asI_ok,asB_ok,hd,ins_reg,asI_ok,if_pos ⟨r0,r1⟩,if_pos (by rw [Lcl.len];omega),show (some v:Option Int).getD 0=v from rfl,lcl_set r0 r1,lcl_pc,asI_ok,if_pos (by rw [Lcl.len];omega),lcl_setpc]
          rw [show (some v:Option Int).getD (opV i.a l)=v from rfl,hpc,g_wrap_i64 (x:=l.pc+1) (by omega) (by omega)]
      · rw [if_neg (by rw [beq_iff_eq];exact k5),if_neg k5]
        by_cases k6:i.kind=6
        · obtain ⟨n0,n1⟩:=hgi.n k6
          rw [if_pos (by rw [k6];rfl),if_pos k6,if_pos (show 3+2≤i.cs.length by rw [Ins.len];omega),if_pos ⟨rfl,rfl⟩,ins_a,refValue_R hE.c92,qh_ok,c1_ok,asI_ok,if_pos (show 6+2≤i.cs.length by rw [Ins.len];omega),if_pos ⟨rfl,rfl⟩,ins_b,refValue_R hE.c92,qh_ok,c1_ok,asI_ok]
          by_cases hab:opV i.a l=opV i.b l
          · rw [if_pos (by rw [hab];exact beq_self_eq_true _),if_pos hab,lcl_pc,asI_ok,ins_n,asI_ok,if_pos (by rw [Lcl.len];omega),lcl_setpc,lcl_pc,asI_ok,if_pos (by rw [Lcl.len];omega),lcl_setpc]
            dsimp only
            rw [show min (max i.n 0) (code.length:Int)=i.n by omega,g_wrap_i64 (x:=l.pc+i.n) (by omega) (by omega),g_wrap_i64 (x:=l.pc+i.n+1) (by omega) (by omega)]
          · rw [if_neg (by rw [beq_iff_eq];exact hab),if_neg hab,lcl_pc,asI_ok,if_pos (by rw [Lcl.len];omega),lcl_setpc,g_wrap_i64 (x:=l.pc+1) (by omega) (by omega)]
        · rw [if_neg (by rw [beq_iff_eq];exact k6),if_neg k6,if_pos ⟨rfl,rfl⟩,if_pos ⟨rfl,rfl,rfl⟩]
          dsimp only
          rw [if_pos h1]
    · have hst:stepI code l=none:=by
        unfold stepI
        rw [if_pos h0,List.getElem?_eq_none (by omega)]
      rw [hst,if_neg (by simpa using h1)]
      dsimp only
      rw [if_neg h1]
  have stop:∀l:Lcl,0≤l.pc→stepI code l=none→(Lim (q123_F1 (R E) Lim E.glob) (q123_s1 t cs l.cs Lcl.zero.cs h)).bind (fun p=>q123_k3 (R E) Lim E.glob h p.1 p.2)=some ([.agg l.cs],h):=by
    intro l h0 hs
    have hr:=round l h0
    rw [hs] at hr
    dsimp only at hr
    split at hr
    · rw [Lim_ret hr,bind_ok,q123_e1_0,if_pos ⟨rfl,rfl⟩]
    · rw [Lim_exit hr,bind_ok,q123_e1_1,if_pos ⟨rfl,rfl⟩,if_pos ⟨rfl,rfl,rfl⟩,if_pos ⟨rfl,rfl⟩]
  have loop:∀(k:Nat) (l:Lcl),0≤l.pc→(code.length:Int)≤l.pc+k→(Lim (q123_F1 (R E) Lim E.glob) (q123_s1 t cs l.cs Lcl.zero.cs h)).bind (fun p=>q123_k3 (R E) Lim E.glob h p.1 p.2)=some ([.agg (nrm code k l).cs],h):=by
    intro k
    induction k with
    | zero =>
      intro l h0 hk
      rw [nrm]
      refine stop l h0 ?_
      cases hs:stepI code l with
      | none=>rfl
      | some l'=>have:=stepI_pc hs;omega
    | succ k ih =>
      intro l h0 hk
      rw [nrm]
      cases hs:stepI code l with
      | none=>exact stop l h0 hs
      | some l' =>
        have hr:=round l h0
        rw [hs] at hr
        have h3:=stepI_pc hs
        have:=ih l' (by omega) (by omega)
        cases hL:Lim (q123_F1 (R E) Lim E.glob) (q123_s1 t cs l'.cs Lcl.zero.cs h) with
        | none=>rw [hL] at this;cases this
        | some p=>rw [Lim_next hr hL];rw [hL] at this;exact this
  rw [q123_eq,zero5]
  exact loop code.length l h0 (by omega)
theorem there_R (hE:q110_In E) {cs:List Cell} {P:PProg} {h:AHeap} (p:ProgAt h cs P) (t:Int) :
    R E 110 [.agg cs,.c (.int .i64 t)] h=some ([.c (.bool (decide (0≤t)&&decide (t<P.thr.length)))],h):=by
  refine R_intro hE.fn ?_
  rw [q110_eq]
  by_cases h0:0≤t
  · rw [show decide (t≥0)=true from decide_eq_true h0,scK_ok,p.nthr,bind_ok]
    rfl
  · rw [show decide (t≥0)=false from decide_eq_false h0,scK_ft]
    rfl
def PProg.good (P:PProg):Prop:=P.fits∧∀code∈P.thr,GoodC code
theorem code_out {P:PProg} {t:Int} (h:¬(0≤t∧t<P.thr.length)):P.code t=[]:=by
  unfold PProg.code
  split
  · rw [List.getD_eq_getElem?_getD,List.getElem?_eq_none (by omega)];rfl
  · rfl
theorem refStart_R (hE:q104_In E) {cs:List Cell} {P:PProg} {h:AHeap} (hg:P.good) (p:ProgAt h cs P) (t:Int) :
    R E 104 [.agg cs,.c (.int .i64 t)] h=some ([.agg (startL P t).cs],h):=by
  refine R_intro hE.fn ?_
  rw [q104_eq,if_pos ⟨rfl,p.len⟩,there_R hE.c110 p,c1_ok,asB_ok]
  by_cases ht:0≤t∧t<P.thr.length
  · obtain ⟨q,hq⟩:∃q:Nat,t=(q:Int):=⟨t.toNat,by omega⟩
    have hqq:P.thr[q]? = some P.thr[q]:=List.getElem?_eq_getElem (by omega)
    have hm:=List.mem_of_getElem? hqq
    generalize P.thr[q]=code at hqq hm
    rw [show (decide (0≤t)&&decide (t<P.thr.length))=true by simp [ht.1,ht.2],if_neg (by simp),if_pos ⟨rfl,p.len⟩,zero5,hq,refnormal_R hE.c123 p hqq (hg.1.2 _ hm) (hg.2 _ hm) Lcl.zero (by simp [Lcl.zero]),c1_ok,asA_ok,if_pos ⟨rfl,rfl,rfl⟩,if_pos ⟨rfl,rfl⟩]
    unfold startL
    rw [code_of hqq]
  · have hs:startL P t=Lcl.zero:=by unfold startL;rw [code_out ht];rfl
    rw [show (decide (0≤t)&&decide (t<P.thr.length))=false by simp;omega,if_pos (show (!false)=true from rfl),zero5,if_pos ⟨rfl,rfl,rfl⟩,if_pos ⟨rfl,rfl⟩,hs]
theorem refNext_R (hE:q81_In E) {cs:List Cell} {P:PProg} {h:AHeap} (hg:P.good) (p:ProgAt h cs P) (t:Int) (l:Lcl) :
    R E 81 [.agg cs,.c (.int .i64 t),.agg l.cs] h=some ([.agg ((nextI (P.code t) l).getD Ins.zero).cs,.c (.bool (nextI (P.code t) l).isSome)],h):=by
  refine R_intro hE.fn ?_
  rw [q81_eq,if_pos ⟨rfl,p.len⟩,there_R hE.c110 p,qh_ok,c1_ok,asB_ok]
  by_cases ht:0≤t∧t<P.thr.length
  · obtain ⟨q,hq⟩:∃q:Nat,t=(q:Int):=⟨t.toNat,by omega⟩
    have hqq:P.thr[q]? = some P.thr[q]:=List.getElem?_eq_getElem (by omega)
    have hm:=List.mem_of_getElem? hqq
    generalize P.thr[q]=code at hqq hm
    have hgc:=hg.2 _ hm
    obtain ⟨x,hx,hxl,hT⟩:=p.thr hqq
    rw [show (decide (0≤t)&&decide (t<P.thr.length))=true by simp [ht.1,ht.2],Bool.not_true,scK_ok,lcl_pc,asI_ok,bind_ok]
    dsimp only
    subst hq
    rw [code_of hqq]
    by_cases h0:0≤l.pc
    · rw [show decide (l.pc<0)=false from decide_eq_false (by omega),scK_ok,lcl_pc,asI_ok,hT,hx.len,bind_ok]
      dsimp only
      by_cases h1:l.pc<code.length
      · obtain ⟨m,hmm⟩:∃m:Nat,l.pc=(m:Int):=⟨l.pc.toNat,by omega⟩
        have hml:m<code.length:=by omega
        have hi:code[m]? = some code[m]:=List.getElem?_eq_getElem hml
        have hgi:=hgc _ (List.getElem_mem hml)
        generalize code[m]=i at hi hgi
        obtain ⟨off,cs',hG0,hle,hcs⟩:=hx.insG hi
        have hG:∀{α:Type} (G:Nat→List Cell→Option α),(idxSK 9 x l.pc fun k N o=>rdH h k N fun l=>G o l)=G off cs':=by intro α G;rw [hmm];exact hG0 G
        have hn:nextI code l=if 1≤i.kind∧i.kind≤4 then some i else none:=by
          unfold nextI
          rw [if_pos h0,show l.pc.toNat=m by omega,hi]
        have hk2:=hgi.kind
        rw [show decide (l.pc≥(code.length:Int))=false from decide_eq_false (by omega),if_neg (by simp),hT,lcl_pc,asI_ok,hG,if_pos hle,hcs,if_pos ⟨rfl,rfl,rfl⟩,ins_kind,asI_ok,ins_kind,asI_ok,scK_or,hn]
        by_cases hk:1≤i.kind∧i.kind≤4
        · rw [if_neg (by simp;omega),if_pos hk,if_pos ⟨rfl,rfl⟩,if_pos ⟨rfl,rfl,rfl⟩,if_pos ⟨rfl,rfl⟩];rfl
        · rw [if_pos (by simp;omega),if_neg hk,if_pos ⟨rfl,rfl,rfl⟩,if_pos ⟨rfl,rfl⟩];rfl
      · have hn:nextI code l=none:=by unfold nextI;rw [if_pos h0,List.getElem?_eq_none (by omega)]
        rw [show decide (l.pc≥(code.length:Int))=true from decide_eq_true (by omega),if_pos rfl,hn,if_pos ⟨rfl,rfl,rfl⟩,if_pos ⟨rfl,rfl⟩];rfl
    · have hn:nextI code l=none:=by unfold nextI;rw [if_neg h0]
      rw [show decide (l.pc<0)=true from decide_eq_true (by omega),scK_tf,if_pos rfl,hn,if_pos ⟨rfl,rfl,rfl⟩,if_pos ⟨rfl,rfl⟩];rfl
  · have hn:nextI (P.code t) l=none:=by rw [code_out ht];unfold nextI;split<;>simp
    rw [show (decide (0≤t)&&decide (t<P.thr.length))=false by simp;omega,Bool.not_false,scK_tf,scK_tf,if_pos rfl,hn,if_pos ⟨rfl,rfl,rfl⟩,if_pos ⟨rfl,rfl⟩];rfl
theorem refAfter_R (hE:q107_In E) {cs:List Cell} {P:PProg} {h:AHeap} (hg:P.good) (p:ProgAt h cs P) (t:Int) (l:Lcl) (v:Int) :
    R E 107 [.agg cs,.c (.int .i64 t),.agg l.cs,.c (.int .i64 v)] h=some ([.agg (afterL (P.code t) l v).cs],h):=by
  refine R_intro hE.fn ?_
  rw [q107_eq,if_pos ⟨rfl,p.len⟩,if_pos ⟨rfl,rfl⟩,refNext_R hE.c81 hg p,c2_ok,asA_ok,asB_ok,if_pos ⟨rfl,rfl,rfl⟩]
  unfold afterL
  cases hn:nextI (P.code t) l with
  | none =>
    rw [show (none:Option Ins).isSome=false from rfl,if_pos (show (!false)=true from rfl),if_pos ⟨rfl,rfl⟩,if_pos ⟨rfl,rfl,rfl⟩,if_pos ⟨rfl,rfl⟩]
  | some i =>
    obtain ⟨n0,n1,n2,n3,n4⟩:=nextI_kind hn
    have ht:0≤t∧t<P.thr.length:=by
      refine Classical.byContradiction fun hc=>?_
      rw [code_out hc] at n2;simp at n2
    obtain ⟨q,hq⟩:∃q:Nat,t=(q:Int):=⟨t.toNat,by omega⟩
    have hqq:P.thr[q]? = some P.thr[q]:=List.getElem?_eq_getElem (by omega)
    have hm:=List.mem_of_getElem? hqq
    generalize P.thr[q]=code at hqq hm
    subst hq
    rw [code_of hqq] at n1 n2 ⊢
    have hgi:=hg.2 _ hm i (List.mem_of_getElem? n2)
    have hfit:=hg.1.2 _ hm
    rw [show (some i:Option Ins).isSome=true from rfl,if_neg (by simp),show (some i:Option Ins).getD Ins.zero=i from rfl,ins_kind,asI_ok,ins_kind,asI_ok,scK_or]
    by_cases hk:i.kind=2∨i.kind=4
    · have hpc:=l.setR_pc i.reg v
      obtain ⟨r0,r1⟩:=hgi.reg (hk.imp id .inl)
      rw [if_pos (by rw [Bool.or_eq_true,beq_iff_eq,beq_iff_eq];exact hk),ins_reg,asI_ok,if_pos ⟨r0,r1⟩,if_pos (by rw [Lcl.len];omega),lcl_set r0 r1,lcl_pc,asI_ok,if_pos (by rw [Lcl.len];omega),lcl_setpc,if_pos ⟨rfl,p.len⟩,if_pos ⟨rfl,rfl⟩,hpc,g_wrap_i64 (x:=l.pc+1) (by omega) (by omega),refnormal_R hE.c123 p hqq hfit (hg.2 _ hm) _ (by dsimp only;omega),c1_ok,asA_ok,if_pos ⟨rfl,rfl,rfl⟩,if_pos ⟨rfl,rfl⟩]
      dsimp only
      rw [if_pos hk]
    · rw [if_neg (by rw [Bool.or_eq_true,beq_iff_eq,beq_iff_eq];exact hk),lcl_pc,asI_ok,if_pos (by rw [Lcl.len];omega),lcl_setpc,if_pos ⟨rfl,p.len⟩,if_pos ⟨rfl,rfl⟩,g_wrap_i64 (x:=l.pc+1) (by omega) (by omega),refnormal_R hE.c123 p hqq hfit (hg.2 _ hm) _ (by dsimp only;omega),c1_ok,asA_ok,if_pos ⟨rfl,rfl,rfl⟩,if_pos ⟨rfl,rfl⟩]
      dsimp only
      rw [if_neg hk]
end
end Jq

namespace Jq
open Go
variable (C:CallF) (L:LoopF) (G:Glo)
set_option maxRecDepth 100000 in
theorem q80_eq (l0:List Cell) (h0:AHeap):q80.body C L G [(.agg l0)] h0=atK l0 2 fun q_1=>asI .i64 (.c q_1) fun n_2=>scK (n_2==2) false (atK l0 2 fun q_3=>asI .i64 (.c q_3) fun n_4=>some ((n_4==4),h0)) true h0 fun b_5 h_6=>some ([(.c (.bool b_5))],h_6):=by kernel_rfl
set_option maxRecDepth 100000 in
theorem q109_eq (l0 l1:List Cell) (a2:Int) (h0:AHeap):q109.body C L G [(.agg l0),(.agg l1),(.c (.int .i64 a2))] h0=atK l0 0 fun q_1=>asI .i64 (.c q_1) fun n_2=>if (n_2==1)=true then atK l0 2 fun q_3=>asI .i64 (.c q_3) fun n_4=>if 3+2≤l0.length then if 0=0∧l1.length=5 then c1 (qh h0 (C 108 [(.agg ((l0.drop 3).take 2)),(.agg l1)] h0)) fun y_6 h_5=>asI .i64 y_6 fun n_7=>if 0=0∧[Cell.int .i64 0,Cell.int .i64 0,Cell.int .i64 0,Cell.int .i64 0,Cell.int .i64 0,Cell.int .i64 0].length=6∧(splice (splice (splice [Cell.int .i64 0,Cell.int .i64 0,Cell.int .i64 0,Cell.int .i64 0,Cell.int .i64 0,Cell.int .i64 0] 2 ([(.int .i64 2)]:List Cell)) 3 ([(.int .i64 n_4)]:List Cell)) 5 ([(.int .i64 n_7)]:List Cell)).length=6 then if 0=0∧(splice (splice (splice [Cell.int .i64 0,Cell.int .i64 0,Cell.int .i64 0,Cell.int .i64 0,Cell.int .i64 0,Cell.int .i64 0] 2 ([(.int .i64 2)]:List Cell)) 3 ([(.int .i64 n_4)]:List Cell)) 5 ([(.int .i64 n_7)]:List Cell)).length=6 then some ([(.agg (splice (splice (splice [Cell.int .i64 0,Cell.int .i64 0,Cell.int .i64 0,Cell.int .i64 0,Cell.int .i64 0,Cell.int .i64 0] 2 ([(.int .i64 2)]:List Cell)) 3 ([(.int .i64 n_4)]:List Cell)) 5 ([(.int .i64 n_7)]:List Cell))),(.c (.bool false))],h0) else none else none else none else none else if (n_2==2)=true then atK l0 2 fun q_8=>asI .i64 (.c q_8) fun n_9=>if 0=0∧[Cell.int .i64 0,Cell.int .i64 0,Cell.int .i64 0,Cell.int .i64 0,Cell.int .i64 0,Cell.int .i64 0].length=6∧(splice (splice (splice [Cell.int .i64 0,Cell.int .i64 0,Cell.int .i64 0,Cell.int .i64 0,Cell.int .i64 0,Cell.int .i64 0] 2 ([(.int .i64 1)]:List Cell)) 3 ([(.int .i64 n_9)]:List Cell)) 4 ([(.int .i64 a2)]:List Cell)).length=6 then if 0=0∧(splice (splice (splice [Cell.int .i64 0,Cell.int .i64 0,Cell.int .i64 0,Cell.int .i64 0,Cell.int .i64 0,Cell.int .i64 0] 2 ([(.int .i64 1)]:List Cell)) 3 ([(.int .i64 n_9)]:List Cell)) 4 ([(.int .i64 a2)]:List Cell)).length=6 then some ([(.agg (splice (splice (splice [Cell.int .i64 0,Cell.int .i64 0,Cell.int .i64 0,Cell.int .i64 0,Cell.int .i64 0,Cell.int .i64 0] 2 ([(.int .i64 1)]:List Cell)) 3 ([(.int .i64 n_9)]:List Cell)) 4 ([(.int .i64 a2)]:List Cell))),(.c (.bool true))],h0) else none else none else if (n_2==4)=true then if 3+2≤l0.length then if 0=0∧l1.length=5 then c1 (C 108 [(.agg ((l0.drop 3).take 2)),(.agg l1)] h0) fun y_11 h_10=>asI .i64 y_11 fun n_12=>if (n_12==a2)=true then atK l0 2 fun q_13=>asI .i64 (.c q_13) fun n_14=>if 6+2≤l0.length then if 0=0∧l1.length=5 then c1 (qh h_10 (C 108 [(.agg ((l0.drop 6).take 2)),(.agg l1)] h_10)) fun y_16 h_15=>asI .i64 y_16 fun n_17=>if 0=0∧[Cell.int .i64 0,Cell.int .i64 0,Cell.int .i64 0,Cell.int .i64 0,Cell.int .i64 0,Cell.int .i64 0].length=6∧(splice (splice (splice (splice [Cell.int .i64 0,Cell.int .i64 0,Cell.int .i64 0,Cell.int .i64 0,Cell.int .i64 0,Cell.int .i64 0] 2 ([(.int .i64 4)]:List Cell)) 3 ([(.int .i64 n_14)]:List Cell)) 4 ([(.int .i64 a2)]:List Cell)) 5 ([(.int .i64 n_17)]:List Cell)).length=6 then if 0=0∧(splice (splice (splice (splice [Cell.int .i64 0,Cell.int .i64 0,Cell.int .i64 0,Cell.int .i64 0,Cell.int .i64 0,Cell.int .i64 0] 2 ([(.int .i64 4)]:List Cell)) 3 ([(.int .i64 n_14)]:List Cell)) 4 ([(.int .i64 a2)]:List Cell)) 5 ([(.int .i64 n_17)]:List Cell)).length=6 then some ([(.agg (splice (splice (splice (splice [Cell.int .i64 0,Cell.int .i64 0,Cell.int .i64 0,Cell.int .i64 0,Cell.int .i64 0,Cell.int .i64 0] 2 ([(.int .i64 4)]:List Cell)) 3 ([(.int .i64 n_14)]:List Cell)) 4 ([(.int .i64 a2)]:List Cell)) 5 ([(.int .i64 n_17)]:List Cell))),(.c (.bool true))],h_10) else none else none else none else none else atK l0 2 fun q_18=>asI .i64 (.c q_18) fun n_19=>if 0=0∧[Cell.int .i64 0,Cell.int .i64 0,Cell.int .i64 0,Cell.int .i64 0,Cell.int .i64 0,Cell.int .i64 0].length=6∧(splice (splice (splice [Cell.int .i64 0,Cell.int .i64 0,Cell.int .i64 0,Cell.int .i64 0,Cell.int .i64 0,Cell.int .i64 0] 2 ([(.int .i64 5)]:List Cell)) 3 ([(.int .i64 n_19)]:List Cell)) 4 ([(.int .i64 a2)]:List Cell)).length=6 then if 0=0∧(splice (splice (splice [Cell.int .i64 0,Cell.int .i64 0,Cell.int .i64 0,Cell.int .i64 0,Cell.int .i64 0,Cell.int .i64 0] 2 ([(.int .i64 5)]:List Cell)) 3 ([(.int .i64 n_19)]:List Cell)) 4 ([(.int .i64 a2)]:List Cell)).length=6 then some ([(.agg (splice (splice (splice [Cell.int .i64 0,Cell.int .i64 0,Cell.int .i64 0,Cell.int .i64 0,Cell.int .i64 0,Cell.int .i64 0] 2 ([(.int .i64 5)]:List Cell)) 3 ([(.int .i64 n_19)]:List Cell)) 4 ([(.int .i64 a2)]:List Cell))),(.c (.bool true))],h_10) else none else none else none else none else if 0=0∧[Cell.int .i64 0,Cell.int .i64 0,Cell.int .i64 0,Cell.int .i64 0,Cell.int .i64 0,Cell.int .i64 0].length=6∧(splice [Cell.int .i64 0,Cell.int .i64 0,Cell.int .i64 0,Cell.int .i64 0,Cell.int .i64 0,Cell.int .i64 0] 2 ([(.int .i64 3)]:List Cell)).length=6 then if 0=0∧(splice [Cell.int .i64 0,Cell.int .i64 0,Cell.int .i64 0,Cell.int .i64 0,Cell.int .i64 0,Cell.int .i64 0] 2 ([(.int .i64 3)]:List Cell)).length=6 then some ([(.agg (splice [Cell.int .i64 0,Cell.int .i64 0,Cell.int .i64 0,Cell.int .i64 0,Cell.int .i64 0,Cell.int .i64 0] 2 ([(.int .i64 3)]:List Cell))),(.c (.bool false))],h0) else none else none:=by kernel_rfl
end Jq

namespace Jq
open Go
structure Evt where
  t:Int
  i:Int
  kind:Int
  loc:Int
  r:Int
  w:Int
  deriving DecidableEq
def Evt.cs (e:Evt):List Cell:=[.int .i64 e.t,.int .i64 e.i,.int .i64 e.kind,.int .i64 e.loc,.int .i64 e.r,.int .i64 e.w]
def evsC (l:List Evt):List Cell:=l.flatMap Evt.cs
theorem Evt.len (e:Evt):e.cs.length=6:=rfl
def evOf (i:Ins) (l:Lcl) (v:Int):Evt :=
  if i.kind=1 then ⟨0,0,2,i.loc,0,opV i.a l⟩
  else if i.kind=2 then ⟨0,0,1,i.loc,v,0⟩
  else if i.kind=4 then (if opV i.a l=v then ⟨0,0,4,i.loc,v,opV i.b l⟩ else ⟨0,0,5,i.loc,v,0⟩)
  else ⟨0,0,3,0,0,0⟩
def rdI (i:Ins):Bool:=decide (i.kind=2∨i.kind=4)
def unf (code:List Ins) (t:Int):Nat→Lcl→List Int→List Evt→List Evt × Lcl × Bool
  | 0,l,_,out=>(out,l,false)
  | k+1,l,rs,out=>match nextI code l with
    | none=>(out,l,false)
    | some i =>
      if rdI i=true then match rs with
        | []=>(out,l,true)
        | v :: rs=>unf code t k (afterL code l v) rs (out++[{ evOf i l v with t:=t,i:=out.length }])
      else unf code t k (afterL code l 0) rs (out++[{ evOf i l 0 with t:=t,i:=out.length }])
theorem nrm_pc {code:List Ins}:∀(k:Nat) (l:Lcl),l.pc≤(nrm code k l).pc
  | 0,l=>by rw [nrm];omega
  | k+1,l=>by
    rw [nrm]
    cases hs:stepI code l with
    | none=>show l.pc≤l.pc;omega
    | some l' =>
      have h1:=stepI_pc hs
      have h2:=nrm_pc (code:=code) k l'
      show l.pc≤(nrm code k l').pc
      omega
theorem afterL_pc {code:List Ins} {l:Lcl} {i:Ins} (h:nextI code l=some i) (v:Int):l.pc+1≤(afterL code l v).pc:=by
  unfold afterL
  rw [h]
  exact nrm_pc _ _
theorem evOf_novalue {i:Ins} (h:rdI i=false) (l:Lcl) (v w:Int):evOf i l v=evOf i l w:=by
  unfold rdI at h
  rw [decide_eq_false_iff_not] at h
  unfold evOf
  split
  · rfl
  · rw [if_neg (by omega),if_neg (by omega),if_neg (by omega),if_neg (by omega)]
theorem afterL_novalue {code:List Ins} {l:Lcl} {i:Ins} (hn:nextI code l=some i) (h:rdI i=false) (v w:Int):afterL code l v=afterL code l w:=by
  unfold rdI at h
  rw [decide_eq_false_iff_not] at h
  unfold afterL
  rw [hn]
  dsimp only
  rw [if_neg h,if_neg h]
section
variable {E:Env}
theorem evOf_prog (hE:q109_In E) (i:Ins) (l:Lcl) (v:Int) (h:AHeap):R E 109 [.agg i.cs,.agg l.cs,.c (.int .i64 v)] h=some ([.agg (evOf i l v).cs,.c (.bool (rdI i))],h):=by
  refine R_intro hE.fn ?_
  have n3:(3+2≤i.cs.length):=by rw [Ins.len];omega
  have n6:(6+2≤i.cs.length):=by rw [Ins.len];omega
  unfold evOf rdI
  rw [q109_eq,ins_kind,asI_ok]
  by_cases k1:i.kind=1
  · rw [if_pos (by rw [k1];rfl),if_pos k1,ins_loc,asI_ok,if_pos n3,if_pos ⟨rfl,rfl⟩,ins_a,Value_R hE.c108,qh_ok,c1_ok,asI_ok,if_pos ⟨rfl,rfl,rfl⟩,if_pos ⟨rfl,rfl⟩,show decide (i.kind=2∨i.kind=4)=false from decide_eq_false (by omega)]
    rfl
  · rw [if_neg (by rw [beq_iff_eq];exact k1),if_neg k1]
    by_cases k2:i.kind=2
    · rw [if_pos (by rw [k2];rfl),if_pos k2,ins_loc,asI_ok,if_pos ⟨rfl,rfl,rfl⟩,if_pos ⟨rfl,rfl⟩,show decide (i.kind=2∨i.kind=4)=true from decide_eq_true (by omega)]
      rfl
    · rw [if_neg (by rw [beq_iff_eq];exact k2),if_neg k2]
      by_cases k4:i.kind=4
      · rw [if_pos (by rw [k4];rfl),if_pos k4,if_pos n3,if_pos ⟨rfl,rfl⟩,ins_a,Value_R hE.c108,c1_ok,asI_ok,show decide (i.kind=2∨i.kind=4)=true from decide_eq_true (by omega)]
        by_cases hv:opV i.a l=v
        · rw [if_pos (by rw [hv];exact beq_self_eq_true _),if_pos hv,ins_loc,asI_ok,if_pos n6,if_pos ⟨rfl,rfl⟩,ins_b,Value_R hE.c108,qh_ok,c1_ok,asI_ok,if_pos ⟨rfl,rfl,rfl⟩,if_pos ⟨rfl,rfl⟩]
          rfl
        · rw [if_neg (by rw [beq_iff_eq];exact hv),if_neg hv,ins_loc,asI_ok,if_pos ⟨rfl,rfl,rfl⟩,if_pos ⟨rfl,rfl⟩]
          rfl
      · rw [if_neg (by rw [beq_iff_eq];exact k4),if_neg k4,if_pos ⟨rfl,rfl,rfl⟩,if_pos ⟨rfl,rfl⟩,show decide (i.kind=2∨i.kind=4)=false from decide_eq_false (by omega)]
        rfl
theorem evOf_ref (hE:q111_In E) (i:Ins) (l:Lcl) (v:Int) (h:AHeap):R E 111 [.agg i.cs,.agg l.cs,.c (.int .i64 v)] h=some ([.agg (evOf i l v).cs],h):=by
  refine R_intro hE.fn ?_
  have n3:(3+2≤i.cs.length):=by rw [Ins.len];omega
  have n6:(6+2≤i.cs.length):=by rw [Ins.len];omega
  unfold evOf
  rw [q111_eq,ins_kind,asI_ok]
  by_cases k1:i.kind=1
  · rw [if_pos (by rw [k1];rfl),if_pos k1,ins_loc,asI_ok,if_pos n3,if_pos ⟨rfl,rfl⟩,ins_a,refValue_R hE.c92,qh_ok,c1_ok,asI_ok,if_pos ⟨rfl,rfl,rfl⟩,if_pos ⟨rfl,rfl⟩]
    rfl
  · rw [if_neg (by rw [beq_iff_eq];exact k1),if_neg k1]
    by_cases k2:i.kind=2
    · rw [if_pos (by rw [k2];rfl),if_pos k2,ins_loc,asI_ok,if_pos ⟨rfl,rfl,rfl⟩,if_pos ⟨rfl,rfl⟩]
      rfl
    · rw [if_neg (by rw [beq_iff_eq];exact k2),if_neg k2]
      by_cases k4:i.kind=4
      · rw [if_pos (by rw [k4];rfl),if_pos k4,if_pos n3,if_pos ⟨rfl,rfl⟩,ins_a,refValue_R hE.c92,c1_ok,asI_ok]
        by_cases hv:opV i.a l=v
        · rw [if_pos (by rw [hv];exact beq_self_eq_true _),if_pos hv,ins_loc,asI_ok,if_pos n6,if_pos ⟨rfl,rfl⟩,ins_b,refValue_R hE.c92,qh_ok,c1_ok,asI_ok,if_pos ⟨rfl,rfl,rfl⟩,if_pos ⟨rfl,rfl⟩]
          rfl
        · rw [if_neg (by rw [beq_iff_eq];exact fun e=>hv e.symm),if_neg hv,ins_loc,asI_ok,if_pos ⟨rfl,rfl,rfl⟩,if_pos ⟨rfl,rfl⟩]
          rfl
      · rw [if_neg (by rw [beq_iff_eq];exact k4),if_neg k4,if_pos ⟨rfl,rfl,rfl⟩,if_pos ⟨rfl,rfl⟩]
        rfl
def SlOkE (h:AHeap) (esz:Nat) (x:Cell):Prop:=∀k N off len,x=.sl k N off len→∀h',Kp h.length h h'→okSl h' esz k N=true
theorem SlOk.e {h:AHeap} {x:Cell} (s:SlOk h x) (esz:Nat):SlOkE h esz x:=fun k N off len e h' hk=>s k N off len e h' hk esz
theorem SlOkE.mono {h h':AHeap} {esz:Nat} {x:Cell} (s:SlOkE h esz x) (hk:Kp h.length h h'):SlOkE h' esz x :=
  fun k N off len e h2 hk2=>s k N off len e h2 (hk.trans (hk2.mono hk.1))
theorem SlAt.tail {α:Type} {h0 h:AHeap} {x:Cell} {esz len:Nat} {cs:List Cell} (s:SlAt h x esz cs (len+1)) (hok:SlOkE h0 esz x) (hp:Kp h0.length h0 h) (hl:Low h0.length x) :
    ∃x',(∀f:Cell→Option α,sliceK h esz true false x [.v (.c (.int .i64 1))] f=f x')∧SlAt h x' esz (cs.drop esz) len∧Low h0.length x'∧SlOkE h0 esz x':=by
  have hlen:(cs.drop esz).length=len*esz:=by rw [List.length_drop,s.1,Nat.succ_mul];omega
  rcases s.2 with ⟨_,h0⟩ | ⟨k,N,off,rfl,hb⟩
  · omega
  · refine ⟨.sl k N (off+1*esz) (len+1 - 1),fun f=>?_,⟨hlen,.inr ⟨k,N,off+1*esz,rfl,?_⟩⟩,?_,?_⟩
    · unfold sliceK
      simp only [hok k N off _ rfl h hp,if_true]
      unfold boundsK
      simp only
      rw [if_pos ⟨by omega,by omega⟩]
      rfl
    · rcases hb with h0 | ⟨b,hb,hN,hle,hat⟩
      · omega
      · rw [Nat.succ_mul] at hle hat
        refine .inr ⟨b,hb,hN,by omega,fun j hj=>?_⟩
        rw [List.getElem?_drop,←hat (esz+j) (by omega)]
        congr 1;omega
    · rcases hl with h1 | h1
      · omega
      · exact .inr h1
    · intro k' N' off' len' hk'
      cases hk'
      exact hok k N off _ rfl
def PProg.small (P:PProg):Prop:=P.thr.length≤1000∧∀code∈P.thr,code.length≤1000
theorem PProg.small.fits {P:PProg} (h:P.small):P.fits:=⟨by have:=h.1;omega,fun c hc=>by have:=h.2 c hc;omega⟩
theorem PProg.small.code {P:PProg} (h:P.small) (t:Int):(P.code t).length≤1000:=by
  unfold PProg.code
  split
  · rw [List.getD_eq_getElem?_getD]
    cases hq:P.thr[t.toNat]? with
    | none=>show (0:Nat)≤_;omega
    | some c=>exact h.2 c (List.mem_of_getElem? hq)
  · show (0:Nat)≤_;omega
end
end Jq

namespace Jq
open Go
end Jq

namespace Jq
open Go
end Jq

namespace Jq
open Go
end Jq

namespace Jq
open Go
def initsE (l:List Int):List Evt:=(List.range l.length).map fun (i:Nat)=>⟨-1,i,2,i,0,l.getD i 0⟩
theorem getDI {l:List Int} {i:Nat} (hi:i<l.length):l[i]? = some (l.getD i 0):=by
  rw [List.getD_eq_getElem?_getD,List.getElem?_eq_getElem hi];rfl
theorem takeI_succ {α:Type} {l:List α} {i:Nat} {p:α} (h:l[i]? = some p):l.take (i+1)=l.take i++[p]:=by
  rw [List.take_add_one,h];rfl
def shEv:Sh:=.agg (Sh.rep (.i .i64) 6)
section
variable {E:Env}
theorem ProgAt.initG {h:AHeap} {cs:List Cell} {P:PProg} (p:ProgAt h cs P):∃b,SlAt h b 1 (intC .i64 P.init) P.init.length∧Low h.length b∧∀{α:Type} (f:Cell→Option α),atK cs 1 f=f b:=by
  obtain ⟨a,b,c,ts,rfl,_,⟨hb,hbl⟩,_⟩:=p
  exact ⟨b,hb,hbl,fun _=>rfl⟩
theorem rdE_eq {k:Int} {e:Evt} (h:e.kind=k) {α:Type} {f:Cell→Option α}:atK e.cs 2 f=f (.int .i64 k):=by subst h;rfl
def evRd (e:Evt):Bool:=e.kind==1||e.kind==4||e.kind==5
def evWr (e:Evt):Bool:=e.kind==2||e.kind==4
def evFn (e:Evt):Bool:=e.kind==3||e.kind==4||e.kind==5
theorem evWrites_R (hE:q80_In E) (e:Evt) (h:AHeap):R E 80 [.agg e.cs] h=some ([.c (.bool (evWr e))],h):=by
  refine R_intro hE.fn ?_
  rw [q80_eq]
  simp only [rdE_eq (e:=e) rfl,asI_ok,scK_or];rfl
def poB (a b:Evt):Bool:=(decide (a.t<0)&&decide (b.t≥0))||(decide (a.t≥0)&&a.t==b.t&&decide (a.i<b.i))
def poL (l:List Evt) (a b:Nat):Bool:=poB (l.getD a ⟨0,0,0,0,0,0⟩) (l.getD b ⟨0,0,0,0,0,0⟩)
end
end Jq

namespace Jq
open Go
structure Atm where
  thread:Int
  reg:Int
  loc:Int
  value:Int
def Atm.cs (a:Atm):List Cell:=[.int .i64 a.thread,.int .i64 a.reg,.int .i64 a.loc,.int .i64 a.value]
def atmC (l:List Atm):List Cell:=l.flatMap Atm.cs
theorem Atm.len (a:Atm):a.cs.length=4:=rfl
theorem atmC_at:∀(l:List Atm) (i:Nat) (s:Atm),l[i]? = some s→((atmC l).drop (i*4)).take 4=s.cs
  | [],_,_,h=>by simp at h
  | q :: l,0,s,h=>by simp at h;subst h;rfl
  | q :: l,i+1,s,h=>by
    have:=atmC_at l i s (by simpa using h)
    have e:atmC (q :: l)=q.cs++atmC l:=rfl
    rw [e,List.drop_append,List.drop_of_length_le (by rw [Atm.len];omega),List.nil_append,show (i+1)*4 - q.cs.length=i*4 by rw [Atm.len];omega]
    exact this
theorem atmC_cell {l:List Atm} {i j:Nat} {s:Atm} {c:Cell} (h:l[i]? = some s) (hj:j<4) (hc:s.cs[j]? = some c):(atmC l)[i*4+j]? = some c:=by
  rw [←hc,←atmC_at l i s h,List.getElem?_take,if_pos hj,List.getElem?_drop]
theorem codeC_cell {l:List Ins} {i j:Nat} {s:Ins} {c:Cell} (h:l[i]? = some s) (hj:j<9) (hc:s.cs[j]? = some c):(codeC l)[i*9+j]? = some c:=by
  rw [←hc,←codeC_at l i s h,List.getElem?_take,if_pos hj,List.getElem?_drop]
structure PTest where
  name:ByteArray
  inits:List (Int × Int)
  thr:List (List Ins)
  ck:Int
  any:List (List Atm)
def RowsOf {α:Type} (esz:Nat) (C:List α→List Cell) (h:AHeap) (x:Cell) (rows:List (List α)):Prop :=
  ∃ts,SlAt h x 1 ts rows.length∧Low h.length x∧∀(t:Nat) (r:List α),rows[t]? = some r→∃y:Cell,ts[t]? = some y∧SlAt h y esz (C r) r.length∧Low h.length y
theorem RowsOf.keep {α:Type} {esz:Nat} {C:List α→List Cell} {h h':AHeap} {x:Cell} {rows:List (List α)} (r:RowsOf esz C h x rows) (hk:Kp h.length h h'):RowsOf esz C h' x rows:=by
  obtain ⟨ts,h1,h2,h3⟩:=r
  exact ⟨ts,h1.keep h2 hk,Low_mono hk.1 h2,fun t r hr=>by
    obtain ⟨y,y1,y2,y3⟩:=h3 t r hr
    exact ⟨y,y1,y2.keep y3 hk,Low_mono hk.1 y3⟩⟩
theorem RowsOf.get {α β:Type} {esz:Nat} {C:List α→List Cell} {h:AHeap} {x:Cell} {rows:List (List α)} (r:RowsOf esz C h x rows) {t:Nat} {row:List α} (ht:rows[t]? = some row) :
    ∃y,SlAt h y esz (C row) row.length∧Low h.length y∧∀(f:Cell→Option β),(idxSK 1 x (t:Int) fun k N o=>rdH h k N fun l=>atK l o f)=f y:=by
  obtain ⟨ts,h1,h2,h3⟩:=r
  obtain ⟨y,y1,y2,y3⟩:=h3 t row ht
  exact ⟨y,y2,y3,fun f=>h1.get1 (getI_lt ht) y1⟩
theorem RowsOf.len {α β:Type} {esz:Nat} {C:List α→List Cell} {h:AHeap} {x:Cell} {rows:List (List α)} (r:RowsOf esz C h x rows) {f:Int→Option β}:lenK x f=f rows.length:=by
  obtain ⟨ts,h1,_⟩:=r;exact h1.len
def TestAt (h:AHeap) (cs:List Cell) (T:PTest):Prop :=
  ∃a b c,cs=[.str T.name,a,b,.int .i64 T.ck,c]∧(SlAt h a 2 (pairC T.inits) T.inits.length∧Low h.length a)∧RowsOf 9 codeC h b T.thr∧RowsOf 4 atmC h c T.any
theorem TestAt.keep {h h':AHeap} {cs:List Cell} {T:PTest} (p:TestAt h cs T) (hk:Kp h.length h h'):TestAt h' cs T:=by
  obtain ⟨a,b,c,e,⟨a1,a2⟩,hb,hc⟩:=p
  exact ⟨a,b,c,e,⟨a1.keep a2 hk,Low_mono hk.1 a2⟩,hb.keep hk,hc.keep hk⟩
theorem TestAt.len {h:AHeap} {cs:List Cell} {T:PTest} (p:TestAt h cs T):cs.length=5:=by
  obtain ⟨a,b,c,rfl,_⟩:=p;rfl
structure PTest.small (T:PTest):Prop where
  inits:T.inits.length≤1000
  thr:T.thr.length≤1000
  code:∀c∈T.thr,c.length≤1000
  any:T.any.length≤1000
  row:∀c∈T.any,c.length≤1000
def thereT (T:PTest) (b:Nat):Bool:=(T.inits.any fun p=>p.1 % 256==(b:Int))||(T.thr.any fun c=>c.any fun i=>i.loc % 256==(b:Int))||(T.any.any fun c=>c.any fun a=>a.loc % 256==(b:Int))
def locsF (S:Nat→Bool) (n:Nat):List Int:=((List.range n).filter fun c=>S (97+c)).map fun (c:Nat)=>((97+c:Nat):Int)
def locsT (T:PTest):List Int:=locsF (thereT T) 26
theorem locsF_succ (S:Nat→Bool) (n:Nat):locsF S (n+1)=if S (97+n)=true then locsF S n++[((97+n:Nat):Int)] else locsF S n:=by
  unfold locsF
  rw [List.range_succ,List.filter_append,List.filter_cons,List.filter_nil]
  split<;>simp
theorem locsF_len (S:Nat→Bool):∀n,(locsF S n).length≤n
  | 0=>by simp [locsF]
  | n+1=>by
    have:=locsF_len S n
    rw [locsF_succ];split
    · rw [List.length_append,List.length_singleton];omega
    · omega
theorem locsF_mem {S:Nat→Bool} {n:Nat} {x:Int}:x∈locsF S n↔∃c,c<n∧S (97+c)=true∧x=((97+c:Nat):Int):=by
  unfold locsF
  rw [List.mem_map]
  constructor
  · rintro ⟨c,hc,rfl⟩
    rw [List.mem_filter] at hc
    exact ⟨c,by simpa using hc.1,hc.2,rfl⟩
  · rintro ⟨c,h1,h2,rfl⟩
    exact ⟨c,by rw [List.mem_filter];exact ⟨by simpa using h1,h2⟩,rfl⟩
theorem boolL_congr {s t:Nat→Bool} {n:Nat} (h:∀i,i<n→s i=t i):boolL s n=boolL t n:=List.map_congr_left fun i hi=>by rw [h i (by simpa using hi)]
theorem mark_next {S S':Nat→Bool} {v:Int} (h:∀b:Nat,b<256→S' b=(S b||(v % 256==(b:Int)))) :
    (boolL S 256).set (0+(v % 256).toNat*1) (.bool true)=boolL S' 256:=by
  rw [show 0+(v % 256).toNat*1=(v % 256).toNat by omega,boolL_set]
  refine boolL_congr fun i hi=>?_
  rw [h i hi]
  by_cases e:i=(v % 256).toNat
  · rw [if_pos e,show (v % 256==(i:Int))=true by rw [beq_iff_eq];omega,Bool.or_true]
  · rw [if_neg e,show (v % 256==(i:Int))=false by rw [beq_eq_false_iff_ne];omega,Bool.or_false]
theorem any_take_succ {α:Type} {l:List α} {i:Nat} {p:α} (h:l[i]? = some p) (f:α→Bool):(l.take (i+1)).any f=((l.take i).any f||f p):=by
  rw [takeI_succ h,List.any_append];simp
section
variable {E:Env}
theorem refLocs_R (hE:q121_In E) {cs:List Cell} {T:PTest} {h:AHeap} (p:TestAt h cs T) (hs:T.small) :
    ∃y h',R E 121 [.agg cs] h=some ([.c y],h')∧Own h.length h' y 1 (intC .u8 (locsT T)) (locsT T).length∧Kp h.length h h':=by
  obtain ⟨a,b,c,rfl,⟨ha,hal⟩,hb,hc⟩:=p
  have a1:∀{α:Type} (f:Cell→Option α),atK [.str T.name,a,b,.int .i64 T.ck,c] 1 f=f a:=fun _=>rfl
  have a2:∀{α:Type} (f:Cell→Option α),atK [.str T.name,a,b,.int .i64 T.ck,c] 2 f=f b:=fun _=>rfl
  have a4:∀{α:Type} (f:Cell→Option α),atK [.str T.name,a,b,.int .i64 T.ck,c] 4 f=f c:=fun _=>rfl
  have w:∀v:Int,0≤v % 256∧v % 256<((256:Nat):Int):=fun v=>by omega
  have w2:∀(v:Int) (S:Nat→Bool),0+Int.toNat (v % 256)*1<(boolL S 256).length:=fun v S=>by rw [boolL_len];omega
  have loop1:Lim (q121_F1 (R E) Lim E.glob) (q121_s1 ((0:Nat):Int) [.str T.name,a,b,.int .i64 T.ck,c] (boolL (fun q=>(T.inits.take 0).any fun p=>p.1 % 256==(q:Int)) 256) h)=some (.exit 0,q121_x1_1 [.str T.name,a,b,.int .i64 T.ck,c] (boolL (fun q=>(T.inits.take T.inits.length).any fun p=>p.1 % 256==(q:Int)) 256) h):=by
    refine Lim_count (fun i=>q121_s1 (i:Int) [.str T.name,a,b,.int .i64 T.ck,c] (boolL (fun q=>(T.inits.take i).any fun p=>p.1 % 256==(q:Int)) 256) h) 0 T.inits.length (by omega) (fun i _ hi=>?_) (Lim_exit ?_)
    · have hq:T.inits[i]? = some T.inits[i]:=List.getElem?_eq_getElem hi
      generalize T.inits[i]=q at hq
      have:=hs.inits
      rw [q121_r1,a1,ha.len,if_pos (by simp;omega),a1,ha.get hi (by omega) (pairC_get _ _ _ hq).1,asI_ok,g_band255,if_pos (w _),if_pos (w2 _ _),g_succ (by omega),mark_next (S':=fun r=>(T.inits.take (i+1)).any fun p=>p.1 % 256==(r:Int)) (fun r _=>any_take_succ hq _)]
    · rw [q121_r1,a1,ha.len,if_neg (by simp)]
  rw [List.take_length] at loop1
  generalize hS1:(fun q:Nat=>T.inits.any fun p=>p.1 % 256==(q:Int))=S1 at loop1
  have loop2:∀(t:Nat) (code:List Ins) (S:Nat→Bool),T.thr[t]? = some code→Lim (q121_F2 (R E) Lim E.glob) (q121_s2 (t:Int) ((0:Nat):Int) [.str T.name,a,b,.int .i64 T.ck,c] (boolL (fun q=>S q||(code.take 0).any fun i=>i.loc % 256==(q:Int)) 256) h)=some (.exit 4,q121_x2_5 (t:Int) [.str T.name,a,b,.int .i64 T.ck,c] (boolL (fun q=>S q||(code.take code.length).any fun i=>i.loc % 256==(q:Int)) 256) h):=by
    intro t code S ht
    obtain ⟨y,y1,y2,y3⟩:=hb.get (β:=Ex × St) ht
    refine Lim_count (fun i=>q121_s2 (t:Int) (i:Int) [.str T.name,a,b,.int .i64 T.ck,c] (boolL (fun q=>S q||(code.take i).any fun i=>i.loc % 256==(q:Int)) 256) h) 0 code.length (by omega) (fun i _ hi=>?_) (Lim_exit ?_)
    · have hq:code[i]? = some code[i]:=List.getElem?_eq_getElem hi
      generalize code[i]=q at hq
      have:=hs.code code (List.mem_of_getElem? ht)
      rw [q121_r2,a2,y3,y1.len,if_pos (by simp;omega),a2,y3,y1.get hi (by omega) (codeC_cell hq (by omega) (c:=.int .i64 q.loc) rfl),asI_ok,g_band255,if_pos (w _),if_pos (w2 _ _),g_succ (by omega),mark_next (S':=fun r=>S r||(code.take (i+1)).any fun i=>i.loc % 256==(r:Int)) (fun r _=>by rw [any_take_succ hq,Bool.or_assoc])]
    · rw [q121_r2,a2,y3,y1.len,if_neg (by simp)]
  have loop3:Lim (q121_F3 (R E) Lim E.glob) (q121_s3 ((0:Nat):Int) [.str T.name,a,b,.int .i64 T.ck,c] (boolL (fun q=>S1 q||(T.thr.take 0).any fun c=>c.any fun i=>i.loc % 256==(q:Int)) 256) h)=some (.exit 2,q121_x3_3 [.str T.name,a,b,.int .i64 T.ck,c] (boolL (fun q=>S1 q||(T.thr.take T.thr.length).any fun c=>c.any fun i=>i.loc % 256==(q:Int)) 256) h):=by
    refine Lim_count (fun t=>q121_s3 (t:Int) [.str T.name,a,b,.int .i64 T.ck,c] (boolL (fun q=>S1 q||(T.thr.take t).any fun c=>c.any fun i=>i.loc % 256==(q:Int)) 256) h) 0 T.thr.length (by omega) (fun t _ ht=>?_) (Lim_exit ?_)
    · have hq:T.thr[t]? = some T.thr[t]:=List.getElem?_eq_getElem ht
      generalize T.thr[t]=code at hq
      have:=hs.thr
      have l2:=loop2 t code (fun q=>S1 q||(T.thr.take t).any fun c=>c.any fun i=>i.loc % 256==(q:Int)) hq
      rw [List.take_length,show ((0:Nat):Int)=0 from rfl] at l2
      have e0:boolL (fun q=>(S1 q||(T.thr.take t).any fun c=>c.any fun i=>i.loc % 256==(q:Int))||(code.take 0).any fun i=>i.loc % 256==(q:Int)) 256=boolL (fun q=>S1 q||(T.thr.take t).any fun c=>c.any fun i=>i.loc % 256==(q:Int)) 256:=boolL_congr fun q _=>by simp
      rw [e0] at l2
      rw [q121_r3,a2,hb.len,if_pos (by simp;omega),l2,bind_ok,q121_e2_5,g_succ (by omega)]
      congr 3
      exact boolL_congr fun q _=>by rw [any_take_succ hq,Bool.or_assoc]
    · rw [q121_r3,a2,hb.len,if_neg (by simp)]
  rw [List.take_length] at loop3
  have e3:boolL (fun q=>S1 q||(T.thr.take 0).any fun c=>c.any fun i=>i.loc % 256==(q:Int)) 256=boolL S1 256:=boolL_congr fun q _=>by simp
  rw [e3,show ((0:Nat):Int)=0 from rfl] at loop3
  generalize hS2:(fun q:Nat=>S1 q||T.thr.any fun c=>c.any fun i=>i.loc % 256==(q:Int))=S2 at loop3
  have loop4:∀(t:Nat) (row:List Atm) (S:Nat→Bool),T.any[t]? = some row→Lim (q121_F4 (R E) Lim E.glob) (q121_s4 (t:Int) ((0:Nat):Int) [.str T.name,a,b,.int .i64 T.ck,c] (boolL (fun q=>S q||(row.take 0).any fun i=>i.loc % 256==(q:Int)) 256) h)=some (.exit 8,q121_x4_9 (t:Int) [.str T.name,a,b,.int .i64 T.ck,c] (boolL (fun q=>S q||(row.take row.length).any fun i=>i.loc % 256==(q:Int)) 256) h):=by
    intro t row S ht
    obtain ⟨y,y1,y2,y3⟩:=hc.get (β:=Ex × St) ht
    refine Lim_count (fun i=>q121_s4 (t:Int) (i:Int) [.str T.name,a,b,.int .i64 T.ck,c] (boolL (fun q=>S q||(row.take i).any fun i=>i.loc % 256==(q:Int)) 256) h) 0 row.length (by omega) (fun i _ hi=>?_) (Lim_exit ?_)
    · have hq:row[i]? = some row[i]:=List.getElem?_eq_getElem hi
      generalize row[i]=q at hq
      have:=hs.row row (List.mem_of_getElem? ht)
      rw [q121_r4,a4,y3,y1.len,if_pos (by simp;omega),a4,y3,y1.get hi (by omega) (atmC_cell hq (by omega) (c:=.int .i64 q.loc) rfl),asI_ok,g_band255,if_pos (w _),if_pos (w2 _ _),g_succ (by omega),mark_next (S':=fun r=>S r||(row.take (i+1)).any fun i=>i.loc % 256==(r:Int)) (fun r _=>by rw [any_take_succ hq,Bool.or_assoc])]
    · rw [q121_r4,a4,y3,y1.len,if_neg (by simp)]
  have loop5:Lim (q121_F5 (R E) Lim E.glob) (q121_s5 ((0:Nat):Int) [.str T.name,a,b,.int .i64 T.ck,c] (boolL (fun q=>S2 q||(T.any.take 0).any fun c=>c.any fun i=>i.loc % 256==(q:Int)) 256) h)=some (.exit 6,q121_x5_7 (boolL (fun q=>S2 q||(T.any.take T.any.length).any fun c=>c.any fun i=>i.loc % 256==(q:Int)) 256) h):=by
    refine Lim_count (fun t=>q121_s5 (t:Int) [.str T.name,a,b,.int .i64 T.ck,c] (boolL (fun q=>S2 q||(T.any.take t).any fun c=>c.any fun i=>i.loc % 256==(q:Int)) 256) h) 0 T.any.length (by omega) (fun t _ ht=>?_) (Lim_exit ?_)
    · have hq:T.any[t]? = some T.any[t]:=List.getElem?_eq_getElem ht
      generalize T.any[t]=row at hq
      have:=hs.any
      have l2:=loop4 t row (fun q=>S2 q||(T.any.take t).any fun c=>c.any fun i=>i.loc % 256==(q:Int)) hq
      rw [List.take_length,show ((0:Nat):Int)=0 from rfl] at l2
      have e0:boolL (fun q=>(S2 q||(T.any.take t).any fun c=>c.any fun i=>i.loc % 256==(q:Int))||(row.take 0).any fun i=>i.loc % 256==(q:Int)) 256=boolL (fun q=>S2 q||(T.any.take t).any fun c=>c.any fun i=>i.loc % 256==(q:Int)) 256:=boolL_congr fun q _=>by simp
      rw [e0] at l2
      rw [q121_r5,a4,hc.len,if_pos (by simp;omega),l2,bind_ok,q121_e4_9,g_succ (by omega)]
      congr 3
      exact boolL_congr fun q _=>by rw [any_take_succ hq,Bool.or_assoc]
    · rw [q121_r5,a4,hc.len,if_neg (by simp)]
  rw [List.take_length] at loop5
  have e5:boolL (fun q=>S2 q||(T.any.take 0).any fun c=>c.any fun i=>i.loc % 256==(q:Int)) 256=boolL S2 256:=boolL_congr fun q _=>by simp
  rw [e5,show ((0:Nat):Int)=0 from rfl] at loop5
  have hS3:(fun q:Nat=>S2 q||T.any.any fun c=>c.any fun i=>i.loc % 256==(q:Int))=thereT T:=by
    funext q;rw [←hS2,←hS1];rfl
  rw [hS3] at loop5
  have hm:maxBytes≥100:=by unfold maxBytes;omega
  obtain ⟨st,⟨y,h1,rfl,hy,hk⟩,hL⟩:=Lim_inv (F:=q121_F6 (R E) Lim E.glob) (fun i st=>∃y h1,st=q121_s6 y ((97+i:Nat):Int) (boolL (thereT T) 256) h1∧Own h.length h1 y 1 (intC .u8 (locsF (thereT T) i)) (locsF (thereT T) i).length∧Kp h.length h h1) 0 26 (by omega)
    (fun i st _ hi=>by
      rintro ⟨y,h1,rfl,hy,hk⟩
      have hlen:=locsF_len (thereT T) i
      have hw:E.glob.wrap .i32 (((97+i:Nat):Int)+1)=((97+(i+1):Nat):Int):=by
        show IntKind.wrap .i32 _=_
        simp only [IntKind.wrap,IntKind.signed,IntKind.bits,Bool.true_and]
        split
        · rename_i hh;have hh:=of_decide_eq_true hh;omega
        · omega
      have hw8:E.glob.wrap .u8 ((97+i:Nat):Int)=((97+i:Nat):Int):=by
        show IntKind.wrap .u8 _=_
        simp only [IntKind.wrap,IntKind.signed,IntKind.bits,Bool.false_and,Bool.false_eq_true,if_false];omega
      have hrd:q121_F6 (R E) Lim E.glob (q121_s6 y ((97+i:Nat):Int) (boolL (thereT T) 256) h1)=if thereT T (97+i)=true then appK 1 1 y [.int .u8 ((97+i:Nat):Int)] h1 fun x h'=>some (.normal,q121_s6 x ((97+(i+1):Nat):Int) (boolL (thereT T) 256) h') else some (.normal,q121_s6 y ((97+(i+1):Nat):Int) (boolL (thereT T) 256) h1):=by
        rw [q121_r6,if_pos (by simp;omega),if_pos ⟨by omega,by omega⟩,show 0+Int.toNat ((97+i:Nat):Int)*1=97+i by omega,atK_ok (boolL_get (show 97+i<256 by omega)),asB_ok,hw,hw8]
        rfl
      rw [hrd]
      by_cases ht:thereT T (97+i)=true
      · obtain ⟨y2,h2,hap,hy2,hk2,_⟩:=hy.app (bytes:=1) (xs:=[.int .u8 ((97+i:Nat):Int)]) hk.1 rfl (by omega) (by omega) (by omega)
        refine ⟨_,by rw [if_pos ht,hap],y2,h2,rfl,?_,hk.trans hk2⟩
        rw [locsF_succ,if_pos ht,intC_snoc,List.length_append,List.length_singleton];exact hy2
      · refine ⟨_,by rw [if_neg ht],y,h1,rfl,?_,hk⟩
        rw [locsF_succ,if_neg ht];exact hy) (st:=q121_s6 .nils ((97+0:Nat):Int) (boolL (thereT T) 256) h) ⟨.nils,h,rfl,Own.nil _ _ _,Kp.refl _ _⟩
  have hfin:q121_F6 (R E) Lim E.glob (q121_s6 y ((97+26:Nat):Int) (boolL (thereT T) 256) h1)=some (.exit 10,q121_x6_11 y h1):=by
    rw [q121_r6,if_neg (by simp)]
  have hr:=hL _ (Lim_exit hfin)
  refine ⟨y,h1,R_intro hE.fn ?_,hy,hk⟩
  have e1:boolL (fun q=>(T.inits.take 0).any fun p=>p.1 % 256==(q:Int)) 256=List.replicate 256 (Cell.bool false):=by rw [boolL_false];exact boolL_congr fun q _=>by simp
  rw [e1,show ((0:Nat):Int)=0 from rfl] at loop1
  rw [q121_eq,loop1,bind_ok,q121_e1_1,loop3,bind_ok,q121_e3_3,loop5,bind_ok,q121_e5_7,show (97:Int)=((97+0:Nat):Int) from rfl,hr,bind_ok,q121_e6_11]
end
end Jq

namespace Jq
open Go
theorem Own.keepK {n:Nat} {h h':AHeap} {x:Cell} {esz len:Nat} {cs:List Cell} (o:Own n h x esz cs len) (hk:Kp h.length h h'):Own n h' x esz cs len:=by
  refine ⟨o.1,o.2.imp id ?_⟩
  rintro ⟨k,e,hn,hb⟩
  exact ⟨k,e,hn,by rw [hk.blk (blk_lt' hb)];exact hb⟩
theorem Own.monoN {n m:Nat} (hm:m≤n) {h:AHeap} {x:Cell} {esz len:Nat} {cs:List Cell} (o:Own n h x esz cs len):Own m h x esz cs len :=
  ⟨o.1,o.2.imp id fun ⟨k,e,hn,hb⟩=>⟨k,e,by omega,hb⟩⟩
theorem Own.blkLt {n:Nat} {h:AHeap} {x:Cell} {esz len:Nat} {cs:List Cell} (o:Own n h x esz cs len) {k:Nat} (hk:isBlk x k):k<h.length∧n≤k:=by
  rcases o.2 with ⟨rfl,_⟩ | ⟨j,rfl,hn,hb⟩
  · cases hk
  · have:j=k:=hk
    subst this;exact ⟨blk_lt' hb,hn⟩
def RowsOwn {α:Type} (esz:Nat) (C:List α→List Cell) (n:Nat) (h:AHeap) (y:Cell) (rows:List (List α)):Prop :=
  ∃ts,Own n h y 1 ts rows.length∧∀(t:Nat) (r:List α),rows[t]? = some r→∃x:Cell,ts[t]? = some x∧Own n h x esz (C r) r.length∧∀k,isBlk x k→¬isBlk y k
section rows
variable {α:Type} {esz:Nat} {C:List α→List Cell} {n:Nat}
theorem RowsOwn.nil (h:AHeap):RowsOwn esz C n h .nils ([]:List (List α)):=⟨[],Own.nil _ _ _,fun t r hr=>by simp at hr⟩
theorem RowsOwn.keep {h h':AHeap} {y:Cell} {rows:List (List α)} (r:RowsOwn esz C n h y rows) (hk:Kp h.length h h'):RowsOwn esz C n h' y rows:=by
  obtain ⟨ts,h1,h2⟩:=r
  exact ⟨ts,h1.keepK hk,fun t r hr=>by obtain ⟨x,x1,x2,x3⟩:=h2 t r hr;exact ⟨x,x1,x2.keepK hk,x3⟩⟩
theorem RowsOwn.blkLt {h:AHeap} {y:Cell} {rows:List (List α)} (r:RowsOwn esz C n h y rows) {k:Nat} (hk:isBlk y k):k<h.length∧n≤k:=by
  obtain ⟨ts,h1,_⟩:=r;exact h1.blkLt hk
theorem RowsOwn.of {h:AHeap} {y:Cell} {rows:List (List α)} (r:RowsOwn esz C n h y rows):RowsOf esz C h y rows:=by
  obtain ⟨ts,h1,h2⟩:=r
  exact ⟨ts,h1.at,h1.low,fun t r hr=>by obtain ⟨x,x1,x2,_⟩:=h2 t r hr;exact ⟨x,x1,x2.at,x2.low⟩⟩
theorem RowsOwn.push {h:AHeap} {y x:Cell} {rows:List (List α)} {r:List α} (w:RowsOwn esz C n h y rows) (hx:Own n h x esz (C r) r.length) (hd:∀k,isBlk x k→¬isBlk y k) (hn:n≤h.length) (hl:rows.length≤2000) :
    ∃y' h',(∀{β:Type} (f:Cell→AHeap→Option β),appK 1 24 y [x] h f=f y' h')∧RowsOwn esz C n h' y' (rows++[r])∧Kp n h h'∧∀j b,blk? h j=some b→¬isBlk y j→blk? h' j=some b∧¬isBlk y' j:=by
  have hm:maxBytes≥2001*24:=by unfold maxBytes;omega
  obtain ⟨ts,h1,h2⟩:=w
  obtain ⟨y',h',ha,ho,hk,hf⟩:=h1.app (bytes:=24) (xs:=[x]) hn rfl (by omega) (by omega) (by omega)
  have mv:∀{z:Cell} {cs:List Cell} {len:Nat},Own n h z esz cs len→(∀k,isBlk z k→¬isBlk y k)→Own n h' z esz cs len∧∀k,isBlk z k→¬isBlk y' k:=by
    intro z cs len oz dz
    rcases oz.2 with e | ⟨k,e,hnk,hb⟩
    · refine ⟨⟨oz.1,.inl e⟩,fun k hk=>?_⟩
      rw [e.1] at hk;cases hk
    · have hik:isBlk z k:=by rw [e];rfl
      obtain ⟨b1,b2⟩:=hf k _ hb (dz k hik)
      refine ⟨⟨oz.1,.inr ⟨k,e,hnk,b1⟩⟩,fun j hj=>?_⟩
      rw [e] at hj
      have:k=j:=hj
      subst this;exact b2
  refine ⟨y',h',ha,⟨ts++[x],by rw [List.length_append,List.length_singleton];exact ho,fun t r' hr=>?_⟩,hk,hf⟩
  have hts:ts.length=rows.length:=by have:=h1.1;omega
  by_cases ht:t<rows.length
  · rw [List.getElem?_append_left ht] at hr
    obtain ⟨z,z1,z2,z3⟩:=h2 t r' hr
    obtain ⟨w1,w2⟩:=mv z2 z3
    exact ⟨z,by rw [List.getElem?_append_left (by omega)];exact z1,w1,w2⟩
  · rw [List.getElem?_append_right (by omega)] at hr
    have h0:t - rows.length=0:=by
      rcases Nat.eq_zero_or_pos (t - rows.length) with e | e
      · exact e
      · rw [List.getElem?_eq_none (by simp;omega)] at hr;cases hr
    rw [h0] at hr
    obtain rfl:r=r':=by simpa using hr
    obtain ⟨w1,w2⟩:=mv hx hd
    exact ⟨x,by rw [List.getElem?_append_right (by omega),show t - ts.length=0 by omega];rfl,w1,w2⟩
end rows
def plc:List Int→Int→Nat→Int
  | [],_,_=>-1
  | c :: t,x,i=>if c=x then i else plc t x (i+1)
def initV (l:List (Int × Int)) (c:Int):Int:=l.foldl (fun v p=>if p.1=c then p.2 else v) 0
def compI (locs:List Int) (i:Ins):Ins:=if i.loc≠0 then { i with loc:=plc locs i.loc 0 } else i
def compT (T:PTest):PProg:=⟨locsT T,(locsT T).map (initV T.inits),T.thr.map fun c=>c.map (compI (locsT T))⟩
theorem locsT_u8 {T:PTest} {x:Int} (h:x∈locsT T):97≤x∧x≤122:=by
  obtain ⟨c,h1,_,rfl⟩:=locsF_mem.1 h
  omega
section
variable {E:Env}
theorem Place_R (hE:q122_In E) {a b c:Cell} {locs:List Int} {h:AHeap} (ha:SlAt h a 1 (intC .u8 locs) locs.length) (hu:∀x∈locs,97≤x∧x≤122) (hl:locs.length≤100) (x:Int) :
    R E 122 [.agg [a,b,c],.c (.int .i64 x)] h=some ([.c (.int .i64 (plc locs x 0))],h):=by
  refine R_intro hE.fn ?_
  have a0:∀{α:Type} (f:Cell→Option α),atK [a,b,c] 0 f=f a:=fun _=>rfl
  have key:∀(t:List Int) (i:Nat),locs.drop i=t→(Lim (q122_F1 (R E) Lim E.glob) (q122_s1 x (i:Int) [a,b,c] h)).bind (fun p=>q122_k3 (R E) Lim E.glob h p.1 p.2)=some ([.c (.int .i64 (plc t x i))],h):=by
    intro t
    induction t with
    | nil =>
      intro i hd
      have hi:locs.length≤i:=by
        have:=congrArg List.length hd
        simp at this;omega
      have hr:q122_F1 (R E) Lim E.glob (q122_s1 x (i:Int) [a,b,c] h)=some (.exit 0,q122_x1_1 h):=by
        rw [q122_r1,a0,ha.len,if_neg (by simp;omega)]
      rw [Lim_exit hr,bind_ok,q122_e1_1];rfl
    | cons v t ih =>
      intro i hd
      have hi:i<locs.length:=by
        have:=congrArg List.length hd
        simp at this;omega
      have hv:locs[i]? = some v:=by
        have:=congrArg (fun z=>z[0]?) hd
        simpa [List.getElem?_drop] using this
      have hd2:locs.drop (i+1)=t:=by
        have:=congrArg (List.drop 1) hd
        simpa [List.drop_drop] using this
      have huv:=hu v (List.mem_of_getElem? hv)
      have hr:q122_F1 (R E) Lim E.glob (q122_s1 x (i:Int) [a,b,c] h)=if (v==x)=true then some (.ret,q122_x1_0 i h) else some (.normal,q122_s1 x ((i+1:Nat):Int) [a,b,c] h):=by
        rw [q122_r1,a0,ha.len,if_pos (by simp;omega),a0,ha.get1 hi (intC_get hv),asI_ok,g_wrap_i64 (by omega) (by omega),g_succ (by omega)]
      rw [plc]
      by_cases hvx:v=x
      · rw [if_pos (by rw [hvx];exact beq_self_eq_true _)] at hr
        rw [Lim_ret hr,bind_ok,q122_e1_0,if_pos hvx]
      · rw [if_neg (by rw [beq_iff_eq];exact hvx)] at hr
        rw [if_neg hvx]
        have:=ih (i+1) hd2
        cases hL:Lim (q122_F1 (R E) Lim E.glob) (q122_s1 x ((i+1:Nat):Int) [a,b,c] h) with
        | none=>rw [hL] at this;cases this
        | some p=>rw [Lim_next hr hL];rw [hL] at this;exact this
  rw [q122_eq]
  exact key locs 0 rfl
theorem ins_setloc {i:Ins} {v:Int}:i.cs.set 2 (.int .i64 v)=({ i with loc:=v }:Ins).cs:=rfl
theorem ins_splice {i:Ins}:splice (List.replicate 9 (Cell.int .i64 0)) 0 i.cs=i.cs:=rfl
theorem ins_len19 (i:Ins):i.cs.length=1*9:=rfl
theorem initV_snoc (l:List (Int × Int)) (p:Int × Int) (c:Int):initV (l++[p]) c=if p.1=c then p.2 else initV l c:=by
  unfold initV;rw [List.foldl_append];rfl
def ProgOwn (n:Nat) (h:AHeap) (cs:List Cell) (P:PProg):Prop :=
  ∃(m:Nat) (a b y:Cell),cs=[a,b,y]∧n≤m∧m≤h.length∧(SlAt h a 1 (intC .u8 P.locs) P.locs.length∧Low m a)∧(SlAt h b 1 (intC .i64 P.init) P.init.length∧Low m b)∧RowsOwn 9 codeC m h y P.thr
theorem refCompile_S (hE:q101_In E) {cs:List Cell} {T:PTest} {h:AHeap} (p:TestAt h cs T) (hs:T.small) :
    ∃cs' h',R E 101 [.agg cs] h=some ([.agg cs'],h')∧ProgOwn h.length h' cs' (compT T)∧Kp h.length h h':=by
  obtain ⟨a,h1,hr1,ha,hk1⟩:=refLocs_R hE.c121 p hs
  have hll:(locsT T).length≤26:=locsF_len _ _
  have hu:=fun x (hx:x∈locsT T)=>locsT_u8 hx
  have p1:=p.keep hk1
  have hlen:=p.len
  obtain ⟨ta,tb,tc,hcs,⟨hta,htal⟩,htb,htc⟩:=p1
  have t1:∀{α:Type} (f:Cell→Option α),atK cs 1 f=f ta:=fun f=>by rw [hcs];rfl
  have t2:∀{α:Type} (f:Cell→Option α),atK cs 2 f=f tb:=fun f=>by rw [hcs];rfl
  have hat:=ha.at
  have hal:=ha.low
  have hm:maxBytes≥2000*72:=by unfold maxBytes;omega
  have pu:∀(x y z:Cell),([x,y,z]:List Cell).length=3:=fun _ _ _=>rfl
  have inner1:∀(i:Nat) (b:Cell) (h2:AHeap) (v:Int) (z:List Cell),(locsT T)[i]? = some v→Kp h1.length h1 h2 →
      Lim (q101_F1 (R E) Lim E.glob) (q101_s1 (i:Int) 0 ((0:Nat):Int) cs z [a,b,.nils] h2)=some (.exit 2,q101_x1_3 (i:Int) (initV T.inits v) cs z [a,b,.nils] h2):=by
    intro i b h2 v z hv hk
    have h0:(0:Int)=initV (T.inits.take 0) v:=rfl
    have he:initV T.inits v=initV (T.inits.take T.inits.length) v:=by rw [List.take_length]
    rw [he]
    rw [show q101_s1 (i:Int) 0 ((0:Nat):Int) cs z [a,b,.nils] h2=q101_s1 (i:Int) (initV (T.inits.take 0) v) ((0:Nat):Int) cs z [a,b,.nils] h2 from rfl]
    have huv:=hu v (List.mem_of_getElem? hv)
    refine Lim_count (fun k=>q101_s1 (i:Int) (initV (T.inits.take k) v) (k:Int) cs z [a,b,.nils] h2) 0 T.inits.length (by omega) (fun k _ hkk=>?_) (Lim_exit ?_)
    · have hq:T.inits[k]? = some T.inits[k]:=List.getElem?_eq_getElem hkk
      generalize T.inits[k]=q at hq
      have:=hs.inits
      have hta2:=hta.keep htal hk
      rw [q101_r1,t1,hta2.len,if_pos (by simp;omega),t1,hta2.get hkk (by omega) (pairC_get _ _ _ hq).1,asI_ok,show ∀{α:Type} (f:Cell→Option α),atK [a,b,Cell.nils] 0 f=f a from fun _=>rfl,(hat.keep hal hk).get1 (getI_lt hv) (intC_get hv),asI_ok,g_wrap_i64 (by omega) (by omega),takeI_succ hq,initV_snoc]
      by_cases hqv:q.1=v
      · rw [if_pos (by rw [hqv];exact beq_self_eq_true _),if_pos hqv,t1,hta2.get hkk (by omega) (pairC_get _ _ _ hq).2,asI_ok,g_succ (by omega)]
      · rw [if_neg (by rw [beq_iff_eq];exact hqv),if_neg hqv,g_succ (by omega)]
    · have hta2:=hta.keep htal hk
      rw [q101_r1,t1,hta2.len,if_neg (by simp)]
  obtain ⟨st,⟨b,h2,rfl,hb,hk2⟩,hL2⟩:=Lim_inv (F:=q101_F2 (R E) Lim E.glob) (fun i st=>∃b h2,st=q101_s2 (i:Int) cs [Cell.nils,Cell.nils,Cell.nils] [a,b,.nils] h2∧Own h1.length h2 b 1 (intC .i64 (((locsT T).map (initV T.inits)).take i)) i∧Kp h1.length h1 h2) 0 (locsT T).length (by omega)
    (fun i st _ hi=>by
      rintro ⟨b,h2,rfl,hb,hk⟩
      have hv:(locsT T)[i]? = some (locsT T)[i]:=List.getElem?_eq_getElem hi
      generalize (locsT T)[i]=v at hv
      have hin:=inner1 i b h2 v [Cell.nils,Cell.nils,Cell.nils] hv hk
      rw [show ((0:Nat):Int)=0 from rfl] at hin
      obtain ⟨b2,h3,hap,hb2,hk3,_⟩:=hb.app (bytes:=8) (xs:=[.int .i64 (initV T.inits v)]) hk.1 rfl (by omega) (by omega) (by omega)
      refine ⟨_,?_,b2,h3,rfl,?_,hk.trans hk3⟩
      · rw [q101_r2,show ∀{α:Type} (f:Cell→Option α),atK [a,b,Cell.nils] 0 f=f a from fun _=>rfl,hat.len,if_pos (by simp;omega),hin,bind_ok,q101_e1_3,show ∀{α:Type} (f:Cell→Option α),atK [a,b,Cell.nils] 1 f=f b from fun _=>rfl,if_pos (show (splice [Cell.int .i64 0] 0 ([(.int .i64 (initV T.inits v))]:List Cell)).length=1*1 from rfl),show splice [Cell.int .i64 0] 0 ([(.int .i64 (initV T.inits v))]:List Cell)=[.int .i64 (initV T.inits v)] from rfl,hap,if_pos (show 1<([a,b,Cell.nils]:List Cell).length by simp),g_succ (by omega)]
        rfl
      · rw [takeI_succ (p:=initV T.inits v) (by rw [List.getElem?_map,hv];rfl),intC_snoc];exact hb2) (st:=q101_s2 ((0:Nat):Int) cs [Cell.nils,Cell.nils,Cell.nils] [a,.nils,.nils] h1) ⟨.nils,h1,rfl,Own.nil _ _ _,Kp.refl _ _⟩
  have hfin2:q101_F2 (R E) Lim E.glob (q101_s2 ((locsT T).length:Int) cs [Cell.nils,Cell.nils,Cell.nils] [a,b,.nils] h2)=some (.exit 0,q101_x2_1 cs [Cell.nils,Cell.nils,Cell.nils] [a,b,.nils] h2):=by
    rw [q101_r2,show ∀{α:Type} (f:Cell→Option α),atK [a,b,Cell.nils] 0 f=f a from fun _=>rfl,hat.len,if_neg (by simp)]
  have hr2:=hL2 _ (Lim_exit hfin2)
  rw [List.take_of_length_le (by rw [List.length_map];exact Nat.le_refl _)] at hb
  have htb2:=htb.keep hk2
  have hat2:=hat.keep hal hk2
  have hal2:Low h2.length a:=Low_mono hk2.1 hal
  have hbt:=hb.at
  have hbl:=hb.low
  have inner2:∀(t:Nat) (code:List Ins) (y:Cell) (h3:AHeap),T.thr[t]? = some code→Kp h2.length h2 h3 →
      ∃x h4,Lim (q101_F3 (R E) Lim E.glob) (q101_s3 (t:Int) .nils ((0:Nat):Int) cs [Cell.nils,Cell.nils,Cell.nils] [a,b,y] h3)=some (.exit 6,q101_x3_7 (t:Int) x cs [Cell.nils,Cell.nils,Cell.nils] [a,b,y] h4)∧Own h3.length h4 x 9 (codeC (code.map (compI (locsT T)))) code.length∧Kp h3.length h3 h4:=by
    intro t code y h3 ht hk3
    obtain ⟨cx,c1x,c2x,c3x⟩:=(htb2.keep hk3).get (β:=Ex × St) ht
    have hcl:=hs.code code (List.mem_of_getElem? ht)
    obtain ⟨st,⟨x,h4,rfl,hx,hk4⟩,hL⟩:=Lim_inv (F:=q101_F3 (R E) Lim E.glob) (fun i st=>∃x h4,st=q101_s3 (t:Int) x (i:Int) cs [Cell.nils,Cell.nils,Cell.nils] [a,b,y] h4∧Own h3.length h4 x 9 (codeC ((code.map (compI (locsT T))).take i)) i∧Kp h3.length h3 h4) 0 code.length (by omega)
      (fun i st _ hi=>by
        rintro ⟨x,h4,rfl,hx,hk4⟩
        obtain ⟨cx',c1x',c2x',c3x'⟩:=((htb2.keep hk3).keep hk4).get (β:=Ex × St) ht
        have hq:code[i]? = some code[i]:=List.getElem?_eq_getElem hi
        generalize code[i]=q at hq
        obtain ⟨off,cs',hG,hle,hcc⟩:=c1x'.insG hq
        have hsn:(code.map (compI (locsT T)))[i]? = some (compI (locsT T) q):=by rw [List.getElem?_map,hq];rfl
        obtain ⟨x2,h5,hap,hx2,hk5,_⟩:=hx.app (bytes:=72) (xs:=(compI (locsT T) q).cs) hk4.1 rfl (by omega) (by omega) (by omega)
        refine ⟨_,?_,x2,h5,rfl,?_,hk4.trans hk5⟩
        · rw [q101_r3,t2,c3x',c1x'.len,if_pos (by simp;omega),t2,c3x',hG,if_pos hle,hcc,if_pos ⟨rfl,rfl,rfl⟩,ins_loc,asI_ok]
          unfold compI at hap
          by_cases hz:q.loc≠0
          · have hpl:=Place_R hE.c122 (b:=b) (c:=y) ((hat2.keep hal2 hk3).keep (Low_mono hk3.1 hal2) hk4) hu (by omega) q.loc
            rw [if_pos hz] at hap
            rw [if_pos (by rw [bne_iff_ne];exact hz),if_pos ⟨rfl,pu _ _ _⟩,ins_loc,asI_ok,hpl,c1_ok,asI_ok,if_pos (by rw [Ins.len];omega),ins_setloc,if_pos ⟨rfl,rfl⟩,if_pos ⟨rfl,by simp⟩,ins_splice,if_pos (ins_len19 _),hap,g_succ (by omega)]
          · rw [if_neg hz] at hap
            rw [if_neg (by rw [bne_iff_ne];exact hz),if_pos ⟨rfl,rfl⟩,if_pos ⟨rfl,by simp⟩,ins_splice,if_pos (ins_len19 _),hap,g_succ (by omega)]
        · rw [takeI_succ hsn,codeC_snoc];exact hx2) (st:=q101_s3 (t:Int) .nils ((0:Nat):Int) cs [Cell.nils,Cell.nils,Cell.nils] [a,b,y] h3) ⟨.nils,h3,rfl,Own.nil _ _ _,Kp.refl _ _⟩
    have hfin:q101_F3 (R E) Lim E.glob (q101_s3 (t:Int) x (code.length:Int) cs [Cell.nils,Cell.nils,Cell.nils] [a,b,y] h4)=some (.exit 6,q101_x3_7 (t:Int) x cs [Cell.nils,Cell.nils,Cell.nils] [a,b,y] h4):=by
      obtain ⟨cx',c1x',c2x',c3x'⟩:=((htb2.keep hk3).keep hk4).get (β:=Ex × St) ht
      rw [q101_r3,t2,c3x',c1x'.len,if_neg (by simp)]
    rw [List.take_of_length_le (by rw [List.length_map];exact Nat.le_refl _)] at hx
    exact ⟨x,h4,hL _ (Lim_exit hfin),hx,hk4⟩
  have hthl:=hs.thr
  obtain ⟨st,⟨y,h3,rfl,hy,hk3⟩,hL4⟩:=Lim_inv (F:=q101_F4 (R E) Lim E.glob) (fun t st=>∃y h3,st=q101_s4 (t:Int) cs [Cell.nils,Cell.nils,Cell.nils] [a,b,y] h3∧RowsOwn 9 codeC h2.length h3 y ((T.thr.map fun c=>c.map (compI (locsT T))).take t)∧Kp h2.length h2 h3) 0 T.thr.length (by omega)
    (fun t st _ ht=>by
      rintro ⟨y,h3,rfl,hy,hk3⟩
      have hq:T.thr[t]? = some T.thr[t]:=List.getElem?_eq_getElem ht
      generalize T.thr[t]=code at hq
      obtain ⟨x,h4,hin,hx,hk4⟩:=inner2 t code y h3 hq hk3
      rw [show ((0:Nat):Int)=0 from rfl] at hin
      have hsn:(T.thr.map fun c=>c.map (compI (locsT T)))[t]? = some (code.map (compI (locsT T))):=by rw [List.getElem?_map,hq];rfl
      have hxl:code.length=(code.map (compI (locsT T))).length:=by simp
      rw [hxl] at hx
      obtain ⟨y2,h5,hap,hy2,hk5,_⟩:=(hy.keep hk4).push (hx.monoN hk3.1) (fun k h1 h2=>by have:=(hx.blkLt h1).2;have:=(hy.blkLt h2).1;omega) (Nat.le_trans hk3.1 hk4.1) (by rw [List.length_take];omega)
      refine ⟨_,?_,y2,h5,rfl,?_,hk3.trans ((hk4.mono hk3.1).trans hk5)⟩
      · rw [q101_r4,t2,htb2.len,if_pos (by simp;omega),hin,bind_ok,q101_e3_7,show ∀{α:Type} (f:Cell→Option α),atK [a,b,y] 2 f=f y from fun _=>rfl,if_pos (show (splice [Cell.nils] 0 ([x]:List Cell)).length=1*1 from rfl),show splice [Cell.nils] 0 ([x]:List Cell)=[x] from rfl,hap,if_pos (show 2<([a,b,y]:List Cell).length by simp),g_succ (by omega)]
        rfl
      · rw [takeI_succ hsn];exact hy2) (st:=q101_s4 ((0:Nat):Int) cs [Cell.nils,Cell.nils,Cell.nils] [a,b,.nils] h2) ⟨.nils,h2,rfl,by rw [List.take_zero];exact RowsOwn.nil _,Kp.refl _ _⟩
  have hfin4:q101_F4 (R E) Lim E.glob (q101_s4 (T.thr.length:Int) cs [Cell.nils,Cell.nils,Cell.nils] [a,b,y] h3)=some (.exit 4,q101_x4_5 [Cell.nils,Cell.nils,Cell.nils] [a,b,y] h3):=by
    rw [q101_r4,t2,htb2.len,if_neg (by simp)]
  have hr4:=hL4 _ (Lim_exit hfin4)
  rw [List.take_of_length_le (by rw [List.length_map];exact Nat.le_refl _)] at hy
  refine ⟨[a,b,y],h3,R_intro hE.fn ?_,⟨h2.length,a,b,y,rfl,Nat.le_trans hk1.1 hk2.1,hk3.1,⟨hat2.keep hal2 hk3,hal2⟩,⟨?_,hbl⟩,hy⟩,hk1.trans ((hk2.mono hk1.1).trans (hk3.mono (Nat.le_trans hk1.1 hk2.1)))⟩
  · rw [q101_eq,if_pos ⟨rfl,hlen⟩,hr1,c1_ok,asC_ok,show splice [Cell.nils,Cell.nils,Cell.nils] 0 ([a]:List Cell)=[a,.nils,.nils] from rfl,if_pos ⟨rfl,rfl,rfl⟩,show (0:Int)=((0:Nat):Int) from rfl,hr2,bind_ok,q101_e2_1,show (0:Int)=((0:Nat):Int) from rfl,hr4,bind_ok,q101_e4_5,if_pos ⟨rfl,rfl⟩,if_pos ⟨rfl,rfl,rfl⟩,if_pos ⟨rfl,rfl⟩]
  · have:=hbt.keep hbl hk3
    have e:(compT T).init.length=(locsT T).length:=by simp [compT]
    rw [e];exact this
theorem ProgOwn.at {n:Nat} {h:AHeap} {cs:List Cell} {P:PProg} (p:ProgOwn n h cs P):ProgAt h cs P:=by
  obtain ⟨m,a,b,y,rfl,h1,h2,⟨a1,a2⟩,⟨b1,b2⟩,hy⟩:=p
  obtain ⟨ts,y1,y2,y3⟩:=hy.of
  exact ⟨a,b,y,ts,rfl,⟨a1,Low_mono h2 a2⟩,⟨b1,Low_mono h2 b2⟩,⟨y1,y2⟩,y3⟩
end
end Jq

namespace Jq
open Go
def pairCs (p:Int × Int):List Cell:=[.int .i64 p.1,.int .i64 p.2]
theorem pairC_at:∀(l:List (Int × Int)) (i:Nat) (s:Int × Int),l[i]? = some s→((pairC l).drop (i*2)).take 2=pairCs s
  | [],_,_,h=>by simp at h
  | q :: l,0,s,h=>by simp at h;subst h;rfl
  | q :: l,i+1,s,h=>by
    have:=pairC_at l i s (by simpa using h)
    have e:pairC (q :: l)=pairCs q++pairC l:=by simp [pairC,pairCs]
    rw [e,List.drop_append,List.drop_of_length_le (by simp [pairCs];omega),List.nil_append,show (i+1)*2 - (pairCs q).length=i*2 by simp [pairCs];omega]
    exact this
theorem SlAt.pairG {h:AHeap} {x:Cell} {l:List (Int × Int)} (s:SlAt h x 2 (pairC l) l.length) {i:Nat} {q:Int × Int} (hq:l[i]? = some q) :
    ∃off cs',(∀{α:Type} (G:Nat→List Cell→Option α),(idxSK 2 x (i:Int) fun k N o=>rdH h k N fun l=>G o l)=G off cs')∧off+2≤cs'.length∧(cs'.drop off).take 2=pairCs q:=by
  obtain ⟨off,cs',h1,h2,h3⟩:=s.elG (getI_lt hq)
  exact ⟨off,cs',h1,h2,h3.trans (pairC_at l i q hq)⟩
section
variable {E:Env}
theorem any_sIns_Ins_R (hE:q155_In E) {x f:Cell} {l:List (Ins)} {h:AHeap} (hx:SlAt h x 9 (codeC l) l.length) (hl:l.length<9223372036854775807) (p:Ins→Bool)
    (hf:∀i∈l,∀{α:Type} (F:AV→AHeap→Option α),(fnK f fun g cs=>c1 (R E g ([.agg (i.cs)]++cs) h) F)=F (.c (.bool (p i))) h):R E 155 [.c x,.c f] h=some ([.c (.bool (l.any p))],h):=by
  have loop:∀(n i:Nat),i+n=l.length→∃r:Int,(Lim (q156_F1 (R E) Lim E.glob) (q156_s1 x f l.length (i:Int) h)).bind (fun q=>q156_k3 (R E) Lim E.glob h q.1 q.2)=some ([.c (.int .i64 r)],h)∧decide (r≥0)=(l.drop i).any p:=by
    intro n
    induction n with
    | zero =>
      intro i hi
      refine ⟨-1,?_,?_⟩
      · have hr:q156_F1 (R E) Lim E.glob (q156_s1 x f l.length (i:Int) h)=some (.exit 0,q156_x1_1 h):=by rw [q156_r1,if_neg (by simp;omega)]
        rw [Lim_exit hr,bind_ok,q156_e1_1]
      · rw [List.drop_of_length_le (by omega)];rfl
    | succ n ih =>
      intro i hi
      have hq:l[i]? = some l[i]:=List.getElem?_eq_getElem (by omega)
      have hdr:l.drop i=l[i] :: l.drop (i+1):=List.drop_eq_getElem_cons (by omega)
      generalize l[i]=q at hq hdr
      obtain ⟨off,c,g1,g2,g3⟩:=hx.insG hq
      have hp:=@hf q (List.mem_of_getElem? hq) (Ex × St)
      rw [hdr,List.any_cons]
      cases hb:p q with
      | true =>
        refine ⟨(i:Int),?_,?_⟩
        · have hr:q156_F1 (R E) Lim E.glob (q156_s1 x f l.length (i:Int) h)=some (.ret,q156_x1_0 (i:Int) h):=by rw [q156_r1,if_pos (by simp;omega),g1,if_pos g2,g3,hp,asB_ok,hb,if_pos rfl]
          rw [Lim_ret hr,bind_ok,q156_e1_0]
        · rw [Bool.true_or];exact decide_eq_true (by omega)
      | false =>
        obtain ⟨r,h1,h2⟩:=ih (i+1) (by omega)
        refine ⟨r,?_,by rw [Bool.false_or];exact h2⟩
        cases hL:Lim (q156_F1 (R E) Lim E.glob) (q156_s1 x f l.length ((i+1:Nat):Int) h) with
        | none=>rw [hL] at h1;cases h1
        | some w =>
          have hr:q156_F1 (R E) Lim E.glob (q156_s1 x f l.length (i:Int) h)=some (.normal,q156_s1 x f l.length ((i+1:Nat):Int) h):=by rw [q156_r1,if_pos (by simp;omega),g1,if_pos g2,g3,hp,asB_ok,hb,if_neg (by simp),g_succ (by omega)]
          rw [Lim_next hr hL]
          rw [hL] at h1;exact h1
  obtain ⟨r,h1,h2⟩:=loop l.length 0 (by omega)
  have h3:R E 156 [.c x,.c f] h=some ([.c (.int .i64 r)],h):=by
    refine R_intro hE.c156.fn ?_
    rw [q156_eq,hx.len];exact h1
  refine R_intro hE.fn ?_
  rw [q155_eq,h3,c1_ok,asI_ok,h2];rfl
end
end Jq

namespace Jq
open Go
variable (C:CallF) (L:LoopF) (G:Glo)
set_option maxRecDepth 100000 in
theorem q158_eq (a0:Int) (h0:AHeap):q158.body C L G [(.c (.int .i64 a0))] h0=scK (decide (a0≥97)) true (some ((decide (a0≤122)),h0)) false h0 fun b_1 h_2=>some ([(.c (.bool b_1))],h_2):=by kernel_rfl
set_option maxRecDepth 100000 in
theorem q159_eq (l0:List Cell) (x1:Cell) (h0:AHeap):q159.body C L G [(.agg l0),(.c x1)] h0=atK l0 0 fun q_1=>asI .i64 (.c q_1) fun n_2=>if 0=0∧(List.replicate 9 (Cell.int .i64 0)).length=9∧(splice (List.replicate 9 (Cell.int .i64 0)) 0 ([(.int .i64 n_2)]:List Cell)).length=9 then atK l0 0 fun q_3=>asI .i64 (.c q_3) fun n_4=>if (n_4==1)=true then atK l0 2 fun q_5=>asI .i64 (.c q_5) fun n_6=>if 3+2≤l0.length then if 2<(splice (List.replicate 9 (Cell.int .i64 0)) 0 ([(.int .i64 n_2)]:List Cell)).length then if 3+2≤((splice (List.replicate 9 (Cell.int .i64 0)) 0 ([(.int .i64 n_2)]:List Cell)).set 2 (.int .i64 n_6)).length∧((l0.drop 3).take 2).length=2 then atK l0 2 fun q_7=>asI .i64 (.c q_7) fun n_8=>fnK x1 fun g_9 l_10=>c1 (C g_9 ([(.c (.int .i64 n_8))]++l_10) h0) fun y_12 h_11=>asB y_12 fun b_13=>scK b_13 true (if 3+2≤l0.length then c1 (C 163 [(.agg ((l0.drop 3).take 2))] h_11) fun y_15 h_14=>asB y_15 fun b_16=>some (b_16,h_14) else none) false h_11 fun b_17 h_18=>scK b_17 true (if 0=0∧l0.length=9 then if 0=0∧(splice ((splice (List.replicate 9 (Cell.int .i64 0)) 0 ([(.int .i64 n_2)]:List Cell)).set 2 (.int .i64 n_6)) 3 ((l0.drop 3).take 2)).length=9 then if alike l0 (List.replicate 9 (Cell.int .i64 0))=true∧alike (splice ((splice (List.replicate 9 (Cell.int .i64 0)) 0 ([(.int .i64 n_2)]:List Cell)).set 2 (.int .i64 n_6)) 3 ((l0.drop 3).take 2)) (List.replicate 9 (Cell.int .i64 0))=true then some ((decide (l0=(splice ((splice (List.replicate 9 (Cell.int .i64 0)) 0 ([(.int .i64 n_2)]:List Cell)).set 2 (.int .i64 n_6)) 3 ((l0.drop 3).take 2)))),h_18) else none else none else none) false h_18 fun b_19 h_20=>some ([(.c (.bool b_19))],h_20) else none else none else none else if (n_4==2)=true then atK l0 1 fun q_21=>asI .i64 (.c q_21) fun n_22=>atK l0 2 fun q_23=>asI .i64 (.c q_23) fun n_24=>if 1<(splice (List.replicate 9 (Cell.int .i64 0)) 0 ([(.int .i64 n_2)]:List Cell)).length then if 2<((splice (List.replicate 9 (Cell.int .i64 0)) 0 ([(.int .i64 n_2)]:List Cell)).set 1 (.int .i64 n_22)).length then atK l0 2 fun q_25=>asI .i64 (.c q_25) fun n_26=>fnK x1 fun g_27 l_28=>c1 (C g_27 ([(.c (.int .i64 n_26))]++l_28) h0) fun y_30 h_29=>asB y_30 fun b_31=>scK b_31 true (atK l0 1 fun q_32=>asI .i64 (.c q_32) fun n_33=>c1 (C 164 [(.c (.int .i64 n_33))] h_29) fun y_35 h_34=>asB y_35 fun b_36=>some (b_36,h_34)) false h_29 fun b_37 h_38=>scK b_37 true (if 0=0∧l0.length=9 then if 0=0∧(((splice (List.replicate 9 (Cell.int .i64 0)) 0 ([(.int .i64 n_2)]:List Cell)).set 1 (.int .i64 n_22)).set 2 (.int .i64 n_24)).length=9 then if alike l0 (List.replicate 9 (Cell.int .i64 0))=true∧alike (((splice (List.replicate 9 (Cell.int .i64 0)) 0 ([(.int .i64 n_2)]:List Cell)).set 1 (.int .i64 n_22)).set 2 (.int .i64 n_24)) (List.replicate 9 (Cell.int .i64 0))=true then some ((decide (l0=(((splice (List.replicate 9 (Cell.int .i64 0)) 0 ([(.int .i64 n_2)]:List Cell)).set 1 (.int .i64 n_22)).set 2 (.int .i64 n_24)))),h_38) else none else none else none) false h_38 fun b_39 h_40=>some ([(.c (.bool b_39))],h_40) else none else none else if (n_4==3)=true then scK true true (if 0=0∧l0.length=9 then if 0=0∧(splice (List.replicate 9 (Cell.int .i64 0)) 0 ([(.int .i64 n_2)]:List Cell)).length=9 then if alike l0 (List.replicate 9 (Cell.int .i64 0))=true∧alike (splice (List.replicate 9 (Cell.int .i64 0)) 0 ([(.int .i64 n_2)]:List Cell)) (List.replicate 9 (Cell.int .i64 0))=true then some ((decide (l0=(splice (List.replicate 9 (Cell.int .i64 0)) 0 ([(.int .i64 n_2)]:List Cell)))),h0) else none else none else none) false h0 fun b_41 h_42=>some ([(.c (.bool b_41))],h_42) else if (n_4==4)=true then atK l0 1 fun q_43=>asI .i64 (.c q_43) fun n_44=>atK l0 2 fun q_45=>asI .i64 (.c q_45) fun n_46=>if 3+2≤l0.length then if 6+2≤l0.length then if 1<(splice (List.replicate 9 (Cell.int .i64 0)) 0 ([(.int .i64 n_2)]:List Cell)).length then if 2<((splice (List.replicate 9 (Cell.int .i64 0)) 0 ([(.int .i64 n_2)]:List Cell)).set 1 (.int .i64 n_44)).length then if 3+2≤(((splice (List.replicate 9 (Cell.int .i64 0)) 0 ([(.int .i64 n_2)]:List Cell)).set 1 (.int .i64 n_44)).set 2 (.int .i64 n_46)).length∧((l0.drop 3).take 2).length=2 then if 6+2≤(splice (((splice (List.replicate 9 (Cell.int .i64 0)) 0 ([(.int .i64 n_2)]:List Cell)).set 1 (.int .i64 n_44)).set 2 (.int .i64 n_46)) 3 ((l0.drop 3).take 2)).length∧((l0.drop 6).take 2).length=2 then atK l0 2 fun q_47=>asI .i64 (.c q_47) fun n_48=>fnK x1 fun g_49 l_50=>c1 (C g_49 ([(.c (.int .i64 n_48))]++l_50) h0) fun y_52 h_51=>asB y_52 fun b_53=>scK b_53 true (atK l0 1 fun q_54=>asI .i64 (.c q_54) fun n_55=>c1 (C 164 [(.c (.int .i64 n_55))] h_51) fun y_57 h_56=>asB y_57 fun b_58=>some (b_58,h_56)) false h_51 fun b_59 h_60=>scK b_59 true (if 3+2≤l0.length then c1 (C 163 [(.agg ((l0.drop 3).take 2))] h_60) fun y_62 h_61=>asB y_62 fun b_63=>some (b_63,h_61) else none) false h_60 fun b_64 h_65=>scK b_64 true (if 6+2≤l0.length then c1 (C 163 [(.agg ((l0.drop 6).take 2))] h_65) fun y_67 h_66=>asB y_67 fun b_68=>some (b_68,h_66) else none) false h_65 fun b_69 h_70=>scK b_69 true (if 0=0∧l0.length=9 then if 0=0∧(splice (splice (((splice (List.replicate 9 (Cell.int .i64 0)) 0 ([(.int .i64 n_2)]:List Cell)).set 1 (.int .i64 n_44)).set 2 (.int .i64 n_46)) 3 ((l0.drop 3).take 2)) 6 ((l0.drop 6).take 2)).length=9 then if alike l0 (List.replicate 9 (Cell.int .i64 0))=true∧alike (splice (splice (((splice (List.replicate 9 (Cell.int .i64 0)) 0 ([(.int .i64 n_2)]:List Cell)).set 1 (.int .i64 n_44)).set 2 (.int .i64 n_46)) 3 ((l0.drop 3).take 2)) 6 ((l0.drop 6).take 2)) (List.replicate 9 (Cell.int .i64 0))=true then some ((decide (l0=(splice (splice (((splice (List.replicate 9 (Cell.int .i64 0)) 0 ([(.int .i64 n_2)]:List Cell)).set 1 (.int .i64 n_44)).set 2 (.int .i64 n_46)) 3 ((l0.drop 3).take 2)) 6 ((l0.drop 6).take 2)))),h_70) else none else none else none) false h_70 fun b_71 h_72=>some ([(.c (.bool b_71))],h_72) else none else none else none else none else none else none else if (n_4==5)=true then atK l0 1 fun q_73=>asI .i64 (.c q_73) fun n_74=>if 3+2≤l0.length then atK l0 5 fun q_75=>asI .i64 (.c q_75) fun n_76=>if 6+2≤l0.length then if 1<(splice (List.replicate 9 (Cell.int .i64 0)) 0 ([(.int .i64 n_2)]:List Cell)).length then if 3+2≤((splice (List.replicate 9 (Cell.int .i64 0)) 0 ([(.int .i64 n_2)]:List Cell)).set 1 (.int .i64 n_74)).length∧((l0.drop 3).take 2).length=2 then if 5<(splice ((splice (List.replicate 9 (Cell.int .i64 0)) 0 ([(.int .i64 n_2)]:List Cell)).set 1 (.int .i64 n_74)) 3 ((l0.drop 3).take 2)).length then if 6+2≤((splice ((splice (List.replicate 9 (Cell.int .i64 0)) 0 ([(.int .i64 n_2)]:List Cell)).set 1 (.int .i64 n_74)) 3 ((l0.drop 3).take 2)).set 5 (.int .i64 n_76)).length∧((l0.drop 6).take 2).length=2 then atK l0 1 fun q_77=>asI .i64 (.c q_77) fun n_78=>c1 (C 164 [(.c (.int .i64 n_78))] h0) fun y_80 h_79=>asB y_80 fun b_81=>scK b_81 true (if 3+2≤l0.length then c1 (C 163 [(.agg ((l0.drop 3).take 2))] h_79) fun y_83 h_82=>asB y_83 fun b_84=>some (b_84,h_82) else none) false h_79 fun b_85 h_86=>scK b_85 true (if 6+2≤l0.length then c1 (C 163 [(.agg ((l0.drop 6).take 2))] h_86) fun y_88 h_87=>asB y_88 fun b_89=>some (b_89,h_87) else none) false h_86 fun b_90 h_91=>scK b_90 true (atK l0 5 fun q_92=>asI .i64 (.c q_92) fun n_93=>some ((decide (n_93≥0)),h_91)) false h_91 fun b_94 h_95=>scK b_94 true (atK l0 5 fun q_96=>asI .i64 (.c q_96) fun n_97=>some ((decide (n_97≤11)),h_95)) false h_95 fun b_98 h_99=>scK b_98 true (atK l0 5 fun q_100=>asI .i64 (.c q_100) fun n_101=>scK (decide (n_101 > 0)) false (if 6+2≤l0.length then if alike ((l0.drop 6).take 2) ([Cell.int .i64 0,Cell.int .i64 0])=true∧alike (splice [Cell.int .i64 0,Cell.int .i64 0] 0 ([(.int .i64 (-1))]:List Cell)) ([Cell.int .i64 0,Cell.int .i64 0])=true then some ((decide (((l0.drop 6).take 2)=(splice [Cell.int .i64 0,Cell.int .i64 0] 0 ([(.int .i64 (-1))]:List Cell)))),h_99) else none else none) true h_99 fun b_102 h_103=>some (b_102,h_103)) false h_99 fun b_104 h_105=>scK b_104 true (if 0=0∧l0.length=9 then if 0=0∧(splice ((splice ((splice (List.replicate 9 (Cell.int .i64 0)) 0 ([(.int .i64 n_2)]:List Cell)).set 1 (.int .i64 n_74)) 3 ((l0.drop 3).take 2)).set 5 (.int .i64 n_76)) 6 ((l0.drop 6).take 2)).length=9 then if alike l0 (List.replicate 9 (Cell.int .i64 0))=true∧alike (splice ((splice ((splice (List.replicate 9 (Cell.int .i64 0)) 0 ([(.int .i64 n_2)]:List Cell)).set 1 (.int .i64 n_74)) 3 ((l0.drop 3).take 2)).set 5 (.int .i64 n_76)) 6 ((l0.drop 6).take 2)) (List.replicate 9 (Cell.int .i64 0))=true then some ((decide (l0=(splice ((splice ((splice (List.replicate 9 (Cell.int .i64 0)) 0 ([(.int .i64 n_2)]:List Cell)).set 1 (.int .i64 n_74)) 3 ((l0.drop 3).take 2)).set 5 (.int .i64 n_76)) 6 ((l0.drop 6).take 2)))),h_105) else none else none else none) false h_105 fun b_106 h_107=>some ([(.c (.bool b_106))],h_107) else none else none else none else none else none else none else if (n_4==6)=true then atK l0 8 fun q_108=>asI .i64 (.c q_108) fun n_109=>if 3+2≤l0.length then if 6+2≤l0.length then if 8<(splice (List.replicate 9 (Cell.int .i64 0)) 0 ([(.int .i64 n_2)]:List Cell)).length then if 3+2≤((splice (List.replicate 9 (Cell.int .i64 0)) 0 ([(.int .i64 n_2)]:List Cell)).set 8 (.int .i64 n_109)).length∧((l0.drop 3).take 2).length=2 then if 6+2≤(splice ((splice (List.replicate 9 (Cell.int .i64 0)) 0 ([(.int .i64 n_2)]:List Cell)).set 8 (.int .i64 n_109)) 3 ((l0.drop 3).take 2)).length∧((l0.drop 6).take 2).length=2 then atK l0 8 fun q_110=>asI .i64 (.c q_110) fun n_111=>scK (decide (n_111≥0)) true (if 3+2≤l0.length then c1 (C 163 [(.agg ((l0.drop 3).take 2))] h0) fun y_113 h_112=>asB y_113 fun b_114=>some (b_114,h_112) else none) false h0 fun b_115 h_116=>scK b_115 true (if 6+2≤l0.length then c1 (C 163 [(.agg ((l0.drop 6).take 2))] h_116) fun y_118 h_117=>asB y_118 fun b_119=>some (b_119,h_117) else none) false h_116 fun b_120 h_121=>scK b_120 true (if 0=0∧l0.length=9 then if 0=0∧(splice (splice ((splice (List.replicate 9 (Cell.int .i64 0)) 0 ([(.int .i64 n_2)]:List Cell)).set 8 (.int .i64 n_109)) 3 ((l0.drop 3).take 2)) 6 ((l0.drop 6).take 2)).length=9 then if alike l0 (List.replicate 9 (Cell.int .i64 0))=true∧alike (splice (splice ((splice (List.replicate 9 (Cell.int .i64 0)) 0 ([(.int .i64 n_2)]:List Cell)).set 8 (.int .i64 n_109)) 3 ((l0.drop 3).take 2)) 6 ((l0.drop 6).take 2)) (List.replicate 9 (Cell.int .i64 0))=true then some ((decide (l0=(splice (splice ((splice (List.replicate 9 (Cell.int .i64 0)) 0 ([(.int .i64 n_2)]:List Cell)).set 8 (.int .i64 n_109)) 3 ((l0.drop 3).take 2)) 6 ((l0.drop 6).take 2)))),h_121) else none else none else none) false h_121 fun b_122 h_123=>some ([(.c (.bool b_122))],h_123) else none else none else none else none else none else some ([(.c (.bool false))],h0) else none:=by kernel_rfl
set_option maxRecDepth 100000 in
theorem q163_eq (l0:List Cell) (h0:AHeap):q163.body C L G [(.agg l0)] h0=atK l0 0 fun q_1=>asI .i64 (.c q_1) fun n_2=>scK (n_2==(-1)) false (atK l0 0 fun q_3=>asI .i64 (.c q_3) fun n_4=>c1 (C 164 [(.c (.int .i64 n_4))] h0) fun y_6 h_5=>asB y_6 fun b_7=>scK b_7 true (atK l0 1 fun q_8=>asI .i64 (.c q_8) fun n_9=>some ((n_9==0),h_5)) false h_5 fun b_10 h_11=>some (b_10,h_11)) true h0 fun b_12 h_13=>some ([(.c (.bool b_12))],h_13):=by kernel_rfl
set_option maxRecDepth 100000 in
theorem q164_eq (a0:Int) (h0:AHeap):q164.body C L G [(.c (.int .i64 a0))] h0=scK (decide (a0≥0)) true (some ((decide (a0<4)),h0)) false h0 fun b_1 h_2=>some ([(.c (.bool b_1))],h_2):=by kernel_rfl
end Jq

namespace Jq
open Go
def locB (n:Int):Bool:=decide (n≥97)&&decide (n≤122)
def regB (n:Int):Bool:=decide (n≥0)&&decide (n<4)
def opB (o:Opd):Bool:=o.reg==-1||(regB o.reg&&o.val==0)
def fldB (has:Int→Bool) (i:Ins):Bool :=
  if i.kind=1 then has i.loc&&opB i.a&&decide (i.cs=(⟨i.kind,0,i.loc,i.a,0,⟨0,0⟩,0⟩:Ins).cs)
  else if i.kind=2 then has i.loc&&regB i.reg&&decide (i.cs=(⟨i.kind,i.reg,i.loc,⟨0,0⟩,0,⟨0,0⟩,0⟩:Ins).cs)
  else if i.kind=3 then decide (i.cs=(⟨i.kind,0,0,⟨0,0⟩,0,⟨0,0⟩,0⟩:Ins).cs)
  else if i.kind=4 then has i.loc&&regB i.reg&&opB i.a&&opB i.b&&decide (i.cs=(⟨i.kind,i.reg,i.loc,i.a,0,i.b,0⟩:Ins).cs)
  else if i.kind=5 then regB i.reg&&opB i.a&&opB i.b&&decide (i.op≥0)&&decide (i.op≤11)&&(decide (i.op > 0)||decide (i.b.cs=(⟨-1,0⟩:Opd).cs))&&decide (i.cs=(⟨i.kind,i.reg,0,i.a,i.op,i.b,0⟩:Ins).cs)
  else if i.kind=6 then decide (i.n≥0)&&opB i.a&&opB i.b&&decide (i.cs=(⟨i.kind,0,0,i.a,0,i.b,i.n⟩:Ins).cs)
  else false
section
variable {E:Env}
theorem IsLoc_R (hE:q158_In E) (n:Int) (h:AHeap):R E 158 [.c (.int .i64 n)] h=some ([.c (.bool (locB n))],h):=by
  refine R_intro hE.fn ?_
  rw [q158_eq,scK_and];rfl
theorem isReg_R (hE:q164_In E) (n:Int) (h:AHeap):R E 164 [.c (.int .i64 n)] h=some ([.c (.bool (regB n))],h):=by
  refine R_intro hE.fn ?_
  rw [q164_eq,scK_and];rfl
theorem isOperand_R (hE:q163_In E) (o:Opd) (h:AHeap):R E 163 [.agg o.cs] h=some ([.c (.bool (opB o))],h):=by
  refine R_intro hE.fn ?_
  have a0:∀{α:Type} (f:Cell→Option α),atK o.cs 0 f=f (.int .i64 o.reg):=fun _=>rfl
  have a1:∀{α:Type} (f:Cell→Option α),atK o.cs 1 f=f (.int .i64 o.val):=fun _=>rfl
  rw [q163_eq]
  simp only [a0,a1,asI_ok,isReg_R hE.c164,c1_ok,asB_ok,scK_and,scK_or]
  rfl
def Says (E:Env) (h:AHeap) (f:Cell) (has:Int→Bool):Prop:=∀(n:Int) {α:Type} (F:AV→AHeap→Option α),(fnK f fun g cs=>c1 (R E g ([.c (.int .i64 n)]++cs) h) F)=F (.c (.bool (has n))) h
theorem Fields_R (hE:q159_In E) (i:Ins) {f:Cell} {has:Int→Bool} {h:AHeap} (hf:Says E h f has):R E 159 [.agg i.cs,.c f] h=some ([.c (.bool (fldB has i))],h):=by
  refine R_intro hE.fn ?_
  rw [q159_eq,ins_kind,asI_ok,if_pos ⟨rfl,rfl,rfl⟩,ins_kind,asI_ok]
  by_cases h1:i.kind=1
  · rw [if_pos (by simpa using h1),ins_loc,asI_ok,if_pos (by exact Nat.le_of_ble_eq_true rfl),if_pos (by exact Nat.le_of_ble_eq_true rfl),if_pos (by exact ⟨Nat.le_of_ble_eq_true rfl,rfl⟩),ins_loc,asI_ok,hf,asB_ok,if_pos (by exact Nat.le_of_ble_eq_true rfl),ins_a,isOperand_R hE.c163,c1_ok,asB_ok,scK_and,if_pos ⟨rfl,rfl⟩,if_pos ⟨rfl,rfl⟩,if_pos ⟨rfl,rfl⟩,scK_and,fldB,if_pos h1]
    rfl
  rw [if_neg (by simpa using h1)]
  by_cases h2:i.kind=2
  · rw [if_pos (by simpa using h2),ins_reg,asI_ok,ins_loc,asI_ok,if_pos (by exact Nat.le_of_ble_eq_true rfl),if_pos (by exact Nat.le_of_ble_eq_true rfl),ins_loc,asI_ok,hf,asB_ok,ins_reg,asI_ok,isReg_R hE.c164,c1_ok,asB_ok,scK_and,if_pos ⟨rfl,rfl⟩,if_pos ⟨rfl,rfl⟩,if_pos ⟨rfl,rfl⟩,scK_and,fldB,if_neg h1,if_pos h2]
    rfl
  rw [if_neg (by simpa using h2)]
  by_cases h3:i.kind=3
  · rw [if_pos (by simpa using h3),if_pos ⟨rfl,rfl⟩,if_pos ⟨rfl,rfl⟩,if_pos ⟨rfl,rfl⟩,scK_and,fldB,if_neg h1,if_neg h2,if_pos h3]
    rfl
  rw [if_neg (by simpa using h3)]
  by_cases h4:i.kind=4
  · rw [if_pos (by simpa using h4),ins_reg,asI_ok,ins_loc,asI_ok,if_pos (by exact Nat.le_of_ble_eq_true rfl),if_pos (by exact Nat.le_of_ble_eq_true rfl),if_pos (by exact Nat.le_of_ble_eq_true rfl),if_pos (by exact Nat.le_of_ble_eq_true rfl),if_pos (by exact ⟨Nat.le_of_ble_eq_true rfl,rfl⟩),if_pos (by exact ⟨Nat.le_of_ble_eq_true rfl,rfl⟩),ins_loc,asI_ok,hf,asB_ok,ins_reg,asI_ok,isReg_R hE.c164,c1_ok,asB_ok,scK_and,if_pos (by exact Nat.le_of_ble_eq_true rfl),ins_a,isOperand_R hE.c163,c1_ok,asB_ok,scK_and,if_pos (by exact Nat.le_of_ble_eq_true rfl),ins_b,isOperand_R hE.c163,c1_ok,asB_ok,scK_and,if_pos ⟨rfl,rfl⟩,if_pos ⟨rfl,rfl⟩,if_pos ⟨rfl,rfl⟩,scK_and,fldB,if_neg h1,if_neg h2,if_neg h3,if_pos h4]
    rfl
  rw [if_neg (by simpa using h4)]
  by_cases h5:i.kind=5
  · rw [if_pos (by simpa using h5),ins_reg,asI_ok,if_pos (by exact Nat.le_of_ble_eq_true rfl),ins_op,asI_ok,if_pos (by exact Nat.le_of_ble_eq_true rfl),if_pos (by exact Nat.le_of_ble_eq_true rfl),if_pos (by exact ⟨Nat.le_of_ble_eq_true rfl,rfl⟩),if_pos (by exact Nat.le_of_ble_eq_true rfl),if_pos (by exact ⟨Nat.le_of_ble_eq_true rfl,rfl⟩),ins_reg,asI_ok,isReg_R hE.c164,c1_ok,asB_ok,if_pos (by exact Nat.le_of_ble_eq_true rfl),ins_a,isOperand_R hE.c163,c1_ok,asB_ok,scK_and,if_pos (by exact Nat.le_of_ble_eq_true rfl),ins_b,isOperand_R hE.c163,c1_ok,asB_ok,scK_and,ins_op,asI_ok,scK_and,ins_op,asI_ok,scK_and,ins_op,asI_ok,if_pos (by exact Nat.le_of_ble_eq_true rfl),if_pos ⟨rfl,rfl⟩,scK_or,scK_and,if_pos ⟨rfl,rfl⟩,if_pos ⟨rfl,rfl⟩,if_pos ⟨rfl,rfl⟩,scK_and,fldB,if_neg h1,if_neg h2,if_neg h3,if_neg h4,if_pos h5]
    rfl
  rw [if_neg (by simpa using h5)]
  by_cases h6:i.kind=6
  · rw [if_pos (by simpa using h6),ins_n,asI_ok,if_pos (by exact Nat.le_of_ble_eq_true rfl),if_pos (by exact Nat.le_of_ble_eq_true rfl),if_pos (by exact Nat.le_of_ble_eq_true rfl),if_pos (by exact ⟨Nat.le_of_ble_eq_true rfl,rfl⟩),if_pos (by exact ⟨Nat.le_of_ble_eq_true rfl,rfl⟩),ins_n,asI_ok,if_pos (by exact Nat.le_of_ble_eq_true rfl),ins_a,isOperand_R hE.c163,c1_ok,asB_ok,scK_and,if_pos (by exact Nat.le_of_ble_eq_true rfl),ins_b,isOperand_R hE.c163,c1_ok,asB_ok,scK_and,if_pos ⟨rfl,rfl⟩,if_pos ⟨rfl,rfl⟩,if_pos ⟨rfl,rfl⟩,scK_and,fldB,if_neg h1,if_neg h2,if_neg h3,if_neg h4,if_neg h5,if_pos h6]
    rfl
  rw [if_neg (by simpa using h6),fldB,if_neg h1,if_neg h2,if_neg h3,if_neg h4,if_neg h5,if_neg h6]
def chrB (b:UInt8) (first:Bool):Bool:=!((decide ((b.toNat:Int)<97)||decide ((b.toNat:Int) > 122))&&((first||decide ((b.toNat:Int)<48))||decide ((b.toNat:Int) > 57)))
def wordB (s:ByteArray):Bool:=(List.range s.size).all (fun i=>match s[i]? with | some b=>chrB b (i==0) | none=>true)&&!(s.toList==(ByteArray.mk #[]).toList)
def atmB (a:Atm):Bool:=if a.thread = -1 then (a.reg==0&&locB a.loc) else decide (a.thread≥0)&&decide (a.thread≤9)&&(a.loc==0)&&regB a.reg
def rowBad (r:List Atm):Bool:=r.length==0||r.any fun a=>!atmB a
def condB (ck:Int) (any:List (List Atm)):Bool:=if ck=0 then any.length==0 else (ck==1||ck==2)&&decide ((any.length:Int) > 0)&&!(any.any rowBad)
structure PTest.fits (T:PTest):Prop where
  name:T.name.size<9223372036854775807
  inits:T.inits.length<9223372036854775807
  thr:T.thr.length<9223372036854775807
  code:∀c∈T.thr,c.length<9223372036854775807
  any:T.any.length<9223372036854775807
  row:∀c∈T.any,c.length<9223372036854775807
def okT (T:PTest):Bool:=wordB T.name&&!(T.inits.any fun p=>!locB p.1)&&!(T.thr.any fun c=>c.any fun i=>!fldB locB i)&&condB T.ck T.any
end
end Jq

namespace Jq
open Go
variable (C:CallF) (L:LoopF) (G:Glo)
def q148_k2 (C:CallF) (L:LoopF) (G:Glo) (h0:AHeap):Ex→St→Option (List AV × AHeap):=kSeq (fun st=>q148_p1.exec C L G st (q148.fin G h0)) (q148.fin G h0)
def q148_k3 (C:CallF) (L:LoopF) (G:Glo) (h0:AHeap):Ex→St→Option (List AV × AHeap):=kBlk 0 (q148_k2 C L G h0)
def q148_s1 (x0 x5:Cell) (a6 a7:Int) (h:AHeap):St:=⟨.v (.c x0) :: tops 4 (.v (.c x5) :: .v (.c (.int .i64 a6)) :: .v (.c (.int .i64 a7)) :: tops 23 []),[none],h⟩
def q148_F1 (C:CallF) (L:LoopF) (G:Glo):St→Option (Ex × St):=roundF (fun st f=>q148_b1.exec C L G st f) [0,5,6,7] [] [(0,[2],[]),(1,[],[])]
def q148_x1_0 (b2:Bool) (h:AHeap):St:=⟨tops 2 (.v (.c (.bool b2)) :: tops 28 []),[none],h⟩
def q148_x1_1 (h:AHeap):St:=⟨tops 31 [],[none],h⟩
theorem q148_r1 (x0 x5:Cell) (a6 a7:Int) (h:AHeap):q148_F1 C L G (q148_s1 x0 x5 a6 a7 h)=if (decide (a7<a6))=true then idxSK 9 x5 a7 fun k_2 N_3 o_4=>rdH h k_2 N_3 fun l_5=>if o_4+9≤l_5.length then if 0=0∧(List.replicate 9 (Cell.int .i64 0)).length=9∧((l_5.drop o_4).take 9).length=9 then atK ((l_5.drop o_4).take 9) 0 fun q_6=>asI .i64 (.c q_6) fun n_7=>scK (n_7==6) true (atK ((l_5.drop o_4).take 9) 8 fun q_8=>asI .i64 (.c q_8) fun n_9=>scK (decide (n_9<1)) false (atK ((l_5.drop o_4).take 9) 8 fun q_10=>asI .i64 (.c q_10) fun n_11=>lenK x0 fun n_12=>let v_13:Int:=(G.wrap .i64 ((G.wrap .i64 (n_12 - a7)) - 1));some ((decide (n_11 > v_13)),h)) true h fun b_14 h_15=>some (b_14,h_15)) false h fun b_16 h_17=>if b_16=true then some (.ret,(q148_x1_0 false h_17)) else some (.normal,(q148_s1 x0 x5 a6 (G.wrap .i64 (a7+1)) h_17)) else none else none else some ((.exit 0),(q148_x1_1 h)):=by kernel_rfl
theorem q148_e1_0 (h0:AHeap) (b2:Bool) (h:AHeap):(q148_k3 C L G h0) .ret (q148_x1_0 b2 h)=some ([(.c (.bool b2))],h):=by kernel_rfl
theorem q148_e1_1 (h0:AHeap) (h:AHeap):(q148_k3 C L G h0) (.exit 0) (q148_x1_1 h)=some ([(.c (.bool true))],h):=by kernel_rfl
set_option maxRecDepth 100000 in
theorem q148_eq (x0:Cell) (h0:AHeap):q148.body C L G [(.c x0)] h0=lenK x0 fun n_1=>(L (q148_F1 C L G) (q148_s1 x0 x0 n_1 0 h0)).bind fun p_18=>(q148_k3 C L G h0) p_18.1 p_18.2:=by kernel_rfl
end Jq

namespace Jq
open Go
def thereW (T:PTest) (b:Nat):Bool:=(T.inits.any fun p=>p.1==(b:Int))||(T.thr.any fun c=>c.any fun i=>i.loc==(b:Int))||(T.any.any fun c=>c.any fun a=>a.loc==(b:Int))
def LtAt (h0 h:AHeap) (S:Nat→Bool):Prop :=
  Kp h0.length h0 h∧∃m:Nat,m<2 ^ 26∧(∀i,i<26→m.testBit i=S (97+i))∧blk? h h0.length=some ⟨true,0,[.int .u64 (m:Int)]⟩
theorem LtAt.congr {h0 h:AHeap} {S S':Nat→Bool} (v:LtAt h0 h S) (hs:∀b,97≤b→b≤122→S' b=S b):LtAt h0 h S':=by
  obtain ⟨k,m,m1,m2,m3⟩:=v
  exact ⟨k,m,m1,fun i hi=>by rw [m2 i hi,hs (97+i) (by omega) (by omega)],m3⟩
section
variable {E:Env}
end
end Jq

namespace Jq
open Go
def locsW (T:PTest):List Int:=locsF (thereW T) 26
def jmpB (l:List Ins):Bool:=(List.range l.length).all fun k=>match l[k]? with | some i=>!(i.kind==6&&(decide (i.n<1)||decide (i.n > (l.length:Int) - k - 1))) | none=>true
def sumL (l:List (List Ins)):Int:=((l.map List.length).sum:Nat)
def bigB (T:PTest):Bool:=(T.thr.any fun c=>decide ((c.length:Int) > 10))||((((((T.thr.length:Int)==0||decide ((T.thr.length:Int) > 4)||decide (sumL T.thr > 24))||decide (((locsW T).length:Int) > 4))||decide ((T.any.length:Int) > 8))||(T.any.any fun r=>decide ((r.length:Int) > 8)))||decide ((T.name.size:Int) > 20))
def twB (l:List (Int × Int)):Bool:=(List.range l.length).any fun k=>match l[k]? with | some p=>(l.take k).any (fun q=>q.1==p.1) | none=>false
def outB (n:Nat) (a:Atm):Bool:=(a.thread != -1)&&decide (a.thread≥(n:Int))
def checkT (T:PTest):Int:=if (!okT T)=true then 1 else if bigB T=true then 8 else if twB T.inits=true then 9 else if (T.thr.any fun c=>!jmpB c)=true then 10 else if (T.any.any fun r=>r.any (outB T.thr.length))=true then 10 else 0
theorem PTest.small.fits {T:PTest} (s:T.small) (hn:T.name.size<9223372036854775807):T.fits :=
  ⟨hn,by have:=s.inits;omega,by have:=s.thr;omega,fun c hc=>by have:=s.code c hc;omega,by have:=s.any;omega,fun c hc=>by have:=s.row c hc;omega⟩
section
variable {E:Env}
theorem Jumps_R (hE:q148_In E) {x:Cell} {l:List Ins} {h:AHeap} (hx:SlAt h x 9 (codeC l) l.length) (hl:l.length<9223372036854775807):R E 148 [.c x] h=some ([.c (.bool (jmpB l))],h):=by
  refine R_intro hE.fn ?_
  have loop:∀(n i:Nat),i+n=l.length→(Lim (q148_F1 (R E) Lim E.glob) (q148_s1 x x l.length (i:Int) h)).bind (fun q=>q148_k3 (R E) Lim E.glob h q.1 q.2) =
      some ([.c (.bool ((List.range n).all fun k=>match l[i+k]? with | some q=>!(q.kind==6&&(decide (q.n<1)||decide (q.n > (l.length:Int) - ((i+k:Nat):Int) - 1))) | none=>true))],h):=by
    intro n
    induction n with
    | zero =>
      intro i hi
      have hr:q148_F1 (R E) Lim E.glob (q148_s1 x x l.length (i:Int) h)=some (.exit 0,q148_x1_1 h):=by rw [q148_r1,if_neg (by simp;omega)]
      rw [Lim_exit hr,bind_ok,q148_e1_1];rfl
    | succ n ih =>
      intro i hi
      have hq:l[i]? = some l[i]:=List.getElem?_eq_getElem (by omega)
      generalize l[i]=b at hq
      obtain ⟨off,cc,g1,g2,g3⟩:=hx.insG hq
      have hg:q148_F1 (R E) Lim E.glob (q148_s1 x x l.length (i:Int) h)=if (b.kind==6&&(decide (b.n<1)||decide (b.n > (l.length:Int) - (i:Int) - 1)))=true then some (.ret,q148_x1_0 false h) else some (.normal,q148_s1 x x l.length ((i+1:Nat):Int) h):=by
        rw [q148_r1,if_pos (by simp;omega),g1,if_pos g2,g3,if_pos ⟨rfl,rfl,rfl⟩,ins_kind,asI_ok,ins_n,asI_ok,ins_n,asI_ok,hx.len]
        dsimp only
        rw [g_wrap_i64 (x:=(l.length:Int) - (i:Int)) (by omega) (by omega),g_wrap_i64 (by omega) (by omega),scK_or,scK_and,g_succ (by omega)]
      rw [List.range_succ_eq_map,List.all_cons,List.all_map,Nat.add_zero,hq]
      dsimp only
      cases hb:(b.kind==6&&(decide (b.n<1)||decide (b.n > (l.length:Int) - (i:Int) - 1))) with
      | true =>
        rw [hb,if_pos rfl] at hg
        rw [Lim_ret hg,bind_ok,q148_e1_0];rfl
      | false =>
        rw [hb,if_neg (by simp)] at hg
        have h1:=ih (i+1) (by omega)
        rw [Bool.not_false,Bool.true_and]
        have he:((List.range n).all ((fun k=>match l[i+k]? with | some q=>!(q.kind==6&&(decide (q.n<1)||decide (q.n > (l.length:Int) - ((i+k:Nat):Int) - 1))) | none=>true) ∘ Nat.succ))=((List.range n).all fun k=>match l[i+1+k]? with | some q=>!(q.kind==6&&(decide (q.n<1)||decide (q.n > (l.length:Int) - ((i+1+k:Nat):Int) - 1))) | none=>true):=by
          congr 1
          funext k
          show (match l[i+(k+1)]? with | some q=>!(q.kind==6&&(decide (q.n<1)||decide (q.n > (l.length:Int) - ((i+(k+1):Nat):Int) - 1))) | none=>true)=_
          rw [show i+(k+1)=i+1+k by omega]
        rw [he]
        cases hL:Lim (q148_F1 (R E) Lim E.glob) (q148_s1 x x l.length ((i+1:Nat):Int) h) with
        | none=>rw [hL] at h1;cases h1
        | some w=>rw [Lim_next hg hL];rw [hL] at h1;exact h1
  have:=loop l.length 0 (by omega)
  rw [q148_eq,hx.len]
  rw [show ((0:Nat):Int)=0 from rfl] at this
  rw [this]
  unfold jmpB
  simp only [Nat.zero_add]
end
end Jq

namespace Jq
open Go
section
variable {E:Env}
theorem sumT_le (l:List (List Ins)) (h:∀c∈l,c.length≤1000):(l.map List.length).sum≤1000*l.length:=by
  induction l with
  | nil=>simp
  | cons a l ih =>
    have h1:=h a (by simp)
    have h2:=ih fun c hc=>h c (by simp [hc])
    rw [List.map_cons,List.sum_cons,List.length_cons];omega
theorem sumL_snoc (l:List (List Ins)) (c:List Ins):sumL (l++[c])=sumL l+c.length:=by
  unfold sumL;rw [List.map_append,List.sum_append];simp
end
end Jq

