/- YtaohhggiapblkaaGreatDoorTopClocksC: a part of the proof; no conditions of its own. -/
import Derived.KernelRfl
import Derived.Test.YtaohhggiapblkaaGreatDoorTopClocksB
set_option linter.unusedVariables false
set_option linter.unusedSectionVars false
set_option linter.unusedSimpArgs false
set_option maxRecDepth 100000
open List renaming replicate→Ya,length_append→Yb,getElem?_eq_getElem→Yc,mem_of_getElem?→Yf,append_assoc→Yg,getElem?_append_right→Yi,getElem?_append_left→Yk,length_singleton→Yl,take_of_length_le→Ym,length_set→Yn,length_take→Yp,getD_eq_getElem?_getD→Yq,length_cons→Yr,getElem?_take→Ys,range→Yu,length_eq_zero_iff→Yv,nil_append→Yw,take_length→Yx,length_drop→Yy,length_map→Yz,length_nil→Yaa,drop_of_length_le→Yab,getElem?_drop→Yac,mem_or_eq_of_mem_set→Yad,any_eq_false→Yae,length_replicate→Yaf,mem_append→Yah,take_zero→Yai,getElem?_map→Yaj,ext_getElem?→Yak,length→Yal,range_succ_eq_map→Yam,findIdx?_eq_some_iff_getElem→Yan,getElem?_eq_none→Yap,set_append_right→Yaq,replicate_append_replicate→Yar,mem_map→Yas,take_append_of_le_length→Yau,mem_singleton→Yav,any_cons→Yay,flatMap_cons→Yba,drop_eq_getElem_cons→Ybb,findIdx?_eq_none_iff→Ybc,mem_of_find?_eq_some→Ybd,drop_append→Ybe,getElem?_replicate→Ybh,getElem?_set_self→Ybj,take_append_drop→Ybk,mem_of_mem_take→Ybm,length_eraseIdx→Ybn,set_append_left→Ybo,drop_replicate→Ybp,countP_cons→Ybv,mem_filter→Yby,map_append→Ybz,sum_append→Yca,countP_nil→Ycb,drop_drop→Ycd
open Nat renaming le_of_ble_eq_true→Yd,le_refl→Yh,le_trans→Yo,and_two_pow_sub_one_eq_mod→Yat,zero_add→Ybf,le_of_lt→Ybg,testBit_two_pow→Ybq,add_zero→Ybr,lt_or_ge→Ybt
open Int renaming toNat→Ye,toNat_natCast→Yj,tmod_eq_emod_of_nonneg→Yaz
open BitVec renaming ofInt→Yt,toNat_ofInt→Ybs,toNat_and→Ybu
open Option renaming bind_some→Yag,getD_some→Ybx
open Bool renaming and_eq_true→Yao,or_assoc→Yaw,true_and→Yax,eq_iff_iff→Ybi,or_eq_false_iff→Ybl,not_eq_true→Ybw,false_and→Ycc,and_false→Yce
namespace Jq
open Go
section
variable (C:Zk) (L:Zbl) (G:Glo)
variable {h0:Za}
variable {a2:Int}
variable {l0 l1:List Cell}
theorem q80_eq:q80.body C L G [(.agg l0)] h0=Zf l0 2 fun q=>Zi .i64 (.c q) fun n=>scK (n==2) false (Zf l0 2 fun q=>Zi .i64 (.c q) fun n=>some ((n==4),h0)) true h0 fun b h=>some ([(.c (.bool b))],h):=by kernel_rfl
theorem q109_eq:q109.body C L G [(.agg l0),(.agg l1),(.c (.int .i64 a2))] h0=Zf l0 0 fun q=>Zi .i64 (.c q) fun n=>if (n==1)=true then Zf l0 2 fun q=>Zi .i64 (.c q) fun n1=>if 3+2<=l0.length then if 0=0/\l1.length=5 then c1 (qh h0 (C 108 [(.agg ((l0.drop 3).take 2)),(.agg l1)] h0)) fun y h=>Zi .i64 y fun n2=>if 0=0/\[ci0,ci0,ci0,ci0,ci0,ci0].length=6/\(splice (splice (splice [ci0,ci0,ci0,ci0,ci0,ci0] 2 [(.int .i64 2)]) 3 [(.int .i64 n1)]) 5 [(.int .i64 n2)]).length=6 then if 0=0/\(splice (splice (splice [ci0,ci0,ci0,ci0,ci0,ci0] 2 [(.int .i64 2)]) 3 [(.int .i64 n1)]) 5 [(.int .i64 n2)]).length=6 then some ([(.agg (splice (splice (splice [ci0,ci0,ci0,ci0,ci0,ci0] 2 [(.int .i64 2)]) 3 [(.int .i64 n1)]) 5 [(.int .i64 n2)])),(.c (.bool false))],h0) else none else none else none else none else if (n==2)=true then Zf l0 2 fun q=>Zi .i64 (.c q) fun n1=>if 0=0/\[ci0,ci0,ci0,ci0,ci0,ci0].length=6/\(splice (splice (splice [ci0,ci0,ci0,ci0,ci0,ci0] 2 [(.int .i64 1)]) 3 [(.int .i64 n1)]) 4 [(.int .i64 a2)]).length=6 then if 0=0/\(splice (splice (splice [ci0,ci0,ci0,ci0,ci0,ci0] 2 [(.int .i64 1)]) 3 [(.int .i64 n1)]) 4 [(.int .i64 a2)]).length=6 then some ([(.agg (splice (splice (splice [ci0,ci0,ci0,ci0,ci0,ci0] 2 [(.int .i64 1)]) 3 [(.int .i64 n1)]) 4 [(.int .i64 a2)])),(.c (.bool true))],h0) else none else none else if (n==4)=true then if 3+2<=l0.length then if 0=0/\l1.length=5 then c1 (C 108 [(.agg ((l0.drop 3).take 2)),(.agg l1)] h0) fun y h=>Zi .i64 y fun n=>if (n==a2)=true then Zf l0 2 fun q=>Zi .i64 (.c q) fun n=>if 6+2<=l0.length then if 0=0/\l1.length=5 then c1 (qh h (C 108 [(.agg ((l0.drop 6).take 2)),(.agg l1)] h)) fun y h1=>Zi .i64 y fun n1=>if 0=0/\[ci0,ci0,ci0,ci0,ci0,ci0].length=6/\(splice (splice (splice (splice [ci0,ci0,ci0,ci0,ci0,ci0] 2 [(.int .i64 4)]) 3 [(.int .i64 n)]) 4 [(.int .i64 a2)]) 5 [(.int .i64 n1)]).length=6 then if 0=0/\(splice (splice (splice (splice [ci0,ci0,ci0,ci0,ci0,ci0] 2 [(.int .i64 4)]) 3 [(.int .i64 n)]) 4 [(.int .i64 a2)]) 5 [(.int .i64 n1)]).length=6 then some ([(.agg (splice (splice (splice (splice [ci0,ci0,ci0,ci0,ci0,ci0] 2 [(.int .i64 4)]) 3 [(.int .i64 n)]) 4 [(.int .i64 a2)]) 5 [(.int .i64 n1)])),(.c (.bool true))],h) else none else none else none else none else Zf l0 2 fun q=>Zi .i64 (.c q) fun n=>if 0=0/\[ci0,ci0,ci0,ci0,ci0,ci0].length=6/\(splice (splice (splice [ci0,ci0,ci0,ci0,ci0,ci0] 2 [(.int .i64 5)]) 3 [(.int .i64 n)]) 4 [(.int .i64 a2)]).length=6 then if 0=0/\(splice (splice (splice [ci0,ci0,ci0,ci0,ci0,ci0] 2 [(.int .i64 5)]) 3 [(.int .i64 n)]) 4 [(.int .i64 a2)]).length=6 then some ([(.agg (splice (splice (splice [ci0,ci0,ci0,ci0,ci0,ci0] 2 [(.int .i64 5)]) 3 [(.int .i64 n)]) 4 [(.int .i64 a2)])),(.c (.bool true))],h) else none else none else none else none else if 0=0/\[ci0,ci0,ci0,ci0,ci0,ci0].length=6/\(splice [ci0,ci0,ci0,ci0,ci0,ci0] 2 [(.int .i64 3)]).length=6 then if 0=0/\(splice [ci0,ci0,ci0,ci0,ci0,ci0] 2 [(.int .i64 3)]).length=6 then some ([(.agg (splice [ci0,ci0,ci0,ci0,ci0,ci0] 2 [(.int .i64 3)])),(.c (.bool false))],h0) else none else none:=by kernel_rfl
end
structure Evt where
 t:Int
 i:Int
 kind:Int
 loc:Int
 r:Int
 w:Int
 deriving DecidableEq
def Evt.cs (e:Evt):List Cell:=[.int .i64 e.t,.int .i64 e.i,.int .i64 e.kind,.int .i64 e.loc,.int .i64 e.r,.int .i64 e.w]
def evOf (i:Ins) (l:Lcl) (v:Int):Evt :=
 if i.kind=1 then ⟨0,0,2,i.loc,0,opV i.a l⟩
 else if i.kind=2 then ⟨0,0,1,i.loc,v,0⟩
 else if i.kind=4 then (if opV i.a l=v then ⟨0,0,4,i.loc,v,opV i.b l⟩ else ⟨0,0,5,i.loc,v,0⟩)
 else ⟨0,0,3,0,0,0⟩
def rdI (i:Ins):Bool:=decide (i.kind=2∨i.kind=4)
theorem Zzt {code:List Ins}:∀(k:Nat) (l:Lcl),l.pc<=(nrm code k l).pc
 | 0,l=>by rw [nrm];omega
 | k+1,l=>by
  rw [nrm]
  cases hs:Zdv code l with
  | none=>show l.pc<=l.pc;omega
  | some l' =>
   have h1:=Zjs hs
   have h2:=Zzt (code:=code) k l'
   show l.pc<=(nrm code k l').pc
   omega
theorem Zq766 {code:List Ins} {l:Lcl} {i:Ins} (h:Zbx code l=some i) (v:Int):l.pc+1<=(Zcd code l v).pc:=by
 unfold Zcd
 rw [h]
 exact Zzt _ _
theorem Zwc {i:Ins} (h:rdI i=false) (l:Lcl) (v w:Int):evOf i l v=evOf i l w:=by
 unfold rdI at h
 rw [decide_eq_false_iff_not] at h
 unfold evOf
 split
 ·rfl
 ·rw [if_neg (by omega),if_neg (by omega),if_neg (by omega),if_neg (by omega)]
theorem Zrk {code:List Ins} {l:Lcl} {i:Ins} (hn:Zbx code l=some i) (h:rdI i=false) (v w:Int):Zcd code l v=Zcd code l w:=by
 unfold rdI at h
 rw [decide_eq_false_iff_not] at h
 unfold Zcd
 rw [hn]
 dsimp only
 rw [if_neg h,if_neg h]
section
variable {E:Env}
theorem Zq802 (hE:q109_In E) (i:Ins) (l:Lcl) (v:Int) (h:Za):R E 109 [.agg i.cs,.agg l.cs,.c (.int .i64 v)] h=some ([.agg (evOf i l v).cs,.c (.bool (rdI i))],h):=by
 refine Zd hE.fn ?_
 have n3:(3+2<=i.cs.length):=by rw [Ins.len];omega
 have n6:(6+2<=i.cs.length):=by rw [Ins.len];omega
 unfold evOf rdI
 rw [q109_eq,ins_kind,asI_ok]
 by_cases k1:i.kind=1
 ·rw [if_pos (by rw [k1];rfl),if_pos k1,ins_loc,asI_ok,if_pos n3,if_pos ⟨rfl,rfl⟩,ins_a,Zmu hE.c108,qh_ok,c1_ok,asI_ok,if_pos ⟨rfl,rfl,rfl⟩,if_pos ⟨rfl,rfl⟩,show decide (i.kind=2∨i.kind=4)=false from decide_eq_false (by omega)]
  rfl
 ·rw [if_neg (by rw [beq_iff_eq];exact k1),if_neg k1]
  by_cases k2:i.kind=2
  ·rw [if_pos (by rw [k2];rfl),if_pos k2,ins_loc,asI_ok,if_pos ⟨rfl,rfl,rfl⟩,if_pos ⟨rfl,rfl⟩,show decide (i.kind=2∨i.kind=4)=true from decide_eq_true (by omega)]
   rfl
  ·rw [if_neg (by rw [beq_iff_eq];exact k2),if_neg k2]
   by_cases k4:i.kind=4
   ·rw [if_pos (by rw [k4];rfl),if_pos k4,if_pos n3,if_pos ⟨rfl,rfl⟩,ins_a,Zmu hE.c108,c1_ok,asI_ok,show decide (i.kind=2∨i.kind=4)=true from decide_eq_true (by omega)]
    by_cases hv:opV i.a l=v
    ·rw [if_pos (by rw [hv];exact beq_self_eq_true _),if_pos hv,ins_loc,asI_ok,if_pos n6,if_pos ⟨rfl,rfl⟩,ins_b,Zmu hE.c108,qh_ok,c1_ok,asI_ok,if_pos ⟨rfl,rfl,rfl⟩,if_pos ⟨rfl,rfl⟩]
     rfl
    ·rw [if_neg (by rw [beq_iff_eq];exact hv),if_neg hv,ins_loc,asI_ok,if_pos ⟨rfl,rfl,rfl⟩,if_pos ⟨rfl,rfl⟩]
     rfl
   ·rw [if_neg (by rw [beq_iff_eq];exact k4),if_neg k4,if_pos ⟨rfl,rfl,rfl⟩,if_pos ⟨rfl,rfl⟩,show decide (i.kind=2∨i.kind=4)=false from decide_eq_false (by omega)]
    rfl
theorem evOf_ref (hE:q111_In E) (i:Ins) (l:Lcl) (v:Int) (h:Za):R E 111 [.agg i.cs,.agg l.cs,.c (.int .i64 v)] h=some ([.agg (evOf i l v).cs],h):=by
 refine Zd hE.fn ?_
 have n3:(3+2<=i.cs.length):=by rw [Ins.len];omega
 have n6:(6+2<=i.cs.length):=by rw [Ins.len];omega
 unfold evOf
 rw [q111_eq,ins_kind,asI_ok]
 by_cases k1:i.kind=1
 ·rw [if_pos (by rw [k1];rfl),if_pos k1,ins_loc,asI_ok,if_pos n3,if_pos ⟨rfl,rfl⟩,ins_a,Zee hE.c92,qh_ok,c1_ok,asI_ok,if_pos ⟨rfl,rfl,rfl⟩,if_pos ⟨rfl,rfl⟩]
  rfl
 ·rw [if_neg (by rw [beq_iff_eq];exact k1),if_neg k1]
  by_cases k2:i.kind=2
  ·rw [if_pos (by rw [k2];rfl),if_pos k2,ins_loc,asI_ok,if_pos ⟨rfl,rfl,rfl⟩,if_pos ⟨rfl,rfl⟩]
   rfl
  ·rw [if_neg (by rw [beq_iff_eq];exact k2),if_neg k2]
   by_cases k4:i.kind=4
   ·rw [if_pos (by rw [k4];rfl),if_pos k4,if_pos n3,if_pos ⟨rfl,rfl⟩,ins_a,Zee hE.c92,c1_ok,asI_ok]
    by_cases hv:opV i.a l=v
    ·rw [if_pos (by rw [hv];exact beq_self_eq_true _),if_pos hv,ins_loc,asI_ok,if_pos n6,if_pos ⟨rfl,rfl⟩,ins_b,Zee hE.c92,qh_ok,c1_ok,asI_ok,if_pos ⟨rfl,rfl,rfl⟩,if_pos ⟨rfl,rfl⟩]
     rfl
    ·rw [if_neg (by rw [beq_iff_eq];exact fun e=>hv e.symm),if_neg hv,ins_loc,asI_ok,if_pos ⟨rfl,rfl,rfl⟩,if_pos ⟨rfl,rfl⟩]
     rfl
   ·rw [if_neg (by rw [beq_iff_eq];exact k4),if_neg k4,if_pos ⟨rfl,rfl,rfl⟩,if_pos ⟨rfl,rfl⟩]
    rfl
def PProg.small (P:PProg):Prop:=P.thr.length<=1000/\∀code∈P.thr,code.length<=1000
theorem PProg.small.fits {P:PProg} (h:P.small):P.fits:=⟨by have:=h.1;omega,fun c hc=>by have:=h.2 c hc;omega⟩
end



section
variable (C:Zk) (L:Zbl) (G:Glo)
variable {h h0:Za}
variable {x0 x1:Cell}
variable {a4 a7 a8:Int}
theorem q119_eq:q119.body C L G [(.c x0)] h0=Zcm false x0 .nils fun b=>if b=true then some ([(.c .nils)],h0) else if ([]:List Cell).length=0*9 then (Zah (h0++[some (Blk.mk true 9 [])]) 9 x0).bind fun l=>Zaq 9 72 (.sl h0.length (([]:List Cell).length) 0 0) l (h0++[some (Blk.mk true 9 [])]) fun x h=>some ([(.c x)],h) else none:=by kernel_rfl
theorem q155_eq:q155.body C L G [(.c x0),(.c x1)] h0=c1 (C 156 [(.c x0),(.c x1)] h0) fun y h=>Zi .i64 y fun n=>some ([(.c (.bool (decide (n>=0))))],h):=by kernel_rfl
def q156_k2 (h0:Za):Ex->St->Rs:=Zae (fun st=>q156_p1.exec C L G st (q156.fin G h0)) (q156.fin G h0)
def q156_k3 (h0:Za):Ex->St->Rs:=Zap 0 (q156_k2 C L G h0)
def q156_s1 (x0 x1:Cell) (a7 a8:Int) (h:Za):St:=⟨.v (.c x0) :: .v (.c x1) :: tops 5 (.v (.c (.int .i64 a7)) :: .v (.c (.int .i64 a8)) :: tops 10 []),[],h⟩
def q156_F1 :St->Option (Ex × St):=Zo (q156_b1.exec C L G) [0,1,7,8] [] [(0,[4],[]),(1,[],[])]
def q156_x1_0 (a4:Int) (h:Za):St:=⟨tops 4 (.v (.c (.int .i64 a4)) :: tops 14 []),[],h⟩
def q156_x1_1 (h:Za):St:=⟨tops 19 [],[],h⟩
theorem q156_r1:q156_F1 C L G (q156_s1 x0 x1 a7 a8 h)=if (decide (a8<a7))=true then Zm 9 x0 a8 fun k N o=>Zn h k N fun l=>if o+9<=l.length then fnK x1 fun g l1=>c1 (C g ([(.agg ((l.drop o).take 9))]++l1) h) fun y h1=>asB y fun b=>if b=true then some (.ret,(q156_x1_0 a8 h1)) else some (.normal,(q156_s1 x0 x1 a7 (G.wrap .i64 (a8+1)) h1)) else none else some ((.exit 0),(q156_x1_1 h)):=by kernel_rfl
theorem q156_e1_0:(q156_k3 C L G h0) .ret (q156_x1_0 a4 h)=some ([(.c (.int .i64 a4))],h):=by kernel_rfl
theorem q156_e1_1:(q156_k3 C L G h0) (.exit 0) (q156_x1_1 h)=some ([(.c (.int .i64 (-1)))],h):=by kernel_rfl
theorem q156_eq:q156.body C L G [(.c x0),(.c x1)] h0=Zaj x0 fun n=>(L (q156_F1 C L G) (q156_s1 x0 x1 n 0 h0)).bind fun p=>(q156_k3 C L G h0) p.1 p.2:=by kernel_rfl
theorem q195_eq:q195.body C L G [(.c x0)] h0=Zcm false x0 .nils fun b=>if b=true then some ([(.c .nils)],h0) else if ([]:List Cell).length=0*7 then (Zah (h0++[some (Blk.mk true 7 [])]) 7 x0).bind fun l=>Zaq 7 56 (.sl h0.length (([]:List Cell).length) 0 0) l (h0++[some (Blk.mk true 7 [])]) fun x h=>some ([(.c x)],h) else none:=by kernel_rfl
theorem q202_eq:q202.body C L G [(.c x0)] h0=Zcm false x0 .nils fun b=>if b=true then some ([(.c .nils)],h0) else if ([]:List Cell).length=0*1 then (Zah (h0++[some (Blk.mk true 1 [])]) 1 x0).bind fun l=>Zaq 1 1 (.sl h0.length (([]:List Cell).length) 0 0) l (h0++[some (Blk.mk true 1 [])]) fun x h=>some ([(.c x)],h) else none:=by kernel_rfl
theorem q203_eq:q203.body C L G [(.c x0)] h0=Zcm false x0 .nils fun b=>if b=true then some ([(.c .nils)],h0) else if ([]:List Cell).length=0*1 then (Zah (h0++[some (Blk.mk true 1 [])]) 1 x0).bind fun l=>Zaq 1 8 (.sl h0.length (([]:List Cell).length) 0 0) l (h0++[some (Blk.mk true 1 [])]) fun x h=>some ([(.c x)],h) else none:=by kernel_rfl
def q283_k2 (h0:Za):Ex->St->Rs:=Zae (fun st=>q283_p1.exec C L G st (q283.fin G h0)) (q283.fin G h0)
def q283_k3 (h0:Za):Ex->St->Rs:=Zap 0 (q283_k2 C L G h0)
def q283_s1 (x0 x1:Cell) (a7 a8:Int) (h:Za):St:=⟨.v (.c x0) :: .v (.c x1) :: tops 5 (.v (.c (.int .i64 a7)) :: .v (.c (.int .i64 a8)) :: tops 10 []),[],h⟩
def q283_F1 :St->Option (Ex × St):=Zo (q283_b1.exec C L G) [0,1,7,8] [] [(0,[4],[]),(1,[],[])]
def q283_x1_0 (a4:Int) (h:Za):St:=⟨tops 4 (.v (.c (.int .i64 a4)) :: tops 14 []),[],h⟩
def q283_x1_1 (h:Za):St:=⟨tops 19 [],[],h⟩
theorem q283_r1:q283_F1 C L G (q283_s1 x0 x1 a7 a8 h)=if (decide (a8<a7))=true then Zm 7 x0 a8 fun k N o=>Zn h k N fun l=>if o+7<=l.length then fnK x1 fun g l1=>c1 (C g ([(.agg ((l.drop o).take 7))]++l1) h) fun y h1=>asB y fun b=>if b=true then some (.ret,(q283_x1_0 a8 h1)) else some (.normal,(q283_s1 x0 x1 a7 (G.wrap .i64 (a8+1)) h1)) else none else some ((.exit 0),(q283_x1_1 h)):=by kernel_rfl
theorem q283_e1_0:(q283_k3 C L G h0) .ret (q283_x1_0 a4 h)=some ([(.c (.int .i64 a4))],h):=by kernel_rfl
theorem q283_e1_1:(q283_k3 C L G h0) (.exit 0) (q283_x1_1 h)=some ([(.c (.int .i64 (-1)))],h):=by kernel_rfl
theorem q283_eq:q283.body C L G [(.c x0),(.c x1)] h0=Zaj x0 fun n=>(L (q283_F1 C L G) (q283_s1 x0 x1 n 0 h0)).bind fun p=>(q283_k3 C L G h0) p.1 p.2:=by kernel_rfl
end
def initsE (l:List Int):List Evt:=(Yu l.length).map fun (i:Nat)=>⟨-1,i,2,i,0,l.getD i 0⟩
theorem getDI {l:List Int} {i:Nat} (hi:i<l.length):l[i]? = some (l.getD i 0):=by
 rw [Yq,Yc hi];rfl
theorem Zbq {α:Type} {l:List α} {i:Nat} {p:α} (h:l[i]? = some p):l.take (i+1)=l.take i++[p]:=by
 rw [List.take_add_one,h];rfl
section
variable {E:Env}
theorem ProgAt.initG {h:Za} {cs:List Cell} {P:PProg} (p:ProgAt h cs P):∃b,SlAt h b 1 (intC .i64 P.init) P.init.length/\Low h.length b/\∀{α:Type} (f:Cell->Option α),Zf cs 1 f=f b:=by
 obtain ⟨a,b,c,ts,rfl,_,⟨hb,hbl⟩,_⟩:=p
 exact ⟨b,hb,hbl,fun _=>rfl⟩
theorem rdE_eq {k:Int} {e:Evt} (h:e.kind=k) {α:Type} {f:Cell->Option α}:Zf e.cs 2 f=f (.int .i64 k):=by subst h;rfl
def Zqh (e:Evt):Bool:=e.kind==2||e.kind==4
theorem Zq734 (hE:q80_In E) (e:Evt) (h:Za):R E 80 [.agg e.cs] h=some ([.c (.bool (Zqh e))],h):=by
 refine Zd hE.fn ?_
 rw [q80_eq]
 simp only [rdE_eq (e:=e) rfl,asI_ok,scK_or];rfl
end
structure Atm where
 thread:Int
 reg:Int
 loc:Int
 value:Int
def Atm.cs (a:Atm):List Cell:=[.int .i64 a.thread,.int .i64 a.reg,.int .i64 a.loc,.int .i64 a.value]
def Zgw (l:List Atm):List Cell:=l.flatMap Atm.cs
theorem Atm.len (a:Atm):a.cs.length=4:=rfl
theorem atmC_at:∀(l:List Atm) (i:Nat) (s:Atm),l[i]? = some s->((Zgw l).drop (i*4)).take 4=s.cs
 | [],_,_,h=>by simp at h
 | q :: l,0,s,h=>by simp at h;subst h;rfl
 | q :: l,i+1,s,h=>by
  have:=atmC_at l i s (by simpa using h)
  have e:Zgw (q :: l)=q.cs++Zgw l:=rfl
  rw [e,Ybe,Yab (by rw [Atm.len];omega),Yw,show (i+1)*4 - q.cs.length=i*4 by rw [Atm.len];omega]
  exact this
theorem Zq790 {l:List Atm} {i j:Nat} {s:Atm} {c:Cell} (h:l[i]? = some s) (hj:j<4) (hc:s.cs[j]? = some c):(Zgw l)[i*4+j]? = some c:=by
 rw [←hc,←atmC_at l i s h,Ys,if_pos hj,Yac]
theorem Zq726 {l:List Ins} {i j:Nat} {s:Ins} {c:Cell} (h:l[i]? = some s) (hj:j<9) (hc:s.cs[j]? = some c):(Zai l)[i*9+j]? = some c:=by
 rw [←hc,←Zrg l i s h,Ys,if_pos hj,Yac]
structure PTest where
 name:ByteArray
 inits:List (Int × Int)
 thr:List (List Ins)
 ck:Int
 any:List (List Atm)
def RowsOf {α:Type} (esz:Nat) (C:List α->List Cell) (h:Za) (x:Cell) (rows:List (List α)):Prop :=
 ∃ts,SlAt h x 1 ts rows.length/\Low h.length x/\∀(t:Nat) (r:List α),rows[t]? = some r->∃y:Cell,ts[t]? = some y/\SlAt h y esz (C r) r.length/\Low h.length y
theorem RowsOf.keep {α:Type} {esz:Nat} {C:List α->List Cell} {h h':Za} {x:Cell} {rows:List (List α)} (r:RowsOf esz C h x rows) (hk:Kp h.length h h'):RowsOf esz C h' x rows:=by
 obtain ⟨ts,h1,h2,h3⟩:=r
 exact ⟨ts,h1.keep h2 hk,Zbi hk.1 h2,fun t r hr=>by
  obtain ⟨y,y1,y2,y3⟩:=h3 t r hr
  exact ⟨y,y1,y2.keep y3 hk,Zbi hk.1 y3⟩⟩
theorem RowsOf.get {α β:Type} {esz:Nat} {C:List α->List Cell} {h:Za} {x:Cell} {rows:List (List α)} (r:RowsOf esz C h x rows) {t:Nat} {row:List α} (ht:rows[t]? = some row) :
  ∃y,SlAt h y esz (C row) row.length/\Low h.length y/\∀(f:Cell->Option β),(Zm 1 x (t:Int) fun k N o=>Zn h k N fun l=>Zf l o f)=f y:=by
 obtain ⟨ts,h1,h2,h3⟩:=r
 obtain ⟨y,y1,y2,y3⟩:=h3 t row ht
 exact ⟨y,y2,y3,fun f=>h1.get1 (Zs ht) y1⟩
theorem RowsOf.len {α β:Type} {esz:Nat} {C:List α->List Cell} {h:Za} {x:Cell} {rows:List (List α)} (r:RowsOf esz C h x rows) {f:Int->Option β}:Zaj x f=f rows.length:=by
 obtain ⟨ts,h1,_⟩:=r;exact h1.len
def TestAt (h:Za) (cs:List Cell) (T:PTest):Prop :=
 ∃a b c,cs=[.str T.name,a,b,.int .i64 T.ck,c]/\(SlAt h a 2 (Zeo T.inits) T.inits.length/\Low h.length a)/\RowsOf 9 Zai h b T.thr/\RowsOf 4 Zgw h c T.any
theorem TestAt.keep {h h':Za} {cs:List Cell} {T:PTest} (p:TestAt h cs T) (hk:Kp h.length h h'):TestAt h' cs T:=by
 obtain ⟨a,b,c,e,⟨a1,a2⟩,hb,hc⟩:=p
 exact ⟨a,b,c,e,⟨a1.keep a2 hk,Zbi hk.1 a2⟩,hb.keep hk,hc.keep hk⟩
theorem TestAt.len {h:Za} {cs:List Cell} {T:PTest} (p:TestAt h cs T):cs.length=5:=by
 obtain ⟨a,b,c,rfl,_⟩:=p;rfl
structure PTest.small (T:PTest):Prop where
 inits:T.inits.length<=1000
 thr:T.thr.length<=1000
 code:∀c∈T.thr,c.length<=1000
 any:T.any.length<=1000
 row:∀c∈T.any,c.length<=1000
def Zdh (T:PTest) (b:Nat):Bool:=(T.inits.any fun p=>p.1 % 256==(b:Int))||(T.thr.any fun c=>c.any fun i=>i.loc % 256==(b:Int))||(T.any.any fun c=>c.any fun a=>a.loc % 256==(b:Int))
def locsF (S:Nat->Bool) (n:Nat):List Int:=((Yu n).filter fun c=>S (97+c)).map fun (c:Nat)=>((97+c:Nat):Int)
def Zaz (T:PTest):List Int:=locsF (Zdh T) 26
theorem Zin (S:Nat->Bool) (n:Nat):locsF S (n+1)=if S (97+n)=true then locsF S n++[((97+n:Nat):Int)] else locsF S n:=by
 unfold locsF
 rw [List.range_succ,List.filter_append,List.filter_cons,List.filter_nil]
 split<;>simp
theorem Zob (S:Nat->Bool):∀n,(locsF S n).length<=n
 | 0=>by simp [locsF]
 | n+1=>by
  have:=Zob S n
  rw [Zin];split
  ·rw [Yb,Yl];omega
  ·omega
theorem Zop {S:Nat->Bool} {n:Nat} {x:Int}:x∈locsF S n↔∃c,c<n/\S (97+c)=true/\x=((97+c:Nat):Int):=by
 unfold locsF
 rw [Yas]
 constructor
 ·rintro ⟨c,hc,rfl⟩
  rw [Yby] at hc
  exact ⟨c,by simpa using hc.1,hc.2,rfl⟩
 ·rintro ⟨c,h1,h2,rfl⟩
  exact ⟨c,by rw [Yby];exact ⟨by simpa using h1,h2⟩,rfl⟩
theorem Zco {s t:Nat->Bool} {n:Nat} (h:∀i,i<n->s i=t i):Zav s n=Zav t n:=List.map_congr_left fun i hi=>by rw [h i (by simpa using hi)]
theorem Znq {S S':Nat->Bool} {v:Int} (h:∀b:Nat,b<256->S' b=(S b||(v % 256==(b:Int)))) :
  (Zav S 256).set (0+(v % 256).toNat*1) (.bool true)=Zav S' 256:=by
 rw [show 0+(v % 256).toNat*1=(v % 256).toNat by omega,Zq791]
 refine Zco fun i hi=>?_
 rw [h i hi]
 by_cases e:i=(v % 256).toNat
 ·rw [if_pos e,show (v % 256==(i:Int))=true by rw [beq_iff_eq];omega,Bool.or_true]
 ·rw [if_neg e,show (v % 256==(i:Int))=false by rw [beq_eq_false_iff_ne];omega,Bool.or_false]
theorem Zdy {α:Type} {l:List α} {i:Nat} {p:α} (h:l[i]? = some p) (f:α->Bool):(l.take (i+1)).any f=((l.take i).any f||f p):=by
 rw [Zbq h,List.any_append];simp
section
variable {E:Env}
theorem Zq785 (hE:q121_In E) {cs:List Cell} {T:PTest} {h:Za} (p:TestAt h cs T) (hs:T.small) :
  ∃y h',R E 121 [.agg cs] h=some ([.c y],h')/\Own h.length h' y 1 (intC .u8 (Zaz T)) (Zaz T).length/\Kp h.length h h':=by
 obtain ⟨a,b,c,rfl,⟨ha,hal⟩,hb,hc⟩:=p
 have a1:∀{α:Type} (f:Cell->Option α),Zf [.str T.name,a,b,.int .i64 T.ck,c] 1 f=f a:=fun _=>rfl
 have a2:∀{α:Type} (f:Cell->Option α),Zf [.str T.name,a,b,.int .i64 T.ck,c] 2 f=f b:=fun _=>rfl
 have a4:∀{α:Type} (f:Cell->Option α),Zf [.str T.name,a,b,.int .i64 T.ck,c] 4 f=f c:=fun _=>rfl
 have w:∀v:Int,0<=v % 256/\v % 256<((256:Nat):Int):=fun v=>by omega
 have w2:∀(v:Int) (S:Nat->Bool),0+Ye (v % 256)*1<(Zav S 256).length:=fun v S=>by rw [Ztp];omega
 have loop1:Zx (q121_F1 (R E) Zx E.glob) (q121_s1 ((0:Nat):Int) [.str T.name,a,b,.int .i64 T.ck,c] (Zav (fun q=>(T.inits.take 0).any fun p=>p.1 % 256==(q:Int)) 256) h)=some (.exit 0,q121_x1_1 [.str T.name,a,b,.int .i64 T.ck,c] (Zav (fun q=>(T.inits.take T.inits.length).any fun p=>p.1 % 256==(q:Int)) 256) h):=by
  refine Zao (fun i=>q121_s1 (i:Int) [.str T.name,a,b,.int .i64 T.ck,c] (Zav (fun q=>(T.inits.take i).any fun p=>p.1 % 256==(q:Int)) 256) h) 0 T.inits.length (by omega) (fun i _ hi=>?_) (Zl ?_)
  ·have hq:T.inits[i]? = some T.inits[i]:=Yc hi
   generalize T.inits[i]=q at hq
   have:=hs.inits
   rw [q121_r1,a1,ha.len,if_pos (by simp;omega),a1,ha.get hi (by omega) (Zkm _ _ _ hq).1,asI_ok,g_band255,if_pos (w _),if_pos (w2 _ _),Zr (by omega),Znq (S':=fun r=>(T.inits.take (i+1)).any fun p=>p.1 % 256==(r:Int)) (fun r _=>Zdy hq _)]
  ·rw [q121_r1,a1,ha.len,if_neg (by simp)]
 rw [Yx] at loop1
 generalize hS1:(fun q:Nat=>T.inits.any fun p=>p.1 % 256==(q:Int))=S1 at loop1
 have loop2:∀(t:Nat) (code:List Ins) (S:Nat->Bool),T.thr[t]? = some code->Zx (q121_F2 (R E) Zx E.glob) (q121_s2 (t:Int) ((0:Nat):Int) [.str T.name,a,b,.int .i64 T.ck,c] (Zav (fun q=>S q||(code.take 0).any fun i=>i.loc % 256==(q:Int)) 256) h)=some (.exit 4,q121_x2_5 (t:Int) [.str T.name,a,b,.int .i64 T.ck,c] (Zav (fun q=>S q||(code.take code.length).any fun i=>i.loc % 256==(q:Int)) 256) h):=by
  intro t code S ht
  obtain ⟨y,y1,y2,y3⟩:=hb.get (β:=Ex × St) ht
  refine Zao (fun i=>q121_s2 (t:Int) (i:Int) [.str T.name,a,b,.int .i64 T.ck,c] (Zav (fun q=>S q||(code.take i).any fun i=>i.loc % 256==(q:Int)) 256) h) 0 code.length (by omega) (fun i _ hi=>?_) (Zl ?_)
  ·have hq:code[i]? = some code[i]:=Yc hi
   generalize code[i]=q at hq
   have:=hs.code code (Yf ht)
   rw [q121_r2,a2,y3,y1.len,if_pos (by simp;omega),a2,y3,y1.get hi (by omega) (Zq726 hq (by omega) (c:=.int .i64 q.loc) rfl),asI_ok,g_band255,if_pos (w _),if_pos (w2 _ _),Zr (by omega),Znq (S':=fun r=>S r||(code.take (i+1)).any fun i=>i.loc % 256==(r:Int)) (fun r _=>by rw [Zdy hq,Yaw])]
  ·rw [q121_r2,a2,y3,y1.len,if_neg (by simp)]
 have loop3:Zx (q121_F3 (R E) Zx E.glob) (q121_s3 ((0:Nat):Int) [.str T.name,a,b,.int .i64 T.ck,c] (Zav (fun q=>S1 q||(T.thr.take 0).any fun c=>c.any fun i=>i.loc % 256==(q:Int)) 256) h)=some (.exit 2,q121_x3_3 [.str T.name,a,b,.int .i64 T.ck,c] (Zav (fun q=>S1 q||(T.thr.take T.thr.length).any fun c=>c.any fun i=>i.loc % 256==(q:Int)) 256) h):=by
  refine Zao (fun t=>q121_s3 (t:Int) [.str T.name,a,b,.int .i64 T.ck,c] (Zav (fun q=>S1 q||(T.thr.take t).any fun c=>c.any fun i=>i.loc % 256==(q:Int)) 256) h) 0 T.thr.length (by omega) (fun t _ ht=>?_) (Zl ?_)
  ·have hq:T.thr[t]? = some T.thr[t]:=Yc ht
   generalize T.thr[t]=code at hq
   have:=hs.thr
   have l2:=loop2 t code (fun q=>S1 q||(T.thr.take t).any fun c=>c.any fun i=>i.loc % 256==(q:Int)) hq
   rw [Yx,show ((0:Nat):Int)=0 from rfl] at l2
   have e0:Zav (fun q=>(S1 q||(T.thr.take t).any fun c=>c.any fun i=>i.loc % 256==(q:Int))||(code.take 0).any fun i=>i.loc % 256==(q:Int)) 256=Zav (fun q=>S1 q||(T.thr.take t).any fun c=>c.any fun i=>i.loc % 256==(q:Int)) 256:=Zco fun q _=>by simp
   rw [e0] at l2
   rw [q121_r3,a2,hb.len,if_pos (by simp;omega),l2,bind_ok,q121_e2_5,Zr (by omega)]
   congr 3
   exact Zco fun q _=>by rw [Zdy hq,Yaw]
  ·rw [q121_r3,a2,hb.len,if_neg (by simp)]
 rw [Yx] at loop3
 have e3:Zav (fun q=>S1 q||(T.thr.take 0).any fun c=>c.any fun i=>i.loc % 256==(q:Int)) 256=Zav S1 256:=Zco fun q _=>by simp
 rw [e3,show ((0:Nat):Int)=0 from rfl] at loop3
 generalize hS2:(fun q:Nat=>S1 q||T.thr.any fun c=>c.any fun i=>i.loc % 256==(q:Int))=S2 at loop3
 have loop4:∀(t:Nat) (row:List Atm) (S:Nat->Bool),T.any[t]? = some row->Zx (q121_F4 (R E) Zx E.glob) (q121_s4 (t:Int) ((0:Nat):Int) [.str T.name,a,b,.int .i64 T.ck,c] (Zav (fun q=>S q||(row.take 0).any fun i=>i.loc % 256==(q:Int)) 256) h)=some (.exit 8,q121_x4_9 (t:Int) [.str T.name,a,b,.int .i64 T.ck,c] (Zav (fun q=>S q||(row.take row.length).any fun i=>i.loc % 256==(q:Int)) 256) h):=by
  intro t row S ht
  obtain ⟨y,y1,y2,y3⟩:=hc.get (β:=Ex × St) ht
  refine Zao (fun i=>q121_s4 (t:Int) (i:Int) [.str T.name,a,b,.int .i64 T.ck,c] (Zav (fun q=>S q||(row.take i).any fun i=>i.loc % 256==(q:Int)) 256) h) 0 row.length (by omega) (fun i _ hi=>?_) (Zl ?_)
  ·have hq:row[i]? = some row[i]:=Yc hi
   generalize row[i]=q at hq
   have:=hs.row row (Yf ht)
   rw [q121_r4,a4,y3,y1.len,if_pos (by simp;omega),a4,y3,y1.get hi (by omega) (Zq790 hq (by omega) (c:=.int .i64 q.loc) rfl),asI_ok,g_band255,if_pos (w _),if_pos (w2 _ _),Zr (by omega),Znq (S':=fun r=>S r||(row.take (i+1)).any fun i=>i.loc % 256==(r:Int)) (fun r _=>by rw [Zdy hq,Yaw])]
  ·rw [q121_r4,a4,y3,y1.len,if_neg (by simp)]
 have loop5:Zx (q121_F5 (R E) Zx E.glob) (q121_s5 ((0:Nat):Int) [.str T.name,a,b,.int .i64 T.ck,c] (Zav (fun q=>S2 q||(T.any.take 0).any fun c=>c.any fun i=>i.loc % 256==(q:Int)) 256) h)=some (.exit 6,q121_x5_7 (Zav (fun q=>S2 q||(T.any.take T.any.length).any fun c=>c.any fun i=>i.loc % 256==(q:Int)) 256) h):=by
  refine Zao (fun t=>q121_s5 (t:Int) [.str T.name,a,b,.int .i64 T.ck,c] (Zav (fun q=>S2 q||(T.any.take t).any fun c=>c.any fun i=>i.loc % 256==(q:Int)) 256) h) 0 T.any.length (by omega) (fun t _ ht=>?_) (Zl ?_)
  ·have hq:T.any[t]? = some T.any[t]:=Yc ht
   generalize T.any[t]=row at hq
   have:=hs.any
   have l2:=loop4 t row (fun q=>S2 q||(T.any.take t).any fun c=>c.any fun i=>i.loc % 256==(q:Int)) hq
   rw [Yx,show ((0:Nat):Int)=0 from rfl] at l2
   have e0:Zav (fun q=>(S2 q||(T.any.take t).any fun c=>c.any fun i=>i.loc % 256==(q:Int))||(row.take 0).any fun i=>i.loc % 256==(q:Int)) 256=Zav (fun q=>S2 q||(T.any.take t).any fun c=>c.any fun i=>i.loc % 256==(q:Int)) 256:=Zco fun q _=>by simp
   rw [e0] at l2
   rw [q121_r5,a4,hc.len,if_pos (by simp;omega),l2,bind_ok,q121_e4_9,Zr (by omega)]
   congr 3
   exact Zco fun q _=>by rw [Zdy hq,Yaw]
  ·rw [q121_r5,a4,hc.len,if_neg (by simp)]
 rw [Yx] at loop5
 have e5:Zav (fun q=>S2 q||(T.any.take 0).any fun c=>c.any fun i=>i.loc % 256==(q:Int)) 256=Zav S2 256:=Zco fun q _=>by simp
 rw [e5,show ((0:Nat):Int)=0 from rfl] at loop5
 have hS3:(fun q:Nat=>S2 q||T.any.any fun c=>c.any fun i=>i.loc % 256==(q:Int))=Zdh T:=by
  funext q;rw [←hS2,←hS1];rfl
 rw [hS3] at loop5
 have hm:maxBytes>=100:=by unfold maxBytes;omega
 obtain ⟨st,⟨y,h1,rfl,hy,hk⟩,hL⟩:=Zhp (F:=q121_F6 (R E) Zx E.glob) (fun i st=>∃y h1,st=q121_s6 y ((97+i:Nat):Int) (Zav (Zdh T) 256) h1/\Own h.length h1 y 1 (intC .u8 (locsF (Zdh T) i)) (locsF (Zdh T) i).length/\Kp h.length h h1) 0 26 (by omega)
  (fun i st _ hi=>by
   rintro ⟨y,h1,rfl,hy,hk⟩
   have hlen:=Zob (Zdh T) i
   have hw:E.glob.wrap .i32 (((97+i:Nat):Int)+1)=((97+(i+1):Nat):Int):=by
    show IntKind.wrap .i32 _=_
    simp only [IntKind.wrap,IntKind.signed,IntKind.bits,Yax]
    split
    ·rename_i hh;have hh:=of_decide_eq_true hh;omega
    ·omega
   have hw8:E.glob.wrap .u8 ((97+i:Nat):Int)=((97+i:Nat):Int):=by
    show IntKind.wrap .u8 _=_
    simp only [IntKind.wrap,IntKind.signed,IntKind.bits,Ycc,Bool.false_eq_true,if_false];omega
   have hrd:q121_F6 (R E) Zx E.glob (q121_s6 y ((97+i:Nat):Int) (Zav (Zdh T) 256) h1)=if Zdh T (97+i)=true then Zaq 1 1 y [.int .u8 ((97+i:Nat):Int)] h1 fun x h'=>some (.normal,q121_s6 x ((97+(i+1):Nat):Int) (Zav (Zdh T) 256) h') else some (.normal,q121_s6 y ((97+(i+1):Nat):Int) (Zav (Zdh T) 256) h1):=by
    rw [q121_r6,if_pos (by simp;omega),if_pos ⟨by omega,by omega⟩,show 0+Ye ((97+i:Nat):Int)*1=97+i by omega,Zak (Zsv (show 97+i<256 by omega)),asB_ok,hw,hw8]
    rfl
   rw [hrd]
   by_cases ht:Zdh T (97+i)=true
   ·obtain ⟨y2,h2,hap,hy2,hk2,_⟩:=hy.app (bytes:=1) (xs:=[.int .u8 ((97+i:Nat):Int)]) hk.1 rfl (by omega) (by omega) (by omega)
    refine ⟨_,by rw [if_pos ht,hap],y2,h2,rfl,?_,hk.trans hk2⟩
    rw [Zin,if_pos ht,intC_snoc,Yb,Yl];exact hy2
   ·refine ⟨_,by rw [if_neg ht],y,h1,rfl,?_,hk⟩
    rw [Zin,if_neg ht];exact hy) (st:=q121_s6 .nils ((97+0:Nat):Int) (Zav (Zdh T) 256) h) ⟨.nils,h,rfl,Own.nil _ _ _,Kp.refl _ _⟩
 have hfin:q121_F6 (R E) Zx E.glob (q121_s6 y ((97+26:Nat):Int) (Zav (Zdh T) 256) h1)=some (.exit 10,q121_x6_11 y h1):=by
  rw [q121_r6,if_neg (by simp)]
 have hr:=hL _ (Zl hfin)
 refine ⟨y,h1,Zd hE.fn ?_,hy,hk⟩
 have e1:Zav (fun q=>(T.inits.take 0).any fun p=>p.1 % 256==(q:Int)) 256=Ya 256 (Cell.bool false):=by rw [Zxn];exact Zco fun q _=>by simp
 rw [e1,show ((0:Nat):Int)=0 from rfl] at loop1
 rw [q121_eq,loop1,bind_ok,q121_e1_1,loop3,bind_ok,q121_e3_3,loop5,bind_ok,q121_e5_7,show (97:Int)=((97+0:Nat):Int) from rfl,hr,bind_ok,q121_e6_11]
end
theorem Own.keepK {n:Nat} {h h':Za} {x:Cell} {esz len:Nat} {cs:List Cell} (o:Own n h x esz cs len) (hk:Kp h.length h h'):Own n h' x esz cs len:=by
 refine ⟨o.1,o.2.imp id ?_⟩
 rintro ⟨k,e,hn,hb⟩
 exact ⟨k,e,hn,by rw [hk.blk (Zar hb)];exact hb⟩
theorem Own.monoN {n m:Nat} (hm:m<=n) {h:Za} {x:Cell} {esz len:Nat} {cs:List Cell} (o:Own n h x esz cs len):Own m h x esz cs len :=
 ⟨o.1,o.2.imp id fun ⟨k,e,hn,hb⟩=>⟨k,e,by omega,hb⟩⟩
theorem Own.blkLt {n:Nat} {h:Za} {x:Cell} {esz len:Nat} {cs:List Cell} (o:Own n h x esz cs len) {k:Nat} (hk:Zad x k):k<h.length/\n<=k:=by
 rcases o.2 with ⟨rfl,_⟩ | ⟨j,rfl,hn,hb⟩
 ·cases hk
 ·have:j=k:=hk
  subst this;exact ⟨Zar hb,hn⟩
def RowsOwn {α:Type} (esz:Nat) (C:List α->List Cell) (n:Nat) (h:Za) (y:Cell) (rows:List (List α)):Prop :=
 ∃ts,Own n h y 1 ts rows.length/\∀(t:Nat) (r:List α),rows[t]? = some r->∃x:Cell,ts[t]? = some x/\Own n h x esz (C r) r.length/\∀k,Zad x k->¬Zad y k
section rows
variable {α:Type} {esz:Nat} {C:List α->List Cell} {n:Nat}
theorem RowsOwn.nil (h:Za):RowsOwn esz C n h .nils ([]:List (List α)):=⟨[],Own.nil _ _ _,fun t r hr=>by simp at hr⟩
theorem RowsOwn.keep {h h':Za} {y:Cell} {rows:List (List α)} (r:RowsOwn esz C n h y rows) (hk:Kp h.length h h'):RowsOwn esz C n h' y rows:=by
 obtain ⟨ts,h1,h2⟩:=r
 exact ⟨ts,h1.keepK hk,fun t r hr=>by obtain ⟨x,x1,x2,x3⟩:=h2 t r hr;exact ⟨x,x1,x2.keepK hk,x3⟩⟩
theorem RowsOwn.blkLt {h:Za} {y:Cell} {rows:List (List α)} (r:RowsOwn esz C n h y rows) {k:Nat} (hk:Zad y k):k<h.length/\n<=k:=by
 obtain ⟨ts,h1,_⟩:=r;exact h1.blkLt hk
theorem RowsOwn.of {h:Za} {y:Cell} {rows:List (List α)} (r:RowsOwn esz C n h y rows):RowsOf esz C h y rows:=by
 obtain ⟨ts,h1,h2⟩:=r
 exact ⟨ts,h1.at,h1.low,fun t r hr=>by obtain ⟨x,x1,x2,_⟩:=h2 t r hr;exact ⟨x,x1,x2.at,x2.low⟩⟩
theorem RowsOwn.push {h:Za} {y x:Cell} {rows:List (List α)} {r:List α} (w:RowsOwn esz C n h y rows) (hx:Own n h x esz (C r) r.length) (hd:∀k,Zad x k->¬Zad y k) (hn:n<=h.length) (hl:rows.length<=2000) :
  ∃y' h',(∀{β:Type} (f:Cell->Za->Option β),Zaq 1 24 y [x] h f=f y' h')/\RowsOwn esz C n h' y' (rows++[r])/\Kp n h h'/\∀j b,blk? h j=some b->¬Zad y j->blk? h' j=some b/\¬Zad y' j:=by
 have hm:maxBytes>=2001*24:=by unfold maxBytes;omega
 obtain ⟨ts,h1,h2⟩:=w
 obtain ⟨y',h',ha,ho,hk,hf⟩:=h1.app (bytes:=24) (xs:=[x]) hn rfl (by omega) (by omega) (by omega)
 have mv:∀{z:Cell} {cs:List Cell} {len:Nat},Own n h z esz cs len->(∀k,Zad z k->¬Zad y k)->Own n h' z esz cs len/\∀k,Zad z k->¬Zad y' k:=by
  intro z cs len oz dz
  rcases oz.2 with e | ⟨k,e,hnk,hb⟩
  ·refine ⟨⟨oz.1,.inl e⟩,fun k hk=>?_⟩
   rw [e.1] at hk;cases hk
  ·have hik:Zad z k:=by rw [e];rfl
   obtain ⟨b1,b2⟩:=hf k _ hb (dz k hik)
   refine ⟨⟨oz.1,.inr ⟨k,e,hnk,b1⟩⟩,fun j hj=>?_⟩
   rw [e] at hj
   have:k=j:=hj
   subst this;exact b2
 refine ⟨y',h',ha,⟨ts++[x],by rw [Yb,Yl];exact ho,fun t r' hr=>?_⟩,hk,hf⟩
 have hts:ts.length=rows.length:=by have:=h1.1;omega
 by_cases ht:t<rows.length
 ·rw [Yk ht] at hr
  obtain ⟨z,z1,z2,z3⟩:=h2 t r' hr
  obtain ⟨w1,w2⟩:=mv z2 z3
  exact ⟨z,by rw [Yk (by omega)];exact z1,w1,w2⟩
 ·rw [Yi (by omega)] at hr
  have h0:t - rows.length=0:=by
   rcases Nat.eq_zero_or_pos (t - rows.length) with e | e
   ·exact e
   ·rw [Yap (by simp;omega)] at hr;cases hr
  rw [h0] at hr
  obtain rfl:r=r':=by simpa using hr
  obtain ⟨w1,w2⟩:=mv hx hd
  exact ⟨x,by rw [Yi (by omega),show t - ts.length=0 by omega];rfl,w1,w2⟩
end rows
def plc:List Int->Int->Nat->Int
 | [],_,_=>-1
 | c :: t,x,i=>if c=x then i else plc t x (i+1)
def Zgg (l:List (Int × Int)) (c:Int):Int:=l.foldl (fun v p=>if p.1=c then p.2 else v) 0
def Zdd (locs:List Int) (i:Ins):Ins:=if i.loc≠0 then { i with loc:=plc locs i.loc 0 } else i
def Zdt (T:PTest):PProg:=⟨Zaz T,(Zaz T).map (Zgg T.inits),T.thr.map fun c=>c.map (Zdd (Zaz T))⟩
theorem Zyj {T:PTest} {x:Int} (h:x∈Zaz T):97<=x/\x<=122:=by
 obtain ⟨c,h1,_,rfl⟩:=Zop.1 h
 omega
section
variable {E:Env}
theorem Place_R (hE:q122_In E) {a b c:Cell} {locs:List Int} {h:Za} (ha:SlAt h a 1 (intC .u8 locs) locs.length) (hu:∀x∈locs,97<=x/\x<=122) (hl:locs.length<=100) (x:Int) :
  R E 122 [.agg [a,b,c],.c (.int .i64 x)] h=some ([.c (.int .i64 (plc locs x 0))],h):=by
 refine Zd hE.fn ?_
 have a0:∀{α:Type} (f:Cell->Option α),Zf [a,b,c] 0 f=f a:=fun _=>rfl
 have key:∀(t:List Int) (i:Nat),locs.drop i=t->(Zx (q122_F1 (R E) Zx E.glob) (q122_s1 x (i:Int) [a,b,c] h)).bind (fun p=>q122_k3 (R E) Zx E.glob h p.1 p.2)=some ([.c (.int .i64 (plc t x i))],h):=by
  intro t
  induction t with
  | nil =>
   intro i hd
   have hi:locs.length<=i:=by
    have:=congrArg Yal hd
    simp at this;omega
   have hr:q122_F1 (R E) Zx E.glob (q122_s1 x (i:Int) [a,b,c] h)=some (.exit 0,q122_x1_1 h):=by
    rw [q122_r1,a0,ha.len,if_neg (by simp;omega)]
   rw [Zl hr,bind_ok,q122_e1_1];rfl
  | cons v t ih =>
   intro i hd
   have hi:i<locs.length:=by
    have:=congrArg Yal hd
    simp at this;omega
   have hv:locs[i]? = some v:=by
    have:=congrArg (fun z=>z[0]?) hd
    simpa [Yac] using this
   have hd2:locs.drop (i+1)=t:=by
    have:=congrArg (List.drop 1) hd
    simpa [Ycd] using this
   have huv:=hu v (Yf hv)
   have hr:q122_F1 (R E) Zx E.glob (q122_s1 x (i:Int) [a,b,c] h)=if (v==x)=true then some (.ret,q122_x1_0 i h) else some (.normal,q122_s1 x ((i+1:Nat):Int) [a,b,c] h):=by
    rw [q122_r1,a0,ha.len,if_pos (by simp;omega),a0,ha.get1 hi (Zbr hv),asI_ok,Zg (by omega) (by omega),Zr (by omega)]
   rw [plc]
   by_cases hvx:v=x
   ·rw [if_pos (by rw [hvx];exact beq_self_eq_true _)] at hr
    rw [Zeb hr,bind_ok,q122_e1_0,if_pos hvx]
   ·rw [if_neg (by rw [beq_iff_eq];exact hvx)] at hr
    rw [if_neg hvx]
    have:=ih (i+1) hd2
    cases hL:Zx (q122_F1 (R E) Zx E.glob) (q122_s1 x ((i+1:Nat):Int) [a,b,c] h) with
    | none=>rw [hL] at this;cases this
    | some p=>rw [Zbk hr hL];rw [hL] at this;exact this
 rw [q122_eq]
 exact key locs 0 rfl
theorem ins_setloc {i:Ins} {v:Int}:i.cs.set 2 (.int .i64 v)=({ i with loc:=v }:Ins).cs:=rfl
theorem ins_splice {i:Ins}:splice (Ya 9 ci0) 0 i.cs=i.cs:=rfl
theorem Zfj (i:Ins):i.cs.length=1*9:=rfl
theorem Zq702 (l:List (Int × Int)) (p:Int × Int) (c:Int):Zgg (l++[p]) c=if p.1=c then p.2 else Zgg l c:=by
 unfold Zgg;rw [List.foldl_append];rfl
def ProgOwn (n:Nat) (h:Za) (cs:List Cell) (P:PProg):Prop :=
 ∃(m:Nat) (a b y:Cell),cs=[a,b,y]/\n<=m/\m<=h.length/\(SlAt h a 1 (intC .u8 P.locs) P.locs.length/\Low m a)/\(SlAt h b 1 (intC .i64 P.init) P.init.length/\Low m b)/\RowsOwn 9 Zai m h y P.thr
theorem Zui (hE:q101_In E) {cs:List Cell} {T:PTest} {h:Za} (p:TestAt h cs T) (hs:T.small) :
  ∃cs' h',R E 101 [.agg cs] h=some ([.agg cs'],h')/\ProgOwn h.length h' cs' (Zdt T)/\Kp h.length h h':=by
 obtain ⟨a,h1,hr1,ha,hk1⟩:=Zq785 hE.c121 p hs
 have hll:(Zaz T).length<=26:=Zob _ _
 have hu:=fun x (hx:x∈Zaz T)=>Zyj hx
 have p1:=p.keep hk1
 have hlen:=p.len
 obtain ⟨ta,tb,tc,hcs,⟨hta,htal⟩,htb,htc⟩:=p1
 have t1:∀{α:Type} (f:Cell->Option α),Zf cs 1 f=f ta:=fun f=>by rw [hcs];rfl
 have t2:∀{α:Type} (f:Cell->Option α),Zf cs 2 f=f tb:=fun f=>by rw [hcs];rfl
 have hat:=ha.at
 have hal:=ha.low
 have hm:maxBytes>=2000*72:=by unfold maxBytes;omega
 have pu:∀(x y z:Cell),([x,y,z]:List Cell).length=3:=fun _ _ _=>rfl
 have inner1:∀(i:Nat) (b:Cell) (h2:Za) (v:Int) (z:List Cell),(Zaz T)[i]? = some v->Kp h1.length h1 h2 ->
   Zx (q101_F1 (R E) Zx E.glob) (q101_s1 (i:Int) 0 ((0:Nat):Int) cs z [a,b,.nils] h2)=some (.exit 2,q101_x1_3 (i:Int) (Zgg T.inits v) cs z [a,b,.nils] h2):=by
  intro i b h2 v z hv hk
  have h0:(0:Int)=Zgg (T.inits.take 0) v:=rfl
  have he:Zgg T.inits v=Zgg (T.inits.take T.inits.length) v:=by rw [Yx]
  rw [he]
  rw [show q101_s1 (i:Int) 0 ((0:Nat):Int) cs z [a,b,.nils] h2=q101_s1 (i:Int) (Zgg (T.inits.take 0) v) ((0:Nat):Int) cs z [a,b,.nils] h2 from rfl]
  have huv:=hu v (Yf hv)
  refine Zao (fun k=>q101_s1 (i:Int) (Zgg (T.inits.take k) v) (k:Int) cs z [a,b,.nils] h2) 0 T.inits.length (by omega) (fun k _ hkk=>?_) (Zl ?_)
  ·have hq:T.inits[k]? = some T.inits[k]:=Yc hkk
   generalize T.inits[k]=q at hq
   have:=hs.inits
   have hta2:=hta.keep htal hk
   rw [q101_r1,t1,hta2.len,if_pos (by simp;omega),t1,hta2.get hkk (by omega) (Zkm _ _ _ hq).1,asI_ok,show ∀{α:Type} (f:Cell->Option α),Zf [a,b,Cell.nils] 0 f=f a from fun _=>rfl,(hat.keep hal hk).get1 (Zs hv) (Zbr hv),asI_ok,Zg (by omega) (by omega),Zbq hq,Zq702]
   by_cases hqv:q.1=v
   ·rw [if_pos (by rw [hqv];exact beq_self_eq_true _),if_pos hqv,t1,hta2.get hkk (by omega) (Zkm _ _ _ hq).2,asI_ok,Zr (by omega)]
   ·rw [if_neg (by rw [beq_iff_eq];exact hqv),if_neg hqv,Zr (by omega)]
  ·have hta2:=hta.keep htal hk
   rw [q101_r1,t1,hta2.len,if_neg (by simp)]
 obtain ⟨st,⟨b,h2,rfl,hb,hk2⟩,hL2⟩:=Zhp (F:=q101_F2 (R E) Zx E.glob) (fun i st=>∃b h2,st=q101_s2 (i:Int) cs [Cell.nils,Cell.nils,Cell.nils] [a,b,.nils] h2/\Own h1.length h2 b 1 (intC .i64 (((Zaz T).map (Zgg T.inits)).take i)) i/\Kp h1.length h1 h2) 0 (Zaz T).length (by omega)
  (fun i st _ hi=>by
   rintro ⟨b,h2,rfl,hb,hk⟩
   have hv:(Zaz T)[i]? = some (Zaz T)[i]:=Yc hi
   generalize (Zaz T)[i]=v at hv
   have hin:=inner1 i b h2 v [Cell.nils,Cell.nils,Cell.nils] hv hk
   rw [show ((0:Nat):Int)=0 from rfl] at hin
   obtain ⟨b2,h3,hap,hb2,hk3,_⟩:=hb.app (bytes:=8) (xs:=[.int .i64 (Zgg T.inits v)]) hk.1 rfl (by omega) (by omega) (by omega)
   refine ⟨_,?_,b2,h3,rfl,?_,hk.trans hk3⟩
   ·rw [q101_r2,show ∀{α:Type} (f:Cell->Option α),Zf [a,b,Cell.nils] 0 f=f a from fun _=>rfl,hat.len,if_pos (by simp;omega),hin,bind_ok,q101_e1_3,show ∀{α:Type} (f:Cell->Option α),Zf [a,b,Cell.nils] 1 f=f b from fun _=>rfl,if_pos (show (splice [ci0] 0 [(.int .i64 (Zgg T.inits v))]).length=1*1 from rfl),show splice [ci0] 0 [(.int .i64 (Zgg T.inits v))]=[.int .i64 (Zgg T.inits v)] from rfl,hap,if_pos (show 1<([a,b,Cell.nils]:List Cell).length by simp),Zr (by omega)]
    rfl
   ·rw [Zbq (p:=Zgg T.inits v) (by rw [Yaj,hv];rfl),intC_snoc];exact hb2) (st:=q101_s2 ((0:Nat):Int) cs [Cell.nils,Cell.nils,Cell.nils] [a,.nils,.nils] h1) ⟨.nils,h1,rfl,Own.nil _ _ _,Kp.refl _ _⟩
 have hfin2:q101_F2 (R E) Zx E.glob (q101_s2 ((Zaz T).length:Int) cs [Cell.nils,Cell.nils,Cell.nils] [a,b,.nils] h2)=some (.exit 0,q101_x2_1 cs [Cell.nils,Cell.nils,Cell.nils] [a,b,.nils] h2):=by
  rw [q101_r2,show ∀{α:Type} (f:Cell->Option α),Zf [a,b,Cell.nils] 0 f=f a from fun _=>rfl,hat.len,if_neg (by simp)]
 have hr2:=hL2 _ (Zl hfin2)
 rw [Ym (by rw [Yz];exact Yh _)] at hb
 have htb2:=htb.keep hk2
 have hat2:=hat.keep hal hk2
 have hal2:Low h2.length a:=Zbi hk2.1 hal
 have hbt:=hb.at
 have hbl:=hb.low
 have inner2:∀(t:Nat) (code:List Ins) (y:Cell) (h3:Za),T.thr[t]? = some code->Kp h2.length h2 h3 ->
   ∃x h4,Zx (q101_F3 (R E) Zx E.glob) (q101_s3 (t:Int) .nils ((0:Nat):Int) cs [Cell.nils,Cell.nils,Cell.nils] [a,b,y] h3)=some (.exit 6,q101_x3_7 (t:Int) x cs [Cell.nils,Cell.nils,Cell.nils] [a,b,y] h4)/\Own h3.length h4 x 9 (Zai (code.map (Zdd (Zaz T)))) code.length/\Kp h3.length h3 h4:=by
  intro t code y h3 ht hk3
  obtain ⟨cx,c1x,c2x,c3x⟩:=(htb2.keep hk3).get (β:=Ex × St) ht
  have hcl:=hs.code code (Yf ht)
  obtain ⟨st,⟨x,h4,rfl,hx,hk4⟩,hL⟩:=Zhp (F:=q101_F3 (R E) Zx E.glob) (fun i st=>∃x h4,st=q101_s3 (t:Int) x (i:Int) cs [Cell.nils,Cell.nils,Cell.nils] [a,b,y] h4/\Own h3.length h4 x 9 (Zai ((code.map (Zdd (Zaz T))).take i)) i/\Kp h3.length h3 h4) 0 code.length (by omega)
   (fun i st _ hi=>by
    rintro ⟨x,h4,rfl,hx,hk4⟩
    obtain ⟨cx',c1x',c2x',c3x'⟩:=((htb2.keep hk3).keep hk4).get (β:=Ex × St) ht
    have hq:code[i]? = some code[i]:=Yc hi
    generalize code[i]=q at hq
    obtain ⟨off,cs',hG,hle,hcc⟩:=c1x'.insG hq
    have hsn:(code.map (Zdd (Zaz T)))[i]? = some (Zdd (Zaz T) q):=by rw [Yaj,hq];rfl
    obtain ⟨x2,h5,hap,hx2,hk5,_⟩:=hx.app (bytes:=72) (xs:=(Zdd (Zaz T) q).cs) hk4.1 rfl (by omega) (by omega) (by omega)
    refine ⟨_,?_,x2,h5,rfl,?_,hk4.trans hk5⟩
    ·rw [q101_r3,t2,c3x',c1x'.len,if_pos (by simp;omega),t2,c3x',hG,if_pos hle,hcc,if_pos ⟨rfl,rfl,rfl⟩,ins_loc,asI_ok]
     unfold Zdd at hap
     by_cases hz:q.loc≠0
     ·have hpl:=Place_R hE.c122 (b:=b) (c:=y) ((hat2.keep hal2 hk3).keep (Zbi hk3.1 hal2) hk4) hu (by omega) q.loc
      rw [if_pos hz] at hap
      rw [if_pos (by rw [bne_iff_ne];exact hz),if_pos ⟨rfl,pu _ _ _⟩,ins_loc,asI_ok,hpl,c1_ok,asI_ok,if_pos (by rw [Ins.len];omega),ins_setloc,if_pos ⟨rfl,rfl⟩,if_pos ⟨rfl,by simp⟩,ins_splice,if_pos (Zfj _),hap,Zr (by omega)]
     ·rw [if_neg hz] at hap
      rw [if_neg (by rw [bne_iff_ne];exact hz),if_pos ⟨rfl,rfl⟩,if_pos ⟨rfl,by simp⟩,ins_splice,if_pos (Zfj _),hap,Zr (by omega)]
    ·rw [Zbq hsn,Zsh];exact hx2) (st:=q101_s3 (t:Int) .nils ((0:Nat):Int) cs [Cell.nils,Cell.nils,Cell.nils] [a,b,y] h3) ⟨.nils,h3,rfl,Own.nil _ _ _,Kp.refl _ _⟩
  have hfin:q101_F3 (R E) Zx E.glob (q101_s3 (t:Int) x (code.length:Int) cs [Cell.nils,Cell.nils,Cell.nils] [a,b,y] h4)=some (.exit 6,q101_x3_7 (t:Int) x cs [Cell.nils,Cell.nils,Cell.nils] [a,b,y] h4):=by
   obtain ⟨cx',c1x',c2x',c3x'⟩:=((htb2.keep hk3).keep hk4).get (β:=Ex × St) ht
   rw [q101_r3,t2,c3x',c1x'.len,if_neg (by simp)]
  rw [Ym (by rw [Yz];exact Yh _)] at hx
  exact ⟨x,h4,hL _ (Zl hfin),hx,hk4⟩
 have hthl:=hs.thr
 obtain ⟨st,⟨y,h3,rfl,hy,hk3⟩,hL4⟩:=Zhp (F:=q101_F4 (R E) Zx E.glob) (fun t st=>∃y h3,st=q101_s4 (t:Int) cs [Cell.nils,Cell.nils,Cell.nils] [a,b,y] h3/\RowsOwn 9 Zai h2.length h3 y ((T.thr.map fun c=>c.map (Zdd (Zaz T))).take t)/\Kp h2.length h2 h3) 0 T.thr.length (by omega)
  (fun t st _ ht=>by
   rintro ⟨y,h3,rfl,hy,hk3⟩
   have hq:T.thr[t]? = some T.thr[t]:=Yc ht
   generalize T.thr[t]=code at hq
   obtain ⟨x,h4,hin,hx,hk4⟩:=inner2 t code y h3 hq hk3
   rw [show ((0:Nat):Int)=0 from rfl] at hin
   have hsn:(T.thr.map fun c=>c.map (Zdd (Zaz T)))[t]? = some (code.map (Zdd (Zaz T))):=by rw [Yaj,hq];rfl
   have hxl:code.length=(code.map (Zdd (Zaz T))).length:=by simp
   rw [hxl] at hx
   obtain ⟨y2,h5,hap,hy2,hk5,_⟩:=(hy.keep hk4).push (hx.monoN hk3.1) (fun k h1 h2=>by have:=(hx.blkLt h1).2;have:=(hy.blkLt h2).1;omega) (Yo hk3.1 hk4.1) (by rw [Yp];omega)
   refine ⟨_,?_,y2,h5,rfl,?_,hk3.trans ((hk4.mono hk3.1).trans hk5)⟩
   ·rw [q101_r4,t2,htb2.len,if_pos (by simp;omega),hin,bind_ok,q101_e3_7,show ∀{α:Type} (f:Cell->Option α),Zf [a,b,y] 2 f=f y from fun _=>rfl,if_pos (show (splice [Cell.nils] 0 [x]).length=1*1 from rfl),show splice [Cell.nils] 0 [x]=[x] from rfl,hap,if_pos (show 2<([a,b,y]:List Cell).length by simp),Zr (by omega)]
    rfl
   ·rw [Zbq hsn];exact hy2) (st:=q101_s4 ((0:Nat):Int) cs [Cell.nils,Cell.nils,Cell.nils] [a,b,.nils] h2) ⟨.nils,h2,rfl,by rw [Yai];exact RowsOwn.nil _,Kp.refl _ _⟩
 have hfin4:q101_F4 (R E) Zx E.glob (q101_s4 (T.thr.length:Int) cs [Cell.nils,Cell.nils,Cell.nils] [a,b,y] h3)=some (.exit 4,q101_x4_5 [Cell.nils,Cell.nils,Cell.nils] [a,b,y] h3):=by
  rw [q101_r4,t2,htb2.len,if_neg (by simp)]
 have hr4:=hL4 _ (Zl hfin4)
 rw [Ym (by rw [Yz];exact Yh _)] at hy
 refine ⟨[a,b,y],h3,Zd hE.fn ?_,⟨h2.length,a,b,y,rfl,Yo hk1.1 hk2.1,hk3.1,⟨hat2.keep hal2 hk3,hal2⟩,⟨?_,hbl⟩,hy⟩,hk1.trans ((hk2.mono hk1.1).trans (hk3.mono (Yo hk1.1 hk2.1)))⟩
 ·rw [q101_eq,if_pos ⟨rfl,hlen⟩,hr1,c1_ok,asC_ok,show splice [Cell.nils,Cell.nils,Cell.nils] 0 [a]=[a,.nils,.nils] from rfl,if_pos ⟨rfl,rfl,rfl⟩,show (0:Int)=((0:Nat):Int) from rfl,hr2,bind_ok,q101_e2_1,show (0:Int)=((0:Nat):Int) from rfl,hr4,bind_ok,q101_e4_5,if_pos ⟨rfl,rfl⟩,if_pos ⟨rfl,rfl,rfl⟩,if_pos ⟨rfl,rfl⟩]
 ·have:=hbt.keep hbl hk3
  have e:(Zdt T).init.length=(Zaz T).length:=by simp [Zdt]
  rw [e];exact this
theorem ProgOwn.at {n:Nat} {h:Za} {cs:List Cell} {P:PProg} (p:ProgOwn n h cs P):ProgAt h cs P:=by
 obtain ⟨m,a,b,y,rfl,h1,h2,⟨a1,a2⟩,⟨b1,b2⟩,hy⟩:=p
 obtain ⟨ts,y1,y2,y3⟩:=hy.of
 exact ⟨a,b,y,ts,rfl,⟨a1,Zbi h2 a2⟩,⟨b1,Zbi h2 b2⟩,⟨y1,y2⟩,y3⟩
end
section
variable {E:Env}
theorem Zqo (hE:q155_In E) {x f:Cell} {l:List (Ins)} {h:Za} (hx:SlAt h x 9 (Zai l) l.length) (hl:l.length<9223372036854775807) (p:Ins->Bool)
  (hf:∀i∈l,∀{α:Type} (F:AV->Za->Option α),(fnK f fun g cs=>c1 (R E g ([.agg (i.cs)]++cs) h) F)=F (.c (.bool (p i))) h):R E 155 [.c x,.c f] h=some ([.c (.bool (l.any p))],h):=by
 have loop:∀(n i:Nat),i+n=l.length->∃r:Int,(Zx (q156_F1 (R E) Zx E.glob) (q156_s1 x f l.length (i:Int) h)).bind (fun q=>q156_k3 (R E) Zx E.glob h q.1 q.2)=some ([.c (.int .i64 r)],h)/\decide (r>=0)=(l.drop i).any p:=by
  intro n
  induction n with
  | zero =>
   intro i hi
   refine ⟨-1,?_,?_⟩
   ·have hr:q156_F1 (R E) Zx E.glob (q156_s1 x f l.length (i:Int) h)=some (.exit 0,q156_x1_1 h):=by rw [q156_r1,if_neg (by simp;omega)]
    rw [Zl hr,bind_ok,q156_e1_1]
   ·rw [Yab (by omega)];rfl
  | succ n ih =>
   intro i hi
   have hq:l[i]? = some l[i]:=Yc (by omega)
   have hdr:l.drop i=l[i] :: l.drop (i+1):=Ybb (by omega)
   generalize l[i]=q at hq hdr
   obtain ⟨off,c,g1,g2,g3⟩:=hx.insG hq
   have hp:=@hf q (Yf hq) (Ex × St)
   rw [hdr,Yay]
   cases hb:p q with
   | true =>
    refine ⟨(i:Int),?_,?_⟩
    ·have hr:q156_F1 (R E) Zx E.glob (q156_s1 x f l.length (i:Int) h)=some (.ret,q156_x1_0 (i:Int) h):=by rw [q156_r1,if_pos (by simp;omega),g1,if_pos g2,g3,hp,asB_ok,hb,if_pos rfl]
     rw [Zeb hr,bind_ok,q156_e1_0]
    ·rw [Bool.true_or];exact decide_eq_true (by omega)
   | false =>
    obtain ⟨r,h1,h2⟩:=ih (i+1) (by omega)
    refine ⟨r,?_,by rw [Bool.false_or];exact h2⟩
    cases hL:Zx (q156_F1 (R E) Zx E.glob) (q156_s1 x f l.length ((i+1:Nat):Int) h) with
    | none=>rw [hL] at h1;cases h1
    | some w =>
     have hr:q156_F1 (R E) Zx E.glob (q156_s1 x f l.length (i:Int) h)=some (.normal,q156_s1 x f l.length ((i+1:Nat):Int) h):=by rw [q156_r1,if_pos (by simp;omega),g1,if_pos g2,g3,hp,asB_ok,hb,if_neg (by simp),Zr (by omega)]
     rw [Zbk hr hL]
     rw [hL] at h1;exact h1
 obtain ⟨r,h1,h2⟩:=loop l.length 0 (by omega)
 have h3:R E 156 [.c x,.c f] h=some ([.c (.int .i64 r)],h):=by
  refine Zd hE.c156.fn ?_
  rw [q156_eq,hx.len];exact h1
 refine Zd hE.fn ?_
 rw [q155_eq,h3,c1_ok,asI_ok,h2];rfl
end
section
variable (C:Zk) (L:Zbl) (G:Glo)
variable {h0:Za}
variable {x1:Cell}
variable {a0:Int}
variable {l0:List Cell}
theorem q158_eq:q158.body C L G [(.c (.int .i64 a0))] h0=scK (decide (a0>=97)) true (some ((decide (a0<=122)),h0)) false h0 fun b h=>some ([(.c (.bool b))],h):=by kernel_rfl
theorem q159_eq:q159.body C L G [(.agg l0),(.c x1)] h0=Zf l0 0 fun q=>Zi .i64 (.c q) fun n=>if 0=0/\(Ya 9 ci0).length=9/\(splice (Ya 9 ci0) 0 [(.int .i64 n)]).length=9 then Zf l0 0 fun q=>Zi .i64 (.c q) fun n1=>if (n1==1)=true then Zf l0 2 fun q=>Zi .i64 (.c q) fun n2=>if 3+2<=l0.length then if 2<(splice (Ya 9 ci0) 0 [(.int .i64 n)]).length then if 3+2<=((splice (Ya 9 ci0) 0 [(.int .i64 n)]).set 2 (.int .i64 n2)).length/\((l0.drop 3).take 2).length=2 then Zf l0 2 fun q=>Zi .i64 (.c q) fun n3=>fnK x1 fun g l=>c1 (C g ([(.c (.int .i64 n3))]++l) h0) fun y h=>asB y fun b=>scK b true (if 3+2<=l0.length then c1 (C 163 [(.agg ((l0.drop 3).take 2))] h) fun y h=>asB y fun b=>some (b,h) else none) false h fun b h=>scK b true (if 0=0/\l0.length=9 then if 0=0/\(splice ((splice (Ya 9 ci0) 0 [(.int .i64 n)]).set 2 (.int .i64 n2)) 3 ((l0.drop 3).take 2)).length=9 then if alike l0 (Ya 9 ci0)=true/\alike (splice ((splice (Ya 9 ci0) 0 [(.int .i64 n)]).set 2 (.int .i64 n2)) 3 ((l0.drop 3).take 2)) (Ya 9 ci0)=true then some ((decide (l0=(splice ((splice (Ya 9 ci0) 0 [(.int .i64 n)]).set 2 (.int .i64 n2)) 3 ((l0.drop 3).take 2)))),h) else none else none else none) false h fun b h=>some ([(.c (.bool b))],h) else none else none else none else if (n1==2)=true then Zf l0 1 fun q=>Zi .i64 (.c q) fun n2=>Zf l0 2 fun q=>Zi .i64 (.c q) fun n3=>if 1<(splice (Ya 9 ci0) 0 [(.int .i64 n)]).length then if 2<((splice (Ya 9 ci0) 0 [(.int .i64 n)]).set 1 (.int .i64 n2)).length then Zf l0 2 fun q=>Zi .i64 (.c q) fun n4=>fnK x1 fun g l=>c1 (C g ([(.c (.int .i64 n4))]++l) h0) fun y h=>asB y fun b=>scK b true (Zf l0 1 fun q=>Zi .i64 (.c q) fun n=>c1 (C 164 [(.c (.int .i64 n))] h) fun y h=>asB y fun b=>some (b,h)) false h fun b h=>scK b true (if 0=0/\l0.length=9 then if 0=0/\(((splice (Ya 9 ci0) 0 [(.int .i64 n)]).set 1 (.int .i64 n2)).set 2 (.int .i64 n3)).length=9 then if alike l0 (Ya 9 ci0)=true/\alike (((splice (Ya 9 ci0) 0 [(.int .i64 n)]).set 1 (.int .i64 n2)).set 2 (.int .i64 n3)) (Ya 9 ci0)=true then some ((decide (l0=(((splice (Ya 9 ci0) 0 [(.int .i64 n)]).set 1 (.int .i64 n2)).set 2 (.int .i64 n3)))),h) else none else none else none) false h fun b h=>some ([(.c (.bool b))],h) else none else none else if (n1==3)=true then scK true true (if 0=0/\l0.length=9 then if 0=0/\(splice (Ya 9 ci0) 0 [(.int .i64 n)]).length=9 then if alike l0 (Ya 9 ci0)=true/\alike (splice (Ya 9 ci0) 0 [(.int .i64 n)]) (Ya 9 ci0)=true then some ((decide (l0=(splice (Ya 9 ci0) 0 [(.int .i64 n)]))),h0) else none else none else none) false h0 fun b h=>some ([(.c (.bool b))],h) else if (n1==4)=true then Zf l0 1 fun q=>Zi .i64 (.c q) fun n2=>Zf l0 2 fun q=>Zi .i64 (.c q) fun n3=>if 3+2<=l0.length then if 6+2<=l0.length then if 1<(splice (Ya 9 ci0) 0 [(.int .i64 n)]).length then if 2<((splice (Ya 9 ci0) 0 [(.int .i64 n)]).set 1 (.int .i64 n2)).length then if 3+2<=(((splice (Ya 9 ci0) 0 [(.int .i64 n)]).set 1 (.int .i64 n2)).set 2 (.int .i64 n3)).length/\((l0.drop 3).take 2).length=2 then if 6+2<=(splice (((splice (Ya 9 ci0) 0 [(.int .i64 n)]).set 1 (.int .i64 n2)).set 2 (.int .i64 n3)) 3 ((l0.drop 3).take 2)).length/\((l0.drop 6).take 2).length=2 then Zf l0 2 fun q=>Zi .i64 (.c q) fun n4=>fnK x1 fun g l=>c1 (C g ([(.c (.int .i64 n4))]++l) h0) fun y h=>asB y fun b=>scK b true (Zf l0 1 fun q=>Zi .i64 (.c q) fun n=>c1 (C 164 [(.c (.int .i64 n))] h) fun y h=>asB y fun b=>some (b,h)) false h fun b h=>scK b true (if 3+2<=l0.length then c1 (C 163 [(.agg ((l0.drop 3).take 2))] h) fun y h=>asB y fun b=>some (b,h) else none) false h fun b h=>scK b true (if 6+2<=l0.length then c1 (C 163 [(.agg ((l0.drop 6).take 2))] h) fun y h=>asB y fun b=>some (b,h) else none) false h fun b h=>scK b true (if 0=0/\l0.length=9 then if 0=0/\(splice (splice (((splice (Ya 9 ci0) 0 [(.int .i64 n)]).set 1 (.int .i64 n2)).set 2 (.int .i64 n3)) 3 ((l0.drop 3).take 2)) 6 ((l0.drop 6).take 2)).length=9 then if alike l0 (Ya 9 ci0)=true/\alike (splice (splice (((splice (Ya 9 ci0) 0 [(.int .i64 n)]).set 1 (.int .i64 n2)).set 2 (.int .i64 n3)) 3 ((l0.drop 3).take 2)) 6 ((l0.drop 6).take 2)) (Ya 9 ci0)=true then some ((decide (l0=(splice (splice (((splice (Ya 9 ci0) 0 [(.int .i64 n)]).set 1 (.int .i64 n2)).set 2 (.int .i64 n3)) 3 ((l0.drop 3).take 2)) 6 ((l0.drop 6).take 2)))),h) else none else none else none) false h fun b h=>some ([(.c (.bool b))],h) else none else none else none else none else none else none else if (n1==5)=true then Zf l0 1 fun q=>Zi .i64 (.c q) fun n2=>if 3+2<=l0.length then Zf l0 5 fun q=>Zi .i64 (.c q) fun n3=>if 6+2<=l0.length then if 1<(splice (Ya 9 ci0) 0 [(.int .i64 n)]).length then if 3+2<=((splice (Ya 9 ci0) 0 [(.int .i64 n)]).set 1 (.int .i64 n2)).length/\((l0.drop 3).take 2).length=2 then if 5<(splice ((splice (Ya 9 ci0) 0 [(.int .i64 n)]).set 1 (.int .i64 n2)) 3 ((l0.drop 3).take 2)).length then if 6+2<=((splice ((splice (Ya 9 ci0) 0 [(.int .i64 n)]).set 1 (.int .i64 n2)) 3 ((l0.drop 3).take 2)).set 5 (.int .i64 n3)).length/\((l0.drop 6).take 2).length=2 then Zf l0 1 fun q=>Zi .i64 (.c q) fun n4=>c1 (C 164 [(.c (.int .i64 n4))] h0) fun y h=>asB y fun b=>scK b true (if 3+2<=l0.length then c1 (C 163 [(.agg ((l0.drop 3).take 2))] h) fun y h=>asB y fun b=>some (b,h) else none) false h fun b h=>scK b true (if 6+2<=l0.length then c1 (C 163 [(.agg ((l0.drop 6).take 2))] h) fun y h=>asB y fun b=>some (b,h) else none) false h fun b h=>scK b true (Zf l0 5 fun q=>Zi .i64 (.c q) fun n=>some ((decide (n>=0)),h)) false h fun b h=>scK b true (Zf l0 5 fun q=>Zi .i64 (.c q) fun n=>some ((decide (n<=11)),h)) false h fun b h=>scK b true (Zf l0 5 fun q=>Zi .i64 (.c q) fun n=>scK (decide (n > 0)) false (if 6+2<=l0.length then if alike ((l0.drop 6).take 2) ([ci0,ci0])=true/\alike (splice [ci0,ci0] 0 [(.int .i64 (-1))]) ([ci0,ci0])=true then some ((decide (((l0.drop 6).take 2)=(splice [ci0,ci0] 0 [(.int .i64 (-1))]))),h) else none else none) true h fun b h=>some (b,h)) false h fun b h=>scK b true (if 0=0/\l0.length=9 then if 0=0/\(splice ((splice ((splice (Ya 9 ci0) 0 [(.int .i64 n)]).set 1 (.int .i64 n2)) 3 ((l0.drop 3).take 2)).set 5 (.int .i64 n3)) 6 ((l0.drop 6).take 2)).length=9 then if alike l0 (Ya 9 ci0)=true/\alike (splice ((splice ((splice (Ya 9 ci0) 0 [(.int .i64 n)]).set 1 (.int .i64 n2)) 3 ((l0.drop 3).take 2)).set 5 (.int .i64 n3)) 6 ((l0.drop 6).take 2)) (Ya 9 ci0)=true then some ((decide (l0=(splice ((splice ((splice (Ya 9 ci0) 0 [(.int .i64 n)]).set 1 (.int .i64 n2)) 3 ((l0.drop 3).take 2)).set 5 (.int .i64 n3)) 6 ((l0.drop 6).take 2)))),h) else none else none else none) false h fun b h=>some ([(.c (.bool b))],h) else none else none else none else none else none else none else if (n1==6)=true then Zf l0 8 fun q=>Zi .i64 (.c q) fun n1=>if 3+2<=l0.length then if 6+2<=l0.length then if 8<(splice (Ya 9 ci0) 0 [(.int .i64 n)]).length then if 3+2<=((splice (Ya 9 ci0) 0 [(.int .i64 n)]).set 8 (.int .i64 n1)).length/\((l0.drop 3).take 2).length=2 then if 6+2<=(splice ((splice (Ya 9 ci0) 0 [(.int .i64 n)]).set 8 (.int .i64 n1)) 3 ((l0.drop 3).take 2)).length/\((l0.drop 6).take 2).length=2 then Zf l0 8 fun q=>Zi .i64 (.c q) fun n2=>scK (decide (n2>=0)) true (if 3+2<=l0.length then c1 (C 163 [(.agg ((l0.drop 3).take 2))] h0) fun y h=>asB y fun b=>some (b,h) else none) false h0 fun b h=>scK b true (if 6+2<=l0.length then c1 (C 163 [(.agg ((l0.drop 6).take 2))] h) fun y h=>asB y fun b=>some (b,h) else none) false h fun b h=>scK b true (if 0=0/\l0.length=9 then if 0=0/\(splice (splice ((splice (Ya 9 ci0) 0 [(.int .i64 n)]).set 8 (.int .i64 n1)) 3 ((l0.drop 3).take 2)) 6 ((l0.drop 6).take 2)).length=9 then if alike l0 (Ya 9 ci0)=true/\alike (splice (splice ((splice (Ya 9 ci0) 0 [(.int .i64 n)]).set 8 (.int .i64 n1)) 3 ((l0.drop 3).take 2)) 6 ((l0.drop 6).take 2)) (Ya 9 ci0)=true then some ((decide (l0=(splice (splice ((splice (Ya 9 ci0) 0 [(.int .i64 n)]).set 8 (.int .i64 n1)) 3 ((l0.drop 3).take 2)) 6 ((l0.drop 6).take 2)))),h) else none else none else none) false h fun b h=>some ([(.c (.bool b))],h) else none else none else none else none else none else some ([(.c (.bool false))],h0) else none:=by kernel_rfl
theorem q163_eq:q163.body C L G [(.agg l0)] h0=Zf l0 0 fun q=>Zi .i64 (.c q) fun n=>scK (n==(-1)) false (Zf l0 0 fun q=>Zi .i64 (.c q) fun n=>c1 (C 164 [(.c (.int .i64 n))] h0) fun y h=>asB y fun b=>scK b true (Zf l0 1 fun q=>Zi .i64 (.c q) fun n=>some ((n==0),h)) false h fun b h=>some (b,h)) true h0 fun b h=>some ([(.c (.bool b))],h):=by kernel_rfl
theorem q164_eq:q164.body C L G [(.c (.int .i64 a0))] h0=scK (decide (a0>=0)) true (some ((decide (a0<4)),h0)) false h0 fun b h=>some ([(.c (.bool b))],h):=by kernel_rfl
end
def locB (n:Int):Bool:=decide (n>=97)&&decide (n<=122)
def Zvk (n:Int):Bool:=decide (n>=0)&&decide (n<4)
def opB (o:Opd):Bool:=o.reg==-1||(Zvk o.reg&&o.val==0)
def fldB (has:Int->Bool) (i:Ins):Bool :=
 if i.kind=1 then has i.loc&&opB i.a&&decide (i.cs=(⟨i.kind,0,i.loc,i.a,0,⟨0,0⟩,0⟩:Ins).cs)
 else if i.kind=2 then has i.loc&&Zvk i.reg&&decide (i.cs=(⟨i.kind,i.reg,i.loc,⟨0,0⟩,0,⟨0,0⟩,0⟩:Ins).cs)
 else if i.kind=3 then decide (i.cs=(⟨i.kind,0,0,⟨0,0⟩,0,⟨0,0⟩,0⟩:Ins).cs)
 else if i.kind=4 then has i.loc&&Zvk i.reg&&opB i.a&&opB i.b&&decide (i.cs=(⟨i.kind,i.reg,i.loc,i.a,0,i.b,0⟩:Ins).cs)
 else if i.kind=5 then Zvk i.reg&&opB i.a&&opB i.b&&decide (i.op>=0)&&decide (i.op<=11)&&(decide (i.op > 0)||decide (i.b.cs=(⟨-1,0⟩:Opd).cs))&&decide (i.cs=(⟨i.kind,i.reg,0,i.a,i.op,i.b,0⟩:Ins).cs)
 else if i.kind=6 then decide (i.n>=0)&&opB i.a&&opB i.b&&decide (i.cs=(⟨i.kind,0,0,i.a,0,i.b,i.n⟩:Ins).cs)
 else false
section
variable {E:Env}
theorem IsLoc_R (hE:q158_In E) (n:Int) (h:Za):R E 158 [.c (.int .i64 n)] h=some ([.c (.bool (locB n))],h):=by
 refine Zd hE.fn ?_
 rw [q158_eq,scK_and];rfl
theorem Zpr (hE:q164_In E) (n:Int) (h:Za):R E 164 [.c (.int .i64 n)] h=some ([.c (.bool (Zvk n))],h):=by
 refine Zd hE.fn ?_
 rw [q164_eq,scK_and];rfl
theorem Zdg (hE:q163_In E) (o:Opd) (h:Za):R E 163 [.agg o.cs] h=some ([.c (.bool (opB o))],h):=by
 refine Zd hE.fn ?_
 have a0:∀{α:Type} (f:Cell->Option α),Zf o.cs 0 f=f (.int .i64 o.reg):=fun _=>rfl
 have a1:∀{α:Type} (f:Cell->Option α),Zf o.cs 1 f=f (.int .i64 o.val):=fun _=>rfl
 rw [q163_eq]
 simp only [a0,a1,asI_ok,Zpr hE.c164,c1_ok,asB_ok,scK_and,scK_or]
 rfl
def Says (E:Env) (h:Za) (f:Cell) (has:Int->Bool):Prop:=∀(n:Int) {α:Type} (F:AV->Za->Option α),(fnK f fun g cs=>c1 (R E g ([.c (.int .i64 n)]++cs) h) F)=F (.c (.bool (has n))) h
theorem Fields_R (hE:q159_In E) (i:Ins) {f:Cell} {has:Int->Bool} {h:Za} (hf:Says E h f has):R E 159 [.agg i.cs,.c f] h=some ([.c (.bool (fldB has i))],h):=by
 refine Zd hE.fn ?_
 rw [q159_eq,ins_kind,asI_ok,if_pos ⟨rfl,rfl,rfl⟩,ins_kind,asI_ok]
 by_cases h1:i.kind=1
 ·rw [if_pos (by simpa using h1),ins_loc,asI_ok,if_pos (by exact Yd rfl),if_pos (by exact Yd rfl),if_pos (by exact ⟨Yd rfl,rfl⟩),ins_loc,asI_ok,hf,asB_ok,if_pos (by exact Yd rfl),ins_a,Zdg hE.c163,c1_ok,asB_ok,scK_and,if_pos ⟨rfl,rfl⟩,if_pos ⟨rfl,rfl⟩,if_pos ⟨rfl,rfl⟩,scK_and,fldB,if_pos h1]
  rfl
 rw [if_neg (by simpa using h1)]
 by_cases h2:i.kind=2
 ·rw [if_pos (by simpa using h2),ins_reg,asI_ok,ins_loc,asI_ok,if_pos (by exact Yd rfl),if_pos (by exact Yd rfl),ins_loc,asI_ok,hf,asB_ok,ins_reg,asI_ok,Zpr hE.c164,c1_ok,asB_ok,scK_and,if_pos ⟨rfl,rfl⟩,if_pos ⟨rfl,rfl⟩,if_pos ⟨rfl,rfl⟩,scK_and,fldB,if_neg h1,if_pos h2]
  rfl
 rw [if_neg (by simpa using h2)]
 by_cases h3:i.kind=3
 ·rw [if_pos (by simpa using h3),if_pos ⟨rfl,rfl⟩,if_pos ⟨rfl,rfl⟩,if_pos ⟨rfl,rfl⟩,scK_and,fldB,if_neg h1,if_neg h2,if_pos h3]
  rfl
 rw [if_neg (by simpa using h3)]
 by_cases h4:i.kind=4
 ·rw [if_pos (by simpa using h4),ins_reg,asI_ok,ins_loc,asI_ok,if_pos (by exact Yd rfl),if_pos (by exact Yd rfl),if_pos (by exact Yd rfl),if_pos (by exact Yd rfl),if_pos (by exact ⟨Yd rfl,rfl⟩),if_pos (by exact ⟨Yd rfl,rfl⟩),ins_loc,asI_ok,hf,asB_ok,ins_reg,asI_ok,Zpr hE.c164,c1_ok,asB_ok,scK_and,if_pos (by exact Yd rfl),ins_a,Zdg hE.c163,c1_ok,asB_ok,scK_and,if_pos (by exact Yd rfl),ins_b,Zdg hE.c163,c1_ok,asB_ok,scK_and,if_pos ⟨rfl,rfl⟩,if_pos ⟨rfl,rfl⟩,if_pos ⟨rfl,rfl⟩,scK_and,fldB,if_neg h1,if_neg h2,if_neg h3,if_pos h4]
  rfl
 rw [if_neg (by simpa using h4)]
 by_cases h5:i.kind=5
 ·rw [if_pos (by simpa using h5),ins_reg,asI_ok,if_pos (by exact Yd rfl),ins_op,asI_ok,if_pos (by exact Yd rfl),if_pos (by exact Yd rfl),if_pos (by exact ⟨Yd rfl,rfl⟩),if_pos (by exact Yd rfl),if_pos (by exact ⟨Yd rfl,rfl⟩),ins_reg,asI_ok,Zpr hE.c164,c1_ok,asB_ok,if_pos (by exact Yd rfl),ins_a,Zdg hE.c163,c1_ok,asB_ok,scK_and,if_pos (by exact Yd rfl),ins_b,Zdg hE.c163,c1_ok,asB_ok,scK_and,ins_op,asI_ok,scK_and,ins_op,asI_ok,scK_and,ins_op,asI_ok,if_pos (by exact Yd rfl),if_pos ⟨rfl,rfl⟩,scK_or,scK_and,if_pos ⟨rfl,rfl⟩,if_pos ⟨rfl,rfl⟩,if_pos ⟨rfl,rfl⟩,scK_and,fldB,if_neg h1,if_neg h2,if_neg h3,if_neg h4,if_pos h5]
  rfl
 rw [if_neg (by simpa using h5)]
 by_cases h6:i.kind=6
 ·rw [if_pos (by simpa using h6),ins_n,asI_ok,if_pos (by exact Yd rfl),if_pos (by exact Yd rfl),if_pos (by exact Yd rfl),if_pos (by exact ⟨Yd rfl,rfl⟩),if_pos (by exact ⟨Yd rfl,rfl⟩),ins_n,asI_ok,if_pos (by exact Yd rfl),ins_a,Zdg hE.c163,c1_ok,asB_ok,scK_and,if_pos (by exact Yd rfl),ins_b,Zdg hE.c163,c1_ok,asB_ok,scK_and,if_pos ⟨rfl,rfl⟩,if_pos ⟨rfl,rfl⟩,if_pos ⟨rfl,rfl⟩,scK_and,fldB,if_neg h1,if_neg h2,if_neg h3,if_neg h4,if_neg h5,if_pos h6]
  rfl
 rw [if_neg (by simpa using h6),fldB,if_neg h1,if_neg h2,if_neg h3,if_neg h4,if_neg h5,if_neg h6]
structure PTest.fits (T:PTest):Prop where
 name:T.name.size<9223372036854775807
 inits:T.inits.length<9223372036854775807
 thr:T.thr.length<9223372036854775807
 code:∀c∈T.thr,c.length<9223372036854775807
 any:T.any.length<9223372036854775807
 row:∀c∈T.any,c.length<9223372036854775807
end
section
variable (C:Zk) (L:Zbl) (G:Glo)
variable {h h0:Za}
variable {b2:Bool}
variable {x0 x5:Cell}
variable {a6 a7:Int}
def q148_k2 (h0:Za):Ex->St->Rs:=Zae (fun st=>q148_p1.exec C L G st (q148.fin G h0)) (q148.fin G h0)
def q148_k3 (h0:Za):Ex->St->Rs:=Zap 0 (q148_k2 C L G h0)
def q148_s1 (x0 x5:Cell) (a6 a7:Int) (h:Za):St:=⟨.v (.c x0) :: tops 4 (.v (.c x5) :: .v (.c (.int .i64 a6)) :: .v (.c (.int .i64 a7)) :: tops 23 []),[none],h⟩
def q148_F1 :St->Option (Ex × St):=Zo (q148_b1.exec C L G) [0,5,6,7] [] [(0,[2],[]),(1,[],[])]
def q148_x1_0 (b2:Bool) (h:Za):St:=⟨tops 2 (.v (.c (.bool b2)) :: tops 28 []),[none],h⟩
def q148_x1_1 (h:Za):St:=⟨tops 31 [],[none],h⟩
theorem q148_r1:q148_F1 C L G (q148_s1 x0 x5 a6 a7 h)=if (decide (a7<a6))=true then Zm 9 x5 a7 fun k N o=>Zn h k N fun l=>if o+9<=l.length then if 0=0/\(Ya 9 ci0).length=9/\((l.drop o).take 9).length=9 then Zf ((l.drop o).take 9) 0 fun q=>Zi .i64 (.c q) fun n=>scK (n==6) true (Zf ((l.drop o).take 9) 8 fun q=>Zi .i64 (.c q) fun n=>scK (decide (n<1)) false (Zf ((l.drop o).take 9) 8 fun q=>Zi .i64 (.c q) fun n=>Zaj x0 fun n1=>let v:Int:=(G.wrap .i64 ((G.wrap .i64 (n1 - a7)) - 1));some ((decide (n > v)),h)) true h fun b h=>some (b,h)) false h fun b h1=>if b=true then some (.ret,(q148_x1_0 false h1)) else some (.normal,(q148_s1 x0 x5 a6 (G.wrap .i64 (a7+1)) h1)) else none else none else some ((.exit 0),(q148_x1_1 h)):=by kernel_rfl
theorem q148_e1_0:(q148_k3 C L G h0) .ret (q148_x1_0 b2 h)=some ([(.c (.bool b2))],h):=by kernel_rfl
theorem q148_e1_1:(q148_k3 C L G h0) (.exit 0) (q148_x1_1 h)=some ([(.c (.bool true))],h):=by kernel_rfl
theorem q148_eq:q148.body C L G [(.c x0)] h0=Zaj x0 fun n=>(L (q148_F1 C L G) (q148_s1 x0 x0 n 0 h0)).bind fun p=>(q148_k3 C L G h0) p.1 p.2:=by kernel_rfl
end
section
variable {E:Env}
end
def jmpB (l:List Ins):Bool:=(Yu l.length).all fun k=>match l[k]? with | some i=>!(i.kind==6&&(decide (i.n<1)||decide (i.n > (l.length:Int) - k - 1))) | none=>true
def Zoe (l:List (List Ins)):Int:=((l.map Yal).sum:Nat)
section
variable {E:Env}
theorem Jumps_R (hE:q148_In E) {x:Cell} {l:List Ins} {h:Za} (hx:SlAt h x 9 (Zai l) l.length) (hl:l.length<9223372036854775807):R E 148 [.c x] h=some ([.c (.bool (jmpB l))],h):=by
 refine Zd hE.fn ?_
 have loop:∀(n i:Nat),i+n=l.length->(Zx (q148_F1 (R E) Zx E.glob) (q148_s1 x x l.length (i:Int) h)).bind (fun q=>q148_k3 (R E) Zx E.glob h q.1 q.2) =
   some ([.c (.bool ((Yu n).all fun k=>match l[i+k]? with | some q=>!(q.kind==6&&(decide (q.n<1)||decide (q.n > (l.length:Int) - ((i+k:Nat):Int) - 1))) | none=>true))],h):=by
  intro n
  induction n with
  | zero =>
   intro i hi
   have hr:q148_F1 (R E) Zx E.glob (q148_s1 x x l.length (i:Int) h)=some (.exit 0,q148_x1_1 h):=by rw [q148_r1,if_neg (by simp;omega)]
   rw [Zl hr,bind_ok,q148_e1_1];rfl
  | succ n ih =>
   intro i hi
   have hq:l[i]? = some l[i]:=Yc (by omega)
   generalize l[i]=b at hq
   obtain ⟨off,cc,g1,g2,g3⟩:=hx.insG hq
   have hg:q148_F1 (R E) Zx E.glob (q148_s1 x x l.length (i:Int) h)=if (b.kind==6&&(decide (b.n<1)||decide (b.n > (l.length:Int) - (i:Int) - 1)))=true then some (.ret,q148_x1_0 false h) else some (.normal,q148_s1 x x l.length ((i+1:Nat):Int) h):=by
    rw [q148_r1,if_pos (by simp;omega),g1,if_pos g2,g3,if_pos ⟨rfl,rfl,rfl⟩,ins_kind,asI_ok,ins_n,asI_ok,ins_n,asI_ok,hx.len]
    dsimp only
    rw [Zg (x:=(l.length:Int) - (i:Int)) (by omega) (by omega),Zg (by omega) (by omega),scK_or,scK_and,Zr (by omega)]
   rw [Yam,List.all_cons,List.all_map,Ybr,hq]
   dsimp only
   cases hb:(b.kind==6&&(decide (b.n<1)||decide (b.n > (l.length:Int) - (i:Int) - 1))) with
   | true =>
    rw [hb,if_pos rfl] at hg
    rw [Zeb hg,bind_ok,q148_e1_0];rfl
   | false =>
    rw [hb,if_neg (by simp)] at hg
    have h1:=ih (i+1) (by omega)
    rw [Bool.not_false,Yax]
    have he:((Yu n).all ((fun k=>match l[i+k]? with | some q=>!(q.kind==6&&(decide (q.n<1)||decide (q.n > (l.length:Int) - ((i+k:Nat):Int) - 1))) | none=>true) ∘ Nat.succ))=((Yu n).all fun k=>match l[i+1+k]? with | some q=>!(q.kind==6&&(decide (q.n<1)||decide (q.n > (l.length:Int) - ((i+1+k:Nat):Int) - 1))) | none=>true):=by
     congr 1
     funext k
     show (match l[i+(k+1)]? with | some q=>!(q.kind==6&&(decide (q.n<1)||decide (q.n > (l.length:Int) - ((i+(k+1):Nat):Int) - 1))) | none=>true)=_
     rw [show i+(k+1)=i+1+k by omega]
    rw [he]
    cases hL:Zx (q148_F1 (R E) Zx E.glob) (q148_s1 x x l.length ((i+1:Nat):Int) h) with
    | none=>rw [hL] at h1;cases h1
    | some w=>rw [Zbk hg hL];rw [hL] at h1;exact h1
 have:=loop l.length 0 (by omega)
 rw [q148_eq,hx.len]
 rw [show ((0:Nat):Int)=0 from rfl] at this
 rw [this]
 unfold jmpB
 simp only [Ybf]
end
section
variable {E:Env}
theorem sumT_le (l:List (List Ins)) (h:∀c∈l,c.length<=1000):(l.map Yal).sum<=1000*l.length:=by
 induction l with
 | nil=>simp
 | cons a l ih =>
  have h1:=h a (by simp)
  have h2:=ih fun c hc=>h c (by simp [hc])
  rw [List.map_cons,List.sum_cons,Yr];omega
theorem Zq745 (l:List (List Ins)) (c:List Ins):Zoe (l++[c])=Zoe l+c.length:=by
 unfold Zoe;rw [Ybz,Yca];simp
end
section
variable (C:Zk) (L:Zbl) (G:Glo)
variable {h h0:Za}
variable {b95 b108:Bool}
variable {x0 x7 x12:Cell}
variable {a1 a8 a9 a10 a11 a13 a14 a15 a17 a83:Int}
variable {s0 s1 s2:List Cell}
variable {N0 N1 k0 k1 o0 o1:Nat}
def q97_k2 (h0:Za):Ex->St->Rs:=Zae (fun st=>q97_p1.exec C L G st (q97.fin G h0)) (q97.fin G h0)
def q97_c1 (a1:Int) (x7:Cell) (a8 a9:Int) (s0 s1:List Cell) (h:Za):St:=⟨tops 1 (.v (.c (.int .i64 a1)) :: tops 2 (.loc 0 0 :: .loc 1 0 :: tops 1 (.v (.c x7) :: .v (.c (.int .i64 a8)) :: .v (.c (.int .i64 a9)) :: tops 174 []))),[some s0,some s1,none],h⟩
def q97_k3 (h0:Za):Ex->St->Rs:=Zae (fun st=>q97_p2.exec C L G st (q97.fin G h0)) (q97.fin G h0)
def q97_k4 (h0:Za):Ex->St->Rs:=Zap 0 (q97_k3 C L G h0)
def q97_s2 (a1:Int) (x7:Cell) (a8 a9:Int) (a10 a11:Int) (s0 s1:List Cell) (h:Za):St:=⟨tops 1 (.v (.c (.int .i64 a1)) :: tops 2 (.loc 0 0 :: .loc 1 0 :: tops 1 (.v (.c x7) :: .v (.c (.int .i64 a8)) :: .v (.c (.int .i64 a9)) :: .v (.c (.int .i64 a10)) :: .v (.c (.int .i64 a11)) :: tops 172 []))),[some s0,some s1,none],h⟩
def q97_F2 :St->Option (Ex × St):=Zo (q97_b2.exec C L G) [1,4,5,7,8,9,10,11] [0,1] [(1,[4,5,7],[0,1])]
def q97_k5 :Ex->St->Option (Ex × St):=Zae (fun st=>q97_p3.exec C L G st (Zaf [1,4,5,7,8,9,10,11] [0,1] [(1,[4,5,7],[0,1])])) (Zaf [1,4,5,7,8,9,10,11] [0,1] [(1,[4,5,7],[0,1])])
def q97_k6 :Ex->St->Option (Ex × St):=Zap 1 (q97_k5 C L G)
def q97_k7 :Ex->St->Option (Ex × St):=Zae (fun st=>q97_p4.exec C L G st (q97_k6 C L G)) (q97_k6 C L G)
def q97_k8 :Ex->St->Option (Ex × St):=Zap 2 (q97_k7 C L G)
def q97_s1 (a1:Int) (x7:Cell) (a8 a9:Int) (a10 a11:Int) (x12:Cell) (a13:Int) (s0 s1:List Cell) (h:Za):St:=⟨tops 1 (.v (.c (.int .i64 a1)) :: tops 2 (.loc 0 0 :: .loc 1 0 :: tops 1 (.v (.c x7) :: .v (.c (.int .i64 a8)) :: .v (.c (.int .i64 a9)) :: .v (.c (.int .i64 a10)) :: .v (.c (.int .i64 a11)) :: .v (.c x12) :: .v (.c (.int .i64 a13)) :: tops 170 []))),[some s0,some s1,none],h⟩
def q97_F1 :St->Option (Ex × St):=Zo (q97_b1.exec C L G) [1,4,5,7,8,9,10,11,12,13] [0,1] [(3,[1,4,5,7,8,9,10,11,12],[0,1])]
def q97_k9 :Ex->St->Option (Ex × St):=Zae (fun st=>q97_p5.exec C L G st (Zaf [1,4,5,7,8,9,10,11,12,13] [0,1] [(3,[1,4,5,7,8,9,10,11,12],[0,1])])) (Zaf [1,4,5,7,8,9,10,11,12,13] [0,1] [(3,[1,4,5,7,8,9,10,11,12],[0,1])])
def q97_k10 :Ex->St->Option (Ex × St):=Zap 3 (q97_k9 C L G)
def q97_k11 :Ex->St->Option (Ex × St):=Zae (fun st=>q97_p6.exec C L G st (q97_k10 C L G)) (q97_k10 C L G)
def q97_c2 (a1:Int) (x7:Cell) (a8 a9:Int) (a10 a11:Int) (x12:Cell) (a13 a14 a15:Int) (s0 s1 s2:List Cell) (h:Za):St:=⟨tops 1 (.v (.c (.int .i64 a1)) :: tops 2 (.loc 0 0 :: .loc 1 0 :: tops 1 (.v (.c x7) :: .v (.c (.int .i64 a8)) :: .v (.c (.int .i64 a9)) :: .v (.c (.int .i64 a10)) :: .v (.c (.int .i64 a11)) :: .v (.c x12) :: .v (.c (.int .i64 a13)) :: .v (.c (.int .i64 a14)) :: .v (.c (.int .i64 a15)) :: .loc 2 0 :: tops 167 []))),[some s0,some s1,some s2],h⟩
def q97_k12 :Ex->St->Option (Ex × St):=Zap 4 (q97_k10 C L G)
def q97_k13 :Ex->St->Option (Ex × St):=Zae (fun st=>q97_p7.exec C L G st (q97_k12 C L G)) (q97_k12 C L G)
def q97_c3 (a1:Int) (x7:Cell) (a8 a9:Int) (a10 a11:Int) (x12:Cell) (a13 a15:Int) (a17 a83:Int) (b95:Bool) (s0 s1 s2:List Cell) (h:Za):St:=⟨tops 1 (.v (.c (.int .i64 a1)) :: tops 2 (.loc 0 0 :: .loc 1 0 :: tops 1 (.v (.c x7) :: .v (.c (.int .i64 a8)) :: .v (.c (.int .i64 a9)) :: .v (.c (.int .i64 a10)) :: .v (.c (.int .i64 a11)) :: .v (.c x12) :: .v (.c (.int .i64 a13)) :: tops 1 (.v (.c (.int .i64 a15)) :: .loc 2 0 :: .v (.c (.int .i64 a17)) :: tops 65 (.v (.c (.int .i64 a83)) :: tops 11 (.v (.c (.bool b95)) :: tops 88 [])))))),[some s0,some s1,some s2],h⟩
def q97_k14 :Ex->St->Option (Ex × St):=Zae (fun st=>q97_p8.exec C L G st (q97_k12 C L G)) (q97_k12 C L G)
def q97_c4 (a1:Int) (x7:Cell) (a8 a9:Int) (a10 a11:Int) (x12:Cell) (a13 a15:Int) (a17 a83:Int) (b108:Bool) (s0 s1 s2:List Cell) (h:Za):St:=⟨tops 1 (.v (.c (.int .i64 a1)) :: tops 2 (.loc 0 0 :: .loc 1 0 :: tops 1 (.v (.c x7) :: .v (.c (.int .i64 a8)) :: .v (.c (.int .i64 a9)) :: .v (.c (.int .i64 a10)) :: .v (.c (.int .i64 a11)) :: .v (.c x12) :: .v (.c (.int .i64 a13)) :: tops 1 (.v (.c (.int .i64 a15)) :: .loc 2 0 :: .v (.c (.int .i64 a17)) :: tops 65 (.v (.c (.int .i64 a83)) :: tops 24 (.v (.c (.bool b108)) :: tops 75 [])))))),[some s0,some s1,some s2],h⟩
def q97_x1_3 (a1:Int) (x7:Cell) (a8 a9:Int) (a10 a11:Int) (x12:Cell) (s0 s1:List Cell) (h:Za):St:=⟨tops 1 (.v (.c (.int .i64 a1)) :: tops 2 (.loc 0 0 :: .loc 1 0 :: tops 1 (.v (.c x7) :: .v (.c (.int .i64 a8)) :: .v (.c (.int .i64 a9)) :: .v (.c (.int .i64 a10)) :: .v (.c (.int .i64 a11)) :: .v (.c x12) :: tops 171 []))),[some s0,some s1,none],h⟩
def q97_x2_1 (x7:Cell) (s0 s1:List Cell) (h:Za):St:=⟨tops 4 (.loc 0 0 :: .loc 1 0 :: tops 1 (.v (.c x7) :: tops 176 [])),[some s0,some s1,none],h⟩
theorem q97_ec4_n:(q97_k14 C L G) .normal (q97_c4 a1 x7 a8 a9 a10 a11 x12 a13 a15 a17 a83 b108 s0 s1 s2 h)=if b108=true then if (splice (splice (splice (Ya 9 ci0) 0 [(.int .i64 2)]) 1 [(.int .i64 a17)]) 2 [(.int .i64 a15)]).length=9/\0+9<=(Ya 9 ci0).length then if (splice (Ya 9 ci0) 0 (splice (splice (splice (Ya 9 ci0) 0 [(.int .i64 2)]) 1 [(.int .i64 a17)]) 2 [(.int .i64 a15)])).length=1*9 then Zaq 9 72 x12 (splice (Ya 9 ci0) 0 (splice (splice (splice (Ya 9 ci0) 0 [(.int .i64 2)]) 1 [(.int .i64 a17)]) 2 [(.int .i64 a15)])) h fun x h1=>some (.normal,(q97_s1 a1 x7 a8 a9 (G.wrap .i64 (a10+1)) a11 x (G.wrap .i64 (a13 - 1)) s0 s1 h1)) else none else none else if (a83==8)=true then if (splice (Ya 9 ci0) 0 [(.int .i64 3)]).length=9/\0+9<=(Ya 9 ci0).length then if (splice (Ya 9 ci0) 0 (splice (Ya 9 ci0) 0 [(.int .i64 3)])).length=1*9 then Zaq 9 72 x12 (splice (Ya 9 ci0) 0 (splice (Ya 9 ci0) 0 [(.int .i64 3)])) h fun x h1=>some (.normal,(q97_s1 a1 x7 a8 a9 a10 a11 x (G.wrap .i64 (a13 - 1)) s0 s1 h1)) else none else none else if (a83==9)=true then if 0=0/\s2.length=2 then if s2.length=2/\3+2<=(splice (splice (splice (Ya 9 ci0) 0 [(.int .i64 4)]) 1 [(.int .i64 a17)]) 2 [(.int .i64 a15)]).length then if (splice (splice [ci0,ci0] 0 [(.int .i64 (-1))]) 1 [(.int .i64 1)]).length=2/\6+2<=(splice (splice (splice (splice (Ya 9 ci0) 0 [(.int .i64 4)]) 1 [(.int .i64 a17)]) 2 [(.int .i64 a15)]) 3 s2).length then if (splice (splice (splice (splice (splice (Ya 9 ci0) 0 [(.int .i64 4)]) 1 [(.int .i64 a17)]) 2 [(.int .i64 a15)]) 3 s2) 6 (splice (splice [ci0,ci0] 0 [(.int .i64 (-1))]) 1 [(.int .i64 1)])).length=9/\0+9<=(Ya 9 ci0).length then if (splice (Ya 9 ci0) 0 (splice (splice (splice (splice (splice (Ya 9 ci0) 0 [(.int .i64 4)]) 1 [(.int .i64 a17)]) 2 [(.int .i64 a15)]) 3 s2) 6 (splice (splice [ci0,ci0] 0 [(.int .i64 (-1))]) 1 [(.int .i64 1)]))).length=1*9 then Zaq 9 72 x12 (splice (Ya 9 ci0) 0 (splice (splice (splice (splice (splice (Ya 9 ci0) 0 [(.int .i64 4)]) 1 [(.int .i64 a17)]) 2 [(.int .i64 a15)]) 3 s2) 6 (splice (splice [ci0,ci0] 0 [(.int .i64 (-1))]) 1 [(.int .i64 1)]))) h fun x h1=>some (.normal,(q97_s1 a1 x7 a8 a9 (G.wrap .i64 (a10+1)) a11 x (G.wrap .i64 (a13 - 1)) s0 s1 h1)) else none else none else none else none else none else if (a83==10)=true then if 0=0/\s2.length=2 then if s2.length=2/\3+2<=(splice (splice (Ya 9 ci0) 0 [(.int .i64 5)]) 1 [(.int .i64 a17)]).length then if ([(.int .i64 6)]:List Cell).length=1/\5+1<=(splice (splice (splice (Ya 9 ci0) 0 [(.int .i64 5)]) 1 [(.int .i64 a17)]) 3 s2).length then if (splice (splice [ci0,ci0] 0 [(.int .i64 (-1))]) 1 [(.int .i64 1)]).length=2/\6+2<=(splice (splice (splice (splice (Ya 9 ci0) 0 [(.int .i64 5)]) 1 [(.int .i64 a17)]) 3 s2) 5 [(.int .i64 6)]).length then if (splice (splice (splice (splice (splice (Ya 9 ci0) 0 [(.int .i64 5)]) 1 [(.int .i64 a17)]) 3 s2) 5 [(.int .i64 6)]) 6 (splice (splice [ci0,ci0] 0 [(.int .i64 (-1))]) 1 [(.int .i64 1)])).length=9/\0+9<=(Ya 9 ci0).length then if (splice (Ya 9 ci0) 0 (splice (splice (splice (splice (splice (Ya 9 ci0) 0 [(.int .i64 5)]) 1 [(.int .i64 a17)]) 3 s2) 5 [(.int .i64 6)]) 6 (splice (splice [ci0,ci0] 0 [(.int .i64 (-1))]) 1 [(.int .i64 1)]))).length=1*9 then Zaq 9 72 x12 (splice (Ya 9 ci0) 0 (splice (splice (splice (splice (splice (Ya 9 ci0) 0 [(.int .i64 5)]) 1 [(.int .i64 a17)]) 3 s2) 5 [(.int .i64 6)]) 6 (splice (splice [ci0,ci0] 0 [(.int .i64 (-1))]) 1 [(.int .i64 1)]))) h fun x h1=>some (.normal,(q97_s1 a1 x7 a8 a9 a10 a11 x (G.wrap .i64 (a13 - 1)) s0 s1 h1)) else none else none else none else none else none else none else if 0=0/\s2.length=2 then if s2.length=2/\3+2<=(splice (Ya 9 ci0) 0 [(.int .i64 6)]).length then if (splice [ci0,ci0] 0 [(.int .i64 (-1))]).length=2/\6+2<=(splice (splice (Ya 9 ci0) 0 [(.int .i64 6)]) 3 s2).length then if ([(.int .i64 1)]:List Cell).length=1/\8+1<=(splice (splice (splice (Ya 9 ci0) 0 [(.int .i64 6)]) 3 s2) 6 (splice [ci0,ci0] 0 [(.int .i64 (-1))])).length then if (splice (splice [ci0,ci0] 0 [(.int .i64 (-1))]) 1 [(.int .i64 2)]).length=2/\3+2<=(splice (splice (Ya 9 ci0) 0 [(.int .i64 1)]) 2 [(.int .i64 a15)]).length then if (splice (splice (splice (splice (Ya 9 ci0) 0 [(.int .i64 6)]) 3 s2) 6 (splice [ci0,ci0] 0 [(.int .i64 (-1))])) 8 [(.int .i64 1)]).length=9/\0+9<=(Ya 18 ci0).length then if (splice (splice (splice (Ya 9 ci0) 0 [(.int .i64 1)]) 2 [(.int .i64 a15)]) 3 (splice (splice [ci0,ci0] 0 [(.int .i64 (-1))]) 1 [(.int .i64 2)])).length=9/\9+9<=(splice (Ya 18 ci0) 0 (splice (splice (splice (splice (Ya 9 ci0) 0 [(.int .i64 6)]) 3 s2) 6 (splice [ci0,ci0] 0 [(.int .i64 (-1))])) 8 [(.int .i64 1)])).length then if (splice (splice (Ya 18 ci0) 0 (splice (splice (splice (splice (Ya 9 ci0) 0 [(.int .i64 6)]) 3 s2) 6 (splice [ci0,ci0] 0 [(.int .i64 (-1))])) 8 [(.int .i64 1)])) 9 (splice (splice (splice (Ya 9 ci0) 0 [(.int .i64 1)]) 2 [(.int .i64 a15)]) 3 (splice (splice [ci0,ci0] 0 [(.int .i64 (-1))]) 1 [(.int .i64 2)]))).length=2*9 then Zaq 9 72 x12 (splice (splice (Ya 18 ci0) 0 (splice (splice (splice (splice (Ya 9 ci0) 0 [(.int .i64 6)]) 3 s2) 6 (splice [ci0,ci0] 0 [(.int .i64 (-1))])) 8 [(.int .i64 1)])) 9 (splice (splice (splice (Ya 9 ci0) 0 [(.int .i64 1)]) 2 [(.int .i64 a15)]) 3 (splice (splice [ci0,ci0] 0 [(.int .i64 (-1))]) 1 [(.int .i64 2)]))) h fun x h=>some (.normal,(q97_s1 a1 x7 a8 a9 (G.wrap .i64 (a10+1)) a11 x (G.wrap .i64 (a13 - 1)) s0 s1 h)) else none else none else none else none else none else none else none else none:=by kernel_rfl
theorem q97_ec3_n:(q97_k13 C L G) .normal (q97_c3 a1 x7 a8 a9 a10 a11 x12 a13 a15 a17 a83 b95 s0 s1 s2 h)=if b95=true then if 0=0/\s2.length=2 then if s2.length=2/\3+2<=(splice (splice (Ya 9 ci0) 0 [(.int .i64 1)]) 2 [(.int .i64 a15)]).length then if (splice (splice (splice (Ya 9 ci0) 0 [(.int .i64 1)]) 2 [(.int .i64 a15)]) 3 s2).length=9/\0+9<=(Ya 9 ci0).length then if (splice (Ya 9 ci0) 0 (splice (splice (splice (Ya 9 ci0) 0 [(.int .i64 1)]) 2 [(.int .i64 a15)]) 3 s2)).length=1*9 then Zaq 9 72 x12 (splice (Ya 9 ci0) 0 (splice (splice (splice (Ya 9 ci0) 0 [(.int .i64 1)]) 2 [(.int .i64 a15)]) 3 s2)) h fun x h1=>some (.normal,(q97_s1 a1 x7 a8 a9 (G.wrap .i64 (a10+1)) a11 x (G.wrap .i64 (a13 - 1)) s0 s1 h1)) else none else none else none else none else (if (a83==4)=true then some (.normal,(q97_c4 a1 x7 a8 a9 a10 a11 x12 a13 a15 a17 a83 (a83==4) s0 s1 s2 h)) else if (a83==5)=true then some (.normal,(q97_c4 a1 x7 a8 a9 a10 a11 x12 a13 a15 a17 a83 (a83==5) s0 s1 s2 h)) else if (a83==6)=true then some (.normal,(q97_c4 a1 x7 a8 a9 a10 a11 x12 a13 a15 a17 a83 (a83==6) s0 s1 s2 h)) else some (.normal,(q97_c4 a1 x7 a8 a9 a10 a11 x12 a13 a15 a17 a83 (a83==7) s0 s1 s2 h)):Option (Ex × St)).bind fun p=>(q97_k14 C L G) p.1 p.2:=by kernel_rfl
theorem q97_ec2_n:(q97_k11 C L G) .normal (q97_c2 a1 x7 a8 a9 a10 a11 x12 a13 a14 a15 s0 s1 s2 h)=(if ((G.rem .i64 a14 12)==0)=true then some (.normal,(q97_c3 a1 x7 a8 a9 a10 a11 x12 a13 a15 (G.band .i64 (G.shr .i64 a14 11) 1) (G.rem .i64 a14 12) ((G.rem .i64 a14 12)==0) s0 s1 s2 h)) else if ((G.rem .i64 a14 12)==1)=true then some (.normal,(q97_c3 a1 x7 a8 a9 a10 a11 x12 a13 a15 (G.band .i64 (G.shr .i64 a14 11) 1) (G.rem .i64 a14 12) ((G.rem .i64 a14 12)==1) s0 s1 s2 h)) else if ((G.rem .i64 a14 12)==2)=true then some (.normal,(q97_c3 a1 x7 a8 a9 a10 a11 x12 a13 a15 (G.band .i64 (G.shr .i64 a14 11) 1) (G.rem .i64 a14 12) ((G.rem .i64 a14 12)==2) s0 s1 s2 h)) else some (.normal,(q97_c3 a1 x7 a8 a9 a10 a11 x12 a13 a15 (G.band .i64 (G.shr .i64 a14 11) 1) (G.rem .i64 a14 12) ((G.rem .i64 a14 12)==3) s0 s1 s2 h)):Option (Ex × St)).bind fun p=>(q97_k13 C L G) p.1 p.2:=by kernel_rfl
theorem q97_r1:q97_F1 C L G (q97_s1 a1 x7 a8 a9 a10 a11 x12 a13 s0 s1 h)=scK (decide (a13 > 0)) true (some ((decide (a10<a1)),h)) false h fun b h=>if b=true then fnK x7 fun g l=>c1 (C g ([]++l) h) fun y h1=>Zi .i64 y fun n=>if a9=0 then none else let v:Int:=(G.wrap .i64 (120+(G.rem .i64 (G.shr .i64 n 4) a9)));if 0=0/\[ci0,ci0].length=2/\(splice (splice [ci0,ci0] 0 [(.int .i64 (-1))]) 1 [(.int .i64 (G.rem .i64 (G.shr .i64 n 6) 3))]).length=2 then (if ((G.rem .i64 (G.shr .i64 n 8) 3)==0)=true then if 0=0/\(splice (splice [ci0,ci0] 0 [(.int .i64 (-1))]) 1 [(.int .i64 (G.rem .i64 (G.shr .i64 n 6) 3))]).length=2/\(splice [ci0,ci0] 0 [(.int .i64 (G.band .i64 (G.shr .i64 n 10) 1))]).length=2 then some (.normal,(q97_c2 a1 x7 a8 a9 a10 a11 x12 a13 n v s0 s1 (splice [ci0,ci0] 0 [(.int .i64 (G.band .i64 (G.shr .i64 n 10) 1))]) h1)) else none else some (.normal,(q97_c2 a1 x7 a8 a9 a10 a11 x12 a13 n v s0 s1 (splice (splice [ci0,ci0] 0 [(.int .i64 (-1))]) 1 [(.int .i64 (G.rem .i64 (G.shr .i64 n 6) 3))]) h1)):Option (Ex × St)).bind fun p=>(q97_k11 C L G) p.1 p.2 else none else some ((.exit 2),(q97_x1_3 a1 x7 a8 a9 a10 a11 x12 s0 s1 h)):=by kernel_rfl
theorem q97_e1_3:(q97_k8 C L G) (.exit 2) (q97_x1_3 a1 x7 a8 a9 a10 a11 x12 s0 s1 h)=Zf s1 2 fun q=>if (splice [Cell.nils] 0 [x12]).length=1*1 then Zaq 1 24 q (splice [Cell.nils] 0 [x12]) h fun x h=>if 2<s1.length then some (.normal,(q97_s2 a1 x7 a8 a9 a10 (G.wrap .i64 (a11+1)) s0 (s1.set 2 x) h)) else none else none:=by kernel_rfl
theorem q97_r2:q97_F2 C L G (q97_s2 a1 x7 a8 a9 a10 a11 s0 s1 h)=if (decide (a11<a8))=true then fnK x7 fun g l=>c1 (C g ([]++l) h) fun y h1=>Zi .i64 y fun n=>(L (q97_F1 C L G) (q97_s1 a1 x7 a8 a9 a10 a11 .nils (G.wrap .i64 ((G.rem .i64 n 3)+1)) s0 s1 h1)).bind fun p=>(q97_k8 C L G) p.1 p.2 else some ((.exit 0),(q97_x2_1 x7 s0 s1 h)):=by kernel_rfl
theorem q97_e2_1:(q97_k4 C L G h0) (.exit 0) (q97_x2_1 x7 s0 s1 h)=fnK x7 fun g l=>c1 (C g ([]++l) h) fun y h=>Zi .i64 y fun n=>if ((G.rem .i64 n 3)==0)=true then let v:Int:=(G.wrap .i64 ((G.rem .i64 (G.quo .i64 n 3) 2)+1));if (splice (splice (splice [ci0,ci0,ci0,ci0] 0 [(.int .i64 0)]) 1 [(.int .i64 (G.band .i64 (G.shr .i64 n 3) 1))]) 3 [(.int .i64 (G.band .i64 (G.shr .i64 n 4) 1))]).length=4/\0+4<=[ci0,ci0,ci0,ci0].length then if (splice [ci0,ci0,ci0,ci0] 0 (splice (splice (splice [ci0,ci0,ci0,ci0] 0 [(.int .i64 0)]) 1 [(.int .i64 (G.band .i64 (G.shr .i64 n 3) 1))]) 3 [(.int .i64 (G.band .i64 (G.shr .i64 n 4) 1))])).length=1*4 then if (splice (splice (splice [ci0,ci0,ci0,ci0] 0 [(.int .i64 (-1))]) 2 [(.int .i64 120)]) 3 [(.int .i64 (G.rem .i64 (G.shr .i64 n 5) 3))]).length=4/\0+4<=(Ya 8 ci0).length then if (splice (splice (splice [ci0,ci0,ci0,ci0] 0 [(.int .i64 1)]) 1 [(.int .i64 0)]) 3 [(.int .i64 (G.band .i64 (G.shr .i64 n 7) 1))]).length=4/\4+4<=(splice (Ya 8 ci0) 0 (splice (splice (splice [ci0,ci0,ci0,ci0] 0 [(.int .i64 (-1))]) 2 [(.int .i64 120)]) 3 [(.int .i64 (G.rem .i64 (G.shr .i64 n 5) 3))])).length then if (splice (splice (Ya 8 ci0) 0 (splice (splice (splice [ci0,ci0,ci0,ci0] 0 [(.int .i64 (-1))]) 2 [(.int .i64 120)]) 3 [(.int .i64 (G.rem .i64 (G.shr .i64 n 5) 3))])) 4 (splice (splice (splice [ci0,ci0,ci0,ci0] 0 [(.int .i64 1)]) 1 [(.int .i64 0)]) 3 [(.int .i64 (G.band .i64 (G.shr .i64 n 7) 1))])).length=2*4 then if (splice (splice [Cell.nils,Cell.nils] 0 ([(.sl h.length ((splice [ci0,ci0,ci0,ci0] 0 (splice (splice (splice [ci0,ci0,ci0,ci0] 0 [(.int .i64 0)]) 1 [(.int .i64 (G.band .i64 (G.shr .i64 n 3) 1))]) 3 [(.int .i64 (G.band .i64 (G.shr .i64 n 4) 1))])).length) 0 1)]:List Cell)) 1 ([(.sl ((h++[some (Blk.mk true 4 (splice [ci0,ci0,ci0,ci0] 0 (splice (splice (splice [ci0,ci0,ci0,ci0] 0 [(.int .i64 0)]) 1 [(.int .i64 (G.band .i64 (G.shr .i64 n 3) 1))]) 3 [(.int .i64 (G.band .i64 (G.shr .i64 n 4) 1))])))]).length) ((splice (splice (Ya 8 ci0) 0 (splice (splice (splice [ci0,ci0,ci0,ci0] 0 [(.int .i64 (-1))]) 2 [(.int .i64 120)]) 3 [(.int .i64 (G.rem .i64 (G.shr .i64 n 5) 3))])) 4 (splice (splice (splice [ci0,ci0,ci0,ci0] 0 [(.int .i64 1)]) 1 [(.int .i64 0)]) 3 [(.int .i64 (G.band .i64 (G.shr .i64 n 7) 1))])).length) 0 2)]:List Cell)).length=2*1 then if 3+2<=s1.length/\(splice (splice [ci0,Cell.nils] 0 [(.int .i64 v)]) 1 ([(.sl (((h++[some (Blk.mk true 4 (splice [ci0,ci0,ci0,ci0] 0 (splice (splice (splice [ci0,ci0,ci0,ci0] 0 [(.int .i64 0)]) 1 [(.int .i64 (G.band .i64 (G.shr .i64 n 3) 1))]) 3 [(.int .i64 (G.band .i64 (G.shr .i64 n 4) 1))])))])++[some (Blk.mk true 4 (splice (splice (Ya 8 ci0) 0 (splice (splice (splice [ci0,ci0,ci0,ci0] 0 [(.int .i64 (-1))]) 2 [(.int .i64 120)]) 3 [(.int .i64 (G.rem .i64 (G.shr .i64 n 5) 3))])) 4 (splice (splice (splice [ci0,ci0,ci0,ci0] 0 [(.int .i64 1)]) 1 [(.int .i64 0)]) 3 [(.int .i64 (G.band .i64 (G.shr .i64 n 7) 1))])))]).length) ((splice (splice [Cell.nils,Cell.nils] 0 ([(.sl h.length ((splice [ci0,ci0,ci0,ci0] 0 (splice (splice (splice [ci0,ci0,ci0,ci0] 0 [(.int .i64 0)]) 1 [(.int .i64 (G.band .i64 (G.shr .i64 n 3) 1))]) 3 [(.int .i64 (G.band .i64 (G.shr .i64 n 4) 1))])).length) 0 1)]:List Cell)) 1 ([(.sl ((h++[some (Blk.mk true 4 (splice [ci0,ci0,ci0,ci0] 0 (splice (splice (splice [ci0,ci0,ci0,ci0] 0 [(.int .i64 0)]) 1 [(.int .i64 (G.band .i64 (G.shr .i64 n 3) 1))]) 3 [(.int .i64 (G.band .i64 (G.shr .i64 n 4) 1))])))]).length) ((splice (splice (Ya 8 ci0) 0 (splice (splice (splice [ci0,ci0,ci0,ci0] 0 [(.int .i64 (-1))]) 2 [(.int .i64 120)]) 3 [(.int .i64 (G.rem .i64 (G.shr .i64 n 5) 3))])) 4 (splice (splice (splice [ci0,ci0,ci0,ci0] 0 [(.int .i64 1)]) 1 [(.int .i64 0)]) 3 [(.int .i64 (G.band .i64 (G.shr .i64 n 7) 1))])).length) 0 2)]:List Cell)).length) 0 2)]:List Cell)).length=2 then if 0=0/\(splice s1 3 (splice (splice [ci0,Cell.nils] 0 [(.int .i64 v)]) 1 ([(.sl (((h++[some (Blk.mk true 4 (splice [ci0,ci0,ci0,ci0] 0 (splice (splice (splice [ci0,ci0,ci0,ci0] 0 [(.int .i64 0)]) 1 [(.int .i64 (G.band .i64 (G.shr .i64 n 3) 1))]) 3 [(.int .i64 (G.band .i64 (G.shr .i64 n 4) 1))])))])++[some (Blk.mk true 4 (splice (splice (Ya 8 ci0) 0 (splice (splice (splice [ci0,ci0,ci0,ci0] 0 [(.int .i64 (-1))]) 2 [(.int .i64 120)]) 3 [(.int .i64 (G.rem .i64 (G.shr .i64 n 5) 3))])) 4 (splice (splice (splice [ci0,ci0,ci0,ci0] 0 [(.int .i64 1)]) 1 [(.int .i64 0)]) 3 [(.int .i64 (G.band .i64 (G.shr .i64 n 7) 1))])))]).length) ((splice (splice [Cell.nils,Cell.nils] 0 ([(.sl h.length ((splice [ci0,ci0,ci0,ci0] 0 (splice (splice (splice [ci0,ci0,ci0,ci0] 0 [(.int .i64 0)]) 1 [(.int .i64 (G.band .i64 (G.shr .i64 n 3) 1))]) 3 [(.int .i64 (G.band .i64 (G.shr .i64 n 4) 1))])).length) 0 1)]:List Cell)) 1 ([(.sl ((h++[some (Blk.mk true 4 (splice [ci0,ci0,ci0,ci0] 0 (splice (splice (splice [ci0,ci0,ci0,ci0] 0 [(.int .i64 0)]) 1 [(.int .i64 (G.band .i64 (G.shr .i64 n 3) 1))]) 3 [(.int .i64 (G.band .i64 (G.shr .i64 n 4) 1))])))]).length) ((splice (splice (Ya 8 ci0) 0 (splice (splice (splice [ci0,ci0,ci0,ci0] 0 [(.int .i64 (-1))]) 2 [(.int .i64 120)]) 3 [(.int .i64 (G.rem .i64 (G.shr .i64 n 5) 3))])) 4 (splice (splice (splice [ci0,ci0,ci0,ci0] 0 [(.int .i64 1)]) 1 [(.int .i64 0)]) 3 [(.int .i64 (G.band .i64 (G.shr .i64 n 7) 1))])).length) 0 2)]:List Cell)).length) 0 2)]:List Cell))).length=5 then if 0=0/\s0.length=5/\(splice s1 3 (splice (splice [ci0,Cell.nils] 0 [(.int .i64 v)]) 1 ([(.sl (((h++[some (Blk.mk true 4 (splice [ci0,ci0,ci0,ci0] 0 (splice (splice (splice [ci0,ci0,ci0,ci0] 0 [(.int .i64 0)]) 1 [(.int .i64 (G.band .i64 (G.shr .i64 n 3) 1))]) 3 [(.int .i64 (G.band .i64 (G.shr .i64 n 4) 1))])))])++[some (Blk.mk true 4 (splice (splice (Ya 8 ci0) 0 (splice (splice (splice [ci0,ci0,ci0,ci0] 0 [(.int .i64 (-1))]) 2 [(.int .i64 120)]) 3 [(.int .i64 (G.rem .i64 (G.shr .i64 n 5) 3))])) 4 (splice (splice (splice [ci0,ci0,ci0,ci0] 0 [(.int .i64 1)]) 1 [(.int .i64 0)]) 3 [(.int .i64 (G.band .i64 (G.shr .i64 n 7) 1))])))]).length) ((splice (splice [Cell.nils,Cell.nils] 0 ([(.sl h.length ((splice [ci0,ci0,ci0,ci0] 0 (splice (splice (splice [ci0,ci0,ci0,ci0] 0 [(.int .i64 0)]) 1 [(.int .i64 (G.band .i64 (G.shr .i64 n 3) 1))]) 3 [(.int .i64 (G.band .i64 (G.shr .i64 n 4) 1))])).length) 0 1)]:List Cell)) 1 ([(.sl ((h++[some (Blk.mk true 4 (splice [ci0,ci0,ci0,ci0] 0 (splice (splice (splice [ci0,ci0,ci0,ci0] 0 [(.int .i64 0)]) 1 [(.int .i64 (G.band .i64 (G.shr .i64 n 3) 1))]) 3 [(.int .i64 (G.band .i64 (G.shr .i64 n 4) 1))])))]).length) ((splice (splice (Ya 8 ci0) 0 (splice (splice (splice [ci0,ci0,ci0,ci0] 0 [(.int .i64 (-1))]) 2 [(.int .i64 120)]) 3 [(.int .i64 (G.rem .i64 (G.shr .i64 n 5) 3))])) 4 (splice (splice (splice [ci0,ci0,ci0,ci0] 0 [(.int .i64 1)]) 1 [(.int .i64 0)]) 3 [(.int .i64 (G.band .i64 (G.shr .i64 n 7) 1))])).length) 0 2)]:List Cell)).length) 0 2)]:List Cell))).length=5 then if 0=0/\(splice s1 3 (splice (splice [ci0,Cell.nils] 0 [(.int .i64 v)]) 1 ([(.sl (((h++[some (Blk.mk true 4 (splice [ci0,ci0,ci0,ci0] 0 (splice (splice (splice [ci0,ci0,ci0,ci0] 0 [(.int .i64 0)]) 1 [(.int .i64 (G.band .i64 (G.shr .i64 n 3) 1))]) 3 [(.int .i64 (G.band .i64 (G.shr .i64 n 4) 1))])))])++[some (Blk.mk true 4 (splice (splice (Ya 8 ci0) 0 (splice (splice (splice [ci0,ci0,ci0,ci0] 0 [(.int .i64 (-1))]) 2 [(.int .i64 120)]) 3 [(.int .i64 (G.rem .i64 (G.shr .i64 n 5) 3))])) 4 (splice (splice (splice [ci0,ci0,ci0,ci0] 0 [(.int .i64 1)]) 1 [(.int .i64 0)]) 3 [(.int .i64 (G.band .i64 (G.shr .i64 n 7) 1))])))]).length) ((splice (splice [Cell.nils,Cell.nils] 0 ([(.sl h.length ((splice [ci0,ci0,ci0,ci0] 0 (splice (splice (splice [ci0,ci0,ci0,ci0] 0 [(.int .i64 0)]) 1 [(.int .i64 (G.band .i64 (G.shr .i64 n 3) 1))]) 3 [(.int .i64 (G.band .i64 (G.shr .i64 n 4) 1))])).length) 0 1)]:List Cell)) 1 ([(.sl ((h++[some (Blk.mk true 4 (splice [ci0,ci0,ci0,ci0] 0 (splice (splice (splice [ci0,ci0,ci0,ci0] 0 [(.int .i64 0)]) 1 [(.int .i64 (G.band .i64 (G.shr .i64 n 3) 1))]) 3 [(.int .i64 (G.band .i64 (G.shr .i64 n 4) 1))])))]).length) ((splice (splice (Ya 8 ci0) 0 (splice (splice (splice [ci0,ci0,ci0,ci0] 0 [(.int .i64 (-1))]) 2 [(.int .i64 120)]) 3 [(.int .i64 (G.rem .i64 (G.shr .i64 n 5) 3))])) 4 (splice (splice (splice [ci0,ci0,ci0,ci0] 0 [(.int .i64 1)]) 1 [(.int .i64 0)]) 3 [(.int .i64 (G.band .i64 (G.shr .i64 n 7) 1))])).length) 0 2)]:List Cell)).length) 0 2)]:List Cell))).length=5 then some ([(.agg (splice s1 3 (splice (splice [ci0,Cell.nils] 0 [(.int .i64 v)]) 1 ([(.sl (((h++[some (Blk.mk true 4 (splice [ci0,ci0,ci0,ci0] 0 (splice (splice (splice [ci0,ci0,ci0,ci0] 0 [(.int .i64 0)]) 1 [(.int .i64 (G.band .i64 (G.shr .i64 n 3) 1))]) 3 [(.int .i64 (G.band .i64 (G.shr .i64 n 4) 1))])))])++[some (Blk.mk true 4 (splice (splice (Ya 8 ci0) 0 (splice (splice (splice [ci0,ci0,ci0,ci0] 0 [(.int .i64 (-1))]) 2 [(.int .i64 120)]) 3 [(.int .i64 (G.rem .i64 (G.shr .i64 n 5) 3))])) 4 (splice (splice (splice [ci0,ci0,ci0,ci0] 0 [(.int .i64 1)]) 1 [(.int .i64 0)]) 3 [(.int .i64 (G.band .i64 (G.shr .i64 n 7) 1))])))]).length) ((splice (splice [Cell.nils,Cell.nils] 0 ([(.sl h.length ((splice [ci0,ci0,ci0,ci0] 0 (splice (splice (splice [ci0,ci0,ci0,ci0] 0 [(.int .i64 0)]) 1 [(.int .i64 (G.band .i64 (G.shr .i64 n 3) 1))]) 3 [(.int .i64 (G.band .i64 (G.shr .i64 n 4) 1))])).length) 0 1)]:List Cell)) 1 ([(.sl ((h++[some (Blk.mk true 4 (splice [ci0,ci0,ci0,ci0] 0 (splice (splice (splice [ci0,ci0,ci0,ci0] 0 [(.int .i64 0)]) 1 [(.int .i64 (G.band .i64 (G.shr .i64 n 3) 1))]) 3 [(.int .i64 (G.band .i64 (G.shr .i64 n 4) 1))])))]).length) ((splice (splice (Ya 8 ci0) 0 (splice (splice (splice [ci0,ci0,ci0,ci0] 0 [(.int .i64 (-1))]) 2 [(.int .i64 120)]) 3 [(.int .i64 (G.rem .i64 (G.shr .i64 n 5) 3))])) 4 (splice (splice (splice [ci0,ci0,ci0,ci0] 0 [(.int .i64 1)]) 1 [(.int .i64 0)]) 3 [(.int .i64 (G.band .i64 (G.shr .i64 n 7) 1))])).length) 0 2)]:List Cell)).length) 0 2)]:List Cell))))],(((h++[some (Blk.mk true 4 (splice [ci0,ci0,ci0,ci0] 0 (splice (splice (splice [ci0,ci0,ci0,ci0] 0 [(.int .i64 0)]) 1 [(.int .i64 (G.band .i64 (G.shr .i64 n 3) 1))]) 3 [(.int .i64 (G.band .i64 (G.shr .i64 n 4) 1))])))])++[some (Blk.mk true 4 (splice (splice (Ya 8 ci0) 0 (splice (splice (splice [ci0,ci0,ci0,ci0] 0 [(.int .i64 (-1))]) 2 [(.int .i64 120)]) 3 [(.int .i64 (G.rem .i64 (G.shr .i64 n 5) 3))])) 4 (splice (splice (splice [ci0,ci0,ci0,ci0] 0 [(.int .i64 1)]) 1 [(.int .i64 0)]) 3 [(.int .i64 (G.band .i64 (G.shr .i64 n 7) 1))])))])++[some (Blk.mk true 1 (splice (splice [Cell.nils,Cell.nils] 0 ([(.sl h.length ((splice [ci0,ci0,ci0,ci0] 0 (splice (splice (splice [ci0,ci0,ci0,ci0] 0 [(.int .i64 0)]) 1 [(.int .i64 (G.band .i64 (G.shr .i64 n 3) 1))]) 3 [(.int .i64 (G.band .i64 (G.shr .i64 n 4) 1))])).length) 0 1)]:List Cell)) 1 ([(.sl ((h++[some (Blk.mk true 4 (splice [ci0,ci0,ci0,ci0] 0 (splice (splice (splice [ci0,ci0,ci0,ci0] 0 [(.int .i64 0)]) 1 [(.int .i64 (G.band .i64 (G.shr .i64 n 3) 1))]) 3 [(.int .i64 (G.band .i64 (G.shr .i64 n 4) 1))])))]).length) ((splice (splice (Ya 8 ci0) 0 (splice (splice (splice [ci0,ci0,ci0,ci0] 0 [(.int .i64 (-1))]) 2 [(.int .i64 120)]) 3 [(.int .i64 (G.rem .i64 (G.shr .i64 n 5) 3))])) 4 (splice (splice (splice [ci0,ci0,ci0,ci0] 0 [(.int .i64 1)]) 1 [(.int .i64 0)]) 3 [(.int .i64 (G.band .i64 (G.shr .i64 n 7) 1))])).length) 0 2)]:List Cell)))])) else none else none else none else none else none else none else none else none else none else none else if 0=0/\s1.length=5 then if 0=0/\s0.length=5/\s1.length=5 then if 0=0/\s1.length=5 then some ([(.agg s1)],h) else none else none else none:=by kernel_rfl
theorem q97_ec1_n:(q97_k2 C L G h0) .normal (q97_c1 a1 x7 a8 a9 s0 s1 h)=(L (q97_F2 C L G) (q97_s2 a1 x7 a8 a9 0 0 s0 s1 h)).bind fun p=>(q97_k4 C L G h0) p.1 p.2:=by kernel_rfl
theorem q97_eq:q97.body C L G [(.c x0),(.c (.int .i64 a1))] h0=if 0=0/\[Cell.str (ByteArray.mk #[]),Cell.nils,Cell.nils,ci0,Cell.nils].length=5/\(splice [Cell.str (ByteArray.mk #[]),Cell.nils,Cell.nils,ci0,Cell.nils] 0 ([(.str (ByteArray.mk #[116]))]:List Cell)).length=5 then Zn ((h0++[some (Blk.mk true 0 (AV.cells (.c x0)))])++[some (Blk.mk true 0 ([ci0]))]) ((h0++[some (Blk.mk true 0 (AV.cells (.c x0)))]).length) (([ci0]).length) fun l=>if 0<l.length then Zbh ((h0++[some (Blk.mk true 0 (AV.cells (.c x0)))])++[some (Blk.mk true 0 ([ci0]))]) ((h0++[some (Blk.mk true 0 (AV.cells (.c x0)))]).length) (l.set 0 (.int .i64 0)) fun h=>fnK (.fn 115 [((h0++[some (Blk.mk true 0 (AV.cells (.c x0)))]).length,([ci0]).length,0),(h0.length,(AV.cells (.c x0)).length,0)]) fun g l=>c1 (C g ([]++l) h) fun y h=>Zi .i64 y fun n=>fnK (.fn 115 [((h0++[some (Blk.mk true 0 (AV.cells (.c x0)))]).length,([ci0]).length,0),(h0.length,(AV.cells (.c x0)).length,0)]) fun g l=>c1 (C g ([]++l) h) fun y h=>Zi .i64 y fun n1=>(fnK (.fn 115 [((h0++[some (Blk.mk true 0 (AV.cells (.c x0)))]).length,([ci0]).length,0),(h0.length,(AV.cells (.c x0)).length,0)]) fun g l=>c1 (C g ([]++l) h) fun y h=>Zi .i64 y fun n2=>if ((G.rem .i64 n2 4)==0)=true then Zf (splice [Cell.str (ByteArray.mk #[]),Cell.nils,Cell.nils,ci0,Cell.nils] 0 ([(.str (ByteArray.mk #[116]))]:List Cell)) 1 fun q=>fnK (.fn 115 [((h0++[some (Blk.mk true 0 (AV.cells (.c x0)))]).length,([ci0]).length,0),(h0.length,(AV.cells (.c x0)).length,0)]) fun g l=>c1 (C g ([]++l) h) fun y h1=>Zi .i64 y fun n2=>if (splice (splice [ci0,ci0] 0 [(.int .i64 120)]) 1 [(.int .i64 (G.rem .i64 n2 3))]).length=2/\0+2<=[ci0,ci0].length then if (splice [ci0,ci0] 0 (splice (splice [ci0,ci0] 0 [(.int .i64 120)]) 1 [(.int .i64 (G.rem .i64 n2 3))])).length=1*2 then Zaq 2 16 q (splice [ci0,ci0] 0 (splice (splice [ci0,ci0] 0 [(.int .i64 120)]) 1 [(.int .i64 (G.rem .i64 n2 3))])) h1 fun x h1=>if 1<(splice [Cell.str (ByteArray.mk #[]),Cell.nils,Cell.nils,ci0,Cell.nils] 0 ([(.str (ByteArray.mk #[116]))]:List Cell)).length then some (.normal,(q97_c1 a1 (.fn 115 [((h0++[some (Blk.mk true 0 (AV.cells (.c x0)))]).length,([ci0]).length,0),(h0.length,(AV.cells (.c x0)).length,0)]) (G.wrap .i64 ((G.rem .i64 n 2)+2)) (G.wrap .i64 ((G.rem .i64 n1 2)+2)) [Cell.str (ByteArray.mk #[]),Cell.nils,Cell.nils,ci0,Cell.nils] ((splice [Cell.str (ByteArray.mk #[]),Cell.nils,Cell.nils,ci0,Cell.nils] 0 ([(.str (ByteArray.mk #[116]))]:List Cell)).set 1 x) h1)) else none else none else none else some (.normal,(q97_c1 a1 (.fn 115 [((h0++[some (Blk.mk true 0 (AV.cells (.c x0)))]).length,([ci0]).length,0),(h0.length,(AV.cells (.c x0)).length,0)]) (G.wrap .i64 ((G.rem .i64 n 2)+2)) (G.wrap .i64 ((G.rem .i64 n1 2)+2)) [Cell.str (ByteArray.mk #[]),Cell.nils,Cell.nils,ci0,Cell.nils] (splice [Cell.str (ByteArray.mk #[]),Cell.nils,Cell.nils,ci0,Cell.nils] 0 ([(.str (ByteArray.mk #[116]))]:List Cell)) h)):Option (Ex × St)).bind fun p=>(q97_k2 C L G h0) p.1 p.2 else none else none:=by kernel_rfl
theorem q115_eq:q115.body C L G [(.c (.ptr k0 N0 o0)),(.c (.ptr k1 N1 o1))] h0=Zn h0 k0 N0 fun l=>Zf l o0 fun q=>Zi .i64 (.c q) fun n=>Zn h0 k0 N0 fun l=>if o0<l.length then Zbh h0 k0 (l.set o0 (.int .i64 (G.wrap .i64 (n+1)))) fun h=>Zn h k0 N0 fun l=>Zf l o0 fun q=>Zi .i64 (.c q) fun n=>Zn h k1 N1 fun l=>Zf l o1 fun q=>Zaj q fun n1=>if (decide (n > n1))=true then some ([(.c (.int .i64 0))],h) else Zn h k1 N1 fun l=>Zf l o1 fun q=>Zn h k0 N0 fun l=>Zf l o0 fun q1=>Zi .i64 (.c q1) fun n=>Zm 1 q (G.wrap .i64 (n - 1)) fun k N o=>Zn h k N fun l=>Zf l o fun q=>Zi .i64 (.c q) fun n=>some ([(.c (.int .i64 (G.band .i64 n 65535)))],h) else none:=by kernel_rfl
end
def opdOk (o:Opd):Prop:=(o.reg = -1/\0<=o.val/\o.val<3)∨((o.reg=0∨o.reg=1)/\o.val=0)
def SmI (L:Int) (i:Ins):Prop :=
 (i.kind=1/\i.reg=0/\(120<=i.loc/\i.loc<120+L)/\opdOk i.a/\i.op=0/\i.b=⟨0,0⟩/\i.n=0) ∨
 (i.kind=2/\(i.reg=0∨i.reg=1)/\(120<=i.loc/\i.loc<120+L)/\i.a=⟨0,0⟩/\i.op=0/\i.b=⟨0,0⟩/\i.n=0) ∨
 (i=⟨3,0,0,⟨0,0⟩,0,⟨0,0⟩,0⟩) ∨
 (i.kind=4/\(i.reg=0∨i.reg=1)/\(120<=i.loc/\i.loc<120+L)/\opdOk i.a/\i.op=0/\i.b=⟨-1,1⟩/\i.n=0) ∨
 (i.kind=5/\(i.reg=0∨i.reg=1)/\i.loc=0/\opdOk i.a/\i.op=6/\i.b=⟨-1,1⟩/\i.n=0) ∨
 (i.kind=6/\i.reg=0/\i.loc=0/\opdOk i.a/\i.op=0/\i.b=⟨-1,0⟩/\i.n=1)
def Zfw (c:List Ins):Nat:=c.countP fun i=>decide (i.kind=1∨i.kind=2∨i.kind=4)
inductive ThrOk (L:Int):Nat->List Ins->Prop
 | nil:ThrOk L 0 []
 | one {k:Nat} {c:List Ins} {i:Ins}:ThrOk L k c->SmI L i->i.kind≠6->ThrOk L (k+1) (c++[i])
 | two {k:Nat} {c:List Ins} {i j:Ins}:ThrOk L k c->SmI L i->i.kind=6->SmI L j->j.kind=1->ThrOk L (k+1) (c++[i,j])
theorem ThrOk.len {L:Int} {k:Nat} {c:List Ins} (t:ThrOk L k c):c.length<=2*k:=by
 induction t with
 | nil=>simp
 | one _ _ _ ih=>rw [Yb];simp;omega
 | two _ _ _ _ _ ih=>rw [Yb];simp;omega
theorem ThrOk.all {L:Int} {k:Nat} {c:List Ins} (t:ThrOk L k c):∀i∈c,SmI L i:=by
 induction t with
 | nil=>simp
 | one _ h _ ih =>
  intro i hi
  rcases Yah.1 hi with hi | hi
  ·exact ih i hi
  ·simp at hi;subst hi;exact h
 | two _ h _ h' _ ih =>
  intro i hi
  rcases Yah.1 hi with hi | hi
  ·exact ih i hi
  ·simp at hi;rcases hi with rfl | rfl
   ·exact h
   ·exact h'
theorem Zsm (a b:List Ins):Zfw (a++b)=Zfw a+Zfw b:=by unfold Zfw;rw [List.countP_append]
theorem Own.appM {n:Nat} {h:Za} {x:Cell} {esz len bytes m:Nat} {cs xs:List Cell} (o:Own n h x esz cs len) (hn:n<=h.length) (hx:xs.length=m*esz) (hm:0<m) (he:0<esz) (h1:(len+m)*bytes<=maxBytes) (h2:len+m<=maxBytes) :
  ∃x' h',(∀{α:Type} (f:Cell->Za->Option α),Zaq esz bytes x xs h f=f x' h')/\Own n h' x' esz (cs++xs) (len+m)/\Kp n h h':=by
 have hd:xs.length / esz=m:=by rw [hx];exact Nat.mul_div_cancel _ he
 have hpos:0<xs.length:=by rw [hx];exact Nat.mul_pos hm he
 rcases o.2 with ⟨rfl,rfl⟩ | ⟨k,rfl,hk,hb⟩
 ·have hcs:cs=[]:=Yv.1 (by have:=o.1;omega)
  subst hcs
  refine ⟨.sl h.length xs.length 0 m,h++[some ⟨true,esz,xs⟩],fun f=>?_,⟨by simp [hx],.inr ⟨h.length,by simp,hn,by rw [Yw];exact Zaa _ _⟩⟩,Kp.app _ hn⟩
  unfold Zaq;simp only;rw [if_neg (by omega),hd,if_pos ⟨by rw [Ybf] at h1;exact h1,by omega⟩]
 ·have hl:=o.1
  refine ⟨.sl k (len*esz+xs.length) 0 (len+m),setBlk h k (some ⟨true,esz,cs++xs⟩),fun f=>?_,⟨by simp [hl,hx,Nat.add_mul],.inr ⟨k,by simp [hl],hk,Zac (Zar hb) _⟩⟩,Kp.set hk _⟩
  unfold Zaq;simp only;rw [hb,Yag];dsimp only
  rw [if_pos ⟨rfl,rfl,rfl,by omega,by rw [hd];exact h1,by rw [hd];exact h2⟩,if_neg (by omega),if_pos trivial,hd,Ym (by omega)]
section
variable {E:Env}
theorem shr_nn {x k:Int} (hx:0<=x):0<=E.glob.shr .i64 x k:=by
 show 0<=x.fdiv (2 ^ min k.toNat 64)
 exact Int.fdiv_nonneg hx (Int.le_of_lt (Int.pow_pos (by omega)))
theorem Zfb {x m:Int} (hx:0<=x) (hm:0<m):0<=E.glob.rem .i64 x m/\E.glob.rem .i64 x m<m:=by
 rw [g_rem,Yaz hx]
 exact ⟨Int.emod_nonneg _ (by omega),Int.emod_lt_of_pos _ hm⟩
theorem g_band1 {x:Int}:E.glob.band .i64 x 1=x % 2:=by
 show IntKind.wrap .i64 ((Yt 64 x &&& Yt 64 1).toNat:Nat)=_
 have h1:(Yt 64 x &&& Yt 64 1).toNat=(Yt 64 x).toNat % 2:=by
  rw [Ybu]
  have:(Yt 64 1).toNat=2 ^ 1 - 1:=by decide
  rw [this,Yat]
 rw [h1,Ybs]
 have h3:((((x % ((2 ^ 64:Nat):Int)).toNat % 2:Nat):Int))=x % 2:=by omega
 rw [h3]
 exact Zey (by omega) (by omega)
theorem Zuc (x:Int):E.glob.band .i64 x 1=0∨E.glob.band .i64 x 1=1:=by rw [g_band1];omega
theorem Zqu {x:Int}:0<=E.glob.band .i64 x 65535/\E.glob.band .i64 x 65535<65536:=by
 have h:E.glob.band .i64 x 65535=x % 65536:=by
  show IntKind.wrap .i64 ((Yt 64 x &&& Yt 64 65535).toNat:Nat)=_
  have h1:(Yt 64 x &&& Yt 64 65535).toNat=(Yt 64 x).toNat % 65536:=by
   rw [Ybu]
   have:(Yt 64 65535).toNat=2 ^ 16 - 1:=by decide
   rw [this,Yat]
  rw [h1,Ybs]
  have h3:((((x % ((2 ^ 64:Nat):Int)).toNat % 65536:Nat):Int))=x % 65536:=by omega
  rw [h3]
  exact Zey (by omega) (by omega)
 rw [h];omega
def VarsAt (h0:Za) (x:Cell) (h:Za) (m:Nat):Prop :=
 blk? h h0.length=some ⟨true,0,[x]⟩/\blk? h (h0.length+1)=some ⟨true,0,[.int .i64 (m:Int)]⟩/\h0.length+2<=h.length/\Kp h0.length h0 h
def nxF (h0:Za):Cell:=.fn 115 [(h0.length+1,1,0),(h0.length,1,0)]
theorem VarsAt.keep {h0 h h':Za} {x:Cell} {m:Nat} (v:VarsAt h0 x h m) (hk:Kp (h0.length+2) h h'):VarsAt h0 x h' m :=
 ⟨by rw [hk.blk (by omega)];exact v.1,by rw [hk.blk (by omega)];exact v.2.1,Yo v.2.2.1 hk.1,v.2.2.2.trans (hk.mono (by omega))⟩
theorem Zvj {α:Type} {h:Za} {k:Nat} {a:Cell} (hk:blk? h k=some ⟨true,0,[a]⟩) {F:List Cell->Option α}:Zn h k 1 F=F [a]:=Zq hk rfl
theorem Zlk (hE:q115_In E) {h0 h:Za} {x:Cell} {l:List Int} {m:Nat} (hx:SlAt h0 x 1 (intC .i64 l) l.length) (hlow:Low h0.length x) (hl:l.length<9223372036854775808) (v:VarsAt h0 x h m) (hm:m<100000) :
  ∃r:Int,0<=r/\r<65536/\(∀{α:Type} (F:AV->Za->Option α),(fnK (nxF h0) fun g cs=>c1 (R E g ([]++cs) h) F)=F (.c (.int .i64 r)) (setBlk h (h0.length+1) (some ⟨true,0,[.int .i64 ((m+1:Nat):Int)]⟩))) /\
   VarsAt h0 x (setBlk h (h0.length+1) (some ⟨true,0,[.int .i64 ((m+1:Nat):Int)]⟩)) (m+1):=by
 obtain ⟨v1,v2,v3,v4⟩:=v
 have b2:blk? (setBlk h (h0.length+1) (some ⟨true,0,[.int .i64 ((m+1:Nat):Int)]⟩)) (h0.length+1)=some ⟨true,0,[.int .i64 ((m+1:Nat):Int)]⟩:=Zac (Zar v2) _
 have b1:blk? (setBlk h (h0.length+1) (some ⟨true,0,[.int .i64 ((m+1:Nat):Int)]⟩)) h0.length=some ⟨true,0,[x]⟩:=by rw [Zbc (by omega)];exact v1
 have kk:Kp h0.length h0 (setBlk h (h0.length+1) (some ⟨true,0,[.int .i64 ((m+1:Nat):Int)]⟩)):=v4.trans (Kp.set (by omega) _)
 have hx':=hx.keep hlow kk
 have hV:VarsAt h0 x (setBlk h (h0.length+1) (some ⟨true,0,[.int .i64 ((m+1:Nat):Int)]⟩)) (m+1):=⟨b1,b2,by rw [Zcs];exact v3,kk⟩
 have hb:q115.body (R E) Zx E.glob [.c (.ptr (h0.length+1) 1 0),.c (.ptr h0.length 1 0)] h=some ([.c (.int .i64 (if m+1 > l.length then 0 else E.glob.band .i64 (l.getD m 0) 65535))],setBlk h (h0.length+1) (some ⟨true,0,[.int .i64 ((m+1:Nat):Int)]⟩)):=by
  rw [q115_eq,Zvj v2,Zak (i:=0) (c:=.int .i64 (m:Int)) rfl,asI_ok,Zvj v2,if_pos (by simp),Zr (by omega),Zct v2 rfl]
  dsimp only [List.set]
  rw [Zvj b2,Zak (i:=0) (c:=.int .i64 ((m+1:Nat):Int)) rfl,asI_ok,Zvj b1,Zak (i:=0) (c:=x) rfl,hx'.len]
  by_cases hgt:m+1 > l.length
  ·rw [if_pos (by simp;omega),if_pos hgt]
  ·rw [if_neg (by simp;omega),if_neg hgt,Zvj b1,Zak (i:=0) (c:=x) rfl,Zvj b2,Zak (i:=0) (c:=.int .i64 ((m+1:Nat):Int)) rfl,asI_ok,Zg (by omega) (by omega),show ((m+1:Nat):Int) - 1=(m:Int) by omega,hx'.get1 (show m<l.length by omega) (Zbr (getDI (by omega))),asI_ok]
 refine ⟨if m+1 > l.length then 0 else E.glob.band .i64 (l.getD m 0) 65535,?_,?_,fun F=>?_,hV⟩
 ·split
  ·omega
  ·exact Zqu.1
 ·split
  ·omega
  ·exact Zqu.2
 ·show c1 (R E 115 [.c (.ptr (h0.length+1) 1 0),.c (.ptr h0.length 1 0)] h) F=_
  rw [Zd hE.fn hb,c1_ok]
end
section
variable {E:Env}
def Zja (E:Env) (most:Int) (fnc:Cell) (n L:Int) (mem:Nat) (i:Int) (k:Int) (s0 s1:List Cell) (N kk:Nat) (c:List Ins) (h:Za) (o:Option (Ex × St)):Prop :=
 ∃(c2:List Ins) (mem2:Nat) (xs2:Cell) (h2:Za),o=some (.normal,q97_s1 most fnc n L (mem2:Int) i xs2 (k - 1) s0 s1 h2)/\ThrOk L (kk+1) c2/\Zfw c2+mem=Zfw c+mem2/\mem<=mem2/\mem2<=mem+1 /\
  Own N h2 xs2 9 (Zai c2) c2.length/\Kp N h h2
variable {most:Int} {fnc:Cell} {n L:Int} {mem:Nat} {i:Int} {xs:Cell} {k loc x r m:Int} {s0 s1:List Cell} {v:Opd} {h:Za} {N kk:Nat} {c:List Ins}
theorem Zmf {f:Cell->Za->Option (Ex × St)} {mem2:Nat} {j:Ins} (hxs:Own N h xs 9 (Zai c) c.length) (hN:N<=h.length) (hc:c.length<=100) (t:ThrOk L kk c) (hj:SmI L j) (h6:j.kind≠6)
  (hm2:mem2=mem+Zfw [j]) (hf:∀x' h',f x' h'=some (.normal,q97_s1 most fnc n L (mem2:Int) i x' (k - 1) s0 s1 h')) :
  Zja E most fnc n L mem i k s0 s1 N kk c h (Zaq 9 72 xs j.cs h f):=by
 have hm:maxBytes>=200*72:=by unfold maxBytes;omega
 obtain ⟨x',h',ha,ho,hk,_⟩:=hxs.app (bytes:=72) (xs:=j.cs) hN rfl (by omega) (by omega) (by omega)
 have h1:Zfw [j]<=1:=by unfold Zfw;exact Yo (List.countP_le_length) (by simp)
 refine ⟨c++[j],mem2,x',h',by rw [ha,hf],t.one hj h6,by rw [Zsm,hm2];omega,by omega,by omega,?_,hk⟩
 rw [Zsh,Yb,Yl];exact ho
theorem Znf {j:Ins} (h:j.kind=1∨j.kind=2∨j.kind=4):Zfw [j]=1:=by unfold Zfw;rw [Ybv,Ycb];simp [h]
theorem Zvg {j:Ins} (h:¬(j.kind=1∨j.kind=2∨j.kind=4)):Zfw [j]=0:=by unfold Zfw;rw [Ybv,Ycb];simp [h]
theorem Zmj (hxs:Own N h xs 9 (Zai c) c.length) (hN:N<=h.length) (hc:c.length<=100) (t:ThrOk L kk c) (hv:opdOk v) (hloc:120<=loc/\loc<120+L) (hmem:mem<1000) (hk:0<=k/\k<=3) {b:Bool} (hb:b=true) :
  Zja E most fnc n L mem i k s0 s1 N kk c h ((q97_k13 (R E) Zx E.glob) .normal (q97_c3 most fnc n L (mem:Int) i xs k loc r m b s0 s1 v.cs h)):=by
 have e:splice (splice (splice (Ya 9 ci0) 0 [(.int .i64 1)]) 2 [(.int .i64 loc)]) 3 v.cs=(Ins.mk 1 0 loc v 0 ⟨0,0⟩ 0).cs:=rfl
 rw [q97_ec3_n,if_pos hb,if_pos ⟨rfl,rfl⟩,if_pos ⟨rfl,by simp [splice]⟩,e,if_pos ⟨rfl,by simp⟩,ins_splice,if_pos (Zfj _)]
 refine Zmf (mem2:=mem+1) hxs hN hc t (.inl ⟨rfl,rfl,hloc,hv,rfl,rfl,rfl⟩) (by simp) (by rw [Znf (.inl rfl)]) fun x' h'=>?_
 rw [Zr (by omega),Zg (by omega) (by omega)]
theorem Zne (hxs:Own N h xs 9 (Zai c) c.length) (hN:N<=h.length) (hc:c.length<=100) (t:ThrOk L kk c) (hr:r=0∨r=1) (hloc:120<=loc/\loc<120+L) (hmem:mem<1000) (hk:0<=k/\k<=3) {b:Bool} (hb:b=true) {s2:List Cell} :
  Zja E most fnc n L mem i k s0 s1 N kk c h ((q97_k14 (R E) Zx E.glob) .normal (q97_c4 most fnc n L (mem:Int) i xs k loc r m b s0 s1 s2 h)):=by
 have e:splice (splice (splice (Ya 9 ci0) 0 [(.int .i64 2)]) 1 [(.int .i64 r)]) 2 [(.int .i64 loc)]=(Ins.mk 2 r loc ⟨0,0⟩ 0 ⟨0,0⟩ 0).cs:=rfl
 rw [q97_ec4_n,if_pos hb,e,if_pos ⟨rfl,by simp⟩,ins_splice,if_pos (Zfj _)]
 refine Zmf (mem2:=mem+1) hxs hN hc t (.inr (.inl ⟨rfl,hr,hloc,rfl,rfl,rfl,rfl⟩)) (by simp) (by rw [Znf (.inr (.inl rfl))]) fun x' h'=>?_
 rw [Zr (by omega),Zg (by omega) (by omega)]
theorem mb2 {k:Nat} (hk:k<=100):(k+2)*72<=maxBytes/\k+2<=maxBytes:=by
 have hm:maxBytes>=200*72:=by unfold maxBytes;omega
 omega
theorem Zyi (a b:Ins):(Zai [a,b]).length=2*9:=by rw [Zoi];rfl
theorem two_ins {f:Cell->Za->Option (Ex × St)} {j q:Ins} (hxs:Own N h xs 9 (Zai c) c.length) (hN:N<=h.length) (hc:c.length<=100) (t:ThrOk L kk c) (hj:SmI L j) (h6:j.kind=6) (hq:SmI L q) (h1:q.kind=1)
  (hf:∀x' h',f x' h'=some (.normal,q97_s1 most fnc n L ((mem+1:Nat):Int) i x' (k - 1) s0 s1 h')) :
  Zja E most fnc n L mem i k s0 s1 N kk c h (Zaq 9 72 xs (Zai [j,q]) h f):=by
 obtain ⟨f1,f2⟩:=mb2 hc
 obtain ⟨x',h',ha,ho,hkp⟩:=hxs.appM hN (Zyi j q) Nat.zero_lt_two (Nat.succ_pos 8) f1 f2
 have e4:Zai (c++[j,q])=Zai c++Zai [j,q]:=by simp [Zai]
 refine ⟨c++[j,q],mem+1,x',h',by rw [ha,hf],t.two hj h6 hq h1,?_,by omega,by omega,?_,hkp⟩
 ·rw [Zsm]
  have:Zfw [j,q]=1:=by
   show Zfw ([j]++[q])=1
   rw [Zsm,Zvg (by omega),Znf (.inl h1)]
  omega
 ·rw [e4,Yb];exact ho
theorem z18_len:0+9<=(Ya 18 ci0).length:=by rw [Yaf];omega
theorem z18_one (a:Ins):9+9<=(splice (Ya 18 ci0) 0 a.cs).length:=by
 unfold splice
 rw [Yb,Yb,Yy,Yp,Yaf,Ins.len];omega
theorem z18_two (a b:Ins):splice (splice (Ya 18 ci0) 0 a.cs) 9 b.cs=Zai [a,b]:=rfl
theorem Zyx (hxs:Own N h xs 9 (Zai c) c.length) (hN:N<=h.length) (hc:c.length<=100) (t:ThrOk L kk c) (hL:0<L) (hv:opdOk v) (hr:r=0∨r=1) (hloc:120<=loc/\loc<120+L) (hmem:mem<1000) (hk:0<=k/\k<=3) {b:Bool} (hb:b=false) :
  Zja E most fnc n L mem i k s0 s1 N kk c h ((q97_k14 (R E) Zx E.glob) .normal (q97_c4 most fnc n L (mem:Int) i xs k loc r m b s0 s1 v.cs h)):=by
 have hm:maxBytes>=200*72:=by unfold maxBytes;omega
 rw [q97_ec4_n,if_neg (by rw [hb];simp)]
 by_cases h8:m=8
 ·have e:splice (Ya 9 ci0) 0 [(.int .i64 3)]=(Ins.mk 3 0 0 ⟨0,0⟩ 0 ⟨0,0⟩ 0).cs:=rfl
  rw [if_pos (by rw [h8];rfl),e,if_pos ⟨rfl,by simp⟩,ins_splice,if_pos (Zfj _)]
  refine Zmf (mem2:=mem) hxs hN hc t (.inr (.inr (.inl rfl))) (by simp) (by rw [Zvg (by simp)];rfl) fun x' h'=>?_
  rw [Zg (by omega) (by omega)]
 ·rw [if_neg (by rw [beq_iff_eq];exact h8)]
  by_cases h9:m=9
  ·have e:splice (splice (splice (splice (splice (Ya 9 ci0) 0 [(.int .i64 4)]) 1 [(.int .i64 r)]) 2 [(.int .i64 loc)]) 3 v.cs) 6 (splice (splice [ci0,ci0] 0 [(.int .i64 (-1))]) 1 [(.int .i64 1)])=(Ins.mk 4 r loc v 0 ⟨-1,1⟩ 0).cs:=rfl
   rw [if_pos (by rw [h9];rfl),if_pos ⟨rfl,rfl⟩,if_pos ⟨rfl,by simp [splice]⟩,if_pos ⟨rfl,by simp [splice,Opd.cs]⟩,e,if_pos ⟨rfl,by simp⟩,ins_splice,if_pos (Zfj _)]
   refine Zmf (mem2:=mem+1) hxs hN hc t (.inr (.inr (.inr (.inl ⟨rfl,hr,hloc,hv,rfl,rfl,rfl⟩)))) (by simp) (by rw [Znf (.inr (.inr rfl))]) fun x' h'=>?_
   rw [Zr (by omega),Zg (by omega) (by omega)]
  ·rw [if_neg (by rw [beq_iff_eq];exact h9)]
   by_cases h10:m=10
   ·have e:splice (splice (splice (splice (splice (Ya 9 ci0) 0 [(.int .i64 5)]) 1 [(.int .i64 r)]) 3 v.cs) 5 [(.int .i64 6)]) 6 (splice (splice [ci0,ci0] 0 [(.int .i64 (-1))]) 1 [(.int .i64 1)])=(Ins.mk 5 r 0 v 6 ⟨-1,1⟩ 0).cs:=rfl
    rw [if_pos (by rw [h10];rfl),if_pos ⟨rfl,rfl⟩,if_pos ⟨rfl,by simp [splice]⟩,if_pos ⟨rfl,by simp [splice,Opd.cs]⟩,if_pos ⟨rfl,by simp [splice,Opd.cs]⟩,e,if_pos ⟨rfl,by simp⟩,ins_splice,if_pos (Zfj _)]
    refine Zmf (mem2:=mem) hxs hN hc t (.inr (.inr (.inr (.inr (.inl ⟨rfl,hr,rfl,hv,rfl,rfl,rfl⟩))))) (by simp) (by rw [Zvg (by simp)];rfl) fun x' h'=>?_
    rw [Zg (by omega) (by omega)]
   ·have e1:splice (splice (splice (splice (Ya 9 ci0) 0 [(.int .i64 6)]) 3 v.cs) 6 (splice [ci0,ci0] 0 [(.int .i64 (-1))])) 8 [(.int .i64 1)]=(Ins.mk 6 0 0 v 0 ⟨-1,0⟩ 1).cs:=rfl
    have e2:splice (splice (splice (Ya 9 ci0) 0 [(.int .i64 1)]) 2 [(.int .i64 loc)]) 3 (splice (splice [ci0,ci0] 0 [(.int .i64 (-1))]) 1 [(.int .i64 2)])=(Ins.mk 1 0 loc ⟨-1,2⟩ 0 ⟨0,0⟩ 0).cs:=rfl
    rw [if_neg (by rw [beq_iff_eq];exact h10),if_pos ⟨rfl,rfl⟩,if_pos ⟨rfl,by simp [splice]⟩,if_pos ⟨rfl,by simp [splice,Opd.cs]⟩,if_pos ⟨rfl,by simp [splice,Opd.cs]⟩,if_pos ⟨rfl,by simp [splice]⟩,e1,e2,if_pos ⟨Ins.len _,z18_len⟩,if_pos ⟨Ins.len _,z18_one _⟩,z18_two,if_pos (Zyi _ _)]
    have hL2:(2:Int)<3/\(0:Int)<=2:=⟨by decide,by decide⟩
    have hst:SmI L (Ins.mk 1 0 loc ⟨-1,2⟩ 0 ⟨0,0⟩ 0):=.inl ⟨rfl,rfl,hloc,.inl ⟨rfl,hL2.2,hL2.1⟩,rfl,rfl,rfl⟩
    have hsk:SmI L (Ins.mk 6 0 0 v 0 ⟨-1,0⟩ 1):=.inr (.inr (.inr (.inr (.inr ⟨rfl,rfl,rfl,hv,rfl,rfl,rfl⟩))))
    refine two_ins hxs hN hc t hsk rfl hst rfl fun x' h'=>?_
    rw [Zr (by omega),Zg (by omega) (by omega)]
theorem Zq735 (hxs:Own N h xs 9 (Zai c) c.length) (hN:N<=h.length) (hc:c.length<=100) (t:ThrOk L kk c) (hL:0<L) (hv:opdOk v) (hx:0<=x) (hloc:120<=loc/\loc<120+L) (hmem:mem<1000) (hk:0<=k/\k<=3) :
  Zja E most fnc n L mem i k s0 s1 N kk c h ((q97_k11 (R E) Zx E.glob) .normal (q97_c2 most fnc n L (mem:Int) i xs k x loc s0 s1 v.cs h)):=by
 have hr:=Zuc (E:=E) (E.glob.shr .i64 x 11)
 have hm:=Zfb (E:=E) hx (show (0:Int)<12 by omega)
 rw [q97_ec2_n]
 generalize E.glob.band .i64 (E.glob.shr .i64 x 11) 1=r at *
 generalize E.glob.rem .i64 x 12=m at *
 by_cases h0:m=0
 ·rw [if_pos (by rw [h0];rfl),bind_ok];exact Zmj hxs hN hc t hv hloc hmem hk (by rw [h0];rfl)
 rw [if_neg (by rw [beq_iff_eq];exact h0)]
 by_cases h1:m=1
 ·rw [if_pos (by rw [h1];rfl),bind_ok];exact Zmj hxs hN hc t hv hloc hmem hk (by rw [h1];rfl)
 rw [if_neg (by rw [beq_iff_eq];exact h1)]
 by_cases h2:m=2
 ·rw [if_pos (by rw [h2];rfl),bind_ok];exact Zmj hxs hN hc t hv hloc hmem hk (by rw [h2];rfl)
 rw [if_neg (by rw [beq_iff_eq];exact h2),bind_ok]
 by_cases h3:m=3
 ·exact Zmj hxs hN hc t hv hloc hmem hk (by rw [h3];rfl)
 rw [q97_ec3_n,if_neg (by rw [beq_iff_eq];exact h3)]
 by_cases h4:m=4
 ·rw [if_pos (by rw [h4];rfl),bind_ok];exact Zne hxs hN hc t hr hloc hmem hk (by rw [h4];rfl)
 rw [if_neg (by rw [beq_iff_eq];exact h4)]
 by_cases h5:m=5
 ·rw [if_pos (by rw [h5];rfl),bind_ok];exact Zne hxs hN hc t hr hloc hmem hk (by rw [h5];rfl)
 rw [if_neg (by rw [beq_iff_eq];exact h5)]
 by_cases h6:m=6
 ·rw [if_pos (by rw [h6];rfl),bind_ok];exact Zne hxs hN hc t hr hloc hmem hk (by rw [h6];rfl)
 rw [if_neg (by rw [beq_iff_eq];exact h6),bind_ok]
 by_cases h7:m=7
 ·exact Zne hxs hN hc t hr hloc hmem hk (by rw [h7];rfl)
 exact Zyx hxs hN hc t hL hv hr hloc hmem hk (by rw [beq_eq_false_iff_ne];exact h7)
end
def KpX (a n:Nat) (h h':Za):Prop:=h.length<=h'.length/\∀k,k<n->k≠a->h'[k]? = h[k]?
theorem KpX.refl (a n:Nat) (h:Za):KpX a n h h:=⟨Yh _,fun _ _ _=>rfl⟩
theorem KpX.trans {a n:Nat} {h h' h'':Za} (x:KpX a n h h') (y:KpX a n h' h''):KpX a n h h'':=⟨Yo x.1 y.1,fun k hk ha=>(y.2 k hk ha).trans (x.2 k hk ha)⟩
theorem KpX.mono {a n m:Nat} {h h':Za} (x:KpX a n h h') (hm:m<=n):KpX a m h h':=⟨x.1,fun k hk ha=>x.2 k (by omega) ha⟩
theorem Kp.x {a n:Nat} {h h':Za} (x:Kp n h h'):KpX a n h h':=⟨x.1,fun k hk _=>x.2 k hk⟩
theorem KpX.set (a n:Nat) (h:Za) (b:Option Blk):KpX a n h (setBlk h a b):=⟨by simp [setBlk],fun j _ ha=>by unfold setBlk;rw [List.getElem?_set_ne (fun e=>ha e.symm)]⟩
theorem KpX.blk {a n:Nat} {h h':Za} (x:KpX a n h h') {k:Nat} (hk:k<n) (ha:k≠a):blk? h' k=blk? h k:=by unfold blk?;rw [x.2 k hk ha]
theorem Own.keepX {a n:Nat} {h h':Za} {x:Cell} {esz len:Nat} {cs:List Cell} (o:Own n h x esz cs len) (ha:a<n) (hk:KpX a h.length h h'):Own n h' x esz cs len:=by
 refine ⟨o.1,o.2.imp id ?_⟩
 rintro ⟨k,e,hn,hb⟩
 exact ⟨k,e,hn,by rw [hk.blk (Zar hb) (by omega)];exact hb⟩
theorem RowsOwn.keepX {α:Type} {esz:Nat} {C:List α->List Cell} {a n:Nat} {h h':Za} {y:Cell} {rows:List (List α)} (r:RowsOwn esz C n h y rows) (ha:a<n) (hk:KpX a h.length h h'):RowsOwn esz C n h' y rows:=by
 obtain ⟨ts,h1,h2⟩:=r
 exact ⟨ts,h1.keepX ha hk,fun t r hr=>by obtain ⟨x,x1,x2,x3⟩:=h2 t r hr;exact ⟨x,x1,x2.keepX ha hk,x3⟩⟩
structure GoodT (most:Nat) (T:PTest):Prop where
 name:T.name.size<=20
 n:2<=T.thr.length/\T.thr.length<=3
 code:∃L:Int,(L=2∨L=3)/\∀c∈T.thr,∃k,k<=3/\ThrOk L k c
 mem:(T.thr.map Zfw).sum<=most
 inits:T.inits=[]∨∃v:Int,0<=v/\v<3/\T.inits=[(120,v)]
 any:T.any.length<=2/\∀row∈T.any,row.length<=2/\∀a∈row,a.loc=0∨a.loc=120
section
variable {E:Env}
theorem opd_reg {r:Int}:splice [ci0,ci0] 0 [(.int .i64 r)]=(Opd.mk r 0).cs:=rfl
theorem opd_num {v:Int}:splice (splice [ci0,ci0] 0 [(.int .i64 (-1))]) 1 [(.int .i64 v)]=(Opd.mk (-1) v).cs:=rfl
theorem Zq793 (hE:q115_In E) {h0:Za} {x:Cell} {l:List Int} (hx:SlAt h0 x 1 (intC .i64 l) l.length) (hlow:Low h0.length x) (hl:l.length<9223372036854775808)
  {most:Nat} (hmost:most<=900) {n i L:Int} (hL:L=2∨L=3) (s0 s1:List Cell) (N:Nat) (hN0:h0.length+2<=N):∀(k mem m kk:Nat) (c:List Ins) (xs:Cell) (h:Za),k<=3->kk+k<=10->mem<=most->m+k<1000 ->
   VarsAt h0 x h m->N<=h.length->Own N h xs 9 (Zai c) c.length->ThrOk L kk c ->
   ∃(mem' m' kk':Nat) (c':List Ins) (xs':Cell) (h':Za),Zx (q97_F1 (R E) Zx E.glob) (q97_s1 (most:Int) (nxF h0) n L (mem:Int) i xs (k:Int) s0 s1 h)=some (.exit 2,q97_x1_3 (most:Int) (nxF h0) n L (mem':Int) i xs' s0 s1 h') /\
    ThrOk L kk' c'/\kk'<=kk+k/\Zfw c'+mem=Zfw c+mem'/\mem'<=most/\VarsAt h0 x h' m'/\m'<=m+k/\N<=h'.length/\Own N h' xs' 9 (Zai c') c'.length/\KpX (h0.length+1) N h h':=by
 intro k
 induction k with
 | zero =>
  intro mem m kk c xs h _ _ hmem _ hv hN ho ht
  refine ⟨mem,m,kk,c,xs,h,Zl ?_,ht,by omega,by omega,hmem,hv,by omega,hN,ho,KpX.refl _ _ _⟩
  rw [q97_r1,show decide (((0:Nat):Int) > 0)=false from rfl,scK_ft,if_neg (by simp)]
 | succ k ih =>
  intro mem m kk c xs h hk hkk hmem hm hv hN ho ht
  by_cases hmm:mem<most
  ·obtain ⟨r,r0,r1,hF,hv2⟩:=Zlk hE hx hlow hl hv (by omega)
   have hLp:0<L:=by omega
   have hset:KpX (h0.length+1) N h (setBlk h (h0.length+1) (some ⟨true,0,[.int .i64 ((m+1:Nat):Int)]⟩)):=KpX.set _ _ _ _
   have ho2:=ho.keepX (show h0.length+1<N by omega) (KpX.set (h0.length+1) h.length h (some ⟨true,0,[.int .i64 ((m+1:Nat):Int)]⟩))
   have hN2:N<=(setBlk h (h0.length+1) (some ⟨true,0,[.int .i64 ((m+1:Nat):Int)]⟩)).length:=by rw [Zcs];exact hN
   generalize setBlk h (h0.length+1) (some ⟨true,0,[.int .i64 ((m+1:Nat):Int)]⟩)=H at *
   have q4:=Zfb (E:=E) (shr_nn (E:=E) (k:=4) r0) hLp
   have q6:=Zfb (E:=E) (shr_nn (E:=E) (k:=6) r0) (show (0:Int)<3 by omega)
   have hb1:=Zuc (E:=E) (E.glob.shr .i64 r 10)
   have hclen:=ht.len
   have hcase:∀v:Opd,opdOk v->Zja E (most:Int) (nxF h0) n L mem i ((k+1:Nat):Int) s0 s1 N kk c H ((q97_k11 (R E) Zx E.glob) .normal (q97_c2 (most:Int) (nxF h0) n L (mem:Int) i xs ((k+1:Nat):Int) r (120+E.glob.rem .i64 (E.glob.shr .i64 r 4) L) s0 s1 v.cs H)):=by
    intro v hvv
    exact Zq735 ho2 hN2 (by omega) ht hLp hvv r0 ⟨by omega,by omega⟩ (by omega) ⟨by omega,by omega⟩
   have hround:∃v:Opd,opdOk v/\q97_F1 (R E) Zx E.glob (q97_s1 (most:Int) (nxF h0) n L (mem:Int) i xs ((k+1:Nat):Int) s0 s1 h)=(q97_k11 (R E) Zx E.glob) .normal (q97_c2 (most:Int) (nxF h0) n L (mem:Int) i xs ((k+1:Nat):Int) r (120+E.glob.rem .i64 (E.glob.shr .i64 r 4) L) s0 s1 v.cs H):=by
    have hw:E.glob.wrap .i64 (120+E.glob.rem .i64 (E.glob.shr .i64 r 4) L)=120+E.glob.rem .i64 (E.glob.shr .i64 r 4) L:=Zg (by omega) (by omega)
    rw [q97_r1,show decide (((k+1:Nat):Int) > 0)=true from decide_eq_true (by omega),scK_ok,bind_ok]
    dsimp only
    rw [if_pos (decide_eq_true (by omega)),hF,asI_ok,if_neg (by omega)]
    rw [hw,opd_num,opd_reg,if_pos ⟨rfl,rfl,rfl⟩]
    by_cases h8:(E.glob.rem .i64 (E.glob.shr .i64 r 8) 3==0)=true
    ·refine ⟨⟨E.glob.band .i64 (E.glob.shr .i64 r 10) 1,0⟩,.inr ⟨hb1,rfl⟩,?_⟩
     rw [if_pos h8,if_pos ⟨rfl,rfl,rfl⟩,bind_ok]
    ·refine ⟨⟨-1,E.glob.rem .i64 (E.glob.shr .i64 r 6) 3⟩,.inl ⟨rfl,q6.1,q6.2⟩,?_⟩
     rw [if_neg h8,bind_ok]
   obtain ⟨v,hvv,hround⟩:=hround
   obtain ⟨c2,mem2,xs2,h2,g1,g2,g3,g4,g5,g6,g7⟩:=hcase v hvv
   rw [g1,show ((k+1:Nat):Int) - 1=(k:Int) by omega] at hround
   obtain ⟨mem',m',kk',c',xs',h',f1,f2,f3,f4,f5,f6,f7,f8,f9,f10⟩:=ih mem2 (m+1) (kk+1) c2 xs2 h2 (by omega) (by omega) (by omega) (by omega) (hv2.keep (g7.mono hN0)) (Yo hN2 g7.1) g6 g2
   exact ⟨mem',m',kk',c',xs',h',Zbk hround f1,f2,by omega,by omega,f5,f6,by omega,f8,f9,(hset.trans g7.x).trans f10⟩
  ·refine ⟨mem,m,kk,c,xs,h,Zl ?_,ht,by omega,by omega,hmem,hv,by omega,hN,ho,KpX.refl _ _ _⟩
   rw [q97_r1,show decide (((k+1:Nat):Int) > 0)=true from decide_eq_true (by omega),scK_ok,bind_ok]
   dsimp only
   rw [if_neg (by simp;omega)]
theorem Zzb (l:List (List Ins)) (c:List Ins):((l++[c]).map Zfw).sum=(l.map Zfw).sum+Zfw c:=by
 rw [Ybz,Yca];simp
theorem Zq704 (hE:q115_In E) {h0:Za} {x:Cell} {l:List Int} (hx:SlAt h0 x 1 (intC .i64 l) l.length) (hlow:Low h0.length x) (hl:l.length<9223372036854775808)
  {most:Nat} (hmost:most<=900) {n:Nat} (hn:n<=3) {L:Int} (hL:L=2∨L=3) (s0:List Cell) (a:Cell) {name:ByteArray} {Nb:Nat} (hNb:h0.length+2<=Nb):∀(q i mem m:Nat) (rows:List (List Ins)) (y:Cell) (h:Za),i+q=n->rows.length=i->mem<=most->m+4*q<900 ->
   (rows.map Zfw).sum=mem->(∀c∈rows,∃k,k<=3/\ThrOk L k c)->VarsAt h0 x h m->Nb<=h.length->RowsOwn 9 Zai Nb h y rows ->
   ∃(mem' m':Nat) (rows':List (List Ins)) (y':Cell) (h':Za),Zx (q97_F2 (R E) Zx E.glob) (q97_s2 (most:Int) (nxF h0) (n:Int) L (mem:Int) (i:Int) s0 [.str name,a,y,.int .i64 0,.nils] h)=some (.exit 0,q97_x2_1 (nxF h0) s0 [.str name,a,y',.int .i64 0,.nils] h') /\
    rows'.length=n/\mem'<=most/\(rows'.map Zfw).sum=mem'/\(∀c∈rows',∃k,k<=3/\ThrOk L k c)/\VarsAt h0 x h' m'/\m'<=m+4*q/\Nb<=h'.length/\RowsOwn 9 Zai Nb h' y' rows'/\KpX (h0.length+1) Nb h h':=by
 intro q
 induction q with
 | zero =>
  intro i mem m rows y h hi hr hmem _ hs hc hv hN hy
  refine ⟨mem,m,rows,y,h,Zl ?_,by omega,hmem,hs,hc,hv,by omega,hN,hy,KpX.refl _ _ _⟩
  rw [q97_r2,if_neg (by simp;omega)]
 | succ q ih =>
  intro i mem m rows y h hi hr hmem hm hs hc hv hN hy
  obtain ⟨r,r0,r1,hF,hv2⟩:=Zlk hE hx hlow hl hv (by omega)
  have hset:KpX (h0.length+1) Nb h (setBlk h (h0.length+1) (some ⟨true,0,[.int .i64 ((m+1:Nat):Int)]⟩)):=KpX.set _ _ _ _
  have hy2:=hy.keepX (show h0.length+1<Nb by omega) (KpX.set (h0.length+1) h.length h (some ⟨true,0,[.int .i64 ((m+1:Nat):Int)]⟩))
  have hN2:Nb<=(setBlk h (h0.length+1) (some ⟨true,0,[.int .i64 ((m+1:Nat):Int)]⟩)).length:=by rw [Zcs];exact hN
  generalize setBlk h (h0.length+1) (some ⟨true,0,[.int .i64 ((m+1:Nat):Int)]⟩)=H at *
  have q3:=Zfb (E:=E) r0 (show (0:Int)<3 by omega)
  obtain ⟨k,hk⟩:∃k:Nat,E.glob.rem .i64 r 3+1=(k:Int):=⟨(E.glob.rem .i64 r 3+1).toNat,by omega⟩
  obtain ⟨mem',m',kk',c',xs',h',f1,f2,f3,f4,f5,f6,f7,f8,f9,f10⟩:=Zq793 hE hx hlow hl hmost (n:=n) (i:=(i:Int)) hL s0 [.str name,a,y,.int .i64 0,.nils] H.length (Yo hNb hN2) k mem (m+1) 0 [] .nils H (by omega) (by omega) hmem (by omega) hv2 (Yh _) (Own.nil _ _ _) ThrOk.nil
  have hy3:=hy2.keepX (show h0.length+1<Nb by omega) f10
  obtain ⟨y2,h2,hap,hyp,hkp,_⟩:=hy3.push (f9.monoN hN2) (fun j h1 h2=>by have:=(f9.blkLt h1).2;have:=(hy2.blkLt h2).1;omega) (Yo hN2 f8) (by omega)
  have hm0:Zfw c'+mem=mem':=by have:Zfw ([]:List Ins)=0:=rfl;omega
  have hround:q97_F2 (R E) Zx E.glob (q97_s2 (most:Int) (nxF h0) (n:Int) L (mem:Int) (i:Int) s0 [.str name,a,y,.int .i64 0,.nils] h)=some (.normal,q97_s2 (most:Int) (nxF h0) (n:Int) L (mem':Int) ((i+1:Nat):Int) s0 [.str name,a,y2,.int .i64 0,.nils] h2):=by
   have hw:E.glob.wrap .i64 (E.glob.rem .i64 r 3+1)=(k:Int):=by rw [Zg (by omega) (by omega),hk]
   rw [q97_r2,if_pos (by simp;omega),hF,asI_ok,hw,f1,bind_ok,q97_e1_3,show ∀{α:Type} (f:Cell->Option α),Zf [.str name,a,y,.int .i64 0,.nils] 2 f=f y from fun _=>rfl,if_pos (show (splice [Cell.nils] 0 [xs']).length=1*1 from rfl),show splice [Cell.nils] 0 [xs']=[xs'] from rfl,hap,if_pos (show 2<([.str name,a,y,.int .i64 0,.nils]:List Cell).length by simp),Zr (by omega)]
   rfl
  obtain ⟨mem3,m3,rows3,y3,h3,g1,g2,g3,g4,g5,g6,g7,g8,g9,g10⟩:=ih (i+1) mem' m' (rows++[c']) y2 h2 (by omega) (by rw [Yb,Yl];omega) f5 (by omega) (by rw [Zzb];omega)
   (fun c hcm=>by
    rcases Yah.1 hcm with hcm | hcm
    ·exact hc c hcm
    ·simp at hcm;subst hcm;exact ⟨kk',by omega,f2⟩) (f6.keep (hkp.mono hNb)) (Yo (Yo hN2 f8) hkp.1) hyp
  exact ⟨mem3,m3,rows3,y3,h3,Zbk hround g1,g2,g3,g4,g5,g6,by omega,g8,g9,((hset.trans (f10.mono hN2)).trans hkp.x).trans g10⟩
end
theorem plc_get {c:Int}:∀(l:List Int) (i:Nat),c∈l->∃j:Nat,plc l c i=((i+j:Nat):Int)/\l[j]? = some c
 | [],_,h=>by cases h
 | d :: t,i,h=>by
  rw [plc]
  by_cases e:d=c
  ·exact ⟨0,by rw [if_pos e];rfl,by rw [e];rfl⟩
  ·rw [if_neg e]
   have hm:c∈t:=by
    rcases List.mem_cons.1 h with h | h
    ·exact absurd h.symm e
    ·exact h
   obtain ⟨j,h1,h2⟩:=plc_get t (i+1) hm
   exact ⟨j+1,by rw [h1];congr 1;omega,by simpa using h2⟩
section
variable {E:Env}
theorem Clone_R (hE:q119_In E) {x:Cell} {l:List Ins} {h:Za} (hx:SlAt h x 9 (Zai l) l.length) (hlow:Low h.length x) (hl:l.length<=1000) :
  ∃x' h',R E 119 [.c x] h=some ([.c x'],h')/\Own h.length h' x' 9 (Zai l) l.length/\Kp h.length h h':=by
 have hm:maxBytes>=1000*72:=by unfold maxBytes;omega
 have hlen:=Zoi l
 rcases hx.2 with ⟨rfl,h0⟩ | ⟨k,N,off,rfl,hb⟩
 ·refine ⟨.nils,h,Zd hE.fn ?_,⟨hlen,.inl ⟨rfl,h0⟩⟩,Kp.refl _ _⟩
  rw [q119_eq];rfl
 ·have hk1:Kp h.length h (h++[some ⟨true,9,[]⟩]):=Kp.app _ (Yh _)
  have hx2:=hx.keep hlow hk1
  have hc:Zah (h++[some ⟨true,9,[]⟩]) 9 (.sl k N off l.length)=some (Zai l):=by
   unfold Zah
   dsimp only
   by_cases h0:l.length=0
   ·have:l=[]:=Yv.1 h0
    rw [if_pos h0,this];rfl
   ·rw [if_neg h0]
    rcases hx2.2 with ⟨e,_⟩ | ⟨k',N',off',e,hb⟩
    ·cases e
    ·cases e
     rcases hb with hb | ⟨b,hb,hN,hle,hat⟩
     ·exact absurd hb h0
     ·rw [hb]
      simp only
      rw [if_pos ⟨hN,hle⟩]
      congr 1
      refine Yak fun j=>?_
      rw [Ys,Yac]
      by_cases hj:j<l.length*9
      ·rw [if_pos hj,hat j hj]
      ·rw [if_neg hj,Yap (by omega)]
  have hap:∀{α:Type} (f:Cell->Za->Option α),Zaq 9 72 (.sl h.length 0 0 0) (Zai l) (h++[some ⟨true,9,[]⟩]) f=f (.sl h.length (Zai l).length 0 l.length) (h++[some ⟨true,9,Zai l⟩]):=by
   intro α f
   unfold Zaq
   simp only
   rw [Zaa,Yag]
   dsimp only
   have hd:(Zai l).length / 9=l.length:=by rw [hlen];omega
   rw [if_pos ⟨rfl,rfl,rfl,by simp,by rw [hd];simp;omega,by rw [hd];simp;omega⟩,hd]
   by_cases h0:l.length=0
   ·have:l=[]:=Yv.1 h0
    subst this
    rw [if_pos (by simp [Zai]),setBlk_last];rfl
   ·rw [if_neg (by omega),if_pos trivial,setBlk_last]
    simp
  refine ⟨.sl h.length (Zai l).length 0 l.length,h++[some ⟨true,9,Zai l⟩],Zd hE.fn ?_,⟨hlen,.inr ⟨h.length,rfl,Yh _,Zaa _ _⟩⟩,Kp.app _ (Yh _)⟩
  rw [q119_eq,show ∀{α:Type} (f:Bool->Option α),Zcm false (.sl k N off l.length) .nils f=f false from fun _=>rfl,if_neg (by simp),if_pos (show ([]:List Cell).length=0*9 from rfl),hc,bind_ok,show ([]:List Cell).length=0 from rfl,hap]
end
section
variable {E:Env}
theorem rd3 {α:Type} {h:Za} {k:Nat} {a b c:Cell} (hk:blk? h k=some ⟨true,0,[a,b,c]⟩) {F:List Cell->Option α}:Zn h k 3 F=F [a,b,c]:=Zq hk rfl
end
section
variable (C:Zk) (L:Zbl) (G:Glo)
variable {h0:Za}
variable {x0:Cell}
variable {a1:Int}
theorem q76_eq:q76.body C L G [(.c x0),(.c (.int .i64 a1))] h0=c1 (C 97 [(.c x0),(.c (.int .i64 a1))] h0) fun y h=>asA y fun l=>c1 (C 101 [(.agg l)] h) fun y h=>asA y fun l=>if 0=0/\[Cell.nils,Cell.nils,Cell.nils].length=3/\l.length=3 then if 0=0/\l.length=3 then some ([(.agg l)],h) else none else none:=by kernel_rfl
end
section
variable {E:Env}
def tName:ByteArray:=ByteArray.mk #[116]
theorem Zq743 (hE:q115_In E) {h0 h hb:Za} {x:Cell} {l:List Int} (hx:SlAt h0 x 1 (intC .i64 l) l.length) (hlow:Low h0.length x) (hl:l.length<9223372036854775808) {m:Nat} (hv:VarsAt h0 x h m) (hm:m<1000)
  {most:Nat} {rows:List (List Ins)} {a y:Cell} {inits:List (Int × Int)} {Nb:Nat} (hNb:h0.length+2<=Nb) (hN:Nb<=h.length) (hy:RowsOwn 9 Zai Nb h y rows) (ha:SlAt h a 2 (Zeo inits) inits.length/\Low h.length a/\∀k,Zad a k->k≠h0.length+1)
  (hi:inits=[]∨∃v:Int,0<=v/\v<3/\inits=[(120,v)]) (hn:2<=rows.length/\rows.length<=3) (hmem:(rows.map Zfw).sum<=most) (hc:∃L:Int,(L=2∨L=3)/\∀c∈rows,∃k,k<=3/\ThrOk L k c) {s0:List Cell} (hs0:s0.length=5) :
  ∃(cs:List Cell) (h':Za) (T:PTest),(q97_k4 (R E) Zx E.glob hb) (.exit 0) (q97_x2_1 (nxF h0) s0 [.str tName,a,y,.int .i64 0,.nils] h)=some ([.agg cs],h')/\TestAt h' cs T/\GoodT most T/\Kp h0.length h0 h':=by
 obtain ⟨r,r0,r1,hF,hv2⟩:=Zlk hE hx hlow hl hv (by omega)
 have hset:=KpX.set (h0.length+1) h.length h (some ⟨true,0,[.int .i64 ((m+1:Nat):Int)]⟩)
 have hy2:=hy.keepX (show h0.length+1<Nb by omega) hset
 have ha2:SlAt (setBlk h (h0.length+1) (some ⟨true,0,[.int .i64 ((m+1:Nat):Int)]⟩)) a 2 (Zeo inits) inits.length:=by
  refine ⟨ha.1.1,ha.1.2.imp id ?_⟩
  rintro ⟨k,N,off,e,hh | ⟨b,hb,hN,hle,hat⟩⟩
  ·exact ⟨k,N,off,e,.inl hh⟩
  ·have hk:=ha.2.2 k (by rw [e];rfl)
   exact ⟨k,N,off,e,.inr ⟨b,by rw [Zbc (fun q=>hk q.symm)];exact hb,hN,hle,hat⟩⟩
 have hal2:Low (setBlk h (h0.length+1) (some ⟨true,0,[.int .i64 ((m+1:Nat):Int)]⟩)).length a:=by rw [Zcs];exact ha.2.1
 rw [q97_e2_1,hF,asI_ok]
 generalize setBlk h (h0.length+1) (some ⟨true,0,[.int .i64 ((m+1:Nat):Int)]⟩)=H at *
 have q5:=Zfb (E:=E) (shr_nn (E:=E) (k:=5) r0) (show (0:Int)<3 by omega)
 by_cases h3:(E.glob.rem .i64 r 3==0)=true
 ·rw [if_pos h3]
  dsimp only
  generalize E.glob.band .i64 (E.glob.shr .i64 r 3) 1=b3
  generalize E.glob.band .i64 (E.glob.shr .i64 r 4) 1=b4
  generalize E.glob.rem .i64 (E.glob.shr .i64 r 5) 3=v5
  generalize E.glob.band .i64 (E.glob.shr .i64 r 7) 1=b7
  generalize E.glob.wrap .i64 (E.glob.rem .i64 (E.glob.quo .i64 r 3) 2+1)=ck
  have e1:splice (splice (splice [ci0,ci0,ci0,ci0] 0 [(.int .i64 0)]) 1 [(.int .i64 b3)]) 3 [(.int .i64 b4)]=(Atm.mk 0 b3 0 b4).cs:=rfl
  have e2:splice (splice (splice [ci0,ci0,ci0,ci0] 0 [(.int .i64 (-1))]) 2 [(.int .i64 120)]) 3 [(.int .i64 v5)]=(Atm.mk (-1) 0 120 v5).cs:=rfl
  have e3:splice (splice (splice [ci0,ci0,ci0,ci0] 0 [(.int .i64 1)]) 1 [(.int .i64 0)]) 3 [(.int .i64 b7)]=(Atm.mk 1 0 0 b7).cs:=rfl
  have e4:∀a:Atm,splice [ci0,ci0,ci0,ci0] 0 a.cs=Zgw [a]:=fun _=>rfl
  have e5:∀a b:Atm,splice (splice (Ya 8 ci0) 0 a.cs) 4 b.cs=Zgw [a,b]:=fun _ _=>rfl
  have e6:∀a b:Cell,splice (splice [Cell.nils,Cell.nils] 0 [a]) 1 [b]=[a,b]:=fun _ _=>rfl
  have e7:∀a b:Cell,splice (splice [ci0,Cell.nils] 0 [a]) 1 [b]=[a,b]:=fun _ _=>rfl
  have l1:∀a:Atm,(Zgw [a]).length=4:=fun _=>rfl
  have l2:∀a b:Atm,(Zgw [a,b]).length=8:=fun _ _=>rfl
  simp only [e1,e2,e3,e4,e5,e6,e7,l1,l2]
  rw [if_pos ⟨rfl,by simp⟩,if_pos trivial,if_pos ⟨rfl,by simp⟩,if_pos ⟨rfl,by simp [splice,Atm.cs]⟩,if_pos trivial,if_pos (by simp),if_pos (by simp),if_pos (by simp [splice]),if_pos (by simp [splice,hs0]),if_pos (by simp [splice])]
  have k1:Kp H.length H (H++[some ⟨true,4,Zgw [⟨0,b3,0,b4⟩]⟩]):=Kp.app _ (Yh _)
  have n1:(H++[some (Blk.mk true 4 (Zgw [⟨0,b3,0,b4⟩]))]).length=H.length+1:=by simp
  have c1':blk? (H++[some ⟨true,4,Zgw [⟨0,b3,0,b4⟩]⟩]) H.length=some ⟨true,4,Zgw [⟨0,b3,0,b4⟩]⟩:=Zaa _ _
  generalize H++[some (Blk.mk true 4 (Zgw [⟨0,b3,0,b4⟩]))]=H1 at *
  have k2:Kp H.length H (H1++[some ⟨true,4,Zgw [⟨-1,0,120,v5⟩,⟨1,0,0,b7⟩]⟩]):=k1.trans (Kp.app _ (by omega))
  have n2:(H1++[some (Blk.mk true 4 (Zgw [⟨-1,0,120,v5⟩,⟨1,0,0,b7⟩]))]).length=H1.length+1:=by simp
  have c2':blk? (H1++[some ⟨true,4,Zgw [⟨-1,0,120,v5⟩,⟨1,0,0,b7⟩]⟩]) H1.length=some ⟨true,4,Zgw [⟨-1,0,120,v5⟩,⟨1,0,0,b7⟩]⟩:=Zaa _ _
  have c1'':blk? (H1++[some ⟨true,4,Zgw [⟨-1,0,120,v5⟩,⟨1,0,0,b7⟩]⟩]) H.length=some ⟨true,4,Zgw [⟨0,b3,0,b4⟩]⟩:=Zfn c1' _
  generalize H1++[some (Blk.mk true 4 (Zgw [⟨-1,0,120,v5⟩,⟨1,0,0,b7⟩]))]=H2 at *
  have k3:Kp H.length H (H2++[some ⟨true,1,[Cell.sl H.length 4 0 1,Cell.sl H1.length 8 0 2]⟩]):=k2.trans (Kp.app _ (by omega))
  have c3':blk? (H2++[some ⟨true,1,[Cell.sl H.length 4 0 1,Cell.sl H1.length 8 0 2]⟩]) H2.length=some ⟨true,1,[Cell.sl H.length 4 0 1,Cell.sl H1.length 8 0 2]⟩:=Zaa _ _
  have c2'':blk? (H2++[some ⟨true,1,[Cell.sl H.length 4 0 1,Cell.sl H1.length 8 0 2]⟩]) H1.length=some ⟨true,4,Zgw [⟨-1,0,120,v5⟩,⟨1,0,0,b7⟩]⟩:=Zfn c2' _
  have c1''':blk? (H2++[some ⟨true,1,[Cell.sl H.length 4 0 1,Cell.sl H1.length 8 0 2]⟩]) H.length=some ⟨true,4,Zgw [⟨0,b3,0,b4⟩]⟩:=Zfn c1'' _
  have n3:(H2++[some (Blk.mk true 1 [Cell.sl H.length 4 0 1,Cell.sl H1.length 8 0 2])]).length=H2.length+1:=by simp
  refine ⟨_,_,⟨tName,inits,rows,ck,[[⟨0,b3,0,b4⟩],[⟨-1,0,120,v5⟩,⟨1,0,0,b7⟩]]⟩,rfl,?_,⟨(by show tName.size<=20;decide),hn,hc,hmem,hi,by simp,?_⟩,hv2.2.2.2.trans (k3.mono (by have:=hv2.2.2.1;omega))⟩
  ·refine ⟨a,y,.sl H2.length 2 0 2,by simp [splice],⟨ha2.keep hal2 k3,Zbi k3.1 hal2⟩,hy2.of.keep k3,⟨[Cell.sl H.length 4 0 1,Cell.sl H1.length 8 0 2],⟨rfl,.inr ⟨_,_,0,rfl,.inr ⟨_,c3',rfl,by simp,fun j _=>by simp⟩⟩⟩,.inr (by omega),fun t r ht=>?_⟩⟩
   match t,ht with
   | 0,ht =>
    cases ht
    exact ⟨_,rfl,⟨rfl,.inr ⟨_,_,0,rfl,.inr ⟨_,c1''',rfl,by simp,fun j _=>by simp⟩⟩⟩,.inr (by omega)⟩
   | 1,ht =>
    cases ht
    exact ⟨_,rfl,⟨rfl,.inr ⟨_,_,0,rfl,.inr ⟨_,c2'',rfl,by simp,fun j _=>by simp⟩⟩⟩,.inr (by omega)⟩
   | t+2,ht=>simp at ht
  ·intro row hr
   simp only [List.mem_cons,List.not_mem_nil,or_false] at hr
   rcases hr with rfl | rfl
   ·exact ⟨by simp,fun a ha=>by simp at ha;subst ha;exact .inl rfl⟩
   ·refine ⟨by simp,fun a ha=>?_⟩
    simp at ha
    rcases ha with rfl | rfl
    ·exact .inr rfl
    ·exact .inl rfl
 ·rw [if_neg h3,if_pos ⟨rfl,rfl⟩,if_pos ⟨rfl,hs0,rfl⟩,if_pos ⟨rfl,rfl⟩]
  refine ⟨_,_,⟨tName,inits,rows,0,[]⟩,rfl,⟨a,y,.nils,rfl,⟨ha2,hal2⟩,hy2.of,⟨[],⟨rfl,.inl ⟨rfl,rfl⟩⟩,trivial,fun t r ht=>by simp at ht⟩⟩,⟨(by show tName.size<=20;decide),hn,hc,hmem,hi,by simp,by simp⟩,hv2.2.2.2⟩
theorem Small_R (hE:q97_In E) {h:Za} {x:Cell} {l:List Int} (hx:SlAt h x 1 (intC .i64 l) l.length) (hlow:Low h.length x) (hl:l.length<9223372036854775808) {most:Nat} (hmost:most<=900) :
  ∃(cs:List Cell) (h':Za) (T:PTest),R E 97 [.c x,.c (.int .i64 (most:Int))] h=some ([.agg cs],h')/\TestAt h' cs T/\GoodT most T/\Kp h.length h h':=by
 suffices hs:∃(cs:List Cell) (h':Za) (T:PTest),q97.body (R E) Zx E.glob [.c x,.c (.int .i64 (most:Int))] h=some ([.agg cs],h')/\TestAt h' cs T/\GoodT most T/\Kp h.length h h' by
  obtain ⟨cs,h',T,h1,h2⟩:=hs;exact ⟨cs,h',T,Zd hE.fn h1,h2⟩
 have hc:AV.cells (.c x)=[x]:=rfl
 have hl1:([x]:List Cell).length=1:=rfl
 have hl0:([ci0]:List Cell).length=1:=rfl
 have hln:(h++[some (Blk.mk true 0 [x])]).length=h.length+1:=by simp
 have hnm:splice [Cell.str (ByteArray.mk #[]),Cell.nils,Cell.nils,ci0,Cell.nils] 0 ([(.str (ByteArray.mk #[116]))]:List Cell)=[.str tName,.nils,.nils,.int .i64 0,.nils]:=rfl
 rw [q97_eq,hc,hl1,hl0,hnm,if_pos ⟨rfl,rfl,rfl⟩,Zvj (Zaa _ _),if_pos (by simp),Zct (Zaa _ _) rfl,setBlk_last]
 dsimp only [List.set]
 rw [hln]
 have hv0:VarsAt h x (h++[some ⟨true,0,[x]⟩]++[some ⟨true,0,[ci0]⟩]) 0:=by
  refine ⟨Zfn (Zaa _ _) _,?_,by simp,?_⟩
  ·have:=Zaa (h++[some (Blk.mk true 0 [x])]) ⟨true,0,[ci0]⟩
   rw [hln] at this;exact this
  ·rw [Yg];exact Kp.app _ (Yh _)
 have hlen0:(h++[some (Blk.mk true 0 [x])]++[some (Blk.mk true 0 [ci0])]).length=h.length+2:=by simp
 generalize h++[some (Blk.mk true 0 [x])]++[some (Blk.mk true 0 [ci0])]=H0 at *
 rw [show (Cell.fn 115 [(h.length+1,1,0),(h.length,1,0)])=nxF h from rfl]
 obtain ⟨a0,a0p,_,hF1,hv1⟩:=Zlk hE.c115 hx hlow hl hv0 (by omega)
 rw [hF1,asI_ok]
 have hlen1:(setBlk H0 (h.length+1) (some ⟨true,0,[.int .i64 ((0+1:Nat):Int)]⟩)).length=h.length+2:=by rw [Zcs,hlen0]
 generalize setBlk H0 (h.length+1) (some ⟨true,0,[.int .i64 ((0+1:Nat):Int)]⟩)=H1 at *
 obtain ⟨a1,a1p,_,hF2,hv2⟩:=Zlk hE.c115 hx hlow hl hv1 (by omega)
 rw [hF2,asI_ok]
 have hlen2:(setBlk H1 (h.length+1) (some ⟨true,0,[.int .i64 ((0+1+1:Nat):Int)]⟩)).length=h.length+2:=by rw [Zcs,hlen1]
 generalize setBlk H1 (h.length+1) (some ⟨true,0,[.int .i64 ((0+1+1:Nat):Int)]⟩)=H2 at *
 obtain ⟨a2,a2p,_,hF3,hv3⟩:=Zlk hE.c115 hx hlow hl hv2 (by omega)
 rw [hF3,asI_ok]
 have hlen3:(setBlk H2 (h.length+1) (some ⟨true,0,[.int .i64 ((0+1+1+1:Nat):Int)]⟩)).length=h.length+2:=by rw [Zcs,hlen2]
 generalize setBlk H2 (h.length+1) (some ⟨true,0,[.int .i64 ((0+1+1+1:Nat):Int)]⟩)=H3 at *
 have n2:=Zfb (E:=E) a0p (show (0:Int)<2 by omega)
 have n3:=Zfb (E:=E) a1p (show (0:Int)<2 by omega)
 have w2:E.glob.wrap .i64 (E.glob.rem .i64 a0 2+2)=E.glob.rem .i64 a0 2+2:=Zg (by omega) (by omega)
 have w3:E.glob.wrap .i64 (E.glob.rem .i64 a1 2+2)=E.glob.rem .i64 a1 2+2:=Zg (by omega) (by omega)
 rw [w2,w3]
 obtain ⟨n,hn⟩:∃n:Nat,E.glob.rem .i64 a0 2+2=(n:Int):=⟨(E.glob.rem .i64 a0 2+2).toNat,by omega⟩
 generalize hLL:E.glob.rem .i64 a1 2+2=L at *
 rw [hn]
 have rest:∀(m:Nat) (H:Za) (a:Cell) (inits:List (Int × Int)),m<=4->VarsAt h x H m->SlAt H a 2 (Zeo inits) inits.length->Low H.length a->(∀k,Zad a k->k≠h.length+1)->(inits=[]∨∃v:Int,0<=v/\v<3/\inits=[(120,v)]) ->
   ∃(cs:List Cell) (h':Za) (T:PTest),(q97_k2 (R E) Zx E.glob h) .normal (q97_c1 (most:Int) (nxF h) (n:Int) L [Cell.str (ByteArray.mk #[]),Cell.nils,Cell.nils,ci0,Cell.nils] [.str tName,a,.nils,.int .i64 0,.nils] H)=some ([.agg cs],h')/\TestAt h' cs T/\GoodT most T/\Kp h.length h h':=by
  intro m H a inits hm hv ha hal had hi
  obtain ⟨mem',m',rows',y',H',f1,f2,f3,f4,f5,f6,f7,f8,f9,f10⟩:=Zq704 hE.c115 hx hlow hl hmost (n:=n) (by omega) (L:=L) (by omega) [Cell.str (ByteArray.mk #[]),Cell.nils,Cell.nils,ci0,Cell.nils] a (name:=tName) (Nb:=H.length) hv.2.2.1 n 0 0 m [] .nils H (by omega) rfl (by omega) (by omega) rfl (by simp) hv (Yh _) (RowsOwn.nil _)
  have ha':SlAt H' a 2 (Zeo inits) inits.length:=by
   refine ⟨ha.1,ha.2.imp id ?_⟩
   rintro ⟨k,N,off,e,hh | ⟨b,hb,hN,hle,hat⟩⟩
   ·exact ⟨k,N,off,e,.inl hh⟩
   ·exact ⟨k,N,off,e,.inr ⟨b,by rw [f10.blk (Zar hb) (had k (by rw [e];rfl))];exact hb,hN,hle,hat⟩⟩
  obtain ⟨cs,h',T,g1,g2,g3,g4⟩:=Zq743 hE.c115 (hb:=h) hx hlow hl f6 (by omega) (most:=most) (rows:=rows') (a:=a) (y:=y') (inits:=inits) (Nb:=H.length) hv.2.2.1 f8 f9 ⟨ha',Zbi f10.1 hal,had⟩ hi (by omega) (by omega) ⟨L,by omega,f5⟩ (s0:=[Cell.str (ByteArray.mk #[]),Cell.nils,Cell.nils,ci0,Cell.nils]) rfl
  refine ⟨cs,h',T,?_,g2,g3,g4⟩
  rw [q97_ec1_n]
  have e0:q97_s2 (most:Int) (nxF h) (n:Int) L 0 0 [Cell.str (ByteArray.mk #[]),Cell.nils,Cell.nils,ci0,Cell.nils] [.str tName,a,.nils,.int .i64 0,.nils] H=q97_s2 (most:Int) (nxF h) (n:Int) L ((0:Nat):Int) ((0:Nat):Int) [Cell.str (ByteArray.mk #[]),Cell.nils,Cell.nils,ci0,Cell.nils] [.str tName,a,.nils,.int .i64 0,.nils] H:=rfl
  rw [e0,f1,bind_ok,g1]
 by_cases h4:(E.glob.rem .i64 a2 4==0)=true
 ·obtain ⟨a3,a3p,_,hF4,hv4⟩:=Zlk hE.c115 hx hlow hl hv3 (by omega)
  have q3:=Zfb (E:=E) a3p (show (0:Int)<3 by omega)
  rw [if_pos h4,show ∀{α:Type} (f:Cell->Option α),Zf [Cell.str tName,.nils,.nils,.int .i64 0,.nils] 1 f=f .nils from fun _=>rfl,hF4,asI_ok]
  have hlen4:(setBlk H3 (h.length+1) (some ⟨true,0,[.int .i64 ((0+1+1+1+1:Nat):Int)]⟩)).length=h.length+2:=by rw [Zcs,hlen3]
  generalize setBlk H3 (h.length+1) (some ⟨true,0,[.int .i64 ((0+1+1+1+1:Nat):Int)]⟩)=H4 at *
  generalize E.glob.rem .i64 a3 3=v at *
  have e1:splice (splice [ci0,ci0] 0 [(.int .i64 120)]) 1 [(.int .i64 v)]=Zeo [(120,v)]:=rfl
  have e2:splice [ci0,ci0] 0 (Zeo [(120,v)])=Zeo [(120,v)]:=rfl
  have hm:maxBytes>=100:=by unfold maxBytes;omega
  have hap:∀{α:Type} (f:Cell->Za->Option α),Zaq 2 16 .nils (Zeo [(120,v)]) H4 f=f (.sl H4.length 2 0 1) (H4++[some ⟨true,2,Zeo [(120,v)]⟩]):=by
   intro α f
   unfold Zaq
   simp only
   rw [if_neg (by simp [Zeo]),if_pos ⟨by simp [Zeo];omega,by simp [Zeo];omega⟩]
   simp [Zeo]
  rw [e1,if_pos ⟨rfl,by simp⟩,e2,if_pos (show (Zeo [(120,v)]).length=1*2 from rfl),hap,if_pos (by simp),bind_ok]
  have hv5:VarsAt h x (H4++[some ⟨true,2,Zeo [(120,v)]⟩]) (0+1+1+1+1):=hv4.keep (Kp.app _ (by omega))
  exact rest (0+1+1+1+1) _ (.sl H4.length 2 0 1) [(120,v)] (by omega) hv5 ⟨rfl,.inr ⟨_,_,0,rfl,.inr ⟨_,Zaa _ _,rfl,by simp,fun j _=>by simp⟩⟩⟩ (.inr (by simp)) (fun k hk=>by have:H4.length=k:=hk;omega) (.inr ⟨v,q3.1,q3.2,rfl⟩)
 ·rw [if_neg h4,bind_ok]
  exact rest (0+1+1+1) _ .nils [] (by omega) hv3 ⟨rfl,.inl ⟨rfl,rfl⟩⟩ trivial (fun k hk=>by cases hk) (.inl rfl)
end
section
variable {E:Env}
end
section
variable {E:Env}
end
def SkipOk (code:List Ins):Prop:=∀(j:Nat) (i:Ins),code[j]? = some i->i.kind=6->0<=i.n/\(j:Int)+1+i.n<=code.length
structure GoodP (most:Nat) (P:PProg):Prop where
 small:P.small
 good:P.good
 n:2<=P.thr.length/\P.thr.length<=3
 init:P.init.length<=3
 locs:P.locs.length=P.init.length
 code:∀c∈P.thr,c.length<=6
 skip:∀c∈P.thr,SkipOk c
theorem SmI.good {L:Int} {i:Ins} (s:SmI L i) {n:Nat} (hn:1<=n):GoodI n i:=by
 rcases s with ⟨h1,h2,_⟩ | ⟨h1,h2,_⟩ | rfl | ⟨h1,h2,_⟩ | ⟨h1,h2,_,_,h3,_⟩ | ⟨h1,h2,_,_,h3,_,h4⟩
 all_goals refine ⟨?_,?_,?_,?_⟩<;>(try simp only)<;>omega
theorem SmI.skip {L:Int} {i:Ins} (s:SmI L i) (h:i.kind=6):i.n=1:=by
 rcases s with ⟨h1,_⟩ | ⟨h1,_⟩ | rfl | ⟨h1,_⟩ | ⟨h1,_⟩ | ⟨h1,h2,_,_,h3,_,h4⟩
 ·omega
 ·omega
 ·simp at h
 ·omega
 ·omega
 ·exact h4
theorem ThrOk.skip {L:Int} {k:Nat} {c:List Ins} (t:ThrOk L k c):SkipOk c:=by
 induction t with
 | nil=>intro j i h;simp at h
 | @one k c q t hq h6 ih =>
  intro j i h hk
  rcases Ybt j c.length with hj | hj
  ·rw [Yk hj] at h
   have:=ih j i h hk
   rw [Yb];simp;omega
  ·rw [Yi hj] at h
   have:=Yf h
   rw [Yav] at this
   subst this;exact absurd hk h6
 | @two k c q r t hq h6 hr hr1 ih =>
  intro j i h hk
  rcases Ybt j c.length with hj | hj
  ·rw [Yk hj] at h
   have:=ih j i h hk
   rw [Yb];simp;omega
  ·rw [Yi hj] at h
   have h2:=Zs h
   simp only [Yr,Yaa] at h2
   rcases (show j - c.length=0∨j - c.length=1 by omega) with e | e
   ·rw [e] at h
    cases h
    have:=hq.skip hk
    rw [Yb];simp;omega
   ·rw [e] at h
    cases h
    omega
theorem Zmn {locs:List Int} {i:Ins}:(Zdd locs i).kind=i.kind/\(Zdd locs i).n=i.n:=by
 unfold Zdd;split<;>exact ⟨rfl,rfl⟩
theorem SkipOk.map {locs:List Int} {c:List Ins} (s:SkipOk c):SkipOk (c.map (Zdd locs)):=by
 intro j i h hk
 rw [Yaj] at h
 cases hc:c[j]? with
 | none=>rw [hc] at h;cases h
 | some q =>
  rw [hc] at h
  cases h
  rw [Zmn.1] at hk
  rw [Zmn.2,Yz]
  exact s j q hc hk
theorem Zq725 {locs:List Int} {i:Ins} {n:Nat} (g:GoodI n i):GoodI n (Zdd locs i):=by
 unfold Zdd
 split
 ·exact ⟨g.1,g.2,g.3,g.4⟩
 ·exact g
theorem SmI.loc {L:Int} {i:Ins} (s:SmI L i):i.loc=0∨(120<=i.loc/\i.loc<120+L):=by
 rcases s with ⟨h1,h2,h3,_⟩ | ⟨h1,h2,h3,_⟩ | rfl | ⟨h1,h2,h3,_⟩ | ⟨h1,h2,h3,_,_⟩ | ⟨h1,h2,h3,_,_,_⟩
 ·exact .inr h3
 ·exact .inr h3
 ·exact .inl rfl
 ·exact .inr h3
 ·exact .inl h3
 ·exact .inl h3
theorem Ztt (S:Nat->Bool) (hS:∀b,97<=b->b<120->S b=false):∀n,n<=26->(locsF S n).length<=n - 23
 | 0,_=>by simp [locsF]
 | n+1,h=>by
  have ih:=Ztt S hS n (by omega)
  rw [Zin]
  split
  ·rename_i hs
   have:¬97+n<120:=fun hlt=>by rw [hS _ (by omega) hlt] at hs;cases hs
   rw [Yb,Yl];omega
  ·omega
theorem GoodT.small {most:Nat} {T:PTest} (g:GoodT most T):T.small:=by
 obtain ⟨L,hL,hc⟩:=g.code
 refine ⟨?_,by have:=g.n;omega,fun c hcm=>?_,by have:=g.any.1;omega,fun c hcm=>by have:=(g.any.2 c hcm).1;omega⟩
 ·rcases g.inits with h | ⟨v,_,_,h⟩<;>rw [h]<;>simp
 ·obtain ⟨k,hk,ht⟩:=hc c hcm
  have:=ht.len;omega
theorem GoodT.few {most:Nat} {T:PTest} (g:GoodT most T):(Zaz T).length<=3:=by
 obtain ⟨L,hL,hc⟩:=g.code
 refine Yo (Ztt (Zdh T) (fun b h1 h2=>?_) 26 (Yh _)) (by omega)
 unfold Zdh
 rw [Ybl,Ybl]
 refine ⟨⟨?_,?_⟩,?_⟩
 ·rw [Yae]
  intro p hp
  rcases g.inits with h | ⟨v,_,_,h⟩
  ·rw [h] at hp;cases hp
  ·rw [h] at hp
   rw [Yav] at hp
   subst hp
   rw [beq_iff_eq];simp only;omega
 ·rw [Yae]
  intro c hcm
  rw [Ybw,Yae]
  intro i hi
  obtain ⟨k,hk,ht⟩:=hc c hcm
  rw [beq_iff_eq]
  have:=(ht.all i hi).loc
  omega
 ·rw [Yae]
  intro c hcm
  rw [Ybw,Yae]
  intro i hi
  rw [beq_iff_eq]
  have:=(g.any.2 c hcm).2 i hi
  omega
theorem GoodT.goodP {most:Nat} {T:PTest} (g:GoodT most T):GoodP most (Zdt T):=by
 obtain ⟨L,hL,hc⟩:=g.code
 have hlen:∀c∈T.thr,c.length<=6:=fun c hcm=>by
  obtain ⟨k,hk,ht⟩:=hc c hcm
  have:=ht.len;omega
 have hcode:∀c∈(Zdt T).thr,c.length<=6:=fun c hcm=>by
  obtain ⟨d,hd,rfl⟩:=Yas.1 hcm
  rw [Yz];exact hlen d hd
 have hn:(Zdt T).thr.length=T.thr.length:=Yz _
 have hi:(Zdt T).init.length=(Zaz T).length:=Yz _
 have hfew:=g.few
 have hgn:=g.n
 refine ⟨⟨by omega,fun c hcm=>by have:=hcode c hcm;omega⟩,⟨⟨by omega,fun c hcm=>by have:=hcode c hcm;omega⟩,fun c hcm=>?_⟩,by omega,by omega,hi.symm,hcode,fun c hcm=>by
  obtain ⟨d,hd,rfl⟩:=Yas.1 hcm
  obtain ⟨k,hk,ht⟩:=hc d hd
  exact ht.skip.map⟩
 obtain ⟨d,hd,rfl⟩:=Yas.1 hcm
 intro i him
 obtain ⟨j,hj,rfl⟩:=Yas.1 him
 rw [Yz]
 obtain ⟨k,hk,ht⟩:=hc d hd
 exact Zq725 ((ht.all j hj).good (List.length_pos_of_mem hj))
section
variable {E:Env}
end
section
variable {E:Env}
theorem Size_R (hE:q102_In E) {cs:List Cell} {P:PProg} {h:Za} (p:ProgAt h cs P) (hs:P.small):R E 102 [.agg cs] h=some ([.c (.int .i64 (Zoe P.thr))],h):=by
 obtain ⟨a,b,c,ts,rfl,_,_,⟨hc,_⟩,hx⟩:=p
 refine Zd hE.fn ?_
 have a2:∀{α:Type} (f:Cell->Option α),Zf [a,b,c] 2 f=f c:=fun _=>rfl
 have n2:=hs.1
 have loop:=Zao (F:=q102_F1 (R E) Zx E.glob) (fun i=>q102_s1 (Zoe (P.thr.take i)) c P.thr.length (i:Int) h) 0 P.thr.length (by omega) (p:=(.exit 0,q102_x1_1 (Zoe (P.thr.take P.thr.length)) h))
  (fun i _ hi=>by
   have hq:P.thr[i]? = some P.thr[i]:=Yc hi
   generalize P.thr[i]=q at hq
   obtain ⟨y,y1,y2,y3⟩:=hx i q hq
   have hsum:=sumT_le (P.thr.take i) fun c hc=>hs.2 c (Ybm hc)
   rw [Yp] at hsum
   have hql:=hs.2 q (Yf hq)
   have hw:E.glob.wrap .i64 (Zoe (P.thr.take i)+(q.length:Int))=Zoe (P.thr.take (i+1)):=by
    rw [Zbq hq,Zq745]
    unfold Zoe
    exact Zg (by omega) (by omega)
   rw [q102_r1,if_pos (by simp;omega),hc.get1 hi y1,y2.len,hw,Zr (by omega)])
  (Zl (by rw [q102_r1,if_neg (by simp)]))
 rw [Ym (Yh _),show Zoe (P.thr.take 0)=0 from rfl,show ((0:Nat):Int)=0 from rfl] at loop
 rw [q102_eq,a2,hc.len,loop,bind_ok,q102_e1_1]
end
section
variable {E:Env}
end
theorem splice_app (a b xs:List Cell) (j:Nat):splice (a++b) (a.length+j) xs=a++splice b j xs:=by
 unfold splice
 rw [List.take_append,Ybe,Ym (by omega),Yab (l:=a) (by omega)]
 simp only [Yw,Yg,show a.length+j - a.length=j by omega,show a.length+j+xs.length - a.length=j+xs.length by omega]
section
variable {E:Env}
end
section
variable (C:Zk) (L:Zbl) (G:Glo)
variable {h h0:Za}
variable {b6:Bool}
variable {a0 a1 a2 a3 a4 a5 a7 a8:Int}
variable {l0 s0:List Cell}
theorem q190_eq:q190.body C L G [(.c (.int .i64 a0))] h0=scK (a0 != 2) true (some ((a0 != 3),h0)) false h0 fun b h=>if b=true then if 0=0/\(Ya 74 ci0).length=74/\(splice (Ya 74 ci0) 0 [(.int .i64 0)]).length=74 then if 0=0/\(splice (Ya 74 ci0) 0 [(.int .i64 0)]).length=74 then some ([(.agg (splice (Ya 74 ci0) 0 [(.int .i64 0)]))],h) else none else none else if 0=0/\(Ya 74 ci0).length=74/\(splice (Ya 74 ci0) 0 [(.int .i64 a0)]).length=74 then if 0=0/\(splice (Ya 74 ci0) 0 [(.int .i64 a0)]).length=74 then some ([(.agg (splice (Ya 74 ci0) 0 [(.int .i64 a0)]))],h) else none else none:=by kernel_rfl
theorem q191_eq:q191.body C L G [(.agg l0)] h0=Zf l0 1 fun q=>Zi .i64 (.c q) fun n=>some ([(.c (.bool (n==0)))],h0):=by kernel_rfl
theorem q192_eq:q192.body C L G [(.agg l0),(.c (.int .i64 a1))] h0=if 0=0/\l0.length=74 then c1 (C 204 [(.agg l0),(.c (.int .i64 a1))] h0) fun y h=>Zi .i64 y fun n=>if (decide (n<0))=true then some ([(.c (.int .i64 0)),(.c (.int .i64 0)),(.c (.int .i64 0)),(.c (.bool false))],h) else if 0<=n/\n<((24:Nat):Int) then Zf l0 ((2+((Ye n)*3))+0) fun q=>Zi .i64 (.c q) fun n1=>if 0<=n/\n<((24:Nat):Int) then Zf l0 ((2+((Ye n)*3))+1) fun q=>Zi .i64 (.c q) fun n2=>if 0<=n/\n<((24:Nat):Int) then Zf l0 ((2+((Ye n)*3))+2) fun q=>Zi .i64 (.c q) fun n=>some ([(.c (.int .i64 n1)),(.c (.int .i64 n2)),(.c (.int .i64 n)),(.c (.bool true))],h) else none else none else none else none:=by kernel_rfl
def q204_k2 (h0:Za):Ex->St->Rs:=Zae (fun st=>q204_p1.exec C L G st (q204.fin G h0)) (q204.fin G h0)
def q204_k3 (h0:Za):Ex->St->Rs:=Zap 0 (q204_k2 C L G h0)
def q204_s1 (a1 a7 a8:Int) (s0:List Cell) (h:Za):St:=⟨tops 1 (.v (.c (.int .i64 a1)) :: .loc 0 0 :: tops 4 (.v (.c (.int .i64 a7)) :: .v (.c (.int .i64 a8)) :: tops 16 [])),[some s0],h⟩
def q204_F1 :St->Option (Ex × St):=Zo (q204_b1.exec C L G) [1,2,7,8] [0] [(0,[4],[]),(1,[],[])]
def q204_x1_0 (a4:Int) (h:Za):St:=⟨tops 4 (.v (.c (.int .i64 a4)) :: tops 20 []),[none],h⟩
def q204_x1_1 (h:Za):St:=⟨tops 25 [],[none],h⟩
theorem q204_r1:q204_F1 C L G (q204_s1 a1 a7 a8 s0 h)=if (decide (a8<a7))=true then Zf s0 0 fun q=>Zi .i64 (.c q) fun n=>scK (n==2) false (if 0<=a8/\a8<((24:Nat):Int) then Zf s0 ((2+((Ye a8)*3))+0) fun q=>Zi .i64 (.c q) fun n=>some ((n==a1),h) else none) true h fun b h1=>if b=true then some (.ret,(q204_x1_0 a8 h1)) else some (.normal,(q204_s1 a1 a7 (G.wrap .i64 (a8+1)) s0 h1)) else some ((.exit 0),(q204_x1_1 h)):=by kernel_rfl
theorem q204_e1_0:(q204_k3 C L G h0) .ret (q204_x1_0 a4 h)=some ([(.c (.int .i64 a4))],h):=by kernel_rfl
theorem q204_e1_1:(q204_k3 C L G h0) (.exit 0) (q204_x1_1 h)=some ([(.c (.int .i64 (-1)))],h):=by kernel_rfl
theorem q204_eq:q204.body C L G [(.agg l0),(.c (.int .i64 a1))] h0=Zf l0 1 fun q=>Zi .i64 (.c q) fun n=>(L (q204_F1 C L G) (q204_s1 a1 n 0 l0 h0)).bind fun p=>(q204_k3 C L G h0) p.1 p.2:=by kernel_rfl
def q205_k2 (h0:Za):Ex->St->Rs:=Zae (fun st=>q205_p1.exec C L G st (q205.fin G h0)) (q205.fin G h0)
def q205_k3 (h0:Za):Ex->St->Rs:=Zap 0 (q205_k2 C L G h0)
def q205_s1 (a1 a7:Int) (s0:List Cell) (h:Za):St:=⟨tops 1 (.v (.c (.int .i64 a1)) :: .loc 0 0 :: tops 4 (.v (.c (.int .i64 a7)) :: tops 24 [])),[some s0],h⟩
def q205_F1 :St->Option (Ex × St):=Zo (q205_b1.exec C L G) [1,2,7] [0] [(0,[4,5,6],[]),(1,[],[])]
def q205_x1_0 (a4 a5:Int) (b6:Bool) (h:Za):St:=⟨tops 4 (.v (.c (.int .i64 a4)) :: .v (.c (.int .i64 a5)) :: .v (.c (.bool b6)) :: tops 25 []),[none],h⟩
def q205_x1_1 (h:Za):St:=⟨tops 32 [],[none],h⟩
theorem q205_r1:q205_F1 C L G (q205_s1 a1 a7 s0 h)=if (decide (a7>=0))=true then if 0<=a7/\a7<((24:Nat):Int) then Zf s0 ((2+((Ye a7)*3))+0) fun q=>Zi .i64 (.c q) fun n=>if (n==a1)=true then if 0<=a7/\a7<((24:Nat):Int) then Zf s0 ((2+((Ye a7)*3))+1) fun q=>Zi .i64 (.c q) fun n=>if 0<=a7/\a7<((24:Nat):Int) then Zf s0 ((2+((Ye a7)*3))+2) fun q=>Zi .i64 (.c q) fun n1=>some (.ret,(q205_x1_0 n n1 true h)) else none else none else some (.normal,(q205_s1 a1 (G.wrap .i64 (a7 - 1)) s0 h)) else none else some ((.exit 0),(q205_x1_1 h)):=by kernel_rfl
theorem q205_e1_0:(q205_k3 C L G h0) .ret (q205_x1_0 a4 a5 b6 h)=some ([(.c (.int .i64 a4)),(.c (.int .i64 a5)),(.c (.bool b6))],h):=by kernel_rfl
theorem q205_e1_1:(q205_k3 C L G h0) (.exit 0) (q205_x1_1 h)=some ([(.c (.int .i64 0)),(.c (.int .i64 0)),(.c (.bool false))],h):=by kernel_rfl
theorem q205_eq:q205.body C L G [(.agg l0),(.c (.int .i64 a1))] h0=Zf l0 1 fun q=>Zi .i64 (.c q) fun n=>(L (q205_F1 C L G) (q205_s1 a1 (G.wrap .i64 (n - 1)) l0 h0)).bind fun p=>(q205_k3 C L G h0) p.1 p.2:=by kernel_rfl
theorem q206_eq:q206.body C L G [(.agg l0),(.c (.int .i64 a1)),(.c (.int .i64 a2)),(.c (.int .i64 a3))] h0=Zf l0 0 fun q=>Zi .i64 (.c q) fun n=>scK (n==0) false (some ((decide (a1<0)),h0)) true h0 fun b h=>scK b false (some ((decide (a1>=4)),h)) true h fun b h=>scK b false (Zf l0 1 fun q=>Zi .i64 (.c q) fun n=>some ((decide (n>=24)),h)) true h fun b h=>if b=true then if 0=0/\l0.length=74 then if 0=0/\(Ya 74 ci0).length=74/\l0.length=74 then if 0=0/\l0.length=74 then some ([(.agg l0)],h) else none else none else none else Zf l0 1 fun q=>Zi .i64 (.c q) fun n=>if 0<=n/\n<((24:Nat):Int) then if (2+((Ye n)*3))+3<=l0.length/\(splice (splice (splice [ci0,ci0,ci0] 0 [(.int .i64 a1)]) 1 [(.int .i64 a2)]) 2 [(.int .i64 a3)]).length=3 then Zf (splice l0 (2+((Ye n)*3)) (splice (splice (splice [ci0,ci0,ci0] 0 [(.int .i64 a1)]) 1 [(.int .i64 a2)]) 2 [(.int .i64 a3)])) 1 fun q=>Zi .i64 (.c q) fun n1=>if 1<(splice l0 (2+((Ye n)*3)) (splice (splice (splice [ci0,ci0,ci0] 0 [(.int .i64 a1)]) 1 [(.int .i64 a2)]) 2 [(.int .i64 a3)])).length then if 0=0/\((splice l0 (2+((Ye n)*3)) (splice (splice (splice [ci0,ci0,ci0] 0 [(.int .i64 a1)]) 1 [(.int .i64 a2)]) 2 [(.int .i64 a3)])).set 1 (.int .i64 (G.wrap .i64 (n1+1)))).length=74 then if 0=0/\(Ya 74 ci0).length=74/\((splice l0 (2+((Ye n)*3)) (splice (splice (splice [ci0,ci0,ci0] 0 [(.int .i64 a1)]) 1 [(.int .i64 a2)]) 2 [(.int .i64 a3)])).set 1 (.int .i64 (G.wrap .i64 (n1+1)))).length=74 then if 0=0/\((splice l0 (2+((Ye n)*3)) (splice (splice (splice [ci0,ci0,ci0] 0 [(.int .i64 a1)]) 1 [(.int .i64 a2)]) 2 [(.int .i64 a3)])).set 1 (.int .i64 (G.wrap .i64 (n1+1)))).length=74 then some ([(.agg ((splice l0 (2+((Ye n)*3)) (splice (splice (splice [ci0,ci0,ci0] 0 [(.int .i64 a1)]) 1 [(.int .i64 a2)]) 2 [(.int .i64 a3)])).set 1 (.int .i64 (G.wrap .i64 (n1+1)))))],h) else none else none else none else none else none else none:=by kernel_rfl
theorem q207_eq:q207.body C L G [(.agg l0),(.c (.int .i64 a1))] h0=Zn (h0++[some (Blk.mk true 0 (AV.cells (.agg l0)))]) h0.length ((AV.cells (.agg l0)).length) fun l=>if 0=0/\l.length=74 then c1 (C 204 [(.agg l),(.c (.int .i64 a1))] (h0++[some (Blk.mk true 0 (AV.cells (.agg l0)))])) fun y h=>Zi .i64 y fun n=>if (decide (n<0))=true then Zn h h0.length ((AV.cells (.agg l0)).length) fun l=>if 0=0/\l.length=74 then if 0=0/\(Ya 74 ci0).length=74/\l.length=74 then if 0=0/\l.length=74 then Zbe true h0 [(.agg l)] h else none else none else none else Zbs h 24 3 true false (.ptr h0.length ((AV.cells (.agg l0)).length) 2) [.v (.c (.int .i64 n))] fun x=>Zbs h 24 3 true false (.ptr h0.length ((AV.cells (.agg l0)).length) 2) [.v (.c (.int .i64 (G.wrap .i64 (n+1))))] fun x1=>Zho 3 x x1 h fun n h=>Zn h h0.length ((AV.cells (.agg l0)).length) fun l=>Zf l 1 fun q=>Zi .i64 (.c q) fun n=>Zn h h0.length ((AV.cells (.agg l0)).length) fun l=>if 1<l.length then Zbh h h0.length (l.set 1 (.int .i64 (G.wrap .i64 (n - 1)))) fun h=>Zn h h0.length ((AV.cells (.agg l0)).length) fun l=>Zf l 1 fun q=>Zi .i64 (.c q) fun n=>if 0<=n/\n<((24:Nat):Int) then Zn h h0.length ((AV.cells (.agg l0)).length) fun l=>if (2+((Ye n)*3))+3<=l.length/\[ci0,ci0,ci0].length=3 then Zbh h h0.length (splice l (2+((Ye n)*3)) [ci0,ci0,ci0]) fun h=>Zn h h0.length ((AV.cells (.agg l0)).length) fun l=>if 0=0/\l.length=74 then if 0=0/\(Ya 74 ci0).length=74/\l.length=74 then if 0=0/\l.length=74 then Zbe true h0 [(.agg l)] h else none else none else none else none else none else none else none:=by kernel_rfl
end
structure Ent where
 loc:Int
 val:Int
 id:Int
 deriving DecidableEq
def Ent.cs (e:Ent):List Cell:=[.int .i64 e.loc,.int .i64 e.val,.int .i64 e.id]
def Zu (l:List Ent):List Cell:=l.flatMap Ent.cs
theorem entsC_len:∀l:List Ent,(Zu l).length=l.length*3
 | []=>rfl
 | s :: l=>by simp only [Zu,Yba,Yb];rw [show (l.flatMap _).length=_ from entsC_len l];simp [Ent.cs];omega
theorem Zif:∀(l:List Ent) (i:Nat) (s:Ent),l[i]? = some s->∀j,j<3->(Zu l)[i*3+j]? = s.cs[j]?
 | [],_,_,h,_,_=>by simp at h
 | q :: l,0,s,h,j,hj=>by
  simp at h;subst h
  rw [show Zu (q :: l)=q.cs++Zu l from rfl,Yk (by simp [Ent.cs];omega)];congr 1;omega
 | q :: l,i+1,s,h,j,hj=>by
  have:=Zif l i s (by simpa using h) j hj
  rw [show Zu (q :: l)=q.cs++Zu l from rfl,Yi (by simp [Ent.cs];omega),←this]
  congr 1;simp [Ent.cs];omega
def Zal (m:Int) (l:List Ent):List Cell:=[.int .i64 m,.int .i64 (l.length:Int)]++(Zu l++Ya (72 - l.length*3) (.int .i64 0))
theorem Zcv (m:Int) {l:List Ent} (h:l.length<=24):(Zal m l).length=74:=by
 unfold Zal;rw [Yb,Yb,entsC_len,Yaf];simp;omega
theorem Ziw {α:Type} {m:Int} {l:List Ent} {i j:Nat} {s:Ent} {c:Cell} (h:l[i]? = some s) (hj:j<3) (hc:s.cs[j]? = some c) {f:Cell->Option α}:Zf (Zal m l) ((2+i*3)+j) f=f c:=by
 refine Zak ?_
 have hi:=Zs h
 have hl:=entsC_len l
 unfold Zal
 rw [Yi (by simp;omega),Yk (by simp;omega)]
 rw [show 2+i*3+j - [Cell.int .i64 m,Cell.int .i64 (l.length:Int)].length=i*3+j by simp;omega,Zif l i s h j hj,hc]
def Zcy (m loc:Int) (e:Ent):Bool:=m==2||e.loc==loc
def oldI (m loc:Int) (l:List Ent):Int:=match l.findIdx? (Zcy m loc) with | some i=>i | none=>-1
def Zhk (loc:Int) (l:List Ent):Option Ent:=l.reverse.find? fun e=>e.loc==loc
theorem Zwr {α:Type} {F:St->Option (Ex × St)} (S r:Nat->St) (x:St) (e:Nat) (l:List α) (p:α->Bool) (hs:∀(i:Nat) (q:α),l[i]? = some q->F (S i)=if p q=true then some (.ret,r i) else some (.normal,S (i+1))) (he:F (S l.length)=some (.exit e,x)) :
  Zx F (S 0)=some (match l.findIdx? p with | some i=>(.ret,r i) | none=>(.exit e,x)):=by
 have key:∀(t:List α) (i:Nat),l.drop i=t->i<=l.length->Zx F (S i)=some (match t.findIdx? p with | some k=>(.ret,r (i+k)) | none=>(.exit e,x)):=by
  intro t
  induction t with
  | nil =>
   intro i hd hi
   have:l.length<=i:=by
    have:=congrArg Yal hd
    rw [Yy,Yaa] at this;omega
   obtain rfl:i=l.length:=by omega
   rw [Zl he];rfl
  | cons q t ih =>
   intro i hd hi
   have hlt:i<l.length:=by
    have:=congrArg Yal hd
    rw [Yy,Yr] at this;omega
   have hq:l[i]? = some q:=by rw [←List.head?_drop,hd];rfl
   have hd2:l.drop (i+1)=t:=by rw [←Ycd,hd];rfl
   have h1:=hs i q hq
   rw [List.findIdx?_cons]
   cases hp:p q with
   | true =>
    rw [hp,if_pos rfl] at h1
    rw [Zeb h1,if_pos rfl];rfl
   | false =>
    rw [hp,if_neg (by simp)] at h1
    rw [Zbk h1 (ih (i+1) hd2 (by omega)),if_neg (by simp)]
    cases t.findIdx? p with
    | none=>rfl
    | some k=>show some (Ex.ret,r (i+1+k))=some (Ex.ret,r (i+(k+1)));rw [show i+1+k=i+(k+1) by omega]
 have:=key l 0 rfl (Nat.zero_le _)
 rw [this]
 cases l.findIdx? p with
 | none=>rfl
 | some k=>simp
section
variable {E:Env}
theorem bufNew_R (hE:q190_In E) (m:Int) (h:Za):R E 190 [.c (.int .i64 m)] h=some ([.agg (Zal (if m=2∨m=3 then m else 0) [])],h):=by
 refine Zd hE.fn ?_
 rw [q190_eq,scK_and]
 by_cases hm:m=2∨m=3
 ·rw [if_neg (by simp;omega),if_pos hm,if_pos (by exact ⟨rfl,rfl,rfl⟩),if_pos (by exact ⟨rfl,rfl⟩)]
  rfl
 ·rw [if_pos (by simp;omega),if_neg hm,if_pos (by exact ⟨rfl,rfl,rfl⟩),if_pos (by exact ⟨rfl,rfl⟩)]
  rfl
theorem Zly (hE:q191_In E) {m:Int} {l:List Ent} (h:Za):R E 191 [.agg (Zal m l)] h=some ([.c (.bool (l.length==0))],h):=by
 refine Zd hE.fn ?_
 have a1:∀{α:Type} (f:Cell->Option α),Zf (Zal m l) 1 f=f (.int .i64 (l.length:Int)):=fun _=>rfl
 have hz:((l.length:Int)==0)=(l.length==0):=by cases l<;>rfl
 rw [q191_eq,a1,asI_ok,hz]
theorem buf_a0 {α:Type} {m:Int} {l:List Ent} {f:Cell->Option α}:Zf (Zal m l) 0 f=f (.int .i64 m):=rfl
theorem buf_a1 {α:Type} {m:Int} {l:List Ent} {f:Cell->Option α}:Zf (Zal m l) 1 f=f (.int .i64 (l.length:Int)):=rfl
theorem Zos (hE:q204_In E) {m:Int} {l:List Ent} (hl:l.length<=24) (loc:Int) (h:Za):R E 204 [.agg (Zal m l),.c (.int .i64 loc)] h=some ([.c (.int .i64 (oldI m loc l))],h):=by
 refine Zd hE.fn ?_
 have hL:=Zwr (F:=q204_F1 (R E) Zx E.glob) (fun i=>q204_s1 loc l.length (i:Int) (Zal m l) h) (fun i=>q204_x1_0 (i:Int) h) (q204_x1_1 h) 0 l (Zcy m loc) (fun i q hq=>by
  have hi:=Zs hq
  rw [q204_r1,if_pos (by simp;omega),buf_a0,asI_ok,if_pos ⟨by omega,by omega⟩,Yj,Ziw hq (by omega) (c:=.int .i64 q.loc) rfl,asI_ok,scK_or,Zr (by omega)]
  rfl) (by rw [q204_r1,if_neg (by simp)])
 have hL':Zx (q204_F1 (R E) Zx E.glob) (q204_s1 loc l.length 0 (Zal m l) h)=_:=hL
 rw [q204_eq,buf_a1,asI_ok,hL',bind_ok]
 unfold oldI
 cases l.findIdx? (Zcy m loc) with
 | none=>dsimp only;rw [q204_e1_1]
 | some i=>dsimp only;rw [q204_e1_0]
theorem Zou (hE:q192_In E) {m:Int} {l:List Ent} (hl:l.length<=24) (loc:Int) (h:Za) :
  R E 192 [.agg (Zal m l),.c (.int .i64 loc)] h=some (match l.find? (Zcy m loc) with | some e=>([.c (.int .i64 e.loc),.c (.int .i64 e.val),.c (.int .i64 e.id),.c (.bool true)],h) | none=>([.c (.int .i64 0),.c (.int .i64 0),.c (.int .i64 0),.c (.bool false)],h)):=by
 refine Zd hE.fn ?_
 rw [q192_eq,if_pos ⟨rfl,Zcv m hl⟩,Zos hE.c204 hl,c1_ok,asI_ok]
 unfold oldI
 cases hf:l.findIdx? (Zcy m loc) with
 | none =>
  have:l.find? (Zcy m loc)=none:=by
   rw [List.find?_eq_none]
   intro e he
   rw [Ybc] at hf
   rw [hf e he];simp
  rw [this]
  dsimp only
  rw [if_pos (by decide)]
 | some i =>
  obtain ⟨hi,hp,hlt⟩:=Yan.1 hf
  have hq:l[i]? = some l[i]:=Yc hi
  have hfi:l.find? (Zcy m loc)=some l[i]:=by
   rw [List.find?_eq_some_iff_getElem]
   exact ⟨hp,i,hi,rfl,fun j hj=>by have:=hlt j hj;simpa using this⟩
  rw [hfi]
  generalize l[i]=e at hq
  dsimp only
  rw [if_neg (by rw [decide_eq_true_eq];omega),if_pos ⟨by omega,by omega⟩,Yj,Ziw hq (by omega) (c:=.int .i64 e.loc) rfl,asI_ok,if_pos ⟨by omega,by omega⟩,Ziw hq (by omega) (c:=.int .i64 e.val) rfl,asI_ok,if_pos ⟨by omega,by omega⟩,Ziw hq (by omega) (c:=.int .i64 e.id) rfl,asI_ok]
theorem Zyp (hE:q205_In E) {m:Int} {l:List Ent} (hl:l.length<=24) (loc:Int) (h:Za) :
  R E 205 [.agg (Zal m l),.c (.int .i64 loc)] h=some (match Zhk loc l with | some e=>([.c (.int .i64 e.val),.c (.int .i64 e.id),.c (.bool true)],h) | none=>([.c (.int .i64 0),.c (.int .i64 0),.c (.bool false)],h)):=by
 refine Zd hE.fn ?_
 have key:∀i:Nat,i<=l.length->(Zx (q205_F1 (R E) Zx E.glob) (q205_s1 loc ((i:Int) - 1) (Zal m l) h)).bind (fun p=>q205_k3 (R E) Zx E.glob h p.1 p.2) =
   some (match (l.take i).reverse.find? (fun e=>e.loc==loc) with | some e=>([.c (.int .i64 e.val),.c (.int .i64 e.id),.c (.bool true)],h) | none=>([.c (.int .i64 0),.c (.int .i64 0),.c (.bool false)],h)):=by
  intro i
  induction i with
  | zero =>
   intro _
   have hr:q205_F1 (R E) Zx E.glob (q205_s1 loc (((0:Nat):Int) - 1) (Zal m l) h)=some (.exit 0,q205_x1_1 h):=by
    rw [q205_r1,if_neg (by rw [decide_eq_true_eq];omega)]
   rw [Zl hr,bind_ok,q205_e1_1];rfl
  | succ i ih =>
   intro hi
   have hq:l[i]? = some l[i]:=Yc (by omega)
   generalize l[i]=e at hq
   have he:(((i+1:Nat):Int) - 1)=(i:Int):=by omega
   rw [he,Zbq hq,List.reverse_append,List.reverse_singleton,List.singleton_append,List.find?_cons]
   have hg:∀(b:Bool),(e.loc==loc)=b->q205_F1 (R E) Zx E.glob (q205_s1 loc (i:Int) (Zal m l) h)=if b=true then some (.ret,q205_x1_0 e.val e.id true h) else some (.normal,q205_s1 loc ((i:Int) - 1) (Zal m l) h):=by
    intro b hb
    rw [q205_r1,if_pos (by rw [decide_eq_true_eq];omega),if_pos ⟨by omega,by omega⟩,Yj,Ziw hq (by omega) (c:=.int .i64 e.loc) rfl,asI_ok,hb]
    cases b with
    | true=>rw [if_pos rfl,if_pos rfl,if_pos ⟨by omega,by omega⟩,Ziw hq (by omega) (c:=.int .i64 e.val) rfl,asI_ok,if_pos ⟨by omega,by omega⟩,Ziw hq (by omega) (c:=.int .i64 e.id) rfl,asI_ok]
    | false=>rw [if_neg (by simp),if_neg (by simp),Zg (by omega) (by omega)]
   cases hb:(e.loc==loc) with
   | true =>
    have h1:=hg true hb
    rw [if_pos rfl] at h1
    rw [Zeb h1,bind_ok,q205_e1_0]
   | false =>
    have h1:=hg false hb
    rw [if_neg (by simp)] at h1
    have h2:=ih (by omega)
    dsimp only
    rw [←h2]
    cases hL:Zx (q205_F1 (R E) Zx E.glob) (q205_s1 loc ((i:Int) - 1) (Zal m l) h) with
    | none=>rw [hL] at h2;cases h2
    | some w=>rw [Zbk h1 hL]
 have:=key l.length (Yh _)
 rw [Ym (Yh _)] at this
 rw [q205_eq,buf_a1,asI_ok,Zg (by omega) (by omega)]
 exact this
theorem bufC_put {m:Int} {l:List Ent} (hl:l.length<24) (e:Ent):(splice (Zal m l) (2+l.length*3) e.cs).set 1 (.int .i64 ((l.length:Int)+1))=Zal m (l++[e]):=by
 have h1:Zal m l=([Cell.int .i64 m,Cell.int .i64 (l.length:Int)]++Zu l)++Ya (72 - l.length*3) (.int .i64 0):=by unfold Zal;rw [Yg]
 have h2:2+l.length*3=([Cell.int .i64 m,Cell.int .i64 (l.length:Int)]++Zu l).length+0:=by rw [Yb,entsC_len];simp
 have h3:splice (Ya (72 - l.length*3) ci0) 0 e.cs=e.cs++Ya (72 - (l++[e]).length*3) ci0:=by
  unfold splice
  rw [Yai,Yw,Ybp]
  congr 2
  simp [Ent.cs];omega
 have h4:Zu (l++[e])=Zu l++e.cs:=by simp [Zu]
 rw [h1,h2,splice_app,h3]
 unfold Zal
 rw [h4,Yb,Yl]
 simp [Yg]
theorem bufPut_R (hE:q206_In E) {m:Int} {l:List Ent} (hl:l.length<24) (hm:m≠0) {loc:Int} (hloc:0<=loc/\loc<4) (v id:Int) (h:Za) :
  R E 206 [.agg (Zal m l),.c (.int .i64 loc),.c (.int .i64 v),.c (.int .i64 id)] h=some ([.agg (Zal m (l++[⟨loc,v,id⟩]))],h):=by
 refine Zd hE.fn ?_
 have hz:(m==0)=false:=by rw [beq_eq_false_iff_ne];exact hm
 have e3:splice (splice (splice [ci0,ci0,ci0] 0 [(.int .i64 loc)]) 1 [(.int .i64 v)]) 2 [(.int .i64 id)]=(Ent.mk loc v id).cs:=rfl
 have hlen:=Zcv m (Ybg hl)
 have hsl:(splice (Zal m l) (2+l.length*3) (Ent.mk loc v id).cs).length=74:=by
  unfold splice
  rw [Yb,Yb,Yp,Yy,hlen];simp [Ent.cs];omega
 have ha1:∀{α:Type} (f:Cell->Option α),Zf (splice (Zal m l) (2+l.length*3) (Ent.mk loc v id).cs) 1 f=f (.int .i64 (l.length:Int)):=fun f=>by
  refine Zak ?_
  unfold splice
  rw [Yg,Yk (by rw [Yp,hlen];omega),Ys,if_pos (by omega)];rfl
 have hw:E.glob.wrap .i64 ((l.length:Int)+1)=(l.length:Int)+1:=Zg (by omega) (by omega)
 have hput:=bufC_put (m:=m) hl ⟨loc,v,id⟩
 rw [q206_eq,buf_a0,asI_ok,hz,scK_or,show decide (loc<0)=false from decide_eq_false (by omega),scK_or,show decide (loc>=4)=false from decide_eq_false (by omega),buf_a1,asI_ok,scK_or,show decide ((l.length:Int)>=24)=false from decide_eq_false (by omega),if_neg (by simp),buf_a1,asI_ok,if_pos ⟨by omega,by omega⟩,Yj,e3,if_pos ⟨by rw [hlen];omega,rfl⟩,ha1,asI_ok,if_pos (by rw [hsl];omega),hw,hput]
 have hl2:=Zcv m (l:=l++[⟨loc,v,id⟩]) (by rw [Yb,Yl];omega)
 rw [if_pos ⟨rfl,hl2⟩,if_pos ⟨rfl,rfl,hl2⟩,if_pos ⟨rfl,hl2⟩]
theorem Zeu (a b:List Ent):Zu (a++b)=Zu a++Zu b:=by simp [Zu]
theorem Zwk {α:Type} {a b:List α} {n:Nat} (h:a.length=n):(a++b).drop n=b:=by subst h;simp
theorem Zq780 {m:Int} {l:List Ent} (hl:l.length<=24) {i:Nat} (hi:i<l.length) :
  splice ((splice (Zal m l) (2+i*3) (((Zal m l).drop (2+(i+1)*3)).take ((23 - i)*3))).set 1 (Cell.int .i64 ((l.length:Int) - 1))) (2+(l.length - 1)*3) [ci0,ci0,ci0]=Zal m (l.eraseIdx i):=by
 have hq:l[i]? = some l[i]:=Yc hi
 generalize l[i]=e at hq
 have hsp:l=l.take i++e :: l.drop (i+1):=by
  have:l.drop i=e :: l.drop (i+1):=by
   rw [Ybb hi]
   have:=Yc hi
   rw [hq] at this
   rw [←Option.some.inj this]
  rw [←this,Ybk]
 have her:l.eraseIdx i=l.take i++l.drop (i+1):=List.eraseIdx_eq_take_drop_succ _ _
 have hn:l.length=i+1+(l.drop (i+1)).length:=by rw [Yy];omega
 have hti:(l.take i).length=i:=by rw [Yp];omega
 rw [her]
 generalize hA:l.take i=A at *
 generalize hB:l.drop (i+1)=B at *
 have hlA:=entsC_len A
 have hlB:=entsC_len B
 have hcs:Zal m l=([Cell.int .i64 m,Cell.int .i64 (l.length:Int)]++Zu A)++(e.cs++(Zu B++Ya (72 - l.length*3) ci0)):=by
  have:Zu l=Zu A++(e.cs++Zu B):=by
   have h2:Zu l=Zu (A++e :: B):=by rw [←hsp]
   rw [h2,Zeu];rfl
  unfold Zal
  rw [this];simp [Yg]
 have hhd:([Cell.int .i64 m,Cell.int .i64 (l.length:Int)]++Zu A).length=2+i*3:=by rw [Yb,hlA,hti];simp
 have hR:((Zal m l).drop (2+(i+1)*3)).take ((23 - i)*3)=Zu B++Ya (72 - l.length*3) ci0:=by
  rw [hcs,←Yg,Zwk (by rw [Yb,hhd];simp [Ent.cs];omega)]
  exact Ym (by rw [Yb,Yaf,hlB];omega)
 rw [hR]
 have hs1:splice (Zal m l) (2+i*3) (Zu B++Ya (72 - l.length*3) ci0)=([Cell.int .i64 m,Cell.int .i64 (l.length:Int)]++Zu A)++((Zu B++Ya (72 - l.length*3) ci0)++(e.cs++(Zu B++Ya (72 - l.length*3) ci0)).drop (Zu B++Ya (72 - l.length*3) ci0:List Cell).length):=by
  rw [hcs]
  have:=splice_app ([Cell.int .i64 m,Cell.int .i64 (l.length:Int)]++Zu A) (e.cs++(Zu B++Ya (72 - l.length*3) ci0)) (Zu B++Ya (72 - l.length*3) ci0) 0
  rw [Ybr,hhd] at this
  rw [this]
  unfold splice
  rw [Yai,Yw,Ybf]
 rw [hs1]
 generalize hL3:(e.cs++(Zu B++Ya (72 - l.length*3) ci0)).drop (Zu B++Ya (72 - l.length*3) ci0:List Cell).length=L3
 have hL3l:L3.length=3:=by
  rw [←hL3,Yy,Yb];simp [Ent.cs]
 have hset:(([Cell.int .i64 m,Cell.int .i64 (l.length:Int)]++Zu A)++((Zu B++Ya (72 - l.length*3) ci0)++L3)).set 1 (Cell.int .i64 ((l.length:Int) - 1))=([Cell.int .i64 m,Cell.int .i64 ((l.length:Int) - 1)]++(Zu A++Zu B))++(Ya (72 - l.length*3) ci0++L3):=by
  simp [Yg]
 rw [hset]
 have hoff:2+(l.length - 1)*3=([Cell.int .i64 m,Cell.int .i64 ((l.length:Int) - 1)]++(Zu A++Zu B)).length+0:=by
  rw [Yb,Yb,hlA,hlB,hti];simp;omega
 rw [hoff,splice_app]
 have hz:splice (Ya (72 - l.length*3) ci0++L3) 0 [ci0,ci0,ci0]=Ya (72 - (A++B).length*3) ci0:=by
  have hlen:(A++B).length=l.length - 1:=by rw [Yb,hti];omega
  rw [hlen]
  unfold splice
  rw [Yai,Yw]
  by_cases h24:l.length=24
  ·rw [show 72 - l.length*3=0 by omega,List.replicate_zero,Yw,Yab (by rw [hL3l];simp),h24];rfl
  ·have hL3z:L3=Ya 3 ci0:=by
    rw [←hL3]
    refine Yak fun j=>?_
    rw [Yac,Yi (by simp [Ent.cs,hlB];omega),Yi (by simp [Ent.cs,hlB];omega),Ybh,Ybh]
    simp [Ent.cs,hlB]
    by_cases hj:j<3
    ·rw [if_pos (by omega),if_pos hj]
    ·rw [if_neg (by omega),if_neg hj]
   rw [hL3z,Yar,Ybp,show [ci0,ci0,ci0]=Ya 3 ci0 from rfl,Yar]
   congr 1
   simp;omega
 rw [hz]
 unfold Zal
 rw [Zeu,Yb,hti]
 have:(l.length:Int) - 1=((i+B.length:Nat):Int):=by omega
 rw [this]
 simp [Yg]
theorem bufC_ok {m:Int} {l:List Ent} {n:Nat} {c:Cell} (h:c∈Zal m l):Zcq n c=true:=by
 unfold Zal at h
 rcases Yah.1 h with h | h
 ·simp at h;rcases h with rfl | rfl<;>rfl
 ·rcases Yah.1 h with h | h
  ·unfold Zu at h
   obtain ⟨e,_,he⟩:=List.mem_flatMap.1 h
   simp [Ent.cs] at he
   rcases he with rfl | rfl | rfl<;>rfl
  ·rw [List.eq_of_mem_replicate h];rfl
theorem Zq765 (hE:q207_In E) {m:Int} {l:List Ent} (hl:l.length<=24) {loc:Int} {i:Nat} (hf:l.findIdx? (Zcy m loc)=some i) (h:Za) :
  R E 207 [.agg (Zal m l),.c (.int .i64 loc)] h=some ([.agg (Zal m (l.eraseIdx i))],h):=by
 refine Zd hE.fn ?_
 obtain ⟨hi,_,_⟩:=Yan.1 hf
 have hold:oldI m loc l=(i:Int):=by unfold oldI;rw [hf]
 have hlen:=Zcv m hl
 have hd:=Zq780 (m:=m) hl hi
 have hlen2:=Zcv m (l:=l.eraseIdx i) (by rw [Ybn];split<;>omega)
 have hcell:∀cs:List Cell,AV.cells (.agg cs)=cs:=fun _=>rfl
 have b0:blk? (h++[some ⟨true,0,Zal m l⟩]) h.length=some ⟨true,0,Zal m l⟩:=Zaa _ _
 have hxl:(((Zal m l).drop (2+(i+1)*3)).take ((23 - i)*3)).length=(23 - i)*3:=by rw [Yp,Yy,hlen];omega
 have hsl1:∀{α:Type} (f:Cell->Option α),Zbs (h++[some ⟨true,0,Zal m l⟩]) 24 3 true false (.ptr h.length 74 2) [.v (.c (.int .i64 (i:Int)))] f=f (.sl h.length 74 (2+i*3) (24 - i)):=fun f=>by
  unfold Zbs Zgd Zag
  simp only
  rw [b0]
  simp only
  rw [if_pos (by simp),if_pos ⟨by omega,by omega⟩,Yj]
 have hsl2:∀{α:Type} (f:Cell->Option α),Zbs (h++[some ⟨true,0,Zal m l⟩]) 24 3 true false (.ptr h.length 74 2) [.v (.c (.int .i64 ((i+1:Nat):Int)))] f=f (.sl h.length 74 (2+(i+1)*3) (24 - (i+1))):=fun f=>by
  unfold Zbs Zgd Zag
  simp only
  rw [b0]
  simp only
  rw [if_pos (by simp),if_pos ⟨by omega,by omega⟩,Yj]
 have hsc:Zah (h++[some ⟨true,0,Zal m l⟩]) 3 (.sl h.length 74 (2+(i+1)*3) (24 - (i+1)))=some (((Zal m l).drop (2+(i+1)*3)).take ((23 - i)*3)):=by
  unfold Zah
  dsimp only
  by_cases hz:24 - (i+1)=0
  ·rw [if_pos hz,show (23 - i)*3=0 by omega];simp
  ·rw [if_neg hz,b0]
   simp only
   rw [if_pos ⟨hlen,by omega⟩,show 24 - (i+1)=23 - i by omega]
 have hcp:∀{α:Type} (f:Int->Za->Option α),Zho 3 (.sl h.length 74 (2+i*3) (24 - i)) (.sl h.length 74 (2+(i+1)*3) (24 - (i+1))) (h++[some ⟨true,0,Zal m l⟩]) f=f ((23 - i:Nat):Int) (h++[some ⟨true,0,splice (Zal m l) (2+i*3) (((Zal m l).drop (2+(i+1)*3)).take ((23 - i)*3))⟩]):=fun f=>by
  unfold Zho
  rw [hsc,Yag]
  simp only
  rw [b0,Yag]
  dsimp only
  rw [if_pos ⟨rfl,hlen,by omega⟩,hxl,show min ((23 - i)*3 / 3) (24 - i)=23 - i by omega,Ym (by rw [hxl];exact Yh _),setBlk_last]
 generalize hX:((Zal m l).drop (2+(i+1)*3)).take ((23 - i)*3)=X at *
 have hc2l:(splice (Zal m l) (2+i*3) X).length=74:=by
  unfold splice
  rw [Yb,Yb,Yp,Yy,hlen,hxl];omega
 have hat2:(splice (Zal m l) (2+i*3) X)[1]? = some (.int .i64 (l.length:Int)):=by
  unfold splice
  rw [Yg,Yk (by rw [Yp,hlen];omega),Ys,if_pos (by omega)];rfl
 generalize splice (Zal m l) (2+i*3) X=Y at *
 have b2:blk? (h++[some ⟨true,0,Y⟩]) h.length=some ⟨true,0,Y⟩:=Zaa _ _
 have hw1:E.glob.wrap .i64 ((l.length:Int) - 1)=(l.length:Int) - 1:=Zg (by omega) (by omega)
 have hat3:(Y.set 1 (.int .i64 ((l.length:Int) - 1)))[1]? = some (.int .i64 ((l.length:Int) - 1)):=by rw [Ybj (by omega)]
 have hc3l:(Y.set 1 (.int .i64 ((l.length:Int) - 1))).length=74:=by rw [Yn];exact hc2l
 generalize hZ:Y.set 1 (.int .i64 ((l.length:Int) - 1))=Z at *
 have b3:blk? (h++[some ⟨true,0,Z⟩]) h.length=some ⟨true,0,Z⟩:=Zaa _ _
 have b4:blk? (h++[some ⟨true,0,Zal m (l.eraseIdx i)⟩]) h.length=some ⟨true,0,Zal m (l.eraseIdx i)⟩:=Zaa _ _
 have htn:Ye ((l.length:Int) - 1)=l.length - 1:=by omega
 rw [q207_eq]
 simp only [hcell,hlen]
 rw [Zq b0 hlen]
 dsimp only
 rw [if_pos ⟨trivial,hlen⟩,Zos hE.c204 hl,c1_ok,asI_ok,hold,if_neg (by rw [decide_eq_true_eq];omega),hsl1,Zr (by omega),hsl2,hcp,Zq b2 hc2l]
 dsimp only
 rw [Zak hat2,asI_ok,Zq b2 hc2l]
 dsimp only
 rw [if_pos (by omega),Zct b2 rfl,setBlk_last,hw1]
 dsimp only
 rw [hZ,Zq b3 hc3l]
 dsimp only
 rw [Zak hat3,asI_ok,if_pos ⟨by omega,by omega⟩,Zq b3 hc3l]
 dsimp only
 rw [if_pos ⟨by rw [hc3l,htn];omega,rfl⟩,Zct b3 rfl,setBlk_last,htn]
 dsimp only
 rw [hd,Zq b4 hlen2]
 dsimp only
 rw [if_pos ⟨trivial,hlen2⟩,if_pos ⟨trivial,rfl,hlen2⟩,if_pos ⟨trivial,hlen2⟩]
 refine Zgu (Kp.app _ (Yh _)) ?_
 intro x hx
 rw [Yav] at hx
 subst hx
 unfold Zls
 rw [hcell,List.all_eq_true]
 intro c hc
 exact bufC_ok hc
end
section
variable {E:Env}
end
theorem Zyz {F:St->Option (Ex × St)} (S:Nat->St) (n:Nat) (bad:Nat->Bool) (r x:St) (e:Nat) (hs:∀i,i<n->F (S i)=if bad i=true then some (.ret,r) else some (.normal,S (i+1))) (he:F (S n)=some (.exit e,x)) :
  Zx F (S 0)=some (if (Yu n).any bad=true then (.ret,r) else (.exit e,x)):=by
 have key:∀(d i:Nat),i+d=n->Zx F (S i)=some (if (Yu d).any (fun k=>bad (i+k))=true then (.ret,r) else (.exit e,x)):=by
  intro d
  induction d with
  | zero =>
   intro i hi
   obtain rfl:i=n:=by omega
   rw [Zl he];rfl
  | succ d ih =>
   intro i hi
   have h1:=hs i (by omega)
   rw [Yam,Yay,List.any_map,Ybr]
   cases hb:bad i with
   | true =>
    rw [hb,if_pos rfl] at h1
    rw [Zeb h1,Bool.true_or,if_pos rfl]
   | false =>
    rw [hb,if_neg (by simp)] at h1
    have h2:=ih (i+1) (by omega)
    rw [Bool.false_or]
    have he:((Yu d).any ((fun k=>bad (i+k)) ∘ Nat.succ))=(Yu d).any fun k=>bad (i+1+k):=by
     congr 1
     funext k
     show bad (i+(k+1))=_
     rw [show i+(k+1)=i+1+k by omega]
    rw [he]
    exact Zbk h1 h2
 have:=key n 0 (by omega)
 simpa only [Ybf] using this
def atB {α:Type} (l:List α) (f:Nat->α->Bool) (i:Nat):Bool:=match l[i]? with | some q=>f i q | none=>false
theorem atB_ok {α:Type} {l:List α} {f:Nat->α->Bool} {i:Nat} {q:α} (h:l[i]? = some q):atB l f i=f i q:=by unfold atB;rw [h]
theorem atB_any {α:Type} (l:List α) (f:α->Bool):(Yu l.length).any (atB l fun _=>f)=l.any f:=by
 induction l with
 | nil=>rfl
 | cons a l ih =>
  rw [Yr,Yam,Yay,List.any_map,Yay,←ih]
  rfl
section
variable {E:Env}
end
def Zjg (P:PProg) (n:Int):Bool:=decide (n>=0)&&decide (n<(P.locs.length:Int))
def Zlm (l:List Int) (i:Nat) (c:Int):Bool:=!locB c||(decide ((i:Int) > 0)&&decide (c<=l.getD (i - 1) 0))
def Zqn (P:PProg) (c:List Ins):Bool:=(decide ((c.length:Int) > 10)||!jmpB c)||c.any fun i=>!fldB (Zjg P) i
def Zlz (P:PProg):Bool:=((((P.thr.length:Int)==0||decide ((P.thr.length:Int) > 4))||decide ((P.locs.length:Int) > 4))||((P.init.length:Int) != (P.locs.length:Int)))||decide (Zoe P.thr > 24)
def pokB (P:PProg):Bool:=if Zlz P=true then false else if (Yu P.locs.length).any (atB P.locs (Zlm P.locs))=true then false else !(P.thr.any (Zqn P))
section
variable {E:Env}
theorem progOk_R (hE:q188_In E) {cs:List Cell} {P:PProg} {h:Za} (p:ProgAt h cs P) (hsm:P.small) (hu:∀x∈P.locs,0<=x/\x<256) (hll:P.locs.length<=1000):R E 188 [.agg cs] h=some ([.c (.bool (pokB P))],h):=by
 refine Zd hE.fn ?_
 obtain ⟨a,b,c,ts,rfl,⟨ha,hal⟩,⟨hb,hbl⟩,⟨hc,hcl⟩,hts⟩:=p
 have p:ProgAt h [a,b,c] P:=⟨a,b,c,ts,rfl,⟨ha,hal⟩,⟨hb,hbl⟩,⟨hc,hcl⟩,hts⟩
 have hcell:AV.cells (.agg [a,b,c])=[a,b,c]:=rfl
 have l3:([a,b,c]:List Cell).length=3:=rfl
 have b1:blk? (h++[some ⟨true,0,[a,b,c]⟩]) h.length=some ⟨true,0,[a,b,c]⟩:=Zaa _ _
 have k1:Kp h.length h (h++[some ⟨true,0,[a,b,c]⟩]):=Kp.app _ (Yh _)
 have nn:(h++[some (Blk.mk true 0 [a,b,c])]).length=h.length+1:=by simp
 have fin:∀(h':Za) (x:Bool),Kp h.length h h'->Zbe true h [.c (.bool x)] h'=some ([.c (.bool x)],h):=fun h' x hk=>Zgu hk (by simp [Zls,AV.cells,Zcq])
 rw [q188_eq]
 simp only [hcell,l3]
 generalize h++[some (Blk.mk true 0 [a,b,c])]=H at *
 have p1:=p.keep k1
 have ha1:=ha.keep hal k1
 have hb1:=hb.keep hbl k1
 have hc1:=hc.keep hcl k1
 have a0:∀{α:Type} (f:Cell->Option α),Zf [a,b,c] 0 f=f a:=fun _=>rfl
 have a1:∀{α:Type} (f:Cell->Option α),Zf [a,b,c] 1 f=f b:=fun _=>rfl
 have a2:∀{α:Type} (f:Cell->Option α),Zf [a,b,c] 2 f=f c:=fun _=>rfl
 have rb:∀{α:Type} (F:List Cell->Option α),Zn H h.length 3 F=F [a,b,c]:=fun F=>rd3 b1
 rw [rb,a2,hc1.len,rb,a2,hc1.len,scK_or,rb,a0,ha1.len,scK_or,rb,a1,hb1.len,rb,a0,ha1.len,scK_or,rb,if_pos ⟨trivial,rfl⟩,Size_R hE.c102 p1 hsm,c1_ok,asI_ok,scK_or]
 unfold pokB
 rw [show (((((P.thr.length:Int)==0||decide ((P.thr.length:Int) > 4))||decide ((P.locs.length:Int) > 4))||((P.init.length:Int) != (P.locs.length:Int)))||decide (Zoe P.thr > 24))=Zlz P from rfl]
 cases hsb:Zlz P with
 | true=>rw [if_pos rfl,if_pos rfl,fin _ _ k1]
 | false =>
  rw [if_neg (by simp),if_neg (by simp),rb,a0,ha1.len]
  have f1:Zx (q188_F1 (R E) Zx E.glob) (q188_s1 h.length 3 0 a P.locs.length 0 H)=some (if (Yu P.locs.length).any (atB P.locs (Zlm P.locs))=true then (.ret,q188_x1_0 false H) else (.exit 0,q188_x1_1 h.length 3 0 H)):=by
   exact Zyz (F:=q188_F1 (R E) Zx E.glob) (fun i=>q188_s1 h.length 3 0 a P.locs.length (i:Int) H) P.locs.length (atB P.locs (Zlm P.locs)) _ _ 0 (fun i hi=>by
    have hq:P.locs[i]? = some P.locs[i]:=Yc hi
    generalize P.locs[i]=v at hq
    have hv:=hu v (Yf hq)
    rw [q188_r1,if_pos (by simp;omega),ha1.get1 hi (Zbr hq),asI_ok,Zg (by omega) (by omega),IsLoc_R hE.c158,c1_ok,asB_ok,atB_ok hq,Zr (by omega)]
    unfold Zlm
    by_cases h0:i=0
    ·subst h0
     rw [show decide (((0:Nat):Int) > 0)=false from rfl,scK_ft,scK_or,Ycc]
    ·have hd:decide ((i:Int) > 0)=true:=decide_eq_true (by omega)
     have hq2:=getDI (show i - 1<P.locs.length by omega)
     have hw:E.glob.wrap .i64 ((i:Int) - 1)=((i - 1:Nat):Int):=by rw [Zg (by omega) (by omega)];omega
     rw [hd,scK_ok,rb,show 0+0=0 from rfl,a0,hw,ha1.get1 (show i - 1<P.locs.length by omega) (Zbr hq2),asI_ok,bind_ok]
     dsimp only
     rw [scK_or,Yax]) (by rw [q188_r1,if_neg (by simp)])
  rw [f1,bind_ok]
  cases hlb:(Yu P.locs.length).any (atB P.locs (Zlm P.locs)) with
  | true=>rw [if_pos rfl,if_pos rfl];dsimp only;rw [q188_e1_0,fin _ _ k1]
  | false =>
   rw [if_neg (by simp),if_neg (by simp)]
   dsimp only
   rw [q188_e1_1]
   have l1:([Cell.nilf]:List Cell).length=1:=rfl
   rw [l1,Zvj (Zaa _ _),if_pos (by simp),Zct (Zaa _ _) rfl,setBlk_last]
   dsimp only [List.set]
   have k2:Kp H.length H (H++[some (Blk.mk true 0 [.fn 200 [(h.length,3,0)]])]):=Kp.app _ (Yh _)
   have b2:blk? (H++[some (Blk.mk true 0 [.fn 200 [(h.length,3,0)]])]) H.length=some ⟨true,0,[.fn 200 [(h.length,3,0)]]⟩:=Zaa _ _
   have b1':blk? (H++[some (Blk.mk true 0 [.fn 200 [(h.length,3,0)]])]) h.length=some ⟨true,0,[a,b,c]⟩:=Zfn b1 _
   generalize H++[some (Blk.mk true 0 [.fn 200 [(h.length,3,0)]])]=H2 at *
   have kk:Kp h.length h H2:=k1.trans (k2.mono k1.1)
   have hc2:=hc.keep hcl kk
   have ha2:=ha.keep hal kk
   have hsays:Says E H2 (.fn 200 [(h.length,3,0)]) (Zjg P):=fun n α F=>by
    show c1 (R E 200 ([.c (.int .i64 n)]++[.c (.ptr h.length 3 0)]) H2) F=_
    have:R E 200 ([.c (.int .i64 n)]++[.c (.ptr h.length 3 0)]) H2=some ([.c (.bool (Zjg P n))],H2):=by
     refine Zd hE.c200.fn ?_
     show q200.body (R E) Zx E.glob [.c (.int .i64 n),.c (.ptr h.length 3 0)] H2=_
     rw [q200_eq,rd3 b1',show 0+0=0 from rfl,a0,ha2.len,scK_and];rfl
    rw [this,c1_ok]
   have hins:∀(c:List Ins) (y:Cell),c.length<=1000->SlAt H2 y 9 (Zai c) c.length->R E 155 [.c y,.c (.fn 201 [(H.length,1,0)])] H2=some ([.c (.bool (c.any fun i=>!fldB (Zjg P) i))],H2):=by
    intro c y hcl hy
    refine Zqo hE.c155 hy (by omega) (fun i=>!fldB (Zjg P) i) fun i _ α F=>?_
    show c1 (R E 201 ([.agg i.cs]++[.c (.ptr H.length 1 0)]) H2) F=_
    have:R E 201 ([.agg i.cs]++[.c (.ptr H.length 1 0)]) H2=some ([.c (.bool (!fldB (Zjg P) i))],H2):=by
     refine Zd hE.c201.fn ?_
     show q201.body (R E) Zx E.glob [.agg i.cs,.c (.ptr H.length 1 0)] H2=_
     rw [q201_eq,if_pos ⟨rfl,rfl⟩,Zvj b2,Zak (i:=0) (c:=.fn 200 [(h.length,3,0)]) rfl,Fields_R hE.c201.c159 i hsays,c1_ok,asB_ok]
    rw [this,c1_ok]
   have n2:=hsm.1
   have f2:Zx (q188_F2 (R E) Zx E.glob) (q188_s2 H.length 1 0 c P.thr.length 0 H2)=some (if P.thr.any (Zqn P)=true then (.ret,q188_x2_0 false H2) else (.exit 2,q188_x2_3 H2)):=by
    rw [←atB_any]
    exact Zyz (F:=q188_F2 (R E) Zx E.glob) (fun i=>q188_s2 H.length 1 0 c P.thr.length (i:Int) H2) P.thr.length (atB P.thr fun _=>Zqn P) _ _ 2 (fun t ht=>by
     have hq:P.thr[t]? = some P.thr[t]:=Yc ht
     generalize P.thr[t]=code at hq
     have hcl2:=hsm.2 code (Yf hq)
     obtain ⟨y,y1,y2,y3⟩:=hts t code hq
     have y2':=y2.keep y3 kk
     rw [q188_r2,if_pos (by simp;omega),hc2.get1 ht y1,y2'.len,Jumps_R hE.c148 y2' (by omega),c1_ok,asB_ok,scK_or,hins code y hcl2 y2',c1_ok,asB_ok,scK_or,atB_ok hq,Zr (by omega)]
     rfl) (by rw [q188_r2,if_neg (by simp)])
   rw [rd3 b1',show 0+2=2 from rfl,a2,hc2.len,f2,bind_ok]
   cases htb:P.thr.any (Zqn P) with
   | true=>rw [if_pos rfl];dsimp only;rw [q188_e2_0,fin _ _ kk];rfl
   | false=>rw [if_neg (by simp)];dsimp only;rw [q188_e2_3,fin _ _ kk];rfl
end
section
variable {E:Env}
theorem cells1 {h:Za} {x:Cell} {cs:List Cell} {len:Nat} (s:SlAt h x 1 cs len):Zah h 1 x=some cs:=by
 have hl:=s.1
 rcases s.2 with ⟨rfl,rfl⟩ | ⟨k,N,off,rfl,hb⟩
 ·have:cs=[]:=Yv.1 (by omega)
  rw [this];rfl
 ·unfold Zah
  dsimp only
  by_cases h0:len=0
  ·have:cs=[]:=Yv.1 (by omega)
   rw [if_pos h0,this]
  ·rw [if_neg h0]
   rcases hb with hb | ⟨b,hb,hN,hle,hat⟩
   ·exact absurd hb h0
   ·rw [hb]
    simp only
    rw [if_pos ⟨hN,hle⟩]
    congr 1
    refine Yak fun j=>?_
    rw [Ys,Yac]
    by_cases hj:j<len*1
    ·rw [if_pos hj,hat j hj]
    ·rw [if_neg hj,Yap (by omega)]
theorem Zuf {α:Type} {h:Za} {bytes len:Nat} {cs:List Cell} (hlen:cs.length=len) (h1:len*bytes<=maxBytes) (h2:len<=maxBytes) (f:Cell->Za->Option α) :
  Zaq 1 bytes (.sl h.length 0 0 0) cs (h++[some ⟨true,1,[]⟩]) f=f (.sl h.length cs.length 0 len) (h++[some ⟨true,1,cs⟩]):=by
 unfold Zaq
 simp only
 rw [Zaa,Yag]
 dsimp only
 have hd:cs.length / 1=len:=by rw [Nat.div_one,hlen]
 rw [if_pos ⟨rfl,rfl,rfl,by simp,by rw [hd];simp;omega,by rw [hd];simp;omega⟩,hd]
 by_cases h0:len=0
 ·have:cs=[]:=Yv.1 (by omega)
  subst this
  rw [if_pos (by simp),setBlk_last,h0];rfl
 ·rw [if_neg (by omega),if_pos trivial,setBlk_last]
  simp
theorem Zhj (hE:q202_In E) {x:Cell} {cs:List Cell} {len:Nat} {h:Za} (hx:SlAt h x 1 cs len) (hlow:Low h.length x) (hl:len<=1000) :
  ∃x' h',R E 202 [.c x] h=some ([.c x'],h')/\Own h.length h' x' 1 cs len/\Kp h.length h h':=by
 have hm:maxBytes>=1000*8:=by unfold maxBytes;omega
 have hlen:cs.length=len:=by have:=hx.1;omega
 have hx0:=hx
 rcases hx.2 with ⟨rfl,h0⟩ | ⟨k,N,off,rfl,hb⟩
 ·refine ⟨.nils,h,Zd hE.fn ?_,⟨hx.1,.inl ⟨rfl,h0⟩⟩,Kp.refl _ _⟩
  rw [q202_eq];rfl
 ·have hk1:Kp h.length h (h++[some ⟨true,1,[]⟩]):=Kp.app _ (Yh _)
  have hc:=cells1 (hx0.keep hlow hk1)
  refine ⟨.sl h.length cs.length 0 len,h++[some ⟨true,1,cs⟩],Zd hE.fn ?_,⟨hx.1,.inr ⟨h.length,rfl,Yh _,Zaa _ _⟩⟩,Kp.app _ (Yh _)⟩
  rw [q202_eq,show ∀{α:Type} (f:Bool->Option α),Zcm false (.sl k N off len) .nils f=f false from fun _=>rfl,if_neg (by simp),if_pos (show ([]:List Cell).length=0*1 from rfl),hc,bind_ok,show ([]:List Cell).length=0 from rfl,Zuf hlen (by omega) (by omega)]
theorem Zgm (hE:q203_In E) {x:Cell} {cs:List Cell} {len:Nat} {h:Za} (hx:SlAt h x 1 cs len) (hlow:Low h.length x) (hl:len<=1000) :
  ∃x' h',R E 203 [.c x] h=some ([.c x'],h')/\Own h.length h' x' 1 cs len/\Kp h.length h h':=by
 have hm:maxBytes>=1000*8:=by unfold maxBytes;omega
 have hlen:cs.length=len:=by have:=hx.1;omega
 have hx0:=hx
 rcases hx.2 with ⟨rfl,h0⟩ | ⟨k,N,off,rfl,hb⟩
 ·refine ⟨.nils,h,Zd hE.fn ?_,⟨hx.1,.inl ⟨rfl,h0⟩⟩,Kp.refl _ _⟩
  rw [q203_eq];rfl
 ·have hk1:Kp h.length h (h++[some ⟨true,1,[]⟩]):=Kp.app _ (Yh _)
  have hc:=cells1 (hx0.keep hlow hk1)
  refine ⟨.sl h.length cs.length 0 len,h++[some ⟨true,1,cs⟩],Zd hE.fn ?_,⟨hx.1,.inr ⟨h.length,rfl,Yh _,Zaa _ _⟩⟩,Kp.app _ (Yh _)⟩
  rw [q203_eq,show ∀{α:Type} (f:Bool->Option α),Zcm false (.sl k N off len) .nils f=f false from fun _=>rfl,if_neg (by simp),if_pos (show ([]:List Cell).length=0*1 from rfl),hc,bind_ok,show ([]:List Cell).length=0 from rfl,Zuf hlen (by omega) (by omega)]
end
section
variable (C:Zk) (L:Zbl) (G:Glo)
variable {h h0:Za}
variable {x14:Cell}
variable {a1 a2 a3 a4 a8 a9 a13 a15 a16 a24 a75:Int}
variable {l0 s0 s1 s2 s3:List Cell}
variable {N0 N6 k0 k6 o0 o6:Nat}
def q171_k2 (h0:Za):Ex->St->Rs:=Zae (fun st=>q171_p1.exec C L G st (q171.fin G h0)) (q171.fin G h0)
def q171_k3 (h0:Za):Ex->St->Rs:=Zap 0 (q171_k2 C L G h0)
def q171_s1 (a1:Int) (k6 N6 o6:Nat) (a24:Int) (s0:List Cell) (h:Za):St:=⟨tops 1 (.v (.c (.int .i64 a1)) :: .loc 0 0 :: tops 3 (.v (.c (.ptr k6 N6 o6)) :: tops 17 (.v (.c (.int .i64 a24)) :: tops 34 []))),[some s0],h⟩
def q171_F1 :St->Option (Ex × St):=Zo (q171_b1.exec C L G) [1,2,6,24] [0] [(1,[2,6],[0])]
def q171_x1_1 (k6 N6 o6:Nat) (s0:List Cell) (h:Za):St:=⟨tops 2 (.loc 0 0 :: tops 3 (.v (.c (.ptr k6 N6 o6)) :: tops 52 [])),[some s0],h⟩
theorem q171_r1:q171_F1 C L G (q171_s1 a1 k6 N6 o6 a24 s0 h)=if (decide (a24<4))=true then Zn h k6 N6 fun l=>if (o6+0)+3<=l.length then c1 (qh h (C 94 [(.agg ((l.drop (o6+0)).take 3)),(.c (.int .i64 a24))] h)) fun y h1=>asA y fun l=>if 0<=a24/\a24<((4:Nat):Int) then Zn h k6 N6 fun l1=>if ((o6+4)+((Ye a24)*5))+5<=l1.length/\l.length=5 then Zbh h k6 (splice l1 ((o6+4)+((Ye a24)*5)) l) fun h1=>c1 (qh h1 (C 190 [(.c (.int .i64 a1))] h1)) fun y h2=>asA y fun l=>if 0<=a24/\a24<((4:Nat):Int) then Zn h1 k6 N6 fun l1=>if ((o6+32)+((Ye a24)*74))+74<=l1.length/\l.length=74 then Zbh h1 k6 (splice l1 ((o6+32)+((Ye a24)*74)) l) fun h1=>if 0<=a24/\a24<((4:Nat):Int) then Zn h1 k6 N6 fun l=>if ((o6+28)+((Ye a24)*1))<l.length then Zbh h1 k6 (l.set ((o6+28)+((Ye a24)*1)) (.int .i64 (-1))) fun h1=>some (.normal,(q171_s1 a1 k6 N6 o6 (G.wrap .i64 (a24+1)) s0 h1)) else none else none else none else none else none else none else none else some ((.exit 0),(q171_x1_1 k6 N6 o6 s0 h)):=by kernel_rfl
theorem q171_e1_1:(q171_k3 C L G h0) (.exit 0) (q171_x1_1 k6 N6 o6 s0 h)=Zbs h 4 1 false false (.ptr k6 N6 (o6+24)) [] fun x=>Zf s0 1 fun q=>Zho 1 x q h fun n h=>some ([(.c (.ptr k6 N6 o6)),(.c (.int .i64 0))],h):=by kernel_rfl
theorem q171_eq:q171.body C L G [(.agg l0),(.c (.int .i64 a1))] h0=scK (decide (a1<1)) false (some ((decide (a1 > 3)),h0)) true h0 fun b h=>scK b false (if 0=0/\l0.length=3 then c1 (C 188 [(.agg l0)] h) fun y h=>asB y fun b=>some ((!b),h) else none) true h fun b h=>if b=true then some ([(.c .nilp),(.c (.int .i64 1))],h) else if 0=0/\l0.length=3 then c1 (C 189 [(.agg l0)] h) fun y h=>asA y fun l=>if l.length=3/\0+3<=([Cell.nils,Cell.nils,Cell.nils]++Ya 325 ci0++[Cell.nils]).length then if ([(.int .i64 a1)]:List Cell).length=1/\3+1<=(splice ([Cell.nils,Cell.nils,Cell.nils]++Ya 325 ci0++[Cell.nils]) 0 l).length then (L (q171_F1 C L G) (q171_s1 a1 h.length ((AV.cells (.agg (splice (splice ([Cell.nils,Cell.nils,Cell.nils]++Ya 325 ci0++[Cell.nils]) 0 l) 3 [(.int .i64 a1)]))).length) 0 0 l0 (h++[some (Blk.mk true 0 (AV.cells (.agg (splice (splice ([Cell.nils,Cell.nils,Cell.nils]++Ya 325 ci0++[Cell.nils]) 0 l) 3 [(.int .i64 a1)]))))]))).bind fun p=>(q171_k3 C L G h0) p.1 p.2 else none else none else none:=by kernel_rfl
def q172_k2 (h0:Za):Ex->St->Rs:=Zae (fun st=>q172_p1.exec C L G st (q172.fin G h0)) (q172.fin G h0)
def q172_k3 (h0:Za):Ex->St->Rs:=Zap 0 (q172_k2 C L G h0)
def q172_s2 (k0 N0 o0:Nat) (a3 a13:Int) (h:Za):St:=⟨.v (.c (.ptr k0 N0 o0)) :: tops 2 (.v (.c (.int .u64 a3)) :: tops 9 (.v (.c (.int .i64 a13)) :: tops 95 [])),[none],h⟩
def q172_F2 :St->Option (Ex × St):=Zo (q172_b2.exec C L G) [0,3,13] [] [(1,[3],[])]
def q172_k4 :Ex->St->Option (Ex × St):=Zae (fun st=>q172_p2.exec C L G st (Zaf [0,3,13] [] [(1,[3],[])])) (Zaf [0,3,13] [] [(1,[3],[])])
def q172_k5 :Ex->St->Option (Ex × St):=Zap 1 (q172_k4 C L G)
def q172_k6 :Ex->St->Option (Ex × St):=Zae (fun st=>q172_p3.exec C L G st (q172_k5 C L G)) (q172_k5 C L G)
def q172_c1 (k0 N0 o0:Nat) (a3 a4 a13:Int) (h:Za):St:=⟨.v (.c (.ptr k0 N0 o0)) :: tops 2 (.v (.c (.int .u64 a3)) :: .v (.c (.int .i64 a4)) :: tops 8 (.v (.c (.int .i64 a13)) :: tops 95 [])),[none],h⟩
def q172_k7 :Ex->St->Option (Ex × St):=Zap 2 (q172_k5 C L G)
def q172_s1 (k0 N0 o0:Nat) (a3 a4:Int) (a13 a75:Int) (h:Za):St:=⟨.v (.c (.ptr k0 N0 o0)) :: tops 2 (.v (.c (.int .u64 a3)) :: .v (.c (.int .i64 a4)) :: tops 8 (.v (.c (.int .i64 a13)) :: tops 61 (.v (.c (.int .i64 a75)) :: tops 33 []))),[none],h⟩
def q172_F1 :St->Option (Ex × St):=Zo (q172_b1.exec C L G) [0,3,4,13,75] [] [(3,[0,3,13],[])]
def q172_x1_3 (k0 N0 o0:Nat) (a3 a13:Int) (h:Za):St:=⟨.v (.c (.ptr k0 N0 o0)) :: tops 2 (.v (.c (.int .u64 a3)) :: tops 9 (.v (.c (.int .i64 a13)) :: tops 95 [])),[none],h⟩
def q172_k8 :Ex->St->Option (Ex × St):=Zap 2 (q172_k5 C L G)
def q172_x2_1 (a3:Int) (h:Za):St:=⟨tops 3 (.v (.c (.int .u64 a3)) :: tops 105 []),[none],h⟩
theorem q172_r1:q172_F1 C L G (q172_s1 k0 N0 o0 a3 a4 a13 a75 h)=if (decide (a75<4))=true then if 0<=a4/\a4<((4:Nat):Int) then Zn h k0 N0 fun l=>if ((o0+32)+((Ye a4)*74))+74<=l.length then c4 (C 192 [(.agg ((l.drop ((o0+32)+((Ye a4)*74))).take 74)),(.c (.int .i64 a75))] h) fun y y1 y2 y3 h1=>Zi .i64 y fun n=>Zi .i64 y1 fun n=>Zi .i64 y2 fun n=>asB y3 fun b=>Zn h1 k0 N0 fun l=>Zf l (o0+3) fun q=>Zi .i64 (.c q) fun n=>scK (n==3) true (some (b,h1)) false h1 fun b h1=>if b=true then let v:Int:=(G.wrap .i64 (8+(G.wrap .i64 (4*a4))));c1 (C 18 [(.c (.int .u64 a3)),(.c (.int .i64 (G.wrap .i64 (v+a75))))] h1) fun y h2=>Zi .u64 y fun n=>some (.normal,(q172_s1 k0 N0 o0 n a4 a13 (G.wrap .i64 (a75+1)) h2)) else some (.normal,(q172_s1 k0 N0 o0 a3 a4 a13 (G.wrap .i64 (a75+1)) h1)) else none else none else some ((.exit 2),(q172_x1_3 k0 N0 o0 a3 a13 h)):=by kernel_rfl
theorem q172_e1_3:(q172_k7 C L G) (.exit 2) (q172_x1_3 k0 N0 o0 a3 a13 h)=some (.normal,(q172_s2 k0 N0 o0 a3 (G.wrap .i64 (a13+1)) h)):=by kernel_rfl
theorem q172_ec1_n:(q172_k6 C L G) .normal (q172_c1 k0 N0 o0 a3 a4 a13 h)=Zn h k0 N0 fun l=>Zf l (o0+3) fun q=>Zi .i64 (.c q) fun n=>scK (n==2) true (if 0<=a4/\a4<((4:Nat):Int) then Zn h k0 N0 fun l=>if ((o0+32)+((Ye a4)*74))+74<=l.length then c1 (C 191 [(.agg ((l.drop ((o0+32)+((Ye a4)*74))).take 74))] h) fun y h=>asB y fun b=>some ((!b),h) else none else none) false h fun b h=>if b=true then c1 (C 18 [(.c (.int .u64 a3)),(.c (.int .i64 (G.wrap .i64 (4+a4))))] h) fun y h1=>Zi .u64 y fun n=>(L (q172_F1 C L G) (q172_s1 k0 N0 o0 n a4 a13 0 h1)).bind fun p=>(q172_k7 C L G) p.1 p.2 else (L (q172_F1 C L G) (q172_s1 k0 N0 o0 a3 a4 a13 0 h)).bind fun p=>(q172_k8 C L G) p.1 p.2:=by kernel_rfl
theorem q172_r2:q172_F2 C L G (q172_s2 k0 N0 o0 a3 a13 h)=if (decide (a13<4))=true then Zn h k0 N0 fun l=>if (o0+0)+3<=l.length then if 0<=a13/\a13<((4:Nat):Int) then Zn h k0 N0 fun l1=>if ((o0+4)+((Ye a13)*5))+5<=l1.length then c2 (qh h (C 105 [(.agg ((l.drop (o0+0)).take 3)),(.c (.int .i64 a13)),(.agg ((l1.drop ((o0+4)+((Ye a13)*5))).take 5))] h)) fun y y1 h1=>asA y fun l=>asB y1 fun b=>if 0=0/\(Ya 9 ci0).length=9/\l.length=9 then Zf l 0 fun q=>Zi .i64 (.c q) fun n=>scK (n==3) false (Zf l 0 fun q=>Zi .i64 (.c q) fun n=>some ((n==4),h)) true h fun b1 h1=>(scK b true (scK (!b1) false (if 0<=a13/\a13<((4:Nat):Int) then Zn h1 k0 N0 fun l=>if ((o0+32)+((Ye a13)*74))+74<=l.length then c1 (C 191 [(.agg ((l.drop ((o0+32)+((Ye a13)*74))).take 74))] h1) fun y h=>asB y fun b=>some (b,h) else none else none) true h1 fun b h=>some (b,h)) false h1 fun b h=>if b=true then c1 (C 18 [(.c (.int .u64 a3)),(.c (.int .i64 a13))] h) fun y h1=>Zi .u64 y fun n=>some (.normal,(q172_c1 k0 N0 o0 n a13 a13 h1)) else some (.normal,(q172_c1 k0 N0 o0 a3 a13 a13 h)):Option (Ex × St)).bind fun p=>(q172_k6 C L G) p.1 p.2 else none else none else none else none else some ((.exit 0),(q172_x2_1 a3 h)):=by kernel_rfl
theorem q172_e2_1:(q172_k3 C L G h0) (.exit 0) (q172_x2_1 a3 h)=some ([(.c (.int .u64 a3))],h):=by kernel_rfl
theorem q172_eq:q172.body C L G [(.c (.ptr k0 N0 o0))] h0=(L (q172_F2 C L G) (q172_s2 k0 N0 o0 0 0 h0)).bind fun p=>(q172_k3 C L G h0) p.1 p.2:=by kernel_rfl
theorem q173_eq:q173.body C L G [(.c (.ptr k0 N0 o0)),(.c (.int .i64 a1))] h0=c1 (C 172 [(.c (.ptr k0 N0 o0))] h0) fun y h=>Zi .u64 y fun n=>c1 (C 17 [(.c (.int .u64 n)),(.c (.int .i64 a1))] h) fun y h=>asB y fun b=>if (!b)=true then if 0=0/\(Ya 7 ci0).length=7/\(Ya 7 ci0).length=7 then if 0=0/\(Ya 7 ci0).length=7 then some ([(.agg (Ya 7 ci0)),(.c (.bool false))],h) else none else none else if (decide (a1<4))=true then c1 (C 193 [(.c (.ptr k0 N0 o0)),(.c (.int .i64 a1))] h) fun y h1=>asA y fun l=>if 0=0/\(Ya 7 ci0).length=7/\l.length=7 then if 0<l.length then Zn h1 k0 N0 fun l1=>Zf l1 (o0+328) fun q=>if 0=0/\(l.set 0 (.int .i64 a1)).length=7 then if (l.set 0 (.int .i64 a1)).length=7/\0+7<=(Ya 7 ci0).length then if (splice (Ya 7 ci0) 0 (l.set 0 (.int .i64 a1))).length=1*7 then Zaq 7 56 q (splice (Ya 7 ci0) 0 (l.set 0 (.int .i64 a1))) h1 fun x h1=>Zn h1 k0 N0 fun l1=>if (o0+328)<l1.length then Zbh h1 k0 (l1.set (o0+328) x) fun h1=>if 0=0/\(l.set 0 (.int .i64 a1)).length=7 then if 0=0/\(Ya 7 ci0).length=7/\(l.set 0 (.int .i64 a1)).length=7 then if 0=0/\(l.set 0 (.int .i64 a1)).length=7 then some ([(.agg (l.set 0 (.int .i64 a1))),(.c (.bool true))],h1) else none else none else none else none else none else none else none else none else none else if (decide (a1<8))=true then c1 (C 194 [(.c (.ptr k0 N0 o0)),(.c (.int .i64 (G.wrap .i64 (a1 - 4)))),(.c (.int .i64 0))] h) fun y h1=>asA y fun l=>if 0=0/\(Ya 7 ci0).length=7/\l.length=7 then if 0<l.length then Zn h1 k0 N0 fun l1=>Zf l1 (o0+328) fun q=>if 0=0/\(l.set 0 (.int .i64 a1)).length=7 then if (l.set 0 (.int .i64 a1)).length=7/\0+7<=(Ya 7 ci0).length then if (splice (Ya 7 ci0) 0 (l.set 0 (.int .i64 a1))).length=1*7 then Zaq 7 56 q (splice (Ya 7 ci0) 0 (l.set 0 (.int .i64 a1))) h1 fun x h1=>Zn h1 k0 N0 fun l1=>if (o0+328)<l1.length then Zbh h1 k0 (l1.set (o0+328) x) fun h1=>if 0=0/\(l.set 0 (.int .i64 a1)).length=7 then if 0=0/\(Ya 7 ci0).length=7/\(l.set 0 (.int .i64 a1)).length=7 then if 0=0/\(l.set 0 (.int .i64 a1)).length=7 then some ([(.agg (l.set 0 (.int .i64 a1))),(.c (.bool true))],h1) else none else none else none else none else none else none else none else none else none else c1 (C 194 [(.c (.ptr k0 N0 o0)),(.c (.int .i64 (G.quo .i64 (G.wrap .i64 (a1 - 8)) 4))),(.c (.int .i64 (G.rem .i64 (G.wrap .i64 (a1 - 8)) 4)))] h) fun y h=>asA y fun l=>if 0=0/\(Ya 7 ci0).length=7/\l.length=7 then if 0<l.length then Zn h k0 N0 fun l1=>Zf l1 (o0+328) fun q=>if 0=0/\(l.set 0 (.int .i64 a1)).length=7 then if (l.set 0 (.int .i64 a1)).length=7/\0+7<=(Ya 7 ci0).length then if (splice (Ya 7 ci0) 0 (l.set 0 (.int .i64 a1))).length=1*7 then Zaq 7 56 q (splice (Ya 7 ci0) 0 (l.set 0 (.int .i64 a1))) h fun x h=>Zn h k0 N0 fun l1=>if (o0+328)<l1.length then Zbh h k0 (l1.set (o0+328) x) fun h=>if 0=0/\(l.set 0 (.int .i64 a1)).length=7 then if 0=0/\(Ya 7 ci0).length=7/\(l.set 0 (.int .i64 a1)).length=7 then if 0=0/\(l.set 0 (.int .i64 a1)).length=7 then some ([(.agg (l.set 0 (.int .i64 a1))),(.c (.bool true))],h) else none else none else none else none else none else none else none else none else none:=by kernel_rfl
theorem q174_eq:q174.body C L G [(.c (.ptr k0 N0 o0))] h0=c1 (C 172 [(.c (.ptr k0 N0 o0))] h0) fun y h=>Zi .u64 y fun n=>some ([(.c (.bool (n==0)))],h):=by kernel_rfl
theorem q175_eq:q175.body C L G [(.c (.ptr k0 N0 o0))] h0=Zn h0 k0 N0 fun l=>Zf l (o0+328) fun q=>c1 (C 195 [(.c q)] h0) fun y h=>asC y fun x=>some ([(.c x)],h):=by kernel_rfl
def q189_k2 (h0:Za):Ex->St->Rs:=Zae (fun st=>q189_p1.exec C L G st (q189.fin G h0)) (q189.fin G h0)
def q189_k3 (h0:Za):Ex->St->Rs:=Zap 0 (q189_k2 C L G h0)
def q189_s1 (x14:Cell) (a15 a16:Int) (s1 s2:List Cell) (h:Za):St:=⟨tops 2 (.loc 1 0 :: .loc 2 0 :: tops 10 (.v (.c x14) :: .v (.c (.int .i64 a15)) :: .v (.c (.int .i64 a16)) :: tops 12 [])),[none,some s1,some s2],h⟩
def q189_F1 :St->Option (Ex × St):=Zo (q189_b1.exec C L G) [2,3,14,15,16] [1,2] [(1,[2,3],[1,2])]
def q189_x1_1 (s1 s2:List Cell) (h:Za):St:=⟨tops 2 (.loc 1 0 :: .loc 2 0 :: tops 25 []),[none,some s1,some s2],h⟩
theorem q189_r1:q189_F1 C L G (q189_s1 x14 a15 a16 s1 s2 h)=if (decide (a16<a15))=true then Zm 1 x14 a16 fun k N o=>Zn h k N fun l=>Zf l o fun q=>Zf s2 2 fun q1=>c1 (C 119 [(.c q)] h) fun y h1=>asC y fun x=>if (splice [Cell.nils] 0 [x]).length=1*1 then Zaq 1 24 q1 (splice [Cell.nils] 0 [x]) h1 fun x h1=>if 2<s2.length then some (.normal,(q189_s1 x14 a15 (G.wrap .i64 (a16+1)) s1 (s2.set 2 x) h1)) else none else none else some ((.exit 0),(q189_x1_1 s1 s2 h)):=by kernel_rfl
theorem q189_e1_1:(q189_k3 C L G h0) (.exit 0) (q189_x1_1 s1 s2 h)=if 0=0/\s2.length=3 then if 0=0/\s1.length=3/\s2.length=3 then if 0=0/\s2.length=3 then some ([(.agg s2)],h) else none else none else none:=by kernel_rfl
theorem q189_eq:q189.body C L G [(.agg l0)] h0=Zf l0 0 fun q=>c1 (C 202 [(.c q)] h0) fun y h=>asC y fun x=>Zf l0 1 fun q=>c1 (C 203 [(.c q)] h) fun y h=>asC y fun x1=>if 0=0/\[Cell.nils,Cell.nils,Cell.nils].length=3/\(splice (splice [Cell.nils,Cell.nils,Cell.nils] 0 [x]) 1 [x1]).length=3 then Zf l0 2 fun q=>Zaj q fun n=>(L (q189_F1 C L G) (q189_s1 q n 0 [Cell.nils,Cell.nils,Cell.nils] (splice (splice [Cell.nils,Cell.nils,Cell.nils] 0 [x]) 1 [x1]) h)).bind fun p=>(q189_k3 C L G h0) p.1 p.2 else none:=by kernel_rfl
def q193_k2 (h0:Za):Ex->St->Rs:=Zae (fun st=>q193_p1.exec C L G st (q193.fin G h0)) (q193.fin G h0)
def q193_c1 (k0 N0 o0:Nat) (a1 a8 a9:Int) (s0 s1 s2:List Cell) (h:Za):St:=⟨.v (.c (.ptr k0 N0 o0)) :: .v (.c (.int .i64 a1)) :: tops 2 (.loc 0 0 :: .loc 1 0 :: .loc 2 0 :: tops 1 (.v (.c (.int .i64 a8)) :: .v (.c (.int .i64 a9)) :: tops 136 [])),[some s0,some s1,some s2,none],h⟩
def q193_k3 (h0:Za):Ex->St->Rs:=Zae (fun st=>q193_p2.exec C L G st (q193.fin G h0)) (q193.fin G h0)
def q193_c2 (k0 N0 o0:Nat) (a1 a8 a9:Int) (s0 s1 s3:List Cell) (h:Za):St:=⟨.v (.c (.ptr k0 N0 o0)) :: .v (.c (.int .i64 a1)) :: tops 2 (.loc 0 0 :: .loc 1 0 :: tops 2 (.v (.c (.int .i64 a8)) :: .v (.c (.int .i64 a9)) :: tops 3 (.loc 3 0 :: tops 132 []))),[some s0,some s1,none,some s3],h⟩
theorem q193_ec2_n:(q193_k3 C L G h0) .normal (q193_c2 k0 N0 o0 a1 a8 a9 s0 s1 s3 h)=Zn h k0 N0 fun l=>Zf l (o0+328) fun q=>Zaj q fun n=>Zf s3 2 fun q=>Zi .i64 (.c q) fun n1=>scK (n1==2) true (Zn h k0 N0 fun l=>Zf l (o0+3) fun q=>Zi .i64 (.c q) fun n=>some ((n != 1),h)) false h fun b h=>if b=true then if 0<=a1/\a1<((4:Nat):Int) then Zn h k0 N0 fun l=>if ((o0+32)+((Ye a1)*74))+74<=l.length then Zf s3 3 fun q=>Zi .i64 (.c q) fun n1=>Zf s3 5 fun q=>Zi .i64 (.c q) fun n2=>c1 (qh h (C 206 [(.agg ((l.drop ((o0+32)+((Ye a1)*74))).take 74)),(.c (.int .i64 n1)),(.c (.int .i64 n2)),(.c (.int .i64 n))] h)) fun y h1=>asA y fun l=>if 0<=a1/\a1<((4:Nat):Int) then Zn h k0 N0 fun l1=>if ((o0+32)+((Ye a1)*74))+74<=l1.length/\l.length=74 then Zbh h k0 (splice l1 ((o0+32)+((Ye a1)*74)) l) fun h1=>Zn h1 k0 N0 fun l=>if (o0+0)+3<=l.length then if 0=0/\s1.length=5 then c1 (qh h1 (C 106 [(.agg ((l.drop (o0+0)).take 3)),(.c (.int .i64 a1)),(.agg s1),(.c (.int .i64 a8))] h1)) fun y h2=>asA y fun l=>if 0<=a1/\a1<((4:Nat):Int) then Zn h1 k0 N0 fun l1=>if ((o0+4)+((Ye a1)*5))+5<=l1.length/\l.length=5 then Zbh h1 k0 (splice l1 ((o0+4)+((Ye a1)*5)) l) fun h1=>Zf s3 2 fun q=>Zi .i64 (.c q) fun n1=>Zf s3 3 fun q=>Zi .i64 (.c q) fun n2=>Zf s3 4 fun q=>Zi .i64 (.c q) fun n3=>Zf s3 5 fun q=>Zi .i64 (.c q) fun n4=>if 0=0/\s0.length=7/\(splice (splice (splice (splice (splice (splice (Ya 7 ci0) 1 [(.int .i64 a1)]) 2 [(.int .i64 n1)]) 3 [(.int .i64 n2)]) 4 [(.int .i64 n3)]) 5 [(.int .i64 n4)]) 6 [(.int .i64 a9)]).length=7 then if 0=0/\(splice (splice (splice (splice (splice (splice (Ya 7 ci0) 1 [(.int .i64 a1)]) 2 [(.int .i64 n1)]) 3 [(.int .i64 n2)]) 4 [(.int .i64 n3)]) 5 [(.int .i64 n4)]) 6 [(.int .i64 a9)]).length=7 then some ([(.agg (splice (splice (splice (splice (splice (splice (Ya 7 ci0) 1 [(.int .i64 a1)]) 2 [(.int .i64 n1)]) 3 [(.int .i64 n2)]) 4 [(.int .i64 n3)]) 5 [(.int .i64 n4)]) 6 [(.int .i64 a9)]))],h1) else none else none else none else none else none else none else none else none else none else none else if 0=0/\s3.length=6 then c1 (C 80 [(.agg s3)] h) fun y h=>asB y fun b=>if b=true then Zf s3 3 fun q=>Zi .i64 (.c q) fun n1=>Zf s3 3 fun q=>Zi .i64 (.c q) fun n2=>Zf s3 5 fun q=>Zi .i64 (.c q) fun n3=>if 0<=n1/\n1<((4:Nat):Int) then Zn h k0 N0 fun l=>if ((o0+24)+((Ye n1)*1))<l.length then Zbh h k0 (l.set ((o0+24)+((Ye n1)*1)) (.int .i64 n3)) fun h1=>if 0<=n2/\n2<((4:Nat):Int) then Zn h1 k0 N0 fun l=>if ((o0+28)+((Ye n2)*1))<l.length then Zbh h1 k0 (l.set ((o0+28)+((Ye n2)*1)) (.int .i64 n)) fun h1=>Zn h1 k0 N0 fun l=>if (o0+0)+3<=l.length then if 0=0/\s1.length=5 then c1 (qh h1 (C 106 [(.agg ((l.drop (o0+0)).take 3)),(.c (.int .i64 a1)),(.agg s1),(.c (.int .i64 a8))] h1)) fun y h2=>asA y fun l=>if 0<=a1/\a1<((4:Nat):Int) then Zn h1 k0 N0 fun l1=>if ((o0+4)+((Ye a1)*5))+5<=l1.length/\l.length=5 then Zbh h1 k0 (splice l1 ((o0+4)+((Ye a1)*5)) l) fun h1=>Zf s3 2 fun q=>Zi .i64 (.c q) fun n=>Zf s3 3 fun q=>Zi .i64 (.c q) fun n1=>Zf s3 4 fun q=>Zi .i64 (.c q) fun n2=>Zf s3 5 fun q=>Zi .i64 (.c q) fun n3=>if 0=0/\s0.length=7/\(splice (splice (splice (splice (splice (splice (Ya 7 ci0) 1 [(.int .i64 a1)]) 2 [(.int .i64 n)]) 3 [(.int .i64 n1)]) 4 [(.int .i64 n2)]) 5 [(.int .i64 n3)]) 6 [(.int .i64 a9)]).length=7 then if 0=0/\(splice (splice (splice (splice (splice (splice (Ya 7 ci0) 1 [(.int .i64 a1)]) 2 [(.int .i64 n)]) 3 [(.int .i64 n1)]) 4 [(.int .i64 n2)]) 5 [(.int .i64 n3)]) 6 [(.int .i64 a9)]).length=7 then some ([(.agg (splice (splice (splice (splice (splice (splice (Ya 7 ci0) 1 [(.int .i64 a1)]) 2 [(.int .i64 n)]) 3 [(.int .i64 n1)]) 4 [(.int .i64 n2)]) 5 [(.int .i64 n3)]) 6 [(.int .i64 a9)]))],h1) else none else none else none else none else none else none else none else none else none else none else Zn h k0 N0 fun l=>if (o0+0)+3<=l.length then if 0=0/\s1.length=5 then c1 (qh h (C 106 [(.agg ((l.drop (o0+0)).take 3)),(.c (.int .i64 a1)),(.agg s1),(.c (.int .i64 a8))] h)) fun y h1=>asA y fun l=>if 0<=a1/\a1<((4:Nat):Int) then Zn h k0 N0 fun l1=>if ((o0+4)+((Ye a1)*5))+5<=l1.length/\l.length=5 then Zbh h k0 (splice l1 ((o0+4)+((Ye a1)*5)) l) fun h=>Zf s3 2 fun q=>Zi .i64 (.c q) fun n=>Zf s3 3 fun q=>Zi .i64 (.c q) fun n1=>Zf s3 4 fun q=>Zi .i64 (.c q) fun n2=>Zf s3 5 fun q=>Zi .i64 (.c q) fun n3=>if 0=0/\s0.length=7/\(splice (splice (splice (splice (splice (splice (Ya 7 ci0) 1 [(.int .i64 a1)]) 2 [(.int .i64 n)]) 3 [(.int .i64 n1)]) 4 [(.int .i64 n2)]) 5 [(.int .i64 n3)]) 6 [(.int .i64 a9)]).length=7 then if 0=0/\(splice (splice (splice (splice (splice (splice (Ya 7 ci0) 1 [(.int .i64 a1)]) 2 [(.int .i64 n)]) 3 [(.int .i64 n1)]) 4 [(.int .i64 n2)]) 5 [(.int .i64 n3)]) 6 [(.int .i64 a9)]).length=7 then some ([(.agg (splice (splice (splice (splice (splice (splice (Ya 7 ci0) 1 [(.int .i64 a1)]) 2 [(.int .i64 n)]) 3 [(.int .i64 n1)]) 4 [(.int .i64 n2)]) 5 [(.int .i64 n3)]) 6 [(.int .i64 a9)]))],h) else none else none else none else none else none else none else none:=by kernel_rfl
theorem q193_ec1_n:(q193_k2 C L G h0) .normal (q193_c1 k0 N0 o0 a1 a8 a9 s0 s1 s2 h)=if 0=0/\s2.length=9 then if 0=0/\s1.length=5 then c2 (C 109 [(.agg s2),(.agg s1),(.c (.int .i64 a8))] h) fun y y1 h=>asA y fun l=>asB y1 fun b=>if 0=0/\[ci0,ci0,ci0,ci0,ci0,ci0].length=6/\l.length=6 then (if (!b)=true then some (.normal,(q193_c2 k0 N0 o0 a1 a8 (-1) s0 s1 l h)) else some (.normal,(q193_c2 k0 N0 o0 a1 a8 a9 s0 s1 l h)):Option (Ex × St)).bind fun p=>(q193_k3 C L G h0) p.1 p.2 else none else none else none:=by kernel_rfl
theorem q193_eq:q193.body C L G [(.c (.ptr k0 N0 o0)),(.c (.int .i64 a1))] h0=if 0<=a1/\a1<((4:Nat):Int) then Zn h0 k0 N0 fun l=>if ((o0+4)+((Ye a1)*5))+5<=l.length then if 0=0/\[ci0,ci0,ci0,ci0,ci0].length=5/\((l.drop ((o0+4)+((Ye a1)*5))).take 5).length=5 then Zn h0 k0 N0 fun l1=>if (o0+0)+3<=l1.length then if 0=0/\((l.drop ((o0+4)+((Ye a1)*5))).take 5).length=5 then c2 (qh h0 (C 105 [(.agg ((l1.drop (o0+0)).take 3)),(.c (.int .i64 a1)),(.agg ((l.drop ((o0+4)+((Ye a1)*5))).take 5))] h0)) fun y y1 h=>asA y fun l1=>asB y1 fun b=>if 0=0/\(Ya 9 ci0).length=9/\l1.length=9 then Zf l1 2 fun q=>Zi .i64 (.c q) fun n=>if 0<=n/\n<((4:Nat):Int) then Zn h0 k0 N0 fun l2=>Zf l2 ((o0+24)+((Ye n)*1)) fun q=>Zi .i64 (.c q) fun n=>Zf l1 2 fun q=>Zi .i64 (.c q) fun n1=>if 0<=n1/\n1<((4:Nat):Int) then Zn h0 k0 N0 fun l2=>Zf l2 ((o0+28)+((Ye n1)*1)) fun q=>Zi .i64 (.c q) fun n1=>(if 0<=a1/\a1<((4:Nat):Int) then Zn h0 k0 N0 fun l2=>if ((o0+32)+((Ye a1)*74))+74<=l2.length then Zf l1 2 fun q=>Zi .i64 (.c q) fun n2=>c3 (qh h0 (C 205 [(.agg ((l2.drop ((o0+32)+((Ye a1)*74))).take 74)),(.c (.int .i64 n2))] h0)) fun y y1 y2 h=>Zi .i64 y fun n2=>Zi .i64 y1 fun n3=>asB y2 fun b=>if b=true then some (.normal,(q193_c1 k0 N0 o0 a1 n2 n3 (Ya 7 ci0) ((l.drop ((o0+4)+((Ye a1)*5))).take 5) l1 h0)) else some (.normal,(q193_c1 k0 N0 o0 a1 n n1 (Ya 7 ci0) ((l.drop ((o0+4)+((Ye a1)*5))).take 5) l1 h0)) else none else none:Option (Ex × St)).bind fun p=>(q193_k2 C L G h0) p.1 p.2 else none else none else none else none else none else none else none else none:=by kernel_rfl
theorem q194_eq:q194.body C L G [(.c (.ptr k0 N0 o0)),(.c (.int .i64 a1)),(.c (.int .i64 a2))] h0=if 0<=a1/\a1<((4:Nat):Int) then Zn h0 k0 N0 fun l=>if ((o0+32)+((Ye a1)*74))+74<=l.length then c4 (C 192 [(.agg ((l.drop ((o0+32)+((Ye a1)*74))).take 74)),(.c (.int .i64 a2))] h0) fun y y1 y2 y3 h=>Zi .i64 y fun n=>Zi .i64 y1 fun n1=>Zi .i64 y2 fun n2=>asB y3 fun b=>if 0<=a1/\a1<((4:Nat):Int) then Zn h k0 N0 fun l=>if ((o0+32)+((Ye a1)*74))+74<=l.length then c1 (qh h (C 207 [(.agg ((l.drop ((o0+32)+((Ye a1)*74))).take 74)),(.c (.int .i64 a2))] h)) fun y h1=>asA y fun l=>if 0<=a1/\a1<((4:Nat):Int) then Zn h k0 N0 fun l1=>if ((o0+32)+((Ye a1)*74))+74<=l1.length/\l.length=74 then Zbh h k0 (splice l1 ((o0+32)+((Ye a1)*74)) l) fun h=>if 0<=n/\n<((4:Nat):Int) then Zn h k0 N0 fun l=>if ((o0+24)+((Ye n)*1))<l.length then Zbh h k0 (l.set ((o0+24)+((Ye n)*1)) (.int .i64 n1)) fun h=>if 0<=n/\n<((4:Nat):Int) then Zn h k0 N0 fun l=>if ((o0+28)+((Ye n)*1))<l.length then Zbh h k0 (l.set ((o0+28)+((Ye n)*1)) (.int .i64 n2)) fun h=>if 0=0/\(Ya 7 ci0).length=7/\(splice (splice (splice (splice (splice (Ya 7 ci0) 1 [(.int .i64 a1)]) 2 [(.int .i64 6)]) 3 [(.int .i64 n)]) 5 [(.int .i64 n1)]) 6 [(.int .i64 n2)]).length=7 then if 0=0/\(splice (splice (splice (splice (splice (Ya 7 ci0) 1 [(.int .i64 a1)]) 2 [(.int .i64 6)]) 3 [(.int .i64 n)]) 5 [(.int .i64 n1)]) 6 [(.int .i64 n2)]).length=7 then some ([(.agg (splice (splice (splice (splice (splice (Ya 7 ci0) 1 [(.int .i64 a1)]) 2 [(.int .i64 6)]) 3 [(.int .i64 n)]) 5 [(.int .i64 n1)]) 6 [(.int .i64 n2)]))],h) else none else none else none else none else none else none else none else none else none else none else none else none:=by kernel_rfl
end
def ProgO (n:Nat) (h:Za) (cs:List Cell) (P:PProg):Prop :=
 ∃x y th,cs=[x,y,th]/\Own n h x 1 (intC .u8 P.locs) P.locs.length/\Own n h y 1 (intC .i64 P.init) P.init.length/\RowsOwn 9 Zai n h th P.thr
theorem ProgO.at {n:Nat} {h:Za} {cs:List Cell} {P:PProg} (p:ProgO n h cs P):ProgAt h cs P:=by
 obtain ⟨x,y,th,rfl,o1,o2,rr⟩:=p
 obtain ⟨us,u1,u2,u3⟩:=rr.of
 exact ⟨x,y,th,us,rfl,⟨o1.at,o1.low⟩,⟨o2.at,o2.low⟩,⟨u1,u2⟩,u3⟩
section
variable {E:Env}
theorem copied_S (hE:q189_In E) {cs:List Cell} {P:PProg} {h:Za} (p:ProgAt h cs P) (hsm:P.small) (hll:P.locs.length<=1000) (hil:P.init.length<=1000) :
  ∃cs' h',R E 189 [.agg cs] h=some ([.agg cs'],h')/\ProgO h.length h' cs' P/\Kp h.length h h':=by
 have p0:=p
 obtain ⟨a,b,c,ts,rfl,⟨ha,hal⟩,⟨hb,hbl⟩,⟨hc,hcl⟩,hts⟩:=p
 obtain ⟨x,h1,r1,o1,k1⟩:=Zhj hE.c202 ha hal hll
 obtain ⟨y,h2,r2,o2,k2⟩:=Zgm hE.c203 (hb.keep hbl k1) (Zbi k1.1 hbl) hil
 have k12:Kp h.length h h2:=k1.trans (k2.mono k1.1)
 have n2:=hsm.1
 obtain ⟨st,⟨th,h3,rfl,rr,k3⟩,hL⟩:=Zhp (F:=q189_F1 (R E) Zx E.glob) (fun t st=>∃th h',st=q189_s1 c P.thr.length (t:Int) [.nils,.nils,.nils] [x,y,th] h'/\RowsOwn 9 Zai h2.length h' th (P.thr.take t)/\Kp h2.length h2 h') 0 P.thr.length (by omega)
  (fun t st _ ht=>by
   rintro ⟨th,h',rfl,rr,kk⟩
   have hq:P.thr[t]? = some P.thr[t]:=Yc ht
   generalize P.thr[t]=code at hq
   have hcl2:=hsm.2 code (Yf hq)
   obtain ⟨z,z1,z2,z3⟩:=hts t code hq
   have kh:Kp h.length h h':=k12.trans (kk.mono k12.1)
   obtain ⟨x',h'',c1',c2',c3'⟩:=Clone_R hE.c119 (z2.keep z3 kh) (Zbi kh.1 z3) hcl2
   obtain ⟨th2,h4,ap,r4,k4,_⟩:=(rr.keep c3').push (c2'.monoN kk.1) (fun k q1 q2=>by have:=(c2'.blkLt q1).2;have:=(rr.blkLt q2).1;omega) (Yo kk.1 c3'.1) (by rw [Yp];omega)
   refine ⟨q189_s1 c P.thr.length ((t+1:Nat):Int) [.nils,.nils,.nils] [x,y,th2] h4,?_,th2,h4,rfl,by rw [Zbq hq];exact r4,kk.trans ((c3'.mono kk.1).trans k4)⟩
   rw [q189_r1,if_pos (by simp;omega),(hc.keep hcl kh).get1 ht z1,show ∀{α:Type} (f:Cell->Option α),Zf [x,y,th] 2 f=f th from fun _=>rfl,c1',c1_ok,asC_ok,if_pos (show (splice [Cell.nils] 0 [x']).length=1*1 from rfl),show splice [Cell.nils] 0 [x']=[x'] from rfl,ap,if_pos (by simp),Zr (by omega)]
   rfl) (st:=q189_s1 c P.thr.length ((0:Nat):Int) [.nils,.nils,.nils] [x,y,.nils] h2) ⟨.nils,h2,rfl,by rw [Yai];exact RowsOwn.nil _,Kp.refl _ _⟩
 have e1:q189_F1 (R E) Zx E.glob (q189_s1 c P.thr.length (P.thr.length:Int) [.nils,.nils,.nils] [x,y,th] h3)=some (.exit 0,q189_x1_1 [.nils,.nils,.nils] [x,y,th] h3):=by
  rw [q189_r1,if_neg (by simp)]
 have hr:=hL _ (Zl e1)
 rw [show ((0:Nat):Int)=0 from rfl] at hr
 rw [Ym (Yh _)] at rr
 have kx:=k2.trans (k3.mono k2.1)
 refine ⟨[x,y,th],h3,Zd hE.fn ?_,⟨x,y,th,rfl,o1.keepK kx,(o2.keepK k3).monoN k1.1,by
  obtain ⟨ts,w1,w2⟩:=rr
  exact ⟨ts,w1.monoN k12.1,fun t r hr=>by
   obtain ⟨z,z1,z2,z3⟩:=w2 t r hr
   exact ⟨z,z1,z2.monoN k12.1,z3⟩⟩⟩,k12.trans (k3.mono k12.1)⟩
 rw [q189_eq,show ∀{α:Type} (f:Cell->Option α),Zf [a,b,c] 0 f=f a from fun _=>rfl,r1,c1_ok,asC_ok,show ∀{α:Type} (f:Cell->Option α),Zf [a,b,c] 1 f=f b from fun _=>rfl,r2,c1_ok,asC_ok,if_pos (by exact ⟨rfl,rfl,rfl⟩),show ∀{α:Type} (f:Cell->Option α),Zf [a,b,c] 2 f=f c from fun _=>rfl,hc.len]
 refine Eq.trans (congrArg (fun z=>Option.bind z _) hr) ?_
 rw [bind_ok]
 dsimp only
 rw [q189_e1_1,if_pos ⟨rfl,rfl⟩,if_pos ⟨rfl,rfl,rfl⟩,if_pos ⟨rfl,rfl⟩]
end
structure MV where
 P:PProg
 m:Int
 lc:List Lcl
 mem:List Int
 frm:List Int
 bf:List (List Ent)
 st:List Stp
def Zbd (m:Int):Int:=if m=2∨m=3 then m else 0
def vmC (pc:List Cell) (V:MV) (x:Cell):List Cell :=
 pc++(([.int .i64 V.m]:List Cell)++(V.lc.flatMap Lcl.cs++(intC .i64 V.mem++(intC .i64 V.frm++(V.bf.flatMap (Zal (Zbd V.m))++[x])))))
structure MV.Fit (V:MV):Prop where
 m:1<=V.m/\V.m<=3
 lc:V.lc.length=4
 mem:V.mem.length=4
 frm:V.frm.length=4
 bf:V.bf.length=4
 b:∀l∈V.bf,l.length<=24
section seg
variable {α:Type}
theorem Zkn {a s b:List α} {n m:Nat} (hn:a.length=n) (hm:s.length=m):((a++(s++b)).drop n).take m=s:=by
 subst hn hm
 rw [List.drop_append_of_le_length (Yh _),List.drop_length,Yw,Yau (Yh _),Yx]
theorem Zvy {a s b s':List Cell} {n:Nat} (hn:a.length=n) (hm:s.length=s'.length):splice (a++(s++b)) n s'=a++(s'++b):=by
 subst hn
 unfold splice
 rw [Yau (Yh _),Yx,←hm,←Yg a s b,Ybe,Yab (by rw [Yb];exact Yh _),Yw,
  show a.length+s.length - (a++s).length=0 by rw [Yb];omega,List.drop_zero,Yg]
theorem Zdw {f:α->List Cell} {n:Nat}:∀{l:List α},(∀x∈l,(f x).length=n)->(l.flatMap f).length=l.length*n
 | [],_=>by simp
 | x :: l,h=>by
  rw [Yba,Yb,h x List.mem_cons_self,Zdw fun y hy=>h y (List.mem_cons_of_mem _ hy),Yr,Nat.succ_mul];omega
theorem Zhe {f:α->List Cell} {l:List α} {i:Nat} {x:α} (h:l[i]? = some x):l.flatMap f=(l.take i).flatMap f++(f x++(l.drop (i+1)).flatMap f):=by
 have hi:=Zs h
 have he:l=l.take i++x :: l.drop (i+1):=by
  rw [Yc hi] at h
  cases h
  rw [List.getElem_cons_drop,Ybk]
 conv=>lhs;rw [he]
 rw [List.flatMap_append,Yba]
theorem Zsp {f:α->List Cell} {l:List α} {i:Nat} (hi:i<l.length) (y:α):(l.set i y).flatMap f=(l.take i).flatMap f++(f y++(l.drop (i+1)).flatMap f):=by
 have:=Zhe (f:=f) (l:=l.set i y) (i:=i) (x:=y) (by rw [Ybj hi])
 rw [this,List.take_set_of_le (Yh _),List.drop_set_of_lt (by omega)]
theorem Zfq {f:α->List Cell} {n:Nat} {l:List α} (hl:∀x∈l,(f x).length=n) {i:Nat} (hi:i<=l.length):((l.take i).flatMap f).length=i*n:=by
 rw [Zdw fun x hx=>hl x (Ybm hx),Yp,Nat.min_eq_left hi]
end seg
theorem MV.Fit.lcs {V:MV} {pc:List Cell} (_:V.Fit) (_:pc.length=3):∀l∈V.lc,(Lcl.cs l).length=5:=fun _ _=>rfl
theorem MV.Fit.bfs {V:MV} {pc:List Cell} (f:V.Fit) (_:pc.length=3):∀l∈V.bf,(Zal (Zbd V.m) l).length=74:=fun l hl=>Zcv _ (f.b l hl)
theorem Zmb {V:MV} {pc:List Cell} {x:Cell} (_:V.Fit) (hpc:pc.length=3):((vmC pc V x).drop (0+0)).take 3=pc:=by
 unfold vmC
 exact Zkn (a:=[]) rfl hpc
theorem vm_m {V:MV} {pc:List Cell} {x:Cell} (_:V.Fit) (hpc:pc.length=3) {α:Type} {g:Cell->Option α}:Zf (vmC pc V x) (0+3) g=g (.int .i64 V.m):=by
 unfold vmC
 refine Zak ?_
 rw [Yi (by omega),hpc];rfl
section
variable {V:MV} {pc:List Cell} {x:Cell} (f:V.Fit) (hpc:pc.length=3)
include f hpc
theorem Zbt:(vmC pc V x).length=329:=by
 have h1:=Zdw (f.lcs hpc)
 have h2:=Zdw (f.bfs hpc)
 have:=f.lc;have:=f.mem;have:=f.frm;have:=f.bf
 unfold vmC
 simp only [Yb,intC_len,Yr,Yaa]
 omega
theorem Zxe {t:Nat} {l:Lcl} (h:V.lc[t]? = some l):∃A B:List Cell,vmC pc V x=A++(l.cs++B)/\A.length=(0+4)+t*5/\∀l':Lcl,vmC pc { V with lc:=V.lc.set t l' } x=A++(l'.cs++B):=by
 have hi:=Zs h
 have e:=Zfq (f.lcs hpc) (Ybg hi)
 refine ⟨pc++(([.int .i64 V.m]:List Cell)++(V.lc.take t).flatMap Lcl.cs),(V.lc.drop (t+1)).flatMap Lcl.cs++(intC .i64 V.mem++(intC .i64 V.frm++(V.bf.flatMap (Zal (Zbd V.m))++[x]))),?_,?_,fun l'=>?_⟩
 ·unfold vmC;rw [Zhe h];simp only [Yg]
 ·simp only [Yb,e,hpc,Yr,Yaa];omega
 ·unfold vmC;dsimp only;rw [Zsp hi];simp only [Yg]
theorem Zyw {t:Nat} {l:List Ent} (h:V.bf[t]? = some l):∃A B:List Cell,vmC pc V x=A++(Zal (Zbd V.m) l++B)/\A.length=(0+32)+t*74/\∀l':List Ent,vmC pc { V with bf:=V.bf.set t l' } x=A++(Zal (Zbd V.m) l'++B):=by
 have hi:=Zs h
 have e:=Zfq (f.bfs hpc) (Ybg hi)
 have e2:=Zdw (f.lcs hpc)
 have:=f.lc;have:=f.mem;have:=f.frm
 refine ⟨pc++(([.int .i64 V.m]:List Cell)++(V.lc.flatMap Lcl.cs++(intC .i64 V.mem++(intC .i64 V.frm++(V.bf.take t).flatMap (Zal (Zbd V.m)))))),(V.bf.drop (t+1)).flatMap (Zal (Zbd V.m))++[x],?_,?_,fun l'=>?_⟩
 ·unfold vmC;rw [Zhe h];simp only [Yg]
 ·simp only [Yb,e,e2,hpc,Yr,Yaa,intC_len];omega
 ·unfold vmC;dsimp only;rw [Zsp hi];simp only [Yg]
theorem Zqv:∃A B:List Cell,vmC pc V x=A++(intC .i64 V.mem++B)/\A.length=0+24/\∀l':List Int,vmC pc { V with mem:=l' } x=A++(intC .i64 l'++B):=by
 have e2:=Zdw (f.lcs hpc)
 have:=f.lc
 refine ⟨pc++(([.int .i64 V.m]:List Cell)++V.lc.flatMap Lcl.cs),intC .i64 V.frm++(V.bf.flatMap (Zal (Zbd V.m))++[x]),?_,?_,fun l'=>?_⟩
 ·unfold vmC;simp only [Yg]
 ·simp only [Yb,e2,hpc,Yr,Yaa];omega
 ·unfold vmC;simp only [Yg]
theorem Zxc:∃A B:List Cell,vmC pc V x=A++(intC .i64 V.frm++B)/\A.length=0+28/\∀l':List Int,vmC pc { V with frm:=l' } x=A++(intC .i64 l'++B):=by
 have e2:=Zdw (f.lcs hpc)
 have:=f.lc;have:=f.mem
 refine ⟨pc++(([.int .i64 V.m]:List Cell)++(V.lc.flatMap Lcl.cs++intC .i64 V.mem)),V.bf.flatMap (Zal (Zbd V.m))++[x],?_,?_,fun l'=>?_⟩
 ·unfold vmC;simp only [Yg]
 ·simp only [Yb,e2,hpc,Yr,Yaa,intC_len];omega
 ·unfold vmC;simp only [Yg]
theorem Zye:∃A:List Cell,(∀y,vmC pc V y=A++[y])/\A.length=328:=by
 have h1:=Zdw (f.lcs hpc)
 have h2:=Zdw (f.bfs hpc)
 have:=f.lc;have:=f.mem;have:=f.frm;have:=f.bf
 refine ⟨pc++(([.int .i64 V.m]:List Cell)++(V.lc.flatMap Lcl.cs++(intC .i64 V.mem++(intC .i64 V.frm++V.bf.flatMap (Zal (Zbd V.m)))))),fun y=>?_,?_⟩
 ·unfold vmC;simp only [Yg]
 ·simp only [Yb,h1,h2,hpc,Yr,Yaa,intC_len];omega
theorem vm_lcl {t:Nat} {l:Lcl} (h:V.lc[t]? = some l):((vmC pc V x).drop ((0+4)+t*5)).take 5=l.cs:=by
 obtain ⟨A,B,e,hA,_⟩:=Zxe (x:=x) f hpc h
 rw [e];exact Zkn hA rfl
theorem Zvn {t:Nat} (ht:t<4) (l:Lcl):splice (vmC pc V x) ((0+4)+t*5) l.cs=vmC pc { V with lc:=V.lc.set t l } x:=by
 obtain ⟨A,B,e,hA,h2⟩:=Zxe (x:=x) f hpc (Yc (show t<V.lc.length by rw [f.lc];exact ht))
 rw [e,h2];exact Zvy hA rfl
theorem Zlp {t:Nat} {l:List Ent} (h:V.bf[t]? = some l):((vmC pc V x).drop ((0+32)+t*74)).take 74=Zal (Zbd V.m) l:=by
 obtain ⟨A,B,e,hA,_⟩:=Zyw (x:=x) f hpc h
 rw [e];exact Zkn hA (Zcv _ (f.b _ (Yf h)))
theorem vm_setB {t:Nat} (ht:t<4) {l:List Ent} (hl:l.length<=24):splice (vmC pc V x) ((0+32)+t*74) (Zal (Zbd V.m) l)=vmC pc { V with bf:=V.bf.set t l } x:=by
 have hq:=Yc (show t<V.bf.length by rw [f.bf];exact ht)
 obtain ⟨A,B,e,hA,h2⟩:=Zyw (x:=x) f hpc hq
 rw [e,h2];exact Zvy hA (by rw [Zcv _ (f.b _ (Yf hq)),Zcv _ hl])
theorem vm_mem {α:Type} {i:Nat} {v:Int} (h:V.mem[i]? = some v) {g:Cell->Option α}:Zf (vmC pc V x) ((0+24)+i*1) g=g (.int .i64 v):=by
 obtain ⟨A,B,e,hA,_⟩:=Zqv (x:=x) f hpc
 have hi:=Zs h
 refine Zak ?_
 rw [e,Yi (by omega),Yk (by rw [intC_len];omega),show 0+24+i*1 - A.length=i by omega]
 exact Zbr h
theorem vm_frm {α:Type} {i:Nat} {v:Int} (h:V.frm[i]? = some v) {g:Cell->Option α}:Zf (vmC pc V x) ((0+28)+i*1) g=g (.int .i64 v):=by
 obtain ⟨A,B,e,hA,_⟩:=Zxc (x:=x) f hpc
 have hi:=Zs h
 refine Zak ?_
 rw [e,Yi (by omega),Yk (by rw [intC_len];omega),show 0+28+i*1 - A.length=i by omega]
 exact Zbr h
theorem vm_setM {i:Nat} (hi:i<4) (v:Int):(vmC pc V x).set ((0+24)+i*1) (.int .i64 v)=vmC pc { V with mem:=V.mem.set i v } x:=by
 obtain ⟨A,B,e,hA,h2⟩:=Zqv (x:=x) f hpc
 have:=f.mem
 rw [e,h2,Yaq _ _ (by omega),Ybo _ _ (by rw [intC_len];omega),show 0+24+i*1 - A.length=i by omega]
 unfold intC
 rw [List.map_set]
theorem vm_setF {i:Nat} (hi:i<4) (v:Int):(vmC pc V x).set ((0+28)+i*1) (.int .i64 v)=vmC pc { V with frm:=V.frm.set i v } x:=by
 obtain ⟨A,B,e,hA,h2⟩:=Zxc (x:=x) f hpc
 have:=f.frm
 rw [e,h2,Yaq _ _ (by omega),Ybo _ _ (by rw [intC_len];omega),show 0+28+i*1 - A.length=i by omega]
 unfold intC
 rw [List.map_set]
theorem Zjt {α:Type} {g:Cell->Option α}:Zf (vmC pc V x) (0+328) g=g x:=by
 obtain ⟨A,e,hA⟩:=Zye f hpc
 refine Zak ?_
 rw [e,Yi (by omega),hA];rfl
theorem Zuj (y:Cell):(vmC pc V x).set (0+328) y=vmC pc V y:=by
 obtain ⟨A,e,hA⟩:=Zye f hpc
 rw [e,e,Yaq _ _ (by omega),hA];rfl
end
def MV.l (V:MV) (t:Nat):Lcl:=V.lc.getD t Lcl.zero
def MV.b (V:MV) (t:Nat):List Ent:=V.bf.getD t []
def MV.nxt (V:MV) (t:Nat):Option Ins:=Zbx (V.P.code t) (V.l t)
def MV.mayT (V:MV) (t:Nat):Bool:=match V.nxt t with
 | none=>false
 | some i=>!(i.kind==3||i.kind==4)||(V.b t).length==0
def MV.mayF (V:MV) (t:Nat):Bool:=V.m==2&&!((V.b t).length==0)
def MV.mayL (V:MV) (t loc:Nat):Bool:=V.m==3&&((V.b t).find? (Zcy 3 (loc:Int))).isSome
def MV.may (V:MV) (i:Nat):Bool :=
 if i<4 then V.mayT i else if i<8 then V.mayF (i - 4) else if i<24 then V.mayL ((i - 8) / 4) ((i - 8) % 4) else false
def Zli (p:Nat->Bool):Nat->Nat
 | 0=>0
 | n+1=>if p n=true then Zli p n ||| 2 ^ n else Zli p n
theorem Zle (p:Nat->Bool):∀n i,(Zli p n).testBit i=(decide (i<n)&&p i)
 | 0,i=>by simp [Zli]
 | n+1,i=>by
  have ih:=Zle p n i
  rw [Zli]
  split
  ·rename_i hp
   rw [Nat.testBit_or,ih,Ybq]
   by_cases h:n=i
   ·subst h;simp [hp]
   ·rw [decide_eq_false h,Bool.or_false];congr 1;simp;omega
  ·rename_i hp
   rw [ih]
   by_cases h:n=i
   ·subst h;simp [hp]
   ·congr 1;simp;omega
theorem Zq752 (p:Nat->Bool) {n:Nat} (hn:n<=64):Zli p n<2 ^ 64:=by
 refine Nat.lt_pow_two_of_testBit _ fun i hi=>?_
 rw [Zle,decide_eq_false (by omega)];rfl
def MV.word (V:MV):Nat:=Zli V.may 24
theorem MV.may_out {V:MV} {i:Nat} (h:24<=i):V.may i=false:=by
 unfold MV.may
 rw [if_neg (by omega),if_neg (by omega),if_neg (by omega)]
theorem MV.word_bit (V:MV) (i:Nat):V.word.testBit i=V.may i:=by
 unfold MV.word
 rw [Zle]
 by_cases h:i<24
 ·rw [decide_eq_true h,Yax]
 ·rw [MV.may_out (by omega),Yce]
theorem MV.l_at {V:MV} {t:Nat} (h:t<V.lc.length):V.lc[t]? = some (V.l t):=by
 unfold MV.l;rw [Yq,Yc h];rfl
theorem MV.b_at {V:MV} {t:Nat} (h:t<V.bf.length):V.bf[t]? = some (V.b t):=by
 unfold MV.b;rw [Yq,Yc h];rfl
def Dn (a b c i:Nat):Bool:=if i<4 then decide (i<a) else if i<8 then decide (i - 4<b) else decide (i - 8<c)
theorem Dn_t {a b c:Nat} (ha:a<4) (i:Nat):Dn (a+1) b c i=(Dn a b c i||decide (i=a)):=by
 unfold Dn
 rw [Ybi]
 split
 ·simp;omega
 ·split<;>simp<;>omega
theorem Dn_f {a b c:Nat} (hb:b<4) (i:Nat):Dn a (b+1) c i=(Dn a b c i||decide (i=4+b)):=by
 unfold Dn
 rw [Ybi]
 split
 ·simp;omega
 ·split<;>simp<;>omega
theorem Dn_l {a b c:Nat} (i:Nat):Dn a b (c+1) i=(Dn a b c i||decide (i=8+c)):=by
 unfold Dn
 rw [Ybi]
 split
 ·simp;omega
 ·split<;>simp<;>omega
theorem Zrw {M D D':Nat->Bool} {s p:Nat} (hp:p<64) (hs:s<2 ^ 64) (hb:∀i,s.testBit i=(M i&&D i)) (hD:∀i,D' i=(D i||decide (i=p))) :
  (if M p=true then s ||| Zig (p:Int) else s)<2 ^ 64/\∀i,(if M p=true then s ||| Zig (p:Int) else s).testBit i=(M i&&D' i):=by
 have e:Zig (p:Int)=2 ^ p:=by unfold Zig;rw [if_pos ⟨by omega,by omega⟩,Yj]
 have hlt:=Zpo (p:Int)
 rw [e] at hlt ⊢
 refine ⟨?_,fun i=>?_⟩
 ·split
  ·exact Zxy hs hlt
  ·exact hs
 ·rw [hD]
  split
  ·rename_i hm
   rw [Nat.testBit_or,hb,Ybq]
   by_cases h:p=i
   ·subst h;simp [hm]
   ·rw [decide_eq_false h,decide_eq_false (fun q=>h q.symm)];simp
  ·rename_i hm
   rw [hb]
   by_cases h:p=i
   ·subst h;simp [hm]
   ·rw [decide_eq_false (fun q=>h q.symm)];simp
section
variable {E:Env}
theorem Znw (hE:q172_In E) {h:Za} {k:Nat} {x:Cell} {pc:List Cell} {V:MV} (hb:blk? h k=some ⟨true,0,vmC pc V x⟩) (f:V.Fit) (p:ProgAt h pc V.P) :
  R E 172 [.c (.ptr k 329 0)] h=some ([.c (.int .u64 (V.word:Int))],h):=by
 refine Zd hE.fn ?_
 have hpc:=p.len
 have hl:=Zbt (x:=x) f hpc
 have rd:∀{α:Type} {F:List Cell->Option α},Zn h k 329 F=F (vmC pc V x):=fun {α F}=>Zq hb hl
 have inner:∀(t:Nat) (s:Nat),t<4->s<2 ^ 64->(∀i,s.testBit i=(V.may i&&Dn (t+1) (t+1) (4*t) i)) ->
   ∃s':Nat,Zx (q172_F1 (R E) Zx E.glob) (q172_s1 k 329 0 (s:Int) (t:Int) (t:Int) 0 h)=some (.exit 2,q172_x1_3 k 329 0 (s':Int) (t:Int) h)/\s'<2 ^ 64/\∀i,s'.testBit i=(V.may i&&Dn (t+1) (t+1) (4*(t+1)) i):=by
  intro t s ht hs hbit
  obtain ⟨st,⟨s',rfl,hs',hbit'⟩,hL⟩:=Zhp (F:=q172_F1 (R E) Zx E.glob) (fun j st=>∃s':Nat,st=q172_s1 k 329 0 (s':Int) (t:Int) (t:Int) (j:Int) h/\s'<2 ^ 64/\∀i,s'.testBit i=(V.may i&&Dn (t+1) (t+1) (4*t+j) i)) 0 4 (by omega)
   (fun j st _ hj=>by
    rintro ⟨s',rfl,hs',hbit'⟩
    obtain ⟨n1,n2⟩:=Zrw (p:=8+(4*t+j)) (by omega) hs' hbit' (fun i=>Dn_l i)
    have hm:V.may (8+(4*t+j))=V.mayL t j:=by
     unfold MV.may
     rw [if_neg (by omega),if_neg (by omega),if_pos (by omega),show (8+(4*t+j) - 8) / 4=t by omega,show (8+(4*t+j) - 8) % 4=j by omega]
    rw [hm] at n1 n2
    refine ⟨q172_s1 k 329 0 ((if V.mayL t j=true then s' ||| Zig ((8+(4*t+j):Nat):Int) else s':Nat):Int) (t:Int) (t:Int) ((j+1:Nat):Int) h,?_,_,rfl,n1,n2⟩
    have hq:=MV.b_at (V:=V) (t:=t) (by rw [f.bf];exact ht)
    have hbl:=f.b _ (Yf hq)
    rw [q172_r1,if_pos (by simp;omega),if_pos ⟨by omega,by omega⟩,rd,Yj,if_pos (by rw [hl];omega),Zlp f hpc hq,Zou hE.c192 hbl]
    have key:∀(n1 n2 n3:Int) (b:Bool) (hb:V.m=3->b=((V.b t).find? (Zcy 3 (j:Int))).isSome),
      (c4 (some ([AV.c (.int .i64 n1),.c (.int .i64 n2),.c (.int .i64 n3),.c (.bool b)],h)) fun y_39 y_40 y_41 y_42 h_38=>Zi .i64 y_39 fun n_43=>Zi .i64 y_40 fun n_44=>Zi .i64 y_41 fun n_45=>asB y_42 fun b_46=>Zn h_38 k 329 fun l_47=>Zf l_47 (0+3) fun q_48=>Zi .i64 (.c q_48) fun n_49=>scK (n_49==3) true (some (b_46,h_38)) false h_38 fun b_50 h_51=>if b_50=true then let v_52:Int:=(E.glob.wrap .i64 (8+(E.glob.wrap .i64 (4*(t:Int)))));c1 (R E 18 [(.c (.int .u64 (s':Int))),(.c (.int .i64 (E.glob.wrap .i64 (v_52+(j:Int)))))] h_51) fun y_54 h_53=>Zi .u64 y_54 fun n_55=>some (Ex.normal,(q172_s1 k 329 0 n_55 t t (E.glob.wrap .i64 ((j:Int)+1)) h_53)) else some (.normal,(q172_s1 k 329 0 (s':Int) t t (E.glob.wrap .i64 ((j:Int)+1)) h_51))) =
      some (.normal,q172_s1 k 329 0 ((if V.mayL t j=true then s' ||| Zig ((8+(4*t+j):Nat):Int) else s':Nat):Int) (t:Int) (t:Int) ((j+1:Nat):Int) h):=by
     intro n1 n2 n3 b hbb
     rw [c4_ok,asI_ok,asI_ok,asI_ok,asB_ok,rd,vm_m f hpc,asI_ok,scK_and,Zr (by omega)]
     have e:V.mayL t j=((V.m==3)&&b):=by
      unfold MV.mayL
      by_cases h3:V.m=3
      ·rw [hbb h3]
      ·rw [beq_false_of_ne h3];rfl
     rw [e]
     cases hv:((V.m==3)&&b) with
     | false=>rfl
     | true =>
      simp only [if_true]
      rw [Zg (x:=4*(t:Int)) (by omega) (by omega),Zg (x:=8+4*(t:Int)) (by omega) (by omega),Zg (by omega) (by omega),show (8+4*(t:Int)+(j:Int))=((8+(4*t+j):Nat):Int) by omega,Zva hE.c18 hs',c1_ok,asI_ok]
    have e3:V.m=3->Zbd V.m=3:=fun h=>by unfold Zbd;rw [h];rfl
    cases hf:(V.b t).find? (Zcy (Zbd V.m) (j:Int)) with
    | none=>exact key _ _ _ _ fun h3=>by rw [e3 h3] at hf;rw [hf];rfl
    | some e=>exact key _ _ _ _ fun h3=>by rw [e3 h3] at hf;rw [hf];rfl) (st:=q172_s1 k 329 0 (s:Int) (t:Int) (t:Int) ((0:Nat):Int) h) ⟨s,rfl,hs,hbit⟩
  refine ⟨s',hL _ (Zl ?_),hs',fun i=>by rw [hbit',Nat.mul_succ]⟩
  rw [q172_r1,if_neg (by simp)]
 obtain ⟨st,⟨s,rfl,hs,hbit⟩,hL⟩:=Zhp (F:=q172_F2 (R E) Zx E.glob) (fun t st=>∃s:Nat,st=q172_s2 k 329 0 (s:Int) (t:Int) h/\s<2 ^ 64/\∀i,s.testBit i=(V.may i&&Dn t t (4*t) i)) 0 4 (by omega)
  (fun t st _ ht=>by
   rintro ⟨s,rfl,hs,hbit⟩
   have hq:=MV.b_at (V:=V) (t:=t) (by rw [f.bf];exact ht)
   have hbl:=f.b _ (Yf hq)
   have hql:=MV.l_at (V:=V) (t:=t) (by rw [f.lc];exact ht)
   obtain ⟨a1,a2⟩:=Zrw (p:=t) (by omega) hs hbit (fun i=>Dn_t ht i)
   have hm1:V.may t=V.mayT t:=by unfold MV.may;rw [if_pos ht]
   rw [hm1] at a1 a2
   obtain ⟨b1,b2⟩:=Zrw (p:=4+t) (by omega) a1 a2 (fun i=>Dn_f ht i)
   have hm2:V.may (4+t)=V.mayF t:=by unfold MV.may;rw [if_neg (by omega),if_pos (by omega),show 4+t - 4=t by omega]
   rw [hm2] at b1 b2
   generalize hs1:(if V.mayT t=true then s ||| Zig (t:Int) else s)=s1 at *
   generalize hs2:(if V.mayF t=true then s1 ||| Zig ((4+t:Nat):Int) else s1)=s2 at *
   obtain ⟨s3,l1,l2,l3⟩:=inner t s2 ht b1 b2
   refine ⟨q172_s2 k 329 0 (s3:Int) ((t+1:Nat):Int) h,?_,s3,rfl,l2,l3⟩
   have hr:0<=(t:Int)/\(t:Int)<((4:Nat):Int):=⟨by omega,by omega⟩
   have h74:(0+32)+t*74+74<=(vmC pc V x).length:=by rw [hl];omega
   have hemp:∀{β:Type} (g:Bool->Za->Option β),(c1 (R E 191 [(.agg (Zal (Zbd V.m) (V.b t)))] h) fun y h'=>asB y fun b=>g b h')=g ((V.b t).length==0) h:=fun g=>by
    rw [Zly hE.c191,c1_ok,asB_ok]
   have hk:(q172_k6 (R E) Zx E.glob) .normal (q172_c1 k 329 0 (s1:Int) (t:Int) (t:Int) h)=some (.normal,q172_s2 k 329 0 (s3:Int) ((t+1:Nat):Int) h):=by
    have fin:∀w:Nat,w=s2->(Zx (q172_F1 (R E) Zx E.glob) (q172_s1 k 329 0 (w:Int) (t:Int) (t:Int) 0 h)).bind (fun p_56=>(q172_k7 (R E) Zx E.glob) p_56.1 p_56.2)=some (.normal,q172_s2 k 329 0 (s3:Int) ((t+1:Nat):Int) h):=by
     rintro w rfl
     rw [l1,bind_ok]
     dsimp only
     rw [q172_e1_3,Zr (by omega)]
    rw [q172_ec1_n,rd,vm_m f hpc,asI_ok]
    simp only [rd,Yj,if_pos hr,if_pos h74,Zlp f hpc hq,Zly hE.c191,c1_ok,asB_ok,scK_and]
    rw [show (V.m==2&&!((V.b t).length==0))=V.mayF t from rfl]
    cases hv:V.mayF t with
    | false =>
     rw [hv] at hs2
     exact fin s1 hs2
    | true =>
     rw [hv,if_pos rfl] at hs2
     rw [if_pos rfl,Zg (by omega) (by omega),show (4+(t:Int))=((4+t:Nat):Int) by omega,Zva hE.c18 a1,c1_ok,asI_ok]
     exact fin _ hs2
   rw [q172_r2,if_pos (by simp;omega),rd,if_pos (by rw [hl];omega),if_pos hr,rd,Yj,if_pos (by rw [hl];omega),Zmb f hpc,vm_lcl f hpc hql,Zwi hE.c105 p,qh_ok,c2_ok,asA_ok,asB_ok,if_pos (by exact ⟨rfl,rfl,rfl⟩)]
   simp only [ins_kind,asI_ok,scK_or,rd,if_pos hr,if_pos h74,Zlp f hpc hq,Zly hE.c191,c1_ok,asB_ok]
   have step:∀b:Bool,b=V.mayT t->((if b=true then c1 (R E 18 [(.c (.int .u64 (s:Int))),(.c (.int .i64 (t:Int)))] h) fun y_23 h_22=>Zi .u64 y_23 fun n_24=>some (Ex.normal,(q172_c1 k 329 0 n_24 t t h_22)) else some (.normal,(q172_c1 k 329 0 (s:Int) t t h)):Option (Ex × St)).bind fun p_58=>(q172_k6 (R E) Zx E.glob) p_58.1 p_58.2)=some (.normal,q172_s2 k 329 0 (s3:Int) ((t+1:Nat):Int) h):=by
    rintro b rfl
    cases hv:V.mayT t with
    | false =>
     rw [hv] at hs1
     rw [if_neg (by simp),bind_ok]
     rw [if_neg (by simp)] at hs1
     rw [hs1];exact hk
    | true =>
     rw [hv,if_pos rfl] at hs1
     rw [if_pos rfl,Zva hE.c18 hs,c1_ok,asI_ok,bind_ok,hs1]
     exact hk
   have hT:V.mayT t=match Zbx (V.P.code t) (V.l t) with | none=>false | some i=>!(i.kind==3||i.kind==4)||(V.b t).length==0:=rfl
   cases hn:Zbx (V.P.code t) (V.l t) with
   | none =>
    rw [hn] at hT
    exact step false hT.symm
   | some i =>
    rw [hn] at hT
    dsimp only at hT
    simp only [Ybx,Option.isSome_some]
    cases hkk:(i.kind==3||i.kind==4) with
    | false=>exact step true (by rw [hT,hkk];rfl)
    | true=>exact step _ (by rw [hT,hkk])) (st:=q172_s2 k 329 0 ((0:Nat):Int) ((0:Nat):Int) h) ⟨0,rfl,by decide,fun i=>by
    rw [show Dn 0 0 (4*0) i=false by unfold Dn;split<;>(try split)<;>simp,Yce];simp⟩
 have hw:s=V.word:=by
  refine Nat.eq_of_testBit_eq fun i=>?_
  rw [hbit,MV.word_bit]
  by_cases hi:i<24
  ·rw [show Dn 4 4 (4*4) i=true by unfold Dn;split;(· exact decide_eq_true (by omega));split<;>exact decide_eq_true (by omega),Bool.and_true]
  ·rw [MV.may_out (by omega)];rfl
 subst hw
 have e1:q172_F2 (R E) Zx E.glob (q172_s2 k 329 0 (V.word:Int) ((4:Nat):Int) h)=some (.exit 0,q172_x2_1 (V.word:Int) h):=by
  rw [q172_r2,if_neg (by simp)]
 have hr:=hL _ (Zl e1)
 rw [show (((0:Nat):Int))=0 from rfl] at hr
 rw [q172_eq,hr,bind_ok]
 dsimp only
 rw [q172_e2_1]
end
theorem Zfo {n:Nat} {h h':Za} {pc:List Cell} {P:PProg} (p:ProgAt (h.take n) pc P) (hn:n<=h.length) (hk:Kp n h h'):ProgAt h' pc P:=by
 have hl:(h.take n).length=n:=by rw [Yp];omega
 refine p.keep ⟨by rw [hl];exact Yo hn hk.1,fun k hk2=>?_⟩
 rw [hl] at hk2
 rw [hk.2 k hk2,Ys,if_pos hk2]
theorem Zhl {α:Type} {h:Za} {k:Nat} {l:List Cell} (hb:blk? h k=some ⟨true,0,l⟩) {cs:List Cell} {F:Za->Option α}:Zbh h k cs F=F (setBlk h k (some ⟨true,0,cs⟩)):=Zct hb rfl
def MV.val (V:MV) (t:Nat) (i:Ins):Int × Int:=match Zhk i.loc (V.b t) with
 | some e=>(e.val,e.id)
 | none=>(V.mem.getD i.loc.toNat 0,V.frm.getD i.loc.toNat 0)
def MV.wr (V:MV) (t:Nat) (e:Evt):MV :=
 if e.kind=2/\V.m≠1 then { V with bf:=V.bf.set t (V.b t++[⟨e.loc,e.w,V.st.length⟩]) }
 else if Zqh e=true then { V with mem:=V.mem.set e.loc.toNat e.w,frm:=V.frm.set e.loc.toNat V.st.length }
 else V
def MV.thrM (V:MV) (t:Nat) (i:Ins):MV :=
 { V.wr t (evOf i (V.l t) (V.val t i).1) with lc:=V.lc.set t (Zcd (V.P.code t) (V.l t) (V.val t i).1) }
def MV.thrS (V:MV) (t:Nat) (i:Ins):Stp :=
 ⟨0,t,(evOf i (V.l t) (V.val t i).1).kind,(evOf i (V.l t) (V.val t i).1).loc,(evOf i (V.l t) (V.val t i).1).r,(evOf i (V.l t) (V.val t i).1).w,if rdI i=true then (V.val t i).2 else -1⟩
theorem evt_kind {α:Type} {e:Evt} {f:Cell->Option α}:Zf e.cs 2 f=f (.int .i64 e.kind):=rfl
theorem evt_loc {α:Type} {e:Evt} {f:Cell->Option α}:Zf e.cs 3 f=f (.int .i64 e.loc):=rfl
theorem evt_r {α:Type} {e:Evt} {f:Cell->Option α}:Zf e.cs 4 f=f (.int .i64 e.r):=rfl
theorem evt_w {α:Type} {e:Evt} {f:Cell->Option α}:Zf e.cs 5 f=f (.int .i64 e.w):=rfl
theorem Znl {i:Ins} {l:Lcl} {v:Int} (h:0<=i.loc/\i.loc<4):0<=(evOf i l v).loc/\(evOf i l v).loc<4:=by
 unfold evOf
 split
 ·exact h
 ·split
  ·exact h
  ·split
   ·split<;>exact h
   ·exact ⟨by decide,by decide⟩
section
variable {E:Env}
set_option maxHeartbeats 1000000 in
theorem Zq786 (hE:q193_In E) {n k:Nat} {h:Za} {x:Cell} {pc:List Cell} {V:MV} (hb:blk? h k=some ⟨true,0,vmC pc V x⟩) (f:V.Fit) (hp:ProgAt (h.take n) pc V.P) (hn:n<=h.length) (hnk:n<=k)
  (hP:V.P.fits) (hx:Own n h x 7 (Zba V.st) V.st.length) {t:Nat} (ht:t<4) {i:Ins} (hi:V.nxt t=some i) (hloc:0<=i.loc/\i.loc<4) (hbl:(V.b t).length<24) :
  R E 193 [.c (.ptr k 329 0),.c (.int .i64 (t:Int))] h=some ([.agg (V.thrS t i).cs],setBlk h k (some ⟨true,0,vmC pc (V.thrM t i) x⟩)):=by
 refine Zd hE.fn ?_
 have hpc:=hp.len
 have hl:=Zbt (x:=x) f hpc
 have rd:∀{α:Type} {F:List Cell->Option α},Zn h k 329 F=F (vmC pc V x):=fun {α F}=>Zq hb hl
 have p:=Zfo hp hn (Kp.refl n h)
 have hr:0<=(t:Int)/\(t:Int)<((4:Nat):Int):=⟨by omega,by omega⟩
 have h74:(0+32)+t*74+74<=(vmC pc V x).length:=by rw [hl];omega
 have hq:=MV.b_at (V:=V) (t:=t) (by rw [f.bf];exact ht)
 have hql:=MV.l_at (V:=V) (t:=t) (by rw [f.lc];exact ht)
 have hil:0<=i.loc/\i.loc<((4:Nat):Int):=⟨hloc.1,by omega⟩
 have hi4:i.loc.toNat<4:=by omega
 have hmem:V.mem[i.loc.toNat]? = some (V.mem.getD i.loc.toNat 0):=by
  rw [Yq,Yc (by rw [f.mem];exact hi4)];rfl
 have hfrm:V.frm[i.loc.toNat]? = some (V.frm.getD i.loc.toNat 0):=by
  rw [Yq,Yc (by rw [f.frm];exact hi4)];rfl
 have hk:k<h.length:=Zar hb
 have hlcs:(Lcl.cs (V.l t)).length=5:=rfl
 have two:∀(v fr:Int),v=(V.val t i).1->fr=(V.val t i).2 ->
   (q193_k2 (R E) Zx E.glob h) .normal (q193_c1 k 329 0 (t:Int) v fr (Ya 7 ci0) (V.l t).cs i.cs h)=some ([.agg (V.thrS t i).cs],setBlk h k (some ⟨true,0,vmC pc (V.thrM t i) x⟩)):=by
  rintro v fr hv hfr
  have three:∀a9:Int,a9=(if rdI i=true then fr else -1) ->
    (q193_k3 (R E) Zx E.glob h) .normal (q193_c2 k 329 0 (t:Int) v a9 (Ya 7 ci0) (V.l t).cs (evOf i (V.l t) v).cs h)=some ([.agg (V.thrS t i).cs],setBlk h k (some ⟨true,0,vmC pc (V.thrM t i) x⟩)):=by
   intro a9 h9
   have hev:=Znl (l:=V.l t) (v:=v) hloc
   have hS:V.thrS t i=⟨0,t,(evOf i (V.l t) v).kind,(evOf i (V.l t) v).loc,(evOf i (V.l t) v).r,(evOf i (V.l t) v).w,a9⟩:=by unfold MV.thrS;rw [←hv,←hfr,h9]
   have hM:V.thrM t i={ V.wr t (evOf i (V.l t) v) with lc:=V.lc.set t (Zcd (V.P.code t) (V.l t) v) }:=by unfold MV.thrM;rw [←hv]
   rw [hS,hM]
   generalize evOf i (V.l t) v=e at hev
   have he:0<=e.loc/\e.loc<((4:Nat):Int):=⟨hev.1,by omega⟩
   have he4:e.loc.toNat<4:=by omega
   rw [q193_ec2_n,rd,Zjt f hpc,hx.at.len,evt_kind,asI_ok]
   simp only [rd,vm_m f hpc,asI_ok,scK_and]
   unfold MV.wr
   by_cases h2:e.kind=2/\V.m≠1
   ·have hm0:Zbd V.m≠0:=by have:=f.m;unfold Zbd;rw [if_pos (by omega)];omega
    rw [if_pos (by rw [Yao];exact ⟨beq_iff_eq.2 h2.1,bne_iff_ne.2 h2.2⟩),if_pos h2]
    have hbl2:(V.b t++[(⟨e.loc,e.w,V.st.length⟩:Ent)]).length<=24:=by rw [Yb,Yl];omega
    rw [if_pos hr,Yj,if_pos h74,evt_loc,asI_ok,evt_w,asI_ok,Zlp f hpc hq,bufPut_R hE.c206 hbl hm0 hev,qh_ok,c1_ok,asA_ok,if_pos hr,if_pos (by exact ⟨h74,Zcv _ hbl2⟩),vm_setB f hpc ht hbl2,Zhl hb]
    have fW:MV.Fit { V with bf:=V.bf.set t (V.b t++[⟨e.loc,e.w,V.st.length⟩]) }:=⟨f.m,f.lc,f.mem,f.frm,by rw [Yn];exact f.bf,fun l hl=>by
     rcases Yad hl with hl | rfl
     ·exact f.b l hl
     ·exact hbl2⟩
    have hb2:blk? (setBlk h k (some ⟨true,0,vmC pc { V with bf:=V.bf.set t (V.b t++[⟨e.loc,e.w,V.st.length⟩]) } x⟩)) k=some ⟨true,0,vmC pc { V with bf:=V.bf.set t (V.b t++[⟨e.loc,e.w,V.st.length⟩]) } x⟩:=Zac hk _
    rw [Zq hb2 (Zbt fW hpc),if_pos (by rw [Zbt fW hpc];omega),if_pos (by exact ⟨by trivial,rfl⟩),Zmb fW hpc,Zri hE.c106 hP (Zfo hp hn (Kp.set hnk _)),qh_ok,c1_ok,asA_ok,if_pos hr,Zq hb2 (Zbt fW hpc),if_pos (by exact ⟨by rw [Zbt fW hpc];omega,rfl⟩)]
    try rw [Yj]
    rw [Zvn fW hpc ht,Zhl hb2]
    simp only [evt_kind,evt_loc,evt_r,evt_w,asI_ok]
    rw [if_pos (by exact ⟨by trivial,rfl,rfl⟩),if_pos (by exact ⟨by trivial,rfl⟩)]
    rw [setBlk_set]
    rfl
   ·rw [if_neg (by rw [Yao];intro q;exact h2 ⟨beq_iff_eq.1 q.1,bne_iff_ne.1 q.2⟩),if_neg h2,if_pos (by exact ⟨by trivial,rfl⟩),Zq734 hE.c80,c1_ok,asB_ok]
    cases hw:Zqh e with
    | true =>
     rw [if_pos rfl,if_pos rfl]
     simp only [evt_loc,evt_w,asI_ok]
     have fW1:MV.Fit { V with mem:=V.mem.set e.loc.toNat e.w }:=⟨f.m,f.lc,by rw [Yn];exact f.mem,f.frm,f.bf,f.b⟩
     have hb1:blk? (setBlk h k (some ⟨true,0,vmC pc { V with mem:=V.mem.set e.loc.toNat e.w } x⟩)) k=some ⟨true,0,vmC pc { V with mem:=V.mem.set e.loc.toNat e.w } x⟩:=Zac hk _
     have fW:MV.Fit { V with mem:=V.mem.set e.loc.toNat e.w,frm:=V.frm.set e.loc.toNat V.st.length }:=⟨f.m,f.lc,by rw [Yn];exact f.mem,by rw [Yn];exact f.frm,f.bf,f.b⟩
     have hb2:blk? (setBlk h k (some ⟨true,0,vmC pc { V with mem:=V.mem.set e.loc.toNat e.w,frm:=V.frm.set e.loc.toNat V.st.length } x⟩)) k=some ⟨true,0,vmC pc { V with mem:=V.mem.set e.loc.toNat e.w,frm:=V.frm.set e.loc.toNat V.st.length } x⟩:=Zac hk _
     rw [if_pos he,rd,if_pos (by rw [hl];omega),vm_setM f hpc he4,Zhl hb,if_pos he,Zq hb1 (Zbt fW1 hpc),if_pos (by rw [Zbt fW1 hpc];omega),vm_setF fW1 hpc he4,Zhl hb1,setBlk_set]
     rw [Zq hb2 (Zbt fW hpc),if_pos (by rw [Zbt fW hpc];omega),if_pos (by exact ⟨by trivial,rfl⟩),Zmb fW hpc,Zri hE.c106 hP (Zfo hp hn (Kp.set hnk _)),qh_ok,c1_ok,asA_ok,if_pos hr,Zq hb2 (Zbt fW hpc),if_pos (by exact ⟨by rw [Zbt fW hpc];omega,rfl⟩)]
     try rw [Yj]
     rw [Zvn fW hpc ht,Zhl hb2]
     simp only [evt_kind,evt_r,asI_ok]
     rw [if_pos (by exact ⟨by trivial,rfl,rfl⟩),if_pos (by exact ⟨by trivial,rfl⟩)]
     rw [setBlk_set]
     rfl
    | false =>
     rw [if_neg (by simp),if_neg (by simp)]
     rw [Zq hb (Zbt f hpc),if_pos (by rw [Zbt f hpc];omega),if_pos (by exact ⟨by trivial,rfl⟩),Zmb f hpc,Zri hE.c106 hP (Zfo hp hn (Kp.refl n h)),qh_ok,c1_ok,asA_ok,if_pos hr,Zq hb (Zbt f hpc),if_pos (by exact ⟨by rw [Zbt f hpc];omega,rfl⟩)]
     try rw [Yj]
     rw [Zvn f hpc ht,Zhl hb]
     simp only [evt_kind,evt_loc,evt_r,evt_w,asI_ok]
     rw [if_pos (by exact ⟨by trivial,rfl,rfl⟩),if_pos (by exact ⟨by trivial,rfl⟩)]
     rfl
  rw [q193_ec1_n,if_pos (by exact ⟨by trivial,rfl⟩),if_pos (by exact ⟨by trivial,rfl⟩),Zq802 hE.c109,c2_ok,asA_ok,asB_ok,if_pos (by exact ⟨by trivial,rfl,rfl⟩)]
  cases hrd:rdI i with
  | false=>exact three (-1) (by rw [hrd];rfl)
  | true=>exact three fr (by rw [hrd];rfl)
 rw [q193_eq,if_pos hr,rd,Yj,if_pos (by rw [hl];omega),vm_lcl f hpc hql,if_pos (by exact ⟨by trivial,rfl,rfl⟩),rd,if_pos (by rw [hl];omega),if_pos (by exact ⟨by trivial,rfl⟩),Zmb f hpc,Zwi hE.c105 p,qh_ok,c2_ok,asA_ok,asB_ok,if_pos (by exact ⟨by trivial,rfl,rfl⟩)]
 rw [show Zbx (V.P.code t) (V.l t)=some i from hi]
 simp only [Ybx,ins_loc,asI_ok]
 rw [if_pos hil,rd,vm_mem f hpc hmem,asI_ok,if_pos hil,rd,vm_frm f hpc hfrm,asI_ok,if_pos hr,rd,if_pos h74,Zlp f hpc hq,Zyp hE.c205 (Ybg hbl)]
 have hv:V.val t i=match Zhk i.loc (V.b t) with | some e=>(e.val,e.id) | none=>(V.mem.getD i.loc.toNat 0,V.frm.getD i.loc.toNat 0):=rfl
 cases hnw:Zhk i.loc (V.b t) with
 | none =>
  rw [hnw] at hv
  dsimp only
  rw [qh_ok,c3_ok,asI_ok,asI_ok,asB_ok,if_neg (by simp),bind_ok]
  exact two _ _ (by rw [hv]) (by rw [hv])
 | some e =>
  rw [hnw] at hv
  dsimp only
  rw [qh_ok,c3_ok,asI_ok,asI_ok,asB_ok,if_pos rfl,bind_ok]
  exact two _ _ (by rw [hv]) (by rw [hv])
end
def MV.fluE (V:MV) (t:Nat) (loc:Int):Ent:=((V.b t).find? (Zcy (Zbd V.m) loc)).getD ⟨0,0,0⟩
def MV.fluM (V:MV) (t:Nat) (loc:Int):MV :=
 { V with bf:=V.bf.set t ((V.b t).eraseP (Zcy (Zbd V.m) loc)),mem:=V.mem.set (V.fluE t loc).loc.toNat (V.fluE t loc).val,frm:=V.frm.set (V.fluE t loc).loc.toNat (V.fluE t loc).id }
def MV.fluS (V:MV) (t:Nat) (loc:Int):Stp:=⟨0,t,6,(V.fluE t loc).loc,0,(V.fluE t loc).val,(V.fluE t loc).id⟩
def MV.thrI (V:MV) (t:Nat):Ins:=(V.nxt t).getD Ins.zero
def MV.stp (V:MV) (i:Nat):Stp :=
 { (if i<4 then V.thrS i (V.thrI i) else if i<8 then V.fluS (i - 4) 0 else V.fluS ((i - 8) / 4) (((i - 8) % 4:Nat):Int)) with pick:=i }
def MV.nx (V:MV) (i:Nat):MV :=
 { (if i<4 then V.thrM i (V.thrI i) else if i<8 then V.fluM (i - 4) 0 else V.fluM ((i - 8) / 4) (((i - 8) % 4:Nat):Int)) with st:=V.st++[V.stp i] }
structure MV.Inv (V:MV):Prop where
 fit:V.Fit
 small:V.P.small
 fld:∀c∈V.P.thr,∀i∈c,fldB (Zjg V.P) i=true
 locs:V.P.locs.length<=4
 c10:∀c∈V.P.thr,c.length<=10
 ents:∀b∈V.bf,∀e∈b,0<=e.loc/\e.loc<4
 pcs:∀t,t<4->((V.b t).length:Int)<=(V.l t).pc
theorem fldV_loc {P:PProg} (h4:P.locs.length<=4) {i:Ins} (h:fldB (Zjg P) i=true) (hk:1<=i.kind/\i.kind<=4):0<=i.loc/\i.loc<4:=by
 unfold fldB Zjg at h
 split at h
 ·simp at h;omega
 ·split at h
  ·simp at h;omega
  ·split at h
   ·have h:=of_decide_eq_true h
    unfold Ins.cs at h
    simp at h
    omega
   ·split at h
    ·simp at h;omega
    ·omega
theorem MV.Inv.code10 {V:MV} (v:V.Inv) (t:Int):(V.P.code t).length<=10:=by
 unfold PProg.code
 split
 ·rw [Yq]
  cases hq:V.P.thr[t.toNat]? with
  | none=>simp
  | some c=>exact v.c10 c (Yf hq)
 ·simp
theorem MV.Inv.nxt {V:MV} (v:V.Inv) {t:Nat} {i:Ins} (h:V.nxt t=some i):(0<=i.loc/\i.loc<4)/\(1<=i.kind/\i.kind<=4)/\0<=(V.l t).pc/\(V.l t).pc<10/\i∈V.P.code t:=by
 obtain ⟨h1,h2,h3,h4,h5⟩:=Zlj h
 have hm:i∈V.P.code t:=Yf h3
 have:=v.code10 t
 refine ⟨fldV_loc v.locs ?_ ⟨h4,h5⟩,⟨h4,h5⟩,h1,by omega,hm⟩
 unfold PProg.code at hm
 split at hm
 ·rw [Yq] at hm
  cases hq:V.P.thr[(t:Int).toNat]? with
  | none=>rw [hq] at hm;simp at hm
  | some c=>rw [hq] at hm;exact v.fld c (Yf hq) i hm
 ·simp at hm
theorem MV.Inv.blen {V:MV} (v:V.Inv) {t:Nat} (ht:t<4):(V.b t).length<=24:=v.fit.b _ (Yf (MV.b_at (by rw [v.fit.bf];exact ht)))
structure VmAt (n:Nat) (h:Za) (k:Nat) (x:Cell) (pc:List Cell) (V:MV):Prop where
 hn:n<=h.length
 nk:n<=k
 prog:ProgAt (h.take n) pc V.P
 blk:blk? h k=some ⟨true,0,vmC pc V x⟩
 st:Own n h x 7 (Zba V.st) V.st.length
 sep:¬Zad x k
structure KpV (n k:Nat) (x x':Cell) (h h':Za):Prop where
 kp:Kp n h h'
 old:∀j b,blk? h j=some b->j≠k->¬Zad x j->blk? h' j=some b/\¬Zad x' j
theorem Own.blkLt' {n:Nat} {h:Za} {x:Cell} {esz len:Nat} {cs:List Cell} (o:Own n h x esz cs len) {k:Nat} (hk:Zad x k):n<=k/\k<h.length:=by
 rcases o.2 with ⟨rfl,_⟩ | ⟨k',rfl,h1,h2⟩
 ·exact absurd hk (by simp [Zad])
 ·cases hk;exact ⟨h1,Zar h2⟩
theorem Own.setO {n:Nat} {h:Za} {x:Cell} {esz len:Nat} {cs:List Cell} (o:Own n h x esz cs len) {k:Nat} (hk:¬Zad x k) (b:Option Blk):Own n (setBlk h k b) x esz cs len:=by
 refine ⟨o.1,o.2.imp id ?_⟩
 rintro ⟨k',rfl,h1,h2⟩
 exact ⟨k',rfl,h1,by rw [Zbc (fun e=>hk e.symm)];exact h2⟩
theorem MV.word_lt (V:MV):V.word<2 ^ 64:=Zq752 _ (by omega)
section
variable {E:Env}
theorem flush_R' (hE:q194_In E) {k:Nat} {h:Za} {x:Cell} {pc:List Cell} {V:MV} (hb:blk? h k=some ⟨true,0,vmC pc V x⟩) (v:V.Inv) (hpc:pc.length=3)
  {t:Nat} (ht:t<4) {loc:Int} (hf:((V.b t).find? (Zcy (Zbd V.m) loc)).isSome=true) :
  R E 194 [.c (.ptr k 329 0),.c (.int .i64 (t:Int)),.c (.int .i64 loc)] h=some ([.agg (V.fluS t loc).cs],setBlk h k (some ⟨true,0,vmC pc (V.fluM t loc) x⟩)):=by
 refine Zd hE.fn ?_
 have f:=v.fit
 have hl:=Zbt (x:=x) f hpc
 have rd:∀{α:Type} {F:List Cell->Option α},Zn h k 329 F=F (vmC pc V x):=fun {α F}=>Zq hb hl
 have hr:0<=(t:Int)/\(t:Int)<((4:Nat):Int):=⟨by omega,by omega⟩
 have h74:(0+32)+t*74+74<=(vmC pc V x).length:=by rw [hl];omega
 have hq:=MV.b_at (V:=V) (t:=t) (by rw [f.bf];exact ht)
 have hbl:=v.blen ht
 have hk:k<h.length:=Zar hb
 cases he:(V.b t).find? (Zcy (Zbd V.m) loc) with
 | none=>rw [he] at hf;cases hf
 | some e =>
  have hee:V.fluE t loc=e:=by unfold MV.fluE;rw [he];rfl
  have hel:=v.ents _ (Yf hq) e (Ybd he)
  have hel':0<=e.loc/\e.loc<((4:Nat):Int):=⟨hel.1,by omega⟩
  have he4:e.loc.toNat<4:=by omega
  obtain ⟨j,hj⟩:∃j,(V.b t).findIdx? (Zcy (Zbd V.m) loc)=some j:=by
   cases hx:(V.b t).findIdx? (Zcy (Zbd V.m) loc) with
   | some j=>exact ⟨j,rfl⟩
   | none =>
    rw [Ybc] at hx
    have:=hx e (Ybd he)
    rw [List.find?_some he] at this;cases this
  have hep:(V.b t).eraseP (Zcy (Zbd V.m) loc)=(V.b t).eraseIdx j:=by rw [List.eraseP_eq_eraseIdx,hj]
  have hlen2:((V.b t).eraseIdx j).length<=24:=by rw [Ybn];split<;>omega
  unfold MV.fluM MV.fluS
  rw [hee,hep]
  have f1:MV.Fit { V with bf:=V.bf.set t ((V.b t).eraseIdx j) }:=⟨f.m,f.lc,f.mem,f.frm,by rw [Yn];exact f.bf,fun l hl=>by
   rcases Yad hl with hl | rfl
   ·exact f.b l hl
   ·exact hlen2⟩
  have f2:MV.Fit { V with bf:=V.bf.set t ((V.b t).eraseIdx j),mem:=V.mem.set e.loc.toNat e.val }:=⟨f1.m,f1.lc,by rw [Yn];exact f1.mem,f1.frm,f1.bf,f1.b⟩
  have b1:∀l,blk? (setBlk h k (some ⟨true,0,l⟩)) k=some ⟨true,0,l⟩:=fun l=>Zac hk _
  have rd1:∀(W:MV) (fW:W.Fit) {α:Type} {F:List Cell->Option α},Zn (setBlk h k (some ⟨true,0,vmC pc W x⟩)) k 329 F=F (vmC pc W x):=fun W fW {α F}=>Zq (b1 _) (Zbt fW hpc)
  rw [q194_eq,if_pos hr,rd,Yj,if_pos h74,Zlp f hpc hq,Zou hE.c192 hbl,he]
  dsimp only
  rw [c4_ok,asI_ok,asI_ok,asI_ok,asB_ok,if_pos hr,rd,if_pos h74,Zlp f hpc hq,Zq765 hE.c207 hbl hj,qh_ok,c1_ok,asA_ok,if_pos hr,rd,if_pos ⟨h74,Zcv _ hlen2⟩,vm_setB f hpc ht hlen2,Zhl hb,
   if_pos hel',rd1 _ f1,if_pos (by rw [Zbt f1 hpc];omega),vm_setM f1 hpc he4,Zhl (b1 _),setBlk_set,if_pos hel',rd1 _ f2,if_pos (by rw [Zbt f2 hpc];omega),vm_setF f2 hpc he4,Zhl (b1 _),setBlk_set,
   if_pos (by exact ⟨by trivial,rfl,rfl⟩),if_pos (by exact ⟨by trivial,rfl⟩)]
  rfl
theorem Pick_no (hE:q173_In E) {n k:Nat} {h:Za} {x:Cell} {pc:List Cell} {V:MV} (a:VmAt n h k x pc V) (v:V.Inv) {i:Int} (hi:Zra V.word i=false) :
  R E 173 [.c (.ptr k 329 0),.c (.int .i64 i)] h=some ([.agg (Stp.cs ⟨0,0,0,0,0,0,0⟩),.c (.bool false)],h):=by
 refine Zd hE.fn ?_
 rw [q173_eq,Znw hE.c172 a.blk v.fit (Zfo a.prog a.hn (Kp.refl n h)),c1_ok,asI_ok,Zyb hE.c17 V.word_lt,c1_ok,asB_ok,hi,if_pos (by simp),if_pos (by exact ⟨by trivial,rfl,rfl⟩),if_pos (by exact ⟨by trivial,rfl⟩)]
 rfl
theorem MV.may_lt {V:MV} {i:Nat} (h:V.may i=true):i<24:=by
 rcases Ybt i 24 with h1 | h1
 ·exact h1
 ·rw [MV.may_out h1] at h;cases h
set_option maxHeartbeats 1000000 in
theorem Pick_R (hE:q173_In E) {n k:Nat} {h:Za} {x:Cell} {pc:List Cell} {V:MV} (a:VmAt n h k x pc V) (v:V.Inv) (hst:V.st.length<100000) {i:Nat} (hi:V.may i=true) :
  ∃x' h',R E 173 [.c (.ptr k 329 0),.c (.int .i64 (i:Int))] h=some ([.agg (V.stp i).cs,.c (.bool true)],h')/\VmAt n h' k x' pc (V.nx i)/\KpV n k x x' h h':=by
 have hi24:=MV.may_lt hi
 have f:=v.fit
 have hpc:=a.prog.len
 have hk:k<h.length:=Zar a.blk
 have hb:maxBytes>=200000*56:=by unfold maxBytes;omega
 have hfits:=v.small.fits
 have push:∀(W:MV) (s:Stp),W.Fit->W.P=V.P->W.st=V.st->∃x' h',(∀{α:Type} (F:Cell->Za->Option α),Zaq 7 56 x s.cs (setBlk h k (some ⟨true,0,vmC pc W x⟩)) F=F x' h')/\blk? h' k=some ⟨true,0,vmC pc W x⟩ /\
   VmAt n (setBlk h' k (some ⟨true,0,vmC pc W x'⟩)) k x' pc { W with st:=V.st++[s] }/\KpV n k x x' h (setBlk h' k (some ⟨true,0,vmC pc W x'⟩)):=by
  intro W s fW hWP hWs
  have b1:blk? (setBlk h k (some ⟨true,0,vmC pc W x⟩)) k=some ⟨true,0,vmC pc W x⟩:=Zac hk _
  obtain ⟨x',h',e1,o1,k1,r1⟩:=(a.st.setO a.sep (some ⟨true,0,vmC pc W x⟩)).app (bytes:=56) (by rw [Zcs];exact a.hn) (Zhn s) (by omega) (by omega) (by omega)
  obtain ⟨c1,c2⟩:=r1 k _ b1 a.sep
  have kp1:Kp n h h':=(Kp.set a.nk _).trans k1
  have kp2:Kp n h (setBlk h' k (some ⟨true,0,vmC pc W x'⟩)):=kp1.trans (Kp.set a.nk _)
  refine ⟨x',h',e1,c1,⟨Yo a.hn kp2.1,a.nk,?_,Zac (Zar c1) _,?_,c2⟩,kp2,fun j b hj hne hnx=>?_⟩
  ·have:(setBlk h' k (some ⟨true,0,vmC pc W x'⟩)).take n=h.take n:=by
    refine Yak fun j=>?_
    rw [Ys,Ys]
    split
    ·exact kp2.2 j (by assumption)
    ·rfl
   rw [this]
   show ProgAt (h.take n) pc W.P
   rw [hWP];exact a.prog
  ·show Own n _ x' 7 (Zba (V.st++[s])) (V.st++[s]).length
   rw [Zoy,Yb,Yl]
   exact o1.setO c2 _
  ·obtain ⟨d1,d2⟩:=r1 j b (by rw [Zbc (fun e=>hne e.symm)];exact hj) hnx
   exact ⟨by rw [Zbc (fun e=>hne e.symm)];exact d1,d2⟩
 have hhas:Zra V.word (i:Int)=true:=by rw [Zrr (by omega),MV.word_bit,hi]
 have en:=Znw hE.c172 a.blk f (Zfo a.prog a.hn (Kp.refl n h))
 have s7:∀s:Stp,(s.cs.set 0 (.int .i64 (i:Int)))=({ s with pick:=i }:Stp).cs:=fun _=>rfl
 have s7':∀s:Stp,splice (Ya 7 ci0) 0 s.cs=s.cs:=fun _=>rfl
 have fluW:∀(t:Nat) (loc:Int),t<4->(V.fluM t loc).Fit:=fun t loc ht=>by
  have hbl:=v.blen ht
  refine ⟨f.m,f.lc,by show (V.mem.set _ _).length=4;rw [Yn];exact f.mem,by show (V.frm.set _ _).length=4;rw [Yn];exact f.frm,by show (V.bf.set _ _).length=4;rw [Yn];exact f.bf,fun l hl=>?_⟩
  rcases Yad hl with hl | rfl
  ·exact f.b l hl
  ·exact Yo List.length_eraseP_le hbl
 by_cases h4:i<4
 ·have hm:V.mayT i=true:=by unfold MV.may at hi;rw [if_pos h4] at hi;exact hi
  obtain ⟨q,hq⟩:∃q,V.nxt i=some q:=by
   unfold MV.mayT at hm
   cases hq:V.nxt i with
   | none=>rw [hq] at hm;cases hm
   | some q=>exact ⟨q,rfl⟩
  have hqI:V.thrI i=q:=by unfold MV.thrI;rw [hq];rfl
  obtain ⟨q1,q2,q3,q4,q5⟩:=v.nxt hq
  have hpb:=v.pcs i h4
  have th:=Zq786 hE.c193 a.blk f a.prog a.hn a.nk hfits a.st h4 hq q1 (by omega)
  have fW:(V.thrM i q).Fit:=by
   have hfw:(V.wr i (evOf q (V.l i) (V.val i q).1)).Fit:=by
    unfold MV.wr
    split
    ·refine ⟨f.m,f.lc,f.mem,f.frm,by rw [Yn];exact f.bf,fun l hl=>?_⟩
     rcases Yad hl with hl | rfl
     ·exact f.b l hl
     ·rw [Yb,Yl];omega
    ·split
     ·exact ⟨f.m,f.lc,by rw [Yn];exact f.mem,by rw [Yn];exact f.frm,f.bf,f.b⟩
     ·exact f
   exact ⟨hfw.m,by show (V.lc.set _ _).length=4;rw [Yn];exact f.lc,hfw.mem,hfw.frm,hfw.bf,hfw.b⟩
  have hPP:(V.thrM i q).P=V.P:=by unfold MV.thrM MV.wr;split<;>(try split)<;>rfl
  have hSS:(V.thrM i q).st=V.st:=by unfold MV.thrM MV.wr;split<;>(try split)<;>rfl
  obtain ⟨x',h',e1,c1,c2,c3⟩:=push (V.thrM i q) { V.thrS i q with pick:=i } fW hPP hSS
  have e2:V.stp i={ V.thrS i q with pick:=i }:=by unfold MV.stp;rw [if_pos h4,hqI]
  have e3:V.nx i={ V.thrM i q with st:=V.st++[{ V.thrS i q with pick:=i }] }:=by unfold MV.nx;rw [if_pos h4,hqI,e2]
  rw [e2,e3]
  have b1:blk? (setBlk h k (some ⟨true,0,vmC pc (V.thrM i q) x⟩)) k=some ⟨true,0,vmC pc (V.thrM i q) x⟩:=Zac hk _
  have l1:=Zbt (x:=x) fW hpc
  refine ⟨x',_,Zd hE.fn ?_,c2,c3⟩
  rw [q173_eq,en,c1_ok,asI_ok,Zyb hE.c17 V.word_lt,c1_ok,asB_ok,hhas,if_neg (by simp),if_pos (by simp;omega),th,c1_ok,asA_ok,if_pos (by exact ⟨by trivial,rfl,rfl⟩),if_pos (by rw [Zhn];omega),Zq b1 l1,Zjt fW hpc]
  simp only [s7,s7',e1]
  rw [if_pos (by exact ⟨by trivial,rfl⟩),if_pos (by exact ⟨rfl,by decide⟩),if_pos (by exact rfl),Zq c1 l1,if_pos (by rw [l1];omega),Zuj fW hpc,Zhl c1,if_pos (by exact ⟨by trivial,rfl⟩),if_pos (by exact ⟨by trivial,rfl,rfl⟩),if_pos (by exact ⟨by trivial,rfl⟩)]
 ·have flu:∀(t:Nat) (loc:Int),t<4->((V.b t).find? (Zcy (Zbd V.m) loc)).isSome=true->V.stp i={ V.fluS t loc with pick:=i }->V.nx i={ V.fluM t loc with st:=V.st++[V.stp i] } ->
    (((i:Int)<8/\R E 194 [(.c (.ptr k 329 0)),(.c (.int .i64 (E.glob.wrap .i64 ((i:Int) - 4)))),(.c (.int .i64 0))] h=R E 194 [.c (.ptr k 329 0),.c (.int .i64 (t:Int)),.c (.int .i64 loc)] h) ∨
     (¬(i:Int)<8/\R E 194 [(.c (.ptr k 329 0)),(.c (.int .i64 (E.glob.quo .i64 (E.glob.wrap .i64 ((i:Int) - 8)) 4))),(.c (.int .i64 (E.glob.rem .i64 (E.glob.wrap .i64 ((i:Int) - 8)) 4)))] h=R E 194 [.c (.ptr k 329 0),.c (.int .i64 (t:Int)),.c (.int .i64 loc)] h)) ->
    ∃x' h',R E 173 [.c (.ptr k 329 0),.c (.int .i64 (i:Int))] h=some ([.agg (V.stp i).cs,.c (.bool true)],h')/\VmAt n h' k x' pc (V.nx i)/\KpV n k x x' h h':=by
   intro t loc ht hf e2 e3 hF
   have fW:=fluW t loc ht
   have fl:=flush_R' hE.c194 a.blk v hpc ht hf
   obtain ⟨x',h',e1,c1,c2,c3⟩:=push (V.fluM t loc) { V.fluS t loc with pick:=i } fW rfl rfl
   rw [e3,e2]
   have b1:blk? (setBlk h k (some ⟨true,0,vmC pc (V.fluM t loc) x⟩)) k=some ⟨true,0,vmC pc (V.fluM t loc) x⟩:=Zac hk _
   have l1:=Zbt (x:=x) fW hpc
   refine ⟨x',_,Zd hE.fn ?_,c2,c3⟩
   rw [q173_eq,en,c1_ok,asI_ok,Zyb hE.c17 V.word_lt,c1_ok,asB_ok,hhas,if_neg (by simp),if_neg (by simp;omega)]
   rcases hF with ⟨h8,hF⟩ | ⟨h8,hF⟩
   ·rw [if_pos (decide_eq_true h8),hF]
    rw [fl,c1_ok,asA_ok,if_pos (by exact ⟨by trivial,rfl,rfl⟩),if_pos (by rw [Zhn];omega),Zq b1 l1,Zjt fW hpc]
    simp only [s7,s7',e1]
    rw [if_pos (by exact ⟨by trivial,rfl⟩),if_pos (by exact ⟨rfl,by decide⟩),if_pos (by exact rfl),Zq c1 l1,if_pos (by rw [l1];omega),Zuj fW hpc,Zhl c1,if_pos (by exact ⟨by trivial,rfl⟩),if_pos (by exact ⟨by trivial,rfl,rfl⟩),if_pos (by exact ⟨by trivial,rfl⟩)]
   ·rw [if_neg (by rw [decide_eq_false h8];simp),hF]
    rw [fl,c1_ok,asA_ok,if_pos (by exact ⟨by trivial,rfl,rfl⟩),if_pos (by rw [Zhn];omega),Zq b1 l1,Zjt fW hpc]
    simp only [s7,s7',e1]
    rw [if_pos (by exact ⟨by trivial,rfl⟩),if_pos (by exact ⟨rfl,by decide⟩),if_pos (by exact rfl),Zq c1 l1,if_pos (by rw [l1];omega),Zuj fW hpc,Zhl c1,if_pos (by exact ⟨by trivial,rfl⟩),if_pos (by exact ⟨by trivial,rfl,rfl⟩),if_pos (by exact ⟨by trivial,rfl⟩)]
  by_cases h8:i<8
  ·have hm:V.mayF (i - 4)=true:=by unfold MV.may at hi;rw [if_neg h4,if_pos h8] at hi;exact hi
   unfold MV.mayF at hm
   rw [Yao] at hm
   have hm2:V.m=2:=beq_iff_eq.1 hm.1
   have hne:(V.b (i - 4)).length≠0:=by simpa using hm.2
   refine flu (i - 4) 0 (by omega) ?_ (by unfold MV.stp;rw [if_neg h4,if_pos h8]) (by unfold MV.nx;rw [if_neg h4,if_pos h8]) (.inl ⟨by omega,?_⟩)
   ·rw [hm2]
    cases hbb:V.b (i - 4) with
    | nil=>rw [hbb] at hne;exact absurd rfl hne
    | cons e l=>rfl
   ·rw [Zg (by omega) (by omega),show ((i:Int) - 4)=((i - 4:Nat):Int) by omega]
  ·have hm:V.mayL ((i - 8) / 4) ((i - 8) % 4)=true:=by unfold MV.may at hi;rw [if_neg h4,if_neg h8,if_pos hi24] at hi;exact hi
   unfold MV.mayL at hm
   rw [Yao] at hm
   have hm3:V.m=3:=beq_iff_eq.1 hm.1
   refine flu ((i - 8) / 4) (((i - 8) % 4:Nat):Int) (by omega) ?_ (by unfold MV.stp;rw [if_neg h4,if_neg h8]) (by unfold MV.nx;rw [if_neg h4,if_neg h8]) (.inr ⟨by omega,?_⟩)
   ·rw [hm3];exact hm.2
   ·rw [Zg (by omega) (by omega),show ((i:Int) - 8)=((i - 8:Nat):Int) by omega,g_quo,g_rem,Int.tdiv_eq_ediv_of_nonneg (by omega),Yaz (by omega),
     show (((i - 8:Nat):Int) / 4)=(((i - 8) / 4:Nat):Int) by omega,show (((i - 8:Nat):Int) % 4)=(((i - 8) % 4:Nat):Int) by omega,Zey (by omega) (by omega)]
end
end Jq
