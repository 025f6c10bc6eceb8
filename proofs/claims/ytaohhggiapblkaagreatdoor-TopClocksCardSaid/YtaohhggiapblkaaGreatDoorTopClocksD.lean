/- YtaohhggiapblkaaGreatDoorTopClocksD: a part of the proof; no conditions of its own. -/
import Derived.KernelRfl
import Derived.Test.YtaohhggiapblkaaGreatDoorRows
import Derived.WalkKit
import Derived.ProofKit
import Derived.OpenShut
import Derived.ShutString
import Derived.ChangeOld
import Derived.Below
import Derived.Carry
import Derived.Test.YtaohhggiapblkaaGreatDoorCards
import Derived.Test.YtaohhggiapblkaaGreatDoorTie
import Derived.SevenTiedAt
import Derived.LaidMore
import Derived.Stop.Joined
import Derived.Lib.LaidTab
import Derived.MakeChecks
import Derived.LaidHandle
import Derived.Stop.LaidErr
import Derived.Test.YtaohhggiapblkaaGreatDoorTopClocksC
set_option linter.unusedVariables false
set_option linter.unusedSectionVars false
set_option linter.unusedSimpArgs false
set_option maxRecDepth 100000
open List renaming getElem?_eq_getElem→Ya,replicate→Yc,length_append→Ye,getElem?_eq_none→Yg,getD_eq_getElem?_getD→Yh,getElem?_append_left→Yi,length_singleton→Yj,getElem?_append_right→Yk,length_set→Yl,findIdx?_eq_some_iff_getElem→Yn,mem_of_find?_eq_some→Yo,length_cons→Yp,mem_of_getElem?→Yr,length_take→Yt,append_assoc→Yu,range→Yv,mem_singleton→Yw,length_eq_zero_iff→Yx,length_nil→Yaa,take_append_of_le_length→Yab,take_of_length_le→Yac,set_append_right→Yad,mem_iff_getElem→Yae,mem_append→Yaf,length_drop→Yai,ext_getElem?→Yal,findIdx?_eq_none_iff→Yam,getElem?_take→Yao,take_length→Yaq,pairwise_iff_getElem→Yas,range_succ→Yat,filter_append→Yau,any_eq_false→Yaw,drop_of_length_le→Yax,any_eq_true→Yay,take_append_drop→Yba,singleton_append→Ybb,eraseIdx_eq_take_drop_succ→Ybc,set_append_left→Ybd,find?_some→Ybe,find?_eq_some_iff_getElem→Ybf,mem_append_left→Ybg,pairwise_append→Ybh,drop_append_of_le_length→Ybi,mem_range→Ybj,getElem?_drop→Ybk,getElem?_set→Ybm,mem_or_eq_of_mem_set→Ybo,mem_map→Ybq,eraseP_eq_eraseIdx→Ybs,nil_append→Ybu,append_nil→Ybv,mem_of_mem_eraseP→Ybw,reverse_singleton→Ybx,length_replicate→Yby,take_zero→Ybz,length_eraseP_le→Yca,length_filter_le→Ycb,mem_append_right→Ycc,mem_cons_of_mem→Ycd,reverse_append→Ycg,mem_cons_self→Ycj,getElem_take→Yck,getElem_drop→Ycl,getElem_mem→Ycn,all_eq_true→Yco,filter_cons→Ycp,cons_append→Ycq,find?_cons→Ycs,drop_zero→Yct
open Int renaming toNat_natCast→Yb,eq_ofNat_of_zero_le→Yq,toNat→Yz
open Bool renaming and_eq_true→Yd,or_eq_true→Ym,eq_iff_iff→Ys,true_and→Yah,and_false→Yap,false_and→Yav,and_true→Ybl,not_eq_true'→Ybn,or_false→Yce,not_eq_true→Ycr,and_assoc→Ycu
open Nat renaming le_refl→Yf,le_trans→Yy,lt_or_ge→Yag,zero_add→Yaj,min_eq_left→Yak,le_of_lt→Yan,exists_eq_add_of_le→Ybt,lt_irrefl→Ycf,add_zero→Ych,mul_div_cancel→Yci,lt_trichotomy→Ycm
open Option renaming some→Yar,getD_some→Yaz,bind_some→Ybp,isSome_iff_exists→Ybr
namespace Jq
open Go
def nwC (a b c:Cell) (m bm:Int) (l:Nat->Lcl) (t:Nat):List Cell :=
 [a,b,c,.int .i64 m]++(((if 0<t then (l 0).cs else Lcl.zero.cs)++((if 1<t then (l 1).cs else Lcl.zero.cs)++((if 2<t then (l 2).cs else Lcl.zero.cs)++(if 3<t then (l 3).cs else Lcl.zero.cs)))) ++
  (Yc 4 (.int .i64 0)++(([if 0<t then .int .i64 (-1) else .int .i64 0,if 1<t then .int .i64 (-1) else .int .i64 0,if 2<t then .int .i64 (-1) else .int .i64 0,if 3<t then .int .i64 (-1) else .int .i64 0]:List Cell) ++
   (((if 0<t then Zal bm [] else Zal 0 [])++((if 1<t then Zal bm [] else Zal 0 [])++((if 2<t then Zal bm [] else Zal 0 [])++(if 3<t then Zal bm [] else Zal 0 []))))++[.nils]))))
theorem nw_0 (a b c:Cell) (m bm:Int) (l:Nat->Lcl):splice (splice ([Cell.nils,Cell.nils,Cell.nils]++Yc 325 ci0++[Cell.nils]) 0 [a,b,c]) 3 [(.int .i64 m)]=nwC a b c m bm l 0:=by kernel_rfl
theorem nw_next (a b c:Cell) (m bm:Int) (l:Nat->Lcl):∀t,t<4->(splice (splice (nwC a b c m bm l t) ((0+4)+t*5) (l t).cs) ((0+32)+t*74) (Zal bm [])).set ((0+28)+t*1) (.int .i64 (-1))=nwC a b c m bm l (t+1)
 | 0,_=>by kernel_rfl
 | 1,_=>by kernel_rfl
 | 2,_=>by kernel_rfl
 | 3,_=>by kernel_rfl
 | t+4,h=>by omega
theorem nw_len (a b c:Cell) (m bm:Int) (l:Nat->Lcl):∀t,t<=4->(nwC a b c m bm l t).length=329
 | 0,_=>by kernel_rfl
 | 1,_=>by kernel_rfl
 | 2,_=>by kernel_rfl
 | 3,_=>by kernel_rfl
 | 4,_=>by kernel_rfl
 | t+5,h=>by omega
theorem nw_pc (a b c:Cell) (m bm:Int) (l:Nat->Lcl) (t:Nat):((nwC a b c m bm l t).drop (0+0)).take 3=[a,b,c]:=by
 rw [Ych,Yct];rfl
theorem nw_z:([Cell.nils,Cell.nils,Cell.nils]++Yc 325 ci0++[Cell.nils]).length=329:=by kernel_rfl
theorem Zeg {l xs:List Cell} {n:Nat} (h:n+xs.length<=l.length):(splice l n xs).length=l.length:=by
 unfold splice
 rw [Ye,Ye,Yt,Yai];omega
def MV.new (P:PProg) (m:Int):MV :=
 ⟨P,m,[Zam P 0,Zam P 1,Zam P 2,Zam P 3],P.init++Yc (4 - P.init.length) 0,[-1,-1,-1,-1],[[],[],[],[]],[]⟩
theorem nw_end (a b c:Cell) (P:PProg) (m:Int):nwC a b c m (Zbd m) (fun t=>Zam P t) 4=vmC [a,b,c] { MV.new P m with mem:=[0,0,0,0] } .nils:=by kernel_rfl
theorem MV.new_fit {P:PProg} {m:Int} (hm:1<=m/\m<=3) (hi:P.init.length<=4):(MV.new P m).Fit :=
 ⟨hm,rfl,by show (P.init++Yc (4 - P.init.length) 0).length=4;rw [Ye,Yby];omega,rfl,rfl,fun l hl=>by
  simp [MV.new] at hl;subst hl;simp⟩
attribute [local irreducible] nwC vmC Zal
section
variable {E:Env}
theorem new_cnt (hE:q171_In E) {h8:Za} {a b c:Cell} {pc:List Cell} {P:PProg} (p8:ProgAt h8 [a,b,c] P) (hfits:P.fits) {m:Int} :
  Zx (q171_F1 (R E) Zx E.glob) (q171_s1 m h8.length 329 0 ((0:Nat):Int) pc (h8++[some ⟨true,0,nwC a b c m (Zbd m) (fun t=>Zam P t) 0⟩]))=some (.exit 0,q171_x1_1 h8.length 329 0 pc (h8++[some ⟨true,0,nwC a b c m (Zbd m) (fun t=>Zam P t) 4⟩])):=by
 have b8:∀l:List Cell,blk? (h8++[some ⟨true,0,l⟩]) h8.length=some ⟨true,0,l⟩:=fun l=>Zaa _ _
 have p9:∀q,ProgAt (h8++[some q]) [a,b,c] P:=fun q=>p8.keep (Kp.app _ (Yf _))
 have rd:∀(l:List Cell) {α:Type} {F:List Cell->Option α},l.length=329->Zn (h8++[some ⟨true,0,l⟩]) h8.length 329 F=F l:=fun l α F hl=>Zq (b8 l) hl
 have put:∀(l cs:List Cell) {α:Type} {F:Za->Option α},Zbh (h8++[some ⟨true,0,l⟩]) h8.length cs F=F (h8++[some ⟨true,0,cs⟩]):=fun l cs α F=>by rw [Zhl (b8 l),setBlk_last]
 refine Zao (F:=q171_F1 (R E) Zx E.glob) (fun t=>q171_s1 m h8.length 329 0 (t:Int) pc (h8++[some ⟨true,0,nwC a b c m (Zbd m) (fun t=>Zam P t) t⟩])) 0 4 (by omega) (fun t _ ht=>?_) (Zl ?_)
 ·have hl:=nw_len a b c m (Zbd m) (fun t=>Zam P t) t (by omega)
  have hnx:=nw_next a b c m (Zbd m) (fun t=>Zam P t) t ht
  have hr:0<=(t:Int)/\(t:Int)<((4:Nat):Int):=⟨by omega,by omega⟩
  have hpcs:=nw_pc a b c m (Zbd m) (fun t=>Zam P t) t
  have hb0:(Zal (Zbd m) []).length=74:=Zcv _ (by simp)
  generalize nwC a b c m (Zbd m) (fun t=>Zam P t) t=l0 at *
  generalize nwC a b c m (Zbd m) (fun t=>Zam P t) (t+1)=l9 at *
  have hl1:(splice l0 ((0+4)+t*5) (Zam P t).cs).length=329:=by
   rw [Zeg (by rw [hl,Lcl.len];omega),hl]
  have hl2:(splice (splice l0 ((0+4)+t*5) (Zam P t).cs) ((0+32)+t*74) (Zal (Zbd m) [])).length=329:=by
   rw [Zeg (by rw [hl1,hb0];omega),hl1]
  rw [q171_r1,if_pos (by simp;omega),rd _ hl,if_pos (by rw [hl];omega),hpcs,PStart_R hE.c94 hfits (p9 _),qh_ok,c1_ok,asA_ok,if_pos hr,rd _ hl,Yb,if_pos ⟨by rw [hl];omega,rfl⟩,put,bufNew_R hE.c190,qh_ok,c1_ok,asA_ok,if_pos hr]
  rw [show (if m=2∨m=3 then m else 0)=Zbd m from rfl,rd _ hl1,if_pos ⟨by rw [hl1];omega,hb0⟩,put,if_pos hr,rd _ hl2,if_pos (by rw [hl2];omega),put,Zr (by omega),hnx]
 ·rw [q171_r1,if_neg (by simp)]
theorem new_mem {a b c:Cell} {P:PProg} {m:Int} (f0:MV.Fit { MV.new P m with mem:=[0,0,0,0] }) (hil:P.init.length<=4) :
  splice (vmC [a,b,c] { MV.new P m with mem:=[0,0,0,0] } .nils) 24 (intC .i64 P.init)=vmC [a,b,c] (MV.new P m) .nils:=by
 obtain ⟨A,B,eA,hA,eM⟩:=Zqv (pc:=[a,b,c]) (x:=.nils) f0 rfl
 have e1:vmC [a,b,c] (MV.new P m) .nils=A++(intC .i64 (MV.new P m).mem++B):=eM (MV.new P m).mem
 rw [eA,e1,show 24=A.length+0 by omega,splice_app]
 congr 1
 unfold splice
 rw [Ybz,Ybu,Yaj,intC_len]
 show intC .i64 P.init++_=intC .i64 (P.init++Yc (4 - P.init.length) 0)++B
 rw [show intC .i64 (P.init++Yc (4 - P.init.length) 0)=intC .i64 P.init++Yc (4 - P.init.length) (.int .i64 0) by simp [intC],Yu]
 congr 1
 rw [Ybi (by rw [intC_len];exact hil)]
 congr 1
 show (Yc 4 ci0).drop _=_
 rw [List.drop_replicate]
theorem new_loop (hE:q171_In E) {h8:Za} {a b c:Cell} {pc:List Cell} {P:PProg} (p8:ProgAt h8 [a,b,c] P) (hfits:P.fits) {m:Int} (z:List Cell) (hz:z=nwC a b c m (Zbd m) (fun t=>Zam P t) 0) :
  Zx (q171_F1 (R E) Zx E.glob) (q171_s1 m h8.length (AV.cells (.agg z)).length 0 0 pc (h8++[some (Blk.mk true 0 (AV.cells (.agg z)))]))=some (.exit 0,q171_x1_1 h8.length 329 0 pc (h8++[some ⟨true,0,vmC [a,b,c] { MV.new P m with mem:=[0,0,0,0] } .nils⟩])):=by
 have h1:AV.cells (.agg z)=z:=rfl
 rw [h1,hz,nw_len _ _ _ _ _ _ _ (by omega),←nw_end]
 exact new_cnt hE p8 hfits
theorem VNew_S (hE:q171_In E) {h:Za} {pc:List Cell} {P:PProg} (p:ProgAt h pc P) (hsm:P.small) (hu:∀x∈P.locs,0<=x/\x<256) (hll:P.locs.length<=1000) (hil:P.init.length<=4) {m:Int} (hm:1<=m/\m<=3) (hpok:pokB P=true) :
  ∃n k pc' h',R E 171 [.agg pc,.c (.int .i64 m)] h=some ([.c (.ptr k 329 0),.c (.int .i64 0)],h')/\VmAt n h' k .nils pc' (MV.new P m)/\h.length<=n/\Kp h.length h h'/\ProgO h.length (h'.take n) pc' P/\k<h'.length:=by
 obtain ⟨pc',h8,r8,po8,k8⟩:=copied_S hE.c189 p hsm hll (by omega)
 have p8:=po8.at
 obtain ⟨a,b,c,ts,he,_⟩:=id p8
 subst he
 have hfits:=hsm.fits
 have f0:MV.Fit { MV.new P m with mem:=[0,0,0,0] }:=⟨hm,rfl,rfl,rfl,rfl,fun l hl=>by simp [MV.new] at hl;subst hl;simp⟩
 have hpc:([a,b,c]:List Cell).length=3:=rfl
 have b8:∀l:List Cell,blk? (h8++[some ⟨true,0,l⟩]) h8.length=some ⟨true,0,l⟩:=fun l=>Zaa _ _
 have cnt:=new_loop hE (pc:=pc) p8 hfits _ (nw_0 a b c m (Zbd m) (fun t=>Zam P t))
 obtain ⟨bi,hbi,hbl,hbg⟩:=p.initG
 have hl0:=Zbt (x:=.nils) f0 hpc
 have hsp:=new_mem (a:=a) (b:=b) (c:=c) f0 hil
 generalize vmC [a,b,c] { MV.new P m with mem:=[0,0,0,0] } .nils=l0 at *
 have hci:=cells1 (hbi.keep hbl (k8.trans (Kp.app [some ⟨true,0,l0⟩] k8.1)))
 refine ⟨h8.length,h8.length,[a,b,c],h8++[some ⟨true,0,vmC [a,b,c] (MV.new P m) .nils⟩],Zd hE.fn ?_,⟨by simp,Yf _,?_,b8 _,Own.nil _ _ _,fun h=>h⟩,k8.1,k8.trans (Kp.app _ k8.1),by rw [Yab (Yf _),Yaq];exact po8,by simp⟩
 ·rw [q171_eq,scK_or,show (decide (m<1)||decide (m > 3))=false by simp;omega,scK_ok,if_pos (by exact ⟨rfl,p.len⟩),progOk_R hE.c188 p hsm hu hll,c1_ok,asB_ok,hpok,bind_ok]
  dsimp only
  rw [if_neg (by simp),if_pos (by exact ⟨rfl,p.len⟩),r8,c1_ok,asA_ok,if_pos (by exact ⟨rfl,by rw [nw_z];omega⟩),if_pos (by exact ⟨rfl,by rw [Zeg (by rw [nw_z];simp),nw_z];omega⟩),cnt,bind_ok]
  dsimp only
  rw [q171_e1_1]
  have hsl:∀{α:Type} (F:Cell->Option α),Zbs (h8++[some ⟨true,0,l0⟩]) 4 1 false false (.ptr h8.length 329 (0+24)) [] F=F (.sl h8.length 329 24 4):=fun F=>by
   unfold Zbs Zgd Zag
   simp only
   rw [b8]
   simp only
   rw [if_pos (by rw [hl0];simp)]
  rw [hsl,hbg]
  unfold Zho
  rw [hci,bind_ok]
  dsimp only
  rw [b8,bind_ok]
  dsimp only
  rw [if_pos ⟨rfl,hl0,by omega⟩,intC_len,Nat.div_one,Yak hil,Nat.mul_one,Yac (by rw [intC_len];exact Yf _),hsp,setBlk_last]
 ·rw [Yab (Yf _),Yaq];exact p8
theorem VNew_R (hE:q171_In E) {h:Za} {pc:List Cell} {P:PProg} (p:ProgAt h pc P) (hsm:P.small) (hu:∀x∈P.locs,0<=x/\x<256) (hll:P.locs.length<=1000) (hil:P.init.length<=4) {m:Int} (hm:1<=m/\m<=3) (hpok:pokB P=true) :
  ∃n k pc' h',R E 171 [.agg pc,.c (.int .i64 m)] h=some ([.c (.ptr k 329 0),.c (.int .i64 0)],h')/\VmAt n h' k .nils pc' (MV.new P m)/\h.length<=n/\Kp h.length h h':=by
 obtain ⟨n,k,pc',h',r1,r2,r3,r4,_⟩:=VNew_S hE p hsm hu hll hil hm hpok
 exact ⟨n,k,pc',h',r1,r2,r3,r4⟩
end
theorem Zea {α:Type} {l:List α} {i:Nat} (hi:i<l.length) (y d:α) (j:Nat):(l.set i y).getD j d=if j=i then y else l.getD j d:=by
 rw [Yh,Yh,Ybm]
 by_cases h:i=j
 ·subst h;rw [if_pos rfl,if_pos hi,if_pos rfl];rfl
 ·rw [if_neg h,if_neg (fun e=>h e.symm)]
theorem Zkf (P:PProg) (t:Int):0<=(Zam P t).pc:=by
 unfold Zam Zte
 exact Zzt (code:=P.code t) _ Lcl.zero
theorem MV.new_inv {P:PProg} {m:Int} (hm:1<=m/\m<=3) (hs:P.small) (hf:∀c∈P.thr,∀i∈c,fldB (Zjg P) i=true) (hl:P.locs.length<=4) (hi:P.init.length<=4) (hc:∀c∈P.thr,c.length<=10):(MV.new P m).Inv:=by
 refine ⟨MV.new_fit hm hi,hs,hf,hl,hc,fun b hb e he=>?_,fun t ht=>?_⟩
 ·simp [MV.new] at hb;subst hb;simp at he
 ·match t with
  | 0=>exact Zkf P 0
  | 1=>exact Zkf P 1
  | 2=>exact Zkf P 2
  | 3=>exact Zkf P 3
  | t+4=>omega
theorem MV.wr_lc (V:MV) (t:Nat) (e:Evt):(V.wr t e).lc=V.lc/\(V.wr t e).P=V.P/\(V.wr t e).m=V.m:=by
 unfold MV.wr;split<;>(try split)<;>exact ⟨rfl,rfl,rfl⟩
theorem MV.wr_bf (V:MV) (t:Nat) (e:Evt):(V.wr t e).bf=if e.kind=2/\V.m≠1 then V.bf.set t (V.b t++[⟨e.loc,e.w,V.st.length⟩]) else V.bf:=by
 unfold MV.wr;split
 ·rfl
 ·split<;>rfl
theorem MV.rows_of {W:MV} (h4:W.bf.length=4) {p:List Ent->Prop} (h:∀t,t<4->p (W.b t)):∀b∈W.bf,p b:=by
 intro b hb
 obtain ⟨t,ht,rfl⟩:=Yae.1 hb
 have:=h t (by omega)
 unfold MV.b at this
 rw [Yh,Ya ht] at this
 exact this
theorem MV.may_thr {V:MV} {i:Nat} (hi:i<4) (h:V.may i=true):V.nxt i=some (V.thrI i):=by
 unfold MV.may at h
 rw [if_pos hi] at h
 unfold MV.mayT at h
 unfold MV.thrI
 cases hq:V.nxt i with
 | none=>rw [hq] at h;cases h
 | some q=>rfl
section nx
variable {V:MV} (v:V.Inv)
include v
theorem MV.Inv.thrL {i:Nat} (hi:i<4) (q:Ins) (t:Nat):(V.thrM i q).l t=if t=i then Zcd (V.P.code i) (V.l i) (V.val i q).1 else V.l t:=by
 show (V.lc.set i _).getD t Lcl.zero=_
 rw [Zea (by rw [v.fit.lc];exact hi)]
 rfl
theorem MV.Inv.thrB {i:Nat} (hi:i<4) (q:Ins) (t:Nat):(V.thrM i q).b t=if t=i/\(evOf q (V.l i) (V.val i q).1).kind=2/\V.m≠1 then V.b i++[⟨(evOf q (V.l i) (V.val i q).1).loc,(evOf q (V.l i) (V.val i q).1).w,V.st.length⟩] else V.b t:=by
 show (V.wr i _).bf.getD t []=_
 rw [V.wr_bf]
 split
 ·rename_i h
  rw [Zea (by rw [v.fit.bf];exact hi)]
  by_cases ht:t=i
  ·rw [if_pos ht,if_pos ⟨ht,h⟩]
  ·rw [if_neg ht,if_neg (fun q=>ht q.1)];rfl
 ·rename_i h
  rw [if_neg (fun q=>h q.2)];rfl
theorem MV.Inv.fluB {i:Nat} (hi:i<4) (loc:Int) (t:Nat):(V.fluM i loc).b t=if t=i then (V.b i).eraseP (Zcy (Zbd V.m) loc) else V.b t:=by
 show (V.bf.set i _).getD t []=_
 rw [Zea (by rw [v.fit.bf];exact hi)]
 rfl
theorem MV.Inv.mem_b {t:Nat} {e:Ent} (he:e∈V.b t):0<=e.loc/\e.loc<4:=by
 by_cases ht:t<V.bf.length
 ·exact v.ents _ (Yr (MV.b_at ht)) e he
 ·unfold MV.b at he
  rw [Yh,Yg (by omega)] at he
  simp at he
theorem MV.Inv.thr {i:Nat} (hi:i<4) {q:Ins} (hq:V.nxt i=some q):(V.thrM i q).Inv:=by
 obtain ⟨q1,q2,q3,q4,q5⟩:=v.nxt hq
 have hb:=v.thrB hi q
 have hl:=v.thrL hi q
 have hpc:(V.l i).pc+1<=(Zcd (V.P.code i) (V.l i) (V.val i q).1).pc:=Zq766 hq _
 have hev:=Znl (l:=V.l i) (v:=(V.val i q).1) q1
 obtain ⟨w1,w2,w3⟩:=V.wr_lc i (evOf q (V.l i) (V.val i q).1)
 have f:=v.fit
 have e0:(V.thrM i q).bf.length=4:=by
  show (V.wr i _).bf.length=4
  rw [V.wr_bf];split
  ·rw [Yl];exact f.bf
  ·exact f.bf
 have blen:∀t,t<4->((V.thrM i q).b t).length<=24:=fun t ht=>by
  rw [hb]
  split
  ·have:=v.pcs i hi
   rw [Ye,Yj];omega
  ·exact v.blen ht
 have hmm:(V.thrM i q).m=V.m:=w3
 have hPP:(V.thrM i q).P=V.P:=w2
 refine ⟨⟨by rw [hmm];exact f.m,by show (V.lc.set _ _).length=4;rw [Yl];exact f.lc,?_,?_,e0,MV.rows_of e0 blen⟩,by rw [hPP];exact v.small,by rw [hPP];exact v.fld,by rw [hPP];exact v.locs,by rw [hPP];exact v.c10,MV.rows_of e0 fun t ht e he=>?_,fun t ht=>?_⟩
 ·show (V.wr i _).mem.length=4
  unfold MV.wr;split
  ·exact f.mem
  ·split
   ·rw [Yl];exact f.mem
   ·exact f.mem
 ·show (V.wr i _).frm.length=4
  unfold MV.wr;split
  ·exact f.frm
  ·split
   ·rw [Yl];exact f.frm
   ·exact f.frm
 ·rw [hb] at he
  split at he
  ·rcases Yaf.1 he with he | he
   ·exact v.mem_b he
   ·rw [Yw] at he;subst he;exact hev
  ·exact v.mem_b he
 ·rw [hb,hl]
  by_cases h:t=i
  ·subst h
   rw [if_pos rfl]
   have:=v.pcs t ht
   split
   ·rw [Ye,Yj];omega
   ·omega
  ·rw [if_neg h,if_neg (fun q=>h q.1)]
   exact v.pcs t ht
theorem MV.Inv.flu {i:Nat} (hi:i<4) (loc:Int):(V.fluM i loc).Inv:=by
 have hb:=v.fluB hi loc
 have f:=v.fit
 have e0:(V.fluM i loc).bf.length=4:=by show (V.bf.set _ _).length=4;rw [Yl];exact f.bf
 refine ⟨⟨f.m,f.lc,by show (V.mem.set _ _).length=4;rw [Yl];exact f.mem,by show (V.frm.set _ _).length=4;rw [Yl];exact f.frm,e0,MV.rows_of e0 fun t ht=>?_⟩,v.small,v.fld,v.locs,v.c10,MV.rows_of e0 fun t ht e he=>?_,fun t ht=>?_⟩
 ·rw [hb];split
  ·exact Yy Yca (v.blen hi)
  ·exact v.blen ht
 ·rw [hb] at he
  split at he
  ·exact v.mem_b (Ybw he)
  ·exact v.mem_b he
 ·rw [hb]
  show _<=(V.l t).pc
  split
  ·rename_i h
   subst h
   have:=v.pcs t ht
   have h2:=Yca (p:=Zcy (Zbd V.m) loc) (l:=V.b t)
   omega
  ·exact v.pcs t ht
theorem MV.Inv.st {s:List Stp}:MV.Inv { V with st:=s }:=⟨⟨v.fit.m,v.fit.lc,v.fit.mem,v.fit.frm,v.fit.bf,v.fit.b⟩,v.small,v.fld,v.locs,v.c10,v.ents,v.pcs⟩
theorem MV.Inv.nx {i:Nat} (h:V.may i=true):(V.nx i).Inv:=by
 have hi:=MV.may_lt h
 unfold MV.nx
 split
 ·rename_i h4
  exact (v.thr h4 (MV.may_thr h4 h)).st
 ·split
  ·exact (v.flu (by omega) _).st
  ·exact (v.flu (by omega) _).st
end nx
theorem MV.nx_st (V:MV) (i:Nat):(V.nx i).st=V.st++[V.stp i]:=rfl
theorem MV.nx_P (V:MV) (i:Nat):(V.nx i).P=V.P/\(V.nx i).m=V.m:=by
 unfold MV.nx
 split
 ·exact ⟨(V.wr_lc _ _).2.1,(V.wr_lc _ _).2.2⟩
 ·split<;>exact ⟨rfl,rfl⟩
theorem SlAt.cellsG {h:Za} {x:Cell} {esz:Nat} {cs:List Cell} {len:Nat} (s:SlAt h x esz cs len):Zah h esz x=some cs:=by
 have hl:=s.1
 rcases s.2 with ⟨rfl,rfl⟩ | ⟨k,N,off,rfl,hb⟩
 ·have:cs=[]:=Yx.1 (by omega)
  rw [this];rfl
 ·unfold Zah
  dsimp only
  by_cases h0:len=0
  ·have:cs=[]:=Yx.1 (by rw [h0] at hl;omega)
   rw [if_pos h0,this]
  ·rw [if_neg h0]
   rcases hb with hb | ⟨b,hb,hN,hle,hat⟩
   ·exact absurd hb h0
   ·rw [hb]
    simp only
    rw [if_pos ⟨hN,hle⟩]
    congr 1
    refine Yal fun j=>?_
    rw [Yao,Ybk]
    by_cases hj:j<len*esz
    ·rw [if_pos hj,hat j hj]
    ·rw [if_neg hj,Yg (by omega)]
theorem Zln {α:Type} {h:Za} {esz bytes len:Nat} {cs:List Cell} (he:0<esz) (hlen:cs.length=len*esz) (h1:len*bytes<=maxBytes) (h2:len<=maxBytes) (f:Cell->Za->Option α) :
  Zaq esz bytes (.sl h.length 0 0 0) cs (h++[some ⟨true,esz,[]⟩]) f=f (.sl h.length cs.length 0 len) (h++[some ⟨true,esz,cs⟩]):=by
 unfold Zaq
 simp only
 rw [Zaa,Ybp]
 dsimp only
 have hd:cs.length / esz=len:=by rw [hlen];exact Yci _ he
 rw [if_pos ⟨rfl,rfl,rfl,by simp,by rw [hd];simp;omega,by rw [hd];simp;omega⟩,hd]
 by_cases h0:len=0
 ·have:cs=[]:=Yx.1 (by rw [hlen,h0];omega)
  subst this
  rw [if_pos (by simp),setBlk_last,h0]
  simp [splice]
 ·have hpos:0<cs.length:=by rw [hlen];exact Nat.mul_pos (by omega) he
  rw [if_neg (by omega),if_pos trivial,setBlk_last]
  simp
section
variable {E:Env}
theorem Done_R (hE:q174_In E) {h:Za} {k:Nat} {x:Cell} {pc:List Cell} {V:MV} (hb:blk? h k=some ⟨true,0,vmC pc V x⟩) (f:V.Fit) (p:ProgAt h pc V.P) :
  R E 174 [.c (.ptr k 329 0)] h=some ([.c (.bool (V.word==0))],h):=by
 refine Zd hE.fn ?_
 rw [q174_eq,Znw hE.c172 hb f p,c1_ok,asI_ok]
 have:(((V.word:Nat):Int)==0)=(V.word==0):=by rw [Ys,beq_iff_eq,beq_iff_eq];omega
 rw [this]
theorem CloneS_R (hE:q195_In E) {x:Cell} {l:List Stp} {h:Za} (hx:SlAt h x 7 (Zba l) l.length) (hlow:Low h.length x) (hl:l.length<=100000) :
  ∃x' h',R E 195 [.c x] h=some ([.c x'],h')/\Own h.length h' x' 7 (Zba l) l.length/\Kp h.length h h':=by
 have hm:maxBytes>=100000*56:=by unfold maxBytes;omega
 have hlen:=Zro l
 have hx0:=hx
 rcases hx.2 with ⟨rfl,h0⟩ | ⟨k,N,off,rfl,hb⟩
 ·refine ⟨.nils,h,Zd hE.fn ?_,⟨hlen,.inl ⟨rfl,h0⟩⟩,Kp.refl _ _⟩
  rw [q195_eq];rfl
 ·have hk1:Kp h.length h (h++[some ⟨true,7,[]⟩]):=Kp.app _ (Yf _)
  have hc:=(hx0.keep hlow hk1).cellsG
  refine ⟨.sl h.length (Zba l).length 0 l.length,h++[some ⟨true,7,Zba l⟩],Zd hE.fn ?_,⟨hlen,.inr ⟨h.length,rfl,Yf _,Zaa _ _⟩⟩,Kp.app _ (Yf _)⟩
  rw [q195_eq,show ∀{α:Type} (f:Bool->Option α),Zcm false (.sl k N off l.length) .nils f=f false from fun _=>rfl,if_neg (by simp),if_pos (show ([]:List Cell).length=0*7 from rfl),hc,bind_ok,show ([]:List Cell).length=0 from rfl,Zln (by omega) hlen (by omega) (by omega)]
theorem Steps_R (hE:q175_In E) {n k:Nat} {h:Za} {x:Cell} {pc:List Cell} {V:MV} (a:VmAt n h k x pc V) (f:V.Fit) (hst:V.st.length<=100000) :
  ∃y h',R E 175 [.c (.ptr k 329 0)] h=some ([.c y],h')/\Own h.length h' y 7 (Zba V.st) V.st.length/\Kp h.length h h':=by
 obtain ⟨y,h',r,o,kk⟩:=CloneS_R hE.c195 a.st.at a.st.low hst
 refine ⟨y,h',Zd hE.fn ?_,o,kk⟩
 rw [q175_eq,Zq a.blk (Zbt f a.prog.len),Zjt f a.prog.len,r,c1_ok,asC_ok]
end








section
variable {E:Env}
end




section
variable {E:Env}
end
theorem Zq744 (S:Nat->Bool) (n:Nat):(locsF S n).Pairwise (·<·):=by
 unfold locsF
 refine List.Pairwise.map _ (fun a b (hab:a<b)=>?_) (List.Pairwise.filter _ List.pairwise_lt_range)
 omega
theorem locs_ok (S:Nat->Bool):(Yv (locsF S 26).length).any (atB (locsF S 26) (Zlm (locsF S 26)))=false:=by
 have hp:=Zq744 S 26
 have hm:∀x∈locsF S 26,97<=x/\x<=122:=fun x h=>by
  obtain ⟨c,h1,_,rfl⟩:=Zop.1 h
  omega
 generalize locsF S 26=l at *
 rw [Yaw]
 intro i hi
 rw [Ybj] at hi
 rw [atB_ok (Ya hi)]
 have h1:=hm _ (Ycn hi)
 have h2:0<i->l.getD (i - 1) 0<l[i]:=fun h0=>by
  rw [Yh,Ya (by omega)]
  exact Yas.1 hp (i - 1) i (by omega) hi (by omega)
 unfold Zlm locB
 rw [decide_eq_true h1.1,decide_eq_true h1.2]
 by_cases h0:0<i
 ·have:=h2 h0
  rw [decide_eq_false (p:=l[i]<=_) (by omega)];simp
 ·rw [decide_eq_false (p:=(i:Int) > 0) (by omega)];simp
theorem Ztd {c:Nat}:∀l:List (List Ins),(∀x∈l,x.length<=c)->(l.map List.length).sum<=l.length*c
 | [],_=>by simp
 | x :: l,h=>by
  have:=Ztd l fun y hy=>h y (Ycd _ hy)
  have h1:=h x Ycj
  rw [List.map_cons,List.sum_cons,Yp,Nat.succ_mul];omega
theorem opdOk.opB {o:Opd} (h:opdOk o):opB o=true:=by
 unfold Jq.opB Zvk
 rcases h with ⟨h1,_⟩ | ⟨h1 | h1,h2⟩<;>rw [h1]<;>simp [*]
theorem SmI.fld {L:Int} {T:PTest} {i:Ins} (s:SmI L i) (hin:i.loc≠0->i.loc∈Zaz T):fldB (Zjg (Zdt T)) (Zdd (Zaz T) i)=true:=by
 have hl:i.loc≠0->Zdd (Zaz T) i={ i with loc:=plc (Zaz T) i.loc 0 }/\Zjg (Zdt T) (plc (Zaz T) i.loc 0)=true:=fun h=>by
  refine ⟨by unfold Zdd;rw [if_pos h],?_⟩
  obtain ⟨j,hj,hg⟩:=plc_get (Zaz T) 0 (hin h)
  have:=Zs hg
  rw [hj]
  unfold Zjg
  rw [show (Zdt T).locs=Zaz T from rfl,decide_eq_true (by omega),decide_eq_true (by omega)];rfl
 rcases s with ⟨h1,h2,h3,h4,h5,h6,h7⟩ | ⟨h1,h2,h3,h4,h5,h6,h7⟩ | rfl | ⟨h1,h2,h3,h4,h5,h6,h7⟩ | ⟨h1,h2,h3,h4,h5,h6,h7⟩ | ⟨h1,h2,h3,h4,h5,h6,h7⟩
 ·obtain ⟨e,hh⟩:=hl (by omega)
  rw [e]
  unfold fldB
  dsimp only
  rw [if_pos h1,hh,h4.opB,h1,h2,h5,h6,h7]
  simp [Ins.cs]
 ·obtain ⟨e,hh⟩:=hl (by omega)
  rw [e]
  unfold fldB Zvk
  dsimp only
  rw [if_neg (by omega),if_pos h1,hh,h1,h4,h5,h6,h7,decide_eq_true (by omega),decide_eq_true (by omega)]
  simp [Ins.cs]
 ·rfl
 ·obtain ⟨e,hh⟩:=hl (by omega)
  rw [e]
  unfold fldB Zvk
  dsimp only
  rw [if_neg (by omega),if_neg (by omega),if_neg (by omega),if_pos h1,hh,h4.opB,h1,h5,h6,h7,decide_eq_true (by omega),decide_eq_true (by omega)]
  simp [Ins.cs,opB]
 ·have e:Zdd (Zaz T) i=i:=by unfold Zdd;rw [if_neg (by omega)]
  rw [e]
  unfold fldB Zvk
  rw [if_neg (by omega),if_neg (by omega),if_neg (by omega),if_neg (by omega),if_pos h1,h4.opB,h1,h5,h6,decide_eq_true (by omega),decide_eq_true (by omega)]
  simp [Ins.cs,opB,h1,h3,h5,h6,h7]
 ·have e:Zdd (Zaz T) i=i:=by unfold Zdd;rw [if_neg (by omega)]
  rw [e]
  unfold fldB
  rw [if_neg (by omega),if_neg (by omega),if_neg (by omega),if_neg (by omega),if_neg (by omega),if_pos h1,h4.opB,h1,h6,h7]
  simp [Ins.cs,opB,h1,h2,h3,h5,h6,h7]
theorem Zq775 {T:PTest} {c:List Ins} (hc:c∈T.thr) {i:Ins} (hi:i∈c) (hl:97<=i.loc/\i.loc<=122):i.loc∈Zaz T:=by
 unfold Zaz
 refine Zop.2 ⟨(i.loc - 97).toNat,by omega,?_,by omega⟩
 unfold Zdh
 rw [Ym,Ym]
 refine .inl (.inr (Yay.2 ⟨c,hc,Yay.2 ⟨i,hi,?_⟩⟩))
 rw [beq_iff_eq];omega
theorem SkipOk.jmp {c:List Ins} (s:SkipOk c) (h1:∀i∈c,i.kind=6->i.n=1):jmpB c=true:=by
 unfold jmpB
 rw [Yco]
 intro k hk
 cases hq:c[k]? with
 | none=>rfl
 | some i =>
  dsimp only
  by_cases h6:i.kind=6
  ·have a:=s k i hq h6
   have b:=h1 i (Yr hq) h6
   rw [decide_eq_false (p:=i.n<1) (by omega),decide_eq_false (p:=i.n > _) (by omega)];simp
  ·rw [beq_false_of_ne h6];rfl
structure RunP (P:PProg):Prop where
 pok:pokB P=true
 fld:∀c∈P.thr,∀i∈c,fldB (Zjg P) i=true
theorem GoodT.run {most:Nat} {T:PTest} (g:GoodT most T):RunP (Zdt T):=by
 have gp:=g.goodP
 obtain ⟨L,hL,hc⟩:=g.code
 have hf:∀c∈(Zdt T).thr,∀i∈c,fldB (Zjg (Zdt T)) i=true:=fun c hcm i hi=>by
  obtain ⟨d,hd,rfl⟩:=Ybq.1 hcm
  obtain ⟨j,hj,rfl⟩:=Ybq.1 hi
  obtain ⟨k,hk,ht⟩:=hc d hd
  have:=ht.all j hj
  refine this.fld fun h0=>Zq775 hd hj ?_
  have:=this.loc;omega
 refine ⟨?_,hf⟩
 have hgn:=gp.n
 have hgl:=gp.locs
 have hgi:=gp.init
 have hsum:=Ztd (c:=6) (Zdt T).thr gp.code
 have hs:Zlz (Zdt T)=false:=by
  unfold Zlz Zoe
  rw [beq_false_of_ne (by omega),decide_eq_false (p:=((Zdt T).thr.length:Int) > 4) (by omega),decide_eq_false (p:=((Zdt T).locs.length:Int) > 4) (by omega),decide_eq_false (p:=_ > (24:Int)) (by omega),show (((Zdt T).init.length:Int) != ((Zdt T).locs.length:Int))=false by simp [hgl]]
  rfl
 unfold pokB
 rw [if_neg (by rw [hs];simp),if_neg (by rw [show (Zdt T).locs=locsF (Zdh T) 26 from rfl,locs_ok];simp),Ybn,Yaw]
 intro c hcm
 have hj:jmpB c=true:=(gp.skip c hcm).jmp fun i hi h6=>by
  obtain ⟨d,hd,rfl⟩:=Ybq.1 hcm
  obtain ⟨j,hj,rfl⟩:=Ybq.1 hi
  obtain ⟨k,hk,ht⟩:=hc d hd
  rw [Zmn.1] at h6
  rw [Zmn.2]
  exact (ht.all j hj).skip h6
 have hcl:=gp.code c hcm
 unfold Zqn
 rw [hj,decide_eq_false (by omega),show (c.any fun i=>!fldB (Zjg (Zdt T)) i)=false by
  rw [Yaw];intro i hi;rw [hf c hcm i hi];simp]
 simp
section
variable {E:Env}
theorem OfO_R (hE:q76_In E) {h:Za} {x:Cell} {l:List Int} (hx:SlAt h x 1 (intC .i64 l) l.length) (hlow:Low h.length x) (hl:l.length<9223372036854775808) {most:Nat} (hmost:most<=900) :
  ∃(cs:List Cell) (h':Za) (P:PProg),R E 76 [.c x,.c (.int .i64 (most:Int))] h=some ([.agg cs],h')/\ProgOwn h.length h' cs P/\GoodP most P/\RunP P/\(∀x∈P.locs,0<=x/\x<256)/\Kp h.length h h':=by
 obtain ⟨cs,h1,T,s1,s2,s3,s4⟩:=Small_R hE.c97 hx hlow hl hmost
 obtain ⟨cs2,h2,t1,t2,t3⟩:=Zui hE.c101 s2 s3.small
 refine ⟨cs2,h2,Zdt T,Zd hE.fn ?_,by obtain ⟨m,a,b,y,e1,e2,e3⟩:=t2;exact ⟨m,a,b,y,e1,Yy s4.1 e2,e3⟩,s3.goodP,s3.run,fun x hx=>by have:=Zyj (T:=T) hx;omega,s4.trans (t3.mono s4.1)⟩
 rw [q76_eq,s1,c1_ok,asA_ok,t1,c1_ok,asA_ok,if_pos ⟨rfl,rfl,t2.at.len⟩,if_pos ⟨rfl,t2.at.len⟩]
theorem OfP_R (hE:q76_In E) {h:Za} {x:Cell} {l:List Int} (hx:SlAt h x 1 (intC .i64 l) l.length) (hlow:Low h.length x) (hl:l.length<9223372036854775808) {most:Nat} (hmost:most<=900) :
  ∃(cs:List Cell) (h':Za) (P:PProg),R E 76 [.c x,.c (.int .i64 (most:Int))] h=some ([.agg cs],h')/\ProgAt h' cs P/\GoodP most P/\RunP P/\(∀x∈P.locs,0<=x/\x<256)/\Kp h.length h h':=by
 obtain ⟨cs,h',P,r1,r2,r3⟩:=OfO_R hE hx hlow hl hmost
 exact ⟨cs,h',P,r1,r2.at,r3⟩
end
theorem Zgv {n:Nat} {h h':Za} (hk:Kp n h h'):h'.take n=h.take n:=by
 refine Yal fun j=>?_
 rw [Yao,Yao]
 split
 ·exact hk.2 j (by assumption)
 ·rfl
theorem VmAt.keep {n:Nat} {h h':Za} {k:Nat} {x:Cell} {pc:List Cell} {V:MV} (a:VmAt n h k x pc V) (hk:Kp h.length h h'):VmAt n h' k x pc V :=
 ⟨Yy a.hn hk.1,a.nk,by rw [Zgv (hk.mono a.hn)];exact a.prog,by rw [hk.blk (Zar a.blk)];exact a.blk,a.st.keepK hk,a.sep⟩
theorem GoodP.inv {most:Nat} {P:PProg} (g:GoodP most P) (r:RunP P) {m:Int} (hm:1<=m/\m<=3):(MV.new P m).Inv :=
 MV.new_inv hm g.small r.fld (by have:=g.locs;have:=g.init;omega) (by have:=g.init;omega) (fun c hc=>by have:=g.code c hc;omega)
theorem bits_may {V:MV} {j i:Nat} (h:(Zdf V.word)[j]? = some i):V.may i=true:=by
 have:=(Zq792.1 (Yr h)).2
 rwa [MV.word_bit] at this
section
variable {E:Env}
theorem ptr_nil {α:Type} {k:Nat} {f:Bool->Option α}:Zcm false (.ptr k 329 0) .nilp f=f false:=rfl
end
def MV.cnt (V:MV) (q:Nat):Int :=
 if V.m=2/\4<=q/\q<8 then ((V.b (q - 4)).length:Int)
 else if V.m=3/\8<=q/\q<24 then ((V.b ((q - 8) / 4)).countP (Zcy 3 (((q - 8) % 4:Nat):Int)):Int) else 0
theorem Zq719 (i:Ins) (l:Lcl) (v:Int):1<=(evOf i l v).kind/\(evOf i l v).kind<=5:=by
 unfold evOf
 split
 ·exact ⟨by dsimp only;omega,by dsimp only;omega⟩
 ·split
  ·exact ⟨by dsimp only;omega,by dsimp only;omega⟩
  ·split
   ·split<;>exact ⟨by dsimp only;omega,by dsimp only;omega⟩
   ·exact ⟨by dsimp only;omega,by dsimp only;omega⟩
theorem Zxw (P:PProg) (m:Int) (t:Nat):(MV.new P m).b t=[]:=by
 unfold MV.b MV.new
 match t with
 | 0=>rfl
 | 1=>rfl
 | 2=>rfl
 | 3=>rfl
 | t+4=>rfl
section
variable {E:Env}
end
section
variable {E:Env}
end
section
variable {E:Env}
end
section
variable {E:Env}
end

section
variable {E:Env}
end
section
variable {E:Env}
end
section
variable {E:Env}
end
def Zqj (m:Int) (s:Stp):Bool:=s.kind==2&&m != 1
def MV.skips (V:MV):Prop:=∀c∈V.P.thr,SkipOk c
theorem MV.may_flu {V:MV} {i:Nat} (h4:¬i<4) (hi:V.may i=true):∃(t:Nat) (loc:Int) (e:Ent),t<4/\(V.b t).find? (Zcy (Zbd V.m) loc)=some e/\V.stp i=⟨i,t,6,e.loc,0,e.val,e.id⟩/\(V.m≠1) /\
  (V.nx i)={ V with bf:=V.bf.set t ((V.b t).eraseP (Zcy (Zbd V.m) loc)),mem:=V.mem.set e.loc.toNat e.val,frm:=V.frm.set e.loc.toNat e.id,st:=V.st++[V.stp i] }:=by
 have h24:=MV.may_lt hi
 have key:∀(t:Nat) (loc:Int) (e:Ent),(V.b t).find? (Zcy (Zbd V.m) loc)=some e->V.stp i={ V.fluS t loc with pick:=i }->V.nx i={ V.fluM t loc with st:=V.st++[V.stp i] } ->
   V.stp i=⟨i,t,6,e.loc,0,e.val,e.id⟩/\(V.nx i)={ V with bf:=V.bf.set t ((V.b t).eraseP (Zcy (Zbd V.m) loc)),mem:=V.mem.set e.loc.toNat e.val,frm:=V.frm.set e.loc.toNat e.id,st:=V.st++[V.stp i] }:=by
  intro t loc e he e1 e2
  have hee:V.fluE t loc=e:=by unfold MV.fluE;rw [he];rfl
  refine ⟨?_,?_⟩
  ·rw [e1];unfold MV.fluS;rw [hee]
  ·rw [e2];unfold MV.fluM;rw [hee]
 by_cases h8:i<8
 ·have hi':=hi
  unfold MV.may MV.mayF at hi'
  rw [if_neg h4,if_pos h8,Yd] at hi'
  have hm2:V.m=2:=beq_iff_eq.1 hi'.1
  have hne:(V.b (i - 4)).length≠0:=by simpa using hi'.2
  obtain ⟨e,he⟩:∃e,(V.b (i - 4)).find? (Zcy (Zbd V.m) 0)=some e:=by
   rw [hm2]
   cases hbb:V.b (i - 4) with
   | nil=>rw [hbb] at hne;exact absurd rfl hne
   | cons e l=>exact ⟨e,rfl⟩
  obtain ⟨k1,k2⟩:=key (i - 4) 0 e he (by unfold MV.stp;rw [if_neg h4,if_pos h8]) (by unfold MV.nx;rw [if_neg h4,if_pos h8])
  exact ⟨i - 4,0,e,by omega,he,k1,by omega,k2⟩
 ·have hi':=hi
  unfold MV.may MV.mayL at hi'
  rw [if_neg h4,if_neg h8,if_pos h24,Yd] at hi'
  have hm3:V.m=3:=beq_iff_eq.1 hi'.1
  obtain ⟨e,he⟩:=Ybr.1 hi'.2
  have he':(V.b ((i - 8) / 4)).find? (Zcy (Zbd V.m) (((i - 8) % 4:Nat):Int))=some e:=by rw [hm3];exact he
  obtain ⟨k1,k2⟩:=key ((i - 8) / 4) _ e he' (by unfold MV.stp;rw [if_neg h4,if_neg h8]) (by unfold MV.nx;rw [if_neg h4,if_neg h8])
  exact ⟨(i - 8) / 4,_,e,by omega,he',k1,by omega,k2⟩
theorem Own.appN {n:Nat} {h:Za} {x:Cell} {esz len m bytes:Nat} {cs xs:List Cell} (o:Own n h x esz cs len) (hn:n<=h.length) (hx:xs.length=m*esz) (he:0<esz) (h1:(len+m)*bytes<=maxBytes) (h2:len+m<=maxBytes) :
  ∃x' h',(∀{α:Type} (f:Cell->Za->Option α),Zaq esz bytes x xs h f=f x' h')/\Own n h' x' esz (cs++xs) (len+m)/\Kp n h h'/\(∀j b,blk? h j=some b->¬Zad x j->blk? h' j=some b/\¬Zad x' j):=by
 have hd:xs.length / esz=m:=by rw [hx];exact Yci _ he
 rcases o.2 with ⟨rfl,rfl⟩ | ⟨k,rfl,hk,hb⟩
 ·have hcs:cs=[]:=Yx.1 (by have:=o.1;omega)
  subst hcs
  by_cases h0:m=0
  ·subst h0
   have:xs=[]:=Yx.1 (by omega)
   subst this
   exact ⟨.nils,h,fun f=>rfl,Own.nil _ _ _,Kp.refl _ _,fun j b hj hi=>⟨hj,hi⟩⟩
  ·have hpos:0<xs.length:=by rw [hx];exact Nat.mul_pos (by omega) he
   refine ⟨.sl h.length xs.length 0 m,h++[some ⟨true,esz,xs⟩],fun f=>?_,⟨by simp [hx],.inr ⟨h.length,by simp,hn,by rw [Ybu];exact Zaa _ _⟩⟩,Kp.app _ hn,fun j b hj _=>⟨Zfn hj _,fun hi=>?_⟩⟩
   ·unfold Zaq;simp only;rw [if_neg (by omega),hd,if_pos ⟨by rw [Yaj] at h1;exact h1,by omega⟩]
   ·have:=Zar hj;simp only [Zad] at hi;omega
 ·have hl:=o.1
  refine ⟨.sl k (len*esz+xs.length) 0 (len+m),setBlk h k (some ⟨true,esz,cs++xs⟩),fun f=>?_,⟨by simp [hl,hx,Nat.add_mul],.inr ⟨k,by simp [hl],hk,Zac (Zar hb) _⟩⟩,Kp.set hk _,fun j b hj hi=>?_⟩
  ·unfold Zaq;simp only;rw [hb,Ybp];dsimp only
   rw [if_pos ⟨rfl,rfl,rfl,by omega,by rw [hd];exact h1,by rw [hd];exact h2⟩,hd]
   by_cases h0:xs.length=0
   ·have:xs=[]:=Yx.1 h0
    subst this
    have e:splice cs (0+len*esz) []=cs++[]:=by unfold splice;simp
    rw [if_pos (by simp;omega),e,Yaa,hl]
    rfl
   ·rw [if_neg (by omega),if_pos trivial,Yac (by omega)]
  ·have hne:k≠j:=fun h=>hi h
   exact ⟨by rw [Zbc hne];exact hj,fun q=>hne q⟩
theorem Own.slc {n:Nat} {h:Za} {x:Cell} {esz len:Nat} {cs:List Cell} (o:Own n h x esz cs len) (h0:0<len) {a:Nat} (ha:a<=len) :
  (∃x',(∀{α:Type} (f:Cell->Option α),Zcg h esz false true x [.v (.c (.int .i64 (a:Int)))] f=f x')/\Zah h esz x'=some (cs.take (a*esz))) /\
  (∃x',(∀{α:Type} (f:Cell->Option α),Zcg h esz true false x [.v (.c (.int .i64 (a:Int)))] f=f x')/\Zah h esz x'=some (cs.drop (a*esz))):=by
 have hl:=o.1
 have hae:a*esz<=len*esz:=Nat.mul_le_mul_right _ ha
 rcases o.2 with ⟨rfl,rfl⟩ | ⟨k,rfl,hk,hb⟩
 ·omega
 ·have hok:Zgd h esz k cs.length=true:=by unfold Zgd;rw [hb];simp
  refine ⟨⟨.sl k cs.length (0+0*esz) (a - 0),fun f=>?_,?_⟩,⟨.sl k cs.length (0+a*esz) (len - a),fun f=>?_,?_⟩⟩
  ·unfold Zcg Zag
   simp only
   rw [if_pos hok,if_pos ⟨by omega,by omega⟩,Yb]
  ·unfold Zah
   dsimp only
   by_cases h1:a - 0=0
   ·rw [if_pos h1,show a=0 by omega,Nat.zero_mul,Ybz]
   ·rw [if_neg h1,hb]
    simp only
    rw [if_pos ⟨by trivial,by rw [Nat.sub_zero];omega⟩]
    simp
  ·unfold Zcg Zag
   simp only
   rw [if_pos hok,if_pos ⟨by omega,by omega⟩,Yb]
  ·unfold Zah
   dsimp only
   have hm:(len - a)*esz=len*esz - a*esz:=Nat.sub_mul _ _ _
   by_cases h1:len - a=0
   ·rw [if_pos h1,Yax (by rw [show a=len by omega];omega)]
   ·rw [if_neg h1,hb]
    simp only
    rw [if_pos ⟨by trivial,by omega⟩,Yaj,Yac (by rw [Yai];omega)]
theorem Ztm (l:List Ent) (j:Nat):(Zu l).take (min j l.length*3)=Zu (l.take j)/\(Zu l).drop (min j l.length*3)=Zu (l.drop j):=by
 have e:Zu l=Zu (l.take j)++Zu (l.drop j):=by rw [←Zeu,Yba]
 have hl:(Zu (l.take j)).length=min j l.length*3:=by rw [entsC_len,Yt]
 rw [e,←hl]
 exact ⟨by rw [Yab (Yf _),Yaq],by rw [Ybi (Yf _),List.drop_length,Ybu]⟩
theorem Zq796 (loc:Int) (l:List Ent) (e:Ent):Zhk loc (l++[e])=if e.loc=loc then some e else Zhk loc l:=by
 unfold Zhk
 rw [Ycg,Ybx,Ybb,Ycs]
 by_cases h:e.loc=loc
 ·rw [if_pos h,h,beq_self_eq_true]
 ·rw [if_neg h,beq_false_of_ne h]
def rvC (pc:List Cell) (V:MV) (bs:List Cell) (x:Cell):List Cell :=
 pc++(([.int .i64 V.m]:List Cell)++(intC .i64 V.mem++(intC .i64 V.frm++(V.lc.flatMap Lcl.cs++(bs++[x])))))
section
variable {V:MV} {pc bs:List Cell} {x:Cell} (f:V.Fit) (hpc:pc.length=3) (hbs:bs.length=4)
theorem Zvd (hpc:pc.length=3):((rvC pc V bs x).drop (0+0)).take 3=pc:=by
 unfold rvC
 exact Zkn (a:=[]) rfl hpc
theorem rv_m (hpc:pc.length=3) {α:Type} {g:Cell->Option α}:Zf (rvC pc V bs x) (0+3) g=g (.int .i64 V.m):=by
 unfold rvC
 refine Zak ?_
 rw [Yk (by omega),hpc];rfl
theorem Zww (_:V.Fit) (hpc:pc.length=3):∃A B:List Cell,rvC pc V bs x=A++(intC .i64 V.mem++B)/\A.length=0+4/\∀l':List Int,rvC pc { V with mem:=l' } bs x=A++(intC .i64 l'++B):=by
 refine ⟨pc++[.int .i64 V.m],intC .i64 V.frm++(V.lc.flatMap Lcl.cs++(bs++[x])),?_,?_,fun l'=>?_⟩
 ·unfold rvC;simp only [Yu]
 ·simp only [Ye,hpc,Yp,Yaa]
 ·unfold rvC;simp only [Yu]
include f hpc
theorem Zxk:∃A B:List Cell,rvC pc V bs x=A++(intC .i64 V.frm++B)/\A.length=0+8/\∀l':List Int,rvC pc { V with frm:=l' } bs x=A++(intC .i64 l'++B):=by
 have:=f.mem
 refine ⟨pc++(([.int .i64 V.m]:List Cell)++intC .i64 V.mem),V.lc.flatMap Lcl.cs++(bs++[x]),?_,?_,fun l'=>?_⟩
 ·unfold rvC;simp only [Yu]
 ·simp only [Ye,hpc,Yp,Yaa,intC_len];omega
 ·unfold rvC;simp only [Yu]
theorem Zyd {t:Nat} {l:Lcl} (h:V.lc[t]? = some l):∃A B:List Cell,rvC pc V bs x=A++(l.cs++B)/\A.length=(0+12)+t*5/\∀l':Lcl,rvC pc { V with lc:=V.lc.set t l' } bs x=A++(l'.cs++B):=by
 have hi:=Zs h
 have e:=Zfq (f.lcs hpc) (Yan hi)
 have:=f.mem;have:=f.frm
 refine ⟨pc++(([.int .i64 V.m]:List Cell)++(intC .i64 V.mem++(intC .i64 V.frm++(V.lc.take t).flatMap Lcl.cs))),(V.lc.drop (t+1)).flatMap Lcl.cs++(bs++[x]),?_,?_,fun l'=>?_⟩
 ·unfold rvC;rw [Zhe h];simp only [Yu]
 ·simp only [Ye,e,hpc,Yp,Yaa,intC_len];omega
 ·unfold rvC;dsimp only;rw [Zsp hi];simp only [Yu]
theorem Zjw:∃A:List Cell,A.length=0+32/\∀bs x,rvC pc V bs x=A++(bs++[x]):=by
 have e2:=Zdw (f.lcs hpc)
 have:=f.lc;have:=f.mem;have:=f.frm
 refine ⟨pc++(([.int .i64 V.m]:List Cell)++(intC .i64 V.mem++(intC .i64 V.frm++V.lc.flatMap Lcl.cs))),?_,fun bs x=>?_⟩
 ·simp only [Ye,e2,hpc,Yp,Yaa,intC_len];omega
 ·unfold rvC;simp only [Yu]
theorem Zup {t:Nat} {l:Lcl} (h:V.lc[t]? = some l):((rvC pc V bs x).drop ((0+12)+t*5)).take 5=l.cs:=by
 obtain ⟨A,B,e,hA,_⟩:=Zyd (bs:=bs) (x:=x) f hpc h
 rw [e];exact Zkn hA rfl
theorem rv_setL {t:Nat} (ht:t<4) (l:Lcl):splice (rvC pc V bs x) ((0+12)+t*5) l.cs=rvC pc { V with lc:=V.lc.set t l } bs x:=by
 obtain ⟨A,B,e,hA,h2⟩:=Zyd (bs:=bs) (x:=x) f hpc (Ya (show t<V.lc.length by rw [f.lc];exact ht))
 rw [e,h2];exact Zvy hA rfl
theorem rv_mem {α:Type} {i:Nat} {v:Int} (h:V.mem[i]? = some v) {g:Cell->Option α}:Zf (rvC pc V bs x) ((0+4)+i*1) g=g (.int .i64 v):=by
 obtain ⟨A,B,e,hA,_⟩:=Zww (bs:=bs) (x:=x) f hpc
 have hi:=Zs h
 refine Zak ?_
 rw [e,Yk (by omega),Yi (by rw [intC_len];omega),show 0+4+i*1 - A.length=i by omega]
 exact Zbr h
theorem rv_frm {α:Type} {i:Nat} {v:Int} (h:V.frm[i]? = some v) {g:Cell->Option α}:Zf (rvC pc V bs x) ((0+8)+i*1) g=g (.int .i64 v):=by
 obtain ⟨A,B,e,hA,_⟩:=Zxk (bs:=bs) (x:=x) f hpc
 have hi:=Zs h
 refine Zak ?_
 rw [e,Yk (by omega),Yi (by rw [intC_len];omega),show 0+8+i*1 - A.length=i by omega]
 exact Zbr h
theorem Zvz {i:Nat} (hi:i<4) (v:Int):(rvC pc V bs x).set ((0+4)+i*1) (.int .i64 v)=rvC pc { V with mem:=V.mem.set i v } bs x:=by
 obtain ⟨A,B,e,hA,h2⟩:=Zww (bs:=bs) (x:=x) f hpc
 have:=f.mem
 rw [e,h2,Yad _ _ (by omega),Ybd _ _ (by rw [intC_len];omega),show 0+4+i*1 - A.length=i by omega]
 unfold intC
 rw [List.map_set]
theorem rv_setF {i:Nat} (hi:i<4) (v:Int):(rvC pc V bs x).set ((0+8)+i*1) (.int .i64 v)=rvC pc { V with frm:=V.frm.set i v } bs x:=by
 obtain ⟨A,B,e,hA,h2⟩:=Zxk (bs:=bs) (x:=x) f hpc
 have:=f.frm
 rw [e,h2,Yad _ _ (by omega),Ybd _ _ (by rw [intC_len];omega),show 0+8+i*1 - A.length=i by omega]
 unfold intC
 rw [List.map_set]
include hbs
theorem Zdm:(rvC pc V bs x).length=37:=by
 obtain ⟨A,hA,e⟩:=Zjw f hpc
 rw [e]
 simp only [Ye,hA,hbs,Yp,Yaa]
theorem Zfk {α:Type} {t:Nat} (ht:t<4) {g:Cell->Option α}:Zf (rvC pc V bs x) ((0+32)+t*1) g=g (bs.getD t .nils):=by
 obtain ⟨A,hA,e⟩:=Zjw f hpc
 refine Zak ?_
 rw [e,Yk (by omega),Yi (by omega),show 0+32+t*1 - A.length=t by omega,Yh,Ya (by omega)];rfl
theorem rv_setB {t:Nat} (ht:t<4) (c:Cell):(rvC pc V bs x).set ((0+32)+t*1) c=rvC pc V (bs.set t c) x:=by
 obtain ⟨A,hA,e⟩:=Zjw f hpc
 rw [e,e,Yad _ _ (by omega),Ybd _ _ (by omega),show 0+32+t*1 - A.length=t by omega]
theorem Znm {α:Type} {g:Cell->Option α}:Zf (rvC pc V bs x) (0+36) g=g x:=by
 obtain ⟨A,hA,e⟩:=Zjw f hpc
 refine Zak ?_
 rw [e,Yk (by omega),Yk (by omega),hA,hbs];rfl
theorem rv_setX (y:Cell):(rvC pc V bs x).set (0+36) y=rvC pc V bs y:=by
 obtain ⟨A,hA,e⟩:=Zjw f hpc
 rw [e,e,Yad _ _ (by omega),Yad _ _ (by omega),hA,hbs];rfl
end
structure RvAt (n:Nat) (h:Za) (k:Nat) (x:Cell) (bs pc:List Cell) (V:MV):Prop where
 hn:n<=h.length
 nk:n<=k
 prog:ProgAt (h.take n) pc V.P
 blk:blk? h k=some ⟨true,0,rvC pc V bs x⟩
 st:Own n h x 7 (Zba V.st) V.st.length
 sep:¬Zad x k
 bl:bs.length=4
 bf:∀t,t<4->Own n h (bs.getD t .nils) 3 (Zu (V.b t)) (V.b t).length/\¬Zad (bs.getD t .nils) k/\∀j,Zad (bs.getD t .nils) j->¬Zad x j
def Zib (V:MV) (i:Int):Bool:=decide (0<=i)&&V.may i.toNat
theorem mayI_nat (V:MV) (i:Nat):Zib V (i:Int)=V.may i:=by
 unfold Zib
 rw [decide_eq_true (by omega),Yb];rfl
theorem mayI_has (V:MV) (i:Int):Zib V i=Zra V.word i:=by
 unfold Zib Zra
 by_cases h0:0<=i
 ·rw [decide_eq_true h0,Yah,Yah,MV.word_bit]
  by_cases h:i<64
  ·rw [decide_eq_true h,Ybl]
  ·rw [decide_eq_false h,Yap,MV.may_out (by omega)]
 ·rw [decide_eq_false h0];rfl
theorem ent_loc {h:Za} {y:Cell} {l:List Ent} (o:SlAt h y 3 (Zu l) l.length) {i:Nat} {e:Ent} (hq:l[i]? = some e) {α:Type} {f:Cell->Option α} :
  (Zm 3 y (i:Int) fun k N o=>Zn h k N fun l=>Zf l (o+0) f)=f (.int .i64 e.loc):=o.get (Zs hq) (by omega) (by rw [Zif l i e hq 0 (by omega)];rfl)
theorem ent_val {h:Za} {y:Cell} {l:List Ent} (o:SlAt h y 3 (Zu l) l.length) {i:Nat} {e:Ent} (hq:l[i]? = some e) {α:Type} {f:Cell->Option α} :
  (Zm 3 y (i:Int) fun k N o=>Zn h k N fun l=>Zf l (o+1) f)=f (.int .i64 e.val):=o.get (Zs hq) (by omega) (by rw [Zif l i e hq 1 (by omega)];rfl)
theorem ent_id {h:Za} {y:Cell} {l:List Ent} (o:SlAt h y 3 (Zu l) l.length) {i:Nat} {e:Ent} (hq:l[i]? = some e) {α:Type} {f:Cell->Option α} :
  (Zm 3 y (i:Int) fun k N o=>Zn h k N fun l=>Zf l (o+2) f)=f (.int .i64 e.id):=o.get (Zs hq) (by omega) (by rw [Zif l i e hq 2 (by omega)];rfl)
section
variable {E:Env}
theorem Zoq (hE:q198_In E) {n k:Nat} {h:Za} {x:Cell} {bs pc:List Cell} {V:MV} (a:RvAt n h k x bs pc V) (f:V.Fit) {t:Nat} (ht:t<4) (loc:Int) (p:Ent->Bool) (hp:∀e,(decide (loc<0)||e.loc==loc)=p e) :
  R E 198 [.c (.ptr k 37 0),.c (.int .i64 (t:Int)),.c (.int .i64 loc)] h=some ([.c (.int .i64 (match (V.b t).findIdx? p with | some i=>(i:Int) | none=>-1))],h):=by
 refine Zd hE.fn ?_
 have hpc:=a.prog.len
 have hl:=Zdm (x:=x) f hpc a.bl
 have rd:∀{α:Type} {F:List Cell->Option α},Zn h k 37 F=F (rvC pc V bs x):=fun {α F}=>Zq a.blk hl
 have hr:0<=(t:Int)/\(t:Int)<((4:Nat):Int):=⟨by omega,by omega⟩
 have o:=(a.bf t ht).1.at
 have hbl:(V.b t).length<=24:=f.b _ (Yr (MV.b_at (by rw [f.bf];exact ht)))
 have hL:=Zwr (F:=q198_F1 (R E) Zx E.glob) (fun i=>q198_s1 k 37 0 (t:Int) loc (i:Int) h) (fun i=>q198_x1_0 (i:Int) h) (q198_x1_1 h) 0 (V.b t) p (fun i q hq=>by
  have hi:=Zs hq
  rw [q198_r1,if_pos hr,rd,Yb,Zfk f hpc a.bl ht,o.len,if_pos (by simp;omega)]
  simp only [rd,if_pos hr,Zfk f hpc a.bl ht,ent_loc o hq,asI_ok,scK_or]
  rw [hp q,Zr (by omega)]) (by rw [q198_r1,if_pos hr,rd,Yb,Zfk f hpc a.bl ht,o.len,if_neg (by simp)])
 have hL':Zx (q198_F1 (R E) Zx E.glob) (q198_s1 k 37 0 (t:Int) loc 0 h)=_:=hL
 rw [q198_eq,hL',bind_ok]
 cases (V.b t).findIdx? p with
 | none=>dsimp only;rw [q198_e1_1]
 | some i=>dsimp only;rw [q198_e1_0]
def Zky (m i:Int):Int × Int × Bool :=
 if m=2/\4<=i/\i<8 then (i - 4,-1,true) else if m=3/\8<=i/\i<24 then ((i - 8) / 4,(i - 8) % 4,true) else (0,0,false)
theorem Zlr (hE:q197_In E) {n k:Nat} {h:Za} {x:Cell} {bs pc:List Cell} {V:MV} (a:RvAt n h k x bs pc V) (f:V.Fit) (i:Int) :
  R E 197 [.c (.ptr k 37 0),.c (.int .i64 i)] h=some ([.c (.int .i64 (Zky V.m i).1),.c (.int .i64 (Zky V.m i).2.1),.c (.bool (Zky V.m i).2.2)],h):=by
 refine Zd hE.fn ?_
 have hpc:=a.prog.len
 have hl:=Zdm (x:=x) f hpc a.bl
 have rd:∀{α:Type} {F:List Cell->Option α},Zn h k 37 F=F (rvC pc V bs x):=fun {α F}=>Zq a.blk hl
 rw [q197_eq]
 simp only [rd,rv_m hpc,asI_ok,scK_and]
 unfold Zky
 by_cases h2:V.m=2/\4<=i/\i<8
 ·rw [if_pos (by simp;omega),if_pos h2,Zg (by omega) (by omega)]
 ·rw [if_neg (by simp;omega),if_neg h2]
  by_cases h3:V.m=3/\8<=i/\i<24
  ·rw [if_pos (by simp;omega),if_pos h3,Zg (by omega) (by omega),g_quo,g_rem,Int.tdiv_eq_ediv_of_nonneg (by omega),Int.tmod_eq_emod_of_nonneg (by omega),Zey (by omega) (by omega)]
  ·rw [if_neg (by simp;omega),if_neg h3]
theorem findIdx_some {l:List Ent} {p:Ent->Bool}:(decide ((match l.findIdx? p with | some i=>(i:Int) | none=>-1)>=0))=(l.find? p).isSome:=by
 cases hf:l.findIdx? p with
 | none =>
  rw [Yam] at hf
  have:l.find? p=none:=by
   rw [List.find?_eq_none]
   intro e he
   rw [hf e he];simp
  rw [this];rfl
 | some i =>
  obtain ⟨hi,hp,_⟩:=Yn.1 hf
  have:(l.find? p).isSome=true:=by rw [List.find?_isSome];exact ⟨_,Ycn hi,hp⟩
  rw [this]
  exact decide_eq_true (by dsimp only;omega)
theorem May_R (hE:q196_In E) {n k:Nat} {h:Za} {x:Cell} {bs pc:List Cell} {V:MV} (a:RvAt n h k x bs pc V) (f:V.Fit) (hg:V.P.good) (i:Int) :
  R E 196 [.c (.ptr k 37 0),.c (.int .i64 i)] h=some ([.c (.bool (Zib V i))],h):=by
 refine Zd hE.fn ?_
 have hpc:=a.prog.len
 have hl:=Zdm (x:=x) f hpc a.bl
 have rd:∀{α:Type} {F:List Cell->Option α},Zn h k 37 F=F (rvC pc V bs x):=fun {α F}=>Zq a.blk hl
 have p:=Zfo a.prog a.hn (Kp.refl n h)
 rw [q196_eq,scK_and]
 by_cases h4:0<=i/\i<4
 ·obtain ⟨t,rfl⟩:=Yq h4.1
  have ht:t<4:=by omega
  have hr:0<=(t:Int)/\(t:Int)<((4:Nat):Int):=⟨by omega,by omega⟩
  have hql:=MV.l_at (V:=V) (t:=t) (by rw [f.lc];exact ht)
  have o:=(a.bf t ht).1.at
  rw [if_pos (by simp;omega),rd,if_pos (by rw [hl];omega),if_pos hr,rd,Yb,if_pos (by rw [hl];omega),Zvd hpc,Zup f hpc hql,Zny hE.c81 hg p,qh_ok,c2_ok,asA_ok,asB_ok,if_pos (by exact ⟨rfl,rfl,rfl⟩)]
  simp only [ins_kind,asI_ok,scK_and,rd,if_pos hr,Zfk f hpc a.bl ht,o.len,scK_or]
  rw [mayI_nat]
  have hT:V.may t=match Zbx (V.P.code t) (V.l t) with | none=>false | some i=>!(i.kind==3||i.kind==4)||(V.b t).length==0:=by
   unfold MV.may;rw [if_pos ht];rfl
  rw [hT]
  cases hn:Zbx (V.P.code t) (V.l t) with
  | none=>rfl
  | some q =>
   dsimp only [Yaz,Option.isSome_some]
   have e:((((V.b t).length:Nat):Int)==0)=((V.b t).length==0):=by rw [Ys,beq_iff_eq,beq_iff_eq];omega
   rw [e,Yah]
   have:(q.kind != 3&&q.kind != 4)=!(q.kind==3||q.kind==4):=by cases h3:(q.kind==3)<;>cases h4:(q.kind==4)<;>simp [bne,h3,h4]
   rw [this]
 ·rw [if_neg (by simp;omega),Zlr hE.c197 a f,c3_ok,asI_ok,asI_ok,asB_ok]
  unfold Zky
  by_cases h2:V.m=2/\4<=i/\i<8
  ·rw [if_pos h2]
   obtain ⟨t,rfl⟩:=Yq (show 0<=i by omega)
   dsimp only
   rw [scK_ok,show ((t:Int) - 4)=((t - 4:Nat):Int) by omega,Zoq hE.c198 a f (by omega) (-1) (Zcy 2 0) (fun e=>rfl),c1_ok,asI_ok,findIdx_some,bind_ok]
   dsimp only
   rw [mayI_nat]
   congr 4
   unfold MV.may MV.mayF
   rw [if_neg (by omega),if_pos (by omega),h2.1]
   cases V.b (t - 4) with
   | nil=>rfl
   | cons e l=>rfl
  ·rw [if_neg h2]
   by_cases h3:V.m=3/\8<=i/\i<24
   ·rw [if_pos h3]
    obtain ⟨t,rfl⟩:=Yq (show 0<=i by omega)
    dsimp only
    rw [scK_ok,show (((t:Int) - 8) / 4)=(((t - 8) / 4:Nat):Int) by omega,show (((t:Int) - 8) % 4)=(((t - 8) % 4:Nat):Int) by omega,Zoq hE.c198 a f (by omega) _ (Zcy 3 (((t - 8) % 4:Nat):Int)) (fun e=>by rw [decide_eq_false (by omega)];rfl),c1_ok,asI_ok,findIdx_some,bind_ok]
    dsimp only
    rw [mayI_nat]
    congr 4
    unfold MV.may MV.mayL
    rw [if_neg (by omega),if_neg (by omega),if_pos (by omega),h3.1]
    rfl
   ·rw [if_neg h3]
    dsimp only
    rw [scK_ft]
    congr 4
    unfold Zib
    by_cases h0:0<=i
    ·rw [decide_eq_true h0,Yah]
     have hm:=f.m
     unfold MV.may MV.mayF MV.mayL
     rw [if_neg (by omega)]
     by_cases h8:i.toNat<8
     ·rw [if_pos h8,beq_false_of_ne (by omega)];rfl
     ·rw [if_neg h8]
      by_cases h24:i.toNat<24
      ·rw [if_pos h24,beq_false_of_ne (by omega)];rfl
      ·rw [if_neg h24]
    ·rw [decide_eq_false h0];rfl
end
theorem ents_at {l:List Ent} {i:Nat} {e:Ent} (h:l[i]? = some e):((Zu l).drop (i*3)).take 3=e.cs:=by
 unfold Zu
 rw [Zhe h]
 exact Zkn (Zfq (f:=Ent.cs) (n:=3) (fun _ _=>rfl) (Yan (Zs h))) rfl
theorem rd0G {α:Type} {h:Za} {k N:Nat} {l:List Cell} (hb:blk? h k=some ⟨true,0,l⟩) (hl:l.length=N) {F:List Cell->Option α}:rd0 h k N F=F l:=by
 unfold rd0
 rw [hb,Ybp,if_pos rfl]
 exact Zq hb hl
theorem Own.via {n:Nat} {h h':Za} {y:Cell} {esz len:Nat} {cs:List Cell} (o:Own n h y esz cs len) (hf:∀j b,Zad y j->blk? h j=some b->blk? h' j=some b):Own n h' y esz cs len:=by
 refine ⟨o.1,o.2.imp id ?_⟩
 rintro ⟨j,rfl,h1,h2⟩
 exact ⟨j,rfl,h1,hf j _ rfl h2⟩
theorem flu_data {V:MV} {i:Nat} (h4:¬i<4) (hi:V.may i=true):∃(t:Nat) (loc:Int) (p:Ent->Bool) (e:Ent),t<4/\(∀e,(decide (loc<0)||e.loc==loc)=p e)/\Zky V.m i=((t:Int),loc,true)/\(V.b t).find? p=some e/\V.stp i=⟨i,t,6,e.loc,0,e.val,e.id⟩ /\
  (V.nx i)={ V with bf:=V.bf.set t ((V.b t).eraseP p),mem:=V.mem.set e.loc.toNat e.val,frm:=V.frm.set e.loc.toNat e.id,st:=V.st++[V.stp i] }:=by
 have h24:=MV.may_lt hi
 have key:∀(t:Nat) (loc:Int) (e:Ent),(V.b t).find? (Zcy (Zbd V.m) loc)=some e->V.stp i={ V.fluS t loc with pick:=i }->V.nx i={ V.fluM t loc with st:=V.st++[V.stp i] } ->
   V.stp i=⟨i,t,6,e.loc,0,e.val,e.id⟩/\(V.nx i)={ V with bf:=V.bf.set t ((V.b t).eraseP (Zcy (Zbd V.m) loc)),mem:=V.mem.set e.loc.toNat e.val,frm:=V.frm.set e.loc.toNat e.id,st:=V.st++[V.stp i] }:=by
  intro t loc e he e1 e2
  have hee:V.fluE t loc=e:=by unfold MV.fluE;rw [he];rfl
  refine ⟨?_,?_⟩
  ·rw [e1];unfold MV.fluS;rw [hee]
  ·rw [e2];unfold MV.fluM;rw [hee]
 by_cases h8:i<8
 ·have hi':=hi
  unfold MV.may MV.mayF at hi'
  rw [if_neg h4,if_pos h8,Yd] at hi'
  have hm2:V.m=2:=beq_iff_eq.1 hi'.1
  have hne:(V.b (i - 4)).length≠0:=by simpa using hi'.2
  obtain ⟨e,he⟩:∃e,(V.b (i - 4)).find? (Zcy (Zbd V.m) 0)=some e:=by
   rw [hm2]
   cases hbb:V.b (i - 4) with
   | nil=>rw [hbb] at hne;exact absurd rfl hne
   | cons e l=>exact ⟨e,rfl⟩
  obtain ⟨k1,k2⟩:=key (i - 4) 0 e he (by unfold MV.stp;rw [if_neg h4,if_pos h8]) (by unfold MV.nx;rw [if_neg h4,if_pos h8])
  refine ⟨i - 4,-1,Zcy (Zbd V.m) 0,e,by omega,fun e=>by rw [hm2];rfl,?_,he,k1,k2⟩
  unfold Zky
  rw [if_pos ⟨hm2,by omega,by omega⟩,show ((i:Int) - 4)=((i - 4:Nat):Int) by omega]
 ·have hi':=hi
  unfold MV.may MV.mayL at hi'
  rw [if_neg h4,if_neg h8,if_pos h24,Yd] at hi'
  have hm3:V.m=3:=beq_iff_eq.1 hi'.1
  obtain ⟨e,he⟩:=Ybr.1 hi'.2
  have he':(V.b ((i - 8) / 4)).find? (Zcy (Zbd V.m) (((i - 8) % 4:Nat):Int))=some e:=by rw [hm3];exact he
  obtain ⟨k1,k2⟩:=key ((i - 8) / 4) _ e he' (by unfold MV.stp;rw [if_neg h4,if_neg h8]) (by unfold MV.nx;rw [if_neg h4,if_neg h8])
  refine ⟨(i - 8) / 4,(((i - 8) % 4:Nat):Int),_,e,by omega,fun e=>?_,?_,he',k1,k2⟩
  ·rw [decide_eq_false (by omega),hm3];rfl
  ·unfold Zky
   rw [if_neg (by omega),if_pos ⟨hm3,by omega,by omega⟩,show (((i:Int) - 8) / 4)=(((i - 8) / 4:Nat):Int) by omega,show (((i:Int) - 8) % 4)=(((i - 8) % 4:Nat):Int) by omega]
theorem Zq724 {l:List Ent} {p:Ent->Bool} {e:Ent} (he:l.find? p=some e):∃j,l.findIdx? p=some j/\l[j]? = some e/\l.eraseP p=l.take j++l.drop (j+1):=by
 obtain ⟨j,hj⟩:∃j,l.findIdx? p=some j:=by
  cases hx:l.findIdx? p with
  | some j=>exact ⟨j,rfl⟩
  | none =>
   rw [Yam] at hx
   have:=hx e (Yo he)
   rw [Ybe he] at this;cases this
 obtain ⟨h1,h2,h3⟩:=Yn.1 hj
 have hfi:l.find? p=some l[j]:=by
  rw [Ybf]
  exact ⟨h2,j,h1,rfl,fun k hk=>by have:=h3 k hk;simpa using this⟩
 rw [hfi] at he
 refine ⟨j,hj,by rw [Ya h1];exact he,?_⟩
 rw [Ybs,hj]
 exact Ybc _ _
section
variable {E:Env}
theorem rv_push {n k:Nat} {h:Za} {x:Cell} {bs pc:List Cell} {W:MV} (b:blk? h k=some ⟨true,0,rvC pc W bs x⟩) (f:W.Fit) (hpc:pc.length=3) (bl:bs.length=4) (hn:n<=h.length) (nk:n<=k) (prog:ProgAt (h.take n) pc W.P) (st:Own n h x 7 (Zba W.st) W.st.length) (sep:¬Zad x k)
  (bf:∀t,t<4->Own n h (bs.getD t .nils) 3 (Zu (W.b t)) (W.b t).length/\¬Zad (bs.getD t .nils) k/\∀j,Zad (bs.getD t .nils) j->¬Zad x j) (hst:W.st.length<100000) (s:Stp) :
  ∃x' h',(∀{α:Type} (F:Za->Option α),(Zaq 7 56 x s.cs h fun x_57 h_58=>Zn h_58 k 37 fun l_59=>if (0+36)<l_59.length then Zbh h_58 k (l_59.set (0+36) x_57) F else none)=F h') /\
   RvAt n h' k x' bs pc { W with st:=W.st++[s] }/\Kp n h h'/\(∀j b,blk? h j=some b->j≠k->¬Zad x j->blk? h' j=some b/\¬Zad x' j):=by
 have hb:maxBytes>=200000*56:=by unfold maxBytes;omega
 obtain ⟨x',h',e1,o1,k1,r1⟩:=st.app (bytes:=56) hn (Zhn s) (by omega) (by omega) (by omega)
 obtain ⟨c1,c2⟩:=r1 k _ b sep
 have hl:=Zdm (x:=x) f hpc bl
 have kp2:Kp n h (setBlk h' k (some ⟨true,0,rvC pc W bs x'⟩)):=k1.trans (Kp.set nk _)
 have fr:∀j b,blk? h j=some b->j≠k->¬Zad x j->blk? (setBlk h' k (some ⟨true,0,rvC pc W bs x'⟩)) j=some b/\¬Zad x' j:=fun j b hj hne hnx=>by
  obtain ⟨d1,d2⟩:=r1 j b hj hnx
  exact ⟨by rw [Zbc (fun e=>hne e.symm)];exact d1,d2⟩
 refine ⟨x',setBlk h' k (some ⟨true,0,rvC pc W bs x'⟩),fun F=>?_,⟨Yy hn kp2.1,nk,?_,Zac (Zar c1) _,?_,c2,bl,fun t ht=>?_⟩,kp2,fr⟩
 ·rw [e1,Zq c1 hl,if_pos (by rw [hl];omega),rv_setX f hpc bl,Zhl c1]
 ·rw [Zgv kp2];exact prog
 ·show Own n _ x' 7 (Zba (W.st++[s])) (W.st++[s]).length
  rw [Zoy,Ye,Yj]
  exact o1.setO c2 _
 ·obtain ⟨b1,b2,b3⟩:=bf t ht
  have hj:∀j b,Zad (bs.getD t .nils) j->blk? h j=some b->blk? (setBlk h' k (some ⟨true,0,rvC pc W bs x'⟩)) j=some b/\¬Zad x' j:=fun j b q1 q2=>fr j b q2 (fun e=>b2 (e ▸ q1)) (b3 j q1)
  refine ⟨b1.via fun j b q1 q2=>(hj j b q1 q2).1,b2,fun j q=>?_⟩
  obtain ⟨_,hlt⟩:=b1.blkLt' q
  rcases b1.2 with ⟨e,_⟩ | ⟨j',e,_,hbb⟩
  ·rw [e] at q;exact absurd q (by simp [Zad])
  ·have:j'=j:=by rw [e] at q;exact q
   subst this
   exact (hj j' _ q hbb).2
set_option maxHeartbeats 2000000 in
theorem rFlush (hE:q182_In E) {n k:Nat} {h:Za} {x:Cell} {bs pc:List Cell} {V:MV} (a:RvAt n h k x bs pc V) (v:V.Inv) (hst:V.st.length<100000) {i:Int} {t:Nat} (ht:t<4) {loc:Int} {p:Ent->Bool} {e:Ent}
  (hp:∀e,(decide (loc<0)||e.loc==loc)=p e) (hf:(V.b t).find? p=some e) (z:List Cell) (hz:z.length=7) :
  ∃x' bs' h',(q182_k6 (R E) Zx E.glob) .normal (q182_c5 k 37 0 i V.st.length (t:Int) loc true z (Stp.cs ⟨i,i,0,0,0,0,-1⟩) h)=some (.ret,q182_c4_0 true (Stp.cs ⟨i,t,6,e.loc,0,e.val,e.id⟩) h') /\
   RvAt n h' k x' bs' pc { V with bf:=V.bf.set t ((V.b t).eraseP p),mem:=V.mem.set e.loc.toNat e.val,frm:=V.frm.set e.loc.toNat e.id,st:=V.st++[⟨i,t,6,e.loc,0,e.val,e.id⟩] }/\KpV n k x x' h h':=by
 have f:=v.fit
 have hpc:=a.prog.len
 have hl:=Zdm (x:=x) f hpc a.bl
 have hr:0<=(t:Int)/\(t:Int)<((4:Nat):Int):=⟨by omega,by omega⟩
 have hk:k<h.length:=Zar a.blk
 have hbl:=v.blen ht
 obtain ⟨j,hj,hje,her⟩:=Zq724 hf
 have hjl:=Zs hje
 have hel:=v.mem_b (Yr hje)
 have hel':0<=e.loc/\e.loc<((4:Nat):Int):=⟨hel.1,by omega⟩
 have he4:e.loc.toNat<4:=by omega
 have hM:maxBytes>=1000*24:=by unfold maxBytes;omega
 obtain ⟨b1,b2,b3⟩:=a.bf t ht
 have kA:Kp h.length h (h++[some ⟨true,3,([]:List Cell)⟩]):=Kp.app _ (Yf _)
 obtain ⟨⟨xa,ea1,ea2⟩,_⟩:=(b1.keepK kA).slc (by omega) (a:=j) (by omega)
 have tk:=Ztm (V.b t) j
 rw [Yak (by omega)] at tk
 rw [tk.1] at ea2
 have lenA:(Zu ((V.b t).take j)).length=j*3:=by rw [entsC_len,Yt,Yak (by omega)]
 have kB:Kp h.length h (h++[some ⟨true,3,Zu ((V.b t).take j)⟩]):=Kp.app _ (Yf _)
 have oB:Own h.length (h++[some ⟨true,3,Zu ((V.b t).take j)⟩]) (.sl h.length (Zu ((V.b t).take j)).length 0 j) 3 (Zu ((V.b t).take j)) j:=⟨lenA,.inr ⟨h.length,rfl,Yf _,Zaa _ _⟩⟩
 obtain ⟨_,⟨xb,eb1,eb2⟩⟩:=(b1.keepK kB).slc (by omega) (a:=j+1) (by omega)
 have tk2:=Ztm (V.b t) (j+1)
 rw [Yak (by omega)] at tk2
 rw [tk2.2] at eb2
 have lenB:(Zu ((V.b t).drop (j+1))).length=((V.b t).length - (j+1))*3:=by rw [entsC_len,Yai]
 obtain ⟨x3,h3,e3,o3,k3,_⟩:=oB.appN (bytes:=24) (by simp) lenB (by omega) (by omega) (by omega)
 have kC:Kp h.length h h3:=kB.trans k3
 have nl:((V.b t).eraseP p).length=j+((V.b t).length - (j+1)):=by rw [her,Ye,Yt,Yai,Yak (by omega)]
 have o3':Own h.length h3 x3 3 (Zu ((V.b t).eraseP p)) ((V.b t).eraseP p).length:=by rw [nl,her,Zeu];exact o3
 have bk3:blk? h3 k=some ⟨true,0,rvC pc V bs x⟩:=by rw [kC.blk hk];exact a.blk
 have bl':(bs.set t x3).length=4:=by rw [Yl];exact a.bl
 have el24:((V.b t).eraseP p).length<=24:=by omega
 have f1:MV.Fit { V with bf:=V.bf.set t ((V.b t).eraseP p) }:=⟨f.m,f.lc,f.mem,f.frm,by rw [Yl];exact f.bf,fun l hl=>by
  rcases Ybo hl with hl | rfl
  ·exact f.b l hl
  ·exact el24⟩
 have f2:MV.Fit { V with bf:=V.bf.set t ((V.b t).eraseP p),mem:=V.mem.set e.loc.toNat e.val }:=⟨f1.m,f1.lc,by rw [Yl];exact f1.mem,f1.frm,f1.bf,f1.b⟩
 have f3:MV.Fit { V with bf:=V.bf.set t ((V.b t).eraseP p),mem:=V.mem.set e.loc.toNat e.val,frm:=V.frm.set e.loc.toNat e.id }:=⟨f2.m,f2.lc,f2.mem,by rw [Yl];exact f2.frm,f2.bf,f2.b⟩
 have hbW:∀(t':Nat),(MV.mk V.P V.m V.lc (V.mem.set e.loc.toNat e.val) (V.frm.set e.loc.toNat e.id) (V.bf.set t ((V.b t).eraseP p)) V.st).b t'=if t'=t then (V.b t).eraseP p else V.b t':=fun t'=>by
  show (V.bf.set t _).getD t' []=_
  rw [Zea (by rw [f.bf];exact ht)];rfl
 have k3l:k<h3.length:=Zar bk3
 have bw:∀l,blk? (setBlk h3 k (some ⟨true,0,l⟩)) k=some ⟨true,0,l⟩:=fun l=>Zac k3l _
 have kD:∀b,Kp n h (setBlk h3 k b):=fun b=>(kC.mono a.hn).trans (Kp.set a.nk b)
 have xlt:∀j,Zad x j->j<h.length:=fun j q=>(a.st.blkLt' q).2
 obtain ⟨x',h',e9,r9,k9,fr9⟩:=rv_push (W:={ V with bf:=V.bf.set t ((V.b t).eraseP p),mem:=V.mem.set e.loc.toNat e.val,frm:=V.frm.set e.loc.toNat e.id }) (bs:=bs.set t x3) (bw _) f3 hpc bl' (Yy a.hn (kD _).1) a.nk (by rw [Zgv (kD _)];exact a.prog)
  ((a.st.keepK kC).setO a.sep _) a.sep (fun t' ht'=>by
   rw [hbW,Zea (by rw [a.bl];exact ht)]
   by_cases e:t'=t
   ·rw [if_pos e,if_pos e]
    have nk3:¬Zad x3 k:=fun q=>by have:=(o3.blkLt q).2;omega
    exact ⟨(o3'.monoN a.hn).setO nk3 _,nk3,fun j q1 q2=>by have:=(o3.blkLt q1).2;have:=xlt j q2;omega⟩
   ·rw [if_neg e,if_neg e]
    obtain ⟨q1,q2,q3⟩:=a.bf t' ht'
    exact ⟨(q1.keepK kC).setO q2 _,q2,q3⟩) hst ⟨i,t,6,e.loc,0,e.val,e.id⟩
 refine ⟨x',bs.set t x3,h',?_,r9,⟨(kD _).trans k9,fun j b hj hne hnx=>fr9 j b (by rw [Zbc (fun e=>hne e.symm),kC.blk (Zar hj)];exact hj) hne hnx⟩⟩
 have rd:∀{α:Type} {F:List Cell->Option α},Zn h k 37 F=F (rvC pc V bs x):=fun {α F}=>Zq a.blk hl
 have bA:blk? (h++[some ⟨true,3,([]:List Cell)⟩]) k=some ⟨true,0,rvC pc V bs x⟩:=Zfn a.blk _
 have bB:blk? (h++[some ⟨true,3,Zu ((V.b t).take j)⟩]) k=some ⟨true,0,rvC pc V bs x⟩:=Zfn a.blk _
 have rdW:∀(W:MV) (fW:W.Fit) {α:Type} {F:List Cell->Option α},Zn (setBlk h3 k (some ⟨true,0,rvC pc W (bs.set t x3) x⟩)) k 37 F=F (rvC pc W (bs.set t x3) x):=fun W fW {α F}=>Zq (bw _) (Zdm (x:=x) fW hpc bl')
 obtain ⟨off,cs',g1,g2,g3⟩:=b1.at.elG hjl
 rw [ents_at hje] at g3
 have ca0:∀{α:Type} {g:Cell->Option α},Zf e.cs 0 g=g (.int .i64 e.loc):=rfl
 have ca1:∀{α:Type} {g:Cell->Option α},Zf e.cs 1 g=g (.int .i64 e.val):=rfl
 have ca2:∀{α:Type} {g:Cell->Option α},Zf e.cs 2 g=g (.int .i64 e.id):=rfl
 rw [q182_ec5_n,if_pos rfl,Zoq hE.c198 a f ht loc p hp,c1_ok,asI_ok,hj,bind_ok]
 dsimp only
 rw [q182_ec6_n,if_pos hr,rd,Yb,Zfk f hpc a.bl ht,g1,if_pos g2,g3,if_pos (by exact ⟨rfl,rfl,rfl⟩),bind_ok]
 dsimp only
 rw [q182_ec7_n,if_pos (by rfl),if_pos hr,Yb,rd0G bA hl,Zfk f hpc a.bl ht,ea1,ea2,bind_ok,show ([]:List Cell).length=0 from rfl,Zln (len:=j) (by omega) lenA (by omega) (by omega),if_pos hr,rd0G bB hl,Zfk f hpc a.bl ht,Zr (by omega),eb1,eb2,bind_ok,e3,if_pos hr,Zq bk3 hl,if_pos (by rw [hl];omega),rv_setB f hpc a.bl ht,Zhl bk3,bind_ok]
 dsimp only
 rw [q182_ec8_n,ca0,asI_ok,ca0,asI_ok,ca1,asI_ok,ca2,asI_ok]
 have e1:rvC pc V (bs.set t x3) x=rvC pc { V with bf:=V.bf.set t ((V.b t).eraseP p) } (bs.set t x3) x:=rfl
 rw [e1,if_pos hel',rdW _ f1,if_pos (by rw [Zdm (x:=x) f1 hpc bl'];omega),Zvz f1 hpc he4,Zhl (bw _),setBlk_set,if_pos hel',rdW _ f2,if_pos (by rw [Zdm (x:=x) f2 hpc bl'];omega),rv_setF f2 hpc he4,Zhl (bw _),setBlk_set,bind_ok]
 dsimp only
 rw [q182_ec9_n,ca0,asI_ok,ca1,asI_ok,ca2,asI_ok,if_pos (by exact (by decide:1<7)),if_pos (by exact (by decide:2<7)),if_pos (by exact (by decide:3<7)),if_pos (by exact (by decide:5<7)),if_pos (by exact (by decide:6<7)),bind_ok]
 dsimp only
 have eS:((((((Stp.cs ⟨i,i,0,0,0,0,-1⟩).set 1 (.int .i64 (t:Int))).set 2 (.int .i64 6)).set 3 (.int .i64 e.loc)).set 5 (.int .i64 e.val)).set 6 (.int .i64 e.id))=Stp.cs ⟨i,t,6,e.loc,0,e.val,e.id⟩:=rfl
 have s7':∀s:Stp,splice (Yc 7 ci0) 0 s.cs=s.cs:=fun _=>rfl
 rw [eS,q182_ec10_n,rdW _ f3,Znm f3 hpc bl',if_pos (by exact ⟨rfl,rfl⟩),if_pos (by exact ⟨rfl,by decide⟩),s7',if_pos (by exact rfl),e9,if_pos (by exact ⟨rfl,rfl⟩),if_pos (by exact ⟨rfl,hz,rfl⟩)]
end
theorem wr_fit {V:MV} (v:V.Inv) {i:Nat} (e:Evt) (hb:(V.b i).length<24):(V.wr i e).Fit:=by
 have f:=v.fit
 unfold MV.wr
 split
 ·refine ⟨f.m,f.lc,f.mem,f.frm,by rw [Yl];exact f.bf,fun l hl=>?_⟩
  rcases Ybo hl with hl | rfl
  ·exact f.b l hl
  ·rw [Ye,Yj];omega
 ·split
  ·exact ⟨f.m,f.lc,by rw [Yl];exact f.mem,by rw [Yl];exact f.frm,f.bf,f.b⟩
  ·exact f
section
variable {E:Env}
set_option maxHeartbeats 1000000 in
theorem rWrite {n k:Nat} {h:Za} {x:Cell} {bs pc:List Cell} {V:MV} (a:RvAt n h k x bs pc V) (v:V.Inv) {i:Nat} (hi:i<4) (hb:(V.b i).length<24) (e:Evt) (he:0<=e.loc/\e.loc<4) (he45:e.kind=2∨e.kind=4∨Zqh e=false) (a15:Int) (z s1:List Cell) :
  ∃bs' h',(q182_k25 (R E) Zx E.glob) .normal (q182_c20 k 37 0 (i:Int) V.st.length a15 (e.kind==4||(e.kind==2&&V.m==1)) z s1 e.cs h)=some (.normal,q182_c19 k 37 0 (i:Int) a15 z s1 h') /\
   blk? h' k=some ⟨true,0,rvC pc (V.wr i e) bs' x⟩/\bs'.length=4/\(∀t,t<4->Own n h' (bs'.getD t .nils) 3 (Zu ((V.wr i e).b t)) ((V.wr i e).b t).length/\¬Zad (bs'.getD t .nils) k/\∀j,Zad (bs'.getD t .nils) j->¬Zad x j) /\
   Kp n h h'/\(∀j b,blk? h j=some b->j≠k->blk? h' j=some b):=by
 have f:=v.fit
 have hpc:=a.prog.len
 have hl:=Zdm (x:=x) f hpc a.bl
 have hr:0<=(i:Int)/\(i:Int)<((4:Nat):Int):=⟨by omega,by omega⟩
 have hk:k<h.length:=Zar a.blk
 have hel':0<=e.loc/\e.loc<((4:Nat):Int):=⟨he.1,by omega⟩
 have he4:e.loc.toNat<4:=by omega
 have hM:maxBytes>=1000*24:=by unfold maxBytes;omega
 have rd:∀{α:Type} {F:List Cell->Option α},Zn h k 37 F=F (rvC pc V bs x):=fun {α F}=>Zq a.blk hl
 have bw:∀l,blk? (setBlk h k (some ⟨true,0,l⟩)) k=some ⟨true,0,l⟩:=fun l=>Zac hk _
 have xlt:∀j,Zad x j->j<h.length:=fun j q=>(a.st.blkLt' q).2
 rw [q182_ec20_n]
 by_cases hmem:e.kind=4∨(e.kind=2/\V.m=1)
 ·rw [if_pos (by rw [Ym,Yd,beq_iff_eq,beq_iff_eq,beq_iff_eq];exact hmem)]
  have hw:V.wr i e={ V with mem:=V.mem.set e.loc.toNat e.w,frm:=V.frm.set e.loc.toNat V.st.length }:=by
   unfold MV.wr
   rw [if_neg (by omega),if_pos (by unfold Zqh;rw [Ym,beq_iff_eq,beq_iff_eq];omega)]
  rw [hw]
  have f1:MV.Fit { V with mem:=V.mem.set e.loc.toNat e.w }:=⟨f.m,f.lc,by rw [Yl];exact f.mem,f.frm,f.bf,f.b⟩
  have rd1:∀{α:Type} {F:List Cell->Option α},Zn (setBlk h k (some ⟨true,0,rvC pc { V with mem:=V.mem.set e.loc.toNat e.w } bs x⟩)) k 37 F=F (rvC pc { V with mem:=V.mem.set e.loc.toNat e.w } bs x):=fun {α F}=>Zq (bw _) (Zdm (x:=x) f1 hpc a.bl)
  refine ⟨bs,setBlk h k (some ⟨true,0,rvC pc { V with mem:=V.mem.set e.loc.toNat e.w,frm:=V.frm.set e.loc.toNat V.st.length } bs x⟩),?_,bw _,a.bl,fun t ht=>?_,Kp.set a.nk _,fun j b hj hne=>by rw [Zbc (fun e=>hne e.symm)];exact hj⟩
  ·rw [evt_loc,asI_ok,evt_loc,asI_ok,evt_w,asI_ok,if_pos hel',rd,if_pos (by rw [hl];omega),Zvz f hpc he4,Zhl a.blk,if_pos hel',rd1,if_pos (by rw [Zdm (x:=x) f1 hpc a.bl];omega),rv_setF f1 hpc he4,Zhl (bw _),setBlk_set]
  ·obtain ⟨q1,q2,q3⟩:=a.bf t ht
   exact ⟨q1.setO q2 _,q2,q3⟩
 ·rw [if_neg (by rw [Ym,Yd,beq_iff_eq,beq_iff_eq,beq_iff_eq];exact hmem),evt_kind,asI_ok,bind_ok]
  dsimp only
  rw [q182_ec21_n]
  by_cases h2:e.kind=2
  ·have hm1:V.m≠1:=fun q=>hmem (.inr ⟨h2,q⟩)
   have hw:V.wr i e={ V with bf:=V.bf.set i (V.b i++[⟨e.loc,e.w,V.st.length⟩]) }:=by
    unfold MV.wr
    rw [if_pos ⟨h2,hm1⟩]
   rw [hw]
   obtain ⟨b1,b2,b3⟩:=a.bf i hi
   have kA:Kp h.length h (h++[some ⟨true,3,([]:List Cell)⟩]):=Kp.app _ (Yf _)
   have cl:=(b1.keepK kA).at.cellsG
   have lenA:(Zu (V.b i)).length=(V.b i).length*3:=entsC_len _
   have oB:Own h.length (h++[some ⟨true,3,Zu (V.b i)⟩]) (.sl h.length (Zu (V.b i)).length 0 (V.b i).length) 3 (Zu (V.b i)) (V.b i).length:=⟨lenA,.inr ⟨h.length,rfl,Yf _,Zaa _ _⟩⟩
   have kB:Kp h.length h (h++[some ⟨true,3,Zu (V.b i)⟩]):=Kp.app _ (Yf _)
   obtain ⟨x3,h3,e3,o3,k3,_⟩:=oB.app (bytes:=24) (xs:=Ent.cs ⟨e.loc,e.w,V.st.length⟩) (by simp) rfl (by omega) (by omega) (by omega)
   have kC:Kp h.length h h3:=kB.trans k3
   have o3':Own h.length h3 x3 3 (Zu (V.b i++[⟨e.loc,e.w,V.st.length⟩])) (V.b i++[(⟨e.loc,e.w,V.st.length⟩:Ent)]).length:=by
    rw [Zeu,Ye,Yj];exact o3
   have bk3:blk? h3 k=some ⟨true,0,rvC pc V bs x⟩:=by rw [kC.blk hk];exact a.blk
   have k3l:k<h3.length:=Zar bk3
   have bA:blk? (h++[some ⟨true,3,([]:List Cell)⟩]) k=some ⟨true,0,rvC pc V bs x⟩:=Zfn a.blk _
   have nk3:¬Zad x3 k:=fun q=>by have:=(o3.blkLt q).2;omega
   refine ⟨bs.set i x3,setBlk h3 k (some ⟨true,0,rvC pc V (bs.set i x3) x⟩),?_,Zac k3l _,by rw [Yl];exact a.bl,fun t ht=>?_,(kC.mono a.hn).trans (Kp.set a.nk _),fun j b hj hne=>by rw [Zbc (fun e=>hne e.symm),kC.blk (Zar hj)];exact hj⟩
   ·rw [if_pos (by rw [beq_iff_eq];exact h2),if_pos (by rfl),if_pos hr,rd0G bA hl,Yb,Zfk f hpc a.bl hi,cl,bind_ok,show ([]:List Cell).length=0 from rfl,Zln (len:=(V.b i).length) (by omega) lenA (by omega) (by omega),evt_loc,asI_ok,evt_w,asI_ok,if_pos (by exact ⟨rfl,by decide⟩),if_pos (by rfl)]
    have eE:splice [ci0,ci0,ci0] 0 (splice (splice (splice [ci0,ci0,ci0] 0 [(.int .i64 e.loc)]) 1 [(.int .i64 e.w)]) 2 [(.int .i64 (V.st.length:Int))])=Ent.cs ⟨e.loc,e.w,V.st.length⟩:=rfl
    rw [eE,e3,if_pos hr,Zq bk3 hl,if_pos (by rw [hl];omega),rv_setB f hpc a.bl hi,Zhl bk3]
   ·have hbW:(MV.mk V.P V.m V.lc V.mem V.frm (V.bf.set i (V.b i++[⟨e.loc,e.w,V.st.length⟩])) V.st).b t=if t=i then V.b i++[⟨e.loc,e.w,V.st.length⟩] else V.b t:=by
     show (V.bf.set i _).getD t []=_
     rw [Zea (by rw [f.bf];exact hi)];rfl
    rw [hbW,Zea (by rw [a.bl];exact hi)]
    by_cases q:t=i
    ·rw [if_pos q,if_pos q]
     exact ⟨(o3'.monoN a.hn).setO nk3 _,nk3,fun j q1 q2=>by have:=(o3.blkLt q1).2;have:=xlt j q2;omega⟩
    ·rw [if_neg q,if_neg q]
     obtain ⟨q1,q2,q3⟩:=a.bf t ht
     exact ⟨(q1.keepK kC).setO q2 _,q2,q3⟩
  ·have hw:V.wr i e=V:=by
    unfold MV.wr
    have:Zqh e=false:=by
     rcases he45 with q | q | q
     ·exact absurd q h2
     ·exact absurd (.inl q) hmem
     ·exact q
    rw [if_neg (fun c=>h2 c.1),this];rfl
   rw [hw]
   exact ⟨bs,h,by rw [if_neg (by rw [beq_iff_eq];exact h2)],a.blk,a.bl,a.bf,Kp.refl _ _,fun j b hj _=>hj⟩
theorem rRead {n k:Nat} {h:Za} {x:Cell} {bs pc:List Cell} {V:MV} (a:RvAt n h k x bs pc V) (f:V.Fit) {i:Nat} (hi:i<4) {q:Ins} (hq:0<=q.loc/\q.loc<4) (n6:Int) (z:List Cell) :
  (q182_k14 (R E) Zx E.glob) .normal (q182_c13 k 37 0 (i:Int) n6 0 (rdI q) z (Stp.cs ⟨i,i,0,0,0,0,-1⟩) q.cs h) =
   some (.normal,q182_c12 k 37 0 (i:Int) n6 (if rdI q=true then (V.val i q).1 else 0) z (Stp.cs ⟨i,i,0,0,0,0,if rdI q=true then (V.val i q).2 else -1⟩) q.cs h):=by
 have hpc:=a.prog.len
 have hl:=Zdm (x:=x) f hpc a.bl
 have hr:0<=(i:Int)/\(i:Int)<((4:Nat):Int):=⟨by omega,by omega⟩
 have rd:∀{α:Type} {F:List Cell->Option α},Zn h k 37 F=F (rvC pc V bs x):=fun {α F}=>Zq a.blk hl
 have hql:0<=q.loc/\q.loc<((4:Nat):Int):=⟨hq.1,by omega⟩
 have hq4:q.loc.toNat<4:=by omega
 have hmem:V.mem[q.loc.toNat]? = some (V.mem.getD q.loc.toNat 0):=by
  rw [Yh,Ya (by rw [f.mem];exact hq4)];rfl
 have hfrm:V.frm[q.loc.toNat]? = some (V.frm.getD q.loc.toNat 0):=by
  rw [Yh,Ya (by rw [f.frm];exact hq4)];rfl
 have o:=(a.bf i hi).1.at
 have hbl:(V.b i).length<=24:=f.b _ (Yr (MV.b_at (by rw [f.bf];exact hi)))
 rw [q182_ec13_n]
 cases hrd:rdI q with
 | false=>rfl
 | true =>
  rw [if_pos rfl,if_pos rfl,if_pos rfl]
  generalize hg:(fun l:List Ent=>match Zhk q.loc l with | some e=>(e.val,e.id) | none=>(V.mem.getD q.loc.toNat 0,V.frm.getD q.loc.toNat 0))=g
  have g0:g []=(V.mem.getD q.loc.toNat 0,V.frm.getD q.loc.toNat 0):=by rw [←hg];rfl
  have gs:∀(l:List Ent) (e:Ent),g (l++[e])=if e.loc=q.loc then (e.val,e.id) else g l:=fun l e=>by
   rw [←hg]
   dsimp only
   rw [Zq796]
   by_cases c:e.loc=q.loc
   ·rw [if_pos c,if_pos c]
   ·rw [if_neg c,if_neg c]
  have gv:V.val i q=g (V.b i):=by rw [←hg];rfl
  have lp:Zx (q182_F1 (R E) Zx E.glob) (q182_s1 k 37 0 (i:Int) n6 (g []).1 ((0:Nat):Int) z (Stp.cs ⟨i,i,0,0,0,0,(g []).2⟩) q.cs h)=some (.exit 0,q182_x1_1 k 37 0 (i:Int) n6 (g (V.b i)).1 z (Stp.cs ⟨i,i,0,0,0,0,(g (V.b i)).2⟩) q.cs h):=by
   have lc:=Zao (F:=q182_F1 (R E) Zx E.glob) (fun j=>q182_s1 k 37 0 (i:Int) n6 (g ((V.b i).take j)).1 (j:Int) z (Stp.cs ⟨i,i,0,0,0,0,(g ((V.b i).take j)).2⟩) q.cs h) 0 (V.b i).length (by omega) (fun j _ hj=>by
    have he:(V.b i)[j]? = some (V.b i)[j]:=Ya hj
    generalize (V.b i)[j]=e at he
    rw [Zbq he,gs]
    rw [q182_r1,if_pos hr,rd,Yb,Zfk f hpc a.bl hi,o.len,if_pos (by simp;omega),bind_ok]
    dsimp only
    rw [q182_ec15_n,if_pos hr,rd,Yb,Zfk f hpc a.bl hi,ent_loc o he,asI_ok,ins_loc,asI_ok,bind_ok]
    dsimp only
    rw [q182_ec16_n,Zr (by omega)]
    by_cases c:e.loc=q.loc
    ·rw [if_pos (by rw [beq_iff_eq];exact c),if_pos c,if_pos hr,rd,Yb,Zfk f hpc a.bl hi,ent_val o he,asI_ok,if_pos hr,rd,Zfk f hpc a.bl hi,ent_id o he,asI_ok,if_pos (by exact (by decide:6<7))]
     rfl
    ·rw [if_neg (by rw [beq_iff_eq];exact c),if_neg c]) (p:=(.exit 0,q182_x1_1 k 37 0 (i:Int) n6 (g (V.b i)).1 z (Stp.cs ⟨i,i,0,0,0,0,(g (V.b i)).2⟩) q.cs h)) (Zl (by
    rw [q182_r1,if_pos hr,rd,Yb,Zfk f hpc a.bl hi,o.len,if_neg (by simp),bind_ok,Yac (Yf _)]
    dsimp only
    rw [q182_ec15_1]))
   rw [Ybz] at lc
   exact lc
  rw [show ((0:Nat):Int)=0 from rfl,g0] at lp
  rw [ins_loc,asI_ok,if_pos hql,rd,rv_mem f hpc hmem,asI_ok,ins_loc,asI_ok,if_pos hql,rd,rv_frm f hpc hfrm,asI_ok,if_pos (by exact (by decide:6<7)),bind_ok]
  dsimp only
  rw [show (Stp.cs ⟨i,i,0,0,0,0,-1⟩).set 6 (.int .i64 (V.frm.getD q.loc.toNat 0))=Stp.cs ⟨i,i,0,0,0,0,V.frm.getD q.loc.toNat 0⟩ from rfl,q182_ec14_n,lp,bind_ok]
  dsimp only
  rw [q182_e1_1,gv]
set_option maxHeartbeats 2000000 in
theorem rThread (hE:q182_In E) {n k:Nat} {h:Za} {x:Cell} {bs pc:List Cell} {V:MV} (a:RvAt n h k x bs pc V) (v:V.Inv) (hg:V.P.good) (hst:V.st.length<100000) {i:Nat} (h4:i<4) (hi:V.may i=true) (h0:Za) (z:List Cell) (hz:z.length=7) :
  ∃x' bs' h',(q182_k5 (R E) Zx E.glob h0) .normal (q182_c4 k 37 0 (i:Int) V.st.length z (Stp.cs ⟨i,i,0,0,0,0,-1⟩) h)=some ([.agg (V.stp i).cs,.c (.bool true)],h')/\RvAt n h' k x' bs' pc (V.nx i)/\KpV n k x x' h h':=by
 have f:=v.fit
 have hpc:=a.prog.len
 have hl:=Zdm (x:=x) f hpc a.bl
 have hr:0<=(i:Int)/\(i:Int)<((4:Nat):Int):=⟨by omega,by omega⟩
 have hk:k<h.length:=Zar a.blk
 have rd:∀{α:Type} {F:List Cell->Option α},Zn h k 37 F=F (rvC pc V bs x):=fun {α F}=>Zq a.blk hl
 have p:=Zfo a.prog a.hn (Kp.refl n h)
 have hql:=MV.l_at (V:=V) (t:=i) (by rw [f.lc];exact h4)
 have hq:=MV.may_thr h4 hi
 have hS:V.stp i={ V.thrS i (V.thrI i) with pick:=i }:=by unfold MV.stp;rw [if_pos h4]
 have hN:V.nx i={ V.thrM i (V.thrI i) with st:=V.st++[V.stp i] }:=by unfold MV.nx;rw [if_pos h4]
 generalize V.thrI i=q at hq hS hN
 obtain ⟨q1,q2,q3,q4,q5⟩:=v.nxt hq
 have hbl:(V.b i).length<24:=by have:=v.pcs i h4;omega
 have hrd:(q.kind==2||q.kind==4)=rdI q:=by unfold rdI;rw [Ys];simp
 generalize ha15:(if rdI q=true then (V.val i q).1 else 0)=a15
 have hev:evOf q (V.l i) a15=evOf q (V.l i) (V.val i q).1:=by
  cases c:rdI q with
  | true=>rw [←ha15,c,if_pos rfl]
  | false=>exact Zwc c _ _ _
 have haf:Zcd (V.P.code i) (V.l i) a15=Zcd (V.P.code i) (V.l i) (V.val i q).1:=by
  cases c:rdI q with
  | true=>rw [←ha15,c,if_pos rfl]
  | false=>exact Zrk hq c _ _
 have rR:=rRead (E:=E) a f h4 q1 V.st.length z
 rw [ha15] at rR
 generalize hfr:(if rdI q=true then (V.val i q).2 else -1)=fr at rR
 generalize hee:evOf q (V.l i) (V.val i q).1=e at *
 have he:0<=e.loc/\e.loc<4:=by rw [←hee];exact Znl q1
 have he45:e.kind=2∨e.kind=4∨Zqh e=false:=by
  by_cases c2:e.kind=2
  ·exact .inl c2
  ·by_cases c4:e.kind=4
   ·exact .inr (.inl c4)
   ·refine .inr (.inr ?_)
    unfold Zqh
    rw [beq_false_of_ne c2,beq_false_of_ne c4];rfl
 have eS:V.stp i=⟨i,i,e.kind,e.loc,e.r,e.w,fr⟩:=by
  rw [hS];unfold MV.thrS;rw [hee,hfr]
 obtain ⟨bs',h',w1,w2,w3,w4,w5,w6⟩:=rWrite (E:=E) a v h4 hbl e he he45 a15 z (V.stp i).cs
 have fW:=wr_fit v e hbl
 obtain ⟨wl,wP,wm⟩:=V.wr_lc i e
 have hl':=Zdm (x:=x) fW hpc w3
 have hk':k<h'.length:=Zar w2
 have p':=Zfo a.prog a.hn w5
 have fN:MV.Fit { V.wr i e with lc:=V.lc.set i (Zcd (V.P.code i) (V.l i) (V.val i q).1) }:=⟨fW.m,by rw [Yl];exact f.lc,fW.mem,fW.frm,fW.bf,fW.b⟩
 have hsetL:splice (rvC pc (V.wr i e) bs' x) ((0+12)+i*5) (Zcd (V.P.code i) (V.l i) a15).cs=rvC pc { V.wr i e with lc:=V.lc.set i (Zcd (V.P.code i) (V.l i) (V.val i q).1) } bs' x:=by
  rw [haf,rv_setL fW hpc h4,wl]
 have k5:Kp n h' (setBlk h' k (some ⟨true,0,rvC pc { V.wr i e with lc:=V.lc.set i (Zcd (V.P.code i) (V.l i) (V.val i q).1) } bs' x⟩)):=Kp.set a.nk _
 have kk:Kp n h (setBlk h' k (some ⟨true,0,rvC pc { V.wr i e with lc:=V.lc.set i (Zcd (V.P.code i) (V.l i) (V.val i q).1) } bs' x⟩)):=w5.trans k5
 have hstW:(V.wr i e).st=V.st:=by unfold MV.wr;split<;>(try split)<;>rfl
 obtain ⟨x',h9,e9,r9,k9,fr9⟩:=rv_push (W:={ V.wr i e with lc:=V.lc.set i (Zcd (V.P.code i) (V.l i) (V.val i q).1) }) (bs:=bs') (x:=x) (Zac hk' _) fN hpc w3 (Yy a.hn kk.1) a.nk (by rw [Zgv kk];show ProgAt _ _ (V.wr i e).P;rw [wP];exact a.prog)
  (by
   show Own n _ x 7 (Zba (V.wr i e).st) (V.wr i e).st.length
   rw [hstW]
   exact a.st.via fun j b s1 s2=>by
    have hne:j≠k:=fun c=>a.sep (c ▸ s1)
    rw [Zbc (fun c=>hne c.symm)];exact w6 j b s2 hne) a.sep
  (fun t ht=>by
   obtain ⟨s1,s2,s3⟩:=w4 t ht
   exact ⟨s1.setO s2 _,s2,s3⟩) (by show (V.wr i e).st.length<100000;rw [hstW];exact hst) (V.stp i)
 have hNX:V.nx i={ V.wr i e with lc:=V.lc.set i (Zcd (V.P.code i) (V.l i) (V.val i q).1),st:=(V.wr i e).st++[V.stp i] }:=by
  rw [hN,hstW];unfold MV.thrM;rw [hee]
 refine ⟨x',bs',h9,?_,by rw [hNX];exact r9,⟨kk.trans k9,fun j b hj hne hnx=>fr9 j b (by rw [Zbc (fun c=>hne c.symm)];exact w6 j b hj hne) hne hnx⟩⟩
 have sets:((((Stp.cs ⟨i,i,0,0,0,0,fr⟩).set 2 (.int .i64 e.kind)).set 3 (.int .i64 e.loc)).set 4 (.int .i64 e.r)).set 5 (.int .i64 e.w)=(V.stp i).cs:=by rw [eS];rfl
 have s7':∀s:Stp,splice (Yc 7 ci0) 0 s.cs=s.cs:=fun _=>rfl
 have hqn:Zbx (V.P.code i) (V.l i)=some q:=hq
 rw [q182_ec4_n,rd,if_pos (by rw [hl];omega),if_pos hr,rd,Yb,if_pos (by rw [hl];omega),Zvd hpc,Zup f hpc hql,Zny hE.c81 hg p,hqn,qh_ok,c2_ok,asA_ok,asB_ok,if_pos (by exact ⟨rfl,rfl,rfl⟩),bind_ok]
 dsimp only [Yaz]
 rw [q182_ec11_n,ins_kind,asI_ok,ins_kind,asI_ok,scK_or,bind_ok,hrd]
 dsimp only
 rw [rR,bind_ok]
 dsimp only
 rw [q182_ec12_n,if_pos (by exact ⟨rfl,rfl⟩),if_pos hr,rd,Yb,if_pos (by rw [hl];omega),Zup f hpc hql,evOf_ref hE.c111,hev,qh_ok,c1_ok,asA_ok,if_pos (by exact ⟨rfl,rfl,rfl⟩),bind_ok]
 dsimp only
 rw [q182_ec17_n,evt_kind,asI_ok,evt_loc,asI_ok,evt_r,asI_ok,evt_w,asI_ok,if_pos (by exact (by decide:2<7)),if_pos (by exact (by decide:3<7)),if_pos (by exact (by decide:4<7)),if_pos (by exact (by decide:5<7)),bind_ok]
 dsimp only
 rw [sets,q182_ec18_n]
 simp only [evt_kind,asI_ok,rd,rv_m hpc,scK_and,scK_or,bind_ok]
 rw [w1,bind_ok]
 dsimp only
 rw [q182_ec19_n,Zq w2 hl',if_pos (by rw [hl'];omega),if_pos hr,Zq w2 hl',Yb,if_pos (by rw [hl'];omega),Zvd hpc,Zup fW hpc (by rw [wl];exact hql),Zq711 hE.c107 hg p',qh_ok,c1_ok,asA_ok,if_pos hr,Zq w2 hl',if_pos (by exact ⟨by rw [hl'];omega,rfl⟩),hsetL,Zhl w2,bind_ok]
 dsimp only
 rw [q182_ec22_n,Zq (Zac hk' _) (Zdm (x:=x) fN hpc w3),Znm fN hpc w3,if_pos (by exact ⟨rfl,rfl⟩),if_pos (by exact ⟨rfl,by decide⟩),s7',if_pos (by exact rfl),e9,if_pos (by exact ⟨rfl,rfl⟩),if_pos (by exact ⟨rfl,hz,rfl⟩),if_pos (by exact ⟨rfl,rfl⟩)]
theorem rPick_R (hE:q182_In E) {n k:Nat} {h:Za} {x:Cell} {bs pc:List Cell} {V:MV} (a:RvAt n h k x bs pc V) (v:V.Inv) (hg:V.P.good) (hst:V.st.length<100000) {i:Nat} (hi:V.may i=true) :
  ∃x' bs' h',R E 182 [.c (.ptr k 37 0),.c (.int .i64 (i:Int))] h=some ([.agg (V.stp i).cs,.c (.bool true)],h')/\RvAt n h' k x' bs' pc (V.nx i)/\KpV n k x x' h h':=by
 have f:=v.fit
 have hpc:=a.prog.len
 have hl:=Zdm (x:=x) f hpc a.bl
 have rd:∀{α:Type} {F:List Cell->Option α},Zn h k 37 F=F (rvC pc V bs x):=fun {α F}=>Zq a.blk hl
 have e1:splice (splice (splice (Yc 7 ci0) 0 [(.int .i64 (i:Int))]) 1 [(.int .i64 (i:Int))]) 6 [(.int .i64 (-1))]=Stp.cs ⟨i,i,0,0,0,0,-1⟩:=rfl
 by_cases h4:i<4
 ·obtain ⟨x',bs',h',r1,r2,r3⟩:=rThread hE a v hg hst h4 hi h (Yc 7 ci0) rfl
  refine ⟨x',bs',h',Zd hE.fn ?_,r2,r3⟩
  have hno:Zky V.m (i:Int)=(0,0,false):=by unfold Zky;rw [if_neg (by omega),if_neg (by omega)]
  rw [q182_eq,May_R hE.c196 a f hg,c1_ok,asB_ok,mayI_nat,hi,if_neg (by simp),bind_ok]
  dsimp only
  rw [q182_ec1_n,rd,Znm f hpc a.bl,a.st.at.len,bind_ok]
  dsimp only
  rw [q182_ec2_n,e1,if_pos (by exact ⟨rfl,rfl,rfl⟩),bind_ok]
  dsimp only
  rw [q182_ec3_n,Zlr hE.c197 a f,hno,c3_ok,asI_ok,asI_ok,asB_ok,bind_ok]
  dsimp only
  rw [q182_ec5_n,if_neg (by simp),bind_ok]
  exact r1
 ·obtain ⟨t,loc,p,e,ht,hp,hfl,hf,hs,hnx⟩:=flu_data h4 hi
  obtain ⟨x',bs',h',r1,r2,r3⟩:=rFlush hE a v hst (i:=(i:Int)) ht hp hf (Yc 7 ci0) rfl
  refine ⟨x',bs',h',Zd hE.fn ?_,by rw [hnx,hs];exact r2,r3⟩
  rw [q182_eq,May_R hE.c196 a f hg,c1_ok,asB_ok,mayI_nat,hi,if_neg (by simp),bind_ok]
  dsimp only
  rw [q182_ec1_n,rd,Znm f hpc a.bl,a.st.at.len,bind_ok]
  dsimp only
  rw [q182_ec2_n,e1,if_pos (by exact ⟨rfl,rfl,rfl⟩),bind_ok]
  dsimp only
  rw [q182_ec3_n,Zlr hE.c197 a f,hfl,c3_ok,asI_ok,asI_ok,asB_ok,bind_ok]
  dsimp only
  rw [r1,bind_ok]
  dsimp only
  rw [q182_ec4_0,if_pos (by exact ⟨rfl,rfl⟩),hs]
end
theorem RvAt.keep {n:Nat} {h h':Za} {k:Nat} {x:Cell} {bs pc:List Cell} {V:MV} (a:RvAt n h k x bs pc V) (hk:Kp h.length h h'):RvAt n h' k x bs pc V :=
 ⟨Yy a.hn hk.1,a.nk,by rw [Zgv (hk.mono a.hn)];exact a.prog,by rw [hk.blk (Zar a.blk)];exact a.blk,a.st.keepK hk,a.sep,a.bl,fun t ht=>by
  obtain ⟨q1,q2,q3⟩:=a.bf t ht
  exact ⟨q1.keepK hk,q2,q3⟩⟩
theorem RvAt.other {n:Nat} {h h':Za} {k:Nat} {x:Cell} {bs pc:List Cell} {V:MV} (a:RvAt n h k x bs pc V) (hl:h.length<=h'.length) (hn:Kp n h h') (hk:∀j b,blk? h j=some b->j=k∨Zad x j∨(∃t,t<4/\Zad (bs.getD t .nils) j)->blk? h' j=some b):RvAt n h' k x bs pc V :=
 ⟨Yy a.hn hl,a.nk,by rw [Zgv hn];exact a.prog,hk k _ a.blk (.inl rfl),a.st.via fun j b q1 q2=>hk j b q2 (.inr (.inl q1)),a.sep,a.bl,fun t ht=>by
  obtain ⟨q1,q2,q3⟩:=a.bf t ht
  exact ⟨q1.via fun j b s1 s2=>hk j b s2 (.inr (.inr ⟨t,ht,s1⟩)),q2,q3⟩⟩
theorem may_bits (V:MV):(Yv 24).filter V.may=Zdf V.word:=by
 unfold Zdf
 rw [show (fun i=>V.word.testBit i)=V.may from funext fun i=>V.word_bit i]
 have e:Yv 64=Yv 24++List.range' 24 40:=by decide
 rw [e,Yau]
 have:(List.range' 24 40).filter V.may=[]:=by
  rw [List.filter_eq_nil_iff]
  intro a ha
  rw [List.mem_range'_1] at ha
  rw [MV.may_out (by omega)];simp
 rw [this,Ybv]
theorem Zq736 {P:PProg} {t:Nat} (h:P.thr.length<=t):Zam P (t:Int)=Lcl.zero:=by
 have:P.code (t:Int)=[]:=Zml (by omega)
 unfold Zam Zte
 rw [this];rfl
def lcU (P:PProg) (t:Nat):List Lcl:=[if 0<t then Zam P 0 else Lcl.zero,if 1<t then Zam P 1 else Lcl.zero,if 2<t then Zam P 2 else Lcl.zero,if 3<t then Zam P 3 else Lcl.zero]
theorem lcU_next (P:PProg):∀t,t<4->(lcU P t).set t (Zam P (t:Int))=lcU P (t+1)
 | 0,_=>rfl
 | 1,_=>rfl
 | 2,_=>rfl
 | 3,_=>rfl
 | t+4,h=>by omega
theorem lcU_end (P:PProg):lcU P P.thr.length=[Zam P 0,Zam P 1,Zam P 2,Zam P 3]:=by
 have key:∀t:Nat,(if t<P.thr.length then Zam P (t:Int) else Lcl.zero)=Zam P (t:Int):=fun t=>by
  split
  ·rfl
  ·exact (Zq736 (by omega)).symm
 unfold lcU
 have e0:=key 0;have e1:=key 1;have e2:=key 2;have e3:=key 3
 rw [show ((0:Nat):Int)=0 from rfl] at e0
 rw [show ((1:Nat):Int)=1 from rfl] at e1
 rw [show ((2:Nat):Int)=2 from rfl] at e2
 rw [show ((3:Nat):Int)=3 from rfl] at e3
 rw [e0,e1,e2,e3]
def MV.raw (P:PProg) (m:Int) (lc:List Lcl) (mem:List Int):MV:=⟨P,m,lc,mem,[-1,-1,-1,-1],[[],[],[],[]],[]⟩
theorem MV.raw_fit {P:PProg} {m:Int} {lc:List Lcl} {mem:List Int} (hm:1<=m/\m<=3) (h1:lc.length=4) (h2:mem.length=4):(MV.raw P m lc mem).Fit :=
 ⟨hm,h1,h2,rfl,rfl,fun l hl=>by simp [MV.raw] at hl;subst hl;simp⟩
theorem raw_0 (a b c:Cell) (P:PProg) (m:Int):splice (splice (splice ([Cell.nils,Cell.nils,Cell.nils]++Yc 29 ci0++Yc 5 (Cell.nils)) 0 [a,b,c]) 3 [(.int .i64 m)]) 8 (splice (splice (splice (splice [ci0,ci0,ci0,ci0] 0 [(.int .i64 (-1))]) 1 [(.int .i64 (-1))]) 2 [(.int .i64 (-1))]) 3 [(.int .i64 (-1))]) =
  rvC [a,b,c] (MV.raw P m (lcU P 0) [0,0,0,0]) [.nils,.nils,.nils,.nils] .nils:=by kernel_rfl
theorem Zsu {l:List Int} (h4:l.length<=4) {i:Nat} {v:Int} (hv:l[i]? = some v):(l.take i++Yc (4 - i) 0).set i v=l.take (i+1)++Yc (4 - (i+1)) 0:=by
 have hi:=Zs hv
 have hl:(l.take i).length=i:=by rw [Yt];omega
 rw [Zbq hv,Yad _ _ (by omega),hl,Nat.sub_self,show 4 - i=(4 - (i+1))+1 by omega,List.replicate_succ,List.set_cons_zero,Yu]
 rfl
section
variable {E:Env}
theorem rNew_R (hE:q180_In E) {h:Za} {pc:List Cell} {P:PProg} (p:ProgAt h pc P) (hg:P.good) (h4:P.thr.length<=4) (hil:P.init.length<=4) {m:Int} (hm:1<=m/\m<=3) :
  ∃h',R E 180 [.agg pc,.c (.int .i64 m)] h=some ([.c (.ptr h.length 37 0)],h')/\RvAt h.length h' h.length .nils [.nils,.nils,.nils,.nils] pc (MV.new P m)/\Kp h.length h h':=by
 obtain ⟨a,b,c,ts,he,_⟩:=id p
 subst he
 have hpc:([a,b,c]:List Cell).length=3:=rfl
 have hbs:([.nils,.nils,.nils,.nils]:List Cell).length=4:=rfl
 have b8:∀l:List Cell,blk? (h++[some ⟨true,0,l⟩]) h.length=some ⟨true,0,l⟩:=fun l=>Zaa _ _
 have p9:∀q,ProgAt (h++[some q]) [a,b,c] P:=fun q=>p.keep (Kp.app _ (Yf _))
 have put:∀(l cs:List Cell) {α:Type} {F:Za->Option α},Zbh (h++[some ⟨true,0,l⟩]) h.length cs F=F (h++[some ⟨true,0,cs⟩]):=fun l cs α F=>by rw [Zhl (b8 l),setBlk_last]
 obtain ⟨bi,hbi,hbl,hbg⟩:=p.initG
 have q1:∀{α:Type} (f:Cell->Option α),Zf [a,b,c] 1 f=f b:=fun _=>rfl
 have ebi:bi=b:=by
  have:=hbg (α:=Cell) (fun c=>some c)
  rw [q1] at this
  exact (Yar.inj this).symm
 subst ebi
 have lens:∀lc mem,lc.length=4->mem.length=4->(rvC [a,bi,c] (MV.raw P m lc mem) [.nils,.nils,.nils,.nils] .nils).length=37:=fun lc mem h1 h2=>Zdm (MV.raw_fit hm h1 h2) hpc hbs
 have rd:∀(lc:List Lcl) (mem:List Int) {α:Type} {F:List Cell->Option α},lc.length=4->mem.length=4->Zn (h++[some ⟨true,0,rvC [a,bi,c] (MV.raw P m lc mem) [.nils,.nils,.nils,.nils] .nils⟩]) h.length 37 F=F (rvC [a,bi,c] (MV.raw P m lc mem) [.nils,.nils,.nils,.nils] .nils):=fun lc mem α F h1 h2=>Zq (b8 _) (lens lc mem h1 h2)
 have hbi':∀q,SlAt (h++[some q]) bi 1 (intC .i64 P.init) P.init.length:=fun q=>hbi.keep hbl (Kp.app _ (Yf _))
 have ml:∀i,i<=P.init.length->(P.init.take i++Yc (4 - i) 0).length=4:=fun i hi=>by rw [Ye,Yt,Yby];omega
 have l1:Zx (q180_F1 (R E) Zx E.glob) (q180_s1 h.length 37 0 ((0:Nat):Int) [a,bi,c] (h++[some ⟨true,0,rvC [a,bi,c] (MV.raw P m (lcU P 0) (P.init.take 0++Yc (4 - 0) 0)) [.nils,.nils,.nils,.nils] .nils⟩]))=some (.exit 0,q180_x1_1 h.length 37 0 [a,bi,c] (h++[some ⟨true,0,rvC [a,bi,c] (MV.raw P m (lcU P 0) (MV.new P m).mem) [.nils,.nils,.nils,.nils] .nils⟩])):=by
  refine Zao (F:=q180_F1 (R E) Zx E.glob) (fun i=>q180_s1 h.length 37 0 (i:Int) [a,bi,c] (h++[some ⟨true,0,rvC [a,bi,c] (MV.raw P m (lcU P 0) (P.init.take i++Yc (4 - i) 0)) [.nils,.nils,.nils,.nils] .nils⟩])) 0 P.init.length (by omega) (fun i _ hi=>?_) (Zl ?_)
  ·have hv:P.init[i]? = some P.init[i]:=Ya hi
   generalize P.init[i]=v at hv
   have hr:0<=(i:Int)/\(i:Int)<((4:Nat):Int):=⟨by omega,by omega⟩
   have hset:=Zvz (bs:=[.nils,.nils,.nils,.nils]) (x:=.nils) (MV.raw_fit (P:=P) (lc:=lcU P 0) hm rfl (ml i (by omega))) hpc (i:=i) (by omega) v
   rw [q180_r1,q1,hbi.len,if_pos (by simp;omega),q1,(hbi' _).get1 hi (Zbr hv),asI_ok,if_pos hr,rd _ _ rfl (ml i (by omega)),Yb,if_pos (by rw [lens _ _ rfl (ml i (by omega))];omega),hset,put,Zr (by omega)]
   rw [show ({ MV.raw P m (lcU P 0) (P.init.take i++Yc (4 - i) 0) with mem:=(MV.raw P m (lcU P 0) (P.init.take i++Yc (4 - i) 0)).mem.set i v }:MV)=MV.raw P m (lcU P 0) ((P.init.take i++Yc (4 - i) 0).set i v) from rfl,Zsu hil hv]
  ·rw [q180_r1,q1,hbi.len,if_neg (by simp),Yac (Yf _)]
   rfl
 have nm:(MV.new P m).mem.length=4:=(MV.new_fit hm hil).mem
 have n3:∀{α:Type} {h':Za} {F:Int->Option α},ProgAt h' [a,bi,c] P->(Zf [a,bi,c] 2 fun q=>Zaj q F)=F P.thr.length:=fun pp=>pp.nthr
 have l2:Zx (q180_F2 (R E) Zx E.glob) (q180_s2 h.length 37 0 ((0:Nat):Int) [a,bi,c] (h++[some ⟨true,0,rvC [a,bi,c] (MV.raw P m (lcU P 0) (MV.new P m).mem) [.nils,.nils,.nils,.nils] .nils⟩]))=some (.exit 2,q180_x2_3 h.length 37 0 (h++[some ⟨true,0,rvC [a,bi,c] (MV.raw P m (lcU P P.thr.length) (MV.new P m).mem) [.nils,.nils,.nils,.nils] .nils⟩])):=by
  refine Zao (F:=q180_F2 (R E) Zx E.glob) (fun i=>q180_s2 h.length 37 0 (i:Int) [a,bi,c] (h++[some ⟨true,0,rvC [a,bi,c] (MV.raw P m (lcU P i) (MV.new P m).mem) [.nils,.nils,.nils,.nils] .nils⟩])) 0 P.thr.length (by omega) (fun i _ hi=>?_) (Zl ?_)
  ·have hr:0<=(i:Int)/\(i:Int)<((4:Nat):Int):=⟨by omega,by omega⟩
   have hset:=rv_setL (bs:=[.nils,.nils,.nils,.nils]) (x:=.nils) (MV.raw_fit (P:=P) (lc:=lcU P i) hm rfl nm) hpc (t:=i) (by omega) (Zam P (i:Int))
   rw [q180_r2,n3 p,if_pos (by simp;omega),if_pos (by exact ⟨rfl,rfl⟩),Zq710 hE.c104 hg (p9 _),qh_ok,c1_ok,asA_ok,if_pos hr,rd _ _ rfl nm,Yb,if_pos (by exact ⟨by rw [lens _ _ rfl nm];omega,rfl⟩),hset,put,Zr (by omega)]
   rw [show ({ MV.raw P m (lcU P i) (MV.new P m).mem with lc:=(MV.raw P m (lcU P i) (MV.new P m).mem).lc.set i (Zam P (i:Int)) }:MV)=MV.raw P m ((lcU P i).set i (Zam P (i:Int))) (MV.new P m).mem from rfl,lcU_next P i (by omega)]
  ·rw [q180_r2,n3 p,if_neg (by simp)]
 rw [show ((0:Nat):Int)=0 from rfl] at l1 l2
 have efin:MV.raw P m (lcU P P.thr.length) (MV.new P m).mem=MV.new P m:=by rw [lcU_end P];rfl
 rw [efin] at l2
 refine ⟨h++[some ⟨true,0,rvC [a,bi,c] (MV.new P m) [.nils,.nils,.nils,.nils] .nils⟩],Zd hE.fn ?_,⟨by simp,Yf _,?_,b8 _,Own.nil _ _ _,fun q=>q,hbs,fun t ht=>?_⟩,Kp.app _ (Yf _)⟩
 ·have hz:([Cell.nils,Cell.nils,Cell.nils]++Yc 29 ci0++Yc 5 (Cell.nils)).length=37:=by kernel_rfl
  have ec:∀z:List Cell,AV.cells (.agg z)=z:=fun _=>rfl
  rw [q180_eq,if_pos (by exact ⟨rfl,rfl⟩),if_pos (by exact ⟨rfl,by rw [hz];omega⟩),if_pos (by exact ⟨rfl,by rw [Zeg (by rw [hz];simp),hz];omega⟩),if_pos (by exact ⟨rfl,by rw [Zeg (by rw [Zeg (by rw [hz];simp),hz];simp),Zeg (by rw [hz];simp),hz];omega⟩),ec,raw_0 a bi c P m,lens _ _ rfl rfl]
  have e0:P.init.take 0++Yc (4 - 0) 0=[0,0,0,0]:=rfl
  rw [e0] at l1
  rw [l1,bind_ok]
  dsimp only
  rw [q180_e1_1,l2,bind_ok]
  dsimp only
  rw [q180_e2_3]
 ·rw [Yab (Yf _),Yaq];exact p
 ·have:(([.nils,.nils,.nils,.nils]:List Cell).getD t .nils)=.nils:=by
   match t with
   | 0=>rfl
   | 1=>rfl
   | 2=>rfl
   | 3=>rfl
   | t+4=>rfl
  rw [this,Zxw]
  exact ⟨Own.nil _ _ _,fun q=>q,fun j q=>absurd q (by simp [Zad])⟩
theorem Zq739 (hE:q181_In E) {n k:Nat} {h:Za} {x:Cell} {bs pc:List Cell} {V:MV} (a:RvAt n h k x bs pc V) (f:V.Fit) (hg:V.P.good) :
  ∃y h',R E 181 [.c (.ptr k 37 0)] h=some ([.c y],h')/\Own h.length h' y 1 (Zwx (Zdf V.word)) (Zdf V.word).length/\Kp h.length h h':=by
 have hM:maxBytes>=1000*8:=by unfold maxBytes;omega
 obtain ⟨st,⟨y,h',rfl,o,kk⟩,hL⟩:=Zhp (F:=q181_F1 (R E) Zx E.glob) (fun i st=>∃y h',st=q181_s1 k 37 0 y (i:Int) h'/\Own h.length h' y 1 (Zwx ((Yv i).filter V.may)) ((Yv i).filter V.may).length/\Kp h.length h h') 0 24 (by omega)
  (fun i st _ hi=>by
   rintro ⟨y,h',rfl,o,kk⟩
   have hlen:((Yv i).filter V.may).length<=i:=Yy (Ycb _ _) (by simp)
   have my:=May_R hE.c196 (a.keep kk) f hg (i:Int)
   rw [mayI_nat] at my
   cases hm:V.may i with
   | false =>
    refine ⟨q181_s1 k 37 0 y ((i+1:Nat):Int) h',?_,y,h',rfl,?_,kk⟩
    ·rw [q181_r1,if_pos (by simp;omega),my,c1_ok,asB_ok,hm,if_neg (by simp),Zr (by omega)]
    ·rw [Yat,Yau,Ycp,hm]
     simpa using o
   | true =>
    obtain ⟨y2,h2,e2,o2,k2,_⟩:=o.app (bytes:=8) (xs:=[.int .i64 (i:Int)]) kk.1 rfl (by omega) (by omega) (by omega)
    refine ⟨q181_s1 k 37 0 y2 ((i+1:Nat):Int) h2,?_,y2,h2,rfl,?_,kk.trans k2⟩
    ·rw [q181_r1,if_pos (by simp;omega),my,c1_ok,asB_ok,hm,if_pos rfl,if_pos (by rfl),show splice [ci0] 0 [(.int .i64 (i:Int))]=[.int .i64 (i:Int)] from rfl,e2,Zr (by omega)]
    ·rw [Yat,Yau,Ycp,hm,if_pos rfl,List.filter_nil,natC_snoc,Ye,Yj]
     exact o2) (st:=q181_s1 k 37 0 .nils ((0:Nat):Int) h) ⟨.nils,h,rfl,Own.nil _ _ _,Kp.refl _ _⟩
 rw [may_bits] at o
 have hr:=hL _ (Zl (show q181_F1 (R E) Zx E.glob (q181_s1 k 37 0 y ((24:Nat):Int) h')=some (.exit 0,q181_x1_1 y h') by rw [q181_r1,if_neg (by simp)]))
 rw [show ((0:Nat):Int)=0 from rfl] at hr
 refine ⟨y,h',Zd hE.fn ?_,o,kk⟩
 rw [q181_eq,hr,bind_ok]
 dsimp only
 rw [q181_e1_1]
end
theorem g_rem3 {E:Env} (a:Int):0<=E.glob.rem .i64 (E.glob.band .i64 a 255) 3/\E.glob.rem .i64 (E.glob.band .i64 a 255) 3<3:=by
 refine Zfb ?_ (by omega)
 rw [g_band255];omega
theorem Zq787 {V:MV}:(Zdf V.word).length=0↔V.word=0:=by
 rw [Yx]
 exact Zq788 V.word_lt
section
variable {E:Env}
end
theorem Own.has {n:Nat} {h:Za} {y:Cell} {esz len:Nat} {cs:List Cell} (o:Own n h y esz cs len) {j:Nat} (hj:Zad y j):blk? h j=some ⟨true,esz,cs⟩:=by
 rcases o.2 with ⟨e,_⟩ | ⟨j',e,_,hb⟩
 ·rw [e] at hj;exact absurd hj (by simp [Zad])
 ·have:j'=j:=by rw [e] at hj;exact hj
  subst this;exact hb
structure Both (n:Nat) (h:Za) (k:Nat) (x:Cell) (pc:List Cell) (V:MV) (n' k':Nat) (x':Cell) (bs pc':List Cell) (W:MV):Prop where
 a:VmAt n h k x pc V
 b:RvAt n' h k' x' bs pc' W
 nn:n<=n'
 d:∀j,Zad x j->¬Zad x' j
 fV:V.Fit
 fW:W.Fit
section both
variable {n:Nat} {h:Za} {k:Nat} {x:Cell} {pc:List Cell} {V:MV} {n' k':Nat} {x':Cell} {bs pc':List Cell} {W:MV} (B:Both n h k x pc V n' k' x' bs pc' W)
include B
end both
section
variable {E:Env}
end
def MV.runG (V:MV):List Int->MV × Nat
 | []=>(V,0)
 | p :: ps=>if Zib V p=true then (((V.nx p.toNat).runG ps).1,((V.nx p.toNat).runG ps).2+1) else (V,0)
theorem Zwd {V:MV} {p:Int} (h:Zib V p=true):∃j:Nat,p=(j:Int)/\V.may j=true/\p.toNat=j:=by
 unfold Zib at h
 rw [Yd] at h
 obtain ⟨j,rfl⟩:=Yq (of_decide_eq_true h.1)
 exact ⟨j,rfl,h.2,rfl⟩
theorem MV.runG_inv {V:MV} (v:V.Inv):∀l:List Int,(V.runG l).1.Inv/\(V.runG l).1.P=V.P/\(V.runG l).1.m=V.m/\(V.runG l).1.st.length=V.st.length+(V.runG l).2/\(V.runG l).2<=l.length
 | []=>⟨v,rfl,rfl,rfl,Yf _⟩
 | p :: ps=>by
  unfold MV.runG
  by_cases h:Zib V p=true
  ·obtain ⟨j,rfl,hj,hn⟩:=Zwd h
   rw [if_pos h,hn]
   obtain ⟨h1,h2,h3,h4,h5⟩:=MV.runG_inv (v.nx hj) ps
   refine ⟨h1,h2.trans (V.nx_P j).1,h3.trans (V.nx_P j).2,?_,by dsimp only;rw [Yp];omega⟩
   dsimp only
   rw [h4,V.nx_st,Ye,Yj];omega
  ·rw [if_neg h]
   exact ⟨v,rfl,rfl,rfl,by dsimp only;omega⟩
theorem MV.runG_snoc:∀(l:List Int) (V:MV) (j:Nat),(V.runG l).2=l.length->(V.runG l).1.may j=true->V.runG (l++[(j:Int)])=((V.runG l).1.nx j,l.length+1)
 | [],V,j,_,hj=>by
  show V.runG [(j:Int)]=_
  unfold MV.runG
  rw [if_pos (by rw [mayI_nat];exact hj)]
  rfl
 | p :: ps,V,j,hl,hj=>by
  rw [Ycq]
  unfold MV.runG at hl hj ⊢
  by_cases h:Zib V p=true
  ·rw [if_pos h] at hl hj ⊢
   have:=MV.runG_snoc ps (V.nx p.toNat) j (by simp only [Yp] at hl;omega) hj
   rw [this,if_pos h]
   rfl
  ·rw [if_neg h] at hl
   simp at hl
section
variable {E:Env}
end
section both
variable {n:Nat} {h:Za} {k:Nat} {x:Cell} {pc:List Cell} {V:MV} {n' k':Nat} {x':Cell} {bs pc':List Cell} {W:MV}
end both
section
variable {E:Env}
end
section
variable {E:Env}
end
section
variable (C:Zk) (L:Zbl) (G:Glo)
variable {h h0:Za}
variable {x2 x6 x7 x8:Cell}
variable {a1 a9:Int}
variable {l0:List Cell}
def q254_k2 (h0:Za):Ex->St->Rs:=Zae (fun st=>q254_p1.exec C L G st (q254.fin G h0)) (q254.fin G h0)
def q254_k3 (h0:Za):Ex->St->Rs:=Zap 0 (q254_k2 C L G h0)
def q254_s1 (x2 x7 x8:Cell) (a9:Int) (h:Za):St:=⟨tops 2 (.v (.c x2) :: tops 4 (.v (.c x7) :: .v (.c x8) :: .v (.c (.int .i64 a9)) :: tops 46 [])),[none],h⟩
def q254_F1 :St->Option (Ex × St):=Zo (q254_b1.exec C L G) [2,7,8,9] [] [(0,[6],[]),(1,[8],[])]
def q254_x1_0 (x6:Cell) (h:Za):St:=⟨tops 6 (.v (.c x6) :: tops 49 []),[none],h⟩
def q254_x1_1 (x8:Cell) (h:Za):St:=⟨tops 8 (.v (.c x8) :: tops 47 []),[none],h⟩
theorem q254_r1:q254_F1 C L G (q254_s1 x2 x7 x8 a9 h)=if (decide (a9<60))=true then c1 (C 181 [(.c x7)] h) fun y h1=>asC y fun x=>Zaj x fun n=>if (n==0)=true then some (.ret,(q254_x1_0 x8 h1)) else Zaj x2 fun n=>if (decide (a9<n))=true then Zm 1 x2 a9 fun k N o=>Zn h1 k N fun l=>Zf l o fun q=>Zi .i64 (.c q) fun n=>Zaj x fun n1=>if n1=0 then none else let v:Int:=(G.rem .i64 (G.band .i64 n 65535) n1);Zm 1 x v fun k N o=>Zn h1 k N fun l=>Zf l o fun q=>Zi .i64 (.c q) fun n1=>c2 (C 182 [(.c x7),(.c (.int .i64 n1))] h1) fun y y1 h2=>asA y fun l=>asB y1 fun b=>Zaj x fun n1=>if n1=0 then none else let v:Int:=(G.rem .i64 (G.band .i64 n 65535) n1);Zm 1 x v fun k N o=>Zn h2 k N fun l=>Zf l o fun q=>Zi .i64 (.c q) fun n=>if (splice [ci0] 0 [(.int .i64 n)]).length=1*1 then Zaq 1 8 x8 (splice [ci0] 0 [(.int .i64 n)]) h2 fun x1 h2=>some (.normal,(q254_s1 x2 x7 x1 (G.wrap .i64 (a9+1)) h2)) else none else Zaj x fun n=>if n=0 then none else Zm 1 x (G.rem .i64 (G.wrap .i64 (a9*3)) n) fun k N o=>Zn h1 k N fun l=>Zf l o fun q=>Zi .i64 (.c q) fun n=>c2 (C 182 [(.c x7),(.c (.int .i64 n))] h1) fun y y1 h1=>asA y fun l=>asB y1 fun b=>Zaj x fun n=>if n=0 then none else Zm 1 x (G.rem .i64 (G.wrap .i64 (a9*3)) n) fun k N o=>Zn h1 k N fun l=>Zf l o fun q=>Zi .i64 (.c q) fun n=>if (splice [ci0] 0 [(.int .i64 n)]).length=1*1 then Zaq 1 8 x8 (splice [ci0] 0 [(.int .i64 n)]) h1 fun x h1=>some (.normal,(q254_s1 x2 x7 x (G.wrap .i64 (a9+1)) h1)) else none else some ((.exit 0),(q254_x1_1 x8 h)):=by kernel_rfl
theorem q254_e1_0:(q254_k3 C L G h0) .ret (q254_x1_0 x6 h)=some ([(.c x6)],h):=by kernel_rfl
theorem q254_e1_1:(q254_k3 C L G h0) (.exit 0) (q254_x1_1 x8 h)=some ([(.c x8)],h):=by kernel_rfl
theorem q254_eq:q254.body C L G [(.agg l0),(.c (.int .i64 a1)),(.c x2)] h0=if 0=0/\l0.length=3 then c1 (C 180 [(.agg l0),(.c (.int .i64 a1))] h0) fun y h=>asC y fun x=>(L (q254_F1 C L G) (q254_s1 x2 x .nils 0 h)).bind fun p=>(q254_k3 C L G h0) p.1 p.2 else none:=by kernel_rfl
end
def MV.whole (V:MV) (l:List Int):Prop:=(V.runG l).2=l.length
def MV.runs (V:MV) (l:List Int):MV:=(V.runG l).1
theorem MV.runG_cons (V:MV) (p:Int) (ps:List Int):V.runG (p :: ps)=if Zib V p=true then (((V.nx p.toNat).runG ps).1,((V.nx p.toNat).runG ps).2+1) else (V,0):=rfl
theorem MV.runG_append:∀(l l':List Int) (V:MV),V.whole l->V.runG (l++l')=(((V.runs l).runG l').1,l.length+((V.runs l).runG l').2)
 | [],l',V,_=>by
  show V.runG l'=((V.runG l').1,([]:List Int).length+(V.runG l').2)
  rw [Yaa,Yaj]
 | p :: ps,l',V,hw=>by
  unfold MV.whole at hw
  rw [Ycq,MV.runG_cons]
  unfold MV.runs
  rw [MV.runG_cons] at hw ⊢
  by_cases h:Zib V p=true
  ·rw [if_pos h] at hw
   rw [if_pos h,if_pos h]
   have:=MV.runG_append ps l' (V.nx p.toNat) (by unfold MV.whole;simp only [Yp] at hw;omega)
   rw [this]
   unfold MV.runs
   rw [Yp]
   refine Prod.ext rfl ?_
   dsimp only;omega
  ·rw [if_neg h] at hw
   simp at hw
theorem MV.whole_take {V:MV} {l:List Int} (hw:V.whole l) (i:Nat):V.whole (l.take i):=by
 have:∀(l:List Int) (V:MV),V.whole l->∀i,V.whole (l.take i):=by
  intro l
  induction l with
  | nil=>intro V _ i;rw [List.take_nil];rfl
  | cons p ps ih =>
   intro V hw i
   cases i with
   | zero=>rfl
   | succ i =>
    rw [List.take_succ_cons]
    unfold MV.whole at hw ⊢
    unfold MV.runG at hw ⊢
    by_cases h:Zib V p=true
    ·rw [if_pos h] at hw ⊢
     have:=ih (V.nx p.toNat) (by unfold MV.whole;simp only [Yp] at hw;omega) i
     unfold MV.whole at this
     dsimp only
     rw [this,Yp]
    ·rw [if_neg h] at hw
     simp at hw
 exact this l V hw i
theorem MV.whole_get {V:MV} {l:List Int} (hw:V.whole l) {i:Nat} (hi:i<l.length):∃j:Nat,l[i]? = some (j:Int)/\(V.runs (l.take i)).may j=true/\V.runs (l.take (i+1))=(V.runs (l.take i)).nx j:=by
 have h1:=MV.whole_take hw (i+1)
 obtain ⟨q,hq⟩:∃q,l[i]? = some q:=⟨l[i],Ya hi⟩
 rw [Zbq hq] at h1
 have h2:=MV.runG_append (l.take i) [q] V (MV.whole_take hw i)
 unfold MV.whole at h1
 rw [h2] at h1
 dsimp only at h1
 rw [Ye,Yj] at h1
 have h3:(V.runs (l.take i)).runG [q]=if Zib (V.runs (l.take i)) q=true then (((V.runs (l.take i)).nx q.toNat).runG [] |>.1,1) else (V.runs (l.take i),0):=rfl
 by_cases hm:Zib (V.runs (l.take i)) q=true
 ·obtain ⟨j,rfl,hj,hn⟩:=Zwd hm
  refine ⟨j,hq,hj,?_⟩
  unfold MV.runs at h2 h3 hm ⊢
  rw [Zbq hq,h2,h3,if_pos hm,hn]
  rfl
 ·rw [h3,if_neg hm] at h1
  dsimp only at h1;omega
theorem MV.runs_inv {V:MV} (v:V.Inv) (l:List Int):(V.runs l).Inv/\(V.runs l).P=V.P/\(V.runs l).m=V.m:=⟨(MV.runG_inv v l).1,(MV.runG_inv v l).2.1,(MV.runG_inv v l).2.2.1⟩
theorem MV.runs_st {V:MV} (v:V.Inv) {l:List Int} (hw:V.whole l):(V.runs l).st.length=V.st.length+l.length:=by
 have:=(MV.runG_inv v l).2.2.2.1
 unfold MV.whole at hw
 unfold MV.runs
 omega
theorem chooseR {V:MV} {y:Cell} {n:Nat} {h:Za} (o:Own n h y 1 (Zwx (Zdf V.word)) (Zdf V.word).length) {v:Int} (h0:0<=v) (h1:v<(Zdf V.word).length) :
  ∃i:Nat,V.may i=true/\∀h',(∀j b,Zad y j->blk? h j=some b->blk? h' j=some b)->∀{α:Type} (f:Cell->Option α),(Zm 1 y v fun k N o=>Zn h' k N fun l=>Zf l o f)=f (.int .i64 (i:Int)):=by
 obtain ⟨q,rfl⟩:=Yq h0
 have hq:q<(Zdf V.word).length:=by omega
 have hg:=Ya hq
 exact ⟨(Zdf V.word)[q],bits_may hg,fun h' hf α f=>(o.via hf).at.get1 hq (natC_get hg)⟩
theorem RvAt.apart {n k:Nat} {h:Za} {x:Cell} {bs pc:List Cell} {V:MV} (a:RvAt n h k x bs pc V) {n1 len:Nat} {y:Cell} {cs:List Cell} (o:Own n1 h y 1 cs len) {j:Nat} (hj:Zad y j):j≠k/\¬Zad x j/\∀t,t<4->¬Zad (bs.getD t .nils) j:=by
 have h1:=o.has hj
 refine ⟨fun e=>?_,fun q=>?_,fun t ht q=>?_⟩
 ·rw [e,a.blk] at h1
  have:=(Blk.mk.inj (Yar.inj h1)).2.1
  omega
 ·rw [a.st.has q] at h1
  have:=(Blk.mk.inj (Yar.inj h1)).2.1
  omega
 ·rw [(a.bf t ht).1.has q] at h1
  have:=(Blk.mk.inj (Yar.inj h1)).2.1
  omega
section
variable {E:Env}
set_option maxHeartbeats 2000000 in
theorem Any_R (hE:q254_In E) {h:Za} {pc:List Cell} {P:PProg} (p:ProgAt h pc P) (hg:P.good) (h4:P.thr.length<=4) (hil:P.init.length<=4) {m:Int} (hm:1<=m/\m<=3) (inv:(MV.new P m).Inv) {y:Cell} {ps:List Int} (hy:SlAt h y 1 (intC .i64 ps) ps.length) (hlow:Low h.length y) :
  ∃z row h',R E 254 [.agg pc,.c (.int .i64 m),.c y] h=some ([.c z],h')/\Own h.length h' z 1 (intC .i64 row) row.length/\Kp h.length h h'/\(MV.new P m).whole row/\row.length<=60/\(row.length=60∨((MV.new P m).runs row).word=0):=by
 have hM:maxBytes>=1000*8:=by unfold maxBytes;omega
 obtain ⟨h1,r1,a1,k1⟩:=rNew_R hE.c180 p hg h4 hil hm
 obtain ⟨e,he,hQ⟩:=Zq797 (F:=q254_F1 (R E) Zx E.glob)
  (fun q st=>∃(row:List Int) (z zs:Cell) (bs:List Cell) (h':Za),q=60 - row.length/\row.length<=60/\st=q254_s1 y (.ptr h.length 37 0) z (row.length:Int) h'/\(MV.new P m).whole row/\RvAt h.length h' h.length zs bs pc ((MV.new P m).runs row)/\Own h.length h' z 1 (intC .i64 row) row.length/\Kp h.length h h')
  (fun e=>∃(row:List Int) (z:Cell) (h':Za),(e=(.ret,q254_x1_0 z h')∨e=(.exit 0,q254_x1_1 z h'))/\Own h.length h' z 1 (intC .i64 row) row.length/\Kp h.length h h'/\(MV.new P m).whole row/\row.length<=60/\(row.length=60∨((MV.new P m).runs row).word=0))
  (fun q st hI=>by
   obtain ⟨row,z,zs,bs,h',rfl,hr60,rfl,hw,a,oz,kk⟩:=hI
   by_cases h60:row.length<60
   ·obtain ⟨v,vP,vm⟩:=MV.runs_inv inv row
    have vst:=MV.runs_st inv hw
    rw [show (MV.new P m).st.length=0 from rfl,Yaj] at vst
    generalize hV:(MV.new P m).runs row=V at *
    have hg':V.P.good:=by rw [vP];exact hg
    obtain ⟨x6,h4,r4,o4,k4⟩:=Zq739 hE.c181 a v.fit hg'
    have a4:=a.keep k4
    have oz4:=oz.keepK k4
    have kk4:Kp h.length h h4:=kk.trans (k4.mono kk.1)
    by_cases h0:(Zdf V.word).length=0
    ·refine .inr ⟨_,?_,(by simp:Ex.ret≠.normal),row,z,h4,.inl rfl,oz4,kk4,hw,hr60,.inr (by rw [hV];exact Zq787.1 h0)⟩
     rw [q254_r1,if_pos (by simp;omega),r4,c1_ok,asC_ok,o4.at.len,if_pos (by rw [h0];rfl)]
    ·refine .inl ?_
     have last:∀i:Nat,V.may i=true->∃h7 z9 h9 zs7,R E 182 [.c (.ptr h.length 37 0),.c (.int .i64 (i:Int))] h4=some ([.agg (V.stp i).cs,.c (.bool true)],h7)/\(∀j b,Zad x6 j->blk? h4 j=some b->blk? h7 j=some b) /\
       (∀{α:Type} (f:Cell->Za->Option α),Zaq 1 8 z (splice [ci0] 0 [(.int .i64 (i:Int))]) h7 f=f z9 h9) /\
       (∃(row':List Int) (zs:Cell) (bs:List Cell),row'.length=row.length+1/\(MV.new P m).whole row'/\RvAt h.length h9 h.length zs bs pc ((MV.new P m).runs row')/\Own h.length h9 z9 1 (intC .i64 row') row'.length/\Kp h.length h h9)/\zs7=zs:=by
      intro i hi
      obtain ⟨zs7,bs7,h7,r7,a7,k7⟩:=rPick_R hE.c182 a4 v hg' (by omega) hi
      have oz7:Own h.length h7 z 1 (intC .i64 row) row.length:=oz4.via fun j b q1 q2=>(k7.old j b q2 (a4.apart oz4 q1).1 (a4.apart oz4 q1).2.1).1
      have kk7:=kk4.trans k7.kp
      obtain ⟨z9,h9,e9,o9,k9,s9⟩:=oz7.app (bytes:=8) (xs:=[.int .i64 (i:Int)]) kk7.1 rfl (by omega) (by omega) (by omega)
      have rs:(MV.new P m).runG (row++[(i:Int)])=(V.nx i,row.length+1):=by
       have:=MV.runG_snoc row (MV.new P m) i hw (by rw [show ((MV.new P m).runG row).1=V from hV];exact hi)
       rw [this,show ((MV.new P m).runG row).1=V from hV]
      refine ⟨h7,z9,h9,zs,r7,fun j b q1 q2=>(k7.old j b q2 (a4.apart o4 q1).1 (a4.apart o4 q1).2.1).1,fun f=>e9 f,⟨row++[(i:Int)],zs7,bs7,by simp,?_,?_,?_,kk7.trans k9⟩,rfl⟩
      ·unfold MV.whole;rw [rs];simp
      ·unfold MV.runs;rw [rs]
       have hl:h7.length<=h9.length:=k9.1
       refine a7.other hl k9 fun j b q1 q2=>(s9 j b q1 (fun q=>?_)).1
       have ap:=a7.apart oz7 q
       rcases q2 with q2 | q2 | ⟨t,ht,q2⟩
       ·exact ap.1 q2
       ·exact ap.2.1 q2
       ·exact ap.2.2 t ht q2
      ·rw [intC_snoc,Ye,Yj];exact o9
     have hy4:=hy.keep hlow kk4
     have hlen:(Zdf V.word).length<=64:=bits_len V.word
     by_cases hp:row.length<ps.length
     ·have hq:=Ya hp
      generalize ps[row.length]=pq at hq
      have hb:=Zqu (E:=E) (x:=pq)
      have hrng:=Zfb (E:=E) (x:=E.glob.band .i64 pq 65535) (m:=((Zdf V.word).length:Int)) hb.1 (by omega)
      obtain ⟨i,hi,hch⟩:=chooseR o4 hrng.1 hrng.2
      obtain ⟨h7,z9,h9,zs7,r7,kx,e9,⟨row',zs',bs',hl',hw',a',o',kk'⟩,_⟩:=last i hi
      refine ⟨q254_s1 y (.ptr h.length 37 0) z9 (row'.length:Int) h9,60 - row'.length,?_,⟨row',z9,zs',bs',h9,rfl,by omega,rfl,hw',a',o',kk'⟩,by omega⟩
      rw [q254_r1,if_pos (by simp;omega),r4,c1_ok,asC_ok,o4.at.len,if_neg (by rw [beq_iff_eq];omega),hy4.len,if_pos (by simp;omega),hy4.get1 hp (Zbr hq),asI_ok,o4.at.len,if_neg (by omega)]
      dsimp only
      rw [hch h4 (fun _ _ _ q=>q),asI_ok,r7,c2_ok,asA_ok,asB_ok,o4.at.len,if_neg (by omega),hch h7 kx,asI_ok,if_pos (by rfl),e9,Zr (by omega),hl']
     ·have hb:E.glob.wrap .i64 ((row.length:Int)*3)=(row.length:Int)*3:=Zg (by omega) (by omega)
      have hrng:=Zfb (E:=E) (x:=(row.length:Int)*3) (m:=((Zdf V.word).length:Int)) (by omega) (by omega)
      obtain ⟨i,hi,hch⟩:=chooseR o4 hrng.1 hrng.2
      obtain ⟨h7,z9,h9,zs7,r7,kx,e9,⟨row',zs',bs',hl',hw',a',o',kk'⟩,_⟩:=last i hi
      refine ⟨q254_s1 y (.ptr h.length 37 0) z9 (row'.length:Int) h9,60 - row'.length,?_,⟨row',z9,zs',bs',h9,rfl,by omega,rfl,hw',a',o',kk'⟩,by omega⟩
      rw [q254_r1,if_pos (by simp;omega),r4,c1_ok,asC_ok,o4.at.len,if_neg (by rw [beq_iff_eq];omega),hy4.len,if_neg (by simp;omega),o4.at.len,if_neg (by omega),hb,hch h4 (fun _ _ _ q=>q),asI_ok,r7,c2_ok,asA_ok,asB_ok,o4.at.len,if_neg (by omega),hch h7 kx,asI_ok,if_pos (by rfl),e9,Zr (by omega),hl']
   ·refine .inr ⟨_,?_,(by simp:Ex.exit 0≠.normal),row,z,h',.inr rfl,oz,kk,hw,hr60,.inl (by omega)⟩
    rw [q254_r1,if_neg (by simp;omega)])
  (k:=60) (st:=q254_s1 y (.ptr h.length 37 0) .nils ((([]:List Int).length:Nat):Int) h1)
  ⟨[],.nils,.nils,[.nils,.nils,.nils,.nils],h1,rfl,by simp,rfl,rfl,a1,Own.nil _ _ _,k1⟩
 obtain ⟨row,z,h',hcase,o,kk,hw,h60,hend⟩:=hQ
 refine ⟨z,row,h',Zd hE.fn ?_,o,kk,hw,h60,hend⟩
 rw [q254_eq,if_pos (by exact ⟨rfl,p.len⟩),r1,c1_ok,asC_ok]
 rw [show ((([]:List Int).length:Nat):Int)=0 from rfl] at he
 rw [he,bind_ok]
 rcases hcase with rfl | rfl
 ·dsimp only
  rw [q254_e1_0]
 ·dsimp only
  rw [q254_e1_1]
end
section
variable (C:Zk) (L:Zbl) (G:Glo)
variable {h h0:Za}
variable {x2 x6 x8 x22:Cell}
variable {a1 a7 a23 a24:Int}
variable {l0:List Cell}
theorem q271_eq:q271.body C L G [(.agg l0),(.c (.int .i64 a1)),(.c x2)] h0=if 0=0/\l0.length=3 then c2 (C 278 [(.agg l0),(.c (.int .i64 a1)),(.c x2)] h0) fun y y1 h=>asC y fun x=>Zi .i64 y1 fun n=>Zcm false x .nilp fun b=>if b=true then some ([(.c .nils),(.c (.int .i64 0)),(.c (.bool false))],h) else c1 (C 175 [(.c x)] h) fun y h=>asC y fun x1=>c1 (C 174 [(.c x)] h) fun y h=>asB y fun b=>some ([(.c x1),(.c (.int .i64 n)),(.c (.bool b))],h) else none:=by kernel_rfl
def q278_k2 (h0:Za):Ex->St->Rs:=Zae (fun st=>q278_p1.exec C L G st (q278.fin G h0)) (q278.fin G h0)
def q278_k3 (h0:Za):Ex->St->Rs:=Zap 0 (q278_k2 C L G h0)
def q278_s1 (x2 x8 x22:Cell) (a23 a24:Int) (h:Za):St:=⟨tops 2 (.v (.c x2) :: tops 5 (.v (.c x8) :: tops 13 (.v (.c x22) :: .v (.c (.int .i64 a23)) :: .v (.c (.int .i64 a24)) :: tops 18 []))),[none,none],h⟩
def q278_F1 :St->Option (Ex × St):=Zo (q278_b1.exec C L G) [2,8,22,23,24] [] [(0,[6,7],[]),(1,[2,8],[])]
def q278_x1_0 (x6:Cell) (a7:Int) (h:Za):St:=⟨tops 6 (.v (.c x6) :: .v (.c (.int .i64 a7)) :: tops 35 []),[none,none],h⟩
def q278_x1_1 (x2 x8:Cell) (h:Za):St:=⟨tops 2 (.v (.c x2) :: tops 5 (.v (.c x8) :: tops 34 [])),[none,none],h⟩
theorem q278_r1:q278_F1 C L G (q278_s1 x2 x8 x22 a23 a24 h)=if (decide (a24<a23))=true then Zm 1 x22 a24 fun k N o=>Zn h k N fun l=>Zf l o fun q=>Zi .i64 (.c q) fun n=>c2 (C 173 [(.c x8),(.c (.int .i64 n))] h) fun y y1 h1=>asA y fun l=>asB y1 fun b=>if 0=0/\(Yc 7 ci0).length=7/\l.length=7 then if (!b)=true then some (.ret,(q278_x1_0 x8 a24 h1)) else some (.normal,(q278_s1 x2 x8 x22 a23 (G.wrap .i64 (a24+1)) h1)) else none else some ((.exit 0),(q278_x1_1 x2 x8 h)):=by kernel_rfl
theorem q278_e1_0:(q278_k3 C L G h0) .ret (q278_x1_0 x6 a7 h)=some ([(.c x6),(.c (.int .i64 a7))],h):=by kernel_rfl
theorem q278_e1_1:(q278_k3 C L G h0) (.exit 0) (q278_x1_1 x2 x8 h)=Zaj x2 fun n=>some ([(.c x8),(.c (.int .i64 n))],h):=by kernel_rfl
theorem q278_eq:q278.body C L G [(.agg l0),(.c (.int .i64 a1)),(.c x2)] h0=if 0=0/\l0.length=3 then c2 (C 171 [(.agg l0),(.c (.int .i64 a1))] h0) fun y y1 h=>asC y fun x=>Zi .i64 y1 fun n=>if (n != 0)=true then some ([(.c .nilp),(.c (.int .i64 0))],h) else Zaj x2 fun n=>(L (q278_F1 C L G) (q278_s1 x2 x x2 n 0 h)).bind fun p=>(q278_k3 C L G h0) p.1 p.2 else none:=by kernel_rfl
end
structure Plays (P:PProg) (m:Int):Prop where
 small:P.small
 hu:∀x∈P.locs,0<=x/\x<256
 ll:P.locs.length<=1000
 il:P.init.length<=4
 hm:1<=m/\m<=3
 pok:pokB P=true
 inv:(MV.new P m).Inv
 good:P.good
 n4:P.thr.length<=4
theorem GoodP.plays {most:Nat} {P:PProg} (g:GoodP most P) (r:RunP P) (hu:∀x∈P.locs,0<=x/\x<256) {m:Int} (hm:1<=m/\m<=3):Plays P m :=
 ⟨g.small,hu,by have:=g.locs;have:=g.init;omega,by have:=g.init;omega,hm,r.pok,g.inv r hm,g.good,by have:=g.n;omega⟩
section
variable {E:Env}
theorem mayI_no {V:MV} {q:Int} (h:Zib V q=false):Zra V.word q=false:=by rw [←mayI_has];exact h
theorem prun_R (hE:q278_In E) {h:Za} {pc:List Cell} {P:PProg} (p:ProgAt h pc P) {m:Int} (pl:Plays P m) {y:Cell} {l:List Int} (hy:SlAt h y 1 (intC .i64 l) l.length) (hlow:Low h.length y) (hlen:l.length<90000) :
  ∃n k x' pc' h',R E 278 [.agg pc,.c (.int .i64 m),.c y] h=some ([.c (.ptr k 329 0),.c (.int .i64 (((MV.new P m).runG l).2:Int))],h')/\VmAt n h' k x' pc' ((MV.new P m).runs l)/\h.length<=n/\Kp h.length h h':=by
 obtain ⟨n,k0,pc',h1,r1,a1,hn,k1⟩:=VNew_R hE.c171 p pl.small pl.hu pl.ll pl.il pl.hm pl.pok
 have key:∀(t:List Int) (j:Nat) (V:MV) (x:Cell) (h2:Za),l.drop j=t->j<=l.length->V.st.length=j->V.Inv->VmAt n h2 k0 x pc' V->Kp h.length h h2 ->
   ∃x' h3,(Zx (q278_F1 (R E) Zx E.glob) (q278_s1 y (.ptr k0 329 0) y (l.length:Int) (j:Int) h2)).bind (fun p_17=>(q278_k3 (R E) Zx E.glob h) p_17.1 p_17.2)=some ([.c (.ptr k0 329 0),.c (.int .i64 ((j+(V.runG t).2:Nat):Int))],h3)/\VmAt n h3 k0 x' pc' (V.runG t).1/\Kp h.length h h3:=by
  intro t
  induction t with
  | nil =>
   intro j V x h2 hd hj hst v a kk
   have hjl:j=l.length:=by
    have:=congrArg List.length hd
    rw [Yai,Yaa] at this;omega
   subst hjl
   have hy2:=hy.keep hlow kk
   have e1:q278_F1 (R E) Zx E.glob (q278_s1 y (.ptr k0 329 0) y (l.length:Int) (l.length:Int) h2)=some (.exit 0,q278_x1_1 y (.ptr k0 329 0) h2):=by
    rw [q278_r1,if_neg (by simp)]
   refine ⟨x,h2,?_,a,kk⟩
   rw [Zl e1,bind_ok]
   dsimp only
   rw [q278_e1_1,hy2.len]
   rfl
  | cons q t ih =>
   intro j V x h2 hd hj hst v a kk
   have hjl:j<l.length:=by
    rcases Yag j l.length with c | c
    ·exact c
    ·rw [Yax c] at hd;cases hd
   have hq:l[j]? = some q:=by
    have:=congrArg (fun z=>z[0]?) hd
    simp only [Ybk,List.getElem?_cons_zero,Ych] at this
    exact this
   have hd2:l.drop (j+1)=t:=by
    have:=congrArg (List.drop 1) hd
    rw [List.drop_drop] at this
    simpa using this
   have hy2:=hy.keep hlow kk
   unfold MV.runG
   by_cases hm:Zib V q=true
   ·obtain ⟨i,rfl,hi,hin⟩:=Zwd hm
    rw [if_pos hm,hin]
    obtain ⟨x3,h3,r3,a3,k3⟩:=Pick_R hE.c173 a v (by omega) hi
    have e1:q278_F1 (R E) Zx E.glob (q278_s1 y (.ptr k0 329 0) y (l.length:Int) (j:Int) h2)=some (.normal,q278_s1 y (.ptr k0 329 0) y (l.length:Int) ((j+1:Nat):Int) h3):=by
     rw [q278_r1,if_pos (by simp;omega),hy2.get1 hjl (Zbr hq),asI_ok,r3,c2_ok,asA_ok,asB_ok,if_pos (by exact ⟨rfl,rfl,rfl⟩),if_neg (by simp),Zr (by omega)]
    obtain ⟨x4,h4,r4,a4,k4⟩:=ih (j+1) (V.nx i) x3 h3 hd2 (by omega) (by rw [V.nx_st,Ye,Yj,hst]) (v.nx hi) a3 (kk.trans (k3.kp.mono hn))
    refine ⟨x4,h4,?_,a4,k4⟩
    have hL:∀r,Zx (q278_F1 (R E) Zx E.glob) (q278_s1 y (.ptr k0 329 0) y (l.length:Int) ((j+1:Nat):Int) h3)=some r->Zx (q278_F1 (R E) Zx E.glob) (q278_s1 y (.ptr k0 329 0) y (l.length:Int) (j:Int) h2)=some r:=fun r hr=>Zbk e1 hr
    cases hl:Zx (q278_F1 (R E) Zx E.glob) (q278_s1 y (.ptr k0 329 0) y (l.length:Int) ((j+1:Nat):Int) h3) with
    | none=>rw [hl] at r4;cases r4
    | some r =>
     rw [hl] at r4
     rw [hL r hl,r4,show j+1+((V.nx i).runG t).2=j+(((V.nx i).runG t).2+1) by omega]
   ·rw [if_neg hm]
    have hm':Zib V q=false:=by simpa using hm
    have r3:=Pick_no hE.c173 a v (mayI_no hm')
    have e1:q278_F1 (R E) Zx E.glob (q278_s1 y (.ptr k0 329 0) y (l.length:Int) (j:Int) h2)=some (.ret,q278_x1_0 (.ptr k0 329 0) (j:Int) h2):=by
     rw [q278_r1,if_pos (by simp;omega),hy2.get1 hjl (Zbr hq),asI_ok,r3,c2_ok,asA_ok,asB_ok,if_pos (by exact ⟨rfl,rfl,rfl⟩),if_pos (by simp)]
    refine ⟨x,h2,?_,a,kk⟩
    rw [Zeb e1,bind_ok]
    dsimp only
    rw [q278_e1_0]
    rfl
 obtain ⟨x',h3,e1,e2,e3⟩:=key l 0 (MV.new P m) .nils h1 rfl (by omega) rfl pl.inv a1 k1
 refine ⟨n,k0,x',pc',h3,Zd hE.fn ?_,e2,hn,e3⟩
 rw [q278_eq,if_pos (by exact ⟨rfl,p.len⟩),r1,c2_ok,asC_ok,asI_ok,if_neg (by simp),hy.len]
 rw [Yaj,show ((0:Nat):Int)=0 from rfl] at e1
 exact e1
theorem PRun_R (hE:q271_In E) {h:Za} {pc:List Cell} {P:PProg} (p:ProgAt h pc P) {m:Int} (pl:Plays P m) {y:Cell} {l:List Int} (hy:SlAt h y 1 (intC .i64 l) l.length) (hlow:Low h.length y) (hlen:l.length<90000) :
  ∃z h',R E 271 [.agg pc,.c (.int .i64 m),.c y] h=some ([.c z,.c (.int .i64 (((MV.new P m).runG l).2:Int)),.c (.bool (((MV.new P m).runs l).word==0))],h')/\Own h.length h' z 7 (Zba ((MV.new P m).runs l).st) ((MV.new P m).runs l).st.length/\Kp h.length h h':=by
 obtain ⟨n,k,x',pc',h1,r1,a1,hn,k1⟩:=prun_R hE.c278 p pl hy hlow hlen
 obtain ⟨v,vP,vm⟩:=MV.runs_inv pl.inv l
 have vst:=(MV.runG_inv pl.inv l).2.2.2
 have hst:((MV.new P m).runs l).st.length<=100000:=by
  show ((MV.new P m).runG l).1.st.length<=100000
  rw [vst.1,show (MV.new P m).st.length=0 from rfl]
  have:=vst.2
  omega
 obtain ⟨z,h2,r2,o2,k2⟩:=Steps_R hE.c175 a1 v.fit hst
 have a2:=a1.keep k2
 have r3:=Done_R hE.c174 a2.blk v.fit (Zfo a2.prog a2.hn (Kp.refl n h2))
 refine ⟨z,h2,Zd hE.fn ?_,o2.monoN k1.1,k1.trans (k2.mono k1.1)⟩
 rw [q271_eq,if_pos (by exact ⟨rfl,p.len⟩),r1,c2_ok,asC_ok,asI_ok]
 rw [ptr_nil,if_neg (by simp),r2,c1_ok,asC_ok,r3,c1_ok,asB_ok]
end
def Zim (s:Nat) (x:Stp):Bool:=x.kind==6&&x.frm==(s:Int)
def Zdz (l:List Stp) (m:Int) (s:Nat):Int:=match l[s]? with
 | some q=>if wrS q m=true then (s:Int) else match l.findIdx? (Zim s) with
  | some i=>(i:Int)
  | none=>-1
 | none=>-1
theorem cameT_lt (l:List Stp) (m:Int) (s:Nat):-1<=Zdz l m s/\Zdz l m s<l.length:=by
 unfold Zdz
 split
 ·rename_i q hq
  have hs:s<l.length:=by
   rcases Yag s l.length with h | h
   ·exact h
   ·rw [Yg h] at hq;cases hq
  split
  ·omega
  ·split
   ·rename_i i hi
    have:=(Yn.1 hi).1
    omega
   ·omega
 ·omega
def Znj (a b:Stp) (m:Int) (i:Nat):Bool:=a.pick==b.pick||(wrS a m&&wrS b m&&a.loc==b.loc)||(b.kind==6&&b.frm==(i:Int))||(a.kind==6&&a.t==b.t&&fnS b)
def Ztw (l:List Stp) (m:Int) (i k:Nat):Bool:=match l[i]?,l[k]? with
 | some a,some b=>Znj a b m i
 | _,_=>false
def Zhy (l:List Stp) (m:Int) (s:Stp):Option Int:=if 0<=s.frm/\s.frm<l.length then (if Zdz l m s.frm.toNat<0 then none else some (Zdz l m s.frm.toNat)) else some (-1)
def wrE (l:List Stp) (m:Int) (loc:Int) (k:Nat):Bool:=match l[k]? with
 | some b=>wrS b m&&b.loc==loc
 | none=>false
def farE (l:List Stp) (s:Stp):Bool:=match l[s.frm.toNat]? with
 | some b=>decide (0<=s.frm/\s.frm<l.length)&&b.t != s.t
 | none=>false
def Zhb (l:List Stp) (m:Int) (i:Nat) (s:Stp) (a b:Nat):Bool:=match Zhy l m s with
 | none=>false
 | some f=>(farE l s&&decide (0<=f)&&decide (a=f.toNat)&&decide (b=i))||(decide (a=i)&&decide (f<(b:Int))&&b != i&&wrE l m s.loc b)
def rdE (l:List Stp) (m:Int) (i a b:Nat):Bool:=match l[i]? with
 | some s=>rdS s&&Zhb l m i s a b
 | none=>false
def Zfs (l:List Stp) (m:Int) (a b:Nat):Bool:=(decide (a<b)&&Ztw l m a b)||(Yv l.length).any fun i=>rdE l m i a b
def hbF (l:List Stp) (m:Int):Nat->Nat:=clK l.length (ACC l.length (Zfs l m)) l.length
theorem SlAt.sfld {α:Type} {h:Za} {x:Cell} {l:List Stp} (s:SlAt h x 7 (Zba l) l.length) {i:Nat} {q:Stp} (hq:l[i]? = some q) {j:Nat} (hj:j<7) {c:Cell} (hc:q.cs[j]? = some c) {f:Cell->Option α} :
  (Zm 7 x (i:Int) fun k N o=>Zn h k N fun l=>Zf l (o+j) f)=f c:=by
 have hi:i<l.length:=by
  rcases Yag i l.length with h | h
  ·exact h
  ·rw [Yg h] at hq;cases hq
 exact s.get hi hj (Zzh hq hj hc)
section
variable {E:Env}
theorem Zq712 (hE:q283_In E) {x f:Cell} {l:List Stp} {h:Za} (hx:SlAt h x 7 (Zba l) l.length) (hl:l.length<9223372036854775807) (p:Stp->Bool)
  (hf:∀i∈l,∀{α:Type} (F:AV->Za->Option α),(fnK f fun g cs=>c1 (R E g ([.agg i.cs]++cs) h) F)=F (.c (.bool (p i))) h):R E 283 [.c x,.c f] h=some ([.c (.int .i64 (match l.findIdx? p with | some i=>(i:Int) | none=>-1))],h):=by
 have loop:∀(n i:Nat),i+n=l.length->(Zx (q283_F1 (R E) Zx E.glob) (q283_s1 x f l.length (i:Int) h)).bind (fun q=>q283_k3 (R E) Zx E.glob h q.1 q.2)=some ([.c (.int .i64 (match (l.drop i).findIdx? p with | some j=>((i+j:Nat):Int) | none=>-1))],h):=by
  intro n
  induction n with
  | zero =>
   intro i hi
   have hr:q283_F1 (R E) Zx E.glob (q283_s1 x f l.length (i:Int) h)=some (.exit 0,q283_x1_1 h):=by rw [q283_r1,if_neg (by simp;omega)]
   rw [Zl hr,bind_ok,q283_e1_1,Yax (by omega)];rfl
  | succ n ih =>
   intro i hi
   have hq:l[i]? = some l[i]:=Ya (by omega)
   have hdr:l.drop i=l[i] :: l.drop (i+1):=List.drop_eq_getElem_cons (by omega)
   generalize l[i]=q at hq hdr
   obtain ⟨off,c,g1,g2,g3⟩:=hx.stepG hq
   have hp:=@hf q (Yr hq) (Ex × St)
   rw [hdr,List.findIdx?_cons]
   cases hb:p q with
   | true =>
    have hr:q283_F1 (R E) Zx E.glob (q283_s1 x f l.length (i:Int) h)=some (.ret,q283_x1_0 (i:Int) h):=by rw [q283_r1,if_pos (by simp;omega),g1,if_pos g2,g3,hp,asB_ok,hb,if_pos rfl]
    rw [Zeb hr,bind_ok,q283_e1_0]
    rfl
   | false =>
    have h1:=ih (i+1) (by omega)
    have h2:(match (if false=true then some 0 else Option.map (fun j=>j+1) ((l.drop (i+1)).findIdx? p)) with | some j=>((i+j:Nat):Int) | none=>-1)=match (l.drop (i+1)).findIdx? p with | some j=>((i+1+j:Nat):Int) | none=>-1:=by
     cases (l.drop (i+1)).findIdx? p with
     | none=>rfl
     | some j=>show ((i+(j+1):Nat):Int)=((i+1+j:Nat):Int);omega
    rw [h2]
    cases hL:Zx (q283_F1 (R E) Zx E.glob) (q283_s1 x f l.length ((i+1:Nat):Int) h) with
    | none=>rw [hL] at h1;cases h1
    | some w =>
     have hr:q283_F1 (R E) Zx E.glob (q283_s1 x f l.length (i:Int) h)=some (.normal,q283_s1 x f l.length ((i+1:Nat):Int) h):=by rw [q283_r1,if_pos (by simp;omega),g1,if_pos g2,g3,hp,asB_ok,hb,if_neg (by simp),Zr (by omega)]
     rw [Zbk hr hL]
     rw [hL] at h1;exact h1
 have h1:=loop l.length 0 (by omega)
 refine Zd hE.fn ?_
 rw [q283_eq,hx.len,show (0:Int)=((0:Nat):Int) from rfl,h1,Yct]
 cases l.findIdx? p with
 | none=>rfl
 | some j=>show some ([AV.c (Cell.int .i64 ((0+j:Nat):Int))],h)=_;rw [Yaj]
theorem came_R (hE:q273_In E) {x:Cell} {l:List Stp} {h:Za} (hx:SlAt h x 7 (Zba l) l.length) (hlow:Low h.length x) (hl:l.length<9223372036854775807) (m:Int) {s:Nat} (hs:s<l.length) :
  R E 273 [.c x,.c (.int .i64 m),.c (.int .i64 (s:Int))] h=some ([.c (.int .i64 (Zdz l m s))],h):=by
 refine Zd hE.fn ?_
 have hq:=Ya hs
 generalize hqq:l[s]=q at hq
 have hb:blk? (h++[some ⟨true,0,[.int .i64 (s:Int)]⟩]) h.length=some ⟨true,0,[.int .i64 (s:Int)]⟩:=Zaa _ _
 have hx':=hx.keep hlow (Kp.app [some ⟨true,0,[.int .i64 (s:Int)]⟩] (Yf h.length))
 have kp:Kp h.length h (h++[some ⟨true,0,[.int .i64 (s:Int)]⟩]):=Kp.app _ (Yf _)
 have hav:∀v:Int,∀x∈([AV.c (Cell.int .i64 v)]:List AV),Zls h.length x=true:=fun v x hx=>by
  rw [Yw] at hx;subst hx;simp [Zls,AV.cells,Zcq]
 obtain ⟨off,c,g1,g2,g3⟩:=hx'.stepG hq
 rw [q273_eq,show AV.cells (.c (.int .i64 (s:Int)))=[.int .i64 (s:Int)] from rfl,Zq hb rfl,Zak (show ([.int .i64 (s:Int)]:List Cell)[0]? = some (.int .i64 (s:Int)) from rfl),asI_ok,g1,if_pos g2,g3,Zmo hE.c257,c1_ok,asB_ok]
 unfold Zdz
 rw [hq]
 dsimp only
 by_cases hw:wrS q m=true
 ·rw [if_pos hw,if_pos hw,Zq hb rfl,Zak (show ([.int .i64 (s:Int)]:List Cell)[0]? = some (.int .i64 (s:Int)) from rfl),asI_ok]
  exact Zgu kp (hav _)
 ·rw [if_neg hw,if_neg hw,Zq712 hE.c283 hx' hl (Zim s) (fun i _ α F=>?_),c1_ok,asI_ok]
  ·exact Zgu kp (hav _)
  ·show c1 (R E 282 ([.agg i.cs]++[.c (.ptr h.length 1 0)]) _) F=_
   have:R E 282 [.agg i.cs,.c (.ptr h.length 1 0)] (h++[some ⟨true,0,[.int .i64 (s:Int)]⟩])=some ([.c (.bool (Zim s i))],h++[some ⟨true,0,[.int .i64 (s:Int)]⟩]):=by
    refine Zd hE.c282.fn ?_
    rw [q282_eq,stp_kind,asI_ok,stp_frm,asI_ok,Zq (N:=1) hb rfl,Zak (show ([.int .i64 (s:Int)]:List Cell)[0]? = some (.int .i64 (s:Int)) from rfl),asI_ok,scK_and]
    rfl
   rw [Ybb,this,c1_ok]
theorem Zq801 (hE:q267_In E) {x:Cell} {l:List Stp} {h:Za} (hx:SlAt h x 7 (Zba l) l.length) (hlow:Low h.length x) (hl:l.length<=64) (m:Int) {i:Nat} {s:Stp} (hs:l[i]? = some s) (q:Nat->Nat->Bool) :
  R E 267 [.agg (Zp l.length (ACC l.length q)),.c x,.c (.int .i64 m),.c (.int .i64 (i:Int))] h=some ([.agg (Zp l.length (ACC l.length fun a b=>q a b||Zhb l m i s a b))],h):=by
 have hi:i<l.length:=by
  rcases Yag i l.length with h1 | h1
  ·exact h1
  ·rw [Yg h1] at hs;cases hs
 have rl:∀p,(Zp l.length (ACC l.length p)).length=65:=fun p=>relL_len _ _
 have loop:∀(f:Int) (p:Nat->Nat->Bool),-1<=f->f<l.length->Zx (q267_F1 (R E) Zx E.glob) (q267_s1 x m (i:Int) (E.glob.wrap .i64 (f+1)) (Zp l.length (ACC l.length p)) zeroL s.cs h) =
   some (.exit 0,q267_x1_1 (Zp l.length (ACC l.length fun a b=>p a b||(decide (a=i)&&decide (f<(b:Int))&&b != i&&wrE l m s.loc b))) zeroL h):=by
  intro f p h1 h2
  obtain ⟨k0,hk0⟩:=Yq (show 0<=f+1 by omega)
  rw [Zg (by omega) (by omega),hk0]
  have key:∀(n k:Nat),k+n=l.length->k0<=k->Zx (q267_F1 (R E) Zx E.glob) (q267_s1 x m (i:Int) (k:Int) (Zp l.length (ACC l.length fun a b=>p a b||(decide (a=i)&&decide (f<(b:Int))&&b != i&&wrE l m s.loc b&&decide (b<k)))) zeroL s.cs h) =
    some (.exit 0,q267_x1_1 (Zp l.length (ACC l.length fun a b=>p a b||(decide (a=i)&&decide (f<(b:Int))&&b != i&&wrE l m s.loc b))) zeroL h):=by
   intro n
   induction n with
   | zero =>
    intro k hk hkk
    rw [Zl (show q267_F1 (R E) Zx E.glob (q267_s1 x m (i:Int) (k:Int) (Zp l.length (ACC l.length fun a b=>p a b||(decide (a=i)&&decide (f<(b:Int))&&b != i&&wrE l m s.loc b&&decide (b<k)))) zeroL s.cs h)=some (.exit 0,q267_x1_1 (Zp l.length (ACC l.length fun a b=>p a b||(decide (a=i)&&decide (f<(b:Int))&&b != i&&wrE l m s.loc b&&decide (b<k)))) zeroL h) by
     rw [q267_r1,hx.len,if_neg (by simp;omega)])]
    rw [Zej hl (q':=fun a b=>p a b||(decide (a=i)&&decide (f<(b:Int))&&b != i&&wrE l m s.loc b)) (fun a b _ hb=>by rw [decide_eq_true (show b<k by omega),Ybl])]
   | succ n ih =>
    intro k hk hkk
    have hq:l[k]? = some l[k]:=Ya (by omega)
    generalize l[k]=b at hq
    obtain ⟨off,c,g1,g2,g3⟩:=hx.stepG hq
    have hwr:wrE l m s.loc k=(wrS b m&&b.loc==s.loc):=by unfold wrE;rw [hq]
    have hfk:decide (f<(k:Int))=true:=decide_eq_true (by omega)
    have e1:q267_F1 (R E) Zx E.glob (q267_s1 x m (i:Int) (k:Int) (Zp l.length (ACC l.length fun a b=>p a b||(decide (a=i)&&decide (f<(b:Int))&&b != i&&wrE l m s.loc b&&decide (b<k)))) zeroL s.cs h) =
      some (.normal,q267_s1 x m (i:Int) ((k+1:Nat):Int) (Zp l.length (ACC l.length fun a b=>p a b||(decide (a=i)&&decide (f<(b:Int))&&b != i&&wrE l m s.loc b&&decide (b<k+1)))) zeroL s.cs h):=by
     have hne:((k:Int) != (i:Int))=(k != i):=by rw [Ys,bne_iff_ne,bne_iff_ne];omega
     have stay:(k != i&&wrE l m s.loc k)=false->Zp l.length (ACC l.length fun a b=>p a b||(decide (a=i)&&decide (f<(b:Int))&&b != i&&wrE l m s.loc b&&decide (b<k+1)))=Zp l.length (ACC l.length fun a b=>p a b||(decide (a=i)&&decide (f<(b:Int))&&b != i&&wrE l m s.loc b&&decide (b<k))):=fun hno=>by
      refine Zej hl fun a b _ _=>?_
      by_cases hbk:b=k
      ·subst hbk
       rw [decide_eq_false (show ¬b<b by omega)]
       rw [Ycu (decide (a=i)&&decide (f<(b:Int))),hno]
       simp
      ·rw [show decide (b<k+1)=decide (b<k) by rw [decide_eq_decide];omega]
     have add:(k != i&&wrE l m s.loc k)=true->Zp l.length (Zss l.length (ACC l.length fun a b=>p a b||(decide (a=i)&&decide (f<(b:Int))&&b != i&&wrE l m s.loc b&&decide (b<k))) (i:Int) (k:Int))=Zp l.length (ACC l.length fun a b=>p a b||(decide (a=i)&&decide (f<(b:Int))&&b != i&&wrE l m s.loc b&&decide (b<k+1))):=fun hy=>by
      refine Zpv hl hi (by omega) fun a b _ _=>?_
      by_cases hbk:b=k
      ·subst hbk
       rw [decide_eq_false (show ¬b<b by omega),decide_eq_true (show b<b+1 by omega),Ycu (decide (a=i)&&decide (f<(b:Int))),hy,hfk]
       simp
      ·rw [show decide (b<k+1)=decide (b<k) by rw [decide_eq_decide];omega,decide_eq_false hbk]
       simp
     rw [q267_r1,hx.len,if_pos (by simp;omega),hne]
     by_cases hki:(k != i)=true
     ·rw [hki,scK_ok,g1,if_pos g2,g3,Zmo hE.c257,qh_ok,c1_ok,asB_ok,bind_ok]
      dsimp only
      by_cases hw:wrS b m=true
      ·rw [hw,scK_ok,hx.sfld hq (j:=3) (by omega) (c:=.int .i64 b.loc) rfl,asI_ok,stp_loc,asI_ok,bind_ok]
       dsimp only
       by_cases hlc:(b.loc==s.loc)=true
       ·have hy:(k != i&&wrE l m s.loc k)=true:=by rw [hki,hwr,hw,hlc];rfl
        rw [hlc,if_pos rfl,if_pos ⟨by trivial,rl _⟩,Add_R hE.c10 hl (Zjf _ _),c1_ok,asA_ok,if_pos ⟨by trivial,rl _,relL_len _ _⟩,add hy,Zr (by omega)]
       ·have hno:(k != i&&wrE l m s.loc k)=false:=by rw [hwr,show (b.loc==s.loc)=false by simpa using hlc,Yap,Yap]
        rw [if_neg hlc,stay hno,Zr (by omega)]
      ·have hno:(k != i&&wrE l m s.loc k)=false:=by rw [hwr,show wrS b m=false by simpa using hw,Yav,Yap]
       rw [show wrS b m=false by simpa using hw,scK_ft,if_neg (by simp),stay hno,Zr (by omega)]
     ·have hki':(k != i)=false:=by simpa using hki
      have hno:(k != i&&wrE l m s.loc k)=false:=by rw [hki',Yav]
      rw [hki',scK_ft,scK_ft,if_neg (by simp),stay hno,Zr (by omega)]
    rw [Zbk e1 (ih (k+1) (by omega) (by omega))]
  have h3:=key (l.length - k0) k0 (by omega) (Yf _)
  rw [Zej hl (q':=p) (fun a b _ _=>by
   by_cases hb:b<k0
   ·rw [decide_eq_false (show ¬f<(b:Int) by omega)];simp
   ·rw [decide_eq_false hb];simp)] at h3
  exact h3
 obtain ⟨off,c,g1,g2,g3⟩:=hx.stepG hs
 refine Zd hE.fn ?_
 rw [q267_eq,g1,if_pos g2,g3,if_pos ⟨by trivial,by rfl,by rfl⟩,stp_frm,asI_ok]
 have fin:∀(f:Int) (p:Nat->Nat->Bool),-1<=f->f<l.length->(q267_k2 (R E) Zx E.glob h) .normal (q267_c1 x m (i:Int) f (Zp l.length (ACC l.length p)) zeroL s.cs h) =
   some ([.agg (Zp l.length (ACC l.length fun a b=>p a b||(decide (a=i)&&decide (f<(b:Int))&&b != i&&wrE l m s.loc b)))],h):=fun f p h1 h2=>by
  rw [q267_ec1_n,loop f p h1 h2,bind_ok]
  dsimp only
  rw [q267_e1_1,if_pos ⟨by trivial,rl _⟩,if_pos ⟨by trivial,zero_len,rl _⟩,if_pos ⟨by trivial,rl _⟩]
 by_cases h0:0<=s.frm
 ·by_cases hn:s.frm<l.length
  ·obtain ⟨g,hg⟩:=Yq h0
   have hgl:g<l.length:=by omega
   have hgq:=Ya hgl
   generalize l[g]=sg at hgq
   have hc:=cameT_lt l m g
   have hfar:farE l s=(sg.t != s.t):=by
    unfold farE
    rw [hg,Yb,hgq,decide_eq_true (show (0:Int)<=(g:Int)/\(g:Int)<l.length by omega)]
    rfl
   rw [decide_eq_true (show s.frm>=0 from h0),scK_ok,stp_frm,asI_ok,hx.len,decide_eq_true hn,bind_ok]
   dsimp only
   rw [if_pos rfl,stp_frm,asI_ok,hg,came_R hE.c273 hx hlow (by omega) m hgl,c1_ok,asI_ok]
   have hfr:Zhy l m s=if Zdz l m g<0 then none else some (Zdz l m g):=by
    unfold Zhy
    rw [if_pos ⟨h0,hn⟩,hg,Yb]
   by_cases hcn:Zdz l m g<0
   ·rw [decide_eq_true hcn,if_pos rfl,if_pos ⟨by trivial,rl _⟩,if_pos ⟨by trivial,zero_len,rl _⟩,bind_ok]
    dsimp only
    rw [q267_ec1_0,if_pos ⟨by trivial,rl _⟩]
    rw [if_pos hcn] at hfr
    rw [Zej hl (q':=fun a b=>q a b||Zhb l m i s a b) (fun a b _ _=>by unfold Zhb;rw [hfr];simp)]
   ·rw [if_neg hcn] at hfr
    obtain ⟨c',hc'⟩:=Yq (show 0<=Zdz l m g by omega)
    rw [decide_eq_false hcn,if_neg (by simp),stp_frm,asI_ok,hg,hx.sfld hgq (j:=1) (by omega) (c:=.int .i64 sg.t) rfl,asI_ok,stp_t,asI_ok]
    by_cases hft:(sg.t != s.t)=true
    ·rw [if_pos hft,if_pos ⟨by trivial,rl _⟩,Add_R hE.c10 hl (Zjf _ _),c1_ok,asA_ok,if_pos ⟨by trivial,rl _,relL_len _ _⟩,bind_ok]
     dsimp only
     rw [hc',Zpv hl (q':=fun a b=>q a b||(decide (a=c')&&decide (b=i))) (by omega) hi (fun a b _ _=>rfl)]
     have h9:=fin (c':Int) (fun a b=>q a b||(decide (a=c')&&decide (b=i))) (by omega) (by omega)
     refine h9.trans ?_
     rw [Zej hl (q':=fun a b=>q a b||Zhb l m i s a b) (fun a b _ _=>by
      unfold Zhb
      rw [hfr,hfar,hft,hc']
      dsimp only
      rw [Yb,decide_eq_true (show (0:Int)<=(c':Int) by omega)]
      simp [Bool.or_assoc])]
    ·rw [if_neg hft,bind_ok]
     dsimp only
     have h9:=fin (Zdz l m g) q (by omega) (by omega)
     refine h9.trans ?_
     rw [Zej hl (q':=fun a b=>q a b||Zhb l m i s a b) (fun a b _ _=>by
      unfold Zhb
      rw [hfr,hfar,show (sg.t != s.t)=false by simpa using hft]
      simp)]
  ·have hfr:Zhy l m s=some (-1):=by unfold Zhy;rw [if_neg (by omega)]
   rw [decide_eq_true (show s.frm>=0 from h0),scK_ok,stp_frm,asI_ok,hx.len,decide_eq_false hn,bind_ok]
   dsimp only
   rw [if_neg (by simp),bind_ok]
   dsimp only
   have h9:=fin (-1) q (by omega) (by omega)
   refine h9.trans ?_
   rw [Zej hl (q':=fun a b=>q a b||Zhb l m i s a b) (fun a b _ _=>by
    unfold Zhb
    rw [hfr]
    simp)]
 ·have hfr:Zhy l m s=some (-1):=by unfold Zhy;rw [if_neg (by omega)]
  rw [decide_eq_false (show ¬s.frm>=0 from h0),scK_ft,if_neg (by simp),bind_ok]
  dsimp only
  have h9:=fin (-1) q (by omega) (by omega)
  refine h9.trans ?_
  rw [Zej hl (q':=fun a b=>q a b||Zhb l m i s a b) (fun a b _ _=>by
   unfold Zhb
   rw [hfr]
   simp)]
end
def Zbm (l:List Stp) (m:Int) (i k a b:Nat):Bool:=(decide (a<b)&&Ztw l m a b&&(decide (a<i)||(decide (a=i)&&decide (b<k))))||(Yv i).any fun j=>rdE l m j a b
theorem any_succ (p:Nat->Bool) (i:Nat):(Yv (i+1)).any p=((Yv i).any p||p i):=by
 rw [Yat,List.any_append];simp
theorem Zq800 (l:List Stp) (m:Int) {a b:Nat} (ha:a<l.length):Zbm l m l.length 0 a b=Zfs l m a b:=by
 unfold Zbm Zfs
 rw [decide_eq_true ha,Bool.true_or,Ybl]
theorem Zqr (l:List Stp) (m:Int) {i a b:Nat} (hb:b<l.length):Zbm l m (i+1) 0 a b=(Zbm l m i l.length a b||rdE l m i a b):=by
 unfold Zbm
 rw [any_succ,decide_eq_true hb,Ybl,decide_eq_false (Nat.not_lt_zero b),Yap,Yce,show decide (a<i+1)=(decide (a<i)||decide (a=i)) by rw [Ys,Ym,decide_eq_true_eq,decide_eq_true_eq,decide_eq_true_eq];omega,Bool.or_assoc]
section
variable {E:Env}
theorem HB_R (hE:q255_In E) {x:Cell} {l:List Stp} {h:Za} (hx:SlAt h x 7 (Zba l) l.length) (hlow:Low h.length x) (hl:l.length<=64) (m:Int) :
  R E 255 [.c x,.c (.int .i64 m)] h=some ([.agg (Zp l.length (hbF l m))],h):=by
 have rl:∀p,(Zp l.length (ACC l.length p)).length=65:=fun p=>relL_len _ _
 have hcl:Zoz (l.length:Int)=l.length:=by unfold Zoz;omega
 have inner:∀(i:Nat) (a:Stp),l[i]? = some a->Zx (q255_F1 (R E) Zx E.glob) (q255_s1 x m (i:Int) ((i+1:Nat):Int) x (l.length:Int) (i:Int) zeroL (Zp l.length (ACC l.length (Zbm l m i 0))) a.cs h) =
   some (.exit 2,q255_x1_3 x m (i:Int) x (l.length:Int) (i:Int) zeroL (Zp l.length (ACC l.length (Zbm l m i l.length))) a.cs h):=by
  intro i a ha
  have hi:i<l.length:=by
   rcases Yag i l.length with h1 | h1
   ·exact h1
   ·rw [Yg h1] at ha;cases ha
  have key:=Zao (F:=q255_F1 (R E) Zx E.glob) (fun k=>q255_s1 x m (i:Int) (k:Int) x (l.length:Int) (i:Int) zeroL (Zp l.length (ACC l.length (Zbm l m i k))) a.cs h) (i+1) l.length (by omega) (p:=(.exit 2,q255_x1_3 x m (i:Int) x (l.length:Int) (i:Int) zeroL (Zp l.length (ACC l.length (Zbm l m i l.length))) a.cs h)) (fun k hk1 hk=>by
   have hq:l[k]? = some l[k]:=Ya hk
   generalize l[k]=b at hq
   obtain ⟨off,c,g1,g2,g3⟩:=hx.stepG hq
   have he:Ztw l m i k=Znj a b m i:=by unfold Ztw;rw [ha,hq]
   have hstep:q255_F1 (R E) Zx E.glob (q255_s1 x m (i:Int) (k:Int) x (l.length:Int) (i:Int) zeroL (Zp l.length (ACC l.length (Zbm l m i k))) a.cs h) =
     if Znj a b m i=true then some (.normal,q255_s1 x m (i:Int) ((k+1:Nat):Int) x (l.length:Int) (i:Int) zeroL (Zp l.length (Zss l.length (ACC l.length (Zbm l m i k)) (i:Int) (k:Int))) a.cs h) else some (.normal,q255_s1 x m (i:Int) ((k+1:Nat):Int) x (l.length:Int) (i:Int) zeroL (Zp l.length (ACC l.length (Zbm l m i k))) a.cs h):=by
    rw [q255_r1,hx.len,if_pos (by simp;omega),g1,if_pos g2,g3,if_pos ⟨by trivial,by rfl,by rfl⟩,if_pos ⟨by trivial,by rfl⟩,Zmo hE.c257,c1_ok,asB_ok,if_pos ⟨by trivial,by rfl⟩,Zmo hE.c257,c1_ok,asB_ok,scK_and,stp_loc,asI_ok,stp_loc,asI_ok,scK_and,stp_pick,asI_ok,stp_pick,asI_ok,scK_or,stp_kind,asI_ok,stp_frm,asI_ok,scK_and,scK_or,
     stp_kind,asI_ok,stp_t,asI_ok,stp_t,asI_ok,scK_and,if_pos ⟨by trivial,by rfl⟩,Fences_R hE.c265,c1_ok,asB_ok,scK_and,scK_or]
    show (if Znj a b m i=true then _ else _)=_
    by_cases hp:Znj a b m i=true
    ·rw [if_pos hp,if_pos hp,if_pos ⟨by trivial,rl _⟩,Add_R hE.c10 hl (Zjf _ _),c1_ok,asA_ok,if_pos ⟨by trivial,rl _,relL_len _ _⟩,Zr (by omega)]
    ·rw [if_neg hp,if_neg hp,Zr (by omega)]
   rw [hstep]
   by_cases hp:Znj a b m i=true
   ·rw [if_pos hp,Zpv hl (q':=Zbm l m i (k+1)) hi hk (fun a' b' _ _=>by
     unfold Zbm
     by_cases h1:a'=i/\b'=k
     ·rw [h1.1,h1.2,he,hp,decide_eq_true (show i<k by omega)];simp
     ·have:(decide (a'=i)&&decide (b'<k+1))=(decide (a'=i)&&decide (b'<k)):=by
       rw [Ys];simp;omega
      rw [this,show (decide (a'=i)&&decide (b'=k))=false by simpa using h1,Yce])]
   ·rw [if_neg hp,Zej hl (q':=Zbm l m i (k+1)) (fun a' b' _ _=>by
     unfold Zbm
     by_cases h1:a'=i/\b'=k
     ·rw [h1.1,h1.2,he,show Znj a b m i=false by simpa using hp];simp
     ·have:(decide (a'=i)&&decide (b'<k+1))=(decide (a'=i)&&decide (b'<k)):=by
       rw [Ys];simp;omega
      rw [this])]) (Zl (by rw [q255_r1,hx.len,if_neg (by simp)]))
  rw [Zej hl (q':=Zbm l m i 0) (fun a' b' _ _=>by
   unfold Zbm
   by_cases h1:a'=i/\b'<i+1
   ·rw [h1.1,decide_eq_false (show ¬i<b' by omega)];simp
   ·rw [show (decide (a'=i)&&decide (b'<i+1))=false by simpa using h1];simp)] at key
  exact key
 have outer:Zx (q255_F2 (R E) Zx E.glob) (q255_s2 x m x (l.length:Int) ((0:Nat):Int) zeroL (Zp l.length (ACC l.length (Zbm l m 0 0))) h)=some (.exit 0,q255_x2_1 zeroL (Zp l.length (ACC l.length (Zbm l m l.length 0))) h) :=
  Zao (F:=q255_F2 (R E) Zx E.glob) (fun i=>q255_s2 x m x (l.length:Int) (i:Int) zeroL (Zp l.length (ACC l.length (Zbm l m i 0))) h) 0 l.length (by omega) (fun i _ hi=>by
   have hq:l[i]? = some l[i]:=Ya hi
   generalize l[i]=a at hq
   obtain ⟨off,c,g1,g2,g3⟩:=hx.stepG hq
   rw [q255_r2,if_pos (by simp;omega),g1,if_pos g2,g3,if_pos ⟨by trivial,by rfl,by rfl⟩,Zr (by omega),inner i a hq,bind_ok]
   dsimp only
   rw [q255_e1_3,if_pos ⟨by trivial,by rfl⟩,Reads_R hE.c266,c1_ok,asB_ok]
   by_cases hr:rdS a=true
   ·rw [if_pos hr,if_pos ⟨by trivial,rl _⟩,Zq801 hE.c267 hx hlow hl m hq,c1_ok,asA_ok,if_pos ⟨by trivial,rl _,rl _⟩,Zr (by omega),Zej hl (q':=Zbm l m (i+1) 0) (fun a' b' _ hb'=>by
     rw [Zqr l m hb']
     have:rdE l m i a' b'=Zhb l m i a a' b':=by unfold rdE;rw [hq];dsimp only;rw [hr,Yah]
     rw [this])]
   ·rw [if_neg hr,Zr (by omega),Zej hl (q':=Zbm l m (i+1) 0) (fun a' b' _ hb'=>by
     rw [Zqr l m hb']
     have:rdE l m i a' b'=false:=by unfold rdE;rw [hq];dsimp only;rw [show rdS a=false by simpa using hr,Yav]
     rw [this,Yce])]) (Zl (by rw [q255_r2,if_neg (by simp)]))
 refine Zd hE.fn ?_
 rw [q255_eq,hx.len,if_neg (by simp;omega),hx.len,New_R hE.c9,c1_ok,asA_ok,hcl]
 have h0:Zp l.length (fun _=>0)=Zp l.length (ACC l.length (Zbm l m 0 0)):=(Zys hl fun a b _ _=>by
  unfold Zbm
  simp).symm
 rw [if_pos ⟨by trivial,zero_len,relL_len _ _⟩,hx.len,h0]
 refine (congrArg (fun z=>Option.bind z fun p_75=>(q255_k3 (R E) Zx E.glob h) p_75.1 p_75.2) outer).trans ?_
 rw [bind_ok]
 dsimp only
 have hfn:ACC l.length (Zbm l m l.length 0)=ACC l.length (Zfs l m):=by
  funext a
  unfold ACC
  congr 1
  funext b
  by_cases ha:a<l.length
  ·rw [Zq800 l m ha]
  ·rw [decide_eq_false ha];rfl
 rw [hfn,q255_e2_1,if_pos ⟨by trivial,rl _⟩,Ztl hE.c12 hl (Zjf _ _),c1_ok,asA_ok,if_pos ⟨by trivial,zero_len,relL_len _ _⟩,if_pos ⟨by trivial,relL_len _ _⟩]
 rfl
end
section
def acA (n:Nat) (t:Bool) (P:Nat->Nat->Bool) (i j:Nat):List Cell:=Zp n (ACC n fun a b=>if t then upto i j b a&&P b a else upto i j a b&&P a b)
variable {E:Env}
def HP (H:Za) (cu cv:List Cell):Za:=(H++[some ⟨true,0,cu⟩])++[some ⟨true,0,cv⟩]
section
variable {n r:Nat} {f FX GY:Nat->Nat} {s k12 k15:Nat} {H:Za} {s0 s1:List Cell} {m:Nat}
abbrev tHP (H:Za) (n:Nat) (f:Nat->Nat) (s i j:Nat):Za:=HP H (acA n true (fun a b=>(f a).testBit b) i j) (acA n false (fun a b=>(f a).testBit b&&(s.testBit a&&s.testBit b)) i j)
end
end

def meddle (a b:Stp) (m:Int):Bool:=a.t != b.t&&(a.loc==b.loc&&(wrS a m||wrS b m))
section
variable {E:Env}
theorem Zq758 (l:List Stp) (m:Int):Zem (hbF l m):=Zkp (Zjf _ _) _ _
end
section
variable {E:Env}
end



section
variable {E:Env}
end
section
variable {E:Env}
end
structure ThrStep (V:MV) (i:Nat) (s:Stp):Prop where
 t:s.t=(i:Int)
 kind:1<=s.kind/\s.kind<=5
 loc:0<=s.loc/\s.loc<4
 free:s.kind=3∨s.kind=4∨s.kind=5->V.b i=[]
 read:s.kind=1∨s.kind=4∨s.kind=5->s.r=(match Zhk s.loc (V.b i) with | some e=>e.val | none=>V.mem.getD s.loc.toNat 0)/\s.frm=(match Zhk s.loc (V.b i) with | some e=>e.id | none=>V.frm.getD s.loc.toNat 0)
 b:∀t,(V.nx i).b t=if t=i/\Zqj V.m s=true then V.b i++[⟨s.loc,s.w,V.st.length⟩] else V.b t
 mem:∀c,(V.nx i).mem.getD c 0=if (s.kind=4∨(s.kind=2/\V.m=1))/\c=s.loc.toNat then s.w else V.mem.getD c 0
 frm:∀c,(V.nx i).frm.getD c 0=if (s.kind=4∨(s.kind=2/\V.m=1))/\c=s.loc.toNat then (V.st.length:Int) else V.frm.getD c 0
theorem Zsf (q:Ins) (l:Lcl) (v:Int) (hk:1<=q.kind/\q.kind<=4):((evOf q l v).kind=3↔q.kind=3)/\(((evOf q l v).kind=4∨(evOf q l v).kind=5)↔q.kind=4)/\((evOf q l v).kind=1↔q.kind=2)/\((evOf q l v).kind=1∨(evOf q l v).kind=4∨(evOf q l v).kind=5->(evOf q l v).r=v/\(evOf q l v).loc=q.loc/\rdI q=true):=by
 unfold evOf
 by_cases h1:q.kind=1
 ·rw [if_pos h1];dsimp only;refine ⟨by omega,by omega,by omega,fun h=>by omega⟩
 ·rw [if_neg h1]
  by_cases h2:q.kind=2
  ·rw [if_pos h2];dsimp only;exact ⟨by omega,by omega,by omega,fun _=>⟨rfl,rfl,by unfold rdI;exact decide_eq_true (.inl h2)⟩⟩
  ·rw [if_neg h2]
   by_cases h4:q.kind=4
   ·rw [if_pos h4]
    have hr:rdI q=true:=by unfold rdI;exact decide_eq_true (.inr h4)
    split<;>exact ⟨by dsimp only;omega,by dsimp only;omega,by dsimp only;omega,fun _=>⟨rfl,rfl,hr⟩⟩
   ·rw [if_neg h4];dsimp only;exact ⟨by omega,by omega,by omega,fun h=>by omega⟩
theorem MV.Inv.thr_step {V:MV} (v:V.Inv) {i:Nat} (h4:i<4) (hi:V.may i=true):ThrStep V i (V.stp i):=by
 have f:=v.fit
 have hq:=MV.may_thr h4 hi
 have hS:V.stp i={ V.thrS i (V.thrI i) with pick:=i }:=by unfold MV.stp;rw [if_pos h4]
 have hN:V.nx i={ V.thrM i (V.thrI i) with st:=V.st++[V.stp i] }:=by unfold MV.nx;rw [if_pos h4]
 have hB:=v.thrB h4 (V.thrI i)
 generalize hqq:V.thrI i=q at *
 obtain ⟨q1,q2,q3,q4,q5⟩:=v.nxt hq
 have hfree:q.kind=3∨q.kind=4->V.b i=[]:=fun h=>by
  unfold MV.may MV.mayT at hi
  rw [if_pos h4,hq] at hi
  dsimp only at hi
  have:(q.kind==3||q.kind==4)=true:=by rw [Ym,beq_iff_eq,beq_iff_eq];exact h
  rw [this] at hi
  simpa using hi
 obtain ⟨e1,e2,e3,e4⟩:=Zsf q (V.l i) (V.val i q).1 q2
 have hev:=Znl (l:=V.l i) (v:=(V.val i q).1) q1
 have hkk:=Zq719 q (V.l i) (V.val i q).1
 generalize hee:evOf q (V.l i) (V.val i q).1=e at *
 have eS:V.stp i=⟨i,i,e.kind,e.loc,e.r,e.w,if rdI q=true then (V.val i q).2 else -1⟩:=by
  rw [hS];unfold MV.thrS;rw [hee]
 have hW:∀W:MV,W=V.wr i e->∀c,W.mem.getD c 0=(if (e.kind=4∨(e.kind=2/\V.m=1))/\c=e.loc.toNat then e.w else V.mem.getD c 0)/\W.frm.getD c 0=(if (e.kind=4∨(e.kind=2/\V.m=1))/\c=e.loc.toNat then (V.st.length:Int) else V.frm.getD c 0):=by
  rintro W rfl c
  unfold MV.wr
  by_cases h2:e.kind=2/\V.m≠1
  ·rw [if_pos h2,if_neg (fun q=>by omega),if_neg (fun q=>by omega)]
   exact ⟨rfl,rfl⟩
  ·rw [if_neg h2]
   by_cases hw:Zqh e=true
   ·have hw':e.kind=2∨e.kind=4:=by unfold Zqh at hw;simpa using hw
    rw [if_pos hw]
    dsimp only
    rw [Zea (by rw [f.mem];omega),Zea (by rw [f.frm];omega)]
    by_cases hc:c=e.loc.toNat
    ·rw [if_pos hc,if_pos hc,if_pos ⟨by omega,hc⟩,if_pos ⟨by omega,hc⟩];exact ⟨rfl,rfl⟩
    ·rw [if_neg hc,if_neg hc,if_neg (fun q=>hc q.2),if_neg (fun q=>hc q.2)];exact ⟨rfl,rfl⟩
   ·have hw':¬(e.kind=2∨e.kind=4):=by unfold Zqh at hw;simpa using hw
    rw [if_neg hw,if_neg (fun q=>by omega),if_neg (fun q=>by omega)]
    exact ⟨rfl,rfl⟩
 refine ⟨by rw [eS],by rw [eS];exact hkk,by rw [eS];exact hev,fun h=>?_,fun h=>?_,fun t=>?_,fun c=>?_,fun c=>?_⟩
 ·rw [eS] at h
  dsimp only at h
  refine hfree ?_
  rcases h with h | h
  ·exact .inl (e1.1 h)
  ·exact .inr (e2.1 h)
 ·rw [eS] at h ⊢
  dsimp only at h ⊢
  obtain ⟨k1,k2,k3⟩:=e4 h
  rw [k3,if_pos rfl,k1,k2]
  unfold MV.val
  cases Zhk q.loc (V.b i)<;>exact ⟨rfl,rfl⟩
 ·rw [hN]
  show (V.thrM i q).b t=_
  rw [hB,eS]
  have hiff:Zqj V.m ⟨i,i,e.kind,e.loc,e.r,e.w,if rdI q=true then (V.val i q).2 else -1⟩=true↔(e.kind=2/\V.m≠1):=by
   unfold Zqj
   rw [Yd,beq_iff_eq,bne_iff_ne]
  by_cases hc:t=i/\e.kind=2/\V.m≠1
  ·rw [if_pos hc,if_pos ⟨hc.1,hiff.2 hc.2⟩]
  ·rw [if_neg hc,if_neg (fun q=>hc ⟨q.1,hiff.1 q.2⟩)]
 ·rw [hN,eS]
  show (V.thrM i q).mem.getD c 0=_
  unfold MV.thrM
  rw [hee]
  exact (hW (V.wr i e) rfl c).1
 ·rw [hN,eS]
  show (V.thrM i q).frm.getD c 0=_
  unfold MV.thrM
  rw [hee]
  exact (hW (V.wr i e) rfl c).2
structure FluStep (V:MV) (i:Nat) (s:Stp) (t:Nat) (p:Ent->Bool) (e:Ent):Prop where
 t4:t<4
 s:s=⟨i,t,6,e.loc,0,e.val,e.id⟩
 f:(V.b t).find? p=some e
 pe:∀x,p x=(decide (V.m=2)||x.loc==e.loc)
 m:V.m=2∨V.m=3
 b:∀t',(V.nx i).b t'=if t'=t then (V.b t).eraseP p else V.b t'
 mem:∀c,(V.nx i).mem.getD c 0=if c=e.loc.toNat then e.val else V.mem.getD c 0
 frm:∀c,(V.nx i).frm.getD c 0=if c=e.loc.toNat then e.id else V.frm.getD c 0
theorem MV.Inv.flu_step {V:MV} (v:V.Inv) {i:Nat} (h4:¬i<4) (hi:V.may i=true):∃t p e,FluStep V i (V.stp i) t p e:=by
 obtain ⟨t,loc,e,ht,hf,hs,hm1,hnx⟩:=MV.may_flu h4 hi
 have f:=v.fit
 have hm:=f.m
 have he:=v.mem_b (Yo hf)
 have hpe:=Ybe hf
 refine ⟨t,Zcy (Zbd V.m) loc,e,ht,hs,hf,fun x=>?_,by omega,fun t'=>?_,fun c=>?_,fun c=>?_⟩
 ·rcases (show V.m=2∨V.m=3 by omega) with h | h
  ·rw [h];rfl
  ·rw [h] at hpe ⊢
   have hl:e.loc=loc:=by
    unfold Zcy Zbd at hpe
    simpa using hpe
   rw [hl];rfl
 ·rw [hnx]
  show (V.bf.set t _).getD t' []=_
  rw [Zea (by rw [f.bf];exact ht)];rfl
 ·rw [hnx]
  show (V.mem.set _ _).getD c 0=_
  rw [Zea (by rw [f.mem];omega)]
 ·rw [hnx]
  show (V.frm.set _ _).getD c 0=_
  rw [Zea (by rw [f.frm];omega)]
structure Hist (V:MV):Prop where
 ids:∀t,(V.b t).Pairwise fun a b=>a.id<b.id
 ent:∀t,∀e∈V.b t,∃k:Nat,e.id=(k:Int)/\∃s,V.st[k]? = some s/\s.kind=2/\s.t=(t:Int)/\s.loc=e.loc/\s.w=e.val/\∀(j:Nat) (u:Stp),V.st[j]? = some u->u.kind=6->u.frm≠e.id
 sto:∀(k:Nat) (s:Stp),V.st[k]? = some s->Zqj V.m s=true->(∃t:Nat,s.t=(t:Int)/\∃e∈V.b t,e.id=(k:Int))∨∃(j:Nat) (u:Stp),k<j/\V.st[j]? = some u/\u.kind=6/\u.frm=(k:Int)
 flu:∀(j:Nat) (u:Stp),V.st[j]? = some u->u.kind=6->0<=u.t/\∀t:Nat,u.t=(t:Int)->∀e∈V.b t,(V.m=3->e.loc=u.loc)->u.frm<e.id
 b4:∀t,4<=t->V.b t=[]
 own:V.m=1->∀t,V.b t=[]
 len:∀(k:Nat) (s:Stp),V.st[k]? = some s->s.kind=6->∃f:Nat,s.frm=(f:Int)/\f<k
theorem Zza {l:List Ent} {p:Ent->Bool} {e:Ent} (he:l.find? p=some e):∃j,l.findIdx? p=some j/\l[j]? = some e/\l.eraseP p=l.take j++l.drop (j+1):=by
 obtain ⟨j,hj⟩:∃j,l.findIdx? p=some j:=by
  cases hx:l.findIdx? p with
  | some j=>exact ⟨j,rfl⟩
  | none =>
   rw [Yam] at hx
   have:=hx e (Yo he)
   rw [Ybe he] at this;cases this
 obtain ⟨h1,h2,h3⟩:=Yn.1 hj
 have hfi:l.find? p=some l[j]:=by
  rw [Ybf]
  exact ⟨h2,j,h1,rfl,fun k hk=>by have:=h3 k hk;simpa using this⟩
 rw [hfi] at he
 refine ⟨j,hj,by rw [Ya h1];exact he,?_⟩
 rw [Ybs,hj]
 exact Ybc _ _
theorem Zw {α:Type} {l:List α} {x:α} {k:Nat} {s:α} (h:(l++[x])[k]? = some s):(k<l.length/\l[k]? = some s)∨(k=l.length/\s=x):=by
 rcases Yag k l.length with hk | hk
 ·rw [Yi hk] at h;exact .inl ⟨hk,h⟩
 ·rw [Yk hk] at h
  have:k - l.length=0:=by
   rcases Nat.eq_zero_or_pos (k - l.length) with q | q
   ·exact q
   ·rw [Yg (by simp;omega)] at h;cases h
  rw [this] at h
  simp at h
  exact .inr ⟨by omega,h.symm⟩
theorem Zbz {α:Type} {l:List α} {x:α} {k:Nat} {s:α} (h:l[k]? = some s):(l++[x])[k]? = some s:=by
 rw [Yi (Zs h)];exact h
theorem getI_new {α:Type} {l:List α} {x:α}:(l++[x])[l.length]? = some x:=by simp
theorem Hist.new (P:PProg) (m:Int):Hist (MV.new P m):=by
 have hs:∀(k:Nat) (s:Stp),(MV.new P m).st[k]? = some s->False:=fun k s h=>by
  have:(MV.new P m).st=[]:=rfl
  rw [this] at h;simp at h
 refine ⟨fun t=>by rw [Zxw];exact List.Pairwise.nil,fun t e he=>by rw [Zxw] at he;simp at he,fun k s h=>(hs k s h).elim,fun k s h=>(hs k s h).elim,fun t _=>Zxw P m t,fun _ t=>Zxw P m t,fun k s h=>(hs k s h).elim⟩
theorem MV.Inv.hist_nx {V:MV} (v:V.Inv) (H:Hist V) {i:Nat} (hi:V.may i=true):Hist (V.nx i):=by
 have hmm:(V.nx i).m=V.m:=(V.nx_P i).2
 have hst:(V.nx i).st=V.st++[V.stp i]:=V.nx_st i
 have elt:∀t,∀e∈V.b t,e.id<V.st.length:=fun t e he=>by
  obtain ⟨k,hk,s,hs,_⟩:=H.ent t e he
  have:=Zs hs;omega
 by_cases h4:i<4
 ·have T:=v.thr_step h4 hi
  generalize V.stp i=s at *
  have hk6:s.kind≠6:=by have:=T.kind;omega
  have hmem:∀t e,e∈(V.nx i).b t->e∈V.b t∨(t=i/\Zqj V.m s=true/\e=⟨s.loc,s.w,V.st.length⟩):=fun t e he=>by
   rw [T.b] at he
   split at he
   ·rename_i hc
    rcases Yaf.1 he with h | h
    ·exact .inl (hc.1 ▸ h)
    ·exact .inr ⟨hc.1,hc.2,Yw.1 h⟩
   ·exact .inl he
  have hsub:∀t e,e∈V.b t->e∈(V.nx i).b t:=fun t e he=>by
   rw [T.b]
   split
   ·rename_i hc;exact Ybg _ (hc.1 ▸ he)
   ·exact he
  refine ⟨fun t=>?_,fun t e he=>?_,fun k u hu hs=>?_,fun j u hu h6=>?_,fun t ht=>?_,fun hm t=>?_,fun k u hu h6=>?_⟩
  ·rw [T.b]
   split
   ·rw [Ybh]
    refine ⟨H.ids i,by simp,fun a ha b hb=>?_⟩
    rw [Yw] at hb
    subst hb
    exact elt i a ha
   ·exact H.ids t
  ·rw [hst]
   rcases hmem t e he with h | ⟨h1,h2,h3⟩
   ·obtain ⟨k,hk,u,hu,h1,h2,h3,h4',h5⟩:=H.ent t e h
    refine ⟨k,hk,u,Zbz hu,h1,h2,h3,h4',fun j w hw h6=>?_⟩
    rcases Zw hw with ⟨_,hw⟩ | ⟨_,rfl⟩
    ·exact h5 j w hw h6
    ·exact absurd h6 hk6
   ·subst h3
    have h2':=h2
    unfold Zqj at h2'
    rw [Yd,beq_iff_eq] at h2'
    refine ⟨V.st.length,rfl,s,getI_new,h2'.1,by rw [T.t,h1],rfl,rfl,fun j w hw h6=>?_⟩
    rcases Zw hw with ⟨hl,hw⟩ | ⟨_,rfl⟩
    ·obtain ⟨f,hf,hfl⟩:=H.len j w hw h6
     dsimp only;omega
    ·exact absurd h6 hk6
  ·rw [hst] at hu
   rw [hmm] at hs
   rcases Zw hu with ⟨hl,hu⟩ | ⟨hl,rfl⟩
   ·rcases H.sto k u hu hs with ⟨t,h1,e,he,h2⟩ | ⟨j,w,h1,h2,h3⟩
    ·exact .inl ⟨t,h1,e,hsub t e he,h2⟩
    ·exact .inr ⟨j,w,h1,by rw [hst];exact Zbz h2,h3⟩
   ·refine .inl ⟨i,T.t,⟨u.loc,u.w,V.st.length⟩,?_,by rw [hl]⟩
    rw [T.b,if_pos ⟨rfl,hs⟩]
    exact Ycc _ (Yw.2 rfl)
  ·rw [hst] at hu
   rcases Zw hu with ⟨hl,hu⟩ | ⟨hl,rfl⟩
   ·obtain ⟨a1,a2⟩:=H.flu j u hu h6
    refine ⟨a1,fun t ht e he hloc=>?_⟩
    rw [hmm] at hloc
    rcases hmem t e he with h | ⟨_,_,h3⟩
    ·exact a2 t ht e h hloc
    ·obtain ⟨f,hf,hfl⟩:=H.len j u hu h6
     subst h3
     dsimp only;omega
   ·exact absurd h6 hk6
  ·rw [T.b,if_neg (fun c=>by omega)];exact H.b4 t ht
  ·rw [hmm] at hm
   have hns:¬(t=i/\Zqj V.m s=true):=fun c=>by
    have:=c.2
    rw [hm] at this
    simp [Zqj] at this
   rw [T.b,if_neg hns];exact H.own hm t
  ·rw [hst] at hu
   rcases Zw hu with ⟨hl,hu⟩ | ⟨hl,rfl⟩
   ·exact H.len k u hu h6
   ·exact absurd h6 hk6
 ·obtain ⟨t0,p,e0,F⟩:=v.flu_step h4 hi
  have he0:=Yo F.f
  have hs0:=F.s
  have hsub:∀t e,e∈(V.nx i).b t->e∈V.b t:=fun t e he=>by
   rw [F.b] at he
   split at he
   ·rename_i hc;rw [hc];exact Ybw he
   ·exact he
  obtain ⟨j0,hj0,hje,her⟩:=Zza F.f
  have hout:∀e∈(V.nx i).b t0,e.id≠e0.id:=fun e he=>by
   rw [F.b,if_pos rfl,her] at he
   have pw:=H.ids t0
   rw [Yas] at pw
   rcases Yaf.1 he with h | h
   ·obtain ⟨a,ha,rfl⟩:=Yae.1 h
    rw [Yt] at ha
    rw [Yck]
    have hjl:=Zs hje
    have:=pw a j0 (by omega) hjl (by omega)
    rw [Ya hjl] at hje
    cases hje
    omega
   ·obtain ⟨a,ha,rfl⟩:=Yae.1 h
    rw [Yai] at ha
    rw [Ycl]
    have hjl:=Zs hje
    have:=pw j0 (j0+1+a) hjl (by omega) (by omega)
    rw [Ya hjl] at hje
    cases hje
    omega
  refine ⟨fun t=>?_,fun t e he=>?_,fun k u hu hs=>?_,fun j u hu h6=>?_,fun t ht=>?_,fun hm t=>?_,fun k u hu h6=>?_⟩
  ·rw [F.b]
   split
   ·exact List.Pairwise.sublist List.eraseP_sublist (H.ids t0)
   ·exact H.ids t
  ·rw [hst]
   obtain ⟨k,hk,u,hu,h1,h2,h3,h4',h5⟩:=H.ent t e (hsub t e he)
   refine ⟨k,hk,u,Zbz hu,h1,h2,h3,h4',fun j w hw h6=>?_⟩
   rcases Zw hw with ⟨_,hw⟩ | ⟨_,hw⟩
   ·exact h5 j w hw h6
   ·rw [hw,hs0]
    dsimp only
    intro q
    by_cases htt:t=t0
    ·subst htt;exact hout e he q.symm
    ·obtain ⟨k',hk',u',hu',_,h2',_⟩:=H.ent t0 e0 he0
     have:k'=k:=by omega
     subst this
     rw [hu] at hu'
     cases hu'
     omega
  ·rw [hst] at hu
   rw [hmm] at hs
   rcases Zw hu with ⟨hl,hu⟩ | ⟨hl,hu⟩
   ·rcases H.sto k u hu hs with ⟨t,h1,e,he,h2⟩ | ⟨j,w,h1,h2,h3⟩
    ·by_cases hee:e.id=e0.id
     ·refine .inr ⟨V.st.length,V.stp i,Zs hu,by rw [hst];exact getI_new,by rw [hs0],by rw [hs0];dsimp only;omega⟩
     ·refine .inl ⟨t,h1,e,?_,h2⟩
      rw [F.b]
      split
      ·rename_i hc
       rw [her]
       rw [hc,←Yba j0 (V.b t0)] at he
       rcases Yaf.1 he with h | h
       ·exact Ybg _ h
       ·have hd:(V.b t0).drop j0=e0 :: (V.b t0).drop (j0+1):=by
         have hjl:=Zs hje
         rw [Ya hjl] at hje
         cases hje
         exact (List.getElem_cons_drop (h:=hjl)).symm
        rw [hd] at h
        rcases List.mem_cons.1 h with rfl | h
        ·exact absurd rfl hee
        ·exact Ycc _ h
      ·exact he
    ·exact .inr ⟨j,w,h1,by rw [hst];exact Zbz h2,h3⟩
   ·rw [hu,hs0] at hs
    simp [Zqj] at hs
  ·rw [hst] at hu
   rcases Zw hu with ⟨hl,hu⟩ | ⟨hl,hu⟩
   ·obtain ⟨a1,a2⟩:=H.flu j u hu h6
    exact ⟨a1,fun t ht e he hloc=>a2 t ht e (hsub t e he) (by rw [hmm] at hloc;exact hloc)⟩
   ·subst hu
    rw [hs0]
    dsimp only
    refine ⟨by omega,fun t ht e he hloc=>?_⟩
    have htt:t=t0:=by omega
    subst htt
    rw [hmm] at hloc
    have hne:=hout e he
    have he':=he
    rw [F.b,if_pos rfl,her] at he'
    have pw:=H.ids t
    rw [Yas] at pw
    have hjl:=Zs hje
    rw [Ya hjl] at hje
    cases hje
    rcases Yaf.1 he' with h | h
    ·-- ahead of it: one that would have come first
     exfalso
     obtain ⟨a,ha,hae⟩:=Yae.1 h
     rw [Yt] at ha
     rw [Yck] at hae
     obtain ⟨_,_,h3⟩:=Yn.1 hj0
     have hpf:=h3 a (by omega)
     rw [hae] at hpf
     rw [F.pe e] at hpf
     rcases F.m with hm | hm
     ·rw [decide_eq_true hm] at hpf;simp at hpf
     ·rw [hloc hm] at hpf;simp at hpf
    ·obtain ⟨a,ha,hae⟩:=Yae.1 h
     rw [Yai] at ha
     rw [Ycl] at hae
     have:=pw j0 (j0+1+a) hjl (by omega) (by omega)
     rw [hae] at this
     exact this
  ·rw [F.b,if_neg (fun c=>by have:=F.t4;omega)];exact H.b4 t ht
  ·rw [hmm] at hm
   have:=F.m;omega
  ·rw [hst] at hu
   rcases Zw hu with ⟨hl,hu⟩ | ⟨hl,hu⟩
   ·exact H.len k u hu h6
   ·obtain ⟨k',hk',u',hu',_⟩:=H.ent t0 e0 he0
    refine ⟨k',by rw [hu,hs0];exact hk',by have:=Zs hu';omega⟩
def inOrd (m:Int) (a b:Stp):Prop:=a.kind=6->b.kind=6->a.t=b.t->(m=3->a.loc=b.loc)->a.frm<b.frm
def Zzw (l:List Stp) (k:Nat) (s:Stp):Prop:=∀(j:Nat) (u:Stp),j<k->l[j]? = some u->u.t=s.t->u.kind=2->∃(w:Nat) (x:Stp),j<w/\w<k/\l[w]? = some x/\x.kind=6/\x.frm=(j:Int)
structure First (V:MV):Prop where
 hist:Hist V
 ord:V.st.Pairwise (inOrd V.m)
 dr:V.m≠1->∀(k:Nat) (s:Stp),V.st[k]? = some s->s.kind=3∨s.kind=4∨s.kind=5->Zzw V.st k s
theorem First.new (P:PProg) (m:Int):First (MV.new P m):=⟨Hist.new P m,List.Pairwise.nil,fun _ k s h=>by
 have:(MV.new P m).st=[]:=rfl
 rw [this] at h;simp at h⟩
theorem MV.Inv.first_nx {V:MV} (v:V.Inv) (F:First V) {i:Nat} (hi:V.may i=true):First (V.nx i):=by
 have H:=F.hist
 have hmm:(V.nx i).m=V.m:=(V.nx_P i).2
 have hst:(V.nx i).st=V.st++[V.stp i]:=V.nx_st i
 refine ⟨v.hist_nx H hi,?_,fun hm1 k s hs hk=>?_⟩
 ·rw [hst,hmm,Ybh]
  refine ⟨F.ord,by simp,fun a ha b hb=>?_⟩
  rw [Yw] at hb
  subst hb
  intro h1 h2 h3 h4
  obtain ⟨j,hj,rfl⟩:=Yae.1 ha
  by_cases hi4:i<4
  ·have:=(v.thr_step hi4 hi).kind;omega
  ·obtain ⟨t,p,e,G⟩:=v.flu_step hi4 hi
   have hs:=G.s
   rw [hs] at h3 h4 ⊢
   dsimp only at h3 h4 ⊢
   exact (H.flu j _ (Ya hj) h1).2 t h3 e (Yo G.f) fun q=>(h4 q).symm
 ·rw [hmm] at hm1
  rw [hst] at hs
  have old:∀(l:List Stp) (x:Stp),Zzw l k s->k<=l.length->Zzw (l++[x]) k s:=fun l x hd hk j u hj hu h1 h2=>by
   rcases Zw hu with ⟨_,hu⟩ | ⟨hl,_⟩
   ·obtain ⟨w,y,q1,q2,q3,q4⟩:=hd j u hj hu h1 h2
    exact ⟨w,y,q1,q2,Zbz q3,q4⟩
   ·omega
  rw [hst]
  rcases Zw hs with ⟨hl,hs2⟩ | ⟨hl,hs2⟩
  ·exact old _ _ (F.dr hm1 k s hs2 hk) (Yan hl)
  ·subst hl
   subst hs2
   refine old _ _ (fun j u hj hu h1 h2=>?_) (Yf _)
   by_cases hi4:i<4
   ·have T:=v.thr_step hi4 hi
    have hb:=T.free hk
    rcases H.sto j u hu (by unfold Zqj;rw [Yd,beq_iff_eq,bne_iff_ne];exact ⟨h2,hm1⟩) with ⟨t,q1,e,he,_⟩ | ⟨w,x,q1,q2,q3⟩
    ·exfalso
     have ht:=T.t
     have:t=i:=by omega
     rw [this,hb] at he
     simp at he
    ·exact ⟨w,x,q1,Zs q2,q2,q3⟩
   ·obtain ⟨t,p,e,G⟩:=v.flu_step hi4 hi
    have:=G.s
    rw [this] at hk
    simp at hk
def flB (l:List Stp) (j w:Nat):Bool:=match l[w]? with
 | some u=>u.kind==6&&u.frm==(j:Int)
 | none=>false
def wB (l:List Stp) (j k:Nat):Bool:=!((Yv (k - (j+1))).any fun i=>flB l j (j+1+i))
theorem wB_false {l:List Stp} {j k w:Nat} {x:Stp} (h1:j<w) (h2:w<k) (hx:l[w]? = some x) (hk:x.kind=6) (hf:x.frm=(j:Int)):wB l j k=false:=by
 unfold wB
 rw [Bool.not_eq_false',Yay]
 refine ⟨w - (j+1),Ybj.2 (by omega),?_⟩
 rw [show j+1+(w - (j+1))=w by omega]
 unfold flB
 rw [hx]
 dsimp only
 rw [hk,hf];simp
section
variable {E:Env}
end
def Zod (l:List Stp) (m c:Int):Nat->Int
 | 0=>-1
 | k+1=>match l[k]? with
  | some s=>if s.loc=c/\wrS s m=true then (if s.kind=6 then s.frm else (k:Int)) else Zod l m c k
  | none=>Zod l m c k
def Zsr (l:List Stp) (m t c:Int) (i:Nat) (k:Nat) (s:Stp):Bool:=s.t==t&&s.kind==2&&s.loc==c&&(m != 1&&wB l k i)
def Zqq (l:List Stp) (m t c:Int) (i:Nat) (d:Int):Nat->Int
 | 0=>d
 | k+1=>match l[k]? with
  | some s=>if Zsr l m t c i k s=true then (k:Int) else Zqq l m t c i d k
  | none=>Zqq l m t c i d k
theorem flB_app {l:List Stp} {x:Stp} {j w:Nat} (h:w<l.length):flB (l++[x]) j w=flB l j w:=by
 unfold flB;rw [Yi h]
theorem wB_app {l:List Stp} {x:Stp} {j k:Nat} (h:k<=l.length):wB (l++[x]) j k=wB l j k:=by
 unfold wB
 congr 1
 have:∀(t:List Nat),(∀i∈t,j+1+i<l.length)->(t.any fun i=>flB (l++[x]) j (j+1+i))=t.any fun i=>flB l j (j+1+i):=fun t=>by
  induction t with
  | nil=>intro _;rfl
  | cons a t ih =>
   intro ha
   rw [List.any_cons,List.any_cons,flB_app (ha a Ycj),ih fun i hi=>ha i (Ycd _ hi)]
 exact this _ fun i hi=>by rw [Ybj] at hi;omega
theorem Zrt {l:List Stp} {x:Stp} {m c:Int}:∀k,k<=l.length->Zod (l++[x]) m c k=Zod l m c k
 | 0,_=>rfl
 | k+1,h=>by
  unfold Zod
  rw [Yi (by omega),Zrt k (by omega)]
theorem Zwm {l:List Stp} {x:Stp} {m t c:Int} {i:Nat} {d:Int} (hi:i<=l.length):∀k,k<=l.length->Zqq (l++[x]) m t c i d k=Zqq l m t c i d k
 | 0,_=>rfl
 | k+1,h=>by
  unfold Zqq Zsr
  rw [Yi (by omega),Zwm hi k (by omega),wB_app hi]
theorem Znu {l:List Stp} {m t c:Int} {i:Nat} {d:Int}:∀n,(∀k s,k<n->l[k]? = some s->Zsr l m t c i k s=false)->Zqq l m t c i d n=d
 | 0,_=>rfl
 | n+1,h=>by
  unfold Zqq
  rw [Znu n fun k s hk hs=>h k s (by omega) hs]
  cases hs:l[n]? with
  | none=>rfl
  | some s=>dsimp only;rw [h n s (by omega) hs];rfl
theorem Zug {l:List Stp} {m t c:Int} {i:Nat} {d:Int} {K:Nat} {u:Stp} (hu:l[K]? = some u) (hp:Zsr l m t c i K u=true):∀n,K<n->(∀k s,K<k->k<n->l[k]? = some s->Zsr l m t c i k s=false)->Zqq l m t c i d n=(K:Int)
 | 0,h,_=>by omega
 | n+1,hn,h=>by
  unfold Zqq
  by_cases e:K=n
  ·subst e;rw [hu];dsimp only;rw [if_pos hp]
  ·rw [Zug hu hp n (by omega) fun k s h1 h2 hs=>h k s h1 (by omega) hs]
   cases hs:l[n]? with
   | none=>rfl
   | some s=>dsimp only;rw [h n s (by omega) (by omega) hs];rfl
theorem snoc_ind {α:Type} {p:List α->Prop} (h0:p []) (hs:∀l a,p l->p (l++[a])):∀l,p l:=by
 intro l
 rw [←List.reverse_reverse l]
 induction l.reverse with
 | nil=>exact h0
 | cons a t ih=>rw [List.reverse_cons];exact hs _ _ ih
theorem Zq707 (loc:Int) (l:List Ent) (e:Ent):Zhk loc (l++[e])=if e.loc=loc then some e else Zhk loc l:=by
 unfold Zhk
 rw [Ycg,Ybx,Ybb,Ycs]
 by_cases h:e.loc=loc
 ·rw [if_pos h,h,beq_self_eq_true]
 ·rw [if_neg h,beq_false_of_ne h]
theorem Ztc (c:Int):∀l:List Ent,(l.Pairwise fun a b=>a.id<b.id)->match Zhk c l with
  | some e=>e∈l/\e.loc=c/\∀e'∈l,e'.loc=c->e'.id<=e.id
  | none=>∀e∈l,e.loc≠c:=by
 refine snoc_ind (fun _=>?_) fun l a ih hp=>?_
 ·show ∀e∈([]:List Ent),e.loc≠c
  simp
 ·rw [Ybh] at hp
  have ih:=ih hp.1
  rw [Zq707]
  by_cases h:a.loc=c
  ·rw [if_pos h]
   refine ⟨by simp,h,fun e' he' _=>?_⟩
   rcases Yaf.1 he' with q | q
   ·exact Int.le_of_lt (hp.2.2 e' q a (by simp))
   ·rw [Yw] at q;rw [q];exact Int.le_refl _
  ·rw [if_neg h]
   cases hn:Zhk c l with
   | none =>
    rw [hn] at ih
    dsimp only at ih ⊢
    intro e he
    rcases Yaf.1 he with q | q
    ·exact ih e q
    ·rw [Yw] at q;rw [q];exact h
   | some e0 =>
    rw [hn] at ih
    dsimp only at ih ⊢
    refine ⟨Ybg _ ih.1,ih.2.1,fun e' he' hc=>?_⟩
    rcases Yaf.1 he' with q | q
    ·exact ih.2.2 e' q hc
    ·rw [Yw] at q;rw [q] at hc;exact absurd hc h
structure GoodRead (P:PProg) (m:Int) (L:List Stp) (i:Nat) (s:Stp):Prop where
 frm:s.frm=Zqq L m s.t s.loc i (Zod L m s.loc i) i
 val:0<=s.frm->s.frm<i/\∃u,L[s.frm.toNat]? = some u/\u.w=s.r
 ini:s.frm<0->P.init.getD s.loc.toNat 0=s.r
 loc:0<=s.loc/\s.loc<P.init.length
theorem GoodRead.app {P:PProg} {m:Int} {L:List Stp} {i:Nat} {s x:Stp} (g:GoodRead P m L i s) (hi:i<=L.length):GoodRead P m (L++[x]) i s :=
 ⟨by rw [Zrt i hi,Zwm hi i hi];exact g.frm,fun h=>by obtain ⟨h1,u,h2,h3⟩:=g.val h;exact ⟨h1,u,Zbz h2,h3⟩,g.ini,g.loc⟩
structure Fwd (V:MV):Prop where
 hist:Hist V
 mf:∀c:Nat,c<4->V.frm.getD c 0=Zod V.st V.m (c:Int) V.st.length/\(0<=V.frm.getD c 0->V.frm.getD c 0<V.st.length/\∃s,V.st[(V.frm.getD c 0).toNat]? = some s/\s.w=V.mem.getD c 0)/\(V.frm.getD c 0<0->V.P.init.getD c 0=V.mem.getD c 0)
 rd:∀(i:Nat) (s:Stp),V.st[i]? = some s->s.kind=1∨s.kind=4∨s.kind=5->GoodRead V.P V.m V.st i s
theorem Fwd.new {P:PProg} {m:Int} (hi:P.init.length<=4):Fwd (MV.new P m):=by
 have hs:(MV.new P m).st=[]:=rfl
 refine ⟨Hist.new P m,fun c hc=>?_,fun i s h=>by rw [hs] at h;simp at h⟩
 have e1:(MV.new P m).frm.getD c 0 = -1:=by
  match c with
  | 0=>rfl
  | 1=>rfl
  | 2=>rfl
  | 3=>rfl
  | c+4=>omega
 rw [e1,hs]
 refine ⟨rfl,fun h=>by omega,fun _=>?_⟩
 show P.init.getD c 0=(P.init++Yc (4 - P.init.length) 0).getD c 0
 rw [Yh,Yh]
 rcases Yag c P.init.length with h | h
 ·rw [Yi h]
 ·rw [Yg h,Yk h,List.getElem?_replicate,if_pos (by omega)];rfl
theorem wB_true {l:List Stp} {j:Nat} (h:∀(w:Nat) (x:Stp),j<w->w<l.length->l[w]? = some x->x.kind=6->x.frm≠(j:Int)):wB l j l.length=true:=by
 unfold wB
 rw [Ybn,Yaw]
 intro i hi
 rw [Ybj] at hi
 unfold flB
 cases hx:l[j+1+i]? with
 | none=>simp
 | some x =>
  dsimp only
  intro hc
  rw [Yd,beq_iff_eq,beq_iff_eq] at hc
  exact h (j+1+i) x (by omega) (by omega) hx hc.1 hc.2
theorem wB_no {l:List Stp} {j k:Nat} (h:wB l j k=true) {w:Nat} {x:Stp} (h1:j<w) (h2:w<k) (hx:l[w]? = some x) (hk:x.kind=6):x.frm≠(j:Int):=fun hf=>by
 rw [wB_false h1 h2 hx hk hf] at h;cases h
theorem Hist.pnd {V:MV} (H:Hist V) {t:Nat} {c:Int} (d:Int):Zqq V.st V.m (t:Int) c V.st.length d V.st.length=match Zhk c (V.b t) with | some e=>e.id | none=>d:=by
 have hl:=Ztc c (V.b t) (H.ids t)
 by_cases hm:V.m=1
 ·rw [H.own hm t]
  show _=d
  refine Znu _ fun k s _ _=>?_
  unfold Zsr
  rw [hm];simp
 have back:∀(k:Nat) (s:Stp),V.st[k]? = some s->Zsr V.st V.m (t:Int) c V.st.length k s=true->∃e∈V.b t,e.id=(k:Int)/\e.loc=c:=fun k s hs hp=>by
  unfold Zsr at hp
  rw [Yd,Yd,Yd,Yd,beq_iff_eq,beq_iff_eq,beq_iff_eq] at hp
  obtain ⟨⟨⟨p1,p2⟩,p3⟩,_,p4⟩:=hp
  rcases H.sto k s hs (by unfold Zqj;rw [Yd,beq_iff_eq,bne_iff_ne];exact ⟨p2,hm⟩) with ⟨t',q1,e,he,q2⟩ | ⟨j,u,q1,q2,q3,q4⟩
  ·have:t'=t:=by omega
   subst this
   obtain ⟨k',hk',s',hs',_,_,h5,_⟩:=H.ent t' e he
   have:k'=k:=by omega
   subst this
   rw [hs] at hs'
   cases hs'
   exact ⟨e,he,q2,by rw [←h5];exact p3⟩
  ·exact absurd q4 (wB_no p4 q1 (Zs q2) q2 q3)
 have forth:∀e∈V.b t,e.loc=c->∃(k:Nat) (s:Stp),e.id=(k:Int)/\V.st[k]? = some s/\Zsr V.st V.m (t:Int) c V.st.length k s=true:=fun e he hc=>by
  obtain ⟨k,hk,s,hs,h1,h2,h3,h4,h5⟩:=H.ent t e he
  refine ⟨k,s,hk,hs,?_⟩
  unfold Zsr
  rw [h1,h2,h3,hc,wB_true fun w x _ _ hx h6=>by rw [←hk];exact h5 w x hx h6]
  simp [hm]
 cases hn:Zhk c (V.b t) with
 | none =>
  rw [hn] at hl
  dsimp only at hl ⊢
  refine Znu _ fun k s _ hs=>?_
  rw [←Ycr]
  intro hp
  obtain ⟨e,he,_,hc⟩:=back k s hs hp
  exact hl e he hc
 | some e =>
  rw [hn] at hl
  dsimp only at hl ⊢
  obtain ⟨h1,h2,h3⟩:=hl
  obtain ⟨K,u,q1,q2,q3⟩:=forth e h1 h2
  rw [q1]
  refine Zug q2 q3 _ (Zs q2) fun k s hk _ hs=>?_
  rw [←Ycr]
  intro hp
  obtain ⟨e',he',r1,r2⟩:=back k s hs hp
  have:=h3 e' he' r2
  omega
theorem fldV_has {P:PProg} {i:Ins} (h:fldB (Zjg P) i=true) (hk:i.kind=2∨i.kind=4):i.loc<P.locs.length:=by
 unfold fldB Zjg at h
 rw [if_neg (by omega)] at h
 split at h
 ·simp at h;omega
 ·rw [if_neg (by omega),if_pos (by omega)] at h
  simp at h;omega
theorem MV.Inv.read_loc {V:MV} (v:V.Inv) {i:Nat} (h4:i<4) (hi:V.may i=true) (hk:(V.stp i).kind=1∨(V.stp i).kind=4∨(V.stp i).kind=5):(V.stp i).loc<V.P.locs.length:=by
 have hq:=MV.may_thr h4 hi
 obtain ⟨q1,q2,q3,q4,q5⟩:=v.nxt hq
 obtain ⟨e1,e2,e3,e4⟩:=Zsf (V.thrI i) (V.l i) (V.val i (V.thrI i)).1 q2
 have hS:V.stp i={ V.thrS i (V.thrI i) with pick:=i }:=by unfold MV.stp;rw [if_pos h4]
 rw [hS] at hk ⊢
 have hk':(evOf (V.thrI i) (V.l i) (V.val i (V.thrI i)).1).kind=1∨(evOf (V.thrI i) (V.l i) (V.val i (V.thrI i)).1).kind=4∨(evOf (V.thrI i) (V.l i) (V.val i (V.thrI i)).1).kind=5:=hk
 show (evOf (V.thrI i) (V.l i) (V.val i (V.thrI i)).1).loc<_
 rw [(e4 hk').2.1]
 refine fldV_has ?_ ?_
 ·unfold PProg.code at q5
  split at q5
  ·rw [Yh] at q5
   cases hc:V.P.thr[(i:Int).toNat]? with
   | none=>rw [hc] at q5;simp at q5
   | some c=>rw [hc] at q5;exact v.fld c (Yr hc) _ q5
  ·simp at q5
 ·rcases hk' with h | h
  ·exact .inl (e3.1 h)
  ·exact .inr (e2.1 h)
theorem MV.Inv.fwd_nx {V:MV} (v:V.Inv) (F:Fwd V) (hli:V.P.locs.length=V.P.init.length) {i:Nat} (hi:V.may i=true):Fwd (V.nx i):=by
 have H:=F.hist
 have hmm:(V.nx i).m=V.m:=(V.nx_P i).2
 have hPP:(V.nx i).P=V.P:=(V.nx_P i).1
 have hst:(V.nx i).st=V.st++[V.stp i]:=V.nx_st i
 have hlen:(V.st++[V.stp i]).length=V.st.length+1:=by rw [Ye,Yj]
 have hnx:∀c:Int,Zod (V.st++[V.stp i]) V.m c (V.st.length+1)=if (V.stp i).loc=c/\wrS (V.stp i) V.m=true then (if (V.stp i).kind=6 then (V.stp i).frm else (V.st.length:Int)) else Zod V.st V.m c V.st.length:=fun c=>by
  show (match (V.st++[V.stp i])[V.st.length]? with
   | some s=>if s.loc=c/\wrS s V.m=true then (if s.kind=6 then s.frm else (V.st.length:Int)) else Zod (V.st++[V.stp i]) V.m c V.st.length
   | none=>Zod (V.st++[V.stp i]) V.m c V.st.length)=_
  rw [getI_new,Zrt _ (Yf _)]
 have oldmf:∀c:Nat,c<4->(V.nx i).frm.getD c 0=V.frm.getD c 0->(V.nx i).mem.getD c 0=V.mem.getD c 0->((V.stp i).loc=(c:Int)/\wrS (V.stp i) V.m=true->False) ->
   (V.nx i).frm.getD c 0=Zod (V.nx i).st (V.nx i).m (c:Int) (V.nx i).st.length/\(0<=(V.nx i).frm.getD c 0->(V.nx i).frm.getD c 0<(V.nx i).st.length/\∃s,(V.nx i).st[((V.nx i).frm.getD c 0).toNat]? = some s/\s.w=(V.nx i).mem.getD c 0)/\((V.nx i).frm.getD c 0<0->(V.nx i).P.init.getD c 0=(V.nx i).mem.getD c 0):=fun c hc e1 e2 e3=>by
  obtain ⟨a1,a2,a3⟩:=F.mf c hc
  rw [e1,e2,hmm,hPP,hst,hlen,hnx,if_neg e3]
  refine ⟨a1,fun h=>?_,a3⟩
  obtain ⟨b1,s,b2,b3⟩:=a2 h
  exact ⟨by omega,s,Zbz b2,b3⟩
 by_cases h4:i<4
 ·have T:=v.thr_step h4 hi
  have hrl:=v.read_loc h4 hi
  refine ⟨v.hist_nx H hi,fun c hc=>?_,fun j s hs hk=>?_⟩
  ·have hwr:wrS (V.stp i) V.m=true↔((V.stp i).kind=4∨((V.stp i).kind=2/\V.m=1)):=by
    have:=T.kind
    unfold wrS
    simp
    omega
   by_cases hw:((V.stp i).kind=4∨((V.stp i).kind=2/\V.m=1))/\c=(V.stp i).loc.toNat
   ·have hl:(V.stp i).loc=(c:Int):=by have:=T.loc;omega
    have k6:(V.stp i).kind≠6:=by have:=T.kind;omega
    rw [T.frm,T.mem,if_pos hw,if_pos hw,hmm,hst,hlen,hnx,if_pos ⟨hl,hwr.2 hw.1⟩,if_neg k6]
    refine ⟨rfl,fun _=>⟨by omega,V.stp i,?_,rfl⟩,fun h=>by omega⟩
    rw [Yb];exact getI_new
   ·exact oldmf c hc (by rw [T.frm,if_neg hw]) (by rw [T.mem,if_neg hw]) fun q=>hw ⟨hwr.1 q.2,by have:=T.loc;omega⟩
  ·rw [hmm,hPP,hst]
   rw [hst] at hs
   rcases Zw hs with ⟨hl,hs2⟩ | ⟨hl,hs2⟩
   ·exact (F.rd j s hs2 hk).app (Yan hl)
   ·subst hl
    subst hs2
    have g:GoodRead V.P V.m V.st V.st.length (V.stp i):=by
     obtain ⟨t1,t2⟩:=T.read hk
     have hl:=T.loc
     have hlc:=hrl hk
     obtain ⟨a1,a2,a3⟩:=F.mf (V.stp i).loc.toNat (by omega)
     have hcc:(((V.stp i).loc.toNat:Nat):Int)=(V.stp i).loc:=by omega
     rw [hcc] at a1
     have hp:=H.pnd (t:=i) (c:=(V.stp i).loc) (Zod V.st V.m (V.stp i).loc V.st.length)
     have nl:=Ztc (V.stp i).loc (V.b i) (H.ids i)
     cases hn:Zhk (V.stp i).loc (V.b i) with
     | none =>
      rw [hn] at t1 t2 hp
      dsimp only at t1 t2 hp
      refine ⟨by rw [T.t,hp,t2,a1],fun h=>?_,fun h=>?_,hl.1,by omega⟩
      ·rw [t2] at h ⊢
       obtain ⟨b1,u,b2,b3⟩:=a2 h
       exact ⟨b1,u,b2,by rw [t1];exact b3⟩
      ·rw [t2] at h
       rw [t1];exact a3 h
     | some e =>
      rw [hn] at t1 t2 hp nl
      dsimp only at t1 t2 hp nl
      obtain ⟨k,hk',u,hu,_,_,_,h4',_⟩:=H.ent i e nl.1
      refine ⟨by rw [T.t,hp,t2],fun h=>?_,fun h=>?_,hl.1,by omega⟩
      ·rw [t2,hk',Yb]
       exact ⟨by have:=Zs hu;omega,u,hu,by rw [t1];exact h4'⟩
      ·rw [t2] at h;omega
    exact g.app (Yf _)
 ·obtain ⟨t,p,e,G⟩:=v.flu_step h4 hi
  have hs0:=G.s
  have he:=Yo G.f
  have hel:=v.mem_b he
  refine ⟨v.hist_nx H hi,fun c hc=>?_,fun j s hs hk=>?_⟩
  ·have hwr:wrS (V.stp i) V.m=true:=by rw [hs0];unfold wrS;simp
   by_cases hw:c=e.loc.toNat
   ·have hl:(V.stp i).loc=(c:Int):=by rw [hs0];dsimp only;omega
    have k6:(V.stp i).kind=6:=by rw [hs0]
    obtain ⟨k,hk',u,hu,_,_,_,h4',_⟩:=H.ent t e he
    have hf:(V.stp i).frm=e.id:=by rw [hs0]
    rw [G.frm,G.mem,if_pos hw,if_pos hw,hmm,hst,hlen,hnx,if_pos ⟨hl,hwr⟩,if_pos k6,hf]
    refine ⟨rfl,fun _=>⟨by have:=Zs hu;omega,u,?_,h4'⟩,fun h=>by omega⟩
    rw [hk',Yb];exact Zbz hu
   ·exact oldmf c hc (by rw [G.frm,if_neg hw]) (by rw [G.mem,if_neg hw]) fun q=>hw (by have:=q.1;rw [hs0] at this;dsimp only at this;omega)
  ·rw [hmm,hPP,hst]
   rw [hst] at hs
   rcases Zw hs with ⟨hl,hs2⟩ | ⟨hl,hs2⟩
   ·exact (F.rd j s hs2 hk).app (Yan hl)
   ·rw [hs2,hs0] at hk
    simp at hk
section
variable {E:Env}
end
def tOf (i:Nat):Nat:=if i<4 then i else if i<8 then i - 4 else (i - 8) / 4
theorem stp_tOf (V:MV) (i:Nat):(V.stp i).t=(tOf i:Int):=by
 unfold MV.stp tOf
 by_cases h4:i<4
 ·rw [if_pos h4,if_pos h4];rfl
 ·rw [if_neg h4,if_neg h4]
  by_cases h8:i<8
  ·rw [if_pos h8,if_pos h8];rfl
  ·rw [if_neg h8,if_neg h8];rfl
def brings (u:Stp) (w:Nat) (g:Int):Prop:=(u.kind≠6/\g=(w:Int))∨(u.kind=6/\u.frm=g)
def Zvr (m:Int) (u:Stp) (c:Int):Prop:=wrS u m=true/\u.loc=c
def RdOk (l:List Stp) (m:Int) (i:Nat) (s:Stp):Prop :=
 (s.frm = -1/\∀k u,k<i->l[k]? = some u->¬Zvr m u s.loc) ∨
 (∃w u,w<i/\l[w]? = some u/\Zvr m u s.loc/\brings u w s.frm/\∀k u',w<k->k<i->l[k]? = some u'->¬Zvr m u' s.loc) ∨
 (m≠1/\∃g:Nat,s.frm=(g:Int)/\g<i/\∃q,l[g]? = some q/\q.kind=2/\q.t=s.t/\∀j u,j<i->l[j]? = some u->u.kind=6->u.frm≠(g:Int))
theorem Zkb {α:Type} {l:List α} {x:α} {k:Nat} (h:k<l.length):(l++[x])[k]? = l[k]?:=Yi h
theorem RdOk.app {l:List Stp} {m:Int} {i:Nat} {s x:Stp} (h:RdOk l m i s) (hi:i<=l.length):RdOk (l++[x]) m i s:=by
 rcases h with ⟨h1,h2⟩ | ⟨w,u,h1,h2,h3,h4,h5⟩ | ⟨h0,g,h1,h2,q,h3,h4,h5,h6⟩
 ·exact .inl ⟨h1,fun k u hk hu=>h2 k u hk (by rw [Zkb (by omega)] at hu;exact hu)⟩
 ·exact .inr (.inl ⟨w,u,h1,Zbz h2,h3,h4,fun k u' hk hk' hu=>h5 k u' hk hk' (by rw [Zkb (by omega)] at hu;exact hu)⟩)
 ·exact .inr (.inr ⟨h0,g,h1,h2,q,Zbz h3,h4,h5,fun j u hj hu=>h6 j u hj (by rw [Zkb (by omega)] at hu;exact hu)⟩)
structure Hist3 (V:MV):Prop where
 pk:∀(k:Nat) s,V.st[k]? = some s->∃i:Nat,s.pick=(i:Int)/\s.t=(tOf i:Int)
 loc:∀(k:Nat) s,V.st[k]? = some s->0<=s.loc/\s.loc<4
 fl:∀(j:Nat) u,V.st[j]? = some u->u.kind=6->V.m≠1/\∃g:Nat,u.frm=(g:Int)/\g<j/\∃s,V.st[g]? = some s/\s.kind=2/\s.t=u.t/\s.loc=u.loc
 un:∀(j:Nat) u (j':Nat) u',V.st[j]? = some u->V.st[j']? = some u'->u.kind=6->u'.kind=6->u.frm=u'.frm->j=j'
 mm:∀c:Nat,c<4->(V.frm.getD c 0 = -1/\∀(k:Nat) u,V.st[k]? = some u->¬Zvr V.m u (c:Int))∨∃(w:Nat) (u:Stp),V.st[w]? = some u/\Zvr V.m u (c:Int)/\brings u w (V.frm.getD c 0)/\∀(k:Nat) u',w<k->V.st[k]? = some u'->¬Zvr V.m u' (c:Int)
 rd:∀(i:Nat) s,V.st[i]? = some s->rdS s=true->RdOk V.st V.m i s
theorem Hist3.new (P:PProg) (m:Int):Hist3 (MV.new P m):=by
 have hs:∀(k:Nat) (s:Stp),(MV.new P m).st[k]? = some s->False:=fun k s h=>by
  have:(MV.new P m).st=[]:=rfl
  rw [this] at h;simp at h
 refine ⟨fun k s h=>(hs k s h).elim,fun k s h=>(hs k s h).elim,fun k s h=>(hs k s h).elim,fun j u j' u' h=>(hs j u h).elim,fun c hc=>.inl ⟨?_,fun k u h=>(hs k u h).elim⟩,fun k s h=>(hs k s h).elim⟩
 show ([-1,-1,-1,-1]:List Int).getD c 0 = -1
 rcases (show c=0∨c=1∨c=2∨c=3 by omega) with rfl | rfl | rfl | rfl<;>rfl
theorem wrS_thr {s:Stp} {m:Int} (hk:s.kind<=5):wrS s m=true↔(s.kind=4∨(s.kind=2/\m=1)):=by
 unfold wrS
 simp
 omega
theorem newE_mem {c:Int} {l:List Ent} {e:Ent} (h:Zhk c l=some e):e∈l/\e.loc=c:=by
 unfold Zhk at h
 have h1:=Yo h
 have h2:=Ybe h
 exact ⟨List.mem_reverse.1 h1,by simpa using h2⟩
theorem MV.Inv.hist3_nx {V:MV} (v:V.Inv) (H:Hist V) (H3:Hist3 V) {i:Nat} (hi:V.may i=true):Hist3 (V.nx i):=by
 have hmm:(V.nx i).m=V.m:=(V.nx_P i).2
 have hst:(V.nx i).st=V.st++[V.stp i]:=V.nx_st i
 have hpk:(V.stp i).pick=(i:Int)/\(V.stp i).t=(tOf i:Int):=⟨rfl,stp_tOf V i⟩
 by_cases h4:i<4
 ·have T:=v.thr_step h4 hi
  generalize V.stp i=s at *
  have hk6:s.kind≠6:=by have:=T.kind;omega
  have hw:=wrS_thr (m:=V.m) (show s.kind<=5 by have:=T.kind;omega)
  refine ⟨fun k u hu=>?_,fun k u hu=>?_,fun j u hu h6=>?_,fun j u j' u' hu hu' h6 h6' he=>?_,fun c hc=>?_,fun k u hu hr=>?_⟩
  ·rw [hst] at hu
   rcases Zw hu with ⟨_,hu⟩ | ⟨_,rfl⟩
   ·exact H3.pk k u hu
   ·exact ⟨i,hpk⟩
  ·rw [hst] at hu
   rcases Zw hu with ⟨_,hu⟩ | ⟨_,rfl⟩
   ·exact H3.loc k u hu
   ·exact T.loc
  ·rw [hst] at hu
   rcases Zw hu with ⟨_,hu⟩ | ⟨_,rfl⟩
   ·obtain ⟨h0,g,h1,h2,q,h3,h5⟩:=H3.fl j u hu h6
    exact ⟨by rw [hmm];exact h0,g,h1,h2,q,by rw [hst];exact Zbz h3,h5⟩
   ·exact absurd h6 hk6
  ·rw [hst] at hu hu'
   rcases Zw hu with ⟨_,hu⟩ | ⟨_,rfl⟩
   ·rcases Zw hu' with ⟨_,hu'⟩ | ⟨_,rfl⟩
    ·exact H3.un j u j' u' hu hu' h6 h6' he
    ·exact absurd h6' hk6
   ·exact absurd h6 hk6
  ·rw [hmm,hst,T.frm]
   by_cases hc2:(s.kind=4∨(s.kind=2/\V.m=1))/\c=s.loc.toNat
   ·rw [if_pos hc2]
    refine .inr ⟨V.st.length,s,getI_new,⟨hw.2 hc2.1,by have:=T.loc;omega⟩,.inl ⟨hk6,rfl⟩,fun k u' hk hu=>?_⟩
    have:=Zs hu
    rw [Ye,Yj] at this
    omega
   ·rw [if_neg hc2]
    have hno:¬Zvr V.m s (c:Int):=fun q=>hc2 ⟨hw.1 q.1,by have:=q.2;omega⟩
    rcases H3.mm c hc with ⟨h1,h2⟩ | ⟨w,u,h1,h2,h3,h5⟩
    ·refine .inl ⟨h1,fun k u hu=>?_⟩
     rcases Zw hu with ⟨_,hu⟩ | ⟨_,rfl⟩
     ·exact h2 k u hu
     ·exact hno
    ·refine .inr ⟨w,u,Zbz h1,h2,h3,fun k u' hk hu=>?_⟩
     rcases Zw hu with ⟨_,hu⟩ | ⟨_,rfl⟩
     ·exact h5 k u' hk hu
     ·exact hno
  ·rw [hst] at hu
   rw [hmm,hst]
   rcases Zw hu with ⟨hl,hu⟩ | ⟨hl,rfl⟩
   ·exact (H3.rd k u hu hr).app (by omega)
   ·have hr':u.kind=1∨u.kind=4∨u.kind=5:=by
     unfold rdS at hr
     simp only [Ym,beq_iff_eq] at hr
     omega
    have hrd:=(T.read hr').2
    subst hl
    refine RdOk.app ?_ (Yf _)
    cases hn:Zhk u.loc (V.b i) with
    | some e =>
     rw [hn] at hrd
     dsimp only at hrd
     obtain ⟨he,_⟩:=newE_mem hn
     obtain ⟨g,hg,q,h1,h2,h3,_,_,h6⟩:=H.ent i e he
     refine .inr (.inr ⟨fun hm1=>?_,g,by rw [hrd,hg],Zs h1,q,h1,h2,by rw [h3,T.t],fun j w _ hw h6'=>?_⟩)
     ·rw [H.own hm1] at he;cases he
     ·rw [←hg];exact h6 j w hw h6'
    | none =>
     rw [hn] at hrd
     dsimp only at hrd
     have hl:=T.loc
     have hcc:((u.loc.toNat:Nat):Int)=u.loc:=by omega
     rcases H3.mm u.loc.toNat (by omega) with ⟨h1,h2⟩ | ⟨w,x,h1,h2,h3,h5⟩
     ·refine .inl ⟨by rw [hrd,h1],fun k y _ hy=>?_⟩
      rw [←hcc];exact h2 k y hy
     ·rw [hcc] at h2 h5
      exact .inr (.inl ⟨w,x,Zs h1,h1,h2,by rw [hrd];exact h3,fun k y hk _ hy=>h5 k y hk hy⟩)
 ·obtain ⟨t,p,e,F⟩:=v.flu_step h4 hi
  generalize V.stp i=s at *
  have hem:=Yo F.f
  obtain ⟨g,hg,q,q1,q2,q3,q4,_,q6⟩:=H.ent t e hem
  have hel:=v.mem_b hem
  have hs:=F.s
  have hk:s.kind=6:=by rw [hs]
  have hsl:s.loc=e.loc:=by rw [hs]
  have hsf:s.frm=e.id:=by rw [hs]
  have hst':s.t=(t:Int):=by rw [hs]
  have hw:wrS s V.m=true:=by unfold wrS;rw [hk];rfl
  have hm1:V.m≠1:=by have:=F.m;omega
  refine ⟨fun k u hu=>?_,fun k u hu=>?_,fun j u hu h6=>?_,fun j u j' u' hu hu' h6 h6' he=>?_,fun c hc=>?_,fun k u hu hr=>?_⟩
  ·rw [hst] at hu
   rcases Zw hu with ⟨_,hu⟩ | ⟨_,rfl⟩
   ·exact H3.pk k u hu
   ·exact ⟨i,hpk⟩
  ·rw [hst] at hu
   rcases Zw hu with ⟨_,hu⟩ | ⟨_,rfl⟩
   ·exact H3.loc k u hu
   ·rw [hsl];exact hel
  ·rw [hmm]
   rw [hst] at hu
   rw [hst]
   rcases Zw hu with ⟨_,hu⟩ | ⟨hl,rfl⟩
   ·obtain ⟨h0,g',h1,h2,q',h3,h5⟩:=H3.fl j u hu h6
    exact ⟨h0,g',h1,h2,q',Zbz h3,h5⟩
   ·exact ⟨hm1,g,by rw [hsf,hg],by have:=Zs q1;omega,q,Zbz q1,q2,by rw [q3,hst'],by rw [q4,hsl]⟩
  ·rw [hst] at hu hu'
   rcases Zw hu with ⟨_,ha⟩ | ⟨hl,ha⟩
   ·rcases Zw hu' with ⟨_,hb⟩ | ⟨hl',hb⟩
    ·exact H3.un j u j' u' ha hb h6 h6' he
    ·rw [hb,hsf] at he
     exact absurd he (q6 j u ha h6)
   ·rcases Zw hu' with ⟨_,hb⟩ | ⟨hl',hb⟩
    ·rw [ha,hsf] at he
     exact absurd he.symm (q6 j' u' hb h6')
    ·omega
  ·rw [hmm,hst,F.frm]
   by_cases hc2:c=e.loc.toNat
   ·rw [if_pos hc2]
    refine .inr ⟨V.st.length,s,getI_new,⟨hw,by omega⟩,.inr ⟨hk,hsf⟩,fun k u' hk hu=>?_⟩
    have:=Zs hu
    rw [Ye,Yj] at this
    omega
   ·rw [if_neg hc2]
    have hno:¬Zvr V.m s (c:Int):=fun q=>hc2 (by have:=q.2;omega)
    rcases H3.mm c hc with ⟨h1,h2⟩ | ⟨w,u,h1,h2,h3,h5⟩
    ·refine .inl ⟨h1,fun k u hu=>?_⟩
     rcases Zw hu with ⟨_,hu⟩ | ⟨_,rfl⟩
     ·exact h2 k u hu
     ·exact hno
    ·refine .inr ⟨w,u,Zbz h1,h2,h3,fun k u' hk hu=>?_⟩
     rcases Zw hu with ⟨_,hu⟩ | ⟨_,rfl⟩
     ·exact h5 k u' hk hu
     ·exact hno
  ·rw [hst] at hu
   rw [hmm,hst]
   rcases Zw hu with ⟨hl,hu⟩ | ⟨hl,rfl⟩
   ·exact (H3.rd k u hu hr).app (by omega)
   ·unfold rdS at hr
    rw [hk] at hr
    simp at hr
section
variable {V:MV} (H3:Hist3 V)
include H3
theorem Hist3.came {w:Nat} {u:Stp} {g:Int} (hw:V.st[w]? = some u) (hwr:wrS u V.m=true) (hb:brings u w g):∃g':Nat,g=(g':Int)/\g'<V.st.length/\Zdz V.st V.m g'=(w:Int):=by
 have hlw:=Zs hw
 rcases hb with ⟨h1,h2⟩ | ⟨h1,h2⟩
 ·refine ⟨w,h2,hlw,?_⟩
  unfold Zdz
  rw [hw]
  dsimp only
  rw [if_pos hwr]
 ·obtain ⟨hm,g',hg,hgl,q,hq,hk,_⟩:=H3.fl w u hw h1
  refine ⟨g',by rw [←h2,hg],by omega,?_⟩
  have hwq:¬wrS q V.m=true:=by
   unfold wrS
   rw [hk]
   simp
   exact hm
  unfold Zdz
  rw [hq]
  dsimp only
  rw [if_neg hwq]
  have hcw:Zim g' u=true:=by unfold Zim;rw [h1,hg];simp
  cases hf:V.st.findIdx? (Zim g') with
  | none =>
   rw [Yam] at hf
   have:=hf u (Yr hw)
   rw [hcw] at this;cases this
  | some j =>
   obtain ⟨h3,h4,_⟩:=Yn.1 hf
   unfold Zim at h4
   rw [Yd,beq_iff_eq,beq_iff_eq] at h4
   have:=H3.un j V.st[j] w u (Ya h3) hw h4.1 h1 (by rw [h4.2,hg])
   dsimp only
   omega
theorem Hist3.read {i:Nat} {s:Stp} (hs:V.st[i]? = some s) (hr:rdS s=true) {a b:Nat} (h:Zhb V.st V.m i s a b=true):a<b:=by
 unfold Zhb at h
 have hwrAt:∀k,wrE V.st V.m s.loc k=true->∃u,V.st[k]? = some u/\Zvr V.m u s.loc:=fun k hk=>by
  unfold wrE at hk
  split at hk
  ·rename_i u hu
   rw [Yd,beq_iff_eq] at hk
   exact ⟨u,hu,hk.1,hk.2⟩
  ·cases hk
 rcases H3.rd i s hs hr with ⟨h1,h2⟩ | ⟨w,u,h1,h2,h3,h4,h5⟩ | ⟨h0,g,h1,h2,q,h3,h4,h5,h6⟩
 ·have hf:Zhy V.st V.m s=some (-1):=by unfold Zhy;rw [if_neg (by omega)]
  rw [hf] at h
  simp only [Ym,Yd,decide_eq_true_eq,bne_iff_ne] at h
  rcases h with ⟨⟨⟨_,hx⟩,_⟩,_⟩ | ⟨⟨⟨ha,_⟩,hb⟩,hw⟩
  ·omega
  ·obtain ⟨u,hu,hwa⟩:=hwrAt b hw
   rcases Yag b i with c | c
   ·exact absurd hwa (h2 b u c hu)
   ·omega
 ·obtain ⟨g',hg,hgl,hc⟩:=H3.came h2 h3.1 h4
  have hf:Zhy V.st V.m s=some (w:Int):=by
   unfold Zhy
   rw [if_pos (by omega),hg,Yb,hc,if_neg (by omega)]
  rw [hf] at h
  simp only [Ym,Yd,decide_eq_true_eq,bne_iff_ne] at h
  rcases h with ⟨⟨_,ha⟩,hb⟩ | ⟨⟨⟨ha,hwb⟩,hb⟩,hw⟩
  ·omega
  ·obtain ⟨u',hu,hwa⟩:=hwrAt b hw
   rcases Yag b i with c | c
   ·exact absurd hwa (h5 b u' (by omega) c hu)
   ·omega
 ·have hgl:=Zs h3
  have hfar:farE V.st s=false:=by
   unfold farE
   rw [h1,Yb,h3]
   dsimp only
   rw [h5]
   simp
  have hcm:Zdz V.st V.m g<0∨(i:Int)<Zdz V.st V.m g:=by
   unfold Zdz
   rw [h3]
   dsimp only
   have hwq:¬wrS q V.m=true:=by
    unfold wrS
    rw [h4]
    simp
    exact h0
   rw [if_neg hwq]
   cases hf:V.st.findIdx? (Zim g) with
   | none=>exact .inl (by dsimp only;omega)
   | some j =>
    obtain ⟨h7,h8,_⟩:=Yn.1 hf
    unfold Zim at h8
    rw [Yd,beq_iff_eq,beq_iff_eq] at h8
    refine .inr ?_
    dsimp only
    rcases Ycm j i with c | c | c
    ·exact absurd h8.2 (h6 j _ c (Ya h7) h8.1)
    ·subst c
     have:V.st[j]=s:=by rw [Ya h7] at hs;exact Yar.inj hs
     rw [this] at h8
     unfold rdS at hr
     rw [h8.1] at hr
     simp at hr
    ·omega
  have hf:Zhy V.st V.m s=if Zdz V.st V.m g<0 then none else some (Zdz V.st V.m g):=by
   unfold Zhy
   rw [if_pos (by omega),h1,Yb]
  rw [hf] at h
  by_cases hc:Zdz V.st V.m g<0
  ·rw [if_pos hc] at h;cases h
  ·rw [if_neg hc,hfar] at h
   simp only [Yav,Bool.false_or,Yd,decide_eq_true_eq,bne_iff_ne] at h
   omega
theorem Hist3.rises {a b:Nat} (h:Zfs V.st V.m a b=true):a<b:=by
 unfold Zfs at h
 rw [Ym,Yd,decide_eq_true_eq] at h
 rcases h with h | h
 ·exact h.1
 ·obtain ⟨i,_,hi⟩:=Yay.1 h
  unfold rdE at hi
  split at hi
  ·rename_i s hs
   rw [Yd] at hi
   exact H3.read hs hi.1 hi.2
  ·cases hi
theorem Hist3.way {n k:Nat} (hn:n<=64) {a b:Nat} (w:Way (ACC n (Zfs V.st V.m)) k a b):a<b/\b<n:=by
 induction w with
 | one h =>
  rw [Zkz hn,Yd,Yd,decide_eq_true_eq,decide_eq_true_eq] at h
  exact ⟨H3.rises h.2,h.1.2⟩
 | step h _ _ ih =>
  rw [Zkz hn,Yd,Yd,decide_eq_true_eq,decide_eq_true_eq] at h
  have:=H3.rises h.2
  omega
theorem Hist3.hb_rises (hn:V.st.length<=64) {a b:Nat} (ha:a<V.st.length) (h:(hbF V.st V.m a).testBit b=true):a<b/\b<V.st.length :=
 H3.way hn ((clK_way _ _ _ (Yf _) a b ha).1 h)
end

structure Told (V:MV):Prop where
 inv:V.Inv
 h:Hist V
 h3:Hist3 V
 fst:First V
 fwd:Fwd V
 ll:V.P.locs.length=V.P.init.length
theorem Told.new {P:PProg} {m:Int} (v:(MV.new P m).Inv) (hi:P.init.length<=4) (hl:P.locs.length=P.init.length):Told (MV.new P m) :=
 ⟨v,Hist.new P m,Hist3.new P m,First.new P m,Fwd.new hi,hl⟩
theorem Told.nx {V:MV} (T:Told V) {i:Nat} (hi:V.may i=true):Told (V.nx i) :=
 ⟨T.inv.nx hi,T.inv.hist_nx T.h hi,T.inv.hist3_nx T.h T.h3 hi,T.inv.first_nx T.fst hi,T.inv.fwd_nx T.fwd T.ll hi,by rw [(V.nx_P i).1];exact T.ll⟩
theorem Zq774 {α:Type} {l:List α} {k g:Nat} {s:α}:(l.take k)[g]? = some s↔g<k/\l[g]? = some s:=by
 rw [Yao]
 by_cases h:g<k
 ·rw [if_pos h];exact ⟨fun q=>⟨h,q⟩,fun q=>q.2⟩
 ·rw [if_neg h];exact ⟨(fun q=>by cases q),(fun q=>absurd q.1 h)⟩
theorem MV.runs_app {V:MV} {a b:List Int} (hw:V.whole a):V.runs (a++b)=(V.runs a).runs b:=by
 show (V.runG (a++b)).1=_
 rw [MV.runG_append a b V hw];rfl
theorem MV.runs_pre:∀(l:List Int) (V:MV),∃t,(V.runs l).st=V.st++t
 | [],V=>⟨[],by rw [Ybv];rfl⟩
 | p :: ps,V=>by
  unfold MV.runs
  rw [MV.runG_cons]
  by_cases h:Zib V p=true
  ·rw [if_pos h]
   obtain ⟨t,ht⟩:=MV.runs_pre ps (V.nx p.toNat)
   refine ⟨V.stp p.toNat :: t,?_⟩
   show ((V.nx p.toNat).runs ps).st=_
   rw [ht,V.nx_st,Yu];rfl
  ·rw [if_neg h];exact ⟨[],by rw [Ybv]⟩
structure Ran (V:MV) (row:List Int):Prop where
 z:Told V
 st0:V.st=[]
 w:V.whole row
section
variable {V:MV} {row:List Int} (r:Ran V row)
include r
theorem Ran.len:(V.runs row).st.length=row.length:=by
 rw [MV.runs_st r.z.inv r.w,r.st0,Yaa,Yaj]
theorem Ran.told:∀k,k<=row.length->Told (V.runs (row.take k))
 | 0,_=>r.z
 | k+1,h=>by
  obtain ⟨p,_,h2,h3⟩:=MV.whole_get r.w (show k<row.length from h)
  rw [h3]
  exact (Ran.told k (by omega)).nx h2
theorem Ran.end:Told (V.runs row):=by
 have:=r.told row.length (Yf _)
 rwa [Yaq] at this
theorem Ran.stk {k:Nat} (h:k<=row.length):(V.runs (row.take k)).st=(V.runs row).st.take k:=by
 have hk:=MV.runs_st r.z.inv (MV.whole_take r.w k)
 rw [r.st0,Yaa,Yaj,Yt,Yak h] at hk
 obtain ⟨t,ht⟩:=MV.runs_pre (row.drop k) (V.runs (row.take k))
 rw [←MV.runs_app (MV.whole_take r.w k),Yba] at ht
 rw [ht,Yab (Nat.le_of_eq hk.symm)]
 exact (Yac (Nat.le_of_eq hk)).symm
theorem Ran.keepE:(V.runs row).P=V.P/\(V.runs row).m=V.m:=(MV.runs_inv r.z.inv row).2
theorem Ran.step {i:Nat} (hi:i<row.length):∃p:Nat,row[i]? = some (p:Int)/\(V.runs (row.take i)).may p=true/\V.runs (row.take (i+1))=(V.runs (row.take i)).nx p/\(V.runs row).st[i]? = some ((V.runs (row.take i)).stp p)/\((V.runs (row.take i)).stp p).pick=(p:Int):=by
 obtain ⟨p,h1,h2,h3⟩:=MV.whole_get r.w hi
 refine ⟨p,h1,h2,h3,?_,rfl⟩
 have e:=r.stk (show i+1<=row.length from hi)
 rw [h3,MV.nx_st] at e
 have h4:((V.runs row).st.take (i+1))[i]? = some ((V.runs (row.take i)).stp p):=by
  rw [←e,Yk (by rw [r.stk (Yan hi),Yt];omega),r.stk (Yan hi),Yt,r.len,Yak (Yan hi),Nat.sub_self];rfl
 exact (Zq774.1 h4).2
end
def waits (m:Int) (l:List Stp) (t c:Int) (g:Nat):Prop:=m≠1/\∃q,l[g]? = some q/\q.kind=2/\q.t=t/\q.loc=c/\∀(j:Nat) (u:Stp),l[j]? = some u->u.kind=6->u.frm≠(g:Int)
section
variable {V:MV} (T:Told V) {t:Nat} {c:Int}
include T
end
section base
variable {l:List Stp} {m:Int}
theorem Zq789 {a b:Nat} {x y:Stp} (hab:a<b) (hx:l[a]? = some x) (hy:l[b]? = some y) (h:Znj x y m a=true):Zfs l m a b=true:=by
 have:Ztw l m a b=true:=by unfold Ztw;rw [hx,hy];exact h
 unfold Zfs
 rw [decide_eq_true hab,this];rfl
theorem Zq756 {a b:Nat} {x y:Stp} (hab:a<b) (hx:l[a]? = some x) (hy:l[b]? = some y) (h:x.pick=y.pick):Zfs l m a b=true :=
 Zq789 hab hx hy (by unfold Znj;rw [h,beq_self_eq_true];simp)
end base
def frmR (D:List Nat) (a b:Int):Prop:=(a<0/\b=a)∨∃f k:Nat,a=(f:Int)/\b=(k:Int)/\D[k]? = some f
structure SameS (D:List Nat) (s s':Stp):Prop where
 pick:s'.pick=s.pick
 t:s'.t=s.t
 kind:s'.kind=s.kind
 loc:s'.loc=s.loc
 r:s'.r=s.r
 w:s'.w=s.w
 frm:frmR D s.frm s'.frm
def evP (t:Nat) (s:Stp):Bool:=s.t==(t:Int)&&s.kind != 6
structure Part (V:MV) (row:List Int) (D:List Nat) (W:MV):Prop where
 told:Told W
 P:W.P=V.P
 m:W.m=V.m
 len:W.st.length=D.length
 st:∀(k d:Nat),D[k]? = some d->∃s s',(V.runs row).st[d]? = some s/\W.st[k]? = some s'/\SameS D s s'
 nd:∀(k k' d:Nat),D[k]? = some d->D[k']? = some d->k=k'
 cl:∀(k d:Nat),D[k]? = some d->∀a,Zfs (V.runs row).st V.m a d=true->∃k',k'<k/\D[k']? = some a
 loc:∀t:Nat,t<4->∃c,c<=row.length/\(∀(d:Nat) s,(V.runs row).st[d]? = some s->s.pick=(t:Int)->(d∈D↔d<c))/\W.l t=(V.runs (row.take c)).l t/\W.st.countP (evP t)=((V.runs row).st.take c).countP (evP t)
section
variable {V W:MV} {row:List Int} (r:Ran V row) {D:List Nat} (p:Part V row D W)
include p
include r
variable {i:Nat} {s:Stp} (hs:(V.runs row).st[i]? = some s) (hi:i ∉ D) (hcl:∀a,Zfs (V.runs row).st V.m a i=true->a∈D)
include hs hi hcl
end



section
variable {E:Env}
end
section
variable (C:Zk) (L:Zbl) (G:Glo)
variable {h h0:Za}
variable {x0 x1 x6 x24 x30:Cell}
variable {a0 a7 a8 a25 a26 a27 a31 a32 a38 a39:Int}
variable {l0 l1 l7 s0 s1 s2:List Cell}
def q2_k2 (h0:Za):Ex->St->Rs:=Zae (fun st=>q2_p1.exec C L G st (q2.fin G h0)) (q2.fin G h0)
def q2_k3 (h0:Za):Ex->St->Rs:=Zap 0 (q2_k2 C L G h0)
def q2_s2 (x1 x6:Cell) (a26 a27:Int) (s1:List Cell) (h:Za):St:=⟨tops 1 (.v (.c x1) :: tops 3 (.loc 1 0 :: .v (.c x6) :: tops 19 (.v (.c (.int .i64 a26)) :: .v (.c (.int .i64 a27)) :: tops 31 []))),[none,some s1],h⟩
def q2_F2 :St->Option (Ex × St):=Zo (q2_b2.exec C L G) [1,5,6,26,27] [1] [(1,[6],[])]
def q2_k4 :Ex->St->Option (Ex × St):=Zae (fun st=>q2_p2.exec C L G st (Zaf [1,5,6,26,27] [1] [(1,[6],[])])) (Zaf [1,5,6,26,27] [1] [(1,[6],[])])
def q2_k5 :Ex->St->Option (Ex × St):=Zap 1 (q2_k4 C L G)
def q2_k6 :Ex->St->Option (Ex × St):=Zap 2 (q2_k5 C L G)
def q2_s1 (x1 x6:Cell) (a7 a26 a27:Int) (x30:Cell) (a31 a32:Int) (s1:List Cell) (h:Za):St:=⟨tops 1 (.v (.c x1) :: tops 3 (.loc 1 0 :: .v (.c x6) :: .v (.c (.int .i64 a7)) :: tops 18 (.v (.c (.int .i64 a26)) :: .v (.c (.int .i64 a27)) :: tops 2 (.v (.c x30) :: .v (.c (.int .i64 a31)) :: .v (.c (.int .i64 a32)) :: tops 26 [])))),[none,some s1],h⟩
def q2_F1 :St->Option (Ex × St):=Zo (q2_b1.exec C L G) [1,5,6,7,26,27,30,31,32] [1] [(3,[1,5,6,26,27],[1])]
def q2_x1_3 (x1 x6:Cell) (a26 a27:Int) (s1:List Cell) (h:Za):St:=⟨tops 1 (.v (.c x1) :: tops 3 (.loc 1 0 :: .v (.c x6) :: tops 19 (.v (.c (.int .i64 a26)) :: .v (.c (.int .i64 a27)) :: tops 31 []))),[none,some s1],h⟩
def q2_x2_1 (x6:Cell) (h:Za):St:=⟨tops 6 (.v (.c x6) :: tops 52 []),[none,none],h⟩
theorem q2_r1:q2_F1 C L G (q2_s1 x1 x6 a7 a26 a27 x30 a31 a32 s1 h)=if (decide (a32<a31))=true then Zm 1 x30 a32 fun k N o=>Zn h k N fun l=>Zf l o fun q=>Zi .i64 (.c q) fun n=>scK (a32==a7) false (if 0=0/\s1.length=65 then c1 (C 3 [(.agg s1),(.c (.int .i64 a32)),(.c (.int .i64 a7))] h) fun y h=>asB y fun b=>some (b,h) else none) true h fun b h1=>if b=true then c1 (qh h1 (C 15 [(.c (.int .i64 n))] h1)) fun y h2=>Zi .i64 y fun n=>Zm 24 x6 a7 fun k N o=>if 0<=n/\n<((24:Nat):Int) then Zn h1 k N fun l=>Zf l (o+((Yz n)*1)) fun q=>Zi .i64 (.c q) fun n1=>Zm 24 x6 a7 fun k N o=>if 0<=n/\n<((24:Nat):Int) then Zn h1 k N fun l=>if (o+((Yz n)*1))<l.length then Zbh h1 k (l.set (o+((Yz n)*1)) (.int .i64 (G.wrap .i64 (n1+1)))) fun h2=>some (.normal,(q2_s1 x1 x6 a7 a26 a27 x30 a31 (G.wrap .i64 (a32+1)) s1 h2)) else none else none else none else some (.normal,(q2_s1 x1 x6 a7 a26 a27 x30 a31 (G.wrap .i64 (a32+1)) s1 h1)) else some ((.exit 2),(q2_x1_3 x1 x6 a26 a27 s1 h)):=by kernel_rfl
theorem q2_e1_3:(q2_k6 C L G) (.exit 2) (q2_x1_3 x1 x6 a26 a27 s1 h)=some (.normal,(q2_s2 x1 x6 a26 (G.wrap .i64 (a27+1)) s1 h)):=by kernel_rfl
theorem q2_r2:q2_F2 C L G (q2_s2 x1 x6 a26 a27 s1 h)=if (decide (a27<a26))=true then Zaj x1 fun n=>(L (q2_F1 C L G) (q2_s1 x1 x6 a27 a26 a27 x1 n 0 s1 h)).bind fun p=>(q2_k6 C L G) p.1 p.2 else some ((.exit 0),(q2_x2_1 x6 h)):=by kernel_rfl
theorem q2_e2_1:(q2_k3 C L G h0) (.exit 0) (q2_x2_1 x6 h)=some ([(.c x6)],h):=by kernel_rfl
theorem q2_eq:q2.body C L G [(.agg l0),(.c x1)] h0=Zaj x1 fun n=>scK (decide (n > 64)) false (if 0=0/\l0.length=65 then c1 (C 14 [(.agg l0)] h0) fun y h=>Zi .i64 y fun n=>Zaj x1 fun n1=>some ((n != n1),h) else none) true h0 fun b h=>if b=true then some ([(.c .nils)],h) else if 0=0/\l0.length=65 then c1 (C 12 [(.agg l0)] h) fun y h=>asA y fun l=>if 0=0/\([ci0]++Yc 64 (Cell.int .u64 0)).length=65/\l.length=65 then Zaj x1 fun n=>if 0<=n/\n<=n/\(Yz n)*192<=maxBytes/\n<=(maxBytes:Nat) then Zaj x1 fun n1=>(L (q2_F2 C L G) (q2_s2 x1 (.sl h.length ((rep (Yz n) (Yc 24 ci0)).length) 0 (Yz n)) n1 0 l (h++[some (Blk.mk true 24 (rep (Yz n) (Yc 24 ci0)))]))).bind fun p=>(q2_k3 C L G h0) p.1 p.2 else none else none else none:=by kernel_rfl
def q8_k2 (h0:Za):Ex->St->Rs:=Zae (fun st=>q8_p1.exec C L G st (q8.fin G h0)) (q8.fin G h0)
def q8_k3 (h0:Za):Ex->St->Rs:=Zap 0 (q8_k2 C L G h0)
def q8_s1 (l7:List Cell) (a8:Int) (s0 s2:List Cell) (h:Za):St:=⟨tops 2 (.loc 0 0 :: tops 1 (.loc 2 0 :: tops 2 (.v (.agg l7) :: .v (.c (.int .i64 a8)) :: tops 12 []))),[some s0,none,some s2],h⟩
def q8_F1 :St->Option (Ex × St):=Zo (q8_b1.exec C L G) [2,4,7,8] [0,2] [(1,[2,4],[0,2])]
def q8_x1_1 (s0 s2:List Cell) (h:Za):St:=⟨tops 2 (.loc 0 0 :: tops 1 (.loc 2 0 :: tops 16 [])),[some s0,none,some s2],h⟩
theorem q8_r1:q8_F1 C L G (q8_s1 l7 a8 s0 s2 h)=if (decide (a8<24))=true then if 0<=a8/\a8<((24:Nat):Int) then Zf l7 (Yz a8) fun q=>Zi .i64 (.c q) fun n=>if 0<=a8/\a8<((24:Nat):Int) then Zf s0 (0+((Yz a8)*1)) fun q=>Zi .i64 (.c q) fun n1=>if 0<=a8/\a8<((24:Nat):Int) then if (0+((Yz a8)*1))<s0.length then some (.normal,(q8_s1 l7 (G.wrap .i64 (a8+1)) (s0.set (0+((Yz a8)*1)) (.int .i64 (if n > n1 then n else n1))) s2 h)) else none else none else none else none else some ((.exit 0),(q8_x1_1 s0 s2 h)):=by kernel_rfl
theorem q8_e1_1:(q8_k3 C L G h0) (.exit 0) (q8_x1_1 s0 s2 h)=if 0=0/\s0.length=24 then if 0=0/\s2.length=24/\s0.length=24 then if 0=0/\s0.length=24 then some ([(.agg s0)],h) else none else none else none:=by kernel_rfl
theorem q8_eq:q8.body C L G [(.agg l0),(.agg l1)] h0=if 0=0/\l1.length=24 then (L (q8_F1 C L G) (q8_s1 l1 0 l0 (Yc 24 ci0) h0)).bind fun p=>(q8_k3 C L G h0) p.1 p.2 else none:=by kernel_rfl
def q11_k2 (h0:Za):Ex->St->Rs:=Zae (fun st=>q11_p1.exec C L G st (q11.fin G h0)) (q11.fin G h0)
def q11_k3 (h0:Za):Ex->St->Rs:=Zap 0 (q11_k2 C L G h0)
def q11_s2 (x0 x1 x24:Cell) (a25 a26:Int) (s0 s1 s2:List Cell) (h:Za):St:=⟨.v (.c x0) :: .v (.c x1) :: tops 2 (.loc 0 0 :: .loc 1 0 :: .loc 2 0 :: tops 17 (.v (.c x24) :: .v (.c (.int .i64 a25)) :: .v (.c (.int .i64 a26)) :: tops 39 [])),[some s0,some s1,some s2],h⟩
def q11_F2 :St->Option (Ex × St):=Zo (q11_b2.exec C L G) [0,1,4,5,6,24,25,26] [0,1,2] [(1,[4,5],[0,1])]
def q11_k4 :Ex->St->Option (Ex × St):=Zae (fun st=>q11_p2.exec C L G st (Zaf [0,1,4,5,6,24,25,26] [0,1,2] [(1,[4,5],[0,1])])) (Zaf [0,1,4,5,6,24,25,26] [0,1,2] [(1,[4,5],[0,1])])
def q11_k5 :Ex->St->Option (Ex × St):=Zap 1 (q11_k4 C L G)
def q11_k6 :Ex->St->Option (Ex × St):=Zap 2 (q11_k5 C L G)
def q11_s1 (x0 x1:Cell) (a7 a8:Int) (x24:Cell) (a25 a26:Int) (a38 a39:Int) (s0 s1 s2:List Cell) (h:Za):St:=⟨.v (.c x0) :: .v (.c x1) :: tops 2 (.loc 0 0 :: .loc 1 0 :: .loc 2 0 :: .v (.c (.int .i64 a7)) :: .v (.c (.int .i64 a8)) :: tops 15 (.v (.c x24) :: .v (.c (.int .i64 a25)) :: .v (.c (.int .i64 a26)) :: tops 11 (.v (.c (.int .i64 a38)) :: .v (.c (.int .i64 a39)) :: tops 26 []))),[some s0,some s1,some s2],h⟩
def q11_F1 :St->Option (Ex × St):=Zo (q11_b1.exec C L G) [0,1,4,5,6,7,8,24,25,26,38,39] [0,1,2] [(3,[0,1,4,5,6,24,25,26],[0,1,2])]
def q11_x1_3 (x0 x1 x24:Cell) (a25 a26:Int) (s0 s1 s2:List Cell) (h:Za):St:=⟨.v (.c x0) :: .v (.c x1) :: tops 2 (.loc 0 0 :: .loc 1 0 :: .loc 2 0 :: tops 17 (.v (.c x24) :: .v (.c (.int .i64 a25)) :: .v (.c (.int .i64 a26)) :: tops 39 [])),[some s0,some s1,some s2],h⟩
def q11_x2_1 (s0 s1:List Cell) (h:Za):St:=⟨tops 4 (.loc 0 0 :: .loc 1 0 :: tops 60 []),[some s0,some s1,none],h⟩
theorem q11_r1:q11_F1 C L G (q11_s1 x0 x1 a7 a8 x24 a25 a26 a38 a39 s0 s1 s2 h)=if (decide (a39<a38))=true then scK (a7 != a39) true (c1 (qh h (C 15 [(.c (.int .i64 a8))] h)) fun y h1=>Zi .i64 y fun n=>Zm 24 x0 a39 fun k N o=>if 0<=n/\n<((24:Nat):Int) then Zn h k N fun l=>Zf l (o+((Yz n)*1)) fun q=>Zi .i64 (.c q) fun n=>c1 (qh h (C 15 [(.c (.int .i64 a8))] h)) fun y h1=>Zi .i64 y fun n1=>if 0<=n1/\n1<((24:Nat):Int) then Zf s2 (0+((Yz n1)*1)) fun q=>Zi .i64 (.c q) fun n1=>some ((decide (n>=n1)),h) else none else none) false h fun b h1=>if b=true then if 0=0/\s1.length=65 then c1 (C 10 [(.agg s1),(.c (.int .i64 a7)),(.c (.int .i64 a39))] h1) fun y h2=>asA y fun l=>if 0=0/\s1.length=65/\l.length=65 then some (.normal,(q11_s1 x0 x1 a7 a8 x24 a25 a26 a38 (G.wrap .i64 (a39+1)) s0 l s2 h2)) else none else none else some (.normal,(q11_s1 x0 x1 a7 a8 x24 a25 a26 a38 (G.wrap .i64 (a39+1)) s0 s1 s2 h1)) else some ((.exit 2),(q11_x1_3 x0 x1 x24 a25 a26 s0 s1 s2 h)):=by kernel_rfl
theorem q11_e1_3:(q11_k6 C L G) (.exit 2) (q11_x1_3 x0 x1 x24 a25 a26 s0 s1 s2 h)=some (.normal,(q11_s2 x0 x1 x24 a25 (G.wrap .i64 (a26+1)) s0 s1 s2 h)):=by kernel_rfl
theorem q11_r2:q11_F2 C L G (q11_s2 x0 x1 x24 a25 a26 s0 s1 s2 h)=if (decide (a26<a25))=true then Zm 1 x24 a26 fun k N o=>Zn h k N fun l=>Zf l o fun q=>Zi .i64 (.c q) fun n=>c1 (C 15 [(.c (.int .i64 n))] h) fun y h1=>Zi .i64 y fun n1=>if 0<=n1/\n1<((24:Nat):Int) then Zf s2 (0+((Yz n1)*1)) fun q=>Zi .i64 (.c q) fun n2=>if 0<=n1/\n1<((24:Nat):Int) then if (0+((Yz n1)*1))<s2.length then Zaj x1 fun n3=>(L (q11_F1 C L G) (q11_s1 x0 x1 a26 n x24 a25 a26 n3 0 s0 s1 (s2.set (0+((Yz n1)*1)) (.int .i64 (G.wrap .i64 (n2+1)))) h1)).bind fun p=>(q11_k6 C L G) p.1 p.2 else none else none else none else some ((.exit 0),(q11_x2_1 s0 s1 h)):=by kernel_rfl
theorem q11_e2_1:(q11_k3 C L G h0) (.exit 0) (q11_x2_1 s0 s1 h)=if 0=0/\s1.length=65 then if 0=0/\s0.length=65/\s1.length=65 then if 0=0/\s1.length=65 then some ([(.agg s1)],h) else none else none else none:=by kernel_rfl
theorem q11_eq:q11.body C L G [(.c x0),(.c x1)] h0=Zaj x1 fun n=>scK (decide (n > 64)) false (Zaj x0 fun n=>Zaj x1 fun n1=>some ((decide (n<n1)),h0)) true h0 fun b h=>if b=true then c1 (C 9 [(.c (.int .i64 0))] h) fun y h1=>asA y fun l=>if 0=0/\([ci0]++Yc 64 (Cell.int .u64 0)).length=65/\l.length=65 then if 0=0/\l.length=65 then some ([(.agg l)],h1) else none else none else Zaj x1 fun n=>c1 (C 9 [(.c (.int .i64 n))] h) fun y h=>asA y fun l=>if 0=0/\([ci0]++Yc 64 (Cell.int .u64 0)).length=65/\l.length=65 then Zaj x1 fun n=>(L (q11_F2 C L G) (q11_s2 x0 x1 x1 n 0 ([ci0]++Yc 64 (Cell.int .u64 0)) l (Yc 24 ci0) h)).bind fun p=>(q11_k3 C L G h0) p.1 p.2 else none:=by kernel_rfl
theorem q15_eq:q15.body C L G [(.c (.int .i64 a0))] h0=scK (decide (a0<0)) false (some ((decide (a0>=24)),h0)) true h0 fun b h=>if b=true then some ([(.c (.int .i64 0))],h) else some ([(.c (.int .i64 a0))],h):=by kernel_rfl
end
section
def Zaw (v:Nat->Int):List Cell:=(Yv 24).map fun p=>.int .i64 (v p)
theorem Zby (v:Nat->Int):(Zaw v).length=24:=by simp [Zaw]
theorem Zew {v:Nat->Int} {p:Nat} (hp:p<24):(Zaw v)[p]? = some (.int .i64 (v p)):=by
 rw [Zaw,List.getElem?_map,List.getElem?_range hp];rfl
theorem Zgz {v w:Nat->Int} (h:∀p,p<24->v p=w p):Zaw v=Zaw w:=by
 unfold Zaw
 refine List.map_congr_left fun p hp=>?_
 rw [h p (by simpa using hp)]
theorem vecL_set {v:Nat->Int} {p:Nat} {x:Int}:(Zaw v).set p (.int .i64 x)=Zaw fun q=>if q=p then x else v q:=by
 refine Yal fun j=>?_
 rw [Ybm,Zby]
 by_cases hj:j<24
 ·rw [Zew hj,Zew hj]
  by_cases hp:p=j
  ·subst hp;simp [hj]
  ·have:¬j=p:=fun q=>hp q.symm
   rw [if_neg hp,if_neg this]
 ·have h1:(Zaw v)[j]? = none:=Yg (by rw [Zby];omega)
  have h2:(Zaw fun q=>if q=p then x else v q)[j]? = none:=Yg (by rw [Zby];omega)
  rw [h1,h2]
  split
  ·rw [if_neg (by omega)]
  ·rfl
theorem zero24:Yc 24 ci0=Zaw fun _=>0:=rfl
theorem Ztk (v w:Nat->Int):alike (Zaw v) (Zaw w)=true:=by
 unfold Zaw
 generalize Yv 24=l
 induction l with
 | nil=>rfl
 | cons a l ih=>simp only [List.map_cons,alike,alike1,decide_true,Yah];exact ih
variable {E:Env}
def Zen (v w:Nat->Int):Nat->Int:=fun p=>if w p > v p then w p else v p
theorem Join_R (hE:q8_In E) (v w:Nat->Int) (h:Za):R E 8 [.agg (Zaw v),.agg (Zaw w)] h=some ([.agg (Zaw (Zen v w))],h):=by
 refine Zd hE.fn ?_
 have loop:Zx (q8_F1 (R E) Zx E.glob) (q8_s1 (Zaw w) ((0:Nat):Int) (Zaw fun p=>if p<0 then Zen v w p else v p) (Zaw fun _=>0) h)=some (.exit 0,q8_x1_1 (Zaw fun p=>if p<24 then Zen v w p else v p) (Zaw fun _=>0) h):=by
  refine Zao (fun i=>q8_s1 (Zaw w) (i:Int) (Zaw fun p=>if p<i then Zen v w p else v p) (Zaw fun _=>0) h) 0 24 (by omega) (fun i _ hi=>?_) (Zl ?_)
  ·have q1:0<=(i:Int)/\(i:Int)<((24:Nat):Int):=by omega
   have e:(Zaw fun q=>if q=i then (if w i > (if i<i then Zen v w i else v i) then w i else (if i<i then Zen v w i else v i)) else (if q<i then Zen v w q else v q))=Zaw fun p=>if p<i+1 then Zen v w p else v p:=by
    refine Zgz fun p _=>?_
    by_cases h1:p=i
    ·subst h1
     simp only [if_pos trivial,if_neg (Ycf p),if_pos (Nat.lt_succ_self p),if_true]
     rfl
    ·rw [if_neg h1]
     by_cases h2:p<i
     ·rw [if_pos h2,if_pos (by omega)]
     ·rw [if_neg h2,if_neg (by omega)]
   rw [q8_r1,if_pos (by simp;omega),if_pos q1,Yb,Zak (Zew hi),asI_ok,if_pos q1,show 0+i*1=i by omega,Zak (Zew hi),asI_ok,if_pos q1,if_pos (by rw [Zby];omega),vecL_set,e,Zr (by omega)]
  ·rw [q8_r1,if_neg (by simp)]
 have e0:(Zaw fun p=>if p<0 then Zen v w p else v p)=Zaw v:=Zgz fun p _=>if_neg (by omega)
 have e1:(Zaw fun p=>if p<24 then Zen v w p else v p)=Zaw (Zen v w):=Zgz fun p hp=>if_pos hp
 rw [e0,e1] at loop
 rw [q8_eq,if_pos ⟨rfl,Zby _⟩,zero24,show q8_s1 (Zaw w) 0 (Zaw v) (Zaw fun _=>0) h=q8_s1 (Zaw w) ((0:Nat):Int) (Zaw v) (Zaw fun _=>0) h from rfl,loop,bind_ok,q8_e1_1]
 simp only [Zby,and_self,if_true]
def pk (a:Int):Nat:=if 0<=a/\a<24 then a.toNat else 0
theorem pk_lt (a:Int):pk a<24:=by unfold pk;split<;>omega
theorem pick_R (hE:q15_In E) (a:Int) (h:Za):R E 15 [.c (.int .i64 a)] h=some ([.c (.int .i64 (pk a:Nat))],h):=by
 refine Zd hE.fn ?_
 rw [q15_eq,scK_or]
 unfold pk
 by_cases ha:0<=a/\a<24
 ·rw [if_neg (by simp;omega),if_pos ha,Int.toNat_of_nonneg ha.1]
 ·rw [if_pos (by simp;omega),if_neg ha];rfl
def Zcu (n:Nat) (V:Nat->Nat->Int):List Cell:=(Yv n).flatMap fun i=>Zaw (V i)
theorem Znp (n:Nat) (V:Nat->Nat->Int):Zcu (n+1) V=Zcu n V++Zaw (V n):=by
 unfold Zcu;rw [Yat,List.flatMap_append];simp
theorem matL_len (V:Nat->Nat->Int):∀n,(Zcu n V).length=n*24
 | 0=>rfl
 | n+1=>by rw [Znp,Ye,matL_len V n,Zby];omega
theorem Zjp {V:Nat->Nat->Int} {i p:Nat} (hp:p<24):∀{n},i<n->(Zcu n V)[i*24+p]? = some (.int .i64 (V i p))
 | 0,h=>by omega
 | n+1,h=>by
  rw [Znp]
  by_cases hi:i<n
  ·rw [Yi (by rw [matL_len];omega)];exact Zjp hp hi
  ·have:i=n:=by omega
   subst this
   rw [Yk (by rw [matL_len];omega),matL_len,Nat.add_sub_cancel_left]
   exact Zew hp
theorem Zqc {V:Nat->Nat->Int} {n j:Nat} (hj:j<n*24):(Zcu n V)[j]? = some (.int .i64 (V (j / 24) (j % 24))):=by
 have:=Zjp (V:=V) (i:=j / 24) (p:=j % 24) (by omega) (n:=n) (by omega)
 rw [show j / 24*24+j % 24=j by omega] at this;exact this
theorem Zhc {n:Nat} {V W:Nat->Nat->Int} (h:∀i p,i<n->p<24->V i p=W i p):Zcu n V=Zcu n W:=by
 refine Yal fun j=>?_
 by_cases hj:j<n*24
 ·rw [Zqc hj,Zqc hj,h _ _ (by omega) (by omega)]
 ·rw [Yg (by rw [matL_len];omega),Yg (by rw [matL_len];omega)]
theorem matL_set {n:Nat} {V:Nat->Nat->Int} {i p:Nat} {x:Int} (hp:p<24):(Zcu n V).set (i*24+p) (.int .i64 x)=Zcu n fun a q=>if a=i/\q=p then x else V a q:=by
 refine Yal fun j=>?_
 rw [Ybm,matL_len]
 by_cases hj:j<n*24
 ·rw [Zqc hj,Zqc hj]
  by_cases hip:i*24+p=j
  ·rw [if_pos hip,if_pos (by omega),if_pos (by omega)]
  ·rw [if_neg hip,if_neg (by omega)]
 ·rw [Yg (by rw [matL_len];omega),Yg (by rw [matL_len];omega)]
  split
  ·rw [if_neg (by omega)]
  ·rfl
theorem matL_row {n:Nat} {V:Nat->Nat->Int} {i:Nat} (hi:i<n):((Zcu n V).drop (i*24)).take 24=Zaw (V i):=by
 refine Yal fun j=>?_
 rw [Yao,Ybk]
 by_cases hj:j<24
 ·rw [if_pos hj,Zjp hj hi,Zew hj]
 ·rw [if_neg hj,Yg (by rw [Zby];omega)]
theorem rep_zero (n:Nat):rep n (Yc 24 ci0)=Zcu n fun _ _=>0:=by
 induction n with
 | zero=>rfl
 | succ n ih =>
  rw [Znp,←ih]
  unfold rep
  rw [List.replicate_succ',List.flatten_append,zero24];simp
theorem SlAt.getM {α:Type} {h:Za} {x:Cell} {n:Nat} {V:Nat->Nat->Int} (s:SlAt h x 24 (Zcu n V) n) {i p:Nat} (hi:i<n) (hp:p<24) {f:Cell->Option α} :
  (Zm 24 x (i:Int) fun k N o=>if 0<=(p:Int)/\(p:Int)<((24:Nat):Int) then Zn h k N fun l=>Zf l (o+((Yz (p:Int))*1)) f else none)=f (.int .i64 (V i p)):=by
 have q1:0<=(p:Int)/\(p:Int)<((24:Nat):Int):=by omega
 simp only [if_pos q1,Yb,Nat.mul_one]
 exact s.get hi hp (Zjp hp hi)
def Zfy (P:Nat->Bool) (m:Nat):Nat:=((Yv m).filter P).length
theorem Zdq (P:Nat->Bool) (m:Nat):Zfy P (m+1)=Zfy P m+if P m then 1 else 0:=by
 unfold Zfy
 rw [Yat,Yau,Ye]
 by_cases h:P m=true<;>simp [h]
theorem Zvb (P:Nat->Bool) (m:Nat):Zfy P m<=m:=by
 unfold Zfy;exact Yy (Ycb _ _) (by simp)
theorem Zgs {P Q:Nat->Bool}:∀m,(∀k,k<m->P k=true->Q k=true)->Zfy P m<=Zfy Q m
 | 0,_=>by simp [Zfy]
 | m+1,h=>by
  have ih:=Zgs m fun k hk=>h k (by omega)
  rw [Zdq,Zdq]
  by_cases hp:P m=true
  ·rw [if_pos hp,if_pos (h m (by omega) hp)];omega
  ·rw [if_neg hp];split<;>omega
theorem Zq733 {P Q:Nat->Bool} {m:Nat} (h:∀k,k<m->P k=Q k):Zfy P m=Zfy Q m :=
 Nat.le_antisymm (Zgs m fun k hk hp=>by rw [←h k hk];exact hp) (Zgs m fun k hk hp=>by rw [h k hk];exact hp)
def Zau (l:List Int) (j:Nat):Nat:=pk (l[j]?.getD 0)
def vc (c:Nat->Nat) (l:List Int) (i p m:Nat):Nat:=Zfy (fun j=>(decide (j=i)||(c j).testBit i)&&decide (Zau l j=p)) m
def vcS (c:Nat->Nat) (l:List Int) (n i m:Nat):Nat->Nat->Int:=fun a p=>(vc c l a p (if a<i then n else if a=i then m else 0):Nat)
theorem Zvt (l:List Int) (j:Nat):Zau l j<24:=pk_lt _
theorem vcS_yes {c:Nat->Nat} {l:List Int} {n i m:Nat} (hb:(decide (m=i)||(c m).testBit i)=true):(Zcu n fun a q=>if a=i/\q=Zau l m then vcS c l n i m i (Zau l m)+1 else vcS c l n i m a q)=Zcu n (vcS c l n i (m+1)):=by
 refine Zhc fun a q _ _=>?_
 unfold vcS
 by_cases ha:a=i
 ·subst ha
  simp only [Ycf,if_false,if_true]
  unfold vc
  rw [Zdq,hb,Yah]
  by_cases hq:q=Zau l m
  ·subst hq
   rw [if_pos ⟨trivial,rfl⟩];simp
  ·have:decide (Zau l m=q)=false:=by simp;exact fun h=>hq h.symm
   rw [if_neg (fun h=>hq h.2),this];simp
 ·rw [if_neg (fun h=>ha h.1),if_neg ha,if_neg ha]
theorem vcS_no {c:Nat->Nat} {l:List Int} {n i m:Nat} (hb:(decide (m=i)||(c m).testBit i)=false):Zcu n (vcS c l n i m)=Zcu n (vcS c l n i (m+1)):=by
 refine Zhc fun a q _ _=>?_
 unfold vcS
 by_cases ha:a=i
 ·subst ha
  simp only [Ycf,if_false,if_true]
  unfold vc
  rw [Zdq,hb,Yav];rfl
 ·rw [if_neg ha,if_neg ha]
theorem vcS_row {c:Nat->Nat} {l:List Int} {n i:Nat}:Zcu n (vcS c l n i n)=Zcu n (vcS c l n (i+1) 0):=by
 refine Zhc fun a q _ _=>?_
 unfold vcS
 congr 2
 by_cases h1:a<i
 ·rw [if_pos h1,if_pos (by omega)]
 ·by_cases h2:a=i
  ·rw [if_neg h1,if_pos h2,if_pos (by omega)]
  ·rw [if_neg h1,if_neg h2,if_neg (by omega)];split<;>rfl
def clks (n:Nat) (f:Nat->Nat) (l:List Int):Nat->Nat->Int:=fun a p=>(vc (clK n f n) l a p n:Nat)
theorem ClkOf_R (hE:q2_In E) {n:Nat} (hn:n<=64) {f:Nat->Nat} (hf:Zem f) {x:Cell} {l:List Int} {h:Za} (hx:SlAt h x 1 (intC .i64 l) l.length) (hl:Low h.length x) (hln:l.length=n) :
  R E 2 [.agg (Zp n f),.c x] h=some ([.c (.sl h.length (n*24) 0 n)],h++[some ⟨true,24,Zcu n (clks n f l)⟩]):=by
 refine Zd hE.fn ?_
 have hw:=Zkp hf n n
 have hN:maxBytes>=64*192:=by unfold maxBytes;omega
 have hxk:∀t:Za,SlAt (h++t) x 1 (intC .i64 l) l.length:=fun t=>hx.keep hl (Kp.app t (Yf _))
 have hz:rep n (Yc 24 ci0)=Zcu n (vcS (clK n f n) l n 0 0):=by
  rw [rep_zero]
  refine Zhc fun a q _ _=>?_
  unfold vcS
  rw [if_neg (by omega)];split<;>rfl
 have outer:Zx (q2_F2 (R E) Zx E.glob) (q2_s2 x (.sl h.length (n*24) 0 n) n ((0:Nat):Int) (Zp n (clK n f n)) (h++[some ⟨true,24,Zcu n (vcS (clK n f n) l n 0 0)⟩]))=some (.exit 0,q2_x2_1 (.sl h.length (n*24) 0 n) (h++[some ⟨true,24,Zcu n (vcS (clK n f n) l n n 0)⟩])):=by
  refine Zao (fun i=>q2_s2 x (.sl h.length (n*24) 0 n) n (i:Int) (Zp n (clK n f n)) (h++[some ⟨true,24,Zcu n (vcS (clK n f n) l n i 0)⟩])) 0 n (by omega) (fun i _ hi=>?_) (Zl ?_)
  ·have inner:Zx (q2_F1 (R E) Zx E.glob) (q2_s1 x (.sl h.length (n*24) 0 n) i n i x n ((0:Nat):Int) (Zp n (clK n f n)) (h++[some ⟨true,24,Zcu n (vcS (clK n f n) l n i 0)⟩]))=some (.exit 2,q2_x1_3 x (.sl h.length (n*24) 0 n) n i (Zp n (clK n f n)) (h++[some ⟨true,24,Zcu n (vcS (clK n f n) l n i n)⟩])):=by
    refine Zao (fun j=>q2_s1 x (.sl h.length (n*24) 0 n) i n i x n (j:Int) (Zp n (clK n f n)) (h++[some ⟨true,24,Zcu n (vcS (clK n f n) l n i j)⟩])) 0 n (by omega) (fun j _ hj=>?_) (Zl ?_)
    ·have hlj:l[j]? = some (l[j]?.getD 0):=by simp [hln,hj]
     have e0:((j:Int)==(i:Int))=decide (j=i):=by rw [Ys,beq_iff_eq,decide_eq_true_eq];omega
     have q1:∀p,p<24->0<=((p:Nat):Int)/\((p:Nat):Int)<((24:Nat):Int):=fun p hp=>by omega
     rw [q2_r1,if_pos (by simp;omega),(hxk _).get1 (by omega) (Zbr hlj),asI_ok,if_pos ⟨rfl,relL_len _ _⟩,HasS hE.c3 hn hw hj (by omega),c1_ok,asB_ok,scK_or,e0]
     cases hb:(decide (j=i)||(clK n f n j).testBit i) with
     | false=>rw [if_neg (by simp),vcS_no hb,Zr (by omega)]
     | true =>
      have hp:=Zvt l j
      have hM:=matL_len (vcS (clK n f n) l n i j) n
      have hv:vc (clK n f n) l i (Zau l j) j<=j:=Zvb _ _
      have hvv:vcS (clK n f n) l n i j i (Zau l j)=((vc (clK n f n) l i (Zau l j) j:Nat):Int):=by unfold vcS;rw [if_neg (by omega),if_pos rfl]
      have hlt:i*24+Zau l j<n*24:=by omega
      rw [if_pos rfl,pick_R hE.c15,qh_ok,c1_ok,asI_ok,show pk (l[j]?.getD 0)=Zau l j from rfl,Zjn hi,if_pos (q1 _ hp),Zq (Zaa h _) hM,Yb,show 0+i*24+Zau l j*1=i*24+Zau l j by omega,Zak (Zjp hp hi),asI_ok,Zjn hi,if_pos (q1 _ hp),Zq (Zaa h _) hM,show 0+i*24+Zau l j*1=i*24+Zau l j by omega,if_pos (by rw [hM];exact hlt),matL_set hp,Zct (Zaa h _) rfl,setBlk_last,Zr (by omega)]
      rw [show E.glob.wrap .i64 (vcS (clK n f n) l n i j i (Zau l j)+1)=vcS (clK n f n) l n i j i (Zau l j)+1 by rw [hvv];exact Zg (by omega) (by omega),vcS_yes hb]
    ·rw [q2_r1,if_neg (by simp)]
   rw [q2_r2,if_pos (by simp;omega),hx.len,hln,show (0:Int)=((0:Nat):Int) from rfl,inner,bind_ok,q2_e1_3,Zr (by omega),vcS_row]
  ·rw [q2_r2,if_neg (by simp)]
 have hfin:Zcu n (vcS (clK n f n) l n n 0)=Zcu n (clks n f l):=Zhc fun a q ha _=>by unfold vcS clks;rw [if_pos ha]
 rw [hfin] at outer
 have e1:decide ((n:Int) > 64)=false:=by simp;omega
 rw [q2_eq,hx.len,hln,e1,scK_ok,if_pos ⟨rfl,relL_len _ _⟩,N_R hE.c14,c1_ok,asI_ok,hx.len,hln,bne_self_eq_false,bind_ok]
 dsimp only
 rw [if_neg (by simp),if_pos ⟨rfl,relL_len _ _⟩,Ztl hE.c12 hn hf,c1_ok,asA_ok,if_pos ⟨rfl,zero_len,relL_len _ _⟩,hx.len,hln,Yb,if_pos ⟨by omega,by omega,by omega,by omega⟩,hx.len,hln,hz,matL_len,show (0:Int)=((0:Nat):Int) from rfl,outer,bind_ok,q2_e2_1]
end



section
variable {E:Env}
theorem SlAt.blkM (h:Za) (n:Nat) (V:Nat->Nat->Int):SlAt (h++[some ⟨true,24,Zcu n V⟩]) (.sl h.length (n*24) 0 n) 24 (Zcu n V) n :=
 ⟨matL_len V n,.inr ⟨_,_,0,rfl,.inr ⟨_,Zaa _ _,matL_len V n,by omega,fun j _=>by simp⟩⟩⟩
def tot (c:Nat->Nat) (l:List Int) (i n q:Nat):Nat:=Zfy (fun j=>(decide (j=i)||(c j).testBit i)&&decide (Zau l j<q)) n
end
section
theorem Zwb {P:Nat->Bool} (m:Nat):∀d,Zfy P m<=Zfy P (m+d)
 | 0=>Yf _
 | d+1=>by rw [←Nat.add_assoc,Zdq];exact Yy (Zwb m d) (by omega)
theorem cntP_to {P:Nat->Bool} {a n:Nat} (h:a<=n):Zfy P a<=Zfy P n:=by
 obtain ⟨d,rfl⟩:=Ybt h
 exact Zwb _ _
theorem cntP_in {P Q:Nat->Bool} {a:Nat}:∀n,(∀k,k<n->Q k=true->k<a/\P k=true)->Zfy Q n<=Zfy P a
 | 0,_=>by simp [Zfy]
 | n+1,h=>by
  by_cases hq:Q n=true
  ·obtain ⟨h1,_⟩:=h n (by omega) hq
   refine Yy (Zgs (n+1) fun k hk hqk=>(h k hk hqk).2) ?_
   obtain ⟨d,rfl⟩:=Ybt (show n+1<=a by omega)
   exact Zwb _ _
  ·rw [Zdq,if_neg hq,Ych]
   exact cntP_in n fun k hk=>h k (by omega)
def upTo (l:List Int) (a:Nat):Nat:=Zfy (fun k=>decide (Zau l k=Zau l a)) (a+1)
theorem way_rise {n:Nat} {f:Nat->Nat} (hr:∀a b,(f a).testBit b=true->a<b) {a b:Nat} (w:Way f n a b):a<b:=by
 induction w with
 | one h=>exact hr _ _ h
 | step h _ _ ih=>exact Nat.lt_trans (hr _ _ h) ih
theorem Zxq {n:Nat} {f:Nat->Nat} (ff:Fit n f) (hr:∀a b,(f a).testBit b=true->a<b) {l:List Int} (hl:∀a b,a<b->b<n->Zau l a=Zau l b->(f a).testBit b=true) {a b:Nat} (ha:a<n) (hb:b<n) :
  (a≠b/\upTo l a<=vc (clK n f n) l b (Zau l a) n)↔Way f n a b:=by
 constructor
 ·rintro ⟨hab,hle⟩
  refine Classical.byContradiction fun hw=>?_
  have h1:vc (clK n f n) l b (Zau l a) n<=Zfy (fun k=>decide (Zau l k=Zau l a)) a:=cntP_in n fun k hk hq=>by
   simp only [Yd,Ym,decide_eq_true_eq] at hq ⊢
   refine ⟨?_,hq.2⟩
   rcases Ycm k a with h | h | h
   ·exact h
   ·subst h
    exfalso
    rcases hq.1 with h2 | h2
    ·exact hab h2
    ·exact hw ((Zfr ff _ _).1 h2)
   ·exfalso
    have hak:=hl a k h hk hq.2.symm
    rcases hq.1 with h2 | h2
    ·subst h2;exact hw (.one hak)
    ·exact hw (.step hak hk ((Zfr ff _ _).1 h2))
  unfold upTo at hle
  rw [Zdq,if_pos (by simp)] at hle
  omega
 ·intro w
  refine ⟨fun h=>?_,?_⟩
  ·have:=way_rise hr w;omega
  ·unfold upTo vc
   refine Yy (Zgs (Q:=fun j=>(decide (j=b)||(clK n f n j).testBit b)&&decide (Zau l j=Zau l a)) (a+1) fun k hk hq=>?_) ?_
   ·simp only [decide_eq_true_eq] at hq
    simp only [Yd,Ym,decide_eq_true_eq]
    refine ⟨.inr ((Zfr ff _ _).2 ?_),hq⟩
    by_cases hka:k=a
    ·rw [hka];exact w
    ·exact .step (hl k a (by omega) ha hq) ha w
   ·exact cntP_to (by omega)
variable {E:Env}
def Zdx (V:Nat->Nat->Int) (l:List Int) (a b:Nat):Bool:=decide (a≠b)&&decide (V b (Zau l a)>=(upTo l a:Int))
def lnV (l:List Int) (m:Nat):Nat->Int:=fun p=>(Zfy (fun k=>decide (Zau l k=p)) m:Nat)
theorem lnV_succ (l:List Int) (m:Nat):(Zaw fun q=>if q=Zau l m then lnV l m (Zau l m)+1 else lnV l m q)=Zaw (lnV l (m+1)):=by
 refine Zgz fun q _=>?_
 unfold lnV
 rw [Zdq]
 by_cases hq:q=Zau l m
 ·subst hq;simp
 ·have:¬Zau l m=q:=fun h=>hq h.symm
  simp [hq,this]
theorem Back_R (hE:q11_In E) {n:Nat} (hn:n<=64) {V:Nat->Nat->Int} {l:List Int} (hln:l.length=n) {x0 x1:Cell} {h:Za} (h0:SlAt h x0 24 (Zcu n V) n) (h1:SlAt h x1 1 (intC .i64 l) l.length) :
  R E 11 [.c x0,.c x1] h=some ([.agg (Zp n (ACC n (Zdx V l)))],h):=by
 refine Zd hE.fn ?_
 have hc:Zoz (n:Int)=n:=Zq741 hn
 have h1l:∀{α:Type} (f:Int->Option α),Zaj x1 f=f n:=fun f=>by rw [h1.len,hln]
 have outer:Zx (q11_F2 (R E) Zx E.glob) (q11_s2 x0 x1 x1 n ((0:Nat):Int) (Zp 0 fun _=>0) (Zp n (ACC n fun a b=>upto 0 0 a b&&Zdx V l a b)) (Zaw (lnV l 0)) h)=some (.exit 0,q11_x2_1 (Zp 0 fun _=>0) (Zp n (ACC n fun a b=>upto n 0 a b&&Zdx V l a b)) h):=by
  refine Zao (fun i=>q11_s2 x0 x1 x1 n (i:Int) (Zp 0 fun _=>0) (Zp n (ACC n fun a b=>upto i 0 a b&&Zdx V l a b)) (Zaw (lnV l i)) h) 0 n (by omega) (fun i _ hi=>?_) (Zl ?_)
  ·have hli:l[i]? = some (l[i]?.getD 0):=by simp [hln,hi]
   have hp:=Zvt l i
   have q1:0<=((Zau l i:Nat):Int)/\((Zau l i:Nat):Int)<((24:Nat):Int):=by omega
   have hv:Zfy (fun k=>decide (Zau l k=Zau l i)) i<=i:=Zvb _ _
   have hw:E.glob.wrap .i64 (lnV l i (Zau l i)+1)=lnV l i (Zau l i)+1:=by unfold lnV;exact Zg (by omega) (by omega)
   have hu:lnV l (i+1) (Zau l i)=(upTo l i:Nat):=rfl
   have inner:Zx (q11_F1 (R E) Zx E.glob) (q11_s1 x0 x1 i (l[i]?.getD 0) x1 n i n ((0:Nat):Int) (Zp 0 fun _=>0) (Zp n (ACC n fun a b=>upto i 0 a b&&Zdx V l a b)) (Zaw (lnV l (i+1))) h)=some (.exit 2,q11_x1_3 x0 x1 x1 n i (Zp 0 fun _=>0) (Zp n (ACC n fun a b=>upto i n a b&&Zdx V l a b)) (Zaw (lnV l (i+1))) h):=by
    refine Zao (fun j=>q11_s1 x0 x1 i (l[i]?.getD 0) x1 n i n (j:Int) (Zp 0 fun _=>0) (Zp n (ACC n fun a b=>upto i j a b&&Zdx V l a b)) (Zaw (lnV l (i+1))) h) 0 n (by omega) (fun j _ hj=>?_) (Zl ?_)
    ·have e0:((i:Int) != (j:Int))=decide (i≠j):=by
      rw [bne,Ys,Ybn,beq_eq_false_iff_ne,decide_eq_true_eq];omega
     rw [q11_r1,if_pos (by simp;omega),e0,pick_R hE.c15,qh_ok,c1_ok,asI_ok,show pk (l[i]?.getD 0)=Zau l i from rfl,h0.getM hj hp,asI_ok,c1_ok,asI_ok,if_pos q1,Yb,show 0+Zau l i*1=Zau l i by omega,Zak (Zew hp),asI_ok,hu,scK_and,Zr (by omega)]
     cases hb:(decide (i≠j)&&decide (V j (Zau l i)>=(upTo l i:Int))) with
     | false =>
      have e:Zp n (ACC n fun a b=>upto i j a b&&Zdx V l a b)=Zp n (ACC n fun a b=>upto i (j+1) a b&&Zdx V l a b):=by
       refine Zej hn fun a b _ _=>?_
       rw [Ys]
       simp only [Yd,upto,Ym,decide_eq_true_eq]
       constructor
       ·rintro ⟨q1,q2⟩;exact ⟨by omega,q2⟩
       ·rintro ⟨q1,q2⟩
        refine ⟨?_,q2⟩
        by_cases h3:a=i/\b=j
        ·rw [h3.1,h3.2] at q2;unfold Zdx at q2;rw [hb] at q2;cases q2
        ·omega
      rw [if_neg (by simp),e]
     | true =>
      have e:Zp n (Zss n (ACC n fun a b=>upto i j a b&&Zdx V l a b) (i:Int) (j:Int))=Zp n (ACC n fun a b=>upto i (j+1) a b&&Zdx V l a b):=by
       refine Zpv hn hi hj fun a b _ _=>?_
       rw [Ys]
       simp only [upto,Yd,Ym,decide_eq_true_eq]
       constructor
       ·rintro ⟨q1,q3⟩
        by_cases h3:a=i/\b=j
        ·exact .inr h3
        ·exact .inl ⟨by omega,q3⟩
       ·rintro (⟨q1,q3⟩ | ⟨rfl,rfl⟩)
        ·exact ⟨by omega,q3⟩
        ·exact ⟨by omega,hb⟩
      rw [if_pos rfl,if_pos ⟨rfl,relL_len _ _⟩,Add_R hE.c10 hn (Zjf _ _),c1_ok,asA_ok,if_pos ⟨rfl,relL_len _ _,relL_len _ _⟩,e]
    ·rw [q11_r1,if_neg (by simp)]
   have e:Zp n (ACC n fun a b=>upto i n a b&&Zdx V l a b)=Zp n (ACC n fun a b=>upto (i+1) 0 a b&&Zdx V l a b):=by
    refine Zej hn fun a b ha hb=>?_
    congr 1
    rw [Ys]
    simp only [upto,Yd,Ym,decide_eq_true_eq]
    omega
   rw [show ((0:Nat):Int)=0 from rfl] at inner
   rw [q11_r2,if_pos (by simp;omega),h1.get1 (by omega) (Zbr hli),asI_ok,pick_R hE.c15,c1_ok,asI_ok,show pk (l[i]?.getD 0)=Zau l i from rfl,if_pos q1,Yb,show 0+Zau l i*1=Zau l i by omega,Zak (Zew hp),asI_ok,if_pos q1,if_pos (by rw [Zby];omega),h1l,hw,vecL_set,lnV_succ,inner,bind_ok,q11_e1_3,e,Zr (by omega)]
  ·rw [q11_r2,if_neg (by simp)]
 have e0:Zp n (fun _=>0)=Zp n (ACC n fun a b=>upto 0 0 a b&&Zdx V l a b):=(Zys hn fun a b _ _=>by simp [upto]).symm
 have e1:Zp n (ACC n fun a b=>upto n 0 a b&&Zdx V l a b)=Zp n (ACC n (Zdx V l)):=Zej hn fun a b ha _=>by
  rw [show upto n 0 a b=true by simp [upto,ha],Yah]
 have ev:Zaw (fun _=>0)=Zaw (lnV l 0):=rfl
 rw [q11_eq,h1l,h0.len,h1l,scK_or,if_neg (by simp;omega),h1l,New_R hE.c9,c1_ok,asA_ok,hc,if_pos ⟨rfl,zero_len,relL_len _ _⟩,h1l,zero_rel,e0,zero24,ev]
 rw [show q11_s2 x0 x1 x1 n 0 (Zp 0 fun _=>0) (Zp n (ACC n fun a b=>upto 0 0 a b&&Zdx V l a b)) (Zaw (lnV l 0)) h=q11_s2 x0 x1 x1 n ((0:Nat):Int) (Zp 0 fun _=>0) (Zp n (ACC n fun a b=>upto 0 0 a b&&Zdx V l a b)) (Zaw (lnV l 0)) h from rfl,outer,bind_ok,q11_e2_1,e1]
 simp only [relL_len,and_self,if_true]
def bl (l:List Int) (i:Nat):Int:=l[i]?.getD 0 % 256 % 24
end
section
variable {V:MV} {row:List Int} (r:Ran V row)
include r
end
section
variable {V W:MV} {row:List Int} (r:Ran V row) {D:List Nat} (p:Part V row D W)
include p r
variable {i:Nat} (hi:i<row.length) (hD:i ∉ D) (hcl:∀a,Zfs (V.runs row).st V.m a i=true->a∈D)
include hi hD hcl
omit hi in
end
def offs (l:List Stp):Nat->Nat
 | 0=>0
 | t+1=>offs l t+l.countP (evP t)
def plcE (n0:Nat) (l:List Stp) (i:Nat):Nat:=match l[i]? with
 | some s=>if s.kind=6 then 0 else n0+offs l s.t.toNat+(l.take i).countP (evP s.t.toNat)
 | none=>0
def pw (n0:Nat) (l:List Stp) (i:Nat):Nat:=match l[i]? with
 | some s=>if s.kind=6 then plcE n0 l s.frm.toNat else plcE n0 l i
 | none=>0
def evX (t n:Nat) (s:Stp):Evt:=⟨t,n,s.kind,s.loc,s.r,s.w⟩
def evsT (l:List Stp) (t:Nat):List Evt:=(l.filter (evP t)).mapIdx (evX t)
def evsL (P:PProg) (l:List Stp):List Evt:=initsE P.init++(Yv P.thr.length).flatMap (evsT l)
section
variable {E:Env}
end
section
variable {E:Env}
end
section
variable {E:Env}
end


section
variable {E:Env}
end
section
variable {V:MV} {row:List Int} (r:Ran V row)
include r
end
section
variable {V:MV} {row rowb:List Int} (r:Ran V row) (rb:Ran V rowb) {D:List Nat} (hP:∀k,k<=D.length->Part V row (D.take k) (V.runs (rowb.take k))) (hl:D.length<=rowb.length) (he:evsL V.P (V.runs row).st=evsL V.P (V.runs rowb).st)
include r rb hP hl
omit r rb hl in
include he
variable (hlt:D.length<rowb.length) {y:Nat} {sy:Stp} (hy:(V.runs row).st[y]? = some sy) (hyD:y ∉ D) (hpk:rowb[D.length]? = some sy.pick) (hpre:∀(d:Nat) (x:Stp),(V.runs row).st[d]? = some x->x.pick=sy.pick->d<y->d∈D)
include hlt hy hyD hpk hpre
end
section
variable {E:Env}
end
section
variable {V:MV} {row rowb:List Int} (r:Ran V row) (rb:Ran V rowb) {D:List Nat} (hP:∀k,k<=D.length->Part V row (D.take k) (V.runs (rowb.take k))) (hl:D.length=rowb.length) (hfull:∀d,d<row.length->d∈D)
include r rb hP hl hfull
end
section
variable {E:Env}
end
section
variable {V:MV} {row:List Int} (r:Ran V row)
include r
end
theorem Plays.ran {P:PProg} {m:Int} (pl:Plays P m) (hll:P.locs.length=P.init.length) {row:List Int} (hw:(MV.new P m).whole row):Ran (MV.new P m) row:=⟨Told.new pl.inv pl.il hll,rfl,hw⟩
section
variable {E:Env}
end
section
variable {V:MV} {row:List Int} (r:Ran V row)
include r
variable {D:List Nat} {W:MV} (p:Part V row D W) {i:Nat} {s:Stp} (hs:(V.runs row).st[i]? = some s) (hD:i ∉ D) (hcl:∀(a:Nat) x,(V.runs row).st[a]? = some x->x.t=s.t->Zfs (V.runs row).st V.m a i=true->a∈D)
include p hs hD hcl
end
section
variable {V:MV} {row:List Int} (r:Ran V row)
include r
end
section
variable {E:Env}
end
section
def Zgh (V:Nat->Nat->Int):Nat->Nat->Int
 | 0=>fun _=>0
 | i+1=>Zen (Zgh V i) (V i)
theorem Zre (v w:Nat->Int) (p:Nat):v p<=Zen v w p/\w p<=Zen v w p/\(Zen v w p=v p∨Zen v w p=w p):=by
 unfold Zen;split<;>omega
theorem Zyu {V:Nat->Nat->Int} {p:Nat} {M:Int} (h0:0<=M):∀n,(∀k,k<n->V k p<=M)->Zgh V n p<=M
 | 0,_=>h0
 | n+1,h=>by
  have ih:=Zyu h0 n fun k hk=>h k (show k<n+1 by omega)
  have h2:=h n (by omega)
  show Zen (Zgh V n) (V n) p<=M
  rcases (Zre (Zgh V n) (V n) p).2.2 with h3 | h3<;>rw [h3]<;>assumption
theorem Zyr {V:Nat->Nat->Int} {p:Nat}:∀{n k},k<n->V k p<=Zgh V n p
 | n+1,k,hk=>by
  have:=Zre (Zgh V n) (V n) p
  show V k p<=Zen (Zgh V n) (V n) p
  by_cases h:k=n
  ·rw [h];exact this.2.1
  ·have ih:=Zyr (V:=V) (p:=p) (show k<n by omega);omega
theorem Ztz {V:Nat->Nat->Int} {p:Nat}:∀n,0<=Zgh V n p
 | 0=>Int.le_refl _
 | n+1=>by have:=Ztz (V:=V) (p:=p) n;have:=(Zre (Zgh V n) (V n) p).1;show 0<=Zen (Zgh V n) (V n) p;omega
theorem Ztq {l:List Int} {p:Nat}:∀n,(∀j,j<n->Zau l j≠p)∨∃k,k<n/\Zau l k=p/\∀j,k<j->j<n->Zau l j≠p
 | 0=>.inl fun j hj=>by omega
 | n+1=>by
  by_cases h:Zau l n=p
  ·exact .inr ⟨n,by omega,h,fun j h1 h2=>by omega⟩
  ·rcases Ztq (l:=l) (p:=p) n with h2 | ⟨k,h1,h2,h3⟩
   ·exact .inl fun j hj=>by
     by_cases hn:j=n
     ·rw [hn];exact h
     ·exact h2 j (by omega)
   ·exact .inr ⟨k,by omega,h2,fun j h4 h5=>by
     by_cases hn:j=n
     ·rw [hn];exact h
     ·exact h3 j h4 (by omega)⟩
theorem Zsz {P:Nat->Bool}:∀{m},(∀k,k<m->P k=false)->Zfy P m=0
 | 0,_=>rfl
 | m+1,h=>by rw [Zdq,h m (by omega),if_neg (by simp),Zsz fun k hk=>h k (by omega)]
theorem Zzj {n:Nat} {f:Nat->Nat} {l:List Int} (hs:∀a b,a<b->b<n->Zau l a=Zau l b->(f a).testBit b=true) (ff:Fit n f) (p:Nat):Zgh (clks n f l) n p=lnV l n p:=by
 have up:∀k,k<n->clks n f l k p<=lnV l n p:=fun k _=>by
  unfold clks lnV vc
  exact Int.ofNat_le.2 (Zgs n fun j _ hp=>(Bool.and_eq_true_iff.1 hp).2)
 have h0:0<=lnV l n p:=by unfold lnV;omega
 have hle:=Zyu h0 n up
 rcases Ztq (l:=l) (p:=p) n with h | ⟨k,hk,hl,hlast⟩
 ·have:lnV l n p=0:=by
   unfold lnV
   rw [Zsz fun j hj=>by simpa using h j hj];rfl
  have:=Ztz (V:=clks n f l) (p:=p) n
  omega
 ·have:clks n f l k p=lnV l n p:=by
   unfold clks lnV vc
   refine congrArg Int.ofNat (Zq733 fun j hj=>?_)
   by_cases hp:Zau l j=p
   ·have hb:(decide (j=k)||(clK n f n j).testBit k)=true:=by
     by_cases hjk:j=k
     ·simp [hjk]
     ·have hlt:j<k:=by
       rcases Yag j k with h | h
       ·exact h
       ·exact absurd hp (hlast j (by omega) hj)
      rw [Ym,Zfr ff]
      exact .inr (.one (hs j k hlt hk (by rw [hp,hl])))
    rw [hb,Yah]
   ·rw [decide_eq_false hp,Yap]
  have:=Zyr (V:=clks n f l) (p:=p) hk
  omega
section
variable {V:MV} {row:List Int} (r:Ran V row)
include r
theorem Ran.base_fit (h64:(V.runs row).st.length<=64):Fit (V.runs row).st.length (hbF (V.runs row).st V.m):=by
 have:=clK_fit (Zuy h64 (Zfs (V.runs row).st V.m))
 exact this
theorem Ran.lanes (h64:(V.runs row).st.length<=64):∀a b,a<b->b<row.length->Zau row a=Zau row b->(hbF (V.runs row).st V.m a).testBit b=true:=by
 intro a b hab hb he
 obtain ⟨p,p1,p2,_,p4,p5⟩:=r.step (show a<row.length by omega)
 obtain ⟨q,q1,q2,_,q4,q5⟩:=r.step hb
 have hp:=MV.may_lt p2
 have hq:=MV.may_lt q2
 have hpq:p=q:=by
  unfold Zau pk at he
  rw [p1,q1] at he
  simp only [Yaz] at he
  rw [if_pos ⟨by omega,by omega⟩,if_pos ⟨by omega,by omega⟩] at he
  omega
 subst hpq
 have hbase:Zfs (V.runs row).st V.m a b=true:=Zq756 hab p4 q4 (by rw [p5,q5])
 have hl:=r.len
 unfold hbF
 rw [Zfr (Zuy h64 _)]
 refine .one ?_
 rw [Zkz h64,hbase,decide_eq_true (show a<(V.runs row).st.length by omega),decide_eq_true (show b<(V.runs row).st.length by omega)];rfl
end
variable {E:Env}
theorem TopClocks_law (hA:∀p∈awkL,E.fn p.1=some p.2) (htab:E.tab=Zpi) (hE:q305_In E) {h:Za} {c0 c1' c2':List Cell} (o0:okC h (.sl (.i .i64)) c0) (o1:okC h (.i .i64) c1') (o2:okC h (.sl (.i .i64)) c2') :
  ∃h',R E 305 [av1 (.sl (.i .i64)) c0,av1 (.i .i64) c1',av1 (.sl (.i .i64)) c2'] h=some ([.c (.bool true)],h'):=by
 obtain ⟨x,l,ha0,hx,hlow,_,hml⟩:=Zyv o0
 obtain ⟨m0,ha1,_⟩:=arg_int o1
 obtain ⟨y,ps,ha2,hy,hylow,_,hpl⟩:=Zyv o2
 obtain ⟨cs,h1,P,r1,p1,g1,g2,hu,k1⟩:=OfP_R hE.c76 hx hlow (by unfold maxLen at hml;omega) (most:=10) (by omega)
 have hb1:=g_rem3 (E:=E) m0
 have hm1:E.glob.wrap .i64 (E.glob.rem .i64 (E.glob.band .i64 m0 255) 3+1)=E.glob.rem .i64 (E.glob.band .i64 m0 255) 3+1:=Zg (by omega) (by omega)
 generalize hmm:E.glob.rem .i64 (E.glob.band .i64 m0 255) 3+1=m at hm1
 have hm13:1<=m/\m<=3:=by omega
 have gn:=g1.n
 have gi:=g1.init
 have gg:=g1.good
 have inv:=g1.inv g2 hm13
 have pl:Plays P m:=g1.plays g2 hu hm13
 obtain ⟨z,row,h2,r2,oz,k2,hw,h60,hend⟩:=Any_R hE.c254 p1 gg (by omega) (by omega) hm13 inv (hy.keep hylow k1) (Zbi k1.1 hylow)
 have ran:=pl.ran g1.locs hw
 obtain ⟨w,h3,r3,o3,k3⟩:=PRun_R hE.c271 (p1.keep k2) pl oz.at oz.low (by omega)
 have hlen:=ran.len
 have h64:((MV.new P m).runs row).st.length<=64:=by omega
 have hVm:((MV.new P m).runs row).m=m:=ran.keepE.2
 have rhb:=HB_R hE.c255 o3.at o3.low h64 m
 have hws:=Zq758 ((MV.new P m).runs row).st m
 have ff:=ran.base_fit h64
 have hlane:=ran.lanes h64
 have rise:∀a b,(hbF ((MV.new P m).runs row).st m a).testBit b=true->a<b:=fun a b h=>by
  have ha:a<((MV.new P m).runs row).st.length:=(ff a b h).1
  exact (ran.end.h3.hb_rises h64 ha (by rw [hVm];exact h)).1
 rw [show (MV.new P m).m=m from rfl] at ff hlane
 have hcl:∀a b,(hbF ((MV.new P m).runs row).st m a).testBit b=true↔Way (hbF ((MV.new P m).runs row).st m) ((MV.new P m).runs row).st.length a b:=fun a b=>by
  have fa:=Zuy h64 (Zfs ((MV.new P m).runs row).st m)
  unfold hbF
  rw [way_way fa,Zfr fa]
 rw [hlen] at rhb ff hcl
 have h60':row.length<=64:=by omega
 generalize hF:hbF ((MV.new P m).runs row).st m=F at *
 have oz3:SlAt h3 z 1 (intC .i64 row) row.length:=oz.at.keep oz.low k3
 have zl:Low h3.length z:=Zbi k3.1 oz.low
 have rclk:=ClkOf_R hE.c2 h60' hws oz3 zl rfl
 have hs:=SlAt.blkM h3 row.length (clks row.length F row)
 have oz4:SlAt (h3++[some ⟨true,24,Zcu row.length (clks row.length F row)⟩]) z 1 (intC .i64 row) row.length:=oz3.keep zl (Kp.app _ (Yf _))
 have rback:=Back_R hE.c11 h60' rfl hs oz4
 have hclks:∀i p,clks row.length F row i p=((vc (clK row.length F row.length) row i p row.length:Nat):Int):=fun i p=>rfl
 have back:Zp row.length (ACC row.length (Zdx (clks row.length F row) row))=Zp row.length F:=Zwe (Zjf _ _) hws fun a b=>by
  rw [Zkz h60',hcl a b]
  simp only [Yd,decide_eq_true_eq,Zdx]
  constructor
  ·rintro ⟨⟨ha,hb⟩,hab,hle⟩
   refine (Zxq ff rise hlane ha hb).1 ⟨hab,?_⟩
   rw [hclks] at hle;omega
  ·intro w
   obtain ⟨ha,hb⟩:=way_fit ff w
   obtain ⟨hab,hle⟩:=(Zxq ff rise hlane ha hb).2 w
   refine ⟨⟨ha,hb⟩,hab,?_⟩
   rw [hclks];omega
 have hjoin:=fun p=>Zzj hlane ff p
 generalize clks row.length F row=V at *
 have loop:Zx (q305_F1 (R E) Zx E.glob) (q305_s1 z (.sl h3.length (row.length*24) 0 row.length) ((0:Nat):Int) (Zaw (Zgh V 0)) (Zaw (lnV row 0)) (h3++[some ⟨true,24,Zcu row.length V⟩]))=some (.exit 0,q305_x1_1 (Zaw (Zgh V row.length)) (Zaw (lnV row row.length)) (h3++[some ⟨true,24,Zcu row.length V⟩])):=by
  refine Zao (F:=q305_F1 (R E) Zx E.glob) (fun i=>q305_s1 z (.sl h3.length (row.length*24) 0 row.length) (i:Int) (Zaw (Zgh V i)) (Zaw (lnV row i)) (h3++[some ⟨true,24,Zcu row.length V⟩])) 0 row.length (by omega) (fun i _ hi=>?_) (Zl ?_)
  ·have hli:row[i]? = some (row[i]?.getD 0):=by simp [hi]
   have hp:row[i]?.getD 0=(Zau row i:Nat):=by
    obtain ⟨p,p1,p2,_⟩:=ran.step hi
    have:=MV.may_lt p2
    unfold Zau pk
    rw [p1,Yaz,if_pos ⟨by omega,by omega⟩];omega
   have hl24:=Zvt row i
   have hv:Zfy (fun k=>decide (Zau row k=Zau row i)) i<=i:=Zvb _ _
   have hw2:E.glob.wrap .i64 (lnV row i (Zau row i)+1)=lnV row i (Zau row i)+1:=by unfold lnV;exact Zg (by omega) (by omega)
   rw [q305_r1,oz4.len,if_pos (by simp;omega),if_pos ⟨by rfl,by rw [Zby]⟩,Zjn hi,Zq (Zaa _ _) (matL_len _ _),if_pos (by rw [matL_len];omega),show 0+i*24=i*24 by omega,matL_row hi,Join_R hE.c8,qh_ok,c1_ok,asA_ok,if_pos ⟨by rfl,by rw [Zby],by rw [Zby]⟩,
    oz4.get1 (by omega) (Zbr hli),asI_ok,hp,if_pos ⟨by omega,by omega⟩,Yb,show 0+Zau row i*1=Zau row i by omega,Zak (Zew hl24),asI_ok,if_pos ⟨by omega,by omega⟩,if_pos (by rw [Zby];omega),hw2,vecL_set,lnV_succ,Zr (by omega)]
   rfl
  ·rw [q305_r1,oz4.len,if_neg (by simp)]
 obtain ⟨t,aw⟩:=awake_R hA htab (h3++[some ⟨true,24,Zcu row.length V⟩])
 have hvec:Zaw (Zgh V row.length)=Zaw (lnV row row.length):=Zgz fun p _=>hjoin p
 refine ⟨(h3++[some ⟨true,24,Zcu row.length V⟩])++t,Zd hE.fn ?_⟩
 rw [ha0,ha1,ha2,q305_eq,show ((10:Int))=((10:Nat):Int) from rfl,r1,c1_ok,asA_ok,if_pos (by exact ⟨rfl,rfl,p1.len⟩),hmm,hm1]
 dsimp only
 rw [if_pos (by exact ⟨rfl,p1.len⟩),r2,c1_ok,asC_ok,if_pos (by exact ⟨rfl,p1.len⟩),r3,c3_ok,asC_ok,asI_ok,asB_ok,rhb,c1_ok,asA_ok,if_pos ⟨by rfl,zero_len,relL_len _ _⟩,if_pos ⟨by rfl,relL_len _ _⟩,rclk,c1_ok,asC_ok,hs.len,oz4.len,show ((row.length:Int) != (row.length:Int))=false by simp,rback,qh_ok,c1_ok,asA_ok,if_pos ⟨by rfl,relL_len _ _⟩,zero_rel,if_pos ⟨Ztv _ _ _ _,Ztv _ _ _ _⟩,back,decide_eq_true rfl,scK_or,if_neg (by simp),zero24]
 rw [show ((0:Nat):Int)=0 from rfl,show Zaw (Zgh V 0)=Zaw fun _=>0 from rfl,show Zaw (lnV row 0)=Zaw fun _=>0 from rfl] at loop
 rw [loop,bind_ok]
 dsimp only
 rw [q305_e1_1,if_pos ⟨by rfl,by rw [Zby]⟩,if_pos ⟨by rfl,by rw [Zby]⟩,zero24,if_pos ⟨Ztk _ _,Ztk _ _⟩,hvec,decide_eq_true rfl,aw,c1_ok,asB_ok,scK_ok,bind_ok]
end
end Jq
namespace Go.Proofs.YtaohhggiapblkaaGreatDoor.LTopClocks
open Go Jq Go.ChangeShapes Go.WideShapes Go.ChangeAt Go.RowKit
set_option linter.unusedVariables false
theorem own:ownKnob Tryz.prog.godebug=none:=by kernel_rfl
theorem Zvh:laidOutB Tryz.prog=true:=by kernel_rfl
theorem gN : Tryz.prog.globalNamed "math/bits.deBruijn64tab" = some 0 := by kernel_rfl
theorem met (os:Os) (args:Array Value):laidMetH Tryz.prog Rows.topClocksRow.laid ((World.doorLaid Tryz.prog 400 os).forCall (fun _ _=>0) ⟨#[],args,[]⟩).memory :=
 laidMetH_of_parts3 (fuel:=8) (laidMet_of_run' 8 (by kernel_rfl) (by kernel_rfl)) (by kernel_rfl) (by kernel_rfl)
theorem of_laid {W:World} (h:laidMetH Tryz.prog Rows.topClocksRow.laid W):∀i,i<deB.length->W.cell? ⟨0,i,none⟩=some (.int .u8 (deB.getD i 0)):=by
 rw [MakeChecks.laidMetH_plain _ _ _ (by kernel_rfl)] at h
 have hT:=Lib.tabIs_of_head (zs:=deB) (n:=64) gN (t:=281) (by kernel_rfl) (e:=5) (by kernel_rfl) (by kernel_rfl) (by kernel_rfl) (by kernel_rfl) h
 exact fun i hi=>hT.cell gN i hi
theorem lifted (os:Os) (started:os.Started) (H:Type) (enc:TypeId × Value->H) :
  ReturnsInHanded {} Tryz.checked os 6 .any (fun w args=>(Rows.topClocksSpec.pre enc Tryz.prog Tryz.f6 [] false w args/\laidMetH Tryz.prog Rows.topClocksRow.laid w)/\sizedMet enc Tryz.prog Tryz.f6 (OpenSpec.ofChange Rows.topClocksSpec) false w args) (Rows.topClocksSpec.post enc Tryz.prog Tryz.f6 false true false false):=by
 refine returnsInHanded_of_change_and (C:=Tryz.checked) (X:=fun w _=>laidMetH Tryz.prog Rows.topClocksRow.laid w) (fun _ _ _ hh h=>h.of_heap hh) own started (by kernel_rfl) Tryz.func6
  (ChangeSpec.witness_shaped (enc:=enc) (C:=Tryz.checked) (os:=os) (X:=fun w _=>laidMetH Tryz.prog Rows.topClocksRow.laid w) false (World.doorLaid Tryz.prog 400 os) #[.slice none 0 0,.int .i64 0,.slice none 0 0] 8 rfl (World.shaped_of_RefB (by kernel_rfl) (by kernel_rfl)) (by kernel_rfl) (by kernel_rfl) (by kernel_rfl) (met os _)) ?_
 intro W base args ds gs before hval0 hW _ _ hL _
 have hval:∀(j:Nat) t v,Tryz.f6.params[j]? = some t->args[j]? = some v->Value.okWide Tryz.prog W .any base t v:=hval0
 have hW':=hW
 obtain ⟨p,q,hA0,hV,rfl,hfz,hnd⟩:=hW
 have hA:DataW.TrodAll enc Tryz.prog W 0 (fun _=>true) true Tryz.f6.params.toList args.toList ds p:=hA0
 rw [Tryz.params6] at hA hval
 obtain ⟨v0,vs0,d0,ds0,p0,q0,hargs,rfl,rfl,h0,r0⟩:=trodAll_cons hA
 obtain ⟨v1,vs1,d1,ds1,p1,q1,rfl,rfl,rfl,h1,r1⟩:=trodAll_cons r0
 obtain ⟨v2,vs2,d2,ds2,p2,q2,rfl,rfl,rfl,h2,r2⟩:=trodAll_cons r1
 obtain ⟨rfl,rfl,rfl⟩:=trodAll_nil r2
 obtain rfl:args=#[v0,v1,v2]:=by cases args;simp_all
 obtain ⟨rfl,rfl⟩:=trodVars_none hV
 have lt0:∀x∈p0,x.block<W.heap.size:=by obtain ⟨m,hm⟩:=h0;exact DataW.trod_lt m _ _ _ hm
 have lt1:∀x∈p1,x.block<W.heap.size:=by obtain ⟨m,hm⟩:=h1;exact DataW.trod_lt m _ _ _ hm
 have lt2:∀x∈p2,x.block<W.heap.size:=by obtain ⟨m,hm⟩:=h2;exact DataW.trod_lt m _ _ _ hm
 have c:=Come.tab1 (S:=seat) (W:=W) deB (fun _=>rfl) (of_laid hL)
 have k0:((.sl (.i .i64)):Sh).chk seat.P 22=true:=by kernel_rfl
 obtain ⟨b0,ρ0,cs0,c0,e0,x0,a0,o0⟩:=Zoo (S:=seat) (W:=W) (sh:=(.sl (.i .i64))) k0 h0 (Zvu k0 (hval 0 22 v0 rfl rfl)) ⟨nofun,nofun⟩ c
 have k1:((.i .i64):Sh).chk seat.P 3=true:=by kernel_rfl
 obtain ⟨b1,ρ1,cs1,c1,e1,x1,a1,o1⟩:=Zoo (S:=seat) (W:=W) (sh:=(.i .i64)) k1 h1 (Zvu k1 (hval 1 3 v1 rfl rfl)) ⟨nofun,nofun⟩ c0
 have k2:((.sl (.i .i64)):Sh).chk seat.P 22=true:=by kernel_rfl
 obtain ⟨b2,ρ2,cs2,c2,e2,x2,a2,o2⟩:=Zoo (S:=seat) (W:=W) (sh:=(.sl (.i .i64))) k2 h2 (Zvu k2 (hval 2 22 v2 rfl rfl)) ⟨nofun,nofun⟩ c1
 obtain ⟨h',hR⟩:=TopClocks_law (E:=env) awkOk awkTab in_305 (Zev x2 _ _ (Zev x1 _ _ o0)) (Zev x2 _ _ o1) o2
 refine (law_call (S:=seat) (R_sound (S:=seat) (E:=env) rfl allOk) c2 (vals:=#[v0,v1,v2]) (L2.cons (relA.mono e2 (relA.mono e1 a0)) (L2.cons (relA.mono e2 a1) (L2.cons a2 L2.nil))) hR).mono fun e W' ⟨he,bel⟩=>?_
 subst he
 exact ⟨_,rfl,_,_,_,[],_,[],hW',trodAll_mk1 (shut_bool Tryz.underlying4 _),(trodAll_cons_mk (Below.trod Zvh (by kernel_rfl) (of_decide_eq_true (by kernel_rfl)) h0 bel lt0) (trodAll_cons_mk (Below.trod Zvh (by kernel_rfl) (of_decide_eq_true (by kernel_rfl)) h1 bel lt1) (trodAll_cons_mk (Below.trod Zvh (by kernel_rfl) (of_decide_eq_true (by kernel_rfl)) h2 bel lt2) trodAll_mk0))),rfl,bel.frame _,fun h=>by cases h⟩
theorem over:Rows.topClocksRow.holds Tryz.pinned (OpenSpec.ofChange Rows.topClocksSpec) :=
 OpenClaim.holds_of_wide 6 Tryz.f6 rfl rfl rfl rfl rfl rfl rfl ⟨rfl,rfl,rfl,rfl,rfl⟩ rfl rfl rfl rfl rfl (by kernel_rfl) Tryz.func6 (by kernel_rfl)
  (of_decide_eq_true (by kernel_rfl)) (by unfold Func.isWrapper;first | (rw [if_pos (by decide +kernel)];kernel_rfl) | (rw [if_neg (by decide +kernel)];exact ⟨rfl,rfl⟩))
  (fun os started H enc _=>lifted os started H enc)
theorem proved:Rows.TopClocksCardSaid :=
 Claim7.holds_tied_plain_at .later [] [.data] true (true, "7f3a20544d2fe770f688a871edf76fce11fa107740d391a992941e7d0bb0c6d6") false
  over (fun _ h=>by cases h) (by kernel_rfl) (fun _ h=>by cases h) topClocks_row_tie rfl ⟨rfl,rfl⟩ (by kernel_rfl) rfl
  (fun f fn hf hfn=>by
   obtain rfl : f = 6 := Yar.inj ((show Tryz.prog.funcNamed "jacquard/jacquardtop.TopClocks" = some 6 by kernel_rfl).symm.trans hf) |>.symm
   obtain rfl:fn=Tryz.f6:=(Yar.inj (Tryz.func6.symm.trans hfn)).symm
   exact ⟨by kernel_rfl,fun j t ht=>by
    rw [Tryz.params6] at ht
    have hm:t∈[22,3,22]:=by simpa using Array.mem_of_getElem? ht
    have hall:([22,3,22].all fun u=>!Tryz.prog.wantsStandIn u)=true:=by kernel_rfl
    exact (show Tryz.prog.wantsStandIn t=false by simpa using Yco.1 hall t hm)⟩)
  (by kernel_rfl)
#print axioms proved
end Go.Proofs.YtaohhggiapblkaaGreatDoor.LTopClocks

