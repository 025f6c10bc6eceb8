/- YtjamopobfdnlkaaGreatDoorRaceGoesD: a part of the proof; no conditions of its own. -/
import Derived.KernelRfl
import Derived.Test.YtjamopobfdnlkaaGreatDoorRaceGoesC
set_option linter.unusedVariables false
set_option linter.unusedSectionVars false
set_option linter.unusedSimpArgs false
set_option maxRecDepth 100000
open List renaming getElem?_eq_getElem→Ya,replicate→Yd,length_append→Ye,mem_of_getElem?→Yg,length_singleton→Yh,append_nil→Yi,length_replicate→Yj,range→Yk,mem_iff_getElem?→Yn,length_set→Yo,getElem?_set_ne→Yr,drop_of_length_le→Ys,getElem?_set_self→Yt,getElem?_eq_none→Yu,filter_append→Yv,length_range→Yx,findIdx?_eq_some_iff_getElem→Yy,getD_eq_getElem?_getD→Yz,countP_singleton→Yaa,mem_of_find?_eq_some→Yab,range_succ→Yac,length_map→Yae,take_append_of_le_length→Yaf,take_length→Yah,length_cons→Yai,take_of_length_le→Yaj,countP_append→Yam,map_append→Yan,length_take→Yao,countP_cons→Yap,filter_cons_of_pos→Yaq,length_nil→Yar,mem_singleton→Yas,flatMap_singleton→Yat,append_assoc→Yau,countP_eq_length_filter→Yav,take_succ_cons→Yaw,flatMap_append→Yax,find?_some→Yaz,drop_eq_getElem_cons→Yba,mem_cons_self→Ybb,filter_cons_of_neg→Ybc,length_filter_le→Ybf,mem_cons_of_mem→Ybg,nil_append→Ybh,drop_zero→Ybi,map_replicate→Ybj,getElem?_append_right→Ybk,mem_cons→Ybl,getElem?_map→Ybn,ext_getElem?→Ybo,getElem?_append_left→Ybp,length_drop→Ybr,any_eq_true→Ybt,getElem?_cons_zero→Ybu,getElem?_replicate→Ybv,filter_nil→Ybw,find?_cons→Ybx,mem_append→Ybz,filter_eq_nil_iff→Yca,find?_map→Ycb,take_append_drop→Ycc,mem_range→Ycd,countP_le_length→Yce,getElem?_mapIdx→Ycf,replicate_succ→Ycg,map_eq_nil_iff→Ych,replicate_zero→Yci,getElem?_range→Ycj,getElem?_drop→Yck,reverse_cons→Yco,find?_append→Ycp,length→Ycr,filter_cons→Ycu,cons_append→Ycv,append_cons→Ycx,not_mem_nil→Ycy,take_zero→Yda,drop_drop→Ydb,find?_nil→Ydc,cons→Yde
open Bool renaming and_eq_true→Yb,or_eq_true→Ym,eq_iff_iff→Yay,true_and→Ybm,not_eq_true→Ycw,and_assoc→Ydd
open Int renaming toNat_natCast→Yc,eq_ofNat_of_zero_le→Yag,ofNat→Ycm,le_refl→Ycs
open Nat renaming le_refl→Yf,lt_trichotomy→Yp,le_of_lt→Yq,eq_or_lt_of_le→Yw,lt_or_ge→Yad,le_trans→Yak,zero_add→Yal,lt_succ_self→Ybd,sub_self→Ybq,add_zero→Ybs,min_eq_left→Yby,le_of_eq→Ycl,zero_le→Yct
open Option renaming some→Yl,bind_some→Ybe,isSome_map→Ycq,map_some→Ycz
open Decidable renaming em→Ycn
namespace Jq
open Go
theorem wr_fit {V:MV} (v:V.Inv) {i:Nat} (e:Evt) (hb:(V.b i).length<24):(V.wr i e).Fit:=by
 have f:=v.fit
 unfold MV.wr
 split
 ·refine ⟨f.m,f.lc,f.mem,f.frm,by rw [Yo];exact f.bf,fun l hl=>?_⟩
  rcases List.mem_or_eq_of_mem_set hl with hl | rfl
  ·exact f.b l hl
  ·rw [Ye,Yh];omega
 ·split
  ·exact ⟨f.m,f.lc,by rw [Yo];exact f.mem,by rw [Yo];exact f.frm,f.bf,f.b⟩
  ·exact f
section
variable {E:Env}
set_option maxHeartbeats 1000000 in
theorem rWrite {n k:Nat} {h:Za} {x:Cell} {bs pc:List Cell} {V:MV} (a:RvAt n h k x bs pc V) (v:V.Inv) {i:Nat} (hi:i<4) (hb:(V.b i).length<24) (e:Evt) (he:0<=e.loc/\e.loc<4) (he45:e.kind=2∨e.kind=4∨Zpw e=false) (a15:Int) (z s1:List Cell) :
  ∃bs' h',(q182_k25 (R E) Zq E.glob) .normal (q182_c20 k 37 0 (i:Int) V.st.length a15 (e.kind==4||(e.kind==2&&V.m==1)) z s1 e.cs h)=some (.normal,q182_c19 k 37 0 (i:Int) a15 z s1 h') /\
   blk? h' k=some ⟨true,0,rvC pc (V.wr i e) bs' x⟩/\bs'.length=4/\(∀t,t<4->Own n h' (bs'.getD t .nils) 3 (Zaa ((V.wr i e).b t)) ((V.wr i e).b t).length/\¬Zv (bs'.getD t .nils) k/\∀j,Zv (bs'.getD t .nils) j->¬Zv x j) /\
   Kp n h h'/\(∀j b,blk? h j=some b->j≠k->blk? h' j=some b):=by
 have f:=v.fit
 have hpc:=a.prog.len
 have hl:=Zcn (x:=x) f hpc a.bl
 have hr:0<=(i:Int)/\(i:Int)<((4:Nat):Int):=⟨by omega,by omega⟩
 have hk:k<h.length:=Zan a.blk
 have hel':0<=e.loc/\e.loc<((4:Nat):Int):=⟨he.1,by omega⟩
 have he4:e.loc.toNat<4:=by omega
 have hM:maxBytes>=1000*24:=by unfold maxBytes;omega
 have rd:∀{α:Type} {F:List Cell->Option α},Zp h k 37 F=F (rvC pc V bs x):=fun {α F}=>Zy a.blk hl
 have bw:∀l,blk? (setBlk h k (some ⟨true,0,l⟩)) k=some ⟨true,0,l⟩:=fun l=>Zad hk _
 have xlt:∀j,Zv x j->j<h.length:=fun j q=>(a.st.blkLt' q).2
 rw [q182_ec20_n]
 by_cases hmem:e.kind=4∨(e.kind=2/\V.m=1)
 ·rw [if_pos (by rw [Ym,Yb,beq_iff_eq,beq_iff_eq,beq_iff_eq];exact hmem)]
  have hw:V.wr i e={ V with mem:=V.mem.set e.loc.toNat e.w,frm:=V.frm.set e.loc.toNat V.st.length }:=by
   unfold MV.wr
   rw [if_neg (by omega),if_pos (by unfold Zpw;rw [Ym,beq_iff_eq,beq_iff_eq];omega)]
  rw [hw]
  have f1:MV.Fit { V with mem:=V.mem.set e.loc.toNat e.w }:=⟨f.m,f.lc,by rw [Yo];exact f.mem,f.frm,f.bf,f.b⟩
  have rd1:∀{α:Type} {F:List Cell->Option α},Zp (setBlk h k (some ⟨true,0,rvC pc { V with mem:=V.mem.set e.loc.toNat e.w } bs x⟩)) k 37 F=F (rvC pc { V with mem:=V.mem.set e.loc.toNat e.w } bs x):=fun {α F}=>Zy (bw _) (Zcn (x:=x) f1 hpc a.bl)
  refine ⟨bs,setBlk h k (some ⟨true,0,rvC pc { V with mem:=V.mem.set e.loc.toNat e.w,frm:=V.frm.set e.loc.toNat V.st.length } bs x⟩),?_,bw _,a.bl,fun t ht=>?_,Kp.set a.nk _,fun j b hj hne=>by rw [Zbh (fun e=>hne e.symm)];exact hj⟩
  ·rw [evt_loc,asI_ok,evt_loc,asI_ok,evt_w,asI_ok,if_pos hel',rd,if_pos (by rw [hl];omega),Zru f hpc he4,Zfx a.blk,if_pos hel',rd1,if_pos (by rw [Zcn (x:=x) f1 hpc a.bl];omega),rv_setF f1 hpc he4,Zfx (bw _),setBlk_set]
  ·obtain ⟨q1,q2,q3⟩:=a.bf t ht
   exact ⟨q1.setO q2 _,q2,q3⟩
 ·rw [if_neg (by rw [Ym,Yb,beq_iff_eq,beq_iff_eq,beq_iff_eq];exact hmem),evt_kind,asI_ok,bind_ok]
  dsimp only
  rw [q182_ec21_n]
  by_cases h2:e.kind=2
  ·have hm1:V.m≠1:=fun q=>hmem (.inr ⟨h2,q⟩)
   have hw:V.wr i e={ V with bf:=V.bf.set i (V.b i++[⟨e.loc,e.w,V.st.length⟩]) }:=by
    unfold MV.wr
    rw [if_pos ⟨h2,hm1⟩]
   rw [hw]
   obtain ⟨b1,b2,b3⟩:=a.bf i hi
   have kA:Kp h.length h (h++[some ⟨true,3,([]:List Cell)⟩]):=Kp.app _ (Yf _)
   have cl:=(b1.keepK kA).at.cellsG
   have lenA:(Zaa (V.b i)).length=(V.b i).length*3:=entsC_len _
   have oB:Own h.length (h++[some ⟨true,3,Zaa (V.b i)⟩]) (.sl h.length (Zaa (V.b i)).length 0 (V.b i).length) 3 (Zaa (V.b i)) (V.b i).length:=⟨lenA,.inr ⟨h.length,rfl,Yf _,Zw _ _⟩⟩
   have kB:Kp h.length h (h++[some ⟨true,3,Zaa (V.b i)⟩]):=Kp.app _ (Yf _)
   obtain ⟨x3,h3,e3,o3,k3,_⟩:=oB.app (bytes:=24) (xs:=Ent.cs ⟨e.loc,e.w,V.st.length⟩) (by simp) rfl (by omega) (by omega) (by omega)
   have kC:Kp h.length h h3:=kB.trans k3
   have o3':Own h.length h3 x3 3 (Zaa (V.b i++[⟨e.loc,e.w,V.st.length⟩])) (V.b i++[(⟨e.loc,e.w,V.st.length⟩:Ent)]).length:=by
    rw [Zeg,Ye,Yh];exact o3
   have bk3:blk? h3 k=some ⟨true,0,rvC pc V bs x⟩:=by rw [kC.blk hk];exact a.blk
   have k3l:k<h3.length:=Zan bk3
   have bA:blk? (h++[some ⟨true,3,([]:List Cell)⟩]) k=some ⟨true,0,rvC pc V bs x⟩:=Zas a.blk _
   have nk3:¬Zv x3 k:=fun q=>by have:=(o3.blkLt q).2;omega
   refine ⟨bs.set i x3,setBlk h3 k (some ⟨true,0,rvC pc V (bs.set i x3) x⟩),?_,Zad k3l _,by rw [Yo];exact a.bl,fun t ht=>?_,(kC.mono a.hn).trans (Kp.set a.nk _),fun j b hj hne=>by rw [Zbh (fun e=>hne e.symm),kC.blk (Zan hj)];exact hj⟩
   ·rw [if_pos (by rw [beq_iff_eq];exact h2),if_pos (by rfl),if_pos hr,rd0G bA hl,Yc,Zeo f hpc a.bl hi,cl,bind_ok,show ([]:List Cell).length=0 from rfl,Zjn (len:=(V.b i).length) (by omega) lenA (by omega) (by omega),evt_loc,asI_ok,evt_w,asI_ok,if_pos (by exact ⟨rfl,by decide⟩),if_pos (by rfl)]
    have eE:splice [ci0,ci0,ci0] 0 (splice (splice (splice [ci0,ci0,ci0] 0 [(.int .i64 e.loc)]) 1 [(.int .i64 e.w)]) 2 [(.int .i64 (V.st.length:Int))])=Ent.cs ⟨e.loc,e.w,V.st.length⟩:=rfl
    rw [eE,e3,if_pos hr,Zy bk3 hl,if_pos (by rw [hl];omega),rv_setB f hpc a.bl hi,Zfx bk3]
   ·have hbW:(MV.mk V.P V.m V.lc V.mem V.frm (V.bf.set i (V.b i++[⟨e.loc,e.w,V.st.length⟩])) V.st).b t=if t=i then V.b i++[⟨e.loc,e.w,V.st.length⟩] else V.b t:=by
     show (V.bf.set i _).getD t []=_
     rw [Zcw (by rw [f.bf];exact hi)];rfl
    rw [hbW,Zcw (by rw [a.bl];exact hi)]
    by_cases q:t=i
    ·rw [if_pos q,if_pos q]
     exact ⟨(o3'.monoN a.hn).setO nk3 _,nk3,fun j q1 q2=>by have:=(o3.blkLt q1).2;have:=xlt j q2;omega⟩
    ·rw [if_neg q,if_neg q]
     obtain ⟨q1,q2,q3⟩:=a.bf t ht
     exact ⟨(q1.keepK kC).setO q2 _,q2,q3⟩
  ·have hw:V.wr i e=V:=by
    unfold MV.wr
    have:Zpw e=false:=by
     rcases he45 with q | q | q
     ·exact absurd q h2
     ·exact absurd (.inl q) hmem
     ·exact q
    rw [if_neg (fun c=>h2 c.1),this];rfl
   rw [hw]
   exact ⟨bs,h,by rw [if_neg (by rw [beq_iff_eq];exact h2)],a.blk,a.bl,a.bf,Kp.refl _ _,fun j b hj _=>hj⟩
theorem rRead {n k:Nat} {h:Za} {x:Cell} {bs pc:List Cell} {V:MV} (a:RvAt n h k x bs pc V) (f:V.Fit) {i:Nat} (hi:i<4) {q:Ins} (hq:0<=q.loc/\q.loc<4) (n6:Int) (z:List Cell) :
  (q182_k14 (R E) Zq E.glob) .normal (q182_c13 k 37 0 (i:Int) n6 0 (rdI q) z (Stp.cs ⟨i,i,0,0,0,0,-1⟩) q.cs h) =
   some (.normal,q182_c12 k 37 0 (i:Int) n6 (if rdI q=true then (V.val i q).1 else 0) z (Stp.cs ⟨i,i,0,0,0,0,if rdI q=true then (V.val i q).2 else -1⟩) q.cs h):=by
 have hpc:=a.prog.len
 have hl:=Zcn (x:=x) f hpc a.bl
 have hr:0<=(i:Int)/\(i:Int)<((4:Nat):Int):=⟨by omega,by omega⟩
 have rd:∀{α:Type} {F:List Cell->Option α},Zp h k 37 F=F (rvC pc V bs x):=fun {α F}=>Zy a.blk hl
 have hql:0<=q.loc/\q.loc<((4:Nat):Int):=⟨hq.1,by omega⟩
 have hq4:q.loc.toNat<4:=by omega
 have hmem:V.mem[q.loc.toNat]? = some (V.mem.getD q.loc.toNat 0):=by
  rw [Yz,Ya (by rw [f.mem];exact hq4)];rfl
 have hfrm:V.frm[q.loc.toNat]? = some (V.frm.getD q.loc.toNat 0):=by
  rw [Yz,Ya (by rw [f.frm];exact hq4)];rfl
 have o:=(a.bf i hi).1.at
 have hbl:(V.b i).length<=24:=f.b _ (Yg (MV.b_at (by rw [f.bf];exact hi)))
 rw [q182_ec13_n]
 cases hrd:rdI q with
 | false=>rfl
 | true =>
  rw [if_pos rfl,if_pos rfl,if_pos rfl]
  generalize hg:(fun l:List Ent=>match Zcj q.loc l with | some e=>(e.val,e.id) | none=>(V.mem.getD q.loc.toNat 0,V.frm.getD q.loc.toNat 0))=g
  have g0:g []=(V.mem.getD q.loc.toNat 0,V.frm.getD q.loc.toNat 0):=by rw [←hg];rfl
  have gs:∀(l:List Ent) (e:Ent),g (l++[e])=if e.loc=q.loc then (e.val,e.id) else g l:=fun l e=>by
   rw [←hg]
   dsimp only
   rw [Zq724]
   by_cases c:e.loc=q.loc
   ·rw [if_pos c,if_pos c]
   ·rw [if_neg c,if_neg c]
  have gv:V.val i q=g (V.b i):=by rw [←hg];rfl
  have lp:Zq (q182_F1 (R E) Zq E.glob) (q182_s1 k 37 0 (i:Int) n6 (g []).1 ((0:Nat):Int) z (Stp.cs ⟨i,i,0,0,0,0,(g []).2⟩) q.cs h)=some (.exit 0,q182_x1_1 k 37 0 (i:Int) n6 (g (V.b i)).1 z (Stp.cs ⟨i,i,0,0,0,0,(g (V.b i)).2⟩) q.cs h):=by
   have lc:=Zax (F:=q182_F1 (R E) Zq E.glob) (fun j=>q182_s1 k 37 0 (i:Int) n6 (g ((V.b i).take j)).1 (j:Int) z (Stp.cs ⟨i,i,0,0,0,0,(g ((V.b i).take j)).2⟩) q.cs h) 0 (V.b i).length (by omega) (fun j _ hj=>by
    have he:(V.b i)[j]? = some (V.b i)[j]:=Ya hj
    generalize (V.b i)[j]=e at he
    rw [Zal he,gs]
    rw [q182_r1,if_pos hr,rd,Yc,Zeo f hpc a.bl hi,o.len,if_pos (by simp;omega),bind_ok]
    dsimp only
    rw [q182_ec15_n,if_pos hr,rd,Yc,Zeo f hpc a.bl hi,ent_loc o he,asI_ok,ins_loc,asI_ok,bind_ok]
    dsimp only
    rw [q182_ec16_n,Zo (by omega)]
    by_cases c:e.loc=q.loc
    ·rw [if_pos (by rw [beq_iff_eq];exact c),if_pos c,if_pos hr,rd,Yc,Zeo f hpc a.bl hi,ent_val o he,asI_ok,if_pos hr,rd,Zeo f hpc a.bl hi,ent_id o he,asI_ok,if_pos (by exact (by decide:6<7))]
     rfl
    ·rw [if_neg (by rw [beq_iff_eq];exact c),if_neg c]) (p:=(.exit 0,q182_x1_1 k 37 0 (i:Int) n6 (g (V.b i)).1 z (Stp.cs ⟨i,i,0,0,0,0,(g (V.b i)).2⟩) q.cs h)) (Zm (by
    rw [q182_r1,if_pos hr,rd,Yc,Zeo f hpc a.bl hi,o.len,if_neg (by simp),bind_ok,Yaj (Yf _)]
    dsimp only
    rw [q182_ec15_1]))
   rw [Yda] at lc
   exact lc
  rw [show ((0:Nat):Int)=0 from rfl,g0] at lp
  rw [ins_loc,asI_ok,if_pos hql,rd,rv_mem f hpc hmem,asI_ok,ins_loc,asI_ok,if_pos hql,rd,rv_frm f hpc hfrm,asI_ok,if_pos (by exact (by decide:6<7)),bind_ok]
  dsimp only
  rw [show (Stp.cs ⟨i,i,0,0,0,0,-1⟩).set 6 (.int .i64 (V.frm.getD q.loc.toNat 0))=Stp.cs ⟨i,i,0,0,0,0,V.frm.getD q.loc.toNat 0⟩ from rfl,q182_ec14_n,lp,bind_ok]
  dsimp only
  rw [q182_e1_1,gv]
set_option maxHeartbeats 2000000 in
theorem rThread (hE:q182_In E) {n k:Nat} {h:Za} {x:Cell} {bs pc:List Cell} {V:MV} (a:RvAt n h k x bs pc V) (v:V.Inv) (hg:V.P.good) (hst:V.st.length<100000) {i:Nat} (h4:i<4) (hi:V.may i=true) (h0:Za) (z:List Cell) (hz:z.length=7) :
  ∃x' bs' h',(q182_k5 (R E) Zq E.glob h0) .normal (q182_c4 k 37 0 (i:Int) V.st.length z (Stp.cs ⟨i,i,0,0,0,0,-1⟩) h)=some ([.agg (V.stp i).cs,.c (.bool true)],h')/\RvAt n h' k x' bs' pc (V.nx i)/\KpV n k x x' h h':=by
 have f:=v.fit
 have hpc:=a.prog.len
 have hl:=Zcn (x:=x) f hpc a.bl
 have hr:0<=(i:Int)/\(i:Int)<((4:Nat):Int):=⟨by omega,by omega⟩
 have hk:k<h.length:=Zan a.blk
 have rd:∀{α:Type} {F:List Cell->Option α},Zp h k 37 F=F (rvC pc V bs x):=fun {α F}=>Zy a.blk hl
 have p:=Zeq a.prog a.hn (Kp.refl n h)
 have hql:=MV.l_at (V:=V) (t:=i) (by rw [f.lc];exact h4)
 have hq:=MV.may_thr h4 hi
 have hS:V.stp i={ V.thrS i (V.thrI i) with pick:=i }:=by unfold MV.stp;rw [if_pos h4]
 have hN:V.nx i={ V.thrM i (V.thrI i) with st:=V.st++[V.stp i] }:=by unfold MV.nx;rw [if_pos h4]
 generalize V.thrI i=q at hq hS hN
 obtain ⟨q1,q2,q3,q4,q5⟩:=v.nxt hq
 have hbl:(V.b i).length<24:=by have:=v.pcs i h4;omega
 have hrd:(q.kind==2||q.kind==4)=rdI q:=by unfold rdI;rw [Yay];simp
 generalize ha15:(if rdI q=true then (V.val i q).1 else 0)=a15
 have hev:evOf q (V.l i) a15=evOf q (V.l i) (V.val i q).1:=by
  cases c:rdI q with
  | true=>rw [←ha15,c,if_pos rfl]
  | false=>exact Zko c _ _ _
 have haf:Zbi (V.P.code i) (V.l i) a15=Zbi (V.P.code i) (V.l i) (V.val i q).1:=by
  cases c:rdI q with
  | true=>rw [←ha15,c,if_pos rfl]
  | false=>exact Zhu hq c _ _
 have rR:=rRead (E:=E) a f h4 q1 V.st.length z
 rw [ha15] at rR
 generalize hfr:(if rdI q=true then (V.val i q).2 else -1)=fr at rR
 generalize hee:evOf q (V.l i) (V.val i q).1=e at *
 have he:0<=e.loc/\e.loc<4:=by rw [←hee];exact Zhx q1
 have he45:e.kind=2∨e.kind=4∨Zpw e=false:=by
  by_cases c2:e.kind=2
  ·exact .inl c2
  ·by_cases c4:e.kind=4
   ·exact .inr (.inl c4)
   ·refine .inr (.inr ?_)
    unfold Zpw
    rw [beq_false_of_ne c2,beq_false_of_ne c4];rfl
 have eS:V.stp i=⟨i,i,e.kind,e.loc,e.r,e.w,fr⟩:=by
  rw [hS];unfold MV.thrS;rw [hee,hfr]
 obtain ⟨bs',h',w1,w2,w3,w4,w5,w6⟩:=rWrite (E:=E) a v h4 hbl e he he45 a15 z (V.stp i).cs
 have fW:=wr_fit v e hbl
 obtain ⟨wl,wP,wm⟩:=V.wr_lc i e
 have hl':=Zcn (x:=x) fW hpc w3
 have hk':k<h'.length:=Zan w2
 have p':=Zeq a.prog a.hn w5
 have fN:MV.Fit { V.wr i e with lc:=V.lc.set i (Zbi (V.P.code i) (V.l i) (V.val i q).1) }:=⟨fW.m,by rw [Yo];exact f.lc,fW.mem,fW.frm,fW.bf,fW.b⟩
 have hsetL:splice (rvC pc (V.wr i e) bs' x) ((0+12)+i*5) (Zbi (V.P.code i) (V.l i) a15).cs=rvC pc { V.wr i e with lc:=V.lc.set i (Zbi (V.P.code i) (V.l i) (V.val i q).1) } bs' x:=by
  rw [haf,Zyx fW hpc h4,wl]
 have k5:Kp n h' (setBlk h' k (some ⟨true,0,rvC pc { V.wr i e with lc:=V.lc.set i (Zbi (V.P.code i) (V.l i) (V.val i q).1) } bs' x⟩)):=Kp.set a.nk _
 have kk:Kp n h (setBlk h' k (some ⟨true,0,rvC pc { V.wr i e with lc:=V.lc.set i (Zbi (V.P.code i) (V.l i) (V.val i q).1) } bs' x⟩)):=w5.trans k5
 have hstW:(V.wr i e).st=V.st:=by unfold MV.wr;split<;>(try split)<;>rfl
 obtain ⟨x',h9,e9,r9,k9,fr9⟩:=Zzx (W:={ V.wr i e with lc:=V.lc.set i (Zbi (V.P.code i) (V.l i) (V.val i q).1) }) (bs:=bs') (x:=x) (Zad hk' _) fN hpc w3 (Yak a.hn kk.1) a.nk (by rw [Zfh kk];show ProgAt _ _ (V.wr i e).P;rw [wP];exact a.prog)
  (by
   show Own n _ x 7 (Zai (V.wr i e).st) (V.wr i e).st.length
   rw [hstW]
   exact a.st.via fun j b s1 s2=>by
    have hne:j≠k:=fun c=>a.sep (c ▸ s1)
    rw [Zbh (fun c=>hne c.symm)];exact w6 j b s2 hne) a.sep
  (fun t ht=>by
   obtain ⟨s1,s2,s3⟩:=w4 t ht
   exact ⟨s1.setO s2 _,s2,s3⟩) (by show (V.wr i e).st.length<100000;rw [hstW];exact hst) (V.stp i)
 have hNX:V.nx i={ V.wr i e with lc:=V.lc.set i (Zbi (V.P.code i) (V.l i) (V.val i q).1),st:=(V.wr i e).st++[V.stp i] }:=by
  rw [hN,hstW];unfold MV.thrM;rw [hee]
 refine ⟨x',bs',h9,?_,by rw [hNX];exact r9,⟨kk.trans k9,fun j b hj hne hnx=>fr9 j b (by rw [Zbh (fun c=>hne c.symm)];exact w6 j b hj hne) hne hnx⟩⟩
 have sets:((((Stp.cs ⟨i,i,0,0,0,0,fr⟩).set 2 (.int .i64 e.kind)).set 3 (.int .i64 e.loc)).set 4 (.int .i64 e.r)).set 5 (.int .i64 e.w)=(V.stp i).cs:=by rw [eS];rfl
 have s7':∀s:Stp,splice (Yd 7 ci0) 0 s.cs=s.cs:=fun _=>rfl
 have hqn:Zbg (V.P.code i) (V.l i)=some q:=hq
 rw [q182_ec4_n,rd,if_pos (by rw [hl];omega),if_pos hr,rd,Yc,if_pos (by rw [hl];omega),Zsp hpc,Zsn f hpc hql,Zlw hE.c81 hg p,hqn,qh_ok,c2_ok,asA_ok,asB_ok,if_pos (by exact ⟨rfl,rfl,rfl⟩),bind_ok]
 dsimp only [Option.getD_some]
 rw [q182_ec11_n,ins_kind,asI_ok,ins_kind,asI_ok,scK_or,bind_ok,hrd]
 dsimp only
 rw [rR,bind_ok]
 dsimp only
 rw [q182_ec12_n,if_pos (by exact ⟨rfl,rfl⟩),if_pos hr,rd,Yc,if_pos (by rw [hl];omega),Zsn f hpc hql,evOf_ref hE.c111,hev,qh_ok,c1_ok,asA_ok,if_pos (by exact ⟨rfl,rfl,rfl⟩),bind_ok]
 dsimp only
 rw [q182_ec17_n,evt_kind,asI_ok,evt_loc,asI_ok,evt_r,asI_ok,evt_w,asI_ok,if_pos (by exact (by decide:2<7)),if_pos (by exact (by decide:3<7)),if_pos (by exact (by decide:4<7)),if_pos (by exact (by decide:5<7)),bind_ok]
 dsimp only
 rw [sets,q182_ec18_n]
 simp only [evt_kind,asI_ok,rd,rv_m hpc,scK_and,scK_or,bind_ok]
 rw [w1,bind_ok]
 dsimp only
 rw [q182_ec19_n,Zy w2 hl',if_pos (by rw [hl'];omega),if_pos hr,Zy w2 hl',Yc,if_pos (by rw [hl'];omega),Zsp hpc,Zsn fW hpc (by rw [wl];exact hql),Zxu hE.c107 hg p',qh_ok,c1_ok,asA_ok,if_pos hr,Zy w2 hl',if_pos (by exact ⟨by rw [hl'];omega,rfl⟩),hsetL,Zfx w2,bind_ok]
 dsimp only
 rw [q182_ec22_n,Zy (Zad hk' _) (Zcn (x:=x) fN hpc w3),Zec fN hpc w3,if_pos (by exact ⟨rfl,rfl⟩),if_pos (by exact ⟨rfl,by decide⟩),s7',if_pos (by exact rfl),e9,if_pos (by exact ⟨rfl,rfl⟩),if_pos (by exact ⟨rfl,hz,rfl⟩),if_pos (by exact ⟨rfl,rfl⟩)]
theorem rPick_no (hE:q182_In E) {n k:Nat} {h:Za} {x:Cell} {bs pc:List Cell} {V:MV} (a:RvAt n h k x bs pc V) (f:V.Fit) (hg:V.P.good) {i:Int} (hi:Zey V i=false) :
  R E 182 [.c (.ptr k 37 0),.c (.int .i64 i)] h=some ([.agg (Stp.cs ⟨0,0,0,0,0,0,0⟩),.c (.bool false)],h):=by
 refine Zd hE.fn ?_
 rw [q182_eq,Zzn hE.c196 a f hg,c1_ok,asB_ok,hi,if_pos (by simp),if_pos (by exact ⟨rfl,rfl,rfl⟩),bind_ok]
 dsimp only
 rw [q182_ec1_0,if_pos (by exact ⟨rfl,rfl⟩)]
 rfl
theorem Zrw (hE:q182_In E) {n k:Nat} {h:Za} {x:Cell} {bs pc:List Cell} {V:MV} (a:RvAt n h k x bs pc V) (v:V.Inv) (hg:V.P.good) (hst:V.st.length<100000) {i:Nat} (hi:V.may i=true) :
  ∃x' bs' h',R E 182 [.c (.ptr k 37 0),.c (.int .i64 (i:Int))] h=some ([.agg (V.stp i).cs,.c (.bool true)],h')/\RvAt n h' k x' bs' pc (V.nx i)/\KpV n k x x' h h':=by
 have f:=v.fit
 have hpc:=a.prog.len
 have hl:=Zcn (x:=x) f hpc a.bl
 have rd:∀{α:Type} {F:List Cell->Option α},Zp h k 37 F=F (rvC pc V bs x):=fun {α F}=>Zy a.blk hl
 have e1:splice (splice (splice (Yd 7 ci0) 0 [(.int .i64 (i:Int))]) 1 [(.int .i64 (i:Int))]) 6 [(.int .i64 (-1))]=Stp.cs ⟨i,i,0,0,0,0,-1⟩:=rfl
 by_cases h4:i<4
 ·obtain ⟨x',bs',h',r1,r2,r3⟩:=rThread hE a v hg hst h4 hi h (Yd 7 ci0) rfl
  refine ⟨x',bs',h',Zd hE.fn ?_,r2,r3⟩
  have hno:Zjh V.m (i:Int)=(0,0,false):=by unfold Zjh;rw [if_neg (by omega),if_neg (by omega)]
  rw [q182_eq,Zzn hE.c196 a f hg,c1_ok,asB_ok,mayI_nat,hi,if_neg (by simp),bind_ok]
  dsimp only
  rw [q182_ec1_n,rd,Zec f hpc a.bl,a.st.at.len,bind_ok]
  dsimp only
  rw [q182_ec2_n,e1,if_pos (by exact ⟨rfl,rfl,rfl⟩),bind_ok]
  dsimp only
  rw [q182_ec3_n,Zjr hE.c197 a f,hno,c3_ok,asI_ok,asI_ok,asB_ok,bind_ok]
  dsimp only
  rw [q182_ec5_n,if_neg (by simp),bind_ok]
  exact r1
 ·obtain ⟨t,loc,p,e,ht,hp,hfl,hf,hs,hnx⟩:=flu_data h4 hi
  obtain ⟨x',bs',h',r1,r2,r3⟩:=rFlush hE a v hst (i:=(i:Int)) ht hp hf (Yd 7 ci0) rfl
  refine ⟨x',bs',h',Zd hE.fn ?_,by rw [hnx,hs];exact r2,r3⟩
  rw [q182_eq,Zzn hE.c196 a f hg,c1_ok,asB_ok,mayI_nat,hi,if_neg (by simp),bind_ok]
  dsimp only
  rw [q182_ec1_n,rd,Zec f hpc a.bl,a.st.at.len,bind_ok]
  dsimp only
  rw [q182_ec2_n,e1,if_pos (by exact ⟨rfl,rfl,rfl⟩),bind_ok]
  dsimp only
  rw [q182_ec3_n,Zjr hE.c197 a f,hfl,c3_ok,asI_ok,asI_ok,asB_ok,bind_ok]
  dsimp only
  rw [r1,bind_ok]
  dsimp only
  rw [q182_ec4_0,if_pos (by exact ⟨rfl,rfl⟩),hs]
end
theorem RvAt.keep {n:Nat} {h h':Za} {k:Nat} {x:Cell} {bs pc:List Cell} {V:MV} (a:RvAt n h k x bs pc V) (hk:Kp h.length h h'):RvAt n h' k x bs pc V :=
 ⟨Yak a.hn hk.1,a.nk,by rw [Zfh (hk.mono a.hn)];exact a.prog,by rw [hk.blk (Zan a.blk)];exact a.blk,a.st.keepK hk,a.sep,a.bl,fun t ht=>by
  obtain ⟨q1,q2,q3⟩:=a.bf t ht
  exact ⟨q1.keepK hk,q2,q3⟩⟩
theorem RvAt.other {n:Nat} {h h':Za} {k:Nat} {x:Cell} {bs pc:List Cell} {V:MV} (a:RvAt n h k x bs pc V) (hl:h.length<=h'.length) (hn:Kp n h h') (hk:∀j b,blk? h j=some b->j=k∨Zv x j∨(∃t,t<4/\Zv (bs.getD t .nils) j)->blk? h' j=some b):RvAt n h' k x bs pc V :=
 ⟨Yak a.hn hl,a.nk,by rw [Zfh hn];exact a.prog,hk k _ a.blk (.inl rfl),a.st.via fun j b q1 q2=>hk j b q2 (.inr (.inl q1)),a.sep,a.bl,fun t ht=>by
  obtain ⟨q1,q2,q3⟩:=a.bf t ht
  exact ⟨q1.via fun j b s1 s2=>hk j b s2 (.inr (.inr ⟨t,ht,s1⟩)),q2,q3⟩⟩
theorem may_bits (V:MV):(Yk 24).filter V.may=Zbu V.word:=by
 unfold Zbu
 rw [show (fun i=>V.word.testBit i)=V.may from funext fun i=>V.word_bit i]
 have e:Yk 64=Yk 24++List.range' 24 40:=by decide
 rw [e,Yv]
 have:(List.range' 24 40).filter V.may=[]:=by
  rw [Yca]
  intro a ha
  rw [List.mem_range'_1] at ha
  rw [MV.may_out (by omega)];simp
 rw [this,Yi]
theorem Zxt {P:PProg} {t:Nat} (h:P.thr.length<=t):Zak P (t:Int)=Lcl.zero:=by
 have:P.code (t:Int)=[]:=Zlh (by omega)
 unfold Zak Zrq
 rw [this];rfl
def lcU (P:PProg) (t:Nat):List Lcl:=[if 0<t then Zak P 0 else Lcl.zero,if 1<t then Zak P 1 else Lcl.zero,if 2<t then Zak P 2 else Lcl.zero,if 3<t then Zak P 3 else Lcl.zero]
theorem lcU_next (P:PProg):∀t,t<4->(lcU P t).set t (Zak P (t:Int))=lcU P (t+1)
 | 0,_=>rfl
 | 1,_=>rfl
 | 2,_=>rfl
 | 3,_=>rfl
 | t+4,h=>by omega
theorem lcU_end (P:PProg):lcU P P.thr.length=[Zak P 0,Zak P 1,Zak P 2,Zak P 3]:=by
 have key:∀t:Nat,(if t<P.thr.length then Zak P (t:Int) else Lcl.zero)=Zak P (t:Int):=fun t=>by
  split
  ·rfl
  ·exact (Zxt (by omega)).symm
 unfold lcU
 have e0:=key 0;have e1:=key 1;have e2:=key 2;have e3:=key 3
 rw [show ((0:Nat):Int)=0 from rfl] at e0
 rw [show ((1:Nat):Int)=1 from rfl] at e1
 rw [show ((2:Nat):Int)=2 from rfl] at e2
 rw [show ((3:Nat):Int)=3 from rfl] at e3
 rw [e0,e1,e2,e3]
def MV.raw (P:PProg) (m:Int) (lc:List Lcl) (mem:List Int):MV:=⟨P,m,lc,mem,[-1,-1,-1,-1],[[],[],[],[]],[]⟩
theorem MV.raw_fit {P:PProg} {m:Int} {lc:List Lcl} {mem:List Int} (hm:1<=m/\m<=3) (h1:lc.length=4) (h2:mem.length=4):(MV.raw P m lc mem).Fit :=
 ⟨hm,h1,h2,rfl,rfl,fun l hl=>by simp [MV.raw] at hl;subst hl;simp⟩
theorem raw_0 (a b c:Cell) (P:PProg) (m:Int):splice (splice (splice ([Cell.nils,Cell.nils,Cell.nils]++Yd 29 ci0++Yd 5 (Cell.nils)) 0 [a,b,c]) 3 [(.int .i64 m)]) 8 (splice (splice (splice (splice [ci0,ci0,ci0,ci0] 0 [(.int .i64 (-1))]) 1 [(.int .i64 (-1))]) 2 [(.int .i64 (-1))]) 3 [(.int .i64 (-1))]) =
  rvC [a,b,c] (MV.raw P m (lcU P 0) [0,0,0,0]) [.nils,.nils,.nils,.nils] .nils:=by kernel_rfl
theorem Zqp {l:List Int} (h4:l.length<=4) {i:Nat} {v:Int} (hv:l[i]? = some v):(l.take i++Yd (4 - i) 0).set i v=l.take (i+1)++Yd (4 - (i+1)) 0:=by
 have hi:=Zf hv
 have hl:(l.take i).length=i:=by rw [Yao];omega
 rw [Zal hv,List.set_append_right _ _ (by omega),hl,Ybq,show 4 - i=(4 - (i+1))+1 by omega,Ycg,List.set_cons_zero,Yau]
 rfl
section
variable {E:Env}
theorem rNew_R (hE:q180_In E) {h:Za} {pc:List Cell} {P:PProg} (p:ProgAt h pc P) (hg:P.good) (h4:P.thr.length<=4) (hil:P.init.length<=4) {m:Int} (hm:1<=m/\m<=3) :
  ∃h',R E 180 [.agg pc,.c (.int .i64 m)] h=some ([.c (.ptr h.length 37 0)],h')/\RvAt h.length h' h.length .nils [.nils,.nils,.nils,.nils] pc (MV.new P m)/\Kp h.length h h':=by
 obtain ⟨a,b,c,ts,he,_⟩:=id p
 subst he
 have hpc:([a,b,c]:List Cell).length=3:=rfl
 have hbs:([.nils,.nils,.nils,.nils]:List Cell).length=4:=rfl
 have b8:∀l:List Cell,blk? (h++[some ⟨true,0,l⟩]) h.length=some ⟨true,0,l⟩:=fun l=>Zw _ _
 have p9:∀q,ProgAt (h++[some q]) [a,b,c] P:=fun q=>p.keep (Kp.app _ (Yf _))
 have put:∀(l cs:List Cell) {α:Type} {F:Za->Option α},Zbe (h++[some ⟨true,0,l⟩]) h.length cs F=F (h++[some ⟨true,0,cs⟩]):=fun l cs α F=>by rw [Zfx (b8 l),setBlk_last]
 obtain ⟨bi,hbi,hbl,hbg⟩:=p.initG
 have q1:∀{α:Type} (f:Cell->Option α),Ze [a,b,c] 1 f=f b:=fun _=>rfl
 have ebi:bi=b:=by
  have:=hbg (α:=Cell) (fun c=>some c)
  rw [q1] at this
  exact (Yl.inj this).symm
 subst ebi
 have lens:∀lc mem,lc.length=4->mem.length=4->(rvC [a,bi,c] (MV.raw P m lc mem) [.nils,.nils,.nils,.nils] .nils).length=37:=fun lc mem h1 h2=>Zcn (MV.raw_fit hm h1 h2) hpc hbs
 have rd:∀(lc:List Lcl) (mem:List Int) {α:Type} {F:List Cell->Option α},lc.length=4->mem.length=4->Zp (h++[some ⟨true,0,rvC [a,bi,c] (MV.raw P m lc mem) [.nils,.nils,.nils,.nils] .nils⟩]) h.length 37 F=F (rvC [a,bi,c] (MV.raw P m lc mem) [.nils,.nils,.nils,.nils] .nils):=fun lc mem α F h1 h2=>Zy (b8 _) (lens lc mem h1 h2)
 have hbi':∀q,SlAt (h++[some q]) bi 1 (intC .i64 P.init) P.init.length:=fun q=>hbi.keep hbl (Kp.app _ (Yf _))
 have ml:∀i,i<=P.init.length->(P.init.take i++Yd (4 - i) 0).length=4:=fun i hi=>by rw [Ye,Yao,Yj];omega
 have l1:Zq (q180_F1 (R E) Zq E.glob) (q180_s1 h.length 37 0 ((0:Nat):Int) [a,bi,c] (h++[some ⟨true,0,rvC [a,bi,c] (MV.raw P m (lcU P 0) (P.init.take 0++Yd (4 - 0) 0)) [.nils,.nils,.nils,.nils] .nils⟩]))=some (.exit 0,q180_x1_1 h.length 37 0 [a,bi,c] (h++[some ⟨true,0,rvC [a,bi,c] (MV.raw P m (lcU P 0) (MV.new P m).mem) [.nils,.nils,.nils,.nils] .nils⟩])):=by
  refine Zax (F:=q180_F1 (R E) Zq E.glob) (fun i=>q180_s1 h.length 37 0 (i:Int) [a,bi,c] (h++[some ⟨true,0,rvC [a,bi,c] (MV.raw P m (lcU P 0) (P.init.take i++Yd (4 - i) 0)) [.nils,.nils,.nils,.nils] .nils⟩])) 0 P.init.length (by omega) (fun i _ hi=>?_) (Zm ?_)
  ·have hv:P.init[i]? = some P.init[i]:=Ya hi
   generalize P.init[i]=v at hv
   have hr:0<=(i:Int)/\(i:Int)<((4:Nat):Int):=⟨by omega,by omega⟩
   have hset:=Zru (bs:=[.nils,.nils,.nils,.nils]) (x:=.nils) (MV.raw_fit (P:=P) (lc:=lcU P 0) hm rfl (ml i (by omega))) hpc (i:=i) (by omega) v
   rw [q180_r1,q1,hbi.len,if_pos (by simp;omega),q1,(hbi' _).get1 hi (Zar hv),asI_ok,if_pos hr,rd _ _ rfl (ml i (by omega)),Yc,if_pos (by rw [lens _ _ rfl (ml i (by omega))];omega),hset,put,Zo (by omega)]
   rw [show ({ MV.raw P m (lcU P 0) (P.init.take i++Yd (4 - i) 0) with mem:=(MV.raw P m (lcU P 0) (P.init.take i++Yd (4 - i) 0)).mem.set i v }:MV)=MV.raw P m (lcU P 0) ((P.init.take i++Yd (4 - i) 0).set i v) from rfl,Zqp hil hv]
  ·rw [q180_r1,q1,hbi.len,if_neg (by simp),Yaj (Yf _)]
   rfl
 have nm:(MV.new P m).mem.length=4:=(MV.new_fit hm hil).mem
 have n3:∀{α:Type} {h':Za} {F:Int->Option α},ProgAt h' [a,bi,c] P->(Ze [a,bi,c] 2 fun q=>Zz q F)=F P.thr.length:=fun pp=>pp.nthr
 have l2:Zq (q180_F2 (R E) Zq E.glob) (q180_s2 h.length 37 0 ((0:Nat):Int) [a,bi,c] (h++[some ⟨true,0,rvC [a,bi,c] (MV.raw P m (lcU P 0) (MV.new P m).mem) [.nils,.nils,.nils,.nils] .nils⟩]))=some (.exit 2,q180_x2_3 h.length 37 0 (h++[some ⟨true,0,rvC [a,bi,c] (MV.raw P m (lcU P P.thr.length) (MV.new P m).mem) [.nils,.nils,.nils,.nils] .nils⟩])):=by
  refine Zax (F:=q180_F2 (R E) Zq E.glob) (fun i=>q180_s2 h.length 37 0 (i:Int) [a,bi,c] (h++[some ⟨true,0,rvC [a,bi,c] (MV.raw P m (lcU P i) (MV.new P m).mem) [.nils,.nils,.nils,.nils] .nils⟩])) 0 P.thr.length (by omega) (fun i _ hi=>?_) (Zm ?_)
  ·have hr:0<=(i:Int)/\(i:Int)<((4:Nat):Int):=⟨by omega,by omega⟩
   have hset:=Zyx (bs:=[.nils,.nils,.nils,.nils]) (x:=.nils) (MV.raw_fit (P:=P) (lc:=lcU P i) hm rfl nm) hpc (t:=i) (by omega) (Zak P (i:Int))
   rw [q180_r2,n3 p,if_pos (by simp;omega),if_pos (by exact ⟨rfl,rfl⟩),Zxz hE.c104 hg (p9 _),qh_ok,c1_ok,asA_ok,if_pos hr,rd _ _ rfl nm,Yc,if_pos (by exact ⟨by rw [lens _ _ rfl nm];omega,rfl⟩),hset,put,Zo (by omega)]
   rw [show ({ MV.raw P m (lcU P i) (MV.new P m).mem with lc:=(MV.raw P m (lcU P i) (MV.new P m).mem).lc.set i (Zak P (i:Int)) }:MV)=MV.raw P m ((lcU P i).set i (Zak P (i:Int))) (MV.new P m).mem from rfl,lcU_next P i (by omega)]
  ·rw [q180_r2,n3 p,if_neg (by simp)]
 rw [show ((0:Nat):Int)=0 from rfl] at l1 l2
 have efin:MV.raw P m (lcU P P.thr.length) (MV.new P m).mem=MV.new P m:=by rw [lcU_end P];rfl
 rw [efin] at l2
 refine ⟨h++[some ⟨true,0,rvC [a,bi,c] (MV.new P m) [.nils,.nils,.nils,.nils] .nils⟩],Zd hE.fn ?_,⟨by simp,Yf _,?_,b8 _,Own.nil _ _ _,fun q=>q,hbs,fun t ht=>?_⟩,Kp.app _ (Yf _)⟩
 ·have hz:([Cell.nils,Cell.nils,Cell.nils]++Yd 29 ci0++Yd 5 (Cell.nils)).length=37:=by kernel_rfl
  have ec:∀z:List Cell,AV.cells (.agg z)=z:=fun _=>rfl
  rw [q180_eq,if_pos (by exact ⟨rfl,rfl⟩),if_pos (by exact ⟨rfl,by rw [hz];omega⟩),if_pos (by exact ⟨rfl,by rw [Zdu (by rw [hz];simp),hz];omega⟩),if_pos (by exact ⟨rfl,by rw [Zdu (by rw [Zdu (by rw [hz];simp),hz];simp),Zdu (by rw [hz];simp),hz];omega⟩),ec,raw_0 a bi c P m,lens _ _ rfl rfl]
  have e0:P.init.take 0++Yd (4 - 0) 0=[0,0,0,0]:=rfl
  rw [e0] at l1
  rw [l1,bind_ok]
  dsimp only
  rw [q180_e1_1,l2,bind_ok]
  dsimp only
  rw [q180_e2_3]
 ·rw [Yaf (Yf _),Yah];exact p
 ·have:(([.nils,.nils,.nils,.nils]:List Cell).getD t .nils)=.nils:=by
   match t with
   | 0=>rfl
   | 1=>rfl
   | 2=>rfl
   | 3=>rfl
   | t+4=>rfl
  rw [this,Ztw]
  exact ⟨Own.nil _ _ _,fun q=>q,fun j q=>absurd q (by simp [Zv])⟩
theorem Zqf (hE:q181_In E) {n k:Nat} {h:Za} {x:Cell} {bs pc:List Cell} {V:MV} (a:RvAt n h k x bs pc V) (f:V.Fit) (hg:V.P.good) :
  ∃y h',R E 181 [.c (.ptr k 37 0)] h=some ([.c y],h')/\Own h.length h' y 1 (Zvp (Zbu V.word)) (Zbu V.word).length/\Kp h.length h h':=by
 have hM:maxBytes>=1000*8:=by unfold maxBytes;omega
 obtain ⟨st,⟨y,h',rfl,o,kk⟩,hL⟩:=Zcb (F:=q181_F1 (R E) Zq E.glob) (fun i st=>∃y h',st=q181_s1 k 37 0 y (i:Int) h'/\Own h.length h' y 1 (Zvp ((Yk i).filter V.may)) ((Yk i).filter V.may).length/\Kp h.length h h') 0 24 (by omega)
  (fun i st _ hi=>by
   rintro ⟨y,h',rfl,o,kk⟩
   have hlen:((Yk i).filter V.may).length<=i:=Yak (Ybf _ _) (by simp)
   have my:=Zzn hE.c196 (a.keep kk) f hg (i:Int)
   rw [mayI_nat] at my
   cases hm:V.may i with
   | false =>
    refine ⟨q181_s1 k 37 0 y ((i+1:Nat):Int) h',?_,y,h',rfl,?_,kk⟩
    ·rw [q181_r1,if_pos (by simp;omega),my,c1_ok,asB_ok,hm,if_neg (by simp),Zo (by omega)]
    ·rw [Yac,Yv,Ycu,hm]
     simpa using o
   | true =>
    obtain ⟨y2,h2,e2,o2,k2,_⟩:=o.app (bytes:=8) (xs:=[.int .i64 (i:Int)]) kk.1 rfl (by omega) (by omega) (by omega)
    refine ⟨q181_s1 k 37 0 y2 ((i+1:Nat):Int) h2,?_,y2,h2,rfl,?_,kk.trans k2⟩
    ·rw [q181_r1,if_pos (by simp;omega),my,c1_ok,asB_ok,hm,if_pos rfl,if_pos (by rfl),show splice [ci0] 0 [(.int .i64 (i:Int))]=[.int .i64 (i:Int)] from rfl,e2,Zo (by omega)]
    ·rw [Yac,Yv,Ycu,hm,if_pos rfl,Ybw,natC_snoc,Ye,Yh]
     exact o2) (st:=q181_s1 k 37 0 .nils ((0:Nat):Int) h) ⟨.nils,h,rfl,Own.nil _ _ _,Kp.refl _ _⟩
 rw [may_bits] at o
 have hr:=hL _ (Zm (show q181_F1 (R E) Zq E.glob (q181_s1 k 37 0 y ((24:Nat):Int) h')=some (.exit 0,q181_x1_1 y h') by rw [q181_r1,if_neg (by simp)]))
 rw [show ((0:Nat):Int)=0 from rfl] at hr
 refine ⟨y,h',Zd hE.fn ?_,o,kk⟩
 rw [q181_eq,hr,bind_ok]
 dsimp only
 rw [q181_e1_1]
end
theorem Own.has {n:Nat} {h:Za} {y:Cell} {esz len:Nat} {cs:List Cell} (o:Own n h y esz cs len) {j:Nat} (hj:Zv y j):blk? h j=some ⟨true,esz,cs⟩:=by
 rcases o.2 with ⟨e,_⟩ | ⟨j',e,_,hb⟩
 ·rw [e] at hj;exact absurd hj (by simp [Zv])
 ·have:j'=j:=by rw [e] at hj;exact hj
  subst this;exact hb
structure Both (n:Nat) (h:Za) (k:Nat) (x:Cell) (pc:List Cell) (V:MV) (n' k':Nat) (x':Cell) (bs pc':List Cell) (W:MV):Prop where
 a:VmAt n h k x pc V
 b:RvAt n' h k' x' bs pc' W
 nn:n<=n'
 d:∀j,Zv x j->¬Zv x' j
 fV:V.Fit
 fW:W.Fit
section both
variable {n:Nat} {h:Za} {k:Nat} {x:Cell} {pc:List Cell} {V:MV} {n' k':Nat} {x':Cell} {bs pc':List Cell} {W:MV} (B:Both n h k x pc V n' k' x' bs pc' W)
include B
end both
section
variable {E:Env}
end
def MV.runG (V:MV):List Int->MV × Nat
 | []=>(V,0)
 | p :: ps=>if Zey V p=true then (((V.nx p.toNat).runG ps).1,((V.nx p.toNat).runG ps).2+1) else (V,0)
theorem Znp {V:MV} {p:Int} (h:Zey V p=true):∃j:Nat,p=(j:Int)/\V.may j=true/\p.toNat=j:=by
 unfold Zey at h
 rw [Yb] at h
 obtain ⟨j,rfl⟩:=Yag (of_decide_eq_true h.1)
 exact ⟨j,rfl,h.2,rfl⟩
theorem MV.runG_inv {V:MV} (v:V.Inv):∀l:List Int,(V.runG l).1.Inv/\(V.runG l).1.P=V.P/\(V.runG l).1.m=V.m/\(V.runG l).1.st.length=V.st.length+(V.runG l).2/\(V.runG l).2<=l.length
 | []=>⟨v,rfl,rfl,rfl,Yf _⟩
 | p :: ps=>by
  unfold MV.runG
  by_cases h:Zey V p=true
  ·obtain ⟨j,rfl,hj,hn⟩:=Znp h
   rw [if_pos h,hn]
   obtain ⟨h1,h2,h3,h4,h5⟩:=MV.runG_inv (v.nx hj) ps
   refine ⟨h1,h2.trans (V.nx_P j).1,h3.trans (V.nx_P j).2,?_,by dsimp only;rw [Yai];omega⟩
   dsimp only
   rw [h4,V.nx_st,Ye,Yh];omega
  ·rw [if_neg h]
   exact ⟨v,rfl,rfl,rfl,by dsimp only;omega⟩
theorem MV.runG_snoc:∀(l:List Int) (V:MV) (j:Nat),(V.runG l).2=l.length->(V.runG l).1.may j=true->V.runG (l++[(j:Int)])=((V.runG l).1.nx j,l.length+1)
 | [],V,j,_,hj=>by
  show V.runG [(j:Int)]=_
  unfold MV.runG
  rw [if_pos (by rw [mayI_nat];exact hj)]
  rfl
 | p :: ps,V,j,hl,hj=>by
  rw [Ycv]
  unfold MV.runG at hl hj ⊢
  by_cases h:Zey V p=true
  ·rw [if_pos h] at hl hj ⊢
   have:=MV.runG_snoc ps (V.nx p.toNat) j (by simp only [Yai] at hl;omega) hj
   rw [this,if_pos h]
   rfl
  ·rw [if_neg h] at hl
   simp at hl
section
variable {E:Env}
theorem Zyl (hE:q186_In E) {h:Za} {pc:List Cell} {P:PProg} (p:ProgAt h pc P) (hg:P.good) (h4:P.thr.length<=4) (hil:P.init.length<=4) {m:Int} (hm:1<=m/\m<=3) (inv:(MV.new P m).Inv) {y:Cell} {l:List Int} (hy:SlAt h y 1 (intC .i64 l) l.length) (hlow:Low h.length y) (hlen:l.length<90000) :
  ∃x' bs h',R E 186 [.agg pc,.c (.int .i64 m),.c y] h=some ([.c (.ptr h.length 37 0),.c (.int .i64 (((MV.new P m).runG l).2:Int))],h')/\RvAt h.length h' h.length x' bs pc ((MV.new P m).runG l).1/\Kp h.length h h':=by
 obtain ⟨h1,r1,a1,k1⟩:=rNew_R hE.c180 p hg h4 hil hm
 have key:∀(t:List Int) (j:Nat) (V:MV) (x:Cell) (bs:List Cell) (h2:Za),l.drop j=t->j<=l.length->V.st.length=j->V.Inv->V.P=P->RvAt h.length h2 h.length x bs pc V->Kp h.length h h2 ->
   ∃x' bs' h3,(Zq (q186_F1 (R E) Zq E.glob) (q186_s1 y (.ptr h.length 37 0) (j:Int) h2)).bind (fun p_17=>(q186_k3 (R E) Zq E.glob h) p_17.1 p_17.2)=some ([.c (.ptr h.length 37 0),.c (.int .i64 ((j+(V.runG t).2:Nat):Int))],h3)/\RvAt h.length h3 h.length x' bs' pc (V.runG t).1/\Kp h.length h h3:=by
  intro t
  induction t with
  | nil =>
   intro j V x bs h2 hd hj hst v vP a kk
   have hjl:j=l.length:=by
    have:=congrArg Ycr hd
    rw [Ybr,Yar] at this;omega
   subst hjl
   have hy2:=hy.keep hlow kk
   have e1:q186_F1 (R E) Zq E.glob (q186_s1 y (.ptr h.length 37 0) (l.length:Int) h2)=some (.exit 0,q186_x1_1 y (.ptr h.length 37 0) h2):=by
    rw [q186_r1,hy2.len,if_neg (by simp)]
   refine ⟨x,bs,h2,?_,a,kk⟩
   rw [Zm e1,bind_ok]
   dsimp only
   rw [q186_e1_1,hy2.len]
   rfl
  | cons q t ih =>
   intro j V x bs h2 hd hj hst v vP a kk
   have hjl:j<l.length:=by
    rcases Yad j l.length with c | c
    ·exact c
    ·rw [Ys c] at hd;cases hd
   have hq:l[j]? = some q:=by
    have:=congrArg (fun z=>z[0]?) hd
    simp only [Yck,Ybu,Ybs] at this
    exact this
   have hd2:l.drop (j+1)=t:=by
    have:=congrArg (List.drop 1) hd
    rw [Ydb] at this
    simpa using this
   have hy2:=hy.keep hlow kk
   unfold MV.runG
   by_cases hm:Zey V q=true
   ·obtain ⟨i,rfl,hi,hn⟩:=Znp hm
    rw [if_pos hm,hn]
    obtain ⟨x3,bs3,h3,r3,a3,k3⟩:=Zrw hE.c182 a v (by rw [vP];exact hg) (by omega) hi
    have e1:q186_F1 (R E) Zq E.glob (q186_s1 y (.ptr h.length 37 0) (j:Int) h2)=some (.normal,q186_s1 y (.ptr h.length 37 0) ((j+1:Nat):Int) h3):=by
     rw [q186_r1,hy2.len,if_pos (by simp;omega),hy2.get1 hjl (Zar hq),asI_ok,r3,c2_ok,asA_ok,asB_ok,if_pos (by exact ⟨rfl,rfl,rfl⟩),if_neg (by simp),Zo (by omega)]
    obtain ⟨x4,bs4,h4,r4,a4,k4⟩:=ih (j+1) (V.nx i) x3 bs3 h3 hd2 (by omega) (by rw [V.nx_st,Ye,Yh,hst]) (v.nx hi) (by rw [(V.nx_P i).1,vP]) a3 (kk.trans k3.kp)
    refine ⟨x4,bs4,h4,?_,a4,k4⟩
    have hL:∀r,Zq (q186_F1 (R E) Zq E.glob) (q186_s1 y (.ptr h.length 37 0) ((j+1:Nat):Int) h3)=some r->Zq (q186_F1 (R E) Zq E.glob) (q186_s1 y (.ptr h.length 37 0) (j:Int) h2)=some r:=fun r hr=>Zat e1 hr
    cases hl:Zq (q186_F1 (R E) Zq E.glob) (q186_s1 y (.ptr h.length 37 0) ((j+1:Nat):Int) h3) with
    | none=>rw [hl] at r4;cases r4
    | some r =>
     rw [hl] at r4
     rw [hL r hl,r4,show j+1+((V.nx i).runG t).2=j+(((V.nx i).runG t).2+1) by omega]
   ·rw [if_neg hm]
    have hm':Zey V q=false:=by simpa using hm
    have r3:=rPick_no hE.c182 a v.fit (by rw [vP];exact hg) hm'
    have e1:q186_F1 (R E) Zq E.glob (q186_s1 y (.ptr h.length 37 0) (j:Int) h2)=some (.ret,q186_x1_0 (.ptr h.length 37 0) (j:Int) h2):=by
     rw [q186_r1,hy2.len,if_pos (by simp;omega),hy2.get1 hjl (Zar hq),asI_ok,r3,c2_ok,asA_ok,asB_ok,if_pos (by exact ⟨rfl,rfl,rfl⟩),if_pos (by simp)]
    refine ⟨x,bs,h2,?_,a,kk⟩
    rw [Zcf e1,bind_ok]
    dsimp only
    rw [q186_e1_0]
    rfl
 obtain ⟨x',bs',h3,e1,e2,e3⟩:=key l 0 (MV.new P m) .nils _ h1 rfl (by omega) rfl inv rfl a1 k1
 refine ⟨x',bs',h3,Zd hE.fn ?_,e2,e3⟩
 rw [q186_eq,if_pos (by exact ⟨rfl,p.len⟩),r1,c1_ok,asC_ok]
 rw [Yal,show ((0:Nat):Int)=0 from rfl] at e1
 exact e1
end
section both
variable {n:Nat} {h:Za} {k:Nat} {x:Cell} {pc:List Cell} {V:MV} {n' k':Nat} {x':Cell} {bs pc':List Cell} {W:MV}
end both
section
variable {E:Env}
end
section
variable {E:Env}
end
section
variable (C:Zab) (L:Zbv) (G:Glo)
variable {h h0:Za}
variable {x2 x6 x7 x8:Cell}
variable {a1 a9:Int}
variable {l0:List Cell}
def q254_k2 (h0:Za):Ex->St->Rs:=Zac (fun st=>q254_p1.exec C L G st (q254.fin G h0)) (q254.fin G h0)
def q254_k3 (h0:Za):Ex->St->Rs:=Zag 0 (q254_k2 C L G h0)
def q254_s1 (x2 x7 x8:Cell) (a9:Int) (h:Za):St:=⟨tops 2 (.v (.c x2) :: tops 4 (.v (.c x7) :: .v (.c x8) :: .v (.c (.int .i64 a9)) :: tops 46 [])),[none],h⟩
def q254_F1 :St->Option (Ex × St):=Zt (q254_b1.exec C L G) [2,7,8,9] [] [(0,[6],[]),(1,[8],[])]
def q254_x1_0 (x6:Cell) (h:Za):St:=⟨tops 6 (.v (.c x6) :: tops 49 []),[none],h⟩
def q254_x1_1 (x8:Cell) (h:Za):St:=⟨tops 8 (.v (.c x8) :: tops 47 []),[none],h⟩
theorem q254_r1:q254_F1 C L G (q254_s1 x2 x7 x8 a9 h)=if (decide (a9<60))=true then c1 (C 181 [(.c x7)] h) fun y h1=>asC y fun x=>Zz x fun n=>if (n==0)=true then some (.ret,(q254_x1_0 x8 h1)) else Zz x2 fun n=>if (decide (a9<n))=true then Zl 1 x2 a9 fun k N o=>Zp h1 k N fun l=>Ze l o fun q=>Zk .i64 (.c q) fun n=>Zz x fun n1=>if n1=0 then none else let v:Int:=(G.rem .i64 (G.band .i64 n 65535) n1);Zl 1 x v fun k N o=>Zp h1 k N fun l=>Ze l o fun q=>Zk .i64 (.c q) fun n1=>c2 (C 182 [(.c x7),(.c (.int .i64 n1))] h1) fun y y1 h2=>asA y fun l=>asB y1 fun b=>Zz x fun n1=>if n1=0 then none else let v:Int:=(G.rem .i64 (G.band .i64 n 65535) n1);Zl 1 x v fun k N o=>Zp h2 k N fun l=>Ze l o fun q=>Zk .i64 (.c q) fun n=>if (splice [ci0] 0 [(.int .i64 n)]).length=1*1 then Zao 1 8 x8 (splice [ci0] 0 [(.int .i64 n)]) h2 fun x1 h2=>some (.normal,(q254_s1 x2 x7 x1 (G.wrap .i64 (a9+1)) h2)) else none else Zz x fun n=>if n=0 then none else Zl 1 x (G.rem .i64 (G.wrap .i64 (a9*3)) n) fun k N o=>Zp h1 k N fun l=>Ze l o fun q=>Zk .i64 (.c q) fun n=>c2 (C 182 [(.c x7),(.c (.int .i64 n))] h1) fun y y1 h1=>asA y fun l=>asB y1 fun b=>Zz x fun n=>if n=0 then none else Zl 1 x (G.rem .i64 (G.wrap .i64 (a9*3)) n) fun k N o=>Zp h1 k N fun l=>Ze l o fun q=>Zk .i64 (.c q) fun n=>if (splice [ci0] 0 [(.int .i64 n)]).length=1*1 then Zao 1 8 x8 (splice [ci0] 0 [(.int .i64 n)]) h1 fun x h1=>some (.normal,(q254_s1 x2 x7 x (G.wrap .i64 (a9+1)) h1)) else none else some ((.exit 0),(q254_x1_1 x8 h)):=by kernel_rfl
theorem q254_e1_0:(q254_k3 C L G h0) .ret (q254_x1_0 x6 h)=some ([(.c x6)],h):=by kernel_rfl
theorem q254_e1_1:(q254_k3 C L G h0) (.exit 0) (q254_x1_1 x8 h)=some ([(.c x8)],h):=by kernel_rfl
theorem q254_eq:q254.body C L G [(.agg l0),(.c (.int .i64 a1)),(.c x2)] h0=if 0=0/\l0.length=3 then c1 (C 180 [(.agg l0),(.c (.int .i64 a1))] h0) fun y h=>asC y fun x=>(L (q254_F1 C L G) (q254_s1 x2 x .nils 0 h)).bind fun p=>(q254_k3 C L G h0) p.1 p.2 else none:=by kernel_rfl
end
theorem ptrK_p {α:Type} {k N o:Nat} {f:Nat->Nat->Nat->Option α}:Znj (.ptr k N o) f=f k N o:=rfl
def MV.whole (V:MV) (l:List Int):Prop:=(V.runG l).2=l.length
def MV.runs (V:MV) (l:List Int):MV:=(V.runG l).1
theorem MV.runG_cons (V:MV) (p:Int) (ps:List Int):V.runG (p :: ps)=if Zey V p=true then (((V.nx p.toNat).runG ps).1,((V.nx p.toNat).runG ps).2+1) else (V,0):=rfl
theorem MV.runG_append:∀(l l':List Int) (V:MV),V.whole l->V.runG (l++l')=(((V.runs l).runG l').1,l.length+((V.runs l).runG l').2)
 | [],l',V,_=>by
  show V.runG l'=((V.runG l').1,([]:List Int).length+(V.runG l').2)
  rw [Yar,Yal]
 | p :: ps,l',V,hw=>by
  unfold MV.whole at hw
  rw [Ycv,MV.runG_cons]
  unfold MV.runs
  rw [MV.runG_cons] at hw ⊢
  by_cases h:Zey V p=true
  ·rw [if_pos h] at hw
   rw [if_pos h,if_pos h]
   have:=MV.runG_append ps l' (V.nx p.toNat) (by unfold MV.whole;simp only [Yai] at hw;omega)
   rw [this]
   unfold MV.runs
   rw [Yai]
   refine Prod.ext rfl ?_
   dsimp only;omega
  ·rw [if_neg h] at hw
   simp at hw
theorem MV.whole_take {V:MV} {l:List Int} (hw:V.whole l) (i:Nat):V.whole (l.take i):=by
 have:∀(l:List Int) (V:MV),V.whole l->∀i,V.whole (l.take i):=by
  intro l
  induction l with
  | nil=>intro V _ i;rw [List.take_nil];rfl
  | cons p ps ih =>
   intro V hw i
   cases i with
   | zero=>rfl
   | succ i =>
    rw [Yaw]
    unfold MV.whole at hw ⊢
    unfold MV.runG at hw ⊢
    by_cases h:Zey V p=true
    ·rw [if_pos h] at hw ⊢
     have:=ih (V.nx p.toNat) (by unfold MV.whole;simp only [Yai] at hw;omega) i
     unfold MV.whole at this
     dsimp only
     rw [this,Yai]
    ·rw [if_neg h] at hw
     simp at hw
 exact this l V hw i
theorem MV.whole_get {V:MV} {l:List Int} (hw:V.whole l) {i:Nat} (hi:i<l.length):∃j:Nat,l[i]? = some (j:Int)/\(V.runs (l.take i)).may j=true/\V.runs (l.take (i+1))=(V.runs (l.take i)).nx j:=by
 have h1:=MV.whole_take hw (i+1)
 obtain ⟨q,hq⟩:∃q,l[i]? = some q:=⟨l[i],Ya hi⟩
 rw [Zal hq] at h1
 have h2:=MV.runG_append (l.take i) [q] V (MV.whole_take hw i)
 unfold MV.whole at h1
 rw [h2] at h1
 dsimp only at h1
 rw [Ye,Yh] at h1
 have h3:(V.runs (l.take i)).runG [q]=if Zey (V.runs (l.take i)) q=true then (((V.runs (l.take i)).nx q.toNat).runG [] |>.1,1) else (V.runs (l.take i),0):=rfl
 by_cases hm:Zey (V.runs (l.take i)) q=true
 ·obtain ⟨j,rfl,hj,hn⟩:=Znp hm
  refine ⟨j,hq,hj,?_⟩
  unfold MV.runs at h2 h3 hm ⊢
  rw [Zal hq,h2,h3,if_pos hm,hn]
  rfl
 ·rw [h3,if_neg hm] at h1
  dsimp only at h1;omega
theorem MV.runs_inv {V:MV} (v:V.Inv) (l:List Int):(V.runs l).Inv/\(V.runs l).P=V.P/\(V.runs l).m=V.m:=⟨(MV.runG_inv v l).1,(MV.runG_inv v l).2.1,(MV.runG_inv v l).2.2.1⟩
theorem MV.runs_st {V:MV} (v:V.Inv) {l:List Int} (hw:V.whole l):(V.runs l).st.length=V.st.length+l.length:=by
 have:=(MV.runG_inv v l).2.2.2.1
 unfold MV.whole at hw
 unfold MV.runs
 omega
theorem Zry {V:MV} {y:Cell} {n:Nat} {h:Za} (o:Own n h y 1 (Zvp (Zbu V.word)) (Zbu V.word).length) {v:Int} (h0:0<=v) (h1:v<(Zbu V.word).length) :
  ∃i:Nat,V.may i=true/\∀h',(∀j b,Zv y j->blk? h j=some b->blk? h' j=some b)->∀{α:Type} (f:Cell->Option α),(Zl 1 y v fun k N o=>Zp h' k N fun l=>Ze l o f)=f (.int .i64 (i:Int)):=by
 obtain ⟨q,rfl⟩:=Yag h0
 have hq:q<(Zbu V.word).length:=by omega
 have hg:=Ya hq
 exact ⟨(Zbu V.word)[q],bits_may hg,fun h' hf α f=>(o.via hf).at.get1 hq (natC_get hg)⟩
theorem RvAt.apart {n k:Nat} {h:Za} {x:Cell} {bs pc:List Cell} {V:MV} (a:RvAt n h k x bs pc V) {n1 len:Nat} {y:Cell} {cs:List Cell} (o:Own n1 h y 1 cs len) {j:Nat} (hj:Zv y j):j≠k/\¬Zv x j/\∀t,t<4->¬Zv (bs.getD t .nils) j:=by
 have h1:=o.has hj
 refine ⟨fun e=>?_,fun q=>?_,fun t ht q=>?_⟩
 ·rw [e,a.blk] at h1
  have:=(Blk.mk.inj (Yl.inj h1)).2.1
  omega
 ·rw [a.st.has q] at h1
  have:=(Blk.mk.inj (Yl.inj h1)).2.1
  omega
 ·rw [(a.bf t ht).1.has q] at h1
  have:=(Blk.mk.inj (Yl.inj h1)).2.1
  omega
section
variable {E:Env}
set_option maxHeartbeats 2000000 in
theorem Any_R (hE:q254_In E) {h:Za} {pc:List Cell} {P:PProg} (p:ProgAt h pc P) (hg:P.good) (h4:P.thr.length<=4) (hil:P.init.length<=4) {m:Int} (hm:1<=m/\m<=3) (inv:(MV.new P m).Inv) {y:Cell} {ps:List Int} (hy:SlAt h y 1 (intC .i64 ps) ps.length) (hlow:Low h.length y) :
  ∃z row h',R E 254 [.agg pc,.c (.int .i64 m),.c y] h=some ([.c z],h')/\Own h.length h' z 1 (intC .i64 row) row.length/\Kp h.length h h'/\(MV.new P m).whole row/\row.length<=60/\(row.length=60∨((MV.new P m).runs row).word=0):=by
 have hM:maxBytes>=1000*8:=by unfold maxBytes;omega
 obtain ⟨h1,r1,a1,k1⟩:=rNew_R hE.c180 p hg h4 hil hm
 obtain ⟨e,he,hQ⟩:=Zqw (F:=q254_F1 (R E) Zq E.glob)
  (fun q st=>∃(row:List Int) (z zs:Cell) (bs:List Cell) (h':Za),q=60 - row.length/\row.length<=60/\st=q254_s1 y (.ptr h.length 37 0) z (row.length:Int) h'/\(MV.new P m).whole row/\RvAt h.length h' h.length zs bs pc ((MV.new P m).runs row)/\Own h.length h' z 1 (intC .i64 row) row.length/\Kp h.length h h')
  (fun e=>∃(row:List Int) (z:Cell) (h':Za),(e=(.ret,q254_x1_0 z h')∨e=(.exit 0,q254_x1_1 z h'))/\Own h.length h' z 1 (intC .i64 row) row.length/\Kp h.length h h'/\(MV.new P m).whole row/\row.length<=60/\(row.length=60∨((MV.new P m).runs row).word=0))
  (fun q st hI=>by
   obtain ⟨row,z,zs,bs,h',rfl,hr60,rfl,hw,a,oz,kk⟩:=hI
   by_cases h60:row.length<60
   ·obtain ⟨v,vP,vm⟩:=MV.runs_inv inv row
    have vst:=MV.runs_st inv hw
    rw [show (MV.new P m).st.length=0 from rfl,Yal] at vst
    generalize hV:(MV.new P m).runs row=V at *
    have hg':V.P.good:=by rw [vP];exact hg
    obtain ⟨x6,h4,r4,o4,k4⟩:=Zqf hE.c181 a v.fit hg'
    have a4:=a.keep k4
    have oz4:=oz.keepK k4
    have kk4:Kp h.length h h4:=kk.trans (k4.mono kk.1)
    by_cases h0:(Zbu V.word).length=0
    ·refine .inr ⟨_,?_,(by simp:Ex.ret≠.normal),row,z,h4,.inl rfl,oz4,kk4,hw,hr60,.inr (by rw [hV];exact Zq739.1 h0)⟩
     rw [q254_r1,if_pos (by simp;omega),r4,c1_ok,asC_ok,o4.at.len,if_pos (by rw [h0];rfl)]
    ·refine .inl ?_
     have last:∀i:Nat,V.may i=true->∃h7 z9 h9 zs7,R E 182 [.c (.ptr h.length 37 0),.c (.int .i64 (i:Int))] h4=some ([.agg (V.stp i).cs,.c (.bool true)],h7)/\(∀j b,Zv x6 j->blk? h4 j=some b->blk? h7 j=some b) /\
       (∀{α:Type} (f:Cell->Za->Option α),Zao 1 8 z (splice [ci0] 0 [(.int .i64 (i:Int))]) h7 f=f z9 h9) /\
       (∃(row':List Int) (zs:Cell) (bs:List Cell),row'.length=row.length+1/\(MV.new P m).whole row'/\RvAt h.length h9 h.length zs bs pc ((MV.new P m).runs row')/\Own h.length h9 z9 1 (intC .i64 row') row'.length/\Kp h.length h h9)/\zs7=zs:=by
      intro i hi
      obtain ⟨zs7,bs7,h7,r7,a7,k7⟩:=Zrw hE.c182 a4 v hg' (by omega) hi
      have oz7:Own h.length h7 z 1 (intC .i64 row) row.length:=oz4.via fun j b q1 q2=>(k7.old j b q2 (a4.apart oz4 q1).1 (a4.apart oz4 q1).2.1).1
      have kk7:=kk4.trans k7.kp
      obtain ⟨z9,h9,e9,o9,k9,s9⟩:=oz7.app (bytes:=8) (xs:=[.int .i64 (i:Int)]) kk7.1 rfl (by omega) (by omega) (by omega)
      have rs:(MV.new P m).runG (row++[(i:Int)])=(V.nx i,row.length+1):=by
       have:=MV.runG_snoc row (MV.new P m) i hw (by rw [show ((MV.new P m).runG row).1=V from hV];exact hi)
       rw [this,show ((MV.new P m).runG row).1=V from hV]
      refine ⟨h7,z9,h9,zs,r7,fun j b q1 q2=>(k7.old j b q2 (a4.apart o4 q1).1 (a4.apart o4 q1).2.1).1,fun f=>e9 f,⟨row++[(i:Int)],zs7,bs7,by simp,?_,?_,?_,kk7.trans k9⟩,rfl⟩
      ·unfold MV.whole;rw [rs];simp
      ·unfold MV.runs;rw [rs]
       have hl:h7.length<=h9.length:=k9.1
       refine a7.other hl k9 fun j b q1 q2=>(s9 j b q1 (fun q=>?_)).1
       have ap:=a7.apart oz7 q
       rcases q2 with q2 | q2 | ⟨t,ht,q2⟩
       ·exact ap.1 q2
       ·exact ap.2.1 q2
       ·exact ap.2.2 t ht q2
      ·rw [intC_snoc,Ye,Yh];exact o9
     have hy4:=hy.keep hlow kk4
     have hlen:(Zbu V.word).length<=64:=bits_len V.word
     by_cases hp:row.length<ps.length
     ·have hq:=Ya hp
      generalize ps[row.length]=pq at hq
      have hb:=Zlq (E:=E) (x:=pq)
      have hrng:=Zdt (E:=E) (x:=E.glob.band .i64 pq 65535) (m:=((Zbu V.word).length:Int)) hb.1 (by omega)
      obtain ⟨i,hi,hch⟩:=Zry o4 hrng.1 hrng.2
      obtain ⟨h7,z9,h9,zs7,r7,kx,e9,⟨row',zs',bs',hl',hw',a',o',kk'⟩,_⟩:=last i hi
      refine ⟨q254_s1 y (.ptr h.length 37 0) z9 (row'.length:Int) h9,60 - row'.length,?_,⟨row',z9,zs',bs',h9,rfl,by omega,rfl,hw',a',o',kk'⟩,by omega⟩
      rw [q254_r1,if_pos (by simp;omega),r4,c1_ok,asC_ok,o4.at.len,if_neg (by rw [beq_iff_eq];omega),hy4.len,if_pos (by simp;omega),hy4.get1 hp (Zar hq),asI_ok,o4.at.len,if_neg (by omega)]
      dsimp only
      rw [hch h4 (fun _ _ _ q=>q),asI_ok,r7,c2_ok,asA_ok,asB_ok,o4.at.len,if_neg (by omega),hch h7 kx,asI_ok,if_pos (by rfl),e9,Zo (by omega),hl']
     ·have hb:E.glob.wrap .i64 ((row.length:Int)*3)=(row.length:Int)*3:=Zj (by omega) (by omega)
      have hrng:=Zdt (E:=E) (x:=(row.length:Int)*3) (m:=((Zbu V.word).length:Int)) (by omega) (by omega)
      obtain ⟨i,hi,hch⟩:=Zry o4 hrng.1 hrng.2
      obtain ⟨h7,z9,h9,zs7,r7,kx,e9,⟨row',zs',bs',hl',hw',a',o',kk'⟩,_⟩:=last i hi
      refine ⟨q254_s1 y (.ptr h.length 37 0) z9 (row'.length:Int) h9,60 - row'.length,?_,⟨row',z9,zs',bs',h9,rfl,by omega,rfl,hw',a',o',kk'⟩,by omega⟩
      rw [q254_r1,if_pos (by simp;omega),r4,c1_ok,asC_ok,o4.at.len,if_neg (by rw [beq_iff_eq];omega),hy4.len,if_neg (by simp;omega),o4.at.len,if_neg (by omega),hb,hch h4 (fun _ _ _ q=>q),asI_ok,r7,c2_ok,asA_ok,asB_ok,o4.at.len,if_neg (by omega),hch h7 kx,asI_ok,if_pos (by rfl),e9,Zo (by omega),hl']
   ·refine .inr ⟨_,?_,(by simp:Ex.exit 0≠.normal),row,z,h',.inr rfl,oz,kk,hw,hr60,.inl (by omega)⟩
    rw [q254_r1,if_neg (by simp;omega)])
  (k:=60) (st:=q254_s1 y (.ptr h.length 37 0) .nils ((([]:List Int).length:Nat):Int) h1)
  ⟨[],.nils,.nils,[.nils,.nils,.nils,.nils],h1,rfl,by simp,rfl,rfl,a1,Own.nil _ _ _,k1⟩
 obtain ⟨row,z,h',hcase,o,kk,hw,h60,hend⟩:=hQ
 refine ⟨z,row,h',Zd hE.fn ?_,o,kk,hw,h60,hend⟩
 rw [q254_eq,if_pos (by exact ⟨rfl,p.len⟩),r1,c1_ok,asC_ok]
 rw [show ((([]:List Int).length:Nat):Int)=0 from rfl] at he
 rw [he,bind_ok]
 rcases hcase with rfl | rfl
 ·dsimp only
  rw [q254_e1_0]
 ·dsimp only
  rw [q254_e1_1]
end
def tOf (i:Nat):Nat:=if i<4 then i else if i<8 then i - 4 else (i - 8) / 4
theorem stp_tOf (V:MV) (i:Nat):(V.stp i).t=(tOf i:Int):=by
 unfold MV.stp tOf
 by_cases h4:i<4
 ·rw [if_pos h4,if_pos h4];rfl
 ·rw [if_neg h4,if_neg h4]
  by_cases h8:i<8
  ·rw [if_pos h8,if_pos h8];rfl
  ·rw [if_neg h8,if_neg h8];rfl
def Zfu (u:Stp) (w:Nat) (g:Int):Prop:=(u.kind≠6/\g=(w:Int))∨(u.kind=6/\u.frm=g)
def Zcg (m:Int) (u:Stp) (c:Int):Prop:=wrS u m=true/\u.loc=c
def RdOk (l:List Stp) (m:Int) (i:Nat) (s:Stp):Prop :=
 (s.frm = -1/\∀k u,k<i->l[k]? = some u->¬Zcg m u s.loc) ∨
 (∃w u,w<i/\l[w]? = some u/\Zcg m u s.loc/\Zfu u w s.frm/\∀k u',w<k->k<i->l[k]? = some u'->¬Zcg m u' s.loc) ∨
 (m≠1/\∃g:Nat,s.frm=(g:Int)/\g<i/\∃q,l[g]? = some q/\q.kind=2/\q.t=s.t/\∀j u,j<i->l[j]? = some u->u.kind=6->u.frm≠(g:Int))
theorem Zia {α:Type} {l:List α} {x:α} {k:Nat} (h:k<l.length):(l++[x])[k]? = l[k]?:=Ybp h
theorem RdOk.app {l:List Stp} {m:Int} {i:Nat} {s x:Stp} (h:RdOk l m i s) (hi:i<=l.length):RdOk (l++[x]) m i s:=by
 rcases h with ⟨h1,h2⟩ | ⟨w,u,h1,h2,h3,h4,h5⟩ | ⟨h0,g,h1,h2,q,h3,h4,h5,h6⟩
 ·exact .inl ⟨h1,fun k u hk hu=>h2 k u hk (by rw [Zia (by omega)] at hu;exact hu)⟩
 ·exact .inr (.inl ⟨w,u,h1,Zbb h2,h3,h4,fun k u' hk hk' hu=>h5 k u' hk hk' (by rw [Zia (by omega)] at hu;exact hu)⟩)
 ·exact .inr (.inr ⟨h0,g,h1,h2,q,Zbb h3,h4,h5,fun j u hj hu=>h6 j u hj (by rw [Zia (by omega)] at hu;exact hu)⟩)
structure Hist3 (V:MV):Prop where
 pk:∀(k:Nat) s,V.st[k]? = some s->∃i:Nat,s.pick=(i:Int)/\s.t=(tOf i:Int)
 loc:∀(k:Nat) s,V.st[k]? = some s->0<=s.loc/\s.loc<4
 fl:∀(j:Nat) u,V.st[j]? = some u->u.kind=6->V.m≠1/\∃g:Nat,u.frm=(g:Int)/\g<j/\∃s,V.st[g]? = some s/\s.kind=2/\s.t=u.t/\s.loc=u.loc
 un:∀(j:Nat) u (j':Nat) u',V.st[j]? = some u->V.st[j']? = some u'->u.kind=6->u'.kind=6->u.frm=u'.frm->j=j'
 mm:∀c:Nat,c<4->(V.frm.getD c 0 = -1/\∀(k:Nat) u,V.st[k]? = some u->¬Zcg V.m u (c:Int))∨∃(w:Nat) (u:Stp),V.st[w]? = some u/\Zcg V.m u (c:Int)/\Zfu u w (V.frm.getD c 0)/\∀(k:Nat) u',w<k->V.st[k]? = some u'->¬Zcg V.m u' (c:Int)
 rd:∀(i:Nat) s,V.st[i]? = some s->rdS s=true->RdOk V.st V.m i s
theorem Hist3.new (P:PProg) (m:Int):Hist3 (MV.new P m):=by
 have hs:∀(k:Nat) (s:Stp),(MV.new P m).st[k]? = some s->False:=fun k s h=>by
  have:(MV.new P m).st=[]:=rfl
  rw [this] at h;simp at h
 refine ⟨fun k s h=>(hs k s h).elim,fun k s h=>(hs k s h).elim,fun k s h=>(hs k s h).elim,fun j u j' u' h=>(hs j u h).elim,fun c hc=>.inl ⟨?_,fun k u h=>(hs k u h).elim⟩,fun k s h=>(hs k s h).elim⟩
 show ([-1,-1,-1,-1]:List Int).getD c 0 = -1
 rcases (show c=0∨c=1∨c=2∨c=3 by omega) with rfl | rfl | rfl | rfl<;>rfl
theorem wrS_thr {s:Stp} {m:Int} (hk:s.kind<=5):wrS s m=true↔(s.kind=4∨(s.kind=2/\m=1)):=by
 unfold wrS
 simp
 omega
theorem newE_mem {c:Int} {l:List Ent} {e:Ent} (h:Zcj c l=some e):e∈l/\e.loc=c:=by
 unfold Zcj at h
 have h1:=Yab h
 have h2:=Yaz h
 exact ⟨List.mem_reverse.1 h1,by simpa using h2⟩
theorem MV.Inv.hist3_nx {V:MV} (v:V.Inv) (H:Hist V) (H3:Hist3 V) {i:Nat} (hi:V.may i=true):Hist3 (V.nx i):=by
 have hmm:(V.nx i).m=V.m:=(V.nx_P i).2
 have hst:(V.nx i).st=V.st++[V.stp i]:=V.nx_st i
 have hpk:(V.stp i).pick=(i:Int)/\(V.stp i).t=(tOf i:Int):=⟨rfl,stp_tOf V i⟩
 by_cases h4:i<4
 ·have T:=v.thr_step h4 hi
  generalize V.stp i=s at *
  have hk6:s.kind≠6:=by have:=T.kind;omega
  have hw:=wrS_thr (m:=V.m) (show s.kind<=5 by have:=T.kind;omega)
  refine ⟨fun k u hu=>?_,fun k u hu=>?_,fun j u hu h6=>?_,fun j u j' u' hu hu' h6 h6' he=>?_,fun c hc=>?_,fun k u hu hr=>?_⟩
  ·rw [hst] at hu
   rcases Zr hu with ⟨_,hu⟩ | ⟨_,rfl⟩
   ·exact H3.pk k u hu
   ·exact ⟨i,hpk⟩
  ·rw [hst] at hu
   rcases Zr hu with ⟨_,hu⟩ | ⟨_,rfl⟩
   ·exact H3.loc k u hu
   ·exact T.loc
  ·rw [hst] at hu
   rcases Zr hu with ⟨_,hu⟩ | ⟨_,rfl⟩
   ·obtain ⟨h0,g,h1,h2,q,h3,h5⟩:=H3.fl j u hu h6
    exact ⟨by rw [hmm];exact h0,g,h1,h2,q,by rw [hst];exact Zbb h3,h5⟩
   ·exact absurd h6 hk6
  ·rw [hst] at hu hu'
   rcases Zr hu with ⟨_,hu⟩ | ⟨_,rfl⟩
   ·rcases Zr hu' with ⟨_,hu'⟩ | ⟨_,rfl⟩
    ·exact H3.un j u j' u' hu hu' h6 h6' he
    ·exact absurd h6' hk6
   ·exact absurd h6 hk6
  ·rw [hmm,hst,T.frm]
   by_cases hc2:(s.kind=4∨(s.kind=2/\V.m=1))/\c=s.loc.toNat
   ·rw [if_pos hc2]
    refine .inr ⟨V.st.length,s,getI_new,⟨hw.2 hc2.1,by have:=T.loc;omega⟩,.inl ⟨hk6,rfl⟩,fun k u' hk hu=>?_⟩
    have:=Zf hu
    rw [Ye,Yh] at this
    omega
   ·rw [if_neg hc2]
    have hno:¬Zcg V.m s (c:Int):=fun q=>hc2 ⟨hw.1 q.1,by have:=q.2;omega⟩
    rcases H3.mm c hc with ⟨h1,h2⟩ | ⟨w,u,h1,h2,h3,h5⟩
    ·refine .inl ⟨h1,fun k u hu=>?_⟩
     rcases Zr hu with ⟨_,hu⟩ | ⟨_,rfl⟩
     ·exact h2 k u hu
     ·exact hno
    ·refine .inr ⟨w,u,Zbb h1,h2,h3,fun k u' hk hu=>?_⟩
     rcases Zr hu with ⟨_,hu⟩ | ⟨_,rfl⟩
     ·exact h5 k u' hk hu
     ·exact hno
  ·rw [hst] at hu
   rw [hmm,hst]
   rcases Zr hu with ⟨hl,hu⟩ | ⟨hl,rfl⟩
   ·exact (H3.rd k u hu hr).app (by omega)
   ·have hr':u.kind=1∨u.kind=4∨u.kind=5:=by
     unfold rdS at hr
     simp only [Ym,beq_iff_eq] at hr
     omega
    have hrd:=(T.read hr').2
    subst hl
    refine RdOk.app ?_ (Yf _)
    cases hn:Zcj u.loc (V.b i) with
    | some e =>
     rw [hn] at hrd
     dsimp only at hrd
     obtain ⟨he,_⟩:=newE_mem hn
     obtain ⟨g,hg,q,h1,h2,h3,_,_,h6⟩:=H.ent i e he
     refine .inr (.inr ⟨fun hm1=>?_,g,by rw [hrd,hg],Zf h1,q,h1,h2,by rw [h3,T.t],fun j w _ hw h6'=>?_⟩)
     ·rw [H.own hm1] at he;cases he
     ·rw [←hg];exact h6 j w hw h6'
    | none =>
     rw [hn] at hrd
     dsimp only at hrd
     have hl:=T.loc
     have hcc:((u.loc.toNat:Nat):Int)=u.loc:=by omega
     rcases H3.mm u.loc.toNat (by omega) with ⟨h1,h2⟩ | ⟨w,x,h1,h2,h3,h5⟩
     ·refine .inl ⟨by rw [hrd,h1],fun k y _ hy=>?_⟩
      rw [←hcc];exact h2 k y hy
     ·rw [hcc] at h2 h5
      exact .inr (.inl ⟨w,x,Zf h1,h1,h2,by rw [hrd];exact h3,fun k y hk _ hy=>h5 k y hk hy⟩)
 ·obtain ⟨t,p,e,F⟩:=v.flu_step h4 hi
  generalize V.stp i=s at *
  have hem:=Yab F.f
  obtain ⟨g,hg,q,q1,q2,q3,q4,_,q6⟩:=H.ent t e hem
  have hel:=v.mem_b hem
  have hs:=F.s
  have hk:s.kind=6:=by rw [hs]
  have hsl:s.loc=e.loc:=by rw [hs]
  have hsf:s.frm=e.id:=by rw [hs]
  have hst':s.t=(t:Int):=by rw [hs]
  have hw:wrS s V.m=true:=by unfold wrS;rw [hk];rfl
  have hm1:V.m≠1:=by have:=F.m;omega
  refine ⟨fun k u hu=>?_,fun k u hu=>?_,fun j u hu h6=>?_,fun j u j' u' hu hu' h6 h6' he=>?_,fun c hc=>?_,fun k u hu hr=>?_⟩
  ·rw [hst] at hu
   rcases Zr hu with ⟨_,hu⟩ | ⟨_,rfl⟩
   ·exact H3.pk k u hu
   ·exact ⟨i,hpk⟩
  ·rw [hst] at hu
   rcases Zr hu with ⟨_,hu⟩ | ⟨_,rfl⟩
   ·exact H3.loc k u hu
   ·rw [hsl];exact hel
  ·rw [hmm]
   rw [hst] at hu
   rw [hst]
   rcases Zr hu with ⟨_,hu⟩ | ⟨hl,rfl⟩
   ·obtain ⟨h0,g',h1,h2,q',h3,h5⟩:=H3.fl j u hu h6
    exact ⟨h0,g',h1,h2,q',Zbb h3,h5⟩
   ·exact ⟨hm1,g,by rw [hsf,hg],by have:=Zf q1;omega,q,Zbb q1,q2,by rw [q3,hst'],by rw [q4,hsl]⟩
  ·rw [hst] at hu hu'
   rcases Zr hu with ⟨_,ha⟩ | ⟨hl,ha⟩
   ·rcases Zr hu' with ⟨_,hb⟩ | ⟨hl',hb⟩
    ·exact H3.un j u j' u' ha hb h6 h6' he
    ·rw [hb,hsf] at he
     exact absurd he (q6 j u ha h6)
   ·rcases Zr hu' with ⟨_,hb⟩ | ⟨hl',hb⟩
    ·rw [ha,hsf] at he
     exact absurd he.symm (q6 j' u' hb h6')
    ·omega
  ·rw [hmm,hst,F.frm]
   by_cases hc2:c=e.loc.toNat
   ·rw [if_pos hc2]
    refine .inr ⟨V.st.length,s,getI_new,⟨hw,by omega⟩,.inr ⟨hk,hsf⟩,fun k u' hk hu=>?_⟩
    have:=Zf hu
    rw [Ye,Yh] at this
    omega
   ·rw [if_neg hc2]
    have hno:¬Zcg V.m s (c:Int):=fun q=>hc2 (by have:=q.2;omega)
    rcases H3.mm c hc with ⟨h1,h2⟩ | ⟨w,u,h1,h2,h3,h5⟩
    ·refine .inl ⟨h1,fun k u hu=>?_⟩
     rcases Zr hu with ⟨_,hu⟩ | ⟨_,rfl⟩
     ·exact h2 k u hu
     ·exact hno
    ·refine .inr ⟨w,u,Zbb h1,h2,h3,fun k u' hk hu=>?_⟩
     rcases Zr hu with ⟨_,hu⟩ | ⟨_,rfl⟩
     ·exact h5 k u' hk hu
     ·exact hno
  ·rw [hst] at hu
   rw [hmm,hst]
   rcases Zr hu with ⟨hl,hu⟩ | ⟨hl,rfl⟩
   ·exact (H3.rd k u hu hr).app (by omega)
   ·unfold rdS at hr
    rw [hk] at hr
    simp at hr
section
variable {V:MV} (H3:Hist3 V)
include H3
theorem Hist3.came {w:Nat} {u:Stp} {g:Int} (hw:V.st[w]? = some u) (hwr:wrS u V.m=true) (hb:Zfu u w g):∃g':Nat,g=(g':Int)/\g'<V.st.length/\Zcv V.st V.m g'=(w:Int):=by
 have hlw:=Zf hw
 rcases hb with ⟨h1,h2⟩ | ⟨h1,h2⟩
 ·refine ⟨w,h2,hlw,?_⟩
  unfold Zcv
  rw [hw]
  dsimp only
  rw [if_pos hwr]
 ·obtain ⟨hm,g',hg,hgl,q,hq,hk,_⟩:=H3.fl w u hw h1
  refine ⟨g',by rw [←h2,hg],by omega,?_⟩
  have hwq:¬wrS q V.m=true:=by
   unfold wrS
   rw [hk]
   simp
   exact hm
  unfold Zcv
  rw [hq]
  dsimp only
  rw [if_neg hwq]
  have hcw:Zfr g' u=true:=by unfold Zfr;rw [h1,hg];simp
  cases hf:V.st.findIdx? (Zfr g') with
  | none =>
   rw [List.findIdx?_eq_none_iff] at hf
   have:=hf u (Yg hw)
   rw [hcw] at this;cases this
  | some j =>
   obtain ⟨h3,h4,_⟩:=Yy.1 hf
   unfold Zfr at h4
   rw [Yb,beq_iff_eq,beq_iff_eq] at h4
   have:=H3.un j V.st[j] w u (Ya h3) hw h4.1 h1 (by rw [h4.2,hg])
   dsimp only
   omega
theorem Hist3.read {i:Nat} {s:Stp} (hs:V.st[i]? = some s) (hr:rdS s=true) {a b:Nat} (h:Zee V.st V.m i s a b=true):a<b:=by
 unfold Zee at h
 have hwrAt:∀k,wrE V.st V.m s.loc k=true->∃u,V.st[k]? = some u/\Zcg V.m u s.loc:=fun k hk=>by
  unfold wrE at hk
  split at hk
  ·rename_i u hu
   rw [Yb,beq_iff_eq] at hk
   exact ⟨u,hu,hk.1,hk.2⟩
  ·cases hk
 rcases H3.rd i s hs hr with ⟨h1,h2⟩ | ⟨w,u,h1,h2,h3,h4,h5⟩ | ⟨h0,g,h1,h2,q,h3,h4,h5,h6⟩
 ·have hf:Zcy V.st V.m s=some (-1):=by unfold Zcy;rw [if_neg (by omega)]
  rw [hf] at h
  simp only [Ym,Yb,decide_eq_true_eq,bne_iff_ne] at h
  rcases h with ⟨⟨⟨_,hx⟩,_⟩,_⟩ | ⟨⟨⟨ha,_⟩,hb⟩,hw⟩
  ·omega
  ·obtain ⟨u,hu,hwa⟩:=hwrAt b hw
   rcases Yad b i with c | c
   ·exact absurd hwa (h2 b u c hu)
   ·omega
 ·obtain ⟨g',hg,hgl,hc⟩:=H3.came h2 h3.1 h4
  have hf:Zcy V.st V.m s=some (w:Int):=by
   unfold Zcy
   rw [if_pos (by omega),hg,Yc,hc,if_neg (by omega)]
  rw [hf] at h
  simp only [Ym,Yb,decide_eq_true_eq,bne_iff_ne] at h
  rcases h with ⟨⟨_,ha⟩,hb⟩ | ⟨⟨⟨ha,hwb⟩,hb⟩,hw⟩
  ·omega
  ·obtain ⟨u',hu,hwa⟩:=hwrAt b hw
   rcases Yad b i with c | c
   ·exact absurd hwa (h5 b u' (by omega) c hu)
   ·omega
 ·have hgl:=Zf h3
  have hfar:Zsy V.st s=false:=by
   unfold Zsy
   rw [h1,Yc,h3]
   dsimp only
   rw [h5]
   simp
  have hcm:Zcv V.st V.m g<0∨(i:Int)<Zcv V.st V.m g:=by
   unfold Zcv
   rw [h3]
   dsimp only
   have hwq:¬wrS q V.m=true:=by
    unfold wrS
    rw [h4]
    simp
    exact h0
   rw [if_neg hwq]
   cases hf:V.st.findIdx? (Zfr g) with
   | none=>exact .inl (by dsimp only;omega)
   | some j =>
    obtain ⟨h7,h8,_⟩:=Yy.1 hf
    unfold Zfr at h8
    rw [Yb,beq_iff_eq,beq_iff_eq] at h8
    refine .inr ?_
    dsimp only
    rcases Yp j i with c | c | c
    ·exact absurd h8.2 (h6 j _ c (Ya h7) h8.1)
    ·subst c
     have:V.st[j]=s:=by rw [Ya h7] at hs;exact Yl.inj hs
     rw [this] at h8
     unfold rdS at hr
     rw [h8.1] at hr
     simp at hr
    ·omega
  have hf:Zcy V.st V.m s=if Zcv V.st V.m g<0 then none else some (Zcv V.st V.m g):=by
   unfold Zcy
   rw [if_pos (by omega),h1,Yc]
  rw [hf] at h
  by_cases hc:Zcv V.st V.m g<0
  ·rw [if_pos hc] at h;cases h
  ·rw [if_neg hc,hfar] at h
   simp only [Bool.false_and,Bool.false_or,Yb,decide_eq_true_eq,bne_iff_ne] at h
   omega
theorem Hist3.rises {a b:Nat} (h:Zbx V.st V.m a b=true):a<b:=by
 unfold Zbx at h
 rw [Ym,Yb,decide_eq_true_eq] at h
 rcases h with h | h
 ·exact h.1
 ·obtain ⟨i,_,hi⟩:=Ybt.1 h
  unfold rdE at hi
  split at hi
  ·rename_i s hs
   rw [Yb] at hi
   exact H3.read hs hi.1 hi.2
  ·cases hi
end
theorem hb_cover {l:List Stp} {m:Int} (hn:l.length<=64) {a b:Nat} (ha:a<l.length) (h:(hbF l m a).testBit b=true) (hno:∀j,j<l.length->¬((hbF l m a).testBit j=true/\(hbF l m j).testBit b=true)):Zbx l m a b=true:=by
 have w:=(Zhd _ _ _ (Yf _) a b ha).1 h
 cases w with
 | one h =>
  rw [Zov hn,Yb] at h
  exact h.2
 | step h1 hc w2 =>
  rename_i c
  exact absurd ⟨(Zhd _ _ _ (Yf _) a c ha).2 (.one h1),(Zhd _ _ _ (Yf _) c b hc).2 w2⟩ (hno c hc)
def pr (e:Ent):Int × Int:=(e.loc,e.val)
def BQ (V:MV) (t:Nat):List (Int × Int):=(V.b t).map pr
def MQ (V:MV) (c:Nat):Int:=V.mem.getD c 0
def nwQ (c:Int) (l:List (Int × Int)):Option (Int × Int):=l.reverse.find? fun p=>p.1==c
def qv (V:MV) (t:Nat) (q:Ins):Int:=match nwQ q.loc (BQ V t) with
 | some p=>p.2
 | none=>MQ V q.loc.toNat
theorem nwQ_cons (c:Int) (a:Int × Int) (l:List (Int × Int)):nwQ c (a :: l)=match nwQ c l with | some x=>some x | none=>if a.1=c then some a else none:=by
 unfold nwQ
 rw [Yco,Ycp]
 cases hl:l.reverse.find? fun p=>p.1==c with
 | some x=>rfl
 | none =>
  dsimp only
  rw [Ybx,Ydc]
  by_cases h:a.1=c
  ·rw [if_pos h,h,beq_self_eq_true];rfl
  ·rw [if_neg h,beq_false_of_ne h];rfl
theorem nwQ_map (c:Int) (l:List Ent):nwQ c (l.map pr)=(Zcj c l).map pr:=by
 induction l with
 | nil=>rfl
 | cons a l ih =>
  rw [List.map_cons,nwQ_cons,ih]
  have:Zcj c (a :: l)=match Zcj c l with | some x=>some x | none=>if a.loc=c then some a else none:=by
   unfold Zcj
   rw [Yco,Ycp]
   cases hl:l.reverse.find? fun p=>p.loc==c with
   | some x=>rfl
   | none =>
    dsimp only
    rw [Ybx,Ydc]
    by_cases h:a.loc=c
    ·rw [if_pos h,h,beq_self_eq_true];rfl
    ·rw [if_neg h,beq_false_of_ne h];rfl
  rw [this]
  cases Zcj c l with
  | some x=>rfl
  | none =>
   dsimp only [Option.map_none]
   by_cases h:a.loc=c
   ·rw [if_pos h,if_pos (show (pr a).1=c from h)];rfl
   ·rw [if_neg h,if_neg (show ¬(pr a).1=c from h)];rfl
theorem qv_val (V:MV) (t:Nat) (q:Ins):qv V t q=(V.val t q).1:=by
 unfold qv BQ MV.val
 rw [nwQ_map]
 cases Zcj q.loc (V.b t)<;>rfl
structure TE (V:MV) (i:Nat) (q:Ins) (e:Evt):Prop where
 n:Zbg (V.P.code i) (V.l i)=some q
 free:q.kind=3∨q.kind=4->BQ V i=[]
 ev:e=evOf q (V.l i) (qv V i q)
 kind:(V.stp i).kind=e.kind
 t:(V.stp i).t=(i:Int)
 loc:(V.stp i).loc=e.loc
 r:(V.stp i).r=e.r
 w:(V.stp i).w=e.w
 pick:(V.stp i).pick=(i:Int)
 k4:1<=q.kind/\q.kind<=4
 l4:0<=e.loc/\e.loc<4
 l:∀t,(V.nx i).l t=if t=i then Zbi (V.P.code i) (V.l i) (qv V i q) else V.l t
 b:∀t,BQ (V.nx i) t=if t=i/\e.kind=2/\V.m≠1 then BQ V i++[(e.loc,e.w)] else BQ V t
 mem:∀c,MQ (V.nx i) c=if wrS (V.stp i) V.m=true/\c=(V.stp i).loc.toNat then (V.stp i).w else MQ V c
theorem Zig {V:MV} {i:Nat} (h4:i<4):V.may i=true↔∃q,Zbg (V.P.code i) (V.l i)=some q/\(q.kind=3∨q.kind=4->BQ V i=[]):=by
 unfold MV.may MV.mayT MV.nxt BQ
 rw [if_pos h4]
 cases hn:Zbg (V.P.code i) (V.l i) with
 | none=>simp
 | some q =>
  dsimp only
  constructor
  ·intro h
   refine ⟨q,rfl,fun hk=>?_⟩
   have:(q.kind==3||q.kind==4)=true:=by rw [Ym,beq_iff_eq,beq_iff_eq];exact hk
   rw [this] at h
   have:V.b i=[]:=by simpa using h
   rw [this];rfl
  ·rintro ⟨q',hq,hb⟩
   cases hq
   by_cases hk:q.kind=3∨q.kind=4
   ·have:=hb hk
    rw [Ych] at this
    rw [this];simp
   ·have:(q.kind==3||q.kind==4)=false:=by rw [←Ycw,Ym,beq_iff_eq,beq_iff_eq];exact hk
    rw [this];rfl
theorem MV.Inv.te {V:MV} (v:V.Inv) {i:Nat} (h4:i<4) (hi:V.may i=true):∃q,TE V i q (evOf q (V.l i) (qv V i q)):=by
 have hq:=MV.may_thr h4 hi
 have T:=v.thr_step h4 hi
 obtain ⟨q',hq',hfree⟩:=(Zig h4).1 hi
 have hqn:Zbg (V.P.code i) (V.l i)=some (V.thrI i):=hq
 rw [hqn] at hq'
 cases hq'
 obtain ⟨q1,q2,q3,q4,q5⟩:=v.nxt hq
 have hS:V.stp i={ V.thrS i (V.thrI i) with pick:=i }:=by unfold MV.stp;rw [if_pos h4]
 have hv:=qv_val V i (V.thrI i)
 have hk:(V.stp i).kind=(evOf (V.thrI i) (V.l i) (qv V i (V.thrI i))).kind:=by rw [hS,hv];rfl
 have hl:(V.stp i).loc=(evOf (V.thrI i) (V.l i) (qv V i (V.thrI i))).loc:=by rw [hS,hv];rfl
 have hw:(V.stp i).w=(evOf (V.thrI i) (V.l i) (qv V i (V.thrI i))).w:=by rw [hS,hv];rfl
 refine ⟨V.thrI i,hqn,hfree,rfl,hk,T.t,hl,by rw [hS,hv];rfl,hw,rfl,q2,Zhx q1,fun t=>?_,fun t=>?_,fun c=>?_⟩
 ·have e2:(V.nx i).l t=(V.thrM i (V.thrI i)).l t:=by unfold MV.nx;rw [if_pos h4];rfl
  rw [e2,v.thrL h4,hv]
 ·unfold BQ
  rw [T.b]
  have hiff:Zgz V.m (V.stp i)=true↔((evOf (V.thrI i) (V.l i) (qv V i (V.thrI i))).kind=2/\V.m≠1):=by
   unfold Zgz
   rw [Yb,beq_iff_eq,bne_iff_ne,hk]
  by_cases hc:t=i/\(evOf (V.thrI i) (V.l i) (qv V i (V.thrI i))).kind=2/\V.m≠1
  ·rw [if_pos ⟨hc.1,hiff.2 hc.2⟩,if_pos hc,Yan,←hl,←hw];rfl
  ·rw [if_neg (fun q=>hc ⟨q.1,hiff.1 q.2⟩),if_neg hc]
 ·unfold MQ
  rw [T.mem]
  have hkk:=T.kind
  have hwr:wrS (V.stp i) V.m=true↔((V.stp i).kind=4∨((V.stp i).kind=2/\V.m=1)):=by
   unfold wrS
   simp
   omega
  by_cases hc:((V.stp i).kind=4∨((V.stp i).kind=2/\V.m=1))/\c=(V.stp i).loc.toNat
  ·rw [if_pos hc,if_pos ⟨hwr.2 hc.1,hc.2⟩]
  ·rw [if_neg hc,if_neg (fun q=>hc ⟨hwr.1 q.1,q.2⟩)]
def ftQ (m:Int) (f:Nat):Nat:=if m=2 then f - 4 else (f - 8) / 4
def fpQ (m:Int) (f:Nat) (x:Int × Int):Bool:=decide (m=2)||x.1==(((f - 8) % 4:Nat):Int)
def fOk (m:Int) (f:Nat):Prop:=(m=2/\f<8)∨(m=3/\8<=f/\f<24)
theorem fp_old {m:Int} {f:Nat} (h:fOk m f) (e:Ent):Zch (Zbf m) (if f<8 then 0 else (((f - 8) % 4:Nat):Int)) e=fpQ m f (pr e):=by
 rcases h with ⟨h,h8⟩ | ⟨h,h8,_⟩
 ·subst h;rfl
 ·subst h;rw [if_neg (by omega)];rfl
theorem Zhp {V:MV} {f:Nat} (h4:¬f<4):V.may f=true↔fOk V.m f/\((BQ V (ftQ V.m f)).find? (fpQ V.m f)).isSome=true:=by
 unfold MV.may MV.mayF MV.mayL fOk ftQ BQ
 rw [if_neg h4,Ycb,Ycq]
 by_cases h8:f<8
 ·rw [if_pos h8,Yb,beq_iff_eq]
  constructor
  ·rintro ⟨h2,hb⟩
   refine ⟨.inl ⟨h2,h8⟩,?_⟩
   rw [if_pos h2,h2]
   cases hbb:V.b (f - 4) with
   | nil=>rw [hbb] at hb;simp at hb
   | cons e l=>rfl
  ·rintro ⟨h2 | h3,hb⟩
   ·rw [if_pos h2.1,h2.1] at hb
    refine ⟨h2.1,?_⟩
    cases hbb:V.b (f - 4) with
    | nil=>rw [hbb] at hb;simp at hb
    | cons e l=>rfl
   ·omega
 ·rw [if_neg h8]
  by_cases h24:f<24
  ·rw [if_pos h24,Yb,beq_iff_eq]
   have hfun:V.m=3->(fpQ V.m f ∘ pr)=Zch 3 (((f - 8) % 4:Nat):Int):=fun h=>by
    funext e
    rw [h];rfl
   constructor
   ·rintro ⟨h3,hb⟩
    refine ⟨.inr ⟨h3,by omega,h24⟩,?_⟩
    rw [if_neg (by omega),hfun h3];exact hb
   ·rintro ⟨h2 | h3,hb⟩
    ·omega
    ·rw [if_neg (by omega),hfun h3.1] at hb
     exact ⟨h3.1,hb⟩
  ·rw [if_neg h24]
   constructor
   ·intro h;cases h
   ·rintro ⟨h | h,_⟩<;>omega
structure FE (V:MV) (f:Nat) (c v:Int):Prop where
 ok:fOk V.m f
 t4:ftQ V.m f<4
 find:(BQ V (ftQ V.m f)).find? (fpQ V.m f)=some (c,v)
 c4:0<=c/\c<4
 kind:(V.stp f).kind=6
 t:(V.stp f).t=(ftQ V.m f:Int)
 loc:(V.stp f).loc=c
 r:(V.stp f).r=0
 w:(V.stp f).w=v
 pick:(V.stp f).pick=(f:Int)
 l:∀t,(V.nx f).l t=V.l t
 b:∀t,BQ (V.nx f) t=if t=ftQ V.m f then (BQ V (ftQ V.m f)).eraseP (fpQ V.m f) else BQ V t
 mem:∀x,MQ (V.nx f) x=if wrS (V.stp f) V.m=true/\x=(V.stp f).loc.toNat then (V.stp f).w else MQ V x
theorem MV.Inv.fe {V:MV} (v:V.Inv) {f:Nat} (h4:¬f<4) (hi:V.may f=true):∃c w,FE V f c w:=by
 have h24:=MV.may_lt hi
 have hm:=v.fit.m
 obtain ⟨hok,hs⟩:=(Zhp h4).1 hi
 have ht4:ftQ V.m f<4:=by
  unfold ftQ;rcases hok with h | h
  ·rw [if_pos h.1];omega
  ·rw [if_neg (by omega)];omega
 have hold:(fpQ V.m f ∘ pr)=Zch (Zbf V.m) (if f<8 then 0 else (((f - 8) % 4:Nat):Int)):=by
  funext e;exact (fp_old hok e).symm
 have hstp:V.stp f={ V.fluS (ftQ V.m f) (if f<8 then 0 else (((f - 8) % 4:Nat):Int)) with pick:=f }:=by
  unfold MV.stp ftQ
  rw [if_neg h4]
  rcases hok with h | h
  ·rw [if_pos h.2,if_pos h.2,if_pos h.1]
  ·rw [if_neg (by omega),if_neg (by omega),if_neg (by omega)]
 have hnx:V.nx f={ V.fluM (ftQ V.m f) (if f<8 then 0 else (((f - 8) % 4:Nat):Int)) with st:=V.st++[V.stp f] }:=by
  unfold MV.nx ftQ
  rw [if_neg h4]
  rcases hok with h | h
  ·rw [if_pos h.2,if_pos h.2,if_pos h.1]
  ·rw [if_neg (by omega),if_neg (by omega),if_neg (by omega)]
 generalize (if f<8 then (0:Int) else (((f - 8) % 4:Nat):Int))=lc at hold hstp hnx
 unfold BQ at hs
 rw [Ycb,Ycq,hold] at hs
 obtain ⟨e,he⟩:=Option.isSome_iff_exists.1 hs
 have hee:V.fluE (ftQ V.m f) lc=e:=by unfold MV.fluE;rw [he];rfl
 have hel:=v.mem_b (Yab he)
 have hkind:(V.stp f).kind=6:=by rw [hstp];rfl
 have hloc:(V.stp f).loc=e.loc:=by rw [hstp];show (V.fluE _ _).loc=_;rw [hee]
 have hw:(V.stp f).w=e.val:=by rw [hstp];show (V.fluE _ _).val=_;rw [hee]
 refine ⟨e.loc,e.val,hok,ht4,by unfold BQ;rw [Ycb,hold,he];rfl,hel,hkind,by rw [hstp];rfl,hloc,by rw [hstp];rfl,hw,rfl,fun t=>by rw [hnx];rfl,fun t=>?_,fun c=>?_⟩
 ·unfold BQ
  rw [hnx]
  show ((V.bf.set _ _).getD t []).map pr=_
  rw [Zcw (by rw [v.fit.bf];exact ht4)]
  by_cases h:t=ftQ V.m f
  ·rw [if_pos h,if_pos h,List.eraseP_map,hold]
  ·rw [if_neg h,if_neg h];rfl
 ·unfold MQ
  rw [hloc,hw,hnx]
  show (V.mem.set _ _).getD c 0=_
  rw [hee,Zcw (by rw [v.fit.mem];omega)]
  have hwr:wrS (V.stp f) V.m=true:=by unfold wrS;rw [hkind];rfl
  by_cases h:c=e.loc.toNat
  ·rw [if_pos h,if_pos ⟨hwr,h⟩]
  ·rw [if_neg h,if_neg (fun q=>h q.2)]
theorem rd_kind {q:Ins} {l:Lcl} {v:Int} (hk:1<=q.kind/\q.kind<=4) (h:rdI q=true):((evOf q l v).kind=1∨(evOf q l v).kind=4∨(evOf q l v).kind=5)/\(evOf q l v).loc=q.loc:=by
 obtain ⟨e1,e2,e3,e4⟩:=Zfv q l v hk
 have h':q.kind=2∨q.kind=4:=by unfold rdI at h;simpa using h
 have hkk:(evOf q l v).kind=1∨(evOf q l v).kind=4∨(evOf q l v).kind=5:=by
  rcases h' with h' | h'
  ·exact .inl (e3.2 h')
  ·exact .inr (e2.2 h')
 exact ⟨hkk,(e4 hkk).2.1⟩
theorem Zq717 {V V1:MV} {i:Nat} {q:Ins} {e:Evt} (T:TE V i q e) (hP:V1.P=V.P) (v1:V1.Inv) (h4:i<4) (hl:V1.l i=V.l i) (hfree:q.kind=3∨q.kind=4->BQ V1 i=[]) (hv:rdI q=true->qv V1 i q=qv V i q) :
  V1.may i=true/\TE V1 i q e/\Zbi (V1.P.code i) (V1.l i) (qv V1 i q)=Zbi (V.P.code i) (V.l i) (qv V i q):=by
 have hn1:Zbg (V1.P.code i) (V1.l i)=some q:=by rw [hP,hl];exact T.n
 have hmay:V1.may i=true:=(Zig h4).2 ⟨q,hn1,hfree⟩
 obtain ⟨q',T1⟩:=v1.te h4 hmay
 have hq:q'=q:=by
  have:=T1.n
  rw [hn1] at this
  exact (Yl.inj this).symm
 subst hq
 have he:evOf q' (V1.l i) (qv V1 i q')=e:=by
  rw [T.ev,hl]
  cases hr:rdI q' with
  | true=>rw [hv hr]
  | false=>exact Zko hr _ _ _
 have ha:Zbi (V1.P.code i) (V1.l i) (qv V1 i q')=Zbi (V.P.code i) (V.l i) (qv V i q'):=by
  rw [hP,hl]
  cases hr:rdI q' with
  | true=>rw [hv hr]
  | false=>exact Zhu T.n hr _ _
 rw [he] at T1
 exact ⟨hmay,T1,ha⟩
structure Told (V:MV):Prop where
 inv:V.Inv
 h:Hist V
 h3:Hist3 V
 fst:First V
 fwd:Fwd V
 ll:V.P.locs.length=V.P.init.length
theorem Told.new {P:PProg} {m:Int} (v:(MV.new P m).Inv) (hi:P.init.length<=4) (hl:P.locs.length=P.init.length):Told (MV.new P m) :=
 ⟨v,Hist.new P m,Hist3.new P m,First.new P m,Fwd.new hi,hl⟩
theorem Told.nx {V:MV} (T:Told V) {i:Nat} (hi:V.may i=true):Told (V.nx i) :=
 ⟨T.inv.nx hi,T.inv.hist_nx T.h hi,T.inv.hist3_nx T.h T.h3 hi,T.inv.first_nx T.fst hi,T.inv.fwd_nx T.fwd T.ll hi,by rw [(V.nx_P i).1];exact T.ll⟩
theorem Zap {α:Type} {l:List α} {k g:Nat} {s:α}:(l.take k)[g]? = some s↔g<k/\l[g]? = some s:=by
 rw [List.getElem?_take]
 by_cases h:g<k
 ·rw [if_pos h];exact ⟨fun q=>⟨h,q⟩,fun q=>q.2⟩
 ·rw [if_neg h];exact ⟨(fun q=>by cases q),(fun q=>absurd q.1 h)⟩
theorem MV.runs_app {V:MV} {a b:List Int} (hw:V.whole a):V.runs (a++b)=(V.runs a).runs b:=by
 show (V.runG (a++b)).1=_
 rw [MV.runG_append a b V hw];rfl
theorem MV.whole_app {V:MV} {a b:List Int} (hw:V.whole a):V.whole (a++b)↔(V.runs a).whole b:=by
 unfold MV.whole
 rw [MV.runG_append a b V hw,Ye]
 dsimp only;omega
theorem MV.whole_one {V:MV} {p:Nat} (h:V.may p=true):V.whole [(p:Int)]/\V.runs [(p:Int)]=V.nx p:=by
 have hm:Zey V (p:Int)=true:=by unfold Zey;rw [Yc,h];simp
 unfold MV.whole MV.runs
 rw [MV.runG_cons,if_pos hm,Yc]
 exact ⟨rfl,rfl⟩
theorem MV.runs_pre:∀(l:List Int) (V:MV),∃t,(V.runs l).st=V.st++t
 | [],V=>⟨[],by rw [Yi];rfl⟩
 | p :: ps,V=>by
  unfold MV.runs
  rw [MV.runG_cons]
  by_cases h:Zey V p=true
  ·rw [if_pos h]
   obtain ⟨t,ht⟩:=MV.runs_pre ps (V.nx p.toNat)
   refine ⟨V.stp p.toNat :: t,?_⟩
   show ((V.nx p.toNat).runs ps).st=_
   rw [ht,V.nx_st,Yau];rfl
  ·rw [if_neg h];exact ⟨[],by rw [Yi]⟩
structure Ran (V:MV) (row:List Int):Prop where
 z:Told V
 st0:V.st=[]
 w:V.whole row
section
variable {V:MV} {row:List Int} (r:Ran V row)
include r
theorem Ran.len:(V.runs row).st.length=row.length:=by
 rw [MV.runs_st r.z.inv r.w,r.st0,Yar,Yal]
theorem Ran.told:∀k,k<=row.length->Told (V.runs (row.take k))
 | 0,_=>r.z
 | k+1,h=>by
  obtain ⟨p,_,h2,h3⟩:=MV.whole_get r.w (show k<row.length from h)
  rw [h3]
  exact (Ran.told k (by omega)).nx h2
theorem Ran.end:Told (V.runs row):=by
 have:=r.told row.length (Yf _)
 rwa [Yah] at this
theorem Ran.stk {k:Nat} (h:k<=row.length):(V.runs (row.take k)).st=(V.runs row).st.take k:=by
 have hk:=MV.runs_st r.z.inv (MV.whole_take r.w k)
 rw [r.st0,Yar,Yal,Yao,Yby h] at hk
 obtain ⟨t,ht⟩:=MV.runs_pre (row.drop k) (V.runs (row.take k))
 rw [←MV.runs_app (MV.whole_take r.w k),Ycc] at ht
 rw [ht,Yaf (Ycl hk.symm)]
 exact (Yaj (Ycl hk)).symm
theorem Ran.keep (k:Nat):(V.runs (row.take k)).P=V.P/\(V.runs (row.take k)).m=V.m:=(MV.runs_inv r.z.inv (row.take k)).2
theorem Ran.keepE:(V.runs row).P=V.P/\(V.runs row).m=V.m:=(MV.runs_inv r.z.inv row).2
theorem Ran.step {i:Nat} (hi:i<row.length):∃p:Nat,row[i]? = some (p:Int)/\(V.runs (row.take i)).may p=true/\V.runs (row.take (i+1))=(V.runs (row.take i)).nx p/\(V.runs row).st[i]? = some ((V.runs (row.take i)).stp p)/\((V.runs (row.take i)).stp p).pick=(p:Int):=by
 obtain ⟨p,h1,h2,h3⟩:=MV.whole_get r.w hi
 refine ⟨p,h1,h2,h3,?_,rfl⟩
 have e:=r.stk (show i+1<=row.length from hi)
 rw [h3,MV.nx_st] at e
 have h4:((V.runs row).st.take (i+1))[i]? = some ((V.runs (row.take i)).stp p):=by
  rw [←e,Ybk (by rw [r.stk (Yq hi),Yao];omega),r.stk (Yq hi),Yao,r.len,Yby (Yq hi),Ybq];rfl
 exact (Zap.1 h4).2
theorem Ran.pick {i:Nat} {s:Stp} (hs:(V.runs row).st[i]? = some s):row[i]? = some s.pick:=by
 have hi:=Zf hs
 rw [r.len] at hi
 obtain ⟨p,h1,_,_,h4,h5⟩:=r.step hi
 rw [hs] at h4
 cases h4
 rw [h1,h5]
theorem Ran.thr {d:Nat} {s:Stp} (hs:(V.runs row).st[d]? = some s) (hk:s.kind≠6):∃t:Nat,t<4/\s.pick=(t:Int)/\s.t=(t:Int):=by
 have hi:=Zf hs
 rw [r.len] at hi
 obtain ⟨p,h1,h2,h3,h4,h5⟩:=r.step hi
 rw [hs] at h4
 cases h4
 have v:=(r.told d (by omega)).inv
 by_cases hp4:p<4
 ·exact ⟨p,hp4,h5,(v.thr_step hp4 h2).t⟩
 ·obtain ⟨c,w,F⟩:=v.fe hp4 h2
  exact absurd F.kind hk
theorem Ran.flu {d:Nat} {s:Stp} (hs:(V.runs row).st[d]? = some s) (hk:s.kind=6):∃t:Nat,t<4/\s.t=(t:Int)/\(∃c:Nat,c<4/\s.loc=(c:Int)/\s.pick=if V.m=2 then (4+t:Nat) else (8+(4*t+c):Nat)):=by
 have hi:=Zf hs
 rw [r.len] at hi
 obtain ⟨p,h1,h2,h3,h4,h5⟩:=r.step hi
 rw [hs] at h4
 cases h4
 have v:=(r.told d (by omega)).inv
 have hm:=(r.keep d).2
 by_cases hp4:p<4
 ·have:=(v.thr_step hp4 h2).kind;omega
 ·obtain ⟨c,w,F⟩:=v.fe hp4 h2
  have hc:=F.c4
  refine ⟨_,F.t4,F.t,c.toNat,by omega,by rw [F.loc];omega,?_⟩
  rw [h5,←hm]
  have hf:=Yaz F.find
  unfold ftQ
  unfold fpQ at hf
  rcases F.ok with ⟨a,b⟩ | ⟨a,b,b'⟩
  ·rw [if_pos a,if_pos a];omega
  ·have hf':c=(((p - 8) % 4:Nat):Int):=by
    rw [a] at hf
    simpa using hf
   rw [if_neg (by omega),if_neg (by omega)];omega
theorem Ran.thr_pick {d:Nat} {s:Stp} (hs:(V.runs row).st[d]? = some s) {t:Nat} (hp:s.pick=(t:Int)) (h4:t<4):s.kind≠6/\s.t=(t:Int):=by
 have:s.kind≠6:=fun hk=>by
  obtain ⟨t',_,_,c,_,_,h⟩:=r.flu hs hk
  by_cases hm:V.m=2
  ·rw [if_pos hm] at h;omega
  ·rw [if_neg hm] at h;omega
 obtain ⟨t',_,h1,h2⟩:=r.thr hs this
 exact ⟨this,by omega⟩
theorem Ran.stay {t:Nat} {a:Nat}:∀b,a<=b->b<=row.length->(∀i s,a<=i->i<b->(V.runs row).st[i]? = some s->s.pick≠(t:Int))->(V.runs (row.take b)).l t=(V.runs (row.take a)).l t
 | 0,h,_,_=>by rw [Nat.le_zero.1 h]
 | b+1,h,hb,hn=>by
  rcases Yw h with e | h'
  ·rw [e]
  ·obtain ⟨p,h1,h2,h3,h4,h5⟩:=r.step (show b<row.length from hb)
   rw [h3,←Ran.stay b (by omega) (by omega) fun i s ha hi=>hn i s ha (by omega)]
   have hp:=hn b _ (by omega) (Ybd b) h4
   rw [h5] at hp
   have v:=(r.told b (by omega)).inv
   by_cases hp4:p<4
   ·obtain ⟨q,T⟩:=v.te hp4 h2
    rw [T.l,if_neg fun c=>hp (by rw [c])]
   ·obtain ⟨c,w,F⟩:=v.fe hp4 h2
    rw [F.l]
theorem Ran.same {t a b:Nat} (ha:a<=row.length) (hb:b<=row.length) (h:∀i s,(V.runs row).st[i]? = some s->s.pick=(t:Int)->(i<a↔i<b)):(V.runs (row.take a)).l t=(V.runs (row.take b)).l t:=by
 rcases Nat.le_total a b with c | c
 ·exact (r.stay b c hb fun i s h1 h2 hs hp=>by have:=(h i s hs hp).2 h2;omega).symm
 ·exact r.stay a c ha fun i s h1 h2 hs hp=>by have:=(h i s hs hp).1 h2;omega
theorem Ran.fifo {i g d:Nat} {u q:Stp} (hu:(V.runs row).st[i]? = some u) (h6:u.kind=6) (hg:u.frm=(g:Int)) (hq:(V.runs row).st[d]? = some q) (hd:d<g) (hk:q.kind=2) (ht:q.t=u.t) (hl:V.m=3->q.loc=u.loc) :
  ∃j x,j<i/\(V.runs row).st[j]? = some x/\x.kind=6/\x.frm=(d:Int):=by
 have hi:=Zf hu
 rw [r.len] at hi
 have T:=r.told (i+1) hi
 have e:=r.stk (show i+1<=row.length from hi)
 have hmm:=(r.keep (i+1)).2
 generalize hW:V.runs (row.take (i+1))=W at *
 obtain ⟨hm1,g',hg',hgi,_⟩:=r.end.h3.fl i u hu h6
 rw [r.keepE.2] at hm1
 rw [hg] at hg'
 have hq':W.st[d]? = some q:=by rw [e];exact Zap.2 ⟨by omega,hq⟩
 have hu':W.st[i]? = some u:=by rw [e];exact Zap.2 ⟨Ybd _,hu⟩
 rcases T.h.sto d q hq' (by unfold Zgz;rw [hk,hmm];simp;exact hm1) with ⟨t,h1,ent,h2,h3⟩ | ⟨j,x,h1,h2,h3,h4⟩
 ·exfalso
  obtain ⟨k,hk',s',h5,_,_,h7,_⟩:=T.h.ent t ent h2
  have:k=d:=by omega
  subst this
  rw [hq'] at h5
  cases h5
  have:=(T.h.flu i u hu' h6).2 t (by rw [←ht,h1]) ent h2 fun q3=>by rw [←h7];exact hl (by rw [←hmm];exact q3)
  omega
 ·rw [e] at h2
  obtain ⟨h5,h6'⟩:=Zap.1 h2
  refine ⟨j,x,?_,h6',h3,h4⟩
  rcases Yad j i with c | c
  ·exact c
  ·exfalso
   have:j=i:=by omega
   subst this
   rw [hu] at h6'
   cases h6'
   omega
theorem Ran.free {i d:Nat} {s q:Stp} (hs:(V.runs row).st[i]? = some s) (hk:s.kind=3∨s.kind=4∨s.kind=5) (hq:(V.runs row).st[d]? = some q) (hd:d<i) (h2:q.kind=2) (ht:q.t=s.t) (hm:V.m≠1) :
  ∃j x,d<j/\j<i/\(V.runs row).st[j]? = some x/\x.kind=6/\x.frm=(d:Int):=by
 obtain ⟨j,x,h1,h2,h3,h4,h5⟩:=r.end.fst.dr (by rw [r.keepE.2];exact hm) i s hs hk d q hd hq ht h2
 exact ⟨j,x,h1,h2,h3,h4,h5⟩
end
def Zef (V:MV) (t:Nat) (c:Int):Int × Int:=match Zcj c (V.b t) with
 | some e=>(e.val,e.id)
 | none=>(V.mem.getD c.toNat 0,V.frm.getD c.toNat 0)
theorem valQ_val (V:MV) (t:Nat) (q:Ins):V.val t q=Zef V t q.loc:=rfl
def waits (m:Int) (l:List Stp) (t c:Int) (g:Nat):Prop:=m≠1/\∃q,l[g]? = some q/\q.kind=2/\q.t=t/\q.loc=c/\∀(j:Nat) (u:Stp),l[j]? = some u->u.kind=6->u.frm≠(g:Int)
section
variable {V:MV} (T:Told V) {t:Nat} {c:Int}
include T
theorem Told.has {e:Ent} (h:Zcj c (V.b t)=some e):∃g:Nat,e.id=(g:Int)/\waits V.m V.st t c g/\∀(g':Nat) (q':Stp),V.st[g']? = some q'->q'.kind=2->q'.t=(t:Int)->q'.loc=c->g'<=g:=by
 have hl:=Zfi c (V.b t) (T.h.ids t)
 rw [h] at hl
 dsimp only at hl
 obtain ⟨h1,h2,h3⟩:=hl
 obtain ⟨g,hg,q,hq,k1,k2,k3,_,k5⟩:=T.h.ent t e h1
 have hm:V.m≠1:=fun q=>by rw [T.h.own q] at h1;cases h1
 refine ⟨g,hg,⟨hm,q,hq,k1,k2,by rw [k3];exact h2,fun j u hu hk=>by rw [←hg];exact k5 j u hu hk⟩,fun g' q' hq' r1 r2 r3=>?_⟩
 rcases T.h.sto g' q' hq' (by unfold Zgz;rw [r1];simp;exact hm) with ⟨t',s1,e',s2,s3⟩ | ⟨j,u,s1,s2,s3,s4⟩
 ·have:t'=t:=by omega
  subst this
  obtain ⟨g'',hg'',q'',hq'',_,_,s6,_⟩:=T.h.ent t' e' s2
  have:g''=g':=by omega
  subst this
  rw [hq'] at hq''
  cases hq''
  have:=h3 e' s2 (by rw [←s6];exact r3)
  omega
 ·obtain ⟨_,f,f1,f2,s,f3,f4,f5,f6⟩:=T.h3.fl j u s2 s3
  have:f=g':=by omega
  subst this
  rw [hq'] at f3
  cases f3
  have:=(T.h.flu j u s2 s3).2 t (by rw [←f5,r2]) e h1 fun _=>by rw [h2,←f6,r3]
  omega
theorem Told.gone (hm:V.m≠1) (hne:Zcj c (V.b t)=none) {g:Nat} {q:Stp} (hq:V.st[g]? = some q) (hk:q.kind=2) (ht:q.t=(t:Int)) (hc:q.loc=c):∃(j:Nat) (u:Stp),V.st[j]? = some u/\u.kind=6/\u.frm=(g:Int)/\u.loc=c:=by
 rcases T.h.sto g q hq (by unfold Zgz;rw [hk];simp;exact hm) with ⟨t',s1,e',s2,s3⟩ | ⟨j,u,s1,s2,s3,s4⟩
 ·exfalso
  have:t'=t:=by omega
  subst this
  obtain ⟨g'',hg'',q'',hq'',_,_,s6,_⟩:=T.h.ent t' e' s2
  have:g''=g:=by omega
  subst this
  rw [hq] at hq''
  cases hq''
  have hl:=Zfi c (V.b t') (T.h.ids t')
  rw [hne] at hl
  exact hl e' s2 (by rw [←s6];exact hc)
 ·obtain ⟨_,f,f1,f2,s,f3,f4,f5,f6⟩:=T.h3.fl j u s2 s3
  have:f=g:=by omega
  subst this
  rw [hq] at f3
  cases f3
  exact ⟨j,u,s2,s3,s4,by rw [←f6,hc]⟩
theorem Told.own {g:Nat} (hg:waits V.m V.st t c g) (hn:∀(g':Nat) (q':Stp),V.st[g']? = some q'->q'.kind=2->q'.t=(t:Int)->q'.loc=c->g'<=g):(Zef V t c).2=(g:Int):=by
 obtain ⟨hm,q,hq,k1,k2,k3,k4⟩:=hg
 rcases T.h.sto g q hq (by unfold Zgz;rw [k1];simp;exact hm) with ⟨t',s1,e',s2,s3⟩ | ⟨j,u,s1,s2,s3,s4⟩
 ·have:t'=t:=by omega
  subst this
  obtain ⟨g'',hg'',q'',hq'',_,_,s6,_⟩:=T.h.ent t' e' s2
  have:g''=g:=by omega
  subst this
  rw [hq] at hq''
  cases hq''
  have hl:=Zfi c (V.b t') (T.h.ids t')
  unfold Zef
  cases hne:Zcj c (V.b t') with
  | none =>
   rw [hne] at hl
   exact absurd (by rw [←s6];exact k3) (hl e' s2)
  | some e =>
   rw [hne] at hl
   obtain ⟨g2,r1,⟨_,q2,r2,r3,r4,r5,_⟩,_⟩:=T.has hne
   have h5:=hn g2 q2 r2 r3 r4 r5
   have h6:=hl.2.2 e' s2 (by rw [←s6];exact k3)
   dsimp only;omega
 ·exact absurd s4 (k4 j u s2 s3)
theorem Told.hasnt (hn:∀g,¬waits V.m V.st t c g):Zcj c (V.b t)=none:=by
 cases hne:Zcj c (V.b t) with
 | none=>rfl
 | some e =>
  obtain ⟨g,_,h,_⟩:=T.has hne
  exact absurd h (hn g)
theorem Told.ini (hc:0<=c/\c<4) (hn:∀g,¬waits V.m V.st t c g) (hw:∀(k:Nat) u,V.st[k]? = some u->¬Zcg V.m u c):(Zef V t c).2 = -1:=by
 unfold Zef
 rw [T.hasnt hn]
 dsimp only
 have hcc:((c.toNat:Nat):Int)=c:=by omega
 rcases T.h3.mm c.toNat (by omega) with ⟨h1,_⟩ | ⟨w,u,h1,h2,_⟩
 ·exact h1
 ·rw [hcc] at h2;exact absurd h2 (hw w u h1)
theorem Told.mem {w:Nat} {u:Stp} {g:Int} (hc:0<=c/\c<4) (hn:∀g,¬waits V.m V.st t c g) (hu:V.st[w]? = some u) (hw:Zcg V.m u c) (hb:Zfu u w g) (hl:∀(k:Nat) u',w<k->V.st[k]? = some u'->¬Zcg V.m u' c):(Zef V t c).2=g:=by
 unfold Zef
 rw [T.hasnt hn]
 dsimp only
 have hcc:((c.toNat:Nat):Int)=c:=by omega
 rcases T.h3.mm c.toNat (by omega) with ⟨_,h2⟩ | ⟨w',u',h1,h2,h3,h4⟩
 ·rw [hcc] at h2;exact absurd hw (h2 w u hu)
 ·rw [hcc] at h2 h4
  have hww:w'=w:=by
   rcases Yp w' w with q | q | q
   ·exact absurd hw (h4 w u q hu)
   ·exact q
   ·exact absurd h2 (hl w' u' q h1)
  subst hww
  rw [h1] at hu
  cases hu
  rcases h3 with ⟨a1,a2⟩ | ⟨a1,a2⟩<;>rcases hb with ⟨b1,b2⟩ | ⟨b1,b2⟩
  ·rw [a2,b2]
  ·exact absurd b1 a1
  ·exact absurd a1 b1
  ·rw [←a2,b2]
theorem Told.val (hc:0<=c/\c<4):(∃(g:Nat) (s:Stp),(Zef V t c).2=(g:Int)/\V.st[g]? = some s/\s.w=(Zef V t c).1)∨((Zef V t c).2<0/\V.P.init.getD c.toNat 0=(Zef V t c).1):=by
 unfold Zef
 cases hne:Zcj c (V.b t) with
 | some e =>
  have hl:=Zfi c (V.b t) (T.h.ids t)
  rw [hne] at hl
  obtain ⟨g,hg,q,hq,_,_,_,k4,_⟩:=T.h.ent t e hl.1
  exact .inl ⟨g,q,hg,hq,k4⟩
 | none =>
  dsimp only
  obtain ⟨_,h1,h2⟩:=T.fwd.mf c.toNat (by omega)
  by_cases h:0<=V.frm.getD c.toNat 0
  ·obtain ⟨_,s,h3,h4⟩:=h1 h
   exact .inl ⟨(V.frm.getD c.toNat 0).toNat,s,by omega,h3,h4⟩
  ·exact .inr ⟨by omega,h2 (by omega)⟩
end
section base
variable {l:List Stp} {m:Int}
theorem Zjc {a b:Nat} {x y:Stp} (hab:a<b) (hx:l[a]? = some x) (hy:l[b]? = some y) (h:Zgm x y m a=true):Zbx l m a b=true:=by
 have:Zqe l m a b=true:=by unfold Zqe;rw [hx,hy];exact h
 unfold Zbx
 rw [decide_eq_true hab,this];rfl
theorem Zca {a b:Nat} {x y:Stp} (hab:a<b) (hx:l[a]? = some x) (hy:l[b]? = some y) (h:x.pick=y.pick):Zbx l m a b=true :=
 Zjc hab hx hy (by unfold Zgm;rw [h,beq_self_eq_true];simp)
theorem Zzc {a b:Nat} {x y:Stp} {c:Int} (hab:a<b) (hx:l[a]? = some x) (hy:l[b]? = some y) (h1:Zcg m x c) (h2:Zcg m y c):Zbx l m a b=true :=
 Zjc hab hx hy (by unfold Zgm;rw [h1.1,h2.1,h1.2,h2.2,beq_self_eq_true];simp)
theorem Zug {a b:Nat} {x y:Stp} (hab:a<b) (hx:l[a]? = some x) (hy:l[b]? = some y) (h6:y.kind=6) (hf:y.frm=(a:Int)):Zbx l m a b=true :=
 Zjc hab hx hy (by unfold Zgm;rw [h6,hf];simp)
theorem Zog {a b:Nat} {x y:Stp} (hab:a<b) (hx:l[a]? = some x) (hy:l[b]? = some y) (h6:x.kind=6) (ht:x.t=y.t) (hf:y.kind=3∨y.kind=4∨y.kind=5):Zbx l m a b=true :=
 Zjc hab hx hy (by
  have:fnS y=true:=by unfold fnS;rcases hf with h | h | h<;>rw [h]<;>rfl
  unfold Zgm;rw [h6,ht,this,beq_self_eq_true,beq_self_eq_true];simp)
theorem Zyy {i a b:Nat} {s:Stp} (hs:l[i]? = some s) (hr:rdS s=true) (h:Zee l m i s a b=true):Zbx l m a b=true:=by
 unfold Zbx
 rw [Ym]
 refine .inr (Ybt.2 ⟨i,Ycd.2 (Zf hs),?_⟩)
 unfold rdE
 rw [hs]
 dsimp only
 rw [hr,h];rfl
theorem base_fr {i b:Nat} {s u:Stp} {f:Int} (hs:l[i]? = some s) (hr:rdS s=true) (hf:Zcy l m s=some f) (hfb:f<(b:Int)) (hne:b≠i) (hu:l[b]? = some u) (hw:Zcg m u s.loc):Zbx l m i b=true:=by
 refine Zyy hs hr ?_
 have hwe:wrE l m s.loc b=true:=by unfold wrE;rw [hu];dsimp only;rw [hw.1,hw.2,beq_self_eq_true];rfl
 unfold Zee
 rw [hf]
 dsimp only
 rw [decide_eq_true hfb,hwe,bne_iff_ne.2 hne];simp
theorem base_rf {i w:Nat} {s:Stp} (hs:l[i]? = some s) (hr:rdS s=true) (hf:Zcy l m s=some (w:Int)) (hfar:Zsy l s=true):Zbx l m w i=true:=by
 refine Zyy hs hr ?_
 unfold Zee
 rw [hf]
 dsimp only
 rw [hfar];simp
theorem from_ini {s:Stp} (h:s.frm<0):Zcy l m s=some (-1):=by unfold Zcy;rw [if_neg (by omega)]
theorem far_of {s q:Stp} {g:Nat} (hg:s.frm=(g:Int)) (hq:l[g]? = some q) (hne:q.t≠s.t):Zsy l s=true:=by
 have:=Zf hq
 unfold Zsy
 rw [hg,Yc,hq]
 dsimp only
 rw [decide_eq_true (by omega),bne_iff_ne.2 hne];rfl
end base
theorem Hist3.from {V:MV} (H3:Hist3 V) {w:Nat} {u s:Stp} (hw:V.st[w]? = some u) (hwr:wrS u V.m=true) (hb:Zfu u w s.frm):Zcy V.st V.m s=some (w:Int)/\∃(g:Nat) (q:Stp),s.frm=(g:Int)/\V.st[g]? = some q:=by
 obtain ⟨g,hg,hgl,hc⟩:=H3.came hw hwr hb
 refine ⟨?_,g,V.st[g],hg,Ya hgl⟩
 unfold Zcy
 rw [if_pos (by omega),hg,Yc,hc,if_neg (by omega)]
def frmR (D:List Nat) (a b:Int):Prop:=(a<0/\b=a)∨∃f k:Nat,a=(f:Int)/\b=(k:Int)/\D[k]? = some f
structure SameS (D:List Nat) (s s':Stp):Prop where
 pick:s'.pick=s.pick
 t:s'.t=s.t
 kind:s'.kind=s.kind
 loc:s'.loc=s.loc
 r:s'.r=s.r
 w:s'.w=s.w
 frm:frmR D s.frm s'.frm
def evP (t:Nat) (s:Stp):Bool:=s.t==(t:Int)&&s.kind != 6
structure Part (V:MV) (row:List Int) (D:List Nat) (W:MV):Prop where
 told:Told W
 P:W.P=V.P
 m:W.m=V.m
 len:W.st.length=D.length
 st:∀(k d:Nat),D[k]? = some d->∃s s',(V.runs row).st[d]? = some s/\W.st[k]? = some s'/\SameS D s s'
 nd:∀(k k' d:Nat),D[k]? = some d->D[k']? = some d->k=k'
 cl:∀(k d:Nat),D[k]? = some d->∀a,Zbx (V.runs row).st V.m a d=true->∃k',k'<k/\D[k']? = some a
 loc:∀t:Nat,t<4->∃c,c<=row.length/\(∀(d:Nat) s,(V.runs row).st[d]? = some s->s.pick=(t:Int)->(d∈D↔d<c))/\W.l t=(V.runs (row.take c)).l t/\W.st.countP (evP t)=((V.runs row).st.take c).countP (evP t)
section
variable {V W:MV} {row:List Int} (r:Ran V row) {D:List Nat} (p:Part V row D W)
include p
theorem Part.cl' {d:Nat} (h:d∈D) {a:Nat} (hb:Zbx (V.runs row).st V.m a d=true):a∈D:=by
 obtain ⟨k,hk⟩:=Yn.1 h
 obtain ⟨k',_,h2⟩:=p.cl k d hk a hb
 exact Yg h2
theorem Part.of {k:Nat} {s':Stp} (h:W.st[k]? = some s'):∃(d:Nat) (s:Stp),D[k]? = some d/\d∈D/\(V.runs row).st[d]? = some s/\SameS D s s':=by
 have hk:=Zf h
 rw [p.len] at hk
 obtain ⟨s,s'',h1,h2,h3⟩:=p.st k _ (Ya hk)
 rw [h] at h2
 cases h2
 exact ⟨_,s,Ya hk,List.getElem_mem hk,h1,h3⟩
theorem Part.to {d:Nat} {s:Stp} (h:d∈D) (hs:(V.runs row).st[d]? = some s):∃(k:Nat) (s':Stp),D[k]? = some d/\W.st[k]? = some s'/\SameS D s s':=by
 obtain ⟨k,hk⟩:=Yn.1 h
 obtain ⟨s1,s',h1,h2,h3⟩:=p.st k d hk
 rw [hs] at h1
 cases h1
 exact ⟨k,s',hk,h2,h3⟩
theorem Part.frm {s s':Stp} (h:SameS D s s') {k g:Nat} (h1:s'.frm=(k:Int)) (h2:D[k]? = some g):s.frm=(g:Int):=by
 rcases h.frm with ⟨a,b⟩ | ⟨f,k',a,b,c⟩
 ·omega
 ·have:k'=k:=by omega
  subst this
  rw [h2] at c
  cases c
  exact a
theorem Part.frm' {s s':Stp} (h:SameS D s s') {k g:Nat} (h1:s.frm=(g:Int)) (h2:D[k]? = some g):s'.frm=(k:Int):=by
 rcases h.frm with ⟨a,b⟩ | ⟨f,k',a,b,c⟩
 ·omega
 ·have:f=g:=by omega
  subst this
  rw [b,p.nd k k' f h2 c]
theorem Part.waits {t c:Int} {k:Nat} (h:waits W.m W.st t c k):∃(g:Nat) (q:Stp),D[k]? = some g/\g∈D/\(V.runs row).st[g]? = some q/\q.kind=2/\q.t=t/\q.loc=c/\∀(f:Nat) (u:Stp),f∈D->(V.runs row).st[f]? = some u->u.kind=6->u.frm≠(g:Int):=by
 obtain ⟨_,q',hq,h1,h2,h3,h4⟩:=h
 obtain ⟨g,q,e1,e2,e3,e4⟩:=p.of hq
 refine ⟨g,q,e1,e2,e3,by rw [←e4.kind,h1],by rw [←e4.t,h2],by rw [←e4.loc,h3],fun f u hf hu h6 hfr=>?_⟩
 obtain ⟨k',u',d1,d2,d3⟩:=p.to hf hu
 exact h4 k' u' d2 (by rw [d3.kind,h6]) (p.frm' d3 hfr e1)
include r
theorem Part.memR {t:Nat} {c:Int} (hc:0<=c/\c<4) {f:Nat} {u:Stp} {g:Int} (hf:f∈D) (hu:(V.runs row).st[f]? = some u) (hw:Zcg V.m u c) (hb:Zfu u f g)
  (h1:∀(d:Nat) (x:Stp),d∈D->(V.runs row).st[d]? = some x->Zcg V.m x c->d<=f)
  (h2:∀(d:Nat) (q:Stp),d∈D->(V.runs row).st[d]? = some q->V.m≠1->q.kind=2->q.t=(t:Int)->q.loc=c->∃(j:Nat) (x:Stp),j∈D/\(V.runs row).st[j]? = some x/\x.kind=6/\x.frm=(d:Int)):frmR D g (Zef W t c).2:=by
 obtain ⟨k,u',e1,e2,e3⟩:=p.to hf hu
 have hw':∀{x x':Stp},SameS D x x'->(Zcg W.m x' c↔Zcg V.m x c):=fun h=>by unfold Zcg wrS;rw [p.m,h.kind,h.loc]
 have hno:∀g,¬Jq.waits W.m W.st t c g:=fun k' hk'=>by
  have hm:=hk'.1
  obtain ⟨d,q,_,a2,a3,a4,a5,a6,a7⟩:=p.waits hk'
  obtain ⟨j,x,b1,b2,b3,b4⟩:=h2 d q a2 a3 (by rw [←p.m];exact hm) a4 a5 a6
  exact a7 j x b1 b2 b3 b4
 have hlast:∀(k':Nat) x',k<k'->W.st[k']? = some x'->¬Zcg W.m x' c:=fun k' x' hk hx hwx=>by
  obtain ⟨d,x,a1,a2,a3,a4⟩:=p.of hx
  have hwd:=(hw' a4).1 hwx
  rcases Yw (h1 d x a2 a3 hwd) with q | q
  ·rw [q] at a1
   have:=p.nd k k' f e1 a1;omega
  ·obtain ⟨k2,b1,b2⟩:=p.cl k f e1 d (Zzc q a3 hu hwd hw)
   have:=p.nd k2 k' d b2 a1;omega
 rcases hb with ⟨a1,a2⟩ | ⟨a1,a2⟩
 ·rw [p.told.mem (g:=(k:Int)) hc hno e2 ((hw' e3).2 hw) (.inl ⟨by rw [e3.kind];exact a1,rfl⟩) hlast]
  exact .inr ⟨f,k,a2,rfl,e1⟩
 ·rw [p.told.mem (g:=u'.frm) hc hno e2 ((hw' e3).2 hw) (.inr ⟨by rw [e3.kind];exact a1,rfl⟩) hlast,←a2]
  exact e3.frm
theorem Part.ownR {t:Nat} {c:Int} (t4:t<4) {g:Nat} {q:Stp} (hg:g∈D) (hq:(V.runs row).st[g]? = some q) (hm:V.m≠1) (hk:q.kind=2) (ht:q.t=(t:Int)) (hl:q.loc=c)
  (h1:∀(f:Nat) (u:Stp),f∈D->(V.runs row).st[f]? = some u->u.kind=6->u.frm≠(g:Int))
  (h2:∀(d:Nat) (q:Stp),d∈D->(V.runs row).st[d]? = some q->q.kind=2->q.t=(t:Int)->q.loc=c->d<=g):frmR D (g:Int) (Zef W t c).2:=by
 obtain ⟨k,q',e1,e2,e3⟩:=p.to hg hq
 rw [p.told.own (g:=k) ⟨by rw [p.m];exact hm,q',e2,by rw [e3.kind,hk],by rw [e3.t,ht],by rw [e3.loc,hl],fun j u' hu' h6 hfr=>?_⟩ fun k' x' hx' r1 r2 r3=>?_]
 ·exact .inr ⟨g,k,rfl,rfl,e1⟩
 ·obtain ⟨f,u,_,a2,a3,a4⟩:=p.of hu'
  exact h1 f u a2 a3 (by rw [←a4.kind,h6]) (p.frm a4 hfr e1)
 ·obtain ⟨d,x,a1,a2,a3,a4⟩:=p.of hx'
  rcases Yw (h2 d x a2 a3 (by rw [←a4.kind,r1]) (by rw [←a4.t,r2]) (by rw [←a4.loc,r3])) with z | z
  ·rw [z] at a1
   exact Ycl (p.nd k' k g a1 e1)
  ·obtain ⟨_,_,p1,p1'⟩:=r.thr hq (by omega)
   obtain ⟨_,_,p2,p2'⟩:=r.thr a3 (by rw [←a4.kind,r1];omega)
   obtain ⟨k2,b1,b2⟩:=p.cl k g e1 d (Zca z a3 hq (by rw [p1,p2,←p1',←p2',ht,←a4.t,r2]))
   have:=p.nd k2 k' d b2 a1;omega
variable {i:Nat} {s:Stp} (hs:(V.runs row).st[i]? = some s) (hi:i ∉ D) (hcl:∀a,Zbx (V.runs row).st V.m a i=true->a∈D)
include hs hi hcl
theorem Part.thr {t:Nat} (hp:s.pick=(t:Int)) {d:Nat} {x:Stp} (hx:(V.runs row).st[d]? = some x) (hxp:x.pick=(t:Int)):d∈D↔d<i:=by
 constructor
 ·intro h
  rcases Yp d i with c | c | c
  ·exact c
  ·exact absurd (c ▸ h) hi
  ·exact absurd (p.cl' h (Zca c hs hx (by rw [hp,hxp]))) hi
 ·intro h
  exact hcl d (Zca h hx hs (by rw [hp,hxp]))
set_option maxHeartbeats 1000000 in
theorem Part.read {t:Nat} (t4:t<4) (hp:s.pick=(t:Int)) (hr:rdS s=true) (hfr:s.frm=(Zef (V.runs (row.take i)) t s.loc).2):frmR D (Zef (V.runs (row.take i)) t s.loc).2 (Zef W t s.loc).2:=by
 have hil:=Zf hs
 rw [r.len] at hil
 have T:=r.told i (Yq hil)
 have e:=r.stk (Yq hil)
 have hmm:=(r.keep i).2
 have TE:=r.end
 have hmE:=r.keepE.2
 have hc:=TE.h3.loc i s hs
 obtain ⟨k6,hst⟩:=r.thr_pick hs hp t4
 generalize hS:V.runs (row.take i)=S at *
 generalize hc':s.loc=c at *
 have own:∀(d:Nat) (q:Stp),d∈D->(V.runs row).st[d]? = some q->q.kind=2->q.t=(t:Int)->d<i:=fun d q hd hq h2 ht=>by
  obtain ⟨_,_,p1,p2⟩:=r.thr hq (by omega)
  exact (p.thr r hs hi hcl hp hq (by rw [p1,←p2,ht])).1 hd
 have own':∀(d:Nat) (q:Stp),(V.runs row).st[d]? = some q->q.kind≠6->q.t=(t:Int)->d<i->d∈D:=fun d q hq h2 ht hd=>by
  obtain ⟨_,_,p1,p2⟩:=r.thr hq h2
  exact (p.thr r hs hi hcl hp hq (by rw [p1,←p2,ht])).2 hd
 have late:∀{f:Int} (d:Nat) (x:Stp),Zcy (V.runs row).st V.m s=some f->d∈D->(V.runs row).st[d]? = some x->Zcg V.m x c->(d:Int)<=f:=fun d x hf hd hx hw=>by
  rcases Int.lt_or_le _ (d:Int) with q | q
  ·exact absurd (p.cl' hd (base_fr hs hr hf q (fun h=>hi (h ▸ hd)) hx (by rw [hc'];exact hw))) hi
  ·exact q
 have flloc:∀{f:Nat} {u:Stp} {g:Nat} {q:Stp},(V.runs row).st[f]? = some u->u.kind=6->u.frm=(g:Int)->(V.runs row).st[g]? = some q->V.m≠1/\g<f/\q.kind=2/\q.t=u.t/\q.loc=u.loc:=fun hu h6 hf hq=>by
  obtain ⟨a1,g',a2,a3,q',a4,a5,a6,a7⟩:=TE.h3.fl _ _ hu h6
  have:g'=_:=Ycm.inj (a2.symm.trans hf)
  subst this
  rw [hq] at a4
  cases a4
  exact ⟨by rw [←hmE];exact a1,a3,a5,a6,a7⟩
 have flpick:∀{f f':Nat} {u u':Stp},(V.runs row).st[f]? = some u->u.kind=6->(V.runs row).st[f']? = some u'->u'.kind=6->u.t=u'.t->u.loc=u'.loc->u.pick=u'.pick:=fun hu h6 hu' h6' h1 h2=>by
  obtain ⟨t1,_,a1,c1,_,a2,a3⟩:=r.flu hu h6
  obtain ⟨t2,_,b1,c2,_,b2,b3⟩:=r.flu hu' h6'
  have e1:t1=t2:=by omega
  have e2:c1=c2:=by omega
  rw [a3,b3,e1,e2]
 have wr6:∀{u:Stp},u.kind=6->wrS u V.m=true:=fun h=>by unfold wrS;rw [h];rfl
 cases hne:Zcj c (S.b t) with
 | some e0 =>
  obtain ⟨g,hg,⟨hm1,q,hq,q1,q2,q3,q4⟩,hnew⟩:=T.has hne
  have hv:(Zef S t c).2=(g:Int):=by unfold Zef;rw [hne];exact hg
  rw [hv] at hfr ⊢
  rw [hmm] at hm1
  rw [e] at hq hnew
  obtain ⟨hgi,hq⟩:=Zap.1 hq
  have hgD:=own' g q hq (by omega) q2 hgi
  have newest:∀(d:Nat) (x:Stp),d∈D->(V.runs row).st[d]? = some x->x.kind=2->x.t=(t:Int)->x.loc=c->d<=g:=fun d x hd hx h1 h2 h3 =>
   hnew d x (Zap.2 ⟨own d x hd hx h1 h2,hx⟩) h1 h2 h3
  by_cases hex:∃(f:Nat) (u:Stp),f∈D/\(V.runs row).st[f]? = some u/\u.kind=6/\u.frm=(g:Int)
  ·obtain ⟨f,u,f1,f2,f3,f4⟩:=hex
   obtain ⟨_,_,_,b4,b5⟩:=flloc f2 f3 f4 hq
   have hwu:Zcg V.m u c:=⟨wr6 f3,by rw [←b5,q3]⟩
   have hfE:=(TE.h3.from (s:=s) f2 (by rw [hmE];exact hwu.1) (.inr ⟨f3,by rw [f4,hfr]⟩)).1
   rw [hmE] at hfE
   refine p.memR r hc f1 f2 hwu (.inr ⟨f3,f4⟩) (fun d x hd hx hw=>by have:=late d x hfE hd hx hw;omega) fun d x hd hx hm h1 h2 h3=>?_
   rcases Yw (newest d x hd hx h1 h2 h3) with z | z
   ·exact ⟨f,u,f1,f2,f3,by rw [z];exact f4⟩
   ·obtain ⟨j,y,j1,j2,j3,j4⟩:=r.fifo f2 f3 f4 hx z h1 (by rw [h2,←b4,q2]) fun _=>by rw [h3,←b5,q3]
    obtain ⟨_,_,_,d4,d5⟩:=flloc j2 j3 j4 hx
    exact ⟨j,y,p.cl' f1 (Zca j1 j2 f2 (flpick j2 j3 f2 f3 (by rw [←d4,h2,←b4,q2]) (by rw [←d5,h3,←b5,q3]))),j2,j3,j4⟩
  ·exact p.ownR r t4 hgD hq hm1 q1 q2 q3 (fun f u hf hu h6 hfr=>hex ⟨f,u,hf,hu,h6,hfr⟩) newest
 | none =>
  have hv:(Zef S t c).2=S.frm.getD c.toNat 0:=by unfold Zef;rw [hne]
  have gone:∀(d:Nat) (x:Stp),d∈D->(V.runs row).st[d]? = some x->V.m≠1->x.kind=2->x.t=(t:Int)->x.loc=c->∃(j:Nat) (u:Stp),j<i/\(V.runs row).st[j]? = some u/\u.kind=6/\u.frm=(d:Int)/\Zcg V.m u c:=fun d x hd hx hm h1 h2 h3=>by
   obtain ⟨j,u,j1,j2,j3,j4⟩:=T.gone (by rw [hmm];exact hm) hne (by rw [e];exact Zap.2 ⟨own d x hd hx h1 h2,hx⟩) h1 h2 h3
   rw [e] at j1
   obtain ⟨j5,j6⟩:=Zap.1 j1
   exact ⟨j,u,j5,j6,j2,j3,wr6 j2,j4⟩
  have hcc:((c.toNat:Nat):Int)=c:=by omega
  rcases T.h3.mm c.toNat (by omega) with ⟨m1,m2⟩ | ⟨w,u,m1,m2,m3,m4⟩
  ·rw [hv,m1] at hfr ⊢
   rw [hcc,hmm,e] at m2
   have hfE:Zcy (V.runs row).st V.m s=some (-1):=from_ini (by omega)
   rw [p.told.ini hc (fun k hk=>?_) fun k x' hx' hw=>?_]
   ·exact .inl ⟨by omega,rfl⟩
   ·have hm:=hk.1
    obtain ⟨d,x,_,a2,a3,a4,a5,a6,_⟩:=p.waits hk
    obtain ⟨j,u,j1,j2,j3,j4,j5⟩:=gone d x a2 a3 (by rw [←p.m];exact hm) a4 a5 a6
    exact m2 j u (Zap.2 ⟨j1,j2⟩) j5
   ·obtain ⟨d,x,a1,a2,a3,a4⟩:=p.of hx'
    have:=late d x hfE a2 a3 (by unfold Zcg wrS at hw ⊢;rw [←a4.kind,←a4.loc,←p.m];exact hw)
    omega
  ·rw [hcc,hmm] at m2
   rw [←hv,←hfr] at m3
   rw [←hfr]
   have m4':∀(k:Nat) u',w<k->k<i->(V.runs row).st[k]? = some u'->¬Zcg V.m u' c:=fun k u' h1 h2 h3=>by
    have:=m4 k u' h1 (by rw [e];exact Zap.2 ⟨h2,h3⟩)
    rwa [hcc,hmm] at this
   rw [e] at m1
   obtain ⟨hwi,hu⟩:=Zap.1 m1
   obtain ⟨hfE,g,q,hg,hq⟩:=TE.h3.from (s:=s) hu (by rw [hmE];exact m2.1) m3
   rw [hmE] at hfE
   have jw:∀(j:Nat) (x:Stp),j<i->(V.runs row).st[j]? = some x->Zcg V.m x c->j<=w:=fun j x h1 h2 h3=>by
    rcases Yad w j with z | z
    ·exact absurd h3 (m4' j x z h1 h2)
    ·exact z
   by_cases hwD:w∈D
   ·refine p.memR r hc hwD hu m2 m3 (fun d x hd hx hw=>by have:=late d x hfE hd hx hw;omega) fun d x hd hx hm h1 h2 h3=>?_
    obtain ⟨j,y,j1,j2,j3,j4,j5⟩:=gone d x hd hx hm h1 h2 h3
    refine ⟨j,y,?_,j2,j3,j4⟩
    rcases Yw (jw j y j1 j2 j5) with z | z
    ·rw [z];exact hwD
    ·exact p.cl' hwD (Zzc z j2 hu j5 m2)
   ·have hqt:q.t=(t:Int):=by
     rcases Ycn (q.t=s.t) with z | z
     ·rw [z,hst]
     ·exact absurd (hcl w (base_rf hs hr hfE (far_of hg hq z))) hwD
    have hu6:u.kind=6:=by
     rcases Ycn (u.kind=6) with z | z
     ·exact z
     ·exfalso
      rcases m3 with ⟨_,a2⟩ | ⟨a1,_⟩
      ·have:g=w:=by omega
       subst this
       rw [hu] at hq
       cases hq
       exact hwD (own' g u hu z hqt hwi)
      ·exact z a1
    have huf:u.frm=(g:Int):=by
     rcases m3 with ⟨a1,_⟩ | ⟨_,a2⟩
     ·exact absurd hu6 a1
     ·rw [a2,hg]
    obtain ⟨b1,b2,b3,b4,b5⟩:=flloc hu hu6 huf hq
    rw [hg]
    have hmw:=m2.2
    refine p.ownR r t4 (own' g q hq (by omega) hqt (by omega)) hq b1 b3 hqt (by rw [b5,hmw]) (fun f x hf hx h6 hxf=>?_) fun d x hd hx h1 h2 h3=>?_
    ·have:=TE.h3.un f x w u hx hu h6 hu6 (by rw [hxf,huf])
     exact hwD (this ▸ hf)
    ·obtain ⟨j,y,j1,j2,j3,j4,j5⟩:=gone d x hd hx b1 h1 h2 h3
     rcases Yad g d with z | z
     ·exfalso
      obtain ⟨_,_,_,d4,d5⟩:=flloc j2 j3 j4 hx
      obtain ⟨k,y',k1,k2,k3,k4⟩:=r.fifo j2 j3 j4 hq z b3 (by rw [hqt,←d4,h2]) fun _=>by rw [b5,hmw,←d5,h3]
      have:=TE.h3.un k y' w u k2 hu k3 hu6 (by rw [k4,huf])
      have:=jw j y j1 j2 j5
      omega
     ·exact z
end
theorem Zoz {p:Ent->Bool} {e' e1:Ent}:∀{l:List Ent},(l.Pairwise fun a b=>a.id<b.id)->l.find? p=some e'->e1∈l->p e1=true->e'.id<=e1.id
 | [],_,h,_,_=>by cases h
 | a :: l,hl,h,hm,hp=>by
  rw [Ybx] at h
  rw [List.pairwise_cons] at hl
  rcases Ybl.1 hm with q | q
  ·rw [q] at hp
   rw [hp] at h
   cases h
   rw [q];exact Ycs _
  ·cases hpa:p a with
   | true =>
    rw [hpa] at h
    cases h
    exact Int.le_of_lt (hl.1 e1 q)
   | false =>
    rw [hpa] at h
    exact Zoz hl.2 h q hp
theorem frmR.app {D E:List Nat} {a b:Int} (h:frmR D a b):frmR (D++E) a b:=by
 rcases h with h | ⟨f,k,h1,h2,h3⟩
 ·exact .inl h
 ·exact .inr ⟨f,k,h1,h2,by rw [Ybp (Zf h3)];exact h3⟩
theorem SameS.app {D E:List Nat} {s s':Stp} (h:SameS D s s'):SameS (D++E) s s':={ h with frm:=h.frm.app }
theorem MV.Inv.noread {V:MV} (v:V.Inv) {i:Nat} (h4:i<4) (hi:V.may i=true) (hr:rdS (V.stp i)≠true):(V.stp i).frm = -1:=by
 have hq:=MV.may_thr h4 hi
 obtain ⟨_,q2,_⟩:=v.nxt hq
 have hS:V.stp i={ V.thrS i (V.thrI i) with pick:=i }:=by unfold MV.stp;rw [if_pos h4]
 have hf:(V.stp i).frm=if rdI (V.thrI i)=true then (V.val i (V.thrI i)).2 else -1:=by rw [hS];rfl
 have hk:(V.stp i).kind=(evOf (V.thrI i) (V.l i) (V.val i (V.thrI i)).1).kind:=by rw [hS];rfl
 by_cases h:rdI (V.thrI i)=true
 ·exfalso
  have:=(rd_kind (l:=V.l i) (v:=(V.val i (V.thrI i)).1) q2 h).1
  rw [←hk] at this
  apply hr
  unfold rdS
  rcases this with h | h | h<;>rw [h]<;>rfl
 ·rw [hf,if_neg h]
section
variable {V:MV} {row:List Int} (r:Ran V row)
include r
theorem Ran.stayC {t:Nat} {a:Nat}:∀b,a<=b->b<=row.length->(∀i s,a<=i->i<b->(V.runs row).st[i]? = some s->s.pick≠(t:Int))->((V.runs row).st.take b).countP (evP t)=((V.runs row).st.take a).countP (evP t)
 | 0,h,_,_=>by rw [Nat.le_zero.1 h]
 | b+1,h,hb,hn=>by
  rcases Yw h with e | h'
  ·rw [e]
  ·have hq:(V.runs row).st[b]? = some ((V.runs row).st[b]'(by rw [r.len];exact hb)):=Ya _
   generalize (V.runs row).st[b]'(by rw [r.len];exact hb)=s at hq
   have hev:¬evP t s=true:=fun h=>by
    unfold evP at h
    rw [Yb,beq_iff_eq,bne_iff_ne] at h
    obtain ⟨_,_,a1,a2⟩:=r.thr hq h.2
    exact hn b s (by omega) (Ybd b) hq (by omega)
   rw [Zal hq,Yam,Yaa,if_neg hev,Ybs]
   exact Ran.stayC b (by omega) (by omega) fun i s ha hi=>hn i s ha (by omega)
theorem Ran.sameC {t a b:Nat} (ha:a<=row.length) (hb:b<=row.length) (h:∀i s,(V.runs row).st[i]? = some s->s.pick=(t:Int)->(i<a↔i<b)):((V.runs row).st.take a).countP (evP t)=((V.runs row).st.take b).countP (evP t):=by
 rcases Nat.le_total a b with c | c
 ·exact (r.stayC b c hb fun i s h1 h2 hs hp=>by have:=(h i s hs hp).2 h2;omega).symm
 ·exact r.stayC a c ha fun i s h1 h2 hs hp=>by have:=(h i s hs hp).1 h2;omega
end
section
variable {V W:MV} {row:List Int} (r:Ran V row) {D:List Nat} (p:Part V row D W)
include p r
theorem Part.valR {i t:Nat} {c:Int} (hi:i<=row.length) (hc:0<=c/\c<4) (h:frmR D (Zef (V.runs (row.take i)) t c).2 (Zef W t c).2):(Zef W t c).1=(Zef (V.runs (row.take i)) t c).1:=by
 have e:=r.stk hi
 rcases (r.told i hi).val (t:=t) hc with ⟨g,s,h1,h2,h3⟩ | ⟨h1,h2⟩
 ·rw [e] at h2
  rcases h with ⟨a,_⟩ | ⟨f,k,a,b,hk⟩
  ·omega
  ·have:f=g:=by omega
   subst this
   obtain ⟨s1,s',e1,e2,e3⟩:=p.st k f hk
   rw [(Zap.1 h2).2] at e1
   cases e1
   rcases p.told.val (t:=t) hc with ⟨g',x,g1,g2,g3⟩ | ⟨g1,_⟩
   ·have:g'=k:=by omega
    subst this
    rw [e2] at g2
    cases g2
    rw [←g3,←h3,e3.w]
   ·omega
 ·rcases h with ⟨_,b⟩ | ⟨f,k,a,_,_⟩
  ·rcases p.told.val (t:=t) hc with ⟨g',x,g1,_,_⟩ | ⟨_,g2⟩
   ·omega
   ·rw [←g2,←h2,p.P,(r.keep i).1]
  ·omega
variable {i:Nat} (hi:i<row.length) (hD:i ∉ D) (hcl:∀a,Zbx (V.runs row).st V.m a i=true->a∈D)
include hi hD hcl
theorem Part.thrS {t:Nat} (t4:t<4) (hm:(V.runs (row.take i)).may t=true) (hst:(V.runs row).st[i]? = some ((V.runs (row.take i)).stp t)) :
  W.may t=true/\SameS D ((V.runs (row.take i)).stp t) (W.stp t)/\(W.nx t).l t=((V.runs (row.take i)).nx t).l t:=by
 have T:=r.told i (Yq hi)
 have hk:=r.keep i
 obtain ⟨q,TS⟩:=T.inv.te t4 hm
 have ST:=T.inv.thr_step t4 hm
 have hrd:=p.read r hst hD hcl t4 TS.pick
 have hval:=fun c hc=>p.valR r (i:=i) (t:=t) (c:=c) (Yq hi) hc
 have hl:W.l t=(V.runs (row.take i)).l t:=by
  obtain ⟨c,c1,c2,c3,_⟩:=p.loc t t4
  rw [c3]
  exact r.same c1 (Yq hi) fun d x hx hp=>by rw [←c2 d x hx hp,p.thr r hst hD hcl TS.pick hx hp]
 generalize hS:V.runs (row.take i)=S at *
 obtain ⟨e1,e2,e3,e4⟩:=Zfv q (S.l t) (qv S t q) TS.k4
 have rdv:rdS (S.stp t)=true->(S.stp t).frm=(Zef S t (S.stp t).loc).2:=fun h=>by
  have:=(ST.read (by unfold rdS at h;simp at h;omega)).2
  rw [this]
  unfold Zef
  cases Zcj (S.stp t).loc (S.b t)<;>rfl
 have hfree:q.kind=3∨q.kind=4->BQ W t=[]:=fun hq=>by
  have hk3:(S.stp t).kind=3∨(S.stp t).kind=4∨(S.stp t).kind=5:=by
   rw [TS.kind]
   rcases hq with h | h
   ·exact .inl (e1.2 h)
   ·rcases e2.2 h with h | h
    ·exact .inr (.inl h)
    ·exact .inr (.inr h)
  unfold BQ
  rw [Ych]
  cases hb:W.b t with
  | nil=>rfl
  | cons e0 rest =>
   exfalso
   have he:e0∈W.b t:=by rw [hb];exact Ybb
   have hm1:W.m≠1:=fun h=>by rw [p.told.h.own h] at he;cases he
   obtain ⟨k,k1,x',hx',k2,k3,_,_,k6⟩:=p.told.h.ent t e0 he
   obtain ⟨d,x,a1,a2,a3,a4⟩:=p.of hx'
   obtain ⟨t',_,b1,b2⟩:=r.thr a3 (by rw [←a4.kind,k2];omega)
   have htt:x.pick=(t:Int):=by rw [b1,←b2,←a4.t,k3]
   have hdi:=(p.thr r hst hD hcl TS.pick a3 htt).1 a2
   obtain ⟨j,y,j1,j2,j3,j4,j5⟩:=r.free hst hk3 a3 hdi (by rw [←a4.kind,k2]) (by rw [←a4.t,k3,TS.t]) (by rw [←p.m];exact hm1)
   obtain ⟨_,g',g1,_,z,g3,_,g5,_⟩:=r.end.h3.fl j y j3 j4
   have:g'=d:=by omega
   subst this
   rw [a3] at g3
   cases g3
   have hjD:=hcl j (Zog j2 j3 hst j4 (by rw [←g5,←a4.t,k3,TS.t]) hk3)
   obtain ⟨k',y',d1,d2,d3⟩:=p.to hjD j3
   exact k6 k' y' d2 (by rw [d3.kind,j4]) (by rw [p.frm' d3 j5 a1,k1])
 have hv:rdI q=true->qv W t q=qv S t q:=fun hq=>by
  obtain ⟨a1,a2⟩:=rd_kind (l:=S.l t) (v:=qv S t q) TS.k4 hq
  have hloc:(S.stp t).loc=q.loc:=by rw [TS.loc,a2]
  have hr:rdS (S.stp t)=true:=by
   rw [←TS.kind] at a1
   unfold rdS
   rcases a1 with h | h | h<;>rw [h]<;>rfl
  rw [qv_val,qv_val,valQ_val,valQ_val,←hloc]
  exact hval _ ST.loc (hrd hr (rdv hr))
 obtain ⟨m1,T1,af⟩:=Zq717 TS (by rw [p.P,hk.1]) p.told.inv t4 hl hfree hv
 have ST1:=p.told.inv.thr_step t4 m1
 refine ⟨m1,⟨by rw [T1.pick,TS.pick],by rw [T1.t,TS.t],by rw [T1.kind,TS.kind],by rw [T1.loc,TS.loc],by rw [T1.r,TS.r],by rw [T1.w,TS.w],?_⟩,?_⟩
 ·by_cases hr:rdS (S.stp t)=true
  ·have hr1:rdS (W.stp t)=true:=by unfold rdS at hr ⊢;rw [T1.kind,←TS.kind];exact hr
   have h2:=(ST1.read (by unfold rdS at hr1;simp at hr1;omega)).2
   have h3:(W.stp t).frm=(Zef W t (S.stp t).loc).2:=by
    rw [h2,T1.loc,←TS.loc]
    unfold Zef
    cases Zcj (S.stp t).loc (W.b t)<;>rfl
   rw [h3,rdv hr]
   exact hrd hr (rdv hr)
  ·have hr1:rdS (W.stp t)≠true:=by unfold rdS at hr ⊢;rw [T1.kind,←TS.kind];exact hr
   rw [T.inv.noread t4 hm hr,p.told.inv.noread t4 m1 hr1]
   exact .inl ⟨by omega,rfl⟩
 ·rw [T1.l,TS.l,if_pos rfl,if_pos rfl,af]
theorem Part.fluS {f:Nat} (f4:¬f<4) (hm:(V.runs (row.take i)).may f=true) (hst:(V.runs row).st[i]? = some ((V.runs (row.take i)).stp f)) :
  W.may f=true/\SameS D ((V.runs (row.take i)).stp f) (W.stp f):=by
 have T:=r.told i (Yq hi)
 have hk:=r.keep i
 have est:=r.stk (Yq hi)
 obtain ⟨t,pp,e,F⟩:=T.inv.flu_step f4 hm
 obtain ⟨c,w,FS⟩:=T.inv.fe f4 hm
 generalize hS:V.runs (row.take i)=S at *
 have he:=Yab F.f
 obtain ⟨g,hg,q,hq,q1,q2,q3,q4,q5⟩:=T.h.ent t e he
 rw [est] at hq
 obtain ⟨hgi,hq⟩:=Zap.1 hq
 have hs6:(S.stp f).kind=6:=by rw [F.s]
 have hsf:(S.stp f).frm=(g:Int):=by rw [F.s];exact hg
 have hst':(S.stp f).t=(t:Int):=by rw [F.s]
 have hsl:(S.stp f).loc=e.loc:=by rw [F.s]
 have hce:c=e.loc:=by rw [←hsl,FS.loc]
 have htq:ftQ S.m f=t:=by have:=FS.t;omega
 have hmm:W.m=S.m:=by rw [p.m,hk.2]
 have hgD:=hcl g (Zug hgi hq hst hs6 hsf)
 obtain ⟨k,q',d1,d2,d3⟩:=p.to hgD hq
 have m1:V.m≠1:=by rw [←hk.2];have:=F.m;omega
 have hin:∃e1∈W.b t,e1.id=(k:Int):=by
  rcases p.told.h.sto k q' d2 (by unfold Zgz;rw [d3.kind,q1,p.m];simp;exact m1) with ⟨t',s1,e',s2,s3⟩ | ⟨j,u,s1,s2,s3,s4⟩
  ·have:t'=t:=by rw [d3.t,q2] at s1;omega
   subst this
   exact ⟨e',s2,s3⟩
  ·exfalso
   obtain ⟨d,x,a1,a2,a3,a4⟩:=p.of s2
   have:=r.end.h3.un d x i _ a3 hst (by rw [←a4.kind,s3]) hs6 (by rw [p.frm a4 s4 d1,hsf])
   exact hD (this ▸ a2)
 obtain ⟨e1,h1,h2⟩:=hin
 have entk:∀e2∈W.b t,e2.id=(k:Int)->e2.loc=e.loc/\e2.val=e.val:=fun e2 h1 h2=>by
  obtain ⟨k',hk',x,hx,_,_,x3,x4,_⟩:=p.told.h.ent t e2 h1
  have:k'=k:=by omega
  subst this
  rw [d2] at hx
  cases hx
  exact ⟨by rw [←x3,d3.loc,q3],by rw [←x4,d3.w,q4]⟩
 have hfp:∀x:Int × Int,x.1=e.loc->fpQ W.m f x=true:=fun x hx=>by
  have:=Yaz FS.find
  unfold fpQ at this ⊢
  rw [hmm,hx,←hce];exact this
 have hmay:W.may f=true:=(Zhp f4).2 ⟨by rw [hmm];exact FS.ok,by
  rw [hmm,htq,List.find?_isSome]
  refine ⟨pr e1,List.mem_map.2 ⟨e1,h1,rfl⟩,?_⟩
  rw [←hmm]
  exact hfp _ (entk e1 h1 h2).1⟩
 obtain ⟨t2,p2,e2,F2⟩:=p.told.inv.flu_step f4 hmay
 obtain ⟨c2,w2,FS2⟩:=p.told.inv.fe f4 hmay
 have ht2:t2=t:=by
  have a:=FS2.t
  have b:(W.stp f).t=(t2:Int):=by rw [F2.s]
  rw [hmm,htq] at a;omega
 subst ht2
 have hm2:=F2.m
 have hl2:W.m=3->e2.loc=e.loc:=fun h3=>by
  have a:=Yaz FS2.find
  have b:=Yaz FS.find
  have c3:c2=e2.loc:=by rw [←FS2.loc,F2.s]
  unfold fpQ at a b
  rw [h3] at a
  rw [←hmm,h3] at b
  have a':c2=(((f - 8) % 4:Nat):Int):=by simpa using a
  have b':c=(((f - 8) % 4:Nat):Int):=by simpa using b
  omega
 have he2:=Yab F2.f
 have hle:e2.id<=(k:Int):=by
  rw [←h2]
  refine Zoz (p.told.h.ids t2) F2.f h1 ?_
  rw [F2.pe]
  rcases hm2 with h | h
  ·rw [decide_eq_true h];rfl
  ·rw [hl2 h,(entk e1 h1 h2).1,beq_self_eq_true,Bool.or_true]
 have hid:e2.id=(k:Int):=by
  rcases Int.lt_or_eq_of_le hle with hlt | h
  ·exfalso
   obtain ⟨k',hk',x',hx',x1,x2,x3,_,x5⟩:=p.told.h.ent t2 e2 he2
   obtain ⟨d,x,a1,a2,a3,a4⟩:=p.of hx'
   obtain ⟨_,_,b1,b2⟩:=r.thr a3 (by rw [←a4.kind,x1];omega)
   obtain ⟨_,_,b3,b4⟩:=r.thr hq (by omega)
   have hpk:q.pick=x.pick:=by rw [b1,b3,←b2,←b4,q2,←a4.t,x2]
   rcases Yp d g with z | z | z
   ·obtain ⟨j,y,j1,j2,j3,j4⟩:=r.fifo hst hs6 hsf a3 z (by rw [←a4.kind,x1]) (by rw [←a4.t,x2,hst']) fun h3=>by rw [←a4.loc,x3,hsl];exact hl2 (by rw [p.m];exact h3)
    obtain ⟨_,g',g1,_,z',g3,_,g5,g6⟩:=r.end.h3.fl j y j2 j3
    have:g'=d:=by omega
    subst this
    rw [a3] at g3
    cases g3
    have hpk2:y.pick=(S.stp f).pick:=by
     obtain ⟨u1,_,u2,v1,_,u3,u4⟩:=r.flu j2 j3
     obtain ⟨u5,_,u6,v2,_,u7,u8⟩:=r.flu hst hs6
     have ha:u1=u5:=by rw [←g5,←a4.t,x2] at u2;omega
     rw [u4,u8,ha]
     by_cases h:V.m=2
     ·rw [if_pos h,if_pos h]
     ·have:=hl2 (by rw [p.m] at hm2 ⊢;omega)
      have:v1=v2:=by rw [←g6,←a4.loc,x3] at u3;rw [hsl] at u7;omega
      rw [this]
    have hjD:=hcl j (Zca j1 j2 hst hpk2)
    obtain ⟨k2,y',z1,z2,z3⟩:=p.to hjD j2
    exact x5 k2 y' z2 (by rw [z3.kind,j3]) (by rw [p.frm' z3 j4 a1,hk'])
   ·rw [z] at a1
    have:=p.nd k' k g a1 d1
    omega
   ·obtain ⟨k2,z1,z2⟩:=p.cl k' d a1 g (Zca z hq a3 hpk)
    have:=p.nd k2 k g z2 d1
    omega
  ·exact h
 obtain ⟨hl3,hv3⟩:=entk e2 he2 hid
 refine ⟨hmay,?_⟩
 rw [F.s,F2.s,hl3,hv3,hid,hg]
 exact ⟨rfl,rfl,rfl,rfl,rfl,rfl,.inr ⟨g,k,rfl,rfl,d1⟩⟩
omit hi in
theorem Part.ord {s:Stp} (hs:(V.runs row).st[i]? = some s) {t:Nat} (t4:t<4) (hp:s.pick=(t:Int)):W.st.countP (evP t)=((V.runs row).st.take i).countP (evP t):=by
 obtain ⟨c,c1,c2,_,c4⟩:=p.loc t t4
 have hil:=Zf hs
 rw [r.len] at hil
 rw [c4]
 exact r.sameC c1 (Yq hil) fun d x hx hxp=>by rw [←c2 d x hx hxp,p.thr r hs hD hcl hp hx hxp]
theorem Part.next:∃pk:Nat,row[i]? = some (pk:Int)/\W.may pk=true/\Part V row (D++[i]) (W.nx pk):=by
 obtain ⟨pk,h1,h2,h3,h4,h5⟩:=r.step hi
 have key:W.may pk=true/\SameS D ((V.runs (row.take i)).stp pk) (W.stp pk)/\∀t:Nat,t<4->(W.nx pk).l t=if t=pk then (V.runs (row.take (i+1))).l t else W.l t:=by
  by_cases p4:pk<4
  ·obtain ⟨a,b,c⟩:=p.thrS r hi hD hcl p4 h2 h4
   refine ⟨a,b,fun t _=>?_⟩
   by_cases ht:t=pk
   ·rw [if_pos ht,ht,h3,c]
   ·obtain ⟨q,T⟩:=p.told.inv.te p4 a
    rw [if_neg ht,T.l,if_neg ht]
  ·obtain ⟨a,b⟩:=p.fluS r hi hD hcl p4 h2 h4
   refine ⟨a,b,fun t ht=>?_⟩
   obtain ⟨_,_,F⟩:=p.told.inv.fe p4 a
   rw [if_neg (by omega),F.l]
 obtain ⟨k1,k2,k3⟩:=key
 refine ⟨pk,h1,k1,p.told.nx k1,by rw [(W.nx_P pk).1,p.P],by rw [(W.nx_P pk).2,p.m],by rw [W.nx_st,Ye,Ye,p.len];rfl,fun k d hk=>?_,fun k k' d hk hk'=>?_,fun k d hk a ha=>?_,fun t ht=>?_⟩
 ·rw [W.nx_st]
  rcases Zr hk with ⟨_,hd⟩ | ⟨hl,rfl⟩
  ·obtain ⟨s,s',e1,e2,e3⟩:=p.st k d hd
   exact ⟨s,s',e1,Zbb e2,e3.app⟩
  ·exact ⟨_,_,h4,by rw [hl,←p.len];exact getI_new,k2.app⟩
 ·rcases Zr hk with ⟨_,hd⟩ | ⟨hl,rfl⟩
  ·rcases Zr hk' with ⟨_,hd'⟩ | ⟨hl',rfl⟩
   ·exact p.nd k k' d hd hd'
   ·exact absurd (Yg hd) hD
  ·rcases Zr hk' with ⟨_,hd'⟩ | ⟨hl',_⟩
   ·exact absurd (Yg hd') hD
   ·omega
 ·rcases Zr hk with ⟨_,hd⟩ | ⟨hl,rfl⟩
  ·obtain ⟨k',a1,a2⟩:=p.cl k d hd a ha
   exact ⟨k',a1,Zbb a2⟩
  ·obtain ⟨k',hk'⟩:=Yn.1 (hcl a ha)
   exact ⟨k',by rw [hl];exact Zf hk',Zbb hk'⟩
 ·rw [k3 t ht]
  by_cases htp:t=pk
  ·rw [if_pos htp]
   obtain ⟨k6,kt⟩:=r.thr_pick h4 (t:=t) (by rw [h5,htp]) ht
   have hev:evP t ((V.runs (row.take i)).stp pk)=true:=by unfold evP;rw [kt,beq_self_eq_true,Ybm,bne_iff_ne];exact k6
   refine ⟨i+1,hi,fun d s hs hsp=>?_,rfl,?_⟩
   ·rw [Ybz,Yas,p.thr r h4 hD hcl (by rw [h5,htp]) hs hsp]
    omega
   ·have hev':evP t (W.stp pk)=true:=by unfold evP at hev ⊢;rw [k2.t,k2.kind];exact hev
    rw [W.nx_st,Yam,p.ord r hD hcl h4 ht (by rw [h5,htp]),Yaa,if_pos hev',Zal h4,Yam,Yaa,if_pos hev]
  ·rw [if_neg htp]
   obtain ⟨c,c1,c2,c3,c4⟩:=p.loc t ht
   refine ⟨c,c1,fun d s hs hsp=>?_,c3,?_⟩
   ·rw [Ybz,Yas,c2 d s hs hsp]
    refine ⟨fun h=>h.elim id fun e=>?_,.inl⟩
    subst e
    rw [h4] at hs
    cases hs
    omega
   ·have hev:¬evP t (W.stp pk)=true:=fun h=>by
     unfold evP at h
     rw [k2.t,k2.kind,Yb,beq_iff_eq,bne_iff_ne] at h
     obtain ⟨_,_,a1,a2⟩:=r.thr h4 h.2
     omega
    rw [W.nx_st,Yam,Yaa,if_neg hev,Ybs,c4]
end
theorem Part.nil {V:MV} {row:List Int} (r:Ran V row):Part V row [] V where
 told:=r.z
 P:=rfl
 m:=rfl
 len:=by rw [r.st0];rfl
 st:=fun k d h=>by cases h
 nd:=fun k k' d h=>by cases h
 cl:=fun k d h=>by cases h
 loc:=fun t _=>⟨0,Yct _,fun d s _ _=>by simp,rfl,by rw [r.st0];rfl⟩
theorem Ran.part {V:MV} {row:List Int} (r:Ran V row):∀(A D:List Nat) {W:MV},Part V row D W->(∀d∈A,d<row.length)->(∀d∈A,d ∉ D)->A.Nodup->(∀k d,A[k]? = some d->∀a,Zbx (V.runs row).st V.m a d=true->a∈D++A.take k) ->
  W.whole (A.map fun d=>row.getD d 0)/\Part V row (D++A) (W.runs (A.map fun d=>row.getD d 0))
 | [],D,W,p,_,_,_,_=>⟨rfl,by rw [Yi];exact p⟩
 | i :: A,D,W,p,hl,hD,hn,hc=>by
  obtain ⟨pk,h1,h2,h3⟩:=p.next r (hl i Ybb) (hD i Ybb) fun a ha=>by
   have:=hc 0 i rfl a ha
   rwa [Yda,Yi] at this
  rw [List.nodup_cons] at hn
  obtain ⟨e1,e2⟩:=Ran.part r A (D++[i]) h3 (fun d hd=>hl d (Ybg _ hd)) (fun d hd hm=>by
   rcases Ybz.1 hm with z | z
   ·exact hD d (Ybg _ hd) z
   ·rw [Yas] at z;exact hn.1 (z ▸ hd)) hn.2 fun k d hk a ha=>by
    have:=hc (k+1) d (by rw [List.getElem?_cons_succ];exact hk) a ha
    rwa [Yaw,Ycx] at this
  have hg:row.getD i 0=(pk:Int):=by rw [Yz,h1];rfl
  have hw:=MV.whole_one h2
  rw [List.map_cons,hg]
  have ha:(pk:Int) :: A.map (fun d=>row.getD d 0)=[(pk:Int)]++A.map (fun d=>row.getD d 0):=rfl
  rw [ha]
  refine ⟨(MV.whole_app hw.1).2 (by rw [hw.2];exact e1),?_⟩
  rw [MV.runs_app hw.1,hw.2,Ycx]
  exact e2
def Zje (l:List Stp):Nat->Nat
 | 0=>0
 | t+1=>Zje l t+l.countP (evP t)
def Zbp (n0:Nat) (l:List Stp) (i:Nat):Nat:=match l[i]? with
 | some s=>if s.kind=6 then 0 else n0+Zje l s.t.toNat+(l.take i).countP (evP s.t.toNat)
 | none=>0
def pw (n0:Nat) (l:List Stp) (i:Nat):Nat:=match l[i]? with
 | some s=>if s.kind=6 then Zbp n0 l s.frm.toNat else Zbp n0 l i
 | none=>0
def evX (t n:Nat) (s:Stp):Evt:=⟨t,n,s.kind,s.loc,s.r,s.w⟩
def Zeh (l:List Stp) (t:Nat):List Evt:=(l.filter (evP t)).mapIdx (evX t)
def Zdd (P:PProg) (l:List Stp):List Evt:=Zgk P.init++(Yk P.thr.length).flatMap (Zeh l)
def rfV (n0:Nat) (l:List Stp) (s:Stp):Int:=if 0<=s.frm then (Zbp n0 l s.frm.toNat:Int) else s.loc
structure RfOk (n0:Nat) (l:List Stp) (n:Nat) (rf:List Int):Prop where
 len:rf.length=n
 rd:∀(i:Nat) s,l[i]? = some s->rdS s=true->rf[Zbp n0 l i]? = some (rfV n0 l s)
 no:∀k,k<n->(∀(i:Nat) s,l[i]? = some s->rdS s=true->Zbp n0 l i≠k)->rf[k]? = some (-1)
def wrI (l:List Stp) (m:Int) (c:Nat):List Nat:=(Yk l.length).filter (wrE l m (c:Int))
def coL (n0:Nat) (l:List Stp) (m:Int) (c:Nat):List Int:=(c:Int) :: (wrI l m c).map fun i=>(pw n0 l i:Int)
def Zwc (P:PProg) (m:Int) (l:List Stp):List (List Int):=(Yk P.locs.length).map (coL P.init.length l m)
theorem Zxx {p:Stp->Bool} {l:List Stp} {i:Nat} {s:Stp} (hs:l[i]? = some s) (hp:p s=true):(l.filter p)[(l.take i).countP p]? = some s:=by
 have hi:=Zf hs
 have he:l=l.take i++s :: l.drop (i+1):=by
  rw [Ya hi] at hs
  cases hs
  rw [List.getElem_cons_drop,Ycc]
 conv=>lhs;arg 1;rw [he]
 rw [Yv,Yaq hp,Yav,Ybk (Yf _),Ybq];rfl
theorem Zyh {p:Stp->Bool}:∀{l:List Stp} {n:Nat},n<l.countP p->∃i s,l[i]? = some s/\p s=true/\(l.take i).countP p=n
 | [],n,h=>by cases h
 | a :: l,n,h=>by
  rw [Yap] at h
  by_cases hp:p a=true
  ·rw [if_pos hp] at h
   cases n with
   | zero=>exact ⟨0,a,rfl,hp,rfl⟩
   | succ n =>
    obtain ⟨i,s,h1,h2,h3⟩:=Zyh (p:=p) (l:=l) (n:=n) (by omega)
    exact ⟨i+1,s,h1,h2,by rw [Yaw,Yap,if_pos hp,h3]⟩
  ·rw [if_neg hp] at h
   obtain ⟨i,s,h1,h2,h3⟩:=Zyh (p:=p) (l:=l) (n:=n) (by omega)
   exact ⟨i+1,s,h1,h2,by rw [Yaw,Yap,if_neg hp,h3];rfl⟩
theorem Zxs {p:Stp->Bool} {l:List Stp} {i j:Nat} {s:Stp} (hs:l[i]? = some s) (hp:p s=true) (hij:i<j):(l.take i).countP p<(l.take j).countP p:=by
 have h1:(l.take (i+1)).countP p<=(l.take j).countP p:=List.Sublist.countP_le ((List.take_prefix_take_left (by omega)).sublist)
 rw [Zal hs,Yam,Yaa,if_pos hp] at h1
 omega
theorem Zny {p:Stp->Bool} {l:List Stp} {i:Nat} {s:Stp} (hs:l[i]? = some s) (hp:p s=true):(l.take i).countP p<l.countP p:=by
 have:=Zxs hs hp (Zf hs)
 rwa [Yah] at this
theorem Ziv (l:List Stp) {t:Nat}:∀{u:Nat},t<u->Zje l t+l.countP (evP t)<=Zje l u
 | 0,h=>by omega
 | u+1,h=>by
  rcases Yw (show t<=u by omega) with e | h'
  ·rw [e];exact Yf _
  ·have:=Ziv l h'
   show _<=Zje l u+_
   omega
theorem evsT_len (l:List Stp) (t:Nat):(Zeh l t).length=l.countP (evP t):=by
 unfold Zeh;rw [List.length_mapIdx,Yav]
theorem Zwe {l:List Stp} {t i:Nat} {s:Stp} (hs:l[i]? = some s) (hp:evP t s=true):(Zeh l t)[(l.take i).countP (evP t)]? = some (evX t ((l.take i).countP (evP t)) s):=by
 unfold Zeh;rw [Ycf,Zxx hs hp];rfl
theorem evsT_t {l:List Stp} {t:Nat} {e:Evt} (h:e∈Zeh l t):e.t=(t:Int):=by
 obtain ⟨k,hk⟩:=Yn.1 h
 unfold Zeh at hk
 rw [Ycf] at hk
 cases hx:(l.filter (evP t))[k]? with
 | none=>rw [hx] at hk;cases hk
 | some s=>rw [hx] at hk;cases hk;rfl
theorem flat_len2 (l:List Stp):∀n,((Yk n).flatMap (Zeh l)).length=Zje l n
 | 0=>rfl
 | n+1=>by
  rw [Yac,Yax,Ye,flat_len2 l n,Yat,evsT_len];rfl
theorem Ztj (P:PProg) (l:List Stp):(Zdd P l).length=P.init.length+Zje l P.thr.length:=by
 unfold Zdd
 rw [Ye,flat_len2]
 unfold Zgk
 rw [Yae,Yx]
theorem flat_t {l:List Stp}:∀{n:Nat} {e:Evt},e∈(Yk n).flatMap (Zeh l)->e.t<(n:Int):=fun {n e} h=>by
 obtain ⟨t,ht,he⟩:=List.mem_flatMap.1 h
 rw [evsT_t he]
 have:=Ycd.1 ht
 omega
theorem Zuc {a b:List Stp}:∀n,(Yk n).flatMap (Zeh a)=(Yk n).flatMap (Zeh b)->∀t,t<n->Zeh a t=Zeh b t
 | 0,_,t,ht=>by omega
 | n+1,h,t,ht=>by
  rw [Yac,Yax,Yax,Yat,Yat] at h
  have hf:∀l:List Stp,((Yk n).flatMap (Zeh l)++Zeh l n).filter (fun e=>e.t==(n:Int))=Zeh l n:=fun l=>by
   rw [Yv,Yca.2 fun e he=>by
    have:=flat_t he
    rw [beq_iff_eq];omega,Ybh,List.filter_eq_self.2 fun e he=>by rw [evsT_t he,beq_self_eq_true]]
  have hn:Zeh a n=Zeh b n:=by rw [←hf a,h,hf b]
  rcases Yw (show t<=n by omega) with e | h'
  ·rw [e];exact hn
  ·rw [hn] at h
   exact Zuc n (List.append_cancel_right h) t h'
theorem Zre {P:PProg} {a b:List Stp} (h:Zdd P a=Zdd P b) {t:Nat} (ht:t<P.thr.length):Zeh a t=Zeh b t :=
 Zuc _ (List.append_cancel_left h) t ht
theorem Zyu {P:PProg} {a b:List Stp} (h:Zdd P a=Zdd P b) {t:Nat} (ht:t<P.thr.length):a.countP (evP t)=b.countP (evP t):=by
 rw [←evsT_len,←evsT_len,Zre h ht]
theorem Zqr {P:PProg} {a b:List Stp} (h:Zdd P a=Zdd P b):∀t,t<=P.thr.length->Zje a t=Zje b t
 | 0,_=>rfl
 | t+1,ht=>by
  show Zje a t+_=Zje b t+_
  rw [Zqr h t (by omega),Zyu h ht]
theorem Zev {t:Nat} {s:Stp} (h:s.t=(t:Int)) (hk:s.kind≠6):evP t s=true:=by
 unfold evP;rw [h,beq_self_eq_true,Ybm,bne_iff_ne];exact hk
theorem Zhf {n0:Nat} {l:List Stp} {i t:Nat} {s:Stp} (hs:l[i]? = some s) (ht:s.t=(t:Int)) (hk:s.kind≠6):Zbp n0 l i=n0+Zje l t+(l.take i).countP (evP t):=by
 unfold Zbp
 rw [hs]
 dsimp only
 rw [if_neg hk,ht,Yc]
theorem Ztz {n0:Nat} {l:List Stp} {i j t u:Nat} {s x:Stp} (hs:l[i]? = some s) (ht:s.t=(t:Int)) (hk:s.kind≠6) (hx:l[j]? = some x) (hu:x.t=(u:Int)) (hkx:x.kind≠6) (h:Zbp n0 l i=Zbp n0 l j):i=j:=by
 rw [Zhf hs ht hk,Zhf hx hu hkx] at h
 have h1:=Zny hs (Zev ht hk)
 have h2:=Zny hx (Zev hu hkx)
 rcases Yp t u with c | c | c
 ·have:=Ziv l c;omega
 ·subst c
  rcases Yp i j with d | d | d
  ·have:=Zxs hs (Zev ht hk) d;omega
  ·exact d
  ·have:=Zxs hx (Zev hu hkx) d;omega
 ·have:=Ziv l c;omega
theorem Zmk {P:PProg} {a b:List Stp} (h:Zdd P a=Zdd P b) {i j t:Nat} {s x:Stp} (hs:a[i]? = some s) (ht:s.t=(t:Int)) (hk:s.kind≠6) (hx:b[j]? = some x) (hu:x.t=(t:Int)) (hkx:x.kind≠6) (hn:t<P.thr.length)
  (ho:(a.take i).countP (evP t)=(b.take j).countP (evP t)):Zbp P.init.length a i=Zbp P.init.length b j/\x.kind=s.kind/\x.loc=s.loc/\x.r=s.r/\x.w=s.w:=by
 have e1:=Zwe hs (Zev ht hk)
 have e2:=Zwe hx (Zev hu hkx)
 rw [Zre h hn,ho,e2] at e1
 have e3:=Yl.inj e1
 unfold evX at e3
 simp only [Evt.mk.injEq] at e3
 rw [Zhf hs ht hk,Zhf hx hu hkx,ho,Zqr h t (by omega)]
 exact ⟨rfl,e3.2.2.1,e3.2.2.2.1,e3.2.2.2.2.1,e3.2.2.2.2.2⟩
theorem Znv {l:List Stp} {m:Int} {c i:Nat}:i∈wrI l m c↔∃s,l[i]? = some s/\Zcg m s (c:Int):=by
 unfold wrI
 rw [List.mem_filter,Ycd]
 unfold wrE Zcg
 constructor
 ·rintro ⟨h1,h2⟩
  rw [Ya h1] at h2 ⊢
  dsimp only at h2
  rw [Yb,beq_iff_eq] at h2
  exact ⟨_,rfl,h2⟩
 ·rintro ⟨s,h1,h2⟩
  refine ⟨Zf h1,?_⟩
  rw [h1]
  dsimp only
  rw [Yb,beq_iff_eq]
  exact h2
theorem Zso {l:List Nat} (h:l.Pairwise (·<·)) {p q x y:Nat} (hp:l[p]? = some x) (hq:l[q]? = some y) (hpq:p<q):x<y:=by
 have:=List.pairwise_iff_getElem.1 h p q (Zf hp) (Zf hq) hpq
 rw [Ya (Zf hp)] at hp
 rw [Ya (Zf hq)] at hq
 rw [←Yl.inj hp,←Yl.inj hq];exact this
theorem wrI_lt (l:List Stp) (m:Int) (c:Nat):(wrI l m c).Pairwise (·<·):=List.pairwise_lt_range.filter _
theorem co_order {n0:Nat} {m:Int} {a b:List Stp} {c:Nat} (h:coL n0 a m c=coL n0 b m c) {x y:Nat} {sx sy:Stp} (hx:a[x]? = some sx) (wx:Zcg m sx (c:Int)) (hy:a[y]? = some sy) (wy:Zcg m sy (c:Int)) (hxy:x<y) :
  ∃x' y':Nat,∃sx' sy',x'<y'/\b[x']? = some sx'/\Zcg m sx' (c:Int)/\b[y']? = some sy'/\Zcg m sy' (c:Int)/\pw n0 b x'=pw n0 a x/\pw n0 b y'=pw n0 a y:=by
 unfold coL at h
 have h:=(Yde.inj h).2
 obtain ⟨p,hp⟩:=Yn.1 (Znv.2 ⟨sx,hx,wx⟩)
 obtain ⟨q,hq⟩:=Yn.1 (Znv.2 ⟨sy,hy,wy⟩)
 have sa:=wrI_lt a m c
 have sb:=wrI_lt b m c
 have hpq:p<q:=by
  rcases Yp p q with z | z | z
  ·exact z
  ·subst z;rw [hp] at hq;cases hq;omega
  ·have:=Zso sa hq hp z;omega
 have ep:=congrArg (fun l=>l[p]?) h
 have eq:=congrArg (fun l=>l[q]?) h
 simp only [Ybn,hp,hq,Ycz] at ep eq
 cases hp':(wrI b m c)[p]? with
 | none=>rw [hp'] at ep;cases ep
 | some x' =>
  cases hq':(wrI b m c)[q]? with
  | none=>rw [hq'] at eq;cases eq
  | some y' =>
   rw [hp'] at ep
   rw [hq'] at eq
   have ep:=Yl.inj ep
   have eq:=Yl.inj eq
   obtain ⟨sx',e1,e2⟩:=Znv.1 (Yg hp')
   obtain ⟨sy',e3,e4⟩:=Znv.1 (Yg hq')
   exact ⟨_,_,sx',sy',Zso sb hp' hq' hpq,e1,e2,e3,e4,Ycm.inj ep.symm,Ycm.inj eq.symm⟩
theorem rep_int (n:Nat) (v:Int):rep n [Cell.int .i64 v]=intC .i64 (Yd n v):=by
 induction n with
 | zero=>rfl
 | succ n ih=>rw [Zuz,ih,Ycg];rfl
section
variable {E:Env}
theorem Mul_R (hE:q369_In E) {n:Nat} (hn:n<=100000) (h:Za):R E 369 [.c (.int .u64 1),.c (.int .u64 (n:Int))] h=some ([.c (.int .u64 0),.c (.int .u64 (n:Int))],h):=by
 have c1':((1:Nat):Int)=1:=rfl
 have cm:((4294967295:Nat):Int)=4294967295:=rfl
 have b1:E.glob.band .u64 1 4294967295=1:=by
  have:=Zlt (E:=E) (x:=1) (y:=4294967295) (by omega) (by omega)
  rw [c1',cm] at this;rw [this];rfl
 have b0:E.glob.band .u64 0 4294967295=0:=by
  have:=Zlt (E:=E) (x:=0) (y:=4294967295) (by omega) (by omega)
  rw [show ((0:Nat):Int)=0 from rfl,cm] at this;rw [this];rfl
 have bn:E.glob.band .u64 (n:Int) 4294967295=(n:Int):=by
  have:=Zlt (E:=E) (x:=n) (y:=4294967295) (by omega) (by omega)
  rw [cm] at this
  rw [this,show 4294967295=2 ^ 32 - 1 from rfl,Nat.and_two_pow_sub_one_eq_mod,Nat.mod_eq_of_lt (by omega)]
 have c32:((32:Nat):Int)=32:=rfl
 have s1:E.glob.shr .u64 1 32=0:=by
  have:=Zyw (E:=E) (x:=1) (i:=32) (by omega)
  rw [c1',c32] at this;rw [this];rfl
 have s0:E.glob.shr .u64 0 32=0:=by
  have:=Zyw (E:=E) (x:=0) (i:=32) (by omega)
  rw [show ((0:Nat):Int)=0 from rfl,c32] at this;rw [this];rfl
 have sn:E.glob.shr .u64 (n:Int) 32=0:=by
  have:=Zyw (E:=E) (x:=n) (i:=32) (by omega)
  rw [c32] at this
  rw [this,Nat.shiftRight_eq_div_pow,Nat.div_eq_of_lt (by omega)];rfl
 have w0:E.glob.wrap .u64 0=0:=Zfw (by omega) (by omega)
 have wn:E.glob.wrap .u64 (n:Int)=(n:Int):=Zfw (by omega) (by omega)
 have h64:R E 392 [.c (.int .u64 1),.c (.int .u64 (n:Int))] h=some ([.c (.int .u64 0),.c (.int .u64 (n:Int))],h):=by
  refine Zd hE.c392.fn ?_
  rw [q392_eq]
  simp only [b1,bn,s1,sn,Int.one_mul,Int.zero_mul,Int.mul_zero,wn,w0,s0,b0,Int.zero_add,Int.add_zero]
 refine Zd hE.fn ?_
 rw [q369_eq,h64,c2_ok,asI_ok,asI_ok]
theorem Repeat_R (hE:q340_In E) {m:Nat} {x:Cell} {v:Int} {n:Nat} (hn:n<=100000) {h:Za} (hx:Own m h x 1 (intC .i64 [v]) 1) :
  ∃z h',R E 340 [.c x,.c (.int .i64 (n:Int))] h=some ([.c z],h')/\Own h.length h' z 1 (intC .i64 (Yd n v)) n/\Kp h.length h h':=by
 have hM:maxBytes>=100000*8:=by unfold maxBytes;omega
 have blkJ:∀j,blk? (h++[some ⟨true,1,intC .i64 (Yd j v++Yd (n - j) 0)⟩]) h.length=some ⟨true,1,intC .i64 (Yd j v++Yd (n - j) 0)⟩:=fun j=>Zw _ _
 have lenJ:∀j,j<=n->(intC .i64 (Yd j v++Yd (n - j) 0)).length=n:=fun j hj=>by
  rw [intC_len,Ye,Yj,Yj];omega
 have more:∀j c,j+c<=n->splice (intC .i64 (Yd j v++Yd (n - j) 0)) j (intC .i64 (Yd c v))=intC .i64 (Yd (j+c) v++Yd (n - (j+c)) 0):=fun j c hc=>by
  unfold splice intC
  rw [Yan,Yaf (by simp),Yaj (by simp),List.drop_append,Ys (by simp),Ybh,Yan]
  simp only [Ybj,Yj,List.drop_replicate]
  rw [List.replicate_append_replicate,show n - j - (j+c - j)=n - (j+c) by omega]
 have sc:∀(t:Za) (b:Blk) ,Zaq (h++[some b]) 1 x=some (intC .i64 [v]):=fun _ b=>(hx.via fun j b' _ q=>Zas q _:Own m (h++[some b]) x 1 (intC .i64 [v]) 1).at.cellsG
 have loop:∀(k j:Nat),j+k=n->(1<=j∨n=0)->Zq (q340_F1 (R E) Zq E.glob) (q340_s1 (.sl h.length n 0 n) (j:Int) (h++[some ⟨true,1,intC .i64 (Yd j v++Yd (n - j) 0)⟩]))=some (.exit 0,q340_x1_1 (.sl h.length n 0 n) (h++[some ⟨true,1,intC .i64 (Yd n v)⟩])):=by
  intro k
  induction k using Nat.strongRecOn with
  | ind k ih =>
   intro j hj h1
   by_cases hk:k=0
   ·have:j=n:=by omega
    subst this
    rw [Ybq,Yci,Yi]
    exact Zm (by rw [q340_r1,lenK_sl,if_neg (by simp)])
   ·have hjn:j<n:=by omega
    obtain ⟨c,hc⟩:∃c,c=min j (n - j):=⟨_,rfl⟩
    have hok:Zho (h++[some ⟨true,1,intC .i64 (Yd j v++Yd (n - j) 0)⟩]) 1 h.length n=true:=by
     unfold Zho;rw [blkJ];simp
    have h2:=ih (k - c) (by omega) (j+c) (by omega) (by omega)
    refine Zat ?_ h2
    rw [q340_r1,lenK_sl,if_pos (by simp;omega)]
    unfold Zcm
    simp only
    rw [if_pos hok]
    unfold Zay
    simp only
    rw [if_pos ⟨by omega,by omega⟩,if_pos hok,if_pos ⟨by omega,by omega⟩]
    unfold Zgf Zaq
    simp only [Yc,Yal,Nat.mul_one,Nat.sub_zero,Nat.zero_mul]
    rw [if_neg (by omega),blkJ]
    simp only
    rw [if_pos ⟨lenJ j (by omega),by omega⟩,Ybe,Ybe,if_pos ⟨by rfl,lenJ j (by omega),by omega⟩]
    have htk:((intC .i64 (Yd j v++Yd (n - j) 0)).drop 0).take j=intC .i64 (Yd j v):=by
     rw [Ybi]
     unfold intC
     rw [Yan,Yaf (by simp),Yaj (by simp)]
    rw [htk,intC_len,Yj,Nat.div_one,←hc]
    have htk2:(intC .i64 (Yd j v)).take c=intC .i64 (Yd c v):=by
     unfold intC
     rw [Ybj,Ybj,List.take_replicate,Yby (by omega)]
    rw [htk2,more j c (by omega),setBlk_last,show E.glob.wrap .i64 ((j:Int)+(c:Int))=((j+c:Nat):Int) by rw [Zj (by omega) (by omega)];omega]
 refine ⟨.sl h.length n 0 n,h++[some ⟨true,1,intC .i64 (Yd n v)⟩],Zd hE.fn ?_,⟨by rw [intC_len,Yj];omega,.inr ⟨h.length,by rw [intC_len,Yj],Yf _,Zw _ _⟩⟩,Kp.app _ (Yf _)⟩
 have wn:E.glob.wrap .u64 (n:Int)=(n:Int):=Zfw (by omega) (by omega)
 have wi:E.glob.wrap .i64 (n:Int)=(n:Int):=Zj (by omega) (by omega)
 rw [q340_eq,if_neg (by simp),bind_ok]
 dsimp only
 have w1:E.glob.wrap .u64 ((1:Nat):Int)=1:=Zfw (by omega) (by omega)
 rw [q340_ec1_n,hx.at.len,w1,wn,Mul_R hE.c369 hn,c2_ok,asI_ok,asI_ok,scK_or,if_neg (by simp;omega),wi,if_pos ⟨by omega,Ycs _,by rw [Yc];omega,by omega⟩,Yc,rep_int,intC_len,Yj]
 unfold Zgf
 rw [sc [] _,Ybe]
 simp only
 rw [Zw,Ybe]
 simp only
 rw [if_pos ⟨by trivial,by rw [intC_len,Yj],by omega⟩]
 have e1:(intC .i64 [v]).length / 1=1:=Nat.div_one _
 rw [e1,Nat.mul_one,setBlk_last]
 obtain ⟨c,hc⟩:∃c,c=min 1 n:=⟨_,rfl⟩
 rw [←hc]
 have e2:(intC .i64 [v]).take c=intC .i64 (Yd c v):=by
  rcases (show c=0∨c=1 by omega) with e | e<;>rw [e]<;>rfl
 have e3:=more 0 c (by omega)
 rw [Yci,Ybh,Nat.sub_zero,Yal] at e3
 rw [e2,e3,loop (n - c) c (by omega) (by omega),bind_ok]
 dsimp only
 rw [q340_e1_1]
end
def plF (n0:Nat) (l:List Stp) (t i:Nat):List Int:=(Yk l.length).map fun (j:Nat)=>match l[j]? with
 | some s=>if s.kind≠6/\(s.t<(t:Int)∨(s.t=(t:Int)/\j<i)) then (Zbp n0 l j:Int) else 0
 | none=>0
theorem Ziq (n0:Nat) (l:List Stp) (t i:Nat):(plF n0 l t i).length=l.length:=by unfold plF;rw [Yae,Yx]
theorem Zfc {n0:Nat} {l:List Stp} {t i j:Nat} {s:Stp} (h:l[j]? = some s):(plF n0 l t i)[j]? = some (if s.kind≠6/\(s.t<(t:Int)∨(s.t=(t:Int)/\j<i)) then (Zbp n0 l j:Int) else 0):=by
 unfold plF
 rw [Ybn,Ycj (Zf h),Ycz,h]
theorem Znz {n0:Nat} {l:List Stp} {t i:Nat} {a:List Int} (ha:a.length=l.length) (h:∀(j:Nat) (s:Stp),l[j]? = some s->a[j]? = (plF n0 l t i)[j]?):a=plF n0 l t i:=by
 refine Ybo fun j=>?_
 rcases Yad j l.length with c | c
 ·exact h j _ (Ya c)
 ·rw [Yu (by omega),Yu (by rw [Ziq];exact c)]
theorem plF_no {n0:Nat} {l:List Stp} {t i:Nat} {s:Stp} (h:l[i]? = some s) (hp:¬evP t s=true):plF n0 l t i=plF n0 l t (i+1):=by
 refine Znz (Ziq _ _ _ _) fun j x hx=>?_
 rw [Zfc hx,Zfc hx]
 by_cases hj:j=i
 ·subst hj
  rw [h] at hx
  cases hx
  unfold evP at hp
  rw [Yb,beq_iff_eq,bne_iff_ne] at hp
  by_cases h1:s.kind≠6/\s.t<(t:Int)
  ·rw [if_pos ⟨h1.1,.inl h1.2⟩,if_pos ⟨h1.1,.inl h1.2⟩]
  ·rw [if_neg fun q=>?_,if_neg fun q=>?_]
   ·rcases q.2 with c | c
    ·exact h1 ⟨q.1,c⟩
    ·exact hp ⟨c.1,q.1⟩
   ·rcases q.2 with c | c
    ·exact h1 ⟨q.1,c⟩
    ·exact hp ⟨c.1,q.1⟩
 ·congr 2
  have:(j<i)=(j<i+1):=propext ⟨fun _=>by omega,fun _=>by omega⟩
  rw [this]
theorem plF_set {n0:Nat} {l:List Stp} {t i:Nat} {s:Stp} (h:l[i]? = some s) (hp:evP t s=true):(plF n0 l t i).set i (Zbp n0 l i:Int)=plF n0 l t (i+1):=by
 refine Znz (by rw [Yo,Ziq]) fun j x hx=>?_
 have hi:=Zf h
 by_cases hj:j=i
 ·subst hj
  rw [h] at hx
  cases hx
  unfold evP at hp
  rw [Yb,beq_iff_eq,bne_iff_ne] at hp
  rw [Yt (by rw [Ziq];exact hi),Zfc h,if_pos ⟨hp.2,.inr ⟨hp.1,by omega⟩⟩]
 ·rw [Yr (fun e=>hj e.symm),Zfc hx,Zfc hx]
  congr 2
  have:(j<i)=(j<i+1):=propext ⟨fun _=>by omega,fun _=>by omega⟩
  rw [this]
theorem plF_next (n0:Nat) (l:List Stp) (t:Nat):plF n0 l t l.length=plF n0 l (t+1) 0:=by
 refine Znz (Ziq _ _ _ _) fun j x hx=>?_
 have hj:=Zf hx
 rw [Zfc hx,Zfc hx]
 by_cases h:x.kind≠6/\(x.t<(t:Int)∨(x.t=(t:Int)/\j<l.length))
 ·rw [if_pos h,if_pos ⟨h.1,by omega⟩]
 ·rw [if_neg h,if_neg fun q=>h ⟨q.1,by omega⟩]
theorem plF_zero {n0:Nat} {l:List Stp} (h:∀(j:Nat) s,l[j]? = some s->0<=s.t):Yd l.length (0:Int)=plF n0 l 0 0:=by
 refine Znz (Yj) fun j x hx=>?_
 have:=h j x hx
 rw [Zfc hx,Ybv,if_pos (Zf hx),if_neg fun q=>by omega]
theorem plF_all {n0:Nat} {l:List Stp} {n:Nat} (h:∀(j:Nat) s,l[j]? = some s->s.kind≠6->s.t<(n:Int)) {j:Nat} {s:Stp} (hs:l[j]? = some s):(plF n0 l n 0)[j]? = some (Zbp n0 l j:Int):=by
 rw [Zfc hs]
 by_cases hk:s.kind=6
 ·rw [if_neg fun q=>q.1 hk]
  unfold Zbp
  rw [hs]
  dsimp only
  rw [if_pos hk];rfl
 ·rw [if_pos ⟨hk,.inl (h j s hs hk)⟩]
def evF (P:PProg) (l:List Stp) (t i:Nat):List Evt:=Zgk P.init++((Yk t).flatMap (Zeh l)++Zeh (l.take i) t)
theorem Zqx {l:List Stp} {t i:Nat} {s:Stp} (h:l[i]? = some s):Zeh (l.take (i+1)) t=Zeh (l.take i) t++if evP t s=true then [evX t ((l.take i).countP (evP t)) s] else []:=by
 unfold Zeh
 rw [Zal h,Yv]
 by_cases hp:evP t s=true
 ·rw [if_pos hp,Yaq hp,Ybw,List.mapIdx_append,Yav]
  show _++[evX t (0+_) s]=_
  rw [Yal]
 ·rw [if_neg hp,Ybc hp,Ybw,Yi,Yi]
theorem evF_len (P:PProg) (l:List Stp) (t i:Nat):(evF P l t i).length=P.init.length+Zje l t+(l.take i).countP (evP t):=by
 unfold evF
 rw [Ye,Ye,flat_len2,evsT_len,Zka];omega
theorem evF_next (P:PProg) (l:List Stp) (t:Nat):evF P l t l.length=evF P l (t+1) 0:=by
 unfold evF
 rw [Yah,Yac,Yax,Yat,show Zeh (l.take 0) (t+1)=[] from rfl,Yi]
theorem evF_all (P:PProg) (l:List Stp):evF P l P.thr.length 0=Zdd P l:=by
 unfold evF Zdd
 rw [show Zeh (l.take 0) P.thr.length=[] from rfl,Yi]
theorem offs_le (l:List Stp):∀t,Zje l t<=l.length
 | 0=>Yct _
 | t+1=>by
  have key:∀(l:List Stp) (t:Nat),Zje l t<=l.countP (fun s=>decide (0<=s.t/\s.t<(t:Int))):=fun l t=>by
   induction t with
   | zero=>exact Yct _
   | succ t ih =>
    show Zje l t+l.countP (evP t)<=_
    refine Yak (Nat.add_le_add_right ih _) ?_
    clear ih
    induction l with
    | nil=>exact Yf _
    | cons a l ih =>
     rw [Yap,Yap,Yap]
     have:(if decide (0<=a.t/\a.t<(t:Int))=true then 1 else 0)+(if evP t a=true then 1 else 0)<=(if decide (0<=a.t/\a.t<((t+1:Nat):Int))=true then 1 else 0):=by
      have hp:evP t a=true->a.t=(t:Int):=fun h=>by
       unfold evP at h
       rw [Yb,beq_iff_eq] at h
       exact h.1
      simp only [decide_eq_true_eq]
      by_cases he:evP t a=true
      ·have:=hp he
       rw [if_pos he,if_neg (by omega),if_pos (by omega)];omega
      ·rw [if_neg he]
       split<;>split<;>omega
     omega
  exact Yak (key l (t+1)) (Yce)
section
variable {E:Env}
theorem ev_of6 {a b c d e f:Int}:splice (splice (splice (splice (splice (splice [ci0,ci0,ci0,ci0,ci0,ci0] 0 [(.int .i64 a)]) 1 [(.int .i64 b)]) 2 [(.int .i64 c)]) 3 [(.int .i64 d)]) 4 [(.int .i64 e)]) 5 [(.int .i64 f)]=(Evt.mk a b c d e f).cs:=rfl
set_option maxHeartbeats 1000000 in
theorem Of_thr {n0':Nat} {h0 h:Za} {P:PProg} {l:List Stp} (hl:l.length<=1000) (hi:P.init.length<=1000) {x2 x8 e b c:Cell} (hx:SlAt h0 x2 7 (Zai l) l.length) (hlow:Low h0.length x2) (hn:h0.length<=n0') (hnh:n0'<=h.length) (a1 a24:Int) (t:Nat) (ht:t<1000) (s0 s1:List Cell) (k0:Kp n0' h0 h)
  (oe:Own n0' h e 6 (Zif (evF P l t 0)) (evF P l t 0).length) (op:Own n0' h x8 1 (intC .i64 (plF P.init.length l t 0)) l.length) :
  ∃e' h',Zq (q315_F1 (R E) Zq E.glob) (q315_s1 a1 x2 x8 (t:Int) 0 a24 (t:Int) x2 (l.length:Int) 0 s0 s1 [e,b,c] h)=some (.exit 2,q315_x1_3 a1 x2 x8 a24 (t:Int) s0 s1 [e',b,c] h') /\
   Own n0' h' e' 6 (Zif (evF P l (t+1) 0)) (evF P l (t+1) 0).length/\Own n0' h' x8 1 (intC .i64 (plF P.init.length l (t+1) 0)) l.length/\Kp n0' h h':=by
 have hM:maxBytes>=10000*48:=by unfold maxBytes;omega
 obtain ⟨st,⟨e',h',rfl,oe',op',kk⟩,hL⟩:=Zcb (F:=q315_F1 (R E) Zq E.glob)
  (fun i st=>∃e' h',st=q315_s1 a1 x2 x8 (t:Int) (((l.take i).countP (evP t):Nat):Int) a24 (t:Int) x2 (l.length:Int) (i:Int) s0 s1 [e',b,c] h'/\Own n0' h' e' 6 (Zif (evF P l t i)) (evF P l t i).length/\Own n0' h' x8 1 (intC .i64 (plF P.init.length l t i)) l.length/\Kp n0' h h') 0 l.length (by omega)
  (fun i st _ hi'=>by
   rintro ⟨e',h',rfl,oe,op,kk⟩
   have hq:l[i]? = some l[i]:=Ya hi'
   generalize l[i]=s at hq
   obtain ⟨off,cc,g1,g2,g3⟩:=(hx.keep hlow ((k0.trans kk).mono hn)).stepG hq
   have hc:(s.t==(t:Int)&&s.kind != 6)=evP t s:=rfl
   have hcnt:(l.take (i+1)).countP (evP t)=(l.take i).countP (evP t)+if evP t s=true then 1 else 0:=by rw [Zal hq,Yam,Yaa]
   have hcl:(l.take i).countP (evP t)<=l.length:=Yak (Yce) (by rw [Yao];omega)
   have hof:=offs_le l t
   have hel:=evF_len P l t i
   by_cases hp:evP t s=true
   ·obtain ⟨k,nk,kl,hbk,e1,o1⟩:=op.setG1 hi' (.int .i64 (((evF P l t i).length:Nat):Int))
    have hne:¬Zv e' k:=fun q=>by
     have h1:=oe.has q
     rw [op.has hbk] at h1
     have:=(Blk.mk.inj (Yl.inj h1)).2.1
     omega
    have oe1:=oe.setO hne (some ⟨true,1,(intC .i64 (plF P.init.length l t i)).set i (.int .i64 (((evF P l t i).length:Nat):Int))⟩)
    have hnl:n0'<=(setBlk h' k (some ⟨true,1,(intC .i64 (plF P.init.length l t i)).set i (.int .i64 (((evF P l t i).length:Nat):Int))⟩)).length:=by rw [Zbw];exact Yak hnh kk.1
    obtain ⟨e2,h2,ea,oe2,k2,f2⟩:=oe1.app (bytes:=48) (xs:=(evX t ((l.take i).countP (evP t)) s).cs) hnl rfl (by omega) (by omega) (by omega)
    have ob:=o1.via (h':=h2) fun j b hj q=>(f2 j b q fun q2=>by
     have h1:=oe1.has q2
     rw [o1.has hj] at h1
     have:=(Blk.mk.inj (Yl.inj h1)).2.1
     omega).1
    refine ⟨_,?_,e2,h2,rfl,?_,?_,kk.trans ((Kp.set nk _).trans k2)⟩
    ·rw [q315_r1,if_pos (by simp;omega),g1,if_pos g2,g3,if_pos ⟨by trivial,by rfl,by rfl⟩,stp_t,asI_ok,stp_kind,asI_ok,scK_and,hc,if_pos hp,Zae (show ([e',b,c]:List Cell)[0]? = some e' from rfl),oe.at.len,e1,Zae (show ([e',b,c]:List Cell)[0]? = some e' from rfl),stp_kind,asI_ok,stp_loc,asI_ok,stp_r,asI_ok,stp_w,asI_ok,ev_of6,if_pos ⟨by rfl,by simp⟩,ev_splice,if_pos (Zub _),show (Evt.mk (t:Int) (((l.take i).countP (evP t):Nat):Int) s.kind s.loc s.r s.w).cs=(evX t ((l.take i).countP (evP t)) s).cs from rfl,ea,if_pos (by simp),Zo (by omega),Zo (by omega),hcnt,if_pos hp]
     rfl
    ·have e4:evF P l t (i+1)=evF P l t i++[evX t ((l.take i).countP (evP t)) s]:=by
      unfold evF
      rw [Zqx hq,if_pos hp,Yau,Yau]
     rw [e4,evsC_snoc,Ye,Yh]
     exact oe2
    ·have e5:intC .i64 (plF P.init.length l t (i+1))=(intC .i64 (plF P.init.length l t i)).set i (.int .i64 (((evF P l t i).length:Nat):Int)):=by
      rw [←plF_set hq hp]
      unfold intC
      rw [List.map_set]
      congr 2
      have hp2:=hp
      unfold evP at hp2
      rw [Yb,beq_iff_eq,bne_iff_ne] at hp2
      rw [Zhf hq hp2.1 hp2.2,hel]
     rw [e5];exact ob
   ·refine ⟨_,?_,e',h',rfl,?_,?_,kk⟩
    ·rw [q315_r1,if_pos (by simp;omega),g1,if_pos g2,g3,if_pos ⟨by trivial,by rfl,by rfl⟩,stp_t,asI_ok,stp_kind,asI_ok,scK_and,hc,if_neg hp,Zo (by omega),hcnt,if_neg hp]
     rfl
    ·have e4:evF P l t (i+1)=evF P l t i:=by
      unfold evF
      rw [Zqx hq,if_neg hp,Yi]
     rw [e4];exact oe
    ·rw [←plF_no hq hp];exact op) (st:=q315_s1 a1 x2 x8 (t:Int) (((l.take 0).countP (evP t):Nat):Int) a24 (t:Int) x2 (l.length:Int) ((0:Nat):Int) s0 s1 [e,b,c] h) ⟨e,h,rfl,oe,op,Kp.refl _ _⟩
 rw [evF_next] at oe'
 rw [plF_next] at op'
 refine ⟨e',h',hL _ (Zm ?_),oe',op',kk⟩
 rw [q315_r1,if_neg (by simp)]
end
def CoAt (n:Nat) (h:Za) (y:Cell) (rows:List (List Int)):Prop :=
 ∃ts,Own n h y 1 ts rows.length/\(∀(t:Nat) (r:List Int),rows[t]? = some r->∃x:Cell,ts[t]? = some x/\Own n h x 1 (intC .i64 r) r.length/\∀k,Zv x k->¬Zv y k) /\
  ∀(t t':Nat) (x x':Cell) (k:Nat),t≠t'->ts[t]? = some x->ts[t']? = some x'->Zv x k->¬Zv x' k
theorem CoAt.nil (n:Nat) (h:Za):CoAt n h .nils []:=⟨[],Own.nil _ _ _,fun t r hr=>by simp at hr,fun t t' x x' k _ h=>by simp at h⟩
theorem CoAt.of {n:Nat} {h:Za} {y:Cell} {rows:List (List Int)} (c:CoAt n h y rows):RowsOf 1 (intC .i64) h y rows:=by
 obtain ⟨ts,h1,h2,_⟩:=c
 exact ⟨ts,h1.at,h1.low,fun t r hr=>by obtain ⟨x,x1,x2,_⟩:=h2 t r hr;exact ⟨x,x1,x2.at,x2.low⟩⟩
theorem CoAt.setO {n:Nat} {h:Za} {y:Cell} {rows:List (List Int)} (c:CoAt n h y rows) {k:Nat} (hk:k<n) (b:Option Blk):CoAt n (setBlk h k b) y rows:=by
 obtain ⟨ts,h1,h2,h3⟩:=c
 have no:∀{z:Cell} {cs:List Cell} {len:Nat},Own n h z 1 cs len->¬Zv z k:=fun o q=>by have:=(o.blkLt q).2;omega
 exact ⟨ts,h1.setO (no h1) b,fun t r hr=>by obtain ⟨x,x1,x2,x3⟩:=h2 t r hr;exact ⟨x,x1,x2.setO (no x2) b,x3⟩,h3⟩
theorem CoAt.push {n:Nat} {h:Za} {y:Cell} {rows:List (List Int)} (c:CoAt n h y rows) (hn:n<=h.length) (hl:rows.length<=1000) (v:Int) :
  ∃y' h',(∀{β:Type} (f:Cell->Za->Option β),Zao 1 24 y [.sl h.length 1 0 1] (h++[some ⟨true,1,[.int .i64 v]⟩]) f=f y' h')/\CoAt n h' y' (rows++[[v]])/\Kp n h h':=by
 have hm:maxBytes>=2001*24:=by unfold maxBytes;omega
 obtain ⟨ts,h1,h2,h3⟩:=c
 have h1':Own n (h++[some ⟨true,1,[.int .i64 v]⟩]) y 1 ts rows.length:=h1.via fun j b _ q=>Zas q _
 obtain ⟨y',h',ha,ho,hk,hf⟩:=h1'.app (bytes:=24) (xs:=[.sl h.length 1 0 1]) (by rw [Ye];omega) rfl (by omega) (by omega) (by omega)
 have hyk:∀k,Zv y k->k<h.length:=fun k q=>(h1.blkLt q).1
 have mv:∀{z:Cell} {cs:List Cell} {len:Nat},Own n (h++[some ⟨true,1,[.int .i64 v]⟩]) z 1 cs len->(∀k,Zv z k->¬Zv y k)->Own n h' z 1 cs len/\∀k,Zv z k->¬Zv y' k:=fun {z cs len} oz dz=>by
  refine ⟨oz.via fun j b hj q=>(hf j b q (dz j hj)).1,fun k hk'=>(hf k _ (oz.has hk') (dz k hk')).2⟩
 have hts:ts.length=rows.length:=by have:=h1.1;omega
 have onew:Own n (h++[some ⟨true,1,[.int .i64 v]⟩]) (.sl h.length 1 0 1) 1 (intC .i64 [v]) 1:=⟨rfl,.inr ⟨h.length,rfl,hn,Zw _ _⟩⟩
 have dnew:∀k,Zv (.sl h.length 1 0 1) k->k=h.length:=fun k q=>(show h.length=k from q).symm
 refine ⟨y',h',ha,⟨ts++[.sl h.length 1 0 1],by rw [Ye,Yh];exact ho,fun t r hr=>?_,fun t t' x x' k hne hx hx' hk1 hk2=>?_⟩,(Kp.app _ hn).trans hk⟩
 ·rcases Zr hr with ⟨ht,hr⟩ | ⟨ht,rfl⟩
  ·obtain ⟨x,x1,x2,x3⟩:=h2 t r hr
   obtain ⟨m1,m2⟩:=mv (x2.via fun j b _ q=>Zas q _) x3
   exact ⟨x,Zbb x1,m1,m2⟩
  ·obtain ⟨m1,m2⟩:=mv onew fun k q q2=>by have:=dnew k q;have:=hyk k q2;omega
   exact ⟨_,by rw [ht,←hts];exact getI_new,m1,m2⟩
 ·have old:∀{t:Nat} {x:Cell},ts[t]? = some x->Zv x k->k<h.length:=fun {t x} hx q=>by
   have htl:t<rows.length:=by have:=Zf hx;omega
   obtain ⟨z,z1,z2,_⟩:=h2 t _ (Ya htl)
   rw [hx] at z1
   cases z1
   exact (z2.blkLt q).1
  rcases Zr hx with ⟨_,hx⟩ | ⟨e1,rfl⟩
  ·rcases Zr hx' with ⟨_,hx'⟩ | ⟨_,rfl⟩
   ·exact h3 t t' x x' k hne hx hx' hk1 hk2
   ·have:=old hx hk1;have:=dnew k hk2;omega
  ·rcases Zr hx' with ⟨_,hx'⟩ | ⟨e2,_⟩
   ·have:=old hx' hk2;have:=dnew k hk1;omega
   ·omega
theorem CoAt.grow {n:Nat} {h:Za} {y:Cell} {rows:List (List Int)} (c:CoAt n h y rows) (hn:n<=h.length) {t:Nat} {r:List Int} (hr:rows[t]? = some r) (hl:r.length<=1000) (v:Int) :
  ∃x x' h1 h2,(∀{β:Type} (f:Cell->Option β),(Zl 1 y (t:Int) fun k N o=>Zp h k N fun l=>Ze l o f)=f x)/\(∀{β:Type} (f:Cell->Za->Option β),Zao 1 8 x [.int .i64 v] h f=f x' h1) /\
   (∀{β:Type} (f:Za->Option β),(Zl 1 y (t:Int) fun k N o=>Zp h1 k N fun l=>if o<l.length then Zbe h1 k (l.set o x') f else none)=f h2)/\CoAt n h2 y (rows.set t (r++[v]))/\Kp n h h2:=by
 have hm:maxBytes>=2001*24:=by unfold maxBytes;omega
 obtain ⟨ts,o1,h2,h3⟩:=c
 have htl:=Zf hr
 have hts:ts.length=rows.length:=by have:=o1.1;omega
 obtain ⟨x,x1,x2,x3⟩:=h2 t r hr
 obtain ⟨x',h1,ea,oa,ka,fa⟩:=x2.app (bytes:=8) (xs:=[.int .i64 v]) hn rfl (by omega) (by omega) (by omega)
 have o1':Own n h1 y 1 ts rows.length:=o1.via fun j b hj q=>(fa j b q fun q2=>x3 j q2 hj).1
 have hx'y:∀k,Zv x' k->¬Zv y k:=fun k q q2=>(fa k _ (o1.has q2) fun q3=>x3 k q3 q2).2 q
 obtain ⟨k,nk,kl,hbk,e9,o9⟩:=o1'.setG1 htl x'
 refine ⟨x,x',h1,_,fun f=>o1.at.get1 htl x1,fun f=>ea f,fun f=>e9 f,⟨ts.set t x',by rw [Yo];exact o9,fun j r' hr'=>?_,fun j j' z z' k' hne hz hz' hk1 hk2=>?_⟩,ka.trans (Kp.set nk _)⟩
 ·by_cases hj:j=t
  ·subst hj
   rw [Yt htl] at hr'
   cases hr'
   refine ⟨x',Yt (by omega),?_,hx'y⟩
   rw [intC_snoc,Ye,Yh]
   exact oa.setO (fun q=>hx'y k q hbk) _
  ·rw [Yr (fun e=>hj e.symm)] at hr' ⊢
   obtain ⟨z,z1,z2,z3⟩:=h2 j r' hr'
   have zx:∀q,Zv z q->¬Zv x q:=fun q a b=>h3 j t z x q hj z1 x1 a b
   have z4:Own n h1 z 1 (intC .i64 r') r'.length:=z2.via fun i b hi q=>(fa i b q (zx i hi)).1
   exact ⟨z,z1,z4.setO (fun q=>z3 k q hbk) _,z3⟩
 ·have other:∀{i:Nat} {u:Cell},i≠t->ts[i]? = some u->Zv u k'->¬Zv x' k':=fun {i u} hi hu q q2=>by
   have hil:i<rows.length:=by have:=Zf hu;omega
   obtain ⟨u',u1,u2,_⟩:=h2 i _ (Ya hil)
   rw [hu] at u1
   cases u1
   exact (fa k' _ (u2.has q) fun q3=>h3 i t u x k' hi hu x1 q q3).2 q2
  by_cases hj:j=t
  ·subst hj
   rw [Yt (by omega)] at hz
   cases hz
   rw [Yr hne] at hz'
   exact other (fun e=>hne e.symm) hz' hk2 hk1
  ·rw [Yr (fun e=>hj e.symm)] at hz
   by_cases hj':j'=t
   ·subst hj'
    rw [Yt (by omega)] at hz'
    cases hz'
    exact other hj hz hk1 hk2
   ·rw [Yr (fun e=>hj' e.symm)] at hz'
    exact h3 j j' z z' k' hne hz hz' hk1 hk2
structure RfP (n0:Nat) (l:List Stp) (n i:Nat) (rf:List Int):Prop where
 len:rf.length=n
 rd:∀(j:Nat) s,j<i->l[j]? = some s->rdS s=true->rf[Zbp n0 l j]? = some (rfV n0 l s)
 no:∀k,k<n->(∀(j:Nat) s,j<i->l[j]? = some s->rdS s=true->Zbp n0 l j≠k)->rf[k]? = some (-1)
theorem RfP.ok {n0 n:Nat} {l:List Stp} {rf:List Int} (h:RfP n0 l n l.length rf):RfOk n0 l n rf :=
 ⟨h.len,fun i s hs=>h.rd i s (Zf hs) hs,fun k hk hn=>h.no k hk fun j s _ hs=>hn j s hs⟩
def coK (n0:Nat) (l:List Stp) (m:Int) (i c:Nat):List Int:=(c:Int) :: ((Yk i).filter (wrE l m (c:Int))).map fun i=>(pw n0 l i:Int)
def Zhn (n0 nl:Nat) (l:List Stp) (m:Int) (i:Nat):List (List Int):=(Yk nl).map (coK n0 l m i)
theorem Zoh {n0 nl:Nat} {l:List Stp} {m:Int} {i c:Nat} (h:c<nl):(Zhn n0 nl l m i)[c]? = some (coK n0 l m i c):=by
 unfold Zhn
 rw [Ybn,Ycj h];rfl
theorem Zzg (n0:Nat) (l:List Stp) (m:Int) (i c:Nat):(coK n0 l m i c).length<=i+1:=by
 unfold coK
 have:=Ybf (wrE l m (c:Int)) (Yk i)
 rw [Yx] at this
 rw [Yai,Yae];omega
theorem coK_succ (n0:Nat) (l:List Stp) (m:Int) (i c:Nat):coK n0 l m (i+1) c=coK n0 l m i c++if wrE l m (c:Int) i=true then [(pw n0 l i:Int)] else []:=by
 unfold coK
 rw [Yac,Yv,Yan]
 by_cases h:wrE l m (c:Int) i=true
 ·rw [if_pos h,Yaq h];rfl
 ·rw [if_neg h,Ybc h];rfl
theorem cosK_no {n0 nl:Nat} {l:List Stp} {m:Int} {i:Nat} {s:Stp} (hs:l[i]? = some s) (hw:¬wrS s m=true):Zhn n0 nl l m (i+1)=Zhn n0 nl l m i:=by
 unfold Zhn
 refine List.map_congr_left fun c _=>?_
 rw [coK_succ,if_neg,Yi]
 unfold wrE
 rw [hs]
 dsimp only
 rw [Yb]
 exact fun q=>hw q.1
theorem cosK_set {n0 nl:Nat} {l:List Stp} {m:Int} {i c:Nat} {s:Stp} (hs:l[i]? = some s) (hw:Zcg m s (c:Int)):Zhn n0 nl l m (i+1)=(Zhn n0 nl l m i).set c (coK n0 l m i c++[(pw n0 l i:Int)]):=by
 have hwe:∀c':Nat,wrE l m (c':Int) i=decide (c'=c):=fun c'=>by
  unfold wrE
  rw [hs]
  dsimp only
  rw [hw.1,hw.2,Ybm,Yay,beq_iff_eq,decide_eq_true_eq]
  omega
 refine Ybo fun j=>?_
 by_cases hj:j<nl
 ·rw [Zoh hj,coK_succ,hwe]
  by_cases hjc:j=c
  ·subst hjc
   rw [Yt (by unfold Zhn;rw [Yae,Yx];exact hj),if_pos (decide_eq_true rfl)]
  ·rw [Yr (fun e=>hjc e.symm),Zoh hj,if_neg (by rw [decide_eq_true_eq];exact hjc),Yi]
 ·have e:∀i,(Zhn n0 nl l m i).length=nl:=fun i=>by unfold Zhn;rw [Yae,Yx]
  rw [Yu (by rw [e];omega),Yu (by rw [Yo,e];omega)]
structure StepsOk (P:PProg) (m:Int) (l:List Stp):Prop where
 t:∀(i:Nat) s,l[i]? = some s->0<=s.t
 thr:∀(i:Nat) s,l[i]? = some s->s.kind≠6->s.t<P.thr.length
 flu:∀(i:Nat) s,l[i]? = some s->s.kind=6->∃g:Nat,s.frm=(g:Int)/\g<l.length
 wr:∀(i:Nat) s,l[i]? = some s->wrS s m=true->0<=s.loc/\s.loc<P.locs.length
 rd:∀(i:Nat) s,l[i]? = some s->rdS s=true->s.kind≠6/\s.frm<l.length
theorem StepsOk.lt {P:PProg} {m:Int} {l:List Stp} (k:StepsOk P m l) {i:Nat} {s:Stp} (hs:l[i]? = some s) (h6:s.kind≠6):Zbp P.init.length l i<(Zdd P l).length:=by
 have h1:=k.t i s hs
 have h2:=k.thr i s hs h6
 obtain ⟨t,ht⟩:=Yag h1
 rw [Zhf hs ht h6,Ztj]
 have:=Zny hs (Zev ht h6)
 have:=Ziv l (show t<P.thr.length by omega)
 omega
theorem StepsOk.inj {P:PProg} {m:Int} {l:List Stp} (k:StepsOk P m l) {i j:Nat} {s x:Stp} (hs:l[i]? = some s) (h6:s.kind≠6) (hx:l[j]? = some x) (h6':x.kind≠6) (h:Zbp P.init.length l i=Zbp P.init.length l j):i=j:=by
 obtain ⟨t,ht⟩:=Yag (k.t i s hs)
 obtain ⟨u,hu⟩:=Yag (k.t j x hx)
 exact Ztz hs ht h6 hx hu h6' h
theorem RfP.next {P:PProg} {m:Int} {l:List Stp} (k:StepsOk P m l) {i:Nat} {s:Stp} (hs:l[i]? = some s) {rf:List Int} (h:RfP P.init.length l (Zdd P l).length i rf):RfP P.init.length l (Zdd P l).length (i+1) (if rdS s=true then rf.set (Zbp P.init.length l i) (rfV P.init.length l s) else rf):=by
 by_cases hr:rdS s=true
 ·rw [if_pos hr]
  have h6:=(k.rd i s hs hr).1
  have hlt:=k.lt hs h6
  refine ⟨by rw [Yo];exact h.len,fun j x hj hx hrx=>?_,fun q hq hn=>?_⟩
  ·by_cases hji:j=i
   ·subst hji
    rw [hs] at hx
    cases hx
    exact Yt (by rw [h.len];exact hlt)
   ·rw [Yr fun e=>hji (k.inj hs h6 hx (k.rd j x hx hrx).1 e).symm]
    exact h.rd j x (by omega) hx hrx
  ·rw [Yr (hn i s (Ybd _) hs hr)]
   exact h.no q hq fun j x hj=>hn j x (by omega)
 ·rw [if_neg hr]
  refine ⟨h.len,fun j x hj hx hrx=>?_,fun q hq hn=>h.no q hq fun j x hj=>hn j x (by omega)⟩
  by_cases hji:j=i
  ·subst hji
   rw [hs] at hx
   cases hx
   exact absurd hrx hr
  ·exact h.rd j x (by omega) hx hrx
section
variable {E:Env}
set_option maxHeartbeats 2000000 in
theorem Of_last (hE:q315_In E) {P:PProg} {m:Int} {l:List Stp} (k:StepsOk P m l) (hl:l.length<=500) (hll:P.locs.length<=900) {nR nC:Nat} {hR h:Za} {x2 x8 e xr y:Cell} (hRn:nR=hR.length) (hRC:nR<=nC) (hx:SlAt hR x2 7 (Zai l) l.length) (hlow:Low hR.length x2)
  (op:SlAt hR x8 1 (intC .i64 (plF P.init.length l P.thr.length 0)) l.length) (oplow:Low hR.length x8) (s1:List Cell) (k0:Kp nR hR h) (hC:nC<=h.length) {rf:List Int} (or:Own nR h xr 1 (intC .i64 rf) rf.length) (hrl:∀j,Zv xr j->j<nC) (hrf:RfP P.init.length l (Zdd P l).length 0 rf) (oc:CoAt nC h y (Zhn P.init.length P.locs.length l m 0)) :
  ∃h' rf',Zq (q315_F4 (R E) Zq E.glob) (q315_s4 m x8 x2 (l.length:Int) 0 s1 [e,xr,y] h)=some (.exit 6,q315_x4_7 s1 [e,xr,y] h')/\Kp nR hR h'/\Own nR h' xr 1 (intC .i64 rf') rf'.length/\RfOk P.init.length l (Zdd P l).length rf'/\CoAt nC h' y (Zwc P m l):=by
 have a1:∀{α:Type} (f:Cell->Option α),Ze [e,xr,y] 1 f=f xr:=fun _=>rfl
 have a2:∀{α:Type} (f:Cell->Option α),Ze [e,xr,y] 2 f=f y:=fun _=>rfl
 obtain ⟨st,⟨h',rf',rfl,kk,hC',or',hrf',oc'⟩,hL⟩:=Zcb (F:=q315_F4 (R E) Zq E.glob)
  (fun i st=>∃h' rf',st=q315_s4 m x8 x2 (l.length:Int) (i:Int) s1 [e,xr,y] h'/\Kp nR hR h'/\nC<=h'.length/\Own nR h' xr 1 (intC .i64 rf') rf'.length/\RfP P.init.length l (Zdd P l).length i rf'/\CoAt nC h' y (Zhn P.init.length P.locs.length l m i)) 0 l.length (by omega)
  (fun i st _ hi=>by
   rintro ⟨h,rf,rfl,kk,hC,or,hrf,oc⟩
   have hs:l[i]? = some l[i]:=Ya hi
   generalize l[i]=s at hs
   have pl:∀{h':Za} {j:Nat} {x:Stp},Kp nR hR h'->l[j]? = some x->∀{α:Type} (f:Cell->Option α),(Zl 1 x8 (j:Int) fun k N o=>Zp h' k N fun l=>Ze l o f)=f (.int .i64 (Zbp P.init.length l j:Int)):=fun {h' j x} kk hx α f =>
    (op.keep (hRn ▸ oplow) kk).get1 (Zf hx) (Zar (plF_all k.thr hx))
   obtain ⟨off,cc,g1,g2,g3⟩:=(hx.keep (hRn ▸ hlow) kk).stepG hs
   have partA:∃h1 rf1,q315_F4 (R E) Zq E.glob (q315_s4 m x8 x2 (l.length:Int) (i:Int) s1 [e,xr,y] h)=q315_k13 (R E) Zq E.glob .normal (q315_c1 m x8 (i:Int) x2 (l.length:Int) (i:Int) s1 [e,xr,y] s.cs h1)/\Kp nR hR h1/\nC<=h1.length/\Own nR h1 xr 1 (intC .i64 rf1) rf1.length/\RfP P.init.length l (Zdd P l).length (i+1) rf1/\CoAt nC h1 y (Zhn P.init.length P.locs.length l m i):=by
    have nx:=hrf.next k hs
    by_cases hr:rdS s=true
    ·rw [if_pos hr] at nx
     obtain ⟨h6,hfr⟩:=k.rd i s hs hr
     have hlt:=k.lt hs h6
     have hset:∀{h:Za} {rf:List Int},Kp nR hR h->nC<=h.length->Own nR h xr 1 (intC .i64 rf) rf.length->rf.length=(Zdd P l).length->CoAt nC h y (Zhn P.init.length P.locs.length l m i)->∀v:Int,∃h',(∀{α:Type} (f:Za->Option α),(Zl 1 xr (Zbp P.init.length l i:Int) fun k N o=>Zp h k N fun l=>if o<l.length then Zbe h k (l.set o (.int .i64 v)) f else none)=f h') /\
       Kp nR hR h'/\nC<=h'.length/\Own nR h' xr 1 (intC .i64 (rf.set (Zbp P.init.length l i) v)) (rf.set (Zbp P.init.length l i) v).length/\CoAt nC h' y (Zhn P.init.length P.locs.length l m i):=fun {h rf} kk hC or hn oc v=>by
      obtain ⟨k2,nk,kl,hbk,e1,o1⟩:=or.setG1 (i:=Zbp P.init.length l i) (by omega) (.int .i64 v)
      refine ⟨_,fun f=>e1 f,kk.trans (Kp.set nk _),by rw [Zbw];exact hC,?_,oc.setO (hrl k2 hbk) _⟩
      have:(intC .i64 rf).set (Zbp P.init.length l i) (.int .i64 v)=intC .i64 (rf.set (Zbp P.init.length l i) v):=by unfold intC;rw [List.map_set]
      rw [Yo,←this]
      exact o1
     obtain ⟨h1,e1,kk1,hC1,o1,c1'⟩:=hset kk hC or hrf.len oc s.loc
     by_cases h0:0<=s.frm
     ·obtain ⟨h2,e2,kk2,hC2,o2,c2'⟩:=hset kk1 hC1 o1 (by rw [Yo];exact hrf.len) c1' (Zbp P.init.length l s.frm.toNat:Int)
      have hg:l[s.frm.toNat]? = some (l[s.frm.toNat]'(by omega)):=Ya _
      have hgn:s.frm=((s.frm.toNat:Nat):Int):=by omega
      refine ⟨h2,_,?_,kk2,hC2,o2,?_,c2'⟩
      ·rw [q315_r4,if_pos (by simp;omega),g1,if_pos g2,g3,if_pos ⟨by trivial,by rfl,by rfl⟩,if_pos ⟨by trivial,by rfl⟩,Znm hE.c266,c1_ok,asB_ok,if_pos hr,a1,pl kk hs,asI_ok,stp_loc,asI_ok,e1,stp_frm,asI_ok,if_pos (decide_eq_true h0),a1,pl kk1 hs,asI_ok,stp_frm,asI_ok]
       conv=>lhs;rw [hgn]
       rw [pl kk1 hg,asI_ok,e2,bind_ok]
      ·rw [List.set_set]
       unfold rfV at nx
       rw [if_pos h0] at nx
       exact nx
     ·refine ⟨h1,_,?_,kk1,hC1,o1,?_,c1'⟩
      ·rw [q315_r4,if_pos (by simp;omega),g1,if_pos g2,g3,if_pos ⟨by trivial,by rfl,by rfl⟩,if_pos ⟨by trivial,by rfl⟩,Znm hE.c266,c1_ok,asB_ok,if_pos hr,a1,pl kk hs,asI_ok,stp_loc,asI_ok,e1,stp_frm,asI_ok,if_neg (by simp;omega),bind_ok]
      ·unfold rfV at nx
       rw [if_neg h0] at nx
       exact nx
    ·rw [if_neg hr] at nx
     refine ⟨h,rf,?_,kk,hC,or,nx,oc⟩
     rw [q315_r4,if_pos (by simp;omega),g1,if_pos g2,g3,if_pos ⟨by trivial,by rfl,by rfl⟩,if_pos ⟨by trivial,by rfl⟩,Znm hE.c266,c1_ok,asB_ok,if_neg hr,bind_ok]
   obtain ⟨h1,rf1,eA,kk1,hC1,or1,rf1',oc1⟩:=partA
   have grow:wrS s m=true->∀v:Int,v=(pw P.init.length l i:Int)->∃x x' h2 h3,(∀{β:Type} (f:Cell->Option β),(Zl 1 y s.loc fun k N o=>Zp h1 k N fun l=>Ze l o f)=f x)/\(∀{β:Type} (f:Cell->Za->Option β),Zao 1 8 x [.int .i64 v] h1 f=f x' h2) /\
     (∀{β:Type} (f:Za->Option β),(Zl 1 y s.loc fun k N o=>Zp h2 k N fun l=>if o<l.length then Zbe h2 k (l.set o x') f else none)=f h3)/\CoAt nC h3 y (Zhn P.init.length P.locs.length l m (i+1))/\Kp nR hR h3/\nC<=h3.length/\Own nR h3 xr 1 (intC .i64 rf1) rf1.length:=fun hw v hv=>by
    have hlc:=k.wr i s hs hw
    have hcc:s.loc=((s.loc.toNat:Nat):Int):=by omega
    have hcl:=Zzg P.init.length l m i s.loc.toNat
    obtain ⟨x,x',h2,h3,e1,e2,e3,o3,k3⟩:=oc1.grow hC1 (Zoh (show s.loc.toNat<P.locs.length by omega)) (by omega) v
    rw [←hcc] at e1 e3
    refine ⟨x,x',h2,h3,e1,e2,e3,?_,kk1.trans (k3.mono hRC),Yak hC1 k3.1,or1.via fun j b hj q=>by rw [k3.blk (hrl j hj)];exact q⟩
    rw [cosK_set hs ⟨hw,hcc⟩,←hv];exact o3
   have fin:∃h3,q315_k13 (R E) Zq E.glob .normal (q315_c1 m x8 (i:Int) x2 (l.length:Int) (i:Int) s1 [e,xr,y] s.cs h1)=some (.normal,q315_s4 m x8 x2 (l.length:Int) ((i+1:Nat):Int) s1 [e,xr,y] h3)/\Kp nR hR h3/\nC<=h3.length/\Own nR h3 xr 1 (intC .i64 rf1) rf1.length/\CoAt nC h3 y (Zhn P.init.length P.locs.length l m (i+1)):=by
    by_cases h6:s.kind=6
    ·have hw:wrS s m=true:=by unfold wrS;rw [h6];rfl
     obtain ⟨g,hg,hgl⟩:=k.flu i s hs h6
     have hpw:(Zbp P.init.length l g:Int)=(pw P.init.length l i:Int):=by
      unfold pw
      rw [hs]
      dsimp only
      rw [if_pos h6,hg,Yc]
     obtain ⟨x,x',h2,h3,e1,e2,e3,o3,k3,hC3,or3⟩:=grow hw _ hpw
     refine ⟨h3,?_,k3,hC3,or3,o3⟩
     rw [q315_ec1_n,stp_kind,asI_ok,if_pos (by simpa using h6),a2,stp_loc,asI_ok,a2,stp_loc,asI_ok,e1,stp_frm,asI_ok,hg,pl kk1 (Ya hgl),asI_ok,if_pos (by rfl),show splice [ci0] 0 [(.int .i64 (Zbp P.init.length l g:Int))]=[.int .i64 (Zbp P.init.length l g:Int)] from rfl,e2,e3,Zo (by omega)]
    ·by_cases hw:wrS s m=true
     ·have hpw:(Zbp P.init.length l i:Int)=(pw P.init.length l i:Int):=by
       unfold pw
       rw [hs]
       dsimp only
       rw [if_neg h6]
      obtain ⟨x,x',h2,h3,e1,e2,e3,o3,k3,hC3,or3⟩:=grow hw _ hpw
      refine ⟨h3,?_,k3,hC3,or3,o3⟩
      rw [q315_ec1_n,stp_kind,asI_ok,if_neg (by simpa using h6),if_pos ⟨by trivial,by rfl⟩,Zes hE.c257,c1_ok,asB_ok,if_pos hw,a2,stp_loc,asI_ok,a2,stp_loc,asI_ok,e1,pl kk1 hs,asI_ok,if_pos (by rfl),show splice [ci0] 0 [(.int .i64 (Zbp P.init.length l i:Int))]=[.int .i64 (Zbp P.init.length l i:Int)] from rfl,e2,e3,Zo (by omega)]
     ·refine ⟨h1,?_,kk1,hC1,or1,by rw [cosK_no hs hw];exact oc1⟩
      rw [q315_ec1_n,stp_kind,asI_ok,if_neg (by simpa using h6),if_pos ⟨by trivial,by rfl⟩,Zes hE.c257,c1_ok,asB_ok,if_neg hw,Zo (by omega)]
   obtain ⟨h3,eB,k3,hC3,or3,oc3⟩:=fin
   exact ⟨_,eA.trans eB,h3,rf1,rfl,k3,hC3,or3,rf1',oc3⟩) (st:=q315_s4 m x8 x2 (l.length:Int) ((0:Nat):Int) s1 [e,xr,y] h) ⟨h,rf,rfl,k0,hC,or,hrf,oc⟩
 refine ⟨h',rf',hL _ (Zm ?_),kk,or',hrf'.ok,oc'⟩
 rw [q315_r4,if_neg (by simp)]
end
section
variable (C:Zab) (L:Zbv) (G:Glo)
variable {h0:Za}
variable {l0 l1:List Cell}
theorem q303_eq:q303.body C L G [(.agg l0),(.agg l1)] h0=if 0=0/\l0.length=3 then if 0=0/\l1.length=3 then c1 (C 316 [(.agg l0),(.agg l1)] h0) fun y h=>Zk .i64 y fun n=>some ([(.c (.bool (n==0)))],h) else none else none:=by kernel_rfl
theorem q316_eq:q316.body C L G [(.agg l0),(.agg l1)] h0=Ze l0 0 fun q=>Ze l1 0 fun q1=>c1 (qh h0 (C 342 [(.c q),(.c q1),(.c (.fn 341 []))] h0)) fun y h=>Zk .i64 y fun n=>Ze l0 1 fun q=>Ze l1 1 fun q1=>c1 (qh h0 (C 343 [(.c q),(.c q1)] h0)) fun y h=>Zk .i64 y fun n1=>Ze l0 2 fun q=>Ze l1 2 fun q1=>c1 (qh h0 (C 344 [(.c q),(.c q1),(.c (.fn 343 []))] h0)) fun y h=>Zk .i64 y fun n2=>if (splice (splice (splice [ci0,ci0,ci0] 0 [(.int .i64 n)]) 1 [(.int .i64 n1)]) 2 [(.int .i64 n2)]).length=3*1 then c1 (qh (h0++[some (Blk.mk true 1 (splice (splice (splice [ci0,ci0,ci0] 0 [(.int .i64 n)]) 1 [(.int .i64 n1)]) 2 [(.int .i64 n2)]))]) (C 345 [(.c (.sl h0.length ((splice (splice (splice [ci0,ci0,ci0] 0 [(.int .i64 n)]) 1 [(.int .i64 n1)]) 2 [(.int .i64 n2)]).length) 0 3))] (h0++[some (Blk.mk true 1 (splice (splice (splice [ci0,ci0,ci0] 0 [(.int .i64 n)]) 1 [(.int .i64 n1)]) 2 [(.int .i64 n2)]))]))) fun y h=>Zk .i64 y fun n3=>Zbr true h0 [(.c (.int .i64 n3))] (h0++[some (Blk.mk true 1 (splice (splice (splice [ci0,ci0,ci0] 0 [(.int .i64 n)]) 1 [(.int .i64 n1)]) 2 [(.int .i64 n2)]))]) else none:=by kernel_rfl
theorem q341_eq:q341.body C L G [(.agg l0),(.agg l1)] h0=Ze l0 0 fun q=>Zk .i64 (.c q) fun n=>Ze l1 0 fun q=>Zk .i64 (.c q) fun n1=>c1 (qh h0 (C 370 [(.c (.int .i64 n)),(.c (.int .i64 n1))] h0)) fun y h=>Zk .i64 y fun n=>Ze l0 1 fun q=>Zk .i64 (.c q) fun n1=>Ze l1 1 fun q=>Zk .i64 (.c q) fun n2=>c1 (qh h0 (C 370 [(.c (.int .i64 n1)),(.c (.int .i64 n2))] h0)) fun y h=>Zk .i64 y fun n1=>Ze l0 2 fun q=>Zk .i64 (.c q) fun n2=>Ze l1 2 fun q=>Zk .i64 (.c q) fun n3=>c1 (qh h0 (C 370 [(.c (.int .i64 n2)),(.c (.int .i64 n3))] h0)) fun y h=>Zk .i64 y fun n2=>Ze l0 3 fun q=>Zk .i64 (.c q) fun n3=>Ze l1 3 fun q=>Zk .i64 (.c q) fun n4=>c1 (qh h0 (C 370 [(.c (.int .i64 n3)),(.c (.int .i64 n4))] h0)) fun y h=>Zk .i64 y fun n3=>Ze l0 4 fun q=>Zk .i64 (.c q) fun n4=>Ze l1 4 fun q=>Zk .i64 (.c q) fun n5=>c1 (qh h0 (C 371 [(.c (.int .i64 n4)),(.c (.int .i64 n5))] h0)) fun y h=>Zk .i64 y fun n4=>Ze l0 5 fun q=>Zk .i64 (.c q) fun n5=>Ze l1 5 fun q=>Zk .i64 (.c q) fun n6=>c1 (qh h0 (C 371 [(.c (.int .i64 n5)),(.c (.int .i64 n6))] h0)) fun y h=>Zk .i64 y fun n5=>if (splice (splice (splice (splice (splice (splice [ci0,ci0,ci0,ci0,ci0,ci0] 0 [(.int .i64 n)]) 1 [(.int .i64 n1)]) 2 [(.int .i64 n2)]) 3 [(.int .i64 n3)]) 4 [(.int .i64 n4)]) 5 [(.int .i64 n5)]).length=6*1 then c1 (qh (h0++[some (Blk.mk true 1 (splice (splice (splice (splice (splice (splice [ci0,ci0,ci0,ci0,ci0,ci0] 0 [(.int .i64 n)]) 1 [(.int .i64 n1)]) 2 [(.int .i64 n2)]) 3 [(.int .i64 n3)]) 4 [(.int .i64 n4)]) 5 [(.int .i64 n5)]))]) (C 345 [(.c (.sl h0.length ((splice (splice (splice (splice (splice (splice [ci0,ci0,ci0,ci0,ci0,ci0] 0 [(.int .i64 n)]) 1 [(.int .i64 n1)]) 2 [(.int .i64 n2)]) 3 [(.int .i64 n3)]) 4 [(.int .i64 n4)]) 5 [(.int .i64 n5)]).length) 0 6))] (h0++[some (Blk.mk true 1 (splice (splice (splice (splice (splice (splice [ci0,ci0,ci0,ci0,ci0,ci0] 0 [(.int .i64 n)]) 1 [(.int .i64 n1)]) 2 [(.int .i64 n2)]) 3 [(.int .i64 n3)]) 4 [(.int .i64 n4)]) 5 [(.int .i64 n5)]))]))) fun y h=>Zk .i64 y fun n6=>Zbr true h0 [(.c (.int .i64 n6))] (h0++[some (Blk.mk true 1 (splice (splice (splice (splice (splice (splice [ci0,ci0,ci0,ci0,ci0,ci0] 0 [(.int .i64 n)]) 1 [(.int .i64 n1)]) 2 [(.int .i64 n2)]) 3 [(.int .i64 n3)]) 4 [(.int .i64 n4)]) 5 [(.int .i64 n5)]))]) else none:=by kernel_rfl
end
section
variable (C:Zab) (L:Zbv) (G:Glo)
variable {h h0:Za}
variable {x0 x6:Cell}
variable {a0 a1 a2 a3 a7 a8:Int}
def q345_k2 (h0:Za):Ex->St->Rs:=Zac (fun st=>q345_p1.exec C L G st (q345.fin G h0)) (q345.fin G h0)
def q345_k3 (h0:Za):Ex->St->Rs:=Zag 0 (q345_k2 C L G h0)
def q345_s1 (a3:Int) (x6:Cell) (a7 a8:Int) (h:Za):St:=⟨tops 3 (.v (.c (.int .i64 a3)) :: tops 2 (.v (.c x6) :: .v (.c (.int .i64 a7)) :: .v (.c (.int .i64 a8)) :: tops 9 [])),[],h⟩
def q345_F1 :St->Option (Ex × St):=Zt (q345_b1.exec C L G) [3,6,7,8] [] [(0,[2],[]),(1,[3],[])]
def q345_x1_0 (a2:Int) (h:Za):St:=⟨tops 2 (.v (.c (.int .i64 a2)) :: tops 15 []),[],h⟩
def q345_x1_1 (a3:Int) (h:Za):St:=⟨tops 3 (.v (.c (.int .i64 a3)) :: tops 14 []),[],h⟩
theorem q345_r1:q345_F1 C L G (q345_s1 a3 x6 a7 a8 h)=if (decide (a8<a7))=true then Zl 1 x6 a8 fun k N o=>Zp h k N fun l=>Ze l o fun q=>Zk .i64 (.c q) fun n=>if (n != a3)=true then some (.ret,(q345_x1_0 n h)) else some (.normal,(q345_s1 a3 x6 a7 (G.wrap .i64 (a8+1)) h)) else some ((.exit 0),(q345_x1_1 a3 h)):=by kernel_rfl
theorem q345_e1_0:(q345_k3 C L G h0) .ret (q345_x1_0 a2 h)=some ([(.c (.int .i64 a2))],h):=by kernel_rfl
theorem q345_e1_1:(q345_k3 C L G h0) (.exit 0) (q345_x1_1 a3 h)=some ([(.c (.int .i64 a3))],h):=by kernel_rfl
theorem q345_eq:q345.body C L G [(.c x0)] h0=Zz x0 fun n=>(L (q345_F1 C L G) (q345_s1 0 x0 n 0 h0)).bind fun p=>(q345_k3 C L G h0) p.1 p.2:=by kernel_rfl
theorem q370_eq:q370.body C L G [(.c (.int .i64 a0)),(.c (.int .i64 a1))] h0=c1 (C 393 [(.c (.int .i64 a0))] h0) fun y h=>asB y fun b=>c1 (C 393 [(.c (.int .i64 a1))] h) fun y h=>asB y fun b1=>if b=true then if b1=true then some ([(.c (.int .i64 0))],h) else some ([(.c (.int .i64 (-1)))],h) else if b1=true then some ([(.c (.int .i64 1))],h) else if (decide (a0<a1))=true then some ([(.c (.int .i64 (-1)))],h) else if (decide (a0 > a1))=true then some ([(.c (.int .i64 1))],h) else some ([(.c (.int .i64 0))],h):=by kernel_rfl
theorem q371_eq:q371.body C L G [(.c (.int .i64 a0)),(.c (.int .i64 a1))] h0=c1 (C 394 [(.c (.int .i64 a0))] h0) fun y h=>asB y fun b=>c1 (C 394 [(.c (.int .i64 a1))] h) fun y h=>asB y fun b1=>if b=true then if b1=true then some ([(.c (.int .i64 0))],h) else some ([(.c (.int .i64 (-1)))],h) else if b1=true then some ([(.c (.int .i64 1))],h) else if (decide (a0<a1))=true then some ([(.c (.int .i64 (-1)))],h) else if (decide (a0 > a1))=true then some ([(.c (.int .i64 1))],h) else some ([(.c (.int .i64 0))],h):=by kernel_rfl
theorem q393_eq:q393.body C L G [(.c (.int .i64 a0))] h0=some ([(.c (.bool (a0 != a0)))],h0):=by kernel_rfl
theorem q394_eq:q394.body C L G [(.c (.int .i64 a0))] h0=some ([(.c (.bool (a0 != a0)))],h0):=by kernel_rfl
end
def Zct (a b:Int):Int:=if a<b then -1 else if a > b then 1 else 0
theorem cmpI_0 {a b:Int}:Zct a b=0↔a=b:=by
 unfold Zct
 by_cases h1:a<b
 ·rw [if_pos h1];omega
 ·by_cases h2:a > b
  ·rw [if_neg h1,if_pos h2];omega
  ·rw [if_neg h1,if_neg h2];omega
section
variable {E:Env}
theorem Zud (hE:q370_In E) (a b:Int) (h:Za):R E 370 [.c (.int .i64 a),.c (.int .i64 b)] h=some ([.c (.int .i64 (Zct a b))],h):=by
 have n:∀v:Int,R E 393 [.c (.int .i64 v)] h=some ([.c (.bool false)],h):=fun v=>Zd hE.c393.fn (by rw [q393_eq];simp)
 refine Zd hE.fn ?_
 rw [q370_eq,n,c1_ok,asB_ok,n,c1_ok,asB_ok,if_neg (by simp),if_neg (by simp)]
 unfold Zct
 by_cases h1:a<b
 ·rw [if_pos (by simpa using h1),if_pos h1]
 ·by_cases h2:a > b
  ·rw [if_neg (by simpa using h1),if_neg h1,if_pos (by simpa using h2),if_pos h2]
  ·rw [if_neg (by simpa using h1),if_neg h1,if_neg (by simpa using h2),if_neg h2]
theorem Zzl (hE:q371_In E) (a b:Int) (h:Za):R E 371 [.c (.int .i64 a),.c (.int .i64 b)] h=some ([.c (.int .i64 (Zct a b))],h):=by
 have n:∀v:Int,R E 394 [.c (.int .i64 v)] h=some ([.c (.bool false)],h):=fun v=>Zd hE.c394.fn (by rw [q394_eq];simp)
 refine Zd hE.fn ?_
 rw [q371_eq,n,c1_ok,asB_ok,n,c1_ok,asB_ok,if_neg (by simp),if_neg (by simp)]
 unfold Zct
 by_cases h1:a<b
 ·rw [if_pos (by simpa using h1),if_pos h1]
 ·by_cases h2:a > b
  ·rw [if_neg (by simpa using h1),if_neg h1,if_pos (by simpa using h2),if_pos h2]
  ·rw [if_neg (by simpa using h1),if_neg h1,if_neg (by simpa using h2),if_neg h2]
theorem Or_R (hE:q345_In E) {x:Cell} {l:List Int} {h:Za} (hx:SlAt h x 1 (intC .i64 l) l.length) (hl:l.length<9223372036854775807):∃r,R E 345 [.c x] h=some ([.c (.int .i64 r)],h)/\(r=0↔∀v∈l,v=0):=by
 have key:∀n i:Nat,i+n=l.length->∃r,(Zq (q345_F1 (R E) Zq E.glob) (q345_s1 0 x (l.length:Int) (i:Int) h)).bind (fun q=>q345_k3 (R E) Zq E.glob h q.1 q.2)=some ([.c (.int .i64 r)],h)/\(r=0↔∀v∈l.drop i,v=0):=by
  intro n
  induction n with
  | zero =>
   intro i hi
   have hr:q345_F1 (R E) Zq E.glob (q345_s1 0 x (l.length:Int) (i:Int) h)=some (.exit 0,q345_x1_1 0 h):=by rw [q345_r1,if_neg (by simp;omega)]
   rw [Zm hr,bind_ok]
   dsimp only
   rw [q345_e1_1,Ys (by omega)]
   exact ⟨0,rfl,(fun _ v hv=>by cases hv),fun _=>rfl⟩
  | succ n ih =>
   intro i hi
   have hq:l[i]? = some l[i]:=Ya (by omega)
   have hd:l.drop i=l[i] :: l.drop (i+1):=Yba (by omega)
   generalize l[i]=q at hq hd
   rw [hd]
   by_cases hz:q=0
   ·obtain ⟨r,h1,h2⟩:=ih (i+1) (by omega)
    have hr:q345_F1 (R E) Zq E.glob (q345_s1 0 x (l.length:Int) (i:Int) h)=some (.normal,q345_s1 0 x (l.length:Int) ((i+1:Nat):Int) h):=by
     rw [q345_r1,if_pos (by simp;omega),hx.get1 (by omega) (Zar hq),asI_ok,if_neg (by simp;exact hz),Zo (by omega)]
    refine ⟨r,?_,h2.trans ⟨fun e v hv=>?_,fun e v hv=>e v (Ybg _ hv)⟩⟩
    ·cases hL:Zq (q345_F1 (R E) Zq E.glob) (q345_s1 0 x (l.length:Int) ((i+1:Nat):Int) h) with
     | none=>rw [hL] at h1;cases h1
     | some w =>
      rw [Zat hr hL]
      rw [hL] at h1;exact h1
    ·rcases Ybl.1 hv with c | c
     ·rw [c];exact hz
     ·exact e v c
   ·have hr:q345_F1 (R E) Zq E.glob (q345_s1 0 x (l.length:Int) (i:Int) h)=some (.ret,q345_x1_0 q h):=by
     rw [q345_r1,if_pos (by simp;omega),hx.get1 (by omega) (Zar hq),asI_ok,if_pos (by simp;exact hz)]
    exact ⟨q,by rw [Zcf hr,bind_ok];dsimp only;rw [q345_e1_0],fun e=>absurd e hz,fun e=>e q Ybb⟩
 obtain ⟨r,h1,h2⟩:=key l.length 0 (by omega)
 rw [Ybi] at h2
 refine ⟨r,Zd hE.fn ?_,h2⟩
 rw [q345_eq,hx.len]
 exact h1
theorem lit_at (h:Za) (l:List Int):SlAt (h++[some ⟨true,1,intC .i64 l⟩]) (.sl h.length (intC .i64 l).length 0 l.length) 1 (intC .i64 l) l.length :=
 Own.at (n:=h.length) ⟨by rw [intC_len];omega,.inr ⟨h.length,rfl,Yf _,Zw _ _⟩⟩
set_option maxHeartbeats 4000000 in
theorem CmpEv_R (hE:q341_In E) (a b:Evt) (h:Za):∃r,R E 341 [.agg a.cs,.agg b.cs] h=some ([.c (.int .i64 r)],h)/\(r=0↔a=b):=by
 obtain ⟨r,h1,h2⟩:=Or_R hE.c345 (lit_at h [Zct a.t b.t,Zct a.i b.i,Zct a.kind b.kind,Zct a.loc b.loc,Zct a.r b.r,Zct a.w b.w]) (by simp)
 refine ⟨r,Zd hE.fn ?_,h2.trans ?_⟩
 ·have f0:∀{α:Type} (e:Evt) (f:Cell->Option α),Ze e.cs 0 f=f (.int .i64 e.t):=fun _ _=>rfl
  have f1:∀{α:Type} (e:Evt) (f:Cell->Option α),Ze e.cs 1 f=f (.int .i64 e.i):=fun _ _=>rfl
  have f2:∀{α:Type} (e:Evt) (f:Cell->Option α),Ze e.cs 2 f=f (.int .i64 e.kind):=fun _ _=>rfl
  have f3:∀{α:Type} (e:Evt) (f:Cell->Option α),Ze e.cs 3 f=f (.int .i64 e.loc):=fun _ _=>rfl
  have f4:∀{α:Type} (e:Evt) (f:Cell->Option α),Ze e.cs 4 f=f (.int .i64 e.r):=fun _ _=>rfl
  have f5:∀{α:Type} (e:Evt) (f:Cell->Option α),Ze e.cs 5 f=f (.int .i64 e.w):=fun _ _=>rfl
  rw [q341_eq,f0,asI_ok,f0,asI_ok,Zud hE.c370,qh_ok,c1_ok,asI_ok,f1,asI_ok,f1,asI_ok,Zud hE.c370,qh_ok,c1_ok,asI_ok,f2,asI_ok,f2,asI_ok,Zud hE.c370,qh_ok,c1_ok,asI_ok,
   f3,asI_ok,f3,asI_ok,Zud hE.c370,qh_ok,c1_ok,asI_ok,f4,asI_ok,f4,asI_ok,Zzl hE.c371,qh_ok,c1_ok,asI_ok,f5,asI_ok,f5,asI_ok,Zzl hE.c371,qh_ok,c1_ok,asI_ok,if_pos (by rfl)]
  show c1 (qh (h++[some ⟨true,1,intC .i64 [Zct a.t b.t,Zct a.i b.i,Zct a.kind b.kind,Zct a.loc b.loc,Zct a.r b.r,Zct a.w b.w]⟩]) (R E 345 [.c (.sl h.length (intC .i64 [Zct a.t b.t,Zct a.i b.i,Zct a.kind b.kind,Zct a.loc b.loc,Zct a.r b.r,Zct a.w b.w]).length 0 6)] (h++[some ⟨true,1,intC .i64 [Zct a.t b.t,Zct a.i b.i,Zct a.kind b.kind,Zct a.loc b.loc,Zct a.r b.r,Zct a.w b.w]⟩]))) _=_
  have h1':=h1
  rw [show ([Zct a.t b.t,Zct a.i b.i,Zct a.kind b.kind,Zct a.loc b.loc,Zct a.r b.r,Zct a.w b.w]:List Int).length=6 from rfl] at h1'
  rw [h1',qh_ok,c1_ok,asI_ok]
  exact Zdj (Kp.app _ (Yf _)) fun v hv=>by rw [Yas] at hv;subst hv;simp [Zlc,AV.cells,Zgq]
 ·obtain ⟨a1,a2,a3,a4,a5,a6⟩:=a
  obtain ⟨b1,b2,b3,b4,b5,b6⟩:=b
  simp only [Ybl,Ycy,or_false,forall_eq_or_imp,forall_eq,cmpI_0,Evt.mk.injEq]
theorem Ztd {α:Type} {F:St->Option (Ex × St)} {s:Nat->St} {k3:Ex->St->Option (List AV × Za)} {x0:Int->St} {x1:St} {a b:List α} {h:Za} (hl:a.length<9223372036854775807) (END:F (s a.length)=some (.exit 0,x1))
  (E1:k3 (.exit 0) x1=if (decide ((a.length:Int)<(b.length:Int)))=true then some ([.c (.int .i64 (-1))],h) else some ([.c (.int .i64 0)],h)) (E0:∀r,k3 .ret (x0 r)=some ([.c (.int .i64 r)],h))
  (ELT:∀(q p:α) (i:Nat),a[i]? = some q->b[i]? = some p->∃r0,(F (s i)=if (r0 != 0)=true then some (Ex.ret,x0 r0) else some (.normal,s (i+1)))/\(r0=0↔q=p))
  (OUT:∀(q:α) (i:Nat),a[i]? = some q->b.length<=i->F (s i)=some (.ret,x0 1)):∃r,(Zq F (s 0)).bind (fun q=>k3 q.1 q.2)=some ([.c (.int .i64 r)],h)/\(r=0↔a=b):=by
 have key:∀n i:Nat,i+n=a.length->i<=b.length->∃r,(Zq F (s i)).bind (fun q=>k3 q.1 q.2)=some ([.c (.int .i64 r)],h)/\(r=0↔a.drop i=b.drop i):=by
  intro n
  induction n with
  | zero =>
   intro i hi hb
   obtain rfl:i=a.length:=by omega
   rw [Zm END,bind_ok]
   dsimp only
   rw [E1,Ys (Yf _)]
   by_cases hlt:a.length<b.length
   ·rw [if_pos (by simp;omega)]
    refine ⟨-1,rfl,by omega,fun e=>?_⟩
    have:=congrArg Ycr e
    rw [Yar,Ybr] at this;omega
   ·rw [if_neg (by simp;omega)]
    exact ⟨0,rfl,fun _=>(Ys (by omega)).symm,fun _=>rfl⟩
  | succ n ih =>
   intro i hi hb
   have hq:a[i]? = some a[i]:=Ya (by omega)
   have hda:a.drop i=a[i] :: a.drop (i+1):=Yba (by omega)
   generalize a[i]=q at hq hda
   by_cases hlt:i<b.length
   ·have hp:b[i]? = some b[i]:=Ya hlt
    have hdb:b.drop i=b[i] :: b.drop (i+1):=Yba hlt
    generalize b[i]=p at hp hdb
    obtain ⟨r0,er,e0⟩:=ELT q p i hq hp
    by_cases hz:r0=0
    ·obtain ⟨r,h1,h2⟩:=ih (i+1) (by omega) (by omega)
     rw [if_neg (by simp;exact hz)] at er
     refine ⟨r,?_,by rw [h2,hda,hdb,e0.1 hz,Yde.injEq];exact ⟨fun e=>⟨rfl,e⟩,fun e=>e.2⟩⟩
     cases hL:Zq F (s (i+1)) with
     | none=>rw [hL] at h1;cases h1
     | some w =>
      rw [Zat er hL]
      rw [hL] at h1;exact h1
    ·rw [if_pos (by simp;exact hz)] at er
     refine ⟨r0,by rw [Zcf er,bind_ok];dsimp only;rw [E0],fun e=>absurd e hz,fun e=>?_⟩
     rw [hda,hdb,Yde.injEq] at e
     exact e0.2 e.1
   ·refine ⟨1,by rw [Zcf (OUT q i hq (by omega)),bind_ok];dsimp only;rw [E0],by omega,fun e=>?_⟩
    rw [hda,Ys (l:=b) (by omega)] at e
    cases e
 obtain ⟨r,h1,h2⟩:=key a.length 0 (by omega) (by omega)
 rw [Ybi,Ybi] at h2
 exact ⟨r,h1,h2⟩
theorem Zri (hE:q343_In E) {x y:Cell} {a b:List Int} {h:Za} (hx:SlAt h x 1 (intC .i64 a) a.length) (hy:SlAt h y 1 (intC .i64 b) b.length) (hl:a.length<9223372036854775807) :
  ∃r,R E 343 [.c x,.c y] h=some ([.c (.int .i64 r)],h)/\(r=0↔a=b):=by
 have LX:∀{α:Type} (f:Int->Option α),Zz x f=f a.length:=fun f=>hx.len
 have LY:∀{α:Type} (f:Int->Option α),Zz y f=f b.length:=fun f=>hy.len
 have ELT:∀(q p:Int) (i:Nat),a[i]? = some q->b[i]? = some p->∃r0,(q343_F1 (R E) Zq E.glob (q343_s1 x y x (a.length:Int) (i:Int) h)=if (r0 != 0)=true then some (Ex.ret,q343_x1_0 r0 h) else some (.normal,q343_s1 x y x (a.length:Int) (E.glob.wrap .i64 ((i:Int)+1)) h))/\(r0=0↔q=p):=fun q p i hq hp=>by
  have h1:=Zf hq
  have h2:=Zf hp
  refine ⟨Zct q p,?_,cmpI_0⟩
  rw [q343_r1,if_pos (by simp;omega),hx.get1 h1 (Zar hq),asI_ok,LY,if_neg (by simp;omega),hy.get1 h2 (Zar hp),asI_ok,Zud hE.c370,c1_ok,asI_ok]
 have OUT:∀(q:Int) (i:Nat),a[i]? = some q->b.length<=i->q343_F1 (R E) Zq E.glob (q343_s1 x y x (a.length:Int) (i:Int) h)=some (.ret,q343_x1_0 1 h):=fun q i hq hb=>by
  have h1:=Zf hq
  rw [q343_r1,if_pos (by simp;omega),hx.get1 h1 (Zar hq),asI_ok,LY,if_pos (by simp;omega)]
 obtain ⟨r,h1,h2⟩:=Ztd (F:=q343_F1 (R E) Zq E.glob) (s:=fun i=>q343_s1 x y x (a.length:Int) (i:Int) h) (k3:=q343_k3 (R E) Zq E.glob h) (x0:=fun r=>q343_x1_0 r h) hl
  (by rw [q343_r1,if_neg (by simp)]) (by rw [q343_e1_1,LX,LY]) (fun r=>by rw [q343_e1_0]) (fun q p i hq hp=>by
   have h3:=Zf hq
   have:=ELT q p i hq hp
   rwa [Zo (by omega)] at this) OUT
 refine ⟨r,Zd hE.fn ?_,h2⟩
 rw [q343_eq,LX]
 exact h1
theorem CmpEvs_R (hE:q342_In E) (hC:q341_In E) {x y:Cell} {a b:List Evt} {h:Za} (hx:SlAt h x 6 (Zif a) a.length) (hy:SlAt h y 6 (Zif b) b.length) (hl:a.length<9223372036854775807) :
  ∃r,R E 342 [.c x,.c y,.c (.fn 341 [])] h=some ([.c (.int .i64 r)],h)/\(r=0↔a=b):=by
 have LX:∀{α:Type} (f:Int->Option α),Zz x f=f a.length:=fun f=>hx.len
 have LY:∀{α:Type} (f:Int->Option α),Zz y f=f b.length:=fun f=>hy.len
 have ELT:∀(q p:Evt) (i:Nat),a[i]? = some q->b[i]? = some p->∃r0,(q342_F1 (R E) Zq E.glob (q342_s1 x y (.fn 341 []) x (a.length:Int) (i:Int) h)=if (r0 != 0)=true then some (Ex.ret,q342_x1_0 r0 h) else some (.normal,q342_s1 x y (.fn 341 []) x (a.length:Int) (E.glob.wrap .i64 ((i:Int)+1)) h))/\(r0=0↔q=p):=fun q p i hq hp=>by
  have h1:=Zf hq
  have h2:=Zf hp
  obtain ⟨r0,e1,e2⟩:=CmpEv_R hC q p h
  obtain ⟨off,c,g1,g2,g3⟩:=hx.evG hq
  obtain ⟨off',c',g1',g2',g3'⟩:=hy.evG hp
  refine ⟨r0,?_,e2⟩
  rw [q342_r1,if_pos (by simp;omega),g1,if_pos g2,g3,if_pos ⟨by trivial,by rfl,by rfl⟩,LY,if_neg (by simp;omega),g1',if_pos g2',g3',if_pos ⟨by trivial,by rfl,by rfl⟩,if_pos ⟨by trivial,by rfl⟩,if_pos ⟨by trivial,by rfl⟩,fnK_ok,Yi,e1,c1_ok,asI_ok]
 have OUT:∀(q:Evt) (i:Nat),a[i]? = some q->b.length<=i->q342_F1 (R E) Zq E.glob (q342_s1 x y (.fn 341 []) x (a.length:Int) (i:Int) h)=some (.ret,q342_x1_0 1 h):=fun q i hq hb=>by
  have h1:=Zf hq
  obtain ⟨off,c,g1,g2,g3⟩:=hx.evG hq
  rw [q342_r1,if_pos (by simp;omega),g1,if_pos g2,g3,if_pos ⟨by trivial,by rfl,by rfl⟩,LY,if_pos (by simp;omega)]
 obtain ⟨r,h1,h2⟩:=Ztd (F:=q342_F1 (R E) Zq E.glob) (s:=fun i=>q342_s1 x y (.fn 341 []) x (a.length:Int) (i:Int) h) (k3:=q342_k3 (R E) Zq E.glob h) (x0:=fun r=>q342_x1_0 r h) hl
  (by rw [q342_r1,if_neg (by simp)]) (by rw [q342_e1_1,LX,LY]) (fun r=>by rw [q342_e1_0]) (fun q p i hq hp=>by
   have h3:=Zf hq
   have:=ELT q p i hq hp
   rwa [Zo (by omega)] at this) OUT
 refine ⟨r,Zd hE.fn ?_,h2⟩
 rw [q342_eq,LX]
 exact h1
theorem Zq730 (hE:q344_In E) (hC:q343_In E) {x y:Cell} {a b:List (List Int)} {h:Za} (hx:RowsOf 1 (intC .i64) h x a) (hy:RowsOf 1 (intC .i64) h y b) (hl:a.length<9223372036854775807) (hr:∀r∈a,r.length<9223372036854775807) :
  ∃r,R E 344 [.c x,.c y,.c (.fn 343 [])] h=some ([.c (.int .i64 r)],h)/\(r=0↔a=b):=by
 obtain ⟨ta,hx,_,ra⟩:=hx
 obtain ⟨tb,hy,_,rb⟩:=hy
 have LX:∀{α:Type} (f:Int->Option α),Zz x f=f a.length:=fun f=>hx.len
 have LY:∀{α:Type} (f:Int->Option α),Zz y f=f b.length:=fun f=>hy.len
 have ELT:∀(q p:List Int) (i:Nat),a[i]? = some q->b[i]? = some p->∃r0,(q344_F1 (R E) Zq E.glob (q344_s1 x y (.fn 343 []) x (a.length:Int) (i:Int) h)=if (r0 != 0)=true then some (Ex.ret,q344_x1_0 r0 h) else some (.normal,q344_s1 x y (.fn 343 []) x (a.length:Int) (E.glob.wrap .i64 ((i:Int)+1)) h))/\(r0=0↔q=p):=fun q p i hq hp=>by
  have h1:=Zf hq
  have h2:=Zf hp
  obtain ⟨u,u1,u2,_⟩:=ra i q hq
  obtain ⟨v,v1,v2,_⟩:=rb i p hp
  obtain ⟨r0,e1,e2⟩:=Zri hC u2 v2 (hr q (Yg hq))
  refine ⟨r0,?_,e2⟩
  rw [q344_r1,if_pos (by simp;omega),hx.get1 h1 u1,LY,if_neg (by simp;omega),hy.get1 h2 v1,fnK_ok,Yi,e1,c1_ok,asI_ok]
 have OUT:∀(q:List Int) (i:Nat),a[i]? = some q->b.length<=i->q344_F1 (R E) Zq E.glob (q344_s1 x y (.fn 343 []) x (a.length:Int) (i:Int) h)=some (.ret,q344_x1_0 1 h):=fun q i hq hb=>by
  have h1:=Zf hq
  obtain ⟨u,u1,u2,_⟩:=ra i q hq
  rw [q344_r1,if_pos (by simp;omega),hx.get1 h1 u1,LY,if_pos (by simp;omega)]
 obtain ⟨r,h1,h2⟩:=Ztd (F:=q344_F1 (R E) Zq E.glob) (s:=fun i=>q344_s1 x y (.fn 343 []) x (a.length:Int) (i:Int) h) (k3:=q344_k3 (R E) Zq E.glob h) (x0:=fun r=>q344_x1_0 r h) hl
  (by rw [q344_r1,if_neg (by simp)]) (by rw [q344_e1_1,LX,LY]) (fun r=>by rw [q344_e1_0]) (fun q p i hq hp=>by
   have h3:=Zf hq
   have:=ELT q p i hq hp
   rwa [Zo (by omega)] at this) OUT
 refine ⟨r,Zd hE.fn ?_,h2⟩
 rw [q344_eq,LX]
 exact h1
structure ExAt (h:Za) (x:List Cell) (evs:List Evt) (rf:List Int) (co:List (List Int)):Prop where
 e:∃a b c,x=[a,b,c]/\SlAt h a 6 (Zif evs) evs.length/\Low h.length a/\SlAt h b 1 (intC .i64 rf) rf.length/\Low h.length b/\RowsOf 1 (intC .i64) h c co
 n:evs.length<=100000/\rf.length<=100000/\co.length<=100000/\∀r∈co,r.length<=100000
theorem ExAt.keep {h h':Za} {x:List Cell} {evs:List Evt} {rf:List Int} {co:List (List Int)} (a:ExAt h x evs rf co) (hk:Kp h.length h h'):ExAt h' x evs rf co:=by
 obtain ⟨⟨u,v,w,e,h1,h2,h3,h4,h5⟩,n⟩:=a
 exact ⟨⟨u,v,w,e,h1.keep h2 hk,Zau hk.1 h2,h3.keep h4 hk,Zau hk.1 h4,h5.keep hk⟩,n⟩
theorem ExAt.len {h:Za} {x:List Cell} {evs:List Evt} {rf:List Int} {co:List (List Int)} (a:ExAt h x evs rf co):x.length=3:=by
 obtain ⟨⟨u,v,w,e,_⟩,_⟩:=a
 rw [e];rfl
theorem XSame_R (hE:q303_In E) {h:Za} {x y:List Cell} {ea eb:List Evt} {ra rb:List Int} {ca cb:List (List Int)} (hx:ExAt h x ea ra ca) (hy:ExAt h y eb rb cb) :
  ∃v,R E 303 [.agg x,.agg y] h=some ([.c (.bool v)],h)/\(v=true↔ea=eb/\ra=rb/\ca=cb):=by
 obtain ⟨⟨x0,x1,x2,rfl,a1,_,a2,_,a3⟩,n1,n2,n3,n4⟩:=hx
 obtain ⟨⟨y0,y1,y2,rfl,b1,_,b2,_,b3⟩,_⟩:=hy
 obtain ⟨r0,e0,z0⟩:=CmpEvs_R hE.c316.c342 hE.c316.c341 a1 b1 (by omega)
 obtain ⟨r1,e1,z1⟩:=Zri hE.c316.c343 a2 b2 (by omega)
 obtain ⟨r2,e2,z2⟩:=Zq730 hE.c316.c344 hE.c316.c343 a3 b3 (by omega) fun r hr=>by have:=n4 r hr;omega
 obtain ⟨r,h1,h2⟩:=Or_R hE.c316.c345 (lit_at h [r0,r1,r2]) (by simp)
 have hc:R E 316 [.agg [x0,x1,x2],.agg [y0,y1,y2]] h=some ([.c (.int .i64 r)],h):=by
  refine Zd hE.c316.fn ?_
  have f0:∀{α:Type} (a b c:Cell) (f:Cell->Option α),Ze [a,b,c] 0 f=f a:=fun _ _ _ _=>rfl
  have f1:∀{α:Type} (a b c:Cell) (f:Cell->Option α),Ze [a,b,c] 1 f=f b:=fun _ _ _ _=>rfl
  have f2:∀{α:Type} (a b c:Cell) (f:Cell->Option α),Ze [a,b,c] 2 f=f c:=fun _ _ _ _=>rfl
  rw [q316_eq,f0,f0,e0,qh_ok,c1_ok,asI_ok,f1,f1,e1,qh_ok,c1_ok,asI_ok,f2,f2,e2,qh_ok,c1_ok,asI_ok,if_pos (by rfl)]
  show c1 (qh (h++[some ⟨true,1,intC .i64 [r0,r1,r2]⟩]) (R E 345 [.c (.sl h.length (intC .i64 [r0,r1,r2]).length 0 3)] (h++[some ⟨true,1,intC .i64 [r0,r1,r2]⟩]))) _=_
  have h1':=h1
  rw [show ([r0,r1,r2]:List Int).length=3 from rfl] at h1'
  rw [h1',qh_ok,c1_ok,asI_ok]
  exact Zdj (Kp.app _ (Yf _)) fun v hv=>by rw [Yas] at hv;subst hv;simp [Zlc,AV.cells,Zgq]
 refine ⟨r==0,Zd hE.fn ?_,?_⟩
 ·rw [q303_eq,if_pos ⟨by trivial,by rfl⟩,if_pos ⟨by trivial,by rfl⟩,hc,c1_ok,asI_ok]
 ·rw [beq_iff_eq,h2]
  simp only [Ybl,Ycy,or_false,forall_eq_or_imp,forall_eq,z0,z1,z2]
end
section
variable {V:MV} {row:List Int} (r:Ran V row)
include r
theorem Ran.thrN {d:Nat} {s:Stp} (hs:(V.runs row).st[d]? = some s) (hk:s.kind≠6):∃t:Nat,t<4/\s.pick=(t:Int)/\s.t=(t:Int)/\t<V.P.thr.length:=by
 have hi:=Zf hs
 rw [r.len] at hi
 obtain ⟨p,h1,h2,h3,h4,h5⟩:=r.step hi
 rw [hs] at h4
 cases h4
 have T:=(r.told d (by omega)).inv
 by_cases hp4:p<4
 ·refine ⟨p,hp4,h5,(T.thr_step hp4 h2).t,?_⟩
  have h6:=(T.nxt (MV.may_thr hp4 h2)).2.2.2.2
  rw [(r.keep d).1] at h6
  unfold PProg.code at h6
  rcases Yad p V.P.thr.length with c | c
  ·exact c
  ·rw [if_pos (by omega),Yc,Yz,Yu c] at h6
   simp at h6
 ·obtain ⟨c,w,F⟩:=T.fe hp4 h2
  exact absurd F.kind hk
theorem Ran.rdloc {i g:Nat} {s q:Stp} (hs:(V.runs row).st[i]? = some s) (hr:rdS s=true) (hf:s.frm=(g:Int)) (hq:(V.runs row).st[g]? = some q):q.loc=s.loc:=by
 have hi:=Zf hs
 rw [r.len] at hi
 obtain ⟨p,h1,h2,h3,h4,h5⟩:=r.step hi
 rw [hs] at h4
 cases h4
 have T:=r.told i (by omega)
 have e:=r.stk (Yq hi)
 have hmm:=(r.keep i).2
 have TE:=r.end
 generalize hS:V.runs (row.take i)=S at *
 have hk:(S.stp p).kind=1∨(S.stp p).kind=4∨(S.stp p).kind=5:=by unfold rdS at hr;simp at hr;omega
 by_cases hp4:p<4
 ·have ST:=T.inv.thr_step hp4 h2
  have h6:=(ST.read hk).2
  have hl:=ST.loc
  generalize (S.stp p).loc=c at *
  cases hne:Zcj c (S.b p) with
  | some e0 =>
   rw [hne] at h6
   obtain ⟨g',hg',⟨_,q',w1,_,_,w4,_⟩,_⟩:=T.has hne
   rw [e] at w1
   have:g'=g:=by dsimp only at h6;omega
   subst this
   rw [(Zap.1 w1).2] at hq
   cases hq
   exact w4
  | none =>
   rw [hne] at h6
   dsimp only at h6
   have hcc:((c.toNat:Nat):Int)=c:=by omega
   rcases T.h3.mm c.toNat (by omega) with ⟨m1,_⟩ | ⟨w,u,m1,m2,m3,_⟩
   ·omega
   ·rw [hcc] at m2
    rw [←h6,hf] at m3
    rw [e] at m1
    have hu:=(Zap.1 m1).2
    rcases m3 with ⟨_,a2⟩ | ⟨a1,a2⟩
    ·have:g=w:=by omega
     subst this
     rw [hu] at hq
     cases hq
     exact m2.2
    ·obtain ⟨_,g',b1,_,z,b2,_,_,b3⟩:=TE.h3.fl w u hu a1
     have:g'=g:=by omega
     subst this
     rw [hq] at b2
     cases b2
     rw [b3,m2.2]
 ·obtain ⟨c,w,F⟩:=T.inv.fe hp4 h2
  have:=F.kind;omega
theorem Ran.wr {i:Nat} {u:Stp} (n0:Nat) (hu:(V.runs row).st[i]? = some u) (hw:wrS u V.m=true):∃(g:Nat) (q:Stp),Zfu u i (g:Int)/\(V.runs row).st[g]? = some q/\q.kind≠6/\q.loc=u.loc/\pw n0 (V.runs row).st i=Zbp n0 (V.runs row).st g:=by
 by_cases h6:u.kind=6
 ·obtain ⟨_,g,b1,_,z,b2,b3,_,b4⟩:=r.end.h3.fl i u hu h6
  refine ⟨g,z,.inr ⟨h6,b1⟩,b2,by omega,b4,?_⟩
  unfold pw
  rw [hu]
  dsimp only
  rw [if_pos h6,b1,Yc]
 ·refine ⟨i,u,.inl ⟨h6,rfl⟩,hu,h6,rfl,?_⟩
  unfold pw
  rw [hu]
  dsimp only
  rw [if_neg h6]
theorem Ran.wr_un {i j g:Nat} {u x:Stp} (hu:(V.runs row).st[i]? = some u) (hw:wrS u V.m=true) (hx:(V.runs row).st[j]? = some x) (hwx:wrS x V.m=true) (h1:Zfu u i (g:Int)) (h2:Zfu x j (g:Int)):i=j:=by
 have fl:∀{i j:Nat} {u x:Stp},(V.runs row).st[i]? = some u->wrS u V.m=true->(V.runs row).st[j]? = some x->u.kind≠6->(g:Int)=(i:Int)->x.kind=6->x.frm=(g:Int)->False:=fun hu hw hx h6 hg h6' hf=>by
  obtain ⟨hm,g',b1,_,z,b2,b3,_,_⟩:=r.end.h3.fl _ _ hx h6'
  have:g'=_:=Ycm.inj (b1.symm.trans (hf.trans hg))
  subst this
  rw [hu] at b2
  cases b2
  rw [r.keepE.2] at hm
  unfold wrS at hw
  rw [b3] at hw
  simp at hw
  exact hm hw
 rcases h1 with ⟨a1,a2⟩ | ⟨a1,a2⟩<;>rcases h2 with ⟨b1,b2⟩ | ⟨b1,b2⟩
 ·omega
 ·exact (fl hu hw hx a1 a2 b1 b2).elim
 ·exact (fl hx hwx hu b1 b2 a1 a2).elim
 ·exact r.end.h3.un i u j x hu hx a1 b1 (by rw [a2,b2])
theorem Ran.plc_inj {n0 i j:Nat} {s x:Stp} (hs:(V.runs row).st[i]? = some s) (hk:s.kind≠6) (hx:(V.runs row).st[j]? = some x) (hkx:x.kind≠6) (h:Zbp n0 (V.runs row).st i=Zbp n0 (V.runs row).st j):i=j:=by
 obtain ⟨t,_,_,h1,_⟩:=r.thrN hs hk
 obtain ⟨u,_,_,h2,_⟩:=r.thrN hx hkx
 exact Ztz hs h1 hk hx h2 hkx h
theorem Ran.pw_inj {n0 i j:Nat} {u x:Stp} (hu:(V.runs row).st[i]? = some u) (hw:wrS u V.m=true) (hx:(V.runs row).st[j]? = some x) (hwx:wrS x V.m=true) (h:pw n0 (V.runs row).st i=pw n0 (V.runs row).st j):i=j:=by
 obtain ⟨g,q,a1,a2,a3,_,a5⟩:=r.wr n0 hu hw
 obtain ⟨g',q',b1,b2,b3,_,b5⟩:=r.wr n0 hx hwx
 rw [a5,b5] at h
 have:=r.plc_inj a2 a3 b2 b3 h
 subst this
 exact r.wr_un hu hw hx hwx a1 b1
theorem Ran.plc_ge {n0 i:Nat} {s:Stp} (hs:(V.runs row).st[i]? = some s) (hk:s.kind≠6):n0<=Zbp n0 (V.runs row).st i:=by
 obtain ⟨t,_,_,h1,_⟩:=r.thrN hs hk
 rw [Zhf hs h1 hk];omega
end
theorem Ran.rdev {V:MV} {row:List Int} (r:Ran V row) {i g:Nat} {s q:Stp} (hsi:(V.runs row).st[i]? = some s) (hr:rdS s=true) (hg:s.frm=(g:Int)) (hq:(V.runs row).st[g]? = some q):q.kind≠6:=fun h6=>by
 have hm:=r.keepE.2
 rcases r.end.h3.rd i s hsi hr with ⟨h1,_⟩ | ⟨w,u,_,h2,h3,h4,_⟩ | ⟨_,g',h1,_,q',h3,h4,_⟩
 ·omega
 ·rw [hm] at h3
  obtain ⟨g2,q2,c1,c2,c3,_⟩:=r.wr 0 h2 h3.1
  have:g2=g:=by
   rcases h4 with ⟨a1,a2⟩ | ⟨a1,a2⟩<;>rcases c1 with ⟨b1,b2⟩ | ⟨b1,b2⟩
   ·omega
   ·exact absurd b1 a1
   ·exact absurd a1 b1
   ·omega
  subst this
  rw [hq] at c2
  cases c2
  exact c3 h6
 ·have:g'=g:=by omega
  subst this
  rw [hq] at h3
  cases h3
  omega
section
variable {V:MV} {row rowb:List Int} (r:Ran V row) (rb:Ran V rowb) {D:List Nat} (hP:∀k,k<=D.length->Part V row (D.take k) (V.runs (rowb.take k))) (hl:D.length<=rowb.length) (he:Zdd V.P (V.runs row).st=Zdd V.P (V.runs rowb).st)
include r rb hP hl
omit r rb hl in
theorem Zja:Part V row D (V.runs (rowb.take D.length)):=by
 have:=hP D.length (Yf _)
 rwa [Yah] at this
theorem Zhg {k d:Nat} (hk:D[k]? = some d):∃s s',(V.runs row).st[d]? = some s/\(V.runs rowb).st[k]? = some s'/\SameS D s s':=by
 obtain ⟨s,s',h1,h2,h3⟩:=(Zja hP).st k d hk
 rw [rb.stk hl] at h2
 exact ⟨s,s',h1,(Zap.1 h2).2,h3⟩
theorem Zvg {k i t:Nat} {s:Stp} (hk:k<=D.length) (hs:(V.runs row).st[i]? = some s) (t4:t<4) (hp:s.pick=(t:Int)) (hi:i ∉ D.take k) (hpre:∀(d:Nat) (x:Stp),(V.runs row).st[d]? = some x->x.pick=(t:Int)->d<i->d∈D.take k):((V.runs row).st.take i).countP (evP t)=((V.runs rowb).st.take k).countP (evP t):=by
 have p:=hP k hk
 obtain ⟨c,c1,c2,_,c4⟩:=p.loc t t4
 rw [rb.stk (by omega)] at c4
 have hil:=Zf hs
 rw [r.len] at hil
 rw [c4]
 refine (r.sameC c1 (Yq hil) fun d x hx hxp=>?_).symm
 rw [←c2 d x hx hxp]
 constructor
 ·intro h
  rcases Yp d i with z | z | z
  ·exact z
  ·exact absurd (z ▸ h) hi
  ·exact absurd (p.cl' h (Zca z hs hx (by rw [hp,hxp]))) hi
 ·exact hpre d x hx hxp
include he
theorem Zlm {k d:Nat} {s:Stp} (hk:D[k]? = some d) (hs:(V.runs row).st[d]? = some s) (h6:s.kind≠6):Zbp V.P.init.length (V.runs rowb).st k=Zbp V.P.init.length (V.runs row).st d:=by
 have p:=Zja hP
 obtain ⟨s1,s',h1,h2,h3⟩:=Zhg r rb hP hl hk
 rw [hs] at h1
 cases h1
 obtain ⟨t,t4,a1,a2,a3⟩:=r.thrN hs h6
 refine (Zmk he hs a2 h6 h2 (by rw [h3.t,a2]) (by rw [h3.kind];exact h6) a3 (Zvg r rb hP hl (Yq (Zf hk)) hs t4 a1 (fun h=>?_) fun d' x hx hxp hd=>?_)).1.symm
 ·obtain ⟨k',hk'⟩:=Yn.1 h
  obtain ⟨q1,q2⟩:=Zap.1 hk'
  have:=p.nd k k' d hk q2;omega
 ·obtain ⟨k',q1,q2⟩:=p.cl k d hk d' (Zca hd hx hs (by rw [a1,hxp]))
  exact Yg (Zap.2 ⟨q1,q2⟩)
theorem turn_pw {k d:Nat} {s:Stp} (hk:D[k]? = some d) (hs:(V.runs row).st[d]? = some s) (hw:wrS s V.m=true):pw V.P.init.length (V.runs rowb).st k=pw V.P.init.length (V.runs row).st d:=by
 obtain ⟨s1,s',h1,h2,h3⟩:=Zhg r rb hP hl hk
 rw [hs] at h1
 cases h1
 have hw':wrS s' V.m=true:=by unfold wrS at hw ⊢;rw [h3.kind];exact hw
 obtain ⟨g,q,a1,a2,a3,_,a5⟩:=r.wr V.P.init.length hs hw
 obtain ⟨g',q',b1,b2,b3,_,b5⟩:=rb.wr V.P.init.length h2 hw'
 rw [a5,b5]
 rcases a1 with ⟨e1,e2⟩ | ⟨e1,e2⟩<;>rcases b1 with ⟨f1,f2⟩ | ⟨f1,f2⟩
 ·have e3:g=d:=by omega
  have f3:g'=k:=by omega
  subst e3 f3
  exact Zlm r rb hP hl he hk a2 a3
 ·rw [h3.kind] at f1;exact absurd f1 e1
 ·rw [h3.kind] at f1;exact absurd e1 f1
 ·rcases h3.frm with ⟨c1,_⟩ | ⟨f,k',c1,c2,c3⟩
  ·omega
  ·have e3:g=f:=by omega
   have f3:g'=k':=by omega
   subst e3 f3
   exact Zlm r rb hP hl he c3 a2 a3
variable (hlt:D.length<rowb.length) {y:Nat} {sy:Stp} (hy:(V.runs row).st[y]? = some sy) (hyD:y ∉ D) (hpk:rowb[D.length]? = some sy.pick) (hpre:∀(d:Nat) (x:Stp),(V.runs row).st[d]? = some x->x.pick=sy.pick->d<y->d∈D)
include hlt hy hyD hpk hpre
theorem Zlb (h6:sy.kind≠6):∃u,(V.runs rowb).st[D.length]? = some u/\u.t=sy.t/\u.kind=sy.kind/\u.loc=sy.loc/\Zbp V.P.init.length (V.runs rowb).st D.length=Zbp V.P.init.length (V.runs row).st y:=by
 obtain ⟨t,t4,a1,a2,a3⟩:=r.thrN hy h6
 obtain ⟨p,b1,b2,b3,b4,b5⟩:=rb.step hlt
 rw [hpk,a1] at b1
 have:p=t:=by have:=Yl.inj b1;omega
 subst this
 obtain ⟨c1,c2⟩:=rb.thr_pick b4 b5 t4
 obtain ⟨d1,d2,d3,_,_⟩:=Zmk he hy a2 h6 b4 c2 c1 a3 (Zvg r rb hP hl (Yf _) hy t4 a1 (by rw [Yah];exact hyD) fun d x hx hxp hd=>by rw [Yah];exact hpre d x hx (by rw [hxp,a1]) hd)
 exact ⟨_,b4,by rw [c2,a2],d2,d3,d1.symm⟩
theorem Zod (h6:sy.kind=6):∃(u:Stp) (g k:Nat),(V.runs rowb).st[D.length]? = some u/\u.kind=6/\u.t=sy.t/\u.loc=sy.loc/\sy.frm=(g:Int)/\u.frm=(k:Int)/\D[k]? = some g:=by
 have p:=Zja hP
 obtain ⟨t,_,a1,c,_,a2,a3⟩:=r.flu hy h6
 obtain ⟨pk,b1,_,_,b4,b5⟩:=rb.step hlt
 generalize (V.runs (rowb.take D.length)).stp pk=u at *
 have hpick:u.pick=sy.pick:=by rw [b5];exact (Yl.inj (hpk.symm.trans b1)).symm
 have hu6:u.kind=6:=by
  rcases Ycn (u.kind=6) with z | z
  ·exact z
  ·obtain ⟨_,_,e1,_⟩:=rb.thr b4 z
   rw [hpick,a3] at e1
   by_cases hm:V.m=2
   ·rw [if_pos hm] at e1;omega
   ·rw [if_neg hm] at e1;omega
 obtain ⟨t',_,d1,c',_,d2,d3⟩:=rb.flu b4 hu6
 rw [hpick,a3] at d3
 have htt:t'=t:=by
  by_cases hm:V.m=2
  ·rw [if_pos hm,if_pos hm] at d3;omega
  ·rw [if_neg hm,if_neg hm] at d3;omega
 have hcc:V.m≠2->c'=c:=fun hm=>by rw [if_neg hm,if_neg hm] at d3;omega
 obtain ⟨m1,k,k1,k2,z,k3,k4,k5,k6⟩:=rb.end.h3.fl _ u b4 hu6
 obtain ⟨_,g,g1,g2,q,g3,g4,g5,g6⟩:=r.end.h3.fl _ sy hy h6
 have hmV:=r.z.inv.fit.m
 obtain ⟨d,hd⟩:∃d,D[k]? = some d:=⟨_,Ya k2⟩
 obtain ⟨x,x',e1,e2,e3⟩:=Zhg r rb hP hl hd
 rw [k3] at e2
 cases e2
 have hxt:x.t=q.t:=by rw [←e3.t,k5,d1,htt,←a1,g5]
 have hxl:V.m=3->x.loc=q.loc:=fun h3=>by rw [←e3.loc,k6,d2,hcc (by omega),←a2,g6]
 have hx2:x.kind=2:=by rw [←e3.kind];exact k4
 obtain ⟨_,_,p1,p2⟩:=r.thr e1 (by omega)
 obtain ⟨_,_,p3,p4⟩:=r.thr g3 (by omega)
 have hdg:d=g:=by
  rcases Yp d g with z | z | z
  ·exfalso
   obtain ⟨j,f,j1,j2,j3,j4⟩:=r.fifo hy h6 g1 e1 z hx2 (by rw [hxt,g5]) fun h3=>by rw [hxl h3,g6]
   obtain ⟨_,g',f1,_,z',f3,_,f5,f6⟩:=r.end.h3.fl j f j2 j3
   have:g'=d:=by omega
   subst this
   rw [e1] at f3
   cases f3
   obtain ⟨t2,_,h1,c2,_,h2,h3⟩:=r.flu j2 j3
   have hjD:=hpre j f j2 (by
    have:t2=t:=by rw [←f5,hxt,g5] at h1;omega
    rw [h3,a3,this]
    by_cases hm:V.m=2
    ·rw [if_pos hm,if_pos hm]
    ·have:=hxl (by rw [rb.keepE.2] at m1;omega)
     have:c2=c:=by rw [←f6,this,g6] at h2;omega
     rw [this]) j1
   obtain ⟨k',hk'⟩:=Yn.1 hjD
   obtain ⟨f0,f',q1,q2,q3⟩:=Zhg r rb hP hl hk'
   rw [j2] at q1
   cases q1
   have:=rb.end.h3.un k' f' _ u q2 b4 (by rw [q3.kind,j3]) hu6 (by rw [p.frm' q3 j4 hd,k1])
   have:=Zf hk'
   omega
  ·exact z
  ·exfalso
   obtain ⟨k',q1,q2⟩:=p.cl k d hd g (Zca z g3 e1 (by rw [p1,p3,←p2,←p4,hxt]))
   obtain ⟨f0,f',q3,q4,q5⟩:=Zhg r rb hP hl q2
   rw [g3] at q3
   cases q3
   obtain ⟨j,f,j1,j2,j3,j4⟩:=rb.fifo b4 hu6 k1 q4 q1 (by rw [q5.kind,g4]) (by rw [q5.t,←hxt,←e3.t,k5]) fun h3=>by rw [q5.loc,←hxl h3,←e3.loc,k6]
   obtain ⟨d',hd'⟩:∃d',D[j]? = some d':=⟨_,Ya j1⟩
   obtain ⟨f1,f2,q6,q7,q8⟩:=Zhg r rb hP hl hd'
   rw [j2] at q7
   cases q7
   have:=r.end.h3.un d' f1 y sy q6 hy (by rw [←q8.kind,j3]) h6 (by rw [p.frm q8 j4 q2,g1])
   exact hyD (this ▸ Yg hd')
 rw [hdg] at hd
 exact ⟨u,g,k,b4,hu6,by rw [d1,htt,a1],by rw [←k6,e3.loc,←g6];rw [hdg,g3] at e1;cases e1;rfl,g1,k1,hd⟩
theorem Zza (hw:wrS sy V.m=true):∃u,(V.runs rowb).st[D.length]? = some u/\Zcg V.m u sy.loc/\pw V.P.init.length (V.runs rowb).st D.length=pw V.P.init.length (V.runs row).st y:=by
 by_cases h6:sy.kind=6
 ·obtain ⟨u,g,k,h1,h2,_,h3,h4,h5,h6'⟩:=Zod r rb hP hl he hlt hy hyD hpk hpre h6
  obtain ⟨_,g',b1,_,q,b2,b3,_,_⟩:=r.end.h3.fl _ sy hy h6
  have:g'=g:=by omega
  subst this
  refine ⟨u,h1,⟨by unfold wrS;rw [h2];rfl,h3⟩,?_⟩
  unfold pw
  rw [h1,hy]
  dsimp only
  rw [if_pos h2,if_pos h6,h4,h5,Yc,Yc]
  exact Zlm r rb hP hl he h6' b2 (by omega)
 ·obtain ⟨u,h1,_,h2,h3,h4⟩:=Zlb r rb hP hl he hlt hy hyD hpk hpre h6
  refine ⟨u,h1,⟨by unfold wrS at hw ⊢;rw [h2];exact hw,h3⟩,?_⟩
  unfold pw
  rw [h1,hy]
  dsimp only
  rw [if_neg (by rw [h2];exact h6),if_neg h6,h4]
set_option maxHeartbeats 1000000 in
theorem turn_no {x:Nat} (hxD:x ∉ D) (hb:Zbx (V.runs row).st V.m x y=true) {rf:List Int} (fa:RfOk V.P.init.length (V.runs row).st (Zdd V.P (V.runs row).st).length rf) (fb:RfOk V.P.init.length (V.runs rowb).st (Zdd V.P (V.runs row).st).length rf)
  (hco:∀c:Nat,c<4->(∃(i:Nat) (u:Stp),(V.runs row).st[i]? = some u/\Zcg V.m u (c:Int))->coL V.P.init.length (V.runs row).st V.m c=coL V.P.init.length (V.runs rowb).st V.m c) (hrl:∀(i:Nat) (s:Stp),(V.runs row).st[i]? = some s->rdS s=true->s.loc<V.P.init.length)
  (hrb:∀(i:Nat) (s:Stp),(V.runs rowb).st[i]? = some s->rdS s=true->s.loc<V.P.init.length):False:=by
 have p:=Zja hP
 have H:=r.end.h3
 have Hb:=rb.end.h3
 have hm:=r.keepE.2
 have hmb:=rb.keepE.2
 rw [←hm] at hb
 have hxy:=H.rises hb
 rw [hm] at hb
 have of:=fun {k d} h=>Zhg (k:=k) (d:=d) r rb hP hl h
 have pl:=fun {k d s} h1 h2 h3=>Zlm (k:=k) (d:=d) (s:=s) r rb hP hl he h1 h2 h3
 have co:∀{c:Int} {i:Nat} {u:Stp},(V.runs row).st[i]? = some u->Zcg V.m u c->Zcg V.m sy c->i<y->∃(i':Nat) (u':Stp),i'<D.length/\(V.runs rowb).st[i']? = some u'/\Zcg V.m u' c/\pw V.P.init.length (V.runs rowb).st i'=pw V.P.init.length (V.runs row).st i:=fun {c i u} hu hw hwy hiy=>by
  have hc:=H.loc i u hu
  rw [hw.2] at hc
  have hcc:((c.toNat:Nat):Int)=c:=by omega
  obtain ⟨i',y',u',v',h1,h2,h3,h4,h5,h6,h7⟩:=co_order (hco c.toNat (by omega) ⟨i,u,hu,by rw [hcc];exact hw⟩) hu (by rw [hcc];exact hw) hy (by rw [hcc];exact hwy) hiy
  obtain ⟨v,w1,w2,w3⟩:=Zza r rb hP hl he hlt hy hyD hpk hpre hwy.1
  have:=rb.pw_inj h4 h5.1 w1 w2.1 (by rw [h7,w3])
  rw [hcc] at h3
  exact ⟨i',u',by omega,h2,h3,h6⟩
 have inD:∀{i i':Nat} {u u':Stp},(V.runs row).st[i]? = some u->wrS u V.m=true->i'<D.length->(V.runs rowb).st[i']? = some u'->wrS u' V.m=true->pw V.P.init.length (V.runs rowb).st i'=pw V.P.init.length (V.runs row).st i->i∈D:=fun hu hw hl' hu' hw' hpw=>by
  obtain ⟨d,hd⟩:∃d,D[_]? = some d:=⟨_,Ya hl'⟩
  obtain ⟨s,s',e1,e2,e3⟩:=of hd
  rw [hu'] at e2
  cases e2
  have hws:wrS s V.m=true:=by unfold wrS at hw' ⊢;rw [←e3.kind];exact hw'
  rw [turn_pw r rb hP hl he hd e1 hws] at hpw
  have:=r.pw_inj e1 hws hu hw hpw
  exact this ▸ Yg hd
 unfold Zbx at hb
 rw [Ym] at hb
 rcases hb with hb | hb
 ·rw [Yb] at hb
  have hb:=hb.2
  unfold Zqe at hb
  cases hsx:(V.runs row).st[x]? with
  | none=>rw [hsx] at hb;simp at hb
  | some sx =>
   rw [hsx,hy] at hb
   dsimp only at hb
   unfold Zgm at hb
   simp only [Ym,Yb,beq_iff_eq] at hb
   rcases hb with ((h1 | h1) | h1) | h1
   ·exact hxD (hpre x sx hsx h1 hxy)
   ·obtain ⟨i',u',e1,e2,e3,e4⟩:=co (c:=sx.loc) hsx ⟨h1.1.1,rfl⟩ ⟨h1.1.2,h1.2.symm⟩ hxy
    exact hxD (inD hsx h1.1.1 e1 e2 e3.1 e4)
   ·obtain ⟨u,g,k,_,_,_,_,e1,_,e2⟩:=Zod r rb hP hl he hlt hy hyD hpk hpre h1.1
    have:g=x:=by omega
    exact hxD (this ▸ Yg e2)
   ·have hk:sy.kind=3∨sy.kind=4∨sy.kind=5:=by have:=h1.2;unfold fnS at this;simp at this;omega
    have hk6:sy.kind≠6:=by omega
    obtain ⟨m1,g,g1,g2,q,g3,g4,g5,g6⟩:=H.fl x sx hsx h1.1.1
    obtain ⟨_,_,p1,p2⟩:=r.thr hy hk6
    obtain ⟨_,_,p3,p4⟩:=r.thr g3 (by omega)
    have hgD:=hpre g q g3 (by rw [p3,←p4,g5,h1.1.2,p2,p1]) (by omega)
    obtain ⟨k,hk'⟩:=Yn.1 hgD
    obtain ⟨s0,s',e1,e2,e3⟩:=of hk'
    rw [g3] at e1
    cases e1
    obtain ⟨u,w1,w2,w3,_,_⟩:=Zlb r rb hP hl he hlt hy hyD hpk hpre hk6
    obtain ⟨j,f,_,j1,j2,j3,j4⟩:=rb.free w1 (by rw [w3];exact hk) e2 (Zf hk') (by rw [e3.kind,g4]) (by rw [e3.t,g5,h1.1.2,w2]) (by rw [←hm];exact m1)
    obtain ⟨d',hd'⟩:∃d',D[j]? = some d':=⟨_,Ya j1⟩
    obtain ⟨f1,f2,q6,q7,q8⟩:=of hd'
    rw [j2] at q7
    cases q7
    have:=H.un d' f1 x sx q6 hsx (by rw [←q8.kind,j3]) h1.1.1 (by rw [p.frm q8 j4 hk',g1])
    exact hxD (this ▸ Yg hd')
 ·obtain ⟨i,hi,hb⟩:=Ybt.1 hb
  unfold rdE at hb
  cases hsi:(V.runs row).st[i]? with
  | none=>rw [hsi] at hb;simp at hb
  | some s =>
   rw [hsi] at hb
   dsimp only at hb
   rw [Yb] at hb
   obtain ⟨hr,hb⟩:=hb
   have hk:s.kind≠6:=fun h=>by unfold rdS at hr;rw [h] at hr;simp at hr
   unfold Zee at hb
   cases hf:Zcy (V.runs row).st V.m s with
   | none=>rw [hf] at hb;simp at hb
   | some f =>
    rw [hf] at hb
    simp only [Ym,Yb,decide_eq_true_eq,bne_iff_ne] at hb
    have ev:∀{g:Nat} {q:Stp},(V.runs row).st[g]? = some q->s.frm=(g:Int)->q.kind≠6:=fun hq hg=>r.rdev hsi hr hg hq
    rcases hb with ⟨⟨⟨hfar,hf0⟩,hx⟩,hiy⟩ | ⟨⟨⟨hix,hfy⟩,hne⟩,hwy⟩
    ·-- what is read comes of another thread
     subst hiy
     rw [hy] at hsi
     cases hsi
     unfold Zsy at hfar
     cases hg:(V.runs row).st[sy.frm.toNat]? with
     | none=>rw [hg] at hfar;simp at hfar
     | some q =>
      rw [hg] at hfar
      dsimp only at hfar
      rw [Yb,decide_eq_true_eq,bne_iff_ne] at hfar
      obtain ⟨hfr,hqt⟩:=hfar
      have hgn:sy.frm=((sy.frm.toNat:Nat):Int):=by omega
      generalize sy.frm.toNat=g at *
      have hq6:=ev hg hgn
      obtain ⟨u,w1,w2,w3,w4,w5⟩:=Zlb r rb hP hl he hlt hy hyD hpk hpre hk
      have hru:rdS u=true:=by unfold rdS at hr ⊢;rw [w3];exact hr
      have e1:=fa.rd y sy hy hr
      have e2:=fb.rd _ u w1 hru
      rw [w5,e1] at e2
      have e3:=Yl.inj e2
      unfold rfV at e3
      have hge:=r.plc_ge (n0:=V.P.init.length) hg hq6
      have hlu:=hrb _ u w1 hru
      rw [if_pos hfr.1,hgn,Yc] at e3
      by_cases h0:0<=u.frm
      ·rw [if_pos h0] at e3
       have hxw:∃sx,(V.runs row).st[x]? = some sx/\wrS sx V.m=true/\Zfu sx x (g:Int):=by
        have hc:Zcv (V.runs row).st V.m g=(x:Int):=by
         unfold Zcy at hf
         rw [if_pos hfr,hgn,Yc] at hf
         split at hf
         ·cases hf
         ·have:=Yl.inj hf;omega
        unfold Zcv at hc
        rw [hg] at hc
        dsimp only at hc
        split at hc
        ·rename_i hwq
         have:g=x:=by omega
         subst this
         exact ⟨q,hg,hwq,.inl ⟨hq6,rfl⟩⟩
        ·split at hc
         ·rename_i j hj
          have:j=x:=by omega
          subst this
          obtain ⟨j1,j2,_⟩:=Yy.1 hj
          unfold Zfr at j2
          rw [Yb,beq_iff_eq,beq_iff_eq] at j2
          exact ⟨_,Ya j1,by unfold wrS;rw [j2.1];rfl,.inr j2⟩
         ·omega
       obtain ⟨sx,x1,x2,x3⟩:=hxw
       have hpx:pw V.P.init.length (V.runs row).st x=Zbp V.P.init.length (V.runs row).st g:=by
        unfold pw
        rw [x1]
        dsimp only
        rcases x3 with ⟨a1,a2⟩ | ⟨a1,a2⟩
        ·rw [if_neg a1]
         have:x=g:=by omega
         rw [this]
        ·rw [if_pos a1,a2,Yc]
       rcases Hb.rd _ u w1 hru with ⟨h1,_⟩ | ⟨w,u',h1,h2,h3,h4,_⟩ | ⟨_,g',h1,h2,q',h3,h4,h5,_⟩
       ·omega
       ·rw [hmb] at h3
        refine hxD (inD x1 x2 h1 h2 h3.1 ?_)
        rw [hpx]
        unfold pw
        rw [h2]
        dsimp only
        rcases h4 with ⟨a1,a2⟩ | ⟨a1,a2⟩
        ·rw [if_neg a1]
         rw [a2,Yc] at e3;omega
        ·rw [if_pos a1,a2];omega
       ·obtain ⟨d,hd⟩:∃d,D[g']? = some d:=⟨_,Ya h2⟩
        obtain ⟨z,z',q6,q7,q8⟩:=of hd
        rw [h3] at q7
        cases q7
        have hz6:z.kind≠6:=by rw [←q8.kind];omega
        have e4:=pl hd q6 hz6
        rw [h1,Yc] at e3
        have:=r.plc_inj (n0:=V.P.init.length) hg hq6 q6 hz6 (by omega)
        subst this
        rw [hg] at q6
        cases q6
        exact hqt (by rw [←q8.t,h5,w2])
      ·rw [if_neg h0] at e3;omega
    ·-- what is read is overwritten
     subst hix
     obtain ⟨ty,ht1⟩:∃z,z=y:=⟨y,rfl⟩
     have hwy2:Zcg V.m sy s.loc:=by
      unfold wrE at hwy
      rw [hy] at hwy
      dsimp only at hwy
      rw [Yb,beq_iff_eq] at hwy
      exact hwy
     obtain ⟨u,w1,w2,w3⟩:=Zza r rb hP hl he hlt hy hyD hpk hpre hwy2.1
     rw [hwy2.2] at w2
     obtain ⟨t,t4,a1,a2,a3⟩:=r.thrN hsi hk
     obtain ⟨x',s',b1,b2,b3⟩:=Zyh (p:=evP t) (l:=(V.runs rowb).st) (n:=((V.runs row).st.take x).countP (evP t)) (by rw [←Zyu he a3];exact Zny hsi (Zev a2 hk))
     have b2':s'.t=(t:Int)/\s'.kind≠6:=by
      unfold evP at b2
      rw [Yb,beq_iff_eq,bne_iff_ne] at b2
      exact b2
     obtain ⟨c1,c2,c3,_,_⟩:=Zmk he hsi a2 hk b1 b2'.1 b2'.2 a3 b3.symm
     have hrs:rdS s'=true:=by unfold rdS at hr ⊢;rw [c2];exact hr
     have hx'D:D.length<x':=by
      rcases Yp x' D.length with z | z | z
      ·exfalso
       obtain ⟨d,hd⟩:∃d,D[x']? = some d:=⟨_,Ya z⟩
       obtain ⟨z1,z',q6,q7,q8⟩:=of hd
       rw [b1] at q7
       cases q7
       have hz6:z1.kind≠6:=by rw [←q8.kind];exact b2'.2
       have e4:=pl hd q6 hz6
       have:=r.plc_inj (n0:=V.P.init.length) hsi hk q6 hz6 (by omega)
       exact hxD (this ▸ Yg hd)
      ·exfalso
       subst z
       rw [w1] at b1
       cases b1
       have hk6:sy.kind≠6:=fun h6=>by
        obtain ⟨u2,_,_,v1,v2,_⟩:=Zod r rb hP hl he hlt hy hyD hpk hpre h6
        rw [w1] at v1
        cases v1
        exact b2'.2 v2
       obtain ⟨u2,v1,_,_,_,v5⟩:=Zlb r rb hP hl he hlt hy hyD hpk hpre hk6
       have:=r.plc_inj (n0:=V.P.init.length) hsi hk hy hk6 (by omega)
       omega
      ·exact z
     have e1:=fa.rd x s hsi hr
     have e2:=fb.rd x' s' b1 hrs
     rw [←c1,e1] at e2
     have e3:=Yl.inj e2
     unfold rfV at e3
     have hls:=hrl x s hsi hr
     have hls':=hrb x' s' b1 hrs
     have evb:∀{g:Nat} {q:Stp},(V.runs rowb).st[g]? = some q->s'.frm=(g:Int)->q.kind≠6:=fun hq hg=>rb.rdev b1 hrs hg hq
     have src:∀{g':Nat} {q':Stp},s'.frm=(g':Int)->(V.runs rowb).st[g']? = some q'->Zbp V.P.init.length (V.runs rowb).st g'>=V.P.init.length:=fun h1 h2=>rb.plc_ge h2 (evb h2 h1)
     by_cases h0:0<=s.frm
     ·rw [if_pos h0] at e3
      have hfl:s.frm<(V.runs row).st.length:=by
       rcases H.rd x s hsi hr with ⟨h1,_⟩ | ⟨w,u,_,h2,h3,h4,_⟩ | ⟨_,g',h1,h2,_⟩
       ·omega
       ·obtain ⟨g2,h5,h6,_⟩:=H.came h2 h3.1 h4;omega
       ·have:=Zf hsi;omega
      have hgn:s.frm=((s.frm.toNat:Nat):Int):=by omega
      have hg:(V.runs row).st[s.frm.toNat]? = some ((V.runs row).st[s.frm.toNat]'(by omega)):=Ya _
      generalize (V.runs row).st[s.frm.toNat]'(by omega)=q at hg
      generalize s.frm.toNat=g at *
      have hq6:=ev hg hgn
      have hql:=r.rdloc hsi hr hgn hg
      have hge:=r.plc_ge (n0:=V.P.init.length) hg hq6
      by_cases h0':0<=s'.frm
      ·rw [if_pos h0'] at e3
       have hfw:∃(f':Nat) (sf:Stp),f=(f':Int)/\(V.runs row).st[f']? = some sf/\Zcg V.m sf s.loc/\Zfu sf f' (g:Int):=by
        unfold Zcy at hf
        rw [if_pos ⟨h0,hfl⟩,hgn,Yc] at hf
        split at hf
        ·cases hf
        ·rename_i hc0
         have hff:=Yl.inj hf
         unfold Zcv at hff hc0
         rw [hg] at hff hc0
         dsimp only at hff hc0
         split at hff
         ·rename_i hwq
          exact ⟨g,q,hff.symm,hg,⟨hwq,hql⟩,.inl ⟨hq6,rfl⟩⟩
         ·rename_i hwq
          rw [if_neg hwq] at hc0
          split at hff
          ·rename_i j hj
           obtain ⟨j1,j2,_⟩:=Yy.1 hj
           unfold Zfr at j2
           rw [Yb,beq_iff_eq,beq_iff_eq] at j2
           obtain ⟨_,g2,d1,_,z,d2,_,_,d3⟩:=H.fl j _ (Ya j1) j2.1
           have:g2=g:=by omega
           subst this
           rw [hg] at d2
           cases d2
           exact ⟨j,_,hff.symm,Ya j1,⟨by unfold wrS;rw [j2.1];rfl,by rw [←d3,hql]⟩,.inr j2⟩
          ·rename_i hj
           rw [hj] at hc0
           exact absurd (show (-1:Int)<0 by omega) hc0
       obtain ⟨f',sf,f1,f2,f3,f4⟩:=hfw
       obtain ⟨i',u',i1,i2,i3,i4⟩:=co f2 f3 hwy2 (by omega)
       have hpf:pw V.P.init.length (V.runs row).st f'=Zbp V.P.init.length (V.runs row).st g:=by
        unfold pw
        rw [f2]
        dsimp only
        rcases f4 with ⟨a1,a2⟩ | ⟨a1,a2⟩
        ·rw [if_neg a1]
         have:f'=g:=by omega
         rw [this]
        ·rw [if_pos a1,a2,Yc]
       rcases Hb.rd x' s' b1 hrs with ⟨h1,_⟩ | ⟨w,u2,h1,h2,h3,h4,h5⟩ | ⟨m1,g',h1,h2,q',h3,h4,_,h5⟩
       ·omega
       ·rw [hmb] at h3 h5
        have hpw:pw V.P.init.length (V.runs rowb).st w=pw V.P.init.length (V.runs rowb).st i':=by
         rw [i4,hpf]
         conv=>lhs;unfold pw
         rw [h2]
         dsimp only
         rcases h4 with ⟨a1,a2⟩ | ⟨a1,a2⟩
         ·rw [if_neg a1]
          rw [a2,Yc] at e3;omega
         ·rw [if_pos a1,a2];omega
        have:=rb.pw_inj h2 h3.1 i2 i3.1 hpw
        exact h5 D.length u (by omega) hx'D w1 (by rw [c3];exact w2)
       ·rw [h1,Yc] at e3
        obtain ⟨g3,q3,d1,d2,d3,_,d5⟩:=rb.wr V.P.init.length i2 i3.1
        have hg3:=rb.plc_inj (n0:=V.P.init.length) d2 d3 h3 (by omega) (by omega)
        subst hg3
        rcases d1 with ⟨k1,k2⟩ | ⟨k1,k2⟩
        ·have:i'=g3:=by omega
         subst this
         rw [i2] at h3
         cases h3
         have hw:=i3.1
         rw [hmb] at m1
         unfold wrS at hw
         rw [h4] at hw
         simp at hw
         exact m1 hw
        ·exact h5 i' u' (by omega) i2 k1 k2
      ·rw [if_neg h0'] at e3;omega
     ·rw [if_neg h0] at e3
      by_cases h0':0<=s'.frm
      ·rw [if_pos h0'] at e3
       have hfl:s'.frm<(V.runs rowb).st.length:=by
        rcases Hb.rd x' s' b1 hrs with ⟨h1,_⟩ | ⟨w,u,_,h2,h3,h4,_⟩ | ⟨_,g',h1,h2,_⟩
        ·omega
        ·obtain ⟨g2,h5,h6,_⟩:=Hb.came h2 h3.1 h4;omega
        ·have:=Zf b1;omega
       have:=src (g':=s'.frm.toNat) (by omega) (Ya (show s'.frm.toNat<_ by omega))
       omega
      ·rcases Hb.rd x' s' b1 hrs with ⟨_,h2⟩ | ⟨w,u,_,h2,h3,h4,_⟩ | ⟨_,g',h1,h2,_⟩
       ·rw [hmb] at h2
        exact h2 D.length u hx'D w1 (by rw [c3];exact w2)
       ·obtain ⟨g2,h5,h6,_⟩:=Hb.came h2 h3.1 h4;omega
       ·omega
end
section
variable (C:Zab) (L:Zbv) (G:Glo)
variable {h h0:Za}
variable {x2 x6 x8 x22:Cell}
variable {a1 a7 a23 a24:Int}
variable {l0:List Cell}
theorem q271_eq:q271.body C L G [(.agg l0),(.c (.int .i64 a1)),(.c x2)] h0=if 0=0/\l0.length=3 then c2 (C 278 [(.agg l0),(.c (.int .i64 a1)),(.c x2)] h0) fun y y1 h=>asC y fun x=>Zk .i64 y1 fun n=>Zcu false x .nilp fun b=>if b=true then some ([(.c .nils),(.c (.int .i64 0)),(.c (.bool false))],h) else c1 (C 175 [(.c x)] h) fun y h=>asC y fun x1=>c1 (C 174 [(.c x)] h) fun y h=>asB y fun b=>some ([(.c x1),(.c (.int .i64 n)),(.c (.bool b))],h) else none:=by kernel_rfl
def q278_k2 (h0:Za):Ex->St->Rs:=Zac (fun st=>q278_p1.exec C L G st (q278.fin G h0)) (q278.fin G h0)
def q278_k3 (h0:Za):Ex->St->Rs:=Zag 0 (q278_k2 C L G h0)
def q278_s1 (x2 x8 x22:Cell) (a23 a24:Int) (h:Za):St:=⟨tops 2 (.v (.c x2) :: tops 5 (.v (.c x8) :: tops 13 (.v (.c x22) :: .v (.c (.int .i64 a23)) :: .v (.c (.int .i64 a24)) :: tops 18 []))),[none,none],h⟩
def q278_F1 :St->Option (Ex × St):=Zt (q278_b1.exec C L G) [2,8,22,23,24] [] [(0,[6,7],[]),(1,[2,8],[])]
def q278_x1_0 (x6:Cell) (a7:Int) (h:Za):St:=⟨tops 6 (.v (.c x6) :: .v (.c (.int .i64 a7)) :: tops 35 []),[none,none],h⟩
def q278_x1_1 (x2 x8:Cell) (h:Za):St:=⟨tops 2 (.v (.c x2) :: tops 5 (.v (.c x8) :: tops 34 [])),[none,none],h⟩
theorem q278_r1:q278_F1 C L G (q278_s1 x2 x8 x22 a23 a24 h)=if (decide (a24<a23))=true then Zl 1 x22 a24 fun k N o=>Zp h k N fun l=>Ze l o fun q=>Zk .i64 (.c q) fun n=>c2 (C 173 [(.c x8),(.c (.int .i64 n))] h) fun y y1 h1=>asA y fun l=>asB y1 fun b=>if 0=0/\(Yd 7 ci0).length=7/\l.length=7 then if (!b)=true then some (.ret,(q278_x1_0 x8 a24 h1)) else some (.normal,(q278_s1 x2 x8 x22 a23 (G.wrap .i64 (a24+1)) h1)) else none else some ((.exit 0),(q278_x1_1 x2 x8 h)):=by kernel_rfl
theorem q278_e1_0:(q278_k3 C L G h0) .ret (q278_x1_0 x6 a7 h)=some ([(.c x6),(.c (.int .i64 a7))],h):=by kernel_rfl
theorem q278_e1_1:(q278_k3 C L G h0) (.exit 0) (q278_x1_1 x2 x8 h)=Zz x2 fun n=>some ([(.c x8),(.c (.int .i64 n))],h):=by kernel_rfl
theorem q278_eq:q278.body C L G [(.agg l0),(.c (.int .i64 a1)),(.c x2)] h0=if 0=0/\l0.length=3 then c2 (C 171 [(.agg l0),(.c (.int .i64 a1))] h0) fun y y1 h=>asC y fun x=>Zk .i64 y1 fun n=>if (n != 0)=true then some ([(.c .nilp),(.c (.int .i64 0))],h) else Zz x2 fun n=>(L (q278_F1 C L G) (q278_s1 x2 x x2 n 0 h)).bind fun p=>(q278_k3 C L G h0) p.1 p.2 else none:=by kernel_rfl
end
structure Plays (P:PProg) (m:Int):Prop where
 small:P.small
 hu:∀x∈P.locs,0<=x/\x<256
 ll:P.locs.length<=1000
 il:P.init.length<=4
 hm:1<=m/\m<=3
 pok:Zue P=true
 inv:(MV.new P m).Inv
 good:P.good
 n4:P.thr.length<=4
theorem GoodP.plays {most:Nat} {P:PProg} (g:GoodP most P) (r:RunP P) (hu:∀x∈P.locs,0<=x/\x<256) {m:Int} (hm:1<=m/\m<=3):Plays P m :=
 ⟨g.small,hu,by have:=g.locs;have:=g.init;omega,by have:=g.init;omega,hm,r.pok,g.inv r hm,g.good,by have:=g.n;omega⟩
section
variable {E:Env}
theorem mayI_no {V:MV} {q:Int} (h:Zey V q=false):Zor V.word q=false:=by rw [←mayI_has];exact h
theorem prun_R (hE:q278_In E) {h:Za} {pc:List Cell} {P:PProg} (p:ProgAt h pc P) {m:Int} (pl:Plays P m) {y:Cell} {l:List Int} (hy:SlAt h y 1 (intC .i64 l) l.length) (hlow:Low h.length y) (hlen:l.length<90000) :
  ∃n k x' pc' h',R E 278 [.agg pc,.c (.int .i64 m),.c y] h=some ([.c (.ptr k 329 0),.c (.int .i64 (((MV.new P m).runG l).2:Int))],h')/\VmAt n h' k x' pc' ((MV.new P m).runs l)/\h.length<=n/\Kp h.length h h':=by
 obtain ⟨n,k0,pc',h1,r1,a1,hn,k1⟩:=VNew_R hE.c171 p pl.small pl.hu pl.ll pl.il pl.hm pl.pok
 have key:∀(t:List Int) (j:Nat) (V:MV) (x:Cell) (h2:Za),l.drop j=t->j<=l.length->V.st.length=j->V.Inv->VmAt n h2 k0 x pc' V->Kp h.length h h2 ->
   ∃x' h3,(Zq (q278_F1 (R E) Zq E.glob) (q278_s1 y (.ptr k0 329 0) y (l.length:Int) (j:Int) h2)).bind (fun p_17=>(q278_k3 (R E) Zq E.glob h) p_17.1 p_17.2)=some ([.c (.ptr k0 329 0),.c (.int .i64 ((j+(V.runG t).2:Nat):Int))],h3)/\VmAt n h3 k0 x' pc' (V.runG t).1/\Kp h.length h h3:=by
  intro t
  induction t with
  | nil =>
   intro j V x h2 hd hj hst v a kk
   have hjl:j=l.length:=by
    have:=congrArg Ycr hd
    rw [Ybr,Yar] at this;omega
   subst hjl
   have hy2:=hy.keep hlow kk
   have e1:q278_F1 (R E) Zq E.glob (q278_s1 y (.ptr k0 329 0) y (l.length:Int) (l.length:Int) h2)=some (.exit 0,q278_x1_1 y (.ptr k0 329 0) h2):=by
    rw [q278_r1,if_neg (by simp)]
   refine ⟨x,h2,?_,a,kk⟩
   rw [Zm e1,bind_ok]
   dsimp only
   rw [q278_e1_1,hy2.len]
   rfl
  | cons q t ih =>
   intro j V x h2 hd hj hst v a kk
   have hjl:j<l.length:=by
    rcases Yad j l.length with c | c
    ·exact c
    ·rw [Ys c] at hd;cases hd
   have hq:l[j]? = some q:=by
    have:=congrArg (fun z=>z[0]?) hd
    simp only [Yck,Ybu,Ybs] at this
    exact this
   have hd2:l.drop (j+1)=t:=by
    have:=congrArg (List.drop 1) hd
    rw [Ydb] at this
    simpa using this
   have hy2:=hy.keep hlow kk
   unfold MV.runG
   by_cases hm:Zey V q=true
   ·obtain ⟨i,rfl,hi,hin⟩:=Znp hm
    rw [if_pos hm,hin]
    obtain ⟨x3,h3,r3,a3,k3⟩:=Pick_R hE.c173 a v (by omega) hi
    have e1:q278_F1 (R E) Zq E.glob (q278_s1 y (.ptr k0 329 0) y (l.length:Int) (j:Int) h2)=some (.normal,q278_s1 y (.ptr k0 329 0) y (l.length:Int) ((j+1:Nat):Int) h3):=by
     rw [q278_r1,if_pos (by simp;omega),hy2.get1 hjl (Zar hq),asI_ok,r3,c2_ok,asA_ok,asB_ok,if_pos (by exact ⟨rfl,rfl,rfl⟩),if_neg (by simp),Zo (by omega)]
    obtain ⟨x4,h4,r4,a4,k4⟩:=ih (j+1) (V.nx i) x3 h3 hd2 (by omega) (by rw [V.nx_st,Ye,Yh,hst]) (v.nx hi) a3 (kk.trans (k3.kp.mono hn))
    refine ⟨x4,h4,?_,a4,k4⟩
    have hL:∀r,Zq (q278_F1 (R E) Zq E.glob) (q278_s1 y (.ptr k0 329 0) y (l.length:Int) ((j+1:Nat):Int) h3)=some r->Zq (q278_F1 (R E) Zq E.glob) (q278_s1 y (.ptr k0 329 0) y (l.length:Int) (j:Int) h2)=some r:=fun r hr=>Zat e1 hr
    cases hl:Zq (q278_F1 (R E) Zq E.glob) (q278_s1 y (.ptr k0 329 0) y (l.length:Int) ((j+1:Nat):Int) h3) with
    | none=>rw [hl] at r4;cases r4
    | some r =>
     rw [hl] at r4
     rw [hL r hl,r4,show j+1+((V.nx i).runG t).2=j+(((V.nx i).runG t).2+1) by omega]
   ·rw [if_neg hm]
    have hm':Zey V q=false:=by simpa using hm
    have r3:=Pick_no hE.c173 a v (mayI_no hm')
    have e1:q278_F1 (R E) Zq E.glob (q278_s1 y (.ptr k0 329 0) y (l.length:Int) (j:Int) h2)=some (.ret,q278_x1_0 (.ptr k0 329 0) (j:Int) h2):=by
     rw [q278_r1,if_pos (by simp;omega),hy2.get1 hjl (Zar hq),asI_ok,r3,c2_ok,asA_ok,asB_ok,if_pos (by exact ⟨rfl,rfl,rfl⟩),if_pos (by simp)]
    refine ⟨x,h2,?_,a,kk⟩
    rw [Zcf e1,bind_ok]
    dsimp only
    rw [q278_e1_0]
    rfl
 obtain ⟨x',h3,e1,e2,e3⟩:=key l 0 (MV.new P m) .nils h1 rfl (by omega) rfl pl.inv a1 k1
 refine ⟨n,k0,x',pc',h3,Zd hE.fn ?_,e2,hn,e3⟩
 rw [q278_eq,if_pos (by exact ⟨rfl,p.len⟩),r1,c2_ok,asC_ok,asI_ok,if_neg (by simp),hy.len]
 rw [Yal,show ((0:Nat):Int)=0 from rfl] at e1
 exact e1
theorem Zwo (hE:q271_In E) {h:Za} {pc:List Cell} {P:PProg} (p:ProgAt h pc P) {m:Int} (pl:Plays P m) {y:Cell} {l:List Int} (hy:SlAt h y 1 (intC .i64 l) l.length) (hlow:Low h.length y) (hlen:l.length<90000) :
  ∃z h',R E 271 [.agg pc,.c (.int .i64 m),.c y] h=some ([.c z,.c (.int .i64 (((MV.new P m).runG l).2:Int)),.c (.bool (((MV.new P m).runs l).word==0))],h')/\Own h.length h' z 7 (Zai ((MV.new P m).runs l).st) ((MV.new P m).runs l).st.length/\Kp h.length h h':=by
 obtain ⟨n,k,x',pc',h1,r1,a1,hn,k1⟩:=prun_R hE.c278 p pl hy hlow hlen
 obtain ⟨v,vP,vm⟩:=MV.runs_inv pl.inv l
 have vst:=(MV.runG_inv pl.inv l).2.2.2
 have hst:((MV.new P m).runs l).st.length<=100000:=by
  show ((MV.new P m).runG l).1.st.length<=100000
  rw [vst.1,show (MV.new P m).st.length=0 from rfl]
  have:=vst.2
  omega
 obtain ⟨z,h2,r2,o2,k2⟩:=Steps_R hE.c175 a1 v.fit hst
 have a2:=a1.keep k2
 have r3:=Done_R hE.c174 a2.blk v.fit (Zeq a2.prog a2.hn (Kp.refl n h2))
 refine ⟨z,h2,Zd hE.fn ?_,o2.monoN k1.1,k1.trans (k2.mono k1.1)⟩
 rw [q271_eq,if_pos (by exact ⟨rfl,p.len⟩),r1,c2_ok,asC_ok,asI_ok]
 rw [ptr_nil,if_neg (by simp),r2,c1_ok,asC_ok,r3,c1_ok,asB_ok]
end
section
variable {E:Env}
set_option maxHeartbeats 2000000 in
theorem TOf_R (hE:q315_In E) {h:Za} {pc:List Cell} {P:PProg} (p:ProgAt h pc P) {m:Int} {x2:Cell} {l:List Stp} (hx:SlAt h x2 7 (Zai l) l.length) (hlow:Low h.length x2) (k:StepsOk P m l) (hl:l.length<=500) (hil:P.init.length<=900) (hll:P.locs.length<=900) (hnt:P.thr.length<900) :
  ∃xs rf h',R E 315 [.agg pc,.c (.int .i64 m),.c x2] h=some ([.agg xs],h')/\ExAt h' xs (Zdd P l) rf (Zwc P m l)/\RfOk P.init.length l (Zdd P l).length rf/\Kp h.length h h':=by
 have hM:maxBytes>=10000*48:=by unfold maxBytes;omega
 have pl:=p.len
 obtain ⟨e,h1,r1,o1,k1⟩:=Inits_R hE.c88 p (by omega)
 obtain ⟨pa,pb,pcc,ts,rfl,⟨la,la'⟩,_,⟨lc,lc'⟩,_⟩:=p
 have oe:Own h.length (h1++[some ⟨true,1,intC .i64 (plF P.init.length l 0 0)⟩]) e 6 (Zif (evF P l 0 0)) (evF P l 0 0).length:=by
  have e0:evF P l 0 0=Zgk P.init:=by
   unfold evF
   rw [List.range_zero,List.flatMap_nil,Ybh,show Zeh (l.take 0) 0=[] from rfl,Yi]
  rw [e0,Zka]
  exact o1.via fun j b _ q=>Zas q _
 have hrep:rep l.length [ci0]=intC .i64 (plF P.init.length l 0 0):=by rw [rep_int,plF_zero k.t]
 have hpl:(intC .i64 (plF P.init.length l 0 0)).length=l.length:=by rw [intC_len,Ziq]
 have op:Own h.length (h1++[some ⟨true,1,intC .i64 (plF P.init.length l 0 0)⟩]) (.sl h1.length l.length 0 l.length) 1 (intC .i64 (plF P.init.length l 0 0)) l.length :=
  ⟨by rw [hpl];omega,.inr ⟨h1.length,by rw [hpl],k1.1,Zw _ _⟩⟩
 obtain ⟨st,⟨e2,h2,rfl,oe2,op2,k2⟩,hL2⟩:=Zcb (F:=q315_F2 (R E) Zq E.glob)
  (fun t st=>∃e' h',st=q315_s2 m x2 (.sl h1.length l.length 0 l.length) (P.thr.length:Int) (t:Int) [pa,pb,pcc] [Cell.nils,Cell.nils,Cell.nils] [e',.nils,.nils] h'/\Own h.length h' e' 6 (Zif (evF P l t 0)) (evF P l t 0).length/\Own h.length h' (.sl h1.length l.length 0 l.length) 1 (intC .i64 (plF P.init.length l t 0)) l.length/\Kp h.length h h') 0 P.thr.length (by omega)
  (fun t st _ ht=>by
   rintro ⟨e',h',rfl,oe,op,kk⟩
   obtain ⟨e3,h3,L3,oe3,op3,k3⟩:=Of_thr (E:=E) (P:=P) (b:=.nils) (c:=.nils) (by omega) (by omega) hx hlow (Yf _) kk.1 m (P.thr.length:Int) t (by omega) [pa,pb,pcc] [Cell.nils,Cell.nils,Cell.nils] kk oe op
   refine ⟨_,?_,e3,h3,rfl,oe3,op3,kk.trans k3⟩
   rw [q315_r2,if_pos (by simp;omega),hx.len,L3,bind_ok]
   dsimp only
   rw [q315_e1_3,Zo (by omega)]) (st:=q315_s2 m x2 (.sl h1.length l.length 0 l.length) (P.thr.length:Int) ((0:Nat):Int) [pa,pb,pcc] [Cell.nils,Cell.nils,Cell.nils] [e,.nils,.nils] (h1++[some ⟨true,1,intC .i64 (plF P.init.length l 0 0)⟩])) ⟨e,_,rfl,oe,op,k1.trans (Kp.app _ k1.1)⟩
 have L2:=hL2 _ (Zm (show q315_F2 (R E) Zq E.glob (q315_s2 m x2 (.sl h1.length l.length 0 l.length) (P.thr.length:Int) (P.thr.length:Int) [pa,pb,pcc] [Cell.nils,Cell.nils,Cell.nils] [e2,.nils,.nils] h2)=some (.exit 0,q315_x2_1 m x2 (.sl h1.length l.length 0 l.length) [pa,pb,pcc] [Cell.nils,Cell.nils,Cell.nils] [e2,.nils,.nils] h2) by rw [q315_r2,if_neg (by simp)]))
 rw [show ((0:Nat):Int)=0 from rfl] at L2
 rw [evF_all] at oe2
 have hel:(Zdd P l).length<=1400:=by
  have:=offs_le l P.thr.length
  rw [Ztj];omega
 have om1:Own h2.length (h2++[some ⟨true,1,[.int .i64 (-1)]⟩]) (.sl h2.length 1 0 1) 1 (intC .i64 [-1]) 1:=⟨rfl,.inr ⟨h2.length,rfl,Yf _,Zw _ _⟩⟩
 obtain ⟨z,h4,r4,oz,k4⟩:=Repeat_R hE.c340 (n:=(Zdd P l).length) (by omega) om1
 have kA:Kp h2.length h2 (h2++[some ⟨true,1,[.int .i64 (-1)]⟩]):=Kp.app _ (Yf _)
 have oe3:=oe2.keepK kA
 have op3:=op2.keepK kA
 have kh3:=k2.trans (kA.mono k2.1)
 have hx3:=hx.keep hlow kh3
 have hl3:=Zau kh3.1 hlow
 generalize hR:h2++[some (Blk.mk true 1 [.int .i64 (-1)])]=h3 at *
 have la4:=la.keep la' (kh3.trans (k4.mono kh3.1))
 obtain ⟨st,⟨y,h5,rfl,oc,k5⟩,hL3⟩:=Zcb (F:=q315_F3 (R E) Zq E.glob)
  (fun c st=>∃y h',st=q315_s3 m x2 (.sl h1.length l.length 0 l.length) (P.locs.length:Int) (c:Int) [Cell.nils,Cell.nils,Cell.nils] [e2,z,y] h'/\CoAt h4.length h' y ((Yk c).map fun (c:Nat)=>[(c:Int)])/\Kp h4.length h4 h') 0 P.locs.length (by omega)
  (fun c st _ hc=>by
   rintro ⟨y,h',rfl,oc,kk⟩
   obtain ⟨y',h6,ea,o6,k6⟩:=oc.push kk.1 (by rw [Yae,Yx];omega) (c:Int)
   refine ⟨_,?_,y',h6,rfl,?_,kk.trans k6⟩
   ·rw [q315_r3,if_pos (by simp;omega),Zae (show ([e2,z,y]:List Cell)[2]? = some y from rfl),if_pos (by rfl),if_pos (by rfl),show splice [ci0] 0 [(.int .i64 (c:Int))]=[.int .i64 (c:Int)] from rfl,show ([.int .i64 (c:Int)]:List Cell).length=1 from rfl,show splice [Cell.nils] 0 [.sl h'.length 1 0 1]=[.sl h'.length 1 0 1] from rfl,ea,if_pos (by simp),Zo (by omega)]
    rfl
   ·rw [Yac,Yan];exact o6) (st:=q315_s3 m x2 (.sl h1.length l.length 0 l.length) (P.locs.length:Int) ((0:Nat):Int) [Cell.nils,Cell.nils,Cell.nils] [e2,z,.nils] h4) ⟨.nils,h4,rfl,CoAt.nil _ _,Kp.refl _ _⟩
 have L3:=hL3 _ (Zm (show q315_F3 (R E) Zq E.glob (q315_s3 m x2 (.sl h1.length l.length 0 l.length) (P.locs.length:Int) (P.locs.length:Int) [Cell.nils,Cell.nils,Cell.nils] [e2,z,y] h5)=some (.exit 4,q315_x3_5 m x2 (.sl h1.length l.length 0 l.length) [Cell.nils,Cell.nils,Cell.nils] [e2,z,y] h5) by rw [q315_r3,if_neg (by simp)]))
 rw [show ((0:Nat):Int)=0 from rfl] at L3
 have oz5:=oz.keepK k5
 have hrf:RfP P.init.length l (Zdd P l).length 0 (Yd (Zdd P l).length (-1)):=⟨Yj,fun j s hj=>by omega,fun q hq _=>by rw [Ybv,if_pos hq]⟩
 have oc0:CoAt h4.length h5 y (Zhn P.init.length P.locs.length l m 0):=oc
 obtain ⟨h6,rf,L4,k6,oz6,hrf6,oc6⟩:=Of_last hE k hl hll rfl k4.1 hx3 hl3 op3.at op3.low [Cell.nils,Cell.nils,Cell.nils] (k4.trans (k5.mono k4.1)) k5.1 (e:=e2) (by rw [Yj];exact oz5) (fun j hj=>(oz.blkLt hj).1) hrf oc0
 refine ⟨[e2,z,y],rf,h6,Zd hE.fn ?_,⟨⟨e2,z,y,rfl,oe3.at.keep oe3.low k6,Zau k6.1 oe3.low,oz6.at,oz6.low,oc6.of⟩,by omega,by rw [hrf6.len];omega,by unfold Zwc;rw [Yae,Yx];omega,fun r hr=>?_⟩,hrf6,kh3.trans (k6.mono kh3.1)⟩
 ·have s3:∀a b c:Cell,([a,b,c]:List Cell).length=3:=fun _ _ _=>rfl
  have hi:(0:Int)<=(l.length:Int)/\(l.length:Int)<=(l.length:Int)/\(Int.toNat (l.length:Int))*8<=maxBytes/\(l.length:Int)<=(maxBytes:Nat):=⟨by omega,Ycs _,by rw [Yc];omega,by omega⟩
  rw [q315_eq,if_pos ⟨by trivial,by rfl⟩,r1,c1_ok,asC_ok,if_pos ⟨by trivial,by rfl,by rfl⟩,hx.len,if_pos hi,Zae (show ([pa,pb,pcc]:List Cell)[2]? = some pcc from rfl),lc.len,Yc,hrep,hpl,show splice [Cell.nils,Cell.nils,Cell.nils] 0 [e]=[e,.nils,.nils] from rfl,L2,bind_ok]
  dsimp only
  rw [q315_e2_1,if_pos (by rfl),Zae (show ([e2,.nils,.nils]:List Cell)[0]? = some e2 from rfl),oe2.at.len,show splice [ci0] 0 [(.int .i64 (-1))]=[.int .i64 (-1)] from rfl,show ([.int .i64 (-1)]:List Cell).length=1 from rfl,hR,r4,c1_ok,asC_ok,if_pos (by simp),Zae (show ([pa,pb,pcc]:List Cell)[0]? = some pa from rfl),la4.len,show ([e2,.nils,.nils]:List Cell).set 1 z=[e2,z,.nils] from rfl,L3,bind_ok]
  dsimp only
  rw [q315_e3_5,hx.len,L4,bind_ok]
  dsimp only
  rw [q315_e4_7,if_pos ⟨by trivial,by rfl⟩,if_pos ⟨by trivial,by rfl,by rfl⟩,if_pos ⟨by trivial,by rfl⟩]
 ·unfold Zwc at hr
  rw [List.mem_map] at hr
  obtain ⟨c,_,rfl⟩:=hr
  have:=Zzg P.init.length l m l.length c
  show (coK P.init.length l m l.length c).length<=_
  omega
end
theorem RfOk.uniq {n0 n:Nat} {l:List Stp} {a b:List Int} (ha:RfOk n0 l n a) (hb:RfOk n0 l n b):a=b:=by
 refine Ybo fun k=>?_
 rcases Yad k n with h | h
 ·by_cases he:∃(i:Nat) (s:Stp),l[i]? = some s/\rdS s=true/\Zbp n0 l i=k
  ·obtain ⟨i,s,h1,h2,rfl⟩:=he
   rw [ha.rd i s h1 h2,hb.rd i s h1 h2]
  ·have hn:∀(i:Nat) s,l[i]? = some s->rdS s=true->Zbp n0 l i≠k:=fun i s h1 h2 h3=>he ⟨i,s,h1,h2,h3⟩
   rw [ha.no k h hn,hb.no k h hn]
 ·rw [Yu (by rw [ha.len];exact h),Yu (by rw [hb.len];exact h)]
section
variable {V:MV} {row rowb:List Int} (r:Ran V row) (rb:Ran V rowb) {D:List Nat} (hP:∀k,k<=D.length->Part V row (D.take k) (V.runs (rowb.take k))) (hl:D.length=rowb.length) (hfull:∀d,d<row.length->d∈D)
include r rb hP hl hfull
end
def Zjd (P:PProg) (m:Int) (l:List Int):Bool:=((MV.new P m).runG l).2==l.length&&((MV.new P m).runs l).word==0
section
variable {E:Env}
end
theorem evOf_l3 {q:Ins} {l:Lcl} {v:Int} (hk:1<=q.kind/\q.kind<=4) (h:(evOf q l v).kind≠3):(evOf q l v).loc=q.loc/\q.kind≠3:=by
 unfold evOf at h ⊢
 by_cases h1:q.kind=1
 ·rw [if_pos h1];exact ⟨rfl,by omega⟩
 ·rw [if_neg h1] at h ⊢
  by_cases h2:q.kind=2
  ·rw [if_pos h2];exact ⟨rfl,by omega⟩
  ·rw [if_neg h2] at h ⊢
   by_cases h4:q.kind=4
   ·rw [if_pos h4]
    refine ⟨?_,by omega⟩
    split<;>rfl
   ·rw [if_neg h4] at h
    exact absurd rfl h
section
variable {V:MV} {row:List Int} (r:Ran V row)
include r
theorem Ran.loc4 {d:Nat} {s:Stp} (hs:(V.runs row).st[d]? = some s) (h3:s.kind≠3):0<=s.loc/\s.loc<V.P.locs.length:=by
 have key:∀{d:Nat} {s:Stp},(V.runs row).st[d]? = some s->s.kind≠3->s.kind≠6->0<=s.loc/\s.loc<V.P.locs.length:=fun {d s} hs h3 h6=>by
  have hi:=Zf hs
  rw [r.len] at hi
  obtain ⟨p,h1,h2,_,h4,h5⟩:=r.step hi
  rw [hs] at h4
  cases h4
  have T:=(r.told d (by omega)).inv
  by_cases hp4:p<4
  ·have hq:=MV.may_thr hp4 h2
   obtain ⟨_,q2,_,_,q5⟩:=T.nxt hq
   have hPP:=(r.keep d).1
   generalize V.runs (row.take d)=S at *
   have hS:S.stp p={ S.thrS p (S.thrI p) with pick:=p }:=by unfold MV.stp;rw [if_pos hp4]
   rw [hS] at h3 ⊢
   have h3':(evOf (S.thrI p) (S.l p) (S.val p (S.thrI p)).1).kind≠3:=h3
   obtain ⟨e1,e2⟩:=evOf_l3 q2 h3'
   show 0<=(evOf (S.thrI p) (S.l p) (S.val p (S.thrI p)).1).loc/\(evOf (S.thrI p) (S.l p) (S.val p (S.thrI p)).1).loc<_
   rw [e1]
   have hf:fldB (Zfz S.P) (S.thrI p)=true:=by
    unfold PProg.code at q5
    split at q5
    ·rw [Yz] at q5
     cases hc:S.P.thr[(p:Int).toNat]? with
     | none=>rw [hc] at q5;simp at q5
     | some c=>rw [hc] at q5;exact T.fld c (Yg hc) _ q5
    ·simp at q5
   have hh:Zfz S.P (S.thrI p).loc=true:=by
    unfold fldB at hf
    rcases (show (S.thrI p).kind=1∨(S.thrI p).kind=2∨(S.thrI p).kind=4 by omega) with k | k | k
    ·rw [if_pos k,Yb,Yb] at hf;exact hf.1.1
    ·rw [if_neg (by omega),if_pos k,Yb,Yb] at hf;exact hf.1.1
    ·rw [if_neg (by omega),if_neg (by omega),if_neg (by omega),if_pos k,Yb,Yb,Yb,Yb] at hf;exact hf.1.1.1.1
   unfold Zfz at hh
   rw [Yb,decide_eq_true_eq,decide_eq_true_eq,hPP] at hh
   exact hh
  ·obtain ⟨c,w,F⟩:=T.fe hp4 h2
   exact absurd F.kind h6
 by_cases h6:s.kind=6
 ·obtain ⟨_,g,_,_,q,g3,g4,_,g6⟩:=r.end.h3.fl d s hs h6
  rw [←g6]
  exact key g3 (by omega) (by omega)
 ·exact key hs h3 h6
theorem Ran.rdlt {i:Nat} {s:Stp} (hs:(V.runs row).st[i]? = some s) (hr:rdS s=true):s.frm<(V.runs row).st.length:=by
 have H:=r.end.h3
 rcases H.rd i s hs hr with ⟨h1,_⟩ | ⟨w,u,_,h2,h3,h4,_⟩ | ⟨_,g',h1,h2,_⟩
 ·omega
 ·obtain ⟨g2,h5,h6,_⟩:=H.came h2 h3.1 h4;omega
 ·have:=Zf hs;omega
theorem Ran.stepsOk:StepsOk V.P V.m (V.runs row).st where
 t:=fun i s hs=>by
  by_cases h6:s.kind=6
  ·obtain ⟨t,_,h,_⟩:=r.flu hs h6;omega
  ·obtain ⟨t,_,_,h⟩:=r.thr hs h6;omega
 thr:=fun i s hs h6=>by obtain ⟨t,_,_,h,h'⟩:=r.thrN hs h6;omega
 flu:=fun i s hs h6=>by
  obtain ⟨_,g,h1,h2,_⟩:=r.end.h3.fl i s hs h6
  have:=Zf hs
  exact ⟨g,h1,by omega⟩
 wr:=fun i s hs hw=>r.loc4 hs fun h3=>by unfold wrS at hw;rw [h3] at hw;simp at hw
 rd:=fun i s hs hr=>⟨fun h6=>by unfold rdS at hr;rw [h6] at hr;simp at hr,r.rdlt hs hr⟩
end
def Alike (P:PProg) (m:Int) (a b:List Stp):Prop:=Zdd P a=Zdd P b/\(∃rf,RfOk P.init.length a (Zdd P a).length rf/\RfOk P.init.length b (Zdd P b).length rf)/\Zwc P m a=Zwc P m b
theorem Plays.ran {P:PProg} {m:Int} (pl:Plays P m) (hll:P.locs.length=P.init.length) {row:List Int} (hw:(MV.new P m).whole row):Ran (MV.new P m) row:=⟨Told.new pl.inv pl.il hll,rfl,hw⟩
theorem maxB_iff {P:PProg} {m:Int} {l:List Int}:Zjd P m l=true↔(MV.new P m).whole l/\((MV.new P m).runs l).word=0:=by
 unfold Zjd MV.whole
 rw [Yb,beq_iff_eq,beq_iff_eq]
section
variable {E:Env}
theorem Form_R (hE:q302_In E) {h:Za} {pc:List Cell} {P:PProg} (p:ProgAt h pc P) {m:Int} (pl:Plays P m) (hll:P.locs.length=P.init.length) {y:Cell} {l:List Int} (hy:SlAt h y 1 (intC .i64 l) l.length) (hlow:Low h.length y) (hlen:l.length<=500) :
  ∃xs h',R E 302 [.agg pc,.c (.int .i64 m),.c y] h=some ([.agg xs,.c (.bool (Zjd P m l))],h')/\xs.length=3/\Kp h.length h h'/\(Zjd P m l=true->∃rf,ExAt h' xs (Zdd P ((MV.new P m).runs l).st) rf (Zwc P m ((MV.new P m).runs l).st)/\RfOk P.init.length ((MV.new P m).runs l).st (Zdd P ((MV.new P m).runs l).st).length rf):=by
 obtain ⟨z,h1,r1,o1,k1⟩:=Zwo hE.c271 p pl hy hlow (by omega)
 have hc:scK ((((MV.new P m).runG l).2:Int) != (l.length:Int)) false (some ((!(((MV.new P m).runs l).word==0)),h1)) true h1=fun (f:Bool->Za->Option (List AV × Za))=>f (!Zjd P m l) h1:=by
  funext f
  rw [scK_or]
  congr 1
  unfold Zjd
  rw [Bool.not_and]
  congr 1
  rw [Yay,bne_iff_ne]
  simp
  omega
 by_cases hm:Zjd P m l=true
 ·obtain ⟨hw,h0⟩:=maxB_iff.1 hm
  have r:=pl.ran hll hw
  have hst:=r.len
  have ko:StepsOk P m ((MV.new P m).runs l).st:=r.stepsOk
  have i4:=pl.il
  have n4:=pl.n4
  obtain ⟨xs,rf,h2,r2,x2,f2,k2⟩:=TOf_R hE.c315 (p.keep k1) o1.at o1.low ko (by omega) (by omega) (by omega) (by omega)
  refine ⟨xs,h2,Zd hE.fn ?_,x2.len,k1.trans (k2.mono k1.1),fun _=>⟨rf,x2,f2⟩⟩
  rw [q302_eq,if_pos ⟨by trivial,p.len⟩,r1,c3_ok,asC_ok,asI_ok,asB_ok,hy.len,hc]
  dsimp only
  rw [hm,if_neg (by simp),if_pos ⟨by trivial,p.len⟩,r2,c1_ok,asA_ok,if_pos ⟨by trivial,by rfl,x2.len⟩,if_pos ⟨by trivial,x2.len⟩]
 ·have hm':Zjd P m l=false:=by simpa using hm
  refine ⟨[.nils,.nils,.nils],h1,Zd hE.fn ?_,rfl,k1,fun c=>absurd c hm⟩
  rw [q302_eq,if_pos ⟨by trivial,p.len⟩,r1,c3_ok,asC_ok,asI_ok,asB_ok,hy.len,hc]
  dsimp only
  rw [hm',if_pos (by rfl),if_pos ⟨by trivial,by rfl,by rfl⟩,if_pos ⟨by trivial,by rfl⟩]
theorem Like_R (hE:q415_In E) {h:Za} {pc:List Cell} {P:PProg} (p:ProgAt h pc P) {m:Int} (pl:Plays P m) (hll:P.locs.length=P.init.length) {y z:Cell} {a b:List Int} (hy:SlAt h y 1 (intC .i64 a) a.length) (hyl:Low h.length y) (ha:a.length<=500) (hz:SlAt h z 1 (intC .i64 b) b.length) (hzl:Low h.length z) (hb:b.length<=500) :
  ∃v h',R E 415 [.agg pc,.c (.int .i64 m),.c y,.c z] h=some ([.c (.bool v)],h')/\Kp h.length h h'/\(v=true↔Zjd P m a=true/\Zjd P m b=true/\Alike P m ((MV.new P m).runs a).st ((MV.new P m).runs b).st):=by
 obtain ⟨xa,h1,r1,l1,k1,e1⟩:=Form_R hE.c302 p pl hll hy hyl ha
 obtain ⟨xb,h2,r2,l2,k2,e2⟩:=Form_R hE.c302 (p.keep k1) pl hll (hz.keep hzl k1) (Zau k1.1 hzl) hb
 have kk:=k1.trans (k2.mono k1.1)
 have head:∀v h',(scK (Zjd P m a) true (some (Zjd P m b,h2)) false h2 fun b_11 h_12=>scK b_11 true (if 0=0/\xa.length=3 then if 0=0/\xb.length=3 then c1 (R E 303 [.agg xa,.agg xb] h_12) fun y_14 h_13=>asB y_14 fun b_15=>some (b_15,h_13) else none else none) false h_12 fun b_16 h_17=>(some ([AV.c (Cell.bool b_16)],h_17):Option (List AV × Za)))=some ([.c (.bool v)],h') ->
   R E 415 [.agg pc,.c (.int .i64 m),.c y,.c z] h=some ([.c (.bool v)],h'):=fun v h' hh=>by
  refine Zd hE.fn ?_
  rw [q415_eq,if_pos ⟨by trivial,p.len⟩,r1,c2_ok,asA_ok,asB_ok,if_pos ⟨by trivial,by rfl,l1⟩,if_pos ⟨by trivial,p.len⟩,r2,c2_ok,asA_ok,asB_ok,if_pos ⟨by trivial,by rfl,l2⟩]
  exact hh
 by_cases hm:Zjd P m a=true/\Zjd P m b=true
 ·obtain ⟨rfa,xa1,fa⟩:=e1 hm.1
  obtain ⟨rfb,xb1,fb⟩:=e2 hm.2
  obtain ⟨v,r3,hv⟩:=XSame_R hE.c303 (xa1.keep k2) xb1
  refine ⟨v,h2,head v h2 ?_,kk,hv.trans ⟨fun ⟨q1,q2,q3⟩=>⟨hm.1,hm.2,q1,⟨rfa,fa,by rw [q2];exact fb⟩,q3⟩,fun ⟨_,_,q1,⟨rf,q2,q2'⟩,q3⟩=>⟨q1,by rw [fa.uniq q2,fb.uniq q2'],q3⟩⟩⟩
  rw [hm.1,hm.2,scK_and,Bool.and_self,scK_ok,if_pos ⟨by trivial,l1⟩,if_pos ⟨by trivial,l2⟩,r3,c1_ok,asB_ok,bind_ok]
 ·have hf:(Zjd P m a&&Zjd P m b)=false:=by
   rw [←Ycw,Yb];exact hm
  refine ⟨false,h2,head false h2 ?_,kk,fun c=>(by cases c),fun c=>absurd ⟨c.1,c.2.1⟩ hm⟩
  rw [scK_and,hf]
  rfl
end
section
def acA (n:Nat) (t:Bool) (P:Nat->Nat->Bool) (i j:Nat):List Cell:=Zs n (ACC n fun a b=>if t then upto i j b a&&P b a else upto i j a b&&P a b)
variable {E:Env}
def HP (H:Za) (cu cv:List Cell):Za:=(H++[some ⟨true,0,cu⟩])++[some ⟨true,0,cv⟩]
section
variable {n r:Nat} {f FX GY:Nat->Nat} {s k12 k15:Nat} {H:Za} {s0 s1:List Cell} {m:Nat}
abbrev tHP (H:Za) (n:Nat) (f:Nat->Nat) (s i j:Nat):Za:=HP H (acA n true (fun a b=>(f a).testBit b) i j) (acA n false (fun a b=>(f a).testBit b&&(s.testBit a&&s.testBit b)) i j)
end
end
section
variable (C:Zab) (L:Zbv) (G:Glo)
variable {h h0:Za}
variable {x0 x1 x2 x7 x12 x19 x32:Cell}
variable {a1 a2 a3 a4 a9 a14 a15 a18 a19 a33 a34 a65 a66:Int}
variable {l0 l1 s0 s1 s2:List Cell}
theorem q256_eq:q256.body C L G [(.c x0),(.c (.int .i64 a1))] h0=c1 (C 255 [(.c x0),(.c (.int .i64 a1))] h0) fun y h=>asA y fun l=>c1 (C 268 [(.agg l),(.c x0),(.c (.int .i64 a1))] h) fun y h=>asC y fun x=>some ([(.c x)],h):=by kernel_rfl
theorem q259_eq:q259.body C L G [(.c x0),(.c (.int .i64 a1))] h0=c1 (C 256 [(.c x0),(.c (.int .i64 a1))] h0) fun y h=>asC y fun x=>Zz x fun n=>some ([(.c (.bool (n==0)))],h):=by kernel_rfl
def q268_k2 (h0:Za):Ex->St->Rs:=Zac (fun st=>q268_p1.exec C L G st (q268.fin G h0)) (q268.fin G h0)
def q268_k3 (h0:Za):Ex->St->Rs:=Zag 0 (q268_k2 C L G h0)
def q268_s2 (x1:Cell) (a2:Int) (x7:Cell) (a14 a15:Int) (s0 s1:List Cell) (h:Za):St:=⟨tops 1 (.v (.c x1) :: .v (.c (.int .i64 a2)) :: .loc 0 0 :: tops 3 (.v (.c x7) :: .loc 1 0 :: tops 5 (.v (.c (.int .i64 a14)) :: .v (.c (.int .i64 a15)) :: tops 41 []))),[some s0,some s1],h⟩
def q268_F2 :St->Option (Ex × St):=Zt (q268_b2.exec C L G) [1,2,3,7,8,14,15] [0,1] [(1,[7],[])]
def q268_k4 :Ex->St->Option (Ex × St):=Zac (fun st=>q268_p2.exec C L G st (Zah [1,2,3,7,8,14,15] [0,1] [(1,[7],[])])) (Zah [1,2,3,7,8,14,15] [0,1] [(1,[7],[])])
def q268_k5 :Ex->St->Option (Ex × St):=Zag 1 (q268_k4 C L G)
def q268_k6 :Ex->St->Option (Ex × St):=Zag 2 (q268_k5 C L G)
def q268_s1 (x1:Cell) (a2:Int) (x7:Cell) (a9 a14:Int) (a15 a18 a19:Int) (s0 s1:List Cell) (h:Za):St:=⟨tops 1 (.v (.c x1) :: .v (.c (.int .i64 a2)) :: .loc 0 0 :: tops 3 (.v (.c x7) :: .loc 1 0 :: .v (.c (.int .i64 a9)) :: tops 4 (.v (.c (.int .i64 a14)) :: .v (.c (.int .i64 a15)) :: tops 2 (.v (.c (.int .i64 a18)) :: .v (.c (.int .i64 a19)) :: tops 37 [])))),[some s0,some s1],h⟩
def q268_F1 :St->Option (Ex × St):=Zt (q268_b1.exec C L G) [1,2,3,7,8,9,14,15,18,19] [0,1] [(3,[1,2,3,7,8,14,15],[0,1])]
def q268_x1_3 (x1:Cell) (a2:Int) (x7:Cell) (a14 a15:Int) (s0 s1:List Cell) (h:Za):St:=⟨tops 1 (.v (.c x1) :: .v (.c (.int .i64 a2)) :: .loc 0 0 :: tops 3 (.v (.c x7) :: .loc 1 0 :: tops 5 (.v (.c (.int .i64 a14)) :: .v (.c (.int .i64 a15)) :: tops 41 []))),[some s0,some s1],h⟩
def q268_x2_1 (x7:Cell) (h:Za):St:=⟨tops 7 (.v (.c x7) :: tops 49 []),[none,none],h⟩
theorem q268_r1:q268_F1 C L G (q268_s1 x1 a2 x7 a9 a14 a15 a18 a19 s0 s1 h)=if (decide (a19<a18))=true then if 0=0/\s0.length=65 then c1 (qh h (C 3 [(.agg s0),(.c (.int .i64 a19)),(.c (.int .i64 a9))] h)) fun y h1=>asB y fun b=>scK b true (if 0=0/\s0.length=65 then c1 (qh h (C 41 [(.agg s0),(.c (.int .i64 a19))] h)) fun y h1=>Zk .u64 y fun n=>if 0=0/\s1.length=65 then c1 (qh h (C 41 [(.agg s1),(.c (.int .i64 a9))] h)) fun y h1=>Zk .u64 y fun n1=>some (((G.band .u64 n n1)==0),h) else none else none) false h fun b h1=>scK b true (Zl 7 x1 a19 fun k N o=>Zp h1 k N fun l=>if o+7<=l.length then Zl 7 x1 a9 fun k N o1=>Zp h1 k N fun l1=>if o1+7<=l1.length then c1 (qh h1 (C 274 [(.agg ((l.drop o).take 7)),(.agg ((l1.drop o1).take 7)),(.c (.int .i64 a2))] h1)) fun y h=>asB y fun b=>some (b,h1) else none else none) false h1 fun b h1=>if b=true then if (splice (splice [ci0,ci0] 0 [(.int .i64 a19)]) 1 [(.int .i64 a9)]).length=2/\0+2<=[ci0,ci0].length then if (splice [ci0,ci0] 0 (splice (splice [ci0,ci0] 0 [(.int .i64 a19)]) 1 [(.int .i64 a9)])).length=1*2 then Zao 2 16 x7 (splice [ci0,ci0] 0 (splice (splice [ci0,ci0] 0 [(.int .i64 a19)]) 1 [(.int .i64 a9)])) h1 fun x h2=>some (.normal,(q268_s1 x1 a2 x a9 a14 a15 a18 (G.wrap .i64 (a19+1)) s0 s1 h2)) else none else none else some (.normal,(q268_s1 x1 a2 x7 a9 a14 a15 a18 (G.wrap .i64 (a19+1)) s0 s1 h1)) else none else some ((.exit 2),(q268_x1_3 x1 a2 x7 a14 a15 s0 s1 h)):=by kernel_rfl
theorem q268_e1_3:(q268_k6 C L G) (.exit 2) (q268_x1_3 x1 a2 x7 a14 a15 s0 s1 h)=some (.normal,(q268_s2 x1 a2 x7 a14 (G.wrap .i64 (a15+1)) s0 s1 h)):=by kernel_rfl
theorem q268_r2:q268_F2 C L G (q268_s2 x1 a2 x7 a14 a15 s0 s1 h)=if (decide (a15<a14))=true then (L (q268_F1 C L G) (q268_s1 x1 a2 x7 a15 a14 a15 a15 0 s0 s1 h)).bind fun p=>(q268_k6 C L G) p.1 p.2 else some ((.exit 0),(q268_x2_1 x7 h)):=by kernel_rfl
theorem q268_e2_1:(q268_k3 C L G h0) (.exit 0) (q268_x2_1 x7 h)=some ([(.c x7)],h):=by kernel_rfl
theorem q268_eq:q268.body C L G [(.agg l0),(.c x1),(.c (.int .i64 a2))] h0=if 0=0/\l0.length=65 then c1 (C 40 [(.agg l0)] h0) fun y h=>asA y fun l=>if 0=0/\([ci0]++Yd 64 (Cell.int .u64 0)).length=65/\l.length=65 then if 0=0/\l0.length=65 then c1 (C 14 [(.agg l0)] h) fun y h=>Zk .i64 y fun n=>(L (q268_F2 C L G) (q268_s2 x1 a2 .nils n 0 l0 l h)).bind fun p=>(q268_k3 C L G h0) p.1 p.2 else none else none else none:=by kernel_rfl
def q269_k2 (h0:Za):Ex->St->Rs:=Zac (fun st=>q269_p1.exec C L G st (q269.fin G h0)) (q269.fin G h0)
def q269_k3 (h0:Za):Ex->St->Rs:=Zag 0 (q269_k2 C L G h0)
def q269_s1 (a1:Int) (x2:Cell) (a3 a4:Int) (x12 x32:Cell) (a33 a34:Int) (s0:List Cell) (h:Za):St:=⟨tops 1 (.v (.c (.int .i64 a1)) :: .v (.c x2) :: .v (.c (.int .i64 a3)) :: .v (.c (.int .i64 a4)) :: .loc 0 0 :: tops 6 (.v (.c x12) :: tops 19 (.v (.c x32) :: .v (.c (.int .i64 a33)) :: .v (.c (.int .i64 a34)) :: tops 72 []))),[some s0,none,none],h⟩
def q269_F1 :St->Option (Ex × St):=Zt (q269_b1.exec C L G) [1,2,3,4,5,12,32,33,34] [0] [(1,[1,2,3,4,5,12],[0])]
def q269_x1_1 (a1:Int) (x2:Cell) (a3 a4:Int) (x12:Cell) (s0:List Cell) (h:Za):St:=⟨tops 1 (.v (.c (.int .i64 a1)) :: .v (.c x2) :: .v (.c (.int .i64 a3)) :: .v (.c (.int .i64 a4)) :: .loc 0 0 :: tops 6 (.v (.c x12) :: tops 94 [])),[some s0,none,none],h⟩
def q269_k4 (h0:Za):Ex->St->Rs:=Zac (fun st=>q269_p2.exec C L G st (q269.fin G h0)) (q269.fin G h0)
def q269_k5 (h0:Za):Ex->St->Rs:=Zag 2 (q269_k4 C L G h0)
def q269_s2 (a1 a3 a4:Int) (x12 x19:Cell) (a65 a66:Int) (s0 s2:List Cell) (h:Za):St:=⟨tops 1 (.v (.c (.int .i64 a1)) :: tops 1 (.v (.c (.int .i64 a3)) :: .v (.c (.int .i64 a4)) :: .loc 0 0 :: tops 6 (.v (.c x12) :: tops 5 (.loc 2 0 :: .v (.c x19) :: tops 45 (.v (.c (.int .i64 a65)) :: .v (.c (.int .i64 a66)) :: tops 40 []))))),[some s0,none,some s2],h⟩
def q269_F2 :St->Option (Ex × St):=Zt (q269_b2.exec C L G) [1,3,4,5,12,18,19,65,66] [0,2] [(3,[1,4,5,12,19],[0])]
def q269_x2_3 (a1 a4:Int) (x12 x19:Cell) (s0:List Cell) (h:Za):St:=⟨tops 1 (.v (.c (.int .i64 a1)) :: tops 2 (.v (.c (.int .i64 a4)) :: .loc 0 0 :: tops 6 (.v (.c x12) :: tops 6 (.v (.c x19) :: tops 87 [])))),[some s0,none,none],h⟩
theorem q269_r1:q269_F1 C L G (q269_s1 a1 x2 a3 a4 x12 x32 a33 a34 s0 h)=if (decide (a34<a33))=true then Zl 7 x32 a34 fun k N o=>Zp h k N fun l=>if o+7<=l.length then if 0=0/\(Yd 7 ci0).length=7/\((l.drop o).take 7).length=7 then Ze ((l.drop o).take 7) 0 fun q=>Zk .i64 (.c q) fun n=>if (splice [ci0] 0 [(.int .i64 n)]).length=1*1 then Zao 1 8 x12 (splice [ci0] 0 [(.int .i64 n)]) h fun x h1=>some (.normal,(q269_s1 a1 x2 a3 a4 x x32 a33 (G.wrap .i64 (a34+1)) s0 h1)) else none else none else none else some ((.exit 0),(q269_x1_1 a1 x2 a3 a4 x12 s0 h)):=by kernel_rfl
theorem q269_r2:q269_F2 C L G (q269_s2 a1 a3 a4 x12 x19 a65 a66 s0 s2 h)=if (decide (a66<a65))=true then scK (a66 != a3) true (if 0=0/\s2.length=65 then c1 (C 3 [(.agg s2),(.c (.int .i64 a3)),(.c (.int .i64 a66))] h) fun y h=>asB y fun b=>some ((!b),h) else none) false h fun b h1=>if b=true then Zl 1 x12 a66 fun k N o=>Zp h1 k N fun l=>Ze l o fun q=>Zk .i64 (.c q) fun n=>if (splice [ci0] 0 [(.int .i64 n)]).length=1*1 then Zao 1 8 x19 (splice [ci0] 0 [(.int .i64 n)]) h1 fun x h2=>some (.normal,(q269_s2 a1 a3 a4 x12 x a65 (G.wrap .i64 (a66+1)) s0 s2 h2)) else none else some (.normal,(q269_s2 a1 a3 a4 x12 x19 a65 (G.wrap .i64 (a66+1)) s0 s2 h1)) else some ((.exit 2),(q269_x2_3 a1 a4 x12 x19 s0 h)):=by kernel_rfl
theorem q269_e2_3:(q269_k5 C L G h0) (.exit 2) (q269_x2_3 a1 a4 x12 x19 s0 h)=Zl 1 x12 a4 fun k N o=>Zp h k N fun l=>Ze l o fun q=>Zk .i64 (.c q) fun n=>if (splice [ci0] 0 [(.int .i64 n)]).length=1*1 then Zao 1 8 x19 (splice [ci0] 0 [(.int .i64 n)]) h fun x h=>if 0=0/\s0.length=3 then c3 (C 271 [(.agg s0),(.c (.int .i64 a1)),(.c x)] h) fun y y1 y2 h=>asC y fun x1=>Zk .i64 y1 fun n=>asB y2 fun b=>Zz x fun n1=>if (n != n1)=true then some ([(.c .nils),(.c (.bool false))],h) else some ([(.c x),(.c (.bool true))],h) else none else none:=by kernel_rfl
theorem q269_e1_1:(q269_k3 C L G h0) (.exit 0) (q269_x1_1 a1 x2 a3 a4 x12 s0 h)=if 0=0/\s0.length=3 then c3 (C 271 [(.agg s0),(.c (.int .i64 a1)),(.c x12)] h) fun y y1 y2 h=>asC y fun x=>Zk .i64 y1 fun n=>asB y2 fun b=>Zz x12 fun n1=>scK (n != n1) false (c1 (C 276 [(.c x),(.c x2)] h) fun y h=>asB y fun b=>some ((!b),h)) true h fun b h=>if b=true then some ([(.c .nils),(.c (.bool false))],h) else c1 (C 255 [(.c x2),(.c (.int .i64 a1))] h) fun y h=>asA y fun l=>if 0=0/\([ci0]++Yd 64 (Cell.int .u64 0)).length=65/\l.length=65 then (L (q269_F2 C L G) (q269_s2 a1 a3 a4 x12 .nils a4 0 s0 l h)).bind fun p=>(q269_k5 C L G h0) p.1 p.2 else none else none:=by kernel_rfl
theorem q269_eq:q269.body C L G [(.agg l0),(.c (.int .i64 a1)),(.c x2),(.c (.int .i64 a3)),(.c (.int .i64 a4))] h0=c1 (C 256 [(.c x2),(.c (.int .i64 a1))] h0) fun y h=>asC y fun x=>c1 (C 275 [(.c x),(.agg (splice (splice [ci0,ci0] 0 [(.int .i64 a3)]) 1 [(.int .i64 a4)]))] h) fun y h=>asB y fun b=>if (!b)=true then some ([(.c .nils),(.c (.bool false))],h) else Zz x2 fun n=>(L (q269_F1 C L G) (q269_s1 a1 x2 a3 a4 .nils x2 n 0 l0 h)).bind fun p=>(q269_k3 C L G h0) p.1 p.2:=by kernel_rfl
theorem q274_eq:q274.body C L G [(.agg l0),(.agg l1),(.c (.int .i64 a2))] h0=Ze l0 1 fun q=>Zk .i64 (.c q) fun n=>Ze l1 1 fun q=>Zk .i64 (.c q) fun n1=>scK (n != n1) true (Ze l0 3 fun q=>Zk .i64 (.c q) fun n=>Ze l1 3 fun q=>Zk .i64 (.c q) fun n1=>some ((n==n1),h0)) false h0 fun b h=>scK b true (if 0=0/\l0.length=7 then c1 (C 257 [(.agg l0),(.c (.int .i64 a2))] h) fun y h=>asB y fun b=>scK b false (if 0=0/\l1.length=7 then c1 (C 257 [(.agg l1),(.c (.int .i64 a2))] h) fun y h=>asB y fun b=>some (b,h) else none) true h fun b h=>some (b,h) else none) false h fun b h=>some ([(.c (.bool b))],h):=by kernel_rfl
end
theorem Zzi {n:Nat} {f:Nat->Nat} {a b:Nat} (ha:a<n) (hb:b<64):hasR n f (a:Int) (b:Int)=(f a).testBit b:=by
 unfold hasR
 rw [inR_nat,decide_eq_true ha,Ybm,Yc,Zon hb]
def Zok (a b:Stp) (m:Int):Bool:=a.t != b.t&&(a.loc==b.loc&&(wrS a m||wrS b m))
def Zdc (n:Nat) (f:Nat->Nat) (l:List Stp) (m:Int) (i k:Nat):Bool:=match l[i]?,l[k]? with
 | some a,some b=>(f i).testBit k&&((f i &&& INV n f k)==0&&Zok a b m)
 | _,_=>false
def Zez (p:Nat->Bool) (k i:Nat):List (Int × Int):=((Yk i).filter p).map fun (j:Nat)=>((j:Int),(k:Int))
def Zdv (p:Nat->Nat->Bool):Nat->List (Int × Int)
 | 0=>[]
 | k+1=>Zdv p k++Zez (fun i=>p i k) k k
theorem Ztu (p:Nat->Bool) (k i:Nat):Zez p k (i+1)=Zez p k i++(if p i=true then [((i:Int),(k:Int))] else []):=by
 unfold Zez
 rw [Yac,Yv,Yan]
 congr 1
 by_cases h:p i=true
 ·rw [if_pos h,Yaq h];rfl
 ·rw [if_neg h,Ybc h];rfl
theorem Zqg (p:Nat->Bool) (k i:Nat):(Zez p k i).length<=i:=by
 unfold Zez
 rw [Yae]
 have:=Ybf p (Yk i)
 rwa [Yx] at this
theorem Zhk (p:Nat->Nat->Bool) {n:Nat} (hn:n<=64):∀k,k<=n->(Zdv p k).length<=k*64
 | 0,_=>Yf _
 | k+1,hk=>by
  unfold Zdv
  rw [Ye]
  have h1:=Zhk p hn k (by omega)
  have h2:=Zqg (fun i=>p i k) k k
  omega
section
variable {E:Env}
theorem meddle_R (hE:q274_In E) (a b:Stp) (m:Int) (h:Za):R E 274 [.agg a.cs,.agg b.cs,.c (.int .i64 m)] h=some ([.c (.bool (Zok a b m))],h):=by
 refine Zd hE.fn ?_
 rw [q274_eq,stp_t,asI_ok,stp_t,asI_ok,stp_loc,asI_ok,stp_loc,asI_ok,scK_and,if_pos ⟨by trivial,by rfl⟩,Zes hE.c257,c1_ok,asB_ok,if_pos ⟨by trivial,by rfl⟩,Zes hE.c257,c1_ok,asB_ok,scK_or,scK_and]
 unfold Zok
 rw [Ydd]
theorem In_R (hE:q268_In E) (ht:Zil E) {n:Nat} (hn:n<=64) {f:Nat->Nat} (hf:Zcx f) {x:Cell} {l:List Stp} {h:Za} (hx:SlAt h x 7 (Zai l) l.length) (hlow:Low h.length x) (hnl:n<=l.length) (m:Int) :
  ∃y h',R E 268 [.agg (Zs n f),.c x,.c (.int .i64 m)] h=some ([.c y],h')/\Own h.length h' y 2 (Zbo (Zdv (Zdc n f l m) n)) (Zdv (Zdc n f l m) n).length/\Kp h.length h h'/\Same0 h h':=by
 have hM:maxBytes>=10000*16:=by unfold maxBytes;omega
 obtain ⟨st,⟨y,h',rfl,o,kk,zz⟩,hL⟩:=Zcb (F:=q268_F2 (R E) Zq E.glob)
  (fun k st=>∃y h',st=q268_s2 x m y (n:Int) (k:Int) (Zs n f) (Zs n (INV n f)) h'/\Own h.length h' y 2 (Zbo (Zdv (Zdc n f l m) k)) (Zdv (Zdc n f l m) k).length/\Kp h.length h h'/\Same0 h h') 0 n (by omega)
  (fun k st _ hk=>by
   rintro ⟨y,h',rfl,o,kk,zz⟩
   have hlen:=Zhk (Zdc n f l m) hn k (by omega)
   obtain ⟨st2,⟨y2,h2,rfl,o2,kk2,zz2⟩,hL2⟩:=Zcb (F:=q268_F1 (R E) Zq E.glob)
    (fun i st=>∃y h',st=q268_s1 x m y (k:Int) (n:Int) (k:Int) (k:Int) (i:Int) (Zs n f) (Zs n (INV n f)) h'/\Own h.length h' y 2 (Zbo (Zdv (Zdc n f l m) k++Zez (fun i=>Zdc n f l m i k) k i)) (Zdv (Zdc n f l m) k++Zez (fun i=>Zdc n f l m i k) k i).length/\Kp h.length h h'/\Same0 h h') 0 k (by omega)
    (fun i st _ hi=>by
     rintro ⟨y,h',rfl,o,kk,zz⟩
     have hqi:l[i]? = some l[i]:=Ya (by omega)
     have hqk:l[k]? = some l[k]:=Ya (by omega)
     generalize l[i]=a at hqi
     generalize l[k]=b at hqk
     have hx':=hx.keep hlow kk
     obtain ⟨off,c,g1,g2,g3⟩:=hx'.stepG hqi
     obtain ⟨off',c',g1',g2',g3'⟩:=hx'.stepG hqk
     have hr:Zdc n f l m i k=((f i).testBit k&&((f i &&& INV n f k)==0&&Zok a b m)):=by unfold Zdc;rw [hqi,hqk]
     have hlk:=Zqg (fun i=>Zdc n f l m i k) k i
     have hrow:((if inR n (i:Int) then f (i:Int).toNat else 0:Nat))=f i:=by rw [inR_nat,decide_eq_true (show i<n by omega),if_pos rfl,Yc]
     have hrow':((if inR n (k:Int) then INV n f (k:Int).toNat else 0:Nat))=INV n f k:=by rw [inR_nat,decide_eq_true (show k<n by omega),if_pos rfl,Yc]
     have hz:(((f i &&& INV n f k:Nat):Int)==0)=((f i &&& INV n f k)==0):=by rw [Yay,beq_iff_eq,beq_iff_eq];omega
     rw [Ztu]
     have hstep:q268_F1 (R E) Zq E.glob (q268_s1 x m y (k:Int) (n:Int) (k:Int) (k:Int) (i:Int) (Zs n f) (Zs n (INV n f)) h')=(if Zdc n f l m i k=true then Zao 2 16 y [.int .i64 (i:Int),.int .i64 (k:Int)] h' (fun y' h''=>some (Ex.normal,q268_s1 x m y' (k:Int) (n:Int) (k:Int) (k:Int) ((i+1:Nat):Int) (Zs n f) (Zs n (INV n f)) h'')) else some (.normal,q268_s1 x m y (k:Int) (n:Int) (k:Int) (k:Int) ((i+1:Nat):Int) (Zs n f) (Zs n (INV n f)) h')):=by
      rw [q268_r1,if_pos (by simp;omega),if_pos ⟨by trivial,relL_len _ _⟩,HasR_R hE.c3 hn hf,qh_ok,c1_ok,asB_ok,Zzi (by omega) (by omega),if_pos ⟨by trivial,relL_len _ _⟩,Row_R hE.c41 hn,qh_ok,c1_ok,asI_ok,hrow,if_pos ⟨by trivial,relL_len _ _⟩,Row_R hE.c41 hn,qh_ok,c1_ok,asI_ok,hrow',Zlt (hf _) (w_INV _ _ _),hz,scK_and,
       g1,if_pos g2,g3,g1',if_pos g2',g3',meddle_R hE.c274,qh_ok,c1_ok,asB_ok,scK_and,Ydd,←hr,Zo (by omega)]
      rfl
     have hl3:(Zdv (Zdc n f l m) k++Zez (fun i=>Zdc n f l m i k) k i).length<=5000:=by rw [Ye];omega
     by_cases hp:Zdc n f l m i k=true
     ·obtain ⟨y2,h2,e2,o2,k2,_⟩:=o.app (bytes:=16) (xs:=[.int .i64 (i:Int),.int .i64 (k:Int)]) kk.1 rfl (by omega) (by omega) (by omega)
      have zz3:Same0 h' h2:=by
       obtain ⟨c',h3,he,hz,_⟩:=Zua (by decide) (e2 fun c h=>some (c,h))
       cases he
       exact hz
      refine ⟨q268_s1 x m y2 (k:Int) (n:Int) (k:Int) (k:Int) ((i+1:Nat):Int) (Zs n f) (Zs n (INV n f)) h2,by rw [hstep,if_pos hp,e2],y2,h2,rfl,?_,kk.trans k2,zz.trans zz3⟩
      rw [if_pos hp,←Yau,pairC_snoc,Ye,Yh]
      exact o2
     ·refine ⟨q268_s1 x m y (k:Int) (n:Int) (k:Int) (k:Int) ((i+1:Nat):Int) (Zs n f) (Zs n (INV n f)) h',by rw [hstep,if_neg hp],y,h',rfl,?_,kk,zz⟩
      rw [if_neg hp,Yi]
      exact o) (st:=q268_s1 x m y (k:Int) (n:Int) (k:Int) (k:Int) ((0:Nat):Int) (Zs n f) (Zs n (INV n f)) h') ⟨y,h',rfl,by rw [show Zez (fun i=>Zdc n f l m i k) k 0=[] from rfl,Yi];exact o,kk,zz⟩
   have hr:=hL2 _ (Zm (show q268_F1 (R E) Zq E.glob (q268_s1 x m y2 (k:Int) (n:Int) (k:Int) (k:Int) (k:Int) (Zs n f) (Zs n (INV n f)) h2)=some (.exit 2,q268_x1_3 x m y2 (n:Int) (k:Int) (Zs n f) (Zs n (INV n f)) h2) by rw [q268_r1,if_neg (by simp)]))
   refine ⟨q268_s2 x m y2 (n:Int) ((k+1:Nat):Int) (Zs n f) (Zs n (INV n f)) h2,?_,y2,h2,rfl,o2,kk2,zz2⟩
   rw [show ((0:Nat):Int)=0 from rfl] at hr
   rw [q268_r2,if_pos (by simp;omega),hr,bind_ok]
   dsimp only
   rw [q268_e1_3,Zo (by omega)]) (st:=q268_s2 x m .nils (n:Int) ((0:Nat):Int) (Zs n f) (Zs n (INV n f)) h) ⟨.nils,h,rfl,Own.nil _ _ _,Kp.refl _ _,Same0.refl _⟩
 have hr:=hL _ (Zm (show q268_F2 (R E) Zq E.glob (q268_s2 x m y (n:Int) (n:Int) (Zs n f) (Zs n (INV n f)) h')=some (.exit 0,q268_x2_1 y h') by rw [q268_r2,if_neg (by simp)]))
 rw [show ((0:Nat):Int)=0 from rfl] at hr
 refine ⟨y,h',Zd hE.fn ?_,o,kk,zz⟩
 rw [q268_eq,if_pos ⟨by trivial,relL_len _ _⟩,Zq743 hE.c40 ht hn hf,c1_ok,asA_ok,if_pos ⟨by trivial,zero_len,relL_len _ _⟩,if_pos ⟨by trivial,relL_len _ _⟩,N_R hE.c14,c1_ok,asI_ok,hr,bind_ok]
 dsimp only
 rw [q268_e2_1]
def Zbj (l:List Stp) (m:Int):List (Int × Int):=if l.length<=64 then Zdv (Zdc l.length (hbF l m) l m) l.length else []
theorem Zqt (l:List Stp) (m:Int):Zcx (hbF l m):=Zmj (Zjk _ _) _ _
theorem Races_R0 (hE:q256_In E) (ht:Zil E) {x:Cell} {l:List Stp} {h:Za} (hx:SlAt h x 7 (Zai l) l.length) (hlow:Low h.length x) (m:Int) :
  ∃y h',R E 256 [.c x,.c (.int .i64 m)] h=some ([.c y],h')/\Own h.length h' y 2 (Zbo (Zbj l m)) (Zbj l m).length/\Kp h.length h h'/\Same0 h h':=by
 by_cases hl:l.length<=64
 ·obtain ⟨y,h',r1,o,k⟩:=In_R hE.c268 ht hl (Zqt l m) hx hlow (Yf _) m
  have:Zbj l m=Zdv (Zdc l.length (hbF l m) l m) l.length:=by unfold Zbj;rw [if_pos hl]
  refine ⟨y,h',Zd hE.fn ?_,by rw [this];exact o,k⟩
  rw [q256_eq,HB_R hE.c255 hx hlow hl m,c1_ok,asA_ok,r1,c1_ok,asC_ok]
 ·obtain ⟨y,h',r1,o,k⟩:=In_R hE.c268 ht (n:=0) (by omega) Zjv hx hlow (by omega) m
  have:Zbj l m=[]:=by unfold Zbj;rw [if_neg hl]
  refine ⟨y,h',Zd hE.fn ?_,by rw [this];exact o,k⟩
  rw [q256_eq,HB_many hE.c255 hx (by omega) m,c1_ok,asA_ok,r1,c1_ok,asC_ok]
theorem Znu (hE:q256_In E) (ht:Zil E) {x:Cell} {l:List Stp} {h:Za} (hx:SlAt h x 7 (Zai l) l.length) (hlow:Low h.length x) (m:Int) :
  ∃y h',R E 256 [.c x,.c (.int .i64 m)] h=some ([.c y],h')/\Own h.length h' y 2 (Zbo (Zbj l m)) (Zbj l m).length/\Kp h.length h h':=by
 obtain ⟨y,h',r,o,k,_⟩:=Races_R0 hE ht hx hlow m
 exact ⟨y,h',r,o,k⟩
theorem Zyz (hE:q259_In E) (ht:Zil E) {x:Cell} {l:List Stp} {h:Za} (hx:SlAt h x 7 (Zai l) l.length) (hlow:Low h.length x) (m:Int) :
  ∃h',R E 259 [.c x,.c (.int .i64 m)] h=some ([.c (.bool ((Zbj l m).length==0))],h')/\Kp h.length h h':=by
 obtain ⟨y,h',r1,o,k⟩:=Znu hE.c256 ht hx hlow m
 refine ⟨h',Zd hE.fn ?_,k⟩
 rw [q259_eq,r1,c1_ok,asC_ok,o.at.len]
 have:((((Zbj l m).length:Nat):Int)==0)=((Zbj l m).length==0):=by rw [Yay,beq_iff_eq,beq_iff_eq];omega
 rw [this]
end
end Jq
