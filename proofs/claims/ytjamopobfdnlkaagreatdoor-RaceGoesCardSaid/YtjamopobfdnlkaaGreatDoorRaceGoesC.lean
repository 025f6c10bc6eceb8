/- YtjamopobfdnlkaaGreatDoorRaceGoesC: a part of the proof; no conditions of its own. -/
import Derived.KernelRfl
import Derived.Test.YtjamopobfdnlkaaGreatDoorRaceGoesB
set_option linter.unusedVariables false
set_option linter.unusedSectionVars false
set_option linter.unusedSimpArgs false
set_option maxRecDepth 100000
open List renaming replicate→Ya,length_append→Yb,getElem?_eq_getElem→Yc,append_assoc→Yg,getElem?_append_right→Yh,getElem?_append_left→Yi,mem_of_getElem?→Yj,length_set→Yk,getD_eq_getElem?_getD→Yl,length_eq_zero_iff→Ym,length_cons→Yo,length_take→Yp,length_singleton→Yq,findIdx?_eq_some_iff_getElem→Yr,mem_singleton→Ys,getElem?_eq_none→Yt,length_nil→Yu,length_drop→Yv,mem_of_find?_eq_some→Yw,take_of_length_le→Yx,getElem?_take→Yz,set_append_right→Yaa,mem_append→Yab,any_eq_false→Yac,nil_append→Yad,take_append_of_le_length→Yae,range→Yaf,findIdx?_eq_none_iff→Yai,mem_or_eq_of_mem_set→Yaj,mem_iff_getElem→Yak,drop_of_length_le→Yam,ext_getElem?→Yap,set_append_left→Yaq,mem_map→Yas,eraseIdx_eq_take_drop_succ→Yat,find?_eq_some_iff_getElem→Yav,drop_append_of_le_length→Yax,singleton_append→Yaz,take_zero→Yba,take_append_drop→Ybb,take_length→Ybc,length_map→Ybd,pairwise_iff_getElem→Ybe,getElem?_drop→Ybf,getElem?_replicate→Ybg,eraseP_eq_eraseIdx→Ybh,reverse_singleton→Ybi,any_cons→Ybj,length_replicate→Ybm,length_eraseP_le→Ybn,replicate_append_replicate→Ybo,mem_cons_of_mem→Ybp,find?_some→Ybq,mem_append_left→Ybs,pairwise_append→Ybt,reverse_append→Ybu,drop_replicate→Ybv,mem_range→Ybx,mem_cons_self→Yby,flatMap_cons→Ycc,drop_eq_getElem_cons→Ycd,map_set→Yce,any_eq_true→Ycg,find?_cons→Yci,getElem?_set_self→Ycj,range_succ_eq_map→Yck,getElem_cons_drop→Ycl,mem_of_mem_eraseP→Ycm,drop_zero→Ycn,mem_append_right→Yco,mem_of_mem_take→Ycq,length_eraseIdx→Ycr,mem_cons→Ycs,findIdx?_cons→Ycu,find?_eq_none→Ycv,getElem_take→Yda,getElem_drop→Ydb,length→Ydc,drop_append→Ydd,all_eq_true→Yde,drop_length→Ydf,getElem_mem→Ydg
open Int renaming toNat→Yd,toNat_natCast→Ye,eq_ofNat_of_zero_le→Yag,tdiv_eq_ediv_of_nonneg→Yca,tmod_eq_emod_of_nonneg→Ycb
open Nat renaming le_refl→Yf,le_trans→Yy,lt_or_ge→Yan,le_of_lt→Yao,min_eq_left→Yaw,zero_add→Yay,testBit_two_pow→Yct,add_zero→Ycw,mul_div_cancel→Ycy
open Bool renaming and_eq_true→Yn,eq_iff_iff→Yah,and_false→Yar,true_and→Yau,and_true→Ybk,not_eq_true→Ybl,or_eq_true→Ybr,false_and→Ybw,or_false→Ybz,or_eq_false_iff→Ycp,not_eq_true'→Ycz,and_assoc→Ydh
open Option renaming bind_some→Yal,getD_some→Ycf,isSome_iff_exists→Ych,isSome_some→Ycx
namespace Jq
open Go
def KpX (a n:Nat) (h h':Za):Prop:=h.length<=h'.length/\∀k,k<n->k≠a->h'[k]? = h[k]?
theorem KpX.refl (a n:Nat) (h:Za):KpX a n h h:=⟨Yf _,fun _ _ _=>rfl⟩
theorem KpX.trans {a n:Nat} {h h' h'':Za} (x:KpX a n h h') (y:KpX a n h' h''):KpX a n h h'':=⟨Yy x.1 y.1,fun k hk ha=>(y.2 k hk ha).trans (x.2 k hk ha)⟩
theorem KpX.mono {a n m:Nat} {h h':Za} (x:KpX a n h h') (hm:m<=n):KpX a m h h':=⟨x.1,fun k hk ha=>x.2 k (by omega) ha⟩
theorem Kp.x {a n:Nat} {h h':Za} (x:Kp n h h'):KpX a n h h':=⟨x.1,fun k hk _=>x.2 k hk⟩
theorem KpX.set (a n:Nat) (h:Za) (b:Option Blk):KpX a n h (setBlk h a b):=⟨by simp [setBlk],fun j _ ha=>by unfold setBlk;rw [List.getElem?_set_ne (fun e=>ha e.symm)]⟩
theorem KpX.blk {a n:Nat} {h h':Za} (x:KpX a n h h') {k:Nat} (hk:k<n) (ha:k≠a):blk? h' k=blk? h k:=by unfold blk?;rw [x.2 k hk ha]
theorem Own.keepX {a n:Nat} {h h':Za} {x:Cell} {esz len:Nat} {cs:List Cell} (o:Own n h x esz cs len) (ha:a<n) (hk:KpX a h.length h h'):Own n h' x esz cs len:=by
 refine ⟨o.1,o.2.imp id ?_⟩
 rintro ⟨k,e,hn,hb⟩
 exact ⟨k,e,hn,by rw [hk.blk (Zan hb) (by omega)];exact hb⟩
theorem RowsOwn.keepX {α:Type} {esz:Nat} {C:List α->List Cell} {a n:Nat} {h h':Za} {y:Cell} {rows:List (List α)} (r:RowsOwn esz C n h y rows) (ha:a<n) (hk:KpX a h.length h h'):RowsOwn esz C n h' y rows:=by
 obtain ⟨ts,h1,h2⟩:=r
 exact ⟨ts,h1.keepX ha hk,fun t r hr=>by obtain ⟨x,x1,x2,x3⟩:=h2 t r hr;exact ⟨x,x1,x2.keepX ha hk,x3⟩⟩
structure GoodT (most:Nat) (T:PTest):Prop where
 name:T.name.size<=20
 n:2<=T.thr.length/\T.thr.length<=3
 code:∃L:Int,(L=2∨L=3)/\∀c∈T.thr,∃k,k<=3/\ThrOk L k c
 mem:(T.thr.map Zet).sum<=most
 inits:T.inits=[]∨∃v:Int,0<=v/\v<3/\T.inits=[(120,v)]
 any:T.any.length<=2/\∀row∈T.any,row.length<=2/\∀a∈row,a.loc=0∨a.loc=120
section
variable {E:Env}
theorem opd_reg {r:Int}:splice [ci0,ci0] 0 [(.int .i64 r)]=(Opd.mk r 0).cs:=rfl
theorem opd_num {v:Int}:splice (splice [ci0,ci0] 0 [(.int .i64 (-1))]) 1 [(.int .i64 v)]=(Opd.mk (-1) v).cs:=rfl
theorem Zq704 (hE:q115_In E) {h0:Za} {x:Cell} {l:List Int} (hx:SlAt h0 x 1 (intC .i64 l) l.length) (hlow:Low h0.length x) (hl:l.length<9223372036854775808)
  {most:Nat} (hmost:most<=900) {n i L:Int} (hL:L=2∨L=3) (s0 s1:List Cell) (N:Nat) (hN0:h0.length+2<=N):∀(k mem m kk:Nat) (c:List Ins) (xs:Cell) (h:Za),k<=3->kk+k<=10->mem<=most->m+k<1000 ->
   VarsAt h0 x h m->N<=h.length->Own N h xs 9 (Zaf c) c.length->ThrOk L kk c ->
   ∃(mem' m' kk':Nat) (c':List Ins) (xs':Cell) (h':Za),Zq (q97_F1 (R E) Zq E.glob) (q97_s1 (most:Int) (nxF h0) n L (mem:Int) i xs (k:Int) s0 s1 h)=some (.exit 2,q97_x1_3 (most:Int) (nxF h0) n L (mem':Int) i xs' s0 s1 h') /\
    ThrOk L kk' c'/\kk'<=kk+k/\Zet c'+mem=Zet c+mem'/\mem'<=most/\VarsAt h0 x h' m'/\m'<=m+k/\N<=h'.length/\Own N h' xs' 9 (Zaf c') c'.length/\KpX (h0.length+1) N h h':=by
 intro k
 induction k with
 | zero =>
  intro mem m kk c xs h _ _ hmem _ hv hN ho ht
  refine ⟨mem,m,kk,c,xs,h,Zm ?_,ht,by omega,by omega,hmem,hv,by omega,hN,ho,KpX.refl _ _ _⟩
  rw [q97_r1,show decide (((0:Nat):Int) > 0)=false from rfl,scK_ft,if_neg (by simp)]
 | succ k ih =>
  intro mem m kk c xs h hk hkk hmem hm hv hN ho ht
  by_cases hmm:mem<most
  ·obtain ⟨r,r0,r1,hF,hv2⟩:=Zkg hE hx hlow hl hv (by omega)
   have hLp:0<L:=by omega
   have hset:KpX (h0.length+1) N h (setBlk h (h0.length+1) (some ⟨true,0,[.int .i64 ((m+1:Nat):Int)]⟩)):=KpX.set _ _ _ _
   have ho2:=ho.keepX (show h0.length+1<N by omega) (KpX.set (h0.length+1) h.length h (some ⟨true,0,[.int .i64 ((m+1:Nat):Int)]⟩))
   have hN2:N<=(setBlk h (h0.length+1) (some ⟨true,0,[.int .i64 ((m+1:Nat):Int)]⟩)).length:=by rw [Zbw];exact hN
   generalize setBlk h (h0.length+1) (some ⟨true,0,[.int .i64 ((m+1:Nat):Int)]⟩)=H at *
   have q4:=Zdt (E:=E) (Zxr (E:=E) (k:=4) r0) hLp
   have q6:=Zdt (E:=E) (Zxr (E:=E) (k:=6) r0) (show (0:Int)<3 by omega)
   have hb1:=Zrh (E:=E) (E.glob.shr .i64 r 10)
   have hclen:=ht.len
   have hcase:∀v:Opd,opdOk v->Zhm E (most:Int) (nxF h0) n L mem i ((k+1:Nat):Int) s0 s1 N kk c H ((q97_k11 (R E) Zq E.glob) .normal (q97_c2 (most:Int) (nxF h0) n L (mem:Int) i xs ((k+1:Nat):Int) r (120+E.glob.rem .i64 (E.glob.shr .i64 r 4) L) s0 s1 v.cs H)):=by
    intro v hvv
    exact Zwl ho2 hN2 (by omega) ht hLp hvv r0 ⟨by omega,by omega⟩ (by omega) ⟨by omega,by omega⟩
   have hround:∃v:Opd,opdOk v/\q97_F1 (R E) Zq E.glob (q97_s1 (most:Int) (nxF h0) n L (mem:Int) i xs ((k+1:Nat):Int) s0 s1 h)=(q97_k11 (R E) Zq E.glob) .normal (q97_c2 (most:Int) (nxF h0) n L (mem:Int) i xs ((k+1:Nat):Int) r (120+E.glob.rem .i64 (E.glob.shr .i64 r 4) L) s0 s1 v.cs H):=by
    have hw:E.glob.wrap .i64 (120+E.glob.rem .i64 (E.glob.shr .i64 r 4) L)=120+E.glob.rem .i64 (E.glob.shr .i64 r 4) L:=Zj (by omega) (by omega)
    rw [q97_r1,show decide (((k+1:Nat):Int) > 0)=true from decide_eq_true (by omega),scK_ok,bind_ok]
    dsimp only
    rw [if_pos (decide_eq_true (by omega)),hF,asI_ok,if_neg (by omega)]
    rw [hw,opd_num,opd_reg,if_pos ⟨rfl,rfl,rfl⟩]
    by_cases h8:(E.glob.rem .i64 (E.glob.shr .i64 r 8) 3==0)=true
    ·refine ⟨⟨E.glob.band .i64 (E.glob.shr .i64 r 10) 1,0⟩,.inr ⟨hb1,rfl⟩,?_⟩
     rw [if_pos h8,if_pos ⟨rfl,rfl,rfl⟩,bind_ok]
    ·refine ⟨⟨-1,E.glob.rem .i64 (E.glob.shr .i64 r 6) 3⟩,.inl ⟨rfl,q6.1,q6.2⟩,?_⟩
     rw [if_neg h8,bind_ok]
   obtain ⟨v,hvv,hround⟩:=hround
   obtain ⟨c2,mem2,xs2,h2,g1,g2,g3,g4,g5,g6,g7⟩:=hcase v hvv
   rw [g1,show ((k+1:Nat):Int) - 1=(k:Int) by omega] at hround
   obtain ⟨mem',m',kk',c',xs',h',f1,f2,f3,f4,f5,f6,f7,f8,f9,f10⟩:=ih mem2 (m+1) (kk+1) c2 xs2 h2 (by omega) (by omega) (by omega) (by omega) (hv2.keep (g7.mono hN0)) (Yy hN2 g7.1) g6 g2
   exact ⟨mem',m',kk',c',xs',h',Zat hround f1,f2,by omega,by omega,f5,f6,by omega,f8,f9,(hset.trans g7.x).trans f10⟩
  ·refine ⟨mem,m,kk,c,xs,h,Zm ?_,ht,by omega,by omega,hmem,hv,by omega,hN,ho,KpX.refl _ _ _⟩
   rw [q97_r1,show decide (((k+1:Nat):Int) > 0)=true from decide_eq_true (by omega),scK_ok,bind_ok]
   dsimp only
   rw [if_neg (by simp;omega)]
theorem Zux (l:List (List Ins)) (c:List Ins):((l++[c]).map Zet).sum=(l.map Zet).sum+Zet c:=by
 rw [List.map_append,List.sum_append];simp
theorem Zxf (hE:q115_In E) {h0:Za} {x:Cell} {l:List Int} (hx:SlAt h0 x 1 (intC .i64 l) l.length) (hlow:Low h0.length x) (hl:l.length<9223372036854775808)
  {most:Nat} (hmost:most<=900) {n:Nat} (hn:n<=3) {L:Int} (hL:L=2∨L=3) (s0:List Cell) (a:Cell) {name:ByteArray} {Nb:Nat} (hNb:h0.length+2<=Nb):∀(q i mem m:Nat) (rows:List (List Ins)) (y:Cell) (h:Za),i+q=n->rows.length=i->mem<=most->m+4*q<900 ->
   (rows.map Zet).sum=mem->(∀c∈rows,∃k,k<=3/\ThrOk L k c)->VarsAt h0 x h m->Nb<=h.length->RowsOwn 9 Zaf Nb h y rows ->
   ∃(mem' m':Nat) (rows':List (List Ins)) (y':Cell) (h':Za),Zq (q97_F2 (R E) Zq E.glob) (q97_s2 (most:Int) (nxF h0) (n:Int) L (mem:Int) (i:Int) s0 [.str name,a,y,.int .i64 0,.nils] h)=some (.exit 0,q97_x2_1 (nxF h0) s0 [.str name,a,y',.int .i64 0,.nils] h') /\
    rows'.length=n/\mem'<=most/\(rows'.map Zet).sum=mem'/\(∀c∈rows',∃k,k<=3/\ThrOk L k c)/\VarsAt h0 x h' m'/\m'<=m+4*q/\Nb<=h'.length/\RowsOwn 9 Zaf Nb h' y' rows'/\KpX (h0.length+1) Nb h h':=by
 intro q
 induction q with
 | zero =>
  intro i mem m rows y h hi hr hmem _ hs hc hv hN hy
  refine ⟨mem,m,rows,y,h,Zm ?_,by omega,hmem,hs,hc,hv,by omega,hN,hy,KpX.refl _ _ _⟩
  rw [q97_r2,if_neg (by simp;omega)]
 | succ q ih =>
  intro i mem m rows y h hi hr hmem hm hs hc hv hN hy
  obtain ⟨r,r0,r1,hF,hv2⟩:=Zkg hE hx hlow hl hv (by omega)
  have hset:KpX (h0.length+1) Nb h (setBlk h (h0.length+1) (some ⟨true,0,[.int .i64 ((m+1:Nat):Int)]⟩)):=KpX.set _ _ _ _
  have hy2:=hy.keepX (show h0.length+1<Nb by omega) (KpX.set (h0.length+1) h.length h (some ⟨true,0,[.int .i64 ((m+1:Nat):Int)]⟩))
  have hN2:Nb<=(setBlk h (h0.length+1) (some ⟨true,0,[.int .i64 ((m+1:Nat):Int)]⟩)).length:=by rw [Zbw];exact hN
  generalize setBlk h (h0.length+1) (some ⟨true,0,[.int .i64 ((m+1:Nat):Int)]⟩)=H at *
  have q3:=Zdt (E:=E) r0 (show (0:Int)<3 by omega)
  obtain ⟨k,hk⟩:∃k:Nat,E.glob.rem .i64 r 3+1=(k:Int):=⟨(E.glob.rem .i64 r 3+1).toNat,by omega⟩
  obtain ⟨mem',m',kk',c',xs',h',f1,f2,f3,f4,f5,f6,f7,f8,f9,f10⟩:=Zq704 hE hx hlow hl hmost (n:=n) (i:=(i:Int)) hL s0 [.str name,a,y,.int .i64 0,.nils] H.length (Yy hNb hN2) k mem (m+1) 0 [] .nils H (by omega) (by omega) hmem (by omega) hv2 (Yf _) (Own.nil _ _ _) ThrOk.nil
  have hy3:=hy2.keepX (show h0.length+1<Nb by omega) f10
  obtain ⟨y2,h2,hap,hyp,hkp,_⟩:=hy3.push (f9.monoN hN2) (fun j h1 h2=>by have:=(f9.blkLt h1).2;have:=(hy2.blkLt h2).1;omega) (Yy hN2 f8) (by omega)
  have hm0:Zet c'+mem=mem':=by have:Zet ([]:List Ins)=0:=rfl;omega
  have hround:q97_F2 (R E) Zq E.glob (q97_s2 (most:Int) (nxF h0) (n:Int) L (mem:Int) (i:Int) s0 [.str name,a,y,.int .i64 0,.nils] h)=some (.normal,q97_s2 (most:Int) (nxF h0) (n:Int) L (mem':Int) ((i+1:Nat):Int) s0 [.str name,a,y2,.int .i64 0,.nils] h2):=by
   have hw:E.glob.wrap .i64 (E.glob.rem .i64 r 3+1)=(k:Int):=by rw [Zj (by omega) (by omega),hk]
   rw [q97_r2,if_pos (by simp;omega),hF,asI_ok,hw,f1,bind_ok,q97_e1_3,show ∀{α:Type} (f:Cell->Option α),Ze [.str name,a,y,.int .i64 0,.nils] 2 f=f y from fun _=>rfl,if_pos (show (splice [Cell.nils] 0 [xs']).length=1*1 from rfl),show splice [Cell.nils] 0 [xs']=[xs'] from rfl,hap,if_pos (show 2<([.str name,a,y,.int .i64 0,.nils]:List Cell).length by simp),Zo (by omega)]
   rfl
  obtain ⟨mem3,m3,rows3,y3,h3,g1,g2,g3,g4,g5,g6,g7,g8,g9,g10⟩:=ih (i+1) mem' m' (rows++[c']) y2 h2 (by omega) (by rw [Yb,Yq];omega) f5 (by omega) (by rw [Zux];omega)
   (fun c hcm=>by
    rcases Yab.1 hcm with hcm | hcm
    ·exact hc c hcm
    ·simp at hcm;subst hcm;exact ⟨kk',by omega,f2⟩) (f6.keep (hkp.mono hNb)) (Yy (Yy hN2 f8) hkp.1) hyp
  exact ⟨mem3,m3,rows3,y3,h3,Zat hround g1,g2,g3,g4,g5,g6,by omega,g8,g9,((hset.trans (f10.mono hN2)).trans hkp.x).trans g10⟩
end
theorem Zzd {c:Int}:∀(l:List Int) (i:Nat),c∈l->∃j:Nat,plc l c i=((i+j:Nat):Int)/\l[j]? = some c
 | [],_,h=>by cases h
 | d :: t,i,h=>by
  rw [plc]
  by_cases e:d=c
  ·exact ⟨0,by rw [if_pos e];rfl,by rw [e];rfl⟩
  ·rw [if_neg e]
   have hm:c∈t:=by
    rcases Ycs.1 h with h | h
    ·exact absurd h.symm e
    ·exact h
   obtain ⟨j,h1,h2⟩:=Zzd t (i+1) hm
   exact ⟨j+1,by rw [h1];congr 1;omega,by simpa using h2⟩
section
variable {E:Env}
theorem Own.setG {n:Nat} {h:Za} {x:Cell} {esz len:Nat} {cs:List Cell} (o:Own n h x esz cs len) {i j:Nat} (hi:i<len) (hj:j<esz) (c:Cell) :
  ∃k,n<=k/\k<h.length/\Zv x k/\(∀{α:Type} (f:Za->Option α),(Zl esz x (i:Int) fun k N o=>Zp h k N fun l=>if o+j<l.length then Zbe h k (l.set (o+j) c) f else none)=f (setBlk h k (some ⟨true,esz,cs.set (i*esz+j) c⟩))) /\
   Own n (setBlk h k (some ⟨true,esz,cs.set (i*esz+j) c⟩)) x esz (cs.set (i*esz+j) c) len:=by
 rcases o.2 with ⟨_,h0⟩ | ⟨k,rfl,hk,hb⟩
 ·omega
 ·have hlt:=idx_lt hi hj
  refine ⟨k,hk,Zan hb,rfl,fun f=>?_,by rw [Yk];exact o.1,.inr ⟨k,by rw [Yk],hk,Zad (Zan hb) _⟩⟩
  unfold Zl
  simp only
  rw [if_pos ⟨by omega,by omega⟩,Zy hb rfl]
  dsimp only
  rw [Ye,Yay,if_pos (by rw [o.1];exact hlt),Zco hb rfl]
theorem Clone_R (hE:q119_In E) {x:Cell} {l:List Ins} {h:Za} (hx:SlAt h x 9 (Zaf l) l.length) (hlow:Low h.length x) (hl:l.length<=1000) :
  ∃x' h',R E 119 [.c x] h=some ([.c x'],h')/\Own h.length h' x' 9 (Zaf l) l.length/\Kp h.length h h':=by
 have hm:maxBytes>=1000*72:=by unfold maxBytes;omega
 have hlen:=Zml l
 rcases hx.2 with ⟨rfl,h0⟩ | ⟨k,N,off,rfl,hb⟩
 ·refine ⟨.nils,h,Zd hE.fn ?_,⟨hlen,.inl ⟨rfl,h0⟩⟩,Kp.refl _ _⟩
  rw [q119_eq];rfl
 ·have hk1:Kp h.length h (h++[some ⟨true,9,[]⟩]):=Kp.app _ (Yf _)
  have hx2:=hx.keep hlow hk1
  have hc:Zaq (h++[some ⟨true,9,[]⟩]) 9 (.sl k N off l.length)=some (Zaf l):=by
   unfold Zaq
   dsimp only
   by_cases h0:l.length=0
   ·have:l=[]:=Ym.1 h0
    rw [if_pos h0,this];rfl
   ·rw [if_neg h0]
    rcases hx2.2 with ⟨e,_⟩ | ⟨k',N',off',e,hb⟩
    ·cases e
    ·cases e
     rcases hb with hb | ⟨b,hb,hN,hle,hat⟩
     ·exact absurd hb h0
     ·rw [hb]
      simp only
      rw [if_pos ⟨hN,hle⟩]
      congr 1
      refine Yap fun j=>?_
      rw [Yz,Ybf]
      by_cases hj:j<l.length*9
      ·rw [if_pos hj,hat j hj]
      ·rw [if_neg hj,Yt (by omega)]
  have hap:∀{α:Type} (f:Cell->Za->Option α),Zao 9 72 (.sl h.length 0 0 0) (Zaf l) (h++[some ⟨true,9,[]⟩]) f=f (.sl h.length (Zaf l).length 0 l.length) (h++[some ⟨true,9,Zaf l⟩]):=by
   intro α f
   unfold Zao
   simp only
   rw [Zw,Yal]
   dsimp only
   have hd:(Zaf l).length / 9=l.length:=by rw [hlen];omega
   rw [if_pos ⟨rfl,rfl,rfl,by simp,by rw [hd];simp;omega,by rw [hd];simp;omega⟩,hd]
   by_cases h0:l.length=0
   ·have:l=[]:=Ym.1 h0
    subst this
    rw [if_pos (by simp [Zaf]),setBlk_last];rfl
   ·rw [if_neg (by omega),if_pos trivial,setBlk_last]
    simp
  refine ⟨.sl h.length (Zaf l).length 0 l.length,h++[some ⟨true,9,Zaf l⟩],Zd hE.fn ?_,⟨hlen,.inr ⟨h.length,rfl,Yf _,Zw _ _⟩⟩,Kp.app _ (Yf _)⟩
  rw [q119_eq,show ∀{α:Type} (f:Bool->Option α),Zcu false (.sl k N off l.length) .nils f=f false from fun _=>rfl,if_neg (by simp),if_pos (show ([]:List Cell).length=0*9 from rfl),hc,bind_ok,show ([]:List Cell).length=0 from rfl,hap]
end
section
variable {E:Env}
theorem rd3 {α:Type} {h:Za} {k:Nat} {a b c:Cell} (hk:blk? h k=some ⟨true,0,[a,b,c]⟩) {F:List Cell->Option α}:Zp h k 3 F=F [a,b,c]:=Zy hk rfl
theorem Own.setG1 {n:Nat} {h:Za} {x:Cell} {len:Nat} {cs:List Cell} (o:Own n h x 1 cs len) {i:Nat} (hi:i<len) (c:Cell) :
  ∃k,n<=k/\k<h.length/\Zv x k/\(∀{α:Type} (f:Za->Option α),(Zl 1 x (i:Int) fun k N o=>Zp h k N fun l=>if o<l.length then Zbe h k (l.set o c) f else none)=f (setBlk h k (some ⟨true,1,cs.set i c⟩))) /\
   Own n (setBlk h k (some ⟨true,1,cs.set i c⟩)) x 1 (cs.set i c) len:=by
 obtain ⟨k,h1,h2,h3,h4,h5⟩:=o.setG (j:=0) hi (by omega) c
 rw [show i*1+0=i by omega] at h4 h5
 exact ⟨k,h1,h2,h3,h4,h5⟩
end
section
variable (C:Zab) (L:Zbv) (G:Glo)
variable {h0:Za}
variable {x0:Cell}
variable {a1:Int}
theorem q76_eq:q76.body C L G [(.c x0),(.c (.int .i64 a1))] h0=c1 (C 97 [(.c x0),(.c (.int .i64 a1))] h0) fun y h=>asA y fun l=>c1 (C 101 [(.agg l)] h) fun y h=>asA y fun l=>if 0=0/\[Cell.nils,Cell.nils,Cell.nils].length=3/\l.length=3 then if 0=0/\l.length=3 then some ([(.agg l)],h) else none else none:=by kernel_rfl
end
section
variable {E:Env}
def tName:ByteArray:=ByteArray.mk #[116]
theorem Zq746 (hE:q115_In E) {h0 h hb:Za} {x:Cell} {l:List Int} (hx:SlAt h0 x 1 (intC .i64 l) l.length) (hlow:Low h0.length x) (hl:l.length<9223372036854775808) {m:Nat} (hv:VarsAt h0 x h m) (hm:m<1000)
  {most:Nat} {rows:List (List Ins)} {a y:Cell} {inits:List (Int × Int)} {Nb:Nat} (hNb:h0.length+2<=Nb) (hN:Nb<=h.length) (hy:RowsOwn 9 Zaf Nb h y rows) (ha:SlAt h a 2 (Zbo inits) inits.length/\Low h.length a/\∀k,Zv a k->k≠h0.length+1)
  (hi:inits=[]∨∃v:Int,0<=v/\v<3/\inits=[(120,v)]) (hn:2<=rows.length/\rows.length<=3) (hmem:(rows.map Zet).sum<=most) (hc:∃L:Int,(L=2∨L=3)/\∀c∈rows,∃k,k<=3/\ThrOk L k c) {s0:List Cell} (hs0:s0.length=5) :
  ∃(cs:List Cell) (h':Za) (T:PTest),(q97_k4 (R E) Zq E.glob hb) (.exit 0) (q97_x2_1 (nxF h0) s0 [.str tName,a,y,.int .i64 0,.nils] h)=some ([.agg cs],h')/\TestAt h' cs T/\GoodT most T/\Kp h0.length h0 h':=by
 obtain ⟨r,r0,r1,hF,hv2⟩:=Zkg hE hx hlow hl hv (by omega)
 have hset:=KpX.set (h0.length+1) h.length h (some ⟨true,0,[.int .i64 ((m+1:Nat):Int)]⟩)
 have hy2:=hy.keepX (show h0.length+1<Nb by omega) hset
 have ha2:SlAt (setBlk h (h0.length+1) (some ⟨true,0,[.int .i64 ((m+1:Nat):Int)]⟩)) a 2 (Zbo inits) inits.length:=by
  refine ⟨ha.1.1,ha.1.2.imp id ?_⟩
  rintro ⟨k,N,off,e,hh | ⟨b,hb,hN,hle,hat⟩⟩
  ·exact ⟨k,N,off,e,.inl hh⟩
  ·have hk:=ha.2.2 k (by rw [e];rfl)
   exact ⟨k,N,off,e,.inr ⟨b,by rw [Zbh (fun q=>hk q.symm)];exact hb,hN,hle,hat⟩⟩
 have hal2:Low (setBlk h (h0.length+1) (some ⟨true,0,[.int .i64 ((m+1:Nat):Int)]⟩)).length a:=by rw [Zbw];exact ha.2.1
 rw [q97_e2_1,hF,asI_ok]
 generalize setBlk h (h0.length+1) (some ⟨true,0,[.int .i64 ((m+1:Nat):Int)]⟩)=H at *
 have q5:=Zdt (E:=E) (Zxr (E:=E) (k:=5) r0) (show (0:Int)<3 by omega)
 by_cases h3:(E.glob.rem .i64 r 3==0)=true
 ·rw [if_pos h3]
  dsimp only
  generalize E.glob.band .i64 (E.glob.shr .i64 r 3) 1=b3
  generalize E.glob.band .i64 (E.glob.shr .i64 r 4) 1=b4
  generalize E.glob.rem .i64 (E.glob.shr .i64 r 5) 3=v5
  generalize E.glob.band .i64 (E.glob.shr .i64 r 7) 1=b7
  generalize E.glob.wrap .i64 (E.glob.rem .i64 (E.glob.quo .i64 r 3) 2+1)=ck
  have e1:splice (splice (splice [ci0,ci0,ci0,ci0] 0 [(.int .i64 0)]) 1 [(.int .i64 b3)]) 3 [(.int .i64 b4)]=(Atm.mk 0 b3 0 b4).cs:=rfl
  have e2:splice (splice (splice [ci0,ci0,ci0,ci0] 0 [(.int .i64 (-1))]) 2 [(.int .i64 120)]) 3 [(.int .i64 v5)]=(Atm.mk (-1) 0 120 v5).cs:=rfl
  have e3:splice (splice (splice [ci0,ci0,ci0,ci0] 0 [(.int .i64 1)]) 1 [(.int .i64 0)]) 3 [(.int .i64 b7)]=(Atm.mk 1 0 0 b7).cs:=rfl
  have e4:∀a:Atm,splice [ci0,ci0,ci0,ci0] 0 a.cs=Zfm [a]:=fun _=>rfl
  have e5:∀a b:Atm,splice (splice (Ya 8 ci0) 0 a.cs) 4 b.cs=Zfm [a,b]:=fun _ _=>rfl
  have e6:∀a b:Cell,splice (splice [Cell.nils,Cell.nils] 0 [a]) 1 [b]=[a,b]:=fun _ _=>rfl
  have e7:∀a b:Cell,splice (splice [ci0,Cell.nils] 0 [a]) 1 [b]=[a,b]:=fun _ _=>rfl
  have l1:∀a:Atm,(Zfm [a]).length=4:=fun _=>rfl
  have l2:∀a b:Atm,(Zfm [a,b]).length=8:=fun _ _=>rfl
  simp only [e1,e2,e3,e4,e5,e6,e7,l1,l2]
  rw [if_pos ⟨rfl,by simp⟩,if_pos trivial,if_pos ⟨rfl,by simp⟩,if_pos ⟨rfl,by simp [splice,Atm.cs]⟩,if_pos trivial,if_pos (by simp),if_pos (by simp),if_pos (by simp [splice]),if_pos (by simp [splice,hs0]),if_pos (by simp [splice])]
  have k1:Kp H.length H (H++[some ⟨true,4,Zfm [⟨0,b3,0,b4⟩]⟩]):=Kp.app _ (Yf _)
  have n1:(H++[some (Blk.mk true 4 (Zfm [⟨0,b3,0,b4⟩]))]).length=H.length+1:=by simp
  have c1':blk? (H++[some ⟨true,4,Zfm [⟨0,b3,0,b4⟩]⟩]) H.length=some ⟨true,4,Zfm [⟨0,b3,0,b4⟩]⟩:=Zw _ _
  generalize H++[some (Blk.mk true 4 (Zfm [⟨0,b3,0,b4⟩]))]=H1 at *
  have k2:Kp H.length H (H1++[some ⟨true,4,Zfm [⟨-1,0,120,v5⟩,⟨1,0,0,b7⟩]⟩]):=k1.trans (Kp.app _ (by omega))
  have n2:(H1++[some (Blk.mk true 4 (Zfm [⟨-1,0,120,v5⟩,⟨1,0,0,b7⟩]))]).length=H1.length+1:=by simp
  have c2':blk? (H1++[some ⟨true,4,Zfm [⟨-1,0,120,v5⟩,⟨1,0,0,b7⟩]⟩]) H1.length=some ⟨true,4,Zfm [⟨-1,0,120,v5⟩,⟨1,0,0,b7⟩]⟩:=Zw _ _
  have c1'':blk? (H1++[some ⟨true,4,Zfm [⟨-1,0,120,v5⟩,⟨1,0,0,b7⟩]⟩]) H.length=some ⟨true,4,Zfm [⟨0,b3,0,b4⟩]⟩:=Zas c1' _
  generalize H1++[some (Blk.mk true 4 (Zfm [⟨-1,0,120,v5⟩,⟨1,0,0,b7⟩]))]=H2 at *
  have k3:Kp H.length H (H2++[some ⟨true,1,[Cell.sl H.length 4 0 1,Cell.sl H1.length 8 0 2]⟩]):=k2.trans (Kp.app _ (by omega))
  have c3':blk? (H2++[some ⟨true,1,[Cell.sl H.length 4 0 1,Cell.sl H1.length 8 0 2]⟩]) H2.length=some ⟨true,1,[Cell.sl H.length 4 0 1,Cell.sl H1.length 8 0 2]⟩:=Zw _ _
  have c2'':blk? (H2++[some ⟨true,1,[Cell.sl H.length 4 0 1,Cell.sl H1.length 8 0 2]⟩]) H1.length=some ⟨true,4,Zfm [⟨-1,0,120,v5⟩,⟨1,0,0,b7⟩]⟩:=Zas c2' _
  have c1''':blk? (H2++[some ⟨true,1,[Cell.sl H.length 4 0 1,Cell.sl H1.length 8 0 2]⟩]) H.length=some ⟨true,4,Zfm [⟨0,b3,0,b4⟩]⟩:=Zas c1'' _
  have n3:(H2++[some (Blk.mk true 1 [Cell.sl H.length 4 0 1,Cell.sl H1.length 8 0 2])]).length=H2.length+1:=by simp
  refine ⟨_,_,⟨tName,inits,rows,ck,[[⟨0,b3,0,b4⟩],[⟨-1,0,120,v5⟩,⟨1,0,0,b7⟩]]⟩,rfl,?_,⟨(by show tName.size<=20;decide),hn,hc,hmem,hi,by simp,?_⟩,hv2.2.2.2.trans (k3.mono (by have:=hv2.2.2.1;omega))⟩
  ·refine ⟨a,y,.sl H2.length 2 0 2,by simp [splice],⟨ha2.keep hal2 k3,Zau k3.1 hal2⟩,hy2.of.keep k3,⟨[Cell.sl H.length 4 0 1,Cell.sl H1.length 8 0 2],⟨rfl,.inr ⟨_,_,0,rfl,.inr ⟨_,c3',rfl,by simp,fun j _=>by simp⟩⟩⟩,.inr (by omega),fun t r ht=>?_⟩⟩
   match t,ht with
   | 0,ht =>
    cases ht
    exact ⟨_,rfl,⟨rfl,.inr ⟨_,_,0,rfl,.inr ⟨_,c1''',rfl,by simp,fun j _=>by simp⟩⟩⟩,.inr (by omega)⟩
   | 1,ht =>
    cases ht
    exact ⟨_,rfl,⟨rfl,.inr ⟨_,_,0,rfl,.inr ⟨_,c2'',rfl,by simp,fun j _=>by simp⟩⟩⟩,.inr (by omega)⟩
   | t+2,ht=>simp at ht
  ·intro row hr
   simp only [Ycs,List.not_mem_nil,or_false] at hr
   rcases hr with rfl | rfl
   ·exact ⟨by simp,fun a ha=>by simp at ha;subst ha;exact .inl rfl⟩
   ·refine ⟨by simp,fun a ha=>?_⟩
    simp at ha
    rcases ha with rfl | rfl
    ·exact .inr rfl
    ·exact .inl rfl
 ·rw [if_neg h3,if_pos ⟨rfl,rfl⟩,if_pos ⟨rfl,hs0,rfl⟩,if_pos ⟨rfl,rfl⟩]
  refine ⟨_,_,⟨tName,inits,rows,0,[]⟩,rfl,⟨a,y,.nils,rfl,⟨ha2,hal2⟩,hy2.of,⟨[],⟨rfl,.inl ⟨rfl,rfl⟩⟩,trivial,fun t r ht=>by simp at ht⟩⟩,⟨(by show tName.size<=20;decide),hn,hc,hmem,hi,by simp,by simp⟩,hv2.2.2.2⟩
theorem Small_R (hE:q97_In E) {h:Za} {x:Cell} {l:List Int} (hx:SlAt h x 1 (intC .i64 l) l.length) (hlow:Low h.length x) (hl:l.length<9223372036854775808) {most:Nat} (hmost:most<=900) :
  ∃(cs:List Cell) (h':Za) (T:PTest),R E 97 [.c x,.c (.int .i64 (most:Int))] h=some ([.agg cs],h')/\TestAt h' cs T/\GoodT most T/\Kp h.length h h':=by
 suffices hs:∃(cs:List Cell) (h':Za) (T:PTest),q97.body (R E) Zq E.glob [.c x,.c (.int .i64 (most:Int))] h=some ([.agg cs],h')/\TestAt h' cs T/\GoodT most T/\Kp h.length h h' by
  obtain ⟨cs,h',T,h1,h2⟩:=hs;exact ⟨cs,h',T,Zd hE.fn h1,h2⟩
 have hc:AV.cells (.c x)=[x]:=rfl
 have hl1:([x]:List Cell).length=1:=rfl
 have hl0:([ci0]:List Cell).length=1:=rfl
 have hln:(h++[some (Blk.mk true 0 [x])]).length=h.length+1:=by simp
 have hnm:splice [Cell.str (ByteArray.mk #[]),Cell.nils,Cell.nils,ci0,Cell.nils] 0 ([(.str (ByteArray.mk #[116]))]:List Cell)=[.str tName,.nils,.nils,.int .i64 0,.nils]:=rfl
 rw [q97_eq,hc,hl1,hl0,hnm,if_pos ⟨rfl,rfl,rfl⟩,Zsc (Zw _ _),if_pos (by simp),Zco (Zw _ _) rfl,setBlk_last]
 dsimp only [List.set]
 rw [hln]
 have hv0:VarsAt h x (h++[some ⟨true,0,[x]⟩]++[some ⟨true,0,[ci0]⟩]) 0:=by
  refine ⟨Zas (Zw _ _) _,?_,by simp,?_⟩
  ·have:=Zw (h++[some (Blk.mk true 0 [x])]) ⟨true,0,[ci0]⟩
   rw [hln] at this;exact this
  ·rw [Yg];exact Kp.app _ (Yf _)
 have hlen0:(h++[some (Blk.mk true 0 [x])]++[some (Blk.mk true 0 [ci0])]).length=h.length+2:=by simp
 generalize h++[some (Blk.mk true 0 [x])]++[some (Blk.mk true 0 [ci0])]=H0 at *
 rw [show (Cell.fn 115 [(h.length+1,1,0),(h.length,1,0)])=nxF h from rfl]
 obtain ⟨a0,a0p,_,hF1,hv1⟩:=Zkg hE.c115 hx hlow hl hv0 (by omega)
 rw [hF1,asI_ok]
 have hlen1:(setBlk H0 (h.length+1) (some ⟨true,0,[.int .i64 ((0+1:Nat):Int)]⟩)).length=h.length+2:=by rw [Zbw,hlen0]
 generalize setBlk H0 (h.length+1) (some ⟨true,0,[.int .i64 ((0+1:Nat):Int)]⟩)=H1 at *
 obtain ⟨a1,a1p,_,hF2,hv2⟩:=Zkg hE.c115 hx hlow hl hv1 (by omega)
 rw [hF2,asI_ok]
 have hlen2:(setBlk H1 (h.length+1) (some ⟨true,0,[.int .i64 ((0+1+1:Nat):Int)]⟩)).length=h.length+2:=by rw [Zbw,hlen1]
 generalize setBlk H1 (h.length+1) (some ⟨true,0,[.int .i64 ((0+1+1:Nat):Int)]⟩)=H2 at *
 obtain ⟨a2,a2p,_,hF3,hv3⟩:=Zkg hE.c115 hx hlow hl hv2 (by omega)
 rw [hF3,asI_ok]
 have hlen3:(setBlk H2 (h.length+1) (some ⟨true,0,[.int .i64 ((0+1+1+1:Nat):Int)]⟩)).length=h.length+2:=by rw [Zbw,hlen2]
 generalize setBlk H2 (h.length+1) (some ⟨true,0,[.int .i64 ((0+1+1+1:Nat):Int)]⟩)=H3 at *
 have n2:=Zdt (E:=E) a0p (show (0:Int)<2 by omega)
 have n3:=Zdt (E:=E) a1p (show (0:Int)<2 by omega)
 have w2:E.glob.wrap .i64 (E.glob.rem .i64 a0 2+2)=E.glob.rem .i64 a0 2+2:=Zj (by omega) (by omega)
 have w3:E.glob.wrap .i64 (E.glob.rem .i64 a1 2+2)=E.glob.rem .i64 a1 2+2:=Zj (by omega) (by omega)
 rw [w2,w3]
 obtain ⟨n,hn⟩:∃n:Nat,E.glob.rem .i64 a0 2+2=(n:Int):=⟨(E.glob.rem .i64 a0 2+2).toNat,by omega⟩
 generalize hLL:E.glob.rem .i64 a1 2+2=L at *
 rw [hn]
 have rest:∀(m:Nat) (H:Za) (a:Cell) (inits:List (Int × Int)),m<=4->VarsAt h x H m->SlAt H a 2 (Zbo inits) inits.length->Low H.length a->(∀k,Zv a k->k≠h.length+1)->(inits=[]∨∃v:Int,0<=v/\v<3/\inits=[(120,v)]) ->
   ∃(cs:List Cell) (h':Za) (T:PTest),(q97_k2 (R E) Zq E.glob h) .normal (q97_c1 (most:Int) (nxF h) (n:Int) L [Cell.str (ByteArray.mk #[]),Cell.nils,Cell.nils,ci0,Cell.nils] [.str tName,a,.nils,.int .i64 0,.nils] H)=some ([.agg cs],h')/\TestAt h' cs T/\GoodT most T/\Kp h.length h h':=by
  intro m H a inits hm hv ha hal had hi
  obtain ⟨mem',m',rows',y',H',f1,f2,f3,f4,f5,f6,f7,f8,f9,f10⟩:=Zxf hE.c115 hx hlow hl hmost (n:=n) (by omega) (L:=L) (by omega) [Cell.str (ByteArray.mk #[]),Cell.nils,Cell.nils,ci0,Cell.nils] a (name:=tName) (Nb:=H.length) hv.2.2.1 n 0 0 m [] .nils H (by omega) rfl (by omega) (by omega) rfl (by simp) hv (Yf _) (RowsOwn.nil _)
  have ha':SlAt H' a 2 (Zbo inits) inits.length:=by
   refine ⟨ha.1,ha.2.imp id ?_⟩
   rintro ⟨k,N,off,e,hh | ⟨b,hb,hN,hle,hat⟩⟩
   ·exact ⟨k,N,off,e,.inl hh⟩
   ·exact ⟨k,N,off,e,.inr ⟨b,by rw [f10.blk (Zan hb) (had k (by rw [e];rfl))];exact hb,hN,hle,hat⟩⟩
  obtain ⟨cs,h',T,g1,g2,g3,g4⟩:=Zq746 hE.c115 (hb:=h) hx hlow hl f6 (by omega) (most:=most) (rows:=rows') (a:=a) (y:=y') (inits:=inits) (Nb:=H.length) hv.2.2.1 f8 f9 ⟨ha',Zau f10.1 hal,had⟩ hi (by omega) (by omega) ⟨L,by omega,f5⟩ (s0:=[Cell.str (ByteArray.mk #[]),Cell.nils,Cell.nils,ci0,Cell.nils]) rfl
  refine ⟨cs,h',T,?_,g2,g3,g4⟩
  rw [q97_ec1_n]
  have e0:q97_s2 (most:Int) (nxF h) (n:Int) L 0 0 [Cell.str (ByteArray.mk #[]),Cell.nils,Cell.nils,ci0,Cell.nils] [.str tName,a,.nils,.int .i64 0,.nils] H=q97_s2 (most:Int) (nxF h) (n:Int) L ((0:Nat):Int) ((0:Nat):Int) [Cell.str (ByteArray.mk #[]),Cell.nils,Cell.nils,ci0,Cell.nils] [.str tName,a,.nils,.int .i64 0,.nils] H:=rfl
  rw [e0,f1,bind_ok,g1]
 by_cases h4:(E.glob.rem .i64 a2 4==0)=true
 ·obtain ⟨a3,a3p,_,hF4,hv4⟩:=Zkg hE.c115 hx hlow hl hv3 (by omega)
  have q3:=Zdt (E:=E) a3p (show (0:Int)<3 by omega)
  rw [if_pos h4,show ∀{α:Type} (f:Cell->Option α),Ze [Cell.str tName,.nils,.nils,.int .i64 0,.nils] 1 f=f .nils from fun _=>rfl,hF4,asI_ok]
  have hlen4:(setBlk H3 (h.length+1) (some ⟨true,0,[.int .i64 ((0+1+1+1+1:Nat):Int)]⟩)).length=h.length+2:=by rw [Zbw,hlen3]
  generalize setBlk H3 (h.length+1) (some ⟨true,0,[.int .i64 ((0+1+1+1+1:Nat):Int)]⟩)=H4 at *
  generalize E.glob.rem .i64 a3 3=v at *
  have e1:splice (splice [ci0,ci0] 0 [(.int .i64 120)]) 1 [(.int .i64 v)]=Zbo [(120,v)]:=rfl
  have e2:splice [ci0,ci0] 0 (Zbo [(120,v)])=Zbo [(120,v)]:=rfl
  have hm:maxBytes>=100:=by unfold maxBytes;omega
  have hap:∀{α:Type} (f:Cell->Za->Option α),Zao 2 16 .nils (Zbo [(120,v)]) H4 f=f (.sl H4.length 2 0 1) (H4++[some ⟨true,2,Zbo [(120,v)]⟩]):=by
   intro α f
   unfold Zao
   simp only
   rw [if_neg (by simp [Zbo]),if_pos ⟨by simp [Zbo];omega,by simp [Zbo];omega⟩]
   simp [Zbo]
  rw [e1,if_pos ⟨rfl,by simp⟩,e2,if_pos (show (Zbo [(120,v)]).length=1*2 from rfl),hap,if_pos (by simp),bind_ok]
  have hv5:VarsAt h x (H4++[some ⟨true,2,Zbo [(120,v)]⟩]) (0+1+1+1+1):=hv4.keep (Kp.app _ (by omega))
  exact rest (0+1+1+1+1) _ (.sl H4.length 2 0 1) [(120,v)] (by omega) hv5 ⟨rfl,.inr ⟨_,_,0,rfl,.inr ⟨_,Zw _ _,rfl,by simp,fun j _=>by simp⟩⟩⟩ (.inr (by simp)) (fun k hk=>by have:H4.length=k:=hk;omega) (.inr ⟨v,q3.1,q3.2,rfl⟩)
 ·rw [if_neg h4,bind_ok]
  exact rest (0+1+1+1) _ .nils [] (by omega) hv3 ⟨rfl,.inl ⟨rfl,rfl⟩⟩ trivial (fun k hk=>by cases hk) (.inl rfl)
end
section
variable {E:Env}
end
section
variable {E:Env}
theorem SlAt.whole {h:Za} {k len esz:Nat} {cs:List Cell} {o:Bool} {e:Nat} (hb:blk? h k=some ⟨o,e,cs⟩) (hl:cs.length=len*esz):SlAt h (.sl k cs.length 0 len) esz cs len :=
 ⟨hl,.inr ⟨k,_,0,rfl,.inr ⟨_,hb,rfl,by omega,fun j _=>by simp⟩⟩⟩
end
def SkipOk (code:List Ins):Prop:=∀(j:Nat) (i:Ins),code[j]? = some i->i.kind=6->0<=i.n/\(j:Int)+1+i.n<=code.length
structure GoodP (most:Nat) (P:PProg):Prop where
 small:P.small
 good:P.good
 n:2<=P.thr.length/\P.thr.length<=3
 init:P.init.length<=3
 locs:P.locs.length=P.init.length
 code:∀c∈P.thr,c.length<=6
 skip:∀c∈P.thr,SkipOk c
theorem SmI.good {L:Int} {i:Ins} (s:SmI L i) {n:Nat} (hn:1<=n):GoodI n i:=by
 rcases s with ⟨h1,h2,_⟩ | ⟨h1,h2,_⟩ | rfl | ⟨h1,h2,_⟩ | ⟨h1,h2,_,_,h3,_⟩ | ⟨h1,h2,_,_,h3,_,h4⟩
 all_goals refine ⟨?_,?_,?_,?_⟩<;>(try simp only)<;>omega
theorem SmI.skip {L:Int} {i:Ins} (s:SmI L i) (h:i.kind=6):i.n=1:=by
 rcases s with ⟨h1,_⟩ | ⟨h1,_⟩ | rfl | ⟨h1,_⟩ | ⟨h1,_⟩ | ⟨h1,h2,_,_,h3,_,h4⟩
 ·omega
 ·omega
 ·simp at h
 ·omega
 ·omega
 ·exact h4
theorem ThrOk.skip {L:Int} {k:Nat} {c:List Ins} (t:ThrOk L k c):SkipOk c:=by
 induction t with
 | nil=>intro j i h;simp at h
 | @one k c q t hq h6 ih =>
  intro j i h hk
  rcases Yan j c.length with hj | hj
  ·rw [Yi hj] at h
   have:=ih j i h hk
   rw [Yb];simp;omega
  ·rw [Yh hj] at h
   have:=Yj h
   rw [Ys] at this
   subst this;exact absurd hk h6
 | @two k c q r t hq h6 hr hr1 ih =>
  intro j i h hk
  rcases Yan j c.length with hj | hj
  ·rw [Yi hj] at h
   have:=ih j i h hk
   rw [Yb];simp;omega
  ·rw [Yh hj] at h
   have h2:=Zf h
   simp only [Yo,Yu] at h2
   rcases (show j - c.length=0∨j - c.length=1 by omega) with e | e
   ·rw [e] at h
    cases h
    have:=hq.skip hk
    rw [Yb];simp;omega
   ·rw [e] at h
    cases h
    omega
theorem Zla {locs:List Int} {i:Ins}:(Zcz locs i).kind=i.kind/\(Zcz locs i).n=i.n:=by
 unfold Zcz;split<;>exact ⟨rfl,rfl⟩
theorem SkipOk.map {locs:List Int} {c:List Ins} (s:SkipOk c):SkipOk (c.map (Zcz locs)):=by
 intro j i h hk
 rw [List.getElem?_map] at h
 cases hc:c[j]? with
 | none=>rw [hc] at h;cases h
 | some q =>
  rw [hc] at h
  cases h
  rw [Zla.1] at hk
  rw [Zla.2,Ybd]
  exact s j q hc hk
theorem Zxo {locs:List Int} {i:Ins} {n:Nat} (g:GoodI n i):GoodI n (Zcz locs i):=by
 unfold Zcz
 split
 ·exact ⟨g.1,g.2,g.3,g.4⟩
 ·exact g
theorem SmI.loc {L:Int} {i:Ins} (s:SmI L i):i.loc=0∨(120<=i.loc/\i.loc<120+L):=by
 rcases s with ⟨h1,h2,h3,_⟩ | ⟨h1,h2,h3,_⟩ | rfl | ⟨h1,h2,h3,_⟩ | ⟨h1,h2,h3,_,_⟩ | ⟨h1,h2,h3,_,_,_⟩
 ·exact .inr h3
 ·exact .inr h3
 ·exact .inl rfl
 ·exact .inr h3
 ·exact .inl h3
 ·exact .inl h3
theorem Zrg (S:Nat->Bool) (hS:∀b,97<=b->b<120->S b=false):∀n,n<=26->(locsF S n).length<=n - 23
 | 0,_=>by simp [locsF]
 | n+1,h=>by
  have ih:=Zrg S hS n (by omega)
  rw [Zhl]
  split
  ·rename_i hs
   have:¬97+n<120:=fun hlt=>by rw [hS _ (by omega) hlt] at hs;cases hs
   rw [Yb,Yq];omega
  ·omega
theorem GoodT.small {most:Nat} {T:PTest} (g:GoodT most T):T.small:=by
 obtain ⟨L,hL,hc⟩:=g.code
 refine ⟨?_,by have:=g.n;omega,fun c hcm=>?_,by have:=g.any.1;omega,fun c hcm=>by have:=(g.any.2 c hcm).1;omega⟩
 ·rcases g.inits with h | ⟨v,_,_,h⟩<;>rw [h]<;>simp
 ·obtain ⟨k,hk,ht⟩:=hc c hcm
  have:=ht.len;omega
theorem GoodT.few {most:Nat} {T:PTest} (g:GoodT most T):(Zbd T).length<=3:=by
 obtain ⟨L,hL,hc⟩:=g.code
 refine Yy (Zrg (Zdg T) (fun b h1 h2=>?_) 26 (Yf _)) (by omega)
 unfold Zdg
 rw [Ycp,Ycp]
 refine ⟨⟨?_,?_⟩,?_⟩
 ·rw [Yac]
  intro p hp
  rcases g.inits with h | ⟨v,_,_,h⟩
  ·rw [h] at hp;cases hp
  ·rw [h] at hp
   rw [Ys] at hp
   subst hp
   rw [beq_iff_eq];simp only;omega
 ·rw [Yac]
  intro c hcm
  rw [Ybl,Yac]
  intro i hi
  obtain ⟨k,hk,ht⟩:=hc c hcm
  rw [beq_iff_eq]
  have:=(ht.all i hi).loc
  omega
 ·rw [Yac]
  intro c hcm
  rw [Ybl,Yac]
  intro i hi
  rw [beq_iff_eq]
  have:=(g.any.2 c hcm).2 i hi
  omega
theorem GoodT.goodP {most:Nat} {T:PTest} (g:GoodT most T):GoodP most (Zdm T):=by
 obtain ⟨L,hL,hc⟩:=g.code
 have hlen:∀c∈T.thr,c.length<=6:=fun c hcm=>by
  obtain ⟨k,hk,ht⟩:=hc c hcm
  have:=ht.len;omega
 have hcode:∀c∈(Zdm T).thr,c.length<=6:=fun c hcm=>by
  obtain ⟨d,hd,rfl⟩:=Yas.1 hcm
  rw [Ybd];exact hlen d hd
 have hn:(Zdm T).thr.length=T.thr.length:=Ybd _
 have hi:(Zdm T).init.length=(Zbd T).length:=Ybd _
 have hfew:=g.few
 have hgn:=g.n
 refine ⟨⟨by omega,fun c hcm=>by have:=hcode c hcm;omega⟩,⟨⟨by omega,fun c hcm=>by have:=hcode c hcm;omega⟩,fun c hcm=>?_⟩,by omega,by omega,hi.symm,hcode,fun c hcm=>by
  obtain ⟨d,hd,rfl⟩:=Yas.1 hcm
  obtain ⟨k,hk,ht⟩:=hc d hd
  exact ht.skip.map⟩
 obtain ⟨d,hd,rfl⟩:=Yas.1 hcm
 intro i him
 obtain ⟨j,hj,rfl⟩:=Yas.1 him
 rw [Ybd]
 obtain ⟨k,hk,ht⟩:=hc d hd
 exact Zxo ((ht.all j hj).good (List.length_pos_of_mem hj))
section
variable {E:Env}
end
section
variable {E:Env}
theorem Size_R (hE:q102_In E) {cs:List Cell} {P:PProg} {h:Za} (p:ProgAt h cs P) (hs:P.small):R E 102 [.agg cs] h=some ([.c (.int .i64 (Zls P.thr))],h):=by
 obtain ⟨a,b,c,ts,rfl,_,_,⟨hc,_⟩,hx⟩:=p
 refine Zd hE.fn ?_
 have a2:∀{α:Type} (f:Cell->Option α),Ze [a,b,c] 2 f=f c:=fun _=>rfl
 have n2:=hs.1
 have loop:=Zax (F:=q102_F1 (R E) Zq E.glob) (fun i=>q102_s1 (Zls (P.thr.take i)) c P.thr.length (i:Int) h) 0 P.thr.length (by omega) (p:=(.exit 0,q102_x1_1 (Zls (P.thr.take P.thr.length)) h))
  (fun i _ hi=>by
   have hq:P.thr[i]? = some P.thr[i]:=Yc hi
   generalize P.thr[i]=q at hq
   obtain ⟨y,y1,y2,y3⟩:=hx i q hq
   have hsum:=sumT_le (P.thr.take i) fun c hc=>hs.2 c (Ycq hc)
   rw [Yp] at hsum
   have hql:=hs.2 q (Yj hq)
   have hw:E.glob.wrap .i64 (Zls (P.thr.take i)+(q.length:Int))=Zls (P.thr.take (i+1)):=by
    rw [Zal hq,Zq709]
    unfold Zls
    exact Zj (by omega) (by omega)
   rw [q102_r1,if_pos (by simp;omega),hc.get1 hi y1,y2.len,hw,Zo (by omega)])
  (Zm (by rw [q102_r1,if_neg (by simp)]))
 rw [Yx (Yf _),show Zls (P.thr.take 0)=0 from rfl,show ((0:Nat):Int)=0 from rfl] at loop
 rw [q102_eq,a2,hc.len,loop,bind_ok,q102_e1_1]
end
section
variable {E:Env}
end
theorem splice_app (a b xs:List Cell) (j:Nat):splice (a++b) (a.length+j) xs=a++splice b j xs:=by
 unfold splice
 rw [List.take_append,Ydd,Yx (by omega),Yam (l:=a) (by omega)]
 simp only [Yad,Yg,show a.length+j - a.length=j by omega,show a.length+j+xs.length - a.length=j+xs.length by omega]
section
variable {E:Env}
end
section
variable (C:Zab) (L:Zbv) (G:Glo)
variable {h h0:Za}
variable {b6:Bool}
variable {a0 a1 a2 a3 a4 a5 a7 a8:Int}
variable {l0 s0:List Cell}
theorem q190_eq:q190.body C L G [(.c (.int .i64 a0))] h0=scK (a0 != 2) true (some ((a0 != 3),h0)) false h0 fun b h=>if b=true then if 0=0/\(Ya 74 ci0).length=74/\(splice (Ya 74 ci0) 0 [(.int .i64 0)]).length=74 then if 0=0/\(splice (Ya 74 ci0) 0 [(.int .i64 0)]).length=74 then some ([(.agg (splice (Ya 74 ci0) 0 [(.int .i64 0)]))],h) else none else none else if 0=0/\(Ya 74 ci0).length=74/\(splice (Ya 74 ci0) 0 [(.int .i64 a0)]).length=74 then if 0=0/\(splice (Ya 74 ci0) 0 [(.int .i64 a0)]).length=74 then some ([(.agg (splice (Ya 74 ci0) 0 [(.int .i64 a0)]))],h) else none else none:=by kernel_rfl
theorem q191_eq:q191.body C L G [(.agg l0)] h0=Ze l0 1 fun q=>Zk .i64 (.c q) fun n=>some ([(.c (.bool (n==0)))],h0):=by kernel_rfl
theorem q192_eq:q192.body C L G [(.agg l0),(.c (.int .i64 a1))] h0=if 0=0/\l0.length=74 then c1 (C 204 [(.agg l0),(.c (.int .i64 a1))] h0) fun y h=>Zk .i64 y fun n=>if (decide (n<0))=true then some ([(.c (.int .i64 0)),(.c (.int .i64 0)),(.c (.int .i64 0)),(.c (.bool false))],h) else if 0<=n/\n<((24:Nat):Int) then Ze l0 ((2+((Yd n)*3))+0) fun q=>Zk .i64 (.c q) fun n1=>if 0<=n/\n<((24:Nat):Int) then Ze l0 ((2+((Yd n)*3))+1) fun q=>Zk .i64 (.c q) fun n2=>if 0<=n/\n<((24:Nat):Int) then Ze l0 ((2+((Yd n)*3))+2) fun q=>Zk .i64 (.c q) fun n=>some ([(.c (.int .i64 n1)),(.c (.int .i64 n2)),(.c (.int .i64 n)),(.c (.bool true))],h) else none else none else none else none:=by kernel_rfl
def q204_k2 (h0:Za):Ex->St->Rs:=Zac (fun st=>q204_p1.exec C L G st (q204.fin G h0)) (q204.fin G h0)
def q204_k3 (h0:Za):Ex->St->Rs:=Zag 0 (q204_k2 C L G h0)
def q204_s1 (a1 a7 a8:Int) (s0:List Cell) (h:Za):St:=⟨tops 1 (.v (.c (.int .i64 a1)) :: .loc 0 0 :: tops 4 (.v (.c (.int .i64 a7)) :: .v (.c (.int .i64 a8)) :: tops 16 [])),[some s0],h⟩
def q204_F1 :St->Option (Ex × St):=Zt (q204_b1.exec C L G) [1,2,7,8] [0] [(0,[4],[]),(1,[],[])]
def q204_x1_0 (a4:Int) (h:Za):St:=⟨tops 4 (.v (.c (.int .i64 a4)) :: tops 20 []),[none],h⟩
def q204_x1_1 (h:Za):St:=⟨tops 25 [],[none],h⟩
theorem q204_r1:q204_F1 C L G (q204_s1 a1 a7 a8 s0 h)=if (decide (a8<a7))=true then Ze s0 0 fun q=>Zk .i64 (.c q) fun n=>scK (n==2) false (if 0<=a8/\a8<((24:Nat):Int) then Ze s0 ((2+((Yd a8)*3))+0) fun q=>Zk .i64 (.c q) fun n=>some ((n==a1),h) else none) true h fun b h1=>if b=true then some (.ret,(q204_x1_0 a8 h1)) else some (.normal,(q204_s1 a1 a7 (G.wrap .i64 (a8+1)) s0 h1)) else some ((.exit 0),(q204_x1_1 h)):=by kernel_rfl
theorem q204_e1_0:(q204_k3 C L G h0) .ret (q204_x1_0 a4 h)=some ([(.c (.int .i64 a4))],h):=by kernel_rfl
theorem q204_e1_1:(q204_k3 C L G h0) (.exit 0) (q204_x1_1 h)=some ([(.c (.int .i64 (-1)))],h):=by kernel_rfl
theorem q204_eq:q204.body C L G [(.agg l0),(.c (.int .i64 a1))] h0=Ze l0 1 fun q=>Zk .i64 (.c q) fun n=>(L (q204_F1 C L G) (q204_s1 a1 n 0 l0 h0)).bind fun p=>(q204_k3 C L G h0) p.1 p.2:=by kernel_rfl
def q205_k2 (h0:Za):Ex->St->Rs:=Zac (fun st=>q205_p1.exec C L G st (q205.fin G h0)) (q205.fin G h0)
def q205_k3 (h0:Za):Ex->St->Rs:=Zag 0 (q205_k2 C L G h0)
def q205_s1 (a1 a7:Int) (s0:List Cell) (h:Za):St:=⟨tops 1 (.v (.c (.int .i64 a1)) :: .loc 0 0 :: tops 4 (.v (.c (.int .i64 a7)) :: tops 24 [])),[some s0],h⟩
def q205_F1 :St->Option (Ex × St):=Zt (q205_b1.exec C L G) [1,2,7] [0] [(0,[4,5,6],[]),(1,[],[])]
def q205_x1_0 (a4 a5:Int) (b6:Bool) (h:Za):St:=⟨tops 4 (.v (.c (.int .i64 a4)) :: .v (.c (.int .i64 a5)) :: .v (.c (.bool b6)) :: tops 25 []),[none],h⟩
def q205_x1_1 (h:Za):St:=⟨tops 32 [],[none],h⟩
theorem q205_r1:q205_F1 C L G (q205_s1 a1 a7 s0 h)=if (decide (a7>=0))=true then if 0<=a7/\a7<((24:Nat):Int) then Ze s0 ((2+((Yd a7)*3))+0) fun q=>Zk .i64 (.c q) fun n=>if (n==a1)=true then if 0<=a7/\a7<((24:Nat):Int) then Ze s0 ((2+((Yd a7)*3))+1) fun q=>Zk .i64 (.c q) fun n=>if 0<=a7/\a7<((24:Nat):Int) then Ze s0 ((2+((Yd a7)*3))+2) fun q=>Zk .i64 (.c q) fun n1=>some (.ret,(q205_x1_0 n n1 true h)) else none else none else some (.normal,(q205_s1 a1 (G.wrap .i64 (a7 - 1)) s0 h)) else none else some ((.exit 0),(q205_x1_1 h)):=by kernel_rfl
theorem q205_e1_0:(q205_k3 C L G h0) .ret (q205_x1_0 a4 a5 b6 h)=some ([(.c (.int .i64 a4)),(.c (.int .i64 a5)),(.c (.bool b6))],h):=by kernel_rfl
theorem q205_e1_1:(q205_k3 C L G h0) (.exit 0) (q205_x1_1 h)=some ([(.c (.int .i64 0)),(.c (.int .i64 0)),(.c (.bool false))],h):=by kernel_rfl
theorem q205_eq:q205.body C L G [(.agg l0),(.c (.int .i64 a1))] h0=Ze l0 1 fun q=>Zk .i64 (.c q) fun n=>(L (q205_F1 C L G) (q205_s1 a1 (G.wrap .i64 (n - 1)) l0 h0)).bind fun p=>(q205_k3 C L G h0) p.1 p.2:=by kernel_rfl
theorem q206_eq:q206.body C L G [(.agg l0),(.c (.int .i64 a1)),(.c (.int .i64 a2)),(.c (.int .i64 a3))] h0=Ze l0 0 fun q=>Zk .i64 (.c q) fun n=>scK (n==0) false (some ((decide (a1<0)),h0)) true h0 fun b h=>scK b false (some ((decide (a1>=4)),h)) true h fun b h=>scK b false (Ze l0 1 fun q=>Zk .i64 (.c q) fun n=>some ((decide (n>=24)),h)) true h fun b h=>if b=true then if 0=0/\l0.length=74 then if 0=0/\(Ya 74 ci0).length=74/\l0.length=74 then if 0=0/\l0.length=74 then some ([(.agg l0)],h) else none else none else none else Ze l0 1 fun q=>Zk .i64 (.c q) fun n=>if 0<=n/\n<((24:Nat):Int) then if (2+((Yd n)*3))+3<=l0.length/\(splice (splice (splice [ci0,ci0,ci0] 0 [(.int .i64 a1)]) 1 [(.int .i64 a2)]) 2 [(.int .i64 a3)]).length=3 then Ze (splice l0 (2+((Yd n)*3)) (splice (splice (splice [ci0,ci0,ci0] 0 [(.int .i64 a1)]) 1 [(.int .i64 a2)]) 2 [(.int .i64 a3)])) 1 fun q=>Zk .i64 (.c q) fun n1=>if 1<(splice l0 (2+((Yd n)*3)) (splice (splice (splice [ci0,ci0,ci0] 0 [(.int .i64 a1)]) 1 [(.int .i64 a2)]) 2 [(.int .i64 a3)])).length then if 0=0/\((splice l0 (2+((Yd n)*3)) (splice (splice (splice [ci0,ci0,ci0] 0 [(.int .i64 a1)]) 1 [(.int .i64 a2)]) 2 [(.int .i64 a3)])).set 1 (.int .i64 (G.wrap .i64 (n1+1)))).length=74 then if 0=0/\(Ya 74 ci0).length=74/\((splice l0 (2+((Yd n)*3)) (splice (splice (splice [ci0,ci0,ci0] 0 [(.int .i64 a1)]) 1 [(.int .i64 a2)]) 2 [(.int .i64 a3)])).set 1 (.int .i64 (G.wrap .i64 (n1+1)))).length=74 then if 0=0/\((splice l0 (2+((Yd n)*3)) (splice (splice (splice [ci0,ci0,ci0] 0 [(.int .i64 a1)]) 1 [(.int .i64 a2)]) 2 [(.int .i64 a3)])).set 1 (.int .i64 (G.wrap .i64 (n1+1)))).length=74 then some ([(.agg ((splice l0 (2+((Yd n)*3)) (splice (splice (splice [ci0,ci0,ci0] 0 [(.int .i64 a1)]) 1 [(.int .i64 a2)]) 2 [(.int .i64 a3)])).set 1 (.int .i64 (G.wrap .i64 (n1+1)))))],h) else none else none else none else none else none else none:=by kernel_rfl
theorem q207_eq:q207.body C L G [(.agg l0),(.c (.int .i64 a1))] h0=Zp (h0++[some (Blk.mk true 0 (AV.cells (.agg l0)))]) h0.length ((AV.cells (.agg l0)).length) fun l=>if 0=0/\l.length=74 then c1 (C 204 [(.agg l),(.c (.int .i64 a1))] (h0++[some (Blk.mk true 0 (AV.cells (.agg l0)))])) fun y h=>Zk .i64 y fun n=>if (decide (n<0))=true then Zp h h0.length ((AV.cells (.agg l0)).length) fun l=>if 0=0/\l.length=74 then if 0=0/\(Ya 74 ci0).length=74/\l.length=74 then if 0=0/\l.length=74 then Zbr true h0 [(.agg l)] h else none else none else none else Zcl h 24 3 true false (.ptr h0.length ((AV.cells (.agg l0)).length) 2) [.v (.c (.int .i64 n))] fun x=>Zcl h 24 3 true false (.ptr h0.length ((AV.cells (.agg l0)).length) 2) [.v (.c (.int .i64 (G.wrap .i64 (n+1))))] fun x1=>Zgf 3 x x1 h fun n h=>Zp h h0.length ((AV.cells (.agg l0)).length) fun l=>Ze l 1 fun q=>Zk .i64 (.c q) fun n=>Zp h h0.length ((AV.cells (.agg l0)).length) fun l=>if 1<l.length then Zbe h h0.length (l.set 1 (.int .i64 (G.wrap .i64 (n - 1)))) fun h=>Zp h h0.length ((AV.cells (.agg l0)).length) fun l=>Ze l 1 fun q=>Zk .i64 (.c q) fun n=>if 0<=n/\n<((24:Nat):Int) then Zp h h0.length ((AV.cells (.agg l0)).length) fun l=>if (2+((Yd n)*3))+3<=l.length/\[ci0,ci0,ci0].length=3 then Zbe h h0.length (splice l (2+((Yd n)*3)) [ci0,ci0,ci0]) fun h=>Zp h h0.length ((AV.cells (.agg l0)).length) fun l=>if 0=0/\l.length=74 then if 0=0/\(Ya 74 ci0).length=74/\l.length=74 then if 0=0/\l.length=74 then Zbr true h0 [(.agg l)] h else none else none else none else none else none else none else none:=by kernel_rfl
end
structure Ent where
 loc:Int
 val:Int
 id:Int
 deriving DecidableEq
def Ent.cs (e:Ent):List Cell:=[.int .i64 e.loc,.int .i64 e.val,.int .i64 e.id]
def Zaa (l:List Ent):List Cell:=l.flatMap Ent.cs
theorem entsC_len:∀l:List Ent,(Zaa l).length=l.length*3
 | []=>rfl
 | s :: l=>by simp only [Zaa,Ycc,Yb];rw [show (l.flatMap _).length=_ from entsC_len l];simp [Ent.cs];omega
theorem Zgu:∀(l:List Ent) (i:Nat) (s:Ent),l[i]? = some s->∀j,j<3->(Zaa l)[i*3+j]? = s.cs[j]?
 | [],_,_,h,_,_=>by simp at h
 | q :: l,0,s,h,j,hj=>by
  simp at h;subst h
  rw [show Zaa (q :: l)=q.cs++Zaa l from rfl,Yi (by simp [Ent.cs];omega)];congr 1;omega
 | q :: l,i+1,s,h,j,hj=>by
  have:=Zgu l i s (by simpa using h) j hj
  rw [show Zaa (q :: l)=q.cs++Zaa l from rfl,Yh (by simp [Ent.cs];omega),←this]
  congr 1;simp [Ent.cs];omega
def Zaj (m:Int) (l:List Ent):List Cell:=[.int .i64 m,.int .i64 (l.length:Int)]++(Zaa l++Ya (72 - l.length*3) (.int .i64 0))
theorem Zcp (m:Int) {l:List Ent} (h:l.length<=24):(Zaj m l).length=74:=by
 unfold Zaj;rw [Yb,Yb,entsC_len,Ybm];simp;omega
theorem Zgx {α:Type} {m:Int} {l:List Ent} {i j:Nat} {s:Ent} {c:Cell} (h:l[i]? = some s) (hj:j<3) (hc:s.cs[j]? = some c) {f:Cell->Option α}:Ze (Zaj m l) ((2+i*3)+j) f=f c:=by
 refine Zae ?_
 have hi:=Zf h
 have hl:=entsC_len l
 unfold Zaj
 rw [Yh (by simp;omega),Yi (by simp;omega)]
 rw [show 2+i*3+j - [Cell.int .i64 m,Cell.int .i64 (l.length:Int)].length=i*3+j by simp;omega,Zgu l i s h j hj,hc]
def Zch (m loc:Int) (e:Ent):Bool:=m==2||e.loc==loc
def oldI (m loc:Int) (l:List Ent):Int:=match l.findIdx? (Zch m loc) with | some i=>i | none=>-1
def Zcj (loc:Int) (l:List Ent):Option Ent:=l.reverse.find? fun e=>e.loc==loc
theorem Zuq {α:Type} {F:St->Option (Ex × St)} (S r:Nat->St) (x:St) (e:Nat) (l:List α) (p:α->Bool) (hs:∀(i:Nat) (q:α),l[i]? = some q->F (S i)=if p q=true then some (.ret,r i) else some (.normal,S (i+1))) (he:F (S l.length)=some (.exit e,x)) :
  Zq F (S 0)=some (match l.findIdx? p with | some i=>(.ret,r i) | none=>(.exit e,x)):=by
 have key:∀(t:List α) (i:Nat),l.drop i=t->i<=l.length->Zq F (S i)=some (match t.findIdx? p with | some k=>(.ret,r (i+k)) | none=>(.exit e,x)):=by
  intro t
  induction t with
  | nil =>
   intro i hd hi
   have:l.length<=i:=by
    have:=congrArg Ydc hd
    rw [Yv,Yu] at this;omega
   obtain rfl:i=l.length:=by omega
   rw [Zm he];rfl
  | cons q t ih =>
   intro i hd hi
   have hlt:i<l.length:=by
    have:=congrArg Ydc hd
    rw [Yv,Yo] at this;omega
   have hq:l[i]? = some q:=by rw [←List.head?_drop,hd];rfl
   have hd2:l.drop (i+1)=t:=by rw [←List.drop_drop,hd];rfl
   have h1:=hs i q hq
   rw [Ycu]
   cases hp:p q with
   | true =>
    rw [hp,if_pos rfl] at h1
    rw [Zcf h1,if_pos rfl];rfl
   | false =>
    rw [hp,if_neg (by simp)] at h1
    rw [Zat h1 (ih (i+1) hd2 (by omega)),if_neg (by simp)]
    cases t.findIdx? p with
    | none=>rfl
    | some k=>show some (Ex.ret,r (i+1+k))=some (Ex.ret,r (i+(k+1)));rw [show i+1+k=i+(k+1) by omega]
 have:=key l 0 rfl (Nat.zero_le _)
 rw [this]
 cases l.findIdx? p with
 | none=>rfl
 | some k=>simp
section
variable {E:Env}
theorem bufNew_R (hE:q190_In E) (m:Int) (h:Za):R E 190 [.c (.int .i64 m)] h=some ([.agg (Zaj (if m=2∨m=3 then m else 0) [])],h):=by
 refine Zd hE.fn ?_
 rw [q190_eq,scK_and]
 by_cases hm:m=2∨m=3
 ·rw [if_neg (by simp;omega),if_pos hm,if_pos (by exact ⟨rfl,rfl,rfl⟩),if_pos (by exact ⟨rfl,rfl⟩)]
  rfl
 ·rw [if_pos (by simp;omega),if_neg hm,if_pos (by exact ⟨rfl,rfl,rfl⟩),if_pos (by exact ⟨rfl,rfl⟩)]
  rfl
theorem Zjq (hE:q191_In E) {m:Int} {l:List Ent} (h:Za):R E 191 [.agg (Zaj m l)] h=some ([.c (.bool (l.length==0))],h):=by
 refine Zd hE.fn ?_
 have a1:∀{α:Type} (f:Cell->Option α),Ze (Zaj m l) 1 f=f (.int .i64 (l.length:Int)):=fun _=>rfl
 have hz:((l.length:Int)==0)=(l.length==0):=by cases l<;>rfl
 rw [q191_eq,a1,asI_ok,hz]
theorem buf_a0 {α:Type} {m:Int} {l:List Ent} {f:Cell->Option α}:Ze (Zaj m l) 0 f=f (.int .i64 m):=rfl
theorem buf_a1 {α:Type} {m:Int} {l:List Ent} {f:Cell->Option α}:Ze (Zaj m l) 1 f=f (.int .i64 (l.length:Int)):=rfl
theorem Zmt (hE:q204_In E) {m:Int} {l:List Ent} (hl:l.length<=24) (loc:Int) (h:Za):R E 204 [.agg (Zaj m l),.c (.int .i64 loc)] h=some ([.c (.int .i64 (oldI m loc l))],h):=by
 refine Zd hE.fn ?_
 have hL:=Zuq (F:=q204_F1 (R E) Zq E.glob) (fun i=>q204_s1 loc l.length (i:Int) (Zaj m l) h) (fun i=>q204_x1_0 (i:Int) h) (q204_x1_1 h) 0 l (Zch m loc) (fun i q hq=>by
  have hi:=Zf hq
  rw [q204_r1,if_pos (by simp;omega),buf_a0,asI_ok,if_pos ⟨by omega,by omega⟩,Ye,Zgx hq (by omega) (c:=.int .i64 q.loc) rfl,asI_ok,scK_or,Zo (by omega)]
  rfl) (by rw [q204_r1,if_neg (by simp)])
 have hL':Zq (q204_F1 (R E) Zq E.glob) (q204_s1 loc l.length 0 (Zaj m l) h)=_:=hL
 rw [q204_eq,buf_a1,asI_ok,hL',bind_ok]
 unfold oldI
 cases l.findIdx? (Zch m loc) with
 | none=>dsimp only;rw [q204_e1_1]
 | some i=>dsimp only;rw [q204_e1_0]
theorem Zne (hE:q192_In E) {m:Int} {l:List Ent} (hl:l.length<=24) (loc:Int) (h:Za) :
  R E 192 [.agg (Zaj m l),.c (.int .i64 loc)] h=some (match l.find? (Zch m loc) with | some e=>([.c (.int .i64 e.loc),.c (.int .i64 e.val),.c (.int .i64 e.id),.c (.bool true)],h) | none=>([.c (.int .i64 0),.c (.int .i64 0),.c (.int .i64 0),.c (.bool false)],h)):=by
 refine Zd hE.fn ?_
 rw [q192_eq,if_pos ⟨rfl,Zcp m hl⟩,Zmt hE.c204 hl,c1_ok,asI_ok]
 unfold oldI
 cases hf:l.findIdx? (Zch m loc) with
 | none =>
  have:l.find? (Zch m loc)=none:=by
   rw [Ycv]
   intro e he
   rw [Yai] at hf
   rw [hf e he];simp
  rw [this]
  dsimp only
  rw [if_pos (by decide)]
 | some i =>
  obtain ⟨hi,hp,hlt⟩:=Yr.1 hf
  have hq:l[i]? = some l[i]:=Yc hi
  have hfi:l.find? (Zch m loc)=some l[i]:=by
   rw [Yav]
   exact ⟨hp,i,hi,rfl,fun j hj=>by have:=hlt j hj;simpa using this⟩
  rw [hfi]
  generalize l[i]=e at hq
  dsimp only
  rw [if_neg (by rw [decide_eq_true_eq];omega),if_pos ⟨by omega,by omega⟩,Ye,Zgx hq (by omega) (c:=.int .i64 e.loc) rfl,asI_ok,if_pos ⟨by omega,by omega⟩,Zgx hq (by omega) (c:=.int .i64 e.val) rfl,asI_ok,if_pos ⟨by omega,by omega⟩,Zgx hq (by omega) (c:=.int .i64 e.id) rfl,asI_ok]
theorem Zul (hE:q205_In E) {m:Int} {l:List Ent} (hl:l.length<=24) (loc:Int) (h:Za) :
  R E 205 [.agg (Zaj m l),.c (.int .i64 loc)] h=some (match Zcj loc l with | some e=>([.c (.int .i64 e.val),.c (.int .i64 e.id),.c (.bool true)],h) | none=>([.c (.int .i64 0),.c (.int .i64 0),.c (.bool false)],h)):=by
 refine Zd hE.fn ?_
 have key:∀i:Nat,i<=l.length->(Zq (q205_F1 (R E) Zq E.glob) (q205_s1 loc ((i:Int) - 1) (Zaj m l) h)).bind (fun p=>q205_k3 (R E) Zq E.glob h p.1 p.2) =
   some (match (l.take i).reverse.find? (fun e=>e.loc==loc) with | some e=>([.c (.int .i64 e.val),.c (.int .i64 e.id),.c (.bool true)],h) | none=>([.c (.int .i64 0),.c (.int .i64 0),.c (.bool false)],h)):=by
  intro i
  induction i with
  | zero =>
   intro _
   have hr:q205_F1 (R E) Zq E.glob (q205_s1 loc (((0:Nat):Int) - 1) (Zaj m l) h)=some (.exit 0,q205_x1_1 h):=by
    rw [q205_r1,if_neg (by rw [decide_eq_true_eq];omega)]
   rw [Zm hr,bind_ok,q205_e1_1];rfl
  | succ i ih =>
   intro hi
   have hq:l[i]? = some l[i]:=Yc (by omega)
   generalize l[i]=e at hq
   have he:(((i+1:Nat):Int) - 1)=(i:Int):=by omega
   rw [he,Zal hq,Ybu,Ybi,Yaz,Yci]
   have hg:∀(b:Bool),(e.loc==loc)=b->q205_F1 (R E) Zq E.glob (q205_s1 loc (i:Int) (Zaj m l) h)=if b=true then some (.ret,q205_x1_0 e.val e.id true h) else some (.normal,q205_s1 loc ((i:Int) - 1) (Zaj m l) h):=by
    intro b hb
    rw [q205_r1,if_pos (by rw [decide_eq_true_eq];omega),if_pos ⟨by omega,by omega⟩,Ye,Zgx hq (by omega) (c:=.int .i64 e.loc) rfl,asI_ok,hb]
    cases b with
    | true=>rw [if_pos rfl,if_pos rfl,if_pos ⟨by omega,by omega⟩,Zgx hq (by omega) (c:=.int .i64 e.val) rfl,asI_ok,if_pos ⟨by omega,by omega⟩,Zgx hq (by omega) (c:=.int .i64 e.id) rfl,asI_ok]
    | false=>rw [if_neg (by simp),if_neg (by simp),Zj (by omega) (by omega)]
   cases hb:(e.loc==loc) with
   | true =>
    have h1:=hg true hb
    rw [if_pos rfl] at h1
    rw [Zcf h1,bind_ok,q205_e1_0]
   | false =>
    have h1:=hg false hb
    rw [if_neg (by simp)] at h1
    have h2:=ih (by omega)
    dsimp only
    rw [←h2]
    cases hL:Zq (q205_F1 (R E) Zq E.glob) (q205_s1 loc ((i:Int) - 1) (Zaj m l) h) with
    | none=>rw [hL] at h2;cases h2
    | some w=>rw [Zat h1 hL]
 have:=key l.length (Yf _)
 rw [Yx (Yf _)] at this
 rw [q205_eq,buf_a1,asI_ok,Zj (by omega) (by omega)]
 exact this
theorem bufC_put {m:Int} {l:List Ent} (hl:l.length<24) (e:Ent):(splice (Zaj m l) (2+l.length*3) e.cs).set 1 (.int .i64 ((l.length:Int)+1))=Zaj m (l++[e]):=by
 have h1:Zaj m l=([Cell.int .i64 m,Cell.int .i64 (l.length:Int)]++Zaa l)++Ya (72 - l.length*3) (.int .i64 0):=by unfold Zaj;rw [Yg]
 have h2:2+l.length*3=([Cell.int .i64 m,Cell.int .i64 (l.length:Int)]++Zaa l).length+0:=by rw [Yb,entsC_len];simp
 have h3:splice (Ya (72 - l.length*3) ci0) 0 e.cs=e.cs++Ya (72 - (l++[e]).length*3) ci0:=by
  unfold splice
  rw [Yba,Yad,Ybv]
  congr 2
  simp [Ent.cs];omega
 have h4:Zaa (l++[e])=Zaa l++e.cs:=by simp [Zaa]
 rw [h1,h2,splice_app,h3]
 unfold Zaj
 rw [h4,Yb,Yq]
 simp [Yg]
theorem bufPut_R (hE:q206_In E) {m:Int} {l:List Ent} (hl:l.length<24) (hm:m≠0) {loc:Int} (hloc:0<=loc/\loc<4) (v id:Int) (h:Za) :
  R E 206 [.agg (Zaj m l),.c (.int .i64 loc),.c (.int .i64 v),.c (.int .i64 id)] h=some ([.agg (Zaj m (l++[⟨loc,v,id⟩]))],h):=by
 refine Zd hE.fn ?_
 have hz:(m==0)=false:=by rw [beq_eq_false_iff_ne];exact hm
 have e3:splice (splice (splice [ci0,ci0,ci0] 0 [(.int .i64 loc)]) 1 [(.int .i64 v)]) 2 [(.int .i64 id)]=(Ent.mk loc v id).cs:=rfl
 have hlen:=Zcp m (Yao hl)
 have hsl:(splice (Zaj m l) (2+l.length*3) (Ent.mk loc v id).cs).length=74:=by
  unfold splice
  rw [Yb,Yb,Yp,Yv,hlen];simp [Ent.cs];omega
 have ha1:∀{α:Type} (f:Cell->Option α),Ze (splice (Zaj m l) (2+l.length*3) (Ent.mk loc v id).cs) 1 f=f (.int .i64 (l.length:Int)):=fun f=>by
  refine Zae ?_
  unfold splice
  rw [Yg,Yi (by rw [Yp,hlen];omega),Yz,if_pos (by omega)];rfl
 have hw:E.glob.wrap .i64 ((l.length:Int)+1)=(l.length:Int)+1:=Zj (by omega) (by omega)
 have hput:=bufC_put (m:=m) hl ⟨loc,v,id⟩
 rw [q206_eq,buf_a0,asI_ok,hz,scK_or,show decide (loc<0)=false from decide_eq_false (by omega),scK_or,show decide (loc>=4)=false from decide_eq_false (by omega),buf_a1,asI_ok,scK_or,show decide ((l.length:Int)>=24)=false from decide_eq_false (by omega),if_neg (by simp),buf_a1,asI_ok,if_pos ⟨by omega,by omega⟩,Ye,e3,if_pos ⟨by rw [hlen];omega,rfl⟩,ha1,asI_ok,if_pos (by rw [hsl];omega),hw,hput]
 have hl2:=Zcp m (l:=l++[⟨loc,v,id⟩]) (by rw [Yb,Yq];omega)
 rw [if_pos ⟨rfl,hl2⟩,if_pos ⟨rfl,rfl,hl2⟩,if_pos ⟨rfl,hl2⟩]
theorem Zeg (a b:List Ent):Zaa (a++b)=Zaa a++Zaa b:=by simp [Zaa]
theorem Zsm {α:Type} {a b:List α} {n:Nat} (h:a.length=n):(a++b).drop n=b:=by subst h;simp
theorem Zq702 {m:Int} {l:List Ent} (hl:l.length<=24) {i:Nat} (hi:i<l.length) :
  splice ((splice (Zaj m l) (2+i*3) (((Zaj m l).drop (2+(i+1)*3)).take ((23 - i)*3))).set 1 (Cell.int .i64 ((l.length:Int) - 1))) (2+(l.length - 1)*3) [ci0,ci0,ci0]=Zaj m (l.eraseIdx i):=by
 have hq:l[i]? = some l[i]:=Yc hi
 generalize l[i]=e at hq
 have hsp:l=l.take i++e :: l.drop (i+1):=by
  have:l.drop i=e :: l.drop (i+1):=by
   rw [Ycd hi]
   have:=Yc hi
   rw [hq] at this
   rw [←Option.some.inj this]
  rw [←this,Ybb]
 have her:l.eraseIdx i=l.take i++l.drop (i+1):=Yat _ _
 have hn:l.length=i+1+(l.drop (i+1)).length:=by rw [Yv];omega
 have hti:(l.take i).length=i:=by rw [Yp];omega
 rw [her]
 generalize hA:l.take i=A at *
 generalize hB:l.drop (i+1)=B at *
 have hlA:=entsC_len A
 have hlB:=entsC_len B
 have hcs:Zaj m l=([Cell.int .i64 m,Cell.int .i64 (l.length:Int)]++Zaa A)++(e.cs++(Zaa B++Ya (72 - l.length*3) ci0)):=by
  have:Zaa l=Zaa A++(e.cs++Zaa B):=by
   have h2:Zaa l=Zaa (A++e :: B):=by rw [←hsp]
   rw [h2,Zeg];rfl
  unfold Zaj
  rw [this];simp [Yg]
 have hhd:([Cell.int .i64 m,Cell.int .i64 (l.length:Int)]++Zaa A).length=2+i*3:=by rw [Yb,hlA,hti];simp
 have hR:((Zaj m l).drop (2+(i+1)*3)).take ((23 - i)*3)=Zaa B++Ya (72 - l.length*3) ci0:=by
  rw [hcs,←Yg,Zsm (by rw [Yb,hhd];simp [Ent.cs];omega)]
  exact Yx (by rw [Yb,Ybm,hlB];omega)
 rw [hR]
 have hs1:splice (Zaj m l) (2+i*3) (Zaa B++Ya (72 - l.length*3) ci0)=([Cell.int .i64 m,Cell.int .i64 (l.length:Int)]++Zaa A)++((Zaa B++Ya (72 - l.length*3) ci0)++(e.cs++(Zaa B++Ya (72 - l.length*3) ci0)).drop (Zaa B++Ya (72 - l.length*3) ci0:List Cell).length):=by
  rw [hcs]
  have:=splice_app ([Cell.int .i64 m,Cell.int .i64 (l.length:Int)]++Zaa A) (e.cs++(Zaa B++Ya (72 - l.length*3) ci0)) (Zaa B++Ya (72 - l.length*3) ci0) 0
  rw [Ycw,hhd] at this
  rw [this]
  unfold splice
  rw [Yba,Yad,Yay]
 rw [hs1]
 generalize hL3:(e.cs++(Zaa B++Ya (72 - l.length*3) ci0)).drop (Zaa B++Ya (72 - l.length*3) ci0:List Cell).length=L3
 have hL3l:L3.length=3:=by
  rw [←hL3,Yv,Yb];simp [Ent.cs]
 have hset:(([Cell.int .i64 m,Cell.int .i64 (l.length:Int)]++Zaa A)++((Zaa B++Ya (72 - l.length*3) ci0)++L3)).set 1 (Cell.int .i64 ((l.length:Int) - 1))=([Cell.int .i64 m,Cell.int .i64 ((l.length:Int) - 1)]++(Zaa A++Zaa B))++(Ya (72 - l.length*3) ci0++L3):=by
  simp [Yg]
 rw [hset]
 have hoff:2+(l.length - 1)*3=([Cell.int .i64 m,Cell.int .i64 ((l.length:Int) - 1)]++(Zaa A++Zaa B)).length+0:=by
  rw [Yb,Yb,hlA,hlB,hti];simp;omega
 rw [hoff,splice_app]
 have hz:splice (Ya (72 - l.length*3) ci0++L3) 0 [ci0,ci0,ci0]=Ya (72 - (A++B).length*3) ci0:=by
  have hlen:(A++B).length=l.length - 1:=by rw [Yb,hti];omega
  rw [hlen]
  unfold splice
  rw [Yba,Yad]
  by_cases h24:l.length=24
  ·rw [show 72 - l.length*3=0 by omega,List.replicate_zero,Yad,Yam (by rw [hL3l];simp),h24];rfl
  ·have hL3z:L3=Ya 3 ci0:=by
    rw [←hL3]
    refine Yap fun j=>?_
    rw [Ybf,Yh (by simp [Ent.cs,hlB];omega),Yh (by simp [Ent.cs,hlB];omega),Ybg,Ybg]
    simp [Ent.cs,hlB]
    by_cases hj:j<3
    ·rw [if_pos (by omega),if_pos hj]
    ·rw [if_neg (by omega),if_neg hj]
   rw [hL3z,Ybo,Ybv,show [ci0,ci0,ci0]=Ya 3 ci0 from rfl,Ybo]
   congr 1
   simp;omega
 rw [hz]
 unfold Zaj
 rw [Zeg,Yb,hti]
 have:(l.length:Int) - 1=((i+B.length:Nat):Int):=by omega
 rw [this]
 simp [Yg]
theorem bufC_ok {m:Int} {l:List Ent} {n:Nat} {c:Cell} (h:c∈Zaj m l):Zgq n c=true:=by
 unfold Zaj at h
 rcases Yab.1 h with h | h
 ·simp at h;rcases h with rfl | rfl<;>rfl
 ·rcases Yab.1 h with h | h
  ·unfold Zaa at h
   obtain ⟨e,_,he⟩:=List.mem_flatMap.1 h
   simp [Ent.cs] at he
   rcases he with rfl | rfl | rfl<;>rfl
  ·rw [List.eq_of_mem_replicate h];rfl
theorem Zq725 (hE:q207_In E) {m:Int} {l:List Ent} (hl:l.length<=24) {loc:Int} {i:Nat} (hf:l.findIdx? (Zch m loc)=some i) (h:Za) :
  R E 207 [.agg (Zaj m l),.c (.int .i64 loc)] h=some ([.agg (Zaj m (l.eraseIdx i))],h):=by
 refine Zd hE.fn ?_
 obtain ⟨hi,_,_⟩:=Yr.1 hf
 have hold:oldI m loc l=(i:Int):=by unfold oldI;rw [hf]
 have hlen:=Zcp m hl
 have hd:=Zq702 (m:=m) hl hi
 have hlen2:=Zcp m (l:=l.eraseIdx i) (by rw [Ycr];split<;>omega)
 have hcell:∀cs:List Cell,AV.cells (.agg cs)=cs:=fun _=>rfl
 have b0:blk? (h++[some ⟨true,0,Zaj m l⟩]) h.length=some ⟨true,0,Zaj m l⟩:=Zw _ _
 have hxl:(((Zaj m l).drop (2+(i+1)*3)).take ((23 - i)*3)).length=(23 - i)*3:=by rw [Yp,Yv,hlen];omega
 have hsl1:∀{α:Type} (f:Cell->Option α),Zcl (h++[some ⟨true,0,Zaj m l⟩]) 24 3 true false (.ptr h.length 74 2) [.v (.c (.int .i64 (i:Int)))] f=f (.sl h.length 74 (2+i*3) (24 - i)):=fun f=>by
  unfold Zcl Zho Zay
  simp only
  rw [b0]
  simp only
  rw [if_pos (by simp),if_pos ⟨by omega,by omega⟩,Ye]
 have hsl2:∀{α:Type} (f:Cell->Option α),Zcl (h++[some ⟨true,0,Zaj m l⟩]) 24 3 true false (.ptr h.length 74 2) [.v (.c (.int .i64 ((i+1:Nat):Int)))] f=f (.sl h.length 74 (2+(i+1)*3) (24 - (i+1))):=fun f=>by
  unfold Zcl Zho Zay
  simp only
  rw [b0]
  simp only
  rw [if_pos (by simp),if_pos ⟨by omega,by omega⟩,Ye]
 have hsc:Zaq (h++[some ⟨true,0,Zaj m l⟩]) 3 (.sl h.length 74 (2+(i+1)*3) (24 - (i+1)))=some (((Zaj m l).drop (2+(i+1)*3)).take ((23 - i)*3)):=by
  unfold Zaq
  dsimp only
  by_cases hz:24 - (i+1)=0
  ·rw [if_pos hz,show (23 - i)*3=0 by omega];simp
  ·rw [if_neg hz,b0]
   simp only
   rw [if_pos ⟨hlen,by omega⟩,show 24 - (i+1)=23 - i by omega]
 have hcp:∀{α:Type} (f:Int->Za->Option α),Zgf 3 (.sl h.length 74 (2+i*3) (24 - i)) (.sl h.length 74 (2+(i+1)*3) (24 - (i+1))) (h++[some ⟨true,0,Zaj m l⟩]) f=f ((23 - i:Nat):Int) (h++[some ⟨true,0,splice (Zaj m l) (2+i*3) (((Zaj m l).drop (2+(i+1)*3)).take ((23 - i)*3))⟩]):=fun f=>by
  unfold Zgf
  rw [hsc,Yal]
  simp only
  rw [b0,Yal]
  dsimp only
  rw [if_pos ⟨rfl,hlen,by omega⟩,hxl,show min ((23 - i)*3 / 3) (24 - i)=23 - i by omega,Yx (by rw [hxl];exact Yf _),setBlk_last]
 generalize hX:((Zaj m l).drop (2+(i+1)*3)).take ((23 - i)*3)=X at *
 have hc2l:(splice (Zaj m l) (2+i*3) X).length=74:=by
  unfold splice
  rw [Yb,Yb,Yp,Yv,hlen,hxl];omega
 have hat2:(splice (Zaj m l) (2+i*3) X)[1]? = some (.int .i64 (l.length:Int)):=by
  unfold splice
  rw [Yg,Yi (by rw [Yp,hlen];omega),Yz,if_pos (by omega)];rfl
 generalize splice (Zaj m l) (2+i*3) X=Y at *
 have b2:blk? (h++[some ⟨true,0,Y⟩]) h.length=some ⟨true,0,Y⟩:=Zw _ _
 have hw1:E.glob.wrap .i64 ((l.length:Int) - 1)=(l.length:Int) - 1:=Zj (by omega) (by omega)
 have hat3:(Y.set 1 (.int .i64 ((l.length:Int) - 1)))[1]? = some (.int .i64 ((l.length:Int) - 1)):=by rw [Ycj (by omega)]
 have hc3l:(Y.set 1 (.int .i64 ((l.length:Int) - 1))).length=74:=by rw [Yk];exact hc2l
 generalize hZ:Y.set 1 (.int .i64 ((l.length:Int) - 1))=Z at *
 have b3:blk? (h++[some ⟨true,0,Z⟩]) h.length=some ⟨true,0,Z⟩:=Zw _ _
 have b4:blk? (h++[some ⟨true,0,Zaj m (l.eraseIdx i)⟩]) h.length=some ⟨true,0,Zaj m (l.eraseIdx i)⟩:=Zw _ _
 have htn:Yd ((l.length:Int) - 1)=l.length - 1:=by omega
 rw [q207_eq]
 simp only [hcell,hlen]
 rw [Zy b0 hlen]
 dsimp only
 rw [if_pos ⟨trivial,hlen⟩,Zmt hE.c204 hl,c1_ok,asI_ok,hold,if_neg (by rw [decide_eq_true_eq];omega),hsl1,Zo (by omega),hsl2,hcp,Zy b2 hc2l]
 dsimp only
 rw [Zae hat2,asI_ok,Zy b2 hc2l]
 dsimp only
 rw [if_pos (by omega),Zco b2 rfl,setBlk_last,hw1]
 dsimp only
 rw [hZ,Zy b3 hc3l]
 dsimp only
 rw [Zae hat3,asI_ok,if_pos ⟨by omega,by omega⟩,Zy b3 hc3l]
 dsimp only
 rw [if_pos ⟨by rw [hc3l,htn];omega,rfl⟩,Zco b3 rfl,setBlk_last,htn]
 dsimp only
 rw [hd,Zy b4 hlen2]
 dsimp only
 rw [if_pos ⟨trivial,hlen2⟩,if_pos ⟨trivial,rfl,hlen2⟩,if_pos ⟨trivial,hlen2⟩]
 refine Zdj (Kp.app _ (Yf _)) ?_
 intro x hx
 rw [Ys] at hx
 subst hx
 unfold Zlc
 rw [hcell,Yde]
 intro c hc
 exact bufC_ok hc
end
section
variable {E:Env}
end
theorem Zuo {F:St->Option (Ex × St)} (S:Nat->St) (n:Nat) (bad:Nat->Bool) (r x:St) (e:Nat) (hs:∀i,i<n->F (S i)=if bad i=true then some (.ret,r) else some (.normal,S (i+1))) (he:F (S n)=some (.exit e,x)) :
  Zq F (S 0)=some (if (Yaf n).any bad=true then (.ret,r) else (.exit e,x)):=by
 have key:∀(d i:Nat),i+d=n->Zq F (S i)=some (if (Yaf d).any (fun k=>bad (i+k))=true then (.ret,r) else (.exit e,x)):=by
  intro d
  induction d with
  | zero =>
   intro i hi
   obtain rfl:i=n:=by omega
   rw [Zm he];rfl
  | succ d ih =>
   intro i hi
   have h1:=hs i (by omega)
   rw [Yck,Ybj,List.any_map,Ycw]
   cases hb:bad i with
   | true =>
    rw [hb,if_pos rfl] at h1
    rw [Zcf h1,Bool.true_or,if_pos rfl]
   | false =>
    rw [hb,if_neg (by simp)] at h1
    have h2:=ih (i+1) (by omega)
    rw [Bool.false_or]
    have he:((Yaf d).any ((fun k=>bad (i+k)) ∘ Nat.succ))=(Yaf d).any fun k=>bad (i+1+k):=by
     congr 1
     funext k
     show bad (i+(k+1))=_
     rw [show i+(k+1)=i+1+k by omega]
    rw [he]
    exact Zat h1 h2
 have:=key n 0 (by omega)
 simpa only [Yay] using this
def atB {α:Type} (l:List α) (f:Nat->α->Bool) (i:Nat):Bool:=match l[i]? with | some q=>f i q | none=>false
theorem Zxv {α:Type} {l:List α} {f:Nat->α->Bool} {i:Nat} {q:α} (h:l[i]? = some q):atB l f i=f i q:=by unfold atB;rw [h]
theorem atB_any {α:Type} (l:List α) (f:α->Bool):(Yaf l.length).any (atB l fun _=>f)=l.any f:=by
 induction l with
 | nil=>rfl
 | cons a l ih =>
  rw [Yo,Yck,Ybj,List.any_map,Ybj,←ih]
  rfl
section
variable {E:Env}
end
def Zfz (P:PProg) (n:Int):Bool:=decide (n>=0)&&decide (n<(P.locs.length:Int))
def Zjl (l:List Int) (i:Nat) (c:Int):Bool:=!locB c||(decide ((i:Int) > 0)&&decide (c<=l.getD (i - 1) 0))
def Zpe (P:PProg) (c:List Ins):Bool:=(decide ((c.length:Int) > 10)||!jmpB c)||c.any fun i=>!fldB (Zfz P) i
def Zkz (P:PProg):Bool:=((((P.thr.length:Int)==0||decide ((P.thr.length:Int) > 4))||decide ((P.locs.length:Int) > 4))||((P.init.length:Int) != (P.locs.length:Int)))||decide (Zls P.thr > 24)
def Zue (P:PProg):Bool:=if Zkz P=true then false else if (Yaf P.locs.length).any (atB P.locs (Zjl P.locs))=true then false else !(P.thr.any (Zpe P))
section
variable {E:Env}
theorem progOk_R (hE:q188_In E) {cs:List Cell} {P:PProg} {h:Za} (p:ProgAt h cs P) (hsm:P.small) (hu:∀x∈P.locs,0<=x/\x<256) (hll:P.locs.length<=1000):R E 188 [.agg cs] h=some ([.c (.bool (Zue P))],h):=by
 refine Zd hE.fn ?_
 obtain ⟨a,b,c,ts,rfl,⟨ha,hal⟩,⟨hb,hbl⟩,⟨hc,hcl⟩,hts⟩:=p
 have p:ProgAt h [a,b,c] P:=⟨a,b,c,ts,rfl,⟨ha,hal⟩,⟨hb,hbl⟩,⟨hc,hcl⟩,hts⟩
 have hcell:AV.cells (.agg [a,b,c])=[a,b,c]:=rfl
 have l3:([a,b,c]:List Cell).length=3:=rfl
 have b1:blk? (h++[some ⟨true,0,[a,b,c]⟩]) h.length=some ⟨true,0,[a,b,c]⟩:=Zw _ _
 have k1:Kp h.length h (h++[some ⟨true,0,[a,b,c]⟩]):=Kp.app _ (Yf _)
 have nn:(h++[some (Blk.mk true 0 [a,b,c])]).length=h.length+1:=by simp
 have fin:∀(h':Za) (x:Bool),Kp h.length h h'->Zbr true h [.c (.bool x)] h'=some ([.c (.bool x)],h):=fun h' x hk=>Zdj hk (by simp [Zlc,AV.cells,Zgq])
 rw [q188_eq]
 simp only [hcell,l3]
 generalize h++[some (Blk.mk true 0 [a,b,c])]=H at *
 have p1:=p.keep k1
 have ha1:=ha.keep hal k1
 have hb1:=hb.keep hbl k1
 have hc1:=hc.keep hcl k1
 have a0:∀{α:Type} (f:Cell->Option α),Ze [a,b,c] 0 f=f a:=fun _=>rfl
 have a1:∀{α:Type} (f:Cell->Option α),Ze [a,b,c] 1 f=f b:=fun _=>rfl
 have a2:∀{α:Type} (f:Cell->Option α),Ze [a,b,c] 2 f=f c:=fun _=>rfl
 have rb:∀{α:Type} (F:List Cell->Option α),Zp H h.length 3 F=F [a,b,c]:=fun F=>rd3 b1
 rw [rb,a2,hc1.len,rb,a2,hc1.len,scK_or,rb,a0,ha1.len,scK_or,rb,a1,hb1.len,rb,a0,ha1.len,scK_or,rb,if_pos ⟨trivial,rfl⟩,Size_R hE.c102 p1 hsm,c1_ok,asI_ok,scK_or]
 unfold Zue
 rw [show (((((P.thr.length:Int)==0||decide ((P.thr.length:Int) > 4))||decide ((P.locs.length:Int) > 4))||((P.init.length:Int) != (P.locs.length:Int)))||decide (Zls P.thr > 24))=Zkz P from rfl]
 cases hsb:Zkz P with
 | true=>rw [if_pos rfl,if_pos rfl,fin _ _ k1]
 | false =>
  rw [if_neg (by simp),if_neg (by simp),rb,a0,ha1.len]
  have f1:Zq (q188_F1 (R E) Zq E.glob) (q188_s1 h.length 3 0 a P.locs.length 0 H)=some (if (Yaf P.locs.length).any (atB P.locs (Zjl P.locs))=true then (.ret,q188_x1_0 false H) else (.exit 0,q188_x1_1 h.length 3 0 H)):=by
   exact Zuo (F:=q188_F1 (R E) Zq E.glob) (fun i=>q188_s1 h.length 3 0 a P.locs.length (i:Int) H) P.locs.length (atB P.locs (Zjl P.locs)) _ _ 0 (fun i hi=>by
    have hq:P.locs[i]? = some P.locs[i]:=Yc hi
    generalize P.locs[i]=v at hq
    have hv:=hu v (Yj hq)
    rw [q188_r1,if_pos (by simp;omega),ha1.get1 hi (Zar hq),asI_ok,Zj (by omega) (by omega),IsLoc_R hE.c158,c1_ok,asB_ok,Zxv hq,Zo (by omega)]
    unfold Zjl
    by_cases h0:i=0
    ·subst h0
     rw [show decide (((0:Nat):Int) > 0)=false from rfl,scK_ft,scK_or,Ybw]
    ·have hd:decide ((i:Int) > 0)=true:=decide_eq_true (by omega)
     have hq2:=getDI (show i - 1<P.locs.length by omega)
     have hw:E.glob.wrap .i64 ((i:Int) - 1)=((i - 1:Nat):Int):=by rw [Zj (by omega) (by omega)];omega
     rw [hd,scK_ok,rb,show 0+0=0 from rfl,a0,hw,ha1.get1 (show i - 1<P.locs.length by omega) (Zar hq2),asI_ok,bind_ok]
     dsimp only
     rw [scK_or,Yau]) (by rw [q188_r1,if_neg (by simp)])
  rw [f1,bind_ok]
  cases hlb:(Yaf P.locs.length).any (atB P.locs (Zjl P.locs)) with
  | true=>rw [if_pos rfl,if_pos rfl];dsimp only;rw [q188_e1_0,fin _ _ k1]
  | false =>
   rw [if_neg (by simp),if_neg (by simp)]
   dsimp only
   rw [q188_e1_1]
   have l1:([Cell.nilf]:List Cell).length=1:=rfl
   rw [l1,Zsc (Zw _ _),if_pos (by simp),Zco (Zw _ _) rfl,setBlk_last]
   dsimp only [List.set]
   have k2:Kp H.length H (H++[some (Blk.mk true 0 [.fn 200 [(h.length,3,0)]])]):=Kp.app _ (Yf _)
   have b2:blk? (H++[some (Blk.mk true 0 [.fn 200 [(h.length,3,0)]])]) H.length=some ⟨true,0,[.fn 200 [(h.length,3,0)]]⟩:=Zw _ _
   have b1':blk? (H++[some (Blk.mk true 0 [.fn 200 [(h.length,3,0)]])]) h.length=some ⟨true,0,[a,b,c]⟩:=Zas b1 _
   generalize H++[some (Blk.mk true 0 [.fn 200 [(h.length,3,0)]])]=H2 at *
   have kk:Kp h.length h H2:=k1.trans (k2.mono k1.1)
   have hc2:=hc.keep hcl kk
   have ha2:=ha.keep hal kk
   have hsays:Says E H2 (.fn 200 [(h.length,3,0)]) (Zfz P):=fun n α F=>by
    show c1 (R E 200 ([.c (.int .i64 n)]++[.c (.ptr h.length 3 0)]) H2) F=_
    have:R E 200 ([.c (.int .i64 n)]++[.c (.ptr h.length 3 0)]) H2=some ([.c (.bool (Zfz P n))],H2):=by
     refine Zd hE.c200.fn ?_
     show q200.body (R E) Zq E.glob [.c (.int .i64 n),.c (.ptr h.length 3 0)] H2=_
     rw [q200_eq,rd3 b1',show 0+0=0 from rfl,a0,ha2.len,scK_and];rfl
    rw [this,c1_ok]
   have hins:∀(c:List Ins) (y:Cell),c.length<=1000->SlAt H2 y 9 (Zaf c) c.length->R E 155 [.c y,.c (.fn 201 [(H.length,1,0)])] H2=some ([.c (.bool (c.any fun i=>!fldB (Zfz P) i))],H2):=by
    intro c y hcl hy
    refine Zpx hE.c155 hy (by omega) (fun i=>!fldB (Zfz P) i) fun i _ α F=>?_
    show c1 (R E 201 ([.agg i.cs]++[.c (.ptr H.length 1 0)]) H2) F=_
    have:R E 201 ([.agg i.cs]++[.c (.ptr H.length 1 0)]) H2=some ([.c (.bool (!fldB (Zfz P) i))],H2):=by
     refine Zd hE.c201.fn ?_
     show q201.body (R E) Zq E.glob [.agg i.cs,.c (.ptr H.length 1 0)] H2=_
     rw [q201_eq,if_pos ⟨rfl,rfl⟩,Zsc b2,Zae (i:=0) (c:=.fn 200 [(h.length,3,0)]) rfl,Fields_R hE.c201.c159 i hsays,c1_ok,asB_ok]
    rw [this,c1_ok]
   have n2:=hsm.1
   have f2:Zq (q188_F2 (R E) Zq E.glob) (q188_s2 H.length 1 0 c P.thr.length 0 H2)=some (if P.thr.any (Zpe P)=true then (.ret,q188_x2_0 false H2) else (.exit 2,q188_x2_3 H2)):=by
    rw [←atB_any]
    exact Zuo (F:=q188_F2 (R E) Zq E.glob) (fun i=>q188_s2 H.length 1 0 c P.thr.length (i:Int) H2) P.thr.length (atB P.thr fun _=>Zpe P) _ _ 2 (fun t ht=>by
     have hq:P.thr[t]? = some P.thr[t]:=Yc ht
     generalize P.thr[t]=code at hq
     have hcl2:=hsm.2 code (Yj hq)
     obtain ⟨y,y1,y2,y3⟩:=hts t code hq
     have y2':=y2.keep y3 kk
     rw [q188_r2,if_pos (by simp;omega),hc2.get1 ht y1,y2'.len,Jumps_R hE.c148 y2' (by omega),c1_ok,asB_ok,scK_or,hins code y hcl2 y2',c1_ok,asB_ok,scK_or,Zxv hq,Zo (by omega)]
     rfl) (by rw [q188_r2,if_neg (by simp)])
   rw [rd3 b1',show 0+2=2 from rfl,a2,hc2.len,f2,bind_ok]
   cases htb:P.thr.any (Zpe P) with
   | true=>rw [if_pos rfl];dsimp only;rw [q188_e2_0,fin _ _ kk];rfl
   | false=>rw [if_neg (by simp)];dsimp only;rw [q188_e2_3,fin _ _ kk];rfl
end
section
variable {E:Env}
theorem Zyn {h:Za} {x:Cell} {cs:List Cell} {len:Nat} (s:SlAt h x 1 cs len):Zaq h 1 x=some cs:=by
 have hl:=s.1
 rcases s.2 with ⟨rfl,rfl⟩ | ⟨k,N,off,rfl,hb⟩
 ·have:cs=[]:=Ym.1 (by omega)
  rw [this];rfl
 ·unfold Zaq
  dsimp only
  by_cases h0:len=0
  ·have:cs=[]:=Ym.1 (by omega)
   rw [if_pos h0,this]
  ·rw [if_neg h0]
   rcases hb with hb | ⟨b,hb,hN,hle,hat⟩
   ·exact absurd hb h0
   ·rw [hb]
    simp only
    rw [if_pos ⟨hN,hle⟩]
    congr 1
    refine Yap fun j=>?_
    rw [Yz,Ybf]
    by_cases hj:j<len*1
    ·rw [if_pos hj,hat j hj]
    ·rw [if_neg hj,Yt (by omega)]
theorem Zrd {α:Type} {h:Za} {bytes len:Nat} {cs:List Cell} (hlen:cs.length=len) (h1:len*bytes<=maxBytes) (h2:len<=maxBytes) (f:Cell->Za->Option α) :
  Zao 1 bytes (.sl h.length 0 0 0) cs (h++[some ⟨true,1,[]⟩]) f=f (.sl h.length cs.length 0 len) (h++[some ⟨true,1,cs⟩]):=by
 unfold Zao
 simp only
 rw [Zw,Yal]
 dsimp only
 have hd:cs.length / 1=len:=by rw [Nat.div_one,hlen]
 rw [if_pos ⟨rfl,rfl,rfl,by simp,by rw [hd];simp;omega,by rw [hd];simp;omega⟩,hd]
 by_cases h0:len=0
 ·have:cs=[]:=Ym.1 (by omega)
  subst this
  rw [if_pos (by simp),setBlk_last,h0];rfl
 ·rw [if_neg (by omega),if_pos trivial,setBlk_last]
  simp
theorem Zfy (hE:q202_In E) {x:Cell} {cs:List Cell} {len:Nat} {h:Za} (hx:SlAt h x 1 cs len) (hlow:Low h.length x) (hl:len<=1000) :
  ∃x' h',R E 202 [.c x] h=some ([.c x'],h')/\Own h.length h' x' 1 cs len/\Kp h.length h h':=by
 have hm:maxBytes>=1000*8:=by unfold maxBytes;omega
 have hlen:cs.length=len:=by have:=hx.1;omega
 have hx0:=hx
 rcases hx.2 with ⟨rfl,h0⟩ | ⟨k,N,off,rfl,hb⟩
 ·refine ⟨.nils,h,Zd hE.fn ?_,⟨hx.1,.inl ⟨rfl,h0⟩⟩,Kp.refl _ _⟩
  rw [q202_eq];rfl
 ·have hk1:Kp h.length h (h++[some ⟨true,1,[]⟩]):=Kp.app _ (Yf _)
  have hc:=Zyn (hx0.keep hlow hk1)
  refine ⟨.sl h.length cs.length 0 len,h++[some ⟨true,1,cs⟩],Zd hE.fn ?_,⟨hx.1,.inr ⟨h.length,rfl,Yf _,Zw _ _⟩⟩,Kp.app _ (Yf _)⟩
  rw [q202_eq,show ∀{α:Type} (f:Bool->Option α),Zcu false (.sl k N off len) .nils f=f false from fun _=>rfl,if_neg (by simp),if_pos (show ([]:List Cell).length=0*1 from rfl),hc,bind_ok,show ([]:List Cell).length=0 from rfl,Zrd hlen (by omega) (by omega)]
theorem Zff (hE:q203_In E) {x:Cell} {cs:List Cell} {len:Nat} {h:Za} (hx:SlAt h x 1 cs len) (hlow:Low h.length x) (hl:len<=1000) :
  ∃x' h',R E 203 [.c x] h=some ([.c x'],h')/\Own h.length h' x' 1 cs len/\Kp h.length h h':=by
 have hm:maxBytes>=1000*8:=by unfold maxBytes;omega
 have hlen:cs.length=len:=by have:=hx.1;omega
 have hx0:=hx
 rcases hx.2 with ⟨rfl,h0⟩ | ⟨k,N,off,rfl,hb⟩
 ·refine ⟨.nils,h,Zd hE.fn ?_,⟨hx.1,.inl ⟨rfl,h0⟩⟩,Kp.refl _ _⟩
  rw [q203_eq];rfl
 ·have hk1:Kp h.length h (h++[some ⟨true,1,[]⟩]):=Kp.app _ (Yf _)
  have hc:=Zyn (hx0.keep hlow hk1)
  refine ⟨.sl h.length cs.length 0 len,h++[some ⟨true,1,cs⟩],Zd hE.fn ?_,⟨hx.1,.inr ⟨h.length,rfl,Yf _,Zw _ _⟩⟩,Kp.app _ (Yf _)⟩
  rw [q203_eq,show ∀{α:Type} (f:Bool->Option α),Zcu false (.sl k N off len) .nils f=f false from fun _=>rfl,if_neg (by simp),if_pos (show ([]:List Cell).length=0*1 from rfl),hc,bind_ok,show ([]:List Cell).length=0 from rfl,Zrd hlen (by omega) (by omega)]
end
section
variable (C:Zab) (L:Zbv) (G:Glo)
variable {h h0:Za}
variable {x14:Cell}
variable {a1 a2 a3 a4 a8 a9 a13 a15 a16 a24 a75:Int}
variable {l0 s0 s1 s2 s3:List Cell}
variable {N0 N6 k0 k6 o0 o6:Nat}
def q171_k2 (h0:Za):Ex->St->Rs:=Zac (fun st=>q171_p1.exec C L G st (q171.fin G h0)) (q171.fin G h0)
def q171_k3 (h0:Za):Ex->St->Rs:=Zag 0 (q171_k2 C L G h0)
def q171_s1 (a1:Int) (k6 N6 o6:Nat) (a24:Int) (s0:List Cell) (h:Za):St:=⟨tops 1 (.v (.c (.int .i64 a1)) :: .loc 0 0 :: tops 3 (.v (.c (.ptr k6 N6 o6)) :: tops 17 (.v (.c (.int .i64 a24)) :: tops 34 []))),[some s0],h⟩
def q171_F1 :St->Option (Ex × St):=Zt (q171_b1.exec C L G) [1,2,6,24] [0] [(1,[2,6],[0])]
def q171_x1_1 (k6 N6 o6:Nat) (s0:List Cell) (h:Za):St:=⟨tops 2 (.loc 0 0 :: tops 3 (.v (.c (.ptr k6 N6 o6)) :: tops 52 [])),[some s0],h⟩
theorem q171_r1:q171_F1 C L G (q171_s1 a1 k6 N6 o6 a24 s0 h)=if (decide (a24<4))=true then Zp h k6 N6 fun l=>if (o6+0)+3<=l.length then c1 (qh h (C 94 [(.agg ((l.drop (o6+0)).take 3)),(.c (.int .i64 a24))] h)) fun y h1=>asA y fun l=>if 0<=a24/\a24<((4:Nat):Int) then Zp h k6 N6 fun l1=>if ((o6+4)+((Yd a24)*5))+5<=l1.length/\l.length=5 then Zbe h k6 (splice l1 ((o6+4)+((Yd a24)*5)) l) fun h1=>c1 (qh h1 (C 190 [(.c (.int .i64 a1))] h1)) fun y h2=>asA y fun l=>if 0<=a24/\a24<((4:Nat):Int) then Zp h1 k6 N6 fun l1=>if ((o6+32)+((Yd a24)*74))+74<=l1.length/\l.length=74 then Zbe h1 k6 (splice l1 ((o6+32)+((Yd a24)*74)) l) fun h1=>if 0<=a24/\a24<((4:Nat):Int) then Zp h1 k6 N6 fun l=>if ((o6+28)+((Yd a24)*1))<l.length then Zbe h1 k6 (l.set ((o6+28)+((Yd a24)*1)) (.int .i64 (-1))) fun h1=>some (.normal,(q171_s1 a1 k6 N6 o6 (G.wrap .i64 (a24+1)) s0 h1)) else none else none else none else none else none else none else none else some ((.exit 0),(q171_x1_1 k6 N6 o6 s0 h)):=by kernel_rfl
theorem q171_e1_1:(q171_k3 C L G h0) (.exit 0) (q171_x1_1 k6 N6 o6 s0 h)=Zcl h 4 1 false false (.ptr k6 N6 (o6+24)) [] fun x=>Ze s0 1 fun q=>Zgf 1 x q h fun n h=>some ([(.c (.ptr k6 N6 o6)),(.c (.int .i64 0))],h):=by kernel_rfl
theorem q171_eq:q171.body C L G [(.agg l0),(.c (.int .i64 a1))] h0=scK (decide (a1<1)) false (some ((decide (a1 > 3)),h0)) true h0 fun b h=>scK b false (if 0=0/\l0.length=3 then c1 (C 188 [(.agg l0)] h) fun y h=>asB y fun b=>some ((!b),h) else none) true h fun b h=>if b=true then some ([(.c .nilp),(.c (.int .i64 1))],h) else if 0=0/\l0.length=3 then c1 (C 189 [(.agg l0)] h) fun y h=>asA y fun l=>if l.length=3/\0+3<=([Cell.nils,Cell.nils,Cell.nils]++Ya 325 ci0++[Cell.nils]).length then if ([(.int .i64 a1)]:List Cell).length=1/\3+1<=(splice ([Cell.nils,Cell.nils,Cell.nils]++Ya 325 ci0++[Cell.nils]) 0 l).length then (L (q171_F1 C L G) (q171_s1 a1 h.length ((AV.cells (.agg (splice (splice ([Cell.nils,Cell.nils,Cell.nils]++Ya 325 ci0++[Cell.nils]) 0 l) 3 [(.int .i64 a1)]))).length) 0 0 l0 (h++[some (Blk.mk true 0 (AV.cells (.agg (splice (splice ([Cell.nils,Cell.nils,Cell.nils]++Ya 325 ci0++[Cell.nils]) 0 l) 3 [(.int .i64 a1)]))))]))).bind fun p=>(q171_k3 C L G h0) p.1 p.2 else none else none else none:=by kernel_rfl
def q172_k2 (h0:Za):Ex->St->Rs:=Zac (fun st=>q172_p1.exec C L G st (q172.fin G h0)) (q172.fin G h0)
def q172_k3 (h0:Za):Ex->St->Rs:=Zag 0 (q172_k2 C L G h0)
def q172_s2 (k0 N0 o0:Nat) (a3 a13:Int) (h:Za):St:=⟨.v (.c (.ptr k0 N0 o0)) :: tops 2 (.v (.c (.int .u64 a3)) :: tops 9 (.v (.c (.int .i64 a13)) :: tops 95 [])),[none],h⟩
def q172_F2 :St->Option (Ex × St):=Zt (q172_b2.exec C L G) [0,3,13] [] [(1,[3],[])]
def q172_k4 :Ex->St->Option (Ex × St):=Zac (fun st=>q172_p2.exec C L G st (Zah [0,3,13] [] [(1,[3],[])])) (Zah [0,3,13] [] [(1,[3],[])])
def q172_k5 :Ex->St->Option (Ex × St):=Zag 1 (q172_k4 C L G)
def q172_k6 :Ex->St->Option (Ex × St):=Zac (fun st=>q172_p3.exec C L G st (q172_k5 C L G)) (q172_k5 C L G)
def q172_c1 (k0 N0 o0:Nat) (a3 a4 a13:Int) (h:Za):St:=⟨.v (.c (.ptr k0 N0 o0)) :: tops 2 (.v (.c (.int .u64 a3)) :: .v (.c (.int .i64 a4)) :: tops 8 (.v (.c (.int .i64 a13)) :: tops 95 [])),[none],h⟩
def q172_k7 :Ex->St->Option (Ex × St):=Zag 2 (q172_k5 C L G)
def q172_s1 (k0 N0 o0:Nat) (a3 a4:Int) (a13 a75:Int) (h:Za):St:=⟨.v (.c (.ptr k0 N0 o0)) :: tops 2 (.v (.c (.int .u64 a3)) :: .v (.c (.int .i64 a4)) :: tops 8 (.v (.c (.int .i64 a13)) :: tops 61 (.v (.c (.int .i64 a75)) :: tops 33 []))),[none],h⟩
def q172_F1 :St->Option (Ex × St):=Zt (q172_b1.exec C L G) [0,3,4,13,75] [] [(3,[0,3,13],[])]
def q172_x1_3 (k0 N0 o0:Nat) (a3 a13:Int) (h:Za):St:=⟨.v (.c (.ptr k0 N0 o0)) :: tops 2 (.v (.c (.int .u64 a3)) :: tops 9 (.v (.c (.int .i64 a13)) :: tops 95 [])),[none],h⟩
def q172_k8 :Ex->St->Option (Ex × St):=Zag 2 (q172_k5 C L G)
def q172_x2_1 (a3:Int) (h:Za):St:=⟨tops 3 (.v (.c (.int .u64 a3)) :: tops 105 []),[none],h⟩
theorem q172_r1:q172_F1 C L G (q172_s1 k0 N0 o0 a3 a4 a13 a75 h)=if (decide (a75<4))=true then if 0<=a4/\a4<((4:Nat):Int) then Zp h k0 N0 fun l=>if ((o0+32)+((Yd a4)*74))+74<=l.length then c4 (C 192 [(.agg ((l.drop ((o0+32)+((Yd a4)*74))).take 74)),(.c (.int .i64 a75))] h) fun y y1 y2 y3 h1=>Zk .i64 y fun n=>Zk .i64 y1 fun n=>Zk .i64 y2 fun n=>asB y3 fun b=>Zp h1 k0 N0 fun l=>Ze l (o0+3) fun q=>Zk .i64 (.c q) fun n=>scK (n==3) true (some (b,h1)) false h1 fun b h1=>if b=true then let v:Int:=(G.wrap .i64 (8+(G.wrap .i64 (4*a4))));c1 (C 18 [(.c (.int .u64 a3)),(.c (.int .i64 (G.wrap .i64 (v+a75))))] h1) fun y h2=>Zk .u64 y fun n=>some (.normal,(q172_s1 k0 N0 o0 n a4 a13 (G.wrap .i64 (a75+1)) h2)) else some (.normal,(q172_s1 k0 N0 o0 a3 a4 a13 (G.wrap .i64 (a75+1)) h1)) else none else none else some ((.exit 2),(q172_x1_3 k0 N0 o0 a3 a13 h)):=by kernel_rfl
theorem q172_e1_3:(q172_k7 C L G) (.exit 2) (q172_x1_3 k0 N0 o0 a3 a13 h)=some (.normal,(q172_s2 k0 N0 o0 a3 (G.wrap .i64 (a13+1)) h)):=by kernel_rfl
theorem q172_ec1_n:(q172_k6 C L G) .normal (q172_c1 k0 N0 o0 a3 a4 a13 h)=Zp h k0 N0 fun l=>Ze l (o0+3) fun q=>Zk .i64 (.c q) fun n=>scK (n==2) true (if 0<=a4/\a4<((4:Nat):Int) then Zp h k0 N0 fun l=>if ((o0+32)+((Yd a4)*74))+74<=l.length then c1 (C 191 [(.agg ((l.drop ((o0+32)+((Yd a4)*74))).take 74))] h) fun y h=>asB y fun b=>some ((!b),h) else none else none) false h fun b h=>if b=true then c1 (C 18 [(.c (.int .u64 a3)),(.c (.int .i64 (G.wrap .i64 (4+a4))))] h) fun y h1=>Zk .u64 y fun n=>(L (q172_F1 C L G) (q172_s1 k0 N0 o0 n a4 a13 0 h1)).bind fun p=>(q172_k7 C L G) p.1 p.2 else (L (q172_F1 C L G) (q172_s1 k0 N0 o0 a3 a4 a13 0 h)).bind fun p=>(q172_k8 C L G) p.1 p.2:=by kernel_rfl
theorem q172_r2:q172_F2 C L G (q172_s2 k0 N0 o0 a3 a13 h)=if (decide (a13<4))=true then Zp h k0 N0 fun l=>if (o0+0)+3<=l.length then if 0<=a13/\a13<((4:Nat):Int) then Zp h k0 N0 fun l1=>if ((o0+4)+((Yd a13)*5))+5<=l1.length then c2 (qh h (C 105 [(.agg ((l.drop (o0+0)).take 3)),(.c (.int .i64 a13)),(.agg ((l1.drop ((o0+4)+((Yd a13)*5))).take 5))] h)) fun y y1 h1=>asA y fun l=>asB y1 fun b=>if 0=0/\(Ya 9 ci0).length=9/\l.length=9 then Ze l 0 fun q=>Zk .i64 (.c q) fun n=>scK (n==3) false (Ze l 0 fun q=>Zk .i64 (.c q) fun n=>some ((n==4),h)) true h fun b1 h1=>(scK b true (scK (!b1) false (if 0<=a13/\a13<((4:Nat):Int) then Zp h1 k0 N0 fun l=>if ((o0+32)+((Yd a13)*74))+74<=l.length then c1 (C 191 [(.agg ((l.drop ((o0+32)+((Yd a13)*74))).take 74))] h1) fun y h=>asB y fun b=>some (b,h) else none else none) true h1 fun b h=>some (b,h)) false h1 fun b h=>if b=true then c1 (C 18 [(.c (.int .u64 a3)),(.c (.int .i64 a13))] h) fun y h1=>Zk .u64 y fun n=>some (.normal,(q172_c1 k0 N0 o0 n a13 a13 h1)) else some (.normal,(q172_c1 k0 N0 o0 a3 a13 a13 h)):Option (Ex × St)).bind fun p=>(q172_k6 C L G) p.1 p.2 else none else none else none else none else some ((.exit 0),(q172_x2_1 a3 h)):=by kernel_rfl
theorem q172_e2_1:(q172_k3 C L G h0) (.exit 0) (q172_x2_1 a3 h)=some ([(.c (.int .u64 a3))],h):=by kernel_rfl
theorem q172_eq:q172.body C L G [(.c (.ptr k0 N0 o0))] h0=(L (q172_F2 C L G) (q172_s2 k0 N0 o0 0 0 h0)).bind fun p=>(q172_k3 C L G h0) p.1 p.2:=by kernel_rfl
theorem q173_eq:q173.body C L G [(.c (.ptr k0 N0 o0)),(.c (.int .i64 a1))] h0=c1 (C 172 [(.c (.ptr k0 N0 o0))] h0) fun y h=>Zk .u64 y fun n=>c1 (C 17 [(.c (.int .u64 n)),(.c (.int .i64 a1))] h) fun y h=>asB y fun b=>if (!b)=true then if 0=0/\(Ya 7 ci0).length=7/\(Ya 7 ci0).length=7 then if 0=0/\(Ya 7 ci0).length=7 then some ([(.agg (Ya 7 ci0)),(.c (.bool false))],h) else none else none else if (decide (a1<4))=true then c1 (C 193 [(.c (.ptr k0 N0 o0)),(.c (.int .i64 a1))] h) fun y h1=>asA y fun l=>if 0=0/\(Ya 7 ci0).length=7/\l.length=7 then if 0<l.length then Zp h1 k0 N0 fun l1=>Ze l1 (o0+328) fun q=>if 0=0/\(l.set 0 (.int .i64 a1)).length=7 then if (l.set 0 (.int .i64 a1)).length=7/\0+7<=(Ya 7 ci0).length then if (splice (Ya 7 ci0) 0 (l.set 0 (.int .i64 a1))).length=1*7 then Zao 7 56 q (splice (Ya 7 ci0) 0 (l.set 0 (.int .i64 a1))) h1 fun x h1=>Zp h1 k0 N0 fun l1=>if (o0+328)<l1.length then Zbe h1 k0 (l1.set (o0+328) x) fun h1=>if 0=0/\(l.set 0 (.int .i64 a1)).length=7 then if 0=0/\(Ya 7 ci0).length=7/\(l.set 0 (.int .i64 a1)).length=7 then if 0=0/\(l.set 0 (.int .i64 a1)).length=7 then some ([(.agg (l.set 0 (.int .i64 a1))),(.c (.bool true))],h1) else none else none else none else none else none else none else none else none else none else if (decide (a1<8))=true then c1 (C 194 [(.c (.ptr k0 N0 o0)),(.c (.int .i64 (G.wrap .i64 (a1 - 4)))),(.c (.int .i64 0))] h) fun y h1=>asA y fun l=>if 0=0/\(Ya 7 ci0).length=7/\l.length=7 then if 0<l.length then Zp h1 k0 N0 fun l1=>Ze l1 (o0+328) fun q=>if 0=0/\(l.set 0 (.int .i64 a1)).length=7 then if (l.set 0 (.int .i64 a1)).length=7/\0+7<=(Ya 7 ci0).length then if (splice (Ya 7 ci0) 0 (l.set 0 (.int .i64 a1))).length=1*7 then Zao 7 56 q (splice (Ya 7 ci0) 0 (l.set 0 (.int .i64 a1))) h1 fun x h1=>Zp h1 k0 N0 fun l1=>if (o0+328)<l1.length then Zbe h1 k0 (l1.set (o0+328) x) fun h1=>if 0=0/\(l.set 0 (.int .i64 a1)).length=7 then if 0=0/\(Ya 7 ci0).length=7/\(l.set 0 (.int .i64 a1)).length=7 then if 0=0/\(l.set 0 (.int .i64 a1)).length=7 then some ([(.agg (l.set 0 (.int .i64 a1))),(.c (.bool true))],h1) else none else none else none else none else none else none else none else none else none else c1 (C 194 [(.c (.ptr k0 N0 o0)),(.c (.int .i64 (G.quo .i64 (G.wrap .i64 (a1 - 8)) 4))),(.c (.int .i64 (G.rem .i64 (G.wrap .i64 (a1 - 8)) 4)))] h) fun y h=>asA y fun l=>if 0=0/\(Ya 7 ci0).length=7/\l.length=7 then if 0<l.length then Zp h k0 N0 fun l1=>Ze l1 (o0+328) fun q=>if 0=0/\(l.set 0 (.int .i64 a1)).length=7 then if (l.set 0 (.int .i64 a1)).length=7/\0+7<=(Ya 7 ci0).length then if (splice (Ya 7 ci0) 0 (l.set 0 (.int .i64 a1))).length=1*7 then Zao 7 56 q (splice (Ya 7 ci0) 0 (l.set 0 (.int .i64 a1))) h fun x h=>Zp h k0 N0 fun l1=>if (o0+328)<l1.length then Zbe h k0 (l1.set (o0+328) x) fun h=>if 0=0/\(l.set 0 (.int .i64 a1)).length=7 then if 0=0/\(Ya 7 ci0).length=7/\(l.set 0 (.int .i64 a1)).length=7 then if 0=0/\(l.set 0 (.int .i64 a1)).length=7 then some ([(.agg (l.set 0 (.int .i64 a1))),(.c (.bool true))],h) else none else none else none else none else none else none else none else none else none:=by kernel_rfl
theorem q174_eq:q174.body C L G [(.c (.ptr k0 N0 o0))] h0=c1 (C 172 [(.c (.ptr k0 N0 o0))] h0) fun y h=>Zk .u64 y fun n=>some ([(.c (.bool (n==0)))],h):=by kernel_rfl
theorem q175_eq:q175.body C L G [(.c (.ptr k0 N0 o0))] h0=Zp h0 k0 N0 fun l=>Ze l (o0+328) fun q=>c1 (C 195 [(.c q)] h0) fun y h=>asC y fun x=>some ([(.c x)],h):=by kernel_rfl
def q189_k2 (h0:Za):Ex->St->Rs:=Zac (fun st=>q189_p1.exec C L G st (q189.fin G h0)) (q189.fin G h0)
def q189_k3 (h0:Za):Ex->St->Rs:=Zag 0 (q189_k2 C L G h0)
def q189_s1 (x14:Cell) (a15 a16:Int) (s1 s2:List Cell) (h:Za):St:=⟨tops 2 (.loc 1 0 :: .loc 2 0 :: tops 10 (.v (.c x14) :: .v (.c (.int .i64 a15)) :: .v (.c (.int .i64 a16)) :: tops 12 [])),[none,some s1,some s2],h⟩
def q189_F1 :St->Option (Ex × St):=Zt (q189_b1.exec C L G) [2,3,14,15,16] [1,2] [(1,[2,3],[1,2])]
def q189_x1_1 (s1 s2:List Cell) (h:Za):St:=⟨tops 2 (.loc 1 0 :: .loc 2 0 :: tops 25 []),[none,some s1,some s2],h⟩
theorem q189_r1:q189_F1 C L G (q189_s1 x14 a15 a16 s1 s2 h)=if (decide (a16<a15))=true then Zl 1 x14 a16 fun k N o=>Zp h k N fun l=>Ze l o fun q=>Ze s2 2 fun q1=>c1 (C 119 [(.c q)] h) fun y h1=>asC y fun x=>if (splice [Cell.nils] 0 [x]).length=1*1 then Zao 1 24 q1 (splice [Cell.nils] 0 [x]) h1 fun x h1=>if 2<s2.length then some (.normal,(q189_s1 x14 a15 (G.wrap .i64 (a16+1)) s1 (s2.set 2 x) h1)) else none else none else some ((.exit 0),(q189_x1_1 s1 s2 h)):=by kernel_rfl
theorem q189_e1_1:(q189_k3 C L G h0) (.exit 0) (q189_x1_1 s1 s2 h)=if 0=0/\s2.length=3 then if 0=0/\s1.length=3/\s2.length=3 then if 0=0/\s2.length=3 then some ([(.agg s2)],h) else none else none else none:=by kernel_rfl
theorem q189_eq:q189.body C L G [(.agg l0)] h0=Ze l0 0 fun q=>c1 (C 202 [(.c q)] h0) fun y h=>asC y fun x=>Ze l0 1 fun q=>c1 (C 203 [(.c q)] h) fun y h=>asC y fun x1=>if 0=0/\[Cell.nils,Cell.nils,Cell.nils].length=3/\(splice (splice [Cell.nils,Cell.nils,Cell.nils] 0 [x]) 1 [x1]).length=3 then Ze l0 2 fun q=>Zz q fun n=>(L (q189_F1 C L G) (q189_s1 q n 0 [Cell.nils,Cell.nils,Cell.nils] (splice (splice [Cell.nils,Cell.nils,Cell.nils] 0 [x]) 1 [x1]) h)).bind fun p=>(q189_k3 C L G h0) p.1 p.2 else none:=by kernel_rfl
def q193_k2 (h0:Za):Ex->St->Rs:=Zac (fun st=>q193_p1.exec C L G st (q193.fin G h0)) (q193.fin G h0)
def q193_c1 (k0 N0 o0:Nat) (a1 a8 a9:Int) (s0 s1 s2:List Cell) (h:Za):St:=⟨.v (.c (.ptr k0 N0 o0)) :: .v (.c (.int .i64 a1)) :: tops 2 (.loc 0 0 :: .loc 1 0 :: .loc 2 0 :: tops 1 (.v (.c (.int .i64 a8)) :: .v (.c (.int .i64 a9)) :: tops 136 [])),[some s0,some s1,some s2,none],h⟩
def q193_k3 (h0:Za):Ex->St->Rs:=Zac (fun st=>q193_p2.exec C L G st (q193.fin G h0)) (q193.fin G h0)
def q193_c2 (k0 N0 o0:Nat) (a1 a8 a9:Int) (s0 s1 s3:List Cell) (h:Za):St:=⟨.v (.c (.ptr k0 N0 o0)) :: .v (.c (.int .i64 a1)) :: tops 2 (.loc 0 0 :: .loc 1 0 :: tops 2 (.v (.c (.int .i64 a8)) :: .v (.c (.int .i64 a9)) :: tops 3 (.loc 3 0 :: tops 132 []))),[some s0,some s1,none,some s3],h⟩
theorem q193_ec2_n:(q193_k3 C L G h0) .normal (q193_c2 k0 N0 o0 a1 a8 a9 s0 s1 s3 h)=Zp h k0 N0 fun l=>Ze l (o0+328) fun q=>Zz q fun n=>Ze s3 2 fun q=>Zk .i64 (.c q) fun n1=>scK (n1==2) true (Zp h k0 N0 fun l=>Ze l (o0+3) fun q=>Zk .i64 (.c q) fun n=>some ((n != 1),h)) false h fun b h=>if b=true then if 0<=a1/\a1<((4:Nat):Int) then Zp h k0 N0 fun l=>if ((o0+32)+((Yd a1)*74))+74<=l.length then Ze s3 3 fun q=>Zk .i64 (.c q) fun n1=>Ze s3 5 fun q=>Zk .i64 (.c q) fun n2=>c1 (qh h (C 206 [(.agg ((l.drop ((o0+32)+((Yd a1)*74))).take 74)),(.c (.int .i64 n1)),(.c (.int .i64 n2)),(.c (.int .i64 n))] h)) fun y h1=>asA y fun l=>if 0<=a1/\a1<((4:Nat):Int) then Zp h k0 N0 fun l1=>if ((o0+32)+((Yd a1)*74))+74<=l1.length/\l.length=74 then Zbe h k0 (splice l1 ((o0+32)+((Yd a1)*74)) l) fun h1=>Zp h1 k0 N0 fun l=>if (o0+0)+3<=l.length then if 0=0/\s1.length=5 then c1 (qh h1 (C 106 [(.agg ((l.drop (o0+0)).take 3)),(.c (.int .i64 a1)),(.agg s1),(.c (.int .i64 a8))] h1)) fun y h2=>asA y fun l=>if 0<=a1/\a1<((4:Nat):Int) then Zp h1 k0 N0 fun l1=>if ((o0+4)+((Yd a1)*5))+5<=l1.length/\l.length=5 then Zbe h1 k0 (splice l1 ((o0+4)+((Yd a1)*5)) l) fun h1=>Ze s3 2 fun q=>Zk .i64 (.c q) fun n1=>Ze s3 3 fun q=>Zk .i64 (.c q) fun n2=>Ze s3 4 fun q=>Zk .i64 (.c q) fun n3=>Ze s3 5 fun q=>Zk .i64 (.c q) fun n4=>if 0=0/\s0.length=7/\(splice (splice (splice (splice (splice (splice (Ya 7 ci0) 1 [(.int .i64 a1)]) 2 [(.int .i64 n1)]) 3 [(.int .i64 n2)]) 4 [(.int .i64 n3)]) 5 [(.int .i64 n4)]) 6 [(.int .i64 a9)]).length=7 then if 0=0/\(splice (splice (splice (splice (splice (splice (Ya 7 ci0) 1 [(.int .i64 a1)]) 2 [(.int .i64 n1)]) 3 [(.int .i64 n2)]) 4 [(.int .i64 n3)]) 5 [(.int .i64 n4)]) 6 [(.int .i64 a9)]).length=7 then some ([(.agg (splice (splice (splice (splice (splice (splice (Ya 7 ci0) 1 [(.int .i64 a1)]) 2 [(.int .i64 n1)]) 3 [(.int .i64 n2)]) 4 [(.int .i64 n3)]) 5 [(.int .i64 n4)]) 6 [(.int .i64 a9)]))],h1) else none else none else none else none else none else none else none else none else none else none else if 0=0/\s3.length=6 then c1 (C 80 [(.agg s3)] h) fun y h=>asB y fun b=>if b=true then Ze s3 3 fun q=>Zk .i64 (.c q) fun n1=>Ze s3 3 fun q=>Zk .i64 (.c q) fun n2=>Ze s3 5 fun q=>Zk .i64 (.c q) fun n3=>if 0<=n1/\n1<((4:Nat):Int) then Zp h k0 N0 fun l=>if ((o0+24)+((Yd n1)*1))<l.length then Zbe h k0 (l.set ((o0+24)+((Yd n1)*1)) (.int .i64 n3)) fun h1=>if 0<=n2/\n2<((4:Nat):Int) then Zp h1 k0 N0 fun l=>if ((o0+28)+((Yd n2)*1))<l.length then Zbe h1 k0 (l.set ((o0+28)+((Yd n2)*1)) (.int .i64 n)) fun h1=>Zp h1 k0 N0 fun l=>if (o0+0)+3<=l.length then if 0=0/\s1.length=5 then c1 (qh h1 (C 106 [(.agg ((l.drop (o0+0)).take 3)),(.c (.int .i64 a1)),(.agg s1),(.c (.int .i64 a8))] h1)) fun y h2=>asA y fun l=>if 0<=a1/\a1<((4:Nat):Int) then Zp h1 k0 N0 fun l1=>if ((o0+4)+((Yd a1)*5))+5<=l1.length/\l.length=5 then Zbe h1 k0 (splice l1 ((o0+4)+((Yd a1)*5)) l) fun h1=>Ze s3 2 fun q=>Zk .i64 (.c q) fun n=>Ze s3 3 fun q=>Zk .i64 (.c q) fun n1=>Ze s3 4 fun q=>Zk .i64 (.c q) fun n2=>Ze s3 5 fun q=>Zk .i64 (.c q) fun n3=>if 0=0/\s0.length=7/\(splice (splice (splice (splice (splice (splice (Ya 7 ci0) 1 [(.int .i64 a1)]) 2 [(.int .i64 n)]) 3 [(.int .i64 n1)]) 4 [(.int .i64 n2)]) 5 [(.int .i64 n3)]) 6 [(.int .i64 a9)]).length=7 then if 0=0/\(splice (splice (splice (splice (splice (splice (Ya 7 ci0) 1 [(.int .i64 a1)]) 2 [(.int .i64 n)]) 3 [(.int .i64 n1)]) 4 [(.int .i64 n2)]) 5 [(.int .i64 n3)]) 6 [(.int .i64 a9)]).length=7 then some ([(.agg (splice (splice (splice (splice (splice (splice (Ya 7 ci0) 1 [(.int .i64 a1)]) 2 [(.int .i64 n)]) 3 [(.int .i64 n1)]) 4 [(.int .i64 n2)]) 5 [(.int .i64 n3)]) 6 [(.int .i64 a9)]))],h1) else none else none else none else none else none else none else none else none else none else none else Zp h k0 N0 fun l=>if (o0+0)+3<=l.length then if 0=0/\s1.length=5 then c1 (qh h (C 106 [(.agg ((l.drop (o0+0)).take 3)),(.c (.int .i64 a1)),(.agg s1),(.c (.int .i64 a8))] h)) fun y h1=>asA y fun l=>if 0<=a1/\a1<((4:Nat):Int) then Zp h k0 N0 fun l1=>if ((o0+4)+((Yd a1)*5))+5<=l1.length/\l.length=5 then Zbe h k0 (splice l1 ((o0+4)+((Yd a1)*5)) l) fun h=>Ze s3 2 fun q=>Zk .i64 (.c q) fun n=>Ze s3 3 fun q=>Zk .i64 (.c q) fun n1=>Ze s3 4 fun q=>Zk .i64 (.c q) fun n2=>Ze s3 5 fun q=>Zk .i64 (.c q) fun n3=>if 0=0/\s0.length=7/\(splice (splice (splice (splice (splice (splice (Ya 7 ci0) 1 [(.int .i64 a1)]) 2 [(.int .i64 n)]) 3 [(.int .i64 n1)]) 4 [(.int .i64 n2)]) 5 [(.int .i64 n3)]) 6 [(.int .i64 a9)]).length=7 then if 0=0/\(splice (splice (splice (splice (splice (splice (Ya 7 ci0) 1 [(.int .i64 a1)]) 2 [(.int .i64 n)]) 3 [(.int .i64 n1)]) 4 [(.int .i64 n2)]) 5 [(.int .i64 n3)]) 6 [(.int .i64 a9)]).length=7 then some ([(.agg (splice (splice (splice (splice (splice (splice (Ya 7 ci0) 1 [(.int .i64 a1)]) 2 [(.int .i64 n)]) 3 [(.int .i64 n1)]) 4 [(.int .i64 n2)]) 5 [(.int .i64 n3)]) 6 [(.int .i64 a9)]))],h) else none else none else none else none else none else none else none:=by kernel_rfl
theorem q193_ec1_n:(q193_k2 C L G h0) .normal (q193_c1 k0 N0 o0 a1 a8 a9 s0 s1 s2 h)=if 0=0/\s2.length=9 then if 0=0/\s1.length=5 then c2 (C 109 [(.agg s2),(.agg s1),(.c (.int .i64 a8))] h) fun y y1 h=>asA y fun l=>asB y1 fun b=>if 0=0/\[ci0,ci0,ci0,ci0,ci0,ci0].length=6/\l.length=6 then (if (!b)=true then some (.normal,(q193_c2 k0 N0 o0 a1 a8 (-1) s0 s1 l h)) else some (.normal,(q193_c2 k0 N0 o0 a1 a8 a9 s0 s1 l h)):Option (Ex × St)).bind fun p=>(q193_k3 C L G h0) p.1 p.2 else none else none else none:=by kernel_rfl
theorem q193_eq:q193.body C L G [(.c (.ptr k0 N0 o0)),(.c (.int .i64 a1))] h0=if 0<=a1/\a1<((4:Nat):Int) then Zp h0 k0 N0 fun l=>if ((o0+4)+((Yd a1)*5))+5<=l.length then if 0=0/\[ci0,ci0,ci0,ci0,ci0].length=5/\((l.drop ((o0+4)+((Yd a1)*5))).take 5).length=5 then Zp h0 k0 N0 fun l1=>if (o0+0)+3<=l1.length then if 0=0/\((l.drop ((o0+4)+((Yd a1)*5))).take 5).length=5 then c2 (qh h0 (C 105 [(.agg ((l1.drop (o0+0)).take 3)),(.c (.int .i64 a1)),(.agg ((l.drop ((o0+4)+((Yd a1)*5))).take 5))] h0)) fun y y1 h=>asA y fun l1=>asB y1 fun b=>if 0=0/\(Ya 9 ci0).length=9/\l1.length=9 then Ze l1 2 fun q=>Zk .i64 (.c q) fun n=>if 0<=n/\n<((4:Nat):Int) then Zp h0 k0 N0 fun l2=>Ze l2 ((o0+24)+((Yd n)*1)) fun q=>Zk .i64 (.c q) fun n=>Ze l1 2 fun q=>Zk .i64 (.c q) fun n1=>if 0<=n1/\n1<((4:Nat):Int) then Zp h0 k0 N0 fun l2=>Ze l2 ((o0+28)+((Yd n1)*1)) fun q=>Zk .i64 (.c q) fun n1=>(if 0<=a1/\a1<((4:Nat):Int) then Zp h0 k0 N0 fun l2=>if ((o0+32)+((Yd a1)*74))+74<=l2.length then Ze l1 2 fun q=>Zk .i64 (.c q) fun n2=>c3 (qh h0 (C 205 [(.agg ((l2.drop ((o0+32)+((Yd a1)*74))).take 74)),(.c (.int .i64 n2))] h0)) fun y y1 y2 h=>Zk .i64 y fun n2=>Zk .i64 y1 fun n3=>asB y2 fun b=>if b=true then some (.normal,(q193_c1 k0 N0 o0 a1 n2 n3 (Ya 7 ci0) ((l.drop ((o0+4)+((Yd a1)*5))).take 5) l1 h0)) else some (.normal,(q193_c1 k0 N0 o0 a1 n n1 (Ya 7 ci0) ((l.drop ((o0+4)+((Yd a1)*5))).take 5) l1 h0)) else none else none:Option (Ex × St)).bind fun p=>(q193_k2 C L G h0) p.1 p.2 else none else none else none else none else none else none else none else none:=by kernel_rfl
theorem q194_eq:q194.body C L G [(.c (.ptr k0 N0 o0)),(.c (.int .i64 a1)),(.c (.int .i64 a2))] h0=if 0<=a1/\a1<((4:Nat):Int) then Zp h0 k0 N0 fun l=>if ((o0+32)+((Yd a1)*74))+74<=l.length then c4 (C 192 [(.agg ((l.drop ((o0+32)+((Yd a1)*74))).take 74)),(.c (.int .i64 a2))] h0) fun y y1 y2 y3 h=>Zk .i64 y fun n=>Zk .i64 y1 fun n1=>Zk .i64 y2 fun n2=>asB y3 fun b=>if 0<=a1/\a1<((4:Nat):Int) then Zp h k0 N0 fun l=>if ((o0+32)+((Yd a1)*74))+74<=l.length then c1 (qh h (C 207 [(.agg ((l.drop ((o0+32)+((Yd a1)*74))).take 74)),(.c (.int .i64 a2))] h)) fun y h1=>asA y fun l=>if 0<=a1/\a1<((4:Nat):Int) then Zp h k0 N0 fun l1=>if ((o0+32)+((Yd a1)*74))+74<=l1.length/\l.length=74 then Zbe h k0 (splice l1 ((o0+32)+((Yd a1)*74)) l) fun h=>if 0<=n/\n<((4:Nat):Int) then Zp h k0 N0 fun l=>if ((o0+24)+((Yd n)*1))<l.length then Zbe h k0 (l.set ((o0+24)+((Yd n)*1)) (.int .i64 n1)) fun h=>if 0<=n/\n<((4:Nat):Int) then Zp h k0 N0 fun l=>if ((o0+28)+((Yd n)*1))<l.length then Zbe h k0 (l.set ((o0+28)+((Yd n)*1)) (.int .i64 n2)) fun h=>if 0=0/\(Ya 7 ci0).length=7/\(splice (splice (splice (splice (splice (Ya 7 ci0) 1 [(.int .i64 a1)]) 2 [(.int .i64 6)]) 3 [(.int .i64 n)]) 5 [(.int .i64 n1)]) 6 [(.int .i64 n2)]).length=7 then if 0=0/\(splice (splice (splice (splice (splice (Ya 7 ci0) 1 [(.int .i64 a1)]) 2 [(.int .i64 6)]) 3 [(.int .i64 n)]) 5 [(.int .i64 n1)]) 6 [(.int .i64 n2)]).length=7 then some ([(.agg (splice (splice (splice (splice (splice (Ya 7 ci0) 1 [(.int .i64 a1)]) 2 [(.int .i64 6)]) 3 [(.int .i64 n)]) 5 [(.int .i64 n1)]) 6 [(.int .i64 n2)]))],h) else none else none else none else none else none else none else none else none else none else none else none else none:=by kernel_rfl
end
def ProgO (n:Nat) (h:Za) (cs:List Cell) (P:PProg):Prop :=
 ∃x y th,cs=[x,y,th]/\Own n h x 1 (intC .u8 P.locs) P.locs.length/\Own n h y 1 (intC .i64 P.init) P.init.length/\RowsOwn 9 Zaf n h th P.thr
theorem ProgO.at {n:Nat} {h:Za} {cs:List Cell} {P:PProg} (p:ProgO n h cs P):ProgAt h cs P:=by
 obtain ⟨x,y,th,rfl,o1,o2,rr⟩:=p
 obtain ⟨us,u1,u2,u3⟩:=rr.of
 exact ⟨x,y,th,us,rfl,⟨o1.at,o1.low⟩,⟨o2.at,o2.low⟩,⟨u1,u2⟩,u3⟩
section
variable {E:Env}
theorem copied_S (hE:q189_In E) {cs:List Cell} {P:PProg} {h:Za} (p:ProgAt h cs P) (hsm:P.small) (hll:P.locs.length<=1000) (hil:P.init.length<=1000) :
  ∃cs' h',R E 189 [.agg cs] h=some ([.agg cs'],h')/\ProgO h.length h' cs' P/\Kp h.length h h':=by
 have p0:=p
 obtain ⟨a,b,c,ts,rfl,⟨ha,hal⟩,⟨hb,hbl⟩,⟨hc,hcl⟩,hts⟩:=p
 obtain ⟨x,h1,r1,o1,k1⟩:=Zfy hE.c202 ha hal hll
 obtain ⟨y,h2,r2,o2,k2⟩:=Zff hE.c203 (hb.keep hbl k1) (Zau k1.1 hbl) hil
 have k12:Kp h.length h h2:=k1.trans (k2.mono k1.1)
 have n2:=hsm.1
 obtain ⟨st,⟨th,h3,rfl,rr,k3⟩,hL⟩:=Zcb (F:=q189_F1 (R E) Zq E.glob) (fun t st=>∃th h',st=q189_s1 c P.thr.length (t:Int) [.nils,.nils,.nils] [x,y,th] h'/\RowsOwn 9 Zaf h2.length h' th (P.thr.take t)/\Kp h2.length h2 h') 0 P.thr.length (by omega)
  (fun t st _ ht=>by
   rintro ⟨th,h',rfl,rr,kk⟩
   have hq:P.thr[t]? = some P.thr[t]:=Yc ht
   generalize P.thr[t]=code at hq
   have hcl2:=hsm.2 code (Yj hq)
   obtain ⟨z,z1,z2,z3⟩:=hts t code hq
   have kh:Kp h.length h h':=k12.trans (kk.mono k12.1)
   obtain ⟨x',h'',c1',c2',c3'⟩:=Clone_R hE.c119 (z2.keep z3 kh) (Zau kh.1 z3) hcl2
   obtain ⟨th2,h4,ap,r4,k4,_⟩:=(rr.keep c3').push (c2'.monoN kk.1) (fun k q1 q2=>by have:=(c2'.blkLt q1).2;have:=(rr.blkLt q2).1;omega) (Yy kk.1 c3'.1) (by rw [Yp];omega)
   refine ⟨q189_s1 c P.thr.length ((t+1:Nat):Int) [.nils,.nils,.nils] [x,y,th2] h4,?_,th2,h4,rfl,by rw [Zal hq];exact r4,kk.trans ((c3'.mono kk.1).trans k4)⟩
   rw [q189_r1,if_pos (by simp;omega),(hc.keep hcl kh).get1 ht z1,show ∀{α:Type} (f:Cell->Option α),Ze [x,y,th] 2 f=f th from fun _=>rfl,c1',c1_ok,asC_ok,if_pos (show (splice [Cell.nils] 0 [x']).length=1*1 from rfl),show splice [Cell.nils] 0 [x']=[x'] from rfl,ap,if_pos (by simp),Zo (by omega)]
   rfl) (st:=q189_s1 c P.thr.length ((0:Nat):Int) [.nils,.nils,.nils] [x,y,.nils] h2) ⟨.nils,h2,rfl,by rw [Yba];exact RowsOwn.nil _,Kp.refl _ _⟩
 have e1:q189_F1 (R E) Zq E.glob (q189_s1 c P.thr.length (P.thr.length:Int) [.nils,.nils,.nils] [x,y,th] h3)=some (.exit 0,q189_x1_1 [.nils,.nils,.nils] [x,y,th] h3):=by
  rw [q189_r1,if_neg (by simp)]
 have hr:=hL _ (Zm e1)
 rw [show ((0:Nat):Int)=0 from rfl] at hr
 rw [Yx (Yf _)] at rr
 have kx:=k2.trans (k3.mono k2.1)
 refine ⟨[x,y,th],h3,Zd hE.fn ?_,⟨x,y,th,rfl,o1.keepK kx,(o2.keepK k3).monoN k1.1,by
  obtain ⟨ts,w1,w2⟩:=rr
  exact ⟨ts,w1.monoN k12.1,fun t r hr=>by
   obtain ⟨z,z1,z2,z3⟩:=w2 t r hr
   exact ⟨z,z1,z2.monoN k12.1,z3⟩⟩⟩,k12.trans (k3.mono k12.1)⟩
 rw [q189_eq,show ∀{α:Type} (f:Cell->Option α),Ze [a,b,c] 0 f=f a from fun _=>rfl,r1,c1_ok,asC_ok,show ∀{α:Type} (f:Cell->Option α),Ze [a,b,c] 1 f=f b from fun _=>rfl,r2,c1_ok,asC_ok,if_pos (by exact ⟨rfl,rfl,rfl⟩),show ∀{α:Type} (f:Cell->Option α),Ze [a,b,c] 2 f=f c from fun _=>rfl,hc.len]
 refine Eq.trans (congrArg (fun z=>Option.bind z _) hr) ?_
 rw [bind_ok]
 dsimp only
 rw [q189_e1_1,if_pos ⟨rfl,rfl⟩,if_pos ⟨rfl,rfl,rfl⟩,if_pos ⟨rfl,rfl⟩]
end
structure MV where
 P:PProg
 m:Int
 lc:List Lcl
 mem:List Int
 frm:List Int
 bf:List (List Ent)
 st:List Stp
def Zbf (m:Int):Int:=if m=2∨m=3 then m else 0
def vmC (pc:List Cell) (V:MV) (x:Cell):List Cell :=
 pc++(([.int .i64 V.m]:List Cell)++(V.lc.flatMap Lcl.cs++(intC .i64 V.mem++(intC .i64 V.frm++(V.bf.flatMap (Zaj (Zbf V.m))++[x])))))
structure MV.Fit (V:MV):Prop where
 m:1<=V.m/\V.m<=3
 lc:V.lc.length=4
 mem:V.mem.length=4
 frm:V.frm.length=4
 bf:V.bf.length=4
 b:∀l∈V.bf,l.length<=24
section seg
variable {α:Type}
theorem Zip {a s b:List α} {n m:Nat} (hn:a.length=n) (hm:s.length=m):((a++(s++b)).drop n).take m=s:=by
 subst hn hm
 rw [Yax (Yf _),Ydf,Yad,Yae (Yf _),Ybc]
theorem Zsf {a s b s':List Cell} {n:Nat} (hn:a.length=n) (hm:s.length=s'.length):splice (a++(s++b)) n s'=a++(s'++b):=by
 subst hn
 unfold splice
 rw [Yae (Yf _),Ybc,←hm,←Yg a s b,Ydd,Yam (by rw [Yb];exact Yf _),Yad,
  show a.length+s.length - (a++s).length=0 by rw [Yb];omega,Ycn,Yg]
theorem Zdq {f:α->List Cell} {n:Nat}:∀{l:List α},(∀x∈l,(f x).length=n)->(l.flatMap f).length=l.length*n
 | [],_=>by simp
 | x :: l,h=>by
  rw [Ycc,Yb,h x Yby,Zdq fun y hy=>h y (Ybp _ hy),Yo,Nat.succ_mul];omega
theorem Zfn {f:α->List Cell} {l:List α} {i:Nat} {x:α} (h:l[i]? = some x):l.flatMap f=(l.take i).flatMap f++(f x++(l.drop (i+1)).flatMap f):=by
 have hi:=Zf h
 have he:l=l.take i++x :: l.drop (i+1):=by
  rw [Yc hi] at h
  cases h
  rw [Ycl,Ybb]
 conv=>lhs;rw [he]
 rw [List.flatMap_append,Ycc]
theorem Zos {f:α->List Cell} {l:List α} {i:Nat} (hi:i<l.length) (y:α):(l.set i y).flatMap f=(l.take i).flatMap f++(f y++(l.drop (i+1)).flatMap f):=by
 have:=Zfn (f:=f) (l:=l.set i y) (i:=i) (x:=y) (by rw [Ycj hi])
 rw [this,List.take_set_of_le (Yf _),List.drop_set_of_lt (by omega)]
theorem Zep {f:α->List Cell} {n:Nat} {l:List α} (hl:∀x∈l,(f x).length=n) {i:Nat} (hi:i<=l.length):((l.take i).flatMap f).length=i*n:=by
 rw [Zdq fun x hx=>hl x (Ycq hx),Yp,Yaw hi]
end seg
theorem MV.Fit.lcs {V:MV} {pc:List Cell} (_:V.Fit) (_:pc.length=3):∀l∈V.lc,(Lcl.cs l).length=5:=fun _ _=>rfl
theorem MV.Fit.bfs {V:MV} {pc:List Cell} (f:V.Fit) (_:pc.length=3):∀l∈V.bf,(Zaj (Zbf V.m) l).length=74:=fun l hl=>Zcp _ (f.b l hl)
theorem Zkt {V:MV} {pc:List Cell} {x:Cell} (_:V.Fit) (hpc:pc.length=3):((vmC pc V x).drop (0+0)).take 3=pc:=by
 unfold vmC
 exact Zip (a:=[]) rfl hpc
theorem vm_m {V:MV} {pc:List Cell} {x:Cell} (_:V.Fit) (hpc:pc.length=3) {α:Type} {g:Cell->Option α}:Ze (vmC pc V x) (0+3) g=g (.int .i64 V.m):=by
 unfold vmC
 refine Zae ?_
 rw [Yh (by omega),hpc];rfl
section
variable {V:MV} {pc:List Cell} {x:Cell} (f:V.Fit) (hpc:pc.length=3)
include f hpc
theorem Zbq:(vmC pc V x).length=329:=by
 have h1:=Zdq (f.lcs hpc)
 have h2:=Zdq (f.bfs hpc)
 have:=f.lc;have:=f.mem;have:=f.frm;have:=f.bf
 unfold vmC
 simp only [Yb,intC_len,Yo,Yu]
 omega
theorem Zuk {t:Nat} {l:Lcl} (h:V.lc[t]? = some l):∃A B:List Cell,vmC pc V x=A++(l.cs++B)/\A.length=(0+4)+t*5/\∀l':Lcl,vmC pc { V with lc:=V.lc.set t l' } x=A++(l'.cs++B):=by
 have hi:=Zf h
 have e:=Zep (f.lcs hpc) (Yao hi)
 refine ⟨pc++(([.int .i64 V.m]:List Cell)++(V.lc.take t).flatMap Lcl.cs),(V.lc.drop (t+1)).flatMap Lcl.cs++(intC .i64 V.mem++(intC .i64 V.frm++(V.bf.flatMap (Zaj (Zbf V.m))++[x]))),?_,?_,fun l'=>?_⟩
 ·unfold vmC;rw [Zfn h];simp only [Yg]
 ·simp only [Yb,e,hpc,Yo,Yu];omega
 ·unfold vmC;dsimp only;rw [Zos hi];simp only [Yg]
theorem Ztq {t:Nat} {l:List Ent} (h:V.bf[t]? = some l):∃A B:List Cell,vmC pc V x=A++(Zaj (Zbf V.m) l++B)/\A.length=(0+32)+t*74/\∀l':List Ent,vmC pc { V with bf:=V.bf.set t l' } x=A++(Zaj (Zbf V.m) l'++B):=by
 have hi:=Zf h
 have e:=Zep (f.bfs hpc) (Yao hi)
 have e2:=Zdq (f.lcs hpc)
 have:=f.lc;have:=f.mem;have:=f.frm
 refine ⟨pc++(([.int .i64 V.m]:List Cell)++(V.lc.flatMap Lcl.cs++(intC .i64 V.mem++(intC .i64 V.frm++(V.bf.take t).flatMap (Zaj (Zbf V.m)))))),(V.bf.drop (t+1)).flatMap (Zaj (Zbf V.m))++[x],?_,?_,fun l'=>?_⟩
 ·unfold vmC;rw [Zfn h];simp only [Yg]
 ·simp only [Yb,e,e2,hpc,Yo,Yu,intC_len];omega
 ·unfold vmC;dsimp only;rw [Zos hi];simp only [Yg]
theorem Zqc:∃A B:List Cell,vmC pc V x=A++(intC .i64 V.mem++B)/\A.length=0+24/\∀l':List Int,vmC pc { V with mem:=l' } x=A++(intC .i64 l'++B):=by
 have e2:=Zdq (f.lcs hpc)
 have:=f.lc
 refine ⟨pc++(([.int .i64 V.m]:List Cell)++V.lc.flatMap Lcl.cs),intC .i64 V.frm++(V.bf.flatMap (Zaj (Zbf V.m))++[x]),?_,?_,fun l'=>?_⟩
 ·unfold vmC;simp only [Yg]
 ·simp only [Yb,e2,hpc,Yo,Yu];omega
 ·unfold vmC;simp only [Yg]
theorem Zvz:∃A B:List Cell,vmC pc V x=A++(intC .i64 V.frm++B)/\A.length=0+28/\∀l':List Int,vmC pc { V with frm:=l' } x=A++(intC .i64 l'++B):=by
 have e2:=Zdq (f.lcs hpc)
 have:=f.lc;have:=f.mem
 refine ⟨pc++(([.int .i64 V.m]:List Cell)++(V.lc.flatMap Lcl.cs++intC .i64 V.mem)),V.bf.flatMap (Zaj (Zbf V.m))++[x],?_,?_,fun l'=>?_⟩
 ·unfold vmC;simp only [Yg]
 ·simp only [Yb,e2,hpc,Yo,Yu,intC_len];omega
 ·unfold vmC;simp only [Yg]
theorem Zwd:∃A:List Cell,(∀y,vmC pc V y=A++[y])/\A.length=328:=by
 have h1:=Zdq (f.lcs hpc)
 have h2:=Zdq (f.bfs hpc)
 have:=f.lc;have:=f.mem;have:=f.frm;have:=f.bf
 refine ⟨pc++(([.int .i64 V.m]:List Cell)++(V.lc.flatMap Lcl.cs++(intC .i64 V.mem++(intC .i64 V.frm++V.bf.flatMap (Zaj (Zbf V.m)))))),fun y=>?_,?_⟩
 ·unfold vmC;simp only [Yg]
 ·simp only [Yb,h1,h2,hpc,Yo,Yu,intC_len];omega
theorem vm_lcl {t:Nat} {l:Lcl} (h:V.lc[t]? = some l):((vmC pc V x).drop ((0+4)+t*5)).take 5=l.cs:=by
 obtain ⟨A,B,e,hA,_⟩:=Zuk (x:=x) f hpc h
 rw [e];exact Zip hA rfl
theorem Zsd {t:Nat} (ht:t<4) (l:Lcl):splice (vmC pc V x) ((0+4)+t*5) l.cs=vmC pc { V with lc:=V.lc.set t l } x:=by
 obtain ⟨A,B,e,hA,h2⟩:=Zuk (x:=x) f hpc (Yc (show t<V.lc.length by rw [f.lc];exact ht))
 rw [e,h2];exact Zsf hA rfl
theorem Zjy {t:Nat} {l:List Ent} (h:V.bf[t]? = some l):((vmC pc V x).drop ((0+32)+t*74)).take 74=Zaj (Zbf V.m) l:=by
 obtain ⟨A,B,e,hA,_⟩:=Ztq (x:=x) f hpc h
 rw [e];exact Zip hA (Zcp _ (f.b _ (Yj h)))
theorem Zyp {t:Nat} (ht:t<4) {l:List Ent} (hl:l.length<=24):splice (vmC pc V x) ((0+32)+t*74) (Zaj (Zbf V.m) l)=vmC pc { V with bf:=V.bf.set t l } x:=by
 have hq:=Yc (show t<V.bf.length by rw [f.bf];exact ht)
 obtain ⟨A,B,e,hA,h2⟩:=Ztq (x:=x) f hpc hq
 rw [e,h2];exact Zsf hA (by rw [Zcp _ (f.b _ (Yj hq)),Zcp _ hl])
theorem vm_mem {α:Type} {i:Nat} {v:Int} (h:V.mem[i]? = some v) {g:Cell->Option α}:Ze (vmC pc V x) ((0+24)+i*1) g=g (.int .i64 v):=by
 obtain ⟨A,B,e,hA,_⟩:=Zqc (x:=x) f hpc
 have hi:=Zf h
 refine Zae ?_
 rw [e,Yh (by omega),Yi (by rw [intC_len];omega),show 0+24+i*1 - A.length=i by omega]
 exact Zar h
theorem vm_frm {α:Type} {i:Nat} {v:Int} (h:V.frm[i]? = some v) {g:Cell->Option α}:Ze (vmC pc V x) ((0+28)+i*1) g=g (.int .i64 v):=by
 obtain ⟨A,B,e,hA,_⟩:=Zvz (x:=x) f hpc
 have hi:=Zf h
 refine Zae ?_
 rw [e,Yh (by omega),Yi (by rw [intC_len];omega),show 0+28+i*1 - A.length=i by omega]
 exact Zar h
theorem vm_setM {i:Nat} (hi:i<4) (v:Int):(vmC pc V x).set ((0+24)+i*1) (.int .i64 v)=vmC pc { V with mem:=V.mem.set i v } x:=by
 obtain ⟨A,B,e,hA,h2⟩:=Zqc (x:=x) f hpc
 have:=f.mem
 rw [e,h2,Yaa _ _ (by omega),Yaq _ _ (by rw [intC_len];omega),show 0+24+i*1 - A.length=i by omega]
 unfold intC
 rw [Yce]
theorem vm_setF {i:Nat} (hi:i<4) (v:Int):(vmC pc V x).set ((0+28)+i*1) (.int .i64 v)=vmC pc { V with frm:=V.frm.set i v } x:=by
 obtain ⟨A,B,e,hA,h2⟩:=Zvz (x:=x) f hpc
 have:=f.frm
 rw [e,h2,Yaa _ _ (by omega),Yaq _ _ (by rw [intC_len];omega),show 0+28+i*1 - A.length=i by omega]
 unfold intC
 rw [Yce]
theorem Zhw {α:Type} {g:Cell->Option α}:Ze (vmC pc V x) (0+328) g=g x:=by
 obtain ⟨A,e,hA⟩:=Zwd f hpc
 refine Zae ?_
 rw [e,Yh (by omega),hA];rfl
theorem Zrt (y:Cell):(vmC pc V x).set (0+328) y=vmC pc V y:=by
 obtain ⟨A,e,hA⟩:=Zwd f hpc
 rw [e,e,Yaa _ _ (by omega),hA];rfl
end
def MV.l (V:MV) (t:Nat):Lcl:=V.lc.getD t Lcl.zero
def MV.b (V:MV) (t:Nat):List Ent:=V.bf.getD t []
def MV.nxt (V:MV) (t:Nat):Option Ins:=Zbg (V.P.code t) (V.l t)
def MV.mayT (V:MV) (t:Nat):Bool:=match V.nxt t with
 | none=>false
 | some i=>!(i.kind==3||i.kind==4)||(V.b t).length==0
def MV.mayF (V:MV) (t:Nat):Bool:=V.m==2&&!((V.b t).length==0)
def MV.mayL (V:MV) (t loc:Nat):Bool:=V.m==3&&((V.b t).find? (Zch 3 (loc:Int))).isSome
def MV.may (V:MV) (i:Nat):Bool :=
 if i<4 then V.mayT i else if i<8 then V.mayF (i - 4) else if i<24 then V.mayL ((i - 8) / 4) ((i - 8) % 4) else false
def Zjs (p:Nat->Bool):Nat->Nat
 | 0=>0
 | n+1=>if p n=true then Zjs p n ||| 2 ^ n else Zjs p n
theorem Zjx (p:Nat->Bool):∀n i,(Zjs p n).testBit i=(decide (i<n)&&p i)
 | 0,i=>by simp [Zjs]
 | n+1,i=>by
  have ih:=Zjx p n i
  rw [Zjs]
  split
  ·rename_i hp
   rw [Nat.testBit_or,ih,Yct]
   by_cases h:n=i
   ·subst h;simp [hp]
   ·rw [decide_eq_false h,Ybz];congr 1;simp;omega
  ·rename_i hp
   rw [ih]
   by_cases h:n=i
   ·subst h;simp [hp]
   ·congr 1;simp;omega
theorem Zq710 (p:Nat->Bool) {n:Nat} (hn:n<=64):Zjs p n<2 ^ 64:=by
 refine Nat.lt_pow_two_of_testBit _ fun i hi=>?_
 rw [Zjx,decide_eq_false (by omega)];rfl
def MV.word (V:MV):Nat:=Zjs V.may 24
theorem MV.may_out {V:MV} {i:Nat} (h:24<=i):V.may i=false:=by
 unfold MV.may
 rw [if_neg (by omega),if_neg (by omega),if_neg (by omega)]
theorem MV.word_bit (V:MV) (i:Nat):V.word.testBit i=V.may i:=by
 unfold MV.word
 rw [Zjx]
 by_cases h:i<24
 ·rw [decide_eq_true h,Yau]
 ·rw [MV.may_out (by omega),Yar]
theorem MV.l_at {V:MV} {t:Nat} (h:t<V.lc.length):V.lc[t]? = some (V.l t):=by
 unfold MV.l;rw [Yl,Yc h];rfl
theorem MV.b_at {V:MV} {t:Nat} (h:t<V.bf.length):V.bf[t]? = some (V.b t):=by
 unfold MV.b;rw [Yl,Yc h];rfl
def Dn (a b c i:Nat):Bool:=if i<4 then decide (i<a) else if i<8 then decide (i - 4<b) else decide (i - 8<c)
theorem Dn_t {a b c:Nat} (ha:a<4) (i:Nat):Dn (a+1) b c i=(Dn a b c i||decide (i=a)):=by
 unfold Dn
 rw [Yah]
 split
 ·simp;omega
 ·split<;>simp<;>omega
theorem Dn_f {a b c:Nat} (hb:b<4) (i:Nat):Dn a (b+1) c i=(Dn a b c i||decide (i=4+b)):=by
 unfold Dn
 rw [Yah]
 split
 ·simp;omega
 ·split<;>simp<;>omega
theorem Dn_l {a b c:Nat} (i:Nat):Dn a b (c+1) i=(Dn a b c i||decide (i=8+c)):=by
 unfold Dn
 rw [Yah]
 split
 ·simp;omega
 ·split<;>simp<;>omega
theorem Zpo {M D D':Nat->Bool} {s p:Nat} (hp:p<64) (hs:s<2 ^ 64) (hb:∀i,s.testBit i=(M i&&D i)) (hD:∀i,D' i=(D i||decide (i=p))) :
  (if M p=true then s ||| Zgj (p:Int) else s)<2 ^ 64/\∀i,(if M p=true then s ||| Zgj (p:Int) else s).testBit i=(M i&&D' i):=by
 have e:Zgj (p:Int)=2 ^ p:=by unfold Zgj;rw [if_pos ⟨by omega,by omega⟩,Ye]
 have hlt:=Zku (p:Int)
 rw [e] at hlt ⊢
 refine ⟨?_,fun i=>?_⟩
 ·split
  ·exact Zrm hs hlt
  ·exact hs
 ·rw [hD]
  split
  ·rename_i hm
   rw [Nat.testBit_or,hb,Yct]
   by_cases h:p=i
   ·subst h;simp [hm]
   ·rw [decide_eq_false h,decide_eq_false (fun q=>h q.symm)];simp
  ·rename_i hm
   rw [hb]
   by_cases h:p=i
   ·subst h;simp [hm]
   ·rw [decide_eq_false (fun q=>h q.symm)];simp
section
variable {E:Env}
theorem Zmm (hE:q172_In E) {h:Za} {k:Nat} {x:Cell} {pc:List Cell} {V:MV} (hb:blk? h k=some ⟨true,0,vmC pc V x⟩) (f:V.Fit) (p:ProgAt h pc V.P) :
  R E 172 [.c (.ptr k 329 0)] h=some ([.c (.int .u64 (V.word:Int))],h):=by
 refine Zd hE.fn ?_
 have hpc:=p.len
 have hl:=Zbq (x:=x) f hpc
 have rd:∀{α:Type} {F:List Cell->Option α},Zp h k 329 F=F (vmC pc V x):=fun {α F}=>Zy hb hl
 have inner:∀(t:Nat) (s:Nat),t<4->s<2 ^ 64->(∀i,s.testBit i=(V.may i&&Dn (t+1) (t+1) (4*t) i)) ->
   ∃s':Nat,Zq (q172_F1 (R E) Zq E.glob) (q172_s1 k 329 0 (s:Int) (t:Int) (t:Int) 0 h)=some (.exit 2,q172_x1_3 k 329 0 (s':Int) (t:Int) h)/\s'<2 ^ 64/\∀i,s'.testBit i=(V.may i&&Dn (t+1) (t+1) (4*(t+1)) i):=by
  intro t s ht hs hbit
  obtain ⟨st,⟨s',rfl,hs',hbit'⟩,hL⟩:=Zcb (F:=q172_F1 (R E) Zq E.glob) (fun j st=>∃s':Nat,st=q172_s1 k 329 0 (s':Int) (t:Int) (t:Int) (j:Int) h/\s'<2 ^ 64/\∀i,s'.testBit i=(V.may i&&Dn (t+1) (t+1) (4*t+j) i)) 0 4 (by omega)
   (fun j st _ hj=>by
    rintro ⟨s',rfl,hs',hbit'⟩
    obtain ⟨n1,n2⟩:=Zpo (p:=8+(4*t+j)) (by omega) hs' hbit' (fun i=>Dn_l i)
    have hm:V.may (8+(4*t+j))=V.mayL t j:=by
     unfold MV.may
     rw [if_neg (by omega),if_neg (by omega),if_pos (by omega),show (8+(4*t+j) - 8) / 4=t by omega,show (8+(4*t+j) - 8) % 4=j by omega]
    rw [hm] at n1 n2
    refine ⟨q172_s1 k 329 0 ((if V.mayL t j=true then s' ||| Zgj ((8+(4*t+j):Nat):Int) else s':Nat):Int) (t:Int) (t:Int) ((j+1:Nat):Int) h,?_,_,rfl,n1,n2⟩
    have hq:=MV.b_at (V:=V) (t:=t) (by rw [f.bf];exact ht)
    have hbl:=f.b _ (Yj hq)
    rw [q172_r1,if_pos (by simp;omega),if_pos ⟨by omega,by omega⟩,rd,Ye,if_pos (by rw [hl];omega),Zjy f hpc hq,Zne hE.c192 hbl]
    have key:∀(n1 n2 n3:Int) (b:Bool) (hb:V.m=3->b=((V.b t).find? (Zch 3 (j:Int))).isSome),
      (c4 (some ([AV.c (.int .i64 n1),.c (.int .i64 n2),.c (.int .i64 n3),.c (.bool b)],h)) fun y_39 y_40 y_41 y_42 h_38=>Zk .i64 y_39 fun n_43=>Zk .i64 y_40 fun n_44=>Zk .i64 y_41 fun n_45=>asB y_42 fun b_46=>Zp h_38 k 329 fun l_47=>Ze l_47 (0+3) fun q_48=>Zk .i64 (.c q_48) fun n_49=>scK (n_49==3) true (some (b_46,h_38)) false h_38 fun b_50 h_51=>if b_50=true then let v_52:Int:=(E.glob.wrap .i64 (8+(E.glob.wrap .i64 (4*(t:Int)))));c1 (R E 18 [(.c (.int .u64 (s':Int))),(.c (.int .i64 (E.glob.wrap .i64 (v_52+(j:Int)))))] h_51) fun y_54 h_53=>Zk .u64 y_54 fun n_55=>some (Ex.normal,(q172_s1 k 329 0 n_55 t t (E.glob.wrap .i64 ((j:Int)+1)) h_53)) else some (.normal,(q172_s1 k 329 0 (s':Int) t t (E.glob.wrap .i64 ((j:Int)+1)) h_51))) =
      some (.normal,q172_s1 k 329 0 ((if V.mayL t j=true then s' ||| Zgj ((8+(4*t+j):Nat):Int) else s':Nat):Int) (t:Int) (t:Int) ((j+1:Nat):Int) h):=by
     intro n1 n2 n3 b hbb
     rw [c4_ok,asI_ok,asI_ok,asI_ok,asB_ok,rd,vm_m f hpc,asI_ok,scK_and,Zo (by omega)]
     have e:V.mayL t j=((V.m==3)&&b):=by
      unfold MV.mayL
      by_cases h3:V.m=3
      ·rw [hbb h3]
      ·rw [beq_false_of_ne h3];rfl
     rw [e]
     cases hv:((V.m==3)&&b) with
     | false=>rfl
     | true =>
      simp only [if_true]
      rw [Zj (x:=4*(t:Int)) (by omega) (by omega),Zj (x:=8+4*(t:Int)) (by omega) (by omega),Zj (by omega) (by omega),show (8+4*(t:Int)+(j:Int))=((8+(4*t+j):Nat):Int) by omega,Zot hE.c18 hs',c1_ok,asI_ok]
    have e3:V.m=3->Zbf V.m=3:=fun h=>by unfold Zbf;rw [h];rfl
    cases hf:(V.b t).find? (Zch (Zbf V.m) (j:Int)) with
    | none=>exact key _ _ _ _ fun h3=>by rw [e3 h3] at hf;rw [hf];rfl
    | some e=>exact key _ _ _ _ fun h3=>by rw [e3 h3] at hf;rw [hf];rfl) (st:=q172_s1 k 329 0 (s:Int) (t:Int) (t:Int) ((0:Nat):Int) h) ⟨s,rfl,hs,hbit⟩
  refine ⟨s',hL _ (Zm ?_),hs',fun i=>by rw [hbit',Nat.mul_succ]⟩
  rw [q172_r1,if_neg (by simp)]
 obtain ⟨st,⟨s,rfl,hs,hbit⟩,hL⟩:=Zcb (F:=q172_F2 (R E) Zq E.glob) (fun t st=>∃s:Nat,st=q172_s2 k 329 0 (s:Int) (t:Int) h/\s<2 ^ 64/\∀i,s.testBit i=(V.may i&&Dn t t (4*t) i)) 0 4 (by omega)
  (fun t st _ ht=>by
   rintro ⟨s,rfl,hs,hbit⟩
   have hq:=MV.b_at (V:=V) (t:=t) (by rw [f.bf];exact ht)
   have hbl:=f.b _ (Yj hq)
   have hql:=MV.l_at (V:=V) (t:=t) (by rw [f.lc];exact ht)
   obtain ⟨a1,a2⟩:=Zpo (p:=t) (by omega) hs hbit (fun i=>Dn_t ht i)
   have hm1:V.may t=V.mayT t:=by unfold MV.may;rw [if_pos ht]
   rw [hm1] at a1 a2
   obtain ⟨b1,b2⟩:=Zpo (p:=4+t) (by omega) a1 a2 (fun i=>Dn_f ht i)
   have hm2:V.may (4+t)=V.mayF t:=by unfold MV.may;rw [if_neg (by omega),if_pos (by omega),show 4+t - 4=t by omega]
   rw [hm2] at b1 b2
   generalize hs1:(if V.mayT t=true then s ||| Zgj (t:Int) else s)=s1 at *
   generalize hs2:(if V.mayF t=true then s1 ||| Zgj ((4+t:Nat):Int) else s1)=s2 at *
   obtain ⟨s3,l1,l2,l3⟩:=inner t s2 ht b1 b2
   refine ⟨q172_s2 k 329 0 (s3:Int) ((t+1:Nat):Int) h,?_,s3,rfl,l2,l3⟩
   have hr:0<=(t:Int)/\(t:Int)<((4:Nat):Int):=⟨by omega,by omega⟩
   have h74:(0+32)+t*74+74<=(vmC pc V x).length:=by rw [hl];omega
   have hemp:∀{β:Type} (g:Bool->Za->Option β),(c1 (R E 191 [(.agg (Zaj (Zbf V.m) (V.b t)))] h) fun y h'=>asB y fun b=>g b h')=g ((V.b t).length==0) h:=fun g=>by
    rw [Zjq hE.c191,c1_ok,asB_ok]
   have hk:(q172_k6 (R E) Zq E.glob) .normal (q172_c1 k 329 0 (s1:Int) (t:Int) (t:Int) h)=some (.normal,q172_s2 k 329 0 (s3:Int) ((t+1:Nat):Int) h):=by
    have fin:∀w:Nat,w=s2->(Zq (q172_F1 (R E) Zq E.glob) (q172_s1 k 329 0 (w:Int) (t:Int) (t:Int) 0 h)).bind (fun p_56=>(q172_k7 (R E) Zq E.glob) p_56.1 p_56.2)=some (.normal,q172_s2 k 329 0 (s3:Int) ((t+1:Nat):Int) h):=by
     rintro w rfl
     rw [l1,bind_ok]
     dsimp only
     rw [q172_e1_3,Zo (by omega)]
    rw [q172_ec1_n,rd,vm_m f hpc,asI_ok]
    simp only [rd,Ye,if_pos hr,if_pos h74,Zjy f hpc hq,Zjq hE.c191,c1_ok,asB_ok,scK_and]
    rw [show (V.m==2&&!((V.b t).length==0))=V.mayF t from rfl]
    cases hv:V.mayF t with
    | false =>
     rw [hv] at hs2
     exact fin s1 hs2
    | true =>
     rw [hv,if_pos rfl] at hs2
     rw [if_pos rfl,Zj (by omega) (by omega),show (4+(t:Int))=((4+t:Nat):Int) by omega,Zot hE.c18 a1,c1_ok,asI_ok]
     exact fin _ hs2
   rw [q172_r2,if_pos (by simp;omega),rd,if_pos (by rw [hl];omega),if_pos hr,rd,Ye,if_pos (by rw [hl];omega),Zkt f hpc,vm_lcl f hpc hql,Zrx hE.c105 p,qh_ok,c2_ok,asA_ok,asB_ok,if_pos (by exact ⟨rfl,rfl,rfl⟩)]
   simp only [ins_kind,asI_ok,scK_or,rd,if_pos hr,if_pos h74,Zjy f hpc hq,Zjq hE.c191,c1_ok,asB_ok]
   have step:∀b:Bool,b=V.mayT t->((if b=true then c1 (R E 18 [(.c (.int .u64 (s:Int))),(.c (.int .i64 (t:Int)))] h) fun y_23 h_22=>Zk .u64 y_23 fun n_24=>some (Ex.normal,(q172_c1 k 329 0 n_24 t t h_22)) else some (.normal,(q172_c1 k 329 0 (s:Int) t t h)):Option (Ex × St)).bind fun p_58=>(q172_k6 (R E) Zq E.glob) p_58.1 p_58.2)=some (.normal,q172_s2 k 329 0 (s3:Int) ((t+1:Nat):Int) h):=by
    rintro b rfl
    cases hv:V.mayT t with
    | false =>
     rw [hv] at hs1
     rw [if_neg (by simp),bind_ok]
     rw [if_neg (by simp)] at hs1
     rw [hs1];exact hk
    | true =>
     rw [hv,if_pos rfl] at hs1
     rw [if_pos rfl,Zot hE.c18 hs,c1_ok,asI_ok,bind_ok,hs1]
     exact hk
   have hT:V.mayT t=match Zbg (V.P.code t) (V.l t) with | none=>false | some i=>!(i.kind==3||i.kind==4)||(V.b t).length==0:=rfl
   cases hn:Zbg (V.P.code t) (V.l t) with
   | none =>
    rw [hn] at hT
    exact step false hT.symm
   | some i =>
    rw [hn] at hT
    dsimp only at hT
    simp only [Ycf,Ycx]
    cases hkk:(i.kind==3||i.kind==4) with
    | false=>exact step true (by rw [hT,hkk];rfl)
    | true=>exact step _ (by rw [hT,hkk])) (st:=q172_s2 k 329 0 ((0:Nat):Int) ((0:Nat):Int) h) ⟨0,rfl,by decide,fun i=>by
    rw [show Dn 0 0 (4*0) i=false by unfold Dn;split<;>(try split)<;>simp,Yar];simp⟩
 have hw:s=V.word:=by
  refine Nat.eq_of_testBit_eq fun i=>?_
  rw [hbit,MV.word_bit]
  by_cases hi:i<24
  ·rw [show Dn 4 4 (4*4) i=true by unfold Dn;split;(· exact decide_eq_true (by omega));split<;>exact decide_eq_true (by omega),Ybk]
  ·rw [MV.may_out (by omega)];rfl
 subst hw
 have e1:q172_F2 (R E) Zq E.glob (q172_s2 k 329 0 (V.word:Int) ((4:Nat):Int) h)=some (.exit 0,q172_x2_1 (V.word:Int) h):=by
  rw [q172_r2,if_neg (by simp)]
 have hr:=hL _ (Zm e1)
 rw [show (((0:Nat):Int))=0 from rfl] at hr
 rw [q172_eq,hr,bind_ok]
 dsimp only
 rw [q172_e2_1]
end
theorem Zeq {n:Nat} {h h':Za} {pc:List Cell} {P:PProg} (p:ProgAt (h.take n) pc P) (hn:n<=h.length) (hk:Kp n h h'):ProgAt h' pc P:=by
 have hl:(h.take n).length=n:=by rw [Yp];omega
 refine p.keep ⟨by rw [hl];exact Yy hn hk.1,fun k hk2=>?_⟩
 rw [hl] at hk2
 rw [hk.2 k hk2,Yz,if_pos hk2]
theorem Zfx {α:Type} {h:Za} {k:Nat} {l:List Cell} (hb:blk? h k=some ⟨true,0,l⟩) {cs:List Cell} {F:Za->Option α}:Zbe h k cs F=F (setBlk h k (some ⟨true,0,cs⟩)):=Zco hb rfl
def MV.val (V:MV) (t:Nat) (i:Ins):Int × Int:=match Zcj i.loc (V.b t) with
 | some e=>(e.val,e.id)
 | none=>(V.mem.getD i.loc.toNat 0,V.frm.getD i.loc.toNat 0)
def MV.wr (V:MV) (t:Nat) (e:Evt):MV :=
 if e.kind=2/\V.m≠1 then { V with bf:=V.bf.set t (V.b t++[⟨e.loc,e.w,V.st.length⟩]) }
 else if Zpw e=true then { V with mem:=V.mem.set e.loc.toNat e.w,frm:=V.frm.set e.loc.toNat V.st.length }
 else V
def MV.thrM (V:MV) (t:Nat) (i:Ins):MV :=
 { V.wr t (evOf i (V.l t) (V.val t i).1) with lc:=V.lc.set t (Zbi (V.P.code t) (V.l t) (V.val t i).1) }
def MV.thrS (V:MV) (t:Nat) (i:Ins):Stp :=
 ⟨0,t,(evOf i (V.l t) (V.val t i).1).kind,(evOf i (V.l t) (V.val t i).1).loc,(evOf i (V.l t) (V.val t i).1).r,(evOf i (V.l t) (V.val t i).1).w,if rdI i=true then (V.val t i).2 else -1⟩
theorem evt_kind {α:Type} {e:Evt} {f:Cell->Option α}:Ze e.cs 2 f=f (.int .i64 e.kind):=rfl
theorem evt_loc {α:Type} {e:Evt} {f:Cell->Option α}:Ze e.cs 3 f=f (.int .i64 e.loc):=rfl
theorem evt_r {α:Type} {e:Evt} {f:Cell->Option α}:Ze e.cs 4 f=f (.int .i64 e.r):=rfl
theorem evt_w {α:Type} {e:Evt} {f:Cell->Option α}:Ze e.cs 5 f=f (.int .i64 e.w):=rfl
theorem Zhx {i:Ins} {l:Lcl} {v:Int} (h:0<=i.loc/\i.loc<4):0<=(evOf i l v).loc/\(evOf i l v).loc<4:=by
 unfold evOf
 split
 ·exact h
 ·split
  ·exact h
  ·split
   ·split<;>exact h
   ·exact ⟨by decide,by decide⟩
section
variable {E:Env}
set_option maxHeartbeats 1000000 in
theorem Zq750 (hE:q193_In E) {n k:Nat} {h:Za} {x:Cell} {pc:List Cell} {V:MV} (hb:blk? h k=some ⟨true,0,vmC pc V x⟩) (f:V.Fit) (hp:ProgAt (h.take n) pc V.P) (hn:n<=h.length) (hnk:n<=k)
  (hP:V.P.fits) (hx:Own n h x 7 (Zai V.st) V.st.length) {t:Nat} (ht:t<4) {i:Ins} (hi:V.nxt t=some i) (hloc:0<=i.loc/\i.loc<4) (hbl:(V.b t).length<24) :
  R E 193 [.c (.ptr k 329 0),.c (.int .i64 (t:Int))] h=some ([.agg (V.thrS t i).cs],setBlk h k (some ⟨true,0,vmC pc (V.thrM t i) x⟩)):=by
 refine Zd hE.fn ?_
 have hpc:=hp.len
 have hl:=Zbq (x:=x) f hpc
 have rd:∀{α:Type} {F:List Cell->Option α},Zp h k 329 F=F (vmC pc V x):=fun {α F}=>Zy hb hl
 have p:=Zeq hp hn (Kp.refl n h)
 have hr:0<=(t:Int)/\(t:Int)<((4:Nat):Int):=⟨by omega,by omega⟩
 have h74:(0+32)+t*74+74<=(vmC pc V x).length:=by rw [hl];omega
 have hq:=MV.b_at (V:=V) (t:=t) (by rw [f.bf];exact ht)
 have hql:=MV.l_at (V:=V) (t:=t) (by rw [f.lc];exact ht)
 have hil:0<=i.loc/\i.loc<((4:Nat):Int):=⟨hloc.1,by omega⟩
 have hi4:i.loc.toNat<4:=by omega
 have hmem:V.mem[i.loc.toNat]? = some (V.mem.getD i.loc.toNat 0):=by
  rw [Yl,Yc (by rw [f.mem];exact hi4)];rfl
 have hfrm:V.frm[i.loc.toNat]? = some (V.frm.getD i.loc.toNat 0):=by
  rw [Yl,Yc (by rw [f.frm];exact hi4)];rfl
 have hk:k<h.length:=Zan hb
 have hlcs:(Lcl.cs (V.l t)).length=5:=rfl
 have two:∀(v fr:Int),v=(V.val t i).1->fr=(V.val t i).2 ->
   (q193_k2 (R E) Zq E.glob h) .normal (q193_c1 k 329 0 (t:Int) v fr (Ya 7 ci0) (V.l t).cs i.cs h)=some ([.agg (V.thrS t i).cs],setBlk h k (some ⟨true,0,vmC pc (V.thrM t i) x⟩)):=by
  rintro v fr hv hfr
  have three:∀a9:Int,a9=(if rdI i=true then fr else -1) ->
    (q193_k3 (R E) Zq E.glob h) .normal (q193_c2 k 329 0 (t:Int) v a9 (Ya 7 ci0) (V.l t).cs (evOf i (V.l t) v).cs h)=some ([.agg (V.thrS t i).cs],setBlk h k (some ⟨true,0,vmC pc (V.thrM t i) x⟩)):=by
   intro a9 h9
   have hev:=Zhx (l:=V.l t) (v:=v) hloc
   have hS:V.thrS t i=⟨0,t,(evOf i (V.l t) v).kind,(evOf i (V.l t) v).loc,(evOf i (V.l t) v).r,(evOf i (V.l t) v).w,a9⟩:=by unfold MV.thrS;rw [←hv,←hfr,h9]
   have hM:V.thrM t i={ V.wr t (evOf i (V.l t) v) with lc:=V.lc.set t (Zbi (V.P.code t) (V.l t) v) }:=by unfold MV.thrM;rw [←hv]
   rw [hS,hM]
   generalize evOf i (V.l t) v=e at hev
   have he:0<=e.loc/\e.loc<((4:Nat):Int):=⟨hev.1,by omega⟩
   have he4:e.loc.toNat<4:=by omega
   rw [q193_ec2_n,rd,Zhw f hpc,hx.at.len,evt_kind,asI_ok]
   simp only [rd,vm_m f hpc,asI_ok,scK_and]
   unfold MV.wr
   by_cases h2:e.kind=2/\V.m≠1
   ·have hm0:Zbf V.m≠0:=by have:=f.m;unfold Zbf;rw [if_pos (by omega)];omega
    rw [if_pos (by rw [Yn];exact ⟨beq_iff_eq.2 h2.1,bne_iff_ne.2 h2.2⟩),if_pos h2]
    have hbl2:(V.b t++[(⟨e.loc,e.w,V.st.length⟩:Ent)]).length<=24:=by rw [Yb,Yq];omega
    rw [if_pos hr,Ye,if_pos h74,evt_loc,asI_ok,evt_w,asI_ok,Zjy f hpc hq,bufPut_R hE.c206 hbl hm0 hev,qh_ok,c1_ok,asA_ok,if_pos hr,if_pos (by exact ⟨h74,Zcp _ hbl2⟩),Zyp f hpc ht hbl2,Zfx hb]
    have fW:MV.Fit { V with bf:=V.bf.set t (V.b t++[⟨e.loc,e.w,V.st.length⟩]) }:=⟨f.m,f.lc,f.mem,f.frm,by rw [Yk];exact f.bf,fun l hl=>by
     rcases Yaj hl with hl | rfl
     ·exact f.b l hl
     ·exact hbl2⟩
    have hb2:blk? (setBlk h k (some ⟨true,0,vmC pc { V with bf:=V.bf.set t (V.b t++[⟨e.loc,e.w,V.st.length⟩]) } x⟩)) k=some ⟨true,0,vmC pc { V with bf:=V.bf.set t (V.b t++[⟨e.loc,e.w,V.st.length⟩]) } x⟩:=Zad hk _
    rw [Zy hb2 (Zbq fW hpc),if_pos (by rw [Zbq fW hpc];omega),if_pos (by exact ⟨by trivial,rfl⟩),Zkt fW hpc,Zph hE.c106 hP (Zeq hp hn (Kp.set hnk _)),qh_ok,c1_ok,asA_ok,if_pos hr,Zy hb2 (Zbq fW hpc),if_pos (by exact ⟨by rw [Zbq fW hpc];omega,rfl⟩)]
    try rw [Ye]
    rw [Zsd fW hpc ht,Zfx hb2]
    simp only [evt_kind,evt_loc,evt_r,evt_w,asI_ok]
    rw [if_pos (by exact ⟨by trivial,rfl,rfl⟩),if_pos (by exact ⟨by trivial,rfl⟩)]
    rw [setBlk_set]
    rfl
   ·rw [if_neg (by rw [Yn];intro q;exact h2 ⟨beq_iff_eq.1 q.1,bne_iff_ne.1 q.2⟩),if_neg h2,if_pos (by exact ⟨by trivial,rfl⟩),Zwm hE.c80,c1_ok,asB_ok]
    cases hw:Zpw e with
    | true =>
     rw [if_pos rfl,if_pos rfl]
     simp only [evt_loc,evt_w,asI_ok]
     have fW1:MV.Fit { V with mem:=V.mem.set e.loc.toNat e.w }:=⟨f.m,f.lc,by rw [Yk];exact f.mem,f.frm,f.bf,f.b⟩
     have hb1:blk? (setBlk h k (some ⟨true,0,vmC pc { V with mem:=V.mem.set e.loc.toNat e.w } x⟩)) k=some ⟨true,0,vmC pc { V with mem:=V.mem.set e.loc.toNat e.w } x⟩:=Zad hk _
     have fW:MV.Fit { V with mem:=V.mem.set e.loc.toNat e.w,frm:=V.frm.set e.loc.toNat V.st.length }:=⟨f.m,f.lc,by rw [Yk];exact f.mem,by rw [Yk];exact f.frm,f.bf,f.b⟩
     have hb2:blk? (setBlk h k (some ⟨true,0,vmC pc { V with mem:=V.mem.set e.loc.toNat e.w,frm:=V.frm.set e.loc.toNat V.st.length } x⟩)) k=some ⟨true,0,vmC pc { V with mem:=V.mem.set e.loc.toNat e.w,frm:=V.frm.set e.loc.toNat V.st.length } x⟩:=Zad hk _
     rw [if_pos he,rd,if_pos (by rw [hl];omega),vm_setM f hpc he4,Zfx hb,if_pos he,Zy hb1 (Zbq fW1 hpc),if_pos (by rw [Zbq fW1 hpc];omega),vm_setF fW1 hpc he4,Zfx hb1,setBlk_set]
     rw [Zy hb2 (Zbq fW hpc),if_pos (by rw [Zbq fW hpc];omega),if_pos (by exact ⟨by trivial,rfl⟩),Zkt fW hpc,Zph hE.c106 hP (Zeq hp hn (Kp.set hnk _)),qh_ok,c1_ok,asA_ok,if_pos hr,Zy hb2 (Zbq fW hpc),if_pos (by exact ⟨by rw [Zbq fW hpc];omega,rfl⟩)]
     try rw [Ye]
     rw [Zsd fW hpc ht,Zfx hb2]
     simp only [evt_kind,evt_r,asI_ok]
     rw [if_pos (by exact ⟨by trivial,rfl,rfl⟩),if_pos (by exact ⟨by trivial,rfl⟩)]
     rw [setBlk_set]
     rfl
    | false =>
     rw [if_neg (by simp),if_neg (by simp)]
     rw [Zy hb (Zbq f hpc),if_pos (by rw [Zbq f hpc];omega),if_pos (by exact ⟨by trivial,rfl⟩),Zkt f hpc,Zph hE.c106 hP (Zeq hp hn (Kp.refl n h)),qh_ok,c1_ok,asA_ok,if_pos hr,Zy hb (Zbq f hpc),if_pos (by exact ⟨by rw [Zbq f hpc];omega,rfl⟩)]
     try rw [Ye]
     rw [Zsd f hpc ht,Zfx hb]
     simp only [evt_kind,evt_loc,evt_r,evt_w,asI_ok]
     rw [if_pos (by exact ⟨by trivial,rfl,rfl⟩),if_pos (by exact ⟨by trivial,rfl⟩)]
     rfl
  rw [q193_ec1_n,if_pos (by exact ⟨by trivial,rfl⟩),if_pos (by exact ⟨by trivial,rfl⟩),Zq707 hE.c109,c2_ok,asA_ok,asB_ok,if_pos (by exact ⟨by trivial,rfl,rfl⟩)]
  cases hrd:rdI i with
  | false=>exact three (-1) (by rw [hrd];rfl)
  | true=>exact three fr (by rw [hrd];rfl)
 rw [q193_eq,if_pos hr,rd,Ye,if_pos (by rw [hl];omega),vm_lcl f hpc hql,if_pos (by exact ⟨by trivial,rfl,rfl⟩),rd,if_pos (by rw [hl];omega),if_pos (by exact ⟨by trivial,rfl⟩),Zkt f hpc,Zrx hE.c105 p,qh_ok,c2_ok,asA_ok,asB_ok,if_pos (by exact ⟨by trivial,rfl,rfl⟩)]
 rw [show Zbg (V.P.code t) (V.l t)=some i from hi]
 simp only [Ycf,ins_loc,asI_ok]
 rw [if_pos hil,rd,vm_mem f hpc hmem,asI_ok,if_pos hil,rd,vm_frm f hpc hfrm,asI_ok,if_pos hr,rd,if_pos h74,Zjy f hpc hq,Zul hE.c205 (Yao hbl)]
 have hv:V.val t i=match Zcj i.loc (V.b t) with | some e=>(e.val,e.id) | none=>(V.mem.getD i.loc.toNat 0,V.frm.getD i.loc.toNat 0):=rfl
 cases hnw:Zcj i.loc (V.b t) with
 | none =>
  rw [hnw] at hv
  dsimp only
  rw [qh_ok,c3_ok,asI_ok,asI_ok,asB_ok,if_neg (by simp),bind_ok]
  exact two _ _ (by rw [hv]) (by rw [hv])
 | some e =>
  rw [hnw] at hv
  dsimp only
  rw [qh_ok,c3_ok,asI_ok,asI_ok,asB_ok,if_pos rfl,bind_ok]
  exact two _ _ (by rw [hv]) (by rw [hv])
end
def MV.fluE (V:MV) (t:Nat) (loc:Int):Ent:=((V.b t).find? (Zch (Zbf V.m) loc)).getD ⟨0,0,0⟩
def MV.fluM (V:MV) (t:Nat) (loc:Int):MV :=
 { V with bf:=V.bf.set t ((V.b t).eraseP (Zch (Zbf V.m) loc)),mem:=V.mem.set (V.fluE t loc).loc.toNat (V.fluE t loc).val,frm:=V.frm.set (V.fluE t loc).loc.toNat (V.fluE t loc).id }
def MV.fluS (V:MV) (t:Nat) (loc:Int):Stp:=⟨0,t,6,(V.fluE t loc).loc,0,(V.fluE t loc).val,(V.fluE t loc).id⟩
def MV.thrI (V:MV) (t:Nat):Ins:=(V.nxt t).getD Ins.zero
def MV.stp (V:MV) (i:Nat):Stp :=
 { (if i<4 then V.thrS i (V.thrI i) else if i<8 then V.fluS (i - 4) 0 else V.fluS ((i - 8) / 4) (((i - 8) % 4:Nat):Int)) with pick:=i }
def MV.nx (V:MV) (i:Nat):MV :=
 { (if i<4 then V.thrM i (V.thrI i) else if i<8 then V.fluM (i - 4) 0 else V.fluM ((i - 8) / 4) (((i - 8) % 4:Nat):Int)) with st:=V.st++[V.stp i] }
structure MV.Inv (V:MV):Prop where
 fit:V.Fit
 small:V.P.small
 fld:∀c∈V.P.thr,∀i∈c,fldB (Zfz V.P) i=true
 locs:V.P.locs.length<=4
 c10:∀c∈V.P.thr,c.length<=10
 ents:∀b∈V.bf,∀e∈b,0<=e.loc/\e.loc<4
 pcs:∀t,t<4->((V.b t).length:Int)<=(V.l t).pc
theorem fldV_loc {P:PProg} (h4:P.locs.length<=4) {i:Ins} (h:fldB (Zfz P) i=true) (hk:1<=i.kind/\i.kind<=4):0<=i.loc/\i.loc<4:=by
 unfold fldB Zfz at h
 split at h
 ·simp at h;omega
 ·split at h
  ·simp at h;omega
  ·split at h
   ·have h:=of_decide_eq_true h
    unfold Ins.cs at h
    simp at h
    omega
   ·split at h
    ·simp at h;omega
    ·omega
theorem MV.Inv.code10 {V:MV} (v:V.Inv) (t:Int):(V.P.code t).length<=10:=by
 unfold PProg.code
 split
 ·rw [Yl]
  cases hq:V.P.thr[t.toNat]? with
  | none=>simp
  | some c=>exact v.c10 c (Yj hq)
 ·simp
theorem MV.Inv.nxt {V:MV} (v:V.Inv) {t:Nat} {i:Ins} (h:V.nxt t=some i):(0<=i.loc/\i.loc<4)/\(1<=i.kind/\i.kind<=4)/\0<=(V.l t).pc/\(V.l t).pc<10/\i∈V.P.code t:=by
 obtain ⟨h1,h2,h3,h4,h5⟩:=Zjt h
 have hm:i∈V.P.code t:=Yj h3
 have:=v.code10 t
 refine ⟨fldV_loc v.locs ?_ ⟨h4,h5⟩,⟨h4,h5⟩,h1,by omega,hm⟩
 unfold PProg.code at hm
 split at hm
 ·rw [Yl] at hm
  cases hq:V.P.thr[(t:Int).toNat]? with
  | none=>rw [hq] at hm;simp at hm
  | some c=>rw [hq] at hm;exact v.fld c (Yj hq) i hm
 ·simp at hm
theorem MV.Inv.blen {V:MV} (v:V.Inv) {t:Nat} (ht:t<4):(V.b t).length<=24:=v.fit.b _ (Yj (MV.b_at (by rw [v.fit.bf];exact ht)))
structure VmAt (n:Nat) (h:Za) (k:Nat) (x:Cell) (pc:List Cell) (V:MV):Prop where
 hn:n<=h.length
 nk:n<=k
 prog:ProgAt (h.take n) pc V.P
 blk:blk? h k=some ⟨true,0,vmC pc V x⟩
 st:Own n h x 7 (Zai V.st) V.st.length
 sep:¬Zv x k
structure KpV (n k:Nat) (x x':Cell) (h h':Za):Prop where
 kp:Kp n h h'
 old:∀j b,blk? h j=some b->j≠k->¬Zv x j->blk? h' j=some b/\¬Zv x' j
theorem Own.blkLt' {n:Nat} {h:Za} {x:Cell} {esz len:Nat} {cs:List Cell} (o:Own n h x esz cs len) {k:Nat} (hk:Zv x k):n<=k/\k<h.length:=by
 rcases o.2 with ⟨rfl,_⟩ | ⟨k',rfl,h1,h2⟩
 ·exact absurd hk (by simp [Zv])
 ·cases hk;exact ⟨h1,Zan h2⟩
theorem Own.setO {n:Nat} {h:Za} {x:Cell} {esz len:Nat} {cs:List Cell} (o:Own n h x esz cs len) {k:Nat} (hk:¬Zv x k) (b:Option Blk):Own n (setBlk h k b) x esz cs len:=by
 refine ⟨o.1,o.2.imp id ?_⟩
 rintro ⟨k',rfl,h1,h2⟩
 exact ⟨k',rfl,h1,by rw [Zbh (fun e=>hk e.symm)];exact h2⟩
theorem MV.word_lt (V:MV):V.word<2 ^ 64:=Zq710 _ (by omega)
section
variable {E:Env}
theorem flush_R' (hE:q194_In E) {k:Nat} {h:Za} {x:Cell} {pc:List Cell} {V:MV} (hb:blk? h k=some ⟨true,0,vmC pc V x⟩) (v:V.Inv) (hpc:pc.length=3)
  {t:Nat} (ht:t<4) {loc:Int} (hf:((V.b t).find? (Zch (Zbf V.m) loc)).isSome=true) :
  R E 194 [.c (.ptr k 329 0),.c (.int .i64 (t:Int)),.c (.int .i64 loc)] h=some ([.agg (V.fluS t loc).cs],setBlk h k (some ⟨true,0,vmC pc (V.fluM t loc) x⟩)):=by
 refine Zd hE.fn ?_
 have f:=v.fit
 have hl:=Zbq (x:=x) f hpc
 have rd:∀{α:Type} {F:List Cell->Option α},Zp h k 329 F=F (vmC pc V x):=fun {α F}=>Zy hb hl
 have hr:0<=(t:Int)/\(t:Int)<((4:Nat):Int):=⟨by omega,by omega⟩
 have h74:(0+32)+t*74+74<=(vmC pc V x).length:=by rw [hl];omega
 have hq:=MV.b_at (V:=V) (t:=t) (by rw [f.bf];exact ht)
 have hbl:=v.blen ht
 have hk:k<h.length:=Zan hb
 cases he:(V.b t).find? (Zch (Zbf V.m) loc) with
 | none=>rw [he] at hf;cases hf
 | some e =>
  have hee:V.fluE t loc=e:=by unfold MV.fluE;rw [he];rfl
  have hel:=v.ents _ (Yj hq) e (Yw he)
  have hel':0<=e.loc/\e.loc<((4:Nat):Int):=⟨hel.1,by omega⟩
  have he4:e.loc.toNat<4:=by omega
  obtain ⟨j,hj⟩:∃j,(V.b t).findIdx? (Zch (Zbf V.m) loc)=some j:=by
   cases hx:(V.b t).findIdx? (Zch (Zbf V.m) loc) with
   | some j=>exact ⟨j,rfl⟩
   | none =>
    rw [Yai] at hx
    have:=hx e (Yw he)
    rw [Ybq he] at this;cases this
  have hep:(V.b t).eraseP (Zch (Zbf V.m) loc)=(V.b t).eraseIdx j:=by rw [Ybh,hj]
  have hlen2:((V.b t).eraseIdx j).length<=24:=by rw [Ycr];split<;>omega
  unfold MV.fluM MV.fluS
  rw [hee,hep]
  have f1:MV.Fit { V with bf:=V.bf.set t ((V.b t).eraseIdx j) }:=⟨f.m,f.lc,f.mem,f.frm,by rw [Yk];exact f.bf,fun l hl=>by
   rcases Yaj hl with hl | rfl
   ·exact f.b l hl
   ·exact hlen2⟩
  have f2:MV.Fit { V with bf:=V.bf.set t ((V.b t).eraseIdx j),mem:=V.mem.set e.loc.toNat e.val }:=⟨f1.m,f1.lc,by rw [Yk];exact f1.mem,f1.frm,f1.bf,f1.b⟩
  have b1:∀l,blk? (setBlk h k (some ⟨true,0,l⟩)) k=some ⟨true,0,l⟩:=fun l=>Zad hk _
  have rd1:∀(W:MV) (fW:W.Fit) {α:Type} {F:List Cell->Option α},Zp (setBlk h k (some ⟨true,0,vmC pc W x⟩)) k 329 F=F (vmC pc W x):=fun W fW {α F}=>Zy (b1 _) (Zbq fW hpc)
  rw [q194_eq,if_pos hr,rd,Ye,if_pos h74,Zjy f hpc hq,Zne hE.c192 hbl,he]
  dsimp only
  rw [c4_ok,asI_ok,asI_ok,asI_ok,asB_ok,if_pos hr,rd,if_pos h74,Zjy f hpc hq,Zq725 hE.c207 hbl hj,qh_ok,c1_ok,asA_ok,if_pos hr,rd,if_pos ⟨h74,Zcp _ hlen2⟩,Zyp f hpc ht hlen2,Zfx hb,
   if_pos hel',rd1 _ f1,if_pos (by rw [Zbq f1 hpc];omega),vm_setM f1 hpc he4,Zfx (b1 _),setBlk_set,if_pos hel',rd1 _ f2,if_pos (by rw [Zbq f2 hpc];omega),vm_setF f2 hpc he4,Zfx (b1 _),setBlk_set,
   if_pos (by exact ⟨by trivial,rfl,rfl⟩),if_pos (by exact ⟨by trivial,rfl⟩)]
  rfl
theorem Pick_no (hE:q173_In E) {n k:Nat} {h:Za} {x:Cell} {pc:List Cell} {V:MV} (a:VmAt n h k x pc V) (v:V.Inv) {i:Int} (hi:Zor V.word i=false) :
  R E 173 [.c (.ptr k 329 0),.c (.int .i64 i)] h=some ([.agg (Stp.cs ⟨0,0,0,0,0,0,0⟩),.c (.bool false)],h):=by
 refine Zd hE.fn ?_
 rw [q173_eq,Zmm hE.c172 a.blk v.fit (Zeq a.prog a.hn (Kp.refl n h)),c1_ok,asI_ok,Ztv hE.c17 V.word_lt,c1_ok,asB_ok,hi,if_pos (by simp),if_pos (by exact ⟨by trivial,rfl,rfl⟩),if_pos (by exact ⟨by trivial,rfl⟩)]
 rfl
theorem MV.may_lt {V:MV} {i:Nat} (h:V.may i=true):i<24:=by
 rcases Yan i 24 with h1 | h1
 ·exact h1
 ·rw [MV.may_out h1] at h;cases h
set_option maxHeartbeats 1000000 in
theorem Pick_R (hE:q173_In E) {n k:Nat} {h:Za} {x:Cell} {pc:List Cell} {V:MV} (a:VmAt n h k x pc V) (v:V.Inv) (hst:V.st.length<100000) {i:Nat} (hi:V.may i=true) :
  ∃x' h',R E 173 [.c (.ptr k 329 0),.c (.int .i64 (i:Int))] h=some ([.agg (V.stp i).cs,.c (.bool true)],h')/\VmAt n h' k x' pc (V.nx i)/\KpV n k x x' h h':=by
 have hi24:=MV.may_lt hi
 have f:=v.fit
 have hpc:=a.prog.len
 have hk:k<h.length:=Zan a.blk
 have hb:maxBytes>=200000*56:=by unfold maxBytes;omega
 have hfits:=v.small.fits
 have push:∀(W:MV) (s:Stp),W.Fit->W.P=V.P->W.st=V.st->∃x' h',(∀{α:Type} (F:Cell->Za->Option α),Zao 7 56 x s.cs (setBlk h k (some ⟨true,0,vmC pc W x⟩)) F=F x' h')/\blk? h' k=some ⟨true,0,vmC pc W x⟩ /\
   VmAt n (setBlk h' k (some ⟨true,0,vmC pc W x'⟩)) k x' pc { W with st:=V.st++[s] }/\KpV n k x x' h (setBlk h' k (some ⟨true,0,vmC pc W x'⟩)):=by
  intro W s fW hWP hWs
  have b1:blk? (setBlk h k (some ⟨true,0,vmC pc W x⟩)) k=some ⟨true,0,vmC pc W x⟩:=Zad hk _
  obtain ⟨x',h',e1,o1,k1,r1⟩:=(a.st.setO a.sep (some ⟨true,0,vmC pc W x⟩)).app (bytes:=56) (by rw [Zbw];exact a.hn) (Zgb s) (by omega) (by omega) (by omega)
  obtain ⟨c1,c2⟩:=r1 k _ b1 a.sep
  have kp1:Kp n h h':=(Kp.set a.nk _).trans k1
  have kp2:Kp n h (setBlk h' k (some ⟨true,0,vmC pc W x'⟩)):=kp1.trans (Kp.set a.nk _)
  refine ⟨x',h',e1,c1,⟨Yy a.hn kp2.1,a.nk,?_,Zad (Zan c1) _,?_,c2⟩,kp2,fun j b hj hne hnx=>?_⟩
  ·have:(setBlk h' k (some ⟨true,0,vmC pc W x'⟩)).take n=h.take n:=by
    refine Yap fun j=>?_
    rw [Yz,Yz]
    split
    ·exact kp2.2 j (by assumption)
    ·rfl
   rw [this]
   show ProgAt (h.take n) pc W.P
   rw [hWP];exact a.prog
  ·show Own n _ x' 7 (Zai (V.st++[s])) (V.st++[s]).length
   rw [Zmy,Yb,Yq]
   exact o1.setO c2 _
  ·obtain ⟨d1,d2⟩:=r1 j b (by rw [Zbh (fun e=>hne e.symm)];exact hj) hnx
   exact ⟨by rw [Zbh (fun e=>hne e.symm)];exact d1,d2⟩
 have hhas:Zor V.word (i:Int)=true:=by rw [Zon (by omega),MV.word_bit,hi]
 have en:=Zmm hE.c172 a.blk f (Zeq a.prog a.hn (Kp.refl n h))
 have s7:∀s:Stp,(s.cs.set 0 (.int .i64 (i:Int)))=({ s with pick:=i }:Stp).cs:=fun _=>rfl
 have s7':∀s:Stp,splice (Ya 7 ci0) 0 s.cs=s.cs:=fun _=>rfl
 have fluW:∀(t:Nat) (loc:Int),t<4->(V.fluM t loc).Fit:=fun t loc ht=>by
  have hbl:=v.blen ht
  refine ⟨f.m,f.lc,by show (V.mem.set _ _).length=4;rw [Yk];exact f.mem,by show (V.frm.set _ _).length=4;rw [Yk];exact f.frm,by show (V.bf.set _ _).length=4;rw [Yk];exact f.bf,fun l hl=>?_⟩
  rcases Yaj hl with hl | rfl
  ·exact f.b l hl
  ·exact Yy Ybn hbl
 by_cases h4:i<4
 ·have hm:V.mayT i=true:=by unfold MV.may at hi;rw [if_pos h4] at hi;exact hi
  obtain ⟨q,hq⟩:∃q,V.nxt i=some q:=by
   unfold MV.mayT at hm
   cases hq:V.nxt i with
   | none=>rw [hq] at hm;cases hm
   | some q=>exact ⟨q,rfl⟩
  have hqI:V.thrI i=q:=by unfold MV.thrI;rw [hq];rfl
  obtain ⟨q1,q2,q3,q4,q5⟩:=v.nxt hq
  have hpb:=v.pcs i h4
  have th:=Zq750 hE.c193 a.blk f a.prog a.hn a.nk hfits a.st h4 hq q1 (by omega)
  have fW:(V.thrM i q).Fit:=by
   have hfw:(V.wr i (evOf q (V.l i) (V.val i q).1)).Fit:=by
    unfold MV.wr
    split
    ·refine ⟨f.m,f.lc,f.mem,f.frm,by rw [Yk];exact f.bf,fun l hl=>?_⟩
     rcases Yaj hl with hl | rfl
     ·exact f.b l hl
     ·rw [Yb,Yq];omega
    ·split
     ·exact ⟨f.m,f.lc,by rw [Yk];exact f.mem,by rw [Yk];exact f.frm,f.bf,f.b⟩
     ·exact f
   exact ⟨hfw.m,by show (V.lc.set _ _).length=4;rw [Yk];exact f.lc,hfw.mem,hfw.frm,hfw.bf,hfw.b⟩
  have hPP:(V.thrM i q).P=V.P:=by unfold MV.thrM MV.wr;split<;>(try split)<;>rfl
  have hSS:(V.thrM i q).st=V.st:=by unfold MV.thrM MV.wr;split<;>(try split)<;>rfl
  obtain ⟨x',h',e1,c1,c2,c3⟩:=push (V.thrM i q) { V.thrS i q with pick:=i } fW hPP hSS
  have e2:V.stp i={ V.thrS i q with pick:=i }:=by unfold MV.stp;rw [if_pos h4,hqI]
  have e3:V.nx i={ V.thrM i q with st:=V.st++[{ V.thrS i q with pick:=i }] }:=by unfold MV.nx;rw [if_pos h4,hqI,e2]
  rw [e2,e3]
  have b1:blk? (setBlk h k (some ⟨true,0,vmC pc (V.thrM i q) x⟩)) k=some ⟨true,0,vmC pc (V.thrM i q) x⟩:=Zad hk _
  have l1:=Zbq (x:=x) fW hpc
  refine ⟨x',_,Zd hE.fn ?_,c2,c3⟩
  rw [q173_eq,en,c1_ok,asI_ok,Ztv hE.c17 V.word_lt,c1_ok,asB_ok,hhas,if_neg (by simp),if_pos (by simp;omega),th,c1_ok,asA_ok,if_pos (by exact ⟨by trivial,rfl,rfl⟩),if_pos (by rw [Zgb];omega),Zy b1 l1,Zhw fW hpc]
  simp only [s7,s7',e1]
  rw [if_pos (by exact ⟨by trivial,rfl⟩),if_pos (by exact ⟨rfl,by decide⟩),if_pos (by exact rfl),Zy c1 l1,if_pos (by rw [l1];omega),Zrt fW hpc,Zfx c1,if_pos (by exact ⟨by trivial,rfl⟩),if_pos (by exact ⟨by trivial,rfl,rfl⟩),if_pos (by exact ⟨by trivial,rfl⟩)]
 ·have flu:∀(t:Nat) (loc:Int),t<4->((V.b t).find? (Zch (Zbf V.m) loc)).isSome=true->V.stp i={ V.fluS t loc with pick:=i }->V.nx i={ V.fluM t loc with st:=V.st++[V.stp i] } ->
    (((i:Int)<8/\R E 194 [(.c (.ptr k 329 0)),(.c (.int .i64 (E.glob.wrap .i64 ((i:Int) - 4)))),(.c (.int .i64 0))] h=R E 194 [.c (.ptr k 329 0),.c (.int .i64 (t:Int)),.c (.int .i64 loc)] h) ∨
     (¬(i:Int)<8/\R E 194 [(.c (.ptr k 329 0)),(.c (.int .i64 (E.glob.quo .i64 (E.glob.wrap .i64 ((i:Int) - 8)) 4))),(.c (.int .i64 (E.glob.rem .i64 (E.glob.wrap .i64 ((i:Int) - 8)) 4)))] h=R E 194 [.c (.ptr k 329 0),.c (.int .i64 (t:Int)),.c (.int .i64 loc)] h)) ->
    ∃x' h',R E 173 [.c (.ptr k 329 0),.c (.int .i64 (i:Int))] h=some ([.agg (V.stp i).cs,.c (.bool true)],h')/\VmAt n h' k x' pc (V.nx i)/\KpV n k x x' h h':=by
   intro t loc ht hf e2 e3 hF
   have fW:=fluW t loc ht
   have fl:=flush_R' hE.c194 a.blk v hpc ht hf
   obtain ⟨x',h',e1,c1,c2,c3⟩:=push (V.fluM t loc) { V.fluS t loc with pick:=i } fW rfl rfl
   rw [e3,e2]
   have b1:blk? (setBlk h k (some ⟨true,0,vmC pc (V.fluM t loc) x⟩)) k=some ⟨true,0,vmC pc (V.fluM t loc) x⟩:=Zad hk _
   have l1:=Zbq (x:=x) fW hpc
   refine ⟨x',_,Zd hE.fn ?_,c2,c3⟩
   rw [q173_eq,en,c1_ok,asI_ok,Ztv hE.c17 V.word_lt,c1_ok,asB_ok,hhas,if_neg (by simp),if_neg (by simp;omega)]
   rcases hF with ⟨h8,hF⟩ | ⟨h8,hF⟩
   ·rw [if_pos (decide_eq_true h8),hF]
    rw [fl,c1_ok,asA_ok,if_pos (by exact ⟨by trivial,rfl,rfl⟩),if_pos (by rw [Zgb];omega),Zy b1 l1,Zhw fW hpc]
    simp only [s7,s7',e1]
    rw [if_pos (by exact ⟨by trivial,rfl⟩),if_pos (by exact ⟨rfl,by decide⟩),if_pos (by exact rfl),Zy c1 l1,if_pos (by rw [l1];omega),Zrt fW hpc,Zfx c1,if_pos (by exact ⟨by trivial,rfl⟩),if_pos (by exact ⟨by trivial,rfl,rfl⟩),if_pos (by exact ⟨by trivial,rfl⟩)]
   ·rw [if_neg (by rw [decide_eq_false h8];simp),hF]
    rw [fl,c1_ok,asA_ok,if_pos (by exact ⟨by trivial,rfl,rfl⟩),if_pos (by rw [Zgb];omega),Zy b1 l1,Zhw fW hpc]
    simp only [s7,s7',e1]
    rw [if_pos (by exact ⟨by trivial,rfl⟩),if_pos (by exact ⟨rfl,by decide⟩),if_pos (by exact rfl),Zy c1 l1,if_pos (by rw [l1];omega),Zrt fW hpc,Zfx c1,if_pos (by exact ⟨by trivial,rfl⟩),if_pos (by exact ⟨by trivial,rfl,rfl⟩),if_pos (by exact ⟨by trivial,rfl⟩)]
  by_cases h8:i<8
  ·have hm:V.mayF (i - 4)=true:=by unfold MV.may at hi;rw [if_neg h4,if_pos h8] at hi;exact hi
   unfold MV.mayF at hm
   rw [Yn] at hm
   have hm2:V.m=2:=beq_iff_eq.1 hm.1
   have hne:(V.b (i - 4)).length≠0:=by simpa using hm.2
   refine flu (i - 4) 0 (by omega) ?_ (by unfold MV.stp;rw [if_neg h4,if_pos h8]) (by unfold MV.nx;rw [if_neg h4,if_pos h8]) (.inl ⟨by omega,?_⟩)
   ·rw [hm2]
    cases hbb:V.b (i - 4) with
    | nil=>rw [hbb] at hne;exact absurd rfl hne
    | cons e l=>rfl
   ·rw [Zj (by omega) (by omega),show ((i:Int) - 4)=((i - 4:Nat):Int) by omega]
  ·have hm:V.mayL ((i - 8) / 4) ((i - 8) % 4)=true:=by unfold MV.may at hi;rw [if_neg h4,if_neg h8,if_pos hi24] at hi;exact hi
   unfold MV.mayL at hm
   rw [Yn] at hm
   have hm3:V.m=3:=beq_iff_eq.1 hm.1
   refine flu ((i - 8) / 4) (((i - 8) % 4:Nat):Int) (by omega) ?_ (by unfold MV.stp;rw [if_neg h4,if_neg h8]) (by unfold MV.nx;rw [if_neg h4,if_neg h8]) (.inr ⟨by omega,?_⟩)
   ·rw [hm3];exact hm.2
   ·rw [Zj (by omega) (by omega),show ((i:Int) - 8)=((i - 8:Nat):Int) by omega,g_quo,g_rem,Yca (by omega),Ycb (by omega),
     show (((i - 8:Nat):Int) / 4)=(((i - 8) / 4:Nat):Int) by omega,show (((i - 8:Nat):Int) % 4)=(((i - 8) % 4:Nat):Int) by omega,Zfo (by omega) (by omega)]
end
def nwC (a b c:Cell) (m bm:Int) (l:Nat->Lcl) (t:Nat):List Cell :=
 [a,b,c,.int .i64 m]++(((if 0<t then (l 0).cs else Lcl.zero.cs)++((if 1<t then (l 1).cs else Lcl.zero.cs)++((if 2<t then (l 2).cs else Lcl.zero.cs)++(if 3<t then (l 3).cs else Lcl.zero.cs)))) ++
  (Ya 4 (.int .i64 0)++(([if 0<t then .int .i64 (-1) else .int .i64 0,if 1<t then .int .i64 (-1) else .int .i64 0,if 2<t then .int .i64 (-1) else .int .i64 0,if 3<t then .int .i64 (-1) else .int .i64 0]:List Cell) ++
   (((if 0<t then Zaj bm [] else Zaj 0 [])++((if 1<t then Zaj bm [] else Zaj 0 [])++((if 2<t then Zaj bm [] else Zaj 0 [])++(if 3<t then Zaj bm [] else Zaj 0 []))))++[.nils]))))
theorem nw_0 (a b c:Cell) (m bm:Int) (l:Nat->Lcl):splice (splice ([Cell.nils,Cell.nils,Cell.nils]++Ya 325 ci0++[Cell.nils]) 0 [a,b,c]) 3 [(.int .i64 m)]=nwC a b c m bm l 0:=by kernel_rfl
theorem nw_next (a b c:Cell) (m bm:Int) (l:Nat->Lcl):∀t,t<4->(splice (splice (nwC a b c m bm l t) ((0+4)+t*5) (l t).cs) ((0+32)+t*74) (Zaj bm [])).set ((0+28)+t*1) (.int .i64 (-1))=nwC a b c m bm l (t+1)
 | 0,_=>by kernel_rfl
 | 1,_=>by kernel_rfl
 | 2,_=>by kernel_rfl
 | 3,_=>by kernel_rfl
 | t+4,h=>by omega
theorem nw_len (a b c:Cell) (m bm:Int) (l:Nat->Lcl):∀t,t<=4->(nwC a b c m bm l t).length=329
 | 0,_=>by kernel_rfl
 | 1,_=>by kernel_rfl
 | 2,_=>by kernel_rfl
 | 3,_=>by kernel_rfl
 | 4,_=>by kernel_rfl
 | t+5,h=>by omega
theorem nw_pc (a b c:Cell) (m bm:Int) (l:Nat->Lcl) (t:Nat):((nwC a b c m bm l t).drop (0+0)).take 3=[a,b,c]:=by
 rw [Ycw,Ycn];rfl
theorem nw_z:([Cell.nils,Cell.nils,Cell.nils]++Ya 325 ci0++[Cell.nils]).length=329:=by kernel_rfl
theorem Zdu {l xs:List Cell} {n:Nat} (h:n+xs.length<=l.length):(splice l n xs).length=l.length:=by
 unfold splice
 rw [Yb,Yb,Yp,Yv];omega
def MV.new (P:PProg) (m:Int):MV :=
 ⟨P,m,[Zak P 0,Zak P 1,Zak P 2,Zak P 3],P.init++Ya (4 - P.init.length) 0,[-1,-1,-1,-1],[[],[],[],[]],[]⟩
theorem nw_end (a b c:Cell) (P:PProg) (m:Int):nwC a b c m (Zbf m) (fun t=>Zak P t) 4=vmC [a,b,c] { MV.new P m with mem:=[0,0,0,0] } .nils:=by kernel_rfl
theorem MV.new_fit {P:PProg} {m:Int} (hm:1<=m/\m<=3) (hi:P.init.length<=4):(MV.new P m).Fit :=
 ⟨hm,rfl,by show (P.init++Ya (4 - P.init.length) 0).length=4;rw [Yb,Ybm];omega,rfl,rfl,fun l hl=>by
  simp [MV.new] at hl;subst hl;simp⟩
attribute [local irreducible] nwC vmC Zaj
section
variable {E:Env}
theorem new_cnt (hE:q171_In E) {h8:Za} {a b c:Cell} {pc:List Cell} {P:PProg} (p8:ProgAt h8 [a,b,c] P) (hfits:P.fits) {m:Int} :
  Zq (q171_F1 (R E) Zq E.glob) (q171_s1 m h8.length 329 0 ((0:Nat):Int) pc (h8++[some ⟨true,0,nwC a b c m (Zbf m) (fun t=>Zak P t) 0⟩]))=some (.exit 0,q171_x1_1 h8.length 329 0 pc (h8++[some ⟨true,0,nwC a b c m (Zbf m) (fun t=>Zak P t) 4⟩])):=by
 have b8:∀l:List Cell,blk? (h8++[some ⟨true,0,l⟩]) h8.length=some ⟨true,0,l⟩:=fun l=>Zw _ _
 have p9:∀q,ProgAt (h8++[some q]) [a,b,c] P:=fun q=>p8.keep (Kp.app _ (Yf _))
 have rd:∀(l:List Cell) {α:Type} {F:List Cell->Option α},l.length=329->Zp (h8++[some ⟨true,0,l⟩]) h8.length 329 F=F l:=fun l α F hl=>Zy (b8 l) hl
 have put:∀(l cs:List Cell) {α:Type} {F:Za->Option α},Zbe (h8++[some ⟨true,0,l⟩]) h8.length cs F=F (h8++[some ⟨true,0,cs⟩]):=fun l cs α F=>by rw [Zfx (b8 l),setBlk_last]
 refine Zax (F:=q171_F1 (R E) Zq E.glob) (fun t=>q171_s1 m h8.length 329 0 (t:Int) pc (h8++[some ⟨true,0,nwC a b c m (Zbf m) (fun t=>Zak P t) t⟩])) 0 4 (by omega) (fun t _ ht=>?_) (Zm ?_)
 ·have hl:=nw_len a b c m (Zbf m) (fun t=>Zak P t) t (by omega)
  have hnx:=nw_next a b c m (Zbf m) (fun t=>Zak P t) t ht
  have hr:0<=(t:Int)/\(t:Int)<((4:Nat):Int):=⟨by omega,by omega⟩
  have hpcs:=nw_pc a b c m (Zbf m) (fun t=>Zak P t) t
  have hb0:(Zaj (Zbf m) []).length=74:=Zcp _ (by simp)
  generalize nwC a b c m (Zbf m) (fun t=>Zak P t) t=l0 at *
  generalize nwC a b c m (Zbf m) (fun t=>Zak P t) (t+1)=l9 at *
  have hl1:(splice l0 ((0+4)+t*5) (Zak P t).cs).length=329:=by
   rw [Zdu (by rw [hl,Lcl.len];omega),hl]
  have hl2:(splice (splice l0 ((0+4)+t*5) (Zak P t).cs) ((0+32)+t*74) (Zaj (Zbf m) [])).length=329:=by
   rw [Zdu (by rw [hl1,hb0];omega),hl1]
  rw [q171_r1,if_pos (by simp;omega),rd _ hl,if_pos (by rw [hl];omega),hpcs,PStart_R hE.c94 hfits (p9 _),qh_ok,c1_ok,asA_ok,if_pos hr,rd _ hl,Ye,if_pos ⟨by rw [hl];omega,rfl⟩,put,bufNew_R hE.c190,qh_ok,c1_ok,asA_ok,if_pos hr]
  rw [show (if m=2∨m=3 then m else 0)=Zbf m from rfl,rd _ hl1,if_pos ⟨by rw [hl1];omega,hb0⟩,put,if_pos hr,rd _ hl2,if_pos (by rw [hl2];omega),put,Zo (by omega),hnx]
 ·rw [q171_r1,if_neg (by simp)]
theorem new_mem {a b c:Cell} {P:PProg} {m:Int} (f0:MV.Fit { MV.new P m with mem:=[0,0,0,0] }) (hil:P.init.length<=4) :
  splice (vmC [a,b,c] { MV.new P m with mem:=[0,0,0,0] } .nils) 24 (intC .i64 P.init)=vmC [a,b,c] (MV.new P m) .nils:=by
 obtain ⟨A,B,eA,hA,eM⟩:=Zqc (pc:=[a,b,c]) (x:=.nils) f0 rfl
 have e1:vmC [a,b,c] (MV.new P m) .nils=A++(intC .i64 (MV.new P m).mem++B):=eM (MV.new P m).mem
 rw [eA,e1,show 24=A.length+0 by omega,splice_app]
 congr 1
 unfold splice
 rw [Yba,Yad,Yay,intC_len]
 show intC .i64 P.init++_=intC .i64 (P.init++Ya (4 - P.init.length) 0)++B
 rw [show intC .i64 (P.init++Ya (4 - P.init.length) 0)=intC .i64 P.init++Ya (4 - P.init.length) (.int .i64 0) by simp [intC],Yg]
 congr 1
 rw [Yax (by rw [intC_len];exact hil)]
 congr 1
 show (Ya 4 ci0).drop _=_
 rw [Ybv]
theorem new_loop (hE:q171_In E) {h8:Za} {a b c:Cell} {pc:List Cell} {P:PProg} (p8:ProgAt h8 [a,b,c] P) (hfits:P.fits) {m:Int} (z:List Cell) (hz:z=nwC a b c m (Zbf m) (fun t=>Zak P t) 0) :
  Zq (q171_F1 (R E) Zq E.glob) (q171_s1 m h8.length (AV.cells (.agg z)).length 0 0 pc (h8++[some (Blk.mk true 0 (AV.cells (.agg z)))]))=some (.exit 0,q171_x1_1 h8.length 329 0 pc (h8++[some ⟨true,0,vmC [a,b,c] { MV.new P m with mem:=[0,0,0,0] } .nils⟩])):=by
 have h1:AV.cells (.agg z)=z:=rfl
 rw [h1,hz,nw_len _ _ _ _ _ _ _ (by omega),←nw_end]
 exact new_cnt hE p8 hfits
theorem VNew_S (hE:q171_In E) {h:Za} {pc:List Cell} {P:PProg} (p:ProgAt h pc P) (hsm:P.small) (hu:∀x∈P.locs,0<=x/\x<256) (hll:P.locs.length<=1000) (hil:P.init.length<=4) {m:Int} (hm:1<=m/\m<=3) (hpok:Zue P=true) :
  ∃n k pc' h',R E 171 [.agg pc,.c (.int .i64 m)] h=some ([.c (.ptr k 329 0),.c (.int .i64 0)],h')/\VmAt n h' k .nils pc' (MV.new P m)/\h.length<=n/\Kp h.length h h'/\ProgO h.length (h'.take n) pc' P/\k<h'.length:=by
 obtain ⟨pc',h8,r8,po8,k8⟩:=copied_S hE.c189 p hsm hll (by omega)
 have p8:=po8.at
 obtain ⟨a,b,c,ts,he,_⟩:=id p8
 subst he
 have hfits:=hsm.fits
 have f0:MV.Fit { MV.new P m with mem:=[0,0,0,0] }:=⟨hm,rfl,rfl,rfl,rfl,fun l hl=>by simp [MV.new] at hl;subst hl;simp⟩
 have hpc:([a,b,c]:List Cell).length=3:=rfl
 have b8:∀l:List Cell,blk? (h8++[some ⟨true,0,l⟩]) h8.length=some ⟨true,0,l⟩:=fun l=>Zw _ _
 have cnt:=new_loop hE (pc:=pc) p8 hfits _ (nw_0 a b c m (Zbf m) (fun t=>Zak P t))
 obtain ⟨bi,hbi,hbl,hbg⟩:=p.initG
 have hl0:=Zbq (x:=.nils) f0 hpc
 have hsp:=new_mem (a:=a) (b:=b) (c:=c) f0 hil
 generalize vmC [a,b,c] { MV.new P m with mem:=[0,0,0,0] } .nils=l0 at *
 have hci:=Zyn (hbi.keep hbl (k8.trans (Kp.app [some ⟨true,0,l0⟩] k8.1)))
 refine ⟨h8.length,h8.length,[a,b,c],h8++[some ⟨true,0,vmC [a,b,c] (MV.new P m) .nils⟩],Zd hE.fn ?_,⟨by simp,Yf _,?_,b8 _,Own.nil _ _ _,fun h=>h⟩,k8.1,k8.trans (Kp.app _ k8.1),by rw [Yae (Yf _),Ybc];exact po8,by simp⟩
 ·rw [q171_eq,scK_or,show (decide (m<1)||decide (m > 3))=false by simp;omega,scK_ok,if_pos (by exact ⟨rfl,p.len⟩),progOk_R hE.c188 p hsm hu hll,c1_ok,asB_ok,hpok,bind_ok]
  dsimp only
  rw [if_neg (by simp),if_pos (by exact ⟨rfl,p.len⟩),r8,c1_ok,asA_ok,if_pos (by exact ⟨rfl,by rw [nw_z];omega⟩),if_pos (by exact ⟨rfl,by rw [Zdu (by rw [nw_z];simp),nw_z];omega⟩),cnt,bind_ok]
  dsimp only
  rw [q171_e1_1]
  have hsl:∀{α:Type} (F:Cell->Option α),Zcl (h8++[some ⟨true,0,l0⟩]) 4 1 false false (.ptr h8.length 329 (0+24)) [] F=F (.sl h8.length 329 24 4):=fun F=>by
   unfold Zcl Zho Zay
   simp only
   rw [b8]
   simp only
   rw [if_pos (by rw [hl0];simp)]
  rw [hsl,hbg]
  unfold Zgf
  rw [hci,bind_ok]
  dsimp only
  rw [b8,bind_ok]
  dsimp only
  rw [if_pos ⟨rfl,hl0,by omega⟩,intC_len,Nat.div_one,Yaw hil,Nat.mul_one,Yx (by rw [intC_len];exact Yf _),hsp,setBlk_last]
 ·rw [Yae (Yf _),Ybc];exact p8
theorem VNew_R (hE:q171_In E) {h:Za} {pc:List Cell} {P:PProg} (p:ProgAt h pc P) (hsm:P.small) (hu:∀x∈P.locs,0<=x/\x<256) (hll:P.locs.length<=1000) (hil:P.init.length<=4) {m:Int} (hm:1<=m/\m<=3) (hpok:Zue P=true) :
  ∃n k pc' h',R E 171 [.agg pc,.c (.int .i64 m)] h=some ([.c (.ptr k 329 0),.c (.int .i64 0)],h')/\VmAt n h' k .nils pc' (MV.new P m)/\h.length<=n/\Kp h.length h h':=by
 obtain ⟨n,k,pc',h',r1,r2,r3,r4,_⟩:=VNew_S hE p hsm hu hll hil hm hpok
 exact ⟨n,k,pc',h',r1,r2,r3,r4⟩
end
theorem Zcw {α:Type} {l:List α} {i:Nat} (hi:i<l.length) (y d:α) (j:Nat):(l.set i y).getD j d=if j=i then y else l.getD j d:=by
 rw [Yl,Yl,List.getElem?_set]
 by_cases h:i=j
 ·subst h;rw [if_pos rfl,if_pos hi,if_pos rfl];rfl
 ·rw [if_neg h,if_neg (fun e=>h e.symm)]
theorem Ziu (P:PProg) (t:Int):0<=(Zak P t).pc:=by
 unfold Zak Zrq
 exact Zws (code:=P.code t) _ Lcl.zero
theorem MV.new_inv {P:PProg} {m:Int} (hm:1<=m/\m<=3) (hs:P.small) (hf:∀c∈P.thr,∀i∈c,fldB (Zfz P) i=true) (hl:P.locs.length<=4) (hi:P.init.length<=4) (hc:∀c∈P.thr,c.length<=10):(MV.new P m).Inv:=by
 refine ⟨MV.new_fit hm hi,hs,hf,hl,hc,fun b hb e he=>?_,fun t ht=>?_⟩
 ·simp [MV.new] at hb;subst hb;simp at he
 ·match t with
  | 0=>exact Ziu P 0
  | 1=>exact Ziu P 1
  | 2=>exact Ziu P 2
  | 3=>exact Ziu P 3
  | t+4=>omega
theorem MV.wr_lc (V:MV) (t:Nat) (e:Evt):(V.wr t e).lc=V.lc/\(V.wr t e).P=V.P/\(V.wr t e).m=V.m:=by
 unfold MV.wr;split<;>(try split)<;>exact ⟨rfl,rfl,rfl⟩
theorem MV.wr_bf (V:MV) (t:Nat) (e:Evt):(V.wr t e).bf=if e.kind=2/\V.m≠1 then V.bf.set t (V.b t++[⟨e.loc,e.w,V.st.length⟩]) else V.bf:=by
 unfold MV.wr;split
 ·rfl
 ·split<;>rfl
theorem MV.rows_of {W:MV} (h4:W.bf.length=4) {p:List Ent->Prop} (h:∀t,t<4->p (W.b t)):∀b∈W.bf,p b:=by
 intro b hb
 obtain ⟨t,ht,rfl⟩:=Yak.1 hb
 have:=h t (by omega)
 unfold MV.b at this
 rw [Yl,Yc ht] at this
 exact this
theorem MV.may_thr {V:MV} {i:Nat} (hi:i<4) (h:V.may i=true):V.nxt i=some (V.thrI i):=by
 unfold MV.may at h
 rw [if_pos hi] at h
 unfold MV.mayT at h
 unfold MV.thrI
 cases hq:V.nxt i with
 | none=>rw [hq] at h;cases h
 | some q=>rfl
section nx
variable {V:MV} (v:V.Inv)
include v
theorem MV.Inv.thrL {i:Nat} (hi:i<4) (q:Ins) (t:Nat):(V.thrM i q).l t=if t=i then Zbi (V.P.code i) (V.l i) (V.val i q).1 else V.l t:=by
 show (V.lc.set i _).getD t Lcl.zero=_
 rw [Zcw (by rw [v.fit.lc];exact hi)]
 rfl
theorem MV.Inv.thrB {i:Nat} (hi:i<4) (q:Ins) (t:Nat):(V.thrM i q).b t=if t=i/\(evOf q (V.l i) (V.val i q).1).kind=2/\V.m≠1 then V.b i++[⟨(evOf q (V.l i) (V.val i q).1).loc,(evOf q (V.l i) (V.val i q).1).w,V.st.length⟩] else V.b t:=by
 show (V.wr i _).bf.getD t []=_
 rw [V.wr_bf]
 split
 ·rename_i h
  rw [Zcw (by rw [v.fit.bf];exact hi)]
  by_cases ht:t=i
  ·rw [if_pos ht,if_pos ⟨ht,h⟩]
  ·rw [if_neg ht,if_neg (fun q=>ht q.1)];rfl
 ·rename_i h
  rw [if_neg (fun q=>h q.2)];rfl
theorem MV.Inv.fluB {i:Nat} (hi:i<4) (loc:Int) (t:Nat):(V.fluM i loc).b t=if t=i then (V.b i).eraseP (Zch (Zbf V.m) loc) else V.b t:=by
 show (V.bf.set i _).getD t []=_
 rw [Zcw (by rw [v.fit.bf];exact hi)]
 rfl
theorem MV.Inv.mem_b {t:Nat} {e:Ent} (he:e∈V.b t):0<=e.loc/\e.loc<4:=by
 by_cases ht:t<V.bf.length
 ·exact v.ents _ (Yj (MV.b_at ht)) e he
 ·unfold MV.b at he
  rw [Yl,Yt (by omega)] at he
  simp at he
theorem MV.Inv.thr {i:Nat} (hi:i<4) {q:Ins} (hq:V.nxt i=some q):(V.thrM i q).Inv:=by
 obtain ⟨q1,q2,q3,q4,q5⟩:=v.nxt hq
 have hb:=v.thrB hi q
 have hl:=v.thrL hi q
 have hpc:(V.l i).pc+1<=(Zbi (V.P.code i) (V.l i) (V.val i q).1).pc:=Zq726 hq _
 have hev:=Zhx (l:=V.l i) (v:=(V.val i q).1) q1
 obtain ⟨w1,w2,w3⟩:=V.wr_lc i (evOf q (V.l i) (V.val i q).1)
 have f:=v.fit
 have e0:(V.thrM i q).bf.length=4:=by
  show (V.wr i _).bf.length=4
  rw [V.wr_bf];split
  ·rw [Yk];exact f.bf
  ·exact f.bf
 have blen:∀t,t<4->((V.thrM i q).b t).length<=24:=fun t ht=>by
  rw [hb]
  split
  ·have:=v.pcs i hi
   rw [Yb,Yq];omega
  ·exact v.blen ht
 have hmm:(V.thrM i q).m=V.m:=w3
 have hPP:(V.thrM i q).P=V.P:=w2
 refine ⟨⟨by rw [hmm];exact f.m,by show (V.lc.set _ _).length=4;rw [Yk];exact f.lc,?_,?_,e0,MV.rows_of e0 blen⟩,by rw [hPP];exact v.small,by rw [hPP];exact v.fld,by rw [hPP];exact v.locs,by rw [hPP];exact v.c10,MV.rows_of e0 fun t ht e he=>?_,fun t ht=>?_⟩
 ·show (V.wr i _).mem.length=4
  unfold MV.wr;split
  ·exact f.mem
  ·split
   ·rw [Yk];exact f.mem
   ·exact f.mem
 ·show (V.wr i _).frm.length=4
  unfold MV.wr;split
  ·exact f.frm
  ·split
   ·rw [Yk];exact f.frm
   ·exact f.frm
 ·rw [hb] at he
  split at he
  ·rcases Yab.1 he with he | he
   ·exact v.mem_b he
   ·rw [Ys] at he;subst he;exact hev
  ·exact v.mem_b he
 ·rw [hb,hl]
  by_cases h:t=i
  ·subst h
   rw [if_pos rfl]
   have:=v.pcs t ht
   split
   ·rw [Yb,Yq];omega
   ·omega
  ·rw [if_neg h,if_neg (fun q=>h q.1)]
   exact v.pcs t ht
theorem MV.Inv.flu {i:Nat} (hi:i<4) (loc:Int):(V.fluM i loc).Inv:=by
 have hb:=v.fluB hi loc
 have f:=v.fit
 have e0:(V.fluM i loc).bf.length=4:=by show (V.bf.set _ _).length=4;rw [Yk];exact f.bf
 refine ⟨⟨f.m,f.lc,by show (V.mem.set _ _).length=4;rw [Yk];exact f.mem,by show (V.frm.set _ _).length=4;rw [Yk];exact f.frm,e0,MV.rows_of e0 fun t ht=>?_⟩,v.small,v.fld,v.locs,v.c10,MV.rows_of e0 fun t ht e he=>?_,fun t ht=>?_⟩
 ·rw [hb];split
  ·exact Yy Ybn (v.blen hi)
  ·exact v.blen ht
 ·rw [hb] at he
  split at he
  ·exact v.mem_b (Ycm he)
  ·exact v.mem_b he
 ·rw [hb]
  show _<=(V.l t).pc
  split
  ·rename_i h
   subst h
   have:=v.pcs t ht
   have h2:=Ybn (p:=Zch (Zbf V.m) loc) (l:=V.b t)
   omega
  ·exact v.pcs t ht
theorem MV.Inv.st {s:List Stp}:MV.Inv { V with st:=s }:=⟨⟨v.fit.m,v.fit.lc,v.fit.mem,v.fit.frm,v.fit.bf,v.fit.b⟩,v.small,v.fld,v.locs,v.c10,v.ents,v.pcs⟩
theorem MV.Inv.nx {i:Nat} (h:V.may i=true):(V.nx i).Inv:=by
 have hi:=MV.may_lt h
 unfold MV.nx
 split
 ·rename_i h4
  exact (v.thr h4 (MV.may_thr h4 h)).st
 ·split
  ·exact (v.flu (by omega) _).st
  ·exact (v.flu (by omega) _).st
end nx
theorem MV.nx_st (V:MV) (i:Nat):(V.nx i).st=V.st++[V.stp i]:=rfl
theorem MV.nx_P (V:MV) (i:Nat):(V.nx i).P=V.P/\(V.nx i).m=V.m:=by
 unfold MV.nx
 split
 ·exact ⟨(V.wr_lc _ _).2.1,(V.wr_lc _ _).2.2⟩
 ·split<;>exact ⟨rfl,rfl⟩
theorem SlAt.cellsG {h:Za} {x:Cell} {esz:Nat} {cs:List Cell} {len:Nat} (s:SlAt h x esz cs len):Zaq h esz x=some cs:=by
 have hl:=s.1
 rcases s.2 with ⟨rfl,rfl⟩ | ⟨k,N,off,rfl,hb⟩
 ·have:cs=[]:=Ym.1 (by omega)
  rw [this];rfl
 ·unfold Zaq
  dsimp only
  by_cases h0:len=0
  ·have:cs=[]:=Ym.1 (by rw [h0] at hl;omega)
   rw [if_pos h0,this]
  ·rw [if_neg h0]
   rcases hb with hb | ⟨b,hb,hN,hle,hat⟩
   ·exact absurd hb h0
   ·rw [hb]
    simp only
    rw [if_pos ⟨hN,hle⟩]
    congr 1
    refine Yap fun j=>?_
    rw [Yz,Ybf]
    by_cases hj:j<len*esz
    ·rw [if_pos hj,hat j hj]
    ·rw [if_neg hj,Yt (by omega)]
theorem Zjn {α:Type} {h:Za} {esz bytes len:Nat} {cs:List Cell} (he:0<esz) (hlen:cs.length=len*esz) (h1:len*bytes<=maxBytes) (h2:len<=maxBytes) (f:Cell->Za->Option α) :
  Zao esz bytes (.sl h.length 0 0 0) cs (h++[some ⟨true,esz,[]⟩]) f=f (.sl h.length cs.length 0 len) (h++[some ⟨true,esz,cs⟩]):=by
 unfold Zao
 simp only
 rw [Zw,Yal]
 dsimp only
 have hd:cs.length / esz=len:=by rw [hlen];exact Ycy _ he
 rw [if_pos ⟨rfl,rfl,rfl,by simp,by rw [hd];simp;omega,by rw [hd];simp;omega⟩,hd]
 by_cases h0:len=0
 ·have:cs=[]:=Ym.1 (by rw [hlen,h0];omega)
  subst this
  rw [if_pos (by simp),setBlk_last,h0]
  simp [splice]
 ·have hpos:0<cs.length:=by rw [hlen];exact Nat.mul_pos (by omega) he
  rw [if_neg (by omega),if_pos trivial,setBlk_last]
  simp
section
variable {E:Env}
theorem Done_R (hE:q174_In E) {h:Za} {k:Nat} {x:Cell} {pc:List Cell} {V:MV} (hb:blk? h k=some ⟨true,0,vmC pc V x⟩) (f:V.Fit) (p:ProgAt h pc V.P) :
  R E 174 [.c (.ptr k 329 0)] h=some ([.c (.bool (V.word==0))],h):=by
 refine Zd hE.fn ?_
 rw [q174_eq,Zmm hE.c172 hb f p,c1_ok,asI_ok]
 have:(((V.word:Nat):Int)==0)=(V.word==0):=by rw [Yah,beq_iff_eq,beq_iff_eq];omega
 rw [this]
theorem CloneS_R (hE:q195_In E) {x:Cell} {l:List Stp} {h:Za} (hx:SlAt h x 7 (Zai l) l.length) (hlow:Low h.length x) (hl:l.length<=100000) :
  ∃x' h',R E 195 [.c x] h=some ([.c x'],h')/\Own h.length h' x' 7 (Zai l) l.length/\Kp h.length h h':=by
 have hm:maxBytes>=100000*56:=by unfold maxBytes;omega
 have hlen:=Zqh l
 have hx0:=hx
 rcases hx.2 with ⟨rfl,h0⟩ | ⟨k,N,off,rfl,hb⟩
 ·refine ⟨.nils,h,Zd hE.fn ?_,⟨hlen,.inl ⟨rfl,h0⟩⟩,Kp.refl _ _⟩
  rw [q195_eq];rfl
 ·have hk1:Kp h.length h (h++[some ⟨true,7,[]⟩]):=Kp.app _ (Yf _)
  have hc:=(hx0.keep hlow hk1).cellsG
  refine ⟨.sl h.length (Zai l).length 0 l.length,h++[some ⟨true,7,Zai l⟩],Zd hE.fn ?_,⟨hlen,.inr ⟨h.length,rfl,Yf _,Zw _ _⟩⟩,Kp.app _ (Yf _)⟩
  rw [q195_eq,show ∀{α:Type} (f:Bool->Option α),Zcu false (.sl k N off l.length) .nils f=f false from fun _=>rfl,if_neg (by simp),if_pos (show ([]:List Cell).length=0*7 from rfl),hc,bind_ok,show ([]:List Cell).length=0 from rfl,Zjn (by omega) hlen (by omega) (by omega)]
theorem Steps_R (hE:q175_In E) {n k:Nat} {h:Za} {x:Cell} {pc:List Cell} {V:MV} (a:VmAt n h k x pc V) (f:V.Fit) (hst:V.st.length<=100000) :
  ∃y h',R E 175 [.c (.ptr k 329 0)] h=some ([.c y],h')/\Own h.length h' y 7 (Zai V.st) V.st.length/\Kp h.length h h':=by
 obtain ⟨y,h',r,o,kk⟩:=CloneS_R hE.c195 a.st.at a.st.low hst
 refine ⟨y,h',Zd hE.fn ?_,o,kk⟩
 rw [q175_eq,Zy a.blk (Zbq f a.prog.len),Zhw f a.prog.len,r,c1_ok,asC_ok]
end








section
variable {E:Env}
end




section
variable {E:Env}
end
theorem Zq751 (S:Nat->Bool) (n:Nat):(locsF S n).Pairwise (·<·):=by
 unfold locsF
 refine List.Pairwise.map _ (fun a b (hab:a<b)=>?_) (List.Pairwise.filter _ List.pairwise_lt_range)
 omega
theorem locs_ok (S:Nat->Bool):(Yaf (locsF S 26).length).any (atB (locsF S 26) (Zjl (locsF S 26)))=false:=by
 have hp:=Zq751 S 26
 have hm:∀x∈locsF S 26,97<=x/\x<=122:=fun x h=>by
  obtain ⟨c,h1,_,rfl⟩:=Zmo.1 h
  omega
 generalize locsF S 26=l at *
 rw [Yac]
 intro i hi
 rw [Ybx] at hi
 rw [Zxv (Yc hi)]
 have h1:=hm _ (Ydg hi)
 have h2:0<i->l.getD (i - 1) 0<l[i]:=fun h0=>by
  rw [Yl,Yc (by omega)]
  exact Ybe.1 hp (i - 1) i (by omega) hi (by omega)
 unfold Zjl locB
 rw [decide_eq_true h1.1,decide_eq_true h1.2]
 by_cases h0:0<i
 ·have:=h2 h0
  rw [decide_eq_false (p:=l[i]<=_) (by omega)];simp
 ·rw [decide_eq_false (p:=(i:Int) > 0) (by omega)];simp
theorem Zrr {c:Nat}:∀l:List (List Ins),(∀x∈l,x.length<=c)->(l.map Ydc).sum<=l.length*c
 | [],_=>by simp
 | x :: l,h=>by
  have:=Zrr l fun y hy=>h y (Ybp _ hy)
  have h1:=h x Yby
  rw [List.map_cons,List.sum_cons,Yo,Nat.succ_mul];omega
theorem opdOk.opB {o:Opd} (h:opdOk o):opB o=true:=by
 unfold Jq.opB Zsj
 rcases h with ⟨h1,_⟩ | ⟨h1 | h1,h2⟩<;>rw [h1]<;>simp [*]
theorem SmI.fld {L:Int} {T:PTest} {i:Ins} (s:SmI L i) (hin:i.loc≠0->i.loc∈Zbd T):fldB (Zfz (Zdm T)) (Zcz (Zbd T) i)=true:=by
 have hl:i.loc≠0->Zcz (Zbd T) i={ i with loc:=plc (Zbd T) i.loc 0 }/\Zfz (Zdm T) (plc (Zbd T) i.loc 0)=true:=fun h=>by
  refine ⟨by unfold Zcz;rw [if_pos h],?_⟩
  obtain ⟨j,hj,hg⟩:=Zzd (Zbd T) 0 (hin h)
  have:=Zf hg
  rw [hj]
  unfold Zfz
  rw [show (Zdm T).locs=Zbd T from rfl,decide_eq_true (by omega),decide_eq_true (by omega)];rfl
 rcases s with ⟨h1,h2,h3,h4,h5,h6,h7⟩ | ⟨h1,h2,h3,h4,h5,h6,h7⟩ | rfl | ⟨h1,h2,h3,h4,h5,h6,h7⟩ | ⟨h1,h2,h3,h4,h5,h6,h7⟩ | ⟨h1,h2,h3,h4,h5,h6,h7⟩
 ·obtain ⟨e,hh⟩:=hl (by omega)
  rw [e]
  unfold fldB
  dsimp only
  rw [if_pos h1,hh,h4.opB,h1,h2,h5,h6,h7]
  simp [Ins.cs]
 ·obtain ⟨e,hh⟩:=hl (by omega)
  rw [e]
  unfold fldB Zsj
  dsimp only
  rw [if_neg (by omega),if_pos h1,hh,h1,h4,h5,h6,h7,decide_eq_true (by omega),decide_eq_true (by omega)]
  simp [Ins.cs]
 ·rfl
 ·obtain ⟨e,hh⟩:=hl (by omega)
  rw [e]
  unfold fldB Zsj
  dsimp only
  rw [if_neg (by omega),if_neg (by omega),if_neg (by omega),if_pos h1,hh,h4.opB,h1,h5,h6,h7,decide_eq_true (by omega),decide_eq_true (by omega)]
  simp [Ins.cs,opB]
 ·have e:Zcz (Zbd T) i=i:=by unfold Zcz;rw [if_neg (by omega)]
  rw [e]
  unfold fldB Zsj
  rw [if_neg (by omega),if_neg (by omega),if_neg (by omega),if_neg (by omega),if_pos h1,h4.opB,h1,h5,h6,decide_eq_true (by omega),decide_eq_true (by omega)]
  simp [Ins.cs,opB,h1,h3,h5,h6,h7]
 ·have e:Zcz (Zbd T) i=i:=by unfold Zcz;rw [if_neg (by omega)]
  rw [e]
  unfold fldB
  rw [if_neg (by omega),if_neg (by omega),if_neg (by omega),if_neg (by omega),if_neg (by omega),if_pos h1,h4.opB,h1,h6,h7]
  simp [Ins.cs,opB,h1,h2,h3,h5,h6,h7]
theorem Zq737 {T:PTest} {c:List Ins} (hc:c∈T.thr) {i:Ins} (hi:i∈c) (hl:97<=i.loc/\i.loc<=122):i.loc∈Zbd T:=by
 unfold Zbd
 refine Zmo.2 ⟨(i.loc - 97).toNat,by omega,?_,by omega⟩
 unfold Zdg
 rw [Ybr,Ybr]
 refine .inl (.inr (Ycg.2 ⟨c,hc,Ycg.2 ⟨i,hi,?_⟩⟩))
 rw [beq_iff_eq];omega
theorem SkipOk.jmp {c:List Ins} (s:SkipOk c) (h1:∀i∈c,i.kind=6->i.n=1):jmpB c=true:=by
 unfold jmpB
 rw [Yde]
 intro k hk
 cases hq:c[k]? with
 | none=>rfl
 | some i =>
  dsimp only
  by_cases h6:i.kind=6
  ·have a:=s k i hq h6
   have b:=h1 i (Yj hq) h6
   rw [decide_eq_false (p:=i.n<1) (by omega),decide_eq_false (p:=i.n > _) (by omega)];simp
  ·rw [beq_false_of_ne h6];rfl
structure RunP (P:PProg):Prop where
 pok:Zue P=true
 fld:∀c∈P.thr,∀i∈c,fldB (Zfz P) i=true
theorem GoodT.run {most:Nat} {T:PTest} (g:GoodT most T):RunP (Zdm T):=by
 have gp:=g.goodP
 obtain ⟨L,hL,hc⟩:=g.code
 have hf:∀c∈(Zdm T).thr,∀i∈c,fldB (Zfz (Zdm T)) i=true:=fun c hcm i hi=>by
  obtain ⟨d,hd,rfl⟩:=Yas.1 hcm
  obtain ⟨j,hj,rfl⟩:=Yas.1 hi
  obtain ⟨k,hk,ht⟩:=hc d hd
  have:=ht.all j hj
  refine this.fld fun h0=>Zq737 hd hj ?_
  have:=this.loc;omega
 refine ⟨?_,hf⟩
 have hgn:=gp.n
 have hgl:=gp.locs
 have hgi:=gp.init
 have hsum:=Zrr (c:=6) (Zdm T).thr gp.code
 have hs:Zkz (Zdm T)=false:=by
  unfold Zkz Zls
  rw [beq_false_of_ne (by omega),decide_eq_false (p:=((Zdm T).thr.length:Int) > 4) (by omega),decide_eq_false (p:=((Zdm T).locs.length:Int) > 4) (by omega),decide_eq_false (p:=_ > (24:Int)) (by omega),show (((Zdm T).init.length:Int) != ((Zdm T).locs.length:Int))=false by simp [hgl]]
  rfl
 unfold Zue
 rw [if_neg (by rw [hs];simp),if_neg (by rw [show (Zdm T).locs=locsF (Zdg T) 26 from rfl,locs_ok];simp),Ycz,Yac]
 intro c hcm
 have hj:jmpB c=true:=(gp.skip c hcm).jmp fun i hi h6=>by
  obtain ⟨d,hd,rfl⟩:=Yas.1 hcm
  obtain ⟨j,hj,rfl⟩:=Yas.1 hi
  obtain ⟨k,hk,ht⟩:=hc d hd
  rw [Zla.1] at h6
  rw [Zla.2]
  exact (ht.all j hj).skip h6
 have hcl:=gp.code c hcm
 unfold Zpe
 rw [hj,decide_eq_false (by omega),show (c.any fun i=>!fldB (Zfz (Zdm T)) i)=false by
  rw [Yac];intro i hi;rw [hf c hcm i hi];simp]
 simp
section
variable {E:Env}
theorem OfO_R (hE:q76_In E) {h:Za} {x:Cell} {l:List Int} (hx:SlAt h x 1 (intC .i64 l) l.length) (hlow:Low h.length x) (hl:l.length<9223372036854775808) {most:Nat} (hmost:most<=900) :
  ∃(cs:List Cell) (h':Za) (P:PProg),R E 76 [.c x,.c (.int .i64 (most:Int))] h=some ([.agg cs],h')/\ProgOwn h.length h' cs P/\GoodP most P/\RunP P/\(∀x∈P.locs,0<=x/\x<256)/\Kp h.length h h':=by
 obtain ⟨cs,h1,T,s1,s2,s3,s4⟩:=Small_R hE.c97 hx hlow hl hmost
 obtain ⟨cs2,h2,t1,t2,t3⟩:=Zte hE.c101 s2 s3.small
 refine ⟨cs2,h2,Zdm T,Zd hE.fn ?_,by obtain ⟨m,a,b,y,e1,e2,e3⟩:=t2;exact ⟨m,a,b,y,e1,Yy s4.1 e2,e3⟩,s3.goodP,s3.run,fun x hx=>by have:=Zto (T:=T) hx;omega,s4.trans (t3.mono s4.1)⟩
 rw [q76_eq,s1,c1_ok,asA_ok,t1,c1_ok,asA_ok,if_pos ⟨rfl,rfl,t2.at.len⟩,if_pos ⟨rfl,t2.at.len⟩]
theorem OfP_R (hE:q76_In E) {h:Za} {x:Cell} {l:List Int} (hx:SlAt h x 1 (intC .i64 l) l.length) (hlow:Low h.length x) (hl:l.length<9223372036854775808) {most:Nat} (hmost:most<=900) :
  ∃(cs:List Cell) (h':Za) (P:PProg),R E 76 [.c x,.c (.int .i64 (most:Int))] h=some ([.agg cs],h')/\ProgAt h' cs P/\GoodP most P/\RunP P/\(∀x∈P.locs,0<=x/\x<256)/\Kp h.length h h':=by
 obtain ⟨cs,h',P,r1,r2,r3⟩:=OfO_R hE hx hlow hl hmost
 exact ⟨cs,h',P,r1,r2.at,r3⟩
end
theorem Zfh {n:Nat} {h h':Za} (hk:Kp n h h'):h'.take n=h.take n:=by
 refine Yap fun j=>?_
 rw [Yz,Yz]
 split
 ·exact hk.2 j (by assumption)
 ·rfl
theorem VmAt.keep {n:Nat} {h h':Za} {k:Nat} {x:Cell} {pc:List Cell} {V:MV} (a:VmAt n h k x pc V) (hk:Kp h.length h h'):VmAt n h' k x pc V :=
 ⟨Yy a.hn hk.1,a.nk,by rw [Zfh (hk.mono a.hn)];exact a.prog,by rw [hk.blk (Zan a.blk)];exact a.blk,a.st.keepK hk,a.sep⟩
theorem GoodP.inv {most:Nat} {P:PProg} (g:GoodP most P) (r:RunP P) {m:Int} (hm:1<=m/\m<=3):(MV.new P m).Inv :=
 MV.new_inv hm g.small r.fld (by have:=g.locs;have:=g.init;omega) (by have:=g.init;omega) (fun c hc=>by have:=g.code c hc;omega)
theorem bits_may {V:MV} {j i:Nat} (h:(Zbu V.word)[j]? = some i):V.may i=true:=by
 have:=(mem_bitsL.1 (Yj h)).2
 rwa [MV.word_bit] at this
section
variable {E:Env}
theorem ptr_nil {α:Type} {k:Nat} {f:Bool->Option α}:Zcu false (.ptr k 329 0) .nilp f=f false:=rfl
end
def MV.cnt (V:MV) (q:Nat):Int :=
 if V.m=2/\4<=q/\q<8 then ((V.b (q - 4)).length:Int)
 else if V.m=3/\8<=q/\q<24 then ((V.b ((q - 8) / 4)).countP (Zch 3 (((q - 8) % 4:Nat):Int)):Int) else 0
theorem Zwz (i:Ins) (l:Lcl) (v:Int):1<=(evOf i l v).kind/\(evOf i l v).kind<=5:=by
 unfold evOf
 split
 ·exact ⟨by dsimp only;omega,by dsimp only;omega⟩
 ·split
  ·exact ⟨by dsimp only;omega,by dsimp only;omega⟩
  ·split
   ·split<;>exact ⟨by dsimp only;omega,by dsimp only;omega⟩
   ·exact ⟨by dsimp only;omega,by dsimp only;omega⟩
theorem Ztw (P:PProg) (m:Int) (t:Nat):(MV.new P m).b t=[]:=by
 unfold MV.b MV.new
 match t with
 | 0=>rfl
 | 1=>rfl
 | 2=>rfl
 | 3=>rfl
 | t+4=>rfl
section
variable {E:Env}
end
section
variable {E:Env}
end
section
variable {E:Env}
end
section
variable {E:Env}
end

section
variable {E:Env}
end
section
variable {E:Env}
end
section
variable {E:Env}
end
def Zgz (m:Int) (s:Stp):Bool:=s.kind==2&&m != 1
def MV.skips (V:MV):Prop:=∀c∈V.P.thr,SkipOk c
theorem MV.may_flu {V:MV} {i:Nat} (h4:¬i<4) (hi:V.may i=true):∃(t:Nat) (loc:Int) (e:Ent),t<4/\(V.b t).find? (Zch (Zbf V.m) loc)=some e/\V.stp i=⟨i,t,6,e.loc,0,e.val,e.id⟩/\(V.m≠1) /\
  (V.nx i)={ V with bf:=V.bf.set t ((V.b t).eraseP (Zch (Zbf V.m) loc)),mem:=V.mem.set e.loc.toNat e.val,frm:=V.frm.set e.loc.toNat e.id,st:=V.st++[V.stp i] }:=by
 have h24:=MV.may_lt hi
 have key:∀(t:Nat) (loc:Int) (e:Ent),(V.b t).find? (Zch (Zbf V.m) loc)=some e->V.stp i={ V.fluS t loc with pick:=i }->V.nx i={ V.fluM t loc with st:=V.st++[V.stp i] } ->
   V.stp i=⟨i,t,6,e.loc,0,e.val,e.id⟩/\(V.nx i)={ V with bf:=V.bf.set t ((V.b t).eraseP (Zch (Zbf V.m) loc)),mem:=V.mem.set e.loc.toNat e.val,frm:=V.frm.set e.loc.toNat e.id,st:=V.st++[V.stp i] }:=by
  intro t loc e he e1 e2
  have hee:V.fluE t loc=e:=by unfold MV.fluE;rw [he];rfl
  refine ⟨?_,?_⟩
  ·rw [e1];unfold MV.fluS;rw [hee]
  ·rw [e2];unfold MV.fluM;rw [hee]
 by_cases h8:i<8
 ·have hi':=hi
  unfold MV.may MV.mayF at hi'
  rw [if_neg h4,if_pos h8,Yn] at hi'
  have hm2:V.m=2:=beq_iff_eq.1 hi'.1
  have hne:(V.b (i - 4)).length≠0:=by simpa using hi'.2
  obtain ⟨e,he⟩:∃e,(V.b (i - 4)).find? (Zch (Zbf V.m) 0)=some e:=by
   rw [hm2]
   cases hbb:V.b (i - 4) with
   | nil=>rw [hbb] at hne;exact absurd rfl hne
   | cons e l=>exact ⟨e,rfl⟩
  obtain ⟨k1,k2⟩:=key (i - 4) 0 e he (by unfold MV.stp;rw [if_neg h4,if_pos h8]) (by unfold MV.nx;rw [if_neg h4,if_pos h8])
  exact ⟨i - 4,0,e,by omega,he,k1,by omega,k2⟩
 ·have hi':=hi
  unfold MV.may MV.mayL at hi'
  rw [if_neg h4,if_neg h8,if_pos h24,Yn] at hi'
  have hm3:V.m=3:=beq_iff_eq.1 hi'.1
  obtain ⟨e,he⟩:=Ych.1 hi'.2
  have he':(V.b ((i - 8) / 4)).find? (Zch (Zbf V.m) (((i - 8) % 4:Nat):Int))=some e:=by rw [hm3];exact he
  obtain ⟨k1,k2⟩:=key ((i - 8) / 4) _ e he' (by unfold MV.stp;rw [if_neg h4,if_neg h8]) (by unfold MV.nx;rw [if_neg h4,if_neg h8])
  exact ⟨(i - 8) / 4,_,e,by omega,he',k1,by omega,k2⟩
theorem g_rem3 {E:Env} (a:Int):0<=E.glob.rem .i64 (E.glob.band .i64 a 255) 3/\E.glob.rem .i64 (E.glob.band .i64 a 255) 3<3:=by
 refine Zdt ?_ (by omega)
 rw [g_band255];omega
theorem Zq739 {V:MV}:(Zbu V.word).length=0↔V.word=0:=by
 rw [Ym]
 exact Zq744 V.word_lt
section
variable {E:Env}
end
structure ThrStep (V:MV) (i:Nat) (s:Stp):Prop where
 t:s.t=(i:Int)
 kind:1<=s.kind/\s.kind<=5
 loc:0<=s.loc/\s.loc<4
 free:s.kind=3∨s.kind=4∨s.kind=5->V.b i=[]
 read:s.kind=1∨s.kind=4∨s.kind=5->s.r=(match Zcj s.loc (V.b i) with | some e=>e.val | none=>V.mem.getD s.loc.toNat 0)/\s.frm=(match Zcj s.loc (V.b i) with | some e=>e.id | none=>V.frm.getD s.loc.toNat 0)
 b:∀t,(V.nx i).b t=if t=i/\Zgz V.m s=true then V.b i++[⟨s.loc,s.w,V.st.length⟩] else V.b t
 mem:∀c,(V.nx i).mem.getD c 0=if (s.kind=4∨(s.kind=2/\V.m=1))/\c=s.loc.toNat then s.w else V.mem.getD c 0
 frm:∀c,(V.nx i).frm.getD c 0=if (s.kind=4∨(s.kind=2/\V.m=1))/\c=s.loc.toNat then (V.st.length:Int) else V.frm.getD c 0
theorem Zfv (q:Ins) (l:Lcl) (v:Int) (hk:1<=q.kind/\q.kind<=4):((evOf q l v).kind=3↔q.kind=3)/\(((evOf q l v).kind=4∨(evOf q l v).kind=5)↔q.kind=4)/\((evOf q l v).kind=1↔q.kind=2)/\((evOf q l v).kind=1∨(evOf q l v).kind=4∨(evOf q l v).kind=5->(evOf q l v).r=v/\(evOf q l v).loc=q.loc/\rdI q=true):=by
 unfold evOf
 by_cases h1:q.kind=1
 ·rw [if_pos h1];dsimp only;refine ⟨by omega,by omega,by omega,fun h=>by omega⟩
 ·rw [if_neg h1]
  by_cases h2:q.kind=2
  ·rw [if_pos h2];dsimp only;exact ⟨by omega,by omega,by omega,fun _=>⟨rfl,rfl,by unfold rdI;exact decide_eq_true (.inl h2)⟩⟩
  ·rw [if_neg h2]
   by_cases h4:q.kind=4
   ·rw [if_pos h4]
    have hr:rdI q=true:=by unfold rdI;exact decide_eq_true (.inr h4)
    split<;>exact ⟨by dsimp only;omega,by dsimp only;omega,by dsimp only;omega,fun _=>⟨rfl,rfl,hr⟩⟩
   ·rw [if_neg h4];dsimp only;exact ⟨by omega,by omega,by omega,fun h=>by omega⟩
theorem MV.Inv.thr_step {V:MV} (v:V.Inv) {i:Nat} (h4:i<4) (hi:V.may i=true):ThrStep V i (V.stp i):=by
 have f:=v.fit
 have hq:=MV.may_thr h4 hi
 have hS:V.stp i={ V.thrS i (V.thrI i) with pick:=i }:=by unfold MV.stp;rw [if_pos h4]
 have hN:V.nx i={ V.thrM i (V.thrI i) with st:=V.st++[V.stp i] }:=by unfold MV.nx;rw [if_pos h4]
 have hB:=v.thrB h4 (V.thrI i)
 generalize hqq:V.thrI i=q at *
 obtain ⟨q1,q2,q3,q4,q5⟩:=v.nxt hq
 have hfree:q.kind=3∨q.kind=4->V.b i=[]:=fun h=>by
  unfold MV.may MV.mayT at hi
  rw [if_pos h4,hq] at hi
  dsimp only at hi
  have:(q.kind==3||q.kind==4)=true:=by rw [Ybr,beq_iff_eq,beq_iff_eq];exact h
  rw [this] at hi
  simpa using hi
 obtain ⟨e1,e2,e3,e4⟩:=Zfv q (V.l i) (V.val i q).1 q2
 have hev:=Zhx (l:=V.l i) (v:=(V.val i q).1) q1
 have hkk:=Zwz q (V.l i) (V.val i q).1
 generalize hee:evOf q (V.l i) (V.val i q).1=e at *
 have eS:V.stp i=⟨i,i,e.kind,e.loc,e.r,e.w,if rdI q=true then (V.val i q).2 else -1⟩:=by
  rw [hS];unfold MV.thrS;rw [hee]
 have hW:∀W:MV,W=V.wr i e->∀c,W.mem.getD c 0=(if (e.kind=4∨(e.kind=2/\V.m=1))/\c=e.loc.toNat then e.w else V.mem.getD c 0)/\W.frm.getD c 0=(if (e.kind=4∨(e.kind=2/\V.m=1))/\c=e.loc.toNat then (V.st.length:Int) else V.frm.getD c 0):=by
  rintro W rfl c
  unfold MV.wr
  by_cases h2:e.kind=2/\V.m≠1
  ·rw [if_pos h2,if_neg (fun q=>by omega),if_neg (fun q=>by omega)]
   exact ⟨rfl,rfl⟩
  ·rw [if_neg h2]
   by_cases hw:Zpw e=true
   ·have hw':e.kind=2∨e.kind=4:=by unfold Zpw at hw;simpa using hw
    rw [if_pos hw]
    dsimp only
    rw [Zcw (by rw [f.mem];omega),Zcw (by rw [f.frm];omega)]
    by_cases hc:c=e.loc.toNat
    ·rw [if_pos hc,if_pos hc,if_pos ⟨by omega,hc⟩,if_pos ⟨by omega,hc⟩];exact ⟨rfl,rfl⟩
    ·rw [if_neg hc,if_neg hc,if_neg (fun q=>hc q.2),if_neg (fun q=>hc q.2)];exact ⟨rfl,rfl⟩
   ·have hw':¬(e.kind=2∨e.kind=4):=by unfold Zpw at hw;simpa using hw
    rw [if_neg hw,if_neg (fun q=>by omega),if_neg (fun q=>by omega)]
    exact ⟨rfl,rfl⟩
 refine ⟨by rw [eS],by rw [eS];exact hkk,by rw [eS];exact hev,fun h=>?_,fun h=>?_,fun t=>?_,fun c=>?_,fun c=>?_⟩
 ·rw [eS] at h
  dsimp only at h
  refine hfree ?_
  rcases h with h | h
  ·exact .inl (e1.1 h)
  ·exact .inr (e2.1 h)
 ·rw [eS] at h ⊢
  dsimp only at h ⊢
  obtain ⟨k1,k2,k3⟩:=e4 h
  rw [k3,if_pos rfl,k1,k2]
  unfold MV.val
  cases Zcj q.loc (V.b i)<;>exact ⟨rfl,rfl⟩
 ·rw [hN]
  show (V.thrM i q).b t=_
  rw [hB,eS]
  have hiff:Zgz V.m ⟨i,i,e.kind,e.loc,e.r,e.w,if rdI q=true then (V.val i q).2 else -1⟩=true↔(e.kind=2/\V.m≠1):=by
   unfold Zgz
   rw [Yn,beq_iff_eq,bne_iff_ne]
  by_cases hc:t=i/\e.kind=2/\V.m≠1
  ·rw [if_pos hc,if_pos ⟨hc.1,hiff.2 hc.2⟩]
  ·rw [if_neg hc,if_neg (fun q=>hc ⟨q.1,hiff.1 q.2⟩)]
 ·rw [hN,eS]
  show (V.thrM i q).mem.getD c 0=_
  unfold MV.thrM
  rw [hee]
  exact (hW (V.wr i e) rfl c).1
 ·rw [hN,eS]
  show (V.thrM i q).frm.getD c 0=_
  unfold MV.thrM
  rw [hee]
  exact (hW (V.wr i e) rfl c).2
structure FluStep (V:MV) (i:Nat) (s:Stp) (t:Nat) (p:Ent->Bool) (e:Ent):Prop where
 t4:t<4
 s:s=⟨i,t,6,e.loc,0,e.val,e.id⟩
 f:(V.b t).find? p=some e
 pe:∀x,p x=(decide (V.m=2)||x.loc==e.loc)
 m:V.m=2∨V.m=3
 b:∀t',(V.nx i).b t'=if t'=t then (V.b t).eraseP p else V.b t'
 mem:∀c,(V.nx i).mem.getD c 0=if c=e.loc.toNat then e.val else V.mem.getD c 0
 frm:∀c,(V.nx i).frm.getD c 0=if c=e.loc.toNat then e.id else V.frm.getD c 0
theorem MV.Inv.flu_step {V:MV} (v:V.Inv) {i:Nat} (h4:¬i<4) (hi:V.may i=true):∃t p e,FluStep V i (V.stp i) t p e:=by
 obtain ⟨t,loc,e,ht,hf,hs,hm1,hnx⟩:=MV.may_flu h4 hi
 have f:=v.fit
 have hm:=f.m
 have he:=v.mem_b (Yw hf)
 have hpe:=Ybq hf
 refine ⟨t,Zch (Zbf V.m) loc,e,ht,hs,hf,fun x=>?_,by omega,fun t'=>?_,fun c=>?_,fun c=>?_⟩
 ·rcases (show V.m=2∨V.m=3 by omega) with h | h
  ·rw [h];rfl
  ·rw [h] at hpe ⊢
   have hl:e.loc=loc:=by
    unfold Zch Zbf at hpe
    simpa using hpe
   rw [hl];rfl
 ·rw [hnx]
  show (V.bf.set t _).getD t' []=_
  rw [Zcw (by rw [f.bf];exact ht)];rfl
 ·rw [hnx]
  show (V.mem.set _ _).getD c 0=_
  rw [Zcw (by rw [f.mem];omega)]
 ·rw [hnx]
  show (V.frm.set _ _).getD c 0=_
  rw [Zcw (by rw [f.frm];omega)]
structure Hist (V:MV):Prop where
 ids:∀t,(V.b t).Pairwise fun a b=>a.id<b.id
 ent:∀t,∀e∈V.b t,∃k:Nat,e.id=(k:Int)/\∃s,V.st[k]? = some s/\s.kind=2/\s.t=(t:Int)/\s.loc=e.loc/\s.w=e.val/\∀(j:Nat) (u:Stp),V.st[j]? = some u->u.kind=6->u.frm≠e.id
 sto:∀(k:Nat) (s:Stp),V.st[k]? = some s->Zgz V.m s=true->(∃t:Nat,s.t=(t:Int)/\∃e∈V.b t,e.id=(k:Int))∨∃(j:Nat) (u:Stp),k<j/\V.st[j]? = some u/\u.kind=6/\u.frm=(k:Int)
 flu:∀(j:Nat) (u:Stp),V.st[j]? = some u->u.kind=6->0<=u.t/\∀t:Nat,u.t=(t:Int)->∀e∈V.b t,(V.m=3->e.loc=u.loc)->u.frm<e.id
 b4:∀t,4<=t->V.b t=[]
 own:V.m=1->∀t,V.b t=[]
 len:∀(k:Nat) (s:Stp),V.st[k]? = some s->s.kind=6->∃f:Nat,s.frm=(f:Int)/\f<k
theorem Zui {l:List Ent} {p:Ent->Bool} {e:Ent} (he:l.find? p=some e):∃j,l.findIdx? p=some j/\l[j]? = some e/\l.eraseP p=l.take j++l.drop (j+1):=by
 obtain ⟨j,hj⟩:∃j,l.findIdx? p=some j:=by
  cases hx:l.findIdx? p with
  | some j=>exact ⟨j,rfl⟩
  | none =>
   rw [Yai] at hx
   have:=hx e (Yw he)
   rw [Ybq he] at this;cases this
 obtain ⟨h1,h2,h3⟩:=Yr.1 hj
 have hfi:l.find? p=some l[j]:=by
  rw [Yav]
  exact ⟨h2,j,h1,rfl,fun k hk=>by have:=h3 k hk;simpa using this⟩
 rw [hfi] at he
 refine ⟨j,hj,by rw [Yc h1];exact he,?_⟩
 rw [Ybh,hj]
 exact Yat _ _
theorem Zr {α:Type} {l:List α} {x:α} {k:Nat} {s:α} (h:(l++[x])[k]? = some s):(k<l.length/\l[k]? = some s)∨(k=l.length/\s=x):=by
 rcases Yan k l.length with hk | hk
 ·rw [Yi hk] at h;exact .inl ⟨hk,h⟩
 ·rw [Yh hk] at h
  have:k - l.length=0:=by
   rcases Nat.eq_zero_or_pos (k - l.length) with q | q
   ·exact q
   ·rw [Yt (by simp;omega)] at h;cases h
  rw [this] at h
  simp at h
  exact .inr ⟨by omega,h.symm⟩
theorem Zbb {α:Type} {l:List α} {x:α} {k:Nat} {s:α} (h:l[k]? = some s):(l++[x])[k]? = some s:=by
 rw [Yi (Zf h)];exact h
theorem getI_new {α:Type} {l:List α} {x:α}:(l++[x])[l.length]? = some x:=by simp
theorem Hist.new (P:PProg) (m:Int):Hist (MV.new P m):=by
 have hs:∀(k:Nat) (s:Stp),(MV.new P m).st[k]? = some s->False:=fun k s h=>by
  have:(MV.new P m).st=[]:=rfl
  rw [this] at h;simp at h
 refine ⟨fun t=>by rw [Ztw];exact List.Pairwise.nil,fun t e he=>by rw [Ztw] at he;simp at he,fun k s h=>(hs k s h).elim,fun k s h=>(hs k s h).elim,fun t _=>Ztw P m t,fun _ t=>Ztw P m t,fun k s h=>(hs k s h).elim⟩
theorem MV.Inv.hist_nx {V:MV} (v:V.Inv) (H:Hist V) {i:Nat} (hi:V.may i=true):Hist (V.nx i):=by
 have hmm:(V.nx i).m=V.m:=(V.nx_P i).2
 have hst:(V.nx i).st=V.st++[V.stp i]:=V.nx_st i
 have elt:∀t,∀e∈V.b t,e.id<V.st.length:=fun t e he=>by
  obtain ⟨k,hk,s,hs,_⟩:=H.ent t e he
  have:=Zf hs;omega
 by_cases h4:i<4
 ·have T:=v.thr_step h4 hi
  generalize V.stp i=s at *
  have hk6:s.kind≠6:=by have:=T.kind;omega
  have hmem:∀t e,e∈(V.nx i).b t->e∈V.b t∨(t=i/\Zgz V.m s=true/\e=⟨s.loc,s.w,V.st.length⟩):=fun t e he=>by
   rw [T.b] at he
   split at he
   ·rename_i hc
    rcases Yab.1 he with h | h
    ·exact .inl (hc.1 ▸ h)
    ·exact .inr ⟨hc.1,hc.2,Ys.1 h⟩
   ·exact .inl he
  have hsub:∀t e,e∈V.b t->e∈(V.nx i).b t:=fun t e he=>by
   rw [T.b]
   split
   ·rename_i hc;exact Ybs _ (hc.1 ▸ he)
   ·exact he
  refine ⟨fun t=>?_,fun t e he=>?_,fun k u hu hs=>?_,fun j u hu h6=>?_,fun t ht=>?_,fun hm t=>?_,fun k u hu h6=>?_⟩
  ·rw [T.b]
   split
   ·rw [Ybt]
    refine ⟨H.ids i,by simp,fun a ha b hb=>?_⟩
    rw [Ys] at hb
    subst hb
    exact elt i a ha
   ·exact H.ids t
  ·rw [hst]
   rcases hmem t e he with h | ⟨h1,h2,h3⟩
   ·obtain ⟨k,hk,u,hu,h1,h2,h3,h4',h5⟩:=H.ent t e h
    refine ⟨k,hk,u,Zbb hu,h1,h2,h3,h4',fun j w hw h6=>?_⟩
    rcases Zr hw with ⟨_,hw⟩ | ⟨_,rfl⟩
    ·exact h5 j w hw h6
    ·exact absurd h6 hk6
   ·subst h3
    have h2':=h2
    unfold Zgz at h2'
    rw [Yn,beq_iff_eq] at h2'
    refine ⟨V.st.length,rfl,s,getI_new,h2'.1,by rw [T.t,h1],rfl,rfl,fun j w hw h6=>?_⟩
    rcases Zr hw with ⟨hl,hw⟩ | ⟨_,rfl⟩
    ·obtain ⟨f,hf,hfl⟩:=H.len j w hw h6
     dsimp only;omega
    ·exact absurd h6 hk6
  ·rw [hst] at hu
   rw [hmm] at hs
   rcases Zr hu with ⟨hl,hu⟩ | ⟨hl,rfl⟩
   ·rcases H.sto k u hu hs with ⟨t,h1,e,he,h2⟩ | ⟨j,w,h1,h2,h3⟩
    ·exact .inl ⟨t,h1,e,hsub t e he,h2⟩
    ·exact .inr ⟨j,w,h1,by rw [hst];exact Zbb h2,h3⟩
   ·refine .inl ⟨i,T.t,⟨u.loc,u.w,V.st.length⟩,?_,by rw [hl]⟩
    rw [T.b,if_pos ⟨rfl,hs⟩]
    exact Yco _ (Ys.2 rfl)
  ·rw [hst] at hu
   rcases Zr hu with ⟨hl,hu⟩ | ⟨hl,rfl⟩
   ·obtain ⟨a1,a2⟩:=H.flu j u hu h6
    refine ⟨a1,fun t ht e he hloc=>?_⟩
    rw [hmm] at hloc
    rcases hmem t e he with h | ⟨_,_,h3⟩
    ·exact a2 t ht e h hloc
    ·obtain ⟨f,hf,hfl⟩:=H.len j u hu h6
     subst h3
     dsimp only;omega
   ·exact absurd h6 hk6
  ·rw [T.b,if_neg (fun c=>by omega)];exact H.b4 t ht
  ·rw [hmm] at hm
   have hns:¬(t=i/\Zgz V.m s=true):=fun c=>by
    have:=c.2
    rw [hm] at this
    simp [Zgz] at this
   rw [T.b,if_neg hns];exact H.own hm t
  ·rw [hst] at hu
   rcases Zr hu with ⟨hl,hu⟩ | ⟨hl,rfl⟩
   ·exact H.len k u hu h6
   ·exact absurd h6 hk6
 ·obtain ⟨t0,p,e0,F⟩:=v.flu_step h4 hi
  have he0:=Yw F.f
  have hs0:=F.s
  have hsub:∀t e,e∈(V.nx i).b t->e∈V.b t:=fun t e he=>by
   rw [F.b] at he
   split at he
   ·rename_i hc;rw [hc];exact Ycm he
   ·exact he
  obtain ⟨j0,hj0,hje,her⟩:=Zui F.f
  have hout:∀e∈(V.nx i).b t0,e.id≠e0.id:=fun e he=>by
   rw [F.b,if_pos rfl,her] at he
   have pw:=H.ids t0
   rw [Ybe] at pw
   rcases Yab.1 he with h | h
   ·obtain ⟨a,ha,rfl⟩:=Yak.1 h
    rw [Yp] at ha
    rw [Yda]
    have hjl:=Zf hje
    have:=pw a j0 (by omega) hjl (by omega)
    rw [Yc hjl] at hje
    cases hje
    omega
   ·obtain ⟨a,ha,rfl⟩:=Yak.1 h
    rw [Yv] at ha
    rw [Ydb]
    have hjl:=Zf hje
    have:=pw j0 (j0+1+a) hjl (by omega) (by omega)
    rw [Yc hjl] at hje
    cases hje
    omega
  refine ⟨fun t=>?_,fun t e he=>?_,fun k u hu hs=>?_,fun j u hu h6=>?_,fun t ht=>?_,fun hm t=>?_,fun k u hu h6=>?_⟩
  ·rw [F.b]
   split
   ·exact List.Pairwise.sublist List.eraseP_sublist (H.ids t0)
   ·exact H.ids t
  ·rw [hst]
   obtain ⟨k,hk,u,hu,h1,h2,h3,h4',h5⟩:=H.ent t e (hsub t e he)
   refine ⟨k,hk,u,Zbb hu,h1,h2,h3,h4',fun j w hw h6=>?_⟩
   rcases Zr hw with ⟨_,hw⟩ | ⟨_,hw⟩
   ·exact h5 j w hw h6
   ·rw [hw,hs0]
    dsimp only
    intro q
    by_cases htt:t=t0
    ·subst htt;exact hout e he q.symm
    ·obtain ⟨k',hk',u',hu',_,h2',_⟩:=H.ent t0 e0 he0
     have:k'=k:=by omega
     subst this
     rw [hu] at hu'
     cases hu'
     omega
  ·rw [hst] at hu
   rw [hmm] at hs
   rcases Zr hu with ⟨hl,hu⟩ | ⟨hl,hu⟩
   ·rcases H.sto k u hu hs with ⟨t,h1,e,he,h2⟩ | ⟨j,w,h1,h2,h3⟩
    ·by_cases hee:e.id=e0.id
     ·refine .inr ⟨V.st.length,V.stp i,Zf hu,by rw [hst];exact getI_new,by rw [hs0],by rw [hs0];dsimp only;omega⟩
     ·refine .inl ⟨t,h1,e,?_,h2⟩
      rw [F.b]
      split
      ·rename_i hc
       rw [her]
       rw [hc,←Ybb j0 (V.b t0)] at he
       rcases Yab.1 he with h | h
       ·exact Ybs _ h
       ·have hd:(V.b t0).drop j0=e0 :: (V.b t0).drop (j0+1):=by
         have hjl:=Zf hje
         rw [Yc hjl] at hje
         cases hje
         exact (Ycl (h:=hjl)).symm
        rw [hd] at h
        rcases Ycs.1 h with rfl | h
        ·exact absurd rfl hee
        ·exact Yco _ h
      ·exact he
    ·exact .inr ⟨j,w,h1,by rw [hst];exact Zbb h2,h3⟩
   ·rw [hu,hs0] at hs
    simp [Zgz] at hs
  ·rw [hst] at hu
   rcases Zr hu with ⟨hl,hu⟩ | ⟨hl,hu⟩
   ·obtain ⟨a1,a2⟩:=H.flu j u hu h6
    exact ⟨a1,fun t ht e he hloc=>a2 t ht e (hsub t e he) (by rw [hmm] at hloc;exact hloc)⟩
   ·subst hu
    rw [hs0]
    dsimp only
    refine ⟨by omega,fun t ht e he hloc=>?_⟩
    have htt:t=t0:=by omega
    subst htt
    rw [hmm] at hloc
    have hne:=hout e he
    have he':=he
    rw [F.b,if_pos rfl,her] at he'
    have pw:=H.ids t
    rw [Ybe] at pw
    have hjl:=Zf hje
    rw [Yc hjl] at hje
    cases hje
    rcases Yab.1 he' with h | h
    ·-- ahead of it: one that would have come first
     exfalso
     obtain ⟨a,ha,hae⟩:=Yak.1 h
     rw [Yp] at ha
     rw [Yda] at hae
     obtain ⟨_,_,h3⟩:=Yr.1 hj0
     have hpf:=h3 a (by omega)
     rw [hae] at hpf
     rw [F.pe e] at hpf
     rcases F.m with hm | hm
     ·rw [decide_eq_true hm] at hpf;simp at hpf
     ·rw [hloc hm] at hpf;simp at hpf
    ·obtain ⟨a,ha,hae⟩:=Yak.1 h
     rw [Yv] at ha
     rw [Ydb] at hae
     have:=pw j0 (j0+1+a) hjl (by omega) (by omega)
     rw [hae] at this
     exact this
  ·rw [F.b,if_neg (fun c=>by have:=F.t4;omega)];exact H.b4 t ht
  ·rw [hmm] at hm
   have:=F.m;omega
  ·rw [hst] at hu
   rcases Zr hu with ⟨hl,hu⟩ | ⟨hl,hu⟩
   ·exact H.len k u hu h6
   ·obtain ⟨k',hk',u',hu',_⟩:=H.ent t0 e0 he0
    refine ⟨k',by rw [hu,hs0];exact hk',by have:=Zf hu';omega⟩
def inOrd (m:Int) (a b:Stp):Prop:=a.kind=6->b.kind=6->a.t=b.t->(m=3->a.loc=b.loc)->a.frm<b.frm
def Zxy (l:List Stp) (k:Nat) (s:Stp):Prop:=∀(j:Nat) (u:Stp),j<k->l[j]? = some u->u.t=s.t->u.kind=2->∃(w:Nat) (x:Stp),j<w/\w<k/\l[w]? = some x/\x.kind=6/\x.frm=(j:Int)
structure First (V:MV):Prop where
 hist:Hist V
 ord:V.st.Pairwise (inOrd V.m)
 dr:V.m≠1->∀(k:Nat) (s:Stp),V.st[k]? = some s->s.kind=3∨s.kind=4∨s.kind=5->Zxy V.st k s
theorem First.new (P:PProg) (m:Int):First (MV.new P m):=⟨Hist.new P m,List.Pairwise.nil,fun _ k s h=>by
 have:(MV.new P m).st=[]:=rfl
 rw [this] at h;simp at h⟩
theorem MV.Inv.first_nx {V:MV} (v:V.Inv) (F:First V) {i:Nat} (hi:V.may i=true):First (V.nx i):=by
 have H:=F.hist
 have hmm:(V.nx i).m=V.m:=(V.nx_P i).2
 have hst:(V.nx i).st=V.st++[V.stp i]:=V.nx_st i
 refine ⟨v.hist_nx H hi,?_,fun hm1 k s hs hk=>?_⟩
 ·rw [hst,hmm,Ybt]
  refine ⟨F.ord,by simp,fun a ha b hb=>?_⟩
  rw [Ys] at hb
  subst hb
  intro h1 h2 h3 h4
  obtain ⟨j,hj,rfl⟩:=Yak.1 ha
  by_cases hi4:i<4
  ·have:=(v.thr_step hi4 hi).kind;omega
  ·obtain ⟨t,p,e,G⟩:=v.flu_step hi4 hi
   have hs:=G.s
   rw [hs] at h3 h4 ⊢
   dsimp only at h3 h4 ⊢
   exact (H.flu j _ (Yc hj) h1).2 t h3 e (Yw G.f) fun q=>(h4 q).symm
 ·rw [hmm] at hm1
  rw [hst] at hs
  have old:∀(l:List Stp) (x:Stp),Zxy l k s->k<=l.length->Zxy (l++[x]) k s:=fun l x hd hk j u hj hu h1 h2=>by
   rcases Zr hu with ⟨_,hu⟩ | ⟨hl,_⟩
   ·obtain ⟨w,y,q1,q2,q3,q4⟩:=hd j u hj hu h1 h2
    exact ⟨w,y,q1,q2,Zbb q3,q4⟩
   ·omega
  rw [hst]
  rcases Zr hs with ⟨hl,hs2⟩ | ⟨hl,hs2⟩
  ·exact old _ _ (F.dr hm1 k s hs2 hk) (Yao hl)
  ·subst hl
   subst hs2
   refine old _ _ (fun j u hj hu h1 h2=>?_) (Yf _)
   by_cases hi4:i<4
   ·have T:=v.thr_step hi4 hi
    have hb:=T.free hk
    rcases H.sto j u hu (by unfold Zgz;rw [Yn,beq_iff_eq,bne_iff_ne];exact ⟨h2,hm1⟩) with ⟨t,q1,e,he,_⟩ | ⟨w,x,q1,q2,q3⟩
    ·exfalso
     have ht:=T.t
     have:t=i:=by omega
     rw [this,hb] at he
     simp at he
    ·exact ⟨w,x,q1,Zf q2,q2,q3⟩
   ·obtain ⟨t,p,e,G⟩:=v.flu_step hi4 hi
    have:=G.s
    rw [this] at hk
    simp at hk
def flB (l:List Stp) (j w:Nat):Bool:=match l[w]? with
 | some u=>u.kind==6&&u.frm==(j:Int)
 | none=>false
def wB (l:List Stp) (j k:Nat):Bool:=!((Yaf (k - (j+1))).any fun i=>flB l j (j+1+i))
theorem wB_false {l:List Stp} {j k w:Nat} {x:Stp} (h1:j<w) (h2:w<k) (hx:l[w]? = some x) (hk:x.kind=6) (hf:x.frm=(j:Int)):wB l j k=false:=by
 unfold wB
 rw [Bool.not_eq_false',Ycg]
 refine ⟨w - (j+1),Ybx.2 (by omega),?_⟩
 rw [show j+1+(w - (j+1))=w by omega]
 unfold flB
 rw [hx]
 dsimp only
 rw [hk,hf];simp
section
variable {E:Env}
end
def Zma (l:List Stp) (m c:Int):Nat->Int
 | 0=>-1
 | k+1=>match l[k]? with
  | some s=>if s.loc=c/\wrS s m=true then (if s.kind=6 then s.frm else (k:Int)) else Zma l m c k
  | none=>Zma l m c k
def Zqn (l:List Stp) (m t c:Int) (i:Nat) (k:Nat) (s:Stp):Bool:=s.t==t&&s.kind==2&&s.loc==c&&(m != 1&&wB l k i)
def Zow (l:List Stp) (m t c:Int) (i:Nat) (d:Int):Nat->Int
 | 0=>d
 | k+1=>match l[k]? with
  | some s=>if Zqn l m t c i k s=true then (k:Int) else Zow l m t c i d k
  | none=>Zow l m t c i d k
theorem flB_app {l:List Stp} {x:Stp} {j w:Nat} (h:w<l.length):flB (l++[x]) j w=flB l j w:=by
 unfold flB;rw [Yi h]
theorem wB_app {l:List Stp} {x:Stp} {j k:Nat} (h:k<=l.length):wB (l++[x]) j k=wB l j k:=by
 unfold wB
 congr 1
 have:∀(t:List Nat),(∀i∈t,j+1+i<l.length)->(t.any fun i=>flB (l++[x]) j (j+1+i))=t.any fun i=>flB l j (j+1+i):=fun t=>by
  induction t with
  | nil=>intro _;rfl
  | cons a t ih =>
   intro ha
   rw [Ybj,Ybj,flB_app (ha a Yby),ih fun i hi=>ha i (Ybp _ hi)]
 exact this _ fun i hi=>by rw [Ybx] at hi;omega
theorem Zpf {l:List Stp} {x:Stp} {m c:Int}:∀k,k<=l.length->Zma (l++[x]) m c k=Zma l m c k
 | 0,_=>rfl
 | k+1,h=>by
  unfold Zma
  rw [Yi (by omega),Zpf k (by omega)]
theorem Zwa {l:List Stp} {x:Stp} {m t c:Int} {i:Nat} {d:Int} (hi:i<=l.length):∀k,k<=l.length->Zow (l++[x]) m t c i d k=Zow l m t c i d k
 | 0,_=>rfl
 | k+1,h=>by
  unfold Zow Zqn
  rw [Yi (by omega),Zwa hi k (by omega),wB_app hi]
theorem Zmh {l:List Stp} {m t c:Int} {i:Nat} {d:Int}:∀n,(∀k s,k<n->l[k]? = some s->Zqn l m t c i k s=false)->Zow l m t c i d n=d
 | 0,_=>rfl
 | n+1,h=>by
  unfold Zow
  rw [Zmh n fun k s hk hs=>h k s (by omega) hs]
  cases hs:l[n]? with
  | none=>rfl
  | some s=>dsimp only;rw [h n s (by omega) hs];rfl
theorem Zrj {l:List Stp} {m t c:Int} {i:Nat} {d:Int} {K:Nat} {u:Stp} (hu:l[K]? = some u) (hp:Zqn l m t c i K u=true):∀n,K<n->(∀k s,K<k->k<n->l[k]? = some s->Zqn l m t c i k s=false)->Zow l m t c i d n=(K:Int)
 | 0,h,_=>by omega
 | n+1,hn,h=>by
  unfold Zow
  by_cases e:K=n
  ·subst e;rw [hu];dsimp only;rw [if_pos hp]
  ·rw [Zrj hu hp n (by omega) fun k s h1 h2 hs=>h k s h1 (by omega) hs]
   cases hs:l[n]? with
   | none=>rfl
   | some s=>dsimp only;rw [h n s (by omega) (by omega) hs];rfl
theorem snoc_ind {α:Type} {p:List α->Prop} (h0:p []) (hs:∀l a,p l->p (l++[a])):∀l,p l:=by
 intro l
 rw [←List.reverse_reverse l]
 induction l.reverse with
 | nil=>exact h0
 | cons a t ih=>rw [List.reverse_cons];exact hs _ _ ih
theorem Zwy (loc:Int) (l:List Ent) (e:Ent):Zcj loc (l++[e])=if e.loc=loc then some e else Zcj loc l:=by
 unfold Zcj
 rw [Ybu,Ybi,Yaz,Yci]
 by_cases h:e.loc=loc
 ·rw [if_pos h,h,beq_self_eq_true]
 ·rw [if_neg h,beq_false_of_ne h]
theorem Zfi (c:Int):∀l:List Ent,(l.Pairwise fun a b=>a.id<b.id)->match Zcj c l with
  | some e=>e∈l/\e.loc=c/\∀e'∈l,e'.loc=c->e'.id<=e.id
  | none=>∀e∈l,e.loc≠c:=by
 refine snoc_ind (fun _=>?_) fun l a ih hp=>?_
 ·show ∀e∈([]:List Ent),e.loc≠c
  simp
 ·rw [Ybt] at hp
  have ih:=ih hp.1
  rw [Zwy]
  by_cases h:a.loc=c
  ·rw [if_pos h]
   refine ⟨by simp,h,fun e' he' _=>?_⟩
   rcases Yab.1 he' with q | q
   ·exact Int.le_of_lt (hp.2.2 e' q a (by simp))
   ·rw [Ys] at q;rw [q];exact Int.le_refl _
  ·rw [if_neg h]
   cases hn:Zcj c l with
   | none =>
    rw [hn] at ih
    dsimp only at ih ⊢
    intro e he
    rcases Yab.1 he with q | q
    ·exact ih e q
    ·rw [Ys] at q;rw [q];exact h
   | some e0 =>
    rw [hn] at ih
    dsimp only at ih ⊢
    refine ⟨Ybs _ ih.1,ih.2.1,fun e' he' hc=>?_⟩
    rcases Yab.1 he' with q | q
    ·exact ih.2.2 e' q hc
    ·rw [Ys] at q;rw [q] at hc;exact absurd hc h
structure GoodRead (P:PProg) (m:Int) (L:List Stp) (i:Nat) (s:Stp):Prop where
 frm:s.frm=Zow L m s.t s.loc i (Zma L m s.loc i) i
 val:0<=s.frm->s.frm<i/\∃u,L[s.frm.toNat]? = some u/\u.w=s.r
 ini:s.frm<0->P.init.getD s.loc.toNat 0=s.r
 loc:0<=s.loc/\s.loc<P.init.length
theorem GoodRead.app {P:PProg} {m:Int} {L:List Stp} {i:Nat} {s x:Stp} (g:GoodRead P m L i s) (hi:i<=L.length):GoodRead P m (L++[x]) i s :=
 ⟨by rw [Zpf i hi,Zwa hi i hi];exact g.frm,fun h=>by obtain ⟨h1,u,h2,h3⟩:=g.val h;exact ⟨h1,u,Zbb h2,h3⟩,g.ini,g.loc⟩
structure Fwd (V:MV):Prop where
 hist:Hist V
 mf:∀c:Nat,c<4->V.frm.getD c 0=Zma V.st V.m (c:Int) V.st.length/\(0<=V.frm.getD c 0->V.frm.getD c 0<V.st.length/\∃s,V.st[(V.frm.getD c 0).toNat]? = some s/\s.w=V.mem.getD c 0)/\(V.frm.getD c 0<0->V.P.init.getD c 0=V.mem.getD c 0)
 rd:∀(i:Nat) (s:Stp),V.st[i]? = some s->s.kind=1∨s.kind=4∨s.kind=5->GoodRead V.P V.m V.st i s
theorem Fwd.new {P:PProg} {m:Int} (hi:P.init.length<=4):Fwd (MV.new P m):=by
 have hs:(MV.new P m).st=[]:=rfl
 refine ⟨Hist.new P m,fun c hc=>?_,fun i s h=>by rw [hs] at h;simp at h⟩
 have e1:(MV.new P m).frm.getD c 0 = -1:=by
  match c with
  | 0=>rfl
  | 1=>rfl
  | 2=>rfl
  | 3=>rfl
  | c+4=>omega
 rw [e1,hs]
 refine ⟨rfl,fun h=>by omega,fun _=>?_⟩
 show P.init.getD c 0=(P.init++Ya (4 - P.init.length) 0).getD c 0
 rw [Yl,Yl]
 rcases Yan c P.init.length with h | h
 ·rw [Yi h]
 ·rw [Yt h,Yh h,Ybg,if_pos (by omega)];rfl
theorem wB_true {l:List Stp} {j:Nat} (h:∀(w:Nat) (x:Stp),j<w->w<l.length->l[w]? = some x->x.kind=6->x.frm≠(j:Int)):wB l j l.length=true:=by
 unfold wB
 rw [Ycz,Yac]
 intro i hi
 rw [Ybx] at hi
 unfold flB
 cases hx:l[j+1+i]? with
 | none=>simp
 | some x =>
  dsimp only
  intro hc
  rw [Yn,beq_iff_eq,beq_iff_eq] at hc
  exact h (j+1+i) x (by omega) (by omega) hx hc.1 hc.2
theorem wB_no {l:List Stp} {j k:Nat} (h:wB l j k=true) {w:Nat} {x:Stp} (h1:j<w) (h2:w<k) (hx:l[w]? = some x) (hk:x.kind=6):x.frm≠(j:Int):=fun hf=>by
 rw [wB_false h1 h2 hx hk hf] at h;cases h
theorem Hist.pnd {V:MV} (H:Hist V) {t:Nat} {c:Int} (d:Int):Zow V.st V.m (t:Int) c V.st.length d V.st.length=match Zcj c (V.b t) with | some e=>e.id | none=>d:=by
 have hl:=Zfi c (V.b t) (H.ids t)
 by_cases hm:V.m=1
 ·rw [H.own hm t]
  show _=d
  refine Zmh _ fun k s _ _=>?_
  unfold Zqn
  rw [hm];simp
 have back:∀(k:Nat) (s:Stp),V.st[k]? = some s->Zqn V.st V.m (t:Int) c V.st.length k s=true->∃e∈V.b t,e.id=(k:Int)/\e.loc=c:=fun k s hs hp=>by
  unfold Zqn at hp
  rw [Yn,Yn,Yn,Yn,beq_iff_eq,beq_iff_eq,beq_iff_eq] at hp
  obtain ⟨⟨⟨p1,p2⟩,p3⟩,_,p4⟩:=hp
  rcases H.sto k s hs (by unfold Zgz;rw [Yn,beq_iff_eq,bne_iff_ne];exact ⟨p2,hm⟩) with ⟨t',q1,e,he,q2⟩ | ⟨j,u,q1,q2,q3,q4⟩
  ·have:t'=t:=by omega
   subst this
   obtain ⟨k',hk',s',hs',_,_,h5,_⟩:=H.ent t' e he
   have:k'=k:=by omega
   subst this
   rw [hs] at hs'
   cases hs'
   exact ⟨e,he,q2,by rw [←h5];exact p3⟩
  ·exact absurd q4 (wB_no p4 q1 (Zf q2) q2 q3)
 have forth:∀e∈V.b t,e.loc=c->∃(k:Nat) (s:Stp),e.id=(k:Int)/\V.st[k]? = some s/\Zqn V.st V.m (t:Int) c V.st.length k s=true:=fun e he hc=>by
  obtain ⟨k,hk,s,hs,h1,h2,h3,h4,h5⟩:=H.ent t e he
  refine ⟨k,s,hk,hs,?_⟩
  unfold Zqn
  rw [h1,h2,h3,hc,wB_true fun w x _ _ hx h6=>by rw [←hk];exact h5 w x hx h6]
  simp [hm]
 cases hn:Zcj c (V.b t) with
 | none =>
  rw [hn] at hl
  dsimp only at hl ⊢
  refine Zmh _ fun k s _ hs=>?_
  rw [←Ybl]
  intro hp
  obtain ⟨e,he,_,hc⟩:=back k s hs hp
  exact hl e he hc
 | some e =>
  rw [hn] at hl
  dsimp only at hl ⊢
  obtain ⟨h1,h2,h3⟩:=hl
  obtain ⟨K,u,q1,q2,q3⟩:=forth e h1 h2
  rw [q1]
  refine Zrj q2 q3 _ (Zf q2) fun k s hk _ hs=>?_
  rw [←Ybl]
  intro hp
  obtain ⟨e',he',r1,r2⟩:=back k s hs hp
  have:=h3 e' he' r2
  omega
theorem fldV_has {P:PProg} {i:Ins} (h:fldB (Zfz P) i=true) (hk:i.kind=2∨i.kind=4):i.loc<P.locs.length:=by
 unfold fldB Zfz at h
 rw [if_neg (by omega)] at h
 split at h
 ·simp at h;omega
 ·rw [if_neg (by omega),if_pos (by omega)] at h
  simp at h;omega
theorem MV.Inv.read_loc {V:MV} (v:V.Inv) {i:Nat} (h4:i<4) (hi:V.may i=true) (hk:(V.stp i).kind=1∨(V.stp i).kind=4∨(V.stp i).kind=5):(V.stp i).loc<V.P.locs.length:=by
 have hq:=MV.may_thr h4 hi
 obtain ⟨q1,q2,q3,q4,q5⟩:=v.nxt hq
 obtain ⟨e1,e2,e3,e4⟩:=Zfv (V.thrI i) (V.l i) (V.val i (V.thrI i)).1 q2
 have hS:V.stp i={ V.thrS i (V.thrI i) with pick:=i }:=by unfold MV.stp;rw [if_pos h4]
 rw [hS] at hk ⊢
 have hk':(evOf (V.thrI i) (V.l i) (V.val i (V.thrI i)).1).kind=1∨(evOf (V.thrI i) (V.l i) (V.val i (V.thrI i)).1).kind=4∨(evOf (V.thrI i) (V.l i) (V.val i (V.thrI i)).1).kind=5:=hk
 show (evOf (V.thrI i) (V.l i) (V.val i (V.thrI i)).1).loc<_
 rw [(e4 hk').2.1]
 refine fldV_has ?_ ?_
 ·unfold PProg.code at q5
  split at q5
  ·rw [Yl] at q5
   cases hc:V.P.thr[(i:Int).toNat]? with
   | none=>rw [hc] at q5;simp at q5
   | some c=>rw [hc] at q5;exact v.fld c (Yj hc) _ q5
  ·simp at q5
 ·rcases hk' with h | h
  ·exact .inl (e3.1 h)
  ·exact .inr (e2.1 h)
theorem MV.Inv.fwd_nx {V:MV} (v:V.Inv) (F:Fwd V) (hli:V.P.locs.length=V.P.init.length) {i:Nat} (hi:V.may i=true):Fwd (V.nx i):=by
 have H:=F.hist
 have hmm:(V.nx i).m=V.m:=(V.nx_P i).2
 have hPP:(V.nx i).P=V.P:=(V.nx_P i).1
 have hst:(V.nx i).st=V.st++[V.stp i]:=V.nx_st i
 have hlen:(V.st++[V.stp i]).length=V.st.length+1:=by rw [Yb,Yq]
 have hnx:∀c:Int,Zma (V.st++[V.stp i]) V.m c (V.st.length+1)=if (V.stp i).loc=c/\wrS (V.stp i) V.m=true then (if (V.stp i).kind=6 then (V.stp i).frm else (V.st.length:Int)) else Zma V.st V.m c V.st.length:=fun c=>by
  show (match (V.st++[V.stp i])[V.st.length]? with
   | some s=>if s.loc=c/\wrS s V.m=true then (if s.kind=6 then s.frm else (V.st.length:Int)) else Zma (V.st++[V.stp i]) V.m c V.st.length
   | none=>Zma (V.st++[V.stp i]) V.m c V.st.length)=_
  rw [getI_new,Zpf _ (Yf _)]
 have oldmf:∀c:Nat,c<4->(V.nx i).frm.getD c 0=V.frm.getD c 0->(V.nx i).mem.getD c 0=V.mem.getD c 0->((V.stp i).loc=(c:Int)/\wrS (V.stp i) V.m=true->False) ->
   (V.nx i).frm.getD c 0=Zma (V.nx i).st (V.nx i).m (c:Int) (V.nx i).st.length/\(0<=(V.nx i).frm.getD c 0->(V.nx i).frm.getD c 0<(V.nx i).st.length/\∃s,(V.nx i).st[((V.nx i).frm.getD c 0).toNat]? = some s/\s.w=(V.nx i).mem.getD c 0)/\((V.nx i).frm.getD c 0<0->(V.nx i).P.init.getD c 0=(V.nx i).mem.getD c 0):=fun c hc e1 e2 e3=>by
  obtain ⟨a1,a2,a3⟩:=F.mf c hc
  rw [e1,e2,hmm,hPP,hst,hlen,hnx,if_neg e3]
  refine ⟨a1,fun h=>?_,a3⟩
  obtain ⟨b1,s,b2,b3⟩:=a2 h
  exact ⟨by omega,s,Zbb b2,b3⟩
 by_cases h4:i<4
 ·have T:=v.thr_step h4 hi
  have hrl:=v.read_loc h4 hi
  refine ⟨v.hist_nx H hi,fun c hc=>?_,fun j s hs hk=>?_⟩
  ·have hwr:wrS (V.stp i) V.m=true↔((V.stp i).kind=4∨((V.stp i).kind=2/\V.m=1)):=by
    have:=T.kind
    unfold wrS
    simp
    omega
   by_cases hw:((V.stp i).kind=4∨((V.stp i).kind=2/\V.m=1))/\c=(V.stp i).loc.toNat
   ·have hl:(V.stp i).loc=(c:Int):=by have:=T.loc;omega
    have k6:(V.stp i).kind≠6:=by have:=T.kind;omega
    rw [T.frm,T.mem,if_pos hw,if_pos hw,hmm,hst,hlen,hnx,if_pos ⟨hl,hwr.2 hw.1⟩,if_neg k6]
    refine ⟨rfl,fun _=>⟨by omega,V.stp i,?_,rfl⟩,fun h=>by omega⟩
    rw [Ye];exact getI_new
   ·exact oldmf c hc (by rw [T.frm,if_neg hw]) (by rw [T.mem,if_neg hw]) fun q=>hw ⟨hwr.1 q.2,by have:=T.loc;omega⟩
  ·rw [hmm,hPP,hst]
   rw [hst] at hs
   rcases Zr hs with ⟨hl,hs2⟩ | ⟨hl,hs2⟩
   ·exact (F.rd j s hs2 hk).app (Yao hl)
   ·subst hl
    subst hs2
    have g:GoodRead V.P V.m V.st V.st.length (V.stp i):=by
     obtain ⟨t1,t2⟩:=T.read hk
     have hl:=T.loc
     have hlc:=hrl hk
     obtain ⟨a1,a2,a3⟩:=F.mf (V.stp i).loc.toNat (by omega)
     have hcc:(((V.stp i).loc.toNat:Nat):Int)=(V.stp i).loc:=by omega
     rw [hcc] at a1
     have hp:=H.pnd (t:=i) (c:=(V.stp i).loc) (Zma V.st V.m (V.stp i).loc V.st.length)
     have nl:=Zfi (V.stp i).loc (V.b i) (H.ids i)
     cases hn:Zcj (V.stp i).loc (V.b i) with
     | none =>
      rw [hn] at t1 t2 hp
      dsimp only at t1 t2 hp
      refine ⟨by rw [T.t,hp,t2,a1],fun h=>?_,fun h=>?_,hl.1,by omega⟩
      ·rw [t2] at h ⊢
       obtain ⟨b1,u,b2,b3⟩:=a2 h
       exact ⟨b1,u,b2,by rw [t1];exact b3⟩
      ·rw [t2] at h
       rw [t1];exact a3 h
     | some e =>
      rw [hn] at t1 t2 hp nl
      dsimp only at t1 t2 hp nl
      obtain ⟨k,hk',u,hu,_,_,_,h4',_⟩:=H.ent i e nl.1
      refine ⟨by rw [T.t,hp,t2],fun h=>?_,fun h=>?_,hl.1,by omega⟩
      ·rw [t2,hk',Ye]
       exact ⟨by have:=Zf hu;omega,u,hu,by rw [t1];exact h4'⟩
      ·rw [t2] at h;omega
    exact g.app (Yf _)
 ·obtain ⟨t,p,e,G⟩:=v.flu_step h4 hi
  have hs0:=G.s
  have he:=Yw G.f
  have hel:=v.mem_b he
  refine ⟨v.hist_nx H hi,fun c hc=>?_,fun j s hs hk=>?_⟩
  ·have hwr:wrS (V.stp i) V.m=true:=by rw [hs0];unfold wrS;simp
   by_cases hw:c=e.loc.toNat
   ·have hl:(V.stp i).loc=(c:Int):=by rw [hs0];dsimp only;omega
    have k6:(V.stp i).kind=6:=by rw [hs0]
    obtain ⟨k,hk',u,hu,_,_,_,h4',_⟩:=H.ent t e he
    have hf:(V.stp i).frm=e.id:=by rw [hs0]
    rw [G.frm,G.mem,if_pos hw,if_pos hw,hmm,hst,hlen,hnx,if_pos ⟨hl,hwr⟩,if_pos k6,hf]
    refine ⟨rfl,fun _=>⟨by have:=Zf hu;omega,u,?_,h4'⟩,fun h=>by omega⟩
    rw [hk',Ye];exact Zbb hu
   ·exact oldmf c hc (by rw [G.frm,if_neg hw]) (by rw [G.mem,if_neg hw]) fun q=>hw (by have:=q.1;rw [hs0] at this;dsimp only at this;omega)
  ·rw [hmm,hPP,hst]
   rw [hst] at hs
   rcases Zr hs with ⟨hl,hs2⟩ | ⟨hl,hs2⟩
   ·exact (F.rd j s hs2 hk).app (Yao hl)
   ·rw [hs2,hs0] at hk
    simp at hk
section
variable {E:Env}
end
def Zfr (s:Nat) (x:Stp):Bool:=x.kind==6&&x.frm==(s:Int)
def Zcv (l:List Stp) (m:Int) (s:Nat):Int:=match l[s]? with
 | some q=>if wrS q m=true then (s:Int) else match l.findIdx? (Zfr s) with
  | some i=>(i:Int)
  | none=>-1
 | none=>-1
theorem cameT_lt (l:List Stp) (m:Int) (s:Nat):-1<=Zcv l m s/\Zcv l m s<l.length:=by
 unfold Zcv
 split
 ·rename_i q hq
  have hs:s<l.length:=by
   rcases Yan s l.length with h | h
   ·exact h
   ·rw [Yt h] at hq;cases hq
  split
  ·omega
  ·split
   ·rename_i i hi
    have:=(Yr.1 hi).1
    omega
   ·omega
 ·omega
def Zgm (a b:Stp) (m:Int) (i:Nat):Bool:=a.pick==b.pick||(wrS a m&&wrS b m&&a.loc==b.loc)||(b.kind==6&&b.frm==(i:Int))||(a.kind==6&&a.t==b.t&&fnS b)
def Zqe (l:List Stp) (m:Int) (i k:Nat):Bool:=match l[i]?,l[k]? with
 | some a,some b=>Zgm a b m i
 | _,_=>false
def Zcy (l:List Stp) (m:Int) (s:Stp):Option Int:=if 0<=s.frm/\s.frm<l.length then (if Zcv l m s.frm.toNat<0 then none else some (Zcv l m s.frm.toNat)) else some (-1)
def wrE (l:List Stp) (m:Int) (loc:Int) (k:Nat):Bool:=match l[k]? with
 | some b=>wrS b m&&b.loc==loc
 | none=>false
def Zsy (l:List Stp) (s:Stp):Bool:=match l[s.frm.toNat]? with
 | some b=>decide (0<=s.frm/\s.frm<l.length)&&b.t != s.t
 | none=>false
def Zee (l:List Stp) (m:Int) (i:Nat) (s:Stp) (a b:Nat):Bool:=match Zcy l m s with
 | none=>false
 | some f=>(Zsy l s&&decide (0<=f)&&decide (a=f.toNat)&&decide (b=i))||(decide (a=i)&&decide (f<(b:Int))&&b != i&&wrE l m s.loc b)
def rdE (l:List Stp) (m:Int) (i a b:Nat):Bool:=match l[i]? with
 | some s=>rdS s&&Zee l m i s a b
 | none=>false
def Zbx (l:List Stp) (m:Int) (a b:Nat):Bool:=(decide (a<b)&&Zqe l m a b)||(Yaf l.length).any fun i=>rdE l m i a b
def hbF (l:List Stp) (m:Int):Nat->Nat:=clK l.length (ACC l.length (Zbx l m)) l.length
theorem SlAt.sfld {α:Type} {h:Za} {x:Cell} {l:List Stp} (s:SlAt h x 7 (Zai l) l.length) {i:Nat} {q:Stp} (hq:l[i]? = some q) {j:Nat} (hj:j<7) {c:Cell} (hc:q.cs[j]? = some c) {f:Cell->Option α} :
  (Zl 7 x (i:Int) fun k N o=>Zp h k N fun l=>Ze l (o+j) f)=f c:=by
 have hi:i<l.length:=by
  rcases Yan i l.length with h | h
  ·exact h
  ·rw [Yt h] at hq;cases hq
 exact s.get hi hj (Zvi hq hj hc)
section
variable {E:Env}
theorem Zxq (hE:q283_In E) {x f:Cell} {l:List Stp} {h:Za} (hx:SlAt h x 7 (Zai l) l.length) (hl:l.length<9223372036854775807) (p:Stp->Bool)
  (hf:∀i∈l,∀{α:Type} (F:AV->Za->Option α),(fnK f fun g cs=>c1 (R E g ([.agg i.cs]++cs) h) F)=F (.c (.bool (p i))) h):R E 283 [.c x,.c f] h=some ([.c (.int .i64 (match l.findIdx? p with | some i=>(i:Int) | none=>-1))],h):=by
 have loop:∀(n i:Nat),i+n=l.length->(Zq (q283_F1 (R E) Zq E.glob) (q283_s1 x f l.length (i:Int) h)).bind (fun q=>q283_k3 (R E) Zq E.glob h q.1 q.2)=some ([.c (.int .i64 (match (l.drop i).findIdx? p with | some j=>((i+j:Nat):Int) | none=>-1))],h):=by
  intro n
  induction n with
  | zero =>
   intro i hi
   have hr:q283_F1 (R E) Zq E.glob (q283_s1 x f l.length (i:Int) h)=some (.exit 0,q283_x1_1 h):=by rw [q283_r1,if_neg (by simp;omega)]
   rw [Zm hr,bind_ok,q283_e1_1,Yam (by omega)];rfl
  | succ n ih =>
   intro i hi
   have hq:l[i]? = some l[i]:=Yc (by omega)
   have hdr:l.drop i=l[i] :: l.drop (i+1):=Ycd (by omega)
   generalize l[i]=q at hq hdr
   obtain ⟨off,c,g1,g2,g3⟩:=hx.stepG hq
   have hp:=@hf q (Yj hq) (Ex × St)
   rw [hdr,Ycu]
   cases hb:p q with
   | true =>
    have hr:q283_F1 (R E) Zq E.glob (q283_s1 x f l.length (i:Int) h)=some (.ret,q283_x1_0 (i:Int) h):=by rw [q283_r1,if_pos (by simp;omega),g1,if_pos g2,g3,hp,asB_ok,hb,if_pos rfl]
    rw [Zcf hr,bind_ok,q283_e1_0]
    rfl
   | false =>
    have h1:=ih (i+1) (by omega)
    have h2:(match (if false=true then some 0 else Option.map (fun j=>j+1) ((l.drop (i+1)).findIdx? p)) with | some j=>((i+j:Nat):Int) | none=>-1)=match (l.drop (i+1)).findIdx? p with | some j=>((i+1+j:Nat):Int) | none=>-1:=by
     cases (l.drop (i+1)).findIdx? p with
     | none=>rfl
     | some j=>show ((i+(j+1):Nat):Int)=((i+1+j:Nat):Int);omega
    rw [h2]
    cases hL:Zq (q283_F1 (R E) Zq E.glob) (q283_s1 x f l.length ((i+1:Nat):Int) h) with
    | none=>rw [hL] at h1;cases h1
    | some w =>
     have hr:q283_F1 (R E) Zq E.glob (q283_s1 x f l.length (i:Int) h)=some (.normal,q283_s1 x f l.length ((i+1:Nat):Int) h):=by rw [q283_r1,if_pos (by simp;omega),g1,if_pos g2,g3,hp,asB_ok,hb,if_neg (by simp),Zo (by omega)]
     rw [Zat hr hL]
     rw [hL] at h1;exact h1
 have h1:=loop l.length 0 (by omega)
 refine Zd hE.fn ?_
 rw [q283_eq,hx.len,show (0:Int)=((0:Nat):Int) from rfl,h1,Ycn]
 cases l.findIdx? p with
 | none=>rfl
 | some j=>show some ([AV.c (Cell.int .i64 ((0+j:Nat):Int))],h)=_;rw [Yay]
theorem came_R (hE:q273_In E) {x:Cell} {l:List Stp} {h:Za} (hx:SlAt h x 7 (Zai l) l.length) (hlow:Low h.length x) (hl:l.length<9223372036854775807) (m:Int) {s:Nat} (hs:s<l.length) :
  R E 273 [.c x,.c (.int .i64 m),.c (.int .i64 (s:Int))] h=some ([.c (.int .i64 (Zcv l m s))],h):=by
 refine Zd hE.fn ?_
 have hq:=Yc hs
 generalize hqq:l[s]=q at hq
 have hb:blk? (h++[some ⟨true,0,[.int .i64 (s:Int)]⟩]) h.length=some ⟨true,0,[.int .i64 (s:Int)]⟩:=Zw _ _
 have hx':=hx.keep hlow (Kp.app [some ⟨true,0,[.int .i64 (s:Int)]⟩] (Yf h.length))
 have kp:Kp h.length h (h++[some ⟨true,0,[.int .i64 (s:Int)]⟩]):=Kp.app _ (Yf _)
 have hav:∀v:Int,∀x∈([AV.c (Cell.int .i64 v)]:List AV),Zlc h.length x=true:=fun v x hx=>by
  rw [Ys] at hx;subst hx;simp [Zlc,AV.cells,Zgq]
 obtain ⟨off,c,g1,g2,g3⟩:=hx'.stepG hq
 rw [q273_eq,show AV.cells (.c (.int .i64 (s:Int)))=[.int .i64 (s:Int)] from rfl,Zy hb rfl,Zae (show ([.int .i64 (s:Int)]:List Cell)[0]? = some (.int .i64 (s:Int)) from rfl),asI_ok,g1,if_pos g2,g3,Zes hE.c257,c1_ok,asB_ok]
 unfold Zcv
 rw [hq]
 dsimp only
 by_cases hw:wrS q m=true
 ·rw [if_pos hw,if_pos hw,Zy hb rfl,Zae (show ([.int .i64 (s:Int)]:List Cell)[0]? = some (.int .i64 (s:Int)) from rfl),asI_ok]
  exact Zdj kp (hav _)
 ·rw [if_neg hw,if_neg hw,Zxq hE.c283 hx' hl (Zfr s) (fun i _ α F=>?_),c1_ok,asI_ok]
  ·exact Zdj kp (hav _)
  ·show c1 (R E 282 ([.agg i.cs]++[.c (.ptr h.length 1 0)]) _) F=_
   have:R E 282 [.agg i.cs,.c (.ptr h.length 1 0)] (h++[some ⟨true,0,[.int .i64 (s:Int)]⟩])=some ([.c (.bool (Zfr s i))],h++[some ⟨true,0,[.int .i64 (s:Int)]⟩]):=by
    refine Zd hE.c282.fn ?_
    rw [q282_eq,stp_kind,asI_ok,stp_frm,asI_ok,Zy (N:=1) hb rfl,Zae (show ([.int .i64 (s:Int)]:List Cell)[0]? = some (.int .i64 (s:Int)) from rfl),asI_ok,scK_and]
    rfl
   rw [Yaz,this,c1_ok]
theorem Zq703 (hE:q267_In E) {x:Cell} {l:List Stp} {h:Za} (hx:SlAt h x 7 (Zai l) l.length) (hlow:Low h.length x) (hl:l.length<=64) (m:Int) {i:Nat} {s:Stp} (hs:l[i]? = some s) (q:Nat->Nat->Bool) :
  R E 267 [.agg (Zs l.length (ACC l.length q)),.c x,.c (.int .i64 m),.c (.int .i64 (i:Int))] h=some ([.agg (Zs l.length (ACC l.length fun a b=>q a b||Zee l m i s a b))],h):=by
 have hi:i<l.length:=by
  rcases Yan i l.length with h1 | h1
  ·exact h1
  ·rw [Yt h1] at hs;cases hs
 have rl:∀p,(Zs l.length (ACC l.length p)).length=65:=fun p=>relL_len _ _
 have loop:∀(f:Int) (p:Nat->Nat->Bool),-1<=f->f<l.length->Zq (q267_F1 (R E) Zq E.glob) (q267_s1 x m (i:Int) (E.glob.wrap .i64 (f+1)) (Zs l.length (ACC l.length p)) zeroL s.cs h) =
   some (.exit 0,q267_x1_1 (Zs l.length (ACC l.length fun a b=>p a b||(decide (a=i)&&decide (f<(b:Int))&&b != i&&wrE l m s.loc b))) zeroL h):=by
  intro f p h1 h2
  obtain ⟨k0,hk0⟩:=Yag (show 0<=f+1 by omega)
  rw [Zj (by omega) (by omega),hk0]
  have key:∀(n k:Nat),k+n=l.length->k0<=k->Zq (q267_F1 (R E) Zq E.glob) (q267_s1 x m (i:Int) (k:Int) (Zs l.length (ACC l.length fun a b=>p a b||(decide (a=i)&&decide (f<(b:Int))&&b != i&&wrE l m s.loc b&&decide (b<k)))) zeroL s.cs h) =
    some (.exit 0,q267_x1_1 (Zs l.length (ACC l.length fun a b=>p a b||(decide (a=i)&&decide (f<(b:Int))&&b != i&&wrE l m s.loc b))) zeroL h):=by
   intro n
   induction n with
   | zero =>
    intro k hk hkk
    rw [Zm (show q267_F1 (R E) Zq E.glob (q267_s1 x m (i:Int) (k:Int) (Zs l.length (ACC l.length fun a b=>p a b||(decide (a=i)&&decide (f<(b:Int))&&b != i&&wrE l m s.loc b&&decide (b<k)))) zeroL s.cs h)=some (.exit 0,q267_x1_1 (Zs l.length (ACC l.length fun a b=>p a b||(decide (a=i)&&decide (f<(b:Int))&&b != i&&wrE l m s.loc b&&decide (b<k)))) zeroL h) by
     rw [q267_r1,hx.len,if_neg (by simp;omega)])]
    rw [Zex hl (q':=fun a b=>p a b||(decide (a=i)&&decide (f<(b:Int))&&b != i&&wrE l m s.loc b)) (fun a b _ hb=>by rw [decide_eq_true (show b<k by omega),Ybk])]
   | succ n ih =>
    intro k hk hkk
    have hq:l[k]? = some l[k]:=Yc (by omega)
    generalize l[k]=b at hq
    obtain ⟨off,c,g1,g2,g3⟩:=hx.stepG hq
    have hwr:wrE l m s.loc k=(wrS b m&&b.loc==s.loc):=by unfold wrE;rw [hq]
    have hfk:decide (f<(k:Int))=true:=decide_eq_true (by omega)
    have e1:q267_F1 (R E) Zq E.glob (q267_s1 x m (i:Int) (k:Int) (Zs l.length (ACC l.length fun a b=>p a b||(decide (a=i)&&decide (f<(b:Int))&&b != i&&wrE l m s.loc b&&decide (b<k)))) zeroL s.cs h) =
      some (.normal,q267_s1 x m (i:Int) ((k+1:Nat):Int) (Zs l.length (ACC l.length fun a b=>p a b||(decide (a=i)&&decide (f<(b:Int))&&b != i&&wrE l m s.loc b&&decide (b<k+1)))) zeroL s.cs h):=by
     have hne:((k:Int) != (i:Int))=(k != i):=by rw [Yah,bne_iff_ne,bne_iff_ne];omega
     have stay:(k != i&&wrE l m s.loc k)=false->Zs l.length (ACC l.length fun a b=>p a b||(decide (a=i)&&decide (f<(b:Int))&&b != i&&wrE l m s.loc b&&decide (b<k+1)))=Zs l.length (ACC l.length fun a b=>p a b||(decide (a=i)&&decide (f<(b:Int))&&b != i&&wrE l m s.loc b&&decide (b<k))):=fun hno=>by
      refine Zex hl fun a b _ _=>?_
      by_cases hbk:b=k
      ·subst hbk
       rw [decide_eq_false (show ¬b<b by omega)]
       rw [Ydh (decide (a=i)&&decide (f<(b:Int))),hno]
       simp
      ·rw [show decide (b<k+1)=decide (b<k) by rw [decide_eq_decide];omega]
     have add:(k != i&&wrE l m s.loc k)=true->Zs l.length (Ztg l.length (ACC l.length fun a b=>p a b||(decide (a=i)&&decide (f<(b:Int))&&b != i&&wrE l m s.loc b&&decide (b<k))) (i:Int) (k:Int))=Zs l.length (ACC l.length fun a b=>p a b||(decide (a=i)&&decide (f<(b:Int))&&b != i&&wrE l m s.loc b&&decide (b<k+1))):=fun hy=>by
      refine Zsa hl hi (by omega) fun a b _ _=>?_
      by_cases hbk:b=k
      ·subst hbk
       rw [decide_eq_false (show ¬b<b by omega),decide_eq_true (show b<b+1 by omega),Ydh (decide (a=i)&&decide (f<(b:Int))),hy,hfk]
       simp
      ·rw [show decide (b<k+1)=decide (b<k) by rw [decide_eq_decide];omega,decide_eq_false hbk]
       simp
     rw [q267_r1,hx.len,if_pos (by simp;omega),hne]
     by_cases hki:(k != i)=true
     ·rw [hki,scK_ok,g1,if_pos g2,g3,Zes hE.c257,qh_ok,c1_ok,asB_ok,bind_ok]
      dsimp only
      by_cases hw:wrS b m=true
      ·rw [hw,scK_ok,hx.sfld hq (j:=3) (by omega) (c:=.int .i64 b.loc) rfl,asI_ok,stp_loc,asI_ok,bind_ok]
       dsimp only
       by_cases hlc:(b.loc==s.loc)=true
       ·have hy:(k != i&&wrE l m s.loc k)=true:=by rw [hki,hwr,hw,hlc];rfl
        rw [hlc,if_pos rfl,if_pos ⟨by trivial,rl _⟩,Add_R hE.c10 hl (Zjk _ _),c1_ok,asA_ok,if_pos ⟨by trivial,rl _,relL_len _ _⟩,add hy,Zo (by omega)]
       ·have hno:(k != i&&wrE l m s.loc k)=false:=by rw [hwr,show (b.loc==s.loc)=false by simpa using hlc,Yar,Yar]
        rw [if_neg hlc,stay hno,Zo (by omega)]
      ·have hno:(k != i&&wrE l m s.loc k)=false:=by rw [hwr,show wrS b m=false by simpa using hw,Ybw,Yar]
       rw [show wrS b m=false by simpa using hw,scK_ft,if_neg (by simp),stay hno,Zo (by omega)]
     ·have hki':(k != i)=false:=by simpa using hki
      have hno:(k != i&&wrE l m s.loc k)=false:=by rw [hki',Ybw]
      rw [hki',scK_ft,scK_ft,if_neg (by simp),stay hno,Zo (by omega)]
    rw [Zat e1 (ih (k+1) (by omega) (by omega))]
  have h3:=key (l.length - k0) k0 (by omega) (Yf _)
  rw [Zex hl (q':=p) (fun a b _ _=>by
   by_cases hb:b<k0
   ·rw [decide_eq_false (show ¬f<(b:Int) by omega)];simp
   ·rw [decide_eq_false hb];simp)] at h3
  exact h3
 obtain ⟨off,c,g1,g2,g3⟩:=hx.stepG hs
 refine Zd hE.fn ?_
 rw [q267_eq,g1,if_pos g2,g3,if_pos ⟨by trivial,by rfl,by rfl⟩,stp_frm,asI_ok]
 have fin:∀(f:Int) (p:Nat->Nat->Bool),-1<=f->f<l.length->(q267_k2 (R E) Zq E.glob h) .normal (q267_c1 x m (i:Int) f (Zs l.length (ACC l.length p)) zeroL s.cs h) =
   some ([.agg (Zs l.length (ACC l.length fun a b=>p a b||(decide (a=i)&&decide (f<(b:Int))&&b != i&&wrE l m s.loc b)))],h):=fun f p h1 h2=>by
  rw [q267_ec1_n,loop f p h1 h2,bind_ok]
  dsimp only
  rw [q267_e1_1,if_pos ⟨by trivial,rl _⟩,if_pos ⟨by trivial,zero_len,rl _⟩,if_pos ⟨by trivial,rl _⟩]
 by_cases h0:0<=s.frm
 ·by_cases hn:s.frm<l.length
  ·obtain ⟨g,hg⟩:=Yag h0
   have hgl:g<l.length:=by omega
   have hgq:=Yc hgl
   generalize l[g]=sg at hgq
   have hc:=cameT_lt l m g
   have hfar:Zsy l s=(sg.t != s.t):=by
    unfold Zsy
    rw [hg,Ye,hgq,decide_eq_true (show (0:Int)<=(g:Int)/\(g:Int)<l.length by omega)]
    rfl
   rw [decide_eq_true (show s.frm>=0 from h0),scK_ok,stp_frm,asI_ok,hx.len,decide_eq_true hn,bind_ok]
   dsimp only
   rw [if_pos rfl,stp_frm,asI_ok,hg,came_R hE.c273 hx hlow (by omega) m hgl,c1_ok,asI_ok]
   have hfr:Zcy l m s=if Zcv l m g<0 then none else some (Zcv l m g):=by
    unfold Zcy
    rw [if_pos ⟨h0,hn⟩,hg,Ye]
   by_cases hcn:Zcv l m g<0
   ·rw [decide_eq_true hcn,if_pos rfl,if_pos ⟨by trivial,rl _⟩,if_pos ⟨by trivial,zero_len,rl _⟩,bind_ok]
    dsimp only
    rw [q267_ec1_0,if_pos ⟨by trivial,rl _⟩]
    rw [if_pos hcn] at hfr
    rw [Zex hl (q':=fun a b=>q a b||Zee l m i s a b) (fun a b _ _=>by unfold Zee;rw [hfr];simp)]
   ·rw [if_neg hcn] at hfr
    obtain ⟨c',hc'⟩:=Yag (show 0<=Zcv l m g by omega)
    rw [decide_eq_false hcn,if_neg (by simp),stp_frm,asI_ok,hg,hx.sfld hgq (j:=1) (by omega) (c:=.int .i64 sg.t) rfl,asI_ok,stp_t,asI_ok]
    by_cases hft:(sg.t != s.t)=true
    ·rw [if_pos hft,if_pos ⟨by trivial,rl _⟩,Add_R hE.c10 hl (Zjk _ _),c1_ok,asA_ok,if_pos ⟨by trivial,rl _,relL_len _ _⟩,bind_ok]
     dsimp only
     rw [hc',Zsa hl (q':=fun a b=>q a b||(decide (a=c')&&decide (b=i))) (by omega) hi (fun a b _ _=>rfl)]
     have h9:=fin (c':Int) (fun a b=>q a b||(decide (a=c')&&decide (b=i))) (by omega) (by omega)
     refine h9.trans ?_
     rw [Zex hl (q':=fun a b=>q a b||Zee l m i s a b) (fun a b _ _=>by
      unfold Zee
      rw [hfr,hfar,hft,hc']
      dsimp only
      rw [Ye,decide_eq_true (show (0:Int)<=(c':Int) by omega)]
      simp [Bool.or_assoc])]
    ·rw [if_neg hft,bind_ok]
     dsimp only
     have h9:=fin (Zcv l m g) q (by omega) (by omega)
     refine h9.trans ?_
     rw [Zex hl (q':=fun a b=>q a b||Zee l m i s a b) (fun a b _ _=>by
      unfold Zee
      rw [hfr,hfar,show (sg.t != s.t)=false by simpa using hft]
      simp)]
  ·have hfr:Zcy l m s=some (-1):=by unfold Zcy;rw [if_neg (by omega)]
   rw [decide_eq_true (show s.frm>=0 from h0),scK_ok,stp_frm,asI_ok,hx.len,decide_eq_false hn,bind_ok]
   dsimp only
   rw [if_neg (by simp),bind_ok]
   dsimp only
   have h9:=fin (-1) q (by omega) (by omega)
   refine h9.trans ?_
   rw [Zex hl (q':=fun a b=>q a b||Zee l m i s a b) (fun a b _ _=>by
    unfold Zee
    rw [hfr]
    simp)]
 ·have hfr:Zcy l m s=some (-1):=by unfold Zcy;rw [if_neg (by omega)]
  rw [decide_eq_false (show ¬s.frm>=0 from h0),scK_ft,if_neg (by simp),bind_ok]
  dsimp only
  have h9:=fin (-1) q (by omega) (by omega)
  refine h9.trans ?_
  rw [Zex hl (q':=fun a b=>q a b||Zee l m i s a b) (fun a b _ _=>by
   unfold Zee
   rw [hfr]
   simp)]
end
def Zbn (l:List Stp) (m:Int) (i k a b:Nat):Bool:=(decide (a<b)&&Zqe l m a b&&(decide (a<i)||(decide (a=i)&&decide (b<k))))||(Yaf i).any fun j=>rdE l m j a b
theorem any_succ (p:Nat->Bool) (i:Nat):(Yaf (i+1)).any p=((Yaf i).any p||p i):=by
 rw [List.range_succ,List.any_append];simp
theorem Zq733 (l:List Stp) (m:Int) {a b:Nat} (ha:a<l.length):Zbn l m l.length 0 a b=Zbx l m a b:=by
 unfold Zbn Zbx
 rw [decide_eq_true ha,Bool.true_or,Ybk]
theorem Zpd (l:List Stp) (m:Int) {i a b:Nat} (hb:b<l.length):Zbn l m (i+1) 0 a b=(Zbn l m i l.length a b||rdE l m i a b):=by
 unfold Zbn
 rw [any_succ,decide_eq_true hb,Ybk,decide_eq_false (Nat.not_lt_zero b),Yar,Ybz,show decide (a<i+1)=(decide (a<i)||decide (a=i)) by rw [Yah,Ybr,decide_eq_true_eq,decide_eq_true_eq,decide_eq_true_eq];omega,Bool.or_assoc]
section
variable {E:Env}
theorem HB_R (hE:q255_In E) {x:Cell} {l:List Stp} {h:Za} (hx:SlAt h x 7 (Zai l) l.length) (hlow:Low h.length x) (hl:l.length<=64) (m:Int) :
  R E 255 [.c x,.c (.int .i64 m)] h=some ([.agg (Zs l.length (hbF l m))],h):=by
 have rl:∀p,(Zs l.length (ACC l.length p)).length=65:=fun p=>relL_len _ _
 have hcl:Zmw (l.length:Int)=l.length:=by unfold Zmw;omega
 have inner:∀(i:Nat) (a:Stp),l[i]? = some a->Zq (q255_F1 (R E) Zq E.glob) (q255_s1 x m (i:Int) ((i+1:Nat):Int) x (l.length:Int) (i:Int) zeroL (Zs l.length (ACC l.length (Zbn l m i 0))) a.cs h) =
   some (.exit 2,q255_x1_3 x m (i:Int) x (l.length:Int) (i:Int) zeroL (Zs l.length (ACC l.length (Zbn l m i l.length))) a.cs h):=by
  intro i a ha
  have hi:i<l.length:=by
   rcases Yan i l.length with h1 | h1
   ·exact h1
   ·rw [Yt h1] at ha;cases ha
  have key:=Zax (F:=q255_F1 (R E) Zq E.glob) (fun k=>q255_s1 x m (i:Int) (k:Int) x (l.length:Int) (i:Int) zeroL (Zs l.length (ACC l.length (Zbn l m i k))) a.cs h) (i+1) l.length (by omega) (p:=(.exit 2,q255_x1_3 x m (i:Int) x (l.length:Int) (i:Int) zeroL (Zs l.length (ACC l.length (Zbn l m i l.length))) a.cs h)) (fun k hk1 hk=>by
   have hq:l[k]? = some l[k]:=Yc hk
   generalize l[k]=b at hq
   obtain ⟨off,c,g1,g2,g3⟩:=hx.stepG hq
   have he:Zqe l m i k=Zgm a b m i:=by unfold Zqe;rw [ha,hq]
   have hstep:q255_F1 (R E) Zq E.glob (q255_s1 x m (i:Int) (k:Int) x (l.length:Int) (i:Int) zeroL (Zs l.length (ACC l.length (Zbn l m i k))) a.cs h) =
     if Zgm a b m i=true then some (.normal,q255_s1 x m (i:Int) ((k+1:Nat):Int) x (l.length:Int) (i:Int) zeroL (Zs l.length (Ztg l.length (ACC l.length (Zbn l m i k)) (i:Int) (k:Int))) a.cs h) else some (.normal,q255_s1 x m (i:Int) ((k+1:Nat):Int) x (l.length:Int) (i:Int) zeroL (Zs l.length (ACC l.length (Zbn l m i k))) a.cs h):=by
    rw [q255_r1,hx.len,if_pos (by simp;omega),g1,if_pos g2,g3,if_pos ⟨by trivial,by rfl,by rfl⟩,if_pos ⟨by trivial,by rfl⟩,Zes hE.c257,c1_ok,asB_ok,if_pos ⟨by trivial,by rfl⟩,Zes hE.c257,c1_ok,asB_ok,scK_and,stp_loc,asI_ok,stp_loc,asI_ok,scK_and,stp_pick,asI_ok,stp_pick,asI_ok,scK_or,stp_kind,asI_ok,stp_frm,asI_ok,scK_and,scK_or,
     stp_kind,asI_ok,stp_t,asI_ok,stp_t,asI_ok,scK_and,if_pos ⟨by trivial,by rfl⟩,Fences_R hE.c265,c1_ok,asB_ok,scK_and,scK_or]
    show (if Zgm a b m i=true then _ else _)=_
    by_cases hp:Zgm a b m i=true
    ·rw [if_pos hp,if_pos hp,if_pos ⟨by trivial,rl _⟩,Add_R hE.c10 hl (Zjk _ _),c1_ok,asA_ok,if_pos ⟨by trivial,rl _,relL_len _ _⟩,Zo (by omega)]
    ·rw [if_neg hp,if_neg hp,Zo (by omega)]
   rw [hstep]
   by_cases hp:Zgm a b m i=true
   ·rw [if_pos hp,Zsa hl (q':=Zbn l m i (k+1)) hi hk (fun a' b' _ _=>by
     unfold Zbn
     by_cases h1:a'=i/\b'=k
     ·rw [h1.1,h1.2,he,hp,decide_eq_true (show i<k by omega)];simp
     ·have:(decide (a'=i)&&decide (b'<k+1))=(decide (a'=i)&&decide (b'<k)):=by
       rw [Yah];simp;omega
      rw [this,show (decide (a'=i)&&decide (b'=k))=false by simpa using h1,Ybz])]
   ·rw [if_neg hp,Zex hl (q':=Zbn l m i (k+1)) (fun a' b' _ _=>by
     unfold Zbn
     by_cases h1:a'=i/\b'=k
     ·rw [h1.1,h1.2,he,show Zgm a b m i=false by simpa using hp];simp
     ·have:(decide (a'=i)&&decide (b'<k+1))=(decide (a'=i)&&decide (b'<k)):=by
       rw [Yah];simp;omega
      rw [this])]) (Zm (by rw [q255_r1,hx.len,if_neg (by simp)]))
  rw [Zex hl (q':=Zbn l m i 0) (fun a' b' _ _=>by
   unfold Zbn
   by_cases h1:a'=i/\b'<i+1
   ·rw [h1.1,decide_eq_false (show ¬i<b' by omega)];simp
   ·rw [show (decide (a'=i)&&decide (b'<i+1))=false by simpa using h1];simp)] at key
  exact key
 have outer:Zq (q255_F2 (R E) Zq E.glob) (q255_s2 x m x (l.length:Int) ((0:Nat):Int) zeroL (Zs l.length (ACC l.length (Zbn l m 0 0))) h)=some (.exit 0,q255_x2_1 zeroL (Zs l.length (ACC l.length (Zbn l m l.length 0))) h) :=
  Zax (F:=q255_F2 (R E) Zq E.glob) (fun i=>q255_s2 x m x (l.length:Int) (i:Int) zeroL (Zs l.length (ACC l.length (Zbn l m i 0))) h) 0 l.length (by omega) (fun i _ hi=>by
   have hq:l[i]? = some l[i]:=Yc hi
   generalize l[i]=a at hq
   obtain ⟨off,c,g1,g2,g3⟩:=hx.stepG hq
   rw [q255_r2,if_pos (by simp;omega),g1,if_pos g2,g3,if_pos ⟨by trivial,by rfl,by rfl⟩,Zo (by omega),inner i a hq,bind_ok]
   dsimp only
   rw [q255_e1_3,if_pos ⟨by trivial,by rfl⟩,Znm hE.c266,c1_ok,asB_ok]
   by_cases hr:rdS a=true
   ·rw [if_pos hr,if_pos ⟨by trivial,rl _⟩,Zq703 hE.c267 hx hlow hl m hq,c1_ok,asA_ok,if_pos ⟨by trivial,rl _,rl _⟩,Zo (by omega),Zex hl (q':=Zbn l m (i+1) 0) (fun a' b' _ hb'=>by
     rw [Zpd l m hb']
     have:rdE l m i a' b'=Zee l m i a a' b':=by unfold rdE;rw [hq];dsimp only;rw [hr,Yau]
     rw [this])]
   ·rw [if_neg hr,Zo (by omega),Zex hl (q':=Zbn l m (i+1) 0) (fun a' b' _ hb'=>by
     rw [Zpd l m hb']
     have:rdE l m i a' b'=false:=by unfold rdE;rw [hq];dsimp only;rw [show rdS a=false by simpa using hr,Ybw]
     rw [this,Ybz])]) (Zm (by rw [q255_r2,if_neg (by simp)]))
 refine Zd hE.fn ?_
 rw [q255_eq,hx.len,if_neg (by simp;omega),hx.len,New_R hE.c9,c1_ok,asA_ok,hcl]
 have h0:Zs l.length (fun _=>0)=Zs l.length (ACC l.length (Zbn l m 0 0)):=(ACC_none hl fun a b _ _=>by
  unfold Zbn
  simp).symm
 rw [if_pos ⟨by trivial,zero_len,relL_len _ _⟩,hx.len,h0]
 refine (congrArg (fun z=>Option.bind z fun p_75=>(q255_k3 (R E) Zq E.glob h) p_75.1 p_75.2) outer).trans ?_
 rw [bind_ok]
 dsimp only
 have hfn:ACC l.length (Zbn l m l.length 0)=ACC l.length (Zbx l m):=by
  funext a
  unfold ACC
  congr 1
  funext b
  by_cases ha:a<l.length
  ·rw [Zq733 l m ha]
  ·rw [decide_eq_false ha];rfl
 rw [hfn,q255_e2_1,if_pos ⟨by trivial,rl _⟩,Zq752 hE.c12 hl (Zjk _ _),c1_ok,asA_ok,if_pos ⟨by trivial,zero_len,relL_len _ _⟩,if_pos ⟨by trivial,relL_len _ _⟩]
 rfl
theorem HB_many (hE:q255_In E) {x:Cell} {l:List Stp} {h:Za} (hx:SlAt h x 7 (Zai l) l.length) (hl:64<l.length) (m:Int) :
  R E 255 [.c x,.c (.int .i64 m)] h=some ([.agg (Zs 0 fun _=>0)],h):=by
 refine Zd hE.fn ?_
 rw [q255_eq,hx.len,if_pos (by simp;omega),New_R hE.c9,c1_ok,asA_ok,show Zmw 0=0 from rfl,if_pos ⟨by trivial,zero_len,relL_len _ _⟩,if_pos ⟨by trivial,relL_len _ _⟩]
end
theorem Own.appN {n:Nat} {h:Za} {x:Cell} {esz len m bytes:Nat} {cs xs:List Cell} (o:Own n h x esz cs len) (hn:n<=h.length) (hx:xs.length=m*esz) (he:0<esz) (h1:(len+m)*bytes<=maxBytes) (h2:len+m<=maxBytes) :
  ∃x' h',(∀{α:Type} (f:Cell->Za->Option α),Zao esz bytes x xs h f=f x' h')/\Own n h' x' esz (cs++xs) (len+m)/\Kp n h h'/\(∀j b,blk? h j=some b->¬Zv x j->blk? h' j=some b/\¬Zv x' j):=by
 have hd:xs.length / esz=m:=by rw [hx];exact Ycy _ he
 rcases o.2 with ⟨rfl,rfl⟩ | ⟨k,rfl,hk,hb⟩
 ·have hcs:cs=[]:=Ym.1 (by have:=o.1;omega)
  subst hcs
  by_cases h0:m=0
  ·subst h0
   have:xs=[]:=Ym.1 (by omega)
   subst this
   exact ⟨.nils,h,fun f=>rfl,Own.nil _ _ _,Kp.refl _ _,fun j b hj hi=>⟨hj,hi⟩⟩
  ·have hpos:0<xs.length:=by rw [hx];exact Nat.mul_pos (by omega) he
   refine ⟨.sl h.length xs.length 0 m,h++[some ⟨true,esz,xs⟩],fun f=>?_,⟨by simp [hx],.inr ⟨h.length,by simp,hn,by rw [Yad];exact Zw _ _⟩⟩,Kp.app _ hn,fun j b hj _=>⟨Zas hj _,fun hi=>?_⟩⟩
   ·unfold Zao;simp only;rw [if_neg (by omega),hd,if_pos ⟨by rw [Yay] at h1;exact h1,by omega⟩]
   ·have:=Zan hj;simp only [Zv] at hi;omega
 ·have hl:=o.1
  refine ⟨.sl k (len*esz+xs.length) 0 (len+m),setBlk h k (some ⟨true,esz,cs++xs⟩),fun f=>?_,⟨by simp [hl,hx,Nat.add_mul],.inr ⟨k,by simp [hl],hk,Zad (Zan hb) _⟩⟩,Kp.set hk _,fun j b hj hi=>?_⟩
  ·unfold Zao;simp only;rw [hb,Yal];dsimp only
   rw [if_pos ⟨rfl,rfl,rfl,by omega,by rw [hd];exact h1,by rw [hd];exact h2⟩,hd]
   by_cases h0:xs.length=0
   ·have:xs=[]:=Ym.1 h0
    subst this
    have e:splice cs (0+len*esz) []=cs++[]:=by unfold splice;simp
    rw [if_pos (by simp;omega),e,Yu,hl]
    rfl
   ·rw [if_neg (by omega),if_pos trivial,Yx (by omega)]
  ·have hne:k≠j:=fun h=>hi h
   exact ⟨by rw [Zbh hne];exact hj,fun q=>hne q⟩
theorem Own.slc {n:Nat} {h:Za} {x:Cell} {esz len:Nat} {cs:List Cell} (o:Own n h x esz cs len) (h0:0<len) {a:Nat} (ha:a<=len) :
  (∃x',(∀{α:Type} (f:Cell->Option α),Zcm h esz false true x [.v (.c (.int .i64 (a:Int)))] f=f x')/\Zaq h esz x'=some (cs.take (a*esz))) /\
  (∃x',(∀{α:Type} (f:Cell->Option α),Zcm h esz true false x [.v (.c (.int .i64 (a:Int)))] f=f x')/\Zaq h esz x'=some (cs.drop (a*esz))):=by
 have hl:=o.1
 have hae:a*esz<=len*esz:=Nat.mul_le_mul_right _ ha
 rcases o.2 with ⟨rfl,rfl⟩ | ⟨k,rfl,hk,hb⟩
 ·omega
 ·have hok:Zho h esz k cs.length=true:=by unfold Zho;rw [hb];simp
  refine ⟨⟨.sl k cs.length (0+0*esz) (a - 0),fun f=>?_,?_⟩,⟨.sl k cs.length (0+a*esz) (len - a),fun f=>?_,?_⟩⟩
  ·unfold Zcm Zay
   simp only
   rw [if_pos hok,if_pos ⟨by omega,by omega⟩,Ye]
  ·unfold Zaq
   dsimp only
   by_cases h1:a - 0=0
   ·rw [if_pos h1,show a=0 by omega,Nat.zero_mul,Yba]
   ·rw [if_neg h1,hb]
    simp only
    rw [if_pos ⟨by trivial,by rw [Nat.sub_zero];omega⟩]
    simp
  ·unfold Zcm Zay
   simp only
   rw [if_pos hok,if_pos ⟨by omega,by omega⟩,Ye]
  ·unfold Zaq
   dsimp only
   have hm:(len - a)*esz=len*esz - a*esz:=Nat.sub_mul _ _ _
   by_cases h1:len - a=0
   ·rw [if_pos h1,Yam (by rw [show a=len by omega];omega)]
   ·rw [if_neg h1,hb]
    simp only
    rw [if_pos ⟨by trivial,by omega⟩,Yay,Yx (by rw [Yv];omega)]
theorem Zqz (l:List Ent) (j:Nat):(Zaa l).take (min j l.length*3)=Zaa (l.take j)/\(Zaa l).drop (min j l.length*3)=Zaa (l.drop j):=by
 have e:Zaa l=Zaa (l.take j)++Zaa (l.drop j):=by rw [←Zeg,Ybb]
 have hl:(Zaa (l.take j)).length=min j l.length*3:=by rw [entsC_len,Yp]
 rw [e,←hl]
 exact ⟨by rw [Yae (Yf _),Ybc],by rw [Yax (Yf _),Ydf,Yad]⟩
theorem Zq724 (loc:Int) (l:List Ent) (e:Ent):Zcj loc (l++[e])=if e.loc=loc then some e else Zcj loc l:=by
 unfold Zcj
 rw [Ybu,Ybi,Yaz,Yci]
 by_cases h:e.loc=loc
 ·rw [if_pos h,h,beq_self_eq_true]
 ·rw [if_neg h,beq_false_of_ne h]
def rvC (pc:List Cell) (V:MV) (bs:List Cell) (x:Cell):List Cell :=
 pc++(([.int .i64 V.m]:List Cell)++(intC .i64 V.mem++(intC .i64 V.frm++(V.lc.flatMap Lcl.cs++(bs++[x])))))
section
variable {V:MV} {pc bs:List Cell} {x:Cell} (f:V.Fit) (hpc:pc.length=3) (hbs:bs.length=4)
theorem Zsp (hpc:pc.length=3):((rvC pc V bs x).drop (0+0)).take 3=pc:=by
 unfold rvC
 exact Zip (a:=[]) rfl hpc
theorem rv_m (hpc:pc.length=3) {α:Type} {g:Cell->Option α}:Ze (rvC pc V bs x) (0+3) g=g (.int .i64 V.m):=by
 unfold rvC
 refine Zae ?_
 rw [Yh (by omega),hpc];rfl
theorem Zvc (_:V.Fit) (hpc:pc.length=3):∃A B:List Cell,rvC pc V bs x=A++(intC .i64 V.mem++B)/\A.length=0+4/\∀l':List Int,rvC pc { V with mem:=l' } bs x=A++(intC .i64 l'++B):=by
 refine ⟨pc++[.int .i64 V.m],intC .i64 V.frm++(V.lc.flatMap Lcl.cs++(bs++[x])),?_,?_,fun l'=>?_⟩
 ·unfold rvC;simp only [Yg]
 ·simp only [Yb,hpc,Yo,Yu]
 ·unfold rvC;simp only [Yg]
include f hpc
theorem Zuv:∃A B:List Cell,rvC pc V bs x=A++(intC .i64 V.frm++B)/\A.length=0+8/\∀l':List Int,rvC pc { V with frm:=l' } bs x=A++(intC .i64 l'++B):=by
 have:=f.mem
 refine ⟨pc++(([.int .i64 V.m]:List Cell)++intC .i64 V.mem),V.lc.flatMap Lcl.cs++(bs++[x]),?_,?_,fun l'=>?_⟩
 ·unfold rvC;simp only [Yg]
 ·simp only [Yb,hpc,Yo,Yu,intC_len];omega
 ·unfold rvC;simp only [Yg]
theorem Zvx {t:Nat} {l:Lcl} (h:V.lc[t]? = some l):∃A B:List Cell,rvC pc V bs x=A++(l.cs++B)/\A.length=(0+12)+t*5/\∀l':Lcl,rvC pc { V with lc:=V.lc.set t l' } bs x=A++(l'.cs++B):=by
 have hi:=Zf h
 have e:=Zep (f.lcs hpc) (Yao hi)
 have:=f.mem;have:=f.frm
 refine ⟨pc++(([.int .i64 V.m]:List Cell)++(intC .i64 V.mem++(intC .i64 V.frm++(V.lc.take t).flatMap Lcl.cs))),(V.lc.drop (t+1)).flatMap Lcl.cs++(bs++[x]),?_,?_,fun l'=>?_⟩
 ·unfold rvC;rw [Zfn h];simp only [Yg]
 ·simp only [Yb,e,hpc,Yo,Yu,intC_len];omega
 ·unfold rvC;dsimp only;rw [Zos hi];simp only [Yg]
theorem Zhv:∃A:List Cell,A.length=0+32/\∀bs x,rvC pc V bs x=A++(bs++[x]):=by
 have e2:=Zdq (f.lcs hpc)
 have:=f.lc;have:=f.mem;have:=f.frm
 refine ⟨pc++(([.int .i64 V.m]:List Cell)++(intC .i64 V.mem++(intC .i64 V.frm++V.lc.flatMap Lcl.cs))),?_,fun bs x=>?_⟩
 ·simp only [Yb,e2,hpc,Yo,Yu,intC_len];omega
 ·unfold rvC;simp only [Yg]
theorem Zsn {t:Nat} {l:Lcl} (h:V.lc[t]? = some l):((rvC pc V bs x).drop ((0+12)+t*5)).take 5=l.cs:=by
 obtain ⟨A,B,e,hA,_⟩:=Zvx (bs:=bs) (x:=x) f hpc h
 rw [e];exact Zip hA rfl
theorem Zyx {t:Nat} (ht:t<4) (l:Lcl):splice (rvC pc V bs x) ((0+12)+t*5) l.cs=rvC pc { V with lc:=V.lc.set t l } bs x:=by
 obtain ⟨A,B,e,hA,h2⟩:=Zvx (bs:=bs) (x:=x) f hpc (Yc (show t<V.lc.length by rw [f.lc];exact ht))
 rw [e,h2];exact Zsf hA rfl
theorem rv_mem {α:Type} {i:Nat} {v:Int} (h:V.mem[i]? = some v) {g:Cell->Option α}:Ze (rvC pc V bs x) ((0+4)+i*1) g=g (.int .i64 v):=by
 obtain ⟨A,B,e,hA,_⟩:=Zvc (bs:=bs) (x:=x) f hpc
 have hi:=Zf h
 refine Zae ?_
 rw [e,Yh (by omega),Yi (by rw [intC_len];omega),show 0+4+i*1 - A.length=i by omega]
 exact Zar h
theorem rv_frm {α:Type} {i:Nat} {v:Int} (h:V.frm[i]? = some v) {g:Cell->Option α}:Ze (rvC pc V bs x) ((0+8)+i*1) g=g (.int .i64 v):=by
 obtain ⟨A,B,e,hA,_⟩:=Zuv (bs:=bs) (x:=x) f hpc
 have hi:=Zf h
 refine Zae ?_
 rw [e,Yh (by omega),Yi (by rw [intC_len];omega),show 0+8+i*1 - A.length=i by omega]
 exact Zar h
theorem Zru {i:Nat} (hi:i<4) (v:Int):(rvC pc V bs x).set ((0+4)+i*1) (.int .i64 v)=rvC pc { V with mem:=V.mem.set i v } bs x:=by
 obtain ⟨A,B,e,hA,h2⟩:=Zvc (bs:=bs) (x:=x) f hpc
 have:=f.mem
 rw [e,h2,Yaa _ _ (by omega),Yaq _ _ (by rw [intC_len];omega),show 0+4+i*1 - A.length=i by omega]
 unfold intC
 rw [Yce]
theorem rv_setF {i:Nat} (hi:i<4) (v:Int):(rvC pc V bs x).set ((0+8)+i*1) (.int .i64 v)=rvC pc { V with frm:=V.frm.set i v } bs x:=by
 obtain ⟨A,B,e,hA,h2⟩:=Zuv (bs:=bs) (x:=x) f hpc
 have:=f.frm
 rw [e,h2,Yaa _ _ (by omega),Yaq _ _ (by rw [intC_len];omega),show 0+8+i*1 - A.length=i by omega]
 unfold intC
 rw [Yce]
include hbs
theorem Zcn:(rvC pc V bs x).length=37:=by
 obtain ⟨A,hA,e⟩:=Zhv f hpc
 rw [e]
 simp only [Yb,hA,hbs,Yo,Yu]
theorem Zeo {α:Type} {t:Nat} (ht:t<4) {g:Cell->Option α}:Ze (rvC pc V bs x) ((0+32)+t*1) g=g (bs.getD t .nils):=by
 obtain ⟨A,hA,e⟩:=Zhv f hpc
 refine Zae ?_
 rw [e,Yh (by omega),Yi (by omega),show 0+32+t*1 - A.length=t by omega,Yl,Yc (by omega)];rfl
theorem rv_setB {t:Nat} (ht:t<4) (c:Cell):(rvC pc V bs x).set ((0+32)+t*1) c=rvC pc V (bs.set t c) x:=by
 obtain ⟨A,hA,e⟩:=Zhv f hpc
 rw [e,e,Yaa _ _ (by omega),Yaq _ _ (by omega),show 0+32+t*1 - A.length=t by omega]
theorem Zec {α:Type} {g:Cell->Option α}:Ze (rvC pc V bs x) (0+36) g=g x:=by
 obtain ⟨A,hA,e⟩:=Zhv f hpc
 refine Zae ?_
 rw [e,Yh (by omega),Yh (by omega),hA,hbs];rfl
theorem rv_setX (y:Cell):(rvC pc V bs x).set (0+36) y=rvC pc V bs y:=by
 obtain ⟨A,hA,e⟩:=Zhv f hpc
 rw [e,e,Yaa _ _ (by omega),Yaa _ _ (by omega),hA,hbs];rfl
end
structure RvAt (n:Nat) (h:Za) (k:Nat) (x:Cell) (bs pc:List Cell) (V:MV):Prop where
 hn:n<=h.length
 nk:n<=k
 prog:ProgAt (h.take n) pc V.P
 blk:blk? h k=some ⟨true,0,rvC pc V bs x⟩
 st:Own n h x 7 (Zai V.st) V.st.length
 sep:¬Zv x k
 bl:bs.length=4
 bf:∀t,t<4->Own n h (bs.getD t .nils) 3 (Zaa (V.b t)) (V.b t).length/\¬Zv (bs.getD t .nils) k/\∀j,Zv (bs.getD t .nils) j->¬Zv x j
def Zey (V:MV) (i:Int):Bool:=decide (0<=i)&&V.may i.toNat
theorem mayI_nat (V:MV) (i:Nat):Zey V (i:Int)=V.may i:=by
 unfold Zey
 rw [decide_eq_true (by omega),Ye];rfl
theorem mayI_has (V:MV) (i:Int):Zey V i=Zor V.word i:=by
 unfold Zey Zor
 by_cases h0:0<=i
 ·rw [decide_eq_true h0,Yau,Yau,MV.word_bit]
  by_cases h:i<64
  ·rw [decide_eq_true h,Ybk]
  ·rw [decide_eq_false h,Yar,MV.may_out (by omega)]
 ·rw [decide_eq_false h0];rfl
theorem ent_loc {h:Za} {y:Cell} {l:List Ent} (o:SlAt h y 3 (Zaa l) l.length) {i:Nat} {e:Ent} (hq:l[i]? = some e) {α:Type} {f:Cell->Option α} :
  (Zl 3 y (i:Int) fun k N o=>Zp h k N fun l=>Ze l (o+0) f)=f (.int .i64 e.loc):=o.get (Zf hq) (by omega) (by rw [Zgu l i e hq 0 (by omega)];rfl)
theorem ent_val {h:Za} {y:Cell} {l:List Ent} (o:SlAt h y 3 (Zaa l) l.length) {i:Nat} {e:Ent} (hq:l[i]? = some e) {α:Type} {f:Cell->Option α} :
  (Zl 3 y (i:Int) fun k N o=>Zp h k N fun l=>Ze l (o+1) f)=f (.int .i64 e.val):=o.get (Zf hq) (by omega) (by rw [Zgu l i e hq 1 (by omega)];rfl)
theorem ent_id {h:Za} {y:Cell} {l:List Ent} (o:SlAt h y 3 (Zaa l) l.length) {i:Nat} {e:Ent} (hq:l[i]? = some e) {α:Type} {f:Cell->Option α} :
  (Zl 3 y (i:Int) fun k N o=>Zp h k N fun l=>Ze l (o+2) f)=f (.int .i64 e.id):=o.get (Zf hq) (by omega) (by rw [Zgu l i e hq 2 (by omega)];rfl)
section
variable {E:Env}
theorem Zlx (hE:q198_In E) {n k:Nat} {h:Za} {x:Cell} {bs pc:List Cell} {V:MV} (a:RvAt n h k x bs pc V) (f:V.Fit) {t:Nat} (ht:t<4) (loc:Int) (p:Ent->Bool) (hp:∀e,(decide (loc<0)||e.loc==loc)=p e) :
  R E 198 [.c (.ptr k 37 0),.c (.int .i64 (t:Int)),.c (.int .i64 loc)] h=some ([.c (.int .i64 (match (V.b t).findIdx? p with | some i=>(i:Int) | none=>-1))],h):=by
 refine Zd hE.fn ?_
 have hpc:=a.prog.len
 have hl:=Zcn (x:=x) f hpc a.bl
 have rd:∀{α:Type} {F:List Cell->Option α},Zp h k 37 F=F (rvC pc V bs x):=fun {α F}=>Zy a.blk hl
 have hr:0<=(t:Int)/\(t:Int)<((4:Nat):Int):=⟨by omega,by omega⟩
 have o:=(a.bf t ht).1.at
 have hbl:(V.b t).length<=24:=f.b _ (Yj (MV.b_at (by rw [f.bf];exact ht)))
 have hL:=Zuq (F:=q198_F1 (R E) Zq E.glob) (fun i=>q198_s1 k 37 0 (t:Int) loc (i:Int) h) (fun i=>q198_x1_0 (i:Int) h) (q198_x1_1 h) 0 (V.b t) p (fun i q hq=>by
  have hi:=Zf hq
  rw [q198_r1,if_pos hr,rd,Ye,Zeo f hpc a.bl ht,o.len,if_pos (by simp;omega)]
  simp only [rd,if_pos hr,Zeo f hpc a.bl ht,ent_loc o hq,asI_ok,scK_or]
  rw [hp q,Zo (by omega)]) (by rw [q198_r1,if_pos hr,rd,Ye,Zeo f hpc a.bl ht,o.len,if_neg (by simp)])
 have hL':Zq (q198_F1 (R E) Zq E.glob) (q198_s1 k 37 0 (t:Int) loc 0 h)=_:=hL
 rw [q198_eq,hL',bind_ok]
 cases (V.b t).findIdx? p with
 | none=>dsimp only;rw [q198_e1_1]
 | some i=>dsimp only;rw [q198_e1_0]
def Zjh (m i:Int):Int × Int × Bool :=
 if m=2/\4<=i/\i<8 then (i - 4,-1,true) else if m=3/\8<=i/\i<24 then ((i - 8) / 4,(i - 8) % 4,true) else (0,0,false)
theorem Zjr (hE:q197_In E) {n k:Nat} {h:Za} {x:Cell} {bs pc:List Cell} {V:MV} (a:RvAt n h k x bs pc V) (f:V.Fit) (i:Int) :
  R E 197 [.c (.ptr k 37 0),.c (.int .i64 i)] h=some ([.c (.int .i64 (Zjh V.m i).1),.c (.int .i64 (Zjh V.m i).2.1),.c (.bool (Zjh V.m i).2.2)],h):=by
 refine Zd hE.fn ?_
 have hpc:=a.prog.len
 have hl:=Zcn (x:=x) f hpc a.bl
 have rd:∀{α:Type} {F:List Cell->Option α},Zp h k 37 F=F (rvC pc V bs x):=fun {α F}=>Zy a.blk hl
 rw [q197_eq]
 simp only [rd,rv_m hpc,asI_ok,scK_and]
 unfold Zjh
 by_cases h2:V.m=2/\4<=i/\i<8
 ·rw [if_pos (by simp;omega),if_pos h2,Zj (by omega) (by omega)]
 ·rw [if_neg (by simp;omega),if_neg h2]
  by_cases h3:V.m=3/\8<=i/\i<24
  ·rw [if_pos (by simp;omega),if_pos h3,Zj (by omega) (by omega),g_quo,g_rem,Yca (by omega),Ycb (by omega),Zfo (by omega) (by omega)]
  ·rw [if_neg (by simp;omega),if_neg h3]
theorem findIdx_some {l:List Ent} {p:Ent->Bool}:(decide ((match l.findIdx? p with | some i=>(i:Int) | none=>-1)>=0))=(l.find? p).isSome:=by
 cases hf:l.findIdx? p with
 | none =>
  rw [Yai] at hf
  have:l.find? p=none:=by
   rw [Ycv]
   intro e he
   rw [hf e he];simp
  rw [this];rfl
 | some i =>
  obtain ⟨hi,hp,_⟩:=Yr.1 hf
  have:(l.find? p).isSome=true:=by rw [List.find?_isSome];exact ⟨_,Ydg hi,hp⟩
  rw [this]
  exact decide_eq_true (by dsimp only;omega)
theorem Zzn (hE:q196_In E) {n k:Nat} {h:Za} {x:Cell} {bs pc:List Cell} {V:MV} (a:RvAt n h k x bs pc V) (f:V.Fit) (hg:V.P.good) (i:Int) :
  R E 196 [.c (.ptr k 37 0),.c (.int .i64 i)] h=some ([.c (.bool (Zey V i))],h):=by
 refine Zd hE.fn ?_
 have hpc:=a.prog.len
 have hl:=Zcn (x:=x) f hpc a.bl
 have rd:∀{α:Type} {F:List Cell->Option α},Zp h k 37 F=F (rvC pc V bs x):=fun {α F}=>Zy a.blk hl
 have p:=Zeq a.prog a.hn (Kp.refl n h)
 rw [q196_eq,scK_and]
 by_cases h4:0<=i/\i<4
 ·obtain ⟨t,rfl⟩:=Yag h4.1
  have ht:t<4:=by omega
  have hr:0<=(t:Int)/\(t:Int)<((4:Nat):Int):=⟨by omega,by omega⟩
  have hql:=MV.l_at (V:=V) (t:=t) (by rw [f.lc];exact ht)
  have o:=(a.bf t ht).1.at
  rw [if_pos (by simp;omega),rd,if_pos (by rw [hl];omega),if_pos hr,rd,Ye,if_pos (by rw [hl];omega),Zsp hpc,Zsn f hpc hql,Zlw hE.c81 hg p,qh_ok,c2_ok,asA_ok,asB_ok,if_pos (by exact ⟨rfl,rfl,rfl⟩)]
  simp only [ins_kind,asI_ok,scK_and,rd,if_pos hr,Zeo f hpc a.bl ht,o.len,scK_or]
  rw [mayI_nat]
  have hT:V.may t=match Zbg (V.P.code t) (V.l t) with | none=>false | some i=>!(i.kind==3||i.kind==4)||(V.b t).length==0:=by
   unfold MV.may;rw [if_pos ht];rfl
  rw [hT]
  cases hn:Zbg (V.P.code t) (V.l t) with
  | none=>rfl
  | some q =>
   dsimp only [Ycf,Ycx]
   have e:((((V.b t).length:Nat):Int)==0)=((V.b t).length==0):=by rw [Yah,beq_iff_eq,beq_iff_eq];omega
   rw [e,Yau]
   have:(q.kind != 3&&q.kind != 4)=!(q.kind==3||q.kind==4):=by cases h3:(q.kind==3)<;>cases h4:(q.kind==4)<;>simp [bne,h3,h4]
   rw [this]
 ·rw [if_neg (by simp;omega),Zjr hE.c197 a f,c3_ok,asI_ok,asI_ok,asB_ok]
  unfold Zjh
  by_cases h2:V.m=2/\4<=i/\i<8
  ·rw [if_pos h2]
   obtain ⟨t,rfl⟩:=Yag (show 0<=i by omega)
   dsimp only
   rw [scK_ok,show ((t:Int) - 4)=((t - 4:Nat):Int) by omega,Zlx hE.c198 a f (by omega) (-1) (Zch 2 0) (fun e=>rfl),c1_ok,asI_ok,findIdx_some,bind_ok]
   dsimp only
   rw [mayI_nat]
   congr 4
   unfold MV.may MV.mayF
   rw [if_neg (by omega),if_pos (by omega),h2.1]
   cases V.b (t - 4) with
   | nil=>rfl
   | cons e l=>rfl
  ·rw [if_neg h2]
   by_cases h3:V.m=3/\8<=i/\i<24
   ·rw [if_pos h3]
    obtain ⟨t,rfl⟩:=Yag (show 0<=i by omega)
    dsimp only
    rw [scK_ok,show (((t:Int) - 8) / 4)=(((t - 8) / 4:Nat):Int) by omega,show (((t:Int) - 8) % 4)=(((t - 8) % 4:Nat):Int) by omega,Zlx hE.c198 a f (by omega) _ (Zch 3 (((t - 8) % 4:Nat):Int)) (fun e=>by rw [decide_eq_false (by omega)];rfl),c1_ok,asI_ok,findIdx_some,bind_ok]
    dsimp only
    rw [mayI_nat]
    congr 4
    unfold MV.may MV.mayL
    rw [if_neg (by omega),if_neg (by omega),if_pos (by omega),h3.1]
    rfl
   ·rw [if_neg h3]
    dsimp only
    rw [scK_ft]
    congr 4
    unfold Zey
    by_cases h0:0<=i
    ·rw [decide_eq_true h0,Yau]
     have hm:=f.m
     unfold MV.may MV.mayF MV.mayL
     rw [if_neg (by omega)]
     by_cases h8:i.toNat<8
     ·rw [if_pos h8,beq_false_of_ne (by omega)];rfl
     ·rw [if_neg h8]
      by_cases h24:i.toNat<24
      ·rw [if_pos h24,beq_false_of_ne (by omega)];rfl
      ·rw [if_neg h24]
    ·rw [decide_eq_false h0];rfl
end
theorem ents_at {l:List Ent} {i:Nat} {e:Ent} (h:l[i]? = some e):((Zaa l).drop (i*3)).take 3=e.cs:=by
 unfold Zaa
 rw [Zfn h]
 exact Zip (Zep (f:=Ent.cs) (n:=3) (fun _ _=>rfl) (Yao (Zf h))) rfl
theorem rd0G {α:Type} {h:Za} {k N:Nat} {l:List Cell} (hb:blk? h k=some ⟨true,0,l⟩) (hl:l.length=N) {F:List Cell->Option α}:rd0 h k N F=F l:=by
 unfold rd0
 rw [hb,Yal,if_pos rfl]
 exact Zy hb hl
theorem Own.via {n:Nat} {h h':Za} {y:Cell} {esz len:Nat} {cs:List Cell} (o:Own n h y esz cs len) (hf:∀j b,Zv y j->blk? h j=some b->blk? h' j=some b):Own n h' y esz cs len:=by
 refine ⟨o.1,o.2.imp id ?_⟩
 rintro ⟨j,rfl,h1,h2⟩
 exact ⟨j,rfl,h1,hf j _ rfl h2⟩
theorem flu_data {V:MV} {i:Nat} (h4:¬i<4) (hi:V.may i=true):∃(t:Nat) (loc:Int) (p:Ent->Bool) (e:Ent),t<4/\(∀e,(decide (loc<0)||e.loc==loc)=p e)/\Zjh V.m i=((t:Int),loc,true)/\(V.b t).find? p=some e/\V.stp i=⟨i,t,6,e.loc,0,e.val,e.id⟩ /\
  (V.nx i)={ V with bf:=V.bf.set t ((V.b t).eraseP p),mem:=V.mem.set e.loc.toNat e.val,frm:=V.frm.set e.loc.toNat e.id,st:=V.st++[V.stp i] }:=by
 have h24:=MV.may_lt hi
 have key:∀(t:Nat) (loc:Int) (e:Ent),(V.b t).find? (Zch (Zbf V.m) loc)=some e->V.stp i={ V.fluS t loc with pick:=i }->V.nx i={ V.fluM t loc with st:=V.st++[V.stp i] } ->
   V.stp i=⟨i,t,6,e.loc,0,e.val,e.id⟩/\(V.nx i)={ V with bf:=V.bf.set t ((V.b t).eraseP (Zch (Zbf V.m) loc)),mem:=V.mem.set e.loc.toNat e.val,frm:=V.frm.set e.loc.toNat e.id,st:=V.st++[V.stp i] }:=by
  intro t loc e he e1 e2
  have hee:V.fluE t loc=e:=by unfold MV.fluE;rw [he];rfl
  refine ⟨?_,?_⟩
  ·rw [e1];unfold MV.fluS;rw [hee]
  ·rw [e2];unfold MV.fluM;rw [hee]
 by_cases h8:i<8
 ·have hi':=hi
  unfold MV.may MV.mayF at hi'
  rw [if_neg h4,if_pos h8,Yn] at hi'
  have hm2:V.m=2:=beq_iff_eq.1 hi'.1
  have hne:(V.b (i - 4)).length≠0:=by simpa using hi'.2
  obtain ⟨e,he⟩:∃e,(V.b (i - 4)).find? (Zch (Zbf V.m) 0)=some e:=by
   rw [hm2]
   cases hbb:V.b (i - 4) with
   | nil=>rw [hbb] at hne;exact absurd rfl hne
   | cons e l=>exact ⟨e,rfl⟩
  obtain ⟨k1,k2⟩:=key (i - 4) 0 e he (by unfold MV.stp;rw [if_neg h4,if_pos h8]) (by unfold MV.nx;rw [if_neg h4,if_pos h8])
  refine ⟨i - 4,-1,Zch (Zbf V.m) 0,e,by omega,fun e=>by rw [hm2];rfl,?_,he,k1,k2⟩
  unfold Zjh
  rw [if_pos ⟨hm2,by omega,by omega⟩,show ((i:Int) - 4)=((i - 4:Nat):Int) by omega]
 ·have hi':=hi
  unfold MV.may MV.mayL at hi'
  rw [if_neg h4,if_neg h8,if_pos h24,Yn] at hi'
  have hm3:V.m=3:=beq_iff_eq.1 hi'.1
  obtain ⟨e,he⟩:=Ych.1 hi'.2
  have he':(V.b ((i - 8) / 4)).find? (Zch (Zbf V.m) (((i - 8) % 4:Nat):Int))=some e:=by rw [hm3];exact he
  obtain ⟨k1,k2⟩:=key ((i - 8) / 4) _ e he' (by unfold MV.stp;rw [if_neg h4,if_neg h8]) (by unfold MV.nx;rw [if_neg h4,if_neg h8])
  refine ⟨(i - 8) / 4,(((i - 8) % 4:Nat):Int),_,e,by omega,fun e=>?_,?_,he',k1,k2⟩
  ·rw [decide_eq_false (by omega),hm3];rfl
  ·unfold Zjh
   rw [if_neg (by omega),if_pos ⟨hm3,by omega,by omega⟩,show (((i:Int) - 8) / 4)=(((i - 8) / 4:Nat):Int) by omega,show (((i:Int) - 8) % 4)=(((i - 8) % 4:Nat):Int) by omega]
theorem Zxd {l:List Ent} {p:Ent->Bool} {e:Ent} (he:l.find? p=some e):∃j,l.findIdx? p=some j/\l[j]? = some e/\l.eraseP p=l.take j++l.drop (j+1):=by
 obtain ⟨j,hj⟩:∃j,l.findIdx? p=some j:=by
  cases hx:l.findIdx? p with
  | some j=>exact ⟨j,rfl⟩
  | none =>
   rw [Yai] at hx
   have:=hx e (Yw he)
   rw [Ybq he] at this;cases this
 obtain ⟨h1,h2,h3⟩:=Yr.1 hj
 have hfi:l.find? p=some l[j]:=by
  rw [Yav]
  exact ⟨h2,j,h1,rfl,fun k hk=>by have:=h3 k hk;simpa using this⟩
 rw [hfi] at he
 refine ⟨j,hj,by rw [Yc h1];exact he,?_⟩
 rw [Ybh,hj]
 exact Yat _ _
section
variable {E:Env}
theorem Zzx {n k:Nat} {h:Za} {x:Cell} {bs pc:List Cell} {W:MV} (b:blk? h k=some ⟨true,0,rvC pc W bs x⟩) (f:W.Fit) (hpc:pc.length=3) (bl:bs.length=4) (hn:n<=h.length) (nk:n<=k) (prog:ProgAt (h.take n) pc W.P) (st:Own n h x 7 (Zai W.st) W.st.length) (sep:¬Zv x k)
  (bf:∀t,t<4->Own n h (bs.getD t .nils) 3 (Zaa (W.b t)) (W.b t).length/\¬Zv (bs.getD t .nils) k/\∀j,Zv (bs.getD t .nils) j->¬Zv x j) (hst:W.st.length<100000) (s:Stp) :
  ∃x' h',(∀{α:Type} (F:Za->Option α),(Zao 7 56 x s.cs h fun x_57 h_58=>Zp h_58 k 37 fun l_59=>if (0+36)<l_59.length then Zbe h_58 k (l_59.set (0+36) x_57) F else none)=F h') /\
   RvAt n h' k x' bs pc { W with st:=W.st++[s] }/\Kp n h h'/\(∀j b,blk? h j=some b->j≠k->¬Zv x j->blk? h' j=some b/\¬Zv x' j):=by
 have hb:maxBytes>=200000*56:=by unfold maxBytes;omega
 obtain ⟨x',h',e1,o1,k1,r1⟩:=st.app (bytes:=56) hn (Zgb s) (by omega) (by omega) (by omega)
 obtain ⟨c1,c2⟩:=r1 k _ b sep
 have hl:=Zcn (x:=x) f hpc bl
 have kp2:Kp n h (setBlk h' k (some ⟨true,0,rvC pc W bs x'⟩)):=k1.trans (Kp.set nk _)
 have fr:∀j b,blk? h j=some b->j≠k->¬Zv x j->blk? (setBlk h' k (some ⟨true,0,rvC pc W bs x'⟩)) j=some b/\¬Zv x' j:=fun j b hj hne hnx=>by
  obtain ⟨d1,d2⟩:=r1 j b hj hnx
  exact ⟨by rw [Zbh (fun e=>hne e.symm)];exact d1,d2⟩
 refine ⟨x',setBlk h' k (some ⟨true,0,rvC pc W bs x'⟩),fun F=>?_,⟨Yy hn kp2.1,nk,?_,Zad (Zan c1) _,?_,c2,bl,fun t ht=>?_⟩,kp2,fr⟩
 ·rw [e1,Zy c1 hl,if_pos (by rw [hl];omega),rv_setX f hpc bl,Zfx c1]
 ·rw [Zfh kp2];exact prog
 ·show Own n _ x' 7 (Zai (W.st++[s])) (W.st++[s]).length
  rw [Zmy,Yb,Yq]
  exact o1.setO c2 _
 ·obtain ⟨b1,b2,b3⟩:=bf t ht
  have hj:∀j b,Zv (bs.getD t .nils) j->blk? h j=some b->blk? (setBlk h' k (some ⟨true,0,rvC pc W bs x'⟩)) j=some b/\¬Zv x' j:=fun j b q1 q2=>fr j b q2 (fun e=>b2 (e ▸ q1)) (b3 j q1)
  refine ⟨b1.via fun j b q1 q2=>(hj j b q1 q2).1,b2,fun j q=>?_⟩
  obtain ⟨_,hlt⟩:=b1.blkLt' q
  rcases b1.2 with ⟨e,_⟩ | ⟨j',e,_,hbb⟩
  ·rw [e] at q;exact absurd q (by simp [Zv])
  ·have:j'=j:=by rw [e] at q;exact q
   subst this
   exact (hj j' _ q hbb).2
set_option maxHeartbeats 2000000 in
theorem rFlush (hE:q182_In E) {n k:Nat} {h:Za} {x:Cell} {bs pc:List Cell} {V:MV} (a:RvAt n h k x bs pc V) (v:V.Inv) (hst:V.st.length<100000) {i:Int} {t:Nat} (ht:t<4) {loc:Int} {p:Ent->Bool} {e:Ent}
  (hp:∀e,(decide (loc<0)||e.loc==loc)=p e) (hf:(V.b t).find? p=some e) (z:List Cell) (hz:z.length=7) :
  ∃x' bs' h',(q182_k6 (R E) Zq E.glob) .normal (q182_c5 k 37 0 i V.st.length (t:Int) loc true z (Stp.cs ⟨i,i,0,0,0,0,-1⟩) h)=some (.ret,q182_c4_0 true (Stp.cs ⟨i,t,6,e.loc,0,e.val,e.id⟩) h') /\
   RvAt n h' k x' bs' pc { V with bf:=V.bf.set t ((V.b t).eraseP p),mem:=V.mem.set e.loc.toNat e.val,frm:=V.frm.set e.loc.toNat e.id,st:=V.st++[⟨i,t,6,e.loc,0,e.val,e.id⟩] }/\KpV n k x x' h h':=by
 have f:=v.fit
 have hpc:=a.prog.len
 have hl:=Zcn (x:=x) f hpc a.bl
 have hr:0<=(t:Int)/\(t:Int)<((4:Nat):Int):=⟨by omega,by omega⟩
 have hk:k<h.length:=Zan a.blk
 have hbl:=v.blen ht
 obtain ⟨j,hj,hje,her⟩:=Zxd hf
 have hjl:=Zf hje
 have hel:=v.mem_b (Yj hje)
 have hel':0<=e.loc/\e.loc<((4:Nat):Int):=⟨hel.1,by omega⟩
 have he4:e.loc.toNat<4:=by omega
 have hM:maxBytes>=1000*24:=by unfold maxBytes;omega
 obtain ⟨b1,b2,b3⟩:=a.bf t ht
 have kA:Kp h.length h (h++[some ⟨true,3,([]:List Cell)⟩]):=Kp.app _ (Yf _)
 obtain ⟨⟨xa,ea1,ea2⟩,_⟩:=(b1.keepK kA).slc (by omega) (a:=j) (by omega)
 have tk:=Zqz (V.b t) j
 rw [Yaw (by omega)] at tk
 rw [tk.1] at ea2
 have lenA:(Zaa ((V.b t).take j)).length=j*3:=by rw [entsC_len,Yp,Yaw (by omega)]
 have kB:Kp h.length h (h++[some ⟨true,3,Zaa ((V.b t).take j)⟩]):=Kp.app _ (Yf _)
 have oB:Own h.length (h++[some ⟨true,3,Zaa ((V.b t).take j)⟩]) (.sl h.length (Zaa ((V.b t).take j)).length 0 j) 3 (Zaa ((V.b t).take j)) j:=⟨lenA,.inr ⟨h.length,rfl,Yf _,Zw _ _⟩⟩
 obtain ⟨_,⟨xb,eb1,eb2⟩⟩:=(b1.keepK kB).slc (by omega) (a:=j+1) (by omega)
 have tk2:=Zqz (V.b t) (j+1)
 rw [Yaw (by omega)] at tk2
 rw [tk2.2] at eb2
 have lenB:(Zaa ((V.b t).drop (j+1))).length=((V.b t).length - (j+1))*3:=by rw [entsC_len,Yv]
 obtain ⟨x3,h3,e3,o3,k3,_⟩:=oB.appN (bytes:=24) (by simp) lenB (by omega) (by omega) (by omega)
 have kC:Kp h.length h h3:=kB.trans k3
 have nl:((V.b t).eraseP p).length=j+((V.b t).length - (j+1)):=by rw [her,Yb,Yp,Yv,Yaw (by omega)]
 have o3':Own h.length h3 x3 3 (Zaa ((V.b t).eraseP p)) ((V.b t).eraseP p).length:=by rw [nl,her,Zeg];exact o3
 have bk3:blk? h3 k=some ⟨true,0,rvC pc V bs x⟩:=by rw [kC.blk hk];exact a.blk
 have bl':(bs.set t x3).length=4:=by rw [Yk];exact a.bl
 have el24:((V.b t).eraseP p).length<=24:=by omega
 have f1:MV.Fit { V with bf:=V.bf.set t ((V.b t).eraseP p) }:=⟨f.m,f.lc,f.mem,f.frm,by rw [Yk];exact f.bf,fun l hl=>by
  rcases Yaj hl with hl | rfl
  ·exact f.b l hl
  ·exact el24⟩
 have f2:MV.Fit { V with bf:=V.bf.set t ((V.b t).eraseP p),mem:=V.mem.set e.loc.toNat e.val }:=⟨f1.m,f1.lc,by rw [Yk];exact f1.mem,f1.frm,f1.bf,f1.b⟩
 have f3:MV.Fit { V with bf:=V.bf.set t ((V.b t).eraseP p),mem:=V.mem.set e.loc.toNat e.val,frm:=V.frm.set e.loc.toNat e.id }:=⟨f2.m,f2.lc,f2.mem,by rw [Yk];exact f2.frm,f2.bf,f2.b⟩
 have hbW:∀(t':Nat),(MV.mk V.P V.m V.lc (V.mem.set e.loc.toNat e.val) (V.frm.set e.loc.toNat e.id) (V.bf.set t ((V.b t).eraseP p)) V.st).b t'=if t'=t then (V.b t).eraseP p else V.b t':=fun t'=>by
  show (V.bf.set t _).getD t' []=_
  rw [Zcw (by rw [f.bf];exact ht)];rfl
 have k3l:k<h3.length:=Zan bk3
 have bw:∀l,blk? (setBlk h3 k (some ⟨true,0,l⟩)) k=some ⟨true,0,l⟩:=fun l=>Zad k3l _
 have kD:∀b,Kp n h (setBlk h3 k b):=fun b=>(kC.mono a.hn).trans (Kp.set a.nk b)
 have xlt:∀j,Zv x j->j<h.length:=fun j q=>(a.st.blkLt' q).2
 obtain ⟨x',h',e9,r9,k9,fr9⟩:=Zzx (W:={ V with bf:=V.bf.set t ((V.b t).eraseP p),mem:=V.mem.set e.loc.toNat e.val,frm:=V.frm.set e.loc.toNat e.id }) (bs:=bs.set t x3) (bw _) f3 hpc bl' (Yy a.hn (kD _).1) a.nk (by rw [Zfh (kD _)];exact a.prog)
  ((a.st.keepK kC).setO a.sep _) a.sep (fun t' ht'=>by
   rw [hbW,Zcw (by rw [a.bl];exact ht)]
   by_cases e:t'=t
   ·rw [if_pos e,if_pos e]
    have nk3:¬Zv x3 k:=fun q=>by have:=(o3.blkLt q).2;omega
    exact ⟨(o3'.monoN a.hn).setO nk3 _,nk3,fun j q1 q2=>by have:=(o3.blkLt q1).2;have:=xlt j q2;omega⟩
   ·rw [if_neg e,if_neg e]
    obtain ⟨q1,q2,q3⟩:=a.bf t' ht'
    exact ⟨(q1.keepK kC).setO q2 _,q2,q3⟩) hst ⟨i,t,6,e.loc,0,e.val,e.id⟩
 refine ⟨x',bs.set t x3,h',?_,r9,⟨(kD _).trans k9,fun j b hj hne hnx=>fr9 j b (by rw [Zbh (fun e=>hne e.symm),kC.blk (Zan hj)];exact hj) hne hnx⟩⟩
 have rd:∀{α:Type} {F:List Cell->Option α},Zp h k 37 F=F (rvC pc V bs x):=fun {α F}=>Zy a.blk hl
 have bA:blk? (h++[some ⟨true,3,([]:List Cell)⟩]) k=some ⟨true,0,rvC pc V bs x⟩:=Zas a.blk _
 have bB:blk? (h++[some ⟨true,3,Zaa ((V.b t).take j)⟩]) k=some ⟨true,0,rvC pc V bs x⟩:=Zas a.blk _
 have rdW:∀(W:MV) (fW:W.Fit) {α:Type} {F:List Cell->Option α},Zp (setBlk h3 k (some ⟨true,0,rvC pc W (bs.set t x3) x⟩)) k 37 F=F (rvC pc W (bs.set t x3) x):=fun W fW {α F}=>Zy (bw _) (Zcn (x:=x) fW hpc bl')
 obtain ⟨off,cs',g1,g2,g3⟩:=b1.at.elG hjl
 rw [ents_at hje] at g3
 have ca0:∀{α:Type} {g:Cell->Option α},Ze e.cs 0 g=g (.int .i64 e.loc):=rfl
 have ca1:∀{α:Type} {g:Cell->Option α},Ze e.cs 1 g=g (.int .i64 e.val):=rfl
 have ca2:∀{α:Type} {g:Cell->Option α},Ze e.cs 2 g=g (.int .i64 e.id):=rfl
 rw [q182_ec5_n,if_pos rfl,Zlx hE.c198 a f ht loc p hp,c1_ok,asI_ok,hj,bind_ok]
 dsimp only
 rw [q182_ec6_n,if_pos hr,rd,Ye,Zeo f hpc a.bl ht,g1,if_pos g2,g3,if_pos (by exact ⟨rfl,rfl,rfl⟩),bind_ok]
 dsimp only
 rw [q182_ec7_n,if_pos (by rfl),if_pos hr,Ye,rd0G bA hl,Zeo f hpc a.bl ht,ea1,ea2,bind_ok,show ([]:List Cell).length=0 from rfl,Zjn (len:=j) (by omega) lenA (by omega) (by omega),if_pos hr,rd0G bB hl,Zeo f hpc a.bl ht,Zo (by omega),eb1,eb2,bind_ok,e3,if_pos hr,Zy bk3 hl,if_pos (by rw [hl];omega),rv_setB f hpc a.bl ht,Zfx bk3,bind_ok]
 dsimp only
 rw [q182_ec8_n,ca0,asI_ok,ca0,asI_ok,ca1,asI_ok,ca2,asI_ok]
 have e1:rvC pc V (bs.set t x3) x=rvC pc { V with bf:=V.bf.set t ((V.b t).eraseP p) } (bs.set t x3) x:=rfl
 rw [e1,if_pos hel',rdW _ f1,if_pos (by rw [Zcn (x:=x) f1 hpc bl'];omega),Zru f1 hpc he4,Zfx (bw _),setBlk_set,if_pos hel',rdW _ f2,if_pos (by rw [Zcn (x:=x) f2 hpc bl'];omega),rv_setF f2 hpc he4,Zfx (bw _),setBlk_set,bind_ok]
 dsimp only
 rw [q182_ec9_n,ca0,asI_ok,ca1,asI_ok,ca2,asI_ok,if_pos (by exact (by decide:1<7)),if_pos (by exact (by decide:2<7)),if_pos (by exact (by decide:3<7)),if_pos (by exact (by decide:5<7)),if_pos (by exact (by decide:6<7)),bind_ok]
 dsimp only
 have eS:((((((Stp.cs ⟨i,i,0,0,0,0,-1⟩).set 1 (.int .i64 (t:Int))).set 2 (.int .i64 6)).set 3 (.int .i64 e.loc)).set 5 (.int .i64 e.val)).set 6 (.int .i64 e.id))=Stp.cs ⟨i,t,6,e.loc,0,e.val,e.id⟩:=rfl
 have s7':∀s:Stp,splice (Ya 7 ci0) 0 s.cs=s.cs:=fun _=>rfl
 rw [eS,q182_ec10_n,rdW _ f3,Zec f3 hpc bl',if_pos (by exact ⟨rfl,rfl⟩),if_pos (by exact ⟨rfl,by decide⟩),s7',if_pos (by exact rfl),e9,if_pos (by exact ⟨rfl,rfl⟩),if_pos (by exact ⟨rfl,hz,rfl⟩)]
end
end Jq
