/- YtjamopobfdnlkaaGreatDoorRaceGoesE: a part of the proof; no conditions of its own. -/
import Derived.KernelRfl
import Derived.Test.YtjamopobfdnlkaaGreatDoorRows
import Derived.WalkKit
import Derived.ProofKit
import Derived.OpenShut
import Derived.ShutString
import Derived.ChangeOld
import Derived.Below
import Derived.Carry
import Derived.Test.YtjamopobfdnlkaaGreatDoorCards
import Derived.Test.YtjamopobfdnlkaaGreatDoorTie
import Derived.SevenTiedAt
import Derived.LaidMore
import Derived.Stop.Joined
import Derived.Lib.LaidTab
import Derived.MakeChecks
import Derived.LaidHandle
import Derived.Stop.LaidErr
import Derived.Test.YtjamopobfdnlkaaGreatDoorRaceGoesD
set_option linter.unusedVariables false
set_option linter.unusedSectionVars false
set_option linter.unusedSimpArgs false
set_option maxRecDepth 100000
open List renaming replicate→Ya,length_append→Yb,getElem?_eq_getElem→Yc,length_singleton→Yd,getElem?_map→Yg,append_assoc→Yh,length_map→Yj,append_nil→Yk,take_of_length_le→Ym,mem_of_getElem?→Yo,range→Yq,nil_append→Yr,mem_filter→Yt,take_take→Yu,mem_range→Yv,mem_map→Yw
open Nat renaming le_trans→Ye,le_refl→Yf,le_of_lt→Yl,lt_trichotomy→Yp,min_eq_left→Ys
open Bool renaming and_eq_true→Yi
open Option renaming some→Yn
namespace Jq
open Go
def Zql (l:List Stp) (m:Int) (i:Nat) (a:Nat):Bool:=a != i&&!(hbF l m i).testBit a
def Zpv (l:List Stp) (a:Nat):Int:=match l[a]? with | some s=>s.pick | none=>0
def Zpc (l:List Stp) (m:Int) (i k:Nat):List Int:=((Yq k).filter (Zql l m i)).map (Zpv l)
def Zga (l:List Stp) (m:Int) (i k:Nat):List Int:=Zpc l m i k++[Zpv l k]
theorem Zq749 (l:List Stp) (m:Int) (i k:Nat):Zpc l m i (k+1)=Zpc l m i k++(if Zql l m i k=true then [Zpv l k] else []):=by
 unfold Zpc
 rw [List.range_succ,List.filter_append,List.map_append]
 congr 1
 by_cases h:Zql l m i k=true
 ·rw [if_pos h,List.filter_cons_of_pos h];rfl
 ·rw [if_neg h,List.filter_cons_of_neg h];rfl
theorem Zpz (l:List Stp) (m:Int) (i k:Nat):(Zpc l m i k).length<=k:=by
 unfold Zpc
 rw [Yj]
 have:=List.length_filter_le (Zql l m i) (Yq k)
 rwa [List.length_range] at this
section
variable {E:Env}
theorem Zxn (hE:q275_In E) {x:Cell} {l:List (Int × Int)} {h:Za} (hx:SlAt h x 2 (Zbo l) l.length) (hl:l.length<9223372036854775807) {p:Int × Int} (hp:p∈l) :
  R E 275 [.c x,.agg [.int .i64 p.1,.int .i64 p.2]] h=some ([.c (.bool true)],h):=by
 have loop:∀(n i:Nat),i+n=l.length->p∈l.drop i->∃r:Nat,(Zq (q284_F1 (R E) Zq E.glob) (q284_s1 x l.length (i:Int) [.int .i64 p.1,.int .i64 p.2] h)).bind (fun q=>q284_k3 (R E) Zq E.glob h q.1 q.2)=some ([.c (.int .i64 (r:Int))],h):=by
  intro n
  induction n with
  | zero =>
   intro i hi hm
   rw [List.drop_of_length_le (by omega)] at hm;cases hm
  | succ n ih =>
   intro i hi hm
   have hq:l[i]? = some l[i]:=Yc (by omega)
   have hdr:l.drop i=l[i] :: l.drop (i+1):=List.drop_eq_getElem_cons (by omega)
   generalize l[i]=q at hq hdr
   obtain ⟨off,c,g1,g2,g3⟩:=hx.pairG hq
   have ha:∀z:Int × Int,alike (Zdy z) [ci0,ci0]=true:=fun _=>rfl
   rw [hdr] at hm
   by_cases he:p=q
   ·refine ⟨i,?_⟩
    subst he
    have hr:q284_F1 (R E) Zq E.glob (q284_s1 x l.length (i:Int) [.int .i64 p.1,.int .i64 p.2] h)=some (.ret,q284_x1_0 (i:Int) h):=by
     rw [q284_r1,if_pos (by simp;omega),if_pos ⟨by trivial,by rfl⟩,g1,if_pos g2,g3,if_pos ⟨by rfl,ha p⟩,if_pos (decide_eq_true (show ([.int .i64 p.1,.int .i64 p.2]:List Cell)=Zdy p from rfl))]
    rw [Zcf hr,bind_ok,q284_e1_0]
   ·have hm':p∈l.drop (i+1):=by
     rcases List.mem_cons.1 hm with c | c
     ·exact absurd c he
     ·exact c
    obtain ⟨r,h1⟩:=ih (i+1) (by omega) hm'
    refine ⟨r,?_⟩
    have hne:¬([.int .i64 p.1,.int .i64 p.2]:List Cell)=Zdy q:=fun e=>he (by
     unfold Zdy at e
     simp only [List.cons.injEq,Cell.int.injEq] at e
     exact Prod.ext e.1.2 e.2.1.2)
    have hr:q284_F1 (R E) Zq E.glob (q284_s1 x l.length (i:Int) [.int .i64 p.1,.int .i64 p.2] h)=some (.normal,q284_s1 x l.length ((i+1:Nat):Int) [.int .i64 p.1,.int .i64 p.2] h):=by
     rw [q284_r1,if_pos (by simp;omega),if_pos ⟨by trivial,by rfl⟩,g1,if_pos g2,g3,if_pos ⟨by rfl,ha q⟩,if_neg (by rw [decide_eq_true_eq];exact hne),Zo (by omega)]
    cases hL:Zq (q284_F1 (R E) Zq E.glob) (q284_s1 x l.length ((i+1:Nat):Int) [.int .i64 p.1,.int .i64 p.2] h) with
    | none=>rw [hL] at h1;cases h1
    | some w =>
     rw [Zat hr hL]
     rw [hL] at h1;exact h1
 obtain ⟨r,h1⟩:=loop l.length 0 (by omega) (by rw [List.drop_zero];exact hp)
 have h3:R E 284 [.c x,.agg [.int .i64 p.1,.int .i64 p.2]] h=some ([.c (.int .i64 (r:Int))],h):=by
  refine Zd hE.c284.fn ?_
  rw [q284_eq,hx.len];exact h1
 refine Zd hE.fn ?_
 rw [q275_eq,if_pos ⟨by trivial,by rfl⟩,h3,c1_ok,asI_ok,decide_eq_true (show (r:Int)>=0 by omega)]
theorem EqualS_R (hE:q276_In E) {x y:Cell} {l:List Stp} {h:Za} (hx:SlAt h x 7 (Zai l) l.length) (hy:SlAt h y 7 (Zai l) l.length) (hl:l.length<9223372036854775807) :
  R E 276 [.c x,.c y] h=some ([.c (.bool true)],h):=by
 have lp:Zq (q276_F1 (R E) Zq E.glob) (q276_s1 x y (l.length:Int) ((0:Nat):Int) h)=some (.exit 0,q276_x1_1 h) :=
  Zax (F:=q276_F1 (R E) Zq E.glob) (fun i=>q276_s1 x y (l.length:Int) (i:Int) h) 0 l.length (by omega) (fun i _ hi=>by
   have hq:l[i]? = some l[i]:=Yc hi
   generalize l[i]=q at hq
   obtain ⟨off,c,g1,g2,g3⟩:=hx.stepG hq
   obtain ⟨off',c',g1',g2',g3'⟩:=hy.stepG hq
   rw [q276_r1,if_pos (by simp;omega),g1,if_pos g2,g3,g1',if_pos g2',g3',if_pos ⟨by rfl,by rfl⟩,if_neg (by simp),Zo (by omega)]) (Zm (by rw [q276_r1,if_neg (by simp)]))
 refine Zd hE.fn ?_
 rw [show ((0:Nat):Int)=0 from rfl] at lp
 rw [q276_eq,hx.len,hy.len,if_neg (by simp),hx.len,lp,bind_ok]
 dsimp only
 rw [q276_e1_1]
theorem Zgw {l:List Stp} {a:Nat} {s:Stp} (h:l[a]? = some s):Zpv l a=s.pick:=by unfold Zpv;rw [h]
theorem Zro (hE:q269_In E) (ht:Zil E) {h:Za} {pc:List Cell} {P:PProg} (p:ProgAt h pc P) {m:Int} (pl:Plays P m) {x:Cell} {l:List Stp} (hx:SlAt h x 7 (Zai l) l.length) (hlow:Low h.length x) {i k:Nat}
  (hmem:((i:Int),(k:Int))∈Zbj l m) (hik:i<k/\k<l.length) (hw:(MV.new P m).whole (l.map Stp.pick)) (hst:((MV.new P m).runs (l.map Stp.pick)).st=l) (hrev:(MV.new P m).whole (Zga l m i k)) :
  ∃z h',R E 269 [.agg pc,.c (.int .i64 m),.c x,.c (.int .i64 (i:Int)),.c (.int .i64 (k:Int))] h=some ([.c z,.c (.bool true)],h')/\Own h.length h' z 1 (intC .i64 (Zga l m i k)) (Zga l m i k).length/\Kp h.length h h':=by
 have hM:maxBytes>=1000*8:=by unfold maxBytes;omega
 have hl64:l.length<=64:=by
  rcases Nat.lt_or_ge 64 l.length with c | c
  ·unfold Zbj at hmem;rw [if_neg (by omega)] at hmem;cases hmem
  ·exact c
 obtain ⟨y1,h1,r1,o1,k1⟩:=Znu hE.c256 ht hx hlow m
 have hx1:=hx.keep hlow k1
 have hrl:(Zbj l m).length<=64*64:=by
  unfold Zbj
  rw [if_pos hl64]
  have:=Zhk (Zdc l.length (hbF l m) l m) hl64 l.length (Yf _)
  omega
 have rc:=Zxn hE.c275 o1.at (by omega) hmem
 obtain ⟨st,⟨y,h2,rfl,o2,k2⟩,hL⟩:=Zcb (F:=q269_F1 (R E) Zq E.glob)
  (fun a st=>∃y h',st=q269_s1 m x (i:Int) (k:Int) y x (l.length:Int) (a:Int) pc h'/\Own h1.length h' y 1 (intC .i64 ((l.map Stp.pick).take a)) a/\Kp h1.length h1 h') 0 l.length (by omega)
  (fun a st _ ha=>by
   rintro ⟨y,h',rfl,o,kk⟩
   have hq:l[a]? = some l[a]:=Yc ha
   generalize l[a]=s at hq
   have hx2:=hx.keep hlow (k1.trans (kk.mono k1.1))
   obtain ⟨off,c,g1,g2,g3⟩:=hx2.stepG hq
   obtain ⟨y2,h2,e2,o2,k2,_⟩:=o.app (bytes:=8) (xs:=[.int .i64 s.pick]) kk.1 rfl (by omega) (by omega) (by omega)
   refine ⟨q269_s1 m x (i:Int) (k:Int) y2 x (l.length:Int) ((a+1:Nat):Int) pc h2,?_,y2,h2,rfl,?_,kk.trans k2⟩
   ·rw [q269_r1,if_pos (by simp;omega),g1,if_pos g2,g3,if_pos ⟨by trivial,by rfl,by rfl⟩,stp_pick,asI_ok,if_pos (by rfl),show splice [ci0] 0 [(.int .i64 s.pick)]=[.int .i64 s.pick] from rfl,e2,Zo (by omega)]
   ·rw [Zal (p:=s.pick) (by rw [Yg,hq];rfl),intC_snoc]
    exact o2) (st:=q269_s1 m x (i:Int) (k:Int) .nils x (l.length:Int) ((0:Nat):Int) pc h1) ⟨.nils,h1,rfl,Own.nil _ _ _,Kp.refl _ _⟩
 have hr:=hL _ (Zm (show q269_F1 (R E) Zq E.glob (q269_s1 m x (i:Int) (k:Int) y x (l.length:Int) (l.length:Int) pc h2)=some (.exit 0,q269_x1_1 m x (i:Int) (k:Int) y pc h2) by rw [q269_r1,if_neg (by simp)]))
 rw [show ((0:Nat):Int)=0 from rfl] at hr
 rw [Ym (by rw [Yj];exact Yf _)] at o2
 have kk2:=k1.trans (k2.mono k1.1)
 have hml:(l.map Stp.pick).length=l.length:=Yj _
 have o2':Own h1.length h2 y 1 (intC .i64 (l.map Stp.pick)) (l.map Stp.pick).length:=by rw [hml];exact o2
 obtain ⟨z3,h3,r3,o3,k3⟩:=Zwo hE.c271 (p.keep kk2) pl o2'.at o2'.low (by omega)
 have hn2:((MV.new P m).runG (l.map Stp.pick)).2=l.length:=by
  have:=hw
  unfold MV.whole at this
  rw [this,hml]
 rw [hst] at o3
 rw [hn2] at r3
 have kk3:=kk2.trans (k3.mono kk2.1)
 have hx3:=hx.keep hlow kk3
 have re:=EqualS_R hE.c276 o3.at hx3 (by omega)
 have rhb:=HB_R hE.c255 hx3 (Zau kk3.1 hlow) hl64 m
 have o2c:=o2'.keepK k3
 obtain ⟨st,⟨w,h4,rfl,o4,k4⟩,hL4⟩:=Zcb (F:=q269_F2 (R E) Zq E.glob)
  (fun a st=>∃w h',st=q269_s2 m (i:Int) (k:Int) y w (k:Int) (a:Int) pc (Zs l.length (hbF l m)) h'/\Own h3.length h' w 1 (intC .i64 (Zpc l m i a)) (Zpc l m i a).length/\Kp h3.length h3 h') 0 k (by omega)
  (fun a st _ ha=>by
   rintro ⟨w,h',rfl,o,kk⟩
   have hq:l[a]? = some l[a]:=Yc (by omega)
   generalize l[a]=s at hq
   have hne:((a:Int) != (i:Int))=(a != i):=by rw [Bool.eq_iff_iff,bne_iff_ne,bne_iff_ne];omega
   have hlen:=Zpz l m i a
   have o2d:=(o2c.keepK kk).at
   have hstep:q269_F2 (R E) Zq E.glob (q269_s2 m (i:Int) (k:Int) y w (k:Int) (a:Int) pc (Zs l.length (hbF l m)) h')=if Zql l m i a=true then Zao 1 8 w [.int .i64 s.pick] h' (fun w' h''=>some (Ex.normal,q269_s2 m (i:Int) (k:Int) y w' (k:Int) ((a+1:Nat):Int) pc (Zs l.length (hbF l m)) h'')) else some (.normal,q269_s2 m (i:Int) (k:Int) y w (k:Int) ((a+1:Nat):Int) pc (Zs l.length (hbF l m)) h'):=by
    rw [q269_r2,if_pos (by simp;omega),hne,if_pos ⟨by trivial,relL_len _ _⟩,HasR_R hE.c3 hl64 (Zqt l m),c1_ok,asB_ok,Zzi (by omega) (by omega),scK_and]
    show (if Zql l m i a=true then _ else _)=_
    by_cases hp:Zql l m i a=true
    ·rw [if_pos hp,if_pos hp,o2d.get1 (by rw [hml];omega) (Zar (show (l.map Stp.pick)[a]? = some s.pick by rw [Yg,hq];rfl)),asI_ok,if_pos (by rfl),Zo (by omega)]
     rfl
    ·rw [if_neg hp,if_neg hp,Zo (by omega)]
   rw [Zq749,Zgw hq]
   by_cases hp:Zql l m i a=true
   ·obtain ⟨w2,h5,e5,o5,k5,_⟩:=o.app (bytes:=8) (xs:=[.int .i64 s.pick]) kk.1 rfl (by omega) (by omega) (by omega)
    refine ⟨q269_s2 m (i:Int) (k:Int) y w2 (k:Int) ((a+1:Nat):Int) pc (Zs l.length (hbF l m)) h5,by rw [hstep,if_pos hp,e5],w2,h5,rfl,?_,kk.trans k5⟩
    rw [if_pos hp,intC_snoc,Yb,Yd]
    exact o5
   ·refine ⟨q269_s2 m (i:Int) (k:Int) y w (k:Int) ((a+1:Nat):Int) pc (Zs l.length (hbF l m)) h',by rw [hstep,if_neg hp],w,h',rfl,?_,kk⟩
    rw [if_neg hp,Yk]
    exact o) (st:=q269_s2 m (i:Int) (k:Int) y .nils (k:Int) ((0:Nat):Int) pc (Zs l.length (hbF l m)) h3) ⟨.nils,h3,rfl,Own.nil _ _ _,Kp.refl _ _⟩
 have hr4:=hL4 _ (Zm (show q269_F2 (R E) Zq E.glob (q269_s2 m (i:Int) (k:Int) y w (k:Int) (k:Int) pc (Zs l.length (hbF l m)) h4)=some (.exit 2,q269_x2_3 m (k:Int) y w pc h4) by rw [q269_r2,if_neg (by simp)]))
 rw [show ((0:Nat):Int)=0 from rfl] at hr4
 have hqk:l[k]? = some l[k]:=Yc hik.2
 generalize l[k]=sk at hqk
 have hlen4:=Zpz l m i k
 obtain ⟨w5,h5,e5,o5,k5,_⟩:=o4.app (bytes:=8) (xs:=[.int .i64 sk.pick]) k4.1 rfl (by omega) (by omega) (by omega)
 have o5':Own h3.length h5 w5 1 (intC .i64 (Zga l m i k)) (Zga l m i k).length:=by
  unfold Zga
  rw [intC_snoc,Yb,Yd,Zgw hqk]
  exact o5
 have kk5:Kp h3.length h3 h5:=k4.trans k5
 have rlen:(Zga l m i k).length<=100:=by unfold Zga;rw [Yb,Yd];omega
 obtain ⟨z6,h6,r6,o6,k6⟩:=Zwo hE.c271 (p.keep (kk3.trans (kk5.mono kk3.1))) pl o5'.at o5'.low (by omega)
 have hn6:((MV.new P m).runG (Zga l m i k)).2=(Zga l m i k).length:=hrev
 rw [hn6] at r6
 have o5c:=o5'.keepK k6
 refine ⟨w5,h6,Zd hE.fn ?_,o5c.monoN kk3.1,(kk3.trans (kk5.mono kk3.1)).trans (k6.mono (Ye kk3.1 kk5.1))⟩
 rw [q269_eq,r1,c1_ok,asC_ok,show splice (splice [ci0,ci0] 0 [(.int .i64 (i:Int))]) 1 [(.int .i64 (k:Int))]=[.int .i64 (i:Int),.int .i64 (k:Int)] from rfl,rc,c1_ok,asB_ok,if_neg (by simp),hx.len,hr,bind_ok]
 dsimp only
 rw [q269_e1_1,if_pos ⟨by trivial,p.len⟩,r3,c3_ok,asC_ok,asI_ok,asB_ok,o2'.at.len,hml,show ((l.length:Int) != (l.length:Int))=false by simp,scK_ok,re,c1_ok,asB_ok,bind_ok]
 dsimp only
 rw [if_neg (by simp),rhb,c1_ok,asA_ok,if_pos ⟨by trivial,zero_len,relL_len _ _⟩,hr4,bind_ok]
 dsimp only
 have o2e:=(o2c.keepK k4).at
 rw [q269_e2_3,o2e.get1 (by rw [hml];omega) (Zar (show (l.map Stp.pick)[k]? = some sk.pick by rw [Yg,hqk];rfl)),asI_ok,if_pos (by rfl),show splice [ci0] 0 [(.int .i64 sk.pick)]=[.int .i64 sk.pick] from rfl,e5,if_pos ⟨by trivial,p.len⟩,r6,c3_ok,asC_ok,asI_ok,asB_ok,o5'.at.len,if_neg (by simp)]
end
section
variable {V:MV} {row:List Int} (r:Ran V row)
include r
theorem Ran.pickAt {d:Nat} (h:d<row.length):row.getD d 0=Zpv (V.runs row).st d:=by
 have hs:(V.runs row).st[d]? = some ((V.runs row).st[d]'(by rw [r.len];exact h)):=Yc _
 rw [List.getD_eq_getElem?_getD,r.pick hs,Zgw hs];rfl
theorem Ran.parts {A:List Nat} (h1:∀d∈A,d<row.length) (h2:A.Nodup) (h3:∀(k d:Nat),A[k]? = some d->∀a,Zbx (V.runs row).st V.m a d=true->a∈A.take k):∀k,V.whole ((A.take k).map fun d=>row.getD d 0)/\Part V row (A.take k) (V.runs ((A.take k).map fun d=>row.getD d 0)):=fun k=>by
 have:=r.part (A.take k) [] (Part.nil r) (fun d hd=>h1 d (List.mem_of_mem_take hd)) (fun d _ h=>by cases h) (h2.sublist (List.take_sublist k A)) fun j d hj a ha=>by
  obtain ⟨q1,q2⟩:=Zap.1 hj
  have:=h3 j d q2 a ha
  rw [Yr,Yu,Ys (by omega)]
  exact this
 rwa [Yr] at this
variable {D:List Nat} {W:MV} (p:Part V row D W) {i:Nat} {s:Stp} (hs:(V.runs row).st[i]? = some s) (hD:i ∉ D) (hcl:∀(a:Nat) x,(V.runs row).st[a]? = some x->x.t=s.t->Zbx (V.runs row).st V.m a i=true->a∈D)
include p hs hD hcl
theorem Part.mayT:∃pk:Nat,row[i]? = some (pk:Int)/\W.may pk=true:=by
 have hil:=Zf hs
 rw [r.len] at hil
 obtain ⟨pk,h1,h2,h3,h4,h5⟩:=r.step hil
 rw [hs] at h4
 cases h4
 refine ⟨pk,h1,?_⟩
 have T:=r.told i (Yl hil)
 have hk:=r.keep i
 have est:=r.stk (Yl hil)
 have hmm:W.m=(V.runs (row.take i)).m:=by rw [p.m,hk.2]
 by_cases p4:pk<4
 ·obtain ⟨_,kt⟩:=r.thr_pick hs h5 p4
  have thr:∀{d:Nat} {x:Stp},(V.runs row).st[d]? = some x->x.pick=(pk:Int)->(d∈D↔d<i):=fun {d x} hx hxp=>by
   obtain ⟨_,xt⟩:=r.thr_pick hx hxp p4
   constructor
   ·intro h
    rcases Yp d i with c | c | c
    ·exact c
    ·exact absurd (c ▸ h) hD
    ·exact absurd (p.cl' h (Zca c hs hx (by rw [h5,hxp]))) hD
   ·intro h
    exact hcl d x hx (by rw [xt,kt]) (Zca h hx hs (by rw [h5,hxp]))
  have hl:W.l pk=(V.runs (row.take i)).l pk:=by
   obtain ⟨c,c1,c2,c3,_⟩:=p.loc pk p4
   rw [c3]
   exact r.same c1 (Yl hil) fun d x hx hp=>by rw [←c2 d x hx hp,thr hx hp]
  obtain ⟨q,TS⟩:=T.inv.te p4 h2
  obtain ⟨e1,e2,_,_⟩:=Zfv q ((V.runs (row.take i)).l pk) (qv (V.runs (row.take i)) pk q) TS.k4
  refine (Zig p4).2 ⟨q,by rw [p.P,hl,←hk.1];exact TS.n,fun hq=>?_⟩
  have hk3:((V.runs (row.take i)).stp pk).kind=3∨((V.runs (row.take i)).stp pk).kind=4∨((V.runs (row.take i)).stp pk).kind=5:=by
   rw [TS.kind]
   rcases hq with h | h
   ·exact .inl (e1.2 h)
   ·rcases e2.2 h with h | h
    ·exact .inr (.inl h)
    ·exact .inr (.inr h)
  unfold BQ
  rw [List.map_eq_nil_iff]
  cases hb:W.b pk with
  | nil=>rfl
  | cons e0 rest =>
   exfalso
   have he:e0∈W.b pk:=by rw [hb];exact List.mem_cons_self
   have hm1:W.m≠1:=fun h=>by rw [p.told.h.own h] at he;cases he
   obtain ⟨k,k1,x',hx',k2,k3,_,_,k6⟩:=p.told.h.ent pk e0 he
   obtain ⟨d,x,a1,a2,a3,a4⟩:=p.of hx'
   obtain ⟨t',_,b1,b2⟩:=r.thr a3 (by rw [←a4.kind,k2];omega)
   have hdi:=(thr a3 (by rw [b1,←b2,←a4.t,k3])).1 a2
   obtain ⟨j,y,j1,j2,j3,j4,j5⟩:=r.free hs hk3 a3 hdi (by rw [←a4.kind,k2]) (by rw [←a4.t,k3,TS.t]) (by rw [←p.m];exact hm1)
   obtain ⟨_,g',g1,_,z,g3,_,g5,_⟩:=r.end.h3.fl j y j3 j4
   have:g'=d:=by omega
   subst this
   rw [a3] at g3
   cases g3
   have hyt:y.t=((V.runs (row.take i)).stp pk).t:=by rw [←g5,←a4.t,k3,TS.t]
   have hjD:=hcl j y j3 hyt (Zog j2 j3 hs j4 hyt hk3)
   obtain ⟨k',y',d1,d2,d3⟩:=p.to hjD j3
   exact k6 k' y' d2 (by rw [d3.kind,j4]) (by rw [p.frm' d3 j5 a1,k1])
 ·obtain ⟨t,pp,e,F⟩:=T.inv.flu_step p4 h2
  obtain ⟨c,w,FS⟩:=T.inv.fe p4 h2
  have he:=List.mem_of_find?_eq_some F.f
  obtain ⟨g,hg,q,hq,q1,q2,q3,q4,q5⟩:=T.h.ent t e he
  rw [est] at hq
  obtain ⟨hgi,hq⟩:=Zap.1 hq
  have hs6:((V.runs (row.take i)).stp pk).kind=6:=by rw [F.s]
  have hsf:((V.runs (row.take i)).stp pk).frm=(g:Int):=by rw [F.s];exact hg
  have hst':((V.runs (row.take i)).stp pk).t=(t:Int):=by rw [F.s]
  have hgD:=hcl g q hq (by rw [q2,hst']) (Zug hgi hq hs hs6 hsf)
  obtain ⟨k,q',d1,d2,d3⟩:=p.to hgD hq
  have m1:V.m≠1:=by rw [←hk.2];have:=F.m;omega
  have hce:c=e.loc:=by rw [←FS.loc,F.s]
  have htq:ftQ (V.runs (row.take i)).m pk=t:=by have:=FS.t;omega
  rcases p.told.h.sto k q' d2 (by unfold Zgz;rw [d3.kind,q1,p.m];simp;exact m1) with ⟨t',s1,e',s2,s3⟩ | ⟨j,u,s1,s2,s3,s4⟩
  ·have htt:t'=t:=by rw [d3.t,q2] at s1;omega
   subst htt
   obtain ⟨k',hk',x,hx,_,_,x3,x4,_⟩:=p.told.h.ent t' e' s2
   have:k'=k:=by omega
   subst this
   rw [d2] at hx
   cases hx
   refine (Zhp p4).2 ⟨by rw [hmm];exact FS.ok,?_⟩
   rw [hmm,htq,List.find?_isSome]
   refine ⟨pr e',Yw.2 ⟨e',s2,rfl⟩,?_⟩
   have hfp:=List.find?_some FS.find
   unfold fpQ at hfp ⊢
   rw [show (pr e').1=c by show e'.loc=c;rw [←x3,d3.loc,q3,hce]]
   exact hfp
  ·exfalso
   obtain ⟨d,x,a1,a2,a3,a4⟩:=p.of s2
   have:=r.end.h3.un d x i _ a3 hs (by rw [←a4.kind,s3]) hs6 (by rw [p.frm a4 s4 d1,hsf])
   exact hD (this ▸ a2)
end
section
variable {V:MV} {row:List Int} (r:Ran V row)
include r
theorem Ran.unlike {A:List Nat} (h1:∀d∈A,d<row.length) (h2:A.Nodup) (h3:∀(k d:Nat),A[k]? = some d->∀a,Zbx (V.runs row).st V.m a d=true->a∈A.take k) {rowb:List Int} (hw:V.whole rowb) (hb:rowb.take A.length=A.map fun d=>row.getD d 0) {x y:Nat} {sy:Stp} (hy:(V.runs row).st[y]? = some sy) (hyA:y ∉ A) (hxA:x ∉ A)
  (hpk:rowb[A.length]? = some sy.pick) (hpre:∀(d:Nat) z,(V.runs row).st[d]? = some z->z.pick=sy.pick->d<y->d∈A) (hxy:Zbx (V.runs row).st V.m x y=true):¬Alike V.P V.m (V.runs row).st (V.runs rowb).st:=by
 rintro ⟨he,⟨rf,fa,fb⟩,hco⟩
 have rb:Ran V rowb:=⟨r.z,r.st0,hw⟩
 have hlt:=Zf hpk
 have hll:=r.z.ll
 have hP:∀k,k<=A.length->Part V row (A.take k) (V.runs (rowb.take k)):=fun k hk=>by
  have:=(r.parts h1 h2 h3 k).2
  rwa [List.map_take,←hb,Yu,Ys hk] at this
 have rl:∀{rw':List Int},Ran V rw'->∀(i:Nat) (s:Stp),(V.runs rw').st[i]? = some s->rdS s=true->s.loc<V.P.init.length:=fun r' i s hs hr=>by
  rw [←hll]
  exact (r'.loc4 hs fun h=>by unfold rdS at hr;rw [h] at hr;simp at hr).2
 refine turn_no r rb hP (Yl hlt) he hlt hy hyA hpk hpre hxA hxy fa (by rw [he];exact fb) (fun c _ hex=>?_) (rl r) (rl rb)
 obtain ⟨i,u,hu,hwu⟩:=hex
 have hc:=r.stepsOk.wr i u hu hwu.1
 have hcl:c<V.P.locs.length:=by have:=hwu.2;omega
 have e:=congrArg (fun l=>l[c]?) hco
 unfold Zwc at e
 simp only [Yg,List.getElem?_range hcl,Option.map_some] at e
 exact Yn.inj e
end
section
variable (C:Zab) (L:Zbv) (G:Glo)
variable {h h0:Za}
variable {x0 x2 x10 x15 x17:Cell}
variable {a1 a3 a19:Int}
variable {s0:List Cell}
theorem q258_eq  (h0:Za):q258.body C L G [] h0=if 0=0/\[ci0,ci0].length=2/\(splice (splice [ci0,ci0] 0 [(.int .i64 (-1))]) 1 [(.int .i64 1)]).length=2 then if (splice [Cell.int .u8 0] 0 [(.int .u8 120)]).length=1*1 then Zmx (.sl h0.length ((splice [Cell.int .u8 0] 0 [(.int .u8 120)]).length) 0 1) (h0++[some (Blk.mk true 1 (splice [Cell.int .u8 0] 0 [(.int .u8 120)]))]) fun x h=>if (splice [ci0] 0 [(.int .i64 0)]).length=1*1 then if 0=0/\(splice (splice [ci0,ci0] 0 [(.int .i64 (-1))]) 1 [(.int .i64 1)]).length=2 then if (splice (splice [ci0,ci0] 0 [(.int .i64 (-1))]) 1 [(.int .i64 1)]).length=2/\3+2<=(splice (Ya 9 ci0) 0 [(.int .i64 1)]).length then if (splice (splice (Ya 9 ci0) 0 [(.int .i64 1)]) 3 (splice (splice [ci0,ci0] 0 [(.int .i64 (-1))]) 1 [(.int .i64 1)])).length=9/\0+9<=(Ya 9 ci0).length then if (splice (Ya 9 ci0) 0 (splice (splice (Ya 9 ci0) 0 [(.int .i64 1)]) 3 (splice (splice [ci0,ci0] 0 [(.int .i64 (-1))]) 1 [(.int .i64 1)]))).length=1*9 then if (splice (Ya 9 ci0) 0 [(.int .i64 2)]).length=9/\0+9<=(Ya 9 ci0).length then if (splice (Ya 9 ci0) 0 (splice (Ya 9 ci0) 0 [(.int .i64 2)])).length=1*9 then if (splice (splice [Cell.nils,Cell.nils] 0 ([(.sl ((h++[some (Blk.mk true 1 (splice [ci0] 0 [(.int .i64 0)]))]).length) ((splice (Ya 9 ci0) 0 (splice (splice (Ya 9 ci0) 0 [(.int .i64 1)]) 3 (splice (splice [ci0,ci0] 0 [(.int .i64 (-1))]) 1 [(.int .i64 1)]))).length) 0 1)]:List Cell)) 1 ([(.sl (((h++[some (Blk.mk true 1 (splice [ci0] 0 [(.int .i64 0)]))])++[some (Blk.mk true 9 (splice (Ya 9 ci0) 0 (splice (splice (Ya 9 ci0) 0 [(.int .i64 1)]) 3 (splice (splice [ci0,ci0] 0 [(.int .i64 (-1))]) 1 [(.int .i64 1)]))))]).length) ((splice (Ya 9 ci0) 0 (splice (Ya 9 ci0) 0 [(.int .i64 2)])).length) 0 1)]:List Cell)).length=2*1 then if 0=0/\[Cell.nils,Cell.nils,Cell.nils].length=3/\(splice (splice (splice [Cell.nils,Cell.nils,Cell.nils] 0 [x]) 1 ([(.sl h.length ((splice [ci0] 0 [(.int .i64 0)]).length) 0 1)]:List Cell)) 2 ([(.sl ((((h++[some (Blk.mk true 1 (splice [ci0] 0 [(.int .i64 0)]))])++[some (Blk.mk true 9 (splice (Ya 9 ci0) 0 (splice (splice (Ya 9 ci0) 0 [(.int .i64 1)]) 3 (splice (splice [ci0,ci0] 0 [(.int .i64 (-1))]) 1 [(.int .i64 1)]))))])++[some (Blk.mk true 9 (splice (Ya 9 ci0) 0 (splice (Ya 9 ci0) 0 [(.int .i64 2)])))]).length) ((splice (splice [Cell.nils,Cell.nils] 0 ([(.sl ((h++[some (Blk.mk true 1 (splice [ci0] 0 [(.int .i64 0)]))]).length) ((splice (Ya 9 ci0) 0 (splice (splice (Ya 9 ci0) 0 [(.int .i64 1)]) 3 (splice (splice [ci0,ci0] 0 [(.int .i64 (-1))]) 1 [(.int .i64 1)]))).length) 0 1)]:List Cell)) 1 ([(.sl (((h++[some (Blk.mk true 1 (splice [ci0] 0 [(.int .i64 0)]))])++[some (Blk.mk true 9 (splice (Ya 9 ci0) 0 (splice (splice (Ya 9 ci0) 0 [(.int .i64 1)]) 3 (splice (splice [ci0,ci0] 0 [(.int .i64 (-1))]) 1 [(.int .i64 1)]))))]).length) ((splice (Ya 9 ci0) 0 (splice (Ya 9 ci0) 0 [(.int .i64 2)])).length) 0 1)]:List Cell)).length) 0 2)]:List Cell)).length=3 then if 0=0/\(splice (splice (splice [Cell.nils,Cell.nils,Cell.nils] 0 [x]) 1 ([(.sl h.length ((splice [ci0] 0 [(.int .i64 0)]).length) 0 1)]:List Cell)) 2 ([(.sl ((((h++[some (Blk.mk true 1 (splice [ci0] 0 [(.int .i64 0)]))])++[some (Blk.mk true 9 (splice (Ya 9 ci0) 0 (splice (splice (Ya 9 ci0) 0 [(.int .i64 1)]) 3 (splice (splice [ci0,ci0] 0 [(.int .i64 (-1))]) 1 [(.int .i64 1)]))))])++[some (Blk.mk true 9 (splice (Ya 9 ci0) 0 (splice (Ya 9 ci0) 0 [(.int .i64 2)])))]).length) ((splice (splice [Cell.nils,Cell.nils] 0 ([(.sl ((h++[some (Blk.mk true 1 (splice [ci0] 0 [(.int .i64 0)]))]).length) ((splice (Ya 9 ci0) 0 (splice (splice (Ya 9 ci0) 0 [(.int .i64 1)]) 3 (splice (splice [ci0,ci0] 0 [(.int .i64 (-1))]) 1 [(.int .i64 1)]))).length) 0 1)]:List Cell)) 1 ([(.sl (((h++[some (Blk.mk true 1 (splice [ci0] 0 [(.int .i64 0)]))])++[some (Blk.mk true 9 (splice (Ya 9 ci0) 0 (splice (splice (Ya 9 ci0) 0 [(.int .i64 1)]) 3 (splice (splice [ci0,ci0] 0 [(.int .i64 (-1))]) 1 [(.int .i64 1)]))))]).length) ((splice (Ya 9 ci0) 0 (splice (Ya 9 ci0) 0 [(.int .i64 2)])).length) 0 1)]:List Cell)).length) 0 2)]:List Cell)).length=3 then if (splice (splice [ci0,ci0] 0 [(.int .i64 0)]) 1 [(.int .i64 1)]).length=2*1 then c2 (C 186 [(.agg (splice (splice (splice [Cell.nils,Cell.nils,Cell.nils] 0 [x]) 1 ([(.sl h.length ((splice [ci0] 0 [(.int .i64 0)]).length) 0 1)]:List Cell)) 2 ([(.sl ((((h++[some (Blk.mk true 1 (splice [ci0] 0 [(.int .i64 0)]))])++[some (Blk.mk true 9 (splice (Ya 9 ci0) 0 (splice (splice (Ya 9 ci0) 0 [(.int .i64 1)]) 3 (splice (splice [ci0,ci0] 0 [(.int .i64 (-1))]) 1 [(.int .i64 1)]))))])++[some (Blk.mk true 9 (splice (Ya 9 ci0) 0 (splice (Ya 9 ci0) 0 [(.int .i64 2)])))]).length) ((splice (splice [Cell.nils,Cell.nils] 0 ([(.sl ((h++[some (Blk.mk true 1 (splice [ci0] 0 [(.int .i64 0)]))]).length) ((splice (Ya 9 ci0) 0 (splice (splice (Ya 9 ci0) 0 [(.int .i64 1)]) 3 (splice (splice [ci0,ci0] 0 [(.int .i64 (-1))]) 1 [(.int .i64 1)]))).length) 0 1)]:List Cell)) 1 ([(.sl (((h++[some (Blk.mk true 1 (splice [ci0] 0 [(.int .i64 0)]))])++[some (Blk.mk true 9 (splice (Ya 9 ci0) 0 (splice (splice (Ya 9 ci0) 0 [(.int .i64 1)]) 3 (splice (splice [ci0,ci0] 0 [(.int .i64 (-1))]) 1 [(.int .i64 1)]))))]).length) ((splice (Ya 9 ci0) 0 (splice (Ya 9 ci0) 0 [(.int .i64 2)])).length) 0 1)]:List Cell)).length) 0 2)]:List Cell))),(.c (.int .i64 1)),(.c (.sl (((((h++[some (Blk.mk true 1 (splice [ci0] 0 [(.int .i64 0)]))])++[some (Blk.mk true 9 (splice (Ya 9 ci0) 0 (splice (splice (Ya 9 ci0) 0 [(.int .i64 1)]) 3 (splice (splice [ci0,ci0] 0 [(.int .i64 (-1))]) 1 [(.int .i64 1)]))))])++[some (Blk.mk true 9 (splice (Ya 9 ci0) 0 (splice (Ya 9 ci0) 0 [(.int .i64 2)])))])++[some (Blk.mk true 1 (splice (splice [Cell.nils,Cell.nils] 0 ([(.sl ((h++[some (Blk.mk true 1 (splice [ci0] 0 [(.int .i64 0)]))]).length) ((splice (Ya 9 ci0) 0 (splice (splice (Ya 9 ci0) 0 [(.int .i64 1)]) 3 (splice (splice [ci0,ci0] 0 [(.int .i64 (-1))]) 1 [(.int .i64 1)]))).length) 0 1)]:List Cell)) 1 ([(.sl (((h++[some (Blk.mk true 1 (splice [ci0] 0 [(.int .i64 0)]))])++[some (Blk.mk true 9 (splice (Ya 9 ci0) 0 (splice (splice (Ya 9 ci0) 0 [(.int .i64 1)]) 3 (splice (splice [ci0,ci0] 0 [(.int .i64 (-1))]) 1 [(.int .i64 1)]))))]).length) ((splice (Ya 9 ci0) 0 (splice (Ya 9 ci0) 0 [(.int .i64 2)])).length) 0 1)]:List Cell)))]).length) ((splice (splice [ci0,ci0] 0 [(.int .i64 0)]) 1 [(.int .i64 1)]).length) 0 2))] (((((h++[some (Blk.mk true 1 (splice [ci0] 0 [(.int .i64 0)]))])++[some (Blk.mk true 9 (splice (Ya 9 ci0) 0 (splice (splice (Ya 9 ci0) 0 [(.int .i64 1)]) 3 (splice (splice [ci0,ci0] 0 [(.int .i64 (-1))]) 1 [(.int .i64 1)]))))])++[some (Blk.mk true 9 (splice (Ya 9 ci0) 0 (splice (Ya 9 ci0) 0 [(.int .i64 2)])))])++[some (Blk.mk true 1 (splice (splice [Cell.nils,Cell.nils] 0 ([(.sl ((h++[some (Blk.mk true 1 (splice [ci0] 0 [(.int .i64 0)]))]).length) ((splice (Ya 9 ci0) 0 (splice (splice (Ya 9 ci0) 0 [(.int .i64 1)]) 3 (splice (splice [ci0,ci0] 0 [(.int .i64 (-1))]) 1 [(.int .i64 1)]))).length) 0 1)]:List Cell)) 1 ([(.sl (((h++[some (Blk.mk true 1 (splice [ci0] 0 [(.int .i64 0)]))])++[some (Blk.mk true 9 (splice (Ya 9 ci0) 0 (splice (splice (Ya 9 ci0) 0 [(.int .i64 1)]) 3 (splice (splice [ci0,ci0] 0 [(.int .i64 (-1))]) 1 [(.int .i64 1)]))))]).length) ((splice (Ya 9 ci0) 0 (splice (Ya 9 ci0) 0 [(.int .i64 2)])).length) 0 1)]:List Cell)))])++[some (Blk.mk true 1 (splice (splice [ci0,ci0] 0 [(.int .i64 0)]) 1 [(.int .i64 1)]))])) fun y y1 h1=>asC y fun x1=>Zk .i64 y1 fun n=>Znj x1 fun k N o=>Zp h1 k N fun l=>Ze l (o+36) fun q=>c1 (C 256 [(.c q),(.c (.int .i64 1))] h1) fun y h1=>asC y fun x2=>if 0=0/\(splice (splice (splice [Cell.nils,Cell.nils,Cell.nils] 0 [x]) 1 ([(.sl h.length ((splice [ci0] 0 [(.int .i64 0)]).length) 0 1)]:List Cell)) 2 ([(.sl ((((h++[some (Blk.mk true 1 (splice [ci0] 0 [(.int .i64 0)]))])++[some (Blk.mk true 9 (splice (Ya 9 ci0) 0 (splice (splice (Ya 9 ci0) 0 [(.int .i64 1)]) 3 (splice (splice [ci0,ci0] 0 [(.int .i64 (-1))]) 1 [(.int .i64 1)]))))])++[some (Blk.mk true 9 (splice (Ya 9 ci0) 0 (splice (Ya 9 ci0) 0 [(.int .i64 2)])))]).length) ((splice (splice [Cell.nils,Cell.nils] 0 ([(.sl ((h++[some (Blk.mk true 1 (splice [ci0] 0 [(.int .i64 0)]))]).length) ((splice (Ya 9 ci0) 0 (splice (splice (Ya 9 ci0) 0 [(.int .i64 1)]) 3 (splice (splice [ci0,ci0] 0 [(.int .i64 (-1))]) 1 [(.int .i64 1)]))).length) 0 1)]:List Cell)) 1 ([(.sl (((h++[some (Blk.mk true 1 (splice [ci0] 0 [(.int .i64 0)]))])++[some (Blk.mk true 9 (splice (Ya 9 ci0) 0 (splice (splice (Ya 9 ci0) 0 [(.int .i64 1)]) 3 (splice (splice [ci0,ci0] 0 [(.int .i64 (-1))]) 1 [(.int .i64 1)]))))]).length) ((splice (Ya 9 ci0) 0 (splice (Ya 9 ci0) 0 [(.int .i64 2)])).length) 0 1)]:List Cell)).length) 0 2)]:List Cell)).length=3 then Znj x1 fun k N o=>Zp h1 k N fun l=>Ze l (o+36) fun q=>c2 (C 269 [(.agg (splice (splice (splice [Cell.nils,Cell.nils,Cell.nils] 0 [x]) 1 ([(.sl h.length ((splice [ci0] 0 [(.int .i64 0)]).length) 0 1)]:List Cell)) 2 ([(.sl ((((h++[some (Blk.mk true 1 (splice [ci0] 0 [(.int .i64 0)]))])++[some (Blk.mk true 9 (splice (Ya 9 ci0) 0 (splice (splice (Ya 9 ci0) 0 [(.int .i64 1)]) 3 (splice (splice [ci0,ci0] 0 [(.int .i64 (-1))]) 1 [(.int .i64 1)]))))])++[some (Blk.mk true 9 (splice (Ya 9 ci0) 0 (splice (Ya 9 ci0) 0 [(.int .i64 2)])))]).length) ((splice (splice [Cell.nils,Cell.nils] 0 ([(.sl ((h++[some (Blk.mk true 1 (splice [ci0] 0 [(.int .i64 0)]))]).length) ((splice (Ya 9 ci0) 0 (splice (splice (Ya 9 ci0) 0 [(.int .i64 1)]) 3 (splice (splice [ci0,ci0] 0 [(.int .i64 (-1))]) 1 [(.int .i64 1)]))).length) 0 1)]:List Cell)) 1 ([(.sl (((h++[some (Blk.mk true 1 (splice [ci0] 0 [(.int .i64 0)]))])++[some (Blk.mk true 9 (splice (Ya 9 ci0) 0 (splice (splice (Ya 9 ci0) 0 [(.int .i64 1)]) 3 (splice (splice [ci0,ci0] 0 [(.int .i64 (-1))]) 1 [(.int .i64 1)]))))]).length) ((splice (Ya 9 ci0) 0 (splice (Ya 9 ci0) 0 [(.int .i64 2)])).length) 0 1)]:List Cell)).length) 0 2)]:List Cell))),(.c (.int .i64 1)),(.c q),(.c (.int .i64 0)),(.c (.int .i64 1))] h1) fun y y1 h=>asC y fun x=>asB y1 fun b=>Zz x2 fun n=>scK (n==1) true (Zl 2 x2 0 fun k N o=>Zp h k N fun l=>if o+2<=l.length then if alike ((l.drop o).take 2) ([ci0,ci0])=true/\alike (splice (splice [ci0,ci0] 0 [(.int .i64 0)]) 1 [(.int .i64 1)]) ([ci0,ci0])=true then some ((decide (((l.drop o).take 2)=(splice (splice [ci0,ci0] 0 [(.int .i64 0)]) 1 [(.int .i64 1)]))),h) else none else none) false h fun b1 h=>scK b1 true (some (b,h)) false h fun b h=>scK b true (Zz x fun n=>some ((n==1),h)) false h fun b h=>scK b true (Zl 1 x 0 fun k N o=>Zp h k N fun l=>Ze l o fun q=>Zk .i64 (.c q) fun n=>some ((n==1),h)) false h fun b h=>scK b true (c1 (C 259 [(.c .nils),(.c (.int .i64 1))] h) fun y h=>asB y fun b=>some (b,h)) false h fun b h=>Zbr true h0 [(.c (.bool b))] h else none else none else none else none else none else none else none else none else none else none else none else none else none else none:=by kernel_rfl
def q419_k2 (h0:Za):Ex->St->Rs:=Zac (fun st=>q419_p1.exec C L G st (q419.fin G h0)) (q419.fin G h0)
def q419_k3 (h0:Za):Ex->St->Rs:=Zag 0 (q419_k2 C L G h0)
def q419_s1 (a1:Int) (x10 x15 x17:Cell) (a19:Int) (s0:List Cell) (h:Za):St:=⟨tops 1 (.v (.c (.int .i64 a1)) :: tops 7 (.loc 0 0 :: .v (.c x10) :: tops 4 (.v (.c x15) :: tops 1 (.v (.c x17) :: tops 1 (.v (.c (.int .i64 a19)) :: tops 100 []))))),[some s0,none],h⟩
def q419_F1 :St->Option (Ex × St):=Zt (q419_b1.exec C L G) [1,9,10,15,17,19] [0] [(1,[1,9,10,15],[0])]
def q419_x1_1 (a1:Int) (x10 x15:Cell) (s0:List Cell) (h:Za):St:=⟨tops 1 (.v (.c (.int .i64 a1)) :: tops 7 (.loc 0 0 :: .v (.c x10) :: tops 4 (.v (.c x15) :: tops 104 []))),[some s0,none],h⟩
theorem q419_r1:q419_F1 C L G (q419_s1 a1 x10 x15 x17 a19 s0 h)=if (decide (a19<60))=true then c1 (C 181 [(.c x17)] h) fun y h1=>asC y fun x=>Zz x fun n=>if (n==0)=true then some ((.exit 0),(q419_x1_1 a1 x10 x15 s0 h1)) else Zl 1 x 0 fun k N o=>Zp h1 k N fun l=>Ze l o fun q=>Zk .i64 (.c q) fun n=>c2 (C 182 [(.c x17),(.c (.int .i64 n))] h1) fun y y1 h1=>asA y fun l=>asB y1 fun b=>Zl 1 x 0 fun k N o=>Zp h1 k N fun l=>Ze l o fun q=>Zk .i64 (.c q) fun n=>if (splice [ci0] 0 [(.int .i64 n)]).length=1*1 then Zao 1 8 x15 (splice [ci0] 0 [(.int .i64 n)]) h1 fun x h1=>some (.normal,(q419_s1 a1 x10 x x17 (G.wrap .i64 (a19+1)) s0 h1)) else none else some ((.exit 0),(q419_x1_1 a1 x10 x15 s0 h)):=by kernel_rfl
theorem q419_e1_1:(q419_k3 C L G h0) (.exit 0) (q419_x1_1 a1 x10 x15 s0 h)=if 0=0/\s0.length=3 then c1 (C 415 [(.agg s0),(.c (.int .i64 a1)),(.c x10),(.c x15)] h) fun y h=>asB y fun b=>scK (!b) true (c1 (C 258 [] h) fun y h=>asB y fun b=>some (b,h)) false h fun b h=>some ([(.c (.bool b))],h) else none:=by kernel_rfl
theorem q419_eq:q419.body C L G [(.c x0),(.c (.int .i64 a1)),(.c x2),(.c (.int .i64 a3))] h0=c1 (C 76 [(.c x0),(.c (.int .i64 8))] h0) fun y h=>asA y fun l=>if 0=0/\[Cell.nils,Cell.nils,Cell.nils].length=3/\l.length=3 then let v:Int:=(G.wrap .i64 ((G.rem .i64 (G.band .i64 a1 255) 3)+1));if 0=0/\l.length=3 then c1 (C 254 [(.agg l),(.c (.int .i64 v)),(.c x2)] h) fun y h=>asC y fun x=>if 0=0/\l.length=3 then c2 (C 186 [(.agg l),(.c (.int .i64 v)),(.c x)] h) fun y y1 h=>asC y fun x1=>Zk .i64 y1 fun n=>Znj x1 fun k N o=>Zp h k N fun l1=>Ze l1 (o+36) fun q=>c1 (C 256 [(.c q),(.c (.int .i64 v))] h) fun y h=>asC y fun x2=>Zz x2 fun n=>if (n==0)=true then Znj x1 fun k N o=>Zp h k N fun l1=>Ze l1 (o+36) fun q=>c1 (C 259 [(.c q),(.c (.int .i64 v))] h) fun y h1=>asB y fun b=>scK b true (c1 (C 258 [] h1) fun y h=>asB y fun b=>some (b,h)) false h1 fun b h1=>some ([(.c (.bool b))],h1) else Zz x2 fun n=>if n=0 then none else Zl 2 x2 (G.rem .i64 (G.band .i64 a3 65535) n) fun k N o=>Zp h k N fun l1=>if o+2<=l1.length then if 0=0/\[ci0,ci0].length=2/\((l1.drop o).take 2).length=2 then if 0=0/\l.length=3 then Znj x1 fun k N o1=>Zp h k N fun l2=>Ze l2 (o1+36) fun q=>Ze ((l1.drop o).take 2) 0 fun q1=>Zk .i64 (.c q1) fun n=>Ze ((l1.drop o).take 2) 1 fun q1=>Zk .i64 (.c q1) fun n1=>c2 (C 269 [(.agg l),(.c (.int .i64 v)),(.c q),(.c (.int .i64 n)),(.c (.int .i64 n1))] h) fun y y1 h=>asC y fun x1=>asB y1 fun b=>if (!b)=true then some ([(.c (.bool false))],h) else if 0=0/\l.length=3 then c2 (C 186 [(.agg l),(.c (.int .i64 v)),(.c x1)] h) fun y y1 h=>asC y fun x2=>Zk .i64 y1 fun n=>Zz x1 fun n1=>if (n != n1)=true then some ([(.c (.bool false))],h) else (L (q419_F1 C L G) (q419_s1 v x x1 x2 0 l h)).bind fun p=>(q419_k3 C L G h0) p.1 p.2 else none else none else none else none else none else none else none:=by kernel_rfl
end
def w20s:List Ins:=[⟨1,0,0,⟨-1,1⟩,0,⟨0,0⟩,0⟩]
def w20l:List Ins:=[⟨2,0,0,⟨0,0⟩,0,⟨0,0⟩,0⟩]
def w20P:PProg:=⟨[120],[0],[w20s,w20l]⟩
def w20L:List Stp:=[⟨0,0,2,0,0,1,-1⟩,⟨1,1,1,0,1,0,0⟩]
theorem w20_small:w20P.small:=⟨by decide,fun c hc=>by
 simp [w20P] at hc
 rcases hc with rfl | rfl<;>decide⟩
theorem w20_pok:Zue w20P=true:=by decide +kernel
theorem w20_fld:∀c∈w20P.thr,∀i∈c,fldB (Zfz w20P) i=true:=by decide +kernel
theorem w20_inv:(MV.new w20P 1).Inv:=MV.new_inv (by omega) w20_small w20_fld (by decide) (by decide) (fun c hc=>by
 simp [w20P] at hc
 rcases hc with rfl | rfl<;>decide)
theorem w20_good:w20P.good:=by
 refine ⟨w20_small.fits,fun c hc=>?_⟩
 simp [w20P] at hc
 rcases hc with rfl | rfl
 ·intro i hi
  simp [w20s] at hi
  subst hi
  refine ⟨?_,?_,?_,?_⟩<;>(try simp only)<;>(try decide)
 ·intro i hi
  simp [w20l] at hi
  subst hi
  refine ⟨?_,?_,?_,?_⟩<;>(try simp only)<;>(try decide)
theorem Zq754:Plays w20P 1:=⟨w20_small,by decide,by decide,by decide,by omega,w20_pok,w20_inv,w20_good,by decide⟩
theorem Zzo:((MV.new w20P 1).runG [0,1]).2=2:=by decide +kernel
theorem w20_st:((MV.new w20P 1).runG [0,1]).1.st=w20L:=by kernel_rfl
theorem Zqu:Zbj w20L 1=[(0,1)]:=by decide +kernel
theorem Zzw:Zga w20L 1 0 1=[1]:=by decide +kernel
theorem Zq706:((MV.new w20P 1).runG [1]).2=1:=by decide +kernel
section
variable {E:Env}
theorem Zra (hE:q258_In E) (ht:Zil E) (h:Za):R E 258 [] h=some ([.c (.bool true)],h):=by
 have hmark:∀{α:Type} (f:Cell->Za->Option α),Zmx (.sl h.length ((splice [Cell.int .u8 0] 0 [(.int .u8 120)]).length) 0 1) (h++[some (Blk.mk true 1 (splice [Cell.int .u8 0] 0 [(.int .u8 120)]))]) f=f (.sl h.length 1 0 1) (h++[some ⟨false,1,intC .u8 [120]⟩]):=by
  intro α f
  unfold Zmx
  simp only
  rw [Zw,Option.bind_some]
  dsimp only
  rw [if_pos ⟨rfl,rfl⟩,setBlk_last];rfl
 obtain ⟨H1,h1⟩:∃H1,H1=h++[some (Blk.mk false 1 (intC .u8 [120]))]:=⟨_,rfl⟩
 obtain ⟨H2,h2⟩:∃H2,H2=H1++[some (Blk.mk true 1 (intC .i64 [0]))]:=⟨_,rfl⟩
 obtain ⟨H3,h3⟩:∃H3,H3=H2++[some (Blk.mk true 9 (Zaf w20s))]:=⟨_,rfl⟩
 obtain ⟨H4,h4⟩:∃H4,H4=H3++[some (Blk.mk true 9 (Zaf w20l))]:=⟨_,rfl⟩
 obtain ⟨H5,h5⟩:∃H5,H5=H4++[some (Blk.mk true 1 [Cell.sl H2.length 9 0 1,.sl H3.length 9 0 1])]:=⟨_,rfl⟩
 obtain ⟨H6,h6⟩:∃H6,H6=H5++[some (Blk.mk true 1 (intC .i64 [0,1]))]:=⟨_,rfl⟩
 have n1:H1.length=h.length+1:=by rw [h1];simp
 have n2:H2.length=h.length+2:=by rw [h2,Yb,n1];simp
 have n3:H3.length=h.length+3:=by rw [h3,Yb,n2];simp
 have n4:H4.length=h.length+4:=by rw [h4,Yb,n3];simp
 have n5:H5.length=h.length+5:=by rw [h5,Yb,n4];simp
 have n6:H6.length=h.length+6:=by rw [h6,Yb,n5];simp
 have b1:blk? H6 h.length=some ⟨false,1,intC .u8 [120]⟩:=by
  rw [h6,h5,h4,h3,h2,h1]
  exact Zas (Zas (Zas (Zas (Zas (Zw _ _) _) _) _) _) _
 have b2:blk? H6 H1.length=some ⟨true,1,intC .i64 [0]⟩:=by
  rw [h6,h5,h4,h3,h2]
  exact Zas (Zas (Zas (Zas (Zw _ _) _) _) _) _
 have b3:blk? H6 H2.length=some ⟨true,9,Zaf w20s⟩:=by
  rw [h6,h5,h4,h3]
  exact Zas (Zas (Zas (Zw _ _) _) _) _
 have b4:blk? H6 H3.length=some ⟨true,9,Zaf w20l⟩:=by
  rw [h6,h5,h4]
  exact Zas (Zas (Zw _ _) _) _
 have b5:blk? H6 H4.length=some ⟨true,1,[Cell.sl H2.length 9 0 1,.sl H3.length 9 0 1]⟩:=by
  rw [h6,h5]
  exact Zas (Zw _ _) _
 have b6:blk? H6 H5.length=some ⟨true,1,intC .i64 [0,1]⟩:=by
  rw [h6]
  exact Zw _ _
 have kk:Kp h.length h H6:=by
  rw [h6,h5,h4,h3,h2,h1]
  simp only [Yh]
  exact Kp.app _ (Yf _)
 have p6:ProgAt H6 [.sl h.length 1 0 1,.sl H1.length 1 0 1,.sl H4.length 2 0 2] w20P:=⟨_,_,_,[Cell.sl H2.length 9 0 1,.sl H3.length 9 0 1],rfl,⟨SlAt.whole b1 rfl,.inr (by omega)⟩,⟨SlAt.whole b2 rfl,.inr (by omega)⟩,⟨SlAt.whole b5 rfl,.inr (by omega)⟩,fun t code ht=>by
  match t with
  | 0=>cases ht;exact ⟨_,rfl,SlAt.whole b3 rfl,.inr (by omega)⟩
  | 1=>cases ht;exact ⟨_,rfl,SlAt.whole b4 rfl,.inr (by omega)⟩
  | t+2=>simp [w20P] at ht⟩
 have hy:SlAt H6 (.sl H5.length 2 0 2) 1 (intC .i64 [0,1]) [(0:Int),1].length:=SlAt.whole b6 rfl
 obtain ⟨xs,bs,h7,r7,a7,k7⟩:=Zyl hE.c186 p6 w20_good (by decide) (by decide) (by omega) w20_inv hy (.inr (by omega)) (by decide)
 rw [Zzo] at r7
 have st7:Own H6.length h7 xs 7 (Zai w20L) w20L.length:=by
  have:=a7.st
  rw [w20_st] at this
  exact this
 have hl7:=Zcn (x:=xs) (MV.runG_inv w20_inv [0,1]).1.fit p6.len a7.bl
 obtain ⟨y8,h8,r8,o8,k8⟩:=Znu hE.c256 ht st7.at st7.low 1
 have a8:=a7.keep k8
 have st8:=st7.keepK k8
 rw [Zqu] at o8
 obtain ⟨z9,h9,r9,o9,k9⟩:=Zro hE.c269 ht (p6.keep (k7.trans (k8.mono k7.1))) Zq754 st8.at st8.low (i:=0) (k:=1) (by rw [Zqu];exact List.mem_singleton.2 rfl) (by decide) (show ((MV.new w20P 1).runG [0,1]).2=2 from Zzo) (show ((MV.new w20P 1).runG [0,1]).1.st=w20L from w20_st) (by rw [Zzw];exact Zq706)
 rw [Zzw] at o9
 have o8':=(o8.keepK k9).at
 obtain ⟨h10,r10,k10⟩:=Zyz hE.c259 ht (l:=[]) (x:=.nils) (h:=h9) (Own.nil 0 h9 7).at trivial 1
 have hlen:Kp h.length h h10:=kk.trans ((k7.trans ((k8.trans (k9.mono k8.1)).mono k7.1) |>.trans (k10.mono (Ye k7.1 (Ye k8.1 k9.1)))).mono kk.1)
 refine Zd hE.fn ?_
 rw [q258_eq,if_pos (by exact ⟨rfl,rfl,rfl⟩),if_pos (by rfl),hmark,←h1]
 have e1:splice [ci0] 0 [(.int .i64 0)]=intC .i64 [0]:=rfl
 have e2:splice (Ya 9 ci0) 0 (splice (splice (Ya 9 ci0) 0 [(.int .i64 1)]) 3 (splice (splice [ci0,ci0] 0 [(.int .i64 (-1))]) 1 [(.int .i64 1)]))=Zaf w20s:=rfl
 have e3:splice (Ya 9 ci0) 0 (splice (Ya 9 ci0) 0 [(.int .i64 2)])=Zaf w20l:=rfl
 have e4:(Zaf w20s).length=9:=rfl
 have e5:(Zaf w20l).length=9:=rfl
 have e6:∀a b:Cell,splice (splice [Cell.nils,Cell.nils] 0 [a]) 1 [b]=[a,b]:=fun _ _=>rfl
 have e7:(intC .i64 [0]).length=1:=rfl
 have e8:∀a b c:Cell,splice (splice (splice [Cell.nils,Cell.nils,Cell.nils] 0 [a]) 1 [b]) 2 [c]=[a,b,c]:=fun _ _ _=>rfl
 have e9:splice (splice [ci0,ci0] 0 [(.int .i64 0)]) 1 [(.int .i64 1)]=intC .i64 [0,1]:=rfl
 have e10:(intC .i64 [0,1]).length=2:=rfl
 have e11:∀a b:Cell,[a,b].length=2:=fun _ _=>rfl
 rw [if_pos (by rfl),if_pos (by exact ⟨rfl,rfl⟩),if_pos (by exact ⟨rfl,by decide⟩),if_pos (by exact ⟨rfl,by decide⟩),if_pos (by rfl),if_pos (by exact ⟨rfl,by decide⟩),if_pos (by rfl),if_pos (by rfl),if_pos (by exact ⟨rfl,rfl,rfl⟩),if_pos (by exact ⟨rfl,rfl⟩),if_pos (by rfl)]
 simp only [e1,e2,e3,e4,e5,e6,e7,e8,e9,e10,e11]
 rw [show ((0:Nat):Int)=0 from rfl,show ((1:Nat):Int)=1 from rfl] at r9
 rw [←h2,←h3,←h4,←h5,←h6,r7,c2_ok,asC_ok,asI_ok,ptrK_p,Zy a7.blk hl7,Zec (MV.runG_inv w20_inv [0,1]).1.fit p6.len a7.bl,r8,c1_ok,asC_ok,if_pos (by exact ⟨trivial,rfl⟩),ptrK_p,Zy a8.blk hl7,Zec (MV.runG_inv w20_inv [0,1]).1.fit p6.len a7.bl,
  r9,c2_ok,asC_ok,asB_ok,o8'.len,show (((([((0:Int),(1:Int))]:List (Int × Int)).length:Nat):Int)==1)=true from rfl,scK_ok]
 obtain ⟨off,c,g1,g2,g3⟩:=o8'.pairG (i:=0) (q:=(0,1)) rfl
 rw [show ((0:Nat):Int)=0 from rfl] at g1
 rw [g1,if_pos g2,g3,if_pos ⟨by rfl,by rfl⟩,show decide (Zdy ((0:Int),(1:Int))=intC .i64 [0,1])=true by decide,bind_ok]
 dsimp only
 rw [scK_and,Bool.and_true,scK_ok,o9.at.len,bind_ok]
 dsimp only
 have g9:∀{α:Type} (f:Cell->Option α),(Zl 1 z9 0 fun k N o=>Zp h9 k N fun l=>Ze l o f)=f (.int .i64 1):=fun f=>o9.at.get0 (by decide) rfl
 rw [show (((([(1:Int)]:List Int).length:Nat):Int)==1)=true from rfl,scK_ok,g9,asI_ok,bind_ok]
 dsimp only
 rw [show ((1:Int)==1)=true from rfl,scK_ok,r10,c1_ok,asB_ok,bind_ok]
 exact Zdj hlen (by simp [Zlc,AV.cells,Zgq])
end
theorem Zwi {p:Nat->Bool} {k i:Nat} {q:Int × Int} (h:q∈Zez p k i):∃j:Nat,j<i/\p j=true/\q=((j:Int),(k:Int)):=by
 unfold Zez at h
 obtain ⟨j,hj,rfl⟩:=Yw.1 h
 rw [Yt,Yv] at hj
 exact ⟨j,hj.1,hj.2,rfl⟩
theorem Zpp {p:Nat->Nat->Bool} {q:Int × Int}:∀{n:Nat},q∈Zdv p n->∃i k:Nat,i<k/\k<n/\p i k=true/\q=((i:Int),(k:Int))
 | 0,h=>by cases h
 | n+1,h=>by
  unfold Zdv at h
  rcases List.mem_append.1 h with h | h
  ·obtain ⟨i,k,h1,h2,h3,h4⟩:=Zpp h
   exact ⟨i,k,h1,by omega,h3,h4⟩
  ·obtain ⟨j,h1,h2,h3⟩:=Zwi h
   exact ⟨j,n,h1,by omega,h2,h3⟩
theorem Zye {n:Nat} (hn:n<=64) {f:Nat->Nat} {l:List Stp} {m:Int} {i k:Nat} (h:Zdc n f l m i k=true):∃a b,l[i]? = some a/\l[k]? = some b/\(f i).testBit k=true/\a.t≠b.t/\a.loc=b.loc/\(wrS a m||wrS b m)=true/\∀j,j<n->¬((f i).testBit j=true/\(f j).testBit k=true):=by
 unfold Zdc at h
 split at h
 ·rename_i a b ha hb
  unfold Zok at h
  simp only [Yi,bne_iff_ne,beq_iff_eq] at h
  obtain ⟨h1,h2,h3,h4,h5⟩:=h
  refine ⟨a,b,ha,hb,h1,h3,h4,h5,fun j hj q=>?_⟩
  have:=congrArg (fun z=>z.testBit j) h2
  simp only [Nat.testBit_and,Nat.zero_testBit,q.1,Bool.true_and] at this
  have h6:=(b_INV hn f k j).2 ⟨hj,q.2⟩
  rw [this] at h6;cases h6
 ·cases h
section
variable {E:Env}
theorem AnyRun_R (hO:q76_In E) (hA:q254_In E) (hR:q186_In E) {h:Za} {c0 c1' c2':List Cell} (o0:okC h (.sl (.i .i64)) c0) (o1:okC h (.i .i64) c1') (o2:okC h (.sl (.i .i64)) c2') {most:Nat} (hmost:most<=900) :
  ∃(x:Cell) (m0:Int) (y:Cell) (m:Int) (cs:List Cell) (P:PProg) (h1 h2 h3:Za) (z zs:Cell) (bs:List Cell) (row:List Int),av1 (.sl (.i .i64)) c0=.c x/\av1 (.i .i64) c1'=.c (.int .i64 m0)/\av1 (.sl (.i .i64)) c2'=.c y /\
   E.glob.wrap .i64 (E.glob.rem .i64 (E.glob.band .i64 m0 255) 3+1)=m/\R E 76 [.c x,.c (.int .i64 (most:Int))] h=some ([.agg cs],h1)/\cs.length=3/\R E 254 [.agg cs,.c (.int .i64 m),.c y] h1=some ([.c z],h2) /\
   R E 186 [.agg cs,.c (.int .i64 m),.c z] h2=some ([.c (.ptr h2.length 37 0),.c (.int .i64 (row.length:Int))],h3)/\Own h1.length h2 z 1 (intC .i64 row) row.length/\ProgAt h1 cs P/\Plays P m/\GoodP most P /\
   (MV.new P m).whole row/\row.length<=60/\(row.length=60∨((MV.new P m).runs row).word=0)/\RvAt h2.length h3 h2.length zs bs cs ((MV.new P m).runs row)/\Kp h.length h h1/\Kp h1.length h1 h2/\Kp h2.length h2 h3:=by
 obtain ⟨x,l,ha0,hx,hlow,_,hml⟩:=Zwf o0
 obtain ⟨m0,ha1,_⟩:=Zzt o1
 obtain ⟨y,ps,ha2,hy,hylow,_,hpl⟩:=Zwf o2
 obtain ⟨cs,h1,P,r1,p1,g1,g2,hu,k1⟩:=OfP_R hO hx hlow (by unfold maxLen at hml;omega) hmost
 have hb1:=g_rem3 (E:=E) m0
 have hm1:E.glob.wrap .i64 (E.glob.rem .i64 (E.glob.band .i64 m0 255) 3+1)=E.glob.rem .i64 (E.glob.band .i64 m0 255) 3+1:=Zj (by omega) (by omega)
 generalize hmm:E.glob.rem .i64 (E.glob.band .i64 m0 255) 3+1=m at hm1
 have hm13:1<=m/\m<=3:=by omega
 have gn:=g1.n
 have gi:=g1.init
 have gg:=g1.good
 have inv:=g1.inv g2 hm13
 obtain ⟨z,row,h2,r2,oz,k2,hw,h60,hend⟩:=Any_R hA p1 gg (by omega) (by omega) hm13 inv (hy.keep hylow k1) (Zau k1.1 hylow)
 obtain ⟨zs,bs,h3,r3,a3,k3⟩:=Zyl hR (p1.keep k2) gg (by omega) (by omega) hm13 inv oz.at oz.low (by omega)
 have hrow:((MV.new P m).runG row).2=row.length:=hw
 rw [hrow] at r3
 exact ⟨x,m0,y,m,cs,P,h1,h2,h3,z,zs,bs,row,ha0,ha1,ha2,by rw [hmm];exact hm1,r1,p1.len,r2,r3,oz,p1,g1.plays g2 hu hm13,g1,hw,h60,hend,a3,k1,k2,k3⟩
end
theorem Zob {l:List Stp} {m:Int} (hn:l.length<=64) {a b:Nat} (ha:a<l.length) (hb:b<l.length) (h:Zbx l m a b=true):(hbF l m a).testBit b=true:=by
 refine (Zhd _ _ _ (Yf _) a b ha).2 (.one ?_)
 rw [Zov hn,Yi,Yi,decide_eq_true_eq,decide_eq_true_eq]
 exact ⟨⟨ha,hb⟩,h⟩
theorem hb_then {l:List Stp} {m:Int} {a b c:Nat} (ha:a<l.length) (hb:b<l.length) (h1:(hbF l m a).testBit b=true) (h2:(hbF l m b).testBit c=true):(hbF l m a).testBit c=true:=by
 have w1:=(Zhd _ _ _ (Yf _) a b ha).1 h1
 have w2:=(Zhd _ _ _ (Yf _) b c hb).1 h2
 exact (Zhd _ _ _ (Yf _) a c ha).2 (w1.trans hb w2)
theorem Ran.reverse {V:MV} {row:List Int} (r:Ran V row) (hn:(V.runs row).st.length<=64) {i k:Nat} {a b:Stp} (hi:(V.runs row).st[i]? = some a) (hk:(V.runs row).st[k]? = some b) (ht:a.t≠b.t) (hik:i<k)
  (hb:(hbF (V.runs row).st V.m i).testBit k=true) (hno:∀j,j<(V.runs row).st.length->¬((hbF (V.runs row).st V.m i).testBit j=true/\(hbF (V.runs row).st V.m j).testBit k=true)) :
  V.whole (Zga (V.runs row).st V.m i k)/\∀more,V.whole (Zga (V.runs row).st V.m i k++more)->¬Alike V.P V.m (V.runs row).st (V.runs (Zga (V.runs row).st V.m i k++more)).st:=by
 have hkl:=Zf hk
 have hil:=Zf hi
 have rise:∀{a b:Nat},Zbx (V.runs row).st V.m a b=true->a<b:=fun h=>r.end.h3.rises (by rw [r.keepE.2];exact h)
 obtain ⟨A,hA⟩:∃A,A=(Yq k).filter (Zql (V.runs row).st V.m i):=⟨_,rfl⟩
 have mem:∀{d:Nat},d∈A↔d<k/\d≠i/\¬(hbF (V.runs row).st V.m i).testBit d=true:=fun {d}=>by
  rw [hA,Yt,Yv]
  unfold Zql
  rw [Yi,bne_iff_ne,Bool.not_eq_true',Bool.not_eq_true]
 have sortd:A.Pairwise (·<·):=by rw [hA];exact List.pairwise_lt_range.filter _
 have h1:∀d∈A,d<row.length:=fun d hd=>by rw [←r.len];exact Nat.lt_trans (mem.1 hd).1 hkl
 have h2:A.Nodup:=sortd.imp fun h=>Nat.ne_of_lt h
 have h3:∀(j d:Nat),A[j]? = some d->∀c,Zbx (V.runs row).st V.m c d=true->c∈A.take j:=fun j d hj c hc=>by
  have hcd:=rise hc
  obtain ⟨m1,m2,m3⟩:=mem.1 (Yo hj)
  have hcA:c∈A:=mem.2 ⟨by omega,fun e=>m3 (Zob hn hil (by omega) (e ▸ hc)),fun e=>m3 (hb_then hil (by omega) e (Zob hn (by omega) (by omega) hc))⟩
  obtain ⟨j',hj'⟩:=List.mem_iff_getElem?.1 hcA
  refine Yo (Zap.2 ⟨?_,hj'⟩)
  rcases Yp j' j with z | z | z
  ·exact z
  ·subst z;rw [hj] at hj';cases hj';omega
  ·have:=Zso sortd hj hj' z;omega
 have hp:=r.parts h1 h2 h3 A.length
 rw [List.take_length] at hp
 have hmapD:(A.map fun d=>row.getD d 0)=Zpc (V.runs row).st V.m i k:=by
  unfold Zpc
  rw [←hA]
  exact List.map_congr_left fun d hd=>r.pickAt (h1 d hd)
 rw [hmapD] at hp
 have hkA:k ∉ A:=fun h=>by have:=(mem.1 h).1;omega
 obtain ⟨pk,p1,p2⟩:=hp.2.mayT r hk hkA fun c x hx hxt hc=>mem.2 ⟨rise hc,fun e=>by
  subst e
  rw [hi] at hx
  cases hx
  exact ht hxt,fun e=>hno c (by have:=rise hc;omega) ⟨e,Zob hn (by have:=rise hc;omega) hkl hc⟩⟩
 have hpk:=r.pick hk
 rw [p1] at hpk
 have hpd:Zpv (V.runs row).st k=(pk:Int):=by rw [Zgw hk];exact (Yn.inj hpk).symm
 refine ⟨?_,fun more hw=>?_⟩
 ·unfold Zga
  rw [hpd]
  exact (MV.whole_app hp.1).2 (MV.whole_one p2).1
 ·have hlen:(Zpc (V.runs row).st V.m i k).length=A.length:=by rw [←hmapD,Yj]
  refine r.unlike h1 h2 h3 hw ?_ hk hkA (fun h=>(mem.1 h).2.1 rfl) ?_ (fun d z hz hzp hd=>mem.2 ⟨hd,fun e=>?_,fun e=>?_⟩) (hb_cover hn hil hb hno)
  ·unfold Zga
   rw [Yh,List.take_append_of_le_length (by omega),Ym (by omega),hmapD]
  ·unfold Zga
   rw [Yh,List.getElem?_append_right (by omega),hlen,Nat.sub_self,Zgw hk];rfl
  ·subst e
   rw [hi] at hz
   cases hz
   have:∀{d:Nat} {s:Stp},(V.runs row).st[d]? = some s->∃i:Nat,s.pick=(i:Int)/\s.t=(tOf i:Int):=fun h=>r.end.h3.pk _ _ h
   obtain ⟨q1,q2,q3⟩:=this hi
   obtain ⟨q4,q5,q6⟩:=this hk
   have:q1=q4:=by omega
   subst this
   exact ht (by rw [q3,q6])
  ·exact hno d (by omega) ⟨e,Zob hn (by omega) hkl (Zca hd hz hk hzp)⟩
section
variable {E:Env}
theorem goOn_R (hE:q419_In E) {P:PProg} {m:Int} (pl:Plays P m) {n k:Nat} {pc:List Cell} (x10:Cell) {t0:List Int} (hw0:(MV.new P m).whole t0) (h100:t0.length<=100) {hb:Za} {z:Cell} {zs:Cell} {bs:List Cell} (a0:RvAt n hb k zs bs pc ((MV.new P m).runs t0)) (hnb:n<=hb.length) (oz:Own n hb z 1 (intC .i64 t0) t0.length) :
  ∃more z' h',Zq (q419_F1 (R E) Zq E.glob) (q419_s1 m x10 z (.ptr k 37 0) 0 pc hb)=some (.exit 0,q419_x1_1 m x10 z' pc h')/\(MV.new P m).whole (t0++more)/\(t0++more).length<=160/\Own n h' z' 1 (intC .i64 (t0++more)) (t0++more).length/\Kp n hb h':=by
 have hM:maxBytes>=1000*8:=by unfold maxBytes;omega
 obtain ⟨e,he,hQ⟩:=Zqw (F:=q419_F1 (R E) Zq E.glob)
  (fun q st=>∃(more:List Int) (z zs:Cell) (bs:List Cell) (h':Za),q=60 - more.length/\more.length<=60/\st=q419_s1 m x10 z (.ptr k 37 0) (more.length:Int) pc h'/\(MV.new P m).whole (t0++more)/\RvAt n h' k zs bs pc ((MV.new P m).runs (t0++more))/\Own n h' z 1 (intC .i64 (t0++more)) (t0++more).length/\Kp n hb h'/\n<=h'.length)
  (fun e=>∃(more:List Int) (z:Cell) (h':Za),e=(.exit 0,q419_x1_1 m x10 z pc h')/\(MV.new P m).whole (t0++more)/\(t0++more).length<=160/\Own n h' z 1 (intC .i64 (t0++more)) (t0++more).length/\Kp n hb h')
  (fun q st hI=>by
   obtain ⟨more,z,zs,bs,h',rfl,hm60,rfl,hw,a,oz,kk,hnh⟩:=hI
   have hl:(t0++more).length=t0.length+more.length:=Yb
   by_cases h60:more.length<60
   ·obtain ⟨v,vP,vm⟩:=MV.runs_inv pl.inv (t0++more)
    have vst:=MV.runs_st pl.inv hw
    rw [show (MV.new P m).st.length=0 from rfl,Nat.zero_add] at vst
    generalize hV:(MV.new P m).runs (t0++more)=V at *
    have hg':V.P.good:=by rw [vP];exact pl.good
    obtain ⟨x6,h4,r4,o4,k4⟩:=Zqf hE.c181 a v.fit hg'
    have a4:=a.keep k4
    have oz4:=oz.keepK k4
    have kk4:Kp n hb h4:=kk.trans (k4.mono hnh)
    by_cases h0:(Zbu V.word).length=0
    ·refine .inr ⟨_,?_,(by simp:Ex.exit 0≠.normal),more,z,h4,rfl,hw,by omega,oz4,kk4⟩
     rw [q419_r1,if_pos (by simp;omega),r4,c1_ok,asC_ok,o4.at.len,if_pos (by rw [h0];rfl)]
    ·refine .inl ?_
     obtain ⟨i,hi,hch⟩:=Zry (v:=0) o4 (by omega) (by omega)
     obtain ⟨zs7,bs7,h7,r7,a7,k7⟩:=Zrw hE.c182 a4 v hg' (by omega) hi
     have oz7:Own n h7 z 1 (intC .i64 (t0++more)) (t0++more).length:=oz4.via fun j b q1 q2=>(k7.old j b q2 (a4.apart oz4 q1).1 (a4.apart oz4 q1).2.1).1
     have kk7:Kp n hb h7:=kk4.trans k7.kp
     have hn7:n<=h7.length:=Ye (Ye hnh k4.1) k7.kp.1
     obtain ⟨z9,h9,e9,o9,k9,s9⟩:=oz7.app (bytes:=8) (xs:=[.int .i64 (i:Int)]) (by omega) rfl (by omega) (by omega) (by omega)
     have rs:(MV.new P m).runG (t0++more++[(i:Int)])=(V.nx i,(t0++more).length+1):=by
      have:=MV.runG_snoc (t0++more) (MV.new P m) i hw (by rw [show ((MV.new P m).runG (t0++more)).1=V from hV];exact hi)
      rw [this,show ((MV.new P m).runG (t0++more)).1=V from hV]
     have e4:t0++(more++[(i:Int)])=t0++more++[(i:Int)]:=(Yh _ _ _).symm
     refine ⟨q419_s1 m x10 z9 (.ptr k 37 0) ((more++[(i:Int)]).length:Int) pc h9,60 - (more++[(i:Int)]).length,?_,⟨more++[(i:Int)],z9,zs7,bs7,h9,rfl,by simp;omega,rfl,?_,?_,?_,kk7.trans k9,Ye hn7 k9.1⟩,by simp;omega⟩
     ·rw [q419_r1,if_pos (by simp;omega),r4,c1_ok,asC_ok,o4.at.len,if_neg (by rw [beq_iff_eq];omega),hch h4 (fun _ _ _ q=>q),asI_ok,r7,c2_ok,asA_ok,asB_ok,hch h7 (fun j b q1 q2=>(k7.old j b q2 (a4.apart o4 q1).1 (a4.apart o4 q1).2.1).1),asI_ok,if_pos (by rfl),show splice [ci0] 0 [(.int .i64 (i:Int))]=[.int .i64 (i:Int)] from rfl,e9,Zo (by omega),Yb,Yd]
     ·unfold MV.whole;rw [e4,rs];simp;omega
     ·unfold MV.runs;rw [e4,rs]
      refine a7.other k9.1 k9 fun j b q1 q2=>(s9 j b q1 (fun q=>?_)).1
      ·have ap:=a7.apart oz7 q
       rcases q2 with q2 | q2 | ⟨t,ht,q2⟩
       ·exact ap.1 q2
       ·exact ap.2.1 q2
       ·exact ap.2.2 t ht q2
     ·rw [e4,intC_snoc,Yb,Yd];exact o9
   ·refine .inr ⟨_,?_,(by simp:Ex.exit 0≠.normal),more,z,h',rfl,hw,by omega,oz,kk⟩
    rw [q419_r1,if_neg (by simp;omega)]) (k:=60) (st:=q419_s1 m x10 z (.ptr k 37 0) ((([]:List Int).length:Nat):Int) pc hb) ⟨[],z,zs,bs,hb,rfl,by simp,rfl,by rw [Yk];exact hw0,by rw [Yk];exact a0,by rw [Yk];exact oz,Kp.refl _ _,hnb⟩
 obtain ⟨more,z',h',rfl,q1,q2,q3,q4⟩:=hQ
 exact ⟨more,z',h',he,q1,q2,q3,q4⟩
theorem RvAt.lower {n n0 k:Nat} {h:Za} {x:Cell} {bs pc:List Cell} {V:MV} (a:RvAt n h k x bs pc V) (hn:n0<=n) (p:ProgAt (h.take n0) pc V.P):RvAt n0 h k x bs pc V :=
 ⟨Ye hn a.hn,Ye hn a.nk,p,a.blk,a.st.monoN hn,a.sep,a.bl,fun t ht=>by obtain ⟨q1,q2,q3⟩:=a.bf t ht;exact ⟨q1.monoN hn,q2,q3⟩⟩
set_option maxHeartbeats 2000000 in
theorem RaceGoes_law (ht:Zil E) (hE:q419_In E) {h:Za} {c0 c1' c2' c3':List Cell} (o0:okC h (.sl (.i .i64)) c0) (o1:okC h (.i .i64) c1') (o2:okC h (.sl (.i .i64)) c2') (o3:okC h (.i .i64) c3') :
  ∃h',R E 419 [av1 (.sl (.i .i64)) c0,av1 (.i .i64) c1',av1 (.sl (.i .i64)) c2',av1 (.i .i64) c3'] h=some ([.c (.bool true)],h'):=by
 obtain ⟨x,m0,y,m,cs,P,h1,h2,h3,z,zs,bs,row,ha0,ha1,ha2,hm,r1,hcl,r2,r3,oz,p1,pl,g1,hw,h60,_,a3,k1,k2,k3⟩:=AnyRun_R hE.c76 hE.c254 hE.c186 o0 o1 o2 (most:=8) (by omega)
 obtain ⟨w0,ha3,_⟩:=Zzt o3
 have hlocs:=g1.locs
 have r:=pl.ran hlocs hw
 obtain ⟨v,vP,vm⟩:=MV.runs_inv pl.inv row
 have vst:=r.len
 have hpicks:((MV.new P m).runs row).st.map Stp.pick=row:=by
  refine List.ext_getElem? fun i=>?_
  rw [Yg]
  cases hs:((MV.new P m).runs row).st[i]? with
  | none =>
   have:((MV.new P m).runs row).st.length<=i:=List.getElem?_eq_none_iff.1 hs
   rw [List.getElem?_eq_none (by omega)];rfl
  | some s=>rw [r.pick hs];rfl
 have rrev:=fun hn {i k:Nat} {a b:Stp} hi hk ht hik hb hno=>Ran.reverse r hn (i:=i) (k:=k) (a:=a) (b:=b) hi hk ht hik hb hno
 have hmV:(MV.new P m).m=m:=rfl
 have hPV:(MV.new P m).P=P:=rfl
 rw [hmV,hPV] at rrev
 generalize hVV:(MV.new P m).runs row=V at *
 have hl64:V.st.length<=64:=by omega
 have f:=v.fit
 have hl3:=Zcn (x:=zs) f hcl a3.bl
 obtain ⟨w,h4,r4,o4,k4⟩:=Znu hE.c256 ht a3.st.at a3.st.low m
 have a4:=a3.keep k4
 have pA:=p1.keep k2
 have kk3:Kp h1.length h1 h3:=k2.trans (k3.mono k2.1)
 have kk4:Kp h1.length h1 h4:=kk3.trans (k4.mono kk3.1)
 have p4:=p1.keep kk4
 have oz4:=(oz.keepK k3).keepK k4
 have head:∀o,(Zz w fun n_21=>if (n_21==0)=true then Znj (.ptr h2.length 37 0) fun k_22 N_23 o_24=>Zp h4 k_22 N_23 fun l_25=>Ze l_25 (o_24+36) fun q_26=>c1 (R E 259 [(.c q_26),(.c (.int .i64 m))] h4) fun y_28 h_27=>asB y_28 fun b_29=>scK b_29 true (c1 (R E 258 [] h_27) fun y_31 h_30=>asB y_31 fun b_32=>some (b_32,h_30)) false h_27 fun b_33 h_34=>some ([(.c (.bool b_33))],h_34) else Zz w fun n_35=>if n_35=0 then none else Zl 2 w (E.glob.rem .i64 (E.glob.band .i64 w0 65535) n_35) fun k_36 N_37 o_38=>Zp h4 k_36 N_37 fun l_39=>if o_38+2<=l_39.length then if 0=0/\[ci0,ci0].length=2/\((l_39.drop o_38).take 2).length=2 then if 0=0/\cs.length=3 then Znj (.ptr h2.length 37 0) fun k_40 N_41 o_42=>Zp h4 k_40 N_41 fun l_43=>Ze l_43 (o_42+36) fun q_44=>Ze ((l_39.drop o_38).take 2) 0 fun q_45=>Zk .i64 (.c q_45) fun n_46=>Ze ((l_39.drop o_38).take 2) 1 fun q_47=>Zk .i64 (.c q_47) fun n_48=>c2 (R E 269 [(.agg cs),(.c (.int .i64 m)),(.c q_44),(.c (.int .i64 n_46)),(.c (.int .i64 n_48))] h4) fun y_50 y_51 h_49=>asC y_50 fun x_52=>asB y_51 fun b_53=>if (!b_53)=true then some ([(.c (.bool false))],h_49) else if 0=0/\cs.length=3 then c2 (R E 186 [(.agg cs),(.c (.int .i64 m)),(.c x_52)] h_49) fun y_55 y_56 h_54=>asC y_55 fun x_57=>Zk .i64 y_56 fun n_58=>Zz x_52 fun n_59=>if (n_58 != n_59)=true then some ([(.c (.bool false))],h_54) else (Zq (q419_F1 (R E) Zq E.glob) (q419_s1 m z x_52 x_57 0 cs h_54)).bind fun p_91=>(q419_k3 (R E) Zq E.glob h) p_91.1 p_91.2 else none else none else none else none)=some o ->
   R E 419 [av1 (.sl (.i .i64)) c0,av1 (.i .i64) c1',av1 (.sl (.i .i64)) c2',av1 (.i .i64) c3'] h=some o:=fun o ho=>by
  refine Zd hE.fn ?_
  rw [ha0,ha1,ha2,ha3,q419_eq,show ((8:Int))=((8:Nat):Int) from rfl,r1,c1_ok,asA_ok,if_pos (by exact ⟨rfl,rfl,hcl⟩),hm,if_pos (by exact ⟨rfl,hcl⟩),r2,c1_ok,asC_ok,if_pos (by exact ⟨rfl,hcl⟩),r3,c2_ok,asC_ok,asI_ok,ptrK_p,Zy a3.blk hl3,Zec f hcl a3.bl,r4,c1_ok,asC_ok]
  exact ho
 by_cases h0:(Zbj V.st m).length=0
 ·obtain ⟨h5,r5,k5⟩:=Zyz hE.c259 ht a4.st.at a4.st.low m
  refine ⟨h5,head _ ?_⟩
  rw [o4.at.len,if_pos (by rw [h0];rfl),ptrK_p,Zy a4.blk hl3,Zec f hcl a4.bl,r5,c1_ok,asB_ok,h0,show ((0:Nat)==0)=true from rfl,scK_ok,Zra hE.c258 ht,c1_ok,asB_ok,bind_ok]
 ·have hb16:=Zlq (E:=E) (x:=w0)
  have hrt:Zbj V.st m=Zdv (Zdc V.st.length (hbF V.st m) V.st m) V.st.length:=by unfold Zbj;rw [if_pos hl64]
  have hlen:(Zbj V.st m).length<=64*64:=by
   rw [hrt]
   have:=Zhk (Zdc V.st.length (hbF V.st m) V.st m) hl64 V.st.length (Yf _)
   omega
  have hrng:=Zdt (E:=E) (x:=E.glob.band .i64 w0 65535) (m:=((Zbj V.st m).length:Int)) hb16.1 (by omega)
  obtain ⟨j,hj⟩:=Int.eq_ofNat_of_zero_le hrng.1
  have hjl:j<(Zbj V.st m).length:=by omega
  have hq:(Zbj V.st m)[j]? = some ((Zbj V.st m)[j]):=Yc hjl
  have hmem:=List.getElem_mem hjl
  generalize (Zbj V.st m)[j]=pr at hq hmem
  have hmem2:=hmem
  rw [hrt] at hmem2
  obtain ⟨i,k,hik,hkl,hrc,rfl⟩:=Zpp hmem2
  obtain ⟨sa,sb,hsa,hsb,q1,q2,q3,q4,q5⟩:=Zye hl64 hrc
  obtain ⟨hrw,hun⟩:=rrev hl64 hsa hsb q2 hik q1 q5
  obtain ⟨off,c,g1',g2',g3'⟩:=o4.at.pairG hq
  obtain ⟨t,h5,r5,ot,k5⟩:=Zro hE.c269 ht p4 pl a4.st.at a4.st.low hmem ⟨hik,hkl⟩ (by rw [hpicks];exact hw) (by rw [hpicks,hVV]) hrw
  have kk5:=kk4.trans (k5.mono kk4.1)
  have p5:=p4.keep k5
  have hrl:(Zga V.st m i k).length<=100:=by
   have:=Zpz V.st m i k
   unfold Zga
   rw [Yb,Yd];omega
  have gn:=g1.n
  have gi:=g1.init
  obtain ⟨zs6,bs6,h6,r6,a6,k6⟩:=Zyl hE.c186 p5 g1.good (by omega) (by omega) pl.hm pl.inv ot.at ot.low (by omega)
  have hn6:((MV.new P m).runG (Zga V.st m i k)).2=(Zga V.st m i k).length:=hrw
  rw [hn6] at r6
  have kk6:Kp h4.length h4 h6:=k5.trans (k6.mono k5.1)
  have a6':RvAt h4.length h6 h5.length zs6 bs6 cs ((MV.new P m).runs (Zga V.st m i k)):=RvAt.lower a6 k5.1 (by
   rw [kk6.take,(MV.runs_inv pl.inv _).2.1];exact p4)
  obtain ⟨more,t7,h7,r7,w7,l7,o7,k7⟩:=goOn_R hE pl z hrw hrl a6' kk6.1 (ot.keepK k6)
  have kk7:Kp h4.length h4 h7:=kk6.trans k7
  have p7:=p4.keep kk7
  have oz7:=oz4.keepK kk7
  obtain ⟨lv,h8,r8,k8,hlv⟩:=Like_R hE.c415 p7 pl hlocs oz7.at oz7.low (by omega) o7.at o7.low (by omega)
  have hlf:lv=false:=by
   cases lv with
   | false=>rfl
   | true =>
    have:=(hlv.1 rfl).2.2
    rw [hVV] at this
    exact absurd this (hun more w7)
  refine ⟨h8,head _ ?_⟩
  have pc2:∀p:Int × Int,0=0/\([ci0,ci0]:List Cell).length=2/\(Zdy p).length=2:=fun _=>⟨rfl,rfl,rfl⟩
  have pf:∀{α:Type} (p:Int × Int) (f:Cell->Option α),Ze (Zdy p) 0 f=f (.int .i64 p.1):=fun _ _=>rfl
  have ps:∀{α:Type} (p:Int × Int) (f:Cell->Option α),Ze (Zdy p) 1 f=f (.int .i64 p.2):=fun _ _=>rfl
  rw [o4.at.len,if_neg (show ¬(((Zbj V.st m).length:Int)==0)=true by rw [beq_iff_eq];omega),o4.at.len,if_neg (show ¬((Zbj V.st m).length:Int)=0 by omega),hj,g1',if_pos g2',g3',if_pos (pc2 _),if_pos ⟨rfl,hcl⟩,ptrK_p,Zy a4.blk hl3,Zec f hcl a4.bl,pf,asI_ok,ps,asI_ok,r5,c2_ok,asC_ok,asB_ok,if_neg (by simp),if_pos ⟨rfl,hcl⟩,r6,c2_ok,asC_ok,asI_ok,ot.at.len,if_neg (by simp),r7,bind_ok]
  dsimp only
  rw [q419_e1_1,if_pos ⟨rfl,hcl⟩,r8,c1_ok,asB_ok,hlf,Bool.not_false,scK_ok,Zra hE.c258 ht,c1_ok,asB_ok,bind_ok]
end
end Jq
namespace Go.Proofs.YtjamopobfdnlkaaGreatDoor.LRaceGoes
open Go Jq Go.ChangeShapes Go.WideShapes Go.ChangeAt Go.RowKit
set_option linter.unusedVariables false
theorem own:ownKnob Tryz.prog.godebug=none:=by kernel_rfl
theorem Znl:laidOutB Tryz.prog=true:=by kernel_rfl
theorem gN : Tryz.prog.globalNamed "math/bits.deBruijn64tab" = some 0 := by kernel_rfl
theorem met (os:Os) (args:Array Value):laidMetH Tryz.prog Rows.raceGoesRow.laid ((World.doorLaid Tryz.prog 400 os).forCall (fun _ _=>0) ⟨#[],args,[]⟩).memory :=
 laidMetH_of_parts3 (fuel:=8) (laidMet_of_run' 8 (by kernel_rfl) (by kernel_rfl)) (by kernel_rfl) (by kernel_rfl)
theorem of_laid {W:World} (h:laidMetH Tryz.prog Rows.raceGoesRow.laid W):∀i,i<deB.length->W.cell? ⟨0,i,none⟩=some (.int .u8 (deB.getD i 0)):=by
 rw [MakeChecks.laidMetH_plain _ _ _ (by kernel_rfl)] at h
 have hT:=Lib.tabIs_of_head (zs:=deB) (n:=64) gN (t:=172) (by kernel_rfl) (e:=5) (by kernel_rfl) (by kernel_rfl) (by kernel_rfl) (by kernel_rfl) h
 exact fun i hi=>hT.cell gN i hi
theorem lifted (os:Os) (started:os.Started) (H:Type) (enc:TypeId × Value->H) :
  ReturnsInHanded {} Tryz.checked os 4 .any (fun w args=>(Rows.raceGoesSpec.pre enc Tryz.prog Tryz.f4 [] false w args/\laidMetH Tryz.prog Rows.raceGoesRow.laid w)/\sizedMet enc Tryz.prog Tryz.f4 (OpenSpec.ofChange Rows.raceGoesSpec) false w args) (Rows.raceGoesSpec.post enc Tryz.prog Tryz.f4 false true false false):=by
 refine returnsInHanded_of_change_and (C:=Tryz.checked) (X:=fun w _=>laidMetH Tryz.prog Rows.raceGoesRow.laid w) (fun _ _ _ hh h=>h.of_heap hh) own started (by kernel_rfl) Tryz.func4
  (ChangeSpec.witness_shaped (enc:=enc) (C:=Tryz.checked) (os:=os) (X:=fun w _=>laidMetH Tryz.prog Rows.raceGoesRow.laid w) false (World.doorLaid Tryz.prog 400 os) #[.slice none 0 0,.int .i64 0,.slice none 0 0,.int .i64 0] 8 rfl (World.shaped_of_RefB (by kernel_rfl) (by kernel_rfl)) (by kernel_rfl) (by kernel_rfl) (by kernel_rfl) (met os _)) ?_
 intro W base args ds gs before hval0 hW _ _ hL _
 have hval:∀(j:Nat) t v,Tryz.f4.params[j]? = some t->args[j]? = some v->Value.okWide Tryz.prog W .any base t v:=hval0
 have hW':=hW
 obtain ⟨p,q,hA0,hV,rfl,hfz,hnd⟩:=hW
 have hA:DataW.TrodAll enc Tryz.prog W 0 (fun _=>true) true Tryz.f4.params.toList args.toList ds p:=hA0
 rw [Tryz.params4] at hA hval
 obtain ⟨v0,vs0,d0,ds0,p0,q0,hargs,rfl,rfl,h0,r0⟩:=trodAll_cons hA
 obtain ⟨v1,vs1,d1,ds1,p1,q1,rfl,rfl,rfl,h1,r1⟩:=trodAll_cons r0
 obtain ⟨v2,vs2,d2,ds2,p2,q2,rfl,rfl,rfl,h2,r2⟩:=trodAll_cons r1
 obtain ⟨v3,vs3,d3,ds3,p3,q3,rfl,rfl,rfl,h3,r3⟩:=trodAll_cons r2
 obtain ⟨rfl,rfl,rfl⟩:=trodAll_nil r3
 obtain rfl:args=#[v0,v1,v2,v3]:=by cases args;simp_all
 obtain ⟨rfl,rfl⟩:=trodVars_none hV
 have lt0:∀x∈p0,x.block<W.heap.size:=by obtain ⟨m,hm⟩:=h0;exact DataW.trod_lt m _ _ _ hm
 have lt1:∀x∈p1,x.block<W.heap.size:=by obtain ⟨m,hm⟩:=h1;exact DataW.trod_lt m _ _ _ hm
 have lt2:∀x∈p2,x.block<W.heap.size:=by obtain ⟨m,hm⟩:=h2;exact DataW.trod_lt m _ _ _ hm
 have lt3:∀x∈p3,x.block<W.heap.size:=by obtain ⟨m,hm⟩:=h3;exact DataW.trod_lt m _ _ _ hm
 have c:=Come.tab1 (S:=seat) (W:=W) deB (fun _=>rfl) (of_laid hL)
 have k0:((.sl (.i .i64)):Sh).chk seat.P 22=true:=by kernel_rfl
 obtain ⟨b0,ρ0,cs0,c0,e0,x0,a0,o0⟩:=Zit (S:=seat) (W:=W) (sh:=(.sl (.i .i64))) k0 h0 (Zns k0 (hval 0 22 v0 rfl rfl)) ⟨nofun,nofun⟩ c
 have k1:((.i .i64):Sh).chk seat.P 3=true:=by kernel_rfl
 obtain ⟨b1,ρ1,cs1,c1,e1,x1,a1,o1⟩:=Zit (S:=seat) (W:=W) (sh:=(.i .i64)) k1 h1 (Zns k1 (hval 1 3 v1 rfl rfl)) ⟨nofun,nofun⟩ c0
 have k2:((.sl (.i .i64)):Sh).chk seat.P 22=true:=by kernel_rfl
 obtain ⟨b2,ρ2,cs2,c2,e2,x2,a2,o2⟩:=Zit (S:=seat) (W:=W) (sh:=(.sl (.i .i64))) k2 h2 (Zns k2 (hval 2 22 v2 rfl rfl)) ⟨nofun,nofun⟩ c1
 have k3:((.i .i64):Sh).chk seat.P 3=true:=by kernel_rfl
 obtain ⟨b3,ρ3,cs3,c3,e3,x3,a3,o3⟩:=Zit (S:=seat) (W:=W) (sh:=(.i .i64)) k3 h3 (Zns k3 (hval 3 3 v3 rfl rfl)) ⟨nofun,nofun⟩ c2
 obtain ⟨h',hR⟩:=RaceGoes_law (E:=env) tabOk in_419 (Zcq x3 _ _ (Zcq x2 _ _ (Zcq x1 _ _ o0))) (Zcq x3 _ _ (Zcq x2 _ _ o1)) (Zcq x3 _ _ o2) o3
 refine (law_call (S:=seat) (R_sound (S:=seat) (E:=env) rfl allOk) c3 (vals:=#[v0,v1,v2,v3]) (L2.cons (relA.mono e3 (relA.mono e2 (relA.mono e1 a0))) (L2.cons (relA.mono e3 (relA.mono e2 a1)) (L2.cons (relA.mono e3 a2) (L2.cons a3 L2.nil)))) hR).mono fun e W' ⟨he,bel⟩=>?_
 subst he
 exact ⟨_,rfl,_,_,_,[],_,[],hW',trodAll_mk1 (shut_bool Tryz.underlying4 _),(trodAll_cons_mk (Below.trod Znl (by kernel_rfl) (of_decide_eq_true (by kernel_rfl)) h0 bel lt0) (trodAll_cons_mk (Below.trod Znl (by kernel_rfl) (of_decide_eq_true (by kernel_rfl)) h1 bel lt1) (trodAll_cons_mk (Below.trod Znl (by kernel_rfl) (of_decide_eq_true (by kernel_rfl)) h2 bel lt2) (trodAll_cons_mk (Below.trod Znl (by kernel_rfl) (of_decide_eq_true (by kernel_rfl)) h3 bel lt3) trodAll_mk0)))),rfl,bel.frame _,fun h=>by cases h⟩
theorem over:Rows.raceGoesRow.holds Tryz.pinned (OpenSpec.ofChange Rows.raceGoesSpec) :=
 OpenClaim.holds_of_wide 4 Tryz.f4 rfl rfl rfl rfl rfl rfl rfl ⟨rfl,rfl,rfl,rfl,rfl⟩ rfl rfl rfl rfl rfl (by kernel_rfl) Tryz.func4 (by kernel_rfl)
  (of_decide_eq_true (by kernel_rfl)) (by unfold Func.isWrapper;first | (rw [if_pos (by decide +kernel)];kernel_rfl) | (rw [if_neg (by decide +kernel)];exact ⟨rfl,rfl⟩))
  (fun os started H enc _=>lifted os started H enc)
theorem proved:Rows.RaceGoesCardSaid :=
 Claim7.holds_tied_plain_at .later [] [.data] true (true, "2ce60a3717e7b837a006fb846b93e977a5172f81531cd6c951275b977db76560") false
  over (fun _ h=>by cases h) (by kernel_rfl) (fun _ h=>by cases h) raceGoes_row_tie rfl ⟨rfl,rfl⟩ (by kernel_rfl) rfl
  (fun f fn hf hfn=>by
   obtain rfl : f = 4 := Yn.inj ((show Tryz.prog.funcNamed "jacquard/jacquardlaw20.RaceGoes" = some 4 by kernel_rfl).symm.trans hf) |>.symm
   obtain rfl:fn=Tryz.f4:=(Yn.inj (Tryz.func4.symm.trans hfn)).symm
   exact ⟨by kernel_rfl,fun j t ht=>by
    rw [Tryz.params4] at ht
    have hm:t∈[22,3,22,3]:=by simpa using Array.mem_of_getElem? ht
    have hall:([22,3,22,3].all fun u=>!Tryz.prog.wantsStandIn u)=true:=by kernel_rfl
    exact (show Tryz.prog.wantsStandIn t=false by simpa using List.all_eq_true.1 hall t hm)⟩)
  (by kernel_rfl)
#print axioms proved
end Go.Proofs.YtjamopobfdnlkaaGreatDoor.LRaceGoes

