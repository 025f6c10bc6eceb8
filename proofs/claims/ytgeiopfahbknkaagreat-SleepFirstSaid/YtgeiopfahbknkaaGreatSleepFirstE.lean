/- YtgeiopfahbknkaaGreatSleepFirstE: a part of the proof; no conditions of its own. -/
import Derived.Test.YtgeiopfahbknkaaGreatRows
import Derived.WalkKit
import Derived.ProofKit
import Derived.OpenShut
import Derived.ShutString
import Derived.ChangeOld
import Derived.Below
import Derived.Carry
import Derived.Test.YtgeiopfahbknkaaGreatSleepFirstD
set_option linter.unusedVariables false
set_option linter.unusedSectionVars false
set_option linter.unusedSimpArgs false
set_option maxRecDepth 100000
open List renaming length_range→Ya,getElem?_eq_getElem→Yb,getD_eq_getElem?_getD→Yc,getElem?_range→Yd,length_append→Ye,mem_range→Yf,length_eq_zero_iff→Yg,range→Yh,length_singleton→Yi,getElem?_append_right→Yj,getElem?_append_left→Yk,append_assoc→Ym,mem_of_getElem?→Yp,getElem?_cons_succ→Yt,length_filter_le→Yu,length_cons→Yw,length_take→Yz,map_append→Yaa,append_nil→Yab,length_map→Yac
open Nat renaming lt_or_ge→Yl,zero_testBit→Yo,le_refl→Yq,eq_or_lt_of_le→Ys,lt_trichotomy→Yv,lt_succ_self→Yx
open Bool renaming and_eq_true→Yn,not_eq_true→Yy
open Option renaming some→Yr
namespace Jq
open Go
section
variable {E:Env}
theorem row_done {P:PProg} {m:Int} {most:Nat} (g:GoodP most P) (pl:Plays P m) {row:List Int} (hw:(MV.new P m).whole row) (hend:row.length=60∨((MV.new P m).runs row).word=0) (hinv:((MV.new P m).runs row).Inv2):((MV.new P m).runs row).word=0:=by
 rcases hend with h60 | h0
 ·exfalso
  obtain ⟨v,vP,vm⟩:=MV.runs_inv pl.inv row
  have vst:=MV.runs_st pl.inv hw
  have hP:(MV.new P m).P=P:=rfl
  rw [show (MV.new P m).st.length=0 from rfl,Nat.zero_add] at vst
  have hm:=hinv.most (by rw [vP];exact pl.n4)
  rw [vP,hP] at hm
  have hsz:=Zmr (c:=6) P.thr g.code
  have:=g.n
  unfold Zid at hm
  omega
 ·exact h0
theorem Zml {V:MV} (v:V.Inv) (w:V.Inv2) (sk:V.skips):∀{l:List Int},V.whole l->(V.runs l).Inv2/\(V.runs l).skips
 | [],_=>⟨w,sk⟩
 | q :: l,hw=>by
  unfold MV.whole at hw
  rw [MV.runG_cons] at hw
  unfold MV.runs
  rw [MV.runG_cons]
  by_cases hm:Zer V q=true
  ·rw [if_pos hm] at hw ⊢
   obtain ⟨j,rfl,hj,hn⟩:=Zkt hm
   rw [hn] at hw ⊢
   dsimp only at hw ⊢
   exact Zml (v.nx hj) (v.inv2_nx w sk hj) (MV.skips_nx sk j) (by unfold MV.whole;rw [Yw] at hw;omega)
  ·rw [if_neg hm] at hw;dsimp only at hw;rw [Yw] at hw;omega
theorem Plays.done {P:PProg} {m:Int} {most:Nat} (g:GoodP most P) (pl:Plays P m) {row:List Int} (hw:(MV.new P m).whole row) (hend:row.length=60∨((MV.new P m).runs row).word=0):((MV.new P m).runs row).word=0 :=
 row_done g pl hw hend (Zml pl.inv (MV.new_inv2 g.skip) g.skip hw).1
end
theorem Zsv (f:Nat->Nat) (a k:Nat):∀n,frI f a k n=true↔∀i,a<=i->i<n->¬(f i).testBit k=true
 | 0=>by simp [frI]
 | n+1=>by
  rw [frI,Yn,Zsv f a k n,Bool.not_eq_true',Bool.and_eq_false_iff,decide_eq_false_iff_not]
  constructor
  ·rintro ⟨h1,h2⟩ i hi hn
   rcases Ys (show i<=n by omega) with e | e
   ·subst e
    rcases h2 with h | h
    ·exact absurd hi h
    ·rw [h];simp
   ·exact h1 i hi e
  ·intro h
   refine ⟨fun i hi hn=>h i hi (by omega),?_⟩
   by_cases hn:a<=n
   ·have:=h n hn (Yx _)
    exact .inr (by simpa using this)
   ·exact .inl hn
theorem bitI_at (v:Int) {q:Nat} (hq:q<64):(Zfr v).testBit q=true↔v=(q:Int):=by
 unfold Zfr
 by_cases h:0<=v/\v<64
 ·rw [if_pos h,Nat.testBit_two_pow,decide_eq_true_eq];omega
 ·rw [if_neg h,Yo]
  constructor
  ·intro c;cases c
  ·intro c;omega
theorem Zuk (f:Nat->Nat) (l:List Int) (a:Nat) {q:Nat} (hq:q<64):∀n,(iniS f l a n).testBit q=true↔∃k,a<=k/\k<n/\frI f a k l.length=true/\l.getD k 0=(q:Int)
 | 0=>by
  rw [iniS,Yo]
  exact ⟨(fun c=>by cases c),fun ⟨k,_,h,_⟩=>by omega⟩
 | n+1=>by
  have ih:=Zuk f l a hq n
  rw [iniS]
  by_cases h:(decide (a<=n)&&frI f a n l.length)=true
  ·rw [if_pos h,Nat.testBit_or,Bool.or_eq_true,ih,bitI_at _ hq]
   rw [Yn,decide_eq_true_eq] at h
   constructor
   ·rintro (⟨k,h1,h2,h3⟩ | h1)
    ·exact ⟨k,h1,by omega,h3⟩
    ·exact ⟨n,h.1,Yx _,h.2,h1⟩
   ·rintro ⟨k,h1,h2,h3,h4⟩
    rcases Ys (show k<=n by omega) with e | e
    ·subst e;exact .inr h4
    ·exact .inl ⟨k,h1,e,h3,h4⟩
  ·rw [if_neg h,ih]
   rw [Yn,decide_eq_true_eq] at h
   constructor
   ·rintro ⟨k,h1,h2,h3⟩;exact ⟨k,h1,by omega,h3⟩
   ·rintro ⟨k,h1,h2,h3,h4⟩
    rcases Ys (show k<=n by omega) with e | e
    ·subst e;exact absurd ⟨h1,h3⟩ h
    ·exact ⟨k,h1,e,h3,h4⟩
def Zhm (n a k:Nat):List Nat:=(Yh k).filter fun i=>decide (n<=i)&&i != a
def Zfw (row:List Int) (n a k:Nat):List Int:=(Zhm n a k).map fun i=>row.getD i 0
theorem Zfh {n a k i:Nat}:i∈Zhm n a k↔i<k/\n<=i/\i≠a:=by
 unfold Zhm
 rw [List.mem_filter,Yf,Yn,decide_eq_true_eq,bne_iff_ne]
theorem Zpn (row:List Int) {n a k:Nat} (hn:n<=k):Zfw row n a (k+1)=Zfw row n a k++if k≠a then [row.getD k 0] else []:=by
 unfold Zfw Zhm
 rw [List.range_succ,List.filter_append,Yaa]
 by_cases h:k=a
 ·rw [if_neg (by simpa using h),List.filter_cons_of_neg (by simp [h])];rfl
 ·rw [if_pos h,List.filter_cons_of_pos (by simp [h,hn])];rfl
theorem Zxi (row:List Int) (n a:Nat):Zfw row n a n=[]:=by
 have:Zhm n a n=[]:=List.eq_nil_iff_forall_not_mem.2 fun i hi=>by have:=Zfh.1 hi;omega
 unfold Zfw
 rw [this];rfl
def Zfv (row:List Int) (n a:Nat) (q:Int):List Int:=row.take n++[q]++Zfw row n a row.length
section
variable {V:MV} {row:List Int} (r:Ran V row)
include r
theorem Ran.end0 {A:List Nat} {W:MV} (p:Part V row A W) (h4:∀d,d<row.length->d∈A) (h0:(V.runs row).word=0) (hb:∀t,(V.runs row).b t=[]):W.word=0:=by
 have no:∀i,W.may i=false:=fun i=>by
  rw [←Yy]
  intro hi
  have e0:(V.runs row).may i≠true:=fun h=>by
   have:=(V.runs row).word_bit i
   rw [h0,Yo,h] at this;cases this
  by_cases p4:i<4
  ·obtain ⟨q,h1,_⟩:=(Zge p4).1 hi
   obtain ⟨c,c1,c2,c3,_⟩:=p.loc i p4
   have hs:=r.same (t:=i) c1 (Yq _) fun d s hs hp=>by
    have hd:=Ze hs
    rw [r.len] at hd
    exact ⟨fun _=>hd,fun _=>(c2 d s hs hp).1 (h4 d hd)⟩
   rw [List.take_length] at hs
   refine e0 ((Zge p4).2 ⟨q,?_,fun _=>by unfold BQ;rw [hb];rfl⟩)
   rw [r.keepE.1,←hs,←c3,←p.P];exact h1
  ·obtain ⟨h1,h2⟩:=(Zhw p4).1 hi
   rw [List.find?_isSome] at h2
   obtain ⟨x,hx,_⟩:=h2
   unfold BQ at hx
   obtain ⟨e,he,_⟩:=List.mem_map.1 hx
   have hm:W.m≠1:=by rcases h1 with h | h<;>omega
   obtain ⟨k,k1,s',hs',k2,k3,_,_,k6⟩:=p.told.h.ent _ e he
   obtain ⟨d,s,a1,a2,a3,a4⟩:=p.of hs'
   rcases r.end.h.sto d s a3 (by unfold Zee;rw [←a4.kind,k2,r.keepE.2,←p.m];simp;exact hm) with ⟨t,_,e',he',_⟩ | ⟨j,u,_,j2,j3,j4⟩
   ·rw [hb] at he';cases he'
   ·have hj:=Ze j2
    rw [r.len] at hj
    obtain ⟨k',u',d1,d2,d3⟩:=p.to (h4 j hj) j2
    exact k6 k' u' d2 (by rw [d3.kind,j3]) (by rw [p.frm' d3 j4 a1,k1])
 unfold MV.word
 refine Nat.eq_of_testBit_eq fun i=>?_
 rw [Zha,no,Bool.and_false,Yo]
variable (hn:(V.runs row).st.length<=64) (h0:(V.runs row).word=0) (hb:∀t,(V.runs row).b t=[]) {n a q:Nat} (hna:n<=a) (hal:a<row.length) (haq:row[a]? = some (q:Int)) (hfst:∀j,n<=j->j<a->row[j]?≠some (q:Int))
include hn h0 hb hna hal haq hfst
theorem Ran.front:(V.whole (Zfv row n a q)/\(V.runs (Zfv row n a q)).word=0/\Zyo V.P V.m (V.runs row).st (V.runs (Zfv row n a q)).st)↔∀i,n<=i->i<row.length->¬(hbF (V.runs row).st V.m i).testBit a=true:=by
 have rise:∀{a b:Nat},Zbm (V.runs row).st V.m a b=true->a<b:=fun h=>r.end.h3.rises (by rw [r.keepE.2];exact h)
 have rise2:∀{a b:Nat},a<row.length->(hbF (V.runs row).st V.m a).testBit b=true->a<b:=fun ha h=>(r.end.h3.hb_rises hn (by rw [r.len];exact ha) (by rw [r.keepE.2];exact h)).1
 have hlen:=r.len
 have hsa:(V.runs row).st[a]? = some ((V.runs row).st[a]'(by omega)):=Yb _
 generalize (V.runs row).st[a]'(by omega)=sa at hsa
 have hpa:sa.pick=(q:Int):=by
  have:=r.pick hsa
  rw [haq] at this;exact (Yr.inj this).symm
 have hgd:row.getD a 0=(q:Int):=by rw [Yc,haq];rfl
 have htk:(Yh n).map (fun i=>row.getD i 0)=row.take n:=by
  refine List.ext_getElem? fun i=>?_
  rw [List.getElem?_map,List.getElem?_take]
  by_cases h:i<n
  ·rw [Yd h,if_pos h,Option.map_some,Yc,Yb (show i<row.length by omega)];rfl
  ·rw [List.getElem?_eq_none (by simpa using h),if_neg h];rfl
 have rnd:∀k,(Yh k).Nodup:=fun k=>List.nodup_range
 constructor
 ·rintro ⟨hw,hw0,hal2⟩ i hi hil hbt
  have key:∀k,k<=a - n->(∃i,n<=i/\i<row.length/\a - k<=i/\(hbF (V.runs row).st V.m i).testBit a=true)->∃j,n<=j/\j<row.length/\Zbm (V.runs row).st V.m j a=true:=fun k=>by
   induction k with
   | zero =>
    rintro _ ⟨i,h1,h2,h3,h4⟩
    have:=rise2 h2 h4;omega
   | succ k ih =>
    rintro hk ⟨i,h1,h2,h3,h4⟩
    by_cases hex:∃i,n<=i/\i<row.length/\a - k<=i/\(hbF (V.runs row).st V.m i).testBit a=true
    ·exact ih (by omega) hex
    ·refine ⟨i,h1,h2,hb_cover hn (by omega) h4 fun j hj c=>hex ⟨j,?_,by omega,?_,c.2⟩⟩
     ·have:=rise2 h2 c.1;omega
     ·have:=rise2 h2 c.1
      have:¬a - k<=i:=fun z=>hex ⟨i,h1,h2,z,h4⟩
      omega
  obtain ⟨j,j1,j2,j3⟩:=key (a - n) (Yq _) ⟨i,hi,hil,by omega,hbt⟩
  have hfl:(row.take n).length=n:=by rw [Yz];omega
  refine r.unlike (A:=Yh n) (fun d hd=>by have:=Yf.1 hd;omega) (rnd n) (fun k d hk c hc=>?_) hw ?_ hsa (fun h=>by have:=Yf.1 h;omega) (fun h=>by have:=Yf.1 h;omega) ?_ (fun d z hz hzp hd=>?_) j3 hal2
  ·have hkn:=Ze hk
   rw [Ya] at hkn
   rw [Yd hkn] at hk
   cases hk
   have:=rise hc
   exact Yp (i:=c) (Zag.2 ⟨this,by rw [Yd (by omega)]⟩)
  ·unfold Zfv
   rw [Ya,Ym,List.take_append_of_le_length (by omega),List.take_of_length_le (by omega),htk]
  ·unfold Zfv
   rw [Ya,Ym,Yj (by omega),hfl,Nat.sub_self,hpa];rfl
  ·rcases Yl d n with c | c
   ·exact Yf.2 c
   ·exact absurd (by rw [r.pick hz,hzp,hpa]) (hfst d c hd)
 ·intro hfree
  obtain ⟨A,hA⟩:∃A,A=Yh n++(a :: Zhm n a row.length):=⟨_,rfl⟩
  have mem:∀{d:Nat},d∈A↔d<row.length:=fun {d}=>by
   rw [hA,List.mem_append,List.mem_cons,Yf,Zfh]
   omega
  have srt:(Zhm n a row.length).Pairwise (·<·):=List.pairwise_lt_range.filter _
  have h3:∀(k d:Nat),A[k]? = some d->∀c,Zbm (V.runs row).st V.m c d=true->c∈A.take k:=fun k d hk c hc=>by
   have hcd:=rise hc
   have hck:∃k',k'<k/\A[k']? = some c:=by
    rw [hA] at hk ⊢
    rcases Yl k n with z | z
    ·rw [Yk (by rw [Ya];exact z),Yd z] at hk
     cases hk
     exact ⟨c,hcd,by rw [Yk (by rw [Ya];omega),Yd (by omega)]⟩
    ·have low:c<n->∃k',k'<k/\(Yh n++(a :: Zhm n a row.length))[k']? = some c:=fun h=>⟨c,by omega,by rw [Yk (by rw [Ya];omega),Yd h]⟩
     rw [Yj (by rw [Ya];exact z),Ya] at hk
     have app:∀{j x:Nat},(a :: Zhm n a row.length)[j]? = some x->(Yh n++(a :: Zhm n a row.length))[n+j]? = some x:=fun {j x} h=>by
      rw [Yj (by rw [Ya];omega),Ya,show n+j - n=j by omega];exact h
     cases hkn:k - n with
     | zero =>
      rw [hkn] at hk
      have hk:a=d:=Yr.inj hk
      subst hk
      refine low ?_
      rcases Yl c n with y | y
      ·exact y
      ·exact absurd (Zyh hn (by omega) (by omega) hc) (hfree c y (by omega))
     | succ j =>
      rw [hkn,Yt] at hk
      have hdm:=Zfh.1 (Yp hk)
      rcases Yl c n with y | y
      ·exact low y
      ·by_cases hca:c=a
       ·subst hca
        exact ⟨n+0,by omega,app rfl⟩
       ·obtain ⟨j',hj'⟩:=List.mem_iff_getElem?.1 (Zfh.2 ⟨show c<row.length by omega,y,hca⟩)
        refine ⟨n+(j'+1),?_,app (by rw [Yt];exact hj')⟩
        have:j'<j:=by
         rcases Yv j' j with w | w | w
         ·exact w
         ·subst w;rw [hj'] at hk;cases hk;omega
         ·have:=Zsl srt hk hj' w;omega
        omega
   obtain ⟨k',q1,q2⟩:=hck
   exact Yp (Zag.2 ⟨q1,q2⟩)
  have hnd:A.Nodup:=by
   rw [hA,List.nodup_append]
   refine ⟨rnd n,List.nodup_cons.2 ⟨fun h=>(Zfh.1 h).2.2 rfl,srt.imp fun h=>Nat.ne_of_lt h⟩,fun x hx y hy e=>?_⟩
   have h1:=Yf.1 hx
   subst e
   rcases List.mem_cons.1 hy with h | h
   ·omega
   ·have:=Zfh.1 h;omega
  have hT:Zfv row n a (q:Int)=A.map fun d=>row.getD d 0:=by
   unfold Zfv Zfw
   rw [hA,Yaa,htk,List.map_cons,hgd,Ym];rfl
  obtain ⟨w1,w2,w3⟩:=r.alike (fun d hd=>mem.1 hd) hnd h3 (fun d hd=>mem.2 hd) hT
  exact ⟨w1,r.end0 w3 (fun d hd=>mem.2 hd) h0 hb,w2⟩
end
section
variable {E:Env}
theorem first_R (m n:Nat) (w:Int) {z:Cell} {row:List Int} (hl:row.length<9223372036854775807) (q:Int) (m':Int) (cs:List Cell) {h:Za} (hz:SlAt h z 1 (intC .i64 row) row.length) (hn:n<=row.length) :
  ∃a:Int,Zs (q416_F1 (R E) Zs E.glob) (q416_s1 m' (n:Int) z w q (-1) ((row.length:Int) - 1) cs h)=some (.exit 2,q416_x1_3 m' (n:Int) z w q a cs h) /\
   ((a = -1/\∀j,n<=j->j<row.length->row[j]?≠some q)∨∃k:Nat,a=(k:Int)/\n<=k/\k<row.length/\row[k]? = some q/\∀j,n<=j->j<k->row[j]?≠some q):=by
 have key:∀k,n+k<=row.length->∀a:Int,((a = -1/\∀j,n+k<=j->j<row.length->row[j]?≠some q)∨∃i:Nat,a=(i:Int)/\n+k<=i/\i<row.length/\row[i]? = some q/\∀j,n+k<=j->j<i->row[j]?≠some q) ->
   ∃a':Int,Zs (q416_F1 (R E) Zs E.glob) (q416_s1 m' (n:Int) z w q a (((n+k:Nat):Int) - 1) cs h)=some (.exit 2,q416_x1_3 m' (n:Int) z w q a' cs h) /\
    ((a' = -1/\∀j,n<=j->j<row.length->row[j]?≠some q)∨∃k:Nat,a'=(k:Int)/\n<=k/\k<row.length/\row[k]? = some q/\∀j,n<=j->j<k->row[j]?≠some q):=fun k=>by
  induction k with
  | zero =>
   intro _ a ha
   exact ⟨a,Zm (by rw [q416_r1,if_neg (by simp;omega)]),ha⟩
  | succ k ih =>
   intro hk a ha
   have hg:=Yb (show n+k<row.length by omega)
   generalize row[n+k]=v at hg
   have e:((n+(k+1):Nat):Int) - 1=((n+k:Nat):Int):=by omega
   by_cases hv:v=q
   ·obtain ⟨a',h1,h2⟩:=ih (by omega) ((n+k:Nat):Int) (.inr ⟨n+k,rfl,Yq _,by omega,by rw [hg,hv],fun j h1 h2=>by omega⟩)
    refine ⟨a',?_,h2⟩
    rw [e]
    refine Zar ?_ h1
    rw [q416_r1,if_pos (by simp;omega),hz.get1 (by omega) (Zak hg),asI_ok,if_pos (by simpa using hv),Zh (by omega) (by omega)]
   ·have ne:∀j,n+k<=j->j<n+(k+1)->row[j]?≠some q:=fun j h1 h2=>by
     have:j=n+k:=by omega
     rw [this,hg]
     exact fun c=>hv (Yr.inj c)
    obtain ⟨a',h1,h2⟩:=ih (by omega) a (by
     rcases ha with ⟨a1,a2⟩ | ⟨i,a1,a2,a3,a4,a5⟩
     ·refine .inl ⟨a1,fun j h1 h2=>?_⟩
      rcases Yl j (n+(k+1)) with c | c
      ·exact ne j h1 c
      ·exact a2 j c h2
     ·refine .inr ⟨i,a1,by omega,a3,a4,fun j h1 h2=>?_⟩
      rcases Yl j (n+(k+1)) with c | c
      ·exact ne j h1 c
      ·exact a5 j c h2)
    refine ⟨a',?_,h2⟩
    rw [e]
    refine Zar ?_ h1
    rw [q416_r1,if_pos (by simp;omega),hz.get1 (by omega) (Zak hg),asI_ok,if_neg (by simpa using hv),Zh (by omega) (by omega)]
 have:=key (row.length - n) (by omega) (-1) (.inl ⟨rfl,fun j h1 h2=>by omega⟩)
 rwa [show n+(row.length - n)=row.length by omega] at this
set_option maxHeartbeats 2000000 in
theorem SleepFirst_law (hE:q416_In E) {h:Za} {c0 c1' c2' c3':List Cell} (o0:okC h (.sl (.i .i64)) c0) (o1:okC h (.i .i64) c1') (o2:okC h (.sl (.i .i64)) c2') (o3:okC h (.i .i64) c3') :
  ∃h',R E 416 [av1 (.sl (.i .i64)) c0,av1 (.i .i64) c1',av1 (.sl (.i .i64)) c2',av1 (.i .i64) c3'] h=some ([.c (.bool true)],h'):=by
 have hM:maxBytes>=1000*8:=by unfold maxBytes;omega
 obtain ⟨x,m0,y,m,cs,P,h1,h2,h3,z,zs,bs,row,ha0,ha1,ha2,hm,r1,hcl,r2,r3,oz,p1,pl,g1,hw,h60,hend,a3,k1,k2,k3⟩:=AnyRun_R hE.c76 hE.c254 hE.c186 o0 o1 o2 (most:=8) (by omega)
 obtain ⟨n0,ha3,_⟩:=Zyi o3
 have hlocs:=g1.locs
 have r:=pl.ran hlocs hw
 have h0:=pl.done g1 hw hend
 obtain ⟨v,vP,vm⟩:=MV.runs_inv pl.inv row
 have vst:=r.len
 have hb:∀t,((MV.new P m).runs row).b t=[]:=fun t=>by
  have w2:=(Zml pl.inv (MV.new_inv2 g1.skip) g1.skip hw).1
  have hs:=v.done w2 h0
  unfold MV.sumB at hs
  match t with
  | 0=>exact Yg.1 (by omega)
  | 1=>exact Yg.1 (by omega)
  | 2=>exact Yg.1 (by omega)
  | 3=>exact Yg.1 (by omega)
  | t+4=>exact r.end.h.b4 _ (by omega)
 have hl64:((MV.new P m).runs row).st.length<=64:=by omega
 have hmx:Zib P m row=true:=Zhq.2 ⟨hw,h0⟩
 have f:=v.fit
 have hl3:=Zcr (x:=zs) f hcl a3.bl
 have hw1:E.glob.wrap .i64 ((row.length:Int)+1)=(row.length:Int)+1:=Zh (by omega) (by omega)
 have hrng:=Zdp (E:=E) (x:=E.glob.band .i64 n0 65535) (m:=(row.length:Int)+1) Zks.1 (by omega)
 obtain ⟨n,hn⟩:∃n:Nat,E.glob.rem .i64 (E.glob.band .i64 n0 65535) ((row.length:Int)+1)=(n:Int):=⟨_,(Int.toNat_of_nonneg hrng.1).symm⟩
 rw [hn] at hrng
 have hnl:n<=row.length:=by omega
 have hF:=Zq732 ((MV.new P m).runs row).st m
 have rhb:=HB_R hE.c255 a3.st.at a3.st.low hl64 m
 have oz3:=oz.keepK k3
 have rin:=Zpy hE.c408 hl64 hF oz3.at (by omega) (a0:=(n:Int)) n (by rw [if_neg (by omega)])
 obtain ⟨S,hS⟩:∃S,S=iniS (hbF ((MV.new P m).runs row).st m) row n row.length:=⟨_,rfl⟩
 rw [←hS] at rin
 have hSl:S<2 ^ 64:=by rw [hS];exact Znr _ _ _ _
 have hSb:∀q:Nat,q<64->(S.testBit q=true↔∃k,n<=k/\k<row.length/\(∀i,n<=i->i<row.length->¬(hbF ((MV.new P m).runs row).st m i).testBit k=true)/\row[k]? = some (q:Int)):=fun q hq=>by
  rw [hS,Zuk _ _ _ hq]
  constructor
  ·rintro ⟨k,k1,k2,k3,k4⟩
   refine ⟨k,k1,k2,(Zsv _ _ _ _).1 k3,?_⟩
   rw [Yb k2]
   rw [Yc,Yb k2] at k4
   exact congrArg some k4
  ·rintro ⟨k,k1,k2,k3,k4⟩
   exact ⟨k,k1,k2,(Zsv _ _ _ _).2 k3,by rw [Yc,k4];rfl⟩
 have kk3:Kp h1.length h1 h3:=k2.trans (k3.mono k2.1)
 obtain ⟨st,⟨h4,rfl,k4⟩,hL⟩:=Zcg (F:=q416_F3 (R E) Zs E.glob)
  (fun q st=>∃h',st=q416_s3 m (n:Int) z (S:Int) (q:Int) cs h'/\Kp h3.length h3 h') 0 24 (by omega)
  (fun q st _ hq=>by
   rintro ⟨h',rfl,kk⟩
   have ozq:=oz3.keepK kk
   have rhas:∀h,R E 17 [.c (.int .u64 (S:Int)),.c (.int .i64 (q:Int))] h=some ([.c (.bool (S.testBit q))],h):=fun h=>by rw [Zqj hE.c17 hSl,Zlm (by omega)]
   obtain ⟨a,e1,ha⟩:=first_R (E:=E) 0 n (S:Int) (by omega) (q:Int) m cs ozq.at hnl
   have hwl:E.glob.wrap .i64 ((row.length:Int) - 1)=(row.length:Int) - 1:=Zh (by omega) (by omega)
   rcases ha with ⟨rfl,hno⟩ | ⟨k,rfl,hk1,hk2,hk3,hk4⟩
   ·have hbq:S.testBit q=false:=by
     rw [←Yy,hSb q (by omega)]
     rintro ⟨k,k1,k2,_,k4⟩
     exact hno k k1 k2 k4
    refine ⟨_,?_,h',rfl,kk⟩
    rw [q416_r3,if_pos (by simp;omega),ozq.at.len,hwl,e1,bind_ok]
    dsimp only
    rw [q416_e1_3,if_pos (by simp),rhas,c1_ok,asB_ok,hbq,if_neg (by simp),Zo (by omega)]
   ·-- the row with the step at the front
    have kB:Kp h'.length h' (h'++[some (Blk.mk true 1 [])]):=Kp.app _ (Yq _)
    have ozB:=ozq.keepK kB
    obtain ⟨x5,e5,s5,l5⟩:=ozB.pre hnl
    have htk:(intC .i64 row).take (n*1)=intC .i64 (row.take n):=by unfold intC;rw [List.map_take,Nat.mul_one]
    have htl:(row.take n).length=n:=by rw [Yz];omega
    rw [htk] at s5
    have sc:Zao (h'++[some (Blk.mk true 1 [])]) 1 x5=some (intC .i64 (row.take n)):=s5.cellsG
    obtain ⟨xC,hC,eC,oC,kC,_⟩:=(Zq707 h'.length h' 1 (Yq _)).appN (m:=n) (bytes:=8) (xs:=intC .i64 (row.take n)) (by simp) (by rw [intC_len];omega) (by omega) (by omega) (by omega)
    rw [List.nil_append,Nat.zero_add] at oC
    have hlB:(h'++[some (Blk.mk true 1 [])]).length=h'.length+1:=by simp
    have hCl:h'.length<=hC.length:=by have:=kC.1;omega
    obtain ⟨xD,hD,eD,oD,kD,_⟩:=oC.app (bytes:=8) (xs:=[.int .i64 (q:Int)]) hCl rfl (by omega) (by omega) (by omega)
    have kkD:Kp h'.length h' hD:=(kB.trans kC).trans kD
    have oD':Own h'.length hD xD 1 (intC .i64 (row.take n++[(q:Int)]++Zfw row n k n)) (row.take n++[(q:Int)]++Zfw row n k n).length:=by
     rw [Zxi,Yab,intC_snoc,Ye,Yi,htl];exact oD
    obtain ⟨st,⟨xE,hE',rfl,oE,kE⟩,hL2⟩:=Zcg (F:=q416_F2 (R E) Zs E.glob)
     (fun i st=>∃x h'',st=q416_s2 m (n:Int) z (S:Int) (q:Int) (k:Int) x (i:Int) cs h''/\Own h'.length h'' x 1 (intC .i64 (row.take n++[(q:Int)]++Zfw row n k i)) (row.take n++[(q:Int)]++Zfw row n k i).length/\Kp h'.length h' h'') n row.length hnl
     (fun i st hni hi=>by
      rintro ⟨x,h'',rfl,o,kk⟩
      have hg:=Yb hi
      have hgd:row.getD i 0=row[i]:=by rw [Yc,hg];rfl
      generalize row[i]=v at hg hgd
      have hz:=(ozq.keepK kk).at
      have hll:(row.take n++[(q:Int)]++Zfw row n k i).length<=200:=by
       have:(Zfw row n k i).length<=i:=by
        unfold Zfw Zhm
        rw [Yac]
        have:=Yu (fun j=>decide (n<=j)&&j != k) (Yh i)
        rwa [Ya] at this
       rw [Ye,Ye,Yi,htl];omega
      by_cases hik:i=k
      ·refine ⟨_,?_,x,h'',rfl,?_,kk⟩
       ·rw [q416_r2,hz.len,if_pos (by simp;omega),if_neg (by simp;omega),Zo (by omega)]
       ·rw [Zpn row hni,if_neg (by simpa using hik),Yab];exact o
      ·obtain ⟨x2,h2',e2,o2',k2',_⟩:=o.app (bytes:=8) (xs:=[.int .i64 v]) kk.1 rfl (by omega) (by omega) (by omega)
       refine ⟨_,?_,x2,h2',rfl,?_,kk.trans k2'⟩
       ·rw [q416_r2,hz.len,if_pos (by simp;omega),if_pos (by simp;omega),hz.get1 hi (Zak hg),asI_ok,if_pos (by rfl),show splice [ci0] 0 [(.int .i64 v)]=[.int .i64 v] from rfl,e2,Zo (by omega)]
       ·rw [Zpn row hni,if_pos hik,hgd,←Ym]
        exact (fun (X:List Int) (h:Own h'.length h2' x2 1 (intC .i64 X++[.int .i64 v]) (X.length+1))=>by rw [intC_snoc,Ye,Yi];exact h:∀X:List Int,Own h'.length h2' x2 1 (intC .i64 X++[.int .i64 v]) (X.length+1)->Own h'.length h2' x2 1 (intC .i64 (X++[v])) (X++[v]).length) _ o2') (st:=q416_s2 m (n:Int) z (S:Int) (q:Int) (k:Int) xD (n:Int) cs hD) ⟨xD,hD,rfl,oD',kkD⟩
    have eL:=hL2 _ (Zm (show q416_F2 (R E) Zs E.glob (q416_s2 m (n:Int) z (S:Int) (q:Int) (k:Int) xE (row.length:Int) cs hE')=some (.exit 4,q416_x2_5 m (n:Int) z (S:Int) (q:Int) xE cs hE') by rw [q416_r2,(ozq.keepK kE).at.len,if_neg (by simp)]))
    have hTl:(Zfv row n k (q:Int)).length<=500:=by
     unfold Zfv Zfw Zhm
     have:=Yu (fun j=>decide (n<=j)&&j != k) (Yh row.length)
     rw [Ya] at this
     rw [Ye,Ye,Yi,Yac,htl];omega
    have oT:Own h'.length hE' xE 1 (intC .i64 (Zfv row n k (q:Int))) (Zfv row n k (q:Int)).length:=oE
    have kkE:Kp h3.length h3 hE':=kk.trans (kE.mono kk.1)
    obtain ⟨lv,hG,rG,kG,hlv⟩:=Like_R hE.c415 (p1.keep (kk3.trans (kkE.mono kk3.1))) pl hlocs (ozq.keepK kE).at (ozq.keepK kE).low (by omega) oT.at oT.low hTl
    have hfr:=r.front hl64 h0 hb hk1 hk2 hk3 hk4
    rw [show (MV.new P m).m=m from rfl,show (MV.new P m).P=P from rfl] at hfr
    have hbit:(S.testBit q=true)↔∀i,n<=i->i<row.length->¬(hbF ((MV.new P m).runs row).st m i).testBit k=true:=by
     rw [hSb q (by omega)]
     constructor
     ·rintro ⟨k',q1,q2,q3,q4⟩
      have:k'=k:=by
       rcases Yv k' k with c | c | c
       ·exact absurd q4 (hk4 k' q1 c)
       ·exact c
       ·exfalso
        have s1:((MV.new P m).runs row).st[k]? = some (((MV.new P m).runs row).st[k]'(by omega)):=Yb _
        have s2:((MV.new P m).runs row).st[k']? = some (((MV.new P m).runs row).st[k']'(by omega)):=Yb _
        refine q3 k hk1 hk2 (Zyh hl64 (by omega) (by omega) (Zce c s1 s2 ?_))
        have e1:=r.pick s1
        have e2:=r.pick s2
        rw [hk3] at e1
        rw [q4] at e2
        rw [←Yr.inj e1,←Yr.inj e2]
      rw [←this];exact q3
     ·intro hfree
      exact ⟨k,hk1,hk2,hfree,hk3⟩
    have hlb:lv=S.testBit q:=by
     rw [Bool.eq_iff_iff,hbit,←hfr,hlv]
     constructor
     ·rintro ⟨_,q1,q3⟩;exact ⟨(Zhq.1 q1).1,(Zhq.1 q1).2,q3⟩
     ·rintro ⟨q1,q2,q3⟩;exact ⟨hmx,Zhq.2 ⟨q1,q2⟩,q3⟩
    refine ⟨_,?_,hG,rfl,kkE.trans (kG.mono kkE.1)⟩
    rw [q416_r3,if_pos (by simp;omega),ozq.at.len,hwl,e1,bind_ok]
    dsimp only
    rw [q416_e1_3,if_neg (by simp),if_pos (by rfl),e5,sc,bind_ok,show ([]:List Cell).length=0 from rfl,eC,if_pos (by rfl),show splice [ci0] 0 [(.int .i64 (q:Int))]=[.int .i64 (q:Int)] from rfl,eD,eL,bind_ok]
    dsimp only
    rw [q416_e2_5,if_pos ⟨by trivial,hcl⟩,rG,c1_ok,asB_ok,rhas,c1_ok,asB_ok,hlb,beq_self_eq_true,if_neg (by simp),Zo (by omega)]) (st:=q416_s3 m (n:Int) z (S:Int) ((0:Nat):Int) cs h3) ⟨h3,rfl,Kp.refl _ _⟩
 have eF:=hL _ (Zm (show q416_F3 (R E) Zs E.glob (q416_s3 m (n:Int) z (S:Int) ((24:Nat):Int) cs h4)=some (.exit 0,q416_x3_1 h4) by rw [q416_r3,if_neg (by simp)]))
 rw [show ((0:Nat):Int)=0 from rfl] at eF
 have kk4:Kp h.length h h4:=k1.trans ((kk3.trans (k4.mono kk3.1)).mono k1.1)
 refine ⟨h,Zd hE.fn ?_⟩
 rw [ha0,ha1,ha2,ha3,q416_eq,show ((8:Int))=((8:Nat):Int) from rfl,r1,c1_ok,asA_ok,if_pos (by exact ⟨rfl,rfl,hcl⟩),hm,if_pos (by exact ⟨rfl,hcl⟩),r2,c1_ok,asC_ok,if_pos (by exact ⟨rfl,hcl⟩),r3,c2_ok,asC_ok,asI_ok,oz3.at.len,hw1,if_neg (by omega),hn]
 dsimp only
 rw [ptrK_p,Zx a3.blk hl3,Zhu f hcl a3.bl,rhb,c1_ok,asA_ok,rin,c1_ok,asI_ok,eF,bind_ok]
 dsimp only
 rw [q416_e3_1,Zq729 hE.c403,c1_ok,asB_ok]
 exact Zcp kk4 fun x hx=>by rw [List.mem_singleton] at hx;subst hx;simp [Zjv,AV.cells,Zgi]
end
end Jq
namespace Go.Proofs.YtgeiopfahbknkaaGreat.LSleepFirst
open Go Jq Go.ChangeShapes Go.WideShapes Go.ChangeAt Go.RowKit
set_option linter.unusedVariables false
theorem own:ownKnob Tryz.prog.godebug=none:=by kernel_rfl
theorem Znt:laidOutB Tryz.prog=true:=by kernel_rfl
theorem lifted (os:Os) (started:os.Started) (H:Type) (enc:TypeId × Value->H) :
  ReturnsInHanded {} Tryz.checked os 3 .any (Rows.sleepFirstSpec.pre6 enc Tryz.prog Tryz.f3 Rows.sleepFirstRow.domain false) (Rows.sleepFirstSpec.post enc Tryz.prog Tryz.f3 false true false false):=by
 refine returnsInHanded_of_change (C:=Tryz.checked) own started (by kernel_rfl) Tryz.func3
  (ChangeSpec.witness6 (enc:=enc) (C:=Tryz.checked) false ⟨#[],#[.slice none 0 0,.int .i64 0,.slice none 0 0,.int .i64 0],[]⟩ 8 (by kernel_rfl) (by kernel_rfl) (by kernel_rfl) (by kernel_rfl)) ?_
 intro W base args ds gs before hval0 hW hcnd _
 have hval:∀(j:Nat) t v,Tryz.f3.params[j]? = some t->args[j]? = some v->Value.okWide Tryz.prog W .any base t v:=hval0
 have hW':=hW
 obtain ⟨p,q,hA0,hV,rfl,hfz,hnd⟩:=hW
 have hA:DataW.TrodAll enc Tryz.prog W 0 (fun _=>true) true Tryz.f3.params.toList args.toList ds p:=hA0
 rw [Tryz.params3] at hA hval
 obtain ⟨v0,vs0,d0,ds0,p0,q0,hargs,rfl,rfl,h0,r0⟩:=trodAll_cons hA
 obtain ⟨v1,vs1,d1,ds1,p1,q1,rfl,rfl,rfl,h1,r1⟩:=trodAll_cons r0
 obtain ⟨v2,vs2,d2,ds2,p2,q2,rfl,rfl,rfl,h2,r2⟩:=trodAll_cons r1
 obtain ⟨v3,vs3,d3,ds3,p3,q3,rfl,rfl,rfl,h3,r3⟩:=trodAll_cons r2
 obtain ⟨rfl,rfl,rfl⟩:=trodAll_nil r3
 obtain rfl:args=#[v0,v1,v2,v3]:=by cases args;simp_all
 obtain ⟨rfl,rfl⟩:=trodVars_none hV
 have lt0:∀x∈p0,x.block<W.heap.size:=by obtain ⟨m,hm⟩:=h0;exact DataW.trod_lt m _ _ _ hm
 have lt1:∀x∈p1,x.block<W.heap.size:=by obtain ⟨m,hm⟩:=h1;exact DataW.trod_lt m _ _ _ hm
 have lt2:∀x∈p2,x.block<W.heap.size:=by obtain ⟨m,hm⟩:=h2;exact DataW.trod_lt m _ _ _ hm
 have lt3:∀x∈p3,x.block<W.heap.size:=by obtain ⟨m,hm⟩:=h3;exact DataW.trod_lt m _ _ _ hm
 have c:=Come.nil (S:=seat) (W:=W) (fun _=>rfl)
 have k0:((.sl (.i .i64)):Sh).chk seat.P 22=true:=by kernel_rfl
 obtain ⟨b0,ρ0,cs0,c0,e0,x0,a0,o0⟩:=Zix (S:=seat) (W:=W) (sh:=(.sl (.i .i64))) k0 h0 (Znx k0 (hval 0 22 v0 rfl rfl)) ⟨nofun,nofun⟩ c
 have k1:((.i .i64):Sh).chk seat.P 3=true:=by kernel_rfl
 obtain ⟨b1,ρ1,cs1,c1,e1,x1,a1,o1⟩:=Zix (S:=seat) (W:=W) (sh:=(.i .i64)) k1 h1 (Znx k1 (hval 1 3 v1 rfl rfl)) ⟨nofun,nofun⟩ c0
 have k2:((.sl (.i .i64)):Sh).chk seat.P 22=true:=by kernel_rfl
 obtain ⟨b2,ρ2,cs2,c2,e2,x2,a2,o2⟩:=Zix (S:=seat) (W:=W) (sh:=(.sl (.i .i64))) k2 h2 (Znx k2 (hval 2 22 v2 rfl rfl)) ⟨nofun,nofun⟩ c1
 have k3:((.i .i64):Sh).chk seat.P 3=true:=by kernel_rfl
 obtain ⟨b3,ρ3,cs3,c3,e3,x3,a3,o3⟩:=Zix (S:=seat) (W:=W) (sh:=(.i .i64)) k3 h3 (Znx k3 (hval 3 3 v3 rfl rfl)) ⟨nofun,nofun⟩ c2
 obtain ⟨h',hR⟩:=SleepFirst_law (E:=env) in_416 (Zco x3 _ _ (Zco x2 _ _ (Zco x1 _ _ o0))) (Zco x3 _ _ (Zco x2 _ _ o1)) (Zco x3 _ _ o2) o3
 refine (law_call (S:=seat) (R_sound (S:=seat) (E:=env) rfl allOk) c3 (vals:=#[v0,v1,v2,v3]) (L2.cons (relA.mono e3 (relA.mono e2 (relA.mono e1 a0))) (L2.cons (relA.mono e3 (relA.mono e2 a1)) (L2.cons (relA.mono e3 a2) (L2.cons a3 L2.nil)))) hR).mono fun e W' ⟨he,bel⟩=>?_
 subst he
 exact ⟨_,rfl,_,_,_,[],_,[],hW',trodAll_mk1 (shut_bool Tryz.underlying4 _),(trodAll_cons_mk (Below.trod Znt (by kernel_rfl) (of_decide_eq_true (by kernel_rfl)) h0 bel lt0) (trodAll_cons_mk (Below.trod Znt (by kernel_rfl) (of_decide_eq_true (by kernel_rfl)) h1 bel lt1) (trodAll_cons_mk (Below.trod Znt (by kernel_rfl) (of_decide_eq_true (by kernel_rfl)) h2 bel lt2) (trodAll_cons_mk (Below.trod Znt (by kernel_rfl) (of_decide_eq_true (by kernel_rfl)) h3 bel lt3) trodAll_mk0)))),rfl,bel.frame _,fun h=>by cases h⟩
theorem over:Rows.sleepFirstRow.holds Tryz.pinned (OpenSpec.ofChange Rows.sleepFirstSpec) :=
 OpenClaim.holds_of_wide 3 Tryz.f3 rfl rfl rfl rfl rfl rfl rfl ⟨rfl,rfl,rfl,rfl,rfl⟩ rfl rfl rfl rfl rfl (by kernel_rfl) Tryz.func3 (by kernel_rfl)
  (of_decide_eq_true (by kernel_rfl)) (by unfold Func.isWrapper;first | (rw [if_pos (by decide +kernel)];kernel_rfl) | (rw [if_neg (by decide +kernel)];exact ⟨rfl,rfl⟩))
  (fun os started H enc _=>lifted os started H enc)
theorem proved:Rows.SleepFirstSaid:=over
#print axioms proved
end Go.Proofs.YtgeiopfahbknkaaGreat.LSleepFirst

