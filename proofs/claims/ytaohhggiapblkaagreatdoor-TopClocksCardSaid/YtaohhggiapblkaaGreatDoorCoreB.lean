/- YtaohhggiapblkaaGreatDoorCoreB: a part of the proof; no conditions of its own. -/
import Derived.Orders
import Derived.LoopN
import Derived.Test.YtaohhggiapblkaaGreatDoorCoreA
set_option linter.unusedVariables false
set_option linter.unusedSectionVars false
set_option linter.unusedSimpArgs false
set_option maxRecDepth 100000
open Bool renaming and_eq_true→Ya,false_eq_true→Yo
open List renaming getD_eq_getElem?_getD→Yb,mem_of_getElem?→Yd,mem_append→Ye,mem_cons→Yg,all_eq_true→Yh,getElem?_map→Yj,getElem?_eq_some_iff→Yk,getElem?_set→Yl,getElem?_eq_none→Yn,getElem?_append_left→Yp,eq_of_mem_replicate→Yq,map_cons→Yv
open Array renaming getD_eq_getD_getElem?→Yc,replicate→Yr
open Option renaming bind_some→Yf,map_eq_some_iff→Yi,some→Yu
open Nat renaming le_refl→Ym,le_trans→Ys,zero_add→Yt,add_zero→Yw
namespace Jq
open Go
def TLe (t t':List TV):Prop:=t.length=t'.length/\∀i,t.getD i .top≠.top->t'.getD i .top=t.getD i .top
theorem TLe.refl (t:List TV):TLe t t:=⟨rfl,fun _ _=>rfl⟩
theorem Zbn {t:List TV} {d i:Nat} {v:TV}:(t.set d v).getD i .top=if d=i/\i<t.length then v else t.getD i .top:=by
 rw [Yb,Yb,Yl]
 by_cases h:d=i
 ·subst h
  by_cases h2:d<t.length
  ·simp [h2]
  ·simp [h2]
 ·simp [h]
theorem TLe.set {t t':List TV} (h:TLe t t') (d:Nat) (v:TV):TLe (t.set d v) (t'.set d v):=by
 refine ⟨by simp [h.1],fun i hi=>?_⟩
 rw [Zbn] at hi ⊢
 rw [Zbn,←h.1]
 split at hi
 ·rename_i hc;rw [if_pos hc,if_pos hc]
 ·rename_i hc;rw [if_neg hc,if_neg hc];exact h.2 i hi
theorem TLe.setT {t t':List TV} (h:TLe t t') (d:Option Nat) (v:TV):TLe (setT t d v) (setT t' d v):=by
 cases d with
 | none=>exact h
 | some d=>exact h.set d v
theorem Zq794 {x:TV}:x.isTop=false↔x≠.top:=by cases x<;>simp [TV.isTop]
theorem rdO_le {st st':St} (h:TLe st.t st'.t) {x:O} (hx:rdO st x≠.top):rdO st' x=rdO st x:=by
 cases x with
 | t i=>exact h.2 i hx
 | k v=>rfl
theorem map_le {st st':St} (h:TLe st.t st'.t):∀{xs:List O},(xs.map (rdO st)).any TV.isTop=false->xs.map (rdO st')=xs.map (rdO st)
 | [],_=>rfl
 | x :: xs,hx=>by
  simp only [Yv,List.any_cons,Bool.or_eq_false_iff] at hx
  simp only [Yv]
  rw [rdO_le h (Zq794.1 hx.1),map_le h hx.2]
theorem getD_map_kill {t:List TV} {s i:Nat}:(t.map (Zdu s)).getD i .top=Zdu s (t.getD i .top):=by
 rw [Yb,Yb,Yj]
 cases t[i]?<;>rfl
theorem all_getD {t:List TV} {p:TV->Bool} (h:t.all p=true) {i:Nat} (hi:t.getD i .top≠.top):p (t.getD i .top)=true:=by
 rw [Yb] at hi ⊢
 cases hx:t[i]? with
 | none=>rw [hx] at hi;exact absurd rfl hi
 | some x=>exact Yh.1 h x (Yd hx)
theorem TLe.lay {t t':List TV} (h:TLe t t') {d s:Nat} (hn:(t.set d .top).all (Zt s)=true) (v:TV):TLe (t.set d v) ((t'.map (Zdu s)).set d v):=by
 refine ⟨by simp [h.1],fun i hi=>?_⟩
 rw [Zbn] at hi ⊢
 rw [Zbn,List.length_map,←h.1]
 split at hi
 ·rename_i hc;rw [if_pos hc,if_pos hc]
 ·rename_i hc
  rw [if_neg hc,if_neg hc,getD_map_kill,h.2 i hi]
  have h1:=all_getD hn (i:=i) (by rw [Zbn,if_neg hc];exact hi)
  rw [Zbn,if_neg hc] at h1
  unfold Zdu
  rw [if_pos h1]
theorem Zff {t:List TV} {d:Option Nat} {i:Nat} {v:TV} (hi:i ∉ d.toList):(setT t d v).getD i .top=t.getD i .top:=by
 cases d with
 | none=>rfl
 | some d =>
  simp at hi
  show (t.set d v).getD i .top=_
  rw [Zbn,if_neg]
  rintro ⟨h,_⟩;exact hi h.symm
theorem Zjl (t:List TV) (d:Option Nat) (v:TV):(setT t d v).length=t.length:=by cases d<;>simp [setT]
theorem Zix:∀(ds:List Nat) (t:List TV),(Zde ds t).length=t.length
 | [],_=>rfl
 | d :: ds,t=>by
  show (Zde ds (t.set d .top)).length=_
  rw [Zix ds];simp
theorem Zrm:∀(ds:List Nat) (t:List TV) (i:Nat),(Zde ds t).getD i .top≠.top->i ∉ ds/\(Zde ds t).getD i .top=t.getD i .top
 | [],t,i,_=>⟨by simp,rfl⟩
 | d :: ds,t,i,h=>by
  have hk:Zde (d :: ds) t=Zde ds (t.set d .top):=rfl
  rw [hk] at h ⊢
  obtain ⟨h1,h2⟩:=Zrm ds _ i h
  rw [h2] at h
  rw [Zbn] at h h2
  split at h
  ·exact absurd rfl h
  ·rename_i hc
   rw [if_neg hc] at h2
   refine ⟨?_,h2⟩
   simp only [Yg,not_or]
   refine ⟨fun hid=>?_,h1⟩
   subst hid
   by_cases hl:i<t.length
   ·exact hc ⟨rfl,hl⟩
   ·rw [Yb,Yn (by omega)] at h
    exact h rfl
section
variable {C:Zk} {G:Glo}
theorem Zgy {t:List TV} {gd:Option (Nat × Bool)} (h:Zdl t gd=some true):gd=none∨∃g w,gd=some (g,w)/\t.getD g .top=.v (.c (.bool w)):=by
 unfold Zdl at h
 split at h
 ·exact .inl rfl
 ·rename_i g w
  split at h
  ·rename_i x hx;simp at h;subst h;exact .inr ⟨g,x,rfl,hx⟩
  ·cases h
  ·cases h
theorem Zhf {t:List TV} {g:Nat} {w x:Bool} (h:t.getD g .top=.v (.c (.bool x))):Zdl t (some (g,w))=some (x==w):=by
 unfold Zdl;simp only [h]
theorem Zmv {n:Nat}:∀(r:RL) (E:List Nat) (gd:Nat × Bool) (st:St),wfB n E r=true->st.t.length=n->Zdl st.t (some gd)=some false->gd.1 ∉ r.dsts->(∀e∈E,∃l,st.t.getD e .top=.tup l) ->
  ∃st',runF C G (r.flat (some gd)) st=some st'/\st'.s=st.s/\st'.h=st.h/\st'.t.length=n/\(∀i,i ∉ r.dsts->st'.t.getD i .top=st.t.getD i .top)/\∀e,e∈r.dsts∨e∈E->∃l,st'.t.getD e .top=.tup l
 | .nil,E,gd,st,_,hl,_,_,hE=>⟨st,rfl,rfl,rfl,hl,fun _ _=>rfl,fun e he=>hE e (by simpa [RL.dsts] using he)⟩
 | .op d k xs r,E,gd,st,hw,hl,hg,hgd,hE=>by
  simp only [wfB,Ya] at hw
  simp only [RL.dsts,Ye,not_or] at hgd
  have hd:∀e∈d.toList,e<n:=by
   intro e he
   cases d with
   | none=>simp at he
   | some d=>simp at he;subst he;simpa using hw.1.2
  have hkeep:(setT st.t d (.tup [])).getD gd.1 .top=st.t.getD gd.1 .top:=Zff hgd.1
  obtain ⟨st',h1,h2,h3,h4,h5,h6⟩:=Zmv r (d.toList++E) gd ⟨setT st.t d (.tup []),st.s,st.h⟩ hw.2 (by simp only [Zjl];exact hl)
   (by unfold Zdl at hg ⊢;simp only [hkeep];exact hg) hgd.2 (by
    intro e he
    by_cases hed:e∈d.toList
    ·cases d with
     | none=>simp at hed
     | some d =>
      simp at hed;subst hed
      refine ⟨[],?_⟩
      show (st.t.set e (.tup [])).getD e .top=_
      rw [Zbn,if_pos ⟨rfl,by rw [hl];exact hd e (by simp)⟩]
    ·have:e∈E:=by simpa [hed] using he
     simp only [Zff hed]
     exact hE e this)
  refine ⟨st',?_,h2,h3,h4,fun i hi=>?_,fun e he=>h6 e (by simp only [RL.dsts,Ye] at he ⊢;rcases he with (he | he) | he;exact .inr (.inl he);exact .inl he;exact .inr (.inr he))⟩
  ·simp only [RL.flat,runF,stepN,hg,NK.dst,Yf]
   exact h1
  ·simp only [RL.dsts,Ye,not_or] at hi
   rw [h5 i hi.2];exact Zff hi.1
 | .al _ _ _ _,_,_,_,hw,_,_,_,_=>by simp [wfB] at hw
 | .box _ _ _ _,_,_,_,hw,_,_,_,_=>by simp [wfB] at hw
 | .sc g w b out d c r,E,gd,st,hw,hl,hg,hgd,hE=>by
  simp only [wfB,Ya,decide_eq_true_eq] at hw
  obtain ⟨⟨⟨⟨w1,w2⟩,w3⟩,w4⟩,w5⟩:=hw
  simp only [RL.dsts,Ye,Yg,not_or] at hgd
  obtain ⟨l0,hl0⟩:=hE g (by simpa using w1)
  have hg2:Zdl st.t (some (g,w))=some false:=by unfold Zdl;simp only [hl0]
  obtain ⟨st1,a1,a2,a3,a4,a5,a6⟩:=Zmv b [] (g,w) st w3 hl hg2 (by simpa using w2) (by simp)
  have hg1:Zdl st1.t (some gd)=some false:=by unfold Zdl at hg ⊢;simp only [a5 _ hgd.1];exact hg
  have hgd2:((st1.t.set d (.tup [])).getD gd.1 .top)=st1.t.getD gd.1 .top:=by
   rw [Zbn,if_neg];rintro ⟨h,_⟩;exact hgd.2.1 h.symm
  have hE1:∀e∈b.dsts++E,∃l,st1.t.getD e .top=.tup l:=by
   intro e he
   by_cases heb:e∈b.dsts
   ·exact a6 e (.inl heb)
   ·have:e∈E:=by simpa [heb] using he
    rw [a5 e heb];exact hE e this
  obtain ⟨st2,b1,b2,b3,b4,b5,b6⟩:=Zmv r (d :: (b.dsts++E)) gd ⟨st1.t.set d (.tup []),st1.s,st1.h⟩ w5 (by simp [a4])
   (by unfold Zdl at hg1 ⊢;simp only [hgd2];exact hg1) hgd.2.2 (by
    intro e he
    by_cases hed:e=d
    ·subst hed
     exact ⟨[],by simp only;rw [Zbn,if_pos ⟨rfl,by omega⟩]⟩
    ·have he2:e∈b.dsts++E:=by simpa [hed] using he
     simp only
     rw [Zbn,if_neg (by rintro ⟨h,_⟩;exact hed h.symm)]
     exact hE1 e he2)
  refine ⟨st2,?_,by rw [b2];exact a2,by rw [b3];exact a3,b4,fun i hi=>?_,fun e he=>b6 e (by simp only [RL.dsts,Ye,Yg] at he ⊢;rcases he with (he | he | he) | he;exact .inr (.inr (.inl he));exact .inr (.inl he);exact .inl he;exact .inr (.inr (.inr he)))⟩
  ·simp only [RL.flat]
   rw [Zjx,a1,Yf]
   simp only [runF,stepN,hg1,NK.dst,Yf]
   exact b1
  ·simp only [RL.dsts,Ye,Yg,not_or] at hi
   rw [b5 i hi.2.2]
   simp only
   rw [Zbn,if_neg (by rintro ⟨h,_⟩;exact hi.2.1 h.symm)]
   exact a5 i hi.1
theorem Zoc {α:Type} {k:K} {xs:List TV} {s:Ze} {h:Za} {f:TV->Ze->Za->Option α} {y:α} (hs:stepK C G k xs s h f=some y) :
  ∃v s' h',stepK C G k xs s h (fun v s h=>some (v,s,h))=some (v,s',h')/\f v s' h'=some y:=by
 rw [stepK_nat] at hs
 obtain ⟨⟨v,s',h'⟩,h0,hs⟩:=bind_some hs
 exact ⟨v,s',h',h0,hs⟩
theorem Zq738 {k:K} {xs:List TV} {s s':Ze} {h h':Za} {v:TV} (hk:k.slotW=false) (hs:stepK C G k xs s h (fun v s h=>some (v,s,h))=some (v,s',h')):s'=s:=by
 rw [stepK_s hk] at hs
 obtain ⟨v1,s1,h1,_,h2⟩:=Zoc hs
 cases h2;rfl
theorem Zia {n:Nat}:∀(r:RL) (gd:Option (Nat × Bool)) (st st':St) {α:Type} (f:St->Option α) (y:α),Zab C G r st f=some y->wfR n r=true->TLe st.t st'.t->st'.s=st.s->st'.h=st.h->st.t.length=n ->
  Zdl st'.t gd=some true->(∀g w,gd=some (g,w)->g ∉ r.dsts) ->
  ∃s1 s1',runF C G (r.flat gd) st'=some s1'/\f s1=some y/\TLe s1.t s1'.t/\s1'.s=s1.s/\s1'.h=s1.h/\s1.t.length=n /\
   (∀i x,i ∉ r.dsts->st'.t.getD i .top=.v x->s1'.t.getD i .top=.v x)/\(r.slotless=true->s1.s=st.s/\∀i,i ∉ r.dsts->s1'.t.getD i .top=st'.t.getD i .top)
 | .nil,gd,st,st',α,f,y,hr,_,hle,hs,hh,hl,_,_=>⟨st,st',rfl,hr,hle,hs,hh,hl,fun _ _ _ h=>h,fun _=>⟨rfl,fun _ _=>rfl⟩⟩
 | .op d k xs r,gd,st,st',α,f,y,hr,hw,hle,hs,hh,hl,hg,hgd=>by
  simp only [Zab] at hr
  obtain ⟨htop,hr⟩:=Zic hr
  obtain ⟨v,s2,h2,hk,hr⟩:=Zoc hr
  have hm:=map_le hle (by simpa using htop)
  have hgd1:∀g w,gd=some (g,w)->g ∉ d.toList/\g ∉ r.dsts:=fun g w h=>by have:=hgd g w h;simpa [RL.dsts] using this
  obtain ⟨s1,s1',a1,a2,a3,a4,a5,a6,a7,a8⟩:=Zia r gd ⟨setT st.t d v,s2,h2⟩ ⟨setT st'.t d v,s2,h2⟩ f y hr hw (hle.setT d v) rfl rfl (by simp only [Zjl];exact hl)
   (by
    rcases Zgy hg with rfl | ⟨g,w,rfl,hx⟩
    ·rfl
    ·rw [Zhf (x:=w)]
     ·simp
     ·simp only [Zff (hgd1 g w rfl).1];exact hx) (fun g w h=>(hgd1 g w h).2)
  refine ⟨s1,s1',?_,a2,a3,a4,a5,a6,fun i x hi hx=>?_,fun hsl=>?_⟩
  ·simp only [RL.flat,runF,stepN,hg,nodeK,hm,hs,hh]
   rw [stepK_nat]
   have h0:Zat C G k (xs.map (rdO st)) st.s st.h=some (v,s2,h2):=by
    rw [stepK_nat] at hk
    obtain ⟨⟨v0,s0,h0⟩,e1,e2⟩:=bind_some hk
    simp only [Yu.injEq,Prod.mk.injEq] at e2
    obtain ⟨rfl,rfl,rfl⟩:=e2
    exact e1
   rw [h0]
   exact a1
  ·simp only [RL.dsts,Ye,not_or] at hi
   exact a7 i x hi.2 (by simp only [Zff hi.1];exact hx)
  ·simp only [RL.slotless,Ya,Bool.not_eq_true'] at hsl
   obtain ⟨b1,b2⟩:=a8 hsl.2
   refine ⟨by rw [b1];exact Zq738 hsl.1 hk,fun i hi=>?_⟩
   simp only [RL.dsts,Ye,not_or] at hi
   rw [b2 i hi.2];exact Zff hi.1
 | .al d s z r,gd,st,st',α,f,y,hr,hw,hle,hs,hh,hl,hg,hgd=>by
  simp only [Zab] at hr
  obtain ⟨hn,hr⟩:=Zj hr
  have hgd1:∀g w,gd=some (g,w)->g≠d/\g ∉ r.dsts:=fun g w h=>by have:=hgd g w h;simpa [RL.dsts] using this
  have hkeep:∀i x,i≠d->st'.t.getD i .top=.v x->((st'.t.map (Zdu s)).set d (.loc s 0)).getD i .top=.v x:=by
   intro i x hi hx
   rw [Zbn,if_neg (by rintro ⟨h,_⟩;exact hi h.symm),getD_map_kill,hx];rfl
  obtain ⟨s1,s1',a1,a2,a3,a4,a5,a6,a7,a8⟩:=Zia r gd ⟨st.t.set d (.loc s 0),st.s.set s (some z),st.h⟩ ⟨(st'.t.map (Zdu s)).set d (.loc s 0),st'.s.set s (some z),st'.h⟩ f y hr hw (hle.lay hn _) (by rw [hs]) hh (by simpa using hl)
   (by
    rcases Zgy hg with rfl | ⟨g,w,rfl,hx⟩
    ·rfl
    ·rw [Zhf (x:=w) (hkeep g _ (hgd1 g w rfl).1 hx)];simp) (fun g w h=>(hgd1 g w h).2)
  refine ⟨s1,s1',?_,a2,a3,a4,a5,a6,fun i x hi hx=>?_,fun hsl=>by simp [RL.slotless] at hsl⟩
  ·simp only [RL.flat,runF,stepN,hg,nodeK,Yf]
   exact a1
  ·simp only [RL.dsts,Yg,not_or] at hi
   exact a7 i x hi.2 (hkeep i x hi.1 hx)
 | .box d s x r,gd,st,st',α,f,y,hr,hw,hle,hs,hh,hl,hg,hgd=>by
  simp only [Zab] at hr
  split at hr
  ·rename_i z hz
   obtain ⟨hn,hr⟩:=Zj hr
   have hz':rdO st' x=.v z:=by rw [rdO_le hle (by rw [hz];intro h;cases h),hz]
   have hgd1:∀g w,gd=some (g,w)->g≠d/\g ∉ r.dsts:=fun g w h=>by have:=hgd g w h;simpa [RL.dsts] using this
   have hkeep:∀i x,i≠d->st'.t.getD i .top=.v x->((st'.t.map (Zdu s)).set d (.loc s 0)).getD i .top=.v x:=by
    intro i x hi hx
    rw [Zbn,if_neg (by rintro ⟨h,_⟩;exact hi h.symm),getD_map_kill,hx];rfl
   obtain ⟨s1,s1',a1,a2,a3,a4,a5,a6,a7,a8⟩:=Zia r gd ⟨st.t.set d (.loc s 0),st.s.set s (some z.cells),st.h⟩ ⟨(st'.t.map (Zdu s)).set d (.loc s 0),st'.s.set s (some z.cells),st'.h⟩ f y hr hw (hle.lay hn _) (by rw [hs]) hh (by simpa using hl)
    (by
     rcases Zgy hg with rfl | ⟨g,w,rfl,hx⟩
     ·rfl
     ·rw [Zhf (x:=w) (hkeep g _ (hgd1 g w rfl).1 hx)];simp) (fun g w h=>(hgd1 g w h).2)
   refine ⟨s1,s1',?_,a2,a3,a4,a5,a6,fun i x hi hx=>?_,fun hsl=>by simp [RL.slotless] at hsl⟩
   ·simp only [RL.flat,runF,stepN,hg,nodeK,hz',Yf]
    exact a1
   ·simp only [RL.dsts,Yg,not_or] at hi
    exact a7 i x hi.2 (hkeep i x hi.1 hx)
  ·cases hr
 | .sc g w b out d e r,gd,st,st',α,f,y,hr,hw,hle,hs,hh,hl,hg,hgd=>by
  simp only [wfR,Ya] at hw
  obtain ⟨⟨w1,w2⟩,w3⟩:=hw
  simp only [Zab] at hr
  split at hr
  case h_2=>cases hr
  rename_i x hx
  have hx':st'.t.getD g .top=.v (.c (.bool x)):=by rw [hle.2 g (by rw [hx];intro h;cases h),hx]
  have hgb:g ∉ b.dsts:=by simpa using w1
  have hgd1:∀g0 w0,gd=some (g0,w0)->g0 ∉ b.dsts/\g0≠d/\g0 ∉ r.dsts:=fun g0 w0 h=>by have:=hgd g0 w0 h;simpa [RL.dsts,not_or] using this
  have body:∃(yb:Bool) (h2:Za) (st1:St),runF C G (b.flat (some (g,w))) st'=some st1/\st1.s=st.s/\st1.h=h2/\st1.t.length=n/\(∀i,i ∉ b.dsts->st1.t.getD i .top=st'.t.getD i .top) /\
    nodeK C G (.pk d g w out e) st1=some ⟨st1.t.set d (.v (.c (.bool yb))),st1.s,st1.h⟩/\Zab C G r ⟨(Zde b.dsts st.t).set d (.v (.c (.bool yb))),st.s,h2⟩ f=some y:=by
   unfold scK at hr
   by_cases hxw:x=w
   ·rw [if_pos hxw] at hr
    obtain ⟨⟨yb,h2⟩,hb,hr⟩:=bind_some hr
    obtain ⟨s1,s1',a1,a2,a3,a4,a5,a6,_,a8⟩:=Zia b (some (g,w)) st st' (Ziq out) (yb,h2) hb (Zlt b _ w2) hle hs hh hl (by rw [Zhf hx',hxw];simp) (by rintro g0 w0 h;cases h;exact hgb)
    obtain ⟨c1,c2⟩:=a8 (Zec b _ w2)
    have ho:s1.t.getD out .top=.v (.c (.bool yb))/\s1.h=h2:=by
     unfold Ziq at a2
     split at a2
     ·rename_i z hz;cases a2;exact ⟨hz,rfl⟩
     ·cases a2
    refine ⟨yb,h2,s1',a1,by rw [a4,c1],by rw [a5];exact ho.2,by rw [←a3.1];exact a6,c2,?_,hr⟩
    have hg1:s1'.t.getD g .top=.v (.c (.bool x)):=by rw [c2 g hgb];exact hx'
    have ho1:s1'.t.getD out .top=.v (.c (.bool yb)):=by rw [a3.2 out (by rw [ho.1];intro h;cases h)];exact ho.1
    simp only [nodeK,hg1,hxw,if_true,ho1]
   ·rw [if_neg hxw] at hr
    obtain ⟨⟨yb,h2⟩,hb,hr⟩:=bind_some hr
    cases hb
    have hl':st'.t.length=n:=by rw [←hle.1];exact hl
    obtain ⟨st1,a1,a2,a3,a4,a5,_⟩:=Zmv (C:=C) (G:=G) b [] (g,w) st' w2 hl' (by
     rw [Zhf hx']
     have:(x==w)=false:=by simpa using hxw
     rw [this]) hgb (by simp)
    refine ⟨e,st.h,st1,a1,by rw [a2,hs],by rw [a3,hh],a4,a5,?_,hr⟩
    have hg1:st1.t.getD g .top=.v (.c (.bool x)):=by rw [a5 g hgb];exact hx'
    simp only [nodeK,hg1,hxw,if_false]
  obtain ⟨yb,h2,st1,b1,b2,b3,b4,b5,b6,b7⟩:=body
  have hwant1:Zdl st1.t gd=some true:=by
   rcases Zgy hg with rfl | ⟨g0,w0,rfl,hx0⟩
   ·rfl
   ·rw [Zhf (x:=w0)]
    ·simp
    ·rw [b5 g0 (hgd1 g0 w0 rfl).1];exact hx0
  have hle1:TLe ((Zde b.dsts st.t).set d (.v (.c (.bool yb)))) (st1.t.set d (.v (.c (.bool yb)))):=by
   refine TLe.set ⟨by rw [Zix,hl,b4],fun i hi=>?_⟩ d _
   obtain ⟨k1,k2⟩:=Zrm _ _ _ hi
   rw [b5 i k1,k2]
   exact hle.2 i (by rw [←k2];exact hi)
  have hwant2:Zdl (st1.t.set d (.v (.c (.bool yb)))) gd=some true:=by
   rcases Zgy hwant1 with rfl | ⟨g0,w0,rfl,hx0⟩
   ·rfl
   ·rw [Zhf (x:=w0)]
    ·simp
    ·rw [Zbn,if_neg (by rintro ⟨h,_⟩;exact (hgd1 g0 w0 rfl).2.1 h.symm)];exact hx0
  obtain ⟨s1,s1',a1,a2,a3,a4,a5,a6,a7,a8⟩:=Zia r gd ⟨(Zde b.dsts st.t).set d (.v (.c (.bool yb))),st.s,h2⟩ ⟨st1.t.set d (.v (.c (.bool yb))),st1.s,st1.h⟩ f y b7 w3 hle1 b2 b3 (by simp [Zix,hl])
   hwant2 (fun g0 w0 h=>(hgd1 g0 w0 h).2.2)
  have hkeep:∀i,i ∉ b.dsts->i≠d->(st1.t.set d (.v (.c (.bool yb)))).getD i .top=st'.t.getD i .top:=by
   intro i h1 h2
   rw [Zbn,if_neg (by rintro ⟨h,_⟩;exact h2 h.symm)];exact b5 i h1
  refine ⟨s1,s1',?_,a2,a3,a4,a5,a6,fun i x hi hx=>?_,fun hsl=>?_⟩
  ·simp only [RL.flat]
   rw [Zjx,b1,Yf]
   simp only [runF,stepN,hwant1,b6,Yf]
   exact a1
  ·simp only [RL.dsts,Ye,Yg,not_or] at hi
   exact a7 i x hi.2.2 (by rw [hkeep i hi.1 hi.2.1];exact hx)
  ·simp only [RL.slotless,Ya] at hsl
   obtain ⟨c1,c2⟩:=a8 hsl.2
   refine ⟨c1,fun i hi=>?_⟩
   simp only [RL.dsts,Ye,Yg,not_or] at hi
   rw [c2 i hi.2.2];exact hkeep i hi.1 hi.2.1
end
def mG (ops:Array Oper):Option (Nat × Bool)->Option (Nat × Bool)->Bool
 | none,none=>true
 | some (g,w),some (j,w')=>w==w'&&(ops[j]?).bind (·.dst)==some g
 | _,_=>false
def mNK (S:Seat):NK->Oper->Bool
 | .op d k xs,o=>o.dst==d&&mK S k xs o
 | .al d _ z,o=>o.dst==some d&&(match o.op with | .alloc t=>Zzg S.P t z | _=>false)
 | .box d _ x,o=>o.dst==some d&&(match o.op with | .box _ y=>mO S x y | _=>false)
 | .pk d g w out c,o=>o.dst==some d&&(match o.op with
  | .pick (.tmp g') x y=>g'==g&&(match (if w then x else y),(if w then y else x) with | .tmp t,.const (.bool b)=>t==out&&b==c | _,_=>false)
  | _=>false)
def mN (S:Seat) (ops:Array Oper) (n:Nd) (o:Oper):Bool:=mG ops n.g o.guard&&mNK S n.k o
structure SI (S:Seat) (B:Nat) (st:St) (a:Act) (w:World) (ρ:Rho) (σ:Nat->Nat):Prop where
 fi:FI S B st.s st.h w ρ σ
 tr:TR S ρ σ st.s st.h w st.t a
 hB:B<=w.heap.size
 hd:a.defers=[]
section
variable {S:Seat} {B:Nat} {sl sl':Ze} {h h':Za} {w w':World} {ρ ρ':Rho} {σ σ':Nat->Nat} {o:Oper} {tv:TV}
theorem Zie (a:Act) (d:Option Nat) (v:Value):(a.put d v).defers=a.defers/\(a.put d v).tmps.size=a.tmps.size:=by
 cases d<;>simp [Act.put]
theorem TR.put {t:List TV} {a:Act} (hs:a.tmps.size=t.length) (ht:∀(i:Nat) (tv:TV),t[i]? = some tv->relT S ρ σ sl h w tv (a.tmps.getD i undef)) (d:Option Nat) {v:Value} (hv:relT S ρ σ sl h w tv v) :
  TR S ρ σ sl h w (setT t d tv) (a.put d v):=by
 refine ⟨by rw [(Zie a d v).2,Zjl];exact hs,fun i x hx=>?_⟩
 cases d with
 | none=>exact ht i x hx
 | some d =>
  simp only [setT,Yl] at hx
  have hlt:i<a.tmps.size:=by
   have:=(Yk.1 (show (t.set d tv)[i]? = some x by rw [Yl];exact hx)).1
   simp at this;omega
  show relT S ρ σ sl h w x ((a.tmps.setIfInBounds d v).getD i undef)
  by_cases hd:d=i
  ·subst hd
   rw [if_pos rfl,if_pos (by omega)] at hx
   cases hx
   have:(a.tmps.setIfInBounds d v).getD d undef=v:=by simp [Yc,hlt]
   rw [this];exact hv
  ·rw [if_neg hd] at hx
   have:(a.tmps.setIfInBounds d v).getD i undef=a.tmps.getD i undef:=by
    simp [Yc,Array.getElem?_setIfInBounds,hd]
   rw [this];exact ht i x hx
theorem TR.mono {t:List TV} {a:Act} (tr:TR S ρ σ sl h w t a) (k:Tr sl h w ρ σ sl' h' w' ρ' σ') (hs:∀(i s off:Nat),t[i]? = some (TV.loc s off)->σ' s=σ s):∀(i:Nat) (tv:TV),t[i]? = some tv->relT S ρ' σ' sl' h' w' tv (a.tmps.getD i undef) :=
 fun i x hx=>relT.mono k (fun s off he=>hs i s off (by rw [hx,he])) (tr.2 i x hx)
theorem FI.lay {s:Nat} {cs:List Cell} {C:Array Value} {e:TypeId} (f:FI S B sl h w ρ σ) (hB:B<=w.heap.size) (hl:L2 (relC S ρ h) cs C.toList) :
  FI S B (sl.set s (some cs)) h (w.alloc (.cells C e)) ρ (fun t=>if t=s then w.heap.size else σ t)/\Tr sl h w ρ σ (sl.set s (some cs)) h (w.alloc (.cells C e)) ρ (fun t=>if t=s then w.heap.size else σ t)/\Adv B h w ρ h (w.alloc (.cells C e)) ρ:=by
 have hw:∀x,x<w.heap.size->(w.alloc (.cells C e)).heap[x]? = w.heap[x]?:=fun x hx=>Zbv w _ hx
 have hn:=Zbg w (.cells C e)
 have hsz:w.heap.size<=(w.alloc (.cells C e)).heap.size:=Nat.le_of_lt (Zei hn)
 have hadv:Adv B h w ρ h (w.alloc (.cells C e)) ρ:=Adv.slot (x:=w.heap.size) (fun y _ hy=>hw y hy) hB hsz rfl rfl rfl
 by_cases hs:s<sl.length
 ·have:=FI.putSlot (S:=S) (s:=s) (x:=w.heap.size) (cs:=cs) (w':=w.alloc (.cells C e)) f hs (.inr ⟨Ym _,hB⟩) (fun y _ hy=>hw y hy) hsz ⟨C,e,hn,hl⟩ rfl
  exact ⟨this.1,this.2,hadv⟩
 ·have hset:sl.set s (some cs)=sl:=List.set_eq_of_length_le (by omega)
  rw [hset]
  obtain ⟨f',t'⟩:=f.step (f.hi.same hw) (Step.same hw hsz rfl rfl rfl)
  have hσ:∀t c,slot? sl t=some c->(if t=s then w.heap.size else σ t)=σ t:=by
   intro t c ht
   rw [if_neg]
   rintro rfl
   exact hs (Zpy _ _ ht)
  refine ⟨⟨f'.hi,fun t c ht=>by rw [hσ t c ht];exact f'.sls t c ht,fun t c t2 c2 ht ht2 hne=>by rw [hσ t c ht,hσ t2 c2 ht2];exact f'.sinj t c t2 c2 ht ht2 hne,fun t c k b ht hb=>by rw [hσ t c ht];exact f'.sblk t c k b ht hb,
   fun t c g ht hg=>by rw [hσ t c ht];exact f'.sglo t c g ht hg,fun t c ht=>by rw [hσ t c ht];exact f'.sbase t c ht⟩,⟨t'.ext,t'.size,fun b hb ha=>?_⟩,hadv⟩
  obtain ⟨k1,k2⟩:=t'.lit b hb ha
  exact ⟨k1,k2.1,fun t c ht=>by show (if t=s then w.heap.size else σ t)≠b;rw [hσ t c ht];exact k2.2 t c ht⟩
theorem Zll {t:List TV} {a:Act} (tr:TR S ρ σ sl h w t a) {g:Nat} {b:Bool} (hx:t.getD g .top=.v (.c (.bool b))):a.tmps[g]? = some (.bool b):=by
 have hi:t[g]? = some (.v (.c (.bool b))):=by
  rw [Yb] at hx
  cases h:t[g]? with
  | none=>rw [h] at hx;cases hx
  | some x=>rw [h] at hx;simp at hx;rw [hx]
 have hlt:g<a.tmps.size:=by rw [tr.1];exact (Yk.1 hi).1
 have h1:a.tmps.getD g undef=.bool b:=tr.2 g _ hi
 rw [Yc] at h1
 simp [hlt] at h1 ⊢
 exact h1
theorem Zq782 {t:List TV} {a:Act} (tr:TR S ρ σ sl h w t a) {g:Nat} {l:List AV} (hx:t.getD g .top=.tup l):∃us,a.tmps[g]? = some (.tuple us):=by
 have hi:t[g]? = some (.tup l):=by
  rw [Yb] at hx
  cases h:t[g]? with
  | none=>rw [h] at hx;cases hx
  | some x=>rw [h] at hx;simp at hx;rw [hx]
 have hlt:g<a.tmps.size:=by rw [tr.1];exact (Yk.1 hi).1
 obtain ⟨us,h1,_⟩:=tr.2 g _ hi
 rw [Yc] at h1
 refine ⟨us,?_⟩
 simp [hlt] at h1 ⊢
 exact h1
theorem Zub {ops:Array Oper} {t:List TV} {a:Act} (tr:TR S ρ σ sl h w t a) {gd:Option (Nat × Bool)} {b:Bool} (hm:mG ops gd o.guard=true) (hg:Zdl t gd=some b):Region.wanted o (yielded ops a.tmps)=b:=by
 unfold mG at hm
 split at hm
 ·rename_i hgo
  simp only [Zdl,Yu.injEq] at hg
  subst hg
  simp [Region.wanted,hgo]
 ·rename_i g w0 j w' hgo
  simp only [Ya,beq_iff_eq] at hm
  obtain ⟨rfl,hj⟩:=hm
  unfold Zdl at hg
  simp only [Region.wanted,hgo,yielded,hj,Yf]
  simp only at hg
  split at hg
  ·rename_i x hx
   rw [Zll tr hx]
   simp at hg ⊢
   rw [←hg]
  ·rename_i l hx
   obtain ⟨us,hu⟩:=Zq782 tr hx
   rw [hu]
   simp at hg ⊢
   rw [←hg]
  ·cases hg
 ·cases hm
theorem Zqm {C:Zk} (sc:Zck S C) {ops:Array Oper} {i:Nat} {n:Nd} {st st':St} {a:Act} (ho:ops[i]? = some o) (hm:mN S ops n o=true) (si:SI S B st a w ρ σ) (hs:stepN C (Glo.std S.tab) n st=some st')
  {next:Act->World->Prop} {Q:Exit->Act->World->Prop} (hn:∀a' w' ρ' σ',SI S B st' a' w' ρ' σ'->Adv B st.h w ρ st'.h w' ρ'->next a' w'):wpOp S.P ops Q i next a w:=by
 obtain ⟨gd,nk⟩:=n
 simp only [mN,Ya] at hm
 obtain ⟨hmg,hmk⟩:=hm
 unfold stepN at hs
 simp only at hs
 split at hs
 ·-- wanted
  rename_i hg
  have hw:=Zub si.tr hmg hg
  unfold wpOp
  simp only [ho,hw,if_true]
  refine .inl ?_
  unfold nodeK at hs
  split at hs
  ·-- an operation
   rename_i d k xs
   simp only [mNK,Ya,beq_iff_eq] at hmk
   obtain ⟨hdst,hmk⟩:=hmk
   obtain ⟨v,s2,h2,hk,hs⟩:=Zoc hs
   cases Zc hs
   refine Zzv sc hmk si.fi si.tr hk next Q fun v' w' ρ' hr hf ht ha=>?_
   refine hn _ w' ρ' σ ⟨hf,?_,Ys si.hB ht.size,by rw [(Zie _ _ _).1];exact si.hd⟩ ha
   rw [hdst]
   exact TR.put si.tr.1 (si.tr.mono ht fun _ _ _ _=>rfl) d hr
  ·-- a slot laid
   rename_i d s z
   simp only [mNK,Ya,beq_iff_eq] at hmk
   obtain ⟨hdst,hmk⟩:=hmk
   cases Zc hs
   split at hmk
   ·rename_i t hop
    obtain ⟨ti,zv,hi,hz,hzz⟩:=Znv hmk
    obtain ⟨f',t',a'⟩:=FI.lay (s:=s) (e:=t) si.fi si.hB (Zek hzz S ρ st.h)
    have hr:(execOp a.eval o).run S.P w=.ok (.value (.pointer (some ⟨w.heap.size,0,none⟩))) (w.alloc (.cells zv.cells t)):=by simp [execOp,hop,Instr.alloc,Zqg hi hz,Ziv]
    unfold Oper.wp
    rw [hr]
    refine hn _ _ ρ _ ⟨f',?_,Ys si.hB t'.size,by rw [(Zie _ _ _).1];exact si.hd⟩ a'
    rw [hdst]
    refine TR.put (t:=st.t.map (Zdu s)) (tv:=.loc s 0) (by simpa using si.tr.1) (fun i x hx=>?_) (some d) (by show _=_;simp)
    simp only [Yj,Yi] at hx
    obtain ⟨x0,hx0,rfl⟩:=hx
    by_cases hn:Zt s x0=true
    ·have:Zdu s x0=x0:=by unfold Zdu;rw [if_pos hn]
     rw [this]
     refine relT.mono t' (fun s' off he=>?_) (si.tr.2 i x0 hx0)
     rw [if_neg]
     rintro rfl
     rw [he] at hn;simp [Zt] at hn
    ·have:Zdu s x0=.top:=by unfold Zdu;rw [if_neg hn]
     rw [this];trivial
   ·cases hmk
  ·rename_i d s x
   simp only [mNK,Ya,beq_iff_eq] at hmk
   obtain ⟨hdst,hmk⟩:=hmk
   split at hs
   ·rename_i y hy
    cases Zc hs
    split at hmk
    ·rename_i t y0 hop
     have hrel:=mO_rel hmk si.tr
     rw [hy] at hrel
     obtain ⟨f',t',a'⟩:=FI.lay (s:=s) (e:=t) si.fi si.hB (relA.cells (S:=S) (ρ:=ρ) (h:=st.h) hrel)
     have hr:(execOp a.eval o).run S.P w=.ok (.value (.pointer (some ⟨w.heap.size,0,none⟩))) (w.alloc (.cells (a.eval y0).cells t)):=by simp [execOp,hop,Instr.box,Ziv]
     unfold Oper.wp
     rw [hr]
     refine hn _ _ ρ _ ⟨f',?_,Ys si.hB t'.size,by rw [(Zie _ _ _).1];exact si.hd⟩ a'
     rw [hdst]
     refine TR.put (t:=st.t.map (Zdu s)) (tv:=.loc s 0) (by simpa using si.tr.1) (fun i x hx=>?_) (some d) (by show _=_;simp)
     simp only [Yj,Yi] at hx
     obtain ⟨x0,hx0,rfl⟩:=hx
     by_cases hn:Zt s x0=true
     ·have:Zdu s x0=x0:=by unfold Zdu;rw [if_pos hn]
      rw [this]
      refine relT.mono t' (fun s' off he=>?_) (si.tr.2 i x0 hx0)
      rw [if_neg]
      rintro rfl
      rw [he] at hn;simp [Zt] at hn
     ·have:Zdu s x0=.top:=by unfold Zdu;rw [if_neg hn]
      rw [this];trivial
    ·cases hmk
   ·cases hs
  ·-- the pick behind a short way
   rename_i d g w0 out c
   simp only [mNK,Ya,beq_iff_eq] at hmk
   obtain ⟨hdst,hmk⟩:=hmk
   split at hmk
   case h_2=>cases hmk
   rename_i g' x y hop
   simp only [Ya,beq_iff_eq] at hmk
   obtain ⟨rfl,hmk⟩:=hmk
   split at hmk
   case h_2=>cases hmk
   rename_i t0 b0 he1 he2
   simp only [Ya,beq_iff_eq] at hmk
   obtain ⟨rfl,rfl⟩:=hmk
   split at hs
   case h_2=>cases hs
   rename_i xb hxb
   have hgv:a.eval (.tmp g')=.bool xb:=by
    have:=Zll si.tr hxb
    show a.tmps.getD g' undef=_
    rw [Yc,this];rfl
   have fin:∀(yb:Bool),(if xb then a.eval x else a.eval y)=.bool yb->st'={ st with t:=st.t.set d (.v (.c (.bool yb))) }->o.wp S.P a w next Q:=by
    intro yb hv hst
    subst hst
    have hr:(execOp a.eval o).run S.P w=.ok (.value (.bool yb)) w:=by
     simp only [execOp,hop,hgv]
     simp [asBool,hv]
    unfold Oper.wp
    rw [hr]
    refine hn _ w ρ σ ⟨si.fi,?_,si.hB,by rw [(Zie _ _ _).1];exact si.hd⟩ Adv.refl
    rw [hdst]
    exact TR.put (tv:=.v (.c (.bool yb))) si.tr.1 si.tr.2 (some d) rfl
   split at hs
   ·rename_i hxw
    subst hxw
    split at hs
    case h_2=>cases hs
    rename_i yb hyb
    refine fin yb ?_ (Zc hs).symm
    have hov:a.eval (.tmp t0)=.bool yb:=by
     have:=Zll si.tr hyb
     show a.tmps.getD t0 undef=_
     rw [Yc,this];rfl
    cases xb
    ·simp only [Yo,if_false] at he1 ⊢;rw [he1];exact hov
    ·simp only [if_true] at he1 ⊢;rw [he1];exact hov
   ·rename_i hxw
    refine fin b0 ?_ (Zc hs).symm
    cases xb<;>cases w0<;>simp at hxw he1 he2 ⊢
    ·rw [he2];rfl
    ·rw [he2];rfl
 ·rename_i hg
  have hw:=Zub si.tr hmg hg
  cases Zc hs
  have hdst:o.dst=nk.dst:=by
   cases nk<;>simp only [mNK,Ya,beq_iff_eq] at hmk<;>exact hmk.1
  unfold wpOp
  simp only [ho,hw,Yo,if_false]
  refine hn _ w ρ σ ⟨si.fi,?_,si.hB,by rw [(Zie _ _ _).1];exact si.hd⟩ Adv.refl
  rw [hdst]
  exact TR.put (tv:=.tup []) si.tr.1 si.tr.2 nk.dst ⟨#[],rfl,L2.nil⟩
 ·cases hs
end
def mNs (S:Seat) (ops:Array Oper):List Nd->List Oper->Bool
 | [],[]=>true
 | n :: ns,o :: os=>mN S ops n o&&mNs S ops ns os
 | _,_=>false
theorem Zqd {S:Seat} {ops:Array Oper}:∀{ns:List Nd} {os:List Oper},mNs S ops ns os=true->ns.length=os.length
 | [],[],_=>rfl
 | n :: ns,o :: os,h=>by simp only [mNs,Ya] at h;simp [Zqd h.2]
 | [],_ :: _,h=>by simp [mNs] at h
 | _ :: _,[],h=>by simp [mNs] at h
theorem Zvs {S:Seat} {ops:Array Oper}:∀{ns:List Nd} {os:List Oper} (_:mNs S ops ns os=true) {j:Nat} {n:Nd},ns[j]? = some n->∃o,os[j]? = some o/\mN S ops n o=true
 | [],[],_,j,n,hj=>by simp at hj
 | n :: ns,o :: os,h,j,m,hj=>by
  simp only [mNs,Ya] at h
  cases j with
  | zero=>simp at hj;subst hj;exact ⟨o,rfl,h.1⟩
  | succ j=>simp at hj;obtain ⟨o',h1,h2⟩:=Zvs h.2 hj;exact ⟨o',by simpa using h1,h2⟩
 | [],_ :: _,h,_,_,_=>by simp [mNs] at h
 | _ :: _,[],h,_,_,_=>by simp [mNs] at h
section
variable {S:Seat} {B:Nat} {w:World} {ρ:Rho} {σ:Nat->Nat}
theorem Ztx {C:Zk} (sc:Zck S C) {ops:Array Oper} {Q:Exit->Act->World->Prop}:∀(ns:List Nd) (i:Nat) (st st':St) (a:Act) (w:World) (ρ:Rho) (σ:Nat->Nat),runF C (Glo.std S.tab) ns st=some st' ->
  (∀(j:Nat) (n:Nd),ns[j]? = some n->∃o,ops[i+j]? = some o/\mN S ops n o=true)->SI S B st a w ρ σ ->
  (∀a' w' ρ' σ',SI S B st' a' w' ρ' σ'->Adv B st.h w ρ st'.h w' ρ'->Q .normal a' w')->wpOps S.P ops Q (List.range' i ns.length) a w
 | [],i,st,st',a,w,ρ,σ,hr,_,si,hQ=>by
  cases Zc hr
  exact hQ a w ρ σ si Adv.refl
 | n :: ns,i,st,st',a,w,ρ,σ,hr,hm,si,hQ=>by
  simp only [runF] at hr
  obtain ⟨st1,h1,hr⟩:=bind_some hr
  obtain ⟨o,ho,hmo⟩:=hm 0 n rfl
  rw [List.length_cons,List.range'_succ,wpOps_cons]
  refine Zqm sc (by simpa using ho) hmo si h1 fun a1 w1 ρ1 σ1 si1 ad1=>?_
  exact Ztx sc ns (i+1) st1 st' a1 w1 ρ1 σ1 hr (fun j m hj=>by
   obtain ⟨o',ho',hm'⟩:=hm (j+1) m (by simpa using hj)
   exact ⟨o',by rw [←ho'];congr 1;omega,hm'⟩) si1 fun a' w' ρ' σ' si' ad'=>hQ a' w' ρ' σ' si' (ad1.trans ad')
def DrawOk (S:Seat) (n:Nat) (ops:Array Oper) (r:RL):Prop :=
 ∀(C:Zk) (_:Zck S C) (B:Nat) (st st':St) (a:Act) (w:World) (ρ:Rho) (σ:Nat->Nat) (id:Nat) (Q:Exit->Act->World->Prop),runF C (Glo.std S.tab) (r.flat none) st=some st'->Zgf true r st.t=true->st.t.length=n->SI S B st a w ρ σ ->
  (∀a' w' ρ' σ',SI S B st' a' w' ρ' σ'->Adv B st.h w ρ st'.h w' ρ'->Q .normal a' w')->(Code.region id ops true).wp S.P Q a w
def mC' (S:Seat) (n:Nat) (dr:Array Oper->RL->Bool):IC->Code->Bool
 | .skip,.skip=>true
 | .reg _ d r,.region _ ops d'=>d==d'&&wfR n r&&mNs S ops (r.flat none) ops.toList&&(!d||dr ops r)
 | .seq a b,.seq x y=>mC' S n dr a x&&mC' S n dr b y
 | .cond c x y,.cond c' x' y'=>mO S c c'&&mC' S n dr x x'&&mC' S n dr y y'
 | .blk id c,.block id' c'=>id==id'&&mC' S n dr c c'
 | .loop _ _ _ c,.loop c'=>mC' S n dr c c'
 | .cut _ _ _ a b,.seq x y=>mC' S n dr a x&&mC' S n dr b y
 | .lift _ a,x=>mC' S n dr a x
 | .exit i,.exit j=>i==j
 | .ret,.ret=>true
 | _,_=>false
def Ex.to:Ex->Exit
 | .normal=>.normal
 | .exit i=>.exit i
 | .ret=>.ret
theorem SI.lift {st:St} {a:Act} {s:Nat} {cs:List Cell} (si:SI S B st a w ρ σ) (hcs:st.s.getD s none=some cs):∃ρ' σ',SI S B (Zlg s cs st) a w ρ' σ'/\Adv B st.h w ρ (Zlg s cs st).h w ρ':=by
 obtain ⟨f,tr,hB,hd⟩:=si
 obtain ⟨C,e,hC,hl⟩:=f.sls s cs hcs
 let ρ':Rho:=fun k=>if k=st.h.length then ⟨σ s,0,C.size⟩ else ρ k
 have hnew:∀k b,blk? (st.h++[some ⟨true,0,cs⟩]) k=some b->(k<st.h.length/\blk? st.h k=some b)∨(k=st.h.length/\b=⟨true,0,cs⟩):=by
  intro k b hb
  unfold blk? at *
  rcases Nat.lt_trichotomy k st.h.length with hk | hk | hk
  ·rw [Yp hk] at hb;exact .inl ⟨hk,hb⟩
  ·subst hk
   right
   refine ⟨rfl,?_⟩
   simpa [eq_comm] using hb
  ·rw [Yn (by simp;omega)] at hb;cases hb
 have hold:∀k,k<st.h.length->ρ' k=ρ k:=fun k hk=>by show (if k=st.h.length then _ else ρ k)=_;rw [if_neg (by omega)]
 have hn:ρ' st.h.length=⟨σ s,0,C.size⟩:=if_pos rfl
 have ext:Ext st.h ρ (st.h++[some ⟨true,0,cs⟩]) ρ':=by
  refine ⟨by simp,fun k b hk hb=>?_⟩
  rcases hnew k b hb with ⟨_,h1⟩ | ⟨h1,_⟩
  ·exact ⟨b,h1,Ym _,rfl,fun _=>hold k hk⟩
  ·omega
 have hslot:∀t ct,slot? (st.s.set s none) t=some ct->t≠s/\slot? st.s t=some ct:=by
  intro t ct ht
  unfold slot? at *
  rw [Yb,Yl] at ht
  by_cases hts:s=t
  ·subst hts
   rw [if_pos rfl] at ht
   split at ht<;>cases ht
  ·rw [if_neg hts] at ht
   exact ⟨fun h=>hts h.symm,by rw [Yb];exact ht⟩
 have hlt:∀k b,blk? st.h k=some b->k<st.h.length:=fun k b hb=>by
  unfold blk? at hb
  rcases Nat.lt_or_ge k st.h.length with h1 | h1
  ·exact h1
  ·rw [Yn h1] at hb;cases hb
 have hcl:cs.length=C.size:=by rw [hl.1];simp
 refine ⟨ρ',σ,⟨⟨⟨?_,?_,?_,?_,f.hi.gcl⟩,?_,?_,?_,?_,?_⟩,⟨by simp [Zlg,tr.1],?_⟩,hB,hd⟩,?_⟩
 ·intro k b hb
  rcases hnew k b hb with ⟨hk,h1⟩ | ⟨rfl,rfl⟩
  ·rw [hold k hk];exact (f.hi.blks k b h1).mono ext rfl
  ·rw [hn]
   refine ⟨C,e,(0,0),hC,rfl,by simp only [Yt];omega,fun i c hc=>?_,fun _=>rfl⟩
   obtain ⟨v,hv,hr⟩:=hl.get hc
   exact ⟨v,by rw [Yt];simpa using hv,relC.mono ext hr⟩
 ·intro k b k' b' hb ho hb' hne
  rcases hnew k b hb with ⟨hk,h1⟩ | ⟨rfl,rfl⟩
  ·rw [hold k hk]
   rcases hnew k' b' hb' with ⟨hk',h1'⟩ | ⟨rfl,rfl⟩
   ·rw [hold k' hk'];exact f.hi.inj k b k' b' h1 ho h1' hne
   ·rw [hn];exact fun h=>f.sblk s cs k b hcs h1 h.symm
  ·rw [hn]
   rcases hnew k' b' hb' with ⟨hk',h1'⟩ | ⟨h,_⟩
   ·rw [hold k' hk'];exact f.sblk s cs k' b' hcs h1'
   ·exact absurd h.symm hne
 ·intro g i c hc
  obtain ⟨v,hv,hr⟩:=f.hi.glo g i c hc
  exact ⟨v,hv,relC.mono ext hr⟩
 ·intro g k b hg hb ho
  rcases hnew k b hb with ⟨hk,h1⟩ | ⟨rfl,rfl⟩
  ·rw [hold k hk];exact f.hi.gno g k b hg h1 ho
  ·rw [hn];exact f.sglo s cs g hcs hg
 ·intro t ct ht
  obtain ⟨_,h1⟩:=hslot t ct ht
  exact (f.sls t ct h1).mono ext rfl
 ·intro t ct t' ct' ht ht' hne
  exact f.sinj t ct t' ct' (hslot t ct ht).2 (hslot t' ct' ht').2 hne
 ·intro t ct k b ht hb
  obtain ⟨hts,h1⟩:=hslot t ct ht
  rcases hnew k b hb with ⟨hk,h2⟩ | ⟨rfl,rfl⟩
  ·rw [hold k hk];exact f.sblk t ct k b h1 h2
  ·rw [hn];exact f.sinj t ct s cs h1 hcs hts
 ·intro t ct g ht;exact f.sglo t ct g (hslot t ct ht).2
 ·intro t ct ht;exact f.sbase t ct (hslot t ct ht).2
 ·intro i tv hi
  simp only [Zlg,Yj,Yi] at hi
  obtain ⟨tv0,hi0,rfl⟩:=hi
  have r:=tr.2 i tv0 hi0
  cases tv0 with
  | v x=>exact relA.mono ext r
  | tup l=>obtain ⟨us,hv,hll⟩:=r;exact ⟨us,hv,hll.mono fun _ _=>relA.mono ext⟩
  | loc t off =>
   simp only [liftT]
   split
   ·rename_i hts
    subst hts
    refine ⟨by simp [Zlg],⟨_,r⟩,fun b hb=>?_⟩
    rcases hnew _ b hb with ⟨hk,_⟩ | ⟨_,rfl⟩
    ·omega
    ·exact ⟨Ym _,fun _=>by rw [hn,Yt];exact r⟩
   ·exact r
  | lit el ls =>
   obtain ⟨b,n,C',el',fz,h1,h2,h3,h4,h5⟩:=r
   refine ⟨b,n,C',el',fz,h1,h2,h3,h4.mono fun _ _=>relC.mono ext,fun k bl hb ho=>?_,fun t ct ht=>h5.2 t ct (hslot t ct ht).2⟩
   rcases hnew k bl hb with ⟨hk,h6⟩ | ⟨rfl,rfl⟩
   ·rw [hold k hk];exact h5.1 k bl h6 ho
   ·rw [hn];exact h5.2 s cs hcs
  | top=>trivial
 ·intro h0 w0 ρ0 hb0 t
  have hbs:=f.sbase s cs hcs
  refine ⟨t.ext.trans ext,t.size,t.keep,fun k b hb=>?_,t.os,t.tape,t.output⟩
  rcases hnew k b hb with ⟨hk,h1⟩ | ⟨rfl,rfl⟩
  ·rw [hold k hk];exact t.from_ k b h1
  ·right;rw [hn];show w0.heap.size<=σ s;omega
structure SLe (st st':St):Prop where
 t:TLe st.t st'.t
 s:st.s.length=st'.s.length/\∀i,st.s.getD i none≠none->st'.s.getD i none=st.s.getD i none
 h:st'.h=st.h
theorem FI.weaken {sl sl':Ze} {h:Za} (f:FI S B sl' h w ρ σ) (hs:∀i,sl.getD i none≠none->sl'.getD i none=sl.getD i none):FI S B sl h w ρ σ:=by
 have hk:∀i cs,slot? sl i=some cs->slot? sl' i=some cs:=fun i cs hi=>by
  unfold slot? at hi ⊢
  rw [hs i (by rw [hi];intro h;cases h),hi]
 exact ⟨f.hi,fun s cs h=>f.sls s cs (hk s cs h),fun s cs s' cs' h h'=>f.sinj s cs s' cs' (hk s cs h) (hk s' cs' h'),fun s cs k b h=>f.sblk s cs k b (hk s cs h),fun s cs g h=>f.sglo s cs g (hk s cs h),fun s cs h=>f.sbase s cs (hk s cs h)⟩
theorem SI.weaken {st st':St} {a:Act} (si:SI S B st' a w ρ σ) (hle:SLe st st'):SI S B st a w ρ σ:=by
 have hk:∀i cs,slot? st.s i=some cs->slot? st'.s i=some cs:=fun i cs hi=>by
  unfold slot? at hi ⊢
  rw [hle.s.2 i (by rw [hi];intro h;cases h),hi]
 refine ⟨by rw [←hle.h];exact si.fi.weaken hle.s.2,⟨by rw [hle.t.1];exact si.tr.1,fun i tv hi=>?_⟩,si.hB,si.hd⟩
 by_cases htop:tv=.top
 ·subst htop;trivial
 ·have hg:st.t.getD i .top=tv:=by rw [Yb,hi];rfl
  have h2:=hle.t.2 i (by rw [hg];exact htop)
  rw [hg] at h2
  have h3:st'.t[i]? = some tv:=by
   rw [Yb] at h2
   cases h:st'.t[i]? with
   | none=>rw [h] at h2;simp at h2;exact absurd h2.symm htop
   | some x=>rw [h] at h2;simp at h2;rw [h2]
  have hr:=si.tr.2 i tv h3
  rw [hle.h] at hr
  cases tv with
  | v x=>exact hr
  | tup l=>exact hr
  | loc s off=>exact hr
  | lit e cs =>
   obtain ⟨b,n,C,el,fz,h1,h2,h3,h4,h5,h6⟩:=hr
   exact ⟨b,n,C,el,fz,h1,h2,h3,h4,h5,fun s cs hs=>h6 s cs (hk s cs hs)⟩
  | top=>trivial
theorem Zdn {β:Type} {dead:β}:∀(i:Nat) (l:List Nat) (xs:List β) (j:Nat),(Zas dead i l xs).length=xs.length/\((Zas dead i l xs).getD j dead=dead∨(Zas dead i l xs).getD j dead=xs.getD j dead)
 | i,l,[],j=>by cases l<;>exact ⟨rfl,.inl rfl⟩
 | i,[],x :: xs,j=>by
  simp only [Zas]
  have:=Zdn (dead:=dead) (i+1) [] xs
  cases j with
  | zero=>exact ⟨by simp [(this 0).1],.inl rfl⟩
  | succ j=>exact ⟨by simp [(this j).1],by simpa using (this j).2⟩
 | i,k :: l,x :: xs,j=>by
  simp only [Zas]
  split
  ·have:=Zdn (dead:=dead) (i+1) l xs
   cases j with
   | zero=>exact ⟨by simp [(this 0).1],.inr rfl⟩
   | succ j=>exact ⟨by simp [(this j).1],by simpa using (this j).2⟩
  ·have:=Zdn (dead:=dead) (i+1) (k :: l) xs
   cases j with
   | zero=>exact ⟨by simp [(this 0).1],.inl rfl⟩
   | succ j=>exact ⟨by simp [(this j).1],by simpa using (this j).2⟩
theorem SLe.keep (st:St) (live ls:List Nat):SLe (st.keep live ls) st:=by
 refine ⟨⟨(Zdn 0 live st.t 0).1,fun i hi=>?_⟩,⟨(Zdn 0 ls st.s 0).1,fun i hi=>?_⟩,rfl⟩
 ·rcases (Zdn (dead:=TV.top) 0 live st.t i).2 with h | h
  ·exact absurd h hi
  ·exact h.symm
 ·rcases (Zdn (dead:=(none:Option (List Cell))) 0 ls st.s i).2 with h | h
  ·exact absurd h hi
  ·exact h.symm
theorem Zxu (st:St) (live ls:List Nat):(st.keep live ls).t.length=st.t.length:=(Zdn 0 live st.t 0).1
theorem Zsw {live ls:List Nat} {X:List (Nat × List Nat × List Nat)} {ex:Ex} {st:St} {p:Ex × St} (h:Zaf live ls X ex st=some p):p.1=ex/\SLe p.2 st:=by
 cases ex<;>simp only [Zaf,Yu.injEq] at h<;>subst h<;>exact ⟨rfl,SLe.keep _ _ _⟩
theorem SLe.len {st st':St} (h:SLe st st'):st.t.length=st'.t.length:=h.t.1
theorem Zzx {C:Zk} (sc:Zck S C) {n m:Nat} {dr:Array Oper->RL->Bool} (hdr:∀ops r,dr ops r=true->DrawOk S n ops r) :
  ∀(c:IC) (mc:Code),mC' S n dr c mc=true->∀{α:Type} (f:Ex->St->Option α) (y:α) (st:St),c.exec C (Zbu m) (Glo.std S.tab) st f=some y->st.t.length=n ->
   ∀(a:Act) (w:World) (ρ:Rho) (σ:Nat->Nat),SI S B st a w ρ σ->∀(Q:Exit->Act->World->Prop),
    (∀ex st' a' w' ρ' σ',f ex st'=some y->st'.t.length=n->SI S B st' a' w' ρ' σ'->Adv B st.h w ρ st'.h w' ρ'->Q ex.to a' w')->mc.wp S.P Q a w:=by
 intro c
 induction c with
 | skip =>
  intro mc hm α f y st hx hl a w ρ σ si Q hQ
  cases mc<;>simp only [mC'] at hm<;>first | (cases hm;done) | skip
  exact wp_skip (hQ .normal st a w ρ σ hx hl si Adv.refl)
 | reg id d r =>
  intro mc hm α f y st hx hl a w ρ σ si Q hQ
  cases mc<;>simp only [mC'] at hm<;>first | (cases hm;done) | skip
  rename_i id' ops d'
  simp only [Ya,beq_iff_eq] at hm
  obtain ⟨⟨⟨rfl,hwf⟩,hmn⟩,hd⟩:=hm
  simp only [IC.exec] at hx
  obtain ⟨hdo,hx⟩:=Zj hx
  obtain ⟨s1,s1',h1,h2,h3,h4,h5,h6,_⟩:=Zia r none st st (fun st=>f .normal st) y hx hwf (TLe.refl _) rfl rfl hl rfl (fun g w h=>by cases h)
  have fin:∀a' w' ρ' σ',SI S B s1' a' w' ρ' σ'->Adv B st.h w ρ s1'.h w' ρ'->Q .normal a' w':=fun a' w' ρ' σ' si' ad' =>
   hQ .normal s1 a' w' ρ' σ' h2 h6 (si'.weaken ⟨h3,⟨by rw [h4],fun i _=>by rw [h4]⟩,h5⟩) (by rw [←h5];exact ad')
  cases d with
  | false =>
   refine wp_region ?_
   have:=Ztx sc (r.flat none) 0 st s1' a w ρ σ h1 (fun j nd hj=>by
    obtain ⟨o,ho,hmo⟩:=Zvs hmn hj
    exact ⟨o,by simpa using ho,hmo⟩) si fin
   rw [Zqd hmn,Array.length_toList,←List.range_eq_range'] at this
   exact this
  | true =>
   simp only [Bool.not_true,Bool.false_or] at hd
   exact hdr ops r hd C sc B st s1' a w ρ σ id' Q h1 hdo hl si fin
 | seq c1 c2 ih1 ih2 =>
  intro mc hm α f y st hx hl a w ρ σ si Q hQ
  cases mc<;>simp only [mC'] at hm<;>first | (cases hm;done) | skip
  simp only [Ya] at hm
  simp only [IC.exec] at hx
  refine wp_seq (ih1 _ hm.1 _ y st hx hl a w ρ σ si _ fun ex st' a' w' ρ' σ' hf hl' si' ad'=>?_)
  cases ex with
  | normal=>exact ih2 _ hm.2 f y st' hf hl' a' w' ρ' σ' si' Q fun ex2 st2 a2 w2 ρ2 σ2 hf2 hl2 si2 ad2=>hQ ex2 st2 a2 w2 ρ2 σ2 hf2 hl2 si2 (ad'.trans ad2)
  | exit i=>exact hQ _ st' a' w' ρ' σ' hf hl' si' ad'
  | ret=>exact hQ _ st' a' w' ρ' σ' hf hl' si' ad'
 | cond cc c1 c2 ih1 ih2 =>
  intro mc hm α f y st hx hl a w ρ σ si Q hQ
  cases mc<;>simp only [mC'] at hm<;>first | (cases hm;done) | skip
  simp only [Ya] at hm
  simp only [IC.exec] at hx
  split at hx
  ·rename_i b hb
   have he:=mO_rel hm.1.1 si.tr
   rw [hb] at he
   refine wp_cond (t:=b) he ?_
   cases b
   ·simp only [Yo,if_false] at hx ⊢
    exact ih2 _ hm.2 f y st hx hl a w ρ σ si Q hQ
   ·simp only [if_true] at hx ⊢
    exact ih1 _ hm.1.2 f y st hx hl a w ρ σ si Q hQ
  ·cases hx
 | blk id c1 ih1 =>
  intro mc hm α f y st hx hl a w ρ σ si Q hQ
  cases mc<;>simp only [mC'] at hm<;>first | (cases hm;done) | skip
  simp only [Ya,beq_iff_eq] at hm
  obtain ⟨rfl,hm⟩:=hm
  simp only [IC.exec] at hx
  refine wp_block (ih1 _ hm _ y st hx hl a w ρ σ si _ fun ex st' a' w' ρ' σ' hf hl' si' ad'=>?_)
  cases ex with
  | normal=>exact hQ .normal st' a' w' ρ' σ' hf hl' si' ad'
  | exit i =>
   simp only [Zap] at hf
   simp only [Ex.to,Exit.inBlock]
   split at hf
   ·rename_i hi;rw [if_pos hi];exact hQ .normal st' a' w' ρ' σ' hf hl' si' ad'
   ·rename_i hi;rw [if_neg hi];exact hQ (.exit i) st' a' w' ρ' σ' hf hl' si' ad'
  | ret=>exact hQ .ret st' a' w' ρ' σ' hf hl' si' ad'
 | loop live ls X c1 ih1 =>
  intro mc hm α f y st hx hl a w ρ σ si Q hQ
  cases mc<;>simp only [mC'] at hm<;>first | (cases hm;done) | skip
  rename_i mc1
  simp only [IC.exec] at hx
  obtain ⟨⟨ex,stx⟩,hp,hx⟩:=bind_some hx
  have rounds:∀(k:Nat) (s0:St) (a0:Act) (w0:World) (ρ0:Rho) (σ0:Nat->Nat),Zbu k (Zo (fun st f=>c1.exec C (Zbu m) (Glo.std S.tab) st f) live ls X) s0=some (ex,stx)->s0.t.length=n->SI S B s0 a0 w0 ρ0 σ0->Adv B st.h w ρ s0.h w0 ρ0 ->
    Code.rounds S.P mc1 Q k a0 w0:=by
   intro k
   induction k with
   | zero=>intro s0 a0 w0 ρ0 σ0 h;simp [Zbu] at h
   | succ k ihk =>
    intro s0 a0 w0 ρ0 σ0 h hl0 si0 ad0
    simp only [Zbu] at h
    obtain ⟨⟨e1,s1⟩,hr,h⟩:=bind_some h
    rw [rounds_succ]
    refine ih1 _ hm _ (e1,s1) s0 hr hl0 a0 w0 ρ0 σ0 si0 _ fun ex2 st' a' w' ρ' σ' hf hl' si' ad'=>?_
    obtain ⟨he,hle⟩:=Zsw hf
    simp only at he hle
    subst he
    have si1:=si'.weaken hle
    have had:Adv B st.h w ρ s1.h w' ρ':=by rw [←hle.h];exact ad0.trans ad'
    have hl1:s1.t.length=n:=by rw [hle.len];exact hl'
    cases e1 with
    | normal=>exact ihk s1 a' w' ρ' σ' h hl1 si1 had
    | exit i =>
     cases Zc h
     exact hQ (.exit i) s1 a' w' ρ' σ' hx hl1 si1 had
    | ret =>
     cases Zc h
     exact hQ .ret s1 a' w' ρ' σ' hx hl1 si1 had
  exact wp_loop_rounds m (rounds m (st.keep live ls) a w ρ σ hp (by rw [Zxu];exact hl) (si.weaken (SLe.keep _ _ _)) Adv.refl)
 | cut live ls X c1 c2 ih1 ih2 =>
  intro mc hm α f y st hx hl a w ρ σ si Q hQ
  cases mc<;>simp only [mC'] at hm<;>first | (cases hm;done) | skip
  simp only [Ya] at hm
  simp only [IC.exec] at hx
  obtain ⟨⟨e1,s1⟩,hp,hx⟩:=bind_some hx
  refine wp_seq (ih1 _ hm.1 _ (e1,s1) st hp hl a w ρ σ si _ fun ex st' a' w' ρ' σ' hf hl' si' ad'=>?_)
  obtain ⟨he,hle⟩:=Zsw hf
  simp only at he hle
  subst he
  have si1:=si'.weaken hle
  have had:Adv B st.h w ρ s1.h w' ρ':=by rw [←hle.h];exact ad'
  have hl1:s1.t.length=n:=by rw [hle.len];exact hl'
  cases e1 with
  | normal=>exact ih2 _ hm.2 f y s1 hx hl1 a' w' ρ' σ' si1 Q fun ex2 st2 a2 w2 ρ2 σ2 hf2 hl2 si2 ad2=>hQ ex2 st2 a2 w2 ρ2 σ2 hf2 hl2 si2 (had.trans ad2)
  | exit i=>exact hQ _ s1 a' w' ρ' σ' hx hl1 si1 had
  | ret=>exact hQ _ s1 a' w' ρ' σ' hx hl1 si1 had
 | lift s c ih =>
  intro mc hm α f y st hx hl a w ρ σ si Q hQ
  simp only [mC'] at hm
  simp only [IC.exec] at hx
  split at hx
  ·rename_i cs hcs
   obtain ⟨ρ',σ',si',ad'⟩:=si.lift hcs
   exact ih _ hm f y _ hx (by simp [Zlg,hl]) a w ρ' σ' si' Q fun ex st' a' w' ρ'' σ'' hf hl' si'' ad''=>hQ ex st' a' w' ρ'' σ'' hf hl' si'' (ad'.trans ad'')
  ·cases hx
 | exit i =>
  intro mc hm α f y st hx hl a w ρ σ si Q hQ
  cases mc<;>simp only [mC'] at hm<;>first | (cases hm;done) | skip
  simp only [beq_iff_eq] at hm
  subst hm
  exact wp_exit (hQ (.exit i) st a w ρ σ hx hl si Adv.refl)
 | ret =>
  intro mc hm α f y st hx hl a w ρ σ si Q hQ
  cases mc<;>simp only [mC'] at hm<;>first | (cases hm;done) | skip
  exact wp_ret (hQ .ret st a w ρ σ hx hl si Adv.refl)
end
def mR (P:Program):Res->ResultVar->Bool
 | .t i _,.tmp j=>i==j
 | .one _ i _,.cell a t=>i==a&&Ztr P t
 | .all _ i n,.cell a t=>i==a&&rowT P t n
 | _,_=>false
def mRs (P:Program):List Res->List ResultVar->Bool
 | [],[]=>true
 | r :: rs,v :: vs=>mR P r v&&mRs P rs vs
 | _,_=>false
section
variable {S:Seat} {B:Nat} {w w':World} {ρ ρ':Rho} {σ:Nat->Nat} {h h':Za}
theorem Zqe {t:List TV} {a:Act} {sl:Ze} (tr:TR S ρ σ sl h w t a) (i:Nat):relT S ρ σ sl h w (t.getD i .top) (a.tmps.getD i undef):=by
 cases hi:t[i]? with
 | none=>rw [Yb,hi];trivial
 | some tv=>rw [Yb,hi];exact tr.2 i tv hi
def Zqs (tmps:Array Value):ResultVar->Sem Value
 | .tmp t=>pure (tmps.getD t undef)
 | .cell a t=>do loadVar t (←asAddr (tmps.getD a undef))
theorem Zua {α:Type} {st:St} {a:Act} (si:SI S B st a w ρ σ):∀{rs:List Res} {vs:List ResultVar} (f:List AV->Option α) (y:α),Zcn (Glo.std S.tab) rs st f=some y->mRs S.P rs vs=true ->
  ∃ys us,f ys=some y/\(vs.mapM (Zqs a.tmps)).run S.P w=.ok us w/\L2 (relA S ρ st.h) ys us
 | [],[],f,y,hr,_=>⟨[],[],hr,by simp,L2.nil⟩
 | r :: rs,v :: vs,f,y,hr,hm=>by
  simp only [mRs,Ya] at hm
  obtain ⟨hm1,hm2⟩:=hm
  have one:∃x u,Zcn (Glo.std S.tab) rs st (fun ys=>f (x :: ys))=some y/\(Zqs a.tmps v).run S.P w=.ok u w/\relA S ρ st.h x u:=by
   cases r with
   | t i r0 =>
    simp only [Zcn] at hr
    split at hr
    ·rename_i x hx
     cases v with
     | tmp j =>
      simp only [mR,beq_iff_eq] at hm1
      subst hm1
      have:=Zqe si.tr i
      rw [hx] at this
      exact ⟨x,_,Zda hr,by simp [Zqs],this⟩
     | cell a t=>simp [mR] at hm1
    ·cases hr
   | one m i r0 =>
    simp only [Zcn] at hr
    obtain ⟨cs,off,bk,base,hg,hv,hc,_⟩:=Zhz si.fi (Zqe si.tr i) hr
    split at hg
    ·rename_i c hcc
     cases v with
     | tmp j=>simp [mR] at hm1
     | cell a0 t =>
      simp only [mR,Ya,beq_iff_eq] at hm1
      obtain ⟨rfl,hct⟩:=hm1
      obtain ⟨d,hd,hna⟩:=Zks hct
      obtain ⟨u,hu,hrel⟩:=hc off c hcc
      exact ⟨.c c,u,Zda hg,by simp [Zqs,hv,asAddr,loadVar,Zfi hd,hna,hu],hrel⟩
    ·cases hg
   | all m i n =>
    simp only [Zcn] at hr
    obtain ⟨cs,off,bk,base,hg,hv,hc,_⟩:=Zhz si.fi (Zqe si.tr i) hr
    obtain ⟨⟨h0,hle⟩,hg2⟩:=Zj hg
    subst h0
    rw [Yw] at hv
    cases v with
    | tmp j=>simp [mR] at hm1
    | cell a0 t =>
     simp only [mR,Ya,beq_iff_eq] at hm1
     obtain ⟨rfl,hct⟩:=hm1
     obtain ⟨d,ti,hd,hna,hti,hn⟩:=Zsl hct
     obtain ⟨us,hu,hL⟩:=Zlv (cs:=cs) (off:=0) (n:=n) hc (by omega) S.P
     rw [List.drop_zero,List.take_of_length_le (by omega)] at hL
     rw [Yw] at hu
     subst hn
     exact ⟨.agg cs,.agg us,hg2,by simp [Zqs,hv,asAddr,loadVar,Zfi hd,hna,Zan hti,hu],us,rfl,hL⟩
  obtain ⟨x,u,hx,hu,hrel⟩:=one
  obtain ⟨ys,us,h1,h2,h3⟩:=Zua si (fun ys=>f (x :: ys)) y hx hm2
  exact ⟨x :: ys,u :: us,h1,by simp [List.mapM_cons,hu,h2],L2.cons hrel h3⟩
 | [],_ :: _,_,_,_,hm=>by simp [mRs] at hm
 | _ :: _,[],_,_,_,hm=>by simp [mRs] at hm
theorem Zxt {fn:Func} {tmps:Array Value} {us:List Value} {P:Program} (h:(fn.results.toList.mapM (Zqs tmps)).run P w=.ok us w) :
  (results fn tmps).run P w=.ok (if h:us.toArray.size=1 then us.toArray[0] else .tuple us.toArray) w:=by
 have hr:results fn tmps=(do let vs ←fn.results.mapM (Zqs tmps);pure (if h:vs.size=1 then vs[0] else .tuple vs)):=by
  rfl
 rw [hr,Array.mapM_eq_mapM_toList]
 simp [h]
theorem Zxd {c:Cell} {v:Value} (r:relC S ρ h c v):Zcq h.length c=true:=by
 cases c with
 | ptr k N off=>simp [Zcq];exact r.1
 | sl k N off len=>simp [Zcq];exact r.1
 | csl k N off len=>simp [Zcq];exact r.1
 | fn f caps =>
  obtain ⟨vs,_,hl⟩:=r
  simp only [Zcq,Yh]
  intro p hp
  obtain ⟨i,hi⟩:=List.getElem?_of_mem hp
  obtain ⟨u,_,hu⟩:=hl.get hi
  simp;exact hu.1
 | _=>rfl
theorem Zez {n k:Nat} {b:Blk}:blk? (h'.take n) k=some b↔k<n/\blk? h' k=some b:=by
 unfold blk?
 rw [List.getElem?_take]
 by_cases hk:k<n
 ·simp [hk]
 ·simp [hk]
theorem RefP.take {n k N off:Nat} {v:Value} (hn:n<=h'.length) (hk:k<n) (r:RefP ρ h' k N off v):RefP ρ (h'.take n) k N off v:=by
 obtain ⟨_,ha,hr⟩:=r
 exact ⟨by simp;omega,ha,fun b hb=>hr b (Zez.1 hb).2⟩
theorem relC.take {n:Nat} {c:Cell} {v:Value} (hn:n<=h'.length) (hi:Zcq n c=true) (r:relC S ρ h' c v):relC S ρ (h'.take n) c v:=by
 cases c with
 | ptr k N off=>exact RefP.take hn (by simpa [Zcq] using hi) r
 | sl k N off len =>
  obtain ⟨_,a,c,ha,hlc,hr⟩:=r
  have hk:k<n:=by simpa [Zcq] using hi
  exact ⟨by simp;omega,a,c,ha,hlc,fun b hb=>hr b (Zez.1 hb).2⟩
 | csl k N off len =>
  obtain ⟨_,a,ha,hr⟩:=r
  have hk:k<n:=by simpa [Zcq] using hi
  exact ⟨by simp;omega,a,ha,fun b hb=>hr b (Zez.1 hb).2⟩
 | fn f caps =>
  obtain ⟨vs,hv,hl⟩:=r
  refine ⟨vs,hv,hl.1,fun i p u hp hu=>?_⟩
  have:=Yh.1 hi p (Yd hp)
  exact RefP.take hn (by simpa using this) (hl.2 i p u hp hu)
 | _=>exact r
theorem relA.take {n:Nat} {x:AV} {v:Value} (hn:n<=h'.length) (hi:Zls n x=true) (r:relA S ρ h' x v):relA S ρ (h'.take n) x v:=by
 cases x with
 | c c=>exact relC.take hn (by simpa [Zls,AV.cells] using hi) r
 | agg cs =>
  obtain ⟨us,hv,hl⟩:=r
  refine ⟨us,hv,hl.1,fun i c u hc hu=>relC.take hn ?_ (hl.2 i c u hc hu)⟩
  exact Yh.1 hi c (Yd hc)
theorem gc_sound {l:List AV} (hi0:HI S ρ h w) (hi:HI S ρ' h' w') (st:Step h w ρ h' w' ρ') (hg:Znt h h' l=true) :
  HI S ρ' (h'.take h.length) w'/\Step h w ρ (h'.take h.length) w' ρ'/\h.length<=h'.length/\∀x∈l,Zls h.length x=true:=by
 simp only [Znt,Ya,decide_eq_true_eq,Yh,List.mem_range,Bool.or_eq_true] at hg
 obtain ⟨⟨hlen,hl⟩,hb⟩:=hg
 have hlen2:(h'.take h.length).length=h.length:=by simp;omega
 refine ⟨⟨fun k b hk=>?_,fun k b k2 b2 hk ho hk2 hne=>hi.inj k b k2 b2 (Zez.1 hk).2 ho (Zez.1 hk2).2 hne,fun g i c hc=>?_,fun g k b hg hk ho=>hi.gno g k b hg (Zez.1 hk).2 ho,hi.gcl⟩,
  ⟨⟨by rw [hlen2];exact Ym _,fun k b' hk hb'=>st.ext.2 k b' hk (Zez.1 hb').2⟩,st.size,st.keep,fun k b hk=>st.from_ k b (Zez.1 hk).2,st.os,st.tape,st.output⟩,hlen,hl⟩
 ·obtain ⟨hk1,hk2⟩:=Zez.1 hk
  obtain ⟨C,e,fz,h1,h2,h3,h4,h5⟩:=hi.blks k b hk2
  refine ⟨C,e,fz,h1,h2,h3,fun i c hc=>?_,h5⟩
  obtain ⟨v,hv,hr⟩:=h4 i c hc
  refine ⟨v,hv,relC.take hlen ?_ hr⟩
  rcases hb k hk1 with heq | hbk
  ·have hk0:blk? h k=some b:=by unfold blk? at hk2 ⊢;rw [←heq];exact hk2
   obtain ⟨C0,e0,fz0,_,_,_,q4,_⟩:=hi0.blks k b hk0
   obtain ⟨v0,_,hr0⟩:=q4 i c hc
   exact Zxd hr0
  ·rw [hk2] at hbk
   exact Yh.1 hbk c (Yd hc)
 ·obtain ⟨v,hv,hr⟩:=hi.glo g i c hc
  refine ⟨v,hv,relC.const ?_ hr _ _⟩
  exact hi.gcl g c (Yd hc)
structure FnOk (S:Seat) (g:Nat) (fn:Fn):Prop where
 ex : ∃ (mf : Func) (c : Code) (dr : Array Oper → RL → Bool), S.P.funcs[S.fn g]? = some mf ∧ mf.body = some c ∧ (mf.name == "runtime.NumGoroutine") = false ∧ mf.ntmps = fn.nt ∧
  mRs S.P fn.res mf.results.toList=true/\mC' S (fn.np+(fn.nt - fn.np)) dr fn.code c=true/\∀ops r,dr ops r=true->DrawOk S (fn.np+(fn.nt - fn.np)) ops r
theorem relR_of {ys:List AV} {us:List Value} (hl:L2 (relA S ρ h) ys us):relR S ρ h ys (if h:us.toArray.size=1 then us.toArray[0] else .tuple us.toArray):=by
 have hlen:=hl.1
 rcases ys with _ | ⟨x,_ | ⟨y,t⟩⟩
 ·have:us=[]:=by cases us<;>simp_all
  subst this
  exact ⟨#[],rfl,L2.nil⟩
 ·rcases us with _ | ⟨u,_ | ⟨u2,us⟩⟩
  ·simp at hlen
  ·exact hl.head
  ·simp at hlen
 ·have h1:us.toArray.size≠1:=by simp only [List.size_toArray];simp at hlen;omega
  rw [dif_neg h1]
  exact ⟨us.toArray,rfl,by simpa using hl⟩
theorem fn_sound {C:Zk} (sc:Zck S C) {m g:Nat} {fn:Fn} (ok:FnOk S g fn) {args:List AV} {r:List AV × Za} (hb:fn.body C (Zbu m) (Glo.std S.tab) args h=some r) {vals:Array Value} (hi:HI S ρ h w) (ha:L2 (relA S ρ h) args vals.toList) :
  Calls S.P (S.fn g) vals w fun e w'=>∃v ρ',e=.returned v/\relR S ρ' r.2 r.1 v/\HI S ρ' r.2 w'/\Step h w ρ r.2 w' ρ':=by
 obtain ⟨mf,c,dr,k1,k2,k3,k4,k5,k6,k7⟩:=ok.ex
 unfold Fn.body at hb
 obtain ⟨hlen,hb⟩:=Zj hb
 have hvl:vals.size=args.length:=by have:=ha.1;simp at this;omega
 have si:SI S w.heap.size (fn.init args h) { tmps:=vals++Yr (mf.ntmps - vals.size) undef,defers:=[] } w ρ (fun _=>0):=by
  have hno:∀i cs,slot? (fn.init args h).s i≠some cs:=by
   intro i cs hs
   unfold slot? Fn.init at hs
   simp only at hs
   rw [Yb] at hs
   cases hx:(List.replicate fn.ns (none:Option (List Cell)))[i]? with
   | none=>rw [hx] at hs;cases hs
   | some q =>
    rw [hx] at hs
    have:=Yq (Yd hx)
    subst this
    cases hs
  refine ⟨⟨hi,fun s cs hs=>absurd hs (hno s cs),fun s cs s' cs' hs=>absurd hs (hno s cs),fun s cs k b hs=>absurd hs (hno s cs),fun s cs g hs=>absurd hs (hno s cs),fun s cs hs=>absurd hs (hno s cs)⟩,⟨?_,fun i tv hi=>?_⟩,Ym _,rfl⟩
  ·simp [Fn.init,k4,hvl,hlen]
  ·simp only [Fn.init] at hi
   by_cases hlt:i<args.length
   ·rw [Yp (by simpa using hlt)] at hi
    simp only [Yj,Yi] at hi
    obtain ⟨x,hx,rfl⟩:=hi
    obtain ⟨u,hu,hr⟩:=ha.get hx
    have:(vals++Yr (mf.ntmps - vals.size) undef).getD i undef=u:=by
     rw [Yc,Array.getElem?_append_left (by omega)]
     have:vals[i]? = some u:=by simpa using hu
     rw [this];rfl
    rw [this];exact hr
   ·rw [List.getElem?_append_right (by simp;omega)] at hi
    have:=Yq (Yd hi)
    subst this
    have h2:(vals++Yr (mf.ntmps - vals.size) undef).getD i undef=undef:=by
     rw [Yc,Array.getElem?_append_right (by omega),Array.getElem?_replicate]
     split<;>rfl
    show relT S ρ _ _ h w (.tup []) _
    rw [h2]
    exact ⟨#[],rfl,L2.nil⟩
 refine calls_of_wp k1 k2 (Zzx sc k7 fn.code c k6 (fn.fin (Glo.std S.tab) h) r (fn.init args h) hb (by simp [Fn.init,hlen]) _ w ρ _ si _ fun ex st' a' w' ρ' σ' hf hl' si' ad'=>?_)
 have hstep:=ad' h w ρ (Ym _) (Step.refl h w ρ)
 have key:Zcn (Glo.std S.tab) fn.res st' (fun l=>Zbe fn.gc h l st'.h)=some r->a'.defers=[]/\∃v,(results mf a'.tmps).run S.P w'=.ok v w'/\∃v' ρ',Ending.returned v=.returned v'/\relR S ρ' r.2 r.1 v'/\HI S ρ' r.2 w'/\Step h w ρ r.2 w' ρ':=by
  intro hr
  obtain ⟨ys,us,hfin,hrun,hrel⟩:=Zua si' _ _ hr k5
  refine ⟨si'.hd,_,Zxt hrun,_,ρ',rfl,?_⟩
  unfold Zbe at hfin
  cases hgc:fn.gc with
  | false =>
   rw [hgc] at hfin
   cases Zc hfin
   exact ⟨relR_of hrel,si'.fi.hi,hstep⟩
  | true =>
   rw [hgc] at hfin
   obtain ⟨hok,hfin⟩:=Zj hfin
   cases Zc hfin
   obtain ⟨g1,g2,g3,g4⟩:=gc_sound hi si'.fi.hi hstep hok
   refine ⟨relR_of ⟨hrel.1,fun i x u hx hu=>relA.take g3 (g4 x (Yd hx)) (hrel.2 i x u hx hu)⟩,g1,g2⟩
 cases ex with
 | normal=>exact key hf
 | ret=>exact key hf
 | exit i=>simp [Fn.fin] at hf
theorem Zpd {E:Env} (htab:E.tab=S.tab) (hok:∀g fn,E.fn g=some fn->FnOk S g fn) (hx:Zck S E.ext):∀n,Zck S (Zdr E n)
 | 0=>fun g args h r hr=>by simp [Zdr] at hr
 | n+1=>fun g args h r hr=>by
  simp only [Zdr] at hr
  split at hr
  ·rename_i fn hfn
   have ok:=hok g fn hfn
   obtain ⟨mf,c,dr,k1,k2,k3,_⟩:=ok.ex
   have hG:E.glob=Glo.std S.tab:=by unfold Env.glob;rw [htab]
   rw [hG] at hr
   exact ⟨⟨mf,c,k1,k2,k3⟩,fun w ρ vals hi ha=>fn_sound (Zpd htab hok hx n) ok hr hi ha⟩
  ·exact hx g args h r hr
theorem R_soundX {E:Env} (htab:E.tab=S.tab) (hok:∀g fn,E.fn g=some fn->FnOk S g fn) (hx:Zck S E.ext):Zck S (R E):=by
 intro g args h r hr
 obtain ⟨n,hn⟩:=Zgq hr
 exact Zpd htab hok hx n g args h r hn
theorem R_sound {E:Env} (htab:E.tab=S.tab) (hok:∀g fn,E.fn g=some fn->FnOk S g fn) (hx:E.ext=fun _ _ _=>none:=by rfl):Zck S (R E) :=
 R_soundX htab hok (by rw [hx];intro g args h r hr;cases hr)
end
end Jq
