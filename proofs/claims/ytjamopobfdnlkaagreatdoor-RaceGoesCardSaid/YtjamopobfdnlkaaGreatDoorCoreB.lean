/- YtjamopobfdnlkaaGreatDoorCoreB: a part of the proof; no conditions of its own. -/
import Derived.Orders
import Derived.LoopN
import Derived.Test.YtjamopobfdnlkaaGreatDoorCoreA
set_option linter.unusedVariables false
set_option linter.unusedSectionVars false
set_option linter.unusedSimpArgs false
set_option maxRecDepth 100000
open Bool renaming and_eq_true→Ya,false_eq_true→Yj
open List renaming getD_eq_getElem?_getD→Yb,mem_of_getElem?→Yd,all_eq_true→Yf,getElem?_eq_some_iff→Yg,getElem?_map→Yh,getElem?_set→Yk,getElem?_append_left→Yl,eq_of_mem_replicate→Ym,getElem?_eq_none→Yo
open Array renaming getD_eq_getD_getElem?→Yc,replicate→Yn
open Option renaming map_eq_some_iff→Ye,some→Ys
open Nat renaming le_refl→Yi,le_trans→Yp,zero_add→Yq,add_zero→Yr
namespace Jq
open Go
def mG (ops:Array Oper):Option (Nat × Bool)->Option (Nat × Bool)->Bool
 | none,none=>true
 | some (g,w),some (j,w')=>w==w'&&(ops[j]?).bind (·.dst)==some g
 | _,_=>false
def mNK (S:Seat):NK->Oper->Bool
 | .op d k xs,o=>o.dst==d&&mK S k xs o
 | .al d _ z,o=>o.dst==some d&&(match o.op with | .alloc t=>Zvm S.P t z | _=>false)
 | .box d _ x,o=>o.dst==some d&&(match o.op with | .box _ y=>mO S x y | _=>false)
 | .pk d g w out c,o=>o.dst==some d&&(match o.op with
  | .pick (.tmp g') x y=>g'==g&&(match (if w then x else y),(if w then y else x) with | .tmp t,.const (.bool b)=>t==out&&b==c | _,_=>false)
  | _=>false)
def mN (S:Seat) (ops:Array Oper) (n:Nd) (o:Oper):Bool:=mG ops n.g o.guard&&mNK S n.k o
structure SI (S:Seat) (B:Nat) (st:St) (a:Act) (w:World) (ρ:Rho) (σ:Nat->Nat):Prop where
 fi:FI S B st.s st.h w ρ σ
 tr:TR S ρ σ st.s st.h w st.t a
 hB:B<=w.heap.size
 hd:a.defers=[]
section
variable {S:Seat} {B:Nat} {sl sl':Zu} {h h':Za} {w w':World} {ρ ρ':Rho} {σ σ':Nat->Nat} {o:Oper} {tv:TV}
theorem Zgn (a:Act) (d:Option Nat) (v:Value):(a.put d v).defers=a.defers/\(a.put d v).tmps.size=a.tmps.size:=by
 cases d<;>simp [Act.put]
theorem TR.put {t:List TV} {a:Act} (hs:a.tmps.size=t.length) (ht:∀(i:Nat) (tv:TV),t[i]? = some tv->relT S ρ σ sl h w tv (a.tmps.getD i undef)) (d:Option Nat) {v:Value} (hv:relT S ρ σ sl h w tv v) :
  TR S ρ σ sl h w (setT t d tv) (a.put d v):=by
 refine ⟨by rw [(Zgn a d v).2,Zhr];exact hs,fun i x hx=>?_⟩
 cases d with
 | none=>exact ht i x hx
 | some d =>
  simp only [setT,Yk] at hx
  have hlt:i<a.tmps.size:=by
   have:=(Yg.1 (show (t.set d tv)[i]? = some x by rw [Yk];exact hx)).1
   simp at this;omega
  show relT S ρ σ sl h w x ((a.tmps.setIfInBounds d v).getD i undef)
  by_cases hd:d=i
  ·subst hd
   rw [if_pos rfl,if_pos (by omega)] at hx
   cases hx
   have:(a.tmps.setIfInBounds d v).getD d undef=v:=by simp [Yc,hlt]
   rw [this];exact hv
  ·rw [if_neg hd] at hx
   have:(a.tmps.setIfInBounds d v).getD i undef=a.tmps.getD i undef:=by
    simp [Yc,Array.getElem?_setIfInBounds,hd]
   rw [this];exact ht i x hx
theorem TR.mono {t:List TV} {a:Act} (tr:TR S ρ σ sl h w t a) (k:Tr sl h w ρ σ sl' h' w' ρ' σ') (hs:∀(i s off:Nat),t[i]? = some (TV.loc s off)->σ' s=σ s):∀(i:Nat) (tv:TV),t[i]? = some tv->relT S ρ' σ' sl' h' w' tv (a.tmps.getD i undef) :=
 fun i x hx=>relT.mono k (fun s off he=>hs i s off (by rw [hx,he])) (tr.2 i x hx)
theorem FI.lay {s:Nat} {cs:List Cell} {C:Array Value} {e:TypeId} (f:FI S B sl h w ρ σ) (hB:B<=w.heap.size) (hl:L2 (relC S ρ h) cs C.toList) :
  FI S B (sl.set s (some cs)) h (w.alloc (.cells C e)) ρ (fun t=>if t=s then w.heap.size else σ t)/\Tr sl h w ρ σ (sl.set s (some cs)) h (w.alloc (.cells C e)) ρ (fun t=>if t=s then w.heap.size else σ t)/\Adv B h w ρ h (w.alloc (.cells C e)) ρ:=by
 have hw:∀x,x<w.heap.size->(w.alloc (.cells C e)).heap[x]? = w.heap[x]?:=fun x hx=>Zbt w _ hx
 have hn:=Zbl w (.cells C e)
 have hsz:w.heap.size<=(w.alloc (.cells C e)).heap.size:=Nat.le_of_lt (Zdx hn)
 have hadv:Adv B h w ρ h (w.alloc (.cells C e)) ρ:=Adv.slot (x:=w.heap.size) (fun y _ hy=>hw y hy) hB hsz rfl rfl rfl
 by_cases hs:s<sl.length
 ·have:=FI.putSlot (S:=S) (s:=s) (x:=w.heap.size) (cs:=cs) (w':=w.alloc (.cells C e)) f hs (.inr ⟨Yi _,hB⟩) (fun y _ hy=>hw y hy) hsz ⟨C,e,hn,hl⟩ rfl
  exact ⟨this.1,this.2,hadv⟩
 ·have hset:sl.set s (some cs)=sl:=List.set_eq_of_length_le (by omega)
  rw [hset]
  obtain ⟨f',t'⟩:=f.step (f.hi.same hw) (Step.same hw hsz rfl rfl rfl)
  have hσ:∀t c,slot? sl t=some c->(if t=s then w.heap.size else σ t)=σ t:=by
   intro t c ht
   rw [if_neg]
   rintro rfl
   exact hs (Znw _ _ ht)
  refine ⟨⟨f'.hi,fun t c ht=>by rw [hσ t c ht];exact f'.sls t c ht,fun t c t2 c2 ht ht2 hne=>by rw [hσ t c ht,hσ t2 c2 ht2];exact f'.sinj t c t2 c2 ht ht2 hne,fun t c k b ht hb=>by rw [hσ t c ht];exact f'.sblk t c k b ht hb,
   fun t c g ht hg=>by rw [hσ t c ht];exact f'.sglo t c g ht hg,fun t c ht=>by rw [hσ t c ht];exact f'.sbase t c ht⟩,⟨t'.ext,t'.size,fun b hb ha=>?_⟩,hadv⟩
  obtain ⟨k1,k2⟩:=t'.lit b hb ha
  exact ⟨k1,k2.1,fun t c ht=>by show (if t=s then w.heap.size else σ t)≠b;rw [hσ t c ht];exact k2.2 t c ht⟩
theorem Zkj {t:List TV} {a:Act} (tr:TR S ρ σ sl h w t a) {g:Nat} {b:Bool} (hx:t.getD g .top=.v (.c (.bool b))):a.tmps[g]? = some (.bool b):=by
 have hi:t[g]? = some (.v (.c (.bool b))):=by
  rw [Yb] at hx
  cases h:t[g]? with
  | none=>rw [h] at hx;cases hx
  | some x=>rw [h] at hx;simp at hx;rw [hx]
 have hlt:g<a.tmps.size:=by rw [tr.1];exact (Yg.1 hi).1
 have h1:a.tmps.getD g undef=.bool b:=tr.2 g _ hi
 rw [Yc] at h1
 simp [hlt] at h1 ⊢
 exact h1
theorem Zq741 {t:List TV} {a:Act} (tr:TR S ρ σ sl h w t a) {g:Nat} {l:List AV} (hx:t.getD g .top=.tup l):∃us,a.tmps[g]? = some (.tuple us):=by
 have hi:t[g]? = some (.tup l):=by
  rw [Yb] at hx
  cases h:t[g]? with
  | none=>rw [h] at hx;cases hx
  | some x=>rw [h] at hx;simp at hx;rw [hx]
 have hlt:g<a.tmps.size:=by rw [tr.1];exact (Yg.1 hi).1
 obtain ⟨us,h1,_⟩:=tr.2 g _ hi
 rw [Yc] at h1
 refine ⟨us,?_⟩
 simp [hlt] at h1 ⊢
 exact h1
theorem Zrf {ops:Array Oper} {t:List TV} {a:Act} (tr:TR S ρ σ sl h w t a) {gd:Option (Nat × Bool)} {b:Bool} (hm:mG ops gd o.guard=true) (hg:Zdf t gd=some b):Region.wanted o (yielded ops a.tmps)=b:=by
 unfold mG at hm
 split at hm
 ·rename_i hgo
  simp only [Zdf,Ys.injEq] at hg
  subst hg
  simp [Region.wanted,hgo]
 ·rename_i g w0 j w' hgo
  simp only [Ya,beq_iff_eq] at hm
  obtain ⟨rfl,hj⟩:=hm
  unfold Zdf at hg
  simp only [Region.wanted,hgo,yielded,hj,Option.bind_some]
  simp only at hg
  split at hg
  ·rename_i x hx
   rw [Zkj tr hx]
   simp at hg ⊢
   rw [←hg]
  ·rename_i l hx
   obtain ⟨us,hu⟩:=Zq741 tr hx
   rw [hu]
   simp at hg ⊢
   rw [←hg]
  ·cases hg
 ·cases hm
theorem Zpu {C:Zab} (sc:Zck S C) {ops:Array Oper} {i:Nat} {n:Nd} {st st':St} {a:Act} (ho:ops[i]? = some o) (hm:mN S ops n o=true) (si:SI S B st a w ρ σ) (hs:stepN C (Glo.std S.tab) n st=some st')
  {next:Act->World->Prop} {Q:Exit->Act->World->Prop} (hn:∀a' w' ρ' σ',SI S B st' a' w' ρ' σ'->Adv B st.h w ρ st'.h w' ρ'->next a' w'):wpOp S.P ops Q i next a w:=by
 obtain ⟨gd,nk⟩:=n
 simp only [mN,Ya] at hm
 obtain ⟨hmg,hmk⟩:=hm
 unfold stepN at hs
 simp only at hs
 split at hs
 ·-- wanted
  rename_i hg
  have hw:=Zrf si.tr hmg hg
  unfold wpOp
  simp only [ho,hw,if_true]
  refine .inl ?_
  unfold nodeK at hs
  split at hs
  ·-- an operation
   rename_i d k xs
   simp only [mNK,Ya,beq_iff_eq] at hmk
   obtain ⟨hdst,hmk⟩:=hmk
   obtain ⟨v,s2,h2,hk,hs⟩:=Zme hs
   cases Zi hs
   refine Zym sc hmk si.fi si.tr hk next Q fun v' w' ρ' hr hf ht ha=>?_
   refine hn _ w' ρ' σ ⟨hf,?_,Yp si.hB ht.size,by rw [(Zgn _ _ _).1];exact si.hd⟩ ha
   rw [hdst]
   exact TR.put si.tr.1 (si.tr.mono ht fun _ _ _ _=>rfl) d hr
  ·-- a slot laid
   rename_i d s z
   simp only [mNK,Ya,beq_iff_eq] at hmk
   obtain ⟨hdst,hmk⟩:=hmk
   cases Zi hs
   split at hmk
   ·rename_i t hop
    obtain ⟨ti,zv,hi,hz,hzz⟩:=Zmi hmk
    obtain ⟨f',t',a'⟩:=FI.lay (s:=s) (e:=t) si.fi si.hB (Zea hzz S ρ st.h)
    have hr:(execOp a.eval o).run S.P w=.ok (.value (.pointer (some ⟨w.heap.size,0,none⟩))) (w.alloc (.cells zv.cells t)):=by simp [execOp,hop,Instr.alloc,Zpq hi hz,Zhj]
    unfold Oper.wp
    rw [hr]
    refine hn _ _ ρ _ ⟨f',?_,Yp si.hB t'.size,by rw [(Zgn _ _ _).1];exact si.hd⟩ a'
    rw [hdst]
    refine TR.put (t:=st.t.map (Zdo s)) (tv:=.loc s 0) (by simpa using si.tr.1) (fun i x hx=>?_) (some d) (by show _=_;simp)
    simp only [Yh,Ye] at hx
    obtain ⟨x0,hx0,rfl⟩:=hx
    by_cases hn:Zam s x0=true
    ·have:Zdo s x0=x0:=by unfold Zdo;rw [if_pos hn]
     rw [this]
     refine relT.mono t' (fun s' off he=>?_) (si.tr.2 i x0 hx0)
     rw [if_neg]
     rintro rfl
     rw [he] at hn;simp [Zam] at hn
    ·have:Zdo s x0=.top:=by unfold Zdo;rw [if_neg hn]
     rw [this];trivial
   ·cases hmk
  ·rename_i d s x
   simp only [mNK,Ya,beq_iff_eq] at hmk
   obtain ⟨hdst,hmk⟩:=hmk
   split at hs
   ·rename_i y hy
    cases Zi hs
    split at hmk
    ·rename_i t y0 hop
     have hrel:=Zyb hmk si.tr
     rw [hy] at hrel
     obtain ⟨f',t',a'⟩:=FI.lay (s:=s) (e:=t) si.fi si.hB (relA.cells (S:=S) (ρ:=ρ) (h:=st.h) hrel)
     have hr:(execOp a.eval o).run S.P w=.ok (.value (.pointer (some ⟨w.heap.size,0,none⟩))) (w.alloc (.cells (a.eval y0).cells t)):=by simp [execOp,hop,Instr.box,Zhj]
     unfold Oper.wp
     rw [hr]
     refine hn _ _ ρ _ ⟨f',?_,Yp si.hB t'.size,by rw [(Zgn _ _ _).1];exact si.hd⟩ a'
     rw [hdst]
     refine TR.put (t:=st.t.map (Zdo s)) (tv:=.loc s 0) (by simpa using si.tr.1) (fun i x hx=>?_) (some d) (by show _=_;simp)
     simp only [Yh,Ye] at hx
     obtain ⟨x0,hx0,rfl⟩:=hx
     by_cases hn:Zam s x0=true
     ·have:Zdo s x0=x0:=by unfold Zdo;rw [if_pos hn]
      rw [this]
      refine relT.mono t' (fun s' off he=>?_) (si.tr.2 i x0 hx0)
      rw [if_neg]
      rintro rfl
      rw [he] at hn;simp [Zam] at hn
     ·have:Zdo s x0=.top:=by unfold Zdo;rw [if_neg hn]
      rw [this];trivial
    ·cases hmk
   ·cases hs
  ·-- the pick behind a short way
   rename_i d g w0 out c
   simp only [mNK,Ya,beq_iff_eq] at hmk
   obtain ⟨hdst,hmk⟩:=hmk
   split at hmk
   case h_2=>cases hmk
   rename_i g' x y hop
   simp only [Ya,beq_iff_eq] at hmk
   obtain ⟨rfl,hmk⟩:=hmk
   split at hmk
   case h_2=>cases hmk
   rename_i t0 b0 he1 he2
   simp only [Ya,beq_iff_eq] at hmk
   obtain ⟨rfl,rfl⟩:=hmk
   split at hs
   case h_2=>cases hs
   rename_i xb hxb
   have hgv:a.eval (.tmp g')=.bool xb:=by
    have:=Zkj si.tr hxb
    show a.tmps.getD g' undef=_
    rw [Yc,this];rfl
   have fin:∀(yb:Bool),(if xb then a.eval x else a.eval y)=.bool yb->st'={ st with t:=st.t.set d (.v (.c (.bool yb))) }->o.wp S.P a w next Q:=by
    intro yb hv hst
    subst hst
    have hr:(execOp a.eval o).run S.P w=.ok (.value (.bool yb)) w:=by
     simp only [execOp,hop,hgv]
     simp [asBool,hv]
    unfold Oper.wp
    rw [hr]
    refine hn _ w ρ σ ⟨si.fi,?_,si.hB,by rw [(Zgn _ _ _).1];exact si.hd⟩ Adv.refl
    rw [hdst]
    exact TR.put (tv:=.v (.c (.bool yb))) si.tr.1 si.tr.2 (some d) rfl
   split at hs
   ·rename_i hxw
    subst hxw
    split at hs
    case h_2=>cases hs
    rename_i yb hyb
    refine fin yb ?_ (Zi hs).symm
    have hov:a.eval (.tmp t0)=.bool yb:=by
     have:=Zkj si.tr hyb
     show a.tmps.getD t0 undef=_
     rw [Yc,this];rfl
    cases xb
    ·simp only [Yj,if_false] at he1 ⊢;rw [he1];exact hov
    ·simp only [if_true] at he1 ⊢;rw [he1];exact hov
   ·rename_i hxw
    refine fin b0 ?_ (Zi hs).symm
    cases xb<;>cases w0<;>simp at hxw he1 he2 ⊢
    ·rw [he2];rfl
    ·rw [he2];rfl
 ·rename_i hg
  have hw:=Zrf si.tr hmg hg
  cases Zi hs
  have hdst:o.dst=nk.dst:=by
   cases nk<;>simp only [mNK,Ya,beq_iff_eq] at hmk<;>exact hmk.1
  unfold wpOp
  simp only [ho,hw,Yj,if_false]
  refine hn _ w ρ σ ⟨si.fi,?_,si.hB,by rw [(Zgn _ _ _).1];exact si.hd⟩ Adv.refl
  rw [hdst]
  exact TR.put (tv:=.tup []) si.tr.1 si.tr.2 nk.dst ⟨#[],rfl,L2.nil⟩
 ·cases hs
end
def mNs (S:Seat) (ops:Array Oper):List Nd->List Oper->Bool
 | [],[]=>true
 | n :: ns,o :: os=>mN S ops n o&&mNs S ops ns os
 | _,_=>false
theorem Znt {S:Seat} {ops:Array Oper}:∀{ns:List Nd} {os:List Oper},mNs S ops ns os=true->ns.length=os.length
 | [],[],_=>rfl
 | n :: ns,o :: os,h=>by simp only [mNs,Ya] at h;simp [Znt h.2]
 | [],_ :: _,h=>by simp [mNs] at h
 | _ :: _,[],h=>by simp [mNs] at h
theorem Zsb {S:Seat} {ops:Array Oper}:∀{ns:List Nd} {os:List Oper} (_:mNs S ops ns os=true) {j:Nat} {n:Nd},ns[j]? = some n->∃o,os[j]? = some o/\mN S ops n o=true
 | [],[],_,j,n,hj=>by simp at hj
 | n :: ns,o :: os,h,j,m,hj=>by
  simp only [mNs,Ya] at h
  cases j with
  | zero=>simp at hj;subst hj;exact ⟨o,rfl,h.1⟩
  | succ j=>simp at hj;obtain ⟨o',h1,h2⟩:=Zsb h.2 hj;exact ⟨o',by simpa using h1,h2⟩
 | [],_ :: _,h,_,_,_=>by simp [mNs] at h
 | _ :: _,[],h,_,_,_=>by simp [mNs] at h
section
variable {S:Seat} {B:Nat} {w:World} {ρ:Rho} {σ:Nat->Nat}
theorem Zrb {C:Zab} (sc:Zck S C) {ops:Array Oper} {Q:Exit->Act->World->Prop}:∀(ns:List Nd) (i:Nat) (st st':St) (a:Act) (w:World) (ρ:Rho) (σ:Nat->Nat),runF C (Glo.std S.tab) ns st=some st' ->
  (∀(j:Nat) (n:Nd),ns[j]? = some n->∃o,ops[i+j]? = some o/\mN S ops n o=true)->SI S B st a w ρ σ ->
  (∀a' w' ρ' σ',SI S B st' a' w' ρ' σ'->Adv B st.h w ρ st'.h w' ρ'->Q .normal a' w')->wpOps S.P ops Q (List.range' i ns.length) a w
 | [],i,st,st',a,w,ρ,σ,hr,_,si,hQ=>by
  cases Zi hr
  exact hQ a w ρ σ si Adv.refl
 | n :: ns,i,st,st',a,w,ρ,σ,hr,hm,si,hQ=>by
  simp only [runF] at hr
  obtain ⟨st1,h1,hr⟩:=bind_some hr
  obtain ⟨o,ho,hmo⟩:=hm 0 n rfl
  rw [List.length_cons,List.range'_succ,wpOps_cons]
  refine Zpu sc (by simpa using ho) hmo si h1 fun a1 w1 ρ1 σ1 si1 ad1=>?_
  exact Zrb sc ns (i+1) st1 st' a1 w1 ρ1 σ1 hr (fun j m hj=>by
   obtain ⟨o',ho',hm'⟩:=hm (j+1) m (by simpa using hj)
   exact ⟨o',by rw [←ho'];congr 1;omega,hm'⟩) si1 fun a' w' ρ' σ' si' ad'=>hQ a' w' ρ' σ' si' (ad1.trans ad')
def Zyg (S:Seat) (n:Nat) (ops:Array Oper) (r:RL):Prop :=
 ∀(C:Zab) (_:Zck S C) (B:Nat) (st st':St) (a:Act) (w:World) (ρ:Rho) (σ:Nat->Nat) (id:Nat) (Q:Exit->Act->World->Prop),runF C (Glo.std S.tab) (r.flat none) st=some st'->Zse true r st.t=true->st.t.length=n->SI S B st a w ρ σ ->
  (∀a' w' ρ' σ',SI S B st' a' w' ρ' σ'->Adv B st.h w ρ st'.h w' ρ'->Q .normal a' w')->(Code.region id ops true).wp S.P Q a w
def mC' (S:Seat) (n:Nat) (dr:Array Oper->RL->Bool):IC->Code->Bool
 | .skip,.skip=>true
 | .reg _ d r,.region _ ops d'=>d==d'&&wfR n r&&mNs S ops (r.flat none) ops.toList&&(!d||dr ops r)
 | .seq a b,.seq x y=>mC' S n dr a x&&mC' S n dr b y
 | .cond c x y,.cond c' x' y'=>mO S c c'&&mC' S n dr x x'&&mC' S n dr y y'
 | .blk id c,.block id' c'=>id==id'&&mC' S n dr c c'
 | .loop _ _ _ c,.loop c'=>mC' S n dr c c'
 | .cut _ _ _ a b,.seq x y=>mC' S n dr a x&&mC' S n dr b y
 | .lift _ a,x=>mC' S n dr a x
 | .exit i,.exit j=>i==j
 | .ret,.ret=>true
 | _,_=>false
def Ex.to:Ex->Exit
 | .normal=>.normal
 | .exit i=>.exit i
 | .ret=>.ret
theorem SI.lift {st:St} {a:Act} {s:Nat} {cs:List Cell} (si:SI S B st a w ρ σ) (hcs:st.s.getD s none=some cs):∃ρ' σ',SI S B (Zki s cs st) a w ρ' σ'/\Adv B st.h w ρ (Zki s cs st).h w ρ':=by
 obtain ⟨f,tr,hB,hd⟩:=si
 obtain ⟨C,e,hC,hl⟩:=f.sls s cs hcs
 let ρ':Rho:=fun k=>if k=st.h.length then ⟨σ s,0,C.size⟩ else ρ k
 have hnew:∀k b,blk? (st.h++[some ⟨true,0,cs⟩]) k=some b->(k<st.h.length/\blk? st.h k=some b)∨(k=st.h.length/\b=⟨true,0,cs⟩):=by
  intro k b hb
  unfold blk? at *
  rcases Nat.lt_trichotomy k st.h.length with hk | hk | hk
  ·rw [Yl hk] at hb;exact .inl ⟨hk,hb⟩
  ·subst hk
   right
   refine ⟨rfl,?_⟩
   simpa [eq_comm] using hb
  ·rw [Yo (by simp;omega)] at hb;cases hb
 have hold:∀k,k<st.h.length->ρ' k=ρ k:=fun k hk=>by show (if k=st.h.length then _ else ρ k)=_;rw [if_neg (by omega)]
 have hn:ρ' st.h.length=⟨σ s,0,C.size⟩:=if_pos rfl
 have ext:Ext st.h ρ (st.h++[some ⟨true,0,cs⟩]) ρ':=by
  refine ⟨by simp,fun k b hk hb=>?_⟩
  rcases hnew k b hb with ⟨_,h1⟩ | ⟨h1,_⟩
  ·exact ⟨b,h1,Yi _,rfl,fun _=>hold k hk⟩
  ·omega
 have hslot:∀t ct,slot? (st.s.set s none) t=some ct->t≠s/\slot? st.s t=some ct:=by
  intro t ct ht
  unfold slot? at *
  rw [Yb,Yk] at ht
  by_cases hts:s=t
  ·subst hts
   rw [if_pos rfl] at ht
   split at ht<;>cases ht
  ·rw [if_neg hts] at ht
   exact ⟨fun h=>hts h.symm,by rw [Yb];exact ht⟩
 have hlt:∀k b,blk? st.h k=some b->k<st.h.length:=fun k b hb=>by
  unfold blk? at hb
  rcases Nat.lt_or_ge k st.h.length with h1 | h1
  ·exact h1
  ·rw [Yo h1] at hb;cases hb
 have hcl:cs.length=C.size:=by rw [hl.1];simp
 refine ⟨ρ',σ,⟨⟨⟨?_,?_,?_,?_,f.hi.gcl⟩,?_,?_,?_,?_,?_⟩,⟨by simp [Zki,tr.1],?_⟩,hB,hd⟩,?_⟩
 ·intro k b hb
  rcases hnew k b hb with ⟨hk,h1⟩ | ⟨rfl,rfl⟩
  ·rw [hold k hk];exact (f.hi.blks k b h1).mono ext rfl
  ·rw [hn]
   refine ⟨C,e,(0,0),hC,rfl,by simp only [Yq];omega,fun i c hc=>?_,fun _=>rfl⟩
   obtain ⟨v,hv,hr⟩:=hl.get hc
   exact ⟨v,by rw [Yq];simpa using hv,relC.mono ext hr⟩
 ·intro k b k' b' hb ho hb' hne
  rcases hnew k b hb with ⟨hk,h1⟩ | ⟨rfl,rfl⟩
  ·rw [hold k hk]
   rcases hnew k' b' hb' with ⟨hk',h1'⟩ | ⟨rfl,rfl⟩
   ·rw [hold k' hk'];exact f.hi.inj k b k' b' h1 ho h1' hne
   ·rw [hn];exact fun h=>f.sblk s cs k b hcs h1 h.symm
  ·rw [hn]
   rcases hnew k' b' hb' with ⟨hk',h1'⟩ | ⟨h,_⟩
   ·rw [hold k' hk'];exact f.sblk s cs k' b' hcs h1'
   ·exact absurd h.symm hne
 ·intro g i c hc
  obtain ⟨v,hv,hr⟩:=f.hi.glo g i c hc
  exact ⟨v,hv,relC.mono ext hr⟩
 ·intro g k b hg hb ho
  rcases hnew k b hb with ⟨hk,h1⟩ | ⟨rfl,rfl⟩
  ·rw [hold k hk];exact f.hi.gno g k b hg h1 ho
  ·rw [hn];exact f.sglo s cs g hcs hg
 ·intro t ct ht
  obtain ⟨_,h1⟩:=hslot t ct ht
  exact (f.sls t ct h1).mono ext rfl
 ·intro t ct t' ct' ht ht' hne
  exact f.sinj t ct t' ct' (hslot t ct ht).2 (hslot t' ct' ht').2 hne
 ·intro t ct k b ht hb
  obtain ⟨hts,h1⟩:=hslot t ct ht
  rcases hnew k b hb with ⟨hk,h2⟩ | ⟨rfl,rfl⟩
  ·rw [hold k hk];exact f.sblk t ct k b h1 h2
  ·rw [hn];exact f.sinj t ct s cs h1 hcs hts
 ·intro t ct g ht;exact f.sglo t ct g (hslot t ct ht).2
 ·intro t ct ht;exact f.sbase t ct (hslot t ct ht).2
 ·intro i tv hi
  simp only [Zki,Yh,Ye] at hi
  obtain ⟨tv0,hi0,rfl⟩:=hi
  have r:=tr.2 i tv0 hi0
  cases tv0 with
  | v x=>exact relA.mono ext r
  | tup l=>obtain ⟨us,hv,hll⟩:=r;exact ⟨us,hv,hll.mono fun _ _=>relA.mono ext⟩
  | loc t off =>
   simp only [liftT]
   split
   ·rename_i hts
    subst hts
    refine ⟨by simp [Zki],⟨_,r⟩,fun b hb=>?_⟩
    rcases hnew _ b hb with ⟨hk,_⟩ | ⟨_,rfl⟩
    ·omega
    ·exact ⟨Yi _,fun _=>by rw [hn,Yq];exact r⟩
   ·exact r
  | lit el ls =>
   obtain ⟨b,n,C',el',fz,h1,h2,h3,h4,h5⟩:=r
   refine ⟨b,n,C',el',fz,h1,h2,h3,h4.mono fun _ _=>relC.mono ext,fun k bl hb ho=>?_,fun t ct ht=>h5.2 t ct (hslot t ct ht).2⟩
   rcases hnew k bl hb with ⟨hk,h6⟩ | ⟨rfl,rfl⟩
   ·rw [hold k hk];exact h5.1 k bl h6 ho
   ·rw [hn];exact h5.2 s cs hcs
  | top=>trivial
 ·intro h0 w0 ρ0 hb0 t
  have hbs:=f.sbase s cs hcs
  refine ⟨t.ext.trans ext,t.size,t.keep,fun k b hb=>?_,t.os,t.tape,t.output⟩
  rcases hnew k b hb with ⟨hk,h1⟩ | ⟨rfl,rfl⟩
  ·rw [hold k hk];exact t.from_ k b h1
  ·right;rw [hn];show w0.heap.size<=σ s;omega
structure SLe (st st':St):Prop where
 t:TLe st.t st'.t
 s:st.s.length=st'.s.length/\∀i,st.s.getD i none≠none->st'.s.getD i none=st.s.getD i none
 h:st'.h=st.h
theorem FI.weaken {sl sl':Zu} {h:Za} (f:FI S B sl' h w ρ σ) (hs:∀i,sl.getD i none≠none->sl'.getD i none=sl.getD i none):FI S B sl h w ρ σ:=by
 have hk:∀i cs,slot? sl i=some cs->slot? sl' i=some cs:=fun i cs hi=>by
  unfold slot? at hi ⊢
  rw [hs i (by rw [hi];intro h;cases h),hi]
 exact ⟨f.hi,fun s cs h=>f.sls s cs (hk s cs h),fun s cs s' cs' h h'=>f.sinj s cs s' cs' (hk s cs h) (hk s' cs' h'),fun s cs k b h=>f.sblk s cs k b (hk s cs h),fun s cs g h=>f.sglo s cs g (hk s cs h),fun s cs h=>f.sbase s cs (hk s cs h)⟩
theorem SI.weaken {st st':St} {a:Act} (si:SI S B st' a w ρ σ) (hle:SLe st st'):SI S B st a w ρ σ:=by
 have hk:∀i cs,slot? st.s i=some cs->slot? st'.s i=some cs:=fun i cs hi=>by
  unfold slot? at hi ⊢
  rw [hle.s.2 i (by rw [hi];intro h;cases h),hi]
 refine ⟨by rw [←hle.h];exact si.fi.weaken hle.s.2,⟨by rw [hle.t.1];exact si.tr.1,fun i tv hi=>?_⟩,si.hB,si.hd⟩
 by_cases htop:tv=.top
 ·subst htop;trivial
 ·have hg:st.t.getD i .top=tv:=by rw [Yb,hi];rfl
  have h2:=hle.t.2 i (by rw [hg];exact htop)
  rw [hg] at h2
  have h3:st'.t[i]? = some tv:=by
   rw [Yb] at h2
   cases h:st'.t[i]? with
   | none=>rw [h] at h2;simp at h2;exact absurd h2.symm htop
   | some x=>rw [h] at h2;simp at h2;rw [h2]
  have hr:=si.tr.2 i tv h3
  rw [hle.h] at hr
  cases tv with
  | v x=>exact hr
  | tup l=>exact hr
  | loc s off=>exact hr
  | lit e cs =>
   obtain ⟨b,n,C,el,fz,h1,h2,h3,h4,h5,h6⟩:=hr
   exact ⟨b,n,C,el,fz,h1,h2,h3,h4,h5,fun s cs hs=>h6 s cs (hk s cs hs)⟩
  | top=>trivial
theorem Zde {β:Type} {dead:β}:∀(i:Nat) (l:List Nat) (xs:List β) (j:Nat),(Zjj dead i l xs).length=xs.length/\((Zjj dead i l xs).getD j dead=dead∨(Zjj dead i l xs).getD j dead=xs.getD j dead)
 | i,l,[],j=>by cases l<;>exact ⟨rfl,.inl rfl⟩
 | i,[],x :: xs,j=>by
  simp only [Zjj]
  have:=Zde (dead:=dead) (i+1) [] xs
  cases j with
  | zero=>exact ⟨by simp [(this 0).1],.inl rfl⟩
  | succ j=>exact ⟨by simp [(this j).1],by simpa using (this j).2⟩
 | i,k :: l,x :: xs,j=>by
  simp only [Zjj]
  split
  ·have:=Zde (dead:=dead) (i+1) l xs
   cases j with
   | zero=>exact ⟨by simp [(this 0).1],.inr rfl⟩
   | succ j=>exact ⟨by simp [(this j).1],by simpa using (this j).2⟩
  ·have:=Zde (dead:=dead) (i+1) (k :: l) xs
   cases j with
   | zero=>exact ⟨by simp [(this 0).1],.inl rfl⟩
   | succ j=>exact ⟨by simp [(this j).1],by simpa using (this j).2⟩
theorem SLe.keep (st:St) (live ls:List Nat):SLe (st.keep live ls) st:=by
 refine ⟨⟨(Zde 0 live st.t 0).1,fun i hi=>?_⟩,⟨(Zde 0 ls st.s 0).1,fun i hi=>?_⟩,rfl⟩
 ·rcases (Zde (dead:=TV.top) 0 live st.t i).2 with h | h
  ·exact absurd h hi
  ·exact h.symm
 ·rcases (Zde (dead:=(none:Option (List Cell))) 0 ls st.s i).2 with h | h
  ·exact absurd h hi
  ·exact h.symm
theorem Zts (st:St) (live ls:List Nat):(st.keep live ls).t.length=st.t.length:=(Zde 0 live st.t 0).1
theorem Zrp {live ls:List Nat} {X:List (Nat × List Nat × List Nat)} {ex:Ex} {st:St} {p:Ex × St} (h:Zah live ls X ex st=some p):p.1=ex/\SLe p.2 st:=by
 cases ex<;>simp only [Zah,Ys.injEq] at h<;>subst h<;>exact ⟨rfl,SLe.keep _ _ _⟩
theorem SLe.len {st st':St} (h:SLe st st'):st.t.length=st'.t.length:=h.t.1
theorem Zyd {C:Zab} (sc:Zck S C) {n m:Nat} {dr:Array Oper->RL->Bool} (hdr:∀ops r,dr ops r=true->Zyg S n ops r) :
  ∀(c:IC) (mc:Code),mC' S n dr c mc=true->∀{α:Type} (f:Ex->St->Option α) (y:α) (st:St),c.exec C (Zby m) (Glo.std S.tab) st f=some y->st.t.length=n ->
   ∀(a:Act) (w:World) (ρ:Rho) (σ:Nat->Nat),SI S B st a w ρ σ->∀(Q:Exit->Act->World->Prop),
    (∀ex st' a' w' ρ' σ',f ex st'=some y->st'.t.length=n->SI S B st' a' w' ρ' σ'->Adv B st.h w ρ st'.h w' ρ'->Q ex.to a' w')->mc.wp S.P Q a w:=by
 intro c
 induction c with
 | skip =>
  intro mc hm α f y st hx hl a w ρ σ si Q hQ
  cases mc<;>simp only [mC'] at hm<;>first | (cases hm;done) | skip
  exact wp_skip (hQ .normal st a w ρ σ hx hl si Adv.refl)
 | reg id d r =>
  intro mc hm α f y st hx hl a w ρ σ si Q hQ
  cases mc<;>simp only [mC'] at hm<;>first | (cases hm;done) | skip
  rename_i id' ops d'
  simp only [Ya,beq_iff_eq] at hm
  obtain ⟨⟨⟨rfl,hwf⟩,hmn⟩,hd⟩:=hm
  simp only [IC.exec] at hx
  obtain ⟨hdo,hx⟩:=Zx hx
  obtain ⟨s1,s1',h1,h2,h3,h4,h5,h6,_⟩:=Zgt r none st st (fun st=>f .normal st) y hx hwf (TLe.refl _) rfl rfl hl rfl (fun g w h=>by cases h)
  have fin:∀a' w' ρ' σ',SI S B s1' a' w' ρ' σ'->Adv B st.h w ρ s1'.h w' ρ'->Q .normal a' w':=fun a' w' ρ' σ' si' ad' =>
   hQ .normal s1 a' w' ρ' σ' h2 h6 (si'.weaken ⟨h3,⟨by rw [h4],fun i _=>by rw [h4]⟩,h5⟩) (by rw [←h5];exact ad')
  cases d with
  | false =>
   refine wp_region ?_
   have:=Zrb sc (r.flat none) 0 st s1' a w ρ σ h1 (fun j nd hj=>by
    obtain ⟨o,ho,hmo⟩:=Zsb hmn hj
    exact ⟨o,by simpa using ho,hmo⟩) si fin
   rw [Znt hmn,Array.length_toList,←List.range_eq_range'] at this
   exact this
  | true =>
   simp only [Bool.not_true,Bool.false_or] at hd
   exact hdr ops r hd C sc B st s1' a w ρ σ id' Q h1 hdo hl si fin
 | seq c1 c2 ih1 ih2 =>
  intro mc hm α f y st hx hl a w ρ σ si Q hQ
  cases mc<;>simp only [mC'] at hm<;>first | (cases hm;done) | skip
  simp only [Ya] at hm
  simp only [IC.exec] at hx
  refine wp_seq (ih1 _ hm.1 _ y st hx hl a w ρ σ si _ fun ex st' a' w' ρ' σ' hf hl' si' ad'=>?_)
  cases ex with
  | normal=>exact ih2 _ hm.2 f y st' hf hl' a' w' ρ' σ' si' Q fun ex2 st2 a2 w2 ρ2 σ2 hf2 hl2 si2 ad2=>hQ ex2 st2 a2 w2 ρ2 σ2 hf2 hl2 si2 (ad'.trans ad2)
  | exit i=>exact hQ _ st' a' w' ρ' σ' hf hl' si' ad'
  | ret=>exact hQ _ st' a' w' ρ' σ' hf hl' si' ad'
 | cond cc c1 c2 ih1 ih2 =>
  intro mc hm α f y st hx hl a w ρ σ si Q hQ
  cases mc<;>simp only [mC'] at hm<;>first | (cases hm;done) | skip
  simp only [Ya] at hm
  simp only [IC.exec] at hx
  split at hx
  ·rename_i b hb
   have he:=Zyb hm.1.1 si.tr
   rw [hb] at he
   refine wp_cond (t:=b) he ?_
   cases b
   ·simp only [Yj,if_false] at hx ⊢
    exact ih2 _ hm.2 f y st hx hl a w ρ σ si Q hQ
   ·simp only [if_true] at hx ⊢
    exact ih1 _ hm.1.2 f y st hx hl a w ρ σ si Q hQ
  ·cases hx
 | blk id c1 ih1 =>
  intro mc hm α f y st hx hl a w ρ σ si Q hQ
  cases mc<;>simp only [mC'] at hm<;>first | (cases hm;done) | skip
  simp only [Ya,beq_iff_eq] at hm
  obtain ⟨rfl,hm⟩:=hm
  simp only [IC.exec] at hx
  refine wp_block (ih1 _ hm _ y st hx hl a w ρ σ si _ fun ex st' a' w' ρ' σ' hf hl' si' ad'=>?_)
  cases ex with
  | normal=>exact hQ .normal st' a' w' ρ' σ' hf hl' si' ad'
  | exit i =>
   simp only [Zag] at hf
   simp only [Ex.to,Exit.inBlock]
   split at hf
   ·rename_i hi;rw [if_pos hi];exact hQ .normal st' a' w' ρ' σ' hf hl' si' ad'
   ·rename_i hi;rw [if_neg hi];exact hQ (.exit i) st' a' w' ρ' σ' hf hl' si' ad'
  | ret=>exact hQ .ret st' a' w' ρ' σ' hf hl' si' ad'
 | loop live ls X c1 ih1 =>
  intro mc hm α f y st hx hl a w ρ σ si Q hQ
  cases mc<;>simp only [mC'] at hm<;>first | (cases hm;done) | skip
  rename_i mc1
  simp only [IC.exec] at hx
  obtain ⟨⟨ex,stx⟩,hp,hx⟩:=bind_some hx
  have rounds:∀(k:Nat) (s0:St) (a0:Act) (w0:World) (ρ0:Rho) (σ0:Nat->Nat),Zby k (Zt (fun st f=>c1.exec C (Zby m) (Glo.std S.tab) st f) live ls X) s0=some (ex,stx)->s0.t.length=n->SI S B s0 a0 w0 ρ0 σ0->Adv B st.h w ρ s0.h w0 ρ0 ->
    Code.rounds S.P mc1 Q k a0 w0:=by
   intro k
   induction k with
   | zero=>intro s0 a0 w0 ρ0 σ0 h;simp [Zby] at h
   | succ k ihk =>
    intro s0 a0 w0 ρ0 σ0 h hl0 si0 ad0
    simp only [Zby] at h
    obtain ⟨⟨e1,s1⟩,hr,h⟩:=bind_some h
    rw [rounds_succ]
    refine ih1 _ hm _ (e1,s1) s0 hr hl0 a0 w0 ρ0 σ0 si0 _ fun ex2 st' a' w' ρ' σ' hf hl' si' ad'=>?_
    obtain ⟨he,hle⟩:=Zrp hf
    simp only at he hle
    subst he
    have si1:=si'.weaken hle
    have had:Adv B st.h w ρ s1.h w' ρ':=by rw [←hle.h];exact ad0.trans ad'
    have hl1:s1.t.length=n:=by rw [hle.len];exact hl'
    cases e1 with
    | normal=>exact ihk s1 a' w' ρ' σ' h hl1 si1 had
    | exit i =>
     cases Zi h
     exact hQ (.exit i) s1 a' w' ρ' σ' hx hl1 si1 had
    | ret =>
     cases Zi h
     exact hQ .ret s1 a' w' ρ' σ' hx hl1 si1 had
  exact wp_loop_rounds m (rounds m (st.keep live ls) a w ρ σ hp (by rw [Zts];exact hl) (si.weaken (SLe.keep _ _ _)) Adv.refl)
 | cut live ls X c1 c2 ih1 ih2 =>
  intro mc hm α f y st hx hl a w ρ σ si Q hQ
  cases mc<;>simp only [mC'] at hm<;>first | (cases hm;done) | skip
  simp only [Ya] at hm
  simp only [IC.exec] at hx
  obtain ⟨⟨e1,s1⟩,hp,hx⟩:=bind_some hx
  refine wp_seq (ih1 _ hm.1 _ (e1,s1) st hp hl a w ρ σ si _ fun ex st' a' w' ρ' σ' hf hl' si' ad'=>?_)
  obtain ⟨he,hle⟩:=Zrp hf
  simp only at he hle
  subst he
  have si1:=si'.weaken hle
  have had:Adv B st.h w ρ s1.h w' ρ':=by rw [←hle.h];exact ad'
  have hl1:s1.t.length=n:=by rw [hle.len];exact hl'
  cases e1 with
  | normal=>exact ih2 _ hm.2 f y s1 hx hl1 a' w' ρ' σ' si1 Q fun ex2 st2 a2 w2 ρ2 σ2 hf2 hl2 si2 ad2=>hQ ex2 st2 a2 w2 ρ2 σ2 hf2 hl2 si2 (had.trans ad2)
  | exit i=>exact hQ _ s1 a' w' ρ' σ' hx hl1 si1 had
  | ret=>exact hQ _ s1 a' w' ρ' σ' hx hl1 si1 had
 | lift s c ih =>
  intro mc hm α f y st hx hl a w ρ σ si Q hQ
  simp only [mC'] at hm
  simp only [IC.exec] at hx
  split at hx
  ·rename_i cs hcs
   obtain ⟨ρ',σ',si',ad'⟩:=si.lift hcs
   exact ih _ hm f y _ hx (by simp [Zki,hl]) a w ρ' σ' si' Q fun ex st' a' w' ρ'' σ'' hf hl' si'' ad''=>hQ ex st' a' w' ρ'' σ'' hf hl' si'' (ad'.trans ad'')
  ·cases hx
 | exit i =>
  intro mc hm α f y st hx hl a w ρ σ si Q hQ
  cases mc<;>simp only [mC'] at hm<;>first | (cases hm;done) | skip
  simp only [beq_iff_eq] at hm
  subst hm
  exact wp_exit (hQ (.exit i) st a w ρ σ hx hl si Adv.refl)
 | ret =>
  intro mc hm α f y st hx hl a w ρ σ si Q hQ
  cases mc<;>simp only [mC'] at hm<;>first | (cases hm;done) | skip
  exact wp_ret (hQ .ret st a w ρ σ hx hl si Adv.refl)
end
def mR (P:Program):Res->ResultVar->Bool
 | .t i _,.tmp j=>i==j
 | .one _ i _,.cell a t=>i==a&&Ztt P t
 | .all _ i n,.cell a t=>i==a&&rowT P t n
 | _,_=>false
def mRs (P:Program):List Res->List ResultVar->Bool
 | [],[]=>true
 | r :: rs,v :: vs=>mR P r v&&mRs P rs vs
 | _,_=>false
section
variable {S:Seat} {B:Nat} {w w':World} {ρ ρ':Rho} {σ:Nat->Nat} {h h':Za}
theorem Zpy {t:List TV} {a:Act} {sl:Zu} (tr:TR S ρ σ sl h w t a) (i:Nat):relT S ρ σ sl h w (t.getD i .top) (a.tmps.getD i undef):=by
 cases hi:t[i]? with
 | none=>rw [Yb,hi];trivial
 | some tv=>rw [Yb,hi];exact tr.2 i tv hi
def Zpm (tmps:Array Value):ResultVar->Sem Value
 | .tmp t=>pure (tmps.getD t undef)
 | .cell a t=>do loadVar t (←asAddr (tmps.getD a undef))
theorem Zrc {α:Type} {st:St} {a:Act} (si:SI S B st a w ρ σ):∀{rs:List Res} {vs:List ResultVar} (f:List AV->Option α) (y:α),Zqo (Glo.std S.tab) rs st f=some y->mRs S.P rs vs=true ->
  ∃ys us,f ys=some y/\(vs.mapM (Zpm a.tmps)).run S.P w=.ok us w/\L2 (relA S ρ st.h) ys us
 | [],[],f,y,hr,_=>⟨[],[],hr,by simp,L2.nil⟩
 | r :: rs,v :: vs,f,y,hr,hm=>by
  simp only [mRs,Ya] at hm
  obtain ⟨hm1,hm2⟩:=hm
  have one:∃x u,Zqo (Glo.std S.tab) rs st (fun ys=>f (x :: ys))=some y/\(Zpm a.tmps v).run S.P w=.ok u w/\relA S ρ st.h x u:=by
   cases r with
   | t i r0 =>
    simp only [Zqo] at hr
    split at hr
    ·rename_i x hx
     cases v with
     | tmp j =>
      simp only [mR,beq_iff_eq] at hm1
      subst hm1
      have:=Zpy si.tr i
      rw [hx] at this
      exact ⟨x,_,Zdl hr,by simp [Zpm],this⟩
     | cell a t=>simp [mR] at hm1
    ·cases hr
   | one m i r0 =>
    simp only [Zqo] at hr
    obtain ⟨cs,off,bk,base,hg,hv,hc,_⟩:=Zgs si.fi (Zpy si.tr i) hr
    split at hg
    ·rename_i c hcc
     cases v with
     | tmp j=>simp [mR] at hm1
     | cell a0 t =>
      simp only [mR,Ya,beq_iff_eq] at hm1
      obtain ⟨rfl,hct⟩:=hm1
      obtain ⟨d,hd,hna⟩:=Zmf hct
      obtain ⟨u,hu,hrel⟩:=hc off c hcc
      exact ⟨.c c,u,Zdl hg,by simp [Zpm,hv,asAddr,loadVar,Zem hd,hna,hu],hrel⟩
    ·cases hg
   | all m i n =>
    simp only [Zqo] at hr
    obtain ⟨cs,off,bk,base,hg,hv,hc,_⟩:=Zgs si.fi (Zpy si.tr i) hr
    obtain ⟨⟨h0,hle⟩,hg2⟩:=Zx hg
    subst h0
    rw [Yr] at hv
    cases v with
    | tmp j=>simp [mR] at hm1
    | cell a0 t =>
     simp only [mR,Ya,beq_iff_eq] at hm1
     obtain ⟨rfl,hct⟩:=hm1
     obtain ⟨d,ti,hd,hna,hti,hn⟩:=Zpr hct
     obtain ⟨us,hu,hL⟩:=Zkk (cs:=cs) (off:=0) (n:=n) hc (by omega) S.P
     rw [List.drop_zero,List.take_of_length_le (by omega)] at hL
     rw [Yr] at hu
     subst hn
     exact ⟨.agg cs,.agg us,hg2,by simp [Zpm,hv,asAddr,loadVar,Zem hd,hna,Zav hti,hu],us,rfl,hL⟩
  obtain ⟨x,u,hx,hu,hrel⟩:=one
  obtain ⟨ys,us,h1,h2,h3⟩:=Zrc si (fun ys=>f (x :: ys)) y hx hm2
  exact ⟨x :: ys,u :: us,h1,by simp [List.mapM_cons,hu,h2],L2.cons hrel h3⟩
 | [],_ :: _,_,_,_,hm=>by simp [mRs] at hm
 | _ :: _,[],_,_,_,hm=>by simp [mRs] at hm
theorem Zuh {fn:Func} {tmps:Array Value} {us:List Value} {P:Program} (h:(fn.results.toList.mapM (Zpm tmps)).run P w=.ok us w) :
  (results fn tmps).run P w=.ok (if h:us.toArray.size=1 then us.toArray[0] else .tuple us.toArray) w:=by
 have hr:results fn tmps=(do let vs ←fn.results.mapM (Zpm tmps);pure (if h:vs.size=1 then vs[0] else .tuple vs)):=by
  rfl
 rw [hr,Array.mapM_eq_mapM_toList]
 simp [h]
theorem Ztl {c:Cell} {v:Value} (r:relC S ρ h c v):Zgq h.length c=true:=by
 cases c with
 | ptr k N off=>simp [Zgq];exact r.1
 | sl k N off len=>simp [Zgq];exact r.1
 | fn f caps =>
  obtain ⟨vs,_,hl⟩:=r
  simp only [Zgq,Yf]
  intro p hp
  obtain ⟨i,hi⟩:=List.getElem?_of_mem hp
  obtain ⟨u,_,hu⟩:=hl.get hi
  simp;exact hu.1
 | _=>rfl
theorem Zer {n k:Nat} {b:Blk}:blk? (h'.take n) k=some b↔k<n/\blk? h' k=some b:=by
 unfold blk?
 rw [List.getElem?_take]
 by_cases hk:k<n
 ·simp [hk]
 ·simp [hk]
theorem RefP.take {n k N off:Nat} {v:Value} (hn:n<=h'.length) (hk:k<n) (r:RefP ρ h' k N off v):RefP ρ (h'.take n) k N off v:=by
 obtain ⟨_,ha,hr⟩:=r
 exact ⟨by simp;omega,ha,fun b hb=>hr b (Zer.1 hb).2⟩
theorem relC.take {n:Nat} {c:Cell} {v:Value} (hn:n<=h'.length) (hi:Zgq n c=true) (r:relC S ρ h' c v):relC S ρ (h'.take n) c v:=by
 cases c with
 | ptr k N off=>exact RefP.take hn (by simpa [Zgq] using hi) r
 | sl k N off len =>
  obtain ⟨_,a,c,ha,hlc,hr⟩:=r
  have hk:k<n:=by simpa [Zgq] using hi
  exact ⟨by simp;omega,a,c,ha,hlc,fun b hb=>hr b (Zer.1 hb).2⟩
 | fn f caps =>
  obtain ⟨vs,hv,hl⟩:=r
  refine ⟨vs,hv,hl.1,fun i p u hp hu=>?_⟩
  have:=Yf.1 hi p (Yd hp)
  exact RefP.take hn (by simpa using this) (hl.2 i p u hp hu)
 | _=>exact r
theorem relA.take {n:Nat} {x:AV} {v:Value} (hn:n<=h'.length) (hi:Zlc n x=true) (r:relA S ρ h' x v):relA S ρ (h'.take n) x v:=by
 cases x with
 | c c=>exact relC.take hn (by simpa [Zlc,AV.cells] using hi) r
 | agg cs =>
  obtain ⟨us,hv,hl⟩:=r
  refine ⟨us,hv,hl.1,fun i c u hc hu=>relC.take hn ?_ (hl.2 i c u hc hu)⟩
  exact Yf.1 hi c (Yd hc)
theorem gc_sound {l:List AV} (hi0:HI S ρ h w) (hi:HI S ρ' h' w') (st:Step h w ρ h' w' ρ') (hg:gcOk h h' l=true) :
  HI S ρ' (h'.take h.length) w'/\Step h w ρ (h'.take h.length) w' ρ'/\h.length<=h'.length/\∀x∈l,Zlc h.length x=true:=by
 simp only [gcOk,Ya,decide_eq_true_eq,Yf,List.mem_range,Bool.or_eq_true] at hg
 obtain ⟨⟨hlen,hl⟩,hb⟩:=hg
 have hlen2:(h'.take h.length).length=h.length:=by simp;omega
 refine ⟨⟨fun k b hk=>?_,fun k b k2 b2 hk ho hk2 hne=>hi.inj k b k2 b2 (Zer.1 hk).2 ho (Zer.1 hk2).2 hne,fun g i c hc=>?_,fun g k b hg hk ho=>hi.gno g k b hg (Zer.1 hk).2 ho,hi.gcl⟩,
  ⟨⟨by rw [hlen2];exact Yi _,fun k b' hk hb'=>st.ext.2 k b' hk (Zer.1 hb').2⟩,st.size,st.keep,fun k b hk=>st.from_ k b (Zer.1 hk).2,st.os,st.tape,st.output⟩,hlen,hl⟩
 ·obtain ⟨hk1,hk2⟩:=Zer.1 hk
  obtain ⟨C,e,fz,h1,h2,h3,h4,h5⟩:=hi.blks k b hk2
  refine ⟨C,e,fz,h1,h2,h3,fun i c hc=>?_,h5⟩
  obtain ⟨v,hv,hr⟩:=h4 i c hc
  refine ⟨v,hv,relC.take hlen ?_ hr⟩
  rcases hb k hk1 with heq | hbk
  ·have hk0:blk? h k=some b:=by unfold blk? at hk2 ⊢;rw [←heq];exact hk2
   obtain ⟨C0,e0,fz0,_,_,_,q4,_⟩:=hi0.blks k b hk0
   obtain ⟨v0,_,hr0⟩:=q4 i c hc
   exact Ztl hr0
  ·rw [hk2] at hbk
   exact Yf.1 hbk c (Yd hc)
 ·obtain ⟨v,hv,hr⟩:=hi.glo g i c hc
  refine ⟨v,hv,relC.const ?_ hr _ _⟩
  exact hi.gcl g c (Yd hc)
structure FnOk (S:Seat) (g:Nat) (fn:Fn):Prop where
 ex : ∃ (mf : Func) (c : Code) (dr : Array Oper → RL → Bool), S.P.funcs[S.fn g]? = some mf ∧ mf.body = some c ∧ (mf.name == "runtime.NumGoroutine") = false ∧ mf.ntmps = fn.nt ∧
  mRs S.P fn.res mf.results.toList=true/\mC' S (fn.np+(fn.nt - fn.np)) dr fn.code c=true/\∀ops r,dr ops r=true->Zyg S (fn.np+(fn.nt - fn.np)) ops r
theorem Zzf {ys:List AV} {us:List Value} (hl:L2 (relA S ρ h) ys us):relR S ρ h ys (if h:us.toArray.size=1 then us.toArray[0] else .tuple us.toArray):=by
 have hlen:=hl.1
 rcases ys with _ | ⟨x,_ | ⟨y,t⟩⟩
 ·have:us=[]:=by cases us<;>simp_all
  subst this
  exact ⟨#[],rfl,L2.nil⟩
 ·rcases us with _ | ⟨u,_ | ⟨u2,us⟩⟩
  ·simp at hlen
  ·exact hl.head
  ·simp at hlen
 ·have h1:us.toArray.size≠1:=by simp only [List.size_toArray];simp at hlen;omega
  rw [dif_neg h1]
  exact ⟨us.toArray,rfl,by simpa using hl⟩
theorem fn_sound {C:Zab} (sc:Zck S C) {m g:Nat} {fn:Fn} (ok:FnOk S g fn) {args:List AV} {r:List AV × Za} (hb:fn.body C (Zby m) (Glo.std S.tab) args h=some r) {vals:Array Value} (hi:HI S ρ h w) (ha:L2 (relA S ρ h) args vals.toList) :
  Calls S.P (S.fn g) vals w fun e w'=>∃v ρ',e=.returned v/\relR S ρ' r.2 r.1 v/\HI S ρ' r.2 w'/\Step h w ρ r.2 w' ρ':=by
 obtain ⟨mf,c,dr,k1,k2,k3,k4,k5,k6,k7⟩:=ok.ex
 unfold Fn.body at hb
 obtain ⟨hlen,hb⟩:=Zx hb
 have hvl:vals.size=args.length:=by have:=ha.1;simp at this;omega
 have si:SI S w.heap.size (fn.init args h) { tmps:=vals++Yn (mf.ntmps - vals.size) undef,defers:=[] } w ρ (fun _=>0):=by
  have hno:∀i cs,slot? (fn.init args h).s i≠some cs:=by
   intro i cs hs
   unfold slot? Fn.init at hs
   simp only at hs
   rw [Yb] at hs
   cases hx:(List.replicate fn.ns (none:Option (List Cell)))[i]? with
   | none=>rw [hx] at hs;cases hs
   | some q =>
    rw [hx] at hs
    have:=Ym (Yd hx)
    subst this
    cases hs
  refine ⟨⟨hi,fun s cs hs=>absurd hs (hno s cs),fun s cs s' cs' hs=>absurd hs (hno s cs),fun s cs k b hs=>absurd hs (hno s cs),fun s cs g hs=>absurd hs (hno s cs),fun s cs hs=>absurd hs (hno s cs)⟩,⟨?_,fun i tv hi=>?_⟩,Yi _,rfl⟩
  ·simp [Fn.init,k4,hvl,hlen]
  ·simp only [Fn.init] at hi
   by_cases hlt:i<args.length
   ·rw [Yl (by simpa using hlt)] at hi
    simp only [Yh,Ye] at hi
    obtain ⟨x,hx,rfl⟩:=hi
    obtain ⟨u,hu,hr⟩:=ha.get hx
    have:(vals++Yn (mf.ntmps - vals.size) undef).getD i undef=u:=by
     rw [Yc,Array.getElem?_append_left (by omega)]
     have:vals[i]? = some u:=by simpa using hu
     rw [this];rfl
    rw [this];exact hr
   ·rw [List.getElem?_append_right (by simp;omega)] at hi
    have:=Ym (Yd hi)
    subst this
    have h2:(vals++Yn (mf.ntmps - vals.size) undef).getD i undef=undef:=by
     rw [Yc,Array.getElem?_append_right (by omega),Array.getElem?_replicate]
     split<;>rfl
    show relT S ρ _ _ h w (.tup []) _
    rw [h2]
    exact ⟨#[],rfl,L2.nil⟩
 refine calls_of_wp k1 k2 (Zyd sc k7 fn.code c k6 (fn.fin (Glo.std S.tab) h) r (fn.init args h) hb (by simp [Fn.init,hlen]) _ w ρ _ si _ fun ex st' a' w' ρ' σ' hf hl' si' ad'=>?_)
 have hstep:=ad' h w ρ (Yi _) (Step.refl h w ρ)
 have key:Zqo (Glo.std S.tab) fn.res st' (fun l=>Zbr fn.gc h l st'.h)=some r->a'.defers=[]/\∃v,(results mf a'.tmps).run S.P w'=.ok v w'/\∃v' ρ',Ending.returned v=.returned v'/\relR S ρ' r.2 r.1 v'/\HI S ρ' r.2 w'/\Step h w ρ r.2 w' ρ':=by
  intro hr
  obtain ⟨ys,us,hfin,hrun,hrel⟩:=Zrc si' _ _ hr k5
  refine ⟨si'.hd,_,Zuh hrun,_,ρ',rfl,?_⟩
  unfold Zbr at hfin
  cases hgc:fn.gc with
  | false =>
   rw [hgc] at hfin
   cases Zi hfin
   exact ⟨Zzf hrel,si'.fi.hi,hstep⟩
  | true =>
   rw [hgc] at hfin
   obtain ⟨hok,hfin⟩:=Zx hfin
   cases Zi hfin
   obtain ⟨g1,g2,g3,g4⟩:=gc_sound hi si'.fi.hi hstep hok
   refine ⟨Zzf ⟨hrel.1,fun i x u hx hu=>relA.take g3 (g4 x (Yd hx)) (hrel.2 i x u hx hu)⟩,g1,g2⟩
 cases ex with
 | normal=>exact key hf
 | ret=>exact key hf
 | exit i=>simp [Fn.fin] at hf
theorem Znc {E:Env} (htab:E.tab=S.tab) (hok:∀g fn,E.fn g=some fn->FnOk S g fn) (hx:Zck S E.ext):∀n,Zck S (Zeb E n)
 | 0=>fun g args h r hr=>by simp [Zeb] at hr
 | n+1=>fun g args h r hr=>by
  simp only [Zeb] at hr
  split at hr
  ·rename_i fn hfn
   have ok:=hok g fn hfn
   obtain ⟨mf,c,dr,k1,k2,k3,_⟩:=ok.ex
   have hG:E.glob=Glo.std S.tab:=by unfold Env.glob;rw [htab]
   rw [hG] at hr
   exact ⟨⟨mf,c,k1,k2,k3⟩,fun w ρ vals hi ha=>fn_sound (Znc htab hok hx n) ok hr hi ha⟩
  ·exact hx g args h r hr
theorem R_soundX {E:Env} (htab:E.tab=S.tab) (hok:∀g fn,E.fn g=some fn->FnOk S g fn) (hx:Zck S E.ext):Zck S (R E):=by
 intro g args h r hr
 obtain ⟨n,hn⟩:=Zim hr
 exact Znc htab hok hx n g args h r hn
theorem R_sound {E:Env} (htab:E.tab=S.tab) (hok:∀g fn,E.fn g=some fn->FnOk S g fn) (hx:E.ext=fun _ _ _=>none:=by rfl):Zck S (R E) :=
 R_soundX htab hok (by rw [hx];intro g args h r hr;cases hr)
end
end Jq
