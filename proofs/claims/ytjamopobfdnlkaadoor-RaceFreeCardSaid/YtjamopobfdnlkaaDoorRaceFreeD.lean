/- YtjamopobfdnlkaaDoorRaceFreeD: a part of the proof; no conditions of its own. -/
import Derived.KernelRfl
import Derived.Test.YtjamopobfdnlkaaDoorRows
import Derived.WalkKit
import Derived.ProofKit
import Derived.OpenShut
import Derived.ShutString
import Derived.ChangeOld
import Derived.Below
import Derived.Carry
import Derived.Test.YtjamopobfdnlkaaDoorCards
import Derived.Test.YtjamopobfdnlkaaDoorTie
import Derived.SevenTiedAt
import Derived.LaidMore
import Derived.Stop.Joined
import Derived.Lib.LaidTab
import Derived.MakeChecks
import Derived.LaidHandle
import Derived.Stop.LaidErr
import Derived.Test.YtjamopobfdnlkaaDoorRaceFreeC
set_option linter.unusedVariables false
set_option linter.unusedSimpArgs false

namespace Jq
open Go
theorem g_rem3 {E:Env} (a:Int):0≤E.glob.rem .i64 (E.glob.band .i64 a 255) 3∧E.glob.rem .i64 (E.glob.band .i64 a 255) 3<3:=by
  refine rem_rng ?_ (by omega)
  rw [g_band255];omega
theorem bits_none {V:MV}:(bitsL V.word).length=0↔V.word=0:=by
  rw [List.length_eq_zero_iff]
  exact bitsL_nil V.word_lt
section
variable {E:Env}
end
end Jq


namespace Jq
open Go
structure ThrStep (V:MV) (i:Nat) (s:Stp):Prop where
  t:s.t=(i:Int)
  kind:1≤s.kind∧s.kind≤5
  loc:0≤s.loc∧s.loc<4
  free:s.kind=3∨s.kind=4∨s.kind=5→V.b i=[]
  read:s.kind=1∨s.kind=4∨s.kind=5→s.r=(match newE s.loc (V.b i) with | some e=>e.val | none=>V.mem.getD s.loc.toNat 0)∧s.frm=(match newE s.loc (V.b i) with | some e=>e.id | none=>V.frm.getD s.loc.toNat 0)
  b:∀t,(V.nx i).b t=if t=i∧isSt V.m s=true then V.b i++[⟨s.loc,s.w,V.st.length⟩] else V.b t
  mem:∀c,(V.nx i).mem.getD c 0=if (s.kind=4∨(s.kind=2∧V.m=1))∧c=s.loc.toNat then s.w else V.mem.getD c 0
  frm:∀c,(V.nx i).frm.getD c 0=if (s.kind=4∨(s.kind=2∧V.m=1))∧c=s.loc.toNat then (V.st.length:Int) else V.frm.getD c 0
theorem evOf_cases (q:Ins) (l:Lcl) (v:Int) (hk:1≤q.kind∧q.kind≤4):((evOf q l v).kind=3↔q.kind=3)∧(((evOf q l v).kind=4∨(evOf q l v).kind=5)↔q.kind=4)∧((evOf q l v).kind=1↔q.kind=2)∧((evOf q l v).kind=1∨(evOf q l v).kind=4∨(evOf q l v).kind=5→(evOf q l v).r=v∧(evOf q l v).loc=q.loc∧rdI q=true):=by
  unfold evOf
  by_cases h1:q.kind=1
  · rw [if_pos h1];dsimp only;refine ⟨by omega,by omega,by omega,fun h=>by omega⟩
  · rw [if_neg h1]
    by_cases h2:q.kind=2
    · rw [if_pos h2];dsimp only;exact ⟨by omega,by omega,by omega,fun _=>⟨rfl,rfl,by unfold rdI;exact decide_eq_true (.inl h2)⟩⟩
    · rw [if_neg h2]
      by_cases h4:q.kind=4
      · rw [if_pos h4]
        have hr:rdI q=true:=by unfold rdI;exact decide_eq_true (.inr h4)
        split<;>exact ⟨by dsimp only;omega,by dsimp only;omega,by dsimp only;omega,fun _=>⟨rfl,rfl,hr⟩⟩
      · rw [if_neg h4];dsimp only;exact ⟨by omega,by omega,by omega,fun h=>by omega⟩
theorem MV.Inv.thr_step {V:MV} (v:V.Inv) {i:Nat} (h4:i<4) (hi:V.may i=true):ThrStep V i (V.stp i):=by
  have f:=v.fit
  have hq:=MV.may_thr h4 hi
  have hS:V.stp i={ V.thrS i (V.thrI i) with pick:=i }:=by unfold MV.stp;rw [if_pos h4]
  have hN:V.nx i={ V.thrM i (V.thrI i) with st:=V.st++[V.stp i] }:=by unfold MV.nx;rw [if_pos h4]
  have hB:=v.thrB h4 (V.thrI i)
  generalize hqq:V.thrI i=q at *
  obtain ⟨q1,q2,q3,q4,q5⟩:=v.nxt hq
  have hfree:q.kind=3∨q.kind=4→V.b i=[]:=fun h=>by
    unfold MV.may MV.mayT at hi
    rw [if_pos h4,hq] at hi
    dsimp only at hi
    have:(q.kind==3||q.kind==4)=true:=by rw [Bool.or_eq_true,beq_iff_eq,beq_iff_eq];exact h
    rw [this] at hi
    simpa using hi
  obtain ⟨e1,e2,e3,e4⟩:=evOf_cases q (V.l i) (V.val i q).1 q2
  have hev:=evOf_loc (l:=V.l i) (v:=(V.val i q).1) q1
  have hkk:=evOf_kinds q (V.l i) (V.val i q).1
  generalize hee:evOf q (V.l i) (V.val i q).1=e at *
  have eS:V.stp i=⟨i,i,e.kind,e.loc,e.r,e.w,if rdI q=true then (V.val i q).2 else -1⟩:=by
    rw [hS];unfold MV.thrS;rw [hee]
  have hW:∀W:MV,W=V.wr i e→∀c,W.mem.getD c 0=(if (e.kind=4∨(e.kind=2∧V.m=1))∧c=e.loc.toNat then e.w else V.mem.getD c 0)∧W.frm.getD c 0=(if (e.kind=4∨(e.kind=2∧V.m=1))∧c=e.loc.toNat then (V.st.length:Int) else V.frm.getD c 0):=by
    rintro W rfl c
    unfold MV.wr
    by_cases h2:e.kind=2∧V.m≠1
    · rw [if_pos h2,if_neg (fun q=>by omega),if_neg (fun q=>by omega)]
      exact ⟨rfl,rfl⟩
    · rw [if_neg h2]
      by_cases hw:evWr e=true
      · have hw':e.kind=2∨e.kind=4:=by unfold evWr at hw;simpa using hw
        rw [if_pos hw]
        dsimp only
        rw [getDset (by rw [f.mem];omega),getDset (by rw [f.frm];omega)]
        by_cases hc:c=e.loc.toNat
        · rw [if_pos hc,if_pos hc,if_pos ⟨by omega,hc⟩,if_pos ⟨by omega,hc⟩];exact ⟨rfl,rfl⟩
        · rw [if_neg hc,if_neg hc,if_neg (fun q=>hc q.2),if_neg (fun q=>hc q.2)];exact ⟨rfl,rfl⟩
      · have hw':¬(e.kind=2∨e.kind=4):=by unfold evWr at hw;simpa using hw
        rw [if_neg hw,if_neg (fun q=>by omega),if_neg (fun q=>by omega)]
        exact ⟨rfl,rfl⟩
  refine ⟨by rw [eS],by rw [eS];exact hkk,by rw [eS];exact hev,fun h=>?_,fun h=>?_,fun t=>?_,fun c=>?_,fun c=>?_⟩
  · rw [eS] at h
    dsimp only at h
    refine hfree ?_
    rcases h with h | h
    · exact .inl (e1.1 h)
    · exact .inr (e2.1 h)
  · rw [eS] at h ⊢
    dsimp only at h ⊢
    obtain ⟨k1,k2,k3⟩:=e4 h
    rw [k3,if_pos rfl,k1,k2]
    unfold MV.val
    cases newE q.loc (V.b i)<;>exact ⟨rfl,rfl⟩
  · rw [hN]
    show (V.thrM i q).b t=_
    rw [hB,eS]
    have hiff:isSt V.m ⟨i,i,e.kind,e.loc,e.r,e.w,if rdI q=true then (V.val i q).2 else -1⟩=true↔(e.kind=2∧V.m≠1):=by
      unfold isSt
      rw [Bool.and_eq_true,beq_iff_eq,bne_iff_ne]
    by_cases hc:t=i∧e.kind=2∧V.m≠1
    · rw [if_pos hc,if_pos ⟨hc.1,hiff.2 hc.2⟩]
    · rw [if_neg hc,if_neg (fun q=>hc ⟨q.1,hiff.1 q.2⟩)]
  · rw [hN,eS]
    show (V.thrM i q).mem.getD c 0=_
    unfold MV.thrM
    rw [hee]
    exact (hW (V.wr i e) rfl c).1
  · rw [hN,eS]
    show (V.thrM i q).frm.getD c 0=_
    unfold MV.thrM
    rw [hee]
    exact (hW (V.wr i e) rfl c).2
structure FluStep (V:MV) (i:Nat) (s:Stp) (t:Nat) (p:Ent→Bool) (e:Ent):Prop where
  t4:t<4
  s:s=⟨i,t,6,e.loc,0,e.val,e.id⟩
  f:(V.b t).find? p=some e
  pe:∀x,p x=(decide (V.m=2)||x.loc==e.loc)
  m:V.m=2∨V.m=3
  b:∀t',(V.nx i).b t'=if t'=t then (V.b t).eraseP p else V.b t'
  mem:∀c,(V.nx i).mem.getD c 0=if c=e.loc.toNat then e.val else V.mem.getD c 0
  frm:∀c,(V.nx i).frm.getD c 0=if c=e.loc.toNat then e.id else V.frm.getD c 0
theorem MV.Inv.flu_step {V:MV} (v:V.Inv) {i:Nat} (h4:¬i<4) (hi:V.may i=true):∃t p e,FluStep V i (V.stp i) t p e:=by
  obtain ⟨t,loc,e,ht,hf,hs,hm1,hnx⟩:=MV.may_flu h4 hi
  have f:=v.fit
  have hm:=f.m
  have he:=v.mem_b (List.mem_of_find?_eq_some hf)
  have hpe:=List.find?_some hf
  refine ⟨t,oldP (bmod V.m) loc,e,ht,hs,hf,fun x=>?_,by omega,fun t'=>?_,fun c=>?_,fun c=>?_⟩
  · rcases (show V.m=2∨V.m=3 by omega) with h | h
    · rw [h];rfl
    · rw [h] at hpe ⊢
      have hl:e.loc=loc:=by
        unfold oldP bmod at hpe
        simpa using hpe
      rw [hl];rfl
  · rw [hnx]
    show (V.bf.set t _).getD t' []=_
    rw [getDset (by rw [f.bf];exact ht)];rfl
  · rw [hnx]
    show (V.mem.set _ _).getD c 0=_
    rw [getDset (by rw [f.mem];omega)]
  · rw [hnx]
    show (V.frm.set _ _).getD c 0=_
    rw [getDset (by rw [f.frm];omega)]
structure Hist (V:MV):Prop where
  ids:∀t,(V.b t).Pairwise fun a b=>a.id<b.id
  ent:∀t,∀e∈V.b t,∃k:Nat,e.id=(k:Int)∧∃s,V.st[k]? = some s∧s.kind=2∧s.t=(t:Int)∧s.loc=e.loc∧s.w=e.val∧∀(j:Nat) (u:Stp),V.st[j]? = some u→u.kind=6→u.frm≠e.id
  sto:∀(k:Nat) (s:Stp),V.st[k]? = some s→isSt V.m s=true→(∃t:Nat,s.t=(t:Int)∧∃e∈V.b t,e.id=(k:Int))∨∃(j:Nat) (u:Stp),k<j∧V.st[j]? = some u∧u.kind=6∧u.frm=(k:Int)
  flu:∀(j:Nat) (u:Stp),V.st[j]? = some u→u.kind=6→0≤u.t∧∀t:Nat,u.t=(t:Int)→∀e∈V.b t,(V.m=3→e.loc=u.loc)→u.frm<e.id
  b4:∀t,4≤t→V.b t=[]
  own:V.m=1→∀t,V.b t=[]
  len:∀(k:Nat) (s:Stp),V.st[k]? = some s→s.kind=6→∃f:Nat,s.frm=(f:Int)∧f<k
theorem eraseP_idx' {l:List Ent} {p:Ent→Bool} {e:Ent} (he:l.find? p=some e):∃j,l.findIdx? p=some j∧l[j]? = some e∧l.eraseP p=l.take j++l.drop (j+1):=by
  obtain ⟨j,hj⟩:∃j,l.findIdx? p=some j:=by
    cases hx:l.findIdx? p with
    | some j=>exact ⟨j,rfl⟩
    | none =>
      rw [List.findIdx?_eq_none_iff] at hx
      have:=hx e (List.mem_of_find?_eq_some he)
      rw [List.find?_some he] at this;cases this
  obtain ⟨h1,h2,h3⟩:=List.findIdx?_eq_some_iff_getElem.1 hj
  have hfi:l.find? p=some l[j]:=by
    rw [List.find?_eq_some_iff_getElem]
    exact ⟨h2,j,h1,rfl,fun k hk=>by have:=h3 k hk;simpa using this⟩
  rw [hfi] at he
  refine ⟨j,hj,by rw [List.getElem?_eq_getElem h1];exact he,?_⟩
  rw [List.eraseP_eq_eraseIdx,hj]
  exact List.eraseIdx_eq_take_drop_succ _ _
theorem getI_snoc {α:Type} {l:List α} {x:α} {k:Nat} {s:α} (h:(l++[x])[k]? = some s):(k<l.length∧l[k]? = some s)∨(k=l.length∧s=x):=by
  rcases Nat.lt_or_ge k l.length with hk | hk
  · rw [List.getElem?_append_left hk] at h;exact .inl ⟨hk,h⟩
  · rw [List.getElem?_append_right hk] at h
    have:k - l.length=0:=by
      rcases Nat.eq_zero_or_pos (k - l.length) with q | q
      · exact q
      · rw [List.getElem?_eq_none (by simp;omega)] at h;cases h
    rw [this] at h
    simp at h
    exact .inr ⟨by omega,h.symm⟩
theorem getI_old {α:Type} {l:List α} {x:α} {k:Nat} {s:α} (h:l[k]? = some s):(l++[x])[k]? = some s:=by
  rw [List.getElem?_append_left (getI_lt h)];exact h
theorem getI_new {α:Type} {l:List α} {x:α}:(l++[x])[l.length]? = some x:=by simp
theorem Hist.new (P:PProg) (m:Int):Hist (MV.new P m):=by
  have hs:∀(k:Nat) (s:Stp),(MV.new P m).st[k]? = some s→False:=fun k s h=>by
    have:(MV.new P m).st=[]:=rfl
    rw [this] at h;simp at h
  refine ⟨fun t=>by rw [new_b];exact List.Pairwise.nil,fun t e he=>by rw [new_b] at he;simp at he,fun k s h=>(hs k s h).elim,fun k s h=>(hs k s h).elim,fun t _=>new_b P m t,fun _ t=>new_b P m t,fun k s h=>(hs k s h).elim⟩
theorem MV.Inv.hist_nx {V:MV} (v:V.Inv) (H:Hist V) {i:Nat} (hi:V.may i=true):Hist (V.nx i):=by
  have hmm:(V.nx i).m=V.m:=(V.nx_P i).2
  have hst:(V.nx i).st=V.st++[V.stp i]:=V.nx_st i
  have elt:∀t,∀e∈V.b t,e.id<V.st.length:=fun t e he=>by
    obtain ⟨k,hk,s,hs,_⟩:=H.ent t e he
    have:=getI_lt hs;omega
  by_cases h4:i<4
  · have T:=v.thr_step h4 hi
    generalize V.stp i=s at *
    have hk6:s.kind≠6:=by have:=T.kind;omega
    have hmem:∀t e,e∈(V.nx i).b t→e∈V.b t∨(t=i∧isSt V.m s=true∧e=⟨s.loc,s.w,V.st.length⟩):=fun t e he=>by
      rw [T.b] at he
      split at he
      · rename_i hc
        rcases List.mem_append.1 he with h | h
        · exact .inl (hc.1 ▸ h)
        · exact .inr ⟨hc.1,hc.2,List.mem_singleton.1 h⟩
      · exact .inl he
    have hsub:∀t e,e∈V.b t→e∈(V.nx i).b t:=fun t e he=>by
      rw [T.b]
      split
      · rename_i hc;exact List.mem_append_left _ (hc.1 ▸ he)
      · exact he
    refine ⟨fun t=>?_,fun t e he=>?_,fun k u hu hs=>?_,fun j u hu h6=>?_,fun t ht=>?_,fun hm t=>?_,fun k u hu h6=>?_⟩
    · rw [T.b]
      split
      · rw [List.pairwise_append]
        refine ⟨H.ids i,by simp,fun a ha b hb=>?_⟩
        rw [List.mem_singleton] at hb
        subst hb
        exact elt i a ha
      · exact H.ids t
    · rw [hst]
      rcases hmem t e he with h | ⟨h1,h2,h3⟩
      · obtain ⟨k,hk,u,hu,h1,h2,h3,h4',h5⟩:=H.ent t e h
        refine ⟨k,hk,u,getI_old hu,h1,h2,h3,h4',fun j w hw h6=>?_⟩
        rcases getI_snoc hw with ⟨_,hw⟩ | ⟨_,rfl⟩
        · exact h5 j w hw h6
        · exact absurd h6 hk6
      · subst h3
        have h2':=h2
        unfold isSt at h2'
        rw [Bool.and_eq_true,beq_iff_eq] at h2'
        refine ⟨V.st.length,rfl,s,getI_new,h2'.1,by rw [T.t,h1],rfl,rfl,fun j w hw h6=>?_⟩
        rcases getI_snoc hw with ⟨hl,hw⟩ | ⟨_,rfl⟩
        · obtain ⟨f,hf,hfl⟩:=H.len j w hw h6
          dsimp only;omega
        · exact absurd h6 hk6
    · rw [hst] at hu
      rw [hmm] at hs
      rcases getI_snoc hu with ⟨hl,hu⟩ | ⟨hl,rfl⟩
      · rcases H.sto k u hu hs with ⟨t,h1,e,he,h2⟩ | ⟨j,w,h1,h2,h3⟩
        · exact .inl ⟨t,h1,e,hsub t e he,h2⟩
        · exact .inr ⟨j,w,h1,by rw [hst];exact getI_old h2,h3⟩
      · refine .inl ⟨i,T.t,⟨u.loc,u.w,V.st.length⟩,?_,by rw [hl]⟩
        rw [T.b,if_pos ⟨rfl,hs⟩]
        exact List.mem_append_right _ (List.mem_singleton.2 rfl)
    · rw [hst] at hu
      rcases getI_snoc hu with ⟨hl,hu⟩ | ⟨hl,rfl⟩
      · obtain ⟨a1,a2⟩:=H.flu j u hu h6
        refine ⟨a1,fun t ht e he hloc=>?_⟩
        rw [hmm] at hloc
        rcases hmem t e he with h | ⟨_,_,h3⟩
        · exact a2 t ht e h hloc
        · obtain ⟨f,hf,hfl⟩:=H.len j u hu h6
          subst h3
          dsimp only;omega
      · exact absurd h6 hk6
    · rw [T.b,if_neg (fun c=>by omega)];exact H.b4 t ht
    · rw [hmm] at hm
      have hns:¬(t=i∧isSt V.m s=true):=fun c=>by
        have:=c.2
        rw [hm] at this
        simp [isSt] at this
      rw [T.b,if_neg hns];exact H.own hm t
    · rw [hst] at hu
      rcases getI_snoc hu with ⟨hl,hu⟩ | ⟨hl,rfl⟩
      · exact H.len k u hu h6
      · exact absurd h6 hk6
  · obtain ⟨t0,p,e0,F⟩:=v.flu_step h4 hi
    have he0:=List.mem_of_find?_eq_some F.f
    have hs0:=F.s
    have hsub:∀t e,e∈(V.nx i).b t→e∈V.b t:=fun t e he=>by
      rw [F.b] at he
      split at he
      · rename_i hc;rw [hc];exact List.mem_of_mem_eraseP he
      · exact he
    obtain ⟨j0,hj0,hje,her⟩:=eraseP_idx' F.f
    have hout:∀e∈(V.nx i).b t0,e.id≠e0.id:=fun e he=>by
      rw [F.b,if_pos rfl,her] at he
      have pw:=H.ids t0
      rw [List.pairwise_iff_getElem] at pw
      rcases List.mem_append.1 he with h | h
      · obtain ⟨a,ha,rfl⟩:=List.mem_iff_getElem.1 h
        rw [List.length_take] at ha
        rw [List.getElem_take]
        have hjl:=getI_lt hje
        have:=pw a j0 (by omega) hjl (by omega)
        rw [List.getElem?_eq_getElem hjl] at hje
        cases hje
        omega
      · obtain ⟨a,ha,rfl⟩:=List.mem_iff_getElem.1 h
        rw [List.length_drop] at ha
        rw [List.getElem_drop]
        have hjl:=getI_lt hje
        have:=pw j0 (j0+1+a) hjl (by omega) (by omega)
        rw [List.getElem?_eq_getElem hjl] at hje
        cases hje
        omega
    refine ⟨fun t=>?_,fun t e he=>?_,fun k u hu hs=>?_,fun j u hu h6=>?_,fun t ht=>?_,fun hm t=>?_,fun k u hu h6=>?_⟩
    · rw [F.b]
      split
      · exact List.Pairwise.sublist List.eraseP_sublist (H.ids t0)
      · exact H.ids t
    · rw [hst]
      obtain ⟨k,hk,u,hu,h1,h2,h3,h4',h5⟩:=H.ent t e (hsub t e he)
      refine ⟨k,hk,u,getI_old hu,h1,h2,h3,h4',fun j w hw h6=>?_⟩
      rcases getI_snoc hw with ⟨_,hw⟩ | ⟨_,hw⟩
      · exact h5 j w hw h6
      · rw [hw,hs0]
        dsimp only
        intro q
        by_cases htt:t=t0
        · subst htt;exact hout e he q.symm
        · obtain ⟨k',hk',u',hu',_,h2',_⟩:=H.ent t0 e0 he0
          have:k'=k:=by omega
          subst this
          rw [hu] at hu'
          cases hu'
          omega
    · rw [hst] at hu
      rw [hmm] at hs
      rcases getI_snoc hu with ⟨hl,hu⟩ | ⟨hl,hu⟩
      · rcases H.sto k u hu hs with ⟨t,h1,e,he,h2⟩ | ⟨j,w,h1,h2,h3⟩
        · by_cases hee:e.id=e0.id
          · refine .inr ⟨V.st.length,V.stp i,getI_lt hu,by rw [hst];exact getI_new,by rw [hs0],by rw [hs0];dsimp only;omega⟩
          · refine .inl ⟨t,h1,e,?_,h2⟩
            rw [F.b]
            split
            · rename_i hc
              rw [her]
              rw [hc,←List.take_append_drop j0 (V.b t0)] at he
              rcases List.mem_append.1 he with h | h
              · exact List.mem_append_left _ h
              · have hd:(V.b t0).drop j0=e0 :: (V.b t0).drop (j0+1):=by
                  have hjl:=getI_lt hje
                  rw [List.getElem?_eq_getElem hjl] at hje
                  cases hje
                  exact (List.getElem_cons_drop (h:=hjl)).symm
                rw [hd] at h
                rcases List.mem_cons.1 h with rfl | h
                · exact absurd rfl hee
                · exact List.mem_append_right _ h
            · exact he
        · exact .inr ⟨j,w,h1,by rw [hst];exact getI_old h2,h3⟩
      · rw [hu,hs0] at hs
        simp [isSt] at hs
    · rw [hst] at hu
      rcases getI_snoc hu with ⟨hl,hu⟩ | ⟨hl,hu⟩
      · obtain ⟨a1,a2⟩:=H.flu j u hu h6
        exact ⟨a1,fun t ht e he hloc=>a2 t ht e (hsub t e he) (by rw [hmm] at hloc;exact hloc)⟩
      · subst hu
        rw [hs0]
        dsimp only
        refine ⟨by omega,fun t ht e he hloc=>?_⟩
        have htt:t=t0:=by omega
        subst htt
        rw [hmm] at hloc
        have hne:=hout e he
        have he':=he
        rw [F.b,if_pos rfl,her] at he'
        have pw:=H.ids t
        rw [List.pairwise_iff_getElem] at pw
        have hjl:=getI_lt hje
        rw [List.getElem?_eq_getElem hjl] at hje
        cases hje
        rcases List.mem_append.1 he' with h | h
        · -- ahead of it: one that would have come first
          exfalso
          obtain ⟨a,ha,hae⟩:=List.mem_iff_getElem.1 h
          rw [List.length_take] at ha
          rw [List.getElem_take] at hae
          obtain ⟨_,_,h3⟩:=List.findIdx?_eq_some_iff_getElem.1 hj0
          have hpf:=h3 a (by omega)
          rw [hae] at hpf
          rw [F.pe e] at hpf
          rcases F.m with hm | hm
          · rw [decide_eq_true hm] at hpf;simp at hpf
          · rw [hloc hm] at hpf;simp at hpf
        · obtain ⟨a,ha,hae⟩:=List.mem_iff_getElem.1 h
          rw [List.length_drop] at ha
          rw [List.getElem_drop] at hae
          have:=pw j0 (j0+1+a) hjl (by omega) (by omega)
          rw [hae] at this
          exact this
    · rw [F.b,if_neg (fun c=>by have:=F.t4;omega)];exact H.b4 t ht
    · rw [hmm] at hm
      have:=F.m;omega
    · rw [hst] at hu
      rcases getI_snoc hu with ⟨hl,hu⟩ | ⟨hl,hu⟩
      · exact H.len k u hu h6
      · obtain ⟨k',hk',u',hu',_⟩:=H.ent t0 e0 he0
        refine ⟨k',by rw [hu,hs0];exact hk',by have:=getI_lt hu';omega⟩
end Jq

namespace Jq
open Go
theorem Own.appN {n:Nat} {h:AHeap} {x:Cell} {esz len m bytes:Nat} {cs xs:List Cell} (o:Own n h x esz cs len) (hn:n≤h.length) (hx:xs.length=m*esz) (he:0<esz) (h1:(len+m)*bytes≤maxBytes) (h2:len+m≤maxBytes) :
    ∃x' h',(∀{α:Type} (f:Cell→AHeap→Option α),appK esz bytes x xs h f=f x' h')∧Own n h' x' esz (cs++xs) (len+m)∧Kp n h h'∧(∀j b,blk? h j=some b→¬isBlk x j→blk? h' j=some b∧¬isBlk x' j):=by
  have hd:xs.length / esz=m:=by rw [hx];exact Nat.mul_div_cancel _ he
  rcases o.2 with ⟨rfl,rfl⟩ | ⟨k,rfl,hk,hb⟩
  · have hcs:cs=[]:=List.length_eq_zero_iff.1 (by have:=o.1;omega)
    subst hcs
    by_cases h0:m=0
    · subst h0
      have:xs=[]:=List.length_eq_zero_iff.1 (by omega)
      subst this
      exact ⟨.nils,h,fun f=>rfl,Own.nil _ _ _,Kp.refl _ _,fun j b hj hi=>⟨hj,hi⟩⟩
    · have hpos:0<xs.length:=by rw [hx];exact Nat.mul_pos (by omega) he
      refine ⟨.sl h.length xs.length 0 m,h++[some ⟨true,esz,xs⟩],fun f=>?_,⟨by simp [hx],.inr ⟨h.length,by simp,hn,by rw [List.nil_append];exact blk_new _ _⟩⟩,Kp.app _ hn,fun j b hj _=>⟨blk_old hj _,fun hi=>?_⟩⟩
      · unfold appK;simp only;rw [if_neg (by omega),hd,if_pos ⟨by rw [Nat.zero_add] at h1;exact h1,by omega⟩]
      · have:=blk_lt' hj;simp only [isBlk] at hi;omega
  · have hl:=o.1
    refine ⟨.sl k (len*esz+xs.length) 0 (len+m),setBlk h k (some ⟨true,esz,cs++xs⟩),fun f=>?_,⟨by simp [hl,hx,Nat.add_mul],.inr ⟨k,by simp [hl],hk,blk_set_self (blk_lt' hb) _⟩⟩,Kp.set hk _,fun j b hj hi=>?_⟩
    · unfold appK;simp only;rw [hb,Option.bind_some];dsimp only
      rw [if_pos ⟨rfl,rfl,rfl,by omega,by rw [hd];exact h1,by rw [hd];exact h2⟩,hd]
      by_cases h0:xs.length=0
      · have:xs=[]:=List.length_eq_zero_iff.1 h0
        subst this
        have e:splice cs (0+len*esz) []=cs++[]:=by unfold splice;simp
        rw [if_pos (by simp;omega),e,List.length_nil,hl]
        rfl
      · rw [if_neg (by omega),if_pos trivial,List.take_of_length_le (by omega)]
    · have hne:k≠j:=fun h=>hi h
      exact ⟨by rw [blk_set_ne hne];exact hj,fun q=>hne q⟩
theorem Own.slc {n:Nat} {h:AHeap} {x:Cell} {esz len:Nat} {cs:List Cell} (o:Own n h x esz cs len) (h0:0<len) {a:Nat} (ha:a≤len) :
    (∃x',(∀{α:Type} (f:Cell→Option α),sliceK h esz false true x [.v (.c (.int .i64 (a:Int)))] f=f x')∧slCells h esz x'=some (cs.take (a*esz))) ∧
    (∃x',(∀{α:Type} (f:Cell→Option α),sliceK h esz true false x [.v (.c (.int .i64 (a:Int)))] f=f x')∧slCells h esz x'=some (cs.drop (a*esz))):=by
  have hl:=o.1
  have hae:a*esz≤len*esz:=Nat.mul_le_mul_right _ ha
  rcases o.2 with ⟨rfl,rfl⟩ | ⟨k,rfl,hk,hb⟩
  · omega
  · have hok:okSl h esz k cs.length=true:=by unfold okSl;rw [hb];simp
    refine ⟨⟨.sl k cs.length (0+0*esz) (a - 0),fun f=>?_,?_⟩,⟨.sl k cs.length (0+a*esz) (len - a),fun f=>?_,?_⟩⟩
    · unfold sliceK boundsK
      simp only
      rw [if_pos hok,if_pos ⟨by omega,by omega⟩,Int.toNat_natCast]
    · unfold slCells
      dsimp only
      by_cases h1:a - 0=0
      · rw [if_pos h1,show a=0 by omega,Nat.zero_mul,List.take_zero]
      · rw [if_neg h1,hb]
        simp only
        rw [if_pos ⟨by trivial,by rw [Nat.sub_zero];omega⟩]
        simp
    · unfold sliceK boundsK
      simp only
      rw [if_pos hok,if_pos ⟨by omega,by omega⟩,Int.toNat_natCast]
    · unfold slCells
      dsimp only
      have hm:(len - a)*esz=len*esz - a*esz:=Nat.sub_mul _ _ _
      by_cases h1:len - a=0
      · rw [if_pos h1,List.drop_of_length_le (by rw [show a=len by omega];omega)]
      · rw [if_neg h1,hb]
        simp only
        rw [if_pos ⟨by trivial,by omega⟩,Nat.zero_add,List.take_of_length_le (by rw [List.length_drop];omega)]
theorem ents_take (l:List Ent) (j:Nat):(entsC l).take (min j l.length*3)=entsC (l.take j)∧(entsC l).drop (min j l.length*3)=entsC (l.drop j):=by
  have e:entsC l=entsC (l.take j)++entsC (l.drop j):=by rw [←entsC_append,List.take_append_drop]
  have hl:(entsC (l.take j)).length=min j l.length*3:=by rw [entsC_len,List.length_take]
  rw [e,←hl]
  exact ⟨by rw [List.take_append_of_le_length (Nat.le_refl _),List.take_length],by rw [List.drop_append_of_le_length (Nat.le_refl _),List.drop_length,List.nil_append]⟩
theorem newE_snoc (loc:Int) (l:List Ent) (e:Ent):newE loc (l++[e])=if e.loc=loc then some e else newE loc l:=by
  unfold newE
  rw [List.reverse_append,List.reverse_singleton,List.singleton_append,List.find?_cons]
  by_cases h:e.loc=loc
  · rw [if_pos h,h,beq_self_eq_true]
  · rw [if_neg h,beq_false_of_ne h]
def rvC (pc:List Cell) (V:MV) (bs:List Cell) (x:Cell):List Cell :=
  pc++(([.int .i64 V.m]:List Cell)++(intC .i64 V.mem++(intC .i64 V.frm++(V.lc.flatMap Lcl.cs++(bs++[x])))))
section
variable {V:MV} {pc bs:List Cell} {x:Cell} (f:V.Fit) (hpc:pc.length=3) (hbs:bs.length=4)
theorem rv_prog (hpc:pc.length=3):((rvC pc V bs x).drop (0+0)).take 3=pc:=by
  unfold rvC
  exact seg_get (a:=[]) rfl hpc
theorem rv_m (hpc:pc.length=3) {α:Type} {g:Cell→Option α}:atK (rvC pc V bs x) (0+3) g=g (.int .i64 V.m):=by
  unfold rvC
  refine atK_ok ?_
  rw [List.getElem?_append_right (by omega),hpc];rfl
theorem rv_lensM (_:V.Fit) (hpc:pc.length=3):∃A B:List Cell,rvC pc V bs x=A++(intC .i64 V.mem++B)∧A.length=0+4∧∀l':List Int,rvC pc { V with mem:=l' } bs x=A++(intC .i64 l'++B):=by
  refine ⟨pc++[.int .i64 V.m],intC .i64 V.frm++(V.lc.flatMap Lcl.cs++(bs++[x])),?_,?_,fun l'=>?_⟩
  · unfold rvC;simp only [List.append_assoc]
  · simp only [List.length_append,hpc,List.length_cons,List.length_nil]
  · unfold rvC;simp only [List.append_assoc]
include f hpc
theorem rv_lensF:∃A B:List Cell,rvC pc V bs x=A++(intC .i64 V.frm++B)∧A.length=0+8∧∀l':List Int,rvC pc { V with frm:=l' } bs x=A++(intC .i64 l'++B):=by
  have:=f.mem
  refine ⟨pc++(([.int .i64 V.m]:List Cell)++intC .i64 V.mem),V.lc.flatMap Lcl.cs++(bs++[x]),?_,?_,fun l'=>?_⟩
  · unfold rvC;simp only [List.append_assoc]
  · simp only [List.length_append,hpc,List.length_cons,List.length_nil,intC_len];omega
  · unfold rvC;simp only [List.append_assoc]
theorem rv_lensL {t:Nat} {l:Lcl} (h:V.lc[t]? = some l):∃A B:List Cell,rvC pc V bs x=A++(l.cs++B)∧A.length=(0+12)+t*5∧∀l':Lcl,rvC pc { V with lc:=V.lc.set t l' } bs x=A++(l'.cs++B):=by
  have hi:=getI_lt h
  have e:=take_flat_len (f.lcs hpc) (Nat.le_of_lt hi)
  have:=f.mem;have:=f.frm
  refine ⟨pc++(([.int .i64 V.m]:List Cell)++(intC .i64 V.mem++(intC .i64 V.frm++(V.lc.take t).flatMap Lcl.cs))),(V.lc.drop (t+1)).flatMap Lcl.cs++(bs++[x]),?_,?_,fun l'=>?_⟩
  · unfold rvC;rw [flat_split h];simp only [List.append_assoc]
  · simp only [List.length_append,e,hpc,List.length_cons,List.length_nil,intC_len];omega
  · unfold rvC;dsimp only;rw [flat_set hi];simp only [List.append_assoc]
theorem rv_lensB:∃A:List Cell,A.length=0+32∧∀bs x,rvC pc V bs x=A++(bs++[x]):=by
  have e2:=flat_len (f.lcs hpc)
  have:=f.lc;have:=f.mem;have:=f.frm
  refine ⟨pc++(([.int .i64 V.m]:List Cell)++(intC .i64 V.mem++(intC .i64 V.frm++V.lc.flatMap Lcl.cs))),?_,fun bs x=>?_⟩
  · simp only [List.length_append,e2,hpc,List.length_cons,List.length_nil,intC_len];omega
  · unfold rvC;simp only [List.append_assoc]
theorem rv_lcl {t:Nat} {l:Lcl} (h:V.lc[t]? = some l):((rvC pc V bs x).drop ((0+12)+t*5)).take 5=l.cs:=by
  obtain ⟨A,B,e,hA,_⟩:=rv_lensL (bs:=bs) (x:=x) f hpc h
  rw [e];exact seg_get hA rfl
theorem rv_setL {t:Nat} (ht:t<4) (l:Lcl):splice (rvC pc V bs x) ((0+12)+t*5) l.cs=rvC pc { V with lc:=V.lc.set t l } bs x:=by
  obtain ⟨A,B,e,hA,h2⟩:=rv_lensL (bs:=bs) (x:=x) f hpc (List.getElem?_eq_getElem (show t<V.lc.length by rw [f.lc];exact ht))
  rw [e,h2];exact seg_set hA rfl
theorem rv_mem {α:Type} {i:Nat} {v:Int} (h:V.mem[i]? = some v) {g:Cell→Option α}:atK (rvC pc V bs x) ((0+4)+i*1) g=g (.int .i64 v):=by
  obtain ⟨A,B,e,hA,_⟩:=rv_lensM (bs:=bs) (x:=x) f hpc
  have hi:=getI_lt h
  refine atK_ok ?_
  rw [e,List.getElem?_append_right (by omega),List.getElem?_append_left (by rw [intC_len];omega),show 0+4+i*1 - A.length=i by omega]
  exact intC_get h
theorem rv_frm {α:Type} {i:Nat} {v:Int} (h:V.frm[i]? = some v) {g:Cell→Option α}:atK (rvC pc V bs x) ((0+8)+i*1) g=g (.int .i64 v):=by
  obtain ⟨A,B,e,hA,_⟩:=rv_lensF (bs:=bs) (x:=x) f hpc
  have hi:=getI_lt h
  refine atK_ok ?_
  rw [e,List.getElem?_append_right (by omega),List.getElem?_append_left (by rw [intC_len];omega),show 0+8+i*1 - A.length=i by omega]
  exact intC_get h
theorem rv_setM {i:Nat} (hi:i<4) (v:Int):(rvC pc V bs x).set ((0+4)+i*1) (.int .i64 v)=rvC pc { V with mem:=V.mem.set i v } bs x:=by
  obtain ⟨A,B,e,hA,h2⟩:=rv_lensM (bs:=bs) (x:=x) f hpc
  have:=f.mem
  rw [e,h2,List.set_append_right _ _ (by omega),List.set_append_left _ _ (by rw [intC_len];omega),show 0+4+i*1 - A.length=i by omega]
  unfold intC
  rw [List.map_set]
theorem rv_setF {i:Nat} (hi:i<4) (v:Int):(rvC pc V bs x).set ((0+8)+i*1) (.int .i64 v)=rvC pc { V with frm:=V.frm.set i v } bs x:=by
  obtain ⟨A,B,e,hA,h2⟩:=rv_lensF (bs:=bs) (x:=x) f hpc
  have:=f.frm
  rw [e,h2,List.set_append_right _ _ (by omega),List.set_append_left _ _ (by rw [intC_len];omega),show 0+8+i*1 - A.length=i by omega]
  unfold intC
  rw [List.map_set]
include hbs
theorem rv_len:(rvC pc V bs x).length=37:=by
  obtain ⟨A,hA,e⟩:=rv_lensB f hpc
  rw [e]
  simp only [List.length_append,hA,hbs,List.length_cons,List.length_nil]
theorem rv_buf {α:Type} {t:Nat} (ht:t<4) {g:Cell→Option α}:atK (rvC pc V bs x) ((0+32)+t*1) g=g (bs.getD t .nils):=by
  obtain ⟨A,hA,e⟩:=rv_lensB f hpc
  refine atK_ok ?_
  rw [e,List.getElem?_append_right (by omega),List.getElem?_append_left (by omega),show 0+32+t*1 - A.length=t by omega,List.getD_eq_getElem?_getD,List.getElem?_eq_getElem (by omega)];rfl
theorem rv_setB {t:Nat} (ht:t<4) (c:Cell):(rvC pc V bs x).set ((0+32)+t*1) c=rvC pc V (bs.set t c) x:=by
  obtain ⟨A,hA,e⟩:=rv_lensB f hpc
  rw [e,e,List.set_append_right _ _ (by omega),List.set_append_left _ _ (by omega),show 0+32+t*1 - A.length=t by omega]
theorem rv_steps {α:Type} {g:Cell→Option α}:atK (rvC pc V bs x) (0+36) g=g x:=by
  obtain ⟨A,hA,e⟩:=rv_lensB f hpc
  refine atK_ok ?_
  rw [e,List.getElem?_append_right (by omega),List.getElem?_append_right (by omega),hA,hbs];rfl
theorem rv_setX (y:Cell):(rvC pc V bs x).set (0+36) y=rvC pc V bs y:=by
  obtain ⟨A,hA,e⟩:=rv_lensB f hpc
  rw [e,e,List.set_append_right _ _ (by omega),List.set_append_right _ _ (by omega),hA,hbs];rfl
end
structure RvAt (n:Nat) (h:AHeap) (k:Nat) (x:Cell) (bs pc:List Cell) (V:MV):Prop where
  hn:n≤h.length
  nk:n≤k
  prog:ProgAt (h.take n) pc V.P
  blk:blk? h k=some ⟨true,0,rvC pc V bs x⟩
  st:Own n h x 7 (stepsC V.st) V.st.length
  sep:¬isBlk x k
  bl:bs.length=4
  bf:∀t,t<4→Own n h (bs.getD t .nils) 3 (entsC (V.b t)) (V.b t).length∧¬isBlk (bs.getD t .nils) k∧∀j,isBlk (bs.getD t .nils) j→¬isBlk x j
def mayI (V:MV) (i:Int):Bool:=decide (0≤i)&&V.may i.toNat
theorem mayI_nat (V:MV) (i:Nat):mayI V (i:Int)=V.may i:=by
  unfold mayI
  rw [decide_eq_true (by omega),Int.toNat_natCast];rfl
theorem mayI_has (V:MV) (i:Int):mayI V i=hasI V.word i:=by
  unfold mayI hasI
  by_cases h0:0≤i
  · rw [decide_eq_true h0,Bool.true_and,Bool.true_and,MV.word_bit]
    by_cases h:i<64
    · rw [decide_eq_true h,Bool.and_true]
    · rw [decide_eq_false h,Bool.and_false,MV.may_out (by omega)]
  · rw [decide_eq_false h0];rfl
theorem ent_loc {h:AHeap} {y:Cell} {l:List Ent} (o:SlAt h y 3 (entsC l) l.length) {i:Nat} {e:Ent} (hq:l[i]? = some e) {α:Type} {f:Cell→Option α} :
    (idxSK 3 y (i:Int) fun k N o=>rdH h k N fun l=>atK l (o+0) f)=f (.int .i64 e.loc):=o.get (getI_lt hq) (by omega) (by rw [entsC_get l i e hq 0 (by omega)];rfl)
theorem ent_val {h:AHeap} {y:Cell} {l:List Ent} (o:SlAt h y 3 (entsC l) l.length) {i:Nat} {e:Ent} (hq:l[i]? = some e) {α:Type} {f:Cell→Option α} :
    (idxSK 3 y (i:Int) fun k N o=>rdH h k N fun l=>atK l (o+1) f)=f (.int .i64 e.val):=o.get (getI_lt hq) (by omega) (by rw [entsC_get l i e hq 1 (by omega)];rfl)
theorem ent_id {h:AHeap} {y:Cell} {l:List Ent} (o:SlAt h y 3 (entsC l) l.length) {i:Nat} {e:Ent} (hq:l[i]? = some e) {α:Type} {f:Cell→Option α} :
    (idxSK 3 y (i:Int) fun k N o=>rdH h k N fun l=>atK l (o+2) f)=f (.int .i64 e.id):=o.get (getI_lt hq) (by omega) (by rw [entsC_get l i e hq 2 (by omega)];rfl)
section
variable {E:Env}
theorem oldest_R' (hE:q198_In E) {n k:Nat} {h:AHeap} {x:Cell} {bs pc:List Cell} {V:MV} (a:RvAt n h k x bs pc V) (f:V.Fit) {t:Nat} (ht:t<4) (loc:Int) (p:Ent→Bool) (hp:∀e,(decide (loc<0)||e.loc==loc)=p e) :
    R E 198 [.c (.ptr k 37 0),.c (.int .i64 (t:Int)),.c (.int .i64 loc)] h=some ([.c (.int .i64 (match (V.b t).findIdx? p with | some i=>(i:Int) | none=>-1))],h):=by
  refine R_intro hE.fn ?_
  have hpc:=a.prog.len
  have hl:=rv_len (x:=x) f hpc a.bl
  have rd:∀{α:Type} {F:List Cell→Option α},rdH h k 37 F=F (rvC pc V bs x):=fun {α F}=>rdH_ok a.blk hl
  have hr:0≤(t:Int)∧(t:Int)<((4:Nat):Int):=⟨by omega,by omega⟩
  have o:=(a.bf t ht).1.at
  have hbl:(V.b t).length≤24:=f.b _ (List.mem_of_getElem? (MV.b_at (by rw [f.bf];exact ht)))
  have hL:=Lim_find (F:=q198_F1 (R E) Lim E.glob) (fun i=>q198_s1 k 37 0 (t:Int) loc (i:Int) h) (fun i=>q198_x1_0 (i:Int) h) (q198_x1_1 h) 0 (V.b t) p (fun i q hq=>by
    have hi:=getI_lt hq
    rw [q198_r1,if_pos hr,rd,Int.toNat_natCast,rv_buf f hpc a.bl ht,o.len,if_pos (by simp;omega)]
    simp only [rd,if_pos hr,rv_buf f hpc a.bl ht,ent_loc o hq,asI_ok,scK_or]
    rw [hp q,g_succ (by omega)]) (by rw [q198_r1,if_pos hr,rd,Int.toNat_natCast,rv_buf f hpc a.bl ht,o.len,if_neg (by simp)])
  have hL':Lim (q198_F1 (R E) Lim E.glob) (q198_s1 k 37 0 (t:Int) loc 0 h)=_:=hL
  rw [q198_eq,hL',bind_ok]
  cases (V.b t).findIdx? p with
  | none=>dsimp only;rw [q198_e1_1]
  | some i=>dsimp only;rw [q198_e1_0]
def fluOf (m i:Int):Int × Int × Bool :=
  if m=2∧4≤i∧i<8 then (i - 4,-1,true) else if m=3∧8≤i∧i<24 then ((i - 8) / 4,(i - 8) % 4,true) else (0,0,false)
theorem refFlush_R (hE:q197_In E) {n k:Nat} {h:AHeap} {x:Cell} {bs pc:List Cell} {V:MV} (a:RvAt n h k x bs pc V) (f:V.Fit) (i:Int) :
    R E 197 [.c (.ptr k 37 0),.c (.int .i64 i)] h=some ([.c (.int .i64 (fluOf V.m i).1),.c (.int .i64 (fluOf V.m i).2.1),.c (.bool (fluOf V.m i).2.2)],h):=by
  refine R_intro hE.fn ?_
  have hpc:=a.prog.len
  have hl:=rv_len (x:=x) f hpc a.bl
  have rd:∀{α:Type} {F:List Cell→Option α},rdH h k 37 F=F (rvC pc V bs x):=fun {α F}=>rdH_ok a.blk hl
  rw [q197_eq]
  simp only [rd,rv_m hpc,asI_ok,scK_and]
  unfold fluOf
  by_cases h2:V.m=2∧4≤i∧i<8
  · rw [if_pos (by simp;omega),if_pos h2,g_wrap_i64 (by omega) (by omega)]
  · rw [if_neg (by simp;omega),if_neg h2]
    by_cases h3:V.m=3∧8≤i∧i<24
    · rw [if_pos (by simp;omega),if_pos h3,g_wrap_i64 (by omega) (by omega),g_quo,g_rem,Int.tdiv_eq_ediv_of_nonneg (by omega),Int.tmod_eq_emod_of_nonneg (by omega),wrap_i64 (by omega) (by omega)]
    · rw [if_neg (by simp;omega),if_neg h3]
theorem findIdx_some {l:List Ent} {p:Ent→Bool}:(decide ((match l.findIdx? p with | some i=>(i:Int) | none=>-1)≥0))=(l.find? p).isSome:=by
  cases hf:l.findIdx? p with
  | none =>
    rw [List.findIdx?_eq_none_iff] at hf
    have:l.find? p=none:=by
      rw [List.find?_eq_none]
      intro e he
      rw [hf e he];simp
    rw [this];rfl
  | some i =>
    obtain ⟨hi,hp,_⟩:=List.findIdx?_eq_some_iff_getElem.1 hf
    have:(l.find? p).isSome=true:=by rw [List.find?_isSome];exact ⟨_,List.getElem_mem hi,hp⟩
    rw [this]
    exact decide_eq_true (by dsimp only;omega)
theorem May_R (hE:q196_In E) {n k:Nat} {h:AHeap} {x:Cell} {bs pc:List Cell} {V:MV} (a:RvAt n h k x bs pc V) (f:V.Fit) (hg:V.P.good) (i:Int) :
    R E 196 [.c (.ptr k 37 0),.c (.int .i64 i)] h=some ([.c (.bool (mayI V i))],h):=by
  refine R_intro hE.fn ?_
  have hpc:=a.prog.len
  have hl:=rv_len (x:=x) f hpc a.bl
  have rd:∀{α:Type} {F:List Cell→Option α},rdH h k 37 F=F (rvC pc V bs x):=fun {α F}=>rdH_ok a.blk hl
  have p:=prog_at a.prog a.hn (Kp.refl n h)
  rw [q196_eq,scK_and]
  by_cases h4:0≤i∧i<4
  · obtain ⟨t,rfl⟩:=Int.eq_ofNat_of_zero_le h4.1
    have ht:t<4:=by omega
    have hr:0≤(t:Int)∧(t:Int)<((4:Nat):Int):=⟨by omega,by omega⟩
    have hql:=MV.l_at (V:=V) (t:=t) (by rw [f.lc];exact ht)
    have o:=(a.bf t ht).1.at
    rw [if_pos (by simp;omega),rd,if_pos (by rw [hl];omega),if_pos hr,rd,Int.toNat_natCast,if_pos (by rw [hl];omega),rv_prog hpc,rv_lcl f hpc hql,refNext_R hE.c81 hg p,qh_ok,c2_ok,asA_ok,asB_ok,if_pos (by exact ⟨rfl,rfl,rfl⟩)]
    simp only [ins_kind,asI_ok,scK_and,rd,if_pos hr,rv_buf f hpc a.bl ht,o.len,scK_or]
    rw [mayI_nat]
    have hT:V.may t=match nextI (V.P.code t) (V.l t) with | none=>false | some i=>!(i.kind==3||i.kind==4)||(V.b t).length==0:=by
      unfold MV.may;rw [if_pos ht];rfl
    rw [hT]
    cases hn:nextI (V.P.code t) (V.l t) with
    | none=>rfl
    | some q =>
      dsimp only [Option.getD_some,Option.isSome_some]
      have e:((((V.b t).length:Nat):Int)==0)=((V.b t).length==0):=by rw [Bool.eq_iff_iff,beq_iff_eq,beq_iff_eq];omega
      rw [e,Bool.true_and]
      have:(q.kind != 3&&q.kind != 4)=!(q.kind==3||q.kind==4):=by cases h3:(q.kind==3)<;>cases h4:(q.kind==4)<;>simp [bne,h3,h4]
      rw [this]
  · rw [if_neg (by simp;omega),refFlush_R hE.c197 a f,c3_ok,asI_ok,asI_ok,asB_ok]
    unfold fluOf
    by_cases h2:V.m=2∧4≤i∧i<8
    · rw [if_pos h2]
      obtain ⟨t,rfl⟩:=Int.eq_ofNat_of_zero_le (show 0≤i by omega)
      dsimp only
      rw [scK_ok,show ((t:Int) - 4)=((t - 4:Nat):Int) by omega,oldest_R' hE.c198 a f (by omega) (-1) (oldP 2 0) (fun e=>rfl),c1_ok,asI_ok,findIdx_some,bind_ok]
      dsimp only
      rw [mayI_nat]
      congr 4
      unfold MV.may MV.mayF
      rw [if_neg (by omega),if_pos (by omega),h2.1]
      cases V.b (t - 4) with
      | nil=>rfl
      | cons e l=>rfl
    · rw [if_neg h2]
      by_cases h3:V.m=3∧8≤i∧i<24
      · rw [if_pos h3]
        obtain ⟨t,rfl⟩:=Int.eq_ofNat_of_zero_le (show 0≤i by omega)
        dsimp only
        rw [scK_ok,show (((t:Int) - 8) / 4)=(((t - 8) / 4:Nat):Int) by omega,show (((t:Int) - 8) % 4)=(((t - 8) % 4:Nat):Int) by omega,oldest_R' hE.c198 a f (by omega) _ (oldP 3 (((t - 8) % 4:Nat):Int)) (fun e=>by rw [decide_eq_false (by omega)];rfl),c1_ok,asI_ok,findIdx_some,bind_ok]
        dsimp only
        rw [mayI_nat]
        congr 4
        unfold MV.may MV.mayL
        rw [if_neg (by omega),if_neg (by omega),if_pos (by omega),h3.1]
        rfl
      · rw [if_neg h3]
        dsimp only
        rw [scK_ft]
        congr 4
        unfold mayI
        by_cases h0:0≤i
        · rw [decide_eq_true h0,Bool.true_and]
          have hm:=f.m
          unfold MV.may MV.mayF MV.mayL
          rw [if_neg (by omega)]
          by_cases h8:i.toNat<8
          · rw [if_pos h8,beq_false_of_ne (by omega)];rfl
          · rw [if_neg h8]
            by_cases h24:i.toNat<24
            · rw [if_pos h24,beq_false_of_ne (by omega)];rfl
            · rw [if_neg h24]
        · rw [decide_eq_false h0];rfl
end
end Jq

namespace Jq
open Go
theorem ents_at {l:List Ent} {i:Nat} {e:Ent} (h:l[i]? = some e):((entsC l).drop (i*3)).take 3=e.cs:=by
  unfold entsC
  rw [flat_split h]
  exact seg_get (take_flat_len (f:=Ent.cs) (n:=3) (fun _ _=>rfl) (Nat.le_of_lt (getI_lt h))) rfl
theorem rd0G {α:Type} {h:AHeap} {k N:Nat} {l:List Cell} (hb:blk? h k=some ⟨true,0,l⟩) (hl:l.length=N) {F:List Cell→Option α}:rd0 h k N F=F l:=by
  unfold rd0
  rw [hb,Option.bind_some,if_pos rfl]
  exact rdH_ok hb hl
theorem Own.via {n:Nat} {h h':AHeap} {y:Cell} {esz len:Nat} {cs:List Cell} (o:Own n h y esz cs len) (hf:∀j b,isBlk y j→blk? h j=some b→blk? h' j=some b):Own n h' y esz cs len:=by
  refine ⟨o.1,o.2.imp id ?_⟩
  rintro ⟨j,rfl,h1,h2⟩
  exact ⟨j,rfl,h1,hf j _ rfl h2⟩
theorem flu_data {V:MV} {i:Nat} (h4:¬i<4) (hi:V.may i=true):∃(t:Nat) (loc:Int) (p:Ent→Bool) (e:Ent),t<4∧(∀e,(decide (loc<0)||e.loc==loc)=p e)∧fluOf V.m i=((t:Int),loc,true)∧(V.b t).find? p=some e∧V.stp i=⟨i,t,6,e.loc,0,e.val,e.id⟩ ∧
    (V.nx i)={ V with bf:=V.bf.set t ((V.b t).eraseP p),mem:=V.mem.set e.loc.toNat e.val,frm:=V.frm.set e.loc.toNat e.id,st:=V.st++[V.stp i] }:=by
  have h24:=MV.may_lt hi
  have key:∀(t:Nat) (loc:Int) (e:Ent),(V.b t).find? (oldP (bmod V.m) loc)=some e→V.stp i={ V.fluS t loc with pick:=i }→V.nx i={ V.fluM t loc with st:=V.st++[V.stp i] } →
      V.stp i=⟨i,t,6,e.loc,0,e.val,e.id⟩∧(V.nx i)={ V with bf:=V.bf.set t ((V.b t).eraseP (oldP (bmod V.m) loc)),mem:=V.mem.set e.loc.toNat e.val,frm:=V.frm.set e.loc.toNat e.id,st:=V.st++[V.stp i] }:=by
    intro t loc e he e1 e2
    have hee:V.fluE t loc=e:=by unfold MV.fluE;rw [he];rfl
    refine ⟨?_,?_⟩
    · rw [e1];unfold MV.fluS;rw [hee]
    · rw [e2];unfold MV.fluM;rw [hee]
  by_cases h8:i<8
  · have hi':=hi
    unfold MV.may MV.mayF at hi'
    rw [if_neg h4,if_pos h8,Bool.and_eq_true] at hi'
    have hm2:V.m=2:=beq_iff_eq.1 hi'.1
    have hne:(V.b (i - 4)).length≠0:=by simpa using hi'.2
    obtain ⟨e,he⟩:∃e,(V.b (i - 4)).find? (oldP (bmod V.m) 0)=some e:=by
      rw [hm2]
      cases hbb:V.b (i - 4) with
      | nil=>rw [hbb] at hne;exact absurd rfl hne
      | cons e l=>exact ⟨e,rfl⟩
    obtain ⟨k1,k2⟩:=key (i - 4) 0 e he (by unfold MV.stp;rw [if_neg h4,if_pos h8]) (by unfold MV.nx;rw [if_neg h4,if_pos h8])
    refine ⟨i - 4,-1,oldP (bmod V.m) 0,e,by omega,fun e=>by rw [hm2];rfl,?_,he,k1,k2⟩
    unfold fluOf
    rw [if_pos ⟨hm2,by omega,by omega⟩,show ((i:Int) - 4)=((i - 4:Nat):Int) by omega]
  · have hi':=hi
    unfold MV.may MV.mayL at hi'
    rw [if_neg h4,if_neg h8,if_pos h24,Bool.and_eq_true] at hi'
    have hm3:V.m=3:=beq_iff_eq.1 hi'.1
    obtain ⟨e,he⟩:=Option.isSome_iff_exists.1 hi'.2
    have he':(V.b ((i - 8) / 4)).find? (oldP (bmod V.m) (((i - 8) % 4:Nat):Int))=some e:=by rw [hm3];exact he
    obtain ⟨k1,k2⟩:=key ((i - 8) / 4) _ e he' (by unfold MV.stp;rw [if_neg h4,if_neg h8]) (by unfold MV.nx;rw [if_neg h4,if_neg h8])
    refine ⟨(i - 8) / 4,(((i - 8) % 4:Nat):Int),_,e,by omega,fun e=>?_,?_,he',k1,k2⟩
    · rw [decide_eq_false (by omega),hm3];rfl
    · unfold fluOf
      rw [if_neg (by omega),if_pos ⟨hm3,by omega,by omega⟩,show (((i:Int) - 8) / 4)=(((i - 8) / 4:Nat):Int) by omega,show (((i:Int) - 8) % 4)=(((i - 8) % 4:Nat):Int) by omega]
theorem eraseP_idx {l:List Ent} {p:Ent→Bool} {e:Ent} (he:l.find? p=some e):∃j,l.findIdx? p=some j∧l[j]? = some e∧l.eraseP p=l.take j++l.drop (j+1):=by
  obtain ⟨j,hj⟩:∃j,l.findIdx? p=some j:=by
    cases hx:l.findIdx? p with
    | some j=>exact ⟨j,rfl⟩
    | none =>
      rw [List.findIdx?_eq_none_iff] at hx
      have:=hx e (List.mem_of_find?_eq_some he)
      rw [List.find?_some he] at this;cases this
  obtain ⟨h1,h2,h3⟩:=List.findIdx?_eq_some_iff_getElem.1 hj
  have hfi:l.find? p=some l[j]:=by
    rw [List.find?_eq_some_iff_getElem]
    exact ⟨h2,j,h1,rfl,fun k hk=>by have:=h3 k hk;simpa using this⟩
  rw [hfi] at he
  refine ⟨j,hj,by rw [List.getElem?_eq_getElem h1];exact he,?_⟩
  rw [List.eraseP_eq_eraseIdx,hj]
  exact List.eraseIdx_eq_take_drop_succ _ _
section
variable {E:Env}
theorem rv_push {n k:Nat} {h:AHeap} {x:Cell} {bs pc:List Cell} {W:MV} (b:blk? h k=some ⟨true,0,rvC pc W bs x⟩) (f:W.Fit) (hpc:pc.length=3) (bl:bs.length=4) (hn:n≤h.length) (nk:n≤k) (prog:ProgAt (h.take n) pc W.P) (st:Own n h x 7 (stepsC W.st) W.st.length) (sep:¬isBlk x k)
    (bf:∀t,t<4→Own n h (bs.getD t .nils) 3 (entsC (W.b t)) (W.b t).length∧¬isBlk (bs.getD t .nils) k∧∀j,isBlk (bs.getD t .nils) j→¬isBlk x j) (hst:W.st.length<100000) (s:Stp) :
    ∃x' h',(∀{α:Type} (F:AHeap→Option α),(appK 7 56 x s.cs h fun x_57 h_58=>rdH h_58 k 37 fun l_59=>if (0+36)<l_59.length then putH h_58 k (l_59.set (0+36) x_57) F else none)=F h') ∧
      RvAt n h' k x' bs pc { W with st:=W.st++[s] }∧Kp n h h'∧(∀j b,blk? h j=some b→j≠k→¬isBlk x j→blk? h' j=some b∧¬isBlk x' j):=by
  have hb:maxBytes≥200000*56:=by unfold maxBytes;omega
  obtain ⟨x',h',e1,o1,k1,r1⟩:=st.app (bytes:=56) hn (stp_len s) (by omega) (by omega) (by omega)
  obtain ⟨c1,c2⟩:=r1 k _ b sep
  have hl:=rv_len (x:=x) f hpc bl
  have kp2:Kp n h (setBlk h' k (some ⟨true,0,rvC pc W bs x'⟩)):=k1.trans (Kp.set nk _)
  have fr:∀j b,blk? h j=some b→j≠k→¬isBlk x j→blk? (setBlk h' k (some ⟨true,0,rvC pc W bs x'⟩)) j=some b∧¬isBlk x' j:=fun j b hj hne hnx=>by
    obtain ⟨d1,d2⟩:=r1 j b hj hnx
    exact ⟨by rw [blk_set_ne (fun e=>hne e.symm)];exact d1,d2⟩
  refine ⟨x',setBlk h' k (some ⟨true,0,rvC pc W bs x'⟩),fun F=>?_,⟨Nat.le_trans hn kp2.1,nk,?_,blk_set_self (blk_lt' c1) _,?_,c2,bl,fun t ht=>?_⟩,kp2,fr⟩
  · rw [e1,rdH_ok c1 hl,if_pos (by rw [hl];omega),rv_setX f hpc bl,putB c1]
  · rw [take_keep kp2];exact prog
  · show Own n _ x' 7 (stepsC (W.st++[s])) (W.st++[s]).length
    rw [stepsC_snoc,List.length_append,List.length_singleton]
    exact o1.setO c2 _
  · obtain ⟨b1,b2,b3⟩:=bf t ht
    have hj:∀j b,isBlk (bs.getD t .nils) j→blk? h j=some b→blk? (setBlk h' k (some ⟨true,0,rvC pc W bs x'⟩)) j=some b∧¬isBlk x' j:=fun j b q1 q2=>fr j b q2 (fun e=>b2 (e ▸ q1)) (b3 j q1)
    refine ⟨b1.via fun j b q1 q2=>(hj j b q1 q2).1,b2,fun j q=>?_⟩
    obtain ⟨_,hlt⟩:=b1.blkLt' q
    rcases b1.2 with ⟨e,_⟩ | ⟨j',e,_,hbb⟩
    · rw [e] at q;exact absurd q (by simp [isBlk])
    · have:j'=j:=by rw [e] at q;exact q
      subst this
      exact (hj j' _ q hbb).2
set_option maxHeartbeats 2000000 in
theorem rFlush (hE:q182_In E) {n k:Nat} {h:AHeap} {x:Cell} {bs pc:List Cell} {V:MV} (a:RvAt n h k x bs pc V) (v:V.Inv) (hst:V.st.length<100000) {i:Int} {t:Nat} (ht:t<4) {loc:Int} {p:Ent→Bool} {e:Ent}
    (hp:∀e,(decide (loc<0)||e.loc==loc)=p e) (hf:(V.b t).find? p=some e) (z:List Cell) (hz:z.length=7) :
    ∃x' bs' h',(q182_k6 (R E) Lim E.glob) .normal (q182_c5 k 37 0 i V.st.length (t:Int) loc true z (Stp.cs ⟨i,i,0,0,0,0,-1⟩) h)=some (.ret,q182_c4_0 true (Stp.cs ⟨i,t,6,e.loc,0,e.val,e.id⟩) h') ∧
      RvAt n h' k x' bs' pc { V with bf:=V.bf.set t ((V.b t).eraseP p),mem:=V.mem.set e.loc.toNat e.val,frm:=V.frm.set e.loc.toNat e.id,st:=V.st++[⟨i,t,6,e.loc,0,e.val,e.id⟩] }∧KpV n k x x' h h':=by
  have f:=v.fit
  have hpc:=a.prog.len
  have hl:=rv_len (x:=x) f hpc a.bl
  have hr:0≤(t:Int)∧(t:Int)<((4:Nat):Int):=⟨by omega,by omega⟩
  have hk:k<h.length:=blk_lt' a.blk
  have hbl:=v.blen ht
  obtain ⟨j,hj,hje,her⟩:=eraseP_idx hf
  have hjl:=getI_lt hje
  have hel:=v.mem_b (List.mem_of_getElem? hje)
  have hel':0≤e.loc∧e.loc<((4:Nat):Int):=⟨hel.1,by omega⟩
  have he4:e.loc.toNat<4:=by omega
  have hM:maxBytes≥1000*24:=by unfold maxBytes;omega
  obtain ⟨b1,b2,b3⟩:=a.bf t ht
  have kA:Kp h.length h (h++[some ⟨true,3,([]:List Cell)⟩]):=Kp.app _ (Nat.le_refl _)
  obtain ⟨⟨xa,ea1,ea2⟩,_⟩:=(b1.keepK kA).slc (by omega) (a:=j) (by omega)
  have tk:=ents_take (V.b t) j
  rw [Nat.min_eq_left (by omega)] at tk
  rw [tk.1] at ea2
  have lenA:(entsC ((V.b t).take j)).length=j*3:=by rw [entsC_len,List.length_take,Nat.min_eq_left (by omega)]
  have kB:Kp h.length h (h++[some ⟨true,3,entsC ((V.b t).take j)⟩]):=Kp.app _ (Nat.le_refl _)
  have oB:Own h.length (h++[some ⟨true,3,entsC ((V.b t).take j)⟩]) (.sl h.length (entsC ((V.b t).take j)).length 0 j) 3 (entsC ((V.b t).take j)) j:=⟨lenA,.inr ⟨h.length,rfl,Nat.le_refl _,blk_new _ _⟩⟩
  obtain ⟨_,⟨xb,eb1,eb2⟩⟩:=(b1.keepK kB).slc (by omega) (a:=j+1) (by omega)
  have tk2:=ents_take (V.b t) (j+1)
  rw [Nat.min_eq_left (by omega)] at tk2
  rw [tk2.2] at eb2
  have lenB:(entsC ((V.b t).drop (j+1))).length=((V.b t).length - (j+1))*3:=by rw [entsC_len,List.length_drop]
  obtain ⟨x3,h3,e3,o3,k3,_⟩:=oB.appN (bytes:=24) (by simp) lenB (by omega) (by omega) (by omega)
  have kC:Kp h.length h h3:=kB.trans k3
  have nl:((V.b t).eraseP p).length=j+((V.b t).length - (j+1)):=by rw [her,List.length_append,List.length_take,List.length_drop,Nat.min_eq_left (by omega)]
  have o3':Own h.length h3 x3 3 (entsC ((V.b t).eraseP p)) ((V.b t).eraseP p).length:=by rw [nl,her,entsC_append];exact o3
  have bk3:blk? h3 k=some ⟨true,0,rvC pc V bs x⟩:=by rw [kC.blk hk];exact a.blk
  have bl':(bs.set t x3).length=4:=by rw [List.length_set];exact a.bl
  have el24:((V.b t).eraseP p).length≤24:=by omega
  have f1:MV.Fit { V with bf:=V.bf.set t ((V.b t).eraseP p) }:=⟨f.m,f.lc,f.mem,f.frm,by rw [List.length_set];exact f.bf,fun l hl=>by
    rcases List.mem_or_eq_of_mem_set hl with hl | rfl
    · exact f.b l hl
    · exact el24⟩
  have f2:MV.Fit { V with bf:=V.bf.set t ((V.b t).eraseP p),mem:=V.mem.set e.loc.toNat e.val }:=⟨f1.m,f1.lc,by rw [List.length_set];exact f1.mem,f1.frm,f1.bf,f1.b⟩
  have f3:MV.Fit { V with bf:=V.bf.set t ((V.b t).eraseP p),mem:=V.mem.set e.loc.toNat e.val,frm:=V.frm.set e.loc.toNat e.id }:=⟨f2.m,f2.lc,f2.mem,by rw [List.length_set];exact f2.frm,f2.bf,f2.b⟩
  have hbW:∀(t':Nat),(MV.mk V.P V.m V.lc (V.mem.set e.loc.toNat e.val) (V.frm.set e.loc.toNat e.id) (V.bf.set t ((V.b t).eraseP p)) V.st).b t'=if t'=t then (V.b t).eraseP p else V.b t':=fun t'=>by
    show (V.bf.set t _).getD t' []=_
    rw [getDset (by rw [f.bf];exact ht)];rfl
  have k3l:k<h3.length:=blk_lt' bk3
  have bw:∀l,blk? (setBlk h3 k (some ⟨true,0,l⟩)) k=some ⟨true,0,l⟩:=fun l=>blk_set_self k3l _
  have kD:∀b,Kp n h (setBlk h3 k b):=fun b=>(kC.mono a.hn).trans (Kp.set a.nk b)
  have xlt:∀j,isBlk x j→j<h.length:=fun j q=>(a.st.blkLt' q).2
  obtain ⟨x',h',e9,r9,k9,fr9⟩:=rv_push (W:={ V with bf:=V.bf.set t ((V.b t).eraseP p),mem:=V.mem.set e.loc.toNat e.val,frm:=V.frm.set e.loc.toNat e.id }) (bs:=bs.set t x3) (bw _) f3 hpc bl' (Nat.le_trans a.hn (kD _).1) a.nk (by rw [take_keep (kD _)];exact a.prog)
    ((a.st.keepK kC).setO a.sep _) a.sep (fun t' ht'=>by
      rw [hbW,getDset (by rw [a.bl];exact ht)]
      by_cases e:t'=t
      · rw [if_pos e,if_pos e]
        have nk3:¬isBlk x3 k:=fun q=>by have:=(o3.blkLt q).2;omega
        exact ⟨(o3'.monoN a.hn).setO nk3 _,nk3,fun j q1 q2=>by have:=(o3.blkLt q1).2;have:=xlt j q2;omega⟩
      · rw [if_neg e,if_neg e]
        obtain ⟨q1,q2,q3⟩:=a.bf t' ht'
        exact ⟨(q1.keepK kC).setO q2 _,q2,q3⟩) hst ⟨i,t,6,e.loc,0,e.val,e.id⟩
  refine ⟨x',bs.set t x3,h',?_,r9,⟨(kD _).trans k9,fun j b hj hne hnx=>fr9 j b (by rw [blk_set_ne (fun e=>hne e.symm),kC.blk (blk_lt' hj)];exact hj) hne hnx⟩⟩
  have rd:∀{α:Type} {F:List Cell→Option α},rdH h k 37 F=F (rvC pc V bs x):=fun {α F}=>rdH_ok a.blk hl
  have bA:blk? (h++[some ⟨true,3,([]:List Cell)⟩]) k=some ⟨true,0,rvC pc V bs x⟩:=blk_old a.blk _
  have bB:blk? (h++[some ⟨true,3,entsC ((V.b t).take j)⟩]) k=some ⟨true,0,rvC pc V bs x⟩:=blk_old a.blk _
  have rdW:∀(W:MV) (fW:W.Fit) {α:Type} {F:List Cell→Option α},rdH (setBlk h3 k (some ⟨true,0,rvC pc W (bs.set t x3) x⟩)) k 37 F=F (rvC pc W (bs.set t x3) x):=fun W fW {α F}=>rdH_ok (bw _) (rv_len (x:=x) fW hpc bl')
  obtain ⟨off,cs',g1,g2,g3⟩:=b1.at.elG hjl
  rw [ents_at hje] at g3
  have ca0:∀{α:Type} {g:Cell→Option α},atK e.cs 0 g=g (.int .i64 e.loc):=rfl
  have ca1:∀{α:Type} {g:Cell→Option α},atK e.cs 1 g=g (.int .i64 e.val):=rfl
  have ca2:∀{α:Type} {g:Cell→Option α},atK e.cs 2 g=g (.int .i64 e.id):=rfl
  rw [q182_ec5_n,if_pos rfl,oldest_R' hE.c198 a f ht loc p hp,c1_ok,asI_ok,hj,bind_ok]
  dsimp only
  rw [q182_ec6_n,if_pos hr,rd,Int.toNat_natCast,rv_buf f hpc a.bl ht,g1,if_pos g2,g3,if_pos (by exact ⟨rfl,rfl,rfl⟩),bind_ok]
  dsimp only
  rw [q182_ec7_n,if_pos (by rfl),if_pos hr,Int.toNat_natCast,rd0G bA hl,rv_buf f hpc a.bl ht,ea1,ea2,bind_ok,show ([]:List Cell).length=0 from rfl,app_emptyG (len:=j) (by omega) lenA (by omega) (by omega),if_pos hr,rd0G bB hl,rv_buf f hpc a.bl ht,g_succ (by omega),eb1,eb2,bind_ok,e3,if_pos hr,rdH_ok bk3 hl,if_pos (by rw [hl];omega),rv_setB f hpc a.bl ht,putB bk3,bind_ok]
  dsimp only
  rw [q182_ec8_n,ca0,asI_ok,ca0,asI_ok,ca1,asI_ok,ca2,asI_ok]
  have e1:rvC pc V (bs.set t x3) x=rvC pc { V with bf:=V.bf.set t ((V.b t).eraseP p) } (bs.set t x3) x:=rfl
  rw [e1,if_pos hel',rdW _ f1,if_pos (by rw [rv_len (x:=x) f1 hpc bl'];omega),rv_setM f1 hpc he4,putB (bw _),setBlk_set,if_pos hel',rdW _ f2,if_pos (by rw [rv_len (x:=x) f2 hpc bl'];omega),rv_setF f2 hpc he4,putB (bw _),setBlk_set,bind_ok]
  dsimp only
  rw [q182_ec9_n,ca0,asI_ok,ca1,asI_ok,ca2,asI_ok,if_pos (by exact (by decide:1<7)),if_pos (by exact (by decide:2<7)),if_pos (by exact (by decide:3<7)),if_pos (by exact (by decide:5<7)),if_pos (by exact (by decide:6<7)),bind_ok]
  dsimp only
  have eS:((((((Stp.cs ⟨i,i,0,0,0,0,-1⟩).set 1 (.int .i64 (t:Int))).set 2 (.int .i64 6)).set 3 (.int .i64 e.loc)).set 5 (.int .i64 e.val)).set 6 (.int .i64 e.id))=Stp.cs ⟨i,t,6,e.loc,0,e.val,e.id⟩:=rfl
  have s7':∀s:Stp,splice (List.replicate 7 (Cell.int .i64 0)) 0 s.cs=s.cs:=fun _=>rfl
  rw [eS,q182_ec10_n,rdW _ f3,rv_steps f3 hpc bl',if_pos (by exact ⟨rfl,rfl⟩),if_pos (by exact ⟨rfl,by decide⟩),s7',if_pos (by exact rfl),e9,if_pos (by exact ⟨rfl,rfl⟩),if_pos (by exact ⟨rfl,hz,rfl⟩)]
end
end Jq

namespace Jq
open Go
theorem wr_fit {V:MV} (v:V.Inv) {i:Nat} (e:Evt) (hb:(V.b i).length<24):(V.wr i e).Fit:=by
  have f:=v.fit
  unfold MV.wr
  split
  · refine ⟨f.m,f.lc,f.mem,f.frm,by rw [List.length_set];exact f.bf,fun l hl=>?_⟩
    rcases List.mem_or_eq_of_mem_set hl with hl | rfl
    · exact f.b l hl
    · rw [List.length_append,List.length_singleton];omega
  · split
    · exact ⟨f.m,f.lc,by rw [List.length_set];exact f.mem,by rw [List.length_set];exact f.frm,f.bf,f.b⟩
    · exact f
section
variable {E:Env}
set_option maxHeartbeats 1000000 in
theorem rWrite {n k:Nat} {h:AHeap} {x:Cell} {bs pc:List Cell} {V:MV} (a:RvAt n h k x bs pc V) (v:V.Inv) {i:Nat} (hi:i<4) (hb:(V.b i).length<24) (e:Evt) (he:0≤e.loc∧e.loc<4) (he45:e.kind=2∨e.kind=4∨evWr e=false) (a15:Int) (z s1:List Cell) :
    ∃bs' h',(q182_k25 (R E) Lim E.glob) .normal (q182_c20 k 37 0 (i:Int) V.st.length a15 (e.kind==4||(e.kind==2&&V.m==1)) z s1 e.cs h)=some (.normal,q182_c19 k 37 0 (i:Int) a15 z s1 h') ∧
      blk? h' k=some ⟨true,0,rvC pc (V.wr i e) bs' x⟩∧bs'.length=4∧(∀t,t<4→Own n h' (bs'.getD t .nils) 3 (entsC ((V.wr i e).b t)) ((V.wr i e).b t).length∧¬isBlk (bs'.getD t .nils) k∧∀j,isBlk (bs'.getD t .nils) j→¬isBlk x j) ∧
      Kp n h h'∧(∀j b,blk? h j=some b→j≠k→blk? h' j=some b):=by
  have f:=v.fit
  have hpc:=a.prog.len
  have hl:=rv_len (x:=x) f hpc a.bl
  have hr:0≤(i:Int)∧(i:Int)<((4:Nat):Int):=⟨by omega,by omega⟩
  have hk:k<h.length:=blk_lt' a.blk
  have hel':0≤e.loc∧e.loc<((4:Nat):Int):=⟨he.1,by omega⟩
  have he4:e.loc.toNat<4:=by omega
  have hM:maxBytes≥1000*24:=by unfold maxBytes;omega
  have rd:∀{α:Type} {F:List Cell→Option α},rdH h k 37 F=F (rvC pc V bs x):=fun {α F}=>rdH_ok a.blk hl
  have bw:∀l,blk? (setBlk h k (some ⟨true,0,l⟩)) k=some ⟨true,0,l⟩:=fun l=>blk_set_self hk _
  have xlt:∀j,isBlk x j→j<h.length:=fun j q=>(a.st.blkLt' q).2
  rw [q182_ec20_n]
  by_cases hmem:e.kind=4∨(e.kind=2∧V.m=1)
  · rw [if_pos (by rw [Bool.or_eq_true,Bool.and_eq_true,beq_iff_eq,beq_iff_eq,beq_iff_eq];exact hmem)]
    have hw:V.wr i e={ V with mem:=V.mem.set e.loc.toNat e.w,frm:=V.frm.set e.loc.toNat V.st.length }:=by
      unfold MV.wr
      rw [if_neg (by omega),if_pos (by unfold evWr;rw [Bool.or_eq_true,beq_iff_eq,beq_iff_eq];omega)]
    rw [hw]
    have f1:MV.Fit { V with mem:=V.mem.set e.loc.toNat e.w }:=⟨f.m,f.lc,by rw [List.length_set];exact f.mem,f.frm,f.bf,f.b⟩
    have rd1:∀{α:Type} {F:List Cell→Option α},rdH (setBlk h k (some ⟨true,0,rvC pc { V with mem:=V.mem.set e.loc.toNat e.w } bs x⟩)) k 37 F=F (rvC pc { V with mem:=V.mem.set e.loc.toNat e.w } bs x):=fun {α F}=>rdH_ok (bw _) (rv_len (x:=x) f1 hpc a.bl)
    refine ⟨bs,setBlk h k (some ⟨true,0,rvC pc { V with mem:=V.mem.set e.loc.toNat e.w,frm:=V.frm.set e.loc.toNat V.st.length } bs x⟩),?_,bw _,a.bl,fun t ht=>?_,Kp.set a.nk _,fun j b hj hne=>by rw [blk_set_ne (fun e=>hne e.symm)];exact hj⟩
    · rw [evt_loc,asI_ok,evt_loc,asI_ok,evt_w,asI_ok,if_pos hel',rd,if_pos (by rw [hl];omega),rv_setM f hpc he4,putB a.blk,if_pos hel',rd1,if_pos (by rw [rv_len (x:=x) f1 hpc a.bl];omega),rv_setF f1 hpc he4,putB (bw _),setBlk_set]
    · obtain ⟨q1,q2,q3⟩:=a.bf t ht
      exact ⟨q1.setO q2 _,q2,q3⟩
  · rw [if_neg (by rw [Bool.or_eq_true,Bool.and_eq_true,beq_iff_eq,beq_iff_eq,beq_iff_eq];exact hmem),evt_kind,asI_ok,bind_ok]
    dsimp only
    rw [q182_ec21_n]
    by_cases h2:e.kind=2
    · have hm1:V.m≠1:=fun q=>hmem (.inr ⟨h2,q⟩)
      have hw:V.wr i e={ V with bf:=V.bf.set i (V.b i++[⟨e.loc,e.w,V.st.length⟩]) }:=by
        unfold MV.wr
        rw [if_pos ⟨h2,hm1⟩]
      rw [hw]
      obtain ⟨b1,b2,b3⟩:=a.bf i hi
      have kA:Kp h.length h (h++[some ⟨true,3,([]:List Cell)⟩]):=Kp.app _ (Nat.le_refl _)
      have cl:=(b1.keepK kA).at.cellsG
      have lenA:(entsC (V.b i)).length=(V.b i).length*3:=entsC_len _
      have oB:Own h.length (h++[some ⟨true,3,entsC (V.b i)⟩]) (.sl h.length (entsC (V.b i)).length 0 (V.b i).length) 3 (entsC (V.b i)) (V.b i).length:=⟨lenA,.inr ⟨h.length,rfl,Nat.le_refl _,blk_new _ _⟩⟩
      have kB:Kp h.length h (h++[some ⟨true,3,entsC (V.b i)⟩]):=Kp.app _ (Nat.le_refl _)
      obtain ⟨x3,h3,e3,o3,k3,_⟩:=oB.app (bytes:=24) (xs:=Ent.cs ⟨e.loc,e.w,V.st.length⟩) (by simp) rfl (by omega) (by omega) (by omega)
      have kC:Kp h.length h h3:=kB.trans k3
      have o3':Own h.length h3 x3 3 (entsC (V.b i++[⟨e.loc,e.w,V.st.length⟩])) (V.b i++[(⟨e.loc,e.w,V.st.length⟩:Ent)]).length:=by
        rw [entsC_append,List.length_append,List.length_singleton];exact o3
      have bk3:blk? h3 k=some ⟨true,0,rvC pc V bs x⟩:=by rw [kC.blk hk];exact a.blk
      have k3l:k<h3.length:=blk_lt' bk3
      have bA:blk? (h++[some ⟨true,3,([]:List Cell)⟩]) k=some ⟨true,0,rvC pc V bs x⟩:=blk_old a.blk _
      have nk3:¬isBlk x3 k:=fun q=>by have:=(o3.blkLt q).2;omega
      refine ⟨bs.set i x3,setBlk h3 k (some ⟨true,0,rvC pc V (bs.set i x3) x⟩),?_,blk_set_self k3l _,by rw [List.length_set];exact a.bl,fun t ht=>?_,(kC.mono a.hn).trans (Kp.set a.nk _),fun j b hj hne=>by rw [blk_set_ne (fun e=>hne e.symm),kC.blk (blk_lt' hj)];exact hj⟩
      · rw [if_pos (by rw [beq_iff_eq];exact h2),if_pos (by rfl),if_pos hr,rd0G bA hl,Int.toNat_natCast,rv_buf f hpc a.bl hi,cl,bind_ok,show ([]:List Cell).length=0 from rfl,app_emptyG (len:=(V.b i).length) (by omega) lenA (by omega) (by omega),evt_loc,asI_ok,evt_w,asI_ok,if_pos (by exact ⟨rfl,by decide⟩),if_pos (by rfl)]
        have eE:splice [Cell.int .i64 0,Cell.int .i64 0,Cell.int .i64 0] 0 (splice (splice (splice [Cell.int .i64 0,Cell.int .i64 0,Cell.int .i64 0] 0 ([(.int .i64 e.loc)]:List Cell)) 1 ([(.int .i64 e.w)]:List Cell)) 2 ([(.int .i64 (V.st.length:Int))]:List Cell))=Ent.cs ⟨e.loc,e.w,V.st.length⟩:=rfl
        rw [eE,e3,if_pos hr,rdH_ok bk3 hl,if_pos (by rw [hl];omega),rv_setB f hpc a.bl hi,putB bk3]
      · have hbW:(MV.mk V.P V.m V.lc V.mem V.frm (V.bf.set i (V.b i++[⟨e.loc,e.w,V.st.length⟩])) V.st).b t=if t=i then V.b i++[⟨e.loc,e.w,V.st.length⟩] else V.b t:=by
          show (V.bf.set i _).getD t []=_
          rw [getDset (by rw [f.bf];exact hi)];rfl
        rw [hbW,getDset (by rw [a.bl];exact hi)]
        by_cases q:t=i
        · rw [if_pos q,if_pos q]
          exact ⟨(o3'.monoN a.hn).setO nk3 _,nk3,fun j q1 q2=>by have:=(o3.blkLt q1).2;have:=xlt j q2;omega⟩
        · rw [if_neg q,if_neg q]
          obtain ⟨q1,q2,q3⟩:=a.bf t ht
          exact ⟨(q1.keepK kC).setO q2 _,q2,q3⟩
    · have hw:V.wr i e=V:=by
        unfold MV.wr
        have:evWr e=false:=by
          rcases he45 with q | q | q
          · exact absurd q h2
          · exact absurd (.inl q) hmem
          · exact q
        rw [if_neg (fun c=>h2 c.1),this];rfl
      rw [hw]
      exact ⟨bs,h,by rw [if_neg (by rw [beq_iff_eq];exact h2)],a.blk,a.bl,a.bf,Kp.refl _ _,fun j b hj _=>hj⟩
theorem rRead {n k:Nat} {h:AHeap} {x:Cell} {bs pc:List Cell} {V:MV} (a:RvAt n h k x bs pc V) (f:V.Fit) {i:Nat} (hi:i<4) {q:Ins} (hq:0≤q.loc∧q.loc<4) (n6:Int) (z:List Cell) :
    (q182_k14 (R E) Lim E.glob) .normal (q182_c13 k 37 0 (i:Int) n6 0 (rdI q) z (Stp.cs ⟨i,i,0,0,0,0,-1⟩) q.cs h) =
      some (.normal,q182_c12 k 37 0 (i:Int) n6 (if rdI q=true then (V.val i q).1 else 0) z (Stp.cs ⟨i,i,0,0,0,0,if rdI q=true then (V.val i q).2 else -1⟩) q.cs h):=by
  have hpc:=a.prog.len
  have hl:=rv_len (x:=x) f hpc a.bl
  have hr:0≤(i:Int)∧(i:Int)<((4:Nat):Int):=⟨by omega,by omega⟩
  have rd:∀{α:Type} {F:List Cell→Option α},rdH h k 37 F=F (rvC pc V bs x):=fun {α F}=>rdH_ok a.blk hl
  have hql:0≤q.loc∧q.loc<((4:Nat):Int):=⟨hq.1,by omega⟩
  have hq4:q.loc.toNat<4:=by omega
  have hmem:V.mem[q.loc.toNat]? = some (V.mem.getD q.loc.toNat 0):=by
    rw [List.getD_eq_getElem?_getD,List.getElem?_eq_getElem (by rw [f.mem];exact hq4)];rfl
  have hfrm:V.frm[q.loc.toNat]? = some (V.frm.getD q.loc.toNat 0):=by
    rw [List.getD_eq_getElem?_getD,List.getElem?_eq_getElem (by rw [f.frm];exact hq4)];rfl
  have o:=(a.bf i hi).1.at
  have hbl:(V.b i).length≤24:=f.b _ (List.mem_of_getElem? (MV.b_at (by rw [f.bf];exact hi)))
  rw [q182_ec13_n]
  cases hrd:rdI q with
  | false=>rfl
  | true =>
    rw [if_pos rfl,if_pos rfl,if_pos rfl]
    generalize hg:(fun l:List Ent=>match newE q.loc l with | some e=>(e.val,e.id) | none=>(V.mem.getD q.loc.toNat 0,V.frm.getD q.loc.toNat 0))=g
    have g0:g []=(V.mem.getD q.loc.toNat 0,V.frm.getD q.loc.toNat 0):=by rw [←hg];rfl
    have gs:∀(l:List Ent) (e:Ent),g (l++[e])=if e.loc=q.loc then (e.val,e.id) else g l:=fun l e=>by
      rw [←hg]
      dsimp only
      rw [newE_snoc]
      by_cases c:e.loc=q.loc
      · rw [if_pos c,if_pos c]
      · rw [if_neg c,if_neg c]
    have gv:V.val i q=g (V.b i):=by rw [←hg];rfl
    have lp:Lim (q182_F1 (R E) Lim E.glob) (q182_s1 k 37 0 (i:Int) n6 (g []).1 ((0:Nat):Int) z (Stp.cs ⟨i,i,0,0,0,0,(g []).2⟩) q.cs h)=some (.exit 0,q182_x1_1 k 37 0 (i:Int) n6 (g (V.b i)).1 z (Stp.cs ⟨i,i,0,0,0,0,(g (V.b i)).2⟩) q.cs h):=by
      have lc:=Lim_count (F:=q182_F1 (R E) Lim E.glob) (fun j=>q182_s1 k 37 0 (i:Int) n6 (g ((V.b i).take j)).1 (j:Int) z (Stp.cs ⟨i,i,0,0,0,0,(g ((V.b i).take j)).2⟩) q.cs h) 0 (V.b i).length (by omega) (fun j _ hj=>by
        have he:(V.b i)[j]? = some (V.b i)[j]:=List.getElem?_eq_getElem hj
        generalize (V.b i)[j]=e at he
        rw [takeI_succ he,gs]
        rw [q182_r1,if_pos hr,rd,Int.toNat_natCast,rv_buf f hpc a.bl hi,o.len,if_pos (by simp;omega),bind_ok]
        dsimp only
        rw [q182_ec15_n,if_pos hr,rd,Int.toNat_natCast,rv_buf f hpc a.bl hi,ent_loc o he,asI_ok,ins_loc,asI_ok,bind_ok]
        dsimp only
        rw [q182_ec16_n,g_succ (by omega)]
        by_cases c:e.loc=q.loc
        · rw [if_pos (by rw [beq_iff_eq];exact c),if_pos c,if_pos hr,rd,Int.toNat_natCast,rv_buf f hpc a.bl hi,ent_val o he,asI_ok,if_pos hr,rd,rv_buf f hpc a.bl hi,ent_id o he,asI_ok,if_pos (by exact (by decide:6<7))]
          rfl
        · rw [if_neg (by rw [beq_iff_eq];exact c),if_neg c]) (p:=(.exit 0,q182_x1_1 k 37 0 (i:Int) n6 (g (V.b i)).1 z (Stp.cs ⟨i,i,0,0,0,0,(g (V.b i)).2⟩) q.cs h)) (Lim_exit (by
        rw [q182_r1,if_pos hr,rd,Int.toNat_natCast,rv_buf f hpc a.bl hi,o.len,if_neg (by simp),bind_ok,List.take_of_length_le (Nat.le_refl _)]
        dsimp only
        rw [q182_ec15_1]))
      rw [List.take_zero] at lc
      exact lc
    rw [show ((0:Nat):Int)=0 from rfl,g0] at lp
    rw [ins_loc,asI_ok,if_pos hql,rd,rv_mem f hpc hmem,asI_ok,ins_loc,asI_ok,if_pos hql,rd,rv_frm f hpc hfrm,asI_ok,if_pos (by exact (by decide:6<7)),bind_ok]
    dsimp only
    rw [show (Stp.cs ⟨i,i,0,0,0,0,-1⟩).set 6 (.int .i64 (V.frm.getD q.loc.toNat 0))=Stp.cs ⟨i,i,0,0,0,0,V.frm.getD q.loc.toNat 0⟩ from rfl,q182_ec14_n,lp,bind_ok]
    dsimp only
    rw [q182_e1_1,gv]
set_option maxHeartbeats 2000000 in
theorem rThread (hE:q182_In E) {n k:Nat} {h:AHeap} {x:Cell} {bs pc:List Cell} {V:MV} (a:RvAt n h k x bs pc V) (v:V.Inv) (hg:V.P.good) (hst:V.st.length<100000) {i:Nat} (h4:i<4) (hi:V.may i=true) (h0:AHeap) (z:List Cell) (hz:z.length=7) :
    ∃x' bs' h',(q182_k5 (R E) Lim E.glob h0) .normal (q182_c4 k 37 0 (i:Int) V.st.length z (Stp.cs ⟨i,i,0,0,0,0,-1⟩) h)=some ([.agg (V.stp i).cs,.c (.bool true)],h')∧RvAt n h' k x' bs' pc (V.nx i)∧KpV n k x x' h h':=by
  have f:=v.fit
  have hpc:=a.prog.len
  have hl:=rv_len (x:=x) f hpc a.bl
  have hr:0≤(i:Int)∧(i:Int)<((4:Nat):Int):=⟨by omega,by omega⟩
  have hk:k<h.length:=blk_lt' a.blk
  have rd:∀{α:Type} {F:List Cell→Option α},rdH h k 37 F=F (rvC pc V bs x):=fun {α F}=>rdH_ok a.blk hl
  have p:=prog_at a.prog a.hn (Kp.refl n h)
  have hql:=MV.l_at (V:=V) (t:=i) (by rw [f.lc];exact h4)
  have hq:=MV.may_thr h4 hi
  have hS:V.stp i={ V.thrS i (V.thrI i) with pick:=i }:=by unfold MV.stp;rw [if_pos h4]
  have hN:V.nx i={ V.thrM i (V.thrI i) with st:=V.st++[V.stp i] }:=by unfold MV.nx;rw [if_pos h4]
  generalize V.thrI i=q at hq hS hN
  obtain ⟨q1,q2,q3,q4,q5⟩:=v.nxt hq
  have hbl:(V.b i).length<24:=by have:=v.pcs i h4;omega
  have hrd:(q.kind==2||q.kind==4)=rdI q:=by unfold rdI;rw [Bool.eq_iff_iff];simp
  generalize ha15:(if rdI q=true then (V.val i q).1 else 0)=a15
  have hev:evOf q (V.l i) a15=evOf q (V.l i) (V.val i q).1:=by
    cases c:rdI q with
    | true=>rw [←ha15,c,if_pos rfl]
    | false=>exact evOf_novalue c _ _ _
  have haf:afterL (V.P.code i) (V.l i) a15=afterL (V.P.code i) (V.l i) (V.val i q).1:=by
    cases c:rdI q with
    | true=>rw [←ha15,c,if_pos rfl]
    | false=>exact afterL_novalue hq c _ _
  have rR:=rRead (E:=E) a f h4 q1 V.st.length z
  rw [ha15] at rR
  generalize hfr:(if rdI q=true then (V.val i q).2 else -1)=fr at rR
  generalize hee:evOf q (V.l i) (V.val i q).1=e at *
  have he:0≤e.loc∧e.loc<4:=by rw [←hee];exact evOf_loc q1
  have he45:e.kind=2∨e.kind=4∨evWr e=false:=by
    by_cases c2:e.kind=2
    · exact .inl c2
    · by_cases c4:e.kind=4
      · exact .inr (.inl c4)
      · refine .inr (.inr ?_)
        unfold evWr
        rw [beq_false_of_ne c2,beq_false_of_ne c4];rfl
  have eS:V.stp i=⟨i,i,e.kind,e.loc,e.r,e.w,fr⟩:=by
    rw [hS];unfold MV.thrS;rw [hee,hfr]
  obtain ⟨bs',h',w1,w2,w3,w4,w5,w6⟩:=rWrite (E:=E) a v h4 hbl e he he45 a15 z (V.stp i).cs
  have fW:=wr_fit v e hbl
  obtain ⟨wl,wP,wm⟩:=V.wr_lc i e
  have hl':=rv_len (x:=x) fW hpc w3
  have hk':k<h'.length:=blk_lt' w2
  have p':=prog_at a.prog a.hn w5
  have fN:MV.Fit { V.wr i e with lc:=V.lc.set i (afterL (V.P.code i) (V.l i) (V.val i q).1) }:=⟨fW.m,by rw [List.length_set];exact f.lc,fW.mem,fW.frm,fW.bf,fW.b⟩
  have hsetL:splice (rvC pc (V.wr i e) bs' x) ((0+12)+i*5) (afterL (V.P.code i) (V.l i) a15).cs=rvC pc { V.wr i e with lc:=V.lc.set i (afterL (V.P.code i) (V.l i) (V.val i q).1) } bs' x:=by
    rw [haf,rv_setL fW hpc h4,wl]
  have k5:Kp n h' (setBlk h' k (some ⟨true,0,rvC pc { V.wr i e with lc:=V.lc.set i (afterL (V.P.code i) (V.l i) (V.val i q).1) } bs' x⟩)):=Kp.set a.nk _
  have kk:Kp n h (setBlk h' k (some ⟨true,0,rvC pc { V.wr i e with lc:=V.lc.set i (afterL (V.P.code i) (V.l i) (V.val i q).1) } bs' x⟩)):=w5.trans k5
  have hstW:(V.wr i e).st=V.st:=by unfold MV.wr;split<;>(try split)<;>rfl
  obtain ⟨x',h9,e9,r9,k9,fr9⟩:=rv_push (W:={ V.wr i e with lc:=V.lc.set i (afterL (V.P.code i) (V.l i) (V.val i q).1) }) (bs:=bs') (x:=x) (blk_set_self hk' _) fN hpc w3 (Nat.le_trans a.hn kk.1) a.nk (by rw [take_keep kk];show ProgAt _ _ (V.wr i e).P;rw [wP];exact a.prog)
    (by
      show Own n _ x 7 (stepsC (V.wr i e).st) (V.wr i e).st.length
      rw [hstW]
      exact a.st.via fun j b s1 s2=>by
        have hne:j≠k:=fun c=>a.sep (c ▸ s1)
        rw [blk_set_ne (fun c=>hne c.symm)];exact w6 j b s2 hne) a.sep
    (fun t ht=>by
      obtain ⟨s1,s2,s3⟩:=w4 t ht
      exact ⟨s1.setO s2 _,s2,s3⟩) (by show (V.wr i e).st.length<100000;rw [hstW];exact hst) (V.stp i)
  have hNX:V.nx i={ V.wr i e with lc:=V.lc.set i (afterL (V.P.code i) (V.l i) (V.val i q).1),st:=(V.wr i e).st++[V.stp i] }:=by
    rw [hN,hstW];unfold MV.thrM;rw [hee]
  refine ⟨x',bs',h9,?_,by rw [hNX];exact r9,⟨kk.trans k9,fun j b hj hne hnx=>fr9 j b (by rw [blk_set_ne (fun c=>hne c.symm)];exact w6 j b hj hne) hne hnx⟩⟩
  have sets:((((Stp.cs ⟨i,i,0,0,0,0,fr⟩).set 2 (.int .i64 e.kind)).set 3 (.int .i64 e.loc)).set 4 (.int .i64 e.r)).set 5 (.int .i64 e.w)=(V.stp i).cs:=by rw [eS];rfl
  have s7':∀s:Stp,splice (List.replicate 7 (Cell.int .i64 0)) 0 s.cs=s.cs:=fun _=>rfl
  have hqn:nextI (V.P.code i) (V.l i)=some q:=hq
  rw [q182_ec4_n,rd,if_pos (by rw [hl];omega),if_pos hr,rd,Int.toNat_natCast,if_pos (by rw [hl];omega),rv_prog hpc,rv_lcl f hpc hql,refNext_R hE.c81 hg p,hqn,qh_ok,c2_ok,asA_ok,asB_ok,if_pos (by exact ⟨rfl,rfl,rfl⟩),bind_ok]
  dsimp only [Option.getD_some]
  rw [q182_ec11_n,ins_kind,asI_ok,ins_kind,asI_ok,scK_or,bind_ok,hrd]
  dsimp only
  rw [rR,bind_ok]
  dsimp only
  rw [q182_ec12_n,if_pos (by exact ⟨rfl,rfl⟩),if_pos hr,rd,Int.toNat_natCast,if_pos (by rw [hl];omega),rv_lcl f hpc hql,evOf_ref hE.c111,hev,qh_ok,c1_ok,asA_ok,if_pos (by exact ⟨rfl,rfl,rfl⟩),bind_ok]
  dsimp only
  rw [q182_ec17_n,evt_kind,asI_ok,evt_loc,asI_ok,evt_r,asI_ok,evt_w,asI_ok,if_pos (by exact (by decide:2<7)),if_pos (by exact (by decide:3<7)),if_pos (by exact (by decide:4<7)),if_pos (by exact (by decide:5<7)),bind_ok]
  dsimp only
  rw [sets,q182_ec18_n]
  simp only [evt_kind,asI_ok,rd,rv_m hpc,scK_and,scK_or,bind_ok]
  rw [w1,bind_ok]
  dsimp only
  rw [q182_ec19_n,rdH_ok w2 hl',if_pos (by rw [hl'];omega),if_pos hr,rdH_ok w2 hl',Int.toNat_natCast,if_pos (by rw [hl'];omega),rv_prog hpc,rv_lcl fW hpc (by rw [wl];exact hql),refAfter_R hE.c107 hg p',qh_ok,c1_ok,asA_ok,if_pos hr,rdH_ok w2 hl',if_pos (by exact ⟨by rw [hl'];omega,rfl⟩),hsetL,putB w2,bind_ok]
  dsimp only
  rw [q182_ec22_n,rdH_ok (blk_set_self hk' _) (rv_len (x:=x) fN hpc w3),rv_steps fN hpc w3,if_pos (by exact ⟨rfl,rfl⟩),if_pos (by exact ⟨rfl,by decide⟩),s7',if_pos (by exact rfl),e9,if_pos (by exact ⟨rfl,rfl⟩),if_pos (by exact ⟨rfl,hz,rfl⟩),if_pos (by exact ⟨rfl,rfl⟩)]
theorem rPick_no (hE:q182_In E) {n k:Nat} {h:AHeap} {x:Cell} {bs pc:List Cell} {V:MV} (a:RvAt n h k x bs pc V) (f:V.Fit) (hg:V.P.good) {i:Int} (hi:mayI V i=false) :
    R E 182 [.c (.ptr k 37 0),.c (.int .i64 i)] h=some ([.agg (Stp.cs ⟨0,0,0,0,0,0,0⟩),.c (.bool false)],h):=by
  refine R_intro hE.fn ?_
  rw [q182_eq,May_R hE.c196 a f hg,c1_ok,asB_ok,hi,if_pos (by simp),if_pos (by exact ⟨rfl,rfl,rfl⟩),bind_ok]
  dsimp only
  rw [q182_ec1_0,if_pos (by exact ⟨rfl,rfl⟩)]
  rfl
theorem rPick_R (hE:q182_In E) {n k:Nat} {h:AHeap} {x:Cell} {bs pc:List Cell} {V:MV} (a:RvAt n h k x bs pc V) (v:V.Inv) (hg:V.P.good) (hst:V.st.length<100000) {i:Nat} (hi:V.may i=true) :
    ∃x' bs' h',R E 182 [.c (.ptr k 37 0),.c (.int .i64 (i:Int))] h=some ([.agg (V.stp i).cs,.c (.bool true)],h')∧RvAt n h' k x' bs' pc (V.nx i)∧KpV n k x x' h h':=by
  have f:=v.fit
  have hpc:=a.prog.len
  have hl:=rv_len (x:=x) f hpc a.bl
  have rd:∀{α:Type} {F:List Cell→Option α},rdH h k 37 F=F (rvC pc V bs x):=fun {α F}=>rdH_ok a.blk hl
  have e1:splice (splice (splice (List.replicate 7 (Cell.int .i64 0)) 0 ([(.int .i64 (i:Int))]:List Cell)) 1 ([(.int .i64 (i:Int))]:List Cell)) 6 ([(.int .i64 (-1))]:List Cell)=Stp.cs ⟨i,i,0,0,0,0,-1⟩:=rfl
  by_cases h4:i<4
  · obtain ⟨x',bs',h',r1,r2,r3⟩:=rThread hE a v hg hst h4 hi h (List.replicate 7 (Cell.int .i64 0)) rfl
    refine ⟨x',bs',h',R_intro hE.fn ?_,r2,r3⟩
    have hno:fluOf V.m (i:Int)=(0,0,false):=by unfold fluOf;rw [if_neg (by omega),if_neg (by omega)]
    rw [q182_eq,May_R hE.c196 a f hg,c1_ok,asB_ok,mayI_nat,hi,if_neg (by simp),bind_ok]
    dsimp only
    rw [q182_ec1_n,rd,rv_steps f hpc a.bl,a.st.at.len,bind_ok]
    dsimp only
    rw [q182_ec2_n,e1,if_pos (by exact ⟨rfl,rfl,rfl⟩),bind_ok]
    dsimp only
    rw [q182_ec3_n,refFlush_R hE.c197 a f,hno,c3_ok,asI_ok,asI_ok,asB_ok,bind_ok]
    dsimp only
    rw [q182_ec5_n,if_neg (by simp),bind_ok]
    exact r1
  · obtain ⟨t,loc,p,e,ht,hp,hfl,hf,hs,hnx⟩:=flu_data h4 hi
    obtain ⟨x',bs',h',r1,r2,r3⟩:=rFlush hE a v hst (i:=(i:Int)) ht hp hf (List.replicate 7 (Cell.int .i64 0)) rfl
    refine ⟨x',bs',h',R_intro hE.fn ?_,by rw [hnx,hs];exact r2,r3⟩
    rw [q182_eq,May_R hE.c196 a f hg,c1_ok,asB_ok,mayI_nat,hi,if_neg (by simp),bind_ok]
    dsimp only
    rw [q182_ec1_n,rd,rv_steps f hpc a.bl,a.st.at.len,bind_ok]
    dsimp only
    rw [q182_ec2_n,e1,if_pos (by exact ⟨rfl,rfl,rfl⟩),bind_ok]
    dsimp only
    rw [q182_ec3_n,refFlush_R hE.c197 a f,hfl,c3_ok,asI_ok,asI_ok,asB_ok,bind_ok]
    dsimp only
    rw [r1,bind_ok]
    dsimp only
    rw [q182_ec4_0,if_pos (by exact ⟨rfl,rfl⟩),hs]
end
end Jq

namespace Jq
open Go
theorem RvAt.keep {n:Nat} {h h':AHeap} {k:Nat} {x:Cell} {bs pc:List Cell} {V:MV} (a:RvAt n h k x bs pc V) (hk:Kp h.length h h'):RvAt n h' k x bs pc V :=
  ⟨Nat.le_trans a.hn hk.1,a.nk,by rw [take_keep (hk.mono a.hn)];exact a.prog,by rw [hk.blk (blk_lt' a.blk)];exact a.blk,a.st.keepK hk,a.sep,a.bl,fun t ht=>by
    obtain ⟨q1,q2,q3⟩:=a.bf t ht
    exact ⟨q1.keepK hk,q2,q3⟩⟩
theorem RvAt.other {n:Nat} {h h':AHeap} {k:Nat} {x:Cell} {bs pc:List Cell} {V:MV} (a:RvAt n h k x bs pc V) (hl:h.length≤h'.length) (hn:Kp n h h') (hk:∀j b,blk? h j=some b→j=k∨isBlk x j∨(∃t,t<4∧isBlk (bs.getD t .nils) j)→blk? h' j=some b):RvAt n h' k x bs pc V :=
  ⟨Nat.le_trans a.hn hl,a.nk,by rw [take_keep hn];exact a.prog,hk k _ a.blk (.inl rfl),a.st.via fun j b q1 q2=>hk j b q2 (.inr (.inl q1)),a.sep,a.bl,fun t ht=>by
    obtain ⟨q1,q2,q3⟩:=a.bf t ht
    exact ⟨q1.via fun j b s1 s2=>hk j b s2 (.inr (.inr ⟨t,ht,s1⟩)),q2,q3⟩⟩
theorem may_bits (V:MV):(List.range 24).filter V.may=bitsL V.word:=by
  unfold bitsL
  rw [show (fun i=>V.word.testBit i)=V.may from funext fun i=>V.word_bit i]
  have e:List.range 64=List.range 24++List.range' 24 40:=by decide
  rw [e,List.filter_append]
  have:(List.range' 24 40).filter V.may=[]:=by
    rw [List.filter_eq_nil_iff]
    intro a ha
    rw [List.mem_range'_1] at ha
    rw [MV.may_out (by omega)];simp
  rw [this,List.append_nil]
theorem startL_out {P:PProg} {t:Nat} (h:P.thr.length≤t):startL P (t:Int)=Lcl.zero:=by
  have:P.code (t:Int)=[]:=code_out (by omega)
  unfold startL normL
  rw [this];rfl
def lcU (P:PProg) (t:Nat):List Lcl:=[if 0<t then startL P 0 else Lcl.zero,if 1<t then startL P 1 else Lcl.zero,if 2<t then startL P 2 else Lcl.zero,if 3<t then startL P 3 else Lcl.zero]
theorem lcU_next (P:PProg):∀t,t<4→(lcU P t).set t (startL P (t:Int))=lcU P (t+1)
  | 0,_=>rfl
  | 1,_=>rfl
  | 2,_=>rfl
  | 3,_=>rfl
  | t+4,h=>by omega
theorem lcU_end (P:PProg):lcU P P.thr.length=[startL P 0,startL P 1,startL P 2,startL P 3]:=by
  have key:∀t:Nat,(if t<P.thr.length then startL P (t:Int) else Lcl.zero)=startL P (t:Int):=fun t=>by
    split
    · rfl
    · exact (startL_out (by omega)).symm
  unfold lcU
  have e0:=key 0;have e1:=key 1;have e2:=key 2;have e3:=key 3
  rw [show ((0:Nat):Int)=0 from rfl] at e0
  rw [show ((1:Nat):Int)=1 from rfl] at e1
  rw [show ((2:Nat):Int)=2 from rfl] at e2
  rw [show ((3:Nat):Int)=3 from rfl] at e3
  rw [e0,e1,e2,e3]
def MV.raw (P:PProg) (m:Int) (lc:List Lcl) (mem:List Int):MV:=⟨P,m,lc,mem,[-1,-1,-1,-1],[[],[],[],[]],[]⟩
theorem MV.raw_fit {P:PProg} {m:Int} {lc:List Lcl} {mem:List Int} (hm:1≤m∧m≤3) (h1:lc.length=4) (h2:mem.length=4):(MV.raw P m lc mem).Fit :=
  ⟨hm,h1,h2,rfl,rfl,fun l hl=>by simp [MV.raw] at hl;subst hl;simp⟩
set_option maxRecDepth 100000 in
theorem raw_0 (a b c:Cell) (P:PProg) (m:Int):splice (splice (splice ([Cell.nils,Cell.nils,Cell.nils]++List.replicate 29 (Cell.int .i64 0)++List.replicate 5 (Cell.nils)) 0 [a,b,c]) 3 ([(.int .i64 m)]:List Cell)) 8 (splice (splice (splice (splice [Cell.int .i64 0,Cell.int .i64 0,Cell.int .i64 0,Cell.int .i64 0] 0 ([(.int .i64 (-1))]:List Cell)) 1 ([(.int .i64 (-1))]:List Cell)) 2 ([(.int .i64 (-1))]:List Cell)) 3 ([(.int .i64 (-1))]:List Cell)) =
    rvC [a,b,c] (MV.raw P m (lcU P 0) [0,0,0,0]) [.nils,.nils,.nils,.nils] .nils:=by kernel_rfl
theorem init_take_set {l:List Int} (h4:l.length≤4) {i:Nat} {v:Int} (hv:l[i]? = some v):(l.take i++List.replicate (4 - i) 0).set i v=l.take (i+1)++List.replicate (4 - (i+1)) 0:=by
  have hi:=getI_lt hv
  have hl:(l.take i).length=i:=by rw [List.length_take];omega
  rw [takeI_succ hv,List.set_append_right _ _ (by omega),hl,Nat.sub_self,show 4 - i=(4 - (i+1))+1 by omega,List.replicate_succ,List.set_cons_zero,List.append_assoc]
  rfl
section
variable {E:Env}
theorem rNew_R (hE:q180_In E) {h:AHeap} {pc:List Cell} {P:PProg} (p:ProgAt h pc P) (hg:P.good) (h4:P.thr.length≤4) (hil:P.init.length≤4) {m:Int} (hm:1≤m∧m≤3) :
    ∃h',R E 180 [.agg pc,.c (.int .i64 m)] h=some ([.c (.ptr h.length 37 0)],h')∧RvAt h.length h' h.length .nils [.nils,.nils,.nils,.nils] pc (MV.new P m)∧Kp h.length h h':=by
  obtain ⟨a,b,c,ts,he,_⟩:=id p
  subst he
  have hpc:([a,b,c]:List Cell).length=3:=rfl
  have hbs:([.nils,.nils,.nils,.nils]:List Cell).length=4:=rfl
  have b8:∀l:List Cell,blk? (h++[some ⟨true,0,l⟩]) h.length=some ⟨true,0,l⟩:=fun l=>blk_new _ _
  have p9:∀q,ProgAt (h++[some q]) [a,b,c] P:=fun q=>p.keep (Kp.app _ (Nat.le_refl _))
  have put:∀(l cs:List Cell) {α:Type} {F:AHeap→Option α},putH (h++[some ⟨true,0,l⟩]) h.length cs F=F (h++[some ⟨true,0,cs⟩]):=fun l cs α F=>by rw [putB (b8 l),setBlk_last]
  obtain ⟨bi,hbi,hbl,hbg⟩:=p.initG
  have q1:∀{α:Type} (f:Cell→Option α),atK [a,b,c] 1 f=f b:=fun _=>rfl
  have ebi:bi=b:=by
    have:=hbg (α:=Cell) (fun c=>some c)
    rw [q1] at this
    exact (Option.some.inj this).symm
  subst ebi
  have lens:∀lc mem,lc.length=4→mem.length=4→(rvC [a,bi,c] (MV.raw P m lc mem) [.nils,.nils,.nils,.nils] .nils).length=37:=fun lc mem h1 h2=>rv_len (MV.raw_fit hm h1 h2) hpc hbs
  have rd:∀(lc:List Lcl) (mem:List Int) {α:Type} {F:List Cell→Option α},lc.length=4→mem.length=4→rdH (h++[some ⟨true,0,rvC [a,bi,c] (MV.raw P m lc mem) [.nils,.nils,.nils,.nils] .nils⟩]) h.length 37 F=F (rvC [a,bi,c] (MV.raw P m lc mem) [.nils,.nils,.nils,.nils] .nils):=fun lc mem α F h1 h2=>rdH_ok (b8 _) (lens lc mem h1 h2)
  have hbi':∀q,SlAt (h++[some q]) bi 1 (intC .i64 P.init) P.init.length:=fun q=>hbi.keep hbl (Kp.app _ (Nat.le_refl _))
  have ml:∀i,i≤P.init.length→(P.init.take i++List.replicate (4 - i) 0).length=4:=fun i hi=>by rw [List.length_append,List.length_take,List.length_replicate];omega
  have l1:Lim (q180_F1 (R E) Lim E.glob) (q180_s1 h.length 37 0 ((0:Nat):Int) [a,bi,c] (h++[some ⟨true,0,rvC [a,bi,c] (MV.raw P m (lcU P 0) (P.init.take 0++List.replicate (4 - 0) 0)) [.nils,.nils,.nils,.nils] .nils⟩]))=some (.exit 0,q180_x1_1 h.length 37 0 [a,bi,c] (h++[some ⟨true,0,rvC [a,bi,c] (MV.raw P m (lcU P 0) (MV.new P m).mem) [.nils,.nils,.nils,.nils] .nils⟩])):=by
    refine Lim_count (F:=q180_F1 (R E) Lim E.glob) (fun i=>q180_s1 h.length 37 0 (i:Int) [a,bi,c] (h++[some ⟨true,0,rvC [a,bi,c] (MV.raw P m (lcU P 0) (P.init.take i++List.replicate (4 - i) 0)) [.nils,.nils,.nils,.nils] .nils⟩])) 0 P.init.length (by omega) (fun i _ hi=>?_) (Lim_exit ?_)
    · have hv:P.init[i]? = some P.init[i]:=List.getElem?_eq_getElem hi
      generalize P.init[i]=v at hv
      have hr:0≤(i:Int)∧(i:Int)<((4:Nat):Int):=⟨by omega,by omega⟩
      have hset:=rv_setM (bs:=[.nils,.nils,.nils,.nils]) (x:=.nils) (MV.raw_fit (P:=P) (lc:=lcU P 0) hm rfl (ml i (by omega))) hpc (i:=i) (by omega) v
      rw [q180_r1,q1,hbi.len,if_pos (by simp;omega),q1,(hbi' _).get1 hi (intC_get hv),asI_ok,if_pos hr,rd _ _ rfl (ml i (by omega)),Int.toNat_natCast,if_pos (by rw [lens _ _ rfl (ml i (by omega))];omega),hset,put,g_succ (by omega)]
      rw [show ({ MV.raw P m (lcU P 0) (P.init.take i++List.replicate (4 - i) 0) with mem:=(MV.raw P m (lcU P 0) (P.init.take i++List.replicate (4 - i) 0)).mem.set i v }:MV)=MV.raw P m (lcU P 0) ((P.init.take i++List.replicate (4 - i) 0).set i v) from rfl,init_take_set hil hv]
    · rw [q180_r1,q1,hbi.len,if_neg (by simp),List.take_of_length_le (Nat.le_refl _)]
      rfl
  have nm:(MV.new P m).mem.length=4:=(MV.new_fit hm hil).mem
  have n3:∀{α:Type} {h':AHeap} {F:Int→Option α},ProgAt h' [a,bi,c] P→(atK [a,bi,c] 2 fun q=>lenK q F)=F P.thr.length:=fun pp=>pp.nthr
  have l2:Lim (q180_F2 (R E) Lim E.glob) (q180_s2 h.length 37 0 ((0:Nat):Int) [a,bi,c] (h++[some ⟨true,0,rvC [a,bi,c] (MV.raw P m (lcU P 0) (MV.new P m).mem) [.nils,.nils,.nils,.nils] .nils⟩]))=some (.exit 2,q180_x2_3 h.length 37 0 (h++[some ⟨true,0,rvC [a,bi,c] (MV.raw P m (lcU P P.thr.length) (MV.new P m).mem) [.nils,.nils,.nils,.nils] .nils⟩])):=by
    refine Lim_count (F:=q180_F2 (R E) Lim E.glob) (fun i=>q180_s2 h.length 37 0 (i:Int) [a,bi,c] (h++[some ⟨true,0,rvC [a,bi,c] (MV.raw P m (lcU P i) (MV.new P m).mem) [.nils,.nils,.nils,.nils] .nils⟩])) 0 P.thr.length (by omega) (fun i _ hi=>?_) (Lim_exit ?_)
    · have hr:0≤(i:Int)∧(i:Int)<((4:Nat):Int):=⟨by omega,by omega⟩
      have hset:=rv_setL (bs:=[.nils,.nils,.nils,.nils]) (x:=.nils) (MV.raw_fit (P:=P) (lc:=lcU P i) hm rfl nm) hpc (t:=i) (by omega) (startL P (i:Int))
      rw [q180_r2,n3 p,if_pos (by simp;omega),if_pos (by exact ⟨rfl,rfl⟩),refStart_R hE.c104 hg (p9 _),qh_ok,c1_ok,asA_ok,if_pos hr,rd _ _ rfl nm,Int.toNat_natCast,if_pos (by exact ⟨by rw [lens _ _ rfl nm];omega,rfl⟩),hset,put,g_succ (by omega)]
      rw [show ({ MV.raw P m (lcU P i) (MV.new P m).mem with lc:=(MV.raw P m (lcU P i) (MV.new P m).mem).lc.set i (startL P (i:Int)) }:MV)=MV.raw P m ((lcU P i).set i (startL P (i:Int))) (MV.new P m).mem from rfl,lcU_next P i (by omega)]
    · rw [q180_r2,n3 p,if_neg (by simp)]
  rw [show ((0:Nat):Int)=0 from rfl] at l1 l2
  have efin:MV.raw P m (lcU P P.thr.length) (MV.new P m).mem=MV.new P m:=by rw [lcU_end P];rfl
  rw [efin] at l2
  refine ⟨h++[some ⟨true,0,rvC [a,bi,c] (MV.new P m) [.nils,.nils,.nils,.nils] .nils⟩],R_intro hE.fn ?_,⟨by simp,Nat.le_refl _,?_,b8 _,Own.nil _ _ _,fun q=>q,hbs,fun t ht=>?_⟩,Kp.app _ (Nat.le_refl _)⟩
  · have hz:([Cell.nils,Cell.nils,Cell.nils]++List.replicate 29 (Cell.int .i64 0)++List.replicate 5 (Cell.nils)).length=37:=by kernel_rfl
    have ec:∀z:List Cell,AV.cells (.agg z)=z:=fun _=>rfl
    rw [q180_eq,if_pos (by exact ⟨rfl,rfl⟩),if_pos (by exact ⟨rfl,by rw [hz];omega⟩),if_pos (by exact ⟨rfl,by rw [splice_len (by rw [hz];simp),hz];omega⟩),if_pos (by exact ⟨rfl,by rw [splice_len (by rw [splice_len (by rw [hz];simp),hz];simp),splice_len (by rw [hz];simp),hz];omega⟩),ec,raw_0 a bi c P m,lens _ _ rfl rfl]
    have e0:P.init.take 0++List.replicate (4 - 0) 0=[0,0,0,0]:=rfl
    rw [e0] at l1
    rw [l1,bind_ok]
    dsimp only
    rw [q180_e1_1,l2,bind_ok]
    dsimp only
    rw [q180_e2_3]
  · rw [List.take_append_of_le_length (Nat.le_refl _),List.take_length];exact p
  · have:(([.nils,.nils,.nils,.nils]:List Cell).getD t .nils)=.nils:=by
      match t with
      | 0=>rfl
      | 1=>rfl
      | 2=>rfl
      | 3=>rfl
      | t+4=>rfl
    rw [this,new_b]
    exact ⟨Own.nil _ _ _,fun q=>q,fun j q=>absurd q (by simp [isBlk])⟩
theorem rEnabled_R (hE:q181_In E) {n k:Nat} {h:AHeap} {x:Cell} {bs pc:List Cell} {V:MV} (a:RvAt n h k x bs pc V) (f:V.Fit) (hg:V.P.good) :
    ∃y h',R E 181 [.c (.ptr k 37 0)] h=some ([.c y],h')∧Own h.length h' y 1 (natC (bitsL V.word)) (bitsL V.word).length∧Kp h.length h h':=by
  have hM:maxBytes≥1000*8:=by unfold maxBytes;omega
  obtain ⟨st,⟨y,h',rfl,o,kk⟩,hL⟩:=Lim_inv (F:=q181_F1 (R E) Lim E.glob) (fun i st=>∃y h',st=q181_s1 k 37 0 y (i:Int) h'∧Own h.length h' y 1 (natC ((List.range i).filter V.may)) ((List.range i).filter V.may).length∧Kp h.length h h') 0 24 (by omega)
    (fun i st _ hi=>by
      rintro ⟨y,h',rfl,o,kk⟩
      have hlen:((List.range i).filter V.may).length≤i:=Nat.le_trans (List.length_filter_le _ _) (by simp)
      have my:=May_R hE.c196 (a.keep kk) f hg (i:Int)
      rw [mayI_nat] at my
      cases hm:V.may i with
      | false =>
        refine ⟨q181_s1 k 37 0 y ((i+1:Nat):Int) h',?_,y,h',rfl,?_,kk⟩
        · rw [q181_r1,if_pos (by simp;omega),my,c1_ok,asB_ok,hm,if_neg (by simp),g_succ (by omega)]
        · rw [List.range_succ,List.filter_append,List.filter_cons,hm]
          simpa using o
      | true =>
        obtain ⟨y2,h2,e2,o2,k2,_⟩:=o.app (bytes:=8) (xs:=[.int .i64 (i:Int)]) kk.1 rfl (by omega) (by omega) (by omega)
        refine ⟨q181_s1 k 37 0 y2 ((i+1:Nat):Int) h2,?_,y2,h2,rfl,?_,kk.trans k2⟩
        · rw [q181_r1,if_pos (by simp;omega),my,c1_ok,asB_ok,hm,if_pos rfl,if_pos (by rfl),show splice [Cell.int .i64 0] 0 ([(.int .i64 (i:Int))]:List Cell)=[.int .i64 (i:Int)] from rfl,e2,g_succ (by omega)]
        · rw [List.range_succ,List.filter_append,List.filter_cons,hm,if_pos rfl,List.filter_nil,natC_snoc,List.length_append,List.length_singleton]
          exact o2) (st:=q181_s1 k 37 0 .nils ((0:Nat):Int) h) ⟨.nils,h,rfl,Own.nil _ _ _,Kp.refl _ _⟩
  rw [may_bits] at o
  have hr:=hL _ (Lim_exit (show q181_F1 (R E) Lim E.glob (q181_s1 k 37 0 y ((24:Nat):Int) h')=some (.exit 0,q181_x1_1 y h') by rw [q181_r1,if_neg (by simp)]))
  rw [show ((0:Nat):Int)=0 from rfl] at hr
  refine ⟨y,h',R_intro hE.fn ?_,o,kk⟩
  rw [q181_eq,hr,bind_ok]
  dsimp only
  rw [q181_e1_1]
def finU (V:MV) (t:Nat):List Cell:=(V.lc.take t).flatMap regsC++(List.replicate (16 - t*4) (.int .i64 0)++intC .i64 V.mem)
end
end Jq

namespace Jq
open Go
theorem Own.has {n:Nat} {h:AHeap} {y:Cell} {esz len:Nat} {cs:List Cell} (o:Own n h y esz cs len) {j:Nat} (hj:isBlk y j):blk? h j=some ⟨true,esz,cs⟩:=by
  rcases o.2 with ⟨e,_⟩ | ⟨j',e,_,hb⟩
  · rw [e] at hj;exact absurd hj (by simp [isBlk])
  · have:j'=j:=by rw [e] at hj;exact hj
    subst this;exact hb
structure Both (n:Nat) (h:AHeap) (k:Nat) (x:Cell) (pc:List Cell) (V:MV) (n' k':Nat) (x':Cell) (bs pc':List Cell) (W:MV):Prop where
  a:VmAt n h k x pc V
  b:RvAt n' h k' x' bs pc' W
  nn:n≤n'
  d:∀j,isBlk x j→¬isBlk x' j
  fV:V.Fit
  fW:W.Fit
section both
variable {n:Nat} {h:AHeap} {k:Nat} {x:Cell} {pc:List Cell} {V:MV} {n' k':Nat} {x':Cell} {bs pc':List Cell} {W:MV} (B:Both n h k x pc V n' k' x' bs pc' W)
include B
theorem Both.kk:k'≠k:=fun e=>by
  have h1:=B.a.blk
  have h2:=B.b.blk
  rw [e,h1] at h2
  have h3:=Blk.mk.inj (Option.some.inj h2)
  have l1:=vm_len (x:=x) B.fV B.a.prog.len
  have l2:=rv_len (x:=x') B.fW B.b.prog.len B.b.bl
  rw [h3.2.2,l2] at l1
  omega
theorem Both.xk:¬isBlk x k':=fun q=>by
  have h1:=B.a.st.has q
  rw [B.b.blk] at h1
  have:=(Blk.mk.inj (Option.some.inj h1)).2.1
  omega
theorem Both.x'k:¬isBlk x' k:=fun q=>by
  have h1:=B.b.st.has q
  rw [B.a.blk] at h1
  have:=(Blk.mk.inj (Option.some.inj h1)).2.1
  omega
theorem Both.bk {t:Nat} (ht:t<4):¬isBlk (bs.getD t .nils) k:=fun q=>by
  have h1:=(B.b.bf t ht).1.has q
  rw [B.a.blk] at h1
  have:=(Blk.mk.inj (Option.some.inj h1)).2.1
  omega
theorem Both.bx {t:Nat} (ht:t<4) {j:Nat} (q:isBlk (bs.getD t .nils) j):¬isBlk x j:=fun q2=>by
  have h1:=(B.b.bf t ht).1.has q
  rw [B.a.st.has q2] at h1
  have:=(Blk.mk.inj (Option.some.inj h1)).2.1
  omega
theorem Both.keep {h':AHeap} (hk:Kp h.length h h'):Both n h' k x pc V n' k' x' bs pc' W:=⟨B.a.keep hk,B.b.keep hk,B.nn,B.d,B.fV,B.fW⟩
theorem Both.vm {h':AHeap} {x1:Cell} {V':MV} (kv:KpV n k x x1 h h') (a':VmAt n h' k x1 pc V') (f':V'.Fit) (hp:ProgAt (h'.take n') pc' W.P):Both n h' k x1 pc V' n' k' x' bs pc' W:=by
  have b:=B.b
  refine ⟨a',⟨Nat.le_trans b.hn kv.kp.1,b.nk,hp,(kv.old _ _ b.blk B.kk B.xk).1,b.st.via fun j c q1 q2=>(kv.old j c q2 (fun e=>B.x'k (e ▸ q1)) (fun q=>B.d j q q1)).1,b.sep,b.bl,fun t ht=>?_⟩,B.nn,fun j q1 q2=>?_,f',B.fW⟩
  · obtain ⟨q1,q2,q3⟩:=b.bf t ht
    exact ⟨q1.via fun j c s1 s2=>(kv.old j c s2 (fun e=>B.bk ht (e ▸ s1)) (B.bx ht s1)).1,q2,q3⟩
  · exact (kv.old j _ (b.st.has q2) (fun e=>B.x'k (e ▸ q2)) (fun q=>B.d j q q2)).2 q1
end both
section
variable {E:Env}
end
end Jq

namespace Jq
open Go
def MV.runG (V:MV):List Int→MV × Nat
  | []=>(V,0)
  | p :: ps=>if mayI V p=true then (((V.nx p.toNat).runG ps).1,((V.nx p.toNat).runG ps).2+1) else (V,0)
theorem mayI_at {V:MV} {p:Int} (h:mayI V p=true):∃j:Nat,p=(j:Int)∧V.may j=true∧p.toNat=j:=by
  unfold mayI at h
  rw [Bool.and_eq_true] at h
  obtain ⟨j,rfl⟩:=Int.eq_ofNat_of_zero_le (of_decide_eq_true h.1)
  exact ⟨j,rfl,h.2,rfl⟩
theorem MV.runG_inv {V:MV} (v:V.Inv):∀l:List Int,(V.runG l).1.Inv∧(V.runG l).1.P=V.P∧(V.runG l).1.m=V.m∧(V.runG l).1.st.length=V.st.length+(V.runG l).2∧(V.runG l).2≤l.length
  | []=>⟨v,rfl,rfl,rfl,Nat.le_refl _⟩
  | p :: ps=>by
    unfold MV.runG
    by_cases h:mayI V p=true
    · obtain ⟨j,rfl,hj,hn⟩:=mayI_at h
      rw [if_pos h,hn]
      obtain ⟨h1,h2,h3,h4,h5⟩:=MV.runG_inv (v.nx hj) ps
      refine ⟨h1,h2.trans (V.nx_P j).1,h3.trans (V.nx_P j).2,?_,by dsimp only;rw [List.length_cons];omega⟩
      dsimp only
      rw [h4,V.nx_st,List.length_append,List.length_singleton];omega
    · rw [if_neg h]
      exact ⟨v,rfl,rfl,rfl,by dsimp only;omega⟩
theorem MV.runG_snoc:∀(l:List Int) (V:MV) (j:Nat),(V.runG l).2=l.length→(V.runG l).1.may j=true→V.runG (l++[(j:Int)])=((V.runG l).1.nx j,l.length+1)
  | [],V,j,_,hj=>by
    show V.runG [(j:Int)]=_
    unfold MV.runG
    rw [if_pos (by rw [mayI_nat];exact hj)]
    rfl
  | p :: ps,V,j,hl,hj=>by
    rw [List.cons_append]
    unfold MV.runG at hl hj ⊢
    by_cases h:mayI V p=true
    · rw [if_pos h] at hl hj ⊢
      have:=MV.runG_snoc ps (V.nx p.toNat) j (by simp only [List.length_cons] at hl;omega) hj
      rw [this,if_pos h]
      rfl
    · rw [if_neg h] at hl
      simp at hl
def ptr37 (k:Nat):Cell:=.ptr k 37 0
section
variable {E:Env}
theorem rRun_R (hE:q186_In E) {h:AHeap} {pc:List Cell} {P:PProg} (p:ProgAt h pc P) (hg:P.good) (h4:P.thr.length≤4) (hil:P.init.length≤4) {m:Int} (hm:1≤m∧m≤3) (inv:(MV.new P m).Inv) {y:Cell} {l:List Int} (hy:SlAt h y 1 (intC .i64 l) l.length) (hlow:Low h.length y) (hlen:l.length<90000) :
    ∃x' bs h',R E 186 [.agg pc,.c (.int .i64 m),.c y] h=some ([.c (.ptr h.length 37 0),.c (.int .i64 (((MV.new P m).runG l).2:Int))],h')∧RvAt h.length h' h.length x' bs pc ((MV.new P m).runG l).1∧Kp h.length h h':=by
  obtain ⟨h1,r1,a1,k1⟩:=rNew_R hE.c180 p hg h4 hil hm
  have key:∀(t:List Int) (j:Nat) (V:MV) (x:Cell) (bs:List Cell) (h2:AHeap),l.drop j=t→j≤l.length→V.st.length=j→V.Inv→V.P=P→RvAt h.length h2 h.length x bs pc V→Kp h.length h h2 →
      ∃x' bs' h3,(Lim (q186_F1 (R E) Lim E.glob) (q186_s1 y (.ptr h.length 37 0) (j:Int) h2)).bind (fun p_17=>(q186_k3 (R E) Lim E.glob h) p_17.1 p_17.2)=some ([.c (.ptr h.length 37 0),.c (.int .i64 ((j+(V.runG t).2:Nat):Int))],h3)∧RvAt h.length h3 h.length x' bs' pc (V.runG t).1∧Kp h.length h h3:=by
    intro t
    induction t with
    | nil =>
      intro j V x bs h2 hd hj hst v vP a kk
      have hjl:j=l.length:=by
        have:=congrArg List.length hd
        rw [List.length_drop,List.length_nil] at this;omega
      subst hjl
      have hy2:=hy.keep hlow kk
      have e1:q186_F1 (R E) Lim E.glob (q186_s1 y (.ptr h.length 37 0) (l.length:Int) h2)=some (.exit 0,q186_x1_1 y (.ptr h.length 37 0) h2):=by
        rw [q186_r1,hy2.len,if_neg (by simp)]
      refine ⟨x,bs,h2,?_,a,kk⟩
      rw [Lim_exit e1,bind_ok]
      dsimp only
      rw [q186_e1_1,hy2.len]
      rfl
    | cons q t ih =>
      intro j V x bs h2 hd hj hst v vP a kk
      have hjl:j<l.length:=by
        rcases Nat.lt_or_ge j l.length with c | c
        · exact c
        · rw [List.drop_of_length_le c] at hd;cases hd
      have hq:l[j]? = some q:=by
        have:=congrArg (fun z=>z[0]?) hd
        simp only [List.getElem?_drop,List.getElem?_cons_zero,Nat.add_zero] at this
        exact this
      have hd2:l.drop (j+1)=t:=by
        have:=congrArg (List.drop 1) hd
        rw [List.drop_drop] at this
        simpa using this
      have hy2:=hy.keep hlow kk
      unfold MV.runG
      by_cases hm:mayI V q=true
      · obtain ⟨i,rfl,hi,hn⟩:=mayI_at hm
        rw [if_pos hm,hn]
        obtain ⟨x3,bs3,h3,r3,a3,k3⟩:=rPick_R hE.c182 a v (by rw [vP];exact hg) (by omega) hi
        have e1:q186_F1 (R E) Lim E.glob (q186_s1 y (.ptr h.length 37 0) (j:Int) h2)=some (.normal,q186_s1 y (.ptr h.length 37 0) ((j+1:Nat):Int) h3):=by
          rw [q186_r1,hy2.len,if_pos (by simp;omega),hy2.get1 hjl (intC_get hq),asI_ok,r3,c2_ok,asA_ok,asB_ok,if_pos (by exact ⟨rfl,rfl,rfl⟩),if_neg (by simp),g_succ (by omega)]
        obtain ⟨x4,bs4,h4,r4,a4,k4⟩:=ih (j+1) (V.nx i) x3 bs3 h3 hd2 (by omega) (by rw [V.nx_st,List.length_append,List.length_singleton,hst]) (v.nx hi) (by rw [(V.nx_P i).1,vP]) a3 (kk.trans k3.kp)
        refine ⟨x4,bs4,h4,?_,a4,k4⟩
        have hL:∀r,Lim (q186_F1 (R E) Lim E.glob) (q186_s1 y (.ptr h.length 37 0) ((j+1:Nat):Int) h3)=some r→Lim (q186_F1 (R E) Lim E.glob) (q186_s1 y (.ptr h.length 37 0) (j:Int) h2)=some r:=fun r hr=>Lim_next e1 hr
        cases hl:Lim (q186_F1 (R E) Lim E.glob) (q186_s1 y (.ptr h.length 37 0) ((j+1:Nat):Int) h3) with
        | none=>rw [hl] at r4;cases r4
        | some r =>
          rw [hl] at r4
          rw [hL r hl,r4,show j+1+((V.nx i).runG t).2=j+(((V.nx i).runG t).2+1) by omega]
      · rw [if_neg hm]
        have hm':mayI V q=false:=by simpa using hm
        have r3:=rPick_no hE.c182 a v.fit (by rw [vP];exact hg) hm'
        have e1:q186_F1 (R E) Lim E.glob (q186_s1 y (.ptr h.length 37 0) (j:Int) h2)=some (.ret,q186_x1_0 (.ptr h.length 37 0) (j:Int) h2):=by
          rw [q186_r1,hy2.len,if_pos (by simp;omega),hy2.get1 hjl (intC_get hq),asI_ok,r3,c2_ok,asA_ok,asB_ok,if_pos (by exact ⟨rfl,rfl,rfl⟩),if_pos (by simp)]
        refine ⟨x,bs,h2,?_,a,kk⟩
        rw [Lim_ret e1,bind_ok]
        dsimp only
        rw [q186_e1_0]
        rfl
  obtain ⟨x',bs',h3,e1,e2,e3⟩:=key l 0 (MV.new P m) .nils _ h1 rfl (by omega) rfl inv rfl a1 k1
  refine ⟨x',bs',h3,R_intro hE.fn ?_,e2,e3⟩
  rw [q186_eq,if_pos (by exact ⟨rfl,p.len⟩),r1,c1_ok,asC_ok]
  rw [Nat.zero_add,show ((0:Nat):Int)=0 from rfl] at e1
  exact e1
end
section both
variable {n:Nat} {h:AHeap} {k:Nat} {x:Cell} {pc:List Cell} {V:MV} {n' k':Nat} {x':Cell} {bs pc':List Cell} {W:MV}
end both
section
variable {E:Env}
def CopyOk (n:Nat) (h:AHeap) (k:Nat) (x:Cell) (P:PProg) (cs:List Cell) (pc:List Cell) (x12 x13:Cell):Prop :=
  x12=.nilp∨∃(kc:Nat) (xc:Cell) (W:MV) (n' k':Nat) (x':Cell) (bs:List Cell),x12=.ptr kc 329 0∧x13=.ptr k' 37 0∧Both n h kc xc pc W n' k' x' bs cs W∧kc≠k∧(∀j,isBlk x j→¬isBlk xc j)∧(∀j,isBlk x j→¬isBlk x' j)∧W.P=P∧W.st.length≤100
end
end Jq

namespace Jq
open Go
theorem Own.cellsG {n:Nat} {h:AHeap} {x:Cell} {esz len:Nat} {cs:List Cell} (o:Own n h x esz cs len):slCells h esz x=some cs:=by
  have hl:=o.1
  rcases o.2 with ⟨rfl,h0⟩ | ⟨k,rfl,_,hb⟩
  · have:cs=[]:=List.length_eq_zero_iff.1 (by rw [hl,h0];simp)
    rw [this];rfl
  · unfold slCells
    dsimp only
    by_cases h0:len=0
    · have:cs=[]:=List.length_eq_zero_iff.1 (by rw [hl,h0];simp)
      rw [if_pos h0,this]
    · rw [if_neg h0,hb]
      simp only
      rw [if_pos ⟨by trivial,by omega⟩,List.drop_zero,List.take_of_length_le (by omega)]
theorem own_empty (n:Nat) (h:AHeap) (esz:Nat) (hn:n≤h.length):Own n (h++[some ⟨true,esz,[]⟩]) (.sl h.length 0 0 0) esz [] 0 :=
  ⟨by simp,.inr ⟨h.length,rfl,hn,blk_new _ _⟩⟩
theorem getD_set_ne {l:List Cell} {i j:Nat} (h:i≠j) (c:Cell):(l.set i c).getD j .nils=l.getD j .nils:=by
  rw [List.getD_eq_getElem?_getD,List.getD_eq_getElem?_getD,List.getElem?_set_ne h]
section
variable {E:Env}
end
end Jq

namespace Jq
open Go
variable (C:CallF) (L:LoopF) (G:Glo)
def q254_k2 (C:CallF) (L:LoopF) (G:Glo) (h0:AHeap):Ex→St→Option (List AV × AHeap):=kSeq (fun st=>q254_p1.exec C L G st (q254.fin G h0)) (q254.fin G h0)
def q254_k3 (C:CallF) (L:LoopF) (G:Glo) (h0:AHeap):Ex→St→Option (List AV × AHeap):=kBlk 0 (q254_k2 C L G h0)
def q254_s1 (x2 x7 x8:Cell) (a9:Int) (h:AHeap):St:=⟨tops 2 (.v (.c x2) :: tops 4 (.v (.c x7) :: .v (.c x8) :: .v (.c (.int .i64 a9)) :: tops 46 [])),[none],h⟩
def q254_F1 (C:CallF) (L:LoopF) (G:Glo):St→Option (Ex × St):=roundF (fun st f=>q254_b1.exec C L G st f) [2,7,8,9] [] [(0,[6],[]),(1,[8],[])]
def q254_x1_0 (x6:Cell) (h:AHeap):St:=⟨tops 6 (.v (.c x6) :: tops 49 []),[none],h⟩
def q254_x1_1 (x8:Cell) (h:AHeap):St:=⟨tops 8 (.v (.c x8) :: tops 47 []),[none],h⟩
theorem q254_r1 (x2 x7 x8:Cell) (a9:Int) (h:AHeap):q254_F1 C L G (q254_s1 x2 x7 x8 a9 h)=if (decide (a9<60))=true then c1 (C 181 [(.c x7)] h) fun y_5 h_4=>asC y_5 fun x_6=>lenK x_6 fun n_7=>if (n_7==0)=true then some (.ret,(q254_x1_0 x8 h_4)) else lenK x2 fun n_8=>if (decide (a9<n_8))=true then idxSK 1 x2 a9 fun k_9 N_10 o_11=>rdH h_4 k_9 N_10 fun l_12=>atK l_12 o_11 fun q_13=>asI .i64 (.c q_13) fun n_14=>lenK x_6 fun n_15=>if n_15=0 then none else let v_16:Int:=(G.rem .i64 (G.band .i64 n_14 65535) n_15);idxSK 1 x_6 v_16 fun k_17 N_18 o_19=>rdH h_4 k_17 N_18 fun l_20=>atK l_20 o_19 fun q_21=>asI .i64 (.c q_21) fun n_22=>c2 (C 182 [(.c x7),(.c (.int .i64 n_22))] h_4) fun y_24 y_25 h_23=>asA y_24 fun l_26=>asB y_25 fun b_27=>lenK x_6 fun n_28=>if n_28=0 then none else let v_29:Int:=(G.rem .i64 (G.band .i64 n_14 65535) n_28);idxSK 1 x_6 v_29 fun k_30 N_31 o_32=>rdH h_23 k_30 N_31 fun l_33=>atK l_33 o_32 fun q_34=>asI .i64 (.c q_34) fun n_35=>if (splice [Cell.int .i64 0] 0 ([(.int .i64 n_35)]:List Cell)).length=1*1 then appK 1 8 x8 (splice [Cell.int .i64 0] 0 ([(.int .i64 n_35)]:List Cell)) h_23 fun x_36 h_37=>some (.normal,(q254_s1 x2 x7 x_36 (G.wrap .i64 (a9+1)) h_37)) else none else lenK x_6 fun n_38=>if n_38=0 then none else idxSK 1 x_6 (G.rem .i64 (G.wrap .i64 (a9*3)) n_38) fun k_39 N_40 o_41=>rdH h_4 k_39 N_40 fun l_42=>atK l_42 o_41 fun q_43=>asI .i64 (.c q_43) fun n_44=>c2 (C 182 [(.c x7),(.c (.int .i64 n_44))] h_4) fun y_46 y_47 h_45=>asA y_46 fun l_48=>asB y_47 fun b_49=>lenK x_6 fun n_50=>if n_50=0 then none else idxSK 1 x_6 (G.rem .i64 (G.wrap .i64 (a9*3)) n_50) fun k_51 N_52 o_53=>rdH h_45 k_51 N_52 fun l_54=>atK l_54 o_53 fun q_55=>asI .i64 (.c q_55) fun n_56=>if (splice [Cell.int .i64 0] 0 ([(.int .i64 n_56)]:List Cell)).length=1*1 then appK 1 8 x8 (splice [Cell.int .i64 0] 0 ([(.int .i64 n_56)]:List Cell)) h_45 fun x_57 h_58=>some (.normal,(q254_s1 x2 x7 x_57 (G.wrap .i64 (a9+1)) h_58)) else none else some ((.exit 0),(q254_x1_1 x8 h)):=by kernel_rfl
theorem q254_e1_0 (h0:AHeap) (x6:Cell) (h:AHeap):(q254_k3 C L G h0) .ret (q254_x1_0 x6 h)=some ([(.c x6)],h):=by kernel_rfl
theorem q254_e1_1 (h0:AHeap) (x8:Cell) (h:AHeap):(q254_k3 C L G h0) (.exit 0) (q254_x1_1 x8 h)=some ([(.c x8)],h):=by kernel_rfl
set_option maxRecDepth 100000 in
theorem q254_eq (l0:List Cell) (a1:Int) (x2:Cell) (h0:AHeap):q254.body C L G [(.agg l0),(.c (.int .i64 a1)),(.c x2)] h0=if 0=0∧l0.length=3 then c1 (C 180 [(.agg l0),(.c (.int .i64 a1))] h0) fun y_2 h_1=>asC y_2 fun x_3=>(L (q254_F1 C L G) (q254_s1 x2 x_3 .nils 0 h_1)).bind fun p_59=>(q254_k3 C L G h0) p_59.1 p_59.2 else none:=by kernel_rfl
end Jq

namespace Jq
open Go
theorem ptrK_p {α:Type} {k N o:Nat} {f:Nat→Nat→Nat→Option α}:ptrK (.ptr k N o) f=f k N o:=rfl
def MV.whole (V:MV) (l:List Int):Prop:=(V.runG l).2=l.length
def MV.runs (V:MV) (l:List Int):MV:=(V.runG l).1
theorem MV.runG_cons (V:MV) (p:Int) (ps:List Int):V.runG (p :: ps)=if mayI V p=true then (((V.nx p.toNat).runG ps).1,((V.nx p.toNat).runG ps).2+1) else (V,0):=rfl
theorem MV.runs_inv {V:MV} (v:V.Inv) (l:List Int):(V.runs l).Inv∧(V.runs l).P=V.P∧(V.runs l).m=V.m:=⟨(MV.runG_inv v l).1,(MV.runG_inv v l).2.1,(MV.runG_inv v l).2.2.1⟩
theorem MV.runs_st {V:MV} (v:V.Inv) {l:List Int} (hw:V.whole l):(V.runs l).st.length=V.st.length+l.length:=by
  have:=(MV.runG_inv v l).2.2.2.1
  unfold MV.whole at hw
  unfold MV.runs
  omega
theorem chooseR {V:MV} {y:Cell} {n:Nat} {h:AHeap} (o:Own n h y 1 (natC (bitsL V.word)) (bitsL V.word).length) {v:Int} (h0:0≤v) (h1:v<(bitsL V.word).length) :
    ∃i:Nat,V.may i=true∧∀h',(∀j b,isBlk y j→blk? h j=some b→blk? h' j=some b)→∀{α:Type} (f:Cell→Option α),(idxSK 1 y v fun k N o=>rdH h' k N fun l=>atK l o f)=f (.int .i64 (i:Int)):=by
  obtain ⟨q,rfl⟩:=Int.eq_ofNat_of_zero_le h0
  have hq:q<(bitsL V.word).length:=by omega
  have hg:=List.getElem?_eq_getElem hq
  exact ⟨(bitsL V.word)[q],bits_may hg,fun h' hf α f=>(o.via hf).at.get1 hq (natC_get hg)⟩
theorem RvAt.apart {n k:Nat} {h:AHeap} {x:Cell} {bs pc:List Cell} {V:MV} (a:RvAt n h k x bs pc V) {n1 len:Nat} {y:Cell} {cs:List Cell} (o:Own n1 h y 1 cs len) {j:Nat} (hj:isBlk y j):j≠k∧¬isBlk x j∧∀t,t<4→¬isBlk (bs.getD t .nils) j:=by
  have h1:=o.has hj
  refine ⟨fun e=>?_,fun q=>?_,fun t ht q=>?_⟩
  · rw [e,a.blk] at h1
    have:=(Blk.mk.inj (Option.some.inj h1)).2.1
    omega
  · rw [a.st.has q] at h1
    have:=(Blk.mk.inj (Option.some.inj h1)).2.1
    omega
  · rw [(a.bf t ht).1.has q] at h1
    have:=(Blk.mk.inj (Option.some.inj h1)).2.1
    omega
section
variable {E:Env}
set_option maxHeartbeats 2000000 in
theorem Any_R (hE:q254_In E) {h:AHeap} {pc:List Cell} {P:PProg} (p:ProgAt h pc P) (hg:P.good) (h4:P.thr.length≤4) (hil:P.init.length≤4) {m:Int} (hm:1≤m∧m≤3) (inv:(MV.new P m).Inv) {y:Cell} {ps:List Int} (hy:SlAt h y 1 (intC .i64 ps) ps.length) (hlow:Low h.length y) :
    ∃z row h',R E 254 [.agg pc,.c (.int .i64 m),.c y] h=some ([.c z],h')∧Own h.length h' z 1 (intC .i64 row) row.length∧Kp h.length h h'∧(MV.new P m).whole row∧row.length≤60∧(row.length=60∨((MV.new P m).runs row).word=0):=by
  have hM:maxBytes≥1000*8:=by unfold maxBytes;omega
  obtain ⟨h1,r1,a1,k1⟩:=rNew_R hE.c180 p hg h4 hil hm
  obtain ⟨e,he,hQ⟩:=Lim_fallN (F:=q254_F1 (R E) Lim E.glob)
    (fun q st=>∃(row:List Int) (z zs:Cell) (bs:List Cell) (h':AHeap),q=60 - row.length∧row.length≤60∧st=q254_s1 y (.ptr h.length 37 0) z (row.length:Int) h'∧(MV.new P m).whole row∧RvAt h.length h' h.length zs bs pc ((MV.new P m).runs row)∧Own h.length h' z 1 (intC .i64 row) row.length∧Kp h.length h h')
    (fun e=>∃(row:List Int) (z:Cell) (h':AHeap),(e=(.ret,q254_x1_0 z h')∨e=(.exit 0,q254_x1_1 z h'))∧Own h.length h' z 1 (intC .i64 row) row.length∧Kp h.length h h'∧(MV.new P m).whole row∧row.length≤60∧(row.length=60∨((MV.new P m).runs row).word=0))
    (fun q st hI=>by
      obtain ⟨row,z,zs,bs,h',rfl,hr60,rfl,hw,a,oz,kk⟩:=hI
      by_cases h60:row.length<60
      · obtain ⟨v,vP,vm⟩:=MV.runs_inv inv row
        have vst:=MV.runs_st inv hw
        rw [show (MV.new P m).st.length=0 from rfl,Nat.zero_add] at vst
        generalize hV:(MV.new P m).runs row=V at *
        have hg':V.P.good:=by rw [vP];exact hg
        obtain ⟨x6,h4,r4,o4,k4⟩:=rEnabled_R hE.c181 a v.fit hg'
        have a4:=a.keep k4
        have oz4:=oz.keepK k4
        have kk4:Kp h.length h h4:=kk.trans (k4.mono kk.1)
        by_cases h0:(bitsL V.word).length=0
        · refine .inr ⟨_,?_,(by simp:Ex.ret≠.normal),row,z,h4,.inl rfl,oz4,kk4,hw,hr60,.inr (by rw [hV];exact bits_none.1 h0)⟩
          rw [q254_r1,if_pos (by simp;omega),r4,c1_ok,asC_ok,o4.at.len,if_pos (by rw [h0];rfl)]
        · refine .inl ?_
          have last:∀i:Nat,V.may i=true→∃h7 z9 h9 zs7,R E 182 [.c (.ptr h.length 37 0),.c (.int .i64 (i:Int))] h4=some ([.agg (V.stp i).cs,.c (.bool true)],h7)∧(∀j b,isBlk x6 j→blk? h4 j=some b→blk? h7 j=some b) ∧
              (∀{α:Type} (f:Cell→AHeap→Option α),appK 1 8 z (splice [Cell.int .i64 0] 0 ([(.int .i64 (i:Int))]:List Cell)) h7 f=f z9 h9) ∧
              (∃(row':List Int) (zs:Cell) (bs:List Cell),row'.length=row.length+1∧(MV.new P m).whole row'∧RvAt h.length h9 h.length zs bs pc ((MV.new P m).runs row')∧Own h.length h9 z9 1 (intC .i64 row') row'.length∧Kp h.length h h9)∧zs7=zs:=by
            intro i hi
            obtain ⟨zs7,bs7,h7,r7,a7,k7⟩:=rPick_R hE.c182 a4 v hg' (by omega) hi
            have oz7:Own h.length h7 z 1 (intC .i64 row) row.length:=oz4.via fun j b q1 q2=>(k7.old j b q2 (a4.apart oz4 q1).1 (a4.apart oz4 q1).2.1).1
            have kk7:=kk4.trans k7.kp
            obtain ⟨z9,h9,e9,o9,k9,s9⟩:=oz7.app (bytes:=8) (xs:=[.int .i64 (i:Int)]) kk7.1 rfl (by omega) (by omega) (by omega)
            have rs:(MV.new P m).runG (row++[(i:Int)])=(V.nx i,row.length+1):=by
              have:=MV.runG_snoc row (MV.new P m) i hw (by rw [show ((MV.new P m).runG row).1=V from hV];exact hi)
              rw [this,show ((MV.new P m).runG row).1=V from hV]
            refine ⟨h7,z9,h9,zs,r7,fun j b q1 q2=>(k7.old j b q2 (a4.apart o4 q1).1 (a4.apart o4 q1).2.1).1,fun f=>e9 f,⟨row++[(i:Int)],zs7,bs7,by simp,?_,?_,?_,kk7.trans k9⟩,rfl⟩
            · unfold MV.whole;rw [rs];simp
            · unfold MV.runs;rw [rs]
              have hl:h7.length≤h9.length:=k9.1
              refine a7.other hl k9 fun j b q1 q2=>(s9 j b q1 (fun q=>?_)).1
              have ap:=a7.apart oz7 q
              rcases q2 with q2 | q2 | ⟨t,ht,q2⟩
              · exact ap.1 q2
              · exact ap.2.1 q2
              · exact ap.2.2 t ht q2
            · rw [intC_snoc,List.length_append,List.length_singleton];exact o9
          have hy4:=hy.keep hlow kk4
          have hlen:(bitsL V.word).length≤64:=bits_len V.word
          by_cases hp:row.length<ps.length
          · have hq:=List.getElem?_eq_getElem hp
            generalize ps[row.length]=pq at hq
            have hb:=g_band16 (E:=E) (x:=pq)
            have hrng:=rem_rng (E:=E) (x:=E.glob.band .i64 pq 65535) (m:=((bitsL V.word).length:Int)) hb.1 (by omega)
            obtain ⟨i,hi,hch⟩:=chooseR o4 hrng.1 hrng.2
            obtain ⟨h7,z9,h9,zs7,r7,kx,e9,⟨row',zs',bs',hl',hw',a',o',kk'⟩,_⟩:=last i hi
            refine ⟨q254_s1 y (.ptr h.length 37 0) z9 (row'.length:Int) h9,60 - row'.length,?_,⟨row',z9,zs',bs',h9,rfl,by omega,rfl,hw',a',o',kk'⟩,by omega⟩
            rw [q254_r1,if_pos (by simp;omega),r4,c1_ok,asC_ok,o4.at.len,if_neg (by rw [beq_iff_eq];omega),hy4.len,if_pos (by simp;omega),hy4.get1 hp (intC_get hq),asI_ok,o4.at.len,if_neg (by omega)]
            dsimp only
            rw [hch h4 (fun _ _ _ q=>q),asI_ok,r7,c2_ok,asA_ok,asB_ok,o4.at.len,if_neg (by omega),hch h7 kx,asI_ok,if_pos (by rfl),e9,g_succ (by omega),hl']
          · have hb:E.glob.wrap .i64 ((row.length:Int)*3)=(row.length:Int)*3:=g_wrap_i64 (by omega) (by omega)
            have hrng:=rem_rng (E:=E) (x:=(row.length:Int)*3) (m:=((bitsL V.word).length:Int)) (by omega) (by omega)
            obtain ⟨i,hi,hch⟩:=chooseR o4 hrng.1 hrng.2
            obtain ⟨h7,z9,h9,zs7,r7,kx,e9,⟨row',zs',bs',hl',hw',a',o',kk'⟩,_⟩:=last i hi
            refine ⟨q254_s1 y (.ptr h.length 37 0) z9 (row'.length:Int) h9,60 - row'.length,?_,⟨row',z9,zs',bs',h9,rfl,by omega,rfl,hw',a',o',kk'⟩,by omega⟩
            rw [q254_r1,if_pos (by simp;omega),r4,c1_ok,asC_ok,o4.at.len,if_neg (by rw [beq_iff_eq];omega),hy4.len,if_neg (by simp;omega),o4.at.len,if_neg (by omega),hb,hch h4 (fun _ _ _ q=>q),asI_ok,r7,c2_ok,asA_ok,asB_ok,o4.at.len,if_neg (by omega),hch h7 kx,asI_ok,if_pos (by rfl),e9,g_succ (by omega),hl']
      · refine .inr ⟨_,?_,(by simp:Ex.exit 0≠.normal),row,z,h',.inr rfl,oz,kk,hw,hr60,.inl (by omega)⟩
        rw [q254_r1,if_neg (by simp;omega)])
    (k:=60) (st:=q254_s1 y (.ptr h.length 37 0) .nils ((([]:List Int).length:Nat):Int) h1)
    ⟨[],.nils,.nils,[.nils,.nils,.nils,.nils],h1,rfl,by simp,rfl,rfl,a1,Own.nil _ _ _,k1⟩
  obtain ⟨row,z,h',hcase,o,kk,hw,h60,hend⟩:=hQ
  refine ⟨z,row,h',R_intro hE.fn ?_,o,kk,hw,h60,hend⟩
  rw [q254_eq,if_pos (by exact ⟨rfl,p.len⟩),r1,c1_ok,asC_ok]
  rw [show ((([]:List Int).length:Nat):Int)=0 from rfl] at he
  rw [he,bind_ok]
  rcases hcase with rfl | rfl
  · dsimp only
    rw [q254_e1_0]
  · dsimp only
    rw [q254_e1_1]
end
end Jq

namespace Jq
open Go
def tOf (i:Nat):Nat:=if i<4 then i else if i<8 then i - 4 else (i - 8) / 4
theorem stp_tOf (V:MV) (i:Nat):(V.stp i).t=(tOf i:Int):=by
  unfold MV.stp tOf
  by_cases h4:i<4
  · rw [if_pos h4,if_pos h4];rfl
  · rw [if_neg h4,if_neg h4]
    by_cases h8:i<8
    · rw [if_pos h8,if_pos h8];rfl
    · rw [if_neg h8,if_neg h8];rfl
def brings (u:Stp) (w:Nat) (g:Int):Prop:=(u.kind≠6∧g=(w:Int))∨(u.kind=6∧u.frm=g)
def wrAt (m:Int) (u:Stp) (c:Int):Prop:=wrS u m=true∧u.loc=c
def RdOk (l:List Stp) (m:Int) (i:Nat) (s:Stp):Prop :=
  (s.frm = -1∧∀k u,k<i→l[k]? = some u→¬wrAt m u s.loc) ∨
  (∃w u,w<i∧l[w]? = some u∧wrAt m u s.loc∧brings u w s.frm∧∀k u',w<k→k<i→l[k]? = some u'→¬wrAt m u' s.loc) ∨
  (m≠1∧∃g:Nat,s.frm=(g:Int)∧g<i∧∃q,l[g]? = some q∧q.kind=2∧q.t=s.t∧∀j u,j<i→l[j]? = some u→u.kind=6→u.frm≠(g:Int))
theorem getI_lt_app {α:Type} {l:List α} {x:α} {k:Nat} (h:k<l.length):(l++[x])[k]? = l[k]?:=List.getElem?_append_left h
theorem RdOk.app {l:List Stp} {m:Int} {i:Nat} {s x:Stp} (h:RdOk l m i s) (hi:i≤l.length):RdOk (l++[x]) m i s:=by
  rcases h with ⟨h1,h2⟩ | ⟨w,u,h1,h2,h3,h4,h5⟩ | ⟨h0,g,h1,h2,q,h3,h4,h5,h6⟩
  · exact .inl ⟨h1,fun k u hk hu=>h2 k u hk (by rw [getI_lt_app (by omega)] at hu;exact hu)⟩
  · exact .inr (.inl ⟨w,u,h1,getI_old h2,h3,h4,fun k u' hk hk' hu=>h5 k u' hk hk' (by rw [getI_lt_app (by omega)] at hu;exact hu)⟩)
  · exact .inr (.inr ⟨h0,g,h1,h2,q,getI_old h3,h4,h5,fun j u hj hu=>h6 j u hj (by rw [getI_lt_app (by omega)] at hu;exact hu)⟩)
structure Hist3 (V:MV):Prop where
  pk:∀(k:Nat) s,V.st[k]? = some s→∃i:Nat,s.pick=(i:Int)∧s.t=(tOf i:Int)
  loc:∀(k:Nat) s,V.st[k]? = some s→0≤s.loc∧s.loc<4
  fl:∀(j:Nat) u,V.st[j]? = some u→u.kind=6→V.m≠1∧∃g:Nat,u.frm=(g:Int)∧g<j∧∃s,V.st[g]? = some s∧s.kind=2∧s.t=u.t∧s.loc=u.loc
  un:∀(j:Nat) u (j':Nat) u',V.st[j]? = some u→V.st[j']? = some u'→u.kind=6→u'.kind=6→u.frm=u'.frm→j=j'
  mm:∀c:Nat,c<4→(V.frm.getD c 0 = -1∧∀(k:Nat) u,V.st[k]? = some u→¬wrAt V.m u (c:Int))∨∃(w:Nat) (u:Stp),V.st[w]? = some u∧wrAt V.m u (c:Int)∧brings u w (V.frm.getD c 0)∧∀(k:Nat) u',w<k→V.st[k]? = some u'→¬wrAt V.m u' (c:Int)
  rd:∀(i:Nat) s,V.st[i]? = some s→rdS s=true→RdOk V.st V.m i s
theorem Hist3.new (P:PProg) (m:Int):Hist3 (MV.new P m):=by
  have hs:∀(k:Nat) (s:Stp),(MV.new P m).st[k]? = some s→False:=fun k s h=>by
    have:(MV.new P m).st=[]:=rfl
    rw [this] at h;simp at h
  refine ⟨fun k s h=>(hs k s h).elim,fun k s h=>(hs k s h).elim,fun k s h=>(hs k s h).elim,fun j u j' u' h=>(hs j u h).elim,fun c hc=>.inl ⟨?_,fun k u h=>(hs k u h).elim⟩,fun k s h=>(hs k s h).elim⟩
  show ([-1,-1,-1,-1]:List Int).getD c 0 = -1
  rcases (show c=0∨c=1∨c=2∨c=3 by omega) with rfl | rfl | rfl | rfl<;>rfl
theorem wrS_thr {s:Stp} {m:Int} (hk:s.kind≤5):wrS s m=true↔(s.kind=4∨(s.kind=2∧m=1)):=by
  unfold wrS
  simp
  omega
theorem newE_mem {c:Int} {l:List Ent} {e:Ent} (h:newE c l=some e):e∈l∧e.loc=c:=by
  unfold newE at h
  have h1:=List.mem_of_find?_eq_some h
  have h2:=List.find?_some h
  exact ⟨List.mem_reverse.1 h1,by simpa using h2⟩
theorem MV.Inv.hist3_nx {V:MV} (v:V.Inv) (H:Hist V) (H3:Hist3 V) {i:Nat} (hi:V.may i=true):Hist3 (V.nx i):=by
  have hmm:(V.nx i).m=V.m:=(V.nx_P i).2
  have hst:(V.nx i).st=V.st++[V.stp i]:=V.nx_st i
  have hpk:(V.stp i).pick=(i:Int)∧(V.stp i).t=(tOf i:Int):=⟨rfl,stp_tOf V i⟩
  by_cases h4:i<4
  · have T:=v.thr_step h4 hi
    generalize V.stp i=s at *
    have hk6:s.kind≠6:=by have:=T.kind;omega
    have hw:=wrS_thr (m:=V.m) (show s.kind≤5 by have:=T.kind;omega)
    refine ⟨fun k u hu=>?_,fun k u hu=>?_,fun j u hu h6=>?_,fun j u j' u' hu hu' h6 h6' he=>?_,fun c hc=>?_,fun k u hu hr=>?_⟩
    · rw [hst] at hu
      rcases getI_snoc hu with ⟨_,hu⟩ | ⟨_,rfl⟩
      · exact H3.pk k u hu
      · exact ⟨i,hpk⟩
    · rw [hst] at hu
      rcases getI_snoc hu with ⟨_,hu⟩ | ⟨_,rfl⟩
      · exact H3.loc k u hu
      · exact T.loc
    · rw [hst] at hu
      rcases getI_snoc hu with ⟨_,hu⟩ | ⟨_,rfl⟩
      · obtain ⟨h0,g,h1,h2,q,h3,h5⟩:=H3.fl j u hu h6
        exact ⟨by rw [hmm];exact h0,g,h1,h2,q,by rw [hst];exact getI_old h3,h5⟩
      · exact absurd h6 hk6
    · rw [hst] at hu hu'
      rcases getI_snoc hu with ⟨_,hu⟩ | ⟨_,rfl⟩
      · rcases getI_snoc hu' with ⟨_,hu'⟩ | ⟨_,rfl⟩
        · exact H3.un j u j' u' hu hu' h6 h6' he
        · exact absurd h6' hk6
      · exact absurd h6 hk6
    · rw [hmm,hst,T.frm]
      by_cases hc2:(s.kind=4∨(s.kind=2∧V.m=1))∧c=s.loc.toNat
      · rw [if_pos hc2]
        refine .inr ⟨V.st.length,s,getI_new,⟨hw.2 hc2.1,by have:=T.loc;omega⟩,.inl ⟨hk6,rfl⟩,fun k u' hk hu=>?_⟩
        have:=getI_lt hu
        rw [List.length_append,List.length_singleton] at this
        omega
      · rw [if_neg hc2]
        have hno:¬wrAt V.m s (c:Int):=fun q=>hc2 ⟨hw.1 q.1,by have:=q.2;omega⟩
        rcases H3.mm c hc with ⟨h1,h2⟩ | ⟨w,u,h1,h2,h3,h5⟩
        · refine .inl ⟨h1,fun k u hu=>?_⟩
          rcases getI_snoc hu with ⟨_,hu⟩ | ⟨_,rfl⟩
          · exact h2 k u hu
          · exact hno
        · refine .inr ⟨w,u,getI_old h1,h2,h3,fun k u' hk hu=>?_⟩
          rcases getI_snoc hu with ⟨_,hu⟩ | ⟨_,rfl⟩
          · exact h5 k u' hk hu
          · exact hno
    · rw [hst] at hu
      rw [hmm,hst]
      rcases getI_snoc hu with ⟨hl,hu⟩ | ⟨hl,rfl⟩
      · exact (H3.rd k u hu hr).app (by omega)
      · have hr':u.kind=1∨u.kind=4∨u.kind=5:=by
          unfold rdS at hr
          simp only [Bool.or_eq_true,beq_iff_eq] at hr
          omega
        have hrd:=(T.read hr').2
        subst hl
        refine RdOk.app ?_ (Nat.le_refl _)
        cases hn:newE u.loc (V.b i) with
        | some e =>
          rw [hn] at hrd
          dsimp only at hrd
          obtain ⟨he,_⟩:=newE_mem hn
          obtain ⟨g,hg,q,h1,h2,h3,_,_,h6⟩:=H.ent i e he
          refine .inr (.inr ⟨fun hm1=>?_,g,by rw [hrd,hg],getI_lt h1,q,h1,h2,by rw [h3,T.t],fun j w _ hw h6'=>?_⟩)
          · rw [H.own hm1] at he;cases he
          · rw [←hg];exact h6 j w hw h6'
        | none =>
          rw [hn] at hrd
          dsimp only at hrd
          have hl:=T.loc
          have hcc:((u.loc.toNat:Nat):Int)=u.loc:=by omega
          rcases H3.mm u.loc.toNat (by omega) with ⟨h1,h2⟩ | ⟨w,x,h1,h2,h3,h5⟩
          · refine .inl ⟨by rw [hrd,h1],fun k y _ hy=>?_⟩
            rw [←hcc];exact h2 k y hy
          · rw [hcc] at h2 h5
            exact .inr (.inl ⟨w,x,getI_lt h1,h1,h2,by rw [hrd];exact h3,fun k y hk _ hy=>h5 k y hk hy⟩)
  · obtain ⟨t,p,e,F⟩:=v.flu_step h4 hi
    generalize V.stp i=s at *
    have hem:=List.mem_of_find?_eq_some F.f
    obtain ⟨g,hg,q,q1,q2,q3,q4,_,q6⟩:=H.ent t e hem
    have hel:=v.mem_b hem
    have hs:=F.s
    have hk:s.kind=6:=by rw [hs]
    have hsl:s.loc=e.loc:=by rw [hs]
    have hsf:s.frm=e.id:=by rw [hs]
    have hst':s.t=(t:Int):=by rw [hs]
    have hw:wrS s V.m=true:=by unfold wrS;rw [hk];rfl
    have hm1:V.m≠1:=by have:=F.m;omega
    refine ⟨fun k u hu=>?_,fun k u hu=>?_,fun j u hu h6=>?_,fun j u j' u' hu hu' h6 h6' he=>?_,fun c hc=>?_,fun k u hu hr=>?_⟩
    · rw [hst] at hu
      rcases getI_snoc hu with ⟨_,hu⟩ | ⟨_,rfl⟩
      · exact H3.pk k u hu
      · exact ⟨i,hpk⟩
    · rw [hst] at hu
      rcases getI_snoc hu with ⟨_,hu⟩ | ⟨_,rfl⟩
      · exact H3.loc k u hu
      · rw [hsl];exact hel
    · rw [hmm]
      rw [hst] at hu
      rw [hst]
      rcases getI_snoc hu with ⟨_,hu⟩ | ⟨hl,rfl⟩
      · obtain ⟨h0,g',h1,h2,q',h3,h5⟩:=H3.fl j u hu h6
        exact ⟨h0,g',h1,h2,q',getI_old h3,h5⟩
      · exact ⟨hm1,g,by rw [hsf,hg],by have:=getI_lt q1;omega,q,getI_old q1,q2,by rw [q3,hst'],by rw [q4,hsl]⟩
    · rw [hst] at hu hu'
      rcases getI_snoc hu with ⟨_,ha⟩ | ⟨hl,ha⟩
      · rcases getI_snoc hu' with ⟨_,hb⟩ | ⟨hl',hb⟩
        · exact H3.un j u j' u' ha hb h6 h6' he
        · rw [hb,hsf] at he
          exact absurd he (q6 j u ha h6)
      · rcases getI_snoc hu' with ⟨_,hb⟩ | ⟨hl',hb⟩
        · rw [ha,hsf] at he
          exact absurd he.symm (q6 j' u' hb h6')
        · omega
    · rw [hmm,hst,F.frm]
      by_cases hc2:c=e.loc.toNat
      · rw [if_pos hc2]
        refine .inr ⟨V.st.length,s,getI_new,⟨hw,by omega⟩,.inr ⟨hk,hsf⟩,fun k u' hk hu=>?_⟩
        have:=getI_lt hu
        rw [List.length_append,List.length_singleton] at this
        omega
      · rw [if_neg hc2]
        have hno:¬wrAt V.m s (c:Int):=fun q=>hc2 (by have:=q.2;omega)
        rcases H3.mm c hc with ⟨h1,h2⟩ | ⟨w,u,h1,h2,h3,h5⟩
        · refine .inl ⟨h1,fun k u hu=>?_⟩
          rcases getI_snoc hu with ⟨_,hu⟩ | ⟨_,rfl⟩
          · exact h2 k u hu
          · exact hno
        · refine .inr ⟨w,u,getI_old h1,h2,h3,fun k u' hk hu=>?_⟩
          rcases getI_snoc hu with ⟨_,hu⟩ | ⟨_,rfl⟩
          · exact h5 k u' hk hu
          · exact hno
    · rw [hst] at hu
      rw [hmm,hst]
      rcases getI_snoc hu with ⟨hl,hu⟩ | ⟨hl,rfl⟩
      · exact (H3.rd k u hu hr).app (by omega)
      · unfold rdS at hr
        rw [hk] at hr
        simp at hr
theorem MV.runs_hist3:∀(l:List Int) {V:MV},V.Inv→Hist V→Hist3 V→Hist (V.runs l)∧Hist3 (V.runs l)
  | [],_,_,H,H3=>⟨H,H3⟩
  | p :: ps,V,v,H,H3=>by
    unfold MV.runs
    rw [MV.runG_cons]
    by_cases h:mayI V p=true
    · obtain ⟨j,rfl,hj,hn⟩:=mayI_at h
      rw [if_pos h,hn]
      exact MV.runs_hist3 ps (v.nx hj) (v.hist_nx H hj) (v.hist3_nx H H3 hj)
    · rw [if_neg h];exact ⟨H,H3⟩
end Jq

namespace Jq
open Go
theorem came_wr {l:List Stp} {m:Int} {g:Nat} (h:0≤cameT l m g):∃q,l[(cameT l m g).toNat]? = some q∧wrS q m=true:=by
  unfold cameT at h ⊢
  split at h
  · rename_i q hq
    split at h
    · rename_i hw
      rw [if_pos hw]
      exact ⟨q,by rw [Int.toNat_natCast];exact hq,hw⟩
    · rename_i hw
      rw [if_neg hw]
      split at h
      · rename_i j hj
        obtain ⟨h1,h2,_⟩:=List.findIdx?_eq_some_iff_getElem.1 hj
        refine ⟨l[j],by rw [Int.toNat_natCast];exact List.getElem?_eq_getElem h1,?_⟩
        unfold isCame at h2
        rw [Bool.and_eq_true] at h2
        unfold wrS
        rw [h2.1];rfl
      · omega
  · omega
section
variable {V:MV} (H3:Hist3 V)
include H3
theorem Hist3.came {w:Nat} {u:Stp} {g:Int} (hw:V.st[w]? = some u) (hwr:wrS u V.m=true) (hb:brings u w g):∃g':Nat,g=(g':Int)∧g'<V.st.length∧cameT V.st V.m g'=(w:Int):=by
  have hlw:=getI_lt hw
  rcases hb with ⟨h1,h2⟩ | ⟨h1,h2⟩
  · refine ⟨w,h2,hlw,?_⟩
    unfold cameT
    rw [hw]
    dsimp only
    rw [if_pos hwr]
  · obtain ⟨hm,g',hg,hgl,q,hq,hk,_⟩:=H3.fl w u hw h1
    refine ⟨g',by rw [←h2,hg],by omega,?_⟩
    have hwq:¬wrS q V.m=true:=by
      unfold wrS
      rw [hk]
      simp
      exact hm
    unfold cameT
    rw [hq]
    dsimp only
    rw [if_neg hwq]
    have hcw:isCame g' u=true:=by unfold isCame;rw [h1,hg];simp
    cases hf:V.st.findIdx? (isCame g') with
    | none =>
      rw [List.findIdx?_eq_none_iff] at hf
      have:=hf u (List.mem_of_getElem? hw)
      rw [hcw] at this;cases this
    | some j =>
      obtain ⟨h3,h4,_⟩:=List.findIdx?_eq_some_iff_getElem.1 hf
      unfold isCame at h4
      rw [Bool.and_eq_true,beq_iff_eq,beq_iff_eq] at h4
      have:=H3.un j V.st[j] w u (List.getElem?_eq_getElem h3) hw h4.1 h1 (by rw [h4.2,hg])
      dsimp only
      omega
theorem Hist3.read {i:Nat} {s:Stp} (hs:V.st[i]? = some s) (hr:rdS s=true) {a b:Nat} (h:readE V.st V.m i s a b=true):a<b:=by
  unfold readE at h
  have hwrAt:∀k,wrE V.st V.m s.loc k=true→∃u,V.st[k]? = some u∧wrAt V.m u s.loc:=fun k hk=>by
    unfold wrE at hk
    split at hk
    · rename_i u hu
      rw [Bool.and_eq_true,beq_iff_eq] at hk
      exact ⟨u,hu,hk.1,hk.2⟩
    · cases hk
  rcases H3.rd i s hs hr with ⟨h1,h2⟩ | ⟨w,u,h1,h2,h3,h4,h5⟩ | ⟨h0,g,h1,h2,q,h3,h4,h5,h6⟩
  · have hf:fromE V.st V.m s=some (-1):=by unfold fromE;rw [if_neg (by omega)]
    rw [hf] at h
    simp only [Bool.or_eq_true,Bool.and_eq_true,decide_eq_true_eq,bne_iff_ne] at h
    rcases h with ⟨⟨⟨_,hx⟩,_⟩,_⟩ | ⟨⟨⟨ha,_⟩,hb⟩,hw⟩
    · omega
    · obtain ⟨u,hu,hwa⟩:=hwrAt b hw
      rcases Nat.lt_or_ge b i with c | c
      · exact absurd hwa (h2 b u c hu)
      · omega
  · obtain ⟨g',hg,hgl,hc⟩:=H3.came h2 h3.1 h4
    have hf:fromE V.st V.m s=some (w:Int):=by
      unfold fromE
      rw [if_pos (by omega),hg,Int.toNat_natCast,hc,if_neg (by omega)]
    rw [hf] at h
    simp only [Bool.or_eq_true,Bool.and_eq_true,decide_eq_true_eq,bne_iff_ne] at h
    rcases h with ⟨⟨_,ha⟩,hb⟩ | ⟨⟨⟨ha,hwb⟩,hb⟩,hw⟩
    · omega
    · obtain ⟨u',hu,hwa⟩:=hwrAt b hw
      rcases Nat.lt_or_ge b i with c | c
      · exact absurd hwa (h5 b u' (by omega) c hu)
      · omega
  · have hgl:=getI_lt h3
    have hfar:farE V.st s=false:=by
      unfold farE
      rw [h1,Int.toNat_natCast,h3]
      dsimp only
      rw [h5]
      simp
    have hcm:cameT V.st V.m g<0∨(i:Int)<cameT V.st V.m g:=by
      unfold cameT
      rw [h3]
      dsimp only
      have hwq:¬wrS q V.m=true:=by
        unfold wrS
        rw [h4]
        simp
        exact h0
      rw [if_neg hwq]
      cases hf:V.st.findIdx? (isCame g) with
      | none=>exact .inl (by dsimp only;omega)
      | some j =>
        obtain ⟨h7,h8,_⟩:=List.findIdx?_eq_some_iff_getElem.1 hf
        unfold isCame at h8
        rw [Bool.and_eq_true,beq_iff_eq,beq_iff_eq] at h8
        refine .inr ?_
        dsimp only
        rcases Nat.lt_trichotomy j i with c | c | c
        · exact absurd h8.2 (h6 j _ c (List.getElem?_eq_getElem h7) h8.1)
        · subst c
          have:V.st[j]=s:=by rw [List.getElem?_eq_getElem h7] at hs;exact Option.some.inj hs
          rw [this] at h8
          unfold rdS at hr
          rw [h8.1] at hr
          simp at hr
        · omega
    have hf:fromE V.st V.m s=if cameT V.st V.m g<0 then none else some (cameT V.st V.m g):=by
      unfold fromE
      rw [if_pos (by omega),h1,Int.toNat_natCast]
    rw [hf] at h
    by_cases hc:cameT V.st V.m g<0
    · rw [if_pos hc] at h;cases h
    · rw [if_neg hc,hfar] at h
      simp only [Bool.false_and,Bool.false_or,Bool.and_eq_true,decide_eq_true_eq,bne_iff_ne] at h
      omega
theorem Hist3.rises {a b:Nat} (h:baseE V.st V.m a b=true):a<b:=by
  unfold baseE at h
  rw [Bool.or_eq_true,Bool.and_eq_true,decide_eq_true_eq] at h
  rcases h with h | h
  · exact h.1
  · obtain ⟨i,_,hi⟩:=List.any_eq_true.1 h
    unfold rdE at hi
    split at hi
    · rename_i s hs
      rw [Bool.and_eq_true] at hi
      exact H3.read hs hi.1 hi.2
    · cases hi
theorem Hist3.touch {a b:Nat} {x y:Stp} (hx:V.st[a]? = some x) (hy:V.st[b]? = some y) (hxy:x.t≠y.t) (h:baseE V.st V.m a b=true):(wrS x V.m||rdS x)=true∧(wrS y V.m||rdS y)=true:=by
  unfold baseE at h
  rw [Bool.or_eq_true,Bool.and_eq_true,decide_eq_true_eq] at h
  rcases h with ⟨_,h⟩ | h
  · unfold edgeE at h
    rw [hx,hy] at h
    dsimp only at h
    unfold pairE at h
    simp only [Bool.or_eq_true,Bool.and_eq_true,beq_iff_eq] at h
    rcases h with ((h | h) | h) | h
    · exfalso
      obtain ⟨i,h1,h2⟩:=H3.pk a x hx
      obtain ⟨j,h3,h4⟩:=H3.pk b y hy
      have:i=j:=by omega
      subst this
      exact hxy (by rw [h2,h4])
    · rw [h.1.1,h.1.2];exact ⟨rfl,rfl⟩
    · exfalso
      obtain ⟨_,g,h1,_,q,h2,_,h3,_⟩:=H3.fl b y hy h.1
      have:g=a:=by omega
      subst this
      rw [hx] at h2
      cases h2
      exact hxy h3
    · exact absurd h.1.2 hxy
  · obtain ⟨i,_,hi⟩:=List.any_eq_true.1 h
    unfold rdE at hi
    split at hi
    · rename_i s hs
      rw [Bool.and_eq_true] at hi
      obtain ⟨hr,hi⟩:=hi
      unfold readE at hi
      split at hi
      · cases hi
      · rename_i f hf
        simp only [Bool.or_eq_true,Bool.and_eq_true,decide_eq_true_eq] at hi
        rcases hi with ⟨⟨⟨_,h0⟩,ha⟩,hb⟩ | ⟨⟨⟨ha,_⟩,_⟩,hw⟩
        · subst hb
          have hsy:s=y:=Option.some.inj (hs.symm.trans hy)
          subst hsy
          refine ⟨?_,by rw [hr,Bool.or_true]⟩
          unfold fromE at hf
          split at hf
          · split at hf
            · cases hf
            · have hf:=Option.some.inj hf
              obtain ⟨q,h1,h2⟩:=came_wr (l:=V.st) (m:=V.m) (g:=s.frm.toNat) (by omega)
              rw [hf,←ha,hx] at h1
              cases h1
              rw [h2];rfl
          · have hf:=Option.some.inj hf
            omega
        · subst ha
          rw [hs] at hx
          cases hx
          refine ⟨by rw [hr,Bool.or_true],?_⟩
          unfold wrE at hw
          rw [hy] at hw
          dsimp only at hw
          rw [Bool.and_eq_true] at hw
          rw [hw.1];rfl
    · cases hi
theorem Hist3.way {n k:Nat} (hn:n≤64) {a b:Nat} (w:Way (ACC n (baseE V.st V.m)) k a b):a<b∧b<n:=by
  induction w with
  | one h =>
    rw [b_ACC hn,Bool.and_eq_true,Bool.and_eq_true,decide_eq_true_eq,decide_eq_true_eq] at h
    exact ⟨H3.rises h.2,h.1.2⟩
  | step h _ _ ih =>
    rw [b_ACC hn,Bool.and_eq_true,Bool.and_eq_true,decide_eq_true_eq,decide_eq_true_eq] at h
    have:=H3.rises h.2
    omega
end
end Jq

namespace Jq
open Go
def TT (F G:Nat→Nat) (i j:Nat):Nat→Nat:=fun a=>mkN fun b=>(List.range 64).any fun k=>upto i j a k&&(F a).testBit k&&(G k).testBit b
def acA (n:Nat) (t:Bool) (P:Nat→Nat→Bool) (i j:Nat):List Cell:=relL n (ACC n fun a b=>if t then upto i j b a&&P b a else upto i j a b&&P a b)
def UN (r:Nat) (f g:Nat→Nat):Nat→Nat:=fun i=>mkN fun j=>decide (i<r)&&decide (j<r)&&((f i).testBit j||(g i).testBit j)
def DI (r:Nat) (f g:Nat→Nat):Nat→Nat:=fun i=>mkN fun j=>decide (i<r)&&decide (j<r)&&((f i).testBit j&&!(g i).testBit j)
def ME (r:Nat) (f g:Nat→Nat):Nat→Nat:=fun i=>mkN fun j=>decide (i<r)&&decide (j<r)&&((f i).testBit j&&(g i).testBit j)
def TN (r:Nat) (f g:Nat→Nat):Nat→Nat:=fun i=>mkN fun j=>decide (i<r)&&decide (j<r)&&(List.range r).any fun k=>(f i).testBit k&&(g k).testBit j
variable {E:Env}
def HP (H:AHeap) (cu cv:List Cell):AHeap:=(H++[some ⟨true,0,cu⟩])++[some ⟨true,0,cv⟩]
section
variable {n r:Nat} {f FX GY:Nat→Nat} {s k12 k15:Nat} {H:AHeap} {s0 s1:List Cell} {m:Nat}
abbrev tHP (H:AHeap) (n:Nat) (f:Nat→Nat) (s i j:Nat):AHeap:=HP H (acA n true (fun a b=>(f a).testBit b) i j) (acA n false (fun a b=>(f a).testBit b&&(s.testBit a&&s.testBit b)) i j)
end
end Jq

namespace Jq
open Go
variable (C:CallF) (L:LoopF) (G:Glo)
set_option maxRecDepth 100000 in
theorem q256_eq (x0:Cell) (a1:Int) (h0:AHeap):q256.body C L G [(.c x0),(.c (.int .i64 a1))] h0=c1 (C 255 [(.c x0),(.c (.int .i64 a1))] h0) fun y_2 h_1=>asA y_2 fun l_3=>c1 (C 268 [(.agg l_3),(.c x0),(.c (.int .i64 a1))] h_1) fun y_5 h_4=>asC y_5 fun x_6=>some ([(.c x_6)],h_4):=by kernel_rfl
set_option maxRecDepth 100000 in
theorem q259_eq (x0:Cell) (a1:Int) (h0:AHeap):q259.body C L G [(.c x0),(.c (.int .i64 a1))] h0=c1 (C 256 [(.c x0),(.c (.int .i64 a1))] h0) fun y_2 h_1=>asC y_2 fun x_3=>lenK x_3 fun n_4=>some ([(.c (.bool (n_4==0)))],h_1):=by kernel_rfl
def q268_k2 (C:CallF) (L:LoopF) (G:Glo) (h0:AHeap):Ex→St→Option (List AV × AHeap):=kSeq (fun st=>q268_p1.exec C L G st (q268.fin G h0)) (q268.fin G h0)
def q268_k3 (C:CallF) (L:LoopF) (G:Glo) (h0:AHeap):Ex→St→Option (List AV × AHeap):=kBlk 0 (q268_k2 C L G h0)
def q268_s2 (x1:Cell) (a2:Int) (x7:Cell) (a14 a15:Int) (s0 s1:List Cell) (h:AHeap):St:=⟨tops 1 (.v (.c x1) :: .v (.c (.int .i64 a2)) :: .loc 0 0 :: tops 3 (.v (.c x7) :: .loc 1 0 :: tops 5 (.v (.c (.int .i64 a14)) :: .v (.c (.int .i64 a15)) :: tops 41 []))),[some s0,some s1],h⟩
def q268_F2 (C:CallF) (L:LoopF) (G:Glo):St→Option (Ex × St):=roundF (fun st f=>q268_b2.exec C L G st f) [1,2,3,7,8,14,15] [0,1] [(1,[7],[])]
def q268_k4 (C:CallF) (L:LoopF) (G:Glo):Ex→St→Option (Ex × St):=kSeq (fun st=>q268_p2.exec C L G st (kLoop [1,2,3,7,8,14,15] [0,1] [(1,[7],[])])) (kLoop [1,2,3,7,8,14,15] [0,1] [(1,[7],[])])
def q268_k5 (C:CallF) (L:LoopF) (G:Glo):Ex→St→Option (Ex × St):=kBlk 1 (q268_k4 C L G)
def q268_k6 (C:CallF) (L:LoopF) (G:Glo):Ex→St→Option (Ex × St):=kBlk 2 (q268_k5 C L G)
def q268_s1 (x1:Cell) (a2:Int) (x7:Cell) (a9 a14:Int) (a15 a18 a19:Int) (s0 s1:List Cell) (h:AHeap):St:=⟨tops 1 (.v (.c x1) :: .v (.c (.int .i64 a2)) :: .loc 0 0 :: tops 3 (.v (.c x7) :: .loc 1 0 :: .v (.c (.int .i64 a9)) :: tops 4 (.v (.c (.int .i64 a14)) :: .v (.c (.int .i64 a15)) :: tops 2 (.v (.c (.int .i64 a18)) :: .v (.c (.int .i64 a19)) :: tops 37 [])))),[some s0,some s1],h⟩
def q268_F1 (C:CallF) (L:LoopF) (G:Glo):St→Option (Ex × St):=roundF (fun st f=>q268_b1.exec C L G st f) [1,2,3,7,8,9,14,15,18,19] [0,1] [(3,[1,2,3,7,8,14,15],[0,1])]
def q268_x1_3 (x1:Cell) (a2:Int) (x7:Cell) (a14 a15:Int) (s0 s1:List Cell) (h:AHeap):St:=⟨tops 1 (.v (.c x1) :: .v (.c (.int .i64 a2)) :: .loc 0 0 :: tops 3 (.v (.c x7) :: .loc 1 0 :: tops 5 (.v (.c (.int .i64 a14)) :: .v (.c (.int .i64 a15)) :: tops 41 []))),[some s0,some s1],h⟩
def q268_x2_1 (x7:Cell) (h:AHeap):St:=⟨tops 7 (.v (.c x7) :: tops 49 []),[none,none],h⟩
theorem q268_r1 (x1:Cell) (a2:Int) (x7:Cell) (a9 a14:Int) (a15 a18 a19:Int) (s0 s1:List Cell) (h:AHeap):q268_F1 C L G (q268_s1 x1 a2 x7 a9 a14 a15 a18 a19 s0 s1 h)=if (decide (a19<a18))=true then if 0=0∧s0.length=65 then c1 (qh h (C 3 [(.agg s0),(.c (.int .i64 a19)),(.c (.int .i64 a9))] h)) fun y_8 h_7=>asB y_8 fun b_9=>scK b_9 true (if 0=0∧s0.length=65 then c1 (qh h (C 41 [(.agg s0),(.c (.int .i64 a19))] h)) fun y_11 h_10=>asI .u64 y_11 fun n_12=>if 0=0∧s1.length=65 then c1 (qh h (C 41 [(.agg s1),(.c (.int .i64 a9))] h)) fun y_14 h_13=>asI .u64 y_14 fun n_15=>some (((G.band .u64 n_12 n_15)==0),h) else none else none) false h fun b_16 h_17=>scK b_16 true (idxSK 7 x1 a19 fun k_18 N_19 o_20=>rdH h_17 k_18 N_19 fun l_21=>if o_20+7≤l_21.length then idxSK 7 x1 a9 fun k_22 N_23 o_24=>rdH h_17 k_22 N_23 fun l_25=>if o_24+7≤l_25.length then c1 (qh h_17 (C 274 [(.agg ((l_21.drop o_20).take 7)),(.agg ((l_25.drop o_24).take 7)),(.c (.int .i64 a2))] h_17)) fun y_27 h_26=>asB y_27 fun b_28=>some (b_28,h_17) else none else none) false h_17 fun b_29 h_30=>if b_29=true then if (splice (splice [Cell.int .i64 0,Cell.int .i64 0] 0 ([(.int .i64 a19)]:List Cell)) 1 ([(.int .i64 a9)]:List Cell)).length=2∧0+2≤[Cell.int .i64 0,Cell.int .i64 0].length then if (splice [Cell.int .i64 0,Cell.int .i64 0] 0 (splice (splice [Cell.int .i64 0,Cell.int .i64 0] 0 ([(.int .i64 a19)]:List Cell)) 1 ([(.int .i64 a9)]:List Cell))).length=1*2 then appK 2 16 x7 (splice [Cell.int .i64 0,Cell.int .i64 0] 0 (splice (splice [Cell.int .i64 0,Cell.int .i64 0] 0 ([(.int .i64 a19)]:List Cell)) 1 ([(.int .i64 a9)]:List Cell))) h_30 fun x_31 h_32=>some (.normal,(q268_s1 x1 a2 x_31 a9 a14 a15 a18 (G.wrap .i64 (a19+1)) s0 s1 h_32)) else none else none else some (.normal,(q268_s1 x1 a2 x7 a9 a14 a15 a18 (G.wrap .i64 (a19+1)) s0 s1 h_30)) else none else some ((.exit 2),(q268_x1_3 x1 a2 x7 a14 a15 s0 s1 h)):=by kernel_rfl
theorem q268_e1_3 (x1:Cell) (a2:Int) (x7:Cell) (a14 a15:Int) (s0 s1:List Cell) (h:AHeap):(q268_k6 C L G) (.exit 2) (q268_x1_3 x1 a2 x7 a14 a15 s0 s1 h)=some (.normal,(q268_s2 x1 a2 x7 a14 (G.wrap .i64 (a15+1)) s0 s1 h)):=by kernel_rfl
theorem q268_r2 (x1:Cell) (a2:Int) (x7:Cell) (a14 a15:Int) (s0 s1:List Cell) (h:AHeap):q268_F2 C L G (q268_s2 x1 a2 x7 a14 a15 s0 s1 h)=if (decide (a15<a14))=true then (L (q268_F1 C L G) (q268_s1 x1 a2 x7 a15 a14 a15 a15 0 s0 s1 h)).bind fun p_33=>(q268_k6 C L G) p_33.1 p_33.2 else some ((.exit 0),(q268_x2_1 x7 h)):=by kernel_rfl
theorem q268_e2_1 (h0:AHeap) (x7:Cell) (h:AHeap):(q268_k3 C L G h0) (.exit 0) (q268_x2_1 x7 h)=some ([(.c x7)],h):=by kernel_rfl
set_option maxRecDepth 100000 in
theorem q268_eq (l0:List Cell) (x1:Cell) (a2:Int) (h0:AHeap):q268.body C L G [(.agg l0),(.c x1),(.c (.int .i64 a2))] h0=if 0=0∧l0.length=65 then c1 (C 40 [(.agg l0)] h0) fun y_2 h_1=>asA y_2 fun l_3=>if 0=0∧([Cell.int .i64 0]++List.replicate 64 (Cell.int .u64 0)).length=65∧l_3.length=65 then if 0=0∧l0.length=65 then c1 (C 14 [(.agg l0)] h_1) fun y_5 h_4=>asI .i64 y_5 fun n_6=>(L (q268_F2 C L G) (q268_s2 x1 a2 .nils n_6 0 l0 l_3 h_4)).bind fun p_34=>(q268_k3 C L G h0) p_34.1 p_34.2 else none else none else none:=by kernel_rfl
def q269_k2 (C:CallF) (L:LoopF) (G:Glo) (h0:AHeap):Ex→St→Option (List AV × AHeap):=kSeq (fun st=>q269_p1.exec C L G st (q269.fin G h0)) (q269.fin G h0)
def q269_k3 (C:CallF) (L:LoopF) (G:Glo) (h0:AHeap):Ex→St→Option (List AV × AHeap):=kBlk 0 (q269_k2 C L G h0)
def q269_s1 (a1:Int) (x2:Cell) (a3 a4:Int) (x12 x32:Cell) (a33 a34:Int) (s0:List Cell) (h:AHeap):St:=⟨tops 1 (.v (.c (.int .i64 a1)) :: .v (.c x2) :: .v (.c (.int .i64 a3)) :: .v (.c (.int .i64 a4)) :: .loc 0 0 :: tops 6 (.v (.c x12) :: tops 19 (.v (.c x32) :: .v (.c (.int .i64 a33)) :: .v (.c (.int .i64 a34)) :: tops 72 []))),[some s0,none,none],h⟩
def q269_F1 (C:CallF) (L:LoopF) (G:Glo):St→Option (Ex × St):=roundF (fun st f=>q269_b1.exec C L G st f) [1,2,3,4,5,12,32,33,34] [0] [(1,[1,2,3,4,5,12],[0])]
def q269_x1_1 (a1:Int) (x2:Cell) (a3 a4:Int) (x12:Cell) (s0:List Cell) (h:AHeap):St:=⟨tops 1 (.v (.c (.int .i64 a1)) :: .v (.c x2) :: .v (.c (.int .i64 a3)) :: .v (.c (.int .i64 a4)) :: .loc 0 0 :: tops 6 (.v (.c x12) :: tops 94 [])),[some s0,none,none],h⟩
def q269_k4 (C:CallF) (L:LoopF) (G:Glo) (h0:AHeap):Ex→St→Option (List AV × AHeap):=kSeq (fun st=>q269_p2.exec C L G st (q269.fin G h0)) (q269.fin G h0)
def q269_k5 (C:CallF) (L:LoopF) (G:Glo) (h0:AHeap):Ex→St→Option (List AV × AHeap):=kBlk 2 (q269_k4 C L G h0)
def q269_s2 (a1 a3 a4:Int) (x12 x19:Cell) (a65 a66:Int) (s0 s2:List Cell) (h:AHeap):St:=⟨tops 1 (.v (.c (.int .i64 a1)) :: tops 1 (.v (.c (.int .i64 a3)) :: .v (.c (.int .i64 a4)) :: .loc 0 0 :: tops 6 (.v (.c x12) :: tops 5 (.loc 2 0 :: .v (.c x19) :: tops 45 (.v (.c (.int .i64 a65)) :: .v (.c (.int .i64 a66)) :: tops 40 []))))),[some s0,none,some s2],h⟩
def q269_F2 (C:CallF) (L:LoopF) (G:Glo):St→Option (Ex × St):=roundF (fun st f=>q269_b2.exec C L G st f) [1,3,4,5,12,18,19,65,66] [0,2] [(3,[1,4,5,12,19],[0])]
def q269_x2_3 (a1 a4:Int) (x12 x19:Cell) (s0:List Cell) (h:AHeap):St:=⟨tops 1 (.v (.c (.int .i64 a1)) :: tops 2 (.v (.c (.int .i64 a4)) :: .loc 0 0 :: tops 6 (.v (.c x12) :: tops 6 (.v (.c x19) :: tops 87 [])))),[some s0,none,none],h⟩
theorem q269_r1 (a1:Int) (x2:Cell) (a3 a4:Int) (x12 x32:Cell) (a33 a34:Int) (s0:List Cell) (h:AHeap):q269_F1 C L G (q269_s1 a1 x2 a3 a4 x12 x32 a33 a34 s0 h)=if (decide (a34<a33))=true then idxSK 7 x32 a34 fun k_8 N_9 o_10=>rdH h k_8 N_9 fun l_11=>if o_10+7≤l_11.length then if 0=0∧(List.replicate 7 (Cell.int .i64 0)).length=7∧((l_11.drop o_10).take 7).length=7 then atK ((l_11.drop o_10).take 7) 0 fun q_12=>asI .i64 (.c q_12) fun n_13=>if (splice [Cell.int .i64 0] 0 ([(.int .i64 n_13)]:List Cell)).length=1*1 then appK 1 8 x12 (splice [Cell.int .i64 0] 0 ([(.int .i64 n_13)]:List Cell)) h fun x_14 h_15=>some (.normal,(q269_s1 a1 x2 a3 a4 x_14 x32 a33 (G.wrap .i64 (a34+1)) s0 h_15)) else none else none else none else some ((.exit 0),(q269_x1_1 a1 x2 a3 a4 x12 s0 h)):=by kernel_rfl
theorem q269_r2 (a1 a3 a4:Int) (x12 x19:Cell) (a65 a66:Int) (s0 s2:List Cell) (h:AHeap):q269_F2 C L G (q269_s2 a1 a3 a4 x12 x19 a65 a66 s0 s2 h)=if (decide (a66<a65))=true then scK (a66 != a3) true (if 0=0∧s2.length=65 then c1 (C 3 [(.agg s2),(.c (.int .i64 a3)),(.c (.int .i64 a66))] h) fun y_33 h_32=>asB y_33 fun b_34=>some ((!b_34),h_32) else none) false h fun b_35 h_36=>if b_35=true then idxSK 1 x12 a66 fun k_37 N_38 o_39=>rdH h_36 k_37 N_38 fun l_40=>atK l_40 o_39 fun q_41=>asI .i64 (.c q_41) fun n_42=>if (splice [Cell.int .i64 0] 0 ([(.int .i64 n_42)]:List Cell)).length=1*1 then appK 1 8 x19 (splice [Cell.int .i64 0] 0 ([(.int .i64 n_42)]:List Cell)) h_36 fun x_43 h_44=>some (.normal,(q269_s2 a1 a3 a4 x12 x_43 a65 (G.wrap .i64 (a66+1)) s0 s2 h_44)) else none else some (.normal,(q269_s2 a1 a3 a4 x12 x19 a65 (G.wrap .i64 (a66+1)) s0 s2 h_36)) else some ((.exit 2),(q269_x2_3 a1 a4 x12 x19 s0 h)):=by kernel_rfl
theorem q269_e2_3 (h0:AHeap) (a1 a4:Int) (x12 x19:Cell) (s0:List Cell) (h:AHeap):(q269_k5 C L G h0) (.exit 2) (q269_x2_3 a1 a4 x12 x19 s0 h)=idxSK 1 x12 a4 fun k_45 N_46 o_47=>rdH h k_45 N_46 fun l_48=>atK l_48 o_47 fun q_49=>asI .i64 (.c q_49) fun n_50=>if (splice [Cell.int .i64 0] 0 ([(.int .i64 n_50)]:List Cell)).length=1*1 then appK 1 8 x19 (splice [Cell.int .i64 0] 0 ([(.int .i64 n_50)]:List Cell)) h fun x_51 h_52=>if 0=0∧s0.length=3 then c3 (C 271 [(.agg s0),(.c (.int .i64 a1)),(.c x_51)] h_52) fun y_54 y_55 y_56 h_53=>asC y_54 fun x_57=>asI .i64 y_55 fun n_58=>asB y_56 fun b_59=>lenK x_51 fun n_60=>if (n_58 != n_60)=true then some ([(.c .nils),(.c (.bool false))],h_53) else some ([(.c x_51),(.c (.bool true))],h_53) else none else none:=by kernel_rfl
theorem q269_e1_1 (h0:AHeap) (a1:Int) (x2:Cell) (a3 a4:Int) (x12:Cell) (s0:List Cell) (h:AHeap):(q269_k3 C L G h0) (.exit 0) (q269_x1_1 a1 x2 a3 a4 x12 s0 h)=if 0=0∧s0.length=3 then c3 (C 271 [(.agg s0),(.c (.int .i64 a1)),(.c x12)] h) fun y_17 y_18 y_19 h_16=>asC y_17 fun x_20=>asI .i64 y_18 fun n_21=>asB y_19 fun b_22=>lenK x12 fun n_23=>scK (n_21 != n_23) false (c1 (C 276 [(.c x_20),(.c x2)] h_16) fun y_25 h_24=>asB y_25 fun b_26=>some ((!b_26),h_24)) true h_16 fun b_27 h_28=>if b_27=true then some ([(.c .nils),(.c (.bool false))],h_28) else c1 (C 255 [(.c x2),(.c (.int .i64 a1))] h_28) fun y_30 h_29=>asA y_30 fun l_31=>if 0=0∧([Cell.int .i64 0]++List.replicate 64 (Cell.int .u64 0)).length=65∧l_31.length=65 then (L (q269_F2 C L G) (q269_s2 a1 a3 a4 x12 .nils a4 0 s0 l_31 h_29)).bind fun p_61=>(q269_k5 C L G h0) p_61.1 p_61.2 else none else none:=by kernel_rfl
set_option maxRecDepth 100000 in
theorem q269_eq (l0:List Cell) (a1:Int) (x2:Cell) (a3 a4:Int) (h0:AHeap):q269.body C L G [(.agg l0),(.c (.int .i64 a1)),(.c x2),(.c (.int .i64 a3)),(.c (.int .i64 a4))] h0=c1 (C 256 [(.c x2),(.c (.int .i64 a1))] h0) fun y_2 h_1=>asC y_2 fun x_3=>c1 (C 275 [(.c x_3),(.agg (splice (splice [Cell.int .i64 0,Cell.int .i64 0] 0 ([(.int .i64 a3)]:List Cell)) 1 ([(.int .i64 a4)]:List Cell)))] h_1) fun y_5 h_4=>asB y_5 fun b_6=>if (!b_6)=true then some ([(.c .nils),(.c (.bool false))],h_4) else lenK x2 fun n_7=>(L (q269_F1 C L G) (q269_s1 a1 x2 a3 a4 .nils x2 n_7 0 l0 h_4)).bind fun p_62=>(q269_k3 C L G h0) p_62.1 p_62.2:=by kernel_rfl
set_option maxRecDepth 100000 in
theorem q274_eq (l0 l1:List Cell) (a2:Int) (h0:AHeap):q274.body C L G [(.agg l0),(.agg l1),(.c (.int .i64 a2))] h0=atK l0 1 fun q_1=>asI .i64 (.c q_1) fun n_2=>atK l1 1 fun q_3=>asI .i64 (.c q_3) fun n_4=>scK (n_2 != n_4) true (atK l0 3 fun q_5=>asI .i64 (.c q_5) fun n_6=>atK l1 3 fun q_7=>asI .i64 (.c q_7) fun n_8=>some ((n_6==n_8),h0)) false h0 fun b_9 h_10=>scK b_9 true (if 0=0∧l0.length=7 then c1 (C 257 [(.agg l0),(.c (.int .i64 a2))] h_10) fun y_12 h_11=>asB y_12 fun b_13=>scK b_13 false (if 0=0∧l1.length=7 then c1 (C 257 [(.agg l1),(.c (.int .i64 a2))] h_11) fun y_15 h_14=>asB y_15 fun b_16=>some (b_16,h_14) else none) true h_11 fun b_17 h_18=>some (b_17,h_18) else none) false h_10 fun b_19 h_20=>some ([(.c (.bool b_19))],h_20):=by kernel_rfl
end Jq

namespace Jq
open Go
theorem hasR_n0 {n:Nat} {f:Nat→Nat} {a b:Nat} (ha:a<n) (hb:b<64):hasR n f (a:Int) (b:Int)=(f a).testBit b:=by
  unfold hasR
  rw [inR_nat,decide_eq_true ha,Bool.true_and,Int.toNat_natCast,hasI_nat hb]
def meddle (a b:Stp) (m:Int):Bool:=a.t != b.t&&(a.loc==b.loc&&(wrS a m||wrS b m))
def raceB (n:Nat) (f:Nat→Nat) (l:List Stp) (m:Int) (i k:Nat):Bool:=match l[i]?,l[k]? with
  | some a,some b=>(f i).testBit k&&((f i &&& INV n f k)==0&&meddle a b m)
  | _,_=>false
def racesK (p:Nat→Bool) (k i:Nat):List (Int × Int):=((List.range i).filter p).map fun (j:Nat)=>((j:Int),(k:Int))
def racesL (p:Nat→Nat→Bool):Nat→List (Int × Int)
  | 0=>[]
  | k+1=>racesL p k++racesK (fun i=>p i k) k k
theorem racesK_succ (p:Nat→Bool) (k i:Nat):racesK p k (i+1)=racesK p k i++(if p i=true then [((i:Int),(k:Int))] else []):=by
  unfold racesK
  rw [List.range_succ,List.filter_append,List.map_append]
  congr 1
  by_cases h:p i=true
  · rw [if_pos h,List.filter_cons_of_pos h];rfl
  · rw [if_neg h,List.filter_cons_of_neg h];rfl
theorem racesK_len (p:Nat→Bool) (k i:Nat):(racesK p k i).length≤i:=by
  unfold racesK
  rw [List.length_map]
  have:=List.length_filter_le p (List.range i)
  rwa [List.length_range] at this
theorem racesL_len (p:Nat→Nat→Bool) {n:Nat} (hn:n≤64):∀k,k≤n→(racesL p k).length≤k*64
  | 0,_=>Nat.le_refl _
  | k+1,hk=>by
    unfold racesL
    rw [List.length_append]
    have h1:=racesL_len p hn k (by omega)
    have h2:=racesK_len (fun i=>p i k) k k
    omega
section
variable {E:Env}
theorem meddle_R (hE:q274_In E) (a b:Stp) (m:Int) (h:AHeap):R E 274 [.agg a.cs,.agg b.cs,.c (.int .i64 m)] h=some ([.c (.bool (meddle a b m))],h):=by
  refine R_intro hE.fn ?_
  rw [q274_eq,stp_t,asI_ok,stp_t,asI_ok,stp_loc,asI_ok,stp_loc,asI_ok,scK_and,if_pos ⟨by trivial,by rfl⟩,Writes_R hE.c257,c1_ok,asB_ok,if_pos ⟨by trivial,by rfl⟩,Writes_R hE.c257,c1_ok,asB_ok,scK_or,scK_and]
  unfold meddle
  rw [Bool.and_assoc]
theorem In_R (hE:q268_In E) (ht:TabOk E) {n:Nat} (hn:n≤64) {f:Nat→Nat} (hf:Words f) {x:Cell} {l:List Stp} {h:AHeap} (hx:SlAt h x 7 (stepsC l) l.length) (hlow:Low h.length x) (hnl:n≤l.length) (m:Int) :
    ∃y h',R E 268 [.agg (relL n f),.c x,.c (.int .i64 m)] h=some ([.c y],h')∧Own h.length h' y 2 (pairC (racesL (raceB n f l m) n)) (racesL (raceB n f l m) n).length∧Kp h.length h h':=by
  have hM:maxBytes≥10000*16:=by unfold maxBytes;omega
  obtain ⟨st,⟨y,h',rfl,o,kk⟩,hL⟩:=Lim_inv (F:=q268_F2 (R E) Lim E.glob)
    (fun k st=>∃y h',st=q268_s2 x m y (n:Int) (k:Int) (relL n f) (relL n (INV n f)) h'∧Own h.length h' y 2 (pairC (racesL (raceB n f l m) k)) (racesL (raceB n f l m) k).length∧Kp h.length h h') 0 n (by omega)
    (fun k st _ hk=>by
      rintro ⟨y,h',rfl,o,kk⟩
      have hlen:=racesL_len (raceB n f l m) hn k (by omega)
      obtain ⟨st2,⟨y2,h2,rfl,o2,kk2⟩,hL2⟩:=Lim_inv (F:=q268_F1 (R E) Lim E.glob)
        (fun i st=>∃y h',st=q268_s1 x m y (k:Int) (n:Int) (k:Int) (k:Int) (i:Int) (relL n f) (relL n (INV n f)) h'∧Own h.length h' y 2 (pairC (racesL (raceB n f l m) k++racesK (fun i=>raceB n f l m i k) k i)) (racesL (raceB n f l m) k++racesK (fun i=>raceB n f l m i k) k i).length∧Kp h.length h h') 0 k (by omega)
        (fun i st _ hi=>by
          rintro ⟨y,h',rfl,o,kk⟩
          have hqi:l[i]? = some l[i]:=List.getElem?_eq_getElem (by omega)
          have hqk:l[k]? = some l[k]:=List.getElem?_eq_getElem (by omega)
          generalize l[i]=a at hqi
          generalize l[k]=b at hqk
          have hx':=hx.keep hlow kk
          obtain ⟨off,c,g1,g2,g3⟩:=hx'.stepG hqi
          obtain ⟨off',c',g1',g2',g3'⟩:=hx'.stepG hqk
          have hr:raceB n f l m i k=((f i).testBit k&&((f i &&& INV n f k)==0&&meddle a b m)):=by unfold raceB;rw [hqi,hqk]
          have hlk:=racesK_len (fun i=>raceB n f l m i k) k i
          have hrow:((if inR n (i:Int) then f (i:Int).toNat else 0:Nat))=f i:=by rw [inR_nat,decide_eq_true (show i<n by omega),if_pos rfl,Int.toNat_natCast]
          have hrow':((if inR n (k:Int) then INV n f (k:Int).toNat else 0:Nat))=INV n f k:=by rw [inR_nat,decide_eq_true (show k<n by omega),if_pos rfl,Int.toNat_natCast]
          have hz:(((f i &&& INV n f k:Nat):Int)==0)=((f i &&& INV n f k)==0):=by rw [Bool.eq_iff_iff,beq_iff_eq,beq_iff_eq];omega
          rw [racesK_succ]
          have hstep:q268_F1 (R E) Lim E.glob (q268_s1 x m y (k:Int) (n:Int) (k:Int) (k:Int) (i:Int) (relL n f) (relL n (INV n f)) h')=(if raceB n f l m i k=true then appK 2 16 y [.int .i64 (i:Int),.int .i64 (k:Int)] h' (fun y' h''=>some (Ex.normal,q268_s1 x m y' (k:Int) (n:Int) (k:Int) (k:Int) ((i+1:Nat):Int) (relL n f) (relL n (INV n f)) h'')) else some (.normal,q268_s1 x m y (k:Int) (n:Int) (k:Int) (k:Int) ((i+1:Nat):Int) (relL n f) (relL n (INV n f)) h')):=by
            rw [q268_r1,if_pos (by simp;omega),if_pos ⟨by trivial,relL_len _ _⟩,HasR_R hE.c3 hn hf,qh_ok,c1_ok,asB_ok,hasR_n0 (by omega) (by omega),if_pos ⟨by trivial,relL_len _ _⟩,Row_R hE.c41 hn,qh_ok,c1_ok,asI_ok,hrow,if_pos ⟨by trivial,relL_len _ _⟩,Row_R hE.c41 hn,qh_ok,c1_ok,asI_ok,hrow',g_band (hf _) (w_INV _ _ _),hz,scK_and,
              g1,if_pos g2,g3,g1',if_pos g2',g3',meddle_R hE.c274,qh_ok,c1_ok,asB_ok,scK_and,Bool.and_assoc,←hr,g_succ (by omega)]
            rfl
          have hl3:(racesL (raceB n f l m) k++racesK (fun i=>raceB n f l m i k) k i).length≤5000:=by rw [List.length_append];omega
          by_cases hp:raceB n f l m i k=true
          · obtain ⟨y2,h2,e2,o2,k2,_⟩:=o.app (bytes:=16) (xs:=[.int .i64 (i:Int),.int .i64 (k:Int)]) kk.1 rfl (by omega) (by omega) (by omega)
            refine ⟨q268_s1 x m y2 (k:Int) (n:Int) (k:Int) (k:Int) ((i+1:Nat):Int) (relL n f) (relL n (INV n f)) h2,by rw [hstep,if_pos hp,e2],y2,h2,rfl,?_,kk.trans k2⟩
            rw [if_pos hp,←List.append_assoc,pairC_snoc,List.length_append,List.length_singleton]
            exact o2
          · refine ⟨q268_s1 x m y (k:Int) (n:Int) (k:Int) (k:Int) ((i+1:Nat):Int) (relL n f) (relL n (INV n f)) h',by rw [hstep,if_neg hp],y,h',rfl,?_,kk⟩
            rw [if_neg hp,List.append_nil]
            exact o) (st:=q268_s1 x m y (k:Int) (n:Int) (k:Int) (k:Int) ((0:Nat):Int) (relL n f) (relL n (INV n f)) h') ⟨y,h',rfl,by rw [show racesK (fun i=>raceB n f l m i k) k 0=[] from rfl,List.append_nil];exact o,kk⟩
      have hr:=hL2 _ (Lim_exit (show q268_F1 (R E) Lim E.glob (q268_s1 x m y2 (k:Int) (n:Int) (k:Int) (k:Int) (k:Int) (relL n f) (relL n (INV n f)) h2)=some (.exit 2,q268_x1_3 x m y2 (n:Int) (k:Int) (relL n f) (relL n (INV n f)) h2) by rw [q268_r1,if_neg (by simp)]))
      refine ⟨q268_s2 x m y2 (n:Int) ((k+1:Nat):Int) (relL n f) (relL n (INV n f)) h2,?_,y2,h2,rfl,o2,kk2⟩
      rw [show ((0:Nat):Int)=0 from rfl] at hr
      rw [q268_r2,if_pos (by simp;omega),hr,bind_ok]
      dsimp only
      rw [q268_e1_3,g_succ (by omega)]) (st:=q268_s2 x m .nils (n:Int) ((0:Nat):Int) (relL n f) (relL n (INV n f)) h) ⟨.nils,h,rfl,Own.nil _ _ _,Kp.refl _ _⟩
  have hr:=hL _ (Lim_exit (show q268_F2 (R E) Lim E.glob (q268_s2 x m y (n:Int) (n:Int) (relL n f) (relL n (INV n f)) h')=some (.exit 0,q268_x2_1 y h') by rw [q268_r2,if_neg (by simp)]))
  rw [show ((0:Nat):Int)=0 from rfl] at hr
  refine ⟨y,h',R_intro hE.fn ?_,o,kk⟩
  rw [q268_eq,if_pos ⟨by trivial,relL_len _ _⟩,Inverse_S hE.c40 ht hn hf,c1_ok,asA_ok,if_pos ⟨by trivial,zero_len,relL_len _ _⟩,if_pos ⟨by trivial,relL_len _ _⟩,N_R hE.c14,c1_ok,asI_ok,hr,bind_ok]
  dsimp only
  rw [q268_e2_1]
def racesT (l:List Stp) (m:Int):List (Int × Int):=if l.length≤64 then racesL (raceB l.length (hbF l m) l m) l.length else []
theorem hbF_words (l:List Stp) (m:Int):Words (hbF l m):=words_clK (w_ACC _ _) _ _
theorem Races_R (hE:q256_In E) (ht:TabOk E) {x:Cell} {l:List Stp} {h:AHeap} (hx:SlAt h x 7 (stepsC l) l.length) (hlow:Low h.length x) (m:Int) :
    ∃y h',R E 256 [.c x,.c (.int .i64 m)] h=some ([.c y],h')∧Own h.length h' y 2 (pairC (racesT l m)) (racesT l m).length∧Kp h.length h h':=by
  by_cases hl:l.length≤64
  · obtain ⟨y,h',r1,o,k⟩:=In_R hE.c268 ht hl (hbF_words l m) hx hlow (Nat.le_refl _) m
    have:racesT l m=racesL (raceB l.length (hbF l m) l m) l.length:=by unfold racesT;rw [if_pos hl]
    refine ⟨y,h',R_intro hE.fn ?_,by rw [this];exact o,k⟩
    rw [q256_eq,HB_R hE.c255 hx hlow hl m,c1_ok,asA_ok,r1,c1_ok,asC_ok]
  · obtain ⟨y,h',r1,o,k⟩:=In_R hE.c268 ht (n:=0) (by omega) words_zero hx hlow (by omega) m
    have:racesT l m=[]:=by unfold racesT;rw [if_neg hl]
    refine ⟨y,h',R_intro hE.fn ?_,by rw [this];exact o,k⟩
    rw [q256_eq,HB_many hE.c255 hx (by omega) m,c1_ok,asA_ok,r1,c1_ok,asC_ok]
theorem RFree_R (hE:q259_In E) (ht:TabOk E) {x:Cell} {l:List Stp} {h:AHeap} (hx:SlAt h x 7 (stepsC l) l.length) (hlow:Low h.length x) (m:Int) :
    ∃h',R E 259 [.c x,.c (.int .i64 m)] h=some ([.c (.bool ((racesT l m).length==0))],h')∧Kp h.length h h':=by
  obtain ⟨y,h',r1,o,k⟩:=Races_R hE.c256 ht hx hlow m
  refine ⟨h',R_intro hE.fn ?_,k⟩
  rw [q259_eq,r1,c1_ok,asC_ok,o.at.len]
  have:((((racesT l m).length:Nat):Int)==0)=((racesT l m).length==0):=by rw [Bool.eq_iff_iff,beq_iff_eq,beq_iff_eq];omega
  rw [this]
end
end Jq

namespace Jq
open Go
def memK (i:Ins):Bool:=i.kind==1||i.kind==2||i.kind==4
def setL (t:Nat) (i:Ins):Ins:=if memK i=true then { i with loc:=(t:Int) } else i
def freeP (P:PProg):PProg:=⟨[120,121,122],[0,1,2],P.thr.mapIdx fun t c=>c.map (setL t)⟩
theorem setL_kind (t:Nat) (i:Ins):(setL t i).kind=i.kind∧(setL t i).reg=i.reg∧(setL t i).op=i.op∧(setL t i).n=i.n:=by
  unfold setL;split<;>exact ⟨rfl,rfl,rfl,rfl⟩
theorem freeP_thr (P:PProg) (t:Nat):(freeP P).thr[t]? = (P.thr[t]?).map fun c=>c.map (setL t):=by
  unfold freeP
  rw [List.getElem?_mapIdx]
theorem freeP_len (P:PProg):(freeP P).thr.length=P.thr.length:=by unfold freeP;rw [List.length_mapIdx]
theorem freeP_mem {P:PProg} {c:List Ins} (h:c∈(freeP P).thr):∃t c0,P.thr[t]? = some c0∧c=c0.map (setL t)∧t<P.thr.length:=by
  obtain ⟨t,ht⟩:=List.mem_iff_getElem?.1 h
  rw [freeP_thr] at ht
  cases hq:P.thr[t]? with
  | none=>rw [hq] at ht;cases ht
  | some c0=>rw [hq] at ht;exact ⟨t,c0,hq,(Option.some.inj ht).symm,getI_lt hq⟩
theorem fld_setL {P:PProg} {t:Nat} (ht:t<3) {i:Ins} (h:fldB (hasB P) i=true):fldB (hasB (freeP P)) (setL t i)=true:=by
  have hh:hasB (freeP P) (t:Int)=true:=by
    unfold hasB
    rw [show ((freeP P).locs.length:Int)=3 from rfl,decide_eq_true (show (t:Int)≥0 by omega),decide_eq_true (show (t:Int)<3 by omega)];rfl
  by_cases hm:memK i=true
  · have hs:setL t i={ i with loc:=(t:Int) }:=by unfold setL;rw [if_pos hm]
    rw [hs]
    obtain ⟨k,r,lc,⟨a1,a2⟩,op,⟨b1,b2⟩,n⟩:=i
    unfold memK at hm
    unfold fldB at h ⊢
    dsimp only at h hm ⊢
    rw [Bool.or_eq_true,Bool.or_eq_true,beq_iff_eq,beq_iff_eq,beq_iff_eq] at hm
    rcases hm with (h1 | h2) | h4
    · subst h1
      simp [Ins.cs] at h ⊢
      exact ⟨⟨hh,h.1.2⟩,h.2⟩
    · subst h2
      simp [Ins.cs] at h ⊢
      exact ⟨⟨hh,h.1.2⟩,h.2⟩
    · subst h4
      simp [Ins.cs] at h ⊢
      exact ⟨⟨⟨⟨hh,h.1.1.1.2⟩,h.1.1.2⟩,h.1.2⟩,h.2⟩
  · have hs:setL t i=i:=by unfold setL;rw [if_neg hm]
    rw [hs]
    have h1:¬(i.kind=1∨i.kind=2∨i.kind=4):=fun q=>hm (by
      unfold memK
      rw [Bool.or_eq_true,Bool.or_eq_true,beq_iff_eq,beq_iff_eq,beq_iff_eq];omega)
    unfold fldB at h ⊢
    rw [if_neg (show ¬i.kind=1 by omega),if_neg (show ¬i.kind=2 by omega)] at h ⊢
    by_cases h3:i.kind=3
    · rw [if_pos h3] at h ⊢;exact h
    · rw [if_neg h3,if_neg (show ¬i.kind=4 by omega)] at h ⊢;exact h
theorem freeP_small {most:Nat} {P:PProg} (g:GoodP most P):(freeP P).small:=⟨by rw [freeP_len];have:=g.n;omega,fun c hc=>by
  obtain ⟨t,c0,h1,rfl,_⟩:=freeP_mem hc
  rw [List.length_map]
  have:=g.code c0 (List.mem_of_getElem? h1);omega⟩
theorem freeP_good {most:Nat} {P:PProg} (g:GoodP most P):(freeP P).good:=⟨(freeP_small g).fits,fun c hc=>by
  obtain ⟨t,c0,h1,rfl,_⟩:=freeP_mem hc
  intro i hi
  obtain ⟨j,hj,rfl⟩:=List.mem_map.1 hi
  have:=g.good.2 c0 (List.mem_of_getElem? h1) j hj
  obtain ⟨e1,e2,e3,e4⟩:=setL_kind t j
  rw [List.length_map]
  exact ⟨by rw [e1];exact this.kind,by rw [e1,e2];exact this.reg,by rw [e1,e3];exact this.op,by rw [e1,e4];exact this.n⟩⟩
theorem freeP_inv {most:Nat} {P:PProg} (g:GoodP most P) (r:RunP P) {m:Int} (hm:1≤m∧m≤3):(MV.new (freeP P) m).Inv :=
  MV.new_inv hm (freeP_small g) (fun c hc i hi=>by
    obtain ⟨t,c0,h1,rfl,ht⟩:=freeP_mem hc
    obtain ⟨j,hj,rfl⟩:=List.mem_map.1 hi
    exact fld_setL (by have:=g.n;omega) (r.fld c0 (List.mem_of_getElem? h1) j hj)) (by show 3≤4;omega) (by show 3≤4;omega) (fun c hc=>by
    obtain ⟨t,c0,h1,rfl,_⟩:=freeP_mem hc
    rw [List.length_map]
    have:=g.code c0 (List.mem_of_getElem? h1);omega)
theorem freeP_code {P:PProg} {t:Nat} {q:Ins} (h:q∈(freeP P).code (t:Int)) (hk:memK q=true):q.loc=(t:Int):=by
  unfold PProg.code at h
  rw [if_pos (by omega),Int.toNat_natCast,List.getD_eq_getElem?_getD,freeP_thr] at h
  cases hq:P.thr[t]? with
  | none=>rw [hq] at h;cases h
  | some c0 =>
    rw [hq] at h
    obtain ⟨j,_,rfl⟩:=List.mem_map.1 (show q∈c0.map (setL t) from h)
    unfold setL at hk ⊢
    by_cases hm:memK j=true
    · rw [if_pos hm]
    · rw [if_neg hm] at hk;exact absurd hk hm
structure LocT (V:MV):Prop where
  st:∀(k:Nat) s,V.st[k]? = some s→s.kind≠3→s.loc=s.t
  en:∀t,∀e∈V.b t,e.loc=(t:Int)
theorem LocT.new (P:PProg) (m:Int):LocT (MV.new P m):=⟨fun k s h=>by
  have:(MV.new P m).st=[]:=rfl
  rw [this] at h;simp at h,fun t e he=>by rw [new_b] at he;cases he⟩
theorem MV.Inv.locT_nx {P:PProg} {V:MV} (v:V.Inv) (hP:V.P=freeP P) (L:LocT V) {i:Nat} (hi:V.may i=true):LocT (V.nx i):=by
  have hst:(V.nx i).st=V.st++[V.stp i]:=V.nx_st i
  by_cases h4:i<4
  · have T:=v.thr_step h4 hi
    have hq:=MV.may_thr h4 hi
    obtain ⟨_,_,_,_,hmem⟩:=v.nxt hq
    rw [hP] at hmem
    have hS:V.stp i={ V.thrS i (V.thrI i) with pick:=i }:=by unfold MV.stp;rw [if_pos h4]
    have hloc:(V.stp i).kind≠3→(V.stp i).loc=(i:Int):=fun hk=>by
      rw [hS] at hk ⊢
      have hk':(evOf (V.thrI i) (V.l i) (V.val i (V.thrI i)).1).kind≠3:=hk
      show (evOf (V.thrI i) (V.l i) (V.val i (V.thrI i)).1).loc=(i:Int)
      have hfree:=freeP_code (q:=V.thrI i) hmem
      unfold evOf at hk' ⊢
      by_cases h1:(V.thrI i).kind=1
      · rw [if_pos h1];exact hfree (by unfold memK;rw [h1];rfl)
      · rw [if_neg h1] at hk' ⊢
        by_cases h2:(V.thrI i).kind=2
        · rw [if_pos h2];exact hfree (by unfold memK;rw [h2];rfl)
        · rw [if_neg h2] at hk' ⊢
          by_cases h5:(V.thrI i).kind=4
          · rw [if_pos h5]
            have:=hfree (by unfold memK;rw [h5];rfl)
            split<;>exact this
          · rw [if_neg h5] at hk';exact absurd rfl hk'
    refine ⟨fun k s hs hk=>?_,fun t e he=>?_⟩
    · rw [hst] at hs
      rcases getI_snoc hs with ⟨_,ha⟩ | ⟨_,ha⟩
      · exact L.st k s ha hk
      · rw [ha] at hk ⊢
        rw [hloc hk,T.t]
    · rw [T.b] at he
      split at he
      · rename_i hc
        rcases List.mem_append.1 he with ha | ha
        · rw [hc.1];exact L.en i e ha
        · rw [List.mem_singleton] at ha
          subst ha
          have h2:=hc.2
          unfold isSt at h2
          rw [Bool.and_eq_true,beq_iff_eq] at h2
          rw [hc.1]
          exact hloc (by omega)
      · exact L.en t e he
  · obtain ⟨t,p,e,F⟩:=v.flu_step h4 hi
    have hem:=List.mem_of_find?_eq_some F.f
    refine ⟨fun k s hs hk=>?_,fun t' e' he=>?_⟩
    · rw [hst] at hs
      rcases getI_snoc hs with ⟨_,ha⟩ | ⟨_,ha⟩
      · exact L.st k s ha hk
      · rw [ha,F.s]
        exact L.en t e hem
    · rw [F.b] at he
      split at he
      · rename_i hc
        rw [hc];exact L.en t e' (List.mem_of_mem_eraseP he)
      · exact L.en t' e' he
theorem MV.runs_locT {P:PProg}:∀(l:List Int) {V:MV},V.Inv→V.P=freeP P→LocT V→LocT (V.runs l)
  | [],_,_,_,L=>L
  | p :: ps,V,v,hP,L=>by
    unfold MV.runs
    rw [MV.runG_cons]
    by_cases h:mayI V p=true
    · obtain ⟨j,rfl,hj,hn⟩:=mayI_at h
      rw [if_pos h,hn]
      exact MV.runs_locT ps (v.nx hj) (by rw [(V.nx_P j).1,hP]) (v.locT_nx hP L hj)
    · rw [if_neg h];exact L
theorem wr_k3 {s:Stp} {m:Int} (h:wrS s m=true):s.kind≠3:=by
  intro hk
  unfold wrS at h
  rw [hk] at h
  simp at h
theorem rd_k3 {s:Stp} (h:rdS s=true):s.kind≠3:=by
  intro hk
  unfold rdS at h
  rw [hk] at h
  simp at h
theorem LocT.base {V:MV} (L:LocT V) (H3:Hist3 V) {a b:Nat} {x y:Stp} (hx:V.st[a]? = some x) (hy:V.st[b]? = some y) (h:baseE V.st V.m a b=true):x.t=y.t:=by
  unfold baseE at h
  rw [Bool.or_eq_true,Bool.and_eq_true,decide_eq_true_eq] at h
  rcases h with ⟨_,h⟩ | h
  · unfold edgeE at h
    rw [hx,hy] at h
    dsimp only at h
    unfold pairE at h
    simp only [Bool.or_eq_true,Bool.and_eq_true,beq_iff_eq] at h
    rcases h with ((h | h) | h) | h
    · obtain ⟨i,h1,h2⟩:=H3.pk a x hx
      obtain ⟨j,h3,h4⟩:=H3.pk b y hy
      have:i=j:=by omega
      subst this
      rw [h2,h4]
    · have e1:=L.st a x hx (wr_k3 h.1.1)
      have e2:=L.st b y hy (wr_k3 h.1.2)
      rw [←e1,←e2];exact h.2
    · obtain ⟨_,g,h1,_,q,h2,_,h3,_⟩:=H3.fl b y hy h.1
      have:g=a:=by omega
      subst this
      rw [hx] at h2
      cases h2
      exact h3
    · exact h.1.2
  · obtain ⟨i,_,hi⟩:=List.any_eq_true.1 h
    unfold rdE at hi
    split at hi
    · rename_i s hs
      rw [Bool.and_eq_true] at hi
      obtain ⟨hr,hi⟩:=hi
      have hsl:=L.st i s hs (rd_k3 hr)
      unfold readE at hi
      split at hi
      · cases hi
      · simp only [Bool.or_eq_true,Bool.and_eq_true,decide_eq_true_eq] at hi
        rcases hi with ⟨⟨⟨hf,_⟩,_⟩,_⟩ | ⟨⟨⟨ha,_⟩,_⟩,hw⟩
        · exfalso
          unfold farE at hf
          split at hf
          · rename_i q hq
            rw [Bool.and_eq_true,decide_eq_true_eq,bne_iff_ne] at hf
            obtain ⟨hr0,hne⟩:=hf
            refine hne ?_
            rcases H3.rd i s hs hr with ⟨h1,_⟩ | ⟨w,u,h1,h2,h3,h4,_⟩ | ⟨_,g,h1,_,q',h3,_,h5,_⟩
            · omega
            · have hu:=L.st w u h2 (wr_k3 h3.1)
              have hut:u.t=s.t:=by rw [←hu,←hsl];exact h3.2
              rcases h4 with ⟨_,h4⟩ | ⟨h6,h4⟩
              · have:s.frm.toNat=w:=by omega
                rw [this,h2] at hq
                cases hq
                exact hut
              · obtain ⟨_,g,hg,_,q',hq',_,ht,_⟩:=H3.fl w u h2 h6
                have:s.frm.toNat=g:=by omega
                rw [this,hq'] at hq
                cases hq
                rw [ht];exact hut
            · have:s.frm.toNat=g:=by omega
              rw [this,h3] at hq
              cases hq
              exact h5
          · cases hf
        · subst ha
          have hsx:s=x:=Option.some.inj (hs.symm.trans hx)
          subst hsx
          unfold wrE at hw
          rw [hy] at hw
          dsimp only at hw
          rw [Bool.and_eq_true,beq_iff_eq] at hw
          have e2:=L.st b y hy (wr_k3 hw.1)
          rw [←hsl,←e2];exact hw.2.symm
    · cases hi
theorem LocT.way {V:MV} (L:LocT V) (H3:Hist3 V) (hn:V.st.length≤64) {k a b:Nat} (w:Way (ACC V.st.length (baseE V.st V.m)) k a b):∀{x y:Stp},V.st[a]? = some x→V.st[b]? = some y→x.t=y.t:=by
  induction w with
  | one h =>
    intro x y hx hy
    rw [b_ACC hn,Bool.and_eq_true] at h
    exact L.base H3 hx hy h.2
  | step h _ _ ih =>
    intro x y hx hy
    rw [b_ACC hn,Bool.and_eq_true,Bool.and_eq_true,decide_eq_true_eq,decide_eq_true_eq] at h
    have hz:=List.getElem?_eq_getElem h.1.2
    exact (L.base H3 hx hz h.2).trans (ih hz hy)
theorem racesK_none {p:Nat→Bool} {k i:Nat} (h:∀j,j<i→p j=false):racesK p k i=[]:=by
  unfold racesK
  rw [List.map_eq_nil_iff,List.filter_eq_nil_iff]
  intro j hj
  rw [h j (List.mem_range.1 hj)];simp
theorem racesL_none {p:Nat→Nat→Bool}:∀{n:Nat},(∀i k,i<k→k<n→p i k=false)→racesL p n=[]
  | 0,_=>rfl
  | n+1,h=>by
    unfold racesL
    rw [racesL_none fun i k hi hk=>h i k hi (by omega),racesK_none (p:=fun i=>p i n) fun j hj=>h j n hj (by omega)]
    rfl
theorem LocT.races {V:MV} (L:LocT V) (H3:Hist3 V):racesT V.st V.m=[]:=by
  unfold racesT
  by_cases hn:V.st.length≤64
  · rw [if_pos hn]
    refine racesL_none fun i k hik hk=>?_
    rw [←Bool.not_eq_true]
    intro h
    unfold raceB at h
    split at h
    · rename_i a b ha hb
      rw [Bool.and_eq_true,Bool.and_eq_true] at h
      have w:=(clK_way _ _ _ (Nat.le_refl _) i k (by omega)).1 h.1
      have ht:=L.way H3 hn w ha hb
      have h2:=h.2.2
      unfold meddle at h2
      rw [Bool.and_eq_true,bne_iff_ne] at h2
      exact h2.1 ht
    · cases h
  · rw [if_neg hn]
end Jq

namespace Jq
open Go
variable (C:CallF) (L:LoopF) (G:Glo)
set_option maxRecDepth 100000 in
theorem q271_eq (l0:List Cell) (a1:Int) (x2:Cell) (h0:AHeap):q271.body C L G [(.agg l0),(.c (.int .i64 a1)),(.c x2)] h0=if 0=0∧l0.length=3 then c2 (C 278 [(.agg l0),(.c (.int .i64 a1)),(.c x2)] h0) fun y_2 y_3 h_1=>asC y_2 fun x_4=>asI .i64 y_3 fun n_5=>eqNilK false x_4 .nilp fun b_6=>if b_6=true then some ([(.c .nils),(.c (.int .i64 0)),(.c (.bool false))],h_1) else c1 (C 175 [(.c x_4)] h_1) fun y_8 h_7=>asC y_8 fun x_9=>c1 (C 174 [(.c x_4)] h_7) fun y_11 h_10=>asB y_11 fun b_12=>some ([(.c x_9),(.c (.int .i64 n_5)),(.c (.bool b_12))],h_10) else none:=by kernel_rfl
def q278_k2 (C:CallF) (L:LoopF) (G:Glo) (h0:AHeap):Ex→St→Option (List AV × AHeap):=kSeq (fun st=>q278_p1.exec C L G st (q278.fin G h0)) (q278.fin G h0)
def q278_k3 (C:CallF) (L:LoopF) (G:Glo) (h0:AHeap):Ex→St→Option (List AV × AHeap):=kBlk 0 (q278_k2 C L G h0)
def q278_s1 (x2 x8 x22:Cell) (a23 a24:Int) (h:AHeap):St:=⟨tops 2 (.v (.c x2) :: tops 5 (.v (.c x8) :: tops 13 (.v (.c x22) :: .v (.c (.int .i64 a23)) :: .v (.c (.int .i64 a24)) :: tops 18 []))),[none,none],h⟩
def q278_F1 (C:CallF) (L:LoopF) (G:Glo):St→Option (Ex × St):=roundF (fun st f=>q278_b1.exec C L G st f) [2,8,22,23,24] [] [(0,[6,7],[]),(1,[2,8],[])]
def q278_x1_0 (x6:Cell) (a7:Int) (h:AHeap):St:=⟨tops 6 (.v (.c x6) :: .v (.c (.int .i64 a7)) :: tops 35 []),[none,none],h⟩
def q278_x1_1 (x2 x8:Cell) (h:AHeap):St:=⟨tops 2 (.v (.c x2) :: tops 5 (.v (.c x8) :: tops 34 [])),[none,none],h⟩
theorem q278_r1 (x2 x8 x22:Cell) (a23 a24:Int) (h:AHeap):q278_F1 C L G (q278_s1 x2 x8 x22 a23 a24 h)=if (decide (a24<a23))=true then idxSK 1 x22 a24 fun k_7 N_8 o_9=>rdH h k_7 N_8 fun l_10=>atK l_10 o_9 fun q_11=>asI .i64 (.c q_11) fun n_12=>c2 (C 173 [(.c x8),(.c (.int .i64 n_12))] h) fun y_14 y_15 h_13=>asA y_14 fun l_16=>asB y_15 fun b_17=>if 0=0∧(List.replicate 7 (Cell.int .i64 0)).length=7∧l_16.length=7 then if (!b_17)=true then some (.ret,(q278_x1_0 x8 a24 h_13)) else some (.normal,(q278_s1 x2 x8 x22 a23 (G.wrap .i64 (a24+1)) h_13)) else none else some ((.exit 0),(q278_x1_1 x2 x8 h)):=by kernel_rfl
theorem q278_e1_0 (h0:AHeap) (x6:Cell) (a7:Int) (h:AHeap):(q278_k3 C L G h0) .ret (q278_x1_0 x6 a7 h)=some ([(.c x6),(.c (.int .i64 a7))],h):=by kernel_rfl
theorem q278_e1_1 (h0:AHeap) (x2 x8:Cell) (h:AHeap):(q278_k3 C L G h0) (.exit 0) (q278_x1_1 x2 x8 h)=lenK x2 fun n_18=>some ([(.c x8),(.c (.int .i64 n_18))],h):=by kernel_rfl
set_option maxRecDepth 100000 in
theorem q278_eq (l0:List Cell) (a1:Int) (x2:Cell) (h0:AHeap):q278.body C L G [(.agg l0),(.c (.int .i64 a1)),(.c x2)] h0=if 0=0∧l0.length=3 then c2 (C 171 [(.agg l0),(.c (.int .i64 a1))] h0) fun y_2 y_3 h_1=>asC y_2 fun x_4=>asI .i64 y_3 fun n_5=>if (n_5 != 0)=true then some ([(.c .nilp),(.c (.int .i64 0))],h_1) else lenK x2 fun n_6=>(L (q278_F1 C L G) (q278_s1 x2 x_4 x2 n_6 0 h_1)).bind fun p_19=>(q278_k3 C L G h0) p_19.1 p_19.2 else none:=by kernel_rfl
end Jq

namespace Jq
open Go
structure Plays (P:PProg) (m:Int):Prop where
  small:P.small
  hu:∀x∈P.locs,0≤x∧x<256
  ll:P.locs.length≤1000
  il:P.init.length≤4
  hm:1≤m∧m≤3
  pok:pokB P=true
  inv:(MV.new P m).Inv
  good:P.good
  n4:P.thr.length≤4
section
variable {E:Env}
theorem mayI_no {V:MV} {q:Int} (h:mayI V q=false):hasI V.word q=false:=by rw [←mayI_has];exact h
theorem prun_R (hE:q278_In E) {h:AHeap} {pc:List Cell} {P:PProg} (p:ProgAt h pc P) {m:Int} (pl:Plays P m) {y:Cell} {l:List Int} (hy:SlAt h y 1 (intC .i64 l) l.length) (hlow:Low h.length y) (hlen:l.length<90000) :
    ∃n k x' pc' h',R E 278 [.agg pc,.c (.int .i64 m),.c y] h=some ([.c (.ptr k 329 0),.c (.int .i64 (((MV.new P m).runG l).2:Int))],h')∧VmAt n h' k x' pc' ((MV.new P m).runs l)∧h.length≤n∧Kp h.length h h':=by
  obtain ⟨n,k0,pc',h1,r1,a1,hn,k1⟩:=VNew_R hE.c171 p pl.small pl.hu pl.ll pl.il pl.hm pl.pok
  have key:∀(t:List Int) (j:Nat) (V:MV) (x:Cell) (h2:AHeap),l.drop j=t→j≤l.length→V.st.length=j→V.Inv→VmAt n h2 k0 x pc' V→Kp h.length h h2 →
      ∃x' h3,(Lim (q278_F1 (R E) Lim E.glob) (q278_s1 y (.ptr k0 329 0) y (l.length:Int) (j:Int) h2)).bind (fun p_17=>(q278_k3 (R E) Lim E.glob h) p_17.1 p_17.2)=some ([.c (.ptr k0 329 0),.c (.int .i64 ((j+(V.runG t).2:Nat):Int))],h3)∧VmAt n h3 k0 x' pc' (V.runG t).1∧Kp h.length h h3:=by
    intro t
    induction t with
    | nil =>
      intro j V x h2 hd hj hst v a kk
      have hjl:j=l.length:=by
        have:=congrArg List.length hd
        rw [List.length_drop,List.length_nil] at this;omega
      subst hjl
      have hy2:=hy.keep hlow kk
      have e1:q278_F1 (R E) Lim E.glob (q278_s1 y (.ptr k0 329 0) y (l.length:Int) (l.length:Int) h2)=some (.exit 0,q278_x1_1 y (.ptr k0 329 0) h2):=by
        rw [q278_r1,if_neg (by simp)]
      refine ⟨x,h2,?_,a,kk⟩
      rw [Lim_exit e1,bind_ok]
      dsimp only
      rw [q278_e1_1,hy2.len]
      rfl
    | cons q t ih =>
      intro j V x h2 hd hj hst v a kk
      have hjl:j<l.length:=by
        rcases Nat.lt_or_ge j l.length with c | c
        · exact c
        · rw [List.drop_of_length_le c] at hd;cases hd
      have hq:l[j]? = some q:=by
        have:=congrArg (fun z=>z[0]?) hd
        simp only [List.getElem?_drop,List.getElem?_cons_zero,Nat.add_zero] at this
        exact this
      have hd2:l.drop (j+1)=t:=by
        have:=congrArg (List.drop 1) hd
        rw [List.drop_drop] at this
        simpa using this
      have hy2:=hy.keep hlow kk
      unfold MV.runG
      by_cases hm:mayI V q=true
      · obtain ⟨i,rfl,hi,hin⟩:=mayI_at hm
        rw [if_pos hm,hin]
        obtain ⟨x3,h3,r3,a3,k3⟩:=Pick_R hE.c173 a v (by omega) hi
        have e1:q278_F1 (R E) Lim E.glob (q278_s1 y (.ptr k0 329 0) y (l.length:Int) (j:Int) h2)=some (.normal,q278_s1 y (.ptr k0 329 0) y (l.length:Int) ((j+1:Nat):Int) h3):=by
          rw [q278_r1,if_pos (by simp;omega),hy2.get1 hjl (intC_get hq),asI_ok,r3,c2_ok,asA_ok,asB_ok,if_pos (by exact ⟨rfl,rfl,rfl⟩),if_neg (by simp),g_succ (by omega)]
        obtain ⟨x4,h4,r4,a4,k4⟩:=ih (j+1) (V.nx i) x3 h3 hd2 (by omega) (by rw [V.nx_st,List.length_append,List.length_singleton,hst]) (v.nx hi) a3 (kk.trans (k3.kp.mono hn))
        refine ⟨x4,h4,?_,a4,k4⟩
        have hL:∀r,Lim (q278_F1 (R E) Lim E.glob) (q278_s1 y (.ptr k0 329 0) y (l.length:Int) ((j+1:Nat):Int) h3)=some r→Lim (q278_F1 (R E) Lim E.glob) (q278_s1 y (.ptr k0 329 0) y (l.length:Int) (j:Int) h2)=some r:=fun r hr=>Lim_next e1 hr
        cases hl:Lim (q278_F1 (R E) Lim E.glob) (q278_s1 y (.ptr k0 329 0) y (l.length:Int) ((j+1:Nat):Int) h3) with
        | none=>rw [hl] at r4;cases r4
        | some r =>
          rw [hl] at r4
          rw [hL r hl,r4,show j+1+((V.nx i).runG t).2=j+(((V.nx i).runG t).2+1) by omega]
      · rw [if_neg hm]
        have hm':mayI V q=false:=by simpa using hm
        have r3:=Pick_no hE.c173 a v (mayI_no hm')
        have e1:q278_F1 (R E) Lim E.glob (q278_s1 y (.ptr k0 329 0) y (l.length:Int) (j:Int) h2)=some (.ret,q278_x1_0 (.ptr k0 329 0) (j:Int) h2):=by
          rw [q278_r1,if_pos (by simp;omega),hy2.get1 hjl (intC_get hq),asI_ok,r3,c2_ok,asA_ok,asB_ok,if_pos (by exact ⟨rfl,rfl,rfl⟩),if_pos (by simp)]
        refine ⟨x,h2,?_,a,kk⟩
        rw [Lim_ret e1,bind_ok]
        dsimp only
        rw [q278_e1_0]
        rfl
  obtain ⟨x',h3,e1,e2,e3⟩:=key l 0 (MV.new P m) .nils h1 rfl (by omega) rfl pl.inv a1 k1
  refine ⟨n,k0,x',pc',h3,R_intro hE.fn ?_,e2,hn,e3⟩
  rw [q278_eq,if_pos (by exact ⟨rfl,p.len⟩),r1,c2_ok,asC_ok,asI_ok,if_neg (by simp),hy.len]
  rw [Nat.zero_add,show ((0:Nat):Int)=0 from rfl] at e1
  exact e1
theorem PRun_R (hE:q271_In E) {h:AHeap} {pc:List Cell} {P:PProg} (p:ProgAt h pc P) {m:Int} (pl:Plays P m) {y:Cell} {l:List Int} (hy:SlAt h y 1 (intC .i64 l) l.length) (hlow:Low h.length y) (hlen:l.length<90000) :
    ∃z h',R E 271 [.agg pc,.c (.int .i64 m),.c y] h=some ([.c z,.c (.int .i64 (((MV.new P m).runG l).2:Int)),.c (.bool (((MV.new P m).runs l).word==0))],h')∧Own h.length h' z 7 (stepsC ((MV.new P m).runs l).st) ((MV.new P m).runs l).st.length∧Kp h.length h h':=by
  obtain ⟨n,k,x',pc',h1,r1,a1,hn,k1⟩:=prun_R hE.c278 p pl hy hlow hlen
  obtain ⟨v,vP,vm⟩:=MV.runs_inv pl.inv l
  have vst:=(MV.runG_inv pl.inv l).2.2.2
  have hst:((MV.new P m).runs l).st.length≤100000:=by
    show ((MV.new P m).runG l).1.st.length≤100000
    rw [vst.1,show (MV.new P m).st.length=0 from rfl]
    have:=vst.2
    omega
  obtain ⟨z,h2,r2,o2,k2⟩:=Steps_R hE.c175 a1 v.fit hst
  have a2:=a1.keep k2
  have r3:=Done_R hE.c174 a2.blk v.fit (prog_at a2.prog a2.hn (Kp.refl n h2))
  refine ⟨z,h2,R_intro hE.fn ?_,o2.monoN k1.1,k1.trans (k2.mono k1.1)⟩
  rw [q271_eq,if_pos (by exact ⟨rfl,p.len⟩),r1,c2_ok,asC_ok,asI_ok]
  rw [ptr_nil,if_neg (by simp),r2,c1_ok,asC_ok,r3,c1_ok,asB_ok]
end
end Jq

namespace Jq
open Go
def revP (l:List Stp) (m:Int) (i:Nat) (a:Nat):Bool:=a != i&&!(hbF l m i).testBit a
def pickD (l:List Stp) (a:Nat):Int:=match l[a]? with | some s=>s.pick | none=>0
def revK (l:List Stp) (m:Int) (i k:Nat):List Int:=((List.range k).filter (revP l m i)).map (pickD l)
def revL (l:List Stp) (m:Int) (i k:Nat):List Int:=revK l m i k++[pickD l k]
theorem revK_succ (l:List Stp) (m:Int) (i k:Nat):revK l m i (k+1)=revK l m i k++(if revP l m i k=true then [pickD l k] else []):=by
  unfold revK
  rw [List.range_succ,List.filter_append,List.map_append]
  congr 1
  by_cases h:revP l m i k=true
  · rw [if_pos h,List.filter_cons_of_pos h];rfl
  · rw [if_neg h,List.filter_cons_of_neg h];rfl
theorem revK_len (l:List Stp) (m:Int) (i k:Nat):(revK l m i k).length≤k:=by
  unfold revK
  rw [List.length_map]
  have:=List.length_filter_le (revP l m i) (List.range k)
  rwa [List.length_range] at this
section
variable {E:Env}
theorem Contains_R (hE:q275_In E) {x:Cell} {l:List (Int × Int)} {h:AHeap} (hx:SlAt h x 2 (pairC l) l.length) (hl:l.length<9223372036854775807) {p:Int × Int} (hp:p∈l) :
    R E 275 [.c x,.agg [.int .i64 p.1,.int .i64 p.2]] h=some ([.c (.bool true)],h):=by
  have loop:∀(n i:Nat),i+n=l.length→p∈l.drop i→∃r:Nat,(Lim (q284_F1 (R E) Lim E.glob) (q284_s1 x l.length (i:Int) [.int .i64 p.1,.int .i64 p.2] h)).bind (fun q=>q284_k3 (R E) Lim E.glob h q.1 q.2)=some ([.c (.int .i64 (r:Int))],h):=by
    intro n
    induction n with
    | zero =>
      intro i hi hm
      rw [List.drop_of_length_le (by omega)] at hm;cases hm
    | succ n ih =>
      intro i hi hm
      have hq:l[i]? = some l[i]:=List.getElem?_eq_getElem (by omega)
      have hdr:l.drop i=l[i] :: l.drop (i+1):=List.drop_eq_getElem_cons (by omega)
      generalize l[i]=q at hq hdr
      obtain ⟨off,c,g1,g2,g3⟩:=hx.pairG hq
      have ha:∀z:Int × Int,alike (pairCs z) [Cell.int .i64 0,Cell.int .i64 0]=true:=fun _=>rfl
      rw [hdr] at hm
      by_cases he:p=q
      · refine ⟨i,?_⟩
        subst he
        have hr:q284_F1 (R E) Lim E.glob (q284_s1 x l.length (i:Int) [.int .i64 p.1,.int .i64 p.2] h)=some (.ret,q284_x1_0 (i:Int) h):=by
          rw [q284_r1,if_pos (by simp;omega),if_pos ⟨by trivial,by rfl⟩,g1,if_pos g2,g3,if_pos ⟨by rfl,ha p⟩,if_pos (decide_eq_true (show ([.int .i64 p.1,.int .i64 p.2]:List Cell)=pairCs p from rfl))]
        rw [Lim_ret hr,bind_ok,q284_e1_0]
      · have hm':p∈l.drop (i+1):=by
          rcases List.mem_cons.1 hm with c | c
          · exact absurd c he
          · exact c
        obtain ⟨r,h1⟩:=ih (i+1) (by omega) hm'
        refine ⟨r,?_⟩
        have hne:¬([.int .i64 p.1,.int .i64 p.2]:List Cell)=pairCs q:=fun e=>he (by
          unfold pairCs at e
          simp only [List.cons.injEq,Cell.int.injEq] at e
          exact Prod.ext e.1.2 e.2.1.2)
        have hr:q284_F1 (R E) Lim E.glob (q284_s1 x l.length (i:Int) [.int .i64 p.1,.int .i64 p.2] h)=some (.normal,q284_s1 x l.length ((i+1:Nat):Int) [.int .i64 p.1,.int .i64 p.2] h):=by
          rw [q284_r1,if_pos (by simp;omega),if_pos ⟨by trivial,by rfl⟩,g1,if_pos g2,g3,if_pos ⟨by rfl,ha q⟩,if_neg (by rw [decide_eq_true_eq];exact hne),g_succ (by omega)]
        cases hL:Lim (q284_F1 (R E) Lim E.glob) (q284_s1 x l.length ((i+1:Nat):Int) [.int .i64 p.1,.int .i64 p.2] h) with
        | none=>rw [hL] at h1;cases h1
        | some w =>
          rw [Lim_next hr hL]
          rw [hL] at h1;exact h1
  obtain ⟨r,h1⟩:=loop l.length 0 (by omega) (by rw [List.drop_zero];exact hp)
  have h3:R E 284 [.c x,.agg [.int .i64 p.1,.int .i64 p.2]] h=some ([.c (.int .i64 (r:Int))],h):=by
    refine R_intro hE.c284.fn ?_
    rw [q284_eq,hx.len];exact h1
  refine R_intro hE.fn ?_
  rw [q275_eq,if_pos ⟨by trivial,by rfl⟩,h3,c1_ok,asI_ok,decide_eq_true (show (r:Int)≥0 by omega)]
theorem EqualS_R (hE:q276_In E) {x y:Cell} {l:List Stp} {h:AHeap} (hx:SlAt h x 7 (stepsC l) l.length) (hy:SlAt h y 7 (stepsC l) l.length) (hl:l.length<9223372036854775807) :
    R E 276 [.c x,.c y] h=some ([.c (.bool true)],h):=by
  have lp:Lim (q276_F1 (R E) Lim E.glob) (q276_s1 x y (l.length:Int) ((0:Nat):Int) h)=some (.exit 0,q276_x1_1 h) :=
    Lim_count (F:=q276_F1 (R E) Lim E.glob) (fun i=>q276_s1 x y (l.length:Int) (i:Int) h) 0 l.length (by omega) (fun i _ hi=>by
      have hq:l[i]? = some l[i]:=List.getElem?_eq_getElem hi
      generalize l[i]=q at hq
      obtain ⟨off,c,g1,g2,g3⟩:=hx.stepG hq
      obtain ⟨off',c',g1',g2',g3'⟩:=hy.stepG hq
      rw [q276_r1,if_pos (by simp;omega),g1,if_pos g2,g3,g1',if_pos g2',g3',if_pos ⟨by rfl,by rfl⟩,if_neg (by simp),g_succ (by omega)]) (Lim_exit (by rw [q276_r1,if_neg (by simp)]))
  refine R_intro hE.fn ?_
  rw [show ((0:Nat):Int)=0 from rfl] at lp
  rw [q276_eq,hx.len,hy.len,if_neg (by simp),hx.len,lp,bind_ok]
  dsimp only
  rw [q276_e1_1]
theorem pickD_get {l:List Stp} {a:Nat} {s:Stp} (h:l[a]? = some s):pickD l a=s.pick:=by unfold pickD;rw [h]
theorem Reverse_R (hE:q269_In E) (ht:TabOk E) {h:AHeap} {pc:List Cell} {P:PProg} (p:ProgAt h pc P) {m:Int} (pl:Plays P m) {x:Cell} {l:List Stp} (hx:SlAt h x 7 (stepsC l) l.length) (hlow:Low h.length x) {i k:Nat}
    (hmem:((i:Int),(k:Int))∈racesT l m) (hik:i<k∧k<l.length) (hw:(MV.new P m).whole (l.map Stp.pick)) (hst:((MV.new P m).runs (l.map Stp.pick)).st=l) (hrev:(MV.new P m).whole (revL l m i k)) :
    ∃z h',R E 269 [.agg pc,.c (.int .i64 m),.c x,.c (.int .i64 (i:Int)),.c (.int .i64 (k:Int))] h=some ([.c z,.c (.bool true)],h')∧Own h.length h' z 1 (intC .i64 (revL l m i k)) (revL l m i k).length∧Kp h.length h h':=by
  have hM:maxBytes≥1000*8:=by unfold maxBytes;omega
  have hl64:l.length≤64:=by
    rcases Nat.lt_or_ge 64 l.length with c | c
    · unfold racesT at hmem;rw [if_neg (by omega)] at hmem;cases hmem
    · exact c
  obtain ⟨y1,h1,r1,o1,k1⟩:=Races_R hE.c256 ht hx hlow m
  have hx1:=hx.keep hlow k1
  have hrl:(racesT l m).length≤64*64:=by
    unfold racesT
    rw [if_pos hl64]
    have:=racesL_len (raceB l.length (hbF l m) l m) hl64 l.length (Nat.le_refl _)
    omega
  have rc:=Contains_R hE.c275 o1.at (by omega) hmem
  obtain ⟨st,⟨y,h2,rfl,o2,k2⟩,hL⟩:=Lim_inv (F:=q269_F1 (R E) Lim E.glob)
    (fun a st=>∃y h',st=q269_s1 m x (i:Int) (k:Int) y x (l.length:Int) (a:Int) pc h'∧Own h1.length h' y 1 (intC .i64 ((l.map Stp.pick).take a)) a∧Kp h1.length h1 h') 0 l.length (by omega)
    (fun a st _ ha=>by
      rintro ⟨y,h',rfl,o,kk⟩
      have hq:l[a]? = some l[a]:=List.getElem?_eq_getElem ha
      generalize l[a]=s at hq
      have hx2:=hx.keep hlow (k1.trans (kk.mono k1.1))
      obtain ⟨off,c,g1,g2,g3⟩:=hx2.stepG hq
      obtain ⟨y2,h2,e2,o2,k2,_⟩:=o.app (bytes:=8) (xs:=[.int .i64 s.pick]) kk.1 rfl (by omega) (by omega) (by omega)
      refine ⟨q269_s1 m x (i:Int) (k:Int) y2 x (l.length:Int) ((a+1:Nat):Int) pc h2,?_,y2,h2,rfl,?_,kk.trans k2⟩
      · rw [q269_r1,if_pos (by simp;omega),g1,if_pos g2,g3,if_pos ⟨by trivial,by rfl,by rfl⟩,stp_pick,asI_ok,if_pos (by rfl),show splice [Cell.int .i64 0] 0 ([(.int .i64 s.pick)]:List Cell)=[.int .i64 s.pick] from rfl,e2,g_succ (by omega)]
      · rw [takeI_succ (p:=s.pick) (by rw [List.getElem?_map,hq];rfl),intC_snoc]
        exact o2) (st:=q269_s1 m x (i:Int) (k:Int) .nils x (l.length:Int) ((0:Nat):Int) pc h1) ⟨.nils,h1,rfl,Own.nil _ _ _,Kp.refl _ _⟩
  have hr:=hL _ (Lim_exit (show q269_F1 (R E) Lim E.glob (q269_s1 m x (i:Int) (k:Int) y x (l.length:Int) (l.length:Int) pc h2)=some (.exit 0,q269_x1_1 m x (i:Int) (k:Int) y pc h2) by rw [q269_r1,if_neg (by simp)]))
  rw [show ((0:Nat):Int)=0 from rfl] at hr
  rw [List.take_of_length_le (by rw [List.length_map];exact Nat.le_refl _)] at o2
  have kk2:=k1.trans (k2.mono k1.1)
  have hml:(l.map Stp.pick).length=l.length:=List.length_map _
  have o2':Own h1.length h2 y 1 (intC .i64 (l.map Stp.pick)) (l.map Stp.pick).length:=by rw [hml];exact o2
  obtain ⟨z3,h3,r3,o3,k3⟩:=PRun_R hE.c271 (p.keep kk2) pl o2'.at o2'.low (by omega)
  have hn2:((MV.new P m).runG (l.map Stp.pick)).2=l.length:=by
    have:=hw
    unfold MV.whole at this
    rw [this,hml]
  rw [hst] at o3
  rw [hn2] at r3
  have kk3:=kk2.trans (k3.mono kk2.1)
  have hx3:=hx.keep hlow kk3
  have re:=EqualS_R hE.c276 o3.at hx3 (by omega)
  have rhb:=HB_R hE.c255 hx3 (Low_mono kk3.1 hlow) hl64 m
  have o2c:=o2'.keepK k3
  obtain ⟨st,⟨w,h4,rfl,o4,k4⟩,hL4⟩:=Lim_inv (F:=q269_F2 (R E) Lim E.glob)
    (fun a st=>∃w h',st=q269_s2 m (i:Int) (k:Int) y w (k:Int) (a:Int) pc (relL l.length (hbF l m)) h'∧Own h3.length h' w 1 (intC .i64 (revK l m i a)) (revK l m i a).length∧Kp h3.length h3 h') 0 k (by omega)
    (fun a st _ ha=>by
      rintro ⟨w,h',rfl,o,kk⟩
      have hq:l[a]? = some l[a]:=List.getElem?_eq_getElem (by omega)
      generalize l[a]=s at hq
      have hne:((a:Int) != (i:Int))=(a != i):=by rw [Bool.eq_iff_iff,bne_iff_ne,bne_iff_ne];omega
      have hlen:=revK_len l m i a
      have o2d:=(o2c.keepK kk).at
      have hstep:q269_F2 (R E) Lim E.glob (q269_s2 m (i:Int) (k:Int) y w (k:Int) (a:Int) pc (relL l.length (hbF l m)) h')=if revP l m i a=true then appK 1 8 w [.int .i64 s.pick] h' (fun w' h''=>some (Ex.normal,q269_s2 m (i:Int) (k:Int) y w' (k:Int) ((a+1:Nat):Int) pc (relL l.length (hbF l m)) h'')) else some (.normal,q269_s2 m (i:Int) (k:Int) y w (k:Int) ((a+1:Nat):Int) pc (relL l.length (hbF l m)) h'):=by
        rw [q269_r2,if_pos (by simp;omega),hne,if_pos ⟨by trivial,relL_len _ _⟩,HasR_R hE.c3 hl64 (hbF_words l m),c1_ok,asB_ok,hasR_n0 (by omega) (by omega),scK_and]
        show (if revP l m i a=true then _ else _)=_
        by_cases hp:revP l m i a=true
        · rw [if_pos hp,if_pos hp,o2d.get1 (by rw [hml];omega) (intC_get (show (l.map Stp.pick)[a]? = some s.pick by rw [List.getElem?_map,hq];rfl)),asI_ok,if_pos (by rfl),g_succ (by omega)]
          rfl
        · rw [if_neg hp,if_neg hp,g_succ (by omega)]
      rw [revK_succ,pickD_get hq]
      by_cases hp:revP l m i a=true
      · obtain ⟨w2,h5,e5,o5,k5,_⟩:=o.app (bytes:=8) (xs:=[.int .i64 s.pick]) kk.1 rfl (by omega) (by omega) (by omega)
        refine ⟨q269_s2 m (i:Int) (k:Int) y w2 (k:Int) ((a+1:Nat):Int) pc (relL l.length (hbF l m)) h5,by rw [hstep,if_pos hp,e5],w2,h5,rfl,?_,kk.trans k5⟩
        rw [if_pos hp,intC_snoc,List.length_append,List.length_singleton]
        exact o5
      · refine ⟨q269_s2 m (i:Int) (k:Int) y w (k:Int) ((a+1:Nat):Int) pc (relL l.length (hbF l m)) h',by rw [hstep,if_neg hp],w,h',rfl,?_,kk⟩
        rw [if_neg hp,List.append_nil]
        exact o) (st:=q269_s2 m (i:Int) (k:Int) y .nils (k:Int) ((0:Nat):Int) pc (relL l.length (hbF l m)) h3) ⟨.nils,h3,rfl,Own.nil _ _ _,Kp.refl _ _⟩
  have hr4:=hL4 _ (Lim_exit (show q269_F2 (R E) Lim E.glob (q269_s2 m (i:Int) (k:Int) y w (k:Int) (k:Int) pc (relL l.length (hbF l m)) h4)=some (.exit 2,q269_x2_3 m (k:Int) y w pc h4) by rw [q269_r2,if_neg (by simp)]))
  rw [show ((0:Nat):Int)=0 from rfl] at hr4
  have hqk:l[k]? = some l[k]:=List.getElem?_eq_getElem hik.2
  generalize l[k]=sk at hqk
  have hlen4:=revK_len l m i k
  obtain ⟨w5,h5,e5,o5,k5,_⟩:=o4.app (bytes:=8) (xs:=[.int .i64 sk.pick]) k4.1 rfl (by omega) (by omega) (by omega)
  have o5':Own h3.length h5 w5 1 (intC .i64 (revL l m i k)) (revL l m i k).length:=by
    unfold revL
    rw [intC_snoc,List.length_append,List.length_singleton,pickD_get hqk]
    exact o5
  have kk5:Kp h3.length h3 h5:=k4.trans k5
  have rlen:(revL l m i k).length≤100:=by unfold revL;rw [List.length_append,List.length_singleton];omega
  obtain ⟨z6,h6,r6,o6,k6⟩:=PRun_R hE.c271 (p.keep (kk3.trans (kk5.mono kk3.1))) pl o5'.at o5'.low (by omega)
  have hn6:((MV.new P m).runG (revL l m i k)).2=(revL l m i k).length:=hrev
  rw [hn6] at r6
  have o5c:=o5'.keepK k6
  refine ⟨w5,h6,R_intro hE.fn ?_,o5c.monoN kk3.1,(kk3.trans (kk5.mono kk3.1)).trans (k6.mono (Nat.le_trans kk3.1 kk5.1))⟩
  rw [q269_eq,r1,c1_ok,asC_ok,show splice (splice [Cell.int .i64 0,Cell.int .i64 0] 0 ([(.int .i64 (i:Int))]:List Cell)) 1 ([(.int .i64 (k:Int))]:List Cell)=[.int .i64 (i:Int),.int .i64 (k:Int)] from rfl,rc,c1_ok,asB_ok,if_neg (by simp),hx.len,hr,bind_ok]
  dsimp only
  rw [q269_e1_1,if_pos ⟨by trivial,p.len⟩,r3,c3_ok,asC_ok,asI_ok,asB_ok,o2'.at.len,hml,show ((l.length:Int) != (l.length:Int))=false by simp,scK_ok,re,c1_ok,asB_ok,bind_ok]
  dsimp only
  rw [if_neg (by simp),rhb,c1_ok,asA_ok,if_pos ⟨by trivial,zero_len,relL_len _ _⟩,hr4,bind_ok]
  dsimp only
  have o2e:=(o2c.keepK k4).at
  rw [q269_e2_3,o2e.get1 (by rw [hml];omega) (intC_get (show (l.map Stp.pick)[k]? = some sk.pick by rw [List.getElem?_map,hqk];rfl)),asI_ok,if_pos (by rfl),show splice [Cell.int .i64 0] 0 ([(.int .i64 sk.pick)]:List Cell)=[.int .i64 sk.pick] from rfl,e5,if_pos ⟨by trivial,p.len⟩,r6,c3_ok,asC_ok,asI_ok,asB_ok,o5'.at.len,if_neg (by simp)]
end
end Jq

namespace Jq
open Go
variable (C:CallF) (L:LoopF) (G:Glo)
set_option maxRecDepth 100000 in
theorem q258_eq  (h0:AHeap):q258.body C L G [] h0=if 0=0∧[Cell.int .i64 0,Cell.int .i64 0].length=2∧(splice (splice [Cell.int .i64 0,Cell.int .i64 0] 0 ([(.int .i64 (-1))]:List Cell)) 1 ([(.int .i64 1)]:List Cell)).length=2 then if (splice [Cell.int .u8 0] 0 ([(.int .u8 120)]:List Cell)).length=1*1 then markK (.sl h0.length ((splice [Cell.int .u8 0] 0 ([(.int .u8 120)]:List Cell)).length) 0 1) (h0++[some (Blk.mk true 1 (splice [Cell.int .u8 0] 0 ([(.int .u8 120)]:List Cell)))]) fun x_1 h_2=>if (splice [Cell.int .i64 0] 0 ([(.int .i64 0)]:List Cell)).length=1*1 then if 0=0∧(splice (splice [Cell.int .i64 0,Cell.int .i64 0] 0 ([(.int .i64 (-1))]:List Cell)) 1 ([(.int .i64 1)]:List Cell)).length=2 then if (splice (splice [Cell.int .i64 0,Cell.int .i64 0] 0 ([(.int .i64 (-1))]:List Cell)) 1 ([(.int .i64 1)]:List Cell)).length=2∧3+2≤(splice (List.replicate 9 (Cell.int .i64 0)) 0 ([(.int .i64 1)]:List Cell)).length then if (splice (splice (List.replicate 9 (Cell.int .i64 0)) 0 ([(.int .i64 1)]:List Cell)) 3 (splice (splice [Cell.int .i64 0,Cell.int .i64 0] 0 ([(.int .i64 (-1))]:List Cell)) 1 ([(.int .i64 1)]:List Cell))).length=9∧0+9≤(List.replicate 9 (Cell.int .i64 0)).length then if (splice (List.replicate 9 (Cell.int .i64 0)) 0 (splice (splice (List.replicate 9 (Cell.int .i64 0)) 0 ([(.int .i64 1)]:List Cell)) 3 (splice (splice [Cell.int .i64 0,Cell.int .i64 0] 0 ([(.int .i64 (-1))]:List Cell)) 1 ([(.int .i64 1)]:List Cell)))).length=1*9 then if (splice (List.replicate 9 (Cell.int .i64 0)) 0 ([(.int .i64 2)]:List Cell)).length=9∧0+9≤(List.replicate 9 (Cell.int .i64 0)).length then if (splice (List.replicate 9 (Cell.int .i64 0)) 0 (splice (List.replicate 9 (Cell.int .i64 0)) 0 ([(.int .i64 2)]:List Cell))).length=1*9 then if (splice (splice [Cell.nils,Cell.nils] 0 ([(.sl ((h_2++[some (Blk.mk true 1 (splice [Cell.int .i64 0] 0 ([(.int .i64 0)]:List Cell)))]).length) ((splice (List.replicate 9 (Cell.int .i64 0)) 0 (splice (splice (List.replicate 9 (Cell.int .i64 0)) 0 ([(.int .i64 1)]:List Cell)) 3 (splice (splice [Cell.int .i64 0,Cell.int .i64 0] 0 ([(.int .i64 (-1))]:List Cell)) 1 ([(.int .i64 1)]:List Cell)))).length) 0 1)]:List Cell)) 1 ([(.sl (((h_2++[some (Blk.mk true 1 (splice [Cell.int .i64 0] 0 ([(.int .i64 0)]:List Cell)))])++[some (Blk.mk true 9 (splice (List.replicate 9 (Cell.int .i64 0)) 0 (splice (splice (List.replicate 9 (Cell.int .i64 0)) 0 ([(.int .i64 1)]:List Cell)) 3 (splice (splice [Cell.int .i64 0,Cell.int .i64 0] 0 ([(.int .i64 (-1))]:List Cell)) 1 ([(.int .i64 1)]:List Cell)))))]).length) ((splice (List.replicate 9 (Cell.int .i64 0)) 0 (splice (List.replicate 9 (Cell.int .i64 0)) 0 ([(.int .i64 2)]:List Cell))).length) 0 1)]:List Cell)).length=2*1 then if 0=0∧[Cell.nils,Cell.nils,Cell.nils].length=3∧(splice (splice (splice [Cell.nils,Cell.nils,Cell.nils] 0 ([x_1]:List Cell)) 1 ([(.sl h_2.length ((splice [Cell.int .i64 0] 0 ([(.int .i64 0)]:List Cell)).length) 0 1)]:List Cell)) 2 ([(.sl ((((h_2++[some (Blk.mk true 1 (splice [Cell.int .i64 0] 0 ([(.int .i64 0)]:List Cell)))])++[some (Blk.mk true 9 (splice (List.replicate 9 (Cell.int .i64 0)) 0 (splice (splice (List.replicate 9 (Cell.int .i64 0)) 0 ([(.int .i64 1)]:List Cell)) 3 (splice (splice [Cell.int .i64 0,Cell.int .i64 0] 0 ([(.int .i64 (-1))]:List Cell)) 1 ([(.int .i64 1)]:List Cell)))))])++[some (Blk.mk true 9 (splice (List.replicate 9 (Cell.int .i64 0)) 0 (splice (List.replicate 9 (Cell.int .i64 0)) 0 ([(.int .i64 2)]:List Cell))))]).length) ((splice (splice [Cell.nils,Cell.nils] 0 ([(.sl ((h_2++[some (Blk.mk true 1 (splice [Cell.int .i64 0] 0 ([(.int .i64 0)]:List Cell)))]).length) ((splice (List.replicate 9 (Cell.int .i64 0)) 0 (splice (splice (List.replicate 9 (Cell.int .i64 0)) 0 ([(.int .i64 1)]:List Cell)) 3 (splice (splice [Cell.int .i64 0,Cell.int .i64 0] 0 ([(.int .i64 (-1))]:List Cell)) 1 ([(.int .i64 1)]:List Cell)))).length) 0 1)]:List Cell)) 1 ([(.sl (((h_2++[some (Blk.mk true 1 (splice [Cell.int .i64 0] 0 ([(.int .i64 0)]:List Cell)))])++[some (Blk.mk true 9 (splice (List.replicate 9 (Cell.int .i64 0)) 0 (splice (splice (List.replicate 9 (Cell.int .i64 0)) 0 ([(.int .i64 1)]:List Cell)) 3 (splice (splice [Cell.int .i64 0,Cell.int .i64 0] 0 ([(.int .i64 (-1))]:List Cell)) 1 ([(.int .i64 1)]:List Cell)))))]).length) ((splice (List.replicate 9 (Cell.int .i64 0)) 0 (splice (List.replicate 9 (Cell.int .i64 0)) 0 ([(.int .i64 2)]:List Cell))).length) 0 1)]:List Cell)).length) 0 2)]:List Cell)).length=3 then if 0=0∧(splice (splice (splice [Cell.nils,Cell.nils,Cell.nils] 0 ([x_1]:List Cell)) 1 ([(.sl h_2.length ((splice [Cell.int .i64 0] 0 ([(.int .i64 0)]:List Cell)).length) 0 1)]:List Cell)) 2 ([(.sl ((((h_2++[some (Blk.mk true 1 (splice [Cell.int .i64 0] 0 ([(.int .i64 0)]:List Cell)))])++[some (Blk.mk true 9 (splice (List.replicate 9 (Cell.int .i64 0)) 0 (splice (splice (List.replicate 9 (Cell.int .i64 0)) 0 ([(.int .i64 1)]:List Cell)) 3 (splice (splice [Cell.int .i64 0,Cell.int .i64 0] 0 ([(.int .i64 (-1))]:List Cell)) 1 ([(.int .i64 1)]:List Cell)))))])++[some (Blk.mk true 9 (splice (List.replicate 9 (Cell.int .i64 0)) 0 (splice (List.replicate 9 (Cell.int .i64 0)) 0 ([(.int .i64 2)]:List Cell))))]).length) ((splice (splice [Cell.nils,Cell.nils] 0 ([(.sl ((h_2++[some (Blk.mk true 1 (splice [Cell.int .i64 0] 0 ([(.int .i64 0)]:List Cell)))]).length) ((splice (List.replicate 9 (Cell.int .i64 0)) 0 (splice (splice (List.replicate 9 (Cell.int .i64 0)) 0 ([(.int .i64 1)]:List Cell)) 3 (splice (splice [Cell.int .i64 0,Cell.int .i64 0] 0 ([(.int .i64 (-1))]:List Cell)) 1 ([(.int .i64 1)]:List Cell)))).length) 0 1)]:List Cell)) 1 ([(.sl (((h_2++[some (Blk.mk true 1 (splice [Cell.int .i64 0] 0 ([(.int .i64 0)]:List Cell)))])++[some (Blk.mk true 9 (splice (List.replicate 9 (Cell.int .i64 0)) 0 (splice (splice (List.replicate 9 (Cell.int .i64 0)) 0 ([(.int .i64 1)]:List Cell)) 3 (splice (splice [Cell.int .i64 0,Cell.int .i64 0] 0 ([(.int .i64 (-1))]:List Cell)) 1 ([(.int .i64 1)]:List Cell)))))]).length) ((splice (List.replicate 9 (Cell.int .i64 0)) 0 (splice (List.replicate 9 (Cell.int .i64 0)) 0 ([(.int .i64 2)]:List Cell))).length) 0 1)]:List Cell)).length) 0 2)]:List Cell)).length=3 then if (splice (splice [Cell.int .i64 0,Cell.int .i64 0] 0 ([(.int .i64 0)]:List Cell)) 1 ([(.int .i64 1)]:List Cell)).length=2*1 then c2 (C 186 [(.agg (splice (splice (splice [Cell.nils,Cell.nils,Cell.nils] 0 ([x_1]:List Cell)) 1 ([(.sl h_2.length ((splice [Cell.int .i64 0] 0 ([(.int .i64 0)]:List Cell)).length) 0 1)]:List Cell)) 2 ([(.sl ((((h_2++[some (Blk.mk true 1 (splice [Cell.int .i64 0] 0 ([(.int .i64 0)]:List Cell)))])++[some (Blk.mk true 9 (splice (List.replicate 9 (Cell.int .i64 0)) 0 (splice (splice (List.replicate 9 (Cell.int .i64 0)) 0 ([(.int .i64 1)]:List Cell)) 3 (splice (splice [Cell.int .i64 0,Cell.int .i64 0] 0 ([(.int .i64 (-1))]:List Cell)) 1 ([(.int .i64 1)]:List Cell)))))])++[some (Blk.mk true 9 (splice (List.replicate 9 (Cell.int .i64 0)) 0 (splice (List.replicate 9 (Cell.int .i64 0)) 0 ([(.int .i64 2)]:List Cell))))]).length) ((splice (splice [Cell.nils,Cell.nils] 0 ([(.sl ((h_2++[some (Blk.mk true 1 (splice [Cell.int .i64 0] 0 ([(.int .i64 0)]:List Cell)))]).length) ((splice (List.replicate 9 (Cell.int .i64 0)) 0 (splice (splice (List.replicate 9 (Cell.int .i64 0)) 0 ([(.int .i64 1)]:List Cell)) 3 (splice (splice [Cell.int .i64 0,Cell.int .i64 0] 0 ([(.int .i64 (-1))]:List Cell)) 1 ([(.int .i64 1)]:List Cell)))).length) 0 1)]:List Cell)) 1 ([(.sl (((h_2++[some (Blk.mk true 1 (splice [Cell.int .i64 0] 0 ([(.int .i64 0)]:List Cell)))])++[some (Blk.mk true 9 (splice (List.replicate 9 (Cell.int .i64 0)) 0 (splice (splice (List.replicate 9 (Cell.int .i64 0)) 0 ([(.int .i64 1)]:List Cell)) 3 (splice (splice [Cell.int .i64 0,Cell.int .i64 0] 0 ([(.int .i64 (-1))]:List Cell)) 1 ([(.int .i64 1)]:List Cell)))))]).length) ((splice (List.replicate 9 (Cell.int .i64 0)) 0 (splice (List.replicate 9 (Cell.int .i64 0)) 0 ([(.int .i64 2)]:List Cell))).length) 0 1)]:List Cell)).length) 0 2)]:List Cell))),(.c (.int .i64 1)),(.c (.sl (((((h_2++[some (Blk.mk true 1 (splice [Cell.int .i64 0] 0 ([(.int .i64 0)]:List Cell)))])++[some (Blk.mk true 9 (splice (List.replicate 9 (Cell.int .i64 0)) 0 (splice (splice (List.replicate 9 (Cell.int .i64 0)) 0 ([(.int .i64 1)]:List Cell)) 3 (splice (splice [Cell.int .i64 0,Cell.int .i64 0] 0 ([(.int .i64 (-1))]:List Cell)) 1 ([(.int .i64 1)]:List Cell)))))])++[some (Blk.mk true 9 (splice (List.replicate 9 (Cell.int .i64 0)) 0 (splice (List.replicate 9 (Cell.int .i64 0)) 0 ([(.int .i64 2)]:List Cell))))])++[some (Blk.mk true 1 (splice (splice [Cell.nils,Cell.nils] 0 ([(.sl ((h_2++[some (Blk.mk true 1 (splice [Cell.int .i64 0] 0 ([(.int .i64 0)]:List Cell)))]).length) ((splice (List.replicate 9 (Cell.int .i64 0)) 0 (splice (splice (List.replicate 9 (Cell.int .i64 0)) 0 ([(.int .i64 1)]:List Cell)) 3 (splice (splice [Cell.int .i64 0,Cell.int .i64 0] 0 ([(.int .i64 (-1))]:List Cell)) 1 ([(.int .i64 1)]:List Cell)))).length) 0 1)]:List Cell)) 1 ([(.sl (((h_2++[some (Blk.mk true 1 (splice [Cell.int .i64 0] 0 ([(.int .i64 0)]:List Cell)))])++[some (Blk.mk true 9 (splice (List.replicate 9 (Cell.int .i64 0)) 0 (splice (splice (List.replicate 9 (Cell.int .i64 0)) 0 ([(.int .i64 1)]:List Cell)) 3 (splice (splice [Cell.int .i64 0,Cell.int .i64 0] 0 ([(.int .i64 (-1))]:List Cell)) 1 ([(.int .i64 1)]:List Cell)))))]).length) ((splice (List.replicate 9 (Cell.int .i64 0)) 0 (splice (List.replicate 9 (Cell.int .i64 0)) 0 ([(.int .i64 2)]:List Cell))).length) 0 1)]:List Cell)))]).length) ((splice (splice [Cell.int .i64 0,Cell.int .i64 0] 0 ([(.int .i64 0)]:List Cell)) 1 ([(.int .i64 1)]:List Cell)).length) 0 2))] (((((h_2++[some (Blk.mk true 1 (splice [Cell.int .i64 0] 0 ([(.int .i64 0)]:List Cell)))])++[some (Blk.mk true 9 (splice (List.replicate 9 (Cell.int .i64 0)) 0 (splice (splice (List.replicate 9 (Cell.int .i64 0)) 0 ([(.int .i64 1)]:List Cell)) 3 (splice (splice [Cell.int .i64 0,Cell.int .i64 0] 0 ([(.int .i64 (-1))]:List Cell)) 1 ([(.int .i64 1)]:List Cell)))))])++[some (Blk.mk true 9 (splice (List.replicate 9 (Cell.int .i64 0)) 0 (splice (List.replicate 9 (Cell.int .i64 0)) 0 ([(.int .i64 2)]:List Cell))))])++[some (Blk.mk true 1 (splice (splice [Cell.nils,Cell.nils] 0 ([(.sl ((h_2++[some (Blk.mk true 1 (splice [Cell.int .i64 0] 0 ([(.int .i64 0)]:List Cell)))]).length) ((splice (List.replicate 9 (Cell.int .i64 0)) 0 (splice (splice (List.replicate 9 (Cell.int .i64 0)) 0 ([(.int .i64 1)]:List Cell)) 3 (splice (splice [Cell.int .i64 0,Cell.int .i64 0] 0 ([(.int .i64 (-1))]:List Cell)) 1 ([(.int .i64 1)]:List Cell)))).length) 0 1)]:List Cell)) 1 ([(.sl (((h_2++[some (Blk.mk true 1 (splice [Cell.int .i64 0] 0 ([(.int .i64 0)]:List Cell)))])++[some (Blk.mk true 9 (splice (List.replicate 9 (Cell.int .i64 0)) 0 (splice (splice (List.replicate 9 (Cell.int .i64 0)) 0 ([(.int .i64 1)]:List Cell)) 3 (splice (splice [Cell.int .i64 0,Cell.int .i64 0] 0 ([(.int .i64 (-1))]:List Cell)) 1 ([(.int .i64 1)]:List Cell)))))]).length) ((splice (List.replicate 9 (Cell.int .i64 0)) 0 (splice (List.replicate 9 (Cell.int .i64 0)) 0 ([(.int .i64 2)]:List Cell))).length) 0 1)]:List Cell)))])++[some (Blk.mk true 1 (splice (splice [Cell.int .i64 0,Cell.int .i64 0] 0 ([(.int .i64 0)]:List Cell)) 1 ([(.int .i64 1)]:List Cell)))])) fun y_4 y_5 h_3=>asC y_4 fun x_6=>asI .i64 y_5 fun n_7=>ptrK x_6 fun k_8 N_9 o_10=>rdH h_3 k_8 N_9 fun l_11=>atK l_11 (o_10+36) fun q_12=>c1 (C 256 [(.c q_12),(.c (.int .i64 1))] h_3) fun y_14 h_13=>asC y_14 fun x_15=>if 0=0∧(splice (splice (splice [Cell.nils,Cell.nils,Cell.nils] 0 ([x_1]:List Cell)) 1 ([(.sl h_2.length ((splice [Cell.int .i64 0] 0 ([(.int .i64 0)]:List Cell)).length) 0 1)]:List Cell)) 2 ([(.sl ((((h_2++[some (Blk.mk true 1 (splice [Cell.int .i64 0] 0 ([(.int .i64 0)]:List Cell)))])++[some (Blk.mk true 9 (splice (List.replicate 9 (Cell.int .i64 0)) 0 (splice (splice (List.replicate 9 (Cell.int .i64 0)) 0 ([(.int .i64 1)]:List Cell)) 3 (splice (splice [Cell.int .i64 0,Cell.int .i64 0] 0 ([(.int .i64 (-1))]:List Cell)) 1 ([(.int .i64 1)]:List Cell)))))])++[some (Blk.mk true 9 (splice (List.replicate 9 (Cell.int .i64 0)) 0 (splice (List.replicate 9 (Cell.int .i64 0)) 0 ([(.int .i64 2)]:List Cell))))]).length) ((splice (splice [Cell.nils,Cell.nils] 0 ([(.sl ((h_2++[some (Blk.mk true 1 (splice [Cell.int .i64 0] 0 ([(.int .i64 0)]:List Cell)))]).length) ((splice (List.replicate 9 (Cell.int .i64 0)) 0 (splice (splice (List.replicate 9 (Cell.int .i64 0)) 0 ([(.int .i64 1)]:List Cell)) 3 (splice (splice [Cell.int .i64 0,Cell.int .i64 0] 0 ([(.int .i64 (-1))]:List Cell)) 1 ([(.int .i64 1)]:List Cell)))).length) 0 1)]:List Cell)) 1 ([(.sl (((h_2++[some (Blk.mk true 1 (splice [Cell.int .i64 0] 0 ([(.int .i64 0)]:List Cell)))])++[some (Blk.mk true 9 (splice (List.replicate 9 (Cell.int .i64 0)) 0 (splice (splice (List.replicate 9 (Cell.int .i64 0)) 0 ([(.int .i64 1)]:List Cell)) 3 (splice (splice [Cell.int .i64 0,Cell.int .i64 0] 0 ([(.int .i64 (-1))]:List Cell)) 1 ([(.int .i64 1)]:List Cell)))))]).length) ((splice (List.replicate 9 (Cell.int .i64 0)) 0 (splice (List.replicate 9 (Cell.int .i64 0)) 0 ([(.int .i64 2)]:List Cell))).length) 0 1)]:List Cell)).length) 0 2)]:List Cell)).length=3 then ptrK x_6 fun k_16 N_17 o_18=>rdH h_13 k_16 N_17 fun l_19=>atK l_19 (o_18+36) fun q_20=>c2 (C 269 [(.agg (splice (splice (splice [Cell.nils,Cell.nils,Cell.nils] 0 ([x_1]:List Cell)) 1 ([(.sl h_2.length ((splice [Cell.int .i64 0] 0 ([(.int .i64 0)]:List Cell)).length) 0 1)]:List Cell)) 2 ([(.sl ((((h_2++[some (Blk.mk true 1 (splice [Cell.int .i64 0] 0 ([(.int .i64 0)]:List Cell)))])++[some (Blk.mk true 9 (splice (List.replicate 9 (Cell.int .i64 0)) 0 (splice (splice (List.replicate 9 (Cell.int .i64 0)) 0 ([(.int .i64 1)]:List Cell)) 3 (splice (splice [Cell.int .i64 0,Cell.int .i64 0] 0 ([(.int .i64 (-1))]:List Cell)) 1 ([(.int .i64 1)]:List Cell)))))])++[some (Blk.mk true 9 (splice (List.replicate 9 (Cell.int .i64 0)) 0 (splice (List.replicate 9 (Cell.int .i64 0)) 0 ([(.int .i64 2)]:List Cell))))]).length) ((splice (splice [Cell.nils,Cell.nils] 0 ([(.sl ((h_2++[some (Blk.mk true 1 (splice [Cell.int .i64 0] 0 ([(.int .i64 0)]:List Cell)))]).length) ((splice (List.replicate 9 (Cell.int .i64 0)) 0 (splice (splice (List.replicate 9 (Cell.int .i64 0)) 0 ([(.int .i64 1)]:List Cell)) 3 (splice (splice [Cell.int .i64 0,Cell.int .i64 0] 0 ([(.int .i64 (-1))]:List Cell)) 1 ([(.int .i64 1)]:List Cell)))).length) 0 1)]:List Cell)) 1 ([(.sl (((h_2++[some (Blk.mk true 1 (splice [Cell.int .i64 0] 0 ([(.int .i64 0)]:List Cell)))])++[some (Blk.mk true 9 (splice (List.replicate 9 (Cell.int .i64 0)) 0 (splice (splice (List.replicate 9 (Cell.int .i64 0)) 0 ([(.int .i64 1)]:List Cell)) 3 (splice (splice [Cell.int .i64 0,Cell.int .i64 0] 0 ([(.int .i64 (-1))]:List Cell)) 1 ([(.int .i64 1)]:List Cell)))))]).length) ((splice (List.replicate 9 (Cell.int .i64 0)) 0 (splice (List.replicate 9 (Cell.int .i64 0)) 0 ([(.int .i64 2)]:List Cell))).length) 0 1)]:List Cell)).length) 0 2)]:List Cell))),(.c (.int .i64 1)),(.c q_20),(.c (.int .i64 0)),(.c (.int .i64 1))] h_13) fun y_22 y_23 h_21=>asC y_22 fun x_24=>asB y_23 fun b_25=>lenK x_15 fun n_26=>scK (n_26==1) true (idxSK 2 x_15 0 fun k_27 N_28 o_29=>rdH h_21 k_27 N_28 fun l_30=>if o_29+2≤l_30.length then if alike ((l_30.drop o_29).take 2) ([Cell.int .i64 0,Cell.int .i64 0])=true∧alike (splice (splice [Cell.int .i64 0,Cell.int .i64 0] 0 ([(.int .i64 0)]:List Cell)) 1 ([(.int .i64 1)]:List Cell)) ([Cell.int .i64 0,Cell.int .i64 0])=true then some ((decide (((l_30.drop o_29).take 2)=(splice (splice [Cell.int .i64 0,Cell.int .i64 0] 0 ([(.int .i64 0)]:List Cell)) 1 ([(.int .i64 1)]:List Cell)))),h_21) else none else none) false h_21 fun b_31 h_32=>scK b_31 true (some (b_25,h_32)) false h_32 fun b_33 h_34=>scK b_33 true (lenK x_24 fun n_35=>some ((n_35==1),h_34)) false h_34 fun b_36 h_37=>scK b_36 true (idxSK 1 x_24 0 fun k_38 N_39 o_40=>rdH h_37 k_38 N_39 fun l_41=>atK l_41 o_40 fun q_42=>asI .i64 (.c q_42) fun n_43=>some ((n_43==1),h_37)) false h_37 fun b_44 h_45=>scK b_44 true (c1 (C 259 [(.c .nils),(.c (.int .i64 1))] h_45) fun y_47 h_46=>asB y_47 fun b_48=>some (b_48,h_46)) false h_45 fun b_49 h_50=>finish true h0 [(.c (.bool b_49))] h_50 else none else none else none else none else none else none else none else none else none else none else none else none else none else none:=by kernel_rfl
def q414_k2 (C:CallF) (L:LoopF) (G:Glo) (h0:AHeap):Ex→St→Option (List AV × AHeap):=kSeq (fun st=>q414_p1.exec C L G st (q414.fin G h0)) (q414.fin G h0)
def q414_k3 (C:CallF) (L:LoopF) (G:Glo) (h0:AHeap):Ex→St→Option (List AV × AHeap):=kBlk 0 (q414_k2 C L G h0)
def q414_s2 (a1:Int) (x2:Cell) (a8:Int) (s0:List Cell) (h:AHeap):St:=⟨tops 1 (.v (.c (.int .i64 a1)) :: .v (.c x2) :: tops 4 (.loc 0 0 :: .v (.c (.int .i64 a8)) :: tops 96 [])),[some s0],h⟩
def q414_F2 (C:CallF) (L:LoopF) (G:Glo):St→Option (Ex × St):=roundF (fun st f=>q414_b2.exec C L G st f) [1,2,7,8] [0] [(1,[1,2,7],[0])]
def q414_k4 (C:CallF) (L:LoopF) (G:Glo):Ex→St→Option (Ex × St):=kSeq (fun st=>q414_p2.exec C L G st (kLoop [1,2,7,8] [0] [(1,[1,2,7],[0])])) (kLoop [1,2,7,8] [0] [(1,[1,2,7],[0])])
def q414_k5 (C:CallF) (L:LoopF) (G:Glo):Ex→St→Option (Ex × St):=kBlk 1 (q414_k4 C L G)
def q414_k6 (C:CallF) (L:LoopF) (G:Glo):Ex→St→Option (Ex × St):=kSeq (fun st=>q414_p3.exec C L G st (q414_k5 C L G)) (q414_k5 C L G)
def q414_k7 (C:CallF) (L:LoopF) (G:Glo):Ex→St→Option (Ex × St):=kBlk 2 (q414_k6 C L G)
def q414_s1 (a1:Int) (x2:Cell) (a8:Int) (x9:Cell) (a10:Int) (s0:List Cell) (h:AHeap):St:=⟨tops 1 (.v (.c (.int .i64 a1)) :: .v (.c x2) :: tops 4 (.loc 0 0 :: .v (.c (.int .i64 a8)) :: .v (.c x9) :: .v (.c (.int .i64 a10)) :: tops 94 [])),[some s0],h⟩
def q414_F1 (C:CallF) (L:LoopF) (G:Glo):St→Option (Ex × St):=roundF (fun st f=>q414_b1.exec C L G st f) [1,2,7,8,9,10] [0] [(3,[1,2,7,8,9],[0])]
def q414_x1_3 (a1:Int) (x2:Cell) (a8:Int) (x9:Cell) (s0:List Cell) (h:AHeap):St:=⟨tops 1 (.v (.c (.int .i64 a1)) :: .v (.c x2) :: tops 4 (.loc 0 0 :: .v (.c (.int .i64 a8)) :: .v (.c x9) :: tops 95 [])),[some s0],h⟩
def q414_x2_1 (a1:Int) (x2:Cell) (s0:List Cell) (h:AHeap):St:=⟨tops 1 (.v (.c (.int .i64 a1)) :: .v (.c x2) :: tops 4 (.loc 0 0 :: tops 97 [])),[some s0],h⟩
theorem q414_r1 (a1:Int) (x2:Cell) (a8:Int) (x9:Cell) (a10:Int) (s0:List Cell) (h:AHeap):q414_F1 C L G (q414_s1 a1 x2 a8 x9 a10 s0 h)=lenK x9 fun n_18=>if (decide (a10<n_18))=true then idxSK 9 x9 a10 fun k_19 N_20 o_21=>rdH h k_19 N_20 fun l_22=>atK l_22 (o_21+0) fun q_23=>asI .i64 (.c q_23) fun n_24=>scK (n_24==1) false (idxSK 9 x9 a10 fun k_25 N_26 o_27=>rdH h k_25 N_26 fun l_28=>atK l_28 (o_27+0) fun q_29=>asI .i64 (.c q_29) fun n_30=>some ((n_30==2),h)) true h fun b_31 h_32=>scK b_31 false (idxSK 9 x9 a10 fun k_33 N_34 o_35=>rdH h_32 k_33 N_34 fun l_36=>atK l_36 (o_35+0) fun q_37=>asI .i64 (.c q_37) fun n_38=>some ((n_38==4),h_32)) true h_32 fun b_39 h_40=>if b_39=true then idxSK 9 x9 a10 fun k_41 N_42 o_43=>rdH h_40 k_41 N_42 fun l_44=>if (o_43+2)<l_44.length then putH h_40 k_41 (l_44.set (o_43+2) (.int .i64 a8)) fun h_45=>some (.normal,(q414_s1 a1 x2 a8 x9 (G.wrap .i64 (a10+1)) s0 h_45)) else none else some (.normal,(q414_s1 a1 x2 a8 x9 (G.wrap .i64 (a10+1)) s0 h_40)) else some ((.exit 2),(q414_x1_3 a1 x2 a8 x9 s0 h)):=by kernel_rfl
theorem q414_e1_3 (a1:Int) (x2:Cell) (a8:Int) (x9:Cell) (s0:List Cell) (h:AHeap):(q414_k7 C L G) (.exit 2) (q414_x1_3 a1 x2 a8 x9 s0 h)=atK s0 2 fun q_46=>idxSK 1 q_46 a8 fun k_47 N_48 o_49=>rdH h k_47 N_48 fun l_50=>if o_49<l_50.length then putH h k_47 (l_50.set o_49 x9) fun h_51=>some (.normal,(q414_s2 a1 x2 (G.wrap .i64 (a8+1)) s0 h_51)) else none:=by kernel_rfl
theorem q414_r2 (a1:Int) (x2:Cell) (a8:Int) (s0:List Cell) (h:AHeap):q414_F2 C L G (q414_s2 a1 x2 a8 s0 h)=atK s0 2 fun q_7=>lenK q_7 fun n_8=>if (decide (a8<n_8))=true then if ([]:List Cell).length=0*9 then atK s0 2 fun q_9=>idxSK 1 q_9 a8 fun k_10 N_11 o_12=>rdH (h++[some (Blk.mk true 9 ([]:List Cell))]) k_10 N_11 fun l_13=>atK l_13 o_12 fun q_14=>(slCells (h++[some (Blk.mk true 9 ([]:List Cell))]) 9 q_14).bind fun l_17=>appK 9 72 (.sl h.length (([]:List Cell).length) 0 0) l_17 (h++[some (Blk.mk true 9 ([]:List Cell))]) fun x_15 h_16=>(L (q414_F1 C L G) (q414_s1 a1 x2 a8 x_15 0 s0 h_16)).bind fun p_52=>(q414_k7 C L G) p_52.1 p_52.2 else none else some ((.exit 0),(q414_x2_1 a1 x2 s0 h)):=by kernel_rfl
theorem q414_e2_1 (h0:AHeap) (a1:Int) (x2:Cell) (s0:List Cell) (h:AHeap):(q414_k3 C L G h0) (.exit 0) (q414_x2_1 a1 x2 s0 h)=if 0=0∧s0.length=3 then if 0=0∧s0.length=3 then c1 (C 254 [(.agg s0),(.c (.int .i64 a1)),(.c x2)] h) fun y_54 h_53=>asC y_54 fun x_55=>c2 (C 186 [(.agg s0),(.c (.int .i64 a1)),(.c x_55)] h_53) fun y_57 y_58 h_56=>asC y_57 fun x_59=>asI .i64 y_58 fun n_60=>ptrK x_59 fun k_61 N_62 o_63=>rdH h_56 k_61 N_62 fun l_64=>atK l_64 (o_63+36) fun q_65=>c1 (C 259 [(.c q_65),(.c (.int .i64 a1))] h_56) fun y_67 h_66=>asB y_67 fun b_68=>scK b_68 true (ptrK x_59 fun k_69 N_70 o_71=>rdH h_66 k_69 N_70 fun l_72=>atK l_72 (o_71+36) fun q_73=>c1 (C 256 [(.c q_73),(.c (.int .i64 a1))] h_66) fun y_75 h_74=>asC y_75 fun x_76=>lenK x_76 fun n_77=>some ((n_77==0),h_74)) false h_66 fun b_78 h_79=>scK b_78 true (c1 (C 258 [] h_79) fun y_81 h_80=>asB y_81 fun b_82=>some (b_82,h_80)) false h_79 fun b_83 h_84=>finish true h0 [(.c (.bool b_83))] h_84 else none else none:=by kernel_rfl
set_option maxRecDepth 100000 in
theorem q414_eq (x0:Cell) (a1:Int) (x2:Cell) (h0:AHeap):q414.body C L G [(.c x0),(.c (.int .i64 a1)),(.c x2)] h0=c1 (C 76 [(.c x0),(.c (.int .i64 8))] h0) fun y_2 h_1=>asA y_2 fun l_3=>if 0=0∧[Cell.nils,Cell.nils,Cell.nils].length=3∧l_3.length=3 then let v_4:Int:=(G.wrap .i64 ((G.rem .i64 (G.band .i64 a1 255) 3)+1));if (splice (splice (splice [Cell.int .u8 0,Cell.int .u8 0,Cell.int .u8 0] 0 ([(.int .u8 120)]:List Cell)) 1 ([(.int .u8 121)]:List Cell)) 2 ([(.int .u8 122)]:List Cell)).length=3*1 then markK (.sl h_1.length ((splice (splice (splice [Cell.int .u8 0,Cell.int .u8 0,Cell.int .u8 0] 0 ([(.int .u8 120)]:List Cell)) 1 ([(.int .u8 121)]:List Cell)) 2 ([(.int .u8 122)]:List Cell)).length) 0 3) (h_1++[some (Blk.mk true 1 (splice (splice (splice [Cell.int .u8 0,Cell.int .u8 0,Cell.int .u8 0] 0 ([(.int .u8 120)]:List Cell)) 1 ([(.int .u8 121)]:List Cell)) 2 ([(.int .u8 122)]:List Cell)))]) fun x_5 h_6=>if (splice (splice (splice [Cell.int .i64 0,Cell.int .i64 0,Cell.int .i64 0] 0 ([(.int .i64 0)]:List Cell)) 1 ([(.int .i64 1)]:List Cell)) 2 ([(.int .i64 2)]:List Cell)).length=3*1 then if 0<l_3.length then if 1<(l_3.set 0 x_5).length then (L (q414_F2 C L G) (q414_s2 v_4 x2 0 ((l_3.set 0 x_5).set 1 (.sl h_6.length ((splice (splice (splice [Cell.int .i64 0,Cell.int .i64 0,Cell.int .i64 0] 0 ([(.int .i64 0)]:List Cell)) 1 ([(.int .i64 1)]:List Cell)) 2 ([(.int .i64 2)]:List Cell)).length) 0 3)) (h_6++[some (Blk.mk true 1 (splice (splice (splice [Cell.int .i64 0,Cell.int .i64 0,Cell.int .i64 0] 0 ([(.int .i64 0)]:List Cell)) 1 ([(.int .i64 1)]:List Cell)) 2 ([(.int .i64 2)]:List Cell)))]))).bind fun p_85=>(q414_k3 C L G h0) p_85.1 p_85.2 else none else none else none else none else none:=by kernel_rfl
end Jq

namespace Jq
open Go
def w20s:List Ins:=[⟨1,0,0,⟨-1,1⟩,0,⟨0,0⟩,0⟩]
def w20l:List Ins:=[⟨2,0,0,⟨0,0⟩,0,⟨0,0⟩,0⟩]
def w20P:PProg:=⟨[120],[0],[w20s,w20l]⟩
def w20L:List Stp:=[⟨0,0,2,0,0,1,-1⟩,⟨1,1,1,0,1,0,0⟩]
theorem w20_small:w20P.small:=⟨by decide,fun c hc=>by
  simp [w20P] at hc
  rcases hc with rfl | rfl<;>decide⟩
theorem w20_pok:pokB w20P=true:=by decide +kernel
theorem w20_fld:∀c∈w20P.thr,∀i∈c,fldB (hasB w20P) i=true:=by decide +kernel
theorem w20_inv:(MV.new w20P 1).Inv:=MV.new_inv (by omega) w20_small w20_fld (by decide) (by decide) (fun c hc=>by
  simp [w20P] at hc
  rcases hc with rfl | rfl<;>decide)
theorem w20_good:w20P.good:=by
  refine ⟨w20_small.fits,fun c hc=>?_⟩
  simp [w20P] at hc
  rcases hc with rfl | rfl
  · intro i hi
    simp [w20s] at hi
    subst hi
    refine ⟨?_,?_,?_,?_⟩<;>(try simp only)<;>(try decide)
  · intro i hi
    simp [w20l] at hi
    subst hi
    refine ⟨?_,?_,?_,?_⟩<;>(try simp only)<;>(try decide)
theorem w20_plays:Plays w20P 1:=⟨w20_small,by decide,by decide,by decide,by omega,w20_pok,w20_inv,w20_good,by decide⟩
theorem w20_run:((MV.new w20P 1).runG [0,1]).2=2:=by decide +kernel
theorem w20_st:((MV.new w20P 1).runG [0,1]).1.st=w20L:=by kernel_rfl
theorem w20_races:racesT w20L 1=[(0,1)]:=by decide +kernel
theorem w20_rev:revL w20L 1 0 1=[1]:=by decide +kernel
theorem w20_whole:((MV.new w20P 1).runG [1]).2=1:=by decide +kernel
section
variable {E:Env}
theorem awake20_R (hE:q258_In E) (ht:TabOk E) (h:AHeap):R E 258 [] h=some ([.c (.bool true)],h):=by
  have hmark:∀{α:Type} (f:Cell→AHeap→Option α),markK (.sl h.length ((splice [Cell.int .u8 0] 0 ([(.int .u8 120)]:List Cell)).length) 0 1) (h++[some (Blk.mk true 1 (splice [Cell.int .u8 0] 0 ([(.int .u8 120)]:List Cell)))]) f=f (.sl h.length 1 0 1) (h++[some ⟨false,1,intC .u8 [120]⟩]):=by
    intro α f
    unfold markK
    simp only
    rw [blk_new,Option.bind_some]
    dsimp only
    rw [if_pos ⟨rfl,rfl⟩,setBlk_last];rfl
  obtain ⟨H1,h1⟩:∃H1,H1=h++[some (Blk.mk false 1 (intC .u8 [120]))]:=⟨_,rfl⟩
  obtain ⟨H2,h2⟩:∃H2,H2=H1++[some (Blk.mk true 1 (intC .i64 [0]))]:=⟨_,rfl⟩
  obtain ⟨H3,h3⟩:∃H3,H3=H2++[some (Blk.mk true 9 (codeC w20s))]:=⟨_,rfl⟩
  obtain ⟨H4,h4⟩:∃H4,H4=H3++[some (Blk.mk true 9 (codeC w20l))]:=⟨_,rfl⟩
  obtain ⟨H5,h5⟩:∃H5,H5=H4++[some (Blk.mk true 1 [Cell.sl H2.length 9 0 1,.sl H3.length 9 0 1])]:=⟨_,rfl⟩
  obtain ⟨H6,h6⟩:∃H6,H6=H5++[some (Blk.mk true 1 (intC .i64 [0,1]))]:=⟨_,rfl⟩
  have n1:H1.length=h.length+1:=by rw [h1];simp
  have n2:H2.length=h.length+2:=by rw [h2,List.length_append,n1];simp
  have n3:H3.length=h.length+3:=by rw [h3,List.length_append,n2];simp
  have n4:H4.length=h.length+4:=by rw [h4,List.length_append,n3];simp
  have n5:H5.length=h.length+5:=by rw [h5,List.length_append,n4];simp
  have n6:H6.length=h.length+6:=by rw [h6,List.length_append,n5];simp
  have b1:blk? H6 h.length=some ⟨false,1,intC .u8 [120]⟩:=by
    rw [h6,h5,h4,h3,h2,h1]
    exact blk_old (blk_old (blk_old (blk_old (blk_old (blk_new _ _) _) _) _) _) _
  have b2:blk? H6 H1.length=some ⟨true,1,intC .i64 [0]⟩:=by
    rw [h6,h5,h4,h3,h2]
    exact blk_old (blk_old (blk_old (blk_old (blk_new _ _) _) _) _) _
  have b3:blk? H6 H2.length=some ⟨true,9,codeC w20s⟩:=by
    rw [h6,h5,h4,h3]
    exact blk_old (blk_old (blk_old (blk_new _ _) _) _) _
  have b4:blk? H6 H3.length=some ⟨true,9,codeC w20l⟩:=by
    rw [h6,h5,h4]
    exact blk_old (blk_old (blk_new _ _) _) _
  have b5:blk? H6 H4.length=some ⟨true,1,[Cell.sl H2.length 9 0 1,.sl H3.length 9 0 1]⟩:=by
    rw [h6,h5]
    exact blk_old (blk_new _ _) _
  have b6:blk? H6 H5.length=some ⟨true,1,intC .i64 [0,1]⟩:=by
    rw [h6]
    exact blk_new _ _
  have kk:Kp h.length h H6:=by
    rw [h6,h5,h4,h3,h2,h1]
    simp only [List.append_assoc]
    exact Kp.app _ (Nat.le_refl _)
  have p6:ProgAt H6 [.sl h.length 1 0 1,.sl H1.length 1 0 1,.sl H4.length 2 0 2] w20P:=⟨_,_,_,[Cell.sl H2.length 9 0 1,.sl H3.length 9 0 1],rfl,⟨SlAt.whole b1 rfl,.inr (by omega)⟩,⟨SlAt.whole b2 rfl,.inr (by omega)⟩,⟨SlAt.whole b5 rfl,.inr (by omega)⟩,fun t code ht=>by
    match t with
    | 0=>cases ht;exact ⟨_,rfl,SlAt.whole b3 rfl,.inr (by omega)⟩
    | 1=>cases ht;exact ⟨_,rfl,SlAt.whole b4 rfl,.inr (by omega)⟩
    | t+2=>simp [w20P] at ht⟩
  have hy:SlAt H6 (.sl H5.length 2 0 2) 1 (intC .i64 [0,1]) [(0:Int),1].length:=SlAt.whole b6 rfl
  obtain ⟨xs,bs,h7,r7,a7,k7⟩:=rRun_R hE.c186 p6 w20_good (by decide) (by decide) (by omega) w20_inv hy (.inr (by omega)) (by decide)
  rw [w20_run] at r7
  have st7:Own H6.length h7 xs 7 (stepsC w20L) w20L.length:=by
    have:=a7.st
    rw [w20_st] at this
    exact this
  have hl7:=rv_len (x:=xs) (MV.runG_inv w20_inv [0,1]).1.fit p6.len a7.bl
  obtain ⟨y8,h8,r8,o8,k8⟩:=Races_R hE.c256 ht st7.at st7.low 1
  have a8:=a7.keep k8
  have st8:=st7.keepK k8
  rw [w20_races] at o8
  obtain ⟨z9,h9,r9,o9,k9⟩:=Reverse_R hE.c269 ht (p6.keep (k7.trans (k8.mono k7.1))) w20_plays st8.at st8.low (i:=0) (k:=1) (by rw [w20_races];exact List.mem_singleton.2 rfl) (by decide) (show ((MV.new w20P 1).runG [0,1]).2=2 from w20_run) (show ((MV.new w20P 1).runG [0,1]).1.st=w20L from w20_st) (by rw [w20_rev];exact w20_whole)
  rw [w20_rev] at o9
  have o8':=(o8.keepK k9).at
  obtain ⟨h10,r10,k10⟩:=RFree_R hE.c259 ht (l:=[]) (x:=.nils) (h:=h9) (Own.nil 0 h9 7).at trivial 1
  have hlen:Kp h.length h h10:=kk.trans ((k7.trans ((k8.trans (k9.mono k8.1)).mono k7.1) |>.trans (k10.mono (Nat.le_trans k7.1 (Nat.le_trans k8.1 k9.1)))).mono kk.1)
  refine R_intro hE.fn ?_
  rw [q258_eq,if_pos (by exact ⟨rfl,rfl,rfl⟩),if_pos (by rfl),hmark,←h1]
  have e1:splice [Cell.int .i64 0] 0 ([(.int .i64 0)]:List Cell)=intC .i64 [0]:=rfl
  have e2:splice (List.replicate 9 (Cell.int .i64 0)) 0 (splice (splice (List.replicate 9 (Cell.int .i64 0)) 0 ([(.int .i64 1)]:List Cell)) 3 (splice (splice [Cell.int .i64 0,Cell.int .i64 0] 0 ([(.int .i64 (-1))]:List Cell)) 1 ([(.int .i64 1)]:List Cell)))=codeC w20s:=rfl
  have e3:splice (List.replicate 9 (Cell.int .i64 0)) 0 (splice (List.replicate 9 (Cell.int .i64 0)) 0 ([(.int .i64 2)]:List Cell))=codeC w20l:=rfl
  have e4:(codeC w20s).length=9:=rfl
  have e5:(codeC w20l).length=9:=rfl
  have e6:∀a b:Cell,splice (splice [Cell.nils,Cell.nils] 0 ([a]:List Cell)) 1 ([b]:List Cell)=[a,b]:=fun _ _=>rfl
  have e7:(intC .i64 [0]).length=1:=rfl
  have e8:∀a b c:Cell,splice (splice (splice [Cell.nils,Cell.nils,Cell.nils] 0 ([a]:List Cell)) 1 ([b]:List Cell)) 2 ([c]:List Cell)=[a,b,c]:=fun _ _ _=>rfl
  have e9:splice (splice [Cell.int .i64 0,Cell.int .i64 0] 0 ([(.int .i64 0)]:List Cell)) 1 ([(.int .i64 1)]:List Cell)=intC .i64 [0,1]:=rfl
  have e10:(intC .i64 [0,1]).length=2:=rfl
  have e11:∀a b:Cell,[a,b].length=2:=fun _ _=>rfl
  rw [if_pos (by rfl),if_pos (by exact ⟨rfl,rfl⟩),if_pos (by exact ⟨rfl,by decide⟩),if_pos (by exact ⟨rfl,by decide⟩),if_pos (by rfl),if_pos (by exact ⟨rfl,by decide⟩),if_pos (by rfl),if_pos (by rfl),if_pos (by exact ⟨rfl,rfl,rfl⟩),if_pos (by exact ⟨rfl,rfl⟩),if_pos (by rfl)]
  simp only [e1,e2,e3,e4,e5,e6,e7,e8,e9,e10,e11]
  rw [show ((0:Nat):Int)=0 from rfl,show ((1:Nat):Int)=1 from rfl] at r9
  rw [←h2,←h3,←h4,←h5,←h6,r7,c2_ok,asC_ok,asI_ok,ptrK_p,rdH_ok a7.blk hl7,rv_steps (MV.runG_inv w20_inv [0,1]).1.fit p6.len a7.bl,r8,c1_ok,asC_ok,if_pos (by exact ⟨trivial,rfl⟩),ptrK_p,rdH_ok a8.blk hl7,rv_steps (MV.runG_inv w20_inv [0,1]).1.fit p6.len a7.bl,
    r9,c2_ok,asC_ok,asB_ok,o8'.len,show (((([((0:Int),(1:Int))]:List (Int × Int)).length:Nat):Int)==1)=true from rfl,scK_ok]
  obtain ⟨off,c,g1,g2,g3⟩:=o8'.pairG (i:=0) (q:=(0,1)) rfl
  rw [show ((0:Nat):Int)=0 from rfl] at g1
  rw [g1,if_pos g2,g3,if_pos ⟨by rfl,by rfl⟩,show decide (pairCs ((0:Int),(1:Int))=intC .i64 [0,1])=true by decide,bind_ok]
  dsimp only
  rw [scK_and,Bool.and_true,scK_ok,o9.at.len,bind_ok]
  dsimp only
  have g9:∀{α:Type} (f:Cell→Option α),(idxSK 1 z9 0 fun k N o=>rdH h9 k N fun l=>atK l o f)=f (.int .i64 1):=fun f=>o9.at.get0 (by decide) rfl
  rw [show (((([(1:Int)]:List Int).length:Nat):Int)==1)=true from rfl,scK_ok,g9,asI_ok,bind_ok]
  dsimp only
  rw [show ((1:Int)==1)=true from rfl,scK_ok,r10,c1_ok,asB_ok,bind_ok]
  exact finish_gc hlen (by simp [avOk,AV.cells,idOk])
end
end Jq

namespace Jq
open Go
def updL (t:Nat) (c:List Ins) (i:Nat):List Ins:=(c.take i).map (setL t)++c.drop i
theorem updL_all (t:Nat) (c:List Ins):updL t c c.length=c.map (setL t):=by unfold updL;rw [List.take_length,List.drop_length,List.append_nil]
theorem updL_len (t:Nat) (c:List Ins) {i:Nat} (hi:i≤c.length):(updL t c i).length=c.length:=by unfold updL;rw [List.length_append,List.length_map,List.length_take,List.length_drop];omega
theorem updL_get (t:Nat) {c:List Ins} {i:Nat} {q:Ins} (hq:c[i]? = some q):(updL t c i)[i]? = some q:=by
  have hi:=getI_lt hq
  unfold updL
  rw [List.getElem?_append_right (by rw [List.length_map,List.length_take];omega),List.length_map,List.length_take,List.getElem?_drop,show i+(i - min i c.length)=i by omega]
  exact hq
theorem updL_set (t:Nat) {c:List Ins} {i:Nat} {q:Ins} (hq:c[i]? = some q):(updL t c i).set i (setL t q)=updL t c (i+1):=by
  have hi:=getI_lt hq
  unfold updL
  rw [List.set_append_right _ _ (by rw [List.length_map,List.length_take];omega),List.length_map,List.length_take,show i - min i c.length=0 by omega,List.drop_eq_getElem_cons hi,List.set_cons_zero,takeI_succ hq,List.map_append,List.append_assoc]
  rfl
theorem updL_stay (t:Nat) {c:List Ins} {i:Nat} {q:Ins} (hq:c[i]? = some q) (hn:setL t q=q):updL t c i=updL t c (i+1):=by
  rw [←updL_set t hq,hn]
  refine (List.ext_getElem? fun j=>?_).symm
  by_cases hj:j=i
  · subst hj
    rw [List.getElem?_set_self (by rw [updL_len t c (Nat.le_of_lt (getI_lt hq))];exact getI_lt hq),updL_get t hq]
  · rw [List.getElem?_set_ne (fun e=>hj e.symm)]
def rowsU (P:PProg) (t:Nat):List (List Ins):=(freeP P).thr.take t++P.thr.drop t
theorem rowsU_all (P:PProg):rowsU P P.thr.length=(freeP P).thr:=by
  unfold rowsU
  rw [List.drop_length,List.append_nil,List.take_of_length_le (by rw [freeP_len];exact Nat.le_refl _)]
theorem rowsU_len (P:PProg) {t:Nat} (ht:t≤P.thr.length):(rowsU P t).length=P.thr.length:=by unfold rowsU;rw [List.length_append,List.length_take,List.length_drop,freeP_len];omega
theorem rowsU_get {P:PProg} {t:Nat} {c:List Ins} (hc:P.thr[t]? = some c):(rowsU P t)[t]? = some c:=by
  have ht:=getI_lt hc
  unfold rowsU
  rw [List.getElem?_append_right (by rw [List.length_take];omega),List.length_take,freeP_len,List.getElem?_drop,show t+(t - min t P.thr.length)=t by omega]
  exact hc
theorem rowsU_next {P:PProg} {t:Nat} {c:List Ins} (hc:P.thr[t]? = some c) (j:Nat):(rowsU P (t+1))[j]? = if j=t then some (c.map (setL t)) else (rowsU P t)[j]?:=by
  have ht:=getI_lt hc
  have hf:(freeP P).thr[t]? = some (c.map (setL t)):=by rw [freeP_thr,hc];rfl
  unfold rowsU
  rw [takeI_succ hf]
  by_cases hj:j=t
  · subst hj
    rw [if_pos rfl,List.append_assoc,List.getElem?_append_right (by rw [List.length_take];omega),List.length_take,freeP_len,show j - min j P.thr.length=0 by omega]
    rfl
  · rw [if_neg hj]
    rcases Nat.lt_or_ge j t with c1 | c1
    · rw [List.append_assoc,List.getElem?_append_left (by rw [List.length_take,freeP_len];omega),List.getElem?_append_left (by rw [List.length_take,freeP_len];omega)]
    · rw [List.getElem?_append_right (by rw [List.length_append,List.length_take,freeP_len,List.length_singleton];omega),List.getElem?_append_right (by rw [List.length_take,freeP_len];omega),List.length_append,List.length_take,freeP_len,List.length_singleton,List.getElem?_drop,List.getElem?_drop]
      congr 1;omega
theorem fins_kind {α:Type} {h:AHeap} {x:Cell} {l:List Ins} (s:SlAt h x 9 (codeC l) l.length) {i:Nat} {q:Ins} (hq:l[i]? = some q) {f:Cell→Option α} :
    (idxSK 9 x (i:Int) fun k N o=>rdH h k N fun l=>atK l (o+0) f)=f (.int .i64 q.kind):=by
  refine s.get (j:=0) (getI_lt hq) (by omega) ?_
  have:=codeC_at l i q hq
  have h2:=congrArg (fun z=>z[0]?) this
  simp only [List.getElem?_take,List.getElem?_drop] at h2
  exact h2
section
variable {E:Env}
theorem free_code (a1:Int) (x2:Cell) (t:Nat) (s0:List Cell) {n:Nat} {h:AHeap} {x:Cell} {c:List Ins} (hl:c.length≤1000) (o:Own n h x 9 (codeC c) c.length) :
    ∃h',Lim (q414_F1 (R E) Lim E.glob) (q414_s1 a1 x2 (t:Int) x ((0:Nat):Int) s0 h)=some (.exit 2,q414_x1_3 a1 x2 (t:Int) x s0 h')∧Own n h' x 9 (codeC (c.map (setL t))) c.length∧Kp n h h' ∧
      ∀j b,blk? h j=some b→¬isBlk x j→blk? h' j=some b:=by
  obtain ⟨st,⟨h',rfl,o',kk,fr⟩,hL⟩:=Lim_inv (F:=q414_F1 (R E) Lim E.glob)
    (fun i st=>∃h',st=q414_s1 a1 x2 (t:Int) x (i:Int) s0 h'∧Own n h' x 9 (codeC (updL t c i)) c.length∧Kp n h h'∧∀j b,blk? h j=some b→¬isBlk x j→blk? h' j=some b) 0 c.length (by omega)
    (fun i st _ hi=>by
      rintro ⟨h',rfl,o,kk,fr⟩
      have hq:=List.getElem?_eq_getElem hi
      generalize c[i]=q at hq
      have hu:=updL_get t hq
      have ol:SlAt h' x 9 (codeC (updL t c i)) (updL t c i).length:=by rw [updL_len t c (by omega)];exact o.at
      have e0:q414_F1 (R E) Lim E.glob (q414_s1 a1 x2 (t:Int) x (i:Int) s0 h')=(if memK q=true then idxSK 9 x (i:Int) fun k_41 N_42 o_43=>rdH h' k_41 N_42 fun l_44=>if (o_43+2)<l_44.length then putH h' k_41 (l_44.set (o_43+2) (.int .i64 (t:Int))) fun h_45=>some (.normal,q414_s1 a1 x2 (t:Int) x ((i+1:Nat):Int) s0 h_45) else none else some (.normal,q414_s1 a1 x2 (t:Int) x ((i+1:Nat):Int) s0 h')):=by
        rw [q414_r1,o.at.len,if_pos (by simp;omega),fins_kind ol hu,asI_ok,fins_kind ol hu,asI_ok,scK_or,fins_kind ol hu,asI_ok,scK_or,g_succ (by omega)]
        rfl
      by_cases hm:memK q=true
      · obtain ⟨k,nk,_,hbk,e1,o1⟩:=o.setG (i:=i) (j:=2) hi (by omega) (.int .i64 (t:Int))
        refine ⟨q414_s1 a1 x2 (t:Int) x ((i+1:Nat):Int) s0 (setBlk h' k (some ⟨true,9,(codeC (updL t c i)).set (i*9+2) (.int .i64 (t:Int))⟩)),by rw [e0,if_pos hm,e1],_,rfl,?_,kk.trans (Kp.set nk _),fun j b h1 h2=>?_⟩
        · rw [codeC_set _ i q (t:Int) hu] at o1 ⊢
          have:setL t q={ q with loc:=(t:Int) }:=by unfold setL;rw [if_pos hm]
          rw [←this,updL_set t hq] at o1 ⊢
          exact o1
        · rw [blk_set_ne (fun e=>h2 (by rw [←e];exact hbk))];exact fr j b h1 h2
      · refine ⟨q414_s1 a1 x2 (t:Int) x ((i+1:Nat):Int) s0 h',by rw [e0,if_neg hm],h',rfl,?_,kk,fr⟩
        rw [←updL_stay t hq (by unfold setL;rw [if_neg hm])]
        exact o) (st:=q414_s1 a1 x2 (t:Int) x ((0:Nat):Int) s0 h) ⟨h,rfl,o,Kp.refl _ _,fun j b h1 _=>h1⟩
  rw [updL_all] at o'
  refine ⟨h',hL _ (Lim_exit ?_),o',kk,fr⟩
  rw [q414_r1,o'.at.len,if_neg (by simp)]
set_option maxHeartbeats 1000000 in
theorem free_rows (a1:Int) (x2:Cell) (a b y:Cell) {P:PProg} (h3:P.thr.length≤3) (hc:∀c∈P.thr,c.length≤1000) {n:Nat} {h:AHeap} (hn:n≤h.length) (w:RowsOwn 9 codeC n h y P.thr) :
    ∃h',Lim (q414_F2 (R E) Lim E.glob) (q414_s2 a1 x2 ((0:Nat):Int) [a,b,y] h)=some (.exit 0,q414_x2_1 a1 x2 [a,b,y] h')∧RowsOwn 9 codeC n h' y (freeP P).thr∧Kp n h h' ∧
      ∀j b,blk? h j=some b→¬isBlk y j→blk? h' j=some b:=by
  have hM:maxBytes≥2000*72:=by unfold maxBytes;omega
  have a2:∀{α:Type} (f:Cell→Option α),atK [a,b,y] 2 f=f y:=fun f=>rfl
  obtain ⟨st,⟨h',rfl,w',kk,fr⟩,hL⟩:=Lim_inv (F:=q414_F2 (R E) Lim E.glob)
    (fun t st=>∃h',st=q414_s2 a1 x2 (t:Int) [a,b,y] h'∧RowsOwn 9 codeC n h' y (rowsU P t)∧Kp n h h'∧∀j b,blk? h j=some b→¬isBlk y j→blk? h' j=some b) 0 P.thr.length (by omega)
    (fun t st _ ht=>by
      rintro ⟨h',rfl,w,kk,fr⟩
      have hq:=List.getElem?_eq_getElem ht
      have hcl:=hc _ (List.getElem_mem ht)
      generalize P.thr[t]=c at hq hcl
      obtain ⟨ts,oy,rows⟩:=w
      have hyl:=rowsU_len P (t:=t) (by omega)
      rw [hyl] at oy
      obtain ⟨x,hx,ox,_⟩:=rows t c (rowsU_get hq)
      have hn':n≤h'.length:=Nat.le_trans hn kk.1
      have oxE:Own n (h'++[some ⟨true,9,[]⟩]) x 9 (codeC c) c.length:=ox.via fun j b _ q=>blk_old q _
      have oyE:Own n (h'++[some ⟨true,9,[]⟩]) y 1 ts P.thr.length:=oy.via fun j b _ q=>blk_old q _
      obtain ⟨x6,h7,e6,o6,k6,r6⟩:=(own_empty h'.length h' 9 (Nat.le_refl _)).appN (m:=c.length) (bytes:=72) (xs:=codeC c) (by simp) (by rw [codeC_len]) (by omega) (by omega) (by omega)
      rw [List.nil_append,Nat.zero_add] at o6
      obtain ⟨h8,e8,o8,k8,f8⟩:=free_code (E:=E) a1 x2 t [a,b,y] hcl o6
      have hnot:∀j,j<h'.length→¬isBlk (Cell.sl h'.length 0 0 0) j:=fun j hj q=>by
        have:h'.length=j:=q
        omega
      have fr8:∀j b,blk? h' j=some b→blk? h8 j=some b:=fun j b q=>by
        have hj:=blk_lt' q
        obtain ⟨q1,q2⟩:=r6 j b (blk_old q _) (hnot j hj)
        exact f8 j b q1 q2
      have oy8:Own n h8 y 1 ts P.thr.length:=oy.via fun j b _ q=>fr8 j b q
      obtain ⟨k,nk,kl,hbk,e9,o9⟩:=oy8.setG1 ht x6
      have hkk:Kp n h' (setBlk h8 k (some ⟨true,1,ts.set t x6⟩)):=((Kp.app _ hn').trans ((k6.mono hn').trans (k8.mono hn'))).trans (Kp.set nk _)
      rw [show ((0:Nat):Int)=0 from rfl] at e8
      have esz:∀{z:Cell} {cs:List Cell} {len:Nat} {m:Nat},Own m h8 z 9 cs len→¬isBlk z k:=fun {z cs len m} oz q=>by
        have h1:=oz.has q
        rw [oy8.has hbk] at h1
        have:=(Blk.mk.inj (Option.some.inj h1)).2.1
        omega
      refine ⟨q414_s2 a1 x2 ((t+1:Nat):Int) [a,b,y] (setBlk h8 k (some ⟨true,1,ts.set t x6⟩)),?_,_,rfl,⟨ts.set t x6,by rw [rowsU_len P (by omega)];exact o9,fun j r hr=>?_⟩,kk.trans hkk,fun j b q1 q2=>?_⟩
      · rw [q414_r2,a2,oy.at.len,if_pos (by simp;omega),if_pos (by rfl),a2,oyE.at.get1 ht hx,oxE.cellsG,bind_ok,show ([]:List Cell).length=0 from rfl,e6,e8,bind_ok]
        dsimp only
        rw [q414_e1_3,a2,e9,g_succ (by omega)]
      · rw [rowsU_next hq] at hr
        have htl:ts.length=P.thr.length:=by have:=oy.1;omega
        by_cases hj:j=t
        · subst hj
          rw [if_pos rfl] at hr
          cases hr
          refine ⟨x6,List.getElem?_set_self (by omega),?_,fun q h1 h2=>?_⟩
          · rw [List.length_map]
            exact (o8.setO (esz o8) _).monoN hn'
          · exact esz o8 (by
              have h3:=o8.has h1
              have h4:=oy8.has h2
              rw [h3] at h4
              have:=(Blk.mk.inj (Option.some.inj h4)).2.1
              omega)
        · rw [if_neg hj] at hr
          obtain ⟨z,z1,z2,z3⟩:=rows j r hr
          have z8:Own n h8 z 9 (codeC r) r.length:=z2.via fun i b _ q=>fr8 i b q
          exact ⟨z,by rw [List.getElem?_set_ne (fun e=>hj e.symm)];exact z1,z8.setO (esz z8) _,z3⟩
      · rw [blk_set_ne (fun e=>q2 (by rw [←e];exact hbk))]
        exact fr8 j b (fr j b q1 q2)) (st:=q414_s2 a1 x2 ((0:Nat):Int) [a,b,y] h) ⟨h,rfl,w,Kp.refl _ _,fun j b q _=>q⟩
  rw [rowsU_all] at w'
  refine ⟨h',hL _ (Lim_exit ?_),w',kk,fr⟩
  obtain ⟨ts,oy,_⟩:=w'
  rw [q414_r2,a2,oy.at.len,freeP_len,if_neg (by simp)]
set_option maxHeartbeats 1000000 in
theorem RaceFree_law (ht:TabOk E) (hE:q414_In E) {h:AHeap} {c0 c1' c2':List Cell} (o0:okC h (.sl (.i .i64)) c0) (o1:okC h (.i .i64) c1') (o2:okC h (.sl (.i .i64)) c2') :
    ∃h',R E 414 [av1 (.sl (.i .i64)) c0,av1 (.i .i64) c1',av1 (.sl (.i .i64)) c2'] h=some ([.c (.bool true)],h'):=by
  obtain ⟨x,l,ha0,hx,hlow,_,hml⟩:=arg_ints o0
  obtain ⟨m0,ha1,_⟩:=arg_int o1
  obtain ⟨y,ps,ha2,hy,hylow,_,hpl⟩:=arg_ints o2
  obtain ⟨cs,h1,P,r1,po,g1,g2,hu,k1⟩:=OfO_R hE.c76 hx hlow (by unfold maxLen at hml;omega) (most:=8) (by omega)
  have hcl:=po.at.len
  obtain ⟨n,a,b,th,rfl,hn1,hn2,_,_,w1⟩:=po
  have hb1:=g_rem3 (E:=E) m0
  have hm1:E.glob.wrap .i64 (E.glob.rem .i64 (E.glob.band .i64 m0 255) 3+1)=E.glob.rem .i64 (E.glob.band .i64 m0 255) 3+1:=g_wrap_i64 (by omega) (by omega)
  generalize hmm:E.glob.rem .i64 (E.glob.band .i64 m0 255) 3+1=m at hm1
  have hm13:1≤m∧m≤3:=by omega
  have hmark:∀{α:Type} (f:Cell→AHeap→Option α),markK (.sl h1.length ((splice (splice (splice [Cell.int .u8 0,Cell.int .u8 0,Cell.int .u8 0] 0 ([(.int .u8 120)]:List Cell)) 1 ([(.int .u8 121)]:List Cell)) 2 ([(.int .u8 122)]:List Cell)).length) 0 3) (h1++[some (Blk.mk true 1 (splice (splice (splice [Cell.int .u8 0,Cell.int .u8 0,Cell.int .u8 0] 0 ([(.int .u8 120)]:List Cell)) 1 ([(.int .u8 121)]:List Cell)) 2 ([(.int .u8 122)]:List Cell)))]) f=f (.sl h1.length 3 0 3) (h1++[some ⟨false,1,intC .u8 [120,121,122]⟩]):=by
    intro α f
    unfold markK
    simp only
    rw [blk_new,Option.bind_some]
    dsimp only
    rw [if_pos ⟨rfl,rfl⟩,setBlk_last];rfl
  obtain ⟨H1,e1⟩:∃H1,H1=h1++[some (Blk.mk false 1 (intC .u8 [120,121,122]))]:=⟨_,rfl⟩
  obtain ⟨H2,e2⟩:∃H2,H2=H1++[some (Blk.mk true 1 (intC .i64 [0,1,2]))]:=⟨_,rfl⟩
  have n1:H1.length=h1.length+1:=by rw [e1];simp
  have n2:H2.length=h1.length+2:=by rw [e2,List.length_append,n1];simp
  have b1:blk? H2 h1.length=some ⟨false,1,intC .u8 [120,121,122]⟩:=by rw [e2,e1];exact blk_old (blk_new _ _) _
  have b2:blk? H2 H1.length=some ⟨true,1,intC .i64 [0,1,2]⟩:=by rw [e2];exact blk_new _ _
  have k2:Kp h1.length h1 H2:=by
    rw [e2,e1,List.append_assoc]
    exact Kp.app _ (Nat.le_refl _)
  have w2:=w1.keep k2
  obtain ⟨h3,r3,w3,k3,f3⟩:=free_rows (E:=E) m y (.sl h1.length 3 0 3) (.sl H1.length 3 0 3) th (P:=P) g1.n.2 (fun c hc=>by have:=g1.code c hc;omega) (by omega) w2
  have nth:∀j,isBlk th j→j<h1.length:=fun j hj=>(w1.blkLt hj).1
  have b1':=f3 _ _ b1 (fun q=>by have:=nth _ q;omega)
  have b2':=f3 _ _ b2 (fun q=>by have:=nth _ q;omega)
  have l3:H2.length≤h3.length:=k3.1
  have p3:ProgAt h3 [.sl h1.length 3 0 3,.sl H1.length 3 0 3,th] (freeP P):=by
    obtain ⟨ts,y1,y2,y3⟩:=w3.of
    exact ⟨_,_,_,ts,rfl,⟨SlAt.whole b1' rfl,.inr (by omega)⟩,⟨SlAt.whole b2' rfl,.inr (by omega)⟩,⟨y1,y2⟩,y3⟩
  have kh3:Kp h.length h h3:=k1.trans ((k2.mono k1.1).trans (k3.mono (by omega)))
  have inv:=freeP_inv g1 g2 hm13
  have gg:=freeP_good g1
  have h4':(freeP P).thr.length≤4:=by rw [freeP_len];have:=g1.n;omega
  obtain ⟨z,row,h4,r4,oz,k4,hw,h60,_⟩:=Any_R hE.c254 p3 gg h4' (by show 3≤4;omega) hm13 inv (hy.keep hylow kh3) (Low_mono kh3.1 hylow)
  obtain ⟨zs,bs,h5,r5,a5,k5⟩:=rRun_R hE.c186 (p3.keep k4) gg h4' (by show 3≤4;omega) hm13 inv oz.at oz.low (by omega)
  have hrow:((MV.new (freeP P) m).runG row).2=row.length:=hw
  rw [hrow] at r5
  obtain ⟨v,vP,vm⟩:=MV.runs_inv inv row
  obtain ⟨_,H3⟩:=MV.runs_hist3 row inv (Hist.new (freeP P) m) (Hist3.new (freeP P) m)
  have LT:=MV.runs_locT (P:=P) row inv rfl (LocT.new (freeP P) m)
  have hrc:=LT.races H3
  have vm':((MV.new (freeP P) m).runs row).m=m:=vm
  rw [vm'] at hrc
  change RvAt h4.length h5 h4.length zs bs _ ((MV.new (freeP P) m).runs row) at a5
  generalize (MV.new (freeP P) m).runs row=V at *
  have f:=v.fit
  have hl5:=rv_len (x:=zs) f p3.len a5.bl
  obtain ⟨h6,r6,k6⟩:=RFree_R hE.c259 ht a5.st.at a5.st.low m
  have a6:=a5.keep k6
  obtain ⟨w7,h7,r7,o7,k7⟩:=Races_R hE.c256 ht a6.st.at a6.st.low m
  rw [hrc] at r6 o7
  have kfin:Kp h.length h h7:=kh3.trans ((k4.trans ((k5.trans ((k6.trans (k7.mono k6.1)).mono k5.1)).mono k4.1)).mono kh3.1)
  refine ⟨h,R_intro hE.fn ?_⟩
  rw [show ((0:Nat):Int)=0 from rfl] at r3
  have e9:splice (splice (splice [Cell.int .i64 0,Cell.int .i64 0,Cell.int .i64 0] 0 ([(.int .i64 0)]:List Cell)) 1 ([(.int .i64 1)]:List Cell)) 2 ([(.int .i64 2)]:List Cell)=intC .i64 [0,1,2]:=rfl
  rw [ha0,ha1,ha2,q414_eq,show ((8:Int))=((8:Nat):Int) from rfl,r1,c1_ok,asA_ok,if_pos (by exact ⟨rfl,rfl,rfl⟩),hmm,hm1,if_pos (by rfl),hmark,if_pos (by rfl),if_pos (by show 0<3;omega),if_pos (by show 1<3;omega),e9,←e1,←e2]
  refine (congrArg (fun z=>Option.bind z fun p_85=>(q414_k3 (R E) Lim E.glob h) p_85.1 p_85.2) r3).trans ?_
  rw [bind_ok]
  dsimp only
  rw [q414_e2_1,if_pos (by exact ⟨rfl,rfl⟩),if_pos (by exact ⟨rfl,rfl⟩),r4,c1_ok,asC_ok,r5,c2_ok,asC_ok,asI_ok,ptrK_p,rdH_ok a5.blk hl5,rv_steps f p3.len a5.bl,r6,c1_ok,asB_ok,show (([]:List (Int × Int)).length==0)=true from rfl,scK_ok,ptrK_p,rdH_ok a6.blk hl5,rv_steps f p3.len a5.bl,r7,c1_ok,asC_ok,o7.at.len,bind_ok]
  dsimp only
  rw [show (((([]:List (Int × Int)).length:Nat):Int)==0)=true from rfl,scK_ok,awake20_R hE.c258 ht,c1_ok,asB_ok,bind_ok]
  exact finish_gc kfin (by simp [avOk,AV.cells,idOk])
end
end Jq

namespace Go.Proofs.YtjamopobfdnlkaaDoor.LRaceFree
open Go Jq Go.ChangeShapes Go.WideShapes Go.ChangeAt Go.RowKit
set_option linter.unusedVariables false
theorem own:ownKnob Tryd.prog.godebug=none:=by kernel_rfl
theorem laidOut:laidOutB Tryd.prog=true:=by kernel_rfl
theorem gN : Tryd.prog.globalNamed "math/bits.deBruijn64tab" = some 0 := by kernel_rfl
theorem met (os:Os) (args:Array Value):laidMetH Tryd.prog Rows.raceFreeRow.laid ((World.doorLaid Tryd.prog 400 os).forCall (fun _ _=>0) ⟨#[],args,[]⟩).memory :=
  laidMetH_of_parts3 (fuel:=8) (laidMet_of_run' 8 (by kernel_rfl) (by kernel_rfl)) (by kernel_rfl) (by kernel_rfl)
theorem of_laid {W:World} (h:laidMetH Tryd.prog Rows.raceFreeRow.laid W):∀i,i<deB.length→W.cell? ⟨0,i,none⟩=some (.int .u8 (deB.getD i 0)):=by
  rw [MakeChecks.laidMetH_plain _ _ _ (by kernel_rfl)] at h
  have hT:=Lib.tabIs_of_head (zs:=deB) (n:=64) gN (t:=137) (by kernel_rfl) (e:=5) (by kernel_rfl) (by kernel_rfl) (by kernel_rfl) (by kernel_rfl) h
  exact fun i hi=>hT.cell gN i hi
set_option maxRecDepth 100000 in
theorem lifted (os:Os) (started:os.Started) (H:Type) (enc:TypeId × Value→H) :
    ReturnsInHanded {} Tryd.checked os 4 .any (fun w args=>(Rows.raceFreeSpec.pre enc Tryd.prog Tryd.f4 [] false w args∧laidMetH Tryd.prog Rows.raceFreeRow.laid w)∧sizedMet enc Tryd.prog Tryd.f4 (OpenSpec.ofChange Rows.raceFreeSpec) false w args) (Rows.raceFreeSpec.post enc Tryd.prog Tryd.f4 false true false false):=by
  refine returnsInHanded_of_change_and (C:=Tryd.checked) (X:=fun w _=>laidMetH Tryd.prog Rows.raceFreeRow.laid w) (fun _ _ _ hh h=>h.of_heap hh) own started (by kernel_rfl) Tryd.func4
    (ChangeSpec.witness_shaped (enc:=enc) (C:=Tryd.checked) (os:=os) (X:=fun w _=>laidMetH Tryd.prog Rows.raceFreeRow.laid w) false (World.doorLaid Tryd.prog 400 os) #[.slice none 0 0,.int .i64 0,.slice none 0 0] 8 rfl (World.shaped_of_RefB (by kernel_rfl) (by kernel_rfl)) (by kernel_rfl) (by kernel_rfl) (by kernel_rfl) (met os _)) ?_
  intro W base args ds gs before hval0 hW _ _ hL _
  have hval:∀(j:Nat) t v,Tryd.f4.params[j]? = some t→args[j]? = some v→Value.okWide Tryd.prog W .any base t v:=hval0
  have hW':=hW
  obtain ⟨p,q,hA0,hV,rfl,hfz,hnd⟩:=hW
  have hA:DataW.TrodAll enc Tryd.prog W 0 (fun _=>true) true Tryd.f4.params.toList args.toList ds p:=hA0
  rw [Tryd.params4] at hA hval
  obtain ⟨v0,vs0,d0,ds0,p0,q0,hargs,rfl,rfl,h0,r0⟩:=trodAll_cons hA
  obtain ⟨v1,vs1,d1,ds1,p1,q1,rfl,rfl,rfl,h1,r1⟩:=trodAll_cons r0
  obtain ⟨v2,vs2,d2,ds2,p2,q2,rfl,rfl,rfl,h2,r2⟩:=trodAll_cons r1
  obtain ⟨rfl,rfl,rfl⟩:=trodAll_nil r2
  obtain rfl:args=#[v0,v1,v2]:=by cases args;simp_all
  obtain ⟨rfl,rfl⟩:=trodVars_none hV
  have lt0:∀x∈p0,x.block<W.heap.size:=by obtain ⟨m,hm⟩:=h0;exact DataW.trod_lt m _ _ _ hm
  have lt1:∀x∈p1,x.block<W.heap.size:=by obtain ⟨m,hm⟩:=h1;exact DataW.trod_lt m _ _ _ hm
  have lt2:∀x∈p2,x.block<W.heap.size:=by obtain ⟨m,hm⟩:=h2;exact DataW.trod_lt m _ _ _ hm
  have c:=Come.tab1 (S:=seat) (W:=W) deB (fun _=>rfl) (of_laid hL)
  have k0:((.sl (.i .i64)):Sh).chk seat.P 22=true:=by kernel_rfl
  obtain ⟨b0,ρ0,cs0,c0,e0,x0,a0,o0⟩:=opens_arg (S:=seat) (W:=W) (sh:=(.sl (.i .i64))) k0 h0 (wide_of k0 (hval 0 22 v0 rfl rfl)) ⟨nofun,nofun⟩ c
  have k1:((.i .i64):Sh).chk seat.P 3=true:=by kernel_rfl
  obtain ⟨b1,ρ1,cs1,c1,e1,x1,a1,o1⟩:=opens_arg (S:=seat) (W:=W) (sh:=(.i .i64)) k1 h1 (wide_of k1 (hval 1 3 v1 rfl rfl)) ⟨nofun,nofun⟩ c0
  have k2:((.sl (.i .i64)):Sh).chk seat.P 22=true:=by kernel_rfl
  obtain ⟨b2,ρ2,cs2,c2,e2,x2,a2,o2⟩:=opens_arg (S:=seat) (W:=W) (sh:=(.sl (.i .i64))) k2 h2 (wide_of k2 (hval 2 22 v2 rfl rfl)) ⟨nofun,nofun⟩ c1
  obtain ⟨h',hR⟩:=RaceFree_law (E:=env) tabOk in_414 (okC_mono x2 _ _ (okC_mono x1 _ _ o0)) (okC_mono x2 _ _ o1) o2
  refine (law_call (S:=seat) (R_sound (S:=seat) (E:=env) rfl allOk) c2 (vals:=#[v0,v1,v2]) (L2.cons (relA.mono e2 (relA.mono e1 a0)) (L2.cons (relA.mono e2 a1) (L2.cons a2 L2.nil))) hR).mono fun e W' ⟨he,bel⟩=>?_
  subst he
  exact ⟨_,rfl,_,_,_,[],_,[],hW',trodAll_mk1 (shut_bool Tryd.underlying4 _),(trodAll_cons_mk (Below.trod laidOut (by kernel_rfl) (of_decide_eq_true (by kernel_rfl)) h0 bel lt0) (trodAll_cons_mk (Below.trod laidOut (by kernel_rfl) (of_decide_eq_true (by kernel_rfl)) h1 bel lt1) (trodAll_cons_mk (Below.trod laidOut (by kernel_rfl) (of_decide_eq_true (by kernel_rfl)) h2 bel lt2) trodAll_mk0))),rfl,bel.frame _,fun h=>by cases h⟩
theorem over:Rows.raceFreeRow.holds Tryd.pinned (OpenSpec.ofChange Rows.raceFreeSpec) :=
  OpenClaim.holds_of_wide 4 Tryd.f4 rfl rfl rfl rfl rfl rfl rfl ⟨rfl,rfl,rfl,rfl,rfl⟩ rfl rfl rfl rfl rfl (by kernel_rfl) Tryd.func4 (by kernel_rfl)
    (of_decide_eq_true (by kernel_rfl)) (by unfold Func.isWrapper;first | (rw [if_pos (by decide +kernel)];kernel_rfl) | (rw [if_neg (by decide +kernel)];exact ⟨rfl,rfl⟩))
    (fun os started H enc _=>lifted os started H enc)
theorem proved:Rows.RaceFreeCardSaid :=
  Claim7.holds_tied_plain_at .later [] [.data] true (true, "2fdd6caf920216eb174a27daf5bb1905855a3b17776fabd81313f3a936b17355") false
    over (fun _ h=>by cases h) (by kernel_rfl) (fun _ h=>by cases h) raceFree_row_tie rfl ⟨rfl,rfl⟩ (by kernel_rfl) rfl
    (fun f fn hf hfn=>by
      obtain rfl : f = 4 := Option.some.inj ((show Tryd.prog.funcNamed "jacquard/jacquardlaw20.RaceFree" = some 4 by kernel_rfl).symm.trans hf) |>.symm
      obtain rfl:fn=Tryd.f4:=(Option.some.inj (Tryd.func4.symm.trans hfn)).symm
      exact ⟨by kernel_rfl,fun j t ht=>by
        rw [Tryd.params4] at ht
        have hm:t∈[22,3,22]:=by simpa using Array.mem_of_getElem? ht
        have hall:([22,3,22].all fun u=>!Tryd.prog.wantsStandIn u)=true:=by kernel_rfl
        exact (show Tryd.prog.wantsStandIn t=false by simpa using List.all_eq_true.1 hall t hm)⟩)
    (by kernel_rfl)
#print axioms proved
end Go.Proofs.YtjamopobfdnlkaaDoor.LRaceFree

