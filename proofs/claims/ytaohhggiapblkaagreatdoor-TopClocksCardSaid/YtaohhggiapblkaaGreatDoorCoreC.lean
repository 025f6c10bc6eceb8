/- YtaohhggiapblkaaGreatDoorCoreC: a part of the proof; no conditions of its own. -/
import Derived.ChangeArms
import Derived.OpenShut
import Derived.Below
import Derived.ProofKit
import Derived.Test.YtaohhggiapblkaaGreatDoorCoreB
set_option linter.unusedVariables false
set_option linter.unusedSectionVars false
set_option linter.unusedSimpArgs false
set_option maxRecDepth 100000
open List renaming getD_eq_getElem?_getD→Ya,getElem?_eq_none→Yb,getElem?_append_left→Yc,all_eq_true→Yd,mem_filter→Yf,range→Yh,mem_cons→Yn,prefix_refl→Yo,getElem?_append_right→Yp,range'→Yq,getElem?_eq_some_iff→Ys,append_assoc→Yu,getElem?_map→Yv,getElem?_set_ne→Yz,mem_append→Yaa,mem_of_getElem?→Yab,range_eq_range'→Yac,getElem?_of_mem→Yad,filter_eq_self→Yae,replicate→Yaf,filter_append→Yag,length_append→Yah,prefix_append→Yai,getElem?_set→Yaj,mem_range'_1→Yak,ext_getElem?→Yal,mem_map→Yam,length_eq_zero_iff→Yao,getElem?_replicate→Yap,filter_eq_nil_iff→Yar,mem_range→Yas,map_congr_left→Yat,getElem?_range→Yau,filter_congr→Yax,length_range→Yay,cons_append→Yaz,range'_succ→Yba,length_cons→Ybb,nil_append→Ybd,drop_zero→Ybf
open Option renaming map_some→Ye,some→Yi,map_eq_some_iff→Yj,bind_some→Ym
open Bool renaming and_eq_true→Yg,or_eq_true→Yr,false_eq_true→Yav
open BitVec renaming ofInt→Yk,toNat_ofNat→Yt,toNat_and→Ybc
open Array renaming getElem?_eq_some_iff→Yl,replicate→Ybe
open Nat renaming le_refl→Yw,mod_eq_of_lt→Yx,lt_or_ge→Yy,succ_mul→Yan,strongRecOn→Yaq,lt_trichotomy→Yaw
namespace Jq
open Go
inductive Cls where
 | pure
 | rh
 | wh
 | rs (q:Nat)
 | ws (q:Nat)
 | r0
 | r1 (e:Nat)
 | w1 (e:Nat)
 | w0
 deriving DecidableEq
def K.cls:K->Cls
 | .ld (.slot q) _=>.rs q
 | .ldAll (.slot q) _=>.rs q
 | .ldN (.slot q) _=>.rs q
 | .ld .heap _=>.rh
 | .ld0 _=>.r0
 | .ldAll .heap _=>.rh
 | .ldN .heap _=>.rh
 | .st (.slot q)=>.ws q
 | .stAll (.slot q) _=>.ws q
 | .stN (.slot q) _=>.ws q
 | .st .heap=>.wh
 | .stAll .heap _=>.wh
 | .stN .heap _=>.wh
 | .allocH _=>.wh
 | .boxH=>.wh
 | .bslice e _ _ _=>if e=0 then .wh else .w1 e
 | .mks _ _ _=>.wh
 | .app e _=>if e=0 then .wh else .w1 e
 | .copy _=>.wh
 | .call _ _=>.wh
 | .callv _=>.wh
 | .s2b=>.wh
 | .mark=>.wh
 | .slc e _ _=>.r1 e
 | .slcA _ _ _ _=>.rh
 | .qcall _ _=>.rh
 | .qcallv _=>.rh
 | .qcallb _=>.rh
 | .zcall _ _=>.w0
 | .b2s=>.rh
 | _=>.pure
abbrev Eff:=Ze->Za->Option (TV × Ze × Za)
def Znz (s:Ze) (q:Nat):Option (List Cell)->Ze
 | none=>s
 | some cs=>s.set q (some cs)
def Same0 (h h2:Za):Prop:=∀k b,b.esz=0->(blk? h k=some b↔blk? h2 k=some b)
def Same1 (e:Nat) (h h2:Za):Prop:=∀k N,Zgd h e k N=Zgd h2 e k N
def Local:Cls->Eff->Prop
 | .r0,g=>∀s s2 h h2,Same0 h h2->g s h=(g s2 h2).map fun p=>(p.1,s,h)
 | .r1 e,g=>∀s s2 h h2,Same1 e h h2->g s h=(g s2 h2).map fun p=>(p.1,s,h)
 | .w1 e,g=>(∀s s2 h,g s h=(g s2 h).map fun p=>(p.1,s,p.2.2))/\∀s h p,g s h=some p->Same0 h p.2.2/\Same1 e h p.2.2
 | .w0,g=>(∀s s2 h,g s h=(g s2 h).map fun p=>(p.1,s,p.2.2))/\∀s h p,g s h=some p->Same0 h p.2.2
 | .pure,g=>∀s h s2 h2,g s h=(g s2 h2).map fun p=>(p.1,s,h)
 | .rh,g=>∀s s2 h,g s h=(g s2 h).map fun p=>(p.1,s,h)
 | .wh,g=>∀s s2 h,g s h=(g s2 h).map fun p=>(p.1,s,p.2.2)
 | .rs q,g=>∀s h s2 h2,s.getD q none=s2.getD q none->g s h=(g s2 h2).map fun p=>(p.1,s,h)
 | .ws q,g=>∃F:Option (List Cell)->Option (TV × Option (List Cell)),∀s h,g s h=(F (s.getD q none)).map fun p=>(p.1,Znz s q p.2,h)
def Cls.old:Cls->Cls
 | .r0=>.rh
 | .r1 _=>.rh
 | .w1 _=>.wh
 | .w0=>.wh
 | c=>c
def Zmh:Cls->Cls->Bool
 | .r0,_=>false
 | .r1 _,_=>false
 | .w1 _,_=>false
 | .w0,_=>false
 | _,.r0=>false
 | _,.r1 _=>false
 | _,.w1 _=>false
 | _,.w0=>false
 | .pure,_=>true
 | _,.pure=>true
 | .rh,.wh=>false
 | .wh,.rh=>false
 | .wh,.wh=>false
 | .rs q,.ws p=>q != p
 | .ws q,.rs p=>q != p
 | .ws q,.ws p=>q != p
 | _,_=>true
def compat1:Cls->Cls->Bool
 | .r0,.w1 _=>true
 | .w1 _,.r0=>true
 | .r0,.w0=>true
 | .w0,.r0=>true
 | .r1 e,.w1 d=>e==d
 | .w1 d,.r1 e=>e==d
 | _,_=>false
def compat (a b:Cls):Bool:=Zmh a.old b.old||compat1 a b
section loc
variable {C:Zk} {G:Glo}
theorem Zhm {α:Type} {q:Nat} {a:TV} {s s2:Ze} {h h2:Za} {f:List Cell->Nat->Option α} (hs:s.getD q none=s2.getD q none):Zy G (.slot q) a s h f=Zy G (.slot q) a s2 h2 f:=by
 cases a<;>simp only [Zy,hs]
theorem Zhq {α:Type} {a:TV} {s s2:Ze} {h:Za} {f:List Cell->Nat->Option α}:Zy G .heap a s h f=Zy G .heap a s2 h f:=by
 cases a<;>first | rfl | (rename_i x;cases x<;>first | rfl | (rename_i c;cases c<;>rfl))
theorem Zki {α:Type} {a:TV} {cs:List Cell} {s:Ze} {h:Za} {f:Ze->Za->Option α}:Zhi .heap a cs s h f=Zhi .heap a cs ([]:Ze) h fun _ h=>f s h:=by
 cases a<;>first | rfl | (rename_i x;cases x<;>first | rfl | (rename_i c;cases c<;>rfl))
theorem Zch {k:K} {xs:List TV} {s s2:Ze} {h h2:Za} {φ:TV->Ze->Za->Option (TV × Ze × Za)}
  (hk:stepK C G k xs s h (fun v s h=>some (v,s,h))=stepK C G k xs s2 h2 φ):Zat C G k xs s h=(Zat C G k xs s2 h2).bind fun p=>φ p.1 p.2.1 p.2.2:=by
 rw [←stepK_nat];exact hk
theorem Zax {α β:Type} (o:Option α) (f:α->β):(o.bind fun p=>some (f p))=o.map f:=by cases o<;>rfl
theorem Zrh {k:K} (hk:k.cls=.pure) (xs:List TV) (s s2:Ze) (h h2:Za):Zat C G k xs s h=(Zat C G k xs s2 h2).map fun p=>(p.1,s,h):=by
 rw [←Zax]
 refine Zch (φ:=fun v _ _=>some (v,s,h)) ?_
 cases k<;>first
  | rfl
  | (rename_i m;cases m<;>exact Cls.noConfusion hk)
  | (rename_i m _;cases m<;>exact Cls.noConfusion hk)
  | exact Cls.noConfusion hk
  | (simp only [stepK];split<;>rfl)
  | (simp only [K.cls] at hk;split at hk<;>cases hk)
theorem step0_rh {k:K} (hk:k.cls=.rh) (xs:List TV) (s s2:Ze) (h:Za):Zat C G k xs s h=(Zat C G k xs s2 h).map fun p=>(p.1,s,h):=by
 rw [←Zax]
 refine Zch (φ:=fun v _ _=>some (v,s,h)) ?_
 cases k<;>first
  | exact Cls.noConfusion hk
  | rfl
  | (rename_i m;cases m<;>first
    | exact Cls.noConfusion hk
    | (simp only [stepK];congr 1;funext a;rw [Zhq (s2:=s2)]))
  | (rename_i m _;cases m<;>first
    | exact Cls.noConfusion hk
    | (simp only [stepK];congr 1;funext a;rw [Zhq (s2:=s2)]))
  | (simp only [K.cls] at hk;split at hk<;>cases hk)
theorem step0_wh {k:K} (hk:k.cls=.wh) (xs:List TV) (s s2:Ze) (h:Za):Zat C G k xs s h=(Zat C G k xs s2 h).map fun p=>(p.1,s,p.2.2):=by
 rw [←Zax]
 refine Zch (φ:=fun v _ h=>some (v,s,h)) ?_
 cases k<;>first
  | exact Cls.noConfusion hk
  | rfl
  | (simp only [stepK];split<;>rfl)
  | (rename_i m;cases m<;>first
    | exact Cls.noConfusion hk
    | (simp only [stepK];congr 1;funext a x;congr 1;funext c;rw [Zhq (s2:=s2)];congr 1;funext cs off;congr 1;rw [Zki (s:=s),Zki (s:=s2)]))
  | (rename_i m _;cases m<;>first
    | exact Cls.noConfusion hk
    | (simp only [stepK];congr 1;funext a x;congr 1;funext c;rw [Zhq (s2:=s2)];congr 1;funext cs off;congr 1;rw [Zki (s:=s),Zki (s:=s2)]))
  | (simp only [K.cls] at hk;split at hk<;>cases hk)
theorem step0_rs {k:K} {q:Nat} (hk:k.cls=.rs q) (xs:List TV) (s s2:Ze) (h h2:Za) (hs:s.getD q none=s2.getD q none):Zat C G k xs s h=(Zat C G k xs s2 h2).map fun p=>(p.1,s,h):=by
 rw [←Zax]
 refine Zch (φ:=fun v _ _=>some (v,s,h)) ?_
 cases k<;>first
  | exact Cls.noConfusion hk
  | (rename_i m;cases m<;>first
    | exact Cls.noConfusion hk
    | (cases hk;simp only [stepK];congr 1;funext a;rw [Zhm hs]))
  | (rename_i m _;cases m<;>first
    | exact Cls.noConfusion hk
    | (cases hk;simp only [stepK];congr 1;funext a;rw [Zhm hs]))
  | (simp only [K.cls] at hk;split at hk<;>cases hk)
theorem one_getD (q:Nat) (c:Option (List Cell)):(Yaf q none++[c]).getD q none=c:=by
 rw [Ya,Yp (by simp)];simp
theorem one_set (q:Nat) (c:Option (List Cell)) (x:Option (List Cell)):((Yaf q none++[c]).set q x).getD q none=x:=by
 rw [Ya,Yaj];simp
theorem step0_ws {k:K} {q:Nat} (hk:k.cls=.ws q) (xs:List TV):∃F:Option (List Cell)->Option (TV × Option (List Cell)),∀s h,Zat C G k xs s h=(F (s.getD q none)).map fun p=>(p.1,Znz s q p.2,h):=by
 refine ⟨fun c=>(Zat C G k xs (Yaf q none++[c]) []).map fun p=>(p.1,p.2.1.getD q none),fun s h=>?_⟩
 rw [Option.map_map,←Zax]
 refine Zch (φ:=fun v s' _=>some (v,Znz s q (s'.getD q none),h)) ?_
 have hg:=(one_getD q (s.getD q none)).symm
 cases k<;>first
  | exact Cls.noConfusion hk
  | (rename_i m;cases m<;>first
    | exact Cls.noConfusion hk
    | (cases hk;simp only [stepK];congr 1;funext a x;congr 1;funext c;rw [Zhm hg];simp only [Zhi,one_set];rfl))
  | (rename_i m _;cases m<;>first
    | exact Cls.noConfusion hk
    | (cases hk;simp only [stepK];congr 1;funext a x;congr 1;funext c;rw [Zhm hg];simp only [Zhi,one_set];rfl))
  | (simp only [K.cls] at hk;split at hk<;>cases hk)
theorem Zq783 {α:Type} {h h2:Za} (hs:Same0 h h2) (x:TV) (f:List Cell->Nat->Option α):Zsq x h f=Zsq x h2 f:=by
 unfold Zsq
 split
 ·rename_i k N off
  unfold rd0 Zn
  cases h1:blk? h k with
  | some b =>
   by_cases hb:b.esz=0
   ·rw [(hs k b hb).1 h1]
   ·rw [Ym,if_neg hb]
    cases h3:blk? h2 k with
    | none=>rfl
    | some b2 =>
     by_cases hb2:b2.esz=0
     ·have:=(hs k b2 hb2).2 h3
      rw [h1] at this;cases this;exact absurd hb2 hb
     ·rw [Ym,if_neg hb2]
  | none =>
   cases h3:blk? h2 k with
   | none=>rfl
   | some b2 =>
    by_cases hb2:b2.esz=0
    ·have:=(hs k b2 hb2).2 h3
     rw [h1] at this;cases this
    ·rw [Ym,if_neg hb2];rfl
 ·rfl
theorem step0_r0 {k:K} (hk:k.cls=.r0) (xs:List TV) (s s2:Ze) (h h2:Za) (hs:Same0 h h2):Zat C G k xs s h=(Zat C G k xs s2 h2).map fun p=>(p.1,s,h):=by
 rw [←Zax]
 refine Zch (φ:=fun v _ _=>some (v,s,h)) ?_
 cases k<;>first
  | exact Cls.noConfusion hk
  | (simp only [stepK,Zq783 hs];done)
  | (rename_i m;cases m<;>exact Cls.noConfusion hk)
  | (rename_i m _;cases m<;>exact Cls.noConfusion hk)
  | (simp only [K.cls] at hk;split at hk<;>cases hk)
theorem Zym {α:Type} {h h2:Za} {e:Nat} (hs:Same1 e h h2) (lo hi:Bool) (x:Cell) (xs:List TV) (f:Cell->Option α):Zcg h e lo hi x xs f=Zcg h2 e lo hi x xs f:=by
 unfold Zcg
 split
 ·rw [hs]
 ·rfl
 ·rfl
theorem step0_r1 {k:K} {e:Nat} (hk:k.cls=.r1 e) (xs:List TV) (s s2:Ze) (h h2:Za) (hs:Same1 e h h2):Zat C G k xs s h=(Zat C G k xs s2 h2).map fun p=>(p.1,s,h):=by
 rw [←Zax]
 refine Zch (φ:=fun v _ _=>some (v,s,h)) ?_
 cases k<;>first
  | exact Cls.noConfusion hk
  | (cases hk;simp only [stepK,Zym hs];done)
  | (rename_i m;cases m<;>exact Cls.noConfusion hk)
  | (rename_i m _;cases m<;>exact Cls.noConfusion hk)
  | (simp only [K.cls] at hk;split at hk<;>cases hk)
theorem Same0.refl (h:Za):Same0 h h:=fun _ _ _=>Iff.rfl
theorem Same1.refl (e:Nat) (h:Za):Same1 e h h:=fun _ _=>rfl
theorem Same0.trans {a b c:Za} (h1:Same0 a b) (h2:Same0 b c):Same0 a c:=fun k x hx=>(h1 k x hx).trans (h2 k x hx)
theorem Same1.trans {e:Nat} {a b c:Za} (h1:Same1 e a b) (h2:Same1 e b c):Same1 e a c:=fun k N=>(h1 k N).trans (h2 k N)
theorem Zya (h:Za) (b:Option Blk) (k:Nat):blk? (h++[b]) k=if k<h.length then blk? h k else if k=h.length then b else none:=by
 unfold blk?
 rcases Yaw k h.length with hk | hk | hk
 ·rw [if_pos hk,Yc hk]
 ·subst hk;rw [if_neg (Nat.lt_irrefl _),if_pos rfl];simp
 ·rw [if_neg (by omega),if_neg (by omega),Yb (by simp;omega)];rfl
theorem Zer {h:Za} {k:Nat} (hk:h.length<=k):blk? h k=none:=by unfold blk?;rw [Yb hk];rfl
theorem Zmz {e:Nat} (he:e≠0) (h:Za) (cs:List Cell):Same0 h (h++[some ⟨true,e,cs⟩])/\Same1 e h (h++[some ⟨true,e,cs⟩]):=by
 constructor
 ·intro k b hb
  rw [Zya]
  split
  ·exact Iff.rfl
  ·rename_i hk
   rw [Zer (by omega)]
   split
   ·constructor
    ·intro h;cases h
    ·intro h;cases h;exact absurd hb he
   ·exact Iff.rfl
 ·intro k N
  unfold Zgd
  rw [Zya]
  by_cases h1:k<h.length
  ·rw [if_pos h1]
  ·rw [if_neg h1,Zer (by omega)]
   by_cases h2:k=h.length
   ·rw [if_pos h2];simp
   ·rw [if_neg h2]
theorem Zwo {h:Za} {k:Nat} {b:Blk} (hb:blk? h k=some b) (x:Option Blk) (j:Nat):blk? (setBlk h k x) j=if j=k then x else blk? h j:=by
 have hk:k<h.length:=by
  rcases Yy k h.length with h1 | h1
  ·exact h1
  ·rw [Zer h1] at hb;cases hb
 unfold blk? setBlk
 rw [Yaj]
 by_cases hj:j=k
 ·subst hj;rw [if_pos rfl,if_pos hk,if_pos rfl];rfl
 ·rw [if_neg (fun h=>hj h.symm),if_neg hj]
theorem Zqw {e:Nat} (he:e≠0) {h:Za} {k:Nat} {b:Blk} (hb:blk? h k=some b) (hbe:b.esz=e) (x:Option Blk) (hx:∀y,x=some y->y.esz=e):Same0 h (setBlk h k x)/\Same1 e h (setBlk h k x):=by
 constructor
 ·intro j c hc
  rw [Zwo hb]
  split
  ·rename_i hj
   subst hj
   rw [hb]
   constructor
   ·intro h;cases h;exact absurd (hbe.symm.trans hc) he
   ·intro h;exact absurd ((hx c h).symm.trans hc) he
  ·exact Iff.rfl
 ·intro j N
  unfold Zgd
  rw [Zwo hb]
  by_cases hj:j=k
  ·subst hj
   rw [if_pos rfl,hb]
   cases x with
   | none=>simp [hbe]
   | some y=>simp [hbe,hx y rfl]
  ·rw [if_neg hj]
theorem same_app {α:Type} {e bytes:Nat} (he:e≠0) {base:Cell} {xs:List Cell} {h:Za} {f:Cell->Za->Option α} {y:α} (hs:Zaq e bytes base xs h f=some y) :
  ∃c h2,f c h2=some y/\Same0 h h2/\Same1 e h h2:=by
 unfold Zaq at hs
 split at hs
 ·split at hs
  ·exact ⟨_,_,hs,Same0.refl _,Same1.refl _ _⟩
  ·obtain ⟨_,hs⟩:=Zj hs
   exact ⟨_,_,hs,Zmz he _ _⟩
 ·obtain ⟨b,hb,hs⟩:=bind_some hs
  obtain ⟨⟨_,hbe,_⟩,hs⟩:=Zj hs
  split at hs
  ·exact ⟨_,_,hs,Zqw he hb hbe _ fun y hy=>by cases hy;exact hbe⟩
  ·split at hs
   ·exact ⟨_,_,hs,Zqw he hb hbe _ fun y hy=>by cases hy;exact hbe⟩
   ·obtain ⟨a0,a1⟩:=Zqw he hb hbe none (fun y hy=>by cases hy)
    obtain ⟨b0,b1⟩:=Zmz he (setBlk h _ none) ((b.cs.drop _).take (_*e)++xs)
    exact ⟨_,_,hs,a0.trans b0,a1.trans b1⟩
 ·obtain ⟨b,hb,hs⟩:=bind_some hs
  obtain ⟨_,hs⟩:=Zj hs
  exact ⟨_,_,hs,Zmz he _ _⟩
 ·cases hs
theorem step0_w1 {k:K} {e:Nat} (hk:k.cls=.w1 e) (xs:List TV):(∀s s2 h,Zat C G k xs s h=(Zat C G k xs s2 h).map fun p=>(p.1,s,p.2.2))/\∀s h p,Zat C G k xs s h=some p->Same0 h p.2.2/\Same1 e h p.2.2:=by
 cases k<;>first
  | exact Cls.noConfusion hk
  | (rename_i m;cases m<;>exact Cls.noConfusion hk)
  | (rename_i m _;cases m<;>exact Cls.noConfusion hk)
  | skip
 case bslice e' len z parts =>
  simp only [K.cls] at hk
  split at hk
  ·cases hk
  ·rename_i he
   cases hk
   refine ⟨fun s s2 h=>?_,fun s h p hp=>?_⟩
   ·rw [←Zax]
    refine Zch (φ:=fun v _ h=>some (v,s,h)) ?_
    rfl
   ·simp only [Zat,stepK] at hp
    rcases Zpk parts xs z with hN | ⟨cs,hv⟩
    ·cases (hN _ _).symm.trans hp
    ·have hp:=(hv _ _).symm.trans hp
     split at hp
     ·cases hp;exact Zmz he _ _
     ·cases hp
 case app e' bytes =>
  simp only [K.cls] at hk
  split at hk
  ·cases hk
  ·rename_i he
   cases hk
   refine ⟨fun s s2 h=>?_,fun s h p hp=>?_⟩
   ·rw [←Zax]
    refine Zch (φ:=fun v _ h=>some (v,s,h)) ?_
    rfl
   ·simp only [Zat,stepK] at hp
    rcases k2_h xs with hN | ⟨b,x,hv⟩
    ·cases (hN _ _).symm.trans hp
    ·have hp:=(hv _ _).symm.trans hp
     rcases cellK_h b with hN | ⟨c,hv2⟩
     ·cases (hN _ _).symm.trans hp
     ·have hp:=(hv2 _ _).symm.trans hp
      obtain ⟨cs,_,hp⟩:=bind_some hp
      obtain ⟨c',h2,hf,h3⟩:=same_app he hp
      cases hf;exact h3
theorem zh_same {h:Za} {x:Option (List AV × Za)} {r:List AV × Za} (hq:zh h x=some r):Same0 h r.2:=by
 obtain ⟨y,_,hq⟩:=bind_some hq
 obtain ⟨hc,hq⟩:=Zj hq
 cases hq
 rw [Yd] at hc
 intro k b hb
 have hz:z0 h k=z0 r.2 k:=by
  rcases Yy k (h.length+r.2.length) with c | c
  ·exact of_decide_eq_true (hc k (Yas.2 c))
  ·unfold z0
   rw [Zer (show h.length<=k by omega),Zer (show r.2.length<=k by omega)]
 have key:∀H:Za,blk? H k=some b↔z0 H k=some b:=fun H=>by
  unfold z0
  cases hB:blk? H k with
  | none=>simp
  | some b' =>
   rw [Ym]
   by_cases he:b'.esz=0
   ·rw [if_pos he]
   ·rw [if_neg he]
    constructor
    ·intro q;cases q;exact absurd hb he
    ·intro q;cases q
 rw [key h,key r.2,hz]
theorem step0_w0 {k:K} (hk:k.cls=.w0) (xs:List TV):(∀s s2 h,Zat C G k xs s h=(Zat C G k xs s2 h).map fun p=>(p.1,s,p.2.2))/\∀s h p,Zat C G k xs s h=some p->Same0 h p.2.2:=by
 cases k<;>first
  | exact Cls.noConfusion hk
  | (rename_i m;cases m<;>exact Cls.noConfusion hk)
  | (rename_i m _;cases m<;>exact Cls.noConfusion hk)
  | (simp only [K.cls] at hk;split at hk<;>cases hk;done)
  | skip
 case zcall g rs =>
  refine ⟨fun s s2 h=>?_,fun s h p hp=>?_⟩
  ·rw [←Zax]
   refine Zch (φ:=fun v _ h=>some (v,s,h)) ?_
   rfl
  ·simp only [Zat,stepK,callK] at hp
   obtain ⟨l,_,hp⟩:=bind_some hp
   obtain ⟨rl,h3,hq,hg⟩:=Zqz hp
   cases hg
   exact zh_same hq
theorem Zze (k:K) (xs:List TV):Local k.cls (Zat C G k xs):=by
 cases hk:k.cls with
 | pure=>exact fun s h s2 h2=>Zrh hk xs s s2 h h2
 | rh=>exact fun s s2 h=>step0_rh hk xs s s2 h
 | wh=>exact fun s s2 h=>step0_wh hk xs s s2 h
 | rs q=>exact fun s h s2 h2 hs=>step0_rs hk xs s s2 h h2 hs
 | ws q=>exact step0_ws hk xs
 | r0=>exact fun s s2 h h2 hs=>step0_r0 hk xs s s2 h h2 hs
 | r1 e=>exact fun s s2 h h2 hs=>step0_r1 hk xs s s2 h h2 hs
 | w1 e=>exact step0_w1 hk xs
 | w0=>exact step0_w0 hk xs
theorem Zkq {s:Ze} {q p:Nat} {x:Option (List Cell)} (h:q≠p):(Znz s q x).getD p none=s.getD p none:=by
 cases x with
 | none=>rfl
 | some cs=>show (s.set q (some cs)).getD p none=_;rw [Ya,Yz h,←Ya]
theorem Zq771 {s:Ze} {q p:Nat} {x y:Option (List Cell)} (h:q≠p):Znz (Znz s q x) p y=Znz (Znz s p y) q x:=by
 cases x<;>cases y<;>first | rfl | exact List.set_comm _ _ h
theorem Local.same {c:Cls} {g:Eff} (l:Local c g) {s s1:Ze} {h h1:Za} {v:TV} (e:g s h=some (v,s1,h1)) :
  (c=.pure∨c=.rh∨(∃q,c=.rs q)->s1=s/\h1=h)/\(c=.wh->s1=s)/\(∀q,c=.ws q->h1=h):=by
 cases c with
 | pure =>
  have a:=l s h s h
  rw [e] at a
  simp only [Ye,Yi.injEq,Prod.mk.injEq,true_and] at a
  exact ⟨fun _=>a,nofun,nofun⟩
 | rh =>
  have a:=l s s h
  rw [e] at a
  simp only [Ye,Yi.injEq,Prod.mk.injEq,true_and] at a
  exact ⟨fun _=>a,nofun,nofun⟩
 | wh =>
  have a:=l s s h
  rw [e] at a
  simp only [Ye,Yi.injEq,Prod.mk.injEq,true_and] at a
  exact ⟨fun h=>(by rcases h with h | h | ⟨_,h⟩<;>cases h),fun _=>a.1,nofun⟩
 | rs q =>
  have a:=l s h s h rfl
  rw [e] at a
  simp only [Ye,Yi.injEq,Prod.mk.injEq,true_and] at a
  exact ⟨fun _=>a,nofun,nofun⟩
 | ws q =>
  obtain ⟨F,hF⟩:=l
  have a:=hF s h
  rw [e] at a
  refine ⟨fun h=>(by rcases h with h | h | ⟨_,h⟩<;>cases h),nofun,fun _ _=>?_⟩
  cases hx:F (s.getD q none) with
  | none=>rw [hx] at a;cases a
  | some y =>
   rw [hx] at a
   simp only [Ye,Yi.injEq,Prod.mk.injEq] at a
   exact a.2.2
 | r0=>exact ⟨fun h=>(by rcases h with h | h | ⟨_,h⟩<;>cases h),nofun,nofun⟩
 | r1 e=>exact ⟨fun h=>(by rcases h with h | h | ⟨_,h⟩<;>cases h),nofun,nofun⟩
 | w1 e=>exact ⟨fun h=>(by rcases h with h | h | ⟨_,h⟩<;>cases h),nofun,nofun⟩
 | w0=>exact ⟨fun h=>(by rcases h with h | h | ⟨_,h⟩<;>cases h),nofun,nofun⟩
theorem Zq740 {c1 c2:Cls} (hc:Zmh c1 c2=true) {g1 g2:Eff} (l1:Local c1 g1) (l2:Local c2 g2) {s s1 s2:Ze} {h h1 h2:Za} {v1 v2:TV} (e1:g1 s h=some (v1,s1,h1)) (e2:g2 s1 h1=some (v2,s2,h2)) :
  ∃s' h',g2 s h=some (v2,s',h')/\g1 s' h'=some (v1,s2,h2):=by
 have m1:=l1.same e1
 have m2:=l2.same e2
 cases c1 with
 | pure =>
  obtain ⟨rfl,rfl⟩:=m1.1 (.inl rfl)
  exact ⟨s2,h2,e2,by rw [l1 s2 h2 s1 h1,e1];rfl⟩
 | rh =>
  obtain ⟨rfl,rfl⟩:=m1.1 (.inr (.inl rfl))
  refine ⟨s2,h2,e2,?_⟩
  have hh:h2=h1:=by
   cases c2 with
   | pure=>exact (m2.1 (.inl rfl)).2
   | rh=>exact (m2.1 (.inr (.inl rfl))).2
   | rs q=>exact (m2.1 (.inr (.inr ⟨q,rfl⟩))).2
   | ws q=>exact m2.2.2 q rfl
   | wh=>cases hc
   | r0=>cases hc
   | r1 e=>cases hc
   | w1 e=>cases hc
   | w0=>cases hc
  subst hh
  rw [l1 s2 s1 h2,e1];rfl
 | wh =>
  obtain rfl:=m1.2.1 rfl
  cases c2 with
  | pure =>
   obtain ⟨rfl,rfl⟩:=m2.1 (.inl rfl)
   exact ⟨s2,h,by rw [l2 s2 h s2 h2,e2];rfl,e1⟩
  | rh=>cases hc
  | wh=>cases hc
  | r0=>cases hc
  | r1 e=>cases hc
  | w1 e=>cases hc
  | w0=>cases hc
  | rs q =>
   obtain ⟨rfl,rfl⟩:=m2.1 (.inr (.inr ⟨q,rfl⟩))
   exact ⟨s2,h,by rw [l2 s2 h s2 h2 rfl,e2];rfl,e1⟩
  | ws q =>
   obtain ⟨F,hF⟩:=l2
   have b:=hF s1 h1
   rw [e2] at b
   cases hx:F (s1.getD q none) with
   | none=>rw [hx] at b;cases b
   | some p =>
    rw [hx] at b
    simp only [Ye,Yi.injEq,Prod.mk.injEq] at b
    obtain ⟨rfl,rfl,rfl⟩:=b
    refine ⟨Znz s1 q p.2,h,by rw [hF,hx];rfl,?_⟩
    rw [l1 _ s1 h,e1];rfl
 | rs q =>
  obtain ⟨rfl,rfl⟩:=m1.1 (.inr (.inr ⟨q,rfl⟩))
  refine ⟨s2,h2,e2,?_⟩
  have hs:s2.getD q none=s1.getD q none:=by
   cases c2 with
   | pure=>rw [(m2.1 (.inl rfl)).1]
   | rh=>rw [(m2.1 (.inr (.inl rfl))).1]
   | rs p=>rw [(m2.1 (.inr (.inr ⟨p,rfl⟩))).1]
   | wh=>rw [m2.2.1 rfl]
   | r0=>cases hc
   | r1 e=>cases hc
   | w1 e=>cases hc
   | w0=>cases hc
   | ws p =>
    have hqp:q≠p:=by simpa [Zmh] using hc
    obtain ⟨F,hF⟩:=l2
    have b:=hF s1 h1
    rw [e2] at b
    cases hx:F (s1.getD p none) with
    | none=>rw [hx] at b;cases b
    | some y =>
     rw [hx] at b
     simp only [Ye,Yi.injEq,Prod.mk.injEq] at b
     obtain ⟨_,rfl,_⟩:=b
     exact Zkq (Ne.symm hqp)
  rw [l1 s2 h2 s1 h1 hs,e1];rfl
 | ws q =>
  obtain rfl:=m1.2.2 q rfl
  obtain ⟨F1,hF1⟩:=l1
  have a:=hF1 s h1
  rw [e1] at a
  cases hx1:F1 (s.getD q none) with
  | none=>rw [hx1] at a;cases a
  | some y1 =>
  rw [hx1] at a
  simp only [Ye,Yi.injEq,Prod.mk.injEq,and_true] at a
  obtain ⟨rfl,rfl⟩:=a
  cases c2 with
  | pure =>
   obtain ⟨rfl,rfl⟩:=m2.1 (.inl rfl)
   exact ⟨s,h2,by rw [l2 s h2 _ h2,e2];rfl,e1⟩
  | rh =>
   obtain ⟨rfl,rfl⟩:=m2.1 (.inr (.inl rfl))
   exact ⟨s,h2,by rw [l2 s _ h2,e2];rfl,e1⟩
  | rs p =>
   have hqp:q≠p:=by simpa [Zmh] using hc
   obtain ⟨rfl,rfl⟩:=m2.1 (.inr (.inr ⟨p,rfl⟩))
   exact ⟨s,h2,by rw [l2 s h2 _ h2 (Zkq hqp).symm,e2];rfl,e1⟩
  | r0=>cases hc
  | r1 e=>cases hc
  | w1 e=>cases hc
  | w0=>cases hc
  | wh =>
   obtain rfl:=m2.2.1 rfl
   refine ⟨s,h2,by rw [l2 s _ h1,e2];rfl,?_⟩
   rw [hF1,hx1];rfl
  | ws p =>
   have hqp:q≠p:=by simpa [Zmh] using hc
   obtain rfl:=m2.2.2 p rfl
   obtain ⟨F2,hF2⟩:=l2
   have b:=hF2 (Znz s q y1.2) h2
   rw [e2,Zkq hqp] at b
   cases hx2:F2 (s.getD p none) with
   | none=>rw [hx2] at b;cases b
   | some y2 =>
    rw [hx2] at b
    simp only [Ye,Yi.injEq,Prod.mk.injEq,and_true] at b
    obtain ⟨rfl,rfl⟩:=b
    refine ⟨Znz s p y2.2,h2,by rw [hF2,hx2];rfl,?_⟩
    rw [hF1,Zkq (Ne.symm hqp),hx1]
    show some (_,Znz (Znz s p y2.2) q y1.2,h2)=_
    rw [Zq771 hqp]
 | r0=>cases hc
 | r1 e=>cases hc
 | w1 e=>cases hc
 | w0=>cases hc
theorem Local.old {c:Cls} {g:Eff} (l:Local c g):Local c.old g:=by
 cases c with
 | r0=>exact fun s s2 h=>l s s2 h h (Same0.refl h)
 | r1 e=>exact fun s s2 h=>l s s2 h h (Same1.refl e h)
 | w1 e=>exact l.1
 | w0=>exact l.1
 | pure=>exact l
 | rh=>exact l
 | wh=>exact l
 | rs q=>exact l
 | ws q=>exact l
theorem Zvq {g1 g2:Eff} (l1:Local .rh g1) (l2:Local .wh g2) (hg:∀s s2 h h2,g2 s h=some h2->g1 s h=(g1 s2 h2.2.2).map fun p=>(p.1,s,h)) {s s1 s2:Ze} {h h1 h2:Za} {v1 v2:TV} (e1:g1 s h=some (v1,s1,h1)) (e2:g2 s1 h1=some (v2,s2,h2)) :
  ∃s' h',g2 s h=some (v2,s',h')/\g1 s' h'=some (v1,s2,h2):=by
 obtain ⟨rfl,rfl⟩:=(l1.same e1).1 (.inr (.inl rfl))
 obtain rfl:=(l2.same e2).2.1 rfl
 refine ⟨s2,h2,e2,?_⟩
 have a:=hg s2 s2 h1 _ e2
 rw [e1] at a
 simp only at a
 cases hx:g1 s2 h2 with
 | none=>rw [hx] at a;cases a
 | some p =>
  obtain ⟨v,q,hh⟩:=p
  rw [hx] at a
  simp only [Ye,Yi.injEq,Prod.mk.injEq,and_true] at a
  obtain ⟨q1,q2⟩:=(l1.same hx).1 (.inr (.inl rfl))
  rw [a,q1,q2]
theorem Zwj {g1 g2:Eff} (l1:Local .wh g1) (l2:Local .rh g2) (hg:∀s s2 h h2,g1 s h=some h2->g2 s2 h=(g2 s h2.2.2).map fun p=>(p.1,s2,h)) {s s1 s2:Ze} {h h1 h2:Za} {v1 v2:TV} (e1:g1 s h=some (v1,s1,h1)) (e2:g2 s1 h1=some (v2,s2,h2)) :
  ∃s' h',g2 s h=some (v2,s',h')/\g1 s' h'=some (v1,s2,h2):=by
 obtain rfl:=(l1.same e1).2.1 rfl
 obtain ⟨rfl,rfl⟩:=(l2.same e2).1 (.inr (.inl rfl))
 have a:=hg s2 s2 h _ e1
 simp only at a
 rw [e2] at a
 exact ⟨s2,h,a,e1⟩
theorem eff_swap {c1 c2:Cls} (hc:compat c1 c2=true) {g1 g2:Eff} (l1:Local c1 g1) (l2:Local c2 g2) {s s1 s2:Ze} {h h1 h2:Za} {v1 v2:TV} (e1:g1 s h=some (v1,s1,h1)) (e2:g2 s1 h1=some (v2,s2,h2)) :
  ∃s' h',g2 s h=some (v2,s',h')/\g1 s' h'=some (v1,s2,h2):=by
 simp only [compat,Yr] at hc
 rcases hc with hc | hc
 ·exact Zq740 hc l1.old l2.old e1 e2
 ·cases c1<;>cases c2<;>first
   | exact Bool.noConfusion hc
   | exact Zvq l1.old l2.old (fun s s2 h p hp=>l1 s s2 h _ (l2.2 s h p hp).1) e1 e2
   | exact Zwj l1.old l2.old (fun s s2 h p hp=>l2 s2 s h _ (l1.2 s h p hp).1) e1 e2
   | exact Zvq l1.old l2.old (fun s s2 h p hp=>l1 s s2 h _ (l2.2 s h p hp)) e1 e2
   | exact Zwj l1.old l2.old (fun s s2 h p hp=>l2 s2 s h _ (l1.2 s h p hp)) e1 e2
   | (have he:=beq_iff_eq.1 hc;subst he;exact Zvq l1.old l2.old (fun s s2 h p hp=>l1 s s2 h _ (l2.2 s h p hp).2) e1 e2)
   | (have he:=beq_iff_eq.1 hc;subst he;exact Zwj l1.old l2.old (fun s s2 h p hp=>l2 s2 s h _ (l1.2 s h p hp).2) e1 e2)
end loc
def rdT (t:List TV):O->TV
 | .t i=>t.getD i .top
 | .k x=>.v x
def O.rd:O->List Nat
 | .t i=>[i]
 | .k _=>[]
def NK.rd:NK->List Nat
 | .op _ _ xs=>xs.flatMap O.rd
 | .al _ _ _=>[]
 | .box _ _ x=>x.rd
 | .pk _ g _ out _=>[g,out]
def Nd.rd (n:Nd):List Nat:=(match n.g with | none=>[] | some (g,_)=>[g])++n.k.rd
def NK.cls:NK->Cls
 | .op _ k _=>k.cls
 | .al _ s _=>.ws s
 | .box _ s _=>.ws s
 | .pk _ _ _ _ _=>.pure
def Zfd (C:Zk) (G:Glo) (t:List TV):NK->Eff
 | .op _ k xs,s,h=>Zat C G k (xs.map (rdT t)) s h
 | .al _ q z,s,h=>some (.loc q 0,s.set q (some z),h)
 | .box _ q x,s,h=>(match rdT t x with | .v y=>some (.loc q 0,s.set q (some y.cells),h) | _=>none)
 | .pk _ g w out c,s,h=>(match t.getD g .top with
  | .v (.c (.bool x))=>if x=w then (match t.getD out .top with | .v (.c (.bool y))=>some (.v (.c (.bool y)),s,h) | _=>none) else some (.v (.c (.bool c)),s,h)
  | _=>none)
def Zlc (C:Zk) (G:Glo) (t:List TV) (n:Nd):Eff:=fun s h =>
 match Zdl t n.g with
 | some true=>Zfd C G t n.k s h
 | some false=>some (.tup [],s,h)
 | none=>none
def Zeh (C:Zk) (G:Glo) (n:Nd) (st:St):Option St :=
 (Zlc C G st.t n st.s st.h).map fun p=>⟨setT st.t n.k.dst p.1,p.2.1,p.2.2⟩
section nodes
variable {C:Zk} {G:Glo}
theorem Local.const (c:Cls) (v:TV):Local c fun s h=>some (v,s,h):=by
 cases c with
 | ws q=>exact ⟨fun _=>some (v,none),fun _ _=>rfl⟩
 | pure=>exact fun _ _ _ _=>rfl
 | rh=>exact fun _ _ _=>rfl
 | wh=>exact fun _ _ _=>rfl
 | rs q=>exact fun _ _ _ _ _=>rfl
 | r0=>exact fun _ _ _ _ _=>rfl
 | r1 e=>exact fun _ _ _ _ _=>rfl
 | w1 e=>exact ⟨fun _ _ _=>rfl,fun s h p hp=>by cases hp;exact ⟨Same0.refl _,Same1.refl _ _⟩⟩
 | w0=>exact ⟨fun _ _ _=>rfl,fun s h p hp=>by cases hp;exact Same0.refl _⟩
theorem Local.none' (c:Cls):Local c fun _ _=>none:=by
 cases c with
 | ws q=>exact ⟨fun _=>none,fun _ _=>rfl⟩
 | pure=>exact fun _ _ _ _=>rfl
 | rh=>exact fun _ _ _=>rfl
 | wh=>exact fun _ _ _=>rfl
 | rs q=>exact fun _ _ _ _ _=>rfl
 | r0=>exact fun _ _ _ _ _=>rfl
 | r1 e=>exact fun _ _ _ _ _=>rfl
 | w1 e=>exact ⟨fun _ _ _=>rfl,fun s h p hp=>by cases hp⟩
 | w0=>exact ⟨fun _ _ _=>rfl,fun s h p hp=>by cases hp⟩
theorem Zyn (t:List TV) (n:NK):Local n.cls (Zfd C G t n):=by
 cases n with
 | op d k xs=>exact Zze k _
 | al d q z=>exact ⟨fun _=>some (.loc q 0,some z),fun _ _=>rfl⟩
 | box d q x =>
  simp only [NK.cls]
  cases hx:rdT t x with
  | v y=>exact ⟨fun _=>some (.loc q 0,some y.cells),fun s h=>by simp only [Zfd,hx];rfl⟩
  | _=>exact ⟨fun _=>none,fun s h=>by simp only [Zfd,hx];rfl⟩
 | pk d g w out c =>
  intro s h s2 h2
  simp only [Zfd]
  split
  ·split
   ·split<;>rfl
   ·rfl
  ·rfl
theorem Zow (t:List TV) (n:Nd):Local n.k.cls (Zlc C G t n):=by
 unfold Zlc
 cases hw:Zdl t n.g with
 | none=>exact Local.none' _
 | some b=>cases b with
  | false=>exact Local.const _ _
  | true=>exact Zyn t n.k
theorem Ztu {t t':List TV} {x:O} (h:∀i∈x.rd,t.getD i .top=t'.getD i .top):rdT t x=rdT t' x:=by
 cases x with
 | t i=>exact h i (by simp [O.rd])
 | k x=>rfl
theorem Zox {t t':List TV} {n:Nd} (h:∀i∈n.rd,t.getD i .top=t'.getD i .top):Zlc C G t n=Zlc C G t' n:=by
 obtain ⟨gd,k⟩:=n
 have hg:Zdl t gd=Zdl t' gd:=by
  cases gd with
  | none=>rfl
  | some p=>obtain ⟨g,w⟩:=p;simp only [Zdl];rw [h g (by simp [Nd.rd])]
 have hk:Zfd C G t k=Zfd C G t' k:=by
  cases k with
  | op d k xs =>
   have:xs.map (rdT t)=xs.map (rdT t'):=by
    refine Yat fun x hx=>Ztu fun i hi=>h i ?_
    simp only [Nd.rd,NK.rd,Yaa,List.mem_flatMap]
    exact .inr ⟨x,hx,hi⟩
   funext s h;simp only [Zfd,this]
  | al d q z=>rfl
  | box d q x =>
   have:rdT t x=rdT t' x:=Ztu fun i hi=>h i (by simp [Nd.rd,NK.rd,hi])
   funext s h;simp only [Zfd,this]
  | pk d g w out c =>
   have h1:=h g (by simp [Nd.rd,NK.rd])
   have h2:=h out (by simp [Nd.rd,NK.rd])
   funext s h;simp only [Zfd,h1,h2]
 funext s h
 simp only [Zlc,hg,hk]
def Zqy (a b:Nd):Bool :=
 (match a.k.dst with | none=>true | some d=>!b.rd.contains d&&b.k.dst != some d)&&(match b.k.dst with | none=>true | some d=>!a.rd.contains d)&&compat a.k.cls b.k.cls
theorem Zme {t:List TV} {d:Option Nat} {i:Nat} {v:TV} (h:d≠some i):(setT t d v).getD i .top=t.getD i .top:=by
 refine Zff ?_
 intro hi
 cases d with
 | none=>cases hi
 | some d=>simp at hi;subst hi;exact h rfl
theorem swapN {a b:Nd} (hab:Zqy a b=true) {st s1 s2:St} (e1:Zeh C G a st=some s1) (e2:Zeh C G b s1=some s2) :
  ∃s',Zeh C G b st=some s'/\Zeh C G a s'=some s2:=by
 simp only [Zqy,Yg] at hab
 obtain ⟨⟨ha,hb⟩,hc⟩:=hab
 unfold Zeh at e1 e2
 obtain ⟨⟨v1,q1,h1⟩,g1,e1⟩:=Yj.1 e1
 obtain ⟨⟨v2,q2,h2⟩,g2,e2⟩:=Yj.1 e2
 subst e1
 simp only at g2 e2
 have hra:∀i∈b.rd,(setT st.t a.k.dst v1).getD i .top=st.t.getD i .top:=by
  intro i hi
  refine Zme fun hd=>?_
  rw [hd] at ha
  simp at ha
  exact ha.1 hi
 have hrb:∀i∈a.rd,(setT st.t b.k.dst v2).getD i .top=st.t.getD i .top:=by
  intro i hi
  refine Zme fun hd=>?_
  rw [hd] at hb
  simp at hb
  exact hb hi
 rw [Zox hra] at g2
 obtain ⟨s',h',k1,k2⟩:=eff_swap hc (Zow st.t a) (Zow st.t b) g1 g2
 refine ⟨⟨setT st.t b.k.dst v2,s',h'⟩,by unfold Zeh;rw [k1];rfl,?_⟩
 unfold Zeh
 simp only
 rw [Zox hrb,k2]
 simp only [Ye]
 rw [←e2]
 congr 2
 cases hda:a.k.dst with
 | none=>rfl
 | some d =>
  cases hdb:b.k.dst with
  | none=>rfl
  | some d' =>
   rw [hda,hdb] at ha
   simp at ha
   exact (List.set_comm _ _ (fun h=>ha.2 h.symm)).symm
def NK.lays:NK->Option Nat
 | .al _ s _=>some s
 | .box _ s _=>some s
 | _=>none
def Clean (t:List TV) (ns:List Nd):Prop:=∀n∈ns,∀s,n.k.lays=some s->t.all (Zt s)=true
theorem Zpm {s:Nat} {t:List TV} (h:t.all (Zt s)=true):t.map (Zdu s)=t:=by
 conv=>rhs;rw [←List.map_id t]
 refine Yat fun x hx=>?_
 have:=Yd.1 h x hx
 simp [Zdu,this]
theorem all_setT {s:Nat} {t:List TV} {d:Option Nat} {v:TV} (h:t.all (Zt s)=true) (hv:Zt s v=true):(setT t d v).all (Zt s)=true:=by
 cases d with
 | none=>exact h
 | some d =>
  refine Yd.2 fun x hx=>?_
  rcases List.mem_or_eq_of_mem_set hx with h1 | h1
  ·exact Yd.1 h x h1
  ·rw [h1];exact hv
theorem Zq708 {t:List TV} {q:Nat} (h:t.all (Zt q)=true) (x:O):Zt q (rdT t x)=true:=by
 cases x with
 | k y=>rfl
 | t i =>
  show Zt q (t.getD i .top)=true
  rw [Ya]
  cases hi:t[i]? with
  | none=>rfl
  | some y=>exact Yd.1 h y (Yab hi)
def Zfh (q:Nat):TV->Ze->Za->Option (TV × Ze × Za):=fun v s h=>if Zt q v=true then some (v,s,h) else none
theorem Zve {q:Nat} {x:TV} {xs:List TV} (h:(x :: xs).all (Zt q)=true):Zt q x=true/\xs.all (Zt q)=true:=by
 simpa using h
theorem Zld {q:Nat} (rs:List RK) (o:Option (List AV × Za)) (s:Ze):Zci rs o (fun v h=>some (v,s,h))=Zci rs o (fun v h=>Zfh q v s h):=by
 unfold Zci;split<;>rfl
theorem Zjh {q:Nat} (rs:List RK) (o:Option (List AV × Za)) (s:Ze) (h:Za):Zci rs o (fun v _=>some (v,s,h))=Zci rs o (fun v _=>Zfh q v s h):=by
 unfold Zci;split<;>rfl
theorem Zyk {q:Nat} (k:K) {xs:List TV} (hx:xs.all (Zt q)=true) (s:Ze) (h:Za):stepK C G k xs s h (fun v s h=>some (v,s,h))=stepK C G k xs s h (Zfh q):=by
 have hk1:∀(f g:TV->Option (TV × Ze × Za)),(∀x,Zt q x=true->f x=g x)->k1 xs f=k1 xs g:=by
  intro f g hfg
  unfold k1
  split
  ·exact hfg _ (Zve hx).1
  ·rfl
 have hk2:∀(f g:TV->TV->Option (TV × Ze × Za)),(∀x y,Zt q x=true->Zt q y=true->f x y=g x y)->k2 xs f=k2 xs g:=by
  intro f g hfg
  unfold k2
  split
  ·exact hfg _ _ (Zve hx).1 (Zve (Zve hx).2).1
  ·rfl
 have haddr:∀(o:Nat) (x:TV),Zt q x=true->Zfc o x (fun x=>some (x,s,h))=Zfc o x (fun x=>Zfh q x s h):=by
  intro o x hq
  unfold Zfc
  split<;>first | rfl | (unfold Zfh;rw [if_pos hq]) | skip
  rename_i q' off
  have:Zt q (.loc q' (off+o))=true:=hq
  show some (_,s,h)=Zfh q _ s h
  unfold Zfh;rw [if_pos this]
 cases k
 case mov=>exact hk1 _ _ fun x hq=>by unfold Zfh;rw [if_pos hq]
 case pick =>
  simp only [stepK]
  split
  ·rename_i b x y
   have h1:=(Zve (Zve hx).2).1
   have h2:=(Zve (Zve (Zve hx).2).2).1
   have:Zt q (if b=true then x else y)=true:=by cases b<;>assumption
   unfold Zfh;rw [if_pos this]
  ·rfl
 case addr o=>exact hk1 _ _ fun x hq=>haddr o x hq
 case idxA len esz =>
  refine hk2 _ _ fun a x hq _=>?_
  unfold Zeq
  split
  ·dsimp only
   split
   ·exact haddr _ a hq
   ·rfl
  ·rfl
 case nilchk =>
  refine hk1 _ _ fun x hq=>?_
  unfold Zgi
  split
  ·rfl
  ·dsimp only;unfold Zfh;rw [if_pos hq]
  ·rfl
 case call g rs=>simp only [stepK,callK,Zld (q:=q)]
 case callv rs=>simp only [stepK,callK,Zld (q:=q)]
 case zcall g rs=>simp only [stepK,callK,Zld (q:=q)]
 case qcall g rs=>simp only [stepK,qcallK,Zjh (q:=q)]
 case qcallv rs=>simp only [stepK,qcallK,Zjh (q:=q)]
 case qcallb rs=>simp only [stepK,qcallK,Zjh (q:=q)]
 all_goals rfl
theorem Zvo {q:Nat} {k:K} {xs:List TV} {s s':Ze} {h h':Za} {v:TV} (hx:xs.all (Zt q)=true) (hs:Zat C G k xs s h=some (v,s',h')):Zt q v=true:=by
 have h1:=Zyk (C:=C) (G:=G) k hx s h
 rw [stepK_nat C G k xs s h (Zfh q)] at h1
 have h2:Zat C G k xs s h=(Zat C G k xs s h).bind fun p=>Zfh q p.1 p.2.1 p.2.2:=h1
 rw [hs] at h2
 simp only [Ym,Zfh] at h2
 split at h2
 ·assumption
 ·cases h2
theorem Zuq {q:Nat} {t:List TV} {n:Nd} {s s':Ze} {h h':Za} {v:TV} (ht:t.all (Zt q)=true) (hn:n.k.lays≠some q) (hs:Zlc C G t n s h=some (v,s',h')):Zt q v=true:=by
 unfold Zlc at hs
 split at hs
 ·cases hk:n.k with
  | op d k xs =>
   rw [hk] at hs
   refine Zvo (Yd.2 fun x hx=>?_) hs
   obtain ⟨y,_,rfl⟩:=Yam.1 hx
   exact Zq708 ht y
  | al d q' z =>
   rw [hk] at hs hn
   cases hs
   simp only [NK.lays] at hn
   simp only [Zt,bne_iff_ne,ne_eq]
   intro h;exact hn (by rw [h])
  | box d q' x =>
   rw [hk] at hs hn
   simp only [Zfd] at hs
   split at hs
   ·cases hs
    simp only [NK.lays] at hn
    simp only [Zt,bne_iff_ne,ne_eq]
    intro h;exact hn (by rw [h])
   ·cases hs
  | pk d g w out c =>
   rw [hk] at hs
   simp only [Zfd] at hs
   split at hs
   ·split at hs
    ·split at hs
     ·cases hs;rfl
     ·cases hs
    ·cases hs;rfl
   ·cases hs
 ·cases hs;rfl
 ·cases hs
theorem rdO_eq (st:St):rdO st=rdT st.t:=by funext x;cases x<;>rfl
theorem stepN_of {n:Nd} {st st':St} (hc:∀s,n.k.lays=some s->st.t.all (Zt s)=true) (hs:Zeh C G n st=some st'):stepN C G n st=some st':=by
 unfold Zeh at hs
 obtain ⟨⟨v,s',h'⟩,he,rfl⟩:=Yj.1 hs
 unfold Zlc at he
 unfold stepN
 split at he
 ·rename_i hw
  try rw [hw]
  try simp only
  cases hk:n.k with
  | op d k xs =>
   rw [hk] at he
   simp only [nodeK,rdO_eq]
   rw [stepK_nat]
   simp only [Zfd] at he
   rw [he];rfl
  | al d q z =>
   rw [hk] at he hc
   cases he
   simp only [nodeK,Zpm (hc q rfl)];rfl
  | box d q x =>
   rw [hk] at he hc
   simp only [Zfd] at he
   simp only [nodeK,rdO_eq,Zpm (hc q rfl)]
   split at he
   ·rename_i y hy;cases he;rw [hy];rfl
   ·cases he
  | pk d g w out c =>
   rw [hk] at he
   simp only [Zfd] at he
   simp only [nodeK]
   split at he
   ·rename_i x hx
    rw [hx];simp only
    split at he
    ·rename_i hxw
     rw [if_pos hxw]
     split at he
     ·rename_i y hy;cases he;rw [hy];rfl
     ·cases he
    ·rename_i hxw;rw [if_neg hxw];cases he;rfl
   ·cases he
 ·rename_i hw;try rw [hw]
  cases he;rfl
 ·cases he
theorem stepN_to {n:Nd} {st st':St} (hc:∀s,n.k.lays=some s->st.t.all (Zt s)=true) (hs:stepN C G n st=some st'):Zeh C G n st=some st':=by
 unfold stepN at hs
 unfold Zeh Zlc
 split at hs
 ·rename_i hw
  try rw [hw]
  try simp only
  cases hk:n.k with
  | op d k xs =>
   rw [hk] at hs
   simp only [nodeK,rdO_eq] at hs
   rw [stepK_nat] at hs
   obtain ⟨p,hp,hs⟩:=bind_some hs
   simp only [Zfd,hp]
   rw [←hs];rfl
  | al d q z =>
   rw [hk] at hs hc
   simp only [nodeK,Zpm (hc q rfl)] at hs
   cases hs;rfl
  | box d q x =>
   rw [hk] at hs hc
   simp only [nodeK,rdO_eq,Zpm (hc q rfl)] at hs
   simp only [Zfd]
   split at hs
   ·rename_i y hy;cases hs;rw [hy];rfl
   ·cases hs
  | pk d g w out c =>
   rw [hk] at hs
   simp only [nodeK] at hs
   simp only [Zfd]
   split at hs
   ·rename_i x hx
    rw [hx];simp only
    split at hs
    ·rename_i hxw
     rw [if_pos hxw]
     split at hs
     ·rename_i y hy;cases hs;rw [hy];rfl
     ·cases hs
    ·rename_i hxw;rw [if_neg hxw];cases hs;rfl
   ·cases hs
 ·rename_i hw;try rw [hw]
  cases hs;rfl
 ·cases hs
theorem Zsk {n:Nd} {ms:List Nd} {st st':St} (hc:Clean st.t ms) (hd:∀m∈ms,∀s,m.k.lays=some s->n.k.lays≠some s) (hs:Zeh C G n st=some st'):Clean st'.t ms:=by
 unfold Zeh at hs
 obtain ⟨⟨v,s',h'⟩,he,rfl⟩:=Yj.1 hs
 intro m hm s hl
 exact all_setT (hc m hm s hl) (Zuq (hc m hm s hl) (hd m hm s hl) he)
def runI (C:Zk) (G:Glo) (ns:List Nd):List Nat->St->Option St
 | [],st=>some st
 | i :: is,st=>(match ns[i]? with | some n=>Zeh C G n st | none=>none).bind (runI C G ns is)
theorem Zql {ns:List Nd} {i:Nat} {n:Nd} (hi:ns[i]? = some n):∀(pre post:List Nat) (st st':St),(∀j∈pre,∀m,ns[j]? = some m->Zqy m n=true)->runI C G ns (pre++i :: post) st=some st' ->
  ∃s1,Zeh C G n st=some s1/\runI C G ns (pre++post) s1=some st'
 | [],post,st,st',_,hr=>by
  simp only [Ybd,runI,hi] at hr
  exact bind_some hr
 | j :: pre,post,st,st',ha,hr=>by
  simp only [Yaz,runI] at hr
  obtain ⟨s1,h1,hr⟩:=bind_some hr
  obtain ⟨s2,h2,hr⟩:=Zql hi pre post s1 st' (fun k hk=>ha k (by simp [hk])) hr
  cases hj:ns[j]? with
  | none=>rw [hj] at h1;cases h1
  | some m =>
   rw [hj] at h1
   obtain ⟨s',k1,k2⟩:=swapN (ha j (by simp) m hj) h1 h2
   refine ⟨s',k1,?_⟩
   simp only [Yaz,runI,hj]
   rw [k2];exact hr
end nodes
def Zma (done:List Nat) (o:Oper):Nat :=
 o.after.toList.foldl (fun acc e=>if Region.binds .any e then acc ||| (1 <<< e.on) ||| done.getD e.on 0 else acc) 0
def Ziy:List Oper->List Nat->List Nat
 | [],done=>done
 | o :: os,done=>Ziy os (done++[Zma done o])
def Zkr (pre:List Nd):List Nd->List Nat->Bool
 | [],[]=>true
 | n :: ns,a :: as=>(Yh pre.length).all (fun j=>a.testBit j||(match pre[j]? with | some m=>Zqy m n | none=>false))&&Zkr (pre++[n]) ns as
 | _,_=>false
def Zok:List Nd->Bool
 | []=>true
 | n :: ns=>(match n.k.lays with | none=>true | some s=>ns.all fun m=>m.k.lays != some s)&&Zok ns
def backOk (ops:Array Oper):Bool :=
 (Yh ops.size).all fun i=>match ops[i]? with | some o=>o.after.all (fun e=>!Region.binds .any e||decide (e.on<i)) | none=>true
theorem getD_append_one {l:List Nat} {a d:Nat} {i:Nat}:(l++[a]).getD i d=if i<l.length then l.getD i d else if i=l.length then a else d:=by
 rw [Ya,List.getElem?_append]
 split
 ·rw [←Ya]
 ·rename_i h
  by_cases hi:i=l.length
  ·subst hi;simp
  ·rw [if_neg hi,Yb (by simp;omega)];rfl
def drC (ops:Array Oper) (r:RL):Bool :=
 backOk ops&&Zok (r.flat none)&&Zkr [] (r.flat none) (Ziy ops.toList [])
theorem Zsi {done:List Nat} {j:Nat}:∀(l:List Edge) (acc:Nat),(l.foldl (fun acc e=>if Region.binds .any e then acc ||| (1 <<< e.on) ||| done.getD e.on 0 else acc) acc).testBit j=true ->
  acc.testBit j=true∨∃e∈l,Region.binds .any e=true/\(j=e.on∨(done.getD e.on 0).testBit j=true)
 | [],acc,h=>.inl h
 | e :: l,acc,h=>by
  rw [List.foldl_cons] at h
  rcases Zsi l _ h with h | ⟨e',he,hb,h⟩
  ·split at h
   ·rename_i hb
    rw [Nat.testBit_or,Nat.testBit_or,Yr,Yr,Nat.shiftLeft_eq,Nat.one_mul,Nat.testBit_two_pow] at h
    rcases h with (h | h) | h
    ·exact .inl h
    ·exact .inr ⟨e,by simp,hb,.inl (by simpa using h:e.on=j).symm⟩
    ·exact .inr ⟨e,by simp,hb,.inr h⟩
   ·exact .inl h
  ·exact .inr ⟨e',by simp [he],hb,h⟩
theorem Zzo {done:List Nat} {o:Oper} {j:Nat} (h:(Zma done o).testBit j=true):∃e∈o.after,Region.binds .any e=true/\(j=e.on∨(done.getD e.on 0).testBit j=true):=by
 rcases Zsi _ _ h with h | ⟨e,he,h⟩
 ·simp at h
 ·exact ⟨e,by simpa using he,h⟩
theorem Zlq:∀(os:List Oper) (done:List Nat) (i:Nat),i<done.length->(Ziy os done).getD i 0=done.getD i 0
 | [],_,_,_=>rfl
 | o :: os,done,i,h=>by
  rw [Ziy,Zlq os _ i (by simp;omega),getD_append_one,if_pos h]
theorem Zzu:∀(os:List Oper) (done:List Nat) (k:Nat) (o:Oper),os[k]? = some o->∃d:List Nat,(Ziy os done).getD (done.length+k) 0=Zma d o/\d.length=done.length+k/\∀i,i<d.length->d.getD i 0=(Ziy os done).getD i 0:=by
 intro os
 induction os with
 | nil=>intro done k o h;simp at h
 | cons o os ih =>
  intro done k o' h
  rw [Ziy]
  cases k with
  | zero =>
   rw [List.getElem?_cons_zero] at h
   have h:=Yi.inj h
   subst h
   refine ⟨done,?_,rfl,fun i hi=>?_⟩
   ·rw [Zlq os _ _ (by simp),getD_append_one,if_neg (by omega),if_pos (by omega)]
   ·rw [Zlq os _ i (by simp;omega),getD_append_one,if_pos hi]
  | succ k =>
   rw [List.getElem?_cons_succ] at h
   obtain ⟨d,h1,h2,h3⟩:=ih (done++[Zma done o]) k o' h
   have hl:(done++[Zma done o]).length+k=done.length+(k+1):=by simp;omega
   rw [hl] at h1 h2
   exact ⟨d,h1,h2,h3⟩
theorem Zov:∀(ns:List Nd) (pre:List Nd) (as:List Nat),Zkr pre ns as=true->∀(i j:Nat) (n m:Nd),ns[i]? = some n->j<pre.length+i->(pre++ns)[j]? = some m->(as.getD i 0).testBit j=true∨Zqy m n=true
 | [],_,_,_,_,_,_,_,h,_,_=>by simp at h
 | n0 :: ns,pre,[],h,_,_,_,_,_,_,_=>by simp [Zkr] at h
 | n0 :: ns,pre,a :: as,h,i,j,n,m,hi,hj,hm=>by
  simp only [Zkr,Yg] at h
  obtain ⟨h1,h2⟩:=h
  cases i with
  | zero =>
   simp at hi;subst hi
   have hj':j<pre.length:=by omega
   have:=Yd.1 h1 j (by simpa using hj')
   rw [Yc hj'] at hm
   rw [hm] at this
   simpa using this
  | succ i =>
   have:=Zov ns (pre++[n0]) as h2 i j n m (by simpa using hi) (by simp;omega) (by rw [Yu];exact hm)
   simpa using this
theorem Ziu:∀(ns:List Nd),Zok ns=true->∀(i j:Nat) (n m:Nd) (s:Nat),i<j->ns[i]? = some n->ns[j]? = some m->n.k.lays=some s->m.k.lays≠some s
 | [],_,_,_,_,_,_,_,h,_,_=>by simp at h
 | n0 :: ns,h,i,j,n,m,s,hij,hi,hj,hl=>by
  simp only [Zok,Yg] at h
  cases j with
  | zero=>omega
  | succ j =>
   simp at hj
   cases i with
   | zero =>
    simp at hi;subst hi
    rw [hl] at h
    have:=Yd.1 h.1 m (Yab hj)
    simpa using this
   | succ i=>exact Ziu ns h.2 i j n m s (by omega) (by simpa using hi) hj hl
def Zgo (ops:Array Oper) (listed:Array Bool):List Nat:=(Yh ops.size).filter fun i=>!listed.getD i true
theorem Zq769 {ops:Array Oper} {listed:Array Bool} {i:Nat} (hs:listed.size=ops.size) (hi:i<ops.size) (hu:listed.getD i true=false) :
  Zgo ops listed=(Zgo ops listed).filter (·<i)++i :: (Zgo ops listed).filter (i<·)/\Zgo ops (listed.setIfInBounds i true)=(Zgo ops listed).filter (·<i)++(Zgo ops listed).filter (i<·):=by
 have hr:Yh ops.size=Yh i++i :: Yq (i+1) (ops.size - (i+1)):=by
  rw [Yac,Yac]
  have:ops.size=i+(1+(ops.size - (i+1))):=by omega
  conv=>lhs;rw [this]
  rw [List.range'_append_1.symm,Nat.zero_add,Nat.add_comm 1,Yba]
 have lo:∀p:Nat->Bool,((Yh i).filter p).filter (·<i)=(Yh i).filter p/\((Yh i).filter p).filter (i<·)=[]:=by
  intro p
  refine ⟨Yae.2 fun x hx=>?_,Yar.2 fun x hx=>?_⟩
  ·have:=(Yf.1 hx).1;simpa using this
  ·have:=(Yf.1 hx).1;simp at this ⊢;omega
 have hi2:∀p:Nat->Bool,((Yq (i+1) (ops.size - (i+1))).filter p).filter (·<i)=[]/\((Yq (i+1) (ops.size - (i+1))).filter p).filter (i<·)=(Yq (i+1) (ops.size - (i+1))).filter p:=by
  intro p
  refine ⟨Yar.2 fun x hx=>?_,Yae.2 fun x hx=>?_⟩
  ·have:=(Yf.1 hx).1;rw [Yak] at this;simp;omega
  ·have:=(Yf.1 hx).1;rw [Yak] at this;simp;omega
 have hrem:∀l:Array Bool,Zgo ops l=(Yh i).filter (fun k=>!l.getD k true)++(if l.getD i true then [] else [i])++(Yq (i+1) (ops.size - (i+1))).filter fun k=>!l.getD k true:=by
  intro l
  unfold Zgo
  rw [hr,Yag,List.filter_cons,Yu]
  congr 1
  cases l.getD i true<;>simp
 have h1:=hrem listed
 rw [hu] at h1
 simp only [Yav,if_false] at h1
 have e1:(Zgo ops listed).filter (·<i)=(Yh i).filter (fun k=>!listed.getD k true):=by
  rw [h1];simp only [Yag];rw [(lo _).1,(hi2 _).1];simp
 have e2:(Zgo ops listed).filter (i<·)=(Yq (i+1) (ops.size - (i+1))).filter (fun k=>!listed.getD k true):=by
  rw [h1];simp only [Yag];rw [(lo _).2,(hi2 _).2];simp
 refine ⟨by rw [e1,e2,h1];simp,?_⟩
 rw [e1,e2,hrem]
 have hs2:(listed.setIfInBounds i true).getD i true=true:=by
  simp [Array.getElem?_setIfInBounds,hs,hi]
 rw [hs2,if_pos rfl,List.append_nil]
 congr 1
 ·refine Yax fun x hx=>?_
  rw [getD_set_ne true (by simp at hx;omega)]
 ·refine Yax fun x hx=>?_
  rw [Yak] at hx
  rw [getD_set_ne true (by omega)]
def Down (ops:Array Oper) (listed:Array Bool):Prop:=∀i o,listed.getD i false=true->ops[i]? = some o->∀e∈o.after,Region.binds .any e=true->listed.getD e.on false=true
theorem Zux {ops:Array Oper} {listed:Array Bool} (hd:Down ops listed):∀(i:Nat) (o:Oper),ops[i]? = some o->(∀e∈o.after,Region.binds .any e=true->listed.getD e.on false=true) ->
  ∀j,((Ziy ops.toList []).getD i 0).testBit j=true->listed.getD j false=true:=by
 intro i
 induction i using Yaq with
 | ind i ih =>
  intro o ho hall j hj
  obtain ⟨d,h1,h2,h3⟩:=Zzu ops.toList [] i o (by simpa using ho)
  simp only [List.length_nil,Nat.zero_add] at h1 h2
  rw [h1] at hj
  obtain ⟨e,he,hb,hj⟩:=Zzo hj
  have hl:=hall e he hb
  rcases hj with rfl | hj
  ·exact hl
  ·have hlt:e.on<i:=by
    rcases Yy e.on d.length with h | h
    ·omega
    ·rw [Ya,Yb h] at hj;simp at hj
   rw [h3 _ (by omega)] at hj
   have hlt2:e.on<ops.size:=by have:=(Yl.1 ho).1;omega
   exact ih e.on hlt ops[e.on] (by simp [hlt2]) (hd e.on _ hl (by simp [hlt2])) j hj
section draw
variable {S:Seat} {B:Nat} {w:World} {ρ:Rho} {σ:Nat->Nat}
theorem draw_go {C:Zk} (sc:Zck S C) {ops:Array Oper} {ns:List Nd} (hm:mNs S ops ns ops.toList=true) (hb:backOk ops=true) (hl:Zok ns=true) (hp:Zkr [] ns (Ziy ops.toList [])=true) {Q:Exit->Act->World->Prop} (st':St) :
  ∀(fuel:Nat) (listed:Array Bool) (st:St) (a:Act) (w:World) (ρ:Rho) (σ:Nat->Nat),listed.size=ops.size->Down ops listed->(Zgo ops listed).length<=fuel->runI C (Glo.std S.tab) ns (Zgo ops listed) st=some st' ->
   (∀i n,i∈Zgo ops listed->ns[i]? = some n->∀s,n.k.lays=some s->st.t.all (Zt s)=true)->SI S B st a w ρ σ ->
   (∀a' w' ρ' σ',SI S B st' a' w' ρ' σ'->Adv B st.h w ρ st'.h w' ρ'->Q .normal a' w')->wpAny S.P .any ops Q fuel listed a w:=by
 intro fuel
 have hnil:∀(listed:Array Bool),listed.size=ops.size->Region.ready .any ops listed=[]->Zgo ops listed=[]:=by
  intro listed hs hr
  cases hx:Zgo ops listed with
  | nil=>rfl
  | cons x xs =>
   exfalso
   have key:∀i,i<ops.size->listed.getD i true=true:=by
    intro i
    induction i using Yaq with
    | ind i ih =>
     intro hi
     cases hu:listed.getD i true with
     | true=>rfl
     | false =>
      exfalso
      have:i∈Region.ready .any ops listed:=by
       refine mem_ready.2 ⟨hu,ops[i],by simp [hi],fun e he hbd=>?_⟩
       have h1:=Yd.1 hb i (by simpa using hi)
       rw [show ops[i]? = some ops[i] by simp [hi]] at h1
       have h2:=Array.all_eq_true_iff_forall_mem.1 h1 e he
       simp only [hbd,Bool.not_true,Bool.false_or,decide_eq_true_eq] at h2
       have h3:=ih e.on h2 (by omega)
       have h4:e.on<listed.size:=by omega
       simp [h4] at h3 ⊢;exact h3
      rw [hr] at this;cases this
   have hxm:x∈Zgo ops listed:=by rw [hx];simp
   unfold Zgo at hxm
   rw [Yf,Yas] at hxm
   rw [key x hxm.1] at hxm
   simp at hxm
 induction fuel with
 | zero =>
  intro listed st a w ρ σ hs hd hlen hr hc si hQ
  have h0:Zgo ops listed=[]:=Yao.1 (by omega)
  rw [h0] at hr
  cases hr
  refine ⟨?_,hQ a w ρ σ si Adv.refl⟩
  rw [List.eq_nil_iff_forall_not_mem]
  intro i hi
  obtain ⟨hu,o,ho,_⟩:=mem_ready.1 hi
  have:i∈Zgo ops listed:=Yf.2 ⟨by simpa using (Yl.1 ho).1,by rw [hu];rfl⟩
  rw [h0] at this;cases this
 | succ fuel ih =>
  intro listed st a w ρ σ hs hd hlen hr hc si hQ
  refine ⟨fun h=>?_,fun i hi=>?_⟩
  ·rw [hnil listed hs h] at hr
   cases hr
   exact hQ a w ρ σ si Adv.refl
  ·obtain ⟨hu,o,ho,hall⟩:=mem_ready.1 hi
   have hlt:i<ops.size:=(Yl.1 ho).1
   obtain ⟨r1,r2⟩:=Zq769 hs hlt hu
   have hlenNs:ns.length=ops.size:=by rw [Zqd hm];simp
   obtain ⟨n,hn⟩:∃n,ns[i]? = some n:=⟨ns[i],by simp [hlenNs,hlt]⟩
   obtain ⟨o',ho',hmo⟩:=Zvs hm hn
   have:o'=o:=by rw [Array.getElem?_toList,ho] at ho';exact (Yi.inj ho').symm
   subst this
   have hmem:i∈Zgo ops listed:=Yf.2 ⟨by simpa using hlt,by rw [hu];rfl⟩
   rw [r1] at hr
   obtain ⟨s1,h1,hr⟩:=Zql hn _ _ st st' (fun j hj m hjm=>by
    obtain ⟨hjr,hji⟩:=Yf.1 hj
    simp only [decide_eq_true_eq] at hji
    rcases Zov ns [] _ hp i j n m hn (by simpa using hji) (by simpa using hjm) with h | h
    ·exfalso
     have h5:=Zux hd i o' ho hall j h
     obtain ⟨hj1,hj2⟩:=Yf.1 hjr
     have hj3:j<listed.size:=by rw [hs];simpa using hj1
     simp [hj3] at h5 hj2
     rw [h5] at hj2;cases hj2
    ·exact h) hr
   rw [←r2] at hr
   have hrun:stepN C (Glo.std S.tab) n st=some s1:=stepN_of (fun s hsl=>hc i n hmem hn s hsl) h1
   have hlen2:(Zgo ops (listed.setIfInBounds i true)).length<=fuel:=by
    rw [r1] at hlen
    rw [r2]
    simp only [Yah,Ybb] at hlen ⊢
    omega
   refine Zqm sc ho hmo si hrun fun a1 w1 ρ1 σ1 si1 ad1=>?_
   refine ih (listed.setIfInBounds i true) s1 a1 w1 ρ1 σ1 (by simpa using hs) ?_ hlen2 hr ?_ si1 fun a' w' ρ' σ' si' ad'=>hQ a' w' ρ' σ' si' (ad1.trans ad')
   ·intro k ok hk hok e he hbd
    by_cases hki:k=i
    ·subst hki
     rw [ho] at hok;cases hok
     exact getD_set_true (hall e he hbd)
    ·rw [getD_set_ne false (Ne.symm hki)] at hk
     exact getD_set_true (hd k ok hk hok e he hbd)
   ·intro k m hk hkm s hsl
    have hk2:k∈Zgo ops listed/\k≠i:=by
     rw [r2,Yaa] at hk
     rcases hk with hk | hk
     ·obtain ⟨q1,q2⟩:=Yf.1 hk;simp at q2;exact ⟨q1,by omega⟩
     ·obtain ⟨q1,q2⟩:=Yf.1 hk;simp at q2;exact ⟨q1,by omega⟩
    have hcl:Clean st.t [m]:=by
     intro m' hm' s' hs'
     simp at hm';subst hm'
     exact hc k m' hk2.1 hkm s' hs'
    refine Zsk (n:=n) hcl ?_ h1 m (by simp) s hsl
    intro m' hm' s' hs' heq
    simp at hm';subst hm'
    rcases Nat.lt_or_gt_of_ne hk2.2 with h | h
    ·exact Ziu ns hl k i m' n s' h hkm hn hs' heq
    ·exact Ziu ns hl i k n m' s' h hn hkm heq hs'
theorem Znb {C:Zk} {G:Glo}:∀(ns:List Nd) (pre:List Nd) (st st':St),Zok (pre++ns)=true->runF C G ns st=some st' ->
  (∀n∈ns,∀s,n.k.lays=some s->st.t.all (Zt s)=true)->runI C G (pre++ns) (Yq pre.length ns.length) st=some st'
 | [],pre,st,st',_,h,_=>h
 | n :: ns,pre,st,st',hl,h,hc=>by
  simp only [runF] at h
  obtain ⟨s1,h1,h⟩:=bind_some h
  have h1':=stepN_to (fun s hs=>hc n (by simp) s hs) h1
  have hg:(pre++n :: ns)[pre.length]? = some n:=by simp
  rw [Ybb,Yba]
  simp only [runI,hg]
  rw [h1',Ym]
  have:=Znb ns (pre++[n]) s1 st' (by rw [Yu];exact hl) h (fun m hm s hs=>by
   have hcl:Clean st.t [m]:=by
    intro m' hm' s' hs'
    simp at hm';subst hm'
    exact hc m' (by simp [hm]) s' hs'
   refine Zsk (n:=n) hcl ?_ h1' m (by simp) s hs
   intro m' hm' s' hs' heq
   simp at hm';subst hm'
   obtain ⟨i,hi⟩:=Yad hm
   exact Ziu _ hl pre.length (pre.length+(i+1)) n m' s' (by omega) hg (by rw [Yp (by omega)];simpa using hi) heq hs')
  rw [Yu] at this
  simpa using this
def drK (S:Seat) (mix:Bool) (ops:Array Oper) (r:RL):Bool :=
 (mix||!Region.departs ops)&&drC ops r&&mNs S ops (r.flat none) ops.toList
theorem Zgt:∀(r:RL) (g:Option (Nat × Bool)) (n:Nd) (s:Nat),n∈r.flat g->n.k.lays=some s->s∈r.slots
 | .nil,_,_,_,h,_=>by simp [RL.flat] at h
 | .op d k xs r,g,n,s,h,hs=>by
  simp only [RL.flat,Yn] at h
  rcases h with rfl | h
  ·cases hs
  ·exact Zgt r g n s h hs
 | .al d s0 z r,g,n,s,h,hs=>by
  simp only [RL.flat,Yn] at h
  rcases h with rfl | h
  ·cases hs;simp [RL.slots]
  ·simp only [RL.slots,Yn];exact .inr (Zgt r g n s h hs)
 | .box d s0 x r,g,n,s,h,hs=>by
  simp only [RL.flat,Yn] at h
  rcases h with rfl | h
  ·cases hs;simp [RL.slots]
  ·simp only [RL.slots,Yn];exact .inr (Zgt r g n s h hs)
 | .sc g0 w b out d c r,g,n,s,h,hs=>by
  simp only [RL.flat,Yaa,Yn] at h
  simp only [RL.slots,Yaa]
  rcases h with h | rfl | h
  ·exact .inl (Zgt b _ n s h hs)
  ·cases hs
  ·exact .inr (Zgt r g n s h hs)
theorem Zq732 {mix:Bool} {n:Nat} (hmix:mix=true->S.P.follows .mixedOrders=true) {ops:Array Oper} {r:RL} (hd:drK S mix ops r=true):DrawOk S n ops r:=by
 simp only [drK,drC,Yg] at hd
 obtain ⟨⟨hmx,⟨hb,hl⟩,hp⟩,hm⟩:=hd
 intro C sc B st st' a w ρ σ id Q hr hdo hlen si hQ
 have hcl:∀n∈r.flat none,∀s,n.k.lays=some s->st.t.all (Zt s)=true:=by
  intro n hn s hs
  have:=Zgt r none n s hn hs
  simp only [Zgf,Bool.not_true,Bool.false_or] at hdo
  exact Yd.1 hdo s this
 refine wp_region_draw fun t=>?_
 have hsch:Region.schedule (S.P.follows .mixedOrders) ops t=Region.linearise .any ops t:=by
  unfold Region.schedule
  rw [if_pos]
  simp only [Yr] at hmx ⊢
  exact hmx.imp hmix fun h=>h
 rw [hsch]
 refine wpAny_sound ops.size t _ a _ ?_
 have hh:∀x,x<w.heap.size->({ w with drawn:=w.drawn+1 }:World).heap[x]? = w.heap[x]?:=fun _ _=>rfl
 have hstep:Step st.h w ρ st.h { w with drawn:=w.drawn+1 } ρ:=Step.same hh (Yw _) rfl rfl rfl
 obtain ⟨f',t'⟩:=si.fi.step (si.fi.hi.same hh) hstep
 have si':SI S B st a { w with drawn:=w.drawn+1 } ρ σ:=⟨f',⟨si.tr.1,TR.mono si.tr t' (fun _ _ _ _=>rfl)⟩,si.hB,si.hd⟩
 have hall:Zgo ops (Ybe ops.size false)=Yh ops.size:=by
  unfold Zgo
  refine Yae.2 fun i hi=>?_
  simp at hi;simp [hi]
 have hlenNs:(r.flat none).length=ops.size:=by rw [Zqd hm];simp
 refine draw_go sc hm hb hl hp st' ops.size _ st a _ ρ σ (by simp) ?_ (by rw [hall];simp) ?_ (fun i n _ hn s hs=>hcl n (Yab hn) s hs) si' fun a' w' ρ' σ' si2 ad2=>hQ a' w' ρ' σ' si2 ((Adv.of_step hstep).trans ad2)
 ·intro i o hi
  simp at hi
  cases hx:(Ybe ops.size false)[i]? with
  | none=>rw [hx] at hi;cases hi
  | some b =>
   rw [hx] at hi
   rw [Array.getElem?_replicate] at hx
   split at hx
   ·cases hx;cases hi
   ·cases hx
 ·have:=Znb (r.flat none) [] st st' hl hr hcl
  rw [hall,Yac,←hlenNs]
  exact this
end draw
section
open Go Go.RowKit
inductive Sh where
 | i (k:IntKind)
 | b
 | s
 | sl (e:Sh)
 | agg (p:Sh)
 | nil
 | cons (a r:Sh)
def Sh.size:Sh->Nat
 | .i _=>1
 | .b=>1
 | .s=>1
 | .sl _=>1
 | .agg p=>p.size
 | .nil=>0
 | .cons a r=>a.size+r.size
def Sh.rep (a:Sh):Nat->Sh
 | 0=>.nil
 | n+1=>.cons a (a.rep n)
def partsT (P:Program) (t:TypeId):Option (List (Nat × TypeId)) :=
 match P.underlying t with
 | some (.struct fs)=>some (fs.toList.map fun f=>(f.offset,f.type))
 | some (.array n e)=>some ((Yh n).map fun i=>(i*P.cellsOf e,e))
 | _=>none
def Sh.chk2 (P:Program):Sh->(TypeId->Bool) × (List (Nat × TypeId)->Nat->Bool)
 | .i k=>(fun t=>match P.underlying t with | some (.int k')=>decide (k'=k) | _=>false,fun _ _=>false)
 | .b=>(fun t=>match P.underlying t with | some .bool=>true | _=>false,fun _ _=>false)
 | .s=>(fun t=>match P.underlying t with | some .string=>true | _=>false,fun _ _=>false)
 | .sl e=>(fun t=>match P.underlying t with | some (.slice te)=>P.cellsOf te==e.size&&e.size != 0&&(e.chk2 P).1 te | _=>false,fun _ _=>false)
 | .agg p=>(fun t=>match partsT P t with | some l=>(p.chk2 P).2 l 0&&P.cellsOf t==p.size | none=>false,fun _ _=>false)
 | .nil=>(fun _=>false,fun l _=>l.isEmpty)
 | .cons a r=>(fun _=>false,fun l at_=>match l with | (o,t) :: l=>o==at_&&P.cellsOf t==a.size&&(a.chk2 P).1 t&&(r.chk2 P).2 l (at_+a.size) | []=>false)
def Sh.chk (P:Program) (sh:Sh) (t:TypeId):Bool:=(sh.chk2 P).1 t
def inK (k:IntKind) (n:Int):Prop:=k.min<=n/\n<=k.max
def okL (p:List Cell->Prop):Nat->List Cell->Prop
 | 0,cs=>cs=[]
 | n+1,cs=>∃x y,cs=x++y/\p x/\okL p n y
def okC (h:Za):Sh->List Cell->Prop
 | .i k,cs=>∃n,cs=[.int k n]/\inK k n
 | .b,cs=>∃b,cs=[.bool b]
 | .s,cs=>∃s:ByteArray,cs=[.str s]/\s.size<=maxLen
 | .sl e,cs=>cs=[.nils]∨∃k len xs,cs=[.sl k (len*e.size) 0 len]/\okL (okC h e) len xs/\k<h.length/\len<=maxLen/\((len=0/\blk? h k=none)∨blk? h k=some ⟨false,0,xs⟩)
 | .agg p,cs=>okC h p cs
 | .nil,cs=>cs=[]
 | .cons a r,cs=>∃x y,cs=x++y/\okC h a x/\okC h r y
theorem Zvp {p:List Cell->Prop} {m:Nat} (hp:∀cs,p cs->cs.length=m):∀(n:Nat) (cs:List Cell),okL p n cs->cs.length=n*m
 | 0,_,h=>by rw [show _=[] from h];simp
 | n+1,cs,⟨x,y,h,hx,hy⟩=>by rw [h,Yah,hp x hx,Zvp hp n y hy,Yan,Nat.add_comm]
theorem Zni {h:Za}:∀(sh:Sh) (cs:List Cell),okC h sh cs->cs.length=sh.size
 | .i _,_,⟨_,h,_⟩=>by rw [h];rfl
 | .b,_,⟨_,h⟩=>by rw [h];rfl
 | .s,_,⟨_,h,_⟩=>by rw [h];rfl
 | .sl e,_,hc=>by rcases hc with h | ⟨_,_,_,h,_⟩<;>rw [h]<;>rfl
 | .agg p,cs,h=>Zni p cs h
 | .nil,_,h=>by rw [show _=[] from h];rfl
 | .cons a r,cs,⟨x,y,h,hx,hy⟩=>by rw [h,Yah,Zni a x hx,Zni r y hy];rfl
theorem Zrn {p q:List Cell->Prop} (h:∀cs,p cs->q cs):∀(n:Nat) (cs:List Cell),okL p n cs->okL q n cs
 | 0,_,h=>h
 | n+1,_,⟨x,y,e,hx,hy⟩=>⟨x,y,e,h x hx,Zrn h n y hy⟩
theorem Zq716 {h h':Za} (hp:h <+: h') {k:Nat} {b:Blk} (hb:blk? h k=some b):blk? h' k=some b:=by
 obtain ⟨t,rfl⟩:=hp
 unfold blk? at *
 have hk:=Zir (show blk? h k=some b from hb)
 rw [Yc hk];exact hb
theorem Zpj {h h':Za} (hp:h <+: h') {k:Nat} (hk:k<h.length) (hb:blk? h k=none):blk? h' k=none:=by
 obtain ⟨t,rfl⟩:=hp
 unfold blk? at *
 rw [Yc hk];exact hb
theorem Zev {h h':Za} (hp:h <+: h'):∀(sh:Sh) (cs:List Cell),okC h sh cs->okC h' sh cs
 | .i _,_,h=>h
 | .b,_,h=>h
 | .s,_,h=>h
 | .sl e,_,hc=>hc.imp id fun ⟨k,len,xs,h1,h2,h3,h4,h5⟩=>⟨k,len,xs,h1,Zrn (Zev hp e) len xs h2,Nat.lt_of_lt_of_le h3 hp.length_le,h4,h5.imp (fun q=>⟨q.1,Zpj hp h3 q.2⟩) (Zq716 hp)⟩
 | .agg p,cs,h=>Zev hp p cs h
 | .nil,_,h=>h
 | .cons a r,cs,⟨x,y,h,hx,hy⟩=>⟨x,y,h,Zev hp a x hx,Zev hp r y hy⟩
def NoOwn (h:Za):Prop:=∀k b,blk? h k=some b->b.own=false
section
variable {S:Seat} {W:World}
structure Come (S:Seat) (W:World) (h:Za) (ρ:Rho):Prop where
 hi:HI S ρ h W
 no:NoOwn h
def Zka (S:Seat) (W:World) (p:Za->List Cell->Prop) (vs:List Value):Prop :=
 ∀h ρ,Come S W h ρ->∃h' ρ' cs,Come S W h' ρ'/\Ext h ρ h' ρ'/\h <+: h'/\L2 (relC S ρ' h') cs vs/\p h' cs
theorem Come.more {h:Za} {ρ:Rho} (c:Come S W h ρ) (b:Option Blk) (hb:∀x,b=some x->x.own=false) (pl:Pl)
  (hat:∀x,b=some x->AtB S ρ h W pl x):Come S W (h++[b]) (fun k=>if k=h.length then pl else ρ k)/\Ext h ρ (h++[b]) (fun k=>if k=h.length then pl else ρ k):=by
 have hnew:∀k x,blk? (h++[b]) k=some x->(k<h.length/\blk? h k=some x)∨(k=h.length/\b=some x):=by
  intro k x hx
  rcases Yaw k h.length with hk | hk | hk
  ·left;refine ⟨hk,?_⟩;unfold blk? at *;rwa [Yc hk] at hx
  ·right;refine ⟨hk,?_⟩;unfold blk? at hx;subst hk;simpa using hx
  ·unfold blk? at hx;rw [Yb (by simp;omega)] at hx;cases hx
 have hno:NoOwn (h++[b]):=fun k x hx=>by
  rcases hnew k x hx with ⟨_,h1⟩ | ⟨_,h1⟩
  ·exact c.no k x h1
  ·exact hb x h1
 have hext:Ext h ρ (h++[b]) (fun k=>if k=h.length then pl else ρ k):=by
  refine ⟨by simp,fun k x hk hx=>?_⟩
  rcases hnew k x hx with ⟨_,h1⟩ | ⟨h1,_⟩
  ·exact ⟨x,h1,Yw _,rfl,fun _=>by simp only;rw [if_neg (by omega)]⟩
  ·omega
 refine ⟨⟨⟨fun k x hx=>?_,fun k x k' x' hx ho=>?_,c.hi.glo' (fun _ _=>rfl) hext,fun g k x _ hx ho=>?_,c.hi.gcl⟩,hno⟩,hext⟩
 ·rcases hnew k x hx with ⟨hk,h1⟩ | ⟨hk,h1⟩
  ·rw [if_neg (by omega)];exact (c.hi.blks k x h1).mono hext rfl
  ·rw [if_pos hk];exact (hat x h1).mono hext rfl
 ·rw [hno k x hx] at ho;cases ho
 ·rw [hno k x hx] at ho;cases ho
theorem Zti:Zka S W (fun _ cs=>cs=[]) []:=fun h ρ c=>⟨h,ρ,[],c,Ext.refl _ _,Yo _,L2.nil,rfl⟩
theorem Zng {p q:Za->List Cell->Prop} {xs ys:List Value} (hm:∀h h' cs,h <+: h'->p h cs->p h' cs) (hx:Zka S W p xs) (hy:Zka S W q ys) :
  Zka S W (fun h cs=>∃x y,cs=x++y/\p h x/\q h y) (xs++ys):=by
 intro h ρ c
 obtain ⟨h1,ρ1,c1,k1,e1,p1,l1,o1⟩:=hx h ρ c
 obtain ⟨h2,ρ2,c2,k2,e2,p2,l2,o2⟩:=hy h1 ρ1 k1
 exact ⟨h2,ρ2,c1++c2,k2,e1.trans e2,p1.trans p2,(l1.mono fun _ _=>relC.mono e2).append l2,c1,c2,rfl,hm _ _ _ p2 o1,o2⟩
theorem Zrp {p:Za->List Cell->Prop} (hm:∀h h' cs,h <+: h'->p h cs->p h' cs):∀(vss:List (List Value)),(∀vs∈vss,Zka S W p vs)->Zka S W (fun h=>okL (p h) vss.length) vss.flatten
 | [],_=>Zti
 | vs :: vss,h=>Zng hm (h vs (by simp)) (Zrp hm vss fun x hx=>h x (by simp [hx]))
theorem Zzm {C:Array Value} {sz:Nat}:∀(vss:List (List Value)) (off:Nat),(∀i vs,vss[i]? = some vs->vs.length=sz/\∀r v,vs[r]? = some v->C[off+i*sz+r]? = some v) ->
  ∀j v,vss.flatten[j]? = some v->C[off+j]? = some v
 | [],_,_,j,v,h=>by simp at h
 | vs :: vss,off,hall,j,v,h=>by
  obtain ⟨hl,h0⟩:=hall 0 vs rfl
  rw [List.flatten_cons] at h
  by_cases hj:j<sz
  ·rw [Yc (by omega)] at h
   have:=h0 j v h
   simpa using this
  ·rw [Yp (by omega),hl] at h
   have:=Zzm vss (off+sz) (fun i us hi=>by
    obtain ⟨q1,q2⟩:=hall (i+1) us (by simpa using hi)
    refine ⟨q1,fun r v hr=>?_⟩
    rw [←q2 r v hr,Yan];congr 1;omega) (j - sz) v h
   rw [←this];congr 1;omega
theorem Zwz {a:Addr} {v:Value} (h:W.cell? a=some v):∃C e fz,W.heap[a.block]? = some (.cells C e fz)/\a.spot=none/\C[a.off]? = some v:=by
 unfold World.cell? at h
 split at h
 ·rename_i C e fz hC
  split at h
  ·cases h
  ·rename_i hs;exact ⟨C,e,fz,hC,by simpa using hs,h⟩
 ·cases h
theorem Zxj {p:Za->List Cell->Prop} (hm:∀h h' cs,h <+: h'->p h cs->p h' cs) {sz:Nat} (hsz:∀h cs,p h cs->cs.length=sz) (hz:sz≠0) {a:Addr} {len cap:Nat} (hlc:len<=cap)
  (hall:∀i,i<len->∃vs,W.cells? 0 (a.add (i*sz)) sz=some vs/\Zka S W p vs) :
  Zka S W (fun h cs=>∃k xs,cs=[.sl k (len*sz) 0 len]/\okL (p h) len xs/\k<h.length/\((len=0/\blk? h k=none)∨blk? h k=some ⟨false,0,xs⟩)) [.slice (some a) len cap]:=by
 intro h ρ c
 by_cases h0:len=0
 ·subst h0
  obtain ⟨c',e'⟩:=c.more none (fun _ h=>by cases h) ⟨0,0,0⟩ (fun _ h=>by cases h)
  refine ⟨_,_,[.sl h.length 0 0 0],c',e',Yai _ _,L2.cons ?_ L2.nil,h.length,[],by simp,rfl,by simp,.inl ⟨rfl,by unfold blk?;simp⟩⟩
  refine ⟨by simp,a,cap,rfl,hlc,fun b hb=>?_⟩
  unfold blk? at hb;simp at hb
 ·have hvs:∃vss:List (List Value),vss.length=len/\∀i vs,vss[i]? = some vs->W.cells? 0 (a.add (i*sz)) sz=some vs/\Zka S W p vs:=by
   refine ⟨(Yh len).map fun i=>(W.cells? 0 (a.add (i*sz)) sz).getD [],by simp,fun i vs hi=>?_⟩
   simp only [Yv,Yj] at hi
   obtain ⟨j,hj,rfl⟩:=hi
   obtain ⟨hlt,hj⟩:=Ys.1 hj
   simp only [Yay] at hlt
   simp only [List.getElem_range] at hj
   subst hj
   obtain ⟨vs,h1,h2⟩:=hall i hlt
   rw [h1]
   exact ⟨rfl,h2⟩
  obtain ⟨vss,hvl,hvs⟩:=hvs
  obtain ⟨h1,ρ1,cs,k1,e1,p1,l1,o1⟩:=Zrp hm vss (fun vs hv=>by obtain ⟨i,hi⟩:=Yad hv;exact (hvs i vs hi).2) h ρ c
  rw [hvl] at o1
  have hlen:cs.length=len*sz:=Zvp (hsz h1) len cs o1
  have hcell:∀i vs,vss[i]? = some vs->vs.length=sz/\∀r v,vs[r]? = some v->W.cell? ((a.add (i*sz)).add r)=some v:=by
   intro i vs hi
   obtain ⟨hv,_⟩:=hvs i vs hi
   obtain ⟨_,q1,q2⟩:=World.cells?_some hv
   refine ⟨q1,fun r v hr=>?_⟩
   have hlt:r<sz:=by have:=(Ys.1 hr).1;omega
   rw [q2 r hlt,hr]
  obtain ⟨C,e,fz,hC,hspot⟩:∃C e fz,W.heap[a.block]? = some (.cells C e fz)/\a.spot=none:=by
   have h0':0<vss.length:=by omega
   obtain ⟨q1,q2⟩:=hcell 0 vss[0] (by simp [h0'])
   have h1':0<vss[0].length:=by omega
   have:=q2 0 vss[0][0] (by simp [h1'])
   rw [Nat.zero_mul,Addr.add_zero',Addr.add_zero'] at this
   obtain ⟨C,e,fz,hC,hs,_⟩:=Zwz this
   exact ⟨C,e,fz,hC,hs⟩
  have hrow:∀j v,vss.flatten[j]? = some v->C[a.off+j]? = some v:=by
   refine Zzm (sz:=sz) vss a.off fun i vs hi=>?_
   obtain ⟨q1,q2⟩:=hcell i vs hi
   refine ⟨q1,fun r v hr=>?_⟩
   have hq:=q2 r v hr
   have ha:(a.add (i*sz)).add r=⟨a.block,a.off+i*sz+r,none⟩:=by
    obtain ⟨ab,ao,asp⟩:=a
    simp only at hspot
    rw [hspot,add_none,add_none]
   rw [ha] at hq
   obtain ⟨C',e',fz',hC',_,hv⟩:=Zwz hq
   have:(some (Obj.cells C' e' fz'):Option Obj)=some (.cells C e fz):=by rw [←hC',←hC]
   cases this
   exact hv
  have hbnd:a.off+cs.length<=C.size:=by
   have hl2:=l1.1
   have hpos:0<len*sz:=Nat.mul_pos (by omega) (by omega)
   have hlt:len*sz - 1<vss.flatten.length:=by omega
   have:=hrow (len*sz - 1) vss.flatten[len*sz - 1] (by simp [hlt])
   have:=(Yl.1 this).1
   omega
  obtain ⟨c',e'⟩:=k1.more (some ⟨false,0,cs⟩) (fun x hx=>by cases hx;rfl) ⟨a.block,a.off,C.size⟩ (fun x hx=>by
   cases hx
   refine ⟨C,e,fz,hC,rfl,hbnd,fun i c hc=>?_,fun ho=>by cases ho⟩
   obtain ⟨v,hv,hr⟩:=l1.get hc
   exact ⟨v,hrow i v hv,hr⟩)
  refine ⟨_,_,[.sl h1.length (len*sz) 0 len],c',e1.trans e',p1.trans (Yai _ _),L2.cons ?_ L2.nil,h1.length,cs,rfl,Zrn (fun x hx=>hm _ _ x (Yai _ _) hx) len cs o1,by simp,.inr (by unfold blk?;simp)⟩
  refine ⟨by simp,a,cap,rfl,hlc,fun b hb=>?_⟩
  have:b=⟨false,0,cs⟩:=by unfold blk? at hb;simp at hb;exact hb.symm
  subst this
  refine ⟨by simp only;omega,fun _=>⟨fun h=>absurd rfl h,.inr ⟨?_,fun h=>absurd rfl h⟩⟩⟩
  simp only [if_true,Nat.add_zero]
  obtain ⟨ab,ao,asp⟩:=a
  simp only at hspot
  rw [hspot]
theorem Zq729 {H:Type} {enc:TypeId × Value->H} {spare:Nat->Bool} {held:Bool}:∀(sh:Sh),
  (∀(fuel:Nat) (t:TypeId) (vs:List Value) (x:DataW H × List MemPlace),(sh.chk2 S.P).1 t=true->DataW.trod enc S.P W 0 spare held fuel t vs=some x->Zka S W (fun h cs=>okC h sh cs) vs) /\
  (∀(l:List (Nat × TypeId)) (at_:Nat) (vs:List Value),(sh.chk2 S.P).2 l at_=true->(∀o t,(o,t)∈l->∃fuel x,DataW.trod enc S.P W 0 spare held fuel t ((vs.drop o).take (S.P.cellsOf t))=some x)->vs.length=at_+sh.size->Zka S W (fun h cs=>okC h sh cs) (vs.drop at_)):=by
 intro sh
 induction sh with
 | i k =>
  refine ⟨fun fuel t vs x hc hx=>?_,fun l at_ vs hc=>by simp [Sh.chk2] at hc⟩
  simp only [Sh.chk2] at hc
  split at hc
  ·rename_i k' ht
   simp only [decide_eq_true_eq] at hc
   subst hc
   obtain ⟨n,rfl,_,hw⟩:=DataW.trod_int ht hx
   intro h ρ c
   simp only [Lit.wf,Yg,decide_eq_true_eq] at hw
   exact ⟨h,ρ,[.int k' n],c,Ext.refl _ _,Yo _,L2.cons rfl L2.nil,n,rfl,hw⟩
  ·cases hc
 | b =>
  refine ⟨fun fuel t vs x hc hx=>?_,fun l at_ vs hc=>by simp [Sh.chk2] at hc⟩
  simp only [Sh.chk2] at hc
  split at hc
  ·rename_i ht
   obtain ⟨n,rfl,_⟩:=DataW.trod_bool ht hx
   intro h ρ c
   exact ⟨h,ρ,[.bool n],c,Ext.refl _ _,Yo _,L2.cons rfl L2.nil,n,rfl⟩
  ·cases hc
 | s =>
  refine ⟨fun fuel t vs x hc hx=>?_,fun l at_ vs hc=>by simp [Sh.chk2] at hc⟩
  simp only [Sh.chk2] at hc
  split at hc
  ·rename_i ht
   obtain ⟨n,rfl,_,hs⟩:=DataW.trod_string ht hx
   intro h ρ c
   exact ⟨h,ρ,[.str n],c,Ext.refl _ _,Yo _,L2.cons rfl L2.nil,n,rfl,hs⟩
  ·cases hc
 | sl e ih =>
  refine ⟨fun fuel t vs x hc hx=>?_,fun l at_ vs hc=>by simp [Sh.chk2] at hc⟩
  simp only [Sh.chk2] at hc
  split at hc
  ·rename_i te ht
   simp only [Yg,beq_iff_eq,bne_iff_ne,ne_eq] at hc
   obtain ⟨⟨h1,h2⟩,h3⟩:=hc
   rcases DataW.trod_slice ht hx with ⟨rfl,_⟩ | ⟨a,len,cap,elems,rest,n,_,rfl,_,_,hl,hm,hlen,hel,_⟩
   ·intro h ρ c
    exact ⟨h,ρ,[.nils],c,Ext.refl _ _,Yo _,L2.cons rfl L2.nil,.inl rfl⟩
   ·intro h ρ c
    obtain ⟨h',ρ',cs,c',e',p',l',k,xs,hcs,hk,hlt,hb⟩:=Zxj (p:=fun h cs=>okC h e cs) (sz:=e.size) (len:=len) (cap:=cap) (a:=a) (fun h h' cs hp=>Zev hp e cs) (fun h cs=>Zni e cs) h2 hl (fun i hi=>by
     have:=hel i hi
     have hi2:elems[i]? = some elems[i]:=by simp [hlen,hi]
     rw [hi2] at this
     obtain ⟨vs,hv,ht⟩:=Option.bind_eq_some_iff.1 this
     rw [h1] at hv
     exact ⟨vs,hv,ih.1 _ _ _ _ h3 ht⟩) h ρ c
    exact ⟨h',ρ',cs,c',e',p',l',.inr ⟨k,len,xs,hcs,hk,hlt,by omega,hb⟩⟩
  ·cases hc
 | agg p ih =>
  refine ⟨fun fuel t vs x hc hx=>?_,fun l at_ vs hc=>by simp [Sh.chk2] at hc⟩
  simp only [Sh.chk2] at hc
  split at hc
  ·rename_i l hl
   simp only [Yg,beq_iff_eq] at hc
   obtain ⟨h1,h2⟩:=hc
   unfold partsT at hl
   split at hl
   ·rename_i fs ht
    cases hl
    obtain ⟨xs,n,_,_,hlen,hxl,hall⟩:=DataW.trod_struct ht hx
    have:=ih.2 _ 0 vs h1 (fun o t hot=>by
     obtain ⟨f,hf,heq⟩:=Yam.1 hot
     cases heq
     obtain ⟨i,hi⟩:=Yad hf
     have hi':fs[i]? = some f:=by simpa using hi
     have hlt:i<xs.length:=by rw [hxl];exact (Yl.1 hi').1
     exact ⟨n,xs[i],by rw [hall i f hi'];simp [hlt]⟩) (by omega)
    rw [Ybf] at this;exact this
   ·rename_i m te ht
    cases hl
    obtain ⟨xs,n,_,_,hlen,hxl,hall⟩:=DataW.trod_array ht hx
    have:=ih.2 _ 0 vs h1 (fun o t hot=>by
     obtain ⟨i,hi,heq⟩:=Yam.1 hot
     cases heq
     have hlt:i<m:=by simpa using hi
     have hlt2:i<xs.length:=by omega
     exact ⟨n,xs[i],by rw [hall i hlt];simp [hlt2]⟩) (by omega)
    rw [Ybf] at this;exact this
   ·cases hl
  ·cases hc
 | nil =>
  refine ⟨fun fuel t vs x hc=>by simp [Sh.chk2] at hc,fun l at_ vs hc hall hlen=>?_⟩
  simp only [Sh.size,Nat.add_zero] at hlen
  rw [List.drop_eq_nil_of_le (by omega)]
  exact Zti
 | cons a r iha ihr =>
  refine ⟨fun fuel t vs x hc=>by simp [Sh.chk2] at hc,fun l at_ vs hc hall hlen=>?_⟩
  simp only [Sh.chk2] at hc
  split at hc
  ·rename_i o t l
   simp only [Yg,beq_iff_eq] at hc
   obtain ⟨⟨⟨rfl,h2⟩,h3⟩,h4⟩:=hc
   obtain ⟨fuel,x,hx⟩:=hall o t (by simp)
   rw [h2] at hx
   have q1:=iha.1 _ _ _ _ h3 hx
   have q2:=ihr.2 l (o+a.size) vs h4 (fun o' t' h'=>hall o' t' (by simp [h'])) (by simp only [Sh.size] at hlen;omega)
   have hsplit:vs.drop o=(vs.drop o).take a.size++vs.drop (o+a.size):=by
    rw [←List.drop_drop,List.take_append_drop]
   rw [hsplit]
   exact Zng (fun h h' cs hp=>Zev hp a cs) q1 q2
  ·cases hc
def av1:Sh->List Cell->AV
 | .agg _,cs=>.agg cs
 | _,[c]=>.c c
 | _,cs=>.agg cs
def wide (sh:Sh) (v:Value):Prop:=match sh with | .agg _=>∃us,v=.agg us | _=>v.cells=#[v]
theorem Zoo {H:Type} {enc:TypeId × Value->H} {spare:Nat->Bool} {held:Bool} {sh:Sh} {t:TypeId} {v:Value} {d:DataW H} {ps:List MemPlace} (hc:sh.chk S.P t=true)
  (hv:DataW.Trod enc S.P W 0 spare held t v d ps) (hw:wide sh v) (hs:sh≠.nil/\∀a r,sh≠.cons a r) {h:Za} {ρ:Rho} (c:Come S W h ρ) :
  ∃h' ρ' cs,Come S W h' ρ'/\Ext h ρ h' ρ'/\h <+: h'/\relA S ρ' h' (av1 sh cs) v/\okC h' sh cs:=by
 obtain ⟨fuel,hx⟩:=hv
 obtain ⟨h',ρ',cs,c',e',p',l',o'⟩:=(Zq729 sh).1 fuel t _ _ hc hx h ρ c
 refine ⟨h',ρ',cs,c',e',p',?_,o'⟩
 cases sh with
 | agg p =>
  obtain ⟨us,rfl⟩:=hw
  exact ⟨us,rfl,l'⟩
 | nil=>exact absurd rfl hs.1
 | cons a r=>exact absurd rfl (hs.2 a r)
 | _ =>
  have hw':v.cells=#[v]:=hw
  rw [hw'] at l'
  obtain ⟨x,t',hcs,h1,h2⟩:=(show L2 (fun v c=>relC S ρ' h' c v) #[v].toList cs from ⟨l'.1.symm,fun i a b ha hb=>l'.2 i b a hb ha⟩).cons_left
  have ht:=h2.nil_left
  subst ht
  subst hcs
  exact h1
theorem below_of {h h':Za} {W':World} {ρ ρ':Rho} (hn:NoOwn h) (st:Step h W ρ h' W' ρ'):Below W.heap.size W W' :=
 ⟨st.os,st.tape,st.output,st.size,fun k hk=>st.keep k hk fun j b hb ho=>by rw [hn j b hb] at ho;cases ho⟩
theorem Come.tab1 (zs:List Int) (htab:∀g,S.tab g=if g=1 then zs.map (Cell.int .u8) else []) (hcell:∀i,i<zs.length->W.cell? ⟨S.gl 1,i,none⟩=some (.int .u8 (zs.getD i 0))):Come S W [] (fun _=>⟨0,0,0⟩):=by
 refine ⟨⟨fun k b h=>by simp [blk?] at h,fun k b k' b' h=>by simp [blk?] at h,fun g i c h=>?_,fun g k b _ h=>by simp [blk?] at h,fun g c h=>?_⟩,fun k b h=>by simp [blk?] at h⟩
 ·rw [htab] at h
  split at h
  ·rename_i hg
   subst hg
   rw [Yv,Yj] at h
   obtain ⟨z,hz,rfl⟩:=h
   have hi:=(Ys.1 hz).1
   refine ⟨_,hcell i hi,?_⟩
   rw [Ya,hz];rfl
  ·simp at h
 ·rw [htab] at h
  split at h
  ·obtain ⟨z,_,rfl⟩:=Yam.1 h;rfl
  ·cases h
theorem law_call {C:Zk} (sc:Zck S C) {g:Nat} {args:List AV} {h:Za} {ρ:Rho} {vals:Array Value} {h':Za} (c:Come S W h ρ) (ha:L2 (relA S ρ h) args vals.toList)
  (hr:C g args h=some ([.c (.bool true)],h')):Calls S.P (S.fn g) vals W fun e W'=>e=.returned (.bool true)/\Below W.heap.size W W':=by
 refine Calls.mono ((sc g args h _ hr).2 W ρ vals c.hi ha) ?_
 rintro e w' ⟨v,ρ',rfl,hv,_,st⟩
 have:v=.bool true:=hv
 subst this
 exact ⟨rfl,below_of c.no st⟩
end
end
section ks
variable {α:Type}
theorem c0_ok {h:Za} {f:Za->Option α}:c0 (some ([],h)) f=f h:=rfl
theorem c1_ok {x:AV} {h:Za} {f:AV->Za->Option α}:c1 (some ([x],h)) f=f x h:=rfl
theorem c2_ok {x y:AV} {h:Za} {f:AV->AV->Za->Option α}:c2 (some ([x,y],h)) f=f x y h:=rfl
theorem c3_ok {x y z:AV} {h:Za} {f:AV->AV->AV->Za->Option α}:c3 (some ([x,y,z],h)) f=f x y z h:=rfl
theorem c4_ok {x y z u:AV} {h:Za} {f:AV->AV->AV->AV->Za->Option α}:c4 (some ([x,y,z,u],h)) f=f x y z u h:=rfl
theorem qh_ok {l:List AV} {h:Za}:qh h (some (l,h))=some (l,h):=by simp [qh]
theorem asI_ok {k:IntKind} {n:Int} {f:Int->Option α}:Zi k (.c (.int k n)) f=f n:=if_pos rfl
theorem asB_ok {b:Bool} {f:Bool->Option α}:asB (.c (.bool b)) f=f b:=rfl
theorem asC_ok {c:Cell} {f:Cell->Option α}:asC (.c c) f=f c:=rfl
theorem asA_ok {l:List Cell} {f:List Cell->Option α}:asA (.agg l) f=f l:=rfl
theorem scK_ok {w d:Bool} {x:Option (Bool × Za)} {h:Za} {f:Bool->Za->Option α}:scK w w x d h f=x.bind fun p=>f p.1 p.2:=by simp [scK]
theorem scK_tf {d:Bool} {x:Option (Bool × Za)} {h:Za} {f:Bool->Za->Option α}:scK true false x d h f=f d h:=rfl
theorem scK_ft {d:Bool} {x:Option (Bool × Za)} {h:Za} {f:Bool->Za->Option α}:scK false true x d h f=f d h:=rfl
theorem scK_and {b c:Bool} {h:Za} {f:Bool->Za->Option α}:scK b true (some (c,h)) false h f=f (b&&c) h:=by cases b<;>rfl
theorem scK_or {b c:Bool} {h:Za} {f:Bool->Za->Option α}:scK b false (some (c,h)) true h f=f (b||c) h:=by cases b<;>rfl
theorem bind_ok {β:Type} {a:β} {f:β->Option α}:(some a).bind f=f a:=rfl
theorem Zjn {esz k N off len:Nat} {i:Nat} (hi:i<len) {f:Nat->Nat->Nat->Option α}:Zm esz (.sl k N off len) (i:Int) f=f k N (off+i*esz):=by
 unfold Zm;simp only;rw [if_pos ⟨by omega,by omega⟩];simp
theorem Zq {h:Za} {k N:Nat} {b:Blk} (hb:blk? h k=some b) (hN:b.cs.length=N) {f:List Cell->Option α}:Zn h k N f=f b.cs:=by
 unfold Zn;rw [hb];simp [hN]
theorem Zct {h:Za} {k:Nat} {b:Blk} (hb:blk? h k=some b) (ho:b.own=true) {cs:List Cell} {f:Za->Option α}:Zbh h k cs f=f (setBlk h k (some { b with cs:=cs })):=by
 unfold Zbh;rw [hb];simp [ho]
theorem Zak {cs:List Cell} {i:Nat} {c:Cell} (h:cs[i]? = some c) {f:Cell->Option α}:Zf cs i f=f c:=by unfold Zf;rw [h];rfl
end ks
theorem Zaa (h:Za) (b:Blk):blk? (h++[some b]) h.length=some b:=by unfold blk?;simp
theorem Zfn {h:Za} {k:Nat} {b:Blk} (hb:blk? h k=some b) (t:Za):blk? (h++t) k=some b:=by
 unfold blk? at *
 have hk:k<h.length:=by
  rcases Yy k h.length with h1 | h1
  ·exact h1
  ·rw [Yb h1] at hb;cases hb
 rw [Yc hk];exact hb
theorem Zar {h:Za} {k:Nat} {b:Blk} (hb:blk? h k=some b):k<h.length:=by
 unfold blk? at hb
 rcases Yy k h.length with h1 | h1
 ·exact h1
 ·rw [Yb h1] at hb;cases hb
theorem Zac {h:Za} {k:Nat} (hk:k<h.length) (b:Option Blk):blk? (setBlk h k b) k=b:=by
 unfold blk? setBlk;simp [hk]
theorem Zbc {h:Za} {k j:Nat} (hj:k≠j) (b:Option Blk):blk? (setBlk h k b) j=blk? h j:=by
 unfold blk? setBlk;rw [Yz hj]
theorem Zcs (h:Za) (k:Nat) (b:Option Blk):(setBlk h k b).length=h.length:=by simp [setBlk]
theorem setBlk_last (h:Za) (b b':Option Blk):setBlk (h++[b]) h.length b'=h++[b']:=by
 unfold setBlk;rw [List.set_append_right _ _ (Yw _)];simp
theorem setBlk_set (h:Za) (k:Nat) (b b':Option Blk):setBlk (setBlk h k b) k b'=setBlk h k b':=by simp [setBlk]
theorem Zey {x:Int} (h1:-9223372036854775808<=x) (h2:x<=9223372036854775807):IntKind.wrap .i64 x=x:=by
 simp only [IntKind.wrap,IntKind.signed,IntKind.bits,Bool.true_and]
 split
 ·rename_i h;have h:=of_decide_eq_true h;omega
 ·rename_i h;have h:¬_:=fun q=>h (decide_eq_true q);omega
theorem Zxs {x:Int} (h1:0<=x) (h2:x<18446744073709551616):IntKind.wrap .u64 x=x:=by
 simp only [IntKind.wrap,IntKind.signed,IntKind.bits,Bool.false_and,Yav,if_false];omega
theorem Zkg {x:Nat} (h:x<2 ^ 64):IntKind.wrap .u64 (x:Int)=x:=Zxs (by omega) (by omega)
theorem ofInt_nat (x:Nat):Yk 64 (x:Int)=BitVec.ofNat 64 x:=by simp
theorem and_lt {x y n:Nat} (h:x<2 ^ n):x &&& y<2 ^ n:=Nat.lt_of_le_of_lt Nat.and_le_left h
theorem Zxy {x y n:Nat} (hx:x<2 ^ n) (hy:y<2 ^ n):x ||| y<2 ^ n:=Nat.or_lt_two_pow hx hy
section glo
variable {t:Nat->List Cell}
theorem std_wrap:(Glo.std t).wrap=IntKind.wrap:=rfl
theorem Zxr {x y:Nat} (hx:x<2 ^ 64) (hy:y<2 ^ 64):(Glo.std t).band .u64 (x:Int) (y:Int)=((x &&& y:Nat):Int):=by
 show IntKind.wrap .u64 ((Yk 64 (x:Int) &&& Yk 64 (y:Int)).toNat:Nat)=_
 rw [ofInt_nat,ofInt_nat,Ybc,Yt,Yt,Yx hx,Yx hy]
 exact Zkg (and_lt hx)
theorem std_bor {x y:Nat} (hx:x<2 ^ 64) (hy:y<2 ^ 64):(Glo.std t).bor .u64 (x:Int) (y:Int)=((x ||| y:Nat):Int):=by
 show IntKind.wrap .u64 ((Yk 64 (x:Int) ||| Yk 64 (y:Int)).toNat:Nat)=_
 rw [ofInt_nat,ofInt_nat,BitVec.toNat_or,Yt,Yt,Yx hx,Yx hy]
 exact Zkg (Zxy hx hy)
theorem Zyh {i:Nat} (hi:i<64):(Glo.std t).shl .u64 1 (i:Int)=((2 ^ i:Nat):Int):=by
 show IntKind.wrap .u64 (1*2 ^ min (i:Int).toNat 64)=_
 have:min (i:Int).toNat 64=i:=by omega
 rw [this,Int.one_mul]
 have h2:(2:Int) ^ i=((2 ^ i:Nat):Int):=by simp
 rw [h2]
 exact Zkg (Nat.pow_lt_pow_right (by omega) hi)
theorem Zzf {x:Int}:(Glo.std t).band .i64 x 255=x % 256:=by
 show IntKind.wrap .i64 ((Yk 64 x &&& Yk 64 255).toNat:Nat)=_
 have h1:(Yk 64 x &&& Yk 64 255).toNat=(Yk 64 x).toNat % 256:=by
  rw [Ybc]
  have:(Yk 64 255).toNat=2 ^ 8 - 1:=by decide
  rw [this,Nat.and_two_pow_sub_one_eq_mod]
 rw [h1,BitVec.toNat_ofInt]
 have h3:((((x % ((2 ^ 64:Nat):Int)).toNat % 256:Nat):Int))=x % 256:=by omega
 rw [h3]
 exact Zey (by omega) (by omega)
end glo
section genv
variable {E:Env}
theorem Zg {x:Int} (h1:-9223372036854775808<=x) (h2:x<=9223372036854775807):E.glob.wrap .i64 x=x:=Zey h1 h2
theorem Zr {i:Nat} (hi:i<9223372036854775807):E.glob.wrap .i64 ((i:Int)+1)=((i+1:Nat):Int):=by
 rw [Zg (by omega) (by omega)];omega
theorem g_rem {k:IntKind} {x y:Int}:E.glob.rem k x y=x.tmod y:=rfl
theorem g_quo {k:IntKind} {x y:Int}:E.glob.quo k x y=k.wrap (x.tdiv y):=rfl
theorem g_bor {x y:Nat} (hx:x<2 ^ 64) (hy:y<2 ^ 64):E.glob.bor .u64 (x:Int) (y:Int)=((x ||| y:Nat):Int):=std_bor hx hy
theorem g_band255 {x:Int}:E.glob.band .i64 x 255=x % 256:=Zzf
end genv
section loops
variable {F:St->Option (Ex × St)}
theorem Zao (g:Nat->St) (a n:Nat) (han:a<=n) (hs:∀i,a<=i->i<n->F (g i)=some (.normal,g (i+1))) {p} (hp:Zx F (g n)=some p):Zx F (g a)=some p:=by
 obtain ⟨d,rfl⟩:∃d,n=a+d:=⟨n - a,by omega⟩
 clear han
 induction d generalizing a with
 | zero=>exact hp
 | succ d ih =>
  refine Zbk (hs a (Yw _) (by omega)) (ih (a+1) (fun i h1 h2=>hs i (by omega) (by omega)) ?_)
  rw [show a+1+d=a+(d+1) by omega];exact hp
theorem Zhp (I:Nat->St->Prop) (a n:Nat) (han:a<=n) (hs:∀i st,a<=i->i<n->I i st->∃st',F st=some (.normal,st')/\I (i+1) st') {st:St} (h0:I a st) :
  ∃st',I n st'/\∀p,Zx F st'=some p->Zx F st=some p:=by
 obtain ⟨d,rfl⟩:∃d,n=a+d:=⟨n - a,by omega⟩
 clear han
 induction d generalizing a st with
 | zero=>exact ⟨st,h0,fun _ h=>h⟩
 | succ d ih =>
  obtain ⟨st1,h1,i1⟩:=hs a st (Yw _) (by omega) h0
  obtain ⟨st2,i2,h2⟩:=ih (a+1) i1 (fun i st q1 q2=>hs i st (by omega) (by omega))
  refine ⟨st2,by rw [show a+(d+1)=a+1+d by omega];exact i2,fun p hp=>Zbk h1 (h2 p hp)⟩
theorem Zq797 (I:Nat->St->Prop) (Q:Ex × St->Prop) (hs:∀k st,I k st->(∃st' k',F st=some (.normal,st')/\I k' st'/\k'<k)∨∃p,F st=some p/\p.1≠.normal/\Q p) {k:Nat} {st:St} (h0:I k st) :
  ∃p,Zx F st=some p/\Q p:=by
 induction k using Yaq generalizing st with
 | ind k ih =>
  rcases hs k st h0 with ⟨st',k',h1,h2,h⟩ | ⟨⟨e,st'⟩,h1,h2,h3⟩
  ·obtain ⟨p,hp,hq⟩:=ih k' h h2
   exact ⟨p,Zbk h1 hp,hq⟩
  ·cases e with
   | normal=>exact absurd rfl h2
   | exit i=>exact ⟨_,Zl h1,h3⟩
   | ret=>exact ⟨_,Zeb h1,h3⟩
end loops
def SlAt (h:Za) (x:Cell) (esz:Nat) (cs:List Cell) (len:Nat):Prop :=
 cs.length=len*esz/\((x=.nils/\len=0)∨∃k N off,x=.sl k N off len/\(len=0∨∃b,blk? h k=some b/\b.cs.length=N/\off+len*esz<=N/\∀j,j<len*esz->b.cs[off+j]? = cs[j]?))
theorem SlAt.len {α:Type} {h:Za} {x:Cell} {esz len:Nat} {cs:List Cell} (s:SlAt h x esz cs len) {f:Int->Option α}:Zaj x f=f len:=by
 rcases s.2 with ⟨rfl,rfl⟩ | ⟨k,N,off,rfl,_⟩<;>rfl
theorem idx_lt {i j len esz:Nat} (hi:i<len) (hj:j<esz):i*esz+j<len*esz:=by
 have:(i+1)*esz<=len*esz:=Nat.mul_le_mul_right _ hi
 rw [Yan] at this;omega
theorem SlAt.get {α:Type} {h:Za} {x:Cell} {esz len:Nat} {cs:List Cell} (s:SlAt h x esz cs len) {i j:Nat} (hi:i<len) (hj:j<esz) {c:Cell} (hc:cs[i*esz+j]? = some c) {f:Cell->Option α} :
  (Zm esz x (i:Int) fun k N o=>Zn h k N fun l=>Zf l (o+j) f)=f c:=by
 rcases s.2 with ⟨_,rfl⟩ | ⟨k,N,off,rfl,h0 | ⟨b,hb,hN,hle,hat⟩⟩
 ·omega
 ·omega
 ·rw [Zjn hi,Zq hb hN]
  refine Zak ?_
  rw [Nat.add_assoc,hat _ (idx_lt hi hj),hc]
theorem SlAt.get1 {α:Type} {h:Za} {x:Cell} {len:Nat} {cs:List Cell} (s:SlAt h x 1 cs len) {i:Nat} (hi:i<len) {c:Cell} (hc:cs[i]? = some c) {f:Cell->Option α} :
  (Zm 1 x (i:Int) fun k N o=>Zn h k N fun l=>Zf l o f)=f c :=
 s.get (j:=0) hi (by omega) (by simpa using hc)
theorem SlAt.getAt {α:Type} {h:Za} {x:Cell} {len:Nat} {cs:List Cell} (s:SlAt h x 1 cs len) {i:Int} (n:Nat) (hi:i=(n:Int)) (hn:n<len) {c:Cell} (hc:cs[n]? = some c) {f:Cell->Option α} :
  (Zm 1 x i fun k N o=>Zn h k N fun l=>Zf l o f)=f c:=by
 subst hi;exact s.get1 hn hc
def Kp (n:Nat) (h h':Za):Prop:=h.length<=h'.length/\∀k,k<n->h'[k]? = h[k]?
theorem Kp.refl (n:Nat) (h:Za):Kp n h h:=⟨Yw _,fun _ _=>rfl⟩
theorem Kp.trans {n:Nat} {h h' h'':Za} (a:Kp n h h') (b:Kp n h' h''):Kp n h h'':=⟨Nat.le_trans a.1 b.1,fun k hk=>(b.2 k hk).trans (a.2 k hk)⟩
theorem Kp.blk {n:Nat} {h h':Za} (a:Kp n h h') {k:Nat} (hk:k<n):blk? h' k=blk? h k:=by unfold blk?;rw [a.2 k hk]
theorem Kp.app {n:Nat} {h:Za} (t:Za) (hn:n<=h.length):Kp n h (h++t):=⟨by simp,fun k hk=>Yc (by omega)⟩
theorem Kp.mono {n m:Nat} {h h':Za} (a:Kp n h h') (hm:m<=n):Kp m h h':=⟨a.1,fun k hk=>a.2 k (by omega)⟩
theorem Kp.take {h h':Za} (a:Kp h.length h h'):h'.take h.length=h:=by
 refine Yal fun k=>?_
 rw [List.getElem?_take]
 by_cases hk:k<h.length
 ·rw [if_pos hk,a.2 k hk]
 ·rw [if_neg hk,Yb (by omega)]
theorem Kp.set {n:Nat} {h:Za} {k:Nat} (hk:n<=k) (b:Option Blk):Kp n h (setBlk h k b):=⟨by simp [setBlk],fun j hj=>by unfold setBlk;rw [Yz (by omega)]⟩
def Low (n:Nat):Cell->Prop
 | .sl k _ _ len=>len=0∨k<n
 | _=>True
theorem SlAt.keep {n:Nat} {h h':Za} {x:Cell} {esz len:Nat} {cs:List Cell} (s:SlAt h x esz cs len) (hl:Low n x) (a:Kp n h h'):SlAt h' x esz cs len:=by
 refine ⟨s.1,s.2.imp id ?_⟩
 rintro ⟨k,N,off,rfl,h0 | ⟨b,hb,hN,hle,hat⟩⟩
 ·exact ⟨k,N,off,rfl,.inl h0⟩
 ·rcases hl with h0 | hk
  ·exact ⟨k,N,off,rfl,.inl h0⟩
  ·exact ⟨k,N,off,rfl,.inr ⟨b,by rw [a.blk hk];exact hb,hN,hle,hat⟩⟩
def Own (n:Nat) (h:Za) (x:Cell) (esz:Nat) (cs:List Cell) (len:Nat):Prop :=
 cs.length=len*esz/\((x=.nils/\len=0)∨∃k,x=.sl k cs.length 0 len/\n<=k/\blk? h k=some ⟨true,esz,cs⟩)
theorem Own.at {n:Nat} {h:Za} {x:Cell} {esz len:Nat} {cs:List Cell} (o:Own n h x esz cs len):SlAt h x esz cs len:=by
 refine ⟨o.1,o.2.imp id ?_⟩
 rintro ⟨k,rfl,_,hb⟩
 exact ⟨k,_,0,rfl,.inr ⟨_,hb,rfl,by have:=o.1;omega,fun j _=>by simp⟩⟩
theorem Own.nil (n:Nat) (h:Za) (esz:Nat):Own n h .nils esz [] 0:=⟨by simp,.inl ⟨rfl,rfl⟩⟩
def Zad (x:Cell) (k:Nat):Prop:=match x with | .sl k' _ _ _=>k'=k | _=>False
theorem Own.app {n:Nat} {h:Za} {x:Cell} {esz len bytes:Nat} {cs xs:List Cell} (o:Own n h x esz cs len) (hn:n<=h.length) (hx:xs.length=esz) (he:0<esz) (h1:(len+1)*bytes<=maxBytes) (h2:len+1<=maxBytes) :
  ∃x' h',(∀{α:Type} (f:Cell->Za->Option α),Zaq esz bytes x xs h f=f x' h')/\Own n h' x' esz (cs++xs) (len+1)/\Kp n h h'/\(∀j b,blk? h j=some b->¬Zad x j->blk? h' j=some b/\¬Zad x' j):=by
 have hd:xs.length / esz=1:=by rw [hx];exact Nat.div_self he
 rcases o.2 with ⟨rfl,rfl⟩ | ⟨k,rfl,hk,hb⟩
 ·have hcs:cs=[]:=Yao.1 (by have:=o.1;omega)
  subst hcs
  refine ⟨.sl h.length xs.length 0 1,h++[some ⟨true,esz,xs⟩],fun f=>?_,⟨by simp [hx],.inr ⟨h.length,by simp,hn,by rw [Ybd];exact Zaa _ _⟩⟩,Kp.app _ hn,fun j b hj _=>⟨Zfn hj _,fun hi=>?_⟩⟩
  ·unfold Zaq;simp only;rw [if_neg (by omega),hd,if_pos ⟨by omega,by omega⟩]
  ·have:=Zar hj;simp only [Zad] at hi;omega
 ·have hl:=o.1
  refine ⟨.sl k (len*esz+xs.length) 0 (len+1),setBlk h k (some ⟨true,esz,cs++xs⟩),fun f=>?_,⟨by simp [hl,hx,Yan],.inr ⟨k,by simp [hl],hk,Zac (Zar hb) _⟩⟩,Kp.set hk _,fun j b hj hi=>?_⟩
  ·unfold Zaq;simp only;rw [hb,Ym];dsimp only
   rw [if_pos ⟨rfl,rfl,rfl,by omega,by rw [hd];exact h1,by rw [hd];exact h2⟩,if_neg (by omega),if_pos trivial,hd,List.take_of_length_le (by omega)]
  ·have hne:k≠j:=fun h=>hi h
   exact ⟨by rw [Zbc hne];exact hj,fun q=>hne q⟩
def Zeo (l:List (Int × Int)):List Cell:=l.flatMap fun p=>[.int .i64 p.1,.int .i64 p.2]
theorem Zkm:∀(l:List (Int × Int)) (i:Nat) (p:Int × Int),l[i]? = some p->(Zeo l)[i*2+0]? = some (.int .i64 p.1)/\(Zeo l)[i*2+1]? = some (.int .i64 p.2)
 | [],_,_,h=>by simp at h
 | q :: l,0,p,h=>by simp at h;subst h;exact ⟨rfl,rfl⟩
 | q :: l,i+1,p,h=>by
  have:=Zkm l i p (by simpa using h)
  have e:Zeo (q :: l)=.int .i64 q.1 :: .int .i64 q.2 :: Zeo l:=rfl
  rw [e,show (i+1)*2+0=(i*2+0)+1+1 by omega,show (i+1)*2+1=(i*2+1)+1+1 by omega]
  simpa using this
def intC (k:IntKind) (l:List Int):List Cell:=l.map fun n=>.int k n
theorem intC_len (k:IntKind) (l:List Int):(intC k l).length=l.length:=by simp [intC]
theorem Zbr {k:IntKind} {l:List Int} {i:Nat} {n:Int} (h:l[i]? = some n):(intC k l)[i]? = some (.int k n):=by simp [intC,h]
theorem intC_snoc (k:IntKind) (l:List Int) (n:Int):intC k (l++[n])=intC k l++[.int k n]:=by simp [intC]
theorem Own.low {n:Nat} {h:Za} {x:Cell} {esz len:Nat} {cs:List Cell} (o:Own n h x esz cs len):Low h.length x:=by
 rcases o.2 with ⟨rfl,_⟩ | ⟨k,rfl,_,hb⟩
 ·trivial
 ·exact .inr (Zar hb)
theorem Zgu {h h':Za} {l:List AV} (hk:Kp h.length h h') (hl:∀x∈l,Zls h.length x=true):Zbe true h l h'=some (l,h):=by
 have:Znt h h' l=true:=by
  simp only [Znt,Yg,decide_eq_true_eq,Yd,Yas,Yr]
  exact ⟨⟨hk.1,hl⟩,fun k hk2=>.inl (hk.2 k hk2)⟩
 unfold Zbe
 simp only [this,if_true,hk.take]
def Zav (s:Nat->Bool) (n:Nat):List Cell:=(Yh n).map fun i=>.bool (s i)
theorem Ztp (s:Nat->Bool) (n:Nat):(Zav s n).length=n:=by simp [Zav]
theorem Zsv {s:Nat->Bool} {n i:Nat} (hi:i<n):(Zav s n)[i]? = some (.bool (s i)):=by
 rw [Zav,Yv,Yau hi];rfl
theorem Zq791 {s:Nat->Bool} {n i:Nat} {b:Bool}:(Zav s n).set i (.bool b)=Zav (fun j=>if j=i then b else s j) n:=by
 unfold Zav
 refine Yal fun j=>?_
 rw [Yaj]
 simp only [List.length_map,Yay,Yv]
 by_cases hj:j<n
 ·rw [Yau hj]
  by_cases hij:i=j
  ·subst hij;simp [hj]
  ·have:¬j=i:=fun h=>hij h.symm
   simp [hij,this]
 ·rw [Yb (by simp;omega)]
  simp;intro h1;omega
theorem Zxn (n:Nat):Yaf n (Cell.bool false)=Zav (fun _=>false) n:=by
 refine Yal fun j=>?_
 by_cases hj:j<n
 ·rw [Zsv hj,Yap,if_pos hj]
 ·rw [Yap,if_neg hj,Yb (by rw [Ztp];omega)]
section
open Go Go.WideShapes
theorem Zvu {P:Program} {w:World} {r:Reach} {base:Nat} {t:TypeId} {v:Value}:∀{sh:Sh},sh.chk P t=true->Value.okWide P w r base t v->wide sh v
 | .i k,hc,h=>by
  simp only [Sh.chk,Sh.chk2] at hc
  split at hc
  ·rename_i k' ht
   obtain ⟨n,rfl⟩:=okWide_int ht h
   rfl
  ·cases hc
 | .b,hc,h=>by
  simp only [Sh.chk,Sh.chk2] at hc
  split at hc
  ·rename_i ht
   simp only [Value.okWide,ht,Cell.okWide] at h
   cases v<;>simp_all [Cell.ok,wide,Value.cells]
  ·cases hc
 | .s,hc,h=>by
  simp only [Sh.chk,Sh.chk2] at hc
  split at hc
  ·rename_i ht
   obtain ⟨s,rfl⟩:=okWide_string ht h
   rfl
  ·cases hc
 | .sl e,hc,h=>by
  simp only [Sh.chk,Sh.chk2] at hc
  split at hc
  ·rename_i te ht
   obtain ⟨a,l,c,rfl⟩:=okWide_slice ht h
   rfl
  ·cases hc
 | .agg p,hc,h=>by
  simp only [Sh.chk,Sh.chk2] at hc
  split at hc
  ·rename_i l hl
   unfold partsT at hl
   split at hl
   ·rename_i fs ht
    simp only [Value.okWide,ht] at h
    obtain ⟨cs,rfl,_⟩:=h
    exact ⟨cs,rfl⟩
   ·rename_i n e ht
    simp only [Value.okWide,ht] at h
    obtain ⟨cs,rfl,_⟩:=h
    exact ⟨cs,rfl⟩
   ·cases hl
  ·cases hc
 | .nil,hc,_=>by simp [Sh.chk,Sh.chk2] at hc
 | .cons _ _,hc,_=>by simp [Sh.chk,Sh.chk2] at hc
theorem arg_int {h:Za} {k:IntKind} {cs:List Cell} (o:okC h (.i k) cs):∃n,av1 (.i k) cs=.c (.int k n)/\inK k n:=by
 obtain ⟨n,rfl,hn⟩:=o;exact ⟨n,rfl,hn⟩
theorem okL_int {h:Za} {k:IntKind}:∀(len:Nat) (xs:List Cell),okL (okC h (.i k)) len xs->∃l:List Int,xs=intC k l/\l.length=len/\∀n∈l,inK k n
 | 0,xs,h=>⟨[],h,rfl,by simp⟩
 | len+1,xs,⟨x,y,h1,⟨n,hx,hn⟩,hy⟩=>by
  obtain ⟨l,h2,h3,h4⟩:=okL_int len y hy
  exact ⟨n :: l,by rw [h1,hx,h2];rfl,by simp [h3],fun m hm=>by rcases Yn.1 hm with h | h;rw [h];exact hn;exact h4 m h⟩
theorem arg_row {h:Za} {e:Sh} {cs:List Cell} (o:okC h (.sl e) cs):∃x xs len,av1 (.sl e) cs=.c x/\okL (okC h e) len xs/\len<=maxLen/\SlAt h x e.size xs len/\Low h.length x:=by
 rcases o with rfl | ⟨k,len,xs,rfl,hx,hk,hm,hb⟩
 ·exact ⟨.nils,[],0,rfl,rfl,by omega,⟨by simp,.inl ⟨rfl,rfl⟩⟩,trivial⟩
 ·have hl:xs.length=len*e.size:=Zvp (Zni e) len xs hx
  refine ⟨_,xs,len,rfl,hx,hm,⟨hl,.inr ⟨k,_,0,rfl,hb.imp (fun q=>q.1) fun hb=>⟨_,hb,hl,by omega,fun j _=>by simp⟩⟩⟩,.inr hk⟩
theorem Zyv {h:Za} {k:IntKind} {cs:List Cell} (o:okC h (.sl (.i k)) cs):∃x l,av1 (.sl (.i k)) cs=.c x/\SlAt h x 1 (intC k l) l.length/\Low h.length x/\(∀n∈l,inK k n)/\l.length<=maxLen:=by
 obtain ⟨x,xs,len,h1,h2,hm,h3,h4⟩:=arg_row o
 obtain ⟨l,rfl,rfl,hin⟩:=okL_int len xs h2
 exact ⟨x,l,h1,h3,h4,hin,hm⟩
end
end Jq
