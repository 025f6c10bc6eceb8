/- YtaohhggiapblkaaGreatDoorTopClocksB: a part of the proof; no conditions of its own. -/
import Derived.KernelRfl
import Derived.Test.YtaohhggiapblkaaGreatDoorRows
import Derived.Test.YtaohhggiapblkaaGreatDoorTopClocksA
set_option linter.unusedVariables false
set_option linter.unusedSectionVars false
set_option linter.unusedSimpArgs false
set_option maxRecDepth 100000
open List renaming forall_mem_cons→Ya,replicate→Yb,getD_eq_getElem?_getD→Yf,getElem?_eq_none→Yg,length_map→Yi,getElem?_eq_getElem→Yj,map_cons→Yk,getElem?_map→Yl,all_cons→Yn,map_take→Yo,mem_of_getElem?→Ys,range→Yu,map_map→Yw,map_drop→Yx,getElem?_append_left→Yy,all_eq_true→Yab,map_set→Yac,getElem?_take→Yag,getElem?_drop→Yah,getElem?_append_right→Yai,ext_getElem?→Yak,map→Yal,map_append→Yam,drop_of_length_le→Yaq,mem_range→Yar,map_congr_left→Yav,getElem?_range→Yaw,map_replicate→Yax,length_append→Yaz,getElem?_set→Ybc,flatMap_cons→Ybe,drop_append→Ybf,getElem_mem→Ybg,nil_append→Ybh
open Int renaming toNat→Yc,emod_nonneg→Yad,emod_emod_of_dvd→Yae,tmod_eq_emod_of_nonneg→Yaj,dvd_refl→Yba,mul_emod→Ybb,toNat_natCast→Ybd
open Bool renaming and_eq_true→Yd,noConfusion→Yp,or_eq_true→Yq,true_and→Yr,eq_iff_iff→Yv,false_eq_true→Yz,false_and→Yaf
open Option renaming map_some→Ye,bind_some→Yh,some→Yan,map→Yau
open Nat renaming le_refl→Ym,add_sub_cancel_left→Yt,lt_or_ge→Yaa,mul_one→Yao,testBit_lt_two_pow→Yap,eq_of_beq_eq_true→Yas,testBit_or→Yat,lt_of_lt_of_le→Yay,beq→Ybi
namespace Jq
open Go
def sC (n:Nat):Cell->Cell
 | .ptr k N off=>.ptr (n+k) N off
 | .sl k N off len=>.sl (n+k) N off len
 | .fn f caps=>.fn f (caps.map fun p=>(n+p.1,p.2.1,p.2.2))
 | .csl k N off len=>.csl (n+k) N off len
 | .fnb f l=>.fnb f l
 | .int k i=>.int k i
 | .bool b=>.bool b
 | .str s=>.str s
 | .nilp=>.nilp
 | .gptr k o=>.gptr k o
 | .nils=>.nils
 | .nilf=>.nilf
 | .nili=>.nili
def sA (n:Nat):AV->AV
 | .c x=>.c (sC n x)
 | .agg cs=>.agg (cs.map (sC n))
def sT (n:Nat):TV->TV
 | .v x=>.v (sA n x)
 | .tup l=>.tup (l.map (sA n))
 | .loc s o=>.loc s o
 | .lit e cs=>.lit e (cs.map (sC n))
 | .top=>.top
def sB (n:Nat) (b:Blk):Blk:=⟨b.own,b.esz,b.cs.map (sC n)⟩
def sH (g:Za) (h:Za):Za:=g++h.map (Yau (sB g.length))
def sS (n:Nat) (s:Ze):Ze:=s.map (Yau (Yal (sC n)))
def sSt (g:Za) (st:St):St:=⟨st.t.map (sT g.length),sS g.length st.s,sH g st.h⟩
def sR (g:Za) (r:List AV × Za):List AV × Za:=(r.1.map (sA g.length),sH g r.2)
def Zjb:Cell->Bool
 | .ptr _ _ _=>false
 | .sl _ _ _ _=>false
 | .csl _ _ _ _=>false
 | .fn _ caps=>caps.isEmpty
 | _=>true
theorem plain_s {n:Nat}:∀{c:Cell},Zjb c=true->sC n c=c
 | .ptr _ _ _,h=>by cases h
 | .sl _ _ _ _,h=>by cases h
 | .csl _ _ _ _,h=>by cases h
 | .fnb _ _,_=>rfl
 | .fn f caps,h=>by
  cases caps with
  | nil=>rfl
  | cons a t=>cases h
 | .int _ _,_=>rfl
 | .bool _,_=>rfl
 | .str _,_=>rfl
 | .nilp,_=>rfl
 | .gptr _ _,_=>rfl
 | .nils,_=>rfl
 | .nilf,_=>rfl
 | .nili,_=>rfl
theorem Zfu {n:Nat} {cs:List Cell} (h:cs.all Zjb=true):cs.map (sC n)=cs:=by
 induction cs with
 | nil=>rfl
 | cons c t ih =>
  simp only [Yn,Yd] at h
  rw [Yk,plain_s h.1,ih h.2]
theorem Zwy {n:Nat}:∀{c1 c2:List (Nat × Nat × Nat)},c1.map (fun p=>(n+p.1,p.2.1,p.2.2))=c2.map (fun p=>(n+p.1,p.2.1,p.2.2))->c1=c2
 | [],[],_=>rfl
 | [],_ :: _,h=>by simp at h
 | _ :: _,[],h=>by simp at h
 | (a1,a2,a3) :: t,(b1,b2,b3) :: u,h=>by
  simp only [Yk,List.cons.injEq,Prod.mk.injEq] at h
  obtain ⟨⟨e1,e2,e3⟩,e4⟩:=h
  have:a1=b1:=by omega
  subst this;subst e2;subst e3;rw [Zwy e4]
theorem Zwa {n:Nat} {a b:Cell} (h:sC n a=sC n b):a=b:=by
 cases a<;>cases b<;>simp only [sC,Cell.ptr.injEq,Cell.sl.injEq,Cell.csl.injEq,Cell.fnb.injEq,Cell.fn.injEq,Cell.int.injEq,Cell.bool.injEq,Cell.str.injEq,Cell.gptr.injEq,reduceCtorEq] at h ⊢
 all_goals first
  | exact h
  | exact ⟨h.1,Zwy h.2⟩
  | omega
theorem Zkl {α β:Type} {f:α->β} (hf:∀a b,f a=f b->a=b):∀{l m:List α},l.map f=m.map f->l=m
 | [],[],_=>rfl
 | [],_ :: _,h=>by simp at h
 | _ :: _,[],h=>by simp at h
 | a :: l,b :: m,h=>by
  simp only [Yk,List.cons.injEq] at h
  rw [hf _ _ h.1,Zkl hf h.2]
theorem sH_inj {g h h':Za} (e:sH g h=sH g h'):h=h':=by
 unfold sH at e
 refine Zkl (fun a b hab=>?_) (List.append_cancel_left e)
 cases a with
 | none=>cases b with
  | none=>rfl
  | some y=>cases hab
 | some x=>cases b with
  | none=>cases hab
  | some y =>
   simp only [Ye,Yan.injEq,sB,Blk.mk.injEq] at hab
   obtain ⟨o,e,cs⟩:=x
   obtain ⟨o',e',cs'⟩:=y
   simp only at hab
   obtain ⟨rfl,rfl,h3⟩:=hab
   rw [Zkl (fun _ _=>Zwa) h3]
section
variable {α:Type} {g:Za}
theorem len_sH (h:Za):(sH g h).length=g.length+h.length:=by simp [sH]
theorem Zga (h:Za) (k:Nat):blk? (sH g h) (g.length+k)=(blk? h k).map (sB g.length):=by
 unfold blk? sH
 rw [Yai (by omega),Yt,Yl]
 cases h[k]? with
 | none=>rfl
 | some b=>cases b<;>rfl
theorem set_sH (h:Za) (k:Nat) (b:Option Blk):setBlk (sH g h) (g.length+k) (b.map (sB g.length))=sH g (setBlk h k b):=by
 unfold setBlk sH
 rw [List.set_append_right _ _ (by omega),Yt,Yac]
theorem set_sH' (h:Za) (k:Nat) (b:Blk):setBlk (sH g h) (g.length+k) (some (sB g.length b))=sH g (setBlk h k (some b)):=set_sH h k (some b)
theorem app_sH (h:Za) (b:Blk):sH g h++[some (sB g.length b)]=sH g (h++[some b]):=by simp [sH]
theorem splice_s {n:Nat} (cs:List Cell) (o:Nat) (xs:List Cell):splice (cs.map (sC n)) o (xs.map (sC n))=(splice cs o xs).map (sC n):=by
 simp [splice,Yo,Yx]
theorem asI_s {n:Nat} (k:IntKind) (x:AV) (f:Int->Option α):Zi k (sA n x) f=Zi k x f:=by
 cases x with
 | agg cs=>rfl
 | c x=>cases x<;>rfl
theorem asB_s {n:Nat} (x:AV) (f:Bool->Option α):asB (sA n x) f=asB x f:=by
 cases x with
 | agg cs=>rfl
 | c x=>cases x<;>rfl
theorem asS_s {n:Nat} (x:AV) (f:ByteArray->Option α):asS (sA n x) f=asS x f:=by
 cases x with
 | agg cs=>rfl
 | c x=>cases x<;>rfl
theorem asC_s {n:Nat} (x:AV) (f:Cell->Option α):asC (sA n x) f=asC x fun c=>f (sC n c):=by cases x<;>rfl
theorem asA_s {n:Nat} (x:AV) (f:List Cell->Option α):asA (sA n x) f=asA x fun c=>f (c.map (sC n)):=by cases x<;>rfl
theorem Ztb {n:Nat} (r:RK) (x:AV) (f:AV->Option α):rkK r (sA n x) f=rkK r x fun y=>f (sA n y):=by
 cases r with
 | i k=>exact asI_s k x _
 | b=>exact asB_s x _
 | s=>exact asS_s x _
 | any=>exact asC_s x _
 | agg=>exact asA_s x _
theorem c0_s (o:Option (List AV × Za)) (f:Za->Option α):c0 (o.map (sR g)) f=c0 o fun h=>f (sH g h):=by
 cases o with
 | none=>rfl
 | some r =>
  obtain ⟨l,h⟩:=r
  cases l<;>rfl
theorem c1_s (o:Option (List AV × Za)) (f:AV->Za->Option α):c1 (o.map (sR g)) f=c1 o fun x h=>f (sA g.length x) (sH g h):=by
 cases o with
 | none=>rfl
 | some r =>
  obtain ⟨l,h⟩:=r
  rcases l with _ | ⟨a,_ | ⟨b,l⟩⟩<;>rfl
theorem c2_s (o:Option (List AV × Za)) (f:AV->AV->Za->Option α):c2 (o.map (sR g)) f=c2 o fun x y h=>f (sA g.length x) (sA g.length y) (sH g h):=by
 cases o with
 | none=>rfl
 | some r =>
  obtain ⟨l,h⟩:=r
  rcases l with _ | ⟨a,_ | ⟨b,_ | ⟨c,l⟩⟩⟩<;>rfl
theorem c3_s (o:Option (List AV × Za)) (f:AV->AV->AV->Za->Option α):c3 (o.map (sR g)) f=c3 o fun x y z h=>f (sA g.length x) (sA g.length y) (sA g.length z) (sH g h):=by
 cases o with
 | none=>rfl
 | some r =>
  obtain ⟨l,h⟩:=r
  rcases l with _ | ⟨a,_ | ⟨b,_ | ⟨c,_ | ⟨d,l⟩⟩⟩⟩<;>rfl
theorem c4_s (o:Option (List AV × Za)) (f:AV->AV->AV->AV->Za->Option α):c4 (o.map (sR g)) f=c4 o fun x y z u h=>f (sA g.length x) (sA g.length y) (sA g.length z) (sA g.length u) (sH g h):=by
 cases o with
 | none=>rfl
 | some r =>
  obtain ⟨l,h⟩:=r
  rcases l with _ | ⟨a,_ | ⟨b,_ | ⟨c,_ | ⟨d,_ | ⟨e,l⟩⟩⟩⟩⟩<;>rfl
theorem retK_s (rs:List RK) (o:Option (List AV × Za)) (f:TV->Za->Option α):Zci rs (o.map (sR g)) f=Zci rs o fun v h=>f (sT g.length v) (sH g h):=by
 rcases rs with _ | ⟨r,_ | ⟨q,_ | ⟨p,_ | ⟨t,_ | ⟨u,rs⟩⟩⟩⟩⟩
 ·exact c0_s o _
 ·unfold Zci
  dsimp only
  rw [c1_s];simp only [Ztb];rfl
 ·unfold Zci
  dsimp only
  rw [c2_s];simp only [Ztb];rfl
 ·unfold Zci
  dsimp only
  rw [c3_s];simp only [Ztb];rfl
 ·unfold Zci
  dsimp only
  rw [c4_s];simp only [Ztb];rfl
 ·rfl
theorem qh_s (h:Za) (o:Option (List AV × Za)):qh (sH g h) (o.map (sR g))=(qh h o).map (sR g):=by
 cases o with
 | none=>rfl
 | some r =>
  obtain ⟨l,h'⟩:=r
  unfold qh
  simp only [Ye,Yh,sR]
  by_cases e:h'=h
  ·subst e;rw [if_pos rfl,if_pos rfl];rfl
  ·rw [if_neg e,if_neg (fun q=>e (sH_inj q))];rfl
theorem blk_low (h:Za) {k:Nat} (hk:k<g.length):blk? (sH g h) k=blk? g k:=by unfold blk? sH;rw [Yy hk]
theorem sB_inj {n:Nat} {a b:Blk} (h:sB n a=sB n b):a=b:=by
 cases a;cases b
 unfold sB at h
 simp only [Blk.mk.injEq] at h
 obtain ⟨h1,h2,h3⟩:=h
 rw [h1,h2,Zkl (fun _ _=>Zwa) h3]
theorem z0_sH (h:Za) (k:Nat):z0 (sH g h) (g.length+k)=(z0 h k).map (sB g.length):=by
 unfold z0
 rw [Zga]
 cases blk? h k with
 | none=>rfl
 | some b =>
  simp only [Ye,Yh]
  by_cases he:b.esz=0
  ·rw [if_pos he,if_pos (show (sB g.length b).esz=0 from he)];rfl
  ·rw [if_neg he,if_neg (show ¬(sB g.length b).esz=0 from he)];rfl
theorem zh_s (h:Za) (o:Option (List AV × Za)):zh (sH g h) (o.map (sR g))=(zh h o).map (sR g):=by
 cases o with
 | none=>rfl
 | some r =>
  obtain ⟨l,h'⟩:=r
  unfold zh
  simp only [Ye,Yh]
  have e:((Yu ((sH g h).length+(sH g h').length)).all fun k=>decide (z0 (sH g h) k=z0 (sH g h') k))=true↔((Yu (h.length+h'.length)).all fun k=>decide (z0 h k=z0 h' k))=true:=by
   simp only [Yab,Yar,decide_eq_true_eq,len_sH]
   constructor
   ·intro q k hk
    have:=q (g.length+k) (by omega)
    rw [z0_sH,z0_sH] at this
    exact Option.map_injective (fun _ _=>sB_inj) this
   ·intro q k _
    by_cases hk:k<g.length
    ·unfold z0;rw [blk_low h hk,blk_low h' hk]
    ·obtain ⟨j,rfl⟩:=Nat.exists_eq_add_of_le (Nat.le_of_not_lt hk)
     rw [z0_sH,z0_sH]
     by_cases hj:j<h.length+h'.length
     ·rw [q j hj]
     ·have:∀H:Za,H.length<=j->z0 H j=none:=fun H hH=>by unfold z0 blk?;rw [Yg hH];rfl
      rw [this h (by omega),this h' (by omega)]
  show (if ((Yu ((sH g h).length+(sH g h').length)).all fun k=>decide (z0 (sH g h) k=z0 (sH g h') k))=true then some (sR g (l,h')) else none)=_
  by_cases c:((Yu (h.length+h'.length)).all fun k=>decide (z0 h k=z0 h' k))=true
  ·rw [if_pos c,if_pos (e.2 c)];rfl
  ·rw [if_neg c,if_neg (fun q=>c (e.1 q))];rfl
theorem rdH_s (h:Za) (k N:Nat) (f:List Cell->Option α):Zn (sH g h) (g.length+k) N f=Zn h k N fun cs=>f (cs.map (sC g.length)):=by
 unfold Zn
 rw [Zga]
 cases blk? h k with
 | none=>rfl
 | some b=>simp [sB]
theorem rd0_s (h:Za) (k N:Nat) (f:List Cell->Option α):rd0 (sH g h) (g.length+k) N f=rd0 h k N fun cs=>f (cs.map (sC g.length)):=by
 unfold rd0
 rw [Zga]
 cases blk? h k with
 | none=>rfl
 | some b=>simp only [Ye,Yh,sB];rw [rdH_s]
theorem rd0K_s (x:TV) (h:Za) (f:List Cell->Nat->Option α):Zsq (sT g.length x) (sH g h) f=Zsq x h fun cs o=>f (cs.map (sC g.length)) o:=by
 cases x with
 | v x =>
  cases x with
  | agg cs=>rfl
  | c c =>
   cases c<;>first | rfl | (exact rd0_s _ _ _ _)
 | _=>rfl
theorem putH_s (h:Za) (k:Nat) (cs:List Cell) (f:Za->Option α):Zbh (sH g h) (g.length+k) (cs.map (sC g.length)) f=Zbh h k cs fun h=>f (sH g h):=by
 unfold Zbh
 rw [Zga]
 cases blk? h k with
 | none=>rfl
 | some b =>
  simp only [Ye,Yh]
  have:some ({ (sB g.length b) with cs:=cs.map (sC g.length) }:Blk)=some (sB g.length { b with cs:=cs }):=rfl
  rw [this,set_sH'];rfl
theorem slotD (s:Ze) (i:Nat):(sS g.length s).getD i none=(s.getD i none).map (Yal (sC g.length)):=by
 unfold sS
 rw [Yf,Yf,Yl]
 cases s[i]?<;>rfl
theorem Zrx {G:Glo} (hG:∀k,(G.tab k).map (sC g.length)=G.tab k) (m:Mem) (x:TV) (s:Ze) (h:Za) (f:List Cell->Nat->Option α) :
  Zy G m (sT g.length x) (sS g.length s) (sH g h) f=Zy G m x s h fun cs o=>f (cs.map (sC g.length)) o:=by
 cases m with
 | slot q =>
  cases x with
  | loc s' off =>
   show (if s'=q then _ else _)=if s'=q then _ else _
   rw [slotD]
   cases s.getD q none<;>rfl
  | v x=>cases x with
   | agg cs=>rfl
   | c c=>cases c<;>rfl
  | _=>rfl
 | heap =>
  cases x with
  | v x=>cases x with
   | agg cs=>rfl
   | c c =>
    cases c with
    | ptr k N off=>exact rdH_s h k N fun cs=>f cs off
    | gptr k off=>show f _ _=f _ _;rw [hG]
    | _=>rfl
  | _=>rfl
theorem putK_s (m:Mem) (x:TV) (cs:List Cell) (s:Ze) (h:Za) (f:Ze->Za->Option α) :
  Zhi m (sT g.length x) (cs.map (sC g.length)) (sS g.length s) (sH g h) f=Zhi m x cs s h fun s h=>f (sS g.length s) (sH g h):=by
 cases m with
 | slot q =>
  have:(sS g.length s).set q (some (cs.map (sC g.length)))=sS g.length (s.set q (some cs)):=by unfold sS;rw [Yac];rfl
  show f _ _=f _ _
  rw [this]
 | heap =>
  cases x with
  | v x=>cases x with
   | agg cs=>rfl
   | c c =>
    cases c with
    | ptr k N off=>exact putH_s _ _ _ _
    | _=>rfl
  | _=>rfl
theorem binK_s {n:Nat} (G:Glo) (op:BinOp) (x y:AV) (f:AV->Option α):Zvw G op (sA n x) (sA n y) f=Zvw G op x y fun z=>f (sA n z):=by
 cases x with
 | agg cs=>rfl
 | c x=>cases y with
  | agg cs=>cases x<;>rfl
  | c y=>cases x<;>cases y<;>first | rfl | (show (if _ then _ else _)=if _ then _ else _;rw [intBinK_s (n:=n)]) | exact strBinK_s op _ _ f
theorem unK_s {n:Nat} (G:Glo) (op:UnOp) (x:AV) (f:AV->Option α):unK G op (sA n x) f=unK G op x fun z=>f (sA n z):=by
 cases x with
 | agg cs=>rfl
 | c x=>cases x<;>first | rfl | (cases op<;>rfl)
theorem cells_s {n:Nat} (x:AV):(sA n x).cells=x.cells.map (sC n):=by cases x<;>rfl
theorem Zpp {n:Nat}:∀(ps:List (Nat × Nat)) (xs:List TV) (cs:List Cell) (f:List Cell->Option α),Zcl ps (xs.map (sT n)) (cs.map (sC n)) f=Zcl ps xs cs fun cs=>f (cs.map (sC n))
 | [],[],cs,f=>rfl
 | [],_ :: _,_,_=>rfl
 | _ :: _,[],_,_=>rfl
 | (off,m) :: ps,x :: xs,cs,f=>by
  cases x with
  | v x =>
   show (if _ then _ else _)=if _ then _ else _
   rw [cells_s,Yi,Yi,splice_s,Zpp ps xs]
  | _=>rfl
def nI:TV->Option Int
 | .v (.c (.int _ l))=>some l
 | _=>none
theorem nI_s {n:Nat} (x:TV):nI (sT n x)=nI x:=by
 cases x with
 | v a=>cases a with
  | c c=>cases c<;>rfl
  | agg l=>rfl
 | _=>rfl
def bK (lo hi:Bool) (m:Nat) (f:Nat->Nat->Option α):List (Option Int)->Option α:=fun xs =>
 match lo,hi,xs with
 | false,false,[]=>f 0 m
 | true,false,[some l]=>if 0<=l/\l<=m then f l.toNat m else none
 | false,true,[some u]=>if 0<=u/\u<=m then f 0 u.toNat else none
 | true,true,[some l,some u]=>if 0<=l/\l<=u/\u<=m then f l.toNat u.toNat else none
 | _,_,_=>none
theorem bK_eq (lo hi:Bool) (m:Nat) (xs:List TV) (f:Nat->Nat->Option α):Zag lo hi m xs f=bK lo hi m f (xs.map nI):=by
 rcases xs with _ | ⟨x,_ | ⟨y,_ | ⟨z,t⟩⟩⟩
 ·cases lo<;>cases hi<;>rfl
 ·cases x with
  | v a=>cases a with
   | c c=>cases c<;>cases lo<;>cases hi<;>rfl
   | agg l=>cases lo<;>cases hi<;>rfl
  | _=>cases lo<;>cases hi<;>rfl
 ·cases x with
  | v a=>cases a with
   | c c=>cases c with
    | int k l=>cases y with
     | v a=>cases a with
      | c c=>cases c<;>cases lo<;>cases hi<;>rfl
      | agg l=>cases lo<;>cases hi<;>rfl
     | _=>cases lo<;>cases hi<;>rfl
    | _=>cases lo<;>cases hi<;>rfl
   | agg l=>cases lo<;>cases hi<;>rfl
  | _=>cases lo<;>cases hi<;>rfl
 ·cases lo<;>cases hi<;>cases x with
  | v a=>cases a with
   | c c=>cases c<;>first | rfl | (cases y with
     | v a=>cases a with
      | c c=>cases c<;>rfl
      | agg l=>rfl
     | _=>rfl)
   | agg l=>rfl
  | _=>rfl
theorem Zkk {n:Nat} (lo hi:Bool) (m:Nat) (xs:List TV) (f:Nat->Nat->Option α):Zag lo hi m (xs.map (sT n)) f=Zag lo hi m xs f:=by
 rw [bK_eq,bK_eq,Yw]
 congr 1
 exact Yav fun x _=>nI_s x
theorem Ztj (h:Za) (esz:Nat) (x:Cell):Zah (sH g h) esz (sC g.length x)=(Zah h esz x).map (Yal (sC g.length)):=by
 cases x with
 | sl k N off len =>
  unfold Zah
  simp only [sC]
  by_cases h0:len=0
  ·rw [if_pos h0,if_pos h0];rfl
  ·rw [if_neg h0,if_neg h0,Zga]
   cases blk? h k with
   | none=>rfl
   | some b =>
    simp only [Ye,sB,Yi]
    split
    ·simp [Yo,Yx]
    ·rfl
 | csl k N off len =>
  unfold Zah
  simp only [sC]
  rw [Zga]
  cases blk? h k with
  | none=>rfl
  | some b =>
   simp only [Ye,Yh,sB,Yi]
   split
   ·simp [Yo,Yx]
   ·rfl
 | nils=>rfl
 | _=>rfl
theorem appK_s (e b:Nat) (x:Cell) (xs:List Cell) (h:Za) (f:Cell->Za->Option α) :
  Zaq e b (sC g.length x) (xs.map (sC g.length)) (sH g h) f=Zaq e b x xs h fun c h=>f (sC g.length c) (sH g h):=by
 cases x with
 | nils =>
  unfold Zaq
  simp only [sC,Yi]
  have:some (Blk.mk true e (xs.map (sC g.length)))=some (sB g.length ⟨true,e,xs⟩):=rfl
  rw [this,app_sH,len_sH]
 | sl k N off len =>
  unfold Zaq
  simp only [sC]
  rw [Zga]
  cases blk? h k with
  | none=>rfl
  | some q =>
   simp only [Ye,Yh,sB,Yi]
   have e1:(some { own:=q.own,esz:=q.esz,cs:=splice (q.cs.map (sC g.length)) (off+len*e) (xs.map (sC g.length)) }:Option Blk)=some (sB g.length { q with cs:=splice q.cs (off+len*e) xs }):=by rw [splice_s];rfl
   have e2:(some { own:=q.own,esz:=q.esz,cs:=(q.cs.map (sC g.length)).take (len*e)++xs.map (sC g.length) }:Option Blk)=some (sB g.length { q with cs:=q.cs.take (len*e)++xs }):=by simp [sB,Yo]
   have e3:(some { own:=true,esz:=e,cs:=((q.cs.map (sC g.length)).drop off).take (len*e)++xs.map (sC g.length) }:Option Blk)=some (sB g.length { own:=true,esz:=e,cs:=(q.cs.drop off).take (len*e)++xs }):=by simp [sB,Yo,Yx]
   have e4:setBlk (sH g h) (g.length+k) none=sH g (setBlk h k none):=set_sH h k none
   rw [e1,e2,e3,set_sH',set_sH',e4,app_sH,len_sH]
 | csl k N off len =>
  unfold Zaq
  simp only [sC]
  rw [Zga]
  cases blk? h k with
  | none=>rfl
  | some q =>
   simp only [Ye,Yh,sB,Yi]
   have e3:(some { own:=true,esz:=e,cs:=((q.cs.map (sC g.length)).drop off).take (len*e)++xs.map (sC g.length) }:Option Blk)=some (sB g.length { own:=true,esz:=e,cs:=(q.cs.drop off).take (len*e)++xs }):=by simp [sB,Yo,Yx]
   rw [e3,app_sH,len_sH]
 | _=>rfl
theorem copyK_s (e:Nat) (x y:Cell) (h:Za) (f:Int->Za->Option α) :
  Zho e (sC g.length x) (sC g.length y) (sH g h) f=Zho e x y h fun n h=>f n (sH g h):=by
 unfold Zho
 rw [Ztj]
 cases Zah h e y with
 | none=>rfl
 | some xs =>
  simp only [Ye,Yh]
  cases x with
  | nils=>rfl
  | sl k N off len =>
   simp only [sC]
   rw [Zga]
   cases blk? h k with
   | none=>rfl
   | some q =>
    simp only [Ye,Yh,sB,Yi]
    have e1:(some { own:=q.own,esz:=q.esz,cs:=splice (q.cs.map (sC g.length)) off ((xs.map (sC g.length)).take (min (xs.length / e) len*e)) }:Option Blk)=some (sB g.length { q with cs:=splice q.cs off (xs.take (min (xs.length / e) len*e)) }):=by rw [←Yo,splice_s];rfl
    rw [e1,set_sH']
  | _=>rfl
theorem addrK_s (o:Nat) (x:TV) (f:TV->Option α):Zfc o (sT g.length x) f=Zfc o x fun x=>f (sT g.length x):=by
 cases x with
 | v x=>cases x with
  | agg cs=>rfl
  | c c=>cases c<;>rfl
 | _=>rfl
theorem okSl_s (h:Za) (e k N:Nat):Zgd (sH g h) e (g.length+k) N=Zgd h e k N:=by
 unfold Zgd
 rw [Zga]
 cases blk? h k with
 | none=>rfl
 | some b=>simp [sB]
theorem sliceK_s (h:Za) (e:Nat) (lo hi:Bool) (x:Cell) (xs:List TV) (f:Cell->Option α) :
  Zcg (sH g h) e lo hi (sC g.length x) (xs.map (sT g.length)) f=Zcg h e lo hi x xs fun c=>f (sC g.length c):=by
 cases x with
 | sl k N off len =>
  unfold Zcg;simp only [sC]
  rw [okSl_s,Zkk]
 | nils=>unfold Zcg;simp only [sC];rw [Zkk]
 | _=>rfl
theorem sliceAK_s (h:Za) (n e:Nat) (lo hi:Bool) (x:Cell) (xs:List TV) (f:Cell->Option α) :
  Zbs (sH g h) n e lo hi (sC g.length x) (xs.map (sT g.length)) f=Zbs h n e lo hi x xs fun c=>f (sC g.length c):=by
 cases x with
 | ptr k N off =>
  unfold Zbs;simp only [sC]
  rw [okSl_s,Zkk]
 | _=>rfl
theorem sliceStrK_s (lo hi:Bool) (x:Cell) (xs:List TV) (f:ByteArray->Option α) :
  Zgp lo hi (sC g.length x) (xs.map (sT g.length)) f=Zgp lo hi x xs f:=by
 cases x with
 | str b=>unfold Zgp;simp only [sC];rw [Zkk]
 | _=>rfl
theorem eqNilK_s {n:Nat} (b:Bool) (x y:Cell) (f:Bool->Option α):Zcm b (sC n x) (sC n y) f=Zcm b x y f:=by
 cases x<;>cases y<;>rfl
theorem alike1_s {n:Nat} (x y:Cell):alike1 (sC n x) y=alike1 x y:=by cases x<;>cases y<;>rfl
theorem alike_s {n:Nat}:∀(xs ys:List Cell),alike (xs.map (sC n)) ys=alike xs ys
 | [],[]=>rfl
 | [],_ :: _=>rfl
 | _ :: _,[]=>rfl
 | x :: xs,y :: ys=>by rw [Yk,alike,alike,alike1_s,alike_s xs ys]
theorem vals_s {n:Nat}:∀(xs:List TV),vals (xs.map (sT n))=(vals xs).map (Yal (sA n))
 | []=>rfl
 | x :: xs=>by
  have ih:=vals_s (n:=n) xs
  cases x with
  | v x =>
   show (vals (xs.map (sT n))).map _=_
   rw [ih,vals]
   cases vals xs<;>rfl
  | _=>rfl
theorem Zyl {n:Nat}:∀(xs:List TV),Zfl (xs.map (sT n))=(Zfl xs).map (Yal fun p=>(n+p.1,p.2.1,p.2.2))
 | []=>rfl
 | x :: xs=>by
  have ih:=Zyl (n:=n) xs
  cases x with
  | v x=>cases x with
   | agg cs=>rfl
   | c c=>cases c with
    | ptr k N off =>
     show (Zfl (xs.map (sT n))).map _=_
     rw [ih,Zfl]
     cases Zfl xs<;>rfl
    | _=>rfl
  | _=>rfl
theorem capAVs_s {n:Nat} (l:List (Nat × Nat × Nat)):Zjz (l.map fun p=>(n+p.1,p.2.1,p.2.2))=(Zjz l).map (sA n):=by
 unfold Zjz
 rw [Yw,Yw];rfl
def ShC (g:Za) (C:Zk):Prop:=∀f l h,C f (l.map (sA g.length)) (sH g h)=(C f l h).map (sR g)
theorem Zvx {C:Zk} (hC:ShC g C) (k:Nat) (rs:List RK) (xs:List TV) (caps:List AV) (h:Za) (f:TV->Za->Option α) :
  callK C k rs (xs.map (sT g.length)) (caps.map (sA g.length)) (sH g h) f=callK C k rs xs caps h fun v h=>f (sT g.length v) (sH g h):=by
 unfold callK
 rw [vals_s]
 cases vals xs with
 | none=>rfl
 | some l =>
  simp only [Ye,Yh]
  rw [←Yam,hC,retK_s]
theorem Zrq {C:Zk} (hC:ShC g C) (k:Nat) (rs:List RK) (xs:List TV) (caps:List AV) (h:Za) (f:TV->Option α) :
  qcallK C k rs (xs.map (sT g.length)) (caps.map (sA g.length)) (sH g h) f=qcallK C k rs xs caps h fun v=>f (sT g.length v):=by
 unfold qcallK
 rw [vals_s]
 cases vals xs with
 | none=>rfl
 | some l =>
  simp only [Ye,Yh]
  rw [←Yam,hC,qh_s,retK_s]
theorem fnK_s {n:Nat} (x:Cell) (f:Nat->List AV->Option α):fnK (sC n x) f=fnK x fun k l=>f k (l.map (sA n)):=by
 cases x with
 | fn k cs=>unfold fnK;simp only [sC];rw [capAVs_s]
 | _=>rfl
theorem markK_s (x:Cell) (h:Za) (f:Cell->Za->Option α):Zmc (sC g.length x) (sH g h) f=Zmc x h fun c h=>f (sC g.length c) (sH g h):=by
 cases x with
 | sl k N off len =>
  unfold Zmc;simp only [sC]
  rw [Zga]
  cases blk? h k with
  | none=>rfl
  | some b =>
   simp only [Ye,Yh]
   have e1:(some { (sB g.length b) with own:=false }:Option Blk)=some (sB g.length { b with own:=false }):=rfl
   rw [e1,set_sH'];simp [sB]
 | _=>rfl
theorem rep_s {n:Nat} (m:Nat) {z:List Cell} (hz:z.all Zjb=true):(rep m z).map (sC n)=rep m z:=by
 unfold rep
 rw [List.map_flatten,Yax,Zfu hz]
theorem k1_s {n:Nat} (xs:List TV) (f:TV->Option α):k1 (xs.map (sT n)) f=k1 xs fun x=>f (sT n x):=by
 rcases xs with _ | ⟨x,_ | ⟨y,xs⟩⟩<;>rfl
theorem k2_s {n:Nat} (xs:List TV) (f:TV->TV->Option α):k2 (xs.map (sT n)) f=k2 xs fun x y=>f (sT n x) (sT n y):=by
 rcases xs with _ | ⟨x,_ | ⟨y,_ | ⟨z,xs⟩⟩⟩<;>rfl
theorem intK_s {n:Nat} (x:TV) (f:IntKind->Int->Option α):Zeq (sT n x) f=Zeq x f:=by
 cases x with
 | v x=>cases x with
  | agg cs=>rfl
  | c c=>cases c<;>rfl
 | _=>rfl
theorem boolK_s {n:Nat} (x:TV) (f:Bool->Option α):Zue (sT n x) f=Zue x f:=by
 cases x with
 | v x=>cases x with
  | agg cs=>rfl
  | c c=>cases c<;>rfl
 | _=>rfl
theorem strK_s {n:Nat} (x:TV) (f:ByteArray->Option α):Zvl (sT n x) f=Zvl x f:=by
 cases x with
 | v x=>cases x with
  | agg cs=>rfl
  | c c=>cases c<;>rfl
 | _=>rfl
theorem aggK_s {n:Nat} (x:TV) (f:List Cell->Option α):Zjj (sT n x) f=Zjj x fun cs=>f (cs.map (sC n)):=by
 cases x with
 | v x=>cases x<;>rfl
 | _=>rfl
theorem cellK_s {n:Nat} (x:TV) (f:Cell->Option α):Zca (sT n x) f=Zca x fun c=>f (sC n c):=by
 cases x with
 | v x=>cases x<;>rfl
 | _=>rfl
theorem avK_s {n:Nat} (x:TV) (f:AV->Option α):avK (sT n x) f=avK x fun c=>f (sA n c):=by cases x<;>rfl
theorem atK_s {n:Nat} (cs:List Cell) (i:Nat) (f:Cell->Option α):Zf (cs.map (sC n)) i f=Zf cs i fun c=>f (sC n c):=by
 unfold Zf
 rw [Yl]
 cases cs[i]?<;>rfl
theorem idxSK_s {n:Nat} (e:Nat) (x:Cell) (i:Int) (f:Nat->Nat->Nat->Option α):Zm e (sC n x) i f=Zm e x i fun k N o=>f (n+k) N o:=by
 cases x<;>rfl
theorem headK_s {n:Nat} (xs:List TV) (f:Cell->List TV->Option α):Zcb (xs.map (sT n)) f=Zcb xs fun c xs=>f (sC n c) (xs.map (sT n)):=by
 rcases xs with _ | ⟨x,xs⟩
 ·rfl
 ·cases x with
  | v x=>cases x<;>rfl
  | _=>rfl
theorem lenK_s {n:Nat} (x:Cell) (f:Int->Option α):Zaj (sC n x) f=Zaj x f:=by cases x<;>rfl
theorem lenSK_s {n:Nat} (x:Cell) (f:Int->Option α):lenSK (sC n x) f=lenSK x f:=by cases x<;>rfl
theorem appXs_s (h:Za) (e:Nat) (x:TV):Zji (sH g h) e (sT g.length x)=(Zji h e x).map (Yal (sC g.length)):=by
 cases x with
 | v x=>cases x with
  | agg cs=>rfl
  | c c=>exact Ztj h e c
 | lit e' cs =>
  unfold Zji;simp only [sT]
  split<;>rfl
 | _=>rfl
theorem nilchkK_s {n:Nat} (x:TV) (f:TV->Option α):Zgi (sT n x) f=Zgi x fun x=>f (sT n x):=by
 cases x with
 | v x=>cases x with
  | agg cs=>rfl
  | c c=>cases c<;>rfl
 | _=>rfl
theorem Zxa {n:Nat}:∀cs:List Cell,Zit (cs.map (sC n))=Zit cs
 | []=>rfl
 | c :: cs=>by
  have ih:=Zxa (n:=n) cs
  cases c<;>first | rfl | (show (Zit (cs.map (sC n))).map _=_;rw [ih];rfl)
theorem Zq747 {n:Nat} (l:List (IntKind × Int)):(cellsOf l).map (sC n)=cellsOf l:=by
 unfold cellsOf;rw [Yw];rfl
theorem fnbK_s {n:Nat} (x:Cell) (f:Nat->List (IntKind × Int)->Option α):Zmp (sC n x) f=Zmp x f:=by cases x<;>rfl
theorem clipK_s {n:Nat} (x:Cell) (xs:List TV) (f:Cell->Option α):Zms (sC n x) (xs.map (sT n)) f=Zms x xs fun c=>f (sC n c):=by
 have key:∀(y:Cell) (ys:List TV) (f:Cell->Option α),Zms y ys f=(match ys.map nI with
   | [some a,some b]=>if a=b then (match y with | .nils=>if a=0 then f .nils else none | .sl k N off len=>if 0<a/\a<=len then f (.csl k N off a.toNat) else none | _=>none) else none
   | _=>none):=by
  intro y ys f
  rcases ys with _ | ⟨u,_ | ⟨v,_ | ⟨w,t⟩⟩⟩
  ·rfl
  ·cases u with
   | v a=>cases a with
    | c c=>cases c<;>rfl
    | agg l=>rfl
   | _=>rfl
  ·cases u with
   | v a=>cases a with
    | c c=>cases c with
     | int k i=>cases v with
      | v a=>cases a with
       | c c=>cases c<;>rfl
       | agg l=>rfl
      | _=>rfl
     | _=>rfl
    | agg l=>rfl
   | _=>rfl
  ·cases u with
   | v a=>cases a with
    | c c=>cases c with
     | int k i=>cases v with
      | v a=>cases a with
       | c c=>cases c<;>rfl
       | agg l=>rfl
      | _=>rfl
     | _=>rfl
    | agg l=>rfl
   | _=>rfl
 rw [key,key,Yw,show (nI ∘ sT n)=nI from funext nI_s]
 split
 ·cases x<;>rfl
 ·rfl
def plainK:K->Bool
 | .allocH z=>z.all Zjb
 | .build z _=>z.all Zjb
 | .bslice _ _ z _=>z.all Zjb
 | .lit _ _ z _=>z.all Zjb
 | .mks _ z _=>z.all Zjb
 | .b2s=>false
 | .s2b=>false
 | .fld _ _=>false
 | .fldN _ _=>false
 | .idxV _ _=>false
 | .idxVN _ _=>false
 | .pick=>false
 | _=>true
theorem app_s (h:Za) (o:Bool) (e:Nat) (cs:List Cell):sH g h++[some ⟨o,e,cs.map (sC g.length)⟩]=sH g (h++[some ⟨o,e,cs⟩]):=app_sH h ⟨o,e,cs⟩
theorem rkKc_s {n:Nat} (r:RK) (c:Cell) (f:AV->Option α):rkK r (.c (sC n c)) f=rkK r (.c c) fun y=>f (sA n y):=Ztb r (.c c) f
theorem mapset_s {n:Nat} (cs:List Cell) (o:Nat) (c:Cell):(cs.map (sC n)).set o (sC n c)=(cs.set o c).map (sC n):=by rw [Yac]
theorem mapcut_s {n:Nat} (cs:List Cell) (o k:Nat):((cs.map (sC n)).drop o).take k=((cs.drop o).take k).map (sC n):=by rw [Yo,Yx]
theorem stepK_sh {C:Zk} (hC:ShC g C) {G:Glo} (hG:∀k,(G.tab k).map (sC g.length)=G.tab k) {k:K} (hk:plainK k=true) (xs:List TV) (s:Ze) (h:Za) (f:TV->Ze->Za->Option α) :
  stepK C G k (xs.map (sT g.length)) (sS g.length s) (sH g h) f=stepK C G k xs s h fun v s h=>f (sT g.length v) (sS g.length s) (sH g h):=by
 cases k with
 | allocH z =>
  have hz:z.map (sC g.length)=z:=Zfu hk
  cases xs with
  | nil =>
   show f (.v (.c (.ptr (sH g h).length z.length 0))) (sS g.length s) (sH g h++[some ⟨true,0,z⟩])=f (.v (.c (.ptr (g.length+h.length) z.length 0))) (sS g.length s) (sH g (h++[some ⟨true,0,z⟩]))
   rw [len_sH,←app_s,hz]
  | cons _ _=>rfl
 | ext i =>
  rcases xs with _ | ⟨x,_ | ⟨y,t⟩⟩
  ·rfl
  ·cases x with
   | tup l =>
    show ((l.map (sA g.length))[i]?.bind fun x=>f (.v x) (sS g.length s) (sH g h))=l[i]?.bind fun x=>f (.v (sA g.length x)) (sS g.length s) (sH g h)
    rw [Yl]
    cases l[i]?<;>rfl
   | _=>rfl
  ·cases x<;>rfl
 | build z ps =>
  have hz:z.map (sC g.length)=z:=Zfu hk
  show Zcl ps (xs.map (sT g.length)) z (fun cs=>f (.v (.agg cs)) (sS g.length s) (sH g h))=Zcl ps xs z fun cs=>f (.v (.agg (cs.map (sC g.length)))) (sS g.length s) (sH g h)
  conv=>lhs;rw [←hz]
  rw [Zpp]
 | bslice e l z ps =>
  have hz:z.map (sC g.length)=z:=Zfu hk
  show Zcl ps (xs.map (sT g.length)) z (fun cs=>if cs.length=l*e then f (.v (.c (.sl (sH g h).length cs.length 0 l))) (sS g.length s) (sH g h++[some ⟨true,e,cs⟩]) else none)=Zcl ps xs z fun cs=>if cs.length=l*e then f (.v (.c (.sl (g.length+h.length) cs.length 0 l))) (sS g.length s) (sH g (h++[some ⟨true,e,cs⟩])) else none
  conv=>lhs;rw [←hz]
  rw [Zpp]
  simp only [Yi,len_sH,app_s]
 | lit e l z ps =>
  have hz:z.map (sC g.length)=z:=Zfu hk
  show Zcl ps (xs.map (sT g.length)) z (fun cs=>if cs.length=l*e then f (.lit e cs) (sS g.length s) (sH g h) else none)=Zcl ps xs z fun cs=>if cs.length=l*e then f (.lit e (cs.map (sC g.length))) (sS g.length s) (sH g h) else none
  conv=>lhs;rw [←hz]
  rw [Zpp]
  simp only [Yi]
 | mks e z by_ =>
  have hz:∀m,(rep m z).map (sC g.length)=rep m z:=fun m=>rep_s m hk
  simp only [stepK,k2_s,intK_s,len_sH,←app_s,hz];rfl
 | mkfn q =>
  simp only [stepK,Zyl]
  cases Zfl xs<;>rfl
 | call q rs=>simp only [stepK];exact Zvx hC q rs xs [] h fun v h=>f v (sS g.length s) h
 | qcall q rs=>simp only [stepK];exact Zrq hC q rs xs [] h fun v=>f v (sS g.length s) (sH g h)
 | callv rs =>
  simp only [stepK,headK_s,fnK_s]
  congr 1;funext x ys;congr 1;funext q cs
  exact Zvx hC q rs ys cs h fun v h=>f v (sS g.length s) h
 | qcallv rs =>
  simp only [stepK,headK_s,fnK_s]
  congr 1;funext x ys;congr 1;funext q cs
  exact Zrq hC q rs ys cs h fun v=>f v (sS g.length s) (sH g h)
 | qcallb rs =>
  simp only [stepK,headK_s,fnbK_s]
  congr 1;funext x ys;congr 1;funext q l
  have e:(TV.v (.agg (cellsOf l)) :: ys.map (sT g.length))=(TV.v (.agg (cellsOf l)) :: ys).map (sT g.length):=by
   show _=TV.v (.agg ((cellsOf l).map (sC g.length))) :: _;rw [Zq747]
  rw [e]
  exact Zrq hC q rs _ [] h fun v=>f v (sS g.length s) (sH g h)
 | mkfb q =>
  simp only [stepK,k1_s,aggK_s,Zxa]
  rfl
 | app e b =>
  simp only [stepK,k2_s,cellK_s,appXs_s]
  congr 1;funext x y;congr 1;funext c
  cases Zji h e y with
  | none=>rfl
  | some cs=>simp only [Ye,Yh,appK_s];rfl
 | mn=>simp only [stepK,k2_s,intK_s];rfl
 | mx=>simp only [stepK,k2_s,intK_s];rfl
 | ld0 r=>simp only [stepK,k1_s,rd0K_s,atK_s,rkKc_s];rfl
 | zcall q rs=>simp only [stepK];exact Zvx (C:=fun g l h=>zh h (C g l h)) (fun f l h=>by show zh _ (C f _ _)=_;rw [hC,zh_s]) q rs xs [] h fun v h=>f v (sS g.length s) h
 | b2s=>exact Yp (show false=true from hk)
 | s2b=>exact Yp (show false=true from hk)
 | eqA neg z =>
  simp only [stepK,k2_s,aggK_s]
  congr 1;funext x y;congr 1;funext cs;congr 1;funext ds
  have e:decide (cs.map (sC g.length)=ds.map (sC g.length))=decide (cs=ds):=decide_eq_decide.2 ⟨fun h=>Zkl (fun _ _=>Zwa) h,fun h=>by rw [h]⟩
  rw [alike_s,alike_s,e];rfl
 | fld _ _=>exact Yp (show false=true from hk)
 | fldN _ _=>exact Yp (show false=true from hk)
 | idxV _ _=>exact Yp (show false=true from hk)
 | idxVN _ _=>exact Yp (show false=true from hk)
 | pick=>exact Yp (show false=true from hk)
 | trap=>rfl
 | _ =>
  simp only [stepK,k1_s,k2_s,avK_s,cellK_s,aggK_s,intK_s,boolK_s,strK_s,headK_s,addrK_s,idxSK_s,lenK_s,lenSK_s,binK_s,unK_s,nilchkK_s,clipK_s,eqNilK_s,sliceK_s,sliceAK_s,sliceStrK_s,copyK_s,markK_s,Zrx hG,rkKc_s,atK_s,cells_s,Yi,len_sH,app_s,mapset_s,mapcut_s,splice_s,putK_s]
  try rfl
def Zqx:O->Bool
 | .t _=>true
 | .k x=>x.cells.all Zjb
def Zex:RL->Bool
 | .nil=>true
 | .op _ k xs r=>plainK k&&xs.all Zqx&&Zex r
 | .al _ _ z r=>z.all Zjb&&Zex r
 | .box _ _ x r=>Zqx x&&Zex r
 | .sc _ _ b _ _ _ r=>Zex b&&Zex r
def Zcj:IC->Bool
 | .reg _ _ r=>Zex r
 | .seq a b=>Zcj a&&Zcj b
 | .cond c x y=>Zqx c&&Zcj x&&Zcj y
 | .blk _ c=>Zcj c
 | .loop _ _ _ c=>Zcj c
 | .cut _ _ _ a b=>Zcj a&&Zcj b
 | .lift _ _=>false
 | _=>true
theorem sA_plain {n:Nat} {x:AV} (h:x.cells.all Zjb=true):sA n x=x:=by
 cases x with
 | c c=>simp only [AV.cells,Yn,List.all_nil,Bool.and_true] at h;show AV.c _=_;rw [plain_s h]
 | agg cs=>show AV.agg (cs.map (sC n))=_;rw [Zfu (show cs.all Zjb=true from h)]
theorem Znx {n:Nat} (t:List TV) (i:Nat):(t.map (sT n)).getD i .top=sT n (t.getD i .top):=by
 rw [Yf,Yf,Yl]
 cases t[i]?<;>rfl
theorem rdO_s (st:St) {o:O} (h:Zqx o=true):rdO (sSt g st) o=sT g.length (rdO st o):=by
 cases o with
 | t i=>exact Znx st.t i
 | k x=>show TV.v x=TV.v (sA _ x);rw [sA_plain h]
theorem rdOs_s (st:St):∀{xs:List O},xs.all Zqx=true->xs.map (rdO (sSt g st))=(xs.map (rdO st)).map (sT g.length)
 | [],_=>rfl
 | o :: xs,h=>by
  rw [Yn,Yd] at h
  rw [Yk,Yk,Yk,rdO_s st h.1,rdOs_s st h.2]
theorem isTop_s {n:Nat} (x:TV):(sT n x).isTop=x.isTop:=by cases x<;>rfl
theorem Zws {n:Nat}:∀xs:List TV,(xs.map (sT n)).any TV.isTop=xs.any TV.isTop
 | []=>rfl
 | x :: xs=>by rw [Yk,List.any_cons,List.any_cons,isTop_s,Zws xs]
theorem notLoc_s {n:Nat} (q:Nat) (x:TV):Zt q (sT n x)=Zt q x:=by cases x<;>rfl
theorem allLoc_s {n:Nat} (q:Nat):∀t:List TV,(t.map (sT n)).all (Zt q)=t.all (Zt q)
 | []=>rfl
 | x :: t=>by rw [Yk,Yn,Yn,notLoc_s,allLoc_s q t]
theorem Zuv {n:Nat} (t:List TV) (d:Option Nat) (v:TV):setT (t.map (sT n)) d (sT n v)=(setT t d v).map (sT n):=by
 cases d with
 | none=>rfl
 | some d=>show (t.map (sT n)).set d (sT n v)=(t.set d v).map (sT n);rw [Yac]
theorem Zsd {n:Nat} (t:List TV) (d:Nat):(t.map (sT n)).set d .top=(t.set d .top).map (sT n):=Zuv t (some d) .top
theorem setLoc_s {n:Nat} (t:List TV) (d q:Nat):(t.map (sT n)).set d (.loc q 0)=(t.set d (.loc q 0)).map (sT n):=Zuv t (some d) (.loc q 0)
theorem Zq764 {n:Nat} (t:List TV) (d:Nat) (b:Bool):(t.map (sT n)).set d (.v (.c (.bool b)))=(t.set d (.v (.c (.bool b)))).map (sT n):=Zuv t (some d) (.v (.c (.bool b)))
theorem setS_s {n:Nat} (s:Ze) (q:Nat) (cs:List Cell):(sS n s).set q (some (cs.map (sC n)))=sS n (s.set q (some cs)):=by
 unfold sS;rw [Yac];rfl
theorem kill_s {n:Nat}:∀(ds:List Nat) (t:List TV),Zde ds (t.map (sT n))=(Zde ds t).map (sT n)
 | [],t=>rfl
 | d :: ds,t=>by
  show Zde ds ((t.map (sT n)).set d .top)=(Zde ds (t.set d .top)).map (sT n)
  rw [Zsd,kill_s ds]
theorem outK_s (o:Nat) (st:St):Ziq o (sSt g st)=(Ziq o st).map fun p=>(p.1,sH g p.2):=by
 unfold Ziq
 rw [show (sSt g st).t.getD o .top=sT g.length (st.t.getD o .top) from Znx st.t o]
 cases st.t.getD o .top with
 | v x=>cases x with
  | c c=>cases c<;>rfl
  | agg l=>rfl
 | _=>rfl
theorem scK_s (c w:Bool) (x:Option (Bool × Za)) (d:Bool) (h:Za) (f:Bool->Za->Option α):scK c w (x.map fun p=>(p.1,sH g p.2)) d (sH g h) f=scK c w x d h fun b h=>f b (sH g h):=by
 unfold scK
 by_cases e:c=w
 ·rw [if_pos e,if_pos e];cases x<;>rfl
 ·rw [if_neg e,if_neg e];rfl
theorem runRL_s {C:Zk} (hC:ShC g C) {G:Glo} (hG:∀k,(G.tab k).map (sC g.length)=G.tab k):∀(r:RL),Zex r=true->∀{β:Type} (st:St) (f:St->Option β),Zab C G r (sSt g st) f=Zab C G r st fun st=>f (sSt g st):=by
 intro r
 induction r with
 | nil=>intro _ β st f;rfl
 | op d k xs r ih =>
  intro hp β st f
  unfold Zex at hp
  simp only [Yd] at hp
  unfold Zab
  rw [rdOs_s st hp.1.2,Zws]
  show (if _ then none else stepK C G k _ (sS g.length st.s) (sH g st.h) fun v s h=>Zab C G r ⟨setT (st.t.map (sT g.length)) d v,s,h⟩ f)=_
  rw [stepK_sh hC hG hp.1.1]
  congr 1;congr 1;funext v s h
  rw [Zuv]
  exact ih hp.2 ⟨setT st.t d v,s,h⟩ f
 | al d q z r ih =>
  intro hp β st f
  unfold Zex at hp
  rw [Yd] at hp
  unfold Zab
  show (if ((st.t.map (sT g.length)).set d .top).all (Zt q) then Zab C G r ⟨(st.t.map (sT g.length)).set d (.loc q 0),(sS g.length st.s).set q (some z),sH g st.h⟩ f else none)=_
  rw [Zsd,allLoc_s,setLoc_s,show (some z:Option (List Cell))=some (z.map (sC g.length)) by rw [Zfu hp.1],setS_s]
  congr 1
  rw [Zfu hp.1]
  exact ih hp.2 ⟨st.t.set d (.loc q 0),st.s.set q (some z),st.h⟩ f
 | box d q x r ih =>
  intro hp β st f
  unfold Zex at hp
  rw [Yd] at hp
  unfold Zab
  rw [rdO_s st hp.1]
  cases rdO st x with
  | v y =>
   show (if ((st.t.map (sT g.length)).set d .top).all (Zt q) then Zab C G r ⟨(st.t.map (sT g.length)).set d (.loc q 0),(sS g.length st.s).set q (some (sA g.length y).cells),sH g st.h⟩ f else none)=if (st.t.set d .top).all (Zt q) then Zab C G r ⟨st.t.set d (.loc q 0),st.s.set q (some y.cells),st.h⟩ (fun st=>f (sSt g st)) else none
   rw [Zsd,allLoc_s,setLoc_s,cells_s,setS_s]
   congr 1
   exact ih hp.2 ⟨st.t.set d (.loc q 0),st.s.set q (some y.cells),st.h⟩ f
  | _=>rfl
 | sc gd w b out d e r ihb ihr =>
  intro hp β st f
  unfold Zex at hp
  rw [Yd] at hp
  unfold Zab
  rw [show (sSt g st).t.getD gd .top=sT g.length (st.t.getD gd .top) from Znx st.t gd]
  cases st.t.getD gd .top with
  | v y=>cases y with
   | c c=>cases c with
    | bool x =>
     show scK x w (Zab C G b (sSt g st) (Ziq out)) e (sH g st.h) (fun y h=>Zab C G r ⟨(Zde b.dsts (st.t.map (sT g.length))).set d (.v (.c (.bool y))),sS g.length st.s,h⟩ f)=scK x w (Zab C G b st (Ziq out)) e st.h fun y h=>Zab C G r ⟨(Zde b.dsts st.t).set d (.v (.c (.bool y))),st.s,h⟩ fun st=>f (sSt g st)
     have hb:Zab C G b (sSt g st) (Ziq out)=(Zab C G b st (Ziq out)).map fun p=>(p.1,sH g p.2):=by
      rw [ihb hp.1]
      simp only [outK_s]
      have nat:∀(r:RL) (st:St) (k:St->Option (Bool × Za)) (m:Bool × Za->Bool × Za),Zab C G r st (fun st=>(k st).map m)=(Zab C G r st k).map m:=by
       intro r
       induction r with
       | nil=>intro st k m;rfl
       | op d k0 xs r ih =>
        intro st k m
        unfold Zab
        split
        ·rfl
        ·rw [stepK_nat,stepK_nat]
         cases Zat C G k0 (xs.map (rdO st)) st.s st.h with
         | none=>rfl
         | some p=>exact ih _ k m
       | al d q z r ih =>
        intro st k m
        unfold Zab
        split
        ·exact ih _ k m
        ·rfl
       | box d q x r ih =>
        intro st k m
        unfold Zab
        cases rdO st x with
        | v y =>
         dsimp only
         split
         ·exact ih _ k m
         ·rfl
        | _=>rfl
       | sc gd w b out d e r ihb ihr =>
        intro st k m
        unfold Zab
        cases st.t.getD gd .top with
        | v y=>cases y with
         | c c=>cases c with
          | bool x =>
           dsimp only
           unfold scK
           cases (if x=w then Zab C G b st (Ziq out) else some (e,st.h)) with
           | none=>rfl
           | some p=>exact ihr _ k m
          | _=>rfl
         | agg l=>rfl
        | _=>rfl
      exact nat b st (Ziq out) _
     rw [hb,scK_s]
     congr 1;funext y h
     rw [kill_s,Zq764]
     exact ihr hp.2 ⟨(Zde b.dsts st.t).set d (.v (.c (.bool y))),st.s,h⟩ f
    | _=>rfl
   | agg l=>rfl
  | _=>rfl
theorem Zpx {n:Nat}:∀(i:Nat) (live:List Nat) (t:List TV),Zas .top i live (t.map (sT n))=(Zas .top i live t).map (sT n)
 | i,live,[]=>by simp [Zas]
 | i,[],v :: t=>by
  show TV.top :: Zas .top (i+1) [] (t.map (sT n))=TV.top :: (Zas .top (i+1) [] t).map (sT n)
  rw [Zpx (i+1) [] t]
 | i,j :: js,v :: t=>by
  rw [Yk]
  unfold Zas
  split
  ·rw [Zpx (i+1) js t];rfl
  ·rw [Zpx (i+1) (j :: js) t];rfl
theorem Zpw {n:Nat}:∀(i:Nat) (live:List Nat) (t:Ze),Zas none i live (sS n t)=sS n (Zas none i live t)
 | i,live,[]=>by simp [Zas,sS]
 | i,[],v :: t=>by
  show none :: Zas none (i+1) [] (sS n t)=none :: sS n (Zas none (i+1) [] t)
  rw [Zpw (i+1) [] t]
 | i,j :: js,v :: t=>by
  show Zas none i (j :: js) (_ :: sS n t)=_
  unfold Zas
  split
  ·rw [Zpw (i+1) js t];rfl
  ·rw [Zpw (i+1) (j :: js) t];rfl
theorem keep_s (st:St) (live ls:List Nat):(sSt g st).keep live ls=sSt g (st.keep live ls):=by
 show (⟨Zas .top 0 live (st.t.map (sT g.length)),Zas none 0 ls (sS g.length st.s),sH g st.h⟩:St)=_
 rw [Zpx,Zpw];rfl
def sP (g:Za) (p:Ex × St):Ex × St:=(p.1,sSt g p.2)
def ShL (g:Za) (L:Zbl):Prop:=∀F,(∀st,F (sSt g st)=(F st).map (sP g))->∀st,L F (sSt g st)=(L F st).map (sP g)
theorem loopN_s:∀n,ShL g (Zbu n)
 | 0=>fun F hF st=>rfl
 | n+1=>fun F hF st=>by
  rw [loopN_step,loopN_step,hF]
  cases F st with
  | none=>rfl
  | some p =>
   obtain ⟨e,st'⟩:=p
   cases e with
   | normal=>exact loopN_s n F hF st'
   | exit i=>rfl
   | ret=>rfl
theorem kLoop_s (live ls:List Nat) (X:List (Nat × List Nat × List Nat)) (e:Ex) (st:St):Zaf live ls X e (sSt g st)=(Zaf live ls X e st).map (sP g):=by
 cases e<;>simp only [Zaf,keep_s,Ye]<;>rfl
theorem drawOk_s (d:Bool) (r:RL) (t:List TV) {n:Nat}:Zgf d r (t.map (sT n))=Zgf d r t:=by
 unfold Zgf
 congr 1
 congr 1
 funext q
 exact allLoc_s q t
theorem Zrb (C:Zk) (L:Zbl) (G:Glo):∀(c:IC) {β γ:Type} (m:β->γ) (st:St) (k:Ex->St->Option β),c.exec C L G st (fun e st=>(k e st).map m)=(c.exec C L G st k).map m:=by
 have row:∀(r:RL) {β γ:Type} (m:β->γ) (st:St) (k:St->Option β),Zab C G r st (fun st=>(k st).map m)=(Zab C G r st k).map m:=by
  intro r
  induction r with
  | nil=>intro β γ m st k;rfl
  | op d k0 xs r ih =>
   intro β γ m st k
   unfold Zab
   split
   ·rfl
   ·rw [stepK_nat,stepK_nat]
    cases Zat C G k0 (xs.map (rdO st)) st.s st.h with
    | none=>rfl
    | some p=>exact ih m _ k
  | al d q z r ih =>
   intro β γ m st k
   unfold Zab
   split
   ·exact ih m _ k
   ·rfl
  | box d q x r ih =>
   intro β γ m st k
   unfold Zab
   cases rdO st x with
   | v y =>
    dsimp only
    split
    ·exact ih m _ k
    ·rfl
   | _=>rfl
  | sc gd w b out d e r ihb ihr =>
   intro β γ m st k
   unfold Zab
   cases st.t.getD gd .top with
   | v y=>cases y with
    | c c=>cases c with
     | bool x =>
      dsimp only
      unfold scK
      cases (if x=w then Zab C G b st (Ziq out) else some (e,st.h)) with
      | none=>rfl
      | some p=>exact ihr m _ k
     | _=>rfl
    | agg l=>rfl
   | _=>rfl
 intro c
 induction c with
 | skip=>intro β γ m st k;rfl
 | exit i=>intro β γ m st k;rfl
 | ret=>intro β γ m st k;rfl
 | reg id d r =>
  intro β γ m st k
  unfold IC.exec
  split
  ·exact row r m st fun st=>k .normal st
  ·rfl
 | seq a b iha ihb =>
  intro β γ m st k
  unfold IC.exec
  rw [←iha]
  congr 1;funext e st
  cases e with
  | normal=>exact ihb m st k
  | exit i=>rfl
  | ret=>rfl
 | cond c x y ihx ihy =>
  intro β γ m st k
  unfold IC.exec
  cases rdO st c with
  | v u=>cases u with
   | c c=>cases c with
    | bool b=>dsimp only;cases b;exact ihy m st k;exact ihx m st k
    | _=>rfl
   | agg l=>rfl
  | _=>rfl
 | blk id c ih =>
  intro β γ m st k
  unfold IC.exec
  rw [←ih]
  congr 1;funext e st
  cases e with
  | normal=>rfl
  | exit i=>unfold Zap;dsimp only;split<;>rfl
  | ret=>rfl
 | loop live ls X c ih =>
  intro β γ m st k
  unfold IC.exec
  cases L (Zo (fun st f=>c.exec C L G st f) live ls X) (st.keep live ls)<;>rfl
 | cut live ls X a b iha ihb =>
  intro β γ m st k
  unfold IC.exec
  cases a.exec C L G st (Zaf live ls X) with
  | none=>rfl
  | some p =>
   obtain ⟨e,st'⟩:=p
   cases e with
   | normal=>exact ihb m st' k
   | exit i=>rfl
   | ret=>rfl
 | lift s a ih =>
  intro β γ m st k
  unfold IC.exec
  cases st.s.getD s none with
  | none=>rfl
  | some cs=>exact ih m _ k
theorem exec_s {C:Zk} {L:Zbl} (hC:ShC g C) (hL:ShL g L) {G:Glo} (hG:∀k,(G.tab k).map (sC g.length)=G.tab k):∀(c:IC),Zcj c=true->∀{β:Type} (st:St) (f:Ex->St->Option β),c.exec C L G (sSt g st) f=c.exec C L G st fun e st=>f e (sSt g st):=by
 intro c
 induction c with
 | skip=>intro _ β st f;rfl
 | exit i=>intro _ β st f;rfl
 | ret=>intro _ β st f;rfl
 | lift s a ih=>intro hp;cases hp
 | reg id d r =>
  intro hp β st f
  unfold IC.exec
  rw [show Zgf d r (sSt g st).t=Zgf d r st.t from drawOk_s d r st.t]
  congr 1
  exact runRL_s hC hG r hp st fun st=>f .normal st
 | seq a b iha ihb =>
  intro hp β st f
  unfold Zcj at hp
  rw [Yd] at hp
  unfold IC.exec
  rw [iha hp.1]
  congr 1;funext e st
  cases e with
  | normal=>exact ihb hp.2 st f
  | exit i=>rfl
  | ret=>rfl
 | cond c x y ihx ihy =>
  intro hp β st f
  unfold Zcj at hp
  simp only [Yd] at hp
  unfold IC.exec
  rw [rdO_s st hp.1.1]
  cases rdO st c with
  | v u=>cases u with
   | c c=>cases c with
    | bool b =>
     show (if b=true then x.exec C L G (sSt g st) f else y.exec C L G (sSt g st) f)=if b=true then x.exec C L G st (fun e st=>f e (sSt g st)) else y.exec C L G st fun e st=>f e (sSt g st)
     rw [ihx hp.1.2,ihy hp.2]
    | _=>rfl
   | agg l=>rfl
  | _=>rfl
 | blk id c ih =>
  intro hp β st f
  unfold IC.exec
  rw [ih hp]
  congr 1;funext e st
  cases e with
  | normal=>rfl
  | exit i=>rfl
  | ret=>rfl
 | loop live ls X c ih =>
  intro hp β st f
  unfold IC.exec
  have hF:∀st,Zo (fun st f=>c.exec C L G st f) live ls X (sSt g st)=(Zo (fun st f=>c.exec C L G st f) live ls X st).map (sP g):=by
   intro st
   show c.exec C L G (sSt g st) (Zaf live ls X)=(c.exec C L G st (Zaf live ls X)).map (sP g)
   rw [ih hp]
   simp only [kLoop_s]
   exact Zrb C L G c (sP g) st _
  rw [keep_s,hL _ hF]
  cases L (Zo (fun st f=>c.exec C L G st f) live ls X) (st.keep live ls)<;>rfl
 | cut live ls X a b iha ihb =>
  intro hp β st f
  unfold Zcj at hp
  rw [Yd] at hp
  unfold IC.exec
  rw [iha hp.1]
  simp only [kLoop_s]
  rw [Zrb C L G a (sP g) st]
  cases a.exec C L G st (Zaf live ls X) with
  | none=>rfl
  | some p =>
   obtain ⟨e,st'⟩:=p
   cases e with
   | normal=>exact ihb hp.2 st' f
   | exit i=>rfl
   | ret=>rfl
theorem Zwh {G:Glo} (hG:∀k,(G.tab k).map (sC g.length)=G.tab k):∀(rs:List Res) (st:St) (f:List AV->Option α),Zcn G rs (sSt g st) f=Zcn G rs st fun l=>f (l.map (sA g.length))
 | [],st,f=>rfl
 | .t i r :: rs,st,f=>by
  unfold Zcn
  rw [show (sSt g st).t.getD i .top=sT g.length (st.t.getD i .top) from Znx st.t i]
  cases st.t.getD i .top with
  | v x =>
   show rkK r (sA g.length x) (fun y=>Zcn G rs (sSt g st) fun ys=>f (y :: ys))=rkK r x fun y=>Zcn G rs st fun ys=>f (sA g.length y :: ys.map (sA g.length))
   rw [Ztb]
   congr 1;funext y
   exact Zwh hG rs st fun ys=>f (sA g.length y :: ys)
  | _=>rfl
 | .one m i r :: rs,st,f=>by
  unfold Zcn
  rw [show (sSt g st).t.getD i .top=sT g.length (st.t.getD i .top) from Znx st.t i]
  show Zy G m (sT g.length (st.t.getD i .top)) (sS g.length st.s) (sH g st.h) _=_
  rw [Zrx hG]
  congr 1;funext cs off
  rw [Yl]
  cases cs[off]? with
  | none=>rfl
  | some c =>
   show rkK r (.c (sC g.length c)) (fun y=>Zcn G rs (sSt g st) fun ys=>f (y :: ys))=rkK r (.c c) fun y=>Zcn G rs st fun ys=>f (sA g.length y :: ys.map (sA g.length))
   rw [rkKc_s]
   congr 1;funext y
   exact Zwh hG rs st fun ys=>f (sA g.length y :: ys)
 | .all m i n :: rs,st,f=>by
  unfold Zcn
  rw [show (sSt g st).t.getD i .top=sT g.length (st.t.getD i .top) from Znx st.t i]
  show Zy G m (sT g.length (st.t.getD i .top)) (sS g.length st.s) (sH g st.h) _=_
  rw [Zrx hG]
  congr 1;funext cs off
  rw [Yi]
  congr 1
  exact Zwh hG rs st fun ys=>f (.agg (cs.map (sC g.length)) :: ys)
theorem idOk_s {n m:Nat} (c:Cell):Zcq (n+m) (sC n c)=Zcq m c:=by
 cases c
 case fn f caps =>
  simp only [sC,Zcq]
  rw [List.all_map]
  congr 1
  funext p
  obtain ⟨a,b,c⟩:=p
  show decide (n+a<n+m)=decide (a<m)
  rw [decide_eq_decide];omega
 all_goals first
  | rfl
  | (simp only [sC,Zcq];rw [decide_eq_decide];omega)
theorem Zus {n m:Nat}:∀cs:List Cell,(cs.map (sC n)).all (Zcq (n+m))=cs.all (Zcq m)
 | []=>rfl
 | c :: cs=>by rw [Yk,Yn,Yn,idOk_s,Zus cs]
theorem avOks_s {n m:Nat}:∀l:List AV,(l.map (sA n)).all (Zls (n+m))=l.all (Zls m)
 | []=>rfl
 | x :: l=>by
  rw [Yk,Yn,Yn,avOks_s l]
  congr 1
  unfold Zls
  rw [cells_s,Zus]
theorem sHget (h:Za) (j:Nat):(sH g h)[g.length+j]? = (h[j]?).map (Yau (sB g.length)):=by
 unfold sH
 rw [Yai (by omega),Yt,Yl]
theorem oB_inj {n:Nat} {a b:Option Blk} (h:a.map (sB n)=b.map (sB n)):a=b:=by
 cases a with
 | none=>cases b with
  | none=>rfl
  | some y=>cases h
 | some x=>cases b with
  | none=>cases h
  | some y =>
   simp only [Ye,Yan.injEq,sB,Blk.mk.injEq] at h
   obtain ⟨o,e,cs⟩:=x
   obtain ⟨o',e',cs'⟩:=y
   simp only at h
   obtain ⟨rfl,rfl,h3⟩:=h
   rw [Zkl (fun _ _=>Zwa) h3]
theorem gcOk_s (h h':Za) (l:List AV):Znt (sH g h) (sH g h') (l.map (sA g.length))=Znt h h' l:=by
 unfold Znt
 rw [len_sH,len_sH,avOks_s]
 congr 1
 ·congr 1
  rw [decide_eq_decide];omega
 ·rw [Yv,Yab,Yab]
  have key:∀j,(decide ((sH g h')[g.length+j]? = (sH g h)[g.length+j]?)||(match blk? (sH g h') (g.length+j) with | some b=>b.cs.all (Zcq (g.length+h.length)) | none=>true))=(decide (h'[j]? = h[j]?)||(match blk? h' j with | some b=>b.cs.all (Zcq h.length) | none=>true)):=by
   intro j
   rw [sHget,sHget,Zga]
   congr 1
   ·rw [decide_eq_decide]
    constructor
    ·intro e
     cases h1:h'[j]? with
     | none=>cases h2:h[j]? with
      | none=>rfl
      | some y=>rw [h1,h2] at e;cases e
     | some x=>cases h2:h[j]? with
      | none=>rw [h1,h2] at e;cases e
      | some y=>rw [h1,h2] at e;simp only [Ye,Yan.injEq] at e;rw [oB_inj e]
    ·intro e;rw [e]
   ·cases blk? h' j with
    | none=>rfl
    | some b=>exact Zus b.cs
  constructor
  ·intro hh j hj
   exact (key j).symm.trans (hh (g.length+j) (by rw [Yar] at hj ⊢;omega))
  ·intro hh k hk
   by_cases hg:k<g.length
   ·have:(sH g h')[k]? = (sH g h)[k]?:=by unfold sH;rw [Yy hg,Yy hg]
    rw [this];simp
   ·have e:k=g.length+(k - g.length):=by omega
    rw [e]
    exact (key _).trans (hh _ (by rw [Yar] at hk ⊢;omega))
theorem finish_s (gc:Bool) (h:Za) (l:List AV) (h':Za):Zbe gc (sH g h) (l.map (sA g.length)) (sH g h')=(Zbe gc h l h').map (sR g):=by
 cases gc with
 | false=>rfl
 | true =>
  show (if Znt (sH g h) (sH g h') (l.map (sA g.length))=true then some (l.map (sA g.length),(sH g h').take (sH g h).length) else none)=(if Znt h h' l=true then some (l,h'.take h.length) else none).map (sR g)
  rw [gcOk_s]
  split
  ·have:(sH g h').take (sH g h).length=sH g (h'.take h.length):=by
    rw [len_sH];unfold sH
    rw [List.take_append,List.take_of_length_le (by omega),Yt,Yo]
   rw [this];rfl
  ·rfl
theorem body_s {C:Zk} {L:Zbl} (hC:ShC g C) (hL:ShL g L) {G:Glo} (hG:∀k,(G.tab k).map (sC g.length)=G.tab k) {fn:Fn} (hp:Zcj fn.code=true) (args:List AV) (h:Za) :
  fn.body C L G (args.map (sA g.length)) (sH g h)=(fn.body C L G args h).map (sR g):=by
 unfold Fn.body
 rw [Yi]
 split
 ·have hi:fn.init (args.map (sA g.length)) (sH g h)=sSt g (fn.init args h):=by
   unfold Fn.init sSt
   simp only [Yam,Yw,Yax,sS]
   rfl
  rw [hi,exec_s hC hL hG _ hp,←Zrb]
  congr 1;funext e st
  have hfin:(Zcn G fn.res (sSt g st) fun l=>Zbe fn.gc (sH g h) l (sSt g st).h)=(Zcn G fn.res st fun l=>Zbe fn.gc h l st.h).map (sR g):=by
   rw [Zwh hG]
   have nat:∀(rs:List Res) (k:List AV->Option (List AV × Za)),(Zcn G rs st fun l=>(k l).map (sR g))=(Zcn G rs st k).map (sR g):=by
    intro rs
    induction rs with
    | nil=>intro k;rfl
    | cons r rs ih =>
     intro k
     have rk:∀(r:RK) (x:AV) (k:AV->Option (List AV × Za)),rkK r x (fun y=>(k y).map (sR g))=(rkK r x k).map (sR g):=by
      intro r x k
      rcases Zje r x with hn | ⟨v,hv⟩
      ·rw [show rkK r x (fun y=>(k y).map (sR g))=none from hn _ _,show rkK r x k=none from hn _ _];rfl
      ·rw [show rkK r x (fun y=>(k y).map (sR g))=_ from hv _ _,show rkK r x k=_ from hv _ _]
     have pl:∀(m:Mem) (x:TV) (k:List Cell->Nat->Option (List AV × Za)),Zy G m x st.s st.h (fun cs o=>(k cs o).map (sR g))=(Zy G m x st.s st.h k).map (sR g):=by
      intro m x k
      rcases Zzc G m x st.s st.h with hn | ⟨u,v,hv⟩
      ·rw [show Zy G m x st.s st.h (fun cs o=>(k cs o).map (sR g))=none from hn _ _,show Zy G m x st.s st.h k=none from hn _ _];rfl
      ·rw [show Zy G m x st.s st.h (fun cs o=>(k cs o).map (sR g))=_ from hv _ _,show Zy G m x st.s st.h k=_ from hv _ _]
     cases r with
     | t i r =>
      unfold Zcn
      cases st.t.getD i .top with
      | v x =>
       show rkK r x (fun y=>Zcn G rs st fun ys=>(k (y :: ys)).map (sR g))=(rkK r x fun y=>Zcn G rs st fun ys=>k (y :: ys)).map (sR g)
       rw [←rk];congr 1;funext y;exact ih fun ys=>k (y :: ys)
      | _=>rfl
     | one m i r =>
      unfold Zcn
      rw [←pl];congr 1;funext cs off
      cases cs[off]? with
      | none=>rfl
      | some c =>
       show rkK r (.c c) (fun y=>Zcn G rs st fun ys=>(k (y :: ys)).map (sR g))=(rkK r (.c c) fun y=>Zcn G rs st fun ys=>k (y :: ys)).map (sR g)
       rw [←rk];congr 1;funext y;exact ih fun ys=>k (y :: ys)
     | all m i n =>
      unfold Zcn
      rw [←pl];congr 1;funext cs off
      split
      ·exact ih fun ys=>k (.agg cs :: ys)
      ·rfl
   rw [←nat]
   congr 1;funext l
   exact finish_s fn.gc h l st.h
  cases e with
  | normal=>exact hfin
  | ret=>exact hfin
  | exit i=>rfl
 ·rfl
theorem runN_s {E:Env} (hF:∀f fn,E.fn f=some fn->Zcj fn.code=true) (hX:∀f l h,E.ext f l h=none) (hG:∀k,(E.tab k).map (sC g.length)=E.tab k):∀n,ShC g (Zdr E n)
 | 0=>fun f l h=>rfl
 | n+1=>fun f l h=>by
  unfold Zdr
  cases hf:E.fn f with
  | none=>show E.ext f _ _=(E.ext f l h).map _;rw [hX,hX];rfl
  | some fn=>exact body_s (runN_s hF hX hG n) (loopN_s n) hG (hF f fn hf) l h
theorem R_s {E:Env} (hF:∀f fn,E.fn f=some fn->Zcj fn.code=true) (hX:∀f l h,E.ext f l h=none) (hG:∀k,(E.tab k).map (sC g.length)=E.tab k) {f:Nat} {args:List AV} {h:Za} {r:List AV × Za} (hr:R E f args h=some r) :
  R E f (args.map (sA g.length)) (sH g h)=some (sR g r):=by
 obtain ⟨n,hn⟩:=Zgq hr
 exact Zom (n:=n) (by rw [runN_s hF hX hG n,hn];rfl)
end
def awkL:List (Nat × Fn):=[(3,q3),(9,q9),(10,q10),(12,q12),(14,q14),(16,q16),
 (17,q17),(18,q18),(19,q19),(20,q20),(26,q26),(32,q32),
 (38,q38),(40,q40),(41,q41),(42,q42),(52,q52),(58,q58),
 (59,q59),(61,q61),(63,q63),(65,q65),(66,q66),(72,q72),
 (73,q73),(79,q79),(80,q80),(82,q82),(88,q88),(90,q90),
 (94,q94),(102,q102),(105,q105),(106,q106),(108,q108),(109,q109),
 (113,q113),(114,q114),(119,q119),(124,q124),(125,q125),(139,q139),
 (148,q148),(155,q155),(156,q156),(158,q158),(159,q159),(163,q163),
 (164,q164),(171,q171),(172,q172),(173,q173),(184,q184),(187,q187),
 (188,q188),(189,q189),(190,q190),(191,q191),(192,q192),(193,q193),
 (194,q194),(195,q195),(200,q200),(201,q201),(202,q202),(203,q203),
 (204,q204),(205,q205),(206,q206),(207,q207),(255,q255),(257,q257),
 (265,q265),(266,q266),(267,q267),(268,q268),(273,q273),(274,q274),
 (282,q282),(283,q283),(296,q296),(297,q297),(300,q300),(309,q309),
 (310,q310),(311,q311),(312,q312),(313,q313),(314,q314),(316,q316),
 (317,q317),(318,q318),(319,q319),(320,q320),(321,q321),(322,q322),
 (323,q323),(324,q324),(325,q325),(326,q326),(327,q327),(328,q328),
 (329,q329),(330,q330),(331,q331),(332,q332),(333,q333),(334,q334),
 (335,q335),(336,q336),(337,q337),(338,q338),(339,q339),(340,q340),
 (341,q341),(342,q342),(343,q343),(344,q344),(345,q345),(346,q346),
 (347,q347),(348,q348),(349,q349),(350,q350),(351,q351),(352,q352),
 (353,q353),(354,q354),(355,q355),(356,q356),(357,q357),(358,q358),
 (359,q359),(360,q360),(361,q361),(362,q362),(363,q363),(364,q364),
 (365,q365),(366,q366),(367,q367),(368,q368),(369,q369),(370,q370),
 (371,q371),(372,q372),(373,q373),(374,q374),(375,q375),(376,q376),
 (377,q377),(378,q378),(379,q379),(380,q380),(381,q381),(382,q382),
 (383,q383),(384,q384),(385,q385),(386,q386),(387,q387),(388,q388),
 (389,q389),(390,q390),(391,q391),(392,q392),(393,q393),(394,q394),
 (395,q395),(396,q396),(397,q397),(398,q398),(399,q399),(400,q400),
 (401,q401),(402,q402),(432,q432)]
noncomputable def lookL (f:Nat) (l:List (Nat × Fn)):Option Fn:=List.rec none (fun p _ ih=>Bool.rec ih (some p.2) (Ybi p.1 f)) l
noncomputable def awkF (f:Nat):Option Fn:=lookL f awkL
def Zpi:Nat->List Cell:=fun k=>if k=1 then [0,1,56,2,57,49,28,3,61,58,42,50,38,29,17,4,62,47,59,36,45,43,51,22,53,39,33,30,24,18,12,5,63,55,48,27,60,41,37,16,46,35,44,21,52,32,23,11,54,26,40,15,34,20,31,10,25,14,19,9,13,8,7,6].map (Cell.int .u8) else []
noncomputable def awkE:Env:={ fn:=awkF,tab:=Zpi }
def sbCs:List Cell:=[.sl 0 2 0 2,.sl 1 2 0 2,.sl 4 2 0 2]
noncomputable def Zwn:Tre:=Zhw (Zhw (Zhw (Zhw (Zhw .e (some ⟨2,false,1,[.int .u8 120,.int .u8 121]⟩) 0) (some ⟨2,true,1,[.int .i64 0,.int .i64 0]⟩) 1)
 (some ⟨18,true,9,[1,0,0,-1,1,0,0,0,0,2,0,1,0,0,0,0,0,0].map (Cell.int .i64)⟩) 2) (some ⟨18,true,9,[1,0,1,-1,1,0,0,0,0,2,0,0,0,0,0,0,0,0].map (Cell.int .i64)⟩) 3) (some ⟨2,true,1,[.sl 2 18 0 2,.sl 3 18 0 2]⟩) 4
def told (l:List AV) (n:Nat) (o:Option (List AV × Nat × Tre)):Bool:=match o with
 | some (l',n',_)=>decide (l'=l)&&Ybi n' n
 | none=>false
theorem Zzp {l:List AV} {n:Nat} {o:Option (List AV × Nat × Tre)} (h:told l n o=true):∃H,o=some (l,n,H):=by
 unfold told at h
 split at h
 ·rename_i l' n' H
  rw [Yd] at h
  exact ⟨H,by rw [of_decide_eq_true h.1,Yas h.2]⟩
 ·cases h
set_option maxRecDepth 1000000 in
theorem awk_SB:bev (Glo.std Zpi) awkF 100 187 [] 0 0 .e=some ([.agg sbCs],5,Zwn):=by kernel_rfl
set_option maxRecDepth 1000000 in
theorem awk_expl:told [.agg [.sl 39 4 0 4,.int .i64 0,.int .i64 27,.bool true]] 126 (bev (Glo.std Zpi) awkF 200 300 [.agg sbCs,.c (.int .i64 2),.c (.int .i64 100000)] 5 5 Zwn)=true:=by kernel_rfl
set_option maxRecDepth 1000000 in
theorem Zq798:told [.c (.int .i64 4),.c (.bool true)] 355 (bev (Glo.std Zpi) awkF 200 313 [.agg sbCs,.c (.int .i64 2)] 126 126 Zwn)=true:=by kernel_rfl
set_option maxRecDepth 1000000 in
theorem Zq751:awkL.all (fun p=>Zcj p.2.code)=true:=by kernel_rfl
section
variable (C:Zk) (L:Zbl) (G:Glo)
variable {h h0:Za}
variable {x0 x2 x8 x13:Cell}
variable {a1 a16:Int}
variable {s2 s3:List Cell}
theorem q297_eq  (h0:Za):q297.body C L G [] h0=c1 (C 187 [] h0) fun y h=>asA y fun l=>if 0=0/\[Cell.nils,Cell.nils,Cell.nils].length=3/\l.length=3 then if 0=0/\l.length=3 then c1 (C 300 [(.agg l),(.c (.int .i64 2)),(.c (.int .i64 100000))] h) fun y h=>asA y fun l1=>if 0=0/\[Cell.nils,ci0,ci0,Cell.bool false].length=4/\l1.length=4 then if 0=0/\l.length=3 then c2 (C 313 [(.agg l),(.c (.int .i64 2))] h) fun y y1 h=>Zi .i64 y fun n=>asB y1 fun b=>Zf l1 3 fun q=>asB (.c q) fun b1=>scK b1 true (Zf l1 0 fun q=>Zaj q fun n=>some ((n==4),h)) false h fun b1 h=>scK b1 true (some (b,h)) false h fun b h=>scK b true (some ((n==4),h)) false h fun b h=>some ([(.c (.bool b))],h) else none else none else none else none:=by kernel_rfl
def q305_k2 (h0:Za):Ex->St->Rs:=Zae (fun st=>q305_p1.exec C L G st (q305.fin G h0)) (q305.fin G h0)
def q305_k3 (h0:Za):Ex->St->Rs:=Zap 0 (q305_k2 C L G h0)
def q305_s1 (x8 x13:Cell) (a16:Int) (s2 s3:List Cell) (h:Za):St:=⟨tops 8 (.v (.c x8) :: tops 4 (.v (.c x13) :: .loc 2 0 :: .loc 3 0 :: .v (.c (.int .i64 a16)) :: tops 62 [])),[none,none,some s2,some s3],h⟩
def q305_F1 :St->Option (Ex × St):=Zo (q305_b1.exec C L G) [8,13,14,15,16] [2,3] [(1,[14,15],[2,3])]
def q305_x1_1 (s2 s3:List Cell) (h:Za):St:=⟨tops 14 (.loc 2 0 :: .loc 3 0 :: tops 63 []),[none,none,some s2,some s3],h⟩
theorem q305_r1:q305_F1 C L G (q305_s1 x8 x13 a16 s2 s3 h)=Zaj x8 fun n=>if (decide (a16<n))=true then if 0=0/\s2.length=24 then Zm 24 x13 a16 fun k N o=>Zn h k N fun l=>if o+24<=l.length then c1 (qh h (C 8 [(.agg s2),(.agg ((l.drop o).take 24))] h)) fun y h1=>asA y fun l=>if 0=0/\s2.length=24/\l.length=24 then Zm 1 x8 a16 fun k N o=>Zn h k N fun l1=>Zf l1 o fun q=>Zi .i64 (.c q) fun n=>if 0<=n/\n<((24:Nat):Int) then Zf s3 (0+((Yc n)*1)) fun q=>Zi .i64 (.c q) fun n1=>if 0<=n/\n<((24:Nat):Int) then if (0+((Yc n)*1))<s3.length then some (.normal,(q305_s1 x8 x13 (G.wrap .i64 (a16+1)) l (s3.set (0+((Yc n)*1)) (.int .i64 (G.wrap .i64 (n1+1)))) h)) else none else none else none else none else none else none else some ((.exit 0),(q305_x1_1 s2 s3 h)):=by kernel_rfl
theorem q305_e1_1:(q305_k3 C L G h0) (.exit 0) (q305_x1_1 s2 s3 h)=if 0=0/\s2.length=24 then if 0=0/\s3.length=24 then if alike s2 (Yb 24 ci0)=true/\alike s3 (Yb 24 ci0)=true then scK (decide (s2=s3)) true (c1 (C 297 [] h) fun y h=>asB y fun b=>some (b,h)) false h fun b h=>some ([(.c (.bool b))],h) else none else none else none:=by kernel_rfl
theorem q305_eq:q305.body C L G [(.c x0),(.c (.int .i64 a1)),(.c x2)] h0=c1 (C 76 [(.c x0),(.c (.int .i64 10))] h0) fun y h=>asA y fun l=>if 0=0/\[Cell.nils,Cell.nils,Cell.nils].length=3/\l.length=3 then let v:Int:=(G.wrap .i64 ((G.rem .i64 (G.band .i64 a1 255) 3)+1));if 0=0/\l.length=3 then c1 (C 254 [(.agg l),(.c (.int .i64 v)),(.c x2)] h) fun y h=>asC y fun x=>if 0=0/\l.length=3 then c3 (C 271 [(.agg l),(.c (.int .i64 v)),(.c x)] h) fun y y1 y2 h=>asC y fun x1=>Zi .i64 y1 fun n=>asB y2 fun b=>c1 (C 255 [(.c x1),(.c (.int .i64 v))] h) fun y h=>asA y fun l=>if 0=0/\([ci0]++Yb 64 (Cell.int .u64 0)).length=65/\l.length=65 then if 0=0/\l.length=65 then c1 (C 2 [(.agg l),(.c x)] h) fun y h=>asC y fun x1=>Zaj x1 fun n=>Zaj x fun n1=>scK (n != n1) false (c1 (qh h (C 11 [(.c x1),(.c x)] h)) fun y h1=>asA y fun l1=>if 0=0/\l.length=65 then if alike l1 ([ci0]++Yb 64 (Cell.int .u64 0))=true/\alike l ([ci0]++Yb 64 (Cell.int .u64 0))=true then some ((!(decide (l1=l))),h) else none else none) true h fun b h=>if b=true then some ([(.c (.bool false))],h) else (L (q305_F1 C L G) (q305_s1 x x1 0 (Yb 24 ci0) (Yb 24 ci0) h)).bind fun p=>(q305_k3 C L G h0) p.1 p.2 else none else none else none else none else none:=by kernel_rfl
end
theorem Zkw {f:Nat} {fn:Fn}:∀{l:List (Nat × Fn)},lookL f l=some fn->(f,fn)∈l
 | [],h=>by cases h
 | p :: l,h=>by
  have h2:(Bool.rec (lookL f l) (some p.2) (Ybi p.1 f):Option Fn)=some fn:=h
  cases hq:Ybi p.1 f with
  | true =>
   rw [hq] at h2
   have h3:p.2=fn:=Yan.inj h2
   have:=Yas hq
   rw [←this,←h3];exact List.mem_cons_self
  | false=>rw [hq] at h2;exact List.mem_cons_of_mem _ (Zkw h2)
theorem awk_le {E:Env} (hA:∀p∈awkL,E.fn p.1=some p.2) (ht:E.tab=Zpi) (n:Nat):CLe (Zdr awkE n) (Zdr E n):=by
 induction n with
 | zero=>intro f l h r hr;cases hr
 | succ n ih =>
  intro f l h r hr
  unfold Zdr at hr ⊢
  cases hf:awkE.fn f with
  | none=>rw [hf] at hr;cases hr
  | some fn =>
   rw [hf] at hr
   rw [hA _ (Zkw hf)]
   have hg:E.glob=awkE.glob:=by unfold Env.glob;rw [ht];rfl
   rw [hg]
   exact Zth ih (Zmt n) fn l h r hr
theorem awk_R {E:Env} (hA:∀p∈awkL,E.fn p.1=some p.2) (ht:E.tab=Zpi) {f:Nat} {l:List AV} {h:Za} {r} (hr:R awkE f l h=some r):R E f l h=some r:=by
 obtain ⟨n,hn⟩:=Zgq hr
 exact Zom (awk_le hA ht n f l h r hn)
theorem awk_fn:awkF 297=some q297:=by kernel_rfl
theorem awk_0:∃h,R awkE 297 [] []=some ([.c (.bool true)],h):=by
 have sim:=fun (b:HB) m=>@bev_sim b awkE awkF (fun _ _ h=>h) m
 obtain ⟨h1,r1,hr1,_⟩:=sim ⟨0⟩ 100 187 [] 0 0 .e [.agg sbCs] 5 Zwn awk_SB (Ym _) [] (@HR.mk ⟨0⟩ _ _ _ rfl (fun k b hb=>(by cases hb)) (fun k b hb=>(by cases hb)) (Ym _) fun k _ _=>Zer (Nat.zero_le _))
 have l1:=@HR.len ⟨0⟩ _ _ _ hr1
 have g1:=@HR.get ⟨0⟩ _ _ _ hr1
 have o1:=@HR.ok ⟨0⟩ _ _ _ hr1
 have t1:∀{k b},Zcc Zwn k=some b->k<5:=fun hb=>@HR.lt ⟨0⟩ _ _ _ hr1 _ _ hb
 obtain ⟨H2,e2⟩:=Zzp awk_expl
 obtain ⟨h2,r2,hr2,fp⟩:=sim ⟨5⟩ 200 300 _ 5 5 Zwn _ 126 H2 e2 (Ym _) h1 (@HR.mk ⟨5⟩ _ _ _ l1 g1 o1 (Ym _) fun k hk _=>Zer (by rw [l1];exact hk))
 have l2:=@HR.len ⟨5⟩ _ _ _ hr2
 have hr3:@HR ⟨126⟩ 126 Zwn h2:=by
  refine @HR.mk ⟨126⟩ _ _ _ l2 (fun k b hb=>?_) o1 (Ym _) fun k hk _=>Zer (by rw [l2];exact hk)
  have hk:=t1 hb
  have:=g1 k b hb
  unfold blk? at this ⊢
  rw [fp.2 k hk];exact this
 obtain ⟨H4,e4⟩:=Zzp Zq798
 obtain ⟨h4,r4,_,_⟩:=sim ⟨126⟩ 200 313 _ 126 126 Zwn _ 355 H4 e4 (Ym _) h2 hr3
 refine ⟨h4,Zd (E:=awkE) awk_fn ?_⟩
 rw [q297_eq,r1,c1_ok,asA_ok,if_pos ⟨rfl,rfl,rfl⟩,if_pos ⟨rfl,rfl⟩,r2,c1_ok,asA_ok,if_pos ⟨rfl,rfl,rfl⟩,if_pos ⟨rfl,rfl⟩,r4,c2_ok,asI_ok,asB_ok]
 rfl
theorem awake_R {E:Env} (hA:∀p∈awkL,E.fn p.1=some p.2) (ht:E.tab=Zpi) (g:Za):∃t,R E 297 [] g=some ([.c (.bool true)],g++t):=by
 obtain ⟨h,hr⟩:=awk_0
 refine ⟨h.map (Yau (sB g.length)),awk_R hA ht ?_⟩
 have:=R_s (g:=g) (E:=awkE) (fun f fn hf=>?_) (fun _ _ _=>rfl) (fun k=>?_) hr
 ·have e:sH g []=g:=by simp [sH]
  rw [e] at this
  exact this
 ·have:=Yab.1 Zq751 _ (Zkw hf)
  exact this
 ·show (Zpi k).map (sC g.length)=Zpi k
  unfold Zpi
  split
  ·rw [Yw];rfl
  ·rfl
end Jq
namespace Go.Proofs.YtaohhggiapblkaaGreatDoor.LTopClocks
open Go Jq
def seatFn:Nat->Nat
 | 2=>19
 | 3=>59
 | 8=>21
 | 9=>51
 | 10=>54
 | 11=>20
 | 12=>57
 | 14=>58
 | 15=>60
 | 16=>121
 | 17=>74
 | 18=>111
 | 19=>128
 | 20=>156
 | 26=>31
 | 32=>72
 | 38=>107
 | 40=>79
 | 41=>71
 | 42=>169
 | 52=>203
 | 58=>193
 | 59=>89
 | 61=>191
 | 63=>172
 | 65=>141
 | 66=>151
 | 72=>153
 | 73=>152
 | 76=>8
 | 79=>25
 | 80=>127
 | 81=>101
 | 82=>192
 | 88=>114
 | 90=>70
 | 92=>165
 | 93=>208
 | 94=>62
 | 97=>28
 | 101=>27
 | 102=>22
 | 104=>97
 | 105=>63
 | 106=>65
 | 107=>103
 | 108=>125
 | 109=>64
 | 110=>163
 | 111=>102
 | 113=>124
 | 114=>123
 | 115=>68
 | 119=>168
 | 121=>66
 | 122=>67
 | 123=>164
 | 124=>126
 | 125=>181
 | 139=>216
 | 148=>131
 | 155=>132
 | 156=>182
 | 158=>129
 | 159=>134
 | 163=>183
 | 164=>184
 | 171=>46
 | 172=>96
 | 173=>94
 | 174=>42
 | 175=>41
 | 180=>43
 | 181=>44
 | 182=>45
 | 184=>109
 | 187=>38
 | 188=>75
 | 189=>104
 | 190=>105
 | 191=>161
 | 192=>162
 | 193=>159
 | 194=>160
 | 195=>95
 | 196=>98
 | 197=>99
 | 198=>100
 | 200=>130
 | 201=>133
 | 202=>166
 | 203=>167
 | 204=>207
 | 205=>204
 | 206=>205
 | 207=>206
 | 254=>13
 | 255=>18
 | 257=>52
 | 265=>53
 | 266=>55
 | 267=>56
 | 268=>113
 | 271=>12
 | 273=>122
 | 274=>175
 | 278=>40
 | 282=>180
 | 283=>179
 | 296=>9
 | 297=>10
 | 300=>14
 | 305=>6
 | 309=>29
 | 310=>33
 | 311=>32
 | 312=>37
 | 313=>39
 | 314=>47
 | 316=>50
 | 317=>30
 | 318=>69
 | 319=>73
 | 320=>76
 | 321=>77
 | 322=>35
 | 323=>34
 | 324=>78
 | 325=>80
 | 326=>83
 | 327=>82
 | 328=>36
 | 329=>86
 | 330=>87
 | 331=>88
 | 332=>90
 | 333=>91
 | 334=>92
 | 335=>93
 | 336=>106
 | 337=>108
 | 338=>110
 | 339=>112
 | 340=>115
 | 341=>118
 | 342=>117
 | 343=>119
 | 344=>120
 | 345=>116
 | 346=>135
 | 347=>136
 | 348=>137
 | 349=>138
 | 350=>139
 | 351=>142
 | 352=>84
 | 353=>85
 | 354=>144
 | 355=>146
 | 356=>145
 | 357=>148
 | 358=>147
 | 359=>149
 | 360=>150
 | 361=>154
 | 362=>155
 | 363=>158
 | 364=>157
 | 365=>170
 | 366=>171
 | 367=>173
 | 368=>174
 | 369=>176
 | 370=>177
 | 371=>178
 | 372=>185
 | 373=>186
 | 374=>187
 | 375=>188
 | 376=>140
 | 377=>143
 | 378=>189
 | 379=>190
 | 380=>194
 | 381=>195
 | 382=>196
 | 383=>197
 | 384=>198
 | 385=>199
 | 386=>200
 | 387=>201
 | 388=>202
 | 389=>209
 | 390=>211
 | 391=>212
 | 392=>213
 | 393=>214
 | 394=>215
 | 395=>217
 | 396=>218
 | 397=>219
 | 398=>220
 | 399=>221
 | 400=>210
 | 401=>222
 | 402=>223
 | 432=>81
 | _=>0
def envL:List (Nat × Jq.Fn):=[(2,q2),
 (3,q3),
 (8,q8),
 (9,q9),
 (10,q10),
 (11,q11),
 (12,q12),
 (14,q14),
 (15,q15),
 (16,q16),
 (17,q17),
 (18,q18),
 (19,q19),
 (20,q20),
 (26,q26),
 (32,q32),
 (38,q38),
 (40,q40),
 (41,q41),
 (42,q42),
 (52,q52),
 (58,q58),
 (59,q59),
 (61,q61),
 (63,q63),
 (65,q65),
 (66,q66),
 (72,q72),
 (73,q73),
 (76,q76),
 (79,q79),
 (80,q80),
 (81,q81),
 (82,q82),
 (88,q88),
 (90,q90),
 (92,q92),
 (93,q93),
 (94,q94),
 (97,q97),
 (101,q101),
 (102,q102),
 (104,q104),
 (105,q105),
 (106,q106),
 (107,q107),
 (108,q108),
 (109,q109),
 (110,q110),
 (111,q111),
 (113,q113),
 (114,q114),
 (115,q115),
 (119,q119),
 (121,q121),
 (122,q122),
 (123,q123),
 (124,q124),
 (125,q125),
 (139,q139),
 (148,q148),
 (155,q155),
 (156,q156),
 (158,q158),
 (159,q159),
 (163,q163),
 (164,q164),
 (171,q171),
 (172,q172),
 (173,q173),
 (174,q174),
 (175,q175),
 (180,q180),
 (181,q181),
 (182,q182),
 (184,q184),
 (187,q187),
 (188,q188),
 (189,q189),
 (190,q190),
 (191,q191),
 (192,q192),
 (193,q193),
 (194,q194),
 (195,q195),
 (196,q196),
 (197,q197),
 (198,q198),
 (200,q200),
 (201,q201),
 (202,q202),
 (203,q203),
 (204,q204),
 (205,q205),
 (206,q206),
 (207,q207),
 (254,q254),
 (255,q255),
 (257,q257),
 (265,q265),
 (266,q266),
 (267,q267),
 (268,q268),
 (271,q271),
 (273,q273),
 (274,q274),
 (278,q278),
 (282,q282),
 (283,q283),
 (296,q296),
 (297,q297),
 (300,q300),
 (305,q305),
 (309,q309),
 (310,q310),
 (311,q311),
 (312,q312),
 (313,q313),
 (314,q314),
 (316,q316),
 (317,q317),
 (318,q318),
 (319,q319),
 (320,q320),
 (321,q321),
 (322,q322),
 (323,q323),
 (324,q324),
 (325,q325),
 (326,q326),
 (327,q327),
 (328,q328),
 (329,q329),
 (330,q330),
 (331,q331),
 (332,q332),
 (333,q333),
 (334,q334),
 (335,q335),
 (336,q336),
 (337,q337),
 (338,q338),
 (339,q339),
 (340,q340),
 (341,q341),
 (342,q342),
 (343,q343),
 (344,q344),
 (345,q345),
 (346,q346),
 (347,q347),
 (348,q348),
 (349,q349),
 (350,q350),
 (351,q351),
 (352,q352),
 (353,q353),
 (354,q354),
 (355,q355),
 (356,q356),
 (357,q357),
 (358,q358),
 (359,q359),
 (360,q360),
 (361,q361),
 (362,q362),
 (363,q363),
 (364,q364),
 (365,q365),
 (366,q366),
 (367,q367),
 (368,q368),
 (369,q369),
 (370,q370),
 (371,q371),
 (372,q372),
 (373,q373),
 (374,q374),
 (375,q375),
 (376,q376),
 (377,q377),
 (378,q378),
 (379,q379),
 (380,q380),
 (381,q381),
 (382,q382),
 (383,q383),
 (384,q384),
 (385,q385),
 (386,q386),
 (387,q387),
 (388,q388),
 (389,q389),
 (390,q390),
 (391,q391),
 (392,q392),
 (393,q393),
 (394,q394),
 (395,q395),
 (396,q396),
 (397,q397),
 (398,q398),
 (399,q399),
 (400,q400),
 (401,q401),
 (402,q402),
 (432,q432)]
noncomputable def envFn:Nat->Option Jq.Fn:=fun f=>lookL f envL
def deB:List Int:=[0,1,56,2,57,49,28,3,61,58,42,50,38,29,17,4,62,47,59,36,45,43,51,22,53,39,33,30,24,18,12,5,63,55,48,27,60,41,37,16,46,35,44,21,52,32,23,11,54,26,40,15,34,20,31,10,25,14,19,9,13,8,7,6]
def seatTab:Nat->List Cell:=fun k=>if k=1 then deB.map (Cell.int .u8) else []
noncomputable def seat:Seat:={ P:=Tryz.prog,fn:=seatFn,gl:=fun _=>0,tab:=seatTab }
noncomputable def env:Env:={ fn:=envFn,tab:=seatTab }
theorem tabOk:TabOk env:=by
 have:∀k,k<64->(seatTab 1)[k]? = (Lib.deBruijn64tab[k]?).map fun (n:Nat)=>Cell.int .u8 (n:Int):=by decide +kernel
 exact this
theorem mixed:true=true->seat.P.follows .mixedOrders=true:=fun _=>by kernel_rfl
theorem Zz {g : Nat} {fn : Jq.Fn} {mf : Func} {c : Code} (h : seat.P.funcs[seat.fn g]? = some mf) (hb : mf.body = some c) (k : (!(mf.name == "runtime.NumGoroutine") && mf.ntmps == fn.nt && mRs seat.P fn.res mf.results.toList && mC' seat (fn.np + (fn.nt - fn.np)) (drK seat true) fn.code c) = true) : FnOk seat g fn := by
 simp only [Yd,Bool.not_eq_true',beq_iff_eq] at k
 exact ⟨⟨mf,c,drK seat true,h,hb,by simpa using k.1.1.1,k.1.1.2,k.1.2,k.2,fun _ _ h=>Zq732 mixed h⟩⟩
theorem ok_2:FnOk seat 2 q2:=Zz Tryz.func19 rfl (by kernel_rfl)
theorem ok_3:FnOk seat 3 q3:=Zz Tryz.func59 rfl (by kernel_rfl)
theorem ok_8:FnOk seat 8 q8:=Zz Tryz.func21 rfl (by kernel_rfl)
theorem ok_9:FnOk seat 9 q9:=Zz Tryz.func51 rfl (by kernel_rfl)
theorem ok_10:FnOk seat 10 q10:=Zz Tryz.func54 rfl (by kernel_rfl)
theorem ok_11:FnOk seat 11 q11:=Zz Tryz.func20 rfl (by kernel_rfl)
theorem ok_12:FnOk seat 12 q12:=Zz Tryz.func57 rfl (by kernel_rfl)
theorem ok_14:FnOk seat 14 q14:=Zz Tryz.func58 rfl (by kernel_rfl)
theorem ok_15:FnOk seat 15 q15:=Zz Tryz.func60 rfl (by kernel_rfl)
theorem ok_16:FnOk seat 16 q16:=Zz Tryz.func121 rfl (by kernel_rfl)
theorem ok_17:FnOk seat 17 q17:=Zz Tryz.func74 rfl (by kernel_rfl)
theorem ok_18:FnOk seat 18 q18:=Zz Tryz.func111 rfl (by kernel_rfl)
theorem ok_19:FnOk seat 19 q19:=Zz Tryz.func128 rfl (by kernel_rfl)
theorem ok_20:FnOk seat 20 q20:=Zz Tryz.func156 rfl (by kernel_rfl)
theorem ok_26:FnOk seat 26 q26:=Zz Tryz.func31 rfl (by kernel_rfl)
theorem ok_32:FnOk seat 32 q32:=Zz Tryz.func72 rfl (by kernel_rfl)
theorem ok_38:FnOk seat 38 q38:=Zz Tryz.func107 rfl (by kernel_rfl)
theorem ok_40:FnOk seat 40 q40:=Zz Tryz.func79 rfl (by kernel_rfl)
theorem ok_41:FnOk seat 41 q41:=Zz Tryz.func71 rfl (by kernel_rfl)
theorem ok_42:FnOk seat 42 q42:=Zz Tryz.func169 rfl (by kernel_rfl)
theorem ok_52:FnOk seat 52 q52:=Zz Tryz.func203 rfl (by kernel_rfl)
theorem ok_58:FnOk seat 58 q58:=Zz Tryz.func193 rfl (by kernel_rfl)
theorem ok_59:FnOk seat 59 q59:=Zz Tryz.func89 rfl (by kernel_rfl)
theorem ok_61:FnOk seat 61 q61:=Zz Tryz.func191 rfl (by kernel_rfl)
theorem ok_63:FnOk seat 63 q63:=Zz Tryz.func172 rfl (by kernel_rfl)
theorem ok_65:FnOk seat 65 q65:=Zz Tryz.func141 rfl (by kernel_rfl)
theorem ok_66:FnOk seat 66 q66:=Zz Tryz.func151 rfl (by kernel_rfl)
theorem ok_72:FnOk seat 72 q72:=Zz Tryz.func153 rfl (by kernel_rfl)
theorem ok_73:FnOk seat 73 q73:=Zz Tryz.func152 rfl (by kernel_rfl)
theorem ok_76:FnOk seat 76 q76:=Zz Tryz.func8 rfl (by kernel_rfl)
theorem ok_79:FnOk seat 79 q79:=Zz Tryz.func25 rfl (by kernel_rfl)
theorem ok_80:FnOk seat 80 q80:=Zz Tryz.func127 rfl (by kernel_rfl)
theorem ok_81:FnOk seat 81 q81:=Zz Tryz.func101 rfl (by kernel_rfl)
theorem ok_82:FnOk seat 82 q82:=Zz Tryz.func192 rfl (by kernel_rfl)
theorem ok_88:FnOk seat 88 q88:=Zz Tryz.func114 rfl (by kernel_rfl)
theorem ok_90:FnOk seat 90 q90:=Zz Tryz.func70 rfl (by kernel_rfl)
theorem ok_92:FnOk seat 92 q92:=Zz Tryz.func165 rfl (by kernel_rfl)
theorem ok_93:FnOk seat 93 q93:=Zz Tryz.func208 rfl (by kernel_rfl)
theorem ok_94:FnOk seat 94 q94:=Zz Tryz.func62 rfl (by kernel_rfl)
theorem ok_97:FnOk seat 97 q97:=Zz Tryz.func28 rfl (by kernel_rfl)
theorem ok_101:FnOk seat 101 q101:=Zz Tryz.func27 rfl (by kernel_rfl)
theorem ok_102:FnOk seat 102 q102:=Zz Tryz.func22 rfl (by kernel_rfl)
theorem ok_104:FnOk seat 104 q104:=Zz Tryz.func97 rfl (by kernel_rfl)
theorem ok_105:FnOk seat 105 q105:=Zz Tryz.func63 rfl (by kernel_rfl)
theorem ok_106:FnOk seat 106 q106:=Zz Tryz.func65 rfl (by kernel_rfl)
theorem ok_107:FnOk seat 107 q107:=Zz Tryz.func103 rfl (by kernel_rfl)
theorem ok_108:FnOk seat 108 q108:=Zz Tryz.func125 rfl (by kernel_rfl)
theorem ok_109:FnOk seat 109 q109:=Zz Tryz.func64 rfl (by kernel_rfl)
theorem ok_110:FnOk seat 110 q110:=Zz Tryz.func163 rfl (by kernel_rfl)
theorem ok_111:FnOk seat 111 q111:=Zz Tryz.func102 rfl (by kernel_rfl)
theorem ok_113:FnOk seat 113 q113:=Zz Tryz.func124 rfl (by kernel_rfl)
theorem ok_114:FnOk seat 114 q114:=Zz Tryz.func123 rfl (by kernel_rfl)
theorem ok_115:FnOk seat 115 q115:=Zz Tryz.func68 rfl (by kernel_rfl)
theorem ok_119:FnOk seat 119 q119:=Zz Tryz.func168 rfl (by kernel_rfl)
theorem ok_121:FnOk seat 121 q121:=Zz Tryz.func66 rfl (by kernel_rfl)
theorem ok_122:FnOk seat 122 q122:=Zz Tryz.func67 rfl (by kernel_rfl)
theorem ok_123:FnOk seat 123 q123:=Zz Tryz.func164 rfl (by kernel_rfl)
theorem ok_124:FnOk seat 124 q124:=Zz Tryz.func126 rfl (by kernel_rfl)
theorem ok_125:FnOk seat 125 q125:=Zz Tryz.func181 rfl (by kernel_rfl)
theorem ok_139:FnOk seat 139 q139:=Zz Tryz.func216 rfl (by kernel_rfl)
theorem ok_148:FnOk seat 148 q148:=Zz Tryz.func131 rfl (by kernel_rfl)
theorem ok_155:FnOk seat 155 q155:=Zz Tryz.func132 rfl (by kernel_rfl)
theorem ok_156:FnOk seat 156 q156:=Zz Tryz.func182 rfl (by kernel_rfl)
theorem ok_158:FnOk seat 158 q158:=Zz Tryz.func129 rfl (by kernel_rfl)
theorem ok_159:FnOk seat 159 q159:=Zz Tryz.func134 rfl (by kernel_rfl)
theorem ok_163:FnOk seat 163 q163:=Zz Tryz.func183 rfl (by kernel_rfl)
theorem ok_164:FnOk seat 164 q164:=Zz Tryz.func184 rfl (by kernel_rfl)
theorem ok_171:FnOk seat 171 q171:=Zz Tryz.func46 rfl (by kernel_rfl)
theorem ok_172:FnOk seat 172 q172:=Zz Tryz.func96 rfl (by kernel_rfl)
theorem ok_173:FnOk seat 173 q173:=Zz Tryz.func94 rfl (by kernel_rfl)
theorem ok_174:FnOk seat 174 q174:=Zz Tryz.func42 rfl (by kernel_rfl)
theorem ok_175:FnOk seat 175 q175:=Zz Tryz.func41 rfl (by kernel_rfl)
theorem ok_180:FnOk seat 180 q180:=Zz Tryz.func43 rfl (by kernel_rfl)
theorem ok_181:FnOk seat 181 q181:=Zz Tryz.func44 rfl (by kernel_rfl)
theorem ok_182:FnOk seat 182 q182:=Zz Tryz.func45 rfl (by kernel_rfl)
theorem ok_184:FnOk seat 184 q184:=Zz Tryz.func109 rfl (by kernel_rfl)
theorem ok_187:FnOk seat 187 q187:=Zz Tryz.func38 rfl (by kernel_rfl)
theorem ok_188:FnOk seat 188 q188:=Zz Tryz.func75 rfl (by kernel_rfl)
theorem ok_189:FnOk seat 189 q189:=Zz Tryz.func104 rfl (by kernel_rfl)
theorem ok_190:FnOk seat 190 q190:=Zz Tryz.func105 rfl (by kernel_rfl)
theorem ok_191:FnOk seat 191 q191:=Zz Tryz.func161 rfl (by kernel_rfl)
theorem ok_192:FnOk seat 192 q192:=Zz Tryz.func162 rfl (by kernel_rfl)
theorem ok_193:FnOk seat 193 q193:=Zz Tryz.func159 rfl (by kernel_rfl)
theorem ok_194:FnOk seat 194 q194:=Zz Tryz.func160 rfl (by kernel_rfl)
theorem ok_195:FnOk seat 195 q195:=Zz Tryz.func95 rfl (by kernel_rfl)
theorem ok_196:FnOk seat 196 q196:=Zz Tryz.func98 rfl (by kernel_rfl)
theorem ok_197:FnOk seat 197 q197:=Zz Tryz.func99 rfl (by kernel_rfl)
theorem ok_198:FnOk seat 198 q198:=Zz Tryz.func100 rfl (by kernel_rfl)
theorem ok_200:FnOk seat 200 q200:=Zz Tryz.func130 rfl (by kernel_rfl)
theorem ok_201:FnOk seat 201 q201:=Zz Tryz.func133 rfl (by kernel_rfl)
theorem ok_202:FnOk seat 202 q202:=Zz Tryz.func166 rfl (by kernel_rfl)
theorem ok_203:FnOk seat 203 q203:=Zz Tryz.func167 rfl (by kernel_rfl)
theorem ok_204:FnOk seat 204 q204:=Zz Tryz.func207 rfl (by kernel_rfl)
theorem ok_205:FnOk seat 205 q205:=Zz Tryz.func204 rfl (by kernel_rfl)
theorem ok_206:FnOk seat 206 q206:=Zz Tryz.func205 rfl (by kernel_rfl)
theorem ok_207:FnOk seat 207 q207:=Zz Tryz.func206 rfl (by kernel_rfl)
theorem ok_254:FnOk seat 254 q254:=Zz Tryz.func13 rfl (by kernel_rfl)
theorem ok_255:FnOk seat 255 q255:=Zz Tryz.func18 rfl (by kernel_rfl)
theorem ok_257:FnOk seat 257 q257:=Zz Tryz.func52 rfl (by kernel_rfl)
theorem ok_265:FnOk seat 265 q265:=Zz Tryz.func53 rfl (by kernel_rfl)
theorem ok_266:FnOk seat 266 q266:=Zz Tryz.func55 rfl (by kernel_rfl)
theorem ok_267:FnOk seat 267 q267:=Zz Tryz.func56 rfl (by kernel_rfl)
theorem ok_268:FnOk seat 268 q268:=Zz Tryz.func113 rfl (by kernel_rfl)
theorem ok_271:FnOk seat 271 q271:=Zz Tryz.func12 rfl (by kernel_rfl)
theorem ok_273:FnOk seat 273 q273:=Zz Tryz.func122 rfl (by kernel_rfl)
theorem ok_274:FnOk seat 274 q274:=Zz Tryz.func175 rfl (by kernel_rfl)
theorem ok_278:FnOk seat 278 q278:=Zz Tryz.func40 rfl (by kernel_rfl)
theorem ok_282:FnOk seat 282 q282:=Zz Tryz.func180 rfl (by kernel_rfl)
theorem ok_283:FnOk seat 283 q283:=Zz Tryz.func179 rfl (by kernel_rfl)
theorem ok_296:FnOk seat 296 q296:=Zz Tryz.func9 rfl (by kernel_rfl)
theorem ok_297:FnOk seat 297 q297:=Zz Tryz.func10 rfl (by kernel_rfl)
theorem ok_300:FnOk seat 300 q300:=Zz Tryz.func14 rfl (by kernel_rfl)
theorem ok_305:FnOk seat 305 q305:=Zz Tryz.func6 rfl (by kernel_rfl)
theorem ok_309:FnOk seat 309 q309:=Zz Tryz.func29 rfl (by kernel_rfl)
theorem ok_310:FnOk seat 310 q310:=Zz Tryz.func33 rfl (by kernel_rfl)
theorem ok_311:FnOk seat 311 q311:=Zz Tryz.func32 rfl (by kernel_rfl)
theorem ok_312:FnOk seat 312 q312:=Zz Tryz.func37 rfl (by kernel_rfl)
theorem ok_313:FnOk seat 313 q313:=Zz Tryz.func39 rfl (by kernel_rfl)
theorem ok_314:FnOk seat 314 q314:=Zz Tryz.func47 rfl (by kernel_rfl)
theorem ok_316:FnOk seat 316 q316:=Zz Tryz.func50 rfl (by kernel_rfl)
theorem ok_317:FnOk seat 317 q317:=Zz Tryz.func30 rfl (by kernel_rfl)
theorem ok_318:FnOk seat 318 q318:=Zz Tryz.func69 rfl (by kernel_rfl)
theorem ok_319:FnOk seat 319 q319:=Zz Tryz.func73 rfl (by kernel_rfl)
theorem ok_320:FnOk seat 320 q320:=Zz Tryz.func76 rfl (by kernel_rfl)
theorem ok_321:FnOk seat 321 q321:=Zz Tryz.func77 rfl (by kernel_rfl)
theorem ok_322:FnOk seat 322 q322:=Zz Tryz.func35 rfl (by kernel_rfl)
theorem ok_323:FnOk seat 323 q323:=Zz Tryz.func34 rfl (by kernel_rfl)
theorem ok_324:FnOk seat 324 q324:=Zz Tryz.func78 rfl (by kernel_rfl)
theorem ok_325:FnOk seat 325 q325:=Zz Tryz.func80 rfl (by kernel_rfl)
theorem ok_326:FnOk seat 326 q326:=Zz Tryz.func83 rfl (by kernel_rfl)
theorem ok_327:FnOk seat 327 q327:=Zz Tryz.func82 rfl (by kernel_rfl)
theorem ok_328:FnOk seat 328 q328:=Zz Tryz.func36 rfl (by kernel_rfl)
theorem ok_329:FnOk seat 329 q329:=Zz Tryz.func86 rfl (by kernel_rfl)
theorem ok_330:FnOk seat 330 q330:=Zz Tryz.func87 rfl (by kernel_rfl)
theorem ok_331:FnOk seat 331 q331:=Zz Tryz.func88 rfl (by kernel_rfl)
theorem ok_332:FnOk seat 332 q332:=Zz Tryz.func90 rfl (by kernel_rfl)
theorem ok_333:FnOk seat 333 q333:=Zz Tryz.func91 rfl (by kernel_rfl)
theorem ok_334:FnOk seat 334 q334:=Zz Tryz.func92 rfl (by kernel_rfl)
theorem ok_335:FnOk seat 335 q335:=Zz Tryz.func93 rfl (by kernel_rfl)
theorem ok_336:FnOk seat 336 q336:=Zz Tryz.func106 rfl (by kernel_rfl)
theorem ok_337:FnOk seat 337 q337:=Zz Tryz.func108 rfl (by kernel_rfl)
theorem ok_338:FnOk seat 338 q338:=Zz Tryz.func110 rfl (by kernel_rfl)
theorem ok_339:FnOk seat 339 q339:=Zz Tryz.func112 rfl (by kernel_rfl)
theorem ok_340:FnOk seat 340 q340:=Zz Tryz.func115 rfl (by kernel_rfl)
theorem ok_341:FnOk seat 341 q341:=Zz Tryz.func118 rfl (by kernel_rfl)
theorem ok_342:FnOk seat 342 q342:=Zz Tryz.func117 rfl (by kernel_rfl)
theorem ok_343:FnOk seat 343 q343:=Zz Tryz.func119 rfl (by kernel_rfl)
theorem ok_344:FnOk seat 344 q344:=Zz Tryz.func120 rfl (by kernel_rfl)
theorem ok_345:FnOk seat 345 q345:=Zz Tryz.func116 rfl (by kernel_rfl)
theorem ok_346:FnOk seat 346 q346:=Zz Tryz.func135 rfl (by kernel_rfl)
theorem ok_347:FnOk seat 347 q347:=Zz Tryz.func136 rfl (by kernel_rfl)
theorem ok_348:FnOk seat 348 q348:=Zz Tryz.func137 rfl (by kernel_rfl)
theorem ok_349:FnOk seat 349 q349:=Zz Tryz.func138 rfl (by kernel_rfl)
theorem ok_350:FnOk seat 350 q350:=Zz Tryz.func139 rfl (by kernel_rfl)
theorem ok_351:FnOk seat 351 q351:=Zz Tryz.func142 rfl (by kernel_rfl)
theorem ok_352:FnOk seat 352 q352:=Zz Tryz.func84 rfl (by kernel_rfl)
theorem ok_353:FnOk seat 353 q353:=Zz Tryz.func85 rfl (by kernel_rfl)
theorem ok_354:FnOk seat 354 q354:=Zz Tryz.func144 rfl (by kernel_rfl)
theorem ok_355:FnOk seat 355 q355:=Zz Tryz.func146 rfl (by kernel_rfl)
theorem ok_356:FnOk seat 356 q356:=Zz Tryz.func145 rfl (by kernel_rfl)
theorem ok_357:FnOk seat 357 q357:=Zz Tryz.func148 rfl (by kernel_rfl)
theorem ok_358:FnOk seat 358 q358:=Zz Tryz.func147 rfl (by kernel_rfl)
theorem ok_359:FnOk seat 359 q359:=Zz Tryz.func149 rfl (by kernel_rfl)
theorem ok_360:FnOk seat 360 q360:=Zz Tryz.func150 rfl (by kernel_rfl)
theorem ok_361:FnOk seat 361 q361:=Zz Tryz.func154 rfl (by kernel_rfl)
theorem ok_362:FnOk seat 362 q362:=Zz Tryz.func155 rfl (by kernel_rfl)
theorem ok_363:FnOk seat 363 q363:=Zz Tryz.func158 rfl (by kernel_rfl)
theorem ok_364:FnOk seat 364 q364:=Zz Tryz.func157 rfl (by kernel_rfl)
theorem ok_365:FnOk seat 365 q365:=Zz Tryz.func170 rfl (by kernel_rfl)
theorem ok_366:FnOk seat 366 q366:=Zz Tryz.func171 rfl (by kernel_rfl)
theorem ok_367:FnOk seat 367 q367:=Zz Tryz.func173 rfl (by kernel_rfl)
theorem ok_368:FnOk seat 368 q368:=Zz Tryz.func174 rfl (by kernel_rfl)
theorem ok_369:FnOk seat 369 q369:=Zz Tryz.func176 rfl (by kernel_rfl)
theorem ok_370:FnOk seat 370 q370:=Zz Tryz.func177 rfl (by kernel_rfl)
theorem ok_371:FnOk seat 371 q371:=Zz Tryz.func178 rfl (by kernel_rfl)
theorem ok_372:FnOk seat 372 q372:=Zz Tryz.func185 rfl (by kernel_rfl)
theorem ok_373:FnOk seat 373 q373:=Zz Tryz.func186 rfl (by kernel_rfl)
theorem ok_374:FnOk seat 374 q374:=Zz Tryz.func187 rfl (by kernel_rfl)
theorem ok_375:FnOk seat 375 q375:=Zz Tryz.func188 rfl (by kernel_rfl)
theorem ok_376:FnOk seat 376 q376:=Zz Tryz.func140 rfl (by kernel_rfl)
theorem ok_377:FnOk seat 377 q377:=Zz Tryz.func143 rfl (by kernel_rfl)
theorem ok_378:FnOk seat 378 q378:=Zz Tryz.func189 rfl (by kernel_rfl)
theorem ok_379:FnOk seat 379 q379:=Zz Tryz.func190 rfl (by kernel_rfl)
theorem ok_380:FnOk seat 380 q380:=Zz Tryz.func194 rfl (by kernel_rfl)
theorem ok_381:FnOk seat 381 q381:=Zz Tryz.func195 rfl (by kernel_rfl)
theorem ok_382:FnOk seat 382 q382:=Zz Tryz.func196 rfl (by kernel_rfl)
theorem ok_383:FnOk seat 383 q383:=Zz Tryz.func197 rfl (by kernel_rfl)
theorem ok_384:FnOk seat 384 q384:=Zz Tryz.func198 rfl (by kernel_rfl)
theorem ok_385:FnOk seat 385 q385:=Zz Tryz.func199 rfl (by kernel_rfl)
theorem ok_386:FnOk seat 386 q386:=Zz Tryz.func200 rfl (by kernel_rfl)
theorem ok_387:FnOk seat 387 q387:=Zz Tryz.func201 rfl (by kernel_rfl)
theorem ok_388:FnOk seat 388 q388:=Zz Tryz.func202 rfl (by kernel_rfl)
theorem ok_389:FnOk seat 389 q389:=Zz Tryz.func209 rfl (by kernel_rfl)
theorem ok_390:FnOk seat 390 q390:=Zz Tryz.func211 rfl (by kernel_rfl)
theorem ok_391:FnOk seat 391 q391:=Zz Tryz.func212 rfl (by kernel_rfl)
theorem ok_392:FnOk seat 392 q392:=Zz Tryz.func213 rfl (by kernel_rfl)
theorem ok_393:FnOk seat 393 q393:=Zz Tryz.func214 rfl (by kernel_rfl)
theorem ok_394:FnOk seat 394 q394:=Zz Tryz.func215 rfl (by kernel_rfl)
theorem ok_395:FnOk seat 395 q395:=Zz Tryz.func217 rfl (by kernel_rfl)
theorem ok_396:FnOk seat 396 q396:=Zz Tryz.func218 rfl (by kernel_rfl)
theorem ok_397:FnOk seat 397 q397:=Zz Tryz.func219 rfl (by kernel_rfl)
theorem ok_398:FnOk seat 398 q398:=Zz Tryz.func220 rfl (by kernel_rfl)
theorem ok_399:FnOk seat 399 q399:=Zz Tryz.func221 rfl (by kernel_rfl)
theorem ok_400:FnOk seat 400 q400:=Zz Tryz.func210 rfl (by kernel_rfl)
theorem ok_401:FnOk seat 401 q401:=Zz Tryz.func222 rfl (by kernel_rfl)
theorem ok_402:FnOk seat 402 q402:=Zz Tryz.func223 rfl (by kernel_rfl)
theorem ok_432:FnOk seat 432 q432:=Zz Tryz.func81 rfl (by kernel_rfl)
set_option maxRecDepth 1000000 in
theorem okL:∀p∈envL,FnOk seat p.1 p.2:=by
 unfold envL
 exact Ya.2 ⟨ok_2,Ya.2 ⟨ok_3,Ya.2 ⟨ok_8,Ya.2 ⟨ok_9,Ya.2 ⟨ok_10,Ya.2 ⟨ok_11,Ya.2 ⟨ok_12,Ya.2 ⟨ok_14,Ya.2 ⟨ok_15,Ya.2 ⟨ok_16,Ya.2 ⟨ok_17,Ya.2 ⟨ok_18,Ya.2 ⟨ok_19,Ya.2 ⟨ok_20,Ya.2 ⟨ok_26,Ya.2 ⟨ok_32,Ya.2 ⟨ok_38,Ya.2 ⟨ok_40,Ya.2 ⟨ok_41,Ya.2 ⟨ok_42,Ya.2 ⟨ok_52,Ya.2 ⟨ok_58,Ya.2 ⟨ok_59,Ya.2 ⟨ok_61,Ya.2 ⟨ok_63,Ya.2 ⟨ok_65,Ya.2 ⟨ok_66,Ya.2 ⟨ok_72,Ya.2 ⟨ok_73,Ya.2 ⟨ok_76,Ya.2 ⟨ok_79,Ya.2 ⟨ok_80,Ya.2 ⟨ok_81,Ya.2 ⟨ok_82,Ya.2 ⟨ok_88,Ya.2 ⟨ok_90,Ya.2 ⟨ok_92,Ya.2 ⟨ok_93,Ya.2 ⟨ok_94,Ya.2 ⟨ok_97,Ya.2 ⟨ok_101,Ya.2 ⟨ok_102,Ya.2 ⟨ok_104,Ya.2 ⟨ok_105,Ya.2 ⟨ok_106,Ya.2 ⟨ok_107,Ya.2 ⟨ok_108,Ya.2 ⟨ok_109,Ya.2 ⟨ok_110,Ya.2 ⟨ok_111,Ya.2 ⟨ok_113,Ya.2 ⟨ok_114,Ya.2 ⟨ok_115,Ya.2 ⟨ok_119,Ya.2 ⟨ok_121,Ya.2 ⟨ok_122,Ya.2 ⟨ok_123,Ya.2 ⟨ok_124,Ya.2 ⟨ok_125,Ya.2 ⟨ok_139,Ya.2 ⟨ok_148,Ya.2 ⟨ok_155,Ya.2 ⟨ok_156,Ya.2 ⟨ok_158,Ya.2 ⟨ok_159,Ya.2 ⟨ok_163,Ya.2 ⟨ok_164,Ya.2 ⟨ok_171,Ya.2 ⟨ok_172,Ya.2 ⟨ok_173,Ya.2 ⟨ok_174,Ya.2 ⟨ok_175,Ya.2 ⟨ok_180,Ya.2 ⟨ok_181,Ya.2 ⟨ok_182,Ya.2 ⟨ok_184,Ya.2 ⟨ok_187,Ya.2 ⟨ok_188,Ya.2 ⟨ok_189,Ya.2 ⟨ok_190,Ya.2 ⟨ok_191,Ya.2 ⟨ok_192,Ya.2 ⟨ok_193,Ya.2 ⟨ok_194,Ya.2 ⟨ok_195,Ya.2 ⟨ok_196,Ya.2 ⟨ok_197,Ya.2 ⟨ok_198,Ya.2 ⟨ok_200,Ya.2 ⟨ok_201,Ya.2 ⟨ok_202,Ya.2 ⟨ok_203,Ya.2 ⟨ok_204,Ya.2 ⟨ok_205,Ya.2 ⟨ok_206,Ya.2 ⟨ok_207,Ya.2 ⟨ok_254,Ya.2 ⟨ok_255,Ya.2 ⟨ok_257,Ya.2 ⟨ok_265,Ya.2 ⟨ok_266,Ya.2 ⟨ok_267,Ya.2 ⟨ok_268,Ya.2 ⟨ok_271,Ya.2 ⟨ok_273,Ya.2 ⟨ok_274,Ya.2 ⟨ok_278,Ya.2 ⟨ok_282,Ya.2 ⟨ok_283,Ya.2 ⟨ok_296,Ya.2 ⟨ok_297,Ya.2 ⟨ok_300,Ya.2 ⟨ok_305,Ya.2 ⟨ok_309,Ya.2 ⟨ok_310,Ya.2 ⟨ok_311,Ya.2 ⟨ok_312,Ya.2 ⟨ok_313,Ya.2 ⟨ok_314,Ya.2 ⟨ok_316,Ya.2 ⟨ok_317,Ya.2 ⟨ok_318,Ya.2 ⟨ok_319,Ya.2 ⟨ok_320,Ya.2 ⟨ok_321,Ya.2 ⟨ok_322,Ya.2 ⟨ok_323,Ya.2 ⟨ok_324,Ya.2 ⟨ok_325,Ya.2 ⟨ok_326,Ya.2 ⟨ok_327,Ya.2 ⟨ok_328,Ya.2 ⟨ok_329,Ya.2 ⟨ok_330,Ya.2 ⟨ok_331,Ya.2 ⟨ok_332,Ya.2 ⟨ok_333,Ya.2 ⟨ok_334,Ya.2 ⟨ok_335,Ya.2 ⟨ok_336,Ya.2 ⟨ok_337,Ya.2 ⟨ok_338,Ya.2 ⟨ok_339,Ya.2 ⟨ok_340,Ya.2 ⟨ok_341,Ya.2 ⟨ok_342,Ya.2 ⟨ok_343,Ya.2 ⟨ok_344,Ya.2 ⟨ok_345,Ya.2 ⟨ok_346,Ya.2 ⟨ok_347,Ya.2 ⟨ok_348,Ya.2 ⟨ok_349,Ya.2 ⟨ok_350,Ya.2 ⟨ok_351,Ya.2 ⟨ok_352,Ya.2 ⟨ok_353,Ya.2 ⟨ok_354,Ya.2 ⟨ok_355,Ya.2 ⟨ok_356,Ya.2 ⟨ok_357,Ya.2 ⟨ok_358,Ya.2 ⟨ok_359,Ya.2 ⟨ok_360,Ya.2 ⟨ok_361,Ya.2 ⟨ok_362,Ya.2 ⟨ok_363,Ya.2 ⟨ok_364,Ya.2 ⟨ok_365,Ya.2 ⟨ok_366,Ya.2 ⟨ok_367,Ya.2 ⟨ok_368,Ya.2 ⟨ok_369,Ya.2 ⟨ok_370,Ya.2 ⟨ok_371,Ya.2 ⟨ok_372,Ya.2 ⟨ok_373,Ya.2 ⟨ok_374,Ya.2 ⟨ok_375,Ya.2 ⟨ok_376,Ya.2 ⟨ok_377,Ya.2 ⟨ok_378,Ya.2 ⟨ok_379,Ya.2 ⟨ok_380,Ya.2 ⟨ok_381,Ya.2 ⟨ok_382,Ya.2 ⟨ok_383,Ya.2 ⟨ok_384,Ya.2 ⟨ok_385,Ya.2 ⟨ok_386,Ya.2 ⟨ok_387,Ya.2 ⟨ok_388,Ya.2 ⟨ok_389,Ya.2 ⟨ok_390,Ya.2 ⟨ok_391,Ya.2 ⟨ok_392,Ya.2 ⟨ok_393,Ya.2 ⟨ok_394,Ya.2 ⟨ok_395,Ya.2 ⟨ok_396,Ya.2 ⟨ok_397,Ya.2 ⟨ok_398,Ya.2 ⟨ok_399,Ya.2 ⟨ok_400,Ya.2 ⟨ok_401,Ya.2 ⟨ok_402,Ya.2 ⟨ok_432,fun _ h=>absurd h (by simp)⟩⟩⟩⟩⟩⟩⟩⟩⟩⟩⟩⟩⟩⟩⟩⟩⟩⟩⟩⟩⟩⟩⟩⟩⟩⟩⟩⟩⟩⟩⟩⟩⟩⟩⟩⟩⟩⟩⟩⟩⟩⟩⟩⟩⟩⟩⟩⟩⟩⟩⟩⟩⟩⟩⟩⟩⟩⟩⟩⟩⟩⟩⟩⟩⟩⟩⟩⟩⟩⟩⟩⟩⟩⟩⟩⟩⟩⟩⟩⟩⟩⟩⟩⟩⟩⟩⟩⟩⟩⟩⟩⟩⟩⟩⟩⟩⟩⟩⟩⟩⟩⟩⟩⟩⟩⟩⟩⟩⟩⟩⟩⟩⟩⟩⟩⟩⟩⟩⟩⟩⟩⟩⟩⟩⟩⟩⟩⟩⟩⟩⟩⟩⟩⟩⟩⟩⟩⟩⟩⟩⟩⟩⟩⟩⟩⟩⟩⟩⟩⟩⟩⟩⟩⟩⟩⟩⟩⟩⟩⟩⟩⟩⟩⟩⟩⟩⟩⟩⟩⟩⟩⟩⟩⟩⟩⟩⟩⟩⟩⟩⟩⟩⟩⟩⟩⟩⟩⟩⟩⟩⟩⟩⟩⟩⟩⟩⟩⟩⟩⟩⟩⟩⟩⟩⟩⟩⟩
theorem allOk:∀g fn,env.fn g=some fn->FnOk seat g fn:=fun g fn h=>okL (g,fn) (Zkw h)
theorem in_16:q16_In env:={ fn:=rfl }
theorem in_19:q19_In env:={ fn:=rfl }
theorem in_17:q17_In env:={ fn:=rfl,c19:=in_19 }
theorem in_3:q3_In env:={ fn:=rfl,c16:=in_16,c17:=in_17 }
theorem in_12:q12_In env:={ fn:=rfl,c17:=in_17 }
theorem in_14:q14_In env:={ fn:=rfl }
theorem in_15:q15_In env:={ fn:=rfl }
theorem in_2:q2_In env:={ fn:=rfl,c3:=in_3,c12:=in_12,c14:=in_14,c15:=in_15 }
theorem in_8:q8_In env:={ fn:=rfl }
theorem in_9:q9_In env:={ fn:=rfl }
theorem in_18:q18_In env:={ fn:=rfl,c19:=in_19 }
theorem in_10:q10_In env:={ fn:=rfl,c16:=in_16,c18:=in_18 }
theorem in_11:q11_In env:={ fn:=rfl,c9:=in_9,c10:=in_10,c15:=in_15 }
theorem in_115:q115_In env:={ fn:=rfl }
theorem in_97:q97_In env:={ fn:=rfl,c115:=in_115 }
theorem in_121:q121_In env:={ fn:=rfl }
theorem in_122:q122_In env:={ fn:=rfl }
theorem in_101:q101_In env:={ fn:=rfl,c121:=in_121,c122:=in_122 }
theorem in_76:q76_In env:={ fn:=rfl,c97:=in_97,c101:=in_101 }
theorem in_110:q110_In env:={ fn:=rfl }
theorem in_92:q92_In env:={ fn:=rfl }
theorem in_93:q93_In env:={ fn:=rfl }
theorem in_123:q123_In env:={ fn:=rfl,c92:=in_92,c93:=in_93 }
theorem in_104:q104_In env:={ fn:=rfl,c110:=in_110,c123:=in_123 }
theorem in_180:q180_In env:={ fn:=rfl,c104:=in_104 }
theorem in_81:q81_In env:={ fn:=rfl,c110:=in_110 }
theorem in_197:q197_In env:={ fn:=rfl }
theorem in_198:q198_In env:={ fn:=rfl }
theorem in_196:q196_In env:={ fn:=rfl,c81:=in_81,c197:=in_197,c198:=in_198 }
theorem in_181:q181_In env:={ fn:=rfl,c196:=in_196 }
theorem in_107:q107_In env:={ fn:=rfl,c81:=in_81,c123:=in_123 }
theorem in_111:q111_In env:={ fn:=rfl,c92:=in_92 }
theorem in_182:q182_In env:={ fn:=rfl,c81:=in_81,c107:=in_107,c111:=in_111,c196:=in_196,c197:=in_197,c198:=in_198 }
theorem in_254:q254_In env:={ fn:=rfl,c180:=in_180,c181:=in_181,c182:=in_182 }
theorem in_257:q257_In env:={ fn:=rfl }
theorem in_265:q265_In env:={ fn:=rfl }
theorem in_266:q266_In env:={ fn:=rfl }
theorem in_282:q282_In env:={ fn:=rfl }
theorem in_283:q283_In env:={ fn:=rfl }
theorem in_273:q273_In env:={ fn:=rfl,c257:=in_257,c282:=in_282,c283:=in_283 }
theorem in_267:q267_In env:={ fn:=rfl,c10:=in_10,c257:=in_257,c273:=in_273 }
theorem in_255:q255_In env:={ fn:=rfl,c9:=in_9,c10:=in_10,c12:=in_12,c257:=in_257,c265:=in_265,c266:=in_266,c267:=in_267 }
theorem in_113:q113_In env:={ fn:=rfl }
theorem in_105:q105_In env:={ fn:=rfl,c113:=in_113 }
theorem in_191:q191_In env:={ fn:=rfl }
theorem in_204:q204_In env:={ fn:=rfl }
theorem in_192:q192_In env:={ fn:=rfl,c204:=in_204 }
theorem in_172:q172_In env:={ fn:=rfl,c18:=in_18,c105:=in_105,c191:=in_191,c192:=in_192 }
theorem in_174:q174_In env:={ fn:=rfl,c172:=in_172 }
theorem in_195:q195_In env:={ fn:=rfl }
theorem in_175:q175_In env:={ fn:=rfl,c195:=in_195 }
theorem in_108:q108_In env:={ fn:=rfl }
theorem in_124:q124_In env:={ fn:=rfl }
theorem in_139:q139_In env:={ fn:=rfl }
theorem in_125:q125_In env:={ fn:=rfl,c139:=in_139 }
theorem in_114:q114_In env:={ fn:=rfl,c108:=in_108,c124:=in_124,c125:=in_125 }
theorem in_94:q94_In env:={ fn:=rfl,c113:=in_113,c114:=in_114 }
theorem in_102:q102_In env:={ fn:=rfl }
theorem in_148:q148_In env:={ fn:=rfl }
theorem in_156:q156_In env:={ fn:=rfl }
theorem in_155:q155_In env:={ fn:=rfl,c156:=in_156 }
theorem in_158:q158_In env:={ fn:=rfl }
theorem in_200:q200_In env:={ fn:=rfl }
theorem in_164:q164_In env:={ fn:=rfl }
theorem in_163:q163_In env:={ fn:=rfl,c164:=in_164 }
theorem in_159:q159_In env:={ fn:=rfl,c163:=in_163,c164:=in_164 }
theorem in_201:q201_In env:={ fn:=rfl,c159:=in_159 }
theorem in_188:q188_In env:={ fn:=rfl,c102:=in_102,c148:=in_148,c155:=in_155,c158:=in_158,c200:=in_200,c201:=in_201 }
theorem in_119:q119_In env:={ fn:=rfl }
theorem in_202:q202_In env:={ fn:=rfl }
theorem in_203:q203_In env:={ fn:=rfl }
theorem in_189:q189_In env:={ fn:=rfl,c119:=in_119,c202:=in_202,c203:=in_203 }
theorem in_190:q190_In env:={ fn:=rfl }
theorem in_171:q171_In env:={ fn:=rfl,c94:=in_94,c188:=in_188,c189:=in_189,c190:=in_190 }
theorem in_80:q80_In env:={ fn:=rfl }
theorem in_106:q106_In env:={ fn:=rfl,c105:=in_105,c113:=in_113,c114:=in_114,c124:=in_124 }
theorem in_109:q109_In env:={ fn:=rfl,c108:=in_108 }
theorem in_205:q205_In env:={ fn:=rfl }
theorem in_206:q206_In env:={ fn:=rfl }
theorem in_193:q193_In env:={ fn:=rfl,c80:=in_80,c105:=in_105,c106:=in_106,c109:=in_109,c205:=in_205,c206:=in_206 }
theorem in_207:q207_In env:={ fn:=rfl,c204:=in_204 }
theorem in_194:q194_In env:={ fn:=rfl,c192:=in_192,c207:=in_207 }
theorem in_173:q173_In env:={ fn:=rfl,c17:=in_17,c172:=in_172,c193:=in_193,c194:=in_194 }
theorem in_278:q278_In env:={ fn:=rfl,c171:=in_171,c173:=in_173 }
theorem in_271:q271_In env:={ fn:=rfl,c174:=in_174,c175:=in_175,c278:=in_278 }
theorem in_305:q305_In env:={ fn:=rfl,c2:=in_2,c8:=in_8,c11:=in_11,c76:=in_76,c254:=in_254,c255:=in_255,c271:=in_271 }
set_option maxRecDepth 1000000 in
theorem awkOk:∀p∈awkL,env.fn p.1=some p.2:=by
 unfold awkL
 exact Ya.2 ⟨rfl,Ya.2 ⟨rfl,Ya.2 ⟨rfl,Ya.2 ⟨rfl,Ya.2 ⟨rfl,Ya.2 ⟨rfl,Ya.2 ⟨rfl,Ya.2 ⟨rfl,Ya.2 ⟨rfl,Ya.2 ⟨rfl,Ya.2 ⟨rfl,Ya.2 ⟨rfl,Ya.2 ⟨rfl,Ya.2 ⟨rfl,Ya.2 ⟨rfl,Ya.2 ⟨rfl,Ya.2 ⟨rfl,Ya.2 ⟨rfl,Ya.2 ⟨rfl,Ya.2 ⟨rfl,Ya.2 ⟨rfl,Ya.2 ⟨rfl,Ya.2 ⟨rfl,Ya.2 ⟨rfl,Ya.2 ⟨rfl,Ya.2 ⟨rfl,Ya.2 ⟨rfl,Ya.2 ⟨rfl,Ya.2 ⟨rfl,Ya.2 ⟨rfl,Ya.2 ⟨rfl,Ya.2 ⟨rfl,Ya.2 ⟨rfl,Ya.2 ⟨rfl,Ya.2 ⟨rfl,Ya.2 ⟨rfl,Ya.2 ⟨rfl,Ya.2 ⟨rfl,Ya.2 ⟨rfl,Ya.2 ⟨rfl,Ya.2 ⟨rfl,Ya.2 ⟨rfl,Ya.2 ⟨rfl,Ya.2 ⟨rfl,Ya.2 ⟨rfl,Ya.2 ⟨rfl,Ya.2 ⟨rfl,Ya.2 ⟨rfl,Ya.2 ⟨rfl,Ya.2 ⟨rfl,Ya.2 ⟨rfl,Ya.2 ⟨rfl,Ya.2 ⟨rfl,Ya.2 ⟨rfl,Ya.2 ⟨rfl,Ya.2 ⟨rfl,Ya.2 ⟨rfl,Ya.2 ⟨rfl,Ya.2 ⟨rfl,Ya.2 ⟨rfl,Ya.2 ⟨rfl,Ya.2 ⟨rfl,Ya.2 ⟨rfl,Ya.2 ⟨rfl,Ya.2 ⟨rfl,Ya.2 ⟨rfl,Ya.2 ⟨rfl,Ya.2 ⟨rfl,Ya.2 ⟨rfl,Ya.2 ⟨rfl,Ya.2 ⟨rfl,Ya.2 ⟨rfl,Ya.2 ⟨rfl,Ya.2 ⟨rfl,Ya.2 ⟨rfl,Ya.2 ⟨rfl,Ya.2 ⟨rfl,Ya.2 ⟨rfl,Ya.2 ⟨rfl,Ya.2 ⟨rfl,Ya.2 ⟨rfl,Ya.2 ⟨rfl,Ya.2 ⟨rfl,Ya.2 ⟨rfl,Ya.2 ⟨rfl,Ya.2 ⟨rfl,Ya.2 ⟨rfl,Ya.2 ⟨rfl,Ya.2 ⟨rfl,Ya.2 ⟨rfl,Ya.2 ⟨rfl,Ya.2 ⟨rfl,Ya.2 ⟨rfl,Ya.2 ⟨rfl,Ya.2 ⟨rfl,Ya.2 ⟨rfl,Ya.2 ⟨rfl,Ya.2 ⟨rfl,Ya.2 ⟨rfl,Ya.2 ⟨rfl,Ya.2 ⟨rfl,Ya.2 ⟨rfl,Ya.2 ⟨rfl,Ya.2 ⟨rfl,Ya.2 ⟨rfl,Ya.2 ⟨rfl,Ya.2 ⟨rfl,Ya.2 ⟨rfl,Ya.2 ⟨rfl,Ya.2 ⟨rfl,Ya.2 ⟨rfl,Ya.2 ⟨rfl,Ya.2 ⟨rfl,Ya.2 ⟨rfl,Ya.2 ⟨rfl,Ya.2 ⟨rfl,Ya.2 ⟨rfl,Ya.2 ⟨rfl,Ya.2 ⟨rfl,Ya.2 ⟨rfl,Ya.2 ⟨rfl,Ya.2 ⟨rfl,Ya.2 ⟨rfl,Ya.2 ⟨rfl,Ya.2 ⟨rfl,Ya.2 ⟨rfl,Ya.2 ⟨rfl,Ya.2 ⟨rfl,Ya.2 ⟨rfl,Ya.2 ⟨rfl,Ya.2 ⟨rfl,Ya.2 ⟨rfl,Ya.2 ⟨rfl,Ya.2 ⟨rfl,Ya.2 ⟨rfl,Ya.2 ⟨rfl,Ya.2 ⟨rfl,Ya.2 ⟨rfl,Ya.2 ⟨rfl,Ya.2 ⟨rfl,Ya.2 ⟨rfl,Ya.2 ⟨rfl,Ya.2 ⟨rfl,Ya.2 ⟨rfl,Ya.2 ⟨rfl,Ya.2 ⟨rfl,Ya.2 ⟨rfl,Ya.2 ⟨rfl,Ya.2 ⟨rfl,Ya.2 ⟨rfl,Ya.2 ⟨rfl,Ya.2 ⟨rfl,Ya.2 ⟨rfl,Ya.2 ⟨rfl,Ya.2 ⟨rfl,Ya.2 ⟨rfl,Ya.2 ⟨rfl,Ya.2 ⟨rfl,Ya.2 ⟨rfl,Ya.2 ⟨rfl,Ya.2 ⟨rfl,Ya.2 ⟨rfl,Ya.2 ⟨rfl,Ya.2 ⟨rfl,Ya.2 ⟨rfl,Ya.2 ⟨rfl,Ya.2 ⟨rfl,Ya.2 ⟨rfl,Ya.2 ⟨rfl,Ya.2 ⟨rfl,Ya.2 ⟨rfl,Ya.2 ⟨rfl,Ya.2 ⟨rfl,Ya.2 ⟨rfl,Ya.2 ⟨rfl,Ya.2 ⟨rfl,Ya.2 ⟨rfl,fun _ h=>absurd h (by simp)⟩⟩⟩⟩⟩⟩⟩⟩⟩⟩⟩⟩⟩⟩⟩⟩⟩⟩⟩⟩⟩⟩⟩⟩⟩⟩⟩⟩⟩⟩⟩⟩⟩⟩⟩⟩⟩⟩⟩⟩⟩⟩⟩⟩⟩⟩⟩⟩⟩⟩⟩⟩⟩⟩⟩⟩⟩⟩⟩⟩⟩⟩⟩⟩⟩⟩⟩⟩⟩⟩⟩⟩⟩⟩⟩⟩⟩⟩⟩⟩⟩⟩⟩⟩⟩⟩⟩⟩⟩⟩⟩⟩⟩⟩⟩⟩⟩⟩⟩⟩⟩⟩⟩⟩⟩⟩⟩⟩⟩⟩⟩⟩⟩⟩⟩⟩⟩⟩⟩⟩⟩⟩⟩⟩⟩⟩⟩⟩⟩⟩⟩⟩⟩⟩⟩⟩⟩⟩⟩⟩⟩⟩⟩⟩⟩⟩⟩⟩⟩⟩⟩⟩⟩⟩⟩⟩⟩⟩⟩⟩⟩⟩⟩⟩⟩⟩⟩⟩⟩⟩⟩⟩⟩⟩⟩⟩⟩
theorem awkTab:env.tab=Zpi:=funext fun _=>rfl
end Go.Proofs.YtaohhggiapblkaaGreatDoor.LTopClocks

namespace Jq
open Go
section
variable (C:Zk) (L:Zbl) (G:Glo)
variable {h h0:Za}
variable {a0 a1 a2 a3 a6 a7 a11 a12:Int}
variable {l0 s0 s1:List Cell}
theorem q3_eq:q3.body C L G [(.agg l0),(.c (.int .i64 a1)),(.c (.int .i64 a2))] h0=if 0=0/\l0.length=65 then c1 (C 16 [(.agg l0),(.c (.int .i64 a1))] h0) fun y h=>asB y fun b=>scK b true (if 0<=a1/\a1<((64:Nat):Int) then Zf l0 (1+((Yc a1)*1)) fun q=>Zi .u64 (.c q) fun n=>c1 (C 17 [(.c (.int .u64 n)),(.c (.int .i64 a2))] h) fun y h=>asB y fun b=>some (b,h) else none) false h fun b h=>some ([(.c (.bool b))],h) else none:=by kernel_rfl
theorem q9_eq:q9.body C L G [(.c (.int .i64 a0))] h0=let v:Int:=(if 64<(if 0 > a0 then 0 else a0) then 64 else (if 0 > a0 then 0 else a0));if 0=0/\([ci0]++Yb 64 (Cell.int .u64 0)).length=65/\(splice ([ci0]++Yb 64 (Cell.int .u64 0)) 0 [(.int .i64 v)]).length=65 then if 0=0/\(splice ([ci0]++Yb 64 (Cell.int .u64 0)) 0 [(.int .i64 v)]).length=65 then some ([(.agg (splice ([ci0]++Yb 64 (Cell.int .u64 0)) 0 [(.int .i64 v)]))],h0) else none else none:=by kernel_rfl
theorem q10_eq:q10.body C L G [(.agg l0),(.c (.int .i64 a1)),(.c (.int .i64 a2))] h0=if 0=0/\l0.length=65 then c1 (C 16 [(.agg l0),(.c (.int .i64 a1))] h0) fun y h=>asB y fun b=>scK b true (if 0=0/\l0.length=65 then c1 (C 16 [(.agg l0),(.c (.int .i64 a2))] h) fun y h=>asB y fun b=>some (b,h) else none) false h fun b h=>if b=true then if 0<=a1/\a1<((64:Nat):Int) then Zf l0 (1+((Yc a1)*1)) fun q=>Zi .u64 (.c q) fun n=>c1 (C 18 [(.c (.int .u64 n)),(.c (.int .i64 a2))] h) fun y h1=>Zi .u64 y fun n=>if 0<=a1/\a1<((64:Nat):Int) then if (1+((Yc a1)*1))<l0.length then if 0=0/\(l0.set (1+((Yc a1)*1)) (.int .u64 n)).length=65 then if 0=0/\([ci0]++Yb 64 (Cell.int .u64 0)).length=65/\(l0.set (1+((Yc a1)*1)) (.int .u64 n)).length=65 then if 0=0/\(l0.set (1+((Yc a1)*1)) (.int .u64 n)).length=65 then some ([(.agg (l0.set (1+((Yc a1)*1)) (.int .u64 n)))],h1) else none else none else none else none else none else none else if 0=0/\l0.length=65 then if 0=0/\([ci0]++Yb 64 (Cell.int .u64 0)).length=65/\l0.length=65 then if 0=0/\l0.length=65 then some ([(.agg l0)],h) else none else none else none else none:=by kernel_rfl
def q12_k2 (h0:Za):Ex->St->Rs:=Zae (fun st=>q12_p1.exec C L G st (q12.fin G h0)) (q12.fin G h0)
def q12_k3 (h0:Za):Ex->St->Rs:=Zap 0 (q12_k2 C L G h0)
def q12_s2 (a6 a7:Int) (s0 s1:List Cell) (h:Za):St:=⟨tops 1 (.loc 0 0 :: .loc 1 0 :: tops 3 (.v (.c (.int .i64 a6)) :: .v (.c (.int .i64 a7)) :: tops 27 [])),[some s0,some s1],h⟩
def q12_F2 :St->Option (Ex × St):=Zo (q12_b2.exec C L G) [1,2,6,7] [0,1] [(1,[1,2],[0,1])]
def q12_k4 :Ex->St->Option (Ex × St):=Zae (fun st=>q12_p2.exec C L G st (Zaf [1,2,6,7] [0,1] [(1,[1,2],[0,1])])) (Zaf [1,2,6,7] [0,1] [(1,[1,2],[0,1])])
def q12_k5 :Ex->St->Option (Ex × St):=Zap 1 (q12_k4 C L G)
def q12_k6 :Ex->St->Option (Ex × St):=Zap 2 (q12_k5 C L G)
def q12_s1 (a3 a6:Int) (a7 a11 a12:Int) (s0 s1:List Cell) (h:Za):St:=⟨tops 1 (.loc 0 0 :: .loc 1 0 :: .v (.c (.int .i64 a3)) :: tops 2 (.v (.c (.int .i64 a6)) :: .v (.c (.int .i64 a7)) :: tops 3 (.v (.c (.int .i64 a11)) :: .v (.c (.int .i64 a12)) :: tops 22 []))),[some s0,some s1],h⟩
def q12_F1 :St->Option (Ex × St):=Zo (q12_b1.exec C L G) [1,2,3,6,7,11,12] [0,1] [(3,[1,2,6,7],[0,1])]
def q12_x1_3 (a6 a7:Int) (s0 s1:List Cell) (h:Za):St:=⟨tops 1 (.loc 0 0 :: .loc 1 0 :: tops 3 (.v (.c (.int .i64 a6)) :: .v (.c (.int .i64 a7)) :: tops 27 [])),[some s0,some s1],h⟩
def q12_x2_1 (s0 s1:List Cell) (h:Za):St:=⟨tops 1 (.loc 0 0 :: .loc 1 0 :: tops 32 []),[some s0,some s1],h⟩
theorem q12_r1:q12_F1 C L G (q12_s1 a3 a6 a7 a11 a12 s0 s1 h)=if (decide (a12<a11))=true then if 0<=a12/\a12<((64:Nat):Int) then Zf s0 (1+((Yc a12)*1)) fun q=>Zi .u64 (.c q) fun n=>c1 (C 17 [(.c (.int .u64 n)),(.c (.int .i64 a3))] h) fun y h1=>asB y fun b=>if b=true then if 0<=a12/\a12<((64:Nat):Int) then Zf s0 (1+((Yc a12)*1)) fun q=>Zi .u64 (.c q) fun n=>if 0<=a3/\a3<((64:Nat):Int) then Zf s0 (1+((Yc a3)*1)) fun q=>Zi .u64 (.c q) fun n1=>if 0<=a12/\a12<((64:Nat):Int) then if (1+((Yc a12)*1))<s0.length then some (.normal,(q12_s1 a3 a6 a7 a11 (G.wrap .i64 (a12+1)) (s0.set (1+((Yc a12)*1)) (.int .u64 (G.bor .u64 n n1))) s1 h1)) else none else none else none else none else some (.normal,(q12_s1 a3 a6 a7 a11 (G.wrap .i64 (a12+1)) s0 s1 h1)) else none else some ((.exit 2),(q12_x1_3 a6 a7 s0 s1 h)):=by kernel_rfl
theorem q12_e1_3:(q12_k6 C L G) (.exit 2) (q12_x1_3 a6 a7 s0 s1 h)=some (.normal,(q12_s2 a6 (G.wrap .i64 (a7+1)) s0 s1 h)):=by kernel_rfl
theorem q12_r2:q12_F2 C L G (q12_s2 a6 a7 s0 s1 h)=if (decide (a7<a6))=true then Zf s0 0 fun q=>Zi .i64 (.c q) fun n=>(L (q12_F1 C L G) (q12_s1 a7 a6 a7 n 0 s0 s1 h)).bind fun p=>(q12_k6 C L G) p.1 p.2 else some ((.exit 0),(q12_x2_1 s0 s1 h)):=by kernel_rfl
theorem q12_e2_1:(q12_k3 C L G h0) (.exit 0) (q12_x2_1 s0 s1 h)=if 0=0/\s0.length=65 then if 0=0/\s1.length=65/\s0.length=65 then if 0=0/\s0.length=65 then some ([(.agg s0)],h) else none else none else none:=by kernel_rfl
theorem q12_eq:q12.body C L G [(.agg l0)] h0=Zf l0 0 fun q=>Zi .i64 (.c q) fun n=>(L (q12_F2 C L G) (q12_s2 n 0 l0 ([ci0]++Yb 64 (Cell.int .u64 0)) h0)).bind fun p=>(q12_k3 C L G h0) p.1 p.2:=by kernel_rfl
theorem q14_eq:q14.body C L G [(.agg l0)] h0=Zf l0 0 fun q=>Zi .i64 (.c q) fun n=>some ([(.c (.int .i64 n))],h0):=by kernel_rfl
theorem q16_eq:q16.body C L G [(.agg l0),(.c (.int .i64 a1))] h0=scK (decide (a1>=0)) true (Zf l0 0 fun q=>Zi .i64 (.c q) fun n=>some ((decide (a1<n)),h0)) false h0 fun b h=>some ([(.c (.bool b))],h):=by kernel_rfl
end
section
def Zp (n:Nat) (f:Nat->Nat):List Cell:=.int .i64 n :: (Yu 64).map fun i=>.int .u64 (f i)
theorem relL_len (n:Nat) (f:Nat->Nat):(Zp n f).length=65:=by simp [Zp]
theorem Zkv (n:Nat) (f:Nat->Nat):(Zp n f)[0]? = some (.int .i64 n):=rfl
theorem Zjm {n:Nat} {f:Nat->Nat} {i:Nat} (hi:i<64):(Zp n f)[1+i]? = some (.int .u64 (f i)):=by
 rw [Zp,Nat.add_comm,List.getElem?_cons_succ,Yl,Yaw hi];rfl
def Zwv (f:Nat->Nat) (i v:Nat):Nat->Nat:=fun j=>if j=i then v else f j
theorem relL_set {n:Nat} {f:Nat->Nat} {i v:Nat}:(Zp n f).set (1+i) (.int .u64 v)=Zp n (Zwv f i v):=by
 rw [Zp,Nat.add_comm,List.set_cons_succ,Zp]
 congr 1
 refine Yak fun j=>?_
 rw [Ybc]
 simp only [Yi,List.length_range,Yl,Zwv]
 by_cases hj:j<64
 ·rw [Yaw hj]
  by_cases hij:i=j
  ·subst hij;simp [hj]
  ·have:¬j=i:=fun h=>hij h.symm
   simp [hij,this]
 ·rw [Yg (by simp;omega)]
  simp;intro h1;omega
theorem Zq722 {n:Nat} {f g:Nat->Nat} (h:∀i,i<64->f i=g i):Zp n f=Zp n g:=by
 unfold Zp
 congr 1
 refine Yav fun i hi=>?_
 rw [h i (by simpa using hi)]
def zeroL:List Cell:=[ci0]++Yb 64 (Cell.int .u64 0)
theorem zero_len:([ci0]++Yb 64 (Cell.int .u64 0)).length=65:=by simp
theorem zero_rel:([ci0]++Yb 64 (Cell.int .u64 0))=Zp 0 fun _=>0:=by
 rw [Zp,List.singleton_append];congr 1
theorem splice_zero {n m:Nat} {f:Nat->Nat}:splice (Zp m f) 0 [.int .i64 n]=Zp n f:=by
 simp [splice,Zp]
def Zem (f:Nat->Nat):Prop:=∀i,f i<2 ^ 64
theorem Zq703:Zem fun _=>0:=fun _=>by simp
theorem Zty {f:Nat->Nat} (h:Zem f) {i v:Nat} (hv:v<2 ^ 64):Zem (Zwv f i v):=fun j=>by unfold Zwv;split;exact hv;exact h j
def Zoz (a:Int):Nat:=min a.toNat 64
variable {E:Env}
theorem New_R (hE:q9_In E) (a:Int) (h:Za):R E 9 [.c (.int .i64 a)] h=some ([.agg (Zp (Zoz a) fun _=>0)],h):=by
 refine Zd hE.fn ?_
 rw [q9_eq]
 have hv:(if 64<(if 0 > a then 0 else a) then 64 else (if 0 > a then 0 else a))=((Zoz a:Nat):Int):=by
  unfold Zoz;split<;>split<;>omega
 simp only [hv,zero_rel,splice_zero,relL_len,and_self,if_true]
def inR (n:Nat) (a:Int):Bool:=decide (0<=a)&&decide (a<n)
theorem in_R (hE:q16_In E) (n:Nat) (f:Nat->Nat) (a:Int) (h:Za):R E 16 [.agg (Zp n f),.c (.int .i64 a)] h=some ([.c (.bool (inR n a))],h):=by
 refine Zd hE.fn ?_
 rw [q16_eq,Zak (Zkv n f),asI_ok,scK_and]
 rfl
theorem N_R (hE:q14_In E) (n:Nat) (f:Nat->Nat) (h:Za):R E 14 [.agg (Zp n f)] h=some ([.c (.int .i64 n)],h):=by
 refine Zd hE.fn ?_
 rw [q14_eq,Zak (Zkv n f),asI_ok]
def hasR (n:Nat) (f:Nat->Nat) (a b:Int):Bool:=inR n a&&Zra (f a.toNat) b
theorem HasR_R (hE:q3_In E) {n:Nat} (hn:n<=64) {f:Nat->Nat} (hf:Zem f) (a b:Int) (h:Za):R E 3 [.agg (Zp n f),.c (.int .i64 a),.c (.int .i64 b)] h=some ([.c (.bool (hasR n f a b))],h):=by
 refine Zd hE.fn ?_
 rw [q3_eq,if_pos ⟨rfl,relL_len n f⟩,in_R hE.c16,c1_ok,asB_ok]
 unfold hasR
 by_cases hi:inR n a=true
 ·have h2:0<=a/\a<n:=by simpa [inR] using hi
  have h3:a.toNat<64:=by omega
  rw [hi,scK_ok,if_pos ⟨h2.1,by omega⟩,Yao,Zak (Zjm h3),asI_ok,Zyb hE.c17 (hf _),c1_ok,asB_ok,bind_ok,Yr]
 ·have hi':inR n a=false:=by simpa using hi
  rw [hi',scK_ft,Yaf]
def Zss (n:Nat) (f:Nat->Nat) (a b:Int):Nat->Nat:=if inR n a&&inR n b then Zwv f a.toNat (f a.toNat ||| Zig b) else f
theorem Zq750 {n:Nat} {f:Nat->Nat} (hf:Zem f) (a b:Int):Zem (Zss n f a b):=by
 unfold Zss;split
 ·exact Zty hf (Zxy (hf _) (Zpo b))
 ·exact hf
theorem Add_R (hE:q10_In E) {n:Nat} (hn:n<=64) {f:Nat->Nat} (hf:Zem f) (a b:Int) (h:Za):R E 10 [.agg (Zp n f),.c (.int .i64 a),.c (.int .i64 b)] h=some ([.agg (Zp n (Zss n f a b))],h):=by
 refine Zd hE.fn ?_
 rw [q10_eq,if_pos ⟨rfl,relL_len n f⟩,in_R hE.c16,c1_ok,asB_ok,if_pos ⟨rfl,relL_len n f⟩,in_R hE.c16,c1_ok,asB_ok,scK_and]
 unfold Zss
 by_cases hi:(inR n a&&inR n b)=true
 ·rw [hi]
  simp only [Yd] at hi
  have h2:0<=a/\a<n:=by simpa [inR] using hi.1
  have h3:a.toNat<64:=by omega
  simp only [if_true]
  rw [if_pos ⟨h2.1,by omega⟩,Yao,Zak (Zjm h3),asI_ok,Zva hE.c18 (hf _),c1_ok,asI_ok,if_pos ⟨h2.1,by omega⟩,relL_set]
  simp only [relL_len,zero_len,and_self,if_true]
  rw [if_pos (by omega)]
 ·rw [show (inR n a&&inR n b)=false by simpa using hi]
  simp only [Yz,if_false,relL_len,zero_len,and_self,if_true]
def clS (f:Nat->Nat) (k i:Nat):Nat->Nat:=if (f i).testBit k then Zwv f i (f i ||| f k) else f
def cl1 (k:Nat):Nat->(Nat->Nat)->Nat->Nat
 | 0,f=>f
 | i+1,f=>clS (cl1 k i f) k i
def clK (n:Nat) (f:Nat->Nat):Nat->Nat->Nat
 | 0=>f
 | k+1=>cl1 k n (clK n f k)
theorem Znr {f:Nat->Nat} (hf:Zem f) (k:Nat):∀n,Zem (cl1 k n f)
 | 0=>hf
 | i+1=>by
  have ih:=Znr hf k i
  unfold cl1 clS;split
  ·exact Zty ih (Zxy (ih _) (ih _))
  ·exact ih
theorem Zkp {f:Nat->Nat} (hf:Zem f) (n:Nat):∀k,Zem (clK n f k)
 | 0=>hf
 | k+1=>Znr (Zkp hf n k) k n
theorem Ztn {E:Env} {i:Nat} (hi:i<9223372036854775807):E.glob.wrap .i64 ((i:Int)+1)=((i+1:Nat):Int):=by
 show IntKind.wrap .i64 _=_
 rw [Zey (by omega) (by omega)];omega
theorem Ztl (hE:q12_In E) {n:Nat} (hn:n<=64) {f:Nat->Nat} (hf:Zem f) (h:Za):R E 12 [.agg (Zp n f)] h=some ([.agg (Zp n (clK n f n))],h):=by
 refine Zd hE.fn ?_
 rw [q12_eq,Zak (Zkv n f),asI_ok]
 have outer:Zx (q12_F2 (R E) Zx E.glob) (q12_s2 n ((0:Nat):Int) (Zp n (clK n f 0)) zeroL h)=some (.exit 0,q12_x2_1 (Zp n (clK n f n)) zeroL h):=by
  refine Zao (fun k=>q12_s2 n (k:Int) (Zp n (clK n f k)) zeroL h) 0 n (by omega) (fun k _ hk=>?_) (Zl ?_)
  ·try dsimp only
   rw [q12_r2,if_pos (by simp;omega),Zak (Zkv _ _),asI_ok]
   have inner:Zx (q12_F1 (R E) Zx E.glob) (q12_s1 k n k n ((0:Nat):Int) (Zp n (cl1 k 0 (clK n f k))) zeroL h)=some (.exit 2,q12_x1_3 n k (Zp n (cl1 k n (clK n f k))) zeroL h):=by
    refine Zao (fun i=>q12_s1 k n k n (i:Int) (Zp n (cl1 k i (clK n f k))) zeroL h) 0 n (by omega) (fun i _ hi=>?_) (Zl ?_)
    ·try dsimp only
     have hw:=Znr (Zkp hf n k) k i
     have e1:(i:Int).toNat=i:=by omega
     have e2:(k:Int).toNat=k:=by omega
     have q1:0<=(i:Int)/\(i:Int)<((64:Nat):Int):=by omega
     have q2:0<=(k:Int)/\(k:Int)<((64:Nat):Int):=by omega
     rw [q12_r1,if_pos (by simp;omega),if_pos q1,e1,e2,Yao,Yao,Zak (Zjm (by omega)),asI_ok,Zyb hE.c17 (hw _),c1_ok,asB_ok,Ztn (by omega),Zrr (by omega)]
     rw [cl1,clS]
     cases hb:(cl1 k i (clK n f k) i).testBit k with
     | true =>
      simp only [if_true]
      rw [if_pos q1,Zak (Zjm (by omega)),asI_ok,if_pos q2,Zak (Zjm (by omega)),asI_ok,if_pos q1,g_bor (hw _) (hw _),relL_set,if_pos (by rw [relL_len];omega)]
     | false=>simp only [Yz,if_false]
    ·try dsimp only
     rw [q12_r1,if_neg (by simp)]
   have inner':=inner
   simp only [Int.ofNat_zero,Int.natCast_zero] at inner'
   rw [show q12_s1 k n k n 0 (Zp n (clK n f k)) zeroL h=q12_s1 k n k n ((0:Nat):Int) (Zp n (cl1 k 0 (clK n f k))) zeroL h from rfl,inner,bind_ok,q12_e1_3,Ztn (by omega)]
   rfl
  ·try dsimp only
   rw [q12_r2,if_neg (by simp)]
 rw [show q12_s2 n 0 (Zp n f) ([ci0]++Yb 64 (Cell.int .u64 0)) h=q12_s2 n ((0:Nat):Int) (Zp n (clK n f 0)) zeroL h from rfl,outer,bind_ok,q12_e2_1]
 simp only [relL_len,zeroL,zero_len,and_self,if_true]
end
inductive Way (f:Nat->Nat) (k:Nat):Nat->Nat->Prop
 | one {a b:Nat}:(f a).testBit b=true->Way f k a b
 | step {a c b:Nat}:(f a).testBit c=true->c<k->Way f k c b->Way f k a b
theorem Way.mono {f:Nat->Nat} {k m:Nat} (hkm:k<=m) {a b:Nat} (w:Way f k a b):Way f m a b:=by
 induction w with
 | one h=>exact .one h
 | step h hc _ ih=>exact .step h (by omega) ih
theorem Way.trans {f:Nat->Nat} {k a c b:Nat} (w:Way f k a c) (hc:c<k) (v:Way f k c b):Way f k a b:=by
 induction w with
 | one h=>exact .step h hc v
 | step h hc' _ ih=>exact .step h hc' (ih hc v)
theorem Way.succ {f:Nat->Nat} {k a b:Nat}:Way f (k+1) a b↔Way f k a b∨(Way f k a k/\Way f k k b):=by
 constructor
 ·intro w
  induction w with
  | one h=>exact .inl (.one h)
  | step h hc _ ih =>
   rcases Yaa _ k with hk | hk
   ·rcases ih with ih | ⟨i1,i2⟩
    ·exact .inl (.step h hk ih)
    ·exact .inr ⟨.step h hk i1,i2⟩
   ·have:_=k:=Nat.le_antisymm (Nat.lt_succ_iff.1 hc) hk
    subst this
    rcases ih with ih | ⟨_,i2⟩
    ·exact .inr ⟨.one h,ih⟩
    ·exact .inr ⟨.one h,i2⟩
 ·rintro (w | ⟨w1,w2⟩)
  ·exact w.mono (by omega)
  ·exact (w1.mono (by omega)).trans (Nat.lt_succ_self k) (w2.mono (by omega))
theorem cl1_eq (f:Nat->Nat) (k:Nat):∀n i,cl1 k n f i=if i<n/\(f i).testBit k=true then f i ||| f k else f i:=by
 intro n
 induction n with
 | zero=>intro i;rw [if_neg (by omega)];rfl
 | succ n ih =>
  intro i
  have hk:cl1 k n f k=f k:=by
   rw [ih];split
   ·exact Nat.or_self _
   ·rfl
  rw [cl1,clS]
  by_cases hb:(f n).testBit k=true
  ·have hn:cl1 k n f n=f n:=by rw [ih,if_neg (by omega)]
   rw [hn,if_pos hb,hk]
   unfold Zwv
   by_cases hi:i=n
   ·subst hi;rw [if_pos rfl,if_pos ⟨by omega,hb⟩]
   ·rw [if_neg hi,ih]
    congr 1
    rw [eq_iff_iff]
    exact and_congr_left fun _=>by omega
  ·have hn:cl1 k n f n=f n:=by rw [ih,if_neg (by omega)]
   rw [hn,if_neg hb,ih]
   by_cases hi:i=n
   ·subst hi;rw [if_neg (by omega),if_neg (fun h=>hb h.2)]
   ·congr 1
    rw [eq_iff_iff]
    exact and_congr_left fun _=>by omega
theorem clK_way (n:Nat) (f:Nat->Nat):∀k,k<=n->∀a b,a<n->((clK n f k a).testBit b=true↔Way f k a b):=by
 intro k
 induction k with
 | zero =>
  intro _ a b _
  constructor
  ·exact fun h=>.one h
  ·intro w
   cases w with
   | one h=>exact h
   | step _ hc _=>omega
 | succ k ih =>
  intro hk a b ha
  have ih':=ih (by omega)
  rw [clK,cl1_eq,Way.succ,←ih' a b ha,←ih' a k ha,←ih' k b (by omega)]
  by_cases hb:(clK n f k a).testBit k=true
  ·rw [if_pos ⟨ha,hb⟩,Yat,Yq];simp [hb]
  ·rw [if_neg (fun h=>hb h.2)];simp [hb]



section
variable (C:Zk) (L:Zbl) (G:Glo)
variable {h h0:Za}
variable {x8:Cell}
variable {a1 a2 a3 a4 a5 a6 a7 a9:Int}
variable {l0 l1 l2 s0 s1 s2:List Cell}
theorem q81_eq:q81.body C L G [(.agg l0),(.c (.int .i64 a1)),(.agg l2)] h0=if 0=0/\l0.length=3 then c1 (qh h0 (C 110 [(.agg l0),(.c (.int .i64 a1))] h0)) fun y h=>asB y fun b=>scK (!b) false (Zf l2 0 fun q=>Zi .i64 (.c q) fun n=>some ((decide (n<0)),h0)) true h0 fun b h=>scK b false (Zf l2 0 fun q=>Zi .i64 (.c q) fun n=>Zf l0 2 fun q=>Zm 1 q a1 fun k N o=>Zn h k N fun l=>Zf l o fun q=>Zaj q fun n1=>some ((decide (n>=n1)),h)) true h fun b h=>if b=true then if 0=0/\(Yb 9 ci0).length=9/\(Yb 9 ci0).length=9 then if 0=0/\(Yb 9 ci0).length=9 then some ([(.agg (Yb 9 ci0)),(.c (.bool false))],h) else none else none else Zf l0 2 fun q=>Zm 1 q a1 fun k N o=>Zn h k N fun l=>Zf l o fun q=>Zf l2 0 fun q1=>Zi .i64 (.c q1) fun n=>Zm 9 q n fun k N o=>Zn h k N fun l=>if o+9<=l.length then if 0=0/\(Yb 9 ci0).length=9/\((l.drop o).take 9).length=9 then Zf ((l.drop o).take 9) 0 fun q=>Zi .i64 (.c q) fun n=>scK (n==5) false (Zf ((l.drop o).take 9) 0 fun q=>Zi .i64 (.c q) fun n=>some ((n==6),h)) true h fun b h=>if b=true then if 0=0/\(Yb 9 ci0).length=9/\(Yb 9 ci0).length=9 then if 0=0/\(Yb 9 ci0).length=9 then some ([(.agg (Yb 9 ci0)),(.c (.bool false))],h) else none else none else if 0=0/\((l.drop o).take 9).length=9 then if 0=0/\(Yb 9 ci0).length=9/\((l.drop o).take 9).length=9 then if 0=0/\((l.drop o).take 9).length=9 then some ([(.agg ((l.drop o).take 9)),(.c (.bool true))],h) else none else none else none else none else none else none:=by kernel_rfl
theorem q92_eq:q92.body C L G [(.agg l0),(.agg l1)] h0=Zf l0 0 fun q=>Zi .i64 (.c q) fun n=>scK (decide (n>=0)) true (Zf l0 0 fun q=>Zi .i64 (.c q) fun n=>some ((decide (n<=3)),h0)) false h0 fun b h=>if b=true then Zf l0 0 fun q=>Zi .i64 (.c q) fun n=>if 0<=n/\n<((4:Nat):Int) then Zf l1 (1+((Yc n)*1)) fun q=>Zi .i64 (.c q) fun n=>some ([(.c (.int .i64 n))],h) else none else Zf l0 1 fun q=>Zi .i64 (.c q) fun n=>some ([(.c (.int .i64 n))],h):=by kernel_rfl
def q101_k2 (h0:Za):Ex->St->Rs:=Zae (fun st=>q101_p1.exec C L G st (q101.fin G h0)) (q101.fin G h0)
def q101_k3 (h0:Za):Ex->St->Rs:=Zap 0 (q101_k2 C L G h0)
def q101_s2 (a4:Int) (s0 s1 s2:List Cell) (h:Za):St:=⟨tops 1 (.loc 0 0 :: .loc 1 0 :: .loc 2 0 :: .v (.c (.int .i64 a4)) :: tops 92 []),[some s0,some s1,some s2,none],h⟩
def q101_F2 :St->Option (Ex × St):=Zo (q101_b2.exec C L G) [1,2,3,4] [0,1,2] [(1,[1,2,3],[0,1,2])]
def q101_k4 :Ex->St->Option (Ex × St):=Zae (fun st=>q101_p2.exec C L G st (Zaf [1,2,3,4] [0,1,2] [(1,[1,2,3],[0,1,2])])) (Zaf [1,2,3,4] [0,1,2] [(1,[1,2,3],[0,1,2])])
def q101_k5 :Ex->St->Option (Ex × St):=Zap 1 (q101_k4 C L G)
def q101_k6 :Ex->St->Option (Ex × St):=Zae (fun st=>q101_p3.exec C L G st (q101_k5 C L G)) (q101_k5 C L G)
def q101_k7 :Ex->St->Option (Ex × St):=Zap 2 (q101_k6 C L G)
def q101_s1 (a4 a5 a6:Int) (s0 s1 s2:List Cell) (h:Za):St:=⟨tops 1 (.loc 0 0 :: .loc 1 0 :: .loc 2 0 :: .v (.c (.int .i64 a4)) :: .v (.c (.int .i64 a5)) :: .v (.c (.int .i64 a6)) :: tops 90 []),[some s0,some s1,some s2,none],h⟩
def q101_F1 :St->Option (Ex × St):=Zo (q101_b1.exec C L G) [1,2,3,4,5,6] [0,1,2] [(3,[1,2,3,4,5],[0,1,2])]
def q101_x1_3 (a4 a5:Int) (s0 s1 s2:List Cell) (h:Za):St:=⟨tops 1 (.loc 0 0 :: .loc 1 0 :: .loc 2 0 :: .v (.c (.int .i64 a4)) :: .v (.c (.int .i64 a5)) :: tops 91 []),[some s0,some s1,some s2,none],h⟩
def q101_x2_1 (s0 s1 s2:List Cell) (h:Za):St:=⟨tops 1 (.loc 0 0 :: .loc 1 0 :: .loc 2 0 :: tops 93 []),[some s0,some s1,some s2,none],h⟩
def q101_k8 (h0:Za):Ex->St->Rs:=Zae (fun st=>q101_p4.exec C L G st (q101.fin G h0)) (q101.fin G h0)
def q101_k9 (h0:Za):Ex->St->Rs:=Zap 4 (q101_k8 C L G h0)
def q101_s4 (a7:Int) (s0 s1 s2:List Cell) (h:Za):St:=⟨tops 1 (.loc 0 0 :: .loc 1 0 :: .loc 2 0 :: tops 3 (.v (.c (.int .i64 a7)) :: tops 89 [])),[some s0,some s1,some s2,none],h⟩
def q101_F4 :St->Option (Ex × St):=Zo (q101_b4.exec C L G) [1,2,3,7] [0,1,2] [(5,[2,3],[1,2])]
def q101_k10 :Ex->St->Option (Ex × St):=Zae (fun st=>q101_p5.exec C L G st (Zaf [1,2,3,7] [0,1,2] [(5,[2,3],[1,2])])) (Zaf [1,2,3,7] [0,1,2] [(5,[2,3],[1,2])])
def q101_k11 :Ex->St->Option (Ex × St):=Zap 5 (q101_k10 C L G)
def q101_k12 :Ex->St->Option (Ex × St):=Zae (fun st=>q101_p6.exec C L G st (q101_k11 C L G)) (q101_k11 C L G)
def q101_k13 :Ex->St->Option (Ex × St):=Zap 6 (q101_k12 C L G)
def q101_s3 (a7:Int) (x8:Cell) (a9:Int) (s0 s1 s2:List Cell) (h:Za):St:=⟨tops 1 (.loc 0 0 :: .loc 1 0 :: .loc 2 0 :: tops 3 (.v (.c (.int .i64 a7)) :: .v (.c x8) :: .v (.c (.int .i64 a9)) :: tops 87 [])),[some s0,some s1,some s2,none],h⟩
def q101_F3 :St->Option (Ex × St):=Zo (q101_b3.exec C L G) [1,2,3,7,8,9] [0,1,2] [(7,[1,2,3,7,8],[0,1,2])]
def q101_x3_7 (a7:Int) (x8:Cell) (s0 s1 s2:List Cell) (h:Za):St:=⟨tops 1 (.loc 0 0 :: .loc 1 0 :: .loc 2 0 :: tops 3 (.v (.c (.int .i64 a7)) :: .v (.c x8) :: tops 88 [])),[some s0,some s1,some s2,none],h⟩
def q101_x4_5 (s1 s2:List Cell) (h:Za):St:=⟨tops 2 (.loc 1 0 :: .loc 2 0 :: tops 93 []),[none,some s1,some s2,none],h⟩
theorem q101_r1:q101_F1 C L G (q101_s1 a4 a5 a6 s0 s1 s2 h)=Zf s0 1 fun q=>Zaj q fun n=>if (decide (a6<n))=true then Zf s0 1 fun q=>Zm 2 q a6 fun k N o=>Zn h k N fun l=>Zf l (o+0) fun q=>Zi .i64 (.c q) fun n=>Zf s2 0 fun q=>Zm 1 q a4 fun k N o=>Zn h k N fun l=>Zf l o fun q=>Zi .u8 (.c q) fun n1=>if (n==(G.wrap .i64 n1))=true then Zf s0 1 fun q=>Zm 2 q a6 fun k N o=>Zn h k N fun l=>Zf l (o+1) fun q=>Zi .i64 (.c q) fun n=>some (.normal,(q101_s1 a4 n (G.wrap .i64 (a6+1)) s0 s1 s2 h)) else some (.normal,(q101_s1 a4 a5 (G.wrap .i64 (a6+1)) s0 s1 s2 h)) else some ((.exit 2),(q101_x1_3 a4 a5 s0 s1 s2 h)):=by kernel_rfl
theorem q101_e1_3:(q101_k7 C L G) (.exit 2) (q101_x1_3 a4 a5 s0 s1 s2 h)=Zf s2 1 fun q=>if (splice [ci0] 0 [(.int .i64 a5)]).length=1*1 then Zaq 1 8 q (splice [ci0] 0 [(.int .i64 a5)]) h fun x h=>if 1<s2.length then some (.normal,(q101_s2 (G.wrap .i64 (a4+1)) s0 s1 (s2.set 1 x) h)) else none else none:=by kernel_rfl
theorem q101_r2:q101_F2 C L G (q101_s2 a4 s0 s1 s2 h)=Zf s2 0 fun q=>Zaj q fun n=>if (decide (a4<n))=true then (L (q101_F1 C L G) (q101_s1 a4 0 0 s0 s1 s2 h)).bind fun p=>(q101_k7 C L G) p.1 p.2 else some ((.exit 0),(q101_x2_1 s0 s1 s2 h)):=by kernel_rfl
theorem q101_r3:q101_F3 C L G (q101_s3 a7 x8 a9 s0 s1 s2 h)=Zf s0 2 fun q=>Zm 1 q a7 fun k N o=>Zn h k N fun l=>Zf l o fun q=>Zaj q fun n=>if (decide (a9<n))=true then Zf s0 2 fun q=>Zm 1 q a7 fun k N o=>Zn h k N fun l=>Zf l o fun q=>Zm 9 q a9 fun k N o=>Zn h k N fun l=>if o+9<=l.length then if 0=0/\(Yb 9 ci0).length=9/\((l.drop o).take 9).length=9 then Zf ((l.drop o).take 9) 2 fun q=>Zi .i64 (.c q) fun n=>if (n != 0)=true then if 0=0/\s2.length=3 then Zf ((l.drop o).take 9) 2 fun q=>Zi .i64 (.c q) fun n=>c1 (C 122 [(.agg s2),(.c (.int .i64 n))] h) fun y h1=>Zi .i64 y fun n=>if 2<((l.drop o).take 9).length then if 0=0/\(((l.drop o).take 9).set 2 (.int .i64 n)).length=9 then if (((l.drop o).take 9).set 2 (.int .i64 n)).length=9/\0+9<=(Yb 9 ci0).length then if (splice (Yb 9 ci0) 0 (((l.drop o).take 9).set 2 (.int .i64 n))).length=1*9 then Zaq 9 72 x8 (splice (Yb 9 ci0) 0 (((l.drop o).take 9).set 2 (.int .i64 n))) h1 fun x h1=>some (.normal,(q101_s3 a7 x (G.wrap .i64 (a9+1)) s0 s1 s2 h1)) else none else none else none else none else none else if 0=0/\((l.drop o).take 9).length=9 then if ((l.drop o).take 9).length=9/\0+9<=(Yb 9 ci0).length then if (splice (Yb 9 ci0) 0 ((l.drop o).take 9)).length=1*9 then Zaq 9 72 x8 (splice (Yb 9 ci0) 0 ((l.drop o).take 9)) h fun x h1=>some (.normal,(q101_s3 a7 x (G.wrap .i64 (a9+1)) s0 s1 s2 h1)) else none else none else none else none else none else some ((.exit 6),(q101_x3_7 a7 x8 s0 s1 s2 h)):=by kernel_rfl
theorem q101_e3_7:(q101_k13 C L G) (.exit 6) (q101_x3_7 a7 x8 s0 s1 s2 h)=Zf s2 2 fun q=>if (splice [Cell.nils] 0 [x8]).length=1*1 then Zaq 1 24 q (splice [Cell.nils] 0 [x8]) h fun x h=>if 2<s2.length then some (.normal,(q101_s4 (G.wrap .i64 (a7+1)) s0 s1 (s2.set 2 x) h)) else none else none:=by kernel_rfl
theorem q101_r4:q101_F4 C L G (q101_s4 a7 s0 s1 s2 h)=Zf s0 2 fun q=>Zaj q fun n=>if (decide (a7<n))=true then (L (q101_F3 C L G) (q101_s3 a7 .nils 0 s0 s1 s2 h)).bind fun p=>(q101_k13 C L G) p.1 p.2 else some ((.exit 4),(q101_x4_5 s1 s2 h)):=by kernel_rfl
theorem q101_e4_5:(q101_k9 C L G h0) (.exit 4) (q101_x4_5 s1 s2 h)=if 0=0/\s2.length=3 then if 0=0/\s1.length=3/\s2.length=3 then if 0=0/\s2.length=3 then some ([(.agg s2)],h) else none else none else none:=by kernel_rfl
theorem q101_e2_1:(q101_k3 C L G h0) (.exit 0) (q101_x2_1 s0 s1 s2 h)=(L (q101_F4 C L G) (q101_s4 0 s0 s1 s2 h)).bind fun p=>(q101_k9 C L G h0) p.1 p.2:=by kernel_rfl
theorem q101_eq:q101.body C L G [(.agg l0)] h0=if 0=0/\l0.length=5 then c1 (C 121 [(.agg l0)] h0) fun y h=>asC y fun x=>if 0=0/\[Cell.nils,Cell.nils,Cell.nils].length=3/\(splice [Cell.nils,Cell.nils,Cell.nils] 0 [x]).length=3 then (L (q101_F2 C L G) (q101_s2 0 l0 [Cell.nils,Cell.nils,Cell.nils] (splice [Cell.nils,Cell.nils,Cell.nils] 0 [x]) h)).bind fun p=>(q101_k3 C L G h0) p.1 p.2 else none else none:=by kernel_rfl
theorem q104_eq:q104.body C L G [(.agg l0),(.c (.int .i64 a1))] h0=if 0=0/\l0.length=3 then c1 (C 110 [(.agg l0),(.c (.int .i64 a1))] h0) fun y h=>asB y fun b=>if (!b)=true then if 0=0/\[ci0,ci0,ci0,ci0,ci0].length=5/\[ci0,ci0,ci0,ci0,ci0].length=5 then if 0=0/\[ci0,ci0,ci0,ci0,ci0].length=5 then some ([(.agg [ci0,ci0,ci0,ci0,ci0])],h) else none else none else if 0=0/\l0.length=3 then c1 (C 123 [(.agg l0),(.c (.int .i64 a1)),(.agg [ci0,ci0,ci0,ci0,ci0])] h) fun y h=>asA y fun l=>if 0=0/\[ci0,ci0,ci0,ci0,ci0].length=5/\l.length=5 then if 0=0/\l.length=5 then some ([(.agg l)],h) else none else none else none else none:=by kernel_rfl
theorem q107_eq:q107.body C L G [(.agg l0),(.c (.int .i64 a1)),(.agg l2),(.c (.int .i64 a3))] h0=if 0=0/\l0.length=3 then if 0=0/\l2.length=5 then c2 (C 81 [(.agg l0),(.c (.int .i64 a1)),(.agg l2)] h0) fun y y1 h=>asA y fun l=>asB y1 fun b=>if 0=0/\(Yb 9 ci0).length=9/\l.length=9 then if (!b)=true then if 0=0/\l2.length=5 then if 0=0/\[ci0,ci0,ci0,ci0,ci0].length=5/\l2.length=5 then if 0=0/\l2.length=5 then some ([(.agg l2)],h) else none else none else none else Zf l 0 fun q=>Zi .i64 (.c q) fun n=>scK (n==2) false (Zf l 0 fun q=>Zi .i64 (.c q) fun n=>some ((n==4),h)) true h fun b h=>if b=true then Zf l 1 fun q=>Zi .i64 (.c q) fun n=>if 0<=n/\n<((4:Nat):Int) then if (1+((Yc n)*1))<l2.length then Zf (l2.set (1+((Yc n)*1)) (.int .i64 a3)) 0 fun q=>Zi .i64 (.c q) fun n1=>if 0<(l2.set (1+((Yc n)*1)) (.int .i64 a3)).length then if 0=0/\l0.length=3 then if 0=0/\((l2.set (1+((Yc n)*1)) (.int .i64 a3)).set 0 (.int .i64 (G.wrap .i64 (n1+1)))).length=5 then c1 (C 123 [(.agg l0),(.c (.int .i64 a1)),(.agg ((l2.set (1+((Yc n)*1)) (.int .i64 a3)).set 0 (.int .i64 (G.wrap .i64 (n1+1)))))] h) fun y h1=>asA y fun l=>if 0=0/\[ci0,ci0,ci0,ci0,ci0].length=5/\l.length=5 then if 0=0/\l.length=5 then some ([(.agg l)],h1) else none else none else none else none else none else none else none else Zf l2 0 fun q=>Zi .i64 (.c q) fun n=>if 0<l2.length then if 0=0/\l0.length=3 then if 0=0/\(l2.set 0 (.int .i64 (G.wrap .i64 (n+1)))).length=5 then c1 (C 123 [(.agg l0),(.c (.int .i64 a1)),(.agg (l2.set 0 (.int .i64 (G.wrap .i64 (n+1)))))] h) fun y h=>asA y fun l=>if 0=0/\[ci0,ci0,ci0,ci0,ci0].length=5/\l.length=5 then if 0=0/\l.length=5 then some ([(.agg l)],h) else none else none else none else none else none else none else none else none:=by kernel_rfl
theorem q110_eq:q110.body C L G [(.agg l0),(.c (.int .i64 a1))] h0=scK (decide (a1>=0)) true (Zf l0 2 fun q=>Zaj q fun n=>some ((decide (a1<n)),h0)) false h0 fun b h=>some ([(.c (.bool b))],h):=by kernel_rfl
theorem q111_eq:q111.body C L G [(.agg l0),(.agg l1),(.c (.int .i64 a2))] h0=Zf l0 0 fun q=>Zi .i64 (.c q) fun n=>if (n==1)=true then Zf l0 2 fun q=>Zi .i64 (.c q) fun n1=>if 3+2<=l0.length then if 0=0/\l1.length=5 then c1 (qh h0 (C 92 [(.agg ((l0.drop 3).take 2)),(.agg l1)] h0)) fun y h=>Zi .i64 y fun n2=>if 0=0/\[ci0,ci0,ci0,ci0,ci0,ci0].length=6/\(splice (splice (splice [ci0,ci0,ci0,ci0,ci0,ci0] 2 [(.int .i64 2)]) 3 [(.int .i64 n1)]) 5 [(.int .i64 n2)]).length=6 then if 0=0/\(splice (splice (splice [ci0,ci0,ci0,ci0,ci0,ci0] 2 [(.int .i64 2)]) 3 [(.int .i64 n1)]) 5 [(.int .i64 n2)]).length=6 then some ([(.agg (splice (splice (splice [ci0,ci0,ci0,ci0,ci0,ci0] 2 [(.int .i64 2)]) 3 [(.int .i64 n1)]) 5 [(.int .i64 n2)]))],h0) else none else none else none else none else if (n==2)=true then Zf l0 2 fun q=>Zi .i64 (.c q) fun n1=>if 0=0/\[ci0,ci0,ci0,ci0,ci0,ci0].length=6/\(splice (splice (splice [ci0,ci0,ci0,ci0,ci0,ci0] 2 [(.int .i64 1)]) 3 [(.int .i64 n1)]) 4 [(.int .i64 a2)]).length=6 then if 0=0/\(splice (splice (splice [ci0,ci0,ci0,ci0,ci0,ci0] 2 [(.int .i64 1)]) 3 [(.int .i64 n1)]) 4 [(.int .i64 a2)]).length=6 then some ([(.agg (splice (splice (splice [ci0,ci0,ci0,ci0,ci0,ci0] 2 [(.int .i64 1)]) 3 [(.int .i64 n1)]) 4 [(.int .i64 a2)]))],h0) else none else none else if (n==4)=true then if 3+2<=l0.length then if 0=0/\l1.length=5 then c1 (C 92 [(.agg ((l0.drop 3).take 2)),(.agg l1)] h0) fun y h=>Zi .i64 y fun n=>if (a2==n)=true then Zf l0 2 fun q=>Zi .i64 (.c q) fun n=>if 6+2<=l0.length then if 0=0/\l1.length=5 then c1 (qh h (C 92 [(.agg ((l0.drop 6).take 2)),(.agg l1)] h)) fun y h1=>Zi .i64 y fun n1=>if 0=0/\[ci0,ci0,ci0,ci0,ci0,ci0].length=6/\(splice (splice (splice (splice [ci0,ci0,ci0,ci0,ci0,ci0] 2 [(.int .i64 4)]) 3 [(.int .i64 n)]) 4 [(.int .i64 a2)]) 5 [(.int .i64 n1)]).length=6 then if 0=0/\(splice (splice (splice (splice [ci0,ci0,ci0,ci0,ci0,ci0] 2 [(.int .i64 4)]) 3 [(.int .i64 n)]) 4 [(.int .i64 a2)]) 5 [(.int .i64 n1)]).length=6 then some ([(.agg (splice (splice (splice (splice [ci0,ci0,ci0,ci0,ci0,ci0] 2 [(.int .i64 4)]) 3 [(.int .i64 n)]) 4 [(.int .i64 a2)]) 5 [(.int .i64 n1)]))],h) else none else none else none else none else Zf l0 2 fun q=>Zi .i64 (.c q) fun n=>if 0=0/\[ci0,ci0,ci0,ci0,ci0,ci0].length=6/\(splice (splice (splice [ci0,ci0,ci0,ci0,ci0,ci0] 2 [(.int .i64 5)]) 3 [(.int .i64 n)]) 4 [(.int .i64 a2)]).length=6 then if 0=0/\(splice (splice (splice [ci0,ci0,ci0,ci0,ci0,ci0] 2 [(.int .i64 5)]) 3 [(.int .i64 n)]) 4 [(.int .i64 a2)]).length=6 then some ([(.agg (splice (splice (splice [ci0,ci0,ci0,ci0,ci0,ci0] 2 [(.int .i64 5)]) 3 [(.int .i64 n)]) 4 [(.int .i64 a2)]))],h) else none else none else none else none else if 0=0/\[ci0,ci0,ci0,ci0,ci0,ci0].length=6/\(splice [ci0,ci0,ci0,ci0,ci0,ci0] 2 [(.int .i64 3)]).length=6 then if 0=0/\(splice [ci0,ci0,ci0,ci0,ci0,ci0] 2 [(.int .i64 3)]).length=6 then some ([(.agg (splice [ci0,ci0,ci0,ci0,ci0,ci0] 2 [(.int .i64 3)]))],h0) else none else none:=by kernel_rfl
def q122_k2 (h0:Za):Ex->St->Rs:=Zae (fun st=>q122_p1.exec C L G st (q122.fin G h0)) (q122.fin G h0)
def q122_k3 (h0:Za):Ex->St->Rs:=Zap 0 (q122_k2 C L G h0)
def q122_s1 (a1 a5:Int) (s0:List Cell) (h:Za):St:=⟨tops 1 (.v (.c (.int .i64 a1)) :: .loc 0 0 :: tops 2 (.v (.c (.int .i64 a5)) :: tops 16 [])),[some s0],h⟩
def q122_F1 :St->Option (Ex × St):=Zo (q122_b1.exec C L G) [1,2,5] [0] [(0,[4],[]),(1,[],[])]
def q122_x1_0 (a4:Int) (h:Za):St:=⟨tops 4 (.v (.c (.int .i64 a4)) :: tops 17 []),[none],h⟩
def q122_x1_1 (h:Za):St:=⟨tops 22 [],[none],h⟩
theorem q122_r1:q122_F1 C L G (q122_s1 a1 a5 s0 h)=Zf s0 0 fun q=>Zaj q fun n=>if (decide (a5<n))=true then Zf s0 0 fun q=>Zm 1 q a5 fun k N o=>Zn h k N fun l=>Zf l o fun q=>Zi .u8 (.c q) fun n=>if ((G.wrap .i64 n)==a1)=true then some (.ret,(q122_x1_0 a5 h)) else some (.normal,(q122_s1 a1 (G.wrap .i64 (a5+1)) s0 h)) else some ((.exit 0),(q122_x1_1 h)):=by kernel_rfl
theorem q122_e1_0:(q122_k3 C L G h0) .ret (q122_x1_0 a4 h)=some ([(.c (.int .i64 a4))],h):=by kernel_rfl
theorem q122_e1_1:(q122_k3 C L G h0) (.exit 0) (q122_x1_1 h)=some ([(.c (.int .i64 (-1)))],h):=by kernel_rfl
theorem q122_eq:q122.body C L G [(.agg l0),(.c (.int .i64 a1))] h0=(L (q122_F1 C L G) (q122_s1 a1 0 l0 h0)).bind fun p=>(q122_k3 C L G h0) p.1 p.2:=by kernel_rfl
def q123_k2 (h0:Za):Ex->St->Rs:=Zae (fun st=>q123_p1.exec C L G st (q123.fin G h0)) (q123.fin G h0)
def q123_k3 (h0:Za):Ex->St->Rs:=Zap 0 (q123_k2 C L G h0)
def q123_s1 (a1:Int) (s0 s1 s2:List Cell) (h:Za):St:=⟨tops 1 (.v (.c (.int .i64 a1)) :: tops 1 (.loc 0 0 :: tops 1 (.loc 1 0 :: .loc 2 0 :: tops 74 []))),[some s0,some s1,some s2,none],h⟩
def q123_F1 :St->Option (Ex × St):=Zo (q123_b1.exec C L G) [1,3,5,6] [0,1,2] [(0,[6],[2]),(1,[5,6],[1,2])]
def q123_x1_0 (s2:List Cell) (h:Za):St:=⟨tops 6 (.loc 2 0 :: tops 74 []),[none,none,some s2,none],h⟩
def q123_x1_1 (s1 s2:List Cell) (h:Za):St:=⟨tops 5 (.loc 1 0 :: .loc 2 0 :: tops 74 []),[none,some s1,some s2,none],h⟩
theorem q123_r1:q123_F1 C L G (q123_s1 a1 s0 s1 s2 h)=Zf s1 0 fun q=>Zi .i64 (.c q) fun n=>Zf s0 2 fun q=>Zm 1 q a1 fun k N o=>Zn h k N fun l=>Zf l o fun q=>Zaj q fun n1=>if (decide (n<n1))=true then Zf s0 2 fun q=>Zm 1 q a1 fun k N o=>Zn h k N fun l=>Zf l o fun q=>Zf s1 0 fun q1=>Zi .i64 (.c q1) fun n=>Zm 9 q n fun k N o=>Zn h k N fun l=>if o+9<=l.length then if 0=0/\(Yb 9 ci0).length=9/\((l.drop o).take 9).length=9 then Zf ((l.drop o).take 9) 0 fun q=>Zi .i64 (.c q) fun n=>if (n==5)=true then if 3+2<=((l.drop o).take 9).length then if 0=0/\s1.length=5 then c1 (C 92 [(.agg ((((l.drop o).take 9).drop 3).take 2)),(.agg s1)] h) fun y h1=>Zi .i64 y fun n1=>Zf ((l.drop o).take 9) 5 fun q=>Zi .i64 (.c q) fun n2=>if (n2 != 0)=true then Zf ((l.drop o).take 9) 5 fun q=>Zi .i64 (.c q) fun n2=>if 6+2<=((l.drop o).take 9).length then if 0=0/\s1.length=5 then c1 (qh h1 (C 92 [(.agg ((((l.drop o).take 9).drop 6).take 2)),(.agg s1)] h1)) fun y h2=>Zi .i64 y fun n3=>c2 (qh h1 (C 93 [(.c (.int .i64 n2)),(.c (.int .i64 n1)),(.c (.int .i64 n3))] h1)) fun y y1 h2=>Zi .i64 y fun n2=>asB y1 fun b=>Zf ((l.drop o).take 9) 1 fun q=>Zi .i64 (.c q) fun n3=>if 0<=n3/\n3<((4:Nat):Int) then if (1+((Yc n3)*1))<s1.length then Zf (s1.set (1+((Yc n3)*1)) (.int .i64 n2)) 0 fun q=>Zi .i64 (.c q) fun n4=>if 0<(s1.set (1+((Yc n3)*1)) (.int .i64 n2)).length then some (.normal,(q123_s1 a1 s0 ((s1.set (1+((Yc n3)*1)) (.int .i64 n2)).set 0 (.int .i64 (G.wrap .i64 (n4+1)))) s2 h1)) else none else none else none else none else none else Zf ((l.drop o).take 9) 1 fun q=>Zi .i64 (.c q) fun n2=>if 0<=n2/\n2<((4:Nat):Int) then if (1+((Yc n2)*1))<s1.length then Zf (s1.set (1+((Yc n2)*1)) (.int .i64 n1)) 0 fun q=>Zi .i64 (.c q) fun n3=>if 0<(s1.set (1+((Yc n2)*1)) (.int .i64 n1)).length then some (.normal,(q123_s1 a1 s0 ((s1.set (1+((Yc n2)*1)) (.int .i64 n1)).set 0 (.int .i64 (G.wrap .i64 (n3+1)))) s2 h1)) else none else none else none else none else none else if (n==6)=true then if 3+2<=((l.drop o).take 9).length then if 0=0/\s1.length=5 then c1 (qh h (C 92 [(.agg ((((l.drop o).take 9).drop 3).take 2)),(.agg s1)] h)) fun y h1=>Zi .i64 y fun n=>if 6+2<=((l.drop o).take 9).length then if 0=0/\s1.length=5 then c1 (qh h (C 92 [(.agg ((((l.drop o).take 9).drop 6).take 2)),(.agg s1)] h)) fun y h1=>Zi .i64 y fun n1=>if (n==n1)=true then Zf s1 0 fun q=>Zi .i64 (.c q) fun n=>Zf ((l.drop o).take 9) 8 fun q=>Zi .i64 (.c q) fun n1=>if 0<s1.length then Zf (s1.set 0 (.int .i64 (G.wrap .i64 (n+n1)))) 0 fun q=>Zi .i64 (.c q) fun n2=>if 0<(s1.set 0 (.int .i64 (G.wrap .i64 (n+n1)))).length then some (.normal,(q123_s1 a1 s0 ((s1.set 0 (.int .i64 (G.wrap .i64 (n+n1)))).set 0 (.int .i64 (G.wrap .i64 (n2+1)))) s2 h)) else none else none else Zf s1 0 fun q=>Zi .i64 (.c q) fun n=>if 0<s1.length then some (.normal,(q123_s1 a1 s0 (s1.set 0 (.int .i64 (G.wrap .i64 (n+1)))) s2 h)) else none else none else none else none else none else if 0=0/\s1.length=5 then if 0=0/\s2.length=5/\s1.length=5 then some (.ret,(q123_x1_0 s1 h)) else none else none else none else none else some ((.exit 0),(q123_x1_1 s1 s2 h)):=by kernel_rfl
theorem q123_e1_0:(q123_k3 C L G h0) .ret (q123_x1_0 s2 h)=if 0=0/\s2.length=5 then some ([(.agg s2)],h) else none:=by kernel_rfl
theorem q123_e1_1:(q123_k3 C L G h0) (.exit 0) (q123_x1_1 s1 s2 h)=if 0=0/\s1.length=5 then if 0=0/\s2.length=5/\s1.length=5 then if 0=0/\s1.length=5 then some ([(.agg s1)],h) else none else none else none:=by kernel_rfl
theorem q123_eq:q123.body C L G [(.agg l0),(.c (.int .i64 a1)),(.agg l2)] h0=(L (q123_F1 C L G) (q123_s1 a1 l0 l2 [ci0,ci0,ci0,ci0,ci0] h0)).bind fun p=>(q123_k3 C L G h0) p.1 p.2:=by kernel_rfl
end
section
variable {E:Env}
theorem addR_bit {n:Nat} (hn:n<=64) (f:Nat->Nat) (x y:Int) (a b:Nat):(Zss n f x y a).testBit b=((f a).testBit b||(inR n x&&inR n y&&decide (x=a)&&decide (y=b))):=by
 unfold Zss
 by_cases hin:(inR n x&&inR n y)=true
 ·rw [if_pos hin,hin,Yr]
  simp only [Yd] at hin
  have hx:0<=x/\x<n:=by simpa [inR] using hin.1
  have hy:0<=y/\y<n:=by simpa [inR] using hin.2
  unfold Zwv
  by_cases ha:a=x.toNat
  ·rw [if_pos ha,Yat,testBit_bitI,←ha]
   have h1:decide (x=(a:Int))=true:=by simp;omega
   rw [h1,Yr]
   by_cases hb:y=(b:Int)
   ·have:b<64:=by omega
    simp [hb,this]
   ·simp [hb]
  ·rw [if_neg ha]
   have h1:decide (x=(a:Int))=false:=by simp;omega
   rw [h1,Yaf,Bool.or_false]
 ·rw [if_neg hin,show (inR n x&&inR n y)=false by simpa using hin];simp
theorem inR_nat {n a:Nat}:inR n (a:Int)=decide (a<n):=by
 unfold inR
 rw [Yv];simp
end
section
def mkN (p:Nat->Bool):Nat:=(Yu 64).foldl (fun a j=>if p j then a ||| 2 ^ j else a) 0
theorem Zut (p:Nat->Bool):∀m,m<=64->((Yu m).foldl (fun a j=>if p j then a ||| 2 ^ j else a) 0)<2 ^ 64/\∀j,((Yu m).foldl (fun a j=>if p j then a ||| 2 ^ j else a) 0).testBit j=(decide (j<m)&&p j)
 | 0,_=>⟨by simp,fun j=>by simp⟩
 | m+1,hm=>by
  obtain ⟨h1,h2⟩:=Zut p m (by omega)
  rw [List.range_succ,List.foldl_append,List.foldl_cons,List.foldl_nil]
  have hp:2 ^ m<2 ^ 64:=Nat.pow_lt_pow_right (by omega) (by omega)
  by_cases hpm:p m=true
  ·rw [if_pos hpm]
   refine ⟨Zxy h1 hp,fun j=>?_⟩
   rw [Yat,h2,Nat.testBit_two_pow]
   by_cases hj:j=m
   ·subst hj;simp [hpm]
   ·rw [show decide (m=j)=false by simp;omega,Bool.or_false]
    congr 1
    rw [Yv];simp;omega
  ·rw [if_neg hpm]
   refine ⟨h1,fun j=>?_⟩
   rw [h2]
   by_cases hj:j=m
   ·subst hj;simp [hpm]
   ·congr 1
    rw [Yv];simp;omega
theorem mkN_lt (p:Nat->Bool):mkN p<2 ^ 64:=(Zut p 64 (Ym _)).1
theorem Zxp (p:Nat->Bool) (j:Nat):(mkN p).testBit j=(decide (j<64)&&p j):=(Zut p 64 (Ym _)).2 j
theorem Zq720 {a b:Nat} (ha:a<2 ^ 64) (hb:b<2 ^ 64) (h:∀j,j<64->a.testBit j=b.testBit j):a=b:=by
 refine Nat.eq_of_testBit_eq fun j=>?_
 rcases Yaa j 64 with hj | hj
 ·exact h j hj
 ·have h64:2 ^ 64<=2 ^ j:=Nat.pow_le_pow_right (by omega) hj
  rw [Yap (Yay ha h64),Yap (Yay hb h64)]
theorem relL_ext {n m:Nat} {f g:Nat->Nat} (hn:n=m) (hf:Zem f) (hg:Zem g) (h:∀i j,i<64->j<64->(f i).testBit j=(g i).testBit j):Zp n f=Zp m g:=by
 subst hn
 exact Zq722 fun i hi=>Zq720 (hf i) (hg i) fun j hj=>h i j hi hj
variable {E:Env}
theorem Zq741 {n:Nat} (hn:n<=64):Zoz (n:Int)=n:=by unfold Zoz;omega
end
section
def Fit (n:Nat) (f:Nat->Nat):Prop:=∀i j,(f i).testBit j=true->i<n/\j<n
theorem Zwe {n:Nat} {f g:Nat->Nat} (hf:Zem f) (hg:Zem g) (h:∀i j,(f i).testBit j=true↔(g i).testBit j=true):Zp n f=Zp n g :=
 relL_ext rfl hf hg fun i j _ _=>by rw [Yv];exact h i j
theorem Ztv (n m:Nat) (f g:Nat->Nat):alike (Zp n f) (Zp m g)=true:=by
 unfold Zp
 simp only [alike,alike1,decide_true,Yr]
 generalize Yu 64=l
 induction l with
 | nil=>rfl
 | cons a l ih=>simp only [Yk,alike,alike1,decide_true,Yr];exact ih
variable {E:Env} {n:Nat}
theorem HasS (hE:q3_In E) (hn:n<=64) {f:Nat->Nat} (hf:Zem f) {a b:Nat} (ha:a<n) (hb:b<64) (h:Za):R E 3 [.agg (Zp n f),.c (.int .i64 (a:Nat)),.c (.int .i64 (b:Nat))] h=some ([.c (.bool ((f a).testBit b))],h):=by
 rw [HasR_R hE hn hf]
 unfold hasR
 rw [inR_nat,Ybd,Zrr hb,show decide (a<n)=true by simp [ha],Yr]
end
section
theorem bits_len (s:Nat):(Zdf s).length<=64:=by unfold Zdf;exact Nat.le_trans (List.length_filter_le _ _) (by simp)
variable {E:Env}
end
section
section
variable {E:Env}
end
variable {E:Env}
end

section
variable (C:Zk) (L:Zbl) (G:Glo)
variable {h h0:Za}
variable {x0 x1 x18:Cell}
variable {a1 a2 a3 a6 a8 a10 a11 a19 a20:Int}
variable {l0 s0 s1 s2:List Cell}
variable {N1 k1 o1:Nat}
def q255_k2 (h0:Za):Ex->St->Rs:=Zae (fun st=>q255_p1.exec C L G st (q255.fin G h0)) (q255.fin G h0)
def q255_k3 (h0:Za):Ex->St->Rs:=Zap 0 (q255_k2 C L G h0)
def q255_s2 (x0:Cell) (a1:Int) (x18:Cell) (a19 a20:Int) (s0 s1:List Cell) (h:Za):St:=⟨.v (.c x0) :: .v (.c (.int .i64 a1)) :: tops 2 (.loc 0 0 :: .loc 1 0 :: tops 12 (.v (.c x18) :: .v (.c (.int .i64 a19)) :: .v (.c (.int .i64 a20)) :: tops 80 [])),[some s0,some s1,none,none],h⟩
def q255_F2 :St->Option (Ex × St):=Zo (q255_b2.exec C L G) [0,1,4,5,18,19,20] [0,1] [(1,[4,5],[0,1])]
def q255_k4 :Ex->St->Option (Ex × St):=Zae (fun st=>q255_p2.exec C L G st (Zaf [0,1,4,5,18,19,20] [0,1] [(1,[4,5],[0,1])])) (Zaf [0,1,4,5,18,19,20] [0,1] [(1,[4,5],[0,1])])
def q255_k5 :Ex->St->Option (Ex × St):=Zap 1 (q255_k4 C L G)
def q255_k6 :Ex->St->Option (Ex × St):=Zae (fun st=>q255_p3.exec C L G st (q255_k5 C L G)) (q255_k5 C L G)
def q255_k7 :Ex->St->Option (Ex × St):=Zap 2 (q255_k6 C L G)
def q255_s1 (x0:Cell) (a1 a6 a8:Int) (x18:Cell) (a19 a20:Int) (s0 s1 s2:List Cell) (h:Za):St:=⟨.v (.c x0) :: .v (.c (.int .i64 a1)) :: tops 2 (.loc 0 0 :: .loc 1 0 :: .v (.c (.int .i64 a6)) :: .loc 2 0 :: .v (.c (.int .i64 a8)) :: tops 9 (.v (.c x18) :: .v (.c (.int .i64 a19)) :: .v (.c (.int .i64 a20)) :: tops 80 [])),[some s0,some s1,some s2,none],h⟩
def q255_F1 :St->Option (Ex × St):=Zo (q255_b1.exec C L G) [0,1,4,5,6,7,8,18,19,20] [0,1,2] [(3,[0,1,4,5,6,7,18,19,20],[0,1,2])]
def q255_x1_3 (x0:Cell) (a1 a6:Int) (x18:Cell) (a19 a20:Int) (s0 s1 s2:List Cell) (h:Za):St:=⟨.v (.c x0) :: .v (.c (.int .i64 a1)) :: tops 2 (.loc 0 0 :: .loc 1 0 :: .v (.c (.int .i64 a6)) :: .loc 2 0 :: tops 10 (.v (.c x18) :: .v (.c (.int .i64 a19)) :: .v (.c (.int .i64 a20)) :: tops 80 [])),[some s0,some s1,some s2,none],h⟩
def q255_x2_1 (s0 s1:List Cell) (h:Za):St:=⟨tops 4 (.loc 0 0 :: .loc 1 0 :: tops 95 []),[some s0,some s1,none,none],h⟩
theorem q255_r1:q255_F1 C L G (q255_s1 x0 a1 a6 a8 x18 a19 a20 s0 s1 s2 h)=Zaj x0 fun n=>if (decide (a8<n))=true then Zm 7 x0 a8 fun k N o=>Zn h k N fun l=>if o+7<=l.length then if 0=0/\(Yb 7 ci0).length=7/\((l.drop o).take 7).length=7 then if 0=0/\s2.length=7 then c1 (C 257 [(.agg s2),(.c (.int .i64 a1))] h) fun y h1=>asB y fun b=>scK b true (if 0=0/\((l.drop o).take 7).length=7 then c1 (C 257 [(.agg ((l.drop o).take 7)),(.c (.int .i64 a1))] h1) fun y h=>asB y fun b=>some (b,h) else none) false h1 fun b h1=>scK b true (Zf s2 3 fun q=>Zi .i64 (.c q) fun n=>Zf ((l.drop o).take 7) 3 fun q=>Zi .i64 (.c q) fun n1=>some ((n==n1),h1)) false h1 fun b h1=>Zf s2 0 fun q=>Zi .i64 (.c q) fun n=>Zf ((l.drop o).take 7) 0 fun q=>Zi .i64 (.c q) fun n1=>scK (n==n1) false (some (b,h1)) true h1 fun b h1=>scK b false (Zf ((l.drop o).take 7) 2 fun q=>Zi .i64 (.c q) fun n=>scK (n==6) true (Zf ((l.drop o).take 7) 6 fun q=>Zi .i64 (.c q) fun n=>some ((n==a6),h1)) false h1 fun b h=>some (b,h)) true h1 fun b h1=>scK b false (Zf s2 2 fun q=>Zi .i64 (.c q) fun n=>scK (n==6) true (Zf s2 1 fun q=>Zi .i64 (.c q) fun n=>Zf ((l.drop o).take 7) 1 fun q=>Zi .i64 (.c q) fun n1=>some ((n==n1),h1)) false h1 fun b h=>scK b true (if 0=0/\((l.drop o).take 7).length=7 then c1 (C 265 [(.agg ((l.drop o).take 7))] h) fun y h=>asB y fun b=>some (b,h) else none) false h fun b h=>some (b,h)) true h1 fun b h1=>if b=true then if 0=0/\s1.length=65 then c1 (C 10 [(.agg s1),(.c (.int .i64 a6)),(.c (.int .i64 a8))] h1) fun y h2=>asA y fun l=>if 0=0/\s1.length=65/\l.length=65 then some (.normal,(q255_s1 x0 a1 a6 (G.wrap .i64 (a8+1)) x18 a19 a20 s0 l s2 h2)) else none else none else some (.normal,(q255_s1 x0 a1 a6 (G.wrap .i64 (a8+1)) x18 a19 a20 s0 s1 s2 h1)) else none else none else none else some ((.exit 2),(q255_x1_3 x0 a1 a6 x18 a19 a20 s0 s1 s2 h)):=by kernel_rfl
theorem q255_e1_3:(q255_k7 C L G) (.exit 2) (q255_x1_3 x0 a1 a6 x18 a19 a20 s0 s1 s2 h)=if 0=0/\s2.length=7 then c1 (C 266 [(.agg s2)] h) fun y h=>asB y fun b=>if b=true then if 0=0/\s1.length=65 then c1 (C 267 [(.agg s1),(.c x0),(.c (.int .i64 a1)),(.c (.int .i64 a6))] h) fun y h1=>asA y fun l=>if 0=0/\s1.length=65/\l.length=65 then some (.normal,(q255_s2 x0 a1 x18 a19 (G.wrap .i64 (a20+1)) s0 l h1)) else none else none else some (.normal,(q255_s2 x0 a1 x18 a19 (G.wrap .i64 (a20+1)) s0 s1 h)) else none:=by kernel_rfl
theorem q255_r2:q255_F2 C L G (q255_s2 x0 a1 x18 a19 a20 s0 s1 h)=if (decide (a20<a19))=true then Zm 7 x18 a20 fun k N o=>Zn h k N fun l=>if o+7<=l.length then if 0=0/\(Yb 7 ci0).length=7/\((l.drop o).take 7).length=7 then (L (q255_F1 C L G) (q255_s1 x0 a1 a20 (G.wrap .i64 (a20+1)) x18 a19 a20 s0 s1 ((l.drop o).take 7) h)).bind fun p=>(q255_k7 C L G) p.1 p.2 else none else none else some ((.exit 0),(q255_x2_1 s0 s1 h)):=by kernel_rfl
theorem q255_e2_1:(q255_k3 C L G h0) (.exit 0) (q255_x2_1 s0 s1 h)=if 0=0/\s1.length=65 then c1 (C 12 [(.agg s1)] h) fun y h=>asA y fun l=>if 0=0/\s0.length=65/\l.length=65 then if 0=0/\l.length=65 then some ([(.agg l)],h) else none else none else none:=by kernel_rfl
theorem q255_eq:q255.body C L G [(.c x0),(.c (.int .i64 a1))] h0=Zaj x0 fun n=>if (decide (n > 64))=true then c1 (C 9 [(.c (.int .i64 0))] h0) fun y h=>asA y fun l=>if 0=0/\([ci0]++Yb 64 (Cell.int .u64 0)).length=65/\l.length=65 then if 0=0/\l.length=65 then some ([(.agg l)],h) else none else none else Zaj x0 fun n=>c1 (C 9 [(.c (.int .i64 n))] h0) fun y h=>asA y fun l=>if 0=0/\([ci0]++Yb 64 (Cell.int .u64 0)).length=65/\l.length=65 then Zaj x0 fun n=>(L (q255_F2 C L G) (q255_s2 x0 a1 x0 n 0 ([ci0]++Yb 64 (Cell.int .u64 0)) l h)).bind fun p=>(q255_k3 C L G h0) p.1 p.2 else none:=by kernel_rfl
theorem q257_eq:q257.body C L G [(.agg l0),(.c (.int .i64 a1))] h0=Zf l0 2 fun q=>Zi .i64 (.c q) fun n=>scK (n==6) false (Zf l0 2 fun q=>Zi .i64 (.c q) fun n=>some ((n==4),h0)) true h0 fun b h=>scK b false (scK (a1==1) true (Zf l0 2 fun q=>Zi .i64 (.c q) fun n=>some ((n==2),h)) false h fun b h=>some (b,h)) true h fun b h=>some ([(.c (.bool b))],h):=by kernel_rfl
theorem q265_eq:q265.body C L G [(.agg l0)] h0=Zf l0 2 fun q=>Zi .i64 (.c q) fun n=>scK (n==3) false (Zf l0 2 fun q=>Zi .i64 (.c q) fun n=>some ((n==4),h0)) true h0 fun b h=>scK b false (Zf l0 2 fun q=>Zi .i64 (.c q) fun n=>some ((n==5),h)) true h fun b h=>some ([(.c (.bool b))],h):=by kernel_rfl
theorem q266_eq:q266.body C L G [(.agg l0)] h0=Zf l0 2 fun q=>Zi .i64 (.c q) fun n=>scK (n==1) false (Zf l0 2 fun q=>Zi .i64 (.c q) fun n=>some ((n==4),h0)) true h0 fun b h=>scK b false (Zf l0 2 fun q=>Zi .i64 (.c q) fun n=>some ((n==5),h)) true h fun b h=>some ([(.c (.bool b))],h):=by kernel_rfl
def q267_k2 (h0:Za):Ex->St->Rs:=Zae (fun st=>q267_p1.exec C L G st (q267.fin G h0)) (q267.fin G h0)
def q267_c1_0 (s1:List Cell) (h:Za):St:=⟨tops 8 (.loc 1 0 :: tops 72 []),[none,some s1,none],h⟩
def q267_c1 (x1:Cell) (a2 a3 a10:Int) (s0 s1 s2:List Cell) (h:Za):St:=⟨tops 1 (.v (.c x1) :: .v (.c (.int .i64 a2)) :: .v (.c (.int .i64 a3)) :: .loc 0 0 :: tops 3 (.loc 1 0 :: .loc 2 0 :: .v (.c (.int .i64 a10)) :: tops 70 [])),[some s0,some s1,some s2],h⟩
def q267_k3 (h0:Za):Ex->St->Rs:=Zae (fun st=>q267_p2.exec C L G st (q267.fin G h0)) (q267.fin G h0)
def q267_k4 (h0:Za):Ex->St->Rs:=Zap 0 (q267_k3 C L G h0)
def q267_s1 (x1:Cell) (a2 a3 a11:Int) (s0 s1 s2:List Cell) (h:Za):St:=⟨tops 1 (.v (.c x1) :: .v (.c (.int .i64 a2)) :: .v (.c (.int .i64 a3)) :: .loc 0 0 :: tops 3 (.loc 1 0 :: .loc 2 0 :: tops 1 (.v (.c (.int .i64 a11)) :: tops 69 []))),[some s0,some s1,some s2],h⟩
def q267_F1 :St->Option (Ex × St):=Zo (q267_b1.exec C L G) [1,2,3,4,8,9,11] [0,1,2] [(1,[4,8],[0,1])]
def q267_x1_1 (s0 s1:List Cell) (h:Za):St:=⟨tops 4 (.loc 0 0 :: tops 3 (.loc 1 0 :: tops 72 [])),[some s0,some s1,none],h⟩
theorem q267_r1:q267_F1 C L G (q267_s1 x1 a2 a3 a11 s0 s1 s2 h)=Zaj x1 fun n=>if (decide (a11<n))=true then scK (a11 != a3) true (Zm 7 x1 a11 fun k N o=>Zn h k N fun l=>if o+7<=l.length then c1 (qh h (C 257 [(.agg ((l.drop o).take 7)),(.c (.int .i64 a2))] h)) fun y h1=>asB y fun b=>some (b,h) else none) false h fun b h1=>scK b true (Zm 7 x1 a11 fun k N o=>Zn h1 k N fun l=>Zf l (o+3) fun q=>Zi .i64 (.c q) fun n=>Zf s2 3 fun q=>Zi .i64 (.c q) fun n1=>some ((n==n1),h1)) false h1 fun b h1=>if b=true then if 0=0/\s0.length=65 then c1 (C 10 [(.agg s0),(.c (.int .i64 a3)),(.c (.int .i64 a11))] h1) fun y h2=>asA y fun l=>if 0=0/\s0.length=65/\l.length=65 then some (.normal,(q267_s1 x1 a2 a3 (G.wrap .i64 (a11+1)) l s1 s2 h2)) else none else none else some (.normal,(q267_s1 x1 a2 a3 (G.wrap .i64 (a11+1)) s0 s1 s2 h1)) else some ((.exit 0),(q267_x1_1 s0 s1 h)):=by kernel_rfl
theorem q267_e1_1:(q267_k4 C L G h0) (.exit 0) (q267_x1_1 s0 s1 h)=if 0=0/\s0.length=65 then if 0=0/\s1.length=65/\s0.length=65 then if 0=0/\s0.length=65 then some ([(.agg s0)],h) else none else none else none:=by kernel_rfl
theorem q267_ec1_n:(q267_k2 C L G h0) .normal (q267_c1 x1 a2 a3 a10 s0 s1 s2 h)=(L (q267_F1 C L G) (q267_s1 x1 a2 a3 (G.wrap .i64 (a10+1)) s0 s1 s2 h)).bind fun p=>(q267_k4 C L G h0) p.1 p.2:=by kernel_rfl
theorem q267_ec1_0:(q267_k2 C L G h0) .ret (q267_c1_0 s1 h)=if 0=0/\s1.length=65 then some ([(.agg s1)],h) else none:=by kernel_rfl
theorem q267_eq:q267.body C L G [(.agg l0),(.c x1),(.c (.int .i64 a2)),(.c (.int .i64 a3))] h0=Zm 7 x1 a3 fun k N o=>Zn h0 k N fun l=>if o+7<=l.length then if 0=0/\(Yb 7 ci0).length=7/\((l.drop o).take 7).length=7 then (Zf ((l.drop o).take 7) 6 fun q=>Zi .i64 (.c q) fun n=>scK (decide (n>=0)) true (Zf ((l.drop o).take 7) 6 fun q=>Zi .i64 (.c q) fun n=>Zaj x1 fun n1=>some ((decide (n<n1)),h0)) false h0 fun b h=>if b=true then Zf ((l.drop o).take 7) 6 fun q=>Zi .i64 (.c q) fun n=>c1 (C 273 [(.c x1),(.c (.int .i64 a2)),(.c (.int .i64 n))] h) fun y h1=>Zi .i64 y fun n=>if (decide (n<0))=true then if 0=0/\l0.length=65 then if 0=0/\([ci0]++Yb 64 (Cell.int .u64 0)).length=65/\l0.length=65 then some (.ret,(q267_c1_0 l0 h1)) else none else none else Zf ((l.drop o).take 7) 6 fun q=>Zi .i64 (.c q) fun n1=>Zm 7 x1 n1 fun k N o1=>Zn h1 k N fun l1=>Zf l1 (o1+1) fun q=>Zi .i64 (.c q) fun n1=>Zf ((l.drop o).take 7) 1 fun q=>Zi .i64 (.c q) fun n2=>if (n1 != n2)=true then if 0=0/\l0.length=65 then c1 (C 10 [(.agg l0),(.c (.int .i64 n)),(.c (.int .i64 a3))] h1) fun y h2=>asA y fun l1=>if 0=0/\l0.length=65/\l1.length=65 then some (.normal,(q267_c1 x1 a2 a3 n l1 ([ci0]++Yb 64 (Cell.int .u64 0)) ((l.drop o).take 7) h2)) else none else none else some (.normal,(q267_c1 x1 a2 a3 n l0 ([ci0]++Yb 64 (Cell.int .u64 0)) ((l.drop o).take 7) h1)) else some (.normal,(q267_c1 x1 a2 a3 (-1) l0 ([ci0]++Yb 64 (Cell.int .u64 0)) ((l.drop o).take 7) h)):Option (Ex × St)).bind fun p=>(q267_k2 C L G h0) p.1 p.2 else none else none:=by kernel_rfl
theorem q273_eq:q273.body C L G [(.c x0),(.c (.int .i64 a1)),(.c (.int .i64 a2))] h0=Zn (h0++[some (Blk.mk true 0 (AV.cells (.c (.int .i64 a2))))]) h0.length ((AV.cells (.c (.int .i64 a2))).length) fun l=>Zf l 0 fun q=>Zi .i64 (.c q) fun n=>Zm 7 x0 n fun k N o=>Zn (h0++[some (Blk.mk true 0 (AV.cells (.c (.int .i64 a2))))]) k N fun l=>if o+7<=l.length then c1 (C 257 [(.agg ((l.drop o).take 7)),(.c (.int .i64 a1))] (h0++[some (Blk.mk true 0 (AV.cells (.c (.int .i64 a2))))])) fun y h=>asB y fun b=>if b=true then Zn h h0.length ((AV.cells (.c (.int .i64 a2))).length) fun l=>Zf l 0 fun q=>Zi .i64 (.c q) fun n=>Zbe true h0 [(.c (.int .i64 n))] h else c1 (C 283 [(.c x0),(.c (.fn 282 [(h0.length,(AV.cells (.c (.int .i64 a2))).length,0)]))] h) fun y h=>Zi .i64 y fun n=>Zbe true h0 [(.c (.int .i64 n))] h else none:=by kernel_rfl
theorem q282_eq:q282.body C L G [(.agg l0),(.c (.ptr k1 N1 o1))] h0=Zf l0 2 fun q=>Zi .i64 (.c q) fun n=>scK (n==6) true (Zf l0 6 fun q=>Zi .i64 (.c q) fun n=>Zn h0 k1 N1 fun l=>Zf l o1 fun q=>Zi .i64 (.c q) fun n1=>some ((n==n1),h0)) false h0 fun b h=>some ([(.c (.bool b))],h):=by kernel_rfl
end
section
variable (C:Zk) (L:Zbl) (G:Glo)
variable {h h0:Za}
variable {b5 b10 b138 b177 b220 b251:Bool}
variable {x3:Cell}
variable {a1 a2 a4 a6 a7 a8 a9 a11 a15 a16:Int}
variable {l0 s0 s1 s2 s3 s4:List Cell}
variable {N0 N5 k0 k5 o0 o5:Nat}
def q180_k2 (h0:Za):Ex->St->Rs:=Zae (fun st=>q180_p1.exec C L G st (q180.fin G h0)) (q180.fin G h0)
def q180_k3 (h0:Za):Ex->St->Rs:=Zap 0 (q180_k2 C L G h0)
def q180_s1 (k5 N5 o5:Nat) (a6:Int) (s0:List Cell) (h:Za):St:=⟨tops 2 (.loc 0 0 :: tops 2 (.v (.c (.ptr k5 N5 o5)) :: .v (.c (.int .i64 a6)) :: tops 39 [])),[some s0],h⟩
def q180_F1 :St->Option (Ex × St):=Zo (q180_b1.exec C L G) [2,5,6] [0] [(1,[2,5],[0])]
def q180_x1_1 (k5 N5 o5:Nat) (s0:List Cell) (h:Za):St:=⟨tops 2 (.loc 0 0 :: tops 2 (.v (.c (.ptr k5 N5 o5)) :: tops 40 [])),[some s0],h⟩
def q180_k4 (h0:Za):Ex->St->Rs:=Zae (fun st=>q180_p2.exec C L G st (q180.fin G h0)) (q180.fin G h0)
def q180_k5 (h0:Za):Ex->St->Rs:=Zap 2 (q180_k4 C L G h0)
def q180_s2 (k5 N5 o5:Nat) (a7:Int) (s0:List Cell) (h:Za):St:=⟨tops 2 (.loc 0 0 :: tops 2 (.v (.c (.ptr k5 N5 o5)) :: tops 1 (.v (.c (.int .i64 a7)) :: tops 38 []))),[some s0],h⟩
def q180_F2 :St->Option (Ex × St):=Zo (q180_b2.exec C L G) [2,5,7] [0] [(3,[5],[])]
def q180_x2_3 (k5 N5 o5:Nat) (h:Za):St:=⟨tops 5 (.v (.c (.ptr k5 N5 o5)) :: tops 40 []),[none],h⟩
theorem q180_r1:q180_F1 C L G (q180_s1 k5 N5 o5 a6 s0 h)=Zf s0 1 fun q=>Zaj q fun n=>if (decide (a6<n))=true then Zf s0 1 fun q=>Zm 1 q a6 fun k N o=>Zn h k N fun l=>Zf l o fun q=>Zi .i64 (.c q) fun n=>if 0<=a6/\a6<((4:Nat):Int) then Zn h k5 N5 fun l=>if ((o5+4)+((Yc a6)*1))<l.length then Zbh h k5 (l.set ((o5+4)+((Yc a6)*1)) (.int .i64 n)) fun h1=>some (.normal,(q180_s1 k5 N5 o5 (G.wrap .i64 (a6+1)) s0 h1)) else none else none else some ((.exit 0),(q180_x1_1 k5 N5 o5 s0 h)):=by kernel_rfl
theorem q180_r2:q180_F2 C L G (q180_s2 k5 N5 o5 a7 s0 h)=Zf s0 2 fun q=>Zaj q fun n=>if (decide (a7<n))=true then if 0=0/\s0.length=3 then c1 (qh h (C 104 [(.agg s0),(.c (.int .i64 a7))] h)) fun y h1=>asA y fun l=>if 0<=a7/\a7<((4:Nat):Int) then Zn h k5 N5 fun l1=>if ((o5+12)+((Yc a7)*5))+5<=l1.length/\l.length=5 then Zbh h k5 (splice l1 ((o5+12)+((Yc a7)*5)) l) fun h1=>some (.normal,(q180_s2 k5 N5 o5 (G.wrap .i64 (a7+1)) s0 h1)) else none else none else none else some ((.exit 2),(q180_x2_3 k5 N5 o5 h)):=by kernel_rfl
theorem q180_e2_3:(q180_k5 C L G h0) (.exit 2) (q180_x2_3 k5 N5 o5 h)=some ([(.c (.ptr k5 N5 o5))],h):=by kernel_rfl
theorem q180_e1_1:(q180_k3 C L G h0) (.exit 0) (q180_x1_1 k5 N5 o5 s0 h)=(L (q180_F2 C L G) (q180_s2 k5 N5 o5 0 s0 h)).bind fun p=>(q180_k5 C L G h0) p.1 p.2:=by kernel_rfl
theorem q180_eq:q180.body C L G [(.agg l0),(.c (.int .i64 a1))] h0=if 0=0/\l0.length=3 then if l0.length=3/\0+3<=([Cell.nils,Cell.nils,Cell.nils]++Yb 29 ci0++Yb 5 (Cell.nils)).length then if ([(.int .i64 a1)]:List Cell).length=1/\3+1<=(splice ([Cell.nils,Cell.nils,Cell.nils]++Yb 29 ci0++Yb 5 (Cell.nils)) 0 l0).length then if (splice (splice (splice (splice [ci0,ci0,ci0,ci0] 0 [(.int .i64 (-1))]) 1 [(.int .i64 (-1))]) 2 [(.int .i64 (-1))]) 3 [(.int .i64 (-1))]).length=4/\8+4<=(splice (splice ([Cell.nils,Cell.nils,Cell.nils]++Yb 29 ci0++Yb 5 (Cell.nils)) 0 l0) 3 [(.int .i64 a1)]).length then (L (q180_F1 C L G) (q180_s1 h0.length ((AV.cells (.agg (splice (splice (splice ([Cell.nils,Cell.nils,Cell.nils]++Yb 29 ci0++Yb 5 (Cell.nils)) 0 l0) 3 [(.int .i64 a1)]) 8 (splice (splice (splice (splice [ci0,ci0,ci0,ci0] 0 [(.int .i64 (-1))]) 1 [(.int .i64 (-1))]) 2 [(.int .i64 (-1))]) 3 [(.int .i64 (-1))])))).length) 0 0 l0 (h0++[some (Blk.mk true 0 (AV.cells (.agg (splice (splice (splice ([Cell.nils,Cell.nils,Cell.nils]++Yb 29 ci0++Yb 5 (Cell.nils)) 0 l0) 3 [(.int .i64 a1)]) 8 (splice (splice (splice (splice [ci0,ci0,ci0,ci0] 0 [(.int .i64 (-1))]) 1 [(.int .i64 (-1))]) 2 [(.int .i64 (-1))]) 3 [(.int .i64 (-1))])))))]))).bind fun p=>(q180_k3 C L G h0) p.1 p.2 else none else none else none else none:=by kernel_rfl
def q181_k2 (h0:Za):Ex->St->Rs:=Zae (fun st=>q181_p1.exec C L G st (q181.fin G h0)) (q181.fin G h0)
def q181_k3 (h0:Za):Ex->St->Rs:=Zap 0 (q181_k2 C L G h0)
def q181_s1 (k0 N0 o0:Nat) (x3:Cell) (a4:Int) (h:Za):St:=⟨.v (.c (.ptr k0 N0 o0)) :: tops 2 (.v (.c x3) :: .v (.c (.int .i64 a4)) :: tops 12 []),[],h⟩
def q181_F1 :St->Option (Ex × St):=Zo (q181_b1.exec C L G) [0,3,4] [] [(1,[3],[])]
def q181_x1_1 (x3:Cell) (h:Za):St:=⟨tops 3 (.v (.c x3) :: tops 13 []),[],h⟩
theorem q181_r1:q181_F1 C L G (q181_s1 k0 N0 o0 x3 a4 h)=if (decide (a4<24))=true then c1 (C 196 [(.c (.ptr k0 N0 o0)),(.c (.int .i64 a4))] h) fun y h1=>asB y fun b=>if b=true then if (splice [ci0] 0 [(.int .i64 a4)]).length=1*1 then Zaq 1 8 x3 (splice [ci0] 0 [(.int .i64 a4)]) h1 fun x h2=>some (.normal,(q181_s1 k0 N0 o0 x (G.wrap .i64 (a4+1)) h2)) else none else some (.normal,(q181_s1 k0 N0 o0 x3 (G.wrap .i64 (a4+1)) h1)) else some ((.exit 0),(q181_x1_1 x3 h)):=by kernel_rfl
theorem q181_e1_1:(q181_k3 C L G h0) (.exit 0) (q181_x1_1 x3 h)=some ([(.c x3)],h):=by kernel_rfl
theorem q181_eq:q181.body C L G [(.c (.ptr k0 N0 o0))] h0=(L (q181_F1 C L G) (q181_s1 k0 N0 o0 .nils 0 h0)).bind fun p=>(q181_k3 C L G h0) p.1 p.2:=by kernel_rfl
def q182_k2 (h0:Za):Ex->St->Rs:=Zae (fun st=>q182_p1.exec C L G st (q182.fin G h0)) (q182.fin G h0)
def q182_c1_0 (b5:Bool) (s0:List Cell) (h:Za):St:=⟨tops 4 (.loc 0 0 :: .v (.c (.bool b5)) :: tops 299 []),[some s0,none,none,none,none],h⟩
def q182_c1 (k0 N0 o0:Nat) (a1:Int) (s0:List Cell) (h:Za):St:=⟨.v (.c (.ptr k0 N0 o0)) :: .v (.c (.int .i64 a1)) :: tops 2 (.loc 0 0 :: tops 300 []),[some s0,none,none,none,none],h⟩
def q182_k3 (h0:Za):Ex->St->Rs:=Zae (fun st=>q182_p2.exec C L G st (q182.fin G h0)) (q182.fin G h0)
def q182_c2 (k0 N0 o0:Nat) (a1 a6:Int) (s0:List Cell) (h:Za):St:=⟨.v (.c (.ptr k0 N0 o0)) :: .v (.c (.int .i64 a1)) :: tops 2 (.loc 0 0 :: tops 1 (.v (.c (.int .i64 a6)) :: tops 298 [])),[some s0,none,none,none,none],h⟩
def q182_k4 (h0:Za):Ex->St->Rs:=Zae (fun st=>q182_p3.exec C L G st (q182.fin G h0)) (q182.fin G h0)
def q182_c3 (k0 N0 o0:Nat) (a1 a6:Int) (s0 s1:List Cell) (h:Za):St:=⟨.v (.c (.ptr k0 N0 o0)) :: .v (.c (.int .i64 a1)) :: tops 2 (.loc 0 0 :: tops 1 (.v (.c (.int .i64 a6)) :: .loc 1 0 :: tops 297 [])),[some s0,some s1,none,none,none],h⟩
def q182_k5 (h0:Za):Ex->St->Rs:=Zae (fun st=>q182_p4.exec C L G st (q182.fin G h0)) (q182.fin G h0)
def q182_k6 :Ex->St->Option (Ex × St):=Zae (fun st=>q182_p5.exec C L G st (Zaf [0,1,4,6,7] [0,1] [(0,[4,5],[0])])) (Zaf [0,1,4,6,7] [0,1] [(0,[4,5],[0])])
def q182_c5 (k0 N0 o0:Nat) (a1 a6:Int) (a8 a9:Int) (b10:Bool) (s0 s1:List Cell) (h:Za):St:=⟨.v (.c (.ptr k0 N0 o0)) :: .v (.c (.int .i64 a1)) :: tops 2 (.loc 0 0 :: tops 1 (.v (.c (.int .i64 a6)) :: .loc 1 0 :: .v (.c (.int .i64 a8)) :: .v (.c (.int .i64 a9)) :: .v (.c (.bool b10)) :: tops 294 [])),[some s0,some s1,none,none,none],h⟩
def q182_k7 :Ex->St->Option (Ex × St):=Zae (fun st=>q182_p6.exec C L G st (Zaf [0,1,4,6,7] [0,1] [(0,[4,5],[0])])) (Zaf [0,1,4,6,7] [0,1] [(0,[4,5],[0])])
def q182_c6 (k0 N0 o0:Nat) (a8 a11:Int) (s0 s1:List Cell) (h:Za):St:=⟨.v (.c (.ptr k0 N0 o0)) :: tops 3 (.loc 0 0 :: tops 2 (.loc 1 0 :: .v (.c (.int .i64 a8)) :: tops 2 (.v (.c (.int .i64 a11)) :: tops 293 []))),[some s0,some s1,none,none,none],h⟩
def q182_k8 :Ex->St->Option (Ex × St):=Zae (fun st=>q182_p7.exec C L G st (Zaf [0,1,4,6,7] [0,1] [(0,[4,5],[0])])) (Zaf [0,1,4,6,7] [0,1] [(0,[4,5],[0])])
def q182_c7 (k0 N0 o0:Nat) (a8 a11:Int) (s0 s1 s2:List Cell) (h:Za):St:=⟨.v (.c (.ptr k0 N0 o0)) :: tops 3 (.loc 0 0 :: tops 2 (.loc 1 0 :: .v (.c (.int .i64 a8)) :: tops 2 (.v (.c (.int .i64 a11)) :: .loc 2 0 :: tops 292 []))),[some s0,some s1,some s2,none,none],h⟩
def q182_k9 :Ex->St->Option (Ex × St):=Zae (fun st=>q182_p8.exec C L G st (Zaf [0,1,4,6,7] [0,1] [(0,[4,5],[0])])) (Zaf [0,1,4,6,7] [0,1] [(0,[4,5],[0])])
def q182_c8 (k0 N0 o0:Nat) (a8:Int) (s0 s1 s2:List Cell) (h:Za):St:=⟨.v (.c (.ptr k0 N0 o0)) :: tops 3 (.loc 0 0 :: tops 2 (.loc 1 0 :: .v (.c (.int .i64 a8)) :: tops 3 (.loc 2 0 :: tops 292 []))),[some s0,some s1,some s2,none,none],h⟩
def q182_k10 :Ex->St->Option (Ex × St):=Zae (fun st=>q182_p9.exec C L G st (Zaf [0,1,4,6,7] [0,1] [(0,[4,5],[0])])) (Zaf [0,1,4,6,7] [0,1] [(0,[4,5],[0])])
def q182_c9 (k0 N0 o0:Nat) (a8:Int) (s0 s1 s2:List Cell) (h:Za):St:=⟨.v (.c (.ptr k0 N0 o0)) :: tops 3 (.loc 0 0 :: tops 2 (.loc 1 0 :: .v (.c (.int .i64 a8)) :: tops 3 (.loc 2 0 :: tops 292 []))),[some s0,some s1,some s2,none,none],h⟩
def q182_k11 :Ex->St->Option (Ex × St):=Zae (fun st=>q182_p10.exec C L G st (Zaf [0,1,4,6,7] [0,1] [(0,[4,5],[0])])) (Zaf [0,1,4,6,7] [0,1] [(0,[4,5],[0])])
def q182_c10 (k0 N0 o0:Nat) (s0 s1:List Cell) (h:Za):St:=⟨.v (.c (.ptr k0 N0 o0)) :: tops 3 (.loc 0 0 :: tops 2 (.loc 1 0 :: tops 297 [])),[some s0,some s1,none,none,none],h⟩
def q182_c4_0 (b5:Bool) (s0:List Cell) (h:Za):St:=⟨tops 4 (.loc 0 0 :: .v (.c (.bool b5)) :: tops 299 []),[some s0,none,none,none,none],h⟩
def q182_c4 (k0 N0 o0:Nat) (a1 a6:Int) (s0 s1:List Cell) (h:Za):St:=⟨.v (.c (.ptr k0 N0 o0)) :: .v (.c (.int .i64 a1)) :: tops 2 (.loc 0 0 :: tops 1 (.v (.c (.int .i64 a6)) :: .loc 1 0 :: tops 297 [])),[some s0,some s1,none,none,none],h⟩
def q182_k12 (h0:Za):Ex->St->Rs:=Zae (fun st=>q182_p11.exec C L G st (q182.fin G h0)) (q182.fin G h0)
def q182_c11 (k0 N0 o0:Nat) (a1 a6:Int) (s0 s1 s3:List Cell) (h:Za):St:=⟨.v (.c (.ptr k0 N0 o0)) :: .v (.c (.int .i64 a1)) :: tops 2 (.loc 0 0 :: tops 1 (.v (.c (.int .i64 a6)) :: .loc 1 0 :: tops 5 (.loc 3 0 :: tops 291 []))),[some s0,some s1,none,some s3,none],h⟩
def q182_k13 (h0:Za):Ex->St->Rs:=Zae (fun st=>q182_p12.exec C L G st (q182.fin G h0)) (q182.fin G h0)
def q182_k14 :Ex->St->Option (Ex × St):=Zae (fun st=>q182_p13.exec C L G st (Zaf [0,1,4,6,7,13,15] [0,1,3] [])) (Zaf [0,1,4,6,7,13,15] [0,1,3] [])
def q182_c13 (k0 N0 o0:Nat) (a1 a6 a15:Int) (b138:Bool) (s0 s1 s3:List Cell) (h:Za):St:=⟨.v (.c (.ptr k0 N0 o0)) :: .v (.c (.int .i64 a1)) :: tops 2 (.loc 0 0 :: tops 1 (.v (.c (.int .i64 a6)) :: .loc 1 0 :: tops 5 (.loc 3 0 :: tops 1 (.v (.c (.int .i64 a15)) :: tops 122 (.v (.c (.bool b138)) :: tops 166 []))))),[some s0,some s1,none,some s3,none],h⟩
def q182_k15 :Ex->St->Option (Ex × St):=Zae (fun st=>q182_p14.exec C L G st (Zaf [0,1,4,6,7,13,15] [0,1,3] [])) (Zaf [0,1,4,6,7,13,15] [0,1,3] [])
def q182_c14 (k0 N0 o0:Nat) (a1 a6 a15:Int) (s0 s1 s3:List Cell) (h:Za):St:=⟨.v (.c (.ptr k0 N0 o0)) :: .v (.c (.int .i64 a1)) :: tops 2 (.loc 0 0 :: tops 1 (.v (.c (.int .i64 a6)) :: .loc 1 0 :: tops 5 (.loc 3 0 :: tops 1 (.v (.c (.int .i64 a15)) :: tops 289 [])))),[some s0,some s1,none,some s3,none],h⟩
def q182_k16 (C:Zk) (L:Zbl) (G:Glo):Ex->St->Option (Ex × St):=Zap 0 (Zaf [0,1,4,6,7,13,15] [0,1,3] [])
def q182_s1 (k0 N0 o0:Nat) (a1 a6:Int) (a15 a16:Int) (s0 s1 s3:List Cell) (h:Za):St:=⟨.v (.c (.ptr k0 N0 o0)) :: .v (.c (.int .i64 a1)) :: tops 2 (.loc 0 0 :: tops 1 (.v (.c (.int .i64 a6)) :: .loc 1 0 :: tops 5 (.loc 3 0 :: tops 1 (.v (.c (.int .i64 a15)) :: .v (.c (.int .i64 a16)) :: tops 288 [])))),[some s0,some s1,none,some s3,none],h⟩
def q182_F1 :St->Option (Ex × St):=Zo (q182_b1.exec C L G) [0,1,4,6,7,13,15,16] [0,1,3] [(1,[0,1,4,6,7,13,15],[0,1,3])]
def q182_k17 :Ex->St->Option (Ex × St):=Zae (fun st=>q182_p15.exec C L G st (Zaf [0,1,4,6,7,13,15,16] [0,1,3] [(1,[0,1,4,6,7,13,15],[0,1,3])])) (Zaf [0,1,4,6,7,13,15,16] [0,1,3] [(1,[0,1,4,6,7,13,15],[0,1,3])])
def q182_c15 (k0 N0 o0:Nat) (a1 a6:Int) (a15 a16:Int) (s0 s1 s3:List Cell) (h:Za):St:=⟨.v (.c (.ptr k0 N0 o0)) :: .v (.c (.int .i64 a1)) :: tops 2 (.loc 0 0 :: tops 1 (.v (.c (.int .i64 a6)) :: .loc 1 0 :: tops 5 (.loc 3 0 :: tops 1 (.v (.c (.int .i64 a15)) :: .v (.c (.int .i64 a16)) :: tops 288 [])))),[some s0,some s1,none,some s3,none],h⟩
def q182_c15_1 (k0 N0 o0:Nat) (a1 a6 a15:Int) (s0 s1 s3:List Cell) (h:Za):St:=⟨.v (.c (.ptr k0 N0 o0)) :: .v (.c (.int .i64 a1)) :: tops 2 (.loc 0 0 :: tops 1 (.v (.c (.int .i64 a6)) :: .loc 1 0 :: tops 5 (.loc 3 0 :: tops 1 (.v (.c (.int .i64 a15)) :: tops 289 [])))),[some s0,some s1,none,some s3,none],h⟩
def q182_k18 :Ex->St->Option (Ex × St):=Zae (fun st=>q182_p16.exec C L G st (Zaf [0,1,4,6,7,13,15,16] [0,1,3] [(1,[0,1,4,6,7,13,15],[0,1,3])])) (Zaf [0,1,4,6,7,13,15,16] [0,1,3] [(1,[0,1,4,6,7,13,15],[0,1,3])])
def q182_k19 :Ex->St->Option (Ex × St):=Zap 1 (q182_k18 C L G)
def q182_k20 :Ex->St->Option (Ex × St):=Zae (fun st=>q182_p17.exec C L G st (q182_k19 C L G)) (q182_k19 C L G)
def q182_c16 (k0 N0 o0:Nat) (a1 a6:Int) (a15 a16:Int) (b177:Bool) (s0 s1 s3:List Cell) (h:Za):St:=⟨.v (.c (.ptr k0 N0 o0)) :: .v (.c (.int .i64 a1)) :: tops 2 (.loc 0 0 :: tops 1 (.v (.c (.int .i64 a6)) :: .loc 1 0 :: tops 5 (.loc 3 0 :: tops 1 (.v (.c (.int .i64 a15)) :: .v (.c (.int .i64 a16)) :: tops 160 (.v (.c (.bool b177)) :: tops 127 []))))),[some s0,some s1,none,some s3,none],h⟩
def q182_x1_1 (k0 N0 o0:Nat) (a1 a6 a15:Int) (s0 s1 s3:List Cell) (h:Za):St:=⟨.v (.c (.ptr k0 N0 o0)) :: .v (.c (.int .i64 a1)) :: tops 2 (.loc 0 0 :: tops 1 (.v (.c (.int .i64 a6)) :: .loc 1 0 :: tops 5 (.loc 3 0 :: tops 1 (.v (.c (.int .i64 a15)) :: tops 289 [])))),[some s0,some s1,none,some s3,none],h⟩
def q182_c12 (k0 N0 o0:Nat) (a1 a6 a15:Int) (s0 s1 s3:List Cell) (h:Za):St:=⟨.v (.c (.ptr k0 N0 o0)) :: .v (.c (.int .i64 a1)) :: tops 2 (.loc 0 0 :: tops 1 (.v (.c (.int .i64 a6)) :: .loc 1 0 :: tops 5 (.loc 3 0 :: tops 1 (.v (.c (.int .i64 a15)) :: tops 289 [])))),[some s0,some s1,none,some s3,none],h⟩
def q182_k21 (h0:Za):Ex->St->Rs:=Zae (fun st=>q182_p18.exec C L G st (q182.fin G h0)) (q182.fin G h0)
def q182_c17 (k0 N0 o0:Nat) (a1 a6 a15:Int) (s0 s1 s4:List Cell) (h:Za):St:=⟨.v (.c (.ptr k0 N0 o0)) :: .v (.c (.int .i64 a1)) :: tops 2 (.loc 0 0 :: tops 1 (.v (.c (.int .i64 a6)) :: .loc 1 0 :: tops 7 (.v (.c (.int .i64 a15)) :: tops 1 (.loc 4 0 :: tops 287 [])))),[some s0,some s1,none,none,some s4],h⟩
def q182_k22 (h0:Za):Ex->St->Rs:=Zae (fun st=>q182_p19.exec C L G st (q182.fin G h0)) (q182.fin G h0)
def q182_c18 (k0 N0 o0:Nat) (a1 a6 a15:Int) (s0 s1 s4:List Cell) (h:Za):St:=⟨.v (.c (.ptr k0 N0 o0)) :: .v (.c (.int .i64 a1)) :: tops 2 (.loc 0 0 :: tops 1 (.v (.c (.int .i64 a6)) :: .loc 1 0 :: tops 7 (.v (.c (.int .i64 a15)) :: tops 1 (.loc 4 0 :: tops 287 [])))),[some s0,some s1,none,none,some s4],h⟩
def q182_k23 (h0:Za):Ex->St->Rs:=Zae (fun st=>q182_p20.exec C L G st (q182.fin G h0)) (q182.fin G h0)
def q182_k24 (C:Zk) (L:Zbl) (G:Glo):Ex->St->Option (Ex × St):=Zap 2 (Zaf [0,1,4,7,15] [0,1] [])
def q182_k25 :Ex->St->Option (Ex × St):=Zae (fun st=>q182_p21.exec C L G st (q182_k24 C L G)) (q182_k24 C L G)
def q182_c20 (k0 N0 o0:Nat) (a1 a6 a15:Int) (b220:Bool) (s0 s1 s4:List Cell) (h:Za):St:=⟨.v (.c (.ptr k0 N0 o0)) :: .v (.c (.int .i64 a1)) :: tops 2 (.loc 0 0 :: tops 1 (.v (.c (.int .i64 a6)) :: .loc 1 0 :: tops 7 (.v (.c (.int .i64 a15)) :: tops 1 (.loc 4 0 :: tops 202 (.v (.c (.bool b220)) :: tops 84 []))))),[some s0,some s1,none,none,some s4],h⟩
def q182_c19 (k0 N0 o0:Nat) (a1 a15:Int) (s0 s1:List Cell) (h:Za):St:=⟨.v (.c (.ptr k0 N0 o0)) :: .v (.c (.int .i64 a1)) :: tops 2 (.loc 0 0 :: tops 2 (.loc 1 0 :: tops 7 (.v (.c (.int .i64 a15)) :: tops 289 []))),[some s0,some s1,none,none,none],h⟩
def q182_k26 :Ex->St->Option (Ex × St):=Zae (fun st=>q182_p22.exec C L G st (q182_k24 C L G)) (q182_k24 C L G)
def q182_c21 (k0 N0 o0:Nat) (a1 a6 a15:Int) (b251:Bool) (s0 s1 s4:List Cell) (h:Za):St:=⟨.v (.c (.ptr k0 N0 o0)) :: .v (.c (.int .i64 a1)) :: tops 2 (.loc 0 0 :: tops 1 (.v (.c (.int .i64 a6)) :: .loc 1 0 :: tops 7 (.v (.c (.int .i64 a15)) :: tops 1 (.loc 4 0 :: tops 233 (.v (.c (.bool b251)) :: tops 53 []))))),[some s0,some s1,none,none,some s4],h⟩
def q182_k27 (h0:Za):Ex->St->Rs:=Zae (fun st=>q182_p23.exec C L G st (q182.fin G h0)) (q182.fin G h0)
def q182_c22 (k0 N0 o0:Nat) (s0 s1:List Cell) (h:Za):St:=⟨.v (.c (.ptr k0 N0 o0)) :: tops 3 (.loc 0 0 :: tops 2 (.loc 1 0 :: tops 297 [])),[some s0,some s1,none,none,none],h⟩
theorem q182_ec10_n:(q182_k11 C L G) .normal (q182_c10 k0 N0 o0 s0 s1 h)=Zn h k0 N0 fun l=>Zf l (o0+36) fun q=>if 0=0/\s1.length=7 then if s1.length=7/\0+7<=(Yb 7 ci0).length then if (splice (Yb 7 ci0) 0 s1).length=1*7 then Zaq 7 56 q (splice (Yb 7 ci0) 0 s1) h fun x h=>Zn h k0 N0 fun l=>if (o0+36)<l.length then Zbh h k0 (l.set (o0+36) x) fun h=>if 0=0/\s1.length=7 then if 0=0/\s0.length=7/\s1.length=7 then some (.ret,(q182_c4_0 true s1 h)) else none else none else none else none else none else none:=by kernel_rfl
theorem q182_ec9_n:(q182_k10 C L G) .normal (q182_c9 k0 N0 o0 a8 s0 s1 s2 h)=(Zf s2 0 fun q=>Zi .i64 (.c q) fun n=>Zf s2 1 fun q=>Zi .i64 (.c q) fun n1=>Zf s2 2 fun q=>Zi .i64 (.c q) fun n2=>if 1<s1.length then if 2<(s1.set 1 (.int .i64 a8)).length then if 3<((s1.set 1 (.int .i64 a8)).set 2 (.int .i64 6)).length then if 5<(((s1.set 1 (.int .i64 a8)).set 2 (.int .i64 6)).set 3 (.int .i64 n)).length then if 6<((((s1.set 1 (.int .i64 a8)).set 2 (.int .i64 6)).set 3 (.int .i64 n)).set 5 (.int .i64 n1)).length then some (.normal,(q182_c10 k0 N0 o0 s0 (((((s1.set 1 (.int .i64 a8)).set 2 (.int .i64 6)).set 3 (.int .i64 n)).set 5 (.int .i64 n1)).set 6 (.int .i64 n2)) h)) else none else none else none else none else none:Option (Ex × St)).bind fun p=>(q182_k11 C L G) p.1 p.2:=by kernel_rfl
theorem q182_ec8_n:(q182_k9 C L G) .normal (q182_c8 k0 N0 o0 a8 s0 s1 s2 h)=(Zf s2 0 fun q=>Zi .i64 (.c q) fun n=>Zf s2 0 fun q=>Zi .i64 (.c q) fun n1=>Zf s2 1 fun q=>Zi .i64 (.c q) fun n2=>Zf s2 2 fun q=>Zi .i64 (.c q) fun n3=>if 0<=n/\n<((4:Nat):Int) then Zn h k0 N0 fun l=>if ((o0+4)+((Yc n)*1))<l.length then Zbh h k0 (l.set ((o0+4)+((Yc n)*1)) (.int .i64 n2)) fun h=>if 0<=n1/\n1<((4:Nat):Int) then Zn h k0 N0 fun l=>if ((o0+8)+((Yc n1)*1))<l.length then Zbh h k0 (l.set ((o0+8)+((Yc n1)*1)) (.int .i64 n3)) fun h=>some (.normal,(q182_c9 k0 N0 o0 a8 s0 s1 s2 h)) else none else none else none else none:Option (Ex × St)).bind fun p=>(q182_k10 C L G) p.1 p.2:=by kernel_rfl
theorem q182_ec7_n:(q182_k8 C L G) .normal (q182_c7 k0 N0 o0 a8 a11 s0 s1 s2 h)=(if ([]:List Cell).length=0*3 then if 0<=a8/\a8<((4:Nat):Int) then rd0 (h++[some (Blk.mk true 3 [])]) k0 N0 fun l=>Zf l ((o0+32)+((Yc a8)*1)) fun q=>Zcg (h++[some (Blk.mk true 3 [])]) 3 false true q [.v (.c (.int .i64 a11))] fun x=>(Zah (h++[some (Blk.mk true 3 [])]) 3 x).bind fun l=>Zaq 3 24 (.sl h.length (([]:List Cell).length) 0 0) l (h++[some (Blk.mk true 3 [])]) fun x h=>if 0<=a8/\a8<((4:Nat):Int) then rd0 h k0 N0 fun l=>Zf l ((o0+32)+((Yc a8)*1)) fun q=>Zcg h 3 true false q [.v (.c (.int .i64 (G.wrap .i64 (a11+1))))] fun x1=>(Zah h 3 x1).bind fun l=>Zaq 3 24 x l h fun x h=>if 0<=a8/\a8<((4:Nat):Int) then Zn h k0 N0 fun l=>if ((o0+32)+((Yc a8)*1))<l.length then Zbh h k0 (l.set ((o0+32)+((Yc a8)*1)) x) fun h=>some (.normal,(q182_c8 k0 N0 o0 a8 s0 s1 s2 h)) else none else none else none else none else none:Option (Ex × St)).bind fun p=>(q182_k9 C L G) p.1 p.2:=by kernel_rfl
theorem q182_ec6_n:(q182_k7 C L G) .normal (q182_c6 k0 N0 o0 a8 a11 s0 s1 h)=(if 0<=a8/\a8<((4:Nat):Int) then Zn h k0 N0 fun l=>Zf l ((o0+32)+((Yc a8)*1)) fun q=>Zm 3 q a11 fun k N o=>Zn h k N fun l=>if o+3<=l.length then if 0=0/\[ci0,ci0,ci0].length=3/\((l.drop o).take 3).length=3 then some (.normal,(q182_c7 k0 N0 o0 a8 a11 s0 s1 ((l.drop o).take 3) h)) else none else none else none:Option (Ex × St)).bind fun p=>(q182_k8 C L G) p.1 p.2:=by kernel_rfl
theorem q182_ec5_n:(q182_k6 C L G) .normal (q182_c5 k0 N0 o0 a1 a6 a8 a9 b10 s0 s1 h)=if b10=true then (c1 (C 198 [(.c (.ptr k0 N0 o0)),(.c (.int .i64 a8)),(.c (.int .i64 a9))] h) fun y h=>Zi .i64 y fun n=>some (.normal,(q182_c6 k0 N0 o0 a8 n s0 s1 h)):Option (Ex × St)).bind fun p=>(q182_k7 C L G) p.1 p.2 else some (.normal,(q182_c4 k0 N0 o0 a1 a6 s0 s1 h)):=by kernel_rfl
theorem q182_ec16_n:(q182_k20 C L G) .normal (q182_c16 k0 N0 o0 a1 a6 a15 a16 b177 s0 s1 s3 h)=if b177=true then if 0<=a1/\a1<((4:Nat):Int) then Zn h k0 N0 fun l=>Zf l ((o0+32)+((Yc a1)*1)) fun q=>Zm 3 q a16 fun k N o=>Zn h k N fun l=>Zf l (o+1) fun q=>Zi .i64 (.c q) fun n=>if 0<=a1/\a1<((4:Nat):Int) then Zn h k0 N0 fun l=>Zf l ((o0+32)+((Yc a1)*1)) fun q=>Zm 3 q a16 fun k N o=>Zn h k N fun l=>Zf l (o+2) fun q=>Zi .i64 (.c q) fun n1=>if 6<s1.length then some (.normal,(q182_s1 k0 N0 o0 a1 a6 n (G.wrap .i64 (a16+1)) s0 (s1.set 6 (.int .i64 n1)) s3 h)) else none else none else none else some (.normal,(q182_s1 k0 N0 o0 a1 a6 a15 (G.wrap .i64 (a16+1)) s0 s1 s3 h)):=by kernel_rfl
theorem q182_ec15_n:(q182_k17 C L G) .normal (q182_c15 k0 N0 o0 a1 a6 a15 a16 s0 s1 s3 h)=(if 0<=a1/\a1<((4:Nat):Int) then Zn h k0 N0 fun l=>Zf l ((o0+32)+((Yc a1)*1)) fun q=>Zm 3 q a16 fun k N o=>Zn h k N fun l=>Zf l (o+0) fun q=>Zi .i64 (.c q) fun n=>Zf s3 2 fun q=>Zi .i64 (.c q) fun n1=>some (.normal,(q182_c16 k0 N0 o0 a1 a6 a15 a16 (n==n1) s0 s1 s3 h)) else none:Option (Ex × St)).bind fun p=>(q182_k20 C L G) p.1 p.2:=by kernel_rfl
theorem q182_ec15_1:(q182_k17 C L G) (.exit 0) (q182_c15_1 k0 N0 o0 a1 a6 a15 s0 s1 s3 h)=some ((.exit 0),(q182_x1_1 k0 N0 o0 a1 a6 a15 s0 s1 s3 h)):=by kernel_rfl
theorem q182_r1:q182_F1 C L G (q182_s1 k0 N0 o0 a1 a6 a15 a16 s0 s1 s3 h)=(if 0<=a1/\a1<((4:Nat):Int) then Zn h k0 N0 fun l=>Zf l ((o0+32)+((Yc a1)*1)) fun q=>Zaj q fun n=>if (decide (a16<n))=true then some (.normal,(q182_c15 k0 N0 o0 a1 a6 a15 a16 s0 s1 s3 h)) else some ((.exit 0),(q182_c15_1 k0 N0 o0 a1 a6 a15 s0 s1 s3 h)) else none:Option (Ex × St)).bind fun p=>(q182_k17 C L G) p.1 p.2:=by kernel_rfl
theorem q182_e1_1:(q182_k16 C L G) (.exit 0) (q182_x1_1 k0 N0 o0 a1 a6 a15 s0 s1 s3 h)=some (.normal,(q182_c12 k0 N0 o0 a1 a6 a15 s0 s1 s3 h)):=by kernel_rfl
theorem q182_ec14_n:(q182_k15 C L G) .normal (q182_c14 k0 N0 o0 a1 a6 a15 s0 s1 s3 h)=(L (q182_F1 C L G) (q182_s1 k0 N0 o0 a1 a6 a15 0 s0 s1 s3 h)).bind fun p=>(q182_k16 C L G) p.1 p.2:=by kernel_rfl
theorem q182_ec13_n:(q182_k14 C L G) .normal (q182_c13 k0 N0 o0 a1 a6 a15 b138 s0 s1 s3 h)=if b138=true then (Zf s3 2 fun q=>Zi .i64 (.c q) fun n=>if 0<=n/\n<((4:Nat):Int) then Zn h k0 N0 fun l=>Zf l ((o0+4)+((Yc n)*1)) fun q=>Zi .i64 (.c q) fun n=>Zf s3 2 fun q=>Zi .i64 (.c q) fun n1=>if 0<=n1/\n1<((4:Nat):Int) then Zn h k0 N0 fun l=>Zf l ((o0+8)+((Yc n1)*1)) fun q=>Zi .i64 (.c q) fun n1=>if 6<s1.length then some (.normal,(q182_c14 k0 N0 o0 a1 a6 n s0 (s1.set 6 (.int .i64 n1)) s3 h)) else none else none else none:Option (Ex × St)).bind fun p=>(q182_k15 C L G) p.1 p.2 else some (.normal,(q182_c12 k0 N0 o0 a1 a6 a15 s0 s1 s3 h)):=by kernel_rfl
theorem q182_ec21_n:(q182_k26 C L G) .normal (q182_c21 k0 N0 o0 a1 a6 a15 b251 s0 s1 s4 h)=if b251=true then if ([]:List Cell).length=0*3 then if 0<=a1/\a1<((4:Nat):Int) then rd0 (h++[some (Blk.mk true 3 [])]) k0 N0 fun l=>Zf l ((o0+32)+((Yc a1)*1)) fun q=>(Zah (h++[some (Blk.mk true 3 [])]) 3 q).bind fun l=>Zaq 3 24 (.sl h.length (([]:List Cell).length) 0 0) l (h++[some (Blk.mk true 3 [])]) fun x h1=>Zf s4 3 fun q=>Zi .i64 (.c q) fun n=>Zf s4 5 fun q=>Zi .i64 (.c q) fun n1=>if (splice (splice (splice [ci0,ci0,ci0] 0 [(.int .i64 n)]) 1 [(.int .i64 n1)]) 2 [(.int .i64 a6)]).length=3/\0+3<=[ci0,ci0,ci0].length then if (splice [ci0,ci0,ci0] 0 (splice (splice (splice [ci0,ci0,ci0] 0 [(.int .i64 n)]) 1 [(.int .i64 n1)]) 2 [(.int .i64 a6)])).length=1*3 then Zaq 3 24 x (splice [ci0,ci0,ci0] 0 (splice (splice (splice [ci0,ci0,ci0] 0 [(.int .i64 n)]) 1 [(.int .i64 n1)]) 2 [(.int .i64 a6)])) h1 fun x h1=>if 0<=a1/\a1<((4:Nat):Int) then Zn h1 k0 N0 fun l=>if ((o0+32)+((Yc a1)*1))<l.length then Zbh h1 k0 (l.set ((o0+32)+((Yc a1)*1)) x) fun h1=>some (.normal,(q182_c19 k0 N0 o0 a1 a15 s0 s1 h1)) else none else none else none else none else none else none else some (.normal,(q182_c19 k0 N0 o0 a1 a15 s0 s1 h)):=by kernel_rfl
theorem q182_ec20_n:(q182_k25 C L G) .normal (q182_c20 k0 N0 o0 a1 a6 a15 b220 s0 s1 s4 h)=if b220=true then Zf s4 3 fun q=>Zi .i64 (.c q) fun n=>Zf s4 3 fun q=>Zi .i64 (.c q) fun n1=>Zf s4 5 fun q=>Zi .i64 (.c q) fun n2=>if 0<=n/\n<((4:Nat):Int) then Zn h k0 N0 fun l=>if ((o0+4)+((Yc n)*1))<l.length then Zbh h k0 (l.set ((o0+4)+((Yc n)*1)) (.int .i64 n2)) fun h1=>if 0<=n1/\n1<((4:Nat):Int) then Zn h1 k0 N0 fun l=>if ((o0+8)+((Yc n1)*1))<l.length then Zbh h1 k0 (l.set ((o0+8)+((Yc n1)*1)) (.int .i64 a6)) fun h1=>some (.normal,(q182_c19 k0 N0 o0 a1 a15 s0 s1 h1)) else none else none else none else none else (Zf s4 2 fun q=>Zi .i64 (.c q) fun n=>some (.normal,(q182_c21 k0 N0 o0 a1 a6 a15 (n==2) s0 s1 s4 h)):Option (Ex × St)).bind fun p=>(q182_k26 C L G) p.1 p.2:=by kernel_rfl
theorem q182_ec22_n:(q182_k27 C L G h0) .normal (q182_c22 k0 N0 o0 s0 s1 h)=Zn h k0 N0 fun l=>Zf l (o0+36) fun q=>if 0=0/\s1.length=7 then if s1.length=7/\0+7<=(Yb 7 ci0).length then if (splice (Yb 7 ci0) 0 s1).length=1*7 then Zaq 7 56 q (splice (Yb 7 ci0) 0 s1) h fun x h=>Zn h k0 N0 fun l=>if (o0+36)<l.length then Zbh h k0 (l.set (o0+36) x) fun h=>if 0=0/\s1.length=7 then if 0=0/\s0.length=7/\s1.length=7 then if 0=0/\s1.length=7 then some ([(.agg s1),(.c (.bool true))],h) else none else none else none else none else none else none else none:=by kernel_rfl
theorem q182_ec19_n:(q182_k23 C L G h0) .normal (q182_c19 k0 N0 o0 a1 a15 s0 s1 h)=(Zn h k0 N0 fun l=>if (o0+0)+3<=l.length then if 0<=a1/\a1<((4:Nat):Int) then Zn h k0 N0 fun l1=>if ((o0+12)+((Yc a1)*5))+5<=l1.length then c1 (qh h (C 107 [(.agg ((l.drop (o0+0)).take 3)),(.c (.int .i64 a1)),(.agg ((l1.drop ((o0+12)+((Yc a1)*5))).take 5)),(.c (.int .i64 a15))] h)) fun y h1=>asA y fun l=>if 0<=a1/\a1<((4:Nat):Int) then Zn h k0 N0 fun l1=>if ((o0+12)+((Yc a1)*5))+5<=l1.length/\l.length=5 then Zbh h k0 (splice l1 ((o0+12)+((Yc a1)*5)) l) fun h=>some (.normal,(q182_c22 k0 N0 o0 s0 s1 h)) else none else none else none else none else none:Option (Ex × St)).bind fun p=>(q182_k27 C L G h0) p.1 p.2:=by kernel_rfl
theorem q182_ec18_n:(q182_k22 C L G h0) .normal (q182_c18 k0 N0 o0 a1 a6 a15 s0 s1 s4 h)=((Zf s4 2 fun q=>Zi .i64 (.c q) fun n=>scK (n==4) false (Zf s4 2 fun q=>Zi .i64 (.c q) fun n=>scK (n==2) true (Zn h k0 N0 fun l=>Zf l (o0+3) fun q=>Zi .i64 (.c q) fun n=>some ((n==1),h)) false h fun b h=>some (b,h)) true h fun b h=>some (.normal,(q182_c20 k0 N0 o0 a1 a6 a15 b s0 s1 s4 h)):Option (Ex × St)).bind fun p=>(q182_k25 C L G) p.1 p.2:Option (Ex × St)).bind fun p=>(q182_k23 C L G h0) p.1 p.2:=by kernel_rfl
theorem q182_ec17_n:(q182_k21 C L G h0) .normal (q182_c17 k0 N0 o0 a1 a6 a15 s0 s1 s4 h)=(Zf s4 2 fun q=>Zi .i64 (.c q) fun n=>Zf s4 3 fun q=>Zi .i64 (.c q) fun n1=>Zf s4 4 fun q=>Zi .i64 (.c q) fun n2=>Zf s4 5 fun q=>Zi .i64 (.c q) fun n3=>if 2<s1.length then if 3<(s1.set 2 (.int .i64 n)).length then if 4<((s1.set 2 (.int .i64 n)).set 3 (.int .i64 n1)).length then if 5<(((s1.set 2 (.int .i64 n)).set 3 (.int .i64 n1)).set 4 (.int .i64 n2)).length then some (.normal,(q182_c18 k0 N0 o0 a1 a6 a15 s0 ((((s1.set 2 (.int .i64 n)).set 3 (.int .i64 n1)).set 4 (.int .i64 n2)).set 5 (.int .i64 n3)) s4 h)) else none else none else none else none:Option (Ex × St)).bind fun p=>(q182_k22 C L G h0) p.1 p.2:=by kernel_rfl
theorem q182_ec12_n:(q182_k13 C L G h0) .normal (q182_c12 k0 N0 o0 a1 a6 a15 s0 s1 s3 h)=(if 0=0/\s3.length=9 then if 0<=a1/\a1<((4:Nat):Int) then Zn h k0 N0 fun l=>if ((o0+12)+((Yc a1)*5))+5<=l.length then c1 (qh h (C 111 [(.agg s3),(.agg ((l.drop ((o0+12)+((Yc a1)*5))).take 5)),(.c (.int .i64 a15))] h)) fun y h1=>asA y fun l=>if 0=0/\[ci0,ci0,ci0,ci0,ci0,ci0].length=6/\l.length=6 then some (.normal,(q182_c17 k0 N0 o0 a1 a6 a15 s0 s1 l h)) else none else none else none else none:Option (Ex × St)).bind fun p=>(q182_k21 C L G h0) p.1 p.2:=by kernel_rfl
theorem q182_ec11_n:(q182_k12 C L G h0) .normal (q182_c11 k0 N0 o0 a1 a6 s0 s1 s3 h)=((Zf s3 0 fun q=>Zi .i64 (.c q) fun n=>scK (n==2) false (Zf s3 0 fun q=>Zi .i64 (.c q) fun n=>some ((n==4),h)) true h fun b h=>some (.normal,(q182_c13 k0 N0 o0 a1 a6 0 b s0 s1 s3 h)):Option (Ex × St)).bind fun p=>(q182_k14 C L G) p.1 p.2:Option (Ex × St)).bind fun p=>(q182_k13 C L G h0) p.1 p.2:=by kernel_rfl
theorem q182_ec4_n:(q182_k5 C L G h0) .normal (q182_c4 k0 N0 o0 a1 a6 s0 s1 h)=(Zn h k0 N0 fun l=>if (o0+0)+3<=l.length then if 0<=a1/\a1<((4:Nat):Int) then Zn h k0 N0 fun l1=>if ((o0+12)+((Yc a1)*5))+5<=l1.length then c2 (qh h (C 81 [(.agg ((l.drop (o0+0)).take 3)),(.c (.int .i64 a1)),(.agg ((l1.drop ((o0+12)+((Yc a1)*5))).take 5))] h)) fun y y1 h1=>asA y fun l=>asB y1 fun b=>if 0=0/\(Yb 9 ci0).length=9/\l.length=9 then some (.normal,(q182_c11 k0 N0 o0 a1 a6 s0 s1 l h)) else none else none else none else none:Option (Ex × St)).bind fun p=>(q182_k12 C L G h0) p.1 p.2:=by kernel_rfl
theorem q182_ec4_0:(q182_k5 C L G h0) .ret (q182_c4_0 b5 s0 h)=if 0=0/\s0.length=7 then some ([(.agg s0),(.c (.bool b5))],h) else none:=by kernel_rfl
theorem q182_ec3_n:(q182_k4 C L G h0) .normal (q182_c3 k0 N0 o0 a1 a6 s0 s1 h)=((c3 (C 197 [(.c (.ptr k0 N0 o0)),(.c (.int .i64 a1))] h) fun y y1 y2 h=>Zi .i64 y fun n=>Zi .i64 y1 fun n1=>asB y2 fun b=>some (.normal,(q182_c5 k0 N0 o0 a1 a6 n n1 b s0 s1 h)):Option (Ex × St)).bind fun p=>(q182_k6 C L G) p.1 p.2:Option (Ex × St)).bind fun p=>(q182_k5 C L G h0) p.1 p.2:=by kernel_rfl
theorem q182_ec2_n:(q182_k3 C L G h0) .normal (q182_c2 k0 N0 o0 a1 a6 s0 h)=(if 0=0/\(Yb 7 ci0).length=7/\(splice (splice (splice (Yb 7 ci0) 0 [(.int .i64 a1)]) 1 [(.int .i64 a1)]) 6 [(.int .i64 (-1))]).length=7 then some (.normal,(q182_c3 k0 N0 o0 a1 a6 s0 (splice (splice (splice (Yb 7 ci0) 0 [(.int .i64 a1)]) 1 [(.int .i64 a1)]) 6 [(.int .i64 (-1))]) h)) else none:Option (Ex × St)).bind fun p=>(q182_k4 C L G h0) p.1 p.2:=by kernel_rfl
theorem q182_ec1_n:(q182_k2 C L G h0) .normal (q182_c1 k0 N0 o0 a1 s0 h)=(Zn h k0 N0 fun l=>Zf l (o0+36) fun q=>Zaj q fun n=>some (.normal,(q182_c2 k0 N0 o0 a1 n s0 h)):Option (Ex × St)).bind fun p=>(q182_k3 C L G h0) p.1 p.2:=by kernel_rfl
theorem q182_eq:q182.body C L G [(.c (.ptr k0 N0 o0)),(.c (.int .i64 a1))] h0=(c1 (C 196 [(.c (.ptr k0 N0 o0)),(.c (.int .i64 a1))] h0) fun y h=>asB y fun b=>if (!b)=true then if 0=0/\(Yb 7 ci0).length=7/\(Yb 7 ci0).length=7 then some (.ret,(q182_c1_0 false (Yb 7 ci0) h)) else none else some (.normal,(q182_c1 k0 N0 o0 a1 (Yb 7 ci0) h)):Option (Ex × St)).bind fun p=>(q182_k2 C L G h0) p.1 p.2:=by kernel_rfl
theorem q196_eq:q196.body C L G [(.c (.ptr k0 N0 o0)),(.c (.int .i64 a1))] h0=scK (decide (a1>=0)) true (some ((decide (a1<4)),h0)) false h0 fun b h=>if b=true then Zn h k0 N0 fun l=>if (o0+0)+3<=l.length then if 0<=a1/\a1<((4:Nat):Int) then Zn h k0 N0 fun l1=>if ((o0+12)+((Yc a1)*5))+5<=l1.length then c2 (qh h (C 81 [(.agg ((l.drop (o0+0)).take 3)),(.c (.int .i64 a1)),(.agg ((l1.drop ((o0+12)+((Yc a1)*5))).take 5))] h)) fun y y1 h1=>asA y fun l=>asB y1 fun b=>if 0=0/\(Yb 9 ci0).length=9/\l.length=9 then scK b true (Zf l 0 fun q=>Zi .i64 (.c q) fun n=>scK (n != 3) true (Zf l 0 fun q=>Zi .i64 (.c q) fun n=>some ((n != 4),h)) false h fun b h=>scK b false (if 0<=a1/\a1<((4:Nat):Int) then Zn h k0 N0 fun l=>Zf l ((o0+32)+((Yc a1)*1)) fun q=>Zaj q fun n=>some ((n==0),h) else none) true h fun b h=>some (b,h)) false h fun b h1=>some ([(.c (.bool b))],h1) else none else none else none else none else c3 (C 197 [(.c (.ptr k0 N0 o0)),(.c (.int .i64 a1))] h) fun y y1 y2 h=>Zi .i64 y fun n=>Zi .i64 y1 fun n1=>asB y2 fun b=>scK b true (c1 (C 198 [(.c (.ptr k0 N0 o0)),(.c (.int .i64 n)),(.c (.int .i64 n1))] h) fun y h=>Zi .i64 y fun n=>some ((decide (n>=0)),h)) false h fun b h=>some ([(.c (.bool b))],h):=by kernel_rfl
theorem q197_eq:q197.body C L G [(.c (.ptr k0 N0 o0)),(.c (.int .i64 a1))] h0=Zn h0 k0 N0 fun l=>Zf l (o0+3) fun q=>Zi .i64 (.c q) fun n=>scK (n==2) true (some ((decide (a1>=4)),h0)) false h0 fun b h=>scK b true (some ((decide (a1<8)),h)) false h fun b h=>if b=true then some ([(.c (.int .i64 (G.wrap .i64 (a1 - 4)))),(.c (.int .i64 (-1))),(.c (.bool true))],h) else Zn h k0 N0 fun l=>Zf l (o0+3) fun q=>Zi .i64 (.c q) fun n=>scK (n==3) true (some ((decide (a1>=8)),h)) false h fun b h=>scK b true (some ((decide (a1<24)),h)) false h fun b h=>if b=true then some ([(.c (.int .i64 (G.quo .i64 (G.wrap .i64 (a1 - 8)) 4))),(.c (.int .i64 (G.rem .i64 (G.wrap .i64 (a1 - 8)) 4))),(.c (.bool true))],h) else some ([(.c (.int .i64 0)),(.c (.int .i64 0)),(.c (.bool false))],h):=by kernel_rfl
def q198_k2 (h0:Za):Ex->St->Rs:=Zae (fun st=>q198_p1.exec C L G st (q198.fin G h0)) (q198.fin G h0)
def q198_k3 (h0:Za):Ex->St->Rs:=Zap 0 (q198_k2 C L G h0)
def q198_s1 (k0 N0 o0:Nat) (a1 a2 a7:Int) (h:Za):St:=⟨.v (.c (.ptr k0 N0 o0)) :: .v (.c (.int .i64 a1)) :: .v (.c (.int .i64 a2)) :: tops 4 (.v (.c (.int .i64 a7)) :: tops 28 []),[],h⟩
def q198_F1 :St->Option (Ex × St):=Zo (q198_b1.exec C L G) [0,1,2,7] [] [(0,[6],[]),(1,[],[])]
def q198_x1_0 (a6:Int) (h:Za):St:=⟨tops 6 (.v (.c (.int .i64 a6)) :: tops 29 []),[],h⟩
def q198_x1_1 (h:Za):St:=⟨tops 36 [],[],h⟩
theorem q198_r1:q198_F1 C L G (q198_s1 k0 N0 o0 a1 a2 a7 h)=if 0<=a1/\a1<((4:Nat):Int) then Zn h k0 N0 fun l=>Zf l ((o0+32)+((Yc a1)*1)) fun q=>Zaj q fun n=>if (decide (a7<n))=true then scK (decide (a2<0)) false (if 0<=a1/\a1<((4:Nat):Int) then Zn h k0 N0 fun l=>Zf l ((o0+32)+((Yc a1)*1)) fun q=>Zm 3 q a7 fun k N o=>Zn h k N fun l=>Zf l (o+0) fun q=>Zi .i64 (.c q) fun n=>some ((n==a2),h) else none) true h fun b h1=>if b=true then some (.ret,(q198_x1_0 a7 h1)) else some (.normal,(q198_s1 k0 N0 o0 a1 a2 (G.wrap .i64 (a7+1)) h1)) else some ((.exit 0),(q198_x1_1 h)) else none:=by kernel_rfl
theorem q198_e1_0:(q198_k3 C L G h0) .ret (q198_x1_0 a6 h)=some ([(.c (.int .i64 a6))],h):=by kernel_rfl
theorem q198_e1_1:(q198_k3 C L G h0) (.exit 0) (q198_x1_1 h)=some ([(.c (.int .i64 (-1)))],h):=by kernel_rfl
theorem q198_eq:q198.body C L G [(.c (.ptr k0 N0 o0)),(.c (.int .i64 a1)),(.c (.int .i64 a2))] h0=(L (q198_F1 C L G) (q198_s1 k0 N0 o0 a1 a2 0 h0)).bind fun p=>(q198_k3 C L G h0) p.1 p.2:=by kernel_rfl
end
structure Stp where
 pick:Int
 t:Int
 kind:Int
 loc:Int
 r:Int
 w:Int
 frm:Int
def Stp.cs (s:Stp):List Cell:=[.int .i64 s.pick,.int .i64 s.t,.int .i64 s.kind,.int .i64 s.loc,.int .i64 s.r,.int .i64 s.w,.int .i64 s.frm]
def Zba (l:List Stp):List Cell:=l.flatMap Stp.cs
theorem Zhn (s:Stp):s.cs.length=7:=rfl
theorem stp_pick {α:Type} {s:Stp} {f:Cell->Option α}:Zf s.cs 0 f=f (.int .i64 s.pick):=rfl
theorem stp_t {α:Type} {s:Stp} {f:Cell->Option α}:Zf s.cs 1 f=f (.int .i64 s.t):=rfl
theorem stp_kind {α:Type} {s:Stp} {f:Cell->Option α}:Zf s.cs 2 f=f (.int .i64 s.kind):=rfl
theorem stp_loc {α:Type} {s:Stp} {f:Cell->Option α}:Zf s.cs 3 f=f (.int .i64 s.loc):=rfl
theorem stp_frm {α:Type} {s:Stp} {f:Cell->Option α}:Zf s.cs 6 f=f (.int .i64 s.frm):=rfl
theorem Zro:∀l:List Stp,(Zba l).length=l.length*7
 | []=>rfl
 | s :: l=>by simp only [Zba,Ybe,Yaz];rw [show (l.flatMap _).length=_ from Zro l,Zhn];simp;omega
theorem Zno:∀(l:List Stp) (i:Nat) (s:Stp),l[i]? = some s->((Zba l).drop (i*7)).take 7=s.cs
 | [],_,_,h=>by simp at h
 | q :: l,0,s,h=>by simp at h;subst h;rfl
 | q :: l,i+1,s,h=>by
  have:=Zno l i s (by simpa using h)
  have e:Zba (q :: l)=q.cs++Zba l:=rfl
  rw [e,Ybf,Yaq (by rw [Zhn];omega),Ybh,show (i+1)*7 - q.cs.length=i*7 by rw [Zhn];omega]
  exact this
theorem Zzh {l:List Stp} {i j:Nat} {s:Stp} {c:Cell} (h:l[i]? = some s) (hj:j<7) (hc:s.cs[j]? = some c):(Zba l)[i*7+j]? = some c:=by
 rw [←hc,←Zno l i s h,Yag,if_pos hj,Yah]
theorem Zoy (l:List Stp) (s:Stp):Zba (l++[s])=Zba l++s.cs:=by simp [Zba]
theorem SlAt.elG {h:Za} {x:Cell} {esz len:Nat} {cs:List Cell} (s:SlAt h x esz cs len) {i:Nat} (hi:i<len) :
  ∃off cs',(∀{α:Type} (G:Nat->List Cell->Option α),(Zm esz x (i:Int) fun k N o=>Zn h k N fun l=>G o l)=G off cs')/\off+esz<=cs'.length/\(cs'.drop off).take esz=(cs.drop (i*esz)).take esz:=by
 rcases s.2 with ⟨_,rfl⟩ | ⟨k,N,off,rfl,h0 | ⟨b,hb,hN,hle,hat⟩⟩
 ·omega
 ·omega
 ·have hlt:i*esz+esz<=len*esz:=by
   have:(i+1)*esz<=len*esz:=Nat.mul_le_mul_right _ hi
   rw [Nat.succ_mul] at this;exact this
  refine ⟨off+i*esz,b.cs,fun G=>by rw [Zjn hi,Zq hb hN],by omega,?_⟩
  refine Yak fun j=>?_
  rw [Yag,Yag]
  by_cases hj:j<esz
  ·rw [if_pos hj,if_pos hj,Yah,Yah,Nat.add_assoc,hat _ (by omega)]
  ·rw [if_neg hj,if_neg hj]
theorem SlAt.stepG {h:Za} {x:Cell} {l:List Stp} (s:SlAt h x 7 (Zba l) l.length) {i:Nat} {q:Stp} (hq:l[i]? = some q) :
  ∃off cs',(∀{α:Type} (G:Nat->List Cell->Option α),(Zm 7 x (i:Int) fun k N o=>Zn h k N fun l=>G o l)=G off cs')/\off+7<=cs'.length/\(cs'.drop off).take 7=q.cs:=by
 have hi:i<l.length:=by
  rcases Yaa i l.length with h | h
  ·exact h
  ·rw [Yg h] at hq;cases hq
 obtain ⟨off,cs',h1,h2,h3⟩:=s.elG hi
 exact ⟨off,cs',h1,h2,h3.trans (Zno l i q hq)⟩
def wrS (s:Stp) (m:Int):Bool:=s.kind==6||s.kind==4||(m==1&&s.kind==2)
def rdS (s:Stp):Bool:=s.kind==1||s.kind==4||s.kind==5
def fnS (s:Stp):Bool:=s.kind==3||s.kind==4||s.kind==5
def tchS (s:Stp) (m:Int):Bool:=wrS s m||rdS s
def clash (a b:Stp) (m:Int):Bool :=
 if (a.pick==b.pick)=true then true
 else if (a.t==b.t)=true then (a.kind==6&&fnS b)||(b.kind==6&&fnS a)
 else tchS a m&&tchS b m&&a.loc==b.loc&&(wrS a m||wrS b m)
section
variable {E:Env}
theorem Zmo (hE:q257_In E) (s:Stp) (m:Int) (h:Za):R E 257 [.agg s.cs,.c (.int .i64 m)] h=some ([.c (.bool (wrS s m))],h):=by
 refine Zd hE.fn ?_
 rw [q257_eq]
 simp only [stp_kind,asI_ok,scK_or,scK_and,scK_ok]
 rfl
theorem Reads_R (hE:q266_In E) (s:Stp) (h:Za):R E 266 [.agg s.cs] h=some ([.c (.bool (rdS s))],h):=by
 refine Zd hE.fn ?_
 rw [q266_eq]
 simp only [stp_kind,asI_ok,scK_or,scK_and,scK_ok]
 rfl
theorem Fences_R (hE:q265_In E) (s:Stp) (h:Za):R E 265 [.agg s.cs] h=some ([.c (.bool (fnS s))],h):=by
 refine Zd hE.fn ?_
 rw [q265_eq]
 simp only [stp_kind,asI_ok,scK_or,scK_and,scK_ok]
 rfl
end
section
variable (C:Zk) (L:Zbl) (G:Glo)
variable {h h0:Za}
variable {b2:Bool}
variable {x0 x7 x39 x67:Cell}
variable {a0 a1 a2 a3 a8 a9 a40 a41 a68 a69:Int}
variable {l0 l1 l2 s0:List Cell}
variable {N0 N1 N3 N5 k0 k1 k3 k5 o0 o1 o3 o5:Nat}
theorem q94_eq:q94.body C L G [(.agg l0),(.c (.int .i64 a1))] h0=if 0=0/\l0.length=3 then c1 (C 113 [(.agg l0),(.c (.int .i64 a1))] h0) fun y h=>asC y fun x=>c1 (C 114 [(.c x),(.agg [ci0,ci0,ci0,ci0,ci0])] h) fun y h=>asA y fun l=>if 0=0/\[ci0,ci0,ci0,ci0,ci0].length=5/\l.length=5 then if 0=0/\l.length=5 then some ([(.agg l)],h) else none else none else none:=by kernel_rfl
def q102_k2 (h0:Za):Ex->St->Rs:=Zae (fun st=>q102_p1.exec C L G st (q102.fin G h0)) (q102.fin G h0)
def q102_k3 (h0:Za):Ex->St->Rs:=Zap 0 (q102_k2 C L G h0)
def q102_s1 (a3:Int) (x7:Cell) (a8 a9:Int) (h:Za):St:=⟨tops 3 (.v (.c (.int .i64 a3)) :: tops 3 (.v (.c x7) :: .v (.c (.int .i64 a8)) :: .v (.c (.int .i64 a9)) :: tops 9 [])),[none],h⟩
def q102_F1 :St->Option (Ex × St):=Zo (q102_b1.exec C L G) [3,7,8,9] [] [(1,[3],[])]
def q102_x1_1 (a3:Int) (h:Za):St:=⟨tops 3 (.v (.c (.int .i64 a3)) :: tops 15 []),[none],h⟩
theorem q102_r1:q102_F1 C L G (q102_s1 a3 x7 a8 a9 h)=if (decide (a9<a8))=true then Zm 1 x7 a9 fun k N o=>Zn h k N fun l=>Zf l o fun q=>Zaj q fun n=>some (.normal,(q102_s1 (G.wrap .i64 (a3+n)) x7 a8 (G.wrap .i64 (a9+1)) h)) else some ((.exit 0),(q102_x1_1 a3 h)):=by kernel_rfl
theorem q102_e1_1:(q102_k3 C L G h0) (.exit 0) (q102_x1_1 a3 h)=some ([(.c (.int .i64 a3))],h):=by kernel_rfl
theorem q102_eq:q102.body C L G [(.agg l0)] h0=Zf l0 2 fun q=>Zaj q fun n=>(L (q102_F1 C L G) (q102_s1 0 q n 0 h0)).bind fun p=>(q102_k3 C L G h0) p.1 p.2:=by kernel_rfl
theorem q105_eq:q105.body C L G [(.agg l0),(.c (.int .i64 a1)),(.agg l2)] h0=if 0=0/\l0.length=3 then c1 (C 113 [(.agg l0),(.c (.int .i64 a1))] h0) fun y h=>asC y fun x=>Zf l2 0 fun q=>Zi .i64 (.c q) fun n=>scK (decide (n<0)) false (Zf l2 0 fun q=>Zi .i64 (.c q) fun n=>Zaj x fun n1=>some ((decide (n>=n1)),h)) true h fun b h=>if b=true then if 0=0/\(Yb 9 ci0).length=9/\(Yb 9 ci0).length=9 then if 0=0/\(Yb 9 ci0).length=9 then some ([(.agg (Yb 9 ci0)),(.c (.bool false))],h) else none else none else Zf l2 0 fun q=>Zi .i64 (.c q) fun n=>Zm 9 x n fun k N o=>Zn h k N fun l=>if o+9<=l.length then if 0=0/\(Yb 9 ci0).length=9/\((l.drop o).take 9).length=9 then Zf ((l.drop o).take 9) 0 fun q=>Zi .i64 (.c q) fun n=>scK (decide (n<1)) false (Zf ((l.drop o).take 9) 0 fun q=>Zi .i64 (.c q) fun n=>some ((decide (n > 4)),h)) true h fun b h=>if b=true then if 0=0/\(Yb 9 ci0).length=9/\(Yb 9 ci0).length=9 then if 0=0/\(Yb 9 ci0).length=9 then some ([(.agg (Yb 9 ci0)),(.c (.bool false))],h) else none else none else if 0=0/\((l.drop o).take 9).length=9 then if 0=0/\(Yb 9 ci0).length=9/\((l.drop o).take 9).length=9 then if 0=0/\((l.drop o).take 9).length=9 then some ([(.agg ((l.drop o).take 9)),(.c (.bool true))],h) else none else none else none else none else none else none:=by kernel_rfl
theorem q106_eq:q106.body C L G [(.agg l0),(.c (.int .i64 a1)),(.agg l2),(.c (.int .i64 a3))] h0=if 0=0/\l0.length=3 then Zn (h0++[some (Blk.mk true 0 (AV.cells (.agg l2)))]) h0.length ((AV.cells (.agg l2)).length) fun l=>if 0=0/\l.length=5 then c2 (C 105 [(.agg l0),(.c (.int .i64 a1)),(.agg l)] (h0++[some (Blk.mk true 0 (AV.cells (.agg l2)))])) fun y y1 h=>asA y fun l=>asB y1 fun b=>if 0=0/\(Yb 9 ci0).length=9/\l.length=9 then if (!b)=true then Zn h h0.length ((AV.cells (.agg l2)).length) fun l1=>if 0=0/\l1.length=5 then if 0=0/\[ci0,ci0,ci0,ci0,ci0].length=5/\l1.length=5 then if 0=0/\l1.length=5 then Zbe true h0 [(.agg l1)] h else none else none else none else Zf l 0 fun q=>Zi .i64 (.c q) fun n=>scK (n==2) false (Zf l 0 fun q=>Zi .i64 (.c q) fun n=>some ((n==4),h)) true h fun b h=>if b=true then Zf l 1 fun q=>Zi .i64 (.c q) fun n=>c0 (C 124 [(.c (.ptr h0.length ((AV.cells (.agg l2)).length) 0)),(.c (.int .i64 n)),(.c (.int .i64 a3))] h) fun h1=>Zn h1 h0.length ((AV.cells (.agg l2)).length) fun l=>Zf l 0 fun q=>Zi .i64 (.c q) fun n=>Zn h1 h0.length ((AV.cells (.agg l2)).length) fun l=>if 0<l.length then Zbh h1 h0.length (l.set 0 (.int .i64 (G.wrap .i64 (n+1)))) fun h1=>if 0=0/\l0.length=3 then c1 (qh h1 (C 113 [(.agg l0),(.c (.int .i64 a1))] h1)) fun y h2=>asC y fun x=>Zn h1 h0.length ((AV.cells (.agg l2)).length) fun l=>if 0=0/\l.length=5 then c1 (qh h1 (C 114 [(.c x),(.agg l)] h1)) fun y h2=>asA y fun l=>if 0=0/\[ci0,ci0,ci0,ci0,ci0].length=5/\l.length=5 then if 0=0/\l.length=5 then Zbe true h0 [(.agg l)] h1 else none else none else none else none else none else Zn h h0.length ((AV.cells (.agg l2)).length) fun l=>Zf l 0 fun q=>Zi .i64 (.c q) fun n=>Zn h h0.length ((AV.cells (.agg l2)).length) fun l=>if 0<l.length then Zbh h h0.length (l.set 0 (.int .i64 (G.wrap .i64 (n+1)))) fun h=>if 0=0/\l0.length=3 then c1 (qh h (C 113 [(.agg l0),(.c (.int .i64 a1))] h)) fun y h1=>asC y fun x=>Zn h h0.length ((AV.cells (.agg l2)).length) fun l=>if 0=0/\l.length=5 then c1 (qh h (C 114 [(.c x),(.agg l)] h)) fun y h1=>asA y fun l=>if 0=0/\[ci0,ci0,ci0,ci0,ci0].length=5/\l.length=5 then if 0=0/\l.length=5 then Zbe true h0 [(.agg l)] h else none else none else none else none else none else none else none else none:=by kernel_rfl
theorem q108_eq:q108.body C L G [(.agg l0),(.agg l1)] h0=Zf l0 0 fun q=>Zi .i64 (.c q) fun n=>scK (decide (n>=0)) true (Zf l0 0 fun q=>Zi .i64 (.c q) fun n=>some ((decide (n<4)),h0)) false h0 fun b h=>if b=true then Zf l0 0 fun q=>Zi .i64 (.c q) fun n=>if 0<=n/\n<((4:Nat):Int) then Zf l1 (1+((Yc n)*1)) fun q=>Zi .i64 (.c q) fun n=>some ([(.c (.int .i64 n))],h) else none else Zf l0 1 fun q=>Zi .i64 (.c q) fun n=>some ([(.c (.int .i64 n))],h):=by kernel_rfl
theorem q113_eq:q113.body C L G [(.agg l0),(.c (.int .i64 a1))] h0=scK (decide (a1<0)) false (Zf l0 2 fun q=>Zaj q fun n=>some ((decide (a1>=n)),h0)) true h0 fun b h=>if b=true then some ([(.c .nils)],h) else Zf l0 2 fun q=>Zm 1 q a1 fun k N o=>Zn h k N fun l=>Zf l o fun q=>some ([(.c q)],h):=by kernel_rfl
def q114_k2 (h0:Za):Ex->St->Rs:=Zae (fun st=>q114_p1.exec C L G st (q114.fin G h0)) (q114.fin G h0)
def q114_k3 (h0:Za):Ex->St->Rs:=Zap 0 (q114_k2 C L G h0)
def q114_s1 (x0:Cell) (k3 N3 o3:Nat) (s0:List Cell) (h:Za):St:=⟨.v (.c x0) :: tops 2 (.v (.c (.ptr k3 N3 o3)) :: .loc 0 0 :: tops 67 []),[some s0,none],h⟩
def q114_F1 :St->Option (Ex × St):=Zo (q114_b1.exec C L G) [0,3,4] [0] [(0,[4],[0]),(1,[3,4],[0])]
def q114_x1_0 (s0:List Cell) (h:Za):St:=⟨tops 4 (.loc 0 0 :: tops 67 []),[some s0,none],h⟩
def q114_x1_1 (k3 N3 o3:Nat) (s0:List Cell) (h:Za):St:=⟨tops 3 (.v (.c (.ptr k3 N3 o3)) :: .loc 0 0 :: tops 67 []),[some s0,none],h⟩
theorem q114_r1:q114_F1 C L G (q114_s1 x0 k3 N3 o3 s0 h)=Zn h k3 N3 fun l=>Zf l (o3+0) fun q=>Zi .i64 (.c q) fun n=>scK (decide (n>=0)) true (Zn h k3 N3 fun l=>Zf l (o3+0) fun q=>Zi .i64 (.c q) fun n=>Zaj x0 fun n1=>some ((decide (n<n1)),h)) false h fun b h=>if b=true then Zn h k3 N3 fun l=>Zf l (o3+0) fun q=>Zi .i64 (.c q) fun n=>Zm 9 x0 n fun k N o=>Zn h k N fun l=>if o+9<=l.length then if 0=0/\(Yb 9 ci0).length=9/\((l.drop o).take 9).length=9 then if 3+2<=((l.drop o).take 9).length then Zn h k3 N3 fun l1=>if o3=0/\l1.length=5 then c1 (qh h (C 108 [(.agg ((((l.drop o).take 9).drop 3).take 2)),(.agg l1)] h)) fun y h1=>Zi .i64 y fun n=>if 6+2<=((l.drop o).take 9).length then Zn h k3 N3 fun l1=>if o3=0/\l1.length=5 then c1 (qh h (C 108 [(.agg ((((l.drop o).take 9).drop 6).take 2)),(.agg l1)] h)) fun y h1=>Zi .i64 y fun n1=>Zf ((l.drop o).take 9) 0 fun q=>Zi .i64 (.c q) fun n2=>if (n2==5)=true then Zf ((l.drop o).take 9) 5 fun q=>Zi .i64 (.c q) fun n3=>c2 (C 125 [(.c (.int .i64 n3)),(.c (.int .i64 n)),(.c (.int .i64 n1))] h) fun y y1 h1=>Zi .i64 y fun n3=>asB y1 fun b=>if b=true then Zf ((l.drop o).take 9) 1 fun q=>Zi .i64 (.c q) fun n4=>c0 (C 124 [(.c (.ptr k3 N3 o3)),(.c (.int .i64 n4)),(.c (.int .i64 n3))] h1) fun h2=>Zn h2 k3 N3 fun l1=>Zf l1 (o3+0) fun q=>Zi .i64 (.c q) fun n3=>Zn h2 k3 N3 fun l1=>if (o3+0)<l1.length then Zbh h2 k3 (l1.set (o3+0) (.int .i64 (G.wrap .i64 (n3+1)))) fun h2=>some (.normal,(q114_s1 x0 k3 N3 o3 s0 h2)) else none else Zf ((l.drop o).take 9) 1 fun q=>Zi .i64 (.c q) fun n3=>c0 (C 124 [(.c (.ptr k3 N3 o3)),(.c (.int .i64 n3)),(.c (.int .i64 n))] h1) fun h1=>Zn h1 k3 N3 fun l1=>Zf l1 (o3+0) fun q=>Zi .i64 (.c q) fun n3=>Zn h1 k3 N3 fun l1=>if (o3+0)<l1.length then Zbh h1 k3 (l1.set (o3+0) (.int .i64 (G.wrap .i64 (n3+1)))) fun h1=>some (.normal,(q114_s1 x0 k3 N3 o3 s0 h1)) else none else if (n2==6)=true then if (n==n1)=true then Zn h k3 N3 fun l1=>Zf l1 (o3+0) fun q=>Zi .i64 (.c q) fun n=>Zf ((l.drop o).take 9) 8 fun q=>Zi .i64 (.c q) fun n1=>Zaj x0 fun n2=>let v:Int:=(if n2<(if 0 > n1 then 0 else n1) then n2 else (if 0 > n1 then 0 else n1));Zn h k3 N3 fun l=>if (o3+0)<l.length then Zbh h k3 (l.set (o3+0) (.int .i64 (G.wrap .i64 (n+v)))) fun h1=>Zn h1 k3 N3 fun l=>Zf l (o3+0) fun q=>Zi .i64 (.c q) fun n=>Zn h1 k3 N3 fun l=>if (o3+0)<l.length then Zbh h1 k3 (l.set (o3+0) (.int .i64 (G.wrap .i64 (n+1)))) fun h1=>some (.normal,(q114_s1 x0 k3 N3 o3 s0 h1)) else none else none else Zn h k3 N3 fun l=>Zf l (o3+0) fun q=>Zi .i64 (.c q) fun n=>Zn h k3 N3 fun l=>if (o3+0)<l.length then Zbh h k3 (l.set (o3+0) (.int .i64 (G.wrap .i64 (n+1)))) fun h1=>some (.normal,(q114_s1 x0 k3 N3 o3 s0 h1)) else none else Zn h k3 N3 fun l=>if o3=0/\l.length=5 then if 0=0/\s0.length=5/\l.length=5 then some (.ret,(q114_x1_0 l h)) else none else none else none else none else none else none else none else none else some ((.exit 0),(q114_x1_1 k3 N3 o3 s0 h)):=by kernel_rfl
theorem q114_e1_0:(q114_k3 C L G h0) .ret (q114_x1_0 s0 h)=if 0=0/\s0.length=5 then Zbe true h0 [(.agg s0)] h else none:=by kernel_rfl
theorem q114_e1_1:(q114_k3 C L G h0) (.exit 0) (q114_x1_1 k3 N3 o3 s0 h)=Zn h k3 N3 fun l=>if o3=0/\l.length=5 then if 0=0/\s0.length=5/\l.length=5 then if 0=0/\l.length=5 then Zbe true h0 [(.agg l)] h else none else none else none:=by kernel_rfl
theorem q114_eq:q114.body C L G [(.c x0),(.agg l1)] h0=(L (q114_F1 C L G) (q114_s1 x0 h0.length ((AV.cells (.agg l1)).length) 0 [ci0,ci0,ci0,ci0,ci0] (h0++[some (Blk.mk true 0 (AV.cells (.agg l1)))]))).bind fun p=>(q114_k3 C L G h0) p.1 p.2:=by kernel_rfl
theorem q124_eq:q124.body C L G [(.c (.ptr k0 N0 o0)),(.c (.int .i64 a1)),(.c (.int .i64 a2))] h0=scK (decide (a1>=0)) true (some ((decide (a1<4)),h0)) false h0 fun b h=>if b=true then if 0<=a1/\a1<((4:Nat):Int) then Zn h k0 N0 fun l=>if ((o0+1)+((Yc a1)*1))<l.length then Zbh h k0 (l.set ((o0+1)+((Yc a1)*1)) (.int .i64 a2)) fun h1=>some ([],h1) else none else none else some ([],h):=by kernel_rfl
def q188_k2 (h0:Za):Ex->St->Rs:=Zae (fun st=>q188_p1.exec C L G st (q188.fin G h0)) (q188.fin G h0)
def q188_k3 (h0:Za):Ex->St->Rs:=Zap 0 (q188_k2 C L G h0)
def q188_s1 (k1 N1 o1:Nat) (x39:Cell) (a40 a41:Int) (h:Za):St:=⟨tops 1 (.v (.c (.ptr k1 N1 o1)) :: tops 37 (.v (.c x39) :: .v (.c (.int .i64 a40)) :: .v (.c (.int .i64 a41)) :: tops 45 [])),[],h⟩
def q188_F1 :St->Option (Ex × St):=Zo (q188_b1.exec C L G) [1,39,40,41] [] [(0,[2],[]),(1,[1],[])]
def q188_x1_0 (b2:Bool) (h:Za):St:=⟨tops 2 (.v (.c (.bool b2)) :: tops 84 []),[],h⟩
def q188_x1_1 (k1 N1 o1:Nat) (h:Za):St:=⟨tops 1 (.v (.c (.ptr k1 N1 o1)) :: tops 85 []),[],h⟩
def q188_k4 (h0:Za):Ex->St->Rs:=Zae (fun st=>q188_p2.exec C L G st (q188.fin G h0)) (q188.fin G h0)
def q188_k5 (h0:Za):Ex->St->Rs:=Zap 2 (q188_k4 C L G h0)
def q188_s2 (k5 N5 o5:Nat) (x67:Cell) (a68 a69:Int) (h:Za):St:=⟨tops 5 (.v (.c (.ptr k5 N5 o5)) :: tops 61 (.v (.c x67) :: .v (.c (.int .i64 a68)) :: .v (.c (.int .i64 a69)) :: tops 17 [])),[],h⟩
def q188_F2 :St->Option (Ex × St):=Zo (q188_b2.exec C L G) [5,67,68,69] [] [(0,[2],[]),(3,[],[])]
def q188_x2_0 (b2:Bool) (h:Za):St:=⟨tops 2 (.v (.c (.bool b2)) :: tops 84 []),[],h⟩
def q188_x2_3 (h:Za):St:=⟨tops 87 [],[],h⟩
theorem q188_r1:q188_F1 C L G (q188_s1 k1 N1 o1 x39 a40 a41 h)=if (decide (a41<a40))=true then Zm 1 x39 a41 fun k N o=>Zn h k N fun l=>Zf l o fun q=>Zi .u8 (.c q) fun n=>c1 (C 158 [(.c (.int .i64 (G.wrap .i64 n)))] h) fun y h1=>asB y fun b=>scK (!b) false (scK (decide (a41 > 0)) true (Zn h1 k1 N1 fun l=>Zf l (o1+0) fun q=>Zm 1 q (G.wrap .i64 (a41 - 1)) fun k N o=>Zn h1 k N fun l=>Zf l o fun q=>Zi .u8 (.c q) fun n1=>some ((decide (n<=n1)),h1)) false h1 fun b h=>some (b,h)) true h1 fun b h1=>if b=true then some (.ret,(q188_x1_0 false h1)) else some (.normal,(q188_s1 k1 N1 o1 x39 a40 (G.wrap .i64 (a41+1)) h1)) else some ((.exit 0),(q188_x1_1 k1 N1 o1 h)):=by kernel_rfl
theorem q188_e1_0:(q188_k3 C L G h0) .ret (q188_x1_0 b2 h)=Zbe true h0 [(.c (.bool b2))] h:=by kernel_rfl
theorem q188_r2:q188_F2 C L G (q188_s2 k5 N5 o5 x67 a68 a69 h)=if (decide (a69<a68))=true then Zm 1 x67 a69 fun k N o=>Zn h k N fun l=>Zf l o fun q=>Zaj q fun n=>scK (decide (n > 10)) false (c1 (C 148 [(.c q)] h) fun y h=>asB y fun b=>some ((!b),h)) true h fun b h1=>scK b false (c1 (C 155 [(.c q),(.c (.fn 201 [(k5,N5,o5)]))] h1) fun y h=>asB y fun b=>some (b,h)) true h1 fun b h1=>if b=true then some (.ret,(q188_x2_0 false h1)) else some (.normal,(q188_s2 k5 N5 o5 x67 a68 (G.wrap .i64 (a69+1)) h1)) else some ((.exit 2),(q188_x2_3 h)):=by kernel_rfl
theorem q188_e2_0:(q188_k5 C L G h0) .ret (q188_x2_0 b2 h)=Zbe true h0 [(.c (.bool b2))] h:=by kernel_rfl
theorem q188_e2_3:(q188_k5 C L G h0) (.exit 2) (q188_x2_3 h)=Zbe true h0 [(.c (.bool true))] h:=by kernel_rfl
theorem q188_e1_1:(q188_k3 C L G h0) (.exit 0) (q188_x1_1 k1 N1 o1 h)=Zn (h++[some (Blk.mk true 0 ([Cell.nilf]))]) h.length (([Cell.nilf]).length) fun l=>if 0<l.length then Zbh (h++[some (Blk.mk true 0 ([Cell.nilf]))]) h.length (l.set 0 (.fn 200 [(k1,N1,o1)])) fun h1=>Zn h1 k1 N1 fun l=>Zf l (o1+2) fun q=>Zaj q fun n=>(L (q188_F2 C L G) (q188_s2 h.length (([Cell.nilf]).length) 0 q n 0 h1)).bind fun p=>(q188_k5 C L G h0) p.1 p.2 else none:=by kernel_rfl
theorem q188_eq:q188.body C L G [(.agg l0)] h0=Zn (h0++[some (Blk.mk true 0 (AV.cells (.agg l0)))]) h0.length ((AV.cells (.agg l0)).length) fun l=>Zf l 2 fun q=>Zaj q fun n=>scK (n==0) false (Zn (h0++[some (Blk.mk true 0 (AV.cells (.agg l0)))]) h0.length ((AV.cells (.agg l0)).length) fun l=>Zf l 2 fun q=>Zaj q fun n=>some ((decide (n > 4)),(h0++[some (Blk.mk true 0 (AV.cells (.agg l0)))]))) true (h0++[some (Blk.mk true 0 (AV.cells (.agg l0)))]) fun b h=>scK b false (Zn h h0.length ((AV.cells (.agg l0)).length) fun l=>Zf l 0 fun q=>Zaj q fun n=>some ((decide (n > 4)),h)) true h fun b h=>scK b false (Zn h h0.length ((AV.cells (.agg l0)).length) fun l=>Zf l 1 fun q=>Zaj q fun n=>Zn h h0.length ((AV.cells (.agg l0)).length) fun l=>Zf l 0 fun q=>Zaj q fun n1=>some ((n != n1),h)) true h fun b h=>scK b false (Zn h h0.length ((AV.cells (.agg l0)).length) fun l=>if 0=0/\l.length=3 then c1 (C 102 [(.agg l)] h) fun y h=>Zi .i64 y fun n=>some ((decide (n > 24)),h) else none) true h fun b h=>if b=true then Zbe true h0 [(.c (.bool false))] h else Zn h h0.length ((AV.cells (.agg l0)).length) fun l=>Zf l 0 fun q=>Zaj q fun n=>(L (q188_F1 C L G) (q188_s1 h0.length ((AV.cells (.agg l0)).length) 0 q n 0 h)).bind fun p=>(q188_k3 C L G h0) p.1 p.2:=by kernel_rfl
theorem q200_eq:q200.body C L G [(.c (.int .i64 a0)),(.c (.ptr k1 N1 o1))] h0=scK (decide (a0>=0)) true (Zn h0 k1 N1 fun l=>Zf l (o1+0) fun q=>Zaj q fun n=>some ((decide (a0<n)),h0)) false h0 fun b h=>some ([(.c (.bool b))],h):=by kernel_rfl
theorem q201_eq:q201.body C L G [(.agg l0),(.c (.ptr k1 N1 o1))] h0=if 0=0/\l0.length=9 then Zn h0 k1 N1 fun l=>Zf l o1 fun q=>c1 (C 159 [(.agg l0),(.c q)] h0) fun y h=>asB y fun b=>some ([(.c (.bool (!b)))],h) else none:=by kernel_rfl
end
section
variable (C:Zk) (L:Zbl) (G:Glo)
variable {h0:Za}
variable {b0:Bool}
variable {a0 a1 a2:Int}
theorem q125_eq:q125.body C L G [(.c (.int .i64 a0)),(.c (.int .i64 a1)),(.c (.int .i64 a2))] h0=if (a0==1)=true then some ([(.c (.int .i64 (G.wrap .i64 (a1+a2)))),(.c (.bool true))],h0) else if (a0==2)=true then some ([(.c (.int .i64 (G.wrap .i64 (a1 - a2)))),(.c (.bool true))],h0) else if (a0==3)=true then some ([(.c (.int .i64 (G.wrap .i64 (a1*a2)))),(.c (.bool true))],h0) else if (a0==4)=true then some ([(.c (.int .i64 (G.band .i64 a1 a2))),(.c (.bool true))],h0) else if (a0==5)=true then some ([(.c (.int .i64 (G.bor .i64 a1 a2))),(.c (.bool true))],h0) else if (a0==6)=true then some ([(.c (.int .i64 (G.bxor .i64 a1 a2))),(.c (.bool true))],h0) else if (a0==7)=true then if (G.rem .u64 (G.wrap .u64 a2) 64)<0 then none else let v:Int:=(G.shl .i64 a1 (G.rem .u64 (G.wrap .u64 a2) 64));some ([(.c (.int .i64 v)),(.c (.bool true))],h0) else if (a0==8)=true then if (G.rem .u64 (G.wrap .u64 a2) 64)<0 then none else let v:Int:=(G.shr .i64 a1 (G.rem .u64 (G.wrap .u64 a2) 64));some ([(.c (.int .i64 v)),(.c (.bool true))],h0) else if (a0==9)=true then c1 (C 139 [(.c (.bool (a1==a2)))] h0) fun y h=>Zi .i64 y fun n=>some ([(.c (.int .i64 n)),(.c (.bool true))],h) else if (a0==10)=true then c1 (C 139 [(.c (.bool (a1 != a2)))] h0) fun y h=>Zi .i64 y fun n=>some ([(.c (.int .i64 n)),(.c (.bool true))],h) else if (a0==11)=true then c1 (C 139 [(.c (.bool (decide (a1<a2))))] h0) fun y h=>Zi .i64 y fun n=>some ([(.c (.int .i64 n)),(.c (.bool true))],h) else some ([(.c (.int .i64 0)),(.c (.bool false))],h0):=by kernel_rfl
theorem q139_eq:q139.body C L G [(.c (.bool b0))] h0=if b0=true then some ([(.c (.int .i64 1))],h0) else some ([(.c (.int .i64 0))],h0):=by kernel_rfl
end
structure Opd where
 reg:Int
 val:Int
 deriving DecidableEq
structure Ins where
 kind:Int
 reg:Int
 loc:Int
 a:Opd
 op:Int
 b:Opd
 n:Int
 deriving DecidableEq
structure Lcl where
 pc:Int
 r0:Int
 r1:Int
 r2:Int
 r3:Int
 deriving DecidableEq
def Opd.cs (o:Opd):List Cell:=[.int .i64 o.reg,.int .i64 o.val]
def Ins.cs (i:Ins):List Cell:=[.int .i64 i.kind,.int .i64 i.reg,.int .i64 i.loc,.int .i64 i.a.reg,.int .i64 i.a.val,.int .i64 i.op,.int .i64 i.b.reg,.int .i64 i.b.val,.int .i64 i.n]
def Lcl.cs (l:Lcl):List Cell:=[.int .i64 l.pc,.int .i64 l.r0,.int .i64 l.r1,.int .i64 l.r2,.int .i64 l.r3]
def Zai (l:List Ins):List Cell:=l.flatMap Ins.cs
def Ins.zero:Ins:=⟨0,0,0,⟨0,0⟩,0,⟨0,0⟩,0⟩
def Lcl.zero:Lcl:=⟨0,0,0,0,0⟩
theorem Ins.len (i:Ins):i.cs.length=9:=rfl
theorem Lcl.len (l:Lcl):l.cs.length=5:=rfl
theorem zero5:[ci0,ci0,ci0,ci0,ci0]=Lcl.zero.cs:=rfl
theorem Zoi:∀l:List Ins,(Zai l).length=l.length*9
 | []=>rfl
 | s :: l=>by simp only [Zai,Ybe,Yaz];rw [show (l.flatMap _).length=_ from Zoi l,Ins.len];simp;omega
theorem Zrg:∀(l:List Ins) (i:Nat) (s:Ins),l[i]? = some s->((Zai l).drop (i*9)).take 9=s.cs
 | [],_,_,h=>by simp at h
 | q :: l,0,s,h=>by simp at h;subst h;rfl
 | q :: l,i+1,s,h=>by
  have:=Zrg l i s (by simpa using h)
  have e:Zai (q :: l)=q.cs++Zai l:=rfl
  rw [e,Ybf,Yaq (by rw [Ins.len];omega),Ybh,show (i+1)*9 - q.cs.length=i*9 by rw [Ins.len];omega]
  exact this
theorem Zsh (l:List Ins) (s:Ins):Zai (l++[s])=Zai l++s.cs:=by simp [Zai]
theorem SlAt.insG {h:Za} {x:Cell} {l:List Ins} (s:SlAt h x 9 (Zai l) l.length) {i:Nat} {q:Ins} (hq:l[i]? = some q) :
  ∃off cs',(∀{α:Type} (G:Nat->List Cell->Option α),(Zm 9 x (i:Int) fun k N o=>Zn h k N fun l=>G o l)=G off cs')/\off+9<=cs'.length/\(cs'.drop off).take 9=q.cs:=by
 have hi:i<l.length:=by
  rcases Yaa i l.length with h | h
  ·exact h
  ·rw [Yg h] at hq;cases hq
 obtain ⟨off,cs',h1,h2,h3⟩:=s.elG hi
 exact ⟨off,cs',h1,h2,h3.trans (Zrg l i q hq)⟩
def Lcl.reg (l:Lcl) (i:Int):Int:=if i=0 then l.r0 else if i=1 then l.r1 else if i=2 then l.r2 else l.r3
def Lcl.setR (l:Lcl) (i v:Int):Lcl:=if i=0 then { l with r0:=v } else if i=1 then { l with r1:=v } else if i=2 then { l with r2:=v } else if i=3 then { l with r3:=v } else l
def opV (o:Opd) (l:Lcl):Int:=if 0<=o.reg/\o.reg<4 then l.reg o.reg else o.val
def GN:Glo:=Glo.std fun _=>[]
def doV (op a b:Int):Option Int :=
 if op=1 then some (GN.wrap .i64 (a+b)) else if op=2 then some (GN.wrap .i64 (a - b)) else if op=3 then some (GN.wrap .i64 (a*b))
 else if op=4 then some (GN.band .i64 a b) else if op=5 then some (GN.bor .i64 a b) else if op=6 then some (GN.bxor .i64 a b)
 else if op=7 then some (GN.shl .i64 a (GN.rem .u64 (GN.wrap .u64 b) 64)) else if op=8 then some (GN.shr .i64 a (GN.rem .u64 (GN.wrap .u64 b) 64))
 else if op=9 then some (if a=b then 1 else 0) else if op=10 then some (if a=b then 0 else 1) else if op=11 then some (if a<b then 1 else 0) else none
def Zdv (code:List Ins) (l:Lcl):Option Lcl :=
 if 0<=l.pc then match code[l.pc.toNat]? with
  | none=>none
  | some i =>
   if i.kind=5 then
    let m:=l.setR i.reg ((doV i.op (opV i.a l) (opV i.b l)).getD (opV i.a l))
    some { m with pc:=m.pc+1 }
   else if i.kind=6 then
    (if opV i.a l=opV i.b l then some { l with pc:=l.pc+min (max i.n 0) code.length+1 } else some { l with pc:=l.pc+1 })
   else none
 else none
def nrm (code:List Ins):Nat->Lcl->Lcl
 | 0,l=>l
 | k+1,l=>match Zdv code l with
  | none=>l
  | some l'=>nrm code k l'
def Zte (code:List Ins) (l:Lcl):Lcl:=nrm code code.length l
theorem Zs {α:Type} {l:List α} {i:Nat} {v:α} (h:l[i]? = some v):i<l.length:=by
 rcases Yaa i l.length with h1 | h1
 ·exact h1
 ·rw [Yg h1] at h;cases h
theorem Lcl.setR_pc (l:Lcl) (i v:Int):(l.setR i v).pc=l.pc:=by unfold Lcl.setR;repeat' split<;>try rfl
theorem Zjs {code:List Ins} {l l':Lcl} (h:Zdv code l=some l'):0<=l.pc/\l.pc<code.length/\l.pc<l'.pc/\l'.pc<=2*code.length:=by
 unfold Zdv at h
 split at h
 ·rename_i h0
  cases hi:code[l.pc.toNat]? with
  | none=>rw [hi] at h;cases h
  | some i =>
   rw [hi] at h
   have hlt:=Zs hi
   simp only at h
   split at h
   ·cases h
    have:=l.setR_pc i.reg ((doV i.op (opV i.a l) (opV i.b l)).getD (opV i.a l))
    refine ⟨h0,by omega,?_,?_⟩<;>simp only [this]<;>omega
   ·split at h
    ·split at h
     ·cases h;refine ⟨h0,by omega,?_,?_⟩<;>simp only<;>omega
     ·cases h;refine ⟨h0,by omega,?_,?_⟩<;>simp only<;>omega
    ·cases h
 ·cases h
section
variable {E:Env}
theorem lcl_get {l:Lcl} {i:Int} (h0:0<=i) (h1:i<4):l.cs[1+Yc i*1]? = some (.int .i64 (l.reg i)):=by
 have h:i=0∨i=1∨i=2∨i=3:=by omega
 rcases h with rfl | rfl | rfl | rfl<;>rfl
theorem Zpn {l:Lcl} {i v:Int} (h0:0<=i) (h1:i<4):l.cs.set (1+Yc i*1) (.int .i64 v)=(l.setR i v).cs:=by
 have h:i=0∨i=1∨i=2∨i=3:=by omega
 rcases h with rfl | rfl | rfl | rfl<;>rfl
theorem Zmu (hE:q108_In E) (o:Opd) (l:Lcl) (h:Za):R E 108 [.agg o.cs,.agg l.cs] h=some ([.c (.int .i64 (opV o l))],h):=by
 refine Zd hE.fn ?_
 have a0:∀{α:Type} (f:Cell->Option α),Zf o.cs 0 f=f (.int .i64 o.reg):=fun _=>rfl
 have a1:∀{α:Type} (f:Cell->Option α),Zf o.cs 1 f=f (.int .i64 o.val):=fun _=>rfl
 unfold opV
 rw [q108_eq]
 simp only [a0,a1,asI_ok,scK_and]
 by_cases h1:0<=o.reg/\o.reg<4
 ·rw [if_pos (by simp;exact h1),if_pos ⟨h1.1,h1.2⟩,if_pos h1,Zak (lcl_get h1.1 h1.2),asI_ok]
 ·rw [if_neg (by simp;omega),if_neg h1]
theorem set_R (hE:q124_In E) (i v:Int) {l:Lcl} {k:Nat} {h:Za} (hk:blk? h k=some ⟨true,0,l.cs⟩) :
  R E 124 [.c (.ptr k 5 0),.c (.int .i64 i),.c (.int .i64 v)] h=some ([],setBlk h k (some ⟨true,0,(l.setR i v).cs⟩)):=by
 refine Zd hE.fn ?_
 rw [q124_eq,scK_and]
 by_cases h1:0<=i/\i<4
 ·rw [if_pos (by simp;exact h1),if_pos ⟨h1.1,h1.2⟩,Zq hk (Lcl.len l),if_pos (by rw [Lcl.len];omega),show 0+1+Yc i*1=1+Yc i*1 by omega,Zpn h1.1 h1.2,Zct hk rfl]
 ·have e:l.setR i v=l:=by unfold Lcl.setR;rw [if_neg (by omega),if_neg (by omega),if_neg (by omega),if_neg (by omega)]
  have e2:setBlk h k (some ⟨true,0,l.cs⟩)=h:=by
   refine Yak fun j=>?_
   unfold setBlk
   rw [Ybc]
   by_cases hj:k=j
   ·subst hj
    rw [if_pos rfl,if_pos (Zar hk)]
    unfold blk? at hk
    cases hh:h[k]? with
    | none=>rw [hh] at hk;cases hk
    | some b=>rw [hh] at hk;simp at hk;rw [hk]
   ·rw [if_neg hj]
  rw [if_neg (by simp;omega),e,e2]
theorem one_R (hE:q139_In E) (b:Bool) (h:Za):R E 139 [.c (.bool b)] h=some ([.c (.int .i64 (if b=true then 1 else 0))],h):=by
 refine Zd hE.fn ?_
 rw [q139_eq]
 cases b<;>rfl
theorem Do_R (hE:q125_In E) (op a b:Int) (h:Za):R E 125 [.c (.int .i64 op),.c (.int .i64 a),.c (.int .i64 b)] h=some ([.c (.int .i64 ((doV op a b).getD 0)),.c (.bool (doV op a b).isSome)],h):=by
 refine Zd hE.fn ?_
 rw [q125_eq]
 simp only [one_R hE.c139,c1_ok,asI_ok]
 have hr:∀x:Int,¬E.glob.rem .u64 (E.glob.wrap .u64 x) 64<0:=by
  intro x
  show ¬Int.tmod (IntKind.wrap .u64 x) 64<0
  have h0:0<=IntKind.wrap .u64 x:=by
   simp only [IntKind.wrap,IntKind.signed,IntKind.bits,Yaf,Yz,if_false]
   exact Yad _ (by omega)
  rw [Yaj h0]
  have:=Yad (IntKind.wrap .u64 x) (b:=64) (by omega)
  omega
 simp only [hr,if_false]
 unfold doV
 have key:∀k:Int,((op==k)=true)=(op=k):=fun k=>by rw [beq_iff_eq]
 simp only [key]
 by_cases h1:op=1
 ·simp only [if_pos h1];rfl
 simp only [if_neg h1]
 by_cases h2:op=2
 ·simp only [if_pos h2];rfl
 simp only [if_neg h2]
 by_cases h3:op=3
 ·simp only [if_pos h3];rfl
 simp only [if_neg h3]
 by_cases h4:op=4
 ·simp only [if_pos h4];rfl
 simp only [if_neg h4]
 by_cases h5:op=5
 ·simp only [if_pos h5];rfl
 simp only [if_neg h5]
 by_cases h6:op=6
 ·simp only [if_pos h6];rfl
 simp only [if_neg h6]
 by_cases h7:op=7
 ·simp only [if_pos h7];rfl
 simp only [if_neg h7]
 by_cases h8:op=8
 ·simp only [if_pos h8];rfl
 simp only [if_neg h8]
 by_cases h9:op=9
 ·simp only [if_pos h9];(by_cases hab:a=b<;>simp [hab])
 simp only [if_neg h9]
 by_cases h10:op=10
 ·simp only [if_pos h10];(by_cases hab:a=b<;>simp [hab])
 simp only [if_neg h10]
 by_cases h11:op=11
 ·simp only [if_pos h11];(by_cases hab:a<b<;>simp [hab])
 simp only [if_neg h11]
 rfl
end
section
theorem clK_ge {n:Nat} {f:Nat->Nat} {a:Nat} (ha:n<=a):∀k,clK n f k a=f a
 | 0=>rfl
 | k+1=>by rw [clK,cl1_eq,if_neg (by omega),clK_ge ha k]
theorem Zfr {n:Nat} {f:Nat->Nat} (ff:Fit n f) (a b:Nat):(clK n f n a).testBit b=true↔Way f n a b:=by
 rcases Yaa a n with ha | ha
 ·exact clK_way n f n (Ym _) a b ha
 ·rw [clK_ge ha]
  constructor
  ·exact fun h=>.one h
  ·intro w
   have:a<n:=by
    cases w with
    | one h=>exact (ff _ _ h).1
    | step h _ _=>exact (ff _ _ h).1
   omega
theorem way_fit {n:Nat} {f:Nat->Nat} (ff:Fit n f) {a b:Nat} (w:Way f n a b):a<n/\b<n:=by
 induction w with
 | one h=>exact ff _ _ h
 | step h _ _ ih=>exact ⟨(ff _ _ h).1,ih.2⟩
theorem clK_fit {n:Nat} {f:Nat->Nat} (ff:Fit n f):Fit n (clK n f n):=fun a b h=>way_fit ff ((Zfr ff a b).1 h)
theorem way_way {n:Nat} {f:Nat->Nat} (ff:Fit n f) {a b:Nat}:Way (clK n f n) n a b↔Way f n a b:=by
 constructor
 ·intro w
  induction w with
  | one h=>exact (Zfr ff _ _).1 h
  | step h hc _ ih=>exact ((Zfr ff _ _).1 h).trans hc ih
 ·intro w;exact .one ((Zfr ff _ _).2 w)
variable {E:Env}
end
section
theorem Zbi {n m:Nat} (hm:n<=m):∀{x:Cell},Low n x->Low m x:=by
 intro x h
 unfold Low at *
 split<;>simp_all
 omega
def ACC (r:Nat) (q:Nat->Nat->Bool):Nat->Nat:=fun a=>mkN fun b=>decide (a<r)&&decide (b<r)&&q a b
theorem Zjf (r:Nat) (q:Nat->Nat->Bool):Zem (ACC r q):=fun _=>mkN_lt _
theorem Zkz {r:Nat} (hr:r<=64) (q:Nat->Nat->Bool) (a b:Nat):(ACC r q a).testBit b=(decide (a<r)&&decide (b<r)&&q a b):=by
 unfold ACC
 rw [Zxp,Yv]
 simp only [Yd,decide_eq_true_eq]
 constructor
 ·rintro ⟨_,h⟩;exact h
 ·rintro h;exact ⟨by omega,h⟩
theorem Zuy {r:Nat} (hr:r<=64) (q:Nat->Nat->Bool):Fit r (ACC r q):=fun a b h=>by
 rw [Zkz hr] at h;simp only [Yd,decide_eq_true_eq] at h;exact h.1
theorem Zej {r:Nat} (hr:r<=64) {q q':Nat->Nat->Bool} (h:∀a b,a<r->b<r->q a b=q' a b):Zp r (ACC r q)=Zp r (ACC r q'):=Zwe (Zjf _ _) (Zjf _ _) fun a b=>by
 rw [Zkz hr,Zkz hr]
 simp only [Yd,decide_eq_true_eq]
 constructor
 ·rintro ⟨⟨h1,h2⟩,h3⟩;exact ⟨⟨h1,h2⟩,by rw [←h a b h1 h2];exact h3⟩
 ·rintro ⟨⟨h1,h2⟩,h3⟩;exact ⟨⟨h1,h2⟩,by rw [h a b h1 h2];exact h3⟩
theorem Zpv {r:Nat} (hr:r<=64) {q q':Nat->Nat->Bool} {i j:Nat} (hi:i<r) (hj:j<r) (h:∀a b,a<r->b<r->q' a b=(q a b||(decide (a=i)&&decide (b=j)))) :
  Zp r (Zss r (ACC r q) (i:Int) (j:Int))=Zp r (ACC r q'):=Zwe (Zq750 (Zjf _ _) _ _) (Zjf _ _) fun a b=>by
 rw [addR_bit hr,Zkz hr,Zkz hr,inR_nat,inR_nat,show decide (i<r)=true by simpa using hi,show decide (j<r)=true by simpa using hj]
 simp only [Yd,Yq,decide_eq_true_eq,Yr]
 constructor
 ·rintro (⟨⟨h1,h2⟩,h3⟩ | ⟨h1,h2⟩)
  ·exact ⟨⟨h1,h2⟩,by rw [h a b h1 h2,h3];rfl⟩
  ·have h1:a=i:=(Int.ofNat.inj h1).symm
   have h2:b=j:=(Int.ofNat.inj h2).symm
   subst h1;subst h2
   exact ⟨⟨hi,hj⟩,by rw [h a b hi hj];simp⟩
 ·rintro ⟨⟨h1,h2⟩,h3⟩
  rw [h a b h1 h2] at h3
  simp only [Yq,Yd,decide_eq_true_eq] at h3
  rcases h3 with h3 | ⟨rfl,rfl⟩
  ·exact .inl ⟨⟨h1,h2⟩,h3⟩
  ·exact .inr ⟨rfl,rfl⟩
theorem Zys {r:Nat} (hr:r<=64) {q:Nat->Nat->Bool} (h:∀a b,a<r->b<r->q a b=false):Zp r (ACC r q)=Zp r fun _=>0:=Zwe (Zjf _ _) Zq703 fun a b=>by
 rw [Zkz hr]
 simp only [Yd,decide_eq_true_eq,Nat.zero_testBit]
 constructor
 ·rintro ⟨⟨h1,h2⟩,h3⟩;rw [h a b h1 h2] at h3;exact h3
 ·intro h;cases h
variable {E:Env}
def upto (i j a b:Nat):Bool:=decide (a<i)||(decide (a=i)&&decide (b<j))
end
section
variable {E:Env}
theorem rdL {α:Type} {h:Za} {k:Nat} {l:Lcl} (hk:blk? h k=some ⟨true,0,l.cs⟩) {F:List Cell->Option α}:Zn h k 5 F=F l.cs:=Zq hk rfl
theorem lcl_pc {α:Type} {l:Lcl} {f:Cell->Option α}:Zf l.cs 0 f=f (.int .i64 l.pc):=rfl
theorem lcl_pc' {α:Type} {l:Lcl} {f:Cell->Option α}:Zf l.cs (0+0) f=f (.int .i64 l.pc):=rfl
theorem lcl_setpc {l:Lcl} {v:Int}:l.cs.set 0 (.int .i64 v)=({ l with pc:=v }:Lcl).cs:=rfl
theorem lcl_setpc' {l:Lcl} {v:Int}:l.cs.set (0+0) (.int .i64 v)=({ l with pc:=v }:Lcl).cs:=rfl
theorem ins_kind {α:Type} {i:Ins} {f:Cell->Option α}:Zf i.cs 0 f=f (.int .i64 i.kind):=rfl
theorem ins_reg {α:Type} {i:Ins} {f:Cell->Option α}:Zf i.cs 1 f=f (.int .i64 i.reg):=rfl
theorem ins_loc {α:Type} {i:Ins} {f:Cell->Option α}:Zf i.cs 2 f=f (.int .i64 i.loc):=rfl
theorem ins_op {α:Type} {i:Ins} {f:Cell->Option α}:Zf i.cs 5 f=f (.int .i64 i.op):=rfl
theorem ins_n {α:Type} {i:Ins} {f:Cell->Option α}:Zf i.cs 8 f=f (.int .i64 i.n):=rfl
theorem ins_a {i:Ins}:(i.cs.drop 3).take 2=i.a.cs:=rfl
theorem ins_b {i:Ins}:(i.cs.drop 6).take 2=i.b.cs:=rfl
theorem Zyy (m:Nat) (l:Lcl):Zls m (.agg l.cs)=true:=by simp [Zls,AV.cells,Lcl.cs,Zcq]
theorem Znd (hE:q114_In E) {x:Cell} {code:List Ins} {h:Za} (hlen:code.length<4000000000000000000) (z:List Cell) (l:Lcl) (hx:SlAt (h++[some ⟨true,0,l.cs⟩]) x 9 (Zai code) code.length) :
  q114_F1 (R E) Zx E.glob (q114_s1 x h.length 5 0 z (h++[some ⟨true,0,l.cs⟩]))=match Zdv code l with
   | some l'=>some (.normal,q114_s1 x h.length 5 0 z (h++[some ⟨true,0,l'.cs⟩]))
   | none=>if 0<=l.pc/\l.pc<code.length then (if z.length=5 then some (.ret,q114_x1_0 l.cs (h++[some ⟨true,0,l.cs⟩])) else none) else some (.exit 0,q114_x1_1 h.length 5 0 z (h++[some ⟨true,0,l.cs⟩])):=by
 have hb:∀l:Lcl,blk? (h++[some ⟨true,0,l.cs⟩]) h.length=some ⟨true,0,l.cs⟩:=fun l=>Zaa _ _
 rw [q114_r1,rdL (hb l),lcl_pc',asI_ok]
 by_cases h0:0<=l.pc
 ·rw [show decide (l.pc>=0)=true from decide_eq_true h0,scK_ok,rdL (hb l),lcl_pc',asI_ok,hx.len,bind_ok]
  dsimp only
  by_cases h1:l.pc<code.length
  ·obtain ⟨p,hp⟩:∃p:Nat,l.pc=(p:Int):=⟨l.pc.toNat,by omega⟩
   have hpl:p<code.length:=by omega
   have hq:code[p]? = some code[p]:=Yj hpl
   generalize code[p]=i at hq
   obtain ⟨off,cs',hG0,hle,hcs⟩:=hx.insG hq
   have hG:∀{α:Type} (G:Nat->List Cell->Option α),(Zm 9 x l.pc fun k N o=>Zn (h++[some ⟨true,0,l.cs⟩]) k N fun l=>G o l)=G off cs':=by intro α G;rw [hp];exact hG0 G
   have hst:Zdv code l=if i.kind=5 then
     some { (l.setR i.reg ((doV i.op (opV i.a l) (opV i.b l)).getD (opV i.a l))) with pc:=(l.setR i.reg ((doV i.op (opV i.a l) (opV i.b l)).getD (opV i.a l))).pc+1 }
    else if i.kind=6 then (if opV i.a l=opV i.b l then some { l with pc:=l.pc+min (max i.n 0) code.length+1 } else some { l with pc:=l.pc+1 }) else none:=by
    unfold Zdv
    rw [if_pos h0,show l.pc.toNat=p by omega,hq]
   rw [hst,if_pos (decide_eq_true h1),rdL (hb l),lcl_pc',asI_ok,hG,if_pos hle,hcs,if_pos ⟨rfl,rfl,rfl⟩,if_pos (show 3+2<=i.cs.length by rw [Ins.len];omega),rdL (hb l),if_pos ⟨rfl,rfl⟩,ins_a,Zmu hE.c108,qh_ok,c1_ok,asI_ok,if_pos (show 6+2<=i.cs.length by rw [Ins.len];omega),rdL (hb l),if_pos ⟨rfl,rfl⟩,ins_b,Zmu hE.c108,qh_ok,c1_ok,asI_ok,ins_kind,asI_ok]
   by_cases k5:i.kind=5
   ·rw [if_pos (by rw [k5];rfl),if_pos k5,ins_op,asI_ok,Do_R hE.c125,c2_ok,asI_ok,asB_ok]
    cases hd:doV i.op (opV i.a l) (opV i.b l) with
    | some v =>
     have hpc:=l.setR_pc i.reg v
     rw [show (some v:Option Int).isSome=true from rfl,if_pos rfl,ins_reg,asI_ok,set_R hE.c124 _ _ (hb l),setBlk_last,c0_ok,rdL (hb _),lcl_pc',asI_ok,rdL (hb _),if_pos (by rw [Lcl.len];omega),lcl_setpc',Zct (hb _) rfl,setBlk_last]
     rw [show (some v:Option Int).getD 0=v from rfl,show (some v:Option Int).getD (opV i.a l)=v from rfl,hpc,Zg (x:=l.pc+1) (by omega) (by omega)]
    | none =>
     have hpc:=l.setR_pc i.reg (opV i.a l)
     rw [show (none:Option Int).isSome=false from rfl,if_neg (by simp),ins_reg,asI_ok,set_R hE.c124 _ _ (hb l),setBlk_last,c0_ok,rdL (hb _),lcl_pc',asI_ok,rdL (hb _),if_pos (by rw [Lcl.len];omega),lcl_setpc',Zct (hb _) rfl,setBlk_last]
     rw [show (none:Option Int).getD (opV i.a l)=opV i.a l from rfl,hpc,Zg (x:=l.pc+1) (by omega) (by omega)]
   ·rw [if_neg (by rw [beq_iff_eq];exact k5),if_neg k5]
    by_cases k6:i.kind=6
    ·rw [if_pos (by rw [k6];rfl),if_pos k6]
     by_cases hab:opV i.a l=opV i.b l
     ·have hv:(if (code.length:Int)<(if 0 > i.n then 0 else i.n) then (code.length:Int) else (if 0 > i.n then 0 else i.n))=min (max i.n 0) code.length:=by
       split<;>split at *<;>omega
      rw [if_pos (by rw [hab];exact beq_self_eq_true _),if_pos hab,rdL (hb l),lcl_pc',asI_ok,ins_n,asI_ok,hx.len]
      dsimp only
      rw [hv,rdL (hb l),if_pos (by rw [Lcl.len];omega),lcl_setpc',Zct (hb _) rfl,setBlk_last,rdL (hb _),lcl_pc',asI_ok,rdL (hb _),if_pos (by rw [Lcl.len];omega),lcl_setpc',Zct (hb _) rfl,setBlk_last]
      dsimp only
      rw [Zg (x:=l.pc+min (max i.n 0) code.length) (by omega) (by omega),Zg (x:=l.pc+min (max i.n 0) code.length+1) (by omega) (by omega)]
     ·rw [if_neg (by rw [beq_iff_eq];exact hab),if_neg hab,rdL (hb l),lcl_pc',asI_ok,rdL (hb l),if_pos (by rw [Lcl.len];omega),lcl_setpc',Zct (hb _) rfl,setBlk_last,Zg (x:=l.pc+1) (by omega) (by omega)]
    ·rw [if_neg (by rw [beq_iff_eq];exact k6),if_neg k6,rdL (hb l),if_pos ⟨rfl,rfl⟩]
     dsimp only
     rw [if_pos (show 0<=l.pc/\l.pc<code.length from ⟨h0,h1⟩)]
     by_cases hz:z.length=5
     ·rw [if_pos ⟨rfl,hz,rfl⟩,if_pos hz]
     ·rw [if_neg (fun q=>hz q.2.1),if_neg hz]
  ·have hst:Zdv code l=none:=by
    unfold Zdv
    rw [if_pos h0,Yg (by omega)]
   rw [hst,if_neg (by simpa using h1)]
   dsimp only
   rw [if_neg (fun q=>h1 q.2)]
 ·have hst:Zdv code l=none:=by unfold Zdv;rw [if_neg h0]
  rw [hst,show decide (l.pc>=0)=false from decide_eq_false h0,scK_ft,if_neg (by simp)]
  dsimp only
  rw [if_neg (fun q=>h0 q.1)]
theorem Zrv (hE:q114_In E) {x:Cell} {code:List Ins} {h:Za} (hlen:code.length<4000000000000000000) (hx:SlAt h x 9 (Zai code) code.length) (hlow:Low h.length x) (l:Lcl) :
  R E 114 [.c x,.agg l.cs] h=some ([.agg (Zte code l).cs],h):=by
 refine Zd hE.fn ?_
 have hx':∀l:Lcl,SlAt (h++[some ⟨true,0,l.cs⟩]) x 9 (Zai code) code.length:=fun l=>hx.keep hlow (Kp.app _ (Ym _))
 have hb:∀l:Lcl,blk? (h++[some ⟨true,0,l.cs⟩]) h.length=some ⟨true,0,l.cs⟩:=fun l=>Zaa _ _
 have loop:∀(k:Nat) (l:Lcl),(0<=l.pc->(code.length:Int)<=l.pc+k)->(Zx (q114_F1 (R E) Zx E.glob) (q114_s1 x h.length 5 0 Lcl.zero.cs (h++[some ⟨true,0,l.cs⟩]))).bind (fun p=>q114_k3 (R E) Zx E.glob h p.1 p.2)=some ([.agg (nrm code k l).cs],h):=by
  intro k
  have stop:∀l:Lcl,Zdv code l=none->(Zx (q114_F1 (R E) Zx E.glob) (q114_s1 x h.length 5 0 Lcl.zero.cs (h++[some ⟨true,0,l.cs⟩]))).bind (fun p=>q114_k3 (R E) Zx E.glob h p.1 p.2)=some ([.agg l.cs],h):=by
   intro l hs
   have hr:=Znd hE hlen Lcl.zero.cs l (hx' l)
   rw [hs] at hr
   dsimp only at hr
   have fin:Zbe true h [.agg l.cs] (h++[some ⟨true,0,l.cs⟩])=some ([.agg l.cs],h):=Zgu (Kp.app _ (Ym _)) (by simp [Zyy])
   split at hr
   ·rw [if_pos (show Lcl.zero.cs.length=5 from rfl)] at hr
    rw [Zeb hr,bind_ok,q114_e1_0,if_pos ⟨rfl,rfl⟩,fin]
   ·rw [Zl hr,bind_ok,q114_e1_1,rdL (hb l),if_pos ⟨rfl,rfl⟩,if_pos ⟨rfl,rfl,rfl⟩,if_pos ⟨rfl,rfl⟩,fin]
  induction k with
  | zero =>
   intro l hk
   rw [nrm]
   refine stop l ?_
   cases hs:Zdv code l with
   | none=>rfl
   | some l'=>have:=Zjs hs;have:=hk this.1;omega
  | succ k ih =>
   intro l hk
   rw [nrm]
   cases hs:Zdv code l with
   | none=>exact stop l hs
   | some l' =>
    have hr:=Znd hE hlen Lcl.zero.cs l (hx' l)
    rw [hs] at hr
    have h3:=Zjs hs
    have:=ih l' (fun _=>by have:=hk h3.1;omega)
    cases hL:Zx (q114_F1 (R E) Zx E.glob) (q114_s1 x h.length 5 0 Lcl.zero.cs (h++[some ⟨true,0,l'.cs⟩])) with
    | none=>rw [hL] at this;cases this
    | some p=>rw [Zbk hr hL];rw [hL] at this;exact this
 have hc:AV.cells (.agg l.cs)=l.cs:=rfl
 rw [q114_eq,hc,Lcl.len]
 exact loop code.length l (fun _=>by omega)
structure PProg where
 locs:List Int
 init:List Int
 thr:List (List Ins)
def ProgAt (h:Za) (cs:List Cell) (P:PProg):Prop :=
 ∃a b c ts,cs=[a,b,c]/\(SlAt h a 1 (intC .u8 P.locs) P.locs.length/\Low h.length a)/\(SlAt h b 1 (intC .i64 P.init) P.init.length/\Low h.length b)/\(SlAt h c 1 ts P.thr.length/\Low h.length c) /\
  ∀(t:Nat) (code:List Ins),P.thr[t]? = some code->∃x:Cell,ts[t]? = some x/\SlAt h x 9 (Zai code) code.length/\Low h.length x
theorem ProgAt.len {h:Za} {cs:List Cell} {P:PProg} (p:ProgAt h cs P):cs.length=3:=by
 obtain ⟨a,b,c,ts,rfl,_⟩:=p;rfl
theorem ProgAt.keep {h h':Za} {cs:List Cell} {P:PProg} (p:ProgAt h cs P) (hk:Kp h.length h h'):ProgAt h' cs P:=by
 obtain ⟨a,b,c,ts,e,⟨a1,a2⟩,⟨b1,b2⟩,⟨c1,c2⟩,ht⟩:=p
 exact ⟨a,b,c,ts,e,⟨a1.keep a2 hk,Zbi hk.1 a2⟩,⟨b1.keep b2 hk,Zbi hk.1 b2⟩,⟨c1.keep c2 hk,Zbi hk.1 c2⟩,fun t code h1=>by
  obtain ⟨x,x1,x2,x3⟩:=ht t code h1
  exact ⟨x,x1,x2.keep x3 hk,Zbi hk.1 x3⟩⟩
def PProg.fits (P:PProg):Prop:=P.thr.length<4000000000000000000/\∀code∈P.thr,code.length<4000000000000000000
def PProg.code (P:PProg) (t:Int):List Ins:=if 0<=t then P.thr.getD t.toNat [] else []
theorem PProg.code_fits {P:PProg} (hf:P.fits) (t:Int):(P.code t).length<4000000000000000000:=by
 unfold PProg.code
 split
 ·rw [Yf]
  cases h:P.thr[t.toNat]? with
  | none=>show (0:Nat)<_;omega
  | some c=>exact hf.2 c (Ys h)
 ·show (0:Nat)<_;omega
theorem Zmi (hE:q113_In E) {cs:List Cell} {P:PProg} {h:Za} (p:ProgAt h cs P) (t:Int) :
  ∃x,R E 113 [.agg cs,.c (.int .i64 t)] h=some ([.c x],h)/\SlAt h x 9 (Zai (P.code t)) (P.code t).length/\Low h.length x:=by
 obtain ⟨a,b,c,ts,rfl,_,_,⟨hc,hcl⟩,ht⟩:=p
 have a2:∀{α:Type} (f:Cell->Option α),Zf [a,b,c] 2 f=f c:=fun _=>rfl
 by_cases h0:0<=t
 ·by_cases h1:t.toNat<P.thr.length
  ·have hg:P.thr[t.toNat]? = some P.thr[t.toNat]:=Yj h1
   generalize P.thr[t.toNat]=code at hg
   obtain ⟨x,x1,x2,x3⟩:=ht _ _ hg
   have hcode:P.code t=code:=by unfold PProg.code;rw [if_pos h0,Yf,hg];rfl
   rw [hcode]
   refine ⟨x,Zd hE.fn ?_,x2,x3⟩
   have hti:t=((t.toNat:Nat):Int):=by omega
   rw [q113_eq,show decide (t<0)=false from decide_eq_false (by omega),scK_ok,a2,hc.len,show decide (t>=(P.thr.length:Int))=false from decide_eq_false (by omega),bind_ok]
   dsimp only
   rw [if_neg (by simp),a2,hc.getAt t.toNat hti h1 x1]
  ·have hcode:P.code t=[]:=by unfold PProg.code;rw [if_pos h0,Yf,Yg (by omega)];rfl
   rw [hcode]
   refine ⟨.nils,Zd hE.fn ?_,⟨rfl,.inl ⟨rfl,rfl⟩⟩,trivial⟩
   rw [q113_eq,show decide (t<0)=false from decide_eq_false (by omega),scK_ok,a2,hc.len,show decide (t>=(P.thr.length:Int))=true from decide_eq_true (by omega),bind_ok]
   dsimp only
   rw [if_pos rfl]
 ·have hcode:P.code t=[]:=by unfold PProg.code;rw [if_neg h0]
  rw [hcode]
  refine ⟨.nils,Zd hE.fn ?_,⟨rfl,.inl ⟨rfl,rfl⟩⟩,trivial⟩
  rw [q113_eq,show decide (t<0)=true from decide_eq_true (by omega),scK_tf,if_pos rfl]
def Zam (P:PProg) (t:Int):Lcl:=Zte (P.code t) Lcl.zero
theorem PStart_R (hE:q94_In E) {cs:List Cell} {P:PProg} {h:Za} (hf:P.fits) (p:ProgAt h cs P) (t:Int) :
  R E 94 [.agg cs,.c (.int .i64 t)] h=some ([.agg (Zam P t).cs],h):=by
 refine Zd hE.fn ?_
 obtain ⟨x,hr,hx,hl⟩:=Zmi hE.c113 p t
 rw [q94_eq,if_pos ⟨rfl,p.len⟩,hr,c1_ok,asC_ok,zero5,Zrv hE.c114 (PProg.code_fits hf t) hx hl,c1_ok,asA_ok,if_pos ⟨rfl,rfl,rfl⟩,if_pos ⟨rfl,rfl⟩]
 rfl
def Zbx (code:List Ins) (l:Lcl):Option Ins :=
 if 0<=l.pc then match code[l.pc.toNat]? with
  | none=>none
  | some i=>if 1<=i.kind/\i.kind<=4 then some i else none
 else none
theorem Zlj {code:List Ins} {l:Lcl} {i:Ins} (h:Zbx code l=some i):0<=l.pc/\l.pc<code.length/\code[l.pc.toNat]? = some i/\1<=i.kind/\i.kind<=4:=by
 unfold Zbx at h
 split at h
 ·rename_i h0
  cases hi:code[l.pc.toNat]? with
  | none=>rw [hi] at h;cases h
  | some j =>
   rw [hi] at h
   simp only at h
   split at h
   ·cases h
    have:=Zs hi
    rename_i hk
    exact ⟨h0,by omega,rfl,hk⟩
   ·cases h
 ·cases h
theorem Zwi (hE:q105_In E) {cs:List Cell} {P:PProg} {h:Za} (p:ProgAt h cs P) (t:Int) (l:Lcl) :
  R E 105 [.agg cs,.c (.int .i64 t),.agg l.cs] h=some ([.agg ((Zbx (P.code t) l).getD Ins.zero).cs,.c (.bool (Zbx (P.code t) l).isSome)],h):=by
 refine Zd hE.fn ?_
 obtain ⟨x,hr,hx,hlo⟩:=Zmi hE.c113 p t
 generalize P.code t=code at *
 rw [q105_eq,if_pos ⟨rfl,p.len⟩,hr,c1_ok,asC_ok,lcl_pc,asI_ok]
 by_cases h0:0<=l.pc
 ·rw [show decide (l.pc<0)=false from decide_eq_false (by omega),scK_ok,lcl_pc,asI_ok,hx.len,bind_ok]
  dsimp only
  by_cases h1:l.pc<code.length
  ·obtain ⟨q,hq⟩:∃q:Nat,l.pc=(q:Int):=⟨l.pc.toNat,by omega⟩
   have hql:q<code.length:=by omega
   have hg:code[q]? = some code[q]:=Yj hql
   generalize code[q]=i at hg
   obtain ⟨off,cs',hG0,hle,hcs⟩:=hx.insG hg
   have hG:∀{α:Type} (G:Nat->List Cell->Option α),(Zm 9 x l.pc fun k N o=>Zn h k N fun l=>G o l)=G off cs':=by intro α G;rw [hq];exact hG0 G
   have hn:Zbx code l=if 1<=i.kind/\i.kind<=4 then some i else none:=by
    unfold Zbx
    rw [if_pos h0,show l.pc.toNat=q by omega,hg]
   rw [show decide (l.pc>=(code.length:Int))=false from decide_eq_false (by omega),if_neg (by simp),lcl_pc,asI_ok,hG,if_pos hle,hcs,if_pos ⟨rfl,rfl,rfl⟩,ins_kind,asI_ok,ins_kind,asI_ok,scK_or,hn]
   by_cases hk:1<=i.kind/\i.kind<=4
   ·rw [if_neg (by simp;omega),if_pos hk,if_pos ⟨rfl,rfl⟩,if_pos ⟨rfl,rfl,rfl⟩,if_pos ⟨rfl,rfl⟩];rfl
   ·rw [if_pos (by simp;omega),if_neg hk,if_pos ⟨rfl,rfl,rfl⟩,if_pos ⟨rfl,rfl⟩];rfl
  ·have hn:Zbx code l=none:=by unfold Zbx;rw [if_pos h0,Yg (by omega)]
   rw [show decide (l.pc>=(code.length:Int))=true from decide_eq_true (by omega),if_pos rfl,hn,if_pos ⟨rfl,rfl,rfl⟩,if_pos ⟨rfl,rfl⟩];rfl
 ·have hn:Zbx code l=none:=by unfold Zbx;rw [if_neg h0]
  rw [show decide (l.pc<0)=true from decide_eq_true (by omega),scK_tf,if_pos rfl,hn,if_pos ⟨rfl,rfl,rfl⟩,if_pos ⟨rfl,rfl⟩];rfl
def Zcd (code:List Ins) (l:Lcl) (v:Int):Lcl:=match Zbx code l with
 | none=>l
 | some i=>Zte code { (if i.kind=2∨i.kind=4 then l.setR i.reg v else l) with pc:=l.pc+1 }
theorem Zri (hE:q106_In E) {cs:List Cell} {P:PProg} {h:Za} (hf:P.fits) (p:ProgAt h cs P) (t:Int) (l:Lcl) (v:Int) :
  R E 106 [.agg cs,.c (.int .i64 t),.agg l.cs,.c (.int .i64 v)] h=some ([.agg (Zcd (P.code t) l v).cs],h):=by
 refine Zd hE.fn ?_
 have hK:∀b,Kp h.length h (h++[some b]):=fun b=>Kp.app _ (Ym _)
 have p':∀b,ProgAt (h++[some b]) cs P:=fun b=>p.keep (hK b)
 have hb:∀l:Lcl,blk? (h++[some ⟨true,0,l.cs⟩]) h.length=some ⟨true,0,l.cs⟩:=fun l=>Zaa _ _
 have fin:∀(m l:Lcl),Zbe true h [.agg m.cs] (h++[some ⟨true,0,l.cs⟩])=some ([.agg m.cs],h):=fun m l=>Zgu (hK _) (by simp [Zyy])
 have hc:AV.cells (.agg l.cs)=l.cs:=rfl
 have hfit:=PProg.code_fits hf t
 rw [q106_eq,if_pos ⟨rfl,p.len⟩,hc,Lcl.len,rdL (hb l),if_pos ⟨rfl,rfl⟩,Zwi hE.c105 (p' _),c2_ok,asA_ok,asB_ok,if_pos ⟨rfl,rfl,rfl⟩]
 unfold Zcd
 cases hn:Zbx (P.code t) l with
 | none =>
  rw [show (none:Option Ins).isSome=false from rfl,if_pos (show (!false)=true from rfl),rdL (hb l),if_pos ⟨rfl,rfl⟩,if_pos ⟨rfl,rfl,rfl⟩,if_pos ⟨rfl,rfl⟩,fin]
 | some i =>
  obtain ⟨n0,n1,n2,n3,n4⟩:=Zlj hn
  rw [show (some i:Option Ins).isSome=true from rfl,if_neg (by simp),show (some i:Option Ins).getD Ins.zero=i from rfl,ins_kind,asI_ok,ins_kind,asI_ok,scK_or]
  by_cases hk:i.kind=2∨i.kind=4
  ·have hpc:=l.setR_pc i.reg v
   obtain ⟨x,hr,hx,hlo⟩:=Zmi hE.c113 (p' ⟨true,0,({ (l.setR i.reg v) with pc:=l.pc+1 }:Lcl).cs⟩) t
   rw [if_pos (by rw [Yq,beq_iff_eq,beq_iff_eq];exact hk),ins_reg,asI_ok,set_R hE.c124 _ _ (hb l),setBlk_last,c0_ok,rdL (hb _),lcl_pc,asI_ok,rdL (hb _),if_pos (by rw [Lcl.len];omega),lcl_setpc,Zct (hb _) rfl,setBlk_last,if_pos ⟨rfl,p.len⟩,hpc,Zg (x:=l.pc+1) (by omega) (by omega),hr,qh_ok,c1_ok,asC_ok,rdL (hb _),if_pos ⟨rfl,rfl⟩,Zrv hE.c114 hfit hx hlo,qh_ok,c1_ok,asA_ok,if_pos ⟨rfl,rfl,rfl⟩,if_pos ⟨rfl,rfl⟩,fin]
   dsimp only
   rw [if_pos hk]
  ·obtain ⟨x,hr,hx,hlo⟩:=Zmi hE.c113 (p' ⟨true,0,({ l with pc:=l.pc+1 }:Lcl).cs⟩) t
   rw [if_neg (by rw [Yq,beq_iff_eq,beq_iff_eq];exact hk),rdL (hb _),lcl_pc,asI_ok,rdL (hb _),if_pos (by rw [Lcl.len];omega),lcl_setpc,Zct (hb _) rfl,setBlk_last,if_pos ⟨rfl,p.len⟩,Zg (x:=l.pc+1) (by omega) (by omega),hr,qh_ok,c1_ok,asC_ok,rdL (hb _),if_pos ⟨rfl,rfl⟩,Zrv hE.c114 hfit hx hlo,qh_ok,c1_ok,asA_ok,if_pos ⟨rfl,rfl,rfl⟩,if_pos ⟨rfl,rfl⟩,fin]
   dsimp only
   rw [if_neg hk]
end
section
variable (C:Zk) (L:Zbl) (G:Glo)
variable {h h0:Za}
variable {x9:Cell}
variable {a0 a1 a2 a4 a5 a6 a7 a8 a10:Int}
variable {l0 s0 s1:List Cell}
theorem q93_eq:q93.body C L G [(.c (.int .i64 a0)),(.c (.int .i64 a1)),(.c (.int .i64 a2))] h0=if (a0==1)=true then let v:Int:=(G.wrap .u64 ((G.wrap .u64 a1)+(G.wrap .u64 a2)));some ([(.c (.int .i64 (G.wrap .i64 v))),(.c (.bool true))],h0) else if (a0==2)=true then let v:Int:=(G.wrap .u64 ((G.wrap .u64 a1) - (G.wrap .u64 a2)));some ([(.c (.int .i64 (G.wrap .i64 v))),(.c (.bool true))],h0) else if (a0==3)=true then let v:Int:=(G.wrap .u64 ((G.wrap .u64 a1)*(G.wrap .u64 a2)));some ([(.c (.int .i64 (G.wrap .i64 v))),(.c (.bool true))],h0) else if (a0==4)=true then some ([(.c (.int .i64 (G.band .i64 a1 a2))),(.c (.bool true))],h0) else if (a0==5)=true then some ([(.c (.int .i64 (G.bor .i64 a1 a2))),(.c (.bool true))],h0) else if (a0==6)=true then some ([(.c (.int .i64 (G.bxor .i64 a1 a2))),(.c (.bool true))],h0) else if (a0==7)=true then if (G.rem .u64 (G.wrap .u64 a2) 64)<0 then none else let v:Int:=(G.shl .u64 (G.wrap .u64 a1) (G.rem .u64 (G.wrap .u64 a2) 64));some ([(.c (.int .i64 (G.wrap .i64 v))),(.c (.bool true))],h0) else if (a0==8)=true then if (G.rem .u64 (G.wrap .u64 a2) 64)<0 then none else let v:Int:=(G.shr .i64 a1 (G.rem .u64 (G.wrap .u64 a2) 64));some ([(.c (.int .i64 v)),(.c (.bool true))],h0) else if (a0==9)=true then if (a1==a2)=true then some ([(.c (.int .i64 1)),(.c (.bool true))],h0) else some ([(.c (.int .i64 0)),(.c (.bool true))],h0) else if (a0==10)=true then if (a1 != a2)=true then some ([(.c (.int .i64 1)),(.c (.bool true))],h0) else some ([(.c (.int .i64 0)),(.c (.bool true))],h0) else if (a0==11)=true then if (decide (a1<a2))=true then some ([(.c (.int .i64 1)),(.c (.bool true))],h0) else some ([(.c (.int .i64 0)),(.c (.bool true))],h0) else some ([(.c (.int .i64 0)),(.c (.bool false))],h0):=by kernel_rfl
def q121_k2 (h0:Za):Ex->St->Rs:=Zae (fun st=>q121_p1.exec C L G st (q121.fin G h0)) (q121.fin G h0)
def q121_k3 (h0:Za):Ex->St->Rs:=Zap 0 (q121_k2 C L G h0)
def q121_s1 (a4:Int) (s0 s1:List Cell) (h:Za):St:=⟨tops 1 (.loc 0 0 :: tops 1 (.loc 1 0 :: .v (.c (.int .i64 a4)) :: tops 93 [])),[some s0,some s1],h⟩
def q121_F1 :St->Option (Ex × St):=Zo (q121_b1.exec C L G) [1,3,4] [0,1] [(1,[1,3],[0,1])]
def q121_x1_1 (s0 s1:List Cell) (h:Za):St:=⟨tops 1 (.loc 0 0 :: tops 1 (.loc 1 0 :: tops 94 [])),[some s0,some s1],h⟩
def q121_k4 (h0:Za):Ex->St->Rs:=Zae (fun st=>q121_p2.exec C L G st (q121.fin G h0)) (q121.fin G h0)
def q121_k5 (h0:Za):Ex->St->Rs:=Zap 2 (q121_k4 C L G h0)
def q121_s3 (a5:Int) (s0 s1:List Cell) (h:Za):St:=⟨tops 1 (.loc 0 0 :: tops 1 (.loc 1 0 :: tops 1 (.v (.c (.int .i64 a5)) :: tops 92 []))),[some s0,some s1],h⟩
def q121_F3 :St->Option (Ex × St):=Zo (q121_b3.exec C L G) [1,3,5] [0,1] [(3,[1,3],[0,1])]
def q121_k6 :Ex->St->Option (Ex × St):=Zae (fun st=>q121_p3.exec C L G st (Zaf [1,3,5] [0,1] [(3,[1,3],[0,1])])) (Zaf [1,3,5] [0,1] [(3,[1,3],[0,1])])
def q121_k7 :Ex->St->Option (Ex × St):=Zap 3 (q121_k6 C L G)
def q121_k8 :Ex->St->Option (Ex × St):=Zap 4 (q121_k7 C L G)
def q121_s2 (a5 a6:Int) (s0 s1:List Cell) (h:Za):St:=⟨tops 1 (.loc 0 0 :: tops 1 (.loc 1 0 :: tops 1 (.v (.c (.int .i64 a5)) :: .v (.c (.int .i64 a6)) :: tops 91 []))),[some s0,some s1],h⟩
def q121_F2 :St->Option (Ex × St):=Zo (q121_b2.exec C L G) [1,3,5,6] [0,1] [(5,[1,3,5],[0,1])]
def q121_x2_5 (a5:Int) (s0 s1:List Cell) (h:Za):St:=⟨tops 1 (.loc 0 0 :: tops 1 (.loc 1 0 :: tops 1 (.v (.c (.int .i64 a5)) :: tops 92 []))),[some s0,some s1],h⟩
def q121_x3_3 (s0 s1:List Cell) (h:Za):St:=⟨tops 1 (.loc 0 0 :: tops 1 (.loc 1 0 :: tops 94 [])),[some s0,some s1],h⟩
def q121_k9 (h0:Za):Ex->St->Rs:=Zae (fun st=>q121_p4.exec C L G st (q121.fin G h0)) (q121.fin G h0)
def q121_k10 (h0:Za):Ex->St->Rs:=Zap 6 (q121_k9 C L G h0)
def q121_s5 (a7:Int) (s0 s1:List Cell) (h:Za):St:=⟨tops 1 (.loc 0 0 :: tops 1 (.loc 1 0 :: tops 3 (.v (.c (.int .i64 a7)) :: tops 90 []))),[some s0,some s1],h⟩
def q121_F5 :St->Option (Ex × St):=Zo (q121_b5.exec C L G) [1,3,7] [0,1] [(7,[3],[1])]
def q121_k11 :Ex->St->Option (Ex × St):=Zae (fun st=>q121_p5.exec C L G st (Zaf [1,3,7] [0,1] [(7,[3],[1])])) (Zaf [1,3,7] [0,1] [(7,[3],[1])])
def q121_k12 :Ex->St->Option (Ex × St):=Zap 7 (q121_k11 C L G)
def q121_k13 :Ex->St->Option (Ex × St):=Zap 8 (q121_k12 C L G)
def q121_s4 (a7 a8:Int) (s0 s1:List Cell) (h:Za):St:=⟨tops 1 (.loc 0 0 :: tops 1 (.loc 1 0 :: tops 3 (.v (.c (.int .i64 a7)) :: .v (.c (.int .i64 a8)) :: tops 89 []))),[some s0,some s1],h⟩
def q121_F4 :St->Option (Ex × St):=Zo (q121_b4.exec C L G) [1,3,7,8] [0,1] [(9,[1,3,7],[0,1])]
def q121_x4_9 (a7:Int) (s0 s1:List Cell) (h:Za):St:=⟨tops 1 (.loc 0 0 :: tops 1 (.loc 1 0 :: tops 3 (.v (.c (.int .i64 a7)) :: tops 90 []))),[some s0,some s1],h⟩
def q121_x5_7 (s1:List Cell) (h:Za):St:=⟨tops 3 (.loc 1 0 :: tops 94 []),[none,some s1],h⟩
def q121_k14 (h0:Za):Ex->St->Rs:=Zae (fun st=>q121_p6.exec C L G st (q121.fin G h0)) (q121.fin G h0)
def q121_k15 (h0:Za):Ex->St->Rs:=Zap 10 (q121_k14 C L G h0)
def q121_s6 (x9:Cell) (a10:Int) (s1:List Cell) (h:Za):St:=⟨tops 3 (.loc 1 0 :: tops 5 (.v (.c x9) :: .v (.c (.int .i32 a10)) :: tops 87 [])),[none,some s1],h⟩
def q121_F6 :St->Option (Ex × St):=Zo (q121_b6.exec C L G) [3,9,10] [1] [(11,[9],[])]
def q121_x6_11 (x9:Cell) (h:Za):St:=⟨tops 9 (.v (.c x9) :: tops 88 []),[none,none],h⟩
theorem q121_r1:q121_F1 C L G (q121_s1 a4 s0 s1 h)=Zf s0 1 fun q=>Zaj q fun n=>if (decide (a4<n))=true then Zf s0 1 fun q=>Zm 2 q a4 fun k N o=>Zn h k N fun l=>Zf l (o+0) fun q=>Zi .i64 (.c q) fun n=>if 0<=(G.band .i64 n 255)/\(G.band .i64 n 255)<((256:Nat):Int) then if (0+((Yc (G.band .i64 n 255))*1))<s1.length then some (.normal,(q121_s1 (G.wrap .i64 (a4+1)) s0 (s1.set (0+((Yc (G.band .i64 n 255))*1)) (.bool true)) h)) else none else none else some ((.exit 0),(q121_x1_1 s0 s1 h)):=by kernel_rfl
theorem q121_r2:q121_F2 C L G (q121_s2 a5 a6 s0 s1 h)=Zf s0 2 fun q=>Zm 1 q a5 fun k N o=>Zn h k N fun l=>Zf l o fun q=>Zaj q fun n=>if (decide (a6<n))=true then Zf s0 2 fun q=>Zm 1 q a5 fun k N o=>Zn h k N fun l=>Zf l o fun q=>Zm 9 q a6 fun k N o=>Zn h k N fun l=>Zf l (o+2) fun q=>Zi .i64 (.c q) fun n=>if 0<=(G.band .i64 n 255)/\(G.band .i64 n 255)<((256:Nat):Int) then if (0+((Yc (G.band .i64 n 255))*1))<s1.length then some (.normal,(q121_s2 a5 (G.wrap .i64 (a6+1)) s0 (s1.set (0+((Yc (G.band .i64 n 255))*1)) (.bool true)) h)) else none else none else some ((.exit 4),(q121_x2_5 a5 s0 s1 h)):=by kernel_rfl
theorem q121_e2_5:(q121_k8 C L G) (.exit 4) (q121_x2_5 a5 s0 s1 h)=some (.normal,(q121_s3 (G.wrap .i64 (a5+1)) s0 s1 h)):=by kernel_rfl
theorem q121_r3:q121_F3 C L G (q121_s3 a5 s0 s1 h)=Zf s0 2 fun q=>Zaj q fun n=>if (decide (a5<n))=true then (L (q121_F2 C L G) (q121_s2 a5 0 s0 s1 h)).bind fun p=>(q121_k8 C L G) p.1 p.2 else some ((.exit 2),(q121_x3_3 s0 s1 h)):=by kernel_rfl
theorem q121_r4:q121_F4 C L G (q121_s4 a7 a8 s0 s1 h)=Zf s0 4 fun q=>Zm 1 q a7 fun k N o=>Zn h k N fun l=>Zf l o fun q=>Zaj q fun n=>if (decide (a8<n))=true then Zf s0 4 fun q=>Zm 1 q a7 fun k N o=>Zn h k N fun l=>Zf l o fun q=>Zm 4 q a8 fun k N o=>Zn h k N fun l=>Zf l (o+2) fun q=>Zi .i64 (.c q) fun n=>if 0<=(G.band .i64 n 255)/\(G.band .i64 n 255)<((256:Nat):Int) then if (0+((Yc (G.band .i64 n 255))*1))<s1.length then some (.normal,(q121_s4 a7 (G.wrap .i64 (a8+1)) s0 (s1.set (0+((Yc (G.band .i64 n 255))*1)) (.bool true)) h)) else none else none else some ((.exit 8),(q121_x4_9 a7 s0 s1 h)):=by kernel_rfl
theorem q121_e4_9:(q121_k13 C L G) (.exit 8) (q121_x4_9 a7 s0 s1 h)=some (.normal,(q121_s5 (G.wrap .i64 (a7+1)) s0 s1 h)):=by kernel_rfl
theorem q121_r5:q121_F5 C L G (q121_s5 a7 s0 s1 h)=Zf s0 4 fun q=>Zaj q fun n=>if (decide (a7<n))=true then (L (q121_F4 C L G) (q121_s4 a7 0 s0 s1 h)).bind fun p=>(q121_k13 C L G) p.1 p.2 else some ((.exit 6),(q121_x5_7 s1 h)):=by kernel_rfl
theorem q121_r6:q121_F6 C L G (q121_s6 x9 a10 s1 h)=if (decide (a10<=122))=true then if 0<=a10/\a10<((256:Nat):Int) then Zf s1 (0+((Yc a10)*1)) fun q=>asB (.c q) fun b=>if b=true then if (splice [Cell.int .u8 0] 0 [(.int .u8 (G.wrap .u8 a10))]).length=1*1 then Zaq 1 1 x9 (splice [Cell.int .u8 0] 0 [(.int .u8 (G.wrap .u8 a10))]) h fun x h1=>some (.normal,(q121_s6 x (G.wrap .i32 (a10+1)) s1 h1)) else none else some (.normal,(q121_s6 x9 (G.wrap .i32 (a10+1)) s1 h)) else none else some ((.exit 10),(q121_x6_11 x9 h)):=by kernel_rfl
theorem q121_e6_11:(q121_k15 C L G h0) (.exit 10) (q121_x6_11 x9 h)=some ([(.c x9)],h):=by kernel_rfl
theorem q121_e5_7:(q121_k10 C L G h0) (.exit 6) (q121_x5_7 s1 h)=(L (q121_F6 C L G) (q121_s6 .nils 97 s1 h)).bind fun p=>(q121_k15 C L G h0) p.1 p.2:=by kernel_rfl
theorem q121_e3_3:(q121_k5 C L G h0) (.exit 2) (q121_x3_3 s0 s1 h)=(L (q121_F5 C L G) (q121_s5 0 s0 s1 h)).bind fun p=>(q121_k10 C L G h0) p.1 p.2:=by kernel_rfl
theorem q121_e1_1:(q121_k3 C L G h0) (.exit 0) (q121_x1_1 s0 s1 h)=(L (q121_F3 C L G) (q121_s3 0 s0 s1 h)).bind fun p=>(q121_k5 C L G h0) p.1 p.2:=by kernel_rfl
theorem q121_eq:q121.body C L G [(.agg l0)] h0=(L (q121_F1 C L G) (q121_s1 0 l0 (Yb 256 (Cell.bool false)) h0)).bind fun p=>(q121_k3 C L G h0) p.1 p.2:=by kernel_rfl
end
theorem Zmq {x y:Int} (h:x % 18446744073709551616=y % 18446744073709551616):IntKind.wrap .i64 x=IntKind.wrap .i64 y:=by
 simp only [IntKind.wrap,IntKind.signed,IntKind.bits,Yr]
 split
 ·rename_i h1
  have h1:=of_decide_eq_true h1
  split
  ·omega
  ·rename_i h2;exact absurd (decide_eq_true (by omega)) h2
 ·rename_i h1
  split
  ·rename_i h2
   have h2:=of_decide_eq_true h2
   exact absurd (decide_eq_true (by omega)) h1
  ·omega
theorem u64_mod (x:Int):IntKind.wrap .u64 x=x % 18446744073709551616:=by
 simp only [IntKind.wrap,IntKind.signed,IntKind.bits,Yaf,Yz,if_false];rfl
structure GoodI (len:Nat) (i:Ins):Prop where
 kind:1<=i.kind/\i.kind<=6
 reg:i.kind=2∨i.kind=4∨i.kind=5->0<=i.reg/\i.reg<4
 op:i.kind=5->0<=i.op/\i.op<=11
 n:i.kind=6->0<=i.n/\i.n<=len
def GoodC (code:List Ins):Prop:=∀i∈code,GoodI code.length i
section
variable {E:Env}
theorem Zee (hE:q92_In E) (o:Opd) (l:Lcl) (h:Za):R E 92 [.agg o.cs,.agg l.cs] h=some ([.c (.int .i64 (opV o l))],h):=by
 refine Zd hE.fn ?_
 have a0:∀{α:Type} (f:Cell->Option α),Zf o.cs 0 f=f (.int .i64 o.reg):=fun _=>rfl
 have a1:∀{α:Type} (f:Cell->Option α),Zf o.cs 1 f=f (.int .i64 o.val):=fun _=>rfl
 unfold opV
 rw [q92_eq]
 simp only [a0,a1,asI_ok,scK_and]
 by_cases h1:0<=o.reg/\o.reg<4
 ·rw [if_pos (by simp;omega),if_pos ⟨h1.1,h1.2⟩,if_pos h1,Zak (lcl_get h1.1 h1.2),asI_ok]
 ·rw [if_neg (by simp;omega),if_neg h1]
theorem refDo_R (hE:q93_In E) (op a b:Int) (h:Za):R E 93 [.c (.int .i64 op),.c (.int .i64 a),.c (.int .i64 b)] h=some ([.c (.int .i64 ((doV op a b).getD 0)),.c (.bool (doV op a b).isSome)],h):=by
 refine Zd hE.fn ?_
 rw [q93_eq]
 have hr:∀x:Int,0<=E.glob.rem .u64 (E.glob.wrap .u64 x) 64:=by
  intro x
  show 0<=Int.tmod (IntKind.wrap .u64 x) 64
  rw [u64_mod,Yaj (Yad _ (by omega))]
  exact Yad _ (by omega)
 have hr':∀x:Int,¬E.glob.rem .u64 (E.glob.wrap .u64 x) 64<0:=fun x=>by have:=hr x;omega
 simp only [hr',if_false]
 have w1:E.glob.wrap .i64 (E.glob.wrap .u64 (E.glob.wrap .u64 a+E.glob.wrap .u64 b))=GN.wrap .i64 (a+b):=by
  show IntKind.wrap .i64 (IntKind.wrap .u64 (IntKind.wrap .u64 a+IntKind.wrap .u64 b))=IntKind.wrap .i64 (a+b)
  refine Zmq ?_
  rw [u64_mod,u64_mod,u64_mod];omega
 have w2:E.glob.wrap .i64 (E.glob.wrap .u64 (E.glob.wrap .u64 a - E.glob.wrap .u64 b))=GN.wrap .i64 (a - b):=by
  show IntKind.wrap .i64 (IntKind.wrap .u64 (IntKind.wrap .u64 a - IntKind.wrap .u64 b))=IntKind.wrap .i64 (a - b)
  refine Zmq ?_
  rw [u64_mod,u64_mod,u64_mod];omega
 have w3:E.glob.wrap .i64 (E.glob.wrap .u64 (E.glob.wrap .u64 a*E.glob.wrap .u64 b))=GN.wrap .i64 (a*b):=by
  show IntKind.wrap .i64 (IntKind.wrap .u64 (IntKind.wrap .u64 a*IntKind.wrap .u64 b))=IntKind.wrap .i64 (a*b)
  refine Zmq ?_
  rw [u64_mod,u64_mod,u64_mod,Yae _ (Yba _),←Ybb]
 have w7:∀k:Int,E.glob.wrap .i64 (E.glob.shl .u64 (E.glob.wrap .u64 a) k)=GN.shl .i64 a k:=by
  intro k
  show IntKind.wrap .i64 (IntKind.wrap .u64 (IntKind.wrap .u64 a*2 ^ min k.toNat IntKind.u64.bits))=IntKind.wrap .i64 (a*2 ^ min k.toNat IntKind.i64.bits)
  refine Zmq ?_
  rw [u64_mod,u64_mod,Yae _ (Yba _)]
  show _=(a*2 ^ min k.toNat IntKind.u64.bits) % _
  rw [Ybb,Yae _ (Yba _),←Ybb]
 simp only [w1,w2,w3,w7]
 unfold doV
 have key:∀k:Int,((op==k)=true)=(op=k):=fun k=>by rw [beq_iff_eq]
 simp only [key]
 by_cases h1:op=1
 ·simp only [if_pos h1];rfl
 simp only [if_neg h1]
 by_cases h2:op=2
 ·simp only [if_pos h2];rfl
 simp only [if_neg h2]
 by_cases h3:op=3
 ·simp only [if_pos h3];rfl
 simp only [if_neg h3]
 by_cases h4:op=4
 ·simp only [if_pos h4];rfl
 simp only [if_neg h4]
 by_cases h5:op=5
 ·simp only [if_pos h5];rfl
 simp only [if_neg h5]
 by_cases h6:op=6
 ·simp only [if_pos h6];rfl
 simp only [if_neg h6]
 by_cases h7:op=7
 ·simp only [if_pos h7];rfl
 simp only [if_neg h7]
 by_cases h8:op=8
 ·simp only [if_pos h8];rfl
 simp only [if_neg h8]
 by_cases h9:op=9
 ·simp only [if_pos h9];(by_cases hab:a=b<;>simp [hab])
 simp only [if_neg h9]
 by_cases h10:op=10
 ·simp only [if_pos h10];(by_cases hab:a=b<;>simp [hab])
 simp only [if_neg h10]
 by_cases h11:op=11
 ·simp only [if_pos h11];(by_cases hab:a<b<;>simp [hab])
 simp only [if_neg h11]
 rfl
theorem doV_some {op:Int} (a b:Int) (h1:1<=op) (h2:op<=11):∃v,doV op a b=some v:=by
 have h:op=1∨op=2∨op=3∨op=4∨op=5∨op=6∨op=7∨op=8∨op=9∨op=10∨op=11:=by omega
 rcases h with rfl | rfl | rfl | rfl | rfl | rfl | rfl | rfl | rfl | rfl | rfl<;>exact ⟨_,rfl⟩
theorem ProgAt.thr {h:Za} {cs:List Cell} {P:PProg} (p:ProgAt h cs P) {t:Nat} {code:List Ins} (ht:P.thr[t]? = some code) :
  ∃x,SlAt h x 9 (Zai code) code.length/\Low h.length x/\∀{α:Type} (f:Cell->Option α),(Zf cs 2 fun q=>Zm 1 q (t:Int) fun k N o=>Zn h k N fun l=>Zf l o f)=f x:=by
 obtain ⟨a,b,c,ts,rfl,_,_,⟨hc,hcl⟩,hts⟩:=p
 obtain ⟨x,x1,x2,x3⟩:=hts _ _ ht
 refine ⟨x,x2,x3,fun f=>?_⟩
 show (Zm 1 c (t:Int) fun k N o=>Zn h k N fun l=>Zf l o f)=f x
 exact hc.get1 (Zs ht) x1
theorem ProgAt.nthr {α:Type} {h:Za} {cs:List Cell} {P:PProg} (p:ProgAt h cs P) {f:Int->Option α}:(Zf cs 2 fun q=>Zaj q f)=f P.thr.length:=by
 obtain ⟨a,b,c,ts,rfl,_,_,⟨hc,hcl⟩,hts⟩:=p
 show Zaj c f=_
 exact hc.len
theorem Zwl {P:PProg} {t:Nat} {code:List Ins} (ht:P.thr[t]? = some code):P.code (t:Int)=code:=by
 unfold PProg.code
 rw [if_pos (by omega),Ybd,Yf,ht];rfl
theorem Zjv (hE:q123_In E) {cs:List Cell} {P:PProg} {h:Za} (p:ProgAt h cs P) {t:Nat} {code:List Ins} (ht:P.thr[t]? = some code) (hlen:code.length<4000000000000000000) (hg:GoodC code) (l:Lcl) (h0:0<=l.pc) :
  R E 123 [.agg cs,.c (.int .i64 (t:Int)),.agg l.cs] h=some ([.agg (Zte code l).cs],h):=by
 refine Zd hE.fn ?_
 obtain ⟨x,hx,hxl,hT⟩:=p.thr ht
 have round:∀l:Lcl,0<=l.pc->q123_F1 (R E) Zx E.glob (q123_s1 t cs l.cs Lcl.zero.cs h)=match Zdv code l with
   | some l'=>some (.normal,q123_s1 t cs l'.cs Lcl.zero.cs h)
   | none=>if l.pc<code.length then some (.ret,q123_x1_0 l.cs h) else some (.exit 0,q123_x1_1 l.cs Lcl.zero.cs h):=by
  intro l h0
  rw [q123_r1,lcl_pc,asI_ok,hT,hx.len]
  by_cases h1:l.pc<code.length
  ·obtain ⟨q,hp⟩:∃q:Nat,l.pc=(q:Int):=⟨l.pc.toNat,by omega⟩
   have hpl:q<code.length:=by omega
   have hq:code[q]? = some code[q]:=Yj hpl
   have hgi:=hg _ (Ybg hpl)
   generalize code[q]=i at hq hgi
   obtain ⟨off,cs',hG0,hle,hcs⟩:=hx.insG hq
   have hG:∀{α:Type} (G:Nat->List Cell->Option α),(Zm 9 x l.pc fun k N o=>Zn h k N fun l=>G o l)=G off cs':=by intro α G;rw [hp];exact hG0 G
   have hst:Zdv code l=if i.kind=5 then
     some { (l.setR i.reg ((doV i.op (opV i.a l) (opV i.b l)).getD (opV i.a l))) with pc:=(l.setR i.reg ((doV i.op (opV i.a l) (opV i.b l)).getD (opV i.a l))).pc+1 }
    else if i.kind=6 then (if opV i.a l=opV i.b l then some { l with pc:=l.pc+min (max i.n 0) code.length+1 } else some { l with pc:=l.pc+1 }) else none:=by
    unfold Zdv
    rw [if_pos h0,show l.pc.toNat=q by omega,hq]
   rw [hst,if_pos (decide_eq_true h1),hT,lcl_pc,asI_ok,hG,if_pos hle,hcs,if_pos ⟨rfl,rfl,rfl⟩,ins_kind,asI_ok]
   by_cases k5:i.kind=5
   ·obtain ⟨r0,r1⟩:=hgi.reg (.inr (.inr k5))
    obtain ⟨o0,o1⟩:=hgi.op k5
    rw [if_pos (by rw [k5];rfl),if_pos k5,if_pos (show 3+2<=i.cs.length by rw [Ins.len];omega),if_pos ⟨rfl,rfl⟩,ins_a,Zee hE.c92,c1_ok,asI_ok,ins_op,asI_ok]
    by_cases hop:i.op=0
    ·have hd:doV i.op (opV i.a l) (opV i.b l)=none:=by rw [hop];rfl
     have hpc:=l.setR_pc i.reg (opV i.a l)
     rw [hd,if_neg (by rw [hop];simp),ins_reg,asI_ok,if_pos ⟨r0,r1⟩,if_pos (by rw [Lcl.len];omega),Zpn r0 r1,lcl_pc,asI_ok,if_pos (by rw [Lcl.len];omega),lcl_setpc]
     rw [show (none:Option Int).getD (opV i.a l)=opV i.a l from rfl,hpc,Zg (x:=l.pc+1) (by omega) (by omega)]
    ·obtain ⟨v,hd⟩:=doV_some (opV i.a l) (opV i.b l) (show 1<=i.op by omega) o1
     have hpc:=l.setR_pc i.reg v
     rw [hd,if_pos (by rw [bne_iff_ne];exact hop),ins_op,asI_ok,if_pos (show 6+2<=i.cs.length by rw [Ins.len];omega),if_pos ⟨rfl,rfl⟩,ins_b,Zee hE.c92,qh_ok,c1_ok,asI_ok,refDo_R hE.c93,qh_ok,c2_ok,asI_ok,asB_ok,hd,ins_reg,asI_ok,if_pos ⟨r0,r1⟩,if_pos (by rw [Lcl.len];omega),show (some v:Option Int).getD 0=v from rfl,Zpn r0 r1,lcl_pc,asI_ok,if_pos (by rw [Lcl.len];omega),lcl_setpc]
     rw [show (some v:Option Int).getD (opV i.a l)=v from rfl,hpc,Zg (x:=l.pc+1) (by omega) (by omega)]
   ·rw [if_neg (by rw [beq_iff_eq];exact k5),if_neg k5]
    by_cases k6:i.kind=6
    ·obtain ⟨n0,n1⟩:=hgi.n k6
     rw [if_pos (by rw [k6];rfl),if_pos k6,if_pos (show 3+2<=i.cs.length by rw [Ins.len];omega),if_pos ⟨rfl,rfl⟩,ins_a,Zee hE.c92,qh_ok,c1_ok,asI_ok,if_pos (show 6+2<=i.cs.length by rw [Ins.len];omega),if_pos ⟨rfl,rfl⟩,ins_b,Zee hE.c92,qh_ok,c1_ok,asI_ok]
     by_cases hab:opV i.a l=opV i.b l
     ·rw [if_pos (by rw [hab];exact beq_self_eq_true _),if_pos hab,lcl_pc,asI_ok,ins_n,asI_ok,if_pos (by rw [Lcl.len];omega),lcl_setpc,lcl_pc,asI_ok,if_pos (by rw [Lcl.len];omega),lcl_setpc]
      dsimp only
      rw [show min (max i.n 0) (code.length:Int)=i.n by omega,Zg (x:=l.pc+i.n) (by omega) (by omega),Zg (x:=l.pc+i.n+1) (by omega) (by omega)]
     ·rw [if_neg (by rw [beq_iff_eq];exact hab),if_neg hab,lcl_pc,asI_ok,if_pos (by rw [Lcl.len];omega),lcl_setpc,Zg (x:=l.pc+1) (by omega) (by omega)]
    ·rw [if_neg (by rw [beq_iff_eq];exact k6),if_neg k6,if_pos ⟨rfl,rfl⟩,if_pos ⟨rfl,rfl,rfl⟩]
     dsimp only
     rw [if_pos h1]
  ·have hst:Zdv code l=none:=by
    unfold Zdv
    rw [if_pos h0,Yg (by omega)]
   rw [hst,if_neg (by simpa using h1)]
   dsimp only
   rw [if_neg h1]
 have stop:∀l:Lcl,0<=l.pc->Zdv code l=none->(Zx (q123_F1 (R E) Zx E.glob) (q123_s1 t cs l.cs Lcl.zero.cs h)).bind (fun p=>q123_k3 (R E) Zx E.glob h p.1 p.2)=some ([.agg l.cs],h):=by
  intro l h0 hs
  have hr:=round l h0
  rw [hs] at hr
  dsimp only at hr
  split at hr
  ·rw [Zeb hr,bind_ok,q123_e1_0,if_pos ⟨rfl,rfl⟩]
  ·rw [Zl hr,bind_ok,q123_e1_1,if_pos ⟨rfl,rfl⟩,if_pos ⟨rfl,rfl,rfl⟩,if_pos ⟨rfl,rfl⟩]
 have loop:∀(k:Nat) (l:Lcl),0<=l.pc->(code.length:Int)<=l.pc+k->(Zx (q123_F1 (R E) Zx E.glob) (q123_s1 t cs l.cs Lcl.zero.cs h)).bind (fun p=>q123_k3 (R E) Zx E.glob h p.1 p.2)=some ([.agg (nrm code k l).cs],h):=by
  intro k
  induction k with
  | zero =>
   intro l h0 hk
   rw [nrm]
   refine stop l h0 ?_
   cases hs:Zdv code l with
   | none=>rfl
   | some l'=>have:=Zjs hs;omega
  | succ k ih =>
   intro l h0 hk
   rw [nrm]
   cases hs:Zdv code l with
   | none=>exact stop l h0 hs
   | some l' =>
    have hr:=round l h0
    rw [hs] at hr
    have h3:=Zjs hs
    have:=ih l' (by omega) (by omega)
    cases hL:Zx (q123_F1 (R E) Zx E.glob) (q123_s1 t cs l'.cs Lcl.zero.cs h) with
    | none=>rw [hL] at this;cases this
    | some p=>rw [Zbk hr hL];rw [hL] at this;exact this
 rw [q123_eq,zero5]
 exact loop code.length l h0 (by omega)
theorem there_R (hE:q110_In E) {cs:List Cell} {P:PProg} {h:Za} (p:ProgAt h cs P) (t:Int) :
  R E 110 [.agg cs,.c (.int .i64 t)] h=some ([.c (.bool (decide (0<=t)&&decide (t<P.thr.length)))],h):=by
 refine Zd hE.fn ?_
 rw [q110_eq]
 by_cases h0:0<=t
 ·rw [show decide (t>=0)=true from decide_eq_true h0,scK_ok,p.nthr,bind_ok]
  rfl
 ·rw [show decide (t>=0)=false from decide_eq_false h0,scK_ft]
  rfl
def PProg.good (P:PProg):Prop:=P.fits/\∀code∈P.thr,GoodC code
theorem Zml {P:PProg} {t:Int} (h:¬(0<=t/\t<P.thr.length)):P.code t=[]:=by
 unfold PProg.code
 split
 ·rw [Yf,Yg (by omega)];rfl
 ·rfl
theorem Zq710 (hE:q104_In E) {cs:List Cell} {P:PProg} {h:Za} (hg:P.good) (p:ProgAt h cs P) (t:Int) :
  R E 104 [.agg cs,.c (.int .i64 t)] h=some ([.agg (Zam P t).cs],h):=by
 refine Zd hE.fn ?_
 rw [q104_eq,if_pos ⟨rfl,p.len⟩,there_R hE.c110 p,c1_ok,asB_ok]
 by_cases ht:0<=t/\t<P.thr.length
 ·obtain ⟨q,hq⟩:∃q:Nat,t=(q:Int):=⟨t.toNat,by omega⟩
  have hqq:P.thr[q]? = some P.thr[q]:=Yj (by omega)
  have hm:=Ys hqq
  generalize P.thr[q]=code at hqq hm
  rw [show (decide (0<=t)&&decide (t<P.thr.length))=true by simp [ht.1,ht.2],if_neg (by simp),if_pos ⟨rfl,p.len⟩,zero5,hq,Zjv hE.c123 p hqq (hg.1.2 _ hm) (hg.2 _ hm) Lcl.zero (by simp [Lcl.zero]),c1_ok,asA_ok,if_pos ⟨rfl,rfl,rfl⟩,if_pos ⟨rfl,rfl⟩]
  unfold Zam
  rw [Zwl hqq]
 ·have hs:Zam P t=Lcl.zero:=by unfold Zam;rw [Zml ht];rfl
  rw [show (decide (0<=t)&&decide (t<P.thr.length))=false by simp;omega,if_pos (show (!false)=true from rfl),zero5,if_pos ⟨rfl,rfl,rfl⟩,if_pos ⟨rfl,rfl⟩,hs]
theorem Zny (hE:q81_In E) {cs:List Cell} {P:PProg} {h:Za} (hg:P.good) (p:ProgAt h cs P) (t:Int) (l:Lcl) :
  R E 81 [.agg cs,.c (.int .i64 t),.agg l.cs] h=some ([.agg ((Zbx (P.code t) l).getD Ins.zero).cs,.c (.bool (Zbx (P.code t) l).isSome)],h):=by
 refine Zd hE.fn ?_
 rw [q81_eq,if_pos ⟨rfl,p.len⟩,there_R hE.c110 p,qh_ok,c1_ok,asB_ok]
 by_cases ht:0<=t/\t<P.thr.length
 ·obtain ⟨q,hq⟩:∃q:Nat,t=(q:Int):=⟨t.toNat,by omega⟩
  have hqq:P.thr[q]? = some P.thr[q]:=Yj (by omega)
  have hm:=Ys hqq
  generalize P.thr[q]=code at hqq hm
  have hgc:=hg.2 _ hm
  obtain ⟨x,hx,hxl,hT⟩:=p.thr hqq
  rw [show (decide (0<=t)&&decide (t<P.thr.length))=true by simp [ht.1,ht.2],Bool.not_true,scK_ok,lcl_pc,asI_ok,bind_ok]
  dsimp only
  subst hq
  rw [Zwl hqq]
  by_cases h0:0<=l.pc
  ·rw [show decide (l.pc<0)=false from decide_eq_false (by omega),scK_ok,lcl_pc,asI_ok,hT,hx.len,bind_ok]
   dsimp only
   by_cases h1:l.pc<code.length
   ·obtain ⟨m,hmm⟩:∃m:Nat,l.pc=(m:Int):=⟨l.pc.toNat,by omega⟩
    have hml:m<code.length:=by omega
    have hi:code[m]? = some code[m]:=Yj hml
    have hgi:=hgc _ (Ybg hml)
    generalize code[m]=i at hi hgi
    obtain ⟨off,cs',hG0,hle,hcs⟩:=hx.insG hi
    have hG:∀{α:Type} (G:Nat->List Cell->Option α),(Zm 9 x l.pc fun k N o=>Zn h k N fun l=>G o l)=G off cs':=by intro α G;rw [hmm];exact hG0 G
    have hn:Zbx code l=if 1<=i.kind/\i.kind<=4 then some i else none:=by
     unfold Zbx
     rw [if_pos h0,show l.pc.toNat=m by omega,hi]
    have hk2:=hgi.kind
    rw [show decide (l.pc>=(code.length:Int))=false from decide_eq_false (by omega),if_neg (by simp),hT,lcl_pc,asI_ok,hG,if_pos hle,hcs,if_pos ⟨rfl,rfl,rfl⟩,ins_kind,asI_ok,ins_kind,asI_ok,scK_or,hn]
    by_cases hk:1<=i.kind/\i.kind<=4
    ·rw [if_neg (by simp;omega),if_pos hk,if_pos ⟨rfl,rfl⟩,if_pos ⟨rfl,rfl,rfl⟩,if_pos ⟨rfl,rfl⟩];rfl
    ·rw [if_pos (by simp;omega),if_neg hk,if_pos ⟨rfl,rfl,rfl⟩,if_pos ⟨rfl,rfl⟩];rfl
   ·have hn:Zbx code l=none:=by unfold Zbx;rw [if_pos h0,Yg (by omega)]
    rw [show decide (l.pc>=(code.length:Int))=true from decide_eq_true (by omega),if_pos rfl,hn,if_pos ⟨rfl,rfl,rfl⟩,if_pos ⟨rfl,rfl⟩];rfl
  ·have hn:Zbx code l=none:=by unfold Zbx;rw [if_neg h0]
   rw [show decide (l.pc<0)=true from decide_eq_true (by omega),scK_tf,if_pos rfl,hn,if_pos ⟨rfl,rfl,rfl⟩,if_pos ⟨rfl,rfl⟩];rfl
 ·have hn:Zbx (P.code t) l=none:=by rw [Zml ht];unfold Zbx;split<;>simp
  rw [show (decide (0<=t)&&decide (t<P.thr.length))=false by simp;omega,Bool.not_false,scK_tf,scK_tf,if_pos rfl,hn,if_pos ⟨rfl,rfl,rfl⟩,if_pos ⟨rfl,rfl⟩];rfl
theorem Zq711 (hE:q107_In E) {cs:List Cell} {P:PProg} {h:Za} (hg:P.good) (p:ProgAt h cs P) (t:Int) (l:Lcl) (v:Int) :
  R E 107 [.agg cs,.c (.int .i64 t),.agg l.cs,.c (.int .i64 v)] h=some ([.agg (Zcd (P.code t) l v).cs],h):=by
 refine Zd hE.fn ?_
 rw [q107_eq,if_pos ⟨rfl,p.len⟩,if_pos ⟨rfl,rfl⟩,Zny hE.c81 hg p,c2_ok,asA_ok,asB_ok,if_pos ⟨rfl,rfl,rfl⟩]
 unfold Zcd
 cases hn:Zbx (P.code t) l with
 | none =>
  rw [show (none:Option Ins).isSome=false from rfl,if_pos (show (!false)=true from rfl),if_pos ⟨rfl,rfl⟩,if_pos ⟨rfl,rfl,rfl⟩,if_pos ⟨rfl,rfl⟩]
 | some i =>
  obtain ⟨n0,n1,n2,n3,n4⟩:=Zlj hn
  have ht:0<=t/\t<P.thr.length:=by
   refine Classical.byContradiction fun hc=>?_
   rw [Zml hc] at n2;simp at n2
  obtain ⟨q,hq⟩:∃q:Nat,t=(q:Int):=⟨t.toNat,by omega⟩
  have hqq:P.thr[q]? = some P.thr[q]:=Yj (by omega)
  have hm:=Ys hqq
  generalize P.thr[q]=code at hqq hm
  subst hq
  rw [Zwl hqq] at n1 n2 ⊢
  have hgi:=hg.2 _ hm i (Ys n2)
  have hfit:=hg.1.2 _ hm
  rw [show (some i:Option Ins).isSome=true from rfl,if_neg (by simp),show (some i:Option Ins).getD Ins.zero=i from rfl,ins_kind,asI_ok,ins_kind,asI_ok,scK_or]
  by_cases hk:i.kind=2∨i.kind=4
  ·have hpc:=l.setR_pc i.reg v
   obtain ⟨r0,r1⟩:=hgi.reg (hk.imp id .inl)
   rw [if_pos (by rw [Yq,beq_iff_eq,beq_iff_eq];exact hk),ins_reg,asI_ok,if_pos ⟨r0,r1⟩,if_pos (by rw [Lcl.len];omega),Zpn r0 r1,lcl_pc,asI_ok,if_pos (by rw [Lcl.len];omega),lcl_setpc,if_pos ⟨rfl,p.len⟩,if_pos ⟨rfl,rfl⟩,hpc,Zg (x:=l.pc+1) (by omega) (by omega),Zjv hE.c123 p hqq hfit (hg.2 _ hm) _ (by dsimp only;omega),c1_ok,asA_ok,if_pos ⟨rfl,rfl,rfl⟩,if_pos ⟨rfl,rfl⟩]
   dsimp only
   rw [if_pos hk]
  ·rw [if_neg (by rw [Yq,beq_iff_eq,beq_iff_eq];exact hk),lcl_pc,asI_ok,if_pos (by rw [Lcl.len];omega),lcl_setpc,if_pos ⟨rfl,p.len⟩,if_pos ⟨rfl,rfl⟩,Zg (x:=l.pc+1) (by omega) (by omega),Zjv hE.c123 p hqq hfit (hg.2 _ hm) _ (by dsimp only;omega),c1_ok,asA_ok,if_pos ⟨rfl,rfl,rfl⟩,if_pos ⟨rfl,rfl⟩]
   dsimp only
   rw [if_neg hk]
end
end Jq
