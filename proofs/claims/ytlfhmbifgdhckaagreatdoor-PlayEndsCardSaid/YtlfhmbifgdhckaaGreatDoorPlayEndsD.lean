/- YtlfhmbifgdhckaaGreatDoorPlayEndsD: a part of the proof; no conditions of its own. -/
import Derived.KernelRfl
import Derived.Test.YtlfhmbifgdhckaaGreatDoorRows
import Derived.WalkKit
import Derived.ProofKit
import Derived.OpenShut
import Derived.ShutString
import Derived.ChangeOld
import Derived.Below
import Derived.Carry
import Derived.Test.YtlfhmbifgdhckaaGreatDoorCards
import Derived.Test.YtlfhmbifgdhckaaGreatDoorTie
import Derived.SevenTiedAt
import Derived.LaidMore
import Derived.Stop.Joined
import Derived.Lib.LaidTab
import Derived.MakeChecks
import Derived.LaidHandle
import Derived.Stop.LaidErr
import Derived.Lay
import Derived.LaidOnce
import Derived.Test.YtlfhmbifgdhckaaGreatDoorPlayEndsC
set_option linter.unusedVariables false
set_option linter.unusedSimpArgs false

namespace Jq
open Go
theorem Own.appN {n:Nat} {h:AHeap} {x:Cell} {esz len m bytes:Nat} {cs xs:List Cell} (o:Own n h x esz cs len) (hn:n≤h.length) (hx:xs.length=m*esz) (he:0<esz) (h1:(len+m)*bytes≤maxBytes) (h2:len+m≤maxBytes) :
  ∃x' h',(∀{α:Type} (f:Cell→AHeap→Option α),appK esz bytes x xs h f=f x' h')∧Own n h' x' esz (cs++xs) (len+m)∧Kp n h h'∧(∀j b,blk? h j=some b→¬isBlk x j→blk? h' j=some b∧¬isBlk x' j):=by
 have hd:xs.length / esz=m:=by rw [hx];exact Nat.mul_div_cancel _ he
 rcases o.2 with ⟨rfl,rfl⟩ | ⟨k,rfl,hk,hb⟩
 ·have hcs:cs=[]:=List.length_eq_zero_iff.1 (by have:=o.1;omega)
  subst hcs
  by_cases h0:m=0
  ·subst h0
   have:xs=[]:=List.length_eq_zero_iff.1 (by omega)
   subst this
   exact ⟨.nils,h,fun f=>rfl,Own.nil _ _ _,Kp.refl _ _,fun j b hj hi=>⟨hj,hi⟩⟩
  ·have hpos:0<xs.length:=by rw [hx];exact Nat.mul_pos (by omega) he
   refine ⟨.sl h.length xs.length 0 m,h++[some ⟨true,esz,xs⟩],fun f=>?_,⟨by simp [hx],.inr ⟨h.length,by simp,hn,by rw [List.nil_append];exact blk_new _ _⟩⟩,Kp.app _ hn,fun j b hj _=>⟨blk_old hj _,fun hi=>?_⟩⟩
   ·unfold appK;simp only;rw [if_neg (by omega),hd,if_pos ⟨by rw [Nat.zero_add] at h1;exact h1,by omega⟩]
   ·have:=blk_lt' hj;simp only [isBlk] at hi;omega
 ·have hl:=o.1
  refine ⟨.sl k (len*esz+xs.length) 0 (len+m),setBlk h k (some ⟨true,esz,cs++xs⟩),fun f=>?_,⟨by simp [hl,hx,Nat.add_mul],.inr ⟨k,by simp [hl],hk,blk_set_self (blk_lt' hb) _⟩⟩,Kp.set hk _,fun j b hj hi=>?_⟩
  ·unfold appK;simp only;rw [hb,Option.bind_some];dsimp only
   rw [if_pos ⟨rfl,rfl,rfl,by omega,by rw [hd];exact h1,by rw [hd];exact h2⟩,hd]
   by_cases h0:xs.length=0
   ·have:xs=[]:=List.length_eq_zero_iff.1 h0
    subst this
    have e:splice cs (0+len*esz) []=cs++[]:=by unfold splice;simp
    rw [if_pos (by simp;omega),e,List.length_nil,hl]
    rfl
   ·rw [if_neg (by omega),if_pos trivial,List.take_of_length_le (by omega)]
  ·have hne:k≠j:=fun h=>hi h
   exact ⟨by rw [blk_set_ne hne];exact hj,fun q=>hne q⟩
theorem Own.slc {n:Nat} {h:AHeap} {x:Cell} {esz len:Nat} {cs:List Cell} (o:Own n h x esz cs len) (h0:0<len) {a:Nat} (ha:a≤len) :
  (∃x',(∀{α:Type} (f:Cell→Option α),sliceK h esz false true x [.v (.c (.int .i64 (a:Int)))] f=f x')∧slCells h esz x'=some (cs.take (a*esz))) ∧
  (∃x',(∀{α:Type} (f:Cell→Option α),sliceK h esz true false x [.v (.c (.int .i64 (a:Int)))] f=f x')∧slCells h esz x'=some (cs.drop (a*esz))):=by
 have hl:=o.1
 have hae:a*esz≤len*esz:=Nat.mul_le_mul_right _ ha
 rcases o.2 with ⟨rfl,rfl⟩ | ⟨k,rfl,hk,hb⟩
 ·omega
 ·have hok:okSl h esz k cs.length=true:=by unfold okSl;rw [hb];simp
  refine ⟨⟨.sl k cs.length (0+0*esz) (a - 0),fun f=>?_,?_⟩,⟨.sl k cs.length (0+a*esz) (len - a),fun f=>?_,?_⟩⟩
  ·unfold sliceK boundsK
   simp only
   rw [if_pos hok,if_pos ⟨by omega,by omega⟩,Int.toNat_natCast]
  ·unfold slCells
   dsimp only
   by_cases h1:a - 0=0
   ·rw [if_pos h1,show a=0 by omega,Nat.zero_mul,List.take_zero]
   ·rw [if_neg h1,hb]
    simp only
    rw [if_pos ⟨by trivial,by rw [Nat.sub_zero];omega⟩]
    simp
  ·unfold sliceK boundsK
   simp only
   rw [if_pos hok,if_pos ⟨by omega,by omega⟩,Int.toNat_natCast]
  ·unfold slCells
   dsimp only
   have hm:(len - a)*esz=len*esz - a*esz:=Nat.sub_mul _ _ _
   by_cases h1:len - a=0
   ·rw [if_pos h1,List.drop_of_length_le (by rw [show a=len by omega];omega)]
   ·rw [if_neg h1,hb]
    simp only
    rw [if_pos ⟨by trivial,by omega⟩,Nat.zero_add,List.take_of_length_le (by rw [List.length_drop];omega)]
theorem ents_take (l:List Ent) (j:Nat):(entsC l).take (min j l.length*3)=entsC (l.take j)∧(entsC l).drop (min j l.length*3)=entsC (l.drop j):=by
 have e:entsC l=entsC (l.take j)++entsC (l.drop j):=by rw [←entsC_append,List.take_append_drop]
 have hl:(entsC (l.take j)).length=min j l.length*3:=by rw [entsC_len,List.length_take]
 rw [e,←hl]
 exact ⟨by rw [List.take_append_of_le_length (Nat.le_refl _),List.take_length],by rw [List.drop_append_of_le_length (Nat.le_refl _),List.drop_length,List.nil_append]⟩
theorem newE_snoc (loc:Int) (l:List Ent) (e:Ent):newE loc (l++[e])=if e.loc=loc then some e else newE loc l:=by
 unfold newE
 rw [List.reverse_append,List.reverse_singleton,List.singleton_append,List.find?_cons]
 by_cases h:e.loc=loc
 ·rw [if_pos h,h,beq_self_eq_true]
 ·rw [if_neg h,beq_false_of_ne h]
def rvC (pc:List Cell) (V:MV) (bs:List Cell) (x:Cell):List Cell :=
 pc++(([.int .i64 V.m]:List Cell)++(intC .i64 V.mem++(intC .i64 V.frm++(V.lc.flatMap Lcl.cs++(bs++[x])))))
section
variable {V:MV} {pc bs:List Cell} {x:Cell} (f:V.Fit) (hpc:pc.length=3) (hbs:bs.length=4)
theorem rv_prog (hpc:pc.length=3):((rvC pc V bs x).drop (0+0)).take 3=pc:=by
 unfold rvC
 exact seg_get (a:=[]) rfl hpc
theorem rv_m (hpc:pc.length=3) {α:Type} {g:Cell→Option α}:atK (rvC pc V bs x) (0+3) g=g (.int .i64 V.m):=by
 unfold rvC
 refine atK_ok ?_
 rw [List.getElem?_append_right (by omega),hpc];rfl
theorem rv_lensM (_:V.Fit) (hpc:pc.length=3):∃A B:List Cell,rvC pc V bs x=A++(intC .i64 V.mem++B)∧A.length=0+4∧∀l':List Int,rvC pc { V with mem:=l' } bs x=A++(intC .i64 l'++B):=by
 refine ⟨pc++[.int .i64 V.m],intC .i64 V.frm++(V.lc.flatMap Lcl.cs++(bs++[x])),?_,?_,fun l'=>?_⟩
 ·unfold rvC;simp only [List.append_assoc]
 ·simp only [List.length_append,hpc,List.length_cons,List.length_nil]
 ·unfold rvC;simp only [List.append_assoc]
include f hpc
theorem rv_lensF:∃A B:List Cell,rvC pc V bs x=A++(intC .i64 V.frm++B)∧A.length=0+8∧∀l':List Int,rvC pc { V with frm:=l' } bs x=A++(intC .i64 l'++B):=by
 have:=f.mem
 refine ⟨pc++(([.int .i64 V.m]:List Cell)++intC .i64 V.mem),V.lc.flatMap Lcl.cs++(bs++[x]),?_,?_,fun l'=>?_⟩
 ·unfold rvC;simp only [List.append_assoc]
 ·simp only [List.length_append,hpc,List.length_cons,List.length_nil,intC_len];omega
 ·unfold rvC;simp only [List.append_assoc]
theorem rv_lensL {t:Nat} {l:Lcl} (h:V.lc[t]? = some l):∃A B:List Cell,rvC pc V bs x=A++(l.cs++B)∧A.length=(0+12)+t*5∧∀l':Lcl,rvC pc { V with lc:=V.lc.set t l' } bs x=A++(l'.cs++B):=by
 have hi:=getI_lt h
 have e:=take_flat_len (f.lcs hpc) (Nat.le_of_lt hi)
 have:=f.mem;have:=f.frm
 refine ⟨pc++(([.int .i64 V.m]:List Cell)++(intC .i64 V.mem++(intC .i64 V.frm++(V.lc.take t).flatMap Lcl.cs))),(V.lc.drop (t+1)).flatMap Lcl.cs++(bs++[x]),?_,?_,fun l'=>?_⟩
 ·unfold rvC;rw [flat_split h];simp only [List.append_assoc]
 ·simp only [List.length_append,e,hpc,List.length_cons,List.length_nil,intC_len];omega
 ·unfold rvC;dsimp only;rw [flat_set hi];simp only [List.append_assoc]
theorem rv_lensB:∃A:List Cell,A.length=0+32∧∀bs x,rvC pc V bs x=A++(bs++[x]):=by
 have e2:=flat_len (f.lcs hpc)
 have:=f.lc;have:=f.mem;have:=f.frm
 refine ⟨pc++(([.int .i64 V.m]:List Cell)++(intC .i64 V.mem++(intC .i64 V.frm++V.lc.flatMap Lcl.cs))),?_,fun bs x=>?_⟩
 ·simp only [List.length_append,e2,hpc,List.length_cons,List.length_nil,intC_len];omega
 ·unfold rvC;simp only [List.append_assoc]
theorem rv_lcl {t:Nat} {l:Lcl} (h:V.lc[t]? = some l):((rvC pc V bs x).drop ((0+12)+t*5)).take 5=l.cs:=by
 obtain ⟨A,B,e,hA,_⟩:=rv_lensL (bs:=bs) (x:=x) f hpc h
 rw [e];exact seg_get hA rfl
theorem rv_setL {t:Nat} (ht:t<4) (l:Lcl):splice (rvC pc V bs x) ((0+12)+t*5) l.cs=rvC pc { V with lc:=V.lc.set t l } bs x:=by
 obtain ⟨A,B,e,hA,h2⟩:=rv_lensL (bs:=bs) (x:=x) f hpc (List.getElem?_eq_getElem (show t<V.lc.length by rw [f.lc];exact ht))
 rw [e,h2];exact seg_set hA rfl
theorem rv_mem {α:Type} {i:Nat} {v:Int} (h:V.mem[i]? = some v) {g:Cell→Option α}:atK (rvC pc V bs x) ((0+4)+i*1) g=g (.int .i64 v):=by
 obtain ⟨A,B,e,hA,_⟩:=rv_lensM (bs:=bs) (x:=x) f hpc
 have hi:=getI_lt h
 refine atK_ok ?_
 rw [e,List.getElem?_append_right (by omega),List.getElem?_append_left (by rw [intC_len];omega),show 0+4+i*1 - A.length=i by omega]
 exact intC_get h
theorem rv_frm {α:Type} {i:Nat} {v:Int} (h:V.frm[i]? = some v) {g:Cell→Option α}:atK (rvC pc V bs x) ((0+8)+i*1) g=g (.int .i64 v):=by
 obtain ⟨A,B,e,hA,_⟩:=rv_lensF (bs:=bs) (x:=x) f hpc
 have hi:=getI_lt h
 refine atK_ok ?_
 rw [e,List.getElem?_append_right (by omega),List.getElem?_append_left (by rw [intC_len];omega),show 0+8+i*1 - A.length=i by omega]
 exact intC_get h
theorem rv_setM {i:Nat} (hi:i<4) (v:Int):(rvC pc V bs x).set ((0+4)+i*1) (.int .i64 v)=rvC pc { V with mem:=V.mem.set i v } bs x:=by
 obtain ⟨A,B,e,hA,h2⟩:=rv_lensM (bs:=bs) (x:=x) f hpc
 have:=f.mem
 rw [e,h2,List.set_append_right _ _ (by omega),List.set_append_left _ _ (by rw [intC_len];omega),show 0+4+i*1 - A.length=i by omega]
 unfold intC
 rw [List.map_set]
theorem rv_setF {i:Nat} (hi:i<4) (v:Int):(rvC pc V bs x).set ((0+8)+i*1) (.int .i64 v)=rvC pc { V with frm:=V.frm.set i v } bs x:=by
 obtain ⟨A,B,e,hA,h2⟩:=rv_lensF (bs:=bs) (x:=x) f hpc
 have:=f.frm
 rw [e,h2,List.set_append_right _ _ (by omega),List.set_append_left _ _ (by rw [intC_len];omega),show 0+8+i*1 - A.length=i by omega]
 unfold intC
 rw [List.map_set]
include hbs
theorem rv_len:(rvC pc V bs x).length=37:=by
 obtain ⟨A,hA,e⟩:=rv_lensB f hpc
 rw [e]
 simp only [List.length_append,hA,hbs,List.length_cons,List.length_nil]
theorem rv_buf {α:Type} {t:Nat} (ht:t<4) {g:Cell→Option α}:atK (rvC pc V bs x) ((0+32)+t*1) g=g (bs.getD t .nils):=by
 obtain ⟨A,hA,e⟩:=rv_lensB f hpc
 refine atK_ok ?_
 rw [e,List.getElem?_append_right (by omega),List.getElem?_append_left (by omega),show 0+32+t*1 - A.length=t by omega,List.getD_eq_getElem?_getD,List.getElem?_eq_getElem (by omega)];rfl
theorem rv_setB {t:Nat} (ht:t<4) (c:Cell):(rvC pc V bs x).set ((0+32)+t*1) c=rvC pc V (bs.set t c) x:=by
 obtain ⟨A,hA,e⟩:=rv_lensB f hpc
 rw [e,e,List.set_append_right _ _ (by omega),List.set_append_left _ _ (by omega),show 0+32+t*1 - A.length=t by omega]
theorem rv_steps {α:Type} {g:Cell→Option α}:atK (rvC pc V bs x) (0+36) g=g x:=by
 obtain ⟨A,hA,e⟩:=rv_lensB f hpc
 refine atK_ok ?_
 rw [e,List.getElem?_append_right (by omega),List.getElem?_append_right (by omega),hA,hbs];rfl
theorem rv_setX (y:Cell):(rvC pc V bs x).set (0+36) y=rvC pc V bs y:=by
 obtain ⟨A,hA,e⟩:=rv_lensB f hpc
 rw [e,e,List.set_append_right _ _ (by omega),List.set_append_right _ _ (by omega),hA,hbs];rfl
end
structure RvAt (n:Nat) (h:AHeap) (k:Nat) (x:Cell) (bs pc:List Cell) (V:MV):Prop where
 hn:n≤h.length
 nk:n≤k
 prog:ProgAt (h.take n) pc V.P
 blk:blk? h k=some ⟨true,0,rvC pc V bs x⟩
 st:Own n h x 7 (stepsC V.st) V.st.length
 sep:¬isBlk x k
 bl:bs.length=4
 bf:∀t,t<4→Own n h (bs.getD t .nils) 3 (entsC (V.b t)) (V.b t).length∧¬isBlk (bs.getD t .nils) k∧∀j,isBlk (bs.getD t .nils) j→¬isBlk x j
def mayI (V:MV) (i:Int):Bool:=decide (0≤i)&&V.may i.toNat
theorem mayI_nat (V:MV) (i:Nat):mayI V (i:Int)=V.may i:=by
 unfold mayI
 rw [decide_eq_true (by omega),Int.toNat_natCast];rfl
theorem mayI_has (V:MV) (i:Int):mayI V i=hasI V.word i:=by
 unfold mayI hasI
 by_cases h0:0≤i
 ·rw [decide_eq_true h0,Bool.true_and,Bool.true_and,MV.word_bit]
  by_cases h:i<64
  ·rw [decide_eq_true h,Bool.and_true]
  ·rw [decide_eq_false h,Bool.and_false,MV.may_out (by omega)]
 ·rw [decide_eq_false h0];rfl
theorem ent_loc {h:AHeap} {y:Cell} {l:List Ent} (o:SlAt h y 3 (entsC l) l.length) {i:Nat} {e:Ent} (hq:l[i]? = some e) {α:Type} {f:Cell→Option α} :
  (idxSK 3 y (i:Int) fun k N o=>rdH h k N fun l=>atK l (o+0) f)=f (.int .i64 e.loc):=o.get (getI_lt hq) (by omega) (by rw [entsC_get l i e hq 0 (by omega)];rfl)
theorem ent_val {h:AHeap} {y:Cell} {l:List Ent} (o:SlAt h y 3 (entsC l) l.length) {i:Nat} {e:Ent} (hq:l[i]? = some e) {α:Type} {f:Cell→Option α} :
  (idxSK 3 y (i:Int) fun k N o=>rdH h k N fun l=>atK l (o+1) f)=f (.int .i64 e.val):=o.get (getI_lt hq) (by omega) (by rw [entsC_get l i e hq 1 (by omega)];rfl)
theorem ent_id {h:AHeap} {y:Cell} {l:List Ent} (o:SlAt h y 3 (entsC l) l.length) {i:Nat} {e:Ent} (hq:l[i]? = some e) {α:Type} {f:Cell→Option α} :
  (idxSK 3 y (i:Int) fun k N o=>rdH h k N fun l=>atK l (o+2) f)=f (.int .i64 e.id):=o.get (getI_lt hq) (by omega) (by rw [entsC_get l i e hq 2 (by omega)];rfl)
section
variable {E:Env}
theorem oldest_R' (hE:q198_In E) {n k:Nat} {h:AHeap} {x:Cell} {bs pc:List Cell} {V:MV} (a:RvAt n h k x bs pc V) (f:V.Fit) {t:Nat} (ht:t<4) (loc:Int) (p:Ent→Bool) (hp:∀e,(decide (loc<0)||e.loc==loc)=p e) :
  R E 198 [.c (.ptr k 37 0),.c (.int .i64 (t:Int)),.c (.int .i64 loc)] h=some ([.c (.int .i64 (match (V.b t).findIdx? p with | some i=>(i:Int) | none=>-1))],h):=by
 refine R_intro hE.fn ?_
 have hpc:=a.prog.len
 have hl:=rv_len (x:=x) f hpc a.bl
 have rd:∀{α:Type} {F:List Cell→Option α},rdH h k 37 F=F (rvC pc V bs x):=fun {α F}=>rdH_ok a.blk hl
 have hr:0≤(t:Int)∧(t:Int)<((4:Nat):Int):=⟨by omega,by omega⟩
 have o:=(a.bf t ht).1.at
 have hbl:(V.b t).length≤24:=f.b _ (List.mem_of_getElem? (MV.b_at (by rw [f.bf];exact ht)))
 have hL:=Lim_find (F:=q198_F1 (R E) Lim E.glob) (fun i=>q198_s1 k 37 0 (t:Int) loc (i:Int) h) (fun i=>q198_x1_0 (i:Int) h) (q198_x1_1 h) 0 (V.b t) p (fun i q hq=>by
  have hi:=getI_lt hq
  rw [q198_r1,if_pos hr,rd,Int.toNat_natCast,rv_buf f hpc a.bl ht,o.len,if_pos (by simp;omega)]
  simp only [rd,if_pos hr,rv_buf f hpc a.bl ht,ent_loc o hq,asI_ok,scK_or]
  rw [hp q,g_succ (by omega)]) (by rw [q198_r1,if_pos hr,rd,Int.toNat_natCast,rv_buf f hpc a.bl ht,o.len,if_neg (by simp)])
 have hL':Lim (q198_F1 (R E) Lim E.glob) (q198_s1 k 37 0 (t:Int) loc 0 h)=_:=hL
 rw [q198_eq,hL',bind_ok]
 cases (V.b t).findIdx? p with
 | none=>dsimp only;rw [q198_e1_1]
 | some i=>dsimp only;rw [q198_e1_0]
def fluOf (m i:Int):Int × Int × Bool :=
 if m=2∧4≤i∧i<8 then (i - 4,-1,true) else if m=3∧8≤i∧i<24 then ((i - 8) / 4,(i - 8) % 4,true) else (0,0,false)
theorem refFlush_R (hE:q197_In E) {n k:Nat} {h:AHeap} {x:Cell} {bs pc:List Cell} {V:MV} (a:RvAt n h k x bs pc V) (f:V.Fit) (i:Int) :
  R E 197 [.c (.ptr k 37 0),.c (.int .i64 i)] h=some ([.c (.int .i64 (fluOf V.m i).1),.c (.int .i64 (fluOf V.m i).2.1),.c (.bool (fluOf V.m i).2.2)],h):=by
 refine R_intro hE.fn ?_
 have hpc:=a.prog.len
 have hl:=rv_len (x:=x) f hpc a.bl
 have rd:∀{α:Type} {F:List Cell→Option α},rdH h k 37 F=F (rvC pc V bs x):=fun {α F}=>rdH_ok a.blk hl
 rw [q197_eq]
 simp only [rd,rv_m hpc,asI_ok,scK_and]
 unfold fluOf
 by_cases h2:V.m=2∧4≤i∧i<8
 ·rw [if_pos (by simp;omega),if_pos h2,g_wrap_i64 (by omega) (by omega)]
 ·rw [if_neg (by simp;omega),if_neg h2]
  by_cases h3:V.m=3∧8≤i∧i<24
  ·rw [if_pos (by simp;omega),if_pos h3,g_wrap_i64 (by omega) (by omega),g_quo,g_rem,Int.tdiv_eq_ediv_of_nonneg (by omega),Int.tmod_eq_emod_of_nonneg (by omega),wrap_i64 (by omega) (by omega)]
  ·rw [if_neg (by simp;omega),if_neg h3]
theorem findIdx_some {l:List Ent} {p:Ent→Bool}:(decide ((match l.findIdx? p with | some i=>(i:Int) | none=>-1)≥0))=(l.find? p).isSome:=by
 cases hf:l.findIdx? p with
 | none =>
  rw [List.findIdx?_eq_none_iff] at hf
  have:l.find? p=none:=by
   rw [List.find?_eq_none]
   intro e he
   rw [hf e he];simp
  rw [this];rfl
 | some i =>
  obtain ⟨hi,hp,_⟩:=List.findIdx?_eq_some_iff_getElem.1 hf
  have:(l.find? p).isSome=true:=by rw [List.find?_isSome];exact ⟨_,List.getElem_mem hi,hp⟩
  rw [this]
  exact decide_eq_true (by dsimp only;omega)
theorem May_R (hE:q196_In E) {n k:Nat} {h:AHeap} {x:Cell} {bs pc:List Cell} {V:MV} (a:RvAt n h k x bs pc V) (f:V.Fit) (hg:V.P.good) (i:Int) :
  R E 196 [.c (.ptr k 37 0),.c (.int .i64 i)] h=some ([.c (.bool (mayI V i))],h):=by
 refine R_intro hE.fn ?_
 have hpc:=a.prog.len
 have hl:=rv_len (x:=x) f hpc a.bl
 have rd:∀{α:Type} {F:List Cell→Option α},rdH h k 37 F=F (rvC pc V bs x):=fun {α F}=>rdH_ok a.blk hl
 have p:=prog_at a.prog a.hn (Kp.refl n h)
 rw [q196_eq,scK_and]
 by_cases h4:0≤i∧i<4
 ·obtain ⟨t,rfl⟩:=Int.eq_ofNat_of_zero_le h4.1
  have ht:t<4:=by omega
  have hr:0≤(t:Int)∧(t:Int)<((4:Nat):Int):=⟨by omega,by omega⟩
  have hql:=MV.l_at (V:=V) (t:=t) (by rw [f.lc];exact ht)
  have o:=(a.bf t ht).1.at
  rw [if_pos (by simp;omega),rd,if_pos (by rw [hl];omega),if_pos hr,rd,Int.toNat_natCast,if_pos (by rw [hl];omega),rv_prog hpc,rv_lcl f hpc hql,refNext_R hE.c81 hg p,qh_ok,c2_ok,asA_ok,asB_ok,if_pos (by exact ⟨rfl,rfl,rfl⟩)]
  simp only [ins_kind,asI_ok,scK_and,rd,if_pos hr,rv_buf f hpc a.bl ht,o.len,scK_or]
  rw [mayI_nat]
  have hT:V.may t=match nextI (V.P.code t) (V.l t) with | none=>false | some i=>!(i.kind==3||i.kind==4)||(V.b t).length==0:=by
   unfold MV.may;rw [if_pos ht];rfl
  rw [hT]
  cases hn:nextI (V.P.code t) (V.l t) with
  | none=>rfl
  | some q =>
   dsimp only [Option.getD_some,Option.isSome_some]
   have e:((((V.b t).length:Nat):Int)==0)=((V.b t).length==0):=by rw [Bool.eq_iff_iff,beq_iff_eq,beq_iff_eq];omega
   rw [e,Bool.true_and]
   have:(q.kind != 3&&q.kind != 4)=!(q.kind==3||q.kind==4):=by cases h3:(q.kind==3)<;>cases h4:(q.kind==4)<;>simp [bne,h3,h4]
   rw [this]
 ·rw [if_neg (by simp;omega),refFlush_R hE.c197 a f,c3_ok,asI_ok,asI_ok,asB_ok]
  unfold fluOf
  by_cases h2:V.m=2∧4≤i∧i<8
  ·rw [if_pos h2]
   obtain ⟨t,rfl⟩:=Int.eq_ofNat_of_zero_le (show 0≤i by omega)
   dsimp only
   rw [scK_ok,show ((t:Int) - 4)=((t - 4:Nat):Int) by omega,oldest_R' hE.c198 a f (by omega) (-1) (oldP 2 0) (fun e=>rfl),c1_ok,asI_ok,findIdx_some,bind_ok]
   dsimp only
   rw [mayI_nat]
   congr 4
   unfold MV.may MV.mayF
   rw [if_neg (by omega),if_pos (by omega),h2.1]
   cases V.b (t - 4) with
   | nil=>rfl
   | cons e l=>rfl
  ·rw [if_neg h2]
   by_cases h3:V.m=3∧8≤i∧i<24
   ·rw [if_pos h3]
    obtain ⟨t,rfl⟩:=Int.eq_ofNat_of_zero_le (show 0≤i by omega)
    dsimp only
    rw [scK_ok,show (((t:Int) - 8) / 4)=(((t - 8) / 4:Nat):Int) by omega,show (((t:Int) - 8) % 4)=(((t - 8) % 4:Nat):Int) by omega,oldest_R' hE.c198 a f (by omega) _ (oldP 3 (((t - 8) % 4:Nat):Int)) (fun e=>by rw [decide_eq_false (by omega)];rfl),c1_ok,asI_ok,findIdx_some,bind_ok]
    dsimp only
    rw [mayI_nat]
    congr 4
    unfold MV.may MV.mayL
    rw [if_neg (by omega),if_neg (by omega),if_pos (by omega),h3.1]
    rfl
   ·rw [if_neg h3]
    dsimp only
    rw [scK_ft]
    congr 4
    unfold mayI
    by_cases h0:0≤i
    ·rw [decide_eq_true h0,Bool.true_and]
     have hm:=f.m
     unfold MV.may MV.mayF MV.mayL
     rw [if_neg (by omega)]
     by_cases h8:i.toNat<8
     ·rw [if_pos h8,beq_false_of_ne (by omega)];rfl
     ·rw [if_neg h8]
      by_cases h24:i.toNat<24
      ·rw [if_pos h24,beq_false_of_ne (by omega)];rfl
      ·rw [if_neg h24]
    ·rw [decide_eq_false h0];rfl
end
end Jq

namespace Jq
open Go
theorem ents_at {l:List Ent} {i:Nat} {e:Ent} (h:l[i]? = some e):((entsC l).drop (i*3)).take 3=e.cs:=by
 unfold entsC
 rw [flat_split h]
 exact seg_get (take_flat_len (f:=Ent.cs) (n:=3) (fun _ _=>rfl) (Nat.le_of_lt (getI_lt h))) rfl
theorem rd0G {α:Type} {h:AHeap} {k N:Nat} {l:List Cell} (hb:blk? h k=some ⟨true,0,l⟩) (hl:l.length=N) {F:List Cell→Option α}:rd0 h k N F=F l:=by
 unfold rd0
 rw [hb,Option.bind_some,if_pos rfl]
 exact rdH_ok hb hl
theorem Own.via {n:Nat} {h h':AHeap} {y:Cell} {esz len:Nat} {cs:List Cell} (o:Own n h y esz cs len) (hf:∀j b,isBlk y j→blk? h j=some b→blk? h' j=some b):Own n h' y esz cs len:=by
 refine ⟨o.1,o.2.imp id ?_⟩
 rintro ⟨j,rfl,h1,h2⟩
 exact ⟨j,rfl,h1,hf j _ rfl h2⟩
theorem flu_data {V:MV} {i:Nat} (h4:¬i<4) (hi:V.may i=true):∃(t:Nat) (loc:Int) (p:Ent→Bool) (e:Ent),t<4∧(∀e,(decide (loc<0)||e.loc==loc)=p e)∧fluOf V.m i=((t:Int),loc,true)∧(V.b t).find? p=some e∧V.stp i=⟨i,t,6,e.loc,0,e.val,e.id⟩ ∧
  (V.nx i)={ V with bf:=V.bf.set t ((V.b t).eraseP p),mem:=V.mem.set e.loc.toNat e.val,frm:=V.frm.set e.loc.toNat e.id,st:=V.st++[V.stp i] }:=by
 have h24:=MV.may_lt hi
 have key:∀(t:Nat) (loc:Int) (e:Ent),(V.b t).find? (oldP (bmod V.m) loc)=some e→V.stp i={ V.fluS t loc with pick:=i }→V.nx i={ V.fluM t loc with st:=V.st++[V.stp i] } →
   V.stp i=⟨i,t,6,e.loc,0,e.val,e.id⟩∧(V.nx i)={ V with bf:=V.bf.set t ((V.b t).eraseP (oldP (bmod V.m) loc)),mem:=V.mem.set e.loc.toNat e.val,frm:=V.frm.set e.loc.toNat e.id,st:=V.st++[V.stp i] }:=by
  intro t loc e he e1 e2
  have hee:V.fluE t loc=e:=by unfold MV.fluE;rw [he];rfl
  refine ⟨?_,?_⟩
  ·rw [e1];unfold MV.fluS;rw [hee]
  ·rw [e2];unfold MV.fluM;rw [hee]
 by_cases h8:i<8
 ·have hi':=hi
  unfold MV.may MV.mayF at hi'
  rw [if_neg h4,if_pos h8,Bool.and_eq_true] at hi'
  have hm2:V.m=2:=beq_iff_eq.1 hi'.1
  have hne:(V.b (i - 4)).length≠0:=by simpa using hi'.2
  obtain ⟨e,he⟩:∃e,(V.b (i - 4)).find? (oldP (bmod V.m) 0)=some e:=by
   rw [hm2]
   cases hbb:V.b (i - 4) with
   | nil=>rw [hbb] at hne;exact absurd rfl hne
   | cons e l=>exact ⟨e,rfl⟩
  obtain ⟨k1,k2⟩:=key (i - 4) 0 e he (by unfold MV.stp;rw [if_neg h4,if_pos h8]) (by unfold MV.nx;rw [if_neg h4,if_pos h8])
  refine ⟨i - 4,-1,oldP (bmod V.m) 0,e,by omega,fun e=>by rw [hm2];rfl,?_,he,k1,k2⟩
  unfold fluOf
  rw [if_pos ⟨hm2,by omega,by omega⟩,show ((i:Int) - 4)=((i - 4:Nat):Int) by omega]
 ·have hi':=hi
  unfold MV.may MV.mayL at hi'
  rw [if_neg h4,if_neg h8,if_pos h24,Bool.and_eq_true] at hi'
  have hm3:V.m=3:=beq_iff_eq.1 hi'.1
  obtain ⟨e,he⟩:=Option.isSome_iff_exists.1 hi'.2
  have he':(V.b ((i - 8) / 4)).find? (oldP (bmod V.m) (((i - 8) % 4:Nat):Int))=some e:=by rw [hm3];exact he
  obtain ⟨k1,k2⟩:=key ((i - 8) / 4) _ e he' (by unfold MV.stp;rw [if_neg h4,if_neg h8]) (by unfold MV.nx;rw [if_neg h4,if_neg h8])
  refine ⟨(i - 8) / 4,(((i - 8) % 4:Nat):Int),_,e,by omega,fun e=>?_,?_,he',k1,k2⟩
  ·rw [decide_eq_false (by omega),hm3];rfl
  ·unfold fluOf
   rw [if_neg (by omega),if_pos ⟨hm3,by omega,by omega⟩,show (((i:Int) - 8) / 4)=(((i - 8) / 4:Nat):Int) by omega,show (((i:Int) - 8) % 4)=(((i - 8) % 4:Nat):Int) by omega]
theorem eraseP_idx {l:List Ent} {p:Ent→Bool} {e:Ent} (he:l.find? p=some e):∃j,l.findIdx? p=some j∧l[j]? = some e∧l.eraseP p=l.take j++l.drop (j+1):=by
 obtain ⟨j,hj⟩:∃j,l.findIdx? p=some j:=by
  cases hx:l.findIdx? p with
  | some j=>exact ⟨j,rfl⟩
  | none =>
   rw [List.findIdx?_eq_none_iff] at hx
   have:=hx e (List.mem_of_find?_eq_some he)
   rw [List.find?_some he] at this;cases this
 obtain ⟨h1,h2,h3⟩:=List.findIdx?_eq_some_iff_getElem.1 hj
 have hfi:l.find? p=some l[j]:=by
  rw [List.find?_eq_some_iff_getElem]
  exact ⟨h2,j,h1,rfl,fun k hk=>by have:=h3 k hk;simpa using this⟩
 rw [hfi] at he
 refine ⟨j,hj,by rw [List.getElem?_eq_getElem h1];exact he,?_⟩
 rw [List.eraseP_eq_eraseIdx,hj]
 exact List.eraseIdx_eq_take_drop_succ _ _
section
variable {E:Env}
theorem rv_push {n k:Nat} {h:AHeap} {x:Cell} {bs pc:List Cell} {W:MV} (b:blk? h k=some ⟨true,0,rvC pc W bs x⟩) (f:W.Fit) (hpc:pc.length=3) (bl:bs.length=4) (hn:n≤h.length) (nk:n≤k) (prog:ProgAt (h.take n) pc W.P) (st:Own n h x 7 (stepsC W.st) W.st.length) (sep:¬isBlk x k)
  (bf:∀t,t<4→Own n h (bs.getD t .nils) 3 (entsC (W.b t)) (W.b t).length∧¬isBlk (bs.getD t .nils) k∧∀j,isBlk (bs.getD t .nils) j→¬isBlk x j) (hst:W.st.length<100000) (s:Stp) :
  ∃x' h',(∀{α:Type} (F:AHeap→Option α),(appK 7 56 x s.cs h fun x_57 h_58=>rdH h_58 k 37 fun l_59=>if (0+36)<l_59.length then putH h_58 k (l_59.set (0+36) x_57) F else none)=F h') ∧
   RvAt n h' k x' bs pc { W with st:=W.st++[s] }∧Kp n h h'∧(∀j b,blk? h j=some b→j≠k→¬isBlk x j→blk? h' j=some b∧¬isBlk x' j):=by
 have hb:maxBytes≥200000*56:=by unfold maxBytes;omega
 obtain ⟨x',h',e1,o1,k1,r1⟩:=st.app (bytes:=56) hn (stp_len s) (by omega) (by omega) (by omega)
 obtain ⟨c1,c2⟩:=r1 k _ b sep
 have hl:=rv_len (x:=x) f hpc bl
 have kp2:Kp n h (setBlk h' k (some ⟨true,0,rvC pc W bs x'⟩)):=k1.trans (Kp.set nk _)
 have fr:∀j b,blk? h j=some b→j≠k→¬isBlk x j→blk? (setBlk h' k (some ⟨true,0,rvC pc W bs x'⟩)) j=some b∧¬isBlk x' j:=fun j b hj hne hnx=>by
  obtain ⟨d1,d2⟩:=r1 j b hj hnx
  exact ⟨by rw [blk_set_ne (fun e=>hne e.symm)];exact d1,d2⟩
 refine ⟨x',setBlk h' k (some ⟨true,0,rvC pc W bs x'⟩),fun F=>?_,⟨Nat.le_trans hn kp2.1,nk,?_,blk_set_self (blk_lt' c1) _,?_,c2,bl,fun t ht=>?_⟩,kp2,fr⟩
 ·rw [e1,rdH_ok c1 hl,if_pos (by rw [hl];omega),rv_setX f hpc bl,putB c1]
 ·rw [take_keep kp2];exact prog
 ·show Own n _ x' 7 (stepsC (W.st++[s])) (W.st++[s]).length
  rw [stepsC_snoc,List.length_append,List.length_singleton]
  exact o1.setO c2 _
 ·obtain ⟨b1,b2,b3⟩:=bf t ht
  have hj:∀j b,isBlk (bs.getD t .nils) j→blk? h j=some b→blk? (setBlk h' k (some ⟨true,0,rvC pc W bs x'⟩)) j=some b∧¬isBlk x' j:=fun j b q1 q2=>fr j b q2 (fun e=>b2 (e ▸ q1)) (b3 j q1)
  refine ⟨b1.via fun j b q1 q2=>(hj j b q1 q2).1,b2,fun j q=>?_⟩
  obtain ⟨_,hlt⟩:=b1.blkLt' q
  rcases b1.2 with ⟨e,_⟩ | ⟨j',e,_,hbb⟩
  ·rw [e] at q;exact absurd q (by simp [isBlk])
  ·have:j'=j:=by rw [e] at q;exact q
   subst this
   exact (hj j' _ q hbb).2
set_option maxHeartbeats 2000000 in
theorem rFlush (hE:q182_In E) {n k:Nat} {h:AHeap} {x:Cell} {bs pc:List Cell} {V:MV} (a:RvAt n h k x bs pc V) (v:V.Inv) (hst:V.st.length<100000) {i:Int} {t:Nat} (ht:t<4) {loc:Int} {p:Ent→Bool} {e:Ent}
  (hp:∀e,(decide (loc<0)||e.loc==loc)=p e) (hf:(V.b t).find? p=some e) (z:List Cell) (hz:z.length=7) :
  ∃x' bs' h',(q182_k6 (R E) Lim E.glob) .normal (q182_c5 k 37 0 i V.st.length (t:Int) loc true z (Stp.cs ⟨i,i,0,0,0,0,-1⟩) h)=some (.ret,q182_c4_0 true (Stp.cs ⟨i,t,6,e.loc,0,e.val,e.id⟩) h') ∧
   RvAt n h' k x' bs' pc { V with bf:=V.bf.set t ((V.b t).eraseP p),mem:=V.mem.set e.loc.toNat e.val,frm:=V.frm.set e.loc.toNat e.id,st:=V.st++[⟨i,t,6,e.loc,0,e.val,e.id⟩] }∧KpV n k x x' h h':=by
 have f:=v.fit
 have hpc:=a.prog.len
 have hl:=rv_len (x:=x) f hpc a.bl
 have hr:0≤(t:Int)∧(t:Int)<((4:Nat):Int):=⟨by omega,by omega⟩
 have hk:k<h.length:=blk_lt' a.blk
 have hbl:=v.blen ht
 obtain ⟨j,hj,hje,her⟩:=eraseP_idx hf
 have hjl:=getI_lt hje
 have hel:=v.mem_b (List.mem_of_getElem? hje)
 have hel':0≤e.loc∧e.loc<((4:Nat):Int):=⟨hel.1,by omega⟩
 have he4:e.loc.toNat<4:=by omega
 have hM:maxBytes≥1000*24:=by unfold maxBytes;omega
 obtain ⟨b1,b2,b3⟩:=a.bf t ht
 have kA:Kp h.length h (h++[some ⟨true,3,([]:List Cell)⟩]):=Kp.app _ (Nat.le_refl _)
 obtain ⟨⟨xa,ea1,ea2⟩,_⟩:=(b1.keepK kA).slc (by omega) (a:=j) (by omega)
 have tk:=ents_take (V.b t) j
 rw [Nat.min_eq_left (by omega)] at tk
 rw [tk.1] at ea2
 have lenA:(entsC ((V.b t).take j)).length=j*3:=by rw [entsC_len,List.length_take,Nat.min_eq_left (by omega)]
 have kB:Kp h.length h (h++[some ⟨true,3,entsC ((V.b t).take j)⟩]):=Kp.app _ (Nat.le_refl _)
 have oB:Own h.length (h++[some ⟨true,3,entsC ((V.b t).take j)⟩]) (.sl h.length (entsC ((V.b t).take j)).length 0 j) 3 (entsC ((V.b t).take j)) j:=⟨lenA,.inr ⟨h.length,rfl,Nat.le_refl _,blk_new _ _⟩⟩
 obtain ⟨_,⟨xb,eb1,eb2⟩⟩:=(b1.keepK kB).slc (by omega) (a:=j+1) (by omega)
 have tk2:=ents_take (V.b t) (j+1)
 rw [Nat.min_eq_left (by omega)] at tk2
 rw [tk2.2] at eb2
 have lenB:(entsC ((V.b t).drop (j+1))).length=((V.b t).length - (j+1))*3:=by rw [entsC_len,List.length_drop]
 obtain ⟨x3,h3,e3,o3,k3,_⟩:=oB.appN (bytes:=24) (by simp) lenB (by omega) (by omega) (by omega)
 have kC:Kp h.length h h3:=kB.trans k3
 have nl:((V.b t).eraseP p).length=j+((V.b t).length - (j+1)):=by rw [her,List.length_append,List.length_take,List.length_drop,Nat.min_eq_left (by omega)]
 have o3':Own h.length h3 x3 3 (entsC ((V.b t).eraseP p)) ((V.b t).eraseP p).length:=by rw [nl,her,entsC_append];exact o3
 have bk3:blk? h3 k=some ⟨true,0,rvC pc V bs x⟩:=by rw [kC.blk hk];exact a.blk
 have bl':(bs.set t x3).length=4:=by rw [List.length_set];exact a.bl
 have el24:((V.b t).eraseP p).length≤24:=by omega
 have f1:MV.Fit { V with bf:=V.bf.set t ((V.b t).eraseP p) }:=⟨f.m,f.lc,f.mem,f.frm,by rw [List.length_set];exact f.bf,fun l hl=>by
  rcases List.mem_or_eq_of_mem_set hl with hl | rfl
  ·exact f.b l hl
  ·exact el24⟩
 have f2:MV.Fit { V with bf:=V.bf.set t ((V.b t).eraseP p),mem:=V.mem.set e.loc.toNat e.val }:=⟨f1.m,f1.lc,by rw [List.length_set];exact f1.mem,f1.frm,f1.bf,f1.b⟩
 have f3:MV.Fit { V with bf:=V.bf.set t ((V.b t).eraseP p),mem:=V.mem.set e.loc.toNat e.val,frm:=V.frm.set e.loc.toNat e.id }:=⟨f2.m,f2.lc,f2.mem,by rw [List.length_set];exact f2.frm,f2.bf,f2.b⟩
 have hbW:∀(t':Nat),(MV.mk V.P V.m V.lc (V.mem.set e.loc.toNat e.val) (V.frm.set e.loc.toNat e.id) (V.bf.set t ((V.b t).eraseP p)) V.st).b t'=if t'=t then (V.b t).eraseP p else V.b t':=fun t'=>by
  show (V.bf.set t _).getD t' []=_
  rw [getDset (by rw [f.bf];exact ht)];rfl
 have k3l:k<h3.length:=blk_lt' bk3
 have bw:∀l,blk? (setBlk h3 k (some ⟨true,0,l⟩)) k=some ⟨true,0,l⟩:=fun l=>blk_set_self k3l _
 have kD:∀b,Kp n h (setBlk h3 k b):=fun b=>(kC.mono a.hn).trans (Kp.set a.nk b)
 have xlt:∀j,isBlk x j→j<h.length:=fun j q=>(a.st.blkLt' q).2
 obtain ⟨x',h',e9,r9,k9,fr9⟩:=rv_push (W:={ V with bf:=V.bf.set t ((V.b t).eraseP p),mem:=V.mem.set e.loc.toNat e.val,frm:=V.frm.set e.loc.toNat e.id }) (bs:=bs.set t x3) (bw _) f3 hpc bl' (Nat.le_trans a.hn (kD _).1) a.nk (by rw [take_keep (kD _)];exact a.prog)
  ((a.st.keepK kC).setO a.sep _) a.sep (fun t' ht'=>by
   rw [hbW,getDset (by rw [a.bl];exact ht)]
   by_cases e:t'=t
   ·rw [if_pos e,if_pos e]
    have nk3:¬isBlk x3 k:=fun q=>by have:=(o3.blkLt q).2;omega
    exact ⟨(o3'.monoN a.hn).setO nk3 _,nk3,fun j q1 q2=>by have:=(o3.blkLt q1).2;have:=xlt j q2;omega⟩
   ·rw [if_neg e,if_neg e]
    obtain ⟨q1,q2,q3⟩:=a.bf t' ht'
    exact ⟨(q1.keepK kC).setO q2 _,q2,q3⟩) hst ⟨i,t,6,e.loc,0,e.val,e.id⟩
 refine ⟨x',bs.set t x3,h',?_,r9,⟨(kD _).trans k9,fun j b hj hne hnx=>fr9 j b (by rw [blk_set_ne (fun e=>hne e.symm),kC.blk (blk_lt' hj)];exact hj) hne hnx⟩⟩
 have rd:∀{α:Type} {F:List Cell→Option α},rdH h k 37 F=F (rvC pc V bs x):=fun {α F}=>rdH_ok a.blk hl
 have bA:blk? (h++[some ⟨true,3,([]:List Cell)⟩]) k=some ⟨true,0,rvC pc V bs x⟩:=blk_old a.blk _
 have bB:blk? (h++[some ⟨true,3,entsC ((V.b t).take j)⟩]) k=some ⟨true,0,rvC pc V bs x⟩:=blk_old a.blk _
 have rdW:∀(W:MV) (fW:W.Fit) {α:Type} {F:List Cell→Option α},rdH (setBlk h3 k (some ⟨true,0,rvC pc W (bs.set t x3) x⟩)) k 37 F=F (rvC pc W (bs.set t x3) x):=fun W fW {α F}=>rdH_ok (bw _) (rv_len (x:=x) fW hpc bl')
 obtain ⟨off,cs',g1,g2,g3⟩:=b1.at.elG hjl
 rw [ents_at hje] at g3
 have ca0:∀{α:Type} {g:Cell→Option α},atK e.cs 0 g=g (.int .i64 e.loc):=rfl
 have ca1:∀{α:Type} {g:Cell→Option α},atK e.cs 1 g=g (.int .i64 e.val):=rfl
 have ca2:∀{α:Type} {g:Cell→Option α},atK e.cs 2 g=g (.int .i64 e.id):=rfl
 rw [q182_ec5_n,if_pos rfl,oldest_R' hE.c198 a f ht loc p hp,c1_ok,asI_ok,hj,bind_ok]
 dsimp only
 rw [q182_ec6_n,if_pos hr,rd,Int.toNat_natCast,rv_buf f hpc a.bl ht,g1,if_pos g2,g3,if_pos (by exact ⟨rfl,rfl,rfl⟩),bind_ok]
 dsimp only
 rw [q182_ec7_n,if_pos (by rfl),if_pos hr,Int.toNat_natCast,rd0G bA hl,rv_buf f hpc a.bl ht,ea1,ea2,bind_ok,show ([]:List Cell).length=0 from rfl,app_emptyG (len:=j) (by omega) lenA (by omega) (by omega),if_pos hr,rd0G bB hl,rv_buf f hpc a.bl ht,g_succ (by omega),eb1,eb2,bind_ok,e3,if_pos hr,rdH_ok bk3 hl,if_pos (by rw [hl];omega),rv_setB f hpc a.bl ht,putB bk3,bind_ok]
 dsimp only
 rw [q182_ec8_n,ca0,asI_ok,ca0,asI_ok,ca1,asI_ok,ca2,asI_ok]
 have e1:rvC pc V (bs.set t x3) x=rvC pc { V with bf:=V.bf.set t ((V.b t).eraseP p) } (bs.set t x3) x:=rfl
 rw [e1,if_pos hel',rdW _ f1,if_pos (by rw [rv_len (x:=x) f1 hpc bl'];omega),rv_setM f1 hpc he4,putB (bw _),setBlk_set,if_pos hel',rdW _ f2,if_pos (by rw [rv_len (x:=x) f2 hpc bl'];omega),rv_setF f2 hpc he4,putB (bw _),setBlk_set,bind_ok]
 dsimp only
 rw [q182_ec9_n,ca0,asI_ok,ca1,asI_ok,ca2,asI_ok,if_pos (by exact (by decide:1<7)),if_pos (by exact (by decide:2<7)),if_pos (by exact (by decide:3<7)),if_pos (by exact (by decide:5<7)),if_pos (by exact (by decide:6<7)),bind_ok]
 dsimp only
 have eS:((((((Stp.cs ⟨i,i,0,0,0,0,-1⟩).set 1 (.int .i64 (t:Int))).set 2 (.int .i64 6)).set 3 (.int .i64 e.loc)).set 5 (.int .i64 e.val)).set 6 (.int .i64 e.id))=Stp.cs ⟨i,t,6,e.loc,0,e.val,e.id⟩:=rfl
 have s7':∀s:Stp,splice (List.replicate 7 ci0) 0 s.cs=s.cs:=fun _=>rfl
 rw [eS,q182_ec10_n,rdW _ f3,rv_steps f3 hpc bl',if_pos (by exact ⟨rfl,rfl⟩),if_pos (by exact ⟨rfl,by decide⟩),s7',if_pos (by exact rfl),e9,if_pos (by exact ⟨rfl,rfl⟩),if_pos (by exact ⟨rfl,hz,rfl⟩)]
end
end Jq

namespace Jq
open Go
theorem wr_fit {V:MV} (v:V.Inv) {i:Nat} (e:Evt) (hb:(V.b i).length<24):(V.wr i e).Fit:=by
 have f:=v.fit
 unfold MV.wr
 split
 ·refine ⟨f.m,f.lc,f.mem,f.frm,by rw [List.length_set];exact f.bf,fun l hl=>?_⟩
  rcases List.mem_or_eq_of_mem_set hl with hl | rfl
  ·exact f.b l hl
  ·rw [List.length_append,List.length_singleton];omega
 ·split
  ·exact ⟨f.m,f.lc,by rw [List.length_set];exact f.mem,by rw [List.length_set];exact f.frm,f.bf,f.b⟩
  ·exact f
section
variable {E:Env}
set_option maxHeartbeats 1000000 in
theorem rWrite {n k:Nat} {h:AHeap} {x:Cell} {bs pc:List Cell} {V:MV} (a:RvAt n h k x bs pc V) (v:V.Inv) {i:Nat} (hi:i<4) (hb:(V.b i).length<24) (e:Evt) (he:0≤e.loc∧e.loc<4) (he45:e.kind=2∨e.kind=4∨evWr e=false) (a15:Int) (z s1:List Cell) :
  ∃bs' h',(q182_k25 (R E) Lim E.glob) .normal (q182_c20 k 37 0 (i:Int) V.st.length a15 (e.kind==4||(e.kind==2&&V.m==1)) z s1 e.cs h)=some (.normal,q182_c19 k 37 0 (i:Int) a15 z s1 h') ∧
   blk? h' k=some ⟨true,0,rvC pc (V.wr i e) bs' x⟩∧bs'.length=4∧(∀t,t<4→Own n h' (bs'.getD t .nils) 3 (entsC ((V.wr i e).b t)) ((V.wr i e).b t).length∧¬isBlk (bs'.getD t .nils) k∧∀j,isBlk (bs'.getD t .nils) j→¬isBlk x j) ∧
   Kp n h h'∧(∀j b,blk? h j=some b→j≠k→blk? h' j=some b):=by
 have f:=v.fit
 have hpc:=a.prog.len
 have hl:=rv_len (x:=x) f hpc a.bl
 have hr:0≤(i:Int)∧(i:Int)<((4:Nat):Int):=⟨by omega,by omega⟩
 have hk:k<h.length:=blk_lt' a.blk
 have hel':0≤e.loc∧e.loc<((4:Nat):Int):=⟨he.1,by omega⟩
 have he4:e.loc.toNat<4:=by omega
 have hM:maxBytes≥1000*24:=by unfold maxBytes;omega
 have rd:∀{α:Type} {F:List Cell→Option α},rdH h k 37 F=F (rvC pc V bs x):=fun {α F}=>rdH_ok a.blk hl
 have bw:∀l,blk? (setBlk h k (some ⟨true,0,l⟩)) k=some ⟨true,0,l⟩:=fun l=>blk_set_self hk _
 have xlt:∀j,isBlk x j→j<h.length:=fun j q=>(a.st.blkLt' q).2
 rw [q182_ec20_n]
 by_cases hmem:e.kind=4∨(e.kind=2∧V.m=1)
 ·rw [if_pos (by rw [Bool.or_eq_true,Bool.and_eq_true,beq_iff_eq,beq_iff_eq,beq_iff_eq];exact hmem)]
  have hw:V.wr i e={ V with mem:=V.mem.set e.loc.toNat e.w,frm:=V.frm.set e.loc.toNat V.st.length }:=by
   unfold MV.wr
   rw [if_neg (by omega),if_pos (by unfold evWr;rw [Bool.or_eq_true,beq_iff_eq,beq_iff_eq];omega)]
  rw [hw]
  have f1:MV.Fit { V with mem:=V.mem.set e.loc.toNat e.w }:=⟨f.m,f.lc,by rw [List.length_set];exact f.mem,f.frm,f.bf,f.b⟩
  have rd1:∀{α:Type} {F:List Cell→Option α},rdH (setBlk h k (some ⟨true,0,rvC pc { V with mem:=V.mem.set e.loc.toNat e.w } bs x⟩)) k 37 F=F (rvC pc { V with mem:=V.mem.set e.loc.toNat e.w } bs x):=fun {α F}=>rdH_ok (bw _) (rv_len (x:=x) f1 hpc a.bl)
  refine ⟨bs,setBlk h k (some ⟨true,0,rvC pc { V with mem:=V.mem.set e.loc.toNat e.w,frm:=V.frm.set e.loc.toNat V.st.length } bs x⟩),?_,bw _,a.bl,fun t ht=>?_,Kp.set a.nk _,fun j b hj hne=>by rw [blk_set_ne (fun e=>hne e.symm)];exact hj⟩
  ·rw [evt_loc,asI_ok,evt_loc,asI_ok,evt_w,asI_ok,if_pos hel',rd,if_pos (by rw [hl];omega),rv_setM f hpc he4,putB a.blk,if_pos hel',rd1,if_pos (by rw [rv_len (x:=x) f1 hpc a.bl];omega),rv_setF f1 hpc he4,putB (bw _),setBlk_set]
  ·obtain ⟨q1,q2,q3⟩:=a.bf t ht
   exact ⟨q1.setO q2 _,q2,q3⟩
 ·rw [if_neg (by rw [Bool.or_eq_true,Bool.and_eq_true,beq_iff_eq,beq_iff_eq,beq_iff_eq];exact hmem),evt_kind,asI_ok,bind_ok]
  dsimp only
  rw [q182_ec21_n]
  by_cases h2:e.kind=2
  ·have hm1:V.m≠1:=fun q=>hmem (.inr ⟨h2,q⟩)
   have hw:V.wr i e={ V with bf:=V.bf.set i (V.b i++[⟨e.loc,e.w,V.st.length⟩]) }:=by
    unfold MV.wr
    rw [if_pos ⟨h2,hm1⟩]
   rw [hw]
   obtain ⟨b1,b2,b3⟩:=a.bf i hi
   have kA:Kp h.length h (h++[some ⟨true,3,([]:List Cell)⟩]):=Kp.app _ (Nat.le_refl _)
   have cl:=(b1.keepK kA).at.cellsG
   have lenA:(entsC (V.b i)).length=(V.b i).length*3:=entsC_len _
   have oB:Own h.length (h++[some ⟨true,3,entsC (V.b i)⟩]) (.sl h.length (entsC (V.b i)).length 0 (V.b i).length) 3 (entsC (V.b i)) (V.b i).length:=⟨lenA,.inr ⟨h.length,rfl,Nat.le_refl _,blk_new _ _⟩⟩
   have kB:Kp h.length h (h++[some ⟨true,3,entsC (V.b i)⟩]):=Kp.app _ (Nat.le_refl _)
   obtain ⟨x3,h3,e3,o3,k3,_⟩:=oB.app (bytes:=24) (xs:=Ent.cs ⟨e.loc,e.w,V.st.length⟩) (by simp) rfl (by omega) (by omega) (by omega)
   have kC:Kp h.length h h3:=kB.trans k3
   have o3':Own h.length h3 x3 3 (entsC (V.b i++[⟨e.loc,e.w,V.st.length⟩])) (V.b i++[(⟨e.loc,e.w,V.st.length⟩:Ent)]).length:=by
    rw [entsC_append,List.length_append,List.length_singleton];exact o3
   have bk3:blk? h3 k=some ⟨true,0,rvC pc V bs x⟩:=by rw [kC.blk hk];exact a.blk
   have k3l:k<h3.length:=blk_lt' bk3
   have bA:blk? (h++[some ⟨true,3,([]:List Cell)⟩]) k=some ⟨true,0,rvC pc V bs x⟩:=blk_old a.blk _
   have nk3:¬isBlk x3 k:=fun q=>by have:=(o3.blkLt q).2;omega
   refine ⟨bs.set i x3,setBlk h3 k (some ⟨true,0,rvC pc V (bs.set i x3) x⟩),?_,blk_set_self k3l _,by rw [List.length_set];exact a.bl,fun t ht=>?_,(kC.mono a.hn).trans (Kp.set a.nk _),fun j b hj hne=>by rw [blk_set_ne (fun e=>hne e.symm),kC.blk (blk_lt' hj)];exact hj⟩
   ·rw [if_pos (by rw [beq_iff_eq];exact h2),if_pos (by rfl),if_pos hr,rd0G bA hl,Int.toNat_natCast,rv_buf f hpc a.bl hi,cl,bind_ok,show ([]:List Cell).length=0 from rfl,app_emptyG (len:=(V.b i).length) (by omega) lenA (by omega) (by omega),evt_loc,asI_ok,evt_w,asI_ok,if_pos (by exact ⟨rfl,by decide⟩),if_pos (by rfl)]
    have eE:splice [ci0,ci0,ci0] 0 (splice (splice (splice [ci0,ci0,ci0] 0 [(.int .i64 e.loc)]) 1 [(.int .i64 e.w)]) 2 [(.int .i64 (V.st.length:Int))])=Ent.cs ⟨e.loc,e.w,V.st.length⟩:=rfl
    rw [eE,e3,if_pos hr,rdH_ok bk3 hl,if_pos (by rw [hl];omega),rv_setB f hpc a.bl hi,putB bk3]
   ·have hbW:(MV.mk V.P V.m V.lc V.mem V.frm (V.bf.set i (V.b i++[⟨e.loc,e.w,V.st.length⟩])) V.st).b t=if t=i then V.b i++[⟨e.loc,e.w,V.st.length⟩] else V.b t:=by
     show (V.bf.set i _).getD t []=_
     rw [getDset (by rw [f.bf];exact hi)];rfl
    rw [hbW,getDset (by rw [a.bl];exact hi)]
    by_cases q:t=i
    ·rw [if_pos q,if_pos q]
     exact ⟨(o3'.monoN a.hn).setO nk3 _,nk3,fun j q1 q2=>by have:=(o3.blkLt q1).2;have:=xlt j q2;omega⟩
    ·rw [if_neg q,if_neg q]
     obtain ⟨q1,q2,q3⟩:=a.bf t ht
     exact ⟨(q1.keepK kC).setO q2 _,q2,q3⟩
  ·have hw:V.wr i e=V:=by
    unfold MV.wr
    have:evWr e=false:=by
     rcases he45 with q | q | q
     ·exact absurd q h2
     ·exact absurd (.inl q) hmem
     ·exact q
    rw [if_neg (fun c=>h2 c.1),this];rfl
   rw [hw]
   exact ⟨bs,h,by rw [if_neg (by rw [beq_iff_eq];exact h2)],a.blk,a.bl,a.bf,Kp.refl _ _,fun j b hj _=>hj⟩
theorem rRead {n k:Nat} {h:AHeap} {x:Cell} {bs pc:List Cell} {V:MV} (a:RvAt n h k x bs pc V) (f:V.Fit) {i:Nat} (hi:i<4) {q:Ins} (hq:0≤q.loc∧q.loc<4) (n6:Int) (z:List Cell) :
  (q182_k14 (R E) Lim E.glob) .normal (q182_c13 k 37 0 (i:Int) n6 0 (rdI q) z (Stp.cs ⟨i,i,0,0,0,0,-1⟩) q.cs h) =
   some (.normal,q182_c12 k 37 0 (i:Int) n6 (if rdI q=true then (V.val i q).1 else 0) z (Stp.cs ⟨i,i,0,0,0,0,if rdI q=true then (V.val i q).2 else -1⟩) q.cs h):=by
 have hpc:=a.prog.len
 have hl:=rv_len (x:=x) f hpc a.bl
 have hr:0≤(i:Int)∧(i:Int)<((4:Nat):Int):=⟨by omega,by omega⟩
 have rd:∀{α:Type} {F:List Cell→Option α},rdH h k 37 F=F (rvC pc V bs x):=fun {α F}=>rdH_ok a.blk hl
 have hql:0≤q.loc∧q.loc<((4:Nat):Int):=⟨hq.1,by omega⟩
 have hq4:q.loc.toNat<4:=by omega
 have hmem:V.mem[q.loc.toNat]? = some (V.mem.getD q.loc.toNat 0):=by
  rw [List.getD_eq_getElem?_getD,List.getElem?_eq_getElem (by rw [f.mem];exact hq4)];rfl
 have hfrm:V.frm[q.loc.toNat]? = some (V.frm.getD q.loc.toNat 0):=by
  rw [List.getD_eq_getElem?_getD,List.getElem?_eq_getElem (by rw [f.frm];exact hq4)];rfl
 have o:=(a.bf i hi).1.at
 have hbl:(V.b i).length≤24:=f.b _ (List.mem_of_getElem? (MV.b_at (by rw [f.bf];exact hi)))
 rw [q182_ec13_n]
 cases hrd:rdI q with
 | false=>rfl
 | true =>
  rw [if_pos rfl,if_pos rfl,if_pos rfl]
  generalize hg:(fun l:List Ent=>match newE q.loc l with | some e=>(e.val,e.id) | none=>(V.mem.getD q.loc.toNat 0,V.frm.getD q.loc.toNat 0))=g
  have g0:g []=(V.mem.getD q.loc.toNat 0,V.frm.getD q.loc.toNat 0):=by rw [←hg];rfl
  have gs:∀(l:List Ent) (e:Ent),g (l++[e])=if e.loc=q.loc then (e.val,e.id) else g l:=fun l e=>by
   rw [←hg]
   dsimp only
   rw [newE_snoc]
   by_cases c:e.loc=q.loc
   ·rw [if_pos c,if_pos c]
   ·rw [if_neg c,if_neg c]
  have gv:V.val i q=g (V.b i):=by rw [←hg];rfl
  have lp:Lim (q182_F1 (R E) Lim E.glob) (q182_s1 k 37 0 (i:Int) n6 (g []).1 ((0:Nat):Int) z (Stp.cs ⟨i,i,0,0,0,0,(g []).2⟩) q.cs h)=some (.exit 0,q182_x1_1 k 37 0 (i:Int) n6 (g (V.b i)).1 z (Stp.cs ⟨i,i,0,0,0,0,(g (V.b i)).2⟩) q.cs h):=by
   have lc:=Lim_count (F:=q182_F1 (R E) Lim E.glob) (fun j=>q182_s1 k 37 0 (i:Int) n6 (g ((V.b i).take j)).1 (j:Int) z (Stp.cs ⟨i,i,0,0,0,0,(g ((V.b i).take j)).2⟩) q.cs h) 0 (V.b i).length (by omega) (fun j _ hj=>by
    have he:(V.b i)[j]? = some (V.b i)[j]:=List.getElem?_eq_getElem hj
    generalize (V.b i)[j]=e at he
    rw [takeI_succ he,gs]
    rw [q182_r1,if_pos hr,rd,Int.toNat_natCast,rv_buf f hpc a.bl hi,o.len,if_pos (by simp;omega),bind_ok]
    dsimp only
    rw [q182_ec15_n,if_pos hr,rd,Int.toNat_natCast,rv_buf f hpc a.bl hi,ent_loc o he,asI_ok,ins_loc,asI_ok,bind_ok]
    dsimp only
    rw [q182_ec16_n,g_succ (by omega)]
    by_cases c:e.loc=q.loc
    ·rw [if_pos (by rw [beq_iff_eq];exact c),if_pos c,if_pos hr,rd,Int.toNat_natCast,rv_buf f hpc a.bl hi,ent_val o he,asI_ok,if_pos hr,rd,rv_buf f hpc a.bl hi,ent_id o he,asI_ok,if_pos (by exact (by decide:6<7))]
     rfl
    ·rw [if_neg (by rw [beq_iff_eq];exact c),if_neg c]) (p:=(.exit 0,q182_x1_1 k 37 0 (i:Int) n6 (g (V.b i)).1 z (Stp.cs ⟨i,i,0,0,0,0,(g (V.b i)).2⟩) q.cs h)) (Lim_exit (by
    rw [q182_r1,if_pos hr,rd,Int.toNat_natCast,rv_buf f hpc a.bl hi,o.len,if_neg (by simp),bind_ok,List.take_of_length_le (Nat.le_refl _)]
    dsimp only
    rw [q182_ec15_1]))
   rw [List.take_zero] at lc
   exact lc
  rw [show ((0:Nat):Int)=0 from rfl,g0] at lp
  rw [ins_loc,asI_ok,if_pos hql,rd,rv_mem f hpc hmem,asI_ok,ins_loc,asI_ok,if_pos hql,rd,rv_frm f hpc hfrm,asI_ok,if_pos (by exact (by decide:6<7)),bind_ok]
  dsimp only
  rw [show (Stp.cs ⟨i,i,0,0,0,0,-1⟩).set 6 (.int .i64 (V.frm.getD q.loc.toNat 0))=Stp.cs ⟨i,i,0,0,0,0,V.frm.getD q.loc.toNat 0⟩ from rfl,q182_ec14_n,lp,bind_ok]
  dsimp only
  rw [q182_e1_1,gv]
set_option maxHeartbeats 2000000 in
theorem rThread (hE:q182_In E) {n k:Nat} {h:AHeap} {x:Cell} {bs pc:List Cell} {V:MV} (a:RvAt n h k x bs pc V) (v:V.Inv) (hg:V.P.good) (hst:V.st.length<100000) {i:Nat} (h4:i<4) (hi:V.may i=true) (h0:AHeap) (z:List Cell) (hz:z.length=7) :
  ∃x' bs' h',(q182_k5 (R E) Lim E.glob h0) .normal (q182_c4 k 37 0 (i:Int) V.st.length z (Stp.cs ⟨i,i,0,0,0,0,-1⟩) h)=some ([.agg (V.stp i).cs,.c (.bool true)],h')∧RvAt n h' k x' bs' pc (V.nx i)∧KpV n k x x' h h':=by
 have f:=v.fit
 have hpc:=a.prog.len
 have hl:=rv_len (x:=x) f hpc a.bl
 have hr:0≤(i:Int)∧(i:Int)<((4:Nat):Int):=⟨by omega,by omega⟩
 have hk:k<h.length:=blk_lt' a.blk
 have rd:∀{α:Type} {F:List Cell→Option α},rdH h k 37 F=F (rvC pc V bs x):=fun {α F}=>rdH_ok a.blk hl
 have p:=prog_at a.prog a.hn (Kp.refl n h)
 have hql:=MV.l_at (V:=V) (t:=i) (by rw [f.lc];exact h4)
 have hq:=MV.may_thr h4 hi
 have hS:V.stp i={ V.thrS i (V.thrI i) with pick:=i }:=by unfold MV.stp;rw [if_pos h4]
 have hN:V.nx i={ V.thrM i (V.thrI i) with st:=V.st++[V.stp i] }:=by unfold MV.nx;rw [if_pos h4]
 generalize V.thrI i=q at hq hS hN
 obtain ⟨q1,q2,q3,q4,q5⟩:=v.nxt hq
 have hbl:(V.b i).length<24:=by have:=v.pcs i h4;omega
 have hrd:(q.kind==2||q.kind==4)=rdI q:=by unfold rdI;rw [Bool.eq_iff_iff];simp
 generalize ha15:(if rdI q=true then (V.val i q).1 else 0)=a15
 have hev:evOf q (V.l i) a15=evOf q (V.l i) (V.val i q).1:=by
  cases c:rdI q with
  | true=>rw [←ha15,c,if_pos rfl]
  | false=>exact evOf_novalue c _ _ _
 have haf:afterL (V.P.code i) (V.l i) a15=afterL (V.P.code i) (V.l i) (V.val i q).1:=by
  cases c:rdI q with
  | true=>rw [←ha15,c,if_pos rfl]
  | false=>exact afterL_novalue hq c _ _
 have rR:=rRead (E:=E) a f h4 q1 V.st.length z
 rw [ha15] at rR
 generalize hfr:(if rdI q=true then (V.val i q).2 else -1)=fr at rR
 generalize hee:evOf q (V.l i) (V.val i q).1=e at *
 have he:0≤e.loc∧e.loc<4:=by rw [←hee];exact evOf_loc q1
 have he45:e.kind=2∨e.kind=4∨evWr e=false:=by
  by_cases c2:e.kind=2
  ·exact .inl c2
  ·by_cases c4:e.kind=4
   ·exact .inr (.inl c4)
   ·refine .inr (.inr ?_)
    unfold evWr
    rw [beq_false_of_ne c2,beq_false_of_ne c4];rfl
 have eS:V.stp i=⟨i,i,e.kind,e.loc,e.r,e.w,fr⟩:=by
  rw [hS];unfold MV.thrS;rw [hee,hfr]
 obtain ⟨bs',h',w1,w2,w3,w4,w5,w6⟩:=rWrite (E:=E) a v h4 hbl e he he45 a15 z (V.stp i).cs
 have fW:=wr_fit v e hbl
 obtain ⟨wl,wP,wm⟩:=V.wr_lc i e
 have hl':=rv_len (x:=x) fW hpc w3
 have hk':k<h'.length:=blk_lt' w2
 have p':=prog_at a.prog a.hn w5
 have fN:MV.Fit { V.wr i e with lc:=V.lc.set i (afterL (V.P.code i) (V.l i) (V.val i q).1) }:=⟨fW.m,by rw [List.length_set];exact f.lc,fW.mem,fW.frm,fW.bf,fW.b⟩
 have hsetL:splice (rvC pc (V.wr i e) bs' x) ((0+12)+i*5) (afterL (V.P.code i) (V.l i) a15).cs=rvC pc { V.wr i e with lc:=V.lc.set i (afterL (V.P.code i) (V.l i) (V.val i q).1) } bs' x:=by
  rw [haf,rv_setL fW hpc h4,wl]
 have k5:Kp n h' (setBlk h' k (some ⟨true,0,rvC pc { V.wr i e with lc:=V.lc.set i (afterL (V.P.code i) (V.l i) (V.val i q).1) } bs' x⟩)):=Kp.set a.nk _
 have kk:Kp n h (setBlk h' k (some ⟨true,0,rvC pc { V.wr i e with lc:=V.lc.set i (afterL (V.P.code i) (V.l i) (V.val i q).1) } bs' x⟩)):=w5.trans k5
 have hstW:(V.wr i e).st=V.st:=by unfold MV.wr;split<;>(try split)<;>rfl
 obtain ⟨x',h9,e9,r9,k9,fr9⟩:=rv_push (W:={ V.wr i e with lc:=V.lc.set i (afterL (V.P.code i) (V.l i) (V.val i q).1) }) (bs:=bs') (x:=x) (blk_set_self hk' _) fN hpc w3 (Nat.le_trans a.hn kk.1) a.nk (by rw [take_keep kk];show ProgAt _ _ (V.wr i e).P;rw [wP];exact a.prog)
  (by
   show Own n _ x 7 (stepsC (V.wr i e).st) (V.wr i e).st.length
   rw [hstW]
   exact a.st.via fun j b s1 s2=>by
    have hne:j≠k:=fun c=>a.sep (c ▸ s1)
    rw [blk_set_ne (fun c=>hne c.symm)];exact w6 j b s2 hne) a.sep
  (fun t ht=>by
   obtain ⟨s1,s2,s3⟩:=w4 t ht
   exact ⟨s1.setO s2 _,s2,s3⟩) (by show (V.wr i e).st.length<100000;rw [hstW];exact hst) (V.stp i)
 have hNX:V.nx i={ V.wr i e with lc:=V.lc.set i (afterL (V.P.code i) (V.l i) (V.val i q).1),st:=(V.wr i e).st++[V.stp i] }:=by
  rw [hN,hstW];unfold MV.thrM;rw [hee]
 refine ⟨x',bs',h9,?_,by rw [hNX];exact r9,⟨kk.trans k9,fun j b hj hne hnx=>fr9 j b (by rw [blk_set_ne (fun c=>hne c.symm)];exact w6 j b hj hne) hne hnx⟩⟩
 have sets:((((Stp.cs ⟨i,i,0,0,0,0,fr⟩).set 2 (.int .i64 e.kind)).set 3 (.int .i64 e.loc)).set 4 (.int .i64 e.r)).set 5 (.int .i64 e.w)=(V.stp i).cs:=by rw [eS];rfl
 have s7':∀s:Stp,splice (List.replicate 7 ci0) 0 s.cs=s.cs:=fun _=>rfl
 have hqn:nextI (V.P.code i) (V.l i)=some q:=hq
 rw [q182_ec4_n,rd,if_pos (by rw [hl];omega),if_pos hr,rd,Int.toNat_natCast,if_pos (by rw [hl];omega),rv_prog hpc,rv_lcl f hpc hql,refNext_R hE.c81 hg p,hqn,qh_ok,c2_ok,asA_ok,asB_ok,if_pos (by exact ⟨rfl,rfl,rfl⟩),bind_ok]
 dsimp only [Option.getD_some]
 rw [q182_ec11_n,ins_kind,asI_ok,ins_kind,asI_ok,scK_or,bind_ok,hrd]
 dsimp only
 rw [rR,bind_ok]
 dsimp only
 rw [q182_ec12_n,if_pos (by exact ⟨rfl,rfl⟩),if_pos hr,rd,Int.toNat_natCast,if_pos (by rw [hl];omega),rv_lcl f hpc hql,evOf_ref hE.c111,hev,qh_ok,c1_ok,asA_ok,if_pos (by exact ⟨rfl,rfl,rfl⟩),bind_ok]
 dsimp only
 rw [q182_ec17_n,evt_kind,asI_ok,evt_loc,asI_ok,evt_r,asI_ok,evt_w,asI_ok,if_pos (by exact (by decide:2<7)),if_pos (by exact (by decide:3<7)),if_pos (by exact (by decide:4<7)),if_pos (by exact (by decide:5<7)),bind_ok]
 dsimp only
 rw [sets,q182_ec18_n]
 simp only [evt_kind,asI_ok,rd,rv_m hpc,scK_and,scK_or,bind_ok]
 rw [w1,bind_ok]
 dsimp only
 rw [q182_ec19_n,rdH_ok w2 hl',if_pos (by rw [hl'];omega),if_pos hr,rdH_ok w2 hl',Int.toNat_natCast,if_pos (by rw [hl'];omega),rv_prog hpc,rv_lcl fW hpc (by rw [wl];exact hql),refAfter_R hE.c107 hg p',qh_ok,c1_ok,asA_ok,if_pos hr,rdH_ok w2 hl',if_pos (by exact ⟨by rw [hl'];omega,rfl⟩),hsetL,putB w2,bind_ok]
 dsimp only
 rw [q182_ec22_n,rdH_ok (blk_set_self hk' _) (rv_len (x:=x) fN hpc w3),rv_steps fN hpc w3,if_pos (by exact ⟨rfl,rfl⟩),if_pos (by exact ⟨rfl,by decide⟩),s7',if_pos (by exact rfl),e9,if_pos (by exact ⟨rfl,rfl⟩),if_pos (by exact ⟨rfl,hz,rfl⟩),if_pos (by exact ⟨rfl,rfl⟩)]
theorem rPick_R (hE:q182_In E) {n k:Nat} {h:AHeap} {x:Cell} {bs pc:List Cell} {V:MV} (a:RvAt n h k x bs pc V) (v:V.Inv) (hg:V.P.good) (hst:V.st.length<100000) {i:Nat} (hi:V.may i=true) :
  ∃x' bs' h',R E 182 [.c (.ptr k 37 0),.c (.int .i64 (i:Int))] h=some ([.agg (V.stp i).cs,.c (.bool true)],h')∧RvAt n h' k x' bs' pc (V.nx i)∧KpV n k x x' h h':=by
 have f:=v.fit
 have hpc:=a.prog.len
 have hl:=rv_len (x:=x) f hpc a.bl
 have rd:∀{α:Type} {F:List Cell→Option α},rdH h k 37 F=F (rvC pc V bs x):=fun {α F}=>rdH_ok a.blk hl
 have e1:splice (splice (splice (List.replicate 7 ci0) 0 [(.int .i64 (i:Int))]) 1 [(.int .i64 (i:Int))]) 6 [(.int .i64 (-1))]=Stp.cs ⟨i,i,0,0,0,0,-1⟩:=rfl
 by_cases h4:i<4
 ·obtain ⟨x',bs',h',r1,r2,r3⟩:=rThread hE a v hg hst h4 hi h (List.replicate 7 ci0) rfl
  refine ⟨x',bs',h',R_intro hE.fn ?_,r2,r3⟩
  have hno:fluOf V.m (i:Int)=(0,0,false):=by unfold fluOf;rw [if_neg (by omega),if_neg (by omega)]
  rw [q182_eq,May_R hE.c196 a f hg,c1_ok,asB_ok,mayI_nat,hi,if_neg (by simp),bind_ok]
  dsimp only
  rw [q182_ec1_n,rd,rv_steps f hpc a.bl,a.st.at.len,bind_ok]
  dsimp only
  rw [q182_ec2_n,e1,if_pos (by exact ⟨rfl,rfl,rfl⟩),bind_ok]
  dsimp only
  rw [q182_ec3_n,refFlush_R hE.c197 a f,hno,c3_ok,asI_ok,asI_ok,asB_ok,bind_ok]
  dsimp only
  rw [q182_ec5_n,if_neg (by simp),bind_ok]
  exact r1
 ·obtain ⟨t,loc,p,e,ht,hp,hfl,hf,hs,hnx⟩:=flu_data h4 hi
  obtain ⟨x',bs',h',r1,r2,r3⟩:=rFlush hE a v hst (i:=(i:Int)) ht hp hf (List.replicate 7 ci0) rfl
  refine ⟨x',bs',h',R_intro hE.fn ?_,by rw [hnx,hs];exact r2,r3⟩
  rw [q182_eq,May_R hE.c196 a f hg,c1_ok,asB_ok,mayI_nat,hi,if_neg (by simp),bind_ok]
  dsimp only
  rw [q182_ec1_n,rd,rv_steps f hpc a.bl,a.st.at.len,bind_ok]
  dsimp only
  rw [q182_ec2_n,e1,if_pos (by exact ⟨rfl,rfl,rfl⟩),bind_ok]
  dsimp only
  rw [q182_ec3_n,refFlush_R hE.c197 a f,hfl,c3_ok,asI_ok,asI_ok,asB_ok,bind_ok]
  dsimp only
  rw [r1,bind_ok]
  dsimp only
  rw [q182_ec4_0,if_pos (by exact ⟨rfl,rfl⟩),hs]
end
end Jq

namespace Jq
open Go
theorem RvAt.keep {n:Nat} {h h':AHeap} {k:Nat} {x:Cell} {bs pc:List Cell} {V:MV} (a:RvAt n h k x bs pc V) (hk:Kp h.length h h'):RvAt n h' k x bs pc V :=
 ⟨Nat.le_trans a.hn hk.1,a.nk,by rw [take_keep (hk.mono a.hn)];exact a.prog,by rw [hk.blk (blk_lt' a.blk)];exact a.blk,a.st.keepK hk,a.sep,a.bl,fun t ht=>by
  obtain ⟨q1,q2,q3⟩:=a.bf t ht
  exact ⟨q1.keepK hk,q2,q3⟩⟩
theorem RvAt.other {n:Nat} {h h':AHeap} {k:Nat} {x:Cell} {bs pc:List Cell} {V:MV} (a:RvAt n h k x bs pc V) (hl:h.length≤h'.length) (hn:Kp n h h') (hk:∀j b,blk? h j=some b→j=k∨isBlk x j∨(∃t,t<4∧isBlk (bs.getD t .nils) j)→blk? h' j=some b):RvAt n h' k x bs pc V :=
 ⟨Nat.le_trans a.hn hl,a.nk,by rw [take_keep hn];exact a.prog,hk k _ a.blk (.inl rfl),a.st.via fun j b q1 q2=>hk j b q2 (.inr (.inl q1)),a.sep,a.bl,fun t ht=>by
  obtain ⟨q1,q2,q3⟩:=a.bf t ht
  exact ⟨q1.via fun j b s1 s2=>hk j b s2 (.inr (.inr ⟨t,ht,s1⟩)),q2,q3⟩⟩
theorem may_bits (V:MV):(List.range 24).filter V.may=bitsL V.word:=by
 unfold bitsL
 rw [show (fun i=>V.word.testBit i)=V.may from funext fun i=>V.word_bit i]
 have e:List.range 64=List.range 24++List.range' 24 40:=by decide
 rw [e,List.filter_append]
 have:(List.range' 24 40).filter V.may=[]:=by
  rw [List.filter_eq_nil_iff]
  intro a ha
  rw [List.mem_range'_1] at ha
  rw [MV.may_out (by omega)];simp
 rw [this,List.append_nil]
theorem startL_out {P:PProg} {t:Nat} (h:P.thr.length≤t):startL P (t:Int)=Lcl.zero:=by
 have:P.code (t:Int)=[]:=code_out (by omega)
 unfold startL normL
 rw [this];rfl
def lcU (P:PProg) (t:Nat):List Lcl:=[if 0<t then startL P 0 else Lcl.zero,if 1<t then startL P 1 else Lcl.zero,if 2<t then startL P 2 else Lcl.zero,if 3<t then startL P 3 else Lcl.zero]
theorem lcU_next (P:PProg):∀t,t<4→(lcU P t).set t (startL P (t:Int))=lcU P (t+1)
 | 0,_=>rfl
 | 1,_=>rfl
 | 2,_=>rfl
 | 3,_=>rfl
 | t+4,h=>by omega
theorem lcU_end (P:PProg):lcU P P.thr.length=[startL P 0,startL P 1,startL P 2,startL P 3]:=by
 have key:∀t:Nat,(if t<P.thr.length then startL P (t:Int) else Lcl.zero)=startL P (t:Int):=fun t=>by
  split
  ·rfl
  ·exact (startL_out (by omega)).symm
 unfold lcU
 have e0:=key 0;have e1:=key 1;have e2:=key 2;have e3:=key 3
 rw [show ((0:Nat):Int)=0 from rfl] at e0
 rw [show ((1:Nat):Int)=1 from rfl] at e1
 rw [show ((2:Nat):Int)=2 from rfl] at e2
 rw [show ((3:Nat):Int)=3 from rfl] at e3
 rw [e0,e1,e2,e3]
def MV.raw (P:PProg) (m:Int) (lc:List Lcl) (mem:List Int):MV:=⟨P,m,lc,mem,[-1,-1,-1,-1],[[],[],[],[]],[]⟩
theorem MV.raw_fit {P:PProg} {m:Int} {lc:List Lcl} {mem:List Int} (hm:1≤m∧m≤3) (h1:lc.length=4) (h2:mem.length=4):(MV.raw P m lc mem).Fit :=
 ⟨hm,h1,h2,rfl,rfl,fun l hl=>by simp [MV.raw] at hl;subst hl;simp⟩
set_option maxRecDepth 100000 in
theorem raw_0 (a b c:Cell) (P:PProg) (m:Int):splice (splice (splice ([Cell.nils,Cell.nils,Cell.nils]++List.replicate 29 ci0++List.replicate 5 (Cell.nils)) 0 [a,b,c]) 3 [(.int .i64 m)]) 8 (splice (splice (splice (splice [ci0,ci0,ci0,ci0] 0 [(.int .i64 (-1))]) 1 [(.int .i64 (-1))]) 2 [(.int .i64 (-1))]) 3 [(.int .i64 (-1))]) =
  rvC [a,b,c] (MV.raw P m (lcU P 0) [0,0,0,0]) [.nils,.nils,.nils,.nils] .nils:=by kernel_rfl
theorem init_take_set {l:List Int} (h4:l.length≤4) {i:Nat} {v:Int} (hv:l[i]? = some v):(l.take i++List.replicate (4 - i) 0).set i v=l.take (i+1)++List.replicate (4 - (i+1)) 0:=by
 have hi:=getI_lt hv
 have hl:(l.take i).length=i:=by rw [List.length_take];omega
 rw [takeI_succ hv,List.set_append_right _ _ (by omega),hl,Nat.sub_self,show 4 - i=(4 - (i+1))+1 by omega,List.replicate_succ,List.set_cons_zero,List.append_assoc]
 rfl
section
variable {E:Env}
theorem rNew_R (hE:q180_In E) {h:AHeap} {pc:List Cell} {P:PProg} (p:ProgAt h pc P) (hg:P.good) (h4:P.thr.length≤4) (hil:P.init.length≤4) {m:Int} (hm:1≤m∧m≤3) :
  ∃h',R E 180 [.agg pc,.c (.int .i64 m)] h=some ([.c (.ptr h.length 37 0)],h')∧RvAt h.length h' h.length .nils [.nils,.nils,.nils,.nils] pc (MV.new P m)∧Kp h.length h h':=by
 obtain ⟨a,b,c,ts,he,_⟩:=id p
 subst he
 have hpc:([a,b,c]:List Cell).length=3:=rfl
 have hbs:([.nils,.nils,.nils,.nils]:List Cell).length=4:=rfl
 have b8:∀l:List Cell,blk? (h++[some ⟨true,0,l⟩]) h.length=some ⟨true,0,l⟩:=fun l=>blk_new _ _
 have p9:∀q,ProgAt (h++[some q]) [a,b,c] P:=fun q=>p.keep (Kp.app _ (Nat.le_refl _))
 have put:∀(l cs:List Cell) {α:Type} {F:AHeap→Option α},putH (h++[some ⟨true,0,l⟩]) h.length cs F=F (h++[some ⟨true,0,cs⟩]):=fun l cs α F=>by rw [putB (b8 l),setBlk_last]
 obtain ⟨bi,hbi,hbl,hbg⟩:=p.initG
 have q1:∀{α:Type} (f:Cell→Option α),atK [a,b,c] 1 f=f b:=fun _=>rfl
 have ebi:bi=b:=by
  have:=hbg (α:=Cell) (fun c=>some c)
  rw [q1] at this
  exact (Option.some.inj this).symm
 subst ebi
 have lens:∀lc mem,lc.length=4→mem.length=4→(rvC [a,bi,c] (MV.raw P m lc mem) [.nils,.nils,.nils,.nils] .nils).length=37:=fun lc mem h1 h2=>rv_len (MV.raw_fit hm h1 h2) hpc hbs
 have rd:∀(lc:List Lcl) (mem:List Int) {α:Type} {F:List Cell→Option α},lc.length=4→mem.length=4→rdH (h++[some ⟨true,0,rvC [a,bi,c] (MV.raw P m lc mem) [.nils,.nils,.nils,.nils] .nils⟩]) h.length 37 F=F (rvC [a,bi,c] (MV.raw P m lc mem) [.nils,.nils,.nils,.nils] .nils):=fun lc mem α F h1 h2=>rdH_ok (b8 _) (lens lc mem h1 h2)
 have hbi':∀q,SlAt (h++[some q]) bi 1 (intC .i64 P.init) P.init.length:=fun q=>hbi.keep hbl (Kp.app _ (Nat.le_refl _))
 have ml:∀i,i≤P.init.length→(P.init.take i++List.replicate (4 - i) 0).length=4:=fun i hi=>by rw [List.length_append,List.length_take,List.length_replicate];omega
 have l1:Lim (q180_F1 (R E) Lim E.glob) (q180_s1 h.length 37 0 ((0:Nat):Int) [a,bi,c] (h++[some ⟨true,0,rvC [a,bi,c] (MV.raw P m (lcU P 0) (P.init.take 0++List.replicate (4 - 0) 0)) [.nils,.nils,.nils,.nils] .nils⟩]))=some (.exit 0,q180_x1_1 h.length 37 0 [a,bi,c] (h++[some ⟨true,0,rvC [a,bi,c] (MV.raw P m (lcU P 0) (MV.new P m).mem) [.nils,.nils,.nils,.nils] .nils⟩])):=by
  refine Lim_count (F:=q180_F1 (R E) Lim E.glob) (fun i=>q180_s1 h.length 37 0 (i:Int) [a,bi,c] (h++[some ⟨true,0,rvC [a,bi,c] (MV.raw P m (lcU P 0) (P.init.take i++List.replicate (4 - i) 0)) [.nils,.nils,.nils,.nils] .nils⟩])) 0 P.init.length (by omega) (fun i _ hi=>?_) (Lim_exit ?_)
  ·have hv:P.init[i]? = some P.init[i]:=List.getElem?_eq_getElem hi
   generalize P.init[i]=v at hv
   have hr:0≤(i:Int)∧(i:Int)<((4:Nat):Int):=⟨by omega,by omega⟩
   have hset:=rv_setM (bs:=[.nils,.nils,.nils,.nils]) (x:=.nils) (MV.raw_fit (P:=P) (lc:=lcU P 0) hm rfl (ml i (by omega))) hpc (i:=i) (by omega) v
   rw [q180_r1,q1,hbi.len,if_pos (by simp;omega),q1,(hbi' _).get1 hi (intC_get hv),asI_ok,if_pos hr,rd _ _ rfl (ml i (by omega)),Int.toNat_natCast,if_pos (by rw [lens _ _ rfl (ml i (by omega))];omega),hset,put,g_succ (by omega)]
   rw [show ({ MV.raw P m (lcU P 0) (P.init.take i++List.replicate (4 - i) 0) with mem:=(MV.raw P m (lcU P 0) (P.init.take i++List.replicate (4 - i) 0)).mem.set i v }:MV)=MV.raw P m (lcU P 0) ((P.init.take i++List.replicate (4 - i) 0).set i v) from rfl,init_take_set hil hv]
  ·rw [q180_r1,q1,hbi.len,if_neg (by simp),List.take_of_length_le (Nat.le_refl _)]
   rfl
 have nm:(MV.new P m).mem.length=4:=(MV.new_fit hm hil).mem
 have n3:∀{α:Type} {h':AHeap} {F:Int→Option α},ProgAt h' [a,bi,c] P→(atK [a,bi,c] 2 fun q=>lenK q F)=F P.thr.length:=fun pp=>pp.nthr
 have l2:Lim (q180_F2 (R E) Lim E.glob) (q180_s2 h.length 37 0 ((0:Nat):Int) [a,bi,c] (h++[some ⟨true,0,rvC [a,bi,c] (MV.raw P m (lcU P 0) (MV.new P m).mem) [.nils,.nils,.nils,.nils] .nils⟩]))=some (.exit 2,q180_x2_3 h.length 37 0 (h++[some ⟨true,0,rvC [a,bi,c] (MV.raw P m (lcU P P.thr.length) (MV.new P m).mem) [.nils,.nils,.nils,.nils] .nils⟩])):=by
  refine Lim_count (F:=q180_F2 (R E) Lim E.glob) (fun i=>q180_s2 h.length 37 0 (i:Int) [a,bi,c] (h++[some ⟨true,0,rvC [a,bi,c] (MV.raw P m (lcU P i) (MV.new P m).mem) [.nils,.nils,.nils,.nils] .nils⟩])) 0 P.thr.length (by omega) (fun i _ hi=>?_) (Lim_exit ?_)
  ·have hr:0≤(i:Int)∧(i:Int)<((4:Nat):Int):=⟨by omega,by omega⟩
   have hset:=rv_setL (bs:=[.nils,.nils,.nils,.nils]) (x:=.nils) (MV.raw_fit (P:=P) (lc:=lcU P i) hm rfl nm) hpc (t:=i) (by omega) (startL P (i:Int))
   rw [q180_r2,n3 p,if_pos (by simp;omega),if_pos (by exact ⟨rfl,rfl⟩),refStart_R hE.c104 hg (p9 _),qh_ok,c1_ok,asA_ok,if_pos hr,rd _ _ rfl nm,Int.toNat_natCast,if_pos (by exact ⟨by rw [lens _ _ rfl nm];omega,rfl⟩),hset,put,g_succ (by omega)]
   rw [show ({ MV.raw P m (lcU P i) (MV.new P m).mem with lc:=(MV.raw P m (lcU P i) (MV.new P m).mem).lc.set i (startL P (i:Int)) }:MV)=MV.raw P m ((lcU P i).set i (startL P (i:Int))) (MV.new P m).mem from rfl,lcU_next P i (by omega)]
  ·rw [q180_r2,n3 p,if_neg (by simp)]
 rw [show ((0:Nat):Int)=0 from rfl] at l1 l2
 have efin:MV.raw P m (lcU P P.thr.length) (MV.new P m).mem=MV.new P m:=by rw [lcU_end P];rfl
 rw [efin] at l2
 refine ⟨h++[some ⟨true,0,rvC [a,bi,c] (MV.new P m) [.nils,.nils,.nils,.nils] .nils⟩],R_intro hE.fn ?_,⟨by simp,Nat.le_refl _,?_,b8 _,Own.nil _ _ _,fun q=>q,hbs,fun t ht=>?_⟩,Kp.app _ (Nat.le_refl _)⟩
 ·have hz:([Cell.nils,Cell.nils,Cell.nils]++List.replicate 29 ci0++List.replicate 5 (Cell.nils)).length=37:=by kernel_rfl
  have ec:∀z:List Cell,AV.cells (.agg z)=z:=fun _=>rfl
  rw [q180_eq,if_pos (by exact ⟨rfl,rfl⟩),if_pos (by exact ⟨rfl,by rw [hz];omega⟩),if_pos (by exact ⟨rfl,by rw [splice_len (by rw [hz];simp),hz];omega⟩),if_pos (by exact ⟨rfl,by rw [splice_len (by rw [splice_len (by rw [hz];simp),hz];simp),splice_len (by rw [hz];simp),hz];omega⟩),ec,raw_0 a bi c P m,lens _ _ rfl rfl]
  have e0:P.init.take 0++List.replicate (4 - 0) 0=[0,0,0,0]:=rfl
  rw [e0] at l1
  rw [l1,bind_ok]
  dsimp only
  rw [q180_e1_1,l2,bind_ok]
  dsimp only
  rw [q180_e2_3]
 ·rw [List.take_append_of_le_length (Nat.le_refl _),List.take_length];exact p
 ·have:(([.nils,.nils,.nils,.nils]:List Cell).getD t .nils)=.nils:=by
   match t with
   | 0=>rfl
   | 1=>rfl
   | 2=>rfl
   | 3=>rfl
   | t+4=>rfl
  rw [this,new_b]
  exact ⟨Own.nil _ _ _,fun q=>q,fun j q=>absurd q (by simp [isBlk])⟩
theorem rEnabled_R (hE:q181_In E) {n k:Nat} {h:AHeap} {x:Cell} {bs pc:List Cell} {V:MV} (a:RvAt n h k x bs pc V) (f:V.Fit) (hg:V.P.good) :
  ∃y h',R E 181 [.c (.ptr k 37 0)] h=some ([.c y],h')∧Own h.length h' y 1 (natC (bitsL V.word)) (bitsL V.word).length∧Kp h.length h h':=by
 have hM:maxBytes≥1000*8:=by unfold maxBytes;omega
 obtain ⟨st,⟨y,h',rfl,o,kk⟩,hL⟩:=Lim_inv (F:=q181_F1 (R E) Lim E.glob) (fun i st=>∃y h',st=q181_s1 k 37 0 y (i:Int) h'∧Own h.length h' y 1 (natC ((List.range i).filter V.may)) ((List.range i).filter V.may).length∧Kp h.length h h') 0 24 (by omega)
  (fun i st _ hi=>by
   rintro ⟨y,h',rfl,o,kk⟩
   have hlen:((List.range i).filter V.may).length≤i:=Nat.le_trans (List.length_filter_le _ _) (by simp)
   have my:=May_R hE.c196 (a.keep kk) f hg (i:Int)
   rw [mayI_nat] at my
   cases hm:V.may i with
   | false =>
    refine ⟨q181_s1 k 37 0 y ((i+1:Nat):Int) h',?_,y,h',rfl,?_,kk⟩
    ·rw [q181_r1,if_pos (by simp;omega),my,c1_ok,asB_ok,hm,if_neg (by simp),g_succ (by omega)]
    ·rw [List.range_succ,List.filter_append,List.filter_cons,hm]
     simpa using o
   | true =>
    obtain ⟨y2,h2,e2,o2,k2,_⟩:=o.app (bytes:=8) (xs:=[.int .i64 (i:Int)]) kk.1 rfl (by omega) (by omega) (by omega)
    refine ⟨q181_s1 k 37 0 y2 ((i+1:Nat):Int) h2,?_,y2,h2,rfl,?_,kk.trans k2⟩
    ·rw [q181_r1,if_pos (by simp;omega),my,c1_ok,asB_ok,hm,if_pos rfl,if_pos (by rfl),show splice [ci0] 0 [(.int .i64 (i:Int))]=[.int .i64 (i:Int)] from rfl,e2,g_succ (by omega)]
    ·rw [List.range_succ,List.filter_append,List.filter_cons,hm,if_pos rfl,List.filter_nil,natC_snoc,List.length_append,List.length_singleton]
     exact o2) (st:=q181_s1 k 37 0 .nils ((0:Nat):Int) h) ⟨.nils,h,rfl,Own.nil _ _ _,Kp.refl _ _⟩
 rw [may_bits] at o
 have hr:=hL _ (Lim_exit (show q181_F1 (R E) Lim E.glob (q181_s1 k 37 0 y ((24:Nat):Int) h')=some (.exit 0,q181_x1_1 y h') by rw [q181_r1,if_neg (by simp)]))
 rw [show ((0:Nat):Int)=0 from rfl] at hr
 refine ⟨y,h',R_intro hE.fn ?_,o,kk⟩
 rw [q181_eq,hr,bind_ok]
 dsimp only
 rw [q181_e1_1]
def finU (V:MV) (t:Nat):List Cell:=(V.lc.take t).flatMap regsC++(List.replicate (16 - t*4) (.int .i64 0)++intC .i64 V.mem)
end
end Jq

namespace Jq
open Go
theorem g_rem3 {E:Env} (a:Int):0≤E.glob.rem .i64 (E.glob.band .i64 a 255) 3∧E.glob.rem .i64 (E.glob.band .i64 a 255) 3<3:=by
 refine rem_rng ?_ (by omega)
 rw [g_band255];omega
theorem bits_none {V:MV}:(bitsL V.word).length=0↔V.word=0:=by
 rw [List.length_eq_zero_iff]
 exact bitsL_nil V.word_lt
section
variable {E:Env}
end
end Jq

namespace Jq
open Go
theorem Own.has {n:Nat} {h:AHeap} {y:Cell} {esz len:Nat} {cs:List Cell} (o:Own n h y esz cs len) {j:Nat} (hj:isBlk y j):blk? h j=some ⟨true,esz,cs⟩:=by
 rcases o.2 with ⟨e,_⟩ | ⟨j',e,_,hb⟩
 ·rw [e] at hj;exact absurd hj (by simp [isBlk])
 ·have:j'=j:=by rw [e] at hj;exact hj
  subst this;exact hb
structure Both (n:Nat) (h:AHeap) (k:Nat) (x:Cell) (pc:List Cell) (V:MV) (n' k':Nat) (x':Cell) (bs pc':List Cell) (W:MV):Prop where
 a:VmAt n h k x pc V
 b:RvAt n' h k' x' bs pc' W
 nn:n≤n'
 d:∀j,isBlk x j→¬isBlk x' j
 fV:V.Fit
 fW:W.Fit
section both
variable {n:Nat} {h:AHeap} {k:Nat} {x:Cell} {pc:List Cell} {V:MV} {n' k':Nat} {x':Cell} {bs pc':List Cell} {W:MV} (B:Both n h k x pc V n' k' x' bs pc' W)
include B
theorem Both.kk:k'≠k:=fun e=>by
 have h1:=B.a.blk
 have h2:=B.b.blk
 rw [e,h1] at h2
 have h3:=Blk.mk.inj (Option.some.inj h2)
 have l1:=vm_len (x:=x) B.fV B.a.prog.len
 have l2:=rv_len (x:=x') B.fW B.b.prog.len B.b.bl
 rw [h3.2.2,l2] at l1
 omega
theorem Both.xk:¬isBlk x k':=fun q=>by
 have h1:=B.a.st.has q
 rw [B.b.blk] at h1
 have:=(Blk.mk.inj (Option.some.inj h1)).2.1
 omega
theorem Both.x'k:¬isBlk x' k:=fun q=>by
 have h1:=B.b.st.has q
 rw [B.a.blk] at h1
 have:=(Blk.mk.inj (Option.some.inj h1)).2.1
 omega
theorem Both.bk {t:Nat} (ht:t<4):¬isBlk (bs.getD t .nils) k:=fun q=>by
 have h1:=(B.b.bf t ht).1.has q
 rw [B.a.blk] at h1
 have:=(Blk.mk.inj (Option.some.inj h1)).2.1
 omega
theorem Both.bx {t:Nat} (ht:t<4) {j:Nat} (q:isBlk (bs.getD t .nils) j):¬isBlk x j:=fun q2=>by
 have h1:=(B.b.bf t ht).1.has q
 rw [B.a.st.has q2] at h1
 have:=(Blk.mk.inj (Option.some.inj h1)).2.1
 omega
theorem Both.keep {h':AHeap} (hk:Kp h.length h h'):Both n h' k x pc V n' k' x' bs pc' W:=⟨B.a.keep hk,B.b.keep hk,B.nn,B.d,B.fV,B.fW⟩
theorem Both.vm {h':AHeap} {x1:Cell} {V':MV} (kv:KpV n k x x1 h h') (a':VmAt n h' k x1 pc V') (f':V'.Fit) (hp:ProgAt (h'.take n') pc' W.P):Both n h' k x1 pc V' n' k' x' bs pc' W:=by
 have b:=B.b
 refine ⟨a',⟨Nat.le_trans b.hn kv.kp.1,b.nk,hp,(kv.old _ _ b.blk B.kk B.xk).1,b.st.via fun j c q1 q2=>(kv.old j c q2 (fun e=>B.x'k (e ▸ q1)) (fun q=>B.d j q q1)).1,b.sep,b.bl,fun t ht=>?_⟩,B.nn,fun j q1 q2=>?_,f',B.fW⟩
 ·obtain ⟨q1,q2,q3⟩:=b.bf t ht
  exact ⟨q1.via fun j c s1 s2=>(kv.old j c s2 (fun e=>B.bk ht (e ▸ s1)) (B.bx ht s1)).1,q2,q3⟩
 ·exact (kv.old j _ (b.st.has q2) (fun e=>B.x'k (e ▸ q2)) (fun q=>B.d j q q2)).2 q1
theorem Both.rv {h':AHeap} {x1:Cell} {bs1:List Cell} {W':MV} (kv:KpV n' k' x' x1 h h') (b':RvAt n' h' k' x1 bs1 pc' W') (f':W'.Fit):Both n h' k x pc V n' k' x1 bs1 pc' W':=by
 have a:=B.a
 refine ⟨⟨Nat.le_trans a.hn kv.kp.1,a.nk,by rw [take_keep (kv.kp.mono B.nn)];exact a.prog,(kv.old _ _ a.blk (fun e=>B.kk e.symm) B.x'k).1,a.st.via fun j c q1 q2=>(kv.old j c q2 (fun e=>B.xk (e ▸ q1)) (B.d j q1)).1,a.sep⟩,b',B.nn,fun j q1 q2=>?_,B.fV,f'⟩
 exact (kv.old j _ (a.st.has q1) (fun e=>B.xk (e ▸ q1)) (B.d j q1)).2 q2
end both
section
variable {E:Env}
end
end Jq

namespace Jq
open Go
def MV.runG (V:MV):List Int→MV × Nat
 | []=>(V,0)
 | p :: ps=>if mayI V p=true then (((V.nx p.toNat).runG ps).1,((V.nx p.toNat).runG ps).2+1) else (V,0)
theorem mayI_at {V:MV} {p:Int} (h:mayI V p=true):∃j:Nat,p=(j:Int)∧V.may j=true∧p.toNat=j:=by
 unfold mayI at h
 rw [Bool.and_eq_true] at h
 obtain ⟨j,rfl⟩:=Int.eq_ofNat_of_zero_le (of_decide_eq_true h.1)
 exact ⟨j,rfl,h.2,rfl⟩
theorem MV.runG_inv {V:MV} (v:V.Inv):∀l:List Int,(V.runG l).1.Inv∧(V.runG l).1.P=V.P∧(V.runG l).1.m=V.m∧(V.runG l).1.st.length=V.st.length+(V.runG l).2∧(V.runG l).2≤l.length
 | []=>⟨v,rfl,rfl,rfl,Nat.le_refl _⟩
 | p :: ps=>by
  unfold MV.runG
  by_cases h:mayI V p=true
  ·obtain ⟨j,rfl,hj,hn⟩:=mayI_at h
   rw [if_pos h,hn]
   obtain ⟨h1,h2,h3,h4,h5⟩:=MV.runG_inv (v.nx hj) ps
   refine ⟨h1,h2.trans (V.nx_P j).1,h3.trans (V.nx_P j).2,?_,by dsimp only;rw [List.length_cons];omega⟩
   dsimp only
   rw [h4,V.nx_st,List.length_append,List.length_singleton];omega
  ·rw [if_neg h]
   exact ⟨v,rfl,rfl,rfl,by dsimp only;omega⟩
theorem MV.runG_snoc:∀(l:List Int) (V:MV) (j:Nat),(V.runG l).2=l.length→(V.runG l).1.may j=true→V.runG (l++[(j:Int)])=((V.runG l).1.nx j,l.length+1)
 | [],V,j,_,hj=>by
  show V.runG [(j:Int)]=_
  unfold MV.runG
  rw [if_pos (by rw [mayI_nat];exact hj)]
  rfl
 | p :: ps,V,j,hl,hj=>by
  rw [List.cons_append]
  unfold MV.runG at hl hj ⊢
  by_cases h:mayI V p=true
  ·rw [if_pos h] at hl hj ⊢
   have:=MV.runG_snoc ps (V.nx p.toNat) j (by simp only [List.length_cons] at hl;omega) hj
   rw [this,if_pos h]
   rfl
  ·rw [if_neg h] at hl
   simp at hl
def ptr37 (k:Nat):Cell:=.ptr k 37 0
section
variable {E:Env}
end
section both
variable {n:Nat} {h:AHeap} {k:Nat} {x:Cell} {pc:List Cell} {V:MV} {n' k':Nat} {x':Cell} {bs pc':List Cell} {W:MV}
end both
section
variable {E:Env}
def CopyOk (n:Nat) (h:AHeap) (k:Nat) (x:Cell) (P:PProg) (cs:List Cell) (pc:List Cell) (x12 x13:Cell):Prop :=
 x12=.nilp∨∃(kc:Nat) (xc:Cell) (W:MV) (n' k':Nat) (x':Cell) (bs:List Cell),x12=.ptr kc 329 0∧x13=.ptr k' 37 0∧Both n h kc xc pc W n' k' x' bs cs W∧kc≠k∧(∀j,isBlk x j→¬isBlk xc j)∧(∀j,isBlk x j→¬isBlk x' j)∧W.P=P∧W.st.length≤100
end
end Jq

namespace Jq
open Go
theorem Own.cellsG {n:Nat} {h:AHeap} {x:Cell} {esz len:Nat} {cs:List Cell} (o:Own n h x esz cs len):slCells h esz x=some cs:=by
 have hl:=o.1
 rcases o.2 with ⟨rfl,h0⟩ | ⟨k,rfl,_,hb⟩
 ·have:cs=[]:=List.length_eq_zero_iff.1 (by rw [hl,h0];simp)
  rw [this];rfl
 ·unfold slCells
  dsimp only
  by_cases h0:len=0
  ·have:cs=[]:=List.length_eq_zero_iff.1 (by rw [hl,h0];simp)
   rw [if_pos h0,this]
  ·rw [if_neg h0,hb]
   simp only
   rw [if_pos ⟨by trivial,by omega⟩,List.drop_zero,List.take_of_length_le (by omega)]
theorem getD_set_ne {l:List Cell} {i j:Nat} (h:i≠j) (c:Cell):(l.set i c).getD j .nils=l.getD j .nils:=by
 rw [List.getD_eq_getElem?_getD,List.getD_eq_getElem?_getD,List.getElem?_set_ne h]
section
variable {E:Env}
end
end Jq

namespace Jq
open Go
variable (C:CallF) (L:LoopF) (G:Glo)
set_option maxRecDepth 100000 in
theorem q261_eq  (h0:AHeap):q261.body C L G [] h0=c2 (C 260 [(.c (.str (ByteArray.mk #[116,48,32,102,48,32,102,49,46,49])))] h0) fun y_2 y_3 h_1=>asC y_2 fun x_4=>asB y_3 fun b_5=>c1 (C 187 [] h_1) fun y_7 h_6=>asA y_7 fun l_8=>if (splice (splice (splice [ci0,ci0,ci0] 0 [(.int .i64 0)]) 1 [(.int .i64 0)]) 2 [(.int .i64 0)]).length=3*1 then c3 (C 271 [(.agg l_8),(.c (.int .i64 1)),(.c (.sl h_6.length ((splice (splice (splice [ci0,ci0,ci0] 0 [(.int .i64 0)]) 1 [(.int .i64 0)]) 2 [(.int .i64 0)]).length) 0 3))] (h_6++[some (Blk.mk true 1 (splice (splice (splice [ci0,ci0,ci0] 0 [(.int .i64 0)]) 1 [(.int .i64 0)]) 2 [(.int .i64 0)]))])) fun y_10 y_11 y_12 h_9=>asC y_10 fun x_13=>asI .i64 y_11 fun n_14=>asB y_12 fun b_15=>scK b_5 true (lenK x_4 fun n_16=>some ((n_16==3),h_9)) false h_9 fun b_17 h_18=>scK b_17 true (idxSK 1 x_4 2 fun k_19 N_20 o_21=>rdH h_18 k_19 N_20 fun l_22=>atK l_22 o_21 fun q_23=>asI .i64 (.c q_23) fun n_24=>some ((n_24==13),h_18)) false h_18 fun b_25 h_26=>scK b_25 true (if (splice (splice (splice [ci0,ci0,ci0] 0 [(.int .i64 0)]) 1 [(.int .i64 4)]) 2 [(.int .i64 13)]).length=3*1 then c1 (C 262 [(.c (.sl h_26.length ((splice (splice (splice [ci0,ci0,ci0] 0 [(.int .i64 0)]) 1 [(.int .i64 4)]) 2 [(.int .i64 13)]).length) 0 3))] (h_26++[some (Blk.mk true 1 (splice (splice (splice [ci0,ci0,ci0] 0 [(.int .i64 0)]) 1 [(.int .i64 4)]) 2 [(.int .i64 13)]))])) fun y_28 h_27=>asS y_28 fun z_29=>some ((ByteArray.toList z_29==ByteArray.toList (ByteArray.mk #[116,48,32,102,48,32,102,49,46,49])),h_27) else none) false h_26 fun b_30 h_31=>scK b_30 true (lenK x_13 fun n_32=>some ((n_32==2),h_31)) false h_31 fun b_33 h_34=>scK b_33 true (some ((n_14==2),h_34)) false h_34 fun b_35 h_36=>scK b_35 true (some ((!b_15),h_36)) false h_36 fun b_37 h_38=>finish true h0 [(.c (.bool b_37))] h_38 else none:=by kernel_rfl
def q425_k2 (C:CallF) (L:LoopF) (G:Glo) (h0:AHeap):Ex→St→Option (List AV × AHeap):=kBlk 0 (q425.fin G h0)
def q425_s1 (a1:Int) (x6 x7:Cell) (x8 x9:Cell) (a10:Int) (s0:List Cell) (h:AHeap):St:=⟨tops 1 (.v (.c (.int .i64 a1)) :: tops 3 (.loc 0 0 :: .v (.c x6) :: .v (.c x7) :: .v (.c x8) :: .v (.c x9) :: .v (.c (.int .i64 a10)) :: tops 109 [])),[some s0],h⟩
def q425_F1 (C:CallF) (L:LoopF) (G:Glo):St→Option (Ex × St):=roundF (fun st f=>q425_b1.exec C L G st f) [1,5,6,7,8,9,10] [0] [(0,[4],[])]
def q425_x1_0 (b4:Bool) (h:AHeap):St:=⟨tops 4 (.v (.c (.bool b4)) :: tops 115 []),[none],h⟩
theorem q425_r1 (a1:Int) (x6 x7:Cell) (x8 x9:Cell) (a10:Int) (s0:List Cell) (h:AHeap):q425_F1 C L G (q425_s1 a1 x6 x7 x8 x9 a10 s0 h)=c1 (C 181 [(.c x8)] h) fun y_18 h_17=>asC y_18 fun x_19=>c1 (C 181 [(.c x9)] h_17) fun y_21 h_20=>asC y_21 fun x_22=>lenK x_19 fun n_23=>scK (n_23==0) true (lenK x_22 fun n_24=>some ((n_24==0),h_20)) false h_20 fun b_25 h_26=>if b_25=true then lenK x6 fun n_27=>scK (decide (a10≥n_27)) true (lenK x7 fun n_28=>some ((decide (a10≥n_28)),h_26)) false h_26 fun b_29 h_30=>scK b_29 true (if 0=0∧s0.length=3 then c1 (C 306 [(.agg s0),(.c (.int .i64 a1)),(.c x6)] h_30) fun y_32 h_31=>asB y_32 fun b_33=>some (b_33,h_31) else none) false h_30 fun b_34 h_35=>scK b_34 true (if 0=0∧s0.length=3 then c1 (C 306 [(.agg s0),(.c (.int .i64 a1)),(.c x7)] h_35) fun y_37 h_36=>asB y_37 fun b_38=>some (b_38,h_36) else none) false h_35 fun b_39 h_40=>scK b_39 true (c1 (C 261 [] h_40) fun y_42 h_41=>asB y_42 fun b_43=>some (b_43,h_41)) false h_40 fun b_44 h_45=>some (.ret,(q425_x1_0 b_44 h_45)) else lenK x_19 fun n_46=>if (decide (n_46 > 0))=true then lenK x6 fun n_47=>scK (decide (a10≥n_47)) false (idxSK 1 x6 a10 fun k_48 N_49 o_50=>rdH h_26 k_48 N_49 fun l_51=>atK l_51 o_50 fun q_52=>asI .i64 (.c q_52) fun n_53=>idxSK 1 x_19 0 fun k_54 N_55 o_56=>rdH h_26 k_54 N_55 fun l_57=>atK l_57 o_56 fun q_58=>asI .i64 (.c q_58) fun n_59=>some ((n_53 != n_59),h_26)) true h_26 fun b_60 h_61=>if b_60=true then some (.ret,(q425_x1_0 false h_61)) else idxSK 1 x_19 0 fun k_62 N_63 o_64=>rdH h_61 k_62 N_63 fun l_65=>atK l_65 o_64 fun q_66=>asI .i64 (.c q_66) fun n_67=>c2 (C 182 [(.c x8),(.c (.int .i64 n_67))] h_61) fun y_69 y_70 h_68=>asA y_69 fun l_71=>asB y_70 fun b_72=>lenK x_22 fun n_73=>if (decide (n_73 > 0))=true then lenK x7 fun n_74=>scK (decide (a10≥n_74)) false (idxSK 1 x7 a10 fun k_75 N_76 o_77=>rdH h_68 k_75 N_76 fun l_78=>atK l_78 o_77 fun q_79=>asI .i64 (.c q_79) fun n_80=>lenK x_22 fun n_81=>idxSK 1 x_22 (G.wrap .i64 (n_81 - 1)) fun k_82 N_83 o_84=>rdH h_68 k_82 N_83 fun l_85=>atK l_85 o_84 fun q_86=>asI .i64 (.c q_86) fun n_87=>some ((n_80 != n_87),h_68)) true h_68 fun b_88 h_89=>if b_88=true then some (.ret,(q425_x1_0 false h_89)) else lenK x_22 fun n_90=>idxSK 1 x_22 (G.wrap .i64 (n_90 - 1)) fun k_91 N_92 o_93=>rdH h_89 k_91 N_92 fun l_94=>atK l_94 o_93 fun q_95=>asI .i64 (.c q_95) fun n_96=>c2 (C 182 [(.c x9),(.c (.int .i64 n_96))] h_89) fun y_98 y_99 h_97=>asA y_98 fun l_100=>asB y_99 fun b_101=>some (.normal,(q425_s1 a1 x6 x7 x8 x9 (G.wrap .i64 (a10+1)) s0 h_97)) else some (.normal,(q425_s1 a1 x6 x7 x8 x9 (G.wrap .i64 (a10+1)) s0 h_68)) else lenK x_22 fun n_102=>if (decide (n_102 > 0))=true then lenK x7 fun n_103=>scK (decide (a10≥n_103)) false (idxSK 1 x7 a10 fun k_104 N_105 o_106=>rdH h_26 k_104 N_105 fun l_107=>atK l_107 o_106 fun q_108=>asI .i64 (.c q_108) fun n_109=>lenK x_22 fun n_110=>idxSK 1 x_22 (G.wrap .i64 (n_110 - 1)) fun k_111 N_112 o_113=>rdH h_26 k_111 N_112 fun l_114=>atK l_114 o_113 fun q_115=>asI .i64 (.c q_115) fun n_116=>some ((n_109 != n_116),h_26)) true h_26 fun b_117 h_118=>if b_117=true then some (.ret,(q425_x1_0 false h_118)) else lenK x_22 fun n_119=>idxSK 1 x_22 (G.wrap .i64 (n_119 - 1)) fun k_120 N_121 o_122=>rdH h_118 k_120 N_121 fun l_123=>atK l_123 o_122 fun q_124=>asI .i64 (.c q_124) fun n_125=>c2 (C 182 [(.c x9),(.c (.int .i64 n_125))] h_118) fun y_127 y_128 h_126=>asA y_127 fun l_129=>asB y_128 fun b_130=>some (.normal,(q425_s1 a1 x6 x7 x8 x9 (G.wrap .i64 (a10+1)) s0 h_126)) else some (.normal,(q425_s1 a1 x6 x7 x8 x9 (G.wrap .i64 (a10+1)) s0 h_26)):=by kernel_rfl
theorem q425_e1_0 (h0:AHeap) (b4:Bool) (h:AHeap):(q425_k2 C L G h0) .ret (q425_x1_0 b4 h)=some ([(.c (.bool b4))],h):=by kernel_rfl
set_option maxRecDepth 100000 in
theorem q425_eq (x0:Cell) (a1:Int) (h0:AHeap):q425.body C L G [(.c x0),(.c (.int .i64 a1))] h0=c1 (C 76 [(.c x0),(.c (.int .i64 12))] h0) fun y_2 h_1=>asA y_2 fun l_3=>if 0=0∧[Cell.nils,Cell.nils,Cell.nils].length=3∧l_3.length=3 then let v_4:Int:=(G.wrap .i64 ((G.rem .i64 (G.band .i64 a1 255) 3)+1));if 0=0∧l_3.length=3 then c1 (C 423 [(.agg l_3),(.c (.int .i64 v_4))] h_1) fun y_6 h_5=>asC y_6 fun x_7=>if 0=0∧l_3.length=3 then c1 (C 424 [(.agg l_3),(.c (.int .i64 v_4))] h_5) fun y_9 h_8=>asC y_9 fun x_10=>if 0=0∧l_3.length=3 then c1 (C 180 [(.agg l_3),(.c (.int .i64 v_4))] h_8) fun y_12 h_11=>asC y_12 fun x_13=>if 0=0∧l_3.length=3 then c1 (C 180 [(.agg l_3),(.c (.int .i64 v_4))] h_11) fun y_15 h_14=>asC y_15 fun x_16=>(L (q425_F1 C L G) (q425_s1 v_4 x_7 x_10 x_13 x_16 0 l_3 h_14)).bind fun p_131=>(q425_k2 C L G h0) p_131.1 p_131.2 else none else none else none else none else none:=by kernel_rfl
end Jq

namespace Jq
open Go
def MV.whole (V:MV) (l:List Int):Prop:=(V.runG l).2=l.length
def MV.runs (V:MV) (l:List Int):MV:=(V.runG l).1
theorem MV.runG_cons (V:MV) (p:Int) (ps:List Int):V.runG (p :: ps)=if mayI V p=true then (((V.nx p.toNat).runG ps).1,((V.nx p.toNat).runG ps).2+1) else (V,0):=rfl
theorem MV.runG_append:∀(l l':List Int) (V:MV),V.whole l→V.runG (l++l')=(((V.runs l).runG l').1,l.length+((V.runs l).runG l').2)
 | [],l',V,_=>by
  show V.runG l'=((V.runG l').1,([]:List Int).length+(V.runG l').2)
  rw [List.length_nil,Nat.zero_add]
 | p :: ps,l',V,hw=>by
  unfold MV.whole at hw
  rw [List.cons_append,MV.runG_cons]
  unfold MV.runs
  rw [MV.runG_cons] at hw ⊢
  by_cases h:mayI V p=true
  ·rw [if_pos h] at hw
   rw [if_pos h,if_pos h]
   have:=MV.runG_append ps l' (V.nx p.toNat) (by unfold MV.whole;simp only [List.length_cons] at hw;omega)
   rw [this]
   unfold MV.runs
   rw [List.length_cons]
   refine Prod.ext rfl ?_
   dsimp only;omega
  ·rw [if_neg h] at hw
   simp at hw
theorem MV.whole_take {V:MV} {l:List Int} (hw:V.whole l) (i:Nat):V.whole (l.take i):=by
 have:∀(l:List Int) (V:MV),V.whole l→∀i,V.whole (l.take i):=by
  intro l
  induction l with
  | nil=>intro V _ i;rw [List.take_nil];rfl
  | cons p ps ih =>
   intro V hw i
   cases i with
   | zero=>rfl
   | succ i =>
    rw [List.take_succ_cons]
    unfold MV.whole at hw ⊢
    unfold MV.runG at hw ⊢
    by_cases h:mayI V p=true
    ·rw [if_pos h] at hw ⊢
     have:=ih (V.nx p.toNat) (by unfold MV.whole;simp only [List.length_cons] at hw;omega) i
     unfold MV.whole at this
     dsimp only
     rw [this,List.length_cons]
    ·rw [if_neg h] at hw
     simp at hw
 exact this l V hw i
theorem MV.whole_get {V:MV} {l:List Int} (hw:V.whole l) {i:Nat} (hi:i<l.length):∃j:Nat,l[i]? = some (j:Int)∧(V.runs (l.take i)).may j=true∧V.runs (l.take (i+1))=(V.runs (l.take i)).nx j:=by
 have h1:=MV.whole_take hw (i+1)
 obtain ⟨q,hq⟩:∃q,l[i]? = some q:=⟨l[i],List.getElem?_eq_getElem hi⟩
 rw [takeI_succ hq] at h1
 have h2:=MV.runG_append (l.take i) [q] V (MV.whole_take hw i)
 unfold MV.whole at h1
 rw [h2] at h1
 dsimp only at h1
 rw [List.length_append,List.length_singleton] at h1
 have h3:(V.runs (l.take i)).runG [q]=if mayI (V.runs (l.take i)) q=true then (((V.runs (l.take i)).nx q.toNat).runG [] |>.1,1) else (V.runs (l.take i),0):=rfl
 by_cases hm:mayI (V.runs (l.take i)) q=true
 ·obtain ⟨j,rfl,hj,hn⟩:=mayI_at hm
  refine ⟨j,hq,hj,?_⟩
  unfold MV.runs at h2 h3 hm ⊢
  rw [takeI_succ hq,h2,h3,if_pos hm,hn]
  rfl
 ·rw [h3,if_neg hm] at h1
  dsimp only at h1;omega
theorem MV.runs_inv {V:MV} (v:V.Inv) (l:List Int):(V.runs l).Inv∧(V.runs l).P=V.P∧(V.runs l).m=V.m:=⟨(MV.runG_inv v l).1,(MV.runG_inv v l).2.1,(MV.runG_inv v l).2.2.1⟩
theorem MV.runs_st {V:MV} (v:V.Inv) {l:List Int} (hw:V.whole l):(V.runs l).st.length=V.st.length+l.length:=by
 have:=(MV.runG_inv v l).2.2.2.1
 unfold MV.whole at hw
 unfold MV.runs
 omega
theorem RvAt.apart {n k:Nat} {h:AHeap} {x:Cell} {bs pc:List Cell} {V:MV} (a:RvAt n h k x bs pc V) {n1 len:Nat} {y:Cell} {cs:List Cell} (o:Own n1 h y 1 cs len) {j:Nat} (hj:isBlk y j):j≠k∧¬isBlk x j∧∀t,t<4→¬isBlk (bs.getD t .nils) j:=by
 have h1:=o.has hj
 refine ⟨fun e=>?_,fun q=>?_,fun t ht q=>?_⟩
 ·rw [e,a.blk] at h1
  have:=(Blk.mk.inj (Option.some.inj h1)).2.1
  omega
 ·rw [a.st.has q] at h1
  have:=(Blk.mk.inj (Option.some.inj h1)).2.1
  omega
 ·rw [(a.bf t ht).1.has q] at h1
  have:=(Blk.mk.inj (Option.some.inj h1)).2.1
  omega
section
variable {E:Env}
end
end Jq

namespace Jq
open Go
structure Plays (P:PProg) (m:Int):Prop where
 small:P.small
 hu:∀x∈P.locs,0≤x∧x<256
 ll:P.locs.length≤1000
 il:P.init.length≤4
 hm:1≤m∧m≤3
 pok:pokB P=true
 inv:(MV.new P m).Inv
 good:P.good
 n4:P.thr.length≤4
theorem GoodP.plays {most:Nat} {P:PProg} (g:GoodP most P) (r:RunP P) (hu:∀x∈P.locs,0≤x∧x<256) {m:Int} (hm:1≤m∧m≤3):Plays P m :=
 ⟨g.small,hu,by have:=g.locs;have:=g.init;omega,by have:=g.init;omega,hm,r.pok,g.inv r hm,g.good,by have:=g.n;omega⟩
section
variable {E:Env}
theorem mayI_no {V:MV} {q:Int} (h:mayI V q=false):hasI V.word q=false:=by rw [←mayI_has];exact h
theorem prun_R (hE:q278_In E) {h:AHeap} {pc:List Cell} {P:PProg} (p:ProgAt h pc P) {m:Int} (pl:Plays P m) {y:Cell} {l:List Int} (hy:SlAt h y 1 (intC .i64 l) l.length) (hlow:Low h.length y) (hlen:l.length<90000) :
  ∃n k x' pc' h',R E 278 [.agg pc,.c (.int .i64 m),.c y] h=some ([.c (.ptr k 329 0),.c (.int .i64 (((MV.new P m).runG l).2:Int))],h')∧VmAt n h' k x' pc' ((MV.new P m).runs l)∧h.length≤n∧Kp h.length h h':=by
 obtain ⟨n,k0,pc',h1,r1,a1,hn,k1⟩:=VNew_R hE.c171 p pl.small pl.hu pl.ll pl.il pl.hm pl.pok
 have key:∀(t:List Int) (j:Nat) (V:MV) (x:Cell) (h2:AHeap),l.drop j=t→j≤l.length→V.st.length=j→V.Inv→VmAt n h2 k0 x pc' V→Kp h.length h h2 →
   ∃x' h3,(Lim (q278_F1 (R E) Lim E.glob) (q278_s1 y (.ptr k0 329 0) y (l.length:Int) (j:Int) h2)).bind (fun p_17=>(q278_k3 (R E) Lim E.glob h) p_17.1 p_17.2)=some ([.c (.ptr k0 329 0),.c (.int .i64 ((j+(V.runG t).2:Nat):Int))],h3)∧VmAt n h3 k0 x' pc' (V.runG t).1∧Kp h.length h h3:=by
  intro t
  induction t with
  | nil =>
   intro j V x h2 hd hj hst v a kk
   have hjl:j=l.length:=by
    have:=congrArg List.length hd
    rw [List.length_drop,List.length_nil] at this;omega
   subst hjl
   have hy2:=hy.keep hlow kk
   have e1:q278_F1 (R E) Lim E.glob (q278_s1 y (.ptr k0 329 0) y (l.length:Int) (l.length:Int) h2)=some (.exit 0,q278_x1_1 y (.ptr k0 329 0) h2):=by
    rw [q278_r1,if_neg (by simp)]
   refine ⟨x,h2,?_,a,kk⟩
   rw [Lim_exit e1,bind_ok]
   dsimp only
   rw [q278_e1_1,hy2.len]
   rfl
  | cons q t ih =>
   intro j V x h2 hd hj hst v a kk
   have hjl:j<l.length:=by
    rcases Nat.lt_or_ge j l.length with c | c
    ·exact c
    ·rw [List.drop_of_length_le c] at hd;cases hd
   have hq:l[j]? = some q:=by
    have:=congrArg (fun z=>z[0]?) hd
    simp only [List.getElem?_drop,List.getElem?_cons_zero,Nat.add_zero] at this
    exact this
   have hd2:l.drop (j+1)=t:=by
    have:=congrArg (List.drop 1) hd
    rw [List.drop_drop] at this
    simpa using this
   have hy2:=hy.keep hlow kk
   unfold MV.runG
   by_cases hm:mayI V q=true
   ·obtain ⟨i,rfl,hi,hin⟩:=mayI_at hm
    rw [if_pos hm,hin]
    obtain ⟨x3,h3,r3,a3,k3⟩:=Pick_R hE.c173 a v (by omega) hi
    have e1:q278_F1 (R E) Lim E.glob (q278_s1 y (.ptr k0 329 0) y (l.length:Int) (j:Int) h2)=some (.normal,q278_s1 y (.ptr k0 329 0) y (l.length:Int) ((j+1:Nat):Int) h3):=by
     rw [q278_r1,if_pos (by simp;omega),hy2.get1 hjl (intC_get hq),asI_ok,r3,c2_ok,asA_ok,asB_ok,if_pos (by exact ⟨rfl,rfl,rfl⟩),if_neg (by simp),g_succ (by omega)]
    obtain ⟨x4,h4,r4,a4,k4⟩:=ih (j+1) (V.nx i) x3 h3 hd2 (by omega) (by rw [V.nx_st,List.length_append,List.length_singleton,hst]) (v.nx hi) a3 (kk.trans (k3.kp.mono hn))
    refine ⟨x4,h4,?_,a4,k4⟩
    have hL:∀r,Lim (q278_F1 (R E) Lim E.glob) (q278_s1 y (.ptr k0 329 0) y (l.length:Int) ((j+1:Nat):Int) h3)=some r→Lim (q278_F1 (R E) Lim E.glob) (q278_s1 y (.ptr k0 329 0) y (l.length:Int) (j:Int) h2)=some r:=fun r hr=>Lim_next e1 hr
    cases hl:Lim (q278_F1 (R E) Lim E.glob) (q278_s1 y (.ptr k0 329 0) y (l.length:Int) ((j+1:Nat):Int) h3) with
    | none=>rw [hl] at r4;cases r4
    | some r =>
     rw [hl] at r4
     rw [hL r hl,r4,show j+1+((V.nx i).runG t).2=j+(((V.nx i).runG t).2+1) by omega]
   ·rw [if_neg hm]
    have hm':mayI V q=false:=by simpa using hm
    have r3:=Pick_no hE.c173 a v (mayI_no hm')
    have e1:q278_F1 (R E) Lim E.glob (q278_s1 y (.ptr k0 329 0) y (l.length:Int) (j:Int) h2)=some (.ret,q278_x1_0 (.ptr k0 329 0) (j:Int) h2):=by
     rw [q278_r1,if_pos (by simp;omega),hy2.get1 hjl (intC_get hq),asI_ok,r3,c2_ok,asA_ok,asB_ok,if_pos (by exact ⟨rfl,rfl,rfl⟩),if_pos (by simp)]
    refine ⟨x,h2,?_,a,kk⟩
    rw [Lim_ret e1,bind_ok]
    dsimp only
    rw [q278_e1_0]
    rfl
 obtain ⟨x',h3,e1,e2,e3⟩:=key l 0 (MV.new P m) .nils h1 rfl (by omega) rfl pl.inv a1 k1
 refine ⟨n,k0,x',pc',h3,R_intro hE.fn ?_,e2,hn,e3⟩
 rw [q278_eq,if_pos (by exact ⟨rfl,p.len⟩),r1,c2_ok,asC_ok,asI_ok,if_neg (by simp),hy.len]
 rw [Nat.zero_add,show ((0:Nat):Int)=0 from rfl] at e1
 exact e1
theorem PRun_R (hE:q271_In E) {h:AHeap} {pc:List Cell} {P:PProg} (p:ProgAt h pc P) {m:Int} (pl:Plays P m) {y:Cell} {l:List Int} (hy:SlAt h y 1 (intC .i64 l) l.length) (hlow:Low h.length y) (hlen:l.length<90000) :
  ∃z h',R E 271 [.agg pc,.c (.int .i64 m),.c y] h=some ([.c z,.c (.int .i64 (((MV.new P m).runG l).2:Int)),.c (.bool (((MV.new P m).runs l).word==0))],h')∧Own h.length h' z 7 (stepsC ((MV.new P m).runs l).st) ((MV.new P m).runs l).st.length∧Kp h.length h h':=by
 obtain ⟨n,k,x',pc',h1,r1,a1,hn,k1⟩:=prun_R hE.c278 p pl hy hlow hlen
 obtain ⟨v,vP,vm⟩:=MV.runs_inv pl.inv l
 have vst:=(MV.runG_inv pl.inv l).2.2.2
 have hst:((MV.new P m).runs l).st.length≤100000:=by
  show ((MV.new P m).runG l).1.st.length≤100000
  rw [vst.1,show (MV.new P m).st.length=0 from rfl]
  have:=vst.2
  omega
 obtain ⟨z,h2,r2,o2,k2⟩:=Steps_R hE.c175 a1 v.fit hst
 have a2:=a1.keep k2
 have r3:=Done_R hE.c174 a2.blk v.fit (prog_at a2.prog a2.hn (Kp.refl n h2))
 refine ⟨z,h2,R_intro hE.fn ?_,o2.monoN k1.1,k1.trans (k2.mono k1.1)⟩
 rw [q271_eq,if_pos (by exact ⟨rfl,p.len⟩),r1,c2_ok,asC_ok,asI_ok]
 rw [ptr_nil,if_neg (by simp),r2,c1_ok,asC_ok,r3,c1_ok,asB_ok]
end
end Jq

namespace Jq
open Go
theorem ptr_nilT {α:Type} {k:Nat} {f:Bool→Option α}:eqNilK true (.ptr k 329 0) .nilp f=f true:=rfl
def maxB (P:PProg) (m:Int) (l:List Int):Bool:=((MV.new P m).runG l).2==l.length&&((MV.new P m).runs l).word==0
structure Greedy (pk:MV→Nat) (V:MV) (l:List Int):Prop where
 whole:V.whole l
 word:(V.runs l).word=0
 at_:∀i,i<l.length→l[i]? = some ((pk (V.runs (l.take i)):Nat):Int)
def pkF (V:MV):Nat:=(bitsL V.word).getD 0 0
def pkL (V:MV):Nat:=(bitsL V.word).getD ((bitsL V.word).length - 1) 0
theorem VmAt.apart1 {n k:Nat} {h:AHeap} {x:Cell} {pc:List Cell} {V:MV} (a:VmAt n h k x pc V) {n1 len:Nat} {y:Cell} {cs:List Cell} (o:Own n1 h y 1 cs len) {j:Nat} (hj:isBlk y j):j≠k∧¬isBlk x j:=by
 have h1:=o.has hj
 refine ⟨fun e=>?_,fun q=>?_⟩
 ·rw [e,a.blk] at h1
  have:=(Blk.mk.inj (Option.some.inj h1)).2.1
  omega
 ·rw [a.st.has q] at h1
  have:=(Blk.mk.inj (Option.some.inj h1)).2.1
  omega
section
variable {E:Env}
theorem Maximal_R (hE:q306_In E) {h:AHeap} {pc:List Cell} {P:PProg} (p:ProgAt h pc P) {m:Int} (pl:Plays P m) {y:Cell} {l:List Int} (hy:SlAt h y 1 (intC .i64 l) l.length) (hlow:Low h.length y) (hlen:l.length<90000) :
  ∃h',R E 306 [.agg pc,.c (.int .i64 m),.c y] h=some ([.c (.bool (maxB P m l))],h')∧Kp h.length h h':=by
 obtain ⟨n,k,x',pc',h1,r1,a1,hn,k1⟩:=prun_R hE.c278 p pl hy hlow hlen
 obtain ⟨v,vP,vm⟩:=MV.runs_inv pl.inv l
 have r3:=Done_R hE.c174 a1.blk v.fit (prog_at a1.prog a1.hn (Kp.refl n h1))
 have hz:((((MV.new P m).runG l).2:Int)==(l.length:Int))=(((MV.new P m).runG l).2==l.length):=by rw [Bool.eq_iff_iff,beq_iff_eq,beq_iff_eq];omega
 refine ⟨h1,R_intro hE.fn ?_,k1⟩
 rw [q306_eq,if_pos (by exact ⟨rfl,p.len⟩),r1,c2_ok,asC_ok,asI_ok,ptr_nilT,scK_ok,(hy.keep hlow k1).len,bind_ok]
 dsimp only
 rw [hz]
 unfold maxB
 cases ((MV.new P m).runG l).2==l.length with
 | true=>rw [scK_ok,r3,c1_ok,asB_ok,bind_ok,Bool.true_and]
 | false=>rw [scK_ft,Bool.false_and]
set_option maxHeartbeats 1000000 in
theorem always_R (hE:q429_In E) (ht:TabOk E) {h:AHeap} {pc:List Cell} {P:PProg} (p:ProgAt h pc P) {m:Int} (pl:Plays P m) (w0:(MV.new P m).Inv2) (sk0:(MV.new P m).skips) (hsz:sumL P.thr≤1000) {g:Nat} {pk:MV→Nat}
  (hg:∀{V:MV} {y:Cell} {n:Nat} {h:AHeap},Own n h y 1 (natC (bitsL V.word)) (bitsL V.word).length→V.word≠0→V.may (pk V)=true∧R E g [.c y] h=some ([.c (.int .i64 ((pk V:Nat):Int))],h)) :
  ∃z row h',R E 429 [.agg pc,.c (.int .i64 m),.c (.fn g [])] h=some ([.c z],h')∧Own h.length h' z 1 (intC .i64 row) row.length∧Kp h.length h h'∧Greedy pk (MV.new P m) row∧row.length≤2000:=by
 have hM:maxBytes≥10000*8:=by unfold maxBytes;omega
 obtain ⟨n,k,pc',h1,r1,a1,hn,k1⟩:=VNew_R hE.c171 p pl.small pl.hu pl.ll pl.il pl.hm pl.pok
 obtain ⟨e,he,hQ⟩:=Lim_fallN (F:=q429_F1 (R E) Lim E.glob)
  (fun q st=>∃(row:List Int) (z x:Cell) (h':AHeap),q=2001 - row.length∧st=q429_s1 (.fn g []) (.ptr k 329 0) z h'∧(MV.new P m).whole row∧(∀i,i<row.length→row[i]? = some ((pk ((MV.new P m).runs (row.take i)):Nat):Int))∧((MV.new P m).runs row).Inv2∧((MV.new P m).runs row).skips∧VmAt n h' k x pc' ((MV.new P m).runs row)∧Own n h' z 1 (intC .i64 row) row.length∧Kp h.length h h')
  (fun e=>∃(row:List Int) (z:Cell) (h':AHeap),e=(.exit 0,q429_x1_1 z h')∧Own n h' z 1 (intC .i64 row) row.length∧Kp h.length h h'∧Greedy pk (MV.new P m) row∧row.length≤2000)
  (fun q st hI=>by
   obtain ⟨row,z,x,h',rfl,rfl,hw,hat,w,sk,a,oz,kk⟩:=hI
   obtain ⟨v,vP,vm⟩:=MV.runs_inv pl.inv row
   have vst:=MV.runs_st pl.inv hw
   rw [show (MV.new P m).st.length=0 from rfl,Nat.zero_add] at vst
   have hP:(MV.new P m).P=P:=rfl
   have hmost:=w.most (by rw [vP];exact pl.n4)
   rw [vP,hP] at hmost
   have hrow:row.length≤2000:=by omega
   generalize hV:(MV.new P m).runs row=V at *
   have pg:=prog_at a.prog a.hn (Kp.refl n h')
   have dn:=Done_R hE.c174 a.blk v.fit pg
   by_cases h0:V.word=0
   ·refine .inr ⟨_,?_,(by simp:Ex.exit 0≠.normal),row,z,h',rfl,oz,kk,⟨hw,by rw [hV];exact h0,hat⟩,hrow⟩
    rw [q429_r1,dn,c1_ok,asB_ok,h0,if_neg (by simp)]
   ·have en:=Enabled_R hE.c172 a.blk v.fit pg
    obtain ⟨y,h5,r5,o5,k5⟩:=List_R hE.c32 ht V.word_lt h'
    obtain ⟨hmay,hgr⟩:=hg o5 h0
    have a5:=a.keep k5
    have oz5:=oz.keepK k5
    have kk5:Kp h.length h h5:=kk.trans (k5.mono kk.1)
    obtain ⟨x6,h6,r6,a6,k6⟩:=Pick_R hE.c173 a5 v (by omega) hmay
    have oz6:Own n h6 z 1 (intC .i64 row) row.length:=oz5.via fun j b q1 q2=>(k6.old j b q2 (a5.apart1 oz5 q1).1 (a5.apart1 oz5 q1).2).1
    have kk6:Kp h.length h h6:=kk5.trans (k6.kp.mono hn)
    obtain ⟨z9,h9,e9,o9,k9,s9⟩:=oz6.app (bytes:=8) (xs:=[.int .i64 ((pk V:Nat):Int)]) a6.hn rfl (by omega) (by omega) (by omega)
    have rs:(MV.new P m).runG (row++[((pk V:Nat):Int)])=(V.nx (pk V),row.length+1):=by
     have:=MV.runG_snoc row (MV.new P m) (pk V) hw (by rw [show ((MV.new P m).runG row).1=V from hV];exact hmay)
     rw [this,show ((MV.new P m).runG row).1=V from hV]
    have hrs:(MV.new P m).runs (row++[((pk V:Nat):Int)])=V.nx (pk V):=by unfold MV.runs;rw [rs]
    have a9:VmAt n h9 k x6 pc' (V.nx (pk V)):=a6.other k9.1 k9 ((s9 k _ a6.blk fun q=>(a6.apart1 oz6 q).1 rfl).1.trans a6.blk.symm) fun j q=>by
     have hb:=a6.st.has q
     exact (s9 j _ hb fun q2=>(a6.apart1 oz6 q2).2 q).1.trans hb.symm
    refine .inl ⟨q429_s1 (.fn g []) (.ptr k 329 0) z9 h9,2001 - (row++[((pk V:Nat):Int)]).length,?_,⟨row++[((pk V:Nat):Int)],z9,x6,h9,rfl,rfl,?_,?_,?_,?_,?_,?_,kk6.trans (k9.mono hn)⟩,?_⟩
    ·rw [q429_r1,dn,c1_ok,asB_ok,show (!(V.word==0))=true by simp [h0],if_pos rfl,en,c1_ok,asI_ok,r5,c1_ok,asC_ok]
     show fnK (.fn g []) _=_
     unfold fnK
     dsimp only
     rw [show capAVs []=[] from rfl,List.append_nil,hgr,c1_ok,asI_ok,r6,c2_ok,asA_ok,asB_ok,if_pos (by rfl)]
     exact e9 _
    ·unfold MV.whole;rw [rs];simp
    ·intro i hi
     rw [List.length_append,List.length_singleton] at hi
     by_cases hc:i<row.length
     ·rw [List.getElem?_append_left hc,List.take_append_of_le_length (by omega)];exact hat i hc
     ·obtain rfl:i=row.length:=by omega
      rw [List.getElem?_append_right (Nat.le_refl _),Nat.sub_self,List.take_append_of_le_length (Nat.le_refl _),List.take_length,hV];rfl
    ·rw [hrs];exact v.inv2_nx w sk hmay
    ·rw [hrs];exact MV.skips_nx sk _
    ·rw [hrs];exact a9
    ·rw [intC_snoc,List.length_append,List.length_singleton];exact o9
    ·rw [List.length_append,List.length_singleton];omega)
  (k:=2001) (st:=q429_s1 (.fn g []) (.ptr k 329 0) .nils h1)
  ⟨[],.nils,.nils,h1,rfl,rfl,rfl,by simp,w0,sk0,a1,Own.nil _ _ _,k1⟩
 obtain ⟨row,z,h',rfl,o,kk,hgr,hlen⟩:=hQ
 refine ⟨z,row,h',R_intro hE.fn ?_,o.monoN hn,kk,hgr,hlen⟩
 rw [q429_eq,if_pos (by exact ⟨rfl,p.len⟩),r1,c2_ok,asC_ok,asI_ok,if_neg (by simp),he,bind_ok]
 dsimp only
 rw [q429_e1_1]
theorem PFirst_R (hE:q423_In E) (ht:TabOk E) {h:AHeap} {pc:List Cell} {P:PProg} (p:ProgAt h pc P) {m:Int} (pl:Plays P m) (w0:(MV.new P m).Inv2) (sk0:(MV.new P m).skips) (hsz:sumL P.thr≤1000) :
  ∃z row h',R E 423 [.agg pc,.c (.int .i64 m)] h=some ([.c z],h')∧Own h.length h' z 1 (intC .i64 row) row.length∧Kp h.length h h'∧Greedy pkF (MV.new P m) row∧row.length≤2000:=by
 obtain ⟨z,row,h',r,o,k,g,hl⟩:=always_R (E:=E) (g:=428) (pk:=pkF) hE.c429 ht p pl w0 sk0 hsz (fun {V y n h} o h0=>by
  have hne:(bitsL V.word).length≠0:=fun e=>h0 (bits_none.1 e)
  have hq:(bitsL V.word)[0]? = some (pkF V):=by
   unfold pkF
   rw [List.getD_eq_getElem?_getD,List.getElem?_eq_getElem (by omega)];rfl
  refine ⟨bits_may hq,R_intro hE.c428.fn ?_⟩
  have:=o.at.get1 (i:=0) (by omega) (natC_get hq) (f:=fun q_5=>asI .i64 (.c q_5) fun n_6=>some ([(AV.c (.int .i64 n_6))],h))
  rw [q428_eq]
  exact this.trans (asI_ok ..))
 refine ⟨z,row,h',R_intro hE.fn ?_,o,k,g,hl⟩
 rw [q423_eq,if_pos (by exact ⟨rfl,p.len⟩),r,c1_ok,asC_ok]
theorem PLazy_R (hE:q424_In E) (ht:TabOk E) {h:AHeap} {pc:List Cell} {P:PProg} (p:ProgAt h pc P) {m:Int} (pl:Plays P m) (w0:(MV.new P m).Inv2) (sk0:(MV.new P m).skips) (hsz:sumL P.thr≤1000) :
  ∃z row h',R E 424 [.agg pc,.c (.int .i64 m)] h=some ([.c z],h')∧Own h.length h' z 1 (intC .i64 row) row.length∧Kp h.length h h'∧Greedy pkL (MV.new P m) row∧row.length≤2000:=by
 obtain ⟨z,row,h',r,o,k,g,hl⟩:=always_R (E:=E) (g:=430) (pk:=pkL) hE.c429 ht p pl w0 sk0 hsz (fun {V y n h} o h0=>by
  have hne:(bitsL V.word).length≠0:=fun e=>h0 (bits_none.1 e)
  have hlen:=bits_len V.word
  have hq:(bitsL V.word)[(bitsL V.word).length - 1]? = some (pkL V):=by
   unfold pkL
   rw [List.getD_eq_getElem?_getD,List.getElem?_eq_getElem (by omega)];rfl
  refine ⟨bits_may hq,R_intro hE.c430.fn ?_⟩
  have:=o.at.get1 (i:=(bitsL V.word).length - 1) (by omega) (natC_get hq) (f:=fun q_5=>asI .i64 (.c q_5) fun n_6=>some ([(AV.c (.int .i64 n_6))],h))
  rw [q430_eq,o.at.len,g_wrap_i64 (by omega) (by omega),show ((bitsL V.word).length:Int) - 1=(((bitsL V.word).length - 1:Nat):Int) by omega]
  exact this.trans (asI_ok ..))
 refine ⟨z,row,h',R_intro hE.fn ?_,o,k,g,hl⟩
 rw [q424_eq,if_pos (by exact ⟨rfl,p.len⟩),r,c1_ok,asC_ok]
end
end Jq

namespace Jq
open Go
theorem sb_good:sbP.good:=by
 refine ⟨sb_small.fits,fun c hc=>?_⟩
 simp [sbP] at hc
 rcases hc with rfl | rfl <;>
 ·intro i hi
  simp [sbC] at hi
  rcases hi with rfl | rfl<;>exact ⟨by decide,by decide,by decide,by decide⟩
def sbW:MV:=MV.new sbP 1
theorem sbW_inv:sbW.Inv:=MV.new_inv (by omega) sb_small sb_fld (by decide) (by decide) (fun c hc=>by
 simp [sbP] at hc
 rcases hc with rfl | rfl<;>decide)
theorem sb_plays:Plays sbP 1:=⟨sb_small,by decide,by decide,by decide,by omega,sb_pok,sbW_inv,sb_good,by decide⟩
theorem sb_run:(sbW.runG [0,0,0]).2=2∧((sbW.runs [0,0,0]).word==0)=false∧(sbW.runs [0,0,0]).st.length=2:=by decide +kernel
theorem picks_text:picksOf (parts [116,48,32,102,48,32,102,49,46,49])=some [0,4,13]:=by decide +kernel
theorem text_picks:(ByteArray.toList (textOf [0,4,13])==ByteArray.toList (ByteArray.mk #[116,48,32,102,48,32,102,49,46,49]))=true:=by kernel_rfl
section
variable {E:Env}
theorem awake17_R (hE:q261_In E) (hx:Ext17 E) (h:AHeap):R E 261 [] h=some ([.c (.bool true)],h):=by
 have hM:maxBytes=1099511627776:=rfl
 have hp:parseX [.c (.str (ByteArray.mk #[116,48,32,102,48,32,102,49,46,49]))] h=some ([.c (.sl h.length 3 0 3),.c (.bool true)],h++[some ⟨true,1,intC .i64 [0,4,13]⟩]):=by
  unfold parseX
  dsimp only
  rw [if_neg (by decide),if_pos (by decide +kernel),picks_text]
  rfl
 have r1:=Parse_R hx hE.x260 hp
 generalize hH:h++[some (Blk.mk true 1 (intC .i64 [0,4,13]))]=H at r1
 have k1:Kp h.length h H:=by rw [←hH];exact Kp.app _ (Nat.le_refl _)
 have o1:Own h.length H (.sl h.length 3 0 3) 1 (intC .i64 [0,4,13]) 3:=⟨rfl,.inr ⟨h.length,rfl,Nat.le_refl _,by rw [←hH];exact blk_new _ _⟩⟩
 obtain ⟨cs,h2,r2,p2,k2⟩:=SB_R hE.c187 H
 have k3:Kp h2.length h2 (h2++[some (Blk.mk true 1 (intC .i64 [0,0,0]))]):=Kp.app _ (Nat.le_refl _)
 have o3:SlAt (h2++[some (Blk.mk true 1 (intC .i64 [0,0,0]))]) (.sl h2.length 3 0 3) 1 (intC .i64 [0,0,0]) 3:=SlAt.whole (blk_new _ _) rfl
 obtain ⟨z,h4,r4,o4,k4⟩:=PRun_R hE.c271 (p2.keep k3) sb_plays (y:=.sl h2.length 3 0 3) (l:=[0,0,0]) o3 (.inr (by simp)) (by decide)
 obtain ⟨s1,s2,s3⟩:=sb_run
 have e1:((MV.new sbP 1).runG [0,0,0]).2=2:=s1
 have e2:(((MV.new sbP 1).runs [0,0,0]).word==0)=false:=s2
 have e3:((MV.new sbP 1).runs [0,0,0]).st.length=2:=s3
 rw [e1,e2] at r4
 rw [e3] at o4
 have kk:Kp h.length h h4:=((k1.trans (k2.mono k1.1)).trans (k3.mono (Nat.le_trans k1.1 k2.1))).trans (k4.mono (Nat.le_trans k1.1 (Nat.le_trans k2.1 k3.1)))
 have o1':Own h.length h4 (.sl h.length 3 0 3) 1 (intC .i64 [0,4,13]) 3:=((o1.keepK k2).keepK k3).keepK k4
 have k5:Kp h4.length h4 (h4++[some (Blk.mk true 1 (intC .i64 [0,4,13]))]):=Kp.app _ (Nat.le_refl _)
 have o5:SlAt (h4++[some (Blk.mk true 1 (intC .i64 [0,4,13]))]) (.sl h4.length 3 0 3) 1 (intC .i64 [0,4,13]) 3:=SlAt.whole (blk_new _ _) rfl
 obtain ⟨h6,r6,k6⟩:=Text_R hE.c262 hx (y:=.sl h4.length 3 0 3) (l:=[0,4,13]) o5 (.inr (by simp)) (by decide)
 have kk6:Kp h.length h h6:=(kk.trans (k5.mono kk.1)).trans (k6.mono (Nat.le_trans kk.1 k5.1))
 have o4':Own H.length h6 z 7 (stepsC ((MV.new sbP 1).runs [0,0,0]).st) 2:=((o4.monoN (Nat.le_trans k2.1 k3.1)).keepK k5).keepK k6
 have a1:splice (splice (splice [ci0,ci0,ci0] 0 [(.int .i64 0)]) 1 [(.int .i64 0)]) 2 [(.int .i64 0)]=intC .i64 [0,0,0]:=rfl
 have a2:splice (splice (splice [ci0,ci0,ci0] 0 [(.int .i64 0)]) 1 [(.int .i64 4)]) 2 [(.int .i64 13)]=intC .i64 [0,4,13]:=rfl
 refine R_intro hE.fn ?_
 rw [q261_eq,a1,a2,r1,c2_ok,asC_ok,asB_ok,r2,c1_ok,asA_ok,if_pos (by rfl),show (intC .i64 [0,0,0]).length=3 from rfl,r4,c3_ok,asC_ok,asI_ok,asB_ok,scK_ok,o1'.at.len,bind_ok]
 dsimp only
 rw [show (((3:Nat):Int)==3)=true from rfl,scK_ok]
 have g:=o1'.at.get1 (i:=2) (by omega) (c:=.int .i64 13) rfl (f:=fun q_23=>asI .i64 (.c q_23) fun n_24=>some ((n_24==13),h4))
 rw [show ((2:Nat):Int)=2 from rfl] at g
 rw [g,asI_ok,bind_ok]
 dsimp only
 rw [show (((13:Int))==13)=true from rfl,scK_ok,if_pos (by rfl),show (intC .i64 [0,4,13]).length=3 from rfl,r6,c1_ok,asS_ok,text_picks,bind_ok]
 dsimp only
 rw [scK_ok,o4'.at.len,bind_ok]
 dsimp only
 rw [show (((2:Nat):Int)==2)=true from rfl,scK_and,scK_and]
 exact finish_gc kk6 (by simp [avOk,AV.cells,idOk])
end
end Jq


namespace Jq
open Go
structure ThrStep (V:MV) (i:Nat) (s:Stp):Prop where
 t:s.t=(i:Int)
 kind:1≤s.kind∧s.kind≤5
 loc:0≤s.loc∧s.loc<4
 free:s.kind=3∨s.kind=4∨s.kind=5→V.b i=[]
 read:s.kind=1∨s.kind=4∨s.kind=5→s.r=(match newE s.loc (V.b i) with | some e=>e.val | none=>V.mem.getD s.loc.toNat 0)∧s.frm=(match newE s.loc (V.b i) with | some e=>e.id | none=>V.frm.getD s.loc.toNat 0)
 b:∀t,(V.nx i).b t=if t=i∧isSt V.m s=true then V.b i++[⟨s.loc,s.w,V.st.length⟩] else V.b t
 mem:∀c,(V.nx i).mem.getD c 0=if (s.kind=4∨(s.kind=2∧V.m=1))∧c=s.loc.toNat then s.w else V.mem.getD c 0
 frm:∀c,(V.nx i).frm.getD c 0=if (s.kind=4∨(s.kind=2∧V.m=1))∧c=s.loc.toNat then (V.st.length:Int) else V.frm.getD c 0
theorem evOf_cases (q:Ins) (l:Lcl) (v:Int) (hk:1≤q.kind∧q.kind≤4):((evOf q l v).kind=3↔q.kind=3)∧(((evOf q l v).kind=4∨(evOf q l v).kind=5)↔q.kind=4)∧((evOf q l v).kind=1↔q.kind=2)∧((evOf q l v).kind=1∨(evOf q l v).kind=4∨(evOf q l v).kind=5→(evOf q l v).r=v∧(evOf q l v).loc=q.loc∧rdI q=true):=by
 unfold evOf
 by_cases h1:q.kind=1
 ·rw [if_pos h1];dsimp only;refine ⟨by omega,by omega,by omega,fun h=>by omega⟩
 ·rw [if_neg h1]
  by_cases h2:q.kind=2
  ·rw [if_pos h2];dsimp only;exact ⟨by omega,by omega,by omega,fun _=>⟨rfl,rfl,by unfold rdI;exact decide_eq_true (.inl h2)⟩⟩
  ·rw [if_neg h2]
   by_cases h4:q.kind=4
   ·rw [if_pos h4]
    have hr:rdI q=true:=by unfold rdI;exact decide_eq_true (.inr h4)
    split<;>exact ⟨by dsimp only;omega,by dsimp only;omega,by dsimp only;omega,fun _=>⟨rfl,rfl,hr⟩⟩
   ·rw [if_neg h4];dsimp only;exact ⟨by omega,by omega,by omega,fun h=>by omega⟩
theorem MV.Inv.thr_step {V:MV} (v:V.Inv) {i:Nat} (h4:i<4) (hi:V.may i=true):ThrStep V i (V.stp i):=by
 have f:=v.fit
 have hq:=MV.may_thr h4 hi
 have hS:V.stp i={ V.thrS i (V.thrI i) with pick:=i }:=by unfold MV.stp;rw [if_pos h4]
 have hN:V.nx i={ V.thrM i (V.thrI i) with st:=V.st++[V.stp i] }:=by unfold MV.nx;rw [if_pos h4]
 have hB:=v.thrB h4 (V.thrI i)
 generalize hqq:V.thrI i=q at *
 obtain ⟨q1,q2,q3,q4,q5⟩:=v.nxt hq
 have hfree:q.kind=3∨q.kind=4→V.b i=[]:=fun h=>by
  unfold MV.may MV.mayT at hi
  rw [if_pos h4,hq] at hi
  dsimp only at hi
  have:(q.kind==3||q.kind==4)=true:=by rw [Bool.or_eq_true,beq_iff_eq,beq_iff_eq];exact h
  rw [this] at hi
  simpa using hi
 obtain ⟨e1,e2,e3,e4⟩:=evOf_cases q (V.l i) (V.val i q).1 q2
 have hev:=evOf_loc (l:=V.l i) (v:=(V.val i q).1) q1
 have hkk:=evOf_kinds q (V.l i) (V.val i q).1
 generalize hee:evOf q (V.l i) (V.val i q).1=e at *
 have eS:V.stp i=⟨i,i,e.kind,e.loc,e.r,e.w,if rdI q=true then (V.val i q).2 else -1⟩:=by
  rw [hS];unfold MV.thrS;rw [hee]
 have hW:∀W:MV,W=V.wr i e→∀c,W.mem.getD c 0=(if (e.kind=4∨(e.kind=2∧V.m=1))∧c=e.loc.toNat then e.w else V.mem.getD c 0)∧W.frm.getD c 0=(if (e.kind=4∨(e.kind=2∧V.m=1))∧c=e.loc.toNat then (V.st.length:Int) else V.frm.getD c 0):=by
  rintro W rfl c
  unfold MV.wr
  by_cases h2:e.kind=2∧V.m≠1
  ·rw [if_pos h2,if_neg (fun q=>by omega),if_neg (fun q=>by omega)]
   exact ⟨rfl,rfl⟩
  ·rw [if_neg h2]
   by_cases hw:evWr e=true
   ·have hw':e.kind=2∨e.kind=4:=by unfold evWr at hw;simpa using hw
    rw [if_pos hw]
    dsimp only
    rw [getDset (by rw [f.mem];omega),getDset (by rw [f.frm];omega)]
    by_cases hc:c=e.loc.toNat
    ·rw [if_pos hc,if_pos hc,if_pos ⟨by omega,hc⟩,if_pos ⟨by omega,hc⟩];exact ⟨rfl,rfl⟩
    ·rw [if_neg hc,if_neg hc,if_neg (fun q=>hc q.2),if_neg (fun q=>hc q.2)];exact ⟨rfl,rfl⟩
   ·have hw':¬(e.kind=2∨e.kind=4):=by unfold evWr at hw;simpa using hw
    rw [if_neg hw,if_neg (fun q=>by omega),if_neg (fun q=>by omega)]
    exact ⟨rfl,rfl⟩
 refine ⟨by rw [eS],by rw [eS];exact hkk,by rw [eS];exact hev,fun h=>?_,fun h=>?_,fun t=>?_,fun c=>?_,fun c=>?_⟩
 ·rw [eS] at h
  dsimp only at h
  refine hfree ?_
  rcases h with h | h
  ·exact .inl (e1.1 h)
  ·exact .inr (e2.1 h)
 ·rw [eS] at h ⊢
  dsimp only at h ⊢
  obtain ⟨k1,k2,k3⟩:=e4 h
  rw [k3,if_pos rfl,k1,k2]
  unfold MV.val
  cases newE q.loc (V.b i)<;>exact ⟨rfl,rfl⟩
 ·rw [hN]
  show (V.thrM i q).b t=_
  rw [hB,eS]
  have hiff:isSt V.m ⟨i,i,e.kind,e.loc,e.r,e.w,if rdI q=true then (V.val i q).2 else -1⟩=true↔(e.kind=2∧V.m≠1):=by
   unfold isSt
   rw [Bool.and_eq_true,beq_iff_eq,bne_iff_ne]
  by_cases hc:t=i∧e.kind=2∧V.m≠1
  ·rw [if_pos hc,if_pos ⟨hc.1,hiff.2 hc.2⟩]
  ·rw [if_neg hc,if_neg (fun q=>hc ⟨q.1,hiff.1 q.2⟩)]
 ·rw [hN,eS]
  show (V.thrM i q).mem.getD c 0=_
  unfold MV.thrM
  rw [hee]
  exact (hW (V.wr i e) rfl c).1
 ·rw [hN,eS]
  show (V.thrM i q).frm.getD c 0=_
  unfold MV.thrM
  rw [hee]
  exact (hW (V.wr i e) rfl c).2
structure FluStep (V:MV) (i:Nat) (s:Stp) (t:Nat) (p:Ent→Bool) (e:Ent):Prop where
 t4:t<4
 s:s=⟨i,t,6,e.loc,0,e.val,e.id⟩
 f:(V.b t).find? p=some e
 pe:∀x,p x=(decide (V.m=2)||x.loc==e.loc)
 m:V.m=2∨V.m=3
 b:∀t',(V.nx i).b t'=if t'=t then (V.b t).eraseP p else V.b t'
 mem:∀c,(V.nx i).mem.getD c 0=if c=e.loc.toNat then e.val else V.mem.getD c 0
 frm:∀c,(V.nx i).frm.getD c 0=if c=e.loc.toNat then e.id else V.frm.getD c 0
structure Hist (V:MV):Prop where
 ids:∀t,(V.b t).Pairwise fun a b=>a.id<b.id
 ent:∀t,∀e∈V.b t,∃k:Nat,e.id=(k:Int)∧∃s,V.st[k]? = some s∧s.kind=2∧s.t=(t:Int)∧s.loc=e.loc∧s.w=e.val∧∀(j:Nat) (u:Stp),V.st[j]? = some u→u.kind=6→u.frm≠e.id
 sto:∀(k:Nat) (s:Stp),V.st[k]? = some s→isSt V.m s=true→(∃t:Nat,s.t=(t:Int)∧∃e∈V.b t,e.id=(k:Int))∨∃(j:Nat) (u:Stp),k<j∧V.st[j]? = some u∧u.kind=6∧u.frm=(k:Int)
 flu:∀(j:Nat) (u:Stp),V.st[j]? = some u→u.kind=6→0≤u.t∧∀t:Nat,u.t=(t:Int)→∀e∈V.b t,(V.m=3→e.loc=u.loc)→u.frm<e.id
 b4:∀t,4≤t→V.b t=[]
 own:V.m=1→∀t,V.b t=[]
 len:∀(k:Nat) (s:Stp),V.st[k]? = some s→s.kind=6→∃f:Nat,s.frm=(f:Int)∧f<k
theorem Hist.new (P:PProg) (m:Int):Hist (MV.new P m):=by
 have hs:∀(k:Nat) (s:Stp),(MV.new P m).st[k]? = some s→False:=fun k s h=>by
  have:(MV.new P m).st=[]:=rfl
  rw [this] at h;simp at h
 refine ⟨fun t=>by rw [new_b];exact List.Pairwise.nil,fun t e he=>by rw [new_b] at he;simp at he,fun k s h=>(hs k s h).elim,fun k s h=>(hs k s h).elim,fun t _=>new_b P m t,fun _ t=>new_b P m t,fun k s h=>(hs k s h).elim⟩
end Jq

namespace Jq
open Go
def pr (e:Ent):Int × Int:=(e.loc,e.val)
def BQ (V:MV) (t:Nat):List (Int × Int):=(V.b t).map pr
def MQ (V:MV) (c:Nat):Int:=V.mem.getD c 0
def nwQ (c:Int) (l:List (Int × Int)):Option (Int × Int):=l.reverse.find? fun p=>p.1==c
def qv (V:MV) (t:Nat) (q:Ins):Int:=match nwQ q.loc (BQ V t) with
 | some p=>p.2
 | none=>MQ V q.loc.toNat
theorem nwQ_cons (c:Int) (a:Int × Int) (l:List (Int × Int)):nwQ c (a :: l)=match nwQ c l with | some x=>some x | none=>if a.1=c then some a else none:=by
 unfold nwQ
 rw [List.reverse_cons,List.find?_append]
 cases hl:l.reverse.find? fun p=>p.1==c with
 | some x=>rfl
 | none =>
  dsimp only
  rw [List.find?_cons,List.find?_nil]
  by_cases h:a.1=c
  ·rw [if_pos h,h,beq_self_eq_true];rfl
  ·rw [if_neg h,beq_false_of_ne h];rfl
theorem nwQ_map (c:Int) (l:List Ent):nwQ c (l.map pr)=(newE c l).map pr:=by
 induction l with
 | nil=>rfl
 | cons a l ih =>
  rw [List.map_cons,nwQ_cons,ih]
  have:newE c (a :: l)=match newE c l with | some x=>some x | none=>if a.loc=c then some a else none:=by
   unfold newE
   rw [List.reverse_cons,List.find?_append]
   cases hl:l.reverse.find? fun p=>p.loc==c with
   | some x=>rfl
   | none =>
    dsimp only
    rw [List.find?_cons,List.find?_nil]
    by_cases h:a.loc=c
    ·rw [if_pos h,h,beq_self_eq_true];rfl
    ·rw [if_neg h,beq_false_of_ne h];rfl
  rw [this]
  cases newE c l with
  | some x=>rfl
  | none =>
   dsimp only [Option.map_none]
   by_cases h:a.loc=c
   ·rw [if_pos h,if_pos (show (pr a).1=c from h)];rfl
   ·rw [if_neg h,if_neg (show ¬(pr a).1=c from h)];rfl
theorem qv_val (V:MV) (t:Nat) (q:Ins):qv V t q=(V.val t q).1:=by
 unfold qv BQ MV.val
 rw [nwQ_map]
 cases newE q.loc (V.b t)<;>rfl
structure TE (V:MV) (i:Nat) (q:Ins) (e:Evt):Prop where
 n:nextI (V.P.code i) (V.l i)=some q
 free:q.kind=3∨q.kind=4→BQ V i=[]
 ev:e=evOf q (V.l i) (qv V i q)
 kind:(V.stp i).kind=e.kind
 t:(V.stp i).t=(i:Int)
 loc:(V.stp i).loc=e.loc
 r:(V.stp i).r=e.r
 w:(V.stp i).w=e.w
 pick:(V.stp i).pick=(i:Int)
 k4:1≤q.kind∧q.kind≤4
 l4:0≤e.loc∧e.loc<4
 l:∀t,(V.nx i).l t=if t=i then afterL (V.P.code i) (V.l i) (qv V i q) else V.l t
 b:∀t,BQ (V.nx i) t=if t=i∧e.kind=2∧V.m≠1 then BQ V i++[(e.loc,e.w)] else BQ V t
 mem:∀c,MQ (V.nx i) c=if wrS (V.stp i) V.m=true∧c=(V.stp i).loc.toNat then (V.stp i).w else MQ V c
theorem may_thr_iff {V:MV} {i:Nat} (h4:i<4):V.may i=true↔∃q,nextI (V.P.code i) (V.l i)=some q∧(q.kind=3∨q.kind=4→BQ V i=[]):=by
 unfold MV.may MV.mayT MV.nxt BQ
 rw [if_pos h4]
 cases hn:nextI (V.P.code i) (V.l i) with
 | none=>simp
 | some q =>
  dsimp only
  constructor
  ·intro h
   refine ⟨q,rfl,fun hk=>?_⟩
   have:(q.kind==3||q.kind==4)=true:=by rw [Bool.or_eq_true,beq_iff_eq,beq_iff_eq];exact hk
   rw [this] at h
   have:V.b i=[]:=by simpa using h
   rw [this];rfl
  ·rintro ⟨q',hq,hb⟩
   cases hq
   by_cases hk:q.kind=3∨q.kind=4
   ·have:=hb hk
    rw [List.map_eq_nil_iff] at this
    rw [this];simp
   ·have:(q.kind==3||q.kind==4)=false:=by rw [←Bool.not_eq_true,Bool.or_eq_true,beq_iff_eq,beq_iff_eq];exact hk
    rw [this];rfl
theorem MV.Inv.te {V:MV} (v:V.Inv) {i:Nat} (h4:i<4) (hi:V.may i=true):∃q,TE V i q (evOf q (V.l i) (qv V i q)):=by
 have hq:=MV.may_thr h4 hi
 have T:=v.thr_step h4 hi
 obtain ⟨q',hq',hfree⟩:=(may_thr_iff h4).1 hi
 have hqn:nextI (V.P.code i) (V.l i)=some (V.thrI i):=hq
 rw [hqn] at hq'
 cases hq'
 obtain ⟨q1,q2,q3,q4,q5⟩:=v.nxt hq
 have hS:V.stp i={ V.thrS i (V.thrI i) with pick:=i }:=by unfold MV.stp;rw [if_pos h4]
 have hv:=qv_val V i (V.thrI i)
 have hk:(V.stp i).kind=(evOf (V.thrI i) (V.l i) (qv V i (V.thrI i))).kind:=by rw [hS,hv];rfl
 have hl:(V.stp i).loc=(evOf (V.thrI i) (V.l i) (qv V i (V.thrI i))).loc:=by rw [hS,hv];rfl
 have hw:(V.stp i).w=(evOf (V.thrI i) (V.l i) (qv V i (V.thrI i))).w:=by rw [hS,hv];rfl
 refine ⟨V.thrI i,hqn,hfree,rfl,hk,T.t,hl,by rw [hS,hv];rfl,hw,rfl,q2,evOf_loc q1,fun t=>?_,fun t=>?_,fun c=>?_⟩
 ·have e2:(V.nx i).l t=(V.thrM i (V.thrI i)).l t:=by unfold MV.nx;rw [if_pos h4];rfl
  rw [e2,v.thrL h4,hv]
 ·unfold BQ
  rw [T.b]
  have hiff:isSt V.m (V.stp i)=true↔((evOf (V.thrI i) (V.l i) (qv V i (V.thrI i))).kind=2∧V.m≠1):=by
   unfold isSt
   rw [Bool.and_eq_true,beq_iff_eq,bne_iff_ne,hk]
  by_cases hc:t=i∧(evOf (V.thrI i) (V.l i) (qv V i (V.thrI i))).kind=2∧V.m≠1
  ·rw [if_pos ⟨hc.1,hiff.2 hc.2⟩,if_pos hc,List.map_append,←hl,←hw];rfl
  ·rw [if_neg (fun q=>hc ⟨q.1,hiff.1 q.2⟩),if_neg hc]
 ·unfold MQ
  rw [T.mem]
  have hkk:=T.kind
  have hwr:wrS (V.stp i) V.m=true↔((V.stp i).kind=4∨((V.stp i).kind=2∧V.m=1)):=by
   unfold wrS
   simp
   omega
  by_cases hc:((V.stp i).kind=4∨((V.stp i).kind=2∧V.m=1))∧c=(V.stp i).loc.toNat
  ·rw [if_pos hc,if_pos ⟨hwr.2 hc.1,hc.2⟩]
  ·rw [if_neg hc,if_neg (fun q=>hc ⟨hwr.1 q.1,q.2⟩)]
def ftQ (m:Int) (f:Nat):Nat:=if m=2 then f - 4 else (f - 8) / 4
def fpQ (m:Int) (f:Nat) (x:Int × Int):Bool:=decide (m=2)||x.1==(((f - 8) % 4:Nat):Int)
def fOk (m:Int) (f:Nat):Prop:=(m=2∧f<8)∨(m=3∧8≤f∧f<24)
theorem fp_old {m:Int} {f:Nat} (h:fOk m f) (e:Ent):oldP (bmod m) (if f<8 then 0 else (((f - 8) % 4:Nat):Int)) e=fpQ m f (pr e):=by
 rcases h with ⟨h,h8⟩ | ⟨h,h8,_⟩
 ·subst h;rfl
 ·subst h;rw [if_neg (by omega)];rfl
theorem may_flu_iff {V:MV} {f:Nat} (h4:¬f<4):V.may f=true↔fOk V.m f∧((BQ V (ftQ V.m f)).find? (fpQ V.m f)).isSome=true:=by
 unfold MV.may MV.mayF MV.mayL fOk ftQ BQ
 rw [if_neg h4,List.find?_map,Option.isSome_map]
 by_cases h8:f<8
 ·rw [if_pos h8,Bool.and_eq_true,beq_iff_eq]
  constructor
  ·rintro ⟨h2,hb⟩
   refine ⟨.inl ⟨h2,h8⟩,?_⟩
   rw [if_pos h2,h2]
   cases hbb:V.b (f - 4) with
   | nil=>rw [hbb] at hb;simp at hb
   | cons e l=>rfl
  ·rintro ⟨h2 | h3,hb⟩
   ·rw [if_pos h2.1,h2.1] at hb
    refine ⟨h2.1,?_⟩
    cases hbb:V.b (f - 4) with
    | nil=>rw [hbb] at hb;simp at hb
    | cons e l=>rfl
   ·omega
 ·rw [if_neg h8]
  by_cases h24:f<24
  ·rw [if_pos h24,Bool.and_eq_true,beq_iff_eq]
   have hfun:V.m=3→(fpQ V.m f ∘ pr)=oldP 3 (((f - 8) % 4:Nat):Int):=fun h=>by
    funext e
    rw [h];rfl
   constructor
   ·rintro ⟨h3,hb⟩
    refine ⟨.inr ⟨h3,by omega,h24⟩,?_⟩
    rw [if_neg (by omega),hfun h3];exact hb
   ·rintro ⟨h2 | h3,hb⟩
    ·omega
    ·rw [if_neg (by omega),hfun h3.1] at hb
     exact ⟨h3.1,hb⟩
  ·rw [if_neg h24]
   constructor
   ·intro h;cases h
   ·rintro ⟨h | h,_⟩<;>omega
structure FE (V:MV) (f:Nat) (c v:Int):Prop where
 ok:fOk V.m f
 t4:ftQ V.m f<4
 find:(BQ V (ftQ V.m f)).find? (fpQ V.m f)=some (c,v)
 c4:0≤c∧c<4
 kind:(V.stp f).kind=6
 t:(V.stp f).t=(ftQ V.m f:Int)
 loc:(V.stp f).loc=c
 r:(V.stp f).r=0
 w:(V.stp f).w=v
 pick:(V.stp f).pick=(f:Int)
 l:∀t,(V.nx f).l t=V.l t
 b:∀t,BQ (V.nx f) t=if t=ftQ V.m f then (BQ V (ftQ V.m f)).eraseP (fpQ V.m f) else BQ V t
 mem:∀x,MQ (V.nx f) x=if wrS (V.stp f) V.m=true∧x=(V.stp f).loc.toNat then (V.stp f).w else MQ V x
theorem MV.Inv.fe {V:MV} (v:V.Inv) {f:Nat} (h4:¬f<4) (hi:V.may f=true):∃c w,FE V f c w:=by
 have h24:=MV.may_lt hi
 have hm:=v.fit.m
 obtain ⟨hok,hs⟩:=(may_flu_iff h4).1 hi
 have ht4:ftQ V.m f<4:=by
  unfold ftQ;rcases hok with h | h
  ·rw [if_pos h.1];omega
  ·rw [if_neg (by omega)];omega
 have hold:(fpQ V.m f ∘ pr)=oldP (bmod V.m) (if f<8 then 0 else (((f - 8) % 4:Nat):Int)):=by
  funext e;exact (fp_old hok e).symm
 have hstp:V.stp f={ V.fluS (ftQ V.m f) (if f<8 then 0 else (((f - 8) % 4:Nat):Int)) with pick:=f }:=by
  unfold MV.stp ftQ
  rw [if_neg h4]
  rcases hok with h | h
  ·rw [if_pos h.2,if_pos h.2,if_pos h.1]
  ·rw [if_neg (by omega),if_neg (by omega),if_neg (by omega)]
 have hnx:V.nx f={ V.fluM (ftQ V.m f) (if f<8 then 0 else (((f - 8) % 4:Nat):Int)) with st:=V.st++[V.stp f] }:=by
  unfold MV.nx ftQ
  rw [if_neg h4]
  rcases hok with h | h
  ·rw [if_pos h.2,if_pos h.2,if_pos h.1]
  ·rw [if_neg (by omega),if_neg (by omega),if_neg (by omega)]
 generalize (if f<8 then (0:Int) else (((f - 8) % 4:Nat):Int))=lc at hold hstp hnx
 unfold BQ at hs
 rw [List.find?_map,Option.isSome_map,hold] at hs
 obtain ⟨e,he⟩:=Option.isSome_iff_exists.1 hs
 have hee:V.fluE (ftQ V.m f) lc=e:=by unfold MV.fluE;rw [he];rfl
 have hel:=v.mem_b (List.mem_of_find?_eq_some he)
 have hkind:(V.stp f).kind=6:=by rw [hstp];rfl
 have hloc:(V.stp f).loc=e.loc:=by rw [hstp];show (V.fluE _ _).loc=_;rw [hee]
 have hw:(V.stp f).w=e.val:=by rw [hstp];show (V.fluE _ _).val=_;rw [hee]
 refine ⟨e.loc,e.val,hok,ht4,by unfold BQ;rw [List.find?_map,hold,he];rfl,hel,hkind,by rw [hstp];rfl,hloc,by rw [hstp];rfl,hw,rfl,fun t=>by rw [hnx];rfl,fun t=>?_,fun c=>?_⟩
 ·unfold BQ
  rw [hnx]
  show ((V.bf.set _ _).getD t []).map pr=_
  rw [getDset (by rw [v.fit.bf];exact ht4)]
  by_cases h:t=ftQ V.m f
  ·rw [if_pos h,if_pos h,List.eraseP_map,hold]
  ·rw [if_neg h,if_neg h];rfl
 ·unfold MQ
  rw [hloc,hw,hnx]
  show (V.mem.set _ _).getD c 0=_
  rw [hee,getDset (by rw [v.fit.mem];omega)]
  have hwr:wrS (V.stp f) V.m=true:=by unfold wrS;rw [hkind];rfl
  by_cases h:c=e.loc.toNat
  ·rw [if_pos h,if_pos ⟨hwr,h⟩]
  ·rw [if_neg h,if_neg (fun q=>h q.2)]
structure AlikeQ (X Y:MV):Prop where
 l:∀t,X.l t=Y.l t
 b:∀t,BQ X t=BQ Y t
 mem:∀c,MQ X c=MQ Y c
theorem find_erase {fa fb:Int × Int→Bool} (h:∀x,fa x=true→fb x=false):∀l:List (Int × Int),(l.eraseP fa).find? fb=l.find? fb
 | []=>rfl
 | a :: l=>by
  by_cases ha:fa a=true
  ·rw [List.eraseP_cons_of_pos ha,List.find?_cons,h a ha]
  ·rw [List.eraseP_cons_of_neg ha,List.find?_cons,List.find?_cons,find_erase h l]
theorem erase_erase {fa fb:Int × Int→Bool} (h:∀x,fa x=true→fb x=false):∀l:List (Int × Int),(l.eraseP fa).eraseP fb=(l.eraseP fb).eraseP fa
 | []=>rfl
 | a :: l=>by
  by_cases ha:fa a=true
  ·have hb:¬fb a=true:=by rw [h a ha];simp
   rw [List.eraseP_cons_of_pos ha,List.eraseP_cons_of_neg hb,List.eraseP_cons_of_pos ha]
  ·by_cases hb:fb a=true
   ·rw [List.eraseP_cons_of_neg ha,List.eraseP_cons_of_pos hb,List.eraseP_cons_of_pos hb]
   ·rw [List.eraseP_cons_of_neg ha,List.eraseP_cons_of_neg hb,List.eraseP_cons_of_neg hb,List.eraseP_cons_of_neg ha,erase_erase h l]
theorem nwQ_other {p:Int × Int→Bool} {c0:Int}:∀(l:List (Int × Int)) (e:Int × Int),l.find? p=some e→e.1≠c0→nwQ c0 (l.eraseP p)=nwQ c0 l
 | [],e,h,_=>by cases h
 | a :: l,e,h,hne=>by
  rw [List.find?_cons] at h
  cases hp:p a with
  | true =>
   rw [hp] at h
   cases h
   rw [List.eraseP_cons_of_pos hp,nwQ_cons]
   cases nwQ c0 l with
   | some x=>rfl
   | none=>dsimp only;rw [if_neg hne]
  | false =>
   rw [hp] at h
   rw [List.eraseP_cons_of_neg (by rw [hp];simp),nwQ_cons,nwQ_cons,nwQ_other l e h hne]
theorem nwQ_same {p:Int × Int→Bool} {c:Int} (hpc:∀x:Int × Int,x.1=c→p x=true):∀(l:List (Int × Int)) (e:Int × Int) (d:Int),l.find? p=some e→e.1=c →
  (match nwQ c (l.eraseP p) with | some x=>x.2 | none=>e.2)=match nwQ c l with | some x=>x.2 | none=>d
 | [],e,_,h,_=>by cases h
 | a :: l,e,d,h,hc=>by
  rw [List.find?_cons] at h
  cases hp:p a with
  | true =>
   rw [hp] at h
   cases h
   rw [List.eraseP_cons_of_pos hp,nwQ_cons]
   cases hq:nwQ c l with
   | some x=>rfl
   | none=>rw [if_pos hc]
  | false =>
   rw [hp] at h
   have hac:¬a.1=c:=fun q=>by rw [hpc a q] at hp;cases hp
   have ih:=nwQ_same hpc l e d h hc
   rw [List.eraseP_cons_of_neg (by rw [hp];simp),nwQ_cons,nwQ_cons]
   cases h1:nwQ c (l.eraseP p) with
   | some x =>
    rw [h1] at ih
    cases h2:nwQ c l with
    | some z=>rw [h2] at ih;exact ih
    | none=>rw [h2] at ih;dsimp only at ih ⊢;rw [if_neg hac];exact ih
   | none =>
    rw [h1] at ih
    dsimp only
    rw [if_neg hac]
    cases h2:nwQ c l with
    | some z=>rw [h2] at ih;exact ih
    | none=>rw [h2] at ih;exact ih
theorem rd_kind {q:Ins} {l:Lcl} {v:Int} (hk:1≤q.kind∧q.kind≤4) (h:rdI q=true):((evOf q l v).kind=1∨(evOf q l v).kind=4∨(evOf q l v).kind=5)∧(evOf q l v).loc=q.loc:=by
 obtain ⟨e1,e2,e3,e4⟩:=evOf_cases q l v hk
 have h':q.kind=2∨q.kind=4:=by unfold rdI at h;simpa using h
 have hkk:(evOf q l v).kind=1∨(evOf q l v).kind=4∨(evOf q l v).kind=5:=by
  rcases h' with h' | h'
  ·exact .inl (e3.2 h')
  ·exact .inr (e2.2 h')
 exact ⟨hkk,(e4 hkk).2.1⟩
theorem thr_after {V V1:MV} {i:Nat} {q:Ins} {e:Evt} (T:TE V i q e) (hP:V1.P=V.P) (v1:V1.Inv) (h4:i<4) (hl:V1.l i=V.l i) (hfree:q.kind=3∨q.kind=4→BQ V1 i=[]) (hv:rdI q=true→qv V1 i q=qv V i q) :
  V1.may i=true∧TE V1 i q e∧afterL (V1.P.code i) (V1.l i) (qv V1 i q)=afterL (V.P.code i) (V.l i) (qv V i q):=by
 have hn1:nextI (V1.P.code i) (V1.l i)=some q:=by rw [hP,hl];exact T.n
 have hmay:V1.may i=true:=(may_thr_iff h4).2 ⟨q,hn1,hfree⟩
 obtain ⟨q',T1⟩:=v1.te h4 hmay
 have hq:q'=q:=by
  have:=T1.n
  rw [hn1] at this
  exact (Option.some.inj this).symm
 subst hq
 have he:evOf q' (V1.l i) (qv V1 i q')=e:=by
  rw [T.ev,hl]
  cases hr:rdI q' with
  | true=>rw [hv hr]
  | false=>exact evOf_novalue hr _ _ _
 have ha:afterL (V1.P.code i) (V1.l i) (qv V1 i q')=afterL (V.P.code i) (V.l i) (qv V i q'):=by
  rw [hP,hl]
  cases hr:rdI q' with
  | true=>rw [hv hr]
  | false=>exact afterL_novalue T.n hr _ _
 rw [he] at T1
 exact ⟨hmay,T1,ha⟩
theorem flu_after {V V1:MV} {f:Nat} {c v:Int} (F:FE V f c v) (hm:V1.m=V.m) (v1:V1.Inv) (h4:¬f<4) (hb:(BQ V1 (ftQ V.m f)).find? (fpQ V.m f)=some (c,v)):V1.may f=true∧FE V1 f c v:=by
 have hmay:V1.may f=true:=(may_flu_iff h4).2 ⟨by rw [hm];exact F.ok,by rw [hm,hb];rfl⟩
 obtain ⟨c',w',F1⟩:=v1.fe h4 hmay
 have:=F1.find
 rw [hm,hb] at this
 have h2:=Option.some.inj this
 have h3:=Prod.mk.inj h2
 rw [←h3.1,←h3.2] at F1
 exact ⟨hmay,F1⟩
theorem wrS_ne {a b:Stp} {m:Int} (hp:a.pick≠b.pick) (ht:a.t≠b.t) (hc:clash a b m=false) (ha:wrS a m=true) (hb:tchS b m=true):a.loc≠b.loc:=fun hl=>by
 unfold clash at hc
 rw [if_neg (by rw [beq_iff_eq];exact hp),if_neg (by rw [beq_iff_eq];exact ht)] at hc
 have:tchS a m=true:=by unfold tchS;rw [ha];rfl
 rw [this,hb,ha,hl] at hc
 simp at hc
theorem tch_rd {s:Stp} {m:Int} (h:s.kind=1∨s.kind=4∨s.kind=5):tchS s m=true:=by
 unfold tchS rdS
 rcases h with h | h | h<;>rw [h]<;>simp
theorem tch_wr {s:Stp} {m:Int} (h:wrS s m=true):tchS s m=true:=by unfold tchS;rw [h];rfl
set_option maxHeartbeats 1000000 in
theorem swap {V:MV} (v:V.Inv) {a b:Nat} (ha:V.may a=true) (hb:V.may b=true) (hab:a≠b) (hc:clash (V.stp a) (V.stp b) V.m=false) :
  (V.nx a).may b=true∧(V.nx b).may a=true∧((V.nx a).stp b).r=(V.stp b).r∧((V.nx a).stp b).w=(V.stp b).w∧((V.nx b).stp a).r=(V.stp a).r∧((V.nx b).stp a).w=(V.stp a).w∧AlikeQ ((V.nx a).nx b) ((V.nx b).nx a):=by
 have va:=v.nx ha
 have vb:=v.nx hb
 have hPa:=(V.nx_P a).1
 have hPb:=(V.nx_P b).1
 have hma:(V.nx a).m=V.m:=(V.nx_P a).2
 have hmb:(V.nx b).m=V.m:=(V.nx_P b).2
 have hpk:(V.stp a).pick≠(V.stp b).pick:=by
  show (a:Int)≠(b:Int);omega
 have hc':clash (V.stp b) (V.stp a) V.m=false:=by rw [clash_comm];exact hc
 have tt:∀a b:Nat,a<4→b<4→V.may a=true→V.may b=true→a≠b→clash (V.stp a) (V.stp b) V.m=false→∀q e,TE V b q e→(V.nx a).may b=true∧TE (V.nx a) b q e∧afterL ((V.nx a).P.code b) ((V.nx a).l b) (qv (V.nx a) b q)=afterL (V.P.code b) (V.l b) (qv V b q):=by
  intro a b ha4 hb4 ha hb hab hc q e T
  obtain ⟨qa,Ta⟩:=v.te ha4 ha
  refine thr_after T (V.nx_P a).1 (v.nx ha) hb4 (by rw [Ta.l,if_neg (fun q=>hab q.symm)]) (fun hk=>by rw [Ta.b,if_neg (fun q=>hab q.1.symm)];exact T.free hk) fun hr=>?_
  unfold qv
  rw [show BQ (V.nx a) b=BQ V b by rw [Ta.b,if_neg (fun q=>hab q.1.symm)]]
  cases nwQ q.loc (BQ V b) with
  | some x=>rfl
  | none =>
   dsimp only
   obtain ⟨k1,k2⟩:=rd_kind (l:=V.l b) (v:=qv V b q) T.k4 hr
   rw [←T.ev] at k1 k2
   rw [Ta.mem,if_neg]
   rintro ⟨h1,h2⟩
   refine wrS_ne (by show (a:Int)≠(b:Int);omega) (by rw [Ta.t,T.t];omega) hc h1 (tch_rd (by rw [T.kind];exact k1)) ?_
   rw [T.loc,k2]
   have e1:=Ta.l4;have e2:=T.l4
   rw [Ta.loc] at h2 ⊢
   omega
 have tf:∀a b:Nat,¬a<4→b<4→V.may a=true→V.may b=true→clash (V.stp a) (V.stp b) V.m=false→∀c w,FE V a c w→∀q e,TE V b q e→(V.nx a).may b=true∧TE (V.nx a) b q e∧afterL ((V.nx a).P.code b) ((V.nx a).l b) (qv (V.nx a) b q)=afterL (V.P.code b) (V.l b) (qv V b q):=by
  intro a b ha4 hb4 ha hb hc c w F q e T
  have hne:b=ftQ V.m a→¬(q.kind=3∨q.kind=4):=fun h hk=>by
   have h1:=T.free hk
   have h2:=F.find
   rw [←h,h1] at h2
   cases h2
  refine thr_after T (V.nx_P a).1 (v.nx ha) hb4 (F.l b) (fun hk=>?_) fun hr=>?_
  ·rw [F.b,if_neg (fun h=>hne h hk)];exact T.free hk
  ·obtain ⟨k1,k2⟩:=rd_kind (l:=V.l b) (v:=qv V b q) T.k4 hr
   rw [←T.ev] at k1 k2
   have hwr:wrS (V.stp a) V.m=true:=by unfold wrS;rw [F.kind];rfl
   by_cases hbt:b=ftQ V.m a
   ·-- its own flush
    unfold qv
    rw [F.b,if_pos hbt]
    by_cases hcq:c=q.loc
    ·have hpc:∀x:Int × Int,x.1=q.loc→fpQ V.m a x=true:=fun x hx=>by
      have h1:=List.find?_some F.find
      unfold fpQ at h1 ⊢
      rw [hx,←hcq];exact h1
     have:=nwQ_same hpc (BQ V (ftQ V.m a)) (c,w) (MQ V q.loc.toNat) F.find hcq
     rw [hbt] at *
     rw [←this]
     cases nwQ q.loc ((BQ V (ftQ V.m a)).eraseP (fpQ V.m a)) with
     | some x=>rfl
     | none =>
      dsimp only
      rw [F.mem,if_pos ⟨hwr,by rw [F.loc,hcq]⟩,F.w]
    ·rw [nwQ_other _ _ F.find hcq,←hbt]
     cases nwQ q.loc (BQ V b) with
     | some x=>rfl
     | none =>
      dsimp only
      rw [F.mem,if_neg]
      rintro ⟨_,h2⟩
      rw [F.loc] at h2
      have e1:=F.c4;have e2:=T.l4
      rw [k2] at e2
      omega
   ·unfold qv
    rw [F.b,if_neg hbt]
    cases nwQ q.loc (BQ V b) with
    | some x=>rfl
    | none =>
     dsimp only
     rw [F.mem,if_neg]
     rintro ⟨_,h2⟩
     have ab:(V.stp a).pick≠(V.stp b).pick:=by rw [F.pick,T.pick];omega
     refine wrS_ne ab (by rw [F.t,T.t];omega) hc hwr (tch_rd (by rw [T.kind];exact k1)) ?_
     rw [T.loc,k2]
     have e1:=F.c4;have e2:=T.l4
     rw [F.loc] at h2 ⊢
     omega
 have ft:∀a b:Nat,a<4→¬b<4→V.may a=true→V.may b=true→∀c w,FE V b c w→(V.nx a).may b=true∧FE (V.nx a) b c w:=by
  intro a b ha4 hb4 ha hb c w F
  obtain ⟨qa,Ta⟩:=v.te ha4 ha
  refine flu_after F (V.nx_P a).2 (v.nx ha) hb4 ?_
  rw [Ta.b]
  split
  ·rename_i h
   rw [List.find?_append,←h.1,F.find];rfl
  ·exact F.find
 have ff:∀a b:Nat,¬a<4→¬b<4→V.may a=true→V.may b=true→a≠b→∀c w c' w',FE V a c w→FE V b c' w'→(ftQ V.m a=ftQ V.m b→∀x,fpQ V.m a x=true→fpQ V.m b x=false)∧(V.nx a).may b=true∧FE (V.nx a) b c' w':=by
  intro a b ha4 hb4 ha hb hab c w c' w' Fa Fb
  have hdis:ftQ V.m a=ftQ V.m b→∀x,fpQ V.m a x=true→fpQ V.m b x=false:=fun ht x hx=>by
   have oa:=Fa.ok;have ob:=Fb.ok
   unfold fOk at oa ob
   unfold ftQ at ht
   unfold fpQ at hx ⊢
   by_cases h2:V.m=2
   ·rw [if_pos h2,if_pos h2] at ht;omega
   ·rw [if_neg h2,if_neg h2] at ht
    rw [decide_eq_false h2,Bool.false_or,beq_iff_eq] at hx
    rw [decide_eq_false h2,Bool.false_or,hx]
    exact beq_false_of_ne (by omega)
  refine ⟨hdis,flu_after Fb (V.nx_P a).2 (v.nx ha) hb4 ?_⟩
  rw [Fa.b]
  split
  ·rename_i h
   rw [find_erase (hdis h.symm),←h];exact Fb.find
  ·exact Fb.find
 have memX:∀(s t:Stp),(wrS s V.m=true→wrS t V.m=true→s.loc.toNat≠t.loc.toNat)→∀(c:Nat) (d:Int),(if wrS t V.m=true∧c=t.loc.toNat then t.w else if wrS s V.m=true∧c=s.loc.toNat then s.w else d)=if wrS s V.m=true∧c=s.loc.toNat then s.w else if wrS t V.m=true∧c=t.loc.toNat then t.w else d:=by
  intro s t h c d
  by_cases h1:wrS t V.m=true∧c=t.loc.toNat
  ·rw [if_pos h1,if_neg (fun q=>h q.1 h1.1 (by omega)),if_pos h1]
  ·rw [if_neg h1,if_neg h1]
 by_cases ha4:a<4
 ·obtain ⟨qa,Ta⟩:=v.te ha4 ha
  by_cases hb4:b<4
  ·obtain ⟨qb,Tb⟩:=v.te hb4 hb
   obtain ⟨m1,T1,f1⟩:=tt a b ha4 hb4 ha hb hab hc _ _ Tb
   obtain ⟨m2,T2,f2⟩:=tt b a hb4 ha4 hb ha (fun q=>hab q.symm) hc' _ _ Ta
   refine ⟨m1,m2,by rw [T1.r,Tb.r],by rw [T1.w,Tb.w],by rw [T2.r,Ta.r],by rw [T2.w,Ta.w],⟨fun t=>?_,fun t=>?_,fun c=>?_⟩⟩
   ·rw [T1.l,T2.l,f1,f2,Ta.l,Tb.l]
    by_cases h1:t=b
    ·rw [if_pos h1,if_neg (by omega),if_pos h1]
    ·rw [if_neg h1,if_neg h1]
   ·rw [T1.b,T2.b,Ta.b,Tb.b,Ta.b,Tb.b,hma,hmb]
    generalize evOf qa (V.l a) (qv V a qa)=ea
    generalize evOf qb (V.l b) (qv V b qb)=eb
    by_cases h1:t=b∧eb.kind=2∧V.m≠1
    ·rw [if_pos h1,if_neg (fun q=>hab q.1.symm),if_neg (fun q=>by omega),if_pos h1]
    ·rw [if_neg h1]
     by_cases h2:t=a∧ea.kind=2∧V.m≠1
     ·rw [if_pos h2,if_pos h2,if_neg (fun q=>hab q.1)]
     ·rw [if_neg h2,if_neg h2,if_neg h1]
   ·have e1:(V.nx a).stp b=(V.nx a).stp b:=rfl
    have s1:wrS ((V.nx a).stp b) (V.nx a).m=wrS (V.stp b) V.m:=by unfold wrS;rw [T1.kind,Tb.kind,hma]
    have s2:wrS ((V.nx b).stp a) (V.nx b).m=wrS (V.stp a) V.m:=by unfold wrS;rw [T2.kind,Ta.kind,hmb]
    rw [T1.mem,T2.mem,s1,s2,T1.loc,T2.loc,T1.w,T2.w,←Tb.loc,←Ta.loc,←Tb.w,←Ta.w,Ta.mem,Tb.mem]
    refine memX (V.stp a) (V.stp b) (fun w1 w2 q=>?_) c (MQ V c)
    have e1:=Ta.l4;have e2:=Tb.l4
    rw [Ta.loc,Tb.loc] at q
    exact wrS_ne hpk (by rw [Ta.t,Tb.t];omega) hc w1 (tch_wr w2) (by rw [Ta.loc,Tb.loc];omega)
  ·obtain ⟨cb,wb,Fb⟩:=v.fe hb4 hb
   obtain ⟨m1,F1⟩:=ft a b ha4 hb4 ha hb _ _ Fb
   obtain ⟨m2,T2,f2⟩:=tf b a hb4 ha4 hb ha hc' _ _ Fb _ _ Ta
   refine ⟨m1,m2,by rw [F1.r,Fb.r],by rw [F1.w,Fb.w],by rw [T2.r,Ta.r],by rw [T2.w,Ta.w],⟨fun t=>?_,fun t=>?_,fun c=>?_⟩⟩
   ·rw [F1.l,T2.l,f2,Ta.l,Fb.l]
   ·rw [F1.b,T2.b,Ta.b,Fb.b,Ta.b,Fb.b,hma,hmb]
    generalize evOf qa (V.l a) (qv V a qa)=ea
    by_cases h1:ftQ V.m b=a∧ea.kind=2∧V.m≠1
    ·rw [if_pos h1]
     by_cases h2:t=ftQ V.m b
     ·rw [if_pos h2,if_pos ⟨by omega,h1.2⟩,if_pos h1.1.symm]
      rw [←h1.1]
      have hpe:=List.find?_some Fb.find
      rw [List.eraseP_append_left hpe _ (List.mem_of_find?_eq_some Fb.find)]
     ·rw [if_neg h2,if_neg (fun q=>h2 (by omega)),if_neg (fun q=>h2 (by omega)),if_neg h2]
    ·rw [if_neg h1]
     by_cases h2:t=a∧ea.kind=2∧V.m≠1
     ·rw [if_pos h2,if_pos h2,if_neg (fun q=>h1 ⟨by omega,h2.2⟩),if_neg (fun q=>h1 ⟨by omega,h2.2⟩)]
     ·rw [if_neg h2,if_neg h2]
   ·have s1:wrS ((V.nx a).stp b) (V.nx a).m=wrS (V.stp b) V.m:=by unfold wrS;rw [F1.kind,Fb.kind,hma]
    have s2:wrS ((V.nx b).stp a) (V.nx b).m=wrS (V.stp a) V.m:=by unfold wrS;rw [T2.kind,Ta.kind,hmb]
    rw [F1.mem,T2.mem,s1,s2,F1.loc,T2.loc,F1.w,T2.w,←Fb.loc,←Ta.loc,←Fb.w,←Ta.w,Ta.mem,Fb.mem]
    refine memX (V.stp a) (V.stp b) (fun w1 w2 q=>?_) c (MQ V c)
    have e1:=Ta.l4;have e2:=Fb.c4
    have hk2:=evOf_cases qa (V.l a) (qv V a qa) Ta.k4
    by_cases hta:a=ftQ V.m b
    ·-- a thread's own flush and its own write to memory: it has nothing waiting then
     have hok:=Fb.ok
     unfold fOk at hok
     have hm1:V.m≠1:=by omega
     have k4:(V.stp a).kind=4:=by
      have k1:=Ta.kind
      have k2:=evOf_kinds qa (V.l a) (qv V a qa)
      unfold wrS at w1
      rw [Bool.or_eq_true,Bool.or_eq_true,Bool.and_eq_true,beq_iff_eq,beq_iff_eq,beq_iff_eq,beq_iff_eq] at w1
      omega
     have:=Ta.free (.inr (hk2.2.1.1 (.inl (by rw [←Ta.kind];exact k4))))
     have h2:=Fb.find
     rw [←hta,this] at h2
     cases h2
    ·rw [Ta.loc,Fb.loc] at q
     exact wrS_ne hpk (by rw [Ta.t,Fb.t];omega) hc w1 (tch_wr w2) (by rw [Ta.loc,Fb.loc];omega)
 ·obtain ⟨ca,wa,Fa⟩:=v.fe ha4 ha
  by_cases hb4:b<4
  ·obtain ⟨qb,Tb⟩:=v.te hb4 hb
   obtain ⟨m2,F2⟩:=ft b a hb4 ha4 hb ha _ _ Fa
   obtain ⟨m1,T1,f1⟩:=tf a b ha4 hb4 ha hb hc _ _ Fa _ _ Tb
   refine ⟨m1,m2,by rw [T1.r,Tb.r],by rw [T1.w,Tb.w],by rw [F2.r,Fa.r],by rw [F2.w,Fa.w],⟨fun t=>?_,fun t=>?_,fun c=>?_⟩⟩
   ·rw [F2.l,T1.l,f1,Tb.l,Fa.l]
   ·rw [F2.b,T1.b,Tb.b,Fa.b,Tb.b,Fa.b,hma,hmb]
    generalize evOf qb (V.l b) (qv V b qb)=eb
    by_cases h1:ftQ V.m a=b∧eb.kind=2∧V.m≠1
    ·rw [if_pos h1.1.symm]
     by_cases h2:t=ftQ V.m a
     ·rw [if_pos ⟨by omega,h1.2⟩,if_pos h2,if_pos h1]
      have hpe:=List.find?_some Fa.find
      have:=List.eraseP_append_left hpe [(eb.loc,eb.w)] (List.mem_of_find?_eq_some Fa.find)
      rw [h1.1] at this ⊢
      exact this.symm
     ·rw [if_neg (fun q=>h2 (by omega)),if_neg h2,if_neg h2,if_neg (fun q=>h2 (by omega))]
    ·by_cases h2:t=b∧eb.kind=2∧V.m≠1
     ·rw [if_pos h2,if_neg (fun q=>h1 ⟨by omega,h2.2⟩),if_neg (fun q=>h1 ⟨by omega,h2.2⟩),if_pos h2]
     ·rw [if_neg h2]
      by_cases h3:t=ftQ V.m a
      ·rw [if_pos h3,if_pos h3,if_neg h1]
      ·rw [if_neg h3,if_neg h3,if_neg h2]
   ·have s1:wrS ((V.nx a).stp b) (V.nx a).m=wrS (V.stp b) V.m:=by unfold wrS;rw [T1.kind,Tb.kind,hma]
    have s2:wrS ((V.nx b).stp a) (V.nx b).m=wrS (V.stp a) V.m:=by unfold wrS;rw [F2.kind,Fa.kind,hmb]
    rw [T1.mem,F2.mem,s1,s2,T1.loc,F2.loc,T1.w,F2.w,←Tb.loc,←Fa.loc,←Tb.w,←Fa.w,Fa.mem,Tb.mem]
    refine memX (V.stp a) (V.stp b) (fun w1 w2 q=>?_) c (MQ V c)
    have e1:=Fa.c4;have e2:=Tb.l4
    have hk2:=evOf_cases qb (V.l b) (qv V b qb) Tb.k4
    by_cases hta:b=ftQ V.m a
    ·have hok:=Fa.ok
     unfold fOk at hok
     have hm1:V.m≠1:=by omega
     have k4:(V.stp b).kind=4:=by
      have k1:=Tb.kind
      have k2:=evOf_kinds qb (V.l b) (qv V b qb)
      unfold wrS at w2
      rw [Bool.or_eq_true,Bool.or_eq_true,Bool.and_eq_true,beq_iff_eq,beq_iff_eq,beq_iff_eq,beq_iff_eq] at w2
      omega
     have:=Tb.free (.inr (hk2.2.1.1 (.inl (by rw [←Tb.kind];exact k4))))
     have h2:=Fa.find
     rw [←hta,this] at h2
     cases h2
    ·rw [Fa.loc,Tb.loc] at q
     exact wrS_ne hpk (by rw [Fa.t,Tb.t];omega) hc w1 (tch_wr w2) (by rw [Fa.loc,Tb.loc];omega)
  ·obtain ⟨cb,wb,Fb⟩:=v.fe hb4 hb
   obtain ⟨dis,m1,F1⟩:=ff a b ha4 hb4 ha hb hab _ _ _ _ Fa Fb
   obtain ⟨dis2,m2,F2⟩:=ff b a hb4 ha4 hb ha (fun q=>hab q.symm) _ _ _ _ Fb Fa
   refine ⟨m1,m2,by rw [F1.r,Fb.r],by rw [F1.w,Fb.w],by rw [F2.r,Fa.r],by rw [F2.w,Fa.w],⟨fun t=>?_,fun t=>?_,fun c=>?_⟩⟩
   ·rw [F1.l,F2.l,Fa.l,Fb.l]
   ·rw [F1.b,F2.b,Fa.b,Fb.b,Fa.b,Fb.b,hma,hmb]
    by_cases h1:ftQ V.m a=ftQ V.m b
    ·rw [h1]
     by_cases h2:t=ftQ V.m b
     ·rw [if_pos h2,if_pos rfl,if_pos h2,if_pos rfl,←h1,erase_erase (dis h1)]
     ·rw [if_neg h2,if_neg h2,if_neg h2,if_neg h2]
    ·by_cases h2:t=ftQ V.m b
     ·rw [if_pos h2,if_neg (fun q=>h1 q.symm),if_neg (fun q=>h1 (by omega)),if_pos h2]
     ·rw [if_neg h2]
      by_cases h3:t=ftQ V.m a
      ·rw [if_pos h3,if_pos h3,if_neg h1]
      ·rw [if_neg h3,if_neg h3,if_neg h2]
   ·have s1:wrS ((V.nx a).stp b) (V.nx a).m=wrS (V.stp b) V.m:=by unfold wrS;rw [F1.kind,Fb.kind,hma]
    have s2:wrS ((V.nx b).stp a) (V.nx b).m=wrS (V.stp a) V.m:=by unfold wrS;rw [F2.kind,Fa.kind,hmb]
    rw [F1.mem,F2.mem,s1,s2,F1.loc,F2.loc,F1.w,F2.w,←Fb.loc,←Fa.loc,←Fb.w,←Fa.w,Fa.mem,Fb.mem]
    refine memX (V.stp a) (V.stp b) (fun w1 w2 q=>?_) c (MQ V c)
    have e1:=Fa.c4;have e2:=Fb.c4
    rw [Fa.loc,Fb.loc] at q
    by_cases hta:ftQ V.m a=ftQ V.m b
    ·have:=dis hta (ca,wa) (List.find?_some Fa.find)
     have h2:=List.find?_some Fb.find
     have hcc:ca=cb:=by omega
     unfold fpQ at this h2
     dsimp only at this h2
     rw [hcc] at this
     rw [this] at h2;cases h2
    ·exact wrS_ne hpk (by rw [Fa.t,Fb.t];omega) hc w1 (tch_wr w2) (by rw [Fa.loc,Fb.loc];omega)
end Jq

namespace Jq
open Go
end Jq

namespace Jq
open Go
end Jq

namespace Jq
open Go
end Jq

namespace Jq
open Go
section
variable {E:Env}
def ledI (f:Nat→Nat) (a k:Nat):Nat→Bool
 | 0=>false
 | i+1=>ledI f a k i||(decide (a≤i)&&(f i).testBit k)
end
end Jq

namespace Jq
open Go
structure Duo (n:Nat) (h:AHeap) (pc:List Cell) (k:Nat) (x:Cell) (bs:List Cell) (V:MV) (k':Nat) (x':Cell) (bs':List Cell) (W:MV):Prop where
 a:RvAt n h k x bs pc V
 b:RvAt n h k' x' bs' pc W
 kk:k≠k'
 d:∀j,isBlk x j→¬isBlk x' j
theorem RvAt.xk {n k k':Nat} {h:AHeap} {x x':Cell} {bs bs' pc pc':List Cell} {V W:MV} (a:RvAt n h k x bs pc V) (b:RvAt n h k' x' bs' pc' W):¬isBlk x k'∧∀t,t<4→¬isBlk (bs.getD t .nils) k'∧∀j,isBlk (bs.getD t .nils) j→¬isBlk x' j:=by
 refine ⟨fun q=>?_,fun t ht=>⟨fun q=>?_,fun j q q2=>?_⟩⟩
 ·have h1:=a.st.has q
  rw [b.blk] at h1
  have:=(Blk.mk.inj (Option.some.inj h1)).2.1
  omega
 ·have h1:=(a.bf t ht).1.has q
  rw [b.blk] at h1
  have:=(Blk.mk.inj (Option.some.inj h1)).2.1
  omega
 ·have h1:=(a.bf t ht).1.has q
  rw [b.st.has q2] at h1
  have:=(Blk.mk.inj (Option.some.inj h1)).2.1
  omega
theorem Duo.flip {n:Nat} {h:AHeap} {pc:List Cell} {k:Nat} {x:Cell} {bs:List Cell} {V:MV} {k':Nat} {x':Cell} {bs':List Cell} {W:MV} (D:Duo n h pc k x bs V k' x' bs' W):Duo n h pc k' x' bs' W k x bs V:=⟨D.b,D.a,fun e=>D.kk e.symm,fun j q1 q2=>D.d j q2 q1⟩
theorem Duo.one {n:Nat} {h:AHeap} {pc:List Cell} {k:Nat} {x:Cell} {bs:List Cell} {V:MV} {k':Nat} {x':Cell} {bs':List Cell} {W:MV} (D:Duo n h pc k x bs V k' x' bs' W) {h1:AHeap} {x1:Cell} {bs1:List Cell} {V1:MV} (kv:KpV n k x x1 h h1) (a1:RvAt n h1 k x1 bs1 pc V1):Duo n h1 pc k x1 bs1 V1 k' x' bs' W:=by
 have b:=D.b
 have ab:=D.a.xk b
 have ba:=b.xk D.a
 refine ⟨a1,⟨Nat.le_trans b.hn kv.kp.1,b.nk,by rw [take_keep kv.kp];exact b.prog,(kv.old _ _ b.blk (fun e=>D.kk e.symm) ab.1).1,b.st.via fun j c q1 q2=>(kv.old j c q2 (fun e=>ba.1 (e ▸ q1)) (fun q=>D.d j q q1)).1,b.sep,b.bl,fun t ht=>?_⟩,D.kk,fun j q1 q2=>?_⟩
 ·obtain ⟨q1,q2,q3⟩:=b.bf t ht
  exact ⟨q1.via fun j c s1 s2=>(kv.old j c s2 (fun e=>(ba.2 t ht).1 (e ▸ s1)) (fun q=>(ba.2 t ht).2 j s1 q)).1,q2,q3⟩
 ·exact (kv.old j _ (b.st.has q2) (fun e=>ba.1 (e ▸ q2)) (fun q=>D.d j q q2)).2 q1
theorem Own.pre {n:Nat} {h:AHeap} {x:Cell} {esz len m:Nat} {cs:List Cell} (o:Own n h x esz cs len) (hm:m≤len) :
  ∃x',(∀{α:Type} (f:Cell→Option α),sliceK h esz false true x [.v (.c (.int .i64 (m:Int)))] f=f x')∧SlAt h x' esz (cs.take (m*esz)) m∧Low h.length x':=by
 have hl:=o.1
 have hme:m*esz≤len*esz:=Nat.mul_le_mul_right _ hm
 have hlen:(cs.take (m*esz)).length=m*esz:=by rw [List.length_take];omega
 rcases o.2 with ⟨rfl,rfl⟩ | ⟨k,rfl,_,hb⟩
 ·have:m=0:=by omega
  subst this
  exact ⟨.nils,fun f=>rfl,⟨hlen,.inl ⟨rfl,rfl⟩⟩,trivial⟩
 ·refine ⟨.sl k cs.length (0+0*esz) (m - 0),fun f=>?_,⟨hlen,.inr ⟨k,cs.length,0+0*esz,rfl,.inr ⟨_,hb,rfl,?_,fun j hj=>?_⟩⟩⟩,.inr (blk_lt' hb)⟩
  ·have hok:okSl h esz k cs.length=true:=by unfold okSl;rw [hb];simp
   unfold sliceK boundsK
   simp only
   rw [if_pos hok,if_pos ⟨by omega,by omega⟩,Int.toNat_natCast]
  ·omega
  ·rw [List.getElem?_take,if_pos hj];simp
section
variable {E:Env}
end
end Jq

namespace Jq
open Go
def isCame (s:Nat) (x:Stp):Bool:=x.kind==6&&x.frm==(s:Int)
def cameT (l:List Stp) (m:Int) (s:Nat):Int:=match l[s]? with
 | some q=>if wrS q m=true then (s:Int) else match l.findIdx? (isCame s) with
  | some i=>(i:Int)
  | none=>-1
 | none=>-1
def pairE (a b:Stp) (m:Int) (i:Nat):Bool:=a.pick==b.pick||(wrS a m&&wrS b m&&a.loc==b.loc)||(b.kind==6&&b.frm==(i:Int))||(a.kind==6&&a.t==b.t&&fnS b)
def edgeE (l:List Stp) (m:Int) (i k:Nat):Bool:=match l[i]?,l[k]? with
 | some a,some b=>pairE a b m i
 | _,_=>false
def fromE (l:List Stp) (m:Int) (s:Stp):Option Int:=if 0≤s.frm∧s.frm<l.length then (if cameT l m s.frm.toNat<0 then none else some (cameT l m s.frm.toNat)) else some (-1)
def wrE (l:List Stp) (m:Int) (loc:Int) (k:Nat):Bool:=match l[k]? with
 | some b=>wrS b m&&b.loc==loc
 | none=>false
def farE (l:List Stp) (s:Stp):Bool:=match l[s.frm.toNat]? with
 | some b=>decide (0≤s.frm∧s.frm<l.length)&&b.t != s.t
 | none=>false
def readE (l:List Stp) (m:Int) (i:Nat) (s:Stp) (a b:Nat):Bool:=match fromE l m s with
 | none=>false
 | some f=>(farE l s&&decide (0≤f)&&decide (a=f.toNat)&&decide (b=i))||(decide (a=i)&&decide (f<(b:Int))&&b != i&&wrE l m s.loc b)
def rdE (l:List Stp) (m:Int) (i a b:Nat):Bool:=match l[i]? with
 | some s=>rdS s&&readE l m i s a b
 | none=>false
def baseE (l:List Stp) (m:Int) (a b:Nat):Bool:=(decide (a<b)&&edgeE l m a b)||(List.range l.length).any fun i=>rdE l m i a b
def hbF (l:List Stp) (m:Int):Nat→Nat:=clK l.length (ACC l.length (baseE l m)) l.length
section
variable {E:Env}
end
end Jq

namespace Jq
open Go
def stageE (l:List Stp) (m:Int) (i k a b:Nat):Bool:=(decide (a<b)&&edgeE l m a b&&(decide (a<i)||(decide (a=i)&&decide (b<k))))||(List.range i).any fun j=>rdE l m j a b
section
variable {E:Env}
end
end Jq

namespace Jq
open Go
def TT (F G:Nat→Nat) (i j:Nat):Nat→Nat:=fun a=>mkN fun b=>(List.range 64).any fun k=>upto i j a k&&(F a).testBit k&&(G k).testBit b
def acA (n:Nat) (t:Bool) (P:Nat→Nat→Bool) (i j:Nat):List Cell:=relL n (ACC n fun a b=>if t then upto i j b a&&P b a else upto i j a b&&P a b)
def UN (r:Nat) (f g:Nat→Nat):Nat→Nat:=fun i=>mkN fun j=>decide (i<r)&&decide (j<r)&&((f i).testBit j||(g i).testBit j)
def DI (r:Nat) (f g:Nat→Nat):Nat→Nat:=fun i=>mkN fun j=>decide (i<r)&&decide (j<r)&&((f i).testBit j&&!(g i).testBit j)
def ME (r:Nat) (f g:Nat→Nat):Nat→Nat:=fun i=>mkN fun j=>decide (i<r)&&decide (j<r)&&((f i).testBit j&&(g i).testBit j)
def TN (r:Nat) (f g:Nat→Nat):Nat→Nat:=fun i=>mkN fun j=>decide (i<r)&&decide (j<r)&&(List.range r).any fun k=>(f i).testBit k&&(g k).testBit j
variable {E:Env}
def HP (H:AHeap) (cu cv:List Cell):AHeap:=(H++[some ⟨true,0,cu⟩])++[some ⟨true,0,cv⟩]
section
variable {n r:Nat} {f FX GY:Nat→Nat} {s k12 k15:Nat} {H:AHeap} {s0 s1:List Cell} {m:Nat}
abbrev tHP (H:AHeap) (n:Nat) (f:Nat→Nat) (s i j:Nat):AHeap:=HP H (acA n true (fun a b=>(f a).testBit b) i j) (acA n false (fun a b=>(f a).testBit b&&(s.testBit a&&s.testBit b)) i j)
end
end Jq

namespace Jq
open Go
end Jq

namespace Jq
open Go
end Jq

namespace Jq
open Go
end Jq

namespace Jq
open Go
def meddle (a b:Stp) (m:Int):Bool:=a.t != b.t&&(a.loc==b.loc&&(wrS a m||wrS b m))
def raceB (n:Nat) (f:Nat→Nat) (l:List Stp) (m:Int) (i k:Nat):Bool:=match l[i]?,l[k]? with
 | some a,some b=>(f i).testBit k&&((f i &&& INV n f k)==0&&meddle a b m)
 | _,_=>false
def racesK (p:Nat→Bool) (k i:Nat):List (Int × Int):=((List.range i).filter p).map fun (j:Nat)=>((j:Int),(k:Int))
def racesL (p:Nat→Nat→Bool):Nat→List (Int × Int)
 | 0=>[]
 | k+1=>racesL p k++racesK (fun i=>p i k) k k
section
variable {E:Env}
def racesT (l:List Stp) (m:Int):List (Int × Int):=if l.length≤64 then racesL (raceB l.length (hbF l m) l m) l.length else []
end
end Jq

namespace Jq
open Go
def revP (l:List Stp) (m:Int) (i:Nat) (a:Nat):Bool:=a != i&&!(hbF l m i).testBit a
def pickD (l:List Stp) (a:Nat):Int:=match l[a]? with | some s=>s.pick | none=>0
def revK (l:List Stp) (m:Int) (i k:Nat):List Int:=((List.range k).filter (revP l m i)).map (pickD l)
def revL (l:List Stp) (m:Int) (i k:Nat):List Int:=revK l m i k++[pickD l k]
section
variable {E:Env}
end
end Jq

namespace Jq
open Go
end Jq

namespace Jq
open Go
end Jq

namespace Jq
open Go
end Jq

namespace Jq
open Go
def w20s:List Ins:=[⟨1,0,0,⟨-1,1⟩,0,⟨0,0⟩,0⟩]
def w20l:List Ins:=[⟨2,0,0,⟨0,0⟩,0,⟨0,0⟩,0⟩]
def w20P:PProg:=⟨[120],[0],[w20s,w20l]⟩
def w20L:List Stp:=[⟨0,0,2,0,0,1,-1⟩,⟨1,1,1,0,1,0,0⟩]
section
variable {E:Env}
end
end Jq

namespace Jq
open Go
def before2 (a b:Int × Int):Prop:=a.2<b.2∨(a.2=b.2∧a.1<b.1)
section
variable {E:Env}
end
end Jq

namespace Jq
open Go
theorem mayI_0 {V:MV} (h:V.word=0) (q:Int):mayI V q=false:=by
 rw [mayI_has,h]
 unfold hasI
 rw [Nat.zero_testBit]
 simp
theorem MV.word_ne {V:MV} {j:Nat} (h:V.may j=true):V.word≠0:=by
 intro h0
 have:=mayI_0 h0 (j:Int)
 rw [mayI_has] at this
 have h2:hasI V.word (j:Int)=true:=by
  rw [←mayI_has]
  unfold mayI
  simp [h]
 rw [h2] at this;cases this
section
variable {E:Env}
theorem maxB_take {P:PProg} {m:Int} {row:List Int} (hw:(MV.new P m).whole row) (h0:((MV.new P m).runs row).word=0) {n:Nat} (hn:n≤row.length) :
  ((MV.new P m).runG (row.take n)).2=n∧(((MV.new P m).runs (row.take n)).word==0)=(n==row.length)∧maxB P m (row.take n)=(n==row.length):=by
 have h1:((MV.new P m).runG (row.take n)).2=n:=by
  have:=MV.whole_take hw n
  unfold MV.whole at this
  rw [this,List.length_take];omega
 have h2:(((MV.new P m).runs (row.take n)).word==0)=(n==row.length):=by
  by_cases hc:n=row.length
  ·subst hc;rw [List.take_length,h0];simp
  ·obtain ⟨j,_,hj,_⟩:=MV.whole_get hw (i:=n) (by omega)
   rw [beq_eq_false_iff_ne.2 hc,beq_eq_false_iff_ne]
   exact MV.word_ne hj
 refine ⟨h1,h2,?_⟩
 unfold maxB
 rw [h1,h2,List.length_take,show (n==min n row.length)=true by simp;omega,Bool.true_and]
theorem row_done {P:PProg} {m:Int} {most:Nat} (g:GoodP most P) (pl:Plays P m) {row:List Int} (hw:(MV.new P m).whole row) (hend:row.length=60∨((MV.new P m).runs row).word=0) (hinv:((MV.new P m).runs row).Inv2):((MV.new P m).runs row).word=0:=by
 rcases hend with h60 | h0
 ·exfalso
  obtain ⟨v,vP,vm⟩:=MV.runs_inv pl.inv row
  have vst:=MV.runs_st pl.inv hw
  have hP:(MV.new P m).P=P:=rfl
  rw [show (MV.new P m).st.length=0 from rfl,Nat.zero_add] at vst
  have hm:=hinv.most (by rw [vP];exact pl.n4)
  rw [vP,hP] at hm
  have hsz:=sumLen_le (c:=6) P.thr g.code
  have:=g.n
  unfold sumL at hm
  omega
 ·exact h0
theorem runs_inv2 {V:MV} (v:V.Inv) (w:V.Inv2) (sk:V.skips):∀{l:List Int},V.whole l→(V.runs l).Inv2∧(V.runs l).skips
 | [],_=>⟨w,sk⟩
 | q :: l,hw=>by
  unfold MV.whole at hw
  rw [MV.runG_cons] at hw
  unfold MV.runs
  rw [MV.runG_cons]
  by_cases hm:mayI V q=true
  ·rw [if_pos hm] at hw ⊢
   obtain ⟨j,rfl,hj,hn⟩:=mayI_at hm
   rw [hn] at hw ⊢
   dsimp only at hw ⊢
   exact runs_inv2 (v.nx hj) (v.inv2_nx w sk hj) (MV.skips_nx sk j) (by unfold MV.whole;rw [List.length_cons] at hw;omega)
  ·rw [if_neg hm] at hw;dsimp only at hw;rw [List.length_cons] at hw;omega
theorem Plays.done {P:PProg} {m:Int} {most:Nat} (g:GoodP most P) (pl:Plays P m) {row:List Int} (hw:(MV.new P m).whole row) (hend:row.length=60∨((MV.new P m).runs row).word=0):((MV.new P m).runs row).word=0 :=
 row_done g pl hw hend (runs_inv2 pl.inv (MV.new_inv2 g.skip) g.skip hw).1
end
end Jq

namespace Jq
open Go
theorem Greedy.step {pk:MV→Nat} {V0:MV} {l:List Int} (g:Greedy pk V0 l) (i:Nat) :
  (i<l.length∧(V0.runs (l.take i)).may (pk (V0.runs (l.take i)))=true∧l[i]? = some ((pk (V0.runs (l.take i)):Nat):Int)∧V0.runs (l.take (i+1))=(V0.runs (l.take i)).nx (pk (V0.runs (l.take i)))∧(V0.runs (l.take i)).word≠0) ∨
  (l.length≤i∧(V0.runs (l.take i)).word=0∧V0.runs (l.take (i+1))=V0.runs (l.take i)):=by
 rcases Nat.lt_or_ge i l.length with c | c
 ·obtain ⟨j,hj,hm,hn⟩:=MV.whole_get g.whole c
  have:=g.at_ i c
  rw [this] at hj
  have hjp:pk (V0.runs (l.take i))=j:=by have:=Option.some.inj hj;omega
  exact .inl ⟨c,by rw [hjp];exact hm,this,by rw [hjp];exact hn,MV.word_ne hm⟩
 ·rw [List.take_of_length_le c,List.take_of_length_le (show l.length≤i+1 by omega)]
  exact .inr ⟨c,g.word,rfl⟩
theorem Greedy.maxB {pk:MV→Nat} {P:PProg} {m:Int} {l:List Int} (g:Greedy pk (MV.new P m) l):maxB P m l=true:=by
 have:=(maxB_take g.whole g.word (Nat.le_refl _)).2.2
 rw [List.take_length] at this
 rw [this];simp
theorem Duo.keep {n:Nat} {h h':AHeap} {pc:List Cell} {k:Nat} {x:Cell} {bs:List Cell} {V:MV} {k':Nat} {x':Cell} {bs':List Cell} {W:MV} (D:Duo n h pc k x bs V k' x' bs' W) (hk:Kp h.length h h'):Duo n h' pc k x bs V k' x' bs' W :=
 ⟨D.a.keep hk,D.b.keep hk,D.kk,D.d⟩
section
variable {E:Env}
set_option maxHeartbeats 4000000 in
theorem PlayEnds_law (hx:Ext17 E) (ht:TabOk E) (hE:q425_In E) {h:AHeap} {c0 c1':List Cell} (o0:okC h (.sl (.i .i64)) c0) (o1:okC h (.i .i64) c1') :
  ∃h',R E 425 [av1 (.sl (.i .i64)) c0,av1 (.i .i64) c1'] h=some ([.c (.bool true)],h'):=by
 obtain ⟨x,l,ha0,hx0,hlow,_,hml⟩:=arg_ints o0
 obtain ⟨m0,ha1,_⟩:=arg_int o1
 obtain ⟨cs,h1,P,r1,p1,g1,g2,g3,k1⟩:=OfP_R hE.c76 hx0 hlow (by unfold maxLen at hml;omega) (most:=12) (by omega)
 have hb1:=g_rem3 (E:=E) m0
 have hm1:E.glob.wrap .i64 (E.glob.rem .i64 (E.glob.band .i64 m0 255) 3+1)=E.glob.rem .i64 (E.glob.band .i64 m0 255) 3+1:=g_wrap_i64 (by omega) (by omega)
 generalize hmm:E.glob.rem .i64 (E.glob.band .i64 m0 255) 3+1=m at hm1
 have hm13:1≤m∧m≤3:=by omega
 have gn:=g1.n
 have gi:=g1.init
 have pl:Plays P m:=g1.plays g2 g3 hm13
 have hlen:=p1.len
 have hsz:sumL P.thr≤1000:=by
  have:=sumLen_le (c:=6) P.thr g1.code
  unfold sumL;omega
 obtain ⟨zA,ra,h5,r5,o5,k5,gA,lA⟩:=PFirst_R hE.c423 ht p1 pl (MV.new_inv2 g1.skip) g1.skip hsz
 obtain ⟨zB,rb,h8,r8,o8,k8,gB,lB⟩:=PLazy_R hE.c424 ht (p1.keep k5) pl (MV.new_inv2 g1.skip) g1.skip hsz
 have kk8:Kp h1.length h1 h8:=k5.trans (k8.mono k5.1)
 obtain ⟨h11,r11,a11,k11⟩:=rNew_R hE.c180 (p1.keep kk8) g1.good (by omega) (by omega) hm13
 have kk11:Kp h1.length h1 h11:=kk8.trans (k11.mono kk8.1)
 obtain ⟨h14,r14,a14,k14⟩:=rNew_R hE.c180 (p1.keep kk11) g1.good (by omega) (by omega) hm13
 have a11':=a11.keep k14
 have sA:SlAt h8 zA 1 (intC .i64 ra) ra.length:=(o5.keepK k8).at
 have wA:Low h8.length zA:=(o5.keepK k8).low
 have sB:SlAt h8 zB 1 (intC .i64 rb) rb.length:=o8.at
 have wB:Low h8.length zB:=o8.low
 have D0:Duo h8.length h14 cs h8.length .nils [.nils,.nils,.nils,.nils] (MV.new P m) h11.length .nils [.nils,.nils,.nils,.nils] (MV.new P m) :=
  ⟨a11',⟨a11'.hn,k11.1,a11'.prog,a14.blk,a14.st.monoN k11.1,a14.sep,a14.bl,fun t ht=>⟨(a14.bf t ht).1.monoN k11.1,(a14.bf t ht).2⟩⟩,by have:=blk_lt' a11.blk;omega,fun j q=>by cases q⟩
 have kk14:Kp h8.length h8 h14:=k11.trans (k14.mono k11.1)
 have lenB:∀V:MV,(bitsL V.word).length≤64:=fun V=>bits_len V.word
 have loop:∃b h',Lim (q425_F1 (R E) Lim E.glob) (q425_s1 m zA zB (.ptr h8.length 37 0) (.ptr h11.length 37 0) ((0:Nat):Int) cs h14)=some (.ret,q425_x1_0 b h')∧b=true:=by
  obtain ⟨e,he,b,h',rfl,hb⟩:=Lim_fallN (F:=q425_F1 (R E) Lim E.glob)
   (fun q st=>∃(i:Nat) (xv xw:Cell) (bv bw:List Cell) (h':AHeap),q=2001 - i∧i≤2000∧st=q425_s1 m zA zB (.ptr h8.length 37 0) (.ptr h11.length 37 0) (i:Int) cs h' ∧
    Duo h8.length h' cs h8.length xv bv ((MV.new P m).runs (ra.take i)) h11.length xw bw ((MV.new P m).runs (rb.take i))∧Kp h8.length h8 h')
   (fun e=>∃b h',e=(.ret,q425_x1_0 b h')∧b=true)
   (fun q st hI=>by
    obtain ⟨i,xv,xw,bv,bw,h',rfl,hi,rfl,D,kk⟩:=hI
    obtain ⟨vV,vP,vm⟩:=MV.runs_inv pl.inv (ra.take i)
    obtain ⟨wV,wP,wm⟩:=MV.runs_inv pl.inv (rb.take i)
    have tV:=MV.runs_st pl.inv (MV.whole_take gA.whole i)
    have tW:=MV.runs_st pl.inv (MV.whole_take gB.whole i)
    rw [show (MV.new P m).st.length=0 from rfl,Nat.zero_add,List.length_take] at tV tW
    have sV:=gA.step i
    have sW:=gB.step i
    have hP:(MV.new P m).P=P:=rfl
    generalize hV:(MV.new P m).runs (ra.take i)=V at *
    generalize hW:(MV.new P m).runs (rb.take i)=W at *
    have gV:V.P.good:=by rw [vP,hP];exact g1.good
    have gW:W.P.good:=by rw [wP,hP];exact g1.good
    obtain ⟨yv,h17,r17,o17,k17⟩:=rEnabled_R hE.c181 D.a vV.fit gV
    have D17:=D.keep k17
    obtain ⟨yw,h20,r20,o20,k20⟩:=rEnabled_R hE.c181 D17.b wV.fit gW
    have D20:=D17.keep k20
    have o17':=o17.keepK k20
    have kk20:Kp h8.length h8 h20:=kk.trans ((k17.trans (k20.mono k17.1)).mono kk.1)
    have hbV:=lenB V
    have hbW:=lenB W
    have sA20:=sA.keep wA kk20
    have sB20:=sB.keep wB kk20
    have hdV:V.word≠0→∀{α:Type} (f:Cell→Option α),(idxSK 1 yv 0 fun k N o=>rdH h20 k N fun l=>atK l o f)=f (.int .i64 ((pkF V:Nat):Int)):=fun h0 α f=>by
     have hne:(bitsL V.word).length≠0:=fun e=>h0 (bits_none.1 e)
     have hq:(bitsL V.word)[0]? = some (pkF V):=by
      unfold pkF
      rw [List.getD_eq_getElem?_getD,List.getElem?_eq_getElem (by omega)];rfl
     exact o17'.at.get1 (i:=0) (by omega) (natC_get hq)
    have hdW:W.word≠0→∀h'',Own h17.length h'' yw 1 (natC (bitsL W.word)) (bitsL W.word).length→∀{α:Type} (f:Cell→Option α),(idxSK 1 yw (E.glob.wrap .i64 (((bitsL W.word).length:Int) - 1)) fun k N o=>rdH h'' k N fun l=>atK l o f)=f (.int .i64 ((pkL W:Nat):Int)):=fun h0 h'' o α f=>by
     have hne:(bitsL W.word).length≠0:=fun e=>h0 (bits_none.1 e)
     have hq:(bitsL W.word)[(bitsL W.word).length - 1]? = some (pkL W):=by
      unfold pkL
      rw [List.getD_eq_getElem?_getD,List.getElem?_eq_getElem (by omega)];rfl
     rw [g_wrap_i64 (by omega) (by omega),show ((bitsL W.word).length:Int) - 1=(((bitsL W.word).length - 1:Nat):Int) by omega]
     exact o.at.get1 (i:=(bitsL W.word).length - 1) (by omega) (natC_get hq)
    have self:∀n:Int,(n != n)=false:=fun n=>by simp
    have goW:∀(hX:AHeap) (xv1:Cell) (bv1:List Cell) (V1:MV),V1=(MV.new P m).runs (ra.take (i+1))→Duo h8.length hX cs h8.length xv1 bv1 V1 h11.length xw bw W→Kp h8.length h8 hX→Own h17.length hX yw 1 (natC (bitsL W.word)) (bitsL W.word).length→i+1≤2000∨True→i<2000∨W.word≠0 →
      ∃st' k',(lenK yw fun n_73=>if (decide (n_73 > 0))=true then lenK zB fun n_74=>scK (decide ((i:Int)≥n_74)) false (idxSK 1 zB (i:Int) fun k_75 N_76 o_77=>rdH hX k_75 N_76 fun l_78=>atK l_78 o_77 fun q_79=>asI .i64 (.c q_79) fun n_80=>lenK yw fun n_81=>idxSK 1 yw (E.glob.wrap .i64 (n_81 - 1)) fun k_82 N_83 o_84=>rdH hX k_82 N_83 fun l_85=>atK l_85 o_84 fun q_86=>asI .i64 (.c q_86) fun n_87=>some ((n_80 != n_87),hX)) true hX fun b_88 h_89=>if b_88=true then some (Ex.ret,(q425_x1_0 false h_89)) else lenK yw fun n_90=>idxSK 1 yw (E.glob.wrap .i64 (n_90 - 1)) fun k_91 N_92 o_93=>rdH h_89 k_91 N_92 fun l_94=>atK l_94 o_93 fun q_95=>asI .i64 (.c q_95) fun n_96=>c2 (R E 182 [(.c (.ptr h11.length 37 0)),(.c (.int .i64 n_96))] h_89) fun y_98 y_99 h_97=>asA y_98 fun l_100=>asB y_99 fun b_101=>some (Ex.normal,(q425_s1 m zA zB (.ptr h8.length 37 0) (.ptr h11.length 37 0) (E.glob.wrap .i64 ((i:Int)+1)) cs h_97)) else some (Ex.normal,(q425_s1 m zA zB (.ptr h8.length 37 0) (.ptr h11.length 37 0) (E.glob.wrap .i64 ((i:Int)+1)) cs hX)))=some (Ex.normal,st') ∧
       (∃(i:Nat) (xv xw:Cell) (bv bw:List Cell) (h':AHeap),k'=2001 - i∧i≤2000∧st'=q425_s1 m zA zB (.ptr h8.length 37 0) (.ptr h11.length 37 0) (i:Int) cs h' ∧
        Duo h8.length h' cs h8.length xv bv ((MV.new P m).runs (ra.take i)) h11.length xw bw ((MV.new P m).runs (rb.take i))∧Kp h8.length h8 h')∧k'<2001 - i:=by
     intro hX xv1 bv1 V1 hV1 DX kX oX _ hi2
     have hi3:i+1≤2000:=by
      rcases hi2 with q | q
      ·omega
      ·rcases sW with ⟨w1,_⟩ | ⟨_,w2,_⟩
       ·omega
       ·exact absurd w2 q
     rcases sW with ⟨w1,w2,w3,w4,w5⟩ | ⟨w1,w2,w3⟩
     ·obtain ⟨xw1,bw1,hY,rY,aY,kY⟩:=rPick_R hE.c182 DX.b wV gW (by omega) w2
      have DY:=(DX.flip.one kY aY).flip
      have hne:(bitsL W.word).length≠0:=fun e=>w5 (bits_none.1 e)
      refine ⟨_,2001 - (i+1),?_,⟨i+1,xv1,xw1,bv1,bw1,hY,rfl,hi3,rfl,by rw [←hV1,w4];exact DY,kX.trans kY.kp⟩,by omega⟩
      rw [oX.at.len,if_pos (by simp;omega),(sB.keep wB kX).len,show decide ((i:Int)≥(rb.length:Int))=false by simp;omega,scK_ok,(sB.keep wB kX).get1 w1 (intC_get w3),asI_ok,oX.at.len,hdW w5 hX oX,asI_ok,self,bind_ok]
      dsimp only
      rw [if_neg (by simp),oX.at.len,hdW w5 hX oX,asI_ok,rY,c2_ok,asA_ok,asB_ok,g_succ (by omega)]
     ·refine ⟨_,2001 - (i+1),?_,⟨i+1,xv1,xw,bv1,bw,hX,rfl,hi3,rfl,by rw [←hV1,w3];exact DX,kX⟩,by omega⟩
      rw [oX.at.len,bits_none.2 w2,if_neg (by simp),g_succ (by omega)]
    rw [q425_r1,r17,c1_ok,asC_ok,r20,c1_ok,asC_ok,o17'.at.len]
    rcases sV with ⟨v1,v2,v3,v4,v5⟩ | ⟨v1,v2,v3⟩
    ·obtain ⟨xv1,bv1,hX,rX,aX,kX⟩:=rPick_R hE.c182 D20.a vV gV (by omega) v2
     have DX:=D20.one kX aX
     have oX:Own h17.length hX yw 1 (natC (bitsL W.word)) (bitsL W.word).length:=o20.via fun j b q1 q2=>(kX.old j b q2 (D20.a.apart o20 q1).1 (D20.a.apart o20 q1).2.1).1
     have hne:(bitsL V.word).length≠0:=fun e=>v5 (bits_none.1 e)
     obtain ⟨st',k',e1,e2,e3⟩:=goW hX xv1 bv1 (V.nx (pkF V)) v4.symm DX (kk20.trans kX.kp) oX (.inr trivial) (.inl (by omega))
     refine .inl ⟨st',k',?_,e2,e3⟩
     rw [show (((bitsL V.word).length:Int)==0)=false from beq_false_of_ne (by omega),scK_ft,if_neg (by simp),o17'.at.len,if_pos (by simp;omega),sA20.len,show decide ((i:Int)≥(ra.length:Int))=false by simp;omega,scK_ok,sA20.get1 v1 (intC_get v3),asI_ok,hdV v5,asI_ok,self,bind_ok]
     dsimp only
     rw [if_neg (by simp),hdV v5,asI_ok,rX,c2_ok,asA_ok,asB_ok]
     exact e1
    ·rcases Decidable.em (W.word=0) with w0 | w0
     ·-- the end of both
      rcases sW with ⟨_,_,_,_,w5⟩ | ⟨w1,_,_⟩
      ·exact absurd w0 w5
      obtain ⟨hM1,q1,kM1⟩:=Maximal_R hE.c306 (p1.keep (kk8.trans (kk20.mono kk8.1))) pl sA20 (Low_mono kk20.1 wA) (by omega)
      have kkM1:Kp h8.length h8 hM1:=kk20.trans (kM1.mono kk20.1)
      obtain ⟨hM2,q2,kM2⟩:=Maximal_R hE.c306 (p1.keep (kk8.trans (kkM1.mono kk8.1))) pl (sB.keep wB kkM1) (Low_mono kkM1.1 wB) (by omega)
      have aw:=awake17_R hE.c261 hx hM2
      refine .inr ⟨_,?_,(by simp:Ex.ret≠.normal),true,hM2,rfl,rfl⟩
      rw [bits_none.2 v2,show (((0:Nat):Int)==0)=true from rfl,scK_ok,o20.at.len,bits_none.2 w0,bind_ok]
      dsimp only
      rw [show (((0:Nat):Int)==0)=true from rfl,if_pos rfl,sA20.len,show decide ((i:Int)≥(ra.length:Int))=true by simp;omega,scK_ok,sB20.len,show decide ((i:Int)≥(rb.length:Int))=true by simp;omega,bind_ok]
      dsimp only
      rw [scK_ok,if_pos (by exact ⟨rfl,hlen⟩),q1,c1_ok,asB_ok,gA.maxB,bind_ok]
      dsimp only
      rw [scK_ok,if_pos (by exact ⟨rfl,hlen⟩),q2,c1_ok,asB_ok,gB.maxB,bind_ok]
      dsimp only
      rw [scK_ok,aw,c1_ok,asB_ok,bind_ok]
     ·have hne:(bitsL W.word).length≠0:=fun e=>w0 (bits_none.1 e)
      obtain ⟨st',k',e1,e2,e3⟩:=goW h20 xv bv V v3.symm D20 kk20 o20 (.inr trivial) (.inr w0)
      refine .inl ⟨st',k',?_,e2,e3⟩
      rw [bits_none.2 v2,show (((0:Nat):Int)==0)=true from rfl,scK_ok,o20.at.len,show (((bitsL W.word).length:Int)==0)=false from beq_false_of_ne (by omega),bind_ok]
      dsimp only
      rw [if_neg (by simp),o17'.at.len,bits_none.2 v2,if_neg (by simp)]
      exact e1)
   (k:=2001) (st:=q425_s1 m zA zB (.ptr h8.length 37 0) (.ptr h11.length 37 0) ((0:Nat):Int) cs h14) ⟨0,.nils,.nils,_,_,h14,rfl,by omega,rfl,D0,kk14⟩
  exact ⟨b,h',he,hb⟩
 obtain ⟨b,h',he,rfl⟩:=loop
 refine ⟨h',R_intro hE.fn ?_⟩
 rw [ha0,ha1,q425_eq,show (12:Int)=((12:Nat):Int) from rfl,r1,c1_ok,asA_ok,if_pos (by exact ⟨rfl,rfl,hlen⟩),hmm,hm1,if_pos (by exact ⟨rfl,hlen⟩),r5,c1_ok,asC_ok,if_pos (by exact ⟨rfl,hlen⟩),r8,c1_ok,asC_ok,if_pos (by exact ⟨rfl,hlen⟩),r11,c1_ok,asC_ok,if_pos (by exact ⟨rfl,hlen⟩),r14,c1_ok,asC_ok]
 rw [show ((0:Nat):Int)=0 from rfl] at he
 rw [he,bind_ok]
 dsimp only
 rw [q425_e1_0]
end
end Jq

namespace Go.Proofs.YtlfhmbifgdhckaaGreatDoor.LPlayEnds
open Go Jq Go.ChangeShapes Go.WideShapes Go.ChangeAt Go.RowKit
set_option linter.unusedVariables false
theorem own:ownKnob Tryz.prog.godebug=none:=by kernel_rfl
theorem laidOut:laidOutB Tryz.prog=true:=by kernel_rfl
theorem gN : Tryz.prog.globalNamed "math/bits.deBruijn64tab" = some 0 := by kernel_rfl
theorem met (os:Os) (args:Array Value):laidMetH Tryz.prog Rows.playEndsRow.laid ((World.laidAll Tryz.prog os Rows.playEndsRow.laid).forCall (fun _ _=>0) ⟨#[],args,[]⟩).memory:=by
 rw [MakeChecks.laidMetH_plain _ _ _ (by kernel_rfl)]
 exact laidMet_laidAll _ (by kernel_rfl) (by kernel_rfl)
theorem of_laid {W:World} (h:laidMetH Tryz.prog Rows.playEndsRow.laid W):∀i,i<deB.length→W.cell? ⟨0,i,none⟩=some (.int .u8 (deB.getD i 0)):=by
 rw [MakeChecks.laidMetH_plain _ _ _ (by kernel_rfl)] at h
 have h:=laidMet.tail h
 have hT:=Lib.tabIs_of_head (zs:=deB) (n:=64) gN (t:=186) (by kernel_rfl) (e:=5) (by kernel_rfl) (by kernel_rfl) (by kernel_rfl) (by kernel_rfl) h
 exact fun i hi=>hT.cell gN i hi
set_option maxRecDepth 100000 in
theorem lifted (os:Os) (started:os.Started) (H:Type) (enc:TypeId × Value→H) :
  ReturnsInHanded {} Tryz.checked os 5 .any (fun w args=>(Rows.playEndsSpec.pre enc Tryz.prog Tryz.f5 [] false w args∧laidMetH Tryz.prog Rows.playEndsRow.laid w)∧sizedMet enc Tryz.prog Tryz.f5 (OpenSpec.ofChange Rows.playEndsSpec) false w args) (Rows.playEndsSpec.post enc Tryz.prog Tryz.f5 false true false false):=by
 refine returnsInHanded_of_change_and (C:=Tryz.checked) (X:=fun w _=>laidMetH Tryz.prog Rows.playEndsRow.laid w) (fun _ _ _ hh h=>h.of_heap hh) own started (by kernel_rfl) Tryz.func5
  (ChangeSpec.witness_shaped (enc:=enc) (C:=Tryz.checked) (os:=os) (X:=fun w _=>laidMetH Tryz.prog Rows.playEndsRow.laid w) false (World.laidAll Tryz.prog os Rows.playEndsRow.laid) #[.slice none 0 0,.int .i64 0] 8 (World.laidAll_os _ _ _) (World.shaped_of_ZipB (by kernel_rfl) (by kernel_rfl)) (by kernel_rfl) (by kernel_rfl) (by kernel_rfl) (met os _)) ?_
 intro W base args ds gs before hval0 hW _ _ hL _
 have hval:∀(j:Nat) t v,Tryz.f5.params[j]? = some t→args[j]? = some v→Value.okWide Tryz.prog W .any base t v:=hval0
 have hW':=hW
 obtain ⟨p,q,hA0,hV,rfl,hfz,hnd⟩:=hW
 have hA:DataW.TrodAll enc Tryz.prog W 0 (fun _=>true) true Tryz.f5.params.toList args.toList ds p:=hA0
 rw [Tryz.params5] at hA hval
 obtain ⟨v0,vs0,d0,ds0,p0,q0,hargs,rfl,rfl,h0,r0⟩:=trodAll_cons hA
 obtain ⟨v1,vs1,d1,ds1,p1,q1,rfl,rfl,rfl,h1,r1⟩:=trodAll_cons r0
 obtain ⟨rfl,rfl,rfl⟩:=trodAll_nil r1
 obtain rfl:args=#[v0,v1]:=by cases args;simp_all
 obtain ⟨rfl,rfl⟩:=trodVars_none hV
 have lt0:∀x∈p0,x.block<W.heap.size:=by obtain ⟨m,hm⟩:=h0;exact DataW.trod_lt m _ _ _ hm
 have lt1:∀x∈p1,x.block<W.heap.size:=by obtain ⟨m,hm⟩:=h1;exact DataW.trod_lt m _ _ _ hm
 have c:=Come.tab1 (S:=seat) (W:=W) deB (fun _=>rfl) (of_laid hL)
 have k0:((.sl (.i .i64)):Sh).chk seat.P 22=true:=by kernel_rfl
 obtain ⟨b0,ρ0,cs0,c0,e0,x0,a0,o0⟩:=opens_arg (S:=seat) (W:=W) (sh:=(.sl (.i .i64))) k0 h0 (wide_of k0 (hval 0 22 v0 rfl rfl)) ⟨nofun,nofun⟩ c
 have k1:((.i .i64):Sh).chk seat.P 3=true:=by kernel_rfl
 obtain ⟨b1,ρ1,cs1,c1,e1,x1,a1,o1⟩:=opens_arg (S:=seat) (W:=W) (sh:=(.i .i64)) k1 h1 (wide_of k1 (hval 1 3 v1 rfl rfl)) ⟨nofun,nofun⟩ c0
 obtain ⟨h',hR⟩:=PlayEnds_law (E:=env) ext17ok tabOk in_425 (okC_mono x1 _ _ o0) o1
 refine (law_call (S:=seat) (R_soundX (S:=seat) (E:=env) rfl allOk extOk) c1 (vals:=#[v0,v1]) (L2.cons (relA.mono e1 a0) (L2.cons a1 L2.nil)) hR).mono fun e W' ⟨he,bel⟩=>?_
 subst he
 exact ⟨_,rfl,_,_,_,[],_,[],hW',trodAll_mk1 (shut_bool Tryz.underlying4 _),(trodAll_cons_mk (Below.trod laidOut (by kernel_rfl) (of_decide_eq_true (by kernel_rfl)) h0 bel lt0) (trodAll_cons_mk (Below.trod laidOut (by kernel_rfl) (of_decide_eq_true (by kernel_rfl)) h1 bel lt1) trodAll_mk0)),rfl,bel.frame _,fun h=>by cases h⟩
theorem over:Rows.playEndsRow.holds Tryz.pinned (OpenSpec.ofChange Rows.playEndsSpec) :=
 OpenClaim.holds_of_wide 5 Tryz.f5 rfl rfl rfl rfl rfl rfl rfl ⟨rfl,rfl,rfl,rfl,rfl⟩ rfl rfl rfl rfl rfl (by kernel_rfl) Tryz.func5 (by kernel_rfl)
  (of_decide_eq_true (by kernel_rfl)) (by unfold Func.isWrapper;first | (rw [if_pos (by decide +kernel)];kernel_rfl) | (rw [if_neg (by decide +kernel)];exact ⟨rfl,rfl⟩))
  (fun os started H enc _=>lifted os started H enc)
theorem proved:Rows.PlayEndsCardSaid :=
 Claim7.holds_tied_plain_at .later [] [.data, .data, .data, .data, .pinned] true (true, "13002eebc8ed8af3f8bed9544724ae5cf173fb17b4ca3f4061b822a2b14d4123") false
  over (fun _ h=>by cases h) (by kernel_rfl) (fun _ h=>by cases h) playEnds_row_tie rfl ⟨rfl,rfl⟩ (by kernel_rfl) rfl
  (fun f fn hf hfn=>by
   obtain rfl : f = 5 := Option.some.inj ((show Tryz.prog.funcNamed "jacquard/jacquardlaw17.PlayEnds" = some 5 by kernel_rfl).symm.trans hf) |>.symm
   obtain rfl:fn=Tryz.f5:=(Option.some.inj (Tryz.func5.symm.trans hfn)).symm
   exact ⟨by kernel_rfl,fun j t ht=>by
    rw [Tryz.params5] at ht
    have hm:t∈[22,3]:=by simpa using Array.mem_of_getElem? ht
    have hall:([22,3].all fun u=>!Tryz.prog.wantsStandIn u)=true:=by kernel_rfl
    exact (show Tryz.prog.wantsStandIn t=false by simpa using List.all_eq_true.1 hall t hm)⟩)
  (by kernel_rfl)
#print axioms proved
end Go.Proofs.YtlfhmbifgdhckaaGreatDoor.LPlayEnds

