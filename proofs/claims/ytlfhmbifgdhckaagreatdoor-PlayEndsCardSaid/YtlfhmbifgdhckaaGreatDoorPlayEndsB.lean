/- YtlfhmbifgdhckaaGreatDoorPlayEndsB: a part of the proof; no conditions of its own. -/
import Derived.KernelRfl
import Derived.Test.YtlfhmbifgdhckaaGreatDoorPlayEndsA
set_option linter.unusedVariables false
set_option linter.unusedSimpArgs false

namespace Jq
open Go
section
variable {E:Env}
theorem rdL {α:Type} {h:AHeap} {k:Nat} {l:Lcl} (hk:blk? h k=some ⟨true,0,l.cs⟩) {F:List Cell→Option α}:rdH h k 5 F=F l.cs:=rdH_ok hk rfl
theorem lcl_pc {α:Type} {l:Lcl} {f:Cell→Option α}:atK l.cs 0 f=f (.int .i64 l.pc):=rfl
theorem lcl_pc' {α:Type} {l:Lcl} {f:Cell→Option α}:atK l.cs (0+0) f=f (.int .i64 l.pc):=rfl
theorem lcl_setpc {l:Lcl} {v:Int}:l.cs.set 0 (.int .i64 v)=({ l with pc:=v }:Lcl).cs:=rfl
theorem lcl_setpc' {l:Lcl} {v:Int}:l.cs.set (0+0) (.int .i64 v)=({ l with pc:=v }:Lcl).cs:=rfl
theorem ins_kind {α:Type} {i:Ins} {f:Cell→Option α}:atK i.cs 0 f=f (.int .i64 i.kind):=rfl
theorem ins_reg {α:Type} {i:Ins} {f:Cell→Option α}:atK i.cs 1 f=f (.int .i64 i.reg):=rfl
theorem ins_loc {α:Type} {i:Ins} {f:Cell→Option α}:atK i.cs 2 f=f (.int .i64 i.loc):=rfl
theorem ins_op {α:Type} {i:Ins} {f:Cell→Option α}:atK i.cs 5 f=f (.int .i64 i.op):=rfl
theorem ins_n {α:Type} {i:Ins} {f:Cell→Option α}:atK i.cs 8 f=f (.int .i64 i.n):=rfl
theorem ins_a {i:Ins}:(i.cs.drop 3).take 2=i.a.cs:=rfl
theorem ins_b {i:Ins}:(i.cs.drop 6).take 2=i.b.cs:=rfl
theorem avOk_lcl (m:Nat) (l:Lcl):avOk m (.agg l.cs)=true:=by simp [avOk,AV.cells,Lcl.cs,idOk]
theorem normal_round (hE:q114_In E) {x:Cell} {code:List Ins} {h:AHeap} (hlen:code.length<4000000000000000000) (z:List Cell) (l:Lcl) (hx:SlAt (h++[some ⟨true,0,l.cs⟩]) x 9 (codeC code) code.length) :
  q114_F1 (R E) Lim E.glob (q114_s1 x h.length 5 0 z (h++[some ⟨true,0,l.cs⟩]))=match stepI code l with
   | some l'=>some (.normal,q114_s1 x h.length 5 0 z (h++[some ⟨true,0,l'.cs⟩]))
   | none=>if 0≤l.pc∧l.pc<code.length then (if z.length=5 then some (.ret,q114_x1_0 l.cs (h++[some ⟨true,0,l.cs⟩])) else none) else some (.exit 0,q114_x1_1 h.length 5 0 z (h++[some ⟨true,0,l.cs⟩])):=by
 have hb:∀l:Lcl,blk? (h++[some ⟨true,0,l.cs⟩]) h.length=some ⟨true,0,l.cs⟩:=fun l=>blk_new _ _
 rw [q114_r1,rdL (hb l),lcl_pc',asI_ok]
 by_cases h0:0≤l.pc
 ·rw [show decide (l.pc≥0)=true from decide_eq_true h0,scK_ok,rdL (hb l),lcl_pc',asI_ok,hx.len,bind_ok]
  dsimp only
  by_cases h1:l.pc<code.length
  ·obtain ⟨p,hp⟩:∃p:Nat,l.pc=(p:Int):=⟨l.pc.toNat,by omega⟩
   have hpl:p<code.length:=by omega
   have hq:code[p]? = some code[p]:=List.getElem?_eq_getElem hpl
   generalize code[p]=i at hq
   obtain ⟨off,cs',hG0,hle,hcs⟩:=hx.insG hq
   have hG:∀{α:Type} (G:Nat→List Cell→Option α),(idxSK 9 x l.pc fun k N o=>rdH (h++[some ⟨true,0,l.cs⟩]) k N fun l=>G o l)=G off cs':=by intro α G;rw [hp];exact hG0 G
   have hst:stepI code l=if i.kind=5 then
     some { (l.setR i.reg ((doV i.op (opV i.a l) (opV i.b l)).getD (opV i.a l))) with pc:=(l.setR i.reg ((doV i.op (opV i.a l) (opV i.b l)).getD (opV i.a l))).pc+1 }
    else if i.kind=6 then (if opV i.a l=opV i.b l then some { l with pc:=l.pc+min (max i.n 0) code.length+1 } else some { l with pc:=l.pc+1 }) else none:=by
    unfold stepI
    rw [if_pos h0,show l.pc.toNat=p by omega,hq]
   rw [hst,if_pos (decide_eq_true h1),rdL (hb l),lcl_pc',asI_ok,hG,if_pos hle,hcs,if_pos ⟨rfl,rfl,rfl⟩,if_pos (show 3+2≤i.cs.length by rw [Ins.len];omega),rdL (hb l),if_pos ⟨rfl,rfl⟩,ins_a,Value_R hE.c108,qh_ok,c1_ok,asI_ok,if_pos (show 6+2≤i.cs.length by rw [Ins.len];omega),rdL (hb l),if_pos ⟨rfl,rfl⟩,ins_b,Value_R hE.c108,qh_ok,c1_ok,asI_ok,ins_kind,asI_ok]
   by_cases k5:i.kind=5
   ·rw [if_pos (by rw [k5];rfl),if_pos k5,ins_op,asI_ok,Do_R hE.c125,c2_ok,asI_ok,asB_ok]
    cases hd:doV i.op (opV i.a l) (opV i.b l) with
    | some v =>
     have hpc:=l.setR_pc i.reg v
     rw [show (some v:Option Int).isSome=true from rfl,if_pos rfl,ins_reg,asI_ok,set_R hE.c124 _ _ (hb l),setBlk_last,c0_ok,rdL (hb _),lcl_pc',asI_ok,rdL (hb _),if_pos (by rw [Lcl.len];omega),lcl_setpc',putH_ok (hb _) rfl,setBlk_last]
     rw [show (some v:Option Int).getD 0=v from rfl,show (some v:Option Int).getD (opV i.a l)=v from rfl,hpc,g_wrap_i64 (x:=l.pc+1) (by omega) (by omega)]
    | none =>
     have hpc:=l.setR_pc i.reg (opV i.a l)
     rw [show (none:Option Int).isSome=false from rfl,if_neg (by simp),ins_reg,asI_ok,set_R hE.c124 _ _ (hb l),setBlk_last,c0_ok,rdL (hb _),lcl_pc',asI_ok,rdL (hb _),if_pos (by rw [Lcl.len];omega),lcl_setpc',putH_ok (hb _) rfl,setBlk_last]
     rw [show (none:Option Int).getD (opV i.a l)=opV i.a l from rfl,hpc,g_wrap_i64 (x:=l.pc+1) (by omega) (by omega)]
   ·rw [if_neg (by rw [beq_iff_eq];exact k5),if_neg k5]
    by_cases k6:i.kind=6
    ·rw [if_pos (by rw [k6];rfl),if_pos k6]
     by_cases hab:opV i.a l=opV i.b l
     ·have hv:(if (code.length:Int)<(if 0 > i.n then 0 else i.n) then (code.length:Int) else (if 0 > i.n then 0 else i.n))=min (max i.n 0) code.length:=by
       split<;>split at *<;>omega
      rw [if_pos (by rw [hab];exact beq_self_eq_true _),if_pos hab,rdL (hb l),lcl_pc',asI_ok,ins_n,asI_ok,hx.len]
      dsimp only
      rw [hv,rdL (hb l),if_pos (by rw [Lcl.len];omega),lcl_setpc',putH_ok (hb _) rfl,setBlk_last,rdL (hb _),lcl_pc',asI_ok,rdL (hb _),if_pos (by rw [Lcl.len];omega),lcl_setpc',putH_ok (hb _) rfl,setBlk_last]
      dsimp only
      rw [g_wrap_i64 (x:=l.pc+min (max i.n 0) code.length) (by omega) (by omega),g_wrap_i64 (x:=l.pc+min (max i.n 0) code.length+1) (by omega) (by omega)]
     ·rw [if_neg (by rw [beq_iff_eq];exact hab),if_neg hab,rdL (hb l),lcl_pc',asI_ok,rdL (hb l),if_pos (by rw [Lcl.len];omega),lcl_setpc',putH_ok (hb _) rfl,setBlk_last,g_wrap_i64 (x:=l.pc+1) (by omega) (by omega)]
    ·rw [if_neg (by rw [beq_iff_eq];exact k6),if_neg k6,rdL (hb l),if_pos ⟨rfl,rfl⟩]
     dsimp only
     rw [if_pos (show 0≤l.pc∧l.pc<code.length from ⟨h0,h1⟩)]
     by_cases hz:z.length=5
     ·rw [if_pos ⟨rfl,hz,rfl⟩,if_pos hz]
     ·rw [if_neg (fun q=>hz q.2.1),if_neg hz]
  ·have hst:stepI code l=none:=by
    unfold stepI
    rw [if_pos h0,List.getElem?_eq_none (by omega)]
   rw [hst,if_neg (by simpa using h1)]
   dsimp only
   rw [if_neg (fun q=>h1 q.2)]
 ·have hst:stepI code l=none:=by unfold stepI;rw [if_neg h0]
  rw [hst,show decide (l.pc≥0)=false from decide_eq_false h0,scK_ft,if_neg (by simp)]
  dsimp only
  rw [if_neg (fun q=>h0 q.1)]
theorem normal_R (hE:q114_In E) {x:Cell} {code:List Ins} {h:AHeap} (hlen:code.length<4000000000000000000) (hx:SlAt h x 9 (codeC code) code.length) (hlow:Low h.length x) (l:Lcl) :
  R E 114 [.c x,.agg l.cs] h=some ([.agg (normL code l).cs],h):=by
 refine R_intro hE.fn ?_
 have hx':∀l:Lcl,SlAt (h++[some ⟨true,0,l.cs⟩]) x 9 (codeC code) code.length:=fun l=>hx.keep hlow (Kp.app _ (Nat.le_refl _))
 have hb:∀l:Lcl,blk? (h++[some ⟨true,0,l.cs⟩]) h.length=some ⟨true,0,l.cs⟩:=fun l=>blk_new _ _
 have loop:∀(k:Nat) (l:Lcl),(0≤l.pc→(code.length:Int)≤l.pc+k)→(Lim (q114_F1 (R E) Lim E.glob) (q114_s1 x h.length 5 0 Lcl.zero.cs (h++[some ⟨true,0,l.cs⟩]))).bind (fun p=>q114_k3 (R E) Lim E.glob h p.1 p.2)=some ([.agg (nrm code k l).cs],h):=by
  intro k
  have stop:∀l:Lcl,stepI code l=none→(Lim (q114_F1 (R E) Lim E.glob) (q114_s1 x h.length 5 0 Lcl.zero.cs (h++[some ⟨true,0,l.cs⟩]))).bind (fun p=>q114_k3 (R E) Lim E.glob h p.1 p.2)=some ([.agg l.cs],h):=by
   intro l hs
   have hr:=normal_round hE hlen Lcl.zero.cs l (hx' l)
   rw [hs] at hr
   dsimp only at hr
   have fin:finish true h [.agg l.cs] (h++[some ⟨true,0,l.cs⟩])=some ([.agg l.cs],h):=finish_gc (Kp.app _ (Nat.le_refl _)) (by simp [avOk_lcl])
   split at hr
   ·rw [if_pos (show Lcl.zero.cs.length=5 from rfl)] at hr
    rw [Lim_ret hr,bind_ok,q114_e1_0,if_pos ⟨rfl,rfl⟩,fin]
   ·rw [Lim_exit hr,bind_ok,q114_e1_1,rdL (hb l),if_pos ⟨rfl,rfl⟩,if_pos ⟨rfl,rfl,rfl⟩,if_pos ⟨rfl,rfl⟩,fin]
  induction k with
  | zero =>
   intro l hk
   rw [nrm]
   refine stop l ?_
   cases hs:stepI code l with
   | none=>rfl
   | some l'=>have:=stepI_pc hs;have:=hk this.1;omega
  | succ k ih =>
   intro l hk
   rw [nrm]
   cases hs:stepI code l with
   | none=>exact stop l hs
   | some l' =>
    have hr:=normal_round hE hlen Lcl.zero.cs l (hx' l)
    rw [hs] at hr
    have h3:=stepI_pc hs
    have:=ih l' (fun _=>by have:=hk h3.1;omega)
    cases hL:Lim (q114_F1 (R E) Lim E.glob) (q114_s1 x h.length 5 0 Lcl.zero.cs (h++[some ⟨true,0,l'.cs⟩])) with
    | none=>rw [hL] at this;cases this
    | some p=>rw [Lim_next hr hL];rw [hL] at this;exact this
 have hc:AV.cells (.agg l.cs)=l.cs:=rfl
 rw [q114_eq,hc,Lcl.len]
 exact loop code.length l (fun _=>by omega)
structure PProg where
 locs:List Int
 init:List Int
 thr:List (List Ins)
def ProgAt (h:AHeap) (cs:List Cell) (P:PProg):Prop :=
 ∃a b c ts,cs=[a,b,c]∧(SlAt h a 1 (intC .u8 P.locs) P.locs.length∧Low h.length a)∧(SlAt h b 1 (intC .i64 P.init) P.init.length∧Low h.length b)∧(SlAt h c 1 ts P.thr.length∧Low h.length c) ∧
  ∀(t:Nat) (code:List Ins),P.thr[t]? = some code→∃x:Cell,ts[t]? = some x∧SlAt h x 9 (codeC code) code.length∧Low h.length x
theorem ProgAt.len {h:AHeap} {cs:List Cell} {P:PProg} (p:ProgAt h cs P):cs.length=3:=by
 obtain ⟨a,b,c,ts,rfl,_⟩:=p;rfl
theorem ProgAt.keep {h h':AHeap} {cs:List Cell} {P:PProg} (p:ProgAt h cs P) (hk:Kp h.length h h'):ProgAt h' cs P:=by
 obtain ⟨a,b,c,ts,e,⟨a1,a2⟩,⟨b1,b2⟩,⟨c1,c2⟩,ht⟩:=p
 exact ⟨a,b,c,ts,e,⟨a1.keep a2 hk,Low_mono hk.1 a2⟩,⟨b1.keep b2 hk,Low_mono hk.1 b2⟩,⟨c1.keep c2 hk,Low_mono hk.1 c2⟩,fun t code h1=>by
  obtain ⟨x,x1,x2,x3⟩:=ht t code h1
  exact ⟨x,x1,x2.keep x3 hk,Low_mono hk.1 x3⟩⟩
def PProg.fits (P:PProg):Prop:=P.thr.length<4000000000000000000∧∀code∈P.thr,code.length<4000000000000000000
def PProg.code (P:PProg) (t:Int):List Ins:=if 0≤t then P.thr.getD t.toNat [] else []
theorem PProg.code_fits {P:PProg} (hf:P.fits) (t:Int):(P.code t).length<4000000000000000000:=by
 unfold PProg.code
 split
 ·rw [List.getD_eq_getElem?_getD]
  cases h:P.thr[t.toNat]? with
  | none=>show (0:Nat)<_;omega
  | some c=>exact hf.2 c (List.mem_of_getElem? h)
 ·show (0:Nat)<_;omega
theorem thread_R (hE:q113_In E) {cs:List Cell} {P:PProg} {h:AHeap} (p:ProgAt h cs P) (t:Int) :
  ∃x,R E 113 [.agg cs,.c (.int .i64 t)] h=some ([.c x],h)∧SlAt h x 9 (codeC (P.code t)) (P.code t).length∧Low h.length x:=by
 obtain ⟨a,b,c,ts,rfl,_,_,⟨hc,hcl⟩,ht⟩:=p
 have a2:∀{α:Type} (f:Cell→Option α),atK [a,b,c] 2 f=f c:=fun _=>rfl
 by_cases h0:0≤t
 ·by_cases h1:t.toNat<P.thr.length
  ·have hg:P.thr[t.toNat]? = some P.thr[t.toNat]:=List.getElem?_eq_getElem h1
   generalize P.thr[t.toNat]=code at hg
   obtain ⟨x,x1,x2,x3⟩:=ht _ _ hg
   have hcode:P.code t=code:=by unfold PProg.code;rw [if_pos h0,List.getD_eq_getElem?_getD,hg];rfl
   rw [hcode]
   refine ⟨x,R_intro hE.fn ?_,x2,x3⟩
   have hti:t=((t.toNat:Nat):Int):=by omega
   rw [q113_eq,show decide (t<0)=false from decide_eq_false (by omega),scK_ok,a2,hc.len,show decide (t≥(P.thr.length:Int))=false from decide_eq_false (by omega),bind_ok]
   dsimp only
   rw [if_neg (by simp),a2,hc.getAt t.toNat hti h1 x1]
  ·have hcode:P.code t=[]:=by unfold PProg.code;rw [if_pos h0,List.getD_eq_getElem?_getD,List.getElem?_eq_none (by omega)];rfl
   rw [hcode]
   refine ⟨.nils,R_intro hE.fn ?_,⟨rfl,.inl ⟨rfl,rfl⟩⟩,trivial⟩
   rw [q113_eq,show decide (t<0)=false from decide_eq_false (by omega),scK_ok,a2,hc.len,show decide (t≥(P.thr.length:Int))=true from decide_eq_true (by omega),bind_ok]
   dsimp only
   rw [if_pos rfl]
 ·have hcode:P.code t=[]:=by unfold PProg.code;rw [if_neg h0]
  rw [hcode]
  refine ⟨.nils,R_intro hE.fn ?_,⟨rfl,.inl ⟨rfl,rfl⟩⟩,trivial⟩
  rw [q113_eq,show decide (t<0)=true from decide_eq_true (by omega),scK_tf,if_pos rfl]
def startL (P:PProg) (t:Int):Lcl:=normL (P.code t) Lcl.zero
theorem PStart_R (hE:q94_In E) {cs:List Cell} {P:PProg} {h:AHeap} (hf:P.fits) (p:ProgAt h cs P) (t:Int) :
  R E 94 [.agg cs,.c (.int .i64 t)] h=some ([.agg (startL P t).cs],h):=by
 refine R_intro hE.fn ?_
 obtain ⟨x,hr,hx,hl⟩:=thread_R hE.c113 p t
 rw [q94_eq,if_pos ⟨rfl,p.len⟩,hr,c1_ok,asC_ok,zero5,normal_R hE.c114 (PProg.code_fits hf t) hx hl,c1_ok,asA_ok,if_pos ⟨rfl,rfl,rfl⟩,if_pos ⟨rfl,rfl⟩]
 rfl
def nextI (code:List Ins) (l:Lcl):Option Ins :=
 if 0≤l.pc then match code[l.pc.toNat]? with
  | none=>none
  | some i=>if 1≤i.kind∧i.kind≤4 then some i else none
 else none
theorem nextI_kind {code:List Ins} {l:Lcl} {i:Ins} (h:nextI code l=some i):0≤l.pc∧l.pc<code.length∧code[l.pc.toNat]? = some i∧1≤i.kind∧i.kind≤4:=by
 unfold nextI at h
 split at h
 ·rename_i h0
  cases hi:code[l.pc.toNat]? with
  | none=>rw [hi] at h;cases h
  | some j =>
   rw [hi] at h
   simp only at h
   split at h
   ·cases h
    have:=getI_lt hi
    rename_i hk
    exact ⟨h0,by omega,rfl,hk⟩
   ·cases h
 ·cases h
theorem PNext_R (hE:q105_In E) {cs:List Cell} {P:PProg} {h:AHeap} (p:ProgAt h cs P) (t:Int) (l:Lcl) :
  R E 105 [.agg cs,.c (.int .i64 t),.agg l.cs] h=some ([.agg ((nextI (P.code t) l).getD Ins.zero).cs,.c (.bool (nextI (P.code t) l).isSome)],h):=by
 refine R_intro hE.fn ?_
 obtain ⟨x,hr,hx,hlo⟩:=thread_R hE.c113 p t
 generalize P.code t=code at *
 rw [q105_eq,if_pos ⟨rfl,p.len⟩,hr,c1_ok,asC_ok,lcl_pc,asI_ok]
 by_cases h0:0≤l.pc
 ·rw [show decide (l.pc<0)=false from decide_eq_false (by omega),scK_ok,lcl_pc,asI_ok,hx.len,bind_ok]
  dsimp only
  by_cases h1:l.pc<code.length
  ·obtain ⟨q,hq⟩:∃q:Nat,l.pc=(q:Int):=⟨l.pc.toNat,by omega⟩
   have hql:q<code.length:=by omega
   have hg:code[q]? = some code[q]:=List.getElem?_eq_getElem hql
   generalize code[q]=i at hg
   obtain ⟨off,cs',hG0,hle,hcs⟩:=hx.insG hg
   have hG:∀{α:Type} (G:Nat→List Cell→Option α),(idxSK 9 x l.pc fun k N o=>rdH h k N fun l=>G o l)=G off cs':=by intro α G;rw [hq];exact hG0 G
   have hn:nextI code l=if 1≤i.kind∧i.kind≤4 then some i else none:=by
    unfold nextI
    rw [if_pos h0,show l.pc.toNat=q by omega,hg]
   rw [show decide (l.pc≥(code.length:Int))=false from decide_eq_false (by omega),if_neg (by simp),lcl_pc,asI_ok,hG,if_pos hle,hcs,if_pos ⟨rfl,rfl,rfl⟩,ins_kind,asI_ok,ins_kind,asI_ok,scK_or,hn]
   by_cases hk:1≤i.kind∧i.kind≤4
   ·rw [if_neg (by simp;omega),if_pos hk,if_pos ⟨rfl,rfl⟩,if_pos ⟨rfl,rfl,rfl⟩,if_pos ⟨rfl,rfl⟩];rfl
   ·rw [if_pos (by simp;omega),if_neg hk,if_pos ⟨rfl,rfl,rfl⟩,if_pos ⟨rfl,rfl⟩];rfl
  ·have hn:nextI code l=none:=by unfold nextI;rw [if_pos h0,List.getElem?_eq_none (by omega)]
   rw [show decide (l.pc≥(code.length:Int))=true from decide_eq_true (by omega),if_pos rfl,hn,if_pos ⟨rfl,rfl,rfl⟩,if_pos ⟨rfl,rfl⟩];rfl
 ·have hn:nextI code l=none:=by unfold nextI;rw [if_neg h0]
  rw [show decide (l.pc<0)=true from decide_eq_true (by omega),scK_tf,if_pos rfl,hn,if_pos ⟨rfl,rfl,rfl⟩,if_pos ⟨rfl,rfl⟩];rfl
def afterL (code:List Ins) (l:Lcl) (v:Int):Lcl:=match nextI code l with
 | none=>l
 | some i=>normL code { (if i.kind=2∨i.kind=4 then l.setR i.reg v else l) with pc:=l.pc+1 }
theorem PAfter_R (hE:q106_In E) {cs:List Cell} {P:PProg} {h:AHeap} (hf:P.fits) (p:ProgAt h cs P) (t:Int) (l:Lcl) (v:Int) :
  R E 106 [.agg cs,.c (.int .i64 t),.agg l.cs,.c (.int .i64 v)] h=some ([.agg (afterL (P.code t) l v).cs],h):=by
 refine R_intro hE.fn ?_
 have hK:∀b,Kp h.length h (h++[some b]):=fun b=>Kp.app _ (Nat.le_refl _)
 have p':∀b,ProgAt (h++[some b]) cs P:=fun b=>p.keep (hK b)
 have hb:∀l:Lcl,blk? (h++[some ⟨true,0,l.cs⟩]) h.length=some ⟨true,0,l.cs⟩:=fun l=>blk_new _ _
 have fin:∀(m l:Lcl),finish true h [.agg m.cs] (h++[some ⟨true,0,l.cs⟩])=some ([.agg m.cs],h):=fun m l=>finish_gc (hK _) (by simp [avOk_lcl])
 have hc:AV.cells (.agg l.cs)=l.cs:=rfl
 have hfit:=PProg.code_fits hf t
 rw [q106_eq,if_pos ⟨rfl,p.len⟩,hc,Lcl.len,rdL (hb l),if_pos ⟨rfl,rfl⟩,PNext_R hE.c105 (p' _),c2_ok,asA_ok,asB_ok,if_pos ⟨rfl,rfl,rfl⟩]
 unfold afterL
 cases hn:nextI (P.code t) l with
 | none =>
  rw [show (none:Option Ins).isSome=false from rfl,if_pos (show (!false)=true from rfl),rdL (hb l),if_pos ⟨rfl,rfl⟩,if_pos ⟨rfl,rfl,rfl⟩,if_pos ⟨rfl,rfl⟩,fin]
 | some i =>
  obtain ⟨n0,n1,n2,n3,n4⟩:=nextI_kind hn
  rw [show (some i:Option Ins).isSome=true from rfl,if_neg (by simp),show (some i:Option Ins).getD Ins.zero=i from rfl,ins_kind,asI_ok,ins_kind,asI_ok,scK_or]
  by_cases hk:i.kind=2∨i.kind=4
  ·have hpc:=l.setR_pc i.reg v
   obtain ⟨x,hr,hx,hlo⟩:=thread_R hE.c113 (p' ⟨true,0,({ (l.setR i.reg v) with pc:=l.pc+1 }:Lcl).cs⟩) t
   rw [if_pos (by rw [Bool.or_eq_true,beq_iff_eq,beq_iff_eq];exact hk),ins_reg,asI_ok,set_R hE.c124 _ _ (hb l),setBlk_last,c0_ok,rdL (hb _),lcl_pc,asI_ok,rdL (hb _),if_pos (by rw [Lcl.len];omega),lcl_setpc,putH_ok (hb _) rfl,setBlk_last,if_pos ⟨rfl,p.len⟩,hpc,g_wrap_i64 (x:=l.pc+1) (by omega) (by omega),hr,qh_ok,c1_ok,asC_ok,rdL (hb _),if_pos ⟨rfl,rfl⟩,normal_R hE.c114 hfit hx hlo,qh_ok,c1_ok,asA_ok,if_pos ⟨rfl,rfl,rfl⟩,if_pos ⟨rfl,rfl⟩,fin]
   dsimp only
   rw [if_pos hk]
  ·obtain ⟨x,hr,hx,hlo⟩:=thread_R hE.c113 (p' ⟨true,0,({ l with pc:=l.pc+1 }:Lcl).cs⟩) t
   rw [if_neg (by rw [Bool.or_eq_true,beq_iff_eq,beq_iff_eq];exact hk),rdL (hb _),lcl_pc,asI_ok,rdL (hb _),if_pos (by rw [Lcl.len];omega),lcl_setpc,putH_ok (hb _) rfl,setBlk_last,if_pos ⟨rfl,p.len⟩,g_wrap_i64 (x:=l.pc+1) (by omega) (by omega),hr,qh_ok,c1_ok,asC_ok,rdL (hb _),if_pos ⟨rfl,rfl⟩,normal_R hE.c114 hfit hx hlo,qh_ok,c1_ok,asA_ok,if_pos ⟨rfl,rfl,rfl⟩,if_pos ⟨rfl,rfl⟩,fin]
   dsimp only
   rw [if_neg hk]
end
end Jq

namespace Jq
open Go
variable (C:CallF) (L:LoopF) (G:Glo)
set_option maxRecDepth 100000 in
theorem q93_eq (a0 a1 a2:Int) (h0:AHeap):q93.body C L G [(.c (.int .i64 a0)),(.c (.int .i64 a1)),(.c (.int .i64 a2))] h0=if (a0==1)=true then let v_1:Int:=(G.wrap .u64 ((G.wrap .u64 a1)+(G.wrap .u64 a2)));some ([(.c (.int .i64 (G.wrap .i64 v_1))),(.c (.bool true))],h0) else if (a0==2)=true then let v_2:Int:=(G.wrap .u64 ((G.wrap .u64 a1) - (G.wrap .u64 a2)));some ([(.c (.int .i64 (G.wrap .i64 v_2))),(.c (.bool true))],h0) else if (a0==3)=true then let v_3:Int:=(G.wrap .u64 ((G.wrap .u64 a1)*(G.wrap .u64 a2)));some ([(.c (.int .i64 (G.wrap .i64 v_3))),(.c (.bool true))],h0) else if (a0==4)=true then some ([(.c (.int .i64 (G.band .i64 a1 a2))),(.c (.bool true))],h0) else if (a0==5)=true then some ([(.c (.int .i64 (G.bor .i64 a1 a2))),(.c (.bool true))],h0) else if (a0==6)=true then some ([(.c (.int .i64 (G.bxor .i64 a1 a2))),(.c (.bool true))],h0) else if (a0==7)=true then if (G.rem .u64 (G.wrap .u64 a2) 64)<0 then none else let v_4:Int:=(G.shl .u64 (G.wrap .u64 a1) (G.rem .u64 (G.wrap .u64 a2) 64));some ([(.c (.int .i64 (G.wrap .i64 v_4))),(.c (.bool true))],h0) else if (a0==8)=true then if (G.rem .u64 (G.wrap .u64 a2) 64)<0 then none else let v_5:Int:=(G.shr .i64 a1 (G.rem .u64 (G.wrap .u64 a2) 64));some ([(.c (.int .i64 v_5)),(.c (.bool true))],h0) else if (a0==9)=true then if (a1==a2)=true then some ([(.c (.int .i64 1)),(.c (.bool true))],h0) else some ([(.c (.int .i64 0)),(.c (.bool true))],h0) else if (a0==10)=true then if (a1 != a2)=true then some ([(.c (.int .i64 1)),(.c (.bool true))],h0) else some ([(.c (.int .i64 0)),(.c (.bool true))],h0) else if (a0==11)=true then if (decide (a1<a2))=true then some ([(.c (.int .i64 1)),(.c (.bool true))],h0) else some ([(.c (.int .i64 0)),(.c (.bool true))],h0) else some ([(.c (.int .i64 0)),(.c (.bool false))],h0):=by kernel_rfl
def q121_k2 (C:CallF) (L:LoopF) (G:Glo) (h0:AHeap):Ex→St→Option (List AV × AHeap):=kSeq (fun st=>q121_p1.exec C L G st (q121.fin G h0)) (q121.fin G h0)
def q121_k3 (C:CallF) (L:LoopF) (G:Glo) (h0:AHeap):Ex→St→Option (List AV × AHeap):=kBlk 0 (q121_k2 C L G h0)
def q121_s1 (a4:Int) (s0 s1:List Cell) (h:AHeap):St:=⟨tops 1 (.loc 0 0 :: tops 1 (.loc 1 0 :: .v (.c (.int .i64 a4)) :: tops 93 [])),[some s0,some s1],h⟩
def q121_F1 (C:CallF) (L:LoopF) (G:Glo):St→Option (Ex × St):=roundF (fun st f=>q121_b1.exec C L G st f) [1,3,4] [0,1] [(1,[1,3],[0,1])]
def q121_x1_1 (s0 s1:List Cell) (h:AHeap):St:=⟨tops 1 (.loc 0 0 :: tops 1 (.loc 1 0 :: tops 94 [])),[some s0,some s1],h⟩
def q121_k4 (C:CallF) (L:LoopF) (G:Glo) (h0:AHeap):Ex→St→Option (List AV × AHeap):=kSeq (fun st=>q121_p2.exec C L G st (q121.fin G h0)) (q121.fin G h0)
def q121_k5 (C:CallF) (L:LoopF) (G:Glo) (h0:AHeap):Ex→St→Option (List AV × AHeap):=kBlk 2 (q121_k4 C L G h0)
def q121_s3 (a5:Int) (s0 s1:List Cell) (h:AHeap):St:=⟨tops 1 (.loc 0 0 :: tops 1 (.loc 1 0 :: tops 1 (.v (.c (.int .i64 a5)) :: tops 92 []))),[some s0,some s1],h⟩
def q121_F3 (C:CallF) (L:LoopF) (G:Glo):St→Option (Ex × St):=roundF (fun st f=>q121_b3.exec C L G st f) [1,3,5] [0,1] [(3,[1,3],[0,1])]
def q121_k6 (C:CallF) (L:LoopF) (G:Glo):Ex→St→Option (Ex × St):=kSeq (fun st=>q121_p3.exec C L G st (kLoop [1,3,5] [0,1] [(3,[1,3],[0,1])])) (kLoop [1,3,5] [0,1] [(3,[1,3],[0,1])])
def q121_k7 (C:CallF) (L:LoopF) (G:Glo):Ex→St→Option (Ex × St):=kBlk 3 (q121_k6 C L G)
def q121_k8 (C:CallF) (L:LoopF) (G:Glo):Ex→St→Option (Ex × St):=kBlk 4 (q121_k7 C L G)
def q121_s2 (a5 a6:Int) (s0 s1:List Cell) (h:AHeap):St:=⟨tops 1 (.loc 0 0 :: tops 1 (.loc 1 0 :: tops 1 (.v (.c (.int .i64 a5)) :: .v (.c (.int .i64 a6)) :: tops 91 []))),[some s0,some s1],h⟩
def q121_F2 (C:CallF) (L:LoopF) (G:Glo):St→Option (Ex × St):=roundF (fun st f=>q121_b2.exec C L G st f) [1,3,5,6] [0,1] [(5,[1,3,5],[0,1])]
def q121_x2_5 (a5:Int) (s0 s1:List Cell) (h:AHeap):St:=⟨tops 1 (.loc 0 0 :: tops 1 (.loc 1 0 :: tops 1 (.v (.c (.int .i64 a5)) :: tops 92 []))),[some s0,some s1],h⟩
def q121_x3_3 (s0 s1:List Cell) (h:AHeap):St:=⟨tops 1 (.loc 0 0 :: tops 1 (.loc 1 0 :: tops 94 [])),[some s0,some s1],h⟩
def q121_k9 (C:CallF) (L:LoopF) (G:Glo) (h0:AHeap):Ex→St→Option (List AV × AHeap):=kSeq (fun st=>q121_p4.exec C L G st (q121.fin G h0)) (q121.fin G h0)
def q121_k10 (C:CallF) (L:LoopF) (G:Glo) (h0:AHeap):Ex→St→Option (List AV × AHeap):=kBlk 6 (q121_k9 C L G h0)
def q121_s5 (a7:Int) (s0 s1:List Cell) (h:AHeap):St:=⟨tops 1 (.loc 0 0 :: tops 1 (.loc 1 0 :: tops 3 (.v (.c (.int .i64 a7)) :: tops 90 []))),[some s0,some s1],h⟩
def q121_F5 (C:CallF) (L:LoopF) (G:Glo):St→Option (Ex × St):=roundF (fun st f=>q121_b5.exec C L G st f) [1,3,7] [0,1] [(7,[3],[1])]
def q121_k11 (C:CallF) (L:LoopF) (G:Glo):Ex→St→Option (Ex × St):=kSeq (fun st=>q121_p5.exec C L G st (kLoop [1,3,7] [0,1] [(7,[3],[1])])) (kLoop [1,3,7] [0,1] [(7,[3],[1])])
def q121_k12 (C:CallF) (L:LoopF) (G:Glo):Ex→St→Option (Ex × St):=kBlk 7 (q121_k11 C L G)
def q121_k13 (C:CallF) (L:LoopF) (G:Glo):Ex→St→Option (Ex × St):=kBlk 8 (q121_k12 C L G)
def q121_s4 (a7 a8:Int) (s0 s1:List Cell) (h:AHeap):St:=⟨tops 1 (.loc 0 0 :: tops 1 (.loc 1 0 :: tops 3 (.v (.c (.int .i64 a7)) :: .v (.c (.int .i64 a8)) :: tops 89 []))),[some s0,some s1],h⟩
def q121_F4 (C:CallF) (L:LoopF) (G:Glo):St→Option (Ex × St):=roundF (fun st f=>q121_b4.exec C L G st f) [1,3,7,8] [0,1] [(9,[1,3,7],[0,1])]
def q121_x4_9 (a7:Int) (s0 s1:List Cell) (h:AHeap):St:=⟨tops 1 (.loc 0 0 :: tops 1 (.loc 1 0 :: tops 3 (.v (.c (.int .i64 a7)) :: tops 90 []))),[some s0,some s1],h⟩
def q121_x5_7 (s1:List Cell) (h:AHeap):St:=⟨tops 3 (.loc 1 0 :: tops 94 []),[none,some s1],h⟩
def q121_k14 (C:CallF) (L:LoopF) (G:Glo) (h0:AHeap):Ex→St→Option (List AV × AHeap):=kSeq (fun st=>q121_p6.exec C L G st (q121.fin G h0)) (q121.fin G h0)
def q121_k15 (C:CallF) (L:LoopF) (G:Glo) (h0:AHeap):Ex→St→Option (List AV × AHeap):=kBlk 10 (q121_k14 C L G h0)
def q121_s6 (x9:Cell) (a10:Int) (s1:List Cell) (h:AHeap):St:=⟨tops 3 (.loc 1 0 :: tops 5 (.v (.c x9) :: .v (.c (.int .i32 a10)) :: tops 87 [])),[none,some s1],h⟩
def q121_F6 (C:CallF) (L:LoopF) (G:Glo):St→Option (Ex × St):=roundF (fun st f=>q121_b6.exec C L G st f) [3,9,10] [1] [(11,[9],[])]
def q121_x6_11 (x9:Cell) (h:AHeap):St:=⟨tops 9 (.v (.c x9) :: tops 88 []),[none,none],h⟩
theorem q121_r1 (a4:Int) (s0 s1:List Cell) (h:AHeap):q121_F1 C L G (q121_s1 a4 s0 s1 h)=atK s0 1 fun q_1=>lenK q_1 fun n_2=>if (decide (a4<n_2))=true then atK s0 1 fun q_3=>idxSK 2 q_3 a4 fun k_4 N_5 o_6=>rdH h k_4 N_5 fun l_7=>atK l_7 (o_6+0) fun q_8=>asI .i64 (.c q_8) fun n_9=>if 0≤(G.band .i64 n_9 255)∧(G.band .i64 n_9 255)<((256:Nat):Int) then if (0+((Int.toNat (G.band .i64 n_9 255))*1))<s1.length then some (.normal,(q121_s1 (G.wrap .i64 (a4+1)) s0 (s1.set (0+((Int.toNat (G.band .i64 n_9 255))*1)) (.bool true)) h)) else none else none else some ((.exit 0),(q121_x1_1 s0 s1 h)):=by kernel_rfl
theorem q121_r2 (a5 a6:Int) (s0 s1:List Cell) (h:AHeap):q121_F2 C L G (q121_s2 a5 a6 s0 s1 h)=atK s0 2 fun q_12=>idxSK 1 q_12 a5 fun k_13 N_14 o_15=>rdH h k_13 N_14 fun l_16=>atK l_16 o_15 fun q_17=>lenK q_17 fun n_18=>if (decide (a6<n_18))=true then atK s0 2 fun q_19=>idxSK 1 q_19 a5 fun k_20 N_21 o_22=>rdH h k_20 N_21 fun l_23=>atK l_23 o_22 fun q_24=>idxSK 9 q_24 a6 fun k_25 N_26 o_27=>rdH h k_25 N_26 fun l_28=>atK l_28 (o_27+2) fun q_29=>asI .i64 (.c q_29) fun n_30=>if 0≤(G.band .i64 n_30 255)∧(G.band .i64 n_30 255)<((256:Nat):Int) then if (0+((Int.toNat (G.band .i64 n_30 255))*1))<s1.length then some (.normal,(q121_s2 a5 (G.wrap .i64 (a6+1)) s0 (s1.set (0+((Int.toNat (G.band .i64 n_30 255))*1)) (.bool true)) h)) else none else none else some ((.exit 4),(q121_x2_5 a5 s0 s1 h)):=by kernel_rfl
theorem q121_e2_5 (a5:Int) (s0 s1:List Cell) (h:AHeap):(q121_k8 C L G) (.exit 4) (q121_x2_5 a5 s0 s1 h)=some (.normal,(q121_s3 (G.wrap .i64 (a5+1)) s0 s1 h)):=by kernel_rfl
theorem q121_r3 (a5:Int) (s0 s1:List Cell) (h:AHeap):q121_F3 C L G (q121_s3 a5 s0 s1 h)=atK s0 2 fun q_10=>lenK q_10 fun n_11=>if (decide (a5<n_11))=true then (L (q121_F2 C L G) (q121_s2 a5 0 s0 s1 h)).bind fun p_31=>(q121_k8 C L G) p_31.1 p_31.2 else some ((.exit 2),(q121_x3_3 s0 s1 h)):=by kernel_rfl
theorem q121_r4 (a7 a8:Int) (s0 s1:List Cell) (h:AHeap):q121_F4 C L G (q121_s4 a7 a8 s0 s1 h)=atK s0 4 fun q_34=>idxSK 1 q_34 a7 fun k_35 N_36 o_37=>rdH h k_35 N_36 fun l_38=>atK l_38 o_37 fun q_39=>lenK q_39 fun n_40=>if (decide (a8<n_40))=true then atK s0 4 fun q_41=>idxSK 1 q_41 a7 fun k_42 N_43 o_44=>rdH h k_42 N_43 fun l_45=>atK l_45 o_44 fun q_46=>idxSK 4 q_46 a8 fun k_47 N_48 o_49=>rdH h k_47 N_48 fun l_50=>atK l_50 (o_49+2) fun q_51=>asI .i64 (.c q_51) fun n_52=>if 0≤(G.band .i64 n_52 255)∧(G.band .i64 n_52 255)<((256:Nat):Int) then if (0+((Int.toNat (G.band .i64 n_52 255))*1))<s1.length then some (.normal,(q121_s4 a7 (G.wrap .i64 (a8+1)) s0 (s1.set (0+((Int.toNat (G.band .i64 n_52 255))*1)) (.bool true)) h)) else none else none else some ((.exit 8),(q121_x4_9 a7 s0 s1 h)):=by kernel_rfl
theorem q121_e4_9 (a7:Int) (s0 s1:List Cell) (h:AHeap):(q121_k13 C L G) (.exit 8) (q121_x4_9 a7 s0 s1 h)=some (.normal,(q121_s5 (G.wrap .i64 (a7+1)) s0 s1 h)):=by kernel_rfl
theorem q121_r5 (a7:Int) (s0 s1:List Cell) (h:AHeap):q121_F5 C L G (q121_s5 a7 s0 s1 h)=atK s0 4 fun q_32=>lenK q_32 fun n_33=>if (decide (a7<n_33))=true then (L (q121_F4 C L G) (q121_s4 a7 0 s0 s1 h)).bind fun p_53=>(q121_k13 C L G) p_53.1 p_53.2 else some ((.exit 6),(q121_x5_7 s1 h)):=by kernel_rfl
theorem q121_r6 (x9:Cell) (a10:Int) (s1:List Cell) (h:AHeap):q121_F6 C L G (q121_s6 x9 a10 s1 h)=if (decide (a10≤122))=true then if 0≤a10∧a10<((256:Nat):Int) then atK s1 (0+((Int.toNat a10)*1)) fun q_54=>asB (.c q_54) fun b_55=>if b_55=true then if (splice [Cell.int .u8 0] 0 [(.int .u8 (G.wrap .u8 a10))]).length=1*1 then appK 1 1 x9 (splice [Cell.int .u8 0] 0 [(.int .u8 (G.wrap .u8 a10))]) h fun x_56 h_57=>some (.normal,(q121_s6 x_56 (G.wrap .i32 (a10+1)) s1 h_57)) else none else some (.normal,(q121_s6 x9 (G.wrap .i32 (a10+1)) s1 h)) else none else some ((.exit 10),(q121_x6_11 x9 h)):=by kernel_rfl
theorem q121_e6_11 (h0:AHeap) (x9:Cell) (h:AHeap):(q121_k15 C L G h0) (.exit 10) (q121_x6_11 x9 h)=some ([(.c x9)],h):=by kernel_rfl
theorem q121_e5_7 (h0:AHeap) (s1:List Cell) (h:AHeap):(q121_k10 C L G h0) (.exit 6) (q121_x5_7 s1 h)=(L (q121_F6 C L G) (q121_s6 .nils 97 s1 h)).bind fun p_58=>(q121_k15 C L G h0) p_58.1 p_58.2:=by kernel_rfl
theorem q121_e3_3 (h0:AHeap) (s0 s1:List Cell) (h:AHeap):(q121_k5 C L G h0) (.exit 2) (q121_x3_3 s0 s1 h)=(L (q121_F5 C L G) (q121_s5 0 s0 s1 h)).bind fun p_59=>(q121_k10 C L G h0) p_59.1 p_59.2:=by kernel_rfl
theorem q121_e1_1 (h0:AHeap) (s0 s1:List Cell) (h:AHeap):(q121_k3 C L G h0) (.exit 0) (q121_x1_1 s0 s1 h)=(L (q121_F3 C L G) (q121_s3 0 s0 s1 h)).bind fun p_60=>(q121_k5 C L G h0) p_60.1 p_60.2:=by kernel_rfl
set_option maxRecDepth 100000 in
theorem q121_eq (l0:List Cell) (h0:AHeap):q121.body C L G [(.agg l0)] h0=(L (q121_F1 C L G) (q121_s1 0 l0 (List.replicate 256 (Cell.bool false)) h0)).bind fun p_61=>(q121_k3 C L G h0) p_61.1 p_61.2:=by kernel_rfl
end Jq

namespace Jq
open Go
theorem wrap_res {x y:Int} (h:x % 18446744073709551616=y % 18446744073709551616):IntKind.wrap .i64 x=IntKind.wrap .i64 y:=by
 simp only [IntKind.wrap,IntKind.signed,IntKind.bits,Bool.true_and]
 split
 ·rename_i h1
  have h1:=of_decide_eq_true h1
  split
  ·omega
  ·rename_i h2;exact absurd (decide_eq_true (by omega)) h2
 ·rename_i h1
  split
  ·rename_i h2
   have h2:=of_decide_eq_true h2
   exact absurd (decide_eq_true (by omega)) h1
  ·omega
theorem u64_mod (x:Int):IntKind.wrap .u64 x=x % 18446744073709551616:=by
 simp only [IntKind.wrap,IntKind.signed,IntKind.bits,Bool.false_and,Bool.false_eq_true,if_false];rfl
structure GoodI (len:Nat) (i:Ins):Prop where
 kind:1≤i.kind∧i.kind≤6
 reg:i.kind=2∨i.kind=4∨i.kind=5→0≤i.reg∧i.reg<4
 op:i.kind=5→0≤i.op∧i.op≤11
 n:i.kind=6→0≤i.n∧i.n≤len
def GoodC (code:List Ins):Prop:=∀i∈code,GoodI code.length i
section
variable {E:Env}
theorem refValue_R (hE:q92_In E) (o:Opd) (l:Lcl) (h:AHeap):R E 92 [.agg o.cs,.agg l.cs] h=some ([.c (.int .i64 (opV o l))],h):=by
 refine R_intro hE.fn ?_
 have a0:∀{α:Type} (f:Cell→Option α),atK o.cs 0 f=f (.int .i64 o.reg):=fun _=>rfl
 have a1:∀{α:Type} (f:Cell→Option α),atK o.cs 1 f=f (.int .i64 o.val):=fun _=>rfl
 unfold opV
 rw [q92_eq]
 simp only [a0,a1,asI_ok,scK_and]
 by_cases h1:0≤o.reg∧o.reg<4
 ·rw [if_pos (by simp;omega),if_pos ⟨h1.1,h1.2⟩,if_pos h1,atK_ok (lcl_get h1.1 h1.2),asI_ok]
 ·rw [if_neg (by simp;omega),if_neg h1]
theorem refDo_R (hE:q93_In E) (op a b:Int) (h:AHeap):R E 93 [.c (.int .i64 op),.c (.int .i64 a),.c (.int .i64 b)] h=some ([.c (.int .i64 ((doV op a b).getD 0)),.c (.bool (doV op a b).isSome)],h):=by
 refine R_intro hE.fn ?_
 rw [q93_eq]
 have hr:∀x:Int,0≤E.glob.rem .u64 (E.glob.wrap .u64 x) 64:=by
  intro x
  show 0≤Int.tmod (IntKind.wrap .u64 x) 64
  rw [u64_mod,Int.tmod_eq_emod_of_nonneg (Int.emod_nonneg _ (by omega))]
  exact Int.emod_nonneg _ (by omega)
 have hr':∀x:Int,¬E.glob.rem .u64 (E.glob.wrap .u64 x) 64<0:=fun x=>by have:=hr x;omega
 simp only [hr',if_false]
 have w1:E.glob.wrap .i64 (E.glob.wrap .u64 (E.glob.wrap .u64 a+E.glob.wrap .u64 b))=GN.wrap .i64 (a+b):=by
  show IntKind.wrap .i64 (IntKind.wrap .u64 (IntKind.wrap .u64 a+IntKind.wrap .u64 b))=IntKind.wrap .i64 (a+b)
  refine wrap_res ?_
  rw [u64_mod,u64_mod,u64_mod];omega
 have w2:E.glob.wrap .i64 (E.glob.wrap .u64 (E.glob.wrap .u64 a - E.glob.wrap .u64 b))=GN.wrap .i64 (a - b):=by
  show IntKind.wrap .i64 (IntKind.wrap .u64 (IntKind.wrap .u64 a - IntKind.wrap .u64 b))=IntKind.wrap .i64 (a - b)
  refine wrap_res ?_
  rw [u64_mod,u64_mod,u64_mod];omega
 have w3:E.glob.wrap .i64 (E.glob.wrap .u64 (E.glob.wrap .u64 a*E.glob.wrap .u64 b))=GN.wrap .i64 (a*b):=by
  show IntKind.wrap .i64 (IntKind.wrap .u64 (IntKind.wrap .u64 a*IntKind.wrap .u64 b))=IntKind.wrap .i64 (a*b)
  refine wrap_res ?_
  rw [u64_mod,u64_mod,u64_mod,Int.emod_emod_of_dvd _ (Int.dvd_refl _),←Int.mul_emod]
 have w7:∀k:Int,E.glob.wrap .i64 (E.glob.shl .u64 (E.glob.wrap .u64 a) k)=GN.shl .i64 a k:=by
  intro k
  show IntKind.wrap .i64 (IntKind.wrap .u64 (IntKind.wrap .u64 a*2 ^ min k.toNat IntKind.u64.bits))=IntKind.wrap .i64 (a*2 ^ min k.toNat IntKind.i64.bits)
  refine wrap_res ?_
  rw [u64_mod,u64_mod,Int.emod_emod_of_dvd _ (Int.dvd_refl _)]
  show _=(a*2 ^ min k.toNat IntKind.u64.bits) % _
  rw [Int.mul_emod,Int.emod_emod_of_dvd _ (Int.dvd_refl _),←Int.mul_emod]
 simp only [w1,w2,w3,w7]
 unfold doV
 have key:∀k:Int,((op==k)=true)=(op=k):=fun k=>by rw [beq_iff_eq]
 simp only [key]
 by_cases h1:op=1
 ·simp only [if_pos h1];rfl
 simp only [if_neg h1]
 by_cases h2:op=2
 ·simp only [if_pos h2];rfl
 simp only [if_neg h2]
 by_cases h3:op=3
 ·simp only [if_pos h3];rfl
 simp only [if_neg h3]
 by_cases h4:op=4
 ·simp only [if_pos h4];rfl
 simp only [if_neg h4]
 by_cases h5:op=5
 ·simp only [if_pos h5];rfl
 simp only [if_neg h5]
 by_cases h6:op=6
 ·simp only [if_pos h6];rfl
 simp only [if_neg h6]
 by_cases h7:op=7
 ·simp only [if_pos h7];rfl
 simp only [if_neg h7]
 by_cases h8:op=8
 ·simp only [if_pos h8];rfl
 simp only [if_neg h8]
 by_cases h9:op=9
 ·simp only [if_pos h9];(by_cases hab:a=b<;>simp [hab])
 simp only [if_neg h9]
 by_cases h10:op=10
 ·simp only [if_pos h10];(by_cases hab:a=b<;>simp [hab])
 simp only [if_neg h10]
 by_cases h11:op=11
 ·simp only [if_pos h11];(by_cases hab:a<b<;>simp [hab])
 simp only [if_neg h11]
 rfl
theorem doV_some {op:Int} (a b:Int) (h1:1≤op) (h2:op≤11):∃v,doV op a b=some v:=by
 have h:op=1∨op=2∨op=3∨op=4∨op=5∨op=6∨op=7∨op=8∨op=9∨op=10∨op=11:=by omega
 rcases h with rfl | rfl | rfl | rfl | rfl | rfl | rfl | rfl | rfl | rfl | rfl<;>exact ⟨_,rfl⟩
theorem ProgAt.thr {h:AHeap} {cs:List Cell} {P:PProg} (p:ProgAt h cs P) {t:Nat} {code:List Ins} (ht:P.thr[t]? = some code) :
  ∃x,SlAt h x 9 (codeC code) code.length∧Low h.length x∧∀{α:Type} (f:Cell→Option α),(atK cs 2 fun q=>idxSK 1 q (t:Int) fun k N o=>rdH h k N fun l=>atK l o f)=f x:=by
 obtain ⟨a,b,c,ts,rfl,_,_,⟨hc,hcl⟩,hts⟩:=p
 obtain ⟨x,x1,x2,x3⟩:=hts _ _ ht
 refine ⟨x,x2,x3,fun f=>?_⟩
 show (idxSK 1 c (t:Int) fun k N o=>rdH h k N fun l=>atK l o f)=f x
 exact hc.get1 (getI_lt ht) x1
theorem ProgAt.nthr {α:Type} {h:AHeap} {cs:List Cell} {P:PProg} (p:ProgAt h cs P) {f:Int→Option α}:(atK cs 2 fun q=>lenK q f)=f P.thr.length:=by
 obtain ⟨a,b,c,ts,rfl,_,_,⟨hc,hcl⟩,hts⟩:=p
 show lenK c f=_
 exact hc.len
theorem code_of {P:PProg} {t:Nat} {code:List Ins} (ht:P.thr[t]? = some code):P.code (t:Int)=code:=by
 unfold PProg.code
 rw [if_pos (by omega),Int.toNat_natCast,List.getD_eq_getElem?_getD,ht];rfl
theorem refnormal_R (hE:q123_In E) {cs:List Cell} {P:PProg} {h:AHeap} (p:ProgAt h cs P) {t:Nat} {code:List Ins} (ht:P.thr[t]? = some code) (hlen:code.length<4000000000000000000) (hg:GoodC code) (l:Lcl) (h0:0≤l.pc) :
  R E 123 [.agg cs,.c (.int .i64 (t:Int)),.agg l.cs] h=some ([.agg (normL code l).cs],h):=by
 refine R_intro hE.fn ?_
 obtain ⟨x,hx,hxl,hT⟩:=p.thr ht
 have round:∀l:Lcl,0≤l.pc→q123_F1 (R E) Lim E.glob (q123_s1 t cs l.cs Lcl.zero.cs h)=match stepI code l with
   | some l'=>some (.normal,q123_s1 t cs l'.cs Lcl.zero.cs h)
   | none=>if l.pc<code.length then some (.ret,q123_x1_0 l.cs h) else some (.exit 0,q123_x1_1 l.cs Lcl.zero.cs h):=by
  intro l h0
  rw [q123_r1,lcl_pc,asI_ok,hT,hx.len]
  by_cases h1:l.pc<code.length
  ·obtain ⟨q,hp⟩:∃q:Nat,l.pc=(q:Int):=⟨l.pc.toNat,by omega⟩
   have hpl:q<code.length:=by omega
   have hq:code[q]? = some code[q]:=List.getElem?_eq_getElem hpl
   have hgi:=hg _ (List.getElem_mem hpl)
   generalize code[q]=i at hq hgi
   obtain ⟨off,cs',hG0,hle,hcs⟩:=hx.insG hq
   have hG:∀{α:Type} (G:Nat→List Cell→Option α),(idxSK 9 x l.pc fun k N o=>rdH h k N fun l=>G o l)=G off cs':=by intro α G;rw [hp];exact hG0 G
   have hst:stepI code l=if i.kind=5 then
     some { (l.setR i.reg ((doV i.op (opV i.a l) (opV i.b l)).getD (opV i.a l))) with pc:=(l.setR i.reg ((doV i.op (opV i.a l) (opV i.b l)).getD (opV i.a l))).pc+1 }
    else if i.kind=6 then (if opV i.a l=opV i.b l then some { l with pc:=l.pc+min (max i.n 0) code.length+1 } else some { l with pc:=l.pc+1 }) else none:=by
    unfold stepI
    rw [if_pos h0,show l.pc.toNat=q by omega,hq]
   rw [hst,if_pos (decide_eq_true h1),hT,lcl_pc,asI_ok,hG,if_pos hle,hcs,if_pos ⟨rfl,rfl,rfl⟩,ins_kind,asI_ok]
   by_cases k5:i.kind=5
   ·obtain ⟨r0,r1⟩:=hgi.reg (.inr (.inr k5))
    obtain ⟨o0,o1⟩:=hgi.op k5
    rw [if_pos (by rw [k5];rfl),if_pos k5,if_pos (show 3+2≤i.cs.length by rw [Ins.len];omega),if_pos ⟨rfl,rfl⟩,ins_a,refValue_R hE.c92,c1_ok,asI_ok,ins_op,asI_ok]
    by_cases hop:i.op=0
    ·have hd:doV i.op (opV i.a l) (opV i.b l)=none:=by rw [hop];rfl
     have hpc:=l.setR_pc i.reg (opV i.a l)
     rw [hd,if_neg (by rw [hop];simp),ins_reg,asI_ok,if_pos ⟨r0,r1⟩,if_pos (by rw [Lcl.len];omega),lcl_set r0 r1,lcl_pc,asI_ok,if_pos (by rw [Lcl.len];omega),lcl_setpc]
     rw [show (none:Option Int).getD (opV i.a l)=opV i.a l from rfl,hpc,g_wrap_i64 (x:=l.pc+1) (by omega) (by omega)]
    ·obtain ⟨v,hd⟩:=doV_some (opV i.a l) (opV i.b l) (show 1≤i.op by omega) o1
     have hpc:=l.setR_pc i.reg v
     rw [hd,if_pos (by rw [bne_iff_ne];exact hop),ins_op,asI_ok,if_pos (show 6+2≤i.cs.length by rw [Ins.len];omega),if_pos ⟨rfl,rfl⟩,ins_b,refValue_R hE.c92,qh_ok,c1_ok,asI_ok,refDo_R hE.c93,qh_ok,c2_ok,asI_ok,asB_ok,hd,ins_reg,asI_ok,if_pos ⟨r0,r1⟩,if_pos (by rw [Lcl.len];omega),show (some v:Option Int).getD 0=v from rfl,lcl_set r0 r1,lcl_pc,asI_ok,if_pos (by rw [Lcl.len];omega),lcl_setpc]
     rw [show (some v:Option Int).getD (opV i.a l)=v from rfl,hpc,g_wrap_i64 (x:=l.pc+1) (by omega) (by omega)]
   ·rw [if_neg (by rw [beq_iff_eq];exact k5),if_neg k5]
    by_cases k6:i.kind=6
    ·obtain ⟨n0,n1⟩:=hgi.n k6
     rw [if_pos (by rw [k6];rfl),if_pos k6,if_pos (show 3+2≤i.cs.length by rw [Ins.len];omega),if_pos ⟨rfl,rfl⟩,ins_a,refValue_R hE.c92,qh_ok,c1_ok,asI_ok,if_pos (show 6+2≤i.cs.length by rw [Ins.len];omega),if_pos ⟨rfl,rfl⟩,ins_b,refValue_R hE.c92,qh_ok,c1_ok,asI_ok]
     by_cases hab:opV i.a l=opV i.b l
     ·rw [if_pos (by rw [hab];exact beq_self_eq_true _),if_pos hab,lcl_pc,asI_ok,ins_n,asI_ok,if_pos (by rw [Lcl.len];omega),lcl_setpc,lcl_pc,asI_ok,if_pos (by rw [Lcl.len];omega),lcl_setpc]
      dsimp only
      rw [show min (max i.n 0) (code.length:Int)=i.n by omega,g_wrap_i64 (x:=l.pc+i.n) (by omega) (by omega),g_wrap_i64 (x:=l.pc+i.n+1) (by omega) (by omega)]
     ·rw [if_neg (by rw [beq_iff_eq];exact hab),if_neg hab,lcl_pc,asI_ok,if_pos (by rw [Lcl.len];omega),lcl_setpc,g_wrap_i64 (x:=l.pc+1) (by omega) (by omega)]
    ·rw [if_neg (by rw [beq_iff_eq];exact k6),if_neg k6,if_pos ⟨rfl,rfl⟩,if_pos ⟨rfl,rfl,rfl⟩]
     dsimp only
     rw [if_pos h1]
  ·have hst:stepI code l=none:=by
    unfold stepI
    rw [if_pos h0,List.getElem?_eq_none (by omega)]
   rw [hst,if_neg (by simpa using h1)]
   dsimp only
   rw [if_neg h1]
 have stop:∀l:Lcl,0≤l.pc→stepI code l=none→(Lim (q123_F1 (R E) Lim E.glob) (q123_s1 t cs l.cs Lcl.zero.cs h)).bind (fun p=>q123_k3 (R E) Lim E.glob h p.1 p.2)=some ([.agg l.cs],h):=by
  intro l h0 hs
  have hr:=round l h0
  rw [hs] at hr
  dsimp only at hr
  split at hr
  ·rw [Lim_ret hr,bind_ok,q123_e1_0,if_pos ⟨rfl,rfl⟩]
  ·rw [Lim_exit hr,bind_ok,q123_e1_1,if_pos ⟨rfl,rfl⟩,if_pos ⟨rfl,rfl,rfl⟩,if_pos ⟨rfl,rfl⟩]
 have loop:∀(k:Nat) (l:Lcl),0≤l.pc→(code.length:Int)≤l.pc+k→(Lim (q123_F1 (R E) Lim E.glob) (q123_s1 t cs l.cs Lcl.zero.cs h)).bind (fun p=>q123_k3 (R E) Lim E.glob h p.1 p.2)=some ([.agg (nrm code k l).cs],h):=by
  intro k
  induction k with
  | zero =>
   intro l h0 hk
   rw [nrm]
   refine stop l h0 ?_
   cases hs:stepI code l with
   | none=>rfl
   | some l'=>have:=stepI_pc hs;omega
  | succ k ih =>
   intro l h0 hk
   rw [nrm]
   cases hs:stepI code l with
   | none=>exact stop l h0 hs
   | some l' =>
    have hr:=round l h0
    rw [hs] at hr
    have h3:=stepI_pc hs
    have:=ih l' (by omega) (by omega)
    cases hL:Lim (q123_F1 (R E) Lim E.glob) (q123_s1 t cs l'.cs Lcl.zero.cs h) with
    | none=>rw [hL] at this;cases this
    | some p=>rw [Lim_next hr hL];rw [hL] at this;exact this
 rw [q123_eq,zero5]
 exact loop code.length l h0 (by omega)
theorem there_R (hE:q110_In E) {cs:List Cell} {P:PProg} {h:AHeap} (p:ProgAt h cs P) (t:Int) :
  R E 110 [.agg cs,.c (.int .i64 t)] h=some ([.c (.bool (decide (0≤t)&&decide (t<P.thr.length)))],h):=by
 refine R_intro hE.fn ?_
 rw [q110_eq]
 by_cases h0:0≤t
 ·rw [show decide (t≥0)=true from decide_eq_true h0,scK_ok,p.nthr,bind_ok]
  rfl
 ·rw [show decide (t≥0)=false from decide_eq_false h0,scK_ft]
  rfl
def PProg.good (P:PProg):Prop:=P.fits∧∀code∈P.thr,GoodC code
theorem code_out {P:PProg} {t:Int} (h:¬(0≤t∧t<P.thr.length)):P.code t=[]:=by
 unfold PProg.code
 split
 ·rw [List.getD_eq_getElem?_getD,List.getElem?_eq_none (by omega)];rfl
 ·rfl
theorem refStart_R (hE:q104_In E) {cs:List Cell} {P:PProg} {h:AHeap} (hg:P.good) (p:ProgAt h cs P) (t:Int) :
  R E 104 [.agg cs,.c (.int .i64 t)] h=some ([.agg (startL P t).cs],h):=by
 refine R_intro hE.fn ?_
 rw [q104_eq,if_pos ⟨rfl,p.len⟩,there_R hE.c110 p,c1_ok,asB_ok]
 by_cases ht:0≤t∧t<P.thr.length
 ·obtain ⟨q,hq⟩:∃q:Nat,t=(q:Int):=⟨t.toNat,by omega⟩
  have hqq:P.thr[q]? = some P.thr[q]:=List.getElem?_eq_getElem (by omega)
  have hm:=List.mem_of_getElem? hqq
  generalize P.thr[q]=code at hqq hm
  rw [show (decide (0≤t)&&decide (t<P.thr.length))=true by simp [ht.1,ht.2],if_neg (by simp),if_pos ⟨rfl,p.len⟩,zero5,hq,refnormal_R hE.c123 p hqq (hg.1.2 _ hm) (hg.2 _ hm) Lcl.zero (by simp [Lcl.zero]),c1_ok,asA_ok,if_pos ⟨rfl,rfl,rfl⟩,if_pos ⟨rfl,rfl⟩]
  unfold startL
  rw [code_of hqq]
 ·have hs:startL P t=Lcl.zero:=by unfold startL;rw [code_out ht];rfl
  rw [show (decide (0≤t)&&decide (t<P.thr.length))=false by simp;omega,if_pos (show (!false)=true from rfl),zero5,if_pos ⟨rfl,rfl,rfl⟩,if_pos ⟨rfl,rfl⟩,hs]
theorem refNext_R (hE:q81_In E) {cs:List Cell} {P:PProg} {h:AHeap} (hg:P.good) (p:ProgAt h cs P) (t:Int) (l:Lcl) :
  R E 81 [.agg cs,.c (.int .i64 t),.agg l.cs] h=some ([.agg ((nextI (P.code t) l).getD Ins.zero).cs,.c (.bool (nextI (P.code t) l).isSome)],h):=by
 refine R_intro hE.fn ?_
 rw [q81_eq,if_pos ⟨rfl,p.len⟩,there_R hE.c110 p,qh_ok,c1_ok,asB_ok]
 by_cases ht:0≤t∧t<P.thr.length
 ·obtain ⟨q,hq⟩:∃q:Nat,t=(q:Int):=⟨t.toNat,by omega⟩
  have hqq:P.thr[q]? = some P.thr[q]:=List.getElem?_eq_getElem (by omega)
  have hm:=List.mem_of_getElem? hqq
  generalize P.thr[q]=code at hqq hm
  have hgc:=hg.2 _ hm
  obtain ⟨x,hx,hxl,hT⟩:=p.thr hqq
  rw [show (decide (0≤t)&&decide (t<P.thr.length))=true by simp [ht.1,ht.2],Bool.not_true,scK_ok,lcl_pc,asI_ok,bind_ok]
  dsimp only
  subst hq
  rw [code_of hqq]
  by_cases h0:0≤l.pc
  ·rw [show decide (l.pc<0)=false from decide_eq_false (by omega),scK_ok,lcl_pc,asI_ok,hT,hx.len,bind_ok]
   dsimp only
   by_cases h1:l.pc<code.length
   ·obtain ⟨m,hmm⟩:∃m:Nat,l.pc=(m:Int):=⟨l.pc.toNat,by omega⟩
    have hml:m<code.length:=by omega
    have hi:code[m]? = some code[m]:=List.getElem?_eq_getElem hml
    have hgi:=hgc _ (List.getElem_mem hml)
    generalize code[m]=i at hi hgi
    obtain ⟨off,cs',hG0,hle,hcs⟩:=hx.insG hi
    have hG:∀{α:Type} (G:Nat→List Cell→Option α),(idxSK 9 x l.pc fun k N o=>rdH h k N fun l=>G o l)=G off cs':=by intro α G;rw [hmm];exact hG0 G
    have hn:nextI code l=if 1≤i.kind∧i.kind≤4 then some i else none:=by
     unfold nextI
     rw [if_pos h0,show l.pc.toNat=m by omega,hi]
    have hk2:=hgi.kind
    rw [show decide (l.pc≥(code.length:Int))=false from decide_eq_false (by omega),if_neg (by simp),hT,lcl_pc,asI_ok,hG,if_pos hle,hcs,if_pos ⟨rfl,rfl,rfl⟩,ins_kind,asI_ok,ins_kind,asI_ok,scK_or,hn]
    by_cases hk:1≤i.kind∧i.kind≤4
    ·rw [if_neg (by simp;omega),if_pos hk,if_pos ⟨rfl,rfl⟩,if_pos ⟨rfl,rfl,rfl⟩,if_pos ⟨rfl,rfl⟩];rfl
    ·rw [if_pos (by simp;omega),if_neg hk,if_pos ⟨rfl,rfl,rfl⟩,if_pos ⟨rfl,rfl⟩];rfl
   ·have hn:nextI code l=none:=by unfold nextI;rw [if_pos h0,List.getElem?_eq_none (by omega)]
    rw [show decide (l.pc≥(code.length:Int))=true from decide_eq_true (by omega),if_pos rfl,hn,if_pos ⟨rfl,rfl,rfl⟩,if_pos ⟨rfl,rfl⟩];rfl
  ·have hn:nextI code l=none:=by unfold nextI;rw [if_neg h0]
   rw [show decide (l.pc<0)=true from decide_eq_true (by omega),scK_tf,if_pos rfl,hn,if_pos ⟨rfl,rfl,rfl⟩,if_pos ⟨rfl,rfl⟩];rfl
 ·have hn:nextI (P.code t) l=none:=by rw [code_out ht];unfold nextI;split<;>simp
  rw [show (decide (0≤t)&&decide (t<P.thr.length))=false by simp;omega,Bool.not_false,scK_tf,scK_tf,if_pos rfl,hn,if_pos ⟨rfl,rfl,rfl⟩,if_pos ⟨rfl,rfl⟩];rfl
theorem refAfter_R (hE:q107_In E) {cs:List Cell} {P:PProg} {h:AHeap} (hg:P.good) (p:ProgAt h cs P) (t:Int) (l:Lcl) (v:Int) :
  R E 107 [.agg cs,.c (.int .i64 t),.agg l.cs,.c (.int .i64 v)] h=some ([.agg (afterL (P.code t) l v).cs],h):=by
 refine R_intro hE.fn ?_
 rw [q107_eq,if_pos ⟨rfl,p.len⟩,if_pos ⟨rfl,rfl⟩,refNext_R hE.c81 hg p,c2_ok,asA_ok,asB_ok,if_pos ⟨rfl,rfl,rfl⟩]
 unfold afterL
 cases hn:nextI (P.code t) l with
 | none =>
  rw [show (none:Option Ins).isSome=false from rfl,if_pos (show (!false)=true from rfl),if_pos ⟨rfl,rfl⟩,if_pos ⟨rfl,rfl,rfl⟩,if_pos ⟨rfl,rfl⟩]
 | some i =>
  obtain ⟨n0,n1,n2,n3,n4⟩:=nextI_kind hn
  have ht:0≤t∧t<P.thr.length:=by
   refine Classical.byContradiction fun hc=>?_
   rw [code_out hc] at n2;simp at n2
  obtain ⟨q,hq⟩:∃q:Nat,t=(q:Int):=⟨t.toNat,by omega⟩
  have hqq:P.thr[q]? = some P.thr[q]:=List.getElem?_eq_getElem (by omega)
  have hm:=List.mem_of_getElem? hqq
  generalize P.thr[q]=code at hqq hm
  subst hq
  rw [code_of hqq] at n1 n2 ⊢
  have hgi:=hg.2 _ hm i (List.mem_of_getElem? n2)
  have hfit:=hg.1.2 _ hm
  rw [show (some i:Option Ins).isSome=true from rfl,if_neg (by simp),show (some i:Option Ins).getD Ins.zero=i from rfl,ins_kind,asI_ok,ins_kind,asI_ok,scK_or]
  by_cases hk:i.kind=2∨i.kind=4
  ·have hpc:=l.setR_pc i.reg v
   obtain ⟨r0,r1⟩:=hgi.reg (hk.imp id .inl)
   rw [if_pos (by rw [Bool.or_eq_true,beq_iff_eq,beq_iff_eq];exact hk),ins_reg,asI_ok,if_pos ⟨r0,r1⟩,if_pos (by rw [Lcl.len];omega),lcl_set r0 r1,lcl_pc,asI_ok,if_pos (by rw [Lcl.len];omega),lcl_setpc,if_pos ⟨rfl,p.len⟩,if_pos ⟨rfl,rfl⟩,hpc,g_wrap_i64 (x:=l.pc+1) (by omega) (by omega),refnormal_R hE.c123 p hqq hfit (hg.2 _ hm) _ (by dsimp only;omega),c1_ok,asA_ok,if_pos ⟨rfl,rfl,rfl⟩,if_pos ⟨rfl,rfl⟩]
   dsimp only
   rw [if_pos hk]
  ·rw [if_neg (by rw [Bool.or_eq_true,beq_iff_eq,beq_iff_eq];exact hk),lcl_pc,asI_ok,if_pos (by rw [Lcl.len];omega),lcl_setpc,if_pos ⟨rfl,p.len⟩,if_pos ⟨rfl,rfl⟩,g_wrap_i64 (x:=l.pc+1) (by omega) (by omega),refnormal_R hE.c123 p hqq hfit (hg.2 _ hm) _ (by dsimp only;omega),c1_ok,asA_ok,if_pos ⟨rfl,rfl,rfl⟩,if_pos ⟨rfl,rfl⟩]
   dsimp only
   rw [if_neg hk]
end
end Jq

namespace Jq
open Go
variable (C:CallF) (L:LoopF) (G:Glo)
set_option maxRecDepth 100000 in
theorem q80_eq (l0:List Cell) (h0:AHeap):q80.body C L G [(.agg l0)] h0=atK l0 2 fun q_1=>asI .i64 (.c q_1) fun n_2=>scK (n_2==2) false (atK l0 2 fun q_3=>asI .i64 (.c q_3) fun n_4=>some ((n_4==4),h0)) true h0 fun b_5 h_6=>some ([(.c (.bool b_5))],h_6):=by kernel_rfl
set_option maxRecDepth 100000 in
theorem q109_eq (l0 l1:List Cell) (a2:Int) (h0:AHeap):q109.body C L G [(.agg l0),(.agg l1),(.c (.int .i64 a2))] h0=atK l0 0 fun q_1=>asI .i64 (.c q_1) fun n_2=>if (n_2==1)=true then atK l0 2 fun q_3=>asI .i64 (.c q_3) fun n_4=>if 3+2≤l0.length then if 0=0∧l1.length=5 then c1 (qh h0 (C 108 [(.agg ((l0.drop 3).take 2)),(.agg l1)] h0)) fun y_6 h_5=>asI .i64 y_6 fun n_7=>if 0=0∧[ci0,ci0,ci0,ci0,ci0,ci0].length=6∧(splice (splice (splice [ci0,ci0,ci0,ci0,ci0,ci0] 2 [(.int .i64 2)]) 3 [(.int .i64 n_4)]) 5 [(.int .i64 n_7)]).length=6 then if 0=0∧(splice (splice (splice [ci0,ci0,ci0,ci0,ci0,ci0] 2 [(.int .i64 2)]) 3 [(.int .i64 n_4)]) 5 [(.int .i64 n_7)]).length=6 then some ([(.agg (splice (splice (splice [ci0,ci0,ci0,ci0,ci0,ci0] 2 [(.int .i64 2)]) 3 [(.int .i64 n_4)]) 5 [(.int .i64 n_7)])),(.c (.bool false))],h0) else none else none else none else none else if (n_2==2)=true then atK l0 2 fun q_8=>asI .i64 (.c q_8) fun n_9=>if 0=0∧[ci0,ci0,ci0,ci0,ci0,ci0].length=6∧(splice (splice (splice [ci0,ci0,ci0,ci0,ci0,ci0] 2 [(.int .i64 1)]) 3 [(.int .i64 n_9)]) 4 [(.int .i64 a2)]).length=6 then if 0=0∧(splice (splice (splice [ci0,ci0,ci0,ci0,ci0,ci0] 2 [(.int .i64 1)]) 3 [(.int .i64 n_9)]) 4 [(.int .i64 a2)]).length=6 then some ([(.agg (splice (splice (splice [ci0,ci0,ci0,ci0,ci0,ci0] 2 [(.int .i64 1)]) 3 [(.int .i64 n_9)]) 4 [(.int .i64 a2)])),(.c (.bool true))],h0) else none else none else if (n_2==4)=true then if 3+2≤l0.length then if 0=0∧l1.length=5 then c1 (C 108 [(.agg ((l0.drop 3).take 2)),(.agg l1)] h0) fun y_11 h_10=>asI .i64 y_11 fun n_12=>if (n_12==a2)=true then atK l0 2 fun q_13=>asI .i64 (.c q_13) fun n_14=>if 6+2≤l0.length then if 0=0∧l1.length=5 then c1 (qh h_10 (C 108 [(.agg ((l0.drop 6).take 2)),(.agg l1)] h_10)) fun y_16 h_15=>asI .i64 y_16 fun n_17=>if 0=0∧[ci0,ci0,ci0,ci0,ci0,ci0].length=6∧(splice (splice (splice (splice [ci0,ci0,ci0,ci0,ci0,ci0] 2 [(.int .i64 4)]) 3 [(.int .i64 n_14)]) 4 [(.int .i64 a2)]) 5 [(.int .i64 n_17)]).length=6 then if 0=0∧(splice (splice (splice (splice [ci0,ci0,ci0,ci0,ci0,ci0] 2 [(.int .i64 4)]) 3 [(.int .i64 n_14)]) 4 [(.int .i64 a2)]) 5 [(.int .i64 n_17)]).length=6 then some ([(.agg (splice (splice (splice (splice [ci0,ci0,ci0,ci0,ci0,ci0] 2 [(.int .i64 4)]) 3 [(.int .i64 n_14)]) 4 [(.int .i64 a2)]) 5 [(.int .i64 n_17)])),(.c (.bool true))],h_10) else none else none else none else none else atK l0 2 fun q_18=>asI .i64 (.c q_18) fun n_19=>if 0=0∧[ci0,ci0,ci0,ci0,ci0,ci0].length=6∧(splice (splice (splice [ci0,ci0,ci0,ci0,ci0,ci0] 2 [(.int .i64 5)]) 3 [(.int .i64 n_19)]) 4 [(.int .i64 a2)]).length=6 then if 0=0∧(splice (splice (splice [ci0,ci0,ci0,ci0,ci0,ci0] 2 [(.int .i64 5)]) 3 [(.int .i64 n_19)]) 4 [(.int .i64 a2)]).length=6 then some ([(.agg (splice (splice (splice [ci0,ci0,ci0,ci0,ci0,ci0] 2 [(.int .i64 5)]) 3 [(.int .i64 n_19)]) 4 [(.int .i64 a2)])),(.c (.bool true))],h_10) else none else none else none else none else if 0=0∧[ci0,ci0,ci0,ci0,ci0,ci0].length=6∧(splice [ci0,ci0,ci0,ci0,ci0,ci0] 2 [(.int .i64 3)]).length=6 then if 0=0∧(splice [ci0,ci0,ci0,ci0,ci0,ci0] 2 [(.int .i64 3)]).length=6 then some ([(.agg (splice [ci0,ci0,ci0,ci0,ci0,ci0] 2 [(.int .i64 3)])),(.c (.bool false))],h0) else none else none:=by kernel_rfl
end Jq

namespace Jq
open Go
structure Evt where
 t:Int
 i:Int
 kind:Int
 loc:Int
 r:Int
 w:Int
 deriving DecidableEq
def Evt.cs (e:Evt):List Cell:=[.int .i64 e.t,.int .i64 e.i,.int .i64 e.kind,.int .i64 e.loc,.int .i64 e.r,.int .i64 e.w]
def evsC (l:List Evt):List Cell:=l.flatMap Evt.cs
theorem Evt.len (e:Evt):e.cs.length=6:=rfl
def evOf (i:Ins) (l:Lcl) (v:Int):Evt :=
 if i.kind=1 then ⟨0,0,2,i.loc,0,opV i.a l⟩
 else if i.kind=2 then ⟨0,0,1,i.loc,v,0⟩
 else if i.kind=4 then (if opV i.a l=v then ⟨0,0,4,i.loc,v,opV i.b l⟩ else ⟨0,0,5,i.loc,v,0⟩)
 else ⟨0,0,3,0,0,0⟩
def rdI (i:Ins):Bool:=decide (i.kind=2∨i.kind=4)
def unf (code:List Ins) (t:Int):Nat→Lcl→List Int→List Evt→List Evt × Lcl × Bool
 | 0,l,_,out=>(out,l,false)
 | k+1,l,rs,out=>match nextI code l with
  | none=>(out,l,false)
  | some i =>
   if rdI i=true then match rs with
    | []=>(out,l,true)
    | v :: rs=>unf code t k (afterL code l v) rs (out++[{ evOf i l v with t:=t,i:=out.length }])
   else unf code t k (afterL code l 0) rs (out++[{ evOf i l 0 with t:=t,i:=out.length }])
theorem nrm_pc {code:List Ins}:∀(k:Nat) (l:Lcl),l.pc≤(nrm code k l).pc
 | 0,l=>by rw [nrm];omega
 | k+1,l=>by
  rw [nrm]
  cases hs:stepI code l with
  | none=>show l.pc≤l.pc;omega
  | some l' =>
   have h1:=stepI_pc hs
   have h2:=nrm_pc (code:=code) k l'
   show l.pc≤(nrm code k l').pc
   omega
theorem afterL_pc {code:List Ins} {l:Lcl} {i:Ins} (h:nextI code l=some i) (v:Int):l.pc+1≤(afterL code l v).pc:=by
 unfold afterL
 rw [h]
 exact nrm_pc _ _
theorem evOf_novalue {i:Ins} (h:rdI i=false) (l:Lcl) (v w:Int):evOf i l v=evOf i l w:=by
 unfold rdI at h
 rw [decide_eq_false_iff_not] at h
 unfold evOf
 split
 ·rfl
 ·rw [if_neg (by omega),if_neg (by omega),if_neg (by omega),if_neg (by omega)]
theorem afterL_novalue {code:List Ins} {l:Lcl} {i:Ins} (hn:nextI code l=some i) (h:rdI i=false) (v w:Int):afterL code l v=afterL code l w:=by
 unfold rdI at h
 rw [decide_eq_false_iff_not] at h
 unfold afterL
 rw [hn]
 dsimp only
 rw [if_neg h,if_neg h]
section
variable {E:Env}
theorem evOf_prog (hE:q109_In E) (i:Ins) (l:Lcl) (v:Int) (h:AHeap):R E 109 [.agg i.cs,.agg l.cs,.c (.int .i64 v)] h=some ([.agg (evOf i l v).cs,.c (.bool (rdI i))],h):=by
 refine R_intro hE.fn ?_
 have n3:(3+2≤i.cs.length):=by rw [Ins.len];omega
 have n6:(6+2≤i.cs.length):=by rw [Ins.len];omega
 unfold evOf rdI
 rw [q109_eq,ins_kind,asI_ok]
 by_cases k1:i.kind=1
 ·rw [if_pos (by rw [k1];rfl),if_pos k1,ins_loc,asI_ok,if_pos n3,if_pos ⟨rfl,rfl⟩,ins_a,Value_R hE.c108,qh_ok,c1_ok,asI_ok,if_pos ⟨rfl,rfl,rfl⟩,if_pos ⟨rfl,rfl⟩,show decide (i.kind=2∨i.kind=4)=false from decide_eq_false (by omega)]
  rfl
 ·rw [if_neg (by rw [beq_iff_eq];exact k1),if_neg k1]
  by_cases k2:i.kind=2
  ·rw [if_pos (by rw [k2];rfl),if_pos k2,ins_loc,asI_ok,if_pos ⟨rfl,rfl,rfl⟩,if_pos ⟨rfl,rfl⟩,show decide (i.kind=2∨i.kind=4)=true from decide_eq_true (by omega)]
   rfl
  ·rw [if_neg (by rw [beq_iff_eq];exact k2),if_neg k2]
   by_cases k4:i.kind=4
   ·rw [if_pos (by rw [k4];rfl),if_pos k4,if_pos n3,if_pos ⟨rfl,rfl⟩,ins_a,Value_R hE.c108,c1_ok,asI_ok,show decide (i.kind=2∨i.kind=4)=true from decide_eq_true (by omega)]
    by_cases hv:opV i.a l=v
    ·rw [if_pos (by rw [hv];exact beq_self_eq_true _),if_pos hv,ins_loc,asI_ok,if_pos n6,if_pos ⟨rfl,rfl⟩,ins_b,Value_R hE.c108,qh_ok,c1_ok,asI_ok,if_pos ⟨rfl,rfl,rfl⟩,if_pos ⟨rfl,rfl⟩]
     rfl
    ·rw [if_neg (by rw [beq_iff_eq];exact hv),if_neg hv,ins_loc,asI_ok,if_pos ⟨rfl,rfl,rfl⟩,if_pos ⟨rfl,rfl⟩]
     rfl
   ·rw [if_neg (by rw [beq_iff_eq];exact k4),if_neg k4,if_pos ⟨rfl,rfl,rfl⟩,if_pos ⟨rfl,rfl⟩,show decide (i.kind=2∨i.kind=4)=false from decide_eq_false (by omega)]
    rfl
theorem evOf_ref (hE:q111_In E) (i:Ins) (l:Lcl) (v:Int) (h:AHeap):R E 111 [.agg i.cs,.agg l.cs,.c (.int .i64 v)] h=some ([.agg (evOf i l v).cs],h):=by
 refine R_intro hE.fn ?_
 have n3:(3+2≤i.cs.length):=by rw [Ins.len];omega
 have n6:(6+2≤i.cs.length):=by rw [Ins.len];omega
 unfold evOf
 rw [q111_eq,ins_kind,asI_ok]
 by_cases k1:i.kind=1
 ·rw [if_pos (by rw [k1];rfl),if_pos k1,ins_loc,asI_ok,if_pos n3,if_pos ⟨rfl,rfl⟩,ins_a,refValue_R hE.c92,qh_ok,c1_ok,asI_ok,if_pos ⟨rfl,rfl,rfl⟩,if_pos ⟨rfl,rfl⟩]
  rfl
 ·rw [if_neg (by rw [beq_iff_eq];exact k1),if_neg k1]
  by_cases k2:i.kind=2
  ·rw [if_pos (by rw [k2];rfl),if_pos k2,ins_loc,asI_ok,if_pos ⟨rfl,rfl,rfl⟩,if_pos ⟨rfl,rfl⟩]
   rfl
  ·rw [if_neg (by rw [beq_iff_eq];exact k2),if_neg k2]
   by_cases k4:i.kind=4
   ·rw [if_pos (by rw [k4];rfl),if_pos k4,if_pos n3,if_pos ⟨rfl,rfl⟩,ins_a,refValue_R hE.c92,c1_ok,asI_ok]
    by_cases hv:opV i.a l=v
    ·rw [if_pos (by rw [hv];exact beq_self_eq_true _),if_pos hv,ins_loc,asI_ok,if_pos n6,if_pos ⟨rfl,rfl⟩,ins_b,refValue_R hE.c92,qh_ok,c1_ok,asI_ok,if_pos ⟨rfl,rfl,rfl⟩,if_pos ⟨rfl,rfl⟩]
     rfl
    ·rw [if_neg (by rw [beq_iff_eq];exact fun e=>hv e.symm),if_neg hv,ins_loc,asI_ok,if_pos ⟨rfl,rfl,rfl⟩,if_pos ⟨rfl,rfl⟩]
     rfl
   ·rw [if_neg (by rw [beq_iff_eq];exact k4),if_neg k4,if_pos ⟨rfl,rfl,rfl⟩,if_pos ⟨rfl,rfl⟩]
    rfl
def SlOkE (h:AHeap) (esz:Nat) (x:Cell):Prop:=∀k N off len,x=.sl k N off len→∀h',Kp h.length h h'→okSl h' esz k N=true
theorem SlOk.e {h:AHeap} {x:Cell} (s:SlOk h x) (esz:Nat):SlOkE h esz x:=fun k N off len e h' hk=>s k N off len e h' hk esz
theorem SlOkE.mono {h h':AHeap} {esz:Nat} {x:Cell} (s:SlOkE h esz x) (hk:Kp h.length h h'):SlOkE h' esz x :=
 fun k N off len e h2 hk2=>s k N off len e h2 (hk.trans (hk2.mono hk.1))
theorem SlAt.tail {α:Type} {h0 h:AHeap} {x:Cell} {esz len:Nat} {cs:List Cell} (s:SlAt h x esz cs (len+1)) (hok:SlOkE h0 esz x) (hp:Kp h0.length h0 h) (hl:Low h0.length x) :
  ∃x',(∀f:Cell→Option α,sliceK h esz true false x [.v (.c (.int .i64 1))] f=f x')∧SlAt h x' esz (cs.drop esz) len∧Low h0.length x'∧SlOkE h0 esz x':=by
 have hlen:(cs.drop esz).length=len*esz:=by rw [List.length_drop,s.1,Nat.succ_mul];omega
 rcases s.2 with ⟨_,h0⟩ | ⟨k,N,off,rfl,hb⟩
 ·omega
 ·refine ⟨.sl k N (off+1*esz) (len+1 - 1),fun f=>?_,⟨hlen,.inr ⟨k,N,off+1*esz,rfl,?_⟩⟩,?_,?_⟩
  ·unfold sliceK
   simp only [hok k N off _ rfl h hp,if_true]
   unfold boundsK
   simp only
   rw [if_pos ⟨by omega,by omega⟩]
   rfl
  ·rcases hb with h0 | ⟨b,hb,hN,hle,hat⟩
   ·omega
   ·rw [Nat.succ_mul] at hle hat
    refine .inr ⟨b,hb,hN,by omega,fun j hj=>?_⟩
    rw [List.getElem?_drop,←hat (esz+j) (by omega)]
    congr 1;omega
  ·rcases hl with h1 | h1
   ·omega
   ·exact .inr h1
  ·intro k' N' off' len' hk'
   cases hk'
   exact hok k N off _ rfl
def PProg.small (P:PProg):Prop:=P.thr.length≤1000∧∀code∈P.thr,code.length≤1000
theorem PProg.small.fits {P:PProg} (h:P.small):P.fits:=⟨by have:=h.1;omega,fun c hc=>by have:=h.2 c hc;omega⟩
theorem PProg.small.code {P:PProg} (h:P.small) (t:Int):(P.code t).length≤1000:=by
 unfold PProg.code
 split
 ·rw [List.getD_eq_getElem?_getD]
  cases hq:P.thr[t.toNat]? with
  | none=>show (0:Nat)≤_;omega
  | some c=>exact h.2 c (List.mem_of_getElem? hq)
 ·show (0:Nat)≤_;omega
end
end Jq

namespace Jq
open Go
end Jq

namespace Jq
open Go
end Jq

namespace Jq
open Go
end Jq

namespace Jq
open Go
variable (C:CallF) (L:LoopF) (G:Glo)
set_option maxRecDepth 100000 in
theorem q119_eq (x0:Cell) (h0:AHeap):q119.body C L G [(.c x0)] h0=eqNilK false x0 .nils fun b_1=>if b_1=true then some ([(.c .nils)],h0) else if ([]:List Cell).length=0*9 then (slCells (h0++[some (Blk.mk true 9 [])]) 9 x0).bind fun l_4=>appK 9 72 (.sl h0.length (([]:List Cell).length) 0 0) l_4 (h0++[some (Blk.mk true 9 [])]) fun x_2 h_3=>some ([(.c x_2)],h_3) else none:=by kernel_rfl
set_option maxRecDepth 100000 in
theorem q155_eq (x0 x1:Cell) (h0:AHeap):q155.body C L G [(.c x0),(.c x1)] h0=c1 (C 156 [(.c x0),(.c x1)] h0) fun y_2 h_1=>asI .i64 y_2 fun n_3=>some ([(.c (.bool (decide (n_3≥0))))],h_1):=by kernel_rfl
def q156_k2 (C:CallF) (L:LoopF) (G:Glo) (h0:AHeap):Ex→St→Option (List AV × AHeap):=kSeq (fun st=>q156_p1.exec C L G st (q156.fin G h0)) (q156.fin G h0)
def q156_k3 (C:CallF) (L:LoopF) (G:Glo) (h0:AHeap):Ex→St→Option (List AV × AHeap):=kBlk 0 (q156_k2 C L G h0)
def q156_s1 (x0 x1:Cell) (a7 a8:Int) (h:AHeap):St:=⟨.v (.c x0) :: .v (.c x1) :: tops 5 (.v (.c (.int .i64 a7)) :: .v (.c (.int .i64 a8)) :: tops 10 []),[],h⟩
def q156_F1 (C:CallF) (L:LoopF) (G:Glo):St→Option (Ex × St):=roundF (fun st f=>q156_b1.exec C L G st f) [0,1,7,8] [] [(0,[4],[]),(1,[],[])]
def q156_x1_0 (a4:Int) (h:AHeap):St:=⟨tops 4 (.v (.c (.int .i64 a4)) :: tops 14 []),[],h⟩
def q156_x1_1 (h:AHeap):St:=⟨tops 19 [],[],h⟩
theorem q156_r1 (x0 x1:Cell) (a7 a8:Int) (h:AHeap):q156_F1 C L G (q156_s1 x0 x1 a7 a8 h)=if (decide (a8<a7))=true then idxSK 9 x0 a8 fun k_2 N_3 o_4=>rdH h k_2 N_3 fun l_5=>if o_4+9≤l_5.length then fnK x1 fun g_6 l_7=>c1 (C g_6 ([(.agg ((l_5.drop o_4).take 9))]++l_7) h) fun y_9 h_8=>asB y_9 fun b_10=>if b_10=true then some (.ret,(q156_x1_0 a8 h_8)) else some (.normal,(q156_s1 x0 x1 a7 (G.wrap .i64 (a8+1)) h_8)) else none else some ((.exit 0),(q156_x1_1 h)):=by kernel_rfl
theorem q156_e1_0 (h0:AHeap) (a4:Int) (h:AHeap):(q156_k3 C L G h0) .ret (q156_x1_0 a4 h)=some ([(.c (.int .i64 a4))],h):=by kernel_rfl
theorem q156_e1_1 (h0:AHeap) (h:AHeap):(q156_k3 C L G h0) (.exit 0) (q156_x1_1 h)=some ([(.c (.int .i64 (-1)))],h):=by kernel_rfl
set_option maxRecDepth 100000 in
theorem q156_eq (x0 x1:Cell) (h0:AHeap):q156.body C L G [(.c x0),(.c x1)] h0=lenK x0 fun n_1=>(L (q156_F1 C L G) (q156_s1 x0 x1 n_1 0 h0)).bind fun p_11=>(q156_k3 C L G h0) p_11.1 p_11.2:=by kernel_rfl
set_option maxRecDepth 100000 in
theorem q195_eq (x0:Cell) (h0:AHeap):q195.body C L G [(.c x0)] h0=eqNilK false x0 .nils fun b_1=>if b_1=true then some ([(.c .nils)],h0) else if ([]:List Cell).length=0*7 then (slCells (h0++[some (Blk.mk true 7 [])]) 7 x0).bind fun l_4=>appK 7 56 (.sl h0.length (([]:List Cell).length) 0 0) l_4 (h0++[some (Blk.mk true 7 [])]) fun x_2 h_3=>some ([(.c x_2)],h_3) else none:=by kernel_rfl
set_option maxRecDepth 100000 in
theorem q202_eq (x0:Cell) (h0:AHeap):q202.body C L G [(.c x0)] h0=eqNilK false x0 .nils fun b_1=>if b_1=true then some ([(.c .nils)],h0) else if ([]:List Cell).length=0*1 then (slCells (h0++[some (Blk.mk true 1 [])]) 1 x0).bind fun l_4=>appK 1 1 (.sl h0.length (([]:List Cell).length) 0 0) l_4 (h0++[some (Blk.mk true 1 [])]) fun x_2 h_3=>some ([(.c x_2)],h_3) else none:=by kernel_rfl
set_option maxRecDepth 100000 in
theorem q203_eq (x0:Cell) (h0:AHeap):q203.body C L G [(.c x0)] h0=eqNilK false x0 .nils fun b_1=>if b_1=true then some ([(.c .nils)],h0) else if ([]:List Cell).length=0*1 then (slCells (h0++[some (Blk.mk true 1 [])]) 1 x0).bind fun l_4=>appK 1 8 (.sl h0.length (([]:List Cell).length) 0 0) l_4 (h0++[some (Blk.mk true 1 [])]) fun x_2 h_3=>some ([(.c x_2)],h_3) else none:=by kernel_rfl
end Jq

namespace Jq
open Go
def initsE (l:List Int):List Evt:=(List.range l.length).map fun (i:Nat)=>⟨-1,i,2,i,0,l.getD i 0⟩
theorem getDI {l:List Int} {i:Nat} (hi:i<l.length):l[i]? = some (l.getD i 0):=by
 rw [List.getD_eq_getElem?_getD,List.getElem?_eq_getElem hi];rfl
theorem takeI_succ {α:Type} {l:List α} {i:Nat} {p:α} (h:l[i]? = some p):l.take (i+1)=l.take i++[p]:=by
 rw [List.take_add_one,h];rfl
def shEv:Sh:=.agg (Sh.rep (.i .i64) 6)
section
variable {E:Env}
theorem ProgAt.initG {h:AHeap} {cs:List Cell} {P:PProg} (p:ProgAt h cs P):∃b,SlAt h b 1 (intC .i64 P.init) P.init.length∧Low h.length b∧∀{α:Type} (f:Cell→Option α),atK cs 1 f=f b:=by
 obtain ⟨a,b,c,ts,rfl,_,⟨hb,hbl⟩,_⟩:=p
 exact ⟨b,hb,hbl,fun _=>rfl⟩
theorem rdE_eq {k:Int} {e:Evt} (h:e.kind=k) {α:Type} {f:Cell→Option α}:atK e.cs 2 f=f (.int .i64 k):=by subst h;rfl
def evRd (e:Evt):Bool:=e.kind==1||e.kind==4||e.kind==5
def evWr (e:Evt):Bool:=e.kind==2||e.kind==4
def evFn (e:Evt):Bool:=e.kind==3||e.kind==4||e.kind==5
theorem evWrites_R (hE:q80_In E) (e:Evt) (h:AHeap):R E 80 [.agg e.cs] h=some ([.c (.bool (evWr e))],h):=by
 refine R_intro hE.fn ?_
 rw [q80_eq]
 simp only [rdE_eq (e:=e) rfl,asI_ok,scK_or];rfl
def poB (a b:Evt):Bool:=(decide (a.t<0)&&decide (b.t≥0))||(decide (a.t≥0)&&a.t==b.t&&decide (a.i<b.i))
def poL (l:List Evt) (a b:Nat):Bool:=poB (l.getD a ⟨0,0,0,0,0,0⟩) (l.getD b ⟨0,0,0,0,0,0⟩)
end
end Jq

namespace Jq
open Go
structure Atm where
 thread:Int
 reg:Int
 loc:Int
 value:Int
def Atm.cs (a:Atm):List Cell:=[.int .i64 a.thread,.int .i64 a.reg,.int .i64 a.loc,.int .i64 a.value]
def atmC (l:List Atm):List Cell:=l.flatMap Atm.cs
theorem Atm.len (a:Atm):a.cs.length=4:=rfl
theorem atmC_at:∀(l:List Atm) (i:Nat) (s:Atm),l[i]? = some s→((atmC l).drop (i*4)).take 4=s.cs
 | [],_,_,h=>by simp at h
 | q :: l,0,s,h=>by simp at h;subst h;rfl
 | q :: l,i+1,s,h=>by
  have:=atmC_at l i s (by simpa using h)
  have e:atmC (q :: l)=q.cs++atmC l:=rfl
  rw [e,List.drop_append,List.drop_of_length_le (by rw [Atm.len];omega),List.nil_append,show (i+1)*4 - q.cs.length=i*4 by rw [Atm.len];omega]
  exact this
theorem atmC_cell {l:List Atm} {i j:Nat} {s:Atm} {c:Cell} (h:l[i]? = some s) (hj:j<4) (hc:s.cs[j]? = some c):(atmC l)[i*4+j]? = some c:=by
 rw [←hc,←atmC_at l i s h,List.getElem?_take,if_pos hj,List.getElem?_drop]
theorem codeC_cell {l:List Ins} {i j:Nat} {s:Ins} {c:Cell} (h:l[i]? = some s) (hj:j<9) (hc:s.cs[j]? = some c):(codeC l)[i*9+j]? = some c:=by
 rw [←hc,←codeC_at l i s h,List.getElem?_take,if_pos hj,List.getElem?_drop]
structure PTest where
 name:ByteArray
 inits:List (Int × Int)
 thr:List (List Ins)
 ck:Int
 any:List (List Atm)
def RowsOf {α:Type} (esz:Nat) (C:List α→List Cell) (h:AHeap) (x:Cell) (rows:List (List α)):Prop :=
 ∃ts,SlAt h x 1 ts rows.length∧Low h.length x∧∀(t:Nat) (r:List α),rows[t]? = some r→∃y:Cell,ts[t]? = some y∧SlAt h y esz (C r) r.length∧Low h.length y
theorem RowsOf.keep {α:Type} {esz:Nat} {C:List α→List Cell} {h h':AHeap} {x:Cell} {rows:List (List α)} (r:RowsOf esz C h x rows) (hk:Kp h.length h h'):RowsOf esz C h' x rows:=by
 obtain ⟨ts,h1,h2,h3⟩:=r
 exact ⟨ts,h1.keep h2 hk,Low_mono hk.1 h2,fun t r hr=>by
  obtain ⟨y,y1,y2,y3⟩:=h3 t r hr
  exact ⟨y,y1,y2.keep y3 hk,Low_mono hk.1 y3⟩⟩
theorem RowsOf.get {α β:Type} {esz:Nat} {C:List α→List Cell} {h:AHeap} {x:Cell} {rows:List (List α)} (r:RowsOf esz C h x rows) {t:Nat} {row:List α} (ht:rows[t]? = some row) :
  ∃y,SlAt h y esz (C row) row.length∧Low h.length y∧∀(f:Cell→Option β),(idxSK 1 x (t:Int) fun k N o=>rdH h k N fun l=>atK l o f)=f y:=by
 obtain ⟨ts,h1,h2,h3⟩:=r
 obtain ⟨y,y1,y2,y3⟩:=h3 t row ht
 exact ⟨y,y2,y3,fun f=>h1.get1 (getI_lt ht) y1⟩
theorem RowsOf.len {α β:Type} {esz:Nat} {C:List α→List Cell} {h:AHeap} {x:Cell} {rows:List (List α)} (r:RowsOf esz C h x rows) {f:Int→Option β}:lenK x f=f rows.length:=by
 obtain ⟨ts,h1,_⟩:=r;exact h1.len
def TestAt (h:AHeap) (cs:List Cell) (T:PTest):Prop :=
 ∃a b c,cs=[.str T.name,a,b,.int .i64 T.ck,c]∧(SlAt h a 2 (pairC T.inits) T.inits.length∧Low h.length a)∧RowsOf 9 codeC h b T.thr∧RowsOf 4 atmC h c T.any
theorem TestAt.keep {h h':AHeap} {cs:List Cell} {T:PTest} (p:TestAt h cs T) (hk:Kp h.length h h'):TestAt h' cs T:=by
 obtain ⟨a,b,c,e,⟨a1,a2⟩,hb,hc⟩:=p
 exact ⟨a,b,c,e,⟨a1.keep a2 hk,Low_mono hk.1 a2⟩,hb.keep hk,hc.keep hk⟩
theorem TestAt.len {h:AHeap} {cs:List Cell} {T:PTest} (p:TestAt h cs T):cs.length=5:=by
 obtain ⟨a,b,c,rfl,_⟩:=p;rfl
structure PTest.small (T:PTest):Prop where
 inits:T.inits.length≤1000
 thr:T.thr.length≤1000
 code:∀c∈T.thr,c.length≤1000
 any:T.any.length≤1000
 row:∀c∈T.any,c.length≤1000
def thereT (T:PTest) (b:Nat):Bool:=(T.inits.any fun p=>p.1 % 256==(b:Int))||(T.thr.any fun c=>c.any fun i=>i.loc % 256==(b:Int))||(T.any.any fun c=>c.any fun a=>a.loc % 256==(b:Int))
def locsF (S:Nat→Bool) (n:Nat):List Int:=((List.range n).filter fun c=>S (97+c)).map fun (c:Nat)=>((97+c:Nat):Int)
def locsT (T:PTest):List Int:=locsF (thereT T) 26
theorem locsF_succ (S:Nat→Bool) (n:Nat):locsF S (n+1)=if S (97+n)=true then locsF S n++[((97+n:Nat):Int)] else locsF S n:=by
 unfold locsF
 rw [List.range_succ,List.filter_append,List.filter_cons,List.filter_nil]
 split<;>simp
theorem locsF_len (S:Nat→Bool):∀n,(locsF S n).length≤n
 | 0=>by simp [locsF]
 | n+1=>by
  have:=locsF_len S n
  rw [locsF_succ];split
  ·rw [List.length_append,List.length_singleton];omega
  ·omega
theorem locsF_mem {S:Nat→Bool} {n:Nat} {x:Int}:x∈locsF S n↔∃c,c<n∧S (97+c)=true∧x=((97+c:Nat):Int):=by
 unfold locsF
 rw [List.mem_map]
 constructor
 ·rintro ⟨c,hc,rfl⟩
  rw [List.mem_filter] at hc
  exact ⟨c,by simpa using hc.1,hc.2,rfl⟩
 ·rintro ⟨c,h1,h2,rfl⟩
  exact ⟨c,by rw [List.mem_filter];exact ⟨by simpa using h1,h2⟩,rfl⟩
theorem boolL_congr {s t:Nat→Bool} {n:Nat} (h:∀i,i<n→s i=t i):boolL s n=boolL t n:=List.map_congr_left fun i hi=>by rw [h i (by simpa using hi)]
theorem mark_next {S S':Nat→Bool} {v:Int} (h:∀b:Nat,b<256→S' b=(S b||(v % 256==(b:Int)))) :
  (boolL S 256).set (0+(v % 256).toNat*1) (.bool true)=boolL S' 256:=by
 rw [show 0+(v % 256).toNat*1=(v % 256).toNat by omega,boolL_set]
 refine boolL_congr fun i hi=>?_
 rw [h i hi]
 by_cases e:i=(v % 256).toNat
 ·rw [if_pos e,show (v % 256==(i:Int))=true by rw [beq_iff_eq];omega,Bool.or_true]
 ·rw [if_neg e,show (v % 256==(i:Int))=false by rw [beq_eq_false_iff_ne];omega,Bool.or_false]
theorem any_take_succ {α:Type} {l:List α} {i:Nat} {p:α} (h:l[i]? = some p) (f:α→Bool):(l.take (i+1)).any f=((l.take i).any f||f p):=by
 rw [takeI_succ h,List.any_append];simp
section
variable {E:Env}
theorem refLocs_R (hE:q121_In E) {cs:List Cell} {T:PTest} {h:AHeap} (p:TestAt h cs T) (hs:T.small) :
  ∃y h',R E 121 [.agg cs] h=some ([.c y],h')∧Own h.length h' y 1 (intC .u8 (locsT T)) (locsT T).length∧Kp h.length h h':=by
 obtain ⟨a,b,c,rfl,⟨ha,hal⟩,hb,hc⟩:=p
 have a1:∀{α:Type} (f:Cell→Option α),atK [.str T.name,a,b,.int .i64 T.ck,c] 1 f=f a:=fun _=>rfl
 have a2:∀{α:Type} (f:Cell→Option α),atK [.str T.name,a,b,.int .i64 T.ck,c] 2 f=f b:=fun _=>rfl
 have a4:∀{α:Type} (f:Cell→Option α),atK [.str T.name,a,b,.int .i64 T.ck,c] 4 f=f c:=fun _=>rfl
 have w:∀v:Int,0≤v % 256∧v % 256<((256:Nat):Int):=fun v=>by omega
 have w2:∀(v:Int) (S:Nat→Bool),0+Int.toNat (v % 256)*1<(boolL S 256).length:=fun v S=>by rw [boolL_len];omega
 have loop1:Lim (q121_F1 (R E) Lim E.glob) (q121_s1 ((0:Nat):Int) [.str T.name,a,b,.int .i64 T.ck,c] (boolL (fun q=>(T.inits.take 0).any fun p=>p.1 % 256==(q:Int)) 256) h)=some (.exit 0,q121_x1_1 [.str T.name,a,b,.int .i64 T.ck,c] (boolL (fun q=>(T.inits.take T.inits.length).any fun p=>p.1 % 256==(q:Int)) 256) h):=by
  refine Lim_count (fun i=>q121_s1 (i:Int) [.str T.name,a,b,.int .i64 T.ck,c] (boolL (fun q=>(T.inits.take i).any fun p=>p.1 % 256==(q:Int)) 256) h) 0 T.inits.length (by omega) (fun i _ hi=>?_) (Lim_exit ?_)
  ·have hq:T.inits[i]? = some T.inits[i]:=List.getElem?_eq_getElem hi
   generalize T.inits[i]=q at hq
   have:=hs.inits
   rw [q121_r1,a1,ha.len,if_pos (by simp;omega),a1,ha.get hi (by omega) (pairC_get _ _ _ hq).1,asI_ok,g_band255,if_pos (w _),if_pos (w2 _ _),g_succ (by omega),mark_next (S':=fun r=>(T.inits.take (i+1)).any fun p=>p.1 % 256==(r:Int)) (fun r _=>any_take_succ hq _)]
  ·rw [q121_r1,a1,ha.len,if_neg (by simp)]
 rw [List.take_length] at loop1
 generalize hS1:(fun q:Nat=>T.inits.any fun p=>p.1 % 256==(q:Int))=S1 at loop1
 have loop2:∀(t:Nat) (code:List Ins) (S:Nat→Bool),T.thr[t]? = some code→Lim (q121_F2 (R E) Lim E.glob) (q121_s2 (t:Int) ((0:Nat):Int) [.str T.name,a,b,.int .i64 T.ck,c] (boolL (fun q=>S q||(code.take 0).any fun i=>i.loc % 256==(q:Int)) 256) h)=some (.exit 4,q121_x2_5 (t:Int) [.str T.name,a,b,.int .i64 T.ck,c] (boolL (fun q=>S q||(code.take code.length).any fun i=>i.loc % 256==(q:Int)) 256) h):=by
  intro t code S ht
  obtain ⟨y,y1,y2,y3⟩:=hb.get (β:=Ex × St) ht
  refine Lim_count (fun i=>q121_s2 (t:Int) (i:Int) [.str T.name,a,b,.int .i64 T.ck,c] (boolL (fun q=>S q||(code.take i).any fun i=>i.loc % 256==(q:Int)) 256) h) 0 code.length (by omega) (fun i _ hi=>?_) (Lim_exit ?_)
  ·have hq:code[i]? = some code[i]:=List.getElem?_eq_getElem hi
   generalize code[i]=q at hq
   have:=hs.code code (List.mem_of_getElem? ht)
   rw [q121_r2,a2,y3,y1.len,if_pos (by simp;omega),a2,y3,y1.get hi (by omega) (codeC_cell hq (by omega) (c:=.int .i64 q.loc) rfl),asI_ok,g_band255,if_pos (w _),if_pos (w2 _ _),g_succ (by omega),mark_next (S':=fun r=>S r||(code.take (i+1)).any fun i=>i.loc % 256==(r:Int)) (fun r _=>by rw [any_take_succ hq,Bool.or_assoc])]
  ·rw [q121_r2,a2,y3,y1.len,if_neg (by simp)]
 have loop3:Lim (q121_F3 (R E) Lim E.glob) (q121_s3 ((0:Nat):Int) [.str T.name,a,b,.int .i64 T.ck,c] (boolL (fun q=>S1 q||(T.thr.take 0).any fun c=>c.any fun i=>i.loc % 256==(q:Int)) 256) h)=some (.exit 2,q121_x3_3 [.str T.name,a,b,.int .i64 T.ck,c] (boolL (fun q=>S1 q||(T.thr.take T.thr.length).any fun c=>c.any fun i=>i.loc % 256==(q:Int)) 256) h):=by
  refine Lim_count (fun t=>q121_s3 (t:Int) [.str T.name,a,b,.int .i64 T.ck,c] (boolL (fun q=>S1 q||(T.thr.take t).any fun c=>c.any fun i=>i.loc % 256==(q:Int)) 256) h) 0 T.thr.length (by omega) (fun t _ ht=>?_) (Lim_exit ?_)
  ·have hq:T.thr[t]? = some T.thr[t]:=List.getElem?_eq_getElem ht
   generalize T.thr[t]=code at hq
   have:=hs.thr
   have l2:=loop2 t code (fun q=>S1 q||(T.thr.take t).any fun c=>c.any fun i=>i.loc % 256==(q:Int)) hq
   rw [List.take_length,show ((0:Nat):Int)=0 from rfl] at l2
   have e0:boolL (fun q=>(S1 q||(T.thr.take t).any fun c=>c.any fun i=>i.loc % 256==(q:Int))||(code.take 0).any fun i=>i.loc % 256==(q:Int)) 256=boolL (fun q=>S1 q||(T.thr.take t).any fun c=>c.any fun i=>i.loc % 256==(q:Int)) 256:=boolL_congr fun q _=>by simp
   rw [e0] at l2
   rw [q121_r3,a2,hb.len,if_pos (by simp;omega),l2,bind_ok,q121_e2_5,g_succ (by omega)]
   congr 3
   exact boolL_congr fun q _=>by rw [any_take_succ hq,Bool.or_assoc]
  ·rw [q121_r3,a2,hb.len,if_neg (by simp)]
 rw [List.take_length] at loop3
 have e3:boolL (fun q=>S1 q||(T.thr.take 0).any fun c=>c.any fun i=>i.loc % 256==(q:Int)) 256=boolL S1 256:=boolL_congr fun q _=>by simp
 rw [e3,show ((0:Nat):Int)=0 from rfl] at loop3
 generalize hS2:(fun q:Nat=>S1 q||T.thr.any fun c=>c.any fun i=>i.loc % 256==(q:Int))=S2 at loop3
 have loop4:∀(t:Nat) (row:List Atm) (S:Nat→Bool),T.any[t]? = some row→Lim (q121_F4 (R E) Lim E.glob) (q121_s4 (t:Int) ((0:Nat):Int) [.str T.name,a,b,.int .i64 T.ck,c] (boolL (fun q=>S q||(row.take 0).any fun i=>i.loc % 256==(q:Int)) 256) h)=some (.exit 8,q121_x4_9 (t:Int) [.str T.name,a,b,.int .i64 T.ck,c] (boolL (fun q=>S q||(row.take row.length).any fun i=>i.loc % 256==(q:Int)) 256) h):=by
  intro t row S ht
  obtain ⟨y,y1,y2,y3⟩:=hc.get (β:=Ex × St) ht
  refine Lim_count (fun i=>q121_s4 (t:Int) (i:Int) [.str T.name,a,b,.int .i64 T.ck,c] (boolL (fun q=>S q||(row.take i).any fun i=>i.loc % 256==(q:Int)) 256) h) 0 row.length (by omega) (fun i _ hi=>?_) (Lim_exit ?_)
  ·have hq:row[i]? = some row[i]:=List.getElem?_eq_getElem hi
   generalize row[i]=q at hq
   have:=hs.row row (List.mem_of_getElem? ht)
   rw [q121_r4,a4,y3,y1.len,if_pos (by simp;omega),a4,y3,y1.get hi (by omega) (atmC_cell hq (by omega) (c:=.int .i64 q.loc) rfl),asI_ok,g_band255,if_pos (w _),if_pos (w2 _ _),g_succ (by omega),mark_next (S':=fun r=>S r||(row.take (i+1)).any fun i=>i.loc % 256==(r:Int)) (fun r _=>by rw [any_take_succ hq,Bool.or_assoc])]
  ·rw [q121_r4,a4,y3,y1.len,if_neg (by simp)]
 have loop5:Lim (q121_F5 (R E) Lim E.glob) (q121_s5 ((0:Nat):Int) [.str T.name,a,b,.int .i64 T.ck,c] (boolL (fun q=>S2 q||(T.any.take 0).any fun c=>c.any fun i=>i.loc % 256==(q:Int)) 256) h)=some (.exit 6,q121_x5_7 (boolL (fun q=>S2 q||(T.any.take T.any.length).any fun c=>c.any fun i=>i.loc % 256==(q:Int)) 256) h):=by
  refine Lim_count (fun t=>q121_s5 (t:Int) [.str T.name,a,b,.int .i64 T.ck,c] (boolL (fun q=>S2 q||(T.any.take t).any fun c=>c.any fun i=>i.loc % 256==(q:Int)) 256) h) 0 T.any.length (by omega) (fun t _ ht=>?_) (Lim_exit ?_)
  ·have hq:T.any[t]? = some T.any[t]:=List.getElem?_eq_getElem ht
   generalize T.any[t]=row at hq
   have:=hs.any
   have l2:=loop4 t row (fun q=>S2 q||(T.any.take t).any fun c=>c.any fun i=>i.loc % 256==(q:Int)) hq
   rw [List.take_length,show ((0:Nat):Int)=0 from rfl] at l2
   have e0:boolL (fun q=>(S2 q||(T.any.take t).any fun c=>c.any fun i=>i.loc % 256==(q:Int))||(row.take 0).any fun i=>i.loc % 256==(q:Int)) 256=boolL (fun q=>S2 q||(T.any.take t).any fun c=>c.any fun i=>i.loc % 256==(q:Int)) 256:=boolL_congr fun q _=>by simp
   rw [e0] at l2
   rw [q121_r5,a4,hc.len,if_pos (by simp;omega),l2,bind_ok,q121_e4_9,g_succ (by omega)]
   congr 3
   exact boolL_congr fun q _=>by rw [any_take_succ hq,Bool.or_assoc]
  ·rw [q121_r5,a4,hc.len,if_neg (by simp)]
 rw [List.take_length] at loop5
 have e5:boolL (fun q=>S2 q||(T.any.take 0).any fun c=>c.any fun i=>i.loc % 256==(q:Int)) 256=boolL S2 256:=boolL_congr fun q _=>by simp
 rw [e5,show ((0:Nat):Int)=0 from rfl] at loop5
 have hS3:(fun q:Nat=>S2 q||T.any.any fun c=>c.any fun i=>i.loc % 256==(q:Int))=thereT T:=by
  funext q;rw [←hS2,←hS1];rfl
 rw [hS3] at loop5
 have hm:maxBytes≥100:=by unfold maxBytes;omega
 obtain ⟨st,⟨y,h1,rfl,hy,hk⟩,hL⟩:=Lim_inv (F:=q121_F6 (R E) Lim E.glob) (fun i st=>∃y h1,st=q121_s6 y ((97+i:Nat):Int) (boolL (thereT T) 256) h1∧Own h.length h1 y 1 (intC .u8 (locsF (thereT T) i)) (locsF (thereT T) i).length∧Kp h.length h h1) 0 26 (by omega)
  (fun i st _ hi=>by
   rintro ⟨y,h1,rfl,hy,hk⟩
   have hlen:=locsF_len (thereT T) i
   have hw:E.glob.wrap .i32 (((97+i:Nat):Int)+1)=((97+(i+1):Nat):Int):=by
    show IntKind.wrap .i32 _=_
    simp only [IntKind.wrap,IntKind.signed,IntKind.bits,Bool.true_and]
    split
    ·rename_i hh;have hh:=of_decide_eq_true hh;omega
    ·omega
   have hw8:E.glob.wrap .u8 ((97+i:Nat):Int)=((97+i:Nat):Int):=by
    show IntKind.wrap .u8 _=_
    simp only [IntKind.wrap,IntKind.signed,IntKind.bits,Bool.false_and,Bool.false_eq_true,if_false];omega
   have hrd:q121_F6 (R E) Lim E.glob (q121_s6 y ((97+i:Nat):Int) (boolL (thereT T) 256) h1)=if thereT T (97+i)=true then appK 1 1 y [.int .u8 ((97+i:Nat):Int)] h1 fun x h'=>some (.normal,q121_s6 x ((97+(i+1):Nat):Int) (boolL (thereT T) 256) h') else some (.normal,q121_s6 y ((97+(i+1):Nat):Int) (boolL (thereT T) 256) h1):=by
    rw [q121_r6,if_pos (by simp;omega),if_pos ⟨by omega,by omega⟩,show 0+Int.toNat ((97+i:Nat):Int)*1=97+i by omega,atK_ok (boolL_get (show 97+i<256 by omega)),asB_ok,hw,hw8]
    rfl
   rw [hrd]
   by_cases ht:thereT T (97+i)=true
   ·obtain ⟨y2,h2,hap,hy2,hk2,_⟩:=hy.app (bytes:=1) (xs:=[.int .u8 ((97+i:Nat):Int)]) hk.1 rfl (by omega) (by omega) (by omega)
    refine ⟨_,by rw [if_pos ht,hap],y2,h2,rfl,?_,hk.trans hk2⟩
    rw [locsF_succ,if_pos ht,intC_snoc,List.length_append,List.length_singleton];exact hy2
   ·refine ⟨_,by rw [if_neg ht],y,h1,rfl,?_,hk⟩
    rw [locsF_succ,if_neg ht];exact hy) (st:=q121_s6 .nils ((97+0:Nat):Int) (boolL (thereT T) 256) h) ⟨.nils,h,rfl,Own.nil _ _ _,Kp.refl _ _⟩
 have hfin:q121_F6 (R E) Lim E.glob (q121_s6 y ((97+26:Nat):Int) (boolL (thereT T) 256) h1)=some (.exit 10,q121_x6_11 y h1):=by
  rw [q121_r6,if_neg (by simp)]
 have hr:=hL _ (Lim_exit hfin)
 refine ⟨y,h1,R_intro hE.fn ?_,hy,hk⟩
 have e1:boolL (fun q=>(T.inits.take 0).any fun p=>p.1 % 256==(q:Int)) 256=List.replicate 256 (Cell.bool false):=by rw [boolL_false];exact boolL_congr fun q _=>by simp
 rw [e1,show ((0:Nat):Int)=0 from rfl] at loop1
 rw [q121_eq,loop1,bind_ok,q121_e1_1,loop3,bind_ok,q121_e3_3,loop5,bind_ok,q121_e5_7,show (97:Int)=((97+0:Nat):Int) from rfl,hr,bind_ok,q121_e6_11]
end
end Jq

namespace Jq
open Go
theorem Own.keepK {n:Nat} {h h':AHeap} {x:Cell} {esz len:Nat} {cs:List Cell} (o:Own n h x esz cs len) (hk:Kp h.length h h'):Own n h' x esz cs len:=by
 refine ⟨o.1,o.2.imp id ?_⟩
 rintro ⟨k,e,hn,hb⟩
 exact ⟨k,e,hn,by rw [hk.blk (blk_lt' hb)];exact hb⟩
theorem Own.monoN {n m:Nat} (hm:m≤n) {h:AHeap} {x:Cell} {esz len:Nat} {cs:List Cell} (o:Own n h x esz cs len):Own m h x esz cs len :=
 ⟨o.1,o.2.imp id fun ⟨k,e,hn,hb⟩=>⟨k,e,by omega,hb⟩⟩
theorem Own.blkLt {n:Nat} {h:AHeap} {x:Cell} {esz len:Nat} {cs:List Cell} (o:Own n h x esz cs len) {k:Nat} (hk:isBlk x k):k<h.length∧n≤k:=by
 rcases o.2 with ⟨rfl,_⟩ | ⟨j,rfl,hn,hb⟩
 ·cases hk
 ·have:j=k:=hk
  subst this;exact ⟨blk_lt' hb,hn⟩
def RowsOwn {α:Type} (esz:Nat) (C:List α→List Cell) (n:Nat) (h:AHeap) (y:Cell) (rows:List (List α)):Prop :=
 ∃ts,Own n h y 1 ts rows.length∧∀(t:Nat) (r:List α),rows[t]? = some r→∃x:Cell,ts[t]? = some x∧Own n h x esz (C r) r.length∧∀k,isBlk x k→¬isBlk y k
section rows
variable {α:Type} {esz:Nat} {C:List α→List Cell} {n:Nat}
theorem RowsOwn.nil (h:AHeap):RowsOwn esz C n h .nils ([]:List (List α)):=⟨[],Own.nil _ _ _,fun t r hr=>by simp at hr⟩
theorem RowsOwn.keep {h h':AHeap} {y:Cell} {rows:List (List α)} (r:RowsOwn esz C n h y rows) (hk:Kp h.length h h'):RowsOwn esz C n h' y rows:=by
 obtain ⟨ts,h1,h2⟩:=r
 exact ⟨ts,h1.keepK hk,fun t r hr=>by obtain ⟨x,x1,x2,x3⟩:=h2 t r hr;exact ⟨x,x1,x2.keepK hk,x3⟩⟩
theorem RowsOwn.blkLt {h:AHeap} {y:Cell} {rows:List (List α)} (r:RowsOwn esz C n h y rows) {k:Nat} (hk:isBlk y k):k<h.length∧n≤k:=by
 obtain ⟨ts,h1,_⟩:=r;exact h1.blkLt hk
theorem RowsOwn.of {h:AHeap} {y:Cell} {rows:List (List α)} (r:RowsOwn esz C n h y rows):RowsOf esz C h y rows:=by
 obtain ⟨ts,h1,h2⟩:=r
 exact ⟨ts,h1.at,h1.low,fun t r hr=>by obtain ⟨x,x1,x2,_⟩:=h2 t r hr;exact ⟨x,x1,x2.at,x2.low⟩⟩
theorem RowsOwn.push {h:AHeap} {y x:Cell} {rows:List (List α)} {r:List α} (w:RowsOwn esz C n h y rows) (hx:Own n h x esz (C r) r.length) (hd:∀k,isBlk x k→¬isBlk y k) (hn:n≤h.length) (hl:rows.length≤2000) :
  ∃y' h',(∀{β:Type} (f:Cell→AHeap→Option β),appK 1 24 y [x] h f=f y' h')∧RowsOwn esz C n h' y' (rows++[r])∧Kp n h h'∧∀j b,blk? h j=some b→¬isBlk y j→blk? h' j=some b∧¬isBlk y' j:=by
 have hm:maxBytes≥2001*24:=by unfold maxBytes;omega
 obtain ⟨ts,h1,h2⟩:=w
 obtain ⟨y',h',ha,ho,hk,hf⟩:=h1.app (bytes:=24) (xs:=[x]) hn rfl (by omega) (by omega) (by omega)
 have mv:∀{z:Cell} {cs:List Cell} {len:Nat},Own n h z esz cs len→(∀k,isBlk z k→¬isBlk y k)→Own n h' z esz cs len∧∀k,isBlk z k→¬isBlk y' k:=by
  intro z cs len oz dz
  rcases oz.2 with e | ⟨k,e,hnk,hb⟩
  ·refine ⟨⟨oz.1,.inl e⟩,fun k hk=>?_⟩
   rw [e.1] at hk;cases hk
  ·have hik:isBlk z k:=by rw [e];rfl
   obtain ⟨b1,b2⟩:=hf k _ hb (dz k hik)
   refine ⟨⟨oz.1,.inr ⟨k,e,hnk,b1⟩⟩,fun j hj=>?_⟩
   rw [e] at hj
   have:k=j:=hj
   subst this;exact b2
 refine ⟨y',h',ha,⟨ts++[x],by rw [List.length_append,List.length_singleton];exact ho,fun t r' hr=>?_⟩,hk,hf⟩
 have hts:ts.length=rows.length:=by have:=h1.1;omega
 by_cases ht:t<rows.length
 ·rw [List.getElem?_append_left ht] at hr
  obtain ⟨z,z1,z2,z3⟩:=h2 t r' hr
  obtain ⟨w1,w2⟩:=mv z2 z3
  exact ⟨z,by rw [List.getElem?_append_left (by omega)];exact z1,w1,w2⟩
 ·rw [List.getElem?_append_right (by omega)] at hr
  have h0:t - rows.length=0:=by
   rcases Nat.eq_zero_or_pos (t - rows.length) with e | e
   ·exact e
   ·rw [List.getElem?_eq_none (by simp;omega)] at hr;cases hr
  rw [h0] at hr
  obtain rfl:r=r':=by simpa using hr
  obtain ⟨w1,w2⟩:=mv hx hd
  exact ⟨x,by rw [List.getElem?_append_right (by omega),show t - ts.length=0 by omega];rfl,w1,w2⟩
end rows
def plc:List Int→Int→Nat→Int
 | [],_,_=>-1
 | c :: t,x,i=>if c=x then i else plc t x (i+1)
def initV (l:List (Int × Int)) (c:Int):Int:=l.foldl (fun v p=>if p.1=c then p.2 else v) 0
def compI (locs:List Int) (i:Ins):Ins:=if i.loc≠0 then { i with loc:=plc locs i.loc 0 } else i
def compT (T:PTest):PProg:=⟨locsT T,(locsT T).map (initV T.inits),T.thr.map fun c=>c.map (compI (locsT T))⟩
theorem locsT_u8 {T:PTest} {x:Int} (h:x∈locsT T):97≤x∧x≤122:=by
 obtain ⟨c,h1,_,rfl⟩:=locsF_mem.1 h
 omega
section
variable {E:Env}
theorem Place_R (hE:q122_In E) {a b c:Cell} {locs:List Int} {h:AHeap} (ha:SlAt h a 1 (intC .u8 locs) locs.length) (hu:∀x∈locs,97≤x∧x≤122) (hl:locs.length≤100) (x:Int) :
  R E 122 [.agg [a,b,c],.c (.int .i64 x)] h=some ([.c (.int .i64 (plc locs x 0))],h):=by
 refine R_intro hE.fn ?_
 have a0:∀{α:Type} (f:Cell→Option α),atK [a,b,c] 0 f=f a:=fun _=>rfl
 have key:∀(t:List Int) (i:Nat),locs.drop i=t→(Lim (q122_F1 (R E) Lim E.glob) (q122_s1 x (i:Int) [a,b,c] h)).bind (fun p=>q122_k3 (R E) Lim E.glob h p.1 p.2)=some ([.c (.int .i64 (plc t x i))],h):=by
  intro t
  induction t with
  | nil =>
   intro i hd
   have hi:locs.length≤i:=by
    have:=congrArg List.length hd
    simp at this;omega
   have hr:q122_F1 (R E) Lim E.glob (q122_s1 x (i:Int) [a,b,c] h)=some (.exit 0,q122_x1_1 h):=by
    rw [q122_r1,a0,ha.len,if_neg (by simp;omega)]
   rw [Lim_exit hr,bind_ok,q122_e1_1];rfl
  | cons v t ih =>
   intro i hd
   have hi:i<locs.length:=by
    have:=congrArg List.length hd
    simp at this;omega
   have hv:locs[i]? = some v:=by
    have:=congrArg (fun z=>z[0]?) hd
    simpa [List.getElem?_drop] using this
   have hd2:locs.drop (i+1)=t:=by
    have:=congrArg (List.drop 1) hd
    simpa [List.drop_drop] using this
   have huv:=hu v (List.mem_of_getElem? hv)
   have hr:q122_F1 (R E) Lim E.glob (q122_s1 x (i:Int) [a,b,c] h)=if (v==x)=true then some (.ret,q122_x1_0 i h) else some (.normal,q122_s1 x ((i+1:Nat):Int) [a,b,c] h):=by
    rw [q122_r1,a0,ha.len,if_pos (by simp;omega),a0,ha.get1 hi (intC_get hv),asI_ok,g_wrap_i64 (by omega) (by omega),g_succ (by omega)]
   rw [plc]
   by_cases hvx:v=x
   ·rw [if_pos (by rw [hvx];exact beq_self_eq_true _)] at hr
    rw [Lim_ret hr,bind_ok,q122_e1_0,if_pos hvx]
   ·rw [if_neg (by rw [beq_iff_eq];exact hvx)] at hr
    rw [if_neg hvx]
    have:=ih (i+1) hd2
    cases hL:Lim (q122_F1 (R E) Lim E.glob) (q122_s1 x ((i+1:Nat):Int) [a,b,c] h) with
    | none=>rw [hL] at this;cases this
    | some p=>rw [Lim_next hr hL];rw [hL] at this;exact this
 rw [q122_eq]
 exact key locs 0 rfl
theorem ins_setloc {i:Ins} {v:Int}:i.cs.set 2 (.int .i64 v)=({ i with loc:=v }:Ins).cs:=rfl
theorem ins_splice {i:Ins}:splice (List.replicate 9 ci0) 0 i.cs=i.cs:=rfl
theorem ins_len19 (i:Ins):i.cs.length=1*9:=rfl
theorem initV_snoc (l:List (Int × Int)) (p:Int × Int) (c:Int):initV (l++[p]) c=if p.1=c then p.2 else initV l c:=by
 unfold initV;rw [List.foldl_append];rfl
def ProgOwn (n:Nat) (h:AHeap) (cs:List Cell) (P:PProg):Prop :=
 ∃(m:Nat) (a b y:Cell),cs=[a,b,y]∧n≤m∧m≤h.length∧(SlAt h a 1 (intC .u8 P.locs) P.locs.length∧Low m a)∧(SlAt h b 1 (intC .i64 P.init) P.init.length∧Low m b)∧RowsOwn 9 codeC m h y P.thr
theorem refCompile_S (hE:q101_In E) {cs:List Cell} {T:PTest} {h:AHeap} (p:TestAt h cs T) (hs:T.small) :
  ∃cs' h',R E 101 [.agg cs] h=some ([.agg cs'],h')∧ProgOwn h.length h' cs' (compT T)∧Kp h.length h h':=by
 obtain ⟨a,h1,hr1,ha,hk1⟩:=refLocs_R hE.c121 p hs
 have hll:(locsT T).length≤26:=locsF_len _ _
 have hu:=fun x (hx:x∈locsT T)=>locsT_u8 hx
 have p1:=p.keep hk1
 have hlen:=p.len
 obtain ⟨ta,tb,tc,hcs,⟨hta,htal⟩,htb,htc⟩:=p1
 have t1:∀{α:Type} (f:Cell→Option α),atK cs 1 f=f ta:=fun f=>by rw [hcs];rfl
 have t2:∀{α:Type} (f:Cell→Option α),atK cs 2 f=f tb:=fun f=>by rw [hcs];rfl
 have hat:=ha.at
 have hal:=ha.low
 have hm:maxBytes≥2000*72:=by unfold maxBytes;omega
 have pu:∀(x y z:Cell),([x,y,z]:List Cell).length=3:=fun _ _ _=>rfl
 have inner1:∀(i:Nat) (b:Cell) (h2:AHeap) (v:Int) (z:List Cell),(locsT T)[i]? = some v→Kp h1.length h1 h2 →
   Lim (q101_F1 (R E) Lim E.glob) (q101_s1 (i:Int) 0 ((0:Nat):Int) cs z [a,b,.nils] h2)=some (.exit 2,q101_x1_3 (i:Int) (initV T.inits v) cs z [a,b,.nils] h2):=by
  intro i b h2 v z hv hk
  have h0:(0:Int)=initV (T.inits.take 0) v:=rfl
  have he:initV T.inits v=initV (T.inits.take T.inits.length) v:=by rw [List.take_length]
  rw [he]
  rw [show q101_s1 (i:Int) 0 ((0:Nat):Int) cs z [a,b,.nils] h2=q101_s1 (i:Int) (initV (T.inits.take 0) v) ((0:Nat):Int) cs z [a,b,.nils] h2 from rfl]
  have huv:=hu v (List.mem_of_getElem? hv)
  refine Lim_count (fun k=>q101_s1 (i:Int) (initV (T.inits.take k) v) (k:Int) cs z [a,b,.nils] h2) 0 T.inits.length (by omega) (fun k _ hkk=>?_) (Lim_exit ?_)
  ·have hq:T.inits[k]? = some T.inits[k]:=List.getElem?_eq_getElem hkk
   generalize T.inits[k]=q at hq
   have:=hs.inits
   have hta2:=hta.keep htal hk
   rw [q101_r1,t1,hta2.len,if_pos (by simp;omega),t1,hta2.get hkk (by omega) (pairC_get _ _ _ hq).1,asI_ok,show ∀{α:Type} (f:Cell→Option α),atK [a,b,Cell.nils] 0 f=f a from fun _=>rfl,(hat.keep hal hk).get1 (getI_lt hv) (intC_get hv),asI_ok,g_wrap_i64 (by omega) (by omega),takeI_succ hq,initV_snoc]
   by_cases hqv:q.1=v
   ·rw [if_pos (by rw [hqv];exact beq_self_eq_true _),if_pos hqv,t1,hta2.get hkk (by omega) (pairC_get _ _ _ hq).2,asI_ok,g_succ (by omega)]
   ·rw [if_neg (by rw [beq_iff_eq];exact hqv),if_neg hqv,g_succ (by omega)]
  ·have hta2:=hta.keep htal hk
   rw [q101_r1,t1,hta2.len,if_neg (by simp)]
 obtain ⟨st,⟨b,h2,rfl,hb,hk2⟩,hL2⟩:=Lim_inv (F:=q101_F2 (R E) Lim E.glob) (fun i st=>∃b h2,st=q101_s2 (i:Int) cs [Cell.nils,Cell.nils,Cell.nils] [a,b,.nils] h2∧Own h1.length h2 b 1 (intC .i64 (((locsT T).map (initV T.inits)).take i)) i∧Kp h1.length h1 h2) 0 (locsT T).length (by omega)
  (fun i st _ hi=>by
   rintro ⟨b,h2,rfl,hb,hk⟩
   have hv:(locsT T)[i]? = some (locsT T)[i]:=List.getElem?_eq_getElem hi
   generalize (locsT T)[i]=v at hv
   have hin:=inner1 i b h2 v [Cell.nils,Cell.nils,Cell.nils] hv hk
   rw [show ((0:Nat):Int)=0 from rfl] at hin
   obtain ⟨b2,h3,hap,hb2,hk3,_⟩:=hb.app (bytes:=8) (xs:=[.int .i64 (initV T.inits v)]) hk.1 rfl (by omega) (by omega) (by omega)
   refine ⟨_,?_,b2,h3,rfl,?_,hk.trans hk3⟩
   ·rw [q101_r2,show ∀{α:Type} (f:Cell→Option α),atK [a,b,Cell.nils] 0 f=f a from fun _=>rfl,hat.len,if_pos (by simp;omega),hin,bind_ok,q101_e1_3,show ∀{α:Type} (f:Cell→Option α),atK [a,b,Cell.nils] 1 f=f b from fun _=>rfl,if_pos (show (splice [ci0] 0 [(.int .i64 (initV T.inits v))]).length=1*1 from rfl),show splice [ci0] 0 [(.int .i64 (initV T.inits v))]=[.int .i64 (initV T.inits v)] from rfl,hap,if_pos (show 1<([a,b,Cell.nils]:List Cell).length by simp),g_succ (by omega)]
    rfl
   ·rw [takeI_succ (p:=initV T.inits v) (by rw [List.getElem?_map,hv];rfl),intC_snoc];exact hb2) (st:=q101_s2 ((0:Nat):Int) cs [Cell.nils,Cell.nils,Cell.nils] [a,.nils,.nils] h1) ⟨.nils,h1,rfl,Own.nil _ _ _,Kp.refl _ _⟩
 have hfin2:q101_F2 (R E) Lim E.glob (q101_s2 ((locsT T).length:Int) cs [Cell.nils,Cell.nils,Cell.nils] [a,b,.nils] h2)=some (.exit 0,q101_x2_1 cs [Cell.nils,Cell.nils,Cell.nils] [a,b,.nils] h2):=by
  rw [q101_r2,show ∀{α:Type} (f:Cell→Option α),atK [a,b,Cell.nils] 0 f=f a from fun _=>rfl,hat.len,if_neg (by simp)]
 have hr2:=hL2 _ (Lim_exit hfin2)
 rw [List.take_of_length_le (by rw [List.length_map];exact Nat.le_refl _)] at hb
 have htb2:=htb.keep hk2
 have hat2:=hat.keep hal hk2
 have hal2:Low h2.length a:=Low_mono hk2.1 hal
 have hbt:=hb.at
 have hbl:=hb.low
 have inner2:∀(t:Nat) (code:List Ins) (y:Cell) (h3:AHeap),T.thr[t]? = some code→Kp h2.length h2 h3 →
   ∃x h4,Lim (q101_F3 (R E) Lim E.glob) (q101_s3 (t:Int) .nils ((0:Nat):Int) cs [Cell.nils,Cell.nils,Cell.nils] [a,b,y] h3)=some (.exit 6,q101_x3_7 (t:Int) x cs [Cell.nils,Cell.nils,Cell.nils] [a,b,y] h4)∧Own h3.length h4 x 9 (codeC (code.map (compI (locsT T)))) code.length∧Kp h3.length h3 h4:=by
  intro t code y h3 ht hk3
  obtain ⟨cx,c1x,c2x,c3x⟩:=(htb2.keep hk3).get (β:=Ex × St) ht
  have hcl:=hs.code code (List.mem_of_getElem? ht)
  obtain ⟨st,⟨x,h4,rfl,hx,hk4⟩,hL⟩:=Lim_inv (F:=q101_F3 (R E) Lim E.glob) (fun i st=>∃x h4,st=q101_s3 (t:Int) x (i:Int) cs [Cell.nils,Cell.nils,Cell.nils] [a,b,y] h4∧Own h3.length h4 x 9 (codeC ((code.map (compI (locsT T))).take i)) i∧Kp h3.length h3 h4) 0 code.length (by omega)
   (fun i st _ hi=>by
    rintro ⟨x,h4,rfl,hx,hk4⟩
    obtain ⟨cx',c1x',c2x',c3x'⟩:=((htb2.keep hk3).keep hk4).get (β:=Ex × St) ht
    have hq:code[i]? = some code[i]:=List.getElem?_eq_getElem hi
    generalize code[i]=q at hq
    obtain ⟨off,cs',hG,hle,hcc⟩:=c1x'.insG hq
    have hsn:(code.map (compI (locsT T)))[i]? = some (compI (locsT T) q):=by rw [List.getElem?_map,hq];rfl
    obtain ⟨x2,h5,hap,hx2,hk5,_⟩:=hx.app (bytes:=72) (xs:=(compI (locsT T) q).cs) hk4.1 rfl (by omega) (by omega) (by omega)
    refine ⟨_,?_,x2,h5,rfl,?_,hk4.trans hk5⟩
    ·rw [q101_r3,t2,c3x',c1x'.len,if_pos (by simp;omega),t2,c3x',hG,if_pos hle,hcc,if_pos ⟨rfl,rfl,rfl⟩,ins_loc,asI_ok]
     unfold compI at hap
     by_cases hz:q.loc≠0
     ·have hpl:=Place_R hE.c122 (b:=b) (c:=y) ((hat2.keep hal2 hk3).keep (Low_mono hk3.1 hal2) hk4) hu (by omega) q.loc
      rw [if_pos hz] at hap
      rw [if_pos (by rw [bne_iff_ne];exact hz),if_pos ⟨rfl,pu _ _ _⟩,ins_loc,asI_ok,hpl,c1_ok,asI_ok,if_pos (by rw [Ins.len];omega),ins_setloc,if_pos ⟨rfl,rfl⟩,if_pos ⟨rfl,by simp⟩,ins_splice,if_pos (ins_len19 _),hap,g_succ (by omega)]
     ·rw [if_neg hz] at hap
      rw [if_neg (by rw [bne_iff_ne];exact hz),if_pos ⟨rfl,rfl⟩,if_pos ⟨rfl,by simp⟩,ins_splice,if_pos (ins_len19 _),hap,g_succ (by omega)]
    ·rw [takeI_succ hsn,codeC_snoc];exact hx2) (st:=q101_s3 (t:Int) .nils ((0:Nat):Int) cs [Cell.nils,Cell.nils,Cell.nils] [a,b,y] h3) ⟨.nils,h3,rfl,Own.nil _ _ _,Kp.refl _ _⟩
  have hfin:q101_F3 (R E) Lim E.glob (q101_s3 (t:Int) x (code.length:Int) cs [Cell.nils,Cell.nils,Cell.nils] [a,b,y] h4)=some (.exit 6,q101_x3_7 (t:Int) x cs [Cell.nils,Cell.nils,Cell.nils] [a,b,y] h4):=by
   obtain ⟨cx',c1x',c2x',c3x'⟩:=((htb2.keep hk3).keep hk4).get (β:=Ex × St) ht
   rw [q101_r3,t2,c3x',c1x'.len,if_neg (by simp)]
  rw [List.take_of_length_le (by rw [List.length_map];exact Nat.le_refl _)] at hx
  exact ⟨x,h4,hL _ (Lim_exit hfin),hx,hk4⟩
 have hthl:=hs.thr
 obtain ⟨st,⟨y,h3,rfl,hy,hk3⟩,hL4⟩:=Lim_inv (F:=q101_F4 (R E) Lim E.glob) (fun t st=>∃y h3,st=q101_s4 (t:Int) cs [Cell.nils,Cell.nils,Cell.nils] [a,b,y] h3∧RowsOwn 9 codeC h2.length h3 y ((T.thr.map fun c=>c.map (compI (locsT T))).take t)∧Kp h2.length h2 h3) 0 T.thr.length (by omega)
  (fun t st _ ht=>by
   rintro ⟨y,h3,rfl,hy,hk3⟩
   have hq:T.thr[t]? = some T.thr[t]:=List.getElem?_eq_getElem ht
   generalize T.thr[t]=code at hq
   obtain ⟨x,h4,hin,hx,hk4⟩:=inner2 t code y h3 hq hk3
   rw [show ((0:Nat):Int)=0 from rfl] at hin
   have hsn:(T.thr.map fun c=>c.map (compI (locsT T)))[t]? = some (code.map (compI (locsT T))):=by rw [List.getElem?_map,hq];rfl
   have hxl:code.length=(code.map (compI (locsT T))).length:=by simp
   rw [hxl] at hx
   obtain ⟨y2,h5,hap,hy2,hk5,_⟩:=(hy.keep hk4).push (hx.monoN hk3.1) (fun k h1 h2=>by have:=(hx.blkLt h1).2;have:=(hy.blkLt h2).1;omega) (Nat.le_trans hk3.1 hk4.1) (by rw [List.length_take];omega)
   refine ⟨_,?_,y2,h5,rfl,?_,hk3.trans ((hk4.mono hk3.1).trans hk5)⟩
   ·rw [q101_r4,t2,htb2.len,if_pos (by simp;omega),hin,bind_ok,q101_e3_7,show ∀{α:Type} (f:Cell→Option α),atK [a,b,y] 2 f=f y from fun _=>rfl,if_pos (show (splice [Cell.nils] 0 [x]).length=1*1 from rfl),show splice [Cell.nils] 0 [x]=[x] from rfl,hap,if_pos (show 2<([a,b,y]:List Cell).length by simp),g_succ (by omega)]
    rfl
   ·rw [takeI_succ hsn];exact hy2) (st:=q101_s4 ((0:Nat):Int) cs [Cell.nils,Cell.nils,Cell.nils] [a,b,.nils] h2) ⟨.nils,h2,rfl,by rw [List.take_zero];exact RowsOwn.nil _,Kp.refl _ _⟩
 have hfin4:q101_F4 (R E) Lim E.glob (q101_s4 (T.thr.length:Int) cs [Cell.nils,Cell.nils,Cell.nils] [a,b,y] h3)=some (.exit 4,q101_x4_5 [Cell.nils,Cell.nils,Cell.nils] [a,b,y] h3):=by
  rw [q101_r4,t2,htb2.len,if_neg (by simp)]
 have hr4:=hL4 _ (Lim_exit hfin4)
 rw [List.take_of_length_le (by rw [List.length_map];exact Nat.le_refl _)] at hy
 refine ⟨[a,b,y],h3,R_intro hE.fn ?_,⟨h2.length,a,b,y,rfl,Nat.le_trans hk1.1 hk2.1,hk3.1,⟨hat2.keep hal2 hk3,hal2⟩,⟨?_,hbl⟩,hy⟩,hk1.trans ((hk2.mono hk1.1).trans (hk3.mono (Nat.le_trans hk1.1 hk2.1)))⟩
 ·rw [q101_eq,if_pos ⟨rfl,hlen⟩,hr1,c1_ok,asC_ok,show splice [Cell.nils,Cell.nils,Cell.nils] 0 [a]=[a,.nils,.nils] from rfl,if_pos ⟨rfl,rfl,rfl⟩,show (0:Int)=((0:Nat):Int) from rfl,hr2,bind_ok,q101_e2_1,show (0:Int)=((0:Nat):Int) from rfl,hr4,bind_ok,q101_e4_5,if_pos ⟨rfl,rfl⟩,if_pos ⟨rfl,rfl,rfl⟩,if_pos ⟨rfl,rfl⟩]
 ·have:=hbt.keep hbl hk3
  have e:(compT T).init.length=(locsT T).length:=by simp [compT]
  rw [e];exact this
theorem ProgOwn.at {n:Nat} {h:AHeap} {cs:List Cell} {P:PProg} (p:ProgOwn n h cs P):ProgAt h cs P:=by
 obtain ⟨m,a,b,y,rfl,h1,h2,⟨a1,a2⟩,⟨b1,b2⟩,hy⟩:=p
 obtain ⟨ts,y1,y2,y3⟩:=hy.of
 exact ⟨a,b,y,ts,rfl,⟨a1,Low_mono h2 a2⟩,⟨b1,Low_mono h2 b2⟩,⟨y1,y2⟩,y3⟩
end
end Jq

namespace Jq
open Go
def pairCs (p:Int × Int):List Cell:=[.int .i64 p.1,.int .i64 p.2]
section
variable {E:Env}
theorem any_sIns_Ins_R (hE:q155_In E) {x f:Cell} {l:List (Ins)} {h:AHeap} (hx:SlAt h x 9 (codeC l) l.length) (hl:l.length<9223372036854775807) (p:Ins→Bool)
  (hf:∀i∈l,∀{α:Type} (F:AV→AHeap→Option α),(fnK f fun g cs=>c1 (R E g ([.agg (i.cs)]++cs) h) F)=F (.c (.bool (p i))) h):R E 155 [.c x,.c f] h=some ([.c (.bool (l.any p))],h):=by
 have loop:∀(n i:Nat),i+n=l.length→∃r:Int,(Lim (q156_F1 (R E) Lim E.glob) (q156_s1 x f l.length (i:Int) h)).bind (fun q=>q156_k3 (R E) Lim E.glob h q.1 q.2)=some ([.c (.int .i64 r)],h)∧decide (r≥0)=(l.drop i).any p:=by
  intro n
  induction n with
  | zero =>
   intro i hi
   refine ⟨-1,?_,?_⟩
   ·have hr:q156_F1 (R E) Lim E.glob (q156_s1 x f l.length (i:Int) h)=some (.exit 0,q156_x1_1 h):=by rw [q156_r1,if_neg (by simp;omega)]
    rw [Lim_exit hr,bind_ok,q156_e1_1]
   ·rw [List.drop_of_length_le (by omega)];rfl
  | succ n ih =>
   intro i hi
   have hq:l[i]? = some l[i]:=List.getElem?_eq_getElem (by omega)
   have hdr:l.drop i=l[i] :: l.drop (i+1):=List.drop_eq_getElem_cons (by omega)
   generalize l[i]=q at hq hdr
   obtain ⟨off,c,g1,g2,g3⟩:=hx.insG hq
   have hp:=@hf q (List.mem_of_getElem? hq) (Ex × St)
   rw [hdr,List.any_cons]
   cases hb:p q with
   | true =>
    refine ⟨(i:Int),?_,?_⟩
    ·have hr:q156_F1 (R E) Lim E.glob (q156_s1 x f l.length (i:Int) h)=some (.ret,q156_x1_0 (i:Int) h):=by rw [q156_r1,if_pos (by simp;omega),g1,if_pos g2,g3,hp,asB_ok,hb,if_pos rfl]
     rw [Lim_ret hr,bind_ok,q156_e1_0]
    ·rw [Bool.true_or];exact decide_eq_true (by omega)
   | false =>
    obtain ⟨r,h1,h2⟩:=ih (i+1) (by omega)
    refine ⟨r,?_,by rw [Bool.false_or];exact h2⟩
    cases hL:Lim (q156_F1 (R E) Lim E.glob) (q156_s1 x f l.length ((i+1:Nat):Int) h) with
    | none=>rw [hL] at h1;cases h1
    | some w =>
     have hr:q156_F1 (R E) Lim E.glob (q156_s1 x f l.length (i:Int) h)=some (.normal,q156_s1 x f l.length ((i+1:Nat):Int) h):=by rw [q156_r1,if_pos (by simp;omega),g1,if_pos g2,g3,hp,asB_ok,hb,if_neg (by simp),g_succ (by omega)]
     rw [Lim_next hr hL]
     rw [hL] at h1;exact h1
 obtain ⟨r,h1,h2⟩:=loop l.length 0 (by omega)
 have h3:R E 156 [.c x,.c f] h=some ([.c (.int .i64 r)],h):=by
  refine R_intro hE.c156.fn ?_
  rw [q156_eq,hx.len];exact h1
 refine R_intro hE.fn ?_
 rw [q155_eq,h3,c1_ok,asI_ok,h2];rfl
end
end Jq

namespace Jq
open Go
variable (C:CallF) (L:LoopF) (G:Glo)
set_option maxRecDepth 100000 in
theorem q158_eq (a0:Int) (h0:AHeap):q158.body C L G [(.c (.int .i64 a0))] h0=scK (decide (a0≥97)) true (some ((decide (a0≤122)),h0)) false h0 fun b_1 h_2=>some ([(.c (.bool b_1))],h_2):=by kernel_rfl
set_option maxRecDepth 100000 in
theorem q159_eq (l0:List Cell) (x1:Cell) (h0:AHeap):q159.body C L G [(.agg l0),(.c x1)] h0=atK l0 0 fun q_1=>asI .i64 (.c q_1) fun n_2=>if 0=0∧(List.replicate 9 ci0).length=9∧(splice (List.replicate 9 ci0) 0 [(.int .i64 n_2)]).length=9 then atK l0 0 fun q_3=>asI .i64 (.c q_3) fun n_4=>if (n_4==1)=true then atK l0 2 fun q_5=>asI .i64 (.c q_5) fun n_6=>if 3+2≤l0.length then if 2<(splice (List.replicate 9 ci0) 0 [(.int .i64 n_2)]).length then if 3+2≤((splice (List.replicate 9 ci0) 0 [(.int .i64 n_2)]).set 2 (.int .i64 n_6)).length∧((l0.drop 3).take 2).length=2 then atK l0 2 fun q_7=>asI .i64 (.c q_7) fun n_8=>fnK x1 fun g_9 l_10=>c1 (C g_9 ([(.c (.int .i64 n_8))]++l_10) h0) fun y_12 h_11=>asB y_12 fun b_13=>scK b_13 true (if 3+2≤l0.length then c1 (C 163 [(.agg ((l0.drop 3).take 2))] h_11) fun y_15 h_14=>asB y_15 fun b_16=>some (b_16,h_14) else none) false h_11 fun b_17 h_18=>scK b_17 true (if 0=0∧l0.length=9 then if 0=0∧(splice ((splice (List.replicate 9 ci0) 0 [(.int .i64 n_2)]).set 2 (.int .i64 n_6)) 3 ((l0.drop 3).take 2)).length=9 then if alike l0 (List.replicate 9 ci0)=true∧alike (splice ((splice (List.replicate 9 ci0) 0 [(.int .i64 n_2)]).set 2 (.int .i64 n_6)) 3 ((l0.drop 3).take 2)) (List.replicate 9 ci0)=true then some ((decide (l0=(splice ((splice (List.replicate 9 ci0) 0 [(.int .i64 n_2)]).set 2 (.int .i64 n_6)) 3 ((l0.drop 3).take 2)))),h_18) else none else none else none) false h_18 fun b_19 h_20=>some ([(.c (.bool b_19))],h_20) else none else none else none else if (n_4==2)=true then atK l0 1 fun q_21=>asI .i64 (.c q_21) fun n_22=>atK l0 2 fun q_23=>asI .i64 (.c q_23) fun n_24=>if 1<(splice (List.replicate 9 ci0) 0 [(.int .i64 n_2)]).length then if 2<((splice (List.replicate 9 ci0) 0 [(.int .i64 n_2)]).set 1 (.int .i64 n_22)).length then atK l0 2 fun q_25=>asI .i64 (.c q_25) fun n_26=>fnK x1 fun g_27 l_28=>c1 (C g_27 ([(.c (.int .i64 n_26))]++l_28) h0) fun y_30 h_29=>asB y_30 fun b_31=>scK b_31 true (atK l0 1 fun q_32=>asI .i64 (.c q_32) fun n_33=>c1 (C 164 [(.c (.int .i64 n_33))] h_29) fun y_35 h_34=>asB y_35 fun b_36=>some (b_36,h_34)) false h_29 fun b_37 h_38=>scK b_37 true (if 0=0∧l0.length=9 then if 0=0∧(((splice (List.replicate 9 ci0) 0 [(.int .i64 n_2)]).set 1 (.int .i64 n_22)).set 2 (.int .i64 n_24)).length=9 then if alike l0 (List.replicate 9 ci0)=true∧alike (((splice (List.replicate 9 ci0) 0 [(.int .i64 n_2)]).set 1 (.int .i64 n_22)).set 2 (.int .i64 n_24)) (List.replicate 9 ci0)=true then some ((decide (l0=(((splice (List.replicate 9 ci0) 0 [(.int .i64 n_2)]).set 1 (.int .i64 n_22)).set 2 (.int .i64 n_24)))),h_38) else none else none else none) false h_38 fun b_39 h_40=>some ([(.c (.bool b_39))],h_40) else none else none else if (n_4==3)=true then scK true true (if 0=0∧l0.length=9 then if 0=0∧(splice (List.replicate 9 ci0) 0 [(.int .i64 n_2)]).length=9 then if alike l0 (List.replicate 9 ci0)=true∧alike (splice (List.replicate 9 ci0) 0 [(.int .i64 n_2)]) (List.replicate 9 ci0)=true then some ((decide (l0=(splice (List.replicate 9 ci0) 0 [(.int .i64 n_2)]))),h0) else none else none else none) false h0 fun b_41 h_42=>some ([(.c (.bool b_41))],h_42) else if (n_4==4)=true then atK l0 1 fun q_43=>asI .i64 (.c q_43) fun n_44=>atK l0 2 fun q_45=>asI .i64 (.c q_45) fun n_46=>if 3+2≤l0.length then if 6+2≤l0.length then if 1<(splice (List.replicate 9 ci0) 0 [(.int .i64 n_2)]).length then if 2<((splice (List.replicate 9 ci0) 0 [(.int .i64 n_2)]).set 1 (.int .i64 n_44)).length then if 3+2≤(((splice (List.replicate 9 ci0) 0 [(.int .i64 n_2)]).set 1 (.int .i64 n_44)).set 2 (.int .i64 n_46)).length∧((l0.drop 3).take 2).length=2 then if 6+2≤(splice (((splice (List.replicate 9 ci0) 0 [(.int .i64 n_2)]).set 1 (.int .i64 n_44)).set 2 (.int .i64 n_46)) 3 ((l0.drop 3).take 2)).length∧((l0.drop 6).take 2).length=2 then atK l0 2 fun q_47=>asI .i64 (.c q_47) fun n_48=>fnK x1 fun g_49 l_50=>c1 (C g_49 ([(.c (.int .i64 n_48))]++l_50) h0) fun y_52 h_51=>asB y_52 fun b_53=>scK b_53 true (atK l0 1 fun q_54=>asI .i64 (.c q_54) fun n_55=>c1 (C 164 [(.c (.int .i64 n_55))] h_51) fun y_57 h_56=>asB y_57 fun b_58=>some (b_58,h_56)) false h_51 fun b_59 h_60=>scK b_59 true (if 3+2≤l0.length then c1 (C 163 [(.agg ((l0.drop 3).take 2))] h_60) fun y_62 h_61=>asB y_62 fun b_63=>some (b_63,h_61) else none) false h_60 fun b_64 h_65=>scK b_64 true (if 6+2≤l0.length then c1 (C 163 [(.agg ((l0.drop 6).take 2))] h_65) fun y_67 h_66=>asB y_67 fun b_68=>some (b_68,h_66) else none) false h_65 fun b_69 h_70=>scK b_69 true (if 0=0∧l0.length=9 then if 0=0∧(splice (splice (((splice (List.replicate 9 ci0) 0 [(.int .i64 n_2)]).set 1 (.int .i64 n_44)).set 2 (.int .i64 n_46)) 3 ((l0.drop 3).take 2)) 6 ((l0.drop 6).take 2)).length=9 then if alike l0 (List.replicate 9 ci0)=true∧alike (splice (splice (((splice (List.replicate 9 ci0) 0 [(.int .i64 n_2)]).set 1 (.int .i64 n_44)).set 2 (.int .i64 n_46)) 3 ((l0.drop 3).take 2)) 6 ((l0.drop 6).take 2)) (List.replicate 9 ci0)=true then some ((decide (l0=(splice (splice (((splice (List.replicate 9 ci0) 0 [(.int .i64 n_2)]).set 1 (.int .i64 n_44)).set 2 (.int .i64 n_46)) 3 ((l0.drop 3).take 2)) 6 ((l0.drop 6).take 2)))),h_70) else none else none else none) false h_70 fun b_71 h_72=>some ([(.c (.bool b_71))],h_72) else none else none else none else none else none else none else if (n_4==5)=true then atK l0 1 fun q_73=>asI .i64 (.c q_73) fun n_74=>if 3+2≤l0.length then atK l0 5 fun q_75=>asI .i64 (.c q_75) fun n_76=>if 6+2≤l0.length then if 1<(splice (List.replicate 9 ci0) 0 [(.int .i64 n_2)]).length then if 3+2≤((splice (List.replicate 9 ci0) 0 [(.int .i64 n_2)]).set 1 (.int .i64 n_74)).length∧((l0.drop 3).take 2).length=2 then if 5<(splice ((splice (List.replicate 9 ci0) 0 [(.int .i64 n_2)]).set 1 (.int .i64 n_74)) 3 ((l0.drop 3).take 2)).length then if 6+2≤((splice ((splice (List.replicate 9 ci0) 0 [(.int .i64 n_2)]).set 1 (.int .i64 n_74)) 3 ((l0.drop 3).take 2)).set 5 (.int .i64 n_76)).length∧((l0.drop 6).take 2).length=2 then atK l0 1 fun q_77=>asI .i64 (.c q_77) fun n_78=>c1 (C 164 [(.c (.int .i64 n_78))] h0) fun y_80 h_79=>asB y_80 fun b_81=>scK b_81 true (if 3+2≤l0.length then c1 (C 163 [(.agg ((l0.drop 3).take 2))] h_79) fun y_83 h_82=>asB y_83 fun b_84=>some (b_84,h_82) else none) false h_79 fun b_85 h_86=>scK b_85 true (if 6+2≤l0.length then c1 (C 163 [(.agg ((l0.drop 6).take 2))] h_86) fun y_88 h_87=>asB y_88 fun b_89=>some (b_89,h_87) else none) false h_86 fun b_90 h_91=>scK b_90 true (atK l0 5 fun q_92=>asI .i64 (.c q_92) fun n_93=>some ((decide (n_93≥0)),h_91)) false h_91 fun b_94 h_95=>scK b_94 true (atK l0 5 fun q_96=>asI .i64 (.c q_96) fun n_97=>some ((decide (n_97≤11)),h_95)) false h_95 fun b_98 h_99=>scK b_98 true (atK l0 5 fun q_100=>asI .i64 (.c q_100) fun n_101=>scK (decide (n_101 > 0)) false (if 6+2≤l0.length then if alike ((l0.drop 6).take 2) ([ci0,ci0])=true∧alike (splice [ci0,ci0] 0 [(.int .i64 (-1))]) ([ci0,ci0])=true then some ((decide (((l0.drop 6).take 2)=(splice [ci0,ci0] 0 [(.int .i64 (-1))]))),h_99) else none else none) true h_99 fun b_102 h_103=>some (b_102,h_103)) false h_99 fun b_104 h_105=>scK b_104 true (if 0=0∧l0.length=9 then if 0=0∧(splice ((splice ((splice (List.replicate 9 ci0) 0 [(.int .i64 n_2)]).set 1 (.int .i64 n_74)) 3 ((l0.drop 3).take 2)).set 5 (.int .i64 n_76)) 6 ((l0.drop 6).take 2)).length=9 then if alike l0 (List.replicate 9 ci0)=true∧alike (splice ((splice ((splice (List.replicate 9 ci0) 0 [(.int .i64 n_2)]).set 1 (.int .i64 n_74)) 3 ((l0.drop 3).take 2)).set 5 (.int .i64 n_76)) 6 ((l0.drop 6).take 2)) (List.replicate 9 ci0)=true then some ((decide (l0=(splice ((splice ((splice (List.replicate 9 ci0) 0 [(.int .i64 n_2)]).set 1 (.int .i64 n_74)) 3 ((l0.drop 3).take 2)).set 5 (.int .i64 n_76)) 6 ((l0.drop 6).take 2)))),h_105) else none else none else none) false h_105 fun b_106 h_107=>some ([(.c (.bool b_106))],h_107) else none else none else none else none else none else none else if (n_4==6)=true then atK l0 8 fun q_108=>asI .i64 (.c q_108) fun n_109=>if 3+2≤l0.length then if 6+2≤l0.length then if 8<(splice (List.replicate 9 ci0) 0 [(.int .i64 n_2)]).length then if 3+2≤((splice (List.replicate 9 ci0) 0 [(.int .i64 n_2)]).set 8 (.int .i64 n_109)).length∧((l0.drop 3).take 2).length=2 then if 6+2≤(splice ((splice (List.replicate 9 ci0) 0 [(.int .i64 n_2)]).set 8 (.int .i64 n_109)) 3 ((l0.drop 3).take 2)).length∧((l0.drop 6).take 2).length=2 then atK l0 8 fun q_110=>asI .i64 (.c q_110) fun n_111=>scK (decide (n_111≥0)) true (if 3+2≤l0.length then c1 (C 163 [(.agg ((l0.drop 3).take 2))] h0) fun y_113 h_112=>asB y_113 fun b_114=>some (b_114,h_112) else none) false h0 fun b_115 h_116=>scK b_115 true (if 6+2≤l0.length then c1 (C 163 [(.agg ((l0.drop 6).take 2))] h_116) fun y_118 h_117=>asB y_118 fun b_119=>some (b_119,h_117) else none) false h_116 fun b_120 h_121=>scK b_120 true (if 0=0∧l0.length=9 then if 0=0∧(splice (splice ((splice (List.replicate 9 ci0) 0 [(.int .i64 n_2)]).set 8 (.int .i64 n_109)) 3 ((l0.drop 3).take 2)) 6 ((l0.drop 6).take 2)).length=9 then if alike l0 (List.replicate 9 ci0)=true∧alike (splice (splice ((splice (List.replicate 9 ci0) 0 [(.int .i64 n_2)]).set 8 (.int .i64 n_109)) 3 ((l0.drop 3).take 2)) 6 ((l0.drop 6).take 2)) (List.replicate 9 ci0)=true then some ((decide (l0=(splice (splice ((splice (List.replicate 9 ci0) 0 [(.int .i64 n_2)]).set 8 (.int .i64 n_109)) 3 ((l0.drop 3).take 2)) 6 ((l0.drop 6).take 2)))),h_121) else none else none else none) false h_121 fun b_122 h_123=>some ([(.c (.bool b_122))],h_123) else none else none else none else none else none else some ([(.c (.bool false))],h0) else none:=by kernel_rfl
set_option maxRecDepth 100000 in
theorem q163_eq (l0:List Cell) (h0:AHeap):q163.body C L G [(.agg l0)] h0=atK l0 0 fun q_1=>asI .i64 (.c q_1) fun n_2=>scK (n_2==(-1)) false (atK l0 0 fun q_3=>asI .i64 (.c q_3) fun n_4=>c1 (C 164 [(.c (.int .i64 n_4))] h0) fun y_6 h_5=>asB y_6 fun b_7=>scK b_7 true (atK l0 1 fun q_8=>asI .i64 (.c q_8) fun n_9=>some ((n_9==0),h_5)) false h_5 fun b_10 h_11=>some (b_10,h_11)) true h0 fun b_12 h_13=>some ([(.c (.bool b_12))],h_13):=by kernel_rfl
set_option maxRecDepth 100000 in
theorem q164_eq (a0:Int) (h0:AHeap):q164.body C L G [(.c (.int .i64 a0))] h0=scK (decide (a0≥0)) true (some ((decide (a0<4)),h0)) false h0 fun b_1 h_2=>some ([(.c (.bool b_1))],h_2):=by kernel_rfl
end Jq

namespace Jq
open Go
def locB (n:Int):Bool:=decide (n≥97)&&decide (n≤122)
def regB (n:Int):Bool:=decide (n≥0)&&decide (n<4)
def opB (o:Opd):Bool:=o.reg==-1||(regB o.reg&&o.val==0)
def fldB (has:Int→Bool) (i:Ins):Bool :=
 if i.kind=1 then has i.loc&&opB i.a&&decide (i.cs=(⟨i.kind,0,i.loc,i.a,0,⟨0,0⟩,0⟩:Ins).cs)
 else if i.kind=2 then has i.loc&&regB i.reg&&decide (i.cs=(⟨i.kind,i.reg,i.loc,⟨0,0⟩,0,⟨0,0⟩,0⟩:Ins).cs)
 else if i.kind=3 then decide (i.cs=(⟨i.kind,0,0,⟨0,0⟩,0,⟨0,0⟩,0⟩:Ins).cs)
 else if i.kind=4 then has i.loc&&regB i.reg&&opB i.a&&opB i.b&&decide (i.cs=(⟨i.kind,i.reg,i.loc,i.a,0,i.b,0⟩:Ins).cs)
 else if i.kind=5 then regB i.reg&&opB i.a&&opB i.b&&decide (i.op≥0)&&decide (i.op≤11)&&(decide (i.op > 0)||decide (i.b.cs=(⟨-1,0⟩:Opd).cs))&&decide (i.cs=(⟨i.kind,i.reg,0,i.a,i.op,i.b,0⟩:Ins).cs)
 else if i.kind=6 then decide (i.n≥0)&&opB i.a&&opB i.b&&decide (i.cs=(⟨i.kind,0,0,i.a,0,i.b,i.n⟩:Ins).cs)
 else false
section
variable {E:Env}
theorem IsLoc_R (hE:q158_In E) (n:Int) (h:AHeap):R E 158 [.c (.int .i64 n)] h=some ([.c (.bool (locB n))],h):=by
 refine R_intro hE.fn ?_
 rw [q158_eq,scK_and];rfl
theorem isReg_R (hE:q164_In E) (n:Int) (h:AHeap):R E 164 [.c (.int .i64 n)] h=some ([.c (.bool (regB n))],h):=by
 refine R_intro hE.fn ?_
 rw [q164_eq,scK_and];rfl
theorem isOperand_R (hE:q163_In E) (o:Opd) (h:AHeap):R E 163 [.agg o.cs] h=some ([.c (.bool (opB o))],h):=by
 refine R_intro hE.fn ?_
 have a0:∀{α:Type} (f:Cell→Option α),atK o.cs 0 f=f (.int .i64 o.reg):=fun _=>rfl
 have a1:∀{α:Type} (f:Cell→Option α),atK o.cs 1 f=f (.int .i64 o.val):=fun _=>rfl
 rw [q163_eq]
 simp only [a0,a1,asI_ok,isReg_R hE.c164,c1_ok,asB_ok,scK_and,scK_or]
 rfl
def Says (E:Env) (h:AHeap) (f:Cell) (has:Int→Bool):Prop:=∀(n:Int) {α:Type} (F:AV→AHeap→Option α),(fnK f fun g cs=>c1 (R E g ([.c (.int .i64 n)]++cs) h) F)=F (.c (.bool (has n))) h
theorem Fields_R (hE:q159_In E) (i:Ins) {f:Cell} {has:Int→Bool} {h:AHeap} (hf:Says E h f has):R E 159 [.agg i.cs,.c f] h=some ([.c (.bool (fldB has i))],h):=by
 refine R_intro hE.fn ?_
 rw [q159_eq,ins_kind,asI_ok,if_pos ⟨rfl,rfl,rfl⟩,ins_kind,asI_ok]
 by_cases h1:i.kind=1
 ·rw [if_pos (by simpa using h1),ins_loc,asI_ok,if_pos (by exact Nat.le_of_ble_eq_true rfl),if_pos (by exact Nat.le_of_ble_eq_true rfl),if_pos (by exact ⟨Nat.le_of_ble_eq_true rfl,rfl⟩),ins_loc,asI_ok,hf,asB_ok,if_pos (by exact Nat.le_of_ble_eq_true rfl),ins_a,isOperand_R hE.c163,c1_ok,asB_ok,scK_and,if_pos ⟨rfl,rfl⟩,if_pos ⟨rfl,rfl⟩,if_pos ⟨rfl,rfl⟩,scK_and,fldB,if_pos h1]
  rfl
 rw [if_neg (by simpa using h1)]
 by_cases h2:i.kind=2
 ·rw [if_pos (by simpa using h2),ins_reg,asI_ok,ins_loc,asI_ok,if_pos (by exact Nat.le_of_ble_eq_true rfl),if_pos (by exact Nat.le_of_ble_eq_true rfl),ins_loc,asI_ok,hf,asB_ok,ins_reg,asI_ok,isReg_R hE.c164,c1_ok,asB_ok,scK_and,if_pos ⟨rfl,rfl⟩,if_pos ⟨rfl,rfl⟩,if_pos ⟨rfl,rfl⟩,scK_and,fldB,if_neg h1,if_pos h2]
  rfl
 rw [if_neg (by simpa using h2)]
 by_cases h3:i.kind=3
 ·rw [if_pos (by simpa using h3),if_pos ⟨rfl,rfl⟩,if_pos ⟨rfl,rfl⟩,if_pos ⟨rfl,rfl⟩,scK_and,fldB,if_neg h1,if_neg h2,if_pos h3]
  rfl
 rw [if_neg (by simpa using h3)]
 by_cases h4:i.kind=4
 ·rw [if_pos (by simpa using h4),ins_reg,asI_ok,ins_loc,asI_ok,if_pos (by exact Nat.le_of_ble_eq_true rfl),if_pos (by exact Nat.le_of_ble_eq_true rfl),if_pos (by exact Nat.le_of_ble_eq_true rfl),if_pos (by exact Nat.le_of_ble_eq_true rfl),if_pos (by exact ⟨Nat.le_of_ble_eq_true rfl,rfl⟩),if_pos (by exact ⟨Nat.le_of_ble_eq_true rfl,rfl⟩),ins_loc,asI_ok,hf,asB_ok,ins_reg,asI_ok,isReg_R hE.c164,c1_ok,asB_ok,scK_and,if_pos (by exact Nat.le_of_ble_eq_true rfl),ins_a,isOperand_R hE.c163,c1_ok,asB_ok,scK_and,if_pos (by exact Nat.le_of_ble_eq_true rfl),ins_b,isOperand_R hE.c163,c1_ok,asB_ok,scK_and,if_pos ⟨rfl,rfl⟩,if_pos ⟨rfl,rfl⟩,if_pos ⟨rfl,rfl⟩,scK_and,fldB,if_neg h1,if_neg h2,if_neg h3,if_pos h4]
  rfl
 rw [if_neg (by simpa using h4)]
 by_cases h5:i.kind=5
 ·rw [if_pos (by simpa using h5),ins_reg,asI_ok,if_pos (by exact Nat.le_of_ble_eq_true rfl),ins_op,asI_ok,if_pos (by exact Nat.le_of_ble_eq_true rfl),if_pos (by exact Nat.le_of_ble_eq_true rfl),if_pos (by exact ⟨Nat.le_of_ble_eq_true rfl,rfl⟩),if_pos (by exact Nat.le_of_ble_eq_true rfl),if_pos (by exact ⟨Nat.le_of_ble_eq_true rfl,rfl⟩),ins_reg,asI_ok,isReg_R hE.c164,c1_ok,asB_ok,if_pos (by exact Nat.le_of_ble_eq_true rfl),ins_a,isOperand_R hE.c163,c1_ok,asB_ok,scK_and,if_pos (by exact Nat.le_of_ble_eq_true rfl),ins_b,isOperand_R hE.c163,c1_ok,asB_ok,scK_and,ins_op,asI_ok,scK_and,ins_op,asI_ok,scK_and,ins_op,asI_ok,if_pos (by exact Nat.le_of_ble_eq_true rfl),if_pos ⟨rfl,rfl⟩,scK_or,scK_and,if_pos ⟨rfl,rfl⟩,if_pos ⟨rfl,rfl⟩,if_pos ⟨rfl,rfl⟩,scK_and,fldB,if_neg h1,if_neg h2,if_neg h3,if_neg h4,if_pos h5]
  rfl
 rw [if_neg (by simpa using h5)]
 by_cases h6:i.kind=6
 ·rw [if_pos (by simpa using h6),ins_n,asI_ok,if_pos (by exact Nat.le_of_ble_eq_true rfl),if_pos (by exact Nat.le_of_ble_eq_true rfl),if_pos (by exact Nat.le_of_ble_eq_true rfl),if_pos (by exact ⟨Nat.le_of_ble_eq_true rfl,rfl⟩),if_pos (by exact ⟨Nat.le_of_ble_eq_true rfl,rfl⟩),ins_n,asI_ok,if_pos (by exact Nat.le_of_ble_eq_true rfl),ins_a,isOperand_R hE.c163,c1_ok,asB_ok,scK_and,if_pos (by exact Nat.le_of_ble_eq_true rfl),ins_b,isOperand_R hE.c163,c1_ok,asB_ok,scK_and,if_pos ⟨rfl,rfl⟩,if_pos ⟨rfl,rfl⟩,if_pos ⟨rfl,rfl⟩,scK_and,fldB,if_neg h1,if_neg h2,if_neg h3,if_neg h4,if_neg h5,if_pos h6]
  rfl
 rw [if_neg (by simpa using h6),fldB,if_neg h1,if_neg h2,if_neg h3,if_neg h4,if_neg h5,if_neg h6]
def chrB (b:UInt8) (first:Bool):Bool:=!((decide ((b.toNat:Int)<97)||decide ((b.toNat:Int) > 122))&&((first||decide ((b.toNat:Int)<48))||decide ((b.toNat:Int) > 57)))
def wordB (s:ByteArray):Bool:=(List.range s.size).all (fun i=>match s[i]? with | some b=>chrB b (i==0) | none=>true)&&!(s.toList==(ByteArray.mk #[]).toList)
def atmB (a:Atm):Bool:=if a.thread = -1 then (a.reg==0&&locB a.loc) else decide (a.thread≥0)&&decide (a.thread≤9)&&(a.loc==0)&&regB a.reg
def rowBad (r:List Atm):Bool:=r.length==0||r.any fun a=>!atmB a
def condB (ck:Int) (any:List (List Atm)):Bool:=if ck=0 then any.length==0 else (ck==1||ck==2)&&decide ((any.length:Int) > 0)&&!(any.any rowBad)
structure PTest.fits (T:PTest):Prop where
 name:T.name.size<9223372036854775807
 inits:T.inits.length<9223372036854775807
 thr:T.thr.length<9223372036854775807
 code:∀c∈T.thr,c.length<9223372036854775807
 any:T.any.length<9223372036854775807
 row:∀c∈T.any,c.length<9223372036854775807
def okT (T:PTest):Bool:=wordB T.name&&!(T.inits.any fun p=>!locB p.1)&&!(T.thr.any fun c=>c.any fun i=>!fldB locB i)&&condB T.ck T.any
end
end Jq

namespace Jq
open Go
variable (C:CallF) (L:LoopF) (G:Glo)
def q148_k2 (C:CallF) (L:LoopF) (G:Glo) (h0:AHeap):Ex→St→Option (List AV × AHeap):=kSeq (fun st=>q148_p1.exec C L G st (q148.fin G h0)) (q148.fin G h0)
def q148_k3 (C:CallF) (L:LoopF) (G:Glo) (h0:AHeap):Ex→St→Option (List AV × AHeap):=kBlk 0 (q148_k2 C L G h0)
def q148_s1 (x0 x5:Cell) (a6 a7:Int) (h:AHeap):St:=⟨.v (.c x0) :: tops 4 (.v (.c x5) :: .v (.c (.int .i64 a6)) :: .v (.c (.int .i64 a7)) :: tops 23 []),[none],h⟩
def q148_F1 (C:CallF) (L:LoopF) (G:Glo):St→Option (Ex × St):=roundF (fun st f=>q148_b1.exec C L G st f) [0,5,6,7] [] [(0,[2],[]),(1,[],[])]
def q148_x1_0 (b2:Bool) (h:AHeap):St:=⟨tops 2 (.v (.c (.bool b2)) :: tops 28 []),[none],h⟩
def q148_x1_1 (h:AHeap):St:=⟨tops 31 [],[none],h⟩
theorem q148_r1 (x0 x5:Cell) (a6 a7:Int) (h:AHeap):q148_F1 C L G (q148_s1 x0 x5 a6 a7 h)=if (decide (a7<a6))=true then idxSK 9 x5 a7 fun k_2 N_3 o_4=>rdH h k_2 N_3 fun l_5=>if o_4+9≤l_5.length then if 0=0∧(List.replicate 9 ci0).length=9∧((l_5.drop o_4).take 9).length=9 then atK ((l_5.drop o_4).take 9) 0 fun q_6=>asI .i64 (.c q_6) fun n_7=>scK (n_7==6) true (atK ((l_5.drop o_4).take 9) 8 fun q_8=>asI .i64 (.c q_8) fun n_9=>scK (decide (n_9<1)) false (atK ((l_5.drop o_4).take 9) 8 fun q_10=>asI .i64 (.c q_10) fun n_11=>lenK x0 fun n_12=>let v_13:Int:=(G.wrap .i64 ((G.wrap .i64 (n_12 - a7)) - 1));some ((decide (n_11 > v_13)),h)) true h fun b_14 h_15=>some (b_14,h_15)) false h fun b_16 h_17=>if b_16=true then some (.ret,(q148_x1_0 false h_17)) else some (.normal,(q148_s1 x0 x5 a6 (G.wrap .i64 (a7+1)) h_17)) else none else none else some ((.exit 0),(q148_x1_1 h)):=by kernel_rfl
theorem q148_e1_0 (h0:AHeap) (b2:Bool) (h:AHeap):(q148_k3 C L G h0) .ret (q148_x1_0 b2 h)=some ([(.c (.bool b2))],h):=by kernel_rfl
theorem q148_e1_1 (h0:AHeap) (h:AHeap):(q148_k3 C L G h0) (.exit 0) (q148_x1_1 h)=some ([(.c (.bool true))],h):=by kernel_rfl
set_option maxRecDepth 100000 in
theorem q148_eq (x0:Cell) (h0:AHeap):q148.body C L G [(.c x0)] h0=lenK x0 fun n_1=>(L (q148_F1 C L G) (q148_s1 x0 x0 n_1 0 h0)).bind fun p_18=>(q148_k3 C L G h0) p_18.1 p_18.2:=by kernel_rfl
end Jq

namespace Jq
open Go
def thereW (T:PTest) (b:Nat):Bool:=(T.inits.any fun p=>p.1==(b:Int))||(T.thr.any fun c=>c.any fun i=>i.loc==(b:Int))||(T.any.any fun c=>c.any fun a=>a.loc==(b:Int))
def LtAt (h0 h:AHeap) (S:Nat→Bool):Prop :=
 Kp h0.length h0 h∧∃m:Nat,m<2 ^ 26∧(∀i,i<26→m.testBit i=S (97+i))∧blk? h h0.length=some ⟨true,0,[.int .u64 (m:Int)]⟩
theorem LtAt.congr {h0 h:AHeap} {S S':Nat→Bool} (v:LtAt h0 h S) (hs:∀b,97≤b→b≤122→S' b=S b):LtAt h0 h S':=by
 obtain ⟨k,m,m1,m2,m3⟩:=v
 exact ⟨k,m,m1,fun i hi=>by rw [m2 i hi,hs (97+i) (by omega) (by omega)],m3⟩
section
variable {E:Env}
end
end Jq

namespace Jq
open Go
def locsW (T:PTest):List Int:=locsF (thereW T) 26
def jmpB (l:List Ins):Bool:=(List.range l.length).all fun k=>match l[k]? with | some i=>!(i.kind==6&&(decide (i.n<1)||decide (i.n > (l.length:Int) - k - 1))) | none=>true
def sumL (l:List (List Ins)):Int:=((l.map List.length).sum:Nat)
def bigB (T:PTest):Bool:=(T.thr.any fun c=>decide ((c.length:Int) > 10))||((((((T.thr.length:Int)==0||decide ((T.thr.length:Int) > 4)||decide (sumL T.thr > 24))||decide (((locsW T).length:Int) > 4))||decide ((T.any.length:Int) > 8))||(T.any.any fun r=>decide ((r.length:Int) > 8)))||decide ((T.name.size:Int) > 20))
def twB (l:List (Int × Int)):Bool:=(List.range l.length).any fun k=>match l[k]? with | some p=>(l.take k).any (fun q=>q.1==p.1) | none=>false
def outB (n:Nat) (a:Atm):Bool:=(a.thread != -1)&&decide (a.thread≥(n:Int))
def checkT (T:PTest):Int:=if (!okT T)=true then 1 else if bigB T=true then 8 else if twB T.inits=true then 9 else if (T.thr.any fun c=>!jmpB c)=true then 10 else if (T.any.any fun r=>r.any (outB T.thr.length))=true then 10 else 0
theorem PTest.small.fits {T:PTest} (s:T.small) (hn:T.name.size<9223372036854775807):T.fits :=
 ⟨hn,by have:=s.inits;omega,by have:=s.thr;omega,fun c hc=>by have:=s.code c hc;omega,by have:=s.any;omega,fun c hc=>by have:=s.row c hc;omega⟩
section
variable {E:Env}
theorem Jumps_R (hE:q148_In E) {x:Cell} {l:List Ins} {h:AHeap} (hx:SlAt h x 9 (codeC l) l.length) (hl:l.length<9223372036854775807):R E 148 [.c x] h=some ([.c (.bool (jmpB l))],h):=by
 refine R_intro hE.fn ?_
 have loop:∀(n i:Nat),i+n=l.length→(Lim (q148_F1 (R E) Lim E.glob) (q148_s1 x x l.length (i:Int) h)).bind (fun q=>q148_k3 (R E) Lim E.glob h q.1 q.2) =
   some ([.c (.bool ((List.range n).all fun k=>match l[i+k]? with | some q=>!(q.kind==6&&(decide (q.n<1)||decide (q.n > (l.length:Int) - ((i+k:Nat):Int) - 1))) | none=>true))],h):=by
  intro n
  induction n with
  | zero =>
   intro i hi
   have hr:q148_F1 (R E) Lim E.glob (q148_s1 x x l.length (i:Int) h)=some (.exit 0,q148_x1_1 h):=by rw [q148_r1,if_neg (by simp;omega)]
   rw [Lim_exit hr,bind_ok,q148_e1_1];rfl
  | succ n ih =>
   intro i hi
   have hq:l[i]? = some l[i]:=List.getElem?_eq_getElem (by omega)
   generalize l[i]=b at hq
   obtain ⟨off,cc,g1,g2,g3⟩:=hx.insG hq
   have hg:q148_F1 (R E) Lim E.glob (q148_s1 x x l.length (i:Int) h)=if (b.kind==6&&(decide (b.n<1)||decide (b.n > (l.length:Int) - (i:Int) - 1)))=true then some (.ret,q148_x1_0 false h) else some (.normal,q148_s1 x x l.length ((i+1:Nat):Int) h):=by
    rw [q148_r1,if_pos (by simp;omega),g1,if_pos g2,g3,if_pos ⟨rfl,rfl,rfl⟩,ins_kind,asI_ok,ins_n,asI_ok,ins_n,asI_ok,hx.len]
    dsimp only
    rw [g_wrap_i64 (x:=(l.length:Int) - (i:Int)) (by omega) (by omega),g_wrap_i64 (by omega) (by omega),scK_or,scK_and,g_succ (by omega)]
   rw [List.range_succ_eq_map,List.all_cons,List.all_map,Nat.add_zero,hq]
   dsimp only
   cases hb:(b.kind==6&&(decide (b.n<1)||decide (b.n > (l.length:Int) - (i:Int) - 1))) with
   | true =>
    rw [hb,if_pos rfl] at hg
    rw [Lim_ret hg,bind_ok,q148_e1_0];rfl
   | false =>
    rw [hb,if_neg (by simp)] at hg
    have h1:=ih (i+1) (by omega)
    rw [Bool.not_false,Bool.true_and]
    have he:((List.range n).all ((fun k=>match l[i+k]? with | some q=>!(q.kind==6&&(decide (q.n<1)||decide (q.n > (l.length:Int) - ((i+k:Nat):Int) - 1))) | none=>true) ∘ Nat.succ))=((List.range n).all fun k=>match l[i+1+k]? with | some q=>!(q.kind==6&&(decide (q.n<1)||decide (q.n > (l.length:Int) - ((i+1+k:Nat):Int) - 1))) | none=>true):=by
     congr 1
     funext k
     show (match l[i+(k+1)]? with | some q=>!(q.kind==6&&(decide (q.n<1)||decide (q.n > (l.length:Int) - ((i+(k+1):Nat):Int) - 1))) | none=>true)=_
     rw [show i+(k+1)=i+1+k by omega]
    rw [he]
    cases hL:Lim (q148_F1 (R E) Lim E.glob) (q148_s1 x x l.length ((i+1:Nat):Int) h) with
    | none=>rw [hL] at h1;cases h1
    | some w=>rw [Lim_next hg hL];rw [hL] at h1;exact h1
 have:=loop l.length 0 (by omega)
 rw [q148_eq,hx.len]
 rw [show ((0:Nat):Int)=0 from rfl] at this
 rw [this]
 unfold jmpB
 simp only [Nat.zero_add]
end
end Jq

namespace Jq
open Go
section
variable {E:Env}
theorem sumT_le (l:List (List Ins)) (h:∀c∈l,c.length≤1000):(l.map List.length).sum≤1000*l.length:=by
 induction l with
 | nil=>simp
 | cons a l ih =>
  have h1:=h a (by simp)
  have h2:=ih fun c hc=>h c (by simp [hc])
  rw [List.map_cons,List.sum_cons,List.length_cons];omega
theorem sumL_snoc (l:List (List Ins)) (c:List Ins):sumL (l++[c])=sumL l+c.length:=by
 unfold sumL;rw [List.map_append,List.sum_append];simp
end
end Jq

namespace Jq
open Go
variable (C:CallF) (L:LoopF) (G:Glo)
def q97_k2 (C:CallF) (L:LoopF) (G:Glo) (h0:AHeap):Ex→St→Option (List AV × AHeap):=kSeq (fun st=>q97_p1.exec C L G st (q97.fin G h0)) (q97.fin G h0)
def q97_c1 (a1:Int) (x7:Cell) (a8 a9:Int) (s0 s1:List Cell) (h:AHeap):St:=⟨tops 1 (.v (.c (.int .i64 a1)) :: tops 2 (.loc 0 0 :: .loc 1 0 :: tops 1 (.v (.c x7) :: .v (.c (.int .i64 a8)) :: .v (.c (.int .i64 a9)) :: tops 174 []))),[some s0,some s1,none],h⟩
def q97_k3 (C:CallF) (L:LoopF) (G:Glo) (h0:AHeap):Ex→St→Option (List AV × AHeap):=kSeq (fun st=>q97_p2.exec C L G st (q97.fin G h0)) (q97.fin G h0)
def q97_k4 (C:CallF) (L:LoopF) (G:Glo) (h0:AHeap):Ex→St→Option (List AV × AHeap):=kBlk 0 (q97_k3 C L G h0)
def q97_s2 (a1:Int) (x7:Cell) (a8 a9:Int) (a10 a11:Int) (s0 s1:List Cell) (h:AHeap):St:=⟨tops 1 (.v (.c (.int .i64 a1)) :: tops 2 (.loc 0 0 :: .loc 1 0 :: tops 1 (.v (.c x7) :: .v (.c (.int .i64 a8)) :: .v (.c (.int .i64 a9)) :: .v (.c (.int .i64 a10)) :: .v (.c (.int .i64 a11)) :: tops 172 []))),[some s0,some s1,none],h⟩
def q97_F2 (C:CallF) (L:LoopF) (G:Glo):St→Option (Ex × St):=roundF (fun st f=>q97_b2.exec C L G st f) [1,4,5,7,8,9,10,11] [0,1] [(1,[4,5,7],[0,1])]
def q97_k5 (C:CallF) (L:LoopF) (G:Glo):Ex→St→Option (Ex × St):=kSeq (fun st=>q97_p3.exec C L G st (kLoop [1,4,5,7,8,9,10,11] [0,1] [(1,[4,5,7],[0,1])])) (kLoop [1,4,5,7,8,9,10,11] [0,1] [(1,[4,5,7],[0,1])])
def q97_k6 (C:CallF) (L:LoopF) (G:Glo):Ex→St→Option (Ex × St):=kBlk 1 (q97_k5 C L G)
def q97_k7 (C:CallF) (L:LoopF) (G:Glo):Ex→St→Option (Ex × St):=kSeq (fun st=>q97_p4.exec C L G st (q97_k6 C L G)) (q97_k6 C L G)
def q97_k8 (C:CallF) (L:LoopF) (G:Glo):Ex→St→Option (Ex × St):=kBlk 2 (q97_k7 C L G)
def q97_s1 (a1:Int) (x7:Cell) (a8 a9:Int) (a10 a11:Int) (x12:Cell) (a13:Int) (s0 s1:List Cell) (h:AHeap):St:=⟨tops 1 (.v (.c (.int .i64 a1)) :: tops 2 (.loc 0 0 :: .loc 1 0 :: tops 1 (.v (.c x7) :: .v (.c (.int .i64 a8)) :: .v (.c (.int .i64 a9)) :: .v (.c (.int .i64 a10)) :: .v (.c (.int .i64 a11)) :: .v (.c x12) :: .v (.c (.int .i64 a13)) :: tops 170 []))),[some s0,some s1,none],h⟩
def q97_F1 (C:CallF) (L:LoopF) (G:Glo):St→Option (Ex × St):=roundF (fun st f=>q97_b1.exec C L G st f) [1,4,5,7,8,9,10,11,12,13] [0,1] [(3,[1,4,5,7,8,9,10,11,12],[0,1])]
def q97_k9 (C:CallF) (L:LoopF) (G:Glo):Ex→St→Option (Ex × St):=kSeq (fun st=>q97_p5.exec C L G st (kLoop [1,4,5,7,8,9,10,11,12,13] [0,1] [(3,[1,4,5,7,8,9,10,11,12],[0,1])])) (kLoop [1,4,5,7,8,9,10,11,12,13] [0,1] [(3,[1,4,5,7,8,9,10,11,12],[0,1])])
def q97_k10 (C:CallF) (L:LoopF) (G:Glo):Ex→St→Option (Ex × St):=kBlk 3 (q97_k9 C L G)
def q97_k11 (C:CallF) (L:LoopF) (G:Glo):Ex→St→Option (Ex × St):=kSeq (fun st=>q97_p6.exec C L G st (q97_k10 C L G)) (q97_k10 C L G)
def q97_c2 (a1:Int) (x7:Cell) (a8 a9:Int) (a10 a11:Int) (x12:Cell) (a13 a14 a15:Int) (s0 s1 s2:List Cell) (h:AHeap):St:=⟨tops 1 (.v (.c (.int .i64 a1)) :: tops 2 (.loc 0 0 :: .loc 1 0 :: tops 1 (.v (.c x7) :: .v (.c (.int .i64 a8)) :: .v (.c (.int .i64 a9)) :: .v (.c (.int .i64 a10)) :: .v (.c (.int .i64 a11)) :: .v (.c x12) :: .v (.c (.int .i64 a13)) :: .v (.c (.int .i64 a14)) :: .v (.c (.int .i64 a15)) :: .loc 2 0 :: tops 167 []))),[some s0,some s1,some s2],h⟩
def q97_k12 (C:CallF) (L:LoopF) (G:Glo):Ex→St→Option (Ex × St):=kBlk 4 (q97_k10 C L G)
def q97_k13 (C:CallF) (L:LoopF) (G:Glo):Ex→St→Option (Ex × St):=kSeq (fun st=>q97_p7.exec C L G st (q97_k12 C L G)) (q97_k12 C L G)
def q97_c3 (a1:Int) (x7:Cell) (a8 a9:Int) (a10 a11:Int) (x12:Cell) (a13 a15:Int) (a17 a83:Int) (b95:Bool) (s0 s1 s2:List Cell) (h:AHeap):St:=⟨tops 1 (.v (.c (.int .i64 a1)) :: tops 2 (.loc 0 0 :: .loc 1 0 :: tops 1 (.v (.c x7) :: .v (.c (.int .i64 a8)) :: .v (.c (.int .i64 a9)) :: .v (.c (.int .i64 a10)) :: .v (.c (.int .i64 a11)) :: .v (.c x12) :: .v (.c (.int .i64 a13)) :: tops 1 (.v (.c (.int .i64 a15)) :: .loc 2 0 :: .v (.c (.int .i64 a17)) :: tops 65 (.v (.c (.int .i64 a83)) :: tops 11 (.v (.c (.bool b95)) :: tops 88 [])))))),[some s0,some s1,some s2],h⟩
def q97_k14 (C:CallF) (L:LoopF) (G:Glo):Ex→St→Option (Ex × St):=kSeq (fun st=>q97_p8.exec C L G st (q97_k12 C L G)) (q97_k12 C L G)
def q97_c4 (a1:Int) (x7:Cell) (a8 a9:Int) (a10 a11:Int) (x12:Cell) (a13 a15:Int) (a17 a83:Int) (b108:Bool) (s0 s1 s2:List Cell) (h:AHeap):St:=⟨tops 1 (.v (.c (.int .i64 a1)) :: tops 2 (.loc 0 0 :: .loc 1 0 :: tops 1 (.v (.c x7) :: .v (.c (.int .i64 a8)) :: .v (.c (.int .i64 a9)) :: .v (.c (.int .i64 a10)) :: .v (.c (.int .i64 a11)) :: .v (.c x12) :: .v (.c (.int .i64 a13)) :: tops 1 (.v (.c (.int .i64 a15)) :: .loc 2 0 :: .v (.c (.int .i64 a17)) :: tops 65 (.v (.c (.int .i64 a83)) :: tops 24 (.v (.c (.bool b108)) :: tops 75 [])))))),[some s0,some s1,some s2],h⟩
def q97_x1_3 (a1:Int) (x7:Cell) (a8 a9:Int) (a10 a11:Int) (x12:Cell) (s0 s1:List Cell) (h:AHeap):St:=⟨tops 1 (.v (.c (.int .i64 a1)) :: tops 2 (.loc 0 0 :: .loc 1 0 :: tops 1 (.v (.c x7) :: .v (.c (.int .i64 a8)) :: .v (.c (.int .i64 a9)) :: .v (.c (.int .i64 a10)) :: .v (.c (.int .i64 a11)) :: .v (.c x12) :: tops 171 []))),[some s0,some s1,none],h⟩
def q97_x2_1 (x7:Cell) (s0 s1:List Cell) (h:AHeap):St:=⟨tops 4 (.loc 0 0 :: .loc 1 0 :: tops 1 (.v (.c x7) :: tops 176 [])),[some s0,some s1,none],h⟩
theorem q97_ec4_n (a1:Int) (x7:Cell) (a8 a9:Int) (a10 a11:Int) (x12:Cell) (a13 a15:Int) (a17 a83:Int) (b108:Bool) (s0 s1 s2:List Cell) (h:AHeap):(q97_k14 C L G) .normal (q97_c4 a1 x7 a8 a9 a10 a11 x12 a13 a15 a17 a83 b108 s0 s1 s2 h)=if b108=true then if (splice (splice (splice (List.replicate 9 ci0) 0 [(.int .i64 2)]) 1 [(.int .i64 a17)]) 2 [(.int .i64 a15)]).length=9∧0+9≤(List.replicate 9 ci0).length then if (splice (List.replicate 9 ci0) 0 (splice (splice (splice (List.replicate 9 ci0) 0 [(.int .i64 2)]) 1 [(.int .i64 a17)]) 2 [(.int .i64 a15)])).length=1*9 then appK 9 72 x12 (splice (List.replicate 9 ci0) 0 (splice (splice (splice (List.replicate 9 ci0) 0 [(.int .i64 2)]) 1 [(.int .i64 a17)]) 2 [(.int .i64 a15)])) h fun x_41 h_42=>some (.normal,(q97_s1 a1 x7 a8 a9 (G.wrap .i64 (a10+1)) a11 x_41 (G.wrap .i64 (a13 - 1)) s0 s1 h_42)) else none else none else if (a83==8)=true then if (splice (List.replicate 9 ci0) 0 [(.int .i64 3)]).length=9∧0+9≤(List.replicate 9 ci0).length then if (splice (List.replicate 9 ci0) 0 (splice (List.replicate 9 ci0) 0 [(.int .i64 3)])).length=1*9 then appK 9 72 x12 (splice (List.replicate 9 ci0) 0 (splice (List.replicate 9 ci0) 0 [(.int .i64 3)])) h fun x_43 h_44=>some (.normal,(q97_s1 a1 x7 a8 a9 a10 a11 x_43 (G.wrap .i64 (a13 - 1)) s0 s1 h_44)) else none else none else if (a83==9)=true then if 0=0∧s2.length=2 then if s2.length=2∧3+2≤(splice (splice (splice (List.replicate 9 ci0) 0 [(.int .i64 4)]) 1 [(.int .i64 a17)]) 2 [(.int .i64 a15)]).length then if (splice (splice [ci0,ci0] 0 [(.int .i64 (-1))]) 1 [(.int .i64 1)]).length=2∧6+2≤(splice (splice (splice (splice (List.replicate 9 ci0) 0 [(.int .i64 4)]) 1 [(.int .i64 a17)]) 2 [(.int .i64 a15)]) 3 s2).length then if (splice (splice (splice (splice (splice (List.replicate 9 ci0) 0 [(.int .i64 4)]) 1 [(.int .i64 a17)]) 2 [(.int .i64 a15)]) 3 s2) 6 (splice (splice [ci0,ci0] 0 [(.int .i64 (-1))]) 1 [(.int .i64 1)])).length=9∧0+9≤(List.replicate 9 ci0).length then if (splice (List.replicate 9 ci0) 0 (splice (splice (splice (splice (splice (List.replicate 9 ci0) 0 [(.int .i64 4)]) 1 [(.int .i64 a17)]) 2 [(.int .i64 a15)]) 3 s2) 6 (splice (splice [ci0,ci0] 0 [(.int .i64 (-1))]) 1 [(.int .i64 1)]))).length=1*9 then appK 9 72 x12 (splice (List.replicate 9 ci0) 0 (splice (splice (splice (splice (splice (List.replicate 9 ci0) 0 [(.int .i64 4)]) 1 [(.int .i64 a17)]) 2 [(.int .i64 a15)]) 3 s2) 6 (splice (splice [ci0,ci0] 0 [(.int .i64 (-1))]) 1 [(.int .i64 1)]))) h fun x_45 h_46=>some (.normal,(q97_s1 a1 x7 a8 a9 (G.wrap .i64 (a10+1)) a11 x_45 (G.wrap .i64 (a13 - 1)) s0 s1 h_46)) else none else none else none else none else none else if (a83==10)=true then if 0=0∧s2.length=2 then if s2.length=2∧3+2≤(splice (splice (List.replicate 9 ci0) 0 [(.int .i64 5)]) 1 [(.int .i64 a17)]).length then if ([(.int .i64 6)]:List Cell).length=1∧5+1≤(splice (splice (splice (List.replicate 9 ci0) 0 [(.int .i64 5)]) 1 [(.int .i64 a17)]) 3 s2).length then if (splice (splice [ci0,ci0] 0 [(.int .i64 (-1))]) 1 [(.int .i64 1)]).length=2∧6+2≤(splice (splice (splice (splice (List.replicate 9 ci0) 0 [(.int .i64 5)]) 1 [(.int .i64 a17)]) 3 s2) 5 [(.int .i64 6)]).length then if (splice (splice (splice (splice (splice (List.replicate 9 ci0) 0 [(.int .i64 5)]) 1 [(.int .i64 a17)]) 3 s2) 5 [(.int .i64 6)]) 6 (splice (splice [ci0,ci0] 0 [(.int .i64 (-1))]) 1 [(.int .i64 1)])).length=9∧0+9≤(List.replicate 9 ci0).length then if (splice (List.replicate 9 ci0) 0 (splice (splice (splice (splice (splice (List.replicate 9 ci0) 0 [(.int .i64 5)]) 1 [(.int .i64 a17)]) 3 s2) 5 [(.int .i64 6)]) 6 (splice (splice [ci0,ci0] 0 [(.int .i64 (-1))]) 1 [(.int .i64 1)]))).length=1*9 then appK 9 72 x12 (splice (List.replicate 9 ci0) 0 (splice (splice (splice (splice (splice (List.replicate 9 ci0) 0 [(.int .i64 5)]) 1 [(.int .i64 a17)]) 3 s2) 5 [(.int .i64 6)]) 6 (splice (splice [ci0,ci0] 0 [(.int .i64 (-1))]) 1 [(.int .i64 1)]))) h fun x_47 h_48=>some (.normal,(q97_s1 a1 x7 a8 a9 a10 a11 x_47 (G.wrap .i64 (a13 - 1)) s0 s1 h_48)) else none else none else none else none else none else none else if 0=0∧s2.length=2 then if s2.length=2∧3+2≤(splice (List.replicate 9 ci0) 0 [(.int .i64 6)]).length then if (splice [ci0,ci0] 0 [(.int .i64 (-1))]).length=2∧6+2≤(splice (splice (List.replicate 9 ci0) 0 [(.int .i64 6)]) 3 s2).length then if ([(.int .i64 1)]:List Cell).length=1∧8+1≤(splice (splice (splice (List.replicate 9 ci0) 0 [(.int .i64 6)]) 3 s2) 6 (splice [ci0,ci0] 0 [(.int .i64 (-1))])).length then if (splice (splice [ci0,ci0] 0 [(.int .i64 (-1))]) 1 [(.int .i64 2)]).length=2∧3+2≤(splice (splice (List.replicate 9 ci0) 0 [(.int .i64 1)]) 2 [(.int .i64 a15)]).length then if (splice (splice (splice (splice (List.replicate 9 ci0) 0 [(.int .i64 6)]) 3 s2) 6 (splice [ci0,ci0] 0 [(.int .i64 (-1))])) 8 [(.int .i64 1)]).length=9∧0+9≤(List.replicate 18 ci0).length then if (splice (splice (splice (List.replicate 9 ci0) 0 [(.int .i64 1)]) 2 [(.int .i64 a15)]) 3 (splice (splice [ci0,ci0] 0 [(.int .i64 (-1))]) 1 [(.int .i64 2)])).length=9∧9+9≤(splice (List.replicate 18 ci0) 0 (splice (splice (splice (splice (List.replicate 9 ci0) 0 [(.int .i64 6)]) 3 s2) 6 (splice [ci0,ci0] 0 [(.int .i64 (-1))])) 8 [(.int .i64 1)])).length then if (splice (splice (List.replicate 18 ci0) 0 (splice (splice (splice (splice (List.replicate 9 ci0) 0 [(.int .i64 6)]) 3 s2) 6 (splice [ci0,ci0] 0 [(.int .i64 (-1))])) 8 [(.int .i64 1)])) 9 (splice (splice (splice (List.replicate 9 ci0) 0 [(.int .i64 1)]) 2 [(.int .i64 a15)]) 3 (splice (splice [ci0,ci0] 0 [(.int .i64 (-1))]) 1 [(.int .i64 2)]))).length=2*9 then appK 9 72 x12 (splice (splice (List.replicate 18 ci0) 0 (splice (splice (splice (splice (List.replicate 9 ci0) 0 [(.int .i64 6)]) 3 s2) 6 (splice [ci0,ci0] 0 [(.int .i64 (-1))])) 8 [(.int .i64 1)])) 9 (splice (splice (splice (List.replicate 9 ci0) 0 [(.int .i64 1)]) 2 [(.int .i64 a15)]) 3 (splice (splice [ci0,ci0] 0 [(.int .i64 (-1))]) 1 [(.int .i64 2)]))) h fun x_49 h_50=>some (.normal,(q97_s1 a1 x7 a8 a9 (G.wrap .i64 (a10+1)) a11 x_49 (G.wrap .i64 (a13 - 1)) s0 s1 h_50)) else none else none else none else none else none else none else none else none:=by kernel_rfl
theorem q97_ec3_n (a1:Int) (x7:Cell) (a8 a9:Int) (a10 a11:Int) (x12:Cell) (a13 a15:Int) (a17 a83:Int) (b95:Bool) (s0 s1 s2:List Cell) (h:AHeap):(q97_k13 C L G) .normal (q97_c3 a1 x7 a8 a9 a10 a11 x12 a13 a15 a17 a83 b95 s0 s1 s2 h)=if b95=true then if 0=0∧s2.length=2 then if s2.length=2∧3+2≤(splice (splice (List.replicate 9 ci0) 0 [(.int .i64 1)]) 2 [(.int .i64 a15)]).length then if (splice (splice (splice (List.replicate 9 ci0) 0 [(.int .i64 1)]) 2 [(.int .i64 a15)]) 3 s2).length=9∧0+9≤(List.replicate 9 ci0).length then if (splice (List.replicate 9 ci0) 0 (splice (splice (splice (List.replicate 9 ci0) 0 [(.int .i64 1)]) 2 [(.int .i64 a15)]) 3 s2)).length=1*9 then appK 9 72 x12 (splice (List.replicate 9 ci0) 0 (splice (splice (splice (List.replicate 9 ci0) 0 [(.int .i64 1)]) 2 [(.int .i64 a15)]) 3 s2)) h fun x_39 h_40=>some (.normal,(q97_s1 a1 x7 a8 a9 (G.wrap .i64 (a10+1)) a11 x_39 (G.wrap .i64 (a13 - 1)) s0 s1 h_40)) else none else none else none else none else (if (a83==4)=true then some (.normal,(q97_c4 a1 x7 a8 a9 a10 a11 x12 a13 a15 a17 a83 (a83==4) s0 s1 s2 h)) else if (a83==5)=true then some (.normal,(q97_c4 a1 x7 a8 a9 a10 a11 x12 a13 a15 a17 a83 (a83==5) s0 s1 s2 h)) else if (a83==6)=true then some (.normal,(q97_c4 a1 x7 a8 a9 a10 a11 x12 a13 a15 a17 a83 (a83==6) s0 s1 s2 h)) else some (.normal,(q97_c4 a1 x7 a8 a9 a10 a11 x12 a13 a15 a17 a83 (a83==7) s0 s1 s2 h)):Option (Ex × St)).bind fun p_51=>(q97_k14 C L G) p_51.1 p_51.2:=by kernel_rfl
theorem q97_ec2_n (a1:Int) (x7:Cell) (a8 a9:Int) (a10 a11:Int) (x12:Cell) (a13 a14 a15:Int) (s0 s1 s2:List Cell) (h:AHeap):(q97_k11 C L G) .normal (q97_c2 a1 x7 a8 a9 a10 a11 x12 a13 a14 a15 s0 s1 s2 h)=(if ((G.rem .i64 a14 12)==0)=true then some (.normal,(q97_c3 a1 x7 a8 a9 a10 a11 x12 a13 a15 (G.band .i64 (G.shr .i64 a14 11) 1) (G.rem .i64 a14 12) ((G.rem .i64 a14 12)==0) s0 s1 s2 h)) else if ((G.rem .i64 a14 12)==1)=true then some (.normal,(q97_c3 a1 x7 a8 a9 a10 a11 x12 a13 a15 (G.band .i64 (G.shr .i64 a14 11) 1) (G.rem .i64 a14 12) ((G.rem .i64 a14 12)==1) s0 s1 s2 h)) else if ((G.rem .i64 a14 12)==2)=true then some (.normal,(q97_c3 a1 x7 a8 a9 a10 a11 x12 a13 a15 (G.band .i64 (G.shr .i64 a14 11) 1) (G.rem .i64 a14 12) ((G.rem .i64 a14 12)==2) s0 s1 s2 h)) else some (.normal,(q97_c3 a1 x7 a8 a9 a10 a11 x12 a13 a15 (G.band .i64 (G.shr .i64 a14 11) 1) (G.rem .i64 a14 12) ((G.rem .i64 a14 12)==3) s0 s1 s2 h)):Option (Ex × St)).bind fun p_52=>(q97_k13 C L G) p_52.1 p_52.2:=by kernel_rfl
theorem q97_r1 (a1:Int) (x7:Cell) (a8 a9:Int) (a10 a11:Int) (x12:Cell) (a13:Int) (s0 s1:List Cell) (h:AHeap):q97_F1 C L G (q97_s1 a1 x7 a8 a9 a10 a11 x12 a13 s0 s1 h)=scK (decide (a13 > 0)) true (some ((decide (a10<a1)),h)) false h fun b_31 h_32=>if b_31=true then fnK x7 fun g_33 l_34=>c1 (C g_33 ([]++l_34) h_32) fun y_36 h_35=>asI .i64 y_36 fun n_37=>if a9=0 then none else let v_38:Int:=(G.wrap .i64 (120+(G.rem .i64 (G.shr .i64 n_37 4) a9)));if 0=0∧[ci0,ci0].length=2∧(splice (splice [ci0,ci0] 0 [(.int .i64 (-1))]) 1 [(.int .i64 (G.rem .i64 (G.shr .i64 n_37 6) 3))]).length=2 then (if ((G.rem .i64 (G.shr .i64 n_37 8) 3)==0)=true then if 0=0∧(splice (splice [ci0,ci0] 0 [(.int .i64 (-1))]) 1 [(.int .i64 (G.rem .i64 (G.shr .i64 n_37 6) 3))]).length=2∧(splice [ci0,ci0] 0 [(.int .i64 (G.band .i64 (G.shr .i64 n_37 10) 1))]).length=2 then some (.normal,(q97_c2 a1 x7 a8 a9 a10 a11 x12 a13 n_37 v_38 s0 s1 (splice [ci0,ci0] 0 [(.int .i64 (G.band .i64 (G.shr .i64 n_37 10) 1))]) h_35)) else none else some (.normal,(q97_c2 a1 x7 a8 a9 a10 a11 x12 a13 n_37 v_38 s0 s1 (splice (splice [ci0,ci0] 0 [(.int .i64 (-1))]) 1 [(.int .i64 (G.rem .i64 (G.shr .i64 n_37 6) 3))]) h_35)):Option (Ex × St)).bind fun p_53=>(q97_k11 C L G) p_53.1 p_53.2 else none else some ((.exit 2),(q97_x1_3 a1 x7 a8 a9 a10 a11 x12 s0 s1 h_32)):=by kernel_rfl
theorem q97_e1_3 (a1:Int) (x7:Cell) (a8 a9:Int) (a10 a11:Int) (x12:Cell) (s0 s1:List Cell) (h:AHeap):(q97_k8 C L G) (.exit 2) (q97_x1_3 a1 x7 a8 a9 a10 a11 x12 s0 s1 h)=atK s1 2 fun q_54=>if (splice [Cell.nils] 0 [x12]).length=1*1 then appK 1 24 q_54 (splice [Cell.nils] 0 [x12]) h fun x_55 h_56=>if 2<s1.length then some (.normal,(q97_s2 a1 x7 a8 a9 a10 (G.wrap .i64 (a11+1)) s0 (s1.set 2 x_55) h_56)) else none else none:=by kernel_rfl
theorem q97_r2 (a1:Int) (x7:Cell) (a8 a9:Int) (a10 a11:Int) (s0 s1:List Cell) (h:AHeap):q97_F2 C L G (q97_s2 a1 x7 a8 a9 a10 a11 s0 s1 h)=if (decide (a11<a8))=true then fnK x7 fun g_26 l_27=>c1 (C g_26 ([]++l_27) h) fun y_29 h_28=>asI .i64 y_29 fun n_30=>(L (q97_F1 C L G) (q97_s1 a1 x7 a8 a9 a10 a11 .nils (G.wrap .i64 ((G.rem .i64 n_30 3)+1)) s0 s1 h_28)).bind fun p_57=>(q97_k8 C L G) p_57.1 p_57.2 else some ((.exit 0),(q97_x2_1 x7 s0 s1 h)):=by kernel_rfl
theorem q97_e2_1 (h0:AHeap) (x7:Cell) (s0 s1:List Cell) (h:AHeap):(q97_k4 C L G h0) (.exit 0) (q97_x2_1 x7 s0 s1 h)=fnK x7 fun g_58 l_59=>c1 (C g_58 ([]++l_59) h) fun y_61 h_60=>asI .i64 y_61 fun n_62=>if ((G.rem .i64 n_62 3)==0)=true then let v_63:Int:=(G.wrap .i64 ((G.rem .i64 (G.quo .i64 n_62 3) 2)+1));if (splice (splice (splice [ci0,ci0,ci0,ci0] 0 [(.int .i64 0)]) 1 [(.int .i64 (G.band .i64 (G.shr .i64 n_62 3) 1))]) 3 [(.int .i64 (G.band .i64 (G.shr .i64 n_62 4) 1))]).length=4∧0+4≤[ci0,ci0,ci0,ci0].length then if (splice [ci0,ci0,ci0,ci0] 0 (splice (splice (splice [ci0,ci0,ci0,ci0] 0 [(.int .i64 0)]) 1 [(.int .i64 (G.band .i64 (G.shr .i64 n_62 3) 1))]) 3 [(.int .i64 (G.band .i64 (G.shr .i64 n_62 4) 1))])).length=1*4 then if (splice (splice (splice [ci0,ci0,ci0,ci0] 0 [(.int .i64 (-1))]) 2 [(.int .i64 120)]) 3 [(.int .i64 (G.rem .i64 (G.shr .i64 n_62 5) 3))]).length=4∧0+4≤(List.replicate 8 ci0).length then if (splice (splice (splice [ci0,ci0,ci0,ci0] 0 [(.int .i64 1)]) 1 [(.int .i64 0)]) 3 [(.int .i64 (G.band .i64 (G.shr .i64 n_62 7) 1))]).length=4∧4+4≤(splice (List.replicate 8 ci0) 0 (splice (splice (splice [ci0,ci0,ci0,ci0] 0 [(.int .i64 (-1))]) 2 [(.int .i64 120)]) 3 [(.int .i64 (G.rem .i64 (G.shr .i64 n_62 5) 3))])).length then if (splice (splice (List.replicate 8 ci0) 0 (splice (splice (splice [ci0,ci0,ci0,ci0] 0 [(.int .i64 (-1))]) 2 [(.int .i64 120)]) 3 [(.int .i64 (G.rem .i64 (G.shr .i64 n_62 5) 3))])) 4 (splice (splice (splice [ci0,ci0,ci0,ci0] 0 [(.int .i64 1)]) 1 [(.int .i64 0)]) 3 [(.int .i64 (G.band .i64 (G.shr .i64 n_62 7) 1))])).length=2*4 then if (splice (splice [Cell.nils,Cell.nils] 0 ([(.sl h_60.length ((splice [ci0,ci0,ci0,ci0] 0 (splice (splice (splice [ci0,ci0,ci0,ci0] 0 [(.int .i64 0)]) 1 [(.int .i64 (G.band .i64 (G.shr .i64 n_62 3) 1))]) 3 [(.int .i64 (G.band .i64 (G.shr .i64 n_62 4) 1))])).length) 0 1)]:List Cell)) 1 ([(.sl ((h_60++[some (Blk.mk true 4 (splice [ci0,ci0,ci0,ci0] 0 (splice (splice (splice [ci0,ci0,ci0,ci0] 0 [(.int .i64 0)]) 1 [(.int .i64 (G.band .i64 (G.shr .i64 n_62 3) 1))]) 3 [(.int .i64 (G.band .i64 (G.shr .i64 n_62 4) 1))])))]).length) ((splice (splice (List.replicate 8 ci0) 0 (splice (splice (splice [ci0,ci0,ci0,ci0] 0 [(.int .i64 (-1))]) 2 [(.int .i64 120)]) 3 [(.int .i64 (G.rem .i64 (G.shr .i64 n_62 5) 3))])) 4 (splice (splice (splice [ci0,ci0,ci0,ci0] 0 [(.int .i64 1)]) 1 [(.int .i64 0)]) 3 [(.int .i64 (G.band .i64 (G.shr .i64 n_62 7) 1))])).length) 0 2)]:List Cell)).length=2*1 then if 3+2≤s1.length∧(splice (splice [ci0,Cell.nils] 0 [(.int .i64 v_63)]) 1 ([(.sl (((h_60++[some (Blk.mk true 4 (splice [ci0,ci0,ci0,ci0] 0 (splice (splice (splice [ci0,ci0,ci0,ci0] 0 [(.int .i64 0)]) 1 [(.int .i64 (G.band .i64 (G.shr .i64 n_62 3) 1))]) 3 [(.int .i64 (G.band .i64 (G.shr .i64 n_62 4) 1))])))])++[some (Blk.mk true 4 (splice (splice (List.replicate 8 ci0) 0 (splice (splice (splice [ci0,ci0,ci0,ci0] 0 [(.int .i64 (-1))]) 2 [(.int .i64 120)]) 3 [(.int .i64 (G.rem .i64 (G.shr .i64 n_62 5) 3))])) 4 (splice (splice (splice [ci0,ci0,ci0,ci0] 0 [(.int .i64 1)]) 1 [(.int .i64 0)]) 3 [(.int .i64 (G.band .i64 (G.shr .i64 n_62 7) 1))])))]).length) ((splice (splice [Cell.nils,Cell.nils] 0 ([(.sl h_60.length ((splice [ci0,ci0,ci0,ci0] 0 (splice (splice (splice [ci0,ci0,ci0,ci0] 0 [(.int .i64 0)]) 1 [(.int .i64 (G.band .i64 (G.shr .i64 n_62 3) 1))]) 3 [(.int .i64 (G.band .i64 (G.shr .i64 n_62 4) 1))])).length) 0 1)]:List Cell)) 1 ([(.sl ((h_60++[some (Blk.mk true 4 (splice [ci0,ci0,ci0,ci0] 0 (splice (splice (splice [ci0,ci0,ci0,ci0] 0 [(.int .i64 0)]) 1 [(.int .i64 (G.band .i64 (G.shr .i64 n_62 3) 1))]) 3 [(.int .i64 (G.band .i64 (G.shr .i64 n_62 4) 1))])))]).length) ((splice (splice (List.replicate 8 ci0) 0 (splice (splice (splice [ci0,ci0,ci0,ci0] 0 [(.int .i64 (-1))]) 2 [(.int .i64 120)]) 3 [(.int .i64 (G.rem .i64 (G.shr .i64 n_62 5) 3))])) 4 (splice (splice (splice [ci0,ci0,ci0,ci0] 0 [(.int .i64 1)]) 1 [(.int .i64 0)]) 3 [(.int .i64 (G.band .i64 (G.shr .i64 n_62 7) 1))])).length) 0 2)]:List Cell)).length) 0 2)]:List Cell)).length=2 then if 0=0∧(splice s1 3 (splice (splice [ci0,Cell.nils] 0 [(.int .i64 v_63)]) 1 ([(.sl (((h_60++[some (Blk.mk true 4 (splice [ci0,ci0,ci0,ci0] 0 (splice (splice (splice [ci0,ci0,ci0,ci0] 0 [(.int .i64 0)]) 1 [(.int .i64 (G.band .i64 (G.shr .i64 n_62 3) 1))]) 3 [(.int .i64 (G.band .i64 (G.shr .i64 n_62 4) 1))])))])++[some (Blk.mk true 4 (splice (splice (List.replicate 8 ci0) 0 (splice (splice (splice [ci0,ci0,ci0,ci0] 0 [(.int .i64 (-1))]) 2 [(.int .i64 120)]) 3 [(.int .i64 (G.rem .i64 (G.shr .i64 n_62 5) 3))])) 4 (splice (splice (splice [ci0,ci0,ci0,ci0] 0 [(.int .i64 1)]) 1 [(.int .i64 0)]) 3 [(.int .i64 (G.band .i64 (G.shr .i64 n_62 7) 1))])))]).length) ((splice (splice [Cell.nils,Cell.nils] 0 ([(.sl h_60.length ((splice [ci0,ci0,ci0,ci0] 0 (splice (splice (splice [ci0,ci0,ci0,ci0] 0 [(.int .i64 0)]) 1 [(.int .i64 (G.band .i64 (G.shr .i64 n_62 3) 1))]) 3 [(.int .i64 (G.band .i64 (G.shr .i64 n_62 4) 1))])).length) 0 1)]:List Cell)) 1 ([(.sl ((h_60++[some (Blk.mk true 4 (splice [ci0,ci0,ci0,ci0] 0 (splice (splice (splice [ci0,ci0,ci0,ci0] 0 [(.int .i64 0)]) 1 [(.int .i64 (G.band .i64 (G.shr .i64 n_62 3) 1))]) 3 [(.int .i64 (G.band .i64 (G.shr .i64 n_62 4) 1))])))]).length) ((splice (splice (List.replicate 8 ci0) 0 (splice (splice (splice [ci0,ci0,ci0,ci0] 0 [(.int .i64 (-1))]) 2 [(.int .i64 120)]) 3 [(.int .i64 (G.rem .i64 (G.shr .i64 n_62 5) 3))])) 4 (splice (splice (splice [ci0,ci0,ci0,ci0] 0 [(.int .i64 1)]) 1 [(.int .i64 0)]) 3 [(.int .i64 (G.band .i64 (G.shr .i64 n_62 7) 1))])).length) 0 2)]:List Cell)).length) 0 2)]:List Cell))).length=5 then if 0=0∧s0.length=5∧(splice s1 3 (splice (splice [ci0,Cell.nils] 0 [(.int .i64 v_63)]) 1 ([(.sl (((h_60++[some (Blk.mk true 4 (splice [ci0,ci0,ci0,ci0] 0 (splice (splice (splice [ci0,ci0,ci0,ci0] 0 [(.int .i64 0)]) 1 [(.int .i64 (G.band .i64 (G.shr .i64 n_62 3) 1))]) 3 [(.int .i64 (G.band .i64 (G.shr .i64 n_62 4) 1))])))])++[some (Blk.mk true 4 (splice (splice (List.replicate 8 ci0) 0 (splice (splice (splice [ci0,ci0,ci0,ci0] 0 [(.int .i64 (-1))]) 2 [(.int .i64 120)]) 3 [(.int .i64 (G.rem .i64 (G.shr .i64 n_62 5) 3))])) 4 (splice (splice (splice [ci0,ci0,ci0,ci0] 0 [(.int .i64 1)]) 1 [(.int .i64 0)]) 3 [(.int .i64 (G.band .i64 (G.shr .i64 n_62 7) 1))])))]).length) ((splice (splice [Cell.nils,Cell.nils] 0 ([(.sl h_60.length ((splice [ci0,ci0,ci0,ci0] 0 (splice (splice (splice [ci0,ci0,ci0,ci0] 0 [(.int .i64 0)]) 1 [(.int .i64 (G.band .i64 (G.shr .i64 n_62 3) 1))]) 3 [(.int .i64 (G.band .i64 (G.shr .i64 n_62 4) 1))])).length) 0 1)]:List Cell)) 1 ([(.sl ((h_60++[some (Blk.mk true 4 (splice [ci0,ci0,ci0,ci0] 0 (splice (splice (splice [ci0,ci0,ci0,ci0] 0 [(.int .i64 0)]) 1 [(.int .i64 (G.band .i64 (G.shr .i64 n_62 3) 1))]) 3 [(.int .i64 (G.band .i64 (G.shr .i64 n_62 4) 1))])))]).length) ((splice (splice (List.replicate 8 ci0) 0 (splice (splice (splice [ci0,ci0,ci0,ci0] 0 [(.int .i64 (-1))]) 2 [(.int .i64 120)]) 3 [(.int .i64 (G.rem .i64 (G.shr .i64 n_62 5) 3))])) 4 (splice (splice (splice [ci0,ci0,ci0,ci0] 0 [(.int .i64 1)]) 1 [(.int .i64 0)]) 3 [(.int .i64 (G.band .i64 (G.shr .i64 n_62 7) 1))])).length) 0 2)]:List Cell)).length) 0 2)]:List Cell))).length=5 then if 0=0∧(splice s1 3 (splice (splice [ci0,Cell.nils] 0 [(.int .i64 v_63)]) 1 ([(.sl (((h_60++[some (Blk.mk true 4 (splice [ci0,ci0,ci0,ci0] 0 (splice (splice (splice [ci0,ci0,ci0,ci0] 0 [(.int .i64 0)]) 1 [(.int .i64 (G.band .i64 (G.shr .i64 n_62 3) 1))]) 3 [(.int .i64 (G.band .i64 (G.shr .i64 n_62 4) 1))])))])++[some (Blk.mk true 4 (splice (splice (List.replicate 8 ci0) 0 (splice (splice (splice [ci0,ci0,ci0,ci0] 0 [(.int .i64 (-1))]) 2 [(.int .i64 120)]) 3 [(.int .i64 (G.rem .i64 (G.shr .i64 n_62 5) 3))])) 4 (splice (splice (splice [ci0,ci0,ci0,ci0] 0 [(.int .i64 1)]) 1 [(.int .i64 0)]) 3 [(.int .i64 (G.band .i64 (G.shr .i64 n_62 7) 1))])))]).length) ((splice (splice [Cell.nils,Cell.nils] 0 ([(.sl h_60.length ((splice [ci0,ci0,ci0,ci0] 0 (splice (splice (splice [ci0,ci0,ci0,ci0] 0 [(.int .i64 0)]) 1 [(.int .i64 (G.band .i64 (G.shr .i64 n_62 3) 1))]) 3 [(.int .i64 (G.band .i64 (G.shr .i64 n_62 4) 1))])).length) 0 1)]:List Cell)) 1 ([(.sl ((h_60++[some (Blk.mk true 4 (splice [ci0,ci0,ci0,ci0] 0 (splice (splice (splice [ci0,ci0,ci0,ci0] 0 [(.int .i64 0)]) 1 [(.int .i64 (G.band .i64 (G.shr .i64 n_62 3) 1))]) 3 [(.int .i64 (G.band .i64 (G.shr .i64 n_62 4) 1))])))]).length) ((splice (splice (List.replicate 8 ci0) 0 (splice (splice (splice [ci0,ci0,ci0,ci0] 0 [(.int .i64 (-1))]) 2 [(.int .i64 120)]) 3 [(.int .i64 (G.rem .i64 (G.shr .i64 n_62 5) 3))])) 4 (splice (splice (splice [ci0,ci0,ci0,ci0] 0 [(.int .i64 1)]) 1 [(.int .i64 0)]) 3 [(.int .i64 (G.band .i64 (G.shr .i64 n_62 7) 1))])).length) 0 2)]:List Cell)).length) 0 2)]:List Cell))).length=5 then some ([(.agg (splice s1 3 (splice (splice [ci0,Cell.nils] 0 [(.int .i64 v_63)]) 1 ([(.sl (((h_60++[some (Blk.mk true 4 (splice [ci0,ci0,ci0,ci0] 0 (splice (splice (splice [ci0,ci0,ci0,ci0] 0 [(.int .i64 0)]) 1 [(.int .i64 (G.band .i64 (G.shr .i64 n_62 3) 1))]) 3 [(.int .i64 (G.band .i64 (G.shr .i64 n_62 4) 1))])))])++[some (Blk.mk true 4 (splice (splice (List.replicate 8 ci0) 0 (splice (splice (splice [ci0,ci0,ci0,ci0] 0 [(.int .i64 (-1))]) 2 [(.int .i64 120)]) 3 [(.int .i64 (G.rem .i64 (G.shr .i64 n_62 5) 3))])) 4 (splice (splice (splice [ci0,ci0,ci0,ci0] 0 [(.int .i64 1)]) 1 [(.int .i64 0)]) 3 [(.int .i64 (G.band .i64 (G.shr .i64 n_62 7) 1))])))]).length) ((splice (splice [Cell.nils,Cell.nils] 0 ([(.sl h_60.length ((splice [ci0,ci0,ci0,ci0] 0 (splice (splice (splice [ci0,ci0,ci0,ci0] 0 [(.int .i64 0)]) 1 [(.int .i64 (G.band .i64 (G.shr .i64 n_62 3) 1))]) 3 [(.int .i64 (G.band .i64 (G.shr .i64 n_62 4) 1))])).length) 0 1)]:List Cell)) 1 ([(.sl ((h_60++[some (Blk.mk true 4 (splice [ci0,ci0,ci0,ci0] 0 (splice (splice (splice [ci0,ci0,ci0,ci0] 0 [(.int .i64 0)]) 1 [(.int .i64 (G.band .i64 (G.shr .i64 n_62 3) 1))]) 3 [(.int .i64 (G.band .i64 (G.shr .i64 n_62 4) 1))])))]).length) ((splice (splice (List.replicate 8 ci0) 0 (splice (splice (splice [ci0,ci0,ci0,ci0] 0 [(.int .i64 (-1))]) 2 [(.int .i64 120)]) 3 [(.int .i64 (G.rem .i64 (G.shr .i64 n_62 5) 3))])) 4 (splice (splice (splice [ci0,ci0,ci0,ci0] 0 [(.int .i64 1)]) 1 [(.int .i64 0)]) 3 [(.int .i64 (G.band .i64 (G.shr .i64 n_62 7) 1))])).length) 0 2)]:List Cell)).length) 0 2)]:List Cell))))],(((h_60++[some (Blk.mk true 4 (splice [ci0,ci0,ci0,ci0] 0 (splice (splice (splice [ci0,ci0,ci0,ci0] 0 [(.int .i64 0)]) 1 [(.int .i64 (G.band .i64 (G.shr .i64 n_62 3) 1))]) 3 [(.int .i64 (G.band .i64 (G.shr .i64 n_62 4) 1))])))])++[some (Blk.mk true 4 (splice (splice (List.replicate 8 ci0) 0 (splice (splice (splice [ci0,ci0,ci0,ci0] 0 [(.int .i64 (-1))]) 2 [(.int .i64 120)]) 3 [(.int .i64 (G.rem .i64 (G.shr .i64 n_62 5) 3))])) 4 (splice (splice (splice [ci0,ci0,ci0,ci0] 0 [(.int .i64 1)]) 1 [(.int .i64 0)]) 3 [(.int .i64 (G.band .i64 (G.shr .i64 n_62 7) 1))])))])++[some (Blk.mk true 1 (splice (splice [Cell.nils,Cell.nils] 0 ([(.sl h_60.length ((splice [ci0,ci0,ci0,ci0] 0 (splice (splice (splice [ci0,ci0,ci0,ci0] 0 [(.int .i64 0)]) 1 [(.int .i64 (G.band .i64 (G.shr .i64 n_62 3) 1))]) 3 [(.int .i64 (G.band .i64 (G.shr .i64 n_62 4) 1))])).length) 0 1)]:List Cell)) 1 ([(.sl ((h_60++[some (Blk.mk true 4 (splice [ci0,ci0,ci0,ci0] 0 (splice (splice (splice [ci0,ci0,ci0,ci0] 0 [(.int .i64 0)]) 1 [(.int .i64 (G.band .i64 (G.shr .i64 n_62 3) 1))]) 3 [(.int .i64 (G.band .i64 (G.shr .i64 n_62 4) 1))])))]).length) ((splice (splice (List.replicate 8 ci0) 0 (splice (splice (splice [ci0,ci0,ci0,ci0] 0 [(.int .i64 (-1))]) 2 [(.int .i64 120)]) 3 [(.int .i64 (G.rem .i64 (G.shr .i64 n_62 5) 3))])) 4 (splice (splice (splice [ci0,ci0,ci0,ci0] 0 [(.int .i64 1)]) 1 [(.int .i64 0)]) 3 [(.int .i64 (G.band .i64 (G.shr .i64 n_62 7) 1))])).length) 0 2)]:List Cell)))])) else none else none else none else none else none else none else none else none else none else none else if 0=0∧s1.length=5 then if 0=0∧s0.length=5∧s1.length=5 then if 0=0∧s1.length=5 then some ([(.agg s1)],h_60) else none else none else none:=by kernel_rfl
theorem q97_ec1_n (h0:AHeap) (a1:Int) (x7:Cell) (a8 a9:Int) (s0 s1:List Cell) (h:AHeap):(q97_k2 C L G h0) .normal (q97_c1 a1 x7 a8 a9 s0 s1 h)=(L (q97_F2 C L G) (q97_s2 a1 x7 a8 a9 0 0 s0 s1 h)).bind fun p_64=>(q97_k4 C L G h0) p_64.1 p_64.2:=by kernel_rfl
set_option maxRecDepth 100000 in
theorem q97_eq (x0:Cell) (a1:Int) (h0:AHeap):q97.body C L G [(.c x0),(.c (.int .i64 a1))] h0=if 0=0∧[Cell.str (ByteArray.mk #[]),Cell.nils,Cell.nils,ci0,Cell.nils].length=5∧(splice [Cell.str (ByteArray.mk #[]),Cell.nils,Cell.nils,ci0,Cell.nils] 0 ([(.str (ByteArray.mk #[116]))]:List Cell)).length=5 then rdH ((h0++[some (Blk.mk true 0 (AV.cells (.c x0)))])++[some (Blk.mk true 0 ([ci0]))]) ((h0++[some (Blk.mk true 0 (AV.cells (.c x0)))]).length) (([ci0]).length) fun l_1=>if 0<l_1.length then putH ((h0++[some (Blk.mk true 0 (AV.cells (.c x0)))])++[some (Blk.mk true 0 ([ci0]))]) ((h0++[some (Blk.mk true 0 (AV.cells (.c x0)))]).length) (l_1.set 0 (.int .i64 0)) fun h_2=>fnK (.fn 115 [((h0++[some (Blk.mk true 0 (AV.cells (.c x0)))]).length,([ci0]).length,0),(h0.length,(AV.cells (.c x0)).length,0)]) fun g_3 l_4=>c1 (C g_3 ([]++l_4) h_2) fun y_6 h_5=>asI .i64 y_6 fun n_7=>fnK (.fn 115 [((h0++[some (Blk.mk true 0 (AV.cells (.c x0)))]).length,([ci0]).length,0),(h0.length,(AV.cells (.c x0)).length,0)]) fun g_8 l_9=>c1 (C g_8 ([]++l_9) h_5) fun y_11 h_10=>asI .i64 y_11 fun n_12=>(fnK (.fn 115 [((h0++[some (Blk.mk true 0 (AV.cells (.c x0)))]).length,([ci0]).length,0),(h0.length,(AV.cells (.c x0)).length,0)]) fun g_13 l_14=>c1 (C g_13 ([]++l_14) h_10) fun y_16 h_15=>asI .i64 y_16 fun n_17=>if ((G.rem .i64 n_17 4)==0)=true then atK (splice [Cell.str (ByteArray.mk #[]),Cell.nils,Cell.nils,ci0,Cell.nils] 0 ([(.str (ByteArray.mk #[116]))]:List Cell)) 1 fun q_18=>fnK (.fn 115 [((h0++[some (Blk.mk true 0 (AV.cells (.c x0)))]).length,([ci0]).length,0),(h0.length,(AV.cells (.c x0)).length,0)]) fun g_19 l_20=>c1 (C g_19 ([]++l_20) h_15) fun y_22 h_21=>asI .i64 y_22 fun n_23=>if (splice (splice [ci0,ci0] 0 [(.int .i64 120)]) 1 [(.int .i64 (G.rem .i64 n_23 3))]).length=2∧0+2≤[ci0,ci0].length then if (splice [ci0,ci0] 0 (splice (splice [ci0,ci0] 0 [(.int .i64 120)]) 1 [(.int .i64 (G.rem .i64 n_23 3))])).length=1*2 then appK 2 16 q_18 (splice [ci0,ci0] 0 (splice (splice [ci0,ci0] 0 [(.int .i64 120)]) 1 [(.int .i64 (G.rem .i64 n_23 3))])) h_21 fun x_24 h_25=>if 1<(splice [Cell.str (ByteArray.mk #[]),Cell.nils,Cell.nils,ci0,Cell.nils] 0 ([(.str (ByteArray.mk #[116]))]:List Cell)).length then some (.normal,(q97_c1 a1 (.fn 115 [((h0++[some (Blk.mk true 0 (AV.cells (.c x0)))]).length,([ci0]).length,0),(h0.length,(AV.cells (.c x0)).length,0)]) (G.wrap .i64 ((G.rem .i64 n_7 2)+2)) (G.wrap .i64 ((G.rem .i64 n_12 2)+2)) [Cell.str (ByteArray.mk #[]),Cell.nils,Cell.nils,ci0,Cell.nils] ((splice [Cell.str (ByteArray.mk #[]),Cell.nils,Cell.nils,ci0,Cell.nils] 0 ([(.str (ByteArray.mk #[116]))]:List Cell)).set 1 x_24) h_25)) else none else none else none else some (.normal,(q97_c1 a1 (.fn 115 [((h0++[some (Blk.mk true 0 (AV.cells (.c x0)))]).length,([ci0]).length,0),(h0.length,(AV.cells (.c x0)).length,0)]) (G.wrap .i64 ((G.rem .i64 n_7 2)+2)) (G.wrap .i64 ((G.rem .i64 n_12 2)+2)) [Cell.str (ByteArray.mk #[]),Cell.nils,Cell.nils,ci0,Cell.nils] (splice [Cell.str (ByteArray.mk #[]),Cell.nils,Cell.nils,ci0,Cell.nils] 0 ([(.str (ByteArray.mk #[116]))]:List Cell)) h_15)):Option (Ex × St)).bind fun p_65=>(q97_k2 C L G h0) p_65.1 p_65.2 else none else none:=by kernel_rfl
set_option maxRecDepth 100000 in
theorem q115_eq (k0 N0:Nat) (o0 k1:Nat) (N1 o1:Nat) (h0:AHeap):q115.body C L G [(.c (.ptr k0 N0 o0)),(.c (.ptr k1 N1 o1))] h0=rdH h0 k0 N0 fun l_1=>atK l_1 o0 fun q_2=>asI .i64 (.c q_2) fun n_3=>rdH h0 k0 N0 fun l_4=>if o0<l_4.length then putH h0 k0 (l_4.set o0 (.int .i64 (G.wrap .i64 (n_3+1)))) fun h_5=>rdH h_5 k0 N0 fun l_6=>atK l_6 o0 fun q_7=>asI .i64 (.c q_7) fun n_8=>rdH h_5 k1 N1 fun l_9=>atK l_9 o1 fun q_10=>lenK q_10 fun n_11=>if (decide (n_8 > n_11))=true then some ([(.c (.int .i64 0))],h_5) else rdH h_5 k1 N1 fun l_12=>atK l_12 o1 fun q_13=>rdH h_5 k0 N0 fun l_14=>atK l_14 o0 fun q_15=>asI .i64 (.c q_15) fun n_16=>idxSK 1 q_13 (G.wrap .i64 (n_16 - 1)) fun k_17 N_18 o_19=>rdH h_5 k_17 N_18 fun l_20=>atK l_20 o_19 fun q_21=>asI .i64 (.c q_21) fun n_22=>some ([(.c (.int .i64 (G.band .i64 n_22 65535)))],h_5) else none:=by kernel_rfl
end Jq

namespace Jq
open Go
def opdOk (o:Opd):Prop:=(o.reg = -1∧0≤o.val∧o.val<3)∨((o.reg=0∨o.reg=1)∧o.val=0)
def SmI (L:Int) (i:Ins):Prop :=
 (i.kind=1∧i.reg=0∧(120≤i.loc∧i.loc<120+L)∧opdOk i.a∧i.op=0∧i.b=⟨0,0⟩∧i.n=0) ∨
 (i.kind=2∧(i.reg=0∨i.reg=1)∧(120≤i.loc∧i.loc<120+L)∧i.a=⟨0,0⟩∧i.op=0∧i.b=⟨0,0⟩∧i.n=0) ∨
 (i=⟨3,0,0,⟨0,0⟩,0,⟨0,0⟩,0⟩) ∨
 (i.kind=4∧(i.reg=0∨i.reg=1)∧(120≤i.loc∧i.loc<120+L)∧opdOk i.a∧i.op=0∧i.b=⟨-1,1⟩∧i.n=0) ∨
 (i.kind=5∧(i.reg=0∨i.reg=1)∧i.loc=0∧opdOk i.a∧i.op=6∧i.b=⟨-1,1⟩∧i.n=0) ∨
 (i.kind=6∧i.reg=0∧i.loc=0∧opdOk i.a∧i.op=0∧i.b=⟨-1,0⟩∧i.n=1)
def memC (c:List Ins):Nat:=c.countP fun i=>decide (i.kind=1∨i.kind=2∨i.kind=4)
inductive ThrOk (L:Int):Nat→List Ins→Prop
 | nil:ThrOk L 0 []
 | one {k:Nat} {c:List Ins} {i:Ins}:ThrOk L k c→SmI L i→i.kind≠6→ThrOk L (k+1) (c++[i])
 | two {k:Nat} {c:List Ins} {i j:Ins}:ThrOk L k c→SmI L i→i.kind=6→SmI L j→j.kind=1→ThrOk L (k+1) (c++[i,j])
theorem ThrOk.len {L:Int} {k:Nat} {c:List Ins} (t:ThrOk L k c):c.length≤2*k:=by
 induction t with
 | nil=>simp
 | one _ _ _ ih=>rw [List.length_append];simp;omega
 | two _ _ _ _ _ ih=>rw [List.length_append];simp;omega
theorem ThrOk.all {L:Int} {k:Nat} {c:List Ins} (t:ThrOk L k c):∀i∈c,SmI L i:=by
 induction t with
 | nil=>simp
 | one _ h _ ih =>
  intro i hi
  rcases List.mem_append.1 hi with hi | hi
  ·exact ih i hi
  ·simp at hi;subst hi;exact h
 | two _ h _ h' _ ih =>
  intro i hi
  rcases List.mem_append.1 hi with hi | hi
  ·exact ih i hi
  ·simp at hi;rcases hi with rfl | rfl
   ·exact h
   ·exact h'
theorem memC_app (a b:List Ins):memC (a++b)=memC a+memC b:=by unfold memC;rw [List.countP_append]
theorem Own.appM {n:Nat} {h:AHeap} {x:Cell} {esz len bytes m:Nat} {cs xs:List Cell} (o:Own n h x esz cs len) (hn:n≤h.length) (hx:xs.length=m*esz) (hm:0<m) (he:0<esz) (h1:(len+m)*bytes≤maxBytes) (h2:len+m≤maxBytes) :
  ∃x' h',(∀{α:Type} (f:Cell→AHeap→Option α),appK esz bytes x xs h f=f x' h')∧Own n h' x' esz (cs++xs) (len+m)∧Kp n h h':=by
 have hd:xs.length / esz=m:=by rw [hx];exact Nat.mul_div_cancel _ he
 have hpos:0<xs.length:=by rw [hx];exact Nat.mul_pos hm he
 rcases o.2 with ⟨rfl,rfl⟩ | ⟨k,rfl,hk,hb⟩
 ·have hcs:cs=[]:=List.length_eq_zero_iff.1 (by have:=o.1;omega)
  subst hcs
  refine ⟨.sl h.length xs.length 0 m,h++[some ⟨true,esz,xs⟩],fun f=>?_,⟨by simp [hx],.inr ⟨h.length,by simp,hn,by rw [List.nil_append];exact blk_new _ _⟩⟩,Kp.app _ hn⟩
  unfold appK;simp only;rw [if_neg (by omega),hd,if_pos ⟨by rw [Nat.zero_add] at h1;exact h1,by omega⟩]
 ·have hl:=o.1
  refine ⟨.sl k (len*esz+xs.length) 0 (len+m),setBlk h k (some ⟨true,esz,cs++xs⟩),fun f=>?_,⟨by simp [hl,hx,Nat.add_mul],.inr ⟨k,by simp [hl],hk,blk_set_self (blk_lt' hb) _⟩⟩,Kp.set hk _⟩
  unfold appK;simp only;rw [hb,Option.bind_some];dsimp only
  rw [if_pos ⟨rfl,rfl,rfl,by omega,by rw [hd];exact h1,by rw [hd];exact h2⟩,if_neg (by omega),if_pos trivial,hd,List.take_of_length_le (by omega)]
section
variable {E:Env}
theorem shr_nn {x k:Int} (hx:0≤x):0≤E.glob.shr .i64 x k:=by
 show 0≤x.fdiv (2 ^ min k.toNat 64)
 exact Int.fdiv_nonneg hx (Int.le_of_lt (Int.pow_pos (by omega)))
theorem rem_rng {x m:Int} (hx:0≤x) (hm:0<m):0≤E.glob.rem .i64 x m∧E.glob.rem .i64 x m<m:=by
 rw [g_rem,Int.tmod_eq_emod_of_nonneg hx]
 exact ⟨Int.emod_nonneg _ (by omega),Int.emod_lt_of_pos _ hm⟩
theorem g_band1 {x:Int}:E.glob.band .i64 x 1=x % 2:=by
 show IntKind.wrap .i64 ((BitVec.ofInt 64 x &&& BitVec.ofInt 64 1).toNat:Nat)=_
 have h1:(BitVec.ofInt 64 x &&& BitVec.ofInt 64 1).toNat=(BitVec.ofInt 64 x).toNat % 2:=by
  rw [BitVec.toNat_and]
  have:(BitVec.ofInt 64 1).toNat=2 ^ 1 - 1:=by decide
  rw [this,Nat.and_two_pow_sub_one_eq_mod]
 rw [h1,BitVec.toNat_ofInt]
 have h3:((((x % ((2 ^ 64:Nat):Int)).toNat % 2:Nat):Int))=x % 2:=by omega
 rw [h3]
 exact wrap_i64 (by omega) (by omega)
theorem band1_rng (x:Int):E.glob.band .i64 x 1=0∨E.glob.band .i64 x 1=1:=by rw [g_band1];omega
theorem g_band16 {x:Int}:0≤E.glob.band .i64 x 65535∧E.glob.band .i64 x 65535<65536:=by
 have h:E.glob.band .i64 x 65535=x % 65536:=by
  show IntKind.wrap .i64 ((BitVec.ofInt 64 x &&& BitVec.ofInt 64 65535).toNat:Nat)=_
  have h1:(BitVec.ofInt 64 x &&& BitVec.ofInt 64 65535).toNat=(BitVec.ofInt 64 x).toNat % 65536:=by
   rw [BitVec.toNat_and]
   have:(BitVec.ofInt 64 65535).toNat=2 ^ 16 - 1:=by decide
   rw [this,Nat.and_two_pow_sub_one_eq_mod]
  rw [h1,BitVec.toNat_ofInt]
  have h3:((((x % ((2 ^ 64:Nat):Int)).toNat % 65536:Nat):Int))=x % 65536:=by omega
  rw [h3]
  exact wrap_i64 (by omega) (by omega)
 rw [h];omega
def VarsAt (h0:AHeap) (x:Cell) (h:AHeap) (m:Nat):Prop :=
 blk? h h0.length=some ⟨true,0,[x]⟩∧blk? h (h0.length+1)=some ⟨true,0,[.int .i64 (m:Int)]⟩∧h0.length+2≤h.length∧Kp h0.length h0 h
def nxF (h0:AHeap):Cell:=.fn 115 [(h0.length+1,1,0),(h0.length,1,0)]
theorem VarsAt.keep {h0 h h':AHeap} {x:Cell} {m:Nat} (v:VarsAt h0 x h m) (hk:Kp (h0.length+2) h h'):VarsAt h0 x h' m :=
 ⟨by rw [hk.blk (by omega)];exact v.1,by rw [hk.blk (by omega)];exact v.2.1,Nat.le_trans v.2.2.1 hk.1,v.2.2.2.trans (hk.mono (by omega))⟩
theorem rd1' {α:Type} {h:AHeap} {k:Nat} {a:Cell} (hk:blk? h k=some ⟨true,0,[a]⟩) {F:List Cell→Option α}:rdH h k 1 F=F [a]:=rdH_ok hk rfl
theorem next_R (hE:q115_In E) {h0 h:AHeap} {x:Cell} {l:List Int} {m:Nat} (hx:SlAt h0 x 1 (intC .i64 l) l.length) (hlow:Low h0.length x) (hl:l.length<9223372036854775808) (v:VarsAt h0 x h m) (hm:m<100000) :
  ∃r:Int,0≤r∧r<65536∧(∀{α:Type} (F:AV→AHeap→Option α),(fnK (nxF h0) fun g cs=>c1 (R E g ([]++cs) h) F)=F (.c (.int .i64 r)) (setBlk h (h0.length+1) (some ⟨true,0,[.int .i64 ((m+1:Nat):Int)]⟩))) ∧
   VarsAt h0 x (setBlk h (h0.length+1) (some ⟨true,0,[.int .i64 ((m+1:Nat):Int)]⟩)) (m+1):=by
 obtain ⟨v1,v2,v3,v4⟩:=v
 have b2:blk? (setBlk h (h0.length+1) (some ⟨true,0,[.int .i64 ((m+1:Nat):Int)]⟩)) (h0.length+1)=some ⟨true,0,[.int .i64 ((m+1:Nat):Int)]⟩:=blk_set_self (blk_lt' v2) _
 have b1:blk? (setBlk h (h0.length+1) (some ⟨true,0,[.int .i64 ((m+1:Nat):Int)]⟩)) h0.length=some ⟨true,0,[x]⟩:=by rw [blk_set_ne (by omega)];exact v1
 have kk:Kp h0.length h0 (setBlk h (h0.length+1) (some ⟨true,0,[.int .i64 ((m+1:Nat):Int)]⟩)):=v4.trans (Kp.set (by omega) _)
 have hx':=hx.keep hlow kk
 have hV:VarsAt h0 x (setBlk h (h0.length+1) (some ⟨true,0,[.int .i64 ((m+1:Nat):Int)]⟩)) (m+1):=⟨b1,b2,by rw [setBlk_len];exact v3,kk⟩
 have hb:q115.body (R E) Lim E.glob [.c (.ptr (h0.length+1) 1 0),.c (.ptr h0.length 1 0)] h=some ([.c (.int .i64 (if m+1 > l.length then 0 else E.glob.band .i64 (l.getD m 0) 65535))],setBlk h (h0.length+1) (some ⟨true,0,[.int .i64 ((m+1:Nat):Int)]⟩)):=by
  rw [q115_eq,rd1' v2,atK_ok (i:=0) (c:=.int .i64 (m:Int)) rfl,asI_ok,rd1' v2,if_pos (by simp),g_succ (by omega),putH_ok v2 rfl]
  dsimp only [List.set]
  rw [rd1' b2,atK_ok (i:=0) (c:=.int .i64 ((m+1:Nat):Int)) rfl,asI_ok,rd1' b1,atK_ok (i:=0) (c:=x) rfl,hx'.len]
  by_cases hgt:m+1 > l.length
  ·rw [if_pos (by simp;omega),if_pos hgt]
  ·rw [if_neg (by simp;omega),if_neg hgt,rd1' b1,atK_ok (i:=0) (c:=x) rfl,rd1' b2,atK_ok (i:=0) (c:=.int .i64 ((m+1:Nat):Int)) rfl,asI_ok,g_wrap_i64 (by omega) (by omega),show ((m+1:Nat):Int) - 1=(m:Int) by omega,hx'.get1 (show m<l.length by omega) (intC_get (getDI (by omega))),asI_ok]
 refine ⟨if m+1 > l.length then 0 else E.glob.band .i64 (l.getD m 0) 65535,?_,?_,fun F=>?_,hV⟩
 ·split
  ·omega
  ·exact g_band16.1
 ·split
  ·omega
  ·exact g_band16.2
 ·show c1 (R E 115 [.c (.ptr (h0.length+1) 1 0),.c (.ptr h0.length 1 0)] h) F=_
  rw [R_intro hE.fn hb,c1_ok]
end
end Jq

namespace Jq
open Go
section
variable {E:Env}
def OneMore (E:Env) (most:Int) (fnc:Cell) (n L:Int) (mem:Nat) (i:Int) (k:Int) (s0 s1:List Cell) (N kk:Nat) (c:List Ins) (h:AHeap) (o:Option (Ex × St)):Prop :=
 ∃(c2:List Ins) (mem2:Nat) (xs2:Cell) (h2:AHeap),o=some (.normal,q97_s1 most fnc n L (mem2:Int) i xs2 (k - 1) s0 s1 h2)∧ThrOk L (kk+1) c2∧memC c2+mem=memC c+mem2∧mem≤mem2∧mem2≤mem+1 ∧
  Own N h2 xs2 9 (codeC c2) c2.length∧Kp N h h2
variable {most:Int} {fnc:Cell} {n L:Int} {mem:Nat} {i:Int} {xs:Cell} {k loc x r m:Int} {s0 s1:List Cell} {v:Opd} {h:AHeap} {N kk:Nat} {c:List Ins}
theorem one_ins {f:Cell→AHeap→Option (Ex × St)} {mem2:Nat} {j:Ins} (hxs:Own N h xs 9 (codeC c) c.length) (hN:N≤h.length) (hc:c.length≤100) (t:ThrOk L kk c) (hj:SmI L j) (h6:j.kind≠6)
  (hm2:mem2=mem+memC [j]) (hf:∀x' h',f x' h'=some (.normal,q97_s1 most fnc n L (mem2:Int) i x' (k - 1) s0 s1 h')) :
  OneMore E most fnc n L mem i k s0 s1 N kk c h (appK 9 72 xs j.cs h f):=by
 have hm:maxBytes≥200*72:=by unfold maxBytes;omega
 obtain ⟨x',h',ha,ho,hk,_⟩:=hxs.app (bytes:=72) (xs:=j.cs) hN rfl (by omega) (by omega) (by omega)
 have h1:memC [j]≤1:=by unfold memC;exact Nat.le_trans (List.countP_le_length) (by simp)
 refine ⟨c++[j],mem2,x',h',by rw [ha,hf],t.one hj h6,by rw [memC_app,hm2];omega,by omega,by omega,?_,hk⟩
 rw [codeC_snoc,List.length_append,List.length_singleton];exact ho
theorem memC_yes {j:Ins} (h:j.kind=1∨j.kind=2∨j.kind=4):memC [j]=1:=by unfold memC;rw [List.countP_cons,List.countP_nil];simp [h]
theorem memC_no {j:Ins} (h:¬(j.kind=1∨j.kind=2∨j.kind=4)):memC [j]=0:=by unfold memC;rw [List.countP_cons,List.countP_nil];simp [h]
theorem small_st (hxs:Own N h xs 9 (codeC c) c.length) (hN:N≤h.length) (hc:c.length≤100) (t:ThrOk L kk c) (hv:opdOk v) (hloc:120≤loc∧loc<120+L) (hmem:mem<1000) (hk:0≤k∧k≤3) {b:Bool} (hb:b=true) :
  OneMore E most fnc n L mem i k s0 s1 N kk c h ((q97_k13 (R E) Lim E.glob) .normal (q97_c3 most fnc n L (mem:Int) i xs k loc r m b s0 s1 v.cs h)):=by
 have e:splice (splice (splice (List.replicate 9 ci0) 0 [(.int .i64 1)]) 2 [(.int .i64 loc)]) 3 v.cs=(Ins.mk 1 0 loc v 0 ⟨0,0⟩ 0).cs:=rfl
 rw [q97_ec3_n,if_pos hb,if_pos ⟨rfl,rfl⟩,if_pos ⟨rfl,by simp [splice]⟩,e,if_pos ⟨rfl,by simp⟩,ins_splice,if_pos (ins_len19 _)]
 refine one_ins (mem2:=mem+1) hxs hN hc t (.inl ⟨rfl,rfl,hloc,hv,rfl,rfl,rfl⟩) (by simp) (by rw [memC_yes (.inl rfl)]) fun x' h'=>?_
 rw [g_succ (by omega),g_wrap_i64 (by omega) (by omega)]
theorem small_ld (hxs:Own N h xs 9 (codeC c) c.length) (hN:N≤h.length) (hc:c.length≤100) (t:ThrOk L kk c) (hr:r=0∨r=1) (hloc:120≤loc∧loc<120+L) (hmem:mem<1000) (hk:0≤k∧k≤3) {b:Bool} (hb:b=true) {s2:List Cell} :
  OneMore E most fnc n L mem i k s0 s1 N kk c h ((q97_k14 (R E) Lim E.glob) .normal (q97_c4 most fnc n L (mem:Int) i xs k loc r m b s0 s1 s2 h)):=by
 have e:splice (splice (splice (List.replicate 9 ci0) 0 [(.int .i64 2)]) 1 [(.int .i64 r)]) 2 [(.int .i64 loc)]=(Ins.mk 2 r loc ⟨0,0⟩ 0 ⟨0,0⟩ 0).cs:=rfl
 rw [q97_ec4_n,if_pos hb,e,if_pos ⟨rfl,by simp⟩,ins_splice,if_pos (ins_len19 _)]
 refine one_ins (mem2:=mem+1) hxs hN hc t (.inr (.inl ⟨rfl,hr,hloc,rfl,rfl,rfl,rfl⟩)) (by simp) (by rw [memC_yes (.inr (.inl rfl))]) fun x' h'=>?_
 rw [g_succ (by omega),g_wrap_i64 (by omega) (by omega)]
theorem mb2 {k:Nat} (hk:k≤100):(k+2)*72≤maxBytes∧k+2≤maxBytes:=by
 have hm:maxBytes≥200*72:=by unfold maxBytes;omega
 omega
theorem z18_len2 (a b:Ins):(codeC [a,b]).length=2*9:=by rw [codeC_len];rfl
theorem two_ins {f:Cell→AHeap→Option (Ex × St)} {j q:Ins} (hxs:Own N h xs 9 (codeC c) c.length) (hN:N≤h.length) (hc:c.length≤100) (t:ThrOk L kk c) (hj:SmI L j) (h6:j.kind=6) (hq:SmI L q) (h1:q.kind=1)
  (hf:∀x' h',f x' h'=some (.normal,q97_s1 most fnc n L ((mem+1:Nat):Int) i x' (k - 1) s0 s1 h')) :
  OneMore E most fnc n L mem i k s0 s1 N kk c h (appK 9 72 xs (codeC [j,q]) h f):=by
 obtain ⟨f1,f2⟩:=mb2 hc
 obtain ⟨x',h',ha,ho,hkp⟩:=hxs.appM hN (z18_len2 j q) Nat.zero_lt_two (Nat.succ_pos 8) f1 f2
 have e4:codeC (c++[j,q])=codeC c++codeC [j,q]:=by simp [codeC]
 refine ⟨c++[j,q],mem+1,x',h',by rw [ha,hf],t.two hj h6 hq h1,?_,by omega,by omega,?_,hkp⟩
 ·rw [memC_app]
  have:memC [j,q]=1:=by
   show memC ([j]++[q])=1
   rw [memC_app,memC_no (by omega),memC_yes (.inl h1)]
  omega
 ·rw [e4,List.length_append];exact ho
theorem z18_len:0+9≤(List.replicate 18 ci0).length:=by rw [List.length_replicate];omega
theorem z18_one (a:Ins):9+9≤(splice (List.replicate 18 ci0) 0 a.cs).length:=by
 unfold splice
 rw [List.length_append,List.length_append,List.length_drop,List.length_take,List.length_replicate,Ins.len];omega
theorem z18_two (a b:Ins):splice (splice (List.replicate 18 ci0) 0 a.cs) 9 b.cs=codeC [a,b]:=rfl
theorem small_other (hxs:Own N h xs 9 (codeC c) c.length) (hN:N≤h.length) (hc:c.length≤100) (t:ThrOk L kk c) (hL:0<L) (hv:opdOk v) (hr:r=0∨r=1) (hloc:120≤loc∧loc<120+L) (hmem:mem<1000) (hk:0≤k∧k≤3) {b:Bool} (hb:b=false) :
  OneMore E most fnc n L mem i k s0 s1 N kk c h ((q97_k14 (R E) Lim E.glob) .normal (q97_c4 most fnc n L (mem:Int) i xs k loc r m b s0 s1 v.cs h)):=by
 have hm:maxBytes≥200*72:=by unfold maxBytes;omega
 rw [q97_ec4_n,if_neg (by rw [hb];simp)]
 by_cases h8:m=8
 ·have e:splice (List.replicate 9 ci0) 0 [(.int .i64 3)]=(Ins.mk 3 0 0 ⟨0,0⟩ 0 ⟨0,0⟩ 0).cs:=rfl
  rw [if_pos (by rw [h8];rfl),e,if_pos ⟨rfl,by simp⟩,ins_splice,if_pos (ins_len19 _)]
  refine one_ins (mem2:=mem) hxs hN hc t (.inr (.inr (.inl rfl))) (by simp) (by rw [memC_no (by simp)];rfl) fun x' h'=>?_
  rw [g_wrap_i64 (by omega) (by omega)]
 ·rw [if_neg (by rw [beq_iff_eq];exact h8)]
  by_cases h9:m=9
  ·have e:splice (splice (splice (splice (splice (List.replicate 9 ci0) 0 [(.int .i64 4)]) 1 [(.int .i64 r)]) 2 [(.int .i64 loc)]) 3 v.cs) 6 (splice (splice [ci0,ci0] 0 [(.int .i64 (-1))]) 1 [(.int .i64 1)])=(Ins.mk 4 r loc v 0 ⟨-1,1⟩ 0).cs:=rfl
   rw [if_pos (by rw [h9];rfl),if_pos ⟨rfl,rfl⟩,if_pos ⟨rfl,by simp [splice]⟩,if_pos ⟨rfl,by simp [splice,Opd.cs]⟩,e,if_pos ⟨rfl,by simp⟩,ins_splice,if_pos (ins_len19 _)]
   refine one_ins (mem2:=mem+1) hxs hN hc t (.inr (.inr (.inr (.inl ⟨rfl,hr,hloc,hv,rfl,rfl,rfl⟩)))) (by simp) (by rw [memC_yes (.inr (.inr rfl))]) fun x' h'=>?_
   rw [g_succ (by omega),g_wrap_i64 (by omega) (by omega)]
  ·rw [if_neg (by rw [beq_iff_eq];exact h9)]
   by_cases h10:m=10
   ·have e:splice (splice (splice (splice (splice (List.replicate 9 ci0) 0 [(.int .i64 5)]) 1 [(.int .i64 r)]) 3 v.cs) 5 [(.int .i64 6)]) 6 (splice (splice [ci0,ci0] 0 [(.int .i64 (-1))]) 1 [(.int .i64 1)])=(Ins.mk 5 r 0 v 6 ⟨-1,1⟩ 0).cs:=rfl
    rw [if_pos (by rw [h10];rfl),if_pos ⟨rfl,rfl⟩,if_pos ⟨rfl,by simp [splice]⟩,if_pos ⟨rfl,by simp [splice,Opd.cs]⟩,if_pos ⟨rfl,by simp [splice,Opd.cs]⟩,e,if_pos ⟨rfl,by simp⟩,ins_splice,if_pos (ins_len19 _)]
    refine one_ins (mem2:=mem) hxs hN hc t (.inr (.inr (.inr (.inr (.inl ⟨rfl,hr,rfl,hv,rfl,rfl,rfl⟩))))) (by simp) (by rw [memC_no (by simp)];rfl) fun x' h'=>?_
    rw [g_wrap_i64 (by omega) (by omega)]
   ·have e1:splice (splice (splice (splice (List.replicate 9 ci0) 0 [(.int .i64 6)]) 3 v.cs) 6 (splice [ci0,ci0] 0 [(.int .i64 (-1))])) 8 [(.int .i64 1)]=(Ins.mk 6 0 0 v 0 ⟨-1,0⟩ 1).cs:=rfl
    have e2:splice (splice (splice (List.replicate 9 ci0) 0 [(.int .i64 1)]) 2 [(.int .i64 loc)]) 3 (splice (splice [ci0,ci0] 0 [(.int .i64 (-1))]) 1 [(.int .i64 2)])=(Ins.mk 1 0 loc ⟨-1,2⟩ 0 ⟨0,0⟩ 0).cs:=rfl
    rw [if_neg (by rw [beq_iff_eq];exact h10),if_pos ⟨rfl,rfl⟩,if_pos ⟨rfl,by simp [splice]⟩,if_pos ⟨rfl,by simp [splice,Opd.cs]⟩,if_pos ⟨rfl,by simp [splice,Opd.cs]⟩,if_pos ⟨rfl,by simp [splice]⟩,e1,e2,if_pos ⟨Ins.len _,z18_len⟩,if_pos ⟨Ins.len _,z18_one _⟩,z18_two,if_pos (z18_len2 _ _)]
    have hL2:(2:Int)<3∧(0:Int)≤2:=⟨by decide,by decide⟩
    have hst:SmI L (Ins.mk 1 0 loc ⟨-1,2⟩ 0 ⟨0,0⟩ 0):=.inl ⟨rfl,rfl,hloc,.inl ⟨rfl,hL2.2,hL2.1⟩,rfl,rfl,rfl⟩
    have hsk:SmI L (Ins.mk 6 0 0 v 0 ⟨-1,0⟩ 1):=.inr (.inr (.inr (.inr (.inr ⟨rfl,rfl,rfl,hv,rfl,rfl,rfl⟩))))
    refine two_ins hxs hN hc t hsk rfl hst rfl fun x' h'=>?_
    rw [g_succ (by omega),g_wrap_i64 (by omega) (by omega)]
theorem small_case (hxs:Own N h xs 9 (codeC c) c.length) (hN:N≤h.length) (hc:c.length≤100) (t:ThrOk L kk c) (hL:0<L) (hv:opdOk v) (hx:0≤x) (hloc:120≤loc∧loc<120+L) (hmem:mem<1000) (hk:0≤k∧k≤3) :
  OneMore E most fnc n L mem i k s0 s1 N kk c h ((q97_k11 (R E) Lim E.glob) .normal (q97_c2 most fnc n L (mem:Int) i xs k x loc s0 s1 v.cs h)):=by
 have hr:=band1_rng (E:=E) (E.glob.shr .i64 x 11)
 have hm:=rem_rng (E:=E) hx (show (0:Int)<12 by omega)
 rw [q97_ec2_n]
 generalize E.glob.band .i64 (E.glob.shr .i64 x 11) 1=r at *
 generalize E.glob.rem .i64 x 12=m at *
 by_cases h0:m=0
 ·rw [if_pos (by rw [h0];rfl),bind_ok];exact small_st hxs hN hc t hv hloc hmem hk (by rw [h0];rfl)
 rw [if_neg (by rw [beq_iff_eq];exact h0)]
 by_cases h1:m=1
 ·rw [if_pos (by rw [h1];rfl),bind_ok];exact small_st hxs hN hc t hv hloc hmem hk (by rw [h1];rfl)
 rw [if_neg (by rw [beq_iff_eq];exact h1)]
 by_cases h2:m=2
 ·rw [if_pos (by rw [h2];rfl),bind_ok];exact small_st hxs hN hc t hv hloc hmem hk (by rw [h2];rfl)
 rw [if_neg (by rw [beq_iff_eq];exact h2),bind_ok]
 by_cases h3:m=3
 ·exact small_st hxs hN hc t hv hloc hmem hk (by rw [h3];rfl)
 rw [q97_ec3_n,if_neg (by rw [beq_iff_eq];exact h3)]
 by_cases h4:m=4
 ·rw [if_pos (by rw [h4];rfl),bind_ok];exact small_ld hxs hN hc t hr hloc hmem hk (by rw [h4];rfl)
 rw [if_neg (by rw [beq_iff_eq];exact h4)]
 by_cases h5:m=5
 ·rw [if_pos (by rw [h5];rfl),bind_ok];exact small_ld hxs hN hc t hr hloc hmem hk (by rw [h5];rfl)
 rw [if_neg (by rw [beq_iff_eq];exact h5)]
 by_cases h6:m=6
 ·rw [if_pos (by rw [h6];rfl),bind_ok];exact small_ld hxs hN hc t hr hloc hmem hk (by rw [h6];rfl)
 rw [if_neg (by rw [beq_iff_eq];exact h6),bind_ok]
 by_cases h7:m=7
 ·exact small_ld hxs hN hc t hr hloc hmem hk (by rw [h7];rfl)
 exact small_other hxs hN hc t hL hv hr hloc hmem hk (by rw [beq_eq_false_iff_ne];exact h7)
end
end Jq

namespace Jq
open Go
def KpX (a n:Nat) (h h':AHeap):Prop:=h.length≤h'.length∧∀k,k<n→k≠a→h'[k]? = h[k]?
theorem KpX.refl (a n:Nat) (h:AHeap):KpX a n h h:=⟨Nat.le_refl _,fun _ _ _=>rfl⟩
theorem KpX.trans {a n:Nat} {h h' h'':AHeap} (x:KpX a n h h') (y:KpX a n h' h''):KpX a n h h'':=⟨Nat.le_trans x.1 y.1,fun k hk ha=>(y.2 k hk ha).trans (x.2 k hk ha)⟩
theorem KpX.mono {a n m:Nat} {h h':AHeap} (x:KpX a n h h') (hm:m≤n):KpX a m h h':=⟨x.1,fun k hk ha=>x.2 k (by omega) ha⟩
theorem Kp.x {a n:Nat} {h h':AHeap} (x:Kp n h h'):KpX a n h h':=⟨x.1,fun k hk _=>x.2 k hk⟩
theorem KpX.set (a n:Nat) (h:AHeap) (b:Option Blk):KpX a n h (setBlk h a b):=⟨by simp [setBlk],fun j _ ha=>by unfold setBlk;rw [List.getElem?_set_ne (fun e=>ha e.symm)]⟩
theorem KpX.blk {a n:Nat} {h h':AHeap} (x:KpX a n h h') {k:Nat} (hk:k<n) (ha:k≠a):blk? h' k=blk? h k:=by unfold blk?;rw [x.2 k hk ha]
theorem Own.keepX {a n:Nat} {h h':AHeap} {x:Cell} {esz len:Nat} {cs:List Cell} (o:Own n h x esz cs len) (ha:a<n) (hk:KpX a h.length h h'):Own n h' x esz cs len:=by
 refine ⟨o.1,o.2.imp id ?_⟩
 rintro ⟨k,e,hn,hb⟩
 exact ⟨k,e,hn,by rw [hk.blk (blk_lt' hb) (by omega)];exact hb⟩
theorem RowsOwn.keepX {α:Type} {esz:Nat} {C:List α→List Cell} {a n:Nat} {h h':AHeap} {y:Cell} {rows:List (List α)} (r:RowsOwn esz C n h y rows) (ha:a<n) (hk:KpX a h.length h h'):RowsOwn esz C n h' y rows:=by
 obtain ⟨ts,h1,h2⟩:=r
 exact ⟨ts,h1.keepX ha hk,fun t r hr=>by obtain ⟨x,x1,x2,x3⟩:=h2 t r hr;exact ⟨x,x1,x2.keepX ha hk,x3⟩⟩
structure GoodT (most:Nat) (T:PTest):Prop where
 name:T.name.size≤20
 n:2≤T.thr.length∧T.thr.length≤3
 code:∃L:Int,(L=2∨L=3)∧∀c∈T.thr,∃k,k≤3∧ThrOk L k c
 mem:(T.thr.map memC).sum≤most
 inits:T.inits=[]∨∃v:Int,0≤v∧v<3∧T.inits=[(120,v)]
 any:T.any.length≤2∧∀row∈T.any,row.length≤2∧∀a∈row,a.loc=0∨a.loc=120
section
variable {E:Env}
theorem opd_reg {r:Int}:splice [ci0,ci0] 0 [(.int .i64 r)]=(Opd.mk r 0).cs:=rfl
theorem opd_num {v:Int}:splice (splice [ci0,ci0] 0 [(.int .i64 (-1))]) 1 [(.int .i64 v)]=(Opd.mk (-1) v).cs:=rfl
theorem small_thr (hE:q115_In E) {h0:AHeap} {x:Cell} {l:List Int} (hx:SlAt h0 x 1 (intC .i64 l) l.length) (hlow:Low h0.length x) (hl:l.length<9223372036854775808)
  {most:Nat} (hmost:most≤900) {n i L:Int} (hL:L=2∨L=3) (s0 s1:List Cell) (N:Nat) (hN0:h0.length+2≤N):∀(k mem m kk:Nat) (c:List Ins) (xs:Cell) (h:AHeap),k≤3→kk+k≤10→mem≤most→m+k<1000 →
   VarsAt h0 x h m→N≤h.length→Own N h xs 9 (codeC c) c.length→ThrOk L kk c →
   ∃(mem' m' kk':Nat) (c':List Ins) (xs':Cell) (h':AHeap),Lim (q97_F1 (R E) Lim E.glob) (q97_s1 (most:Int) (nxF h0) n L (mem:Int) i xs (k:Int) s0 s1 h)=some (.exit 2,q97_x1_3 (most:Int) (nxF h0) n L (mem':Int) i xs' s0 s1 h') ∧
    ThrOk L kk' c'∧kk'≤kk+k∧memC c'+mem=memC c+mem'∧mem'≤most∧VarsAt h0 x h' m'∧m'≤m+k∧N≤h'.length∧Own N h' xs' 9 (codeC c') c'.length∧KpX (h0.length+1) N h h':=by
 intro k
 induction k with
 | zero =>
  intro mem m kk c xs h _ _ hmem _ hv hN ho ht
  refine ⟨mem,m,kk,c,xs,h,Lim_exit ?_,ht,by omega,by omega,hmem,hv,by omega,hN,ho,KpX.refl _ _ _⟩
  rw [q97_r1,show decide (((0:Nat):Int) > 0)=false from rfl,scK_ft,if_neg (by simp)]
 | succ k ih =>
  intro mem m kk c xs h hk hkk hmem hm hv hN ho ht
  by_cases hmm:mem<most
  ·obtain ⟨r,r0,r1,hF,hv2⟩:=next_R hE hx hlow hl hv (by omega)
   have hLp:0<L:=by omega
   have hset:KpX (h0.length+1) N h (setBlk h (h0.length+1) (some ⟨true,0,[.int .i64 ((m+1:Nat):Int)]⟩)):=KpX.set _ _ _ _
   have ho2:=ho.keepX (show h0.length+1<N by omega) (KpX.set (h0.length+1) h.length h (some ⟨true,0,[.int .i64 ((m+1:Nat):Int)]⟩))
   have hN2:N≤(setBlk h (h0.length+1) (some ⟨true,0,[.int .i64 ((m+1:Nat):Int)]⟩)).length:=by rw [setBlk_len];exact hN
   generalize setBlk h (h0.length+1) (some ⟨true,0,[.int .i64 ((m+1:Nat):Int)]⟩)=H at *
   have q4:=rem_rng (E:=E) (shr_nn (E:=E) (k:=4) r0) hLp
   have q6:=rem_rng (E:=E) (shr_nn (E:=E) (k:=6) r0) (show (0:Int)<3 by omega)
   have hb1:=band1_rng (E:=E) (E.glob.shr .i64 r 10)
   have hclen:=ht.len
   have hcase:∀v:Opd,opdOk v→OneMore E (most:Int) (nxF h0) n L mem i ((k+1:Nat):Int) s0 s1 N kk c H ((q97_k11 (R E) Lim E.glob) .normal (q97_c2 (most:Int) (nxF h0) n L (mem:Int) i xs ((k+1:Nat):Int) r (120+E.glob.rem .i64 (E.glob.shr .i64 r 4) L) s0 s1 v.cs H)):=by
    intro v hvv
    exact small_case ho2 hN2 (by omega) ht hLp hvv r0 ⟨by omega,by omega⟩ (by omega) ⟨by omega,by omega⟩
   have hround:∃v:Opd,opdOk v∧q97_F1 (R E) Lim E.glob (q97_s1 (most:Int) (nxF h0) n L (mem:Int) i xs ((k+1:Nat):Int) s0 s1 h)=(q97_k11 (R E) Lim E.glob) .normal (q97_c2 (most:Int) (nxF h0) n L (mem:Int) i xs ((k+1:Nat):Int) r (120+E.glob.rem .i64 (E.glob.shr .i64 r 4) L) s0 s1 v.cs H):=by
    have hw:E.glob.wrap .i64 (120+E.glob.rem .i64 (E.glob.shr .i64 r 4) L)=120+E.glob.rem .i64 (E.glob.shr .i64 r 4) L:=g_wrap_i64 (by omega) (by omega)
    rw [q97_r1,show decide (((k+1:Nat):Int) > 0)=true from decide_eq_true (by omega),scK_ok,bind_ok]
    dsimp only
    rw [if_pos (decide_eq_true (by omega)),hF,asI_ok,if_neg (by omega)]
    rw [hw,opd_num,opd_reg,if_pos ⟨rfl,rfl,rfl⟩]
    by_cases h8:(E.glob.rem .i64 (E.glob.shr .i64 r 8) 3==0)=true
    ·refine ⟨⟨E.glob.band .i64 (E.glob.shr .i64 r 10) 1,0⟩,.inr ⟨hb1,rfl⟩,?_⟩
     rw [if_pos h8,if_pos ⟨rfl,rfl,rfl⟩,bind_ok]
    ·refine ⟨⟨-1,E.glob.rem .i64 (E.glob.shr .i64 r 6) 3⟩,.inl ⟨rfl,q6.1,q6.2⟩,?_⟩
     rw [if_neg h8,bind_ok]
   obtain ⟨v,hvv,hround⟩:=hround
   obtain ⟨c2,mem2,xs2,h2,g1,g2,g3,g4,g5,g6,g7⟩:=hcase v hvv
   rw [g1,show ((k+1:Nat):Int) - 1=(k:Int) by omega] at hround
   obtain ⟨mem',m',kk',c',xs',h',f1,f2,f3,f4,f5,f6,f7,f8,f9,f10⟩:=ih mem2 (m+1) (kk+1) c2 xs2 h2 (by omega) (by omega) (by omega) (by omega) (hv2.keep (g7.mono hN0)) (Nat.le_trans hN2 g7.1) g6 g2
   exact ⟨mem',m',kk',c',xs',h',Lim_next hround f1,f2,by omega,by omega,f5,f6,by omega,f8,f9,(hset.trans g7.x).trans f10⟩
  ·refine ⟨mem,m,kk,c,xs,h,Lim_exit ?_,ht,by omega,by omega,hmem,hv,by omega,hN,ho,KpX.refl _ _ _⟩
   rw [q97_r1,show decide (((k+1:Nat):Int) > 0)=true from decide_eq_true (by omega),scK_ok,bind_ok]
   dsimp only
   rw [if_neg (by simp;omega)]
theorem sum_app_one (l:List (List Ins)) (c:List Ins):((l++[c]).map memC).sum=(l.map memC).sum+memC c:=by
 rw [List.map_append,List.sum_append];simp
theorem small_thrs (hE:q115_In E) {h0:AHeap} {x:Cell} {l:List Int} (hx:SlAt h0 x 1 (intC .i64 l) l.length) (hlow:Low h0.length x) (hl:l.length<9223372036854775808)
  {most:Nat} (hmost:most≤900) {n:Nat} (hn:n≤3) {L:Int} (hL:L=2∨L=3) (s0:List Cell) (a:Cell) {name:ByteArray} {Nb:Nat} (hNb:h0.length+2≤Nb):∀(q i mem m:Nat) (rows:List (List Ins)) (y:Cell) (h:AHeap),i+q=n→rows.length=i→mem≤most→m+4*q<900 →
   (rows.map memC).sum=mem→(∀c∈rows,∃k,k≤3∧ThrOk L k c)→VarsAt h0 x h m→Nb≤h.length→RowsOwn 9 codeC Nb h y rows →
   ∃(mem' m':Nat) (rows':List (List Ins)) (y':Cell) (h':AHeap),Lim (q97_F2 (R E) Lim E.glob) (q97_s2 (most:Int) (nxF h0) (n:Int) L (mem:Int) (i:Int) s0 [.str name,a,y,.int .i64 0,.nils] h)=some (.exit 0,q97_x2_1 (nxF h0) s0 [.str name,a,y',.int .i64 0,.nils] h') ∧
    rows'.length=n∧mem'≤most∧(rows'.map memC).sum=mem'∧(∀c∈rows',∃k,k≤3∧ThrOk L k c)∧VarsAt h0 x h' m'∧m'≤m+4*q∧Nb≤h'.length∧RowsOwn 9 codeC Nb h' y' rows'∧KpX (h0.length+1) Nb h h':=by
 intro q
 induction q with
 | zero =>
  intro i mem m rows y h hi hr hmem _ hs hc hv hN hy
  refine ⟨mem,m,rows,y,h,Lim_exit ?_,by omega,hmem,hs,hc,hv,by omega,hN,hy,KpX.refl _ _ _⟩
  rw [q97_r2,if_neg (by simp;omega)]
 | succ q ih =>
  intro i mem m rows y h hi hr hmem hm hs hc hv hN hy
  obtain ⟨r,r0,r1,hF,hv2⟩:=next_R hE hx hlow hl hv (by omega)
  have hset:KpX (h0.length+1) Nb h (setBlk h (h0.length+1) (some ⟨true,0,[.int .i64 ((m+1:Nat):Int)]⟩)):=KpX.set _ _ _ _
  have hy2:=hy.keepX (show h0.length+1<Nb by omega) (KpX.set (h0.length+1) h.length h (some ⟨true,0,[.int .i64 ((m+1:Nat):Int)]⟩))
  have hN2:Nb≤(setBlk h (h0.length+1) (some ⟨true,0,[.int .i64 ((m+1:Nat):Int)]⟩)).length:=by rw [setBlk_len];exact hN
  generalize setBlk h (h0.length+1) (some ⟨true,0,[.int .i64 ((m+1:Nat):Int)]⟩)=H at *
  have q3:=rem_rng (E:=E) r0 (show (0:Int)<3 by omega)
  obtain ⟨k,hk⟩:∃k:Nat,E.glob.rem .i64 r 3+1=(k:Int):=⟨(E.glob.rem .i64 r 3+1).toNat,by omega⟩
  obtain ⟨mem',m',kk',c',xs',h',f1,f2,f3,f4,f5,f6,f7,f8,f9,f10⟩:=small_thr hE hx hlow hl hmost (n:=n) (i:=(i:Int)) hL s0 [.str name,a,y,.int .i64 0,.nils] H.length (Nat.le_trans hNb hN2) k mem (m+1) 0 [] .nils H (by omega) (by omega) hmem (by omega) hv2 (Nat.le_refl _) (Own.nil _ _ _) ThrOk.nil
  have hy3:=hy2.keepX (show h0.length+1<Nb by omega) f10
  obtain ⟨y2,h2,hap,hyp,hkp,_⟩:=hy3.push (f9.monoN hN2) (fun j h1 h2=>by have:=(f9.blkLt h1).2;have:=(hy2.blkLt h2).1;omega) (Nat.le_trans hN2 f8) (by omega)
  have hm0:memC c'+mem=mem':=by have:memC ([]:List Ins)=0:=rfl;omega
  have hround:q97_F2 (R E) Lim E.glob (q97_s2 (most:Int) (nxF h0) (n:Int) L (mem:Int) (i:Int) s0 [.str name,a,y,.int .i64 0,.nils] h)=some (.normal,q97_s2 (most:Int) (nxF h0) (n:Int) L (mem':Int) ((i+1:Nat):Int) s0 [.str name,a,y2,.int .i64 0,.nils] h2):=by
   have hw:E.glob.wrap .i64 (E.glob.rem .i64 r 3+1)=(k:Int):=by rw [g_wrap_i64 (by omega) (by omega),hk]
   rw [q97_r2,if_pos (by simp;omega),hF,asI_ok,hw,f1,bind_ok,q97_e1_3,show ∀{α:Type} (f:Cell→Option α),atK [.str name,a,y,.int .i64 0,.nils] 2 f=f y from fun _=>rfl,if_pos (show (splice [Cell.nils] 0 [xs']).length=1*1 from rfl),show splice [Cell.nils] 0 [xs']=[xs'] from rfl,hap,if_pos (show 2<([.str name,a,y,.int .i64 0,.nils]:List Cell).length by simp),g_succ (by omega)]
   rfl
  obtain ⟨mem3,m3,rows3,y3,h3,g1,g2,g3,g4,g5,g6,g7,g8,g9,g10⟩:=ih (i+1) mem' m' (rows++[c']) y2 h2 (by omega) (by rw [List.length_append,List.length_singleton];omega) f5 (by omega) (by rw [sum_app_one];omega)
   (fun c hcm=>by
    rcases List.mem_append.1 hcm with hcm | hcm
    ·exact hc c hcm
    ·simp at hcm;subst hcm;exact ⟨kk',by omega,f2⟩) (f6.keep (hkp.mono hNb)) (Nat.le_trans (Nat.le_trans hN2 f8) hkp.1) hyp
  exact ⟨mem3,m3,rows3,y3,h3,Lim_next hround g1,g2,g3,g4,g5,g6,by omega,g8,g9,((hset.trans (f10.mono hN2)).trans hkp.x).trans g10⟩
end
end Jq

namespace Jq
open Go
theorem plc_get {c:Int}:∀(l:List Int) (i:Nat),c∈l→∃j:Nat,plc l c i=((i+j:Nat):Int)∧l[j]? = some c
 | [],_,h=>by cases h
 | d :: t,i,h=>by
  rw [plc]
  by_cases e:d=c
  ·exact ⟨0,by rw [if_pos e];rfl,by rw [e];rfl⟩
  ·rw [if_neg e]
   have hm:c∈t:=by
    rcases List.mem_cons.1 h with h | h
    ·exact absurd h.symm e
    ·exact h
   obtain ⟨j,h1,h2⟩:=plc_get t (i+1) hm
   exact ⟨j+1,by rw [h1];congr 1;omega,by simpa using h2⟩
section
variable {E:Env}
theorem Clone_R (hE:q119_In E) {x:Cell} {l:List Ins} {h:AHeap} (hx:SlAt h x 9 (codeC l) l.length) (hlow:Low h.length x) (hl:l.length≤1000) :
  ∃x' h',R E 119 [.c x] h=some ([.c x'],h')∧Own h.length h' x' 9 (codeC l) l.length∧Kp h.length h h':=by
 have hm:maxBytes≥1000*72:=by unfold maxBytes;omega
 have hlen:=codeC_len l
 rcases hx.2 with ⟨rfl,h0⟩ | ⟨k,N,off,rfl,hb⟩
 ·refine ⟨.nils,h,R_intro hE.fn ?_,⟨hlen,.inl ⟨rfl,h0⟩⟩,Kp.refl _ _⟩
  rw [q119_eq];rfl
 ·have hk1:Kp h.length h (h++[some ⟨true,9,[]⟩]):=Kp.app _ (Nat.le_refl _)
  have hx2:=hx.keep hlow hk1
  have hc:slCells (h++[some ⟨true,9,[]⟩]) 9 (.sl k N off l.length)=some (codeC l):=by
   unfold slCells
   dsimp only
   by_cases h0:l.length=0
   ·have:l=[]:=List.length_eq_zero_iff.1 h0
    rw [if_pos h0,this];rfl
   ·rw [if_neg h0]
    rcases hx2.2 with ⟨e,_⟩ | ⟨k',N',off',e,hb⟩
    ·cases e
    ·cases e
     rcases hb with hb | ⟨b,hb,hN,hle,hat⟩
     ·exact absurd hb h0
     ·rw [hb]
      simp only
      rw [if_pos ⟨hN,hle⟩]
      congr 1
      refine List.ext_getElem? fun j=>?_
      rw [List.getElem?_take,List.getElem?_drop]
      by_cases hj:j<l.length*9
      ·rw [if_pos hj,hat j hj]
      ·rw [if_neg hj,List.getElem?_eq_none (by omega)]
  have hap:∀{α:Type} (f:Cell→AHeap→Option α),appK 9 72 (.sl h.length 0 0 0) (codeC l) (h++[some ⟨true,9,[]⟩]) f=f (.sl h.length (codeC l).length 0 l.length) (h++[some ⟨true,9,codeC l⟩]):=by
   intro α f
   unfold appK
   simp only
   rw [blk_new,Option.bind_some]
   dsimp only
   have hd:(codeC l).length / 9=l.length:=by rw [hlen];omega
   rw [if_pos ⟨rfl,rfl,rfl,by simp,by rw [hd];simp;omega,by rw [hd];simp;omega⟩,hd]
   by_cases h0:l.length=0
   ·have:l=[]:=List.length_eq_zero_iff.1 h0
    subst this
    rw [if_pos (by simp [codeC]),setBlk_last];rfl
   ·rw [if_neg (by omega),if_pos trivial,setBlk_last]
    simp
  refine ⟨.sl h.length (codeC l).length 0 l.length,h++[some ⟨true,9,codeC l⟩],R_intro hE.fn ?_,⟨hlen,.inr ⟨h.length,rfl,Nat.le_refl _,blk_new _ _⟩⟩,Kp.app _ (Nat.le_refl _)⟩
  rw [q119_eq,show ∀{α:Type} (f:Bool→Option α),eqNilK false (.sl k N off l.length) .nils f=f false from fun _=>rfl,if_neg (by simp),if_pos (show ([]:List Cell).length=0*9 from rfl),hc,bind_ok,show ([]:List Cell).length=0 from rfl,hap]
end
end Jq

namespace Jq
open Go
def mixL {α:Type} (f:α→α) (l:List α) (i:Nat):List α:=(l.take i).map f++l.drop i
theorem KpX.kp {a n m:Nat} {h h':AHeap} (x:KpX a n h h') (h1:m≤n) (h2:m≤a):Kp m h h':=⟨x.1,fun k hk=>x.2 k (by omega) (by omega)⟩
section
variable {E:Env}
theorem rd3 {α:Type} {h:AHeap} {k:Nat} {a b c:Cell} (hk:blk? h k=some ⟨true,0,[a,b,c]⟩) {F:List Cell→Option α}:rdH h k 3 F=F [a,b,c]:=rdH_ok hk rfl
end
end Jq

namespace Jq
open Go
variable (C:CallF) (L:LoopF) (G:Glo)
set_option maxRecDepth 100000 in
theorem q76_eq (x0:Cell) (a1:Int) (h0:AHeap):q76.body C L G [(.c x0),(.c (.int .i64 a1))] h0=c1 (C 97 [(.c x0),(.c (.int .i64 a1))] h0) fun y_2 h_1=>asA y_2 fun l_3=>c1 (C 101 [(.agg l_3)] h_1) fun y_5 h_4=>asA y_5 fun l_6=>if 0=0∧[Cell.nils,Cell.nils,Cell.nils].length=3∧l_6.length=3 then if 0=0∧l_6.length=3 then some ([(.agg l_6)],h_4) else none else none:=by kernel_rfl
end Jq

namespace Jq
open Go
section
variable {E:Env}
def tName:ByteArray:=ByteArray.mk #[116]
theorem small_end (hE:q115_In E) {h0 h hb:AHeap} {x:Cell} {l:List Int} (hx:SlAt h0 x 1 (intC .i64 l) l.length) (hlow:Low h0.length x) (hl:l.length<9223372036854775808) {m:Nat} (hv:VarsAt h0 x h m) (hm:m<1000)
  {most:Nat} {rows:List (List Ins)} {a y:Cell} {inits:List (Int × Int)} {Nb:Nat} (hNb:h0.length+2≤Nb) (hN:Nb≤h.length) (hy:RowsOwn 9 codeC Nb h y rows) (ha:SlAt h a 2 (pairC inits) inits.length∧Low h.length a∧∀k,isBlk a k→k≠h0.length+1)
  (hi:inits=[]∨∃v:Int,0≤v∧v<3∧inits=[(120,v)]) (hn:2≤rows.length∧rows.length≤3) (hmem:(rows.map memC).sum≤most) (hc:∃L:Int,(L=2∨L=3)∧∀c∈rows,∃k,k≤3∧ThrOk L k c) {s0:List Cell} (hs0:s0.length=5) :
  ∃(cs:List Cell) (h':AHeap) (T:PTest),(q97_k4 (R E) Lim E.glob hb) (.exit 0) (q97_x2_1 (nxF h0) s0 [.str tName,a,y,.int .i64 0,.nils] h)=some ([.agg cs],h')∧TestAt h' cs T∧GoodT most T∧Kp h0.length h0 h':=by
 obtain ⟨r,r0,r1,hF,hv2⟩:=next_R hE hx hlow hl hv (by omega)
 have hset:=KpX.set (h0.length+1) h.length h (some ⟨true,0,[.int .i64 ((m+1:Nat):Int)]⟩)
 have hy2:=hy.keepX (show h0.length+1<Nb by omega) hset
 have ha2:SlAt (setBlk h (h0.length+1) (some ⟨true,0,[.int .i64 ((m+1:Nat):Int)]⟩)) a 2 (pairC inits) inits.length:=by
  refine ⟨ha.1.1,ha.1.2.imp id ?_⟩
  rintro ⟨k,N,off,e,hh | ⟨b,hb,hN,hle,hat⟩⟩
  ·exact ⟨k,N,off,e,.inl hh⟩
  ·have hk:=ha.2.2 k (by rw [e];rfl)
   exact ⟨k,N,off,e,.inr ⟨b,by rw [blk_set_ne (fun q=>hk q.symm)];exact hb,hN,hle,hat⟩⟩
 have hal2:Low (setBlk h (h0.length+1) (some ⟨true,0,[.int .i64 ((m+1:Nat):Int)]⟩)).length a:=by rw [setBlk_len];exact ha.2.1
 rw [q97_e2_1,hF,asI_ok]
 generalize setBlk h (h0.length+1) (some ⟨true,0,[.int .i64 ((m+1:Nat):Int)]⟩)=H at *
 have q5:=rem_rng (E:=E) (shr_nn (E:=E) (k:=5) r0) (show (0:Int)<3 by omega)
 by_cases h3:(E.glob.rem .i64 r 3==0)=true
 ·rw [if_pos h3]
  dsimp only
  generalize E.glob.band .i64 (E.glob.shr .i64 r 3) 1=b3
  generalize E.glob.band .i64 (E.glob.shr .i64 r 4) 1=b4
  generalize E.glob.rem .i64 (E.glob.shr .i64 r 5) 3=v5
  generalize E.glob.band .i64 (E.glob.shr .i64 r 7) 1=b7
  generalize E.glob.wrap .i64 (E.glob.rem .i64 (E.glob.quo .i64 r 3) 2+1)=ck
  have e1:splice (splice (splice [ci0,ci0,ci0,ci0] 0 [(.int .i64 0)]) 1 [(.int .i64 b3)]) 3 [(.int .i64 b4)]=(Atm.mk 0 b3 0 b4).cs:=rfl
  have e2:splice (splice (splice [ci0,ci0,ci0,ci0] 0 [(.int .i64 (-1))]) 2 [(.int .i64 120)]) 3 [(.int .i64 v5)]=(Atm.mk (-1) 0 120 v5).cs:=rfl
  have e3:splice (splice (splice [ci0,ci0,ci0,ci0] 0 [(.int .i64 1)]) 1 [(.int .i64 0)]) 3 [(.int .i64 b7)]=(Atm.mk 1 0 0 b7).cs:=rfl
  have e4:∀a:Atm,splice [ci0,ci0,ci0,ci0] 0 a.cs=atmC [a]:=fun _=>rfl
  have e5:∀a b:Atm,splice (splice (List.replicate 8 ci0) 0 a.cs) 4 b.cs=atmC [a,b]:=fun _ _=>rfl
  have e6:∀a b:Cell,splice (splice [Cell.nils,Cell.nils] 0 [a]) 1 [b]=[a,b]:=fun _ _=>rfl
  have e7:∀a b:Cell,splice (splice [ci0,Cell.nils] 0 [a]) 1 [b]=[a,b]:=fun _ _=>rfl
  have l1:∀a:Atm,(atmC [a]).length=4:=fun _=>rfl
  have l2:∀a b:Atm,(atmC [a,b]).length=8:=fun _ _=>rfl
  simp only [e1,e2,e3,e4,e5,e6,e7,l1,l2]
  rw [if_pos ⟨rfl,by simp⟩,if_pos trivial,if_pos ⟨rfl,by simp⟩,if_pos ⟨rfl,by simp [splice,Atm.cs]⟩,if_pos trivial,if_pos (by simp),if_pos (by simp),if_pos (by simp [splice]),if_pos (by simp [splice,hs0]),if_pos (by simp [splice])]
  have k1:Kp H.length H (H++[some ⟨true,4,atmC [⟨0,b3,0,b4⟩]⟩]):=Kp.app _ (Nat.le_refl _)
  have n1:(H++[some (Blk.mk true 4 (atmC [⟨0,b3,0,b4⟩]))]).length=H.length+1:=by simp
  have c1':blk? (H++[some ⟨true,4,atmC [⟨0,b3,0,b4⟩]⟩]) H.length=some ⟨true,4,atmC [⟨0,b3,0,b4⟩]⟩:=blk_new _ _
  generalize H++[some (Blk.mk true 4 (atmC [⟨0,b3,0,b4⟩]))]=H1 at *
  have k2:Kp H.length H (H1++[some ⟨true,4,atmC [⟨-1,0,120,v5⟩,⟨1,0,0,b7⟩]⟩]):=k1.trans (Kp.app _ (by omega))
  have n2:(H1++[some (Blk.mk true 4 (atmC [⟨-1,0,120,v5⟩,⟨1,0,0,b7⟩]))]).length=H1.length+1:=by simp
  have c2':blk? (H1++[some ⟨true,4,atmC [⟨-1,0,120,v5⟩,⟨1,0,0,b7⟩]⟩]) H1.length=some ⟨true,4,atmC [⟨-1,0,120,v5⟩,⟨1,0,0,b7⟩]⟩:=blk_new _ _
  have c1'':blk? (H1++[some ⟨true,4,atmC [⟨-1,0,120,v5⟩,⟨1,0,0,b7⟩]⟩]) H.length=some ⟨true,4,atmC [⟨0,b3,0,b4⟩]⟩:=blk_old c1' _
  generalize H1++[some (Blk.mk true 4 (atmC [⟨-1,0,120,v5⟩,⟨1,0,0,b7⟩]))]=H2 at *
  have k3:Kp H.length H (H2++[some ⟨true,1,[Cell.sl H.length 4 0 1,Cell.sl H1.length 8 0 2]⟩]):=k2.trans (Kp.app _ (by omega))
  have c3':blk? (H2++[some ⟨true,1,[Cell.sl H.length 4 0 1,Cell.sl H1.length 8 0 2]⟩]) H2.length=some ⟨true,1,[Cell.sl H.length 4 0 1,Cell.sl H1.length 8 0 2]⟩:=blk_new _ _
  have c2'':blk? (H2++[some ⟨true,1,[Cell.sl H.length 4 0 1,Cell.sl H1.length 8 0 2]⟩]) H1.length=some ⟨true,4,atmC [⟨-1,0,120,v5⟩,⟨1,0,0,b7⟩]⟩:=blk_old c2' _
  have c1''':blk? (H2++[some ⟨true,1,[Cell.sl H.length 4 0 1,Cell.sl H1.length 8 0 2]⟩]) H.length=some ⟨true,4,atmC [⟨0,b3,0,b4⟩]⟩:=blk_old c1'' _
  have n3:(H2++[some (Blk.mk true 1 [Cell.sl H.length 4 0 1,Cell.sl H1.length 8 0 2])]).length=H2.length+1:=by simp
  refine ⟨_,_,⟨tName,inits,rows,ck,[[⟨0,b3,0,b4⟩],[⟨-1,0,120,v5⟩,⟨1,0,0,b7⟩]]⟩,rfl,?_,⟨(by show tName.size≤20;decide),hn,hc,hmem,hi,by simp,?_⟩,hv2.2.2.2.trans (k3.mono (by have:=hv2.2.2.1;omega))⟩
  ·refine ⟨a,y,.sl H2.length 2 0 2,by simp [splice],⟨ha2.keep hal2 k3,Low_mono k3.1 hal2⟩,hy2.of.keep k3,⟨[Cell.sl H.length 4 0 1,Cell.sl H1.length 8 0 2],⟨rfl,.inr ⟨_,_,0,rfl,.inr ⟨_,c3',rfl,by simp,fun j _=>by simp⟩⟩⟩,.inr (by omega),fun t r ht=>?_⟩⟩
   match t,ht with
   | 0,ht =>
    cases ht
    exact ⟨_,rfl,⟨rfl,.inr ⟨_,_,0,rfl,.inr ⟨_,c1''',rfl,by simp,fun j _=>by simp⟩⟩⟩,.inr (by omega)⟩
   | 1,ht =>
    cases ht
    exact ⟨_,rfl,⟨rfl,.inr ⟨_,_,0,rfl,.inr ⟨_,c2'',rfl,by simp,fun j _=>by simp⟩⟩⟩,.inr (by omega)⟩
   | t+2,ht=>simp at ht
  ·intro row hr
   simp only [List.mem_cons,List.not_mem_nil,or_false] at hr
   rcases hr with rfl | rfl
   ·exact ⟨by simp,fun a ha=>by simp at ha;subst ha;exact .inl rfl⟩
   ·refine ⟨by simp,fun a ha=>?_⟩
    simp at ha
    rcases ha with rfl | rfl
    ·exact .inr rfl
    ·exact .inl rfl
 ·rw [if_neg h3,if_pos ⟨rfl,rfl⟩,if_pos ⟨rfl,hs0,rfl⟩,if_pos ⟨rfl,rfl⟩]
  refine ⟨_,_,⟨tName,inits,rows,0,[]⟩,rfl,⟨a,y,.nils,rfl,⟨ha2,hal2⟩,hy2.of,⟨[],⟨rfl,.inl ⟨rfl,rfl⟩⟩,trivial,fun t r ht=>by simp at ht⟩⟩,⟨(by show tName.size≤20;decide),hn,hc,hmem,hi,by simp,by simp⟩,hv2.2.2.2⟩
theorem Small_R (hE:q97_In E) {h:AHeap} {x:Cell} {l:List Int} (hx:SlAt h x 1 (intC .i64 l) l.length) (hlow:Low h.length x) (hl:l.length<9223372036854775808) {most:Nat} (hmost:most≤900) :
  ∃(cs:List Cell) (h':AHeap) (T:PTest),R E 97 [.c x,.c (.int .i64 (most:Int))] h=some ([.agg cs],h')∧TestAt h' cs T∧GoodT most T∧Kp h.length h h':=by
 suffices hs:∃(cs:List Cell) (h':AHeap) (T:PTest),q97.body (R E) Lim E.glob [.c x,.c (.int .i64 (most:Int))] h=some ([.agg cs],h')∧TestAt h' cs T∧GoodT most T∧Kp h.length h h' by
  obtain ⟨cs,h',T,h1,h2⟩:=hs;exact ⟨cs,h',T,R_intro hE.fn h1,h2⟩
 have hc:AV.cells (.c x)=[x]:=rfl
 have hl1:([x]:List Cell).length=1:=rfl
 have hl0:([ci0]:List Cell).length=1:=rfl
 have hln:(h++[some (Blk.mk true 0 [x])]).length=h.length+1:=by simp
 have hnm:splice [Cell.str (ByteArray.mk #[]),Cell.nils,Cell.nils,ci0,Cell.nils] 0 ([(.str (ByteArray.mk #[116]))]:List Cell)=[.str tName,.nils,.nils,.int .i64 0,.nils]:=rfl
 rw [q97_eq,hc,hl1,hl0,hnm,if_pos ⟨rfl,rfl,rfl⟩,rd1' (blk_new _ _),if_pos (by simp),putH_ok (blk_new _ _) rfl,setBlk_last]
 dsimp only [List.set]
 rw [hln]
 have hv0:VarsAt h x (h++[some ⟨true,0,[x]⟩]++[some ⟨true,0,[ci0]⟩]) 0:=by
  refine ⟨blk_old (blk_new _ _) _,?_,by simp,?_⟩
  ·have:=blk_new (h++[some (Blk.mk true 0 [x])]) ⟨true,0,[ci0]⟩
   rw [hln] at this;exact this
  ·rw [List.append_assoc];exact Kp.app _ (Nat.le_refl _)
 have hlen0:(h++[some (Blk.mk true 0 [x])]++[some (Blk.mk true 0 [ci0])]).length=h.length+2:=by simp
 generalize h++[some (Blk.mk true 0 [x])]++[some (Blk.mk true 0 [ci0])]=H0 at *
 rw [show (Cell.fn 115 [(h.length+1,1,0),(h.length,1,0)])=nxF h from rfl]
 obtain ⟨a0,a0p,_,hF1,hv1⟩:=next_R hE.c115 hx hlow hl hv0 (by omega)
 rw [hF1,asI_ok]
 have hlen1:(setBlk H0 (h.length+1) (some ⟨true,0,[.int .i64 ((0+1:Nat):Int)]⟩)).length=h.length+2:=by rw [setBlk_len,hlen0]
 generalize setBlk H0 (h.length+1) (some ⟨true,0,[.int .i64 ((0+1:Nat):Int)]⟩)=H1 at *
 obtain ⟨a1,a1p,_,hF2,hv2⟩:=next_R hE.c115 hx hlow hl hv1 (by omega)
 rw [hF2,asI_ok]
 have hlen2:(setBlk H1 (h.length+1) (some ⟨true,0,[.int .i64 ((0+1+1:Nat):Int)]⟩)).length=h.length+2:=by rw [setBlk_len,hlen1]
 generalize setBlk H1 (h.length+1) (some ⟨true,0,[.int .i64 ((0+1+1:Nat):Int)]⟩)=H2 at *
 obtain ⟨a2,a2p,_,hF3,hv3⟩:=next_R hE.c115 hx hlow hl hv2 (by omega)
 rw [hF3,asI_ok]
 have hlen3:(setBlk H2 (h.length+1) (some ⟨true,0,[.int .i64 ((0+1+1+1:Nat):Int)]⟩)).length=h.length+2:=by rw [setBlk_len,hlen2]
 generalize setBlk H2 (h.length+1) (some ⟨true,0,[.int .i64 ((0+1+1+1:Nat):Int)]⟩)=H3 at *
 have n2:=rem_rng (E:=E) a0p (show (0:Int)<2 by omega)
 have n3:=rem_rng (E:=E) a1p (show (0:Int)<2 by omega)
 have w2:E.glob.wrap .i64 (E.glob.rem .i64 a0 2+2)=E.glob.rem .i64 a0 2+2:=g_wrap_i64 (by omega) (by omega)
 have w3:E.glob.wrap .i64 (E.glob.rem .i64 a1 2+2)=E.glob.rem .i64 a1 2+2:=g_wrap_i64 (by omega) (by omega)
 rw [w2,w3]
 obtain ⟨n,hn⟩:∃n:Nat,E.glob.rem .i64 a0 2+2=(n:Int):=⟨(E.glob.rem .i64 a0 2+2).toNat,by omega⟩
 generalize hLL:E.glob.rem .i64 a1 2+2=L at *
 rw [hn]
 have rest:∀(m:Nat) (H:AHeap) (a:Cell) (inits:List (Int × Int)),m≤4→VarsAt h x H m→SlAt H a 2 (pairC inits) inits.length→Low H.length a→(∀k,isBlk a k→k≠h.length+1)→(inits=[]∨∃v:Int,0≤v∧v<3∧inits=[(120,v)]) →
   ∃(cs:List Cell) (h':AHeap) (T:PTest),(q97_k2 (R E) Lim E.glob h) .normal (q97_c1 (most:Int) (nxF h) (n:Int) L [Cell.str (ByteArray.mk #[]),Cell.nils,Cell.nils,ci0,Cell.nils] [.str tName,a,.nils,.int .i64 0,.nils] H)=some ([.agg cs],h')∧TestAt h' cs T∧GoodT most T∧Kp h.length h h':=by
  intro m H a inits hm hv ha hal had hi
  obtain ⟨mem',m',rows',y',H',f1,f2,f3,f4,f5,f6,f7,f8,f9,f10⟩:=small_thrs hE.c115 hx hlow hl hmost (n:=n) (by omega) (L:=L) (by omega) [Cell.str (ByteArray.mk #[]),Cell.nils,Cell.nils,ci0,Cell.nils] a (name:=tName) (Nb:=H.length) hv.2.2.1 n 0 0 m [] .nils H (by omega) rfl (by omega) (by omega) rfl (by simp) hv (Nat.le_refl _) (RowsOwn.nil _)
  have ha':SlAt H' a 2 (pairC inits) inits.length:=by
   refine ⟨ha.1,ha.2.imp id ?_⟩
   rintro ⟨k,N,off,e,hh | ⟨b,hb,hN,hle,hat⟩⟩
   ·exact ⟨k,N,off,e,.inl hh⟩
   ·exact ⟨k,N,off,e,.inr ⟨b,by rw [f10.blk (blk_lt' hb) (had k (by rw [e];rfl))];exact hb,hN,hle,hat⟩⟩
  obtain ⟨cs,h',T,g1,g2,g3,g4⟩:=small_end hE.c115 (hb:=h) hx hlow hl f6 (by omega) (most:=most) (rows:=rows') (a:=a) (y:=y') (inits:=inits) (Nb:=H.length) hv.2.2.1 f8 f9 ⟨ha',Low_mono f10.1 hal,had⟩ hi (by omega) (by omega) ⟨L,by omega,f5⟩ (s0:=[Cell.str (ByteArray.mk #[]),Cell.nils,Cell.nils,ci0,Cell.nils]) rfl
  refine ⟨cs,h',T,?_,g2,g3,g4⟩
  rw [q97_ec1_n]
  have e0:q97_s2 (most:Int) (nxF h) (n:Int) L 0 0 [Cell.str (ByteArray.mk #[]),Cell.nils,Cell.nils,ci0,Cell.nils] [.str tName,a,.nils,.int .i64 0,.nils] H=q97_s2 (most:Int) (nxF h) (n:Int) L ((0:Nat):Int) ((0:Nat):Int) [Cell.str (ByteArray.mk #[]),Cell.nils,Cell.nils,ci0,Cell.nils] [.str tName,a,.nils,.int .i64 0,.nils] H:=rfl
  rw [e0,f1,bind_ok,g1]
 by_cases h4:(E.glob.rem .i64 a2 4==0)=true
 ·obtain ⟨a3,a3p,_,hF4,hv4⟩:=next_R hE.c115 hx hlow hl hv3 (by omega)
  have q3:=rem_rng (E:=E) a3p (show (0:Int)<3 by omega)
  rw [if_pos h4,show ∀{α:Type} (f:Cell→Option α),atK [Cell.str tName,.nils,.nils,.int .i64 0,.nils] 1 f=f .nils from fun _=>rfl,hF4,asI_ok]
  have hlen4:(setBlk H3 (h.length+1) (some ⟨true,0,[.int .i64 ((0+1+1+1+1:Nat):Int)]⟩)).length=h.length+2:=by rw [setBlk_len,hlen3]
  generalize setBlk H3 (h.length+1) (some ⟨true,0,[.int .i64 ((0+1+1+1+1:Nat):Int)]⟩)=H4 at *
  generalize E.glob.rem .i64 a3 3=v at *
  have e1:splice (splice [ci0,ci0] 0 [(.int .i64 120)]) 1 [(.int .i64 v)]=pairC [(120,v)]:=rfl
  have e2:splice [ci0,ci0] 0 (pairC [(120,v)])=pairC [(120,v)]:=rfl
  have hm:maxBytes≥100:=by unfold maxBytes;omega
  have hap:∀{α:Type} (f:Cell→AHeap→Option α),appK 2 16 .nils (pairC [(120,v)]) H4 f=f (.sl H4.length 2 0 1) (H4++[some ⟨true,2,pairC [(120,v)]⟩]):=by
   intro α f
   unfold appK
   simp only
   rw [if_neg (by simp [pairC]),if_pos ⟨by simp [pairC];omega,by simp [pairC];omega⟩]
   simp [pairC]
  rw [e1,if_pos ⟨rfl,by simp⟩,e2,if_pos (show (pairC [(120,v)]).length=1*2 from rfl),hap,if_pos (by simp),bind_ok]
  have hv5:VarsAt h x (H4++[some ⟨true,2,pairC [(120,v)]⟩]) (0+1+1+1+1):=hv4.keep (Kp.app _ (by omega))
  exact rest (0+1+1+1+1) _ (.sl H4.length 2 0 1) [(120,v)] (by omega) hv5 ⟨rfl,.inr ⟨_,_,0,rfl,.inr ⟨_,blk_new _ _,rfl,by simp,fun j _=>by simp⟩⟩⟩ (.inr (by simp)) (fun k hk=>by have:H4.length=k:=hk;omega) (.inr ⟨v,q3.1,q3.2,rfl⟩)
 ·rw [if_neg h4,bind_ok]
  exact rest (0+1+1+1) _ .nils [] (by omega) hv3 ⟨rfl,.inl ⟨rfl,rfl⟩⟩ trivial (fun k hk=>by cases hk) (.inl rfl)
end
end Jq

namespace Jq
open Go
section
variable {E:Env}
end
end Jq

namespace Jq
open Go
section
variable {E:Env}
theorem SlAt.whole {h:AHeap} {k len esz:Nat} {cs:List Cell} {o:Bool} {e:Nat} (hb:blk? h k=some ⟨o,e,cs⟩) (hl:cs.length=len*esz):SlAt h (.sl k cs.length 0 len) esz cs len :=
 ⟨hl,.inr ⟨k,_,0,rfl,.inr ⟨_,hb,rfl,by omega,fun j _=>by simp⟩⟩⟩
end
end Jq

namespace Jq
open Go
def SkipOk (code:List Ins):Prop:=∀(j:Nat) (i:Ins),code[j]? = some i→i.kind=6→0≤i.n∧(j:Int)+1+i.n≤code.length
structure GoodP (most:Nat) (P:PProg):Prop where
 small:P.small
 good:P.good
 n:2≤P.thr.length∧P.thr.length≤3
 init:P.init.length≤3
 locs:P.locs.length=P.init.length
 code:∀c∈P.thr,c.length≤6
 skip:∀c∈P.thr,SkipOk c
theorem SmI.good {L:Int} {i:Ins} (s:SmI L i) {n:Nat} (hn:1≤n):GoodI n i:=by
 rcases s with ⟨h1,h2,_⟩ | ⟨h1,h2,_⟩ | rfl | ⟨h1,h2,_⟩ | ⟨h1,h2,_,_,h3,_⟩ | ⟨h1,h2,_,_,h3,_,h4⟩
 all_goals refine ⟨?_,?_,?_,?_⟩<;>(try simp only)<;>omega
theorem SmI.skip {L:Int} {i:Ins} (s:SmI L i) (h:i.kind=6):i.n=1:=by
 rcases s with ⟨h1,_⟩ | ⟨h1,_⟩ | rfl | ⟨h1,_⟩ | ⟨h1,_⟩ | ⟨h1,h2,_,_,h3,_,h4⟩
 ·omega
 ·omega
 ·simp at h
 ·omega
 ·omega
 ·exact h4
theorem ThrOk.skip {L:Int} {k:Nat} {c:List Ins} (t:ThrOk L k c):SkipOk c:=by
 induction t with
 | nil=>intro j i h;simp at h
 | @one k c q t hq h6 ih =>
  intro j i h hk
  rcases Nat.lt_or_ge j c.length with hj | hj
  ·rw [List.getElem?_append_left hj] at h
   have:=ih j i h hk
   rw [List.length_append];simp;omega
  ·rw [List.getElem?_append_right hj] at h
   have:=List.mem_of_getElem? h
   rw [List.mem_singleton] at this
   subst this;exact absurd hk h6
 | @two k c q r t hq h6 hr hr1 ih =>
  intro j i h hk
  rcases Nat.lt_or_ge j c.length with hj | hj
  ·rw [List.getElem?_append_left hj] at h
   have:=ih j i h hk
   rw [List.length_append];simp;omega
  ·rw [List.getElem?_append_right hj] at h
   have h2:=getI_lt h
   simp only [List.length_cons,List.length_nil] at h2
   rcases (show j - c.length=0∨j - c.length=1 by omega) with e | e
   ·rw [e] at h
    cases h
    have:=hq.skip hk
    rw [List.length_append];simp;omega
   ·rw [e] at h
    cases h
    omega
theorem compI_kn {locs:List Int} {i:Ins}:(compI locs i).kind=i.kind∧(compI locs i).n=i.n:=by
 unfold compI;split<;>exact ⟨rfl,rfl⟩
theorem SkipOk.map {locs:List Int} {c:List Ins} (s:SkipOk c):SkipOk (c.map (compI locs)):=by
 intro j i h hk
 rw [List.getElem?_map] at h
 cases hc:c[j]? with
 | none=>rw [hc] at h;cases h
 | some q =>
  rw [hc] at h
  cases h
  rw [compI_kn.1] at hk
  rw [compI_kn.2,List.length_map]
  exact s j q hc hk
theorem compI_good {locs:List Int} {i:Ins} {n:Nat} (g:GoodI n i):GoodI n (compI locs i):=by
 unfold compI
 split
 ·exact ⟨g.1,g.2,g.3,g.4⟩
 ·exact g
theorem SmI.loc {L:Int} {i:Ins} (s:SmI L i):i.loc=0∨(120≤i.loc∧i.loc<120+L):=by
 rcases s with ⟨h1,h2,h3,_⟩ | ⟨h1,h2,h3,_⟩ | rfl | ⟨h1,h2,h3,_⟩ | ⟨h1,h2,h3,_,_⟩ | ⟨h1,h2,h3,_,_,_⟩
 ·exact .inr h3
 ·exact .inr h3
 ·exact .inl rfl
 ·exact .inr h3
 ·exact .inl h3
 ·exact .inl h3
theorem locsF_few (S:Nat→Bool) (hS:∀b,97≤b→b<120→S b=false):∀n,n≤26→(locsF S n).length≤n - 23
 | 0,_=>by simp [locsF]
 | n+1,h=>by
  have ih:=locsF_few S hS n (by omega)
  rw [locsF_succ]
  split
  ·rename_i hs
   have:¬97+n<120:=fun hlt=>by rw [hS _ (by omega) hlt] at hs;cases hs
   rw [List.length_append,List.length_singleton];omega
  ·omega
theorem GoodT.small {most:Nat} {T:PTest} (g:GoodT most T):T.small:=by
 obtain ⟨L,hL,hc⟩:=g.code
 refine ⟨?_,by have:=g.n;omega,fun c hcm=>?_,by have:=g.any.1;omega,fun c hcm=>by have:=(g.any.2 c hcm).1;omega⟩
 ·rcases g.inits with h | ⟨v,_,_,h⟩<;>rw [h]<;>simp
 ·obtain ⟨k,hk,ht⟩:=hc c hcm
  have:=ht.len;omega
theorem GoodT.few {most:Nat} {T:PTest} (g:GoodT most T):(locsT T).length≤3:=by
 obtain ⟨L,hL,hc⟩:=g.code
 refine Nat.le_trans (locsF_few (thereT T) (fun b h1 h2=>?_) 26 (Nat.le_refl _)) (by omega)
 unfold thereT
 rw [Bool.or_eq_false_iff,Bool.or_eq_false_iff]
 refine ⟨⟨?_,?_⟩,?_⟩
 ·rw [List.any_eq_false]
  intro p hp
  rcases g.inits with h | ⟨v,_,_,h⟩
  ·rw [h] at hp;cases hp
  ·rw [h] at hp
   rw [List.mem_singleton] at hp
   subst hp
   rw [beq_iff_eq];simp only;omega
 ·rw [List.any_eq_false]
  intro c hcm
  rw [Bool.not_eq_true,List.any_eq_false]
  intro i hi
  obtain ⟨k,hk,ht⟩:=hc c hcm
  rw [beq_iff_eq]
  have:=(ht.all i hi).loc
  omega
 ·rw [List.any_eq_false]
  intro c hcm
  rw [Bool.not_eq_true,List.any_eq_false]
  intro i hi
  rw [beq_iff_eq]
  have:=(g.any.2 c hcm).2 i hi
  omega
theorem GoodT.goodP {most:Nat} {T:PTest} (g:GoodT most T):GoodP most (compT T):=by
 obtain ⟨L,hL,hc⟩:=g.code
 have hlen:∀c∈T.thr,c.length≤6:=fun c hcm=>by
  obtain ⟨k,hk,ht⟩:=hc c hcm
  have:=ht.len;omega
 have hcode:∀c∈(compT T).thr,c.length≤6:=fun c hcm=>by
  obtain ⟨d,hd,rfl⟩:=List.mem_map.1 hcm
  rw [List.length_map];exact hlen d hd
 have hn:(compT T).thr.length=T.thr.length:=List.length_map _
 have hi:(compT T).init.length=(locsT T).length:=List.length_map _
 have hfew:=g.few
 have hgn:=g.n
 refine ⟨⟨by omega,fun c hcm=>by have:=hcode c hcm;omega⟩,⟨⟨by omega,fun c hcm=>by have:=hcode c hcm;omega⟩,fun c hcm=>?_⟩,by omega,by omega,hi.symm,hcode,fun c hcm=>by
  obtain ⟨d,hd,rfl⟩:=List.mem_map.1 hcm
  obtain ⟨k,hk,ht⟩:=hc d hd
  exact ht.skip.map⟩
 obtain ⟨d,hd,rfl⟩:=List.mem_map.1 hcm
 intro i him
 obtain ⟨j,hj,rfl⟩:=List.mem_map.1 him
 rw [List.length_map]
 obtain ⟨k,hk,ht⟩:=hc d hd
 exact compI_good ((ht.all j hj).good (List.length_pos_of_mem hj))
section
variable {E:Env}
end
def rdc (l:List Evt):Nat:=l.countP evRd
def EvOk (t:Int) (all:List Int) (j n:Nat) (e:Evt):Prop :=
 e.t=t∧e.i=(j:Int)∧1≤e.kind∧e.kind≤5∧(evWr e=false→e.w=0)∧(evRd e=true→all[n]? = some e.r)∧(evRd e=false→e.r=0)
def OutOk (t:Int) (all:List Int) (out:List Evt):Prop:=∀(j:Nat) (e:Evt),out[j]? = some e→EvOk t all j (rdc (out.take j)) e
theorem OutOk.nil (t:Int) (all:List Int):OutOk t all []:=fun j e h=>by simp at h
end Jq

namespace Jq
open Go
section
variable {E:Env}
theorem Size_R (hE:q102_In E) {cs:List Cell} {P:PProg} {h:AHeap} (p:ProgAt h cs P) (hs:P.small):R E 102 [.agg cs] h=some ([.c (.int .i64 (sumL P.thr))],h):=by
 obtain ⟨a,b,c,ts,rfl,_,_,⟨hc,_⟩,hx⟩:=p
 refine R_intro hE.fn ?_
 have a2:∀{α:Type} (f:Cell→Option α),atK [a,b,c] 2 f=f c:=fun _=>rfl
 have n2:=hs.1
 have loop:=Lim_count (F:=q102_F1 (R E) Lim E.glob) (fun i=>q102_s1 (sumL (P.thr.take i)) c P.thr.length (i:Int) h) 0 P.thr.length (by omega) (p:=(.exit 0,q102_x1_1 (sumL (P.thr.take P.thr.length)) h))
  (fun i _ hi=>by
   have hq:P.thr[i]? = some P.thr[i]:=List.getElem?_eq_getElem hi
   generalize P.thr[i]=q at hq
   obtain ⟨y,y1,y2,y3⟩:=hx i q hq
   have hsum:=sumT_le (P.thr.take i) fun c hc=>hs.2 c (List.mem_of_mem_take hc)
   rw [List.length_take] at hsum
   have hql:=hs.2 q (List.mem_of_getElem? hq)
   have hw:E.glob.wrap .i64 (sumL (P.thr.take i)+(q.length:Int))=sumL (P.thr.take (i+1)):=by
    rw [takeI_succ hq,sumL_snoc]
    unfold sumL
    exact g_wrap_i64 (by omega) (by omega)
   rw [q102_r1,if_pos (by simp;omega),hc.get1 hi y1,y2.len,hw,g_succ (by omega)])
  (Lim_exit (by rw [q102_r1,if_neg (by simp)]))
 rw [List.take_of_length_le (Nat.le_refl _),show sumL (P.thr.take 0)=0 from rfl,show ((0:Nat):Int)=0 from rfl] at loop
 rw [q102_eq,a2,hc.len,loop,bind_ok,q102_e1_1]
def T6:PTest:=⟨ByteArray.mk #[97],[],[[⟨5,0,0,⟨-1,1⟩,0,⟨-1,0⟩,0⟩,⟨1,0,120,⟨0,0⟩,0,⟨0,0⟩,0⟩]],0,[]⟩
end
end Jq

namespace Jq
open Go
def incI:Ins:=⟨5,0,0,⟨0,0⟩,1,⟨-1,1⟩,0⟩
def skipI (a b n:Int):Ins:=⟨6,0,0,⟨-1,a⟩,0,⟨-1,b⟩,n⟩
section
variable {E:Env}
end
end Jq

namespace Jq
open Go
def SetOk (i:Ins):Prop:=i.kind=5∧(0≤i.reg∧i.reg<4)∧0≤i.op∧i.op≤11
def regsC (l:Lcl):List Cell:=[.int .i64 l.r0,.int .i64 l.r1,.int .i64 l.r2,.int .i64 l.r3]
def setV (i:Ins) (l:Lcl):Lcl:=l.setR i.reg ((doV i.op (opV i.a l) (opV i.b l)).getD (opV i.a l))
theorem splice_app (a b xs:List Cell) (j:Nat):splice (a++b) (a.length+j) xs=a++splice b j xs:=by
 unfold splice
 rw [List.take_append,List.drop_append,List.take_of_length_le (by omega),List.drop_of_length_le (l:=a) (by omega)]
 simp only [List.nil_append,List.append_assoc,show a.length+j - a.length=j by omega,show a.length+j+xs.length - a.length=j+xs.length by omega]
section
variable {E:Env}
def mkOp (E:Env) (x:Int):Int:=E.glob.rem .i64 (E.glob.band .i64 (E.glob.shr .i64 x 4) 255) 12
def mkRaw (E:Env) (x:Int):Ins:=⟨5,E.glob.band .i64 x 3,0,⟨E.glob.band .i64 (E.glob.shr .i64 x 2) 3,0⟩,mkOp E x,⟨E.glob.band .i64 (E.glob.shr .i64 x 12) 3,0⟩,0⟩
def mkI (E:Env) (x:Int):Ins:=if mkOp E x=0 then { mkRaw E x with b:=⟨-1,0⟩ } else mkRaw E x
def setsBase (a b:Int):List Ins:=[⟨5,0,0,⟨-1,a⟩,0,⟨-1,0⟩,0⟩,⟨5,1,0,⟨-1,b⟩,0,⟨-1,0⟩,0⟩]
end
end Jq

namespace Jq
open Go
variable (C:CallF) (L:LoopF) (G:Glo)
set_option maxRecDepth 100000 in
theorem q190_eq (a0:Int) (h0:AHeap):q190.body C L G [(.c (.int .i64 a0))] h0=scK (a0 != 2) true (some ((a0 != 3),h0)) false h0 fun b_1 h_2=>if b_1=true then if 0=0∧(List.replicate 74 ci0).length=74∧(splice (List.replicate 74 ci0) 0 [(.int .i64 0)]).length=74 then if 0=0∧(splice (List.replicate 74 ci0) 0 [(.int .i64 0)]).length=74 then some ([(.agg (splice (List.replicate 74 ci0) 0 [(.int .i64 0)]))],h_2) else none else none else if 0=0∧(List.replicate 74 ci0).length=74∧(splice (List.replicate 74 ci0) 0 [(.int .i64 a0)]).length=74 then if 0=0∧(splice (List.replicate 74 ci0) 0 [(.int .i64 a0)]).length=74 then some ([(.agg (splice (List.replicate 74 ci0) 0 [(.int .i64 a0)]))],h_2) else none else none:=by kernel_rfl
set_option maxRecDepth 100000 in
theorem q191_eq (l0:List Cell) (h0:AHeap):q191.body C L G [(.agg l0)] h0=atK l0 1 fun q_1=>asI .i64 (.c q_1) fun n_2=>some ([(.c (.bool (n_2==0)))],h0):=by kernel_rfl
set_option maxRecDepth 100000 in
theorem q192_eq (l0:List Cell) (a1:Int) (h0:AHeap):q192.body C L G [(.agg l0),(.c (.int .i64 a1))] h0=if 0=0∧l0.length=74 then c1 (C 204 [(.agg l0),(.c (.int .i64 a1))] h0) fun y_2 h_1=>asI .i64 y_2 fun n_3=>if (decide (n_3<0))=true then some ([(.c (.int .i64 0)),(.c (.int .i64 0)),(.c (.int .i64 0)),(.c (.bool false))],h_1) else if 0≤n_3∧n_3<((24:Nat):Int) then atK l0 ((2+((Int.toNat n_3)*3))+0) fun q_4=>asI .i64 (.c q_4) fun n_5=>if 0≤n_3∧n_3<((24:Nat):Int) then atK l0 ((2+((Int.toNat n_3)*3))+1) fun q_6=>asI .i64 (.c q_6) fun n_7=>if 0≤n_3∧n_3<((24:Nat):Int) then atK l0 ((2+((Int.toNat n_3)*3))+2) fun q_8=>asI .i64 (.c q_8) fun n_9=>some ([(.c (.int .i64 n_5)),(.c (.int .i64 n_7)),(.c (.int .i64 n_9)),(.c (.bool true))],h_1) else none else none else none else none:=by kernel_rfl
def q204_k2 (C:CallF) (L:LoopF) (G:Glo) (h0:AHeap):Ex→St→Option (List AV × AHeap):=kSeq (fun st=>q204_p1.exec C L G st (q204.fin G h0)) (q204.fin G h0)
def q204_k3 (C:CallF) (L:LoopF) (G:Glo) (h0:AHeap):Ex→St→Option (List AV × AHeap):=kBlk 0 (q204_k2 C L G h0)
def q204_s1 (a1 a7 a8:Int) (s0:List Cell) (h:AHeap):St:=⟨tops 1 (.v (.c (.int .i64 a1)) :: .loc 0 0 :: tops 4 (.v (.c (.int .i64 a7)) :: .v (.c (.int .i64 a8)) :: tops 16 [])),[some s0],h⟩
def q204_F1 (C:CallF) (L:LoopF) (G:Glo):St→Option (Ex × St):=roundF (fun st f=>q204_b1.exec C L G st f) [1,2,7,8] [0] [(0,[4],[]),(1,[],[])]
def q204_x1_0 (a4:Int) (h:AHeap):St:=⟨tops 4 (.v (.c (.int .i64 a4)) :: tops 20 []),[none],h⟩
def q204_x1_1 (h:AHeap):St:=⟨tops 25 [],[none],h⟩
theorem q204_r1 (a1 a7 a8:Int) (s0:List Cell) (h:AHeap):q204_F1 C L G (q204_s1 a1 a7 a8 s0 h)=if (decide (a8<a7))=true then atK s0 0 fun q_3=>asI .i64 (.c q_3) fun n_4=>scK (n_4==2) false (if 0≤a8∧a8<((24:Nat):Int) then atK s0 ((2+((Int.toNat a8)*3))+0) fun q_5=>asI .i64 (.c q_5) fun n_6=>some ((n_6==a1),h) else none) true h fun b_7 h_8=>if b_7=true then some (.ret,(q204_x1_0 a8 h_8)) else some (.normal,(q204_s1 a1 a7 (G.wrap .i64 (a8+1)) s0 h_8)) else some ((.exit 0),(q204_x1_1 h)):=by kernel_rfl
theorem q204_e1_0 (h0:AHeap) (a4:Int) (h:AHeap):(q204_k3 C L G h0) .ret (q204_x1_0 a4 h)=some ([(.c (.int .i64 a4))],h):=by kernel_rfl
theorem q204_e1_1 (h0:AHeap) (h:AHeap):(q204_k3 C L G h0) (.exit 0) (q204_x1_1 h)=some ([(.c (.int .i64 (-1)))],h):=by kernel_rfl
set_option maxRecDepth 100000 in
theorem q204_eq (l0:List Cell) (a1:Int) (h0:AHeap):q204.body C L G [(.agg l0),(.c (.int .i64 a1))] h0=atK l0 1 fun q_1=>asI .i64 (.c q_1) fun n_2=>(L (q204_F1 C L G) (q204_s1 a1 n_2 0 l0 h0)).bind fun p_9=>(q204_k3 C L G h0) p_9.1 p_9.2:=by kernel_rfl
def q205_k2 (C:CallF) (L:LoopF) (G:Glo) (h0:AHeap):Ex→St→Option (List AV × AHeap):=kSeq (fun st=>q205_p1.exec C L G st (q205.fin G h0)) (q205.fin G h0)
def q205_k3 (C:CallF) (L:LoopF) (G:Glo) (h0:AHeap):Ex→St→Option (List AV × AHeap):=kBlk 0 (q205_k2 C L G h0)
def q205_s1 (a1 a7:Int) (s0:List Cell) (h:AHeap):St:=⟨tops 1 (.v (.c (.int .i64 a1)) :: .loc 0 0 :: tops 4 (.v (.c (.int .i64 a7)) :: tops 24 [])),[some s0],h⟩
def q205_F1 (C:CallF) (L:LoopF) (G:Glo):St→Option (Ex × St):=roundF (fun st f=>q205_b1.exec C L G st f) [1,2,7] [0] [(0,[4,5,6],[]),(1,[],[])]
def q205_x1_0 (a4 a5:Int) (b6:Bool) (h:AHeap):St:=⟨tops 4 (.v (.c (.int .i64 a4)) :: .v (.c (.int .i64 a5)) :: .v (.c (.bool b6)) :: tops 25 []),[none],h⟩
def q205_x1_1 (h:AHeap):St:=⟨tops 32 [],[none],h⟩
theorem q205_r1 (a1 a7:Int) (s0:List Cell) (h:AHeap):q205_F1 C L G (q205_s1 a1 a7 s0 h)=if (decide (a7≥0))=true then if 0≤a7∧a7<((24:Nat):Int) then atK s0 ((2+((Int.toNat a7)*3))+0) fun q_3=>asI .i64 (.c q_3) fun n_4=>if (n_4==a1)=true then if 0≤a7∧a7<((24:Nat):Int) then atK s0 ((2+((Int.toNat a7)*3))+1) fun q_5=>asI .i64 (.c q_5) fun n_6=>if 0≤a7∧a7<((24:Nat):Int) then atK s0 ((2+((Int.toNat a7)*3))+2) fun q_7=>asI .i64 (.c q_7) fun n_8=>some (.ret,(q205_x1_0 n_6 n_8 true h)) else none else none else some (.normal,(q205_s1 a1 (G.wrap .i64 (a7 - 1)) s0 h)) else none else some ((.exit 0),(q205_x1_1 h)):=by kernel_rfl
theorem q205_e1_0 (h0:AHeap) (a4 a5:Int) (b6:Bool) (h:AHeap):(q205_k3 C L G h0) .ret (q205_x1_0 a4 a5 b6 h)=some ([(.c (.int .i64 a4)),(.c (.int .i64 a5)),(.c (.bool b6))],h):=by kernel_rfl
theorem q205_e1_1 (h0:AHeap) (h:AHeap):(q205_k3 C L G h0) (.exit 0) (q205_x1_1 h)=some ([(.c (.int .i64 0)),(.c (.int .i64 0)),(.c (.bool false))],h):=by kernel_rfl
set_option maxRecDepth 100000 in
theorem q205_eq (l0:List Cell) (a1:Int) (h0:AHeap):q205.body C L G [(.agg l0),(.c (.int .i64 a1))] h0=atK l0 1 fun q_1=>asI .i64 (.c q_1) fun n_2=>(L (q205_F1 C L G) (q205_s1 a1 (G.wrap .i64 (n_2 - 1)) l0 h0)).bind fun p_9=>(q205_k3 C L G h0) p_9.1 p_9.2:=by kernel_rfl
set_option maxRecDepth 100000 in
theorem q206_eq (l0:List Cell) (a1 a2 a3:Int) (h0:AHeap):q206.body C L G [(.agg l0),(.c (.int .i64 a1)),(.c (.int .i64 a2)),(.c (.int .i64 a3))] h0=atK l0 0 fun q_1=>asI .i64 (.c q_1) fun n_2=>scK (n_2==0) false (some ((decide (a1<0)),h0)) true h0 fun b_3 h_4=>scK b_3 false (some ((decide (a1≥4)),h_4)) true h_4 fun b_5 h_6=>scK b_5 false (atK l0 1 fun q_7=>asI .i64 (.c q_7) fun n_8=>some ((decide (n_8≥24)),h_6)) true h_6 fun b_9 h_10=>if b_9=true then if 0=0∧l0.length=74 then if 0=0∧(List.replicate 74 ci0).length=74∧l0.length=74 then if 0=0∧l0.length=74 then some ([(.agg l0)],h_10) else none else none else none else atK l0 1 fun q_11=>asI .i64 (.c q_11) fun n_12=>if 0≤n_12∧n_12<((24:Nat):Int) then if (2+((Int.toNat n_12)*3))+3≤l0.length∧(splice (splice (splice [ci0,ci0,ci0] 0 [(.int .i64 a1)]) 1 [(.int .i64 a2)]) 2 [(.int .i64 a3)]).length=3 then atK (splice l0 (2+((Int.toNat n_12)*3)) (splice (splice (splice [ci0,ci0,ci0] 0 [(.int .i64 a1)]) 1 [(.int .i64 a2)]) 2 [(.int .i64 a3)])) 1 fun q_13=>asI .i64 (.c q_13) fun n_14=>if 1<(splice l0 (2+((Int.toNat n_12)*3)) (splice (splice (splice [ci0,ci0,ci0] 0 [(.int .i64 a1)]) 1 [(.int .i64 a2)]) 2 [(.int .i64 a3)])).length then if 0=0∧((splice l0 (2+((Int.toNat n_12)*3)) (splice (splice (splice [ci0,ci0,ci0] 0 [(.int .i64 a1)]) 1 [(.int .i64 a2)]) 2 [(.int .i64 a3)])).set 1 (.int .i64 (G.wrap .i64 (n_14+1)))).length=74 then if 0=0∧(List.replicate 74 ci0).length=74∧((splice l0 (2+((Int.toNat n_12)*3)) (splice (splice (splice [ci0,ci0,ci0] 0 [(.int .i64 a1)]) 1 [(.int .i64 a2)]) 2 [(.int .i64 a3)])).set 1 (.int .i64 (G.wrap .i64 (n_14+1)))).length=74 then if 0=0∧((splice l0 (2+((Int.toNat n_12)*3)) (splice (splice (splice [ci0,ci0,ci0] 0 [(.int .i64 a1)]) 1 [(.int .i64 a2)]) 2 [(.int .i64 a3)])).set 1 (.int .i64 (G.wrap .i64 (n_14+1)))).length=74 then some ([(.agg ((splice l0 (2+((Int.toNat n_12)*3)) (splice (splice (splice [ci0,ci0,ci0] 0 [(.int .i64 a1)]) 1 [(.int .i64 a2)]) 2 [(.int .i64 a3)])).set 1 (.int .i64 (G.wrap .i64 (n_14+1)))))],h_10) else none else none else none else none else none else none:=by kernel_rfl
set_option maxRecDepth 100000 in
theorem q207_eq (l0:List Cell) (a1:Int) (h0:AHeap):q207.body C L G [(.agg l0),(.c (.int .i64 a1))] h0=rdH (h0++[some (Blk.mk true 0 (AV.cells (.agg l0)))]) h0.length ((AV.cells (.agg l0)).length) fun l_1=>if 0=0∧l_1.length=74 then c1 (C 204 [(.agg l_1),(.c (.int .i64 a1))] (h0++[some (Blk.mk true 0 (AV.cells (.agg l0)))])) fun y_3 h_2=>asI .i64 y_3 fun n_4=>if (decide (n_4<0))=true then rdH h_2 h0.length ((AV.cells (.agg l0)).length) fun l_5=>if 0=0∧l_5.length=74 then if 0=0∧(List.replicate 74 ci0).length=74∧l_5.length=74 then if 0=0∧l_5.length=74 then finish true h0 [(.agg l_5)] h_2 else none else none else none else sliceAK h_2 24 3 true false (.ptr h0.length ((AV.cells (.agg l0)).length) 2) [.v (.c (.int .i64 n_4))] fun x_6=>sliceAK h_2 24 3 true false (.ptr h0.length ((AV.cells (.agg l0)).length) 2) [.v (.c (.int .i64 (G.wrap .i64 (n_4+1))))] fun x_7=>copyK 3 x_6 x_7 h_2 fun n_8 h_9=>rdH h_9 h0.length ((AV.cells (.agg l0)).length) fun l_10=>atK l_10 1 fun q_11=>asI .i64 (.c q_11) fun n_12=>rdH h_9 h0.length ((AV.cells (.agg l0)).length) fun l_13=>if 1<l_13.length then putH h_9 h0.length (l_13.set 1 (.int .i64 (G.wrap .i64 (n_12 - 1)))) fun h_14=>rdH h_14 h0.length ((AV.cells (.agg l0)).length) fun l_15=>atK l_15 1 fun q_16=>asI .i64 (.c q_16) fun n_17=>if 0≤n_17∧n_17<((24:Nat):Int) then rdH h_14 h0.length ((AV.cells (.agg l0)).length) fun l_18=>if (2+((Int.toNat n_17)*3))+3≤l_18.length∧[ci0,ci0,ci0].length=3 then putH h_14 h0.length (splice l_18 (2+((Int.toNat n_17)*3)) [ci0,ci0,ci0]) fun h_19=>rdH h_19 h0.length ((AV.cells (.agg l0)).length) fun l_20=>if 0=0∧l_20.length=74 then if 0=0∧(List.replicate 74 ci0).length=74∧l_20.length=74 then if 0=0∧l_20.length=74 then finish true h0 [(.agg l_20)] h_19 else none else none else none else none else none else none else none:=by kernel_rfl
end Jq

namespace Jq
open Go
structure Ent where
 loc:Int
 val:Int
 id:Int
 deriving DecidableEq
def Ent.cs (e:Ent):List Cell:=[.int .i64 e.loc,.int .i64 e.val,.int .i64 e.id]
def entsC (l:List Ent):List Cell:=l.flatMap Ent.cs
theorem entsC_len:∀l:List Ent,(entsC l).length=l.length*3
 | []=>rfl
 | s :: l=>by simp only [entsC,List.flatMap_cons,List.length_append];rw [show (l.flatMap _).length=_ from entsC_len l];simp [Ent.cs];omega
theorem entsC_get:∀(l:List Ent) (i:Nat) (s:Ent),l[i]? = some s→∀j,j<3→(entsC l)[i*3+j]? = s.cs[j]?
 | [],_,_,h,_,_=>by simp at h
 | q :: l,0,s,h,j,hj=>by
  simp at h;subst h
  rw [show entsC (q :: l)=q.cs++entsC l from rfl,List.getElem?_append_left (by simp [Ent.cs];omega)];congr 1;omega
 | q :: l,i+1,s,h,j,hj=>by
  have:=entsC_get l i s (by simpa using h) j hj
  rw [show entsC (q :: l)=q.cs++entsC l from rfl,List.getElem?_append_right (by simp [Ent.cs];omega),←this]
  congr 1;simp [Ent.cs];omega
def bufC (m:Int) (l:List Ent):List Cell:=[.int .i64 m,.int .i64 (l.length:Int)]++(entsC l++List.replicate (72 - l.length*3) (.int .i64 0))
theorem bufC_len (m:Int) {l:List Ent} (h:l.length≤24):(bufC m l).length=74:=by
 unfold bufC;rw [List.length_append,List.length_append,entsC_len,List.length_replicate];simp;omega
theorem bufC_at {α:Type} {m:Int} {l:List Ent} {i j:Nat} {s:Ent} {c:Cell} (h:l[i]? = some s) (hj:j<3) (hc:s.cs[j]? = some c) {f:Cell→Option α}:atK (bufC m l) ((2+i*3)+j) f=f c:=by
 refine atK_ok ?_
 have hi:=getI_lt h
 have hl:=entsC_len l
 unfold bufC
 rw [List.getElem?_append_right (by simp;omega),List.getElem?_append_left (by simp;omega)]
 rw [show 2+i*3+j - [Cell.int .i64 m,Cell.int .i64 (l.length:Int)].length=i*3+j by simp;omega,entsC_get l i s h j hj,hc]
def oldP (m loc:Int) (e:Ent):Bool:=m==2||e.loc==loc
def oldI (m loc:Int) (l:List Ent):Int:=match l.findIdx? (oldP m loc) with | some i=>i | none=>-1
def newE (loc:Int) (l:List Ent):Option Ent:=l.reverse.find? fun e=>e.loc==loc
theorem Lim_find {α:Type} {F:St→Option (Ex × St)} (S r:Nat→St) (x:St) (e:Nat) (l:List α) (p:α→Bool) (hs:∀(i:Nat) (q:α),l[i]? = some q→F (S i)=if p q=true then some (.ret,r i) else some (.normal,S (i+1))) (he:F (S l.length)=some (.exit e,x)) :
  Lim F (S 0)=some (match l.findIdx? p with | some i=>(.ret,r i) | none=>(.exit e,x)):=by
 have key:∀(t:List α) (i:Nat),l.drop i=t→i≤l.length→Lim F (S i)=some (match t.findIdx? p with | some k=>(.ret,r (i+k)) | none=>(.exit e,x)):=by
  intro t
  induction t with
  | nil =>
   intro i hd hi
   have:l.length≤i:=by
    have:=congrArg List.length hd
    rw [List.length_drop,List.length_nil] at this;omega
   obtain rfl:i=l.length:=by omega
   rw [Lim_exit he];rfl
  | cons q t ih =>
   intro i hd hi
   have hlt:i<l.length:=by
    have:=congrArg List.length hd
    rw [List.length_drop,List.length_cons] at this;omega
   have hq:l[i]? = some q:=by rw [←List.head?_drop,hd];rfl
   have hd2:l.drop (i+1)=t:=by rw [←List.drop_drop,hd];rfl
   have h1:=hs i q hq
   rw [List.findIdx?_cons]
   cases hp:p q with
   | true =>
    rw [hp,if_pos rfl] at h1
    rw [Lim_ret h1,if_pos rfl];rfl
   | false =>
    rw [hp,if_neg (by simp)] at h1
    rw [Lim_next h1 (ih (i+1) hd2 (by omega)),if_neg (by simp)]
    cases t.findIdx? p with
    | none=>rfl
    | some k=>show some (Ex.ret,r (i+1+k))=some (Ex.ret,r (i+(k+1)));rw [show i+1+k=i+(k+1) by omega]
 have:=key l 0 rfl (Nat.zero_le _)
 rw [this]
 cases l.findIdx? p with
 | none=>rfl
 | some k=>simp
section
variable {E:Env}
theorem bufNew_R (hE:q190_In E) (m:Int) (h:AHeap):R E 190 [.c (.int .i64 m)] h=some ([.agg (bufC (if m=2∨m=3 then m else 0) [])],h):=by
 refine R_intro hE.fn ?_
 rw [q190_eq,scK_and]
 by_cases hm:m=2∨m=3
 ·rw [if_neg (by simp;omega),if_pos hm,if_pos (by exact ⟨rfl,rfl,rfl⟩),if_pos (by exact ⟨rfl,rfl⟩)]
  rfl
 ·rw [if_pos (by simp;omega),if_neg hm,if_pos (by exact ⟨rfl,rfl,rfl⟩),if_pos (by exact ⟨rfl,rfl⟩)]
  rfl
theorem bufEmpty_R (hE:q191_In E) {m:Int} {l:List Ent} (h:AHeap):R E 191 [.agg (bufC m l)] h=some ([.c (.bool (l.length==0))],h):=by
 refine R_intro hE.fn ?_
 have a1:∀{α:Type} (f:Cell→Option α),atK (bufC m l) 1 f=f (.int .i64 (l.length:Int)):=fun _=>rfl
 have hz:((l.length:Int)==0)=(l.length==0):=by cases l<;>rfl
 rw [q191_eq,a1,asI_ok,hz]
theorem buf_a0 {α:Type} {m:Int} {l:List Ent} {f:Cell→Option α}:atK (bufC m l) 0 f=f (.int .i64 m):=rfl
theorem buf_a1 {α:Type} {m:Int} {l:List Ent} {f:Cell→Option α}:atK (bufC m l) 1 f=f (.int .i64 (l.length:Int)):=rfl
theorem bufoldest_R (hE:q204_In E) {m:Int} {l:List Ent} (hl:l.length≤24) (loc:Int) (h:AHeap):R E 204 [.agg (bufC m l),.c (.int .i64 loc)] h=some ([.c (.int .i64 (oldI m loc l))],h):=by
 refine R_intro hE.fn ?_
 have hL:=Lim_find (F:=q204_F1 (R E) Lim E.glob) (fun i=>q204_s1 loc l.length (i:Int) (bufC m l) h) (fun i=>q204_x1_0 (i:Int) h) (q204_x1_1 h) 0 l (oldP m loc) (fun i q hq=>by
  have hi:=getI_lt hq
  rw [q204_r1,if_pos (by simp;omega),buf_a0,asI_ok,if_pos ⟨by omega,by omega⟩,Int.toNat_natCast,bufC_at hq (by omega) (c:=.int .i64 q.loc) rfl,asI_ok,scK_or,g_succ (by omega)]
  rfl) (by rw [q204_r1,if_neg (by simp)])
 have hL':Lim (q204_F1 (R E) Lim E.glob) (q204_s1 loc l.length 0 (bufC m l) h)=_:=hL
 rw [q204_eq,buf_a1,asI_ok,hL',bind_ok]
 unfold oldI
 cases l.findIdx? (oldP m loc) with
 | none=>dsimp only;rw [q204_e1_1]
 | some i=>dsimp only;rw [q204_e1_0]
theorem bufOldest_R (hE:q192_In E) {m:Int} {l:List Ent} (hl:l.length≤24) (loc:Int) (h:AHeap) :
  R E 192 [.agg (bufC m l),.c (.int .i64 loc)] h=some (match l.find? (oldP m loc) with | some e=>([.c (.int .i64 e.loc),.c (.int .i64 e.val),.c (.int .i64 e.id),.c (.bool true)],h) | none=>([.c (.int .i64 0),.c (.int .i64 0),.c (.int .i64 0),.c (.bool false)],h)):=by
 refine R_intro hE.fn ?_
 rw [q192_eq,if_pos ⟨rfl,bufC_len m hl⟩,bufoldest_R hE.c204 hl,c1_ok,asI_ok]
 unfold oldI
 cases hf:l.findIdx? (oldP m loc) with
 | none =>
  have:l.find? (oldP m loc)=none:=by
   rw [List.find?_eq_none]
   intro e he
   rw [List.findIdx?_eq_none_iff] at hf
   rw [hf e he];simp
  rw [this]
  dsimp only
  rw [if_pos (by decide)]
 | some i =>
  obtain ⟨hi,hp,hlt⟩:=List.findIdx?_eq_some_iff_getElem.1 hf
  have hq:l[i]? = some l[i]:=List.getElem?_eq_getElem hi
  have hfi:l.find? (oldP m loc)=some l[i]:=by
   rw [List.find?_eq_some_iff_getElem]
   exact ⟨hp,i,hi,rfl,fun j hj=>by have:=hlt j hj;simpa using this⟩
  rw [hfi]
  generalize l[i]=e at hq
  dsimp only
  rw [if_neg (by rw [decide_eq_true_eq];omega),if_pos ⟨by omega,by omega⟩,Int.toNat_natCast,bufC_at hq (by omega) (c:=.int .i64 e.loc) rfl,asI_ok,if_pos ⟨by omega,by omega⟩,bufC_at hq (by omega) (c:=.int .i64 e.val) rfl,asI_ok,if_pos ⟨by omega,by omega⟩,bufC_at hq (by omega) (c:=.int .i64 e.id) rfl,asI_ok]
theorem bufNewest_R (hE:q205_In E) {m:Int} {l:List Ent} (hl:l.length≤24) (loc:Int) (h:AHeap) :
  R E 205 [.agg (bufC m l),.c (.int .i64 loc)] h=some (match newE loc l with | some e=>([.c (.int .i64 e.val),.c (.int .i64 e.id),.c (.bool true)],h) | none=>([.c (.int .i64 0),.c (.int .i64 0),.c (.bool false)],h)):=by
 refine R_intro hE.fn ?_
 have key:∀i:Nat,i≤l.length→(Lim (q205_F1 (R E) Lim E.glob) (q205_s1 loc ((i:Int) - 1) (bufC m l) h)).bind (fun p=>q205_k3 (R E) Lim E.glob h p.1 p.2) =
   some (match (l.take i).reverse.find? (fun e=>e.loc==loc) with | some e=>([.c (.int .i64 e.val),.c (.int .i64 e.id),.c (.bool true)],h) | none=>([.c (.int .i64 0),.c (.int .i64 0),.c (.bool false)],h)):=by
  intro i
  induction i with
  | zero =>
   intro _
   have hr:q205_F1 (R E) Lim E.glob (q205_s1 loc (((0:Nat):Int) - 1) (bufC m l) h)=some (.exit 0,q205_x1_1 h):=by
    rw [q205_r1,if_neg (by rw [decide_eq_true_eq];omega)]
   rw [Lim_exit hr,bind_ok,q205_e1_1];rfl
  | succ i ih =>
   intro hi
   have hq:l[i]? = some l[i]:=List.getElem?_eq_getElem (by omega)
   generalize l[i]=e at hq
   have he:(((i+1:Nat):Int) - 1)=(i:Int):=by omega
   rw [he,takeI_succ hq,List.reverse_append,List.reverse_singleton,List.singleton_append,List.find?_cons]
   have hg:∀(b:Bool),(e.loc==loc)=b→q205_F1 (R E) Lim E.glob (q205_s1 loc (i:Int) (bufC m l) h)=if b=true then some (.ret,q205_x1_0 e.val e.id true h) else some (.normal,q205_s1 loc ((i:Int) - 1) (bufC m l) h):=by
    intro b hb
    rw [q205_r1,if_pos (by rw [decide_eq_true_eq];omega),if_pos ⟨by omega,by omega⟩,Int.toNat_natCast,bufC_at hq (by omega) (c:=.int .i64 e.loc) rfl,asI_ok,hb]
    cases b with
    | true=>rw [if_pos rfl,if_pos rfl,if_pos ⟨by omega,by omega⟩,bufC_at hq (by omega) (c:=.int .i64 e.val) rfl,asI_ok,if_pos ⟨by omega,by omega⟩,bufC_at hq (by omega) (c:=.int .i64 e.id) rfl,asI_ok]
    | false=>rw [if_neg (by simp),if_neg (by simp),g_wrap_i64 (by omega) (by omega)]
   cases hb:(e.loc==loc) with
   | true =>
    have h1:=hg true hb
    rw [if_pos rfl] at h1
    rw [Lim_ret h1,bind_ok,q205_e1_0]
   | false =>
    have h1:=hg false hb
    rw [if_neg (by simp)] at h1
    have h2:=ih (by omega)
    dsimp only
    rw [←h2]
    cases hL:Lim (q205_F1 (R E) Lim E.glob) (q205_s1 loc ((i:Int) - 1) (bufC m l) h) with
    | none=>rw [hL] at h2;cases h2
    | some w=>rw [Lim_next h1 hL]
 have:=key l.length (Nat.le_refl _)
 rw [List.take_of_length_le (Nat.le_refl _)] at this
 rw [q205_eq,buf_a1,asI_ok,g_wrap_i64 (by omega) (by omega)]
 exact this
theorem bufC_put {m:Int} {l:List Ent} (hl:l.length<24) (e:Ent):(splice (bufC m l) (2+l.length*3) e.cs).set 1 (.int .i64 ((l.length:Int)+1))=bufC m (l++[e]):=by
 have h1:bufC m l=([Cell.int .i64 m,Cell.int .i64 (l.length:Int)]++entsC l)++List.replicate (72 - l.length*3) (.int .i64 0):=by unfold bufC;rw [List.append_assoc]
 have h2:2+l.length*3=([Cell.int .i64 m,Cell.int .i64 (l.length:Int)]++entsC l).length+0:=by rw [List.length_append,entsC_len];simp
 have h3:splice (List.replicate (72 - l.length*3) ci0) 0 e.cs=e.cs++List.replicate (72 - (l++[e]).length*3) ci0:=by
  unfold splice
  rw [List.take_zero,List.nil_append,List.drop_replicate]
  congr 2
  simp [Ent.cs];omega
 have h4:entsC (l++[e])=entsC l++e.cs:=by simp [entsC]
 rw [h1,h2,splice_app,h3]
 unfold bufC
 rw [h4,List.length_append,List.length_singleton]
 simp [List.append_assoc]
theorem bufPut_R (hE:q206_In E) {m:Int} {l:List Ent} (hl:l.length<24) (hm:m≠0) {loc:Int} (hloc:0≤loc∧loc<4) (v id:Int) (h:AHeap) :
  R E 206 [.agg (bufC m l),.c (.int .i64 loc),.c (.int .i64 v),.c (.int .i64 id)] h=some ([.agg (bufC m (l++[⟨loc,v,id⟩]))],h):=by
 refine R_intro hE.fn ?_
 have hz:(m==0)=false:=by rw [beq_eq_false_iff_ne];exact hm
 have e3:splice (splice (splice [ci0,ci0,ci0] 0 [(.int .i64 loc)]) 1 [(.int .i64 v)]) 2 [(.int .i64 id)]=(Ent.mk loc v id).cs:=rfl
 have hlen:=bufC_len m (Nat.le_of_lt hl)
 have hsl:(splice (bufC m l) (2+l.length*3) (Ent.mk loc v id).cs).length=74:=by
  unfold splice
  rw [List.length_append,List.length_append,List.length_take,List.length_drop,hlen];simp [Ent.cs];omega
 have ha1:∀{α:Type} (f:Cell→Option α),atK (splice (bufC m l) (2+l.length*3) (Ent.mk loc v id).cs) 1 f=f (.int .i64 (l.length:Int)):=fun f=>by
  refine atK_ok ?_
  unfold splice
  rw [List.append_assoc,List.getElem?_append_left (by rw [List.length_take,hlen];omega),List.getElem?_take,if_pos (by omega)];rfl
 have hw:E.glob.wrap .i64 ((l.length:Int)+1)=(l.length:Int)+1:=g_wrap_i64 (by omega) (by omega)
 have hput:=bufC_put (m:=m) hl ⟨loc,v,id⟩
 rw [q206_eq,buf_a0,asI_ok,hz,scK_or,show decide (loc<0)=false from decide_eq_false (by omega),scK_or,show decide (loc≥4)=false from decide_eq_false (by omega),buf_a1,asI_ok,scK_or,show decide ((l.length:Int)≥24)=false from decide_eq_false (by omega),if_neg (by simp),buf_a1,asI_ok,if_pos ⟨by omega,by omega⟩,Int.toNat_natCast,e3,if_pos ⟨by rw [hlen];omega,rfl⟩,ha1,asI_ok,if_pos (by rw [hsl];omega),hw,hput]
 have hl2:=bufC_len m (l:=l++[⟨loc,v,id⟩]) (by rw [List.length_append,List.length_singleton];omega)
 rw [if_pos ⟨rfl,hl2⟩,if_pos ⟨rfl,rfl,hl2⟩,if_pos ⟨rfl,hl2⟩]
theorem entsC_append (a b:List Ent):entsC (a++b)=entsC a++entsC b:=by simp [entsC]
theorem drop_len_app {α:Type} {a b:List α} {n:Nat} (h:a.length=n):(a++b).drop n=b:=by subst h;simp
theorem bufC_drop {m:Int} {l:List Ent} (hl:l.length≤24) {i:Nat} (hi:i<l.length) :
  splice ((splice (bufC m l) (2+i*3) (((bufC m l).drop (2+(i+1)*3)).take ((23 - i)*3))).set 1 (Cell.int .i64 ((l.length:Int) - 1))) (2+(l.length - 1)*3) [ci0,ci0,ci0]=bufC m (l.eraseIdx i):=by
 have hq:l[i]? = some l[i]:=List.getElem?_eq_getElem hi
 generalize l[i]=e at hq
 have hsp:l=l.take i++e :: l.drop (i+1):=by
  have:l.drop i=e :: l.drop (i+1):=by
   rw [List.drop_eq_getElem_cons hi]
   have:=List.getElem?_eq_getElem hi
   rw [hq] at this
   rw [←Option.some.inj this]
  rw [←this,List.take_append_drop]
 have her:l.eraseIdx i=l.take i++l.drop (i+1):=List.eraseIdx_eq_take_drop_succ _ _
 have hn:l.length=i+1+(l.drop (i+1)).length:=by rw [List.length_drop];omega
 have hti:(l.take i).length=i:=by rw [List.length_take];omega
 rw [her]
 generalize hA:l.take i=A at *
 generalize hB:l.drop (i+1)=B at *
 have hlA:=entsC_len A
 have hlB:=entsC_len B
 have hcs:bufC m l=([Cell.int .i64 m,Cell.int .i64 (l.length:Int)]++entsC A)++(e.cs++(entsC B++List.replicate (72 - l.length*3) ci0)):=by
  have:entsC l=entsC A++(e.cs++entsC B):=by
   have h2:entsC l=entsC (A++e :: B):=by rw [←hsp]
   rw [h2,entsC_append];rfl
  unfold bufC
  rw [this];simp [List.append_assoc]
 have hhd:([Cell.int .i64 m,Cell.int .i64 (l.length:Int)]++entsC A).length=2+i*3:=by rw [List.length_append,hlA,hti];simp
 have hR:((bufC m l).drop (2+(i+1)*3)).take ((23 - i)*3)=entsC B++List.replicate (72 - l.length*3) ci0:=by
  rw [hcs,←List.append_assoc,drop_len_app (by rw [List.length_append,hhd];simp [Ent.cs];omega)]
  exact List.take_of_length_le (by rw [List.length_append,List.length_replicate,hlB];omega)
 rw [hR]
 have hs1:splice (bufC m l) (2+i*3) (entsC B++List.replicate (72 - l.length*3) ci0)=([Cell.int .i64 m,Cell.int .i64 (l.length:Int)]++entsC A)++((entsC B++List.replicate (72 - l.length*3) ci0)++(e.cs++(entsC B++List.replicate (72 - l.length*3) ci0)).drop (entsC B++List.replicate (72 - l.length*3) ci0:List Cell).length):=by
  rw [hcs]
  have:=splice_app ([Cell.int .i64 m,Cell.int .i64 (l.length:Int)]++entsC A) (e.cs++(entsC B++List.replicate (72 - l.length*3) ci0)) (entsC B++List.replicate (72 - l.length*3) ci0) 0
  rw [Nat.add_zero,hhd] at this
  rw [this]
  unfold splice
  rw [List.take_zero,List.nil_append,Nat.zero_add]
 rw [hs1]
 generalize hL3:(e.cs++(entsC B++List.replicate (72 - l.length*3) ci0)).drop (entsC B++List.replicate (72 - l.length*3) ci0:List Cell).length=L3
 have hL3l:L3.length=3:=by
  rw [←hL3,List.length_drop,List.length_append];simp [Ent.cs]
 have hset:(([Cell.int .i64 m,Cell.int .i64 (l.length:Int)]++entsC A)++((entsC B++List.replicate (72 - l.length*3) ci0)++L3)).set 1 (Cell.int .i64 ((l.length:Int) - 1))=([Cell.int .i64 m,Cell.int .i64 ((l.length:Int) - 1)]++(entsC A++entsC B))++(List.replicate (72 - l.length*3) ci0++L3):=by
  simp [List.append_assoc]
 rw [hset]
 have hoff:2+(l.length - 1)*3=([Cell.int .i64 m,Cell.int .i64 ((l.length:Int) - 1)]++(entsC A++entsC B)).length+0:=by
  rw [List.length_append,List.length_append,hlA,hlB,hti];simp;omega
 rw [hoff,splice_app]
 have hz:splice (List.replicate (72 - l.length*3) ci0++L3) 0 [ci0,ci0,ci0]=List.replicate (72 - (A++B).length*3) ci0:=by
  have hlen:(A++B).length=l.length - 1:=by rw [List.length_append,hti];omega
  rw [hlen]
  unfold splice
  rw [List.take_zero,List.nil_append]
  by_cases h24:l.length=24
  ·rw [show 72 - l.length*3=0 by omega,List.replicate_zero,List.nil_append,List.drop_of_length_le (by rw [hL3l];simp),h24];rfl
  ·have hL3z:L3=List.replicate 3 ci0:=by
    rw [←hL3]
    refine List.ext_getElem? fun j=>?_
    rw [List.getElem?_drop,List.getElem?_append_right (by simp [Ent.cs,hlB];omega),List.getElem?_append_right (by simp [Ent.cs,hlB];omega),List.getElem?_replicate,List.getElem?_replicate]
    simp [Ent.cs,hlB]
    by_cases hj:j<3
    ·rw [if_pos (by omega),if_pos hj]
    ·rw [if_neg (by omega),if_neg hj]
   rw [hL3z,List.replicate_append_replicate,List.drop_replicate,show [ci0,ci0,ci0]=List.replicate 3 ci0 from rfl,List.replicate_append_replicate]
   congr 1
   simp;omega
 rw [hz]
 unfold bufC
 rw [entsC_append,List.length_append,hti]
 have:(l.length:Int) - 1=((i+B.length:Nat):Int):=by omega
 rw [this]
 simp [List.append_assoc]
theorem bufC_ok {m:Int} {l:List Ent} {n:Nat} {c:Cell} (h:c∈bufC m l):idOk n c=true:=by
 unfold bufC at h
 rcases List.mem_append.1 h with h | h
 ·simp at h;rcases h with rfl | rfl<;>rfl
 ·rcases List.mem_append.1 h with h | h
  ·unfold entsC at h
   obtain ⟨e,_,he⟩:=List.mem_flatMap.1 h
   simp [Ent.cs] at he
   rcases he with rfl | rfl | rfl<;>rfl
  ·rw [List.eq_of_mem_replicate h];rfl
theorem bufDrop_R (hE:q207_In E) {m:Int} {l:List Ent} (hl:l.length≤24) {loc:Int} {i:Nat} (hf:l.findIdx? (oldP m loc)=some i) (h:AHeap) :
  R E 207 [.agg (bufC m l),.c (.int .i64 loc)] h=some ([.agg (bufC m (l.eraseIdx i))],h):=by
 refine R_intro hE.fn ?_
 obtain ⟨hi,_,_⟩:=List.findIdx?_eq_some_iff_getElem.1 hf
 have hold:oldI m loc l=(i:Int):=by unfold oldI;rw [hf]
 have hlen:=bufC_len m hl
 have hd:=bufC_drop (m:=m) hl hi
 have hlen2:=bufC_len m (l:=l.eraseIdx i) (by rw [List.length_eraseIdx];split<;>omega)
 have hcell:∀cs:List Cell,AV.cells (.agg cs)=cs:=fun _=>rfl
 have b0:blk? (h++[some ⟨true,0,bufC m l⟩]) h.length=some ⟨true,0,bufC m l⟩:=blk_new _ _
 have hxl:(((bufC m l).drop (2+(i+1)*3)).take ((23 - i)*3)).length=(23 - i)*3:=by rw [List.length_take,List.length_drop,hlen];omega
 have hsl1:∀{α:Type} (f:Cell→Option α),sliceAK (h++[some ⟨true,0,bufC m l⟩]) 24 3 true false (.ptr h.length 74 2) [.v (.c (.int .i64 (i:Int)))] f=f (.sl h.length 74 (2+i*3) (24 - i)):=fun f=>by
  unfold sliceAK okSl boundsK
  simp only
  rw [b0]
  simp only
  rw [if_pos (by simp),if_pos ⟨by omega,by omega⟩,Int.toNat_natCast]
 have hsl2:∀{α:Type} (f:Cell→Option α),sliceAK (h++[some ⟨true,0,bufC m l⟩]) 24 3 true false (.ptr h.length 74 2) [.v (.c (.int .i64 ((i+1:Nat):Int)))] f=f (.sl h.length 74 (2+(i+1)*3) (24 - (i+1))):=fun f=>by
  unfold sliceAK okSl boundsK
  simp only
  rw [b0]
  simp only
  rw [if_pos (by simp),if_pos ⟨by omega,by omega⟩,Int.toNat_natCast]
 have hsc:slCells (h++[some ⟨true,0,bufC m l⟩]) 3 (.sl h.length 74 (2+(i+1)*3) (24 - (i+1)))=some (((bufC m l).drop (2+(i+1)*3)).take ((23 - i)*3)):=by
  unfold slCells
  dsimp only
  by_cases hz:24 - (i+1)=0
  ·rw [if_pos hz,show (23 - i)*3=0 by omega];simp
  ·rw [if_neg hz,b0]
   simp only
   rw [if_pos ⟨hlen,by omega⟩,show 24 - (i+1)=23 - i by omega]
 have hcp:∀{α:Type} (f:Int→AHeap→Option α),copyK 3 (.sl h.length 74 (2+i*3) (24 - i)) (.sl h.length 74 (2+(i+1)*3) (24 - (i+1))) (h++[some ⟨true,0,bufC m l⟩]) f=f ((23 - i:Nat):Int) (h++[some ⟨true,0,splice (bufC m l) (2+i*3) (((bufC m l).drop (2+(i+1)*3)).take ((23 - i)*3))⟩]):=fun f=>by
  unfold copyK
  rw [hsc,Option.bind_some]
  simp only
  rw [b0,Option.bind_some]
  dsimp only
  rw [if_pos ⟨rfl,hlen,by omega⟩,hxl,show min ((23 - i)*3 / 3) (24 - i)=23 - i by omega,List.take_of_length_le (by rw [hxl];exact Nat.le_refl _),setBlk_last]
 generalize hX:((bufC m l).drop (2+(i+1)*3)).take ((23 - i)*3)=X at *
 have hc2l:(splice (bufC m l) (2+i*3) X).length=74:=by
  unfold splice
  rw [List.length_append,List.length_append,List.length_take,List.length_drop,hlen,hxl];omega
 have hat2:(splice (bufC m l) (2+i*3) X)[1]? = some (.int .i64 (l.length:Int)):=by
  unfold splice
  rw [List.append_assoc,List.getElem?_append_left (by rw [List.length_take,hlen];omega),List.getElem?_take,if_pos (by omega)];rfl
 generalize splice (bufC m l) (2+i*3) X=Y at *
 have b2:blk? (h++[some ⟨true,0,Y⟩]) h.length=some ⟨true,0,Y⟩:=blk_new _ _
 have hw1:E.glob.wrap .i64 ((l.length:Int) - 1)=(l.length:Int) - 1:=g_wrap_i64 (by omega) (by omega)
 have hat3:(Y.set 1 (.int .i64 ((l.length:Int) - 1)))[1]? = some (.int .i64 ((l.length:Int) - 1)):=by rw [List.getElem?_set_self (by omega)]
 have hc3l:(Y.set 1 (.int .i64 ((l.length:Int) - 1))).length=74:=by rw [List.length_set];exact hc2l
 generalize hZ:Y.set 1 (.int .i64 ((l.length:Int) - 1))=Z at *
 have b3:blk? (h++[some ⟨true,0,Z⟩]) h.length=some ⟨true,0,Z⟩:=blk_new _ _
 have b4:blk? (h++[some ⟨true,0,bufC m (l.eraseIdx i)⟩]) h.length=some ⟨true,0,bufC m (l.eraseIdx i)⟩:=blk_new _ _
 have htn:Int.toNat ((l.length:Int) - 1)=l.length - 1:=by omega
 rw [q207_eq]
 simp only [hcell,hlen]
 rw [rdH_ok b0 hlen]
 dsimp only
 rw [if_pos ⟨trivial,hlen⟩,bufoldest_R hE.c204 hl,c1_ok,asI_ok,hold,if_neg (by rw [decide_eq_true_eq];omega),hsl1,g_succ (by omega),hsl2,hcp,rdH_ok b2 hc2l]
 dsimp only
 rw [atK_ok hat2,asI_ok,rdH_ok b2 hc2l]
 dsimp only
 rw [if_pos (by omega),putH_ok b2 rfl,setBlk_last,hw1]
 dsimp only
 rw [hZ,rdH_ok b3 hc3l]
 dsimp only
 rw [atK_ok hat3,asI_ok,if_pos ⟨by omega,by omega⟩,rdH_ok b3 hc3l]
 dsimp only
 rw [if_pos ⟨by rw [hc3l,htn];omega,rfl⟩,putH_ok b3 rfl,setBlk_last,htn]
 dsimp only
 rw [hd,rdH_ok b4 hlen2]
 dsimp only
 rw [if_pos ⟨trivial,hlen2⟩,if_pos ⟨trivial,rfl,hlen2⟩,if_pos ⟨trivial,hlen2⟩]
 refine finish_gc (Kp.app _ (Nat.le_refl _)) ?_
 intro x hx
 rw [List.mem_singleton] at hx
 subst hx
 unfold avOk
 rw [hcell,List.all_eq_true]
 intro c hc
 exact bufC_ok hc
end
end Jq

namespace Jq
open Go
theorem dec_iff {p:Prop} [Decidable p] {b:Bool} (h:p↔b=true):decide p=b:=by
 rw [Bool.eq_iff_iff,decide_eq_true_eq];exact h
theorem cs1 (i:Ins):decide (i.cs=(⟨i.kind,0,i.loc,i.a,0,⟨0,0⟩,0⟩:Ins).cs)=(((i.reg==0&&i.op==0)&&decide (i.b.cs=[ci0,ci0]))&&i.n==0):=by
 refine dec_iff ?_
 simp [Ins.cs,Opd.cs,and_assoc]
theorem cs2 (i:Ins):decide (i.cs=(⟨i.kind,i.reg,i.loc,⟨0,0⟩,0,⟨0,0⟩,0⟩:Ins).cs)=(((decide (i.a.cs=[ci0,ci0])&&i.op==0)&&decide (i.b.cs=[ci0,ci0]))&&i.n==0):=by
 refine dec_iff ?_
 simp [Ins.cs,Opd.cs,and_assoc]
section
variable {E:Env}
end
end Jq

namespace Jq
open Go
theorem Lim_scan {F:St→Option (Ex × St)} (S:Nat→St) (n:Nat) (bad:Nat→Bool) (r x:St) (e:Nat) (hs:∀i,i<n→F (S i)=if bad i=true then some (.ret,r) else some (.normal,S (i+1))) (he:F (S n)=some (.exit e,x)) :
  Lim F (S 0)=some (if (List.range n).any bad=true then (.ret,r) else (.exit e,x)):=by
 have key:∀(d i:Nat),i+d=n→Lim F (S i)=some (if (List.range d).any (fun k=>bad (i+k))=true then (.ret,r) else (.exit e,x)):=by
  intro d
  induction d with
  | zero =>
   intro i hi
   obtain rfl:i=n:=by omega
   rw [Lim_exit he];rfl
  | succ d ih =>
   intro i hi
   have h1:=hs i (by omega)
   rw [List.range_succ_eq_map,List.any_cons,List.any_map,Nat.add_zero]
   cases hb:bad i with
   | true =>
    rw [hb,if_pos rfl] at h1
    rw [Lim_ret h1,Bool.true_or,if_pos rfl]
   | false =>
    rw [hb,if_neg (by simp)] at h1
    have h2:=ih (i+1) (by omega)
    rw [Bool.false_or]
    have he:((List.range d).any ((fun k=>bad (i+k)) ∘ Nat.succ))=(List.range d).any fun k=>bad (i+1+k):=by
     congr 1
     funext k
     show bad (i+(k+1))=_
     rw [show i+(k+1)=i+1+k by omega]
    rw [he]
    exact Lim_next h1 h2
 have:=key n 0 (by omega)
 simpa only [Nat.zero_add] using this
def atB {α:Type} (l:List α) (f:Nat→α→Bool) (i:Nat):Bool:=match l[i]? with | some q=>f i q | none=>false
theorem atB_ok {α:Type} {l:List α} {f:Nat→α→Bool} {i:Nat} {q:α} (h:l[i]? = some q):atB l f i=f i q:=by unfold atB;rw [h]
theorem atB_any {α:Type} (l:List α) (f:α→Bool):(List.range l.length).any (atB l fun _=>f)=l.any f:=by
 induction l with
 | nil=>rfl
 | cons a l ih =>
  rw [List.length_cons,List.range_succ_eq_map,List.any_cons,List.any_map,List.any_cons,←ih]
  rfl
def memB (a:Atm):Bool:=(a.thread==-1&&a.reg==0)&&locB a.loc
def ownB (a:Atm):Bool:=((((decide (a.thread≥0)&&decide (a.thread≤9))&&decide (a.reg≥0))&&decide (a.reg≤3))&&a.loc==0)
section
variable {E:Env}
end
end Jq

namespace Jq
open Go
def hasB (P:PProg) (n:Int):Bool:=decide (n≥0)&&decide (n<(P.locs.length:Int))
def locBad (l:List Int) (i:Nat) (c:Int):Bool:=!locB c||(decide ((i:Int) > 0)&&decide (c≤l.getD (i - 1) 0))
def thrBad (P:PProg) (c:List Ins):Bool:=(decide ((c.length:Int) > 10)||!jmpB c)||c.any fun i=>!fldB (hasB P) i
def sizeBad (P:PProg):Bool:=((((P.thr.length:Int)==0||decide ((P.thr.length:Int) > 4))||decide ((P.locs.length:Int) > 4))||((P.init.length:Int) != (P.locs.length:Int)))||decide (sumL P.thr > 24)
def pokB (P:PProg):Bool:=if sizeBad P=true then false else if (List.range P.locs.length).any (atB P.locs (locBad P.locs))=true then false else !(P.thr.any (thrBad P))
section
variable {E:Env}
theorem progOk_R (hE:q188_In E) {cs:List Cell} {P:PProg} {h:AHeap} (p:ProgAt h cs P) (hsm:P.small) (hu:∀x∈P.locs,0≤x∧x<256) (hll:P.locs.length≤1000):R E 188 [.agg cs] h=some ([.c (.bool (pokB P))],h):=by
 refine R_intro hE.fn ?_
 obtain ⟨a,b,c,ts,rfl,⟨ha,hal⟩,⟨hb,hbl⟩,⟨hc,hcl⟩,hts⟩:=p
 have p:ProgAt h [a,b,c] P:=⟨a,b,c,ts,rfl,⟨ha,hal⟩,⟨hb,hbl⟩,⟨hc,hcl⟩,hts⟩
 have hcell:AV.cells (.agg [a,b,c])=[a,b,c]:=rfl
 have l3:([a,b,c]:List Cell).length=3:=rfl
 have b1:blk? (h++[some ⟨true,0,[a,b,c]⟩]) h.length=some ⟨true,0,[a,b,c]⟩:=blk_new _ _
 have k1:Kp h.length h (h++[some ⟨true,0,[a,b,c]⟩]):=Kp.app _ (Nat.le_refl _)
 have nn:(h++[some (Blk.mk true 0 [a,b,c])]).length=h.length+1:=by simp
 have fin:∀(h':AHeap) (x:Bool),Kp h.length h h'→finish true h [.c (.bool x)] h'=some ([.c (.bool x)],h):=fun h' x hk=>finish_gc hk (by simp [avOk,AV.cells,idOk])
 rw [q188_eq]
 simp only [hcell,l3]
 generalize h++[some (Blk.mk true 0 [a,b,c])]=H at *
 have p1:=p.keep k1
 have ha1:=ha.keep hal k1
 have hb1:=hb.keep hbl k1
 have hc1:=hc.keep hcl k1
 have a0:∀{α:Type} (f:Cell→Option α),atK [a,b,c] 0 f=f a:=fun _=>rfl
 have a1:∀{α:Type} (f:Cell→Option α),atK [a,b,c] 1 f=f b:=fun _=>rfl
 have a2:∀{α:Type} (f:Cell→Option α),atK [a,b,c] 2 f=f c:=fun _=>rfl
 have rb:∀{α:Type} (F:List Cell→Option α),rdH H h.length 3 F=F [a,b,c]:=fun F=>rd3 b1
 rw [rb,a2,hc1.len,rb,a2,hc1.len,scK_or,rb,a0,ha1.len,scK_or,rb,a1,hb1.len,rb,a0,ha1.len,scK_or,rb,if_pos ⟨trivial,rfl⟩,Size_R hE.c102 p1 hsm,c1_ok,asI_ok,scK_or]
 unfold pokB
 rw [show (((((P.thr.length:Int)==0||decide ((P.thr.length:Int) > 4))||decide ((P.locs.length:Int) > 4))||((P.init.length:Int) != (P.locs.length:Int)))||decide (sumL P.thr > 24))=sizeBad P from rfl]
 cases hsb:sizeBad P with
 | true=>rw [if_pos rfl,if_pos rfl,fin _ _ k1]
 | false =>
  rw [if_neg (by simp),if_neg (by simp),rb,a0,ha1.len]
  have f1:Lim (q188_F1 (R E) Lim E.glob) (q188_s1 h.length 3 0 a P.locs.length 0 H)=some (if (List.range P.locs.length).any (atB P.locs (locBad P.locs))=true then (.ret,q188_x1_0 false H) else (.exit 0,q188_x1_1 h.length 3 0 H)):=by
   exact Lim_scan (F:=q188_F1 (R E) Lim E.glob) (fun i=>q188_s1 h.length 3 0 a P.locs.length (i:Int) H) P.locs.length (atB P.locs (locBad P.locs)) _ _ 0 (fun i hi=>by
    have hq:P.locs[i]? = some P.locs[i]:=List.getElem?_eq_getElem hi
    generalize P.locs[i]=v at hq
    have hv:=hu v (List.mem_of_getElem? hq)
    rw [q188_r1,if_pos (by simp;omega),ha1.get1 hi (intC_get hq),asI_ok,g_wrap_i64 (by omega) (by omega),IsLoc_R hE.c158,c1_ok,asB_ok,atB_ok hq,g_succ (by omega)]
    unfold locBad
    by_cases h0:i=0
    ·subst h0
     rw [show decide (((0:Nat):Int) > 0)=false from rfl,scK_ft,scK_or,Bool.false_and]
    ·have hd:decide ((i:Int) > 0)=true:=decide_eq_true (by omega)
     have hq2:=getDI (show i - 1<P.locs.length by omega)
     have hw:E.glob.wrap .i64 ((i:Int) - 1)=((i - 1:Nat):Int):=by rw [g_wrap_i64 (by omega) (by omega)];omega
     rw [hd,scK_ok,rb,show 0+0=0 from rfl,a0,hw,ha1.get1 (show i - 1<P.locs.length by omega) (intC_get hq2),asI_ok,bind_ok]
     dsimp only
     rw [scK_or,Bool.true_and]) (by rw [q188_r1,if_neg (by simp)])
  rw [f1,bind_ok]
  cases hlb:(List.range P.locs.length).any (atB P.locs (locBad P.locs)) with
  | true=>rw [if_pos rfl,if_pos rfl];dsimp only;rw [q188_e1_0,fin _ _ k1]
  | false =>
   rw [if_neg (by simp),if_neg (by simp)]
   dsimp only
   rw [q188_e1_1]
   have l1:([Cell.nilf]:List Cell).length=1:=rfl
   rw [l1,rd1' (blk_new _ _),if_pos (by simp),putH_ok (blk_new _ _) rfl,setBlk_last]
   dsimp only [List.set]
   have k2:Kp H.length H (H++[some (Blk.mk true 0 [.fn 200 [(h.length,3,0)]])]):=Kp.app _ (Nat.le_refl _)
   have b2:blk? (H++[some (Blk.mk true 0 [.fn 200 [(h.length,3,0)]])]) H.length=some ⟨true,0,[.fn 200 [(h.length,3,0)]]⟩:=blk_new _ _
   have b1':blk? (H++[some (Blk.mk true 0 [.fn 200 [(h.length,3,0)]])]) h.length=some ⟨true,0,[a,b,c]⟩:=blk_old b1 _
   generalize H++[some (Blk.mk true 0 [.fn 200 [(h.length,3,0)]])]=H2 at *
   have kk:Kp h.length h H2:=k1.trans (k2.mono k1.1)
   have hc2:=hc.keep hcl kk
   have ha2:=ha.keep hal kk
   have hsays:Says E H2 (.fn 200 [(h.length,3,0)]) (hasB P):=fun n α F=>by
    show c1 (R E 200 ([.c (.int .i64 n)]++[.c (.ptr h.length 3 0)]) H2) F=_
    have:R E 200 ([.c (.int .i64 n)]++[.c (.ptr h.length 3 0)]) H2=some ([.c (.bool (hasB P n))],H2):=by
     refine R_intro hE.c200.fn ?_
     show q200.body (R E) Lim E.glob [.c (.int .i64 n),.c (.ptr h.length 3 0)] H2=_
     rw [q200_eq,rd3 b1',show 0+0=0 from rfl,a0,ha2.len,scK_and];rfl
    rw [this,c1_ok]
   have hins:∀(c:List Ins) (y:Cell),c.length≤1000→SlAt H2 y 9 (codeC c) c.length→R E 155 [.c y,.c (.fn 201 [(H.length,1,0)])] H2=some ([.c (.bool (c.any fun i=>!fldB (hasB P) i))],H2):=by
    intro c y hcl hy
    refine any_sIns_Ins_R hE.c155 hy (by omega) (fun i=>!fldB (hasB P) i) fun i _ α F=>?_
    show c1 (R E 201 ([.agg i.cs]++[.c (.ptr H.length 1 0)]) H2) F=_
    have:R E 201 ([.agg i.cs]++[.c (.ptr H.length 1 0)]) H2=some ([.c (.bool (!fldB (hasB P) i))],H2):=by
     refine R_intro hE.c201.fn ?_
     show q201.body (R E) Lim E.glob [.agg i.cs,.c (.ptr H.length 1 0)] H2=_
     rw [q201_eq,if_pos ⟨rfl,rfl⟩,rd1' b2,atK_ok (i:=0) (c:=.fn 200 [(h.length,3,0)]) rfl,Fields_R hE.c201.c159 i hsays,c1_ok,asB_ok]
    rw [this,c1_ok]
   have n2:=hsm.1
   have f2:Lim (q188_F2 (R E) Lim E.glob) (q188_s2 H.length 1 0 c P.thr.length 0 H2)=some (if P.thr.any (thrBad P)=true then (.ret,q188_x2_0 false H2) else (.exit 2,q188_x2_3 H2)):=by
    rw [←atB_any]
    exact Lim_scan (F:=q188_F2 (R E) Lim E.glob) (fun i=>q188_s2 H.length 1 0 c P.thr.length (i:Int) H2) P.thr.length (atB P.thr fun _=>thrBad P) _ _ 2 (fun t ht=>by
     have hq:P.thr[t]? = some P.thr[t]:=List.getElem?_eq_getElem ht
     generalize P.thr[t]=code at hq
     have hcl2:=hsm.2 code (List.mem_of_getElem? hq)
     obtain ⟨y,y1,y2,y3⟩:=hts t code hq
     have y2':=y2.keep y3 kk
     rw [q188_r2,if_pos (by simp;omega),hc2.get1 ht y1,y2'.len,Jumps_R hE.c148 y2' (by omega),c1_ok,asB_ok,scK_or,hins code y hcl2 y2',c1_ok,asB_ok,scK_or,atB_ok hq,g_succ (by omega)]
     rfl) (by rw [q188_r2,if_neg (by simp)])
   rw [rd3 b1',show 0+2=2 from rfl,a2,hc2.len,f2,bind_ok]
   cases htb:P.thr.any (thrBad P) with
   | true=>rw [if_pos rfl];dsimp only;rw [q188_e2_0,fin _ _ kk];rfl
   | false=>rw [if_neg (by simp)];dsimp only;rw [q188_e2_3,fin _ _ kk];rfl
end
end Jq

namespace Jq
open Go
section
variable {E:Env}
theorem cells1 {h:AHeap} {x:Cell} {cs:List Cell} {len:Nat} (s:SlAt h x 1 cs len):slCells h 1 x=some cs:=by
 have hl:=s.1
 rcases s.2 with ⟨rfl,rfl⟩ | ⟨k,N,off,rfl,hb⟩
 ·have:cs=[]:=List.length_eq_zero_iff.1 (by omega)
  rw [this];rfl
 ·unfold slCells
  dsimp only
  by_cases h0:len=0
  ·have:cs=[]:=List.length_eq_zero_iff.1 (by omega)
   rw [if_pos h0,this]
  ·rw [if_neg h0]
   rcases hb with hb | ⟨b,hb,hN,hle,hat⟩
   ·exact absurd hb h0
   ·rw [hb]
    simp only
    rw [if_pos ⟨hN,hle⟩]
    congr 1
    refine List.ext_getElem? fun j=>?_
    rw [List.getElem?_take,List.getElem?_drop]
    by_cases hj:j<len*1
    ·rw [if_pos hj,hat j hj]
    ·rw [if_neg hj,List.getElem?_eq_none (by omega)]
theorem app_empty {α:Type} {h:AHeap} {bytes len:Nat} {cs:List Cell} (hlen:cs.length=len) (h1:len*bytes≤maxBytes) (h2:len≤maxBytes) (f:Cell→AHeap→Option α) :
  appK 1 bytes (.sl h.length 0 0 0) cs (h++[some ⟨true,1,[]⟩]) f=f (.sl h.length cs.length 0 len) (h++[some ⟨true,1,cs⟩]):=by
 unfold appK
 simp only
 rw [blk_new,Option.bind_some]
 dsimp only
 have hd:cs.length / 1=len:=by rw [Nat.div_one,hlen]
 rw [if_pos ⟨rfl,rfl,rfl,by simp,by rw [hd];simp;omega,by rw [hd];simp;omega⟩,hd]
 by_cases h0:len=0
 ·have:cs=[]:=List.length_eq_zero_iff.1 (by omega)
  subst this
  rw [if_pos (by simp),setBlk_last,h0];rfl
 ·rw [if_neg (by omega),if_pos trivial,setBlk_last]
  simp
theorem slices_Clone_sbyte_byte_R (hE:q202_In E) {x:Cell} {cs:List Cell} {len:Nat} {h:AHeap} (hx:SlAt h x 1 cs len) (hlow:Low h.length x) (hl:len≤1000) :
  ∃x' h',R E 202 [.c x] h=some ([.c x'],h')∧Own h.length h' x' 1 cs len∧Kp h.length h h':=by
 have hm:maxBytes≥1000*8:=by unfold maxBytes;omega
 have hlen:cs.length=len:=by have:=hx.1;omega
 have hx0:=hx
 rcases hx.2 with ⟨rfl,h0⟩ | ⟨k,N,off,rfl,hb⟩
 ·refine ⟨.nils,h,R_intro hE.fn ?_,⟨hx.1,.inl ⟨rfl,h0⟩⟩,Kp.refl _ _⟩
  rw [q202_eq];rfl
 ·have hk1:Kp h.length h (h++[some ⟨true,1,[]⟩]):=Kp.app _ (Nat.le_refl _)
  have hc:=cells1 (hx0.keep hlow hk1)
  refine ⟨.sl h.length cs.length 0 len,h++[some ⟨true,1,cs⟩],R_intro hE.fn ?_,⟨hx.1,.inr ⟨h.length,rfl,Nat.le_refl _,blk_new _ _⟩⟩,Kp.app _ (Nat.le_refl _)⟩
  rw [q202_eq,show ∀{α:Type} (f:Bool→Option α),eqNilK false (.sl k N off len) .nils f=f false from fun _=>rfl,if_neg (by simp),if_pos (show ([]:List Cell).length=0*1 from rfl),hc,bind_ok,show ([]:List Cell).length=0 from rfl,app_empty hlen (by omega) (by omega)]
theorem slices_Clone_sint64_int64_R (hE:q203_In E) {x:Cell} {cs:List Cell} {len:Nat} {h:AHeap} (hx:SlAt h x 1 cs len) (hlow:Low h.length x) (hl:len≤1000) :
  ∃x' h',R E 203 [.c x] h=some ([.c x'],h')∧Own h.length h' x' 1 cs len∧Kp h.length h h':=by
 have hm:maxBytes≥1000*8:=by unfold maxBytes;omega
 have hlen:cs.length=len:=by have:=hx.1;omega
 have hx0:=hx
 rcases hx.2 with ⟨rfl,h0⟩ | ⟨k,N,off,rfl,hb⟩
 ·refine ⟨.nils,h,R_intro hE.fn ?_,⟨hx.1,.inl ⟨rfl,h0⟩⟩,Kp.refl _ _⟩
  rw [q203_eq];rfl
 ·have hk1:Kp h.length h (h++[some ⟨true,1,[]⟩]):=Kp.app _ (Nat.le_refl _)
  have hc:=cells1 (hx0.keep hlow hk1)
  refine ⟨.sl h.length cs.length 0 len,h++[some ⟨true,1,cs⟩],R_intro hE.fn ?_,⟨hx.1,.inr ⟨h.length,rfl,Nat.le_refl _,blk_new _ _⟩⟩,Kp.app _ (Nat.le_refl _)⟩
  rw [q203_eq,show ∀{α:Type} (f:Bool→Option α),eqNilK false (.sl k N off len) .nils f=f false from fun _=>rfl,if_neg (by simp),if_pos (show ([]:List Cell).length=0*1 from rfl),hc,bind_ok,show ([]:List Cell).length=0 from rfl,app_empty hlen (by omega) (by omega)]
end
end Jq

