/- YtaohhggiapblkaaGreatDoorCoreA: a part of the proof; no conditions of its own. -/
import GoSem.Core.Value
import GoSem.Core.Code
import GoSem.Core.Lib
import Derived.Calls
import Derived.Laws.World
import Derived.Laws.Sem
import Derived.Laws.Entries
import Derived.Laws.Append
import Derived.Laws.AppendOwn
import Derived.Laws.MakeOwn
import Derived.Laws.Slices
import Derived.Laws.BytesArg
import Derived.Laws.BytesString
import Derived.Laws.IdiomCopy
import Derived.Laws.IdiomStrings
import Derived.Laws.Small
import Derived.Laws.Pointers
import Derived.Laws.Cover3
import Derived.ArgAppend
import Derived.ChangeKeysEq
set_option linter.unusedVariables false
set_option linter.unusedSectionVars false
set_option linter.unusedSimpArgs false
set_option maxRecDepth 100000
open Bool renaming and_eq_true→Ya,noConfusion→Yh,eq_iff_iff→Yaf
open List renaming getElem?_append_left→Yb,getElem?_take→Yc,getElem?_append_right→Ye,getElem?_drop→Yg,eq_nil_of_length_eq_zero→Yl,length_append→Ym,map_map→Yn,append_assoc→Yo,getElem?_eq_some_iff→Yp,getD_eq_getElem?_getD→Yv,replicate→Yx,getElem?_set→Yy,ext_getElem?→Yz,getElem?_toArray→Yac,replicate_succ→Yai,drop_drop→Yak,drop_eq_nil_of_le→Yao,take_append_drop→Yas,map_cons→Yau,size_toArray→Ybb,length_cons→Ybe,cons_append→Ybf,length_drop→Ybg,nil_append→Ybh,append_nil→Ybi
open Nat renaming le_refl→Yd,mul_le_mul_right→Yf,le_max_right→Yi,le_max_left→Yk,le_trans→Yq,add_zero→Yr,lt_of_lt_of_le→Ys,add_assoc→Yu,add_mul→Yaa,zero_add→Yad,succ_mul→Yae,beq→Yaj,le_of_lt→Yal,add_sub_cancel_left→Yam,blt→Yaq,lt_or_ge→Yax,eq_zero_or_pos→Yay,mul_div_cancel→Yaz,succ→Ybd
open BitVec renaming ofInt→Yj
open Array renaming toList_map→Yt,length_toList→Yag,toList_append→Yah,getElem?_eq_none→Yan,getElem?_modify→Yar,getElem?_push→Yav,size_append→Yba,isEmpty_iff→Ybc
open Option renaming isSome_iff_exists→Yw,bind_some→Yab,map_eq_some_iff→Yap,map→Yat
open Int renaming toNat_of_nonneg→Yaw
namespace Jq
open Go
inductive Cell where
 | int (k:IntKind) (n:Int)
 | bool (b:Bool)
 | str (s:ByteArray)
 | nilp
 | ptr (k N off:Nat)
 | gptr (g off:Nat)
 | nils
 | sl (k N off len:Nat)
 | fn (f:Nat) (caps:List (Nat × Nat × Nat))
 | csl (k N off len:Nat)
 | fnb (f:Nat) (l:List (IntKind × Int))
 | nilf
 | nili
 deriving DecidableEq
inductive AV where
 | c (x:Cell)
 | agg (cs:List Cell)
 deriving DecidableEq
def AV.cells:AV->List Cell
 | .c x=>[x]
 | .agg cs=>cs
inductive TV where
 | v (x:AV)
 | tup (l:List AV)
 | loc (s off:Nat)
 | lit (esz:Nat) (cs:List Cell)
 | top
def TV.isTop:TV->Bool
 | .top=>true
 | _=>false
structure Blk where
 own:Bool
 esz:Nat
 cs:List Cell
 deriving DecidableEq
abbrev tops (n : Nat) (l : List TV) : List TV := Yx n .top ++ l
abbrev ci0 : Cell := Cell.int .i64  0
abbrev Za:=List (Option Blk)
abbrev Ze:=List (Option (List Cell))
def blk? (h:Za) (k:Nat):Option Blk:=(h[k]?).join
def setBlk (h:Za) (k:Nat) (b:Option Blk):Za:=h.set k b
structure St where
 t:List TV
 s:Ze
 h:Za
inductive O where
 | t (i:Nat)
 | k (x:AV)
inductive RK where
 | i (k:IntKind)
 | b
 | s
 | any
 | agg
 deriving DecidableEq
inductive Mem where
 | slot (s:Nat)
 | heap
 deriving DecidableEq
inductive K where
 | mov
 | pick
 | allocH (z:List Cell)
 | boxH
 | ld (m:Mem) (r:RK)
 | ld0 (r:RK)
 | ldAll (m:Mem) (n:Nat)
 | ldN (m:Mem) (n:Nat)
 | st (m:Mem)
 | stAll (m:Mem) (n:Nat)
 | stN (m:Mem) (n:Nat)
 | addr (off:Nat)
 | idxA (len esz:Nat)
 | idxS (esz:Nat)
 | bin (op:BinOp)
 | eqB (neg:Bool)
 | eqA (neg:Bool) (z:List Cell)
 | eqNil (neg:Bool)
 | un (op:UnOp)
 | conv (k:IntKind)
 | ext (i:Nat)
 | fld (off:Nat) (r:RK)
 | fldN (off n:Nat)
 | idxV (len:Nat) (r:RK)
 | idxVN (len esz:Nat)
 | idxStr
 | build (z:List Cell) (parts:List (Nat × Nat))
 | bslice (esz len:Nat) (z:List Cell) (parts:List (Nat × Nat))
 | lit (esz len:Nat) (z:List Cell) (parts:List (Nat × Nat))
 | mks (esz:Nat) (z:List Cell) (bytes:Nat)
 | slc (esz:Nat) (lo hi:Bool)
 | slcA (len esz:Nat) (lo hi:Bool)
 | slcStr (lo hi:Bool)
 | slc3
 | len
 | lenStr
 | lenA (n:Nat)
 | mn
 | mx
 | app (esz bytes:Nat)
 | copy (esz:Nat)
 | mkfn (f:Nat)
 | mkfb (f:Nat)
 | call (f:Nat) (rs:List RK)
 | callv (rs:List RK)
 | qcall (f:Nat) (rs:List RK)
 | qcallv (rs:List RK)
 | qcallb (rs:List RK)
 | zcall (f:Nat) (rs:List RK)
 | nilchk
 | b2s
 | s2b
 | mark
 | trap
inductive RL where
 | nil
 | op (dst:Option Nat) (k:K) (xs:List O) (rest:RL)
 | al (dst s:Nat) (z:List Cell) (rest:RL)
 | box (dst s:Nat) (x:O) (rest:RL)
 | sc (g:Nat) (w:Bool) (body:RL) (out dst:Nat) (d:Bool) (rest:RL)
inductive IC where
 | skip
 | reg (id:Nat) (draw:Bool) (r:RL)
 | seq (a b:IC)
 | cond (c:O) (x y:IC)
 | blk (id:Nat) (c:IC)
 | loop (live ls:List Nat) (X:List (Nat × List Nat × List Nat)) (c:IC)
 | cut (live ls:List Nat) (X:List (Nat × List Nat × List Nat)) (a b:IC)
 | lift (s:Nat) (a:IC)
 | exit (id:Nat)
 | ret
inductive Ex where
 | normal
 | exit (id:Nat)
 | ret
 deriving DecidableEq
inductive Res where
 | t (i:Nat) (r:RK)
 | one (m:Mem) (i:Nat) (r:RK)
 | all (m:Mem) (i n:Nat)
structure Fn where
 np:Nat
 nt:Nat
 ns:Nat
 res:List Res
 gc:Bool
 code:IC
abbrev Zk:=Nat->List AV->Za->Option (List AV × Za)
abbrev Zbl:=(St->Option (Ex × St))->St->Option (Ex × St)
section
variable {α:Type}
def Zi (k:IntKind) (x:AV) (f:Int->Option α):Option α :=
 match x with
 | .c (.int k' n)=>if k'=k then f n else none
 | _=>none
def asB (x:AV) (f:Bool->Option α):Option α :=
 match x with
 | .c (.bool b)=>f b
 | _=>none
def asS (x:AV) (f:ByteArray->Option α):Option α :=
 match x with
 | .c (.str s)=>f s
 | _=>none
def asC (x:AV) (f:Cell->Option α):Option α :=
 match x with
 | .c c=>f c
 | _=>none
def asA (x:AV) (f:List Cell->Option α):Option α :=
 match x with
 | .agg cs=>f cs
 | _=>none
def rkK (r:RK) (x:AV) (f:AV->Option α):Option α :=
 match r with
 | .i k=>Zi k x fun n=>f (.c (.int k n))
 | .b=>asB x fun b=>f (.c (.bool b))
 | .s=>asS x fun s=>f (.c (.str s))
 | .any=>asC x fun c=>f (.c c)
 | .agg=>asA x fun cs=>f (.agg cs)
def toTV:List AV->TV
 | [x]=>.v x
 | l=>.tup l
def c0 (o:Option (List AV × Za)) (f:Za->Option α):Option α :=
 o.bind fun r=>match r.1 with | []=>f r.2 | _=>none
def c1 (o:Option (List AV × Za)) (f:AV->Za->Option α):Option α :=
 o.bind fun r=>match r.1 with | [x]=>f x r.2 | _=>none
def c2 (o:Option (List AV × Za)) (f:AV->AV->Za->Option α):Option α :=
 o.bind fun r=>match r.1 with | [x,y]=>f x y r.2 | _=>none
def c3 (o:Option (List AV × Za)) (f:AV->AV->AV->Za->Option α):Option α :=
 o.bind fun r=>match r.1 with | [x,y,z]=>f x y z r.2 | _=>none
def c4 (o:Option (List AV × Za)) (f:AV->AV->AV->AV->Za->Option α):Option α :=
 o.bind fun r=>match r.1 with | [x,y,z,u]=>f x y z u r.2 | _=>none
def Zci (rs:List RK) (o:Option (List AV × Za)) (f:TV->Za->Option α):Option α :=
 match rs with
 | []=>c0 o fun h=>f (.tup []) h
 | [r]=>c1 o fun x h=>rkK r x fun x=>f (.v x) h
 | [r,q]=>c2 o fun x y h=>rkK r x fun x=>rkK q y fun y=>f (.tup [x,y]) h
 | [r,q,p]=>c3 o fun x y z h=>rkK r x fun x=>rkK q y fun y=>rkK p z fun z=>f (.tup [x,y,z]) h
 | [r,q,p,t]=>c4 o fun x y z u h=>rkK r x fun x=>rkK q y fun y=>rkK p z fun z=>rkK t u fun u=>f (.tup [x,y,z,u]) h
 | _=>none
def qh (h:Za) (o:Option (List AV × Za)):Option (List AV × Za) :=
 o.bind fun r=>if r.2=h then some (r.1,h) else none
def z0 (h:Za) (k:Nat):Option Blk:=(blk? h k).bind fun b=>if b.esz=0 then some b else none
def zh (h:Za) (o:Option (List AV × Za)):Option (List AV × Za) :=
 o.bind fun r=>if ((List.range (h.length+r.2.length)).all fun k=>decide (z0 h k=z0 r.2 k))=true then some r else none
def Zn (h:Za) (k N:Nat) (f:List Cell->Option α):Option α :=
 (blk? h k).bind fun b=>if b.cs.length=N then f b.cs else none
structure Glo where
 tab:Nat->List Cell
 wrap:IntKind->Int->Int
 quo:IntKind->Int->Int->Int
 rem:IntKind->Int->Int->Int
 band:IntKind->Int->Int->Int
 bor:IntKind->Int->Int->Int
 bxor:IntKind->Int->Int->Int
 bandNot:IntKind->Int->Int->Int
 bnot:IntKind->Int->Int
 shl:IntKind->Int->Int->Int
 shr:IntKind->Int->Int->Int
def Glo.std (tab:Nat->List Cell):Glo where
 tab:=tab
 wrap:=IntKind.wrap
 quo k x y:=k.wrap (x.tdiv y)
 rem _ x y:=x.tmod y
 band k x y:=k.wrap (Yj k.bits x &&& Yj k.bits y).toNat
 bor k x y:=k.wrap (Yj k.bits x ||| Yj k.bits y).toNat
 bxor k x y:=k.wrap (Yj k.bits x ^^^ Yj k.bits y).toNat
 bandNot k x y:=k.wrap (Yj k.bits x &&& ~~~(Yj k.bits y)).toNat
 bnot k x:=k.wrap (Yj k.bits (if k.signed then -1 else k.max) ^^^ Yj k.bits x).toNat
 shl k x y:=k.wrap (x*2 ^ min y.toNat k.bits)
 shr k x y:=x.fdiv (2 ^ min y.toNat k.bits)
def Zy (G:Glo):Mem->TV->Ze->Za->(List Cell->Nat->Option α)->Option α
 | .slot s,.loc s' off,sl,_,f=>if s'=s then (sl.getD s none).bind fun cs=>f cs off else none
 | .heap,.v (.c (.ptr k N off)),_,h,f=>Zn h k N fun cs=>f cs off
 | .heap,.v (.c (.gptr g off)),_,_,f=>f (G.tab g) off
 | _,_,_,_,_=>none
def rd0 (h:Za) (k N:Nat) (f:List Cell->Option α):Option α :=
 (blk? h k).bind fun b=>if b.esz=0 then Zn h k N f else none
def Zsq:TV->Za->(List Cell->Nat->Option α)->Option α
 | .v (.c (.ptr k N off)),h,f=>rd0 h k N fun cs=>f cs off
 | _,_,_=>none
def Zbh (h:Za) (k:Nat) (cs:List Cell) (f:Za->Option α):Option α :=
 (blk? h k).bind fun b=>if b.own=true then f (setBlk h k (some { b with cs:=cs })) else none
def Zhi:Mem->TV->List Cell->Ze->Za->(Ze->Za->Option α)->Option α
 | .slot s,_,cs,sl,h,f=>f (sl.set s (some cs)) h
 | .heap,.v (.c (.ptr k _ _)),cs,sl,h,f=>Zbh h k cs fun h=>f sl h
 | _,_,_,_,_,_=>none
def splice (cs:List Cell) (off:Nat) (xs:List Cell):List Cell:=cs.take off++xs++cs.drop (off+xs.length)
def Zio (G:Glo) (op:BinOp) (k:IntKind) (x y:Int) (f:Cell->Option α):Option α :=
 match op with
 | .add=>f (.int k (G.wrap k (x+y)))
 | .sub=>f (.int k (G.wrap k (x - y)))
 | .mul=>f (.int k (G.wrap k (x*y)))
 | .quo=>if y=0 then none else f (.int k (G.quo k x y))
 | .rem=>if y=0 then none else f (.int k (G.rem k x y))
 | .and=>f (.int k (G.band k x y))
 | .or=>f (.int k (G.bor k x y))
 | .xor=>f (.int k (G.bxor k x y))
 | .andNot=>f (.int k (G.bandNot k x y))
 | .eql=>f (.bool (x==y))
 | .neq=>f (.bool (x != y))
 | .lss=>f (.bool (decide (x<y)))
 | .leq=>f (.bool (decide (x<=y)))
 | .gtr=>f (.bool (decide (x > y)))
 | .geq=>f (.bool (decide (x>=y)))
 | .shl=>if y<0 then none else f (.int k (G.shl k x y))
 | .shr=>if y<0 then none else f (.int k (G.shr k x y))
def Znk (op:BinOp) (x y:ByteArray) (f:Cell->Option α):Option α :=
 match op with
 | .add=>if x.size+y.size<=1099511627776 then f (.str (x++y)) else none
 | .eql=>f (.bool (x.toList==y.toList))
 | .neq=>f (.bool (!(x.toList==y.toList)))
 | _=>none
def Zvw (G:Glo) (op:BinOp):AV->AV->(AV->Option α)->Option α
 | .c (.int k x),.c (.int k' y),f=>if k'=k∨op=.shl∨op=.shr then Zio G op k x y fun c=>f (.c c) else none
 | .c (.str x),.c (.str y),f=>Znk op x y fun c=>f (.c c)
 | _,_,_=>none
def alike1:Cell->Cell->Bool
 | .int k _,.int k' _=>decide (k=k')
 | .bool _,.bool _=>true
 | .str _,.str _=>true
 | _,_=>false
def alike:List Cell->List Cell->Bool
 | [],[]=>true
 | x :: xs,y :: ys=>alike1 x y&&alike xs ys
 | _,_=>false
def unK (G:Glo) (op:UnOp):AV->(AV->Option α)->Option α
 | .c (.int k n),f=>(match op with
  | .neg=>f (.c (.int k (G.wrap k (0 - n))))
  | .xor=>f (.c (.int k (G.bnot k n)))
  | _=>none)
 | .c (.bool b),f=>(match op with | .not=>f (.c (.bool !b)) | _=>none)
 | _,_=>none
def Zcl:List (Nat × Nat)->List TV->List Cell->(List Cell->Option α)->Option α
 | [],[],cs,f=>f cs
 | (off,n) :: ps,.v x :: xs,cs,f=>if x.cells.length=n/\off+n<=cs.length then Zcl ps xs (splice cs off x.cells) f else none
 | _,_,_,_=>none
def rep (n:Nat) (z:List Cell):List Cell:=(Yx n z).flatten
def Zah (h:Za) (esz:Nat):Cell->Option (List Cell)
 | .nils=>some []
 | .sl k N off len=>if len=0 then some [] else match blk? h k with
  | some b=>if b.cs.length=N/\off+len*esz<=N then some ((b.cs.drop off).take (len*esz)) else none
  | none=>none
 | .csl k N off len=>(blk? h k).bind fun b=>if b.cs.length=N/\off+len*esz<=N then some ((b.cs.drop off).take (len*esz)) else none
 | _=>none
def maxBytes:Nat:=1099511627776
def Zaq (esz bytes:Nat) (base:Cell) (xs:List Cell) (h:Za) (f:Cell->Za->Option α):Option α :=
 match base with
 | .nils=>if xs.length=0 then f .nils h
  else if xs.length / esz*bytes<=maxBytes/\xs.length / esz<=maxBytes then f (.sl h.length xs.length 0 (xs.length / esz)) (h++[some ⟨true,esz,xs⟩]) else none
 | .sl k N off len=>(blk? h k).bind fun b =>
  if b.own=true/\b.esz=esz/\b.cs.length=N/\off+len*esz<=N/\(len+xs.length / esz)*bytes<=maxBytes/\len+xs.length / esz<=maxBytes then
   (if off+len*esz+xs.length<=N then f (.sl k N off (len+xs.length / esz)) (setBlk h k (some { b with cs:=splice b.cs (off+len*esz) xs }))
   else if off=0 then f (.sl k (len*esz+xs.length) 0 (len+xs.length / esz)) (setBlk h k (some { b with cs:=b.cs.take (len*esz)++xs }))
   else f (.sl h.length (len*esz+xs.length) 0 (len+xs.length / esz)) (setBlk h k none++[some ⟨true,esz,(b.cs.drop off).take (len*esz)++xs⟩]))
  else none
 | .csl k N off len=>(blk? h k).bind fun b =>
  if xs.length / esz≠0/\b.cs.length=N/\off+len*esz<=N/\(len+xs.length / esz)*bytes<=maxBytes/\len+xs.length / esz<=maxBytes then
   f (.sl h.length (len*esz+xs.length) 0 (len+xs.length / esz)) (h++[some ⟨true,esz,(b.cs.drop off).take (len*esz)++xs⟩])
  else none
 | _=>none
def Zho (esz:Nat) (dst src:Cell) (h:Za) (f:Int->Za->Option α):Option α :=
 (Zah h esz src).bind fun xs =>
  match dst with
  | .nils=>f 0 h
  | .sl k N off len=>(blk? h k).bind fun b =>
   if b.own=true/\b.cs.length=N/\off+len*esz<=N then
    f ((min (xs.length / esz) len:Nat):Int) (setBlk h k (some { b with cs:=splice b.cs off (xs.take (min (xs.length / esz) len*esz)) }))
   else none
  | _=>none
def Zag (lo hi:Bool) (n:Nat):List TV->(Nat->Nat->Option α)->Option α:=fun xs f =>
 match lo,hi,xs with
 | false,false,[]=>f 0 n
 | true,false,[.v (.c (.int _ l))]=>if 0<=l/\l<=n then f l.toNat n else none
 | false,true,[.v (.c (.int _ u))]=>if 0<=u/\u<=n then f 0 u.toNat else none
 | true,true,[.v (.c (.int _ l)),.v (.c (.int _ u))]=>if 0<=l/\l<=u/\u<=n then f l.toNat u.toNat else none
 | _,_,_=>none
def bytesOf:List Cell->Option (List UInt8)
 | []=>some []
 | .int .u8 n :: cs=>(bytesOf cs).map (UInt8.ofNat n.toNat :: ·)
 | _=>none
def vals:List TV->Option (List AV)
 | []=>some []
 | .v x :: xs=>(vals xs).map (x :: ·)
 | _=>none
def Zfl:List TV->Option (List (Nat × Nat × Nat))
 | []=>some []
 | .v (.c (.ptr k N off)) :: xs=>(Zfl xs).map ((k,N,off) :: ·)
 | _=>none
def Zjz (l:List (Nat × Nat × Nat)):List AV:=l.map fun (k,N,off)=>.c (.ptr k N off)
def k1 (xs:List TV) (f:TV->Option α):Option α:=match xs with | [x]=>f x | _=>none
def k2 (xs:List TV) (f:TV->TV->Option α):Option α:=match xs with | [x,y]=>f x y | _=>none
def Zeq (x:TV) (f:IntKind->Int->Option α):Option α:=match x with | .v (.c (.int k n))=>f k n | _=>none
def Zue (x:TV) (f:Bool->Option α):Option α:=match x with | .v (.c (.bool b))=>f b | _=>none
def Zjj (x:TV) (f:List Cell->Option α):Option α:=match x with | .v (.agg cs)=>f cs | _=>none
def Zca (x:TV) (f:Cell->Option α):Option α:=match x with | .v (.c c)=>f c | _=>none
def avK (x:TV) (f:AV->Option α):Option α:=match x with | .v x=>f x | _=>none
def Zvl (x:TV) (f:ByteArray->Option α):Option α:=match x with | .v (.c (.str b))=>f b | _=>none
def Zf (cs:List Cell) (i:Nat) (f:Cell->Option α):Option α:=cs[i]?.bind f
def Zfc (o:Nat) (x:TV) (f:TV->Option α):Option α :=
 match x with
 | .v (.c (.ptr k N off))=>f (.v (.c (.ptr k N (off+o))))
 | .v (.c (.gptr g off))=>f (.v (.c (.gptr g (off+o))))
 | .loc q off=>f (.loc q (off+o))
 | _=>none
def Zm (esz:Nat) (x:Cell) (i:Int) (f:Nat->Nat->Nat->Option α):Option α :=
 match x with
 | .sl k N off len=>if 0<=i/\i<len then f k N (off+i.toNat*esz) else none
 | _=>none
def Zcm (neg:Bool) (x y:Cell) (f:Bool->Option α):Option α :=
 match x,y with
 | .nilp,.nilp=>f !neg
 | .ptr _ _ _,.nilp=>f neg
 | .nilp,.ptr _ _ _=>f neg
 | .nils,.nils=>f !neg
 | .sl _ _ _ _,.nils=>f neg
 | .nils,.sl _ _ _ _=>f neg
 | .nilf,.nilf=>f !neg
 | .fn _ _,.nilf=>f neg
 | .csl _ _ _ _,.nils=>f neg
 | _,_=>none
def Zgd (h:Za) (esz k N:Nat):Bool :=
 match blk? h k with
 | some b=>decide (b.cs.length≠N)||decide (b.esz=0)||decide (b.esz=esz)
 | none=>true
def Zcg (h:Za) (esz:Nat) (lo hi:Bool) (x:Cell) (xs:List TV) (f:Cell->Option α):Option α :=
 match x with
 | .sl k N off len=>if Zgd h esz k N=true then Zag lo hi len xs fun l u=>f (.sl k N (off+l*esz) (u - l)) else none
 | .nils=>Zag lo hi 0 xs fun _ _=>f .nils
 | _=>none
def Zbs (h:Za) (len esz:Nat) (lo hi:Bool) (x:Cell) (xs:List TV) (f:Cell->Option α):Option α :=
 match x with
 | .ptr k N off=>if Zgd h 0 k N=true then Zag lo hi len xs fun l u=>f (.sl k N (off+l*esz) (u - l)) else none
 | _=>none
def Zgp (lo hi:Bool) (x:Cell) (xs:List TV) (f:ByteArray->Option α):Option α :=
 match x with
 | .str b=>Zag lo hi b.size xs fun l u=>f (b.extract l u)
 | _=>none
def Zcb (xs:List TV) (f:Cell->List TV->Option α):Option α :=
 match xs with
 | .v (.c x) :: xs=>f x xs
 | _=>none
def Zaj (x:Cell) (f:Int->Option α):Option α :=
 match x with
 | .nils=>f 0
 | .sl _ _ _ len=>f len
 | .csl _ _ _ len=>f len
 | _=>none
def lenSK (x:Cell) (f:Int->Option α):Option α :=
 match x with
 | .str b=>f b.size
 | _=>none
def Zji (h:Za) (esz:Nat) (x:TV):Option (List Cell) :=
 match x with
 | .lit e cs=>if e=esz then some cs else none
 | .v (.c c)=>Zah h esz c
 | _=>none
def callK (C:Zk) (g:Nat) (rs:List RK) (xs:List TV) (caps:List AV) (h:Za) (f:TV->Za->Option α):Option α :=
 (vals xs).bind fun l=>Zci rs (C g (l++caps) h) f
def qcallK (C:Zk) (g:Nat) (rs:List RK) (xs:List TV) (caps:List AV) (h:Za) (f:TV->Option α):Option α :=
 (vals xs).bind fun l=>Zci rs (qh h (C g (l++caps) h)) fun v _=>f v
def fnK (x:Cell) (f:Nat->List AV->Option α):Option α :=
 match x with
 | .fn g cs=>f g (Zjz cs)
 | _=>none
def Zit:List Cell->Option (List (IntKind × Int))
 | []=>some []
 | .int k n :: cs=>(Zit cs).map ((k,n) :: ·)
 | _=>none
def cellsOf (l:List (IntKind × Int)):List Cell:=l.map fun p=>.int p.1 p.2
def Zmp (x:Cell) (f:Nat->List (IntKind × Int)->Option α):Option α :=
 match x with
 | .fnb g l=>f g l
 | _=>none
def Zms (x:Cell) (xs:List TV) (f:Cell->Option α):Option α :=
 match xs with
 | [.v (.c (.int _ a)),.v (.c (.int _ b))]=>if a=b then
   (match x with
   | .nils=>if a=0 then f .nils else none
   | .sl k N off len=>if 0<a/\a<=len then f (.csl k N off a.toNat) else none
   | _=>none) else none
 | _=>none
def ptrK (x:Cell) (f:Nat->Nat->Nat->Option α):Option α :=
 match x with
 | .ptr k N off=>f k N off
 | _=>none
def Zgi (x:TV) (f:TV->Option α):Option α :=
 match x with
 | .v (.c c)=>ptrK c fun k N o=>f (.v (.c (.ptr k N o)))
 | .loc q off=>f (.loc q off)
 | _=>none
def Zmc (x:Cell) (h:Za) (f:Cell->Za->Option α):Option α :=
 match x with
 | .sl k N off len=>(blk? h k).bind fun b=>if b.own=true/\b.cs.length=N then f (.sl k N off len) (setBlk h k (some { b with own:=false })) else none
 | _=>none
def stepK (C:Zk) (G:Glo) (k:K) (xs:List TV) (s:Ze) (h:Za) (f:TV->Ze->Za->Option α):Option α :=
 match k with
 | .mov=>k1 xs fun x=>f x s h
 | .pick=>(match xs with | [.v (.c (.bool b)),x,y]=>f (if b then x else y) s h | _=>none)
 | .allocH z=>(match xs with | []=>f (.v (.c (.ptr h.length z.length 0))) s (h++[some ⟨true,0,z⟩]) | _=>none)
 | .boxH=>k1 xs fun x=>avK x fun x=>f (.v (.c (.ptr h.length x.cells.length 0))) s (h++[some ⟨true,0,x.cells⟩])
 | .ld m r=>k1 xs fun a=>Zy G m a s h fun cs off=>Zf cs off fun c=>rkK r (.c c) fun x=>f (.v x) s h
 | .ld0 r=>k1 xs fun a=>Zsq a h fun cs off=>Zf cs off fun c=>rkK r (.c c) fun x=>f (.v x) s h
 | .ldAll m n=>k1 xs fun a=>Zy G m a s h fun cs off=>if off=0/\cs.length=n then f (.v (.agg cs)) s h else none
 | .ldN m n=>k1 xs fun a=>Zy G m a s h fun cs off=>if off+n<=cs.length then f (.v (.agg ((cs.drop off).take n))) s h else none
 | .st m=>k2 xs fun a x=>Zca x fun c=>Zy G m a s h fun cs off=>if off<cs.length then Zhi m a (cs.set off c) s h fun s h=>f (.tup []) s h else none
 | .stAll m n=>k2 xs fun a x=>avK x fun x=>Zy G m a s h fun cs off=>if off=0/\cs.length=n/\x.cells.length=n then Zhi m a x.cells s h fun s h=>f (.tup []) s h else none
 | .stN m n=>k2 xs fun a x=>avK x fun x=>Zy G m a s h fun cs off=>if off+n<=cs.length/\x.cells.length=n then Zhi m a (splice cs off x.cells) s h fun s h=>f (.tup []) s h else none
 | .addr o=>k1 xs fun x=>Zfc o x fun x=>f x s h
 | .idxA len esz=>k2 xs fun a x=>Zeq x fun _ i=>if 0<=i/\i<len then Zfc (i.toNat*esz) a fun x=>f x s h else none
 | .idxS esz=>k2 xs fun a x=>Zca a fun a=>Zeq x fun _ i=>Zm esz a i fun k N o=>f (.v (.c (.ptr k N o))) s h
 | .bin op=>k2 xs fun x y=>avK x fun x=>avK y fun y=>Zvw G op x y fun z=>f (.v z) s h
 | .eqB neg=>k2 xs fun x y=>Zue x fun x=>Zue y fun y=>f (.v (.c (.bool (if neg then !(x==y) else x==y)))) s h
 | .eqA neg z=>k2 xs fun x y=>Zjj x fun x=>Zjj y fun y=>if alike x z=true/\alike y z=true then f (.v (.c (.bool (if neg then !(decide (x=y)) else decide (x=y))))) s h else none
 | .eqNil neg=>k2 xs fun x y=>Zca x fun x=>Zca y fun y=>Zcm neg x y fun b=>f (.v (.c (.bool b))) s h
 | .un op=>k1 xs fun x=>avK x fun x=>unK G op x fun z=>f (.v z) s h
 | .conv k=>k1 xs fun x=>Zeq x fun _ n=>f (.v (.c (.int k (G.wrap k n)))) s h
 | .ext i=>(match xs with | [.tup l]=>l[i]?.bind fun x=>f (.v x) s h | _=>none)
 | .fld off r=>k1 xs fun x=>Zjj x fun cs=>Zf cs off fun c=>rkK r (.c c) fun x=>f (.v x) s h
 | .fldN off n=>k1 xs fun x=>Zjj x fun cs=>if off+n<=cs.length then f (.v (.agg ((cs.drop off).take n))) s h else none
 | .idxV len r=>k2 xs fun x y=>Zjj x fun cs=>Zeq y fun _ i=>if 0<=i/\i<len then Zf cs i.toNat fun c=>rkK r (.c c) fun x=>f (.v x) s h else none
 | .idxVN len esz=>k2 xs fun x y=>Zjj x fun cs=>Zeq y fun _ i=>if 0<=i/\i<len/\i.toNat*esz+esz<=cs.length then f (.v (.agg ((cs.drop (i.toNat*esz)).take esz))) s h else none
 | .idxStr=>k2 xs fun x y=>Zvl x fun b=>Zeq y fun _ i=>if 0<=i then b[i.toNat]?.bind fun x=>f (.v (.c (.int .u8 x.toNat))) s h else none
 | .build z parts=>Zcl parts xs z fun cs=>f (.v (.agg cs)) s h
 | .bslice esz len z parts=>Zcl parts xs z fun cs=>if cs.length=len*esz then f (.v (.c (.sl h.length cs.length 0 len))) s (h++[some ⟨true,esz,cs⟩]) else none
 | .lit esz len z parts=>Zcl parts xs z fun cs=>if cs.length=len*esz then f (.lit esz cs) s h else none
 | .mks esz z bytes=>k2 xs fun x y=>Zeq x fun _ l=>Zeq y fun _ c =>
  if 0<=l/\l<=c/\c.toNat*bytes<=maxBytes/\c<=(maxBytes:Nat) then f (.v (.c (.sl h.length (rep l.toNat z).length 0 l.toNat))) s (h++[some ⟨true,esz,rep l.toNat z⟩]) else none
 | .slc esz lo hi=>Zcb xs fun x xs=>Zcg h esz lo hi x xs fun x=>f (.v (.c x)) s h
 | .slcA len esz lo hi=>Zcb xs fun x xs=>Zbs h len esz lo hi x xs fun x=>f (.v (.c x)) s h
 | .slc3=>Zcb xs fun x xs=>Zms x xs fun x=>f (.v (.c x)) s h
 | .slcStr lo hi=>Zcb xs fun x xs=>Zgp lo hi x xs fun b=>f (.v (.c (.str b))) s h
 | .len=>k1 xs fun x=>Zca x fun x=>Zaj x fun n=>f (.v (.c (.int .i64 n))) s h
 | .lenStr=>k1 xs fun x=>Zca x fun x=>lenSK x fun n=>f (.v (.c (.int .i64 n))) s h
 | .lenA n=>k1 xs fun _=>f (.v (.c (.int .i64 n))) s h
 | .mn=>k2 xs fun x y=>Zeq x fun k x=>Zeq y fun _ y=>f (.v (.c (.int k (if y<x then y else x)))) s h
 | .mx=>k2 xs fun x y=>Zeq x fun k x=>Zeq y fun _ y=>f (.v (.c (.int k (if y > x then y else x)))) s h
 | .app esz bytes=>k2 xs fun b x=>Zca b fun b=>(Zji h esz x).bind fun cs=>Zaq esz bytes b cs h fun c h=>f (.v (.c c)) s h
 | .copy esz=>k2 xs fun d x=>Zca d fun d=>Zca x fun x=>Zho esz d x h fun n h=>f (.v (.c (.int .i64 n))) s h
 | .mkfn g=>(Zfl xs).bind fun cs=>f (.v (.c (.fn g cs))) s h
 | .mkfb g=>k1 xs fun x=>Zjj x fun cs=>(Zit cs).bind fun l=>f (.v (.c (.fnb g l))) s h
 | .call g rs=>callK C g rs xs [] h fun v h=>f v s h
 | .callv rs=>Zcb xs fun x xs=>fnK x fun g cs=>callK C g rs xs cs h fun v h=>f v s h
 | .qcall g rs=>qcallK C g rs xs [] h fun v=>f v s h
 | .qcallv rs=>Zcb xs fun x xs=>fnK x fun g cs=>qcallK C g rs xs cs h fun v=>f v s h
 | .qcallb rs=>Zcb xs fun x xs=>Zmp x fun g l=>qcallK C g rs (.v (.agg (cellsOf l)) :: xs) [] h fun v=>f v s h
 | .zcall g rs=>callK (fun g l h=>zh h (C g l h)) g rs xs [] h fun v h=>f v s h
 | .nilchk=>k1 xs fun x=>Zgi x fun x=>f x s h
 | .b2s=>k1 xs fun x=>Zca x fun x=>(Zah h 1 x).bind fun cs=>(bytesOf cs).bind fun l=>f (.v (.c (.str ⟨l.toArray⟩))) s h
 | .s2b=>k1 xs fun x=>Zvl x fun b=>if b.size<=maxBytes then f (.v (.c (.sl h.length b.size 0 b.size))) s (h++[some ⟨false,0,b.data.toList.map fun x=>.int .u8 x.toNat⟩]) else none
 | .trap=>none
 | .mark=>k1 xs fun x=>Zca x fun c=>Zmc c h fun c h=>f (.v (.c c)) s h
def rdO (st:St):O->TV
 | .t i=>st.t.getD i .top
 | .k x=>.v x
def setT (t:List TV):Option Nat->TV->List TV
 | none,_=>t
 | some d,v=>t.set d v
def Zt (s:Nat):TV->Bool
 | .loc s' _=>s' != s
 | _=>true
def RL.dsts:RL->List Nat
 | .nil=>[]
 | .op d _ _ r=>d.toList++r.dsts
 | .al d _ _ r=>d :: r.dsts
 | .box d _ _ r=>d :: r.dsts
 | .sc _ _ b _ d _ r=>b.dsts++d :: r.dsts
def Zde (ds:List Nat) (t:List TV):List TV:=ds.foldl (fun t d=>t.set d .top) t
def Ziq (out:Nat) (st:St):Option (Bool × Za) :=
 match st.t.getD out .top with
 | .v (.c (.bool y))=>some (y,st.h)
 | _=>none
def scK (c w:Bool) (x:Option (Bool × Za)) (d:Bool) (h:Za) (f:Bool->Za->Option α):Option α :=
 (if c=w then x else some (d,h)).bind fun p=>f p.1 p.2
def Zab (C:Zk) (G:Glo):RL->{α:Type}->St->(St->Option α)->Option α
 | .nil,_,st,f=>f st
 | .op d k xs r,_,st,f =>
  if (xs.map (rdO st)).any TV.isTop then none
  else stepK C G k (xs.map (rdO st)) st.s st.h fun v s h=>Zab C G r ⟨setT st.t d v,s,h⟩ f
 | .al d s z r,_,st,f =>
  if (st.t.set d .top).all (Zt s) then Zab C G r ⟨st.t.set d (.loc s 0),st.s.set s (some z),st.h⟩ f else none
 | .box d s x r,_,st,f =>
  (match rdO st x with
  | .v y=>if (st.t.set d .top).all (Zt s) then Zab C G r ⟨st.t.set d (.loc s 0),st.s.set s (some y.cells),st.h⟩ f else none
  | _=>none)
 | .sc g w b out d e r,_,st,f =>
  (match st.t.getD g .top with
  | .v (.c (.bool x)) =>
   scK x w (Zab C G b st (Ziq out)) e st.h fun y h=>Zab C G r ⟨(Zde b.dsts st.t).set d (.v (.c (.bool y))),st.s,h⟩ f
  | _=>none)
def Zas {β:Type} (dead:β):Nat->List Nat->List β->List β
 | _,_,[]=>[]
 | i,[],_ :: vs=>dead :: Zas dead (i+1) [] vs
 | i,j :: js,v :: vs=>if i=j then v :: Zas dead (i+1) js vs else dead :: Zas dead (i+1) (j :: js) vs
def St.keep (st:St) (live ls:List Nat):St:=⟨Zas .top 0 live st.t,Zas none 0 ls st.s,st.h⟩
def Zae (b:St->Option α) (f:Ex->St->Option α):Ex->St->Option α
 | .normal,st=>b st
 | .exit i,st=>f (.exit i) st
 | .ret,st=>f .ret st
def Zap (id:Nat) (f:Ex->St->Option α):Ex->St->Option α
 | .normal,st=>f .normal st
 | .exit i,st=>if i=id then f .normal st else f (.exit i) st
 | .ret,st=>f .ret st
def Znh (e:Nat):List (Nat × List Nat × List Nat)->List Nat × List Nat
 | []=>([],[])
 | (i,p) :: r=>if i=e then p else Znh e r
def Zaf (live ls:List Nat) (X:List (Nat × List Nat × List Nat)):Ex->St->Option (Ex × St)
 | .normal,st=>some (.normal,st.keep live ls)
 | .exit i,st=>some (.exit i,st.keep (Znh (i+1) X).1 (Znh (i+1) X).2)
 | .ret,st=>some (.ret,st.keep (Znh 0 X).1 (Znh 0 X).2)
def Zo (c:St->(Ex->St->Option (Ex × St))->Option (Ex × St)) (live ls:List Nat) (X:List (Nat × List Nat × List Nat)):St->Option (Ex × St) :=
 fun st=>c st (Zaf live ls X)
def RL.slots:RL->List Nat
 | .nil=>[]
 | .op _ _ _ r=>r.slots
 | .al _ s _ r=>s :: r.slots
 | .box _ s _ r=>s :: r.slots
 | .sc _ _ b _ _ _ r=>b.slots++r.slots
def Zgf (d:Bool) (r:RL) (t:List TV):Bool:=!d||r.slots.all fun s=>t.all (Zt s)
def liftT (s k N:Nat):TV->TV
 | .loc s' off=>if s'=s then .v (.c (.ptr k N off)) else .loc s' off
 | x=>x
def Zlg (s:Nat) (cs:List Cell) (st:St):St:=⟨st.t.map (liftT s st.h.length cs.length),st.s.set s none,st.h++[some ⟨true,0,cs⟩]⟩
def IC.exec (C:Zk) (L:Zbl) (G:Glo):IC->{α:Type}->St->(Ex->St->Option α)->Option α
 | .skip,_,st,f=>f .normal st
 | .reg _ d r,_,st,f=>if Zgf d r st.t=true then Zab C G r st fun st=>f .normal st else none
 | .seq a b,_,st,f=>a.exec C L G st (Zae (fun st=>b.exec C L G st f) f)
 | .cond c x y,_,st,f=>(match rdO st c with
  | .v (.c (.bool b))=>if b=true then x.exec C L G st f else y.exec C L G st f
  | _=>none)
 | .blk id c,_,st,f=>c.exec C L G st (Zap id f)
 | .loop live ls X c,_,st,f=>(L (Zo (fun st f=>c.exec C L G st f) live ls X) (st.keep live ls)).bind fun p=>f p.1 p.2
 | .cut live ls X a b,_,st,f=>(a.exec C L G st (Zaf live ls X)).bind fun p=>Zae (fun st=>b.exec C L G st f) f p.1 p.2
 | .lift s a,_,st,f=>(match st.s.getD s none with | some cs=>a.exec C L G (Zlg s cs st) f | none=>none)
 | .exit i,_,st,f=>f (.exit i) st
 | .ret,_,st,f=>f .ret st
def Zcn (G:Glo):List Res->St->(List AV->Option α)->Option α
 | [],_,f=>f []
 | .t i r :: rs,st,f=>(match st.t.getD i .top with | .v x=>rkK r x fun y=>Zcn G rs st fun ys=>f (y :: ys) | _=>none)
 | .one m i r :: rs,st,f=>Zy G m (st.t.getD i .top) st.s st.h fun cs off=>(match cs[off]? with | some c=>rkK r (.c c) fun y=>Zcn G rs st fun ys=>f (y :: ys) | none=>none)
 | .all m i n :: rs,st,f=>Zy G m (st.t.getD i .top) st.s st.h fun cs off=>if off=0/\cs.length=n then Zcn G rs st fun ys=>f (.agg cs :: ys) else none
def Zcq (n:Nat):Cell->Bool
 | .ptr k _ _=>k<n
 | .sl k _ _ _=>k<n
 | .csl k _ _ _=>k<n
 | .fn _ caps=>caps.all fun (k,_,_)=>k<n
 | _=>true
def Zls (n:Nat) (x:AV):Bool:=x.cells.all (Zcq n)
def Znt (h h':Za) (l:List AV):Bool :=
 decide (h.length<=h'.length)&&l.all (Zls h.length) &&
 (List.range h.length).all fun k=>decide (h'[k]? = h[k]?)||(match blk? h' k with | some b=>b.cs.all (Zcq h.length) | none=>true)
def Zbe (gc:Bool) (h:Za) (l:List AV) (h':Za):Option (List AV × Za) :=
 match gc with
 | false=>some (l,h')
 | true=>if Znt h h' l=true then some (l,h'.take h.length) else none
def Fn.init (fn:Fn) (args:List AV) (h:Za):St :=
 ⟨args.map .v++Yx (fn.nt - fn.np) (.tup []),Yx fn.ns none,h⟩
def Fn.fin (G:Glo) (fn:Fn) (h:Za):Ex->St->Option (List AV × Za)
 | .exit _,_=>none
 | _,st=>Zcn G fn.res st fun l=>Zbe fn.gc h l st.h
def Fn.body (C:Zk) (L:Zbl) (G:Glo) (fn:Fn) (args:List AV) (h:Za):Option (List AV × Za) :=
 if args.length=fn.np then
  fn.code.exec C L G (fn.init args h) (fn.fin G h)
 else none
end
abbrev Rs := Option (List AV × Za)
section
def fz (m:Nat) (k:Nat->IC):IC:=Nat.rec (motive:=fun _=>IC) (k 0) (fun m _=>k (Ybd m)) m
def rn (n:Nat) (k:Nat->Nat->IC):IC:=fz (n%16) fun d=>fz (n/16) fun n=>bif Yaq d 12 then k d n else bif Yaq d 15 then fz (12+(d-12)*16+n%16) fun v=>fz (n/16) fun n=>k v n else fz (16^(n%16+1)) fun L=>fz (n/16) fun n=>fz (n%L) fun v=>fz (n/L) fun n=>k v n
def dL {α:Type} (f:Nat->(α->Nat->IC)->IC) (c:Nat):Nat->(List α->Nat->IC)->IC:=Nat.rec (motive:=fun _=>Nat->(List α->Nat->IC)->IC) (fun n k=>k [] n) (fun _ ih n k=>f n fun a n=>ih n fun l n=>k (a::l) n) c
def dLs {α:Type} (f:Nat->(α->Nat->IC)->IC) (n:Nat) (k:List α->Nat->IC):IC:=rn n fun c n=>dL f c n k
def dB (n:Nat) (k:Bool->Nat->IC):IC:=rn n fun b n=>bif Yaj b 0 then k false n else k true n
def kinds:List IntKind:=[.i64,.u64,.u8,.i32,.i8,.i16,.u16,.u32]
def dI (n:Nat) (k:IntKind->Nat->IC):IC:=rn n fun c n=>k (kinds.getD c .i64) n
def dR (n:Nat) (k:RK->Nat->IC):IC:=rn n fun c n=>bif Yaq c 5 then k (([.b,.any,.agg,.s]:List RK).getD c .b) n else k (.i (kinds.getD (c-5) .i64)) n
def dM (n:Nat) (k:Mem->Nat->IC):IC:=rn n fun c n=>bif Yaj c 0 then k .heap n else k (.slot (c-1)) n
def dC (n:Nat) (k:Cell->Nat->IC):IC:=rn n fun c n=>match c with
|0=>rn n fun v n=>k (.int .i64 (Int.ofNat v)) n
|1=>dI n fun i n=>rn n fun v n=>k (.int i (Int.ofNat v)) n
|2=>dI n fun i n=>rn n fun v n=>k (.int i (Int.negSucc (v-1))) n
|3=>k (.bool false) n
|4=>k (.bool true) n
|5=>k .nils n
|6=>k .nilp n
|7=>k .nilf n
|8=>k .nili n
|9=>dLs (fun n k=>rn n fun v n=>k (UInt8.ofNat v) n) n fun l n=>k (.str (ByteArray.mk l.toArray)) n
|10=>rn n fun f n=>k (.fn f []) n
|_=>rn n fun g n=>rn n fun o n=>k (.gptr g o) n
def dZ (n:Nat) (k:List Cell->Nat->IC):IC:=dLs (fun n k=>rn n fun c n=>dC n fun x n=>k (Yx c x) n) n fun l n=>k (List.foldr (fun a b=>List.append a b) [] l) n
def dP (n:Nat) (k:List (Nat×Nat)->Nat->IC):IC:=dLs (fun n k=>rn n fun a n=>rn n fun b n=>k (a,b) n) n k
def dNs (n:Nat) (k:List Nat->Nat->IC):IC:=rn n fun c n=>Nat.rec (motive:=fun _=>Nat->Nat->(List Nat->Nat->IC)->IC) (fun n _ k=>k [] n) (fun _ ih n p k=>rn n fun a n=>fz (p+a) fun p=>ih n p fun l n=>k (p::l) n) c n 0 k
def dX (n:Nat) (k:List (Nat×List Nat×List Nat)->Nat->IC):IC:=dLs (fun n k=>rn n fun a n=>dNs n fun b n=>dNs n fun c n=>k (a,b,c) n) n k
def dO (l n:Nat) (k:O->Nat->IC):IC:=rn n fun c n=>bif Yaj c 0 then dC n fun x n=>k (.k (.c x)) n else bif Yaq c 6 then fz (l-(c-1)) fun i=>k (.t i) n else fz (c-6) fun i=>k (.t i) n
def dT (l n:Nat) (k:Nat->Nat->IC):IC:=rn n fun c n=>bif Yaq c 6 then fz (l-(c-1)) fun i=>k i n else fz (c-6) fun i=>k i n
def dD (l n:Nat) (k:Option Nat->Nat->Nat->IC):IC:=rn n fun c n=>bif Yaj c 0 then k none n l else bif Yaj c 1 then fz (l+1) fun d=>k (some d) n d else fz (c-2) fun d=>k (some d) n (bif Nat.ble l d then d else l)
def dOs (l c n:Nat) (k:List O->Nat->IC):IC:=dL (dO l) c n k
def bins:List BinOp:=[.add,.eql,.lss,.sub,.neq,.and,.geq,.gtr,.rem,.leq,.shr,.mul,.quo,.or,.shl,.andNot,.xor]
def uns:List UnOp:=[.not,.neg,.xor,.plus]
def dK (c n:Nat) (k:K->Nat->Nat->IC):IC:=match c with
|0=>k .mov 1 n
|1=>rn n fun a n=>k (.addr a) 1 n
|2=>dM n fun a n=>dR n fun b n=>k (.ld a b) 1 n
|3=>rn n fun a n=>k (.idxS a) 2 n
|4=>rn n fun a n=>k (.bin (bins.getD a .add)) 2 n
|5=>dM n fun a n=>rn n fun b n=>k (.ldAll a b) 1 n
|6=>rn n fun a n=>dLs dR n fun b n=>rn n fun z n=>k (.call a b) z n
|7=>k .len 1 n
|8=>dM n fun a n=>rn n fun b n=>k (.stAll a b) 2 n
|9=>rn n fun a n=>k (.ext a) 1 n
|10=>k .nilchk 1 n
|11=>dM n fun a n=>rn n fun b n=>k (.ldN a b) 1 n
|12=>rn n fun a n=>rn n fun b n=>k (.idxA a b) 2 n
|13=>rn n fun a n=>k (.un (uns.getD a .not)) 1 n
|14=>rn n fun a n=>dLs dR n fun b n=>rn n fun z n=>k (.qcall a b) z n
|15=>dM n fun a n=>k (.st a) 2 n
|16=>dZ n fun a n=>dP n fun b n=>rn n fun z n=>k (.build a b) z n
|17=>rn n fun a n=>rn n fun b n=>k (.app a b) 2 n
|18=>dI n fun a n=>k (.conv a) 1 n
|19=>dM n fun a n=>rn n fun b n=>k (.stN a b) 2 n
|20=>k .boxH 1 n
|21=>rn n fun a n=>rn n fun b n=>dZ n fun c n=>dP n fun d n=>rn n fun z n=>k (.lit a b c d) z n
|22=>k .idxStr 2 n
|23=>dLs dR n fun a n=>rn n fun z n=>k (.callv a) z n
|24=>rn n fun a n=>rn n fun z n=>k (.mkfn a) z n
|25=>k .mn 2 n
|26=>k .mx 2 n
|27=>rn n fun a n=>rn n fun b n=>dZ n fun c n=>dP n fun d n=>rn n fun z n=>k (.bslice a b c d) z n
|28=>dB n fun a n=>k (.eqNil a) 2 n
|31=>dB n fun a n=>dZ n fun b n=>k (.eqA a b) 2 n
|32=>rn n fun a n=>dB n fun b n=>dB n fun c n=>rn n fun z n=>k (.slc a b c) z n
|33=>dLs dR n fun a n=>rn n fun z n=>k (.qcallv a) z n
|34=>dZ n fun a n=>rn n fun z n=>k (.allocH a) z n
|35=>rn n fun z n=>k .trap z n
|37=>rn n fun a n=>dLs dR n fun b n=>rn n fun z n=>k (.zcall a b) z n
|40=>rn n fun a n=>dZ n fun b n=>rn n fun c n=>k (.mks a b c) 2 n
|41=>k .mark 1 n
|42=>dR n fun a n=>k (.ld0 a) 1 n
|43=>rn n fun a n=>k (.copy a) 2 n
|44=>rn n fun a n=>rn n fun b n=>dB n fun c n=>dB n fun d n=>rn n fun z n=>k (.slcA a b c d) z n
|48=>rn n fun a n=>dR n fun b n=>k (.idxV a b) 2 n
|50=>k .pick 3 n
|51=>rn n fun z n=>k .slc3 z n
|52=>rn n fun a n=>k (.mkfb a) 1 n
|53=>dLs dR n fun a n=>rn n fun z n=>k (.qcallb a) z n
|_=>k .trap 0 n
def dRL (f:Nat):Nat->Nat->(RL->Nat->Nat->IC)->IC:=Nat.rec (motive:=fun _=>Nat->Nat->(RL->Nat->Nat->IC)->IC) (fun _ _ _=>.skip) (fun _ ih n l k=>rn n fun c n=>bif Yaj c 0 then k .nil n l else bif Yaq c 55 then dK (c-1) n fun kk a n=>dOs l a n fun xs n=>dD l n fun d n l=>ih n l fun r n l=>k (.op d kk xs r) n l
 else bif Yaj c 55 then rn n fun s n=>dZ n fun z n=>dD l n fun d n l=>ih n l fun r n l=>k (.al (d.getD 0) s z r) n l
 else bif Yaj c 56 then rn n fun s n=>dO l n fun x n=>dD l n fun d n l=>ih n l fun r n l=>k (.box (d.getD 0) s x r) n l
 else dT l n fun g n=>dB n fun w n=>ih n l fun b n l=>dT l n fun o n=>dB n fun e n=>dD l n fun d n l=>ih n l fun r n l=>k (.sc g w b o (d.getD 0) e r) n l) f
def dI0 (rs:List IC) (f:Nat):Nat->Nat->Nat->(IC->Nat->Nat->Nat->IC)->IC:=Nat.rec (motive:=fun _=>Nat->Nat->Nat->(IC->Nat->Nat->Nat->IC)->IC) (fun _ _ _ _=>.skip) (fun _ ih n l r k=>rn n fun c n=>match c with
 |0=>ih n l r fun a n l r=>ih n l r fun b n l r=>k (.seq a b) n l r
 |1=>dRL 9999 n l fun x n l=>k (.reg r false x) n l (Ybd r)
 |2=>dRL 9999 n l fun x n l=>k (.reg r true x) n l (Ybd r)
 |3=>dO l n fun o n=>ih n l r fun a n l r=>ih n l r fun b n l r=>k (.cond o a b) n l r
 |4=>rn n fun i n=>ih n l r fun a n l r=>k (.blk i a) n l r
 |5=>k .skip n l r
 |6=>rn n fun i n=>k (.exit i) n l r
 |7=>k .ret n l r
 |8=>dNs n fun u n=>dNs n fun v n=>dX n fun w n=>ih n l r fun a n l r=>k (.loop u v w a) n l r
 |9=>dNs n fun u n=>dNs n fun v n=>dX n fun w n=>ih n l r fun a n l r=>ih n l r fun b n l r=>k (.cut u v w a b) n l r
 |10=>rn n fun i n=>ih n l r fun a n l r=>k (.lift i a) n l r
 |11=>rn n fun i n=>dB n fun d n=>dRL 9999 n l fun x n l=>k (.reg i d x) n l (Ybd i)
 |i=>k (rs.getD (i-12) .skip) n l r) f
def Zb (n:Nat) (rs:List IC):IC:=dI0 rs 9999 n 0 0 fun x _ _ _=>x
end
section
structure Env where
 fn:Nat->Option Fn
 tab:Nat->List Cell
 ext:Zk:=fun _ _ _=>none
def Env.glob (E:Env):Glo:=Glo.std E.tab
def Zbu:Nat->Zbl
 | 0,_,_=>none
 | n+1,F,st=>(F st).bind fun p=>match p.1 with
  | .normal=>Zbu n F p.2
  | .exit i=>some (.exit i,p.2)
  | .ret=>some (.ret,p.2)
def Zdr (E:Env):Nat->Zk
 | 0=>fun _ _ _=>none
 | n+1=>fun f args h=>match E.fn f with
  | some fn=>fn.body (Zdr E n) (Zbu n) E.glob args h
  | none=>E.ext f args h
open Classical in
noncomputable def R (E:Env):Zk:=fun f args h =>
 if hx:∃r n,Zdr E n f args h=some r then some (choose hx) else none
open Classical in
noncomputable def Zx:Zbl:=fun F st =>
 if hx:∃p n,Zbu n F st=some p then some (choose hx) else none
def Le {α:Type} (x y:Option α):Prop:=∀r,x=some r->y=some r
theorem Le.refl {α:Type} (x:Option α):Le x x:=fun _ h=>h
theorem Le.bind {α β:Type} {x y:Option α} {f g:α->Option β} (h:Le x y) (hf:∀a,Le (f a) (g a)):Le (x.bind f) (y.bind g):=by
 intro r hr
 cases hx:x with
 | none=>rw [hx] at hr;exact absurd hr (by simp)
 | some a=>rw [hx] at hr;rw [h a hx];exact hf a r hr
def CLe (C C':Zk):Prop:=∀f l h,Le (C f l h) (C' f l h)
def LLe (L L':Zbl):Prop:=∀F F',(∀st,Le (F st) (F' st))->∀st,Le (L F st) (L' F' st)
def Hands {β:Type} (c:(γ:Type)->(β->Option γ)->Option γ):Prop:=(∀γ f,c γ f=none)∨∃v,∀γ f,c γ f=f v
section nat
variable {β δ:Type}
theorem Hands.none:Hands (β:=β) fun _ _=>.none:=.inl fun _ _=>rfl
theorem Hands.pure (v:β):Hands (β:=β) fun _ f=>f v:=.inr ⟨v,fun _ _=>rfl⟩
theorem Hands.bind {c:(γ:Type)->(β->Option γ)->Option γ} {d:β->(γ:Type)->(δ->Option γ)->Option γ} (hc:Hands c) (hd:∀v,Hands (d v)) :
  Hands (β:=δ) fun γ f=>c γ fun v=>d v γ f:=by
 rcases hc with hc | ⟨v,hc⟩
 ·exact .inl fun γ f=>hc γ _
 ·rcases hd v with h | ⟨u,h⟩
  ·exact .inl fun γ f=>(hc γ _).trans (h γ f)
  ·exact .inr ⟨u,fun γ f=>(hc γ _).trans (h γ f)⟩
theorem Hands.ite {p:Prop} [Decidable p] {c d:(γ:Type)->(β->Option γ)->Option γ} (hc:Hands c) (hd:Hands d) :
  Hands (β:=β) fun γ f=>if p then c γ f else d γ f:=by
 by_cases h:p
 ·simpa [h] using hc
 ·simpa [h] using hd
theorem Hands.obind {ε:Type} (o:Option ε) {c:ε->(γ:Type)->(β->Option γ)->Option γ} (hc:∀x,Hands (c x)) :
  Hands (β:=β) fun γ f=>o.bind fun x=>c x γ f:=by
 cases o with
 | none=>exact Hands.none
 | some x=>exact hc x
theorem asI_h (k:IntKind) (x:AV):Hands (β:=Int) fun _ f=>Zi k x f:=by
 unfold Zi;split
 ·exact Hands.ite (Hands.pure _) Hands.none
 ·exact Hands.none
theorem asB_h (x:AV):Hands (β:=Bool) fun _ f=>asB x f:=by
 unfold asB;split
 ·exact Hands.pure _
 ·exact Hands.none
theorem asS_h (x:AV):Hands (β:=ByteArray) fun _ f=>asS x f:=by
 unfold asS;split
 ·exact Hands.pure _
 ·exact Hands.none
theorem asC_h (x:AV):Hands (β:=Cell) fun _ f=>asC x f:=by
 unfold asC;split
 ·exact Hands.pure _
 ·exact Hands.none
theorem asA_h (x:AV):Hands (β:=List Cell) fun _ f=>asA x f:=by
 unfold asA;split
 ·exact Hands.pure _
 ·exact Hands.none
theorem Zje (r:RK) (x:AV):Hands (β:=AV) fun _ f=>rkK r x f:=by
 cases r<;>(unfold rkK;dsimp only)
 ·exact Hands.bind (asI_h _ x) fun _=>Hands.pure _
 ·exact Hands.bind (asB_h x) fun _=>Hands.pure _
 ·exact Hands.bind (asS_h x) fun _=>Hands.pure _
 ·exact Hands.bind (asC_h x) fun _=>Hands.pure _
 ·exact Hands.bind (asA_h x) fun _=>Hands.pure _
section two
variable {β':Type}
def Hands2 (c:(γ:Type)->(β->β'->Option γ)->Option γ):Prop:=(∀γ f,c γ f=.none)∨∃v u,∀γ f,c γ f=f v u
theorem Hands2.none:Hands2 (β:=β) (β':=β') fun _ _=>.none:=.inl fun _ _=>rfl
theorem Hands2.pure (v:β) (u:β'):Hands2 (β:=β) (β':=β') fun _ f=>f v u:=.inr ⟨v,u,fun _ _=>rfl⟩
theorem Hands2.ite {p:Prop} [Decidable p] {c d:(γ:Type)->(β->β'->Option γ)->Option γ} (hc:Hands2 c) (hd:Hands2 d) :
  Hands2 (β:=β) (β':=β') fun γ f=>if p then c γ f else d γ f:=by
 by_cases h:p
 ·simpa [h] using hc
 ·simpa [h] using hd
theorem Hands2.obind {ε:Type} (o:Option ε) {c:ε->(γ:Type)->(β->β'->Option γ)->Option γ} (hc:∀x,Hands2 (c x)) :
  Hands2 (β:=β) (β':=β') fun γ f=>o.bind fun x=>c x γ f:=by
 cases o with
 | none=>exact Hands2.none
 | some x=>exact hc x
theorem Hands2.bind {c:(γ:Type)->(β->β'->Option γ)->Option γ} {d:β->β'->(γ:Type)->(δ->Option γ)->Option γ} (hc:Hands2 c) (hd:∀v u,Hands (d v u)) :
  Hands (β:=δ) fun γ f=>c γ fun v u=>d v u γ f:=by
 rcases hc with hc | ⟨v,u,hc⟩
 ·exact .inl fun γ f=>hc γ _
 ·rcases hd v u with h | ⟨x,h⟩
  ·exact .inl fun γ f=>(hc γ _).trans (h γ f)
  ·exact .inr ⟨x,fun γ f=>(hc γ _).trans (h γ f)⟩
theorem Hands.bind2 {c:(γ:Type)->(δ->Option γ)->Option γ} {d:δ->(γ:Type)->(β->β'->Option γ)->Option γ} (hc:Hands c) (hd:∀v,Hands2 (d v)) :
  Hands2 (β:=β) (β':=β') fun γ f=>c γ fun v=>d v γ f:=by
 rcases hc with hc | ⟨v,hc⟩
 ·exact .inl fun γ f=>hc γ _
 ·rcases hd v with h | ⟨x,y,h⟩
  ·exact .inl fun γ f=>(hc γ _).trans (h γ f)
  ·exact .inr ⟨x,y,fun γ f=>(hc γ _).trans (h γ f)⟩
end two
theorem rdH_h (h:Za) (k N:Nat):Hands (β:=List Cell) fun _ f=>Zn h k N f :=
 Hands.obind _ fun _=>Hands.ite (Hands.pure _) Hands.none
theorem Zzc (G:Glo) (m:Mem) (x:TV) (s:Ze) (h:Za):Hands2 (β:=List Cell) (β':=Nat) fun _ f=>Zy G m x s h f:=by
 cases m with
 | slot q =>
  cases x<;>try exact Hands2.none
  exact Hands2.ite (Hands2.obind _ fun cs=>Hands2.pure _ _) Hands2.none
 | heap =>
  cases x<;>try exact Hands2.none
  rename_i y
  cases y<;>try exact Hands2.none
  rename_i c
  cases c<;>first
   | exact Hands2.none
   | exact Hands2.pure _ _
   | (unfold Zy;dsimp only;exact Hands.bind2 (rdH_h h _ _) fun _=>Hands2.pure _ _)
theorem rd0_h (h:Za) (k N:Nat):Hands (β:=List Cell) fun _ f=>rd0 h k N f :=
 Hands.obind _ fun _=>Hands.ite (rdH_h _ _ _) Hands.none
theorem rd0K_h (x:TV) (h:Za):Hands2 (β:=List Cell) (β':=Nat) fun _ f=>Zsq x h f:=by
 cases x<;>try exact Hands2.none
 rename_i y
 cases y<;>try exact Hands2.none
 rename_i c
 cases c<;>first
  | exact Hands2.none
  | (unfold Zsq;dsimp only;exact Hands.bind2 (rd0_h h _ _) fun _=>Hands2.pure _ _)
theorem putH_h (h:Za) (k:Nat) (cs:List Cell):Hands (β:=Za) fun _ f=>Zbh h k cs f :=
 Hands.obind _ fun _=>Hands.ite (Hands.pure _) Hands.none
theorem putK_h (m:Mem) (x:TV) (cs:List Cell) (s:Ze) (h:Za):Hands2 (β:=Ze) (β':=Za) fun _ f=>Zhi m x cs s h f:=by
 cases m with
 | slot q=>exact Hands2.pure _ _
 | heap =>
  cases x<;>try exact Hands2.none
  rename_i y
  cases y<;>try exact Hands2.none
  rename_i c
  cases c<;>first
   | exact Hands2.none
   | (unfold Zhi;dsimp only;exact Hands.bind2 (putH_h h _ _) fun _=>Hands2.pure _ _)
theorem Zq799 (G:Glo) (op:BinOp) (k:IntKind) (x y:Int):Hands (β:=Cell) fun _ f=>Zio G op k x y f:=by
 cases op<;>first | exact Hands.pure _ | exact Hands.ite Hands.none (Hands.pure _)
theorem Zq804 (op:BinOp) (x y:ByteArray):Hands (β:=Cell) fun _ f=>Znk op x y f:=by
 cases op<;>first | exact Hands.none | exact Hands.pure _ | exact Hands.ite (Hands.pure _) Hands.none
theorem binK_h (G:Glo) (op:BinOp) (x y:AV):Hands (β:=AV) fun _ f=>Zvw G op x y f:=by
 cases x with
 | agg l=>exact Hands.none
 | c a =>
  cases y with
  | agg l=>cases a<;>exact Hands.none
  | c b =>
   cases a<;>try exact Hands.none
   ·cases b<;>try exact Hands.none
    exact Hands.ite (Hands.bind (Zq799 _ _ _ _ _) fun _=>Hands.pure _) Hands.none
   ·cases b<;>try exact Hands.none
    (unfold Zvw;dsimp only;exact Hands.bind (Zq804 _ _ _) fun _=>Hands.pure _)
theorem unK_h (G:Glo) (op:UnOp) (x:AV):Hands (β:=AV) fun _ f=>unK G op x f:=by
 cases x with
 | agg l=>exact Hands.none
 | c a=>cases a<;>first | exact Hands.none | (cases op<;>first | exact Hands.none | exact Hands.pure _)
theorem Zpk:∀(ps:List (Nat × Nat)) (xs:List TV) (cs:List Cell),Hands (β:=List Cell) fun _ f=>Zcl ps xs cs f
 | [],[],_=>Hands.pure _
 | [],_ :: _,_=>Hands.none
 | _ :: _,[],_=>Hands.none
 | (o,n) :: ps,x :: xs,cs=>by
  cases x<;>try exact Hands.none
  exact Hands.ite (Zpk ps xs _) Hands.none
theorem Zid (lo hi:Bool) (n:Nat) (xs:List TV):Hands2 (β:=Nat) (β':=Nat) fun _ f=>Zag lo hi n xs f:=by
 unfold Zag
 split
 ·exact Hands2.pure _ _
 ·exact Hands2.ite (Hands2.pure _ _) Hands2.none
 ·exact Hands2.ite (Hands2.pure _ _) Hands2.none
 ·exact Hands2.ite (Hands2.pure _ _) Hands2.none
 ·exact Hands2.none
theorem appK_h (e b:Nat) (x:Cell) (xs:List Cell) (h:Za):Hands2 (β:=Cell) (β':=Za) fun _ f=>Zaq e b x xs h f:=by
 cases x<;>try exact Hands2.none
 ·exact Hands2.ite (Hands2.pure _ _) (Hands2.ite (Hands2.pure _ _) Hands2.none)
 ·exact Hands2.obind _ fun b=>Hands2.ite (Hands2.ite (Hands2.pure _ _) (Hands2.ite (Hands2.pure _ _) (Hands2.pure _ _))) Hands2.none
 ·exact Hands2.obind _ fun b=>Hands2.ite (Hands2.pure _ _) Hands2.none
theorem copyK_h (e:Nat) (x y:Cell) (h:Za):Hands2 (β:=Int) (β':=Za) fun _ f=>Zho e x y h f:=by
 refine Hands2.obind _ fun xs=>?_
 cases x<;>first
  | exact Hands2.none
  | exact Hands2.pure _ _
  | exact Hands2.obind _ fun b=>Hands2.ite (Hands2.pure _ _) Hands2.none
theorem addrK_h (o:Nat) (x:TV):Hands (β:=TV) fun _ f=>Zfc o x f:=by
 cases x<;>first | exact Hands.none | exact Hands.pure _ | (rename_i y;cases y<;>first | exact Hands.none | (rename_i c;cases c<;>first | exact Hands.none | exact Hands.pure _))
theorem eqNilK_h (n:Bool) (x y:Cell):Hands (β:=Bool) fun _ f=>Zcm n x y f:=by
 cases x<;>cases y<;>first | exact Hands.none | exact Hands.pure _
theorem sliceK_h (h:Za) (e:Nat) (lo hi:Bool) (x:Cell) (xs:List TV):Hands (β:=Cell) fun _ f=>Zcg h e lo hi x xs f:=by
 cases x<;>first
  | exact Hands.none
  | (unfold Zcg;dsimp only;exact Hands2.bind (Zid lo hi _ xs) fun _ _=>Hands.pure _)
  | (unfold Zcg;dsimp only;split;exact Hands2.bind (Zid lo hi _ xs) fun _ _=>Hands.pure _;exact Hands.none)
theorem Zq760 (h:Za) (n e:Nat) (lo hi:Bool) (x:Cell) (xs:List TV):Hands (β:=Cell) fun _ f=>Zbs h n e lo hi x xs f:=by
 cases x<;>first
  | exact Hands.none
  | (unfold Zbs;dsimp only;split;exact Hands2.bind (Zid lo hi _ xs) fun _ _=>Hands.pure _;exact Hands.none)
theorem Zxg (lo hi:Bool) (x:Cell) (xs:List TV):Hands (β:=ByteArray) fun _ f=>Zgp lo hi x xs f:=by
 cases x<;>first
  | exact Hands.none
  | (unfold Zgp;dsimp only;exact Hands2.bind (Zid lo hi _ xs) fun _ _=>Hands.pure _)
theorem headK_h (xs:List TV):Hands2 (β:=Cell) (β':=List TV) fun _ f=>Zcb xs f:=by
 unfold Zcb;split
 ·exact Hands2.pure _ _
 ·exact Hands2.none
theorem lenSK_h (x:Cell):Hands (β:=Int) fun _ f=>lenSK x f:=by cases x<;>first | exact Hands.none | exact Hands.pure _
theorem lenK_h (x:Cell):Hands (β:=Int) fun _ f=>Zaj x f:=by cases x<;>first | exact Hands.none | exact Hands.pure _
theorem markK_h (x:Cell) (h:Za):Hands2 (β:=Cell) (β':=Za) fun _ f=>Zmc x h f:=by
 cases x<;>first | exact Hands2.none | exact Hands2.obind _ fun _=>Hands2.ite (Hands2.pure _ _) Hands2.none
theorem k1_h (xs:List TV):Hands (β:=TV) fun _ f=>k1 xs f:=by
 unfold k1;split
 ·exact Hands.pure _
 ·exact Hands.none
theorem k2_h (xs:List TV):Hands2 (β:=TV) (β':=TV) fun _ f=>k2 xs f:=by
 unfold k2;split
 ·exact Hands2.pure _ _
 ·exact Hands2.none
theorem intK_h (x:TV):Hands2 (β:=IntKind) (β':=Int) fun _ f=>Zeq x f:=by
 unfold Zeq;split
 ·exact Hands2.pure _ _
 ·exact Hands2.none
theorem boolK_h (x:TV):Hands (β:=Bool) fun _ f=>Zue x f:=by
 unfold Zue;split
 ·exact Hands.pure _
 ·exact Hands.none
theorem aggK_h (x:TV):Hands (β:=List Cell) fun _ f=>Zjj x f:=by
 unfold Zjj;split
 ·exact Hands.pure _
 ·exact Hands.none
theorem cellK_h (x:TV):Hands (β:=Cell) fun _ f=>Zca x f:=by
 unfold Zca;split
 ·exact Hands.pure _
 ·exact Hands.none
theorem avK_h (x:TV):Hands (β:=AV) fun _ f=>avK x f:=by
 unfold avK;split
 ·exact Hands.pure _
 ·exact Hands.none
theorem strK_h (x:TV):Hands (β:=ByteArray) fun _ f=>Zvl x f:=by
 unfold Zvl;split
 ·exact Hands.pure _
 ·exact Hands.none
theorem atK_h (cs:List Cell) (i:Nat):Hands (β:=Cell) fun _ f=>Zf cs i f:=Hands.obind _ fun _=>Hands.pure _
def Hands3 {β' β'':Type} (c:(γ:Type)->(β->β'->β''->Option γ)->Option γ):Prop:=(∀γ f,c γ f=.none)∨∃v u x,∀γ f,c γ f=f v u x
theorem fnK_h (x:Cell):Hands2 (β:=Nat) (β':=List AV) fun _ f=>fnK x f:=by
 unfold fnK;split
 ·exact Hands2.pure _ _
 ·exact Hands2.none
theorem fnbK_h (x:Cell):Hands2 (β:=Nat) (β':=List (IntKind × Int)) fun _ f=>Zmp x f:=by
 unfold Zmp;split
 ·exact Hands2.pure _ _
 ·exact Hands2.none
theorem clipK_h (x:Cell) (xs:List TV):Hands (β:=Cell) fun _ f=>Zms x xs f:=by
 unfold Zms;split
 ·refine Hands.ite ?_ Hands.none
  split
  ·exact Hands.ite (Hands.pure _) Hands.none
  ·exact Hands.ite (Hands.pure _) Hands.none
  ·exact Hands.none
 ·exact Hands.none
theorem idxSK_h (e:Nat) (x:Cell) (i:Int):Hands3 (β:=Nat) (β':=Nat) (β'':=Nat) fun _ f=>Zm e x i f:=by
 unfold Zm;split
 ·split
  ·exact .inr ⟨_,_,_,fun _ _=>rfl⟩
  ·exact .inl fun _ _=>rfl
 ·exact .inl fun _ _=>rfl
theorem Hands3.bind {β' β'':Type} {c:(γ:Type)->(β->β'->β''->Option γ)->Option γ} {d:β->β'->β''->(γ:Type)->(δ->Option γ)->Option γ} (hc:Hands3 c)
  (hd:∀v u x,Hands (d v u x)):Hands (β:=δ) fun γ f=>c γ fun v u x=>d v u x γ f:=by
 rcases hc with hc | ⟨v,u,x,hc⟩
 ·exact .inl fun γ f=>hc γ _
 ·rcases hd v u x with h | ⟨y,h⟩
  ·exact .inl fun γ f=>(hc γ _).trans (h γ f)
  ·exact .inr ⟨y,fun γ f=>(hc γ _).trans (h γ f)⟩
theorem ptrK_h (x:Cell):Hands3 (β:=Nat) (β':=Nat) (β'':=Nat) fun _ f=>ptrK x f:=by
 unfold ptrK;split
 ·exact .inr ⟨_,_,_,fun _ _=>rfl⟩
 ·exact .inl fun _ _=>rfl
theorem Zq754 (x:TV):Hands (β:=TV) fun _ f=>Zgi x f:=by
 cases x<;>first
  | exact Hands.none
  | exact Hands.pure _
  | (rename_i y;cases y<;>first | exact Hands.none | (unfold Zgi;dsimp only;exact Hands3.bind (ptrK_h _) fun _ _ _=>Hands.pure _))
theorem retK_h (rs:List RK) (o:Option (List AV × Za)):Hands2 (β:=TV) (β':=Za) fun _ f=>Zci rs o f:=by
 unfold Zci
 split
 ·exact Hands2.obind o fun r=>by
   match h:r.1 with
   | []=>exact Hands2.pure _ _
   | _ :: _=>exact Hands2.none
 ·exact Hands2.obind o fun r=>by
   match h:r.1 with
   | []=>exact Hands2.none
   | [x]=>exact Hands.bind2 (Zje _ _) fun _=>Hands2.pure _ _
   | _ :: _ :: _=>exact Hands2.none
 ·exact Hands2.obind o fun r=>by
   match h:r.1 with
   | []=>exact Hands2.none
   | [x]=>exact Hands2.none
   | [x,y]=>exact Hands.bind2 (Zje _ _) fun _=>Hands.bind2 (Zje _ _) fun _=>Hands2.pure _ _
   | _ :: _ :: _ :: _=>exact Hands2.none
 ·exact Hands2.obind o fun r=>by
   match h:r.1 with
   | []=>exact Hands2.none
   | [x]=>exact Hands2.none
   | [x,y]=>exact Hands2.none
   | [x,y,z]=>exact Hands.bind2 (Zje _ _) fun _=>Hands.bind2 (Zje _ _) fun _=>Hands.bind2 (Zje _ _) fun _=>Hands2.pure _ _
   | _ :: _ :: _ :: _ :: _=>exact Hands2.none
 ·exact Hands2.obind o fun r=>by
   match h:r.1 with
   | []=>exact Hands2.none
   | [x]=>exact Hands2.none
   | [x,y]=>exact Hands2.none
   | [x,y,z]=>exact Hands2.none
   | [x,y,z,u]=>exact Hands.bind2 (Zje _ _) fun _=>Hands.bind2 (Zje _ _) fun _=>Hands.bind2 (Zje _ _) fun _=>Hands.bind2 (Zje _ _) fun _=>Hands2.pure _ _
   | _ :: _ :: _ :: _ :: _ :: _=>exact Hands2.none
 ·exact Hands2.none
theorem callK_h (C:Zk) (g:Nat) (rs:List RK) (xs:List TV) (cs:List AV) (h:Za):Hands2 (β:=TV) (β':=Za) fun _ f=>callK C g rs xs cs h f :=
 Hands2.obind _ fun _=>retK_h _ _
theorem qcallK_h (C:Zk) (g:Nat) (rs:List RK) (xs:List TV) (cs:List AV) (h:Za):Hands (β:=TV) fun _ f=>qcallK C g rs xs cs h f :=
 Hands.obind _ fun _=>Hands2.bind (retK_h _ _) fun _ _=>Hands.pure _
theorem stepK_h (C:Zk) (G:Glo) (k:K) (xs:List TV) (s:Ze) (h:Za) :
  Hands (β:=TV × Ze × Za) fun _ f=>stepK C G k xs s h fun a b c=>f (a,b,c):=by
 cases k
 case pick=>unfold stepK;dsimp only;split;exact Hands.pure _;exact Hands.none
 case allocH=>unfold stepK;dsimp only;split;exact Hands.pure _;exact Hands.none
 case ext=>unfold stepK;dsimp only;split;exact Hands.obind _ fun _=>Hands.pure _;exact Hands.none
 all_goals
  unfold stepK
  dsimp only
  repeat' first
   | refine Hands.bind (k1_h _) fun _=>?_
   | refine Hands2.bind (k2_h _) fun _ _=>?_
   | refine Hands2.bind (intK_h _) fun _ _=>?_
   | refine Hands.bind (boolK_h _) fun _=>?_
   | refine Hands.bind (aggK_h _) fun _=>?_
   | refine Hands.bind (cellK_h _) fun _=>?_
   | refine Hands.bind (avK_h _) fun _=>?_
   | refine Hands.bind (strK_h _) fun _=>?_
   | refine Hands.bind (atK_h _ _) fun _=>?_
   | refine Hands.bind (Zje _ _) fun _=>?_
   | refine Hands2.bind (Zzc _ _ _ _ _) fun _ _=>?_
   | refine Hands2.bind (rd0K_h _ _) fun _ _=>?_
   | refine Hands2.bind (putK_h _ _ _ _ _) fun _ _=>?_
   | refine Hands.bind (addrK_h _ _) fun _=>?_
   | refine Hands3.bind (idxSK_h _ _ _) fun _ _ _=>?_
   | refine Hands.bind (eqNilK_h _ _ _) fun _=>?_
   | refine Hands.bind (binK_h _ _ _ _) fun _=>?_
   | refine Hands.bind (unK_h _ _ _) fun _=>?_
   | refine Hands.bind (Zpk _ _ _) fun _=>?_
   | refine Hands2.bind (headK_h _) fun _ _=>?_
   | refine Hands.bind (sliceK_h _ _ _ _ _ _) fun _=>?_
   | refine Hands.bind (Zq760 _ _ _ _ _ _ _) fun _=>?_
   | refine Hands.bind (Zxg _ _ _ _) fun _=>?_
   | refine Hands2.bind (markK_h _ _) fun _ _=>?_
   | refine Hands.bind (lenK_h _) fun _=>?_
   | refine Hands.bind (lenSK_h _) fun _=>?_
   | refine Hands2.bind (appK_h _ _ _ _ _) fun _ _=>?_
   | refine Hands2.bind (copyK_h _ _ _ _) fun _ _=>?_
   | refine Hands2.bind (callK_h _ _ _ _ _ _) fun _ _=>?_
   | refine Hands.bind (qcallK_h _ _ _ _ _ _) fun _=>?_
   | refine Hands2.bind (fnK_h _) fun _ _=>?_
   | refine Hands2.bind (fnbK_h _) fun _ _=>?_
   | refine Hands.bind (clipK_h _ _) fun _=>?_
   | refine Hands.bind (Zq754 _) fun _=>?_
   | exact Hands.none
   | exact Hands.pure _
   | refine Hands.ite ?_ ?_
   | refine Hands.obind _ fun _=>?_
def Zat (C:Zk) (G:Glo) (k:K) (xs:List TV) (s:Ze) (h:Za):Option (TV × Ze × Za) :=
 stepK C G k xs s h fun v s h=>some (v,s,h)
theorem stepK_nat {γ:Type} (C:Zk) (G:Glo) (k:K) (xs:List TV) (s:Ze) (h:Za) (f:TV->Ze->Za->Option γ) :
  stepK C G k xs s h f=(Zat C G k xs s h).bind fun p=>f p.1 p.2.1 p.2.2:=by
 unfold Zat
 rcases stepK_h C G k xs s h with hn | ⟨v,hv⟩
 ·have h1:=hn γ fun p=>f p.1 p.2.1 p.2.2
  have h2:=hn _ fun p=>some p
  simp only at h1 h2
  rw [h1,h2];rfl
 ·have h1:=hv γ fun p=>f p.1 p.2.1 p.2.2
  have h2:=hv _ fun p=>some p
  simp only at h1 h2
  rw [h1,h2];rfl
end nat
section mono
variable {C C':Zk} {L L':Zbl} {G:Glo}
theorem retK_le {α:Type} (rs:List RK) {o o':Option (List AV × Za)} (h:Le o o') (f:TV->Za->Option α):Le (Zci rs o f) (Zci rs o' f):=by
 unfold Zci;split<;>first | exact h.bind fun _=>Le.refl _ | exact Le.refl _
theorem Zlw (hC:CLe C C') (g:Nat) (rs:List RK) (xs:List TV) (cs:List AV) (h:Za) {α:Type} (f:TV->Za->Option α) :
  Le (callK C g rs xs cs h f) (callK C' g rs xs cs h f) :=
 (Le.refl _).bind fun _=>retK_le rs (hC g _ h) f
theorem Zju (hC:CLe C C') (g:Nat) (rs:List RK) (xs:List TV) (cs:List AV) (h:Za) {α:Type} (f:TV->Option α) :
  Le (qcallK C g rs xs cs h f) (qcallK C' g rs xs cs h f) :=
 (Le.refl _).bind fun _=>retK_le rs ((hC g _ h).bind fun _=>Le.refl _) _
theorem fnK_le {α:Type} (x:Cell) (f f':Nat->List AV->Option α) (h:∀a b,Le (f a b) (f' a b)):Le (fnK x f) (fnK x f'):=by
 unfold fnK;split
 ·exact h _ _
 ·exact Le.refl _
theorem fnbK_le {α:Type} (x:Cell) (f f':Nat->List (IntKind × Int)->Option α) (h:∀a b,Le (f a b) (f' a b)):Le (Zmp x f) (Zmp x f'):=by
 unfold Zmp;split
 ·exact h _ _
 ·exact Le.refl _
theorem Zry {α:Type} (xs:List TV) (f f':Cell->List TV->Option α) (h:∀a b,Le (f a b) (f' a b)):Le (Zcb xs f) (Zcb xs f'):=by
 unfold Zcb;split
 ·exact h _ _
 ·exact Le.refl _
theorem Zrc (hC:CLe C C') (k:K) (xs:List TV) (s:Ze) (h:Za):Le (Zat C G k xs s h) (Zat C' G k xs s h):=by
 cases k
 case call g rs=>exact Zlw hC g rs xs [] h fun v h=>some (v,s,h)
 case callv rs=>exact Zry xs (fun x xs=>fnK x fun g cs=>callK C g rs xs cs h fun v h=>some (v,s,h)) (fun x xs=>fnK x fun g cs=>callK C' g rs xs cs h fun v h=>some (v,s,h)) fun _ _=>fnK_le _ _ _ fun _ _=>Zlw hC _ _ _ _ _ _
 case qcall g rs=>exact Zju hC g rs xs [] h fun v=>some (v,s,h)
 case zcall g rs=>exact Zlw (C:=fun g l h=>zh h (C g l h)) (C':=fun g l h=>zh h (C' g l h)) (fun g l h=>(hC g l h).bind fun _=>Le.refl _) g rs xs [] h fun v h=>some (v,s,h)
 case qcallv rs=>exact Zry xs (fun x xs=>fnK x fun g cs=>qcallK C g rs xs cs h fun v=>some (v,s,h)) (fun x xs=>fnK x fun g cs=>qcallK C' g rs xs cs h fun v=>some (v,s,h)) fun _ _=>fnK_le _ _ _ fun _ _=>Zju hC _ _ _ _ _ _
 case qcallb rs=>exact Zry xs (fun x xs=>Zmp x fun g l=>qcallK C g rs (.v (.agg (cellsOf l)) :: xs) [] h fun v=>some (v,s,h)) (fun x xs=>Zmp x fun g l=>qcallK C' g rs (.v (.agg (cellsOf l)) :: xs) [] h fun v=>some (v,s,h)) fun _ _=>fnbK_le _ _ _ fun _ _=>Zju hC _ _ _ _ _ _
 all_goals exact Le.refl _
theorem Zlx {α:Type} {p:Prop} [Decidable p] {x y x' y':Option α} (h1:Le x x') (h2:Le y y'):Le (if p then x else y) (if p then x' else y'):=by
 split<;>assumption
theorem Le.none {α:Type} (x:Option α):Le .none x:=fun _ h=>nomatch h
theorem Ziz (hC:CLe C C'):∀(r:RL) {α:Type} (st:St) (f f':St->Option α),(∀st,Le (f st) (f' st))->Le (Zab C G r st f) (Zab C' G r st f'):=by
 intro r
 induction r with
 | nil=>intro α st f f' h;exact h st
 | op d k xs r ih =>
  intro α st f f' h
  simp only [Zab]
  refine Zlx (Le.refl _) ?_
  rw [stepK_nat,stepK_nat]
  exact (Zrc hC _ _ _ _).bind fun p=>ih _ _ _ h
 | al d s z r ih=>intro α st f f' h;simp only [Zab];exact Zlx (ih _ _ _ h) (Le.refl _)
 | box d s x r ih =>
  intro α st f f' h
  simp only [Zab]
  split
  ·exact Zlx (ih _ _ _ h) (Le.refl _)
  ·exact Le.refl _
 | sc g w b out d e r ihb ihr =>
  intro α st f f' h
  simp only [Zab]
  split
  ·exact Le.bind (Zlx (ihb _ _ _ fun _=>Le.refl _) (Le.refl _)) fun p=>ihr _ _ _ h
  ·exact Le.refl _
theorem Zqb {α:Type} {b b':St->Option α} {f f':Ex->St->Option α} (hb:∀st,Le (b st) (b' st)) (hf:∀e st,Le (f e st) (f' e st)) (e:Ex) (st:St) :
  Le (Zae b f e st) (Zae b' f' e st):=by cases e<;>first | exact hb _ | exact hf _ _
theorem kBlk_le {α:Type} (id:Nat) {f f':Ex->St->Option α} (hf:∀e st,Le (f e st) (f' e st)) (e:Ex) (st:St) :
  Le (Zap id f e st) (Zap id f' e st):=by
 cases e<;>simp only [Zap]<;>first | exact hf _ _ | exact Zlx (hf _ _) (hf _ _)
theorem Zfe (hC:CLe C C') (hL:LLe L L'):∀(c:IC) {α:Type} (st:St) (f f':Ex->St->Option α),(∀e st,Le (f e st) (f' e st)) ->
  Le (c.exec C L G st f) (c.exec C' L' G st f'):=by
 intro c
 induction c with
 | skip=>intro α st f f' h;exact h _ _
 | reg id d r =>
  intro α st f f' h
  simp only [IC.exec]
  split
  ·exact Ziz hC _ _ _ _ fun st=>h _ _
  ·exact fun _ hx=>hx
 | seq a b iha ihb=>intro α st f f' h;exact iha _ _ _ (Zqb (fun st=>ihb _ _ _ h) h)
 | cond c x y ihx ihy =>
  intro α st f f' h
  simp only [IC.exec]
  split
  ·exact Zlx (ihx _ _ _ h) (ihy _ _ _ h)
  ·exact Le.refl _
 | blk id c ih=>intro α st f f' h;exact ih _ _ _ (kBlk_le id h)
 | loop l ls X c ih=>intro α st f f' h;exact Le.bind (hL _ _ (fun st=>ih _ _ _ fun _ _=>Le.refl _) _) fun p=>h _ _
 | cut l ls X a b iha ihb=>intro α st f f' h;exact Le.bind (iha _ _ _ fun _ _=>Le.refl _) fun p=>Zqb (fun st=>ihb _ _ _ h) h _ _
 | lift s a ih =>
  intro α st f f' h
  simp only [IC.exec]
  split
  ·exact ih _ _ _ h
  ·exact Le.refl _
 | exit i=>intro α st f f' h;exact h _ _
 | ret=>intro α st f f' h;exact h _ _
theorem Zth (hC:CLe C C') (hL:LLe L L') (fn:Fn) (args:List AV) (h:Za):Le (fn.body C L G args h) (fn.body C' L' G args h) :=
 Zlx (Zfe hC hL _ _ _ _ fun _ _=>Le.refl _) (Le.refl _)
theorem loopN_step (n:Nat) (F:St->Option (Ex × St)) (st:St):Zbu (n+1) F st=(F st).bind fun p=>match p.1 with
  | .normal=>Zbu n F p.2
  | .exit i=>some (.exit i,p.2)
  | .ret=>some (.ret,p.2):=rfl
theorem Zmt:∀n,LLe (Zbu n) (Zbu n)
 | 0=>fun _ _ _ _=>Le.refl _
 | n+1=>fun F F' h st=>by
  rw [loopN_step,loopN_step]
  refine (h st).bind fun p=>?_
  obtain ⟨e,st'⟩:=p
  cases e<;>first | exact Le.refl _ | exact Zmt n F F' h st'
theorem Zru:∀n,LLe (Zbu n) (Zbu (n+1))
 | 0=>fun _ _ _ _=>Le.none _
 | n+1=>fun F F' h st=>by
  rw [loopN_step,loopN_step]
  refine (h st).bind fun p=>?_
  obtain ⟨e,st'⟩:=p
  cases e<;>first | exact Le.refl _ | exact Zru n F F' h st'
theorem LLe.mono {n m:Nat} (h:n<=m):LLe (Zbu n) (Zbu m):=by
 induction h with
 | refl=>exact Zmt n
 | step _ ih=>exact fun F F' hF st r hr=>Zru _ F F' hF st r (ih F F (fun _=>Le.refl _) st r hr)
theorem Zsy (E:Env):∀n,CLe (Zdr E n) (Zdr E (n+1))
 | 0=>fun _ _ _=>Le.none _
 | n+1=>fun f l h=>by
  show Le (match E.fn f with | some fn=>fn.body (Zdr E n) (Zbu n) E.glob l h | none=>E.ext f l h) (match E.fn f with | some fn=>fn.body (Zdr E (n+1)) (Zbu (n+1)) E.glob l h | none=>E.ext f l h)
  split
  ·exact Zth (Zsy E n) (LLe.mono (Nat.le_succ n)) _ _ _
  ·exact Le.refl _
theorem CLe.mono (E:Env) {n m:Nat} (h:n<=m):CLe (Zdr E n) (Zdr E m):=by
 induction h with
 | refl=>exact fun _ _ _=>Le.refl _
 | step _ ih=>exact fun f l h r hr=>Zsy E _ f l h r (ih f l h r hr)
end mono
theorem Zom {E:Env} {n:Nat} {f:Nat} {l:List AV} {h:Za} {r} (hr:Zdr E n f l h=some r):R E f l h=some r:=by
 have hx:∃r n,Zdr E n f l h=some r:=⟨r,n,hr⟩
 unfold R
 rw [dif_pos hx]
 obtain ⟨m,hm⟩:=Classical.choose_spec hx
 have h1:=CLe.mono E (Yk n m) f l h r hr
 have h2:=CLe.mono E (Yi n m) f l h _ hm
 rw [h1] at h2
 exact h2.symm
theorem Zgq {E:Env} {f:Nat} {l:List AV} {h:Za} {r} (hr:R E f l h=some r):∃n,Zdr E n f l h=some r:=by
 unfold R at hr
 split at hr
 ·rename_i hx
  obtain ⟨n,hn⟩:=Classical.choose_spec hx
  cases hr
  exact ⟨n,hn⟩
 ·cases hr
theorem Zip {F:St->Option (Ex × St)} {n:Nat} {st:St} {p} (hp:Zbu n F st=some p):Zx F st=some p:=by
 have hx:∃p n,Zbu n F st=some p:=⟨p,n,hp⟩
 unfold Zx
 rw [dif_pos hx]
 obtain ⟨m,hm⟩:=Classical.choose_spec hx
 have h1:=LLe.mono (Yk n m) F F (fun _=>Le.refl _) st p hp
 have h2:=LLe.mono (Yi n m) F F (fun _=>Le.refl _) st _ hm
 rw [h1] at h2
 exact h2.symm
theorem Znc {F:St->Option (Ex × St)} {st:St} {p} (hp:Zx F st=some p):∃n,Zbu n F st=some p:=by
 unfold Zx at hp
 split at hp
 ·rename_i hx
  obtain ⟨n,hn⟩:=Classical.choose_spec hx
  cases hp
  exact ⟨n,hn⟩
 ·cases hp
theorem Zbk {F:St->Option (Ex × St)} {st st':St} {p} (h:F st=some (.normal,st')) (hp:Zx F st'=some p):Zx F st=some p:=by
 obtain ⟨n,hn⟩:=Znc hp
 refine Zip (n:=n+1) ?_
 rw [loopN_step,h]
 exact hn
theorem Zl {F:St->Option (Ex × St)} {st st':St} {i:Nat} (h:F st=some (.exit i,st')):Zx F st=some (.exit i,st') :=
 Zip (n:=1) (by rw [loopN_step,h];rfl)
theorem Zeb {F:St->Option (Ex × St)} {st st':St} (h:F st=some (.ret,st')):Zx F st=some (.ret,st') :=
 Zip (n:=1) (by rw [loopN_step,h];rfl)
section cont
variable {E:Env}
theorem Zq728 (k:K) (xs:List TV) (s:Ze) (h:Za) {r} (hr:Zat (R E) E.glob k xs s h=some r):∃n,Zat (Zdr E n) E.glob k xs s h=some r:=by
 have key:∀{γ:Type} (g:Nat) (l:List AV) (h:Za) (K:List AV × Za->Option γ) {r},(R E g l h).bind K=some r->∃n,(Zdr E n g l h).bind K=some r:=by
  intro γ g l h K r hr
  cases hq:R E g l h with
  | none=>rw [hq] at hr;cases hr
  | some q =>
   obtain ⟨n,hn⟩:=Zgq hq
   exact ⟨n,by rw [hn];rw [hq] at hr;exact hr⟩
 have ret:∀{γ:Type} (rs:List RK) (g:Nat) (l:List AV) (h:Za) (K:TV->Za->Option γ) {r},Zci rs (R E g l h) K=some r->∃n,Zci rs (Zdr E n g l h) K=some r:=by
  intro γ rs g l h K r hr
  unfold Zci at hr ⊢
  split at hr<;>first | exact key g l h _ hr | cases hr
 have key2:∀{γ:Type} (o:Option (List AV)) (rs:List RK) (g:Nat) (cs:List AV) (h:Za) (K:TV->Za->Option γ) {r},(o.bind fun l=>Zci rs (R E g (l++cs) h) K)=some r ->
   ∃n,(o.bind fun l=>Zci rs (Zdr E n g (l++cs) h) K)=some r:=by
  intro γ o rs g cs h K r hr
  cases o with
  | none=>cases hr
  | some l=>exact ret rs g _ h K hr
 have qret:∀{γ:Type} (rs:List RK) (g:Nat) (l:List AV) (h:Za) (K:TV->Za->Option γ) {r},Zci rs (qh h (R E g l h)) K=some r->∃n,Zci rs (qh h (Zdr E n g l h)) K=some r:=by
  intro γ rs g l h K r hr
  cases hq:R E g l h with
  | none=>rw [hq] at hr;unfold Zci at hr;split at hr<;>cases hr
  | some q =>
   obtain ⟨n,hn⟩:=Zgq hq
   exact ⟨n,by rw [hn];rw [hq] at hr;exact hr⟩
 have key3:∀{γ:Type} (o:Option (List AV)) (rs:List RK) (g:Nat) (cs:List AV) (h:Za) (K:TV->Za->Option γ) {r},(o.bind fun l=>Zci rs (qh h (R E g (l++cs) h)) K)=some r ->
   ∃n,(o.bind fun l=>Zci rs (qh h (Zdr E n g (l++cs) h)) K)=some r:=by
  intro γ o rs g cs h K r hr
  cases o with
  | none=>cases hr
  | some l=>exact qret rs g _ h K hr
 have zret:∀{γ:Type} (rs:List RK) (g:Nat) (l:List AV) (h:Za) (K:TV->Za->Option γ) {r},Zci rs (zh h (R E g l h)) K=some r->∃n,Zci rs (zh h (Zdr E n g l h)) K=some r:=by
  intro γ rs g l h K r hr
  cases hq:R E g l h with
  | none=>rw [hq] at hr;unfold Zci at hr;split at hr<;>cases hr
  | some q =>
   obtain ⟨n,hn⟩:=Zgq hq
   exact ⟨n,by rw [hn];rw [hq] at hr;exact hr⟩
 have key4:∀{γ:Type} (o:Option (List AV)) (rs:List RK) (g:Nat) (cs:List AV) (h:Za) (K:TV->Za->Option γ) {r},(o.bind fun l=>Zci rs (zh h (R E g (l++cs) h)) K)=some r ->
   ∃n,(o.bind fun l=>Zci rs (zh h (Zdr E n g (l++cs) h)) K)=some r:=by
  intro γ o rs g cs h K r hr
  cases o with
  | none=>cases hr
  | some l=>exact zret rs g _ h K hr
 cases k
 case zcall=>exact key4 _ _ _ _ _ _ hr
 case call=>exact key2 _ _ _ _ _ _ hr
 case qcall=>exact key3 _ _ _ _ _ _ hr
 case callv =>
  unfold Zat stepK Zcb fnK at hr ⊢
  dsimp only at hr ⊢
  split at hr
  ·split at hr
   ·exact key2 _ _ _ _ _ _ hr
   ·cases hr
  ·cases hr
 case qcallv =>
  unfold Zat stepK Zcb fnK at hr ⊢
  dsimp only at hr ⊢
  split at hr
  ·split at hr
   ·exact key3 _ _ _ _ _ _ hr
   ·cases hr
  ·cases hr
 case qcallb =>
  unfold Zat stepK Zcb Zmp at hr ⊢
  dsimp only at hr ⊢
  split at hr
  ·split at hr
   ·exact key3 _ _ _ _ _ _ hr
   ·cases hr
  ·cases hr
 all_goals exact ⟨0,hr⟩
theorem bind_some {α β:Type} {o:Option α} {f:α->Option β} {r:β} (h:o.bind f=some r):∃a,o=some a/\f a=some r:=by
 cases o with
 | none=>cases h
 | some a=>exact ⟨a,rfl,h⟩
theorem Zq731:∀(r:RL) {α:Type} (st:St) (f:St->Option α) (fN:Nat->St->Option α),(∀n m st,n<=m->Le (fN n st) (fN m st)) ->
  (∀st x,f st=some x->∃n,fN n st=some x)->∀x,Zab (R E) E.glob r st f=some x->∃n,Zab (Zdr E n) E.glob r st (fN n)=some x:=by
 intro r
 induction r with
 | nil=>intro α st f fN hm hf x hx;exact hf _ _ hx
 | op d k xs r ih =>
  intro α st f fN hm hf x hx
  simp only [Zab] at hx ⊢
  split at hx
  ·cases hx
  ·rename_i hc
   rw [stepK_nat] at hx
   obtain ⟨p,hp,hx⟩:=bind_some hx
   obtain ⟨n1,h1⟩:=Zq728 _ _ _ _ hp
   obtain ⟨n2,h2⟩:=ih _ _ _ hm hf _ hx
   refine ⟨max n1 n2,?_⟩
   rw [if_neg hc,stepK_nat,Zrc (CLe.mono E (Yk n1 n2)) _ _ _ _ _ h1]
   exact Ziz (CLe.mono E (Yi n1 n2)) _ _ _ _ (fun st=>hm _ _ st (Yi n1 n2)) _ h2
 | al d s z r ih =>
  intro α st f fN hm hf x hx
  simp only [Zab] at hx ⊢
  split at hx
  ·rename_i hc
   obtain ⟨n,hn⟩:=ih _ _ _ hm hf _ hx
   exact ⟨n,by rw [if_pos hc];exact hn⟩
  ·cases hx
 | box d s y r ih =>
  intro α st f fN hm hf x hx
  simp only [Zab] at hx ⊢
  split at hx
  ·split at hx
   ·rename_i hc
    obtain ⟨n,hn⟩:=ih _ _ _ hm hf _ hx
    exact ⟨n,by rw [if_pos hc];exact hn⟩
   ·cases hx
  ·cases hx
 | sc g w b out d e r ihb ihr =>
  intro α st f fN hm hf x hx
  simp only [Zab] at hx ⊢
  split at hx
  ·rename_i y _
   obtain ⟨p,hp,hx⟩:=bind_some hx
   obtain ⟨n2,h2⟩:=ihr _ _ _ hm hf _ hx
   by_cases hc:y=w
   ·rw [if_pos hc] at hp
    obtain ⟨n1,h1⟩:=ihb st (Ziq out) (fun _=>Ziq out) (fun _ _ _ _=>Le.refl _) (fun _ _ h=>⟨0,h⟩) p hp
    refine ⟨max n1 n2,?_⟩
    unfold scK
    rw [if_pos hc,Ziz (CLe.mono E (Yk n1 n2)) _ _ _ _ (fun _=>Le.refl _) _ h1]
    exact Ziz (CLe.mono E (Yi n1 n2)) _ _ _ _ (fun st=>hm _ _ st (Yi n1 n2)) _ h2
   ·rw [if_neg hc] at hp
    refine ⟨n2,?_⟩
    unfold scK
    rw [if_neg hc,hp]
    exact h2
  ·cases hx
theorem Zts {α:Type} {b:St->Option α} {bN:Nat->St->Option α} {f:Ex->St->Option α} {fN:Nat->Ex->St->Option α}
  (hb:∀st x,b st=some x->∃n,bN n st=some x) (hf:∀e st x,f e st=some x->∃n,fN n e st=some x) (e:Ex) (st:St) (x:α)
  (h:Zae b f e st=some x):∃n,Zae (bN n) (fN n) e st=some x:=by cases e<;>first | exact hb _ _ h | exact hf _ _ _ h
theorem Zq749:∀(c:IC) {α:Type} (st:St) (f:Ex->St->Option α) (fN:Nat->Ex->St->Option α),(∀n m e st,n<=m->Le (fN n e st) (fN m e st)) ->
  (∀e st x,f e st=some x->∃n,fN n e st=some x)->∀x,c.exec (R E) Zx E.glob st f=some x->∃n,c.exec (Zdr E n) (Zbu n) E.glob st (fN n)=some x:=by
 intro c
 induction c with
 | skip=>intro α st f fN hm hf x hx;exact hf _ _ _ hx
 | reg id d r =>
  intro α st f fN hm hf x hx
  simp only [IC.exec] at hx ⊢
  by_cases hd:Zgf d r st.t=true
  case neg=>simp [hd] at hx
  simp only [hd,if_true] at hx ⊢
  exact Zq731 r _ _ (fun n st=>fN n .normal st) (fun n m st h=>hm n m _ st h) (fun st x h=>hf _ _ _ h) _ hx
 | seq a b iha ihb =>
  intro α st f fN hm hf x hx
  refine iha _ _ (fun n=>Zae (fun st=>b.exec (Zdr E n) (Zbu n) E.glob st (fN n)) (fN n)) ?_ ?_ _ hx
  ·exact fun n m e st h=>Zqb (fun st=>Zfe (CLe.mono E h) (LLe.mono h) _ _ _ _ fun e st=>hm _ _ _ _ h) (fun e st=>hm _ _ _ _ h) _ _
  ·exact Zts (fun st x h=>ihb _ _ _ hm hf _ h) hf
 | cond c u v ihx ihy =>
  intro α st f fN hm hf x hx
  simp only [IC.exec] at hx ⊢
  split at hx
  ·rename_i b _
   cases b
   ·obtain ⟨n,hn⟩:=ihy _ _ _ hm hf _ hx;exact ⟨n,hn⟩
   ·obtain ⟨n,hn⟩:=ihx _ _ _ hm hf _ hx;exact ⟨n,hn⟩
  ·cases hx
 | blk id c ih =>
  intro α st f fN hm hf x hx
  refine ih _ _ (fun n=>Zap id (fN n)) (fun n m e st h=>kBlk_le id (fun e st=>hm _ _ _ _ h) _ _) ?_ _ hx
  intro e st x h
  cases e with
  | normal=>exact hf _ _ _ h
  | exit i =>
   simp only [Zap] at h ⊢
   by_cases hi:i=id
   ·simp only [hi,if_true] at h ⊢;exact hf _ _ _ h
   ·simp only [hi,if_false] at h ⊢;exact hf _ _ _ h
  | ret=>exact hf _ _ _ h
 | loop l ls X c ih =>
  intro α st f fN hm hf x hx
  obtain ⟨p,hp,hx⟩:=bind_some hx
  obtain ⟨n2,h2⟩:=hf _ _ _ hx
  obtain ⟨m,hl⟩:=Znc hp
  have key:∀m st p,Zbu m (Zo (fun st f=>c.exec (R E) Zx E.glob st f) l ls X) st=some p->∃n,Zbu m (Zo (fun st f=>c.exec (Zdr E n) (Zbu n) E.glob st f) l ls X) st=some p:=by
   intro m
   induction m with
   | zero=>intro st p h;cases h
   | succ m ihm =>
    intro st p h
    rw [loopN_step] at h
    obtain ⟨q,hq,h⟩:=bind_some h
    obtain ⟨n1,h1⟩:=ih _ _ (fun _=>Zaf l ls X) (fun _ _ _ _ _=>Le.refl _) (fun _ _ _ h=>⟨0,h⟩) _ hq
    obtain ⟨e,st'⟩:=q
    cases e with
    | normal =>
     obtain ⟨n2,h2⟩:=ihm _ _ h
     refine ⟨max n1 n2,?_⟩
     rw [loopN_step,show Zo _ l ls X st=_ from Zfe (CLe.mono E (Yk n1 n2)) (LLe.mono (Yk n1 n2)) _ _ _ _ (fun _ _=>Le.refl _) _ h1]
     exact Zmt m _ _ (fun st=>Zfe (CLe.mono E (Yi n1 n2)) (LLe.mono (Yi n1 n2)) _ _ _ _ fun _ _=>Le.refl _) _ _ h2
    | exit i=>exact ⟨n1,by rw [loopN_step,show Zo _ l ls X st=_ from h1];exact h⟩
    | ret=>exact ⟨n1,by rw [loopN_step,show Zo _ l ls X st=_ from h1];exact h⟩
  obtain ⟨n1,h1⟩:=key m _ _ hl
  refine ⟨max m (max n1 n2),?_⟩
  have hle1:n1<=max m (max n1 n2):=by omega
  have hle2:n2<=max m (max n1 n2):=by omega
  show Option.bind (Zbu (max m (max n1 n2)) _ _) _=_
  rw [LLe.mono (Yk m (max n1 n2)) _ (Zo (fun st f=>c.exec (Zdr E (max m (max n1 n2))) (Zbu (max m (max n1 n2))) E.glob st f) l ls X) (fun st=>Zfe (CLe.mono E hle1) (LLe.mono hle1) _ _ _ _ fun _ _=>Le.refl _) _ _ h1]
  exact hm _ _ _ _ hle2 _ h2
 | cut l ls X a b iha ihb =>
  intro α st f fN hm hf x hx
  obtain ⟨p,hp,hx⟩:=bind_some hx
  obtain ⟨n1,h1⟩:=iha _ _ (fun _=>Zaf l ls X) (fun _ _ _ _ _=>Le.refl _) (fun _ _ _ h=>⟨0,h⟩) _ hp
  obtain ⟨n2,h2⟩:=Zts (bN:=fun n st=>b.exec (Zdr E n) (Zbu n) E.glob st (fN n)) (fN:=fN) (fun st x h=>ihb _ _ _ hm hf _ h) hf _ _ _ hx
  refine ⟨max n1 n2,?_⟩
  have hle1:=Yk n1 n2
  have hle2:=Yi n1 n2
  show Option.bind _ _=_
  rw [Zfe (CLe.mono E hle1) (LLe.mono hle1) _ _ _ _ (fun _ _=>Le.refl _) _ h1]
  exact Zqb (fun st=>Zfe (CLe.mono E hle2) (LLe.mono hle2) _ _ _ _ fun e st=>hm _ _ _ _ hle2) (fun e st=>hm _ _ _ _ hle2) _ _ _ h2
 | lift s a ih =>
  intro α st f fN hm hf x hx
  simp only [IC.exec] at hx ⊢
  split at hx
  ·exact ih _ _ _ hm hf _ hx
  ·cases hx
 | exit i=>intro α st f fN hm hf x hx;exact hf _ _ _ hx
 | ret=>intro α st f fN hm hf x hx;exact hf _ _ _ hx
theorem Zd {f:Nat} {fn:Fn} {args:List AV} {h:Za} {r} (hf:E.fn f=some fn) (hr:fn.body (R E) Zx E.glob args h=some r):R E f args h=some r:=by
 unfold Fn.body at hr
 split at hr
 ·rename_i hl
  obtain ⟨n,hn⟩:=Zq749 fn.code _ _ (fun _=>fn.fin E.glob h) (fun _ _ _ _ _=>Le.refl _) (fun _ _ _ h=>⟨0,h⟩) _ hr
  refine Zom (n:=n+1) ?_
  show (match E.fn f with | some fn=>fn.body (Zdr E n) (Zbu n) E.glob args h | none=>E.ext f args h)=some r
  rw [hf]
  simp only
  unfold Fn.body
  rw [if_pos hl]
  exact hn
 ·cases hr
end cont
end
def L2 {α β:Type} (R:α->β->Prop) (xs:List α) (ys:List β):Prop:=xs.length=ys.length/\∀(i:Nat) (a:α) (b:β),xs[i]? = some a->ys[i]? = some b->R a b
section l2
variable {α β:Type} {R R':α->β->Prop}
theorem L2.nil:L2 R [] []:=⟨rfl,fun _ _ _ h=>by simp at h⟩
theorem L2.cons {a:α} {b:β} {xs:List α} {ys:List β} (h:R a b) (t:L2 R xs ys):L2 R (a :: xs) (b :: ys) :=
 ⟨by simp [t.1],fun i x y hx hy=>by
  cases i with
  | zero=>simp at hx hy;subst hx;subst hy;exact h
  | succ i=>simp at hx hy;exact t.2 i x y hx hy⟩
theorem L2.head {a:α} {b:β} {xs:List α} {ys:List β} (h:L2 R (a :: xs) (b :: ys)):R a b:=h.2 0 a b rfl rfl
theorem L2.tail {a:α} {b:β} {xs:List α} {ys:List β} (h:L2 R (a :: xs) (b :: ys)):L2 R xs ys :=
 ⟨by have:=h.1;simpa using this,fun i x y hx hy=>h.2 (i+1) x y (by simpa using hx) (by simpa using hy)⟩
theorem L2.mono {xs:List α} {ys:List β} (h:L2 R xs ys) (hr:∀a b,R a b->R' a b):L2 R' xs ys:=⟨h.1,fun i a b ha hb=>hr a b (h.2 i a b ha hb)⟩
theorem L2.nil_left {ys:List β} (h:L2 R [] ys):ys=[]:=by have:=h.1;cases ys<;>simp_all
theorem L2.cons_left {a:α} {xs:List α} {ys:List β} (h:L2 R (a :: xs) ys):∃b t,ys=b :: t/\R a b/\L2 R xs t:=by
 cases ys with
 | nil=>have:=h.1;simp at this
 | cons b t=>exact ⟨b,t,rfl,h.head,h.tail⟩
theorem L2.get {xs:List α} {ys:List β} (h:L2 R xs ys) {i:Nat} {a:α} (ha:xs[i]? = some a):∃b,ys[i]? = some b/\R a b:=by
 have hl:i<ys.length:=by rw [←h.1];exact (Yp.1 ha).1
 exact ⟨ys[i],by simp [hl],h.2 i a _ ha (by simp [hl])⟩
theorem L2.drop {xs:List α} {ys:List β} (h:L2 R xs ys) (n:Nat):L2 R (xs.drop n) (ys.drop n) :=
 ⟨by simp [h.1],fun i a b ha hb=>h.2 (n+i) a b (by simpa using ha) (by simpa using hb)⟩
theorem L2.take {xs:List α} {ys:List β} (h:L2 R xs ys) (n:Nat):L2 R (xs.take n) (ys.take n) :=
 ⟨by simp [h.1],fun i a b ha hb=>by
  rw [Yc] at ha hb
  by_cases hi:i<n
  ·simp [hi] at ha hb;exact h.2 i a b ha hb
  ·simp [hi] at ha⟩
theorem L2.append {xs xs':List α} {ys ys':List β} (h:L2 R xs ys) (h':L2 R xs' ys'):L2 R (xs++xs') (ys++ys') :=
 ⟨by simp [h.1,h'.1],fun i a b ha hb=>by
  by_cases hi:i<xs.length
  ·rw [Yb hi] at ha
   rw [Yb (by rw [←h.1];exact hi)] at hb
   exact h.2 i a b ha hb
  ·rw [Ye (by omega)] at ha
   rw [Ye (by have:=h.1;omega),←h.1] at hb
   exact h'.2 _ a b ha hb⟩
theorem L2.of_map {γ:Type} {f:γ->α} {g:γ->β} (l:List γ) (h:∀x,x∈l->R (f x) (g x)):L2 R (l.map f) (l.map g):=by
 induction l with
 | nil=>exact L2.nil
 | cons x l ih=>exact L2.cons (h x (by simp)) (ih fun y hy=>h y (by simp [hy]))
end l2
structure Seat where
 P:Program
 fn:Nat->Nat
 gl:Nat->Nat
 tab:Nat->List Cell
structure Pl where
 b:Nat
 o:Nat
 tot:Nat
abbrev Rho:=Nat->Pl
section rel
variable (S:Seat) (ρ:Rho) (h:Za)
def RefP (k N off:Nat) (v:Value):Prop :=
 k<h.length/\(∃a,v=.pointer (some a))/\∀b,blk? h k=some b->N<=b.cs.length/\(b.cs.length=N->v=.pointer (some ⟨(ρ k).b,(ρ k).o+off,none⟩))
def RefS (k N off len:Nat) (v:Value):Prop :=
 k<h.length/\∃a c,v=.slice (some a) len c/\len<=c/\∀b,blk? h k=some b->N<=b.cs.length/\(b.cs.length=N ->
  (b.esz≠0->N<=off+c*b.esz)/\((c=0/\a.block=(ρ k).b)∨(a=⟨(ρ k).b,(ρ k).o+off,none⟩/\(b.esz≠0->(ρ k).o+off+c*b.esz=(ρ k).tot))))
def RefC (k N off len:Nat) (v:Value):Prop :=
 k<h.length/\∃a,v=.slice (some a) len len/\∀b,blk? h k=some b->N<=b.cs.length/\(b.cs.length=N->a=⟨(ρ k).b,(ρ k).o+off,none⟩)
def relC:Cell->Value->Prop
 | .int k n,v=>v=.int k n
 | .bool b,v=>v=.bool b
 | .str s,v=>v=.string s
 | .nilp,v=>v=.pointer none
 | .ptr k N off,v=>RefP ρ h k N off v
 | .gptr g off,v=>v=.pointer (some ⟨S.gl g,off,none⟩)
 | .nils,v=>v=.slice none 0 0
 | .sl k N off len,v=>RefS ρ h k N off len v
 | .fn f caps,v=>∃vs:Array Value,v=.func (.func (S.fn f)) #[] vs/\L2 (fun p u=>RefP ρ h p.1 p.2.1 p.2.2 u) caps vs.toList
 | .csl k N off len,v=>RefC ρ h k N off len v
 | .fnb f l,v=>v=.func (.func (S.fn f)) #[.agg (l.map fun p=>Value.int p.1 p.2).toArray] #[]
 | .nilf,v=>v=.nilFunc
 | .nili,v=>v=.nilIface
def relA:AV->Value->Prop
 | .c x,v=>relC S ρ h x v
 | .agg cs,v=>∃us:Array Value,v=.agg us/\L2 (relC S ρ h) cs us.toList
def AtB (w:World) (p:Pl) (b:Blk):Prop :=
 ∃C e fz,w.heap[p.b]? = some (.cells C e fz)/\C.size=p.tot/\p.o+b.cs.length<=C.size /\
  (∀(i:Nat) (c:Cell),b.cs[i]? = some c->∃v,C[p.o+i]? = some v/\relC S ρ h c v)/\(b.own=true->fz=(0,0))
def Ext (h:Za) (ρ:Rho) (h':Za) (ρ':Rho):Prop :=
 h.length<=h'.length/\∀k b',k<h.length->blk? h' k=some b'->∃b,blk? h k=some b/\b.cs.length<=b'.cs.length/\b.esz=b'.esz/\(b.cs.length=b'.cs.length->ρ' k=ρ k)
structure HI (w:World):Prop where
 blks:∀k b,blk? h k=some b->AtB S ρ h w (ρ k) b
 inj:∀k b k' b',blk? h k=some b->b.own=true->blk? h k'=some b'->k≠k'->(ρ k).b≠(ρ k').b
 glo:∀(g i:Nat) (c:Cell),(S.tab g)[i]? = some c->∃v,w.cell? ⟨S.gl g,i,none⟩=some v/\relC S ρ h c v
 gno:∀g k b,S.tab g≠[]->blk? h k=some b->b.own=true->(ρ k).b≠S.gl g
 gcl:∀g c,c∈S.tab g->Zcq 0 c=true
end rel
structure Step (h:Za) (w:World) (ρ:Rho) (h':Za) (w':World) (ρ':Rho):Prop where
 ext:Ext h ρ h' ρ'
 size:w.heap.size<=w'.heap.size
 keep:∀b,b<w.heap.size->(∀k bl,blk? h k=some bl->bl.own=true->(ρ k).b≠b)->w'.heap[b]? = w.heap[b]?
 from_:∀k b,blk? h' k=some b->(∃k0 b0,blk? h k0=some b0/\(ρ k0).b=(ρ' k).b/\(b.own=true->b0.own=true))∨w.heap.size<=(ρ' k).b
 os:w'.os=w.os
 tape:w'.tape=w.tape
 output:w'.output=w.output
section lemmas
variable {S:Seat} {ρ ρ':Rho} {h h':Za}
theorem Zir {k:Nat} {b:Blk} (hb:blk? h k=some b):k<h.length:=by
 unfold blk? at hb
 cases hk:h[k]? with
 | none=>simp [hk] at hb
 | some x=>exact (Yp.1 hk).1
theorem Ext.refl (h:Za) (ρ:Rho):Ext h ρ h ρ:=⟨Yd _,fun _ b' _ hb=>⟨b',hb,Yd _,rfl,fun _=>rfl⟩⟩
theorem Ext.trans {h'':Za} {ρ'':Rho} (e:Ext h ρ h' ρ') (e':Ext h' ρ' h'' ρ''):Ext h ρ h'' ρ'':=by
 refine ⟨Yq e.1 e'.1,fun k b'' hk hb=>?_⟩
 obtain ⟨b',hb',l1,s1,r1⟩:=e'.2 k b'' (Ys hk e.1) hb
 obtain ⟨b,hb0,l0,s0,r0⟩:=e.2 k b' hk hb'
 exact ⟨b,hb0,Yq l0 l1,s0.trans s1,fun hl=>by rw [r1 (by omega),r0 (by omega)]⟩
theorem RefP.mono {k N off:Nat} {v:Value} (e:Ext h ρ h' ρ') (r:RefP ρ h k N off v):RefP ρ' h' k N off v:=by
 obtain ⟨hk,ha,hr⟩:=r
 refine ⟨Ys hk e.1,ha,fun b' hb'=>?_⟩
 obtain ⟨b,hb,hl,_,hp⟩:=e.2 k b' hk hb'
 obtain ⟨hn,hv⟩:=hr b hb
 refine ⟨Yq hn hl,fun hN=>?_⟩
 have h1:b.cs.length=N:=by omega
 rw [hp (by omega)]
 exact hv h1
theorem RefS.mono {k N off len:Nat} {v:Value} (e:Ext h ρ h' ρ') (r:RefS ρ h k N off len v):RefS ρ' h' k N off len v:=by
 obtain ⟨hk,a,c,ha,hlc,hr⟩:=r
 refine ⟨Ys hk e.1,a,c,ha,hlc,fun b' hb'=>?_⟩
 obtain ⟨b,hb,hl,hs,hp⟩:=e.2 k b' hk hb'
 obtain ⟨hn,hv⟩:=hr b hb
 refine ⟨Yq hn hl,fun hN=>?_⟩
 have h1:b.cs.length=N:=by omega
 rw [hp (by omega),←hs]
 exact hv h1
theorem RefC.mono {k N off len:Nat} {v:Value} (e:Ext h ρ h' ρ') (r:RefC ρ h k N off len v):RefC ρ' h' k N off len v:=by
 obtain ⟨hk,a,ha,hr⟩:=r
 refine ⟨Ys hk e.1,a,ha,fun b' hb'=>?_⟩
 obtain ⟨b,hb,hl,hs,hp⟩:=e.2 k b' hk hb'
 obtain ⟨hn,hv⟩:=hr b hb
 refine ⟨Yq hn hl,fun hN=>?_⟩
 have h1:b.cs.length=N:=by omega
 rw [hp (by omega)]
 exact hv h1
theorem relC.mono {c:Cell} {v:Value} (e:Ext h ρ h' ρ') (r:relC S ρ h c v):relC S ρ' h' c v:=by
 cases c with
 | ptr k N off=>exact RefP.mono e r
 | sl k N off len=>exact RefS.mono e r
 | fn f caps=>obtain ⟨vs,hv,hl⟩:=r;exact ⟨vs,hv,hl.mono fun _ _=>RefP.mono e⟩
 | csl k N off len=>exact RefC.mono e r
 | _=>exact r
theorem relA.mono {x:AV} {v:Value} (e:Ext h ρ h' ρ') (r:relA S ρ h x v):relA S ρ' h' x v:=by
 cases x with
 | c x=>exact relC.mono e r
 | agg cs=>obtain ⟨us,hv,hl⟩:=r;exact ⟨us,hv,hl.mono fun _ _=>relC.mono e⟩
theorem relC.oneCell {c:Cell} {v:Value} (r:relC S ρ h c v):v.oneCell'=true/\v.cells=#[v]:=by
 cases c<;>first
  | (cases r;exact ⟨rfl,rfl⟩)
  | (obtain ⟨_,⟨_,rfl⟩,_⟩:=r;exact ⟨rfl,rfl⟩)
  | (obtain ⟨_,_,_,rfl,_⟩:=r;exact ⟨rfl,rfl⟩)
  | (obtain ⟨_,_,rfl,_⟩:=r;exact ⟨rfl,rfl⟩)
  | (obtain ⟨_,rfl,_⟩:=r;exact ⟨rfl,rfl⟩)
theorem relA.cells {x:AV} {v:Value} (r:relA S ρ h x v):L2 (relC S ρ h) x.cells v.cells.toList:=by
 cases x with
 | c x=>rw [(relC.oneCell r).2];exact L2.cons r L2.nil
 | agg cs=>obtain ⟨us,rfl,hl⟩:=r;exact hl
theorem Step.refl (h:Za) (w:World) (ρ:Rho):Step h w ρ h w ρ :=
 ⟨Ext.refl h ρ,Yd _,fun _ _ _=>rfl,fun k b hb=>.inl ⟨k,b,hb,rfl,id⟩,rfl,rfl,rfl⟩
theorem Step.trans {w w' w'':World} {h'':Za} {ρ'':Rho} (a:Step h w ρ h' w' ρ') (b:Step h' w' ρ' h'' w'' ρ''):Step h w ρ h'' w'' ρ'' where
 ext:=a.ext.trans b.ext
 size:=Yq a.size b.size
 keep:=fun x hx ho=>by
  rw [b.keep x (Ys hx a.size),a.keep x hx ho]
  intro k bl hb hown heq
  rcases a.from_ k bl hb with ⟨k0,b0,h0,hp,ho0⟩ | hge
  ·exact ho k0 b0 h0 (ho0 hown) (hp.trans heq)
  ·omega
 from_:=fun k bl hb=>by
  rcases b.from_ k bl hb with ⟨k1,b1,h1,hp1,ho1⟩ | hge
  ·rcases a.from_ k1 b1 h1 with ⟨k0,b0,h0,hp0,ho0⟩ | hge
   ·exact .inl ⟨k0,b0,h0,hp0.trans hp1,fun ho=>ho0 (ho1 ho)⟩
   ·exact .inr (by omega)
  ·exact .inr (Yq a.size hge)
 os:=b.os.trans a.os
 tape:=b.tape.trans a.tape
 output:=b.output.trans a.output
theorem AtB.mono {w w':World} {p:Pl} {b:Blk} (e:Ext h ρ h' ρ') (r:AtB S ρ h w p b) (hw:w'.heap[p.b]? = w.heap[p.b]?):AtB S ρ' h' w' p b:=by
 obtain ⟨C,ee,fz,h1,h2,h3,h4,h5⟩:=r
 exact ⟨C,ee,fz,hw.trans h1,h2,h3,fun i c hc=>let ⟨v,hv,hr⟩:=h4 i c hc;⟨v,hv,relC.mono e hr⟩,h5⟩
theorem AtB.lt {w:World} {p:Pl} {b:Blk} (r:AtB S ρ h w p b):p.b<w.heap.size:=by
 obtain ⟨C,ee,fz,h1,_⟩:=r
 rcases Yax p.b w.heap.size with hlt | hge
 ·exact hlt
 ·rw [Yan hge] at h1;cases h1
theorem relC.const {c:Cell} {v:Value} (hc:Zcq 0 c=true) (r:relC S ρ h c v) (ρ':Rho) (h':Za):relC S ρ' h' c v:=by
 cases c with
 | ptr k N off=>simp [Zcq] at hc
 | sl k N off len=>simp [Zcq] at hc
 | csl k N off len=>simp [Zcq] at hc
 | fn f caps =>
  obtain ⟨vs,hv,hl⟩:=r
  refine ⟨vs,hv,hl.1,fun i a b ha _=>?_⟩
  have:=List.all_eq_true.1 hc a (List.mem_of_getElem? ha)
  simp at this
 | _=>exact r
end lemmas
section
variable (S:Seat)
def AtS (ρ:Rho) (h:Za) (w:World) (x:Nat) (cs:List Cell):Prop :=
 ∃C e,w.heap[x]? = some (.cells C e (0,0))/\L2 (relC S ρ h) cs C.toList
def slot? (sl:Ze) (s:Nat):Option (List Cell):=sl.getD s none
def Apart (sl:Ze) (h:Za) (ρ:Rho) (σ:Nat->Nat) (b:Nat):Prop :=
 (∀k bl,blk? h k=some bl->bl.own=true->(ρ k).b≠b)/\∀s cs,slot? sl s=some cs->σ s≠b
structure FI (B:Nat) (sl:Ze) (h:Za) (w:World) (ρ:Rho) (σ:Nat->Nat):Prop where
 hi:HI S ρ h w
 sls:∀s cs,slot? sl s=some cs->AtS S ρ h w (σ s) cs
 sinj:∀s cs s' cs',slot? sl s=some cs->slot? sl s'=some cs'->s≠s'->σ s≠σ s'
 sblk:∀s cs k b,slot? sl s=some cs->blk? h k=some b->σ s≠(ρ k).b
 sglo:∀s cs g,slot? sl s=some cs->S.tab g≠[]->σ s≠S.gl g
 sbase:∀s cs,slot? sl s=some cs->B<=σ s
def relT (ρ:Rho) (σ:Nat->Nat) (sl:Ze) (h:Za) (w:World):TV->Value->Prop
 | .v x,v=>relA S ρ h x v
 | .tup l,v=>∃us:Array Value,v=.tuple us/\L2 (relA S ρ h) l us.toList
 | .loc s off,v=>v=.pointer (some ⟨σ s,off,none⟩)
 | .lit e cs,v=>∃b n C el fz,v=.slice (some ⟨b,0,none⟩) n n/\n*e=cs.length/\w.heap[b]? = some (.cells C el fz)/\L2 (relC S ρ h) cs C.toList/\Apart sl h ρ σ b
 | .top,_=>True
end
structure Tr (sl:Ze) (h:Za) (w:World) (ρ:Rho) (σ:Nat->Nat) (sl':Ze) (h':Za) (w':World) (ρ':Rho) (σ':Nat->Nat):Prop where
 ext:Ext h ρ h' ρ'
 size:w.heap.size<=w'.heap.size
 lit:∀b,b<w.heap.size->Apart sl h ρ σ b->w'.heap[b]? = w.heap[b]?/\Apart sl' h' ρ' σ' b
section
variable {S:Seat} {B:Nat} {sl sl':Ze} {h h':Za} {w w':World} {ρ ρ':Rho} {σ σ':Nat->Nat}
theorem AtS.mono {x:Nat} {cs:List Cell} (e:Ext h ρ h' ρ') (r:AtS S ρ h w x cs) (hw:w'.heap[x]? = w.heap[x]?):AtS S ρ' h' w' x cs:=by
 obtain ⟨C,ee,h1,h2⟩:=r
 exact ⟨C,ee,hw.trans h1,h2.mono fun _ _=>relC.mono e⟩
theorem Zei {x:Nat} {o:Obj} (hx:w.heap[x]? = some o):x<w.heap.size:=by
 rcases Yax x w.heap.size with hlt | hge
 ·exact hlt
 ·rw [Yan hge] at hx;cases hx
theorem AtS.lt {x:Nat} {cs:List Cell} (r:AtS S ρ h w x cs):x<w.heap.size:=by
 obtain ⟨C,ee,h1,_⟩:=r;exact Zei h1
theorem relT.mono {tv:TV} {v:Value} (t:Tr sl h w ρ σ sl' h' w' ρ' σ') (hs:∀s off,tv=.loc s off->σ' s=σ s) (r:relT S ρ σ sl h w tv v):relT S ρ' σ' sl' h' w' tv v:=by
 cases tv with
 | v x=>exact relA.mono t.ext r
 | tup l=>obtain ⟨us,hv,hl⟩:=r;exact ⟨us,hv,hl.mono fun _ _=>relA.mono t.ext⟩
 | loc s off=>show v=_;rw [hs s off rfl];exact r
 | lit e cs =>
  obtain ⟨b,n,C,el,fz,h1,h2,h3,h4,h5⟩:=r
  obtain ⟨k1,k2⟩:=t.lit b (Zei h3) h5
  exact ⟨b,n,C,el,fz,h1,h2,k1.trans h3,h4.mono fun _ _=>relC.mono t.ext,k2⟩
 | top=>trivial
theorem Tr.refl:Tr sl h w ρ σ sl h w ρ σ:=⟨Ext.refl _ _,Yd _,fun _ _ ha=>⟨rfl,ha⟩⟩
theorem HI.glo' (hi:HI S ρ h w) (hw:∀g,S.tab g≠[]->w'.heap[S.gl g]? = w.heap[S.gl g]?) (e:Ext h ρ h' ρ') :
  ∀(g i:Nat) (c:Cell),(S.tab g)[i]? = some c->∃v,w'.cell? ⟨S.gl g,i,none⟩=some v/\relC S ρ' h' c v:=by
 intro g i c hc
 obtain ⟨v,hv,hr⟩:=hi.glo g i c hc
 refine ⟨v,?_,relC.mono e hr⟩
 have hne:S.tab g≠[]:=by intro he;rw [he] at hc;simp at hc
 unfold World.cell? at hv ⊢
 simp only at hv ⊢
 rw [hw g hne];exact hv
theorem Zxf (hi:HI S ρ h w) {g:Nat} (hg:S.tab g≠[]):S.gl g<w.heap.size:=by
 cases ht:S.tab g with
 | nil=>exact absurd ht hg
 | cons c l =>
  obtain ⟨v,hv,_⟩:=hi.glo g 0 c (by rw [ht];rfl)
  exact World.block_lt_of_cell? w ⟨S.gl g,0,none⟩ hv
theorem HI.put {k:Nat} {pl:Pl} {b':Blk} (hi:HI S ρ h w) (e:Ext h ρ h' ρ') (hnew:blk? h' k=some b') (hpl:ρ' k=pl)
  (hoth:∀j b,j≠k->blk? h' j=some b->blk? h j=some b/\ρ' j=ρ j) (hat:AtB S ρ' h' w' pl b')
  (hw:∀x,x≠pl.b->x<w.heap.size->w'.heap[x]? = w.heap[x]?)
  (hfr:(∃k0 b0,blk? h k0=some b0/\b0.own=true/\(ρ k0).b=pl.b/\∀j b,j≠k->blk? h' j=some b->j≠k0)∨w.heap.size<=pl.b):HI S ρ' h' w':=by
 have hne:∀j b,j≠k->blk? h' j=some b->(ρ j).b≠pl.b:=by
  intro j b hj hb heq
  obtain ⟨hb0,_⟩:=hoth j b hj hb
  rcases hfr with ⟨k0,b0,h0,ho0,hp0,hn0⟩ | hge
  ·exact hi.inj k0 b0 j b h0 ho0 hb0 (fun x=>hn0 j b hj hb x.symm) (hp0.trans heq.symm)
  ·have:=AtB.lt (hi.blks j b hb0);omega
 have hg:∀g,S.tab g≠[]->S.gl g≠pl.b:=by
  intro g hg heq
  rcases hfr with ⟨k0,b0,h0,ho0,hp0,_⟩ | hge
  ·exact hi.gno g k0 b0 hg h0 ho0 (hp0.trans heq.symm)
  ·have:=Zxf hi hg;omega
 refine ⟨fun j b hb=>?_,fun j b j' b2 hb hown hb2 hjj=>?_,hi.glo' (fun g hg0=>hw _ (hg g hg0) (Zxf hi hg0)) e,fun g j b hg0 hb hown=>?_,hi.gcl⟩
 ·by_cases hj:j=k
  ·subst hj;rw [hnew] at hb;cases hb;rw [hpl];exact hat
  ·obtain ⟨hb0,hr⟩:=hoth j b hj hb
   rw [hr]
   exact (hi.blks j b hb0).mono e (hw _ (hne j b hj hb) (AtB.lt (hi.blks j b hb0)))
 ·by_cases hj:j=k
  ·subst hj
   have hj':j'≠j:=fun x=>hjj x.symm
   rw [hpl,(hoth j' b2 hj' hb2).2]
   exact fun x=>hne j' b2 hj' hb2 x.symm
  ·obtain ⟨hb0,hr⟩:=hoth j b hj hb
   rw [hr]
   by_cases hj':j'=k
   ·subst hj';rw [hpl];exact hne j b hj hb
   ·obtain ⟨hb20,hr2⟩:=hoth j' b2 hj' hb2
    rw [hr2];exact hi.inj j b j' b2 hb0 hown hb20 hjj
 ·by_cases hj:j=k
  ·subst hj;rw [hpl];exact fun x=>hg g hg0 x.symm
  ·obtain ⟨hb0,hr⟩:=hoth j b hj hb
   rw [hr];exact hi.gno g j b hg0 hb0 hown
theorem Step.put {k:Nat} {pl:Pl} {b':Blk} (e:Ext h ρ h' ρ') (hnew:blk? h' k=some b') (hpl:ρ' k=pl)
  (hoth:∀j b,j≠k->blk? h' j=some b->blk? h j=some b/\ρ' j=ρ j)
  (hw:∀x,x≠pl.b->x<w.heap.size->w'.heap[x]? = w.heap[x]?)
  (hfr:(∃k0 b0,blk? h k0=some b0/\b0.own=true/\(ρ k0).b=pl.b)∨w.heap.size<=pl.b)
  (hsz:w.heap.size<=w'.heap.size) (ho:w'.os=w.os) (ht:w'.tape=w.tape) (hu:w'.output=w.output):Step h w ρ h' w' ρ' where
 ext:=e
 size:=hsz
 keep:=fun x hx hno=>hw x (by
  rintro rfl
  rcases hfr with ⟨k0,b0,h0,ho0,hp0⟩ | hge
  ·exact hno k0 b0 h0 ho0 hp0
  ·omega) hx
 from_:=fun j b hb=>by
  by_cases hj:j=k
  ·subst hj
   rw [hpl]
   rcases hfr with ⟨k0,b0,h0,ho0,hp0⟩ | hge
   ·exact .inl ⟨k0,b0,h0,hp0,fun _=>ho0⟩
   ·exact .inr hge
  ·obtain ⟨hb0,hr⟩:=hoth j b hj hb
   exact .inl ⟨j,b,hb0,by rw [hr],id⟩
 os:=ho
 tape:=ht
 output:=hu
theorem FI.step (f:FI S B sl h w ρ σ) (hi':HI S ρ' h' w') (st:Step h w ρ h' w' ρ'):FI S B sl h' w' ρ' σ/\Tr sl h w ρ σ sl h' w' ρ' σ:=by
 have hlt:∀s cs,slot? sl s=some cs->σ s<w.heap.size:=fun s cs hs=>AtS.lt (f.sls s cs hs)
 have hkeep:∀s cs,slot? sl s=some cs->w'.heap[σ s]? = w.heap[σ s]?:=fun s cs hs =>
  st.keep _ (hlt s cs hs) fun k bl hb _=>fun x=>f.sblk s cs k bl hs hb x.symm
 refine ⟨⟨hi',fun s cs hs=>(f.sls s cs hs).mono st.ext (hkeep s cs hs),f.sinj,fun s cs k b hs hb heq=>?_,f.sglo,f.sbase⟩,
  st.ext,st.size,fun b hb ha=>⟨st.keep b hb ha.1,fun k bl hk hown heq=>?_,ha.2⟩⟩
 ·rcases st.from_ k b hb with ⟨k0,b0,h0,hp,_⟩ | hge
  ·exact f.sblk s cs k0 b0 hs h0 (heq.trans hp.symm)
  ·have:=hlt s cs hs;omega
 ·rcases st.from_ k bl hk with ⟨k0,b0,h0,hp,ho⟩ | hge
  ·exact ha.1 k0 b0 h0 (ho hown) (hp.trans heq)
  ·omega
theorem Zik {s s':Nat} {cs:List Cell} (hs:s<sl.length):slot? (sl.set s (some cs)) s'=if s'=s then some cs else slot? sl s':=by
 unfold slot?
 by_cases h1:s'=s
 ·subst h1;simp [hs]
 ·have h2:s≠s':=fun x=>h1 x.symm
  simp [h1,h2]
theorem FI.putSlot {s x:Nat} {cs:List Cell} (f:FI S B sl h w ρ σ) (hs:s<sl.length) (hx:(x=σ s/\∃c,slot? sl s=some c)∨(w.heap.size<=x/\B<=x))
  (hw:∀y,y≠x->y<w.heap.size->w'.heap[y]? = w.heap[y]?) (hsz:w.heap.size<=w'.heap.size) (hat:AtS S ρ h w' x cs)
  (hσ:σ'=fun t=>if t=s then x else σ t) :
  FI S B (sl.set s (some cs)) h w' ρ σ'/\Tr sl h w ρ σ (sl.set s (some cs)) h w' ρ σ':=by
 have hbk:∀k b,blk? h k=some b->x≠(ρ k).b:=by
  intro k b hb heq
  rcases hx with ⟨rfl,c,hc⟩ | ⟨hge,_⟩
  ·exact f.sblk s c k b hc hb heq
  ·have:=AtB.lt (f.hi.blks k b hb);omega
 have hgl:∀g,S.tab g≠[]->x≠S.gl g:=by
  intro g hg heq
  rcases hx with ⟨rfl,c,hc⟩ | ⟨hge,_⟩
  ·exact f.sglo s c g hc hg heq
  ·have:=Zxf f.hi hg;omega
 have hot:∀t c,t≠s->slot? sl t=some c->x≠σ t:=by
  intro t c ht hc heq
  rcases hx with ⟨rfl,c0,hc0⟩ | ⟨hge,_⟩
  ·exact f.sinj s c0 t c hc0 hc (fun q=>ht q.symm) heq
  ·have:=AtS.lt (f.sls t c hc);omega
 have hbs:B<=x:=by
  rcases hx with ⟨rfl,c0,hc0⟩ | ⟨_,hb⟩
  ·exact f.sbase s c0 hc0
  ·exact hb
 subst hσ
 refine ⟨⟨⟨fun k b hb=>?_,f.hi.inj,f.hi.glo' (fun g hg=>hw _ (fun q=>hgl g hg q.symm) (Zxf f.hi hg)) (Ext.refl _ _),f.hi.gno,f.hi.gcl⟩,fun t c ht=>?_,fun t c t' c' ht ht' hne=>?_,fun t c k b ht hb=>?_,fun t c g ht hg=>?_,fun t c ht=>?_⟩,
  Ext.refl _ _,hsz,fun b hb ha=>⟨?_,ha.1,fun t c ht=>?_⟩⟩
 ·exact (f.hi.blks k b hb).mono (Ext.refl _ _) (hw _ (fun q=>hbk k b hb q.symm) (AtB.lt (f.hi.blks k b hb)))
 ·rw [Zik hs] at ht
  by_cases h1:t=s
  ·simp only [h1,if_true] at ht ⊢;cases ht;exact hat
  ·simp only [h1,if_false] at ht ⊢
   exact (f.sls t c ht).mono (Ext.refl _ _) (hw _ (fun q=>hot t c h1 ht q.symm) (AtS.lt (f.sls t c ht)))
 ·rw [Zik hs] at ht ht'
  by_cases h1:t=s
  ·have h2:t'≠s:=fun q=>hne (h1.trans q.symm)
   simp only [h1,h2,if_true,if_false] at ht ht' ⊢
   exact hot t' c' h2 ht'
  ·by_cases h2:t'=s
   ·simp only [h1,h2,if_true,if_false] at ht ht' ⊢
    exact fun q=>hot t c h1 ht q.symm
   ·simp only [h1,h2,if_false] at ht ht' ⊢
    exact f.sinj t c t' c' ht ht' hne
 ·rw [Zik hs] at ht
  by_cases h1:t=s
  ·simp only [h1,if_true];exact hbk k b hb
  ·simp only [h1,if_false] at ht ⊢;exact f.sblk t c k b ht hb
 ·rw [Zik hs] at ht
  by_cases h1:t=s
  ·simp only [h1,if_true];exact hgl g hg
  ·simp only [h1,if_false] at ht ⊢;exact f.sglo t c g ht hg
 ·rw [Zik hs] at ht
  by_cases h1:t=s
  ·simp only [h1,if_true];exact hbs
  ·simp only [h1,if_false] at ht ⊢;exact f.sbase t c ht
 ·refine hw b (fun q=>?_) hb
  rcases hx with ⟨rfl,c0,hc0⟩ | ⟨hge,_⟩
  ·exact ha.2 s c0 hc0 q.symm
  ·omega
 ·rw [Zik hs] at ht
  by_cases h1:t=s
  ·simp only [h1,if_true]
   rcases hx with ⟨rfl,c0,hc0⟩ | ⟨hge,_⟩
   ·exact ha.2 s c0 hc0
   ·omega
  ·simp only [h1,if_false] at ht ⊢;exact ha.2 t c ht
theorem HI.same (hi:HI S ρ h w) (hw:∀x,x<w.heap.size->w'.heap[x]? = w.heap[x]?):HI S ρ h w' :=
 ⟨fun k b hb=>(hi.blks k b hb).mono (Ext.refl _ _) (hw _ (AtB.lt (hi.blks k b hb))),hi.inj,hi.glo' (fun _ hg=>hw _ (Zxf hi hg)) (Ext.refl _ _),hi.gno,hi.gcl⟩
theorem Step.same (hw:∀x,x<w.heap.size->w'.heap[x]? = w.heap[x]?) (hsz:w.heap.size<=w'.heap.size) (ho:w'.os=w.os) (ht:w'.tape=w.tape) (hu:w'.output=w.output) :
  Step h w ρ h w' ρ:=⟨Ext.refl _ _,hsz,fun x hx _=>hw x hx,fun k b hb=>.inl ⟨k,b,hb,rfl,id⟩,ho,ht,hu⟩
theorem Zbv (w:World) (o:Obj) {x:Nat} (hx:x<w.heap.size):(w.alloc o).heap[x]? = w.heap[x]?:=by
 show (w.heap.push o)[x]? = _
 rw [Yav,if_neg (by omega)]
theorem Zbg (w:World) (o:Obj):(w.alloc o).heap[w.heap.size]? = some o:=by
 show (w.heap.push o)[w.heap.size]? = _
 rw [Yav,if_pos rfl]
theorem Zbj (h:Za) (b:Option Blk):blk? (h++[b]) h.length=b:=by simp [blk?]
theorem Zjk (h:Za) (b:Option Blk) {k:Nat} (hk:k<h.length):blk? (h++[b]) k=blk? h k:=by
 unfold blk?;rw [Yb hk]
theorem Zrf {b:Option Blk} {k:Nat} {x:Blk} (hb:blk? (h++[b]) k=some x):(k=h.length/\b=some x)∨(k<h.length/\blk? h k=some x):=by
 by_cases hk:k<h.length
 ·rw [Zjk h b hk] at hb;exact .inr ⟨hk,hb⟩
 ·have hlt:=Zir hb
  simp at hlt
  have:k=h.length:=by omega
  subst this
  rw [Zbj] at hb
  exact .inl ⟨rfl,hb⟩
theorem Ext.append (h:Za) (ρ:Rho) (b:Option Blk) (pl:Pl):Ext h ρ (h++[b]) (fun k=>if k=h.length then pl else ρ k):=by
 refine ⟨by simp,fun k b' hk hb=>?_⟩
 rw [Zjk h b hk] at hb
 exact ⟨b',hb,Yd _,rfl,fun _=>by simp [Nat.ne_of_lt hk]⟩
theorem FI.alloc (f:FI S B sl h w ρ σ) (C:Array Value) (e:TypeId) (own:Bool) (esz:Nat) (cs:List Cell) (fz:Nat × Nat) (hfz:own=true->fz=(0,0))
  (hl:cs.length<=C.size) (hr:∀(i:Nat) (c:Cell),cs[i]? = some c->∃v,C[i]? = some v/\relC S ρ h c v) (hw:∀x,x<w.heap.size->w'.heap[x]? = w.heap[x]?)
  (hn:w'.heap[w.heap.size]? = some (.cells C e fz)) (ho:w'.os=w.os) (ht:w'.tape=w.tape) (hu:w'.output=w.output) :
  ∃ρ',FI S B sl (h++[some ⟨own,esz,cs⟩]) w' ρ' σ/\Tr sl h w ρ σ sl (h++[some ⟨own,esz,cs⟩]) w' ρ' σ /\
   HI S ρ' (h++[some ⟨own,esz,cs⟩]) w'/\Step h w ρ (h++[some ⟨own,esz,cs⟩]) w' ρ'/\ρ' h.length=⟨w.heap.size,0,C.size⟩:=by
 have hsz:w.heap.size<w'.heap.size:=Zei hn
 refine ⟨fun k=>if k=h.length then ⟨w.heap.size,0,C.size⟩ else ρ k,?_⟩
 have e0:=Ext.append h ρ (some ⟨own,esz,cs⟩) ⟨w.heap.size,0,C.size⟩
 have hoth:∀j b,j≠h.length->blk? (h++[some ⟨own,esz,cs⟩]) j=some b->blk? h j=some b/\(if j=h.length then (⟨w.heap.size,0,C.size⟩:Pl) else ρ j)=ρ j:=by
  intro j b hj hb
  rcases Zrf hb with ⟨rfl,_⟩ | ⟨hk,hb⟩
  ·exact absurd rfl hj
  ·exact ⟨hb,by simp [hj]⟩
 have hi:=HI.put (S:=S) (w':=w') (k:=h.length) (pl:=⟨w.heap.size,0,C.size⟩) f.hi e0 (Zbj h _) (by simp) hoth
  ⟨C,e,fz,hn,rfl,by simpa using hl,fun i c hc=>by
   obtain ⟨v,hv,hrv⟩:=hr i c hc
   exact ⟨v,by simpa using hv,relC.mono e0 hrv⟩,hfz⟩ (fun x _ hx=>hw x hx) (.inr (Yd _))
 have st:=Step.put (w:=w) (w':=w') (k:=h.length) (pl:=⟨w.heap.size,0,C.size⟩) e0 (Zbj h _) (by simp) hoth (fun x _ hx=>hw x hx) (.inr (Yd _)) (Yal hsz) ho ht hu
 obtain ⟨f',t'⟩:=f.step hi st
 exact ⟨f',t',hi,st,by simp⟩
theorem Zfp {k j:Nat} {b:Option Blk} (hk:k<h.length):blk? (setBlk h k b) j=if j=k then b else blk? h j:=by
 unfold blk? setBlk
 rw [Yy]
 by_cases hj:k=j
 ·subst hj;simp [hk]
 ·have:j≠k:=fun x=>hj x.symm
  simp [hj,this]
theorem Zbw (h:Za) (k:Nat) (b:Option Blk):(setBlk h k b).length=h.length:=by simp [setBlk]
theorem FI.write (f:FI S B sl h w ρ σ) {k:Nat} {b:Blk} (hb:blk? h k=some b) (hown:b.own=true) (cs:List Cell) (pl:Pl)
  (hpl:pl=ρ k/\b.cs.length<=cs.length∨w.heap.size<=pl.b/\b.cs.length<cs.length)
  (hat:∀ρ' h',Ext h ρ h' ρ'->AtB S ρ' h' w' pl { b with cs:=cs }) (hw:∀x,x≠pl.b->x<w.heap.size->w'.heap[x]? = w.heap[x]?)
  (hsz:w.heap.size<=w'.heap.size) (ho:w'.os=w.os) (ht:w'.tape=w.tape) (hu:w'.output=w.output) :
  ∃ρ',FI S B sl (setBlk h k (some { b with cs:=cs })) w' ρ' σ/\Tr sl h w ρ σ sl (setBlk h k (some { b with cs:=cs })) w' ρ' σ /\
   HI S ρ' (setBlk h k (some { b with cs:=cs })) w'/\Step h w ρ (setBlk h k (some { b with cs:=cs })) w' ρ'/\ρ' k=pl:=by
 have hk:=Zir hb
 have e0:Ext h ρ (setBlk h k (some { b with cs:=cs })) (fun j=>if j=k then pl else ρ j):=by
  refine ⟨by rw [Zbw];exact Yd _,fun j b' hj hb'=>?_⟩
  rw [Zfp hk] at hb'
  by_cases hjk:j=k
  ·subst hjk
   simp only [if_true] at hb'
   cases hb'
   refine ⟨b,hb,by show b.cs.length<=cs.length;rcases hpl with ⟨_,h⟩ | ⟨_,h⟩<;>omega,rfl,fun hl=>?_⟩
   rcases hpl with ⟨h1,_⟩ | ⟨_,h2⟩
   ·simp [h1]
   ·simp at hl;omega
  ·simp only [hjk,if_false] at hb'
   exact ⟨b',hb',Yd _,rfl,fun _=>by simp [hjk]⟩
 have hnew:blk? (setBlk h k (some { b with cs:=cs })) k=some { b with cs:=cs }:=by rw [Zfp hk];simp
 have hoth:∀j b2,j≠k->blk? (setBlk h k (some { b with cs:=cs })) j=some b2->blk? h j=some b2/\(if j=k then pl else ρ j)=ρ j:=by
  intro j b2 hj hb2
  rw [Zfp hk] at hb2
  simp only [hj,if_false] at hb2 ⊢
  exact ⟨hb2,trivial⟩
 have hfr:(∃k0 b0,blk? h k0=some b0/\b0.own=true/\(ρ k0).b=pl.b/\∀j b2,j≠k->blk? (setBlk h k (some { b with cs:=cs })) j=some b2->j≠k0)∨w.heap.size<=pl.b:=by
  rcases hpl with ⟨rfl,_⟩ | ⟨h1,_⟩
  ·exact .inl ⟨k,b,hb,hown,rfl,fun j _ hj _=>hj⟩
  ·exact .inr h1
 have hi:=HI.put (S:=S) (w':=w') (k:=k) (pl:=pl) f.hi e0 hnew (by simp) hoth (hat _ _ e0) hw hfr
 have st:=Step.put (w:=w) (w':=w') (k:=k) (pl:=pl) e0 hnew (by simp) hoth hw (hfr.imp (fun ⟨k0,b0,h1,h2,h3,_⟩=>⟨k0,b0,h1,h2,h3⟩) id) hsz ho ht hu
 obtain ⟨f',t'⟩:=f.step hi st
 exact ⟨_,f',t',hi,st,by simp⟩
end
def Adv (B:Nat) (h:Za) (w:World) (ρ:Rho) (h':Za) (w':World) (ρ':Rho):Prop :=
 ∀h0 w0 ρ0,w0.heap.size<=B->Step h0 w0 ρ0 h w ρ->Step h0 w0 ρ0 h' w' ρ'
theorem Adv.of_step {B:Nat} {h h':Za} {w w':World} {ρ ρ':Rho} (s:Step h w ρ h' w' ρ'):Adv B h w ρ h' w' ρ':=fun _ _ _ _ t=>t.trans s
theorem Adv.refl {B:Nat} {h:Za} {w:World} {ρ:Rho}:Adv B h w ρ h w ρ:=fun _ _ _ _ t=>t
theorem Adv.trans {B:Nat} {h h' h'':Za} {w w' w'':World} {ρ ρ' ρ'':Rho} (a:Adv B h w ρ h' w' ρ') (b:Adv B h' w' ρ' h'' w'' ρ''):Adv B h w ρ h'' w'' ρ'' :=
 fun h0 w0 ρ0 hb t=>b h0 w0 ρ0 hb (a h0 w0 ρ0 hb t)
theorem Adv.slot {B x:Nat} {h:Za} {w w':World} {ρ:Rho} (hw:∀y,y≠x->y<w.heap.size->w'.heap[y]? = w.heap[y]?) (hx:B<=x)
  (hsz:w.heap.size<=w'.heap.size) (ho:w'.os=w.os) (ht:w'.tape=w.tape) (hu:w'.output=w.output):Adv B h w ρ h w' ρ:=by
 intro h0 w0 ρ0 hb t
 refine ⟨t.ext,Yq t.size hsz,fun b hbl hno=>?_,t.from_,ho.trans t.os,ht.trans t.tape,hu.trans t.output⟩
 have:=t.size
 rw [hw b (by omega) (by omega)]
 exact t.keep b hbl hno
def Done (S:Seat) (B:Nat) (sl:Ze) (h:Za) (w:World) (ρ:Rho) (σ:Nat->Nat) (r:Result Next) (tv:TV) (sl':Ze) (h':Za):Prop :=
 ∃v w' ρ',(r=.ok (.value v) w'∨(r=.ok .skip w'/\v=undef))/\relT S ρ' σ sl' h' w' tv v/\FI S B sl' h' w' ρ' σ/\Tr sl h w ρ σ sl' h' w' ρ' σ/\Adv B h w ρ h' w' ρ'
section
variable {S:Seat} {B:Nat} {sl sl':Ze} {h h':Za} {w w':World} {ρ:Rho} {σ:Nat->Nat}
theorem Done.pure {r:Result Next} {v:Value} {tv:TV} (f:FI S B sl h w ρ σ) (hr:r=.ok (.value v) w) (ht:relT S ρ σ sl h w tv v):Done S B sl h w ρ σ r tv sl h :=
 ⟨v,w,ρ,.inl hr,ht,f,Tr.refl,Adv.refl⟩
theorem Zfa {x:TV} {v:Value} {α:Type} {g:IntKind->Int->Option α} {y:α} (hx:relT S ρ σ sl h w x v) (hg:Zeq x g=some y):∃k n,x=.v (.c (.int k n))/\v=.int k n/\g k n=some y:=by
 unfold Zeq at hg
 split at hg
 ·exact ⟨_,_,rfl,hx,hg⟩
 ·cases hg
theorem relT_str {x:TV} {v:Value} {α:Type} {g:ByteArray->Option α} {y:α} (hx:relT S ρ σ sl h w x v) (hg:Zvl x g=some y):∃b,v=.string b/\g b=some y:=by
 unfold Zvl at hg
 split at hg
 ·exact ⟨_,hx,hg⟩
 ·cases hg
theorem Zna {x:TV} {v:Value} {α:Type} {g:List Cell->Option α} {y:α} (hx:relT S ρ σ sl h w x v) (hg:Zjj x g=some y) :
  ∃cs,∃us:Array Value,v=.agg us/\L2 (relC S ρ h) cs us.toList/\g cs=some y:=by
 unfold Zjj at hg
 split at hg
 ·obtain ⟨us,hv,hl⟩:=hx;exact ⟨_,us,hv,hl,hg⟩
 ·cases hg
theorem Zcw {x:TV} {v:Value} {α:Type} {g:Cell->Option α} {y:α} (hx:relT S ρ σ sl h w x v) (hg:Zca x g=some y):∃c,x=.v (.c c)/\relC S ρ h c v/\g c=some y:=by
 unfold Zca at hg
 split at hg
 ·exact ⟨_,rfl,hx,hg⟩
 ·cases hg
theorem Zku {x:TV} {v:Value} {α:Type} {g:AV->Option α} {y:α} (hx:relT S ρ σ sl h w x v) (hg:avK x g=some y):∃c,x=.v c/\relA S ρ h c v/\g c=some y:=by
 unfold avK at hg
 split at hg
 ·exact ⟨_,rfl,hx,hg⟩
 ·cases hg
theorem k1_inv {α:Type} {xs:List TV} {g:TV->Option α} {y:α} (hg:k1 xs g=some y):∃x,xs=[x]/\g x=some y:=by
 unfold k1 at hg;split at hg
 ·exact ⟨_,rfl,hg⟩
 ·cases hg
theorem k2_inv {α:Type} {xs:List TV} {g:TV->TV->Option α} {y:α} (hg:k2 xs g=some y):∃a b,xs=[a,b]/\g a b=some y:=by
 unfold k2 at hg;split at hg
 ·exact ⟨_,_,rfl,hg⟩
 ·cases hg
theorem Zda {α:Type} {r:RK} {x:AV} {g:AV->Option α} {y:α} (hg:rkK r x g=some y):g x=some y:=by
 unfold rkK at hg
 cases r<;>simp only at hg
 ·unfold Zi at hg;split at hg
  ·split at hg
   ·rename_i hk;subst hk;exact hg
   ·cases hg
  ·cases hg
 ·unfold asB at hg;split at hg
  ·exact hg
  ·cases hg
 ·unfold asS at hg;split at hg
  ·exact hg
  ·cases hg
 ·unfold asC at hg;split at hg
  ·exact hg
  ·cases hg
 ·unfold asA at hg;split at hg
  ·exact hg
  ·cases hg
theorem atK_inv {α:Type} {cs:List Cell} {i:Nat} {g:Cell->Option α} {y:α} (hg:Zf cs i g=some y):∃c,cs[i]? = some c/\g c=some y:=bind_some hg
theorem Zpu {α:Type} {k N:Nat} {g:List Cell->Option α} {y:α} (hg:Zn h k N g=some y):∃b,blk? h k=some b/\b.cs.length=N/\g b.cs=some y:=by
 obtain ⟨b,hb,hg⟩:=bind_some hg
 split at hg
 ·rename_i hN;exact ⟨b,hb,hN,hg⟩
 ·cases hg
theorem Zj {α:Type} {p:Prop} [Decidable p] {x:Option α} {y:α} (hg:(if p then x else none)=some y):p/\x=some y:=by
 split at hg
 ·rename_i hp;exact ⟨hp,hg⟩
 ·cases hg
theorem Zic {α:Type} {p:Prop} [Decidable p] {x:Option α} {y:α} (hg:(if p then none else x)=some y):¬p/\x=some y:=by
 split at hg
 ·cases hg
 ·rename_i hp;exact ⟨hp,hg⟩
theorem Zhz {α:Type} {m:Mem} {x:TV} {v:Value} {g:List Cell->Nat->Option α} {y:α} (f:FI S B sl h w ρ σ) (hx:relT S ρ σ sl h w x v)
  (hg:Zy (Glo.std S.tab) m x sl h g=some y) :
  ∃cs off bk base,g cs off=some y/\v=.pointer (some ⟨bk,base+off,none⟩)/\(∀(i:Nat) (c:Cell),cs[i]? = some c->∃u,w.cell? ⟨bk,base+i,none⟩=some u/\relC S ρ h c u) /\
   ((∃s,m=.slot s/\x=.loc s off/\slot? sl s=some cs/\bk=σ s/\base=0) ∨
    (m=.heap/\∃k N b,x=.v (.c (.ptr k N off))/\blk? h k=some b/\b.cs.length=N/\b.cs=cs/\bk=(ρ k).b/\base=(ρ k).o)∨(m=.heap/\∃g0,x=.v (.c (.gptr g0 off)))):=by
 unfold Zy at hg
 split at hg
 ·rename_i s s' off
  obtain ⟨rfl,hg⟩:=Zj hg
  obtain ⟨cs,hcs,hg⟩:=bind_some hg
  obtain ⟨C,e,hC,hL⟩:=f.sls s' cs hcs
  refine ⟨cs,off,σ s',0,hg,by rw [Yad];exact hx,fun i c hc=>?_,.inl ⟨s',rfl,rfl,hcs,rfl,rfl⟩⟩
  obtain ⟨u,hu,hr⟩:=hL.get hc
  exact ⟨u,by simp [World.cell?,hC];simpa using hu,hr⟩
 ·rename_i k N off
  obtain ⟨b,hb,hN,hg⟩:=Zpu hg
  obtain ⟨_,_,hp⟩:=hx
  have hv:=(hp b hb).2 hN
  obtain ⟨C,e,fz,hC,_,_,hat,_⟩:=f.hi.blks k b hb
  refine ⟨b.cs,off,(ρ k).b,(ρ k).o,hg,hv,fun i c hc=>?_,.inr (.inl ⟨rfl,k,N,b,rfl,hb,hN,rfl,rfl,rfl⟩)⟩
  obtain ⟨u,hu,hr⟩:=hat i c hc
  exact ⟨u,by simp [World.cell?,hC];exact hu,hr⟩
 ·rename_i g0 off
  refine ⟨S.tab g0,off,S.gl g0,0,hg,by rw [Yad];exact hx,fun i c hc=>?_,.inr (.inr ⟨rfl,g0,rfl⟩)⟩
  obtain ⟨u,hu,hr⟩:=f.hi.glo g0 i c hc
  exact ⟨u,by simpa using hu,hr⟩
 ·cases hg
theorem add_none (b o n:Nat):(⟨b,o,none⟩:Addr).add n=⟨b,o+n,none⟩:=by unfold Addr.add;split<;>simp_all
theorem Zlv {cs:List Cell} {bk base off n:Nat} (hc:∀(i:Nat) (c:Cell),cs[i]? = some c->∃u,w.cell? ⟨bk,base+i,none⟩=some u/\relC S ρ h c u) (hn:off+n<=cs.length) (P:Program) :
  ∃us:Array Value,(loadCells ⟨bk,base+off,none⟩ n).run P w=.ok us w/\L2 (relC S ρ h) ((cs.drop off).take n) us.toList:=by
 have key:∀n,off+n<=cs.length->∃us:List Value,us.length=n/\∀(j:Nat) (v:Value),us[j]? = some v->w.cell? ⟨bk,base+off+j,none⟩=some v/\∃c,cs[off+j]? = some c/\relC S ρ h c v:=by
  intro n
  induction n with
  | zero=>intro _;exact ⟨[],rfl,fun j v hv=>by simp at hv⟩
  | succ n ih =>
   intro hle
   obtain ⟨us,h1,h2⟩:=ih (by omega)
   obtain ⟨u,hu,hr⟩:=hc (off+n) cs[off+n] (by simp)
   refine ⟨us++[u],by simp [h1],fun j v hv=>?_⟩
   by_cases hj:j<us.length
   ·rw [Yb hj] at hv;exact h2 j v hv
   ·rw [Ye (by omega)] at hv
    have hjn:j=n:=by
     have:=(Yp.1 hv).1
     simp at this;omega
    subst hjn
    rw [h1] at hv
    simp at hv;subst hv
    exact ⟨by rw [Yu];exact hu,_,by simp,hr⟩
 obtain ⟨us,h1,h2⟩:=key n hn
 refine ⟨us.toArray,?_,by simp;omega,fun i a b ha hb=>?_⟩
 ·have:=run_loadCells_list (P:=P) w ⟨bk,base+off,none⟩ us fun j v hv=>by rw [add_none];exact (h2 j v hv).1
  rw [h1] at this
  exact this
 ·obtain ⟨_,c,hc',hr⟩:=h2 i b (by simpa using hb)
  rw [Yc] at ha
  split at ha
  ·rw [Yg] at ha
   rw [ha] at hc';cases hc';exact hr
  ·cases ha
end
section
variable {S:Seat} {B:Nat} {sl sl':Ze} {h h':Za} {w w':World} {ρ:Rho} {σ:Nat->Nat} {o:Oper} {ev:Operand->Value} {tv:TV}
abbrev G0 (S:Seat):Glo:=Glo.std S.tab
def Zhv:TypeDesc->Bool
 | .struct _ | .array _ _=>true
 | _=>false
theorem Zfi {P:Program} {t:TypeId} {d:TypeDesc} (hd:P.underlying t=some d):(isAgg t).run P w=.ok (Zhv d) w:=by
 simp only [isAgg,Sem.run_bind,run_underlying hd,Result.andThen_ok]
 cases d<;>rfl
theorem Zan {P:Program} {t:TypeId} {i:TypeInfo} (hi:P.info? t=some i):(Go.sizeOf t).run P w=.ok i.size w:=by
 simp [Go.sizeOf,typeInfo,hi]
theorem Zc {α:Type} {a b:α} (h:some a=some b):a=b:=by cases h;rfl
theorem op_move {x:Operand} {tx:TV} (hop:o.op=.move x∨o.op=.assign x) (f:FI S B sl h w ρ σ) (hx:relT S ρ σ sl h w tx (ev x)) :
  Done S B sl h w ρ σ ((execOp ev o).run S.P w) tx sl h:=by
 rcases hop with hop | hop<;>exact Done.pure f (by simp [execOp,hop]) hx
theorem op_pick {c x y:Operand} {b:Bool} {tx ty:TV} (hop:o.op=.pick c x y) (f:FI S B sl h w ρ σ) (hc:ev c=.bool b) (hx:relT S ρ σ sl h w tx (ev x)) (hy:relT S ρ σ sl h w ty (ev y)) :
  Done S B sl h w ρ σ ((execOp ev o).run S.P w) (if b then tx else ty) sl h:=by
 refine Done.pure f (v:=if b then ev x else ev y) (by simp [execOp,hop,hc,asBool]) ?_
 cases b
 ·exact hy
 ·exact hx
theorem op_ld {t:TypeId} {a:Operand} {d:TypeDesc} {m:Mem} {r:RK} {x:TV} (hop:o.op=.load t a) (hd:S.P.underlying t=some d) (hna:Zhv d=false) (f:FI S B sl h w ρ σ)
  (hx:relT S ρ σ sl h w x (ev a)) (hs:Zy (G0 S) m x sl h (fun cs off=>Zf cs off fun c=>rkK r (.c c) fun y=>some (TV.v y,sl,h))=some (tv,sl',h')) :
  Done S B sl h w ρ σ ((execOp ev o).run S.P w) tv sl' h':=by
 obtain ⟨cs,off,bk,base,hg,hv,hc,_⟩:=Zhz f hx hs
 obtain ⟨c,hc0,hg⟩:=atK_inv hg
 have hg:=Zda hg
 cases Zc hg
 obtain ⟨u,hu,hr⟩:=hc off c hc0
 exact Done.pure f (v:=u) (by simp [execOp,hop,hv,Instr.loadAt,Instr.sureAddr,loadVar,Zfi hd,hna,hu]) hr
theorem op_ldRow {t:TypeId} {a:Operand} {d:TypeDesc} {i:TypeInfo} {m:Mem} {n:Nat} {x:TV} (hop:o.op=.load t a) (hd:S.P.underlying t=some d) (hna:Zhv d=true) (hi:S.P.info? t=some i) (hn:i.size=n) (f:FI S B sl h w ρ σ)
  (hx:relT S ρ σ sl h w x (ev a)) (hs:Zy (G0 S) m x sl h (fun cs off=>if off+n<=cs.length then some (TV.v (.agg ((cs.drop off).take n)),sl,h) else none)=some (tv,sl',h')) :
  Done S B sl h w ρ σ ((execOp ev o).run S.P w) tv sl' h':=by
 obtain ⟨cs,off,bk,base,hg,hv,hc,_⟩:=Zhz f hx hs
 obtain ⟨hle,hg⟩:=Zj hg
 cases Zc hg
 obtain ⟨us,hu,hL⟩:=Zlv hc hle S.P
 subst hn
 exact Done.pure f (v:=.agg us) (by simp [execOp,hop,hv,Instr.loadAt,Instr.sureAddr,loadVar,Zfi hd,hna,Zan hi,hu]) ⟨us,rfl,hL⟩
theorem op_ldAll {t:TypeId} {a:Operand} {d:TypeDesc} {i:TypeInfo} {m:Mem} {n:Nat} {x:TV} (hop:o.op=.load t a) (hd:S.P.underlying t=some d) (hna:Zhv d=true) (hi:S.P.info? t=some i) (hn:i.size=n) (f:FI S B sl h w ρ σ)
  (hx:relT S ρ σ sl h w x (ev a)) (hs:Zy (G0 S) m x sl h (fun cs off=>if off=0/\cs.length=n then some (TV.v (.agg cs),sl,h) else none)=some (tv,sl',h')) :
  Done S B sl h w ρ σ ((execOp ev o).run S.P w) tv sl' h':=by
 obtain ⟨cs,off,bk,base,hg,hv,hc,_⟩:=Zhz f hx hs
 obtain ⟨⟨h0,hle⟩,hg⟩:=Zj hg
 cases Zc hg
 subst h0
 rw [Yr] at hv
 obtain ⟨us,hu,hL⟩:=Zlv (cs:=cs) (off:=0) (n:=n) hc (by omega) S.P
 rw [List.drop_zero,List.take_of_length_le (by omega)] at hL
 rw [Yr] at hu
 subst hn
 exact Done.pure f (v:=.agg us) (by simp [execOp,hop,hv,Instr.loadAt,Instr.sureAddr,loadVar,Zfi hd,hna,Zan hi,hu]) ⟨us,rfl,hL⟩
theorem Zq777 {x:TV} {v:Value} {n:Nat} {y:TV} (hx:relT S ρ σ sl h w x v) (hs:Zfc n x some=some y) :
  ∃b off,v=.pointer (some ⟨b,off,none⟩)/\relT S ρ σ sl h w y (.pointer (some ⟨b,off+n,none⟩))∨(∃a,v=.pointer (some a)/\relT S ρ σ sl h w y (.pointer (some (a.add n)))):=by
 unfold Zfc at hs
 split at hs
 ·cases Zc hs
  obtain ⟨hk,⟨a,ha⟩,hp⟩:=hx
  refine ⟨0,0,.inr ⟨a,ha,hk,⟨_,rfl⟩,fun b hb=>?_⟩⟩
  obtain ⟨hl,hv⟩:=hp b hb
  refine ⟨hl,fun hN=>?_⟩
  have:=hv hN
  rw [ha] at this
  cases this
  rw [add_none,Yu]
 ·cases Zc hs
  exact ⟨_,_,.inl ⟨hx,rfl⟩⟩
 ·cases Zc hs
  exact ⟨_,_,.inl ⟨hx,rfl⟩⟩
 ·cases hs
theorem Zsb {x:TV} {v:Value} {n:Nat} {y:TV} (hx:relT S ρ σ sl h w x v) (hs:Zfc n x some=some y):∃a,v=.pointer (some a)/\relT S ρ σ sl h w y (.pointer (some (a.add n))):=by
 obtain ⟨b,off,⟨hv,hr⟩ | hr⟩:=Zq777 hx hs
 ·exact ⟨_,hv,by rw [add_none];exact hr⟩
 ·exact hr
theorem Zse {α:Type} {n:Nat} {x:TV} {g:TV->Option α} {y:α} (hs:Zfc n x g=some y):∃z,Zfc n x some=some z/\g z=some y:=by
 unfold Zfc at hs ⊢
 split at hs<;>first | exact ⟨_,rfl,hs⟩ | cases hs
theorem op_addr {t:TypeId} {a:Operand} {fi:Nat} {fs:Array Field} {fd:Field} {i:TypeInfo} {n:Nat} {x:TV} (hop:o.op=.fieldAddr t a fi) (hd:S.P.underlying t=some (.struct fs)) (hf:fs[fi]? = some fd) (hn:fd.offset=n)
  (hi:S.P.info? fd.type=some i) (hz:i.size≠0) (f:FI S B sl h w ρ σ) (hx:relT S ρ σ sl h w x (ev a)) (hs:Zfc n x (fun y=>some (y,sl,h))=some (tv,sl',h')) :
  Done S B sl h w ρ σ ((execOp ev o).run S.P w) tv sl' h':=by
 obtain ⟨z,hz1,hg⟩:=Zse hs
 cases Zc hg
 obtain ⟨ad,hv,hr⟩:=Zsb hx hz1
 subst hn
 exact Done.pure f (v:=.pointer (some (ad.add fd.offset))) (by simp [execOp,hop,hv,Instr.fieldAt,run_underlying hd,hf,Instr.sureAddr,fieldPlace,Zan hi,hz]) hr
theorem op_idxA {t e:TypeId} {a b:Operand} {len esz:Nat} {i:TypeInfo} {x y:TV} (hop:o.op=.indexAddr t a b) (hd:S.P.underlying t=some (.array len e)) (hi:S.P.info? e=some i) (hn:i.size=esz) (f:FI S B sl h w ρ σ)
  (hx:relT S ρ σ sl h w x (ev a)) (hy:relT S ρ σ sl h w y (ev b)) (hs:Zeq y (fun _ n=>if 0<=n/\n<len then Zfc (n.toNat*esz) x fun z=>some (z,sl,h) else none)=some (tv,sl',h')) :
  Done S B sl h w ρ σ ((execOp ev o).run S.P w) tv sl' h':=by
 obtain ⟨k,n,_,hb,hs⟩:=Zfa hy hs
 obtain ⟨hc,hs⟩:=Zj hs
 obtain ⟨z,hz1,hg⟩:=Zse hs
 cases Zc hg
 obtain ⟨ad,hv,hr⟩:=Zsb hx hz1
 subst hn
 exact Done.pure f (v:=.pointer (some (ad.add (n.toNat*i.size)))) (by simp [execOp,hop,hv,hb,Instr.indexAt,run_underlying hd,Instr.sureAddr,asIntOf,hc,Zan hi]) hr
theorem Zq770 {α:Type} {esz:Nat} {c:Cell} {i:Int} {g:Nat->Nat->Nat->Option α} {y:α} (hs:Zm esz c i g=some y):∃k N off len,c=.sl k N off len/\0<=i/\i<len/\g k N (off+i.toNat*esz)=some y:=by
 unfold Zm at hs
 split at hs
 ·obtain ⟨⟨h1,h2⟩,hs⟩:=Zj hs
  exact ⟨_,_,_,_,rfl,h1,h2,hs⟩
 ·cases hs
theorem op_idxS {t e:TypeId} {a b:Operand} {esz:Nat} {i:TypeInfo} {x y:TV} (hop:o.op=.indexAddr t a b) (hd:S.P.underlying t=some (.slice e)) (hi:S.P.info? e=some i) (hn:i.size=esz) (f:FI S B sl h w ρ σ)
  (hx:relT S ρ σ sl h w x (ev a)) (hy:relT S ρ σ sl h w y (ev b))
  (hs:Zca x (fun c=>Zeq y fun _ n=>Zm esz c n fun k N q=>some (TV.v (.c (.ptr k N q)),sl,h))=some (tv,sl',h')) :
  Done S B sl h w ρ σ ((execOp ev o).run S.P w) tv sl' h':=by
 obtain ⟨c,_,hc,hs⟩:=Zcw hx hs
 obtain ⟨kk,n,_,hb,hs⟩:=Zfa hy hs
 obtain ⟨k,N,off,len,rfl,h0,h1,hg⟩:=Zq770 hs
 cases Zc hg
 obtain ⟨hk,ad,cp,hv,hlc,hp⟩:=hc
 subst hn
 have hcp:cp≠0:=by omega
 refine Done.pure f (v:=.pointer (some (ad.add (n.toNat*i.size)))) (by simp [execOp,hop,hv,hb,Instr.indexAt,run_underlying hd,asIntOf,h0,h1,Zan hi]) ?_
 refine ⟨hk,⟨_,rfl⟩,fun b2 hb2=>?_⟩
 obtain ⟨hl,hp⟩:=hp b2 hb2
 refine ⟨hl,fun hN=>?_⟩
 rcases (hp hN).2 with ⟨had,_⟩ | ⟨rfl,_⟩
 ·exact absurd had hcp
 ·rw [add_none,Yu]
end
section
variable {S:Seat} {B:Nat} {sl sl':Ze} {h h':Za} {w w':World} {ρ:Rho} {σ:Nat->Nat} {o:Oper} {ev:Operand->Value} {tv:TV}
theorem run_eqGuard_int {P:Program} {op:BinOp} {t:TypeId} {x y:Operand} {k k':IntKind} {a b:Int}:(eqGuard op t x y (.int k a) (.int k' b)).run P w=.ok () w:=by
 cases op<;>simp [eqGuard]
theorem run_eqGuard_str {P:Program} {op:BinOp} {t:TypeId} {x y:Operand} {a b:ByteArray}:(eqGuard op t x y (.string a) (.string b)).run P w=.ok () w:=by
 cases op<;>simp [eqGuard]
theorem Zxm {α:Type} {op:BinOp} {k k':IntKind} {a b:Int} {t:TypeId} {tab:Nat->List Cell} {g:Cell->Option α} {y:α} (hk:k'=k∨op=.shl∨op=.shr) (hs:Zio (Glo.std tab) op k a b g=some y) (P:Program) (w:World) :
  ∃c v,g c=some y/\(binOp op t (.int k a) (.int k' b)).run P w=.ok v w/\∀(S:Seat) (ρ:Rho) (h:Za),relC S ρ h c v:=by
 cases op<;>simp only [Zio] at hs
 case shl=>obtain ⟨h0,hs⟩:=Zic hs;exact ⟨_,.int k ((Glo.std tab).shl k a b),hs,by simp [binOp,Op.shift,h0,Glo.std],fun _ _ _=>rfl⟩
 case shr=>obtain ⟨h0,hs⟩:=Zic hs;exact ⟨_,.int k ((Glo.std tab).shr k a b),hs,by simp [binOp,Op.shift,h0,Glo.std],fun _ _ _=>rfl⟩
 all_goals (have hk:k'=k:=by simpa using hk)
 all_goals subst hk
 case quo=>obtain ⟨h0,hs⟩:=Zic hs;exact ⟨_,.int k' ((Glo.std tab).quo k' a b),hs,by simp [binOp,Op.intDiv,h0,Glo.std],fun _ _ _=>rfl⟩
 case rem=>obtain ⟨h0,hs⟩:=Zic hs;exact ⟨_,.int k' ((Glo.std tab).rem k' a b),hs,by simp [binOp,Op.intDiv,h0,Glo.std],fun _ _ _=>rfl⟩
 case andNot=>exact ⟨_,.int k' ((Glo.std tab).bandNot k' a b),hs,by simp only [binOp,ne_eq,not_true_eq_false,if_false,Op.intBits];rfl,fun _ _ _=>rfl⟩
 case and=>exact ⟨_,.int k' ((Glo.std tab).band k' a b),hs,by simp only [binOp,ne_eq,not_true_eq_false,if_false,Op.intBits];rfl,fun _ _ _=>rfl⟩
 case or=>exact ⟨_,.int k' ((Glo.std tab).bor k' a b),hs,by simp only [binOp,ne_eq,not_true_eq_false,if_false,Op.intBits];rfl,fun _ _ _=>rfl⟩
 case xor=>exact ⟨_,.int k' ((Glo.std tab).bxor k' a b),hs,by simp only [binOp,ne_eq,not_true_eq_false,if_false,Op.intBits];rfl,fun _ _ _=>rfl⟩
 case add=>exact ⟨_,.int k' (k'.wrap (a+b)),hs,by simp [binOp,Op.intArith],fun _ _ _=>rfl⟩
 case sub=>exact ⟨_,.int k' (k'.wrap (a - b)),hs,by simp [binOp,Op.intArith],fun _ _ _=>rfl⟩
 case mul=>exact ⟨_,.int k' (k'.wrap (a*b)),hs,by simp [binOp,Op.intArith],fun _ _ _=>rfl⟩
 case eql=>exact ⟨_,.bool (a==b),hs,by simp [binOp,Op.intCmp],fun _ _ _=>rfl⟩
 case neq=>exact ⟨_,.bool (a != b),hs,by simp [binOp,Op.intCmp],fun _ _ _=>rfl⟩
 case lss=>exact ⟨_,.bool (decide (a<b)),hs,by simp [binOp,Op.intCmp],fun _ _ _=>rfl⟩
 case leq=>exact ⟨_,.bool (decide (a<=b)),hs,by simp [binOp,Op.intCmp],fun _ _ _=>rfl⟩
 case gtr=>exact ⟨_,.bool (decide (a > b)),hs,by simp [binOp,Op.intCmp],fun _ _ _=>rfl⟩
 case geq=>exact ⟨_,.bool (decide (a>=b)),hs,by simp [binOp,Op.intCmp],fun _ _ _=>rfl⟩
theorem Zzi {α:Type} {op:BinOp} {a b:ByteArray} {t:TypeId} {g:Cell->Option α} {y:α} (hs:Znk op a b g=some y) (P:Program) (w:World) :
  ∃c v,g c=some y/\(binOp op t (.string a) (.string b)).run P w=.ok v w/\∀(S:Seat) (ρ:Rho) (h:Za),relC S ρ h c v:=by
 cases op<;>simp only [Znk] at hs
 case add =>
  obtain ⟨h0,hs⟩:=Zj hs
  have h1:¬((9223372036854775807:Int)<(a.size:Int)+(b.size:Int)):=by omega
  exact ⟨_,.string (a++b),hs,by simp [binOp,Op.stringOp,h1,show IntKind.i64.max=9223372036854775807 from rfl],fun _ _ _=>rfl⟩
 case eql=>exact ⟨_,.bool (a.toList==b.toList),hs,by simp [binOp,Op.stringOp],fun _ _ _=>rfl⟩
 case neq=>exact ⟨_,.bool (!(a.toList==b.toList)),hs,by simp [binOp,Op.stringOp],fun _ _ _=>rfl⟩
 all_goals cases hs
theorem binK_inv {α:Type} {G:Glo} {op:BinOp} {x y:AV} {g:AV->Option α} {r:α} (hs:Zvw G op x y g=some r) :
  (∃k n k' m,x=.c (.int k n)/\y=.c (.int k' m)/\(k'=k∨op=.shl∨op=.shr)/\Zio G op k n m (fun c=>g (.c c))=some r) ∨
  (∃n m,x=.c (.str n)/\y=.c (.str m)/\Znk op n m (fun c=>g (.c c))=some r):=by
 unfold Zvw at hs
 split at hs
 ·obtain ⟨hk,hs⟩:=Zj hs;exact .inl ⟨_,_,_,_,rfl,rfl,hk,hs⟩
 ·exact .inr ⟨_,_,rfl,rfl,hs⟩
 ·cases hs
theorem op_bin {op:BinOp} {t yt:TypeId} {a b:Operand} {x y:TV} (hop:o.op=.binOp op t a b yt) (f:FI S B sl h w ρ σ) (hx:relT S ρ σ sl h w x (ev a)) (hy:relT S ρ σ sl h w y (ev b))
  (hs:avK x (fun x=>avK y fun y=>Zvw (G0 S) op x y fun z=>some (TV.v z,sl,h))=some (tv,sl',h')):Done S B sl h w ρ σ ((execOp ev o).run S.P w) tv sl' h':=by
 obtain ⟨cx,rfl,rx,hs⟩:=Zku hx hs
 obtain ⟨cy,rfl,ry,hs⟩:=Zku hy hs
 rcases binK_inv hs with ⟨k,n,k',m,rfl,rfl,hk,hs2⟩ | ⟨n,m,rfl,rfl,hs2⟩
 ·have ex:ev a=.int k n:=rx
  have ey:ev b=.int k' m:=ry
  obtain ⟨c,v,hg,hr,hv⟩:=Zxm (t:=t) hk hs2 S.P w
  cases Zc hg
  exact Done.pure f (v:=v) (by simp [execOp,hop,ex,ey,run_eqGuard_int,hr]) (hv S ρ h)
 ·have ex:ev a=.string n:=rx
  have ey:ev b=.string m:=ry
  obtain ⟨c,v,hg,hr,hv⟩:=Zzi (t:=t) hs2 S.P w
  cases Zc hg
  exact Done.pure f (v:=v) (by simp [execOp,hop,ex,ey,run_eqGuard_str,hr]) (hv S ρ h)
theorem unK_inv {α:Type} {G:Glo} {op:UnOp} {x:AV} {g:AV->Option α} {r:α} (hs:unK G op x g=some r) :
  (∃k n,x=.c (.int k n)/\op=.neg/\g (.c (.int k (G.wrap k (0 - n))))=some r)∨(∃k n,x=.c (.int k n)/\op=.xor/\g (.c (.int k (G.bnot k n)))=some r) ∨
  (∃b,x=.c (.bool b)/\op=.not/\g (.c (.bool !b))=some r):=by
 unfold unK at hs
 split at hs
 ·cases op<;>simp only at hs<;>first | exact .inl ⟨_,_,rfl,rfl,hs⟩ | exact .inr (.inl ⟨_,_,rfl,rfl,hs⟩) | cases hs
 ·cases op<;>simp only at hs<;>first | exact .inr (.inr ⟨_,rfl,rfl,hs⟩) | cases hs
 ·cases hs
theorem op_un {op:UnOp} {t:TypeId} {a:Operand} {x:TV} (hop:o.op=.unOp op t a) (f:FI S B sl h w ρ σ) (hx:relT S ρ σ sl h w x (ev a))
  (hs:avK x (fun x=>unK (G0 S) op x fun z=>some (TV.v z,sl,h))=some (tv,sl',h')):Done S B sl h w ρ σ ((execOp ev o).run S.P w) tv sl' h':=by
 obtain ⟨cx,rfl,rx,hs⟩:=Zku hx hs
 rcases unK_inv hs with ⟨k,n,rfl,rfl,hs⟩ | ⟨k,n,rfl,rfl,hs⟩ | ⟨b,rfl,rfl,hs⟩
 ·have ex:ev a=.int k n:=rx
  cases Zc hs
  exact Done.pure f (v:=.int k (k.wrap (0 - n))) (by simp [execOp,hop,ex,Op.unary,Op.intArith]) rfl
 ·have ex:ev a=.int k n:=rx
  cases Zc hs
  refine Done.pure f (v:=.int k ((Glo.std S.tab).bnot k n)) ?_ rfl
  simp only [execOp,hop,ex,Op.unary,Op.intBits];rfl
 ·have ex:ev a=.bool b:=rx
  cases Zc hs
  exact Done.pure f (v:=.bool !b) (by simp [execOp,hop,ex,Op.unary]) rfl
theorem op_conv {s t:TypeId} {a:Operand} {k:IntKind} {ds:TypeDesc} {x:TV} (hop:o.op=.convert s t a) (hs0:S.P.underlying s=some ds) (hd:S.P.underlying t=some (.int k)) (f:FI S B sl h w ρ σ) (hx:relT S ρ σ sl h w x (ev a))
  (hs:Zeq x (fun _ n=>some (TV.v (.c (.int k ((G0 S).wrap k n))),sl,h))=some (tv,sl',h')):Done S B sl h w ρ σ ((execOp ev o).run S.P w) tv sl' h':=by
 obtain ⟨k0,n,_,ex,hs⟩:=Zfa hx hs
 cases Zc hs
 exact Done.pure f (v:=.int k (k.wrap n)) (by simp [execOp,hop,ex,convert,run_underlying hs0,run_underlying hd,Conv.intToInt]) rfl
theorem op_ext {i:Nat} {a:Operand} {l:List AV} (hop:o.op=.extract a i) (f:FI S B sl h w ρ σ) (hx:relT S ρ σ sl h w (.tup l) (ev a))
  (hs:(l[i]?.bind fun x=>some (TV.v x,sl,h))=some (tv,sl',h')):Done S B sl h w ρ σ ((execOp ev o).run S.P w) tv sl' h':=by
 obtain ⟨us,hv,hl⟩:=hx
 obtain ⟨x,hx,hs⟩:=bind_some hs
 cases Zc hs
 obtain ⟨u,hu,hr⟩:=hl.get hx
 have hu':us[i]? = some u:=by simpa using hu
 exact Done.pure f (v:=u) (by simp [execOp,hop,hv,Instr.extract,hu']) hr
end
section
variable {S:Seat} {B:Nat} {sl sl':Ze} {h h':Za} {w w':World} {ρ:Rho} {σ:Nat->Nat} {o:Oper} {ev:Operand->Value} {tv:TV}
theorem Zlb {P:Program} {t:TypeId} {d:TypeDesc} {cs:Array Value} {off:Nat} {v:Value} (hd:P.underlying t=some d) (hna:Zhv d=false) (hv:cs[off]? = some v):(part t cs off).run P w=.ok v w:=by
 simp [part,Zfi hd,hna,hv]
theorem Zwf {P:Program} {t:TypeId} {d:TypeDesc} {i:TypeInfo} {cs:Array Value} {off:Nat} (hd:P.underlying t=some d) (hna:Zhv d=true) (hi:P.info? t=some i):(part t cs off).run P w=.ok (.agg (cs.extract off (off+i.size))) w:=by
 simp [part,Zfi hd,hna,Zan hi]
theorem L2.extract {R:Cell->Value->Prop} {cs:List Cell} {us:Array Value} (hl:L2 R cs us.toList) (off n:Nat):L2 R ((cs.drop off).take n) (us.extract off (off+n)).toList:=by
 have:=(hl.drop off).take n
 have he:(us.extract off (off+n)).toList=(us.toList.drop off).take n:=by
  rw [Array.toList_extract,List.extract_eq_take_drop,Yam]
 rw [he];exact this
theorem op_idxV {t e:TypeId} {a b:Operand} {len:Nat} {d:TypeDesc} {i:TypeInfo} {r:RK} {x y:TV} (hop:o.op=.index t a b) (hd:S.P.underlying t=some (.array len e)) (he:S.P.underlying e=some d) (hna:Zhv d=false) (hi:S.P.info? e=some i) (hsz:i.size=1)
  (f:FI S B sl h w ρ σ) (hx:relT S ρ σ sl h w x (ev a)) (hy:relT S ρ σ sl h w y (ev b))
  (hs:Zjj x (fun cs=>Zeq y fun _ i=>if 0<=i/\i<len then Zf cs i.toNat fun c=>rkK r (.c c) fun x=>some (TV.v x,sl,h) else none)=some (tv,sl',h')):Done S B sl h w ρ σ ((execOp ev o).run S.P w) tv sl' h':=by
 obtain ⟨cs,us,hv,hl,hs⟩:=Zna hx hs
 obtain ⟨k,n,_,hb,hs⟩:=Zfa hy hs
 obtain ⟨hc,hs⟩:=Zj hs
 obtain ⟨c,hc0,hs⟩:=atK_inv hs
 have hg:=Zda hs
 cases Zc hg
 obtain ⟨u,hu,hr⟩:=hl.get hc0
 exact Done.pure f (v:=u) (by simp [execOp,hop,hv,hb,Instr.index,run_underlying hd,asIntOf,hc,Zan hi,hsz,Zlb he hna (show us[n.toNat]? = some u by simpa using hu)]) hr
theorem Zq779 {t:TypeId} {a b:Operand} {x y:TV} (hop:o.op=.index t a b) (hd:S.P.underlying t=some .string) (f:FI S B sl h w ρ σ) (hx:relT S ρ σ sl h w x (ev a)) (hy:relT S ρ σ sl h w y (ev b))
  (hs:Zvl x (fun b=>Zeq y fun _ i=>if 0<=i then b[i.toNat]?.bind fun x=>some (TV.v (.c (.int .u8 x.toNat)),sl,h) else none)=some (tv,sl',h')):Done S B sl h w ρ σ ((execOp ev o).run S.P w) tv sl' h':=by
 obtain ⟨s,hv,hs⟩:=relT_str hx hs
 obtain ⟨k,n,_,hb,hs⟩:=Zfa hy hs
 obtain ⟨h0,hs⟩:=Zj hs
 obtain ⟨c,hc,hg⟩:=bind_some hs
 cases Zc hg
 exact Done.pure f (v:=.int .u8 c.toNat) (by simp [execOp,hop,hv,hb,Instr.index,run_underlying hd,asIntOf,h0,hc]) rfl
theorem Zq768 {α:Type} {x:Cell} {g:Int->Option α} {r:α} (hs:Zaj x g=some r):(x=.nils/\g 0=some r)∨(∃k N off len,x=.sl k N off len/\g (len:Nat)=some r)∨∃k N off len,x=.csl k N off len/\g (len:Nat)=some r:=by
 unfold Zaj at hs
 split at hs
 ·exact .inl ⟨rfl,hs⟩
 ·exact .inr (.inl ⟨_,_,_,_,rfl,hs⟩)
 ·exact .inr (.inr ⟨_,_,_,_,rfl,hs⟩)
 ·cases hs
theorem op_len {t e:TypeId} {a:Operand} {at_:Array TypeId} {x:TV} (hop:o.op=.call ⟨.builtin .len,#[a],at_⟩) (hat:at_[0]? = some t) (hd:S.P.underlying t=some (.slice e)) (f:FI S B sl h w ρ σ) (hx:relT S ρ σ sl h w x (ev a))
  (hs:Zca x (fun x=>Zaj x fun n=>some (TV.v (.c (.int .i64 n)),sl,h))=some (tv,sl',h')):Done S B sl h w ρ σ ((execOp ev o).run S.P w) tv sl' h':=by
 obtain ⟨c,rfl,rx,hs⟩:=Zcw hx hs
 rcases Zq768 hs with ⟨rfl,hs⟩ | ⟨k,N,off,len,rfl,hs⟩ | ⟨k,N,off,len,rfl,hs⟩
 ·cases Zc hs
  have ex:ev a=.slice none 0 0:=rx
  exact Done.pure f (v:=goInt 0) (by simp [execOp,hop,resolve,invoke,builtin,Builtin.len_,hat,ex,run_underlying hd]) rfl
 ·cases Zc hs
  obtain ⟨_,ad,cp,ex,_⟩:=rx
  exact Done.pure f (v:=goInt len) (by simp [execOp,hop,resolve,invoke,builtin,Builtin.len_,hat,ex,run_underlying hd]) rfl
 ·cases Zc hs
  obtain ⟨_,ad,ex,_⟩:=rx
  exact Done.pure f (v:=goInt len) (by simp [execOp,hop,resolve,invoke,builtin,Builtin.len_,hat,ex,run_underlying hd]) rfl
theorem op_mnmx {mx:Bool} {a b:Operand} {at_:Array TypeId} {x y:TV} (hop:o.op=.call ⟨.builtin (if mx then .max else .min),#[a,b],at_⟩) (f:FI S B sl h w ρ σ) (hx:relT S ρ σ sl h w x (ev a)) (hy:relT S ρ σ sl h w y (ev b))
  (hs:Zeq x (fun k x=>Zeq y fun _ y=>some (TV.v (.c (.int k (if mx then (if y > x then y else x) else (if y<x then y else x)))),sl,h))=some (tv,sl',h')):Done S B sl h w ρ σ ((execOp ev o).run S.P w) tv sl' h':=by
 obtain ⟨k,n,_,ex,hs⟩:=Zfa hx hs
 obtain ⟨k',m,_,ey,hs⟩:=Zfa hy hs
 cases Zc hs
 cases mx
 ·exact Done.pure f (v:=.int k (if m<n then m else n)) (by simp [execOp,hop,resolve,invoke,builtin,Builtin.min_,Builtin.min2,ex,ey]) rfl
 ·exact Done.pure f (v:=.int k (if m > n then m else n)) (by simp [execOp,hop,resolve,invoke,builtin,Builtin.max_,Builtin.max2,ex,ey]) rfl
theorem Zyf {α:Type} {x:TV} {g:TV->Option α} {r:α} (hs:Zgi x g=some r):(∃k N off,x=.v (.c (.ptr k N off))/\g x=some r)∨∃q off,x=.loc q off/\g x=some r:=by
 unfold Zgi at hs
 split at hs
 ·unfold ptrK at hs
  split at hs
  ·exact .inl ⟨_,_,_,rfl,hs⟩
  ·cases hs
 ·exact .inr ⟨_,_,rfl,hs⟩
 ·cases hs
theorem Zq784 {a:Operand} {x:TV} (hop:o.op=.nilCheck a) (f:FI S B sl h w ρ σ) (hx:relT S ρ σ sl h w x (ev a)) (hs:Zgi x (fun x=>some (x,sl,h))=some (tv,sl',h')):Done S B sl h w ρ σ ((execOp ev o).run S.P w) tv sl' h':=by
 rcases Zyf hs with ⟨k,N,off,rfl,hs⟩ | ⟨q,off,rfl,hs⟩
 ·cases Zc hs
  obtain ⟨_,⟨ad,ha⟩,_⟩:=id hx
  exact Done.pure f (v:=ev a) (by simp [execOp,hop,ha]) hx
 ·cases Zc hs
  have ha:ev a=_:=hx
  exact Done.pure f (v:=ev a) (by simp [execOp,hop,ha]) hx
theorem Zq713 {α:Type} {n:Nat} {xs:List TV} {g:Nat->Nat->Option α} {y:α} (hs:Zag false false n xs g=some y):g 0 n=some y:=by
 cases xs with
 | nil=>exact hs
 | cons x t=>simp [Zag] at hs
theorem Zq717 {α:Type} {n:Nat} {xs:List TV} {g:Nat->Nat->Option α} {y:α} (hs:Zag true false n xs g=some y):∃k l,xs=[.v (.c (.int k l))]/\0<=l/\l<=n/\g l.toNat n=some y:=by
 unfold Zag at hs
 split at hs<;>try contradiction
 obtain ⟨⟨h0,h1⟩,hs⟩:=Zj hs
 exact ⟨_,_,rfl,h0,h1,hs⟩
theorem Zq730 {α:Type} {n:Nat} {xs:List TV} {g:Nat->Nat->Option α} {y:α} (hs:Zag false true n xs g=some y):∃k l,xs=[.v (.c (.int k l))]/\0<=l/\l<=n/\g 0 l.toNat=some y:=by
 unfold Zag at hs
 split at hs<;>try contradiction
 obtain ⟨⟨h0,h1⟩,hs⟩:=Zj hs
 exact ⟨_,_,rfl,h0,h1,hs⟩
theorem Zq727 {α:Type} {n:Nat} {xs:List TV} {g:Nat->Nat->Option α} {y:α} (hs:Zag true true n xs g=some y):∃k l k' u,xs=[.v (.c (.int k l)),.v (.c (.int k' u))]/\0<=l/\l<=u/\u<=n/\g l.toNat u.toNat=some y:=by
 unfold Zag at hs
 split at hs<;>try contradiction
 obtain ⟨⟨h0,h1,h2⟩,hs⟩:=Zj hs
 exact ⟨_,_,_,_,rfl,h0,h1,h2,hs⟩
theorem Zjy {α:Type} {lo hi:Option Operand} {n:Nat} {xs:List TV} {g:Nat->Nat->Option α} {y:α} (hx:L2 (relT S ρ σ sl h w) xs ((lo.toList++hi.toList).map ev))
  (hs:Zag lo.isSome hi.isSome n xs g=some y):∃l u:Nat,l<=u/\u<=n/\g l u=some y/\(lo.map ev=none/\l=0∨∃k,lo.map ev=some (.int k l))/\(hi.map ev=none/\u=n∨∃k,hi.map ev=some (.int k u)):=by
 have cast:∀(k:IntKind) (z:Int),0<=z->Value.int k z=.int k (z.toNat:Nat):=fun k z hz=>by rw [Yaw hz]
 cases lo with
 | none =>
  cases hi with
  | none=>exact ⟨0,n,by omega,by omega,Zq713 hs,.inl ⟨rfl,rfl⟩,.inl ⟨rfl,rfl⟩⟩
  | some b =>
   obtain ⟨k,u,rfl,h0,h1,hs⟩:=Zq730 hs
   have hb:ev b=.int k u:=hx.2 0 _ _ rfl rfl
   exact ⟨0,u.toNat,by omega,by omega,hs,.inl ⟨rfl,rfl⟩,.inr ⟨k,by simp only [Yat,hb];rw [cast k u h0]⟩⟩
 | some a =>
  cases hi with
  | none =>
   obtain ⟨k,u,rfl,h0,h1,hs⟩:=Zq717 hs
   have hb:ev a=.int k u:=hx.2 0 _ _ rfl rfl
   exact ⟨u.toNat,n,by omega,by omega,hs,.inr ⟨k,by simp only [Yat,hb];rw [cast k u h0]⟩,.inl ⟨rfl,rfl⟩⟩
  | some b =>
   obtain ⟨k,l,k',u,rfl,h0,h1,h2,hs⟩:=Zq727 hs
   have ha:ev a=.int k l:=hx.2 0 _ _ rfl rfl
   have hb:ev b=.int k' u:=hx.2 1 _ _ rfl rfl
   exact ⟨l.toNat,u.toNat,by omega,by omega,hs,.inr ⟨k,by simp only [Yat,ha];rw [cast k l h0]⟩,.inr ⟨k',by simp only [Yat,hb];rw [cast k' u (by omega)]⟩⟩
theorem Zge {P:Program} {lo hi:Option Value} {l u n cap:Nat} {isl:Bool} (hlu:l<=u) (hun:u<=n) (hc:n<=cap) (hl:lo=none/\l=0∨∃k,lo=some (.int k l)) (hu:hi=none/\u=n∨∃k,hi=some (.int k u)) :
  (Instr.sliceBounds isl n cap lo hi none).run P w=.ok (l,u,cap) w:=by
 have h1:u<=cap:=by omega
 rcases hl with ⟨rfl,rfl⟩ | ⟨k,rfl⟩<;>rcases hu with ⟨rfl,rfl⟩ | ⟨k',rfl⟩<;>simp [Instr.sliceBounds,Instr.sliceBound,asIntOf,h1,hlu]
theorem RefS.sub {k N off len l u esz:Nat} {v:Value} (hv:RefS ρ h k N off len v) (hl:l<=u) (hu:u<=len) (he:∀b,blk? h k=some b->b.cs.length=N->b.esz=esz∨b.esz=0) :
  ∃a c,v=.slice (some a) len c/\len<=c/\RefS ρ h k N (off+l*esz) (u - l) (.slice (some (if c=l then a else a.add (l*esz))) (u - l) (c - l)):=by
 obtain ⟨hk,a,c,ha,hlc,hr⟩:=hv
 refine ⟨a,c,ha,hlc,hk,_,_,rfl,by omega,fun b hb=>?_⟩
 obtain ⟨hN,hr⟩:=hr b hb
 refine ⟨hN,fun hN'=>?_⟩
 obtain ⟨h1,h2⟩:=hr hN'
 have hz:=he b hb hN'
 have hmul:∀x,(l+(c - l))*x=l*x+(c - l)*x:=fun x=>Yaa _ _ _
 have hcl:l+(c - l)=c:=by omega
 refine ⟨fun hb0=>?_,?_⟩
 ·have hbe:b.esz=esz:=by rcases hz with h | h;exact h;exact absurd h hb0
  have:=h1 hb0
  have:=hmul esz
  rw [hcl] at this
  rw [hbe] at *
  omega
 ·by_cases hcl0:c=l
  ·refine .inl ⟨by omega,?_⟩
   simp only [hcl0,if_true]
   rcases h2 with ⟨_,h2⟩ | ⟨ha2,_⟩
   ·exact h2
   ·rw [ha2]
  ·rcases h2 with ⟨h2,h3⟩ | ⟨ha2,h2⟩
   ·refine .inl ⟨by omega,?_⟩
    simp only [hcl0,if_false]
    unfold Addr.add;split<;>exact h3
   ·refine .inr ⟨by simp only [hcl0,if_false];rw [ha2,add_none,Yu],fun hb0=>?_⟩
    have hbe:b.esz=esz:=by rcases hz with h | h;exact h;exact absurd h hb0
    have:=h2 hb0
    have:=hmul esz
    rw [hcl] at this
    rw [hbe] at *
    omega
end
section
variable {S:Seat} {B:Nat} {sl sl':Ze} {h h':Za} {w w':World} {ρ:Rho} {σ:Nat->Nat} {o:Oper} {ev:Operand->Value} {tv:TV}
theorem Zxi {esz k N:Nat} (hs:Zgd h esz k N=true):∀b,blk? h k=some b->b.cs.length=N->b.esz=esz∨b.esz=0:=by
 intro b hb hN
 simp only [Zgd,hb,Bool.or_eq_true,decide_eq_true_eq] at hs
 rcases hs with (h1 | h1) | h1
 ·exact absurd hN h1
 ·exact .inr h1
 ·exact .inl h1
theorem Zbo {α:Type} {xs:List TV} {g:Cell->List TV->Option α} {r:α} (hs:Zcb xs g=some r):∃x t,xs=.v (.c x) :: t/\g x t=some r:=by
 unfold Zcb at hs
 split at hs
 ·exact ⟨_,_,rfl,hs⟩
 ·cases hs
theorem Zq715 {α:Type} {esz:Nat} {lo hi:Bool} {x:Cell} {xs:List TV} {g:Cell->Option α} {r:α} (hs:Zcg h esz lo hi x xs g=some r) :
  (∃k N off len,x=.sl k N off len/\Zgd h esz k N=true/\Zag lo hi len xs (fun l u=>g (.sl k N (off+l*esz) (u - l)))=some r)∨(x=.nils/\Zag lo hi 0 xs (fun _ _=>g .nils)=some r):=by
 unfold Zcg at hs
 split at hs
 ·obtain ⟨h1,hs⟩:=Zj hs;exact .inl ⟨_,_,_,_,rfl,h1,hs⟩
 ·exact .inr ⟨rfl,hs⟩
 ·cases hs
theorem Zxh {α:Type} {n esz:Nat} {lo hi:Bool} {x:Cell} {xs:List TV} {g:Cell->Option α} {r:α} (hs:Zbs h n esz lo hi x xs g=some r) :
  ∃k N off,x=.ptr k N off/\Zgd h 0 k N=true/\Zag lo hi n xs (fun l u=>g (.sl k N (off+l*esz) (u - l)))=some r:=by
 unfold Zbs at hs
 split at hs
 ·obtain ⟨h1,hs⟩:=Zj hs;exact ⟨_,_,_,rfl,h1,hs⟩
 ·cases hs
theorem op_slc {t e:TypeId} {a:Operand} {lo hi:Option Operand} {esz:Nat} {i:TypeInfo} {x:TV} {xs:List TV} (hop:o.op=.slice t a lo hi none) (hd:S.P.underlying t=some (.slice e)) (hi0:S.P.info? e=some i) (hn:i.size=esz) (f:FI S B sl h w ρ σ)
  (hx:relT S ρ σ sl h w x (ev a)) (hxs:L2 (relT S ρ σ sl h w) xs ((lo.toList++hi.toList).map ev))
  (hs:Zcb (x :: xs) (fun x xs=>Zcg h esz lo.isSome hi.isSome x xs fun x=>some (TV.v (.c x),sl,h))=some (tv,sl',h')):Done S B sl h w ρ σ ((execOp ev o).run S.P w) tv sl' h':=by
 obtain ⟨c,t',heq,hs⟩:=Zbo hs
 cases heq
 rcases Zq715 hs with ⟨k,N,off,len,rfl,hok,hs2⟩ | ⟨rfl,hs2⟩
 ·obtain ⟨l,u,hl,hu,hg,h1,h2⟩:=Zjy hxs hs2
  cases Zc hg
  obtain ⟨ad,cp,hv,hlc,hr⟩:=RefS.sub (ρ:=ρ) hx hl hu (Zxi hok)
  subst hn
  have hb:=Zge (P:=S.P) (w:=w) (isl:=true) hl hu hlc h1 h2
  exact Done.pure f (v:=.slice (some (if cp=l then ad else ad.add (l*i.size))) (u - l) (cp - l)) (by simp [execOp,hop,hv,Instr.sliceAt,Instr.slice,run_underlying hd,hb,Zan hi0];split<;>rfl) hr
 ·obtain ⟨l,u,hl,hu,hg,h1,h2⟩:=Zjy hxs hs2
  cases Zc hg
  have hv:ev a=.slice none 0 0:=hx
  have hb:=Zge (P:=S.P) (w:=w) (isl:=true) hl hu (Yd _) h1 h2
  have hu0:u=0:=by omega
  have hl0:l=0:=by omega
  exact Done.pure f (v:=.slice none 0 0) (by simp [execOp,hop,hv,Instr.sliceAt,Instr.slice,run_underlying hd,hb,Zan hi0,hu0,hl0]) rfl
theorem Zcf (w:World) (g:Nat) (cs:Array Value) {x:Nat} (hx:x≠g):(w.setRow g cs).heap[x]? = w.heap[x]?:=setRow_other w g x cs hx
theorem Zlf {cs xs:List Cell} {off i:Nat} (hle:off+xs.length<=cs.length):(splice cs off xs)[i]? = if i<off then cs[i]? else if i<off+xs.length then xs[i - off]? else cs[i]?:=by
 unfold splice
 by_cases h1:i<off
 ·simp only [h1,if_true]
  rw [Yo,Yb (by simp;omega),Yc,if_pos h1]
 ·simp only [h1,if_false]
  by_cases h2:i<off+xs.length
  ·simp only [h2,if_true]
   rw [Yo,Ye (by simp;omega),Yb (by simp;omega)]
   simp;congr 1;omega
  ·simp only [h2,if_false]
   rw [Ye (by simp;omega),Yg]
   simp;congr 1;omega
theorem Zbf {cs xs:List Cell} {off:Nat} (hle:off+xs.length<=cs.length):(splice cs off xs).length=cs.length:=by simp [splice];omega
theorem Zor {α:Type} {cs xs:List α} {off i:Nat} (hle:off+xs.length<=cs.length):(cs.take off++xs++cs.drop (off+xs.length))[i]? = if i<off then cs[i]? else if i<off+xs.length then xs[i - off]? else cs[i]?:=by
 by_cases h1:i<off
 ·simp only [h1,if_true]
  rw [Yo,Yb (by simp;omega),Yc,if_pos h1]
 ·simp only [h1,if_false]
  by_cases h2:i<off+xs.length
  ·simp only [h2,if_true]
   rw [Yo,Ye (by simp;omega),Yb (by simp;omega)]
   simp;congr 1;omega
  ·simp only [h2,if_false]
   rw [Ye (by simp;omega),Yg]
   simp;congr 1;omega
theorem Zoh {cs:List Cell} {vs:List Value} (hl:L2 (relC S ρ h) cs vs):∀v∈vs,v.oneCell'=true:=by
 intro v hv
 obtain ⟨i,hi⟩:=List.getElem?_of_mem hv
 have hlt:i<cs.length:=by have:=(Yp.1 hi).1;rw [hl.1];exact this
 exact (relC.oneCell (hl.2 i cs[i] v (by simp [hlt]) hi)).1
theorem Zq772 {α:Type} {m:Mem} {x:TV} {v:Value} {xs:List Cell} {vs:List Value} {g:List Cell->Nat->Option α} {y:α} (f:FI S B sl h w ρ σ) (hsl:∀s cs,slot? sl s=some cs->s<sl.length)
  (hx:relT S ρ σ sl h w x v) (hl:L2 (relC S ρ h) xs vs) (hg:Zy (Glo.std S.tab) m x sl h g=some y) :
  ∃cs off,g cs off=some y/\∀{β:Type} {k:Ze->Za->Option β} {z:β},off+xs.length<=cs.length->Zhi m x (splice cs off xs) sl h k=some z ->
   ∃ad sl' h' w' ρ',v=.pointer (some ad)/\k sl' h'=some z/\(storeCells ad vs).run S.P w=.ok () w'/\FI S B sl' h' w' ρ' σ/\Tr sl h w ρ σ sl' h' w' ρ' σ/\Adv B h w ρ h' w' ρ':=by
 have h1:=Zoh hl
 unfold Zy at hg
 split at hg
 ·rename_i s s' off
  obtain ⟨rfl,hg⟩:=Zj hg
  obtain ⟨cs,hcs,hg⟩:=bind_some hg
  refine ⟨cs,off,hg,fun {β k z} hle hp=>?_⟩
  obtain ⟨C,e,hC,hL⟩:=f.sls s' cs hcs
  have hCs:cs.length=C.size:=by simpa using hL.1
  have hst:=run_storeCells_at S.P (σ s') off e vs 0 C w hC (by rw [←hl.1];simpa [←hCs] using hle) h1
  simp only [Yr] at hst
  refine ⟨_,_,_,_,ρ,hx,hp,hst,?_⟩
  have hat:AtS S ρ h (w.setRow (σ s') (C.toList.take off++vs++C.toList.drop (off+vs.length)).toArray) (σ s') (splice cs off xs):=by
   refine ⟨_,_,setRow_heap w _ _ _ _ _ hC,?_,fun i a b ha hb=>?_⟩
   ·rw [Zbf hle];simp [←hl.1];have:=hL.1;simp at this;omega
   ·rw [Zlf hle] at ha
    simp only at hb
    rw [Zor (by rw [←hl.1];simpa [←hCs] using hle),←hl.1] at hb
    split at ha
    ·rename_i h2;simp only [h2,if_true] at hb;exact hL.2 i a b ha hb
    ·rename_i h2;simp only [h2,if_false] at hb
     split at ha
     ·rename_i h3;simp only [h3,if_true] at hb;exact hl.2 _ a b ha hb
     ·rename_i h3;simp only [h3,if_false] at hb;exact hL.2 i a b ha hb
  have:=FI.putSlot (w':=w.setRow (σ s') (C.toList.take off++vs++C.toList.drop (off+vs.length)).toArray) (σ':=σ) f (hsl _ _ hcs) (.inl ⟨rfl,cs,hcs⟩) (fun y hy _=>Zcf w _ _ hy) (by simp) hat (by funext t;split<;>simp_all)
  exact ⟨this.1,this.2,Adv.slot (fun y hy _=>Zcf w _ _ hy) (f.sbase _ _ hcs) (by simp) rfl rfl rfl⟩
 ·rename_i k0 N off
  obtain ⟨b,hb,hN,hg⟩:=Zpu hg
  refine ⟨b.cs,off,hg,fun {β k z} hle hp=>?_⟩
  obtain ⟨b',hb',hp⟩:=bind_some hp
  rw [hb] at hb';cases hb'
  obtain ⟨hown,hp⟩:=Zj hp
  obtain ⟨_,_,hpp⟩:=hx
  have hv:=(hpp b hb).2 hN
  obtain ⟨C,e,fz,hC,htot,hsz,hat,hfz⟩:=f.hi.blks k0 b hb
  rw [hfz hown] at hC
  have hst:=run_storeCells_at S.P (ρ k0).b ((ρ k0).o+off) e vs 0 C w hC (by rw [←hl.1];omega) h1
  simp only [Yr] at hst
  have hsp:((ρ k0).o+off)+vs.length<=C.toList.length:=by simp [←hl.1];omega
  have hnew:∀ρ' h',Ext h ρ h' ρ'->AtB S ρ' h' (w.setRow (ρ k0).b (C.toList.take ((ρ k0).o+off)++vs++C.toList.drop ((ρ k0).o+off+vs.length)).toArray) (ρ k0) { b with cs:=splice b.cs off xs }:=by
   intro ρ' h' ext
   refine ⟨_,e,(0,0),setRow_heap w _ _ _ _ _ hC,?_,?_,fun i c hc=>?_,fun _=>rfl⟩
   ·simp [←htot];have:=hsp;simp at this;omega
   ·simp only [Zbf hle];simp;have:=hsp;simp at this;omega
   ·simp only at hc
    rw [Zlf hle] at hc
    have hget:=Zor (i:=(ρ k0).o+i) hsp
    simp only [Yac]
    rw [hget,←hl.1]
    split at hc
    ·rename_i h2
     rw [if_pos (by omega)]
     obtain ⟨u,hu,hr⟩:=hat i c hc
     exact ⟨u,by simpa using hu,relC.mono ext hr⟩
    ·rename_i h2
     rw [if_neg (by omega)]
     split at hc
     ·rename_i h3
      rw [if_pos (by omega)]
      obtain ⟨u,hu,hr⟩:=hl.get hc
      refine ⟨u,?_,relC.mono ext hr⟩
      rw [←hu];congr 1;omega
     ·rename_i h3
      rw [if_neg (by omega)]
      obtain ⟨u,hu,hr⟩:=hat i c hc
      exact ⟨u,by simpa using hu,relC.mono ext hr⟩
  obtain ⟨ρ',f',t',_,st,_⟩:=FI.write (w':=w.setRow (ρ k0).b (C.toList.take ((ρ k0).o+off)++vs++C.toList.drop ((ρ k0).o+off+vs.length)).toArray) f hb hown (splice b.cs off xs) (ρ k0) (.inl ⟨rfl,by rw [Zbf hle];exact Yd _⟩) hnew
   (fun x hx _=>Zcf w _ _ hx) (by simp) rfl rfl rfl
  exact ⟨_,_,_,_,ρ',hv,hp,hst,f',t',Adv.of_step st⟩
 ·rename_i g0 off
  refine ⟨S.tab g0,off,hg,fun {β k z} hle hp=>?_⟩
  simp [Zhi] at hp
 ·cases hg
end
section
variable {S:Seat} {B:Nat} {sl sl':Ze} {h h':Za} {w w':World} {ρ:Rho} {σ:Nat->Nat} {o:Oper} {ev:Operand->Value} {tv:TV}
theorem RefP.slice {k N off n esz l u:Nat} {v:Value} (hv:RefP ρ h k N off v) (hl:l<=u) (hu:u<=n) (hok:Zgd h 0 k N=true) :
  ∃ad,v=.pointer (some ad)/\RefS ρ h k N (off+l*esz) (u - l) (.slice (some (if n=l then ad else ad.add (l*esz))) (u - l) (n - l)):=by
 obtain ⟨hk,⟨a,ha⟩,hr⟩:=hv
 refine ⟨a,ha,hk,_,_,rfl,by omega,fun b hb=>?_⟩
 obtain ⟨hN,hr⟩:=hr b hb
 refine ⟨hN,fun hN'=>?_⟩
 have hz:b.esz=0:=by rcases Zxi hok b hb hN' with h | h<;>exact h
 refine ⟨fun hb0=>absurd hz hb0,?_⟩
 by_cases hcl0:n=l
 ·refine .inl ⟨by omega,?_⟩
  simp only [hcl0,if_true]
  have:=hr hN'
  rw [ha] at this
  cases this
  rfl
 ·have:=hr hN'
  rw [ha] at this
  cases this
  exact .inr ⟨by simp only [hcl0,if_false];rw [add_none,Yu],fun hb0=>absurd hz hb0⟩
theorem op_slcA {t e:TypeId} {a:Operand} {lo hi:Option Operand} {n esz:Nat} {i:TypeInfo} {x:TV} {xs:List TV} (hop:o.op=.slice t a lo hi none)
  (hd:S.P.underlying t=some (.array n e)∨∃arr,S.P.underlying t=some (.pointer arr)/\S.P.underlying arr=some (.array n e)) (hi0:S.P.info? e=some i) (hn:i.size=esz) (f:FI S B sl h w ρ σ)
  (hx:relT S ρ σ sl h w x (ev a)) (hxs:L2 (relT S ρ σ sl h w) xs ((lo.toList++hi.toList).map ev))
  (hs:Zcb (x :: xs) (fun x xs=>Zbs h n esz lo.isSome hi.isSome x xs fun x=>some (TV.v (.c x),sl,h))=some (tv,sl',h')):Done S B sl h w ρ σ ((execOp ev o).run S.P w) tv sl' h':=by
 obtain ⟨c,t',heq,hs⟩:=Zbo hs
 cases heq
 obtain ⟨k,N,off,rfl,hok,hs2⟩:=Zxh hs
 obtain ⟨l,u,hl,hu,hg,h1,h2⟩:=Zjy hxs hs2
 cases Zc hg
 obtain ⟨ad,hv,hr⟩:=RefP.slice (esz:=esz) (ρ:=ρ) hx hl hu hok
 subst hn
 have hb:=Zge (P:=S.P) (w:=w) (isl:=false) hl hu (Yd _) h1 h2
 refine Done.pure f (v:=.slice (some (if n=l then ad else ad.add (l*i.size))) (u - l) (n - l)) ?_ hr
 rcases hd with hd | ⟨arr,hd,hd2⟩
 ·simp [execOp,hop,hv,Instr.sliceAt,Instr.sureAddr,run_underlying hd,hb,Zan hi0]
 ·simp [execOp,hop,hv,Instr.sliceAt,Instr.slice,asAddr,run_underlying hd,run_underlying hd2,hb,Zan hi0]
theorem Zvm {P:Program} {t:TypeId} {i:TypeInfo} {ad:Addr} {v:Value} {w':World} (hi:P.info? t=some i) (hsz:v.cells.size=i.size) (hst:(storeCells ad v.cells.toList).run P w=.ok () w'):(storeVar t ad v).run P w=.ok () w':=by
 simp [storeVar,Zan hi,hsz,hst]
theorem Zq714 {cs:List Cell} {off:Nat} {c:Cell} (hlt:off<cs.length):cs.set off c=splice cs off [c]:=by
 apply Yz
 intro j
 rw [Zlf (by simp;omega),Yy]
 by_cases h1:j<off
 ·simp [h1,Nat.ne_of_gt h1]
 ·by_cases h2:j=off
  ·subst h2;simp [hlt]
  ·have h3:¬j<off+1:=by omega
   have h4:off≠j:=fun q=>h2 q.symm
   simp [h1,h3,h4]
theorem Zq705 {cs xs:List Cell} (hl:cs.length=xs.length):splice cs 0 xs=xs:=by simp [splice,hl]
theorem Zrz {t:TypeId} {a b:Operand} {i:TypeInfo} {m:Mem} {n:Nat} {x y:TV} (hop:o.op=.store t a b) (hi:S.P.info? t=some i) (hsz:i.size=n) (f:FI S B sl h w ρ σ) (hsl:∀s cs,slot? sl s=some cs->s<sl.length)
  (hx:relT S ρ σ sl h w x (ev a)) {z:AV} (hy0:y=.v z) (hy:relT S ρ σ sl h w y (ev b)) (hn:z.cells.length=n)
  (hs:Zy (G0 S) m x sl h (fun cs off=>if off+n<=cs.length then Zhi m x (splice cs off z.cells) sl h fun s h=>some (TV.tup [],s,h) else none)=some (tv,sl',h')) :
  Done S B sl h w ρ σ ((execOp ev o).run S.P w) tv sl' h':=by
 subst hy0
 have hl:=relA.cells hy
 obtain ⟨cs,off,hg,hput⟩:=Zq772 f hsl hx hl hs
 obtain ⟨hle,hg⟩:=Zj hg
 obtain ⟨ad,sl2,h2,w2,ρ2,hv,hk,hst,f2,t2,a2⟩:=hput (by rw [hn];exact hle) hg
 cases Zc hk
 have hsz2:(ev b).cells.size=i.size:=by have:=hl.1;simp only [Yag] at this;omega
 exact ⟨undef,w2,ρ2,.inr ⟨by simp [execOp,hop,hv,Instr.storeAt,Instr.sureAddr,Zvm hi hsz2 hst],rfl⟩,⟨#[],rfl,L2.nil⟩,f2,t2,a2⟩
theorem Ziv {P:Program} (w:World) (t:TypeId) (v:Value):(newVar t v).run P w=.ok ⟨w.heap.size,0,none⟩ (w.alloc (.cells v.cells t)):=by simp [newVar,newRow]
theorem Zqg {P:Program} {t:TypeId} {i:TypeInfo} {z:Value} (hi:P.info? t=some i) (hz:i.zero=some z):(zeroValue t).run P w=.ok z w:=by simp [zeroValue,typeInfo,hi,hz]
theorem Done.new' {C:Array Value} {e:TypeId} {own:Bool} {esz:Nat} {cs:List Cell} {n c:Nat} {r:Result Next} {fz:Nat × Nat} (hfz:own=true->fz=(0,0)) (f:FI S B sl h w ρ σ) (hl:cs.length<=C.size) (hr:∀(i:Nat) (c:Cell),cs[i]? = some c->∃v,C[i]? = some v/\relC S ρ h c v)
  (hw:∀x,x<w.heap.size->w'.heap[x]? = w.heap[x]?) (hn:w'.heap[w.heap.size]? = some (.cells C e fz)) (ho:w'.os=w.os) (ht:w'.tape=w.tape) (hu:w'.output=w.output)
  (hres:r=.ok (.value (.pointer (some ⟨w.heap.size,0,none⟩))) w'/\tv=.v (.c (.ptr h.length cs.length 0)) ∨
   r=.ok (.value (.slice (some ⟨w.heap.size,0,none⟩) n c)) w'/\tv=.v (.c (.sl h.length cs.length 0 n))/\n<=c/\(esz≠0->cs.length<=c*esz/\c*esz=C.size)) :
  Done S B sl h w ρ σ r tv sl (h++[some ⟨own,esz,cs⟩]):=by
 obtain ⟨ρ',f',t',_,st,hp⟩:=FI.alloc (w':=w') f C e own esz cs fz hfz hl hr hw hn ho ht hu
 have hlt:h.length<(h++[some (Blk.mk own esz cs)]).length:=by simp
 rcases hres with ⟨rfl,rfl⟩ | ⟨rfl,rfl,hnc,hsz⟩
 ·refine ⟨_,w',ρ',.inl rfl,⟨hlt,⟨_,rfl⟩,fun b hb=>?_⟩,f',t',Adv.of_step st⟩
  rw [Zbj] at hb;cases hb
  exact ⟨Yd _,fun _=>by rw [hp]⟩
 ·refine ⟨_,w',ρ',.inl rfl,⟨hlt,_,_,rfl,hnc,fun b hb=>?_⟩,f',t',Adv.of_step st⟩
  rw [Zbj] at hb;cases hb
  refine ⟨Yd _,fun _=>⟨fun he=>by have:=hsz he;simp;omega,.inr ⟨by rw [hp],fun he=>?_⟩⟩⟩
  have:=hsz he
  rw [hp];simp;omega
theorem Done.new {C:Array Value} {e:TypeId} {own:Bool} {esz:Nat} {cs:List Cell} {n c:Nat} {r:Result Next} (f:FI S B sl h w ρ σ) (hl:cs.length<=C.size) (hr:∀(i:Nat) (c:Cell),cs[i]? = some c->∃v,C[i]? = some v/\relC S ρ h c v)
  (hw:∀x,x<w.heap.size->w'.heap[x]? = w.heap[x]?) (hn:w'.heap[w.heap.size]? = some (.cells C e (0,0))) (ho:w'.os=w.os) (ht:w'.tape=w.tape) (hu:w'.output=w.output)
  (hres:r=.ok (.value (.pointer (some ⟨w.heap.size,0,none⟩))) w'/\tv=.v (.c (.ptr h.length cs.length 0)) ∨
   r=.ok (.value (.slice (some ⟨w.heap.size,0,none⟩) n c)) w'/\tv=.v (.c (.sl h.length cs.length 0 n))/\n<=c/\(esz≠0->cs.length<=c*esz/\c*esz=C.size)) :
  Done S B sl h w ρ σ r tv sl (h++[some ⟨own,esz,cs⟩]):=Done.new' (fun _=>rfl) f hl hr hw hn ho ht hu hres
theorem Zq763 {t:TypeId} {i:TypeInfo} {z:Value} {zs:List Cell} (hop:o.op=.alloc t) (hi:S.P.info? t=some i) (hz:i.zero=some z) (hzs:∀(ρ:Rho) (h:Za),L2 (relC S ρ h) zs z.cells.toList) (f:FI S B sl h w ρ σ) :
  Done S B sl h w ρ σ ((execOp ev o).run S.P w) (.v (.c (.ptr h.length zs.length 0))) sl (h++[some ⟨true,0,zs⟩]):=by
 have hl:=hzs ρ h
 refine Done.new (w':=w.alloc (.cells z.cells t)) (C:=z.cells) (e:=t) (n:=0) (c:=0) f (by have:=hl.1;simp at this;omega) (fun i c hc=>by obtain ⟨u,hu,hr⟩:=hl.get hc;exact ⟨u,by simpa using hu,hr⟩)
  (fun x hx=>Zbv w _ hx) (Zbg w _) rfl rfl rfl (.inl ⟨?_,rfl⟩)
 simp [execOp,hop,Instr.alloc,Zqg hi hz,Ziv]
theorem op_boxH {t:TypeId} {a:Operand} {z:AV} (hop:o.op=.box t a) (f:FI S B sl h w ρ σ) (hx:relT S ρ σ sl h w (.v z) (ev a)) :
  Done S B sl h w ρ σ ((execOp ev o).run S.P w) (.v (.c (.ptr h.length z.cells.length 0))) sl (h++[some ⟨true,0,z.cells⟩]):=by
 have hl:=relA.cells hx
 refine Done.new (w':=w.alloc (.cells (ev a).cells t)) (C:=(ev a).cells) (e:=t) (n:=0) (c:=0) f (by have:=hl.1;simp at this;omega) (fun i c hc=>by obtain ⟨u,hu,hr⟩:=hl.get hc;exact ⟨u,by simpa using hu,hr⟩)
  (fun x hx=>Zbv w _ hx) (Zbg w _) rfl rfl rfl (.inl ⟨?_,rfl⟩)
 simp [execOp,hop,Instr.box,Ziv]
theorem op_mkfn {a:Array Operand} {fn:Go.Fn} {g:Nat} {caps:List (Nat × Nat × Nat)} (hop:o.op=.makeFunc fn #[] a) (hfn:fn=Go.Fn.func (S.fn g)) (f:FI S B sl h w ρ σ) (hx:L2 (fun (p:Nat × Nat × Nat) u=>RefP ρ h p.1 p.2.1 p.2.2 u) caps (a.toList.map ev)) :
  Done S B sl h w ρ σ ((execOp ev o).run S.P w) (.v (.c (.fn g caps))) sl h:=by
 subst hfn
 exact Done.pure f (v:=.func (Go.Fn.func (S.fn g)) #[] (a.map ev)) (by simp [execOp,hop,Instr.makeFunc]) ⟨_,rfl,by simpa using hx⟩
theorem Zq746 {α:Type} {x:Cell} {xs:List TV} {g:Cell->Option α} {r:α} (hs:Zms x xs g=some r) :
  ∃k1 k2 a,xs=[.v (.c (.int k1 a)),.v (.c (.int k2 a))]/\((x=.nils/\a=0/\g .nils=some r)∨∃k N off len,x=.sl k N off len/\0<a/\a<=(len:Nat)/\g (.csl k N off a.toNat)=some r):=by
 unfold Zms at hs
 split at hs
 ·obtain ⟨he,hs2⟩:=Zj hs
  subst he
  refine ⟨_,_,_,rfl,?_⟩
  split at hs2
  ·obtain ⟨h0,hs3⟩:=Zj hs2;exact .inl ⟨rfl,h0,hs3⟩
  ·obtain ⟨h0,hs3⟩:=Zj hs2;exact .inr ⟨_,_,_,_,rfl,h0.1,h0.2,hs3⟩
  ·cases hs2
 ·cases hs
theorem op_slc3 {t e:TypeId} {a u m:Operand} {i:TypeInfo} {x:TV} {xs:List TV} (hop:o.op=.slice t a none (some u) (some m)) (hd:S.P.underlying t=some (.slice e)) (hi0:S.P.info? e=some i) (f:FI S B sl h w ρ σ)
  (hx:relT S ρ σ sl h w x (ev a)) (hxs:L2 (relT S ρ σ sl h w) xs ([u,m].map ev))
  (hs:Zcb (x :: xs) (fun x xs=>Zms x xs fun x=>some (TV.v (.c x),sl,h))=some (tv,sl',h')):Done S B sl h w ρ σ ((execOp ev o).run S.P w) tv sl' h':=by
 obtain ⟨c,t',heq,hs⟩:=Zbo hs
 cases heq
 obtain ⟨k1,k2,n,hxs0,hs2⟩:=Zq746 hs
 subst hxs0
 have hu:ev u=.int k1 n:=hxs.2 0 _ _ rfl rfl
 have hm:ev m=.int k2 n:=hxs.2 1 _ _ rfl rfl
 rcases hs2 with ⟨rfl,rfl,hs3⟩ | ⟨k,N,off,len,rfl,h0,hle,hs3⟩
 ·cases Zc hs3
  have hv:ev a=.slice none 0 0:=hx
  exact Done.pure f (v:=.slice none 0 0) (by simp [execOp,hop,hv,hu,hm,Instr.sliceAt,Instr.slice,Instr.sliceBounds,Instr.sliceBound,asIntOf,run_underlying hd,Zan hi0]) rfl
 ·cases Zc hs3
  obtain ⟨hk,ad,cp,hv,hlc,hr⟩:=hx
  obtain ⟨n,rfl⟩:∃q:Nat,n=q:=⟨n.toNat,by omega⟩
  have e1:n<=cp:=by omega
  have e2:n≠0:=by omega
  refine Done.pure f (v:=.slice (some (ad.add (0*i.size))) n n) (by simp [execOp,hop,hv,hu,hm,Instr.sliceAt,Instr.slice,Instr.sliceBounds,Instr.sliceBound,asIntOf,run_underlying hd,Zan hi0,e1,e2]) ⟨hk,ad.add (0*i.size),by simp,fun b hb=>?_⟩
  obtain ⟨hN,hr⟩:=hr b hb
  refine ⟨hN,fun hN'=>?_⟩
  rcases (hr hN').2 with ⟨hc,_⟩ | ⟨ha,_⟩
  ·omega
  ·rw [ha,add_none];simp
theorem Zq721 {cs:List Cell} {l:List (IntKind × Int)} {us:List Value} (hc:Zit cs=some l) (hl:L2 (relC S ρ h) cs us):us=l.map fun p=>Value.int p.1 p.2:=by
 induction cs generalizing l us with
 | nil=>cases hc;cases us with
  | nil=>rfl
  | cons _ _=>have:=hl.1;simp at this
 | cons c cs ih =>
  obtain ⟨v,t,rfl,hv,ht⟩:=hl.cons_left
  cases c<;>try (cases hc;done)
  simp only [Zit] at hc
  cases hq:Zit cs with
  | none=>rw [hq] at hc;cases hc
  | some q =>
   rw [hq] at hc;cases hc
   rw [ih hq ht,Yau]
   have hv:v=_:=hv
   rw [hv]
theorem op_mkfb {a:Operand} {fn:Go.Fn} {g:Nat} {x:TV} (hop:o.op=.makeFunc fn #[a] #[]) (hfn:fn=Go.Fn.func (S.fn g)) (f:FI S B sl h w ρ σ) (hx:relT S ρ σ sl h w x (ev a))
  (hs:Zjj x (fun cs=>(Zit cs).bind fun l=>some (TV.v (.c (.fnb g l)),sl,h))=some (tv,sl',h')):Done S B sl h w ρ σ ((execOp ev o).run S.P w) tv sl' h':=by
 obtain ⟨cs,us,hv,hl,hs⟩:=Zna hx hs
 obtain ⟨l,hl2,hs⟩:=bind_some hs
 cases Zc hs
 subst hfn
 have hus:=Zq721 hl2 hl
 refine Done.pure f (v:=.func (Go.Fn.func (S.fn g)) #[.agg us] #[]) (by simp [execOp,hop,Instr.makeFunc,hv]) ?_
 show _=_
 rw [←hus]
end
section
variable {S:Seat} {B:Nat} {sl sl':Ze} {h h':Za} {w w':World} {ρ:Rho} {σ:Nat->Nat} {o:Oper} {ev:Operand->Value} {tv:TV}
structure Src (S:Seat) (ρ:Rho) (h:Za) (w:World) (esz:Nat) (xs:List Cell) (v:Value) (n:Nat):Prop where
 len:xs.length=n*esz
 val:(∃c,v=.slice none n c/\n=0)∨∃a c,v=.slice (some a) n c/\∃us:List Value,L2 (relC S ρ h) xs us/\∀(j:Nat) (u:Value),us[j]? = some u->w.cell? (a.add j)=some u
theorem Zsj {C:Array Value} {b:Nat} {el:TypeId} {fz:Nat × Nat} {xs:List Cell} {o:Nat} (hC:w.heap[b]? = some (.cells C el fz)) (hx:∀(i:Nat) (c:Cell),xs[i]? = some c->∃u,C[o+i]? = some u/\relC S ρ h c u) :
  ∃us:List Value,L2 (relC S ρ h) xs us/\∀(j:Nat) (u:Value),us[j]? = some u->w.cell? ((⟨b,o,none⟩:Addr).add j)=some u:=by
 have hle:∀i,i<xs.length->o+i<C.size:=by
  intro i hi
  obtain ⟨u,hu,_⟩:=hx i xs[i] (by simp [hi])
  exact (Array.getElem?_eq_some_iff.1 hu).1
 refine ⟨(C.toList.drop o).take xs.length,⟨?_,fun i a b ha hb=>?_⟩,fun j u hu=>?_⟩
 ·simp
  rcases Yay xs.length with h0 | h0
  ·omega
  ·have:=hle (xs.length - 1) (by omega);omega
 ·obtain ⟨u,hu,hr⟩:=hx i a ha
  rw [Yc] at hb
  split at hb
  ·rw [Yg] at hb
   simp at hb
   rw [hu] at hb;cases hb;exact hr
  ·cases hb
 ·rw [add_none]
  rw [Yc] at hu
  split at hu
  ·rw [Yg] at hu
   simp [World.cell?,hC]
   simpa using hu
  ·cases hu
theorem src_sl {esz:Nat} {c:Cell} {xs:List Cell} {v:Value} (f:HI S ρ h w) (hv:relC S ρ h c v) (hs:Zah h esz c=some xs):∃n,Src S ρ h w esz xs v n:=by
 unfold Zah at hs
 split at hs
 ·cases hs;exact ⟨0,by simp,.inl ⟨0,hv,rfl⟩⟩
 ·rename_i k N off len
  split at hs
  ·rename_i h0
   subst h0
   cases hs
   obtain ⟨_,a,cp,hv,_,_⟩:=hv
   exact ⟨0,by simp,.inr ⟨a,cp,hv,[],⟨by simp,fun i a b ha hb=>by simp at hb⟩,fun j u hu=>by simp at hu⟩⟩
  cases hb:blk? h k with
  | none=>simp [hb] at hs
  | some b =>
   simp only [hb] at hs
   obtain ⟨⟨hN,hle⟩,hs⟩:=Zj hs
   cases Zc hs
   obtain ⟨_,a,cp,hv,hlc,hr⟩:=hv
   obtain ⟨_,hr⟩:=hr b hb
   obtain ⟨_,hr⟩:=hr hN
   have hlen:((b.cs.drop off).take (len*esz)).length=len*esz:=by simp;omega
   refine ⟨len,hlen,.inr ⟨a,cp,hv,?_⟩⟩
   rcases hr with ⟨h0,_⟩ | ⟨ha,_⟩
   ·have h0':len=0:=by omega
    subst h0'
    refine ⟨[],⟨by simp,fun i a b ha hb=>by simp at hb⟩,fun j u hu=>by simp at hu⟩
   ·rw [ha]
    obtain ⟨C,e,fz,hC,_,_,hat,_⟩:=f.blks k b hb
    exact Zsj hC fun i c hc=>by
     rw [Yc] at hc
     split at hc
     ·rw [Yg] at hc
      obtain ⟨u,hu,hr⟩:=hat _ c hc
      exact ⟨u,by rw [←hu];congr 1;omega,hr⟩
     ·cases hc
 ·rename_i k N off len
  obtain ⟨b,hb,hs⟩:=bind_some hs
  obtain ⟨⟨hN,hle⟩,hs⟩:=Zj hs
  cases Zc hs
  obtain ⟨_,a,hv,hr⟩:=hv
  obtain ⟨_,hr⟩:=hr b hb
  have ha:=hr hN
  have hlen:((b.cs.drop off).take (len*esz)).length=len*esz:=by simp;omega
  refine ⟨len,hlen,.inr ⟨a,len,hv,?_⟩⟩
  rw [ha]
  obtain ⟨C,e,fz,hC,_,_,hat,_⟩:=f.blks k b hb
  exact Zsj hC fun i c hc=>by
   rw [Yc] at hc
   split at hc
   ·rw [Yg] at hc
    obtain ⟨u,hu,hr⟩:=hat _ c hc
    exact ⟨u,by rw [←hu];congr 1;omega,hr⟩
   ·cases hc
 ·cases hs
theorem src_of {esz:Nat} {x:TV} {xs:List Cell} {v:Value} (f:FI S B sl h w ρ σ) (hv:relT S ρ σ sl h w x v) (hs:Zji h esz x=some xs):∃n,Src S ρ h w esz xs v n:=by
 unfold Zji at hs
 split at hs
 ·rename_i e cs
  obtain ⟨rfl,hs2⟩:=Zj hs
  cases Zc hs2
  obtain ⟨b,n,C,el,fz,hv,hn,hC,hL,_⟩:=hv
  refine ⟨n,hn.symm,.inr ⟨⟨b,0,none⟩,n,hv,C.toList,hL,fun j u hu=>?_⟩⟩
  rw [add_none]
  simp [World.cell?,hC];simpa using hu
 ·exact src_sl f.hi hv hs
 ·cases hs
theorem appK_inv {α:Type} {esz bytes:Nat} {base:Cell} {xs:List Cell} {g:Cell->Za->Option α} {y:α} (hs:Zaq esz bytes base xs h g=some y) :
  (base=.nils/\xs.length=0/\g .nils h=some y) ∨
  (base=.nils/\xs.length≠0/\xs.length / esz*bytes<=maxBytes/\xs.length / esz<=maxBytes/\g (.sl h.length xs.length 0 (xs.length / esz)) (h++[some ⟨true,esz,xs⟩])=some y) ∨
  (∃k N off len b,base=.csl k N off len/\blk? h k=some b/\xs.length / esz≠0/\b.cs.length=N/\off+len*esz<=N/\(len+xs.length / esz)*bytes<=maxBytes/\len+xs.length / esz<=maxBytes /\
   g (.sl h.length (len*esz+xs.length) 0 (len+xs.length / esz)) (h++[some ⟨true,esz,(b.cs.drop off).take (len*esz)++xs⟩])=some y) ∨
  ∃k N off len b,base=.sl k N off len/\blk? h k=some b/\b.own=true/\b.esz=esz/\b.cs.length=N/\off+len*esz<=N/\(len+xs.length / esz)*bytes<=maxBytes/\len+xs.length / esz<=maxBytes /\
   ((off+len*esz+xs.length<=N/\g (.sl k N off (len+xs.length / esz)) (setBlk h k (some { b with cs:=splice b.cs (off+len*esz) xs }))=some y) ∨
    (N<off+len*esz+xs.length/\off=0/\g (.sl k (len*esz+xs.length) 0 (len+xs.length / esz)) (setBlk h k (some { b with cs:=b.cs.take (len*esz)++xs }))=some y) ∨
    (N<off+len*esz+xs.length/\off≠0/\g (.sl h.length (len*esz+xs.length) 0 (len+xs.length / esz)) (setBlk h k none++[some ⟨true,esz,(b.cs.drop off).take (len*esz)++xs⟩])=some y)):=by
 unfold Zaq at hs
 split at hs
 ·split at hs
  ·rename_i h0;exact .inl ⟨rfl,h0,hs⟩
  ·rename_i h0
   obtain ⟨⟨h1,h2⟩,hs⟩:=Zj hs
   exact .inr (.inl ⟨rfl,h0,h1,h2,hs⟩)
 ·rename_i k N off len
  obtain ⟨b,hb,hs⟩:=bind_some hs
  obtain ⟨⟨h1,h2,h3,h4,h5,h6⟩,hs⟩:=Zj hs
  refine .inr (.inr (.inr ⟨k,N,off,len,b,rfl,hb,h1,h2,h3,h4,h5,h6,?_⟩))
  split at hs
  ·rename_i h7;exact .inl ⟨h7,hs⟩
  ·rename_i h7
   split at hs
   ·rename_i h8;exact .inr (.inl ⟨by omega,h8,hs⟩)
   ·rename_i h8;exact .inr (.inr ⟨by omega,h8,hs⟩)
 ·rename_i k N off len
  obtain ⟨b,hb,hs⟩:=bind_some hs
  obtain ⟨⟨h1,h2,h3,h4,h5⟩,hs⟩:=Zj hs
  exact .inr (.inr (.inl ⟨k,N,off,len,b,rfl,hb,h1,h2,h3,h4,h5,hs⟩))
 ·cases hs
theorem Zph {P:Program} (t ty e:TypeId) (i:TypeInfo) (ht:P.underlying t=some (.slice e)) (hi:P.info? e=some i)
  (b off sLen sCap:Nat) (v:Value) (m:Nat) (news:List Value) (hm:news.length=m*i.size) (hv:(∃c,v=.slice none m c/\m=0)∨∃a c,v=.slice (some a) m c/\∀(j:Nat) (u:Value),news[j]? = some u->w.cell? (a.add j)=some u)
  (hroom:sLen+m<=sCap) (hst:(storeCells ⟨b,off+sLen*i.size,none⟩ news).run P w=.ok () w') :
  (Builtin.append_ #[t,t] ty #[.slice (some ⟨b,off,none⟩) sLen sCap,v]).run P w=.ok (.slice (some ⟨b,off,none⟩) (sLen+m) sCap) w':=by
 rcases hv with ⟨c,rfl,rfl⟩ | ⟨a,c,rfl,hn⟩
 ·have:news=[]:=by simpa using hm
  subst this
  have hroom2:sLen<=sCap:=by omega
  simp [Builtin.append_,run_underlying ht,Zan hi,Builtin.lenOf,hroom2,Builtin.firstCells,add_none,hst]
 ·have hfc:=run_firstCells_some (P:=P) w i.size m a m c news hm hn
  simp [Builtin.append_,run_underlying ht,Zan hi,Builtin.lenOf,hroom,hfc,add_none,hst]
theorem Zfg {P:Program} (t ty e:TypeId) (i:TypeInfo) (z:Value) (ht:P.underlying t=some (.slice e)) (hi:P.info? e=some i) (hz:i.zero=some z) (hzs:z.cells.size=i.size)
  (sLen sCap:Nat) (base:Value) (olds:List Value) (hlo:olds.length=sLen*i.size) (hbase:(base=.slice none 0 0/\sLen=0/\sCap=0)∨∃b,base=.slice (some b) sLen sCap/\∀(j:Nat) (u:Value),olds[j]? = some u->w.cell? (b.add j)=some u)
  (v:Value) (m:Nat) (news:List Value) (hm:news.length=m*i.size) (hv:(∃c,v=.slice none m c/\m=0)∨∃a c,v=.slice (some a) m c/\∀(j:Nat) (u:Value),news[j]? = some u->w.cell? (a.add j)=some u)
  (hg:sCap<sLen+m) (hm0:sLen<=sCap) (h63:sLen+m<=maxBytes) (hby:(sLen+m)*i.bytes<=maxBytes) :
  ∃cap w' C,(Builtin.append_ #[t,t] ty #[base,v]).run P w=.ok (.slice (some ⟨w.heap.size,0,none⟩) (sLen+m) cap) w'/\sLen+m<=cap/\w'.heap[w.heap.size]? = some (.cells C e (0,0))/\C.size=cap*i.size /\
   C.toList.take ((sLen+m)*i.size)=olds++news/\(∀x,x<w.heap.size->w'.heap[x]? = w.heap[x]?)/\w'.os=w.os/\w'.tape=w.tape/\w'.output=w.output:=by
 have hmax:maxBytes=1099511627776:=rfl
 rcases hv with ⟨c,rfl,rfl⟩ | ⟨a,c,rfl,hn⟩
 ·omega
 have hsm:(olds++news).length=(sLen+m)*i.size:=by rw [Ym,hlo,hm,Yaa]
 rcases hbase with ⟨rfl,rfl,rfl⟩ | ⟨b,rfl,hold⟩
 ·have ho:olds=[]:=by simpa using hlo
  subst ho
  have hr:=run_append_nil (P:=P) w t ty e i z ht hi hz a m c news hm hn (by omega) (by omega) (by simp at hby;omega)
  have hge:=grownCap_ge w m 0 e
  refine ⟨grownCap w m 0 e,_,_,by simpa using hr,by omega,Zbg w.drew _,?_,?_,fun x hx=>Zbv w.drew _ hx,rfl,rfl,rfl⟩
  ·simp only [Yba,Ybb,size_zeroCells,hzs,hm,←Yaa];congr 1;omega
  ·simp only [Yah,Ybh,Yad,←hm];simp
 ·have hr:=run_append_grow (P:=P) w t ty e i z ht hi hz b sLen sCap olds hlo hold a m c news hm hn hg (by omega) (growslice_fits hg (by omega))
  have hge:=grownCap_ge w (sLen+m) sCap e
  refine ⟨grownCap w (sLen+m) sCap e,_,_,hr,by omega,Zbg w.drew _,?_,?_,fun x hx=>Zbv w.drew _ hx,rfl,rfl,rfl⟩
  ·simp only [Yba,Ybb,size_zeroCells,hzs,hlo,hm,←Yaa];congr 1;omega
  ·have ht:(olds.toArray++news.toArray++Builtin.zeroCells z.cells (grownCap w (sLen+m) sCap e - (sLen+m))).toList=(olds++news)++(Builtin.zeroCells z.cells (grownCap w (sLen+m) sCap e - (sLen+m))).toList:=by simp
   rw [ht,←hsm,List.take_left]
theorem Zpb {α:Type} {cs xs:List α} {off i:Nat} (hle:off<=cs.length):(cs.take off++xs++cs.drop (off+xs.length))[i]? = if i<off then cs[i]? else if i<off+xs.length then xs[i - off]? else cs[i]?:=by
 by_cases h1:i<off
 ·simp only [h1,if_true]
  rw [Yo,Yb (by simp;omega),Yc,if_pos h1]
 ·simp only [h1,if_false]
  by_cases h2:i<off+xs.length
  ·simp only [h2,if_true]
   rw [Yo,Ye (by simp;omega),Yb (by simp;omega)]
   simp;congr 1;omega
  ·simp only [h2,if_false]
   rw [Ye (by simp;omega),Yg]
   simp;congr 1;omega
theorem AtB.splice {C:Array Value} {e:TypeId} {p:Pl} {b:Blk} {q:Nat} {xs:List Cell} {vs:List Value} {h':Za} {ρ':Rho} (hC:w.heap[p.b]? = some (.cells C e (0,0))) (htot:C.size=p.tot)
  (hat:∀(i:Nat) (c:Cell),b.cs[i]? = some c->∃v,C[p.o+i]? = some v/\relC S ρ h c v) (hl:L2 (relC S ρ h) xs vs) (hq:q<=b.cs.length) (hfit:p.o+q+xs.length<=C.size) (hb:p.o+b.cs.length<=C.size) (ext:Ext h ρ h' ρ') :
  AtB S ρ' h' (w.setRow p.b (C.toList.take (p.o+q)++vs++C.toList.drop (p.o+q+vs.length)).toArray) p { b with cs:=splice b.cs q xs }:=by
 have hsp:(p.o+q)<=C.toList.length:=by simp;omega
 have hvl:vs.length=xs.length:=hl.1.symm
 have hlen:(Jq.splice b.cs q xs).length=max b.cs.length (q+xs.length):=by simp [Jq.splice];omega
 refine ⟨_,e,(0,0),setRow_heap w _ _ _ _ _ hC,?_,?_,fun i c hc=>?_,fun _=>rfl⟩
 ·simp [←htot];omega
 ·simp only [hlen];simp;omega
 ·simp only [Jq.splice] at hc
  rw [Zpb hq] at hc
  have hget:=Zpb (xs:=vs) (i:=p.o+i) hsp
  simp only [Yac]
  rw [hget,hvl]
  split at hc
  ·rename_i h2
   rw [if_pos (by omega)]
   obtain ⟨u,hu,hr⟩:=hat i c hc
   exact ⟨u,by simpa using hu,relC.mono ext hr⟩
  ·rename_i h2
   rw [if_neg (by omega)]
   split at hc
   ·rename_i h3
    rw [if_pos (by omega)]
    obtain ⟨u,hu,hr⟩:=hl.get hc
    refine ⟨u,?_,relC.mono ext hr⟩
    rw [←hu];congr 1;omega
   ·rename_i h3
    rw [if_neg (by omega)]
    obtain ⟨u,hu,hr⟩:=hat i c hc
    exact ⟨u,by simpa using hu,relC.mono ext hr⟩
theorem AtB.drop {p:Pl} {b:Blk} {n:Nat} (r:AtB S ρ h w p b) (hn:n<=b.cs.length):AtB S ρ h w ⟨p.b,p.o+n,p.tot⟩ { b with cs:=b.cs.drop n }:=by
 obtain ⟨C,e,fz,h1,h2,h3,h4,h5⟩:=r
 refine ⟨C,e,fz,h1,h2,by simp;omega,fun i c hc=>?_,h5⟩
 simp only [Yg] at hc
 obtain ⟨v,hv,hr⟩:=h4 _ c hc
 exact ⟨v,by rw [←hv];congr 1;simp only;omega,hr⟩
theorem AtB.cs {p:Pl} {b:Blk} {cs:List Cell} (r:AtB S ρ h w p b) (hc:b.cs=cs):AtB S ρ h w p { b with cs:=cs }:=by subst hc;exact r
theorem FI.swap (f:FI S B sl h w ρ σ) {k:Nat} {b:Blk} (hb:blk? h k=some b) (hown:b.own=true) (esz:Nat) (cs:List Cell) (pl:Pl)
  (hpl:pl.b=(ρ k).b∨w.heap.size<=pl.b) (hat:∀ρ' h',Ext h ρ h' ρ'->AtB S ρ' h' w' pl ⟨true,esz,cs⟩) (hw:∀x,x≠pl.b->x<w.heap.size->w'.heap[x]? = w.heap[x]?)
  (hsz:w.heap.size<=w'.heap.size) (ho:w'.os=w.os) (ht:w'.tape=w.tape) (hu:w'.output=w.output) :
  ∃ρ',FI S B sl (setBlk h k none++[some ⟨true,esz,cs⟩]) w' ρ' σ/\Tr sl h w ρ σ sl (setBlk h k none++[some ⟨true,esz,cs⟩]) w' ρ' σ /\
   Step h w ρ (setBlk h k none++[some ⟨true,esz,cs⟩]) w' ρ'/\ρ' h.length=pl:=by
 have hk:=Zir hb
 have hlen:(setBlk h k none).length=h.length:=Zbw h k none
 have hoth:∀j b2,j≠h.length->blk? (setBlk h k none++[some ⟨true,esz,cs⟩]) j=some b2->(blk? h j=some b2/\(if j=h.length then pl else ρ j)=ρ j)/\j≠k:=by
  intro j b2 hj hb2
  rcases Zrf hb2 with ⟨h1,_⟩ | ⟨h1,h2⟩
  ·exact absurd (h1.trans hlen) hj
  ·rw [Zfp hk] at h2
   by_cases hjk:j=k
   ·simp [hjk] at h2
   ·simp only [hjk,if_false] at h2
    exact ⟨⟨h2,by simp [hj]⟩,hjk⟩
 have e0:Ext h ρ (setBlk h k none++[some ⟨true,esz,cs⟩]) (fun j=>if j=h.length then pl else ρ j):=by
  refine ⟨by simp [hlen],fun j b' hj hb'=>?_⟩
  obtain ⟨⟨h1,_⟩,_⟩:=hoth j b' (by omega) hb'
  exact ⟨b',h1,Yd _,rfl,fun _=>by simp [Nat.ne_of_lt hj]⟩
 have hnew:blk? (setBlk h k none++[some ⟨true,esz,cs⟩]) h.length=some ⟨true,esz,cs⟩:=by rw [←hlen,Zbj]
 have hfr:(∃k0 b0,blk? h k0=some b0/\b0.own=true/\(ρ k0).b=pl.b/\∀j b2,j≠h.length->blk? (setBlk h k none++[some ⟨true,esz,cs⟩]) j=some b2->j≠k0)∨w.heap.size<=pl.b :=
  hpl.imp (fun hp=>⟨k,b,hb,hown,hp.symm,fun j b2 hj hb2=>(hoth j b2 hj hb2).2⟩) id
 have hi:=HI.put (S:=S) (w':=w') (k:=h.length) (pl:=pl) f.hi e0 hnew (by simp) (fun j b2 hj hb2=>(hoth j b2 hj hb2).1) (hat _ _ e0) hw hfr
 have st:=Step.put (w:=w) (w':=w') (k:=h.length) (pl:=pl) e0 hnew (by simp) (fun j b2 hj hb2=>(hoth j b2 hj hb2).1) hw (hfr.imp (fun ⟨k0,b0,h1,h2,h3,_⟩=>⟨k0,b0,h1,h2,h3⟩) id) hsz ho ht hu
 obtain ⟨f',t'⟩:=f.step hi st
 exact ⟨_,f',t',st,by simp⟩
end
section
variable {S:Seat} {B:Nat} {sl sl':Ze} {h h':Za} {w w':World} {ρ:Rho} {σ:Nat->Nat} {o:Oper} {ev:Operand->Value} {tv:TV}
theorem Src.news {esz:Nat} {xs:List Cell} {v:Value} {n:Nat} (s:Src S ρ h w esz xs v n) :
  ∃us:List Value,L2 (relC S ρ h) xs us/\us.length=n*esz/\((∃c,v=.slice none n c/\n=0)∨∃a c,v=.slice (some a) n c/\∀(j:Nat) (u:Value),us[j]? = some u->w.cell? (a.add j)=some u):=by
 rcases s.val with ⟨c,hv,h0⟩ | ⟨a,c,hv,us,hl,hu⟩
 ·have hx:xs=[]:=by have:=s.len;rw [h0] at this;simpa using this
  exact ⟨[],by rw [hx];exact L2.nil,by simp [h0],.inl ⟨c,hv,h0⟩⟩
 ·exact ⟨us,hl,by rw [←hl.1];exact s.len,.inr ⟨a,c,hv,hu⟩⟩
theorem op_app {t e:TypeId} {a b:Operand} {esz bytes:Nat} {i:TypeInfo} {z:Value} {x y:TV} (hop:o.op=.call ⟨.builtin .append,#[a,b],#[t,t]⟩) (hd:S.P.underlying t=some (.slice e)) (hi:S.P.info? e=some i) (hz:i.zero=some z)
  (hzs:z.cells.size=i.size) (hn:i.size=esz) (hby:i.bytes=bytes) (he0:esz≠0) (f:FI S B sl h w ρ σ) (hx:relT S ρ σ sl h w x (ev a)) (hy:relT S ρ σ sl h w y (ev b))
  (hs:Zca x (fun c=>(Zji h esz y).bind fun cs=>Zaq esz bytes c cs h fun c h=>some (TV.v (.c c),sl,h))=some (tv,sl',h')):Done S B sl h w ρ σ ((execOp ev o).run S.P w) tv sl' h':=by
 obtain ⟨c,rfl,rx,hs⟩:=Zcw hx hs
 obtain ⟨xs,hxs,hs⟩:=bind_some hs
 obtain ⟨m,src⟩:=src_of f hy hxs
 obtain ⟨us,hl,hul,hv⟩:=src.news
 have hm:xs.length / esz=m:=by rw [src.len];exact Yaz _ (by omega)
 have hmax:maxBytes=1099511627776:=rfl
 subst hn;subst hby
 have hex:(execOp ev o).run S.P w=((Builtin.append_ #[t,t] o.type #[ev a,ev b]).run S.P w).andThen fun v w'=>.ok (.value v) w':=by simp [execOp,hop,resolve,invoke,builtin]
 rcases appK_inv hs with ⟨rfl,h0,hg⟩ | ⟨rfl,h0,h1,h2,hg⟩ | ⟨k,N,off,len,bl,rfl,hb,h0,hN,hle,h1,h2,hg⟩ | ⟨k,N,off,len,bl,rfl,hb,hown,hesz,hN,hle,h1,h2,hg⟩
 ·-- nothing behind nothing
  cases Zc hg
  have hva:ev a=.slice none 0 0:=rx
  have hm0:m=0:=by rw [src.len] at h0;exact (Nat.mul_eq_zero.1 h0).resolve_right he0
  subst hm0
  refine Done.pure f (v:=.slice none 0 0) ?_ rfl
  rw [hex,hva]
  rcases hv with ⟨cc,hvb,_⟩ | ⟨ad,cc,hvb,_⟩
  ·rw [hvb];simp [Builtin.append_,run_underlying hd,Zan hi,Builtin.lenOf,Builtin.firstCells]
  ·have hlc:(loadCells ad 0).run S.P w=.ok #[] w:=rfl
   rw [hvb];simp [Builtin.append_,run_underlying hd,Zan hi,Builtin.lenOf,Builtin.firstCells,hlc]
 ·-- a new row
  cases Zc hg
  rw [hm] at h1 h2 ⊢
  have hva:ev a=.slice none 0 0:=rx
  have hm0:0<m:=by
   rcases Yay m with h | h
   ·rw [h] at src;have:=src.len;simp at this;exact absurd (by simp [this]) h0
   ·exact h
  obtain ⟨cap,w2,C,hr,hc1,hC,hCs,hCt,hw,ho,ht,hu⟩:=Zfg (w:=w) t o.type e i z hd hi hz hzs 0 0 (ev a) [] (by simp) (.inl ⟨hva,rfl,rfl⟩) (ev b) m us hul hv (by omega) (Yd _) (by omega) (by simpa using h1)
  simp only [Ybh,Yad] at hCt hr hc1
  have hcs:∀(j:Nat) (c:Cell),xs[j]? = some c->∃v,C[j]? = some v/\relC S ρ h c v:=by
   intro j c hc
   obtain ⟨u,hu,hr⟩:=hl.get hc
   refine ⟨u,?_,hr⟩
   rw [←hCt,Yc] at hu
   split at hu
   ·simpa using hu
   ·cases hu
  refine Done.new (w':=w2) (C:=C) (e:=e) (n:=m) (c:=cap) f ?_ hcs hw hC ho ht hu (.inr ⟨?_,rfl,hc1,fun _=>⟨?_,hCs.symm⟩⟩)
  ·rw [src.len,hCs];exact Yf _ hc1
  ·rw [hex,hr];rfl
  ·rw [src.len];exact Yf _ hc1
 ·-- behind a clipped row: a new one
  cases Zc hg
  rw [hm] at h0 h1 h2 ⊢
  obtain ⟨hk,ad,hva,hrr⟩:=rx
  obtain ⟨_,hrr⟩:=hrr bl hb
  have had:=hrr hN
  obtain ⟨C,el,fz,hC,htot,hsz,hat,hfz⟩:=f.hi.blks k bl hb
  have hml:xs.length=m*i.size:=src.len
  have hol:((bl.cs.drop off).take (len*i.size)).length=len*i.size:=by simp;omega
  obtain ⟨olds,hlo,hold⟩:=Zsj (xs:=(bl.cs.drop off).take (len*i.size)) (o:=(ρ k).o+off) hC fun j c hc=>by
   rw [Yc] at hc
   split at hc
   ·rw [Yg] at hc
    obtain ⟨u,hu,hr⟩:=hat _ c hc
    exact ⟨u,by rw [←hu];congr 1;omega,hr⟩
   ·cases hc
  obtain ⟨cap,w2,C2,hr,hc1,hC2,hCs,hCt,hw,ho,ht,hu⟩:=Zfg (w:=w) t o.type e i z hd hi hz hzs len len (ev a) olds (by rw [←hlo.1];exact hol) (.inr ⟨ad,hva,by rw [had];exact hold⟩) (ev b) m us hul hv (by omega) (Yd _) (by omega) h1
  have hlen:((bl.cs.drop off).take (len*i.size)++xs).length=(len+m)*i.size:=by rw [Ym,hol,hml,Yaa]
  have hcs:∀(j:Nat) (c:Cell),((bl.cs.drop off).take (len*i.size)++xs)[j]? = some c->∃v,C2[j]? = some v/\relC S ρ h c v:=by
   intro j c hc
   obtain ⟨u,hu,hr⟩:=(hlo.append hl).get hc
   refine ⟨u,?_,hr⟩
   rw [←hCt,Yc] at hu
   split at hu
   ·simpa using hu
   ·cases hu
  have hn:len*i.size+xs.length=((bl.cs.drop off).take (len*i.size)++xs).length:=by rw [Ym,hol]
  rw [hn]
  refine Done.new (w':=w2) (C:=C2) (e:=e) (n:=len+m) (c:=cap) f ?_ hcs hw hC2 ho ht hu (.inr ⟨?_,rfl,hc1,fun _=>⟨?_,hCs.symm⟩⟩)
  ·rw [hlen,hCs];exact Yf _ hc1
  ·rw [hex,hr];rfl
  ·rw [hlen];exact Yf _ hc1
 ·-- behind a row of the program's own
  rw [hm] at h1 h2 hg
  obtain ⟨hk,ad,cp,hva,hlc,hrr⟩:=rx
  obtain ⟨_,hrr⟩:=hrr bl hb
  obtain ⟨hcN,hca⟩:=hrr hN
  rw [hesz] at hcN
  have hcN:=hcN he0
  obtain ⟨C,el,fz,hC,htot,hsz,hat,hfz⟩:=f.hi.blks k bl hb
  rw [hfz hown] at hC
  have hml:xs.length=m*i.size:=src.len
  have hmul:(len+m)*i.size=len*i.size+m*i.size:=Yaa _ _ _
  have hk':=Zir hb
  have hnl:∀b',blk? (setBlk h k (some b')) k=some b':=fun b'=>by rw [Zfp hk'];simp
  by_cases hroom:len+m<=cp
  ·-- in its room
   rcases hca with ⟨hc0,hab⟩ | ⟨rfl,hca⟩
   ·-- no room,and nothing to add
    have hm0:m=0:=by omega
    have hl0:len=0:=by omega
    subst hm0;subst hl0
    have hxs0:xs=[]:=by simpa using hml
    have hus0:us=[]:=by simpa using hul
    subst hxs0;subst hus0
    have hsame:setBlk h k (some { bl with cs:=splice bl.cs (off+0*i.size) [] })=h:=by
     have h1:splice bl.cs (off+0*i.size) []=bl.cs:=by simp [splice]
     rw [h1]
     apply Yz
     intro j
     unfold setBlk
     rw [Yy]
     by_cases hj:k=j
     ·subst hj
      simp only [if_true,hk',Nat.lt_irrefl]
      unfold blk? at hb
      cases hq:h[k]? with
      | none=>simp [hq] at hb
      | some q=>simp [hq] at hb;simp [hb]
     ·simp [hj]
    have hb1:(.sl k N off (0+0),h)=(Cell.sl k N off (0+0),h):=rfl
    rcases hg with ⟨_,hg⟩ | ⟨hgt,_,_⟩ | ⟨hgt,_,_⟩
    ·cases Zc hg
     rw [hsame]
     refine Done.pure f (v:=ev a) ?_ ?_
     ·rw [hex,hva]
      have hst:∀ad':Addr,(storeCells ad' []).run S.P w=.ok () w:=fun _=>rfl
      rcases hv with ⟨cc,hvb,_⟩ | ⟨ad2,cc,hvb,_⟩
      ·rw [hvb];simp [Builtin.append_,run_underlying hd,Zan hi,Builtin.lenOf,Builtin.firstCells,hc0,hst]
      ·have hlc:(loadCells ad2 0).run S.P w=.ok #[] w:=rfl
       rw [hvb];simp [Builtin.append_,run_underlying hd,Zan hi,Builtin.lenOf,Builtin.firstCells,hlc,hc0,hst]
     ·refine ⟨hk,ad,cp,by simpa using hva,by omega,fun b2 hb2=>?_⟩
      rw [hb] at hb2;cases hb2
      exact ⟨by omega,fun _=>⟨fun _=>by rw [hesz];exact hcN,.inl ⟨hc0,hab⟩⟩⟩
    ·simp at hgt;omega
    ·simp at hgt;omega
   ·have hca:=hca (by rw [hesz];exact he0)
    rw [hesz] at hca
    have hcmul:(len+m)*i.size<=cp*i.size:=Yf _ hroom
    have hfit:(ρ k).o+(off+len*i.size)+xs.length<=C.size:=by omega
    have hst:=run_storeCells_at S.P (ρ k).b ((ρ k).o+off+len*i.size) el us 0 C w hC (by rw [←hl.1];omega) (Zoh hl)
    simp only [Yr] at hst
    have hr:=Zph (w:=w) t o.type e i hd hi (ρ k).b ((ρ k).o+off) len cp (ev b) m us hul hv hroom hst
    rw [←hva] at hr
    have hat':∀ρ' h',Ext h ρ h' ρ'->AtB S ρ' h' (w.setRow (ρ k).b (C.toList.take ((ρ k).o+off+len*i.size)++us++C.toList.drop ((ρ k).o+off+len*i.size+us.length)).toArray) (ρ k) { bl with cs:=splice bl.cs (off+len*i.size) xs }:=by
     intro ρ' h' ext
     have:=AtB.splice (b:=bl) (q:=off+len*i.size) hC htot hat hl (by omega) hfit hsz ext
     rw [show (ρ k).o+(off+len*i.size)=(ρ k).o+off+len*i.size by omega] at this
     exact this
    rcases hg with ⟨hfN,hg⟩ | ⟨hfN,ho0,hg⟩ | ⟨hfN,ho0,hg⟩
    ·cases Zc hg
     have hsl:(splice bl.cs (off+len*i.size) xs).length=bl.cs.length:=Zbf (by omega)
     obtain ⟨ρ',f',t',_,st,hp⟩:=FI.write (w':=w.setRow (ρ k).b (C.toList.take ((ρ k).o+off+len*i.size)++us++C.toList.drop ((ρ k).o+off+len*i.size+us.length)).toArray) f hb hown (splice bl.cs (off+len*i.size) xs) (ρ k)
      (.inl ⟨rfl,by omega⟩) hat' (fun x hx _=>Zcf w _ _ hx) (by simp) rfl rfl rfl
     refine ⟨_,_,ρ',.inl (by rw [hex,hr];rfl),⟨by rw [Zbw];exact hk,_,cp,rfl,hroom,fun b2 hb2=>?_⟩,f',t',Adv.of_step st⟩
     rw [hnl] at hb2;cases hb2
     refine ⟨by simp only [hsl];omega,fun _=>⟨fun _=>by simp only [hesz];exact hcN,.inr ⟨by rw [hp],fun _=>by rw [hp];simp only [hesz];exact hca⟩⟩⟩
    ·cases Zc hg
     subst ho0
     have hsp:splice bl.cs (0+len*i.size) xs=bl.cs.take (len*i.size)++xs:=by
      unfold splice
      rw [Yad,Yao (by omega),Ybi]
     have hsl:(bl.cs.take (len*i.size)++xs).length=len*i.size+xs.length:=by simp;omega
     rw [hsp] at hat'
     obtain ⟨ρ',f',t',_,st,hp⟩:=FI.write (w':=w.setRow (ρ k).b (C.toList.take ((ρ k).o+0+len*i.size)++us++C.toList.drop ((ρ k).o+0+len*i.size+us.length)).toArray) f hb hown (bl.cs.take (len*i.size)++xs) (ρ k)
      (.inl ⟨rfl,by omega⟩) hat' (fun x hx _=>Zcf w _ _ hx) (by simp) rfl rfl rfl
     refine ⟨_,_,ρ',.inl (by rw [hex,hr];rfl),⟨by rw [Zbw];exact hk,_,cp,rfl,hroom,fun b2 hb2=>?_⟩,f',t',Adv.of_step st⟩
     rw [hnl] at hb2;cases hb2
     refine ⟨by simp only [hsl];omega,fun _=>⟨fun _=>by simp only [hesz];omega,.inr ⟨by rw [hp],fun _=>by rw [hp];simp only [hesz];exact hca⟩⟩⟩
    ·cases Zc hg
     have hsp:(splice bl.cs (off+len*i.size) xs).drop off=(bl.cs.drop off).take (len*i.size)++xs:=by
      unfold splice
      rw [Yao (as:=bl.cs) (by omega),Ybi,List.drop_append_of_le_length (by simp;omega),List.drop_take,Yam]
     have hsl:((bl.cs.drop off).take (len*i.size)++xs).length=len*i.size+xs.length:=by simp;omega
     have hbig:(splice bl.cs (off+len*i.size) xs).length=off+len*i.size+xs.length:=by simp [splice];omega
     obtain ⟨ρ',f',t',st,hp⟩:=FI.swap (w':=w.setRow (ρ k).b (C.toList.take ((ρ k).o+off+len*i.size)++us++C.toList.drop ((ρ k).o+off+len*i.size+us.length)).toArray) f hb hown i.size ((bl.cs.drop off).take (len*i.size)++xs) ⟨(ρ k).b,(ρ k).o+off,(ρ k).tot⟩
      (.inl rfl) (fun ρ' h' ext=>by
       have h1:=AtB.drop (n:=off) (hat' ρ' h' ext) (by simp only [hbig];omega)
       have h2:=AtB.cs h1 hsp
       obtain ⟨C,e,fz,q1,q2,q3,q4,q5⟩:=h2
       exact ⟨C,e,fz,q1,q2,q3,q4,fun _=>q5 hown⟩) (fun x hx _=>Zcf w _ _ hx) (by simp) rfl rfl rfl
     have hlen2:(setBlk h k none).length=h.length:=Zbw h k none
     refine ⟨_,_,ρ',.inl (by rw [hex,hr];rfl),⟨by simp [hlen2],_,cp,rfl,hroom,fun b2 hb2=>?_⟩,f',t',Adv.of_step st⟩
     rw [←hlen2,Zbj] at hb2;cases hb2
     refine ⟨by simp only [hsl];omega,fun _=>⟨fun _=>by simp only;omega,.inr ⟨by rw [hp,Yr],fun _=>by rw [hp];simp only;omega⟩⟩⟩
  ·-- beyond it
   have hsls:Zah h i.size (.sl k N off len)=some ((bl.cs.drop off).take (len*i.size)):=by
    simp only [Zah]
    split
    ·rename_i h0;simp [h0]
    ·simp [hb,hN,hle]
   obtain ⟨n0,src0⟩:=src_sl (c:=.sl k N off len) (v:=ev a) f.hi ⟨hk,ad,cp,hva,hlc,fun b2 hb2=>by
    rw [hb] at hb2;cases hb2
    exact ⟨by omega,fun _=>⟨fun _=>by rw [hesz];exact hcN,hca⟩⟩⟩ hsls
   obtain ⟨olds,hlo,hlol,hvo⟩:=src0.news
   have hn0:n0=len:=by
    rcases hvo with ⟨c,hc,_⟩ | ⟨a2,c,hc,_⟩
    ·rw [hva] at hc;cases hc
    ·rw [hva] at hc;cases hc;rfl
   subst hn0
   have hbase:∃b,ev a=.slice (some b) n0 cp/\∀(j:Nat) (u:Value),olds[j]? = some u->w.cell? (b.add j)=some u:=by
    rcases hvo with ⟨c,hc,_⟩ | ⟨a2,c,hc,hcc⟩
    ·rw [hva] at hc;cases hc
    ·have hc':=hc
     rw [hva] at hc';cases hc'
     exact ⟨_,hc,hcc⟩
   obtain ⟨cap,w2,C2,hr,hc1,hC2,hCs,hCt,hw,ho,ht,hu⟩:=Zfg (w:=w) t o.type e i z hd hi hz hzs n0 cp (ev a) olds hlol (.inr hbase) (ev b) m us hul hv (by omega) hlc (by omega) h1
   have hLL:L2 (relC S ρ h) ((bl.cs.drop off).take (n0*i.size)++xs) (olds++us):=hlo.append hl
   have hsl:((bl.cs.drop off).take (n0*i.size)++xs).length=n0*i.size+xs.length:=by simp;omega
   have hlt2:w.heap.size<w2.heap.size:=Zei hC2
   have hcapm:(n0+m)*i.size<=cap*i.size:=Yf _ hc1
   have hnew:∀ρ' h' (bb:Blk),bb.cs=(bl.cs.drop off).take (n0*i.size)++xs->Ext h ρ h' ρ'->AtB S ρ' h' w2 ⟨w.heap.size,0,C2.size⟩ bb:=by
    intro ρ' h' bb hbb ext
    refine ⟨C2,e,(0,0),hC2,rfl,by rw [hbb,hsl];simp only;omega,fun j c hc=>?_,fun _=>rfl⟩
    rw [hbb] at hc
    obtain ⟨u,hu,hr⟩:=hLL.get hc
    refine ⟨u,?_,relC.mono ext hr⟩
    rw [←hCt,Yc] at hu
    split at hu
    ·simpa using hu
    ·cases hu
   have hbeyond:N<off+n0*i.size+xs.length:=by
    have:(cp+1)*i.size<=(n0+m)*i.size:=Yf _ (by omega)
    have h3:(cp+1)*i.size=cp*i.size+i.size:=Yae _ _
    omega
   rcases hg with ⟨hfN,_⟩ | ⟨hfN,ho0,hg⟩ | ⟨hfN,ho0,hg⟩
   ·omega
   ·cases Zc hg
    subst ho0
    have hdz:bl.cs.take (n0*i.size)++xs=(bl.cs.drop 0).take (n0*i.size)++xs:=by simp
    obtain ⟨ρ',f',t',_,st,hp⟩:=FI.write (w':=w2) f hb hown (bl.cs.take (n0*i.size)++xs) ⟨w.heap.size,0,C2.size⟩
     (.inr ⟨Yd _,by rw [hdz,hsl];omega⟩) (fun ρ' h' ext=>hnew ρ' h' _ hdz ext) (fun x _ hx=>hw x hx) (Yal hlt2) ho ht hu
    refine ⟨_,_,ρ',.inl (by rw [hex,hr];rfl),⟨by rw [Zbw];exact hk,_,cap,rfl,hc1,fun b2 hb2=>?_⟩,f',t',Adv.of_step st⟩
    rw [hnl] at hb2;cases hb2
    refine ⟨by simp only [hdz,hsl];omega,fun _=>⟨fun _=>by simp only [hesz];omega,.inr ⟨by rw [hp],fun _=>by rw [hp];simp only [hesz];omega⟩⟩⟩
   ·cases Zc hg
    obtain ⟨ρ',f',t',st,hp⟩:=FI.swap (w':=w2) f hb hown i.size ((bl.cs.drop off).take (n0*i.size)++xs) ⟨w.heap.size,0,C2.size⟩
     (.inr (Yd _)) (fun ρ' h' ext=>hnew ρ' h' _ rfl ext) (fun x _ hx=>hw x hx) (Yal hlt2) ho ht hu
    have hlen2:(setBlk h k none).length=h.length:=Zbw h k none
    refine ⟨_,_,ρ',.inl (by rw [hex,hr];rfl),⟨by simp [hlen2],_,cap,rfl,hc1,fun b2 hb2=>?_⟩,f',t',Adv.of_step st⟩
    rw [←hlen2,Zbj] at hb2;cases hb2
    refine ⟨by simp only [hsl];omega,fun _=>⟨fun _=>by simp only;omega,.inr ⟨by rw [hp],fun _=>by rw [hp];simp only;omega⟩⟩⟩
end
section
variable {S:Seat} {B:Nat} {sl sl':Ze} {h h':Za} {w w':World} {ρ:Rho} {σ:Nat->Nat} {o:Oper} {ev:Operand->Value} {tv:TV}
theorem Zwq (off:Nat):∀(vs:List Value) (j:Nat) (C:Array Value),off+j+vs.length<=C.size ->
  ((vs.zipIdx j).foldl (fun cs (x:Value × Nat)=>cs.setIfInBounds (off+x.2) x.1) C).toList=C.toList.take (off+j)++vs++C.toList.drop (off+j+vs.length)
 | [],j,C,_=>by simp
 | v :: vs,j,C,hl=>by
  simp only [Ybe] at hl
  have ih:=Zwq off vs (j+1) (C.setIfInBounds (off+j) v) (by simp;omega)
  simp only [List.zipIdx_cons,List.foldl_cons,ih]
  have e:=list_seg_step C.toList (off+j) v vs (by simp;omega)
  simpa [Array.toList_setIfInBounds,Yu] using e
theorem fill_one {off:Nat} {v:Value} {C:Array Value} (hl:off+v.cells.size<=C.size) :
  (v.cells.zipIdx.foldl (fun cs (c,j)=>cs.setIfInBounds (off+j) c) C).toList=C.toList.take off++v.cells.toList++C.toList.drop (off+v.cells.size):=by
 have:=Zwq off v.cells.toList 0 C (by simpa using hl)
 simp only [Yr,Yag] at this
 rw [←this,←Array.foldl_toList]
 congr 2
 simp
theorem Zmw {place:Nat->Option (Nat × Nat)} {α:Type} {g:List Cell->Option α} {y:α}:∀(ps:List (Nat × Nat)) (xs:List TV) (vals:List (Nat × Value)) (cs:List Cell) (C:Array Value),
  vals.map (fun p=>place p.1)=ps.map some->L2 (relT S ρ σ sl h w) xs (vals.map (·.2))->L2 (relC S ρ h) cs C.toList->Zcl ps xs cs g=some y ->
  ∃cs' C',g cs'=some y/\Instr.fill place C vals=some C'/\L2 (relC S ρ h) cs' C'.toList/\cs'.length=cs.length
 | [],xs,vals,cs,C,hp,hx,hc,hs=>by
  have hv:vals=[]:=by simpa using hp
  subst hv
  have:xs=[]:=by have:=hx.1;simpa using this
  subst this
  exact ⟨cs,C,hs,rfl,hc,rfl⟩
 | (off,n) :: ps,xs,vals,cs,C,hp,hx,hc,hs=>by
  cases vals with
  | nil=>simp at hp
  | cons v0 vals =>
   obtain ⟨ix,v⟩:=v0
   cases xs with
   | nil=>have:=hx.1;simp at this
   | cons x xs =>
    cases x with
    | v z =>
     simp only [Zcl] at hs
     obtain ⟨⟨h1,h2⟩,hs⟩:=Zj hs
     simp only [Yau,List.cons.injEq] at hp
     have hz:=relA.cells (S:=S) (ρ:=ρ) (h:=h) (show relA S ρ h z v from hx.head)
     have hzl:z.cells.length=v.cells.size:=by simpa using hz.1
     have hCl:cs.length=C.size:=by simpa using hc.1
     have hone:=fill_one (off:=off) (v:=v) (C:=C) (by omega)
     have hnew:L2 (relC S ρ h) (splice cs off z.cells) (v.cells.zipIdx.foldl (fun cs (c,j)=>cs.setIfInBounds (off+j) c) C).toList:=by
      rw [hone]
      unfold splice
      rw [hzl]
      exact ((hc.take off).append hz).append (hc.drop _)
     obtain ⟨cs',C',g1,g2,g3,g4⟩:=Zmw ps xs vals _ _ hp.2 hx.tail hnew hs
     refine ⟨cs',C',g1,?_,g3,by rw [g4,Zbf (by omega)]⟩
     have hcond:¬(v.cells.size≠n∨off+v.cells.size > C.size):=by omega
     simp only [Instr.fill,hp.1]
     rw [if_neg (by simpa using hcond)]
     exact g2
    | tup l=>simp [Zcl] at hs
    | loc a b=>simp [Zcl] at hs
    | lit a b=>simp [Zcl] at hs
    | top=>simp [Zcl] at hs
end
def mC:Cell->Value->Bool
 | .int k n,.int k' m=>decide (k=k')&&decide (n=m)
 | .bool a,.bool b=>a==b
 | .str a,.string b=>decide (a.data.toList=b.data.toList)
 | .nilp,.pointer none=>true
 | .nils,.slice none 0 0=>true
 | .nilf,.nilFunc=>true
 | .nili,.nilIface=>true
 | _,_=>false
theorem Zxv {c:Cell} {v:Value} (hm:mC c v=true) (S:Seat) (ρ:Rho) (h:Za):relC S ρ h c v:=by
 unfold mC at hm
 split at hm
 ·simp at hm;obtain ⟨rfl,rfl⟩:=hm;rfl
 ·simp at hm;subst hm;rfl
 ·rename_i a b
  simp at hm
  have:a=b:=by
   obtain ⟨a⟩:=a;obtain ⟨b⟩:=b
   simp at hm;rw [hm]
  rw [this];rfl
 ·rfl
 ·rfl
 ·rfl
 ·rfl
 ·cases hm
def mCs:List Cell->List Value->Bool
 | [],[]=>true
 | c :: cs,v :: vs=>mC c v&&mCs cs vs
 | _,_=>false
theorem Zek:∀{cs:List Cell} {vs:List Value} (_:mCs cs vs=true) (S:Seat) (ρ:Rho) (h:Za),L2 (relC S ρ h) cs vs
 | [],[],_,_,_,_=>L2.nil
 | c :: cs,v :: vs,hm,S,ρ,h=>by
  simp only [mCs,Ya] at hm
  exact L2.cons (Zxv hm.1 S ρ h) (Zek hm.2 S ρ h)
 | [],_ :: _,hm,_,_,_=>by simp [mCs] at hm
 | _ :: _,[],hm,_,_,_=>by simp [mCs] at hm
section
variable {S:Seat} {B:Nat} {sl sl':Ze} {h h':Za} {w w':World} {ρ:Rho} {σ:Nat->Nat} {o:Oper} {ev:Operand->Value} {tv:TV}
def Zhx (P:Program) (t:TypeId):Nat->Option (Nat × Nat) :=
 match P.underlying t with
 | some (.array _ e)=>match P.info? e with | some ie=>fun i=>some (i*ie.size,ie.size) | none=>fun _=>none
 | some (.struct fs)=>match fs.toList.mapM (fun f=>(P.info? f.type).map fun i=>(f.offset,i.size)) with | some places=>(places.toArray[·]?) | none=>fun _=>none
 | _=>fun _=>none
theorem built_of {P:Program} {t:TypeId} {i:TypeInfo} {z:Value} {vals:List (Nat × Value)} {C:Array Value} (hi:P.info? t=some i) (hz:i.zero=some z)
  (hf:Instr.fill (Zhx P t) z.cells vals=some C) (hd:(∃n e ie,P.underlying t=some (.array n e)/\P.info? e=some ie)∨∃fs pl,P.underlying t=some (.struct fs)/\fs.toList.mapM (fun f=>(P.info? f.type).map fun i=>(f.offset,i.size))=some pl) :
  P.built t vals=some C:=by
 rcases hd with ⟨n,e,ie,hu,he⟩ | ⟨fs,pl,hu,hp⟩
 ·simp only [Zhx,hu,he] at hf
  simp [Program.built,hi,hu,hz,he,hf]
 ·simp only [Zhx,hu,hp] at hf
  simp only [Program.built,hi,hu,hz,hp];exact hf
def Zvc (P:Program) (t:TypeId):Bool :=
 match P.underlying t with
 | some (.array _ e)=>(P.info? e).isSome
 | some (.struct fs)=>(fs.toList.mapM (fun f=>(P.info? f.type).map fun i=>(f.offset,i.size))).isSome
 | _=>false
theorem op_build {t:TypeId} {i:TypeInfo} {zv:Value} {z:List Cell} {parts:Array (Nat × Operand)} {ps:List (Nat × Nat)} {xs:List TV} (hop:o.op=.build t parts) (hi:S.P.info? t=some i) (hz:i.zero=some zv) (hzz:mCs z zv.cells.toList=true) (hok:Zvc S.P t=true)
  (hps:parts.toList.map (fun p=>Zhx S.P t p.1)=ps.map some) (f:FI S B sl h w ρ σ) (hx:L2 (relT S ρ σ sl h w) xs (parts.toList.map fun p=>ev p.2))
  (hs:Zcl ps xs z (fun cs=>some (TV.v (.agg cs),sl,h))=some (tv,sl',h')):Done S B sl h w ρ σ ((execOp ev o).run S.P w) tv sl' h':=by
 obtain ⟨cs,C,hg,hf,hl,_⟩:=Zmw (place:=Zhx S.P t) ps xs (parts.toList.map fun p=>(p.1,ev p.2)) z zv.cells (by rw [Yn];exact hps) (by rw [Yn];exact hx) (Zek hzz S ρ h) hs
 cases Zc hg
 have hd:(∃n e ie,S.P.underlying t=some (.array n e)/\S.P.info? e=some ie)∨∃fs pl,S.P.underlying t=some (.struct fs)/\fs.toList.mapM (fun f=>(S.P.info? f.type).map fun i=>(f.offset,i.size))=some pl:=by
  unfold Zvc at hok
  split at hok
  ·rename_i n e hu;obtain ⟨ie,he⟩:=Yw.1 hok;exact .inl ⟨n,e,ie,hu,he⟩
  ·rename_i fs hu;obtain ⟨pl,he⟩:=Yw.1 hok;exact .inr ⟨fs,pl,hu,he⟩
  ·cases hok
 have hb:S.P.built t (parts.map fun (i,x)=>(i,ev x)).toList=some C:=by
  refine built_of hi hz ?_ hd
  rw [Yt]
  exact hf
 exact Done.pure f (v:=.agg C) (by simp [execOp,hop,run_build w t _ C hb]) ⟨C,rfl,hl⟩
def Zst (zv:Value) (n size:Nat):Array Value:=(Array.range (n*size)).map (zv.cells[· % zv.cells.size]!)
theorem Zjr {P:Program} {t e:TypeId} {i:TypeInfo} {zv:Value} {n:Nat} {vals:Array (Nat × Value)} {C:Array Value} (hd:P.underlying t=some (.slice e)) (hi:P.info? e=some i) (hz:i.zero=some zv) (hsm:n*i.size<=2 ^ 24)
  (hf:Instr.fill (fun j=>some (j*i.size,i.size)) (Zst zv n i.size) vals.toList=some C):(Instr.buildSlice t n vals).run P w=.ok (.slice (some ⟨w.heap.size,0,none⟩) n n) (w.alloc (.cells C e)):=by
 have hsm':¬(2 ^ 24<n*i.size):=by omega
 by_cases h0:n*i.size=0
 ·have hr:Zst zv n i.size=#[]:=by simp [Zst,h0,Array.range_zero']
  rw [hr] at hf
  simp [Instr.buildSlice,run_underlying hd,Zan hi,h0,Array.range_zero',hf,newRow]
 ·unfold Zst at hf
  unfold Instr.buildSlice
  simp only [Sem.run_bind,run_underlying hd,Result.andThen_ok,Zan hi]
  simp [hsm',h0,Zqg hi hz,hf,newRow]
theorem Zq803 {t e:TypeId} {n esz:Nat} {i:TypeInfo} {zv:Value} {z:List Cell} {parts:Array (Nat × Operand)} {ps:List (Nat × Nat)} {xs:List TV} (hop:o.op=.buildSlice t n parts) (hd:S.P.underlying t=some (.slice e)) (hi:S.P.info? e=some i) (hz:i.zero=some zv)
  (hsz:i.size=esz) (hsm:n*esz<=2 ^ 24) (hzz:mCs z (Zst zv n esz).toList=true) (hps:parts.toList.map (fun p=>some (p.1*esz,esz))=ps.map some) (f:FI S B sl h w ρ σ) (hx:L2 (relT S ρ σ sl h w) xs (parts.toList.map fun p=>ev p.2))
  (hs:Zcl ps xs z (fun cs=>if cs.length=n*esz then some (TV.v (.c (.sl h.length cs.length 0 n)),sl,h++[some ⟨true,esz,cs⟩]) else none)=some (tv,sl',h')):Done S B sl h w ρ σ ((execOp ev o).run S.P w) tv sl' h':=by
 obtain ⟨cs,C,hg,hf,hl,_⟩:=Zmw (place:=fun j=>some (j*esz,esz)) ps xs (parts.toList.map fun p=>(p.1,ev p.2)) z (Zst zv n esz) (by rw [Yn];exact hps) (by rw [Yn];exact hx) (Zek hzz S ρ h) hs
 obtain ⟨hlen,hg⟩:=Zj hg
 cases Zc hg
 subst hsz
 have hCl:cs.length=C.size:=by simpa using hl.1
 have hr:=Zjr (w:=w) (vals:=parts.map fun (i,x)=>(i,ev x)) hd hi hz hsm (by rw [Yt];exact hf)
 refine Done.new (w':=w.alloc (.cells C e)) (C:=C) (e:=e) (n:=n) (c:=n) f (by omega) (fun j c hc=>by obtain ⟨u,hu,hr⟩:=hl.get hc;exact ⟨u,by simpa using hu,hr⟩)
  (fun x hx=>Zbv w _ hx) (Zbg w _) rfl rfl rfl (.inr ⟨by simp [execOp,hop,hr],rfl,Yd _,fun _=>⟨by omega,by omega⟩⟩)
theorem op_lit {t e:TypeId} {n esz:Nat} {i:TypeInfo} {zv:Value} {z:List Cell} {parts:Array (Nat × Operand)} {ps:List (Nat × Nat)} {xs:List TV} (hop:o.op=.buildSlice t n parts) (hd:S.P.underlying t=some (.slice e)) (hi:S.P.info? e=some i) (hz:i.zero=some zv)
  (hsz:i.size=esz) (hsm:n*esz<=2 ^ 24) (hzz:mCs z (Zst zv n esz).toList=true) (hps:parts.toList.map (fun p=>some (p.1*esz,esz))=ps.map some) (f:FI S B sl h w ρ σ) (hx:L2 (relT S ρ σ sl h w) xs (parts.toList.map fun p=>ev p.2))
  (hs:Zcl ps xs z (fun cs=>if cs.length=n*esz then some (TV.lit esz cs,sl,h) else none)=some (tv,sl',h')):Done S B sl h w ρ σ ((execOp ev o).run S.P w) tv sl' h':=by
 obtain ⟨cs,C,hg,hf,hl,_⟩:=Zmw (place:=fun j=>some (j*esz,esz)) ps xs (parts.toList.map fun p=>(p.1,ev p.2)) z (Zst zv n esz) (by rw [Yn];exact hps) (by rw [Yn];exact hx) (Zek hzz S ρ h) hs
 obtain ⟨hlen,hg⟩:=Zj hg
 cases Zc hg
 subst hsz
 have hCl:cs.length=C.size:=by simpa using hl.1
 have hr:=Zjr (w:=w) (vals:=parts.map fun (i,x)=>(i,ev x)) hd hi hz hsm (by rw [Yt];exact hf)
 have hw:∀x,x<w.heap.size->(w.alloc (.cells C e)).heap[x]? = w.heap[x]?:=fun x hx=>Zbv w _ hx
 have hn:=Zbg w (.cells C e)
 have hsz2:w.heap.size<(w.alloc (.cells C e)).heap.size:=Zei hn
 have st:Step h w ρ h (w.alloc (.cells C e)) ρ:=Step.same hw (Yal hsz2) rfl rfl rfl
 obtain ⟨f',t'⟩:=f.step (f.hi.same hw) st
 refine ⟨.slice (some ⟨w.heap.size,0,none⟩) n n,_,ρ,.inl (by simp [execOp,hop,hr]),⟨w.heap.size,n,C,e,(0,0),rfl,hlen.symm,hn,hl,fun k bl hb _ hp=>?_,fun s cs hs hp=>?_⟩,f',t',Adv.of_step st⟩
 ·have:=AtB.lt (f.hi.blks k bl hb);omega
 ·have:=AtS.lt (f.sls s cs hs);omega
theorem rep_get {z:List Cell} {n j:Nat} {c:Cell} (hc:(rep n z)[j]? = some c):j<n*z.length/\z[j % z.length]? = some c:=by
 induction n generalizing j with
 | zero=>simp [rep] at hc
 | succ n ih =>
  have hr:rep (n+1) z=z++rep n z:=by simp [rep,Yai]
  rw [hr] at hc
  by_cases h1:j<z.length
  ·rw [Yb h1] at hc
   rw [Nat.mod_eq_of_lt h1,Yae]
   exact ⟨by omega,hc⟩
  ·rw [Ye (by omega)] at hc
   obtain ⟨h2,h3⟩:=ih hc
   rw [Yae]
   refine ⟨by omega,?_⟩
   rw [Nat.mod_eq_sub_mod (by omega)];exact h3
theorem Zqi (n:Nat) (z:List Cell):(rep n z).length=n*z.length:=by
 induction n with
 | zero=>simp [rep]
 | succ n ih =>
  have hr:rep (n+1) z=z++rep n z:=by simp [rep,Yai]
  rw [hr,Ym,ih,Yae];omega
theorem op_mks {t e:TypeId} {a b:Operand} {esz bytes:Nat} {i:TypeInfo} {zv:Value} {z:List Cell} {x y:TV} (hop:o.op=.makeSlice t a b) (hd:S.P.underlying t=some (.slice e)) (hi:S.P.info? e=some i) (hz:i.zero=some zv)
  (hsz:i.size=esz) (hby:i.bytes=bytes) (hzl:zv.cells.size=esz) (hzz:mCs z zv.cells.toList=true) (f:FI S B sl h w ρ σ) (hx:relT S ρ σ sl h w x (ev a)) (hy:relT S ρ σ sl h w y (ev b))
  (hs:Zeq x (fun _ l=>Zeq y fun _ c=>if 0<=l/\l<=c/\c.toNat*bytes<=maxBytes/\c<=(maxBytes:Nat) then some (TV.v (.c (.sl h.length (rep l.toNat z).length 0 l.toNat)),sl,h++[some ⟨true,esz,rep l.toNat z⟩]) else none)=some (tv,sl',h')) :
  Done S B sl h w ρ σ ((execOp ev o).run S.P w) tv sl' h':=by
 obtain ⟨k,l,_,ex,hs⟩:=Zfa hx hs
 obtain ⟨k',c,_,ey,hs⟩:=Zfa hy hs
 obtain ⟨⟨h0,h1,h2,h3⟩,hg⟩:=Zj hs
 cases Zc hg
 have hmax:maxBytes=1099511627776:=rfl
 subst hsz;subst hby
 have hL:=Zek hzz S ρ h
 have hzl2:z.length=i.size:=by have:=hL.1;simp only [Yag] at this;omega
 have hby2:(i.bytes:Int)*c<=281474976710656:=by
  have hc0:((c.toNat:Nat):Int)=c:=Yaw (by omega)
  have:((c.toNat*i.bytes:Nat):Int)<=281474976710656:=by omega
  rw [Int.natCast_mul,hc0] at this
  rw [Int.mul_comm];exact this
 have hr:=run_make (P:=S.P) w t e i zv hd hi hz k k' l c h0 h1 hby2 (by omega)
 have hlc:l.toNat<=c.toNat:=by omega
 have hmul:l.toNat*i.size<=c.toNat*i.size:=Yf _ hlc
 have hCs:(madeCells zv.cells (c.toNat*i.size)).size=c.toNat*i.size:=size_madeCells _ _
 refine Done.new (w':=w.alloc (.cells (madeCells zv.cells (c.toNat*i.size)) e)) (C:=madeCells zv.cells (c.toNat*i.size)) (e:=e) (n:=l.toNat) (c:=c.toNat) f ?_ (fun j cc hc=>?_)
  (fun x hx=>Zbv w _ hx) (Zbg w _) rfl rfl rfl (.inr ⟨by simp [execOp,hop,ex,ey,hr],rfl,hlc,fun _=>⟨?_,hCs.symm⟩⟩)
 ·rw [Zqi,hzl2,hCs];exact hmul
 ·obtain ⟨hj,hg⟩:=rep_get hc
  obtain ⟨u,hu,hrel⟩:=hL.get hg
  refine ⟨u,?_,hrel⟩
  rw [hzl2] at hj hu
  have hj2:j<c.toNat*i.size:=by omega
  have hu2:zv.cells[j % i.size]? = some u:=by simpa using hu
  simp [madeCells,hj2,hzl]
  simp [getElem!_def,hu2]
 ·rw [Zqi,hzl2];exact hmul
theorem Zq748 {α:Type} {esz:Nat} {d s:Cell} {g:Int->Za->Option α} {y:α} (hs:Zho esz d s h g=some y) :
  ∃xs,Zah h esz s=some xs/\((d=.nils/\g 0 h=some y)∨∃k N off len b,d=.sl k N off len/\blk? h k=some b/\b.own=true/\b.cs.length=N/\off+len*esz<=N /\
   g ((min (xs.length / esz) len:Nat):Int) (setBlk h k (some { b with cs:=splice b.cs off (xs.take (min (xs.length / esz) len*esz)) }))=some y):=by
 unfold Zho at hs
 obtain ⟨xs,hxs,hs⟩:=bind_some hs
 refine ⟨xs,hxs,?_⟩
 split at hs
 ·exact .inl ⟨rfl,hs⟩
 ·obtain ⟨b,hb,hs⟩:=bind_some hs
  obtain ⟨⟨h1,h2,h3⟩,hs⟩:=Zj hs
  exact .inr ⟨_,_,_,_,b,rfl,hb,h1,h2,h3,hs⟩
 ·cases hs
theorem op_copy {t t2 e:TypeId} {a b:Operand} {esz:Nat} {i:TypeInfo} {x y:TV} (hop:o.op=.call ⟨.builtin .copy,#[a,b],#[t,t2]⟩) (hd:S.P.underlying t=some (.slice e)) (hi:S.P.info? e=some i)
  (hn:i.size=esz) (he0:esz≠0) (f:FI S B sl h w ρ σ) (hx:relT S ρ σ sl h w x (ev a)) (hy:relT S ρ σ sl h w y (ev b))
  (hs:Zca x (fun d=>Zca y fun s=>Zho esz d s h fun n h=>some (TV.v (.c (.int .i64 n)),sl,h))=some (tv,sl',h')):Done S B sl h w ρ σ ((execOp ev o).run S.P w) tv sl' h':=by
 obtain ⟨d,rfl,rd,hs⟩:=Zcw hx hs
 obtain ⟨s,rfl,rs,hs⟩:=Zcw hy hs
 obtain ⟨xs,hxs,hs⟩:=Zq748 hs
 obtain ⟨m,src⟩:=src_sl f.hi rs hxs
 obtain ⟨us,hl,hul,hv⟩:=src.news
 have hm:xs.length / esz=m:=by rw [src.len];exact Yaz _ (by omega)
 subst hn
 have hex:(execOp ev o).run S.P w=((Builtin.copy_ #[t,t2] o.type #[ev a,ev b]).run S.P w).andThen fun v w'=>.ok (.value v) w':=by simp [execOp,hop,resolve,invoke,builtin]
 have hfc:∀n,n<=m->(Builtin.firstCells i.size n (ev b)).run S.P w=.ok (us.take (n*i.size)).toArray w:=by
  intro n hn
  rcases hv with ⟨c,hvb,h0⟩ | ⟨ad,c,hvb,hu⟩
  ·have:n=0:=by omega
   subst this
   have hus:us=[]:=by simpa [h0] using hul
   rw [hvb,hus];simp [Builtin.firstCells]
  ·have hmul:n*i.size<=m*i.size:=Yf _ hn
   have:=run_loadCells_list (P:=S.P) w ad (us.take (n*i.size)) (fun j v hj=>by
    rw [Yc] at hj
    split at hj
    ·exact hu j v hj
    ·cases hj)
   rw [List.length_take,Nat.min_eq_left (by omega)] at this
   rw [hvb];simp [Builtin.firstCells,this]
 have hlen:(Builtin.lenOf (ev b)).run S.P w=.ok m w:=by
  rcases hv with ⟨c,hvb,h0⟩ | ⟨ad,c,hvb,hu⟩<;>rw [hvb]<;>simp [Builtin.lenOf]
 rcases hs with ⟨rfl,hg⟩ | ⟨k,N,off,len,bl,rfl,hb,hown,hN,hle,hg⟩
 ·cases Zc hg
  have hva:ev a=.slice none 0 0:=rd
  refine Done.pure f (v:=goInt 0) ?_ rfl
  rw [hex,hva]
  simp [Builtin.copy_,run_underlying hd,Zan hi,hlen,hfc 0 (by omega)]
 ·cases Zc hg
  rw [hm]
  obtain ⟨hk,ad,cp,hva,hlc,hrr⟩:=rd
  obtain ⟨_,hrr⟩:=hrr bl hb
  obtain ⟨_,hca⟩:=hrr hN
  obtain ⟨C,el,fz,hC,htot,hsz,hat,hfz⟩:=f.hi.blks k bl hb
  rw [hfz hown] at hC
  have hmn:min m len<=m:=Nat.min_le_left _ _
  have hmn2:min m len*i.size<=len*i.size:=Yf _ (Nat.min_le_right _ _)
  have hmn3:min m len*i.size<=m*i.size:=Yf _ hmn
  have hl':L2 (relC S ρ h) (xs.take (min m len*i.size)) (us.take (min m len*i.size)):=hl.take _
  have hxl:(xs.take (min m len*i.size)).length=min m len*i.size:=by have:=src.len;simp;omega
  have hul':(us.take (min m len*i.size)).length=min m len*i.size:=by simp;omega
  have hrun:∀w',(storeCells ad (us.take (min m len*i.size))).run S.P w=.ok () w'->(execOp ev o).run S.P w=.ok (.value (goInt (min m len:Nat))) w':=by
   intro w' hst
   rw [hex,hva]
   have h1:=hfc (min m len) hmn
   have hmm:m.min len=min m len:=rfl
   simp only [Builtin.copy_,Yac,List.getElem?_cons_zero,List.getElem?_cons_succ]
   simp [run_underlying hd,Zan hi,hlen,hmm,h1,hst]
  rcases hca with ⟨hc0,_⟩ | ⟨rfl,_⟩
  ·-- an empty row
   have hl0:len=0:=by omega
   subst hl0
   have hmin0:min m 0=0:=Nat.min_zero m
   have hsame:setBlk h k (some { bl with cs:=splice bl.cs off (xs.take (min m 0*i.size)) })=h:=by
    have h1:splice bl.cs off (xs.take (min m 0*i.size))=bl.cs:=by rw [hmin0];simp [splice]
    rw [h1]
    have hk':=Zir hb
    apply Yz
    intro j
    unfold setBlk
    rw [Yy]
    by_cases hj:k=j
    ·subst hj
     simp only [if_true,hk']
     unfold blk? at hb
     cases hq:h[k]? with
     | none=>simp [hq] at hb
     | some q=>simp [hq] at hb;simp [hb]
    ·simp [hj]
   rw [hsame]
   exact Done.pure f (hrun w (by rw [hmin0];simp [storeCells])) rfl
  ·have hst:=run_storeCells_at S.P (ρ k).b ((ρ k).o+off) el (us.take (min m len*i.size)) 0 C w hC (by rw [hul'];omega) (Zoh hl')
   simp only [Yr] at hst
   have hsl:(splice bl.cs off (xs.take (min m len*i.size))).length=bl.cs.length:=Zbf (by omega)
   obtain ⟨ρ',f',t',_,st,hp⟩:=FI.write (w':=w.setRow (ρ k).b (C.toList.take ((ρ k).o+off)++us.take (min m len*i.size)++C.toList.drop ((ρ k).o+off+(us.take (min m len*i.size)).length)).toArray) f hb hown (splice bl.cs off (xs.take (min m len*i.size))) (ρ k)
    (.inl ⟨rfl,by omega⟩) (fun ρ' h' ext=>AtB.splice (b:=bl) (q:=off) hC htot hat hl' (by omega) (by omega) hsz ext) (fun x hx _=>Zcf w _ _ hx) (by simp) rfl rfl rfl
   exact ⟨_,_,ρ',.inl (hrun _ hst),rfl,f',t',Adv.of_step st⟩
end
section
variable {S:Seat} {B:Nat} {sl sl':Ze} {h h':Za} {w w':World} {ρ:Rho} {σ:Nat->Nat} {o:Oper} {ev:Operand->Value} {tv:TV}
theorem eqNil_p {α:Type} {neg:Bool} {x:Cell} {g:Bool->Option α} {r:α} (hs:Zcm neg x .nilp g=some r):(x=.nilp/\g (!neg)=some r)∨∃k N off,x=.ptr k N off/\g neg=some r:=by
 cases x<;>first | exact .inl ⟨rfl,hs⟩ | exact .inr ⟨_,_,_,rfl,hs⟩ | cases hs
theorem eqNil_s {α:Type} {neg:Bool} {x:Cell} {g:Bool->Option α} {r:α} (hs:Zcm neg x .nils g=some r):(x=.nils/\g (!neg)=some r)∨(∃k N off len,x=.sl k N off len∨x=.csl k N off len)/\g neg=some r:=by
 cases x<;>first | exact .inl ⟨rfl,hs⟩ | exact .inr ⟨⟨_,_,_,_,.inl rfl⟩,hs⟩ | exact .inr ⟨⟨_,_,_,_,.inr rfl⟩,hs⟩ | cases hs
theorem eqNil_f {α:Type} {neg:Bool} {x:Cell} {g:Bool->Option α} {r:α} (hs:Zcm neg x .nilf g=some r):(x=.nilf/\g (!neg)=some r)∨∃f cs,x=.fn f cs/\g neg=some r:=by
 cases x<;>first | exact .inl ⟨rfl,hs⟩ | exact .inr ⟨_,_,rfl,hs⟩ | cases hs
theorem Zlh {neg:Bool} {t yt:TypeId} {a b:Operand} {va vb:Value} {r:Bool} (hop:o.op=.binOp (if neg then .neq else .eql) t a b yt) (h1:ev a=va) (h2:ev b=vb) (h3:∀(op:BinOp) (u v:Operand),(eqGuard op t u v va vb).run S.P w=.ok () w)
  (h4:(binOp .eql t va vb).run S.P w=.ok (.bool r) w) (h5:(binOp .neq t va vb).run S.P w=.ok (.bool (!r)) w):(execOp ev o).run S.P w=.ok (.value (.bool (if neg then !r else r))) w:=by
 cases neg
 ·simp [execOp,hop,h1,h2,h3,h4]
 ·simp [execOp,hop,h1,h2,h3,h5]
theorem Zq753 {neg:Bool} {t yt e:TypeId} {a b:Operand} {x:TV} (hop:o.op=.binOp (if neg then .neq else .eql) t a b yt) (hd:S.P.underlying t=some (.pointer e)) (f:FI S B sl h w ρ σ) (hx:relT S ρ σ sl h w x (ev a)) (hvb:ev b=.pointer none)
  (hs:Zca x (fun x=>Zcm neg x .nilp fun b=>some (TV.v (.c (.bool b)),sl,h))=some (tv,sl',h')):Done S B sl h w ρ σ ((execOp ev o).run S.P w) tv sl' h':=by
 obtain ⟨c,rfl,rc,hs⟩:=Zcw hx hs
 have hpt:S.P.underlying t=some (.pointer (S.P.pointee t)):=by simp [Program.pointee,hd]
 have gp:∀(p q:Option Addr) (op:BinOp) (u v:Operand),(eqGuard op t u v (.pointer p) (.pointer q)).run S.P w=.ok () w:=by
  intro p q op u v;cases op<;>simp [eqGuard]
 rcases eqNil_p hs with ⟨rfl,hg⟩ | ⟨k,N,off,rfl,hg⟩
 ·cases Zc hg
  have hva:ev a=.pointer none:=rc
  have hr:=Zlh (S:=S) (w:=w) (r:=true) hop hva hvb (gp _ _) (by rw [run_eql_pointer_nil w t none hpt];rfl) (by rw [run_neq_pointer_nil w t none hpt];rfl)
  exact Done.pure f (v:=.bool !neg) (by rw [hr];cases neg<;>rfl) rfl
 ·cases Zc hg
  obtain ⟨_,⟨ad,hva⟩,_⟩:=rc
  have hr:=Zlh (S:=S) (w:=w) (r:=false) hop hva hvb (gp _ _) (by rw [run_eql_pointer_nil w t _ hpt];rfl) (by rw [run_neq_pointer_nil w t _ hpt];rfl)
  exact Done.pure f (v:=.bool neg) (by rw [hr];cases neg<;>rfl) rfl
theorem Zq773 {neg:Bool} {t yt e:TypeId} {a b:Operand} {x:TV} (hop:o.op=.binOp (if neg then .neq else .eql) t a b yt) (hd:S.P.underlying t=some (.slice e)) (f:FI S B sl h w ρ σ) (hx:relT S ρ σ sl h w x (ev a)) (hvb:ev b=.slice none 0 0)
  (hs:Zca x (fun x=>Zcm neg x .nils fun b=>some (TV.v (.c (.bool b)),sl,h))=some (tv,sl',h')):Done S B sl h w ρ σ ((execOp ev o).run S.P w) tv sl' h':=by
 obtain ⟨c,rfl,rc,hs⟩:=Zcw hx hs
 have gs:∀(p:Option Addr) (l c:Nat) (op:BinOp) (u v:Operand),(eqGuard op t u v (.slice p l c) (.slice none 0 0)).run S.P w=.ok () w:=by
  intro p l c op u v;cases op<;>simp [eqGuard]
 rcases eqNil_s hs with ⟨rfl,hg⟩ | ⟨⟨k,N,off,len,hx⟩,hg⟩
 ·cases Zc hg
  have hva:ev a=.slice none 0 0:=rc
  have hr:=Zlh (S:=S) (w:=w) (r:=true) hop hva hvb (gs _ _ _) (by simp [binOp,run_equal_slice_nil w t e _ _ _ hd]) (by rw [run_neq_slice_nil w t e _ _ _ hd];rfl)
  exact Done.pure f (v:=.bool !neg) (by rw [hr];cases neg<;>rfl) rfl
 ·cases Zc hg
  have ⟨ad,cp,hva⟩:∃ad cp,ev a=.slice (some ad) len cp:=by
   rcases hx with rfl | rfl
   ·obtain ⟨_,ad,cp,hva,_⟩:=rc;exact ⟨ad,cp,hva⟩
   ·obtain ⟨_,ad,hva,_⟩:=rc;exact ⟨ad,len,hva⟩
  have hr:=Zlh (S:=S) (w:=w) (r:=false) hop hva hvb (gs _ _ _) (by simp [binOp,run_equal_slice_nil w t e _ _ _ hd]) (by rw [run_neq_slice_nil w t e _ _ _ hd];rfl)
  exact Done.pure f (v:=.bool neg) (by rw [hr];cases neg<;>rfl) rfl
theorem Zon {P:Program} (d:Nat) (t:TypeId) {p1 p2:Array TypeId} {p3:Bool} (hd:P.underlying t=some (.func p1 p2 p3)):(Op.equalIn (d+1) t .nilFunc .nilFunc).run P w=.ok true w:=by
 simp [Op.equalIn,run_underlying hd]
theorem Zpg {P:Program} (d:Nat) (t:TypeId) {p1 p2:Array TypeId} {p3:Bool} (g:Go.Fn) (a b:Array Value) (hd:P.underlying t=some (.func p1 p2 p3)):(Op.equalIn (d+1) t (.func g a b) .nilFunc).run P w=.ok false w:=by
 simp [Op.equalIn,run_underlying hd]
theorem Zjq {P:Program} (t:TypeId) {p1 p2:Array TypeId} {p3:Bool} (hd:P.underlying t=some (.func p1 p2 p3)):(Op.equal t .nilFunc .nilFunc).run P w=.ok true w:=Zon 9999 t hd
theorem Zkx {P:Program} (t:TypeId) {p1 p2:Array TypeId} {p3:Bool} (g:Go.Fn) (a b:Array Value) (hd:P.underlying t=some (.func p1 p2 p3)):(Op.equal t (.func g a b) .nilFunc).run P w=.ok false w:=Zpg 9999 t g a b hd
theorem Zq759 {neg:Bool} {t yt:TypeId} {p1:Array TypeId} {p2:Array TypeId} {p3:Bool} {a b:Operand} {x:TV} (hop:o.op=.binOp (if neg then .neq else .eql) t a b yt) (hd:S.P.underlying t=some (.func p1 p2 p3)) (f:FI S B sl h w ρ σ) (hx:relT S ρ σ sl h w x (ev a)) (hvb:ev b=.nilFunc)
  (hs:Zca x (fun x=>Zcm neg x .nilf fun b=>some (TV.v (.c (.bool b)),sl,h))=some (tv,sl',h')):Done S B sl h w ρ σ ((execOp ev o).run S.P w) tv sl' h':=by
 obtain ⟨c,rfl,rc,hs⟩:=Zcw hx hs
 rcases eqNil_f hs with ⟨rfl,hg⟩ | ⟨g,cs,rfl,hg⟩
 ·cases Zc hg
  have hva:ev a=.nilFunc:=rc
  have hr:=Zlh (S:=S) (w:=w) (r:=true) hop hva hvb (fun op u v=>by cases op<;>simp [eqGuard]) (by simp [binOp,Zjq t hd]) (by simp [binOp,Zjq t hd])
  exact Done.pure f (v:=.bool !neg) (by rw [hr];cases neg<;>rfl) rfl
 ·cases Zc hg
  obtain ⟨vs,hva,_⟩:=rc
  have hr:=Zlh (S:=S) (w:=w) (r:=false) hop hva hvb (fun op u v=>by cases op<;>simp [eqGuard]) (by simp [binOp,Zkx t _ _ _ hd]) (by simp [binOp,Zkx t _ _ _ hd])
  exact Done.pure f (v:=.bool neg) (by rw [hr];cases neg<;>rfl) rfl
theorem Zxo (w:World) (b n:Nat) (C:Array Value) (e:TypeId) (hC:w.heap[b]? = some (.cells C e (0,0))):(w.freeze ⟨b,n,none⟩ 1).heap[b]? = some (.cells C e (n,n+1)):=by
 have hlt:=Zei hC
 simp [World.freeze,Yar,hC]
theorem Zvf (w:World) (b n x:Nat) (hx:x≠b):(w.freeze ⟨b,n,none⟩ 1).heap[x]? = w.heap[x]?:=by
 simp [World.freeze,Yar,Ne.symm hx]
theorem Zq767 {α:Type} {x:Cell} {g:Cell->Za->Option α} {y:α} (hs:Zmc x h g=some y) :
  ∃k N off len b,x=.sl k N off len/\blk? h k=some b/\b.own=true/\b.cs.length=N/\g (.sl k N off len) (setBlk h k (some { b with own:=false }))=some y:=by
 unfold Zmc at hs
 split at hs
 ·obtain ⟨b,hb,hs⟩:=bind_some hs
  obtain ⟨⟨h1,h2⟩,hs⟩:=Zj hs
  exact ⟨_,_,_,_,b,rfl,hb,h1,h2,hs⟩
 ·cases hs
theorem op_mark {s e:TypeId} {a:Operand} {x:TV} (hop:o.op=.convert s s a) (hs0:S.P.underlying s=some (.slice e)) (he:S.P.underlying e=some (.int .u8)) (f:FI S B sl h w ρ σ) (hx:relT S ρ σ sl h w x (ev a))
  (hs:Zca x (fun c=>Zmc c h fun c h=>some (TV.v (.c c),sl,h))=some (tv,sl',h')):Done S B sl h w ρ σ ((execOp ev o).run S.P w) tv sl' h':=by
 obtain ⟨c,rfl,rc,hs⟩:=Zcw hx hs
 obtain ⟨k,N,off,len,b,rfl,hb,hown,hN,hg⟩:=Zq767 hs
 cases Zc hg
 obtain ⟨hk,ad,cp,hva,hlc,hr⟩:=rc
 obtain ⟨hN2,hr⟩:=hr b hb
 obtain ⟨h1,h2⟩:=hr hN
 have hab:ad.block=(ρ k).b:=by
  rcases h2 with ⟨_,h⟩ | ⟨h,_⟩
  ·exact h
  ·rw [h]
 obtain ⟨C,el,fz,hC,htot,hsz,hat,hfz⟩:=f.hi.blks k b hb
 rw [hfz hown] at hC
 have hk':=Zir hb
 have hrun:(execOp ev o).run S.P w=.ok (.value (ev a)) (w.freeze ⟨(ρ k).b,C.size,none⟩ 1):=by
  have hsh:w.shape? (ρ k).b=some (el,C.size):=by simp [World.shape?,hC]
  simp [execOp,hop,hva,convert,run_underlying hs0,run_underlying he,markStringish,hsh,hab]
 have hw:∀x,x≠(ρ k).b->x<w.heap.size->(w.freeze ⟨(ρ k).b,C.size,none⟩ 1).heap[x]? = w.heap[x]?:=fun x hx _=>Zvf w _ _ x hx
 have hn:=Zxo w (ρ k).b C.size C el hC
 have hsz2:(w.freeze ⟨(ρ k).b,C.size,none⟩ 1).heap.size=w.heap.size:=by simp [World.freeze]
 have e0:Ext h ρ (setBlk h k (some { b with own:=false })) ρ:=by
  refine ⟨by rw [Zbw];exact Yd _,fun j b' hj hb'=>?_⟩
  rw [Zfp hk'] at hb'
  by_cases hjk:j=k
  ·subst hjk
   simp only [if_true] at hb'
   cases hb'
   exact ⟨b,hb,Yd _,rfl,fun _=>rfl⟩
  ·simp only [hjk,if_false] at hb'
   exact ⟨b',hb',Yd _,rfl,fun _=>rfl⟩
 have hnew:blk? (setBlk h k (some { b with own:=false })) k=some { b with own:=false }:=by rw [Zfp hk'];simp
 have hoth:∀j b2,j≠k->blk? (setBlk h k (some { b with own:=false })) j=some b2->blk? h j=some b2/\ρ j=ρ j:=by
  intro j b2 hj hb2
  rw [Zfp hk'] at hb2
  simp only [hj,if_false] at hb2
  exact ⟨hb2,rfl⟩
 have hi:=HI.put (S:=S) (w':=w.freeze ⟨(ρ k).b,C.size,none⟩ 1) (k:=k) (pl:=ρ k) f.hi e0 hnew rfl hoth
  ⟨C,el,_,hn,htot,hsz,fun i c hc=>let ⟨v,hv,hr⟩:=hat i c hc;⟨v,hv,relC.mono e0 hr⟩,fun h=>Yh h⟩ hw (.inl ⟨k,b,hb,hown,rfl,fun j b2 hj _=>hj⟩)
 have st:=Step.put (w:=w) (w':=w.freeze ⟨(ρ k).b,C.size,none⟩ 1) (k:=k) (pl:=ρ k) e0 hnew rfl hoth hw (.inl ⟨k,b,hb,hown,rfl⟩) (by rw [hsz2];exact Yd _) rfl rfl rfl
 obtain ⟨f',t'⟩:=f.step hi st
 exact ⟨ev a,_,ρ,.inl hrun,relT.mono t' (fun s off h=>by cases h) hx,f',t',Adv.of_step st⟩
end
def Zko (zo:TypeId->Option (List Cell)) (P:Program):Nat->List Field->Option (List Cell)
 | _,[]=>some []
 | off, f :: fs => if f.offset = off ∧ f.name ≠ "_" then
   match zo f.type,P.info? f.type,Zko zo P (off+((zo f.type).getD []).length) fs with
   | some z,some i,some zs=>if i.size=z.length/\z.length≠0 then some (z++zs) else none
   | _,_,_=>none
  else none
def zOf (P:Program):Nat->TypeId->Option (List Cell)
 | 0,_=>none
 | d+1,t=>match P.underlying t with
  | some (.int k)=>some [.int k 0]
  | some .bool=>some [.bool false]
  | some .string=>some [.str ⟨#[]⟩]
  | some (.array n e)=>match zOf P d e,P.info? e with
   | some z,some i=>if i.size=z.length/\z.length≠0 then some (rep n z) else none
   | _,_=>none
  | some (.struct fs)=>if P.stoodInHeld t=true then none else Zko (zOf P d) P 0 fs.toList
  | _=>none
theorem Zdp:∀{xs z:List Cell},alike xs z=true->xs.length=z.length
 | [],[],_=>rfl
 | x :: xs,y :: ys,h=>by simp only [alike,Ya] at h;simp [Zdp h.2]
 | [],_ :: _,h=>by simp [alike] at h
 | _ :: _,[],h=>by simp [alike] at h
theorem Zet:∀{z1 z2 xs:List Cell},alike xs (z1++z2)=true->alike (xs.take z1.length) z1=true/\alike (xs.drop z1.length) z2=true
 | [],z2,xs,h=>by simpa [alike] using h
 | y :: z1,z2,[],h=>by simp [alike] at h
 | y :: z1,z2,x :: xs,h=>by
  simp only [Ybf,alike,Ya] at h
  have:=Zet (z1:=z1) h.2
  simp only [Ybe,List.take_succ_cons,List.drop_succ_cons,alike,Ya]
  exact ⟨⟨h.1,this.1⟩,this.2⟩
section
variable {S:Seat} {B:Nat} {sl sl':Ze} {h h':Za} {w w':World} {ρ:Rho} {σ:Nat->Nat} {o:Oper} {ev:Operand->Value} {tv:TV}
def RepV (S:Seat) (ρ:Rho) (h:Za) (agg:Bool) (xs:List Cell) (v:Value):Prop :=
 if agg=true then ∃us:Array Value,v=.agg us/\L2 (relC S ρ h) xs us.toList else ∃c,xs=[c]/\relC S ρ h c v
def EqZ (P:Program) (d:Nat) (t:TypeId) (z:List Cell):Prop :=
 ∀(S:Seat) (ρ:Rho) (h:Za) (w:World) (dd:TypeDesc) (xs ys:List Cell) (x y:Value),P.underlying t=some dd->alike xs z=true->alike ys z=true->RepV S ρ h (Zhv dd) xs x->RepV S ρ h (Zhv dd) ys y ->
  ∀m,(Op.equalIn (d+m) t x y).run P w=.ok (decide (xs=ys)) w
theorem Znn {P:Program} {t:TypeId} {d:TypeDesc} {i:TypeInfo} {z xs:List Cell} {us:Array Value} {off:Nat} (hd:P.underlying t=some d) (hi:P.info? t=some i) (hz:i.size=z.length) (hone:Zhv d=false->z.length=1)
  (hl:L2 (relC S ρ h) xs us.toList) (hle:off+z.length<=xs.length):∃v,(part t us off).run P w=.ok v w/\RepV S ρ h (Zhv d) ((xs.drop off).take z.length) v:=by
 cases ha:Zhv d with
 | true =>
  refine ⟨_,Zwf hd ha hi,?_⟩
  unfold RepV
  simp only [if_true]
  exact ⟨_,rfl,by rw [hz];exact hl.extract off z.length⟩
 | false =>
  have h1:=hone ha
  have hlt:off<xs.length:=by omega
  obtain ⟨u,hu,hr⟩:=hl.get (show xs[off]? = some xs[off] by simp [hlt])
  refine ⟨u,Zlb hd ha (by simpa using hu),?_⟩
  unfold RepV
  simp only [Bool.false_eq_true,if_false]
  refine ⟨xs[off],?_,hr⟩
  rw [h1]
  apply Yz
  intro j
  rw [Yc,Yg]
  cases j with
  | zero=>simp [hlt]
  | succ j=>simp
theorem Zpl {P:Program} {d:Nat} {t:TypeId} {z:List Cell} {dd:TypeDesc} (hz:zOf P d t=some z) (hd:P.underlying t=some dd) (ha:Zhv dd=false):z.length=1:=by
 cases d with
 | zero=>simp [zOf] at hz
 | succ d =>
  simp only [zOf,hd] at hz
  cases dd<;>simp [Zhv] at ha hz
  all_goals (subst hz;rfl)
theorem zOf_und {P:Program} {d:Nat} {t:TypeId} {z:List Cell} (hz:zOf P d t=some z):∃dd,P.underlying t=some dd:=by
 cases d with
 | zero=>simp [zOf] at hz
 | succ d =>
  simp only [zOf] at hz
  cases hd:P.underlying t with
  | none=>simp [hd] at hz
  | some dd=>exact ⟨dd,rfl⟩
theorem Zmd {xs ys:List Cell} {n:Nat}:decide (xs=ys)=(decide (xs.take n=ys.take n)&&decide (xs.drop n=ys.drop n)):=by
 rw [Yaf]
 simp only [decide_eq_true_eq,Ya]
 constructor
 ·rintro rfl;exact ⟨rfl,rfl⟩
 ·rintro ⟨h1,h2⟩
  rw [←Yas n xs,←Yas n ys,h1,h2]
theorem Zmm {P:Program} {d:Nat} (IH:∀t z,zOf P d t=some z->EqZ P d t z) (m:Nat) {xs ys:List Cell} {us vs:Array Value} (hx:L2 (relC S ρ h) xs us.toList) (hy:L2 (relC S ρ h) ys vs.toList) :
  ∀(fs:List Field) (off:Nat) (z:List Cell),Zko (zOf P d) P off fs=some z->alike (xs.drop off) z=true->alike (ys.drop off) z=true ->
   (Op.eqFields (d+m) us vs fs).run P w=.ok (decide (xs.drop off=ys.drop off)) w
 | [],off,z,hz,ax,ay=>by
  simp [Zko] at hz
  subst hz
  have h1:=Zdp ax
  have h2:=Zdp ay
  have e1:xs.drop off=[]:=Yl h1
  have e2:ys.drop off=[]:=Yl h2
  simp [Op.eqFields,e1,e2]
 | f :: fs,off,z,hz,ax,ay=>by
  simp only [Zko] at hz
  obtain ⟨⟨hoff,hname⟩,hz⟩:=Zj hz
  cases hzf:zOf P d f.type with
  | none=>simp [hzf] at hz
  | some zf =>
   cases hif:P.info? f.type with
   | none=>simp [hif,hzf] at hz
   | some i =>
    simp only [hzf,hif,Option.getD_some] at hz
    cases hzr:Zko (zOf P d) P (off+zf.length) fs with
    | none=>simp [hzr] at hz
    | some zs =>
     simp only [hzr] at hz
     obtain ⟨⟨hsz,hzl⟩,hz⟩:=Zj hz
     cases Zc hz
     obtain ⟨dd,hdd⟩:=zOf_und hzf
     have hlx:=Zdp ax
     have hly:=Zdp ay
     simp only [Ybg,Ym] at hlx hly
     obtain ⟨ax1,ax2⟩:=Zet ax
     obtain ⟨ay1,ay2⟩:=Zet ay
     subst hoff
     obtain ⟨v1,hp1,hr1⟩:=Znn (w:=w) hdd hif hsz (fun ha=>Zpl hzf hdd ha) hx (off:=f.offset) (by omega)
     obtain ⟨v2,hp2,hr2⟩:=Znn (w:=w) hdd hif hsz (fun ha=>Zpl hzf hdd ha) hy (off:=f.offset) (by omega)
     have he:=IH _ _ hzf S ρ h w dd _ _ v1 v2 hdd ax1 ay1 hr1 hr2 m
     have hrec:=Zmm IH m hx hy fs (f.offset+zf.length) zs hzr (by rw [←Yak];exact ax2) (by rw [←Yak];exact ay2)
     simp only [Op.eqFields,ne_eq,hname,not_false_eq_true,if_true,Sem.run_bind,hp1,hp2,he,Result.andThen_ok]
     rw [Zmd (xs:=xs.drop f.offset) (ys:=ys.drop f.offset) (n:=zf.length)]
     cases hq:decide ((xs.drop f.offset).take zf.length=(ys.drop f.offset).take zf.length) with
     | false=>simp
     | true=>simp [hrec]
theorem rep_succ (n:Nat) (z:List Cell):rep (n+1) z=z++rep n z:=by simp [rep,Yai]
theorem Zpc {P:Program} {d:Nat} {e:TypeId} {z:List Cell} {i:TypeInfo} {dd:TypeDesc} (hd:P.underlying e=some dd) (hz:zOf P d e=some z) (IH:EqZ P d e z) (hi:P.info? e=some i) (hsz:i.size=z.length) (hz0:z.length≠0)
  (m:Nat) {xs ys:List Cell} {us vs:Array Value} (hx:L2 (relC S ρ h) xs us.toList) (hy:L2 (relC S ρ h) ys vs.toList) :
  ∀(n k:Nat),alike (xs.drop (k*z.length)) (rep n z)=true->alike (ys.drop (k*z.length)) (rep n z)=true ->
   (Op.eqItems (d+m) e z.length us vs (List.range' k n)).run P w=.ok (decide (xs.drop (k*z.length)=ys.drop (k*z.length))) w
 | 0,k,ax,ay=>by
  have h1:=Zdp ax
  have h2:=Zdp ay
  simp only [rep,List.replicate_zero,List.flatten_nil,List.length_nil] at h1 h2
  have e1:=Yl h1
  have e2:=Yl h2
  simp [Op.eqItems,e1,e2]
 | n+1,k,ax,ay=>by
  rw [rep_succ] at ax ay
  have hlx:=Zdp ax
  have hly:=Zdp ay
  simp only [Ybg,Ym] at hlx hly
  obtain ⟨ax1,ax2⟩:=Zet ax
  obtain ⟨ay1,ay2⟩:=Zet ay
  have hk:(k+1)*z.length=k*z.length+z.length:=Yae _ _
  rw [Yak,←hk] at ax2 ay2
  obtain ⟨v1,hp1,hr1⟩:=Znn (w:=w) hd hi hsz (fun ha=>Zpl hz hd ha) hx (off:=k*z.length) (by omega)
  obtain ⟨v2,hp2,hr2⟩:=Znn (w:=w) hd hi hsz (fun ha=>Zpl hz hd ha) hy (off:=k*z.length) (by omega)
  have he:=IH S ρ h w dd _ _ v1 v2 hd ax1 ay1 hr1 hr2 m
  have hrec:=Zpc hd hz IH hi hsz hz0 m hx hy n (k+1) ax2 ay2
  simp only [List.range'_succ,Op.eqItems,Sem.run_bind,hp1,hp2,he,Result.andThen_ok]
  rw [Zmd (xs:=xs.drop (k*z.length)) (ys:=ys.drop (k*z.length)) (n:=z.length)]
  cases hq:decide ((xs.drop (k*z.length)).take z.length=(ys.drop (k*z.length)).take z.length) with
  | false=>simp
  | true=>simp only [Yak,←hk,Bool.true_and];simp [hrec]
theorem Zuw {P:Program}:∀(d:Nat) (t:TypeId) (z:List Cell),zOf P d t=some z->EqZ P d t z
 | 0,t,z,hz=>by simp [zOf] at hz
 | d+1,t,z,hz=>by
  intro S ρ h w dd xs ys x y hd ax ay rx ry m
  have hdm:d+1+m=(d+m)+1:=by omega
  rw [hdm]
  simp only [zOf,hd] at hz
  cases dd with
  | int k =>
   cases Zc hz
   obtain ⟨c,rfl,rc⟩:=rx
   obtain ⟨c',rfl,rc'⟩:=ry
   obtain ⟨a,rfl⟩:∃a,c=.int k a:=by
    cases c<;>simp [alike,alike1] at ax
    rename_i q a;exact ⟨a,by rw [ax]⟩
   obtain ⟨b,rfl⟩:∃a,c'=.int k a:=by
    cases c'<;>simp [alike,alike1] at ay
    rename_i q a;exact ⟨a,by rw [ay]⟩
   have hx:x=.int k a:=rc
   have hy:y=.int k b:=rc'
   subst hx;subst hy
   rw [run_equalIn_int w (d+m) t k k a b hd]
   congr 1
   rw [Yaf];simp
  | bool =>
   cases Zc hz
   obtain ⟨c,rfl,rc⟩:=rx
   obtain ⟨c',rfl,rc'⟩:=ry
   cases c<;>simp [alike,alike1] at ax
   cases c'<;>simp [alike,alike1] at ay
   rename_i a b
   have hx:x=.bool a:=rc
   have hy:y=.bool b:=rc'
   subst hx;subst hy
   rw [run_equalIn_bool w (d+m) t a b hd]
   congr 1
   rw [Yaf];simp
  | string =>
   cases Zc hz
   obtain ⟨c,rfl,rc⟩:=rx
   obtain ⟨c',rfl,rc'⟩:=ry
   cases c<;>simp [alike,alike1] at ax
   cases c'<;>simp [alike,alike1] at ay
   rename_i a b
   have hx:x=.string a:=rc
   have hy:y=.string b:=rc'
   subst hx;subst hy
   rw [run_equalIn_string w (d+m) t a b hd]
   congr 1
   rw [Yaf,beq_iff_eq,ByteArray.toList_eq,ByteArray.toList_eq]
   obtain ⟨⟨a⟩⟩:=a
   obtain ⟨⟨b⟩⟩:=b
   simp
  | array n e =>
   simp only at hz
   cases hze:zOf P d e with
   | none=>simp [hze] at hz
   | some ze =>
    cases hie:P.info? e with
    | none=>simp [hze,hie] at hz
    | some i =>
     simp only [hze,hie] at hz
     obtain ⟨⟨hsz,hz0⟩,hz⟩:=Zj hz
     cases Zc hz
     obtain ⟨de,hde⟩:=zOf_und hze
     obtain ⟨us,rfl,hl⟩:=rx
     obtain ⟨vs,rfl,hl'⟩:=ry
     rw [run_equalIn_array w (d+m) us vs hd hie]
     have hc:P.cellsOf e=ze.length:=by simp [Program.cellsOf,hie,hsz]
     rw [hc,List.range_eq_range']
     have:=Zpc (w:=w) hde hze (Zuw d e ze hze) hie hsz hz0 m hl hl' n 0 (by simpa using ax) (by simpa using ay)
     simpa using this
  | struct fs =>
   simp only at hz
   have hz:=Zic hz
   obtain ⟨hst,hz⟩:=hz
   obtain ⟨us,rfl,hl⟩:=rx
   obtain ⟨vs,rfl,hl'⟩:=ry
   have hf:P.fieldsOf t=fs:=by simp [Program.fieldsOf,hd]
   rw [run_equalIn_struct w (d+m) t us vs (by rw [hf];exact hd) (by simpa using hst),hf]
   have:=Zmm (w:=w) (fun t z hz=>Zuw d t z hz) m hl hl' fs.toList 0 z hz (by simpa using ax) (by simpa using ay)
   simpa using this
  | _=>simp at hz
theorem op_eqA {neg:Bool} {t yt:TypeId} {d:Nat} {dd:TypeDesc} {z:List Cell} {a b:Operand} {x y:TV} (hop:o.op=.binOp (if neg then .neq else .eql) t a b yt) (hz:zOf S.P d t=some z) (hd10:d<=10000) (hd:S.P.underlying t=some dd) (hag:Zhv dd=true)
  (hg:S.P.eqGuardType S.P.depth t=false) (f:FI S B sl h w ρ σ) (hx:relT S ρ σ sl h w x (ev a)) (hy:relT S ρ σ sl h w y (ev b))
  (hs:Zjj x (fun x=>Zjj y fun y=>if alike x z=true/\alike y z=true then some (TV.v (.c (.bool (if neg then !(decide (x=y)) else decide (x=y)))),sl,h) else none)=some (tv,sl',h')):Done S B sl h w ρ σ ((execOp ev o).run S.P w) tv sl' h':=by
 obtain ⟨xs,us,hva,hl,hs⟩:=Zna hx hs
 obtain ⟨ys,vs,hvb,hl',hs⟩:=Zna hy hs
 obtain ⟨⟨ax,ay⟩,hs⟩:=Zj hs
 cases Zc hs
 have he:=Zuw d t z hz S ρ h w dd xs ys (.agg us) (.agg vs) hd ax ay (by unfold RepV;rw [hag];exact ⟨us,rfl,hl⟩) (by unfold RepV;rw [hag];exact ⟨vs,rfl,hl'⟩) (10000 - d)
 have he2:(Op.equal t (.agg us) (.agg vs)).run S.P w=.ok (decide (xs=ys)) w:=by
  unfold Op.equal Op.maxDepth
  rw [show d+(10000 - d)=10000 by omega] at he
  exact he
 have gs:∀(op:BinOp) (u v:Operand),(eqGuard op t u v (.agg us) (.agg vs)).run S.P w=.ok () w:=by
  intro op u v;cases op<;>simp [eqGuard,hg]
 have hr:=Zlh (S:=S) (w:=w) (r:=decide (xs=ys)) hop hva hvb gs (by simp [binOp,he2]) (by simp [binOp,he2])
 exact Done.pure f (v:=.bool (if neg then !(decide (xs=ys)) else decide (xs=ys))) (by rw [hr]) rfl
end
def mO (S:Seat):O->Operand->Bool
 | .t i,.tmp j=>i==j
 | .k (.c (.gptr g 0)),.global n=>S.gl g==n
 | .k (.c (.fn g [])),.func f=>S.fn g==f
 | .k (.c c),.const v=>mC c v
 | .k (.agg cs),.const (.agg us)=>mCs cs us.toList
 | _,_=>false
def mOs (S:Seat):List O->List Operand->Bool
 | [],[]=>true
 | x :: xs,y :: ys=>mO S x y&&mOs S xs ys
 | _,_=>false
def Ztr (P:Program) (t:TypeId):Bool:=match P.underlying t with | some d=>!Zhv d | none=>false
def rowT (P:Program) (t:TypeId) (n:Nat):Bool:=match P.underlying t,P.info? t with | some d,some i=>Zhv d&&i.size==n | _,_=>false
def Zjc (P:Program) (t:TypeId) (n:Nat):Bool:=match P.info? t with | some i=>i.size==n | none=>false
def Zzg (P:Program) (t:TypeId) (z:List Cell):Bool:=match P.info? t with | some i=>(match i.zero with | some v=>mCs z v.cells.toList | none=>false) | none=>false
def fieldT (P:Program) (t:TypeId) (fi off:Nat) (p:TypeId->Bool):Bool :=
 match P.underlying t with
 | some (.struct fs)=>(match fs[fi]? with | some fd=>fd.offset==off&&p fd.type | none=>false)
 | _=>false
def arrT (P:Program) (t:TypeId) (len:Nat) (p:TypeId->Bool):Bool:=match P.underlying t with | some (.array n e)=>n==len&&p e | _=>false
def slT (P:Program) (t:TypeId) (p:TypeId->Bool):Bool:=match P.underlying t with | some (.slice e)=>p e | _=>false
def isD (P:Program) (t:TypeId) (p:TypeDesc->Bool):Bool:=match P.underlying t with | some d=>p d | none=>false
section
variable {S:Seat} {B:Nat} {sl sl':Ze} {h h':Za} {w w':World} {ρ:Rho} {σ:Nat->Nat} {o:Oper} {tv:TV}
theorem Zks {P:Program} {t:TypeId} (h:Ztr P t=true):∃d,P.underlying t=some d/\Zhv d=false:=by
 unfold Ztr at h;split at h
 ·rename_i d hd;exact ⟨d,hd,by simpa using h⟩
 ·cases h
theorem Zsl {P:Program} {t:TypeId} {n:Nat} (h:rowT P t n=true):∃d i,P.underlying t=some d/\Zhv d=true/\P.info? t=some i/\i.size=n:=by
 unfold rowT at h;split at h
 ·rename_i d i hd hi;simp at h;exact ⟨d,i,hd,h.1,hi,h.2⟩
 ·cases h
theorem Zcx {P:Program} {t:TypeId} {n:Nat} (h:Zjc P t n=true):∃i,P.info? t=some i/\i.size=n:=by
 unfold Zjc at h;split at h
 ·rename_i i hi;exact ⟨i,hi,by simpa using h⟩
 ·cases h
theorem Znv {P:Program} {t:TypeId} {z:List Cell} (h:Zzg P t z=true):∃i v,P.info? t=some i/\i.zero=some v/\mCs z v.cells.toList=true:=by
 unfold Zzg at h;split at h
 ·rename_i i hi;split at h
  ·rename_i v hv;exact ⟨i,v,hi,hv,h⟩
  ·cases h
 ·cases h
theorem Zq718 {P:Program} {t:TypeId} {fi off:Nat} {p:TypeId->Bool} (h:fieldT P t fi off p=true):∃fs fd,P.underlying t=some (.struct fs)/\fs[fi]? = some fd/\fd.offset=off/\p fd.type=true:=by
 unfold fieldT at h;split at h
 ·rename_i fs hfs;split at h
  ·rename_i fd hfd;simp at h;exact ⟨fs,fd,hfs,hfd,h.1,h.2⟩
  ·cases h
 ·cases h
theorem Zso {P:Program} {t:TypeId} {n:Nat} {p:TypeId->Bool} (h:arrT P t n p=true):∃e,P.underlying t=some (.array n e)/\p e=true:=by
 unfold arrT at h;split at h
 ·rename_i m e hd;simp at h;exact ⟨e,by rw [hd,h.1],h.2⟩
 ·cases h
theorem Zfm {P:Program} {t:TypeId} {p:TypeId->Bool} (h:slT P t p=true):∃e,P.underlying t=some (.slice e)/\p e=true:=by
 unfold slT at h;split at h
 ·rename_i e hd;exact ⟨e,hd,h⟩
 ·cases h
theorem Zis {P:Program} {t:TypeId} {p:TypeDesc->Bool} (h:isD P t p=true):∃d,P.underlying t=some d/\p d=true:=by
 unfold isD at h;split at h
 ·rename_i d hd;exact ⟨d,hd,h⟩
 ·cases h
def TR (S:Seat) (ρ:Rho) (σ:Nat->Nat) (sl:Ze) (h:Za) (w:World) (t:List TV) (a:Act):Prop :=
 a.tmps.size=t.length/\∀(i:Nat) (tv:TV),t[i]? = some tv->relT S ρ σ sl h w tv (a.tmps.getD i undef)
theorem mO_rel {st:St} {a:Act} {x:O} {y:Operand} (hm:mO S x y=true) (tr:TR S ρ σ sl h w st.t a):relT S ρ σ sl h w (rdO st x) (a.eval y):=by
 unfold mO at hm
 split at hm
 ·rename_i i j
  simp at hm
  subst hm
  show relT S ρ σ sl h w (st.t.getD i .top) (a.tmps.getD i undef)
  cases hi:st.t[i]? with
  | none=>rw [Yv,hi];trivial
  | some tv=>rw [Yv,hi];exact tr.2 i tv hi
 ·rename_i g n
  simp at hm
  show relC S ρ h (.gptr g 0) _
  rw [←hm];rfl
 ·rename_i g f
  simp at hm
  show relC S ρ h (.fn g []) _
  rw [←hm];exact ⟨#[],rfl,L2.nil⟩
 ·exact Zxv hm S ρ h
 ·exact ⟨_,rfl,Zek hm S ρ h⟩
 ·cases hm
theorem Zbp {st:St} {a:Act}:∀{xs:List O} {ys:List Operand} (_:mOs S xs ys=true) (_:TR S ρ σ sl h w st.t a),L2 (relT S ρ σ sl h w) (xs.map (rdO st)) (ys.map a.eval)
 | [],[],_,_=>L2.nil
 | x :: xs,y :: ys,hm,tr=>by
  simp only [mOs,Ya] at hm
  exact L2.cons (mO_rel hm.1 tr) (Zbp hm.2 tr)
 | [],_ :: _,hm,_=>by simp [mOs] at hm
 | _ :: _,[],hm,_=>by simp [mOs] at hm
theorem k1m {α:Type} {st:St} {a:Act} {xs:List O} {y:Operand} {g:TV->Option α} {r:α} (hm:mOs S xs [y]=true) (tr:TR S ρ σ sl h w st.t a) (hs:k1 (xs.map (rdO st)) g=some r):∃x,relT S ρ σ sl h w x (a.eval y)/\g x=some r:=by
 obtain ⟨x,hx,hs⟩:=k1_inv hs
 have:=Zbp hm tr
 rw [hx] at this
 exact ⟨x,this.head,hs⟩
theorem k2m {α:Type} {st:St} {a:Act} {xs:List O} {y z:Operand} {g:TV->TV->Option α} {r:α} (hm:mOs S xs [y,z]=true) (tr:TR S ρ σ sl h w st.t a) (hs:k2 (xs.map (rdO st)) g=some r) :
  ∃x x',relT S ρ σ sl h w x (a.eval y)/\relT S ρ σ sl h w x' (a.eval z)/\g x x'=some r:=by
 obtain ⟨x,x',hx,hs⟩:=k2_inv hs
 have:=Zbp hm tr
 rw [hx] at this
 exact ⟨x,x',this.head,this.tail.head,hs⟩
theorem Zpy {sl:Ze}:∀s cs,slot? sl s=some cs->s<sl.length:=by
 intro s cs hs
 rcases Yax s sl.length with h | h
 ·exact h
 ·unfold slot? at hs
  rw [Yv,List.getElem?_eq_none h] at hs
  cases hs
end
def Zsn (o:Oper):Option (Builtin × List Operand × List TypeId) :=
 match o.op with
 | .call c=>(match c.callee with | .builtin b=>some (b,c.args.toList,c.argTypes.toList) | _=>none)
 | _=>none
theorem Zij {o:Oper} {b:Builtin} {l:List Operand} {ts:List TypeId} (h:Zsn o=some (b,l,ts)):o.op=.call ⟨.builtin b,l.toArray,ts.toArray⟩:=by
 unfold Zsn at h
 split at h
 ·rename_i c hc
  split at h
  ·rename_i b' hb
   cases h
   rw [hc]
   obtain ⟨cl,ar,at_⟩:=c
   cases hb
   rfl
  ·cases h
 ·cases h
def nilT (y:O) (d:TypeDesc):Bool :=
 match y,d with
 | .k (.c .nilp),.pointer _=>true
 | .k (.c .nils),.slice _=>true
 | .k (.c .nilf),.func _ _ _=>true
 | _,_=>false
def mK (S:Seat) (k:K) (xs:List O) (o:Oper):Bool :=
 let P:=S.P
 match k with
 | .mov=>(match o.op with | .move x=>mOs S xs [x] | .assign x=>mOs S xs [x] | _=>false)
 | .pick=>(match o.op with | .pick c x y=>mOs S xs [c,x,y] | _=>false)
 | .allocH z=>(match o.op with | .alloc t=>xs.isEmpty&&Zzg P t z | _=>false)
 | .boxH=>(match o.op with | .box _ x=>mOs S xs [x] | _=>false)
 | .ld0 _=>(match o.op with | .load t a=>mOs S xs [a]&&Ztr P t | _=>false)
 | .ld _ _=>(match o.op with | .load t a=>mOs S xs [a]&&Ztr P t | _=>false)
 | .ldAll _ n=>(match o.op with | .load t a=>mOs S xs [a]&&rowT P t n | _=>false)
 | .ldN _ n=>(match o.op with | .load t a=>mOs S xs [a]&&rowT P t n | _=>false)
 | .st _=>(match o.op with | .store t a b=>mOs S xs [a,b]&&Zjc P t 1 | _=>false)
 | .stAll _ n=>(match o.op with | .store t a b=>mOs S xs [a,b]&&Zjc P t n | _=>false)
 | .stN _ n=>(match o.op with | .store t a b=>mOs S xs [a,b]&&Zjc P t n | _=>false)
 | .addr off=>(match o.op with | .fieldAddr t a fi=>mOs S xs [a]&&fieldT P t fi off (fun e=>match P.info? e with | some i=>i.size != 0 | none=>false) | _=>false)
 | .idxA len esz=>(match o.op with | .indexAddr t a b=>mOs S xs [a,b]&&arrT P t len (fun e=>Zjc P e esz) | _=>false)
 | .idxS esz=>(match o.op with | .indexAddr t a b=>mOs S xs [a,b]&&slT P t (fun e=>Zjc P e esz) | _=>false)
 | .bin op=>(match o.op with | .binOp op' _ a b _=>mOs S xs [a,b]&&decide (op'=op) | _=>false)
 | .eqA neg z=>(match o.op with | .binOp op t a b _=>mOs S xs [a,b]&&decide (op=if neg then .neq else .eql)&&isD P t Zhv&&decide (zOf P 100 t=some z)&&!P.eqGuardType P.depth t | _=>false)
 | .eqNil neg=>(match o.op,xs with | .binOp op t a b _,[_,y]=>mOs S xs [a,b]&&decide (op=if neg then .neq else .eql)&&isD P t (nilT y) | _,_=>false)
 | .un op=>(match o.op with | .unOp op' _ a=>mOs S xs [a]&&decide (op'=op) | _=>false)
 | .conv k=>(match o.op with | .convert s t a=>mOs S xs [a]&&isD P s (fun _=>true)&&isD P t (fun d=>match d with | .int k'=>decide (k'=k) | _=>false) | _=>false)
 | .ext i=>(match o.op with | .extract a i'=>mOs S xs [a]&&i'==i | _=>false)
 | .idxV len _=>(match o.op with | .index t a b=>mOs S xs [a,b]&&arrT P t len (fun e=>Ztr P e&&Zjc P e 1) | _=>false)
 | .idxStr=>(match o.op with | .index t a b=>mOs S xs [a,b]&&isD P t (fun d=>match d with | .string=>true | _=>false) | _=>false)
 | .build z ps=>(match o.op with | .build t parts=>mOs S xs (parts.toList.map (·.2))&&Zzg P t z&&Zvc P t&&decide (parts.toList.map (fun p=>Zhx P t p.1)=ps.map some) | _=>false)
 | .bslice esz n z ps=>(match o.op with
  | .buildSlice t n' parts=>mOs S xs (parts.toList.map (·.2))&&n'==n&&slT P t (fun e=>match P.info? e with | some i=>(match i.zero with | some zv=>i.size==esz&&decide (n*esz<=2 ^ 24)&&mCs z (Zst zv n esz).toList | none=>false) | none=>false)&&decide (parts.toList.map (fun p=>some (p.1*esz,esz))=ps.map some)
  | _=>false)
 | .lit esz n z ps=>(match o.op with
  | .buildSlice t n' parts=>mOs S xs (parts.toList.map (·.2))&&n'==n&&slT P t (fun e=>match P.info? e with | some i=>(match i.zero with | some zv=>i.size==esz&&decide (n*esz<=2 ^ 24)&&mCs z (Zst zv n esz).toList | none=>false) | none=>false)&&decide (parts.toList.map (fun p=>some (p.1*esz,esz))=ps.map some)
  | _=>false)
 | .mks esz z bytes=>(match o.op with
  | .makeSlice t a b=>mOs S xs [a,b]&&slT P t (fun e=>match P.info? e with | some i=>(match i.zero with | some zv=>i.size==esz&&i.bytes==bytes&&zv.cells.size==esz&&mCs z zv.cells.toList | none=>false) | none=>false)
  | _=>false)
 | .slc esz lo hi=>(match o.op with | .slice t a l u none=>mOs S xs (a :: (l.toList++u.toList))&&l.isSome==lo&&u.isSome==hi&&slT P t (fun e=>Zjc P e esz) | _=>false)
 | .slcA n esz lo hi=>(match o.op with
  | .slice t a l u none=>mOs S xs (a :: (l.toList++u.toList))&&l.isSome==lo&&u.isSome==hi&&isD P t (fun d=>match d with | .array n' e=>n'==n&&Zjc P e esz | .pointer arr=>arrT P arr n (fun e=>Zjc P e esz) | _=>false)
  | _=>false)
 | .slc3=>(match o.op with | .slice t a none (some u) (some m)=>mOs S xs [a,u,m]&&slT P t (fun e=>(P.info? e).isSome) | _=>false)
 | .len=>(match Zsn o with | some (.len,[a],[t])=>mOs S xs [a]&&slT P t (fun _=>true) | _=>false)
 | .mn=>(match Zsn o with | some (.min,[a,b],_)=>mOs S xs [a,b] | _=>false)
 | .mx=>(match Zsn o with | some (.max,[a,b],_)=>mOs S xs [a,b] | _=>false)
 | .app esz bytes=>(match Zsn o with
  | some (.append,[a,b],[t,t'])=>mOs S xs [a,b]&&t'==t&&esz != 0&&slT P t (fun e=>match P.info? e with | some i=>(match i.zero with | some zv=>i.size==esz&&i.bytes==bytes&&zv.cells.size==esz | none=>false) | none=>false)
  | _=>false)
 | .copy esz=>(match Zsn o with | some (.copy,[a,b],[t,_])=>mOs S xs [a,b]&&esz != 0&&slT P t (fun e=>Zjc P e esz) | _=>false)
 | .mkfn g=>(match o.op with | .makeFunc (.func f) first caps=>mOs S xs caps.toList&&S.fn g==f&&first.isEmpty | _=>false)
 | .mkfb g=>(match o.op with | .makeFunc (.func f) first caps=>mOs S xs first.toList&&first.size==1&&S.fn g==f&&caps.isEmpty | _=>false)
 | .nilchk=>(match o.op with | .nilCheck a=>mOs S xs [a] | _=>false)
 | .mark=>(match o.op with | .convert s t a=>mOs S xs [a]&&s==t&&slT P s (fun e=>isD P e (fun d=>match d with | .int .u8=>true | _=>false)) | _=>false)
 | .call g _ | .qcall g _ | .zcall g _=>(match o.op with | .call ⟨.value (.func f),args,_⟩=>mOs S xs args.toList&&S.fn g==f | _=>false)
 | .callv _ | .qcallv _ | .qcallb _=>(match o.op with | .call ⟨.value f,args,_⟩=>mOs S xs (f :: args.toList) | _=>false)
 | .trap=>true
 | _=>false
def K.isCall:K->Bool
 | .call _ _ | .callv _ | .qcall _ _ | .qcallv _ | .qcallb _ | .zcall _ _=>true
 | _=>false
section
variable {S:Seat} {B:Nat} {sl sl':Ze} {h h':Za} {w w':World} {ρ:Rho} {σ:Nat->Nat} {o:Oper} {tv:TV}
theorem u8_inv {d:TypeDesc} (h:(match d with | .int .u8=>true | _=>false)=true):d=.int .u8:=by
 split at h
 ·rfl
 ·cases h
theorem str_inv {d:TypeDesc} (h:(match d with | .string=>true | _=>false)=true):d=.string:=by
 split at h
 ·rfl
 ·cases h
theorem pick_inv {α:Type} {xs:List TV} {g:TV->Option α} {y:α} (hs:(match xs with | [.v (.c (.bool b)),x,y]=>g (if b then x else y) | _=>none)=some y):∃b x x',xs=[.v (.c (.bool b)),x,x']/\g (if b then x else x')=some y:=by
 split at hs
 ·exact ⟨_,_,_,rfl,hs⟩
 ·cases hs
theorem L2.split3 {R:TV->Value->Prop} {x y z:TV} {a b c:Value} (h:L2 R [x,y,z] [a,b,c]):R x a/\R y b/\R z c:=⟨h.head,h.tail.head,h.tail.tail.head⟩
theorem Zsa:∀{xs:List TV} {vs:List Value} {cs:List (Nat × Nat × Nat)},Zfl xs=some cs->L2 (relT S ρ σ sl h w) xs vs->L2 (fun (p:Nat × Nat × Nat) u=>RefP ρ h p.1 p.2.1 p.2.2 u) cs vs
 | [],vs,cs,hc,hl=>by
  rw [hl.nil_left]
  simp [Zfl] at hc
  rw [hc];exact L2.nil
 | x :: xs,vs,cs,hc,hl=>by
  obtain ⟨v,vs',rfl,hr,ht⟩:=hl.cons_left
  cases x with
  | v z =>
   cases z with
   | c q =>
    cases q<;>simp [Zfl] at hc
    obtain ⟨cs',hc,rfl⟩:=hc
    exact L2.cons hr (Zsa hc ht)
   | agg l=>simp [Zfl] at hc
  | _=>simp [Zfl] at hc
theorem Zot {α:Type} {G:Glo} {m:Mem} {x:TV} {g:List Cell->Nat->Option α} {y:α} (hs:Zy G m x sl h g=some y):∃cs off,g cs off=some y:=by
 unfold Zy at hs
 split at hs
 ·obtain ⟨_,hs⟩:=Zj hs
  obtain ⟨cs,_,hs⟩:=bind_some hs
  exact ⟨cs,_,hs⟩
 ·obtain ⟨b,_,_,hs⟩:=Zpu hs
  exact ⟨_,_,hs⟩
 ·exact ⟨_,_,hs⟩
 ·cases hs
theorem Zlo {α:Type} {G:Glo} {m:Mem} {x:TV} {g g':List Cell->Nat->Option α} {y:α} (hi:∀cs off,g cs off=some y->g' cs off=some y) (hs:Zy G m x sl h g=some y):Zy G m x sl h g'=some y:=by
 unfold Zy at hs ⊢
 split at hs
 ·obtain ⟨hq,hs⟩:=Zj hs
  obtain ⟨cs,hcs,hs⟩:=bind_some hs
  simp only [hq,if_true,hcs,Yab]
  exact hi _ _ hs
 ·obtain ⟨b,hb,hN,hs⟩:=Zpu hs
  simp only [Zn,hb,Yab,hN,if_true]
  exact hi _ _ hs
 ·exact hi _ _ hs
 ·cases hs
theorem Zzy {α:Type} {G:Glo} {x:TV} {g:List Cell->Nat->Option α} {y:α} (hs:Zsq x h g=some y):Zy G .heap x sl h g=some y:=by
 unfold Zsq at hs
 split at hs
 ·unfold rd0 at hs
  obtain ⟨b,_,hs⟩:=bind_some hs
  obtain ⟨_,hs⟩:=Zj hs
  exact hs
 ·cases hs
theorem Zq706 {C:Zk} {k:K} {xs:List O} {st:St} {a:Act} (hk:k.isCall=false) (hm:mK S k xs o=true) (f:FI S B sl h w ρ σ) (tr:TR S ρ σ sl h w st.t a)
  (hs:stepK C (Glo.std S.tab) k (xs.map (rdO st)) sl h (fun v s h=>some (v,s,h))=some (tv,sl',h')):Done S B sl h w ρ σ ((execOp a.eval o).run S.P w) tv sl' h':=by
 cases k with
 | mov =>
  simp only [mK] at hm;simp only [stepK] at hs
  split at hm
  ·rename_i x hop
   obtain ⟨x,hx,hs⟩:=k1m hm tr hs
   cases Zc hs
   exact op_move (.inl hop) f hx
  ·rename_i x hop
   obtain ⟨x,hx,hs⟩:=k1m hm tr hs
   cases Zc hs
   exact op_move (.inr hop) f hx
  ·cases hm
 | pick =>
  simp only [mK] at hm;simp only [stepK] at hs
  split at hm
  ·rename_i c x y hop
   obtain ⟨b,x,x',hx,hs⟩:=pick_inv (g:=fun v=>some (v,sl,h)) hs
   cases Zc hs
   have hl:=Zbp hm tr
   rw [hx] at hl
   obtain ⟨h1,h2,h3⟩:=hl.split3
   exact op_pick hop f h1 h2 h3
  ·cases hm
 | allocH z =>
  simp only [mK] at hm;simp only [stepK] at hs
  split at hm
  ·rename_i t hop
   simp only [Ya,List.isEmpty_iff] at hm
   obtain ⟨rfl,hz⟩:=hm
   obtain ⟨i,v,hi,hz,hzz⟩:=Znv hz
   simp only [List.map_nil] at hs
   cases Zc hs
   exact Zq763 hop hi hz (fun ρ h=>Zek hzz S ρ h) f
  ·cases hm
 | boxH =>
  simp only [mK] at hm;simp only [stepK] at hs
  split at hm
  ·rename_i t x hop
   obtain ⟨x,hx,hs⟩:=k1m hm tr hs
   obtain ⟨z,rfl,_,hs⟩:=Zku hx hs
   cases Zc hs
   exact op_boxH hop f hx
  ·cases hm
 | ld m r =>
  simp only [mK] at hm;simp only [stepK] at hs
  split at hm
  ·rename_i t y hop
   simp only [Ya] at hm
   obtain ⟨d,hd,hna⟩:=Zks hm.2
   obtain ⟨x,hx,hs⟩:=k1m hm.1 tr hs
   exact op_ld hop hd hna f hx hs
  ·cases hm
 | ld0 r =>
  simp only [mK] at hm;simp only [stepK] at hs
  split at hm
  ·rename_i t y hop
   simp only [Ya] at hm
   obtain ⟨d,hd,hna⟩:=Zks hm.2
   obtain ⟨x,hx,hs⟩:=k1m hm.1 tr hs
   exact op_ld (m:=.heap) hop hd hna f hx (Zzy hs)
  ·cases hm
 | ldAll m n =>
  simp only [mK] at hm;simp only [stepK] at hs
  split at hm
  ·rename_i t y hop
   simp only [Ya] at hm
   obtain ⟨d,i,hd,hna,hi,hn⟩:=Zsl hm.2
   obtain ⟨x,hx,hs⟩:=k1m hm.1 tr hs
   exact op_ldAll hop hd hna hi hn f hx hs
  ·cases hm
 | ldN m n =>
  simp only [mK] at hm;simp only [stepK] at hs
  split at hm
  ·rename_i t y hop
   simp only [Ya] at hm
   obtain ⟨d,i,hd,hna,hi,hn⟩:=Zsl hm.2
   obtain ⟨x,hx,hs⟩:=k1m hm.1 tr hs
   exact op_ldRow hop hd hna hi hn f hx hs
  ·cases hm
 | st m =>
  simp only [mK] at hm;simp only [stepK] at hs
  split at hm
  ·rename_i t y z hop
   simp only [Ya] at hm
   obtain ⟨i,hi,hn⟩:=Zcx hm.2
   obtain ⟨x,v,hx,hv,hs⟩:=k2m hm.1 tr hs
   obtain ⟨c,rfl,rc,hs⟩:=Zcw hv hs
   refine Zrz (m:=m) (n:=1) (z:=.c c) hop hi hn f Zpy hx rfl hv rfl (Zlo (fun cs off hq=>?_) hs)
   obtain ⟨hlt,hq⟩:=Zj hq
   have h2:off+1<=cs.length:=hlt
   rw [if_pos h2]
   rw [Zq714 hlt] at hq
   exact hq
  ·cases hm
 | stAll m n =>
  simp only [mK] at hm;simp only [stepK] at hs
  split at hm
  ·rename_i t y z hop
   simp only [Ya] at hm
   obtain ⟨i,hi,hn⟩:=Zcx hm.2
   obtain ⟨x,v,hx,hv,hs⟩:=k2m hm.1 tr hs
   obtain ⟨c,rfl,rc,hs⟩:=Zku hv hs
   have hcn:c.cells.length=n:=by
    obtain ⟨cs,off,hq⟩:=Zot hs
    exact (Zj hq).1.2.2
   refine Zrz (m:=m) (n:=n) (z:=c) hop hi hn f Zpy hx rfl hv hcn (Zlo (fun cs off hq=>?_) hs)
   obtain ⟨⟨h0,h1,h2⟩,hq2⟩:=Zj hq
   subst h0
   rw [if_pos (by omega),Zq705 (by omega)]
   exact hq2
  ·cases hm
 | stN m n =>
  simp only [mK] at hm;simp only [stepK] at hs
  split at hm
  ·rename_i t y z hop
   simp only [Ya] at hm
   obtain ⟨i,hi,hn⟩:=Zcx hm.2
   obtain ⟨x,v,hx,hv,hs⟩:=k2m hm.1 tr hs
   obtain ⟨c,rfl,rc,hs⟩:=Zku hv hs
   have hcn:c.cells.length=n:=by
    obtain ⟨cs,off,hq⟩:=Zot hs
    exact (Zj hq).1.2
   refine Zrz (m:=m) (n:=n) (z:=c) hop hi hn f Zpy hx rfl hv hcn (Zlo (fun cs off hq=>?_) hs)
   obtain ⟨⟨h1,h2⟩,hq⟩:=Zj hq
   rw [if_pos h1]
   exact hq
  ·cases hm
 | addr off =>
  simp only [mK] at hm;simp only [stepK] at hs
  split at hm
  ·rename_i t y fi hop
   simp only [Ya] at hm
   obtain ⟨fs,fd,hd,hf,hn,hp⟩:=Zq718 hm.2
   split at hp
   ·rename_i i hi
    obtain ⟨x,hx,hs⟩:=k1m hm.1 tr hs
    exact op_addr hop hd hf hn hi (by simpa using hp) f hx hs
   ·cases hp
  ·cases hm
 | idxA len esz =>
  simp only [mK] at hm;simp only [stepK] at hs
  split at hm
  ·rename_i t y z hop
   simp only [Ya] at hm
   obtain ⟨e,hd,he⟩:=Zso hm.2
   obtain ⟨i,hi,hn⟩:=Zcx he
   obtain ⟨x,v,hx,hv,hs⟩:=k2m hm.1 tr hs
   exact op_idxA hop hd hi hn f hx hv hs
  ·cases hm
 | idxS esz =>
  simp only [mK] at hm;simp only [stepK] at hs
  split at hm
  ·rename_i t y z hop
   simp only [Ya] at hm
   obtain ⟨e,hd,he⟩:=Zfm hm.2
   obtain ⟨i,hi,hn⟩:=Zcx he
   obtain ⟨x,v,hx,hv,hs⟩:=k2m hm.1 tr hs
   exact op_idxS hop hd hi hn f hx hv hs
  ·cases hm
 | bin op =>
  simp only [mK] at hm;simp only [stepK] at hs
  split at hm
  ·rename_i op' t y z u hop
   simp only [Ya,decide_eq_true_eq] at hm
   obtain ⟨x,v,hx,hv,hs⟩:=k2m hm.1 tr hs
   rw [hm.2] at hop
   exact op_bin hop f hx hv hs
  ·cases hm
 | eqB neg=>exact Yh (show false=true from hm)
 | eqA neg z =>
  simp only [mK] at hm;simp only [stepK] at hs
  split at hm
  ·rename_i op' t y z u hop
   simp only [Ya,decide_eq_true_eq,Bool.not_eq_true'] at hm
   obtain ⟨⟨⟨⟨h1,h2⟩,h3⟩,h4⟩,h5⟩:=hm
   obtain ⟨x,v,hx,hv,hs⟩:=k2m h1 tr hs
   obtain ⟨d,hd,hdd⟩:=Zis h3
   rw [h2] at hop
   exact op_eqA hop h4 (by omega) hd hdd h5 f hx hv hs
  ·cases hm
 | eqNil neg =>
  simp only [mK] at hm;simp only [stepK] at hs
  split at hm
  ·rename_i op' t y z u x0 y0 hop
   simp only [Ya,decide_eq_true_eq] at hm
   obtain ⟨⟨h1,h2⟩,h3⟩:=hm
   obtain ⟨x,v,hxs,hs⟩:=k2_inv hs
   have hl:=Zbp h1 tr
   rw [hxs] at hl
   simp only [Yau,List.map_nil,List.cons.injEq] at hxs
   obtain ⟨d,hd,hdd⟩:=Zis h3
   rw [h2] at hop
   unfold nilT at hdd
   split at hdd
   ·obtain rfl:=hxs.2.1
    exact Zq753 hop hd f hl.head hl.tail.head hs
   ·obtain rfl:=hxs.2.1
    exact Zq773 hop hd f hl.head hl.tail.head hs
   ·obtain rfl:=hxs.2.1
    exact Zq759 hop hd f hl.head hl.tail.head hs
   ·cases hdd
  ·cases hm
 | un op =>
  simp only [mK] at hm;simp only [stepK] at hs
  split at hm
  ·rename_i op' t y hop
   simp only [Ya,decide_eq_true_eq] at hm
   obtain ⟨x,hx,hs⟩:=k1m hm.1 tr hs
   rw [hm.2] at hop
   exact op_un hop f hx hs
  ·cases hm
 | conv k =>
  simp only [mK] at hm;simp only [stepK] at hs
  split at hm
  ·rename_i s t y hop
   simp only [Ya] at hm
   obtain ⟨x,hx,hs⟩:=k1m hm.1.1 tr hs
   obtain ⟨d,hd,_⟩:=Zis hm.1.2
   obtain ⟨d2,hd2,hdd⟩:=Zis hm.2
   split at hdd
   ·simp at hdd;subst hdd
    exact op_conv hop hd hd2 f hx hs
   ·cases hdd
  ·cases hm
 | ext i =>
  simp only [mK] at hm;simp only [stepK] at hs
  split at hm
  ·rename_i y i' hop
   simp only [Ya,beq_iff_eq] at hm
   rw [hm.2] at hop
   have hl:=Zbp hm.1 tr
   split at hs
   ·rename_i l heq
    rw [heq] at hl
    exact op_ext hop f hl.head hs
   ·cases hs
  ·cases hm
 | fld off r=>exact Yh (show false=true from hm)
 | fldN off n=>exact Yh (show false=true from hm)
 | idxV len r =>
  simp only [mK] at hm;simp only [stepK] at hs
  split at hm
  ·rename_i t y z hop
   simp only [Ya] at hm
   obtain ⟨e,hd,he⟩:=Zso hm.2
   simp only [Ya] at he
   obtain ⟨d,hed,hna⟩:=Zks he.1
   obtain ⟨i,hi,hn⟩:=Zcx he.2
   obtain ⟨x,v,hx,hv,hs⟩:=k2m hm.1 tr hs
   exact op_idxV hop hd hed hna hi hn f hx hv hs
  ·cases hm
 | idxVN len esz=>exact Yh (show false=true from hm)
 | idxStr =>
  simp only [mK] at hm;simp only [stepK] at hs
  split at hm
  ·rename_i t y z hop
   simp only [Ya] at hm
   obtain ⟨d,hd,hdd⟩:=Zis hm.2
   rw [str_inv hdd] at hd
   obtain ⟨x,v,hx,hv,hs⟩:=k2m hm.1 tr hs
   exact Zq779 hop hd f hx hv hs
  ·cases hm
 | build z ps =>
  simp only [mK] at hm;simp only [stepK] at hs
  split at hm
  ·rename_i t parts hop
   simp only [Ya,decide_eq_true_eq] at hm
   obtain ⟨⟨⟨h1,h2⟩,h3⟩,h4⟩:=hm
   obtain ⟨i,v,hi,hz,hzz⟩:=Znv h2
   have hl:=Zbp h1 tr
   rw [Yn] at hl
   exact op_build hop hi hz hzz h3 h4 f hl hs
  ·cases hm
 | bslice esz n z ps =>
  simp only [mK] at hm;simp only [stepK] at hs
  split at hm
  ·rename_i t n' parts hop
   simp only [Ya,decide_eq_true_eq,beq_iff_eq] at hm
   obtain ⟨⟨⟨h1,h2⟩,h3⟩,h4⟩:=hm
   obtain ⟨e,hd,he⟩:=Zfm h3
   split at he
   ·rename_i i hi
    split at he
    ·rename_i zv hz
     simp only [Ya,decide_eq_true_eq,beq_iff_eq] at he
     have hl:=Zbp h1 tr
     rw [Yn] at hl
     subst h2
     exact Zq803 hop hd hi hz he.1.1 he.1.2 he.2 h4 f hl hs
    ·cases he
   ·cases he
  ·cases hm
 | lit esz n z ps =>
  simp only [mK] at hm;simp only [stepK] at hs
  split at hm
  ·rename_i t n' parts hop
   simp only [Ya,decide_eq_true_eq,beq_iff_eq] at hm
   obtain ⟨⟨⟨h1,h2⟩,h3⟩,h4⟩:=hm
   obtain ⟨e,hd,he⟩:=Zfm h3
   split at he
   ·rename_i i hi
    split at he
    ·rename_i zv hz
     simp only [Ya,decide_eq_true_eq,beq_iff_eq] at he
     have hl:=Zbp h1 tr
     rw [Yn] at hl
     subst h2
     exact op_lit hop hd hi hz he.1.1 he.1.2 he.2 h4 f hl hs
    ·cases he
   ·cases he
  ·cases hm
 | mks esz z bytes =>
  simp only [mK] at hm;simp only [stepK] at hs
  split at hm
  ·rename_i t y u hop
   simp only [Ya] at hm
   obtain ⟨e,hd,he⟩:=Zfm hm.2
   split at he
   ·rename_i i hi
    split at he
    ·rename_i zv hz
     simp only [Ya,beq_iff_eq] at he
     obtain ⟨x,v,hx,hv,hs⟩:=k2m hm.1 tr hs
     exact op_mks hop hd hi hz he.1.1.1 he.1.1.2 he.1.2 he.2 f hx hv hs
    ·cases he
   ·cases he
  ·cases hm
 | slc esz lo hi =>
  simp only [mK] at hm;simp only [stepK] at hs
  split at hm
  ·rename_i t y l u hop
   simp only [Ya,beq_iff_eq] at hm
   obtain ⟨⟨⟨h1,h2⟩,h3⟩,h4⟩:=hm
   obtain ⟨e,hd,he⟩:=Zfm h4
   obtain ⟨i,hi,hn⟩:=Zcx he
   have hl:=Zbp h1 tr
   obtain ⟨x,t',hxs,_⟩:=Zbo hs
   rw [hxs] at hl hs
   subst h2;subst h3
   exact op_slc hop hd hi hn f hl.head hl.tail hs
  ·cases hm
 | slcA n esz lo hi =>
  simp only [mK] at hm;simp only [stepK] at hs
  split at hm
  ·rename_i t y l u hop
   simp only [Ya,beq_iff_eq] at hm
   obtain ⟨⟨⟨h1,h2⟩,h3⟩,h4⟩:=hm
   obtain ⟨d,hd,he⟩:=Zis h4
   have hl:=Zbp h1 tr
   obtain ⟨x,t',hxs,_⟩:=Zbo hs
   rw [hxs] at hl hs
   subst h2;subst h3
   split at he
   ·rename_i n' e
    simp only [Ya,beq_iff_eq] at he
    obtain ⟨i,hi,hn⟩:=Zcx he.2
    rw [he.1] at hd
    exact op_slcA hop (.inl hd) hi hn f hl.head hl.tail hs
   ·rename_i arr
    obtain ⟨e,hd2,he⟩:=Zso he
    obtain ⟨i,hi,hn⟩:=Zcx he
    exact op_slcA hop (.inr ⟨arr,hd,hd2⟩) hi hn f hl.head hl.tail hs
   ·cases he
  ·cases hm
 | slc3 =>
  simp only [mK] at hm;simp only [stepK] at hs
  split at hm
  ·rename_i t y u m hop
   simp only [Ya] at hm
   obtain ⟨e,hd,he⟩:=Zfm hm.2
   obtain ⟨i,hi⟩:=Yw.1 he
   have hl:=Zbp hm.1 tr
   obtain ⟨x,t',hxs,_⟩:=Zbo hs
   rw [hxs] at hl hs
   exact op_slc3 hop hd hi f hl.head hl.tail hs
  ·cases hm
 | slcStr lo hi=>exact Yh (show false=true from hm)
 | len =>
  simp only [mK] at hm;simp only [stepK] at hs
  split at hm
  ·rename_i y t hop
   simp only [Ya] at hm
   obtain ⟨e,hd,_⟩:=Zfm hm.2
   obtain ⟨x,hx,hs⟩:=k1m hm.1 tr hs
   exact op_len (Zij hop) rfl hd f hx hs
  ·cases hm
 | lenStr=>exact Yh (show false=true from hm)
 | lenA n=>exact Yh (show false=true from hm)
 | mn =>
  simp only [mK] at hm;simp only [stepK] at hs
  split at hm
  ·rename_i y z at_ hop
   obtain ⟨x,v,hx,hv,hs⟩:=k2m hm tr hs
   exact op_mnmx (mx:=false) (Zij hop) f hx hv hs
  ·cases hm
 | mx =>
  simp only [mK] at hm;simp only [stepK] at hs
  split at hm
  ·rename_i y z at_ hop
   obtain ⟨x,v,hx,hv,hs⟩:=k2m hm tr hs
   exact op_mnmx (mx:=true) (Zij hop) f hx hv hs
  ·cases hm
 | app esz bytes =>
  simp only [mK] at hm;simp only [stepK] at hs
  split at hm
  ·rename_i y z t t' hop
   simp only [Ya,beq_iff_eq,bne_iff_ne] at hm
   obtain ⟨⟨⟨h1,h2⟩,h3⟩,h4⟩:=hm
   subst h2
   obtain ⟨e,hd,he⟩:=Zfm h4
   split at he
   ·rename_i i hi
    split at he
    ·rename_i zv hz
     simp only [Ya,beq_iff_eq] at he
     obtain ⟨x,v,hx,hv,hs⟩:=k2m h1 tr hs
     exact op_app (Zij hop) hd hi hz (by omega) he.1.1 he.1.2 h3 f hx hv hs
    ·cases he
   ·cases he
  ·cases hm
 | copy esz =>
  simp only [mK] at hm;simp only [stepK] at hs
  split at hm
  ·rename_i y z t t' hop
   simp only [Ya,bne_iff_ne] at hm
   obtain ⟨⟨h1,h3⟩,h4⟩:=hm
   obtain ⟨e,hd,he⟩:=Zfm h4
   obtain ⟨i,hi,hn⟩:=Zcx he
   obtain ⟨x,v,hx,hv,hs⟩:=k2m h1 tr hs
   exact op_copy (Zij hop) hd hi hn h3 f hx hv hs
  ·cases hm
 | mkfn g =>
  simp only [mK] at hm;simp only [stepK] at hs
  split at hm
  ·rename_i fn first caps hop
   simp only [Ya,beq_iff_eq,Ybc] at hm
   obtain ⟨cs,hcs,hs⟩:=bind_some hs
   cases Zc hs
   have hl:=Zbp hm.1.1 tr
   rw [←hm.1.2,hm.2] at hop
   exact op_mkfn hop rfl f (Zsa hcs hl)
  ·cases hm
 | mkfb g =>
  simp only [mK] at hm;simp only [stepK] at hs
  split at hm
  ·rename_i fn first caps hop
   simp only [Ya,beq_iff_eq,Ybc] at hm
   obtain ⟨⟨⟨h1,h2⟩,h3⟩,h4⟩:=hm
   have hl:=Zbp h1 tr
   obtain ⟨x,hxs,hs⟩:=k1_inv hs
   rw [hxs] at hl
   obtain ⟨a,ha⟩:∃a,first=#[a]:=Array.size_eq_one_iff.1 h2
   rw [ha,h4,←h3] at hop
   rw [ha] at hl
   exact op_mkfb hop rfl f hl.head hs
  ·cases hm
 | nilchk =>
  simp only [mK] at hm;simp only [stepK] at hs
  split at hm
  ·rename_i y hop
   obtain ⟨x,hx,hs⟩:=k1m hm tr hs
   exact Zq784 hop f hx hs
  ·cases hm
 | b2s=>exact Yh (show false=true from hm)
 | s2b=>exact Yh (show false=true from hm)
 | mark =>
  simp only [mK] at hm;simp only [stepK] at hs
  split at hm
  ·rename_i s t y hop
   simp only [Ya,beq_iff_eq] at hm
   obtain ⟨e,hd,he⟩:=Zfm hm.2
   obtain ⟨d,hed,hdd⟩:=Zis he
   rw [u8_inv hdd] at hed
   obtain ⟨x,hx,hs⟩:=k1m hm.1.1 tr hs
   rw [←hm.1.2] at hop
   exact op_mark hop hd hed f hx hs
  ·cases hm
 | trap=>simp only [stepK] at hs;cases hs
 | call g rs=>cases hk
 | callv rs=>cases hk
 | qcall g rs=>cases hk
 | qcallv rs=>cases hk
 | qcallb rs=>cases hk
 | zcall g rs=>cases hk
end
def relR (S:Seat) (ρ:Rho) (h:Za) (rs:List AV) (v:Value):Prop :=
 match rs with
 | [x]=>relA S ρ h x v
 | l=>∃us:Array Value,v=.tuple us/\L2 (relA S ρ h) l us.toList
def Zck (S:Seat) (C:Zk):Prop:=∀g args h r,C g args h=some r ->
 (∃ fn c, S.P.funcs[S.fn g]? = some fn ∧ fn.body = some c ∧ (fn.name == "runtime.NumGoroutine") = false) ∧
 ∀(w:World) (ρ:Rho) (vals:Array Value),HI S ρ h w->L2 (relA S ρ h) args vals.toList ->
  Calls S.P (S.fn g) vals w fun e w'=>∃v ρ',e=.returned v/\relR S ρ' r.2 r.1 v/\HI S ρ' r.2 w'/\Step h w ρ r.2 w' ρ'
section
variable {S:Seat} {B:Nat} {sl sl':Ze} {h h':Za} {w w':World} {ρ:Rho} {σ:Nat->Nat} {o:Oper} {tv:TV}
def Goes (S:Seat) (B:Nat) (sl:Ze) (h:Za) (w:World) (ρ:Rho) (σ:Nat->Nat) (o:Oper) (a:Act) (tv:TV) (sl':Ze) (h':Za):Prop :=
 ∀(next:Act->World->Prop) (Q:Exit->Act->World->Prop),
  (∀v w' ρ',relT S ρ' σ sl' h' w' tv v->FI S B sl' h' w' ρ' σ->Tr sl h w ρ σ sl' h' w' ρ' σ->Adv B h w ρ h' w' ρ'->next (a.put o.dst v) w')->o.wp S.P a w next Q
theorem Goes.of_done {a:Act} (d:Done S B sl h w ρ σ ((execOp a.eval o).run S.P w) tv sl' h'):Goes S B sl h w ρ σ o a tv sl' h':=by
 obtain ⟨v,w',ρ',hr,h1,h2,h3,h4⟩:=d
 intro next Q hn
 unfold Oper.wp
 rcases hr with hr | ⟨hr,rfl⟩
 ·rw [hr];exact hn v w' ρ' h1 h2 h3 h4
 ·rw [hr];exact hn undef w' ρ' h1 h2 h3 h4
theorem c0_inv {α:Type} {x:Option (List AV × Za)} {g:Za->Option α} {y:α} (hs:c0 x g=some y):∃h,x=some ([],h)/\g h=some y:=by
 obtain ⟨⟨l,h⟩,hx,hs⟩:=bind_some hs
 split at hs
 ·rename_i heq;simp only at heq;subst heq;exact ⟨h,hx,hs⟩
 ·cases hs
theorem c1_inv {α:Type} {x:Option (List AV × Za)} {g:AV->Za->Option α} {y:α} (hs:c1 x g=some y):∃a h,x=some ([a],h)/\g a h=some y:=by
 obtain ⟨⟨l,h⟩,hx,hs⟩:=bind_some hs
 split at hs
 ·rename_i heq;simp only at heq;subst heq;exact ⟨_,h,hx,hs⟩
 ·cases hs
theorem c2_inv {α:Type} {x:Option (List AV × Za)} {g:AV->AV->Za->Option α} {y:α} (hs:c2 x g=some y):∃a b h,x=some ([a,b],h)/\g a b h=some y:=by
 obtain ⟨⟨l,h⟩,hx,hs⟩:=bind_some hs
 split at hs
 ·rename_i heq;simp only at heq;subst heq;exact ⟨_,_,h,hx,hs⟩
 ·cases hs
theorem c3_inv {α:Type} {x:Option (List AV × Za)} {g:AV->AV->AV->Za->Option α} {y:α} (hs:c3 x g=some y):∃a b c h,x=some ([a,b,c],h)/\g a b c h=some y:=by
 obtain ⟨⟨l,h⟩,hx,hs⟩:=bind_some hs
 split at hs
 ·rename_i heq;simp only at heq;subst heq;exact ⟨_,_,_,h,hx,hs⟩
 ·cases hs
theorem c4_inv {α:Type} {x:Option (List AV × Za)} {g:AV->AV->AV->AV->Za->Option α} {y:α} (hs:c4 x g=some y):∃a b c d h,x=some ([a,b,c,d],h)/\g a b c d h=some y:=by
 obtain ⟨⟨l,h⟩,hx,hs⟩:=bind_some hs
 split at hs
 ·rename_i heq;simp only at heq;subst heq;exact ⟨_,_,_,_,h,hx,hs⟩
 ·cases hs
theorem Zqz {α:Type} {rs:List RK} {x:Option (List AV × Za)} {g:TV->Za->Option α} {y:α} (hs:Zci rs x g=some y):∃l h,x=some (l,h)/\g (toTV l) h=some y:=by
 unfold Zci at hs
 split at hs
 ·obtain ⟨h,hx,hs⟩:=c0_inv hs;exact ⟨_,_,hx,hs⟩
 ·obtain ⟨a,h,hx,hs⟩:=c1_inv hs;exact ⟨_,_,hx,Zda hs⟩
 ·obtain ⟨a,b,h,hx,hs⟩:=c2_inv hs;exact ⟨_,_,hx,Zda (Zda hs)⟩
 ·obtain ⟨a,b,c,h,hx,hs⟩:=c3_inv hs;exact ⟨_,_,hx,Zda (Zda (Zda hs))⟩
 ·obtain ⟨a,b,c,d,h,hx,hs⟩:=c4_inv hs;exact ⟨_,_,hx,Zda (Zda (Zda (Zda hs)))⟩
 ·cases hs
theorem Zq742 {rs:List AV} {v:Value} (hr:relR S ρ h rs v):relT S ρ σ sl h w (toTV rs) v:=by
 unfold relR at hr
 split at hr
 ·exact hr
 ·rename_i l hne
  unfold toTV
  split
  ·rename_i x;exact absurd rfl (hne x)
  ·exact hr
theorem Zqp:∀{xs:List TV} {vs:List Value} {l:List AV},vals xs=some l->L2 (relT S ρ σ sl h w) xs vs->L2 (relA S ρ h) l vs
 | [],vs,l,hv,hl=>by
  simp [vals] at hv
  rw [hl.nil_left,hv];exact L2.nil
 | x :: xs,vs,l,hv,hl=>by
  obtain ⟨v,vs',rfl,hr,ht⟩:=hl.cons_left
  cases x with
  | v z =>
   simp only [vals,Yap] at hv
   obtain ⟨l',hv,rfl⟩:=hv
   exact L2.cons hr (Zqp hv ht)
  | _=>simp [vals] at hv
theorem Zxz {caps:List (Nat × Nat × Nat)} {vs:List Value} (hl:L2 (fun (p:Nat × Nat × Nat) u=>RefP ρ h p.1 p.2.1 p.2.2 u) caps vs):L2 (relA S ρ h) (Zjz caps) vs:=by
 refine ⟨by simp [Zjz,hl.1],fun i a b ha hb=>?_⟩
 simp only [Zjz,List.getElem?_map,Yap] at ha
 obtain ⟨p,hp,rfl⟩:=ha
 exact hl.2 i p b hp hb
theorem Zmr {P : Program} {f : FuncId} {args : Array Value} {fn : Func} {c : Code} (h1 : P.funcs[f]? = some fn) (h2 : fn.body = some c) (h3 : (fn.name == "runtime.NumGoroutine") = false) : (callFunc f args).run P w = .ok (.enter f args) w := by
 have h4 : ¬ fn.name = "runtime.NumGoroutine" := by simpa using h3
 simp [callFunc,h1,h2,h4]
theorem Ztf {C:Zk} (sc:Zck S C) {a:Act} {g:Nat} {rs:List RK} {l caps:List AV} {vs cs:Array Value} (f:FI S B sl h w ρ σ) (hx:L2 (relA S ρ h) l vs.toList) (hc:L2 (relA S ρ h) caps cs.toList)
  (hrun : (∀ fn c, S.P.funcs[S.fn g]? = some fn → fn.body = some c → (fn.name == "runtime.NumGoroutine") = false → (execOp a.eval o).run S.P w = .ok (.enter (S.fn g) (vs ++ cs)) w))
  (hs:Zci rs (C g (l++caps) h) (fun v h=>some (v,sl,h))=some (tv,sl',h')):Goes S B sl h w ρ σ o a tv sl' h':=by
 obtain ⟨rl,h2,hcall,hg⟩:=Zqz hs
 cases Zc hg
 obtain ⟨⟨fn,c,k1,k2,k3⟩,hcalls⟩:=sc g _ h _ hcall
 intro next Q hn
 unfold Oper.wp
 rw [hrun fn c k1 k2 k3,Oper.upon_enter]
 refine Calls.mono (hcalls w ρ (vs++cs) f.hi (by rw [Yah];exact hx.append hc)) ?_
 rintro e w' ⟨v,ρ',rfl,hr,hi,st⟩
 obtain ⟨f',t'⟩:=f.step hi st
 exact hn v w' ρ' (Zq742 hr) f' t' (Adv.of_step st)
theorem qh_some {x:Option (List AV × Za)} {r:List AV × Za} (hq:qh h x=some r):x=some r/\r.2=h:=by
 obtain ⟨y,hx,hq⟩:=bind_some hq
 obtain ⟨h1,hq⟩:=Zj hq
 cases Zc hq
 exact ⟨by rw [hx];obtain ⟨a,b⟩:=y;simp only at h1;subst h1;rfl,rfl⟩
theorem Zrl {C:Zk} (sc:Zck S C):Zck S fun g l h=>qh h (C g l h):=by
 intro g args h r hq
 exact sc g args h r (qh_some hq).1
theorem zh_some {x:Option (List AV × Za)} {r:List AV × Za} (hq:zh h x=some r):x=some r:=by
 obtain ⟨y,hx,hq⟩:=bind_some hq
 obtain ⟨_,hq⟩:=Zj hq
 rw [hx,hq]
theorem zh_sound {C:Zk} (sc:Zck S C):Zck S fun g l h=>zh h (C g l h):=by
 intro g args h r hq
 exact sc g args h r (zh_some hq)
theorem Zpt {α:Type} {x:Cell} {g:Nat->List AV->Option α} {y:α} (hs:fnK x g=some y):∃f cs,x=.fn f cs/\g f (Zjz cs)=some y:=by
 unfold fnK at hs
 split at hs
 ·exact ⟨_,_,rfl,hs⟩
 ·cases hs
theorem Zwu {α:Type} {x:Cell} {g:Nat->List (IntKind × Int)->Option α} {y:α} (hs:Zmp x g=some y):∃f l,x=.fnb f l/\g f l=some y:=by
 unfold Zmp at hs
 split at hs
 ·exact ⟨_,_,rfl,hs⟩
 ·cases hs
theorem Zhd {C:Zk} (sc:Zck S C) {a:Act} {g:Nat} {rs:List RK} {f0:Operand} {args:Array Operand} {at_:Array TypeId} {xs:List TV} {caps:List AV} {cs:Array Value} (hop:o.op=.call ⟨.value f0,args,at_⟩) (hf0:a.eval f0=.func (.func (S.fn g)) #[] cs)
  (f:FI S B sl h w ρ σ) (hx:L2 (relT S ρ σ sl h w) xs (args.toList.map a.eval)) (hc:L2 (relA S ρ h) caps cs.toList)
  (hs:callK C g rs xs caps h (fun v h=>some (v,sl,h))=some (tv,sl',h')):Goes S B sl h w ρ σ o a tv sl' h':=by
 unfold callK at hs
 obtain ⟨l,hl,hs⟩:=bind_some hs
 refine Ztf sc (vs:=args.map a.eval) f (by rw [Yt];exact Zqp hl hx) hc (fun fn c k1 k2 k3=>?_) hs
 have he:(#[]:Array Value)++args.map a.eval=args.map a.eval:=by simp
 simp only [execOp,hop,resolve,hf0,Deferred.ofValue,Sem.run_bind,Sem.run_pure,Result.andThen_ok,invoke,he]
 exact Zmr k1 k2 k3
theorem Zq709 {C:Zk} (sc:Zck S C) {a:Act} {g:Nat} {rs:List RK} {f0:Operand} {args:Array Operand} {at_:Array TypeId} {xs:List TV} {l0:List (IntKind × Int)} (hop:o.op=.call ⟨.value f0,args,at_⟩) (hf0:a.eval f0=.func (.func (S.fn g)) #[.agg (l0.map fun p=>Value.int p.1 p.2).toArray] #[])
  (f:FI S B sl h w ρ σ) (hx:L2 (relT S ρ σ sl h w) xs (args.toList.map a.eval))
  (hs:callK C g rs (.v (.agg (cellsOf l0)) :: xs) [] h (fun v h=>some (v,sl,h))=some (tv,sl',h')):Goes S B sl h w ρ σ o a tv sl' h':=by
 unfold callK at hs
 obtain ⟨l,hl,hs⟩:=bind_some hs
 have h0:relT S ρ σ sl h w (.v (.agg (cellsOf l0))) (.agg (l0.map fun p=>Value.int p.1 p.2).toArray):=by
  refine ⟨_,rfl,?_⟩
  unfold cellsOf
  simp only [List.toList_toArray]
  exact L2.of_map l0 fun p _=>rfl
 refine Ztf sc (vs:=#[.agg (l0.map fun p=>Value.int p.1 p.2).toArray]++args.map a.eval) (cs:=#[]) f (by rw [Yah,Yt];exact Zqp hl (L2.cons h0 hx)) L2.nil (fun fn c k1 k2 k3=>?_) hs
 simp only [execOp,hop,resolve,hf0,Deferred.ofValue,Sem.run_bind,Sem.run_pure,Result.andThen_ok,invoke]
 exact Zmr k1 k2 k3
theorem Zof {C:Zk} {α:Type} {g:Nat} {rs:List RK} {xs:List TV} {caps:List AV} {f:TV->Option α}:qcallK C g rs xs caps h f=callK (fun g l h=>qh h (C g l h)) g rs xs caps h fun v _=>f v:=rfl
theorem Zuo {C:Zk} {g:Nat} {rs:List RK} {xs:List TV} {caps:List AV} {tv:TV} {sl2:Ze} {h2:Za} (hs:callK (fun g l h=>qh h (C g l h)) g rs xs caps h (fun v _=>some (v,sl,h))=some (tv,sl2,h2)) :
  callK (fun g l h=>qh h (C g l h)) g rs xs caps h (fun v h=>some (v,sl,h))=some (tv,sl2,h2):=by
 unfold callK at hs ⊢
 obtain ⟨l,hl,hs⟩:=bind_some hs
 rw [hl,Yab]
 obtain ⟨rl,h3,hq,hg⟩:=Zqz hs
 have:=(qh_some hq).2
 simp only at this
 subst this
 rw [←hs]
 rw [hq]
 simp only [Zci,c0,c1,c2,c3,c4,Yab]
theorem Zzv {C:Zk} (sc:Zck S C) {k:K} {xs:List O} {st:St} {a:Act} (hm:mK S k xs o=true) (f:FI S B sl h w ρ σ) (tr:TR S ρ σ sl h w st.t a)
  (hs:stepK C (Glo.std S.tab) k (xs.map (rdO st)) sl h (fun v s h=>some (v,s,h))=some (tv,sl',h')):Goes S B sl h w ρ σ o a tv sl' h':=by
 have direct:∀{f0:FuncId} {args:Array Operand} {at_:Array TypeId} {g:Nat},S.fn g=f0->a.eval (.func f0)=.func (.func (S.fn g)) #[] #[]:=by
  intro f0 args at_ g hg;rw [←hg];rfl
 cases hk:k.isCall with
 | false=>exact Goes.of_done (Zq706 hk hm f tr hs)
 | true =>
  cases k<;>simp only [K.isCall] at hk
  all_goals first | (cases hk;done) | skip
  ·-- call
   simp only [mK] at hm;simp only [stepK] at hs
   split at hm
   ·rename_i f0 args at_ hop
    simp only [Ya,beq_iff_eq] at hm
    exact Zhd sc hop (direct (args:=args) (at_:=at_) hm.2) f (Zbp hm.1 tr) L2.nil hs
   ·cases hm
  ·simp only [mK] at hm;simp only [stepK] at hs
   split at hm
   ·rename_i f0 args at_ hop
    obtain ⟨x,t,hx,hs⟩:=Zbo hs
    obtain ⟨g,cs,rfl,hs⟩:=Zpt hs
    have hl:=Zbp hm tr
    rw [hx] at hl
    obtain ⟨vs,hv,hcs⟩:=hl.head
    exact Zhd sc hop hv f hl.tail (Zxz hcs) hs
   ·cases hm
  ·simp only [mK] at hm;simp only [stepK] at hs
   split at hm
   ·rename_i f0 args at_ hop
    simp only [Ya,beq_iff_eq] at hm
    rw [Zof] at hs
    exact Zhd (Zrl sc) hop (direct (args:=args) (at_:=at_) hm.2) f (Zbp hm.1 tr) L2.nil (Zuo hs)
   ·cases hm
  ·simp only [mK] at hm;simp only [stepK] at hs
   split at hm
   ·rename_i f0 args at_ hop
    obtain ⟨x,t,hx,hs⟩:=Zbo hs
    obtain ⟨g,cs,rfl,hs2⟩:=Zpt hs
    rw [Zof] at hs2
    have hl:=Zbp hm tr
    rw [hx] at hl
    obtain ⟨vs,hv,hcs⟩:=hl.head
    exact Zhd (Zrl sc) hop hv f hl.tail (Zxz hcs) (Zuo hs2)
   ·cases hm
  ·simp only [mK] at hm;simp only [stepK] at hs
   split at hm
   ·rename_i f0 args at_ hop
    obtain ⟨x,t,hx,hs⟩:=Zbo hs
    obtain ⟨g,l0,rfl,hs2⟩:=Zwu hs
    rw [Zof] at hs2
    have hl:=Zbp hm tr
    rw [hx] at hl
    exact Zq709 (Zrl sc) hop hl.head f hl.tail (Zuo hs2)
   ·cases hm
  ·simp only [mK] at hm;simp only [stepK] at hs
   split at hm
   ·rename_i f0 args at_ hop
    simp only [Ya,beq_iff_eq] at hm
    exact Zhd (zh_sound sc) hop (direct (args:=args) (at_:=at_) hm.2) f (Zbp hm.1 tr) L2.nil hs
   ·cases hm
end
inductive NK where
 | op (d:Option Nat) (k:K) (xs:List O)
 | al (d s:Nat) (z:List Cell)
 | box (d s:Nat) (x:O)
 | pk (d g:Nat) (w:Bool) (out:Nat) (c:Bool)
structure Nd where
 g:Option (Nat × Bool)
 k:NK
def NK.dst:NK->Option Nat
 | .op d _ _=>d
 | .al d _ _=>some d
 | .box d _ _=>some d
 | .pk d _ _ _ _=>some d
def RL.flat (gd:Option (Nat × Bool)):RL->List Nd
 | .nil=>[]
 | .op d k xs r=>⟨gd,.op d k xs⟩ :: r.flat gd
 | .al d s z r=>⟨gd,.al d s z⟩ :: r.flat gd
 | .box d s x r=>⟨gd,.box d s x⟩ :: r.flat gd
 | .sc g w b out d c r=>b.flat (some (g,w))++⟨gd,.pk d g w out c⟩ :: r.flat gd
def Zdl (t:List TV):Option (Nat × Bool)->Option Bool
 | none=>some true
 | some (g,w)=>match t.getD g .top with
  | .v (.c (.bool x))=>some (x==w)
  | .tup _=>some false
  | _=>none
def Zdu (s:Nat) (x:TV):TV:=if Zt s x=true then x else .top
def nodeK (C:Zk) (G:Glo):NK->St->Option St
 | .op d k xs,st=>stepK C G k (xs.map (rdO st)) st.s st.h fun v s h=>some ⟨setT st.t d v,s,h⟩
 | .al d s z,st=>some ⟨(st.t.map (Zdu s)).set d (.loc s 0),st.s.set s (some z),st.h⟩
 | .box d s x,st=>(match rdO st x with
  | .v y=>some ⟨(st.t.map (Zdu s)).set d (.loc s 0),st.s.set s (some y.cells),st.h⟩
  | _=>none)
 | .pk d g w out c,st=>(match st.t.getD g .top with
  | .v (.c (.bool x))=>if x=w then (match st.t.getD out .top with | .v (.c (.bool y))=>some { st with t:=st.t.set d (.v (.c (.bool y))) } | _=>none)
   else some { st with t:=st.t.set d (.v (.c (.bool c))) }
  | _=>none)
def stepN (C:Zk) (G:Glo) (n:Nd) (st:St):Option St :=
 match Zdl st.t n.g with
 | some true=>nodeK C G n.k st
 | some false=>some { st with t:=setT st.t n.k.dst (.tup []) }
 | none=>none
def runF (C:Zk) (G:Glo):List Nd->St->Option St
 | [],st=>some st
 | n :: ns,st=>(stepN C G n st).bind (runF C G ns)
theorem Zjx {C:Zk} {G:Glo}:∀(xs ys:List Nd) (st:St),runF C G (xs++ys) st=(runF C G xs st).bind (runF C G ys)
 | [],ys,st=>rfl
 | x :: xs,ys,st=>by
  simp only [Ybf,runF]
  cases stepN C G x st with
  | none=>rfl
  | some st'=>exact Zjx xs ys st'
def K.slotW:K->Bool
 | .st (.slot _) | .stAll (.slot _) _ | .stN (.slot _) _=>true
 | _=>false
def wfB (n:Nat) (E:List Nat):RL->Bool
 | .nil=>true
 | .op d k _ r=>!k.slotW&&d.all (·<n)&&wfB n (d.toList++E) r
 | .al _ _ _ _=>false
 | .box _ _ _ _=>false
 | .sc g _ b _ d _ r=>E.contains g&&!b.dsts.contains g&&wfB n [] b&&decide (d<n)&&wfB n (d :: (b.dsts++E)) r
def wfR (n:Nat):RL->Bool
 | .nil=>true
 | .op _ _ _ r=>wfR n r
 | .al _ _ _ r=>wfR n r
 | .box _ _ _ r=>wfR n r
 | .sc g _ b _ _ _ r=>!b.dsts.contains g&&wfB n [] b&&wfR n r
theorem Zlt {n:Nat}:∀(r:RL) (E:List Nat),wfB n E r=true->wfR n r=true
 | .nil,_,_=>rfl
 | .op d k xs r,E,h=>by simp only [wfB,Ya] at h;exact Zlt r _ h.2
 | .al _ _ _ _,_,h=>by simp [wfB] at h
 | .box _ _ _ _,_,h=>by simp [wfB] at h
 | .sc g w b out d c r,E,h=>by
  simp only [wfB,Ya] at h
  simp only [wfR,Ya]
  exact ⟨⟨h.1.1.1.2,h.1.1.2⟩,Zlt r _ h.2⟩
def RL.slotless:RL->Bool
 | .nil=>true
 | .op _ k _ r=>!k.slotW&&r.slotless
 | .al _ _ _ _=>false
 | .box _ _ _ _=>false
 | .sc _ _ b _ _ _ r=>b.slotless&&r.slotless
theorem Zec {n:Nat}:∀(r:RL) (E:List Nat),wfB n E r=true->r.slotless=true
 | .nil,_,_=>rfl
 | .op d k xs r,E,h=>by simp only [wfB,Ya] at h;simp only [RL.slotless,Ya];exact ⟨h.1.1,Zec r _ h.2⟩
 | .al _ _ _ _,_,h=>by simp [wfB] at h
 | .box _ _ _ _,_,h=>by simp [wfB] at h
 | .sc g w b out d c r,E,h=>by
  simp only [wfB,Ya] at h
  simp only [RL.slotless,Ya]
  exact ⟨Zec b _ h.1.1.2,Zec r _ h.2⟩
theorem stepK_s {α:Type} {C:Zk} {G:Glo} {k:K} (hk:k.slotW=false) (xs:List TV) (s:Ze) (h:Za) (f:TV->Ze->Za->Option α):stepK C G k xs s h f=stepK C G k xs s h fun v _ h=>f v s h:=by
 cases k<;>first
  | rfl
  | (rename_i m;cases m<;>first
    | exact Yh hk
    | (simp only [stepK];congr 1;funext a x;congr 1;funext c;congr 1;funext cs off;split<;>first | rfl | (unfold Zhi;split<;>first | rfl | contradiction)))
  | (rename_i m n;cases m<;>first
    | exact Yh hk
    | (simp only [stepK];congr 1;funext a x;congr 1;funext c;congr 1;funext cs off;split<;>first | rfl | (unfold Zhi;split<;>first | rfl | contradiction)))
end Jq
