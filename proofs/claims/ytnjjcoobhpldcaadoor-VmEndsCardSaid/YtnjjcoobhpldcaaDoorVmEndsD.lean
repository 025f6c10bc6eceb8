/- YtnjjcoobhpldcaaDoorVmEndsD: a part of the proof; no conditions of its own. -/
import Derived.KernelRfl
import Derived.Test.YtnjjcoobhpldcaaDoorRows
import Derived.WalkKit
import Derived.ProofKit
import Derived.OpenShut
import Derived.ShutString
import Derived.ChangeOld
import Derived.Below
import Derived.Carry
import Derived.Test.YtnjjcoobhpldcaaDoorCards
import Derived.Test.YtnjjcoobhpldcaaDoorTie
import Derived.SevenTiedAt
import Derived.LaidMore
import Derived.Stop.Joined
import Derived.Lib.LaidTab
import Derived.MakeChecks
import Derived.LaidHandle
import Derived.Stop.LaidErr
import Derived.Test.YtnjjcoobhpldcaaDoorVmEndsC
set_option linter.unusedVariables false
set_option linter.unusedSimpArgs false

/- Machines: what the laws' loops share. -/
namespace Jq
open Go

theorem take_keep {n : Nat} {h h' : AHeap} (hk : Kp n h h') : h'.take n = h.take n := by
  refine List.ext_getElem? fun j => ?_
  rw [List.getElem?_take, List.getElem?_take]
  split
  · exact hk.2 j (by assumption)
  · rfl

theorem VmAt.keep {n : Nat} {h h' : AHeap} {k : Nat} {x : Cell} {pc : List Cell} {V : MV} (a : VmAt n h k x pc V) (hk : Kp h.length h h') : VmAt n h' k x pc V :=
  ⟨Nat.le_trans a.hn hk.1, a.nk, by rw [take_keep (hk.mono a.hn)]; exact a.prog, by rw [hk.blk (blk_lt' a.blk)]; exact a.blk, a.st.keepK hk, a.sep⟩

/-- What does not belong to a machine leaves it as it was. -/
theorem VmAt.other {n : Nat} {h h' : AHeap} {k : Nat} {x : Cell} {pc : List Cell} {V : MV} (a : VmAt n h k x pc V) (hl : h.length ≤ h'.length) (hn : Kp n h h') (hk : blk? h' k = blk? h k) (hx : ∀ j, isBlk x j → blk? h' j = blk? h j) : VmAt n h' k x pc V := by
  refine ⟨Nat.le_trans a.hn hl, a.nk, by rw [take_keep hn]; exact a.prog, by rw [hk]; exact a.blk, ⟨a.st.1, a.st.2.imp id ?_⟩, a.sep⟩
  rintro ⟨j, rfl, h1, h2⟩
  exact ⟨j, rfl, h1, by rw [hx j rfl]; exact h2⟩

theorem GoodP.inv {most : Nat} {P : PProg} (g : GoodP most P) (r : RunP P) {m : Int} (hm : 1 ≤ m ∧ m ≤ 3) : (MV.new P m).Inv :=
  MV.new_inv hm g.small r.fld (by have := g.locs; have := g.init; omega) (by have := g.init; omega) (fun c hc => by have := g.code c hc; omega)

theorem bits_may {V : MV} {j i : Nat} (h : (bitsL V.word)[j]? = some i) : V.may i = true := by
  have := (mem_bitsL.1 (List.mem_of_getElem? h)).2
  rwa [MV.word_bit] at this

section
variable {E : Env}

/-- A program made of numbers, and a machine of it. -/
theorem Vstart (hO : jacquardlaw6_Of_In E) (hN : vm_New_In E) {h : AHeap} {x : Cell} {l : List Int} (hx : SlAt h x 1 (intC .i64 l) l.length) (hlow : Low h.length x) (hl : l.length < 9223372036854775808) {most : Nat} (hmost : most ≤ 900) :
    ∃ (cs : List Cell) (h1 : AHeap) (P : PProg), R E 76 [.c x, .c (.int .i64 (most : Int))] h = some ([.agg cs], h1) ∧ ProgAt h1 cs P ∧ GoodP most P ∧ RunP P ∧ Kp h.length h h1 ∧
      ∀ (h2 : AHeap) (m : Int), Kp h1.length h1 h2 → 1 ≤ m → m ≤ 3 → ∃ n k pc h3, R E 171 [.agg cs, .c (.int .i64 m)] h2 = some ([.c (.ptr k 329 0), .c (.int .i64 0)], h3) ∧ VmAt n h3 k .nils pc (MV.new P m) ∧ h2.length ≤ n ∧ Kp h2.length h2 h3 := by
  obtain ⟨cs, h1, P, r1, p1, g1, g2, g3, g4⟩ := OfP_R hO hx hlow hl hmost
  refine ⟨cs, h1, P, r1, p1, g1, g2, g4, fun h2 m hk m1 m3 => ?_⟩
  exact VNew_R hN (p1.keep hk) g1.small g3 (by have := g1.locs; have := g1.init; omega) (by have := g1.init; omega) ⟨m1, m3⟩ g2.pok

theorem ptr_nil {α : Type} {k : Nat} {f : Bool → Option α} : eqNilK false (.ptr k 329 0) .nilp f = f false := rfl

/-- One of those that may be picked. -/
theorem choose {V : MV} {y : Cell} {n : Nat} {h : AHeap} (o : Own n h y 1 (natC (bitsL V.word)) (bitsL V.word).length) {v : Int} (h0 : 0 ≤ v) (h1 : v < (bitsL V.word).length) :
    ∃ i : Nat, V.may i = true ∧ ∀ {α : Type} (f : Cell → Option α), (idxSK 1 y v fun k N o => rdH h k N fun l => atK l o f) = f (.int .i64 (i : Int)) := by
  obtain ⟨q, rfl⟩ := Int.eq_ofNat_of_zero_le h0
  have hq : q < (bitsL V.word).length := by omega
  have hg := List.getElem?_eq_getElem hq
  exact ⟨(bitsL V.word)[q], bits_may hg, fun f => o.at.get1 hq (natC_get hg)⟩
end
end Jq

/- VmWaits: what waits is told by what may be picked. -/
namespace Jq
open Go

/-- How many wait there. -/
def MV.cnt (V : MV) (q : Nat) : Int :=
  if V.m = 2 ∧ 4 ≤ q ∧ q < 8 then ((V.b (q - 4)).length : Int)
  else if V.m = 3 ∧ 8 ≤ q ∧ q < 24 then ((V.b ((q - 8) / 4)).countP (oldP 3 (((q - 8) % 4 : Nat) : Int)) : Int) else 0

theorem MV.cnt2 {V : MV} (hm : V.m = 2) (q : Nat) : V.cnt q = if 4 ≤ q ∧ q < 8 then ((V.b (q - 4)).length : Int) else 0 := by
  unfold MV.cnt
  by_cases h : 4 ≤ q ∧ q < 8
  · rw [if_pos ⟨hm, h⟩, if_pos h]
  · rw [if_neg (fun c => h c.2), if_neg (fun c => by omega), if_neg h]
theorem MV.cnt3 {V : MV} (hm : V.m = 3) (q : Nat) : V.cnt q = if 8 ≤ q ∧ q < 24 then ((V.b ((q - 8) / 4)).countP (oldP 3 (((q - 8) % 4 : Nat) : Int)) : Int) else 0 := by
  unfold MV.cnt
  rw [if_neg (fun c => by omega)]
  by_cases h : 8 ≤ q ∧ q < 24
  · rw [if_pos ⟨hm, h⟩, if_pos h]
  · rw [if_neg (fun c => h c.2), if_neg h]

def cntC (V : MV) : List Cell := (List.range 24).map fun q => .int .i64 (V.cnt q)

theorem MV.may_cnt (V : MV) {k : Nat} (h4 : 4 ≤ k) (h24 : k < 24) : V.may k = decide (V.cnt k > 0) := by
  unfold MV.may MV.cnt
  rw [if_neg (by omega)]
  by_cases h8 : k < 8
  · rw [if_pos h8]
    unfold MV.mayF
    by_cases hm : V.m = 2
    · rw [if_pos ⟨hm, h4, h8⟩, hm]
      cases V.b (k - 4) with
      | nil => rfl
      | cons e l => rw [decide_eq_true (by rw [List.length_cons]; omega)]; rfl
    · rw [if_neg (fun q => hm q.1), if_neg (show ¬ (V.m = 3 ∧ 8 ≤ k ∧ k < 24) by omega), beq_false_of_ne hm]; rfl
  · rw [if_neg h8, if_pos h24, if_neg (by omega)]
    unfold MV.mayL
    by_cases hm : V.m = 3
    · rw [if_pos ⟨hm, by omega, h24⟩, hm, Bool.eq_iff_iff, decide_eq_true_eq]
      have : ((3 : Int) == 3) = true := rfl
      rw [this, Bool.true_and, List.find?_isSome]
      constructor
      · rintro ⟨e, he, hp⟩
        have := List.countP_pos_iff.2 ⟨e, he, hp⟩
        omega
      · intro hp
        obtain ⟨e, he, hp⟩ := List.countP_pos_iff.1 (show 0 < (V.b ((k - 8) / 4)).countP (oldP 3 (((k - 8) % 4 : Nat) : Int)) by omega)
        exact ⟨e, he, hp⟩
    · rw [if_neg (fun q => hm q.1), beq_false_of_ne hm]; rfl

/-- Where a step's stores are counted. -/
def qOf (m : Int) (s : Stp) : Nat := if m = 3 then 8 + (4 * s.t.toNat + s.loc.toNat) else 4 + s.t.toNat

theorem evOf_kinds (i : Ins) (l : Lcl) (v : Int) : 1 ≤ (evOf i l v).kind ∧ (evOf i l v).kind ≤ 5 := by
  unfold evOf
  split
  · exact ⟨by dsimp only; omega, by dsimp only; omega⟩
  · split
    · exact ⟨by dsimp only; omega, by dsimp only; omega⟩
    · split
      · split <;> exact ⟨by dsimp only; omega, by dsimp only; omega⟩
      · exact ⟨by dsimp only; omega, by dsimp only; omega⟩

theorem MV.nx_b (V : MV) (i t : Nat) : (V.nx i).b t = (if i < 4 then V.thrM i (V.thrI i) else if i < 8 then V.fluM (i - 4) 0 else V.fluM ((i - 8) / 4) (((i - 8) % 4 : Nat) : Int)).b t := rfl

theorem countP_erase {l : List Ent} {p q : Ent → Bool} {e : Ent} (hf : l.find? p = some e) : ((l.eraseP p).countP q : Int) = (l.countP q : Int) - if q e = true then 1 else 0 := by
  induction l with
  | nil => cases hf
  | cons a l ih =>
    rw [List.find?_cons] at hf
    cases hp : p a with
    | true =>
      rw [hp] at hf
      cases hf
      rw [List.eraseP_cons_of_pos hp, List.countP_cons]
      split <;> omega
    | false =>
      rw [hp] at hf
      rw [List.eraseP_cons_of_neg (by rw [hp]; simp), List.countP_cons, List.countP_cons]
      have := ih hf
      split <;> omega

theorem new_b (P : PProg) (m : Int) (t : Nat) : (MV.new P m).b t = [] := by
  unfold MV.b MV.new
  match t with
  | 0 => rfl
  | 1 => rfl
  | 2 => rfl
  | 3 => rfl
  | t + 4 => rfl

section
variable {E : Env}

end
end Jq

/- Each thread comes to its end. -/
namespace Jq
open Go

theorem stepI_le {code : List Ins} (hs : SkipOk code) {l l' : Lcl} (h : stepI code l = some l') : l'.pc ≤ code.length := by
  obtain ⟨h0, h1, _⟩ := stepI_pc h
  unfold stepI at h
  rw [if_pos h0] at h
  cases hi : code[l.pc.toNat]? with
  | none => rw [hi] at h; cases h
  | some i =>
    rw [hi] at h
    dsimp only at h
    by_cases h5 : i.kind = 5
    · rw [if_pos h5] at h
      cases h
      show (Lcl.setR _ _ _).pc + 1 ≤ _
      rw [Lcl.setR_pc]; omega
    · rw [if_neg h5] at h
      by_cases h6 : i.kind = 6
      · rw [if_pos h6] at h
        have := hs _ _ hi h6
        split at h
        · cases h
          show l.pc + min (max i.n 0) code.length + 1 ≤ _
          omega
        · cases h
          show l.pc + 1 ≤ _
          omega
      · rw [if_neg h6] at h; cases h

theorem nrm_le {code : List Ins} (hs : SkipOk code) : ∀ (k : Nat) (l : Lcl), l.pc ≤ code.length → (nrm code k l).pc ≤ code.length
  | 0, l, h => h
  | k + 1, l, h => by
    rw [nrm]
    cases hl : stepI code l with
    | none => exact h
    | some l' => exact nrm_le hs k l' (stepI_le hs hl)

theorem afterL_le {code : List Ins} (hs : SkipOk code) {l : Lcl} {i : Ins} (hn : nextI code l = some i) (v : Int) : (afterL code l v).pc ≤ code.length ∧ stepI code (afterL code l v) = none := by
  have hk := nextI_kind hn
  unfold afterL
  rw [hn]
  refine ⟨nrm_le hs _ _ ?_, normL_done _ _⟩
  show l.pc + 1 ≤ _
  omega

section
variable {E : Env}

end
end Jq

/- The document's check of a test. -/
namespace Jq
open Go

def sumM (l : List (List Ins)) : Int := ((l.map fun c => min c.length 100).sum : Nat)
def jmpAt (len : Nat) (k : Nat) (i : Ins) : Bool := i.kind == 6 && (decide (i.n < 1) || decide (i.n > (len : Int) - k - 1))
section
variable {E : Env}

end
end Jq

/- The document's check of a test: the whole. -/
namespace Jq
open Go

section
variable {E : Env}

end
end Jq

namespace Jq
open Go


end Jq

/- Threads step by step, of any test. -/
namespace Jq
open Go

def shOpd : Sh := .agg (.cons (.i .i64) (.cons (.i .i64) .nil))
def shIns : Sh := .agg (.cons (.i .i64) (.cons (.i .i64) (.cons (.i .i64) (.cons shOpd (.cons (.i .i64) (.cons shOpd (.cons (.i .i64) .nil)))))))
def shAtm : Sh := .agg (.cons (.i .i64) (.cons (.i .i64) (.cons (.i .i64) (.cons (.i .i64) .nil))))
def shCond : Sh := .agg (.cons (.i .i64) (.cons (.sl (.sl shAtm)) .nil))
def shTest : Sh := .agg (.cons .s (.cons (.sl shPair) (.cons (.sl (.sl shIns)) (.cons shCond .nil))))
def shLcl : Sh := .agg (.cons (.i .i64) (.cons (.agg (Sh.rep (.i .i64) 4)) .nil))

/-- Is a test of few parts? -/
def fewB (T : PTest) : Bool := !(((decide ((T.thr.length : Int) > 6) || decide ((T.inits.length : Int) > 40)) || decide ((T.name.size : Int) > 60)) || decide ((T.any.length : Int) > 12)) && !(T.thr.any fun c => decide ((c.length : Int) > 30)) && !(T.any.any fun c => decide ((c.length : Int) > 12))

section
variable {E : Env}

end

end Jq

/- Threads step by step, of any test: the law. -/
namespace Jq
open Go

section
variable {E : Env}

end
end Jq

/- A test is made ready as the document says, or refused. -/
namespace Jq
open Go

theorem SlAt.cells1 {h : AHeap} {x : Cell} {cs : List Cell} {len : Nat} (s : SlAt h x 1 cs len) : slCells h 1 x = some cs := by
  have hl := s.1
  rcases s.2 with ⟨rfl, rfl⟩ | ⟨k, N, off, rfl, hb⟩
  · have : cs = [] := List.length_eq_zero_iff.1 (by omega)
    rw [this]; rfl
  · unfold slCells
    dsimp only
    by_cases h0 : len = 0
    · have : cs = [] := List.length_eq_zero_iff.1 (by omega)
      rw [if_pos h0, this]
    · rw [if_neg h0]
      rcases hb with hb | ⟨b, hb, hN, hle, hat⟩
      · exact absurd hb h0
      · rw [hb]
        simp only
        rw [if_pos ⟨hN, hle⟩]
        congr 1
        refine List.ext_getElem? fun j => ?_
        rw [List.getElem?_take, List.getElem?_drop]
        by_cases hj : j < len * 1
        · rw [if_pos hj, hat j hj]
        · rw [if_neg hj, List.getElem?_eq_none (by omega)]

section
variable {E : Env}

theorem refSize_R (hE : jacquardref6_Size_In E) {cs : List Cell} {P : PProg} {h : AHeap} (p : ProgAt h cs P) (hs : P.small) : R E 103 [.agg cs] h = some ([.c (.int .i64 (sumL P.thr))], h) := by
  obtain ⟨a, b, c, ts, rfl, _, _, ⟨hc, _⟩, hx⟩ := p
  refine R_intro hE.fn ?_
  have a2 : ∀ {α : Type} (f : Cell → Option α), atK [a, b, c] 2 f = f c := fun _ => rfl
  have n2 := hs.1
  have loop := Lim_count (F := jacquardref6_Size_F1 (R E) Lim E.glob) (fun i => jacquardref6_Size_s1 (sumL (P.thr.take i)) (i : Int) [a, b, c] h) 0 P.thr.length (by omega) (p := (.exit 0, jacquardref6_Size_x1_1 (sumL (P.thr.take P.thr.length)) h))
    (fun i _ hi => by
      have hq : P.thr[i]? = some P.thr[i] := List.getElem?_eq_getElem hi
      generalize P.thr[i] = q at hq
      obtain ⟨y, y1, y2, y3⟩ := hx i q hq
      have hsum := sumT_le (P.thr.take i) fun c hc => hs.2 c (List.mem_of_mem_take hc)
      rw [List.length_take] at hsum
      have hql := hs.2 q (List.mem_of_getElem? hq)
      have hw : E.glob.wrap .i64 (sumL (P.thr.take i) + (q.length : Int)) = sumL (P.thr.take (i + 1)) := by
        rw [takeI_succ hq, sumL_snoc]
        unfold sumL
        exact g_wrap_i64 (by omega) (by omega)
      rw [jacquardref6_Size_r1, a2, hc.len, if_pos (by simp; omega), a2, hc.get1 hi y1, y2.len, hw, g_succ (by omega)])
    (Lim_exit (by rw [jacquardref6_Size_r1, a2, hc.len, if_neg (by simp)]))
  rw [List.take_of_length_le (Nat.le_refl _), show sumL (P.thr.take 0) = 0 from rfl, show ((0 : Nat) : Int) = 0 from rfl] at loop
  rw [jacquardref6_Size_eq, loop, bind_ok, jacquardref6_Size_e1_1]

end
end Jq

/- Machines: how long one goes on. -/
namespace Jq
open Go

def MV.sumB (V : MV) : Int := (V.b 0).length + (V.b 1).length + (V.b 2).length + (V.b 3).length
def MV.sumP (V : MV) : Int := (V.l 0).pc + (V.l 1).pc + (V.l 2).pc + (V.l 3).pc
def isSt (m : Int) (s : Stp) : Bool := s.kind == 2 && m != 1
def isFl (s : Stp) : Bool := s.kind == 6
def MV.skips (V : MV) : Prop := ∀ c ∈ V.P.thr, SkipOk c

structure MV.Inv2 (V : MV) : Prop where
  le : ∀ t, t < 4 → (V.l t).pc ≤ (V.P.code t).length
  ms : (V.st.length : Int) + V.sumB ≤ 2 * V.sumP
  m1 : V.m = 1 → ∀ t, V.b t = []
  bal : (V.st.countP (isSt V.m) : Int) = V.st.countP isFl + V.sumB

theorem sum4 {f g : Nat → Int} {i : Nat} {d : Int} (hi : i < 4) (h : ∀ t, g t = if t = i then f i + d else f t) : g 0 + g 1 + g 2 + g 3 = f 0 + f 1 + f 2 + f 3 + d := by
  match i with
  | 0 => have h0 := h 0; have h1 := h 1; have h2 := h 2; have h3 := h 3; simp at h0 h1 h2 h3; omega
  | 1 => have h0 := h 0; have h1 := h 1; have h2 := h 2; have h3 := h 3; simp at h0 h1 h2 h3; omega
  | 2 => have h0 := h 0; have h1 := h 1; have h2 := h 2; have h3 := h 3; simp at h0 h1 h2 h3; omega
  | 3 => have h0 := h 0; have h1 := h 1; have h2 := h 2; have h3 := h 3; simp at h0 h1 h2 h3; omega
  | i + 4 => omega

theorem code_skip {P : PProg} (h : ∀ c ∈ P.thr, SkipOk c) (t : Int) : SkipOk (P.code t) := by
  unfold PProg.code
  split
  · rw [List.getD_eq_getElem?_getD]
    cases hq : P.thr[t.toNat]? with
    | none => intro j i hi; simp at hi
    | some c => exact h c (List.mem_of_getElem? hq)
  · intro j i hi; simp at hi

theorem startL_le {P : PProg} (h : ∀ c ∈ P.thr, SkipOk c) (t : Int) : (startL P t).pc ≤ (P.code t).length := by
  unfold startL normL
  exact nrm_le (code_skip h t) _ _ (by show (0 : Int) ≤ _; omega)

/-- All of a program's instructions. -/
theorem sum_codes {P : PProg} (h4 : P.thr.length ≤ 4) : ((P.code 0).length : Int) + (P.code 1).length + (P.code 2).length + (P.code 3).length = sumL P.thr := by
  have hc : ∀ t : Nat, P.code (t : Int) = P.thr.getD t [] := fun t => by unfold PProg.code; rw [if_pos (by omega), Int.toNat_natCast]
  have e0 := hc 0; have e1 := hc 1; have e2 := hc 2; have e3 := hc 3
  rw [show ((0 : Nat) : Int) = 0 from rfl] at e0
  rw [show ((1 : Nat) : Int) = 1 from rfl] at e1
  rw [show ((2 : Nat) : Int) = 2 from rfl] at e2
  rw [show ((3 : Nat) : Int) = 3 from rfl] at e3
  rw [e0, e1, e2, e3]
  unfold sumL
  generalize P.thr = l at *
  match l with
  | [] => rfl
  | [a] => simp
  | [a, b] => simp
  | [a, b, c] => simp <;> omega
  | [a, b, c, d] => simp <;> omega
  | a :: b :: c :: d :: e :: r => simp at h4

theorem MV.Inv2.most {V : MV} (w : V.Inv2) (h4 : V.P.thr.length ≤ 4) : (V.st.length : Int) ≤ 2 * sumL V.P.thr := by
  have := w.ms
  have h := sum_codes h4
  have l0 := w.le 0 (by omega); have l1 := w.le 1 (by omega); have l2 := w.le 2 (by omega); have l3 := w.le 3 (by omega)
  rw [show ((0 : Nat) : Int) = 0 from rfl] at l0
  rw [show ((1 : Nat) : Int) = 1 from rfl] at l1
  rw [show ((2 : Nat) : Int) = 2 from rfl] at l2
  rw [show ((3 : Nat) : Int) = 3 from rfl] at l3
  unfold MV.sumB MV.sumP at this
  omega

theorem MV.new_inv2 {P : PProg} {m : Int} (hs : ∀ c ∈ P.thr, SkipOk c) : (MV.new P m).Inv2 := by
  have hb : (MV.new P m).sumB = 0 := by unfold MV.sumB; simp only [new_b]; rfl
  refine ⟨fun t ht => ?_, ?_, fun _ t => new_b P m t, ?_⟩
  · match t with
    | 0 => exact startL_le hs 0
    | 1 => exact startL_le hs 1
    | 2 => exact startL_le hs 2
    | 3 => exact startL_le hs 3
    | t + 4 => omega
  · rw [hb]
    have h0 : 0 ≤ ((MV.new P m).l 0).pc := startL_pc P 0
    have h1 : 0 ≤ ((MV.new P m).l 1).pc := startL_pc P 1
    have h2 : 0 ≤ ((MV.new P m).l 2).pc := startL_pc P 2
    have h3 : 0 ≤ ((MV.new P m).l 3).pc := startL_pc P 3
    show ((0 : Nat) : Int) + 0 ≤ 2 * MV.sumP _
    unfold MV.sumP
    omega
  · rw [hb]; rfl

theorem MV.nx_l (V : MV) (i t : Nat) : (V.nx i).l t = (if i < 4 then V.thrM i (V.thrI i) else if i < 8 then V.fluM (i - 4) 0 else V.fluM ((i - 8) / 4) (((i - 8) % 4 : Nat) : Int)).l t := rfl

/-- Whose flush a pick is, and of which store. -/
theorem MV.may_flu {V : MV} {i : Nat} (h4 : ¬ i < 4) (hi : V.may i = true) : ∃ (t : Nat) (loc : Int) (e : Ent), t < 4 ∧ (V.b t).find? (oldP (bmod V.m) loc) = some e ∧ V.stp i = ⟨i, t, 6, e.loc, 0, e.val, e.id⟩ ∧ (V.m ≠ 1) ∧
    (V.nx i) = { V with bf := V.bf.set t ((V.b t).eraseP (oldP (bmod V.m) loc)), mem := V.mem.set e.loc.toNat e.val, frm := V.frm.set e.loc.toNat e.id, st := V.st ++ [V.stp i] } := by
  have h24 := MV.may_lt hi
  have key : ∀ (t : Nat) (loc : Int) (e : Ent), (V.b t).find? (oldP (bmod V.m) loc) = some e → V.stp i = { V.fluS t loc with pick := i } → V.nx i = { V.fluM t loc with st := V.st ++ [V.stp i] } →
      V.stp i = ⟨i, t, 6, e.loc, 0, e.val, e.id⟩ ∧ (V.nx i) = { V with bf := V.bf.set t ((V.b t).eraseP (oldP (bmod V.m) loc)), mem := V.mem.set e.loc.toNat e.val, frm := V.frm.set e.loc.toNat e.id, st := V.st ++ [V.stp i] } := by
    intro t loc e he e1 e2
    have hee : V.fluE t loc = e := by unfold MV.fluE; rw [he]; rfl
    refine ⟨?_, ?_⟩
    · rw [e1]; unfold MV.fluS; rw [hee]
    · rw [e2]; unfold MV.fluM; rw [hee]
  by_cases h8 : i < 8
  · have hi' := hi
    unfold MV.may MV.mayF at hi'
    rw [if_neg h4, if_pos h8, Bool.and_eq_true] at hi'
    have hm2 : V.m = 2 := beq_iff_eq.1 hi'.1
    have hne : (V.b (i - 4)).length ≠ 0 := by simpa using hi'.2
    obtain ⟨e, he⟩ : ∃ e, (V.b (i - 4)).find? (oldP (bmod V.m) 0) = some e := by
      rw [hm2]
      cases hbb : V.b (i - 4) with
      | nil => rw [hbb] at hne; exact absurd rfl hne
      | cons e l => exact ⟨e, rfl⟩
    obtain ⟨k1, k2⟩ := key (i - 4) 0 e he (by unfold MV.stp; rw [if_neg h4, if_pos h8]) (by unfold MV.nx; rw [if_neg h4, if_pos h8])
    exact ⟨i - 4, 0, e, by omega, he, k1, by omega, k2⟩
  · have hi' := hi
    unfold MV.may MV.mayL at hi'
    rw [if_neg h4, if_neg h8, if_pos h24, Bool.and_eq_true] at hi'
    have hm3 : V.m = 3 := beq_iff_eq.1 hi'.1
    obtain ⟨e, he⟩ := Option.isSome_iff_exists.1 hi'.2
    have he' : (V.b ((i - 8) / 4)).find? (oldP (bmod V.m) (((i - 8) % 4 : Nat) : Int)) = some e := by rw [hm3]; exact he
    obtain ⟨k1, k2⟩ := key ((i - 8) / 4) _ e he' (by unfold MV.stp; rw [if_neg h4, if_neg h8]) (by unfold MV.nx; rw [if_neg h4, if_neg h8])
    exact ⟨(i - 8) / 4, _, e, by omega, he', k1, by omega, k2⟩

theorem MV.Inv.inv2_nx {V : MV} (v : V.Inv) (w : V.Inv2) (hs : V.skips) {i : Nat} (hi : V.may i = true) : (V.nx i).Inv2 := by
  have hmm : (V.nx i).m = V.m := (V.nx_P i).2
  have hPP : (V.nx i).P = V.P := (V.nx_P i).1
  have hst : (V.nx i).st = V.st ++ [V.stp i] := V.nx_st i
  by_cases h4 : i < 4
  · have hq := MV.may_thr h4 hi
    have hl : ∀ t, (V.nx i).l t = if t = i then afterL (V.P.code i) (V.l i) (V.val i (V.thrI i)).1 else V.l t := fun t => by rw [V.nx_l, if_pos h4, v.thrL h4]
    have hb : ∀ t, (V.nx i).b t = if t = i ∧ isSt V.m (V.stp i) = true then V.b i ++ [⟨(V.stp i).loc, (V.stp i).w, V.st.length⟩] else V.b t := fun t => by
      have e : V.stp i = { V.thrS i (V.thrI i) with pick := i } := by unfold MV.stp; rw [if_pos h4]
      rw [V.nx_b, if_pos h4, v.thrB h4, e]
      have hiff : isSt V.m { V.thrS i (V.thrI i) with pick := i } = true ↔ ((evOf (V.thrI i) (V.l i) (V.val i (V.thrI i)).1).kind = 2 ∧ V.m ≠ 1) := by
        unfold isSt
        rw [Bool.and_eq_true, beq_iff_eq, bne_iff_ne]
        exact Iff.rfl
      by_cases hc : t = i ∧ (evOf (V.thrI i) (V.l i) (V.val i (V.thrI i)).1).kind = 2 ∧ V.m ≠ 1
      · rw [if_pos hc, if_pos ⟨hc.1, hiff.2 hc.2⟩]; rfl
      · rw [if_neg hc, if_neg (fun q => hc ⟨q.1, hiff.1 q.2⟩)]
    have hk : isFl (V.stp i) = false := by
      have : (V.stp i).kind = (evOf (V.thrI i) (V.l i) (V.val i (V.thrI i)).1).kind := by unfold MV.stp; rw [if_pos h4]; rfl
      have := evOf_kinds (V.thrI i) (V.l i) (V.val i (V.thrI i)).1
      unfold isFl
      exact beq_false_of_ne (by omega)
    obtain ⟨a1, _⟩ := afterL_le (code_skip hs i) hq (V.val i (V.thrI i)).1
    have a2 : (V.l i).pc + 1 ≤ (afterL (V.P.code i) (V.l i) (V.val i (V.thrI i)).1).pc := afterL_pc hq _
    have sP : (V.nx i).sumP = V.sumP + ((afterL (V.P.code i) (V.l i) (V.val i (V.thrI i)).1).pc - (V.l i).pc) := by
      unfold MV.sumP
      exact sum4 (f := fun t => (V.l t).pc) (g := fun t => ((V.nx i).l t).pc) h4 fun t => by
        try dsimp only
        rw [hl]
        by_cases e : t = i
        · rw [if_pos e, if_pos e]; omega
        · rw [if_neg e, if_neg e]
    have sB : (V.nx i).sumB = V.sumB + (if isSt V.m (V.stp i) = true then 1 else 0) := by
      unfold MV.sumB
      exact sum4 (f := fun t => ((V.b t).length : Int)) (g := fun t => (((V.nx i).b t).length : Int)) h4 fun t => by
        try dsimp only
        rw [hb]
        by_cases e : t = i
        · by_cases hs : isSt V.m (V.stp i) = true
          · rw [if_pos ⟨e, hs⟩, if_pos e, if_pos hs, List.length_append, List.length_singleton]; omega
          · rw [if_neg (fun c => hs c.2), if_pos e, if_neg hs, e]; omega
        · rw [if_neg (fun c => e c.1), if_neg e]
    refine ⟨fun t ht => ?_, ?_, fun hm t => ?_, ?_⟩
    · rw [hl, hPP]
      split
      · rename_i e; rw [e]; exact a1
      · exact w.le t ht
    · have := w.ms
      rw [hst, sP, sB, List.length_append, List.length_singleton]
      split <;> omega
    · rw [hmm] at hm
      have hns : ¬ (t = i ∧ isSt V.m (V.stp i) = true) := fun c => by
        have := c.2
        rw [hm] at this
        simp [isSt] at this
      rw [hb, if_neg hns]
      exact w.m1 hm t
    · have := w.bal
      rw [hst, sB, hmm, List.countP_append, List.countP_append, List.countP_singleton, List.countP_singleton, hk, if_neg (c := (false = true)) (by simp)]
      split <;> omega
  · obtain ⟨t, loc, e, ht, hf, hs', hm1, hnx⟩ := MV.may_flu h4 hi
    have hl : ∀ t, (V.nx i).l t = V.l t := fun t => by rw [hnx]; rfl
    have hb : ∀ t', (V.nx i).b t' = if t' = t then (V.b t).eraseP (oldP (bmod V.m) loc) else V.b t' := fun t' => by
      rw [hnx]
      show (V.bf.set t _).getD t' [] = _
      rw [getDset (by rw [v.fit.bf]; exact ht)]; rfl
    have hlen := countP_erase (q := fun _ => true) hf
    simp only [List.countP_true, if_true] at hlen
    have sP : (V.nx i).sumP = V.sumP := by unfold MV.sumP; rw [hl, hl, hl, hl]
    have sB : (V.nx i).sumB = V.sumB + (-1) := by
      unfold MV.sumB
      exact sum4 (f := fun t => ((V.b t).length : Int)) (g := fun t => (((V.nx i).b t).length : Int)) ht fun t' => by
        try dsimp only
        rw [hb]
        by_cases e : t' = t
        · rw [if_pos e, if_pos e]; omega
        · rw [if_neg e, if_neg e]
    refine ⟨fun t ht => by rw [hl, hPP]; exact w.le t ht, ?_, fun hm => absurd (hmm.symm.trans hm) hm1, ?_⟩
    · have := w.ms
      rw [hst, sP, sB, List.length_append, List.length_singleton]; omega
    · have := w.bal
      rw [hst, sB, hmm, List.countP_append, List.countP_append, List.countP_singleton, List.countP_singleton, hs', if_neg (by unfold isSt; simp), if_pos (by unfold isFl; simp)]
      omega

theorem MV.skips_nx {V : MV} (h : V.skips) (i : Nat) : (V.nx i).skips := by
  unfold MV.skips; rw [(V.nx_P i).1]; exact h

/-- If nothing may be picked nothing waits. -/
theorem MV.Inv.done {V : MV} (v : V.Inv) (w : V.Inv2) (h0 : V.word = 0) : V.sumB = 0 := by
  have hno : ∀ i, V.may i = false := fun i => by rw [← MV.word_bit, h0, Nat.zero_testBit]
  have hb : ∀ t, t < 4 → V.b t = [] := fun t ht => by
    have hm := v.fit.m
    rcases (show V.m = 1 ∨ V.m = 2 ∨ V.m = 3 by omega) with h1 | h2 | h3
    · exact w.m1 h1 t
    · have := hno (4 + t)
      rw [MV.may_cnt V (by omega) (by omega), MV.cnt2 h2, if_pos ⟨by omega, by omega⟩, show 4 + t - 4 = t by omega, decide_eq_false_iff_not] at this
      exact List.length_eq_zero_iff.1 (by omega)
    · cases hbb : V.b t with
      | nil => rfl
      | cons e l =>
        exfalso
        have he := v.mem_b (t := t) (e := e) (by rw [hbb]; exact List.mem_cons_self)
        have := hno (8 + (4 * t + e.loc.toNat))
        rw [MV.may_cnt V (by omega) (by omega), MV.cnt3 h3, if_pos ⟨by omega, by omega⟩, show (8 + (4 * t + e.loc.toNat) - 8) / 4 = t by omega, show (8 + (4 * t + e.loc.toNat) - 8) % 4 = e.loc.toNat by omega, decide_eq_false_iff_not, hbb, List.countP_cons, if_pos (show oldP 3 ((e.loc.toNat : Nat) : Int) e = true by unfold oldP; simp; omega)] at this
        omega
  unfold MV.sumB
  rw [hb 0 (by omega), hb 1 (by omega), hb 2 (by omega), hb 3 (by omega)]; rfl
end Jq

/- VmEnds: however it is picked a machine is done. -/
namespace Jq
open Go

theorem g_rem3 {E : Env} (a : Int) : 0 ≤ E.glob.rem .i64 (E.glob.band .i64 a 255) 3 ∧ E.glob.rem .i64 (E.glob.band .i64 a 255) 3 < 3 := by
  refine rem_rng ?_ (by omega)
  rw [g_band255]; omega

theorem bits_none {V : MV} : (bitsL V.word).length = 0 ↔ V.word = 0 := by
  rw [List.length_eq_zero_iff]
  exact bitsL_nil V.word_lt

/-- Steps counted. -/
theorem stp_F {h : AHeap} {y : Cell} {l : List Stp} (o : SlAt h y 7 (stepsC l) l.length) {i : Nat} {s : Stp} (hq : l[i]? = some s) {α : Type} {f : Cell → Option α} :
    (idxSK 7 y (i : Int) fun k N o => rdH h k N fun l => atK l (o + 2) f) = f (.int .i64 s.kind) := o.get (getI_lt hq) (by omega) (stepsC_cell hq (by omega) rfl)

theorem take_count {l : List Stp} {i : Nat} {s : Stp} (hq : l[i]? = some s) (p : Stp → Bool) : ((l.take (i + 1)).countP p : Int) = (l.take i).countP p + if p s = true then 1 else 0 := by
  rw [takeI_succ hq, List.countP_append, List.countP_singleton]
  split <;> omega

section
variable {E : Env}

set_option maxHeartbeats 1000000 in
theorem VmEnds_law (ht : TabOk E) (hE : jacquardlaw16_VmEnds_In E) {h : AHeap} {c0 c1' c2' : List Cell} (o0 : okC h (.sl (.i .i64)) c0) (o1 : okC h (.i .i64) c1') (o2 : okC h (.sl (.i .i64)) c2') :
    ∃ h', R E 220 [av1 (.sl (.i .i64)) c0, av1 (.i .i64) c1', av1 (.sl (.i .i64)) c2'] h = some ([.c (.bool true)], h') := by
  obtain ⟨x, l, ha0, hx, hlow, _, hml⟩ := arg_ints o0
  obtain ⟨m0, ha1, _⟩ := arg_int o1
  obtain ⟨y, ps, ha2, hy, hylow, _, hpl⟩ := arg_ints o2
  obtain ⟨cs, h1, P, r1, p1, g1, g2, k1, mk⟩ := Vstart hE.c76 hE.c171 hx hlow (by unfold maxLen at hml; omega) (most := 12) (by omega)
  have hb1 := g_rem3 (E := E) m0
  have hm1 : E.glob.wrap .i64 (E.glob.rem .i64 (E.glob.band .i64 m0 255) 3 + 1) = E.glob.rem .i64 (E.glob.band .i64 m0 255) 3 + 1 := g_wrap_i64 (by omega) (by omega)
  generalize hmm : E.glob.rem .i64 (E.glob.band .i64 m0 255) 3 + 1 = m at hm1
  obtain ⟨n, k, pc, h2, r2, a2, n2, k2⟩ := mk h1 m (Kp.refl _ _) (by omega) (by omega)
  have kk2 : Kp h1.length h1 h2 := k2
  have hhn : h1.length ≤ n := n2
  have hn3 := g1.n
  have hsz : 0 ≤ sumL P.thr ∧ sumL P.thr ≤ 18 := by
    have := sumLen_le (c := 6) P.thr g1.code
    unfold sumL; omega
  have hs103 : ∀ h', Kp h1.length h1 h' → R E 103 [.agg cs] h' = some ([.c (.int .i64 (sumL P.thr))], h') := fun h' hk => refSize_R hE.c103 (p1.keep hk) g1.small
  have hw2 : E.glob.wrap .i64 (2 * sumL P.thr) = 2 * sumL P.thr := g_wrap_i64 (by omega) (by omega)
  obtain ⟨p, hp, hQ⟩ := Lim_fallN (F := jacquardlaw16_VmEnds_F1 (R E) Lim E.glob)
    (fun q st => ∃ (V : MV) (z : Cell) (h' : AHeap), q = 37 - V.st.length ∧ st = jacquardlaw16_VmEnds_s1 m y (.ptr k 329 0) (V.st.length : Int) cs h' ∧ VmAt n h' k z pc V ∧ V.Inv ∧ V.Inv2 ∧ V.skips ∧ V.m = m ∧ V.P = P ∧ Kp h1.length h1 h')
    (fun p => ∃ (V : MV) (z : Cell) (h' : AHeap), p = (.exit 0, jacquardlaw16_VmEnds_x1_1 m (.ptr k 329 0) (V.st.length : Int) cs h') ∧ V.word = 0 ∧ VmAt n h' k z pc V ∧ V.Inv ∧ V.Inv2 ∧ V.m = m ∧ V.P = P ∧ Kp h1.length h1 h')
    (fun q st hI => by
      obtain ⟨V, z, h', rfl, rfl, a, v, w, sk, vm, vP, kk⟩ := hI
      have hmost := w.most (by rw [vP]; omega)
      rw [vP] at hmost
      have pg := prog_at a.prog a.hn (Kp.refl n h')
      have dn := Done_R hE.c174 a.blk v.fit pg
      by_cases h0 : V.word = 0
      · refine .inr ⟨_, ?_, (by simp : Ex.exit 0 ≠ .normal), V, z, h', rfl, h0, a, v, w, vm, vP, kk⟩
        rw [jacquardlaw16_VmEnds_r1, dn, c1_ok, asB_ok, h0, if_neg (by simp)]
      · have en := Enabled_R hE.c172 a.blk v.fit pg
        obtain ⟨ww, h5, r5, o5, k5⟩ := List_R hE.c32 ht V.word_lt h'
        have a5 := a.keep k5
        have kk5 : Kp h1.length h1 h5 := kk.trans (k5.mono kk.1)
        have hne : (bitsL V.word).length ≠ 0 := fun e => h0 (bits_none.1 e)
        have pick : ∀ j : Nat, V.may j = true → ∃ (z' : Cell) (h6 : AHeap), R E 173 [.c (.ptr k 329 0), .c (.int .i64 (j : Int))] h5 = some ([.agg (V.stp j).cs, .c (.bool true)], h6) ∧
            ((∃ st' k', some (Ex.normal, jacquardlaw16_VmEnds_s1 m y (.ptr k 329 0) (E.glob.wrap .i64 ((V.st.length : Int) + 1)) cs h6) = some (.normal, st') ∧ (∃ (V : MV) (z : Cell) (h' : AHeap), k' = 37 - V.st.length ∧ st' = jacquardlaw16_VmEnds_s1 m y (.ptr k 329 0) (V.st.length : Int) cs h' ∧ VmAt n h' k z pc V ∧ V.Inv ∧ V.Inv2 ∧ V.skips ∧ V.m = m ∧ V.P = P ∧ Kp h1.length h1 h') ∧ k' < 37 - V.st.length)) ∧ z' = z' := by
          intro j hj
          obtain ⟨z', h6, r6, a6, k6⟩ := Pick_R hE.c173 a5 v (by omega) hj
          have v6 := v.nx hj
          have w6 := v.inv2_nx w sk hj
          have hl6 : (V.nx j).st.length = V.st.length + 1 := by rw [V.nx_st, List.length_append, List.length_singleton]
          refine ⟨z', h6, r6, ⟨_, 37 - (V.nx j).st.length, rfl, ⟨V.nx j, z', h6, rfl, by rw [g_succ (by omega), hl6], a6, v6, w6, MV.skips_nx sk j, by rw [(V.nx_P j).2, vm], by rw [(V.nx_P j).1, vP], kk5.trans (k6.kp.mono hhn)⟩, by omega⟩, rfl⟩
        refine .inl ?_
        by_cases hc : V.st.length < ps.length
        · have hq : ps[V.st.length]? = some ps[V.st.length] := List.getElem?_eq_getElem hc
          generalize ps[V.st.length] = pk at hq
          have hrng := rem_rng (E := E) (x := E.glob.band .i64 pk 65535) (m := ((bitsL V.word).length : Int)) g_band16.1 (by omega)
          obtain ⟨j, hj, hch⟩ := choose o5 hrng.1 hrng.2
          obtain ⟨z', h6, r6, ⟨st', k', e1, e2, e3⟩, _⟩ := pick j hj
          refine ⟨st', k', ?_, e2, e3⟩
          have hy5 := hy.keep hylow (k1.trans (kk5.mono k1.1))
          rw [jacquardlaw16_VmEnds_r1, dn, c1_ok, asB_ok, show (!(V.word == 0)) = true by simp [h0], if_pos rfl, en, c1_ok, asI_ok, r5, c1_ok, asC_ok, hy5.len, if_pos (by simp; omega), hy5.get1 hc (intC_get hq), asI_ok, o5.at.len, show (((bitsL V.word).length : Int) == 0) = false from beq_false_of_ne (by omega), scK_ok, if_pos (by exact ⟨rfl, p1.len⟩), hs103 h5 kk5, c1_ok, asI_ok, hw2, bind_ok]
          dsimp only
          rw [if_neg (by simp; omega), o5.at.len, if_neg (by omega), hch, asI_ok, r6, c2_ok, asA_ok, asB_ok, if_pos (by exact ⟨rfl, rfl, rfl⟩), if_neg (by simp)]
          exact e1
        · have hrng := rem_rng (E := E) (x := E.glob.wrap .i64 ((V.st.length : Int) * 5)) (m := ((bitsL V.word).length : Int)) (by rw [g_wrap_i64 (by omega) (by omega)]; omega) (by omega)
          obtain ⟨j, hj, hch⟩ := choose o5 hrng.1 hrng.2
          obtain ⟨z', h6, r6, ⟨st', k', e1, e2, e3⟩, _⟩ := pick j hj
          refine ⟨st', k', ?_, e2, e3⟩
          have hy5 := hy.keep hylow (k1.trans (kk5.mono k1.1))
          rw [jacquardlaw16_VmEnds_r1, dn, c1_ok, asB_ok, show (!(V.word == 0)) = true by simp [h0], if_pos rfl, en, c1_ok, asI_ok, r5, c1_ok, asC_ok, hy5.len, if_neg (by simp; omega), o5.at.len, show (((bitsL V.word).length : Int) == 0) = false from beq_false_of_ne (by omega), scK_ok, if_pos (by exact ⟨rfl, p1.len⟩), hs103 h5 kk5, c1_ok, asI_ok, hw2, bind_ok]
          dsimp only
          rw [if_neg (by simp; omega), o5.at.len, if_neg (by omega), hch, asI_ok, r6, c2_ok, asA_ok, asB_ok, if_pos (by exact ⟨rfl, rfl, rfl⟩), if_neg (by simp)]
          exact e1) (k := 37) (st := jacquardlaw16_VmEnds_s1 m y (.ptr k 329 0) 0 cs h2) ⟨MV.new P m, .nils, h2, rfl, rfl, a2, g1.inv g2 (by omega), MV.new_inv2 g1.skip, g1.skip, rfl, rfl, kk2⟩
  obtain ⟨V, z, h9, rfl, h0, a9, v, w, vm, vP, k9⟩ := hQ
  have hmost := w.most (by rw [vP]; omega)
  rw [vP] at hmost
  -- steps
  obtain ⟨yy, hA, rA, oA, kA⟩ := Steps_R hE.c175 a9 v.fit (by omega)
  have aA := a9.keep kA
  have kkA : Kp h1.length h1 hA := k9.trans (kA.mono k9.1)
  have cnt : Lim (jacquardlaw16_VmEnds_F2 (R E) Lim E.glob) (jacquardlaw16_VmEnds_s2 m (.ptr k 329 0) (V.st.length : Int) yy 0 0 0 cs hA) = some (.exit 2, jacquardlaw16_VmEnds_x2_3 (.ptr k 329 0) (V.st.length : Int) yy (V.st.countP (isSt m) : Int) (V.st.countP isFl : Int) cs hA) := by
    have lc := Lim_count (F := jacquardlaw16_VmEnds_F2 (R E) Lim E.glob) (fun i => jacquardlaw16_VmEnds_s2 m (.ptr k 329 0) (V.st.length : Int) yy ((V.st.take i).countP (isSt m) : Int) ((V.st.take i).countP isFl : Int) (i : Int) cs hA) 0 V.st.length (by omega) (fun i _ hi => by
      have hq : V.st[i]? = some V.st[i] := List.getElem?_eq_getElem hi
      generalize V.st[i] = s at hq
      have t1 := take_count hq (isSt m)
      have t2 := take_count hq isFl
      have b1 := List.countP_le_length (p := isSt m) (l := V.st.take i)
      have b2 := List.countP_le_length (p := isFl) (l := V.st.take i)
      rw [List.length_take] at b1 b2
      rw [jacquardlaw16_VmEnds_r2, oA.at.len, if_pos (by simp; omega), stp_F oA.at hq, asI_ok, scK_and]
      rw [show (s.kind == 2 && m != 1) = isSt m s from rfl]
      have w1 : E.glob.wrap .i64 (((V.st.take i).countP (isSt m) : Int) + 1) = (V.st.take i).countP (isSt m) + 1 := g_wrap_i64 (by omega) (by omega)
      have w2 : E.glob.wrap .i64 (((V.st.take i).countP isFl : Int) + 1) = (V.st.take i).countP isFl + 1 := g_wrap_i64 (by omega) (by omega)
      rw [t1, t2]
      by_cases hs : isSt m s = true
      · rw [if_pos hs, stp_F oA.at hq, asI_ok, w1, w2, g_succ (by omega), if_pos hs, show (s.kind == 6) = isFl s from rfl]
        by_cases hf : isFl s = true
        · rw [if_pos hf, if_pos hf]
        · rw [if_neg hf, if_neg hf, Int.add_zero]
      · rw [if_neg hs, stp_F oA.at hq, asI_ok, w2, g_succ (by omega), if_neg hs, Int.add_zero, show (s.kind == 6) = isFl s from rfl]
        by_cases hf : isFl s = true
        · rw [if_pos hf, if_pos hf]
        · rw [if_neg hf, if_neg hf, Int.add_zero]) (p := (.exit 2, jacquardlaw16_VmEnds_x2_3 (.ptr k 329 0) (V.st.length : Int) yy (V.st.countP (isSt m) : Int) (V.st.countP isFl : Int) cs hA)) (Lim_exit (by
      rw [jacquardlaw16_VmEnds_r2, oA.at.len, if_neg (by simp), List.take_of_length_le (Nat.le_refl _)]))
    rw [show ((0 : Nat) : Int) = 0 from rfl, List.take_zero, List.countP_nil, List.countP_nil] at lc
    exact lc
  -- nothing is picked any more
  have pgA := prog_at aA.prog aA.hn (Kp.refl n hA)
  have enA := Enabled_R hE.c172 aA.blk v.fit pgA
  have none : Lim (jacquardlaw16_VmEnds_F3 (R E) Lim E.glob) (jacquardlaw16_VmEnds_s3 (.ptr k 329 0) (V.st.length : Int) yy (V.st.countP (isSt m) : Int) (V.st.countP isFl : Int) (-1) cs hA) = some (.exit 4, jacquardlaw16_VmEnds_x3_5 (.ptr k 329 0) (V.st.length : Int) yy (V.st.countP (isSt m) : Int) (V.st.countP isFl : Int) cs hA) := by
    have lc := Lim_count (F := jacquardlaw16_VmEnds_F3 (R E) Lim E.glob) (fun i => jacquardlaw16_VmEnds_s3 (.ptr k 329 0) (V.st.length : Int) yy (V.st.countP (isSt m) : Int) (V.st.countP isFl : Int) ((i : Int) - 1) cs hA) 0 26 (by omega) (fun i _ hi => by
      have hno : hasI V.word ((i : Int) - 1) = false := by rw [h0]; unfold hasI; rw [Nat.zero_testBit]; simp
      rw [jacquardlaw16_VmEnds_r3, if_pos (by simp; omega), Pick_no hE.c173 aA v hno, c2_ok, asA_ok, asB_ok, if_pos (by exact ⟨rfl, rfl, rfl⟩), if_neg (by simp), g_wrap_i64 (by omega) (by omega), show ((i : Int) - 1 + 1) = ((i + 1 : Nat) : Int) - 1 by omega]) (p := (.exit 4, jacquardlaw16_VmEnds_x3_5 (.ptr k 329 0) (V.st.length : Int) yy (V.st.countP (isSt m) : Int) (V.st.countP isFl : Int) cs hA)) (Lim_exit (by
      rw [jacquardlaw16_VmEnds_r3, if_neg (by simp)]))
    rw [show ((0 : Nat) : Int) - 1 = -1 from rfl] at lc
    exact lc
  have hbal := w.bal
  rw [v.done w h0, vm] at hbal
  obtain ⟨hB, rB, kB⟩ := awake16_R hE.c170 hA
  refine ⟨hB, R_intro hE.fn ?_⟩
  rw [ha0, ha1, ha2, jacquardlaw16_VmEnds_eq, show (12 : Int) = ((12 : Nat) : Int) from rfl, r1, c1_ok, asA_ok, if_pos (by exact ⟨rfl, rfl, p1.len⟩)]
  dsimp only
  rw [if_pos (by exact ⟨rfl, p1.len⟩), hmm, hm1, r2, c2_ok, asC_ok, asI_ok, ptr_nil, scK_or, show (false || ((0 : Int) != 0)) = false from rfl, if_neg (by simp), hp, bind_ok]
  dsimp only
  rw [jacquardlaw16_VmEnds_e1_1, rA, c1_ok, asC_ok, cnt, bind_ok]
  dsimp only
  rw [jacquardlaw16_VmEnds_e2_3, none, bind_ok]
  dsimp only
  rw [jacquardlaw16_VmEnds_e3_5, if_pos (by exact ⟨rfl, p1.len⟩), hs103 hA kkA, c1_ok, asI_ok, hw2, oA.at.len, beq_self_eq_true, scK_and, show (decide ((V.st.length : Int) ≤ 2 * sumL P.thr) && true) = true by simp; omega, scK_and, show (true && (((V.st.countP (isSt m) : Nat) : Int) == ((V.st.countP isFl : Nat) : Int))) = true by rw [Bool.true_and, beq_iff_eq]; omega, scK_ok, enA, c1_ok, asI_ok, h0, bind_ok]
  dsimp only
  rw [show ((((0 : Nat) : Int)) == 0) = true from rfl, scK_ok, rB, c1_ok, asB_ok, bind_ok]
end
end Jq

/- VmEnds: whatever the input the call says true, and each argument reads behind it as before. No conditions. -/
namespace Go.Proofs.YtnjjcoobhpldcaaDoor.LVmEnds
open Go Jq Go.ChangeShapes Go.WideShapes Go.ChangeAt Go.RowKit
set_option linter.unusedVariables false

theorem own : ownKnob Tryd.prog.godebug = none := by kernel_rfl
theorem laidOut : laidOutB Tryd.prog = true := by kernel_rfl

theorem gN : Tryd.prog.globalNamed "math/bits.deBruijn64tab" = some 0 := by kernel_rfl
theorem met (os : Os) (args : Array Value) : laidMetH Tryd.prog Rows.vmEndsRow.laid ((World.doorLaid Tryd.prog 400 os).forCall (fun _ _ => 0) ⟨#[], args, []⟩).memory :=
  laidMetH_of_parts3 (fuel := 8) (laidMet_of_run' 8 (by kernel_rfl) (by kernel_rfl)) (by kernel_rfl) (by kernel_rfl)
theorem of_laid {W : World} (h : laidMetH Tryd.prog Rows.vmEndsRow.laid W) : ∀ i, i < deB.length → W.cell? ⟨0, i, none⟩ = some (.int .u8 (deB.getD i 0)) := by
  rw [MakeChecks.laidMetH_plain _ _ _ (by kernel_rfl)] at h
  have h := laidMet.tail h
  have hT := Lib.tabIs_of_head (zs := deB) (n := 64) gN (t := 154) (by kernel_rfl) (e := 5) (by kernel_rfl) (by kernel_rfl) (by kernel_rfl) (by kernel_rfl) h
  exact fun i hi => hT.cell gN i hi

set_option maxRecDepth 100000 in
theorem lifted (os : Os) (started : os.Started) (H : Type) (enc : TypeId × Value → H) :
    ReturnsInHanded {} Tryd.checked os 8 .any (fun w args => (Rows.vmEndsSpec.pre enc Tryd.prog Tryd.f8 [] false w args ∧ laidMetH Tryd.prog Rows.vmEndsRow.laid w) ∧ sizedMet enc Tryd.prog Tryd.f8 (OpenSpec.ofChange Rows.vmEndsSpec) false w args) (Rows.vmEndsSpec.post enc Tryd.prog Tryd.f8 false true false false) := by
  refine returnsInHanded_of_change_and (C := Tryd.checked) (X := fun w _ => laidMetH Tryd.prog Rows.vmEndsRow.laid w) (fun _ _ _ hh h => h.of_heap hh) own started (by kernel_rfl) Tryd.func8
    (ChangeSpec.witness_shaped (enc := enc) (C := Tryd.checked) (os := os) (X := fun w _ => laidMetH Tryd.prog Rows.vmEndsRow.laid w) false (World.doorLaid Tryd.prog 400 os) #[.slice none 0 0, .int .i64 0, .slice none 0 0] 8 rfl (World.shaped_of_RefB (by kernel_rfl) (by kernel_rfl)) (by kernel_rfl) (by kernel_rfl) (by kernel_rfl) (met os _)) ?_
  intro W base args ds gs before hval0 hW _ _ hL _
  have hval : ∀ (j : Nat) t v, Tryd.f8.params[j]? = some t → args[j]? = some v → Value.okWide Tryd.prog W .any base t v := hval0
  have hW' := hW
  obtain ⟨p, q, hA0, hV, rfl, hfz, hnd⟩ := hW
  have hA : DataW.TrodAll enc Tryd.prog W 0 (fun _ => true) true Tryd.f8.params.toList args.toList ds p := hA0
  rw [Tryd.params8] at hA hval
  obtain ⟨v0, vs0, d0, ds0, p0, q0, hargs, rfl, rfl, h0, r0⟩ := trodAll_cons hA
  obtain ⟨v1, vs1, d1, ds1, p1, q1, rfl, rfl, rfl, h1, r1⟩ := trodAll_cons r0
  obtain ⟨v2, vs2, d2, ds2, p2, q2, rfl, rfl, rfl, h2, r2⟩ := trodAll_cons r1
  obtain ⟨rfl, rfl, rfl⟩ := trodAll_nil r2
  obtain rfl : args = #[v0, v1, v2] := by cases args; simp_all
  obtain ⟨rfl, rfl⟩ := trodVars_none hV
  have lt0 : ∀ x ∈ p0, x.block < W.heap.size := by obtain ⟨m, hm⟩ := h0; exact DataW.trod_lt m _ _ _ hm
  have lt1 : ∀ x ∈ p1, x.block < W.heap.size := by obtain ⟨m, hm⟩ := h1; exact DataW.trod_lt m _ _ _ hm
  have lt2 : ∀ x ∈ p2, x.block < W.heap.size := by obtain ⟨m, hm⟩ := h2; exact DataW.trod_lt m _ _ _ hm
  have c := Come.tab1 (S := seat) (W := W) deB (fun _ => rfl) (of_laid hL)
  have k0 : ((.sl (.i .i64)) : Sh).chk seat.P 25 = true := by kernel_rfl
  obtain ⟨b0, ρ0, cs0, c0, e0, x0, a0, o0⟩ := opens_arg (S := seat) (W := W) (sh := (.sl (.i .i64))) k0 h0 (wide_of k0 (hval 0 25 v0 rfl rfl)) ⟨nofun, nofun⟩ c
  have k1 : ((.i .i64) : Sh).chk seat.P 3 = true := by kernel_rfl
  obtain ⟨b1, ρ1, cs1, c1, e1, x1, a1, o1⟩ := opens_arg (S := seat) (W := W) (sh := (.i .i64)) k1 h1 (wide_of k1 (hval 1 3 v1 rfl rfl)) ⟨nofun, nofun⟩ c0
  have k2 : ((.sl (.i .i64)) : Sh).chk seat.P 25 = true := by kernel_rfl
  obtain ⟨b2, ρ2, cs2, c2, e2, x2, a2, o2⟩ := opens_arg (S := seat) (W := W) (sh := (.sl (.i .i64))) k2 h2 (wide_of k2 (hval 2 25 v2 rfl rfl)) ⟨nofun, nofun⟩ c1
  obtain ⟨h', hR⟩ := VmEnds_law (E := env) tabOk in_220 (okC_mono x2 _ _ (okC_mono x1 _ _ o0)) (okC_mono x2 _ _ o1) o2
  refine (law_call (S := seat) (R_sound (S := seat) (E := env) rfl allOk) c2 (vals := #[v0, v1, v2]) (L2.cons (relA.mono e2 (relA.mono e1 a0)) (L2.cons (relA.mono e2 a1) (L2.cons a2 L2.nil))) hR).mono fun e W' ⟨he, bel⟩ => ?_
  subst he
  exact ⟨_, rfl, _, _, _, [], _, [], hW', trodAll_mk1 (shut_bool Tryd.underlying4 _), (trodAll_cons_mk (Below.trod laidOut (by kernel_rfl) (of_decide_eq_true (by kernel_rfl)) h0 bel lt0) (trodAll_cons_mk (Below.trod laidOut (by kernel_rfl) (of_decide_eq_true (by kernel_rfl)) h1 bel lt1) (trodAll_cons_mk (Below.trod laidOut (by kernel_rfl) (of_decide_eq_true (by kernel_rfl)) h2 bel lt2) trodAll_mk0))), rfl, bel.frame _, fun h => by cases h⟩

theorem over : Rows.vmEndsRow.holds Tryd.pinned (OpenSpec.ofChange Rows.vmEndsSpec) :=
  OpenClaim.holds_of_wide 8 Tryd.f8 rfl rfl rfl rfl rfl rfl rfl ⟨rfl, rfl, rfl, rfl, rfl⟩ rfl rfl rfl rfl rfl (by kernel_rfl) Tryd.func8 (by kernel_rfl)
    (of_decide_eq_true (by kernel_rfl)) (by unfold Func.isWrapper; first | (rw [if_pos (by decide +kernel)]; kernel_rfl) | (rw [if_neg (by decide +kernel)]; exact ⟨rfl, rfl⟩))
    (fun os started H enc _ => lifted os started H enc)

theorem proved : Rows.VmEndsCardSaid :=
  Claim7.holds_tied_plain_at .later [] [.data, .data, .data] true (true, "fbcc807f78fdf03f3d1dccb6a06178810c141046c856c49e25ab327e98756d6a") false
    over (fun _ h => by cases h) (by kernel_rfl) (fun _ h => by cases h) vmEnds_row_tie rfl ⟨rfl, rfl⟩ (by kernel_rfl) rfl
    (fun f fn hf hfn => by
      obtain rfl : f = 8 := Option.some.inj ((show Tryd.prog.funcNamed "jacquard/jacquardlaw16.VmEnds" = some 8 by kernel_rfl).symm.trans hf) |>.symm
      obtain rfl : fn = Tryd.f8 := (Option.some.inj (Tryd.func8.symm.trans hfn)).symm
      exact ⟨by kernel_rfl, fun j t ht => by
        rw [Tryd.params8] at ht
        have hm : t ∈ [25, 3, 25] := by simpa using Array.mem_of_getElem? ht
        have hall : ([25, 3, 25].all fun u => !Tryd.prog.wantsStandIn u) = true := by kernel_rfl
        exact (show Tryd.prog.wantsStandIn t = false by simpa using List.all_eq_true.1 hall t hm)⟩)
    (by kernel_rfl)
#print axioms proved

end Go.Proofs.YtnjjcoobhpldcaaDoor.LVmEnds

