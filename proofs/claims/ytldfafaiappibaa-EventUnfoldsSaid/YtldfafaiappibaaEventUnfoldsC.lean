/- YtldfafaiappibaaEventUnfoldsC: a part of the proof; no conditions of its own. -/
import Derived.Test.YtldfafaiappibaaRows
import Derived.WalkKit
import Derived.ProofKit
import Derived.OpenShut
import Derived.ShutString
import Derived.ChangeOld
import Derived.Below
import Derived.Carry
import Derived.Test.YtldfafaiappibaaEventUnfoldsB
set_option linter.unusedVariables false
set_option linter.unusedSimpArgs false

/- Orders: rows that go on, handed on one by one: rows cut and made longer. -/
namespace Jq
open Go

/-- All rows that go on from this one, in order. -/
def ext (n : Nat) (B : Nat → Nat) : Nat → Nat → List Nat → List (List Nat)
  | 0, _, row => [row]
  | k + 1, d, row => (List.range n).flatMap fun i => if (d.testBit i || (ndiff (B i) d != 0)) = true then [] else ext n B k (d ||| 2 ^ i) (row ++ [i])

/-- Handed on, one by one, till one says stop. -/
def feed {S : Type} (P : S → List Nat → S × Bool) : S → List (List Nat) → S × Bool
  | s, [] => (s, true)
  | s, r :: rs => if (P s r).2 = true then feed P (P s r).1 rs else ((P s r).1, false)

/-- The row under way: its block may reach further than it. -/
def RowQ (h : AHeap) (q : Cell) (row : List Nat) : Prop :=
  (q = .nils ∧ row = []) ∨ ∃ kr cs, q = .sl kr cs.length 0 row.length ∧ blk? h kr = some ⟨true, 1, cs⟩ ∧ cs.take row.length = natC row ∧ row.length ≤ cs.length

theorem RowQ.at {h : AHeap} {q : Cell} {row : List Nat} (r : RowQ h q row) : SlAt h q 1 (natC row) row.length := by
  refine ⟨by rw [natC_len]; omega, ?_⟩
  rcases r with ⟨rfl, rfl⟩ | ⟨kr, cs, rfl, hb, ht, hl⟩
  · exact .inl ⟨rfl, rfl⟩
  · refine .inr ⟨kr, _, 0, rfl, .inr ⟨_, hb, rfl, by omega, fun j hj => ?_⟩⟩
    rw [← ht, List.getElem?_take, if_pos (by omega), Nat.zero_add]

theorem RowQ.app {h : AHeap} {q : Cell} {row : List Nat} (r : RowQ h q row) (hr : row.length < 100) (i : Nat) :
    ∃ q' h', (∀ {α : Type} (f : Cell → AHeap → Option α), appK 1 8 q [.int .i64 (i : Int)] h f = f q' h') ∧ RowQ h' q' (row ++ [i]) ∧ h.length ≤ h'.length ∧ (∃ k, isBlk q' k) ∧ ∀ k, k < h.length → ¬ isBlk q k → h'[k]? = h[k]? ∧ ¬ isBlk q' k := by
  have hm : maxBytes ≥ 101 * 8 := by unfold maxBytes; omega
  rcases r with ⟨rfl, rfl⟩ | ⟨kr, cs, rfl, hb, ht, hl⟩
  · refine ⟨.sl h.length 1 0 1, h ++ [some ⟨true, 1, [.int .i64 (i : Int)]⟩], fun f => ?_, .inr ⟨h.length, [.int .i64 (i : Int)], rfl, blk_new _ _, rfl, by simp⟩, by simp, ⟨_, rfl⟩, fun k hk _ => ⟨List.getElem?_append_left hk, fun hq => ?_⟩⟩
    · unfold appK; simp only; rw [if_neg (by simp), if_pos ⟨by simp; omega, by simp; omega⟩]; simp
    · have : h.length = k := hq
      omega
  · have hkl := blk_lt' hb
    have hsl : row.length < cs.length → (splice cs row.length [Cell.int .i64 (i : Int)]).length = cs.length := fun hlt => by
      unfold splice
      simp only [List.length_append, List.length_take, List.length_drop, List.length_singleton]; omega
    by_cases hlt : row.length < cs.length
    · refine ⟨.sl kr cs.length 0 (row.length + 1), setBlk h kr (some ⟨true, 1, splice cs row.length [.int .i64 (i : Int)]⟩), fun f => ?_, .inr ⟨kr, splice cs row.length [.int .i64 (i : Int)], ?_, blk_set_self hkl _, ?_, ?_⟩, by rw [setBlk_len]; exact Nat.le_refl _, ⟨_, rfl⟩, fun k hk hq => ⟨?_, hq⟩⟩
      · unfold appK; simp only; rw [hb, Option.bind_some]; dsimp only
        rw [if_pos ⟨rfl, rfl, rfl, by omega, by simp; omega, by simp; omega⟩, if_pos (by simp; omega)]
        simp
      · rw [hsl hlt]; simp
      · rw [natC_snoc, ← ht, List.length_append, List.length_singleton]; unfold splice
        rw [List.take_append_of_le_length (by simp; omega), List.take_of_length_le (by simp; omega)]
      · rw [hsl hlt]; simp; omega
      · unfold setBlk; rw [List.getElem?_set_ne (fun h => hq h)]
    · have he : row.length = cs.length := by omega
      refine ⟨.sl kr (cs.length + 1) 0 (row.length + 1), setBlk h kr (some ⟨true, 1, cs ++ [.int .i64 (i : Int)]⟩), fun f => ?_, .inr ⟨kr, cs ++ [.int .i64 (i : Int)], by simp, blk_set_self hkl _, ?_, by simp; omega⟩, by rw [setBlk_len]; exact Nat.le_refl _, ⟨_, rfl⟩, fun k hk hq => ⟨?_, hq⟩⟩
      · unfold appK; simp only; rw [hb, Option.bind_some]; dsimp only
        rw [if_pos ⟨rfl, rfl, rfl, by omega, by simp; omega, by simp; omega⟩, if_neg (by simp; omega), if_pos trivial, he]
        simp
      · rw [natC_snoc, ← ht, List.take_of_length_le (by simp; omega), List.take_of_length_le (l := cs) (by omega)]
      · unfold setBlk; rw [List.getElem?_set_ne (fun h => hq h)]

theorem RowQ.cut {h : AHeap} {q : Cell} {row : List Nat} {i : Nat} (r : RowQ h q (row ++ [i])) :
    ∃ q', (∀ {α : Type} (f : Cell → Option α), sliceK h 1 false true q [.v (.c (.int .i64 (row.length : Int)))] f = f q') ∧ RowQ h q' row ∧ ∀ k, isBlk q' k ↔ isBlk q k := by
  rcases r with ⟨_, hn⟩ | ⟨kr, cs, rfl, hb, ht, hl⟩
  · simp at hn
  · refine ⟨.sl kr cs.length 0 row.length, fun f => ?_, .inr ⟨kr, cs, rfl, hb, ?_, by simp at hl; omega⟩, fun k => Iff.rfl⟩
    · unfold sliceK
      have hok : okSl h 1 kr cs.length = true := by unfold okSl; rw [hb]; simp
      simp only [hok, if_true]
      unfold boundsK
      simp only
      rw [if_pos ⟨by omega, by simp; omega⟩]
      simp
    · have := congrArg (List.take row.length) ht
      rw [List.take_take, natC_snoc] at this
      simp [natC_len] at this
      exact this

/-- What takes the rows: it needs I of the heap, some blocks of which are its own. -/
structure Put (E : Env) (S : Type) (P : S → List Nat → S × Bool) (fnc : Cell) (I : S → (Nat → Prop) → AHeap → Prop) (go : S → Prop) : Prop where
  on : ∀ s row, go s → (P s row).2 = true → go (P s row).1
  frame : ∀ s L h h', I s L h → (∀ k, L k → h'[k]? = h[k]?) → h.length ≤ h'.length → I s L h'
  low : ∀ s L h, I s L h → ∀ k, L k → k < h.length
  put : ∀ s L h x row, I s L h → go s → row.length ≤ 64 → SlAt h x 1 (natC row) row.length → (∀ k, isBlk x k → k < h.length ∧ ¬ L k) →
    ∃ h' L', (∀ {α : Type} (F : AV → AHeap → Option α), (fnK fnc fun g cs => c1 (R E g ([.c x] ++ cs) h) F) = F (.c (.bool (P s row).2)) h') ∧ I (P s row).1 L' h' ∧ h.length ≤ h'.length ∧ ∀ k, k < h.length → ¬ L k → h'[k]? = h[k]? ∧ ¬ L' k

end Jq

/- order.walk.on: every row that goes on is handed on, in order, till one says stop. -/
namespace Jq
open Go

variable {E : Env}

/-- What stands while walking. -/
structure WI {S : Type} (I : S → (Nat → Prop) → AHeap → Prop) (n kw kb : Nat) (B : Nat → Nat) (fnc : Cell) (row : List Nat) (s : S) (L : Nat → Prop) (h : AHeap) (q : Cell) : Prop where
  i : I s L h
  w : blk? h kw = some ⟨true, 0, [.sl kb n 0 n, q, fnc]⟩
  b : blk? h kb = some ⟨true, 1, setC n B⟩
  r : RowQ h q row
  lw : ¬ L kw
  lb : ¬ L kb
  wb : kw ≠ kb
  ap : ∀ j, isBlk q j → ¬ L j ∧ j ≠ kw ∧ j ≠ kb

/-- What a stretch of walking leaves alone. -/
def Left (kw : Nat) (L : Nat → Prop) (h : AHeap) (q : Cell) (L' : Nat → Prop) (h' : AHeap) (q' : Cell) : Prop :=
  h.length ≤ h'.length ∧ ∀ j, j < h.length → ¬ L j → j ≠ kw → ¬ isBlk q j → h'[j]? = h[j]? ∧ ¬ L' j ∧ ¬ isBlk q' j

theorem Left.refl (kw : Nat) (L : Nat → Prop) (h : AHeap) (q : Cell) : Left kw L h q L h q := ⟨Nat.le_refl _, fun _ _ a _ b => ⟨rfl, a, b⟩⟩

theorem Left.trans {kw : Nat} {L L' L'' : Nat → Prop} {h h' h'' : AHeap} {q q' q'' : Cell} (a : Left kw L h q L' h' q') (b : Left kw L' h' q' L'' h'' q'') : Left kw L h q L'' h'' q'' := by
  refine ⟨Nat.le_trans a.1 b.1, fun j h1 h2 h3 h4 => ?_⟩
  obtain ⟨a1, a2, a3⟩ := a.2 j h1 h2 h3 h4
  obtain ⟨b1, b2, b3⟩ := b.2 j (by have := a.1; omega) a2 h3 a3
  exact ⟨b1.trans a1, b2, b3⟩

theorem blk_of_get {h h' : AHeap} {k : Nat} (e : h'[k]? = h[k]?) : blk? h' k = blk? h k := by unfold blk?; rw [e]

theorem set_get {h : AHeap} {k j : Nat} {x : Option Blk} (hj : j ≠ k) : (setBlk h k x)[j]? = h[j]? := by
  unfold setBlk; rw [List.getElem?_set_ne (fun e => hj e.symm)]

section
variable {S : Type} {P : S → List Nat → S × Bool} {fnc : Cell} {I : S → (Nat → Prop) → AHeap → Prop} {go : S → Prop} {n kw kb : Nat} {B : Nat → Nat}

/-- One longer. -/
theorem WI.push (pu : Put E S P fnc I go) {row : List Nat} {s : S} {L : Nat → Prop} {h : AHeap} {q : Cell} (w : WI I n kw kb B fnc row s L h q) (hr : row.length < 100) (i : Nat) :
    ∃ q1 h1, (∀ {α : Type} (f : Cell → AHeap → Option α), appK 1 8 q [.int .i64 (i : Int)] h f = f q1 h1) ∧ blk? h1 kw = some ⟨true, 0, [.sl kb n 0 n, q, fnc]⟩ ∧
      WI I n kw kb B fnc (row ++ [i]) s L (setBlk h1 kw (some ⟨true, 0, [.sl kb n 0 n, q1, fnc]⟩)) q1 ∧ Left kw L h q L (setBlk h1 kw (some ⟨true, 0, [.sl kb n 0 n, q1, fnc]⟩)) q1 := by
  obtain ⟨q1, h1, ha, hrow, hlen, ⟨k1, hk1⟩, hfr⟩ := w.r.app hr i
  have hkw := blk_lt' w.w
  have hkb := blk_lt' w.b
  have nw : ¬ isBlk q kw := fun e => (w.ap kw e).2.1 rfl
  have nb : ¬ isBlk q kb := fun e => (w.ap kb e).2.2 rfl
  obtain ⟨f1, f2⟩ := hfr kw hkw nw
  obtain ⟨g1, g2⟩ := hfr kb hkb nb
  have hw1 : blk? h1 kw = some ⟨true, 0, [.sl kb n 0 n, q, fnc]⟩ := (blk_of_get f1).trans w.w
  have hkw1 := blk_lt' hw1
  have nL : ∀ j, isBlk q1 j → ¬ L j ∧ j ≠ kw ∧ j ≠ kb := by
    intro j hj
    refine ⟨fun hL => ?_, fun e => f2 (e ▸ hj), fun e => g2 (e ▸ hj)⟩
    have hjl := pu.low _ _ _ w.i j hL
    by_cases hq : isBlk q j
    · exact (w.ap j hq).1 hL
    · exact (hfr j hjl hq).2 hj
  refine ⟨q1, h1, ha, hw1, ⟨?_, blk_set_self hkw1 _, ?_, ?_, w.lw, w.lb, w.wb, nL⟩, ?_, ?_⟩
  · refine pu.frame _ _ _ _ w.i (fun j hL => ?_) (by rw [setBlk_len]; exact hlen)
    have hjw : j ≠ kw := fun e => w.lw (e ▸ hL)
    rw [set_get hjw]
    exact (hfr j (pu.low _ _ _ w.i j hL) (fun e => (w.ap j e).1 hL)).1
  · rw [blk_of_get (set_get (fun e => w.wb e.symm)), blk_of_get g1]; exact w.b
  · rcases hrow with ⟨e, he⟩ | ⟨kr, cs, e, hb, ht, hl⟩
    · exact .inl ⟨e, he⟩
    · have hne : kr ≠ kw := (nL kr (by rw [e]; rfl)).2.1
      exact .inr ⟨kr, cs, e, by rw [blk_of_get (set_get hne)]; exact hb, ht, hl⟩
  · rw [setBlk_len]; exact hlen
  · intro j h2 h3 h4 h5
    obtain ⟨a1, a2⟩ := hfr j h2 h5
    exact ⟨by rw [set_get h4]; exact a1, h3, a2⟩

end
end Jq

/- order.walk.on comes to feeding on all rows that go on. -/
namespace Jq
open Go

def extF (n : Nat) (B : Nat → Nat) (k d : Nat) (row : List Nat) (i m : Nat) : List (List Nat) :=
  (List.range' i m).flatMap fun i => if (d.testBit i || (ndiff (B i) d != 0)) = true then [] else ext n B k (d ||| 2 ^ i) (row ++ [i])

section
variable {E : Env} {S : Type} {P : S → List Nat → S × Bool} {fnc : Cell} {I : S → (Nat → Prop) → AHeap → Prop} {go : S → Prop} {n kw kb : Nat} {B : Nat → Nat}

end
end Jq

/- order.each: all orders are handed on, none where something leads to itself. -/
namespace Jq
open Go

section
variable {E : Env} {S : Type} {P : S → List Nat → S × Bool} {fnc : Cell} {I : S → (Nat → Prop) → AHeap → Prop} {go : S → Prop} {n : Nat}

/-- All orders. -/
def ords (n : Nat) (f : Nat → Nat) : List (List Nat) := if acycR n f = true then ext n (INV n f) n 0 [] else []

end
end Jq

/- order.All$1: a row is copied and put behind the others. -/
namespace Jq
open Go

/-- The rows' cells, each a row of its own block. -/
def rowsC : List Nat → List (List Nat) → List Cell
  | k :: ks, r :: rs => .sl k r.length 0 r.length :: rowsC ks rs
  | _, _ => []

def outF (lim : Int) : List (List Nat) → List Nat → List (List Nat) × Bool := fun s r => (s ++ [r], decide (((s.length + 1 : Nat) : Int) < lim))

/-- The rows so far lie there: behind the variable `out`, with the bound beside it. -/
def OutI (ko kl : Nat) (lim : Int) : List (List Nat) → (Nat → Prop) → AHeap → Prop := fun s L h =>
  ∃ (y : Cell) (ks : List Nat), blk? h ko = some ⟨true, 0, [y]⟩ ∧ blk? h kl = some ⟨true, 0, [.int .i64 lim]⟩ ∧ ko ≠ kl ∧ ks.length = s.length ∧
    ((y = .nils ∧ s = []) ∨ ∃ ky, y = .sl ky s.length 0 s.length ∧ blk? h ky = some ⟨true, 1, rowsC ks s⟩ ∧ ky ≠ ko ∧ ky ≠ kl ∧ ¬ ky ∈ ks) ∧
    (∀ (j k : Nat) (r : List Nat), ks[j]? = some k → s[j]? = some r → blk? h k = some ⟨true, 1, natC r⟩ ∧ k ≠ ko ∧ k ≠ kl) ∧
    (∀ k, L k ↔ (k = ko ∨ k = kl ∨ isBlk y k ∨ k ∈ ks))

theorem OutI.low {ko kl : Nat} {lim : Int} {s : List (List Nat)} {L : Nat → Prop} {h : AHeap} (o : OutI ko kl lim s L h) : ∀ k, L k → k < h.length := by
  obtain ⟨y, ks, h1, h2, _, hks, hy, hrow, hL⟩ := o
  intro k hk
  rcases (hL k).1 hk with rfl | rfl | hb | hm
  · exact blk_lt' h1
  · exact blk_lt' h2
  · rcases hy with ⟨rfl, _⟩ | ⟨ky, rfl, hb2, _⟩
    · cases hb
    · have : ky = k := hb
      subst this; exact blk_lt' hb2
  · obtain ⟨j, hj⟩ := List.getElem?_of_mem hm
    have hjl : j < s.length := by
      rcases Nat.lt_or_ge j ks.length with h3 | h3
      · omega
      · rw [List.getElem?_eq_none h3] at hj; cases hj
    exact blk_lt' (hrow j k s[j] hj (by simp [hjl])).1

theorem OutI.frame {ko kl : Nat} {lim : Int} {s : List (List Nat)} {L : Nat → Prop} {h h' : AHeap} (o : OutI ko kl lim s L h) (hk : ∀ k, L k → h'[k]? = h[k]?) : OutI ko kl lim s L h' := by
  obtain ⟨y, ks, h1, h2, hne, hks, hy, hrow, hL⟩ := o
  have e : ∀ k, L k → blk? h' k = blk? h k := fun k hl => blk_of_get (hk k hl)
  refine ⟨y, ks, (e ko ((hL ko).2 (.inl rfl))).trans h1, (e kl ((hL kl).2 (.inr (.inl rfl)))).trans h2, hne, hks, ?_, fun j k r hj hr => ?_, hL⟩
  · rcases hy with hy | ⟨ky, hy, hb, hr⟩
    · exact .inl hy
    · exact .inr ⟨ky, hy, (e ky ((hL ky).2 (.inr (.inr (.inl (by rw [hy]; rfl)))))).trans hb, hr⟩
  · obtain ⟨a, b⟩ := hrow j k r hj hr
    exact ⟨(e k ((hL k).2 (.inr (.inr (.inr (List.mem_of_getElem? hj)))))).trans a, b⟩

theorem SlAt.cells {h : AHeap} {x : Cell} {cs : List Cell} {len : Nat} (s : SlAt h x 1 cs len) : slCells h 1 x = some cs := by
  have hl := s.1
  rcases s.2 with ⟨rfl, rfl⟩ | ⟨k, N, off, rfl, hb⟩
  · have : cs = [] := List.length_eq_zero_iff.1 (by omega)
    rw [this]; rfl
  · unfold slCells
    dsimp only
    by_cases h0 : len = 0
    · have : cs = [] := List.length_eq_zero_iff.1 (by omega)
      rw [if_pos h0, this]
    · rw [if_neg h0]
      rcases hb with hb | ⟨b, hb, hN, hle, hat⟩
      · exact absurd hb h0
      · rw [hb]
        simp only
        rw [if_pos ⟨hN, hle⟩]
        congr 1
        refine List.ext_getElem? fun j => ?_
        rw [List.getElem?_take, List.getElem?_drop]
        by_cases hj : j < len * 1
        · rw [if_pos hj, hat j hj]
        · rw [if_neg hj, List.getElem?_eq_none (by omega)]

end Jq

/- Laws of events: one value more. -/
namespace Jq
open Go

section
variable {E : Env}

end
end Jq

/- A thread's events are those that the document says. -/
namespace Jq
open Go

theorem rd_bool (i : Ins) : (i.kind == 2 || i.kind == 4) = rdI i := by
  unfold rdI; rw [Bool.eq_iff_iff]; simp

section
variable {E : Env}

theorem refUnfold_R (hE : jacquardref6_Unfold_In E) {cs : List Cell} {P : PProg} {h : AHeap} (hsm : P.small) (hg : P.good) (p : ProgAt h cs P) (t : Int) {x : Cell} {vals : List Int} (hx : SlAt h x 1 (intC .i64 vals) vals.length) (hlx : Low h.length x) (hvl : vals.length ≤ 1000) :
    ∃ y h', R E 83 [.agg cs, .c (.int .i64 t), .c x] h = some ([.c y, .agg (unf (P.code t) t 1001 (startL P t) vals []).2.1.cs, .c (.bool (unf (P.code t) t 1001 (startL P t) vals []).2.2)], h') ∧
      Own h.length h' y 6 (evsC (unf (P.code t) t 1001 (startL P t) vals []).1) (unf (P.code t) t 1001 (startL P t) vals []).1.length ∧ Kp h.length h h' := by
  have hm : maxBytes ≥ 1001 * 48 := by unfold maxBytes; omega
  have hcode := hsm.code t
  have hfit := hsm.fits
  have loop : ∀ (n : Nat) (l : Lcl) (k : Nat) (out : List Evt) (y : Cell) (h1 : AHeap), k ≤ vals.length → 0 ≤ l.pc → (out.length : Int) ≤ l.pc → ((P.code t).length : Int) < l.pc + n → Kp h.length h h1 → Own h.length h1 y 6 (evsC out) out.length →
      ∃ y' h', (Lim (jacquardref6_Unfold_F1 (R E) Lim E.glob) (jacquardref6_Unfold_s1 t x y (k : Int) cs Lcl.zero.cs l.cs h1)).bind (fun p => jacquardref6_Unfold_k2 (R E) Lim E.glob h p.1 p.2) = some ([.c y', .agg (unf (P.code t) t n l (vals.drop k) out).2.1.cs, .c (.bool (unf (P.code t) t n l (vals.drop k) out).2.2)], h') ∧
        Own h.length h' y' 6 (evsC (unf (P.code t) t n l (vals.drop k) out).1) (unf (P.code t) t n l (vals.drop k) out).1.length ∧ Kp h.length h h' := by
    intro n
    induction n with
    | zero =>
      intro l k out y h1 hkl h0 h2 h3 hk hy
      have hn : nextI (P.code t) l = none := by
        cases hq : nextI (P.code t) l with
        | none => rfl
        | some i => have := nextI_kind hq; omega
      refine ⟨y, h1, ?_, hy, hk⟩
      have hr : jacquardref6_Unfold_F1 (R E) Lim E.glob (jacquardref6_Unfold_s1 t x y (k : Int) cs Lcl.zero.cs l.cs h1) = some (.ret, jacquardref6_Unfold_x1_0 y false l.cs h1) := by
        rw [jacquardref6_Unfold_r1, if_pos ⟨rfl, p.len⟩, if_pos ⟨rfl, rfl⟩, refNext_R hE.c81 hg (p.keep hk), c2_ok, asA_ok, asB_ok, if_pos ⟨rfl, rfl, rfl⟩, hn, show (none : Option Ins).isSome = false from rfl, if_pos (show (!false) = true from rfl), if_pos ⟨rfl, rfl⟩, if_pos ⟨rfl, rfl, rfl⟩]
      rw [Lim_ret hr, bind_ok, jacquardref6_Unfold_e1_0, if_pos ⟨rfl, rfl⟩]; rfl
    | succ n ih =>
      intro l k out y h1 hkl h0 h2 h3 hk hy
      rw [unf]
      cases hn : nextI (P.code t) l with
      | none =>
        refine ⟨y, h1, ?_, hy, hk⟩
        have hr : jacquardref6_Unfold_F1 (R E) Lim E.glob (jacquardref6_Unfold_s1 t x y (k : Int) cs Lcl.zero.cs l.cs h1) = some (.ret, jacquardref6_Unfold_x1_0 y false l.cs h1) := by
          rw [jacquardref6_Unfold_r1, if_pos ⟨rfl, p.len⟩, if_pos ⟨rfl, rfl⟩, refNext_R hE.c81 hg (p.keep hk), c2_ok, asA_ok, asB_ok, if_pos ⟨rfl, rfl, rfl⟩, hn, show (none : Option Ins).isSome = false from rfl, if_pos (show (!false) = true from rfl), if_pos ⟨rfl, rfl⟩, if_pos ⟨rfl, rfl, rfl⟩]
        rw [Lim_ret hr, bind_ok, jacquardref6_Unfold_e1_0, if_pos ⟨rfl, rfl⟩]
      | some i =>
        have hnk := nextI_kind hn
        have hpc := fun v => afterL_pc hn v
        have hob : out.length < 1000 := by omega
        have hx1 := hx.keep hlx hk
        have hsome : (!(some i : Option Ins).isSome) = false := rfl
        have hgd : (some i : Option Ins).getD Ins.zero = i := rfl
        dsimp only
        by_cases hrd : rdI i = true
        · rw [if_pos hrd]
          by_cases hkv : k < vals.length
          · have hdr : vals.drop k = vals.getD k 0 :: vals.drop (k + 1) := by
              rw [List.drop_eq_getElem_cons hkv, List.getD_eq_getElem?_getD, List.getElem?_eq_getElem hkv]; rfl
            have hq := getDI hkv
            generalize vals.getD k 0 = v at hdr hq
            rw [hdr]
            dsimp only
            obtain ⟨y2, h2', ha, hy2, hk2, _⟩ := hy.app (bytes := 48) (xs := ({ evOf i l v with t := t, i := out.length } : Evt).cs) hk.1 rfl (by omega) (by omega) (by omega)
            have hr : jacquardref6_Unfold_F1 (R E) Lim E.glob (jacquardref6_Unfold_s1 t x y (k : Int) cs Lcl.zero.cs l.cs h1) = some (.normal, jacquardref6_Unfold_s1 t x y2 ((k + 1 : Nat) : Int) cs Lcl.zero.cs (afterL (P.code t) l v).cs h2') := by
              rw [jacquardref6_Unfold_r1, if_pos ⟨rfl, p.len⟩, if_pos ⟨rfl, rfl⟩, refNext_R hE.c81 hg (p.keep hk), c2_ok, asA_ok, asB_ok, if_pos ⟨rfl, rfl, rfl⟩, hn, hsome, if_neg (by simp), hgd, ins_kind, asI_ok, ins_kind, asI_ok, scK_or, rd_bool, if_pos hrd, hx1.len, if_neg (by rw [beq_iff_eq]; omega), hx1.get1 hkv (intC_get hq), asI_ok, if_pos ⟨rfl, rfl⟩, if_pos ⟨rfl, rfl⟩, evOf_ref hE.c111, c1_ok, asA_ok, if_pos ⟨rfl, rfl, rfl⟩, hy.at.len, if_pos (by rw [Evt.len]; omega), if_pos (by rw [List.length_set, Evt.len]; omega), ev_put, if_pos ⟨rfl, rfl⟩, if_pos ⟨rfl, by simp⟩, ev_splice, if_pos (ev_len16 _), ha, if_pos ⟨rfl, p.len⟩, if_pos ⟨rfl, rfl⟩, refAfter_R hE.c107 hg (p.keep (hk.trans hk2)), c1_ok, asA_ok, if_pos ⟨rfl, rfl, rfl⟩, g_succ (by omega)]
            rw [← evsC_snoc] at hy2
            obtain ⟨y3, h3', q1, q2, q3⟩ := ih (afterL (P.code t) l v) (k + 1) (out ++ [{ evOf i l v with t := t, i := out.length }]) y2 h2' (by omega) (by have := hpc v; omega) (by have := hpc v; rw [List.length_append, List.length_singleton]; omega) (by have := hpc v; omega) (hk.trans hk2) (by rw [List.length_append, List.length_singleton]; exact hy2)
            refine ⟨y3, h3', ?_, q2, q3⟩
            cases hL : Lim (jacquardref6_Unfold_F1 (R E) Lim E.glob) (jacquardref6_Unfold_s1 t x y2 ((k + 1 : Nat) : Int) cs Lcl.zero.cs (afterL (P.code t) l v).cs h2') with
            | none => rw [hL] at q1; cases q1
            | some w => rw [Lim_next hr hL]; rw [hL] at q1; exact q1
          · have hkk : k = vals.length := by omega
            have hdr : vals.drop k = [] := List.drop_of_length_le (by omega)
            rw [hdr]
            dsimp only
            refine ⟨y, h1, ?_, hy, hk⟩
            have hr : jacquardref6_Unfold_F1 (R E) Lim E.glob (jacquardref6_Unfold_s1 t x y (k : Int) cs Lcl.zero.cs l.cs h1) = some (.ret, jacquardref6_Unfold_x1_0 y true l.cs h1) := by
              rw [jacquardref6_Unfold_r1, if_pos ⟨rfl, p.len⟩, if_pos ⟨rfl, rfl⟩, refNext_R hE.c81 hg (p.keep hk), c2_ok, asA_ok, asB_ok, if_pos ⟨rfl, rfl, rfl⟩, hn, hsome, if_neg (by simp), hgd, ins_kind, asI_ok, ins_kind, asI_ok, scK_or, rd_bool, if_pos hrd, hx1.len, if_pos (by rw [beq_iff_eq]; omega), if_pos ⟨rfl, rfl⟩, if_pos ⟨rfl, rfl, rfl⟩]
            rw [Lim_ret hr, bind_ok, jacquardref6_Unfold_e1_0, if_pos ⟨rfl, rfl⟩]
        · rw [if_neg hrd]
          obtain ⟨y2, h2', ha, hy2, hk2, _⟩ := hy.app (bytes := 48) (xs := ({ evOf i l 0 with t := t, i := out.length } : Evt).cs) hk.1 rfl (by omega) (by omega) (by omega)
          have hr : jacquardref6_Unfold_F1 (R E) Lim E.glob (jacquardref6_Unfold_s1 t x y (k : Int) cs Lcl.zero.cs l.cs h1) = some (.normal, jacquardref6_Unfold_s1 t x y2 (k : Int) cs Lcl.zero.cs (afterL (P.code t) l 0).cs h2') := by
            rw [jacquardref6_Unfold_r1, if_pos ⟨rfl, p.len⟩, if_pos ⟨rfl, rfl⟩, refNext_R hE.c81 hg (p.keep hk), c2_ok, asA_ok, asB_ok, if_pos ⟨rfl, rfl, rfl⟩, hn, hsome, if_neg (by simp), hgd, ins_kind, asI_ok, ins_kind, asI_ok, scK_or, rd_bool, if_neg hrd, if_pos ⟨rfl, rfl⟩, if_pos ⟨rfl, rfl⟩, evOf_ref hE.c111, c1_ok, asA_ok, if_pos ⟨rfl, rfl, rfl⟩, hy.at.len, if_pos (by rw [Evt.len]; omega), if_pos (by rw [List.length_set, Evt.len]; omega), ev_put, if_pos ⟨rfl, rfl⟩, if_pos ⟨rfl, by simp⟩, ev_splice, if_pos (ev_len16 _), ha, if_pos ⟨rfl, p.len⟩, if_pos ⟨rfl, rfl⟩, refAfter_R hE.c107 hg (p.keep (hk.trans hk2)), c1_ok, asA_ok, if_pos ⟨rfl, rfl, rfl⟩]
          rw [← evsC_snoc] at hy2
          obtain ⟨y3, h3', q1, q2, q3⟩ := ih (afterL (P.code t) l 0) k (out ++ [{ evOf i l 0 with t := t, i := out.length }]) y2 h2' hkl (by have := hpc 0; omega) (by have := hpc 0; rw [List.length_append, List.length_singleton]; omega) (by have := hpc 0; omega) (hk.trans hk2) (by rw [List.length_append, List.length_singleton]; exact hy2)
          refine ⟨y3, h3', ?_, q2, q3⟩
          cases hL : Lim (jacquardref6_Unfold_F1 (R E) Lim E.glob) (jacquardref6_Unfold_s1 t x y2 (k : Int) cs Lcl.zero.cs (afterL (P.code t) l 0).cs h2') with
          | none => rw [hL] at q1; cases q1
          | some w => rw [Lim_next hr hL]; rw [hL] at q1; exact q1
  by_cases ht : 0 ≤ t ∧ t < P.thr.length
  · have hb : (decide (0 ≤ t) && decide (t < P.thr.length)) = true := by rw [Bool.and_eq_true, decide_eq_true_eq, decide_eq_true_eq]; exact ht
    have hs0 : 0 ≤ (startL P t).pc := by have := normL_pc (P.code t) Lcl.zero; exact this
    obtain ⟨y', h', q1, q2, q3⟩ := loop 1001 (startL P t) 0 [] .nils h (by omega) hs0 (by simpa using hs0) (by omega) (Kp.refl _ _) (Own.nil _ _ _)
    rw [List.drop_zero] at q1 q2
    refine ⟨y', h', R_intro hE.fn ?_, q2, q3⟩
    rw [jacquardref6_Unfold_eq, if_pos ⟨rfl, p.len⟩, there_R hE.c110 p, c1_ok, asB_ok, hb, if_neg (by simp), if_pos ⟨rfl, p.len⟩, refStart_R hE.c104 hg p, c1_ok, asA_ok, if_pos ⟨rfl, rfl, rfl⟩]
    exact q1
  · have hb : (decide (0 ≤ t) && decide (t < P.thr.length)) = false := by rw [Bool.and_eq_false_iff, decide_eq_false_iff_not, decide_eq_false_iff_not]; omega
    have hc : P.code t = [] := code_out ht
    have hu : unf (P.code t) t 1001 (startL P t) vals [] = ([], Lcl.zero, false) := by
      have hst : startL P t = Lcl.zero := by unfold startL; rw [hc]; rfl
      rw [hst, hc, unf]; rfl
    rw [hu]
    refine ⟨.nils, h, R_intro hE.fn ?_, Own.nil _ _ _, Kp.refl _ _⟩
    rw [jacquardref6_Unfold_eq, if_pos ⟨rfl, p.len⟩, there_R hE.c110 p, c1_ok, asB_ok, hb, if_pos (show (!false) = true from rfl), if_pos ⟨rfl, rfl, rfl⟩, if_pos ⟨rfl, rfl⟩]
    rfl

theorem unfolds_loop1 (hE : jacquardlaw10_EventUnfolds_In E) {l : List Evt} {x y : Cell} {s0 : List Cell} {h : AHeap} (hx : SlAt h x 6 (evsC l) l.length) (hy : SlAt h y 6 (evsC l) l.length) (hn : l.length ≤ 1000) :
    Lim (jacquardlaw10_EventUnfolds_F1 (R E) Lim E.glob) (jacquardlaw10_EventUnfolds_s1 x y ((0 : Nat) : Int) s0 h) = some (.exit 0, jacquardlaw10_EventUnfolds_x1_1 s0 h) := by
  refine Lim_count (fun i => jacquardlaw10_EventUnfolds_s1 x y (i : Int) s0 h) 0 l.length (by omega) (fun i _ hi => ?_) (Lim_exit ?_)
  · have hq : l[i]? = some l[i] := List.getElem?_eq_getElem hi
    generalize l[i] = e at hq
    obtain ⟨o1, c1, g1, h1, e1⟩ := hx.evG hq
    obtain ⟨o2, c2, g2, h2, e2⟩ := hy.evG hq
    rw [jacquardlaw10_EventUnfolds_r1, hy.len, if_pos (by simp; omega), g1, if_pos h1, g2, if_pos h2, e1, e2, if_pos ⟨alike_ev e, alike_ev e⟩, show (!(decide (e.cs = e.cs))) = false by simp]
    rw [scK_ok, g2, if_pos h2, e2, evReads_R hE.c79, qh_ok, c1_ok, asB_ok, g2, if_pos h2, e2, refReads_R hE.c85, qh_ok, c1_ok, asB_ok, beq_self_eq_true, bind_ok]
    dsimp only
    rw [show (!true) = false from rfl, scK_ok, g2, if_pos h2, e2, evWrites_R hE.c80, qh_ok, c1_ok, asB_ok, g2, if_pos h2, e2, refWritesE_R hE.c86, qh_ok, c1_ok, asB_ok, beq_self_eq_true, bind_ok]
    dsimp only
    rw [show (!true) = false from rfl, scK_ok, g2, if_pos h2, e2, evFences_R hE.c82, qh_ok, c1_ok, asB_ok, g2, if_pos h2, e2, refFences_R hE.c87, qh_ok, c1_ok, asB_ok, beq_self_eq_true, bind_ok]
    dsimp only
    rw [if_neg (by simp), g_succ (by omega)]
  · rw [jacquardlaw10_EventUnfolds_r1, hy.len, if_neg (by simp)]

theorem unfolds_loop2 {l : List Evt} {x y : Cell} {h : AHeap} (hx : SlAt h x 6 (evsC l) l.length) (hy : SlAt h y 6 (evsC l) l.length) (hn : l.length ≤ 1000) :
    Lim (jacquardlaw10_EventUnfolds_F2 (R E) Lim E.glob) (jacquardlaw10_EventUnfolds_s2 x y ((0 : Nat) : Int) h) = some (.exit 2, jacquardlaw10_EventUnfolds_x2_3 h) := by
  refine Lim_count (fun i => jacquardlaw10_EventUnfolds_s2 x y (i : Int) h) 0 l.length (by omega) (fun i _ hi => ?_) (Lim_exit ?_)
  · have hq : l[i]? = some l[i] := List.getElem?_eq_getElem hi
    generalize l[i] = e at hq
    obtain ⟨o1, c1, g1, h1, e1⟩ := hx.evG hq
    obtain ⟨o2, c2, g2, h2, e2⟩ := hy.evG hq
    rw [jacquardlaw10_EventUnfolds_r2, hy.len, if_pos (by simp; omega), g1, if_pos h1, g2, if_pos h2, e1, e2, if_pos ⟨alike_ev e, alike_ev e⟩, show (!(decide (e.cs = e.cs))) = false by simp, if_neg (by simp), g_succ (by omega)]
  · rw [jacquardlaw10_EventUnfolds_r2, hy.len, if_neg (by simp)]

theorem EventUnfolds_law (hE : jacquardlaw10_EventUnfolds_In E) {h : AHeap} {d0 d1 d2 : List Cell} (o0 : okC h (.sl (.i .i64)) d0) (o1 : okC h (.i .i64) d1) (o2 : okC h (.sl (.i .i64)) d2) :
    ∃ h', R E 213 [av1 (.sl (.i .i64)) d0, av1 (.i .i64) d1, av1 (.sl (.i .i64)) d2] h = some ([.c (.bool true)], h') := by
  obtain ⟨x, l, e0, hx, hlow, _, hm⟩ := arg_ints o0
  obtain ⟨t, e1, _⟩ := arg_int o1
  obtain ⟨v, rs, e2, hv, hlv, _, hmv⟩ := arg_ints o2
  have hok := arg_slok o2 e2
  rw [e0, e1, e2]
  suffices hh : ∃ h', jacquardlaw10_EventUnfolds.body (R E) Lim E.glob [.c x, .c (.int .i64 t), .c v] h = some ([.c (.bool true)], h') by
    obtain ⟨h', hh⟩ := hh; exact ⟨h', R_intro hE.fn hh⟩
  rw [jacquardlaw10_EventUnfolds_eq, hv.len]
  by_cases hb : rs.length > 50
  · rw [if_pos (by simp; omega), awake10_R hE.c77, c1_ok, asB_ok]; exact ⟨_, rfl⟩
  obtain ⟨cs, h1, P, f1, p, g, k1⟩ := Of6_R hE.c76 hx hlow (by unfold maxLen at hm; omega) (most := 12) (by omega)
  rw [show ((12 : Nat) : Int) = 12 from rfl] at f1
  have hlv1 := Low_mono k1.1 hlv
  have hv1 := hv.keep hlv k1
  obtain ⟨y, h2, u1, u2, u3⟩ := Unfold_R hE.c78 g.small p t hv1 hlv1 ((hok.e 1).mono k1)
  have hlv2 := Low_mono u3.1 hlv1
  have hv2 := hv1.keep hlv1 u3
  have p2 := p.keep u3
  obtain ⟨z, h3, w1, w2, w3⟩ := refUnfold_R hE.c83 g.small g.good p2 t hv2 hlv2 (by omega)
  have p3 := p2.keep w3
  have hs0 : 0 ≤ (startL P t).pc := normL_pc (P.code t) Lcl.zero
  have hcl6 := g.small.code t
  obtain ⟨_, _, _, _, v5⟩ := unf_ok (code := P.code t) (t := t) (all := rs) 1001 (startL P t) rs [] (OutOk.nil _ _) rfl (Nat.zero_le _) (Nat.zero_le _) (by simpa using hs0) hs0 (by omega)
  generalize unf (P.code t) t 1001 (startL P t) rs [] = U at *
  obtain ⟨evs, l2, more⟩ := U
  dsimp only at *
  have hy3 := u2.at.keep u2.low w3
  have hz3 := w2.at
  have hsame := SameEv_R hE.c84 hy3 hz3 (by omega)
  have hl1 := unfolds_loop1 hE (s0 := cs) hy3 hz3 (by omega)
  have hil := g.init
  obtain ⟨c, h4, i1, i2, i3⟩ := Inits_R hE.c88 p3 (by omega)
  have p4 := p3.keep i3
  obtain ⟨d, h5, j1, j2, j3⟩ := refInits_R hE.c89 p4 (by omega) g.locs
  have hil2 : (initsE P.init).length = P.init.length := initsE_len _
  have hc5 := i2.at.keep i2.low j3
  have hd5 := j2.at
  rw [← hil2] at hc5 hd5
  have hl2 := unfolds_loop2 (E := E) hc5 hd5 (by omega)
  rw [show ((0 : Nat) : Int) = 0 from rfl] at hl1 hl2
  have hal : alike l2.cs [Cell.int .i64 0, Cell.int .i64 0, Cell.int .i64 0, Cell.int .i64 0, Cell.int .i64 0] = true := rfl
  rw [if_neg (by simp; omega), f1, c1_ok, asA_ok, if_pos ⟨rfl, rfl, p.len⟩, if_pos ⟨rfl, p.len⟩, u1, c3_ok, asC_ok, asA_ok, asB_ok, if_pos ⟨rfl, rfl, rfl⟩, if_pos ⟨rfl, p.len⟩, w1, c3_ok, asC_ok, asA_ok, asB_ok, if_pos ⟨rfl, rfl, rfl⟩, hsame, c1_ok, asB_ok, show (!true) = false from rfl, hy3.len, hz3.len, bne_self_eq_false, scK_or, show (false || false) = false from rfl, scK_ok, if_pos ⟨rfl, rfl⟩, if_pos ⟨rfl, rfl⟩, if_pos ⟨hal, hal⟩, show (!(decide (l2.cs = l2.cs))) = false by simp, bind_ok]
  dsimp only
  rw [beq_self_eq_true, show (!true) = false from rfl, scK_or, show (false || false) = false from rfl, if_neg (by simp), hl1, bind_ok, jacquardlaw10_EventUnfolds_e1_1, if_pos ⟨rfl, p.len⟩, i1, c1_ok, asC_ok, if_pos ⟨rfl, p.len⟩, j1, c1_ok, asC_ok, hc5.len, hd5.len, bne_self_eq_false, if_neg (by simp), hl2, bind_ok, jacquardlaw10_EventUnfolds_e2_3, awake10_R hE.c77, c1_ok, asB_ok]
  exact ⟨_, rfl⟩

end
end Jq

/- EventUnfolds: whatever the input the call says true, and each argument reads behind it as before. No conditions. -/
namespace Go.Proofs.Ytldfafaiappibaa.LEventUnfolds
open Go Jq Go.ChangeShapes Go.WideShapes Go.ChangeAt Go.RowKit
set_option linter.unusedVariables false

theorem own : ownKnob Try.prog.godebug = none := by kernel_rfl
theorem laidOut : laidOutB Try.prog = true := by kernel_rfl

set_option maxRecDepth 100000 in
theorem lifted (os : Os) (started : os.Started) (H : Type) (enc : TypeId × Value → H) :
    ReturnsInHanded {} Try.checked os 6 .any (Rows.eventUnfoldsSpec.pre6 enc Try.prog Try.f6 Rows.eventUnfoldsRow.domain false) (Rows.eventUnfoldsSpec.post enc Try.prog Try.f6 false true false false) := by
  refine returnsInHanded_of_change (C := Try.checked) own started (by kernel_rfl) Try.func6
    (ChangeSpec.witness6 (enc := enc) (C := Try.checked) false ⟨#[], #[.slice none 0 0, .int .i64 0, .slice none 0 0], []⟩ 8 (by kernel_rfl) (by kernel_rfl) (by kernel_rfl) (by kernel_rfl)) ?_
  intro W base args ds gs before hval0 hW hcnd _
  have hval : ∀ (j : Nat) t v, Try.f6.params[j]? = some t → args[j]? = some v → Value.okWide Try.prog W .any base t v := hval0
  have hW' := hW
  obtain ⟨p, q, hA0, hV, rfl, hfz, hnd⟩ := hW
  have hA : DataW.TrodAll enc Try.prog W 0 (fun _ => true) true Try.f6.params.toList args.toList ds p := hA0
  rw [Try.params6] at hA hval
  obtain ⟨v0, vs0, d0, ds0, p0, q0, hargs, rfl, rfl, h0, r0⟩ := trodAll_cons hA
  obtain ⟨v1, vs1, d1, ds1, p1, q1, rfl, rfl, rfl, h1, r1⟩ := trodAll_cons r0
  obtain ⟨v2, vs2, d2, ds2, p2, q2, rfl, rfl, rfl, h2, r2⟩ := trodAll_cons r1
  obtain ⟨rfl, rfl, rfl⟩ := trodAll_nil r2
  obtain rfl : args = #[v0, v1, v2] := by cases args; simp_all
  obtain ⟨rfl, rfl⟩ := trodVars_none hV
  have lt0 : ∀ x ∈ p0, x.block < W.heap.size := by obtain ⟨m, hm⟩ := h0; exact DataW.trod_lt m _ _ _ hm
  have lt1 : ∀ x ∈ p1, x.block < W.heap.size := by obtain ⟨m, hm⟩ := h1; exact DataW.trod_lt m _ _ _ hm
  have lt2 : ∀ x ∈ p2, x.block < W.heap.size := by obtain ⟨m, hm⟩ := h2; exact DataW.trod_lt m _ _ _ hm
  have c := Come.nil (S := seat) (W := W) (fun _ => rfl)
  have k0 : ((.sl (.i .i64)) : Sh).chk seat.P 22 = true := by kernel_rfl
  obtain ⟨b0, ρ0, cs0, c0, e0, x0, a0, o0⟩ := opens_arg (S := seat) (W := W) (sh := (.sl (.i .i64))) k0 h0 (wide_of k0 (hval 0 22 v0 rfl rfl)) ⟨nofun, nofun⟩ c
  have k1 : ((.i .i64) : Sh).chk seat.P 3 = true := by kernel_rfl
  obtain ⟨b1, ρ1, cs1, c1, e1, x1, a1, o1⟩ := opens_arg (S := seat) (W := W) (sh := (.i .i64)) k1 h1 (wide_of k1 (hval 1 3 v1 rfl rfl)) ⟨nofun, nofun⟩ c0
  have k2 : ((.sl (.i .i64)) : Sh).chk seat.P 23 = true := by kernel_rfl
  obtain ⟨b2, ρ2, cs2, c2, e2, x2, a2, o2⟩ := opens_arg (S := seat) (W := W) (sh := (.sl (.i .i64))) k2 h2 (wide_of k2 (hval 2 23 v2 rfl rfl)) ⟨nofun, nofun⟩ c1
  obtain ⟨h', hR⟩ := EventUnfolds_law (E := env) in_213 (okC_mono x2 _ _ (okC_mono x1 _ _ o0)) (okC_mono x2 _ _ o1) o2
  refine (law_call (S := seat) (R_sound (S := seat) (E := env) rfl allOk) c2 (vals := #[v0, v1, v2]) (L2.cons (relA.mono e2 (relA.mono e1 a0)) (L2.cons (relA.mono e2 a1) (L2.cons a2 L2.nil))) hR).mono fun e W' ⟨he, bel⟩ => ?_
  subst he
  exact ⟨_, rfl, _, _, _, [], _, [], hW', trodAll_mk1 (shut_bool Try.underlying4 _), (trodAll_cons_mk (Below.trod laidOut (by kernel_rfl) (of_decide_eq_true (by kernel_rfl)) h0 bel lt0) (trodAll_cons_mk (Below.trod laidOut (by kernel_rfl) (of_decide_eq_true (by kernel_rfl)) h1 bel lt1) (trodAll_cons_mk (Below.trod laidOut (by kernel_rfl) (of_decide_eq_true (by kernel_rfl)) h2 bel lt2) trodAll_mk0))), rfl, bel.frame _, fun h => by cases h⟩

theorem over : Rows.eventUnfoldsRow.holds Try.pinned (OpenSpec.ofChange Rows.eventUnfoldsSpec) :=
  OpenClaim.holds_of_wide 6 Try.f6 rfl rfl rfl rfl rfl rfl rfl ⟨rfl, rfl, rfl, rfl, rfl⟩ rfl rfl rfl rfl rfl (by kernel_rfl) Try.func6 (by kernel_rfl)
    (of_decide_eq_true (by kernel_rfl)) (by unfold Func.isWrapper; first | (rw [if_pos (by decide +kernel)]; kernel_rfl) | (rw [if_neg (by decide +kernel)]; exact ⟨rfl, rfl⟩))
    (fun os started H enc _ => lifted os started H enc)

theorem proved : Rows.EventUnfoldsSaid := over
#print axioms proved

end Go.Proofs.Ytldfafaiappibaa.LEventUnfolds

