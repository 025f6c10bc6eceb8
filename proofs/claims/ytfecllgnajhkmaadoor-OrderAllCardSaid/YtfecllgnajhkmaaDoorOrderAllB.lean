/- YtfecllgnajhkmaaDoorOrderAllB: a part of the proof; no conditions of its own. -/
import Derived.KernelRfl
import Derived.Test.YtfecllgnajhkmaaDoorOrderAllA
set_option linter.unusedVariables false
set_option linter.unusedSimpArgs false

/- Relations: what closing is. -/
namespace Jq

/-- A way from one to another whose stops in between are below k. -/
inductive Way (f : Nat → Nat) (k : Nat) : Nat → Nat → Prop
  | one {a b : Nat} : (f a).testBit b = true → Way f k a b
  | step {a c b : Nat} : (f a).testBit c = true → c < k → Way f k c b → Way f k a b

theorem Way.mono {f : Nat → Nat} {k m : Nat} (hkm : k ≤ m) {a b : Nat} (w : Way f k a b) : Way f m a b := by
  induction w with
  | one h => exact .one h
  | step h hc _ ih => exact .step h (by omega) ih

theorem Way.trans {f : Nat → Nat} {k a c b : Nat} (w : Way f k a c) (hc : c < k) (v : Way f k c b) : Way f k a b := by
  induction w with
  | one h => exact .step h hc v
  | step h hc' _ ih => exact .step h hc' (ih hc v)

theorem Way.succ {f : Nat → Nat} {k a b : Nat} : Way f (k + 1) a b ↔ Way f k a b ∨ (Way f k a k ∧ Way f k k b) := by
  constructor
  · intro w
    induction w with
    | one h => exact .inl (.one h)
    | step h hc _ ih =>
      rcases Nat.lt_or_ge _ k with hk | hk
      · rcases ih with ih | ⟨i1, i2⟩
        · exact .inl (.step h hk ih)
        · exact .inr ⟨.step h hk i1, i2⟩
      · have : _ = k := Nat.le_antisymm (Nat.lt_succ_iff.1 hc) hk
        subst this
        rcases ih with ih | ⟨_, i2⟩
        · exact .inr ⟨.one h, ih⟩
        · exact .inr ⟨.one h, i2⟩
  · rintro (w | ⟨w1, w2⟩)
    · exact w.mono (by omega)
    · exact (w1.mono (by omega)).trans (Nat.lt_succ_self k) (w2.mono (by omega))

theorem cl1_eq (f : Nat → Nat) (k : Nat) : ∀ n i, cl1 k n f i = if i < n ∧ (f i).testBit k = true then f i ||| f k else f i := by
  intro n
  induction n with
  | zero => intro i; rw [if_neg (by omega)]; rfl
  | succ n ih =>
    intro i
    have hk : cl1 k n f k = f k := by
      rw [ih]; split
      · exact Nat.or_self _
      · rfl
    rw [cl1, clS]
    by_cases hb : (f n).testBit k = true
    · have hn : cl1 k n f n = f n := by rw [ih, if_neg (by omega)]
      rw [hn, if_pos hb, hk]
      unfold updF
      by_cases hi : i = n
      · subst hi; rw [if_pos rfl, if_pos ⟨by omega, hb⟩]
      · rw [if_neg hi, ih]
        congr 1
        rw [eq_iff_iff]
        exact and_congr_left fun _ => by omega
    · have hn : cl1 k n f n = f n := by rw [ih, if_neg (by omega)]
      rw [hn, if_neg hb, ih]
      by_cases hi : i = n
      · subst hi; rw [if_neg (by omega), if_neg (fun h => hb h.2)]
      · congr 1
        rw [eq_iff_iff]
        exact and_congr_left fun _ => by omega

/-- CLOSED, one leads to another just if there is a way. -/
theorem clK_way (n : Nat) (f : Nat → Nat) : ∀ k, k ≤ n → ∀ a b, a < n → ((clK n f k a).testBit b = true ↔ Way f k a b) := by
  intro k
  induction k with
  | zero =>
    intro _ a b _
    constructor
    · exact fun h => .one h
    · intro w
      cases w with
      | one h => exact h
      | step _ hc _ => omega
  | succ k ih =>
    intro hk a b ha
    have ih' := ih (by omega)
    rw [clK, cl1_eq, Way.succ, ← ih' a b ha, ← ih' a k ha, ← ih' k b (by omega)]
    by_cases hb : (clK n f k a).testBit k = true
    · rw [if_pos ⟨ha, hb⟩, Nat.testBit_or, Bool.or_eq_true]; simp [hb]
    · rw [if_neg (fun h => hb h.2)]; simp [hb]

theorem acycR_iff (n : Nat) (f : Nat → Nat) : acycR n f = true ↔ ∀ a, a < n → ¬ Way f n a a := by
  unfold acycR
  rw [Bool.not_eq_true', ← Bool.not_eq_true, List.any_eq_true]
  simp only [List.mem_range, not_exists, not_and]
  exact forall_congr' fun a => imp_congr_right fun ha => by rw [clK_way n f n (Nat.le_refl _) a a ha]

end Jq

namespace Jq
open Go

/- jacquard/jacquardlaw8.Of: 1 -/
def jacquardlaw8_Of_k2 (C : CallF) (L : LoopF) (G : Glo) (h0 : AHeap) : Ex → St → Option (List AV × AHeap) :=
  kSeq (fun st => jacquardlaw8_Of_p1.exec C L G st (jacquardlaw8_Of.fin G h0)) (jacquardlaw8_Of.fin G h0)
def jacquardlaw8_Of_k3 (C : CallF) (L : LoopF) (G : Glo) (h0 : AHeap) : Ex → St → Option (List AV × AHeap) :=
  kBlk 0 (jacquardlaw8_Of_k2 C L G h0)
def jacquardlaw8_Of_s1 (x1 : Cell) (k7 : Nat) (N7 : Nat) (o7 : Nat) (a8 : Int) (s0 : List Cell) (s1 : List Cell) (s2 : List Cell) (h : AHeap) : St := ⟨[.top, .v (.c x1), .top, .top, .loc 0 0, .loc 1 0, .loc 2 0, .v (.c (.ptr k7 N7 o7)), .v (.c (.int .i64 a8)), .top, .top, .top, .top, .top, .top, .top, .top, .top, .top, .top, .top, .top, .top, .top, .top, .top, .top, .top, .top, .top, .top, .top, .top, .top, .top, .top, .top, .top, .top, .top, .top, .top, .top, .top, .top, .top, .top, .top, .top, .top, .top, .top, .top, .top, .top, .top, .top, .top, .top, .top, .top, .top, .top, .top], [some s0, some s1, some s2], h⟩
def jacquardlaw8_Of_F1 (C : CallF) (L : LoopF) (G : Glo) : St → Option (Ex × St) :=
  roundF (fun st f => jacquardlaw8_Of_b1.exec C L G st f) [1, 4, 5, 6, 7, 8] [0, 1, 2] [(1, [4, 5, 6, 7], [0, 1, 2])]
def jacquardlaw8_Of_x1_1 (k7 : Nat) (N7 : Nat) (o7 : Nat) (s0 : List Cell) (s1 : List Cell) (s2 : List Cell) (h : AHeap) : St := ⟨[.top, .top, .top, .top, .loc 0 0, .loc 1 0, .loc 2 0, .v (.c (.ptr k7 N7 o7)), .top, .top, .top, .top, .top, .top, .top, .top, .top, .top, .top, .top, .top, .top, .top, .top, .top, .top, .top, .top, .top, .top, .top, .top, .top, .top, .top, .top, .top, .top, .top, .top, .top, .top, .top, .top, .top, .top, .top, .top, .top, .top, .top, .top, .top, .top, .top, .top, .top, .top, .top, .top, .top, .top, .top, .top], [some s0, some s1, some s2], h⟩
theorem jacquardlaw8_Of_r1 (C : CallF) (L : LoopF) (G : Glo) (x1 : Cell) (k7 : Nat) (N7 : Nat) (o7 : Nat) (a8 : Int) (s0 : List Cell) (s1 : List Cell) (s2 : List Cell) (h : AHeap) :
    jacquardlaw8_Of_F1 C L G (jacquardlaw8_Of_s1 x1 k7 N7 o7 a8 s0 s1 s2 h) =
    lenK x1 fun n_7 => scK (decide (a8 < n_7)) true (some ((decide (a8 < 200)), h)) false h fun b_8 h_9 => if b_8 = true then idxSK 2 x1 a8 fun k_10 N_11 o_12 => rdH h_9 k_10 N_11 fun l_13 => atK l_13 (o_12 + 0) fun q_14 => asI .i64 (.c q_14) fun n_15 => idxSK 2 x1 a8 fun k_16 N_17 o_18 => rdH h_9 k_16 N_17 fun l_19 => atK l_19 (o_18 + 1) fun q_20 => asI .i64 (.c q_20) fun n_21 => if 0 = 0 ∧ s2.length = 65 then c1 (C 10 [(.agg s2), (.c (.int .i64 n_15)), (.c (.int .i64 n_21))] h_9) fun y_23 h_22 => asA y_23 fun l_24 => if 0 = 0 ∧ s2.length = 65 ∧ l_24.length = 65 then scK (decide (n_15 ≥ 0)) true (rdH h_22 k7 N7 fun l_25 => atK l_25 (o7 + 0) fun q_26 => asI .i64 (.c q_26) fun n_27 => some ((decide (n_15 < n_27)), h_22)) false h_22 fun b_28 h_29 => scK b_28 true (some ((decide (n_21 ≥ 0)), h_29)) false h_29 fun b_30 h_31 => scK b_30 true (rdH h_31 k7 N7 fun l_32 => atK l_32 (o7 + 0) fun q_33 => asI .i64 (.c q_33) fun n_34 => some ((decide (n_21 < n_34)), h_31)) false h_31 fun b_35 h_36 => if b_35 = true then c0 (C 13 [(.c (.ptr k7 N7 o7)), (.c (.int .i64 n_15)), (.c (.int .i64 n_21))] h_36) fun h_37 => some (.normal, (jacquardlaw8_Of_s1 x1 k7 N7 o7 (G.wrap .i64 (a8 + 1)) s0 s1 l_24 h_37)) else some (.normal, (jacquardlaw8_Of_s1 x1 k7 N7 o7 (G.wrap .i64 (a8 + 1)) s0 s1 l_24 h_36)) else none else none else some ((.exit 0), (jacquardlaw8_Of_x1_1 k7 N7 o7 s0 s1 s2 h_9)) := by kernel_rfl
theorem jacquardlaw8_Of_e1_1 (C : CallF) (L : LoopF) (G : Glo) (h0 : AHeap) (k7 : Nat) (N7 : Nat) (o7 : Nat) (s0 : List Cell) (s1 : List Cell) (s2 : List Cell) (h : AHeap) :
    (jacquardlaw8_Of_k3 C L G h0) (.exit 0) (jacquardlaw8_Of_x1_1 k7 N7 o7 s0 s1 s2 h) =
    if 0 = 0 ∧ s2.length = 65 then rdH h k7 N7 fun l_38 => if o7 = 0 ∧ l_38.length = 65 then if 0 = 0 ∧ s0.length = 65 ∧ s2.length = 65 then if 0 = 0 ∧ s1.length = 65 ∧ l_38.length = 65 then if 0 = 0 ∧ s2.length = 65 then if 0 = 0 ∧ l_38.length = 65 then finish true h0 [(.agg s2), (.agg l_38)] h else none else none else none else none else none else none := by kernel_rfl
set_option maxRecDepth 100000 in
theorem jacquardlaw8_Of_eq (C : CallF) (L : LoopF) (G : Glo) (a0 : Int) (x1 : Cell) (h0 : AHeap) :
    jacquardlaw8_Of.body C L G [(.c (.int .i64 a0)), (.c x1)] h0 =
    c1 (C 9 [(.c (.int .i64 a0))] h0) fun y_2 h_1 => asA y_2 fun l_3 => if 0 = 0 ∧ ([Cell.int .i64 0] ++ List.replicate 64 (Cell.int .u64 0)).length = 65 ∧ l_3.length = 65 then let v_4 : Int := (if 64 < (if 0 > a0 then 0 else a0) then 64 else (if 0 > a0 then 0 else a0)); rdH (h_1 ++ [some (Blk.mk true 0 ([Cell.int .i64 0] ++ List.replicate 64 (Cell.int .u64 0)))]) h_1.length (([Cell.int .i64 0] ++ List.replicate 64 (Cell.int .u64 0)).length) fun l_5 => if 0 = 0 ∧ l_5.length = 65 ∧ (splice ([Cell.int .i64 0] ++ List.replicate 64 (Cell.int .u64 0)) 0 ([(.int .i64 v_4)] : List Cell)).length = 65 then putH (h_1 ++ [some (Blk.mk true 0 ([Cell.int .i64 0] ++ List.replicate 64 (Cell.int .u64 0)))]) h_1.length (splice ([Cell.int .i64 0] ++ List.replicate 64 (Cell.int .u64 0)) 0 ([(.int .i64 v_4)] : List Cell)) fun h_6 => (L (jacquardlaw8_Of_F1 C L G) (jacquardlaw8_Of_s1 x1 h_1.length (([Cell.int .i64 0] ++ List.replicate 64 (Cell.int .u64 0)).length) 0 0 ([Cell.int .i64 0] ++ List.replicate 64 (Cell.int .u64 0)) ([Cell.int .i64 0] ++ List.replicate 64 (Cell.int .u64 0)) l_3 h_6)).bind fun p_39 => (jacquardlaw8_Of_k3 C L G h0) p_39.1 p_39.2 else none else none := by kernel_rfl

/- jacquard/jacquardlaw8.awake: 55 -/
set_option maxRecDepth 100000 in
theorem jacquardlaw8_awake_eq (C : CallF) (L : LoopF) (G : Glo)  (h0 : AHeap) :
    jacquardlaw8_awake.body C L G [] h0 =
    c1 (C 9 [(.c (.int .i64 3))] h0) fun y_2 h_1 => asA y_2 fun l_3 => c1 (C 10 [(.agg l_3), (.c (.int .i64 0)), (.c (.int .i64 1))] h_1) fun y_5 h_4 => asA y_5 fun l_6 => c1 (C 10 [(.agg l_6), (.c (.int .i64 1)), (.c (.int .i64 2))] h_4) fun y_8 h_7 => asA y_8 fun l_9 => if 0 = 0 ∧ ([Cell.int .i64 0] ++ List.replicate 64 (Cell.int .u64 0)).length = 65 ∧ l_9.length = 65 then if 0 = 0 ∧ l_9.length = 65 then c1 (C 12 [(.agg l_9)] h_7) fun y_11 h_10 => asA y_11 fun l_12 => c1 (C 3 [(.agg l_12), (.c (.int .i64 0)), (.c (.int .i64 2))] h_10) fun y_14 h_13 => asB y_14 fun b_15 => scK b_15 true (if 0 = 0 ∧ l_9.length = 65 then c1 (C 3 [(.agg l_9), (.c (.int .i64 0)), (.c (.int .i64 2))] h_13) fun y_17 h_16 => asB y_17 fun b_18 => some ((!b_18), h_16) else none) false h_13 fun b_19 h_20 => scK b_19 true (if 0 = 0 ∧ l_9.length = 65 then c1 (C 26 [(.agg l_9)] h_20) fun y_22 h_21 => asB y_22 fun b_23 => some (b_23, h_21) else none) false h_20 fun b_24 h_25 => scK b_24 true (if 0 = 0 ∧ l_9.length = 65 then c1 (C 10 [(.agg l_9), (.c (.int .i64 2)), (.c (.int .i64 0))] h_25) fun y_27 h_26 => asA y_27 fun l_28 => c1 (C 26 [(.agg l_28)] h_26) fun y_30 h_29 => asB y_30 fun b_31 => some ((!b_31), h_29) else none) false h_25 fun b_32 h_33 => scK b_32 true (if 0 = 0 ∧ l_9.length = 65 then c1 (C 14 [(.agg l_9)] h_33) fun y_35 h_34 => asI .i64 y_35 fun n_36 => some ((n_36 == 3), h_34) else none) false h_33 fun b_37 h_38 => some ([(.c (.bool b_37))], h_38) else none else none := by kernel_rfl

/- jacquard/jacquardlaw8.Same: 69 -/
def jacquardlaw8_Same_k2 (C : CallF) (L : LoopF) (G : Glo) (h0 : AHeap) : Ex → St → Option (List AV × AHeap) :=
  kSeq (fun st => jacquardlaw8_Same_p1.exec C L G st (jacquardlaw8_Same.fin G h0)) (jacquardlaw8_Same.fin G h0)
def jacquardlaw8_Same_k3 (C : CallF) (L : LoopF) (G : Glo) (h0 : AHeap) : Ex → St → Option (List AV × AHeap) :=
  kBlk 0 (jacquardlaw8_Same_k2 C L G h0)
def jacquardlaw8_Same_s1 (a5 : Int) (s0 : List Cell) (s1 : List Cell) (h : AHeap) : St := ⟨[.top, .top, .loc 0 0, .loc 1 0, .top, .v (.c (.int .i64 a5)), .top, .top, .top, .top, .top, .top, .top, .top, .top, .top, .top, .top, .top, .top, .top, .top, .top], [some s0, some s1], h⟩
def jacquardlaw8_Same_F1 (C : CallF) (L : LoopF) (G : Glo) : St → Option (Ex × St) :=
  roundF (fun st f => jacquardlaw8_Same_b1.exec C L G st f) [2, 3, 5] [0, 1] [(0, [4], []), (1, [], [])]
def jacquardlaw8_Same_x1_0 (b4 : Bool) (h : AHeap) : St := ⟨[.top, .top, .top, .top, .v (.c (.bool b4)), .top, .top, .top, .top, .top, .top, .top, .top, .top, .top, .top, .top, .top, .top, .top, .top, .top, .top], [none, none], h⟩
def jacquardlaw8_Same_x1_1 (h : AHeap) : St := ⟨[.top, .top, .top, .top, .top, .top, .top, .top, .top, .top, .top, .top, .top, .top, .top, .top, .top, .top, .top, .top, .top, .top, .top], [none, none], h⟩
theorem jacquardlaw8_Same_r1 (C : CallF) (L : LoopF) (G : Glo) (a5 : Int) (s0 : List Cell) (s1 : List Cell) (h : AHeap) :
    jacquardlaw8_Same_F1 C L G (jacquardlaw8_Same_s1 a5 s0 s1 h) =
    if (decide (a5 < 64)) = true then if 0 = 0 ∧ s0.length = 65 then c1 (qh h (C 41 [(.agg s0), (.c (.int .i64 a5))] h)) fun y_7 h_6 => asI .u64 y_7 fun n_8 => if 0 ≤ a5 ∧ a5 < ((64 : Nat) : Int) then atK s1 (1 + ((Int.toNat a5) * 1)) fun q_9 => asI .u64 (.c q_9) fun n_10 => if (n_8 != n_10) = true then some (.ret, (jacquardlaw8_Same_x1_0 false h)) else some (.normal, (jacquardlaw8_Same_s1 (G.wrap .i64 (a5 + 1)) s0 s1 h)) else none else none else some ((.exit 0), (jacquardlaw8_Same_x1_1 h)) := by kernel_rfl
theorem jacquardlaw8_Same_e1_0 (C : CallF) (L : LoopF) (G : Glo) (h0 : AHeap) (b4 : Bool) (h : AHeap) :
    (jacquardlaw8_Same_k3 C L G h0) .ret (jacquardlaw8_Same_x1_0 b4 h) =
    some ([(.c (.bool b4))], h) := by kernel_rfl
theorem jacquardlaw8_Same_e1_1 (C : CallF) (L : LoopF) (G : Glo) (h0 : AHeap) (h : AHeap) :
    (jacquardlaw8_Same_k3 C L G h0) (.exit 0) (jacquardlaw8_Same_x1_1 h) =
    some ([(.c (.bool true))], h) := by kernel_rfl
set_option maxRecDepth 100000 in
theorem jacquardlaw8_Same_eq (C : CallF) (L : LoopF) (G : Glo) (l0 : List Cell) (l1 : List Cell) (h0 : AHeap) :
    jacquardlaw8_Same.body C L G [(.agg l0), (.agg l1)] h0 =
    if 0 = 0 ∧ l0.length = 65 then c1 (qh h0 (C 14 [(.agg l0)] h0)) fun y_2 h_1 => asI .i64 y_2 fun n_3 => atK l1 0 fun q_4 => asI .i64 (.c q_4) fun n_5 => if (n_3 != n_5) = true then some ([(.c (.bool false))], h0) else (L (jacquardlaw8_Same_F1 C L G) (jacquardlaw8_Same_s1 0 l0 l1 h0)).bind fun p_11 => (jacquardlaw8_Same_k3 C L G h0) p_11.1 p_11.2 else none := by kernel_rfl

/- jacquard/jacquardlaw8.cut: 70 -/
def jacquardlaw8_cut_k2 (C : CallF) (L : LoopF) (G : Glo) (h0 : AHeap) : Ex → St → Option (List AV × AHeap) :=
  kSeq (fun st => jacquardlaw8_cut_p1.exec C L G st (jacquardlaw8_cut.fin G h0)) (jacquardlaw8_cut.fin G h0)
def jacquardlaw8_cut_k3 (C : CallF) (L : LoopF) (G : Glo) (h0 : AHeap) : Ex → St → Option (List AV × AHeap) :=
  kBlk 0 (jacquardlaw8_cut_k2 C L G h0)
def jacquardlaw8_cut_s2 (k2 : Nat) (N2 : Nat) (o2 : Nat) (k5 : Nat) (N5 : Nat) (o5 : Nat) (a6 : Int) (s0 : List Cell) (h : AHeap) : St := ⟨[.top, .top, .v (.c (.ptr k2 N2 o2)), .top, .loc 0 0, .v (.c (.ptr k5 N5 o5)), .v (.c (.int .i64 a6)), .top, .top, .top, .top, .top, .top, .top, .top, .top, .top, .top, .top, .top, .top, .top, .top, .top, .top, .top, .top, .top, .top, .top, .top, .top], [some s0], h⟩
def jacquardlaw8_cut_F2 (C : CallF) (L : LoopF) (G : Glo) : St → Option (Ex × St) :=
  roundF (fun st f => jacquardlaw8_cut_b2.exec C L G st f) [2, 4, 5, 6] [0] [(1, [4, 5], [0])]
def jacquardlaw8_cut_k4 (C : CallF) (L : LoopF) (G : Glo) : Ex → St → Option (Ex × St) :=
  kSeq (fun st => jacquardlaw8_cut_p2.exec C L G st (kLoop [2, 4, 5, 6] [0] [(1, [4, 5], [0])])) (kLoop [2, 4, 5, 6] [0] [(1, [4, 5], [0])])
def jacquardlaw8_cut_k5 (C : CallF) (L : LoopF) (G : Glo) : Ex → St → Option (Ex × St) :=
  kBlk 1 (jacquardlaw8_cut_k4 C L G)
def jacquardlaw8_cut_k6 (C : CallF) (L : LoopF) (G : Glo) : Ex → St → Option (Ex × St) :=
  kBlk 2 (jacquardlaw8_cut_k5 C L G)
def jacquardlaw8_cut_s1 (k2 : Nat) (N2 : Nat) (o2 : Nat) (k5 : Nat) (N5 : Nat) (o5 : Nat) (a6 : Int) (a7 : Int) (s0 : List Cell) (h : AHeap) : St := ⟨[.top, .top, .v (.c (.ptr k2 N2 o2)), .top, .loc 0 0, .v (.c (.ptr k5 N5 o5)), .v (.c (.int .i64 a6)), .v (.c (.int .i64 a7)), .top, .top, .top, .top, .top, .top, .top, .top, .top, .top, .top, .top, .top, .top, .top, .top, .top, .top, .top, .top, .top, .top, .top, .top], [some s0], h⟩
def jacquardlaw8_cut_F1 (C : CallF) (L : LoopF) (G : Glo) : St → Option (Ex × St) :=
  roundF (fun st f => jacquardlaw8_cut_b1.exec C L G st f) [2, 4, 5, 6, 7] [0] [(3, [2, 4, 5, 6], [0])]
def jacquardlaw8_cut_x1_3 (k2 : Nat) (N2 : Nat) (o2 : Nat) (k5 : Nat) (N5 : Nat) (o5 : Nat) (a6 : Int) (s0 : List Cell) (h : AHeap) : St := ⟨[.top, .top, .v (.c (.ptr k2 N2 o2)), .top, .loc 0 0, .v (.c (.ptr k5 N5 o5)), .v (.c (.int .i64 a6)), .top, .top, .top, .top, .top, .top, .top, .top, .top, .top, .top, .top, .top, .top, .top, .top, .top, .top, .top, .top, .top, .top, .top, .top, .top], [some s0], h⟩
def jacquardlaw8_cut_x2_1 (k5 : Nat) (N5 : Nat) (o5 : Nat) (s0 : List Cell) (h : AHeap) : St := ⟨[.top, .top, .top, .top, .loc 0 0, .v (.c (.ptr k5 N5 o5)), .top, .top, .top, .top, .top, .top, .top, .top, .top, .top, .top, .top, .top, .top, .top, .top, .top, .top, .top, .top, .top, .top, .top, .top, .top, .top], [some s0], h⟩
theorem jacquardlaw8_cut_r1 (C : CallF) (L : LoopF) (G : Glo) (k2 : Nat) (N2 : Nat) (o2 : Nat) (k5 : Nat) (N5 : Nat) (o5 : Nat) (a6 : Int) (a7 : Int) (s0 : List Cell) (h : AHeap) :
    jacquardlaw8_cut_F1 C L G (jacquardlaw8_cut_s1 k2 N2 o2 k5 N5 o5 a6 a7 s0 h) =
    rdH h k5 N5 fun l_9 => atK l_9 (o5 + 0) fun q_10 => asI .i64 (.c q_10) fun n_11 => if (decide (a7 < n_11)) = true then c1 (C 7 [(.c (.ptr k2 N2 o2)), (.c (.int .i64 a6)), (.c (.int .i64 a7))] h) fun y_13 h_12 => asB y_13 fun b_14 => if b_14 = true then c0 (C 13 [(.c (.ptr k5 N5 o5)), (.c (.int .i64 a6)), (.c (.int .i64 a7))] h_12) fun h_15 => some (.normal, (jacquardlaw8_cut_s1 k2 N2 o2 k5 N5 o5 a6 (G.wrap .i64 (a7 + 1)) s0 h_15)) else some (.normal, (jacquardlaw8_cut_s1 k2 N2 o2 k5 N5 o5 a6 (G.wrap .i64 (a7 + 1)) s0 h_12)) else some ((.exit 2), (jacquardlaw8_cut_x1_3 k2 N2 o2 k5 N5 o5 a6 s0 h)) := by kernel_rfl
theorem jacquardlaw8_cut_e1_3 (C : CallF) (L : LoopF) (G : Glo) (k2 : Nat) (N2 : Nat) (o2 : Nat) (k5 : Nat) (N5 : Nat) (o5 : Nat) (a6 : Int) (s0 : List Cell) (h : AHeap) :
    (jacquardlaw8_cut_k6 C L G) (.exit 2) (jacquardlaw8_cut_x1_3 k2 N2 o2 k5 N5 o5 a6 s0 h) =
    some (.normal, (jacquardlaw8_cut_s2 k2 N2 o2 k5 N5 o5 (G.wrap .i64 (a6 + 1)) s0 h)) := by kernel_rfl
theorem jacquardlaw8_cut_r2 (C : CallF) (L : LoopF) (G : Glo) (k2 : Nat) (N2 : Nat) (o2 : Nat) (k5 : Nat) (N5 : Nat) (o5 : Nat) (a6 : Int) (s0 : List Cell) (h : AHeap) :
    jacquardlaw8_cut_F2 C L G (jacquardlaw8_cut_s2 k2 N2 o2 k5 N5 o5 a6 s0 h) =
    rdH h k5 N5 fun l_6 => atK l_6 (o5 + 0) fun q_7 => asI .i64 (.c q_7) fun n_8 => if (decide (a6 < n_8)) = true then (L (jacquardlaw8_cut_F1 C L G) (jacquardlaw8_cut_s1 k2 N2 o2 k5 N5 o5 a6 0 s0 h)).bind fun p_16 => (jacquardlaw8_cut_k6 C L G) p_16.1 p_16.2 else some ((.exit 0), (jacquardlaw8_cut_x2_1 k5 N5 o5 s0 h)) := by kernel_rfl
theorem jacquardlaw8_cut_e2_1 (C : CallF) (L : LoopF) (G : Glo) (h0 : AHeap) (k5 : Nat) (N5 : Nat) (o5 : Nat) (s0 : List Cell) (h : AHeap) :
    (jacquardlaw8_cut_k3 C L G h0) (.exit 0) (jacquardlaw8_cut_x2_1 k5 N5 o5 s0 h) =
    rdH h k5 N5 fun l_17 => if o5 = 0 ∧ l_17.length = 65 then if 0 = 0 ∧ s0.length = 65 ∧ l_17.length = 65 then if 0 = 0 ∧ l_17.length = 65 then finish true h0 [(.agg l_17)] h else none else none else none := by kernel_rfl
set_option maxRecDepth 100000 in
theorem jacquardlaw8_cut_eq (C : CallF) (L : LoopF) (G : Glo) (l0 : List Cell) (a1 : Int) (h0 : AHeap) :
    jacquardlaw8_cut.body C L G [(.agg l0), (.c (.int .i64 a1))] h0 =
    rdH (h0 ++ [some (Blk.mk true 0 (AV.cells (.agg l0)))]) h0.length ((AV.cells (.agg l0)).length) fun l_1 => atK l_1 0 fun q_2 => asI .i64 (.c q_2) fun n_3 => rdH ((h0 ++ [some (Blk.mk true 0 (AV.cells (.agg l0)))]) ++ [some (Blk.mk true 0 ([Cell.int .i64 0] ++ List.replicate 64 (Cell.int .u64 0)))]) ((h0 ++ [some (Blk.mk true 0 (AV.cells (.agg l0)))]).length) (([Cell.int .i64 0] ++ List.replicate 64 (Cell.int .u64 0)).length) fun l_4 => if 0 = 0 ∧ l_4.length = 65 ∧ (splice ([Cell.int .i64 0] ++ List.replicate 64 (Cell.int .u64 0)) 0 ([(.int .i64 (if a1 < n_3 then a1 else n_3))] : List Cell)).length = 65 then putH ((h0 ++ [some (Blk.mk true 0 (AV.cells (.agg l0)))]) ++ [some (Blk.mk true 0 ([Cell.int .i64 0] ++ List.replicate 64 (Cell.int .u64 0)))]) ((h0 ++ [some (Blk.mk true 0 (AV.cells (.agg l0)))]).length) (splice ([Cell.int .i64 0] ++ List.replicate 64 (Cell.int .u64 0)) 0 ([(.int .i64 (if a1 < n_3 then a1 else n_3))] : List Cell)) fun h_5 => (L (jacquardlaw8_cut_F2 C L G) (jacquardlaw8_cut_s2 h0.length ((AV.cells (.agg l0)).length) 0 ((h0 ++ [some (Blk.mk true 0 (AV.cells (.agg l0)))]).length) (([Cell.int .i64 0] ++ List.replicate 64 (Cell.int .u64 0)).length) 0 0 ([Cell.int .i64 0] ++ List.replicate 64 (Cell.int .u64 0)) h_5)).bind fun p_18 => (jacquardlaw8_cut_k3 C L G h0) p_18.1 p_18.2 else none := by kernel_rfl

/- jacquard/jacquardlaw8.RelPairs: 240 -/
def jacquardlaw8_RelPairs_k2 (C : CallF) (L : LoopF) (G : Glo) (h0 : AHeap) : Ex → St → Option (List AV × AHeap) :=
  kSeq (fun st => jacquardlaw8_RelPairs_p1.exec C L G st (jacquardlaw8_RelPairs.fin G h0)) (jacquardlaw8_RelPairs.fin G h0)
def jacquardlaw8_RelPairs_k3 (C : CallF) (L : LoopF) (G : Glo) (h0 : AHeap) : Ex → St → Option (List AV × AHeap) :=
  kBlk 0 (jacquardlaw8_RelPairs_k2 C L G h0)
def jacquardlaw8_RelPairs_s2 (a0 : Int) (k6 : Nat) (N6 : Nat) (o6 : Nat) (x7 : Cell) (a8 : Int) (a9 : Int) (s0 : List Cell) (h : AHeap) : St := ⟨[.v (.c (.int .i64 a0)), .top, .top, .top, .top, .loc 0 0, .v (.c (.ptr k6 N6 o6)), .v (.c x7), .v (.c (.int .i64 a8)), .v (.c (.int .i64 a9)), .top, .top, .top, .top, .top, .top, .top, .top, .top, .top, .top, .top, .top, .top, .top, .top, .top, .top, .top, .top, .top, .top, .top, .top, .top, .top, .top, .top, .top, .top, .top, .top, .top, .top, .top, .top, .top, .top, .top, .top, .top, .top, .top, .top, .top, .top, .top, .top, .top, .top, .top, .top, .top, .top, .top, .top, .top, .top, .top, .top, .top, .top, .top, .top, .top, .top, .top, .top, .top, .top, .top, .top, .top, .top, .top, .top, .top, .top, .top, .top, .top, .top, .top, .top, .top, .top, .top, .top, .top, .top, .top, .top, .top, .top], [some s0, none, none], h⟩
def jacquardlaw8_RelPairs_F2 (C : CallF) (L : LoopF) (G : Glo) : St → Option (Ex × St) :=
  roundF (fun st f => jacquardlaw8_RelPairs_b2.exec C L G st f) [0, 5, 6, 7, 8, 9] [0] [(0, [4], []), (1, [0, 5, 7, 8], [0])]
def jacquardlaw8_RelPairs_k4 (C : CallF) (L : LoopF) (G : Glo) : Ex → St → Option (Ex × St) :=
  kSeq (fun st => jacquardlaw8_RelPairs_p2.exec C L G st (kLoop [0, 5, 6, 7, 8, 9] [0] [(0, [4], []), (1, [0, 5, 7, 8], [0])])) (kLoop [0, 5, 6, 7, 8, 9] [0] [(0, [4], []), (1, [0, 5, 7, 8], [0])])
def jacquardlaw8_RelPairs_k5 (C : CallF) (L : LoopF) (G : Glo) : Ex → St → Option (Ex × St) :=
  kBlk 1 (jacquardlaw8_RelPairs_k4 C L G)
def jacquardlaw8_RelPairs_k6 (C : CallF) (L : LoopF) (G : Glo) : Ex → St → Option (Ex × St) :=
  kBlk 2 (jacquardlaw8_RelPairs_k5 C L G)
def jacquardlaw8_RelPairs_s1 (a0 : Int) (k6 : Nat) (N6 : Nat) (o6 : Nat) (x7 : Cell) (a8 : Int) (a9 : Int) (a10 : Int) (s0 : List Cell) (h : AHeap) : St := ⟨[.v (.c (.int .i64 a0)), .top, .top, .top, .top, .loc 0 0, .v (.c (.ptr k6 N6 o6)), .v (.c x7), .v (.c (.int .i64 a8)), .v (.c (.int .i64 a9)), .v (.c (.int .i64 a10)), .top, .top, .top, .top, .top, .top, .top, .top, .top, .top, .top, .top, .top, .top, .top, .top, .top, .top, .top, .top, .top, .top, .top, .top, .top, .top, .top, .top, .top, .top, .top, .top, .top, .top, .top, .top, .top, .top, .top, .top, .top, .top, .top, .top, .top, .top, .top, .top, .top, .top, .top, .top, .top, .top, .top, .top, .top, .top, .top, .top, .top, .top, .top, .top, .top, .top, .top, .top, .top, .top, .top, .top, .top, .top, .top, .top, .top, .top, .top, .top, .top, .top, .top, .top, .top, .top, .top, .top, .top, .top, .top, .top, .top], [some s0, none, none], h⟩
def jacquardlaw8_RelPairs_F1 (C : CallF) (L : LoopF) (G : Glo) : St → Option (Ex × St) :=
  roundF (fun st f => jacquardlaw8_RelPairs_b1.exec C L G st f) [0, 5, 6, 7, 8, 9, 10] [0] [(0, [4], []), (3, [0, 5, 6, 7, 8, 9], [0])]
def jacquardlaw8_RelPairs_x1_0 (b4 : Bool) (h : AHeap) : St := ⟨[.top, .top, .top, .top, .v (.c (.bool b4)), .top, .top, .top, .top, .top, .top, .top, .top, .top, .top, .top, .top, .top, .top, .top, .top, .top, .top, .top, .top, .top, .top, .top, .top, .top, .top, .top, .top, .top, .top, .top, .top, .top, .top, .top, .top, .top, .top, .top, .top, .top, .top, .top, .top, .top, .top, .top, .top, .top, .top, .top, .top, .top, .top, .top, .top, .top, .top, .top, .top, .top, .top, .top, .top, .top, .top, .top, .top, .top, .top, .top, .top, .top, .top, .top, .top, .top, .top, .top, .top, .top, .top, .top, .top, .top, .top, .top, .top, .top, .top, .top, .top, .top, .top, .top, .top, .top, .top, .top], [none, none, none], h⟩
def jacquardlaw8_RelPairs_x1_3 (a0 : Int) (k6 : Nat) (N6 : Nat) (o6 : Nat) (x7 : Cell) (a8 : Int) (a9 : Int) (s0 : List Cell) (h : AHeap) : St := ⟨[.v (.c (.int .i64 a0)), .top, .top, .top, .top, .loc 0 0, .v (.c (.ptr k6 N6 o6)), .v (.c x7), .v (.c (.int .i64 a8)), .v (.c (.int .i64 a9)), .top, .top, .top, .top, .top, .top, .top, .top, .top, .top, .top, .top, .top, .top, .top, .top, .top, .top, .top, .top, .top, .top, .top, .top, .top, .top, .top, .top, .top, .top, .top, .top, .top, .top, .top, .top, .top, .top, .top, .top, .top, .top, .top, .top, .top, .top, .top, .top, .top, .top, .top, .top, .top, .top, .top, .top, .top, .top, .top, .top, .top, .top, .top, .top, .top, .top, .top, .top, .top, .top, .top, .top, .top, .top, .top, .top, .top, .top, .top, .top, .top, .top, .top, .top, .top, .top, .top, .top, .top, .top, .top, .top, .top, .top], [some s0, none, none], h⟩
def jacquardlaw8_RelPairs_x2_0 (b4 : Bool) (h : AHeap) : St := ⟨[.top, .top, .top, .top, .v (.c (.bool b4)), .top, .top, .top, .top, .top, .top, .top, .top, .top, .top, .top, .top, .top, .top, .top, .top, .top, .top, .top, .top, .top, .top, .top, .top, .top, .top, .top, .top, .top, .top, .top, .top, .top, .top, .top, .top, .top, .top, .top, .top, .top, .top, .top, .top, .top, .top, .top, .top, .top, .top, .top, .top, .top, .top, .top, .top, .top, .top, .top, .top, .top, .top, .top, .top, .top, .top, .top, .top, .top, .top, .top, .top, .top, .top, .top, .top, .top, .top, .top, .top, .top, .top, .top, .top, .top, .top, .top, .top, .top, .top, .top, .top, .top, .top, .top, .top, .top, .top, .top], [none, none, none], h⟩
def jacquardlaw8_RelPairs_x2_1 (a0 : Int) (x7 : Cell) (a8 : Int) (s0 : List Cell) (h : AHeap) : St := ⟨[.v (.c (.int .i64 a0)), .top, .top, .top, .top, .loc 0 0, .top, .v (.c x7), .v (.c (.int .i64 a8)), .top, .top, .top, .top, .top, .top, .top, .top, .top, .top, .top, .top, .top, .top, .top, .top, .top, .top, .top, .top, .top, .top, .top, .top, .top, .top, .top, .top, .top, .top, .top, .top, .top, .top, .top, .top, .top, .top, .top, .top, .top, .top, .top, .top, .top, .top, .top, .top, .top, .top, .top, .top, .top, .top, .top, .top, .top, .top, .top, .top, .top, .top, .top, .top, .top, .top, .top, .top, .top, .top, .top, .top, .top, .top, .top, .top, .top, .top, .top, .top, .top, .top, .top, .top, .top, .top, .top, .top, .top, .top, .top, .top, .top, .top, .top], [some s0, none, none], h⟩
theorem jacquardlaw8_RelPairs_r1 (C : CallF) (L : LoopF) (G : Glo) (a0 : Int) (k6 : Nat) (N6 : Nat) (o6 : Nat) (x7 : Cell) (a8 : Int) (a9 : Int) (a10 : Int) (s0 : List Cell) (h : AHeap) :
    jacquardlaw8_RelPairs_F1 C L G (jacquardlaw8_RelPairs_s1 a0 k6 N6 o6 x7 a8 a9 a10 s0 h) =
    if (decide (a10 < a0)) = true then if 0 = 0 ∧ s0.length = 65 then c1 (C 3 [(.agg s0), (.c (.int .i64 a9)), (.c (.int .i64 a10))] h) fun y_13 h_12 => asB y_13 fun b_14 => c1 (C 7 [(.c (.ptr k6 N6 o6)), (.c (.int .i64 a9)), (.c (.int .i64 a10))] h_12) fun y_16 h_15 => asB y_16 fun b_17 => if (!(b_14 == b_17)) = true then some (.ret, (jacquardlaw8_RelPairs_x1_0 false h_15)) else c1 (C 7 [(.c (.ptr k6 N6 o6)), (.c (.int .i64 a9)), (.c (.int .i64 a10))] h_15) fun y_19 h_18 => asB y_19 fun b_20 => if (!b_20) = true then some (.normal, (jacquardlaw8_RelPairs_s1 a0 k6 N6 o6 x7 a8 a9 (G.wrap .i64 (a10 + 1)) s0 h_18)) else lenK x7 fun n_21 => scK (decide (a8 ≥ n_21)) false (idxSK 2 x7 a8 fun k_22 N_23 o_24 => rdH h_18 k_22 N_23 fun l_25 => if o_24 + 2 ≤ l_25.length then if alike ((l_25.drop o_24).take 2) ([Cell.int .i64 0, Cell.int .i64 0]) = true ∧ alike (splice (splice [Cell.int .i64 0, Cell.int .i64 0] 0 ([(.int .i64 a9)] : List Cell)) 1 ([(.int .i64 a10)] : List Cell)) ([Cell.int .i64 0, Cell.int .i64 0]) = true then some ((!(decide (((l_25.drop o_24).take 2) = (splice (splice [Cell.int .i64 0, Cell.int .i64 0] 0 ([(.int .i64 a9)] : List Cell)) 1 ([(.int .i64 a10)] : List Cell))))), h_18) else none else none) true h_18 fun b_26 h_27 => if b_26 = true then some (.ret, (jacquardlaw8_RelPairs_x1_0 false h_27)) else some (.normal, (jacquardlaw8_RelPairs_s1 a0 k6 N6 o6 x7 (G.wrap .i64 (a8 + 1)) a9 (G.wrap .i64 (a10 + 1)) s0 h_27)) else none else some ((.exit 2), (jacquardlaw8_RelPairs_x1_3 a0 k6 N6 o6 x7 a8 a9 s0 h)) := by kernel_rfl
theorem jacquardlaw8_RelPairs_e1_0 (C : CallF) (L : LoopF) (G : Glo) (b4 : Bool) (h : AHeap) :
    (jacquardlaw8_RelPairs_k6 C L G) .ret (jacquardlaw8_RelPairs_x1_0 b4 h) =
    some (.ret, (jacquardlaw8_RelPairs_x2_0 b4 h)) := by kernel_rfl
theorem jacquardlaw8_RelPairs_e1_3 (C : CallF) (L : LoopF) (G : Glo) (a0 : Int) (k6 : Nat) (N6 : Nat) (o6 : Nat) (x7 : Cell) (a8 : Int) (a9 : Int) (s0 : List Cell) (h : AHeap) :
    (jacquardlaw8_RelPairs_k6 C L G) (.exit 2) (jacquardlaw8_RelPairs_x1_3 a0 k6 N6 o6 x7 a8 a9 s0 h) =
    some (.normal, (jacquardlaw8_RelPairs_s2 a0 k6 N6 o6 x7 a8 (G.wrap .i64 (a9 + 1)) s0 h)) := by kernel_rfl
theorem jacquardlaw8_RelPairs_r2 (C : CallF) (L : LoopF) (G : Glo) (a0 : Int) (k6 : Nat) (N6 : Nat) (o6 : Nat) (x7 : Cell) (a8 : Int) (a9 : Int) (s0 : List Cell) (h : AHeap) :
    jacquardlaw8_RelPairs_F2 C L G (jacquardlaw8_RelPairs_s2 a0 k6 N6 o6 x7 a8 a9 s0 h) =
    if (decide (a9 < a0)) = true then (L (jacquardlaw8_RelPairs_F1 C L G) (jacquardlaw8_RelPairs_s1 a0 k6 N6 o6 x7 a8 a9 0 s0 h)).bind fun p_28 => (jacquardlaw8_RelPairs_k6 C L G) p_28.1 p_28.2 else some ((.exit 0), (jacquardlaw8_RelPairs_x2_1 a0 x7 a8 s0 h)) := by kernel_rfl
theorem jacquardlaw8_RelPairs_e2_0 (C : CallF) (L : LoopF) (G : Glo) (h0 : AHeap) (b4 : Bool) (h : AHeap) :
    (jacquardlaw8_RelPairs_k3 C L G h0) .ret (jacquardlaw8_RelPairs_x2_0 b4 h) =
    finish true h0 [(.c (.bool b4))] h := by kernel_rfl
theorem jacquardlaw8_RelPairs_e2_1 (C : CallF) (L : LoopF) (G : Glo) (h0 : AHeap) (a0 : Int) (x7 : Cell) (a8 : Int) (s0 : List Cell) (h : AHeap) :
    (jacquardlaw8_RelPairs_k3 C L G h0) (.exit 0) (jacquardlaw8_RelPairs_x2_1 a0 x7 a8 s0 h) =
    c2 (C 1 [(.c (.int .i64 a0)), (.c x7)] h) fun y_30 y_31 h_29 => asA y_30 fun l_32 => asA y_31 fun l_33 => if 0 = 0 ∧ ([Cell.int .i64 0] ++ List.replicate 64 (Cell.int .u64 0)).length = 65 ∧ l_32.length = 65 then if 0 = 0 ∧ ([Cell.int .i64 0] ++ List.replicate 64 (Cell.int .u64 0)).length = 65 ∧ l_33.length = 65 then lenK x7 fun n_34 => scK (a8 == n_34) true (scK (decide (a8 > 200)) false (if 0 = 0 ∧ l_32.length = 65 then if 0 = 0 ∧ s0.length = 65 then if alike l_32 ([Cell.int .i64 0] ++ List.replicate 64 (Cell.int .u64 0)) = true ∧ alike s0 ([Cell.int .i64 0] ++ List.replicate 64 (Cell.int .u64 0)) = true then some ((decide (l_32 = s0)), h_29) else none else none else none) true h_29 fun b_35 h_36 => some (b_35, h_36)) false h_29 fun b_37 h_38 => scK b_37 true (if 0 = 0 ∧ s0.length = 65 then c1 (C 3 [(.agg s0), (.c (.int .i64 (-1))), (.c (.int .i64 0))] h_38) fun y_40 h_39 => asB y_40 fun b_41 => some ((!b_41), h_39) else none) false h_38 fun b_42 h_43 => scK b_42 true (if 0 = 0 ∧ s0.length = 65 then c1 (C 3 [(.agg s0), (.c (.int .i64 0)), (.c (.int .i64 64))] h_43) fun y_45 h_44 => asB y_45 fun b_46 => some ((!b_46), h_44) else none) false h_43 fun b_47 h_48 => scK b_47 true (if 0 = 0 ∧ s0.length = 65 then c1 (C 41 [(.agg s0), (.c (.int .i64 (-1)))] h_48) fun y_50 h_49 => asI .u64 y_50 fun n_51 => some ((n_51 == 0), h_49) else none) false h_48 fun b_52 h_53 => scK b_52 true (if 0 = 0 ∧ s0.length = 65 then c1 (C 41 [(.agg s0), (.c (.int .i64 64))] h_53) fun y_55 h_54 => asI .u64 y_55 fun n_56 => some ((n_56 == 0), h_54) else none) false h_53 fun b_57 h_58 => scK b_57 true (c1 (C 55 [] h_58) fun y_60 h_59 => asB y_60 fun b_61 => some (b_61, h_59)) false h_58 fun b_62 h_63 => finish true h0 [(.c (.bool b_62))] h_63 else none else none := by kernel_rfl
set_option maxRecDepth 100000 in
theorem jacquardlaw8_RelPairs_eq (C : CallF) (L : LoopF) (G : Glo) (a0 : Int) (x1 : Cell) (h0 : AHeap) :
    jacquardlaw8_RelPairs.body C L G [(.c (.int .i64 a0)), (.c x1)] h0 =
    let v_1 : Int := (if 64 < (if 0 > a0 then 0 else a0) then 64 else (if 0 > a0 then 0 else a0)); c2 (C 1 [(.c (.int .i64 v_1)), (.c x1)] h0) fun y_3 y_4 h_2 => asA y_3 fun l_5 => asA y_4 fun l_6 => if 0 = 0 ∧ ([Cell.int .i64 0] ++ List.replicate 64 (Cell.int .u64 0)).length = 65 ∧ l_5.length = 65 then rdH (h_2 ++ [some (Blk.mk true 0 ([Cell.int .i64 0] ++ List.replicate 64 (Cell.int .u64 0)))]) h_2.length (([Cell.int .i64 0] ++ List.replicate 64 (Cell.int .u64 0)).length) fun l_7 => if 0 = 0 ∧ l_7.length = 65 ∧ l_6.length = 65 then putH (h_2 ++ [some (Blk.mk true 0 ([Cell.int .i64 0] ++ List.replicate 64 (Cell.int .u64 0)))]) h_2.length l_6 fun h_8 => if 0 = 0 ∧ l_5.length = 65 then c1 (C 20 [(.agg l_5)] h_8) fun y_10 h_9 => asC y_10 fun x_11 => (L (jacquardlaw8_RelPairs_F2 C L G) (jacquardlaw8_RelPairs_s2 v_1 h_2.length (([Cell.int .i64 0] ++ List.replicate 64 (Cell.int .u64 0)).length) 0 x_11 0 0 l_5 h_9)).bind fun p_64 => (jacquardlaw8_RelPairs_k3 C L G h0) p_64.1 p_64.2 else none else none else none := by kernel_rfl

/- jacquard/jacquardlaw8.RelThen: 241 -/
def jacquardlaw8_RelThen_k2 (C : CallF) (L : LoopF) (G : Glo) (h0 : AHeap) : Ex → St → Option (List AV × AHeap) :=
  kSeq (fun st => jacquardlaw8_RelThen_p1.exec C L G st (jacquardlaw8_RelThen.fin G h0)) (jacquardlaw8_RelThen.fin G h0)
def jacquardlaw8_RelThen_k3 (C : CallF) (L : LoopF) (G : Glo) (h0 : AHeap) : Ex → St → Option (List AV × AHeap) :=
  kBlk 0 (jacquardlaw8_RelThen_k2 C L G h0)
def jacquardlaw8_RelThen_s1 (a0 : Int) (a4 : Int) (a5 : Int) (b19 : Bool) (a20 : Int) (s0 : List Cell) (s2 : List Cell) (s4 : List Cell) (h : AHeap) : St := ⟨[.v (.c (.int .i64 a0)), .top, .top, .top, .v (.c (.int .i64 a4)), .v (.c (.int .i64 a5)), .top, .top, .top, .top, .top, .top, .top, .loc 0 0, .top, .loc 2 0, .top, .loc 4 0, .top, .v (.c (.bool b19)), .v (.c (.int .i64 a20)), .top, .top, .top, .top, .top, .top, .top, .top, .top, .top, .top, .top, .top, .top, .top, .top, .top, .top, .top, .top, .top, .top, .top, .top, .top, .top, .top, .top, .top, .top, .top, .top, .top, .top, .top, .top, .top, .top, .top, .top, .top, .top, .top, .top, .top, .top, .top, .top, .top, .top, .top, .top, .top, .top, .top, .top, .top, .top, .top, .top, .top, .top, .top, .top, .top, .top, .top, .top, .top, .top, .top, .top, .top, .top, .top, .top, .top, .top, .top, .top, .top, .top, .top, .top, .top, .top, .top], [some s0, none, some s2, none, some s4, none], h⟩
def jacquardlaw8_RelThen_F1 (C : CallF) (L : LoopF) (G : Glo) : St → Option (Ex × St) :=
  roundF (fun st f => jacquardlaw8_RelThen_b1.exec C L G st f) [0, 4, 5, 13, 15, 17, 19, 20] [0, 2, 4] [(1, [4, 5, 13, 15, 17, 19], [0, 2, 4])]
def jacquardlaw8_RelThen_x1_1 (a4 : Int) (a5 : Int) (b19 : Bool) (s0 : List Cell) (s2 : List Cell) (s4 : List Cell) (h : AHeap) : St := ⟨[.top, .top, .top, .top, .v (.c (.int .i64 a4)), .v (.c (.int .i64 a5)), .top, .top, .top, .top, .top, .top, .top, .loc 0 0, .top, .loc 2 0, .top, .loc 4 0, .top, .v (.c (.bool b19)), .top, .top, .top, .top, .top, .top, .top, .top, .top, .top, .top, .top, .top, .top, .top, .top, .top, .top, .top, .top, .top, .top, .top, .top, .top, .top, .top, .top, .top, .top, .top, .top, .top, .top, .top, .top, .top, .top, .top, .top, .top, .top, .top, .top, .top, .top, .top, .top, .top, .top, .top, .top, .top, .top, .top, .top, .top, .top, .top, .top, .top, .top, .top, .top, .top, .top, .top, .top, .top, .top, .top, .top, .top, .top, .top, .top, .top, .top, .top, .top, .top, .top, .top, .top, .top, .top, .top, .top], [some s0, none, some s2, none, some s4, none], h⟩
theorem jacquardlaw8_RelThen_r1 (C : CallF) (L : LoopF) (G : Glo) (a0 : Int) (a4 : Int) (a5 : Int) (b19 : Bool) (a20 : Int) (s0 : List Cell) (s2 : List Cell) (s4 : List Cell) (h : AHeap) :
    jacquardlaw8_RelThen_F1 C L G (jacquardlaw8_RelThen_s1 a0 a4 a5 b19 a20 s0 s2 s4 h) =
    if (decide (a20 < a0)) = true then scK b19 false (if 0 = 0 ∧ s0.length = 65 then c1 (C 3 [(.agg s0), (.c (.int .i64 a4)), (.c (.int .i64 a20))] h) fun y_18 h_17 => asB y_18 fun b_19 => scK b_19 true (if 0 = 0 ∧ s2.length = 65 then c1 (C 3 [(.agg s2), (.c (.int .i64 a20)), (.c (.int .i64 a5))] h_17) fun y_21 h_20 => asB y_21 fun b_22 => some (b_22, h_20) else none) false h_17 fun b_23 h_24 => some (b_23, h_24) else none) true h fun b_25 h_26 => some (.normal, (jacquardlaw8_RelThen_s1 a0 a4 a5 b_25 (G.wrap .i64 (a20 + 1)) s0 s2 s4 h_26)) else some ((.exit 0), (jacquardlaw8_RelThen_x1_1 a4 a5 b19 s0 s2 s4 h)) := by kernel_rfl
theorem jacquardlaw8_RelThen_e1_1 (C : CallF) (L : LoopF) (G : Glo) (h0 : AHeap) (a4 : Int) (a5 : Int) (b19 : Bool) (s0 : List Cell) (s2 : List Cell) (s4 : List Cell) (h : AHeap) :
    (jacquardlaw8_RelThen_k3 C L G h0) (.exit 0) (jacquardlaw8_RelThen_x1_1 a4 a5 b19 s0 s2 s4 h) =
    if 0 = 0 ∧ s0.length = 65 then if 0 = 0 ∧ s2.length = 65 then c1 (qh h (C 58 [(.agg s0), (.agg s2)] h)) fun y_28 h_27 => asA y_28 fun l_29 => c1 (qh h (C 3 [(.agg l_29), (.c (.int .i64 a4)), (.c (.int .i64 a5))] h)) fun y_31 h_30 => asB y_31 fun b_32 => scK (b_32 == b19) true (if 0 = 0 ∧ s0.length = 65 then if 0 = 0 ∧ s2.length = 65 then c1 (qh h (C 58 [(.agg s0), (.agg s2)] h)) fun y_34 h_33 => asA y_34 fun l_35 => if 0 = 0 ∧ s4.length = 65 then c1 (qh h (C 58 [(.agg l_35), (.agg s4)] h)) fun y_37 h_36 => asA y_37 fun l_38 => if 0 = 0 ∧ s0.length = 65 then if 0 = 0 ∧ s2.length = 65 then if 0 = 0 ∧ s4.length = 65 then c1 (qh h (C 58 [(.agg s2), (.agg s4)] h)) fun y_40 h_39 => asA y_40 fun l_41 => c1 (qh h (C 58 [(.agg s0), (.agg l_41)] h)) fun y_43 h_42 => asA y_43 fun l_44 => if alike l_38 ([Cell.int .i64 0] ++ List.replicate 64 (Cell.int .u64 0)) = true ∧ alike l_44 ([Cell.int .i64 0] ++ List.replicate 64 (Cell.int .u64 0)) = true then some ((decide (l_38 = l_44)), h) else none else none else none else none else none else none else none) false h fun b_45 h_46 => scK b_45 true (if 0 = 0 ∧ s0.length = 65 then if 0 = 0 ∧ s2.length = 65 then c1 (qh h_46 (C 59 [(.agg s0), (.agg s2)] h_46)) fun y_48 h_47 => asA y_48 fun l_49 => if 0 = 0 ∧ s4.length = 65 then c1 (qh h_46 (C 58 [(.agg l_49), (.agg s4)] h_46)) fun y_51 h_50 => asA y_51 fun l_52 => if 0 = 0 ∧ s0.length = 65 then if 0 = 0 ∧ s4.length = 65 then c1 (qh h_46 (C 58 [(.agg s0), (.agg s4)] h_46)) fun y_54 h_53 => asA y_54 fun l_55 => if 0 = 0 ∧ s2.length = 65 then if 0 = 0 ∧ s4.length = 65 then c1 (qh h_46 (C 58 [(.agg s2), (.agg s4)] h_46)) fun y_57 h_56 => asA y_57 fun l_58 => c1 (qh h_46 (C 59 [(.agg l_55), (.agg l_58)] h_46)) fun y_60 h_59 => asA y_60 fun l_61 => if alike l_52 ([Cell.int .i64 0] ++ List.replicate 64 (Cell.int .u64 0)) = true ∧ alike l_61 ([Cell.int .i64 0] ++ List.replicate 64 (Cell.int .u64 0)) = true then some ((decide (l_52 = l_61)), h_46) else none else none else none else none else none else none else none else none) false h_46 fun b_62 h_63 => scK b_62 true (c1 (qh h_63 (C 55 [] h_63)) fun y_65 h_64 => asB y_65 fun b_66 => some (b_66, h_63)) false h_63 fun b_67 h_68 => some ([(.c (.bool b_67))], h_68) else none else none := by kernel_rfl
set_option maxRecDepth 100000 in
theorem jacquardlaw8_RelThen_eq (C : CallF) (L : LoopF) (G : Glo) (a0 : Int) (x1 : Cell) (x2 : Cell) (x3 : Cell) (a4 : Int) (a5 : Int) (h0 : AHeap) :
    jacquardlaw8_RelThen.body C L G [(.c (.int .i64 a0)), (.c x1), (.c x2), (.c x3), (.c (.int .i64 a4)), (.c (.int .i64 a5))] h0 =
    let v_1 : Int := (G.wrap .i64 ((G.rem .i64 (G.band .i64 a0 255) 20) + 1)); if v_1 = 0 then none else if v_1 = 0 then none else c2 (C 1 [(.c (.int .i64 v_1)), (.c x1)] h0) fun y_3 y_4 h_2 => asA y_3 fun l_5 => asA y_4 fun l_6 => if 0 = 0 ∧ ([Cell.int .i64 0] ++ List.replicate 64 (Cell.int .u64 0)).length = 65 ∧ l_5.length = 65 then if 0 = 0 ∧ ([Cell.int .i64 0] ++ List.replicate 64 (Cell.int .u64 0)).length = 65 ∧ l_6.length = 65 then c2 (C 1 [(.c (.int .i64 v_1)), (.c x2)] h_2) fun y_8 y_9 h_7 => asA y_8 fun l_10 => asA y_9 fun l_11 => if 0 = 0 ∧ ([Cell.int .i64 0] ++ List.replicate 64 (Cell.int .u64 0)).length = 65 ∧ l_10.length = 65 then if 0 = 0 ∧ ([Cell.int .i64 0] ++ List.replicate 64 (Cell.int .u64 0)).length = 65 ∧ l_11.length = 65 then c2 (C 1 [(.c (.int .i64 v_1)), (.c x3)] h_7) fun y_13 y_14 h_12 => asA y_13 fun l_15 => asA y_14 fun l_16 => if 0 = 0 ∧ ([Cell.int .i64 0] ++ List.replicate 64 (Cell.int .u64 0)).length = 65 ∧ l_15.length = 65 then if 0 = 0 ∧ ([Cell.int .i64 0] ++ List.replicate 64 (Cell.int .u64 0)).length = 65 ∧ l_16.length = 65 then (L (jacquardlaw8_RelThen_F1 C L G) (jacquardlaw8_RelThen_s1 v_1 (G.rem .i64 (G.band .i64 a4 255) v_1) (G.rem .i64 (G.band .i64 a5 255) v_1) false 0 l_5 l_10 l_15 h_12)).bind fun p_69 => (jacquardlaw8_RelThen_k3 C L G h0) p_69.1 p_69.2 else none else none else none else none else none else none := by kernel_rfl

/- jacquard/jacquardlaw8.RelAlgebra: 243 -/
set_option maxRecDepth 100000 in
theorem jacquardlaw8_RelAlgebra_eq (C : CallF) (L : LoopF) (G : Glo) (a0 : Int) (x1 : Cell) (x2 : Cell) (h0 : AHeap) :
    jacquardlaw8_RelAlgebra.body C L G [(.c (.int .i64 a0)), (.c x1), (.c x2)] h0 =
    let v_1 : Int := (if 64 < (if 0 > a0 then 0 else a0) then 64 else (if 0 > a0 then 0 else a0)); c2 (C 1 [(.c (.int .i64 v_1)), (.c x1)] h0) fun y_3 y_4 h_2 => asA y_3 fun l_5 => asA y_4 fun l_6 => if 0 = 0 ∧ ([Cell.int .i64 0] ++ List.replicate 64 (Cell.int .u64 0)).length = 65 ∧ l_5.length = 65 then if 0 = 0 ∧ ([Cell.int .i64 0] ++ List.replicate 64 (Cell.int .u64 0)).length = 65 ∧ l_6.length = 65 then c2 (C 1 [(.c (.int .i64 v_1)), (.c x2)] h_2) fun y_8 y_9 h_7 => asA y_8 fun l_10 => asA y_9 fun l_11 => if 0 = 0 ∧ ([Cell.int .i64 0] ++ List.replicate 64 (Cell.int .u64 0)).length = 65 ∧ l_10.length = 65 then if 0 = 0 ∧ ([Cell.int .i64 0] ++ List.replicate 64 (Cell.int .u64 0)).length = 65 ∧ l_11.length = 65 then if 0 = 0 ∧ l_5.length = 65 then c1 (C 12 [(.agg l_5)] h_7) fun y_13 h_12 => asA y_13 fun l_14 => if 0 = 0 ∧ ([Cell.int .i64 0] ++ List.replicate 64 (Cell.int .u64 0)).length = 65 ∧ l_14.length = 65 then if 0 = 0 ∧ l_5.length = 65 then if 0 = 0 ∧ l_10.length = 65 then c1 (qh h_12 (C 59 [(.agg l_5), (.agg l_10)] h_12)) fun y_16 h_15 => asA y_16 fun l_17 => if 0 = 0 ∧ l_10.length = 65 then if 0 = 0 ∧ l_5.length = 65 then c1 (qh h_12 (C 59 [(.agg l_10), (.agg l_5)] h_12)) fun y_19 h_18 => asA y_19 fun l_20 => if alike l_17 ([Cell.int .i64 0] ++ List.replicate 64 (Cell.int .u64 0)) = true ∧ alike l_20 ([Cell.int .i64 0] ++ List.replicate 64 (Cell.int .u64 0)) = true then scK (decide (l_17 = l_20)) true (if 0 = 0 ∧ l_5.length = 65 then if 0 = 0 ∧ l_10.length = 65 then c1 (qh h_12 (C 67 [(.agg l_5), (.agg l_10)] h_12)) fun y_22 h_21 => asA y_22 fun l_23 => if 0 = 0 ∧ l_10.length = 65 then if 0 = 0 ∧ l_5.length = 65 then c1 (qh h_12 (C 67 [(.agg l_10), (.agg l_5)] h_12)) fun y_25 h_24 => asA y_25 fun l_26 => if alike l_23 ([Cell.int .i64 0] ++ List.replicate 64 (Cell.int .u64 0)) = true ∧ alike l_26 ([Cell.int .i64 0] ++ List.replicate 64 (Cell.int .u64 0)) = true then some ((decide (l_23 = l_26)), h_12) else none else none else none else none else none) false h_12 fun b_27 h_28 => scK b_27 true (if 0 = 0 ∧ l_5.length = 65 then c1 (qh h_28 (C 40 [(.agg l_5)] h_28)) fun y_30 h_29 => asA y_30 fun l_31 => c1 (qh h_28 (C 40 [(.agg l_31)] h_28)) fun y_33 h_32 => asA y_33 fun l_34 => if 0 = 0 ∧ l_5.length = 65 then if alike l_34 ([Cell.int .i64 0] ++ List.replicate 64 (Cell.int .u64 0)) = true ∧ alike l_5 ([Cell.int .i64 0] ++ List.replicate 64 (Cell.int .u64 0)) = true then some ((decide (l_34 = l_5)), h_28) else none else none else none) false h_28 fun b_35 h_36 => scK b_35 true (if 0 = 0 ∧ l_14.length = 65 then c1 (qh h_36 (C 12 [(.agg l_14)] h_36)) fun y_38 h_37 => asA y_38 fun l_39 => if 0 = 0 ∧ l_14.length = 65 then if alike l_39 ([Cell.int .i64 0] ++ List.replicate 64 (Cell.int .u64 0)) = true ∧ alike l_14 ([Cell.int .i64 0] ++ List.replicate 64 (Cell.int .u64 0)) = true then some ((decide (l_39 = l_14)), h_36) else none else none else none) false h_36 fun b_40 h_41 => scK b_40 true (if 0 = 0 ∧ l_5.length = 65 then if 0 = 0 ∧ l_10.length = 65 then c1 (qh h_41 (C 58 [(.agg l_5), (.agg l_10)] h_41)) fun y_43 h_42 => asA y_43 fun l_44 => c1 (qh h_41 (C 40 [(.agg l_44)] h_41)) fun y_46 h_45 => asA y_46 fun l_47 => if 0 = 0 ∧ l_10.length = 65 then c1 (qh h_41 (C 40 [(.agg l_10)] h_41)) fun y_49 h_48 => asA y_49 fun l_50 => if 0 = 0 ∧ l_5.length = 65 then c1 (qh h_41 (C 40 [(.agg l_5)] h_41)) fun y_52 h_51 => asA y_52 fun l_53 => c1 (qh h_41 (C 58 [(.agg l_50), (.agg l_53)] h_41)) fun y_55 h_54 => asA y_55 fun l_56 => if alike l_47 ([Cell.int .i64 0] ++ List.replicate 64 (Cell.int .u64 0)) = true ∧ alike l_56 ([Cell.int .i64 0] ++ List.replicate 64 (Cell.int .u64 0)) = true then some ((decide (l_47 = l_56)), h_41) else none else none else none else none else none) false h_41 fun b_57 h_58 => scK b_57 true (if 0 = 0 ∧ l_5.length = 65 then if 0 = 0 ∧ l_10.length = 65 then c1 (qh h_58 (C 68 [(.agg l_5), (.agg l_10)] h_58)) fun y_60 h_59 => asA y_60 fun l_61 => if 0 = 0 ∧ l_5.length = 65 then if 0 = 0 ∧ l_10.length = 65 then c1 (qh h_58 (C 67 [(.agg l_5), (.agg l_10)] h_58)) fun y_63 h_62 => asA y_63 fun l_64 => c1 (qh h_58 (C 59 [(.agg l_61), (.agg l_64)] h_58)) fun y_66 h_65 => asA y_66 fun l_67 => if 0 = 0 ∧ l_5.length = 65 then if alike l_67 ([Cell.int .i64 0] ++ List.replicate 64 (Cell.int .u64 0)) = true ∧ alike l_5 ([Cell.int .i64 0] ++ List.replicate 64 (Cell.int .u64 0)) = true then some ((decide (l_67 = l_5)), h_58) else none else none else none else none else none else none) false h_58 fun b_68 h_69 => scK b_68 true (if 0 = 0 ∧ l_14.length = 65 then if 0 = 0 ∧ l_14.length = 65 then c1 (qh h_69 (C 58 [(.agg l_14), (.agg l_14)] h_69)) fun y_71 h_70 => asA y_71 fun l_72 => if 0 = 0 ∧ l_14.length = 65 then c1 (qh h_69 (C 59 [(.agg l_72), (.agg l_14)] h_69)) fun y_74 h_73 => asA y_74 fun l_75 => if 0 = 0 ∧ l_14.length = 65 then if alike l_75 ([Cell.int .i64 0] ++ List.replicate 64 (Cell.int .u64 0)) = true ∧ alike l_14 ([Cell.int .i64 0] ++ List.replicate 64 (Cell.int .u64 0)) = true then some ((decide (l_75 = l_14)), h_69) else none else none else none else none else none) false h_69 fun b_76 h_77 => scK b_76 true (if 0 = 0 ∧ l_5.length = 65 then if 0 = 0 ∧ l_14.length = 65 then c1 (qh h_77 (C 59 [(.agg l_5), (.agg l_14)] h_77)) fun y_79 h_78 => asA y_79 fun l_80 => if 0 = 0 ∧ l_14.length = 65 then if alike l_80 ([Cell.int .i64 0] ++ List.replicate 64 (Cell.int .u64 0)) = true ∧ alike l_14 ([Cell.int .i64 0] ++ List.replicate 64 (Cell.int .u64 0)) = true then some ((decide (l_80 = l_14)), h_77) else none else none else none else none) false h_77 fun b_81 h_82 => scK b_81 true (if 0 = 0 ∧ l_5.length = 65 then if 0 = 0 ∧ l_5.length = 65 then c1 (qh h_82 (C 59 [(.agg l_5), (.agg l_5)] h_82)) fun y_84 h_83 => asA y_84 fun l_85 => if 0 = 0 ∧ l_5.length = 65 then if alike l_85 ([Cell.int .i64 0] ++ List.replicate 64 (Cell.int .u64 0)) = true ∧ alike l_5 ([Cell.int .i64 0] ++ List.replicate 64 (Cell.int .u64 0)) = true then some ((decide (l_85 = l_5)), h_82) else none else none else none else none) false h_82 fun b_86 h_87 => scK b_86 true (c1 (qh h_87 (C 55 [] h_87)) fun y_89 h_88 => asB y_89 fun b_90 => some (b_90, h_87)) false h_87 fun b_91 h_92 => some ([(.c (.bool b_91))], h_92) else none else none else none else none else none else none else none else none else none else none else none := by kernel_rfl


end Jq

namespace Jq
open Go

/- jacquard/jacquardref6.Closure: 6 -/
def jacquardref6_Closure_k2 (C : CallF) (L : LoopF) (G : Glo) (h0 : AHeap) : Ex → St → Option (List AV × AHeap) :=
  kSeq (fun st => jacquardref6_Closure_p1.exec C L G st (jacquardref6_Closure.fin G h0)) (jacquardref6_Closure.fin G h0)
def jacquardref6_Closure_k3 (C : CallF) (L : LoopF) (G : Glo) (h0 : AHeap) : Ex → St → Option (List AV × AHeap) :=
  kBlk 0 (jacquardref6_Closure_k2 C L G h0)
def jacquardref6_Closure_s2 (k1 : Nat) (N1 : Nat) (o1 : Nat) (a3 : Int) (s0 : List Cell) (h : AHeap) : St := ⟨[.top, .v (.c (.ptr k1 N1 o1)), .loc 0 0, .v (.c (.int .i64 a3)), .top, .top, .top, .top, .top, .top, .top, .top, .top, .top, .top, .top, .top, .top, .top, .top, .top, .top, .top, .top, .top, .top, .top, .top, .top, .top, .top, .top, .top], [some s0], h⟩
def jacquardref6_Closure_F2 (C : CallF) (L : LoopF) (G : Glo) : St → Option (Ex × St) :=
  roundF (fun st f => jacquardref6_Closure_b2.exec C L G st f) [1, 2, 3] [0] [(1, [1, 2], [0])]
def jacquardref6_Closure_k4 (C : CallF) (L : LoopF) (G : Glo) : Ex → St → Option (Ex × St) :=
  kSeq (fun st => jacquardref6_Closure_p2.exec C L G st (kLoop [1, 2, 3] [0] [(1, [1, 2], [0])])) (kLoop [1, 2, 3] [0] [(1, [1, 2], [0])])
def jacquardref6_Closure_k5 (C : CallF) (L : LoopF) (G : Glo) : Ex → St → Option (Ex × St) :=
  kBlk 1 (jacquardref6_Closure_k4 C L G)
def jacquardref6_Closure_k6 (C : CallF) (L : LoopF) (G : Glo) : Ex → St → Option (Ex × St) :=
  kBlk 2 (jacquardref6_Closure_k5 C L G)
def jacquardref6_Closure_s1 (k1 : Nat) (N1 : Nat) (o1 : Nat) (a3 : Int) (a4 : Int) (s0 : List Cell) (h : AHeap) : St := ⟨[.top, .v (.c (.ptr k1 N1 o1)), .loc 0 0, .v (.c (.int .i64 a3)), .v (.c (.int .i64 a4)), .top, .top, .top, .top, .top, .top, .top, .top, .top, .top, .top, .top, .top, .top, .top, .top, .top, .top, .top, .top, .top, .top, .top, .top, .top, .top, .top, .top], [some s0], h⟩
def jacquardref6_Closure_F1 (C : CallF) (L : LoopF) (G : Glo) : St → Option (Ex × St) :=
  roundF (fun st f => jacquardref6_Closure_b1.exec C L G st f) [1, 2, 3, 4] [0] [(3, [1, 2, 3], [0])]
def jacquardref6_Closure_x1_3 (k1 : Nat) (N1 : Nat) (o1 : Nat) (a3 : Int) (s0 : List Cell) (h : AHeap) : St := ⟨[.top, .v (.c (.ptr k1 N1 o1)), .loc 0 0, .v (.c (.int .i64 a3)), .top, .top, .top, .top, .top, .top, .top, .top, .top, .top, .top, .top, .top, .top, .top, .top, .top, .top, .top, .top, .top, .top, .top, .top, .top, .top, .top, .top, .top], [some s0], h⟩
def jacquardref6_Closure_x2_1 (k1 : Nat) (N1 : Nat) (o1 : Nat) (s0 : List Cell) (h : AHeap) : St := ⟨[.top, .v (.c (.ptr k1 N1 o1)), .loc 0 0, .top, .top, .top, .top, .top, .top, .top, .top, .top, .top, .top, .top, .top, .top, .top, .top, .top, .top, .top, .top, .top, .top, .top, .top, .top, .top, .top, .top, .top, .top], [some s0], h⟩
theorem jacquardref6_Closure_r1 (C : CallF) (L : LoopF) (G : Glo) (k1 : Nat) (N1 : Nat) (o1 : Nat) (a3 : Int) (a4 : Int) (s0 : List Cell) (h : AHeap) :
    jacquardref6_Closure_F1 C L G (jacquardref6_Closure_s1 k1 N1 o1 a3 a4 s0 h) =
    rdH h k1 N1 fun l_4 => atK l_4 (o1 + 0) fun q_5 => asI .i64 (.c q_5) fun n_6 => if (decide (a4 < n_6)) = true then c1 (C 7 [(.c (.ptr k1 N1 o1)), (.c (.int .i64 a4)), (.c (.int .i64 a3))] h) fun y_8 h_7 => asB y_8 fun b_9 => if b_9 = true then if 0 ≤ a4 ∧ a4 < ((64 : Nat) : Int) then rdH h_7 k1 N1 fun l_10 => atK l_10 ((o1 + 1) + ((Int.toNat a4) * 1)) fun q_11 => asI .u64 (.c q_11) fun n_12 => if 0 ≤ a3 ∧ a3 < ((64 : Nat) : Int) then rdH h_7 k1 N1 fun l_13 => atK l_13 ((o1 + 1) + ((Int.toNat a3) * 1)) fun q_14 => asI .u64 (.c q_14) fun n_15 => if 0 ≤ a4 ∧ a4 < ((64 : Nat) : Int) then rdH h_7 k1 N1 fun l_16 => if ((o1 + 1) + ((Int.toNat a4) * 1)) < l_16.length then putH h_7 k1 (l_16.set ((o1 + 1) + ((Int.toNat a4) * 1)) (.int .u64 (G.bor .u64 n_12 n_15))) fun h_17 => some (.normal, (jacquardref6_Closure_s1 k1 N1 o1 a3 (G.wrap .i64 (a4 + 1)) s0 h_17)) else none else none else none else none else some (.normal, (jacquardref6_Closure_s1 k1 N1 o1 a3 (G.wrap .i64 (a4 + 1)) s0 h_7)) else some ((.exit 2), (jacquardref6_Closure_x1_3 k1 N1 o1 a3 s0 h)) := by kernel_rfl
theorem jacquardref6_Closure_e1_3 (C : CallF) (L : LoopF) (G : Glo) (k1 : Nat) (N1 : Nat) (o1 : Nat) (a3 : Int) (s0 : List Cell) (h : AHeap) :
    (jacquardref6_Closure_k6 C L G) (.exit 2) (jacquardref6_Closure_x1_3 k1 N1 o1 a3 s0 h) =
    some (.normal, (jacquardref6_Closure_s2 k1 N1 o1 (G.wrap .i64 (a3 + 1)) s0 h)) := by kernel_rfl
theorem jacquardref6_Closure_r2 (C : CallF) (L : LoopF) (G : Glo) (k1 : Nat) (N1 : Nat) (o1 : Nat) (a3 : Int) (s0 : List Cell) (h : AHeap) :
    jacquardref6_Closure_F2 C L G (jacquardref6_Closure_s2 k1 N1 o1 a3 s0 h) =
    rdH h k1 N1 fun l_1 => atK l_1 (o1 + 0) fun q_2 => asI .i64 (.c q_2) fun n_3 => if (decide (a3 < n_3)) = true then (L (jacquardref6_Closure_F1 C L G) (jacquardref6_Closure_s1 k1 N1 o1 a3 0 s0 h)).bind fun p_18 => (jacquardref6_Closure_k6 C L G) p_18.1 p_18.2 else some ((.exit 0), (jacquardref6_Closure_x2_1 k1 N1 o1 s0 h)) := by kernel_rfl
theorem jacquardref6_Closure_e2_1 (C : CallF) (L : LoopF) (G : Glo) (h0 : AHeap) (k1 : Nat) (N1 : Nat) (o1 : Nat) (s0 : List Cell) (h : AHeap) :
    (jacquardref6_Closure_k3 C L G h0) (.exit 0) (jacquardref6_Closure_x2_1 k1 N1 o1 s0 h) =
    rdH h k1 N1 fun l_19 => if o1 = 0 ∧ l_19.length = 65 then if 0 = 0 ∧ s0.length = 65 ∧ l_19.length = 65 then if 0 = 0 ∧ l_19.length = 65 then finish true h0 [(.agg l_19)] h else none else none else none := by kernel_rfl
set_option maxRecDepth 100000 in
theorem jacquardref6_Closure_eq (C : CallF) (L : LoopF) (G : Glo) (l0 : List Cell) (h0 : AHeap) :
    jacquardref6_Closure.body C L G [(.agg l0)] h0 =
    (L (jacquardref6_Closure_F2 C L G) (jacquardref6_Closure_s2 h0.length ((AV.cells (.agg l0)).length) 0 0 ([Cell.int .i64 0] ++ List.replicate 64 (Cell.int .u64 0)) (h0 ++ [some (Blk.mk true 0 (AV.cells (.agg l0)))]))).bind fun p_20 => (jacquardref6_Closure_k3 C L G h0) p_20.1 p_20.2 := by kernel_rfl

/- (*jacquard/jacquardref6.Rel).Has: 7 -/
set_option maxRecDepth 100000 in
theorem jacquardref6_Rel_Has_eq (C : CallF) (L : LoopF) (G : Glo) (k0 : Nat) (N0 : Nat) (o0 : Nat) (a1 : Int) (a2 : Int) (h0 : AHeap) :
    jacquardref6_Rel_Has.body C L G [(.c (.ptr k0 N0 o0)), (.c (.int .i64 a1)), (.c (.int .i64 a2))] h0 =
    if 0 ≤ a1 ∧ a1 < ((64 : Nat) : Int) then rdH h0 k0 N0 fun l_1 => atK l_1 ((o0 + 1) + ((Int.toNat a1) * 1)) fun q_2 => asI .u64 (.c q_2) fun n_3 => if a2 < 0 then none else some ([(.c (.bool ((G.band .u64 (G.shr .u64 n_3 a2) 1) == 1)))], h0) else none := by kernel_rfl

/- (*jacquard/jacquardref6.Rel).Add: 13 -/
set_option maxRecDepth 100000 in
theorem jacquardref6_Rel_Add_eq (C : CallF) (L : LoopF) (G : Glo) (k0 : Nat) (N0 : Nat) (o0 : Nat) (a1 : Int) (a2 : Int) (h0 : AHeap) :
    jacquardref6_Rel_Add.body C L G [(.c (.ptr k0 N0 o0)), (.c (.int .i64 a1)), (.c (.int .i64 a2))] h0 =
    if 0 ≤ a1 ∧ a1 < ((64 : Nat) : Int) then rdH h0 k0 N0 fun l_1 => atK l_1 ((o0 + 1) + ((Int.toNat a1) * 1)) fun q_2 => asI .u64 (.c q_2) fun n_3 => if a2 < 0 then none else if 0 ≤ a1 ∧ a1 < ((64 : Nat) : Int) then rdH h0 k0 N0 fun l_4 => if ((o0 + 1) + ((Int.toNat a1) * 1)) < l_4.length then putH h0 k0 (l_4.set ((o0 + 1) + ((Int.toNat a1) * 1)) (.int .u64 (G.bor .u64 n_3 (G.shl .u64 1 a2)))) fun h_5 => some ([], h_5) else none else none else none := by kernel_rfl

/- jacquard/jacquardref6.Acyclic: 71 -/
def jacquardref6_Acyclic_k2 (C : CallF) (L : LoopF) (G : Glo) (h0 : AHeap) : Ex → St → Option (List AV × AHeap) :=
  kSeq (fun st => jacquardref6_Acyclic_p1.exec C L G st (jacquardref6_Acyclic.fin G h0)) (jacquardref6_Acyclic.fin G h0)
def jacquardref6_Acyclic_k3 (C : CallF) (L : LoopF) (G : Glo) (h0 : AHeap) : Ex → St → Option (List AV × AHeap) :=
  kBlk 0 (jacquardref6_Acyclic_k2 C L G h0)
def jacquardref6_Acyclic_s1 (k3 : Nat) (N3 : Nat) (o3 : Nat) (a4 : Int) (s0 : List Cell) (h : AHeap) : St := ⟨[.top, .loc 0 0, .top, .v (.c (.ptr k3 N3 o3)), .v (.c (.int .i64 a4)), .top, .top, .top, .top, .top, .top, .top, .top, .top, .top, .top], [some s0], h⟩
def jacquardref6_Acyclic_F1 (C : CallF) (L : LoopF) (G : Glo) : St → Option (Ex × St) :=
  roundF (fun st f => jacquardref6_Acyclic_b1.exec C L G st f) [1, 3, 4] [0] [(0, [2], []), (1, [], [])]
def jacquardref6_Acyclic_x1_0 (b2 : Bool) (h : AHeap) : St := ⟨[.top, .top, .v (.c (.bool b2)), .top, .top, .top, .top, .top, .top, .top, .top, .top, .top, .top, .top, .top], [none], h⟩
def jacquardref6_Acyclic_x1_1 (h : AHeap) : St := ⟨[.top, .top, .top, .top, .top, .top, .top, .top, .top, .top, .top, .top, .top, .top, .top, .top], [none], h⟩
theorem jacquardref6_Acyclic_r1 (C : CallF) (L : LoopF) (G : Glo) (k3 : Nat) (N3 : Nat) (o3 : Nat) (a4 : Int) (s0 : List Cell) (h : AHeap) :
    jacquardref6_Acyclic_F1 C L G (jacquardref6_Acyclic_s1 k3 N3 o3 a4 s0 h) =
    atK s0 0 fun q_6 => asI .i64 (.c q_6) fun n_7 => if (decide (a4 < n_7)) = true then c1 (C 7 [(.c (.ptr k3 N3 o3)), (.c (.int .i64 a4)), (.c (.int .i64 a4))] h) fun y_9 h_8 => asB y_9 fun b_10 => if b_10 = true then some (.ret, (jacquardref6_Acyclic_x1_0 false h_8)) else some (.normal, (jacquardref6_Acyclic_s1 k3 N3 o3 (G.wrap .i64 (a4 + 1)) s0 h_8)) else some ((.exit 0), (jacquardref6_Acyclic_x1_1 h)) := by kernel_rfl
theorem jacquardref6_Acyclic_e1_0 (C : CallF) (L : LoopF) (G : Glo) (h0 : AHeap) (b2 : Bool) (h : AHeap) :
    (jacquardref6_Acyclic_k3 C L G h0) .ret (jacquardref6_Acyclic_x1_0 b2 h) =
    finish true h0 [(.c (.bool b2))] h := by kernel_rfl
theorem jacquardref6_Acyclic_e1_1 (C : CallF) (L : LoopF) (G : Glo) (h0 : AHeap) (h : AHeap) :
    (jacquardref6_Acyclic_k3 C L G h0) (.exit 0) (jacquardref6_Acyclic_x1_1 h) =
    finish true h0 [(.c (.bool true))] h := by kernel_rfl
set_option maxRecDepth 100000 in
theorem jacquardref6_Acyclic_eq (C : CallF) (L : LoopF) (G : Glo) (l0 : List Cell) (h0 : AHeap) :
    jacquardref6_Acyclic.body C L G [(.agg l0)] h0 =
    if 0 = 0 ∧ l0.length = 65 then c1 (C 6 [(.agg l0)] h0) fun y_2 h_1 => asA y_2 fun l_3 => rdH (h_1 ++ [some (Blk.mk true 0 ([Cell.int .i64 0] ++ List.replicate 64 (Cell.int .u64 0)))]) h_1.length (([Cell.int .i64 0] ++ List.replicate 64 (Cell.int .u64 0)).length) fun l_4 => if 0 = 0 ∧ l_4.length = 65 ∧ l_3.length = 65 then putH (h_1 ++ [some (Blk.mk true 0 ([Cell.int .i64 0] ++ List.replicate 64 (Cell.int .u64 0)))]) h_1.length l_3 fun h_5 => (L (jacquardref6_Acyclic_F1 C L G) (jacquardref6_Acyclic_s1 h_1.length (([Cell.int .i64 0] ++ List.replicate 64 (Cell.int .u64 0)).length) 0 0 l0 h_5)).bind fun p_11 => (jacquardref6_Acyclic_k3 C L G h0) p_11.1 p_11.2 else none else none := by kernel_rfl


end Jq

/- The statements of relations: what their helpers come to. -/
namespace Jq
open Go

/-- A relation of pairs. -/
def ofR (n : Nat) (l : List (Int × Int)) : Nat → Nat := l.foldl (fun f p => addR n f p.1 p.2) fun _ => 0

theorem words_of (n : Nat) (l : List (Int × Int)) : Words (ofR n l) := by
  unfold ofR
  have : ∀ (l : List (Int × Int)) (f : Nat → Nat), Words f → Words (l.foldl (fun f p => addR n f p.1 p.2) f) := by
    intro l
    induction l with
    | nil => exact fun f h => h
    | cons p l ih => exact fun f h => ih _ (words_add h _ _)
  exact this l _ words_zero

theorem of_snoc (n : Nat) (l : List (Int × Int)) (p : Int × Int) : ofR n (l ++ [p]) = addR n (ofR n l) p.1 p.2 := by
  unfold ofR; rw [List.foldl_append]; rfl

theorem take_succ {α : Type} {l : List α} {i : Nat} {p : α} (h : l[i]? = some p) : l.take (i + 1) = l.take i ++ [p] := by
  rw [List.take_add_one, h]; rfl

variable {E : Env}

theorem refAdd_R (hE : jacquardref6_Rel_Add_In E) {n : Nat} (hn : n ≤ 64) {f : Nat → Nat} (hf : Words f) {a b : Int} (ha : inR n a = true) (hb : inR n b = true) {k : Nat} {h : AHeap} (hk : blk? h k = some ⟨true, 0, relL n f⟩) :
    R E 13 [.c (.ptr k 65 0), .c (.int .i64 a), .c (.int .i64 b)] h = some ([], setBlk h k (some ⟨true, 0, relL n (addR n f a b)⟩)) := by
  refine R_intro hE.fn ?_
  have h2 : 0 ≤ a ∧ a < n := by simpa [inR] using ha
  have h3 : 0 ≤ b ∧ b < n := by simpa [inR] using hb
  have q1 : 0 ≤ a ∧ a < ((64 : Nat) : Int) := by omega
  obtain ⟨m, rfl⟩ := Int.eq_ofNat_of_zero_le h3.1
  have hbit : bitI (m : Int) = 2 ^ m := by unfold bitI; rw [if_pos (by omega)]; simp
  rw [jacquardref6_Rel_Add_eq, if_pos q1, rdH_ok hk (relL_len n f)]
  dsimp only
  rw [show 0 + 1 + a.toNat * 1 = 1 + a.toNat by omega, atK_ok (relL_row (by omega)), asI_ok, if_neg (by omega), if_pos q1, rdH_ok hk (relL_len n f)]
  dsimp only
  rw [if_pos (by rw [relL_len]; omega), g_shl_one (by omega), ← hbit, g_bor (hf _) (bitI_lt _), relL_set, putH_ok hk rfl]
  unfold addR
  rw [ha, hb]; rfl

theorem inR_le {n : Nat} {a : Int} : inR n a = (decide (a ≥ 0) && decide (a < n)) := rfl

theorem Of_R (hE : jacquardlaw8_Of_In E) (a : Int) {x : Cell} {l : List (Int × Int)} {h : AHeap} (hx : SlAt h x 2 (pairC l) l.length) (hlow : Low h.length x) :
    R E 1 [.c (.int .i64 a), .c x] h = some ([.agg (relL (clamp a) (ofR (clamp a) (l.take 200))), .agg (relL (clamp a) (ofR (clamp a) (l.take 200)))], h) := by
  refine R_intro hE.fn ?_
  have hn : clamp a ≤ 64 := by unfold clamp; omega
  generalize hN : clamp a = n at hn ⊢
  have hv : (if 64 < (if 0 > a then 0 else a) then 64 else (if 0 > a then 0 else a)) = (n : Int) := by
    rw [← hN]; unfold clamp; split <;> split <;> omega
  rw [jacquardlaw8_Of_eq, New_R hE.c9, c1_ok, asA_ok, if_pos ⟨rfl, zero_len, relL_len _ _⟩, hN]
  simp only [hv, zero_rel, relL_len]
  rw [rdH_ok (blk_new h _) (relL_len _ _)]
  dsimp only
  rw [if_pos ⟨by trivial, relL_len _ _, by rw [splice_zero]; exact relL_len _ _⟩, splice_zero, putH_ok (blk_new h _) rfl, setBlk_last]
  dsimp only
  let g : Nat → St := fun i => jacquardlaw8_Of_s1 x h.length 65 0 (i : Int) (relL 0 fun _ => 0) (relL 0 fun _ => 0) (relL n (ofR n (l.take i))) (h ++ [some ⟨true, 0, relL n (ofR n (l.take i))⟩])
  have hk : ∀ t : AHeap, SlAt (h ++ t) x 2 (pairC l) l.length := fun t => hx.keep hlow (Kp.app t (Nat.le_refl _))
  have loop : Lim (jacquardlaw8_Of_F1 (R E) Lim E.glob) (g 0) = some (.exit 0, jacquardlaw8_Of_x1_1 h.length 65 0 (relL 0 fun _ => 0) (relL 0 fun _ => 0) (relL n (ofR n (l.take 200))) (h ++ [some ⟨true, 0, relL n (ofR n (l.take 200))⟩])) := by
    refine Lim_count g 0 (min l.length 200) (by omega) (fun i _ hi => ?_) ?_
    · obtain ⟨p, hp⟩ : ∃ p, l[i]? = some p := ⟨l[i], by simp⟩
      obtain ⟨g1, g2⟩ := pairC_get l i p hp
      have hil : i < l.length := by omega
      have hw := words_of n (l.take i)
      have hki := hk [some ⟨true, 0, relL n (ofR n (l.take i))⟩]
      show jacquardlaw8_Of_F1 (R E) Lim E.glob (jacquardlaw8_Of_s1 x h.length 65 0 (i : Int) _ _ _ _) = _
      rw [jacquardlaw8_Of_r1, hx.len, scK_and, show (decide ((i : Int) < (l.length : Int)) && decide ((i : Int) < 200)) = true by simp; omega]
      simp only [if_true]
      rw [hki.get hil (by omega) g1, asI_ok, hki.get hil (by omega) g2, asI_ok, if_pos ⟨by trivial, relL_len _ _⟩, Add_R hE.c10 hn hw, c1_ok, asA_ok, if_pos ⟨by trivial, relL_len _ _, relL_len _ _⟩]
      rw [rdH_ok (blk_new h _) (relL_len _ _), atK_ok (i := 0 + 0) (relL_zero _ _), asI_ok, scK_and, ← inR_le, scK_and, rdH_ok (blk_new h _) (relL_len _ _), atK_ok (i := 0 + 0) (relL_zero _ _), asI_ok, scK_and, Bool.and_assoc, ← inR_le]
      have hnext : g (i + 1) = jacquardlaw8_Of_s1 x h.length 65 0 ((i + 1 : Nat) : Int) (relL 0 fun _ => 0) (relL 0 fun _ => 0) (relL n (addR n (ofR n (l.take i)) p.1 p.2)) (h ++ [some ⟨true, 0, relL n (addR n (ofR n (l.take i)) p.1 p.2)⟩]) := by
        show jacquardlaw8_Of_s1 x h.length 65 0 ((i + 1 : Nat) : Int) _ _ _ _ = _
        rw [take_succ hp, of_snoc]
      rw [hnext]
      by_cases hin : (inR n p.1 && inR n p.2) = true
      · rw [hin]
        simp only [Bool.and_eq_true] at hin
        simp only [if_true]
        rw [refAdd_R hE.c13 hn hw hin.1 hin.2 (blk_new h _), c0_ok, setBlk_last, g_succ (by omega)]
      · have hadd : addR n (ofR n (l.take i)) p.1 p.2 = ofR n (l.take i) := by unfold addR; rw [if_neg hin]
        rw [show (inR n p.1 && inR n p.2) = false by simpa using hin, hadd]
        simp only [Bool.false_eq_true, if_false]
        rw [g_succ (by omega)]
    · refine Lim_exit ?_
      show jacquardlaw8_Of_F1 (R E) Lim E.glob (jacquardlaw8_Of_s1 x h.length 65 0 ((min l.length 200 : Nat) : Int) _ _ _ _) = _
      rw [jacquardlaw8_Of_r1, hx.len, scK_and, show (decide (((min l.length 200 : Nat) : Int) < (l.length : Int)) && decide (((min l.length 200 : Nat) : Int) < 200)) = false by simp; omega]
      simp only [Bool.false_eq_true, if_false]
      have : l.take (min l.length 200) = l.take 200 := by rw [Nat.min_comm, ← List.take_take, List.take_length]
      rw [this]
  have start : g 0 = jacquardlaw8_Of_s1 x h.length 65 0 0 (relL 0 fun _ => 0) (relL 0 fun _ => 0) (relL n fun _ => 0) (h ++ [some ⟨true, 0, relL n fun _ => 0⟩]) := rfl
  rw [start] at loop
  rw [loop, bind_ok, jacquardlaw8_Of_e1_1, if_pos ⟨rfl, relL_len _ _⟩, rdH_ok (blk_new h _) (relL_len _ _)]
  simp only [relL_len, and_self, if_true]
  unfold finish
  have hgc : gcOk h (h ++ [some ⟨true, 0, relL n (ofR n (l.take 200))⟩]) [.agg (relL n (ofR n (l.take 200))), .agg (relL n (ofR n (l.take 200)))] = true := by
    have hav : ∀ (m k : Nat) (f : Nat → Nat), avOk m (.agg (relL k f)) = true := by
      intro m k f
      simp [avOk, AV.cells, relL, idOk]
    simp only [gcOk, Bool.and_eq_true, List.all_cons, List.all_nil, hav, decide_eq_true_eq, List.length_append, List.all_eq_true, List.mem_range, Bool.or_eq_true]
    exact ⟨⟨by omega, by trivial⟩, fun k hk => .inl (List.getElem?_append_left hk)⟩
  simp only [hgc, if_true, List.take_left]

theorem awake8_R (hE : jacquardlaw8_awake_In E) (h : AHeap) : R E 55 [] h = some ([.c (.bool true)], h) := by
  refine R_intro hE.fn ?_
  have w0 : Words fun _ => 0 := words_zero
  have w1 : Words (addR 3 (fun _ => 0) 0 1) := words_add w0 0 1
  have w2 : Words (addR 3 (addR 3 (fun _ => 0) 0 1) 1 2) := words_add w1 1 2
  have w3 := words_add (n := 3) w2 2 0
  have w4 := words_clK w2 3 3
  have c3 : clamp 3 = 3 := rfl
  have b1 : hasR 3 (clK 3 (addR 3 (addR 3 (fun _ => 0) 0 1) 1 2) 3) 0 2 = true := by decide +kernel
  have b2 : hasR 3 (addR 3 (addR 3 (fun _ => 0) 0 1) 1 2) 0 2 = false := by decide +kernel
  have b3 : acycR 3 (addR 3 (addR 3 (fun _ => 0) 0 1) 1 2) = true := by decide +kernel
  have b4 : acycR 3 (addR 3 (addR 3 (addR 3 (fun _ => 0) 0 1) 1 2) 2 0) = false := by decide +kernel
  rw [jacquardlaw8_awake_eq, New_R hE.c9, c1_ok, asA_ok, c3, Add_R hE.c10 (by omega) w0, c1_ok, asA_ok, Add_R hE.c10 (by omega) w1, c1_ok, asA_ok, if_pos ⟨rfl, zero_len, relL_len _ _⟩, if_pos ⟨rfl, relL_len _ _⟩,
    Closure_R hE.c12 (by omega) w2, c1_ok, asA_ok, HasR_R hE.c3 (by omega) w4, c1_ok, asB_ok, b1, scK_ok, if_pos ⟨rfl, relL_len _ _⟩, HasR_R hE.c3 (by omega) w2, c1_ok, asB_ok, b2, bind_ok]
  dsimp only
  rw [show (!false) = true from rfl, scK_ok, if_pos ⟨rfl, relL_len _ _⟩, Acyclic_R hE.c26 (by omega) w2, c1_ok, asB_ok, b3, bind_ok]
  dsimp only
  rw [scK_ok, if_pos ⟨rfl, relL_len _ _⟩, Add_R hE.c10 (by omega) w2, c1_ok, asA_ok, Acyclic_R hE.c26 (by omega) w3, c1_ok, asB_ok, b4, bind_ok]
  dsimp only
  rw [show (!false) = true from rfl, scK_ok, if_pos ⟨rfl, relL_len _ _⟩, N_R hE.c14, c1_ok, asI_ok, bind_ok]
  rfl

/- What pairs make. -/
theorem addR_bit {n : Nat} (hn : n ≤ 64) (f : Nat → Nat) (x y : Int) (a b : Nat) : (addR n f x y a).testBit b = ((f a).testBit b || (inR n x && inR n y && decide (x = a) && decide (y = b))) := by
  unfold addR
  by_cases hin : (inR n x && inR n y) = true
  · rw [if_pos hin, hin, Bool.true_and]
    simp only [Bool.and_eq_true] at hin
    have hx : 0 ≤ x ∧ x < n := by simpa [inR] using hin.1
    have hy : 0 ≤ y ∧ y < n := by simpa [inR] using hin.2
    unfold updF
    by_cases ha : a = x.toNat
    · rw [if_pos ha, Nat.testBit_or, testBit_bitI, ← ha]
      have h1 : decide (x = (a : Int)) = true := by simp; omega
      rw [h1, Bool.true_and]
      by_cases hb : y = (b : Int)
      · have : b < 64 := by omega
        simp [hb, this]
      · simp [hb]
    · rw [if_neg ha]
      have h1 : decide (x = (a : Int)) = false := by simp; omega
      rw [h1, Bool.false_and, Bool.or_false]
  · rw [if_neg hin, show (inR n x && inR n y) = false by simpa using hin]; simp

theorem of_bit {n : Nat} (hn : n ≤ 64) (l : List (Int × Int)) (a b : Nat) : (ofR n l a).testBit b = true ↔ ∃ p ∈ l, inR n p.1 = true ∧ inR n p.2 = true ∧ p.1 = a ∧ p.2 = b := by
  have key : ∀ (l : List (Int × Int)) (f : Nat → Nat), ((l.foldl (fun f p => addR n f p.1 p.2) f) a).testBit b = true ↔ ((f a).testBit b = true ∨ ∃ p ∈ l, inR n p.1 = true ∧ inR n p.2 = true ∧ p.1 = a ∧ p.2 = b) := by
    intro l
    induction l with
    | nil => intro f; simp
    | cons p l ih =>
      intro f
      rw [List.foldl_cons, ih, addR_bit hn, Bool.or_eq_true]
      simp only [List.mem_cons, Bool.and_eq_true, decide_eq_true_eq]
      constructor
      · rintro ((h | ⟨⟨⟨h1, h2⟩, h3⟩, h4⟩) | ⟨q, hq, h⟩)
        · exact .inl h
        · exact .inr ⟨p, .inl rfl, h1, h2, h3, h4⟩
        · exact .inr ⟨q, .inr hq, h⟩
      · rintro (h | ⟨q, rfl | hq, h⟩)
        · exact .inl (.inl h)
        · exact .inl (.inr ⟨⟨⟨h.1, h.2.1⟩, h.2.2.1⟩, h.2.2.2⟩)
        · exact .inr ⟨q, hq, h⟩
  unfold ofR
  rw [key]; simp

theorem inR_nat {n a : Nat} : inR n (a : Int) = decide (a < n) := by
  unfold inR
  rw [Bool.eq_iff_iff]; simp

end Jq

/- Relations: joining, meeting, putting behind one another, turning, cutting down, pairs. -/
namespace Jq
open Go

/-- The word of these numbers. -/
def mkN (p : Nat → Bool) : Nat := (List.range 64).foldl (fun a j => if p j then a ||| 2 ^ j else a) 0

theorem mkN_aux (p : Nat → Bool) : ∀ m, m ≤ 64 → ((List.range m).foldl (fun a j => if p j then a ||| 2 ^ j else a) 0) < 2 ^ 64 ∧ ∀ j, ((List.range m).foldl (fun a j => if p j then a ||| 2 ^ j else a) 0).testBit j = (decide (j < m) && p j)
  | 0, _ => ⟨by simp, fun j => by simp⟩
  | m + 1, hm => by
    obtain ⟨h1, h2⟩ := mkN_aux p m (by omega)
    rw [List.range_succ, List.foldl_append, List.foldl_cons, List.foldl_nil]
    have hp : 2 ^ m < 2 ^ 64 := Nat.pow_lt_pow_right (by omega) (by omega)
    by_cases hpm : p m = true
    · rw [if_pos hpm]
      refine ⟨or_lt h1 hp, fun j => ?_⟩
      rw [Nat.testBit_or, h2, Nat.testBit_two_pow]
      by_cases hj : j = m
      · subst hj; simp [hpm]
      · rw [show decide (m = j) = false by simp; omega, Bool.or_false]
        congr 1
        rw [Bool.eq_iff_iff]; simp; omega
    · rw [if_neg hpm]
      refine ⟨h1, fun j => ?_⟩
      rw [h2]
      by_cases hj : j = m
      · subst hj; simp [hpm]
      · congr 1
        rw [Bool.eq_iff_iff]; simp; omega

theorem mkN_lt (p : Nat → Bool) : mkN p < 2 ^ 64 := (mkN_aux p 64 (Nat.le_refl _)).1
theorem testBit_mkN (p : Nat → Bool) (j : Nat) : (mkN p).testBit j = (decide (j < 64) && p j) := (mkN_aux p 64 (Nat.le_refl _)).2 j

theorem words_mkN (p : Nat → Nat → Bool) : Words fun i => mkN (p i) := fun _ => mkN_lt _

theorem eq_of_bits {a b : Nat} (ha : a < 2 ^ 64) (hb : b < 2 ^ 64) (h : ∀ j, j < 64 → a.testBit j = b.testBit j) : a = b := by
  refine Nat.eq_of_testBit_eq fun j => ?_
  rcases Nat.lt_or_ge j 64 with hj | hj
  · exact h j hj
  · have h64 : 2 ^ 64 ≤ 2 ^ j := Nat.pow_le_pow_right (by omega) hj
    rw [Nat.testBit_lt_two_pow (Nat.lt_of_lt_of_le ha h64), Nat.testBit_lt_two_pow (Nat.lt_of_lt_of_le hb h64)]

theorem relL_ext {n m : Nat} {f g : Nat → Nat} (hn : n = m) (hf : Words f) (hg : Words g) (h : ∀ i j, i < 64 → j < 64 → (f i).testBit j = (g i).testBit j) : relL n f = relL m g := by
  subst hn
  exact relL_congr fun i hi => eq_of_bits (hf i) (hg i) fun j hj => h i j hi hj

/-- Rows told so far. -/
def upF (T : Nat → Nat) (i : Nat) : Nat → Nat := fun j => if j < i then T j else 0

theorem upF_succ (T : Nat → Nat) (i : Nat) : updF (upF T i) i (T i) = upF T (i + 1) := by
  funext j
  unfold updF upF
  by_cases h : j = i
  · subst h; rw [if_pos rfl, if_pos (by omega)]
  · rw [if_neg h]
    by_cases h2 : j < i
    · rw [if_pos h2, if_pos (by omega)]
    · rw [if_neg h2, if_neg (by omega)]

theorem upF_zero (T : Nat → Nat) : upF T 0 = fun _ => 0 := by funext j; unfold upF; rw [if_neg (by omega)]

theorem words_upF {T : Nat → Nat} (h : Words T) (i : Nat) : Words (upF T i) := fun j => by unfold upF; split; exact h j; omega

theorem all_bit (n j : Nat) : (2 ^ n - 1).testBit j = decide (j < n) := Nat.testBit_two_pow_sub_one _ _

theorem all_lt {n : Nat} (hn : n ≤ 64) : 2 ^ n - 1 < 2 ^ 64 := by
  have : 2 ^ n ≤ 2 ^ 64 := Nat.pow_le_pow_right (by omega) hn
  have := Nat.two_pow_pos n
  omega

variable {E : Env}

theorem upto_n (hE : set_Upto_In E) {n : Nat} (hn : n ≤ 64) (h : AHeap) : R E 61 [.c (.int .i64 n)] h = some ([.c (.int .u64 ((2 ^ n - 1 : Nat) : Int))], h) := by
  rw [Upto_R hE, Int.toNat_natCast, Nat.min_eq_left hn]

theorem min_nat (n m : Nat) : (if (m : Int) < (n : Int) then (m : Int) else (n : Int)) = ((min n m : Nat) : Int) := by split <;> omega

theorem clamp_nat {n : Nat} (hn : n ≤ 64) : clamp (n : Int) = n := by unfold clamp; omega

/-- Two, row by row, over the lesser. -/
theorem both_R (hE : rel_both_In E) {n m : Nat} (hn : n ≤ 64) (hm : m ≤ 64) {f g : Nat → Nat} (hf : Words f) (hg : Words g) (k : Nat) (op : Nat → Nat → Nat) (hop : ∀ a b, a < 2 ^ 64 → b < 2 ^ 64 → op a b < 2 ^ 64 ∧ ∀ h, R E k [.c (.int .u64 (a : Nat)), .c (.int .u64 (b : Nat))] h = some ([.c (.int .u64 ((op a b : Nat) : Int))], h)) (h : AHeap) :
    R E 73 [.agg (relL n f), .agg (relL m g), .c (.fn k [])] h = some ([.agg (relL (min n m) (upF (fun i => op (f i) (g i) &&& (2 ^ min n m - 1)) (min n m)))], h) := by
  refine R_intro hE.fn ?_
  have hmn : min n m ≤ 64 := by omega
  rw [rel_both_eq, atK_ok (relL_zero _ _), asI_ok, atK_ok (relL_zero _ _), asI_ok, min_nat, New_R hE.c9, c1_ok, asA_ok, clamp_nat hmn]
  generalize min n m = r at hmn
  rw [if_pos ⟨rfl, zero_len, relL_len _ _⟩, atK_ok (relL_zero _ _), asI_ok]
  have loop : Lim (rel_both_F1 (R E) Lim E.glob) (rel_both_s1 (.fn k []) r ((0 : Nat) : Int) (relL n f) (relL m g) zeroL (relL r (upF (fun i => op (f i) (g i) &&& (2 ^ r - 1)) 0)) h) = some (.exit 0, rel_both_x1_1 zeroL (relL r (upF (fun i => op (f i) (g i) &&& (2 ^ r - 1)) r)) h) := by
    refine Lim_count (fun i => rel_both_s1 (.fn k []) r (i : Int) (relL n f) (relL m g) zeroL (relL r (upF (fun i => op (f i) (g i) &&& (2 ^ r - 1)) i)) h) 0 r (by omega) (fun i _ hi => ?_) (Lim_exit ?_)
    · have q1 : 0 ≤ (i : Int) ∧ (i : Int) < ((64 : Nat) : Int) := by omega
      obtain ⟨o1, o2⟩ := hop (f i) (g i) (hf i) (hg i)
      rw [rel_both_r1, if_pos (by simp; omega), if_pos q1, Int.toNat_natCast, Nat.mul_one, atK_ok (relL_row (by omega)), asI_ok, if_pos q1, atK_ok (relL_row (by omega)), asI_ok]
      rw [fnK_ok, List.append_nil, o2, qh_ok, c1_ok, asI_ok, atK_ok (relL_zero _ _), asI_ok, upto_n hE.c61 hmn, qh_ok, c1_ok, asI_ok, if_pos q1, g_band o1 (all_lt hmn), relL_set, if_pos (by rw [relL_len]; omega), g_succ (by omega), upF_succ (fun i => op (f i) (g i) &&& (2 ^ r - 1))]
    · rw [rel_both_r1, if_neg (by simp)]
  rw [upF_zero] at loop
  rw [show rel_both_s1 (.fn k []) r 0 (relL n f) (relL m g) ([Cell.int .i64 0] ++ List.replicate 64 (Cell.int .u64 0)) (relL r fun _ => 0) h = rel_both_s1 (.fn k []) r ((0 : Nat) : Int) (relL n f) (relL m g) zeroL (relL r fun _ => 0) h from rfl, loop, bind_ok, rel_both_e1_1]
  simp only [relL_len, zeroL, zero_len, and_self, if_true]

/-- A relation by what it has. -/
def relM (n : Nat) (p : Nat → Nat → Bool) : List Cell := relL n fun i => mkN (p i)

theorem words_relM (p : Nat → Nat → Bool) : Words fun i => mkN (p i) := fun _ => mkN_lt _

theorem both_M {n : Nat} (hn : n ≤ 64) {f g : Nat → Nat} (hf : Words f) (hg : Words g) (op : Nat → Nat → Nat) (b : Bool → Bool → Bool) (hop : ∀ x y, x < 2 ^ 64 → y < 2 ^ 64 → op x y < 2 ^ 64) (hb : ∀ x y j, (op x y).testBit j = b (x.testBit j) (y.testBit j)) :
    relL n (upF (fun i => op (f i) (g i) &&& (2 ^ n - 1)) n) = relM n fun i j => decide (i < n) && decide (j < n) && b ((f i).testBit j) ((g i).testBit j) := by
  refine relL_ext rfl (words_upF (fun i => and_lt (hop _ _ (hf i) (hg i))) n) (words_mkN _) fun i j hi hj => ?_
  rw [testBit_mkN]
  unfold upF
  by_cases hin : i < n
  · rw [if_pos hin, Nat.testBit_and, hb, all_bit]
    simp [hin, hj, Bool.and_comm]
  · rw [if_neg hin, Nat.zero_testBit]; simp [hin]

theorem Union_R (hE : rel_Rel_Union_In E) {n m : Nat} (hn : n ≤ 64) (hm : m ≤ 64) {f g : Nat → Nat} (hf : Words f) (hg : Words g) (h : AHeap) :
    R E 59 [.agg (relL n f), .agg (relL m g)] h = some ([.agg (relM (min n m) fun i j => decide (i < min n m) && decide (j < min n m) && ((f i).testBit j || (g i).testBit j))], h) := by
  refine R_intro hE.fn ?_
  rw [rel_Rel_Union_eq, if_pos ⟨rfl, relL_len _ _⟩, if_pos ⟨rfl, relL_len _ _⟩, both_R hE.c73 hn hm hf hg 72 (fun a b => a ||| b) (fun a b ha hb => ⟨or_lt ha hb, fun h => R_intro hE.c72.fn (by rw [rel_Rel_Union_1_eq, g_bor ha hb])⟩), c1_ok, asA_ok]
  simp only [relL_len, zero_len, and_self, if_true]
  rw [both_M (by omega) hf hg (fun a b => a ||| b) (· || ·) (fun _ _ => or_lt) fun x y j => Nat.testBit_or ..]

theorem Minus_R (hE : rel_Rel_Minus_In E) {n m : Nat} (hn : n ≤ 64) (hm : m ≤ 64) {f g : Nat → Nat} (hf : Words f) (hg : Words g) (h : AHeap) :
    R E 68 [.agg (relL n f), .agg (relL m g)] h = some ([.agg (relM (min n m) fun i j => decide (i < min n m) && decide (j < min n m) && ((f i).testBit j && !(g i).testBit j))], h) := by
  refine R_intro hE.fn ?_
  rw [rel_Rel_Minus_eq, if_pos ⟨rfl, relL_len _ _⟩, if_pos ⟨rfl, relL_len _ _⟩, both_R hE.c73 hn hm hf hg 75 ndiff (fun a b ha hb => ⟨ndiff_lt ha, fun h => R_intro hE.c75.fn (by rw [rel_Rel_Minus_1_eq, g_bandNot ha hb])⟩), c1_ok, asA_ok]
  simp only [relL_len, zero_len, and_self, if_true]
  rw [both_M (by omega) hf hg ndiff (fun a b => a && !b) (fun _ _ h _ => ndiff_lt h) fun x y j => testBit_ndiff x y j]

theorem Meet_R (hE : rel_Rel_Meet_In E) {n m : Nat} (hn : n ≤ 64) (hm : m ≤ 64) {f g : Nat → Nat} (hf : Words f) (hg : Words g) (h : AHeap) :
    R E 67 [.agg (relL n f), .agg (relL m g)] h = some ([.agg (relM (min n m) fun i j => decide (i < min n m) && decide (j < min n m) && ((f i).testBit j && (g i).testBit j))], h) := by
  refine R_intro hE.fn ?_
  rw [rel_Rel_Meet_eq, if_pos ⟨rfl, relL_len _ _⟩, if_pos ⟨rfl, relL_len _ _⟩, both_R hE.c73 hn hm hf hg 74 (fun a b => a &&& b) (fun a b ha hb => ⟨and_lt ha, fun h => R_intro hE.c74.fn (by rw [rel_Rel_Meet_1_eq, g_band ha hb])⟩), c1_ok, asA_ok]
  simp only [relL_len, zero_len, and_self, if_true]
  rw [both_M (by omega) hf hg (fun a b => a &&& b) (· && ·) (fun _ _ h _ => and_lt h) fun x y j => Nat.testBit_and ..]

/- Putting behind one another. -/
def orL (T : Nat → Nat) (l : List Nat) : Nat := l.foldl (fun a k => a ||| T k) 0

theorem orL_snoc (T : Nat → Nat) (l : List Nat) (k : Nat) : orL T (l ++ [k]) = orL T l ||| T k := by unfold orL; rw [List.foldl_append]; rfl

theorem orL_lt {T : Nat → Nat} (hT : Words T) (l : List Nat) : orL T l < 2 ^ 64 := by
  have : ∀ (l : List Nat) (s : Nat), s < 2 ^ 64 → l.foldl (fun a k => a ||| T k) s < 2 ^ 64 := by
    intro l
    induction l with
    | nil => exact fun s h => h
    | cons k l ih => exact fun s h => ih _ (or_lt h (hT k))
  exact this l 0 (by omega)

theorem orL_bit (T : Nat → Nat) (l : List Nat) (j : Nat) : (orL T l).testBit j = l.any fun k => (T k).testBit j := by
  have : ∀ (l : List Nat) (s : Nat), (l.foldl (fun a k => a ||| T k) s).testBit j = (s.testBit j || l.any fun k => (T k).testBit j) := by
    intro l
    induction l with
    | nil => intro s; simp
    | cons k l ih => intro s; rw [List.foldl_cons, ih, Nat.testBit_or, List.any_cons, Bool.or_assoc]
  have h := this l 0
  rw [Nat.zero_testBit, Bool.false_or] at h
  exact h

/-- A loop over a word's numbers: from the least on. -/
theorem Lim_bits {F : St → Option (Ex × St)} (g : Nat → List Nat → St) {s : Nat} (hs : s < 2 ^ 64) (hstep : ∀ a done, a < 2 ^ 64 → a ≠ 0 → done ++ bitsL a = bitsL s → Lib.ctz 64 a < 64 → s.testBit (Lib.ctz 64 a) = true → F (g a done) = some (.normal, g (a &&& (a - 1)) (done ++ [Lib.ctz 64 a])))
    {p : Ex × St} (hend : Lim F (g 0 (bitsL s)) = some p) : Lim F (g s []) = some p := by
  have : ∀ k a done, a ≤ k → a < 2 ^ 64 → done ++ bitsL a = bitsL s → Lim F (g a done) = some p := by
    intro k
    induction k with
    | zero =>
      intro a done hak _ hd
      have h0 : a = 0 := by omega
      subst h0
      rw [bitsL_zero, List.append_nil] at hd
      rw [hd]; exact hend
    | succ k ih =>
      intro a done hak ha hd
      by_cases h0 : a = 0
      · subst h0
        rw [bitsL_zero, List.append_nil] at hd
        rw [hd]; exact hend
      · have hc := bitsL_cons ha h0
        have hmem : Lib.ctz 64 a ∈ bitsL s := by rw [← hd, hc]; simp
        obtain ⟨m1, m2⟩ := mem_bitsL.1 hmem
        refine Lim_next (hstep a done ha h0 hd m1 m2) (ih _ _ ?_ (and_lt ha) ?_)
        · have := and_pred_lt h0; omega
        · rw [List.append_assoc, List.singleton_append, ← hc, hd]
  exact this s s [] (Nat.le_refl _) hs rfl

theorem pred_wrap {a : Nat} (ha : a < 2 ^ 64) (h0 : a ≠ 0) : E.glob.band .u64 (a : Int) (E.glob.wrap .u64 ((a : Int) - 1)) = ((a &&& (a - 1) : Nat) : Int) := by
  rw [show E.glob.wrap .u64 ((a : Int) - 1) = ((a - 1 : Nat) : Int) by rw [g_wrap_u64 (by omega) (by omega)]; omega, g_band ha (by omega)]

theorem ne_zero {a : Nat} (h0 : a ≠ 0) : ((a : Int) != 0) = true := by rw [bne_iff_ne]; omega

def thenF (n : Nat) (f g : Nat → Nat) (i : Nat) : Nat := orL (fun k => g k &&& (2 ^ n - 1)) (bitsL (f i &&& (2 ^ n - 1)))

theorem Then_R (hE : rel_Rel_Then_In E) (ht : TabOk E) {n m : Nat} (hn : n ≤ 64) (hm : m ≤ 64) {f g : Nat → Nat} (hf : Words f) (hg : Words g) (h : AHeap) :
    R E 58 [.agg (relL n f), .agg (relL m g)] h = some ([.agg (relM (min n m) fun i j => decide (i < min n m) && decide (j < min n m) && (List.range (min n m)).any fun k => (f i).testBit k && (g k).testBit j)], h) := by
  refine R_intro hE.fn ?_
  have hmn : min n m ≤ 64 := by omega
  rw [rel_Rel_Then_eq, atK_ok (relL_zero _ _), asI_ok, atK_ok (relL_zero _ _), asI_ok, min_nat, New_R hE.c9, c1_ok, asA_ok, clamp_nat hmn]
  generalize min n m = r at hmn
  have hal := all_lt hmn
  have hT : Words fun k => g k &&& (2 ^ r - 1) := fun k => and_lt (hg k)
  have hW : Words (thenF r f g) := fun i => orL_lt hT _
  rw [if_pos ⟨rfl, zero_len, relL_len _ _⟩, atK_ok (relL_zero _ _), asI_ok, upto_n hE.c61 hmn, c1_ok, asI_ok, atK_ok (relL_zero _ _), asI_ok]
  have loop : Lim (rel_Rel_Then_F2 (R E) Lim E.glob) (rel_Rel_Then_s2 ((2 ^ r - 1 : Nat) : Int) r ((0 : Nat) : Int) (relL n f) (relL m g) zeroL (relL r (upF (thenF r f g) 0)) h) = some (.exit 0, rel_Rel_Then_x2_1 zeroL (relL r (upF (thenF r f g) r)) h) := by
    refine Lim_count (fun i => rel_Rel_Then_s2 ((2 ^ r - 1 : Nat) : Int) r (i : Int) (relL n f) (relL m g) zeroL (relL r (upF (thenF r f g) i)) h) 0 r (by omega) (fun i _ hi => ?_) (Lim_exit ?_)
    · have q1 : 0 ≤ (i : Int) ∧ (i : Int) < ((64 : Nat) : Int) := by omega
      rw [rel_Rel_Then_r2, if_pos (by simp; omega), if_pos q1, Int.toNat_natCast, Nat.mul_one, atK_ok (relL_row (by omega)), asI_ok, g_band (hf i) hal]
      have hs : f i &&& (2 ^ r - 1) < 2 ^ 64 := and_lt (hf i)
      have inner := Lim_bits (F := rel_Rel_Then_F1 (R E) Lim E.glob) (fun a done => rel_Rel_Then_s1 ((2 ^ r - 1 : Nat) : Int) i (a : Nat) r i (relL n f) (relL m g) zeroL (relL r (updF (upF (thenF r f g) i) i (orL (fun k => g k &&& (2 ^ r - 1)) done))) h) hs (fun a done ha h0 hd hc hb => by
        have q2 : 0 ≤ ((Lib.ctz 64 a : Nat) : Int) ∧ ((Lib.ctz 64 a : Nat) : Int) < ((64 : Nat) : Int) := by omega
        have hcell : (relL r (updF (upF (thenF r f g) i) i (orL (fun k => g k &&& (2 ^ r - 1)) done)))[1 + i]? = some (.int .u64 ((orL (fun k => g k &&& (2 ^ r - 1)) done : Nat) : Int)) := by
          rw [relL_row (by omega)]; unfold updF; rw [if_pos rfl]
        have hupd : updF (updF (upF (thenF r f g) i) i (orL (fun k => g k &&& (2 ^ r - 1)) done)) i (orL (fun k => g k &&& (2 ^ r - 1)) (done ++ [Lib.ctz 64 a])) = updF (upF (thenF r f g) i) i (orL (fun k => g k &&& (2 ^ r - 1)) (done ++ [Lib.ctz 64 a])) := by
          funext j; unfold updF; split <;> rfl
        rw [rel_Rel_Then_r1, if_pos (ne_zero h0), if_pos q1, Int.toNat_natCast, Nat.mul_one, atK_ok hcell, asI_ok, First_R hE.c38 ht ha, qh_ok, c1_ok, asI_ok]
        unfold firstI
        rw [if_neg h0, if_pos q2, Int.toNat_natCast, Nat.mul_one, atK_ok (relL_row hc), asI_ok, if_pos q1, if_pos (by rw [relL_len]; omega), g_band (hg _) hal, g_bor (orL_lt hT _) (hT (Lib.ctz 64 a)), pred_wrap ha h0, relL_set, ← orL_snoc (fun k => g k &&& (2 ^ r - 1)), hupd])
        (p := (.exit 2, rel_Rel_Then_x1_3 ((2 ^ r - 1 : Nat) : Int) r i (relL n f) (relL m g) zeroL (relL r (upF (thenF r f g) (i + 1))) h)) (Lim_exit (by
          rw [rel_Rel_Then_r1, if_neg (by simp), ← upF_succ]; rfl))
      have hz : updF (upF (thenF r f g) i) i (orL (fun k => g k &&& (2 ^ r - 1)) []) = upF (thenF r f g) i := by
        funext j; unfold updF upF orL
        by_cases hj : j = i
        · rw [if_pos hj, if_neg (by omega)]; rfl
        · rw [if_neg hj]
      rw [hz] at inner
      rw [inner, bind_ok, rel_Rel_Then_e1_3, g_succ (by omega)]
    · rw [rel_Rel_Then_r2, if_neg (by simp)]
  rw [upF_zero] at loop
  rw [show rel_Rel_Then_s2 ((2 ^ r - 1 : Nat) : Int) r 0 (relL n f) (relL m g) ([Cell.int .i64 0] ++ List.replicate 64 (Cell.int .u64 0)) (relL r fun _ => 0) h = rel_Rel_Then_s2 ((2 ^ r - 1 : Nat) : Int) r ((0 : Nat) : Int) (relL n f) (relL m g) zeroL (relL r fun _ => 0) h from rfl, loop, bind_ok, rel_Rel_Then_e2_1]
  simp only [relL_len, zeroL, zero_len, and_self, if_true]
  congr 4
  refine relL_ext rfl (words_upF hW r) (words_mkN _) fun i j hi hj => ?_
  rw [testBit_mkN]
  unfold upF
  by_cases hin : i < r
  · rw [if_pos hin, thenF, orL_bit, Bool.eq_iff_iff]
    simp only [List.any_eq_true, mem_bitsL, Nat.testBit_and, all_bit, Bool.and_eq_true, decide_eq_true_eq, List.mem_range]
    constructor
    · rintro ⟨k, ⟨_, hk1, hk2⟩, hk3, hk4⟩; exact ⟨hj, ⟨hin, hk4⟩, k, hk2, hk1, hk3⟩
    · rintro ⟨_, ⟨_, h4⟩, k, hk2, hk1, hk3⟩; exact ⟨k, ⟨by omega, hk1, hk2⟩, hk3, h4⟩
  · rw [if_neg hin, Nat.zero_testBit]; simp [hin]

/- Turning about. -/
/-- What has been turned: all of the rows below i, of row i what is done. -/
def invP (f : Nat → Nat) (i : Nat) (done : List Nat) : Nat → Nat := fun k => mkN fun j => (decide (j < i) && (f j).testBit k) || (decide (j = i) && decide (k ∈ done))

theorem invP_lt (f : Nat → Nat) (i : Nat) (done : List Nat) : Words (invP f i done) := fun _ => mkN_lt _

theorem bitI_nat {n : Nat} (hn : n < 64) : bitI (n : Int) = 2 ^ n := by unfold bitI; rw [if_pos (by omega)]; simp

theorem Inverse_R (hE : rel_Rel_Inverse_In E) (ht : TabOk E) {n : Nat} (hn : n ≤ 64) {f : Nat → Nat} (hf : Words f) (h : AHeap) :
    R E 40 [.agg (relL n f)] h = some ([.agg (relM n fun i j => decide (j < n) && (f j).testBit i)], h) := by
  refine R_intro hE.fn ?_
  rw [rel_Rel_Inverse_eq, atK_ok (relL_zero _ _), asI_ok, New_R hE.c9, c1_ok, asA_ok, clamp_nat hn, if_pos ⟨rfl, zero_len, relL_len _ _⟩, atK_ok (relL_zero _ _), asI_ok]
  have loop : Lim (rel_Rel_Inverse_F2 (R E) Lim E.glob) (rel_Rel_Inverse_s2 n ((0 : Nat) : Int) (relL n f) zeroL (relL n (invP f 0 [])) h) = some (.exit 0, rel_Rel_Inverse_x2_1 zeroL (relL n (invP f n [])) h) := by
    refine Lim_count (fun i => rel_Rel_Inverse_s2 n (i : Int) (relL n f) zeroL (relL n (invP f i [])) h) 0 n (by omega) (fun i _ hi => ?_) (Lim_exit ?_)
    · have q1 : 0 ≤ (i : Int) ∧ (i : Int) < ((64 : Nat) : Int) := by omega
      rw [rel_Rel_Inverse_r2, if_pos (by simp; omega), if_pos q1, Int.toNat_natCast, Nat.mul_one, atK_ok (relL_row (by omega)), asI_ok]
      have inner := Lim_bits (F := rel_Rel_Inverse_F1 (R E) Lim E.glob) (fun a done => rel_Rel_Inverse_s1 i (a : Nat) n i (relL n f) zeroL (relL n (invP f i done)) h) (hf i) (fun a done ha h0 hd hc hb => by
        have q2 : 0 ≤ ((Lib.ctz 64 a : Nat) : Int) ∧ ((Lib.ctz 64 a : Nat) : Int) < ((64 : Nat) : Int) := by omega
        have hF : firstI a = ((Lib.ctz 64 a : Nat) : Int) := by unfold firstI; rw [if_neg h0]
        have hupd : relL n (updF (invP f i done) (Lib.ctz 64 a) (invP f i done (Lib.ctz 64 a) ||| bitI (i : Int))) = relL n (invP f i (done ++ [Lib.ctz 64 a])) := by
          refine relL_ext rfl (words_upd (invP_lt f i done) (or_lt (invP_lt f i done _) (bitI_lt _))) (invP_lt f i _) fun k j hk hj => ?_
          unfold updF
          by_cases hkc : k = Lib.ctz 64 a
          · rw [if_pos hkc, Nat.testBit_or, testBit_bitI]
            unfold invP
            rw [testBit_mkN, testBit_mkN, Bool.eq_iff_iff]
            simp only [Bool.or_eq_true, Bool.and_eq_true, decide_eq_true_eq, List.mem_append, List.mem_singleton, hj, true_and, hkc, or_true, and_true]
            constructor
            · rintro ((h1 | ⟨h1, _⟩) | h1)
              · exact .inl h1
              · exact .inr h1
              · exact .inr (by omega)
            · rintro (h1 | h1)
              · exact .inl (.inl h1)
              · exact .inr (by omega)
          · rw [if_neg hkc]
            unfold invP
            rw [testBit_mkN, testBit_mkN]
            simp [hkc]
        rw [rel_Rel_Inverse_r1, if_pos (ne_zero h0), First_R hE.c38 ht ha, c1_ok, asI_ok, First_R hE.c38 ht ha, c1_ok, asI_ok, hF, if_pos q2, Int.toNat_natCast, Nat.mul_one, atK_ok (relL_row hc), asI_ok, With_R hE.c18 (invP_lt f i done _), c1_ok, asI_ok, if_pos q2, if_pos (by rw [relL_len]; omega), pred_wrap ha h0, relL_set, hupd])
        (p := (.exit 2, rel_Rel_Inverse_x1_3 n i (relL n f) zeroL (relL n (invP f (i + 1) [])) h)) (Lim_exit (by
          have hnext : relL n (invP f i (bitsL (f i))) = relL n (invP f (i + 1) []) := by
            refine relL_ext rfl (invP_lt f i _) (invP_lt f (i + 1) _) fun k j hk hj => ?_
            unfold invP
            rw [testBit_mkN, testBit_mkN, Bool.eq_iff_iff]
            simp only [Bool.or_eq_true, Bool.and_eq_true, decide_eq_true_eq, hj, true_and, mem_bitsL, hk, List.not_mem_nil, and_false, or_false]
            constructor
            · rintro (⟨h1, h2⟩ | ⟨h1, h2⟩)
              · exact ⟨by omega, h2⟩
              · subst h1; exact ⟨by omega, h2⟩
            · rintro ⟨h1, h2⟩
              by_cases hji : j = i
              · subst hji; exact .inr ⟨rfl, h2⟩
              · exact .inl ⟨by omega, h2⟩
          rw [rel_Rel_Inverse_r1, if_neg (by simp), hnext]))
      rw [inner, bind_ok, rel_Rel_Inverse_e1_3, g_succ (by omega)]
    · rw [rel_Rel_Inverse_r2, if_neg (by simp)]
  have h00 : relL n (invP f 0 []) = relL n fun _ => 0 := by
    refine relL_ext rfl (invP_lt f 0 _) words_zero fun k j hk hj => ?_
    unfold invP
    rw [testBit_mkN]; simp
  rw [h00] at loop
  rw [show rel_Rel_Inverse_s2 n 0 (relL n f) ([Cell.int .i64 0] ++ List.replicate 64 (Cell.int .u64 0)) (relL n fun _ => 0) h = rel_Rel_Inverse_s2 n ((0 : Nat) : Int) (relL n f) zeroL (relL n fun _ => 0) h from rfl, loop, bind_ok, rel_Rel_Inverse_e2_1]
  simp only [relL_len, zeroL, zero_len, and_self, if_true]
  congr 4
  refine relL_ext rfl (invP_lt f n _) (words_mkN _) fun i j hi hj => ?_
  unfold invP
  rw [testBit_mkN, testBit_mkN]; simp

/- Cutting down. -/
theorem Keep_R (hE : rel_Rel_Keep_In E) {n : Nat} (hn : n ≤ 64) {f : Nat → Nat} (hf : Words f) {s : Nat} (hs : s < 2 ^ 64) (h : AHeap) :
    R E 66 [.agg (relL n f), .c (.int .u64 s)] h = some ([.agg (relM n fun i j => decide (i < n) && s.testBit i && ((f i).testBit j && s.testBit j))], h) := by
  refine R_intro hE.fn ?_
  rw [rel_Rel_Keep_eq, atK_ok (relL_zero _ _), asI_ok, New_R hE.c9, c1_ok, asA_ok, clamp_nat hn, if_pos ⟨rfl, zero_len, relL_len _ _⟩, atK_ok (relL_zero _ _), asI_ok]
  have hT : Words fun i => if s.testBit i then f i &&& s else 0 := fun i => by
    show (if s.testBit i = true then f i &&& s else 0) < 2 ^ 64
    split
    · exact and_lt (hf i)
    · omega
  have loop : Lim (rel_Rel_Keep_F1 (R E) Lim E.glob) (rel_Rel_Keep_s1 s n ((0 : Nat) : Int) (relL n f) zeroL (relL n (upF (fun i => if s.testBit i then f i &&& s else 0) 0)) h) = some (.exit 0, rel_Rel_Keep_x1_1 zeroL (relL n (upF (fun i => if s.testBit i then f i &&& s else 0) n)) h) := by
    refine Lim_count (fun i => rel_Rel_Keep_s1 s n (i : Int) (relL n f) zeroL (relL n (upF (fun i => if s.testBit i then f i &&& s else 0) i)) h) 0 n (by omega) (fun i _ hi => ?_) (Lim_exit ?_)
    · have q1 : 0 ≤ (i : Int) ∧ (i : Int) < ((64 : Nat) : Int) := by omega
      rw [rel_Rel_Keep_r1, if_pos (by simp; omega), Has_R hE.c17 hs, c1_ok, asB_ok, hasI_nat (by omega), ← upF_succ]
      cases hb : s.testBit i with
      | true =>
        simp only [if_true]
        rw [if_pos q1, Int.toNat_natCast, Nat.mul_one, atK_ok (relL_row (by omega)), asI_ok, if_pos q1, if_pos (by rw [relL_len]; omega), g_band (hf i) hs, relL_set, g_succ (by omega)]
      | false =>
        simp only [Bool.false_eq_true, if_false]
        rw [g_succ (by omega)]
        have : updF (upF (fun i => if s.testBit i = true then f i &&& s else 0) i) i 0 = upF (fun i => if s.testBit i = true then f i &&& s else 0) i := by
          funext j; unfold updF upF
          by_cases hj : j = i
          · rw [if_pos hj, if_neg (by omega)]
          · rw [if_neg hj]
        rw [this]
    · rw [rel_Rel_Keep_r1, if_neg (by simp)]
  rw [upF_zero] at loop
  rw [show rel_Rel_Keep_s1 s n 0 (relL n f) ([Cell.int .i64 0] ++ List.replicate 64 (Cell.int .u64 0)) (relL n fun _ => 0) h = rel_Rel_Keep_s1 s n ((0 : Nat) : Int) (relL n f) zeroL (relL n fun _ => 0) h from rfl, loop, bind_ok, rel_Rel_Keep_e1_1]
  simp only [relL_len, zeroL, zero_len, and_self, if_true]
  congr 4
  refine relL_ext rfl (words_upF hT n) (words_mkN _) fun i j hi hj => ?_
  rw [testBit_mkN]
  unfold upF
  by_cases hin : i < n
  · rw [if_pos hin]
    cases hb : s.testBit i with
    | true => simp [hin, hj, hb, Nat.testBit_and]
    | false => simp [hb]
  · rw [if_neg hin, Nat.zero_testBit]; simp [hin]

end Jq

/- Relations over one number: by what they have. -/
namespace Jq
open Go

def TH (n : Nat) (f g : Nat → Nat) : Nat → Nat := fun i => mkN fun j => decide (i < n) && decide (j < n) && (List.range n).any fun k => (f i).testBit k && (g k).testBit j
def UNI (n : Nat) (f g : Nat → Nat) : Nat → Nat := fun i => mkN fun j => decide (i < n) && decide (j < n) && ((f i).testBit j || (g i).testBit j)
def MIN (n : Nat) (f g : Nat → Nat) : Nat → Nat := fun i => mkN fun j => decide (i < n) && decide (j < n) && ((f i).testBit j && !(g i).testBit j)
def MEE (n : Nat) (f g : Nat → Nat) : Nat → Nat := fun i => mkN fun j => decide (i < n) && decide (j < n) && ((f i).testBit j && (g i).testBit j)
def INV (n : Nat) (f : Nat → Nat) : Nat → Nat := fun i => mkN fun j => decide (j < n) && (f j).testBit i
def KEE (n : Nat) (f : Nat → Nat) (s : Nat) : Nat → Nat := fun i => mkN fun j => decide (i < n) && s.testBit i && ((f i).testBit j && s.testBit j)

theorem w_TH (n : Nat) (f g : Nat → Nat) : Words (TH n f g) := fun _ => mkN_lt _
theorem w_UNI (n : Nat) (f g : Nat → Nat) : Words (UNI n f g) := fun _ => mkN_lt _
theorem w_MIN (n : Nat) (f g : Nat → Nat) : Words (MIN n f g) := fun _ => mkN_lt _
theorem w_MEE (n : Nat) (f g : Nat → Nat) : Words (MEE n f g) := fun _ => mkN_lt _
theorem w_INV (n : Nat) (f : Nat → Nat) : Words (INV n f) := fun _ => mkN_lt _
theorem w_KEE (n : Nat) (f : Nat → Nat) (s : Nat) : Words (KEE n f s) := fun _ => mkN_lt _

/-- All pairs are over n. -/
def Fit (n : Nat) (f : Nat → Nat) : Prop := ∀ i j, (f i).testBit j = true → i < n ∧ j < n

theorem of_fit {n : Nat} (hn : n ≤ 64) (l : List (Int × Int)) : Fit n (ofR n l) := by
  intro a b hb
  obtain ⟨p, _, h1, h2, h3, h4⟩ := (of_bit hn l a b).1 hb
  have k1 : 0 ≤ p.1 ∧ p.1 < n := by simpa [inR] using h1
  have k2 : 0 ≤ p.2 ∧ p.2 < n := by simpa [inR] using h2
  omega

theorem b_TH {n : Nat} (hn : n ≤ 64) (f g : Nat → Nat) (i j : Nat) : (TH n f g i).testBit j = true ↔ i < n ∧ j < n ∧ ∃ k, k < n ∧ (f i).testBit k = true ∧ (g k).testBit j = true := by
  unfold TH
  rw [testBit_mkN]
  simp only [Bool.and_eq_true, decide_eq_true_eq, List.any_eq_true, List.mem_range]
  constructor
  · rintro ⟨_, ⟨h1, h2⟩, k, h3, h4, h5⟩; exact ⟨h1, h2, k, h3, h4, h5⟩
  · rintro ⟨h1, h2, k, h3, h4, h5⟩; exact ⟨by omega, ⟨h1, h2⟩, k, h3, h4, h5⟩
theorem b_UNI {n : Nat} (hn : n ≤ 64) (f g : Nat → Nat) (i j : Nat) : (UNI n f g i).testBit j = true ↔ i < n ∧ j < n ∧ ((f i).testBit j = true ∨ (g i).testBit j = true) := by
  unfold UNI
  rw [testBit_mkN]
  simp only [Bool.and_eq_true, decide_eq_true_eq, Bool.or_eq_true]
  constructor
  · rintro ⟨_, ⟨h1, h2⟩, h⟩; exact ⟨h1, h2, h⟩
  · rintro ⟨h1, h2, h⟩; exact ⟨by omega, ⟨h1, h2⟩, h⟩
theorem b_MIN {n : Nat} (hn : n ≤ 64) (f g : Nat → Nat) (i j : Nat) : (MIN n f g i).testBit j = true ↔ i < n ∧ j < n ∧ (f i).testBit j = true ∧ ¬ (g i).testBit j = true := by
  unfold MIN
  rw [testBit_mkN]
  simp only [Bool.and_eq_true, decide_eq_true_eq, Bool.not_eq_true', Bool.not_eq_true]
  constructor
  · rintro ⟨_, ⟨h1, h2⟩, h⟩; exact ⟨h1, h2, h⟩
  · rintro ⟨h1, h2, h⟩; exact ⟨by omega, ⟨h1, h2⟩, h⟩
theorem b_MEE {n : Nat} (hn : n ≤ 64) (f g : Nat → Nat) (i j : Nat) : (MEE n f g i).testBit j = true ↔ i < n ∧ j < n ∧ (f i).testBit j = true ∧ (g i).testBit j = true := by
  unfold MEE
  rw [testBit_mkN]
  simp only [Bool.and_eq_true, decide_eq_true_eq]
  constructor
  · rintro ⟨_, ⟨h1, h2⟩, h⟩; exact ⟨h1, h2, h⟩
  · rintro ⟨h1, h2, h⟩; exact ⟨by omega, ⟨h1, h2⟩, h⟩
theorem b_INV {n : Nat} (hn : n ≤ 64) (f : Nat → Nat) (i j : Nat) : (INV n f i).testBit j = true ↔ j < n ∧ (f j).testBit i = true := by
  unfold INV
  rw [testBit_mkN]
  simp only [Bool.and_eq_true, decide_eq_true_eq]
  constructor
  · rintro ⟨_, h⟩; exact h
  · rintro h; exact ⟨by omega, h⟩
theorem b_KEE {n : Nat} {f : Nat → Nat} (s : Nat) (hs : s < 2 ^ 64) (i j : Nat) : (KEE n f s i).testBit j = true ↔ i < n ∧ s.testBit i = true ∧ (f i).testBit j = true ∧ s.testBit j = true := by
  unfold KEE
  rw [testBit_mkN]
  simp only [Bool.and_eq_true, decide_eq_true_eq]
  constructor
  · rintro ⟨_, ⟨h1, h2⟩, h⟩; exact ⟨h1, h2, h⟩
  · rintro ⟨h1, h2, h⟩
    refine ⟨?_, ⟨h1, h2⟩, h⟩
    rcases Nat.lt_or_ge j 64 with hj | hj
    · exact hj
    · have h64 : 2 ^ 64 ≤ 2 ^ j := Nat.pow_le_pow_right (by omega) hj
      rw [Nat.testBit_lt_two_pow (Nat.lt_of_lt_of_le hs h64)] at h; simp at h

theorem rel_eq {n : Nat} {f g : Nat → Nat} (hf : Words f) (hg : Words g) (h : ∀ i j, (f i).testBit j = true ↔ (g i).testBit j = true) : relL n f = relL n g :=
  relL_ext rfl hf hg fun i j _ _ => by rw [Bool.eq_iff_iff]; exact h i j

theorem alike_rel (n m : Nat) (f g : Nat → Nat) : alike (relL n f) (relL m g) = true := by
  unfold relL
  simp only [alike, alike1, decide_true, Bool.true_and]
  generalize List.range 64 = l
  induction l with
  | nil => rfl
  | cons a l ih => simp only [List.map_cons, alike, alike1, decide_true, Bool.true_and]; exact ih

variable {E : Env} {n : Nat}

theorem Union_S (hE : rel_Rel_Union_In E) (hn : n ≤ 64) {f g : Nat → Nat} (hf : Words f) (hg : Words g) (h : AHeap) : R E 59 [.agg (relL n f), .agg (relL n g)] h = some ([.agg (relL n (UNI n f g))], h) := by
  rw [Union_R hE hn hn hf hg, Nat.min_self]; rfl
theorem Minus_S (hE : rel_Rel_Minus_In E) (hn : n ≤ 64) {f g : Nat → Nat} (hf : Words f) (hg : Words g) (h : AHeap) : R E 68 [.agg (relL n f), .agg (relL n g)] h = some ([.agg (relL n (MIN n f g))], h) := by
  rw [Minus_R hE hn hn hf hg, Nat.min_self]; rfl
theorem Meet_S (hE : rel_Rel_Meet_In E) (hn : n ≤ 64) {f g : Nat → Nat} (hf : Words f) (hg : Words g) (h : AHeap) : R E 67 [.agg (relL n f), .agg (relL n g)] h = some ([.agg (relL n (MEE n f g))], h) := by
  rw [Meet_R hE hn hn hf hg, Nat.min_self]; rfl
theorem Then_S (hE : rel_Rel_Then_In E) (ht : TabOk E) (hn : n ≤ 64) {f g : Nat → Nat} (hf : Words f) (hg : Words g) (h : AHeap) : R E 58 [.agg (relL n f), .agg (relL n g)] h = some ([.agg (relL n (TH n f g))], h) := by
  rw [Then_R hE ht hn hn hf hg, Nat.min_self]; rfl
theorem Inverse_S (hE : rel_Rel_Inverse_In E) (ht : TabOk E) (hn : n ≤ 64) {f : Nat → Nat} (hf : Words f) (h : AHeap) : R E 40 [.agg (relL n f)] h = some ([.agg (relL n (INV n f))], h) := Inverse_R hE ht hn hf h
theorem Keep_S (hE : rel_Rel_Keep_In E) (hn : n ≤ 64) {f : Nat → Nat} (hf : Words f) {s : Nat} (hs : s < 2 ^ 64) (h : AHeap) : R E 66 [.agg (relL n f), .c (.int .u64 s)] h = some ([.agg (relL n (KEE n f s))], h) := Keep_R hE hn hf hs h

theorem HasS (hE : rel_Rel_Has_In E) (hn : n ≤ 64) {f : Nat → Nat} (hf : Words f) {a b : Nat} (ha : a < n) (hb : b < 64) (h : AHeap) : R E 3 [.agg (relL n f), .c (.int .i64 (a : Nat)), .c (.int .i64 (b : Nat))] h = some ([.c (.bool ((f a).testBit b))], h) := by
  rw [HasR_R hE hn hf]
  unfold hasR
  rw [inR_nat, Int.toNat_natCast, hasI_nat hb, show decide (a < n) = true by simp [ha], Bool.true_and]

/-- One more than what was made. -/
theorem mod_nat (a : Int) {n : Nat} (hn : 1 ≤ n) : ∃ m : Nat, m < n ∧ E.glob.rem .i64 (E.glob.band .i64 a 255) (n : Int) = (m : Int) := by
  have h1 := Int.emod_lt_of_pos (a % 256) (show (0 : Int) < n by omega)
  have h2 := Int.emod_nonneg (a % 256) (show (n : Int) ≠ 0 by omega)
  exact ⟨(a % 256 % n).toNat, by omega, by rw [g_band255, g_rem, Int.tmod_eq_emod_of_nonneg (show 0 ≤ a % 256 by omega), Int.toNat_of_nonneg h2]⟩

theorem RelThen_R (hE : jacquardlaw8_RelThen_In E) (ht : TabOk E) (a0 a4 a5 : Int) {x1 x2 x3 : Cell} {l1 l2 l3 : List (Int × Int)} {h : AHeap} (hx1 : SlAt h x1 2 (pairC l1) l1.length) (hl1 : Low h.length x1)
    (hx2 : SlAt h x2 2 (pairC l2) l2.length) (hl2 : Low h.length x2) (hx3 : SlAt h x3 2 (pairC l3) l3.length) (hl3 : Low h.length x3) :
    R E 241 [.c (.int .i64 a0), .c x1, .c x2, .c x3, .c (.int .i64 a4), .c (.int .i64 a5)] h = some ([.c (.bool true)], h) := by
  refine R_intro hE.fn ?_
  rw [jacquardlaw8_RelThen_eq]
  obtain ⟨n, hn1, hn2, hv⟩ : ∃ n : Nat, 1 ≤ n ∧ n ≤ 20 ∧ E.glob.wrap .i64 (E.glob.rem .i64 (E.glob.band .i64 a0 255) 20 + 1) = (n : Int) := by
    rw [g_band255, g_rem, Int.tmod_eq_emod_of_nonneg (by omega), g_wrap_i64 (by omega) (by omega)]
    exact ⟨(a0 % 256 % 20 + 1).toNat, by omega, by omega, by omega⟩
  have hn : n ≤ 64 := by omega
  obtain ⟨a, ha, hav⟩ := mod_nat (E := E) a4 hn1
  obtain ⟨b, hb, hbv⟩ := mod_nat (E := E) a5 hn1
  simp only [hv, hav, hbv]
  rw [if_neg (by omega), if_neg (by omega), Of_R hE.c1 (n : Int) hx1 hl1, c2_ok, asA_ok, asA_ok, clamp_nat hn]
  have hf := words_of n (l1.take 200)
  have hg := words_of n (l2.take 200)
  have hp := words_of n (l3.take 200)
  have ff := of_fit hn (l1.take 200)
  have fg := of_fit hn (l2.take 200)
  have fp := of_fit hn (l3.take 200)
  simp only [relL_len, zero_len, and_self, if_true]
  rw [Of_R hE.c1 (n : Int) hx2 hl2, c2_ok, asA_ok, asA_ok, clamp_nat hn]
  simp only [relL_len, and_self, if_true]
  rw [Of_R hE.c1 (n : Int) hx3 hl3, c2_ok, asA_ok, asA_ok, clamp_nat hn]
  simp only [relL_len, and_self, if_true]
  generalize ofR n (l1.take 200) = f at *
  generalize ofR n (l2.take 200) = g at *
  generalize ofR n (l3.take 200) = p at *
  have loop : Lim (jacquardlaw8_RelThen_F1 (R E) Lim E.glob) (jacquardlaw8_RelThen_s1 n a b ((List.range 0).any fun j => (f a).testBit j && (g j).testBit b) ((0 : Nat) : Int) (relL n f) (relL n g) (relL n p) h) = some (.exit 0, jacquardlaw8_RelThen_x1_1 a b ((List.range n).any fun j => (f a).testBit j && (g j).testBit b) (relL n f) (relL n g) (relL n p) h) := by
    refine Lim_count (fun i => jacquardlaw8_RelThen_s1 n a b ((List.range i).any fun j => (f a).testBit j && (g j).testBit b) (i : Int) (relL n f) (relL n g) (relL n p) h) 0 n (by omega) (fun i _ hi => ?_) (Lim_exit ?_)
    · rw [jacquardlaw8_RelThen_r1, if_pos (by simp; omega), if_pos ⟨rfl, relL_len _ _⟩, HasS hE.c3 hn hf ha (by omega), c1_ok, asB_ok, if_pos ⟨rfl, relL_len _ _⟩, HasS hE.c3 hn hg hi (by omega), c1_ok, asB_ok, scK_and, scK_or, g_succ (by omega), List.range_succ, List.any_append]
      simp
    · rw [jacquardlaw8_RelThen_r1, if_neg (by simp)]
  rw [show jacquardlaw8_RelThen_s1 n a b false 0 (relL n f) (relL n g) (relL n p) h = jacquardlaw8_RelThen_s1 n a b ((List.range 0).any fun j => (f a).testBit j && (g j).testBit b) ((0 : Nat) : Int) (relL n f) (relL n g) (relL n p) h from rfl, loop, bind_ok, jacquardlaw8_RelThen_e1_1]
  have w1 := w_TH n f g
  have w2 := w_TH n g p
  have w3 := w_UNI n f g
  have w4 := w_TH n f p
  have h1 : (TH n f g a).testBit b = (List.range n).any fun j => (f a).testBit j && (g j).testBit b := by
    rw [Bool.eq_iff_iff, b_TH hn]
    simp only [List.any_eq_true, List.mem_range, Bool.and_eq_true]
    constructor
    · rintro ⟨_, _, k, h1, h2⟩; exact ⟨k, h1, h2⟩
    · rintro ⟨k, h1, h2⟩; exact ⟨ha, hb, k, h1, h2⟩
  have h2 : relL n (TH n (TH n f g) p) = relL n (TH n f (TH n g p)) := by
    refine rel_eq (w_TH _ _ _) (w_TH _ _ _) fun i j => ?_
    simp only [b_TH hn]
    constructor
    · rintro ⟨q1, q2, k, q3, ⟨_, _, m, q4, q5, q6⟩, q7⟩; exact ⟨q1, q2, m, q4, q5, q4, q2, k, q3, q6, q7⟩
    · rintro ⟨q1, q2, m, q4, q5, _, _, k, q3, q6, q7⟩; exact ⟨q1, q2, k, q3, ⟨q1, q3, m, q4, q5, q6⟩, q7⟩
  have h3 : relL n (TH n (UNI n f g) p) = relL n (UNI n (TH n f p) (TH n g p)) := by
    refine rel_eq (w_TH _ _ _) (w_UNI _ _ _) fun i j => ?_
    simp only [b_TH hn, b_UNI hn]
    constructor
    · rintro ⟨q1, q2, k, q3, ⟨_, _, q4 | q4⟩, q5⟩
      · exact ⟨q1, q2, .inl ⟨q1, q2, k, q3, q4, q5⟩⟩
      · exact ⟨q1, q2, .inr ⟨q1, q2, k, q3, q4, q5⟩⟩
    · rintro ⟨q1, q2, ⟨_, _, k, q3, q4, q5⟩ | ⟨_, _, k, q3, q4, q5⟩⟩
      · exact ⟨q1, q2, k, q3, ⟨q1, q3, .inl q4⟩, q5⟩
      · exact ⟨q1, q2, k, q3, ⟨q1, q3, .inr q4⟩, q5⟩
  simp only [relL_len, and_self, if_true]
  have hb64 : b < 64 := by omega
  simp only [Then_S hE.c58 ht hn, Union_S hE.c59 hn, HasS hE.c3 hn w1 ha hb64, awake8_R hE.c55, hf, hg, hp, w_TH, w_UNI, qh_ok, c1_ok, asA_ok, asB_ok, bind_ok, scK_ok, zero_rel, alike_rel, h1, h2, h3, beq_self_eq_true, and_self, if_true, decide_true]

theorem RelThen_law (ht : TabOk E) (hE : jacquardlaw8_RelThen_In E) {h : AHeap} {c0 c1 c2 c3 c4 c5 : List Cell} (o0 : okC h (.i .i64) c0) (o1 : okC h (.sl shPair) c1) (o2 : okC h (.sl shPair) c2) (o3 : okC h (.sl shPair) c3) (o4 : okC h (.i .i64) c4) (o5 : okC h (.i .i64) c5) :
    ∃ h', R E 241 [av1 (.i .i64) c0, av1 (.sl shPair) c1, av1 (.sl shPair) c2, av1 (.sl shPair) c3, av1 (.i .i64) c4, av1 (.i .i64) c5] h = some ([.c (.bool true)], h') := by
  obtain ⟨a0, e0, _⟩ := arg_int o0
  obtain ⟨x1, l1, e1, hx1, hl1, _⟩ := arg_pairs o1
  obtain ⟨x2, l2, e2, hx2, hl2, _⟩ := arg_pairs o2
  obtain ⟨x3, l3, e3, hx3, hl3, _⟩ := arg_pairs o3
  obtain ⟨a4, e4, _⟩ := arg_int o4
  obtain ⟨a5, e5, _⟩ := arg_int o5
  rw [e0, e1, e2, e3, e4, e5]
  exact ⟨h, RelThen_R hE ht a0 a4 a5 hx1 hl1 hx2 hl2 hx3 hl3⟩

end Jq

/- A relation's pairs, told rising. -/
namespace Jq
open Go

/-- The pairs of one row. -/
def rowP (f : Nat → Nat) (i : Nat) : List (Int × Int) := (bitsL (f i)).map fun (k : Nat) => ((i : Int), (k : Int))

/-- All pairs. -/
def pairsP (n : Nat) (f : Nat → Nat) : List (Int × Int) := (List.range n).flatMap (rowP f)

theorem pairsP_succ (n : Nat) (f : Nat → Nat) : pairsP (n + 1) f = pairsP n f ++ rowP f n := by
  unfold pairsP; rw [List.range_succ, List.flatMap_append]; simp

theorem bits_len (s : Nat) : (bitsL s).length ≤ 64 := by unfold bitsL; exact Nat.le_trans (List.length_filter_le _ _) (by simp)

theorem pairsP_len (f : Nat → Nat) : ∀ n, (pairsP n f).length ≤ n * 64
  | 0 => by simp [pairsP]
  | n + 1 => by
    have := pairsP_len f n
    have := bits_len (f n)
    rw [pairsP_succ, List.length_append]
    simp only [rowP, List.length_map]; omega

theorem mem_pairsP {n : Nat} {f : Nat → Nat} {p : Int × Int} : p ∈ pairsP n f ↔ ∃ i k : Nat, i < n ∧ k < 64 ∧ (f i).testBit k = true ∧ p = ((i : Int), (k : Int)) := by
  unfold pairsP rowP
  simp only [List.mem_flatMap, List.mem_range, List.mem_map, mem_bitsL]
  constructor
  · rintro ⟨i, hi, k, ⟨hk, hb⟩, rfl⟩; exact ⟨i, k, hi, hk, hb, rfl⟩
  · rintro ⟨i, k, hi, hk, hb, rfl⟩; exact ⟨i, hi, k, ⟨hk, hb⟩, rfl⟩

theorem Own.keep {n : Nat} {h h' : AHeap} {x : Cell} {esz len : Nat} {cs : List Cell} (o : Own n h x esz cs len) (a : Kp h.length h h') : Own n h' x esz cs len := by
  refine ⟨o.1, o.2.imp id ?_⟩
  rintro ⟨k, rfl, hk, hb⟩
  exact ⟨k, rfl, hk, by rw [a.blk (blk_lt' hb)]; exact hb⟩

/-- Two rows lie apart. -/
def ApartB (x y : Cell) : Prop := ∀ k, isBlk y k → ¬ isBlk x k

theorem Own.keep_app {m : Nat} {h h' : AHeap} {x x' y : Cell} {esz len : Nat} {cs : List Cell} (o : Own m h y esz cs len) (ha : ApartB x y) (hk : ∀ j b, blk? h j = some b → ¬ isBlk x j → blk? h' j = some b ∧ ¬ isBlk x' j) : Own m h' y esz cs len ∧ ApartB x' y := by
  rcases o.2 with ⟨rfl, hz⟩ | ⟨k, rfl, hkm, hb⟩
  · exact ⟨⟨o.1, .inl ⟨rfl, hz⟩⟩, fun k hk => by cases hk⟩
  · obtain ⟨h1, h2⟩ := hk k _ hb (ha k rfl)
    refine ⟨⟨o.1, .inr ⟨k, rfl, hkm, h1⟩⟩, fun j hj => ?_⟩
    have : k = j := hj
    subst this; exact h2

theorem Own.apart {n m : Nat} {h : AHeap} {x y : Cell} {e1 e2 l1 l2 : Nat} {c1 c2 : List Cell} (o : Own n h x e1 c1 l1) (hm : h.length ≤ m) {h' : AHeap} (o2 : Own m h' y e2 c2 l2) : ApartB x y := by
  intro k hk hx
  rcases o.2 with ⟨rfl, _⟩ | ⟨k1, rfl, _, hb⟩
  · cases hx
  · rcases o2.2 with ⟨rfl, _⟩ | ⟨k2, rfl, hk2, _⟩
    · cases hk
    · have e1 : k1 = k := hx
      have e2 : k2 = k := hk
      have := blk_lt' hb
      omega

variable {E : Env}

theorem two_cells' (a b : Int) : splice [Cell.int .i64 0, Cell.int .i64 0] 0 (splice (splice [Cell.int .i64 0, Cell.int .i64 0] 0 [.int .i64 a]) 1 [.int .i64 b]) = [.int .i64 a, .int .i64 b] := rfl

theorem Pairs_R (hE : rel_Rel_Pairs_In E) (ht : TabOk E) {n : Nat} (hn : n ≤ 64) {f : Nat → Nat} (hf : Words f) (h : AHeap) :
    ∃ x h', R E 20 [.agg (relL n f)] h = some ([.c x], h') ∧ Own h.length h' x 2 (pairC (pairsP n f)) (pairsP n f).length ∧ Kp h.length h h' := by
  suffices hs' : ∃ x h', rel_Rel_Pairs.body (R E) Lim E.glob [.agg (relL n f)] h = some ([.c x], h') ∧ Own h.length h' x 2 (pairC (pairsP n f)) (pairsP n f).length ∧ Kp h.length h h' by
    obtain ⟨x, h', hh, hr⟩ := hs'; exact ⟨x, h', R_intro hE.fn hh, hr⟩
  obtain ⟨st, ⟨x, h', rfl, ho, hk⟩, hlim⟩ := Lim_inv (F := rel_Rel_Pairs_F2 (R E) Lim E.glob)
    (fun i st => ∃ x h', st = rel_Rel_Pairs_s2 x n (i : Int) (relL n f) h' ∧ Own h.length h' x 2 (pairC (pairsP i f)) (pairsP i f).length ∧ Kp h.length h h') 0 n (by omega)
    (fun i st _ hi hI => by
      obtain ⟨x, h1, rfl, ho, hk⟩ := hI
      have q1 : 0 ≤ (i : Int) ∧ (i : Int) < ((64 : Nat) : Int) := by omega
      obtain ⟨y, h2, hL, hoy, hky⟩ := List_R hE.c32 ht (hf i) h1
      have hpl := pairsP_len f i
      have hbl := bits_len (f i)
      have hnn : i * 64 ≤ 64 * 64 := Nat.mul_le_mul_right _ (by omega)
      obtain ⟨st2, ⟨x3, h3, rfl, ho3, hy3, hap3, hk3⟩, hlim2⟩ := Lim_inv (F := rel_Rel_Pairs_F1 (R E) Lim E.glob)
        (fun j st => ∃ x h', st = rel_Rel_Pairs_s1 x i n i y (bitsL (f i)).length (j : Int) (relL n f) h' ∧ Own h.length h' x 2 (pairC (pairsP i f ++ (rowP f i).take j)) (pairsP i f ++ (rowP f i).take j).length ∧ Own h1.length h' y 1 (natC (bitsL (f i))) (bitsL (f i)).length ∧ ApartB x y ∧ Kp h.length h h') 0 (bitsL (f i)).length (by omega)
        (fun j st _ hj hI => by
          obtain ⟨x, h', rfl, ho, hoy, hap, hk⟩ := hI
          obtain ⟨m, hm⟩ : ∃ m, (bitsL (f i))[j]? = some m := ⟨(bitsL (f i))[j], by simp⟩
          have hlen : (pairsP i f ++ (rowP f i).take j).length ≤ 64 * 64 + 64 := by
            rw [List.length_append, List.length_take]; omega
          obtain ⟨x', h'', ha, ho', hk', hfr⟩ := ho.app (xs := [.int .i64 (i : Int), .int .i64 (m : Int)]) (bytes := 16) hk.1 rfl (by omega) (by unfold maxBytes; omega) (by unfold maxBytes; omega)
          obtain ⟨hoy', hap'⟩ := hoy.keep_app hap hfr
          have htk : (rowP f i).take (j + 1) = (rowP f i).take j ++ [((i : Int), (m : Int))] := by
            rw [List.take_add_one]; unfold rowP; rw [List.getElem?_map, hm]; rfl
          refine ⟨rel_Rel_Pairs_s1 x' i n i y (bitsL (f i)).length ((j + 1 : Nat) : Int) (relL n f) h'', ?_, x', h'', rfl, ?_, hoy', hap', hk.trans hk'⟩
          · rw [rel_Rel_Pairs_r1, if_pos (by simp; omega), hoy.at.get1 hj (natC_get hm), asI_ok, if_pos ⟨rfl, by simp⟩, two_cells', if_pos (show (List.length [_, _] : Nat) = 1 * 2 from rfl), ha, g_succ (by omega)]
          · rw [htk, ← List.append_assoc, pairC_snoc, List.length_append]; exact ho')
        (st := rel_Rel_Pairs_s1 x i n i y (bitsL (f i)).length 0 (relL n f) h2)
        ⟨x, h2, rfl, by rw [List.take_zero, List.append_nil]; exact ho.keep hky, hoy, ho.apart (Nat.le_refl _) hoy, hk.trans (hky.mono hk.1)⟩
      have hend : rel_Rel_Pairs_F1 (R E) Lim E.glob (rel_Rel_Pairs_s1 x3 i n i y (bitsL (f i)).length ((bitsL (f i)).length : Nat) (relL n f) h3) = some (.exit 2, rel_Rel_Pairs_x1_3 x3 n i (relL n f) h3) := by
        rw [rel_Rel_Pairs_r1, if_neg (by simp)]
      have hrl : (rowP f i).take (bitsL (f i)).length = rowP f i := List.take_of_length_le (by unfold rowP; simp)
      rw [hrl, ← pairsP_succ] at ho3
      refine ⟨rel_Rel_Pairs_s2 x3 n ((i + 1 : Nat) : Int) (relL n f) h3, ?_, x3, h3, rfl, ho3, hk3⟩
      rw [rel_Rel_Pairs_r2, if_pos (by simp; omega), if_pos q1, Int.toNat_natCast, Nat.mul_one, atK_ok (relL_row (by omega)), asI_ok, hL, c1_ok, asC_ok, hoy.at.len, hlim2 _ (Lim_exit hend), bind_ok, rel_Rel_Pairs_e1_3, g_succ (by omega)])
    (st := rel_Rel_Pairs_s2 .nils n 0 (relL n f) h) ⟨.nils, h, rfl, by exact Own.nil _ _ _, Kp.refl _ _⟩
  have hend : rel_Rel_Pairs_F2 (R E) Lim E.glob (rel_Rel_Pairs_s2 x n (n : Int) (relL n f) h') = some (.exit 0, rel_Rel_Pairs_x2_1 x h') := by
    rw [rel_Rel_Pairs_r2, if_neg (by simp)]
  refine ⟨x, h', ?_, ho, hk⟩
  rw [rel_Rel_Pairs_eq, atK_ok (relL_zero _ _), asI_ok, hlim _ (Lim_exit hend), bind_ok, rel_Rel_Pairs_e2_1]

end Jq

/- RelPairs: the pairs are the ones had, in order, no more; the relation of its pairs is itself. -/
namespace Jq
open Go

/-- A row's pairs below j. -/
def rowU (f : Nat → Nat) (i j : Nat) : List (Int × Int) := ((List.range j).filter fun k => (f i).testBit k).map fun (k : Nat) => ((i : Int), (k : Int))

theorem rowU_succ (f : Nat → Nat) (i j : Nat) : rowU f i (j + 1) = rowU f i j ++ if (f i).testBit j then [((i : Int), (j : Int))] else [] := by
  unfold rowU
  rw [List.range_succ, List.filter_append, List.map_append]
  congr 1
  by_cases hb : (f i).testBit j = true
  · simp [hb]
  · simp [hb]

theorem rowU_pre (f : Nat → Nat) (i j : Nat) : ∀ d, rowU f i j <+: rowU f i (j + d)
  | 0 => List.prefix_refl _
  | d + 1 => (rowU_pre f i j d).trans (by rw [← Nat.add_assoc, rowU_succ]; exact List.prefix_append _ _)

theorem pairsP_pre (f : Nat → Nat) (i : Nat) : ∀ d, pairsP i f <+: pairsP (i + d) f
  | 0 => List.prefix_refl _
  | d + 1 => (pairsP_pre f i d).trans (by rw [← Nat.add_assoc, pairsP_succ]; exact List.prefix_append _ _)

theorem pairsP_at {n : Nat} {f : Nat → Nat} {i j : Nat} (hi : i < n) (hj : j < 64) (hb : (f i).testBit j = true) : (pairsP n f)[(pairsP i f ++ rowU f i j).length]? = some ((i : Int), (j : Int)) := by
  obtain ⟨t1, h1⟩ := pairsP_pre f (i + 1) (n - (i + 1))
  rw [show i + 1 + (n - (i + 1)) = n by omega] at h1
  obtain ⟨t2, h2⟩ := rowU_pre f i (j + 1) (64 - (j + 1))
  rw [show j + 1 + (64 - (j + 1)) = 64 by omega, rowU_succ, if_pos hb] at h2
  have h3 : rowP f i = rowU f i 64 := rfl
  rw [← h1, pairsP_succ, h3, ← h2]
  simp only [← List.append_assoc]
  rw [List.append_assoc, List.append_assoc, List.getElem?_append_right (Nat.le_refl _), Nat.sub_self]
  rfl

theorem rowU_fit {n : Nat} {f : Nat → Nat} (ff : Fit n f) (i : Nat) : ∀ d, rowU f i (n + d) = rowU f i n
  | 0 => rfl
  | d + 1 => by
    rw [← Nat.add_assoc, rowU_succ, rowU_fit ff i d, if_neg, List.append_nil]
    intro hb
    have := (ff _ _ hb).2
    omega

theorem rowU_all {n : Nat} (hn : n ≤ 64) {f : Nat → Nat} (ff : Fit n f) (i : Nat) : rowU f i n = rowP f i := by
  rw [← rowU_fit ff i (64 - n), show n + (64 - n) = 64 by omega]; rfl

theorem bit01 (x i : Nat) : x >>> i &&& 1 = if x.testBit i then 1 else 0 := by
  have : x.testBit i = (1 &&& (x >>> i) != 0) := rfl
  rw [this, Nat.and_comm, Nat.and_comm 1, Nat.and_one_is_mod]
  rcases Nat.mod_two_eq_zero_or_one (x >>> i) with h | h <;> simp [h]

section
variable {E : Env}
theorem shr_le (x i : Nat) : x >>> i ≤ x := by rw [Nat.shiftRight_eq_div_pow]; exact Nat.div_le_self _ _
theorem g_bitI {x i : Nat} (hx : x < 2 ^ 64) (hi : i ≤ 64) : E.glob.band .u64 (E.glob.shr .u64 (x : Int) (i : Int)) 1 = (((if x.testBit i then 1 else 0 : Nat)) : Int) := by
  rw [g_shr hi, show (1 : Int) = ((1 : Nat) : Int) from rfl, g_band (Nat.lt_of_le_of_lt (shr_le x i) hx) (by omega), bit01]
theorem g_bit1 {x i : Nat} (hx : x < 2 ^ 64) (hi : i ≤ 64) : (E.glob.band .u64 (E.glob.shr .u64 (x : Int) (i : Int)) 1 == 1) = x.testBit i := by
  rw [g_bitI hx hi]; cases x.testBit i <;> rfl
theorem g_bit0 {x i : Nat} (hx : x < 2 ^ 64) (hi : i ≤ 64) : (E.glob.band .u64 (E.glob.shr .u64 (x : Int) (i : Int)) 1 == 0) = !x.testBit i := by
  rw [g_bitI hx hi]; cases x.testBit i <;> rfl

theorem refHas_R (hE : jacquardref6_Rel_Has_In E) {n : Nat} {f : Nat → Nat} (hf : Words f) {a b : Nat} (ha : a < 64) (hb : b ≤ 64) {k : Nat} {o : Bool} {h : AHeap} (hk : blk? h k = some ⟨o, 0, relL n f⟩) :
    R E 7 [.c (.ptr k 65 0), .c (.int .i64 (a : Nat)), .c (.int .i64 (b : Nat))] h = some ([.c (.bool ((f a).testBit b))], h) := by
  refine R_intro hE.fn ?_
  have q1 : 0 ≤ (a : Int) ∧ (a : Int) < ((64 : Nat) : Int) := by omega
  rw [jacquardref6_Rel_Has_eq, if_pos q1, rdH_ok hk (relL_len n f)]
  dsimp only
  rw [Int.toNat_natCast, show 0 + 1 + a * 1 = 1 + a by omega, atK_ok (relL_row ha), asI_ok, if_neg (by omega), g_bit1 (hf a) hb]
end

theorem SlAt.getP {h hh : AHeap} {x : Cell} {l : List (Int × Int)} (s : SlAt h x 2 (pairC l) l.length) {i : Nat} {p : Int × Int} (hi : l[i]? = some p) {a b : Int} :
    (idxSK 2 x (i : Int) fun k N o => rdH h k N fun l => if o + 2 ≤ l.length then if alike ((l.drop o).take 2) ([Cell.int .i64 0, Cell.int .i64 0]) = true ∧ alike (splice (splice [Cell.int .i64 0, Cell.int .i64 0] 0 ([(.int .i64 a)] : List Cell)) 1 ([(.int .i64 b)] : List Cell)) ([Cell.int .i64 0, Cell.int .i64 0]) = true then
      some ((!(decide (((l.drop o).take 2) = (splice (splice [Cell.int .i64 0, Cell.int .i64 0] 0 ([(.int .i64 a)] : List Cell)) 1 ([(.int .i64 b)] : List Cell))))), hh) else none else none) = some (!(decide (p = (a, b))), hh) := by
  have hlt : i < l.length := by
    rcases Nat.lt_or_ge i l.length with h1 | h1
    · exact h1
    · rw [List.getElem?_eq_none h1] at hi; cases hi
  refine (s.getN hlt (f := fun t => if alike t ([Cell.int .i64 0, Cell.int .i64 0]) = true ∧ alike (splice (splice [Cell.int .i64 0, Cell.int .i64 0] 0 ([(.int .i64 a)] : List Cell)) 1 ([(.int .i64 b)] : List Cell)) ([Cell.int .i64 0, Cell.int .i64 0]) = true then
      some ((!(decide (t = (splice (splice [Cell.int .i64 0, Cell.int .i64 0] 0 ([(.int .i64 a)] : List Cell)) 1 ([(.int .i64 b)] : List Cell))))), hh) else none)).trans ?_
  have e : ((pairC l).drop (i * 2)).take 2 = [.int .i64 p.1, .int .i64 p.2] := by
    obtain ⟨g1, g2⟩ := pairC_get l i p hi
    refine List.ext_getElem? fun j => ?_
    rw [List.getElem?_take, List.getElem?_drop]
    match j with
    | 0 => rw [if_pos (by omega), g1]; rfl
    | 1 => rw [if_pos (by omega), g2]; rfl
    | j + 2 => rw [if_neg (by omega)]; rfl
  have e2 : splice (splice [Cell.int .i64 0, Cell.int .i64 0] 0 ([(.int .i64 a)] : List Cell)) 1 ([(.int .i64 b)] : List Cell) = [.int .i64 a, .int .i64 b] := rfl
  rw [e, e2, if_pos ⟨rfl, rfl⟩]
  congr 3
  rw [decide_eq_decide]
  obtain ⟨c, d⟩ := p
  simp

theorem rel_pairs {n : Nat} (hn : n ≤ 64) {f : Nat → Nat} (hf : Words f) (ff : Fit n f) : relL n (ofR n (pairsP n f)) = relL n f := rel_eq (words_of _ _) hf fun i j => by
  rw [of_bit hn]
  constructor
  · rintro ⟨p, hp, _, _, h1, h2⟩
    obtain ⟨a, b, _, _, hb, rfl⟩ := mem_pairsP.1 hp
    have e1 : a = i := Int.ofNat.inj h1
    have e2 : b = j := Int.ofNat.inj h2
    rw [← e1, ← e2]; exact hb
  · intro hb
    obtain ⟨h1, h2⟩ := ff _ _ hb
    exact ⟨_, mem_pairsP.2 ⟨i, j, h1, by omega, hb, rfl⟩, by rw [inR_nat]; simpa using h1, by rw [inR_nat]; simpa using h2, rfl, rfl⟩

variable {E : Env}

theorem RelPairs_R (hE : jacquardlaw8_RelPairs_In E) (ht : TabOk E) (a0 : Int) {x1 : Cell} {l1 : List (Int × Int)} {h : AHeap} (hx1 : SlAt h x1 2 (pairC l1) l1.length) (hl1 : Low h.length x1) :
    R E 240 [.c (.int .i64 a0), .c x1] h = some ([.c (.bool true)], h) := by
  refine R_intro hE.fn ?_
  rw [jacquardlaw8_RelPairs_eq]
  have hn : clamp a0 ≤ 64 := by unfold clamp; omega
  have hv : (if 64 < (if 0 > a0 then 0 else a0) then 64 else (if 0 > a0 then 0 else a0)) = ((clamp a0 : Nat) : Int) := by unfold clamp; split <;> split <;> omega
  simp only [hv]
  generalize clamp a0 = n at hn
  rw [Of_R hE.c1 (n : Int) hx1 hl1, c2_ok, asA_ok, asA_ok, clamp_nat hn]
  have hf := words_of n (l1.take 200)
  have ff := of_fit hn (l1.take 200)
  simp only [relL_len, zero_len, and_self, if_true]
  generalize ofR n (l1.take 200) = f at *
  rw [rdH_ok (blk_new h _) zero_len]
  dsimp only
  rw [if_pos ⟨by trivial, zero_len, by trivial⟩, putH_ok (blk_new h _) rfl, setBlk_last]
  dsimp only
  obtain ⟨x, h2, hP, hx, hk⟩ := Pairs_R hE.c20 ht hn hf (h ++ [some ⟨true, 0, relL n f⟩])
  rw [hP, c1_ok, asC_ok]
  have hk2 : blk? h2 h.length = some ⟨true, 0, relL n f⟩ := by rw [hk.blk (by simp)]; exact blk_new _ _
  have hK : Kp h.length h h2 := (Kp.app _ (Nat.le_refl _)).trans (hk.mono (by simp))
  have hlen : ∀ i j, i < n → j ≤ n → (pairsP i f ++ rowU f i j).length ≤ 64 * 64 + 64 := by
    intro i j hi hj
    have h1 := pairsP_len f i
    have h2 : (rowU f i j).length ≤ j := by unfold rowU; rw [List.length_map]; exact Nat.le_trans (List.length_filter_le _ _) (by simp)
    rw [List.length_append]
    omega
  have outer : Lim (jacquardlaw8_RelPairs_F2 (R E) Lim E.glob) (jacquardlaw8_RelPairs_s2 n h.length 65 0 x ((pairsP 0 f).length : Nat) ((0 : Nat) : Int) (relL n f) h2) = some (.exit 0, jacquardlaw8_RelPairs_x2_1 n x ((pairsP n f).length : Nat) (relL n f) h2) := by
    refine Lim_count (fun i => jacquardlaw8_RelPairs_s2 n h.length 65 0 x ((pairsP i f).length : Nat) (i : Int) (relL n f) h2) 0 n (by omega) (fun i _ hi => ?_) (Lim_exit ?_)
    · have inner : Lim (jacquardlaw8_RelPairs_F1 (R E) Lim E.glob) (jacquardlaw8_RelPairs_s1 n h.length 65 0 x ((pairsP i f ++ rowU f i 0).length : Nat) i ((0 : Nat) : Int) (relL n f) h2) = some (.exit 2, jacquardlaw8_RelPairs_x1_3 n h.length 65 0 x ((pairsP i f ++ rowU f i n).length : Nat) i (relL n f) h2) := by
        refine Lim_count (fun j => jacquardlaw8_RelPairs_s1 n h.length 65 0 x ((pairsP i f ++ rowU f i j).length : Nat) i (j : Int) (relL n f) h2) 0 n (by omega) (fun j _ hj => ?_) (Lim_exit ?_)
        · rw [jacquardlaw8_RelPairs_r1, if_pos (by simp; omega), if_pos ⟨rfl, relL_len _ _⟩, HasS hE.c3 hn hf hi (by omega), c1_ok, asB_ok, refHas_R hE.c7 hf (by omega) (by omega) hk2, c1_ok, asB_ok, refHas_R hE.c7 hf (by omega) (by omega) hk2, c1_ok, asB_ok, beq_self_eq_true, if_neg (by simp), g_succ (by omega)]
          cases hb : (f i).testBit j with
          | false =>
            rw [if_pos (by simp), rowU_succ, hb]
            simp
          | true =>
            have hp := pairsP_at hi (show j < 64 by omega) hb
            have hlt : (pairsP i f ++ rowU f i j).length < (pairsP n f).length := by
              rcases Nat.lt_or_ge (pairsP i f ++ rowU f i j).length (pairsP n f).length with h1 | h1
              · exact h1
              · rw [List.getElem?_eq_none h1] at hp; cases hp
            have hle := hlen i j hi (by omega)
            rw [if_neg (by simp), hx.at.len, show decide ((((pairsP i f ++ rowU f i j).length : Nat) : Int) ≥ (((pairsP n f).length : Nat) : Int)) = false from decide_eq_false (fun q => absurd (Int.ofNat_le.1 q) (Nat.not_le.2 hlt)), scK_ok, hx.at.getP hp, bind_ok]
            dsimp only
            rw [if_neg (by simp), g_succ (by omega), rowU_succ, hb, if_pos rfl, ← List.append_assoc, List.length_append (bs := [_])]
            rfl
        · rw [jacquardlaw8_RelPairs_r1, if_neg (by simp)]
      rw [show pairsP i f ++ rowU f i 0 = pairsP i f from List.append_nil _, rowU_all hn ff, ← pairsP_succ] at inner
      rw [jacquardlaw8_RelPairs_r2, if_pos (by simp; omega), show (0 : Int) = ((0 : Nat) : Int) from rfl, inner, bind_ok, jacquardlaw8_RelPairs_e1_3, g_succ (by omega)]
    · rw [jacquardlaw8_RelPairs_r2, if_neg (by simp)]
  rw [show jacquardlaw8_RelPairs_s2 n h.length 65 0 x 0 0 (relL n f) h2 = jacquardlaw8_RelPairs_s2 n h.length 65 0 x ((pairsP 0 f).length : Nat) ((0 : Nat) : Int) (relL n f) h2 from rfl, outer, bind_ok, jacquardlaw8_RelPairs_e2_1, Of_R hE.c1 (n : Int) hx.at hx.low, c2_ok, asA_ok, asA_ok, clamp_nat hn]
  simp only [relL_len, zero_len, and_self, if_true]
  rw [hx.at.len, beq_self_eq_true, scK_ok]
  have e1 : (scK (decide ((((pairsP n f).length : Nat) : Int) > 200)) false (if alike (relL n (ofR n ((pairsP n f).take 200))) ([Cell.int .i64 0] ++ List.replicate 64 (Cell.int .u64 0)) = true ∧ alike (relL n f) ([Cell.int .i64 0] ++ List.replicate 64 (Cell.int .u64 0)) = true then some ((decide (relL n (ofR n ((pairsP n f).take 200)) = relL n f)), h2) else none) true h2 fun b h => some (b, h)) = some (true, h2) := by
    by_cases hl : (pairsP n f).length ≤ 200
    · rw [show decide ((((pairsP n f).length : Nat) : Int) > 200) = false by simp; omega, scK_ok, List.take_of_length_le hl, rel_pairs hn hf ff, zero_rel]
      simp only [alike_rel, and_self, if_true, decide_true]
      rfl
    · rw [show decide ((((pairsP n f).length : Nat) : Int) > 200) = true by simp; omega, scK_tf]
  rw [e1, bind_ok]
  dsimp only
  have b1 : hasR n f (-1) 0 = false := by unfold hasR inR; simp
  have b2 : hasR n f 0 64 = false := by unfold hasR hasI; simp
  have b3 : inR n (-1) = false := by unfold inR; simp
  have b4 : inR n 64 = false := by unfold inR; simp; omega
  simp only [relL_len, HasR_R hE.c3 hn hf, Row_R hE.c41 hn, awake8_R hE.c55, c1_ok, asI_ok, asB_ok, and_self, if_true, bind_ok, scK_ok, b1, b2, b3, b4, Bool.not_false, Bool.false_eq_true, if_false]
  exact finish_gc hK (by simp [avOk, AV.cells, idOk])

theorem RelPairs_law (ht : TabOk E) (hE : jacquardlaw8_RelPairs_In E) {h : AHeap} {c0 c1 : List Cell} (o0 : okC h (.i .i64) c0) (o1 : okC h (.sl shPair) c1) :
    ∃ h', R E 240 [av1 (.i .i64) c0, av1 (.sl shPair) c1] h = some ([.c (.bool true)], h') := by
  obtain ⟨a0, e0, _⟩ := arg_int o0
  obtain ⟨x1, l1, e1, hx1, hl1, _⟩ := arg_pairs o1
  rw [e0, e1]
  exact ⟨h, RelPairs_R hE ht a0 hx1 hl1⟩

end Jq

/- RelAlgebra: joining and meeting are the same both ways; turned twice a relation is itself; closed twice it is closed. -/
namespace Jq
open Go

theorem clK_ge {n : Nat} {f : Nat → Nat} {a : Nat} (ha : n ≤ a) : ∀ k, clK n f k a = f a
  | 0 => rfl
  | k + 1 => by rw [clK, cl1_eq, if_neg (by omega), clK_ge ha k]

theorem clK_bit {n : Nat} {f : Nat → Nat} (ff : Fit n f) (a b : Nat) : (clK n f n a).testBit b = true ↔ Way f n a b := by
  rcases Nat.lt_or_ge a n with ha | ha
  · exact clK_way n f n (Nat.le_refl _) a b ha
  · rw [clK_ge ha]
    constructor
    · exact fun h => .one h
    · intro w
      have : a < n := by
        cases w with
        | one h => exact (ff _ _ h).1
        | step h _ _ => exact (ff _ _ h).1
      omega

theorem way_fit {n : Nat} {f : Nat → Nat} (ff : Fit n f) {a b : Nat} (w : Way f n a b) : a < n ∧ b < n := by
  induction w with
  | one h => exact ff _ _ h
  | step h _ _ ih => exact ⟨(ff _ _ h).1, ih.2⟩

theorem clK_fit {n : Nat} {f : Nat → Nat} (ff : Fit n f) : Fit n (clK n f n) := fun a b h => way_fit ff ((clK_bit ff a b).1 h)

theorem way_way {n : Nat} {f : Nat → Nat} (ff : Fit n f) {a b : Nat} : Way (clK n f n) n a b ↔ Way f n a b := by
  constructor
  · intro w
    induction w with
    | one h => exact (clK_bit ff _ _).1 h
    | step h hc _ ih => exact ((clK_bit ff _ _).1 h).trans hc ih
  · intro w; exact .one ((clK_bit ff _ _).2 w)

variable {E : Env}

theorem clamp_eq (a : Int) : (if 64 < (if 0 > a then 0 else a) then 64 else (if 0 > a then 0 else a)) = ((clamp a : Nat) : Int) := by
  unfold clamp; split <;> split <;> omega
theorem clamp_le (a : Int) : clamp a ≤ 64 := by unfold clamp; omega

theorem RelAlgebra_R (hE : jacquardlaw8_RelAlgebra_In E) (ht : TabOk E) (a0 : Int) {x1 x2 : Cell} {l1 l2 : List (Int × Int)} {h : AHeap} (hx1 : SlAt h x1 2 (pairC l1) l1.length) (hl1 : Low h.length x1)
    (hx2 : SlAt h x2 2 (pairC l2) l2.length) (hl2 : Low h.length x2) : R E 243 [.c (.int .i64 a0), .c x1, .c x2] h = some ([.c (.bool true)], h) := by
  refine R_intro hE.fn ?_
  rw [jacquardlaw8_RelAlgebra_eq]
  have hn := clamp_le a0
  simp only [clamp_eq]
  generalize clamp a0 = n at hn
  rw [Of_R hE.c1 (n : Int) hx1 hl1, c2_ok, asA_ok, asA_ok, clamp_nat hn]
  have hf := words_of n (l1.take 200)
  have hg := words_of n (l2.take 200)
  have ff := of_fit hn (l1.take 200)
  have fg := of_fit hn (l2.take 200)
  simp only [relL_len, zero_len, and_self, if_true]
  rw [Of_R hE.c1 (n : Int) hx2 hl2, c2_ok, asA_ok, asA_ok, clamp_nat hn]
  simp only [relL_len, and_self, if_true]
  generalize ofR n (l1.take 200) = f at *
  generalize ofR n (l2.take 200) = g at *
  have hc := words_clK hf n n
  have fc := clK_fit ff
  have e1 : relL n (UNI n f g) = relL n (UNI n g f) := rel_eq (w_UNI _ _ _) (w_UNI _ _ _) fun i j => by simp only [b_UNI hn]; constructor <;> (rintro ⟨q1, q2, q⟩; exact ⟨q1, q2, q.symm⟩)
  have e2 : relL n (MEE n f g) = relL n (MEE n g f) := rel_eq (w_MEE _ _ _) (w_MEE _ _ _) fun i j => by simp only [b_MEE hn]; constructor <;> (rintro ⟨q1, q2, q⟩; exact ⟨q1, q2, q.symm⟩)
  have e3 : relL n (INV n (INV n f)) = relL n f := rel_eq (w_INV _ _) hf fun i j => by
    simp only [b_INV hn]
    exact ⟨fun q => q.2.2, fun q => ⟨(ff _ _ q).2, (ff _ _ q).1, q⟩⟩
  have e4 : relL n (clK n (clK n f n) n) = relL n (clK n f n) := rel_eq (words_clK hc n n) hc fun i j => by
    rw [clK_bit fc, clK_bit ff, way_way ff]
  have e5 : relL n (INV n (TH n f g)) = relL n (TH n (INV n g) (INV n f)) := rel_eq (w_INV _ _) (w_TH _ _ _) fun i j => by
    simp only [b_INV hn, b_TH hn]
    constructor
    · rintro ⟨q1, _, q2, k, q3, q4, q5⟩; exact ⟨q2, q1, k, q3, ⟨q3, q5⟩, q1, q4⟩
    · rintro ⟨q2, q1, k, q3, ⟨_, q5⟩, _, q4⟩; exact ⟨q1, q1, q2, k, q3, q4, q5⟩
  have e6 : relL n (UNI n (MIN n f g) (MEE n f g)) = relL n f := rel_eq (w_UNI _ _ _) hf fun i j => by
    simp only [b_UNI hn, b_MIN hn, b_MEE hn]
    constructor
    · rintro ⟨_, _, ⟨_, _, q, _⟩ | ⟨_, _, q, _⟩⟩ <;> exact q
    · intro q
      obtain ⟨q1, q2⟩ := ff _ _ q
      by_cases hgb : (g i).testBit j = true
      · exact ⟨q1, q2, .inr ⟨q1, q2, q, hgb⟩⟩
      · exact ⟨q1, q2, .inl ⟨q1, q2, q, hgb⟩⟩
  have e6' : relL n (UNI n (MIN n f g) (MEE n g f)) = relL n f := rel_eq (w_UNI _ _ _) hf fun i j => by
    simp only [b_UNI hn, b_MIN hn, b_MEE hn]
    constructor
    · rintro ⟨_, _, ⟨_, _, q, _⟩ | ⟨_, _, _, q⟩⟩ <;> exact q
    · intro q
      obtain ⟨q1, q2⟩ := ff _ _ q
      by_cases hgb : (g i).testBit j = true
      · exact ⟨q1, q2, .inr ⟨q1, q2, hgb, q⟩⟩
      · exact ⟨q1, q2, .inl ⟨q1, q2, q, hgb⟩⟩
  have e7 : relL n (UNI n (TH n (clK n f n) (clK n f n)) (clK n f n)) = relL n (clK n f n) := rel_eq (w_UNI _ _ _) hc fun i j => by
    simp only [b_UNI hn, b_TH hn]
    constructor
    · rintro ⟨_, _, ⟨_, _, k, q3, q4, q5⟩ | q⟩
      · exact (clK_bit ff _ _).2 (((clK_bit ff _ _).1 q4).trans q3 ((clK_bit ff _ _).1 q5))
      · exact q
    · intro q
      exact ⟨(fc _ _ q).1, (fc _ _ q).2, .inr q⟩
  have e8 : relL n (UNI n f (clK n f n)) = relL n (clK n f n) := rel_eq (w_UNI _ _ _) hc fun i j => by
    simp only [b_UNI hn]
    constructor
    · rintro ⟨_, _, q | q⟩
      · exact (clK_bit ff _ _).2 (.one q)
      · exact q
    · intro q
      exact ⟨(fc _ _ q).1, (fc _ _ q).2, .inr q⟩
  have e9 : relL n (UNI n f f) = relL n f := rel_eq (w_UNI _ _ _) hf fun i j => by
    simp only [b_UNI hn, or_self]
    exact ⟨fun q => q.2.2, fun q => ⟨(ff _ _ q).1, (ff _ _ q).2, q⟩⟩
  simp only [relL_len, zero_len, and_self, if_true, Then_S hE.c58 ht hn, Union_S hE.c59 hn, Meet_S hE.c67 hn, Minus_S hE.c68 hn, Inverse_S hE.c40 ht hn, Closure_R hE.c12 hn, awake8_R hE.c55, hf, hg, hc, w_TH, w_UNI, w_MEE, w_MIN, w_INV, qh_ok, c1_ok, asA_ok, asB_ok, bind_ok, scK_ok, zero_rel, alike_rel, e1, e2, e3, e4, e5, e6, e6', e7, e8, e9, decide_true]

theorem RelAlgebra_law (ht : TabOk E) (hE : jacquardlaw8_RelAlgebra_In E) {h : AHeap} {c0 c1 c2 : List Cell} (o0 : okC h (.i .i64) c0) (o1 : okC h (.sl shPair) c1) (o2 : okC h (.sl shPair) c2) :
    ∃ h', R E 243 [av1 (.i .i64) c0, av1 (.sl shPair) c1, av1 (.sl shPair) c2] h = some ([.c (.bool true)], h') := by
  obtain ⟨a0, e0, _⟩ := arg_int o0
  obtain ⟨x1, l1, e1, hx1, hl1, _⟩ := arg_pairs o1
  obtain ⟨x2, l2, e2, hx2, hl2, _⟩ := arg_pairs o2
  rw [e0, e1, e2]
  exact ⟨h, RelAlgebra_R hE ht a0 hx1 hl1 hx2 hl2⟩

end Jq

/- Relations told once more, by hand: closing, none leading to itself, cutting down, whether two are the same. -/
namespace Jq
open Go

theorem Low_mono {n m : Nat} (hm : n ≤ m) : ∀ {x : Cell}, Low n x → Low m x := by
  intro x h
  unfold Low at *
  split <;> simp_all
  omega

theorem avOk_rel (m n : Nat) (f : Nat → Nat) : avOk m (.agg (relL n f)) = true := by simp [avOk, AV.cells, relL, idOk]

/-- What holds, over r. -/
def ACC (r : Nat) (q : Nat → Nat → Bool) : Nat → Nat := fun a => mkN fun b => decide (a < r) && decide (b < r) && q a b

theorem w_ACC (r : Nat) (q : Nat → Nat → Bool) : Words (ACC r q) := fun _ => mkN_lt _

theorem b_ACC {r : Nat} (hr : r ≤ 64) (q : Nat → Nat → Bool) (a b : Nat) : (ACC r q a).testBit b = (decide (a < r) && decide (b < r) && q a b) := by
  unfold ACC
  rw [testBit_mkN, Bool.eq_iff_iff]
  simp only [Bool.and_eq_true, decide_eq_true_eq]
  constructor
  · rintro ⟨_, h⟩; exact h
  · rintro h; exact ⟨by omega, h⟩

theorem ACC_fit {r : Nat} (hr : r ≤ 64) (q : Nat → Nat → Bool) : Fit r (ACC r q) := fun a b h => by
  rw [b_ACC hr] at h; simp only [Bool.and_eq_true, decide_eq_true_eq] at h; exact h.1

theorem ACC_eq {r : Nat} (hr : r ≤ 64) {q q' : Nat → Nat → Bool} (h : ∀ a b, a < r → b < r → q a b = q' a b) : relL r (ACC r q) = relL r (ACC r q') := rel_eq (w_ACC _ _) (w_ACC _ _) fun a b => by
  rw [b_ACC hr, b_ACC hr]
  simp only [Bool.and_eq_true, decide_eq_true_eq]
  constructor
  · rintro ⟨⟨h1, h2⟩, h3⟩; exact ⟨⟨h1, h2⟩, by rw [← h a b h1 h2]; exact h3⟩
  · rintro ⟨⟨h1, h2⟩, h3⟩; exact ⟨⟨h1, h2⟩, by rw [h a b h1 h2]; exact h3⟩

theorem ACC_add {r : Nat} (hr : r ≤ 64) {q q' : Nat → Nat → Bool} {i j : Nat} (hi : i < r) (hj : j < r) (h : ∀ a b, a < r → b < r → q' a b = (q a b || (decide (a = i) && decide (b = j)))) :
    relL r (addR r (ACC r q) (i : Int) (j : Int)) = relL r (ACC r q') := rel_eq (words_add (w_ACC _ _) _ _) (w_ACC _ _) fun a b => by
  rw [addR_bit hr, b_ACC hr, b_ACC hr, inR_nat, inR_nat, show decide (i < r) = true by simpa using hi, show decide (j < r) = true by simpa using hj]
  simp only [Bool.and_eq_true, Bool.or_eq_true, decide_eq_true_eq, Bool.true_and]
  constructor
  · rintro (⟨⟨h1, h2⟩, h3⟩ | ⟨h1, h2⟩)
    · exact ⟨⟨h1, h2⟩, by rw [h a b h1 h2, h3]; rfl⟩
    · have h1 : a = i := (Int.ofNat.inj h1).symm
      have h2 : b = j := (Int.ofNat.inj h2).symm
      subst h1; subst h2
      exact ⟨⟨hi, hj⟩, by rw [h a b hi hj]; simp⟩
  · rintro ⟨⟨h1, h2⟩, h3⟩
    rw [h a b h1 h2] at h3
    simp only [Bool.or_eq_true, Bool.and_eq_true, decide_eq_true_eq] at h3
    rcases h3 with h3 | ⟨rfl, rfl⟩
    · exact .inl ⟨⟨h1, h2⟩, h3⟩
    · exact .inr ⟨rfl, rfl⟩

theorem ACC_none {r : Nat} (hr : r ≤ 64) {q : Nat → Nat → Bool} (h : ∀ a b, a < r → b < r → q a b = false) : relL r (ACC r q) = relL r fun _ => 0 := rel_eq (w_ACC _ _) words_zero fun a b => by
  rw [b_ACC hr]
  simp only [Bool.and_eq_true, decide_eq_true_eq, Nat.zero_testBit]
  constructor
  · rintro ⟨⟨h1, h2⟩, h3⟩; rw [h a b h1 h2] at h3; exact h3
  · intro h; cases h

variable {E : Env}

theorem refClosure_R (hE : jacquardref6_Closure_In E) {n : Nat} (hn : n ≤ 64) {f : Nat → Nat} (hf : Words f) (h : AHeap) :
    R E 6 [.agg (relL n f)] h = some ([.agg (relL n (clK n f n))], h) := by
  refine R_intro hE.fn ?_
  rw [jacquardref6_Closure_eq]
  have outer : Lim (jacquardref6_Closure_F2 (R E) Lim E.glob) (jacquardref6_Closure_s2 h.length 65 0 ((0 : Nat) : Int) zeroL (h ++ [some ⟨true, 0, relL n (clK n f 0)⟩])) = some (.exit 0, jacquardref6_Closure_x2_1 h.length 65 0 zeroL (h ++ [some ⟨true, 0, relL n (clK n f n)⟩])) := by
    refine Lim_count (fun k => jacquardref6_Closure_s2 h.length 65 0 (k : Int) zeroL (h ++ [some ⟨true, 0, relL n (clK n f k)⟩])) 0 n (by omega) (fun k _ hk => ?_) (Lim_exit ?_)
    · have inner : Lim (jacquardref6_Closure_F1 (R E) Lim E.glob) (jacquardref6_Closure_s1 h.length 65 0 k ((0 : Nat) : Int) zeroL (h ++ [some ⟨true, 0, relL n (cl1 k 0 (clK n f k))⟩])) = some (.exit 2, jacquardref6_Closure_x1_3 h.length 65 0 k zeroL (h ++ [some ⟨true, 0, relL n (cl1 k n (clK n f k))⟩])) := by
        refine Lim_count (fun i => jacquardref6_Closure_s1 h.length 65 0 k (i : Int) zeroL (h ++ [some ⟨true, 0, relL n (cl1 k i (clK n f k))⟩])) 0 n (by omega) (fun i _ hi => ?_) (Lim_exit ?_)
        · have hw := words_cl1 (words_clK hf n k) k i
          have q1 : 0 ≤ (i : Int) ∧ (i : Int) < ((64 : Nat) : Int) := by omega
          have q2 : 0 ≤ (k : Int) ∧ (k : Int) < ((64 : Nat) : Int) := by omega
          have rd : ∀ {α : Type} (g : List Cell → Option α), rdH (h ++ [some ⟨true, 0, relL n (cl1 k i (clK n f k))⟩]) h.length 65 g = g (relL n (cl1 k i (clK n f k))) := fun g => rdH_ok (blk_new h _) (relL_len _ _)
          rw [jacquardref6_Closure_r1, rd, atK_ok (i := 0 + 0) (relL_zero _ _), asI_ok, if_pos (by simp; omega), refHas_R hE.c7 hw (by omega) (by omega) (blk_new h _), c1_ok, asB_ok, cl1, clS]
          cases hb : (cl1 k i (clK n f k) i).testBit k with
          | true =>
            simp only [if_true]
            rw [if_pos q1, rd, Int.toNat_natCast, Int.toNat_natCast, show 0 + 1 + i * 1 = 1 + i by omega, show 0 + 1 + k * 1 = 1 + k by omega, atK_ok (relL_row (by omega)), asI_ok, if_pos q2, rd, atK_ok (relL_row (by omega)), asI_ok, if_pos q1, rd, if_pos (by rw [relL_len]; omega), g_bor (hw _) (hw _), relL_set, putH_ok (blk_new h _) rfl, setBlk_last, g_succ (by omega)]
          | false => simp only [Bool.false_eq_true, if_false]; rw [g_succ (by omega)]
        · rw [jacquardref6_Closure_r1, rdH_ok (blk_new h _) (relL_len _ _), atK_ok (i := 0 + 0) (relL_zero _ _), asI_ok, if_neg (by simp)]
      rw [jacquardref6_Closure_r2, rdH_ok (blk_new h _) (relL_len _ _), atK_ok (i := 0 + 0) (relL_zero _ _), asI_ok, if_pos (by simp; omega), show jacquardref6_Closure_s1 h.length 65 0 k 0 zeroL (h ++ [some ⟨true, 0, relL n (clK n f k)⟩]) = jacquardref6_Closure_s1 h.length 65 0 k ((0 : Nat) : Int) zeroL (h ++ [some ⟨true, 0, relL n (cl1 k 0 (clK n f k))⟩]) from rfl, inner, bind_ok, jacquardref6_Closure_e1_3, g_succ (by omega)]
      rfl
    · rw [jacquardref6_Closure_r2, rdH_ok (blk_new h _) (relL_len _ _), atK_ok (i := 0 + 0) (relL_zero _ _), asI_ok, if_neg (by simp)]
  have hc : (AV.cells (.agg (relL n f))).length = 65 := relL_len _ _
  rw [hc, show jacquardref6_Closure_s2 h.length 65 0 0 ([Cell.int .i64 0] ++ List.replicate 64 (Cell.int .u64 0)) (h ++ [some (Blk.mk true 0 (AV.cells (.agg (relL n f))))]) = jacquardref6_Closure_s2 h.length 65 0 ((0 : Nat) : Int) zeroL (h ++ [some ⟨true, 0, relL n (clK n f 0)⟩]) from rfl, outer, bind_ok, jacquardref6_Closure_e2_1, rdH_ok (blk_new h _) (relL_len _ _)]
  simp only [relL_len, zeroL, zero_len, and_self, if_true]
  exact finish_gc (Kp.app _ (Nat.le_refl _)) (by simp [avOk_rel])

theorem refAcyclic_R (hE : jacquardref6_Acyclic_In E) {n : Nat} (hn : n ≤ 64) {f : Nat → Nat} (hf : Words f) (h : AHeap) :
    R E 71 [.agg (relL n f)] h = some ([.c (.bool (acycR n f))], h) := by
  refine R_intro hE.fn ?_
  have hw := words_clK hf n n
  rw [jacquardref6_Acyclic_eq, if_pos ⟨rfl, relL_len _ _⟩, refClosure_R hE.c6 hn hf, c1_ok, asA_ok, rdH_ok (blk_new h _) zero_len, if_pos ⟨rfl, zero_len, relL_len _ _⟩, putH_ok (blk_new h _) rfl, setBlk_last, zero_len]
  dsimp only
  have loop := Lim_any (F := jacquardref6_Acyclic_F1 (R E) Lim E.glob) (fun i => jacquardref6_Acyclic_s1 h.length 65 0 (i : Int) (relL n f) (h ++ [some ⟨true, 0, relL n (clK n f n)⟩])) (fun i => (clK n f n i).testBit i) (.ret, jacquardref6_Acyclic_x1_0 false (h ++ [some ⟨true, 0, relL n (clK n f n)⟩])) (.exit 0, jacquardref6_Acyclic_x1_1 (h ++ [some ⟨true, 0, relL n (clK n f n)⟩])) n (fun i hi => by
      rw [jacquardref6_Acyclic_r1, atK_ok (relL_zero _ _), asI_ok, if_pos (by simp; omega), refHas_R hE.c7 hw (by omega) (by omega) (blk_new h _), c1_ok, asB_ok, g_succ (by omega)]) (by simp) (by
      rw [jacquardref6_Acyclic_r1, atK_ok (relL_zero _ _), asI_ok, if_neg (by simp)]) (by simp)
  simp only [Int.ofNat_zero, Int.natCast_zero] at loop
  rw [loop, bind_ok]
  unfold acycR
  cases (List.range n).any fun i => (clK n f n i).testBit i with
  | true => simp only [if_true]; rw [jacquardref6_Acyclic_e1_0]; exact finish_gc (Kp.app _ (Nat.le_refl _)) (by simp [avOk, AV.cells, idOk])
  | false => simp only [Bool.false_eq_true, if_false]; rw [jacquardref6_Acyclic_e1_1]; exact finish_gc (Kp.app _ (Nat.le_refl _)) (by simp [avOk, AV.cells, idOk])

theorem Same_R (hE : jacquardlaw8_Same_In E) {n : Nat} (hn : n ≤ 64) {f g : Nat → Nat} (hfg : ∀ i, i < 64 → (if i < n then f i else 0) = g i) (h : AHeap) :
    R E 69 [.agg (relL n f), .agg (relL n g)] h = some ([.c (.bool true)], h) := by
  refine R_intro hE.fn ?_
  have loop : Lim (jacquardlaw8_Same_F1 (R E) Lim E.glob) (jacquardlaw8_Same_s1 ((0 : Nat) : Int) (relL n f) (relL n g) h) = some (.exit 0, jacquardlaw8_Same_x1_1 h) := by
    refine Lim_count (fun i => jacquardlaw8_Same_s1 (i : Int) (relL n f) (relL n g) h) 0 64 (by omega) (fun i _ hi => ?_) (Lim_exit ?_)
    · have q1 : 0 ≤ (i : Int) ∧ (i : Int) < ((64 : Nat) : Int) := by omega
      have hr := hfg i hi
      rw [jacquardlaw8_Same_r1, if_pos (by simp; omega), if_pos ⟨rfl, relL_len _ _⟩, Row_R hE.c41 hn, qh_ok, c1_ok, asI_ok, if_pos q1, Int.toNat_natCast, Nat.mul_one, atK_ok (relL_row hi), asI_ok, inR_nat, g_succ (by omega)]
      simp only [decide_eq_true_eq]
      rw [hr, bne_self_eq_false, if_neg (by simp)]
    · rw [jacquardlaw8_Same_r1, if_neg (by simp)]
  rw [jacquardlaw8_Same_eq, if_pos ⟨rfl, relL_len _ _⟩, N_R hE.c14, qh_ok, c1_ok, asI_ok, atK_ok (relL_zero _ _), asI_ok, bne_self_eq_false, if_neg (by simp), show (0 : Int) = ((0 : Nat) : Int) from rfl, loop, bind_ok, jacquardlaw8_Same_e1_1]

theorem Same_S (hE : jacquardlaw8_Same_In E) {n : Nat} (hn : n ≤ 64) {f g : Nat → Nat} (hf : Words f) (hg : Words g) (hfg : ∀ i j, ((f i).testBit j = true ∧ i < n) ↔ (g i).testBit j = true) (h : AHeap) :
    R E 69 [.agg (relL n f), .agg (relL n g)] h = some ([.c (.bool true)], h) := by
  refine Same_R hE hn (fun i _ => ?_) h
  by_cases hi : i < n
  · rw [if_pos hi]
    refine eq_of_bits (hf i) (hg i) fun j _ => ?_
    rw [Bool.eq_iff_iff, ← hfg i j]
    exact ⟨fun q => ⟨q, hi⟩, fun q => q.1⟩
  · rw [if_neg hi]
    refine eq_of_bits (by omega) (hg i) fun j _ => ?_
    rw [Bool.eq_iff_iff, ← hfg i j, Nat.zero_testBit]
    exact ⟨fun q => (by cases q), fun q => absurd q.2 hi⟩

/-- Up to row i, place j. -/
def upto (i j a b : Nat) : Bool := decide (a < i) || (decide (a = i) && decide (b < j))

theorem cut_R (hE : jacquardlaw8_cut_In E) {n m : Nat} (hn : n ≤ 64) (hm : m ≤ 64) {f : Nat → Nat} (hf : Words f) (h : AHeap) :
    R E 70 [.agg (relL n f), .c (.int .i64 (m : Int))] h = some ([.agg (relL (min n m) (ACC (min n m) fun a b => (f a).testBit b))], h) := by
  refine R_intro hE.fn ?_
  have hc : AV.cells (.agg (relL n f)) = relL n f := rfl
  have hmin : (if (m : Int) < (n : Int) then (m : Int) else (n : Int)) = ((min n m : Nat) : Int) := by split <;> omega
  have hl1 : (h ++ [some (Blk.mk true 0 (relL n f))]).length = h.length + 1 := by simp
  have hb1 : ∀ t, blk? ((h ++ [some (Blk.mk true 0 (relL n f))]) ++ t) h.length = some ⟨true, 0, relL n f⟩ := fun t => blk_old (blk_new h _) t
  have hb2 : ∀ c, blk? ((h ++ [some (Blk.mk true 0 (relL n f))]) ++ [some (Blk.mk true 0 c)]) (h ++ [some (Blk.mk true 0 (relL n f))]).length = some ⟨true, 0, c⟩ := fun c => blk_new _ _
  have hset : ∀ c c', setBlk ((h ++ [some (Blk.mk true 0 (relL n f))]) ++ [some (Blk.mk true 0 c)]) (h ++ [some (Blk.mk true 0 (relL n f))]).length (some ⟨true, 0, c'⟩) = (h ++ [some (Blk.mk true 0 (relL n f))]) ++ [some (Blk.mk true 0 c')] := fun c c' => setBlk_last _ _ _
  have hK : Kp h.length h (h ++ [some (Blk.mk true 0 (relL n f))]) := Kp.app _ (Nat.le_refl _)
  rw [jacquardlaw8_cut_eq, hc, rdH_ok (blk_new h _) rfl, atK_ok (relL_zero _ _), asI_ok, hmin]
  generalize hH : h ++ [some (Blk.mk true 0 (relL n f))] = H at *
  have hr : min n m ≤ 64 := by omega
  have hrn : min n m ≤ n := by omega
  generalize min n m = r at *
  rw [rdH_ok (hb2 _) rfl, if_pos ⟨rfl, zero_len, by rw [zero_rel, splice_zero, relL_len]⟩, putH_ok (hb2 _) rfl, hset, zero_rel, splice_zero, relL_len, relL_len]
  have rd2 : ∀ {α : Type} (u : Nat → Nat) (g : List Cell → Option α), rdH (H ++ [some ⟨true, 0, relL r u⟩]) H.length 65 g = g (relL r u) := fun u g => rdH_ok (hb2 _) (relL_len _ _)
  have e0 : relL r (fun _ => 0) = relL r (ACC r fun a b => upto 0 0 a b && (f a).testBit b) := (ACC_none hr fun a b _ _ => by simp [upto]).symm
  have outer : Lim (jacquardlaw8_cut_F2 (R E) Lim E.glob) (jacquardlaw8_cut_s2 h.length 65 0 H.length 65 0 ((0 : Nat) : Int) (relL 0 fun _ => 0) (H ++ [some ⟨true, 0, relL r (ACC r fun a b => upto 0 0 a b && (f a).testBit b)⟩])) = some (.exit 0, jacquardlaw8_cut_x2_1 H.length 65 0 (relL 0 fun _ => 0) (H ++ [some ⟨true, 0, relL r (ACC r fun a b => upto r 0 a b && (f a).testBit b)⟩])) := by
    refine Lim_count (fun i => jacquardlaw8_cut_s2 h.length 65 0 H.length 65 0 (i : Int) (relL 0 fun _ => 0) (H ++ [some ⟨true, 0, relL r (ACC r fun a b => upto i 0 a b && (f a).testBit b)⟩])) 0 r (by omega) (fun i _ hi => ?_) (Lim_exit ?_)
    · have inner : Lim (jacquardlaw8_cut_F1 (R E) Lim E.glob) (jacquardlaw8_cut_s1 h.length 65 0 H.length 65 0 i ((0 : Nat) : Int) (relL 0 fun _ => 0) (H ++ [some ⟨true, 0, relL r (ACC r fun a b => upto i 0 a b && (f a).testBit b)⟩])) = some (.exit 2, jacquardlaw8_cut_x1_3 h.length 65 0 H.length 65 0 i (relL 0 fun _ => 0) (H ++ [some ⟨true, 0, relL r (ACC r fun a b => upto i r a b && (f a).testBit b)⟩])) := by
        refine Lim_count (fun j => jacquardlaw8_cut_s1 h.length 65 0 H.length 65 0 i (j : Int) (relL 0 fun _ => 0) (H ++ [some ⟨true, 0, relL r (ACC r fun a b => upto i j a b && (f a).testBit b)⟩])) 0 r (by omega) (fun j _ hj => ?_) (Lim_exit ?_)
        · rw [jacquardlaw8_cut_r1, rd2, atK_ok (i := 0 + 0) (relL_zero _ _), asI_ok, if_pos (by simp; omega), refHas_R hE.c7 hf (by omega) (by omega) (hb1 _), c1_ok, asB_ok]
          cases hb : (f i).testBit j with
          | true =>
            have e : relL r (addR r (ACC r fun a b => upto i j a b && (f a).testBit b) (i : Int) (j : Int)) = relL r (ACC r fun a b => upto i (j + 1) a b && (f a).testBit b) := by
              refine ACC_add hr hi hj fun a b _ _ => ?_
              rw [Bool.eq_iff_iff]
              simp only [upto, Bool.and_eq_true, Bool.or_eq_true, decide_eq_true_eq]
              constructor
              · rintro ⟨q1 | ⟨q1, q2⟩, q3⟩
                · exact .inl ⟨.inl q1, q3⟩
                · by_cases q4 : b = j
                  · exact .inr ⟨q1, q4⟩
                  · exact .inl ⟨.inr ⟨q1, by omega⟩, q3⟩
              · rintro (⟨q1 | ⟨q1, q2⟩, q3⟩ | ⟨rfl, rfl⟩)
                · exact ⟨.inl q1, q3⟩
                · exact ⟨.inr ⟨q1, by omega⟩, q3⟩
                · exact ⟨.inr ⟨rfl, by omega⟩, hb⟩
            rw [if_pos rfl, refAdd_R hE.c13 hr (w_ACC _ _) (by rw [inR_nat]; simpa using hi) (by rw [inR_nat]; simpa using hj) (hb2 _), c0_ok, hset, e, g_succ (by omega)]
          | false =>
            have e : relL r (ACC r fun a b => upto i j a b && (f a).testBit b) = relL r (ACC r fun a b => upto i (j + 1) a b && (f a).testBit b) := by
              refine ACC_eq hr fun a b _ _ => ?_
              rw [Bool.eq_iff_iff]
              simp only [upto, Bool.and_eq_true, Bool.or_eq_true, decide_eq_true_eq]
              constructor
              · rintro ⟨q1 | ⟨q1, q2⟩, q3⟩
                · exact ⟨.inl q1, q3⟩
                · exact ⟨.inr ⟨q1, by omega⟩, q3⟩
              · rintro ⟨q1 | ⟨q1, q2⟩, q3⟩
                · exact ⟨.inl q1, q3⟩
                · refine ⟨.inr ⟨q1, ?_⟩, q3⟩
                  by_cases q4 : b = j
                  · rw [q1, q4, hb] at q3; cases q3
                  · omega
            rw [if_neg (by simp), e, g_succ (by omega)]
        · rw [jacquardlaw8_cut_r1, rd2, atK_ok (i := 0 + 0) (relL_zero _ _), asI_ok, if_neg (by simp)]
      have e : relL r (ACC r fun a b => upto i r a b && (f a).testBit b) = relL r (ACC r fun a b => upto (i + 1) 0 a b && (f a).testBit b) := by
        refine ACC_eq hr fun a b ha hb => ?_
        congr 1
        rw [Bool.eq_iff_iff]
        simp only [upto, Bool.and_eq_true, Bool.or_eq_true, decide_eq_true_eq]
        omega
      rw [jacquardlaw8_cut_r2, rd2, atK_ok (i := 0 + 0) (relL_zero _ _), asI_ok, if_pos (by simp; omega), show (0 : Int) = ((0 : Nat) : Int) from rfl, inner, bind_ok, jacquardlaw8_cut_e1_3, g_succ (by omega), e]
    · rw [jacquardlaw8_cut_r2, rd2, atK_ok (i := 0 + 0) (relL_zero _ _), asI_ok, if_neg (by simp)]
  have e1 : relL r (ACC r fun a b => upto r 0 a b && (f a).testBit b) = relL r (ACC r fun a b => (f a).testBit b) := ACC_eq hr fun a b ha _ => by
    rw [show upto r 0 a b = true by simp [upto, ha], Bool.true_and]
  rw [e1] at outer
  rw [show (0 : Int) = ((0 : Nat) : Int) from rfl, e0, outer, bind_ok, jacquardlaw8_cut_e2_1, rd2]
  simp only [relL_len, and_self, if_true]
  exact finish_gc (hK.trans (Kp.app _ (by omega))) (by simp [avOk_rel])

end Jq

namespace Jq
open Go

/- jacquard/order.All: 21 -/
set_option maxRecDepth 100000 in
theorem order_All_eq (C : CallF) (L : LoopF) (G : Glo) (l0 : List Cell) (a1 : Int) (h0 : AHeap) :
    order_All.body C L G [(.agg l0), (.c (.int .i64 a1))] h0 =
    rdH (h0 ++ [some (Blk.mk true 0 (AV.cells (.c (.int .i64 a1))))]) h0.length ((AV.cells (.c (.int .i64 a1))).length) fun l_1 => atK l_1 0 fun q_2 => asI .i64 (.c q_2) fun n_3 => rdH (h0 ++ [some (Blk.mk true 0 (AV.cells (.c (.int .i64 a1))))]) h0.length ((AV.cells (.c (.int .i64 a1))).length) fun l_4 => if 0 < l_4.length then putH (h0 ++ [some (Blk.mk true 0 (AV.cells (.c (.int .i64 a1))))]) h0.length (l_4.set 0 (.int .i64 (if 100000 < n_3 then 100000 else n_3))) fun h_5 => rdH (h_5 ++ [some (Blk.mk true 0 ([Cell.nils]))]) h0.length ((AV.cells (.c (.int .i64 a1))).length) fun l_6 => atK l_6 0 fun q_7 => asI .i64 (.c q_7) fun n_8 => if (decide (n_8 ≤ 0)) = true then some ([(.c .nils)], (h_5 ++ [some (Blk.mk true 0 ([Cell.nils]))])) else if 0 = 0 ∧ l0.length = 65 then c0 (C 34 [(.agg l0), (.c (.fn 33 [(h_5.length, ([Cell.nils]).length, 0), (h0.length, (AV.cells (.c (.int .i64 a1))).length, 0)]))] (h_5 ++ [some (Blk.mk true 0 ([Cell.nils]))])) fun h_9 => rdH h_9 h_5.length (([Cell.nils]).length) fun l_10 => atK l_10 0 fun q_11 => some ([(.c q_11)], h_9) else none else none := by kernel_rfl

/- jacquard/order.Keeps: 22 -/
def order_Keeps_k2 (C : CallF) (L : LoopF) (G : Glo) (h0 : AHeap) : Ex → St → Option (List AV × AHeap) :=
  kSeq (fun st => order_Keeps_p1.exec C L G st (order_Keeps.fin G h0)) (order_Keeps.fin G h0)
def order_Keeps_k3 (C : CallF) (L : LoopF) (G : Glo) (h0 : AHeap) : Ex → St → Option (List AV × AHeap) :=
  kBlk 0 (order_Keeps_k2 C L G h0)
def order_Keeps_s1 (a5 : Int) (x6 : Cell) (x16 : Cell) (a17 : Int) (a18 : Int) (h : AHeap) : St := ⟨[.top, .top, .top, .top, .top, .v (.c (.int .u64 a5)), .v (.c x6), .top, .top, .top, .top, .top, .top, .top, .top, .top, .v (.c x16), .v (.c (.int .i64 a17)), .v (.c (.int .i64 a18)), .top, .top, .top, .top, .top, .top, .top, .top, .top, .top, .top, .top, .top, .top, .top, .top, .top, .top, .top, .top, .top, .top, .top, .top, .top, .top, .top, .top, .top], [none], h⟩
def order_Keeps_F1 (C : CallF) (L : LoopF) (G : Glo) : St → Option (Ex × St) :=
  roundF (fun st f => order_Keeps_b1.exec C L G st f) [5, 6, 16, 17, 18] [] [(0, [4], []), (1, [], [])]
def order_Keeps_x1_0 (b4 : Bool) (h : AHeap) : St := ⟨[.top, .top, .top, .top, .v (.c (.bool b4)), .top, .top, .top, .top, .top, .top, .top, .top, .top, .top, .top, .top, .top, .top, .top, .top, .top, .top, .top, .top, .top, .top, .top, .top, .top, .top, .top, .top, .top, .top, .top, .top, .top, .top, .top, .top, .top, .top, .top, .top, .top, .top, .top], [none], h⟩
def order_Keeps_x1_1 (h : AHeap) : St := ⟨[.top, .top, .top, .top, .top, .top, .top, .top, .top, .top, .top, .top, .top, .top, .top, .top, .top, .top, .top, .top, .top, .top, .top, .top, .top, .top, .top, .top, .top, .top, .top, .top, .top, .top, .top, .top, .top, .top, .top, .top, .top, .top, .top, .top, .top, .top, .top, .top], [none], h⟩
theorem order_Keeps_r1 (C : CallF) (L : LoopF) (G : Glo) (a5 : Int) (x6 : Cell) (x16 : Cell) (a17 : Int) (a18 : Int) (h : AHeap) :
    order_Keeps_F1 C L G (order_Keeps_s1 a5 x6 x16 a17 a18 h) =
    if (decide (a18 < a17)) = true then idxSK 1 x16 a18 fun k_7 N_8 o_9 => rdH h k_7 N_8 fun l_10 => atK l_10 o_9 fun q_11 => asI .i64 (.c q_11) fun n_12 => scK (decide (n_12 < 0)) false (lenK x6 fun n_13 => some ((decide (n_12 ≥ n_13)), h)) true h fun b_14 h_15 => scK b_14 false (c1 (C 17 [(.c (.int .u64 a5)), (.c (.int .i64 n_12))] h_15) fun y_17 h_16 => asB y_17 fun b_18 => some (b_18, h_16)) true h_15 fun b_19 h_20 => scK b_19 false (idxSK 1 x6 n_12 fun k_21 N_22 o_23 => rdH h_20 k_21 N_22 fun l_24 => atK l_24 o_23 fun q_25 => asI .u64 (.c q_25) fun n_26 => some (((G.bandNot .u64 n_26 a5) != 0), h_20)) true h_20 fun b_27 h_28 => if b_27 = true then some (.ret, (order_Keeps_x1_0 false h_28)) else c1 (C 18 [(.c (.int .u64 a5)), (.c (.int .i64 n_12))] h_28) fun y_30 h_29 => asI .u64 y_30 fun n_31 => some (.normal, (order_Keeps_s1 n_31 x6 x16 a17 (G.wrap .i64 (a18 + 1)) h_29)) else some ((.exit 0), (order_Keeps_x1_1 h)) := by kernel_rfl
theorem order_Keeps_e1_0 (C : CallF) (L : LoopF) (G : Glo) (h0 : AHeap) (b4 : Bool) (h : AHeap) :
    (order_Keeps_k3 C L G h0) .ret (order_Keeps_x1_0 b4 h) =
    finish true h0 [(.c (.bool b4))] h := by kernel_rfl
theorem order_Keeps_e1_1 (C : CallF) (L : LoopF) (G : Glo) (h0 : AHeap) (h : AHeap) :
    (order_Keeps_k3 C L G h0) (.exit 0) (order_Keeps_x1_1 h) =
    finish true h0 [(.c (.bool true))] h := by kernel_rfl
set_option maxRecDepth 100000 in
theorem order_Keeps_eq (C : CallF) (L : LoopF) (G : Glo) (l0 : List Cell) (x1 : Cell) (h0 : AHeap) :
    order_Keeps.body C L G [(.agg l0), (.c x1)] h0 =
    if 0 = 0 ∧ l0.length = 65 then c1 (C 35 [(.agg l0)] h0) fun y_2 h_1 => asC y_2 fun x_3 => lenK x1 fun n_4 => lenK x_3 fun n_5 => if (n_4 != n_5) = true then finish true h0 [(.c (.bool false))] h_1 else lenK x1 fun n_6 => (L (order_Keeps_F1 C L G) (order_Keeps_s1 0 x_3 x1 n_6 0 h_1)).bind fun p_32 => (order_Keeps_k3 C L G h0) p_32.1 p_32.2 else none := by kernel_rfl

/- jacquard/order.Count: 23 -/
set_option maxRecDepth 100000 in
theorem order_Count_eq (C : CallF) (L : LoopF) (G : Glo) (l0 : List Cell) (a1 : Int) (h0 : AHeap) :
    order_Count.body C L G [(.agg l0), (.c (.int .i64 a1))] h0 =
    rdH (h0 ++ [some (Blk.mk true 0 (AV.cells (.c (.int .i64 a1))))]) h0.length ((AV.cells (.c (.int .i64 a1))).length) fun l_1 => atK l_1 0 fun q_2 => asI .i64 (.c q_2) fun n_3 => rdH (h0 ++ [some (Blk.mk true 0 (AV.cells (.c (.int .i64 a1))))]) h0.length ((AV.cells (.c (.int .i64 a1))).length) fun l_4 => if 0 < l_4.length then putH (h0 ++ [some (Blk.mk true 0 (AV.cells (.c (.int .i64 a1))))]) h0.length (l_4.set 0 (.int .i64 (if 100000 < n_3 then 100000 else n_3))) fun h_5 => rdH (h_5 ++ [some (Blk.mk true 0 ([Cell.int .i64 0]))]) h_5.length (([Cell.int .i64 0]).length) fun l_6 => if 0 < l_6.length then putH (h_5 ++ [some (Blk.mk true 0 ([Cell.int .i64 0]))]) h_5.length (l_6.set 0 (.int .i64 0)) fun h_7 => rdH h_7 h0.length ((AV.cells (.c (.int .i64 a1))).length) fun l_8 => atK l_8 0 fun q_9 => asI .i64 (.c q_9) fun n_10 => if (decide (n_10 ≤ 0)) = true then finish true h0 [(.c (.int .i64 0))] h_7 else if 0 = 0 ∧ l0.length = 65 then c0 (C 34 [(.agg l0), (.c (.fn 36 [(h_5.length, ([Cell.int .i64 0]).length, 0), (h0.length, (AV.cells (.c (.int .i64 a1))).length, 0)]))] h_7) fun h_11 => rdH h_11 h_5.length (([Cell.int .i64 0]).length) fun l_12 => atK l_12 0 fun q_13 => asI .i64 (.c q_13) fun n_14 => finish true h0 [(.c (.int .i64 n_14))] h_11 else none else none else none := by kernel_rfl

/- jacquard/order.Greedy: 27 -/
def order_Greedy_k2 (C : CallF) (L : LoopF) (G : Glo) (h0 : AHeap) : Ex → St → Option (List AV × AHeap) :=
  kSeq (fun st => order_Greedy_p1.exec C L G st (order_Greedy.fin G h0)) (order_Greedy.fin G h0)
def order_Greedy_k3 (C : CallF) (L : LoopF) (G : Glo) (h0 : AHeap) : Ex → St → Option (List AV × AHeap) :=
  kBlk 0 (order_Greedy_k2 C L G h0)
def order_Greedy_s2 (x6 : Cell) (x7 : Cell) (a8 : Int) (x9 : Cell) (a17 : Int) (a18 : Int) (h : AHeap) : St := ⟨[.top, .top, .top, .top, .top, .top, .v (.c x6), .v (.c x7), .v (.c (.int .u64 a8)), .v (.c x9), .top, .top, .top, .top, .top, .top, .top, .v (.c (.int .i64 a17)), .v (.c (.int .i64 a18)), .top, .top, .top, .top, .top, .top, .top, .top, .top, .top, .top, .top, .top, .top, .top, .top, .top, .top, .top, .top, .top, .top, .top, .top, .top, .top, .top, .top, .top, .top, .top, .top, .top, .top, .top, .top, .top, .top, .top, .top, .top], [none], h⟩
def order_Greedy_F2 (C : CallF) (L : LoopF) (G : Glo) : St → Option (Ex × St) :=
  roundF (fun st f => order_Greedy_b2.exec C L G st f) [6, 7, 8, 9, 17, 18] [] [(0, [4, 5], []), (1, [7], [])]
def order_Greedy_k4 (C : CallF) (L : LoopF) (G : Glo) : Ex → St → Option (Ex × St) :=
  kSeq (fun st => order_Greedy_p2.exec C L G st (kLoop [6, 7, 8, 9, 17, 18] [] [(0, [4, 5], []), (1, [7], [])])) (kLoop [6, 7, 8, 9, 17, 18] [] [(0, [4, 5], []), (1, [7], [])])
def order_Greedy_k5 (C : CallF) (L : LoopF) (G : Glo) : Ex → St → Option (Ex × St) :=
  kBlk 1 (order_Greedy_k4 C L G)
def order_Greedy_k6 (C : CallF) (L : LoopF) (G : Glo) : Ex → St → Option (Ex × St) :=
  kSeq (fun st => order_Greedy_p3.exec C L G st (order_Greedy_k5 C L G)) (order_Greedy_k5 C L G)
def order_Greedy_k7 (C : CallF) (L : LoopF) (G : Glo) : Ex → St → Option (Ex × St) :=
  kBlk 2 (order_Greedy_k6 C L G)
def order_Greedy_s1 (x6 : Cell) (x7 : Cell) (a8 : Int) (x9 : Cell) (a10 : Int) (a17 : Int) (a18 : Int) (x20 : Cell) (a21 : Int) (a22 : Int) (h : AHeap) : St := ⟨[.top, .top, .top, .top, .top, .top, .v (.c x6), .v (.c x7), .v (.c (.int .u64 a8)), .v (.c x9), .v (.c (.int .i64 a10)), .top, .top, .top, .top, .top, .top, .v (.c (.int .i64 a17)), .v (.c (.int .i64 a18)), .top, .v (.c x20), .v (.c (.int .i64 a21)), .v (.c (.int .i64 a22)), .top, .top, .top, .top, .top, .top, .top, .top, .top, .top, .top, .top, .top, .top, .top, .top, .top, .top, .top, .top, .top, .top, .top, .top, .top, .top, .top, .top, .top, .top, .top, .top, .top, .top, .top, .top, .top], [none], h⟩
def order_Greedy_F1 (C : CallF) (L : LoopF) (G : Glo) : St → Option (Ex × St) :=
  roundF (fun st f => order_Greedy_b1.exec C L G st f) [6, 7, 8, 9, 10, 17, 18, 20, 21, 22] [] [(3, [6, 7, 8, 9, 10, 17, 18], [])]
def order_Greedy_x1_3 (x6 : Cell) (x7 : Cell) (a8 : Int) (x9 : Cell) (a10 : Int) (a17 : Int) (a18 : Int) (h : AHeap) : St := ⟨[.top, .top, .top, .top, .top, .top, .v (.c x6), .v (.c x7), .v (.c (.int .u64 a8)), .v (.c x9), .v (.c (.int .i64 a10)), .top, .top, .top, .top, .top, .top, .v (.c (.int .i64 a17)), .v (.c (.int .i64 a18)), .top, .top, .top, .top, .top, .top, .top, .top, .top, .top, .top, .top, .top, .top, .top, .top, .top, .top, .top, .top, .top, .top, .top, .top, .top, .top, .top, .top, .top, .top, .top, .top, .top, .top, .top, .top, .top, .top, .top, .top, .top], [none], h⟩
def order_Greedy_x2_0 (x4 : Cell) (b5 : Bool) (h : AHeap) : St := ⟨[.top, .top, .top, .top, .v (.c x4), .v (.c (.bool b5)), .top, .top, .top, .top, .top, .top, .top, .top, .top, .top, .top, .top, .top, .top, .top, .top, .top, .top, .top, .top, .top, .top, .top, .top, .top, .top, .top, .top, .top, .top, .top, .top, .top, .top, .top, .top, .top, .top, .top, .top, .top, .top, .top, .top, .top, .top, .top, .top, .top, .top, .top, .top, .top, .top], [none], h⟩
def order_Greedy_x2_1 (x7 : Cell) (h : AHeap) : St := ⟨[.top, .top, .top, .top, .top, .top, .top, .v (.c x7), .top, .top, .top, .top, .top, .top, .top, .top, .top, .top, .top, .top, .top, .top, .top, .top, .top, .top, .top, .top, .top, .top, .top, .top, .top, .top, .top, .top, .top, .top, .top, .top, .top, .top, .top, .top, .top, .top, .top, .top, .top, .top, .top, .top, .top, .top, .top, .top, .top, .top, .top, .top], [none], h⟩
theorem order_Greedy_r1 (C : CallF) (L : LoopF) (G : Glo) (x6 : Cell) (x7 : Cell) (a8 : Int) (x9 : Cell) (a10 : Int) (a17 : Int) (a18 : Int) (x20 : Cell) (a21 : Int) (a22 : Int) (h : AHeap) :
    order_Greedy_F1 C L G (order_Greedy_s1 x6 x7 a8 x9 a10 a17 a18 x20 a21 a22 h) =
    if (decide (a22 < a21)) = true then idxSK 1 x20 a22 fun k_6 N_7 o_8 => rdH h k_6 N_7 fun l_9 => atK l_9 o_8 fun q_10 => asI .u64 (.c q_10) fun n_11 => c1 (C 17 [(.c (.int .u64 a8)), (.c (.int .i64 a22))] h) fun y_13 h_12 => asB y_13 fun b_14 => scK (!b_14) true (some (((G.bandNot .u64 n_11 a8) == 0), h_12)) false h_12 fun b_15 h_16 => scK b_15 true (scK (decide (a10 < 0)) false (fnK x9 fun g_17 l_18 => c1 (C g_17 ([(.c (.int .i64 a22)), (.c (.int .i64 a10))] ++ l_18) h_16) fun y_20 h_19 => asB y_20 fun b_21 => some (b_21, h_19)) true h_16 fun b_22 h_23 => some (b_22, h_23)) false h_16 fun b_24 h_25 => if b_24 = true then some (.normal, (order_Greedy_s1 x6 x7 a8 x9 a22 a17 a18 x20 a21 (G.wrap .i64 (a22 + 1)) h_25)) else some (.normal, (order_Greedy_s1 x6 x7 a8 x9 a10 a17 a18 x20 a21 (G.wrap .i64 (a22 + 1)) h_25)) else some ((.exit 2), (order_Greedy_x1_3 x6 x7 a8 x9 a10 a17 a18 h)) := by kernel_rfl
theorem order_Greedy_e1_3 (C : CallF) (L : LoopF) (G : Glo) (x6 : Cell) (x7 : Cell) (a8 : Int) (x9 : Cell) (a10 : Int) (a17 : Int) (a18 : Int) (h : AHeap) :
    (order_Greedy_k7 C L G) (.exit 2) (order_Greedy_x1_3 x6 x7 a8 x9 a10 a17 a18 h) =
    if (decide (a10 < 0)) = true then some (.ret, (order_Greedy_x2_0 .nils false h)) else if (splice [Cell.int .i64 0] 0 ([(.int .i64 a10)] : List Cell)).length = 1 * 1 then appK 1 8 x7 (splice [Cell.int .i64 0] 0 ([(.int .i64 a10)] : List Cell)) h fun x_26 h_27 => c1 (C 18 [(.c (.int .u64 a8)), (.c (.int .i64 a10))] h_27) fun y_29 h_28 => asI .u64 y_29 fun n_30 => some (.normal, (order_Greedy_s2 x6 x_26 n_30 x9 a17 (G.wrap .i64 (a18 + 1)) h_28)) else none := by kernel_rfl
theorem order_Greedy_r2 (C : CallF) (L : LoopF) (G : Glo) (x6 : Cell) (x7 : Cell) (a8 : Int) (x9 : Cell) (a17 : Int) (a18 : Int) (h : AHeap) :
    order_Greedy_F2 C L G (order_Greedy_s2 x6 x7 a8 x9 a17 a18 h) =
    if (decide (a18 < a17)) = true then lenK x6 fun n_5 => (L (order_Greedy_F1 C L G) (order_Greedy_s1 x6 x7 a8 x9 (-1) a17 a18 x6 n_5 0 h)).bind fun p_31 => (order_Greedy_k7 C L G) p_31.1 p_31.2 else some ((.exit 0), (order_Greedy_x2_1 x7 h)) := by kernel_rfl
theorem order_Greedy_e2_0 (C : CallF) (L : LoopF) (G : Glo) (h0 : AHeap) (x4 : Cell) (b5 : Bool) (h : AHeap) :
    (order_Greedy_k3 C L G h0) .ret (order_Greedy_x2_0 x4 b5 h) =
    some ([(.c x4), (.c (.bool b5))], h) := by kernel_rfl
theorem order_Greedy_e2_1 (C : CallF) (L : LoopF) (G : Glo) (h0 : AHeap) (x7 : Cell) (h : AHeap) :
    (order_Greedy_k3 C L G h0) (.exit 0) (order_Greedy_x2_1 x7 h) =
    some ([(.c x7), (.c (.bool true))], h) := by kernel_rfl
set_option maxRecDepth 100000 in
theorem order_Greedy_eq (C : CallF) (L : LoopF) (G : Glo) (l0 : List Cell) (x1 : Cell) (h0 : AHeap) :
    order_Greedy.body C L G [(.agg l0), (.c x1)] h0 =
    if 0 = 0 ∧ l0.length = 65 then c1 (C 35 [(.agg l0)] (h0 ++ [some (Blk.mk true 0 (AV.cells (.c x1)))])) fun y_2 h_1 => asC y_2 fun x_3 => lenK x_3 fun n_4 => (L (order_Greedy_F2 C L G) (order_Greedy_s2 x_3 .nils 0 (.fn 37 [(h0.length, (AV.cells (.c x1)).length, 0)]) n_4 0 h_1)).bind fun p_32 => (order_Greedy_k3 C L G h0) p_32.1 p_32.2 else none := by kernel_rfl

/- jacquard/order.First: 29 -/
set_option maxRecDepth 100000 in
theorem order_First_eq (C : CallF) (L : LoopF) (G : Glo) (l0 : List Cell) (h0 : AHeap) :
    order_First.body C L G [(.agg l0)] h0 =
    if 0 = 0 ∧ l0.length = 65 then c2 (C 27 [(.agg l0), (.c .nils)] h0) fun y_2 y_3 h_1 => asC y_2 fun x_4 => asB y_3 fun b_5 => some ([(.c x_4), (.c (.bool b_5))], h_1) else none := by kernel_rfl

/- jacquard/order.All$1: 33 -/
set_option maxRecDepth 100000 in
theorem order_All_1_eq (C : CallF) (L : LoopF) (G : Glo) (x0 : Cell) (k1 : Nat) (N1 : Nat) (o1 : Nat) (k2 : Nat) (N2 : Nat) (o2 : Nat) (h0 : AHeap) :
    order_All_1.body C L G [(.c x0), (.c (.ptr k1 N1 o1)), (.c (.ptr k2 N2 o2))] h0 =
    rd0 h0 k1 N1 fun l_1 => atK l_1 o1 fun q_2 => if ([] : List Cell).length = 0 * 1 then (slCells (h0 ++ [some (Blk.mk true 1 ([] : List Cell))]) 1 x0).bind fun l_5 => appK 1 8 (.sl h0.length (([] : List Cell).length) 0 0) l_5 (h0 ++ [some (Blk.mk true 1 ([] : List Cell))]) fun x_3 h_4 => if (splice [Cell.nils] 0 ([x_3] : List Cell)).length = 1 * 1 then appK 1 24 q_2 (splice [Cell.nils] 0 ([x_3] : List Cell)) h_4 fun x_6 h_7 => rdH h_7 k1 N1 fun l_8 => if o1 < l_8.length then putH h_7 k1 (l_8.set o1 x_6) fun h_9 => rdH h_9 k1 N1 fun l_10 => atK l_10 o1 fun q_11 => lenK q_11 fun n_12 => rdH h_9 k2 N2 fun l_13 => atK l_13 o2 fun q_14 => asI .i64 (.c q_14) fun n_15 => some ([(.c (.bool (decide (n_12 < n_15))))], h_9) else none else none else none := by kernel_rfl

/- jacquard/order.each: 34 -/
set_option maxRecDepth 100000 in
theorem order_each_eq (C : CallF) (L : LoopF) (G : Glo) (l0 : List Cell) (x1 : Cell) (h0 : AHeap) :
    order_each.body C L G [(.agg l0), (.c x1)] h0 =
    if 0 = 0 ∧ l0.length = 65 then c1 (C 26 [(.agg l0)] h0) fun y_2 h_1 => asB y_2 fun b_3 => if b_3 = true then if 0 = 0 ∧ l0.length = 65 then c1 (C 35 [(.agg l0)] h_1) fun y_5 h_4 => asC y_5 fun x_6 => c1 (C 39 [(.c (.ptr h_4.length ((AV.cells (.agg (splice (splice [Cell.nils, Cell.nils, Cell.nilf] 0 ([x_6] : List Cell)) 2 ([x1] : List Cell)))).length) 0)), (.c (.int .u64 0))] (h_4 ++ [some (Blk.mk true 0 (AV.cells (.agg (splice (splice [Cell.nils, Cell.nils, Cell.nilf] 0 ([x_6] : List Cell)) 2 ([x1] : List Cell)))))])) fun y_8 h_7 => asB y_8 fun b_9 => some ([], h_7) else none else some ([], h_1) else none := by kernel_rfl

/- jacquard/order.before: 35 -/
def order_before_k2 (C : CallF) (L : LoopF) (G : Glo) (h0 : AHeap) : Ex → St → Option (List AV × AHeap) :=
  kSeq (fun st => order_before_p1.exec C L G st (order_before.fin G h0)) (order_before.fin G h0)
def order_before_k3 (C : CallF) (L : LoopF) (G : Glo) (h0 : AHeap) : Ex → St → Option (List AV × AHeap) :=
  kBlk 0 (order_before_k2 C L G h0)
def order_before_s1 (x4 : Cell) (a12 : Int) (a13 : Int) (s1 : List Cell) (h : AHeap) : St := ⟨[.top, .top, .top, .loc 1 0, .v (.c x4), .top, .top, .top, .top, .top, .top, .top, .v (.c (.int .i64 a12)), .v (.c (.int .i64 a13)), .top, .top, .top, .top, .top, .top, .top, .top, .top, .top], [none, some s1], h⟩
def order_before_F1 (C : CallF) (L : LoopF) (G : Glo) : St → Option (Ex × St) :=
  roundF (fun st f => order_before_b1.exec C L G st f) [3, 4, 12, 13] [1] [(1, [4], [])]
def order_before_x1_1 (x4 : Cell) (h : AHeap) : St := ⟨[.top, .top, .top, .top, .v (.c x4), .top, .top, .top, .top, .top, .top, .top, .top, .top, .top, .top, .top, .top, .top, .top, .top, .top, .top, .top], [none, none], h⟩
theorem order_before_r1 (C : CallF) (L : LoopF) (G : Glo) (x4 : Cell) (a12 : Int) (a13 : Int) (s1 : List Cell) (h : AHeap) :
    order_before_F1 C L G (order_before_s1 x4 a12 a13 s1 h) =
    if (decide (a13 < a12)) = true then if 0 = 0 ∧ s1.length = 65 then c1 (C 41 [(.agg s1), (.c (.int .i64 a13))] h) fun y_9 h_8 => asI .u64 y_9 fun n_10 => idxSK 1 x4 a13 fun k_11 N_12 o_13 => rdH h_8 k_11 N_12 fun l_14 => if o_13 < l_14.length then putH h_8 k_11 (l_14.set o_13 (.int .u64 n_10)) fun h_15 => some (.normal, (order_before_s1 x4 a12 (G.wrap .i64 (a13 + 1)) s1 h_15)) else none else none else some ((.exit 0), (order_before_x1_1 x4 h)) := by kernel_rfl
theorem order_before_e1_1 (C : CallF) (L : LoopF) (G : Glo) (h0 : AHeap) (x4 : Cell) (h : AHeap) :
    (order_before_k3 C L G h0) (.exit 0) (order_before_x1_1 x4 h) =
    some ([(.c x4)], h) := by kernel_rfl
set_option maxRecDepth 100000 in
theorem order_before_eq (C : CallF) (L : LoopF) (G : Glo) (l0 : List Cell) (h0 : AHeap) :
    order_before.body C L G [(.agg l0)] h0 =
    if 0 = 0 ∧ l0.length = 65 then c1 (C 40 [(.agg l0)] h0) fun y_2 h_1 => asA y_2 fun l_3 => if 0 = 0 ∧ ([Cell.int .i64 0] ++ List.replicate 64 (Cell.int .u64 0)).length = 65 ∧ l_3.length = 65 then if 0 = 0 ∧ l0.length = 65 then c1 (C 14 [(.agg l0)] h_1) fun y_5 h_4 => asI .i64 y_5 fun n_6 => if 0 ≤ n_6 ∧ n_6 ≤ n_6 ∧ (Int.toNat n_6) * 8 ≤ maxBytes ∧ n_6 ≤ (maxBytes : Nat) then lenK (.sl h_4.length ((rep (Int.toNat n_6) ([Cell.int .u64 0])).length) 0 (Int.toNat n_6)) fun n_7 => (L (order_before_F1 C L G) (order_before_s1 (.sl h_4.length ((rep (Int.toNat n_6) ([Cell.int .u64 0])).length) 0 (Int.toNat n_6)) n_7 0 l_3 (h_4 ++ [some (Blk.mk true 1 (rep (Int.toNat n_6) ([Cell.int .u64 0])))]))).bind fun p_16 => (order_before_k3 C L G h0) p_16.1 p_16.2 else none else none else none else none := by kernel_rfl

/- jacquard/order.Count$1: 36 -/
set_option maxRecDepth 100000 in
theorem order_Count_1_eq (C : CallF) (L : LoopF) (G : Glo) (x0 : Cell) (k1 : Nat) (N1 : Nat) (o1 : Nat) (k2 : Nat) (N2 : Nat) (o2 : Nat) (h0 : AHeap) :
    order_Count_1.body C L G [(.c x0), (.c (.ptr k1 N1 o1)), (.c (.ptr k2 N2 o2))] h0 =
    rdH h0 k1 N1 fun l_1 => atK l_1 o1 fun q_2 => asI .i64 (.c q_2) fun n_3 => rdH h0 k1 N1 fun l_4 => if o1 < l_4.length then putH h0 k1 (l_4.set o1 (.int .i64 (G.wrap .i64 (n_3 + 1)))) fun h_5 => rdH h_5 k1 N1 fun l_6 => atK l_6 o1 fun q_7 => asI .i64 (.c q_7) fun n_8 => rdH h_5 k2 N2 fun l_9 => atK l_9 o2 fun q_10 => asI .i64 (.c q_10) fun n_11 => some ([(.c (.bool (decide (n_8 < n_11))))], h_5) else none := by kernel_rfl

/- jacquard/order.Greedy$1: 37 -/
set_option maxRecDepth 100000 in
theorem order_Greedy_1_eq (C : CallF) (L : LoopF) (G : Glo) (a0 : Int) (a1 : Int) (k2 : Nat) (N2 : Nat) (o2 : Nat) (h0 : AHeap) :
    order_Greedy_1.body C L G [(.c (.int .i64 a0)), (.c (.int .i64 a1)), (.c (.ptr k2 N2 o2))] h0 =
    rdH h0 k2 N2 fun l_1 => atK l_1 o2 fun q_2 => lenK q_2 fun n_3 => scK (decide (a0 < n_3)) true (rdH h0 k2 N2 fun l_4 => atK l_4 o2 fun q_5 => lenK q_5 fun n_6 => some ((decide (a1 < n_6)), h0)) false h0 fun b_7 h_8 => scK b_7 true (rdH h_8 k2 N2 fun l_9 => atK l_9 o2 fun q_10 => idxSK 1 q_10 a0 fun k_11 N_12 o_13 => rdH h_8 k_11 N_12 fun l_14 => atK l_14 o_13 fun q_15 => asI .i64 (.c q_15) fun n_16 => rdH h_8 k2 N2 fun l_17 => atK l_17 o2 fun q_18 => idxSK 1 q_18 a1 fun k_19 N_20 o_21 => rdH h_8 k_19 N_20 fun l_22 => atK l_22 o_21 fun q_23 => asI .i64 (.c q_23) fun n_24 => some ((n_16 != n_24), h_8)) false h_8 fun b_25 h_26 => if b_25 = true then rdH h_26 k2 N2 fun l_27 => atK l_27 o2 fun q_28 => idxSK 1 q_28 a0 fun k_29 N_30 o_31 => rdH h_26 k_29 N_30 fun l_32 => atK l_32 o_31 fun q_33 => asI .i64 (.c q_33) fun n_34 => rdH h_26 k2 N2 fun l_35 => atK l_35 o2 fun q_36 => idxSK 1 q_36 a1 fun k_37 N_38 o_39 => rdH h_26 k_37 N_38 fun l_40 => atK l_40 o_39 fun q_41 => asI .i64 (.c q_41) fun n_42 => some ([(.c (.bool (decide (n_34 < n_42))))], h_26) else some ([(.c (.bool (decide (a0 < a1))))], h_26) := by kernel_rfl

/- (*jacquard/order.walk).on: 39 -/
def order_walk_on_k2 (C : CallF) (L : LoopF) (G : Glo) (h0 : AHeap) : Ex → St → Option (List AV × AHeap) :=
  kSeq (fun st => order_walk_on_p1.exec C L G st (order_walk_on.fin G h0)) (order_walk_on.fin G h0)
def order_walk_on_k3 (C : CallF) (L : LoopF) (G : Glo) (h0 : AHeap) : Ex → St → Option (List AV × AHeap) :=
  kBlk 0 (order_walk_on_k2 C L G h0)
def order_walk_on_s1 (k0 : Nat) (N0 : Nat) (o0 : Nat) (a1 : Int) (x31 : Cell) (a32 : Int) (a33 : Int) (h : AHeap) : St := ⟨[.v (.c (.ptr k0 N0 o0)), .v (.c (.int .u64 a1)), .top, .top, .top, .top, .top, .top, .top, .top, .top, .top, .top, .top, .top, .top, .top, .top, .top, .top, .top, .top, .top, .top, .top, .top, .top, .top, .top, .top, .top, .v (.c x31), .v (.c (.int .i64 a32)), .v (.c (.int .i64 a33)), .top, .top, .top, .top, .top, .top, .top, .top, .top, .top, .top, .top, .top, .top, .top, .top, .top, .top, .top, .top, .top, .top, .top, .top, .top, .top, .top, .top, .top, .top, .top, .top, .top, .top, .top, .top, .top, .top, .top, .top, .top, .top, .top, .top, .top], [], h⟩
def order_walk_on_F1 (C : CallF) (L : LoopF) (G : Glo) : St → Option (Ex × St) :=
  roundF (fun st f => order_walk_on_b1.exec C L G st f) [0, 1, 31, 32, 33] [] [(0, [4], []), (1, [], [])]
def order_walk_on_x1_0 (b4 : Bool) (h : AHeap) : St := ⟨[.top, .top, .top, .top, .v (.c (.bool b4)), .top, .top, .top, .top, .top, .top, .top, .top, .top, .top, .top, .top, .top, .top, .top, .top, .top, .top, .top, .top, .top, .top, .top, .top, .top, .top, .top, .top, .top, .top, .top, .top, .top, .top, .top, .top, .top, .top, .top, .top, .top, .top, .top, .top, .top, .top, .top, .top, .top, .top, .top, .top, .top, .top, .top, .top, .top, .top, .top, .top, .top, .top, .top, .top, .top, .top, .top, .top, .top, .top, .top, .top, .top, .top], [], h⟩
def order_walk_on_x1_1 (h : AHeap) : St := ⟨[.top, .top, .top, .top, .top, .top, .top, .top, .top, .top, .top, .top, .top, .top, .top, .top, .top, .top, .top, .top, .top, .top, .top, .top, .top, .top, .top, .top, .top, .top, .top, .top, .top, .top, .top, .top, .top, .top, .top, .top, .top, .top, .top, .top, .top, .top, .top, .top, .top, .top, .top, .top, .top, .top, .top, .top, .top, .top, .top, .top, .top, .top, .top, .top, .top, .top, .top, .top, .top, .top, .top, .top, .top, .top, .top, .top, .top, .top, .top], [], h⟩
theorem order_walk_on_r1 (C : CallF) (L : LoopF) (G : Glo) (k0 : Nat) (N0 : Nat) (o0 : Nat) (a1 : Int) (x31 : Cell) (a32 : Int) (a33 : Int) (h : AHeap) :
    order_walk_on_F1 C L G (order_walk_on_s1 k0 N0 o0 a1 x31 a32 a33 h) =
    if (decide (a33 < a32)) = true then idxSK 1 x31 a33 fun k_19 N_20 o_21 => rdH h k_19 N_20 fun l_22 => atK l_22 o_21 fun q_23 => asI .u64 (.c q_23) fun n_24 => c1 (C 17 [(.c (.int .u64 a1)), (.c (.int .i64 a33))] h) fun y_26 h_25 => asB y_26 fun b_27 => scK b_27 false (some (((G.bandNot .u64 n_24 a1) != 0), h_25)) true h_25 fun b_28 h_29 => if b_28 = true then some (.normal, (order_walk_on_s1 k0 N0 o0 a1 x31 a32 (G.wrap .i64 (a33 + 1)) h_29)) else rdH h_29 k0 N0 fun l_30 => atK l_30 (o0 + 1) fun q_31 => if (splice [Cell.int .i64 0] 0 ([(.int .i64 a33)] : List Cell)).length = 1 * 1 then appK 1 8 q_31 (splice [Cell.int .i64 0] 0 ([(.int .i64 a33)] : List Cell)) h_29 fun x_32 h_33 => rdH h_33 k0 N0 fun l_34 => if (o0 + 1) < l_34.length then putH h_33 k0 (l_34.set (o0 + 1) x_32) fun h_35 => c1 (C 18 [(.c (.int .u64 a1)), (.c (.int .i64 a33))] h_35) fun y_37 h_36 => asI .u64 y_37 fun n_38 => c1 (C 39 [(.c (.ptr k0 N0 o0)), (.c (.int .u64 n_38))] h_36) fun y_40 h_39 => asB y_40 fun b_41 => rdH h_39 k0 N0 fun l_42 => atK l_42 (o0 + 1) fun q_43 => rdH h_39 k0 N0 fun l_44 => atK l_44 (o0 + 1) fun q_45 => lenK q_45 fun n_46 => sliceK h_39 1 false true q_43 [.v (.c (.int .i64 (G.wrap .i64 (n_46 - 1))))] fun x_47 => rdH h_39 k0 N0 fun l_48 => if (o0 + 1) < l_48.length then putH h_39 k0 (l_48.set (o0 + 1) x_47) fun h_49 => if (!b_41) = true then some (.ret, (order_walk_on_x1_0 false h_49)) else some (.normal, (order_walk_on_s1 k0 N0 o0 a1 x31 a32 (G.wrap .i64 (a33 + 1)) h_49)) else none else none else none else some ((.exit 0), (order_walk_on_x1_1 h)) := by kernel_rfl
theorem order_walk_on_e1_0 (C : CallF) (L : LoopF) (G : Glo) (h0 : AHeap) (b4 : Bool) (h : AHeap) :
    (order_walk_on_k3 C L G h0) .ret (order_walk_on_x1_0 b4 h) =
    some ([(.c (.bool b4))], h) := by kernel_rfl
theorem order_walk_on_e1_1 (C : CallF) (L : LoopF) (G : Glo) (h0 : AHeap) (h : AHeap) :
    (order_walk_on_k3 C L G h0) (.exit 0) (order_walk_on_x1_1 h) =
    some ([(.c (.bool true))], h) := by kernel_rfl
set_option maxRecDepth 100000 in
theorem order_walk_on_eq (C : CallF) (L : LoopF) (G : Glo) (k0 : Nat) (N0 : Nat) (o0 : Nat) (a1 : Int) (h0 : AHeap) :
    order_walk_on.body C L G [(.c (.ptr k0 N0 o0)), (.c (.int .u64 a1))] h0 =
    rdH h0 k0 N0 fun l_1 => atK l_1 (o0 + 1) fun q_2 => lenK q_2 fun n_3 => rdH h0 k0 N0 fun l_4 => atK l_4 (o0 + 0) fun q_5 => lenK q_5 fun n_6 => if (n_3 == n_6) = true then rdH h0 k0 N0 fun l_7 => atK l_7 (o0 + 2) fun q_8 => rdH h0 k0 N0 fun l_9 => atK l_9 (o0 + 1) fun q_10 => fnK q_8 fun g_11 l_12 => c1 (C g_11 ([(.c q_10)] ++ l_12) h0) fun y_14 h_13 => asB y_14 fun b_15 => some ([(.c (.bool b_15))], h_13) else rdH h0 k0 N0 fun l_16 => atK l_16 (o0 + 0) fun q_17 => lenK q_17 fun n_18 => (L (order_walk_on_F1 C L G) (order_walk_on_s1 k0 N0 o0 a1 q_17 n_18 0 h0)).bind fun p_50 => (order_walk_on_k3 C L G h0) p_50.1 p_50.2 := by kernel_rfl


end Jq

/- Orders: what must be ahead of each; whether a row keeps a relation. -/
namespace Jq
open Go

/-- Words, one behind the other. -/
def setC (n : Nat) (F : Nat → Nat) : List Cell := (List.range n).map fun j => .int .u64 (F j : Nat)

theorem setC_len (n : Nat) (F : Nat → Nat) : (setC n F).length = n := by simp [setC]
theorem setC_get {n : Nat} {F : Nat → Nat} {i : Nat} (hi : i < n) : (setC n F)[i]? = some (.int .u64 (F i : Nat)) := by
  rw [setC, List.getElem?_map, List.getElem?_range hi]; rfl
theorem setC_set {n : Nat} {F : Nat → Nat} {i v : Nat} : (setC n F).set i (.int .u64 (v : Nat)) = setC n (updF F i v) := by
  refine List.ext_getElem? fun j => ?_
  rw [List.getElem?_set, setC_len]
  by_cases hj : j < n
  · rw [setC_get hj, setC_get hj]
    unfold updF
    by_cases hij : i = j
    · subst hij; simp [hj]
    · have : ¬ j = i := fun h => hij h.symm
      rw [if_neg hij, if_neg this]
  · rw [List.getElem?_eq_none (by rw [setC_len]; omega), List.getElem?_eq_none (by rw [setC_len]; omega)]
    split
    · rw [if_neg (by omega)]
    · rfl
theorem rep_words (n : Nat) : rep n [Cell.int .u64 0] = setC n fun _ => 0 := by
  unfold rep setC
  induction n with
  | zero => rfl
  | succ n ih => rw [List.replicate_succ', List.flatten_append, ih, List.range_succ, List.map_append]; simp

theorem SlAt.blkW (h : AHeap) (n : Nat) (F : Nat → Nat) : SlAt (h ++ [some ⟨true, 1, setC n F⟩]) (.sl h.length n 0 n) 1 (setC n F) n :=
  ⟨by rw [setC_len]; omega, .inr ⟨_, _, 0, rfl, .inr ⟨_, blk_new _ _, setC_len n F, by omega, fun j _ => by simp⟩⟩⟩

variable {E : Env}

theorem before_R (hE : order_before_In E) (ht : TabOk E) {n : Nat} (hn : n ≤ 64) {f : Nat → Nat} (hf : Words f) (h : AHeap) :
    R E 35 [.agg (relL n f)] h = some ([.c (.sl h.length n 0 n)], h ++ [some ⟨true, 1, setC n (INV n f)⟩]) := by
  refine R_intro hE.fn ?_
  have hm : maxBytes ≥ 64 * 8 := by unfold maxBytes; omega
  have loop : Lim (order_before_F1 (R E) Lim E.glob) (order_before_s1 (.sl h.length n 0 n) n ((0 : Nat) : Int) (relL n (INV n f)) (h ++ [some ⟨true, 1, setC n (upF (INV n f) 0)⟩])) = some (.exit 0, order_before_x1_1 (.sl h.length n 0 n) (h ++ [some ⟨true, 1, setC n (upF (INV n f) n)⟩])) := by
    refine Lim_count (fun i => order_before_s1 (.sl h.length n 0 n) n (i : Int) (relL n (INV n f)) (h ++ [some ⟨true, 1, setC n (upF (INV n f) i)⟩])) 0 n (by omega) (fun i _ hi => ?_) (Lim_exit ?_)
    · have hr : (if inR n (i : Int) = true then INV n f (Int.toNat (i : Int)) else 0) = INV n f i := by rw [inR_nat, if_pos (by simpa using hi), Int.toNat_natCast]
      rw [order_before_r1, if_pos (by simp; omega), if_pos ⟨rfl, relL_len _ _⟩, Row_R hE.c41 hn, c1_ok, asI_ok, hr, idxSK_ok hi, rdH_ok (blk_new h _) (setC_len _ _), show 0 + i * 1 = i by omega, if_pos (by rw [setC_len]; exact hi), setC_set, putH_ok (blk_new h _) rfl, setBlk_last, upF_succ, g_succ (by omega)]
    · rw [order_before_r1, if_neg (by simp)]
  have hall : setC n (upF (INV n f) n) = setC n (INV n f) := by
    unfold setC
    refine List.map_congr_left fun j hj => ?_
    unfold upF; rw [if_pos (by simpa using hj)]
  rw [hall, upF_zero] at loop
  rw [order_before_eq, if_pos ⟨rfl, relL_len _ _⟩, Inverse_S hE.c40 ht hn hf, c1_ok, asA_ok, if_pos ⟨rfl, zero_len, relL_len _ _⟩, if_pos ⟨rfl, relL_len _ _⟩, N_R hE.c14, c1_ok, asI_ok, Int.toNat_natCast, if_pos ⟨by omega, by omega, by omega, by omega⟩, rep_words, setC_len, lenK_sl, show (0 : Int) = ((0 : Nat) : Int) from rfl, loop, bind_ok, order_before_e1_1]

/-- Whether a row keeps to what must be ahead, some done. -/
def kpR (n : Nat) (B : Nat → Nat) : List Int → Nat → Bool
  | [], _ => true
  | v :: t, d => if (decide (v < 0) || decide (v ≥ (n : Int)) || hasI d v || (ndiff (B v.toNat) d != 0)) = true then false else kpR n B t (d ||| bitI v)

theorem OKeeps_R (hE : order_Keeps_In E) (ht : TabOk E) {n : Nat} (hn : n ≤ 64) {f : Nat → Nat} (hf : Words f) {x : Cell} {l : List Int} {h : AHeap} (hx : SlAt h x 1 (intC .i64 l) l.length) (hl : Low h.length x) (hlen : l.length < 9223372036854775807) :
    R E 22 [.agg (relL n f), .c x] h = some ([.c (.bool (decide (l.length = n) && kpR n (INV n f) l 0))], h) := by
  refine R_intro hE.fn ?_
  have fin : ∀ b h', Kp h.length h h' → finish true h [.c (.bool b)] h' = some ([.c (.bool b)], h) := fun b h' hk => finish_gc hk (by simp [avOk, AV.cells, idOk])
  rw [order_Keeps_eq, if_pos ⟨rfl, relL_len _ _⟩, before_R hE.c35 ht hn hf, c1_ok, asC_ok, hx.len, lenK_sl]
  have hK : Kp h.length h (h ++ [some ⟨true, 1, setC n (INV n f)⟩]) := Kp.app _ (Nat.le_refl _)
  have hs := SlAt.blkW h n (INV n f)
  have hx2 : SlAt (h ++ [some ⟨true, 1, setC n (INV n f)⟩]) x 1 (intC .i64 l) l.length := hx.keep hl hK
  generalize h ++ [some ⟨true, 1, setC n (INV n f)⟩] = H at *
  by_cases hln : l.length = n
  · have key : ∀ (t : List Int) (i d : Nat), l.drop i = t → d < 2 ^ 64 → Lim (order_Keeps_F1 (R E) Lim E.glob) (order_Keeps_s1 d (.sl h.length n 0 n) x l.length (i : Int) H) = some (if kpR n (INV n f) t d = true then (.exit 0, order_Keeps_x1_1 H) else (.ret, order_Keeps_x1_0 false H)) := by
      intro t
      induction t with
      | nil =>
        intro i d hd _
        have hi : l.length ≤ i := by
          have := congrArg List.length hd
          simp at this; omega
        refine Lim_exit ?_
        rw [order_Keeps_r1, if_neg (by simp; omega)]
      | cons v t ih =>
        intro i d hd hdd
        have hi : i < l.length := by
          have := congrArg List.length hd
          simp at this; omega
        have hv : l[i]? = some v := by
          have := congrArg (fun q => q[0]?) hd
          simpa [List.getElem?_drop] using this
        have hd2 : l.drop (i + 1) = t := by
          have := congrArg (List.drop 1) hd
          simpa [List.drop_drop] using this
        have hround : order_Keeps_F1 (R E) Lim E.glob (order_Keeps_s1 d (.sl h.length n 0 n) x l.length (i : Int) H) = if (decide (v < 0) || decide (v ≥ (n : Int)) || hasI d v || (ndiff (INV n f v.toNat) d != 0)) = true then some (.ret, order_Keeps_x1_0 false H) else some (.normal, order_Keeps_s1 ((d ||| bitI v : Nat) : Int) (.sl h.length n 0 n) x l.length ((i + 1 : Nat) : Int) H) := by
          rw [order_Keeps_r1, if_pos (by simp; omega), hx2.get1 hi (intC_get hv), asI_ok, lenK_sl, scK_or, Has_R hE.c17 hdd, c1_ok, asB_ok, scK_or]
          cases hb : (decide (v < 0) || decide (v ≥ (n : Int)) || hasI d v) with
          | true => rw [scK_tf, if_pos rfl, Bool.true_or, if_pos rfl]
          | false =>
            simp only [Bool.or_eq_false_iff, decide_eq_false_iff_not] at hb
            have hvn : v.toNat < n := by omega
            have hvv : v = ((v.toNat : Nat) : Int) := by omega
            have hg : (idxSK 1 (.sl h.length n 0 n) v fun k N o => rdH H k N fun l => atK l o fun q => asI .u64 (.c q) fun n_26 => some ((E.glob.bandNot .u64 n_26 d != 0), H)) = some ((ndiff (INV n f v.toNat) d != 0), H) := by
              rw [hvv, hs.get1 hvn (setC_get hvn), asI_ok, g_bandNot (w_INV n f _) hdd, Int.toNat_natCast]
              congr 2
              rw [Bool.eq_iff_iff]; simp
            rw [scK_ok, hg, bind_ok, Bool.false_or]
            dsimp only
            split
            · rfl
            · rw [With_R hE.c18 hdd, c1_ok, asI_ok, g_succ (by omega)]
        by_cases hb : (decide (v < 0) || decide (v ≥ (n : Int)) || hasI d v || (ndiff (INV n f v.toNat) d != 0)) = true
        · rw [if_pos hb] at hround
          rw [kpR, if_pos hb, if_neg (by simp)]
          exact Lim_ret hround
        · rw [if_neg hb] at hround
          rw [kpR, if_neg hb]
          exact Lim_next hround (ih (i + 1) _ hd2 (or_lt hdd (bitI_lt v)))
    have k0 := key l 0 0 rfl (by omega)
    simp only [Int.natCast_zero] at k0
    have e0 : ((l.length : Int) != (n : Int)) = false := by rw [hln]; exact bne_self_eq_false _
    rw [e0, if_neg (by simp), hx.len, k0, bind_ok, show decide (l.length = n) = true by simpa using hln, Bool.true_and]
    cases kpR n (INV n f) l 0 with
    | true => simp only [if_true]; rw [order_Keeps_e1_1]; exact fin _ _ hK
    | false => simp only [Bool.false_eq_true, if_false]; rw [order_Keeps_e1_0]; exact fin _ _ hK
  · have e0 : ((l.length : Int) != (n : Int)) = true := by rw [bne_iff_ne]; omega
    rw [e0, if_pos rfl, show decide (l.length = n) = false by simpa using hln, Bool.false_and]
    exact fin _ _ hK

end Jq

/- Orders: rows that go on, handed on one by one: rows cut and made longer. -/
namespace Jq
open Go

/-- All rows that go on from this one, in order. -/
def ext (n : Nat) (B : Nat → Nat) : Nat → Nat → List Nat → List (List Nat)
  | 0, _, row => [row]
  | k + 1, d, row => (List.range n).flatMap fun i => if (d.testBit i || (ndiff (B i) d != 0)) = true then [] else ext n B k (d ||| 2 ^ i) (row ++ [i])

/-- Handed on, one by one, till one says stop. -/
def feed {S : Type} (P : S → List Nat → S × Bool) : S → List (List Nat) → S × Bool
  | s, [] => (s, true)
  | s, r :: rs => if (P s r).2 = true then feed P (P s r).1 rs else ((P s r).1, false)

theorem feed_app {S : Type} (P : S → List Nat → S × Bool) (b : List (List Nat)) : ∀ (a : List (List Nat)) (s : S), feed P s (a ++ b) = if (feed P s a).2 = true then feed P (feed P s a).1 b else ((feed P s a).1, false)
  | [], s => by simp [feed]
  | r :: a, s => by
    rw [List.cons_append, feed, feed]
    by_cases hr : (P s r).2 = true
    · rw [if_pos hr, if_pos hr, feed_app P b a]
    · rw [if_neg hr, if_neg hr]; simp

/-- The row under way: its block may reach further than it. -/
def RowQ (h : AHeap) (q : Cell) (row : List Nat) : Prop :=
  (q = .nils ∧ row = []) ∨ ∃ kr cs, q = .sl kr cs.length 0 row.length ∧ blk? h kr = some ⟨true, 1, cs⟩ ∧ cs.take row.length = natC row ∧ row.length ≤ cs.length

theorem RowQ.at {h : AHeap} {q : Cell} {row : List Nat} (r : RowQ h q row) : SlAt h q 1 (natC row) row.length := by
  refine ⟨by rw [natC_len]; omega, ?_⟩
  rcases r with ⟨rfl, rfl⟩ | ⟨kr, cs, rfl, hb, ht, hl⟩
  · exact .inl ⟨rfl, rfl⟩
  · refine .inr ⟨kr, _, 0, rfl, .inr ⟨_, hb, rfl, by omega, fun j hj => ?_⟩⟩
    rw [← ht, List.getElem?_take, if_pos (by omega), Nat.zero_add]

theorem RowQ.lt {h : AHeap} {q : Cell} {row : List Nat} (r : RowQ h q row) {k : Nat} (hk : isBlk q k) : k < h.length := by
  rcases r with ⟨rfl, _⟩ | ⟨kr, cs, rfl, hb, _⟩
  · cases hk
  · have : kr = k := hk
    subst this; exact blk_lt' hb

theorem RowQ.app {h : AHeap} {q : Cell} {row : List Nat} (r : RowQ h q row) (hr : row.length < 100) (i : Nat) :
    ∃ q' h', (∀ {α : Type} (f : Cell → AHeap → Option α), appK 1 8 q [.int .i64 (i : Int)] h f = f q' h') ∧ RowQ h' q' (row ++ [i]) ∧ h.length ≤ h'.length ∧ (∃ k, isBlk q' k) ∧ ∀ k, k < h.length → ¬ isBlk q k → h'[k]? = h[k]? ∧ ¬ isBlk q' k := by
  have hm : maxBytes ≥ 101 * 8 := by unfold maxBytes; omega
  rcases r with ⟨rfl, rfl⟩ | ⟨kr, cs, rfl, hb, ht, hl⟩
  · refine ⟨.sl h.length 1 0 1, h ++ [some ⟨true, 1, [.int .i64 (i : Int)]⟩], fun f => ?_, .inr ⟨h.length, [.int .i64 (i : Int)], rfl, blk_new _ _, rfl, by simp⟩, by simp, ⟨_, rfl⟩, fun k hk _ => ⟨List.getElem?_append_left hk, fun hq => ?_⟩⟩
    · unfold appK; simp only; rw [if_neg (by simp), if_pos ⟨by simp; omega, by simp; omega⟩]; simp
    · have : h.length = k := hq
      omega
  · have hkl := blk_lt' hb
    have hsl : row.length < cs.length → (splice cs row.length [Cell.int .i64 (i : Int)]).length = cs.length := fun hlt => by
      unfold splice
      simp only [List.length_append, List.length_take, List.length_drop, List.length_singleton]; omega
    by_cases hlt : row.length < cs.length
    · refine ⟨.sl kr cs.length 0 (row.length + 1), setBlk h kr (some ⟨true, 1, splice cs row.length [.int .i64 (i : Int)]⟩), fun f => ?_, .inr ⟨kr, splice cs row.length [.int .i64 (i : Int)], ?_, blk_set_self hkl _, ?_, ?_⟩, by rw [setBlk_len]; exact Nat.le_refl _, ⟨_, rfl⟩, fun k hk hq => ⟨?_, hq⟩⟩
      · unfold appK; simp only; rw [hb, Option.bind_some]; dsimp only
        rw [if_pos ⟨rfl, rfl, rfl, by omega, by simp; omega, by simp; omega⟩, if_pos (by simp; omega)]
        simp
      · rw [hsl hlt]; simp
      · rw [natC_snoc, ← ht, List.length_append, List.length_singleton]; unfold splice
        rw [List.take_append_of_le_length (by simp; omega), List.take_of_length_le (by simp; omega)]
      · rw [hsl hlt]; simp; omega
      · unfold setBlk; rw [List.getElem?_set_ne (fun h => hq h)]
    · have he : row.length = cs.length := by omega
      refine ⟨.sl kr (cs.length + 1) 0 (row.length + 1), setBlk h kr (some ⟨true, 1, cs ++ [.int .i64 (i : Int)]⟩), fun f => ?_, .inr ⟨kr, cs ++ [.int .i64 (i : Int)], by simp, blk_set_self hkl _, ?_, by simp; omega⟩, by rw [setBlk_len]; exact Nat.le_refl _, ⟨_, rfl⟩, fun k hk hq => ⟨?_, hq⟩⟩
      · unfold appK; simp only; rw [hb, Option.bind_some]; dsimp only
        rw [if_pos ⟨rfl, rfl, rfl, by omega, by simp; omega, by simp; omega⟩, if_neg (by simp; omega), if_pos trivial, he]
        simp
      · rw [natC_snoc, ← ht, List.take_of_length_le (by simp; omega), List.take_of_length_le (l := cs) (by omega)]
      · unfold setBlk; rw [List.getElem?_set_ne (fun h => hq h)]

theorem RowQ.cut {h : AHeap} {q : Cell} {row : List Nat} {i : Nat} (r : RowQ h q (row ++ [i])) :
    ∃ q', (∀ {α : Type} (f : Cell → Option α), sliceK h 1 false true q [.v (.c (.int .i64 (row.length : Int)))] f = f q') ∧ RowQ h q' row ∧ ∀ k, isBlk q' k ↔ isBlk q k := by
  rcases r with ⟨_, hn⟩ | ⟨kr, cs, rfl, hb, ht, hl⟩
  · simp at hn
  · refine ⟨.sl kr cs.length 0 row.length, fun f => ?_, .inr ⟨kr, cs, rfl, hb, ?_, by simp at hl; omega⟩, fun k => Iff.rfl⟩
    · unfold sliceK
      have hok : okSl h 1 kr cs.length = true := by unfold okSl; rw [hb]; simp
      simp only [hok, if_true]
      unfold boundsK
      simp only
      rw [if_pos ⟨by omega, by simp; omega⟩]
      simp
    · have := congrArg (List.take row.length) ht
      rw [List.take_take, natC_snoc] at this
      simp [natC_len] at this
      exact this

/-- What takes the rows: it needs I of the heap, some blocks of which are its own. -/
structure Put (E : Env) (S : Type) (P : S → List Nat → S × Bool) (fnc : Cell) (I : S → (Nat → Prop) → AHeap → Prop) (go : S → Prop) : Prop where
  on : ∀ s row, go s → (P s row).2 = true → go (P s row).1
  frame : ∀ s L h h', I s L h → (∀ k, L k → h'[k]? = h[k]?) → h.length ≤ h'.length → I s L h'
  low : ∀ s L h, I s L h → ∀ k, L k → k < h.length
  put : ∀ s L h x row, I s L h → go s → row.length ≤ 64 → SlAt h x 1 (natC row) row.length → (∀ k, isBlk x k → k < h.length ∧ ¬ L k) →
    ∃ h' L', (∀ {α : Type} (F : AV → AHeap → Option α), (fnK fnc fun g cs => c1 (R E g ([.c x] ++ cs) h) F) = F (.c (.bool (P s row).2)) h') ∧ I (P s row).1 L' h' ∧ h.length ≤ h'.length ∧ ∀ k, k < h.length → ¬ L k → h'[k]? = h[k]? ∧ ¬ L' k

end Jq

/- order.walk.on: every row that goes on is handed on, in order, till one says stop. -/
namespace Jq
open Go

variable {E : Env}

/-- What stands while walking. -/
structure WI {S : Type} (I : S → (Nat → Prop) → AHeap → Prop) (n kw kb : Nat) (B : Nat → Nat) (fnc : Cell) (row : List Nat) (s : S) (L : Nat → Prop) (h : AHeap) (q : Cell) : Prop where
  i : I s L h
  w : blk? h kw = some ⟨true, 0, [.sl kb n 0 n, q, fnc]⟩
  b : blk? h kb = some ⟨true, 1, setC n B⟩
  r : RowQ h q row
  lw : ¬ L kw
  lb : ¬ L kb
  wb : kw ≠ kb
  ap : ∀ j, isBlk q j → ¬ L j ∧ j ≠ kw ∧ j ≠ kb

/-- What a stretch of walking leaves alone. -/
def Left (kw : Nat) (L : Nat → Prop) (h : AHeap) (q : Cell) (L' : Nat → Prop) (h' : AHeap) (q' : Cell) : Prop :=
  h.length ≤ h'.length ∧ ∀ j, j < h.length → ¬ L j → j ≠ kw → ¬ isBlk q j → h'[j]? = h[j]? ∧ ¬ L' j ∧ ¬ isBlk q' j

theorem Left.refl (kw : Nat) (L : Nat → Prop) (h : AHeap) (q : Cell) : Left kw L h q L h q := ⟨Nat.le_refl _, fun _ _ a _ b => ⟨rfl, a, b⟩⟩

theorem Left.trans {kw : Nat} {L L' L'' : Nat → Prop} {h h' h'' : AHeap} {q q' q'' : Cell} (a : Left kw L h q L' h' q') (b : Left kw L' h' q' L'' h'' q'') : Left kw L h q L'' h'' q'' := by
  refine ⟨Nat.le_trans a.1 b.1, fun j h1 h2 h3 h4 => ?_⟩
  obtain ⟨a1, a2, a3⟩ := a.2 j h1 h2 h3 h4
  obtain ⟨b1, b2, b3⟩ := b.2 j (by have := a.1; omega) a2 h3 a3
  exact ⟨b1.trans a1, b2, b3⟩

theorem blk_of_get {h h' : AHeap} {k : Nat} (e : h'[k]? = h[k]?) : blk? h' k = blk? h k := by unfold blk?; rw [e]

theorem set_get {h : AHeap} {k j : Nat} {x : Option Blk} (hj : j ≠ k) : (setBlk h k x)[j]? = h[j]? := by
  unfold setBlk; rw [List.getElem?_set_ne (fun e => hj e.symm)]

section
variable {S : Type} {P : S → List Nat → S × Bool} {fnc : Cell} {I : S → (Nat → Prop) → AHeap → Prop} {go : S → Prop} {n kw kb : Nat} {B : Nat → Nat}

/-- One longer. -/
theorem WI.push (pu : Put E S P fnc I go) {row : List Nat} {s : S} {L : Nat → Prop} {h : AHeap} {q : Cell} (w : WI I n kw kb B fnc row s L h q) (hr : row.length < 100) (i : Nat) :
    ∃ q1 h1, (∀ {α : Type} (f : Cell → AHeap → Option α), appK 1 8 q [.int .i64 (i : Int)] h f = f q1 h1) ∧ blk? h1 kw = some ⟨true, 0, [.sl kb n 0 n, q, fnc]⟩ ∧
      WI I n kw kb B fnc (row ++ [i]) s L (setBlk h1 kw (some ⟨true, 0, [.sl kb n 0 n, q1, fnc]⟩)) q1 ∧ Left kw L h q L (setBlk h1 kw (some ⟨true, 0, [.sl kb n 0 n, q1, fnc]⟩)) q1 := by
  obtain ⟨q1, h1, ha, hrow, hlen, ⟨k1, hk1⟩, hfr⟩ := w.r.app hr i
  have hkw := blk_lt' w.w
  have hkb := blk_lt' w.b
  have nw : ¬ isBlk q kw := fun e => (w.ap kw e).2.1 rfl
  have nb : ¬ isBlk q kb := fun e => (w.ap kb e).2.2 rfl
  obtain ⟨f1, f2⟩ := hfr kw hkw nw
  obtain ⟨g1, g2⟩ := hfr kb hkb nb
  have hw1 : blk? h1 kw = some ⟨true, 0, [.sl kb n 0 n, q, fnc]⟩ := (blk_of_get f1).trans w.w
  have hkw1 := blk_lt' hw1
  have nL : ∀ j, isBlk q1 j → ¬ L j ∧ j ≠ kw ∧ j ≠ kb := by
    intro j hj
    refine ⟨fun hL => ?_, fun e => f2 (e ▸ hj), fun e => g2 (e ▸ hj)⟩
    have hjl := pu.low _ _ _ w.i j hL
    by_cases hq : isBlk q j
    · exact (w.ap j hq).1 hL
    · exact (hfr j hjl hq).2 hj
  refine ⟨q1, h1, ha, hw1, ⟨?_, blk_set_self hkw1 _, ?_, ?_, w.lw, w.lb, w.wb, nL⟩, ?_, ?_⟩
  · refine pu.frame _ _ _ _ w.i (fun j hL => ?_) (by rw [setBlk_len]; exact hlen)
    have hjw : j ≠ kw := fun e => w.lw (e ▸ hL)
    rw [set_get hjw]
    exact (hfr j (pu.low _ _ _ w.i j hL) (fun e => (w.ap j e).1 hL)).1
  · rw [blk_of_get (set_get (fun e => w.wb e.symm)), blk_of_get g1]; exact w.b
  · rcases hrow with ⟨e, he⟩ | ⟨kr, cs, e, hb, ht, hl⟩
    · exact .inl ⟨e, he⟩
    · have hne : kr ≠ kw := (nL kr (by rw [e]; rfl)).2.1
      exact .inr ⟨kr, cs, e, by rw [blk_of_get (set_get hne)]; exact hb, ht, hl⟩
  · rw [setBlk_len]; exact hlen
  · intro j h2 h3 h4 h5
    obtain ⟨a1, a2⟩ := hfr j h2 h5
    exact ⟨by rw [set_get h4]; exact a1, h3, a2⟩

/-- One shorter. -/
theorem WI.pop (pu : Put E S P fnc I go) {row : List Nat} {i : Nat} {s : S} {L : Nat → Prop} {h : AHeap} {q : Cell} (w : WI I n kw kb B fnc (row ++ [i]) s L h q) :
    ∃ q1, (∀ {α : Type} (f : Cell → Option α), sliceK h 1 false true q [.v (.c (.int .i64 (row.length : Int)))] f = f q1) ∧ WI I n kw kb B fnc row s L (setBlk h kw (some ⟨true, 0, [.sl kb n 0 n, q1, fnc]⟩)) q1 ∧ Left kw L h q L (setBlk h kw (some ⟨true, 0, [.sl kb n 0 n, q1, fnc]⟩)) q1 := by
  obtain ⟨q1, hs, hrow, hiff⟩ := w.r.cut
  have hkw := blk_lt' w.w
  have nL : ∀ j, isBlk q1 j → ¬ L j ∧ j ≠ kw ∧ j ≠ kb := fun j hj => w.ap j ((hiff j).1 hj)
  refine ⟨q1, hs, ⟨?_, blk_set_self hkw _, ?_, ?_, w.lw, w.lb, w.wb, nL⟩, ?_, ?_⟩
  · refine pu.frame _ _ _ _ w.i (fun j hL => ?_) (by rw [setBlk_len]; exact Nat.le_refl _)
    exact set_get (fun e => w.lw (e ▸ hL))
  · rw [blk_of_get (set_get (fun e => w.wb e.symm))]; exact w.b
  · rcases hrow with ⟨e, he⟩ | ⟨kr, cs, e, hb, ht, hl⟩
    · exact .inl ⟨e, he⟩
    · have hne : kr ≠ kw := (nL kr (by rw [e]; rfl)).2.1
      exact .inr ⟨kr, cs, e, by rw [blk_of_get (set_get hne)]; exact hb, ht, hl⟩
  · rw [setBlk_len]; exact Nat.le_refl _
  · intro j h2 h3 h4 h5
    exact ⟨set_get h4, h3, fun e => h5 ((hiff j).1 e)⟩

end
end Jq

/- order.walk.on comes to feeding on all rows that go on. -/
namespace Jq
open Go

def extF (n : Nat) (B : Nat → Nat) (k d : Nat) (row : List Nat) (i m : Nat) : List (List Nat) :=
  (List.range' i m).flatMap fun i => if (d.testBit i || (ndiff (B i) d != 0)) = true then [] else ext n B k (d ||| 2 ^ i) (row ++ [i])

theorem ext_succ (n : Nat) (B : Nat → Nat) (k d : Nat) (row : List Nat) : ext n B (k + 1) d row = extF n B k d row 0 n := by
  rw [ext, extF, List.range_eq_range']

theorem extF_succ (n : Nat) (B : Nat → Nat) (k d : Nat) (row : List Nat) (i m : Nat) : extF n B k d row i (m + 1) = (if (d.testBit i || (ndiff (B i) d != 0)) = true then [] else ext n B k (d ||| 2 ^ i) (row ++ [i])) ++ extF n B k d row (i + 1) m := by
  rw [extF, List.range'_succ, List.flatMap_cons]; rfl

theorem feed_one {S : Type} (P : S → List Nat → S × Bool) (s : S) (row : List Nat) : feed P s [row] = P s row := by
  rw [feed]
  split
  · rename_i h; rw [feed]; exact Prod.ext rfl h.symm
  · rename_i h; exact Prod.ext rfl (by simpa using h)

theorem rd3 {α : Type} {h : AHeap} {k : Nat} {a b c : Cell} (hk : blk? h k = some ⟨true, 0, [a, b, c]⟩) {F : List Cell → Option α} : rdH h k 3 F = F [a, b, c] := rdH_ok hk rfl

section
variable {E : Env} {S : Type} {P : S → List Nat → S × Bool} {fnc : Cell} {I : S → (Nat → Prop) → AHeap → Prop} {go : S → Prop} {n kw kb : Nat} {B : Nat → Nat}

theorem walk_R (pu : Put E S P fnc I go) (hE : order_walk_on_In E) (hn : n ≤ 64) (hB : Words B) : ∀ (k d : Nat) (row : List Nat) (s : S) (L : Nat → Prop) (h : AHeap) (q : Cell), row.length + k = n → d < 2 ^ 64 → go s → WI I n kw kb B fnc row s L h q →
    ∃ L' h' q', R E 39 [.c (.ptr kw 3 0), .c (.int .u64 (d : Nat))] h = some ([.c (.bool (feed P s (ext n B k d row)).2)], h') ∧ WI I n kw kb B fnc row (feed P s (ext n B k d row)).1 L' h' q' ∧ Left kw L h q L' h' q' ∧ ((feed P s (ext n B k d row)).2 = true → go (feed P s (ext n B k d row)).1) := by
  intro k
  induction k with
  | zero =>
    intro d row s L h q hk hd hgo w
    have rd : ∀ {α : Type} (F : List Cell → Option α), rdH h kw 3 F = F [.sl kb n 0 n, q, fnc] := fun F => rdH_ok w.w rfl
    obtain ⟨h', L', hp, hi, hlen, hfr⟩ := pu.put s L h q row w.i hgo (by omega) w.r.at (fun k hk => ⟨w.r.lt hk, (w.ap k hk).1⟩)
    have e : ext n B 0 d row = [row] := rfl
    rw [e, feed_one]
    have hq : ∀ j, isBlk q j → h'[j]? = h[j]? ∧ ¬ L' j := fun j hj => hfr j (w.r.lt hj) (w.ap j hj).1
    obtain ⟨a1, a2⟩ := hfr kw (blk_lt' w.w) w.lw
    obtain ⟨b1, b2⟩ := hfr kb (blk_lt' w.b) w.lb
    refine ⟨L', h', q, R_intro hE.fn ?_, ⟨hi, (blk_of_get a1).trans w.w, (blk_of_get b1).trans w.b, ?_, a2, b2, w.wb, fun j hj => ⟨(hq j hj).2, (w.ap j hj).2⟩⟩, ⟨hlen, fun j h1 h2 h3 h4 => ?_⟩, fun hb => pu.on s row hgo hb⟩
    · have hl : ((row.length : Int) == (n : Int)) = true := by rw [beq_iff_eq]; omega
      rw [order_walk_on_eq, rd, atK_ok (i := 0 + 1) (c := q) rfl, w.r.at.len, rd, atK_ok (i := 0 + 0) (c := .sl kb n 0 n) rfl, lenK_sl, if_pos hl, rd, atK_ok (i := 0 + 2) (c := fnc) rfl, rd, atK_ok (i := 0 + 1) (c := q) rfl, hp, asB_ok]
    · rcases w.r with ⟨e, he⟩ | ⟨kr, cs, e, hb, ht, hl⟩
      · exact .inl ⟨e, he⟩
      · exact .inr ⟨kr, cs, e, (blk_of_get (hq kr (by rw [e]; rfl)).1).trans hb, ht, hl⟩
    · obtain ⟨c1, c2⟩ := hfr j h1 h2
      exact ⟨c1, c2, h4⟩
  | succ k ihk =>
    intro d row s L h q hk hd hgo w
    have loop : ∀ (m i : Nat) (s : S) (L : Nat → Prop) (h : AHeap) (q : Cell), i + m = n → go s → WI I n kw kb B fnc row s L h q →
        ∃ L' h' q', Lim (order_walk_on_F1 (R E) Lim E.glob) (order_walk_on_s1 kw 3 0 d (.sl kb n 0 n) n (i : Nat) h) = some (if (feed P s (extF n B k d row i m)).2 = true then (.exit 0, order_walk_on_x1_1 h') else (.ret, order_walk_on_x1_0 false h')) ∧
          WI I n kw kb B fnc row (feed P s (extF n B k d row i m)).1 L' h' q' ∧ Left kw L h q L' h' q' ∧ ((feed P s (extF n B k d row i m)).2 = true → go (feed P s (extF n B k d row i m)).1) := by
      intro m
      induction m with
      | zero =>
        intro i s L h q hi hgo w
        refine ⟨L, h, q, ?_, w, Left.refl _ _ _ _, fun _ => hgo⟩
        refine Lim_exit ?_
        rw [order_walk_on_r1, if_neg (by simp; omega)]
      | succ m ihm =>
        intro i s L h q hi hgo w
        have bs : SlAt h (.sl kb n 0 n) 1 (setC n B) n := ⟨by rw [setC_len]; omega, .inr ⟨_, _, 0, rfl, .inr ⟨_, w.b, setC_len n B, by omega, fun j _ => by simp⟩⟩⟩
        have hne : ((((ndiff (B i) d : Nat) : Int)) != 0) = (ndiff (B i) d != 0) := by rw [Bool.eq_iff_iff]; simp
        have head : ∀ X, order_walk_on_F1 (R E) Lim E.glob (order_walk_on_s1 kw 3 0 d (.sl kb n 0 n) n (i : Nat) h) = X → order_walk_on_F1 (R E) Lim E.glob (order_walk_on_s1 kw 3 0 d (.sl kb n 0 n) n (i : Nat) h) = X := fun _ e => e
        rw [extF_succ]
        by_cases hc : (d.testBit i || (ndiff (B i) d != 0)) = true
        · obtain ⟨L', h', q', hl, w', lf, hg'⟩ := ihm (i + 1) s L h q (by omega) hgo w
          rw [if_pos hc, List.nil_append]
          refine ⟨L', h', q', Lim_next ?_ hl, w', lf, hg'⟩
          rw [order_walk_on_r1, if_pos (by simp; omega), bs.get1 (by omega) (setC_get (by omega)), asI_ok, Has_R hE.c17 hd, c1_ok, asB_ok, hasI_nat (by omega), g_bandNot (hB i) hd, hne, scK_or, if_pos hc, g_succ (by omega)]
        · rw [if_neg hc, feed_app]
          obtain ⟨q1, h1, ha, hw1, w1, lf1⟩ := w.push pu (by omega) i
          have hb2 : bitI (i : Int) = 2 ^ i := by unfold bitI; rw [if_pos (by omega)]; simp
          have hd2 : d ||| 2 ^ i < 2 ^ 64 := by rw [← hb2]; exact or_lt hd (bitI_lt _)
          obtain ⟨L3, h3, q3, hrec, w3, lf3, hg3⟩ := ihk (d ||| 2 ^ i) (row ++ [i]) s L _ q1 (by simp; omega) hd2 hgo w1
          obtain ⟨q4, hs, w4, lf4⟩ := w3.pop pu
          have hround : order_walk_on_F1 (R E) Lim E.glob (order_walk_on_s1 kw 3 0 d (.sl kb n 0 n) n (i : Nat) h) = if (!(feed P s (ext n B k (d ||| 2 ^ i) (row ++ [i]))).2) = true then some (.ret, order_walk_on_x1_0 false (setBlk h3 kw (some ⟨true, 0, [.sl kb n 0 n, q4, fnc]⟩))) else some (.normal, order_walk_on_s1 kw 3 0 d (.sl kb n 0 n) n ((i + 1 : Nat) : Int) (setBlk h3 kw (some ⟨true, 0, [.sl kb n 0 n, q4, fnc]⟩))) := by
            have hwl : E.glob.wrap .i64 (((row ++ [i]).length : Int) - 1) = (row.length : Int) := by
              rw [List.length_append, List.length_singleton, g_wrap_i64 (by omega) (by omega)]; omega
            rw [order_walk_on_r1, if_pos (by simp; omega), bs.get1 (by omega) (setC_get (by omega)), asI_ok, Has_R hE.c17 hd, c1_ok, asB_ok, hasI_nat (by omega), g_bandNot (hB i) hd, hne, scK_or, if_neg hc, rd3 w.w, atK_ok (i := 0 + 1) (c := q) rfl]
            rw [if_pos (show (splice [Cell.int .i64 0] 0 ([(.int .i64 (i : Int))] : List Cell)).length = 1 * 1 from rfl), show splice [Cell.int .i64 0] 0 ([(.int .i64 (i : Int))] : List Cell) = [.int .i64 (i : Int)] from rfl, ha, rd3 hw1, if_pos (by simp), putH_ok hw1 rfl, With_R hE.c18 hd, c1_ok, asI_ok, hb2]
            dsimp only [List.set]
            rw [hrec, c1_ok, asB_ok, rd3 w3.w, atK_ok (i := 0 + 1) (c := q3) rfl, rd3 w3.w, atK_ok (i := 0 + 1) (c := q3) rfl, w3.r.at.len, hwl, hs, rd3 w3.w, if_pos (by simp), putH_ok w3.w rfl, g_succ (by omega)]
            rfl
          have lf := (lf1.trans lf3).trans lf4
          by_cases hf : (feed P s (ext n B k (d ||| 2 ^ i) (row ++ [i]))).2 = true
          · rw [hf, if_neg (by simp)] at hround
            rw [if_pos hf]
            obtain ⟨L', h', q', hl, w', lf', hg'⟩ := ihm (i + 1) _ L3 _ q4 (by omega) (hg3 hf) w4
            exact ⟨L', h', q', Lim_next hround hl, w', lf.trans lf', hg'⟩
          · rw [show (feed P s (ext n B k (d ||| 2 ^ i) (row ++ [i]))).2 = false by simpa using hf, if_pos (by simp)] at hround
            rw [if_neg hf]
            exact ⟨L3, _, q4, by rw [if_neg (by simp)]; exact Lim_ret hround, w4, lf, fun hb => by cases hb⟩
    obtain ⟨L', h', q', hl, w', lf, hg'⟩ := loop n 0 s L h q (by omega) hgo w
    rw [ext_succ]
    refine ⟨L', h', q', R_intro hE.fn ?_, w', lf, hg'⟩
    have rd : ∀ {α : Type} (F : List Cell → Option α), rdH h kw 3 F = F [.sl kb n 0 n, q, fnc] := fun F => rdH_ok w.w rfl
    have hne : ((row.length : Int) == (n : Int)) = false := by rw [beq_eq_false_iff_ne]; omega
    rw [show ((0 : Nat) : Int) = 0 from rfl] at hl
    rw [order_walk_on_eq, rd, atK_ok (i := 0 + 1) (c := q) rfl, w.r.at.len, rd, atK_ok (i := 0 + 0) (c := .sl kb n 0 n) rfl, lenK_sl, if_neg (by rw [hne]; simp), rd, atK_ok (i := 0 + 0) (c := .sl kb n 0 n) rfl, lenK_sl, hl, bind_ok]
    cases hf : (feed P s (extF n B k d row 0 n)).2 with
    | true => rw [if_pos rfl]; exact order_walk_on_e1_1 ..
    | false => rw [if_neg (by simp)]; exact order_walk_on_e1_0 ..

end
end Jq

/- order.each: all orders are handed on, none where something leads to itself. -/
namespace Jq
open Go

section
variable {E : Env} {S : Type} {P : S → List Nat → S × Bool} {fnc : Cell} {I : S → (Nat → Prop) → AHeap → Prop} {go : S → Prop} {n : Nat}

/-- All orders. -/
def ords (n : Nat) (f : Nat → Nat) : List (List Nat) := if acycR n f = true then ext n (INV n f) n 0 [] else []

theorem each_R (pu : Put E S P fnc I go) (hE : order_each_In E) (ht : TabOk E) (hn : n ≤ 64) {f : Nat → Nat} (hf : Words f) {s : S} {L : Nat → Prop} {h : AHeap} (hi : I s L h) (hgo : go s) :
    ∃ L' h', R E 34 [.agg (relL n f), .c fnc] h = some ([], h') ∧ I (feed P s (ords n f)).1 L' h' ∧ h.length ≤ h'.length ∧ ∀ j, j < h.length → ¬ L j → h'[j]? = h[j]? ∧ ¬ L' j := by
  unfold ords
  by_cases ha : acycR n f = true
  · rw [if_pos ha]
    have hlow := pu.low _ _ _ hi
    have hnL : ∀ j, h.length ≤ j → ¬ L j := fun j hj hL => by have := hlow j hL; omega
    have hb : blk? ((h ++ [some ⟨true, 1, setC n (INV n f)⟩]) ++ [some ⟨true, 0, [Cell.sl h.length n 0 n, .nils, fnc]⟩]) h.length = some ⟨true, 1, setC n (INV n f)⟩ := blk_old (blk_new _ _) _
    have hw : blk? ((h ++ [some ⟨true, 1, setC n (INV n f)⟩]) ++ [some ⟨true, 0, [Cell.sl h.length n 0 n, .nils, fnc]⟩]) (h ++ [some (Blk.mk true 1 (setC n (INV n f)))]).length = some ⟨true, 0, [Cell.sl h.length n 0 n, .nils, fnc]⟩ := blk_new _ _
    have hkw : (h ++ [some (Blk.mk true 1 (setC n (INV n f)))]).length = h.length + 1 := by simp
    have hold : ∀ j, j < h.length → ((h ++ [some ⟨true, 1, setC n (INV n f)⟩]) ++ [some ⟨true, 0, [Cell.sl h.length n 0 n, .nils, fnc]⟩])[j]? = h[j]? := fun j hj => by
      rw [List.append_assoc]; exact List.getElem?_append_left hj
    have hlen : h.length ≤ ((h ++ [some (Blk.mk true 1 (setC n (INV n f)))]) ++ [some (Blk.mk true 0 [Cell.sl h.length n 0 n, .nils, fnc])]).length := by simp
    have w0 : WI I n (h ++ [some (Blk.mk true 1 (setC n (INV n f)))]).length h.length (INV n f) fnc [] s L ((h ++ [some ⟨true, 1, setC n (INV n f)⟩]) ++ [some ⟨true, 0, [Cell.sl h.length n 0 n, .nils, fnc]⟩]) .nils :=
      ⟨pu.frame _ _ _ _ hi (fun k hk => hold k (hlow k hk)) hlen, hw, hb, .inl ⟨rfl, rfl⟩, hnL _ (by omega), hnL _ (Nat.le_refl _), by omega, fun j hj => by cases hj⟩
    obtain ⟨L', h', q', hr, w', lf, _⟩ := walk_R pu hE.c39 hn (w_INV n f) n 0 [] s L _ .nils (by simp) (by omega) hgo w0
    refine ⟨L', h', R_intro hE.fn ?_, w'.i, Nat.le_trans hlen lf.1, fun j hj hL => ?_⟩
    · have hc : AV.cells (.agg (splice (splice [Cell.nils, Cell.nils, Cell.nilf] 0 ([Cell.sl h.length n 0 n] : List Cell)) 2 ([fnc] : List Cell))) = [Cell.sl h.length n 0 n, .nils, fnc] := rfl
      rw [order_each_eq, if_pos ⟨rfl, relL_len _ _⟩, Acyclic_R hE.c26 hn hf, c1_ok, asB_ok, if_pos ha, if_pos ⟨rfl, relL_len _ _⟩, before_R hE.c35 ht hn hf, c1_ok, asC_ok, hc]
      rw [show (.c (.int .u64 0) : AV) = .c (.int .u64 ((0 : Nat) : Int)) from rfl, show ([Cell.sl h.length n 0 n, .nils, fnc] : List Cell).length = 3 from rfl, hr, c1_ok, asB_ok]
    · have h1 : j ≠ (h ++ [some (Blk.mk true 1 (setC n (INV n f)))]).length := by omega
      obtain ⟨a1, a2, _⟩ := lf.2 j (by omega) hL h1 (fun e => by cases e)
      exact ⟨a1.trans (hold j hj), a2⟩
  · rw [if_neg ha]
    refine ⟨L, h, R_intro hE.fn ?_, hi, Nat.le_refl _, fun j _ hL => ⟨rfl, hL⟩⟩
    rw [order_each_eq, if_pos ⟨rfl, relL_len _ _⟩, Acyclic_R hE.c26 hn hf, c1_ok, asB_ok, if_neg ha]

end
end Jq

/- order.All$1: a row is copied and put behind the others. -/
namespace Jq
open Go

/-- The rows' cells, each a row of its own block. -/
def rowsC : List Nat → List (List Nat) → List Cell
  | k :: ks, r :: rs => .sl k r.length 0 r.length :: rowsC ks rs
  | _, _ => []

theorem rowsC_len : ∀ (ks : List Nat) (rs : List (List Nat)), ks.length = rs.length → (rowsC ks rs).length = rs.length
  | [], [], _ => rfl
  | k :: ks, r :: rs, h => by rw [rowsC, List.length_cons, rowsC_len ks rs (by simpa using h), List.length_cons]
  | [], _ :: _, h => by simp at h
  | _ :: _, [], h => by simp at h

theorem rowsC_snoc (k : Nat) (r : List Nat) : ∀ (ks : List Nat) (rs : List (List Nat)), ks.length = rs.length → rowsC (ks ++ [k]) (rs ++ [r]) = rowsC ks rs ++ [.sl k r.length 0 r.length]
  | [], [], _ => rfl
  | k' :: ks, r' :: rs, h => by
    rw [List.cons_append, List.cons_append, rowsC, rowsC_snoc k r ks rs (by simpa using h)]; rfl
  | [], _ :: _, h => by simp at h
  | _ :: _, [], h => by simp at h

def outF (lim : Int) : List (List Nat) → List Nat → List (List Nat) × Bool := fun s r => (s ++ [r], decide (((s.length + 1 : Nat) : Int) < lim))

/-- The rows so far lie there: behind the variable `out`, with the bound beside it. -/
def OutI (ko kl : Nat) (lim : Int) : List (List Nat) → (Nat → Prop) → AHeap → Prop := fun s L h =>
  ∃ (y : Cell) (ks : List Nat), blk? h ko = some ⟨true, 0, [y]⟩ ∧ blk? h kl = some ⟨true, 0, [.int .i64 lim]⟩ ∧ ko ≠ kl ∧ ks.length = s.length ∧
    ((y = .nils ∧ s = []) ∨ ∃ ky, y = .sl ky s.length 0 s.length ∧ blk? h ky = some ⟨true, 1, rowsC ks s⟩ ∧ ky ≠ ko ∧ ky ≠ kl ∧ ¬ ky ∈ ks) ∧
    (∀ (j k : Nat) (r : List Nat), ks[j]? = some k → s[j]? = some r → blk? h k = some ⟨true, 1, natC r⟩ ∧ k ≠ ko ∧ k ≠ kl) ∧
    (∀ k, L k ↔ (k = ko ∨ k = kl ∨ isBlk y k ∨ k ∈ ks))

theorem OutI.low {ko kl : Nat} {lim : Int} {s : List (List Nat)} {L : Nat → Prop} {h : AHeap} (o : OutI ko kl lim s L h) : ∀ k, L k → k < h.length := by
  obtain ⟨y, ks, h1, h2, _, hks, hy, hrow, hL⟩ := o
  intro k hk
  rcases (hL k).1 hk with rfl | rfl | hb | hm
  · exact blk_lt' h1
  · exact blk_lt' h2
  · rcases hy with ⟨rfl, _⟩ | ⟨ky, rfl, hb2, _⟩
    · cases hb
    · have : ky = k := hb
      subst this; exact blk_lt' hb2
  · obtain ⟨j, hj⟩ := List.getElem?_of_mem hm
    have hjl : j < s.length := by
      rcases Nat.lt_or_ge j ks.length with h3 | h3
      · omega
      · rw [List.getElem?_eq_none h3] at hj; cases hj
    exact blk_lt' (hrow j k s[j] hj (by simp [hjl])).1

theorem OutI.frame {ko kl : Nat} {lim : Int} {s : List (List Nat)} {L : Nat → Prop} {h h' : AHeap} (o : OutI ko kl lim s L h) (hk : ∀ k, L k → h'[k]? = h[k]?) : OutI ko kl lim s L h' := by
  obtain ⟨y, ks, h1, h2, hne, hks, hy, hrow, hL⟩ := o
  have e : ∀ k, L k → blk? h' k = blk? h k := fun k hl => blk_of_get (hk k hl)
  refine ⟨y, ks, (e ko ((hL ko).2 (.inl rfl))).trans h1, (e kl ((hL kl).2 (.inr (.inl rfl)))).trans h2, hne, hks, ?_, fun j k r hj hr => ?_, hL⟩
  · rcases hy with hy | ⟨ky, hy, hb, hr⟩
    · exact .inl hy
    · exact .inr ⟨ky, hy, (e ky ((hL ky).2 (.inr (.inr (.inl (by rw [hy]; rfl)))))).trans hb, hr⟩
  · obtain ⟨a, b⟩ := hrow j k r hj hr
    exact ⟨(e k ((hL k).2 (.inr (.inr (.inr (List.mem_of_getElem? hj)))))).trans a, b⟩

theorem SlAt.cells {h : AHeap} {x : Cell} {cs : List Cell} {len : Nat} (s : SlAt h x 1 cs len) : slCells h 1 x = some cs := by
  have hl := s.1
  rcases s.2 with ⟨rfl, rfl⟩ | ⟨k, N, off, rfl, hb⟩
  · have : cs = [] := List.length_eq_zero_iff.1 (by omega)
    rw [this]; rfl
  · unfold slCells
    dsimp only
    by_cases h0 : len = 0
    · have : cs = [] := List.length_eq_zero_iff.1 (by omega)
      rw [if_pos h0, this]
    · rw [if_neg h0]
      rcases hb with hb | ⟨b, hb, hN, hle, hat⟩
      · exact absurd hb h0
      · rw [hb]
        simp only
        rw [if_pos ⟨hN, hle⟩]
        congr 1
        refine List.ext_getElem? fun j => ?_
        rw [List.getElem?_take, List.getElem?_drop]
        by_cases hj : j < len * 1
        · rw [if_pos hj, hat j hj]
        · rw [if_neg hj, List.getElem?_eq_none (by omega)]

/-- A row copied into a block of its own. -/
theorem copy_row {α : Type} {h : AHeap} {row : List Nat} (hr : row.length ≤ 64) (f : Cell → AHeap → Option α) : appK 1 8 (.sl h.length 0 0 0) (natC row) (h ++ [some ⟨true, 1, []⟩]) f = f (.sl h.length row.length 0 row.length) (h ++ [some ⟨true, 1, natC row⟩]) := by
  have hm : maxBytes ≥ 64 * 8 := by unfold maxBytes; omega
  have hl := natC_len row
  unfold appK
  simp only
  rw [blk_new, Option.bind_some]
  dsimp only
  rw [if_pos ⟨rfl, rfl, rfl, by simp, by rw [hl]; simp; omega, by rw [hl]; simp; omega⟩, hl]
  by_cases h0 : row.length = 0
  · have : row = [] := List.length_eq_zero_iff.1 h0
    subst this
    rw [if_pos (by simp), setBlk_last]; rfl
  · rw [if_neg (by omega), if_pos trivial, setBlk_last]
    simp

end Jq

/- order.Count: how many orders there are, up to a bound. -/
namespace Jq
open Go

/-- One more; on, while below the bound. -/
def cntF (lim : Int) : Nat → List Nat → Nat × Bool := fun c _ => (c + 1, decide (IntKind.wrap .i64 ((c + 1 : Nat) : Int) < lim))

theorem wrap_one (x : Int) : IntKind.wrap .i64 (IntKind.wrap .i64 x + 1) = IntKind.wrap .i64 (x + 1) := by
  simp only [IntKind.wrap, IntKind.signed, IntKind.bits, Bool.true_and]
  split <;> split <;> split <;> simp_all <;> omega

theorem rd1 {α : Type} {h : AHeap} {k : Nat} {a : Cell} (hk : blk? h k = some ⟨true, 0, [a]⟩) {F : List Cell → Option α} : rdH h k 1 F = F [a] := rdH_ok hk rfl

/-- The counter and the bound lie there. -/
def CntI (kc kl : Nat) (lim : Int) : Nat → (Nat → Prop) → AHeap → Prop := fun c L h =>
  (∀ k, L k ↔ k = kc ∨ k = kl) ∧ blk? h kc = some ⟨true, 0, [.int .i64 (IntKind.wrap .i64 (c : Nat))]⟩ ∧ blk? h kl = some ⟨true, 0, [.int .i64 lim]⟩ ∧ kc ≠ kl

section
variable {E : Env}

theorem cnt_put (hE : order_Count_1_In E) {kc kl : Nat} {lim : Int} : Put E Nat (cntF lim) (.fn 36 [(kc, 1, 0), (kl, 1, 0)]) (CntI kc kl lim) (fun _ => True) where
  on := fun _ _ _ _ => trivial
  frame := by
    rintro s L h h' ⟨hL, h1, h2, hne⟩ hk _
    exact ⟨hL, (blk_of_get (hk kc ((hL kc).2 (.inl rfl)))).trans h1, (blk_of_get (hk kl ((hL kl).2 (.inr rfl)))).trans h2, hne⟩
  low := by
    rintro s L h ⟨hL, h1, h2, _⟩ k hk
    rcases (hL k).1 hk with rfl | rfl
    · exact blk_lt' h1
    · exact blk_lt' h2
  put := by
    intro s L h x row hI _ _ _ _
    obtain ⟨hL, h1, h2, hne⟩ := hI
    have hk := blk_lt' h1
    have h3 : blk? (setBlk h kc (some ⟨true, 0, [.int .i64 (IntKind.wrap .i64 ((s + 1 : Nat) : Int))]⟩)) kc = some ⟨true, 0, [.int .i64 (IntKind.wrap .i64 ((s + 1 : Nat) : Int))]⟩ := blk_set_self hk _
    have h4 : blk? (setBlk h kc (some ⟨true, 0, [.int .i64 (IntKind.wrap .i64 ((s + 1 : Nat) : Int))]⟩)) kl = some ⟨true, 0, [.int .i64 lim]⟩ := by rw [blk_set_ne hne]; exact h2
    refine ⟨setBlk h kc (some ⟨true, 0, [.int .i64 (IntKind.wrap .i64 ((s + 1 : Nat) : Int))]⟩), L, fun F => ?_, ⟨hL, h3, h4, hne⟩, by rw [setBlk_len]; exact Nat.le_refl _, fun k hkl hn => ⟨?_, hn⟩⟩
    · have hr : R E 36 [.c x, .c (.ptr kc 1 0), .c (.ptr kl 1 0)] h = some ([.c (.bool (cntF lim s row).2)], setBlk h kc (some ⟨true, 0, [.int .i64 (IntKind.wrap .i64 ((s + 1 : Nat) : Int))]⟩)) := by
        refine R_intro hE.fn ?_
        have hw : E.glob.wrap .i64 (IntKind.wrap .i64 (s : Nat) + 1) = IntKind.wrap .i64 ((s + 1 : Nat) : Int) := by
          show IntKind.wrap .i64 (IntKind.wrap .i64 (s : Nat) + 1) = _
          rw [wrap_one]; congr 1
        rw [order_Count_1_eq, rd1 h1, atK_ok (i := 0) (c := .int .i64 (IntKind.wrap .i64 (s : Nat))) rfl, asI_ok, rd1 h1, if_pos (by simp), hw, putH_ok h1 rfl]
        dsimp only [List.set]
        rw [rd1 h3, atK_ok (i := 0) (c := .int .i64 (IntKind.wrap .i64 ((s + 1 : Nat) : Int))) rfl, asI_ok, rd1 h4, atK_ok (i := 0) (c := .int .i64 lim) rfl, asI_ok]
        rfl
      show c1 (R E 36 ([.c x] ++ capAVs [(kc, 1, 0), (kl, 1, 0)]) h) F = _
      rw [show ([.c x] ++ capAVs [(kc, 1, 0), (kl, 1, 0)] : List AV) = [.c x, .c (.ptr kc 1 0), .c (.ptr kl 1 0)] from rfl, hr]
      rfl
    · have : k ≠ kc := fun e => hn ((hL k).2 (.inl e))
      exact set_get this

end
end Jq

/- order.Count. -/
namespace Jq
open Go

variable {E : Env}

/-- How many are counted. -/
def cntO (n : Nat) (f : Nat → Nat) (a : Int) : Int := if (if 100000 < a then 100000 else a) ≤ 0 then 0 else IntKind.wrap .i64 (((feed (cntF (if 100000 < a then 100000 else a)) 0 (ords n f)).1 : Nat) : Int)

theorem Count_R (hE : order_Count_In E) (ht : TabOk E) {n : Nat} (hn : n ≤ 64) {f : Nat → Nat} (hf : Words f) (a : Int) (h : AHeap) :
    R E 23 [.agg (relL n f), .c (.int .i64 a)] h = some ([.c (.int .i64 (cntO n f a))], h) := by
  refine R_intro hE.fn ?_
  have hc : AV.cells (.c (.int .i64 a)) = [Cell.int .i64 a] := rfl
  have h1l : ([Cell.int .i64 a] : List Cell).length = 1 := rfl
  have h0l : ([Cell.int .i64 0] : List Cell).length = 1 := rfl
  rw [order_Count_eq, hc, h1l, h0l, rd1 (blk_new h _), atK_ok (i := 0) (c := .int .i64 a) rfl, asI_ok, rd1 (blk_new h _), if_pos (by simp), putH_ok (blk_new h _) rfl, setBlk_last]
  dsimp only [List.set]
  unfold cntO
  generalize (if 100000 < a then 100000 else a) = lim
  have hl : (h ++ [some (Blk.mk true 0 [Cell.int .i64 lim])]).length = h.length + 1 := by simp
  have hb0 : blk? (h ++ [some ⟨true, 0, [Cell.int .i64 lim]⟩]) h.length = some ⟨true, 0, [Cell.int .i64 lim]⟩ := blk_new _ _
  have hk0 : Kp h.length h (h ++ [some ⟨true, 0, [Cell.int .i64 lim]⟩]) := Kp.app _ (Nat.le_refl _)
  generalize h ++ [some (Blk.mk true 0 [Cell.int .i64 lim])] = H at *
  rw [rd1 (blk_new H _), if_pos (by simp), putH_ok (blk_new H _) rfl, setBlk_last]
  dsimp only [List.set]
  have hb1 : blk? (H ++ [some ⟨true, 0, [Cell.int .i64 0]⟩]) H.length = some ⟨true, 0, [Cell.int .i64 0]⟩ := blk_new _ _
  have hb2 : blk? (H ++ [some ⟨true, 0, [Cell.int .i64 0]⟩]) h.length = some ⟨true, 0, [Cell.int .i64 lim]⟩ := blk_old hb0 _
  have hk1 : Kp h.length h (H ++ [some ⟨true, 0, [Cell.int .i64 0]⟩]) := hk0.trans (Kp.app _ (by omega))
  generalize H ++ [some (Blk.mk true 0 [Cell.int .i64 0])] = H2 at *
  rw [rd1 hb2, atK_ok (i := 0) (c := .int .i64 lim) rfl, asI_ok]
  by_cases hle : lim ≤ 0
  · rw [if_pos (by simpa using hle), if_pos hle]
    exact finish_gc hk1 (by simp [avOk, AV.cells, idOk])
  · have hI : CntI H.length h.length lim 0 (fun k => k = H.length ∨ k = h.length) H2 := ⟨fun k => Iff.rfl, hb1, hb2, by omega⟩
    obtain ⟨L', h', hr, ⟨_, hw, _, _⟩, hlen, hfr⟩ := each_R (cnt_put hE.c36) hE.c34 ht hn hf hI trivial
    rw [if_neg (by simpa using hle), if_neg hle, if_pos ⟨rfl, relL_len _ _⟩, hr, c0_ok, rd1 hw, atK_ok (i := 0) (c := .int .i64 _) rfl, asI_ok]
    refine finish_gc (hk1.trans ⟨hlen, fun k hk => (hfr k ?_ ?_).1⟩) (by simp [avOk, AV.cells, idOk])
    · have := hk1.1; omega
    · rintro (e | e) <;> omega

end Jq

/- order.All: the first so many orders, each in a block of its own. -/
namespace Jq
open Go

/-- One cell more at the end: what is left alone. -/
theorem Own.appF {h : AHeap} {x : Cell} {len bytes : Nat} {cs : List Cell} (c : Cell) (o : Own 0 h x 1 cs len) (h1 : (len + 1) * bytes ≤ maxBytes) (h2 : len + 1 ≤ maxBytes) :
    ∃ x' h', (∀ {α : Type} (f : Cell → AHeap → Option α), appK 1 bytes x [c] h f = f x' h') ∧ Own 0 h' x' 1 (cs ++ [c]) (len + 1) ∧ h.length ≤ h'.length ∧ (∀ k, isBlk x' k → isBlk x k ∨ k = h.length) ∧
      ∀ k, k < h.length → ¬ isBlk x k → h'[k]? = h[k]? ∧ ¬ isBlk x' k := by
  rcases o.2 with ⟨rfl, rfl⟩ | ⟨k, rfl, hk, hb⟩
  · have hcs : cs = [] := List.length_eq_zero_iff.1 (by have := o.1; omega)
    subst hcs
    refine ⟨.sl h.length 1 0 1, h ++ [some ⟨true, 1, [c]⟩], fun f => ?_, ⟨rfl, .inr ⟨h.length, rfl, by omega, blk_new _ _⟩⟩, by simp, fun k hk => .inr ?_, fun k hk _ => ⟨List.getElem?_append_left hk, fun e => ?_⟩⟩
    · unfold appK; simp only; rw [if_neg (by simp), if_pos ⟨by simpa using h1, by simpa using h2⟩]; simp
    · have : h.length = k := hk
      omega
    · have : h.length = k := e
      omega
  · have hl := o.1
    refine ⟨.sl k (cs.length + 1) 0 (len + 1), setBlk h k (some ⟨true, 1, cs ++ [c]⟩), fun f => ?_, ⟨by simp [hl], .inr ⟨k, by simp, hk, blk_set_self (blk_lt' hb) _⟩⟩, by rw [setBlk_len]; exact Nat.le_refl _, fun j hj => .inl hj, fun j _ hj => ⟨set_get (fun e => hj e.symm), hj⟩⟩
    unfold appK; simp only; rw [hb, Option.bind_some]; dsimp only
    rw [if_pos ⟨rfl, rfl, rfl, by omega, by simpa using h1, by simpa using h2⟩, if_neg (by simp; omega), if_pos trivial, List.take_of_length_le (by omega)]
    simp [hl]

theorem rd0_1 {α : Type} {h : AHeap} {k : Nat} {a : Cell} (hk : blk? h k = some ⟨true, 0, [a]⟩) {F : List Cell → Option α} : rd0 h k 1 F = F [a] := by
  unfold rd0; rw [hk, Option.bind_some]; rw [if_pos rfl, rd1 hk]

section
variable {E : Env}

theorem out_put (hE : order_All_1_In E) {ko kl : Nat} {lim : Int} (hlim : lim ≤ 100000) : Put E (List (List Nat)) (outF lim) (.fn 33 [(ko, 1, 0), (kl, 1, 0)]) (OutI ko kl lim) (fun s => s.length < 100000) where
  on := fun s row _ h => by
    have h' := of_decide_eq_true (show decide (((s.length + 1 : Nat) : Int) < lim) = true from h)
    show (s ++ [row]).length < 100000
    rw [List.length_append, List.length_singleton]; omega
  frame := fun s L h h' o hk _ => o.frame hk
  low := fun s L h o => o.low
  put := by
    intro s L h x row hI hgo hr hx hd
    have hlow := hI.low
    obtain ⟨y, ks, h1, h2, hne, hks, hy, hrow, hL⟩ := hI
    have hm : maxBytes ≥ 100000 * 24 := by unfold maxBytes; omega
    have ltL : ∀ k, (k = ko ∨ k = kl ∨ isBlk y k ∨ k ∈ ks) → k < h.length := fun k hk => hlow k ((hL k).2 hk)
    have hbo : blk? (h ++ [some ⟨true, 1, natC row⟩]) ko = some ⟨true, 0, [y]⟩ := blk_old h1 _
    have hbl : blk? (h ++ [some ⟨true, 1, natC row⟩]) kl = some ⟨true, 0, [.int .i64 lim]⟩ := blk_old h2 _
    have hy' : Own 0 (h ++ [some ⟨true, 1, natC row⟩]) y 1 (rowsC ks s) s.length := by
      refine ⟨by rw [rowsC_len ks s hks]; omega, ?_⟩
      rcases hy with ⟨rfl, rfl⟩ | ⟨ky, rfl, hb, _⟩
      · exact .inl ⟨rfl, rfl⟩
      · exact .inr ⟨ky, by rw [rowsC_len ks s hks], by omega, blk_old hb _⟩
    have nko : ¬ isBlk y ko := by
      rcases hy with ⟨rfl, _⟩ | ⟨ky, rfl, _, hn, _⟩
      · exact fun e => e
      · exact hn
    have nkl : ¬ isBlk y kl := by
      rcases hy with ⟨rfl, _⟩ | ⟨ky, rfl, _, _, hn, _⟩
      · exact fun e => e
      · exact hn
    have nks : ∀ k, k ∈ ks → ¬ isBlk y k := by
      intro k hk
      rcases hy with ⟨rfl, _⟩ | ⟨ky, rfl, _, _, _, hn⟩
      · exact fun e => e
      · exact fun e => hn ((show ky = k from e) ▸ hk)
    have hH : (h ++ [some (Blk.mk true 1 (natC row))]).length = h.length + 1 := by simp
    obtain ⟨y', h7, ha, ho, hlen, hin, hfr⟩ := hy'.appF (bytes := 24) (.sl h.length row.length 0 row.length) (by omega) (by omega)
    have fo := hfr ko (by rw [hH]; have := ltL ko (.inl rfl); omega) nko
    have fl := hfr kl (by rw [hH]; have := ltL kl (.inr (.inl rfl)); omega) nkl
    have fn := hfr h.length (by omega) (fun e => by have := ltL _ (.inr (.inr (.inl e))); omega)
    have fk : ∀ k, k ∈ ks → h7[k]? = h[k]? ∧ ¬ isBlk y' k := fun k hk => by
      have hlt := ltL k (.inr (.inr (.inr hk)))
      obtain ⟨a, b⟩ := hfr k (by omega) (nks k hk)
      exact ⟨a.trans (List.getElem?_append_left hlt), b⟩
    have h7o : blk? h7 ko = some ⟨true, 0, [y]⟩ := (blk_of_get fo.1).trans hbo
    have h7l : blk? h7 kl = some ⟨true, 0, [.int .i64 lim]⟩ := (blk_of_get fl.1).trans hbl
    have h7n : blk? h7 h.length = some ⟨true, 1, natC row⟩ := (blk_of_get fn.1).trans (blk_new _ _)
    have hko := blk_lt' h7o
    have h9o : blk? (setBlk h7 ko (some ⟨true, 0, [y']⟩)) ko = some ⟨true, 0, [y']⟩ := blk_set_self hko _
    have h9l : blk? (setBlk h7 ko (some ⟨true, 0, [y']⟩)) kl = some ⟨true, 0, [.int .i64 lim]⟩ := by rw [blk_set_ne hne]; exact h7l
    have hx2 : SlAt (h ++ [some ⟨true, 1, []⟩]) x 1 (natC row) row.length := by
      refine hx.keep (n := h.length) ?_ (Kp.app _ (Nat.le_refl _))
      cases x <;> first | trivial | exact .inr (hd _ rfl).1
    refine ⟨setBlk h7 ko (some ⟨true, 0, [y']⟩), fun k => k = ko ∨ k = kl ∨ isBlk y' k ∨ k ∈ ks ++ [h.length], fun F => ?_, ⟨y', ks ++ [h.length], h9o, h9l, hne, by simp [hks, outF], ?_, ?_, fun k => Iff.rfl⟩, ?_, ?_⟩
    · have hrr : R E 33 [.c x, .c (.ptr ko 1 0), .c (.ptr kl 1 0)] h = some ([.c (.bool (outF lim s row).2)], setBlk h7 ko (some ⟨true, 0, [y']⟩)) := by
        refine R_intro hE.fn ?_
        rw [order_All_1_eq, rd0_1 h1, atK_ok (i := 0) (c := y) rfl, if_pos (show ([] : List Cell).length = 0 * 1 from rfl), hx2.cells, bind_ok, show ([] : List Cell).length = 0 from rfl, copy_row hr, if_pos (show (splice [Cell.nils] 0 [Cell.sl h.length row.length 0 row.length]).length = 1 * 1 from rfl), show splice [Cell.nils] 0 [Cell.sl h.length row.length 0 row.length] = [Cell.sl h.length row.length 0 row.length] from rfl, ha, rd1 h7o, if_pos (by simp), putH_ok h7o rfl]
        dsimp only [List.set]
        rw [rd1 h9o, atK_ok (i := 0) (c := y') rfl, ho.at.len, rd1 h9l, atK_ok (i := 0) (c := .int .i64 lim) rfl, asI_ok]
        rfl
      show c1 (R E 33 ([.c x] ++ capAVs [(ko, 1, 0), (kl, 1, 0)]) h) F = _
      rw [show ([.c x] ++ capAVs [(ko, 1, 0), (kl, 1, 0)] : List AV) = [.c x, .c (.ptr ko 1 0), .c (.ptr kl 1 0)] from rfl, hrr]
      rfl
    · rcases ho.2 with ⟨_, he⟩ | ⟨ky', hy2, _, hb'⟩
      · omega
      · have hc : (rowsC ks s ++ [Cell.sl h.length row.length 0 row.length]).length = (s ++ [row]).length := by simp [rowsC_len ks s hks]
        have i1 : isBlk y' ky' := by rw [hy2]; rfl
        have nk : ky' ≠ ko := fun e => fo.2 (e ▸ i1)
        refine .inr ⟨ky', ?_, ?_, nk, fun e => fl.2 (e ▸ i1), fun hm => ?_⟩
        · rw [hy2, hc]; simp [outF]
        · show blk? _ ky' = some ⟨true, 1, rowsC (ks ++ [h.length]) (s ++ [row])⟩
          rw [blk_set_ne (fun e => nk e.symm), hb', rowsC_snoc _ _ _ _ hks]
        · rcases List.mem_append.1 hm with hm | hm
          · exact (fk ky' hm).2 i1
          · have : ky' = h.length := by simpa using hm
            exact fn.2 (this ▸ i1)
    · intro j k r hj hjr
      have hjr' : (s ++ [row])[j]? = some r := hjr
      by_cases hjl : j < ks.length
      · rw [List.getElem?_append_left hjl] at hj
        rw [List.getElem?_append_left (by omega)] at hjr'
        obtain ⟨a, b, c⟩ := hrow j k r hj hjr'
        have hm := List.mem_of_getElem? hj
        exact ⟨by rw [blk_set_ne (fun e => b e.symm), blk_of_get (fk k hm).1]; exact a, b, c⟩
      · rw [List.getElem?_append_right (by omega)] at hj
        rw [List.getElem?_append_right (by omega)] at hjr'
        have hj0 : j - ks.length = 0 := by
          rcases Nat.eq_zero_or_pos (j - ks.length) with e | e
          · exact e
          · rw [List.getElem?_eq_none (by simp; omega)] at hj; cases hj
        have hj1 : j - s.length = 0 := by omega
        rw [hj0] at hj; rw [hj1] at hjr'
        obtain rfl : h.length = k := by simpa using hj
        obtain rfl : row = r := by simpa using hjr'
        have e1 : h.length ≠ ko := by have := ltL ko (.inl rfl); omega
        have e2 : h.length ≠ kl := by have := ltL kl (.inr (.inl rfl)); omega
        exact ⟨by rw [blk_set_ne (fun e => e1 e.symm)]; exact h7n, e1, e2⟩
    · rw [setBlk_len]; omega
    · intro k hk hnL
      have hk2 : ¬ (k = ko ∨ k = kl ∨ isBlk y k ∨ k ∈ ks) := fun e => hnL ((hL k).2 e)
      have hk3 : ¬ isBlk y k := fun e => hk2 (.inr (.inr (.inl e)))
      obtain ⟨a, b⟩ := hfr k (by omega) hk3
      have nk : k ≠ ko := fun e => hk2 (.inl e)
      refine ⟨by rw [set_get nk, a]; exact List.getElem?_append_left hk, ?_⟩
      rintro (e | e | e | e)
      · exact nk e
      · exact hk2 (.inr (.inl e))
      · exact b e
      · rcases List.mem_append.1 e with e | e
        · exact hk2 (.inr (.inr (.inr e)))
        · have : k = h.length := by simpa using e
          omega

/-- Rows lie there, each in a block of its own. -/
def RowsAt (h : AHeap) (y : Cell) (s : List (List Nat)) : Prop :=
  ∃ ks : List Nat, ks.length = s.length ∧ SlAt h y 1 (rowsC ks s) s.length ∧ Low h.length y ∧ ∀ (j k : Nat) (r : List Nat), ks[j]? = some k → s[j]? = some r → blk? h k = some ⟨true, 1, natC r⟩

theorem RowsAt.len {α : Type} {h : AHeap} {y : Cell} {s : List (List Nat)} (a : RowsAt h y s) {f : Int → Option α} : lenK y f = f s.length := by
  obtain ⟨ks, _, hs, _⟩ := a; exact hs.len

theorem RowsAt.low {h : AHeap} {y : Cell} {s : List (List Nat)} (a : RowsAt h y s) : Low h.length y := by
  obtain ⟨ks, _, _, hl, _⟩ := a; exact hl

theorem RowsAt.keep {h h' : AHeap} {y : Cell} {s : List (List Nat)} (a : RowsAt h y s) (hk : Kp h.length h h') : RowsAt h' y s := by
  obtain ⟨ks, h1, h2, h3, h4⟩ := a
  exact ⟨ks, h1, h2.keep h3 hk, Low_mono hk.1 h3, fun j k r hj hr => by rw [hk.blk (blk_lt' (h4 j k r hj hr))]; exact h4 j k r hj hr⟩

theorem rowsC_get : ∀ (ks : List Nat) (rs : List (List Nat)) (i k : Nat) (r : List Nat), ks[i]? = some k → rs[i]? = some r → (rowsC ks rs)[i]? = some (.sl k r.length 0 r.length)
  | k' :: ks, r' :: rs, 0, k, r, h1, h2 => by
    obtain rfl : k' = k := by simpa using h1
    obtain rfl : r' = r := by simpa using h2
    rfl
  | k' :: ks, r' :: rs, i + 1, k, r, h1, h2 => by
    rw [rowsC, List.getElem?_cons_succ]
    exact rowsC_get ks rs i k r (by simpa using h1) (by simpa using h2)
  | [], _, _, _, _, h1, _ => by simp at h1
  | _ :: _, [], _, _, _, _, h2 => by simp at h2

/-- One of the rows. -/
theorem RowsAt.get {α : Type} {h : AHeap} {y : Cell} {s : List (List Nat)} (a : RowsAt h y s) {i : Nat} {r : List Nat} (hr : s[i]? = some r) :
    ∃ z, (∀ f : Cell → Option α, (idxSK 1 y (i : Int) fun k N o => rdH h k N fun l => atK l o f) = f z) ∧ SlAt h z 1 (natC r) r.length ∧ Low h.length z := by
  obtain ⟨ks, h1, h2, h3, h4⟩ := a
  have hi : i < s.length := by
    rcases Nat.lt_or_ge i s.length with h | h
    · exact h
    · rw [List.getElem?_eq_none h] at hr; cases hr
  obtain ⟨k, hk⟩ : ∃ k, ks[i]? = some k := ⟨ks[i], by simp [h1, hi]⟩
  have hb := h4 i k r hk hr
  exact ⟨.sl k r.length 0 r.length, fun f => h2.get1 hi (rowsC_get ks s i k r hk hr), ⟨by rw [natC_len]; omega, .inr ⟨k, _, 0, rfl, .inr ⟨_, hb, natC_len r, by omega, fun j _ => by simp⟩⟩⟩, .inr (blk_lt' hb)⟩

/-- The first so many orders. -/
def allO (n : Nat) (f : Nat → Nat) (a : Int) : List (List Nat) := (ords n f).take (min a 100000).toNat

theorem feed_out (lim : Int) : ∀ (l s : List (List Nat)), (s.length : Int) < lim → (feed (outF lim) s l).1 = s ++ l.take (lim.toNat - s.length)
  | [], s, _ => by simp [feed]
  | r :: l, s, h => by
    rw [feed]
    have e : (outF lim s r).2 = decide (((s.length + 1 : Nat) : Int) < lim) := rfl
    obtain ⟨d, hd⟩ : ∃ d, lim.toNat - s.length = d + 1 := ⟨lim.toNat - s.length - 1, by omega⟩
    rw [hd, List.take_succ_cons]
    by_cases hc : ((s.length + 1 : Nat) : Int) < lim
    · rw [e, if_pos (by simpa using hc)]
      show (feed (outF lim) (s ++ [r]) l).1 = _
      rw [feed_out lim l (s ++ [r]) (by simpa using hc), List.length_append, List.length_singleton, show lim.toNat - (s.length + 1) = d by omega]; simp
    · rw [e, if_neg (by simpa using hc)]
      show s ++ [r] = _
      rw [show d = 0 by omega]; simp

theorem All_R (hE : order_All_In E) (ht : TabOk E) {n : Nat} (hn : n ≤ 64) {f : Nat → Nat} (hf : Words f) (a : Int) (h : AHeap) :
    ∃ y h', R E 21 [.agg (relL n f), .c (.int .i64 a)] h = some ([.c y], h') ∧ RowsAt h' y (allO n f a) ∧ Kp h.length h h' := by
  suffices hs : ∃ y h', order_All.body (R E) Lim E.glob [.agg (relL n f), .c (.int .i64 a)] h = some ([.c y], h') ∧ RowsAt h' y (allO n f a) ∧ Kp h.length h h' by
    obtain ⟨y, h', h1, h2⟩ := hs; exact ⟨y, h', R_intro hE.fn h1, h2⟩
  have hc : AV.cells (.c (.int .i64 a)) = [Cell.int .i64 a] := rfl
  have h1l : ([Cell.int .i64 a] : List Cell).length = 1 := rfl
  have h0l : ([Cell.nils] : List Cell).length = 1 := rfl
  rw [order_All_eq, hc, h1l, h0l, rd1 (blk_new h _), atK_ok (i := 0) (c := .int .i64 a) rfl, asI_ok, rd1 (blk_new h _), if_pos (by simp), putH_ok (blk_new h _) rfl, setBlk_last]
  dsimp only [List.set]
  have e0 : allO n f a = (ords n f).take (if 100000 < a then 100000 else a).toNat := by
    unfold allO; congr 2; omega
  have hlim : (if 100000 < a then 100000 else a) ≤ 100000 := by split <;> omega
  rw [e0]
  generalize (if 100000 < a then 100000 else a) = lim at *
  have hl : (h ++ [some (Blk.mk true 0 [Cell.int .i64 lim])]).length = h.length + 1 := by simp
  have hb0 : blk? (h ++ [some ⟨true, 0, [Cell.int .i64 lim]⟩]) h.length = some ⟨true, 0, [Cell.int .i64 lim]⟩ := blk_new _ _
  have hk0 : Kp h.length h (h ++ [some ⟨true, 0, [Cell.int .i64 lim]⟩]) := Kp.app _ (Nat.le_refl _)
  generalize h ++ [some (Blk.mk true 0 [Cell.int .i64 lim])] = H at *
  have hb1 : blk? (H ++ [some ⟨true, 0, [Cell.nils]⟩]) H.length = some ⟨true, 0, [Cell.nils]⟩ := blk_new _ _
  have hb2 : blk? (H ++ [some ⟨true, 0, [Cell.nils]⟩]) h.length = some ⟨true, 0, [Cell.int .i64 lim]⟩ := blk_old hb0 _
  have hk1 : Kp h.length h (H ++ [some ⟨true, 0, [Cell.nils]⟩]) := hk0.trans (Kp.app _ (by omega))
  generalize H ++ [some (Blk.mk true 0 [Cell.nils])] = H2 at *
  rw [rd1 hb2, atK_ok (i := 0) (c := .int .i64 lim) rfl, asI_ok]
  by_cases hle : lim ≤ 0
  · rw [if_pos (by simpa using hle), show lim.toNat = 0 by omega, List.take_zero]
    exact ⟨.nils, H2, rfl, ⟨[], rfl, ⟨rfl, .inl ⟨rfl, rfl⟩⟩, trivial, fun j k r hj => by simp at hj⟩, hk1⟩
  · have hI : OutI H.length h.length lim [] (fun k => k = H.length ∨ k = h.length ∨ isBlk .nils k ∨ k ∈ ([] : List Nat)) H2 :=
      ⟨.nils, [], hb1, hb2, by omega, rfl, .inl ⟨rfl, rfl⟩, fun j k r hj => by simp at hj, fun k => Iff.rfl⟩
    obtain ⟨L', h', hr, ⟨y, ks, g1, g2, gne, gks, gy, grow, gL⟩, hlen, hfr⟩ := each_R (out_put hE.c33 hlim) hE.c34 ht hn hf hI (show ([] : List (List Nat)).length < 100000 by simp)
    rw [if_neg (by simpa using hle), if_pos ⟨rfl, relL_len _ _⟩, hr, c0_ok, rd1 g1, atK_ok (i := 0) (c := y) rfl]
    have ef := feed_out lim (ords n f) [] (by simp; omega)
    rw [List.nil_append, List.length_nil, Nat.sub_zero] at ef
    rw [ef] at gks gy grow
    refine ⟨y, h', rfl, ⟨ks, gks, ⟨by rw [rowsC_len _ _ gks]; omega, ?_⟩, ?_, fun j k r hj hr => (grow j k r hj hr).1⟩, hk1.trans ⟨hlen, fun k hk => (hfr k ?_ ?_).1⟩⟩
    · rcases gy with ⟨e1, e2⟩ | ⟨ky, e1, e2, _⟩
      · exact .inl ⟨e1, by rw [e2]; rfl⟩
      · exact .inr ⟨ky, _, 0, e1, .inr ⟨_, e2, rowsC_len _ _ gks, by omega, fun j _ => by simp⟩⟩
    · rcases gy with ⟨e1, e2⟩ | ⟨ky, e1, e2, _⟩
      · rw [e1]; trivial
      · rw [e1]; exact .inr (blk_lt' e2)
    · have := hk1.1; omega
    · rintro (e | e | e | e)
      · omega
      · omega
      · exact e
      · simp at e

end
end Jq

/- order.Greedy, order.First: the one of least rank comes next. -/
namespace Jq
open Go

/-- Is one ahead by rank? -/
def lessL (l : List Int) (i j : Nat) : Bool :=
  if (decide (i < l.length) && decide (j < l.length) && (l.getD i 0 != l.getD j 0)) = true then decide (l.getD i 0 < l.getD j 0) else decide (i < j)

/-- The best of the first so many. -/
def bestU (B : Nat → Nat) (l : List Int) (d : Nat) : Nat → Option Nat
  | 0 => none
  | i + 1 => if (!d.testBit i && (ndiff (B i) d == 0) && (match bestU B l d i with | none => true | some j => lessL l i j)) = true then some i else bestU B l d i

def bI : Option Nat → Int
  | none => -1
  | some i => i

def grd (n : Nat) (B : Nat → Nat) (l : List Int) : Nat → Nat → List Nat → Option (List Nat)
  | 0, _, out => some out
  | k + 1, d, out => match bestU B l d n with
    | none => none
    | some i => grd n B l k (d ||| 2 ^ i) (out ++ [i])

theorem bestU_lt {B : Nat → Nat} {l : List Int} {d : Nat} : ∀ {n i : Nat}, bestU B l d n = some i → i < n
  | 0, _, h => by cases h
  | n + 1, i, h => by
    rw [bestU] at h
    generalize (!d.testBit n && (ndiff (B n) d == 0) && (match bestU B l d n with | none => true | some j => lessL l n j)) = c at h
    cases c with
    | true => cases h; omega
    | false => have := bestU_lt (n := n) h; omega

theorem fnK_fn {α : Type} {g : Nat} {cs : List (Nat × Nat × Nat)} {f : Nat → List AV → Option α} : fnK (.fn g cs) f = f g (capAVs cs) := rfl

section
variable {E : Env}

theorem getD_of {l : List Int} {i : Nat} (hi : i < l.length) : l[i]? = some (l.getD i 0) := by
  rw [List.getD_eq_getElem?_getD, List.getElem?_eq_getElem hi]; rfl

theorem less_R (hE : order_Greedy_1_In E) {k : Nat} {x : Cell} {l : List Int} {h : AHeap} (hk : blk? h k = some ⟨true, 0, [x]⟩) (hx : SlAt h x 1 (intC .i64 l) l.length) (i j : Nat) :
    R E 37 ([.c (.int .i64 (i : Int)), .c (.int .i64 (j : Int))] ++ capAVs [(k, 1, 0)]) h = some ([.c (.bool (lessL l i j))], h) := by
  show R E 37 [.c (.int .i64 (i : Int)), .c (.int .i64 (j : Int)), .c (.ptr k 1 0)] h = _
  refine R_intro hE.fn ?_
  unfold lessL
  rw [order_Greedy_1_eq, rd1 hk, atK_ok (i := 0) (c := x) rfl, hx.len]
  by_cases hi : i < l.length
  · have di : decide ((i : Int) < (l.length : Int)) = true := by simpa using hi
    rw [di, scK_ok, rd1 hk, atK_ok (i := 0) (c := x) rfl, hx.len, bind_ok]
    dsimp only
    by_cases hj : j < l.length
    · have dj : decide ((j : Int) < (l.length : Int)) = true := by simpa using hj
      rw [dj, scK_ok, rd1 hk, atK_ok (i := 0) (c := x) rfl, hx.get1 hi (intC_get (getD_of hi)), asI_ok, rd1 hk, atK_ok (i := 0) (c := x) rfl, hx.get1 hj (intC_get (getD_of hj)), asI_ok, bind_ok]
      dsimp only
      rw [show decide (i < l.length) = true by simpa using hi, show decide (j < l.length) = true by simpa using hj, Bool.true_and, Bool.true_and]
      split
      · rw [rd1 hk, atK_ok (i := 0) (c := x) rfl, hx.get1 hi (intC_get (getD_of hi)), asI_ok, rd1 hk, atK_ok (i := 0) (c := x) rfl, hx.get1 hj (intC_get (getD_of hj)), asI_ok]
      · simp
    · have dj : decide ((j : Int) < (l.length : Int)) = false := by simpa using hj
      rw [dj, scK_ft, if_neg (by simp), show decide (j < l.length) = false by simpa using hj]
      simp
  · have di : decide ((i : Int) < (l.length : Int)) = false := by simpa using hi
    rw [di, scK_ft, scK_ft, if_neg (by simp), show decide (i < l.length) = false by simpa using hi]
    simp

theorem Greedy_R (hE : order_Greedy_In E) (ht : TabOk E) {n : Nat} (hn : n ≤ 64) {f : Nat → Nat} (hf : Words f) {x : Cell} {l : List Int} {h : AHeap} (hx : SlAt h x 1 (intC .i64 l) l.length) (hl : Low h.length x) :
    ∃ y h', R E 27 [.agg (relL n f), .c x] h = some ([.c y, .c (.bool (grd n (INV n f) l n 0 []).isSome)], h') ∧ Kp h.length h h' ∧ SlAt h' y 1 (natC ((grd n (INV n f) l n 0 []).getD [])) ((grd n (INV n f) l n 0 []).getD []).length ∧ Low h'.length y := by
  suffices hs : ∃ y h', order_Greedy.body (R E) Lim E.glob [.agg (relL n f), .c x] h = some ([.c y, .c (.bool (grd n (INV n f) l n 0 []).isSome)], h') ∧ Kp h.length h h' ∧ SlAt h' y 1 (natC ((grd n (INV n f) l n 0 []).getD [])) ((grd n (INV n f) l n 0 []).getD []).length ∧ Low h'.length y by
    obtain ⟨y, h', h1, h2⟩ := hs; exact ⟨y, h', R_intro hE.fn h1, h2⟩
  have hc : AV.cells (.c x) = [x] := rfl
  have h1l : ([x] : List Cell).length = 1 := rfl
  rw [order_Greedy_eq, if_pos ⟨rfl, relL_len _ _⟩, hc, h1l, before_R hE.c35 ht hn hf, c1_ok, asC_ok, lenK_sl]
  have hB : Words (INV n f) := w_INV n f
  generalize INV n f = B at *
  have hbr : blk? (h ++ [some ⟨true, 0, [x]⟩] ++ [some ⟨true, 1, setC n B⟩]) h.length = some ⟨true, 0, [x]⟩ := blk_old (blk_new _ _) _
  have hbn : blk? (h ++ [some ⟨true, 0, [x]⟩] ++ [some ⟨true, 1, setC n B⟩]) (h ++ [some (Blk.mk true 0 [x])]).length = some ⟨true, 1, setC n B⟩ := blk_new _ _
  have hkn : (h ++ [some (Blk.mk true 0 [x])]).length = h.length + 1 := by simp
  have hk0 : Kp h.length h (h ++ [some ⟨true, 0, [x]⟩] ++ [some ⟨true, 1, setC n B⟩]) := by rw [List.append_assoc]; exact Kp.app _ (Nat.le_refl _)
  have hx0 := hx.keep hl hk0
  have hll : (h ++ [some (Blk.mk true 0 [x])] ++ [some (Blk.mk true 1 (setC n B))]).length = h.length + 2 := by simp
  rw [hkn] at hbn ⊢
  generalize h ++ [some (Blk.mk true 0 [x])] ++ [some (Blk.mk true 1 (setC n B))] = H at *
  have hlow : Low H.length x := Low_mono (by omega) hl
  -- the best one
  have inner : ∀ (d : Nat) (h' : AHeap) (x7 : Cell) (a b : Int), d < 2 ^ 64 → Kp H.length H h' → Lim (order_Greedy_F1 (R E) Lim E.glob) (order_Greedy_s1 (.sl (h.length + 1) n 0 n) x7 d (.fn 37 [(h.length, 1, 0)]) (-1) a b (.sl (h.length + 1) n 0 n) n 0 h') = some (.exit 2, order_Greedy_x1_3 (.sl (h.length + 1) n 0 n) x7 d (.fn 37 [(h.length, 1, 0)]) (bI (bestU B l d n)) a b h') := by
    intro d h' x7 a b hd hk
    have bs : SlAt h' (.sl (h.length + 1) n 0 n) 1 (setC n B) n := ⟨by rw [setC_len]; omega, .inr ⟨_, _, 0, rfl, .inr ⟨_, (hk.blk (by omega)).trans hbn, setC_len n B, by omega, fun j _ => by simp⟩⟩⟩
    have hbr' : blk? h' h.length = some ⟨true, 0, [x]⟩ := (hk.blk (by omega)).trans hbr
    have hx' := hx0.keep hlow hk
    refine Lim_count (fun i => order_Greedy_s1 (.sl (h.length + 1) n 0 n) x7 d (.fn 37 [(h.length, 1, 0)]) (bI (bestU B l d i)) a b (.sl (h.length + 1) n 0 n) n (i : Int) h') 0 n (by omega) (fun i _ hi => ?_) (Lim_exit ?_)
    · have he : (((ndiff (B i) d : Nat) : Int) == 0) = (ndiff (B i) d == 0) := by rw [Bool.eq_iff_iff]; simp
      rw [order_Greedy_r1, if_pos (by simp; omega), bs.get1 hi (setC_get hi), asI_ok, Has_R hE.c17 hd, c1_ok, asB_ok, hasI_nat (by omega), g_bandNot (hB i) hd, he, scK_and, bestU]
      cases hc : (!d.testBit i && (ndiff (B i) d == 0)) with
      | false => rw [scK_ft, if_neg (by simp), if_neg (by simp), g_succ (by omega)]
      | true =>
        rw [scK_ok, Bool.true_and]
        cases hb : bestU B l d i with
        | none =>
          rw [show decide (bI none < 0) = true from rfl, scK_tf, bind_ok]
          dsimp only
          rw [if_pos rfl, if_pos rfl, g_succ (by omega)]; rfl
        | some j =>
          rw [show decide (bI (some j) < 0) = false by unfold bI; simp, scK_ok, fnK_fn, show bI (some j) = (j : Int) from rfl, less_R hE.c37 hbr' hx', c1_ok, asB_ok, bind_ok]
          dsimp only
          rw [bind_ok]
          dsimp only
          split
          · rw [g_succ (by omega)]; rfl
          · rw [g_succ (by omega)]; rfl
    · rw [order_Greedy_r1, if_neg (by simp)]
  have hm : maxBytes ≥ 65 * 8 := by unfold maxBytes; omega
  have outer : ∀ (k i d : Nat) (out : List Nat) (h' : AHeap) (x7 : Cell), i + k = n → out.length = i → d < 2 ^ 64 → Kp H.length H h' → Own H.length h' x7 1 (natC out) out.length →
      ∃ h2, Kp H.length H h2 ∧ match grd n B l k d out with
        | none => Lim (order_Greedy_F2 (R E) Lim E.glob) (order_Greedy_s2 (.sl (h.length + 1) n 0 n) x7 d (.fn 37 [(h.length, 1, 0)]) n (i : Int) h') = some (.ret, order_Greedy_x2_0 .nils false h2)
        | some o => ∃ x8, Lim (order_Greedy_F2 (R E) Lim E.glob) (order_Greedy_s2 (.sl (h.length + 1) n 0 n) x7 d (.fn 37 [(h.length, 1, 0)]) n (i : Int) h') = some (.exit 0, order_Greedy_x2_1 x8 h2) ∧ Own H.length h2 x8 1 (natC o) o.length := by
    intro k
    induction k with
    | zero =>
      intro i d out h' x7 hi ho hd hk hw
      refine ⟨h', hk, x7, Lim_exit ?_, hw⟩
      rw [order_Greedy_r2, if_neg (by simp; omega)]
    | succ k ih =>
      intro i d out h' x7 hi ho hd hk hw
      rw [grd]
      have hround : order_Greedy_F2 (R E) Lim E.glob (order_Greedy_s2 (.sl (h.length + 1) n 0 n) x7 d (.fn 37 [(h.length, 1, 0)]) n (i : Int) h') = order_Greedy_k7 (R E) Lim E.glob (.exit 2) (order_Greedy_x1_3 (.sl (h.length + 1) n 0 n) x7 d (.fn 37 [(h.length, 1, 0)]) (bI (bestU B l d n)) n i h') := by
        rw [order_Greedy_r2, if_pos (by simp; omega), lenK_sl, inner d h' x7 n i hd hk, bind_ok]
      rw [order_Greedy_e1_3] at hround
      cases hb : bestU B l d n with
      | none =>
        rw [hb] at hround
        refine ⟨h', hk, Lim_ret ?_⟩
        rw [hround, if_pos (by rfl)]
      | some j =>
        have hj := bestU_lt hb
        rw [hb, show bI (some j) = (j : Int) from rfl, if_neg (by simp), show ∀ c : Cell, splice [Cell.int .i64 0] 0 [c] = [c] from fun _ => rfl, if_pos (by simp)] at hround
        obtain ⟨x8, h3, ha, hw3, hk3, _⟩ := hw.app (bytes := 8) (xs := [.int .i64 (j : Int)]) hk.1 rfl (by omega) (by omega) (by omega)
        have hd2 : d ||| 2 ^ j < 2 ^ 64 := by rw [← bitI_nat (show j < 64 by omega)]; exact or_lt hd (bitI_lt _)
        rw [ha, With_R hE.c18 hd, c1_ok, asI_ok, g_succ (by omega), bitI_nat (by omega)] at hround
        obtain ⟨h2, hk2, hm2⟩ := ih (i + 1) (d ||| 2 ^ j) (out ++ [j]) h3 x8 (by omega) (by simp [ho]) hd2 (hk.trans hk3) (by rw [natC_snoc, List.length_append, List.length_singleton]; exact hw3)
        refine ⟨h2, hk2, ?_⟩
        dsimp only
        cases hg : grd n B l k (d ||| 2 ^ j) (out ++ [j]) with
        | none => rw [hg] at hm2; exact Lim_next hround hm2
        | some o =>
          rw [hg] at hm2
          obtain ⟨x9, h5, h6⟩ := hm2
          exact ⟨x9, Lim_next hround h5, h6⟩
  obtain ⟨h2, hk2, hm2⟩ := outer n 0 0 [] H .nils (by omega) rfl (by omega) (Kp.refl _ _) (Own.nil _ _ _)
  have hkf : Kp h.length h h2 := hk0.trans (hk2.mono (by omega))
  cases hg : grd n B l n 0 [] with
  | none =>
    rw [hg] at hm2
    simp only [Int.natCast_zero] at hm2
    refine ⟨.nils, h2, ?_, hkf, ⟨rfl, .inl ⟨rfl, rfl⟩⟩, trivial⟩
    rw [hm2, bind_ok, order_Greedy_e2_0]; rfl
  | some o =>
    rw [hg] at hm2
    simp only [Int.natCast_zero] at hm2
    obtain ⟨x9, h5, h6⟩ := hm2
    refine ⟨x9, h2, ?_, hkf, h6.at, h6.low⟩
    rw [h5, bind_ok, order_Greedy_e2_1]; rfl

theorem OFirst_R (hE : order_First_In E) (ht : TabOk E) {n : Nat} (hn : n ≤ 64) {f : Nat → Nat} (hf : Words f) (h : AHeap) :
    ∃ y h', R E 29 [.agg (relL n f)] h = some ([.c y, .c (.bool (grd n (INV n f) [] n 0 []).isSome)], h') ∧ Kp h.length h h' ∧ SlAt h' y 1 (natC ((grd n (INV n f) [] n 0 []).getD [])) ((grd n (INV n f) [] n 0 []).getD []).length ∧ Low h'.length y := by
  obtain ⟨y, h', h1, h2⟩ := Greedy_R hE.c27 ht hn hf (x := .nils) (l := []) (h := h) ⟨rfl, .inl ⟨rfl, rfl⟩⟩ trivial
  refine ⟨y, h', R_intro hE.fn ?_, h2⟩
  rw [order_First_eq, if_pos ⟨rfl, relL_len _ _⟩, h1, c2_ok, asC_ok, asB_ok]

end
end Jq

