/- YtfecllgnajhkmaaClockBackC: a part of the proof; no conditions of its own. -/
import Derived.Test.YtfecllgnajhkmaaRows
import Derived.WalkKit
import Derived.ProofKit
import Derived.OpenShut
import Derived.ShutString
import Derived.ChangeOld
import Derived.Below
import Derived.Carry
import Derived.Test.YtfecllgnajhkmaaClockBackB
set_option linter.unusedVariables false
set_option linter.unusedSimpArgs false

/- Clocks' laws. -/
namespace Jq
open Go

variable {E : Env}

theorem SlAt.blkM (h : AHeap) (n : Nat) (V : Nat → Nat → Int) : SlAt (h ++ [some ⟨true, 24, matL n V⟩]) (.sl h.length (n * 24) 0 n) 24 (matL n V) n :=
  ⟨matL_len V n, .inr ⟨_, _, 0, rfl, .inr ⟨_, blk_new _ _, matL_len V n, by omega, fun j _ => by simp⟩⟩⟩

theorem SlAt.getC {α : Type} {h : AHeap} {x : Cell} {n : Nat} {V : Nat → Nat → Int} (s : SlAt h x 24 (matL n V) n) {i : Int} (a : Nat) (hi : i = (a : Int)) {p : Nat} (ha : a < n) (hp : p < 24) {f : Cell → Option α} :
    (idxSK 24 x i fun k N o => rdH h k N fun l => atK l (o + p) f) = f (.int .i64 (V a p)) := by
  subst hi; exact s.get ha hp (matL_get hp ha)

theorem SlAt.leqC {α : Type} {h : AHeap} {x : Cell} {n : Nat} {V : Nat → Nat → Int} (hE : clock_Leq_In E) (s : SlAt h x 24 (matL n V) n) {i j : Int} (a b : Nat) (hi : i = (a : Int)) (hj : j = (b : Int)) (ha : a < n) (hb : b < n) {f : Bool → Option α} :
    (idxSK 24 x i fun k N o => rdH h k N fun l => if o + 24 ≤ l.length then idxSK 24 x j fun k N o' => rdH h k N fun l' => if o' + 24 ≤ l'.length then c1 (qh h (R E 4 [.agg ((l.drop o).take 24), .agg ((l'.drop o').take 24)] h)) fun y _ => asB y fun b => f b else none else none) = f (leqV (V a) (V b)) := by
  subst hi; subst hj; exact s.leqM hE ha hb

theorem awake18_R (hE : jacquardlaw18_awake_In E) (h : AHeap) : R E 5 [] h = some ([.c (.bool true)], h) := by
  refine R_intro hE.fn ?_
  have w0 : Words fun _ => 0 := words_zero
  have w1 : Words (addR 3 (fun _ => 0) 0 1) := words_add w0 0 1
  have w2 : Words (addR 3 (addR 3 (fun _ => 0) 0 1) 1 2) := words_add w1 1 2
  have c3 : clamp 3 = 3 := rfl
  have b1 : (clks 3 (addR 3 (addR 3 (fun _ => 0) 0 1) 1 2) [0, 0, 1] 2 0 == 2) = true := by decide +kernel
  have b2 : (clks 3 (addR 3 (addR 3 (fun _ => 0) 0 1) 1 2) [0, 0, 1] 2 1 == 1) = true := by decide +kernel
  have b3 : (clks 3 (addR 3 (addR 3 (fun _ => 0) 0 1) 1 2) [0, 0, 1] 0 1 == 0) = true := by decide +kernel
  have b4 : leqV (clks 3 (addR 3 (addR 3 (fun _ => 0) 0 1) 1 2) [0, 0, 1] 0) (clks 3 (addR 3 (addR 3 (fun _ => 0) 0 1) 1 2) [0, 0, 1] 2) = true := by decide +kernel
  have hl : splice (splice (splice [Cell.int .i64 0, Cell.int .i64 0, Cell.int .i64 0] 0 ([(.int .i64 0)] : List Cell)) 1 ([(.int .i64 0)] : List Cell)) 2 ([(.int .i64 1)] : List Cell) = intC .i64 [0, 0, 1] := rfl
  rw [jacquardlaw18_awake_eq, New_R hE.c9, c1_ok, asA_ok, c3, Add_R hE.c10 (by omega) w0, c1_ok, asA_ok, Add_R hE.c10 (by omega) w1, c1_ok, asA_ok, hl]
  rw [if_pos (show (intC .i64 [0, 0, 1]).length = 3 * 1 from rfl)]
  have hat : SlAt (h ++ [some ⟨true, 1, intC .i64 [0, 0, 1]⟩]) (.sl h.length (intC .i64 [0, 0, 1]).length 0 3) 1 (intC .i64 [0, 0, 1]) [(0 : Int), 0, 1].length := SlAt.one []
  rw [ClkOf_R (n := 3) hE.c2 (by omega) w2 hat (.inr (by simp)) rfl, c1_ok, asC_ok]
  have hs := SlAt.blkM (h ++ [some ⟨true, 1, intC .i64 [0, 0, 1]⟩]) 3 (clks 3 (addR 3 (addR 3 (fun _ => 0) 0 1) 1 2) [0, 0, 1])
  have hK : Kp h.length h ((h ++ [some ⟨true, 1, intC .i64 [0, 0, 1]⟩]) ++ [some ⟨true, 24, matL 3 (clks 3 (addR 3 (addR 3 (fun _ => 0) 0 1) 1 2) [0, 0, 1])⟩]) := by
    rw [List.append_assoc]; exact Kp.app _ (Nat.le_refl _)
  generalize (h ++ [some ⟨true, 1, intC .i64 [0, 0, 1]⟩]) ++ [some ⟨true, 24, matL 3 (clks 3 (addR 3 (addR 3 (fun _ => 0) 0 1) 1 2) [0, 0, 1])⟩] = H at *
  rw [hs.len, show (((3 : Nat) : Int) == 3) = true from rfl, scK_ok, hs.getC (i := 2) 2 rfl (by omega) (by omega), asI_ok, b1, bind_ok]
  dsimp only
  rw [scK_ok, hs.getC (i := 2) 2 rfl (by omega) (by omega), asI_ok, b2, bind_ok]
  dsimp only
  rw [scK_ok, hs.getC (i := 0) 0 rfl (by omega) (by omega), asI_ok, b3, bind_ok]
  dsimp only
  rw [scK_ok, hs.leqC hE.c4 (i := 0) (j := 2) 0 2 rfl rfl (by omega) (by omega), b4, bind_ok]
  exact finish_gc hK (by simp [avOk, AV.cells, idOk])

theorem leq_trans {u v w : Nat → Int} (h1 : leqV u v = true) (h2 : leqV v w = true) : leqV u w = true := by
  rw [leqV_iff] at *; intro p hp; exact Int.le_trans (h1 p hp) (h2 p hp)
theorem leq_join1 (u v : Nat → Int) : leqV u (joinV u v) = true := by
  rw [leqV_iff]; intro p _; unfold joinV; split <;> omega
theorem leq_join2 (u v : Nat → Int) : leqV v (joinV u v) = true := by
  rw [leqV_iff]; intro p _; unfold joinV; split <;> omega
theorem join_leq {u v w : Nat → Int} (h1 : leqV u w = true) (h2 : leqV v w = true) : leqV (joinV u v) w = true := by
  rw [leqV_iff] at *; intro p hp; unfold joinV; split; exact h2 p hp; exact h1 p hp
theorem join_comm (u v : Nat → Int) : vecL (joinV u v) = vecL (joinV v u) := vecL_congr fun p _ => by unfold joinV; split <;> split <;> omega
theorem join_self (u : Nat → Int) : vecL (joinV u u) = vecL u := vecL_congr fun p _ => by unfold joinV; split <;> rfl

theorem ClockJoins_R (hE : jacquardlaw18_ClockJoins_In E) (u v w : Nat → Int) (h : AHeap) : R E 226 [.agg (vecL u), .agg (vecL v), .agg (vecL w)] h = some ([.c (.bool true)], h) := by
  refine R_intro hE.fn ?_
  have loop : Lim (jacquardlaw18_ClockJoins_F1 (R E) Lim E.glob) (jacquardlaw18_ClockJoins_s1 ((List.range 0).all fun p => decide (u p ≤ v p)) ((0 : Nat) : Int) (vecL u) (vecL v) (vecL w) (vecL (joinV u v)) h) = some (.exit 0, jacquardlaw18_ClockJoins_x1_1 (leqV u v) (vecL u) (vecL v) (vecL w) (vecL (joinV u v)) h) := by
    refine Lim_count (fun i => jacquardlaw18_ClockJoins_s1 ((List.range i).all fun p => decide (u p ≤ v p)) (i : Int) (vecL u) (vecL v) (vecL w) (vecL (joinV u v)) h) 0 24 (by omega) (fun i _ hi => ?_) (Lim_exit ?_)
    · have q1 : 0 ≤ (i : Int) ∧ (i : Int) < ((24 : Nat) : Int) := by omega
      have e : (joinV u v i != if v i > u i then v i else u i) = false := by unfold joinV; exact bne_self_eq_false _
      simp only [jacquardlaw18_ClockJoins_r1, if_pos q1, Int.toNat_natCast, show 0 + i * 1 = i by omega, atK_ok (vecL_get hi), asI_ok, e, scK_and, g_succ (show i < 9223372036854775807 by omega), List.range_succ, List.all_append]
      rw [if_pos (by simp; omega), if_neg (by simp)]
      simp
    · rw [jacquardlaw18_ClockJoins_r1, if_neg (by simp)]; rfl
  have lj1 := leq_join1 u v
  have lj2 := leq_join2 u v
  have ec := join_comm v u
  have es := join_self u
  rw [jacquardlaw18_ClockJoins_eq]
  simp only [vecL_len, List.length_replicate, and_self, if_true, Join_R hE.c8, c1_ok, asA_ok]
  rw [show jacquardlaw18_ClockJoins_s1 true 0 (vecL u) (vecL v) (vecL w) (vecL (joinV u v)) h = jacquardlaw18_ClockJoins_s1 ((List.range 0).all fun p => decide (u p ≤ v p)) ((0 : Nat) : Int) (vecL u) (vecL v) (vecL w) (vecL (joinV u v)) h from rfl, loop, bind_ok, jacquardlaw18_ClockJoins_e1_1]
  simp only [vecL_len, and_self, if_true, Leq_R hE.c4, Join_R hE.c8, awake18_R hE.c5, qh_ok, c1_ok, asA_ok, asB_ok, lj1, lj2, ec, es, zero24, alike_vec, decide_true, scK_or, scK_and, beq_self_eq_true, Bool.not_true, Bool.or_self, Bool.false_eq_true, if_false, Bool.and_true]
  have k1 := @join_leq u v w
  have k2 := @leq_trans u v w
  cases h1 : leqV u v <;> cases h2 : leqV u w <;> cases h3 : leqV v w <;> simp_all

theorem ClockJoins_law (hE : jacquardlaw18_ClockJoins_In E) {h : AHeap} {c0 c1 c2 : List Cell} (o0 : okC h (.agg (Sh.rep (.i .i64) 24)) c0) (o1 : okC h (.agg (Sh.rep (.i .i64) 24)) c1) (o2 : okC h (.agg (Sh.rep (.i .i64) 24)) c2) :
    ∃ h', R E 226 [av1 (.agg (Sh.rep (.i .i64) 24)) c0, av1 (.agg (Sh.rep (.i .i64) 24)) c1, av1 (.agg (Sh.rep (.i .i64) 24)) c2] h = some ([.c (.bool true)], h') := by
  obtain ⟨u, e0⟩ := arg_vec o0
  obtain ⟨v, e1⟩ := arg_vec o1
  obtain ⟨w, e2⟩ := arg_vec o2
  rw [e0, e1, e2]
  exact ⟨h, ClockJoins_R hE u v w h⟩

/- Too few clocks. -/
theorem Back_nil (hE : clock_Back_In E) {x0 x1 : Cell} {m n : Nat} (h0 : ∀ {α : Type} (f : Int → Option α), lenK x0 f = f m) (h1 : ∀ {α : Type} (f : Int → Option α), lenK x1 f = f n) (hmn : m < n) (h : AHeap) :
    R E 11 [.c x0, .c x1] h = some ([.agg (relL 0 fun _ => 0)], h) := by
  refine R_intro hE.fn ?_
  have hc : clamp 0 = 0 := rfl
  have e : decide ((m : Int) < (n : Int)) = true := by simp; omega
  rw [clock_Back_eq]
  simp only [h0, h1, scK_or, e, Bool.or_true, if_true, New_R hE.c9, c1_ok, asA_ok, hc, relL_len, zero_len, and_self]

theorem g_band65535 {x : Int} : E.glob.band .i64 x 65535 = x % 65536 := by
  show IntKind.wrap .i64 ((BitVec.ofInt 64 x &&& BitVec.ofInt 64 65535).toNat : Nat) = _
  have h1 : (BitVec.ofInt 64 x &&& BitVec.ofInt 64 65535).toNat = (BitVec.ofInt 64 x).toNat % 65536 := by
    rw [BitVec.toNat_and]
    have : (BitVec.ofInt 64 65535).toNat = 2 ^ 16 - 1 := by decide
    rw [this, Nat.and_two_pow_sub_one_eq_mod]
  rw [h1, BitVec.toNat_ofInt]
  have h3 : ((((x % ((2 ^ 64 : Nat) : Int)).toNat % 65536 : Nat) : Int)) = x % 65536 := by omega
  rw [h3]
  exact wrap_i64 (by omega) (by omega)

theorem ClockShort_R (hE : jacquardlaw18_ClockShort_In E) (ht : TabOk E) {x0 x1 : Cell} {l : List Int} {l1 : List (Int × Int)} (a2 : Int) {h : AHeap} (hx0 : SlAt h x0 1 (intC .i64 l) l.length) (hl0 : Low h.length x0)
    (hx1 : SlAt h x1 2 (pairC l1) l1.length) (hl1 : Low h.length x1) : ∃ h', R E 228 [.c x0, .c x1, .c (.int .i64 a2)] h = some ([.c (.bool true)], h') := by
  suffices hh : ∃ h', jacquardlaw18_ClockShort.body (R E) Lim E.glob [.c x0, .c x1, .c (.int .i64 a2)] h = some ([.c (.bool true)], h') by
    obtain ⟨h', hh⟩ := hh; exact ⟨h', R_intro hE.fn hh⟩
  rw [jacquardlaw18_ClockShort_eq]
  simp only [hx0.len]
  rw [scK_or]
  by_cases hb : (((l.length : Int) == 0) || decide ((l.length : Int) > 60)) = true
  · rw [if_pos hb, awake18_R hE.c5, c1_ok, asB_ok]; exact ⟨_, rfl⟩
  · rw [if_neg hb]
    have hb' : l.length ≠ 0 ∧ l.length ≤ 60 := by
      simp only [Bool.or_eq_true, beq_iff_eq, decide_eq_true_eq, not_or] at hb; omega
    have hn : l.length ≤ 64 := by omega
    rw [Of_R hE.c1 (l.length : Int) hx1 hl1, c2_ok, asA_ok, asA_ok, clamp_nat hn]
    have hf := words_of l.length (l1.take 200)
    generalize ofR l.length (l1.take 200) = f at *
    simp only [relL_len, zero_len, and_self, if_true]
    rw [ClkOf_R hE.c2 hn hf hx0 hl0 rfl, c1_ok, asC_ok]
    obtain ⟨m, hm, hmv⟩ : ∃ m : Nat, m < l.length ∧ E.glob.rem .i64 (E.glob.band .i64 a2 65535) (l.length : Int) = (m : Int) := by
      have h1 := Int.emod_lt_of_pos (a2 % 65536) (show (0 : Int) < l.length by omega)
      have h2 := Int.emod_nonneg (a2 % 65536) (show (l.length : Int) ≠ 0 by omega)
      exact ⟨(a2 % 65536 % l.length).toNat, by omega, by rw [g_band65535, g_rem, Int.tmod_eq_emod_of_nonneg (show 0 ≤ a2 % 65536 by omega), Int.toNat_of_nonneg h2]⟩
    have hs := SlAt.blkM h l.length (clks l.length f l)
    rw [hs.len, bne_self_eq_false, if_neg (by simp), if_neg (by omega), hmv]
    have hsl : ∀ {α : Type} (F : Cell → Option α), sliceK (h ++ [some ⟨true, 24, matL l.length (clks l.length f l)⟩]) 24 false true (.sl h.length (l.length * 24) 0 l.length) [.v (.c (.int .i64 (m : Int)))] F = F (.sl h.length (l.length * 24) (0 + 0 * 24) (m - 0)) := by
      intro α F
      unfold sliceK
      have hok : okSl (h ++ [some ⟨true, 24, matL l.length (clks l.length f l)⟩]) 24 h.length (l.length * 24) = true := by unfold okSl; rw [blk_new]; simp
      simp only [hok, if_true]
      unfold boundsK
      simp only
      rw [if_pos ⟨by omega, by omega⟩]; rfl
    rw [hsl, Back_nil hE.c11 (m := m) (n := l.length) (fun f => rfl) (fun f => hx0.len) hm, c1_ok, asA_ok]
    obtain ⟨x', h', hP, hx', _⟩ := Pairs_R hE.c20 ht (n := 0) (by omega) words_zero (h ++ [some ⟨true, 24, matL l.length (clks l.length f l)⟩])
    rw [hP, c1_ok, asC_ok, hx'.at.len, show (((pairsP 0 fun _ => 0).length : Nat) : Int) == 0 by rfl, scK_ok, awake18_R hE.c5, c1_ok, asB_ok, bind_ok]
    exact ⟨_, rfl⟩

theorem ClockShort_law (ht : TabOk E) (hE : jacquardlaw18_ClockShort_In E) {h : AHeap} {c0 c1 c2 : List Cell} (o0 : okC h (.sl (.i .i64)) c0) (o1 : okC h (.sl shPair) c1) (o2 : okC h (.i .i64) c2) :
    ∃ h', R E 228 [av1 (.sl (.i .i64)) c0, av1 (.sl shPair) c1, av1 (.i .i64) c2] h = some ([.c (.bool true)], h') := by
  obtain ⟨x0, l, e0, hx0, hl0, _⟩ := arg_ints o0
  obtain ⟨x1, l1, e1, hx1, hl1, _⟩ := arg_pairs o1
  obtain ⟨a2, e2, _⟩ := arg_int o2
  rw [e0, e1, e2]
  exact ClockShort_R hE ht a2 hx0 hl0 hx1 hl1

/- A clock rises along the order. -/
theorem cntP_cut (P : Nat → Bool) (L : Nat → Nat) (q : Nat) : ∀ m, cntP (fun j => P j && decide (L j < q + 1)) m = cntP (fun j => P j && decide (L j < q)) m + cntP (fun j => P j && decide (L j = q)) m
  | 0 => rfl
  | m + 1 => by
    rw [cntP_succ, cntP_succ, cntP_succ, cntP_cut P L q m]
    cases P m with
    | false => simp
    | true =>
      rcases Nat.lt_trichotomy (L m) q with h | h | h
      · have h1 : L m < q + 1 := by omega
        have h2 : ¬ L m = q := by omega
        simp [h, h1, h2]; omega
      · simp [h]; omega
      · have h1 : ¬ L m < q + 1 := by omega
        have h2 : ¬ L m = q := by omega
        have h3 : ¬ L m < q := by omega
        simp [h1, h2, h3]

/-- What all lanes below q count. -/
def tot (c : Nat → Nat) (l : List Int) (i n q : Nat) : Nat := cntP (fun j => (decide (j = i) || (c j).testBit i) && decide (lane l j < q)) n

theorem tot_succ (c : Nat → Nat) (l : List Int) (i n q : Nat) : tot c l i n (q + 1) = tot c l i n q + vc c l i q n := cntP_cut _ _ q n

theorem tot_zero (c : Nat → Nat) (l : List Int) (i n : Nat) : tot c l i n 0 = 0 := by
  unfold tot cntP
  rw [List.filter_eq_nil_iff.2 (fun x _ => by simp)]; rfl

theorem vc_self {c : Nat → Nat} {l : List Int} {i n : Nat} (hi : i < n) : 0 < vc c l i (lane l i) n := cntP_pos hi (by simp)

theorem tot_self {c : Nat → Nat} {l : List Int} {i n : Nat} (hi : i < n) : 0 < tot c l i n 24 := cntP_pos hi (by simp [lane_lt])

theorem clks_leq {n : Nat} {f : Nat → Nat} (ff : Fit n f) (l : List Int) {i j : Nat} (hj : j < n) (h : (clK n f n j).testBit i = true) : leqV (clks n f l j) (clks n f l i) = true := by
  rw [leqV_iff]
  intro p _
  have : vc (clK n f n) l j p n ≤ vc (clK n f n) l i p n := cntP_mono n fun k _ hk => by
    simp only [Bool.and_eq_true, Bool.or_eq_true, decide_eq_true_eq] at hk ⊢
    refine ⟨?_, hk.2⟩
    rcases hk.1 with rfl | hk
    · exact .inr h
    · exact .inr ((clK_bit ff _ _).2 (((clK_bit ff _ _).1 hk).trans hj ((clK_bit ff _ _).1 h)))
  unfold clks; omega

theorem ClockRises_R (hE : jacquardlaw18_ClockRises_In E) {x0 x1 : Cell} {l : List Int} {l1 : List (Int × Int)} {h : AHeap} (hx0 : SlAt h x0 1 (intC .i64 l) l.length) (hl0 : Low h.length x0) (hs0 : SlOk h x0)
    (hx1 : SlAt h x1 2 (pairC l1) l1.length) (hl1 : Low h.length x1) : ∃ h', R E 224 [.c x0, .c x1] h = some ([.c (.bool true)], h') := by
  suffices hh : ∃ h', jacquardlaw18_ClockRises.body (R E) Lim E.glob [.c x0, .c x1] h = some ([.c (.bool true)], h') by
    obtain ⟨h', hh⟩ := hh; exact ⟨h', R_intro hE.fn hh⟩
  rw [jacquardlaw18_ClockRises_eq]
  have hv : (if (40 : Int) < (l.length : Int) then (40 : Int) else (l.length : Int)) = ((min 40 l.length : Nat) : Int) := by split <;> omega
  simp only [hx0.len, hv]
  have hnl : min 40 l.length ≤ l.length := Nat.min_le_right _ _
  have hn40 : min 40 l.length ≤ 40 := Nat.min_le_left _ _
  generalize min 40 l.length = n at hnl hn40
  have hn : n ≤ 64 := by omega
  rw [Of_R hE.c1 (n : Int) hx1 hl1, c2_ok, asA_ok, asA_ok, clamp_nat hn]
  have hf := words_of n (l1.take 200)
  have ff := of_fit hn (l1.take 200)
  generalize ofR n (l1.take 200) = f at *
  simp only [relL_len, zero_len, and_self, if_true]
  have htl : (l.take n).length = n := by rw [List.length_take]; omega
  obtain ⟨x7, hx7, hs7, hl7, _⟩ := hx0.pre hs0 (Kp.refl _ _) hl0 hnl
  have hs7' : SlAt h x7 1 (intC .i64 (l.take n)) (l.take n).length := by
    rw [htl, intC, List.map_take]; rw [Nat.mul_one] at hs7; exact hs7
  rw [hx7, ClkOf_R hE.c2 hn hf hs7' hl7 htl, c1_ok, asC_ok]
  have hs := SlAt.blkM h n (clks n f (l.take n))
  have hk0 : SlAt (h ++ [some ⟨true, 24, matL n (clks n f (l.take n))⟩]) x0 1 (intC .i64 l) l.length := hx0.keep hl0 (Kp.app _ (Nat.le_refl _))
  have hclks : ∀ i p, clks n f (l.take n) i p = ((vc (clK n f n) (l.take n) i p n : Nat) : Int) := fun i p => rfl
  generalize clks n f (l.take n) = V at hs hk0 hclks ⊢
  generalize h ++ [some ⟨true, 24, matL n V⟩] = H at *
  generalize Cell.sl h.length (n * 24) 0 n = x at *
  rw [hs.len, bne_self_eq_false, if_neg (by simp)]
  have hleq : ∀ i j, j < n → (f j).testBit i = true → leqV (V j) (V i) = true := by
    intro i j hj hb
    have := clks_leq ff (l.take n) hj ((clK_bit ff _ _).2 (.one hb))
    rw [leqV_iff] at this ⊢
    intro p hp
    rw [hclks, hclks]; exact this p hp
  refine ⟨H, ?_⟩
  have outer : Lim (jacquardlaw18_ClockRises_F3 (R E) Lim E.glob) (jacquardlaw18_ClockRises_s3 x0 n x ((0 : Nat) : Int) (relL n f) H) = some (.exit 0, jacquardlaw18_ClockRises_x3_1 H) := by
    refine Lim_count (fun i => jacquardlaw18_ClockRises_s3 x0 n x (i : Int) (relL n f) H) 0 n (by omega) (fun i _ hi => ?_) (Lim_exit ?_)
    · have hil : l[i]? = some (l[i]?.getD 0) := by simp [show i < l.length by omega]
      have hpl : (pk (l[i]?.getD 0)) = lane (l.take n) i := by unfold lane; rw [List.getElem?_take, if_pos hi]
      have hp := lane_lt (l.take n) i
      have hself := vc_self (c := clK n f n) (l := l.take n) hi
      have hts := tot_self (c := clK n f n) (l := l.take n) hi
      have htn : tot (clK n f n) (l.take n) i n 24 ≤ n := cntP_le _ _
      have first : (scK (decide (l[i]?.getD 0 < 0)) false (some (decide (l[i]?.getD 0 > 23), H)) true H fun b_18 h_19 => if b_18 = true then some (Ex.normal, jacquardlaw18_ClockRises_c1 x0 n x i 0 (relL n f) h_19) else some (Ex.normal, jacquardlaw18_ClockRises_c1 x0 n x i (l[i]?.getD 0) (relL n f) h_19) : Option (Ex × St)) = some (Ex.normal, jacquardlaw18_ClockRises_c1 x0 n x i (lane (l.take n) i : Nat) (relL n f) H) := by
        rw [scK_or, ← hpl]
        unfold pk
        by_cases ha : 0 ≤ l[i]?.getD 0 ∧ l[i]?.getD 0 < 24
        · rw [if_neg (by simp; omega), if_pos ha, Int.toNat_of_nonneg ha.1]
        · rw [if_pos (by simp; omega), if_neg ha]; rfl
      have sum : Lim (jacquardlaw18_ClockRises_F1 (R E) Lim E.glob) (jacquardlaw18_ClockRises_s1 x0 n x i (lane (l.take n) i : Nat) (tot (clK n f n) (l.take n) i n 0 : Nat) ((0 : Nat) : Int) (relL n f) H) = some (.exit 2, jacquardlaw18_ClockRises_x1_3 x0 n x i (lane (l.take n) i : Nat) (tot (clK n f n) (l.take n) i n 24 : Nat) (relL n f) H) := by
        refine Lim_count (fun q => jacquardlaw18_ClockRises_s1 x0 n x i (lane (l.take n) i : Nat) (tot (clK n f n) (l.take n) i n q : Nat) (q : Int) (relL n f) H) 0 24 (by omega) (fun q _ hq => ?_) (Lim_exit ?_)
        · have h1 : tot (clK n f n) (l.take n) i n q ≤ n := cntP_le _ _
          have h2 : vc (clK n f n) (l.take n) i q n ≤ n := cntP_le _ _
          rw [jacquardlaw18_ClockRises_r1, if_pos (by simp; omega), hs.getM hi hq, asI_ok, hclks, tot_succ, g_succ (by omega), g_wrap_i64 (by omega) (by omega), ← Int.natCast_add]
        · rw [jacquardlaw18_ClockRises_r1, if_neg (by simp)]
      rw [tot_zero] at sum
      have inner : Lim (jacquardlaw18_ClockRises_F2 (R E) Lim E.glob) (jacquardlaw18_ClockRises_s2 x0 n x i ((0 : Nat) : Int) (relL n f) H) = some (.exit 4, jacquardlaw18_ClockRises_x2_5 x0 n x i (relL n f) H) := by
        refine Lim_count (fun j => jacquardlaw18_ClockRises_s2 x0 n x i (j : Int) (relL n f) H) 0 n (by omega) (fun j _ hj => ?_) (Lim_exit ?_)
        · rw [jacquardlaw18_ClockRises_r2, if_pos (by simp; omega), if_pos ⟨rfl, relL_len _ _⟩, HasS hE.c3 hn hf hj (by omega), qh_ok, c1_ok, asB_ok, hs.leqM hE.c4 hj hi, scK_and, g_succ (by omega)]
          cases hb : (f j).testBit i with
          | false => rw [if_neg (by simp)]
          | true => rw [hleq i j hj hb, if_neg (by simp)]
        · rw [jacquardlaw18_ClockRises_r2, if_neg (by simp)]
      rw [jacquardlaw18_ClockRises_r3, if_pos (by simp; omega), hk0.get1 (by omega) (intC_get hil), asI_ok, first, bind_ok, jacquardlaw18_ClockRises_ec1_n, show (0 : Int) = ((0 : Nat) : Int) from rfl, sum, bind_ok, jacquardlaw18_ClockRises_e1_3, hs.getM hi hp, asI_ok, hclks, scK_or, scK_or, if_neg (by simp; omega), show (0 : Int) = ((0 : Nat) : Int) from rfl, inner, bind_ok, jacquardlaw18_ClockRises_e2_5, g_succ (by omega)]
    · rw [jacquardlaw18_ClockRises_r3, if_neg (by simp)]
  rw [show (0 : Int) = ((0 : Nat) : Int) from rfl, outer, bind_ok, jacquardlaw18_ClockRises_e3_1, awake18_R hE.c5, c1_ok, asB_ok]

theorem ClockRises_law (hE : jacquardlaw18_ClockRises_In E) {h : AHeap} {c0 c1 : List Cell} (o0 : okC h (.sl (.i .i64)) c0) (o1 : okC h (.sl shPair) c1) :
    ∃ h', R E 224 [av1 (.sl (.i .i64)) c0, av1 (.sl shPair) c1] h = some ([.c (.bool true)], h') := by
  obtain ⟨x0, l, e0, hx0, hl0, _⟩ := arg_ints o0
  obtain ⟨x1, l1, e1, hx1, hl1, _⟩ := arg_pairs o1
  have hs := arg_slok o0 e0
  rw [e0, e1]
  exact ClockRises_R hE hx0 hl0 hs hx1 hl1

end Jq

/- ClockBack: where all of one lane are in one order, the clocks say who leads to whom. -/
namespace Jq
open Go

theorem cntP_ge {P : Nat → Bool} (m : Nat) : ∀ d, cntP P m ≤ cntP P (m + d)
  | 0 => Nat.le_refl _
  | d + 1 => by rw [← Nat.add_assoc, cntP_succ]; exact Nat.le_trans (cntP_ge m d) (by omega)

theorem cntP_to {P : Nat → Bool} {a n : Nat} (h : a ≤ n) : cntP P a ≤ cntP P n := by
  obtain ⟨d, rfl⟩ := Nat.exists_eq_add_of_le h
  exact cntP_ge _ _

theorem cntP_in {P Q : Nat → Bool} {a : Nat} : ∀ n, (∀ k, k < n → Q k = true → k < a ∧ P k = true) → cntP Q n ≤ cntP P a
  | 0, _ => by simp [cntP]
  | n + 1, h => by
    by_cases hq : Q n = true
    · obtain ⟨h1, _⟩ := h n (by omega) hq
      refine Nat.le_trans (cntP_mono (n + 1) fun k hk hqk => (h k hk hqk).2) ?_
      obtain ⟨d, rfl⟩ := Nat.exists_eq_add_of_le (show n + 1 ≤ a by omega)
      exact cntP_ge _ _
    · rw [cntP_succ, if_neg hq, Nat.add_zero]
      exact cntP_in n fun k hk => h k (by omega)

/-- How many of a's lane there are up to a. -/
def upTo (l : List Int) (a : Nat) : Nat := cntP (fun k => decide (lane l k = lane l a)) (a + 1)

theorem way_rise {n : Nat} {f : Nat → Nat} (hr : ∀ a b, (f a).testBit b = true → a < b) {a b : Nat} (w : Way f n a b) : a < b := by
  induction w with
  | one h => exact hr _ _ h
  | step h _ _ ih => exact Nat.lt_trans (hr _ _ h) ih

theorem back_bit {n : Nat} {f : Nat → Nat} (ff : Fit n f) (hr : ∀ a b, (f a).testBit b = true → a < b) {l : List Int} (hl : ∀ a b, a < b → b < n → lane l a = lane l b → (f a).testBit b = true) {a b : Nat} (ha : a < n) (hb : b < n) :
    (a ≠ b ∧ upTo l a ≤ vc (clK n f n) l b (lane l a) n) ↔ Way f n a b := by
  constructor
  · rintro ⟨hab, hle⟩
    refine Classical.byContradiction fun hw => ?_
    have h1 : vc (clK n f n) l b (lane l a) n ≤ cntP (fun k => decide (lane l k = lane l a)) a := cntP_in n fun k hk hq => by
      simp only [Bool.and_eq_true, Bool.or_eq_true, decide_eq_true_eq] at hq ⊢
      refine ⟨?_, hq.2⟩
      rcases Nat.lt_trichotomy k a with h | h | h
      · exact h
      · subst h
        exfalso
        rcases hq.1 with h2 | h2
        · exact hab h2
        · exact hw ((clK_bit ff _ _).1 h2)
      · exfalso
        have hak := hl a k h hk hq.2.symm
        rcases hq.1 with h2 | h2
        · subst h2; exact hw (.one hak)
        · exact hw (.step hak hk ((clK_bit ff _ _).1 h2))
    unfold upTo at hle
    rw [cntP_succ, if_pos (by simp)] at hle
    omega
  · intro w
    refine ⟨fun h => ?_, ?_⟩
    · have := way_rise hr w; omega
    · unfold upTo vc
      refine Nat.le_trans (cntP_mono (Q := fun j => (decide (j = b) || (clK n f n j).testBit b) && decide (lane l j = lane l a)) (a + 1) fun k hk hq => ?_) ?_
      · simp only [decide_eq_true_eq] at hq
        simp only [Bool.and_eq_true, Bool.or_eq_true, decide_eq_true_eq]
        refine ⟨.inr ((clK_bit ff _ _).2 ?_), hq⟩
        by_cases hka : k = a
        · rw [hka]; exact w
        · exact .step (hl k a (by omega) ha hq) ha w
      · exact cntP_to (by omega)

variable {E : Env}

/-- What the clocks say. -/
def backQ (V : Nat → Nat → Int) (l : List Int) (a b : Nat) : Bool := decide (a ≠ b) && decide (V b (lane l a) ≥ (upTo l a : Int))

/-- Counts of lanes, of the first m. -/
def lnV (l : List Int) (m : Nat) : Nat → Int := fun p => (cntP (fun k => decide (lane l k = p)) m : Nat)

theorem lnV_succ (l : List Int) (m : Nat) : (vecL fun q => if q = lane l m then lnV l m (lane l m) + 1 else lnV l m q) = vecL (lnV l (m + 1)) := by
  refine vecL_congr fun q _ => ?_
  unfold lnV
  rw [cntP_succ]
  by_cases hq : q = lane l m
  · subst hq; simp
  · have : ¬ lane l m = q := fun h => hq h.symm
    simp [hq, this]

theorem Back_R (hE : clock_Back_In E) {n : Nat} (hn : n ≤ 64) {V : Nat → Nat → Int} {l : List Int} (hln : l.length = n) {x0 x1 : Cell} {h : AHeap} (h0 : SlAt h x0 24 (matL n V) n) (h1 : SlAt h x1 1 (intC .i64 l) l.length) :
    R E 11 [.c x0, .c x1] h = some ([.agg (relL n (ACC n (backQ V l)))], h) := by
  refine R_intro hE.fn ?_
  have hc : clamp (n : Int) = n := clamp_nat hn
  have h1l : ∀ {α : Type} (f : Int → Option α), lenK x1 f = f n := fun f => by rw [h1.len, hln]
  have outer : Lim (clock_Back_F2 (R E) Lim E.glob) (clock_Back_s2 x0 x1 x1 n ((0 : Nat) : Int) (relL 0 fun _ => 0) (relL n (ACC n fun a b => upto 0 0 a b && backQ V l a b)) (vecL (lnV l 0)) h) = some (.exit 0, clock_Back_x2_1 (relL 0 fun _ => 0) (relL n (ACC n fun a b => upto n 0 a b && backQ V l a b)) h) := by
    refine Lim_count (fun i => clock_Back_s2 x0 x1 x1 n (i : Int) (relL 0 fun _ => 0) (relL n (ACC n fun a b => upto i 0 a b && backQ V l a b)) (vecL (lnV l i)) h) 0 n (by omega) (fun i _ hi => ?_) (Lim_exit ?_)
    · have hli : l[i]? = some (l[i]?.getD 0) := by simp [hln, hi]
      have hp := lane_lt l i
      have q1 : 0 ≤ ((lane l i : Nat) : Int) ∧ ((lane l i : Nat) : Int) < ((24 : Nat) : Int) := by omega
      have hv : cntP (fun k => decide (lane l k = lane l i)) i ≤ i := cntP_le _ _
      have hw : E.glob.wrap .i64 (lnV l i (lane l i) + 1) = lnV l i (lane l i) + 1 := by unfold lnV; exact g_wrap_i64 (by omega) (by omega)
      have hu : lnV l (i + 1) (lane l i) = (upTo l i : Nat) := rfl
      have inner : Lim (clock_Back_F1 (R E) Lim E.glob) (clock_Back_s1 x0 x1 i (l[i]?.getD 0) x1 n i n ((0 : Nat) : Int) (relL 0 fun _ => 0) (relL n (ACC n fun a b => upto i 0 a b && backQ V l a b)) (vecL (lnV l (i + 1))) h) = some (.exit 2, clock_Back_x1_3 x0 x1 x1 n i (relL 0 fun _ => 0) (relL n (ACC n fun a b => upto i n a b && backQ V l a b)) (vecL (lnV l (i + 1))) h) := by
        refine Lim_count (fun j => clock_Back_s1 x0 x1 i (l[i]?.getD 0) x1 n i n (j : Int) (relL 0 fun _ => 0) (relL n (ACC n fun a b => upto i j a b && backQ V l a b)) (vecL (lnV l (i + 1))) h) 0 n (by omega) (fun j _ hj => ?_) (Lim_exit ?_)
        · have e0 : ((i : Int) != (j : Int)) = decide (i ≠ j) := by
            rw [bne, Bool.eq_iff_iff, Bool.not_eq_true', beq_eq_false_iff_ne, decide_eq_true_eq]; omega
          rw [clock_Back_r1, if_pos (by simp; omega), e0, pick_R hE.c15, qh_ok, c1_ok, asI_ok, show pk (l[i]?.getD 0) = lane l i from rfl, h0.getM hj hp, asI_ok, c1_ok, asI_ok, if_pos q1, Int.toNat_natCast, show 0 + lane l i * 1 = lane l i by omega, atK_ok (vecL_get hp), asI_ok, hu, scK_and, g_succ (by omega)]
          cases hb : (decide (i ≠ j) && decide (V j (lane l i) ≥ (upTo l i : Int))) with
          | false =>
            have e : relL n (ACC n fun a b => upto i j a b && backQ V l a b) = relL n (ACC n fun a b => upto i (j + 1) a b && backQ V l a b) := by
              refine ACC_eq hn fun a b _ _ => ?_
              rw [Bool.eq_iff_iff]
              simp only [Bool.and_eq_true, upto, Bool.or_eq_true, decide_eq_true_eq]
              constructor
              · rintro ⟨q1, q2⟩; exact ⟨by omega, q2⟩
              · rintro ⟨q1, q2⟩
                refine ⟨?_, q2⟩
                by_cases h3 : a = i ∧ b = j
                · rw [h3.1, h3.2] at q2; unfold backQ at q2; rw [hb] at q2; cases q2
                · omega
            rw [if_neg (by simp), e]
          | true =>
            have e : relL n (addR n (ACC n fun a b => upto i j a b && backQ V l a b) (i : Int) (j : Int)) = relL n (ACC n fun a b => upto i (j + 1) a b && backQ V l a b) := by
              refine ACC_add hn hi hj fun a b _ _ => ?_
              rw [Bool.eq_iff_iff]
              simp only [upto, Bool.and_eq_true, Bool.or_eq_true, decide_eq_true_eq]
              constructor
              · rintro ⟨q1, q3⟩
                by_cases h3 : a = i ∧ b = j
                · exact .inr h3
                · exact .inl ⟨by omega, q3⟩
              · rintro (⟨q1, q3⟩ | ⟨rfl, rfl⟩)
                · exact ⟨by omega, q3⟩
                · exact ⟨by omega, hb⟩
            rw [if_pos rfl, if_pos ⟨rfl, relL_len _ _⟩, Add_R hE.c10 hn (w_ACC _ _), c1_ok, asA_ok, if_pos ⟨rfl, relL_len _ _, relL_len _ _⟩, e]
        · rw [clock_Back_r1, if_neg (by simp)]
      have e : relL n (ACC n fun a b => upto i n a b && backQ V l a b) = relL n (ACC n fun a b => upto (i + 1) 0 a b && backQ V l a b) := by
        refine ACC_eq hn fun a b ha hb => ?_
        congr 1
        rw [Bool.eq_iff_iff]
        simp only [upto, Bool.and_eq_true, Bool.or_eq_true, decide_eq_true_eq]
        omega
      rw [show ((0 : Nat) : Int) = 0 from rfl] at inner
      rw [clock_Back_r2, if_pos (by simp; omega), h1.get1 (by omega) (intC_get hli), asI_ok, pick_R hE.c15, c1_ok, asI_ok, show pk (l[i]?.getD 0) = lane l i from rfl, if_pos q1, Int.toNat_natCast, show 0 + lane l i * 1 = lane l i by omega, atK_ok (vecL_get hp), asI_ok, if_pos q1, if_pos (by rw [vecL_len]; omega), h1l, hw, vecL_set, lnV_succ, inner, bind_ok, clock_Back_e1_3, e, g_succ (by omega)]
    · rw [clock_Back_r2, if_neg (by simp)]
  have e0 : relL n (fun _ => 0) = relL n (ACC n fun a b => upto 0 0 a b && backQ V l a b) := (ACC_none hn fun a b _ _ => by simp [upto]).symm
  have e1 : relL n (ACC n fun a b => upto n 0 a b && backQ V l a b) = relL n (ACC n (backQ V l)) := ACC_eq hn fun a b ha _ => by
    rw [show upto n 0 a b = true by simp [upto, ha], Bool.true_and]
  have ev : vecL (fun _ => 0) = vecL (lnV l 0) := rfl
  rw [clock_Back_eq, h1l, h0.len, h1l, scK_or, if_neg (by simp; omega), h1l, New_R hE.c9, c1_ok, asA_ok, hc, if_pos ⟨rfl, zero_len, relL_len _ _⟩, h1l, zero_rel, e0, zero24, ev]
  rw [show clock_Back_s2 x0 x1 x1 n 0 (relL 0 fun _ => 0) (relL n (ACC n fun a b => upto 0 0 a b && backQ V l a b)) (vecL (lnV l 0)) h = clock_Back_s2 x0 x1 x1 n ((0 : Nat) : Int) (relL 0 fun _ => 0) (relL n (ACC n fun a b => upto 0 0 a b && backQ V l a b)) (vecL (lnV l 0)) h from rfl, outer, bind_ok, clock_Back_e2_1, e1]
  simp only [relL_len, and_self, if_true]

/-- A lane of the law's own. -/
def bl (l : List Int) (i : Nat) : Int := l[i]?.getD 0 % 256 % 24

def blL (l : List Int) (n : Nat) : List Int := (List.range n).map (bl l)

theorem blL_get {l : List Int} {n i : Nat} (hi : i < n) : (blL l n)[i]? = some (bl l i) := by
  unfold blL; rw [List.getElem?_map, List.getElem?_range hi]; rfl

theorem blL_len (l : List Int) (n : Nat) : (blL l n).length = n := by simp [blL]

theorem blL_succ (l : List Int) (n : Nat) : blL l (n + 1) = blL l n ++ [bl l n] := by unfold blL; rw [List.range_succ, List.map_append]; rfl

theorem bl_lane {l : List Int} {n i : Nat} (hi : i < n) : ((lane (blL l n) i : Nat) : Int) = bl l i := by
  unfold lane
  rw [blL_get hi]
  show ((pk (bl l i) : Nat) : Int) = _
  have : 0 ≤ bl l i ∧ bl l i < 24 := by unfold bl; omega
  unfold pk; rw [if_pos this]; omega

/-- A relation fit for it, so far. -/
def BackOk (n : Nat) (l : List Int) (i j : Nat) (f : Nat → Nat) : Prop := Words f ∧ Fit n f ∧ (∀ a b, (f a).testBit b = true → a < b) ∧ ∀ a b, a < b → (b < i ∨ (b = i ∧ a < j)) → bl l a = bl l b → (f a).testBit b = true

theorem BackOk.add {n : Nat} (hn : n ≤ 64) {l : List Int} {i j i' j' : Nat} {f : Nat → Nat} (o : BackOk n l i j f) {a b : Nat} (ha : a < b) (hb : b < n) (h : ∀ x y, x < y → (y < i' ∨ (y = i' ∧ x < j')) → bl l x = bl l y → (y < i ∨ (y = i ∧ x < j)) ∨ (x = a ∧ y = b)) :
    BackOk n l i' j' (addR n f (a : Int) (b : Int)) := by
  obtain ⟨h1, h2, h3, h4⟩ := o
  have key : ∀ x y, (addR n f (a : Int) (b : Int) x).testBit y = true ↔ ((f x).testBit y = true ∨ (x = a ∧ y = b)) := by
    intro x y
    rw [addR_bit hn, inR_nat, inR_nat, show decide (a < n) = true by simp; omega, show decide (b < n) = true by simpa using hb]
    simp only [Bool.or_eq_true, Bool.and_eq_true, decide_eq_true_eq, Bool.true_and]
    constructor
    · rintro (q | ⟨q1, q2⟩)
      · exact .inl q
      · exact .inr ⟨by omega, by omega⟩
    · rintro (q | ⟨rfl, rfl⟩)
      · exact .inl q
      · exact .inr ⟨rfl, rfl⟩
  refine ⟨words_add h1 _ _, fun x y q => ?_, fun x y q => ?_, fun x y q1 q2 q3 => ?_⟩
  · rcases (key x y).1 q with q | ⟨rfl, rfl⟩
    · exact h2 x y q
    · exact ⟨by omega, hb⟩
  · rcases (key x y).1 q with q | ⟨rfl, rfl⟩
    · exact h3 x y q
    · exact ha
  · rw [key]
    rcases h x y q1 q2 q3 with q | q
    · exact .inl (h4 x y q1 q q3)
    · exact .inr q

theorem BackOk.le {n : Nat} {l : List Int} {i j i' j' : Nat} {f : Nat → Nat} (o : BackOk n l i j f) (h : ∀ x y, x < y → (y < i' ∨ (y = i' ∧ x < j')) → bl l x = bl l y → (y < i ∨ (y = i ∧ x < j))) : BackOk n l i' j' f :=
  ⟨o.1, o.2.1, o.2.2.1, fun x y q1 q2 q3 => o.2.2.2 x y q1 (h x y q1 q2 q3) q3⟩

theorem ClockBack_R (hE : jacquardlaw18_ClockBack_In E) {x0 x1 : Cell} {l : List Int} {l1 : List (Int × Int)} {h : AHeap} (hx0 : SlAt h x0 1 (intC .i64 l) l.length) (hl0 : Low h.length x0)
    (hx1 : SlAt h x1 2 (pairC l1) l1.length) (hl1 : Low h.length x1) : ∃ h', R E 227 [.c x0, .c x1] h = some ([.c (.bool true)], h') := by
  suffices hh : ∃ h', jacquardlaw18_ClockBack.body (R E) Lim E.glob [.c x0, .c x1] h = some ([.c (.bool true)], h') by
    obtain ⟨h', hh⟩ := hh; exact ⟨h', R_intro hE.fn hh⟩
  rw [jacquardlaw18_ClockBack_eq]
  have hv : (if (40 : Int) < (l.length : Int) then (40 : Int) else (l.length : Int)) = ((min 40 l.length : Nat) : Int) := by split <;> omega
  simp only [hx0.len, hv]
  have hnl : min 40 l.length ≤ l.length := Nat.min_le_right _ _
  have hn40 : min 40 l.length ≤ 40 := Nat.min_le_left _ _
  generalize min 40 l.length = n at hnl hn40
  have hn : n ≤ 64 := by omega
  rw [New_R hE.c9, c1_ok, asA_ok, clamp_nat hn, if_pos ⟨by trivial, zero_len, relL_len _ _⟩]
  -- the lanes
  obtain ⟨st2, ⟨x, h2, f, rfl, hox, hk2, ok2⟩, lim2⟩ := Lim_inv (F := jacquardlaw18_ClockBack_F2 (R E) Lim E.glob)
    (fun i st => ∃ x h' f, st = jacquardlaw18_ClockBack_s2 x0 x1 n x (i : Int) (relL n f) h' ∧ Own h.length h' x 1 (intC .i64 (blL l i)) i ∧ Kp h.length h h' ∧ BackOk n l i 0 f) 0 n (by omega)
    (fun i st _ hi hI => by
      obtain ⟨x, h', f, rfl, ho, hk, ok⟩ := hI
      have hil : l[i]? = some (l[i]?.getD 0) := by simp [show i < l.length by omega]
      have hrem : E.glob.rem .i64 (E.glob.band .i64 (l[i]?.getD 0) 255) 24 = bl l i := by
        rw [g_band255, g_rem, Int.tmod_eq_emod_of_nonneg (by omega)]; rfl
      obtain ⟨x', h'', ha, ho', hk', _⟩ := ho.app (xs := [.int .i64 (bl l i)]) (bytes := 8) hk.1 rfl (by omega) (by unfold maxBytes; omega) (by unfold maxBytes; omega)
      have hb : intC .i64 (blL l i) ++ [.int .i64 (bl l i)] = intC .i64 (blL l (i + 1)) := by rw [blL_succ, intC_snoc]
      rw [hb] at ho'
      have g0 : ∀ k, k < i + 1 → ∀ F : Cell → Option (Ex × St), (idxSK 1 x' (k : Int) fun k N o => rdH h'' k N fun l => atK l o F) = F (.int .i64 (bl l k)) := fun k hk F => ho'.at.get1 hk (intC_get (blL_get hk))
      obtain ⟨st1, ⟨f1, rfl, ok1⟩, lim1⟩ := Lim_inv (F := jacquardlaw18_ClockBack_F1 (R E) Lim E.glob)
        (fun j st => ∃ f, st = jacquardlaw18_ClockBack_s1 x0 x1 n x' i (j : Int) (relL n f) h'' ∧ BackOk n l i j f) 0 i (by omega)
        (fun j st _ hj hI => by
          obtain ⟨f, rfl, ok⟩ := hI
          by_cases he : bl l j = bl l i
          · refine ⟨_, ?_, addR n f (j : Int) (i : Int), rfl, ok.add hn hj hi fun a b q1 q2 _ => by omega⟩
            rw [jacquardlaw18_ClockBack_r1, if_pos (by simp; omega), g0 j (by omega), asI_ok, g0 i (by omega), asI_ok, if_pos (by simpa using he), if_pos ⟨rfl, relL_len _ _⟩, Add_R hE.c10 hn ok.1, c1_ok, asA_ok, if_pos ⟨rfl, relL_len _ _, relL_len _ _⟩, g_succ (by omega)]
          · refine ⟨_, ?_, f, rfl, ok.le fun a b q1 q2 q3 => ?_⟩
            · rw [jacquardlaw18_ClockBack_r1, if_pos (by simp; omega), g0 j (by omega), asI_ok, g0 i (by omega), asI_ok, if_neg (by simpa using he), g_succ (by omega)]
            · by_cases h3 : a = j ∧ b = i
              · rw [h3.1, h3.2] at q3; exact absurd q3 he
              · omega)
        (st := jacquardlaw18_ClockBack_s1 x0 x1 n x' i 0 (relL n f) h'') ⟨f, rfl, ok⟩
      have hend : jacquardlaw18_ClockBack_F1 (R E) Lim E.glob (jacquardlaw18_ClockBack_s1 x0 x1 n x' i (i : Int) (relL n f1) h'') = some (.exit 2, jacquardlaw18_ClockBack_x1_3 x0 x1 n x' i (relL n f1) h'') := by
        rw [jacquardlaw18_ClockBack_r1, if_neg (by simp)]
      refine ⟨jacquardlaw18_ClockBack_s2 x0 x1 n x' ((i + 1 : Nat) : Int) (relL n f1) h'', ?_, x', h'', f1, rfl, ho', hk.trans hk', ok1.le fun a b q1 q2 _ => by omega⟩
      have hsp : splice [Cell.int .i64 0] 0 ([(.int .i64 (bl l i))] : List Cell) = [.int .i64 (bl l i)] := rfl
      rw [jacquardlaw18_ClockBack_r2, if_pos (by simp; omega), (hx0.keep hl0 hk).get1 (by omega) (intC_get hil), asI_ok, hrem, hsp, if_pos (show (List.length [_] : Nat) = 1 * 1 from rfl), ha, lim1 _ (Lim_exit hend), bind_ok, jacquardlaw18_ClockBack_e1_3, g_succ (by omega)])
    (st := jacquardlaw18_ClockBack_s2 x0 x1 n .nils 0 (relL n fun _ => 0) h) ⟨.nils, h, fun _ => 0, rfl, by exact Own.nil _ _ _, Kp.refl _ _, words_zero, fun a b q => by simp at q, fun a b q => by simp at q, fun a b q1 q2 => by omega⟩
  have hend2 : jacquardlaw18_ClockBack_F2 (R E) Lim E.glob (jacquardlaw18_ClockBack_s2 x0 x1 n x (n : Int) (relL n f) h2) = some (.exit 0, jacquardlaw18_ClockBack_x2_1 x1 n x (relL n f) h2) := by
    rw [jacquardlaw18_ClockBack_r2, if_neg (by simp)]
  rw [lim2 _ (Lim_exit hend2), bind_ok, jacquardlaw18_ClockBack_e2_1]
  -- the pairs
  have hx12 : SlAt h2 x1 2 (pairC l1) l1.length := hx1.keep hl1 hk2
  have pairs : ∃ g, BackOk n l n 0 g ∧ Lim (jacquardlaw18_ClockBack_F3 (R E) Lim E.glob) (jacquardlaw18_ClockBack_s3 x1 n x 0 (relL n f) h2) = some (.exit 4, jacquardlaw18_ClockBack_x3_5 n x (relL n g) h2) := by
    by_cases hn0 : n = 0
    · refine ⟨f, ok2, Lim_exit ?_⟩
      rw [jacquardlaw18_ClockBack_r3, hx12.len, scK_and, scK_and, if_neg (by simp; omega)]
    · obtain ⟨st3, ⟨g, rfl, ok3⟩, lim3⟩ := Lim_inv (F := jacquardlaw18_ClockBack_F3 (R E) Lim E.glob)
        (fun i st => ∃ g, st = jacquardlaw18_ClockBack_s3 x1 n x (i : Int) (relL n g) h2 ∧ BackOk n l n 0 g) 0 (min l1.length 60) (by omega)
        (fun i st _ hi hI => by
          obtain ⟨g, rfl, ok⟩ := hI
          have hil : i < l1.length := by omega
          obtain ⟨p, hp⟩ : ∃ p, l1[i]? = some p := ⟨l1[i], by simp⟩
          obtain ⟨g1, g2⟩ := pairC_get l1 i p hp
          obtain ⟨a, ha, hav⟩ := mod_nat (E := E) p.1 (show 1 ≤ n by omega)
          obtain ⟨b, hb, hbv⟩ := mod_nat (E := E) p.2 (show 1 ≤ n by omega)
          by_cases hab : a < b
          · refine ⟨_, ?_, addR n g (a : Int) (b : Int), rfl, ok.add hn hab hb fun x y q1 q2 _ => .inl (by omega)⟩
            rw [jacquardlaw18_ClockBack_r3, hx12.len, scK_and, scK_and, if_pos (by simp; omega), hx12.get hil (by omega) g1, asI_ok, if_neg (by omega), hx12.get hil (by omega) g2, asI_ok, if_neg (by omega), hav, hbv, if_pos (by simpa using hab), if_pos ⟨rfl, relL_len _ _⟩, Add_R hE.c10 hn ok.1, c1_ok, asA_ok, if_pos ⟨rfl, relL_len _ _, relL_len _ _⟩, g_succ (by omega)]
          · refine ⟨_, ?_, g, rfl, ok⟩
            rw [jacquardlaw18_ClockBack_r3, hx12.len, scK_and, scK_and, if_pos (by simp; omega), hx12.get hil (by omega) g1, asI_ok, if_neg (by omega), hx12.get hil (by omega) g2, asI_ok, if_neg (by omega), hav, hbv, if_neg (by simpa using hab), g_succ (by omega)])
        (st := jacquardlaw18_ClockBack_s3 x1 n x 0 (relL n f) h2) ⟨f, rfl, ok2⟩
      refine ⟨g, ok3, lim3 _ (Lim_exit ?_)⟩
      rw [jacquardlaw18_ClockBack_r3, hx12.len, scK_and, scK_and, if_neg (by simp; omega)]
  obtain ⟨g, ok3, lim3⟩ := pairs
  obtain ⟨hg, fg, rise, same⟩ := ok3
  have hlen : (blL l n).length = n := blL_len l n
  have hat : SlAt h2 x 1 (intC .i64 (blL l n)) (blL l n).length := by rw [hlen]; exact hox.at
  have hcw := words_clK hg n n
  rw [lim3, bind_ok, jacquardlaw18_ClockBack_e3_5, if_pos ⟨rfl, relL_len _ _⟩, ClkOf_R hE.c2 hn hg hat hox.low hlen, c1_ok, asC_ok]
  have hs := SlAt.blkM h2 n (clks n g (blL l n))
  have hat2 : SlAt (h2 ++ [some ⟨true, 24, matL n (clks n g (blL l n))⟩]) x 1 (intC .i64 (blL l n)) (blL l n).length := hat.keep hox.low (Kp.app _ (Nat.le_refl _))
  have hclks : ∀ i p, clks n g (blL l n) i p = ((vc (clK n g n) (blL l n) i p n : Nat) : Int) := fun i p => rfl
  have hleq := fun i j => clks_leq fg (blL l n) (i := i) (j := j)
  generalize clks n g (blL l n) = V at hs hat2 hclks hleq ⊢
  generalize h2 ++ [some ⟨true, 24, matL n V⟩] = H at *
  generalize Cell.sl h2.length (n * 24) 0 n = xv at *
  have hlane : ∀ a b, a < b → b < n → lane (blL l n) a = lane (blL l n) b → (g a).testBit b = true := fun a b hab hb he => same a b hab (.inl hb) (by rw [← bl_lane (show a < n by omega), ← bl_lane hb, he])
  have back : relL n (ACC n (backQ V (blL l n))) = relL n (clK n g n) := rel_eq (w_ACC _ _) hcw fun a b => by
    rw [b_ACC hn, clK_bit fg]
    simp only [Bool.and_eq_true, decide_eq_true_eq, backQ]
    constructor
    · rintro ⟨⟨ha, hb⟩, hab, hle⟩
      refine (back_bit fg rise hlane ha hb).1 ⟨hab, ?_⟩
      rw [hclks] at hle; omega
    · intro w
      obtain ⟨ha, hb⟩ := way_fit fg w
      obtain ⟨hab, hle⟩ := (back_bit fg rise hlane ha hb).2 w
      refine ⟨⟨ha, hb⟩, hab, ?_⟩
      rw [hclks]; omega
  have loop : Lim (jacquardlaw18_ClockBack_F5 (R E) Lim E.glob) (jacquardlaw18_ClockBack_s5 n xv ((0 : Nat) : Int) (relL n g) H) = some (.exit 6, jacquardlaw18_ClockBack_x5_7 H) := by
    refine Lim_count (fun i => jacquardlaw18_ClockBack_s5 n xv (i : Int) (relL n g) H) 0 n (by omega) (fun i _ hi => ?_) (Lim_exit ?_)
    · have inner : Lim (jacquardlaw18_ClockBack_F4 (R E) Lim E.glob) (jacquardlaw18_ClockBack_s4 n xv i ((0 : Nat) : Int) (relL n g) H) = some (.exit 8, jacquardlaw18_ClockBack_x4_9 n xv i (relL n g) H) := by
        refine Lim_count (fun j => jacquardlaw18_ClockBack_s4 n xv i (j : Int) (relL n g) H) 0 n (by omega) (fun j _ hj => ?_) (Lim_exit ?_)
        · rw [jacquardlaw18_ClockBack_r4, if_pos (by simp; omega), if_pos ⟨rfl, relL_len _ _⟩, Closure_R hE.c12 hn hg, qh_ok, c1_ok, asA_ok, HasS hE.c3 hn hcw hi (by omega), qh_ok, c1_ok, asB_ok, scK_and, hs.leqM hE.c4 hi hj, scK_and, g_succ (by omega)]
          cases hb : (clK n g n i).testBit j with
          | false => rw [Bool.and_false, Bool.false_and, if_neg (by simp)]
          | true => rw [hleq j i hi hb, Bool.not_true, Bool.and_false, if_neg (by simp)]
        · rw [jacquardlaw18_ClockBack_r4, if_neg (by simp)]
      rw [jacquardlaw18_ClockBack_r5, if_pos (by simp; omega), show (0 : Int) = ((0 : Nat) : Int) from rfl, inner, bind_ok, jacquardlaw18_ClockBack_e4_9, g_succ (by omega)]
    · rw [jacquardlaw18_ClockBack_r5, if_neg (by simp)]
  rw [Back_R hE.c11 hn hlen hs hat2, qh_ok, c1_ok, asA_ok, if_pos ⟨rfl, relL_len _ _⟩, Closure_R hE.c12 hn hg, qh_ok, c1_ok, asA_ok, zero_rel, if_pos ⟨alike_rel _ _ _ _, alike_rel _ _ _ _⟩, back, if_neg (by simp), show (0 : Int) = ((0 : Nat) : Int) from rfl, loop, bind_ok, jacquardlaw18_ClockBack_e5_7, awake18_R hE.c5, c1_ok, asB_ok]
  exact ⟨_, rfl⟩

theorem ClockBack_law (hE : jacquardlaw18_ClockBack_In E) {h : AHeap} {c0 c1 : List Cell} (o0 : okC h (.sl (.i .i64)) c0) (o1 : okC h (.sl shPair) c1) :
    ∃ h', R E 227 [av1 (.sl (.i .i64)) c0, av1 (.sl shPair) c1] h = some ([.c (.bool true)], h') := by
  obtain ⟨x0, l, e0, hx0, hl0, _⟩ := arg_ints o0
  obtain ⟨x1, l1, e1, hx1, hl1, _⟩ := arg_pairs o1
  rw [e0, e1]
  exact ClockBack_R hE hx0 hl0 hx1 hl1

end Jq

/- ClockBack: whatever the input the call says true, and each argument reads behind it as before. No conditions. -/
namespace Go.Proofs.Ytfecllgnajhkmaa.LClockBack
open Go Jq Go.ChangeShapes Go.WideShapes Go.ChangeAt Go.RowKit
set_option linter.unusedVariables false

theorem own : ownKnob Try.prog.godebug = none := by kernel_rfl
theorem laidOut : laidOutB Try.prog = true := by kernel_rfl

set_option maxRecDepth 100000 in
theorem lifted (os : Os) (started : os.Started) (H : Type) (enc : TypeId × Value → H) :
    ReturnsInHanded {} Try.checked os 6 .any (Rows.clockBackSpec.pre6 enc Try.prog Try.f6 Rows.clockBackRow.domain false) (Rows.clockBackSpec.post enc Try.prog Try.f6 false true false false) := by
  refine returnsInHanded_of_change (C := Try.checked) own started (by kernel_rfl) Try.func6
    (ChangeSpec.witness6 (enc := enc) (C := Try.checked) false ⟨#[], #[.slice none 0 0, .slice none 0 0], []⟩ 8 (by kernel_rfl) (by kernel_rfl) (by kernel_rfl) (by kernel_rfl)) ?_
  intro W base args ds gs before hval0 hW hcnd _
  have hval : ∀ (j : Nat) t v, Try.f6.params[j]? = some t → args[j]? = some v → Value.okWide Try.prog W .any base t v := hval0
  have hW' := hW
  obtain ⟨p, q, hA0, hV, rfl, hfz, hnd⟩ := hW
  have hA : DataW.TrodAll enc Try.prog W 0 (fun _ => true) true Try.f6.params.toList args.toList ds p := hA0
  rw [Try.params6] at hA hval
  obtain ⟨v0, vs0, d0, ds0, p0, q0, hargs, rfl, rfl, h0, r0⟩ := trodAll_cons hA
  obtain ⟨v1, vs1, d1, ds1, p1, q1, rfl, rfl, rfl, h1, r1⟩ := trodAll_cons r0
  obtain ⟨rfl, rfl, rfl⟩ := trodAll_nil r1
  obtain rfl : args = #[v0, v1] := by cases args; simp_all
  obtain ⟨rfl, rfl⟩ := trodVars_none hV
  have lt0 : ∀ x ∈ p0, x.block < W.heap.size := by obtain ⟨m, hm⟩ := h0; exact DataW.trod_lt m _ _ _ hm
  have lt1 : ∀ x ∈ p1, x.block < W.heap.size := by obtain ⟨m, hm⟩ := h1; exact DataW.trod_lt m _ _ _ hm
  have c := Come.nil (S := seat) (W := W) (fun _ => rfl)
  have k0 : ((.sl (.i .i64)) : Sh).chk seat.P 22 = true := by kernel_rfl
  obtain ⟨b0, ρ0, cs0, c0, e0, x0, a0, o0⟩ := opens_arg (S := seat) (W := W) (sh := (.sl (.i .i64))) k0 h0 (wide_of k0 (hval 0 22 v0 rfl rfl)) ⟨nofun, nofun⟩ c
  have k1 : ((.sl shPair) : Sh).chk seat.P 23 = true := by kernel_rfl
  obtain ⟨b1, ρ1, cs1, c1, e1, x1, a1, o1⟩ := opens_arg (S := seat) (W := W) (sh := (.sl shPair)) k1 h1 (wide_of k1 (hval 1 23 v1 rfl rfl)) ⟨nofun, nofun⟩ c0
  obtain ⟨h', hR⟩ := ClockBack_law (E := env) in_227 (okC_mono x1 _ _ o0) o1
  refine (law_call (S := seat) (R_sound (S := seat) (E := env) rfl allOk) c1 (vals := #[v0, v1]) (L2.cons (relA.mono e1 a0) (L2.cons a1 L2.nil)) hR).mono fun e W' ⟨he, bel⟩ => ?_
  subst he
  exact ⟨_, rfl, _, _, _, [], _, [], hW', trodAll_mk1 (shut_bool Try.underlying4 _), (trodAll_cons_mk (Below.trod laidOut (by kernel_rfl) (of_decide_eq_true (by kernel_rfl)) h0 bel lt0) (trodAll_cons_mk (Below.trod laidOut (by kernel_rfl) (of_decide_eq_true (by kernel_rfl)) h1 bel lt1) trodAll_mk0)), rfl, bel.frame _, fun h => by cases h⟩

theorem over : Rows.clockBackRow.holds Try.pinned (OpenSpec.ofChange Rows.clockBackSpec) :=
  OpenClaim.holds_of_wide 6 Try.f6 rfl rfl rfl rfl rfl rfl rfl ⟨rfl, rfl, rfl, rfl, rfl⟩ rfl rfl rfl rfl rfl (by kernel_rfl) Try.func6 (by kernel_rfl)
    (of_decide_eq_true (by kernel_rfl)) (by unfold Func.isWrapper; first | (rw [if_pos (by decide +kernel)]; kernel_rfl) | (rw [if_neg (by decide +kernel)]; exact ⟨rfl, rfl⟩))
    (fun os started H enc _ => lifted os started H enc)

theorem proved : Rows.ClockBackSaid := over
#print axioms proved

end Go.Proofs.Ytfecllgnajhkmaa.LClockBack

