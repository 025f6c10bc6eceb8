/- YtfecllgnajhkmaaClockTellsC: a part of the proof; no conditions of its own. -/
import Derived.Test.YtfecllgnajhkmaaRows
import Derived.WalkKit
import Derived.ProofKit
import Derived.OpenShut
import Derived.ShutString
import Derived.ChangeOld
import Derived.Below
import Derived.Carry
import Derived.Test.YtfecllgnajhkmaaClockTellsB
set_option linter.unusedVariables false
set_option linter.unusedSimpArgs false

/- ClockTells: each clock counts what leads to it, by hand; with too many in the relation there are none. -/
namespace Jq
open Go

variable {E : Env}

theorem g_band3 {x : Int} : E.glob.band .i64 x 3 = x % 4 := by
  show IntKind.wrap .i64 ((BitVec.ofInt 64 x &&& BitVec.ofInt 64 3).toNat : Nat) = _
  have h1 : (BitVec.ofInt 64 x &&& BitVec.ofInt 64 3).toNat = (BitVec.ofInt 64 x).toNat % 4 := by
    rw [BitVec.toNat_and]
    have : (BitVec.ofInt 64 3).toNat = 2 ^ 2 - 1 := by decide
    rw [this, Nat.and_two_pow_sub_one_eq_mod]
  rw [h1, BitVec.toNat_ofInt]
  have h3 : ((((x % ((2 ^ 64 : Nat) : Int)).toNat % 4 : Nat) : Int)) = x % 4 := by omega
  rw [h3]
  exact wrap_i64 (by omega) (by omega)

/-- What is counted of the first m, for clock i. -/
def cV (c : Nat → Nat) (l : List Int) (i m : Nat) : Nat → Int := fun p => (vc c l i p m : Nat)

theorem cV_zero (c : Nat → Nat) (l : List Int) (i : Nat) : vecL (fun _ => 0) = vecL (cV c l i 0) := rfl

theorem cV_yes {c : Nat → Nat} {l : List Int} {i m : Nat} (hb : (decide (m = i) || (c m).testBit i) = true) : (vecL fun q => if q = lane l m then cV c l i m (lane l m) + 1 else cV c l i m q) = vecL (cV c l i (m + 1)) := by
  refine vecL_congr fun q _ => ?_
  unfold cV vc
  rw [cntP_succ, hb, Bool.true_and]
  by_cases hq : q = lane l m
  · subst hq
    rw [if_pos rfl]; simp
  · have : decide (lane l m = q) = false := by simp; exact fun h => hq h.symm
    rw [if_neg hq, this]; simp

theorem cV_no {c : Nat → Nat} {l : List Int} {i m : Nat} (hb : (decide (m = i) || (c m).testBit i) = false) : vecL (cV c l i m) = vecL (cV c l i (m + 1)) := by
  refine vecL_congr fun q _ => ?_
  unfold cV vc
  rw [cntP_succ, hb, Bool.false_and]; rfl

theorem ClockTells_R (hE : jacquardlaw18_ClockTells_In E) {x0 x1 : Cell} {l : List Int} {l1 : List (Int × Int)} (a2 : Int) {h : AHeap} (hx0 : SlAt h x0 1 (intC .i64 l) l.length) (hl0 : Low h.length x0)
    (hx1 : SlAt h x1 2 (pairC l1) l1.length) (hl1 : Low h.length x1) : R E 225 [.c x0, .c x1, .c (.int .i64 a2)] h = some ([.c (.bool true)], h) := by
  refine R_intro hE.fn ?_
  have fin : ∀ h', Kp h.length h h' → finish true h [.c (.bool true)] h' = some ([.c (.bool true)], h) := fun h' hk => finish_gc hk (by simp [avOk, AV.cells, idOk])
  rw [jacquardlaw18_ClockTells_eq]
  simp only [hx0.len]
  by_cases hb : l.length > 64
  · rw [if_pos (by simp; omega), awake18_R hE.c5, c1_ok, asB_ok]; exact fin _ (Kp.refl _ _)
  rw [if_neg (by simp; omega)]
  have hn : l.length ≤ 64 := by omega
  generalize hN : l.length = n at *
  rw [Of_R hE.c1 (n : Int) hx1 hl1, c2_ok, asA_ok, asA_ok, clamp_nat hn]
  have hf := words_of n (l1.take 200)
  generalize ofR n (l1.take 200) = f at *
  have hc := words_clK hf n n
  simp only [relL_len, zero_len, and_self, if_true, refClosure_R hE.c6 hn hf, c1_ok, asA_ok]
  rw [rdH_ok (blk_new h _) zero_len, if_pos ⟨by trivial, zero_len, by trivial⟩, putH_ok (blk_new h _) rfl, setBlk_last]
  dsimp only
  have hk1 : Kp h.length h (h ++ [some ⟨true, 0, relL n (clK n f n)⟩]) := Kp.app _ (Nat.le_refl _)
  have hb1 : blk? (h ++ [some ⟨true, 0, relL n (clK n f n)⟩]) h.length = some ⟨true, 0, relL n (clK n f n)⟩ := blk_new _ _
  generalize h ++ [some (Blk.mk true 0 (relL n (clK n f n)))] = H1 at *
  have hx01 : SlAt H1 x0 1 (intC .i64 l) l.length := by rw [hN]; exact hx0.keep hl0 hk1
  rw [ClkOf_R hE.c2 hn hf hx01 (Low_mono hk1.1 hl0) hN, c1_ok, asC_ok]
  have hs := SlAt.blkM H1 n (clks n f l)
  have hk2 : Kp h.length h (H1 ++ [some ⟨true, 24, matL n (clks n f l)⟩]) := hk1.trans ((Kp.app _ (Nat.le_refl _)).mono hk1.1)
  have hb2 : blk? (H1 ++ [some ⟨true, 24, matL n (clks n f l)⟩]) h.length = some ⟨true, 0, relL n (clK n f n)⟩ := blk_old hb1 _
  generalize H1 ++ [some (Blk.mk true 24 (matL n (clks n f l)))] = H at *
  generalize Cell.sl H1.length (n * 24) 0 n = x at *
  have hk0 : SlAt H x0 1 (intC .i64 l) n := hx0.keep hl0 hk2
  rw [hs.len, bne_self_eq_false, if_neg (by simp)]
  have outer : Lim (jacquardlaw18_ClockTells_F3 (R E) Lim E.glob) (jacquardlaw18_ClockTells_s3 x0 x1 a2 n h.length 65 0 x ((0 : Nat) : Int) H) = some (.exit 0, jacquardlaw18_ClockTells_x3_1 x0 x1 a2 n H) := by
    refine Lim_count (fun i => jacquardlaw18_ClockTells_s3 x0 x1 a2 n h.length 65 0 x (i : Int) H) 0 n (by omega) (fun i _ hi => ?_) (Lim_exit ?_)
    · have inner : Lim (jacquardlaw18_ClockTells_F1 (R E) Lim E.glob) (jacquardlaw18_ClockTells_s1 x0 x1 a2 n h.length 65 0 x i ((0 : Nat) : Int) (vecL (cV (clK n f n) l i 0)) H) = some (.exit 2, jacquardlaw18_ClockTells_x1_3 x0 x1 a2 n h.length 65 0 x i (vecL (cV (clK n f n) l i n)) H) := by
        refine Lim_count (fun j => jacquardlaw18_ClockTells_s1 x0 x1 a2 n h.length 65 0 x i (j : Int) (vecL (cV (clK n f n) l i j)) H) 0 n (by omega) (fun j _ hj => ?_) (Lim_exit ?_)
        · have hlj : l[j]? = some (l[j]?.getD 0) := by simp [hN, hj]
          have e0 : ((j : Int) != (i : Int)) = !decide (j = i) := by
            rw [bne, Bool.eq_iff_iff, Bool.not_eq_true', Bool.not_eq_true', beq_eq_false_iff_ne, decide_eq_false_iff_not]; omega
          have hv : vc (clK n f n) l i (lane l j) j ≤ j := cntP_le _ _
          have hw : E.glob.wrap .i64 (cV (clK n f n) l i j (lane l j) + 1) = cV (clK n f n) l i j (lane l j) + 1 := by unfold cV; exact g_wrap_i64 (by omega) (by omega)
          rw [jacquardlaw18_ClockTells_r1, if_pos (by simp; omega), e0, refHas_R hE.c7 hc (by omega) (by omega) hb2, c1_ok, asB_ok, scK_and, ← Bool.not_or, g_succ (by omega)]
          cases hb : (decide (j = i) || (clK n f n j).testBit i) with
          | false => rw [if_pos (by simp), cV_no hb]
          | true =>
            rw [if_neg (by simp), hk0.get1 hj (intC_get hlj), asI_ok, scK_or]
            have hp := lane_lt l j
            by_cases ha : 0 ≤ l[j]?.getD 0 ∧ l[j]?.getD 0 < 24
            · have hl : lane l j = (l[j]?.getD 0).toNat := by unfold lane pk; rw [if_pos ha]
              have q1 : 0 ≤ l[j]?.getD 0 ∧ l[j]?.getD 0 < ((24 : Nat) : Int) := by omega
              rw [if_neg (by simp; omega), if_pos q1, ← hl, show 0 + lane l j * 1 = lane l j by omega, atK_ok (vecL_get hp), asI_ok, if_pos q1, if_pos (by rw [vecL_len]; omega), hw, vecL_set, cV_yes hb]
            · have hl : lane l j = 0 := by unfold lane pk; rw [if_neg ha]
              rw [if_pos (by simp; omega)]
              rw [← hl, atK_ok (vecL_get hp), asI_ok, if_pos (by rw [vecL_len]; omega), hw, vecL_set, cV_yes hb]
        · rw [jacquardlaw18_ClockTells_r1, if_neg (by simp)]
      have cmp : Lim (jacquardlaw18_ClockTells_F2 (R E) Lim E.glob) (jacquardlaw18_ClockTells_s2 x0 x1 a2 n h.length 65 0 x i ((0 : Nat) : Int) (vecL (cV (clK n f n) l i n)) H) = some (.exit 4, jacquardlaw18_ClockTells_x2_5 x0 x1 a2 n h.length 65 0 x i H) := by
        refine Lim_count (fun q => jacquardlaw18_ClockTells_s2 x0 x1 a2 n h.length 65 0 x i (q : Int) (vecL (cV (clK n f n) l i n)) H) 0 24 (by omega) (fun q _ hq => ?_) (Lim_exit ?_)
        · have q1 : 0 ≤ (q : Int) ∧ (q : Int) < ((24 : Nat) : Int) := by omega
          rw [jacquardlaw18_ClockTells_r2, if_pos (by simp; omega), hs.getM hi hq, asI_ok, if_pos q1, Int.toNat_natCast, show 0 + q * 1 = q by omega, atK_ok (vecL_get hq), asI_ok, show clks n f l i q = cV (clK n f n) l i n q from rfl, bne_self_eq_false, if_neg (by simp), g_succ (by omega)]
        · rw [jacquardlaw18_ClockTells_r2, if_neg (by simp)]
      rw [jacquardlaw18_ClockTells_r3, if_pos (by simp; omega), zero24, cV_zero (clK n f n) l i, show jacquardlaw18_ClockTells_s1 x0 x1 a2 n h.length 65 0 x i 0 (vecL (cV (clK n f n) l i 0)) H = jacquardlaw18_ClockTells_s1 x0 x1 a2 n h.length 65 0 x i ((0 : Nat) : Int) (vecL (cV (clK n f n) l i 0)) H from rfl, inner, bind_ok, jacquardlaw18_ClockTells_e1_3, show (0 : Int) = ((0 : Nat) : Int) from rfl, cmp, bind_ok, jacquardlaw18_ClockTells_e2_5, g_succ (by omega)]
    · rw [jacquardlaw18_ClockTells_r3, if_neg (by simp)]
  rw [show (0 : Int) = ((0 : Nat) : Int) from rfl, outer, bind_ok, jacquardlaw18_ClockTells_e3_1, g_band3]
  by_cases hz : a2 % 4 = 0
  · rw [hz, if_neg (by simp), awake18_R hE.c5, c1_ok, asB_ok]; exact fin _ hk2
  · obtain ⟨k, hk, hkv⟩ : ∃ k : Nat, 0 < k ∧ k < 4 ∧ a2 % 4 = (k : Int) := ⟨(a2 % 4).toNat, by omega, by omega, by omega⟩
    rw [hkv.2, if_pos (by simp; omega), g_wrap_i64 (by omega) (by omega), Of_R hE.c1 _ (hx1.keep hl1 hk2) (Low_mono hk2.1 hl1), c2_ok, asA_ok, asA_ok]
    simp only [relL_len, zero_len, and_self, if_true]
    have hx02 : SlAt H x0 1 (intC .i64 l) l.length := by rw [hN]; exact hk0
    by_cases h64 : n + k ≤ 64
    · have hcl : clamp ((n : Int) + (k : Int)) = n + k := by unfold clamp; omega
      rw [show decide ((n : Int) + (k : Int) ≤ 64) = true by simp; omega, scK_ok, ClkOf_nil hE.c2 hx02 (by rw [hcl, hN]; omega), c1_ok, asC_ok, lenK_nils, bind_ok]
      dsimp only
      rw [if_neg (by simp), awake18_R hE.c5, c1_ok, asB_ok]; exact fin _ hk2
    · rw [show decide ((n : Int) + (k : Int) ≤ 64) = false by simp; omega, scK_ft, if_neg (by simp), awake18_R hE.c5, c1_ok, asB_ok]; exact fin _ hk2

theorem ClockTells_law (hE : jacquardlaw18_ClockTells_In E) {h : AHeap} {c0 c1 c2 : List Cell} (o0 : okC h (.sl (.i .i64)) c0) (o1 : okC h (.sl shPair) c1) (o2 : okC h (.i .i64) c2) :
    ∃ h', R E 225 [av1 (.sl (.i .i64)) c0, av1 (.sl shPair) c1, av1 (.i .i64) c2] h = some ([.c (.bool true)], h') := by
  obtain ⟨x0, l, e0, hx0, hl0, _⟩ := arg_ints o0
  obtain ⟨x1, l1, e1, hx1, hl1, _⟩ := arg_pairs o1
  obtain ⟨a2, e2, _⟩ := arg_int o2
  rw [e0, e1, e2]
  exact ⟨h, ClockTells_R hE a2 hx0 hl0 hx1 hl1⟩

end Jq

/- ClockTells: whatever the input the call says true, and each argument reads behind it as before. No conditions. -/
namespace Go.Proofs.Ytfecllgnajhkmaa.LClockTells
open Go Jq Go.ChangeShapes Go.WideShapes Go.ChangeAt Go.RowKit
set_option linter.unusedVariables false

theorem own : ownKnob Try.prog.godebug = none := by kernel_rfl
theorem laidOut : laidOutB Try.prog = true := by kernel_rfl

set_option maxRecDepth 100000 in
theorem lifted (os : Os) (started : os.Started) (H : Type) (enc : TypeId × Value → H) :
    ReturnsInHanded {} Try.checked os 4 .any (Rows.clockTellsSpec.pre6 enc Try.prog Try.f4 Rows.clockTellsRow.domain false) (Rows.clockTellsSpec.post enc Try.prog Try.f4 false true false false) := by
  refine returnsInHanded_of_change (C := Try.checked) own started (by kernel_rfl) Try.func4
    (ChangeSpec.witness6 (enc := enc) (C := Try.checked) false ⟨#[], #[.slice none 0 0, .slice none 0 0, .int .i64 0], []⟩ 8 (by kernel_rfl) (by kernel_rfl) (by kernel_rfl) (by kernel_rfl)) ?_
  intro W base args ds gs before hval0 hW hcnd _
  have hval : ∀ (j : Nat) t v, Try.f4.params[j]? = some t → args[j]? = some v → Value.okWide Try.prog W .any base t v := hval0
  have hW' := hW
  obtain ⟨p, q, hA0, hV, rfl, hfz, hnd⟩ := hW
  have hA : DataW.TrodAll enc Try.prog W 0 (fun _ => true) true Try.f4.params.toList args.toList ds p := hA0
  rw [Try.params4] at hA hval
  obtain ⟨v0, vs0, d0, ds0, p0, q0, hargs, rfl, rfl, h0, r0⟩ := trodAll_cons hA
  obtain ⟨v1, vs1, d1, ds1, p1, q1, rfl, rfl, rfl, h1, r1⟩ := trodAll_cons r0
  obtain ⟨v2, vs2, d2, ds2, p2, q2, rfl, rfl, rfl, h2, r2⟩ := trodAll_cons r1
  obtain ⟨rfl, rfl, rfl⟩ := trodAll_nil r2
  obtain rfl : args = #[v0, v1, v2] := by cases args; simp_all
  obtain ⟨rfl, rfl⟩ := trodVars_none hV
  have lt0 : ∀ x ∈ p0, x.block < W.heap.size := by obtain ⟨m, hm⟩ := h0; exact DataW.trod_lt m _ _ _ hm
  have lt1 : ∀ x ∈ p1, x.block < W.heap.size := by obtain ⟨m, hm⟩ := h1; exact DataW.trod_lt m _ _ _ hm
  have lt2 : ∀ x ∈ p2, x.block < W.heap.size := by obtain ⟨m, hm⟩ := h2; exact DataW.trod_lt m _ _ _ hm
  have c := Come.nil (S := seat) (W := W) (fun _ => rfl)
  have k0 : ((.sl (.i .i64)) : Sh).chk seat.P 22 = true := by kernel_rfl
  obtain ⟨b0, ρ0, cs0, c0, e0, x0, a0, o0⟩ := opens_arg (S := seat) (W := W) (sh := (.sl (.i .i64))) k0 h0 (wide_of k0 (hval 0 22 v0 rfl rfl)) ⟨nofun, nofun⟩ c
  have k1 : ((.sl shPair) : Sh).chk seat.P 23 = true := by kernel_rfl
  obtain ⟨b1, ρ1, cs1, c1, e1, x1, a1, o1⟩ := opens_arg (S := seat) (W := W) (sh := (.sl shPair)) k1 h1 (wide_of k1 (hval 1 23 v1 rfl rfl)) ⟨nofun, nofun⟩ c0
  have k2 : ((.i .i64) : Sh).chk seat.P 3 = true := by kernel_rfl
  obtain ⟨b2, ρ2, cs2, c2, e2, x2, a2, o2⟩ := opens_arg (S := seat) (W := W) (sh := (.i .i64)) k2 h2 (wide_of k2 (hval 2 3 v2 rfl rfl)) ⟨nofun, nofun⟩ c1
  obtain ⟨h', hR⟩ := ClockTells_law (E := env) in_225 (okC_mono x2 _ _ (okC_mono x1 _ _ o0)) (okC_mono x2 _ _ o1) o2
  refine (law_call (S := seat) (R_sound (S := seat) (E := env) rfl allOk) c2 (vals := #[v0, v1, v2]) (L2.cons (relA.mono e2 (relA.mono e1 a0)) (L2.cons (relA.mono e2 a1) (L2.cons a2 L2.nil))) hR).mono fun e W' ⟨he, bel⟩ => ?_
  subst he
  exact ⟨_, rfl, _, _, _, [], _, [], hW', trodAll_mk1 (shut_bool Try.underlying4 _), (trodAll_cons_mk (Below.trod laidOut (by kernel_rfl) (of_decide_eq_true (by kernel_rfl)) h0 bel lt0) (trodAll_cons_mk (Below.trod laidOut (by kernel_rfl) (of_decide_eq_true (by kernel_rfl)) h1 bel lt1) (trodAll_cons_mk (Below.trod laidOut (by kernel_rfl) (of_decide_eq_true (by kernel_rfl)) h2 bel lt2) trodAll_mk0))), rfl, bel.frame _, fun h => by cases h⟩

theorem over : Rows.clockTellsRow.holds Try.pinned (OpenSpec.ofChange Rows.clockTellsSpec) :=
  OpenClaim.holds_of_wide 4 Try.f4 rfl rfl rfl rfl rfl rfl rfl ⟨rfl, rfl, rfl, rfl, rfl⟩ rfl rfl rfl rfl rfl (by kernel_rfl) Try.func4 (by kernel_rfl)
    (of_decide_eq_true (by kernel_rfl)) (by unfold Func.isWrapper; first | (rw [if_pos (by decide +kernel)]; kernel_rfl) | (rw [if_neg (by decide +kernel)]; exact ⟨rfl, rfl⟩))
    (fun os started H enc _ => lifted os started H enc)

theorem proved : Rows.ClockTellsSaid := over
#print axioms proved

end Go.Proofs.Ytfecllgnajhkmaa.LClockTells

