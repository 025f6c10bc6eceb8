/- YtkdicbhkkancoaaDoorRelPairsB: a part of the proof; no conditions of its own. -/
import Derived.Test.YtkdicbhkkancoaaDoorRows
import Derived.WalkKit
import Derived.ProofKit
import Derived.OpenShut
import Derived.ShutString
import Derived.ChangeOld
import Derived.Below
import Derived.Carry
import Derived.Test.YtkdicbhkkancoaaDoorCards
import Derived.Test.YtkdicbhkkancoaaDoorTie
import Derived.SevenTiedAt
import Derived.LaidMore
import Derived.Stop.Joined
import Derived.Lib.LaidTab
import Derived.MakeChecks
import Derived.LaidHandle
import Derived.Test.YtkdicbhkkancoaaDoorRelPairsA
set_option linter.unusedVariables false
set_option linter.unusedSimpArgs false

/- RelPairs: the pairs are the ones had, in order, no more; the relation of its pairs is itself. -/
namespace Jq
open Go

/-- A row's pairs below j. -/
def rowU (f : Nat → Nat) (i j : Nat) : List (Int × Int) := ((List.range j).filter fun k => (f i).testBit k).map fun (k : Nat) => ((i : Int), (k : Int))

theorem rowU_succ (f : Nat → Nat) (i j : Nat) : rowU f i (j + 1) = rowU f i j ++ if (f i).testBit j then [((i : Int), (j : Int))] else [] := by
  unfold rowU
  rw [List.range_succ, List.filter_append, List.map_append]
  congr 1
  by_cases hb : (f i).testBit j = true
  · simp [hb]
  · simp [hb]

theorem rowU_pre (f : Nat → Nat) (i j : Nat) : ∀ d, rowU f i j <+: rowU f i (j + d)
  | 0 => List.prefix_refl _
  | d + 1 => (rowU_pre f i j d).trans (by rw [← Nat.add_assoc, rowU_succ]; exact List.prefix_append _ _)

theorem pairsP_pre (f : Nat → Nat) (i : Nat) : ∀ d, pairsP i f <+: pairsP (i + d) f
  | 0 => List.prefix_refl _
  | d + 1 => (pairsP_pre f i d).trans (by rw [← Nat.add_assoc, pairsP_succ]; exact List.prefix_append _ _)

theorem pairsP_at {n : Nat} {f : Nat → Nat} {i j : Nat} (hi : i < n) (hj : j < 64) (hb : (f i).testBit j = true) : (pairsP n f)[(pairsP i f ++ rowU f i j).length]? = some ((i : Int), (j : Int)) := by
  obtain ⟨t1, h1⟩ := pairsP_pre f (i + 1) (n - (i + 1))
  rw [show i + 1 + (n - (i + 1)) = n by omega] at h1
  obtain ⟨t2, h2⟩ := rowU_pre f i (j + 1) (64 - (j + 1))
  rw [show j + 1 + (64 - (j + 1)) = 64 by omega, rowU_succ, if_pos hb] at h2
  have h3 : rowP f i = rowU f i 64 := rfl
  rw [← h1, pairsP_succ, h3, ← h2]
  simp only [← List.append_assoc]
  rw [List.append_assoc, List.append_assoc, List.getElem?_append_right (Nat.le_refl _), Nat.sub_self]
  rfl

theorem rowU_fit {n : Nat} {f : Nat → Nat} (ff : Fit n f) (i : Nat) : ∀ d, rowU f i (n + d) = rowU f i n
  | 0 => rfl
  | d + 1 => by
    rw [← Nat.add_assoc, rowU_succ, rowU_fit ff i d, if_neg, List.append_nil]
    intro hb
    have := (ff _ _ hb).2
    omega

theorem rowU_all {n : Nat} (hn : n ≤ 64) {f : Nat → Nat} (ff : Fit n f) (i : Nat) : rowU f i n = rowP f i := by
  rw [← rowU_fit ff i (64 - n), show n + (64 - n) = 64 by omega]; rfl

theorem bit01 (x i : Nat) : x >>> i &&& 1 = if x.testBit i then 1 else 0 := by
  have : x.testBit i = (1 &&& (x >>> i) != 0) := rfl
  rw [this, Nat.and_comm, Nat.and_comm 1, Nat.and_one_is_mod]
  rcases Nat.mod_two_eq_zero_or_one (x >>> i) with h | h <;> simp [h]

section
variable {E : Env}
theorem shr_le (x i : Nat) : x >>> i ≤ x := by rw [Nat.shiftRight_eq_div_pow]; exact Nat.div_le_self _ _
theorem g_bitI {x i : Nat} (hx : x < 2 ^ 64) (hi : i ≤ 64) : E.glob.band .u64 (E.glob.shr .u64 (x : Int) (i : Int)) 1 = (((if x.testBit i then 1 else 0 : Nat)) : Int) := by
  rw [g_shr hi, show (1 : Int) = ((1 : Nat) : Int) from rfl, g_band (Nat.lt_of_le_of_lt (shr_le x i) hx) (by omega), bit01]
theorem g_bit1 {x i : Nat} (hx : x < 2 ^ 64) (hi : i ≤ 64) : (E.glob.band .u64 (E.glob.shr .u64 (x : Int) (i : Int)) 1 == 1) = x.testBit i := by
  rw [g_bitI hx hi]; cases x.testBit i <;> rfl
theorem g_bit0 {x i : Nat} (hx : x < 2 ^ 64) (hi : i ≤ 64) : (E.glob.band .u64 (E.glob.shr .u64 (x : Int) (i : Int)) 1 == 0) = !x.testBit i := by
  rw [g_bitI hx hi]; cases x.testBit i <;> rfl

theorem refHas_R (hE : jacquardref6_Rel_Has_In E) {n : Nat} {f : Nat → Nat} (hf : Words f) {a b : Nat} (ha : a < 64) (hb : b ≤ 64) {k : Nat} {o : Bool} {h : AHeap} (hk : blk? h k = some ⟨o, 0, relL n f⟩) :
    R E 7 [.c (.ptr k 65 0), .c (.int .i64 (a : Nat)), .c (.int .i64 (b : Nat))] h = some ([.c (.bool ((f a).testBit b))], h) := by
  refine R_intro hE.fn ?_
  have q1 : 0 ≤ (a : Int) ∧ (a : Int) < ((64 : Nat) : Int) := by omega
  rw [jacquardref6_Rel_Has_eq, if_pos q1, rdH_ok hk (relL_len n f)]
  dsimp only
  rw [Int.toNat_natCast, show 0 + 1 + a * 1 = 1 + a by omega, atK_ok (relL_row ha), asI_ok, if_neg (by omega), g_bit1 (hf a) hb]
end

theorem SlAt.getP {h hh : AHeap} {x : Cell} {l : List (Int × Int)} (s : SlAt h x 2 (pairC l) l.length) {i : Nat} {p : Int × Int} (hi : l[i]? = some p) {a b : Int} :
    (idxSK 2 x (i : Int) fun k N o => rdH h k N fun l => if o + 2 ≤ l.length then if alike ((l.drop o).take 2) ([Cell.int .i64 0, Cell.int .i64 0]) = true ∧ alike (splice (splice [Cell.int .i64 0, Cell.int .i64 0] 0 ([(.int .i64 a)] : List Cell)) 1 ([(.int .i64 b)] : List Cell)) ([Cell.int .i64 0, Cell.int .i64 0]) = true then
      some ((!(decide (((l.drop o).take 2) = (splice (splice [Cell.int .i64 0, Cell.int .i64 0] 0 ([(.int .i64 a)] : List Cell)) 1 ([(.int .i64 b)] : List Cell))))), hh) else none else none) = some (!(decide (p = (a, b))), hh) := by
  have hlt : i < l.length := by
    rcases Nat.lt_or_ge i l.length with h1 | h1
    · exact h1
    · rw [List.getElem?_eq_none h1] at hi; cases hi
  refine (s.getN hlt (f := fun t => if alike t ([Cell.int .i64 0, Cell.int .i64 0]) = true ∧ alike (splice (splice [Cell.int .i64 0, Cell.int .i64 0] 0 ([(.int .i64 a)] : List Cell)) 1 ([(.int .i64 b)] : List Cell)) ([Cell.int .i64 0, Cell.int .i64 0]) = true then
      some ((!(decide (t = (splice (splice [Cell.int .i64 0, Cell.int .i64 0] 0 ([(.int .i64 a)] : List Cell)) 1 ([(.int .i64 b)] : List Cell))))), hh) else none)).trans ?_
  have e : ((pairC l).drop (i * 2)).take 2 = [.int .i64 p.1, .int .i64 p.2] := by
    obtain ⟨g1, g2⟩ := pairC_get l i p hi
    refine List.ext_getElem? fun j => ?_
    rw [List.getElem?_take, List.getElem?_drop]
    match j with
    | 0 => rw [if_pos (by omega), g1]; rfl
    | 1 => rw [if_pos (by omega), g2]; rfl
    | j + 2 => rw [if_neg (by omega)]; rfl
  have e2 : splice (splice [Cell.int .i64 0, Cell.int .i64 0] 0 ([(.int .i64 a)] : List Cell)) 1 ([(.int .i64 b)] : List Cell) = [.int .i64 a, .int .i64 b] := rfl
  rw [e, e2, if_pos ⟨rfl, rfl⟩]
  congr 3
  rw [decide_eq_decide]
  obtain ⟨c, d⟩ := p
  simp

theorem rel_pairs {n : Nat} (hn : n ≤ 64) {f : Nat → Nat} (hf : Words f) (ff : Fit n f) : relL n (ofR n (pairsP n f)) = relL n f := rel_eq (words_of _ _) hf fun i j => by
  rw [of_bit hn]
  constructor
  · rintro ⟨p, hp, _, _, h1, h2⟩
    obtain ⟨a, b, _, _, hb, rfl⟩ := mem_pairsP.1 hp
    have e1 : a = i := Int.ofNat.inj h1
    have e2 : b = j := Int.ofNat.inj h2
    rw [← e1, ← e2]; exact hb
  · intro hb
    obtain ⟨h1, h2⟩ := ff _ _ hb
    exact ⟨_, mem_pairsP.2 ⟨i, j, h1, by omega, hb, rfl⟩, by rw [inR_nat]; simpa using h1, by rw [inR_nat]; simpa using h2, rfl, rfl⟩

variable {E : Env}

theorem RelPairs_R (hE : jacquardlaw8_RelPairs_In E) (ht : TabOk E) (a0 : Int) {x1 : Cell} {l1 : List (Int × Int)} {h : AHeap} (hx1 : SlAt h x1 2 (pairC l1) l1.length) (hl1 : Low h.length x1) :
    R E 240 [.c (.int .i64 a0), .c x1] h = some ([.c (.bool true)], h) := by
  refine R_intro hE.fn ?_
  rw [jacquardlaw8_RelPairs_eq]
  have hn : clamp a0 ≤ 64 := by unfold clamp; omega
  have hv : (if 64 < (if 0 > a0 then 0 else a0) then 64 else (if 0 > a0 then 0 else a0)) = ((clamp a0 : Nat) : Int) := by unfold clamp; split <;> split <;> omega
  simp only [hv]
  generalize clamp a0 = n at hn
  rw [Of_R hE.c1 (n : Int) hx1 hl1, c2_ok, asA_ok, asA_ok, clamp_nat hn]
  have hf := words_of n (l1.take 200)
  have ff := of_fit hn (l1.take 200)
  simp only [relL_len, zero_len, and_self, if_true]
  generalize ofR n (l1.take 200) = f at *
  rw [rdH_ok (blk_new h _) zero_len]
  dsimp only
  rw [if_pos ⟨by trivial, zero_len, by trivial⟩, putH_ok (blk_new h _) rfl, setBlk_last]
  dsimp only
  obtain ⟨x, h2, hP, hx, hk⟩ := Pairs_R hE.c20 ht hn hf (h ++ [some ⟨true, 0, relL n f⟩])
  rw [hP, c1_ok, asC_ok]
  have hk2 : blk? h2 h.length = some ⟨true, 0, relL n f⟩ := by rw [hk.blk (by simp)]; exact blk_new _ _
  have hK : Kp h.length h h2 := (Kp.app _ (Nat.le_refl _)).trans (hk.mono (by simp))
  have hlen : ∀ i j, i < n → j ≤ n → (pairsP i f ++ rowU f i j).length ≤ 64 * 64 + 64 := by
    intro i j hi hj
    have h1 := pairsP_len f i
    have h2 : (rowU f i j).length ≤ j := by unfold rowU; rw [List.length_map]; exact Nat.le_trans (List.length_filter_le _ _) (by simp)
    rw [List.length_append]
    omega
  have outer : Lim (jacquardlaw8_RelPairs_F2 (R E) Lim E.glob) (jacquardlaw8_RelPairs_s2 n h.length 65 0 x ((pairsP 0 f).length : Nat) ((0 : Nat) : Int) (relL n f) h2) = some (.exit 0, jacquardlaw8_RelPairs_x2_1 n x ((pairsP n f).length : Nat) (relL n f) h2) := by
    refine Lim_count (fun i => jacquardlaw8_RelPairs_s2 n h.length 65 0 x ((pairsP i f).length : Nat) (i : Int) (relL n f) h2) 0 n (by omega) (fun i _ hi => ?_) (Lim_exit ?_)
    · have inner : Lim (jacquardlaw8_RelPairs_F1 (R E) Lim E.glob) (jacquardlaw8_RelPairs_s1 n h.length 65 0 x ((pairsP i f ++ rowU f i 0).length : Nat) i ((0 : Nat) : Int) (relL n f) h2) = some (.exit 2, jacquardlaw8_RelPairs_x1_3 n h.length 65 0 x ((pairsP i f ++ rowU f i n).length : Nat) i (relL n f) h2) := by
        refine Lim_count (fun j => jacquardlaw8_RelPairs_s1 n h.length 65 0 x ((pairsP i f ++ rowU f i j).length : Nat) i (j : Int) (relL n f) h2) 0 n (by omega) (fun j _ hj => ?_) (Lim_exit ?_)
        · rw [jacquardlaw8_RelPairs_r1, if_pos (by simp; omega), if_pos ⟨rfl, relL_len _ _⟩, HasS hE.c3 hn hf hi (by omega), c1_ok, asB_ok, refHas_R hE.c7 hf (by omega) (by omega) hk2, c1_ok, asB_ok, refHas_R hE.c7 hf (by omega) (by omega) hk2, c1_ok, asB_ok, beq_self_eq_true, if_neg (by simp), g_succ (by omega)]
          cases hb : (f i).testBit j with
          | false =>
            rw [if_pos (by simp), rowU_succ, hb]
            simp
          | true =>
            have hp := pairsP_at hi (show j < 64 by omega) hb
            have hlt : (pairsP i f ++ rowU f i j).length < (pairsP n f).length := by
              rcases Nat.lt_or_ge (pairsP i f ++ rowU f i j).length (pairsP n f).length with h1 | h1
              · exact h1
              · rw [List.getElem?_eq_none h1] at hp; cases hp
            have hle := hlen i j hi (by omega)
            rw [if_neg (by simp), hx.at.len, show decide ((((pairsP i f ++ rowU f i j).length : Nat) : Int) ≥ (((pairsP n f).length : Nat) : Int)) = false from decide_eq_false (fun q => absurd (Int.ofNat_le.1 q) (Nat.not_le.2 hlt)), scK_ok, hx.at.getP hp, bind_ok]
            dsimp only
            rw [if_neg (by simp), g_succ (by omega), rowU_succ, hb, if_pos rfl, ← List.append_assoc, List.length_append (bs := [_])]
            rfl
        · rw [jacquardlaw8_RelPairs_r1, if_neg (by simp)]
      rw [show pairsP i f ++ rowU f i 0 = pairsP i f from List.append_nil _, rowU_all hn ff, ← pairsP_succ] at inner
      rw [jacquardlaw8_RelPairs_r2, if_pos (by simp; omega), show (0 : Int) = ((0 : Nat) : Int) from rfl, inner, bind_ok, jacquardlaw8_RelPairs_e1_3, g_succ (by omega)]
    · rw [jacquardlaw8_RelPairs_r2, if_neg (by simp)]
  rw [show jacquardlaw8_RelPairs_s2 n h.length 65 0 x 0 0 (relL n f) h2 = jacquardlaw8_RelPairs_s2 n h.length 65 0 x ((pairsP 0 f).length : Nat) ((0 : Nat) : Int) (relL n f) h2 from rfl, outer, bind_ok, jacquardlaw8_RelPairs_e2_1, Of_R hE.c1 (n : Int) hx.at hx.low, c2_ok, asA_ok, asA_ok, clamp_nat hn]
  simp only [relL_len, zero_len, and_self, if_true]
  rw [hx.at.len, beq_self_eq_true, scK_ok]
  have e1 : (scK (decide ((((pairsP n f).length : Nat) : Int) > 200)) false (if alike (relL n (ofR n ((pairsP n f).take 200))) ([Cell.int .i64 0] ++ List.replicate 64 (Cell.int .u64 0)) = true ∧ alike (relL n f) ([Cell.int .i64 0] ++ List.replicate 64 (Cell.int .u64 0)) = true then some ((decide (relL n (ofR n ((pairsP n f).take 200)) = relL n f)), h2) else none) true h2 fun b h => some (b, h)) = some (true, h2) := by
    by_cases hl : (pairsP n f).length ≤ 200
    · rw [show decide ((((pairsP n f).length : Nat) : Int) > 200) = false by simp; omega, scK_ok, List.take_of_length_le hl, rel_pairs hn hf ff, zero_rel]
      simp only [alike_rel, and_self, if_true, decide_true]
      rfl
    · rw [show decide ((((pairsP n f).length : Nat) : Int) > 200) = true by simp; omega, scK_tf]
  rw [e1, bind_ok]
  dsimp only
  have b1 : hasR n f (-1) 0 = false := by unfold hasR inR; simp
  have b2 : hasR n f 0 64 = false := by unfold hasR hasI; simp
  have b3 : inR n (-1) = false := by unfold inR; simp
  have b4 : inR n 64 = false := by unfold inR; simp; omega
  simp only [relL_len, HasR_R hE.c3 hn hf, Row_R hE.c41 hn, awake8_R hE.c55, c1_ok, asI_ok, asB_ok, and_self, if_true, bind_ok, scK_ok, b1, b2, b3, b4, Bool.not_false, Bool.false_eq_true, if_false]
  exact finish_gc hK (by simp [avOk, AV.cells, idOk])

theorem RelPairs_law (ht : TabOk E) (hE : jacquardlaw8_RelPairs_In E) {h : AHeap} {c0 c1 : List Cell} (o0 : okC h (.i .i64) c0) (o1 : okC h (.sl shPair) c1) :
    ∃ h', R E 240 [av1 (.i .i64) c0, av1 (.sl shPair) c1] h = some ([.c (.bool true)], h') := by
  obtain ⟨a0, e0, _⟩ := arg_int o0
  obtain ⟨x1, l1, e1, hx1, hl1, _⟩ := arg_pairs o1
  rw [e0, e1]
  exact ⟨h, RelPairs_R hE ht a0 hx1 hl1⟩

end Jq

/- RelPairs: whatever the input the call says true, and each argument reads behind it as before. No conditions. -/
namespace Go.Proofs.YtkdicbhkkancoaaDoor.LRelPairs
open Go Jq Go.ChangeShapes Go.WideShapes Go.ChangeAt Go.RowKit
set_option linter.unusedVariables false

theorem own : ownKnob Tryd.prog.godebug = none := by kernel_rfl
theorem laidOut : laidOutB Tryd.prog = true := by kernel_rfl

theorem gN : Tryd.prog.globalNamed "math/bits.deBruijn64tab" = some 0 := by kernel_rfl
theorem met (os : Os) (args : Array Value) : laidMetH Tryd.prog Rows.relPairsRow.laid ((World.doorLaid Tryd.prog 400 os).forCall (fun _ _ => 0) ⟨#[], args, []⟩).memory :=
  laidMetH_of_parts3 (fuel := 8) (laidMet_of_run' 8 (by kernel_rfl) (by kernel_rfl)) (by kernel_rfl) (by kernel_rfl)
theorem of_laid {W : World} (h : laidMetH Tryd.prog Rows.relPairsRow.laid W) : ∀ i, i < deB.length → W.cell? ⟨0, i, none⟩ = some (.int .u8 (deB.getD i 0)) := by
  rw [MakeChecks.laidMetH_plain _ _ _ (by kernel_rfl)] at h
  have hT := Lib.tabIs_of_head (zs := deB) (n := 64) gN (t := 70) (by kernel_rfl) (e := 5) (by kernel_rfl) (by kernel_rfl) (by kernel_rfl) (by kernel_rfl) h
  exact fun i hi => hT.cell gN i hi

set_option maxRecDepth 100000 in
theorem lifted (os : Os) (started : os.Started) (H : Type) (enc : TypeId × Value → H) :
    ReturnsInHanded {} Tryd.checked os 3 .any (fun w args => (Rows.relPairsSpec.pre enc Tryd.prog Tryd.f3 [] false w args ∧ laidMetH Tryd.prog Rows.relPairsRow.laid w) ∧ sizedMet enc Tryd.prog Tryd.f3 (OpenSpec.ofChange Rows.relPairsSpec) false w args) (Rows.relPairsSpec.post enc Tryd.prog Tryd.f3 false true false false) := by
  refine returnsInHanded_of_change_and (C := Tryd.checked) (X := fun w _ => laidMetH Tryd.prog Rows.relPairsRow.laid w) (fun _ _ _ hh h => h.of_heap hh) own started (by kernel_rfl) Tryd.func3
    (ChangeSpec.witness_shaped (enc := enc) (C := Tryd.checked) (os := os) (X := fun w _ => laidMetH Tryd.prog Rows.relPairsRow.laid w) false (World.doorLaid Tryd.prog 400 os) #[.int .i64 0, .slice none 0 0] 8 rfl (World.shaped_of_RefB (by kernel_rfl) (by kernel_rfl)) (by kernel_rfl) (by kernel_rfl) (by kernel_rfl) (met os _)) ?_
  intro W base args ds gs before hval0 hW _ _ hL _
  have hval : ∀ (j : Nat) t v, Tryd.f3.params[j]? = some t → args[j]? = some v → Value.okWide Tryd.prog W .any base t v := hval0
  have hW' := hW
  obtain ⟨p, q, hA0, hV, rfl, hfz, hnd⟩ := hW
  have hA : DataW.TrodAll enc Tryd.prog W 0 (fun _ => true) true Tryd.f3.params.toList args.toList ds p := hA0
  rw [Tryd.params3] at hA hval
  obtain ⟨v0, vs0, d0, ds0, p0, q0, hargs, rfl, rfl, h0, r0⟩ := trodAll_cons hA
  obtain ⟨v1, vs1, d1, ds1, p1, q1, rfl, rfl, rfl, h1, r1⟩ := trodAll_cons r0
  obtain ⟨rfl, rfl, rfl⟩ := trodAll_nil r1
  obtain rfl : args = #[v0, v1] := by cases args; simp_all
  obtain ⟨rfl, rfl⟩ := trodVars_none hV
  have lt0 : ∀ x ∈ p0, x.block < W.heap.size := by obtain ⟨m, hm⟩ := h0; exact DataW.trod_lt m _ _ _ hm
  have lt1 : ∀ x ∈ p1, x.block < W.heap.size := by obtain ⟨m, hm⟩ := h1; exact DataW.trod_lt m _ _ _ hm
  have c := Come.tab1 (S := seat) (W := W) deB (fun _ => rfl) (of_laid hL)
  have k0 : ((.i .i64) : Sh).chk seat.P 3 = true := by kernel_rfl
  obtain ⟨b0, ρ0, cs0, c0, e0, x0, a0, o0⟩ := opens_arg (S := seat) (W := W) (sh := (.i .i64)) k0 h0 (wide_of k0 (hval 0 3 v0 rfl rfl)) ⟨nofun, nofun⟩ c
  have k1 : ((.sl shPair) : Sh).chk seat.P 22 = true := by kernel_rfl
  obtain ⟨b1, ρ1, cs1, c1, e1, x1, a1, o1⟩ := opens_arg (S := seat) (W := W) (sh := (.sl shPair)) k1 h1 (wide_of k1 (hval 1 22 v1 rfl rfl)) ⟨nofun, nofun⟩ c0
  obtain ⟨h', hR⟩ := RelPairs_law (E := env) tabOk in_240 (okC_mono x1 _ _ o0) o1
  refine (law_call (S := seat) (R_sound (S := seat) (E := env) rfl allOk) c1 (vals := #[v0, v1]) (L2.cons (relA.mono e1 a0) (L2.cons a1 L2.nil)) hR).mono fun e W' ⟨he, bel⟩ => ?_
  subst he
  exact ⟨_, rfl, _, _, _, [], _, [], hW', trodAll_mk1 (shut_bool Tryd.underlying4 _), (trodAll_cons_mk (Below.trod laidOut (by kernel_rfl) (of_decide_eq_true (by kernel_rfl)) h0 bel lt0) (trodAll_cons_mk (Below.trod laidOut (by kernel_rfl) (of_decide_eq_true (by kernel_rfl)) h1 bel lt1) trodAll_mk0)), rfl, bel.frame _, fun h => by cases h⟩

theorem over : Rows.relPairsRow.holds Tryd.pinned (OpenSpec.ofChange Rows.relPairsSpec) :=
  OpenClaim.holds_of_wide 3 Tryd.f3 rfl rfl rfl rfl rfl rfl rfl ⟨rfl, rfl, rfl, rfl, rfl⟩ rfl rfl rfl rfl rfl (by kernel_rfl) Tryd.func3 (by kernel_rfl)
    (of_decide_eq_true (by kernel_rfl)) (by unfold Func.isWrapper; first | (rw [if_pos (by decide +kernel)]; kernel_rfl) | (rw [if_neg (by decide +kernel)]; exact ⟨rfl, rfl⟩))
    (fun os started H enc _ => lifted os started H enc)

theorem proved : Rows.RelPairsCardSaid :=
  Claim7.holds_tied_plain_at .later [] [.data] true (true, "247157c4400f09dbf37c7c2675cf8478a89aff0d810297ef4dd9ce74afe5d438") false
    over (fun _ h => by cases h) (by kernel_rfl) (fun _ h => by cases h) relPairs_row_tie rfl ⟨rfl, rfl⟩ (by kernel_rfl) rfl
    (fun f fn hf hfn => by
      obtain rfl : f = 3 := Option.some.inj ((show Tryd.prog.funcNamed "jacquard/jacquardlaw8.RelPairs" = some 3 by kernel_rfl).symm.trans hf) |>.symm
      obtain rfl : fn = Tryd.f3 := (Option.some.inj (Tryd.func3.symm.trans hfn)).symm
      exact ⟨by kernel_rfl, fun j t ht => by
        rw [Tryd.params3] at ht
        have hm : t ∈ [3, 22] := by simpa using Array.mem_of_getElem? ht
        have hall : ([3, 22].all fun u => !Tryd.prog.wantsStandIn u) = true := by kernel_rfl
        exact (show Tryd.prog.wantsStandIn t = false by simpa using List.all_eq_true.1 hall t hm)⟩)
    (by kernel_rfl)
#print axioms proved

end Go.Proofs.YtkdicbhkkancoaaDoor.LRelPairs

