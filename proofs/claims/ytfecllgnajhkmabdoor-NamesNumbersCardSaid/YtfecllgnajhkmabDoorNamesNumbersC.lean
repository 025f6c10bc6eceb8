/- YtfecllgnajhkmabDoorNamesNumbersC: a part of the proof; no conditions of its own. -/
import Derived.KernelRfl
import Derived.Test.YtfecllgnajhkmabDoorRows
import Derived.WalkKit
import Derived.ProofKit
import Derived.OpenShut
import Derived.ShutString
import Derived.ChangeOld
import Derived.Below
import Derived.Carry
import Derived.Test.YtfecllgnajhkmabDoorCards
import Derived.Test.YtfecllgnajhkmabDoorTie
import Derived.SevenTiedAt
import Derived.LaidMore
import Derived.Stop.Joined
import Derived.Lib.LaidTab
import Derived.MakeChecks
import Derived.LaidHandle
import Derived.Test.YtfecllgnajhkmabDoorNamesNumbersB
set_option linter.unusedVariables false
set_option linter.unusedSimpArgs false

namespace Jq
open Go

/- (jacquard/api.Errno).Error: 44 -/
set_option maxRecDepth 100000 in
theorem api_Errno_Error_eq (C : CallF) (L : LoopF) (G : Glo) (a0 : Int) (h0 : AHeap) :
    api_Errno_Error.body C L G [(.c (.int .i64 a0))] h0 =
    c1 (C 45 [(.c (.int .i64 a0))] h0) fun y_2 h_1 => asS y_2 fun z_3 => if ByteArray.size (ByteArray.mk #[101, 114, 114, 111, 114, 32]) + ByteArray.size z_3 ≤ 1099511627776 then some ([(.c (.str ((ByteArray.mk #[101, 114, 114, 111, 114, 32]) ++ z_3)))], h_1) else none := by kernel_rfl


end Jq

namespace Jq
open Go

/- strconv.Itoa: 45 -/
set_option maxRecDepth 100000 in
theorem strconv_Itoa_eq (C : CallF) (L : LoopF) (G : Glo) (a0 : Int) (h0 : AHeap) :
    strconv_Itoa.body C L G [(.c (.int .i64 a0))] h0 =
    c1 (C 46 [(.c (.int .i64 a0))] h0) fun y_2 h_1 => asS y_2 fun z_3 => some ([(.c (.str z_3))], h_1) := by kernel_rfl


end Jq

namespace Jq
open Go

/- internal/strconv.Itoa: 46 -/
set_option maxRecDepth 100000 in
theorem istrconv_Itoa_eq (C : CallF) (L : LoopF) (G : Glo) (a0 : Int) (h0 : AHeap) :
    istrconv_Itoa.body C L G [(.c (.int .i64 a0))] h0 =
    c1 (C 47 [(.c (.int .i64 a0)), (.c (.int .i64 10))] h0) fun y_2 h_1 => asS y_2 fun z_3 => some ([(.c (.str z_3))], h_1) := by kernel_rfl

/- internal/strconv.FormatInt: 47 -/
set_option maxRecDepth 100000 in
theorem istrconv_FormatInt_eq (C : CallF) (L : LoopF) (G : Glo) (a0 : Int) (a1 : Int) (h0 : AHeap) :
    istrconv_FormatInt.body C L G [(.c (.int .i64 a0)), (.c (.int .i64 a1))] h0 =
    if (a1 == 10) = true then scK (decide (0 ≤ a0)) true (some ((decide (a0 < 100)), h0)) false h0 fun b_1 h_2 => if b_1 = true then c1 (C 48 [(.c (.int .i64 a0))] h_2) fun y_4 h_3 => asS y_4 fun z_5 => finish true h0 [(.c (.str z_5))] h_3 else if (decide (a0 < 0)) = true then c1 (C 49 [(.c (.int .u64 (G.wrap .u64 (0 - (G.wrap .u64 a0)))))] (h_2 ++ [some (Blk.mk true 0 (List.replicate 24 (Cell.int .u8 0)))])) fun y_7 h_6 => asI .i64 y_7 fun n_8 => sliceAK h_6 24 1 true true (.ptr h_2.length ((List.replicate 24 (Cell.int .u8 0)).length) 0) [.v (.c (.int .i64 1)), .v (.c (.int .i64 (G.wrap .i64 (1 + n_8))))] fun x_9 => c0 (C 50 [(.c x_9), (.c (.int .u64 (G.wrap .u64 (0 - (G.wrap .u64 a0)))))] h_6) fun h_10 => if (decide (a0 < 0)) = true then rdH h_10 h_2.length ((List.replicate 24 (Cell.int .u8 0)).length) fun l_11 => if 0 < l_11.length then putH h_10 h_2.length (l_11.set 0 (.int .u8 45)) fun h_12 => sliceAK h_12 24 1 false true (.ptr h_2.length ((List.replicate 24 (Cell.int .u8 0)).length) 0) [.v (.c (.int .i64 (G.wrap .i64 (1 + n_8))))] fun x_13 => (slCells h_12 1 x_13).bind fun l_14 => (bytesOf l_14).bind fun l_15 => finish true h0 [(.c (.str (ByteArray.mk l_15.toArray)))] h_12 else none else sliceAK h_10 24 1 true true (.ptr h_2.length ((List.replicate 24 (Cell.int .u8 0)).length) 0) [.v (.c (.int .i64 1)), .v (.c (.int .i64 (G.wrap .i64 (1 + n_8))))] fun x_16 => (slCells h_10 1 x_16).bind fun l_17 => (bytesOf l_17).bind fun l_18 => finish true h0 [(.c (.str (ByteArray.mk l_18.toArray)))] h_10 else c1 (C 49 [(.c (.int .u64 (G.wrap .u64 a0)))] (h_2 ++ [some (Blk.mk true 0 (List.replicate 24 (Cell.int .u8 0)))])) fun y_20 h_19 => asI .i64 y_20 fun n_21 => sliceAK h_19 24 1 true true (.ptr h_2.length ((List.replicate 24 (Cell.int .u8 0)).length) 0) [.v (.c (.int .i64 1)), .v (.c (.int .i64 (G.wrap .i64 (1 + n_21))))] fun x_22 => c0 (C 50 [(.c x_22), (.c (.int .u64 (G.wrap .u64 a0)))] h_19) fun h_23 => if (decide (a0 < 0)) = true then rdH h_23 h_2.length ((List.replicate 24 (Cell.int .u8 0)).length) fun l_24 => if 0 < l_24.length then putH h_23 h_2.length (l_24.set 0 (.int .u8 45)) fun h_25 => sliceAK h_25 24 1 false true (.ptr h_2.length ((List.replicate 24 (Cell.int .u8 0)).length) 0) [.v (.c (.int .i64 (G.wrap .i64 (1 + n_21))))] fun x_26 => (slCells h_25 1 x_26).bind fun l_27 => (bytesOf l_27).bind fun l_28 => finish true h0 [(.c (.str (ByteArray.mk l_28.toArray)))] h_25 else none else sliceAK h_23 24 1 true true (.ptr h_2.length ((List.replicate 24 (Cell.int .u8 0)).length) 0) [.v (.c (.int .i64 1)), .v (.c (.int .i64 (G.wrap .i64 (1 + n_21))))] fun x_29 => (slCells h_23 1 x_29).bind fun l_30 => (bytesOf l_30).bind fun l_31 => finish true h0 [(.c (.str (ByteArray.mk l_31.toArray)))] h_23 else c2 (C 51 [(.c .nils), (.c (.int .u64 (G.wrap .u64 a0))), (.c (.int .i64 a1)), (.c (.bool (decide (a0 < 0)))), (.c (.bool false))] h0) fun y_33 y_34 h_32 => asC y_33 fun x_35 => asS y_34 fun z_36 => finish true h0 [(.c (.str z_36))] h_32 := by kernel_rfl

/- internal/strconv.small: 48 -/
set_option maxRecDepth 100000 in
theorem istrconv_small_eq (C : CallF) (L : LoopF) (G : Glo) (a0 : Int) (h0 : AHeap) :
    istrconv_small.body C L G [(.c (.int .i64 a0))] h0 =
    if (decide (a0 < 10)) = true then sliceStrK true true (.str (ByteArray.mk #[48, 49, 50, 51, 52, 53, 54, 55, 56, 57, 97, 98, 99, 100, 101, 102, 103, 104, 105, 106, 107, 108, 109, 110, 111, 112, 113, 114, 115, 116, 117, 118, 119, 120, 121, 122])) [.v (.c (.int .i64 a0)), .v (.c (.int .i64 (G.wrap .i64 (a0 + 1))))] fun x_1 => some ([(.c (.str x_1))], h0) else let v_2 : Int := (G.wrap .i64 ((G.wrap .i64 (a0 * 2)) + 2)); sliceStrK true true (.str (ByteArray.mk #[48, 48, 48, 49, 48, 50, 48, 51, 48, 52, 48, 53, 48, 54, 48, 55, 48, 56, 48, 57, 49, 48, 49, 49, 49, 50, 49, 51, 49, 52, 49, 53, 49, 54, 49, 55, 49, 56, 49, 57, 50, 48, 50, 49, 50, 50, 50, 51, 50, 52, 50, 53, 50, 54, 50, 55, 50, 56, 50, 57, 51, 48, 51, 49, 51, 50, 51, 51, 51, 52, 51, 53, 51, 54, 51, 55, 51, 56, 51, 57, 52, 48, 52, 49, 52, 50, 52, 51, 52, 52, 52, 53, 52, 54, 52, 55, 52, 56, 52, 57, 53, 48, 53, 49, 53, 50, 53, 51, 53, 52, 53, 53, 53, 54, 53, 55, 53, 56, 53, 57, 54, 48, 54, 49, 54, 50, 54, 51, 54, 52, 54, 53, 54, 54, 54, 55, 54, 56, 54, 57, 55, 48, 55, 49, 55, 50, 55, 51, 55, 52, 55, 53, 55, 54, 55, 55, 55, 56, 55, 57, 56, 48, 56, 49, 56, 50, 56, 51, 56, 52, 56, 53, 56, 54, 56, 55, 56, 56, 56, 57, 57, 48, 57, 49, 57, 50, 57, 51, 57, 52, 57, 53, 57, 54, 57, 55, 57, 56, 57, 57])) [.v (.c (.int .i64 (G.wrap .i64 (a0 * 2)))), .v (.c (.int .i64 v_2))] fun x_3 => some ([(.c (.str x_3))], h0) := by kernel_rfl


end Jq

/- NamesNumbers: every number is the document's. -/
namespace Jq
open Go

variable {E : Env}

theorem Itoa_of (hE : strconv_Itoa_In E) {a : Int} {z : ByteArray} (ha : 0 ≤ a ∧ a < 100) {h : AHeap} (small : R E 48 [.c (.int .i64 a)] h = some ([.c (.str z)], h)) : R E 45 [.c (.int .i64 a)] h = some ([.c (.str z)], h) := by
  refine R_intro hE.fn ?_
  have fmt : R E 47 [.c (.int .i64 a), .c (.int .i64 10)] h = some ([.c (.str z)], h) := by
    refine R_intro hE.c46.c47.fn ?_
    rw [istrconv_FormatInt_eq, if_pos (by rfl), scK_and, if_pos (by simp; omega), small, c1_ok, asS_ok]
    exact finish_gc (Kp.refl _ _) (by simp [avOk, AV.cells, idOk])
  have it : R E 46 [.c (.int .i64 a)] h = some ([.c (.str z)], h) := by
    refine R_intro hE.c46.fn ?_
    rw [istrconv_Itoa_eq, fmt, c1_ok, asS_ok]
  rw [strconv_Itoa_eq, it, c1_ok, asS_ok]

theorem small10 (hE : istrconv_small_In E) (h : AHeap) : R E 48 [.c (.int .i64 10)] h = some ([.c (.str (ByteArray.mk #[49, 48]))], h) :=
  R_intro hE.fn ((istrconv_small_eq (R E) Lim E.glob 10 h).trans (by kernel_rfl))
theorem small0 (hE : istrconv_small_In E) (h : AHeap) : R E 48 [.c (.int .i64 0)] h = some ([.c (.str (ByteArray.mk #[48]))], h) :=
  R_intro hE.fn ((istrconv_small_eq (R E) Lim E.glob 0 h).trans (by kernel_rfl))

/-- The numbers. -/
def nums : List (Int × Int) := [(0, 0), (1, 1), (2, 2), (4, 4), (5, 5), (6, 6), (7, 7), (8, 8), (9, 9), (10, 10), (4000, 4000), (4, 4), (10, 10), (24, 24), (4, 4), (1, 1), (2, 2), (3, 3), (4, 4), (5, 5), (6, 6), (7, 7), (8, 8), (9, 9), (10, 10), (11, 11), (1, 1), (2, 2), (3, 3), (4, 4), (1, 1), (2, 2), (3, 3), (4, 4), (5, 5), (6, 6), (1, 1), (2, 2), (1, 1), (2, 2), (3, 3), (4, 4), (5, 5), (6, 6), (1, 1), (2, 2), (3, 3), (0, 0), (1, 1), (2, 2), (1, 1), (2, 2), (3, 3), (4, 4), (5, 5), (6, 6), (7, 7), (8, 8), (9, 9), (10, 10), (11, 11), (12, 12), (13, 13)]

theorem all0_R (hE : jacquardlaw0_all_In E) (h : AHeap) : R E 43 [] h = some ([.c (.sl h.length 126 0 63)], h ++ [some ⟨true, 2, pairC nums⟩]) := by
  refine R_intro hE.fn ?_
  exact (jacquardlaw0_all_eq (R E) Lim E.glob h).trans (by kernel_rfl)

theorem nums_same : ∀ i, i < 63 → (nums[i]?).map (fun p => p.1) = (nums[i]?).map (fun p => p.2) := by decide +kernel

theorem NamesNumbers_R (hE : jacquardlaw0_NamesNumbers_In E) (h : AHeap) : R E 209 [] h = some ([.c (.bool true)], h ++ [some ⟨true, 2, pairC nums⟩]) := by
  refine R_intro hE.fn ?_
  have hs : SlAt (h ++ [some ⟨true, 2, pairC nums⟩]) (.sl h.length 126 0 63) 2 (pairC nums) 63 :=
    ⟨by rw [pairC_len]; rfl, .inr ⟨_, _, 0, rfl, .inr ⟨_, blk_new _ _, by rw [pairC_len]; rfl, by omega, fun j _ => by simp⟩⟩⟩
  rw [jacquardlaw0_NamesNumbers_eq, all0_R hE.c43, c1_ok, asC_ok]
  generalize h ++ [some ⟨true, 2, pairC nums⟩] = H at *
  have loop : Lim (jacquardlaw0_NamesNumbers_F1 (R E) Lim E.glob) (jacquardlaw0_NamesNumbers_s1 (.sl h.length 126 0 63) ((0 : Nat) : Int) H) = some (.exit 0, jacquardlaw0_NamesNumbers_x1_1 H) := by
    refine Lim_count (fun i => jacquardlaw0_NamesNumbers_s1 (.sl h.length 126 0 63) (i : Int) H) 0 63 (by omega) (fun i _ hi => ?_) (Lim_exit ?_)
    · obtain ⟨p, hp⟩ : ∃ p, nums[i]? = some p := ⟨nums[i]'hi, List.getElem?_eq_getElem (l := nums) hi⟩
      obtain ⟨g1, g2⟩ := pairC_get nums i p hp
      have he := nums_same i hi
      rw [hp] at he
      have he : p.1 = p.2 := Option.some.inj he
      rw [jacquardlaw0_NamesNumbers_r1, hs.len, if_pos (by simp; omega), hs.get hi (by omega) g1, asI_ok, hs.get hi (by omega) g2, asI_ok, he, bne_self_eq_false, if_neg (by simp), g_succ (by omega)]
    · rw [jacquardlaw0_NamesNumbers_r1, hs.len, if_neg (by simp)]
  have e1 : R E 44 [.c (.int .i64 10)] H = some ([.c (.str (ByteArray.mk #[101, 114, 114, 111, 114, 32, 49, 48]))], H) := by
    refine R_intro hE.c44.fn ?_
    rw [api_Errno_Error_eq, Itoa_of hE.c44.c45 (by omega) (small10 hE.c44.c45.c46.c47.c48 _), c1_ok, asS_ok]
    kernel_rfl
  have e2 : R E 44 [.c (.int .i64 0)] H = some ([.c (.str (ByteArray.mk #[101, 114, 114, 111, 114, 32, 48]))], H) := by
    refine R_intro hE.c44.fn ?_
    rw [api_Errno_Error_eq, Itoa_of hE.c44.c45 (by omega) (small0 hE.c44.c45.c46.c47.c48 _), c1_ok, asS_ok]
    kernel_rfl
  rw [show (0 : Int) = ((0 : Nat) : Int) from rfl, loop, bind_ok, jacquardlaw0_NamesNumbers_e1_1, e1, c1_ok, asS_ok]
  rw [show (ByteArray.toList (ByteArray.mk #[101, 114, 114, 111, 114, 32, 49, 48]) == ByteArray.toList (ByteArray.mk #[101, 114, 114, 111, 114, 32, 49, 48])) = true from beq_self_eq_true _, scK_ok]
  rw [e2, c1_ok, asS_ok, beq_self_eq_true, bind_ok]

theorem NamesNumbers_law (hE : jacquardlaw0_NamesNumbers_In E) {h : AHeap} : ∃ h', R E 209 [] h = some ([.c (.bool true)], h') := ⟨_, NamesNumbers_R hE h⟩

end Jq

/- NamesNumbers: whatever the input the call says true, and each argument reads behind it as before. No conditions. -/
namespace Go.Proofs.YtfecllgnajhkmabDoor.LNamesNumbers
open Go Jq Go.ChangeShapes Go.WideShapes Go.ChangeAt Go.RowKit
set_option linter.unusedVariables false

theorem own : ownKnob Tryd.prog.godebug = none := by kernel_rfl
theorem laidOut : laidOutB Tryd.prog = true := by kernel_rfl

theorem met (os : Os) (args : Array Value) : laidMetH Tryd.prog Rows.namesNumbersRow.laid ((World.doorLaid Tryd.prog 400 os).forCall (fun _ _ => 0) ⟨#[], args, []⟩).memory :=
  laidMetH_of_parts3 (fuel := 8) (laidMet_of_run' 8 (by kernel_rfl) (by kernel_rfl)) (by kernel_rfl) (by kernel_rfl)
set_option maxRecDepth 100000 in
theorem lifted (os : Os) (started : os.Started) (H : Type) (enc : TypeId × Value → H) :
    ReturnsInHanded {} Tryd.checked os 3 .any (fun w args => (Rows.namesNumbersSpec.pre enc Tryd.prog Tryd.f3 [] false w args ∧ laidMetH Tryd.prog Rows.namesNumbersRow.laid w) ∧ sizedMet enc Tryd.prog Tryd.f3 (OpenSpec.ofChange Rows.namesNumbersSpec) false w args) (Rows.namesNumbersSpec.post enc Tryd.prog Tryd.f3 false true false false) := by
  refine returnsInHanded_of_change_and (C := Tryd.checked) (X := fun w _ => laidMetH Tryd.prog Rows.namesNumbersRow.laid w) (fun _ _ _ hh h => h.of_heap hh) own started (by kernel_rfl) Tryd.func3
    (ChangeSpec.witness_shaped (enc := enc) (C := Tryd.checked) (os := os) (X := fun w _ => laidMetH Tryd.prog Rows.namesNumbersRow.laid w) false (World.doorLaid Tryd.prog 400 os) #[] 8 rfl (World.shaped_of_RefB (by kernel_rfl) (by kernel_rfl)) (by kernel_rfl) (by kernel_rfl) (by kernel_rfl) (met os _)) ?_
  intro W base args ds gs before hval0 hW _ _ hL _
  have hval : ∀ (j : Nat) t v, Tryd.f3.params[j]? = some t → args[j]? = some v → Value.okWide Tryd.prog W .any base t v := hval0
  have hW' := hW
  obtain ⟨p, q, hA0, hV, rfl, hfz, hnd⟩ := hW
  have hA : DataW.TrodAll enc Tryd.prog W 0 (fun _ => true) true Tryd.f3.params.toList args.toList ds p := hA0
  rw [Tryd.params3] at hA hval
  obtain ⟨hargs, rfl, rfl⟩ := trodAll_nil hA
  obtain rfl : args = #[] := by cases args; simp_all
  obtain ⟨rfl, rfl⟩ := trodVars_none hV
  have c := Come.nil (S := seat) (W := W) (fun _ => rfl)
  obtain ⟨h', hR⟩ := NamesNumbers_law (E := env) in_209 
  refine (law_call (S := seat) (R_sound (S := seat) (E := env) rfl allOk) c (vals := #[]) L2.nil hR).mono fun e W' ⟨he, bel⟩ => ?_
  subst he
  exact ⟨_, rfl, _, _, _, [], _, [], hW', trodAll_mk1 (shut_bool Tryd.underlying4 _), trodAll_mk0, rfl, bel.frame _, fun h => by cases h⟩

theorem over : Rows.namesNumbersRow.holds Tryd.pinned (OpenSpec.ofChange Rows.namesNumbersSpec) :=
  OpenClaim.holds_of_wide 3 Tryd.f3 rfl rfl rfl rfl rfl rfl rfl ⟨rfl, rfl, rfl, rfl, rfl⟩ rfl rfl rfl rfl rfl (by kernel_rfl) Tryd.func3 (by kernel_rfl)
    (of_decide_eq_true (by kernel_rfl)) (by unfold Func.isWrapper; first | (rw [if_pos (by decide +kernel)]; kernel_rfl) | (rw [if_neg (by decide +kernel)]; exact ⟨rfl, rfl⟩))
    (fun os started H enc _ => lifted os started H enc)

theorem proved : Rows.NamesNumbersCardSaid :=
  Claim7.holds_tied_plain_at .later [] [.data, .data, .data] true (true, "a875f4674bc457567054c14a164215f06a9e7b90328ee01178660f99709e1b8a") false
    over (fun _ h => by cases h) (by kernel_rfl) (fun _ h => by cases h) namesNumbers_row_tie rfl ⟨rfl, rfl⟩ (by kernel_rfl) rfl
    (fun f fn hf hfn => by
      obtain rfl : f = 3 := Option.some.inj ((show Tryd.prog.funcNamed "jacquard/jacquardlaw0.NamesNumbers" = some 3 by kernel_rfl).symm.trans hf) |>.symm
      obtain rfl : fn = Tryd.f3 := (Option.some.inj (Tryd.func3.symm.trans hfn)).symm
      exact ⟨by kernel_rfl, fun j t ht => by
        rw [Tryd.params3] at ht
        have hm : t ∈ [] := by simpa using Array.mem_of_getElem? ht
        have hall : ([].all fun u => !Tryd.prog.wantsStandIn u) = true := by kernel_rfl
        exact (show Tryd.prog.wantsStandIn t = false by simpa using List.all_eq_true.1 hall t hm)⟩)
    (by kernel_rfl)
#print axioms proved

end Go.Proofs.YtfecllgnajhkmabDoor.LNamesNumbers

