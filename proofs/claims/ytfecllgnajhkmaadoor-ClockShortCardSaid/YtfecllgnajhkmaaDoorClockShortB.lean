/- YtfecllgnajhkmaaDoorClockShortB: a part of the proof; no conditions of its own. -/
import Derived.KernelRfl
import Derived.Test.YtfecllgnajhkmaaDoorRows
import Derived.WalkKit
import Derived.ProofKit
import Derived.OpenShut
import Derived.ShutString
import Derived.ChangeOld
import Derived.Below
import Derived.Carry
import Derived.Test.YtfecllgnajhkmaaDoorCards
import Derived.Test.YtfecllgnajhkmaaDoorTie
import Derived.SevenTiedAt
import Derived.LaidMore
import Derived.Stop.Joined
import Derived.Lib.LaidTab
import Derived.MakeChecks
import Derived.LaidHandle
import Derived.Test.YtfecllgnajhkmaaDoorClockShortA
set_option linter.unusedVariables false
set_option linter.unusedSimpArgs false

namespace Jq
open Go

/- jacquard/jacquardref6.Closure: 6 -/
def jacquardref6_Closure_k2 (C : CallF) (L : LoopF) (G : Glo) (h0 : AHeap) : Ex → St → Option (List AV × AHeap) :=
  kSeq (fun st => jacquardref6_Closure_p1.exec C L G st (jacquardref6_Closure.fin G h0)) (jacquardref6_Closure.fin G h0)
def jacquardref6_Closure_k3 (C : CallF) (L : LoopF) (G : Glo) (h0 : AHeap) : Ex → St → Option (List AV × AHeap) :=
  kBlk 0 (jacquardref6_Closure_k2 C L G h0)
def jacquardref6_Closure_s2 (k1 : Nat) (N1 : Nat) (o1 : Nat) (a3 : Int) (s0 : List Cell) (h : AHeap) : St := ⟨[.top, .v (.c (.ptr k1 N1 o1)), .loc 0 0, .v (.c (.int .i64 a3)), .top, .top, .top, .top, .top, .top, .top, .top, .top, .top, .top, .top, .top, .top, .top, .top, .top, .top, .top, .top, .top, .top, .top, .top, .top, .top, .top, .top, .top], [some s0], h⟩
def jacquardref6_Closure_F2 (C : CallF) (L : LoopF) (G : Glo) : St → Option (Ex × St) :=
  roundF (fun st f => jacquardref6_Closure_b2.exec C L G st f) [1, 2, 3] [0] [(1, [1, 2], [0])]
def jacquardref6_Closure_k4 (C : CallF) (L : LoopF) (G : Glo) : Ex → St → Option (Ex × St) :=
  kSeq (fun st => jacquardref6_Closure_p2.exec C L G st (kLoop [1, 2, 3] [0] [(1, [1, 2], [0])])) (kLoop [1, 2, 3] [0] [(1, [1, 2], [0])])
def jacquardref6_Closure_k5 (C : CallF) (L : LoopF) (G : Glo) : Ex → St → Option (Ex × St) :=
  kBlk 1 (jacquardref6_Closure_k4 C L G)
def jacquardref6_Closure_k6 (C : CallF) (L : LoopF) (G : Glo) : Ex → St → Option (Ex × St) :=
  kBlk 2 (jacquardref6_Closure_k5 C L G)
def jacquardref6_Closure_s1 (k1 : Nat) (N1 : Nat) (o1 : Nat) (a3 : Int) (a4 : Int) (s0 : List Cell) (h : AHeap) : St := ⟨[.top, .v (.c (.ptr k1 N1 o1)), .loc 0 0, .v (.c (.int .i64 a3)), .v (.c (.int .i64 a4)), .top, .top, .top, .top, .top, .top, .top, .top, .top, .top, .top, .top, .top, .top, .top, .top, .top, .top, .top, .top, .top, .top, .top, .top, .top, .top, .top, .top], [some s0], h⟩
def jacquardref6_Closure_F1 (C : CallF) (L : LoopF) (G : Glo) : St → Option (Ex × St) :=
  roundF (fun st f => jacquardref6_Closure_b1.exec C L G st f) [1, 2, 3, 4] [0] [(3, [1, 2, 3], [0])]
def jacquardref6_Closure_x1_3 (k1 : Nat) (N1 : Nat) (o1 : Nat) (a3 : Int) (s0 : List Cell) (h : AHeap) : St := ⟨[.top, .v (.c (.ptr k1 N1 o1)), .loc 0 0, .v (.c (.int .i64 a3)), .top, .top, .top, .top, .top, .top, .top, .top, .top, .top, .top, .top, .top, .top, .top, .top, .top, .top, .top, .top, .top, .top, .top, .top, .top, .top, .top, .top, .top], [some s0], h⟩
def jacquardref6_Closure_x2_1 (k1 : Nat) (N1 : Nat) (o1 : Nat) (s0 : List Cell) (h : AHeap) : St := ⟨[.top, .v (.c (.ptr k1 N1 o1)), .loc 0 0, .top, .top, .top, .top, .top, .top, .top, .top, .top, .top, .top, .top, .top, .top, .top, .top, .top, .top, .top, .top, .top, .top, .top, .top, .top, .top, .top, .top, .top, .top], [some s0], h⟩
theorem jacquardref6_Closure_r1 (C : CallF) (L : LoopF) (G : Glo) (k1 : Nat) (N1 : Nat) (o1 : Nat) (a3 : Int) (a4 : Int) (s0 : List Cell) (h : AHeap) :
    jacquardref6_Closure_F1 C L G (jacquardref6_Closure_s1 k1 N1 o1 a3 a4 s0 h) =
    rdH h k1 N1 fun l_4 => atK l_4 (o1 + 0) fun q_5 => asI .i64 (.c q_5) fun n_6 => if (decide (a4 < n_6)) = true then c1 (C 7 [(.c (.ptr k1 N1 o1)), (.c (.int .i64 a4)), (.c (.int .i64 a3))] h) fun y_8 h_7 => asB y_8 fun b_9 => if b_9 = true then if 0 ≤ a4 ∧ a4 < ((64 : Nat) : Int) then rdH h_7 k1 N1 fun l_10 => atK l_10 ((o1 + 1) + ((Int.toNat a4) * 1)) fun q_11 => asI .u64 (.c q_11) fun n_12 => if 0 ≤ a3 ∧ a3 < ((64 : Nat) : Int) then rdH h_7 k1 N1 fun l_13 => atK l_13 ((o1 + 1) + ((Int.toNat a3) * 1)) fun q_14 => asI .u64 (.c q_14) fun n_15 => if 0 ≤ a4 ∧ a4 < ((64 : Nat) : Int) then rdH h_7 k1 N1 fun l_16 => if ((o1 + 1) + ((Int.toNat a4) * 1)) < l_16.length then putH h_7 k1 (l_16.set ((o1 + 1) + ((Int.toNat a4) * 1)) (.int .u64 (G.bor .u64 n_12 n_15))) fun h_17 => some (.normal, (jacquardref6_Closure_s1 k1 N1 o1 a3 (G.wrap .i64 (a4 + 1)) s0 h_17)) else none else none else none else none else some (.normal, (jacquardref6_Closure_s1 k1 N1 o1 a3 (G.wrap .i64 (a4 + 1)) s0 h_7)) else some ((.exit 2), (jacquardref6_Closure_x1_3 k1 N1 o1 a3 s0 h)) := by kernel_rfl
theorem jacquardref6_Closure_e1_3 (C : CallF) (L : LoopF) (G : Glo) (k1 : Nat) (N1 : Nat) (o1 : Nat) (a3 : Int) (s0 : List Cell) (h : AHeap) :
    (jacquardref6_Closure_k6 C L G) (.exit 2) (jacquardref6_Closure_x1_3 k1 N1 o1 a3 s0 h) =
    some (.normal, (jacquardref6_Closure_s2 k1 N1 o1 (G.wrap .i64 (a3 + 1)) s0 h)) := by kernel_rfl
theorem jacquardref6_Closure_r2 (C : CallF) (L : LoopF) (G : Glo) (k1 : Nat) (N1 : Nat) (o1 : Nat) (a3 : Int) (s0 : List Cell) (h : AHeap) :
    jacquardref6_Closure_F2 C L G (jacquardref6_Closure_s2 k1 N1 o1 a3 s0 h) =
    rdH h k1 N1 fun l_1 => atK l_1 (o1 + 0) fun q_2 => asI .i64 (.c q_2) fun n_3 => if (decide (a3 < n_3)) = true then (L (jacquardref6_Closure_F1 C L G) (jacquardref6_Closure_s1 k1 N1 o1 a3 0 s0 h)).bind fun p_18 => (jacquardref6_Closure_k6 C L G) p_18.1 p_18.2 else some ((.exit 0), (jacquardref6_Closure_x2_1 k1 N1 o1 s0 h)) := by kernel_rfl
theorem jacquardref6_Closure_e2_1 (C : CallF) (L : LoopF) (G : Glo) (h0 : AHeap) (k1 : Nat) (N1 : Nat) (o1 : Nat) (s0 : List Cell) (h : AHeap) :
    (jacquardref6_Closure_k3 C L G h0) (.exit 0) (jacquardref6_Closure_x2_1 k1 N1 o1 s0 h) =
    rdH h k1 N1 fun l_19 => if o1 = 0 ∧ l_19.length = 65 then if 0 = 0 ∧ s0.length = 65 ∧ l_19.length = 65 then if 0 = 0 ∧ l_19.length = 65 then finish true h0 [(.agg l_19)] h else none else none else none := by kernel_rfl
set_option maxRecDepth 100000 in
theorem jacquardref6_Closure_eq (C : CallF) (L : LoopF) (G : Glo) (l0 : List Cell) (h0 : AHeap) :
    jacquardref6_Closure.body C L G [(.agg l0)] h0 =
    (L (jacquardref6_Closure_F2 C L G) (jacquardref6_Closure_s2 h0.length ((AV.cells (.agg l0)).length) 0 0 ([Cell.int .i64 0] ++ List.replicate 64 (Cell.int .u64 0)) (h0 ++ [some (Blk.mk true 0 (AV.cells (.agg l0)))]))).bind fun p_20 => (jacquardref6_Closure_k3 C L G h0) p_20.1 p_20.2 := by kernel_rfl

/- (*jacquard/jacquardref6.Rel).Has: 7 -/
set_option maxRecDepth 100000 in
theorem jacquardref6_Rel_Has_eq (C : CallF) (L : LoopF) (G : Glo) (k0 : Nat) (N0 : Nat) (o0 : Nat) (a1 : Int) (a2 : Int) (h0 : AHeap) :
    jacquardref6_Rel_Has.body C L G [(.c (.ptr k0 N0 o0)), (.c (.int .i64 a1)), (.c (.int .i64 a2))] h0 =
    if 0 ≤ a1 ∧ a1 < ((64 : Nat) : Int) then rdH h0 k0 N0 fun l_1 => atK l_1 ((o0 + 1) + ((Int.toNat a1) * 1)) fun q_2 => asI .u64 (.c q_2) fun n_3 => if a2 < 0 then none else some ([(.c (.bool ((G.band .u64 (G.shr .u64 n_3 a2) 1) == 1)))], h0) else none := by kernel_rfl

/- (*jacquard/jacquardref6.Rel).Add: 13 -/
set_option maxRecDepth 100000 in
theorem jacquardref6_Rel_Add_eq (C : CallF) (L : LoopF) (G : Glo) (k0 : Nat) (N0 : Nat) (o0 : Nat) (a1 : Int) (a2 : Int) (h0 : AHeap) :
    jacquardref6_Rel_Add.body C L G [(.c (.ptr k0 N0 o0)), (.c (.int .i64 a1)), (.c (.int .i64 a2))] h0 =
    if 0 ≤ a1 ∧ a1 < ((64 : Nat) : Int) then rdH h0 k0 N0 fun l_1 => atK l_1 ((o0 + 1) + ((Int.toNat a1) * 1)) fun q_2 => asI .u64 (.c q_2) fun n_3 => if a2 < 0 then none else if 0 ≤ a1 ∧ a1 < ((64 : Nat) : Int) then rdH h0 k0 N0 fun l_4 => if ((o0 + 1) + ((Int.toNat a1) * 1)) < l_4.length then putH h0 k0 (l_4.set ((o0 + 1) + ((Int.toNat a1) * 1)) (.int .u64 (G.bor .u64 n_3 (G.shl .u64 1 a2)))) fun h_5 => some ([], h_5) else none else none else none := by kernel_rfl

/- jacquard/jacquardref6.Acyclic: 71 -/
def jacquardref6_Acyclic_k2 (C : CallF) (L : LoopF) (G : Glo) (h0 : AHeap) : Ex → St → Option (List AV × AHeap) :=
  kSeq (fun st => jacquardref6_Acyclic_p1.exec C L G st (jacquardref6_Acyclic.fin G h0)) (jacquardref6_Acyclic.fin G h0)
def jacquardref6_Acyclic_k3 (C : CallF) (L : LoopF) (G : Glo) (h0 : AHeap) : Ex → St → Option (List AV × AHeap) :=
  kBlk 0 (jacquardref6_Acyclic_k2 C L G h0)
def jacquardref6_Acyclic_s1 (k3 : Nat) (N3 : Nat) (o3 : Nat) (a4 : Int) (s0 : List Cell) (h : AHeap) : St := ⟨[.top, .loc 0 0, .top, .v (.c (.ptr k3 N3 o3)), .v (.c (.int .i64 a4)), .top, .top, .top, .top, .top, .top, .top, .top, .top, .top, .top], [some s0], h⟩
def jacquardref6_Acyclic_F1 (C : CallF) (L : LoopF) (G : Glo) : St → Option (Ex × St) :=
  roundF (fun st f => jacquardref6_Acyclic_b1.exec C L G st f) [1, 3, 4] [0] [(0, [2], []), (1, [], [])]
def jacquardref6_Acyclic_x1_0 (b2 : Bool) (h : AHeap) : St := ⟨[.top, .top, .v (.c (.bool b2)), .top, .top, .top, .top, .top, .top, .top, .top, .top, .top, .top, .top, .top], [none], h⟩
def jacquardref6_Acyclic_x1_1 (h : AHeap) : St := ⟨[.top, .top, .top, .top, .top, .top, .top, .top, .top, .top, .top, .top, .top, .top, .top, .top], [none], h⟩
theorem jacquardref6_Acyclic_r1 (C : CallF) (L : LoopF) (G : Glo) (k3 : Nat) (N3 : Nat) (o3 : Nat) (a4 : Int) (s0 : List Cell) (h : AHeap) :
    jacquardref6_Acyclic_F1 C L G (jacquardref6_Acyclic_s1 k3 N3 o3 a4 s0 h) =
    atK s0 0 fun q_6 => asI .i64 (.c q_6) fun n_7 => if (decide (a4 < n_7)) = true then c1 (C 7 [(.c (.ptr k3 N3 o3)), (.c (.int .i64 a4)), (.c (.int .i64 a4))] h) fun y_9 h_8 => asB y_9 fun b_10 => if b_10 = true then some (.ret, (jacquardref6_Acyclic_x1_0 false h_8)) else some (.normal, (jacquardref6_Acyclic_s1 k3 N3 o3 (G.wrap .i64 (a4 + 1)) s0 h_8)) else some ((.exit 0), (jacquardref6_Acyclic_x1_1 h)) := by kernel_rfl
theorem jacquardref6_Acyclic_e1_0 (C : CallF) (L : LoopF) (G : Glo) (h0 : AHeap) (b2 : Bool) (h : AHeap) :
    (jacquardref6_Acyclic_k3 C L G h0) .ret (jacquardref6_Acyclic_x1_0 b2 h) =
    finish true h0 [(.c (.bool b2))] h := by kernel_rfl
theorem jacquardref6_Acyclic_e1_1 (C : CallF) (L : LoopF) (G : Glo) (h0 : AHeap) (h : AHeap) :
    (jacquardref6_Acyclic_k3 C L G h0) (.exit 0) (jacquardref6_Acyclic_x1_1 h) =
    finish true h0 [(.c (.bool true))] h := by kernel_rfl
set_option maxRecDepth 100000 in
theorem jacquardref6_Acyclic_eq (C : CallF) (L : LoopF) (G : Glo) (l0 : List Cell) (h0 : AHeap) :
    jacquardref6_Acyclic.body C L G [(.agg l0)] h0 =
    if 0 = 0 ∧ l0.length = 65 then c1 (C 6 [(.agg l0)] h0) fun y_2 h_1 => asA y_2 fun l_3 => rdH (h_1 ++ [some (Blk.mk true 0 ([Cell.int .i64 0] ++ List.replicate 64 (Cell.int .u64 0)))]) h_1.length (([Cell.int .i64 0] ++ List.replicate 64 (Cell.int .u64 0)).length) fun l_4 => if 0 = 0 ∧ l_4.length = 65 ∧ l_3.length = 65 then putH (h_1 ++ [some (Blk.mk true 0 ([Cell.int .i64 0] ++ List.replicate 64 (Cell.int .u64 0)))]) h_1.length l_3 fun h_5 => (L (jacquardref6_Acyclic_F1 C L G) (jacquardref6_Acyclic_s1 h_1.length (([Cell.int .i64 0] ++ List.replicate 64 (Cell.int .u64 0)).length) 0 0 l0 h_5)).bind fun p_11 => (jacquardref6_Acyclic_k3 C L G h0) p_11.1 p_11.2 else none else none := by kernel_rfl


end Jq

/- The statements of relations: what their helpers come to. -/
namespace Jq
open Go

/-- A relation of pairs. -/
def ofR (n : Nat) (l : List (Int × Int)) : Nat → Nat := l.foldl (fun f p => addR n f p.1 p.2) fun _ => 0

theorem words_of (n : Nat) (l : List (Int × Int)) : Words (ofR n l) := by
  unfold ofR
  have : ∀ (l : List (Int × Int)) (f : Nat → Nat), Words f → Words (l.foldl (fun f p => addR n f p.1 p.2) f) := by
    intro l
    induction l with
    | nil => exact fun f h => h
    | cons p l ih => exact fun f h => ih _ (words_add h _ _)
  exact this l _ words_zero

theorem of_snoc (n : Nat) (l : List (Int × Int)) (p : Int × Int) : ofR n (l ++ [p]) = addR n (ofR n l) p.1 p.2 := by
  unfold ofR; rw [List.foldl_append]; rfl

theorem take_succ {α : Type} {l : List α} {i : Nat} {p : α} (h : l[i]? = some p) : l.take (i + 1) = l.take i ++ [p] := by
  rw [List.take_add_one, h]; rfl

variable {E : Env}

theorem refAdd_R (hE : jacquardref6_Rel_Add_In E) {n : Nat} (hn : n ≤ 64) {f : Nat → Nat} (hf : Words f) {a b : Int} (ha : inR n a = true) (hb : inR n b = true) {k : Nat} {h : AHeap} (hk : blk? h k = some ⟨true, 0, relL n f⟩) :
    R E 13 [.c (.ptr k 65 0), .c (.int .i64 a), .c (.int .i64 b)] h = some ([], setBlk h k (some ⟨true, 0, relL n (addR n f a b)⟩)) := by
  refine R_intro hE.fn ?_
  have h2 : 0 ≤ a ∧ a < n := by simpa [inR] using ha
  have h3 : 0 ≤ b ∧ b < n := by simpa [inR] using hb
  have q1 : 0 ≤ a ∧ a < ((64 : Nat) : Int) := by omega
  obtain ⟨m, rfl⟩ := Int.eq_ofNat_of_zero_le h3.1
  have hbit : bitI (m : Int) = 2 ^ m := by unfold bitI; rw [if_pos (by omega)]; simp
  rw [jacquardref6_Rel_Add_eq, if_pos q1, rdH_ok hk (relL_len n f)]
  dsimp only
  rw [show 0 + 1 + a.toNat * 1 = 1 + a.toNat by omega, atK_ok (relL_row (by omega)), asI_ok, if_neg (by omega), if_pos q1, rdH_ok hk (relL_len n f)]
  dsimp only
  rw [if_pos (by rw [relL_len]; omega), g_shl_one (by omega), ← hbit, g_bor (hf _) (bitI_lt _), relL_set, putH_ok hk rfl]
  unfold addR
  rw [ha, hb]; rfl

theorem inR_le {n : Nat} {a : Int} : inR n a = (decide (a ≥ 0) && decide (a < n)) := rfl

theorem Of_R (hE : jacquardlaw8_Of_In E) (a : Int) {x : Cell} {l : List (Int × Int)} {h : AHeap} (hx : SlAt h x 2 (pairC l) l.length) (hlow : Low h.length x) :
    R E 1 [.c (.int .i64 a), .c x] h = some ([.agg (relL (clamp a) (ofR (clamp a) (l.take 200))), .agg (relL (clamp a) (ofR (clamp a) (l.take 200)))], h) := by
  refine R_intro hE.fn ?_
  have hn : clamp a ≤ 64 := by unfold clamp; omega
  generalize hN : clamp a = n at hn ⊢
  have hv : (if 64 < (if 0 > a then 0 else a) then 64 else (if 0 > a then 0 else a)) = (n : Int) := by
    rw [← hN]; unfold clamp; split <;> split <;> omega
  rw [jacquardlaw8_Of_eq, New_R hE.c9, c1_ok, asA_ok, if_pos ⟨rfl, zero_len, relL_len _ _⟩, hN]
  simp only [hv, zero_rel, relL_len]
  rw [rdH_ok (blk_new h _) (relL_len _ _)]
  dsimp only
  rw [if_pos ⟨by trivial, relL_len _ _, by rw [splice_zero]; exact relL_len _ _⟩, splice_zero, putH_ok (blk_new h _) rfl, setBlk_last]
  dsimp only
  let g : Nat → St := fun i => jacquardlaw8_Of_s1 x h.length 65 0 (i : Int) (relL 0 fun _ => 0) (relL 0 fun _ => 0) (relL n (ofR n (l.take i))) (h ++ [some ⟨true, 0, relL n (ofR n (l.take i))⟩])
  have hk : ∀ t : AHeap, SlAt (h ++ t) x 2 (pairC l) l.length := fun t => hx.keep hlow (Kp.app t (Nat.le_refl _))
  have loop : Lim (jacquardlaw8_Of_F1 (R E) Lim E.glob) (g 0) = some (.exit 0, jacquardlaw8_Of_x1_1 h.length 65 0 (relL 0 fun _ => 0) (relL 0 fun _ => 0) (relL n (ofR n (l.take 200))) (h ++ [some ⟨true, 0, relL n (ofR n (l.take 200))⟩])) := by
    refine Lim_count g 0 (min l.length 200) (by omega) (fun i _ hi => ?_) ?_
    · obtain ⟨p, hp⟩ : ∃ p, l[i]? = some p := ⟨l[i], by simp⟩
      obtain ⟨g1, g2⟩ := pairC_get l i p hp
      have hil : i < l.length := by omega
      have hw := words_of n (l.take i)
      have hki := hk [some ⟨true, 0, relL n (ofR n (l.take i))⟩]
      show jacquardlaw8_Of_F1 (R E) Lim E.glob (jacquardlaw8_Of_s1 x h.length 65 0 (i : Int) _ _ _ _) = _
      rw [jacquardlaw8_Of_r1, hx.len, scK_and, show (decide ((i : Int) < (l.length : Int)) && decide ((i : Int) < 200)) = true by simp; omega]
      simp only [if_true]
      rw [hki.get hil (by omega) g1, asI_ok, hki.get hil (by omega) g2, asI_ok, if_pos ⟨by trivial, relL_len _ _⟩, Add_R hE.c10 hn hw, c1_ok, asA_ok, if_pos ⟨by trivial, relL_len _ _, relL_len _ _⟩]
      rw [rdH_ok (blk_new h _) (relL_len _ _), atK_ok (i := 0 + 0) (relL_zero _ _), asI_ok, scK_and, ← inR_le, scK_and, rdH_ok (blk_new h _) (relL_len _ _), atK_ok (i := 0 + 0) (relL_zero _ _), asI_ok, scK_and, Bool.and_assoc, ← inR_le]
      have hnext : g (i + 1) = jacquardlaw8_Of_s1 x h.length 65 0 ((i + 1 : Nat) : Int) (relL 0 fun _ => 0) (relL 0 fun _ => 0) (relL n (addR n (ofR n (l.take i)) p.1 p.2)) (h ++ [some ⟨true, 0, relL n (addR n (ofR n (l.take i)) p.1 p.2)⟩]) := by
        show jacquardlaw8_Of_s1 x h.length 65 0 ((i + 1 : Nat) : Int) _ _ _ _ = _
        rw [take_succ hp, of_snoc]
      rw [hnext]
      by_cases hin : (inR n p.1 && inR n p.2) = true
      · rw [hin]
        simp only [Bool.and_eq_true] at hin
        simp only [if_true]
        rw [refAdd_R hE.c13 hn hw hin.1 hin.2 (blk_new h _), c0_ok, setBlk_last, g_succ (by omega)]
      · have hadd : addR n (ofR n (l.take i)) p.1 p.2 = ofR n (l.take i) := by unfold addR; rw [if_neg hin]
        rw [show (inR n p.1 && inR n p.2) = false by simpa using hin, hadd]
        simp only [Bool.false_eq_true, if_false]
        rw [g_succ (by omega)]
    · refine Lim_exit ?_
      show jacquardlaw8_Of_F1 (R E) Lim E.glob (jacquardlaw8_Of_s1 x h.length 65 0 ((min l.length 200 : Nat) : Int) _ _ _ _) = _
      rw [jacquardlaw8_Of_r1, hx.len, scK_and, show (decide (((min l.length 200 : Nat) : Int) < (l.length : Int)) && decide (((min l.length 200 : Nat) : Int) < 200)) = false by simp; omega]
      simp only [Bool.false_eq_true, if_false]
      have : l.take (min l.length 200) = l.take 200 := by rw [Nat.min_comm, ← List.take_take, List.take_length]
      rw [this]
  have start : g 0 = jacquardlaw8_Of_s1 x h.length 65 0 0 (relL 0 fun _ => 0) (relL 0 fun _ => 0) (relL n fun _ => 0) (h ++ [some ⟨true, 0, relL n fun _ => 0⟩]) := rfl
  rw [start] at loop
  rw [loop, bind_ok, jacquardlaw8_Of_e1_1, if_pos ⟨rfl, relL_len _ _⟩, rdH_ok (blk_new h _) (relL_len _ _)]
  simp only [relL_len, and_self, if_true]
  unfold finish
  have hgc : gcOk h (h ++ [some ⟨true, 0, relL n (ofR n (l.take 200))⟩]) [.agg (relL n (ofR n (l.take 200))), .agg (relL n (ofR n (l.take 200)))] = true := by
    have hav : ∀ (m k : Nat) (f : Nat → Nat), avOk m (.agg (relL k f)) = true := by
      intro m k f
      simp [avOk, AV.cells, relL, idOk]
    simp only [gcOk, Bool.and_eq_true, List.all_cons, List.all_nil, hav, decide_eq_true_eq, List.length_append, List.all_eq_true, List.mem_range, Bool.or_eq_true]
    exact ⟨⟨by omega, by trivial⟩, fun k hk => .inl (List.getElem?_append_left hk)⟩
  simp only [hgc, if_true, List.take_left]

theorem awake8_R (hE : jacquardlaw8_awake_In E) (h : AHeap) : R E 55 [] h = some ([.c (.bool true)], h) := by
  refine R_intro hE.fn ?_
  have w0 : Words fun _ => 0 := words_zero
  have w1 : Words (addR 3 (fun _ => 0) 0 1) := words_add w0 0 1
  have w2 : Words (addR 3 (addR 3 (fun _ => 0) 0 1) 1 2) := words_add w1 1 2
  have w3 := words_add (n := 3) w2 2 0
  have w4 := words_clK w2 3 3
  have c3 : clamp 3 = 3 := rfl
  have b1 : hasR 3 (clK 3 (addR 3 (addR 3 (fun _ => 0) 0 1) 1 2) 3) 0 2 = true := by decide +kernel
  have b2 : hasR 3 (addR 3 (addR 3 (fun _ => 0) 0 1) 1 2) 0 2 = false := by decide +kernel
  have b3 : acycR 3 (addR 3 (addR 3 (fun _ => 0) 0 1) 1 2) = true := by decide +kernel
  have b4 : acycR 3 (addR 3 (addR 3 (addR 3 (fun _ => 0) 0 1) 1 2) 2 0) = false := by decide +kernel
  rw [jacquardlaw8_awake_eq, New_R hE.c9, c1_ok, asA_ok, c3, Add_R hE.c10 (by omega) w0, c1_ok, asA_ok, Add_R hE.c10 (by omega) w1, c1_ok, asA_ok, if_pos ⟨rfl, zero_len, relL_len _ _⟩, if_pos ⟨rfl, relL_len _ _⟩,
    Closure_R hE.c12 (by omega) w2, c1_ok, asA_ok, HasR_R hE.c3 (by omega) w4, c1_ok, asB_ok, b1, scK_ok, if_pos ⟨rfl, relL_len _ _⟩, HasR_R hE.c3 (by omega) w2, c1_ok, asB_ok, b2, bind_ok]
  dsimp only
  rw [show (!false) = true from rfl, scK_ok, if_pos ⟨rfl, relL_len _ _⟩, Acyclic_R hE.c26 (by omega) w2, c1_ok, asB_ok, b3, bind_ok]
  dsimp only
  rw [scK_ok, if_pos ⟨rfl, relL_len _ _⟩, Add_R hE.c10 (by omega) w2, c1_ok, asA_ok, Acyclic_R hE.c26 (by omega) w3, c1_ok, asB_ok, b4, bind_ok]
  dsimp only
  rw [show (!false) = true from rfl, scK_ok, if_pos ⟨rfl, relL_len _ _⟩, N_R hE.c14, c1_ok, asI_ok, bind_ok]
  rfl

/- What pairs make. -/
theorem addR_bit {n : Nat} (hn : n ≤ 64) (f : Nat → Nat) (x y : Int) (a b : Nat) : (addR n f x y a).testBit b = ((f a).testBit b || (inR n x && inR n y && decide (x = a) && decide (y = b))) := by
  unfold addR
  by_cases hin : (inR n x && inR n y) = true
  · rw [if_pos hin, hin, Bool.true_and]
    simp only [Bool.and_eq_true] at hin
    have hx : 0 ≤ x ∧ x < n := by simpa [inR] using hin.1
    have hy : 0 ≤ y ∧ y < n := by simpa [inR] using hin.2
    unfold updF
    by_cases ha : a = x.toNat
    · rw [if_pos ha, Nat.testBit_or, testBit_bitI, ← ha]
      have h1 : decide (x = (a : Int)) = true := by simp; omega
      rw [h1, Bool.true_and]
      by_cases hb : y = (b : Int)
      · have : b < 64 := by omega
        simp [hb, this]
      · simp [hb]
    · rw [if_neg ha]
      have h1 : decide (x = (a : Int)) = false := by simp; omega
      rw [h1, Bool.false_and, Bool.or_false]
  · rw [if_neg hin, show (inR n x && inR n y) = false by simpa using hin]; simp

theorem of_bit {n : Nat} (hn : n ≤ 64) (l : List (Int × Int)) (a b : Nat) : (ofR n l a).testBit b = true ↔ ∃ p ∈ l, inR n p.1 = true ∧ inR n p.2 = true ∧ p.1 = a ∧ p.2 = b := by
  have key : ∀ (l : List (Int × Int)) (f : Nat → Nat), ((l.foldl (fun f p => addR n f p.1 p.2) f) a).testBit b = true ↔ ((f a).testBit b = true ∨ ∃ p ∈ l, inR n p.1 = true ∧ inR n p.2 = true ∧ p.1 = a ∧ p.2 = b) := by
    intro l
    induction l with
    | nil => intro f; simp
    | cons p l ih =>
      intro f
      rw [List.foldl_cons, ih, addR_bit hn, Bool.or_eq_true]
      simp only [List.mem_cons, Bool.and_eq_true, decide_eq_true_eq]
      constructor
      · rintro ((h | ⟨⟨⟨h1, h2⟩, h3⟩, h4⟩) | ⟨q, hq, h⟩)
        · exact .inl h
        · exact .inr ⟨p, .inl rfl, h1, h2, h3, h4⟩
        · exact .inr ⟨q, .inr hq, h⟩
      · rintro (h | ⟨q, rfl | hq, h⟩)
        · exact .inl (.inl h)
        · exact .inl (.inr ⟨⟨⟨h.1, h.2.1⟩, h.2.2.1⟩, h.2.2.2⟩)
        · exact .inr ⟨q, hq, h⟩
  unfold ofR
  rw [key]; simp

theorem inR_nat {n a : Nat} : inR n (a : Int) = decide (a < n) := by
  unfold inR
  rw [Bool.eq_iff_iff]; simp

end Jq

/- Relations: joining, meeting, putting behind one another, turning, cutting down, pairs. -/
namespace Jq
open Go

/-- The word of these numbers. -/
def mkN (p : Nat → Bool) : Nat := (List.range 64).foldl (fun a j => if p j then a ||| 2 ^ j else a) 0

theorem mkN_aux (p : Nat → Bool) : ∀ m, m ≤ 64 → ((List.range m).foldl (fun a j => if p j then a ||| 2 ^ j else a) 0) < 2 ^ 64 ∧ ∀ j, ((List.range m).foldl (fun a j => if p j then a ||| 2 ^ j else a) 0).testBit j = (decide (j < m) && p j)
  | 0, _ => ⟨by simp, fun j => by simp⟩
  | m + 1, hm => by
    obtain ⟨h1, h2⟩ := mkN_aux p m (by omega)
    rw [List.range_succ, List.foldl_append, List.foldl_cons, List.foldl_nil]
    have hp : 2 ^ m < 2 ^ 64 := Nat.pow_lt_pow_right (by omega) (by omega)
    by_cases hpm : p m = true
    · rw [if_pos hpm]
      refine ⟨or_lt h1 hp, fun j => ?_⟩
      rw [Nat.testBit_or, h2, Nat.testBit_two_pow]
      by_cases hj : j = m
      · subst hj; simp [hpm]
      · rw [show decide (m = j) = false by simp; omega, Bool.or_false]
        congr 1
        rw [Bool.eq_iff_iff]; simp; omega
    · rw [if_neg hpm]
      refine ⟨h1, fun j => ?_⟩
      rw [h2]
      by_cases hj : j = m
      · subst hj; simp [hpm]
      · congr 1
        rw [Bool.eq_iff_iff]; simp; omega

theorem mkN_lt (p : Nat → Bool) : mkN p < 2 ^ 64 := (mkN_aux p 64 (Nat.le_refl _)).1
theorem testBit_mkN (p : Nat → Bool) (j : Nat) : (mkN p).testBit j = (decide (j < 64) && p j) := (mkN_aux p 64 (Nat.le_refl _)).2 j

theorem words_mkN (p : Nat → Nat → Bool) : Words fun i => mkN (p i) := fun _ => mkN_lt _

theorem eq_of_bits {a b : Nat} (ha : a < 2 ^ 64) (hb : b < 2 ^ 64) (h : ∀ j, j < 64 → a.testBit j = b.testBit j) : a = b := by
  refine Nat.eq_of_testBit_eq fun j => ?_
  rcases Nat.lt_or_ge j 64 with hj | hj
  · exact h j hj
  · have h64 : 2 ^ 64 ≤ 2 ^ j := Nat.pow_le_pow_right (by omega) hj
    rw [Nat.testBit_lt_two_pow (Nat.lt_of_lt_of_le ha h64), Nat.testBit_lt_two_pow (Nat.lt_of_lt_of_le hb h64)]

theorem relL_ext {n m : Nat} {f g : Nat → Nat} (hn : n = m) (hf : Words f) (hg : Words g) (h : ∀ i j, i < 64 → j < 64 → (f i).testBit j = (g i).testBit j) : relL n f = relL m g := by
  subst hn
  exact relL_congr fun i hi => eq_of_bits (hf i) (hg i) fun j hj => h i j hi hj

/-- Rows told so far. -/
def upF (T : Nat → Nat) (i : Nat) : Nat → Nat := fun j => if j < i then T j else 0

theorem upF_succ (T : Nat → Nat) (i : Nat) : updF (upF T i) i (T i) = upF T (i + 1) := by
  funext j
  unfold updF upF
  by_cases h : j = i
  · subst h; rw [if_pos rfl, if_pos (by omega)]
  · rw [if_neg h]
    by_cases h2 : j < i
    · rw [if_pos h2, if_pos (by omega)]
    · rw [if_neg h2, if_neg (by omega)]

theorem upF_zero (T : Nat → Nat) : upF T 0 = fun _ => 0 := by funext j; unfold upF; rw [if_neg (by omega)]

theorem words_upF {T : Nat → Nat} (h : Words T) (i : Nat) : Words (upF T i) := fun j => by unfold upF; split; exact h j; omega

theorem all_bit (n j : Nat) : (2 ^ n - 1).testBit j = decide (j < n) := Nat.testBit_two_pow_sub_one _ _

theorem all_lt {n : Nat} (hn : n ≤ 64) : 2 ^ n - 1 < 2 ^ 64 := by
  have : 2 ^ n ≤ 2 ^ 64 := Nat.pow_le_pow_right (by omega) hn
  have := Nat.two_pow_pos n
  omega

variable {E : Env}

theorem upto_n (hE : set_Upto_In E) {n : Nat} (hn : n ≤ 64) (h : AHeap) : R E 61 [.c (.int .i64 n)] h = some ([.c (.int .u64 ((2 ^ n - 1 : Nat) : Int))], h) := by
  rw [Upto_R hE, Int.toNat_natCast, Nat.min_eq_left hn]

theorem min_nat (n m : Nat) : (if (m : Int) < (n : Int) then (m : Int) else (n : Int)) = ((min n m : Nat) : Int) := by split <;> omega

theorem clamp_nat {n : Nat} (hn : n ≤ 64) : clamp (n : Int) = n := by unfold clamp; omega

/-- Two, row by row, over the lesser. -/
theorem both_R (hE : rel_both_In E) {n m : Nat} (hn : n ≤ 64) (hm : m ≤ 64) {f g : Nat → Nat} (hf : Words f) (hg : Words g) (k : Nat) (op : Nat → Nat → Nat) (hop : ∀ a b, a < 2 ^ 64 → b < 2 ^ 64 → op a b < 2 ^ 64 ∧ ∀ h, R E k [.c (.int .u64 (a : Nat)), .c (.int .u64 (b : Nat))] h = some ([.c (.int .u64 ((op a b : Nat) : Int))], h)) (h : AHeap) :
    R E 73 [.agg (relL n f), .agg (relL m g), .c (.fn k [])] h = some ([.agg (relL (min n m) (upF (fun i => op (f i) (g i) &&& (2 ^ min n m - 1)) (min n m)))], h) := by
  refine R_intro hE.fn ?_
  have hmn : min n m ≤ 64 := by omega
  rw [rel_both_eq, atK_ok (relL_zero _ _), asI_ok, atK_ok (relL_zero _ _), asI_ok, min_nat, New_R hE.c9, c1_ok, asA_ok, clamp_nat hmn]
  generalize min n m = r at hmn
  rw [if_pos ⟨rfl, zero_len, relL_len _ _⟩, atK_ok (relL_zero _ _), asI_ok]
  have loop : Lim (rel_both_F1 (R E) Lim E.glob) (rel_both_s1 (.fn k []) r ((0 : Nat) : Int) (relL n f) (relL m g) zeroL (relL r (upF (fun i => op (f i) (g i) &&& (2 ^ r - 1)) 0)) h) = some (.exit 0, rel_both_x1_1 zeroL (relL r (upF (fun i => op (f i) (g i) &&& (2 ^ r - 1)) r)) h) := by
    refine Lim_count (fun i => rel_both_s1 (.fn k []) r (i : Int) (relL n f) (relL m g) zeroL (relL r (upF (fun i => op (f i) (g i) &&& (2 ^ r - 1)) i)) h) 0 r (by omega) (fun i _ hi => ?_) (Lim_exit ?_)
    · have q1 : 0 ≤ (i : Int) ∧ (i : Int) < ((64 : Nat) : Int) := by omega
      obtain ⟨o1, o2⟩ := hop (f i) (g i) (hf i) (hg i)
      rw [rel_both_r1, if_pos (by simp; omega), if_pos q1, Int.toNat_natCast, Nat.mul_one, atK_ok (relL_row (by omega)), asI_ok, if_pos q1, atK_ok (relL_row (by omega)), asI_ok]
      rw [fnK_ok, List.append_nil, o2, qh_ok, c1_ok, asI_ok, atK_ok (relL_zero _ _), asI_ok, upto_n hE.c61 hmn, qh_ok, c1_ok, asI_ok, if_pos q1, g_band o1 (all_lt hmn), relL_set, if_pos (by rw [relL_len]; omega), g_succ (by omega), upF_succ (fun i => op (f i) (g i) &&& (2 ^ r - 1))]
    · rw [rel_both_r1, if_neg (by simp)]
  rw [upF_zero] at loop
  rw [show rel_both_s1 (.fn k []) r 0 (relL n f) (relL m g) ([Cell.int .i64 0] ++ List.replicate 64 (Cell.int .u64 0)) (relL r fun _ => 0) h = rel_both_s1 (.fn k []) r ((0 : Nat) : Int) (relL n f) (relL m g) zeroL (relL r fun _ => 0) h from rfl, loop, bind_ok, rel_both_e1_1]
  simp only [relL_len, zeroL, zero_len, and_self, if_true]

/-- A relation by what it has. -/
def relM (n : Nat) (p : Nat → Nat → Bool) : List Cell := relL n fun i => mkN (p i)

theorem words_relM (p : Nat → Nat → Bool) : Words fun i => mkN (p i) := fun _ => mkN_lt _

theorem both_M {n : Nat} (hn : n ≤ 64) {f g : Nat → Nat} (hf : Words f) (hg : Words g) (op : Nat → Nat → Nat) (b : Bool → Bool → Bool) (hop : ∀ x y, x < 2 ^ 64 → y < 2 ^ 64 → op x y < 2 ^ 64) (hb : ∀ x y j, (op x y).testBit j = b (x.testBit j) (y.testBit j)) :
    relL n (upF (fun i => op (f i) (g i) &&& (2 ^ n - 1)) n) = relM n fun i j => decide (i < n) && decide (j < n) && b ((f i).testBit j) ((g i).testBit j) := by
  refine relL_ext rfl (words_upF (fun i => and_lt (hop _ _ (hf i) (hg i))) n) (words_mkN _) fun i j hi hj => ?_
  rw [testBit_mkN]
  unfold upF
  by_cases hin : i < n
  · rw [if_pos hin, Nat.testBit_and, hb, all_bit]
    simp [hin, hj, Bool.and_comm]
  · rw [if_neg hin, Nat.zero_testBit]; simp [hin]

theorem Union_R (hE : rel_Rel_Union_In E) {n m : Nat} (hn : n ≤ 64) (hm : m ≤ 64) {f g : Nat → Nat} (hf : Words f) (hg : Words g) (h : AHeap) :
    R E 59 [.agg (relL n f), .agg (relL m g)] h = some ([.agg (relM (min n m) fun i j => decide (i < min n m) && decide (j < min n m) && ((f i).testBit j || (g i).testBit j))], h) := by
  refine R_intro hE.fn ?_
  rw [rel_Rel_Union_eq, if_pos ⟨rfl, relL_len _ _⟩, if_pos ⟨rfl, relL_len _ _⟩, both_R hE.c73 hn hm hf hg 72 (fun a b => a ||| b) (fun a b ha hb => ⟨or_lt ha hb, fun h => R_intro hE.c72.fn (by rw [rel_Rel_Union_1_eq, g_bor ha hb])⟩), c1_ok, asA_ok]
  simp only [relL_len, zero_len, and_self, if_true]
  rw [both_M (by omega) hf hg (fun a b => a ||| b) (· || ·) (fun _ _ => or_lt) fun x y j => Nat.testBit_or ..]

theorem Minus_R (hE : rel_Rel_Minus_In E) {n m : Nat} (hn : n ≤ 64) (hm : m ≤ 64) {f g : Nat → Nat} (hf : Words f) (hg : Words g) (h : AHeap) :
    R E 68 [.agg (relL n f), .agg (relL m g)] h = some ([.agg (relM (min n m) fun i j => decide (i < min n m) && decide (j < min n m) && ((f i).testBit j && !(g i).testBit j))], h) := by
  refine R_intro hE.fn ?_
  rw [rel_Rel_Minus_eq, if_pos ⟨rfl, relL_len _ _⟩, if_pos ⟨rfl, relL_len _ _⟩, both_R hE.c73 hn hm hf hg 75 ndiff (fun a b ha hb => ⟨ndiff_lt ha, fun h => R_intro hE.c75.fn (by rw [rel_Rel_Minus_1_eq, g_bandNot ha hb])⟩), c1_ok, asA_ok]
  simp only [relL_len, zero_len, and_self, if_true]
  rw [both_M (by omega) hf hg ndiff (fun a b => a && !b) (fun _ _ h _ => ndiff_lt h) fun x y j => testBit_ndiff x y j]

theorem Meet_R (hE : rel_Rel_Meet_In E) {n m : Nat} (hn : n ≤ 64) (hm : m ≤ 64) {f g : Nat → Nat} (hf : Words f) (hg : Words g) (h : AHeap) :
    R E 67 [.agg (relL n f), .agg (relL m g)] h = some ([.agg (relM (min n m) fun i j => decide (i < min n m) && decide (j < min n m) && ((f i).testBit j && (g i).testBit j))], h) := by
  refine R_intro hE.fn ?_
  rw [rel_Rel_Meet_eq, if_pos ⟨rfl, relL_len _ _⟩, if_pos ⟨rfl, relL_len _ _⟩, both_R hE.c73 hn hm hf hg 74 (fun a b => a &&& b) (fun a b ha hb => ⟨and_lt ha, fun h => R_intro hE.c74.fn (by rw [rel_Rel_Meet_1_eq, g_band ha hb])⟩), c1_ok, asA_ok]
  simp only [relL_len, zero_len, and_self, if_true]
  rw [both_M (by omega) hf hg (fun a b => a &&& b) (· && ·) (fun _ _ h _ => and_lt h) fun x y j => Nat.testBit_and ..]

/- Putting behind one another. -/
def orL (T : Nat → Nat) (l : List Nat) : Nat := l.foldl (fun a k => a ||| T k) 0

theorem orL_snoc (T : Nat → Nat) (l : List Nat) (k : Nat) : orL T (l ++ [k]) = orL T l ||| T k := by unfold orL; rw [List.foldl_append]; rfl

theorem orL_lt {T : Nat → Nat} (hT : Words T) (l : List Nat) : orL T l < 2 ^ 64 := by
  have : ∀ (l : List Nat) (s : Nat), s < 2 ^ 64 → l.foldl (fun a k => a ||| T k) s < 2 ^ 64 := by
    intro l
    induction l with
    | nil => exact fun s h => h
    | cons k l ih => exact fun s h => ih _ (or_lt h (hT k))
  exact this l 0 (by omega)

theorem orL_bit (T : Nat → Nat) (l : List Nat) (j : Nat) : (orL T l).testBit j = l.any fun k => (T k).testBit j := by
  have : ∀ (l : List Nat) (s : Nat), (l.foldl (fun a k => a ||| T k) s).testBit j = (s.testBit j || l.any fun k => (T k).testBit j) := by
    intro l
    induction l with
    | nil => intro s; simp
    | cons k l ih => intro s; rw [List.foldl_cons, ih, Nat.testBit_or, List.any_cons, Bool.or_assoc]
  have h := this l 0
  rw [Nat.zero_testBit, Bool.false_or] at h
  exact h

/-- A loop over a word's numbers: from the least on. -/
theorem Lim_bits {F : St → Option (Ex × St)} (g : Nat → List Nat → St) {s : Nat} (hs : s < 2 ^ 64) (hstep : ∀ a done, a < 2 ^ 64 → a ≠ 0 → done ++ bitsL a = bitsL s → Lib.ctz 64 a < 64 → s.testBit (Lib.ctz 64 a) = true → F (g a done) = some (.normal, g (a &&& (a - 1)) (done ++ [Lib.ctz 64 a])))
    {p : Ex × St} (hend : Lim F (g 0 (bitsL s)) = some p) : Lim F (g s []) = some p := by
  have : ∀ k a done, a ≤ k → a < 2 ^ 64 → done ++ bitsL a = bitsL s → Lim F (g a done) = some p := by
    intro k
    induction k with
    | zero =>
      intro a done hak _ hd
      have h0 : a = 0 := by omega
      subst h0
      rw [bitsL_zero, List.append_nil] at hd
      rw [hd]; exact hend
    | succ k ih =>
      intro a done hak ha hd
      by_cases h0 : a = 0
      · subst h0
        rw [bitsL_zero, List.append_nil] at hd
        rw [hd]; exact hend
      · have hc := bitsL_cons ha h0
        have hmem : Lib.ctz 64 a ∈ bitsL s := by rw [← hd, hc]; simp
        obtain ⟨m1, m2⟩ := mem_bitsL.1 hmem
        refine Lim_next (hstep a done ha h0 hd m1 m2) (ih _ _ ?_ (and_lt ha) ?_)
        · have := and_pred_lt h0; omega
        · rw [List.append_assoc, List.singleton_append, ← hc, hd]
  exact this s s [] (Nat.le_refl _) hs rfl

theorem pred_wrap {a : Nat} (ha : a < 2 ^ 64) (h0 : a ≠ 0) : E.glob.band .u64 (a : Int) (E.glob.wrap .u64 ((a : Int) - 1)) = ((a &&& (a - 1) : Nat) : Int) := by
  rw [show E.glob.wrap .u64 ((a : Int) - 1) = ((a - 1 : Nat) : Int) by rw [g_wrap_u64 (by omega) (by omega)]; omega, g_band ha (by omega)]

theorem ne_zero {a : Nat} (h0 : a ≠ 0) : ((a : Int) != 0) = true := by rw [bne_iff_ne]; omega

def thenF (n : Nat) (f g : Nat → Nat) (i : Nat) : Nat := orL (fun k => g k &&& (2 ^ n - 1)) (bitsL (f i &&& (2 ^ n - 1)))

theorem Then_R (hE : rel_Rel_Then_In E) (ht : TabOk E) {n m : Nat} (hn : n ≤ 64) (hm : m ≤ 64) {f g : Nat → Nat} (hf : Words f) (hg : Words g) (h : AHeap) :
    R E 58 [.agg (relL n f), .agg (relL m g)] h = some ([.agg (relM (min n m) fun i j => decide (i < min n m) && decide (j < min n m) && (List.range (min n m)).any fun k => (f i).testBit k && (g k).testBit j)], h) := by
  refine R_intro hE.fn ?_
  have hmn : min n m ≤ 64 := by omega
  rw [rel_Rel_Then_eq, atK_ok (relL_zero _ _), asI_ok, atK_ok (relL_zero _ _), asI_ok, min_nat, New_R hE.c9, c1_ok, asA_ok, clamp_nat hmn]
  generalize min n m = r at hmn
  have hal := all_lt hmn
  have hT : Words fun k => g k &&& (2 ^ r - 1) := fun k => and_lt (hg k)
  have hW : Words (thenF r f g) := fun i => orL_lt hT _
  rw [if_pos ⟨rfl, zero_len, relL_len _ _⟩, atK_ok (relL_zero _ _), asI_ok, upto_n hE.c61 hmn, c1_ok, asI_ok, atK_ok (relL_zero _ _), asI_ok]
  have loop : Lim (rel_Rel_Then_F2 (R E) Lim E.glob) (rel_Rel_Then_s2 ((2 ^ r - 1 : Nat) : Int) r ((0 : Nat) : Int) (relL n f) (relL m g) zeroL (relL r (upF (thenF r f g) 0)) h) = some (.exit 0, rel_Rel_Then_x2_1 zeroL (relL r (upF (thenF r f g) r)) h) := by
    refine Lim_count (fun i => rel_Rel_Then_s2 ((2 ^ r - 1 : Nat) : Int) r (i : Int) (relL n f) (relL m g) zeroL (relL r (upF (thenF r f g) i)) h) 0 r (by omega) (fun i _ hi => ?_) (Lim_exit ?_)
    · have q1 : 0 ≤ (i : Int) ∧ (i : Int) < ((64 : Nat) : Int) := by omega
      rw [rel_Rel_Then_r2, if_pos (by simp; omega), if_pos q1, Int.toNat_natCast, Nat.mul_one, atK_ok (relL_row (by omega)), asI_ok, g_band (hf i) hal]
      have hs : f i &&& (2 ^ r - 1) < 2 ^ 64 := and_lt (hf i)
      have inner := Lim_bits (F := rel_Rel_Then_F1 (R E) Lim E.glob) (fun a done => rel_Rel_Then_s1 ((2 ^ r - 1 : Nat) : Int) i (a : Nat) r i (relL n f) (relL m g) zeroL (relL r (updF (upF (thenF r f g) i) i (orL (fun k => g k &&& (2 ^ r - 1)) done))) h) hs (fun a done ha h0 hd hc hb => by
        have q2 : 0 ≤ ((Lib.ctz 64 a : Nat) : Int) ∧ ((Lib.ctz 64 a : Nat) : Int) < ((64 : Nat) : Int) := by omega
        have hcell : (relL r (updF (upF (thenF r f g) i) i (orL (fun k => g k &&& (2 ^ r - 1)) done)))[1 + i]? = some (.int .u64 ((orL (fun k => g k &&& (2 ^ r - 1)) done : Nat) : Int)) := by
          rw [relL_row (by omega)]; unfold updF; rw [if_pos rfl]
        have hupd : updF (updF (upF (thenF r f g) i) i (orL (fun k => g k &&& (2 ^ r - 1)) done)) i (orL (fun k => g k &&& (2 ^ r - 1)) (done ++ [Lib.ctz 64 a])) = updF (upF (thenF r f g) i) i (orL (fun k => g k &&& (2 ^ r - 1)) (done ++ [Lib.ctz 64 a])) := by
          funext j; unfold updF; split <;> rfl
        rw [rel_Rel_Then_r1, if_pos (ne_zero h0), if_pos q1, Int.toNat_natCast, Nat.mul_one, atK_ok hcell, asI_ok, First_R hE.c38 ht ha, qh_ok, c1_ok, asI_ok]
        unfold firstI
        rw [if_neg h0, if_pos q2, Int.toNat_natCast, Nat.mul_one, atK_ok (relL_row hc), asI_ok, if_pos q1, if_pos (by rw [relL_len]; omega), g_band (hg _) hal, g_bor (orL_lt hT _) (hT (Lib.ctz 64 a)), pred_wrap ha h0, relL_set, ← orL_snoc (fun k => g k &&& (2 ^ r - 1)), hupd])
        (p := (.exit 2, rel_Rel_Then_x1_3 ((2 ^ r - 1 : Nat) : Int) r i (relL n f) (relL m g) zeroL (relL r (upF (thenF r f g) (i + 1))) h)) (Lim_exit (by
          rw [rel_Rel_Then_r1, if_neg (by simp), ← upF_succ]; rfl))
      have hz : updF (upF (thenF r f g) i) i (orL (fun k => g k &&& (2 ^ r - 1)) []) = upF (thenF r f g) i := by
        funext j; unfold updF upF orL
        by_cases hj : j = i
        · rw [if_pos hj, if_neg (by omega)]; rfl
        · rw [if_neg hj]
      rw [hz] at inner
      rw [inner, bind_ok, rel_Rel_Then_e1_3, g_succ (by omega)]
    · rw [rel_Rel_Then_r2, if_neg (by simp)]
  rw [upF_zero] at loop
  rw [show rel_Rel_Then_s2 ((2 ^ r - 1 : Nat) : Int) r 0 (relL n f) (relL m g) ([Cell.int .i64 0] ++ List.replicate 64 (Cell.int .u64 0)) (relL r fun _ => 0) h = rel_Rel_Then_s2 ((2 ^ r - 1 : Nat) : Int) r ((0 : Nat) : Int) (relL n f) (relL m g) zeroL (relL r fun _ => 0) h from rfl, loop, bind_ok, rel_Rel_Then_e2_1]
  simp only [relL_len, zeroL, zero_len, and_self, if_true]
  congr 4
  refine relL_ext rfl (words_upF hW r) (words_mkN _) fun i j hi hj => ?_
  rw [testBit_mkN]
  unfold upF
  by_cases hin : i < r
  · rw [if_pos hin, thenF, orL_bit, Bool.eq_iff_iff]
    simp only [List.any_eq_true, mem_bitsL, Nat.testBit_and, all_bit, Bool.and_eq_true, decide_eq_true_eq, List.mem_range]
    constructor
    · rintro ⟨k, ⟨_, hk1, hk2⟩, hk3, hk4⟩; exact ⟨hj, ⟨hin, hk4⟩, k, hk2, hk1, hk3⟩
    · rintro ⟨_, ⟨_, h4⟩, k, hk2, hk1, hk3⟩; exact ⟨k, ⟨by omega, hk1, hk2⟩, hk3, h4⟩
  · rw [if_neg hin, Nat.zero_testBit]; simp [hin]

/- Turning about. -/
/-- What has been turned: all of the rows below i, of row i what is done. -/
def invP (f : Nat → Nat) (i : Nat) (done : List Nat) : Nat → Nat := fun k => mkN fun j => (decide (j < i) && (f j).testBit k) || (decide (j = i) && decide (k ∈ done))

theorem invP_lt (f : Nat → Nat) (i : Nat) (done : List Nat) : Words (invP f i done) := fun _ => mkN_lt _

theorem bitI_nat {n : Nat} (hn : n < 64) : bitI (n : Int) = 2 ^ n := by unfold bitI; rw [if_pos (by omega)]; simp

theorem Inverse_R (hE : rel_Rel_Inverse_In E) (ht : TabOk E) {n : Nat} (hn : n ≤ 64) {f : Nat → Nat} (hf : Words f) (h : AHeap) :
    R E 40 [.agg (relL n f)] h = some ([.agg (relM n fun i j => decide (j < n) && (f j).testBit i)], h) := by
  refine R_intro hE.fn ?_
  rw [rel_Rel_Inverse_eq, atK_ok (relL_zero _ _), asI_ok, New_R hE.c9, c1_ok, asA_ok, clamp_nat hn, if_pos ⟨rfl, zero_len, relL_len _ _⟩, atK_ok (relL_zero _ _), asI_ok]
  have loop : Lim (rel_Rel_Inverse_F2 (R E) Lim E.glob) (rel_Rel_Inverse_s2 n ((0 : Nat) : Int) (relL n f) zeroL (relL n (invP f 0 [])) h) = some (.exit 0, rel_Rel_Inverse_x2_1 zeroL (relL n (invP f n [])) h) := by
    refine Lim_count (fun i => rel_Rel_Inverse_s2 n (i : Int) (relL n f) zeroL (relL n (invP f i [])) h) 0 n (by omega) (fun i _ hi => ?_) (Lim_exit ?_)
    · have q1 : 0 ≤ (i : Int) ∧ (i : Int) < ((64 : Nat) : Int) := by omega
      rw [rel_Rel_Inverse_r2, if_pos (by simp; omega), if_pos q1, Int.toNat_natCast, Nat.mul_one, atK_ok (relL_row (by omega)), asI_ok]
      have inner := Lim_bits (F := rel_Rel_Inverse_F1 (R E) Lim E.glob) (fun a done => rel_Rel_Inverse_s1 i (a : Nat) n i (relL n f) zeroL (relL n (invP f i done)) h) (hf i) (fun a done ha h0 hd hc hb => by
        have q2 : 0 ≤ ((Lib.ctz 64 a : Nat) : Int) ∧ ((Lib.ctz 64 a : Nat) : Int) < ((64 : Nat) : Int) := by omega
        have hF : firstI a = ((Lib.ctz 64 a : Nat) : Int) := by unfold firstI; rw [if_neg h0]
        have hupd : relL n (updF (invP f i done) (Lib.ctz 64 a) (invP f i done (Lib.ctz 64 a) ||| bitI (i : Int))) = relL n (invP f i (done ++ [Lib.ctz 64 a])) := by
          refine relL_ext rfl (words_upd (invP_lt f i done) (or_lt (invP_lt f i done _) (bitI_lt _))) (invP_lt f i _) fun k j hk hj => ?_
          unfold updF
          by_cases hkc : k = Lib.ctz 64 a
          · rw [if_pos hkc, Nat.testBit_or, testBit_bitI]
            unfold invP
            rw [testBit_mkN, testBit_mkN, Bool.eq_iff_iff]
            simp only [Bool.or_eq_true, Bool.and_eq_true, decide_eq_true_eq, List.mem_append, List.mem_singleton, hj, true_and, hkc, or_true, and_true]
            constructor
            · rintro ((h1 | ⟨h1, _⟩) | h1)
              · exact .inl h1
              · exact .inr h1
              · exact .inr (by omega)
            · rintro (h1 | h1)
              · exact .inl (.inl h1)
              · exact .inr (by omega)
          · rw [if_neg hkc]
            unfold invP
            rw [testBit_mkN, testBit_mkN]
            simp [hkc]
        rw [rel_Rel_Inverse_r1, if_pos (ne_zero h0), First_R hE.c38 ht ha, c1_ok, asI_ok, First_R hE.c38 ht ha, c1_ok, asI_ok, hF, if_pos q2, Int.toNat_natCast, Nat.mul_one, atK_ok (relL_row hc), asI_ok, With_R hE.c18 (invP_lt f i done _), c1_ok, asI_ok, if_pos q2, if_pos (by rw [relL_len]; omega), pred_wrap ha h0, relL_set, hupd])
        (p := (.exit 2, rel_Rel_Inverse_x1_3 n i (relL n f) zeroL (relL n (invP f (i + 1) [])) h)) (Lim_exit (by
          have hnext : relL n (invP f i (bitsL (f i))) = relL n (invP f (i + 1) []) := by
            refine relL_ext rfl (invP_lt f i _) (invP_lt f (i + 1) _) fun k j hk hj => ?_
            unfold invP
            rw [testBit_mkN, testBit_mkN, Bool.eq_iff_iff]
            simp only [Bool.or_eq_true, Bool.and_eq_true, decide_eq_true_eq, hj, true_and, mem_bitsL, hk, List.not_mem_nil, and_false, or_false]
            constructor
            · rintro (⟨h1, h2⟩ | ⟨h1, h2⟩)
              · exact ⟨by omega, h2⟩
              · subst h1; exact ⟨by omega, h2⟩
            · rintro ⟨h1, h2⟩
              by_cases hji : j = i
              · subst hji; exact .inr ⟨rfl, h2⟩
              · exact .inl ⟨by omega, h2⟩
          rw [rel_Rel_Inverse_r1, if_neg (by simp), hnext]))
      rw [inner, bind_ok, rel_Rel_Inverse_e1_3, g_succ (by omega)]
    · rw [rel_Rel_Inverse_r2, if_neg (by simp)]
  have h00 : relL n (invP f 0 []) = relL n fun _ => 0 := by
    refine relL_ext rfl (invP_lt f 0 _) words_zero fun k j hk hj => ?_
    unfold invP
    rw [testBit_mkN]; simp
  rw [h00] at loop
  rw [show rel_Rel_Inverse_s2 n 0 (relL n f) ([Cell.int .i64 0] ++ List.replicate 64 (Cell.int .u64 0)) (relL n fun _ => 0) h = rel_Rel_Inverse_s2 n ((0 : Nat) : Int) (relL n f) zeroL (relL n fun _ => 0) h from rfl, loop, bind_ok, rel_Rel_Inverse_e2_1]
  simp only [relL_len, zeroL, zero_len, and_self, if_true]
  congr 4
  refine relL_ext rfl (invP_lt f n _) (words_mkN _) fun i j hi hj => ?_
  unfold invP
  rw [testBit_mkN, testBit_mkN]; simp

/- Cutting down. -/
theorem Keep_R (hE : rel_Rel_Keep_In E) {n : Nat} (hn : n ≤ 64) {f : Nat → Nat} (hf : Words f) {s : Nat} (hs : s < 2 ^ 64) (h : AHeap) :
    R E 66 [.agg (relL n f), .c (.int .u64 s)] h = some ([.agg (relM n fun i j => decide (i < n) && s.testBit i && ((f i).testBit j && s.testBit j))], h) := by
  refine R_intro hE.fn ?_
  rw [rel_Rel_Keep_eq, atK_ok (relL_zero _ _), asI_ok, New_R hE.c9, c1_ok, asA_ok, clamp_nat hn, if_pos ⟨rfl, zero_len, relL_len _ _⟩, atK_ok (relL_zero _ _), asI_ok]
  have hT : Words fun i => if s.testBit i then f i &&& s else 0 := fun i => by
    show (if s.testBit i = true then f i &&& s else 0) < 2 ^ 64
    split
    · exact and_lt (hf i)
    · omega
  have loop : Lim (rel_Rel_Keep_F1 (R E) Lim E.glob) (rel_Rel_Keep_s1 s n ((0 : Nat) : Int) (relL n f) zeroL (relL n (upF (fun i => if s.testBit i then f i &&& s else 0) 0)) h) = some (.exit 0, rel_Rel_Keep_x1_1 zeroL (relL n (upF (fun i => if s.testBit i then f i &&& s else 0) n)) h) := by
    refine Lim_count (fun i => rel_Rel_Keep_s1 s n (i : Int) (relL n f) zeroL (relL n (upF (fun i => if s.testBit i then f i &&& s else 0) i)) h) 0 n (by omega) (fun i _ hi => ?_) (Lim_exit ?_)
    · have q1 : 0 ≤ (i : Int) ∧ (i : Int) < ((64 : Nat) : Int) := by omega
      rw [rel_Rel_Keep_r1, if_pos (by simp; omega), Has_R hE.c17 hs, c1_ok, asB_ok, hasI_nat (by omega), ← upF_succ]
      cases hb : s.testBit i with
      | true =>
        simp only [if_true]
        rw [if_pos q1, Int.toNat_natCast, Nat.mul_one, atK_ok (relL_row (by omega)), asI_ok, if_pos q1, if_pos (by rw [relL_len]; omega), g_band (hf i) hs, relL_set, g_succ (by omega)]
      | false =>
        simp only [Bool.false_eq_true, if_false]
        rw [g_succ (by omega)]
        have : updF (upF (fun i => if s.testBit i = true then f i &&& s else 0) i) i 0 = upF (fun i => if s.testBit i = true then f i &&& s else 0) i := by
          funext j; unfold updF upF
          by_cases hj : j = i
          · rw [if_pos hj, if_neg (by omega)]
          · rw [if_neg hj]
        rw [this]
    · rw [rel_Rel_Keep_r1, if_neg (by simp)]
  rw [upF_zero] at loop
  rw [show rel_Rel_Keep_s1 s n 0 (relL n f) ([Cell.int .i64 0] ++ List.replicate 64 (Cell.int .u64 0)) (relL n fun _ => 0) h = rel_Rel_Keep_s1 s n ((0 : Nat) : Int) (relL n f) zeroL (relL n fun _ => 0) h from rfl, loop, bind_ok, rel_Rel_Keep_e1_1]
  simp only [relL_len, zeroL, zero_len, and_self, if_true]
  congr 4
  refine relL_ext rfl (words_upF hT n) (words_mkN _) fun i j hi hj => ?_
  rw [testBit_mkN]
  unfold upF
  by_cases hin : i < n
  · rw [if_pos hin]
    cases hb : s.testBit i with
    | true => simp [hin, hj, hb, Nat.testBit_and]
    | false => simp [hb]
  · rw [if_neg hin, Nat.zero_testBit]; simp [hin]

end Jq

/- Relations over one number: by what they have. -/
namespace Jq
open Go

def TH (n : Nat) (f g : Nat → Nat) : Nat → Nat := fun i => mkN fun j => decide (i < n) && decide (j < n) && (List.range n).any fun k => (f i).testBit k && (g k).testBit j
def UNI (n : Nat) (f g : Nat → Nat) : Nat → Nat := fun i => mkN fun j => decide (i < n) && decide (j < n) && ((f i).testBit j || (g i).testBit j)
def MIN (n : Nat) (f g : Nat → Nat) : Nat → Nat := fun i => mkN fun j => decide (i < n) && decide (j < n) && ((f i).testBit j && !(g i).testBit j)
def MEE (n : Nat) (f g : Nat → Nat) : Nat → Nat := fun i => mkN fun j => decide (i < n) && decide (j < n) && ((f i).testBit j && (g i).testBit j)
def INV (n : Nat) (f : Nat → Nat) : Nat → Nat := fun i => mkN fun j => decide (j < n) && (f j).testBit i
def KEE (n : Nat) (f : Nat → Nat) (s : Nat) : Nat → Nat := fun i => mkN fun j => decide (i < n) && s.testBit i && ((f i).testBit j && s.testBit j)

theorem w_TH (n : Nat) (f g : Nat → Nat) : Words (TH n f g) := fun _ => mkN_lt _
theorem w_UNI (n : Nat) (f g : Nat → Nat) : Words (UNI n f g) := fun _ => mkN_lt _
theorem w_MIN (n : Nat) (f g : Nat → Nat) : Words (MIN n f g) := fun _ => mkN_lt _
theorem w_MEE (n : Nat) (f g : Nat → Nat) : Words (MEE n f g) := fun _ => mkN_lt _
theorem w_INV (n : Nat) (f : Nat → Nat) : Words (INV n f) := fun _ => mkN_lt _
theorem w_KEE (n : Nat) (f : Nat → Nat) (s : Nat) : Words (KEE n f s) := fun _ => mkN_lt _

/-- All pairs are over n. -/
def Fit (n : Nat) (f : Nat → Nat) : Prop := ∀ i j, (f i).testBit j = true → i < n ∧ j < n

theorem of_fit {n : Nat} (hn : n ≤ 64) (l : List (Int × Int)) : Fit n (ofR n l) := by
  intro a b hb
  obtain ⟨p, _, h1, h2, h3, h4⟩ := (of_bit hn l a b).1 hb
  have k1 : 0 ≤ p.1 ∧ p.1 < n := by simpa [inR] using h1
  have k2 : 0 ≤ p.2 ∧ p.2 < n := by simpa [inR] using h2
  omega

theorem b_TH {n : Nat} (hn : n ≤ 64) (f g : Nat → Nat) (i j : Nat) : (TH n f g i).testBit j = true ↔ i < n ∧ j < n ∧ ∃ k, k < n ∧ (f i).testBit k = true ∧ (g k).testBit j = true := by
  unfold TH
  rw [testBit_mkN]
  simp only [Bool.and_eq_true, decide_eq_true_eq, List.any_eq_true, List.mem_range]
  constructor
  · rintro ⟨_, ⟨h1, h2⟩, k, h3, h4, h5⟩; exact ⟨h1, h2, k, h3, h4, h5⟩
  · rintro ⟨h1, h2, k, h3, h4, h5⟩; exact ⟨by omega, ⟨h1, h2⟩, k, h3, h4, h5⟩
theorem b_UNI {n : Nat} (hn : n ≤ 64) (f g : Nat → Nat) (i j : Nat) : (UNI n f g i).testBit j = true ↔ i < n ∧ j < n ∧ ((f i).testBit j = true ∨ (g i).testBit j = true) := by
  unfold UNI
  rw [testBit_mkN]
  simp only [Bool.and_eq_true, decide_eq_true_eq, Bool.or_eq_true]
  constructor
  · rintro ⟨_, ⟨h1, h2⟩, h⟩; exact ⟨h1, h2, h⟩
  · rintro ⟨h1, h2, h⟩; exact ⟨by omega, ⟨h1, h2⟩, h⟩
theorem b_MIN {n : Nat} (hn : n ≤ 64) (f g : Nat → Nat) (i j : Nat) : (MIN n f g i).testBit j = true ↔ i < n ∧ j < n ∧ (f i).testBit j = true ∧ ¬ (g i).testBit j = true := by
  unfold MIN
  rw [testBit_mkN]
  simp only [Bool.and_eq_true, decide_eq_true_eq, Bool.not_eq_true', Bool.not_eq_true]
  constructor
  · rintro ⟨_, ⟨h1, h2⟩, h⟩; exact ⟨h1, h2, h⟩
  · rintro ⟨h1, h2, h⟩; exact ⟨by omega, ⟨h1, h2⟩, h⟩
theorem b_MEE {n : Nat} (hn : n ≤ 64) (f g : Nat → Nat) (i j : Nat) : (MEE n f g i).testBit j = true ↔ i < n ∧ j < n ∧ (f i).testBit j = true ∧ (g i).testBit j = true := by
  unfold MEE
  rw [testBit_mkN]
  simp only [Bool.and_eq_true, decide_eq_true_eq]
  constructor
  · rintro ⟨_, ⟨h1, h2⟩, h⟩; exact ⟨h1, h2, h⟩
  · rintro ⟨h1, h2, h⟩; exact ⟨by omega, ⟨h1, h2⟩, h⟩
theorem b_INV {n : Nat} (hn : n ≤ 64) (f : Nat → Nat) (i j : Nat) : (INV n f i).testBit j = true ↔ j < n ∧ (f j).testBit i = true := by
  unfold INV
  rw [testBit_mkN]
  simp only [Bool.and_eq_true, decide_eq_true_eq]
  constructor
  · rintro ⟨_, h⟩; exact h
  · rintro h; exact ⟨by omega, h⟩
theorem b_KEE {n : Nat} {f : Nat → Nat} (s : Nat) (hs : s < 2 ^ 64) (i j : Nat) : (KEE n f s i).testBit j = true ↔ i < n ∧ s.testBit i = true ∧ (f i).testBit j = true ∧ s.testBit j = true := by
  unfold KEE
  rw [testBit_mkN]
  simp only [Bool.and_eq_true, decide_eq_true_eq]
  constructor
  · rintro ⟨_, ⟨h1, h2⟩, h⟩; exact ⟨h1, h2, h⟩
  · rintro ⟨h1, h2, h⟩
    refine ⟨?_, ⟨h1, h2⟩, h⟩
    rcases Nat.lt_or_ge j 64 with hj | hj
    · exact hj
    · have h64 : 2 ^ 64 ≤ 2 ^ j := Nat.pow_le_pow_right (by omega) hj
      rw [Nat.testBit_lt_two_pow (Nat.lt_of_lt_of_le hs h64)] at h; simp at h

theorem rel_eq {n : Nat} {f g : Nat → Nat} (hf : Words f) (hg : Words g) (h : ∀ i j, (f i).testBit j = true ↔ (g i).testBit j = true) : relL n f = relL n g :=
  relL_ext rfl hf hg fun i j _ _ => by rw [Bool.eq_iff_iff]; exact h i j

theorem alike_rel (n m : Nat) (f g : Nat → Nat) : alike (relL n f) (relL m g) = true := by
  unfold relL
  simp only [alike, alike1, decide_true, Bool.true_and]
  generalize List.range 64 = l
  induction l with
  | nil => rfl
  | cons a l ih => simp only [List.map_cons, alike, alike1, decide_true, Bool.true_and]; exact ih

variable {E : Env} {n : Nat}

theorem Union_S (hE : rel_Rel_Union_In E) (hn : n ≤ 64) {f g : Nat → Nat} (hf : Words f) (hg : Words g) (h : AHeap) : R E 59 [.agg (relL n f), .agg (relL n g)] h = some ([.agg (relL n (UNI n f g))], h) := by
  rw [Union_R hE hn hn hf hg, Nat.min_self]; rfl
theorem Minus_S (hE : rel_Rel_Minus_In E) (hn : n ≤ 64) {f g : Nat → Nat} (hf : Words f) (hg : Words g) (h : AHeap) : R E 68 [.agg (relL n f), .agg (relL n g)] h = some ([.agg (relL n (MIN n f g))], h) := by
  rw [Minus_R hE hn hn hf hg, Nat.min_self]; rfl
theorem Meet_S (hE : rel_Rel_Meet_In E) (hn : n ≤ 64) {f g : Nat → Nat} (hf : Words f) (hg : Words g) (h : AHeap) : R E 67 [.agg (relL n f), .agg (relL n g)] h = some ([.agg (relL n (MEE n f g))], h) := by
  rw [Meet_R hE hn hn hf hg, Nat.min_self]; rfl
theorem Then_S (hE : rel_Rel_Then_In E) (ht : TabOk E) (hn : n ≤ 64) {f g : Nat → Nat} (hf : Words f) (hg : Words g) (h : AHeap) : R E 58 [.agg (relL n f), .agg (relL n g)] h = some ([.agg (relL n (TH n f g))], h) := by
  rw [Then_R hE ht hn hn hf hg, Nat.min_self]; rfl
theorem Inverse_S (hE : rel_Rel_Inverse_In E) (ht : TabOk E) (hn : n ≤ 64) {f : Nat → Nat} (hf : Words f) (h : AHeap) : R E 40 [.agg (relL n f)] h = some ([.agg (relL n (INV n f))], h) := Inverse_R hE ht hn hf h
theorem Keep_S (hE : rel_Rel_Keep_In E) (hn : n ≤ 64) {f : Nat → Nat} (hf : Words f) {s : Nat} (hs : s < 2 ^ 64) (h : AHeap) : R E 66 [.agg (relL n f), .c (.int .u64 s)] h = some ([.agg (relL n (KEE n f s))], h) := Keep_R hE hn hf hs h

theorem HasS (hE : rel_Rel_Has_In E) (hn : n ≤ 64) {f : Nat → Nat} (hf : Words f) {a b : Nat} (ha : a < n) (hb : b < 64) (h : AHeap) : R E 3 [.agg (relL n f), .c (.int .i64 (a : Nat)), .c (.int .i64 (b : Nat))] h = some ([.c (.bool ((f a).testBit b))], h) := by
  rw [HasR_R hE hn hf]
  unfold hasR
  rw [inR_nat, Int.toNat_natCast, hasI_nat hb, show decide (a < n) = true by simp [ha], Bool.true_and]

/-- One more than what was made. -/
theorem mod_nat (a : Int) {n : Nat} (hn : 1 ≤ n) : ∃ m : Nat, m < n ∧ E.glob.rem .i64 (E.glob.band .i64 a 255) (n : Int) = (m : Int) := by
  have h1 := Int.emod_lt_of_pos (a % 256) (show (0 : Int) < n by omega)
  have h2 := Int.emod_nonneg (a % 256) (show (n : Int) ≠ 0 by omega)
  exact ⟨(a % 256 % n).toNat, by omega, by rw [g_band255, g_rem, Int.tmod_eq_emod_of_nonneg (show 0 ≤ a % 256 by omega), Int.toNat_of_nonneg h2]⟩

theorem RelThen_R (hE : jacquardlaw8_RelThen_In E) (ht : TabOk E) (a0 a4 a5 : Int) {x1 x2 x3 : Cell} {l1 l2 l3 : List (Int × Int)} {h : AHeap} (hx1 : SlAt h x1 2 (pairC l1) l1.length) (hl1 : Low h.length x1)
    (hx2 : SlAt h x2 2 (pairC l2) l2.length) (hl2 : Low h.length x2) (hx3 : SlAt h x3 2 (pairC l3) l3.length) (hl3 : Low h.length x3) :
    R E 241 [.c (.int .i64 a0), .c x1, .c x2, .c x3, .c (.int .i64 a4), .c (.int .i64 a5)] h = some ([.c (.bool true)], h) := by
  refine R_intro hE.fn ?_
  rw [jacquardlaw8_RelThen_eq]
  obtain ⟨n, hn1, hn2, hv⟩ : ∃ n : Nat, 1 ≤ n ∧ n ≤ 20 ∧ E.glob.wrap .i64 (E.glob.rem .i64 (E.glob.band .i64 a0 255) 20 + 1) = (n : Int) := by
    rw [g_band255, g_rem, Int.tmod_eq_emod_of_nonneg (by omega), g_wrap_i64 (by omega) (by omega)]
    exact ⟨(a0 % 256 % 20 + 1).toNat, by omega, by omega, by omega⟩
  have hn : n ≤ 64 := by omega
  obtain ⟨a, ha, hav⟩ := mod_nat (E := E) a4 hn1
  obtain ⟨b, hb, hbv⟩ := mod_nat (E := E) a5 hn1
  simp only [hv, hav, hbv]
  rw [if_neg (by omega), if_neg (by omega), Of_R hE.c1 (n : Int) hx1 hl1, c2_ok, asA_ok, asA_ok, clamp_nat hn]
  have hf := words_of n (l1.take 200)
  have hg := words_of n (l2.take 200)
  have hp := words_of n (l3.take 200)
  have ff := of_fit hn (l1.take 200)
  have fg := of_fit hn (l2.take 200)
  have fp := of_fit hn (l3.take 200)
  simp only [relL_len, zero_len, and_self, if_true]
  rw [Of_R hE.c1 (n : Int) hx2 hl2, c2_ok, asA_ok, asA_ok, clamp_nat hn]
  simp only [relL_len, and_self, if_true]
  rw [Of_R hE.c1 (n : Int) hx3 hl3, c2_ok, asA_ok, asA_ok, clamp_nat hn]
  simp only [relL_len, and_self, if_true]
  generalize ofR n (l1.take 200) = f at *
  generalize ofR n (l2.take 200) = g at *
  generalize ofR n (l3.take 200) = p at *
  have loop : Lim (jacquardlaw8_RelThen_F1 (R E) Lim E.glob) (jacquardlaw8_RelThen_s1 n a b ((List.range 0).any fun j => (f a).testBit j && (g j).testBit b) ((0 : Nat) : Int) (relL n f) (relL n g) (relL n p) h) = some (.exit 0, jacquardlaw8_RelThen_x1_1 a b ((List.range n).any fun j => (f a).testBit j && (g j).testBit b) (relL n f) (relL n g) (relL n p) h) := by
    refine Lim_count (fun i => jacquardlaw8_RelThen_s1 n a b ((List.range i).any fun j => (f a).testBit j && (g j).testBit b) (i : Int) (relL n f) (relL n g) (relL n p) h) 0 n (by omega) (fun i _ hi => ?_) (Lim_exit ?_)
    · rw [jacquardlaw8_RelThen_r1, if_pos (by simp; omega), if_pos ⟨rfl, relL_len _ _⟩, HasS hE.c3 hn hf ha (by omega), c1_ok, asB_ok, if_pos ⟨rfl, relL_len _ _⟩, HasS hE.c3 hn hg hi (by omega), c1_ok, asB_ok, scK_and, scK_or, g_succ (by omega), List.range_succ, List.any_append]
      simp
    · rw [jacquardlaw8_RelThen_r1, if_neg (by simp)]
  rw [show jacquardlaw8_RelThen_s1 n a b false 0 (relL n f) (relL n g) (relL n p) h = jacquardlaw8_RelThen_s1 n a b ((List.range 0).any fun j => (f a).testBit j && (g j).testBit b) ((0 : Nat) : Int) (relL n f) (relL n g) (relL n p) h from rfl, loop, bind_ok, jacquardlaw8_RelThen_e1_1]
  have w1 := w_TH n f g
  have w2 := w_TH n g p
  have w3 := w_UNI n f g
  have w4 := w_TH n f p
  have h1 : (TH n f g a).testBit b = (List.range n).any fun j => (f a).testBit j && (g j).testBit b := by
    rw [Bool.eq_iff_iff, b_TH hn]
    simp only [List.any_eq_true, List.mem_range, Bool.and_eq_true]
    constructor
    · rintro ⟨_, _, k, h1, h2⟩; exact ⟨k, h1, h2⟩
    · rintro ⟨k, h1, h2⟩; exact ⟨ha, hb, k, h1, h2⟩
  have h2 : relL n (TH n (TH n f g) p) = relL n (TH n f (TH n g p)) := by
    refine rel_eq (w_TH _ _ _) (w_TH _ _ _) fun i j => ?_
    simp only [b_TH hn]
    constructor
    · rintro ⟨q1, q2, k, q3, ⟨_, _, m, q4, q5, q6⟩, q7⟩; exact ⟨q1, q2, m, q4, q5, q4, q2, k, q3, q6, q7⟩
    · rintro ⟨q1, q2, m, q4, q5, _, _, k, q3, q6, q7⟩; exact ⟨q1, q2, k, q3, ⟨q1, q3, m, q4, q5, q6⟩, q7⟩
  have h3 : relL n (TH n (UNI n f g) p) = relL n (UNI n (TH n f p) (TH n g p)) := by
    refine rel_eq (w_TH _ _ _) (w_UNI _ _ _) fun i j => ?_
    simp only [b_TH hn, b_UNI hn]
    constructor
    · rintro ⟨q1, q2, k, q3, ⟨_, _, q4 | q4⟩, q5⟩
      · exact ⟨q1, q2, .inl ⟨q1, q2, k, q3, q4, q5⟩⟩
      · exact ⟨q1, q2, .inr ⟨q1, q2, k, q3, q4, q5⟩⟩
    · rintro ⟨q1, q2, ⟨_, _, k, q3, q4, q5⟩ | ⟨_, _, k, q3, q4, q5⟩⟩
      · exact ⟨q1, q2, k, q3, ⟨q1, q3, .inl q4⟩, q5⟩
      · exact ⟨q1, q2, k, q3, ⟨q1, q3, .inr q4⟩, q5⟩
  simp only [relL_len, and_self, if_true]
  have hb64 : b < 64 := by omega
  simp only [Then_S hE.c58 ht hn, Union_S hE.c59 hn, HasS hE.c3 hn w1 ha hb64, awake8_R hE.c55, hf, hg, hp, w_TH, w_UNI, qh_ok, c1_ok, asA_ok, asB_ok, bind_ok, scK_ok, zero_rel, alike_rel, h1, h2, h3, beq_self_eq_true, and_self, if_true, decide_true]

theorem RelThen_law (ht : TabOk E) (hE : jacquardlaw8_RelThen_In E) {h : AHeap} {c0 c1 c2 c3 c4 c5 : List Cell} (o0 : okC h (.i .i64) c0) (o1 : okC h (.sl shPair) c1) (o2 : okC h (.sl shPair) c2) (o3 : okC h (.sl shPair) c3) (o4 : okC h (.i .i64) c4) (o5 : okC h (.i .i64) c5) :
    ∃ h', R E 241 [av1 (.i .i64) c0, av1 (.sl shPair) c1, av1 (.sl shPair) c2, av1 (.sl shPair) c3, av1 (.i .i64) c4, av1 (.i .i64) c5] h = some ([.c (.bool true)], h') := by
  obtain ⟨a0, e0, _⟩ := arg_int o0
  obtain ⟨x1, l1, e1, hx1, hl1, _⟩ := arg_pairs o1
  obtain ⟨x2, l2, e2, hx2, hl2, _⟩ := arg_pairs o2
  obtain ⟨x3, l3, e3, hx3, hl3, _⟩ := arg_pairs o3
  obtain ⟨a4, e4, _⟩ := arg_int o4
  obtain ⟨a5, e5, _⟩ := arg_int o5
  rw [e0, e1, e2, e3, e4, e5]
  exact ⟨h, RelThen_R hE ht a0 a4 a5 hx1 hl1 hx2 hl2 hx3 hl3⟩

end Jq

/- A relation's pairs, told rising. -/
namespace Jq
open Go

/-- The pairs of one row. -/
def rowP (f : Nat → Nat) (i : Nat) : List (Int × Int) := (bitsL (f i)).map fun (k : Nat) => ((i : Int), (k : Int))

/-- All pairs. -/
def pairsP (n : Nat) (f : Nat → Nat) : List (Int × Int) := (List.range n).flatMap (rowP f)

theorem pairsP_succ (n : Nat) (f : Nat → Nat) : pairsP (n + 1) f = pairsP n f ++ rowP f n := by
  unfold pairsP; rw [List.range_succ, List.flatMap_append]; simp

theorem bits_len (s : Nat) : (bitsL s).length ≤ 64 := by unfold bitsL; exact Nat.le_trans (List.length_filter_le _ _) (by simp)

theorem pairsP_len (f : Nat → Nat) : ∀ n, (pairsP n f).length ≤ n * 64
  | 0 => by simp [pairsP]
  | n + 1 => by
    have := pairsP_len f n
    have := bits_len (f n)
    rw [pairsP_succ, List.length_append]
    simp only [rowP, List.length_map]; omega

theorem mem_pairsP {n : Nat} {f : Nat → Nat} {p : Int × Int} : p ∈ pairsP n f ↔ ∃ i k : Nat, i < n ∧ k < 64 ∧ (f i).testBit k = true ∧ p = ((i : Int), (k : Int)) := by
  unfold pairsP rowP
  simp only [List.mem_flatMap, List.mem_range, List.mem_map, mem_bitsL]
  constructor
  · rintro ⟨i, hi, k, ⟨hk, hb⟩, rfl⟩; exact ⟨i, k, hi, hk, hb, rfl⟩
  · rintro ⟨i, k, hi, hk, hb, rfl⟩; exact ⟨i, hi, k, ⟨hk, hb⟩, rfl⟩

theorem Own.keep {n : Nat} {h h' : AHeap} {x : Cell} {esz len : Nat} {cs : List Cell} (o : Own n h x esz cs len) (a : Kp h.length h h') : Own n h' x esz cs len := by
  refine ⟨o.1, o.2.imp id ?_⟩
  rintro ⟨k, rfl, hk, hb⟩
  exact ⟨k, rfl, hk, by rw [a.blk (blk_lt' hb)]; exact hb⟩

/-- Two rows lie apart. -/
def ApartB (x y : Cell) : Prop := ∀ k, isBlk y k → ¬ isBlk x k

theorem Own.keep_app {m : Nat} {h h' : AHeap} {x x' y : Cell} {esz len : Nat} {cs : List Cell} (o : Own m h y esz cs len) (ha : ApartB x y) (hk : ∀ j b, blk? h j = some b → ¬ isBlk x j → blk? h' j = some b ∧ ¬ isBlk x' j) : Own m h' y esz cs len ∧ ApartB x' y := by
  rcases o.2 with ⟨rfl, hz⟩ | ⟨k, rfl, hkm, hb⟩
  · exact ⟨⟨o.1, .inl ⟨rfl, hz⟩⟩, fun k hk => by cases hk⟩
  · obtain ⟨h1, h2⟩ := hk k _ hb (ha k rfl)
    refine ⟨⟨o.1, .inr ⟨k, rfl, hkm, h1⟩⟩, fun j hj => ?_⟩
    have : k = j := hj
    subst this; exact h2

theorem Own.apart {n m : Nat} {h : AHeap} {x y : Cell} {e1 e2 l1 l2 : Nat} {c1 c2 : List Cell} (o : Own n h x e1 c1 l1) (hm : h.length ≤ m) {h' : AHeap} (o2 : Own m h' y e2 c2 l2) : ApartB x y := by
  intro k hk hx
  rcases o.2 with ⟨rfl, _⟩ | ⟨k1, rfl, _, hb⟩
  · cases hx
  · rcases o2.2 with ⟨rfl, _⟩ | ⟨k2, rfl, hk2, _⟩
    · cases hk
    · have e1 : k1 = k := hx
      have e2 : k2 = k := hk
      have := blk_lt' hb
      omega

variable {E : Env}

theorem two_cells' (a b : Int) : splice [Cell.int .i64 0, Cell.int .i64 0] 0 (splice (splice [Cell.int .i64 0, Cell.int .i64 0] 0 [.int .i64 a]) 1 [.int .i64 b]) = [.int .i64 a, .int .i64 b] := rfl

theorem Pairs_R (hE : rel_Rel_Pairs_In E) (ht : TabOk E) {n : Nat} (hn : n ≤ 64) {f : Nat → Nat} (hf : Words f) (h : AHeap) :
    ∃ x h', R E 20 [.agg (relL n f)] h = some ([.c x], h') ∧ Own h.length h' x 2 (pairC (pairsP n f)) (pairsP n f).length ∧ Kp h.length h h' := by
  suffices hs' : ∃ x h', rel_Rel_Pairs.body (R E) Lim E.glob [.agg (relL n f)] h = some ([.c x], h') ∧ Own h.length h' x 2 (pairC (pairsP n f)) (pairsP n f).length ∧ Kp h.length h h' by
    obtain ⟨x, h', hh, hr⟩ := hs'; exact ⟨x, h', R_intro hE.fn hh, hr⟩
  obtain ⟨st, ⟨x, h', rfl, ho, hk⟩, hlim⟩ := Lim_inv (F := rel_Rel_Pairs_F2 (R E) Lim E.glob)
    (fun i st => ∃ x h', st = rel_Rel_Pairs_s2 x n (i : Int) (relL n f) h' ∧ Own h.length h' x 2 (pairC (pairsP i f)) (pairsP i f).length ∧ Kp h.length h h') 0 n (by omega)
    (fun i st _ hi hI => by
      obtain ⟨x, h1, rfl, ho, hk⟩ := hI
      have q1 : 0 ≤ (i : Int) ∧ (i : Int) < ((64 : Nat) : Int) := by omega
      obtain ⟨y, h2, hL, hoy, hky⟩ := List_R hE.c32 ht (hf i) h1
      have hpl := pairsP_len f i
      have hbl := bits_len (f i)
      have hnn : i * 64 ≤ 64 * 64 := Nat.mul_le_mul_right _ (by omega)
      obtain ⟨st2, ⟨x3, h3, rfl, ho3, hy3, hap3, hk3⟩, hlim2⟩ := Lim_inv (F := rel_Rel_Pairs_F1 (R E) Lim E.glob)
        (fun j st => ∃ x h', st = rel_Rel_Pairs_s1 x i n i y (bitsL (f i)).length (j : Int) (relL n f) h' ∧ Own h.length h' x 2 (pairC (pairsP i f ++ (rowP f i).take j)) (pairsP i f ++ (rowP f i).take j).length ∧ Own h1.length h' y 1 (natC (bitsL (f i))) (bitsL (f i)).length ∧ ApartB x y ∧ Kp h.length h h') 0 (bitsL (f i)).length (by omega)
        (fun j st _ hj hI => by
          obtain ⟨x, h', rfl, ho, hoy, hap, hk⟩ := hI
          obtain ⟨m, hm⟩ : ∃ m, (bitsL (f i))[j]? = some m := ⟨(bitsL (f i))[j], by simp⟩
          have hlen : (pairsP i f ++ (rowP f i).take j).length ≤ 64 * 64 + 64 := by
            rw [List.length_append, List.length_take]; omega
          obtain ⟨x', h'', ha, ho', hk', hfr⟩ := ho.app (xs := [.int .i64 (i : Int), .int .i64 (m : Int)]) (bytes := 16) hk.1 rfl (by omega) (by unfold maxBytes; omega) (by unfold maxBytes; omega)
          obtain ⟨hoy', hap'⟩ := hoy.keep_app hap hfr
          have htk : (rowP f i).take (j + 1) = (rowP f i).take j ++ [((i : Int), (m : Int))] := by
            rw [List.take_add_one]; unfold rowP; rw [List.getElem?_map, hm]; rfl
          refine ⟨rel_Rel_Pairs_s1 x' i n i y (bitsL (f i)).length ((j + 1 : Nat) : Int) (relL n f) h'', ?_, x', h'', rfl, ?_, hoy', hap', hk.trans hk'⟩
          · rw [rel_Rel_Pairs_r1, if_pos (by simp; omega), hoy.at.get1 hj (natC_get hm), asI_ok, if_pos ⟨rfl, by simp⟩, two_cells', if_pos (show (List.length [_, _] : Nat) = 1 * 2 from rfl), ha, g_succ (by omega)]
          · rw [htk, ← List.append_assoc, pairC_snoc, List.length_append]; exact ho')
        (st := rel_Rel_Pairs_s1 x i n i y (bitsL (f i)).length 0 (relL n f) h2)
        ⟨x, h2, rfl, by rw [List.take_zero, List.append_nil]; exact ho.keep hky, hoy, ho.apart (Nat.le_refl _) hoy, hk.trans (hky.mono hk.1)⟩
      have hend : rel_Rel_Pairs_F1 (R E) Lim E.glob (rel_Rel_Pairs_s1 x3 i n i y (bitsL (f i)).length ((bitsL (f i)).length : Nat) (relL n f) h3) = some (.exit 2, rel_Rel_Pairs_x1_3 x3 n i (relL n f) h3) := by
        rw [rel_Rel_Pairs_r1, if_neg (by simp)]
      have hrl : (rowP f i).take (bitsL (f i)).length = rowP f i := List.take_of_length_le (by unfold rowP; simp)
      rw [hrl, ← pairsP_succ] at ho3
      refine ⟨rel_Rel_Pairs_s2 x3 n ((i + 1 : Nat) : Int) (relL n f) h3, ?_, x3, h3, rfl, ho3, hk3⟩
      rw [rel_Rel_Pairs_r2, if_pos (by simp; omega), if_pos q1, Int.toNat_natCast, Nat.mul_one, atK_ok (relL_row (by omega)), asI_ok, hL, c1_ok, asC_ok, hoy.at.len, hlim2 _ (Lim_exit hend), bind_ok, rel_Rel_Pairs_e1_3, g_succ (by omega)])
    (st := rel_Rel_Pairs_s2 .nils n 0 (relL n f) h) ⟨.nils, h, rfl, by exact Own.nil _ _ _, Kp.refl _ _⟩
  have hend : rel_Rel_Pairs_F2 (R E) Lim E.glob (rel_Rel_Pairs_s2 x n (n : Int) (relL n f) h') = some (.exit 0, rel_Rel_Pairs_x2_1 x h') := by
    rw [rel_Rel_Pairs_r2, if_neg (by simp)]
  refine ⟨x, h', ?_, ho, hk⟩
  rw [rel_Rel_Pairs_eq, atK_ok (relL_zero _ _), asI_ok, hlim _ (Lim_exit hend), bind_ok, rel_Rel_Pairs_e2_1]

end Jq

/- RelPairs: the pairs are the ones had, in order, no more; the relation of its pairs is itself. -/
namespace Jq
open Go

/-- A row's pairs below j. -/
def rowU (f : Nat → Nat) (i j : Nat) : List (Int × Int) := ((List.range j).filter fun k => (f i).testBit k).map fun (k : Nat) => ((i : Int), (k : Int))

theorem rowU_succ (f : Nat → Nat) (i j : Nat) : rowU f i (j + 1) = rowU f i j ++ if (f i).testBit j then [((i : Int), (j : Int))] else [] := by
  unfold rowU
  rw [List.range_succ, List.filter_append, List.map_append]
  congr 1
  by_cases hb : (f i).testBit j = true
  · simp [hb]
  · simp [hb]

theorem rowU_pre (f : Nat → Nat) (i j : Nat) : ∀ d, rowU f i j <+: rowU f i (j + d)
  | 0 => List.prefix_refl _
  | d + 1 => (rowU_pre f i j d).trans (by rw [← Nat.add_assoc, rowU_succ]; exact List.prefix_append _ _)

theorem pairsP_pre (f : Nat → Nat) (i : Nat) : ∀ d, pairsP i f <+: pairsP (i + d) f
  | 0 => List.prefix_refl _
  | d + 1 => (pairsP_pre f i d).trans (by rw [← Nat.add_assoc, pairsP_succ]; exact List.prefix_append _ _)

theorem pairsP_at {n : Nat} {f : Nat → Nat} {i j : Nat} (hi : i < n) (hj : j < 64) (hb : (f i).testBit j = true) : (pairsP n f)[(pairsP i f ++ rowU f i j).length]? = some ((i : Int), (j : Int)) := by
  obtain ⟨t1, h1⟩ := pairsP_pre f (i + 1) (n - (i + 1))
  rw [show i + 1 + (n - (i + 1)) = n by omega] at h1
  obtain ⟨t2, h2⟩ := rowU_pre f i (j + 1) (64 - (j + 1))
  rw [show j + 1 + (64 - (j + 1)) = 64 by omega, rowU_succ, if_pos hb] at h2
  have h3 : rowP f i = rowU f i 64 := rfl
  rw [← h1, pairsP_succ, h3, ← h2]
  simp only [← List.append_assoc]
  rw [List.append_assoc, List.append_assoc, List.getElem?_append_right (Nat.le_refl _), Nat.sub_self]
  rfl

theorem rowU_fit {n : Nat} {f : Nat → Nat} (ff : Fit n f) (i : Nat) : ∀ d, rowU f i (n + d) = rowU f i n
  | 0 => rfl
  | d + 1 => by
    rw [← Nat.add_assoc, rowU_succ, rowU_fit ff i d, if_neg, List.append_nil]
    intro hb
    have := (ff _ _ hb).2
    omega

theorem rowU_all {n : Nat} (hn : n ≤ 64) {f : Nat → Nat} (ff : Fit n f) (i : Nat) : rowU f i n = rowP f i := by
  rw [← rowU_fit ff i (64 - n), show n + (64 - n) = 64 by omega]; rfl

theorem bit01 (x i : Nat) : x >>> i &&& 1 = if x.testBit i then 1 else 0 := by
  have : x.testBit i = (1 &&& (x >>> i) != 0) := rfl
  rw [this, Nat.and_comm, Nat.and_comm 1, Nat.and_one_is_mod]
  rcases Nat.mod_two_eq_zero_or_one (x >>> i) with h | h <;> simp [h]

section
variable {E : Env}
theorem shr_le (x i : Nat) : x >>> i ≤ x := by rw [Nat.shiftRight_eq_div_pow]; exact Nat.div_le_self _ _
theorem g_bitI {x i : Nat} (hx : x < 2 ^ 64) (hi : i ≤ 64) : E.glob.band .u64 (E.glob.shr .u64 (x : Int) (i : Int)) 1 = (((if x.testBit i then 1 else 0 : Nat)) : Int) := by
  rw [g_shr hi, show (1 : Int) = ((1 : Nat) : Int) from rfl, g_band (Nat.lt_of_le_of_lt (shr_le x i) hx) (by omega), bit01]
theorem g_bit1 {x i : Nat} (hx : x < 2 ^ 64) (hi : i ≤ 64) : (E.glob.band .u64 (E.glob.shr .u64 (x : Int) (i : Int)) 1 == 1) = x.testBit i := by
  rw [g_bitI hx hi]; cases x.testBit i <;> rfl
theorem g_bit0 {x i : Nat} (hx : x < 2 ^ 64) (hi : i ≤ 64) : (E.glob.band .u64 (E.glob.shr .u64 (x : Int) (i : Int)) 1 == 0) = !x.testBit i := by
  rw [g_bitI hx hi]; cases x.testBit i <;> rfl

theorem refHas_R (hE : jacquardref6_Rel_Has_In E) {n : Nat} {f : Nat → Nat} (hf : Words f) {a b : Nat} (ha : a < 64) (hb : b ≤ 64) {k : Nat} {o : Bool} {h : AHeap} (hk : blk? h k = some ⟨o, 0, relL n f⟩) :
    R E 7 [.c (.ptr k 65 0), .c (.int .i64 (a : Nat)), .c (.int .i64 (b : Nat))] h = some ([.c (.bool ((f a).testBit b))], h) := by
  refine R_intro hE.fn ?_
  have q1 : 0 ≤ (a : Int) ∧ (a : Int) < ((64 : Nat) : Int) := by omega
  rw [jacquardref6_Rel_Has_eq, if_pos q1, rdH_ok hk (relL_len n f)]
  dsimp only
  rw [Int.toNat_natCast, show 0 + 1 + a * 1 = 1 + a by omega, atK_ok (relL_row ha), asI_ok, if_neg (by omega), g_bit1 (hf a) hb]
end

theorem SlAt.getP {h hh : AHeap} {x : Cell} {l : List (Int × Int)} (s : SlAt h x 2 (pairC l) l.length) {i : Nat} {p : Int × Int} (hi : l[i]? = some p) {a b : Int} :
    (idxSK 2 x (i : Int) fun k N o => rdH h k N fun l => if o + 2 ≤ l.length then if alike ((l.drop o).take 2) ([Cell.int .i64 0, Cell.int .i64 0]) = true ∧ alike (splice (splice [Cell.int .i64 0, Cell.int .i64 0] 0 ([(.int .i64 a)] : List Cell)) 1 ([(.int .i64 b)] : List Cell)) ([Cell.int .i64 0, Cell.int .i64 0]) = true then
      some ((!(decide (((l.drop o).take 2) = (splice (splice [Cell.int .i64 0, Cell.int .i64 0] 0 ([(.int .i64 a)] : List Cell)) 1 ([(.int .i64 b)] : List Cell))))), hh) else none else none) = some (!(decide (p = (a, b))), hh) := by
  have hlt : i < l.length := by
    rcases Nat.lt_or_ge i l.length with h1 | h1
    · exact h1
    · rw [List.getElem?_eq_none h1] at hi; cases hi
  refine (s.getN hlt (f := fun t => if alike t ([Cell.int .i64 0, Cell.int .i64 0]) = true ∧ alike (splice (splice [Cell.int .i64 0, Cell.int .i64 0] 0 ([(.int .i64 a)] : List Cell)) 1 ([(.int .i64 b)] : List Cell)) ([Cell.int .i64 0, Cell.int .i64 0]) = true then
      some ((!(decide (t = (splice (splice [Cell.int .i64 0, Cell.int .i64 0] 0 ([(.int .i64 a)] : List Cell)) 1 ([(.int .i64 b)] : List Cell))))), hh) else none)).trans ?_
  have e : ((pairC l).drop (i * 2)).take 2 = [.int .i64 p.1, .int .i64 p.2] := by
    obtain ⟨g1, g2⟩ := pairC_get l i p hi
    refine List.ext_getElem? fun j => ?_
    rw [List.getElem?_take, List.getElem?_drop]
    match j with
    | 0 => rw [if_pos (by omega), g1]; rfl
    | 1 => rw [if_pos (by omega), g2]; rfl
    | j + 2 => rw [if_neg (by omega)]; rfl
  have e2 : splice (splice [Cell.int .i64 0, Cell.int .i64 0] 0 ([(.int .i64 a)] : List Cell)) 1 ([(.int .i64 b)] : List Cell) = [.int .i64 a, .int .i64 b] := rfl
  rw [e, e2, if_pos ⟨rfl, rfl⟩]
  congr 3
  rw [decide_eq_decide]
  obtain ⟨c, d⟩ := p
  simp

theorem rel_pairs {n : Nat} (hn : n ≤ 64) {f : Nat → Nat} (hf : Words f) (ff : Fit n f) : relL n (ofR n (pairsP n f)) = relL n f := rel_eq (words_of _ _) hf fun i j => by
  rw [of_bit hn]
  constructor
  · rintro ⟨p, hp, _, _, h1, h2⟩
    obtain ⟨a, b, _, _, hb, rfl⟩ := mem_pairsP.1 hp
    have e1 : a = i := Int.ofNat.inj h1
    have e2 : b = j := Int.ofNat.inj h2
    rw [← e1, ← e2]; exact hb
  · intro hb
    obtain ⟨h1, h2⟩ := ff _ _ hb
    exact ⟨_, mem_pairsP.2 ⟨i, j, h1, by omega, hb, rfl⟩, by rw [inR_nat]; simpa using h1, by rw [inR_nat]; simpa using h2, rfl, rfl⟩

variable {E : Env}

theorem RelPairs_R (hE : jacquardlaw8_RelPairs_In E) (ht : TabOk E) (a0 : Int) {x1 : Cell} {l1 : List (Int × Int)} {h : AHeap} (hx1 : SlAt h x1 2 (pairC l1) l1.length) (hl1 : Low h.length x1) :
    R E 240 [.c (.int .i64 a0), .c x1] h = some ([.c (.bool true)], h) := by
  refine R_intro hE.fn ?_
  rw [jacquardlaw8_RelPairs_eq]
  have hn : clamp a0 ≤ 64 := by unfold clamp; omega
  have hv : (if 64 < (if 0 > a0 then 0 else a0) then 64 else (if 0 > a0 then 0 else a0)) = ((clamp a0 : Nat) : Int) := by unfold clamp; split <;> split <;> omega
  simp only [hv]
  generalize clamp a0 = n at hn
  rw [Of_R hE.c1 (n : Int) hx1 hl1, c2_ok, asA_ok, asA_ok, clamp_nat hn]
  have hf := words_of n (l1.take 200)
  have ff := of_fit hn (l1.take 200)
  simp only [relL_len, zero_len, and_self, if_true]
  generalize ofR n (l1.take 200) = f at *
  rw [rdH_ok (blk_new h _) zero_len]
  dsimp only
  rw [if_pos ⟨by trivial, zero_len, by trivial⟩, putH_ok (blk_new h _) rfl, setBlk_last]
  dsimp only
  obtain ⟨x, h2, hP, hx, hk⟩ := Pairs_R hE.c20 ht hn hf (h ++ [some ⟨true, 0, relL n f⟩])
  rw [hP, c1_ok, asC_ok]
  have hk2 : blk? h2 h.length = some ⟨true, 0, relL n f⟩ := by rw [hk.blk (by simp)]; exact blk_new _ _
  have hK : Kp h.length h h2 := (Kp.app _ (Nat.le_refl _)).trans (hk.mono (by simp))
  have hlen : ∀ i j, i < n → j ≤ n → (pairsP i f ++ rowU f i j).length ≤ 64 * 64 + 64 := by
    intro i j hi hj
    have h1 := pairsP_len f i
    have h2 : (rowU f i j).length ≤ j := by unfold rowU; rw [List.length_map]; exact Nat.le_trans (List.length_filter_le _ _) (by simp)
    rw [List.length_append]
    omega
  have outer : Lim (jacquardlaw8_RelPairs_F2 (R E) Lim E.glob) (jacquardlaw8_RelPairs_s2 n h.length 65 0 x ((pairsP 0 f).length : Nat) ((0 : Nat) : Int) (relL n f) h2) = some (.exit 0, jacquardlaw8_RelPairs_x2_1 n x ((pairsP n f).length : Nat) (relL n f) h2) := by
    refine Lim_count (fun i => jacquardlaw8_RelPairs_s2 n h.length 65 0 x ((pairsP i f).length : Nat) (i : Int) (relL n f) h2) 0 n (by omega) (fun i _ hi => ?_) (Lim_exit ?_)
    · have inner : Lim (jacquardlaw8_RelPairs_F1 (R E) Lim E.glob) (jacquardlaw8_RelPairs_s1 n h.length 65 0 x ((pairsP i f ++ rowU f i 0).length : Nat) i ((0 : Nat) : Int) (relL n f) h2) = some (.exit 2, jacquardlaw8_RelPairs_x1_3 n h.length 65 0 x ((pairsP i f ++ rowU f i n).length : Nat) i (relL n f) h2) := by
        refine Lim_count (fun j => jacquardlaw8_RelPairs_s1 n h.length 65 0 x ((pairsP i f ++ rowU f i j).length : Nat) i (j : Int) (relL n f) h2) 0 n (by omega) (fun j _ hj => ?_) (Lim_exit ?_)
        · rw [jacquardlaw8_RelPairs_r1, if_pos (by simp; omega), if_pos ⟨rfl, relL_len _ _⟩, HasS hE.c3 hn hf hi (by omega), c1_ok, asB_ok, refHas_R hE.c7 hf (by omega) (by omega) hk2, c1_ok, asB_ok, refHas_R hE.c7 hf (by omega) (by omega) hk2, c1_ok, asB_ok, beq_self_eq_true, if_neg (by simp), g_succ (by omega)]
          cases hb : (f i).testBit j with
          | false =>
            rw [if_pos (by simp), rowU_succ, hb]
            simp
          | true =>
            have hp := pairsP_at hi (show j < 64 by omega) hb
            have hlt : (pairsP i f ++ rowU f i j).length < (pairsP n f).length := by
              rcases Nat.lt_or_ge (pairsP i f ++ rowU f i j).length (pairsP n f).length with h1 | h1
              · exact h1
              · rw [List.getElem?_eq_none h1] at hp; cases hp
            have hle := hlen i j hi (by omega)
            rw [if_neg (by simp), hx.at.len, show decide ((((pairsP i f ++ rowU f i j).length : Nat) : Int) ≥ (((pairsP n f).length : Nat) : Int)) = false from decide_eq_false (fun q => absurd (Int.ofNat_le.1 q) (Nat.not_le.2 hlt)), scK_ok, hx.at.getP hp, bind_ok]
            dsimp only
            rw [if_neg (by simp), g_succ (by omega), rowU_succ, hb, if_pos rfl, ← List.append_assoc, List.length_append (bs := [_])]
            rfl
        · rw [jacquardlaw8_RelPairs_r1, if_neg (by simp)]
      rw [show pairsP i f ++ rowU f i 0 = pairsP i f from List.append_nil _, rowU_all hn ff, ← pairsP_succ] at inner
      rw [jacquardlaw8_RelPairs_r2, if_pos (by simp; omega), show (0 : Int) = ((0 : Nat) : Int) from rfl, inner, bind_ok, jacquardlaw8_RelPairs_e1_3, g_succ (by omega)]
    · rw [jacquardlaw8_RelPairs_r2, if_neg (by simp)]
  rw [show jacquardlaw8_RelPairs_s2 n h.length 65 0 x 0 0 (relL n f) h2 = jacquardlaw8_RelPairs_s2 n h.length 65 0 x ((pairsP 0 f).length : Nat) ((0 : Nat) : Int) (relL n f) h2 from rfl, outer, bind_ok, jacquardlaw8_RelPairs_e2_1, Of_R hE.c1 (n : Int) hx.at hx.low, c2_ok, asA_ok, asA_ok, clamp_nat hn]
  simp only [relL_len, zero_len, and_self, if_true]
  rw [hx.at.len, beq_self_eq_true, scK_ok]
  have e1 : (scK (decide ((((pairsP n f).length : Nat) : Int) > 200)) false (if alike (relL n (ofR n ((pairsP n f).take 200))) ([Cell.int .i64 0] ++ List.replicate 64 (Cell.int .u64 0)) = true ∧ alike (relL n f) ([Cell.int .i64 0] ++ List.replicate 64 (Cell.int .u64 0)) = true then some ((decide (relL n (ofR n ((pairsP n f).take 200)) = relL n f)), h2) else none) true h2 fun b h => some (b, h)) = some (true, h2) := by
    by_cases hl : (pairsP n f).length ≤ 200
    · rw [show decide ((((pairsP n f).length : Nat) : Int) > 200) = false by simp; omega, scK_ok, List.take_of_length_le hl, rel_pairs hn hf ff, zero_rel]
      simp only [alike_rel, and_self, if_true, decide_true]
      rfl
    · rw [show decide ((((pairsP n f).length : Nat) : Int) > 200) = true by simp; omega, scK_tf]
  rw [e1, bind_ok]
  dsimp only
  have b1 : hasR n f (-1) 0 = false := by unfold hasR inR; simp
  have b2 : hasR n f 0 64 = false := by unfold hasR hasI; simp
  have b3 : inR n (-1) = false := by unfold inR; simp
  have b4 : inR n 64 = false := by unfold inR; simp; omega
  simp only [relL_len, HasR_R hE.c3 hn hf, Row_R hE.c41 hn, awake8_R hE.c55, c1_ok, asI_ok, asB_ok, and_self, if_true, bind_ok, scK_ok, b1, b2, b3, b4, Bool.not_false, Bool.false_eq_true, if_false]
  exact finish_gc hK (by simp [avOk, AV.cells, idOk])

theorem RelPairs_law (ht : TabOk E) (hE : jacquardlaw8_RelPairs_In E) {h : AHeap} {c0 c1 : List Cell} (o0 : okC h (.i .i64) c0) (o1 : okC h (.sl shPair) c1) :
    ∃ h', R E 240 [av1 (.i .i64) c0, av1 (.sl shPair) c1] h = some ([.c (.bool true)], h') := by
  obtain ⟨a0, e0, _⟩ := arg_int o0
  obtain ⟨x1, l1, e1, hx1, hl1, _⟩ := arg_pairs o1
  rw [e0, e1]
  exact ⟨h, RelPairs_R hE ht a0 hx1 hl1⟩

end Jq

/- RelAlgebra: joining and meeting are the same both ways; turned twice a relation is itself; closed twice it is closed. -/
namespace Jq
open Go

theorem clK_ge {n : Nat} {f : Nat → Nat} {a : Nat} (ha : n ≤ a) : ∀ k, clK n f k a = f a
  | 0 => rfl
  | k + 1 => by rw [clK, cl1_eq, if_neg (by omega), clK_ge ha k]

theorem clK_bit {n : Nat} {f : Nat → Nat} (ff : Fit n f) (a b : Nat) : (clK n f n a).testBit b = true ↔ Way f n a b := by
  rcases Nat.lt_or_ge a n with ha | ha
  · exact clK_way n f n (Nat.le_refl _) a b ha
  · rw [clK_ge ha]
    constructor
    · exact fun h => .one h
    · intro w
      have : a < n := by
        cases w with
        | one h => exact (ff _ _ h).1
        | step h _ _ => exact (ff _ _ h).1
      omega

theorem way_fit {n : Nat} {f : Nat → Nat} (ff : Fit n f) {a b : Nat} (w : Way f n a b) : a < n ∧ b < n := by
  induction w with
  | one h => exact ff _ _ h
  | step h _ _ ih => exact ⟨(ff _ _ h).1, ih.2⟩

theorem clK_fit {n : Nat} {f : Nat → Nat} (ff : Fit n f) : Fit n (clK n f n) := fun a b h => way_fit ff ((clK_bit ff a b).1 h)

theorem way_way {n : Nat} {f : Nat → Nat} (ff : Fit n f) {a b : Nat} : Way (clK n f n) n a b ↔ Way f n a b := by
  constructor
  · intro w
    induction w with
    | one h => exact (clK_bit ff _ _).1 h
    | step h hc _ ih => exact ((clK_bit ff _ _).1 h).trans hc ih
  · intro w; exact .one ((clK_bit ff _ _).2 w)

variable {E : Env}

theorem clamp_eq (a : Int) : (if 64 < (if 0 > a then 0 else a) then 64 else (if 0 > a then 0 else a)) = ((clamp a : Nat) : Int) := by
  unfold clamp; split <;> split <;> omega
theorem clamp_le (a : Int) : clamp a ≤ 64 := by unfold clamp; omega

theorem RelAlgebra_R (hE : jacquardlaw8_RelAlgebra_In E) (ht : TabOk E) (a0 : Int) {x1 x2 : Cell} {l1 l2 : List (Int × Int)} {h : AHeap} (hx1 : SlAt h x1 2 (pairC l1) l1.length) (hl1 : Low h.length x1)
    (hx2 : SlAt h x2 2 (pairC l2) l2.length) (hl2 : Low h.length x2) : R E 243 [.c (.int .i64 a0), .c x1, .c x2] h = some ([.c (.bool true)], h) := by
  refine R_intro hE.fn ?_
  rw [jacquardlaw8_RelAlgebra_eq]
  have hn := clamp_le a0
  simp only [clamp_eq]
  generalize clamp a0 = n at hn
  rw [Of_R hE.c1 (n : Int) hx1 hl1, c2_ok, asA_ok, asA_ok, clamp_nat hn]
  have hf := words_of n (l1.take 200)
  have hg := words_of n (l2.take 200)
  have ff := of_fit hn (l1.take 200)
  have fg := of_fit hn (l2.take 200)
  simp only [relL_len, zero_len, and_self, if_true]
  rw [Of_R hE.c1 (n : Int) hx2 hl2, c2_ok, asA_ok, asA_ok, clamp_nat hn]
  simp only [relL_len, and_self, if_true]
  generalize ofR n (l1.take 200) = f at *
  generalize ofR n (l2.take 200) = g at *
  have hc := words_clK hf n n
  have fc := clK_fit ff
  have e1 : relL n (UNI n f g) = relL n (UNI n g f) := rel_eq (w_UNI _ _ _) (w_UNI _ _ _) fun i j => by simp only [b_UNI hn]; constructor <;> (rintro ⟨q1, q2, q⟩; exact ⟨q1, q2, q.symm⟩)
  have e2 : relL n (MEE n f g) = relL n (MEE n g f) := rel_eq (w_MEE _ _ _) (w_MEE _ _ _) fun i j => by simp only [b_MEE hn]; constructor <;> (rintro ⟨q1, q2, q⟩; exact ⟨q1, q2, q.symm⟩)
  have e3 : relL n (INV n (INV n f)) = relL n f := rel_eq (w_INV _ _) hf fun i j => by
    simp only [b_INV hn]
    exact ⟨fun q => q.2.2, fun q => ⟨(ff _ _ q).2, (ff _ _ q).1, q⟩⟩
  have e4 : relL n (clK n (clK n f n) n) = relL n (clK n f n) := rel_eq (words_clK hc n n) hc fun i j => by
    rw [clK_bit fc, clK_bit ff, way_way ff]
  have e5 : relL n (INV n (TH n f g)) = relL n (TH n (INV n g) (INV n f)) := rel_eq (w_INV _ _) (w_TH _ _ _) fun i j => by
    simp only [b_INV hn, b_TH hn]
    constructor
    · rintro ⟨q1, _, q2, k, q3, q4, q5⟩; exact ⟨q2, q1, k, q3, ⟨q3, q5⟩, q1, q4⟩
    · rintro ⟨q2, q1, k, q3, ⟨_, q5⟩, _, q4⟩; exact ⟨q1, q1, q2, k, q3, q4, q5⟩
  have e6 : relL n (UNI n (MIN n f g) (MEE n f g)) = relL n f := rel_eq (w_UNI _ _ _) hf fun i j => by
    simp only [b_UNI hn, b_MIN hn, b_MEE hn]
    constructor
    · rintro ⟨_, _, ⟨_, _, q, _⟩ | ⟨_, _, q, _⟩⟩ <;> exact q
    · intro q
      obtain ⟨q1, q2⟩ := ff _ _ q
      by_cases hgb : (g i).testBit j = true
      · exact ⟨q1, q2, .inr ⟨q1, q2, q, hgb⟩⟩
      · exact ⟨q1, q2, .inl ⟨q1, q2, q, hgb⟩⟩
  have e6' : relL n (UNI n (MIN n f g) (MEE n g f)) = relL n f := rel_eq (w_UNI _ _ _) hf fun i j => by
    simp only [b_UNI hn, b_MIN hn, b_MEE hn]
    constructor
    · rintro ⟨_, _, ⟨_, _, q, _⟩ | ⟨_, _, _, q⟩⟩ <;> exact q
    · intro q
      obtain ⟨q1, q2⟩ := ff _ _ q
      by_cases hgb : (g i).testBit j = true
      · exact ⟨q1, q2, .inr ⟨q1, q2, hgb, q⟩⟩
      · exact ⟨q1, q2, .inl ⟨q1, q2, q, hgb⟩⟩
  have e7 : relL n (UNI n (TH n (clK n f n) (clK n f n)) (clK n f n)) = relL n (clK n f n) := rel_eq (w_UNI _ _ _) hc fun i j => by
    simp only [b_UNI hn, b_TH hn]
    constructor
    · rintro ⟨_, _, ⟨_, _, k, q3, q4, q5⟩ | q⟩
      · exact (clK_bit ff _ _).2 (((clK_bit ff _ _).1 q4).trans q3 ((clK_bit ff _ _).1 q5))
      · exact q
    · intro q
      exact ⟨(fc _ _ q).1, (fc _ _ q).2, .inr q⟩
  have e8 : relL n (UNI n f (clK n f n)) = relL n (clK n f n) := rel_eq (w_UNI _ _ _) hc fun i j => by
    simp only [b_UNI hn]
    constructor
    · rintro ⟨_, _, q | q⟩
      · exact (clK_bit ff _ _).2 (.one q)
      · exact q
    · intro q
      exact ⟨(fc _ _ q).1, (fc _ _ q).2, .inr q⟩
  have e9 : relL n (UNI n f f) = relL n f := rel_eq (w_UNI _ _ _) hf fun i j => by
    simp only [b_UNI hn, or_self]
    exact ⟨fun q => q.2.2, fun q => ⟨(ff _ _ q).1, (ff _ _ q).2, q⟩⟩
  simp only [relL_len, zero_len, and_self, if_true, Then_S hE.c58 ht hn, Union_S hE.c59 hn, Meet_S hE.c67 hn, Minus_S hE.c68 hn, Inverse_S hE.c40 ht hn, Closure_R hE.c12 hn, awake8_R hE.c55, hf, hg, hc, w_TH, w_UNI, w_MEE, w_MIN, w_INV, qh_ok, c1_ok, asA_ok, asB_ok, bind_ok, scK_ok, zero_rel, alike_rel, e1, e2, e3, e4, e5, e6, e6', e7, e8, e9, decide_true]

theorem RelAlgebra_law (ht : TabOk E) (hE : jacquardlaw8_RelAlgebra_In E) {h : AHeap} {c0 c1 c2 : List Cell} (o0 : okC h (.i .i64) c0) (o1 : okC h (.sl shPair) c1) (o2 : okC h (.sl shPair) c2) :
    ∃ h', R E 243 [av1 (.i .i64) c0, av1 (.sl shPair) c1, av1 (.sl shPair) c2] h = some ([.c (.bool true)], h') := by
  obtain ⟨a0, e0, _⟩ := arg_int o0
  obtain ⟨x1, l1, e1, hx1, hl1, _⟩ := arg_pairs o1
  obtain ⟨x2, l2, e2, hx2, hl2, _⟩ := arg_pairs o2
  rw [e0, e1, e2]
  exact ⟨h, RelAlgebra_R hE ht a0 hx1 hl1 hx2 hl2⟩

end Jq

/- Relations told once more, by hand: closing, none leading to itself, cutting down, whether two are the same. -/
namespace Jq
open Go

theorem Low_mono {n m : Nat} (hm : n ≤ m) : ∀ {x : Cell}, Low n x → Low m x := by
  intro x h
  unfold Low at *
  split <;> simp_all
  omega

theorem avOk_rel (m n : Nat) (f : Nat → Nat) : avOk m (.agg (relL n f)) = true := by simp [avOk, AV.cells, relL, idOk]

/-- What holds, over r. -/
def ACC (r : Nat) (q : Nat → Nat → Bool) : Nat → Nat := fun a => mkN fun b => decide (a < r) && decide (b < r) && q a b

theorem w_ACC (r : Nat) (q : Nat → Nat → Bool) : Words (ACC r q) := fun _ => mkN_lt _

theorem b_ACC {r : Nat} (hr : r ≤ 64) (q : Nat → Nat → Bool) (a b : Nat) : (ACC r q a).testBit b = (decide (a < r) && decide (b < r) && q a b) := by
  unfold ACC
  rw [testBit_mkN, Bool.eq_iff_iff]
  simp only [Bool.and_eq_true, decide_eq_true_eq]
  constructor
  · rintro ⟨_, h⟩; exact h
  · rintro h; exact ⟨by omega, h⟩

theorem ACC_fit {r : Nat} (hr : r ≤ 64) (q : Nat → Nat → Bool) : Fit r (ACC r q) := fun a b h => by
  rw [b_ACC hr] at h; simp only [Bool.and_eq_true, decide_eq_true_eq] at h; exact h.1

theorem ACC_eq {r : Nat} (hr : r ≤ 64) {q q' : Nat → Nat → Bool} (h : ∀ a b, a < r → b < r → q a b = q' a b) : relL r (ACC r q) = relL r (ACC r q') := rel_eq (w_ACC _ _) (w_ACC _ _) fun a b => by
  rw [b_ACC hr, b_ACC hr]
  simp only [Bool.and_eq_true, decide_eq_true_eq]
  constructor
  · rintro ⟨⟨h1, h2⟩, h3⟩; exact ⟨⟨h1, h2⟩, by rw [← h a b h1 h2]; exact h3⟩
  · rintro ⟨⟨h1, h2⟩, h3⟩; exact ⟨⟨h1, h2⟩, by rw [h a b h1 h2]; exact h3⟩

theorem ACC_add {r : Nat} (hr : r ≤ 64) {q q' : Nat → Nat → Bool} {i j : Nat} (hi : i < r) (hj : j < r) (h : ∀ a b, a < r → b < r → q' a b = (q a b || (decide (a = i) && decide (b = j)))) :
    relL r (addR r (ACC r q) (i : Int) (j : Int)) = relL r (ACC r q') := rel_eq (words_add (w_ACC _ _) _ _) (w_ACC _ _) fun a b => by
  rw [addR_bit hr, b_ACC hr, b_ACC hr, inR_nat, inR_nat, show decide (i < r) = true by simpa using hi, show decide (j < r) = true by simpa using hj]
  simp only [Bool.and_eq_true, Bool.or_eq_true, decide_eq_true_eq, Bool.true_and]
  constructor
  · rintro (⟨⟨h1, h2⟩, h3⟩ | ⟨h1, h2⟩)
    · exact ⟨⟨h1, h2⟩, by rw [h a b h1 h2, h3]; rfl⟩
    · have h1 : a = i := (Int.ofNat.inj h1).symm
      have h2 : b = j := (Int.ofNat.inj h2).symm
      subst h1; subst h2
      exact ⟨⟨hi, hj⟩, by rw [h a b hi hj]; simp⟩
  · rintro ⟨⟨h1, h2⟩, h3⟩
    rw [h a b h1 h2] at h3
    simp only [Bool.or_eq_true, Bool.and_eq_true, decide_eq_true_eq] at h3
    rcases h3 with h3 | ⟨rfl, rfl⟩
    · exact .inl ⟨⟨h1, h2⟩, h3⟩
    · exact .inr ⟨rfl, rfl⟩

theorem ACC_none {r : Nat} (hr : r ≤ 64) {q : Nat → Nat → Bool} (h : ∀ a b, a < r → b < r → q a b = false) : relL r (ACC r q) = relL r fun _ => 0 := rel_eq (w_ACC _ _) words_zero fun a b => by
  rw [b_ACC hr]
  simp only [Bool.and_eq_true, decide_eq_true_eq, Nat.zero_testBit]
  constructor
  · rintro ⟨⟨h1, h2⟩, h3⟩; rw [h a b h1 h2] at h3; exact h3
  · intro h; cases h

variable {E : Env}

theorem refClosure_R (hE : jacquardref6_Closure_In E) {n : Nat} (hn : n ≤ 64) {f : Nat → Nat} (hf : Words f) (h : AHeap) :
    R E 6 [.agg (relL n f)] h = some ([.agg (relL n (clK n f n))], h) := by
  refine R_intro hE.fn ?_
  rw [jacquardref6_Closure_eq]
  have outer : Lim (jacquardref6_Closure_F2 (R E) Lim E.glob) (jacquardref6_Closure_s2 h.length 65 0 ((0 : Nat) : Int) zeroL (h ++ [some ⟨true, 0, relL n (clK n f 0)⟩])) = some (.exit 0, jacquardref6_Closure_x2_1 h.length 65 0 zeroL (h ++ [some ⟨true, 0, relL n (clK n f n)⟩])) := by
    refine Lim_count (fun k => jacquardref6_Closure_s2 h.length 65 0 (k : Int) zeroL (h ++ [some ⟨true, 0, relL n (clK n f k)⟩])) 0 n (by omega) (fun k _ hk => ?_) (Lim_exit ?_)
    · have inner : Lim (jacquardref6_Closure_F1 (R E) Lim E.glob) (jacquardref6_Closure_s1 h.length 65 0 k ((0 : Nat) : Int) zeroL (h ++ [some ⟨true, 0, relL n (cl1 k 0 (clK n f k))⟩])) = some (.exit 2, jacquardref6_Closure_x1_3 h.length 65 0 k zeroL (h ++ [some ⟨true, 0, relL n (cl1 k n (clK n f k))⟩])) := by
        refine Lim_count (fun i => jacquardref6_Closure_s1 h.length 65 0 k (i : Int) zeroL (h ++ [some ⟨true, 0, relL n (cl1 k i (clK n f k))⟩])) 0 n (by omega) (fun i _ hi => ?_) (Lim_exit ?_)
        · have hw := words_cl1 (words_clK hf n k) k i
          have q1 : 0 ≤ (i : Int) ∧ (i : Int) < ((64 : Nat) : Int) := by omega
          have q2 : 0 ≤ (k : Int) ∧ (k : Int) < ((64 : Nat) : Int) := by omega
          have rd : ∀ {α : Type} (g : List Cell → Option α), rdH (h ++ [some ⟨true, 0, relL n (cl1 k i (clK n f k))⟩]) h.length 65 g = g (relL n (cl1 k i (clK n f k))) := fun g => rdH_ok (blk_new h _) (relL_len _ _)
          rw [jacquardref6_Closure_r1, rd, atK_ok (i := 0 + 0) (relL_zero _ _), asI_ok, if_pos (by simp; omega), refHas_R hE.c7 hw (by omega) (by omega) (blk_new h _), c1_ok, asB_ok, cl1, clS]
          cases hb : (cl1 k i (clK n f k) i).testBit k with
          | true =>
            simp only [if_true]
            rw [if_pos q1, rd, Int.toNat_natCast, Int.toNat_natCast, show 0 + 1 + i * 1 = 1 + i by omega, show 0 + 1 + k * 1 = 1 + k by omega, atK_ok (relL_row (by omega)), asI_ok, if_pos q2, rd, atK_ok (relL_row (by omega)), asI_ok, if_pos q1, rd, if_pos (by rw [relL_len]; omega), g_bor (hw _) (hw _), relL_set, putH_ok (blk_new h _) rfl, setBlk_last, g_succ (by omega)]
          | false => simp only [Bool.false_eq_true, if_false]; rw [g_succ (by omega)]
        · rw [jacquardref6_Closure_r1, rdH_ok (blk_new h _) (relL_len _ _), atK_ok (i := 0 + 0) (relL_zero _ _), asI_ok, if_neg (by simp)]
      rw [jacquardref6_Closure_r2, rdH_ok (blk_new h _) (relL_len _ _), atK_ok (i := 0 + 0) (relL_zero _ _), asI_ok, if_pos (by simp; omega), show jacquardref6_Closure_s1 h.length 65 0 k 0 zeroL (h ++ [some ⟨true, 0, relL n (clK n f k)⟩]) = jacquardref6_Closure_s1 h.length 65 0 k ((0 : Nat) : Int) zeroL (h ++ [some ⟨true, 0, relL n (cl1 k 0 (clK n f k))⟩]) from rfl, inner, bind_ok, jacquardref6_Closure_e1_3, g_succ (by omega)]
      rfl
    · rw [jacquardref6_Closure_r2, rdH_ok (blk_new h _) (relL_len _ _), atK_ok (i := 0 + 0) (relL_zero _ _), asI_ok, if_neg (by simp)]
  have hc : (AV.cells (.agg (relL n f))).length = 65 := relL_len _ _
  rw [hc, show jacquardref6_Closure_s2 h.length 65 0 0 ([Cell.int .i64 0] ++ List.replicate 64 (Cell.int .u64 0)) (h ++ [some (Blk.mk true 0 (AV.cells (.agg (relL n f))))]) = jacquardref6_Closure_s2 h.length 65 0 ((0 : Nat) : Int) zeroL (h ++ [some ⟨true, 0, relL n (clK n f 0)⟩]) from rfl, outer, bind_ok, jacquardref6_Closure_e2_1, rdH_ok (blk_new h _) (relL_len _ _)]
  simp only [relL_len, zeroL, zero_len, and_self, if_true]
  exact finish_gc (Kp.app _ (Nat.le_refl _)) (by simp [avOk_rel])

theorem refAcyclic_R (hE : jacquardref6_Acyclic_In E) {n : Nat} (hn : n ≤ 64) {f : Nat → Nat} (hf : Words f) (h : AHeap) :
    R E 71 [.agg (relL n f)] h = some ([.c (.bool (acycR n f))], h) := by
  refine R_intro hE.fn ?_
  have hw := words_clK hf n n
  rw [jacquardref6_Acyclic_eq, if_pos ⟨rfl, relL_len _ _⟩, refClosure_R hE.c6 hn hf, c1_ok, asA_ok, rdH_ok (blk_new h _) zero_len, if_pos ⟨rfl, zero_len, relL_len _ _⟩, putH_ok (blk_new h _) rfl, setBlk_last, zero_len]
  dsimp only
  have loop := Lim_any (F := jacquardref6_Acyclic_F1 (R E) Lim E.glob) (fun i => jacquardref6_Acyclic_s1 h.length 65 0 (i : Int) (relL n f) (h ++ [some ⟨true, 0, relL n (clK n f n)⟩])) (fun i => (clK n f n i).testBit i) (.ret, jacquardref6_Acyclic_x1_0 false (h ++ [some ⟨true, 0, relL n (clK n f n)⟩])) (.exit 0, jacquardref6_Acyclic_x1_1 (h ++ [some ⟨true, 0, relL n (clK n f n)⟩])) n (fun i hi => by
      rw [jacquardref6_Acyclic_r1, atK_ok (relL_zero _ _), asI_ok, if_pos (by simp; omega), refHas_R hE.c7 hw (by omega) (by omega) (blk_new h _), c1_ok, asB_ok, g_succ (by omega)]) (by simp) (by
      rw [jacquardref6_Acyclic_r1, atK_ok (relL_zero _ _), asI_ok, if_neg (by simp)]) (by simp)
  simp only [Int.ofNat_zero, Int.natCast_zero] at loop
  rw [loop, bind_ok]
  unfold acycR
  cases (List.range n).any fun i => (clK n f n i).testBit i with
  | true => simp only [if_true]; rw [jacquardref6_Acyclic_e1_0]; exact finish_gc (Kp.app _ (Nat.le_refl _)) (by simp [avOk, AV.cells, idOk])
  | false => simp only [Bool.false_eq_true, if_false]; rw [jacquardref6_Acyclic_e1_1]; exact finish_gc (Kp.app _ (Nat.le_refl _)) (by simp [avOk, AV.cells, idOk])

theorem Same_R (hE : jacquardlaw8_Same_In E) {n : Nat} (hn : n ≤ 64) {f g : Nat → Nat} (hfg : ∀ i, i < 64 → (if i < n then f i else 0) = g i) (h : AHeap) :
    R E 69 [.agg (relL n f), .agg (relL n g)] h = some ([.c (.bool true)], h) := by
  refine R_intro hE.fn ?_
  have loop : Lim (jacquardlaw8_Same_F1 (R E) Lim E.glob) (jacquardlaw8_Same_s1 ((0 : Nat) : Int) (relL n f) (relL n g) h) = some (.exit 0, jacquardlaw8_Same_x1_1 h) := by
    refine Lim_count (fun i => jacquardlaw8_Same_s1 (i : Int) (relL n f) (relL n g) h) 0 64 (by omega) (fun i _ hi => ?_) (Lim_exit ?_)
    · have q1 : 0 ≤ (i : Int) ∧ (i : Int) < ((64 : Nat) : Int) := by omega
      have hr := hfg i hi
      rw [jacquardlaw8_Same_r1, if_pos (by simp; omega), if_pos ⟨rfl, relL_len _ _⟩, Row_R hE.c41 hn, qh_ok, c1_ok, asI_ok, if_pos q1, Int.toNat_natCast, Nat.mul_one, atK_ok (relL_row hi), asI_ok, inR_nat, g_succ (by omega)]
      simp only [decide_eq_true_eq]
      rw [hr, bne_self_eq_false, if_neg (by simp)]
    · rw [jacquardlaw8_Same_r1, if_neg (by simp)]
  rw [jacquardlaw8_Same_eq, if_pos ⟨rfl, relL_len _ _⟩, N_R hE.c14, qh_ok, c1_ok, asI_ok, atK_ok (relL_zero _ _), asI_ok, bne_self_eq_false, if_neg (by simp), show (0 : Int) = ((0 : Nat) : Int) from rfl, loop, bind_ok, jacquardlaw8_Same_e1_1]

theorem Same_S (hE : jacquardlaw8_Same_In E) {n : Nat} (hn : n ≤ 64) {f g : Nat → Nat} (hf : Words f) (hg : Words g) (hfg : ∀ i j, ((f i).testBit j = true ∧ i < n) ↔ (g i).testBit j = true) (h : AHeap) :
    R E 69 [.agg (relL n f), .agg (relL n g)] h = some ([.c (.bool true)], h) := by
  refine Same_R hE hn (fun i _ => ?_) h
  by_cases hi : i < n
  · rw [if_pos hi]
    refine eq_of_bits (hf i) (hg i) fun j _ => ?_
    rw [Bool.eq_iff_iff, ← hfg i j]
    exact ⟨fun q => ⟨q, hi⟩, fun q => q.1⟩
  · rw [if_neg hi]
    refine eq_of_bits (by omega) (hg i) fun j _ => ?_
    rw [Bool.eq_iff_iff, ← hfg i j, Nat.zero_testBit]
    exact ⟨fun q => (by cases q), fun q => absurd q.2 hi⟩

/-- Up to row i, place j. -/
def upto (i j a b : Nat) : Bool := decide (a < i) || (decide (a = i) && decide (b < j))

theorem cut_R (hE : jacquardlaw8_cut_In E) {n m : Nat} (hn : n ≤ 64) (hm : m ≤ 64) {f : Nat → Nat} (hf : Words f) (h : AHeap) :
    R E 70 [.agg (relL n f), .c (.int .i64 (m : Int))] h = some ([.agg (relL (min n m) (ACC (min n m) fun a b => (f a).testBit b))], h) := by
  refine R_intro hE.fn ?_
  have hc : AV.cells (.agg (relL n f)) = relL n f := rfl
  have hmin : (if (m : Int) < (n : Int) then (m : Int) else (n : Int)) = ((min n m : Nat) : Int) := by split <;> omega
  have hl1 : (h ++ [some (Blk.mk true 0 (relL n f))]).length = h.length + 1 := by simp
  have hb1 : ∀ t, blk? ((h ++ [some (Blk.mk true 0 (relL n f))]) ++ t) h.length = some ⟨true, 0, relL n f⟩ := fun t => blk_old (blk_new h _) t
  have hb2 : ∀ c, blk? ((h ++ [some (Blk.mk true 0 (relL n f))]) ++ [some (Blk.mk true 0 c)]) (h ++ [some (Blk.mk true 0 (relL n f))]).length = some ⟨true, 0, c⟩ := fun c => blk_new _ _
  have hset : ∀ c c', setBlk ((h ++ [some (Blk.mk true 0 (relL n f))]) ++ [some (Blk.mk true 0 c)]) (h ++ [some (Blk.mk true 0 (relL n f))]).length (some ⟨true, 0, c'⟩) = (h ++ [some (Blk.mk true 0 (relL n f))]) ++ [some (Blk.mk true 0 c')] := fun c c' => setBlk_last _ _ _
  have hK : Kp h.length h (h ++ [some (Blk.mk true 0 (relL n f))]) := Kp.app _ (Nat.le_refl _)
  rw [jacquardlaw8_cut_eq, hc, rdH_ok (blk_new h _) rfl, atK_ok (relL_zero _ _), asI_ok, hmin]
  generalize hH : h ++ [some (Blk.mk true 0 (relL n f))] = H at *
  have hr : min n m ≤ 64 := by omega
  have hrn : min n m ≤ n := by omega
  generalize min n m = r at *
  rw [rdH_ok (hb2 _) rfl, if_pos ⟨rfl, zero_len, by rw [zero_rel, splice_zero, relL_len]⟩, putH_ok (hb2 _) rfl, hset, zero_rel, splice_zero, relL_len, relL_len]
  have rd2 : ∀ {α : Type} (u : Nat → Nat) (g : List Cell → Option α), rdH (H ++ [some ⟨true, 0, relL r u⟩]) H.length 65 g = g (relL r u) := fun u g => rdH_ok (hb2 _) (relL_len _ _)
  have e0 : relL r (fun _ => 0) = relL r (ACC r fun a b => upto 0 0 a b && (f a).testBit b) := (ACC_none hr fun a b _ _ => by simp [upto]).symm
  have outer : Lim (jacquardlaw8_cut_F2 (R E) Lim E.glob) (jacquardlaw8_cut_s2 h.length 65 0 H.length 65 0 ((0 : Nat) : Int) (relL 0 fun _ => 0) (H ++ [some ⟨true, 0, relL r (ACC r fun a b => upto 0 0 a b && (f a).testBit b)⟩])) = some (.exit 0, jacquardlaw8_cut_x2_1 H.length 65 0 (relL 0 fun _ => 0) (H ++ [some ⟨true, 0, relL r (ACC r fun a b => upto r 0 a b && (f a).testBit b)⟩])) := by
    refine Lim_count (fun i => jacquardlaw8_cut_s2 h.length 65 0 H.length 65 0 (i : Int) (relL 0 fun _ => 0) (H ++ [some ⟨true, 0, relL r (ACC r fun a b => upto i 0 a b && (f a).testBit b)⟩])) 0 r (by omega) (fun i _ hi => ?_) (Lim_exit ?_)
    · have inner : Lim (jacquardlaw8_cut_F1 (R E) Lim E.glob) (jacquardlaw8_cut_s1 h.length 65 0 H.length 65 0 i ((0 : Nat) : Int) (relL 0 fun _ => 0) (H ++ [some ⟨true, 0, relL r (ACC r fun a b => upto i 0 a b && (f a).testBit b)⟩])) = some (.exit 2, jacquardlaw8_cut_x1_3 h.length 65 0 H.length 65 0 i (relL 0 fun _ => 0) (H ++ [some ⟨true, 0, relL r (ACC r fun a b => upto i r a b && (f a).testBit b)⟩])) := by
        refine Lim_count (fun j => jacquardlaw8_cut_s1 h.length 65 0 H.length 65 0 i (j : Int) (relL 0 fun _ => 0) (H ++ [some ⟨true, 0, relL r (ACC r fun a b => upto i j a b && (f a).testBit b)⟩])) 0 r (by omega) (fun j _ hj => ?_) (Lim_exit ?_)
        · rw [jacquardlaw8_cut_r1, rd2, atK_ok (i := 0 + 0) (relL_zero _ _), asI_ok, if_pos (by simp; omega), refHas_R hE.c7 hf (by omega) (by omega) (hb1 _), c1_ok, asB_ok]
          cases hb : (f i).testBit j with
          | true =>
            have e : relL r (addR r (ACC r fun a b => upto i j a b && (f a).testBit b) (i : Int) (j : Int)) = relL r (ACC r fun a b => upto i (j + 1) a b && (f a).testBit b) := by
              refine ACC_add hr hi hj fun a b _ _ => ?_
              rw [Bool.eq_iff_iff]
              simp only [upto, Bool.and_eq_true, Bool.or_eq_true, decide_eq_true_eq]
              constructor
              · rintro ⟨q1 | ⟨q1, q2⟩, q3⟩
                · exact .inl ⟨.inl q1, q3⟩
                · by_cases q4 : b = j
                  · exact .inr ⟨q1, q4⟩
                  · exact .inl ⟨.inr ⟨q1, by omega⟩, q3⟩
              · rintro (⟨q1 | ⟨q1, q2⟩, q3⟩ | ⟨rfl, rfl⟩)
                · exact ⟨.inl q1, q3⟩
                · exact ⟨.inr ⟨q1, by omega⟩, q3⟩
                · exact ⟨.inr ⟨rfl, by omega⟩, hb⟩
            rw [if_pos rfl, refAdd_R hE.c13 hr (w_ACC _ _) (by rw [inR_nat]; simpa using hi) (by rw [inR_nat]; simpa using hj) (hb2 _), c0_ok, hset, e, g_succ (by omega)]
          | false =>
            have e : relL r (ACC r fun a b => upto i j a b && (f a).testBit b) = relL r (ACC r fun a b => upto i (j + 1) a b && (f a).testBit b) := by
              refine ACC_eq hr fun a b _ _ => ?_
              rw [Bool.eq_iff_iff]
              simp only [upto, Bool.and_eq_true, Bool.or_eq_true, decide_eq_true_eq]
              constructor
              · rintro ⟨q1 | ⟨q1, q2⟩, q3⟩
                · exact ⟨.inl q1, q3⟩
                · exact ⟨.inr ⟨q1, by omega⟩, q3⟩
              · rintro ⟨q1 | ⟨q1, q2⟩, q3⟩
                · exact ⟨.inl q1, q3⟩
                · refine ⟨.inr ⟨q1, ?_⟩, q3⟩
                  by_cases q4 : b = j
                  · rw [q1, q4, hb] at q3; cases q3
                  · omega
            rw [if_neg (by simp), e, g_succ (by omega)]
        · rw [jacquardlaw8_cut_r1, rd2, atK_ok (i := 0 + 0) (relL_zero _ _), asI_ok, if_neg (by simp)]
      have e : relL r (ACC r fun a b => upto i r a b && (f a).testBit b) = relL r (ACC r fun a b => upto (i + 1) 0 a b && (f a).testBit b) := by
        refine ACC_eq hr fun a b ha hb => ?_
        congr 1
        rw [Bool.eq_iff_iff]
        simp only [upto, Bool.and_eq_true, Bool.or_eq_true, decide_eq_true_eq]
        omega
      rw [jacquardlaw8_cut_r2, rd2, atK_ok (i := 0 + 0) (relL_zero _ _), asI_ok, if_pos (by simp; omega), show (0 : Int) = ((0 : Nat) : Int) from rfl, inner, bind_ok, jacquardlaw8_cut_e1_3, g_succ (by omega), e]
    · rw [jacquardlaw8_cut_r2, rd2, atK_ok (i := 0 + 0) (relL_zero _ _), asI_ok, if_neg (by simp)]
  have e1 : relL r (ACC r fun a b => upto r 0 a b && (f a).testBit b) = relL r (ACC r fun a b => (f a).testBit b) := ACC_eq hr fun a b ha _ => by
    rw [show upto r 0 a b = true by simp [upto, ha], Bool.true_and]
  rw [e1] at outer
  rw [show (0 : Int) = ((0 : Nat) : Int) from rfl, e0, outer, bind_ok, jacquardlaw8_cut_e2_1, rd2]
  simp only [relL_len, and_self, if_true]
  exact finish_gc (hK.trans (Kp.app _ (by omega))) (by simp [avOk_rel])

end Jq

namespace Jq
open Go

/- jacquard/jacquardlaw7.awake: 62 -/
def jacquardlaw7_awake : Fn := { np := 0, nt := 34, ns := 0, res := [.t 0 .b], gc := true, code :=
  (.seq (.reg 0 false (.op (some 0) .mov [(.k (.c (.bool false)))]
    .nil))
  (.seq (.reg 1 false (.op (some 3) (.bslice 1 2 ([Cell.int .i64 0, Cell.int .i64 0]) [(0, 1), (1, 1)]) [(.k (.c (.int .i64 0))), (.k (.c (.int .i64 1)))]
    (.op (some 4) (.call 65 [(.i .u64)]) [(.t 3)]
    (.op (some 1) .mov [(.t 4)]
    .nil))))
  (.seq (.reg 2 false (.op (some 5) .mov [(.t 1)]
    (.op (some 6) (.call 60 [(.i .u64)]) [(.t 5)]
    (.op (some 7) (.call 32 [.any]) [(.t 6)]
    (.op (some 2) .mov [(.t 7)]
    .nil)))))
  (.seq (.reg 3 false (.op (some 8) .mov [(.t 1)]
    (.op (some 9) (.bin .eql) [(.t 8), (.k (.c (.int .u64 3)))]
    (.op (some 10) .mov [(.t 9)]
    (.sc 10 true (.op (some 11) .mov [(.t 1)]
    (.op (some 12) (.call 56 [(.i .i64)]) [(.t 11)]
    (.op (some 13) (.bin .eql) [(.t 12), (.k (.c (.int .i64 2)))]
    .nil))) 13 14 false
    (.op (some 15) .mov [(.t 14)]
    (.sc 15 true (.op (some 16) .mov [(.t 2)]
    (.op (some 17) .len [(.t 16)]
    (.op (some 18) (.bin .eql) [(.t 17), (.k (.c (.int .i64 2)))]
    .nil))) 18 19 false
    (.op (some 20) .mov [(.t 19)]
    (.sc 20 true (.op (some 21) .mov [(.t 2)]
    (.op (some 22) (.idxS 1) [(.t 21), (.k (.c (.int .i64 1)))]
    (.op (some 23) (.ld .heap (.i .i64)) [(.t 22)]
    (.op (some 24) (.bin .eql) [(.t 23), (.k (.c (.int .i64 2)))]
    .nil)))) 24 25 false
    (.op (some 26) .mov [(.t 25)]
    (.sc 26 true (.op (some 27) (.call 61 [(.i .u64)]) [(.k (.c (.int .i64 3)))]
    (.op (some 28) (.bin .eql) [(.t 27), (.k (.c (.int .u64 7)))]
    .nil)) 28 29 false
    (.op (some 30) .mov [(.t 29)]
    (.sc 30 true (.op (some 31) (.call 38 [(.i .i64)]) [(.k (.c (.int .u64 0)))]
    (.op (some 32) (.bin .eql) [(.t 31), (.k (.c (.int .i64 (-1))))]
    .nil)) 32 33 false
    (.op (some 0) .mov [(.t 33)]
    .nil))))))))))))))
  .ret)))) }

/- jacquard/jacquardlaw7.in: 64 -/
def jacquardlaw7_in : Fn := { np := 1, nt := 9, ns := 0, res := [.t 2 (.i .i64)], gc := false, code :=
  (.seq (.reg 0 false (.op (some 2) .mov [(.k (.c (.int .i64 0)))]
    .nil))
  (.seq (.seq (.reg 1 false (.op (some 3) .mov [(.t 0)]
    (.op (some 4) (.bin .geq) [(.t 3), (.k (.c (.int .i64 0)))]
    (.op (some 5) .mov [(.t 4)]
    (.sc 5 true (.op (some 6) .mov [(.t 0)]
    (.op (some 7) (.bin .lss) [(.t 6), (.k (.c (.int .i64 64)))]
    .nil)) 7 8 false
    .nil)))))
  (.cond (.t 8)
  (.seq (.reg 2 false (.op (some 2) .mov [(.k (.c (.int .i64 1)))]
    .nil))
  .ret)
  .skip))
  (.seq (.reg 3 false (.op (some 2) .mov [(.k (.c (.int .i64 0)))]
    .nil))
  .ret))) }

/- jacquard/jacquardlaw7.SetAlgebra: 235 -/
def jacquardlaw7_SetAlgebra_b1 : IC :=
  (.seq (.seq (.reg 5 false (.op (some 16) .mov [(.t 11)]
    (.op (some 17) .mov [(.t 10)]
    (.op (some 18) .len [(.t 17)]
    (.op (some 19) (.bin .lss) [(.t 16), (.t 18)]
    .nil)))))
  (.cond (.t 19)
  .skip
  (.exit 0)))
  (.seq (.blk 1 (.seq (.seq (.reg 7 true (.op (some 22) .mov [(.t 11)]
    (.op (some 23) (.bin .gtr) [(.t 22), (.k (.c (.int .i64 0)))]
    (.op (some 24) .mov [(.t 23)]
    (.sc 24 true (.op (some 25) .mov [(.t 10)]
    (.op (some 26) .mov [(.t 11)]
    (.op (some 27) (.idxS 1) [(.t 25), (.t 26)]
    (.op (some 28) (.ld .heap (.i .i64)) [(.t 27)]
    (.op (some 29) .mov [(.t 10)]
    (.op (some 30) .mov [(.t 11)]
    (.op (some 31) (.bin .sub) [(.t 30), (.k (.c (.int .i64 1)))]
    (.op (some 32) (.idxS 1) [(.t 29), (.t 31)]
    (.op (some 33) (.ld .heap (.i .i64)) [(.t 32)]
    (.op (some 34) (.bin .leq) [(.t 28), (.t 33)]
    .nil)))))))))) 34 35 false
    (.op (some 36) .mov [(.t 35)]
    (.sc 36 false (.op (some 37) .mov [(.t 7)]
    (.op (some 38) .mov [(.t 10)]
    (.op (some 39) .mov [(.t 11)]
    (.op (some 40) (.idxS 1) [(.t 38), (.t 39)]
    (.op (some 41) (.ld .heap (.i .i64)) [(.t 40)]
    (.op (some 42) (.qcall 17 [.b]) [(.t 37), (.t 41)]
    (.op (some 43) (.un .not) [(.t 42)]
    .nil))))))) 43 44 true
    .nil)))))))
  (.cond (.t 44)
  (.seq (.reg 8 false (.op (some 6) .mov [(.k (.c (.bool false)))]
    .nil))
  .ret)
  .skip))
  (.seq (.reg 9 false (.op (some 45) .mov [(.t 8)]
    (.op (some 46) .mov [(.t 10)]
    (.op (some 47) .mov [(.t 11)]
    (.op (some 48) (.idxS 1) [(.t 46), (.t 47)]
    (.op (some 49) (.ld .heap (.i .i64)) [(.t 48)]
    (.op (some 50) (.call 17 [.b]) [(.t 45), (.t 49)]
    .nil)))))))
  (.cond (.t 50)
  (.reg 10 false (.op (some 51) .mov [(.t 9)]
    (.op (some 52) (.bin .add) [(.t 51), (.k (.c (.int .i64 1)))]
    (.op (some 9) .mov [(.t 52)]
    .nil))))
  .skip))))
  (.reg 6 false (.op (some 20) .mov [(.t 11)]
    (.op (some 21) (.bin .add) [(.t 20), (.k (.c (.int .i64 1)))]
    (.op (some 11) .mov [(.t 21)]
    .nil))))))
def jacquardlaw7_SetAlgebra_p1 : IC :=
  (.seq (.reg 11 false (.op (some 53) .mov [(.t 7)]
    (.op (some 54) .mov [(.t 8)]
    (.op (some 55) (.bin .or) [(.t 53), (.t 54)]
    (.op (some 56) (.call 56 [(.i .i64)]) [(.t 55)]
    (.op (some 57) .mov [(.t 7)]
    (.op (some 58) (.call 56 [(.i .i64)]) [(.t 57)]
    (.op (some 59) .mov [(.t 8)]
    (.op (some 60) (.call 56 [(.i .i64)]) [(.t 59)]
    (.op (some 61) (.bin .add) [(.t 58), (.t 60)]
    (.op (some 62) .mov [(.t 9)]
    (.op (some 63) (.bin .sub) [(.t 61), (.t 62)]
    (.op (some 64) (.bin .eql) [(.t 56), (.t 63)]
    (.op (some 65) .mov [(.t 64)]
    (.sc 65 true (.op (some 66) .mov [(.t 7)]
    (.op (some 67) .mov [(.t 8)]
    (.op (some 68) (.bin .and) [(.t 66), (.t 67)]
    (.op (some 69) (.call 56 [(.i .i64)]) [(.t 68)]
    (.op (some 70) .mov [(.t 9)]
    (.op (some 71) (.bin .eql) [(.t 69), (.t 70)]
    .nil)))))) 71 72 false
    (.op (some 73) .mov [(.t 72)]
    (.sc 73 true (.op (some 74) .mov [(.t 7)]
    (.op (some 75) .mov [(.t 8)]
    (.op (some 76) (.bin .andNot) [(.t 74), (.t 75)]
    (.op (some 77) (.call 56 [(.i .i64)]) [(.t 76)]
    (.op (some 78) .mov [(.t 7)]
    (.op (some 79) (.call 56 [(.i .i64)]) [(.t 78)]
    (.op (some 80) .mov [(.t 9)]
    (.op (some 81) (.bin .sub) [(.t 79), (.t 80)]
    (.op (some 82) (.bin .eql) [(.t 77), (.t 81)]
    .nil))))))))) 82 83 false
    (.op (some 84) .mov [(.t 83)]
    (.sc 84 true (.op (some 85) .mov [(.t 7)]
    (.op (some 86) .mov [(.t 2)]
    (.op (some 87) (.call 18 [(.i .u64)]) [(.t 85), (.t 86)]
    (.op (some 88) (.call 56 [(.i .i64)]) [(.t 87)]
    (.op (some 89) .mov [(.t 7)]
    (.op (some 90) .mov [(.t 2)]
    (.op (some 91) (.call 63 [(.i .u64)]) [(.t 89), (.t 90)]
    (.op (some 92) (.call 56 [(.i .i64)]) [(.t 91)]
    (.op (some 93) (.bin .sub) [(.t 88), (.t 92)]
    (.op (some 94) .mov [(.t 2)]
    (.op (some 95) (.call 64 [(.i .i64)]) [(.t 94)]
    (.op (some 96) (.bin .eql) [(.t 93), (.t 95)]
    .nil)))))))))))) 96 97 false
    (.op (some 98) .mov [(.t 97)]
    (.sc 98 true (.op (some 99) (.call 62 [.b]) []
    .nil) 99 100 false
    (.op (some 6) .mov [(.t 100)]
    .nil))))))))))))))))))))))
  .ret)
def jacquardlaw7_SetAlgebra : Fn := { np := 3, nt := 101, ns := 0, res := [.t 6 .b], gc := false, code :=
  (.seq (.reg 0 false (.op (some 6) .mov [(.k (.c (.bool false)))]
    .nil))
  (.seq (.reg 1 false (.op (some 12) .mov [(.t 0)]
    (.op (some 13) .mov [(.t 1)]
    (.op (some 7) .mov [(.t 12)]
    (.op (some 8) .mov [(.t 13)]
    .nil)))))
  (.seq (.reg 2 false (.op (some 9) .mov [(.k (.c (.int .i64 0)))]
    .nil))
  (.seq (.reg 3 false (.op (some 14) .mov [(.t 7)]
    (.op (some 15) (.call 32 [.any]) [(.t 14)]
    (.op (some 10) .mov [(.t 15)]
    .nil))))
  (.seq (.seq (.reg 4 false (.op (some 11) .mov [(.k (.c (.int .i64 0)))]
    .nil))
  (.blk 0 (.loop [2, 7, 8, 9, 10, 11] [] [(0, [6], []), (1, [2, 7, 8, 9], [])] jacquardlaw7_SetAlgebra_b1)))
  jacquardlaw7_SetAlgebra_p1))))) }

/- jacquard/jacquardlaw7.SetUptos: 237 -/
def jacquardlaw7_SetUptos : Fn := { np := 3, nt := 77, ns := 0, res := [.t 6 .b], gc := false, code :=
  (.seq (.reg 0 false (.op (some 6) .mov [(.k (.c (.bool false)))]
    .nil))
  (.seq (.reg 1 false (.op (some 10) .mov [(.t 0)]
    (.op (some 11) (.call 61 [(.i .u64)]) [(.t 10)]
    (.op (some 7) .mov [(.t 11)]
    .nil))))
  (.seq (.reg 2 false (.op (some 12) .mov [(.t 0)]
    (.op (some 13) .mx [(.t 12), (.k (.c (.int .i64 0)))]
    (.op (some 14) .mn [(.t 13), (.k (.c (.int .i64 64)))]
    (.op (some 8) .mov [(.t 14)]
    .nil)))))
  (.seq (.reg 3 false (.op (some 15) .mov [(.t 2)]
    (.op (some 16) (.bin .and) [(.t 15), (.k (.c (.int .i64 63)))]
    (.op (some 2) .mov [(.t 16)]
    .nil))))
  (.seq (.reg 4 false (.op (some 17) .mov [(.t 1)]
    (.op (some 9) .mov [(.t 17)]
    .nil)))
  (.seq (.reg 5 false (.op (some 18) .mov [(.t 7)]
    (.op (some 19) (.call 56 [(.i .i64)]) [(.t 18)]
    (.op (some 20) .mov [(.t 8)]
    (.op (some 21) (.bin .eql) [(.t 19), (.t 20)]
    (.op (some 22) .mov [(.t 21)]
    (.sc 22 true (.op (some 23) .mov [(.t 8)]
    (.op (some 24) (.bin .eql) [(.t 23), (.k (.c (.int .i64 0)))]
    (.op (some 25) .mov [(.t 24)]
    (.sc 25 false (.op (some 26) .mov [(.t 7)]
    (.op (some 27) .mov [(.t 8)]
    (.op (some 28) (.bin .sub) [(.t 27), (.k (.c (.int .i64 1)))]
    (.op (some 29) (.call 17 [.b]) [(.t 26), (.t 28)]
    .nil)))) 29 30 true
    .nil)))) 30 31 false
    (.op (some 32) .mov [(.t 31)]
    (.sc 32 true (.op (some 33) .mov [(.t 7)]
    (.op (some 34) .mov [(.t 8)]
    (.op (some 35) (.call 17 [.b]) [(.t 33), (.t 34)]
    (.op (some 36) (.un .not) [(.t 35)]
    .nil)))) 36 37 false
    (.op (some 38) .mov [(.t 37)]
    (.sc 38 true (.op (some 39) .mov [(.t 9)]
    (.op (some 40) .mov [(.t 2)]
    (.op (some 41) (.call 18 [(.i .u64)]) [(.t 39), (.t 40)]
    (.op (some 42) .mov [(.t 2)]
    (.op (some 43) (.call 63 [(.i .u64)]) [(.t 41), (.t 42)]
    (.op (some 44) .mov [(.t 9)]
    (.op (some 45) .mov [(.t 2)]
    (.op (some 46) (.call 63 [(.i .u64)]) [(.t 44), (.t 45)]
    (.op (some 47) (.bin .eql) [(.t 43), (.t 46)]
    .nil))))))))) 47 48 false
    (.op (some 49) .mov [(.t 48)]
    (.sc 49 true (.op (some 50) .mov [(.t 9)]
    (.op (some 51) .mov [(.t 2)]
    (.op (some 52) (.call 63 [(.i .u64)]) [(.t 50), (.t 51)]
    (.op (some 53) .mov [(.t 2)]
    (.op (some 54) (.call 18 [(.i .u64)]) [(.t 52), (.t 53)]
    (.op (some 55) .mov [(.t 9)]
    (.op (some 56) .mov [(.t 2)]
    (.op (some 57) (.call 18 [(.i .u64)]) [(.t 55), (.t 56)]
    (.op (some 58) (.bin .eql) [(.t 54), (.t 57)]
    .nil))))))))) 58 59 false
    (.op (some 60) .mov [(.t 59)]
    (.sc 60 true (.op (some 61) .mov [(.t 9)]
    (.op (some 62) .mov [(.t 2)]
    (.op (some 63) (.call 18 [(.i .u64)]) [(.t 61), (.t 62)]
    (.op (some 64) .mov [(.t 2)]
    (.op (some 65) (.call 17 [.b]) [(.t 63), (.t 64)]
    .nil))))) 65 66 false
    (.op (some 67) .mov [(.t 66)]
    (.sc 67 true (.op (some 68) .mov [(.t 9)]
    (.op (some 69) (.call 32 [.any]) [(.t 68)]
    (.op (some 70) (.call 65 [(.i .u64)]) [(.t 69)]
    (.op (some 71) .mov [(.t 9)]
    (.op (some 72) (.bin .eql) [(.t 70), (.t 71)]
    .nil))))) 72 73 false
    (.op (some 74) .mov [(.t 73)]
    (.sc 74 true (.op (some 75) (.call 62 [.b]) []
    .nil) 75 76 false
    (.op (some 6) .mov [(.t 76)]
    .nil))))))))))))))))))))
  .ret)))))) }


end Jq

/- What a function needs of an environment. -/
namespace Jq
open Go

structure jacquardlaw7_awake_In (E : Env) : Prop where
  fn : E.fn 62 = some jacquardlaw7_awake
  c32 : set_Set_List_In E
  c38 : set_Set_First_In E
  c56 : set_Set_Len_In E
  c60 : set_Set_Next_In E
  c61 : set_Upto_In E
  c65 : set_Of_In E

structure jacquardlaw7_in_In (E : Env) : Prop where
  fn : E.fn 64 = some jacquardlaw7_in

structure jacquardlaw7_SetAlgebra_In (E : Env) : Prop where
  fn : E.fn 235 = some jacquardlaw7_SetAlgebra
  c17 : set_Set_Has_In E
  c18 : set_Set_With_In E
  c32 : set_Set_List_In E
  c56 : set_Set_Len_In E
  c62 : jacquardlaw7_awake_In E
  c63 : set_Set_Without_In E
  c64 : jacquardlaw7_in_In E

structure jacquardlaw7_SetUptos_In (E : Env) : Prop where
  fn : E.fn 237 = some jacquardlaw7_SetUptos
  c17 : set_Set_Has_In E
  c18 : set_Set_With_In E
  c32 : set_Set_List_In E
  c56 : set_Set_Len_In E
  c61 : set_Upto_In E
  c62 : jacquardlaw7_awake_In E
  c63 : set_Set_Without_In E
  c65 : set_Of_In E

end Jq

namespace Jq
open Go

/- jacquard/jacquardlaw7.awake: 62 -/
set_option maxRecDepth 100000 in
theorem jacquardlaw7_awake_eq (C : CallF) (L : LoopF) (G : Glo)  (h0 : AHeap) :
    jacquardlaw7_awake.body C L G [] h0 =
    if (splice (splice [Cell.int .i64 0, Cell.int .i64 0] 0 ([(.int .i64 0)] : List Cell)) 1 ([(.int .i64 1)] : List Cell)).length = 2 * 1 then c1 (C 65 [(.c (.sl h0.length ((splice (splice [Cell.int .i64 0, Cell.int .i64 0] 0 ([(.int .i64 0)] : List Cell)) 1 ([(.int .i64 1)] : List Cell)).length) 0 2))] (h0 ++ [some (Blk.mk true 1 (splice (splice [Cell.int .i64 0, Cell.int .i64 0] 0 ([(.int .i64 0)] : List Cell)) 1 ([(.int .i64 1)] : List Cell)))])) fun y_2 h_1 => asI .u64 y_2 fun n_3 => c1 (C 60 [(.c (.int .u64 n_3))] h_1) fun y_5 h_4 => asI .u64 y_5 fun n_6 => c1 (C 32 [(.c (.int .u64 n_6))] h_4) fun y_8 h_7 => asC y_8 fun x_9 => scK (n_3 == 3) true (c1 (C 56 [(.c (.int .u64 n_3))] h_7) fun y_11 h_10 => asI .i64 y_11 fun n_12 => some ((n_12 == 2), h_10)) false h_7 fun b_13 h_14 => scK b_13 true (lenK x_9 fun n_15 => some ((n_15 == 2), h_14)) false h_14 fun b_16 h_17 => scK b_16 true (idxSK 1 x_9 1 fun k_18 N_19 o_20 => rdH h_17 k_18 N_19 fun l_21 => atK l_21 o_20 fun q_22 => asI .i64 (.c q_22) fun n_23 => some ((n_23 == 2), h_17)) false h_17 fun b_24 h_25 => scK b_24 true (c1 (C 61 [(.c (.int .i64 3))] h_25) fun y_27 h_26 => asI .u64 y_27 fun n_28 => some ((n_28 == 7), h_26)) false h_25 fun b_29 h_30 => scK b_29 true (c1 (C 38 [(.c (.int .u64 0))] h_30) fun y_32 h_31 => asI .i64 y_32 fun n_33 => some ((n_33 == (-1)), h_31)) false h_30 fun b_34 h_35 => finish true h0 [(.c (.bool b_34))] h_35 else none := by kernel_rfl

/- jacquard/jacquardlaw7.in: 64 -/
set_option maxRecDepth 100000 in
theorem jacquardlaw7_in_eq (C : CallF) (L : LoopF) (G : Glo) (a0 : Int) (h0 : AHeap) :
    jacquardlaw7_in.body C L G [(.c (.int .i64 a0))] h0 =
    scK (decide (a0 ≥ 0)) true (some ((decide (a0 < 64)), h0)) false h0 fun b_1 h_2 => if b_1 = true then some ([(.c (.int .i64 1))], h_2) else some ([(.c (.int .i64 0))], h_2) := by kernel_rfl

/- jacquard/jacquardlaw7.SetAlgebra: 235 -/
def jacquardlaw7_SetAlgebra_k2 (C : CallF) (L : LoopF) (G : Glo) (h0 : AHeap) : Ex → St → Option (List AV × AHeap) :=
  kSeq (fun st => jacquardlaw7_SetAlgebra_p1.exec C L G st (jacquardlaw7_SetAlgebra.fin G h0)) (jacquardlaw7_SetAlgebra.fin G h0)
def jacquardlaw7_SetAlgebra_k3 (C : CallF) (L : LoopF) (G : Glo) (h0 : AHeap) : Ex → St → Option (List AV × AHeap) :=
  kBlk 0 (jacquardlaw7_SetAlgebra_k2 C L G h0)
def jacquardlaw7_SetAlgebra_s1 (a2 : Int) (a7 : Int) (a8 : Int) (a9 : Int) (x10 : Cell) (a11 : Int) (h : AHeap) : St := ⟨[.top, .top, .v (.c (.int .i64 a2)), .top, .top, .top, .top, .v (.c (.int .u64 a7)), .v (.c (.int .u64 a8)), .v (.c (.int .i64 a9)), .v (.c x10), .v (.c (.int .i64 a11)), .top, .top, .top, .top, .top, .top, .top, .top, .top, .top, .top, .top, .top, .top, .top, .top, .top, .top, .top, .top, .top, .top, .top, .top, .top, .top, .top, .top, .top, .top, .top, .top, .top, .top, .top, .top, .top, .top, .top, .top, .top, .top, .top, .top, .top, .top, .top, .top, .top, .top, .top, .top, .top, .top, .top, .top, .top, .top, .top, .top, .top, .top, .top, .top, .top, .top, .top, .top, .top, .top, .top, .top, .top, .top, .top, .top, .top, .top, .top, .top, .top, .top, .top, .top, .top, .top, .top, .top, .top], [], h⟩
def jacquardlaw7_SetAlgebra_F1 (C : CallF) (L : LoopF) (G : Glo) : St → Option (Ex × St) :=
  roundF (fun st f => jacquardlaw7_SetAlgebra_b1.exec C L G st f) [2, 7, 8, 9, 10, 11] [] [(0, [6], []), (1, [2, 7, 8, 9], [])]
def jacquardlaw7_SetAlgebra_x1_0 (b6 : Bool) (h : AHeap) : St := ⟨[.top, .top, .top, .top, .top, .top, .v (.c (.bool b6)), .top, .top, .top, .top, .top, .top, .top, .top, .top, .top, .top, .top, .top, .top, .top, .top, .top, .top, .top, .top, .top, .top, .top, .top, .top, .top, .top, .top, .top, .top, .top, .top, .top, .top, .top, .top, .top, .top, .top, .top, .top, .top, .top, .top, .top, .top, .top, .top, .top, .top, .top, .top, .top, .top, .top, .top, .top, .top, .top, .top, .top, .top, .top, .top, .top, .top, .top, .top, .top, .top, .top, .top, .top, .top, .top, .top, .top, .top, .top, .top, .top, .top, .top, .top, .top, .top, .top, .top, .top, .top, .top, .top, .top, .top], [], h⟩
def jacquardlaw7_SetAlgebra_x1_1 (a2 : Int) (a7 : Int) (a8 : Int) (a9 : Int) (h : AHeap) : St := ⟨[.top, .top, .v (.c (.int .i64 a2)), .top, .top, .top, .top, .v (.c (.int .u64 a7)), .v (.c (.int .u64 a8)), .v (.c (.int .i64 a9)), .top, .top, .top, .top, .top, .top, .top, .top, .top, .top, .top, .top, .top, .top, .top, .top, .top, .top, .top, .top, .top, .top, .top, .top, .top, .top, .top, .top, .top, .top, .top, .top, .top, .top, .top, .top, .top, .top, .top, .top, .top, .top, .top, .top, .top, .top, .top, .top, .top, .top, .top, .top, .top, .top, .top, .top, .top, .top, .top, .top, .top, .top, .top, .top, .top, .top, .top, .top, .top, .top, .top, .top, .top, .top, .top, .top, .top, .top, .top, .top, .top, .top, .top, .top, .top, .top, .top, .top, .top, .top, .top], [], h⟩
theorem jacquardlaw7_SetAlgebra_r1 (C : CallF) (L : LoopF) (G : Glo) (a2 : Int) (a7 : Int) (a8 : Int) (a9 : Int) (x10 : Cell) (a11 : Int) (h : AHeap) :
    jacquardlaw7_SetAlgebra_F1 C L G (jacquardlaw7_SetAlgebra_s1 a2 a7 a8 a9 x10 a11 h) =
    lenK x10 fun n_4 => if (decide (a11 < n_4)) = true then scK (decide (a11 > 0)) true (idxSK 1 x10 a11 fun k_5 N_6 o_7 => rdH h k_5 N_6 fun l_8 => atK l_8 o_7 fun q_9 => asI .i64 (.c q_9) fun n_10 => idxSK 1 x10 (G.wrap .i64 (a11 - 1)) fun k_11 N_12 o_13 => rdH h k_11 N_12 fun l_14 => atK l_14 o_13 fun q_15 => asI .i64 (.c q_15) fun n_16 => some ((decide (n_10 ≤ n_16)), h)) false h fun b_17 h_18 => scK b_17 false (idxSK 1 x10 a11 fun k_19 N_20 o_21 => rdH h_18 k_19 N_20 fun l_22 => atK l_22 o_21 fun q_23 => asI .i64 (.c q_23) fun n_24 => c1 (qh h_18 (C 17 [(.c (.int .u64 a7)), (.c (.int .i64 n_24))] h_18)) fun y_26 h_25 => asB y_26 fun b_27 => some ((!b_27), h_18)) true h_18 fun b_28 h_29 => if b_28 = true then some (.ret, (jacquardlaw7_SetAlgebra_x1_0 false h_29)) else idxSK 1 x10 a11 fun k_30 N_31 o_32 => rdH h_29 k_30 N_31 fun l_33 => atK l_33 o_32 fun q_34 => asI .i64 (.c q_34) fun n_35 => c1 (C 17 [(.c (.int .u64 a8)), (.c (.int .i64 n_35))] h_29) fun y_37 h_36 => asB y_37 fun b_38 => if b_38 = true then some (.normal, (jacquardlaw7_SetAlgebra_s1 a2 a7 a8 (G.wrap .i64 (a9 + 1)) x10 (G.wrap .i64 (a11 + 1)) h_36)) else some (.normal, (jacquardlaw7_SetAlgebra_s1 a2 a7 a8 a9 x10 (G.wrap .i64 (a11 + 1)) h_36)) else some ((.exit 0), (jacquardlaw7_SetAlgebra_x1_1 a2 a7 a8 a9 h)) := by kernel_rfl
theorem jacquardlaw7_SetAlgebra_e1_0 (C : CallF) (L : LoopF) (G : Glo) (h0 : AHeap) (b6 : Bool) (h : AHeap) :
    (jacquardlaw7_SetAlgebra_k3 C L G h0) .ret (jacquardlaw7_SetAlgebra_x1_0 b6 h) =
    some ([(.c (.bool b6))], h) := by kernel_rfl
theorem jacquardlaw7_SetAlgebra_e1_1 (C : CallF) (L : LoopF) (G : Glo) (h0 : AHeap) (a2 : Int) (a7 : Int) (a8 : Int) (a9 : Int) (h : AHeap) :
    (jacquardlaw7_SetAlgebra_k3 C L G h0) (.exit 0) (jacquardlaw7_SetAlgebra_x1_1 a2 a7 a8 a9 h) =
    c1 (C 56 [(.c (.int .u64 (G.bor .u64 a7 a8)))] h) fun y_40 h_39 => asI .i64 y_40 fun n_41 => c1 (C 56 [(.c (.int .u64 a7))] h_39) fun y_43 h_42 => asI .i64 y_43 fun n_44 => c1 (C 56 [(.c (.int .u64 a8))] h_42) fun y_46 h_45 => asI .i64 y_46 fun n_47 => let v_48 : Int := (G.wrap .i64 ((G.wrap .i64 (n_44 + n_47)) - a9)); scK (n_41 == v_48) true (c1 (C 56 [(.c (.int .u64 (G.band .u64 a7 a8)))] h_45) fun y_50 h_49 => asI .i64 y_50 fun n_51 => some ((n_51 == a9), h_49)) false h_45 fun b_52 h_53 => scK b_52 true (c1 (C 56 [(.c (.int .u64 (G.bandNot .u64 a7 a8)))] h_53) fun y_55 h_54 => asI .i64 y_55 fun n_56 => c1 (C 56 [(.c (.int .u64 a7))] h_54) fun y_58 h_57 => asI .i64 y_58 fun n_59 => some ((n_56 == (G.wrap .i64 (n_59 - a9))), h_57)) false h_53 fun b_60 h_61 => scK b_60 true (c1 (C 18 [(.c (.int .u64 a7)), (.c (.int .i64 a2))] h_61) fun y_63 h_62 => asI .u64 y_63 fun n_64 => c1 (C 56 [(.c (.int .u64 n_64))] h_62) fun y_66 h_65 => asI .i64 y_66 fun n_67 => c1 (C 63 [(.c (.int .u64 a7)), (.c (.int .i64 a2))] h_65) fun y_69 h_68 => asI .u64 y_69 fun n_70 => c1 (C 56 [(.c (.int .u64 n_70))] h_68) fun y_72 h_71 => asI .i64 y_72 fun n_73 => c1 (C 64 [(.c (.int .i64 a2))] h_71) fun y_75 h_74 => asI .i64 y_75 fun n_76 => some (((G.wrap .i64 (n_67 - n_73)) == n_76), h_74)) false h_61 fun b_77 h_78 => scK b_77 true (c1 (C 62 [] h_78) fun y_80 h_79 => asB y_80 fun b_81 => some (b_81, h_79)) false h_78 fun b_82 h_83 => some ([(.c (.bool b_82))], h_83) := by kernel_rfl
set_option maxRecDepth 100000 in
theorem jacquardlaw7_SetAlgebra_eq (C : CallF) (L : LoopF) (G : Glo) (a0 : Int) (a1 : Int) (a2 : Int) (h0 : AHeap) :
    jacquardlaw7_SetAlgebra.body C L G [(.c (.int .u64 a0)), (.c (.int .u64 a1)), (.c (.int .i64 a2))] h0 =
    c1 (C 32 [(.c (.int .u64 a0))] h0) fun y_2 h_1 => asC y_2 fun x_3 => (L (jacquardlaw7_SetAlgebra_F1 C L G) (jacquardlaw7_SetAlgebra_s1 a2 a0 a1 0 x_3 0 h_1)).bind fun p_84 => (jacquardlaw7_SetAlgebra_k3 C L G h0) p_84.1 p_84.2 := by kernel_rfl

/- jacquard/jacquardlaw7.SetUptos: 237 -/
set_option maxRecDepth 100000 in
theorem jacquardlaw7_SetUptos_eq (C : CallF) (L : LoopF) (G : Glo) (a0 : Int) (a1 : Int) (a2 : Int) (h0 : AHeap) :
    jacquardlaw7_SetUptos.body C L G [(.c (.int .i64 a0)), (.c (.int .u64 a1)), (.c (.int .i64 a2))] h0 =
    c1 (C 61 [(.c (.int .i64 a0))] h0) fun y_2 h_1 => asI .u64 y_2 fun n_3 => let v_4 : Int := (if 64 < (if 0 > a0 then 0 else a0) then 64 else (if 0 > a0 then 0 else a0)); c1 (C 56 [(.c (.int .u64 n_3))] h_1) fun y_6 h_5 => asI .i64 y_6 fun n_7 => scK (n_7 == v_4) true (scK (v_4 == 0) false (c1 (C 17 [(.c (.int .u64 n_3)), (.c (.int .i64 (G.wrap .i64 (v_4 - 1))))] h_5) fun y_9 h_8 => asB y_9 fun b_10 => some (b_10, h_8)) true h_5 fun b_11 h_12 => some (b_11, h_12)) false h_5 fun b_13 h_14 => scK b_13 true (c1 (C 17 [(.c (.int .u64 n_3)), (.c (.int .i64 v_4))] h_14) fun y_16 h_15 => asB y_16 fun b_17 => some ((!b_17), h_15)) false h_14 fun b_18 h_19 => scK b_18 true (c1 (C 18 [(.c (.int .u64 a1)), (.c (.int .i64 (G.band .i64 a2 63)))] h_19) fun y_21 h_20 => asI .u64 y_21 fun n_22 => c1 (C 63 [(.c (.int .u64 n_22)), (.c (.int .i64 (G.band .i64 a2 63)))] h_20) fun y_24 h_23 => asI .u64 y_24 fun n_25 => c1 (C 63 [(.c (.int .u64 a1)), (.c (.int .i64 (G.band .i64 a2 63)))] h_23) fun y_27 h_26 => asI .u64 y_27 fun n_28 => some ((n_25 == n_28), h_26)) false h_19 fun b_29 h_30 => scK b_29 true (c1 (C 63 [(.c (.int .u64 a1)), (.c (.int .i64 (G.band .i64 a2 63)))] h_30) fun y_32 h_31 => asI .u64 y_32 fun n_33 => c1 (C 18 [(.c (.int .u64 n_33)), (.c (.int .i64 (G.band .i64 a2 63)))] h_31) fun y_35 h_34 => asI .u64 y_35 fun n_36 => c1 (C 18 [(.c (.int .u64 a1)), (.c (.int .i64 (G.band .i64 a2 63)))] h_34) fun y_38 h_37 => asI .u64 y_38 fun n_39 => some ((n_36 == n_39), h_37)) false h_30 fun b_40 h_41 => scK b_40 true (c1 (C 18 [(.c (.int .u64 a1)), (.c (.int .i64 (G.band .i64 a2 63)))] h_41) fun y_43 h_42 => asI .u64 y_43 fun n_44 => c1 (C 17 [(.c (.int .u64 n_44)), (.c (.int .i64 (G.band .i64 a2 63)))] h_42) fun y_46 h_45 => asB y_46 fun b_47 => some (b_47, h_45)) false h_41 fun b_48 h_49 => scK b_48 true (c1 (C 32 [(.c (.int .u64 a1))] h_49) fun y_51 h_50 => asC y_51 fun x_52 => c1 (C 65 [(.c x_52)] h_50) fun y_54 h_53 => asI .u64 y_54 fun n_55 => some ((n_55 == a1), h_53)) false h_49 fun b_56 h_57 => scK b_56 true (c1 (C 62 [] h_57) fun y_59 h_58 => asB y_59 fun b_60 => some (b_60, h_58)) false h_57 fun b_61 h_62 => some ([(.c (.bool b_61))], h_62) := by kernel_rfl


end Jq

/- The statements of few numbers in one word. -/
namespace Jq
open Go

theorem boolL_congr {s t : Nat → Bool} {n : Nat} (h : ∀ i, i < n → s i = t i) : boolL s n = boolL t n := by
  unfold boolL
  exact List.map_congr_left fun i hi => by rw [h i (by simpa using hi)]

/- Counting. -/
theorem filt_or (p q : Nat → Bool) : ∀ l : List Nat, (l.filter fun i => p i || q i).length + (l.filter fun i => p i && q i).length = (l.filter p).length + (l.filter q).length
  | [] => rfl
  | a :: l => by
    have ih := filt_or p q l
    simp only [List.filter_cons]
    cases p a <;> cases q a <;> simp <;> omega

theorem filt_diff (p q : Nat → Bool) : ∀ l : List Nat, (l.filter fun i => p i && !q i).length + (l.filter fun i => p i && q i).length = (l.filter p).length
  | [] => rfl
  | a :: l => by
    have ih := filt_diff p q l
    simp only [List.filter_cons]
    cases p a <;> cases q a <;> simp <;> omega

theorem pc_or (a b : Nat) : pc (a ||| b) + pc (a &&& b) = pc a + pc b := by
  simp only [pc_bitsL, bitsL, Nat.testBit_or, Nat.testBit_and]; exact filt_or _ _ _
theorem pc_ndiff (a b : Nat) : pc (ndiff a b) + pc (a &&& b) = pc a := by
  simp only [pc_bitsL, bitsL, testBit_ndiff, Nat.testBit_and]; exact filt_diff _ _ _

theorem pc_two_pow : ∀ k, k < 64 → pc (2 ^ k) = 1 := by decide +kernel
theorem pc_upto : ∀ k, k ≤ 64 → pc (2 ^ k - 1) = k := by decide +kernel

theorem pc_le64 (s : Nat) : pc s ≤ 64 := by
  rw [pc_bitsL]; unfold bitsL; exact Nat.le_trans (List.length_filter_le _ _) (by simp)

theorem pc_bitI (i : Int) : pc (bitI i) = if 0 ≤ i ∧ i < 64 then 1 else 0 := by
  unfold bitI
  split
  · exact pc_two_pow _ (by omega)
  · decide

theorem pc_with (s : Nat) (i : Int) : pc (s ||| bitI i) = pc (ndiff s (bitI i)) + if 0 ≤ i ∧ i < 64 then 1 else 0 := by
  have h1 := pc_or s (bitI i)
  have h2 := pc_ndiff s (bitI i)
  have h3 := pc_bitI i
  omega

theorem testBit_big {s j : Nat} (hs : s < 2 ^ 64) (hj : 64 ≤ j) : s.testBit j = false :=
  Nat.testBit_lt_two_pow (Nat.lt_of_lt_of_le hs (Nat.pow_le_pow_right (by omega) hj))

theorem of_bitsL {s : Nat} (hs : s < 2 ^ 64) : ofL ((bitsL s).map fun (n : Nat) => (n : Int)) = s := by
  refine Nat.eq_of_testBit_eq fun j => ?_
  rw [Bool.eq_iff_iff, ofL_bit]
  constructor
  · rintro ⟨h1, h2⟩
    obtain ⟨n, hn, he⟩ := List.mem_map.1 h2
    have : n = j := by omega
    subst this
    exact (mem_bitsL.1 hn).2
  · intro h
    have hj : j < 64 := by
      rcases Nat.lt_or_ge j 64 with h1 | h1
      · exact h1
      · rw [testBit_big hs h1] at h; cases h
    exact ⟨hj, List.mem_map.2 ⟨j, mem_bitsL.2 ⟨hj, h⟩, rfl⟩⟩

variable {E : Env}

theorem SlAt.one {h : AHeap} {l : List Int} {k : IntKind} (t : AHeap) : SlAt (h ++ some ⟨true, 1, intC k l⟩ :: t) (.sl h.length l.length 0 l.length) 1 (intC k l) l.length := by
  refine ⟨by rw [intC_len]; omega, .inr ⟨_, _, 0, rfl, .inr ⟨⟨true, 1, intC k l⟩, by unfold blk?; simp, intC_len k l, by omega, fun j _ => by simp⟩⟩⟩

theorem awake7_R (hE : jacquardlaw7_awake_In E) (ht : TabOk E) (h : AHeap) : R E 62 [] h = some ([.c (.bool true)], h) := by
  refine R_intro hE.fn ?_
  rw [jacquardlaw7_awake_eq, show splice (splice [Cell.int .i64 0, Cell.int .i64 0] 0 [Cell.int .i64 0]) 1 [Cell.int .i64 1] = intC .i64 [0, 1] from rfl, if_pos (show (List.length (intC .i64 [0, 1]) : Nat) = 2 * 1 from rfl)]
  have hsl : SlAt (h ++ [some ⟨true, 1, intC .i64 [0, 1]⟩]) (.sl h.length (intC .i64 [0, 1]).length 0 2) 1 (intC .i64 [0, 1]) [(0 : Int), 1].length := SlAt.one (l := [0, 1]) []
  have e3 : ofL [0, 1] = 3 := by decide
  rw [OfS_R hE.c65 hsl (by decide), c1_ok, asI_ok, e3, Next_R hE.c60 ht (by decide), c1_ok, asI_ok, show nextN 3 = 5 by decide]
  obtain ⟨x, h', hL, ho, hk⟩ := List_R hE.c32 ht (s := 5) (by decide) (h ++ [some ⟨true, 1, intC .i64 [0, 1]⟩])
  rw [show bitsL 5 = [0, 2] by decide] at ho
  rw [hL, c1_ok, asC_ok, Len_R hE.c56 (by decide), c1_ok, asI_ok, show ((((3 : Nat) : Int)) == 3) = true from rfl, scK_ok, bind_ok, show pc 3 = 2 by decide]
  dsimp only
  rw [show ((((2 : Nat) : Int)) == 2) = true from rfl, scK_ok, ho.at.len, bind_ok]
  dsimp only
  rw [show (((List.length [0, 2] : Nat) : Int) == 2) = true from rfl, scK_ok, ho.at.getAt (i := 1) 1 rfl (by decide) (natC_get (l := [0, 2]) (i := 1) rfl), asI_ok, bind_ok]
  dsimp only
  rw [show ((((2 : Nat) : Int)) == 2) = true from rfl, scK_ok, Upto_R hE.c61, c1_ok, asI_ok, bind_ok]
  dsimp only
  rw [show (((2 ^ min (3 : Int).toNat 64 - 1 : Nat) : Int) == 7) = true by decide, scK_ok, show (0 : Int) = ((0 : Nat) : Int) from rfl, First_R hE.c38 ht (by decide), c1_ok, asI_ok, bind_ok]
  dsimp only
  rw [show (firstI 0 == -1) = true from rfl]
  refine finish_gc ((Kp.app _ (Nat.le_refl _)).trans (hk.mono (by simp))) (by simp [avOk, AV.cells, idOk])

theorem in7_R (hE : jacquardlaw7_in_In E) (i : Int) (h : AHeap) : R E 64 [.c (.int .i64 i)] h = some ([.c (.int .i64 (if 0 ≤ i ∧ i < 64 then 1 else 0))], h) := by
  refine R_intro hE.fn ?_
  rw [jacquardlaw7_in_eq, scK_and]
  by_cases hi : 0 ≤ i ∧ i < 64
  · rw [if_pos hi, show (decide (i ≥ 0) && decide (i < 64)) = true by simp; omega]; rfl
  · rw [if_neg hi, show (decide (i ≥ 0) && decide (i < 64)) = false by simp; omega]; rfl

theorem SetUptos_R (hE : jacquardlaw7_SetUptos_In E) (ht : TabOk E) (a0 : Int) {s : Nat} (hs : s < 2 ^ 64) (a2 : Int) (h : AHeap) :
    ∃ h', R E 237 [.c (.int .i64 a0), .c (.int .u64 s), .c (.int .i64 a2)] h = some ([.c (.bool true)], h') := by
  suffices hsf : ∃ h', jacquardlaw7_SetUptos.body (R E) Lim E.glob [.c (.int .i64 a0), .c (.int .u64 s), .c (.int .i64 a2)] h = some ([.c (.bool true)], h') by
    obtain ⟨h', hh⟩ := hsf; exact ⟨h', R_intro hE.fn hh⟩
  have hv : (if 64 < (if 0 > a0 then 0 else a0) then 64 else (if 0 > a0 then 0 else a0)) = ((min a0.toNat 64 : Nat) : Int) := by
    split <;> split <;> omega
  rw [jacquardlaw7_SetUptos_eq, Upto_R hE.c61, c1_ok, asI_ok]
  simp only [hv]
  have hk64 : min a0.toNat 64 ≤ 64 := Nat.min_le_right _ _
  generalize min a0.toNat 64 = k at hk64
  have hu : 2 ^ k - 1 < 2 ^ 64 := by
    have : 2 ^ k ≤ 2 ^ 64 := Nat.pow_le_pow_right (by omega) hk64
    omega
  obtain ⟨m, hm⟩ : ∃ m : Nat, a2 % 64 = m := ⟨(a2 % 64).toNat, by omega⟩
  have hm64 : m < 64 := by omega
  have hbm : bitI (m : Int) = 2 ^ m := by unfold bitI; rw [if_pos (by omega)]; simp
  have h1 := or_lt hs (bitI_lt (m : Int))
  have h2 : ndiff s (bitI (m : Int)) < 2 ^ 64 := ndiff_lt hs
  have e1 : ndiff (s ||| bitI (m : Int)) (bitI (m : Int)) = ndiff s (bitI (m : Int)) := by
    refine Nat.eq_of_testBit_eq fun j => ?_
    rw [testBit_ndiff, testBit_ndiff, Nat.testBit_or]; cases s.testBit j <;> cases (bitI (m : Int)).testBit j <;> rfl
  have e2 : ndiff s (bitI (m : Int)) ||| bitI (m : Int) = s ||| bitI (m : Int) := by
    refine Nat.eq_of_testBit_eq fun j => ?_
    rw [Nat.testBit_or, testBit_ndiff, Nat.testBit_or]; cases s.testBit j <;> cases (bitI (m : Int)).testBit j <;> rfl
  have e3 : hasI (s ||| bitI (m : Int)) (m : Int) = true := by
    rw [hasI_nat hm64, Nat.testBit_or, testBit_bitI]; simp [hm64]
  have e4 : hasI (2 ^ k - 1) (k : Int) = false := by
    unfold hasI
    rw [Int.toNat_natCast, Nat.testBit_two_pow_sub_one]; simp
  have hlast : ∀ {α : Type} (f : Bool → AHeap → Option α), scK ((k : Int) == 0) false (c1 (R E 17 [.c (.int .u64 ((2 ^ k - 1 : Nat) : Int)), .c (.int .i64 (E.glob.wrap .i64 ((k : Int) - 1)))] h) fun y h' => asB y fun b => some (b, h')) true h f = f true h := by
    intro α f
    by_cases hk0 : k = 0
    · subst hk0; rfl
    · have hne : ((k : Int) == 0) = false := by rw [beq_eq_false_iff_ne]; omega
      rw [hne, g_wrap_i64 (by omega) (by omega), show ((k : Int) - 1) = ((k - 1 : Nat) : Int) by omega, Has_R hE.c17 hu, c1_ok, asB_ok, scK_ok, bind_ok, hasI_nat (by omega), Nat.testBit_two_pow_sub_one]
      rw [show decide (k - 1 < k) = true by simp; omega]
  rw [Len_R hE.c56 hu, c1_ok, asI_ok, pc_upto k hk64, show (((k : Nat) : Int) == ((k : Nat) : Int)) = true from beq_self_eq_true _, scK_ok, hlast, bind_ok]
  dsimp only
  rw [scK_ok, Has_R hE.c17 hu, c1_ok, asB_ok, e4, bind_ok]
  dsimp only
  rw [show (!false) = true from rfl, g_band63, hm, scK_ok, With_R hE.c18 hs, c1_ok, asI_ok, Without_R hE.c63 h1, c1_ok, asI_ok, Without_R hE.c63 hs, c1_ok, asI_ok, bind_ok, e1]
  dsimp only
  rw [beq_self_eq_true, scK_ok, Without_R hE.c63 hs, c1_ok, asI_ok, With_R hE.c18 h2, c1_ok, asI_ok, With_R hE.c18 hs, c1_ok, asI_ok, bind_ok, e2]
  dsimp only
  rw [beq_self_eq_true, scK_ok, With_R hE.c18 hs, c1_ok, asI_ok, Has_R hE.c17 h1, c1_ok, asB_ok, bind_ok, e3]
  dsimp only
  obtain ⟨x, h', hL, ho, hk⟩ := List_R hE.c32 ht hs h
  have hat : SlAt h' x 1 (intC .i64 ((bitsL s).map fun (n : Nat) => (n : Int))) ((bitsL s).map fun (n : Nat) => (n : Int)).length := by
    rw [List.length_map]; exact ho.at
  have hl : ((bitsL s).map fun (n : Nat) => (n : Int)).length < 9223372036854775807 := by
    rw [List.length_map, ← pc_bitsL]; have := pc_le64 s; omega
  rw [scK_ok, hL, c1_ok, asC_ok, OfS_R hE.c65 hat hl, c1_ok, asI_ok, bind_ok, of_bitsL hs]
  dsimp only
  rw [beq_self_eq_true, scK_ok, awake7_R hE.c62 ht, c1_ok, asB_ok, bind_ok]
  exact ⟨_, rfl⟩

theorem SetUptos_law (ht : TabOk E) (hE : jacquardlaw7_SetUptos_In E) {h : AHeap} {c0 c1 c2 : List Cell} (o0 : okC h (.i .i64) c0) (o1 : okC h (.i .u64) c1) (o2 : okC h (.i .i64) c2) :
    ∃ h', R E 237 [av1 (.i .i64) c0, av1 (.i .u64) c1, av1 (.i .i64) c2] h = some ([.c (.bool true)], h') := by
  obtain ⟨a0, e0, _⟩ := arg_int o0
  obtain ⟨s, e1, hs⟩ := arg_u64 o1
  obtain ⟨a2, e2, _⟩ := arg_int o2
  rw [e0, e1, e2]
  exact SetUptos_R hE ht a0 hs a2 h

theorem bits_rise (s : Nat) {i a b : Nat} (ha : (bitsL s)[i]? = some a) (hb : (bitsL s)[i + 1]? = some b) : a < b := by
  have hp : (bitsL s).Pairwise (· < ·) := List.Pairwise.filter _ List.pairwise_lt_range
  obtain ⟨h1, rfl⟩ := List.getElem?_eq_some_iff.1 ha
  obtain ⟨h2, rfl⟩ := List.getElem?_eq_some_iff.1 hb
  exact List.pairwise_iff_getElem.1 hp i (i + 1) h1 h2 (by omega)

theorem SetAlgebra_R (hE : jacquardlaw7_SetAlgebra_In E) (ht : TabOk E) {a b : Nat} (ha : a < 2 ^ 64) (hb : b < 2 ^ 64) (i : Int) (h : AHeap) :
    ∃ h', R E 235 [.c (.int .u64 a), .c (.int .u64 b), .c (.int .i64 i)] h = some ([.c (.bool true)], h') := by
  suffices hsf : ∃ h', jacquardlaw7_SetAlgebra.body (R E) Lim E.glob [.c (.int .u64 a), .c (.int .u64 b), .c (.int .i64 i)] h = some ([.c (.bool true)], h') by
    obtain ⟨h', hh⟩ := hsf; exact ⟨h', R_intro hE.fn hh⟩
  obtain ⟨x, h', hL, ho, hk⟩ := List_R hE.c32 ht ha h
  rw [jacquardlaw7_SetAlgebra_eq, hL, c1_ok, asC_ok]
  have hlen : (bitsL a).length ≤ 64 := by rw [← pc_bitsL]; exact pc_le64 a
  have loop : Lim (jacquardlaw7_SetAlgebra_F1 (R E) Lim E.glob) (jacquardlaw7_SetAlgebra_s1 i a b ((((bitsL a).take 0).filter fun k => b.testBit k).length : Nat) x ((0 : Nat) : Int) h') = some (.exit 0, jacquardlaw7_SetAlgebra_x1_1 i a b ((((bitsL a).take (bitsL a).length).filter fun k => b.testBit k).length : Nat) h') := by
    refine Lim_count (fun k => jacquardlaw7_SetAlgebra_s1 i a b ((((bitsL a).take k).filter fun k => b.testBit k).length : Nat) x (k : Int) h') 0 (bitsL a).length (by omega) (fun k _ hk2 => ?_) (Lim_exit ?_)
    · obtain ⟨m, hm⟩ : ∃ m, (bitsL a)[k]? = some m := ⟨(bitsL a)[k], by simp⟩
      obtain ⟨hm64, hbit⟩ := mem_bitsL.1 (List.mem_of_getElem? hm)
      have hfl : (((bitsL a).take k).filter fun k => b.testBit k).length ≤ 64 := Nat.le_trans (List.length_filter_le _ _) (by simp; omega)
      have hfirst : ∀ {α : Type} (f : Bool → AHeap → Option α), (scK (decide ((k : Int) > 0)) true (idxSK 1 x (k : Int) fun kk N o => rdH h' kk N fun l => atK l o fun q => asI .i64 (.c q) fun n_10 => idxSK 1 x (E.glob.wrap .i64 ((k : Int) - 1)) fun kk N o => rdH h' kk N fun l => atK l o fun q => asI .i64 (.c q) fun n_16 => some ((decide (n_10 ≤ n_16)), h')) false h' f) = f false h' := by
        intro α f
        cases k with
        | zero => rfl
        | succ k =>
          obtain ⟨m0, hm0⟩ : ∃ m, (bitsL a)[k]? = some m := ⟨(bitsL a)[k], by simp⟩
          have hr := bits_rise a hm0 hm
          rw [show decide (((k + 1 : Nat) : Int) > 0) = true by rw [decide_eq_true_eq]; omega, scK_ok, ho.at.get1 hk2 (natC_get hm), asI_ok, ho.at.getAt k (by rw [g_wrap_i64 (by omega) (by omega)]; omega) (by omega) (natC_get hm0), asI_ok, bind_ok]
          rw [show decide (((m : Nat) : Int) ≤ ((m0 : Nat) : Int)) = false by rw [decide_eq_false_iff_not]; omega]
      rw [jacquardlaw7_SetAlgebra_r1, ho.at.len, if_pos (by simp; omega), hfirst, scK_ok, ho.at.get1 hk2 (natC_get hm), asI_ok, Has_R hE.c17 ha, qh_ok, c1_ok, asB_ok, hasI_nat hm64, hbit, bind_ok]
      simp only [Bool.not_true, Bool.false_eq_true, if_false]
      rw [ho.at.get1 hk2 (natC_get hm), asI_ok, Has_R hE.c17 hb, c1_ok, asB_ok, hasI_nat hm64, List.take_add_one, hm, show (some m).toList = [m] from rfl, List.filter_append, List.length_append, List.filter_cons, List.filter_nil, g_succ (by omega)]
      cases b.testBit m with
      | true => simp only [if_true]; rw [g_succ (by omega)]; rfl
      | false => simp only [Bool.false_eq_true, if_false]; rw [g_succ (by omega)]; rfl
    · rw [jacquardlaw7_SetAlgebra_r1, ho.at.len, if_neg (by simp)]
  have hcount : (((bitsL a).take (bitsL a).length).filter fun k => b.testBit k).length = pc (a &&& b) := by
    rw [List.take_length, pc_bitsL, bitsL, bitsL, List.filter_filter]
    congr 2
    funext k; rw [Nat.testBit_and, Bool.and_comm]
  rw [hcount] at loop
  have l1 := pc_le64 a
  have l2 := pc_le64 b
  have q1 := pc_or a b
  have q2 := pc_ndiff a b
  have q3 := pc_with a i
  have l3 := pc_le64 (a ||| bitI i)
  rw [show jacquardlaw7_SetAlgebra_s1 i a b 0 x 0 h' = jacquardlaw7_SetAlgebra_s1 i a b ((((bitsL a).take 0).filter fun k => b.testBit k).length : Nat) x ((0 : Nat) : Int) h' from rfl, loop, bind_ok, jacquardlaw7_SetAlgebra_e1_1]
  have g1 : E.glob.wrap .i64 (E.glob.wrap .i64 (((pc a : Nat) : Int) + ((pc b : Nat) : Int)) - ((pc (a &&& b) : Nat) : Int)) = ((pc (a ||| b) : Nat) : Int) := by
    rw [g_wrap_i64 (x := ((pc a : Nat) : Int) + ((pc b : Nat) : Int)) (by omega) (by omega), g_wrap_i64 (by omega) (by omega)]; omega
  have g2 : E.glob.wrap .i64 (((pc a : Nat) : Int) - ((pc (a &&& b) : Nat) : Int)) = ((pc (ndiff a b) : Nat) : Int) := by
    rw [g_wrap_i64 (by omega) (by omega)]; omega
  have g3 : E.glob.wrap .i64 (((pc (a ||| bitI i) : Nat) : Int) - ((pc (ndiff a (bitI i)) : Nat) : Int)) = (if 0 ≤ i ∧ i < 64 then 1 else 0) := by
    rw [g_wrap_i64 (by omega) (by omega), q3]; split <;> omega
  rw [g_bor ha hb, Len_R hE.c56 (or_lt ha hb), c1_ok, asI_ok, Len_R hE.c56 ha, c1_ok, asI_ok, Len_R hE.c56 hb, c1_ok, asI_ok]
  simp only [g1]
  rw [beq_self_eq_true, scK_ok, g_band ha hb, Len_R hE.c56 (and_lt ha), c1_ok, asI_ok, bind_ok]
  dsimp only
  rw [beq_self_eq_true, scK_ok, g_bandNot ha hb, Len_R hE.c56 (ndiff_lt ha), c1_ok, asI_ok, Len_R hE.c56 ha, c1_ok, asI_ok, bind_ok, g2]
  dsimp only
  rw [beq_self_eq_true, scK_ok, With_R hE.c18 ha, c1_ok, asI_ok, Len_R hE.c56 (or_lt ha (bitI_lt _)), c1_ok, asI_ok, Without_R hE.c63 ha, c1_ok, asI_ok, Len_R hE.c56 (ndiff_lt ha), c1_ok, asI_ok, in7_R hE.c64, c1_ok, asI_ok, bind_ok, g3]
  dsimp only
  rw [beq_self_eq_true, scK_ok, awake7_R hE.c62 ht, c1_ok, asB_ok, bind_ok]
  exact ⟨_, rfl⟩

theorem SetAlgebra_law (ht : TabOk E) (hE : jacquardlaw7_SetAlgebra_In E) {h : AHeap} {c0 c1 c2 : List Cell} (o0 : okC h (.i .u64) c0) (o1 : okC h (.i .u64) c1) (o2 : okC h (.i .i64) c2) :
    ∃ h', R E 235 [av1 (.i .u64) c0, av1 (.i .u64) c1, av1 (.i .i64) c2] h = some ([.c (.bool true)], h') := by
  obtain ⟨a, e0, ha⟩ := arg_u64 o0
  obtain ⟨b, e1, hb⟩ := arg_u64 o1
  obtain ⟨i, e2, _⟩ := arg_int o2
  rw [e0, e1, e2]
  exact SetAlgebra_R hE ht ha hb i h

end Jq

namespace Jq
open Go

/- jacquard/clock.Of: 2 -/
def clock_Of_k2 (C : CallF) (L : LoopF) (G : Glo) (h0 : AHeap) : Ex → St → Option (List AV × AHeap) :=
  kSeq (fun st => clock_Of_p1.exec C L G st (clock_Of.fin G h0)) (clock_Of.fin G h0)
def clock_Of_k3 (C : CallF) (L : LoopF) (G : Glo) (h0 : AHeap) : Ex → St → Option (List AV × AHeap) :=
  kBlk 0 (clock_Of_k2 C L G h0)
def clock_Of_s2 (x1 : Cell) (x6 : Cell) (a26 : Int) (a27 : Int) (s1 : List Cell) (h : AHeap) : St := ⟨[.top, .v (.c x1), .top, .top, .top, .loc 1 0, .v (.c x6), .top, .top, .top, .top, .top, .top, .top, .top, .top, .top, .top, .top, .top, .top, .top, .top, .top, .top, .top, .v (.c (.int .i64 a26)), .v (.c (.int .i64 a27)), .top, .top, .top, .top, .top, .top, .top, .top, .top, .top, .top, .top, .top, .top, .top, .top, .top, .top, .top, .top, .top, .top, .top, .top, .top, .top, .top, .top, .top, .top, .top], [none, some s1], h⟩
def clock_Of_F2 (C : CallF) (L : LoopF) (G : Glo) : St → Option (Ex × St) :=
  roundF (fun st f => clock_Of_b2.exec C L G st f) [1, 5, 6, 26, 27] [1] [(1, [6], [])]
def clock_Of_k4 (C : CallF) (L : LoopF) (G : Glo) : Ex → St → Option (Ex × St) :=
  kSeq (fun st => clock_Of_p2.exec C L G st (kLoop [1, 5, 6, 26, 27] [1] [(1, [6], [])])) (kLoop [1, 5, 6, 26, 27] [1] [(1, [6], [])])
def clock_Of_k5 (C : CallF) (L : LoopF) (G : Glo) : Ex → St → Option (Ex × St) :=
  kBlk 1 (clock_Of_k4 C L G)
def clock_Of_k6 (C : CallF) (L : LoopF) (G : Glo) : Ex → St → Option (Ex × St) :=
  kBlk 2 (clock_Of_k5 C L G)
def clock_Of_s1 (x1 : Cell) (x6 : Cell) (a7 : Int) (a26 : Int) (a27 : Int) (x30 : Cell) (a31 : Int) (a32 : Int) (s1 : List Cell) (h : AHeap) : St := ⟨[.top, .v (.c x1), .top, .top, .top, .loc 1 0, .v (.c x6), .v (.c (.int .i64 a7)), .top, .top, .top, .top, .top, .top, .top, .top, .top, .top, .top, .top, .top, .top, .top, .top, .top, .top, .v (.c (.int .i64 a26)), .v (.c (.int .i64 a27)), .top, .top, .v (.c x30), .v (.c (.int .i64 a31)), .v (.c (.int .i64 a32)), .top, .top, .top, .top, .top, .top, .top, .top, .top, .top, .top, .top, .top, .top, .top, .top, .top, .top, .top, .top, .top, .top, .top, .top, .top, .top], [none, some s1], h⟩
def clock_Of_F1 (C : CallF) (L : LoopF) (G : Glo) : St → Option (Ex × St) :=
  roundF (fun st f => clock_Of_b1.exec C L G st f) [1, 5, 6, 7, 26, 27, 30, 31, 32] [1] [(3, [1, 5, 6, 26, 27], [1])]
def clock_Of_x1_3 (x1 : Cell) (x6 : Cell) (a26 : Int) (a27 : Int) (s1 : List Cell) (h : AHeap) : St := ⟨[.top, .v (.c x1), .top, .top, .top, .loc 1 0, .v (.c x6), .top, .top, .top, .top, .top, .top, .top, .top, .top, .top, .top, .top, .top, .top, .top, .top, .top, .top, .top, .v (.c (.int .i64 a26)), .v (.c (.int .i64 a27)), .top, .top, .top, .top, .top, .top, .top, .top, .top, .top, .top, .top, .top, .top, .top, .top, .top, .top, .top, .top, .top, .top, .top, .top, .top, .top, .top, .top, .top, .top, .top], [none, some s1], h⟩
def clock_Of_x2_1 (x6 : Cell) (h : AHeap) : St := ⟨[.top, .top, .top, .top, .top, .top, .v (.c x6), .top, .top, .top, .top, .top, .top, .top, .top, .top, .top, .top, .top, .top, .top, .top, .top, .top, .top, .top, .top, .top, .top, .top, .top, .top, .top, .top, .top, .top, .top, .top, .top, .top, .top, .top, .top, .top, .top, .top, .top, .top, .top, .top, .top, .top, .top, .top, .top, .top, .top, .top, .top], [none, none], h⟩
theorem clock_Of_r1 (C : CallF) (L : LoopF) (G : Glo) (x1 : Cell) (x6 : Cell) (a7 : Int) (a26 : Int) (a27 : Int) (x30 : Cell) (a31 : Int) (a32 : Int) (s1 : List Cell) (h : AHeap) :
    clock_Of_F1 C L G (clock_Of_s1 x1 x6 a7 a26 a27 x30 a31 a32 s1 h) =
    if (decide (a32 < a31)) = true then idxSK 1 x30 a32 fun k_14 N_15 o_16 => rdH h k_14 N_15 fun l_17 => atK l_17 o_16 fun q_18 => asI .i64 (.c q_18) fun n_19 => scK (a32 == a7) false (if 0 = 0 ∧ s1.length = 65 then c1 (C 3 [(.agg s1), (.c (.int .i64 a32)), (.c (.int .i64 a7))] h) fun y_21 h_20 => asB y_21 fun b_22 => some (b_22, h_20) else none) true h fun b_23 h_24 => if b_23 = true then c1 (qh h_24 (C 15 [(.c (.int .i64 n_19))] h_24)) fun y_26 h_25 => asI .i64 y_26 fun n_27 => idxSK 24 x6 a7 fun k_28 N_29 o_30 => if 0 ≤ n_27 ∧ n_27 < ((24 : Nat) : Int) then rdH h_24 k_28 N_29 fun l_31 => atK l_31 (o_30 + ((Int.toNat n_27) * 1)) fun q_32 => asI .i64 (.c q_32) fun n_33 => idxSK 24 x6 a7 fun k_34 N_35 o_36 => if 0 ≤ n_27 ∧ n_27 < ((24 : Nat) : Int) then rdH h_24 k_34 N_35 fun l_37 => if (o_36 + ((Int.toNat n_27) * 1)) < l_37.length then putH h_24 k_34 (l_37.set (o_36 + ((Int.toNat n_27) * 1)) (.int .i64 (G.wrap .i64 (n_33 + 1)))) fun h_38 => some (.normal, (clock_Of_s1 x1 x6 a7 a26 a27 x30 a31 (G.wrap .i64 (a32 + 1)) s1 h_38)) else none else none else none else some (.normal, (clock_Of_s1 x1 x6 a7 a26 a27 x30 a31 (G.wrap .i64 (a32 + 1)) s1 h_24)) else some ((.exit 2), (clock_Of_x1_3 x1 x6 a26 a27 s1 h)) := by kernel_rfl
theorem clock_Of_e1_3 (C : CallF) (L : LoopF) (G : Glo) (x1 : Cell) (x6 : Cell) (a26 : Int) (a27 : Int) (s1 : List Cell) (h : AHeap) :
    (clock_Of_k6 C L G) (.exit 2) (clock_Of_x1_3 x1 x6 a26 a27 s1 h) =
    some (.normal, (clock_Of_s2 x1 x6 a26 (G.wrap .i64 (a27 + 1)) s1 h)) := by kernel_rfl
theorem clock_Of_r2 (C : CallF) (L : LoopF) (G : Glo) (x1 : Cell) (x6 : Cell) (a26 : Int) (a27 : Int) (s1 : List Cell) (h : AHeap) :
    clock_Of_F2 C L G (clock_Of_s2 x1 x6 a26 a27 s1 h) =
    if (decide (a27 < a26)) = true then lenK x1 fun n_13 => (L (clock_Of_F1 C L G) (clock_Of_s1 x1 x6 a27 a26 a27 x1 n_13 0 s1 h)).bind fun p_39 => (clock_Of_k6 C L G) p_39.1 p_39.2 else some ((.exit 0), (clock_Of_x2_1 x6 h)) := by kernel_rfl
theorem clock_Of_e2_1 (C : CallF) (L : LoopF) (G : Glo) (h0 : AHeap) (x6 : Cell) (h : AHeap) :
    (clock_Of_k3 C L G h0) (.exit 0) (clock_Of_x2_1 x6 h) =
    some ([(.c x6)], h) := by kernel_rfl
set_option maxRecDepth 100000 in
theorem clock_Of_eq (C : CallF) (L : LoopF) (G : Glo) (l0 : List Cell) (x1 : Cell) (h0 : AHeap) :
    clock_Of.body C L G [(.agg l0), (.c x1)] h0 =
    lenK x1 fun n_1 => scK (decide (n_1 > 64)) false (if 0 = 0 ∧ l0.length = 65 then c1 (C 14 [(.agg l0)] h0) fun y_3 h_2 => asI .i64 y_3 fun n_4 => lenK x1 fun n_5 => some ((n_4 != n_5), h_2) else none) true h0 fun b_6 h_7 => if b_6 = true then some ([(.c .nils)], h_7) else if 0 = 0 ∧ l0.length = 65 then c1 (C 12 [(.agg l0)] h_7) fun y_9 h_8 => asA y_9 fun l_10 => if 0 = 0 ∧ ([Cell.int .i64 0] ++ List.replicate 64 (Cell.int .u64 0)).length = 65 ∧ l_10.length = 65 then lenK x1 fun n_11 => if 0 ≤ n_11 ∧ n_11 ≤ n_11 ∧ (Int.toNat n_11) * 192 ≤ maxBytes ∧ n_11 ≤ (maxBytes : Nat) then lenK x1 fun n_12 => (L (clock_Of_F2 C L G) (clock_Of_s2 x1 (.sl h_8.length ((rep (Int.toNat n_11) (List.replicate 24 (Cell.int .i64 0))).length) 0 (Int.toNat n_11)) n_12 0 l_10 (h_8 ++ [some (Blk.mk true 24 (rep (Int.toNat n_11) (List.replicate 24 (Cell.int .i64 0))))]))).bind fun p_40 => (clock_Of_k3 C L G h0) p_40.1 p_40.2 else none else none else none := by kernel_rfl

/- jacquard/clock.Leq: 4 -/
def clock_Leq_k2 (C : CallF) (L : LoopF) (G : Glo) (h0 : AHeap) : Ex → St → Option (List AV × AHeap) :=
  kSeq (fun st => clock_Leq_p1.exec C L G st (clock_Leq.fin G h0)) (clock_Leq.fin G h0)
def clock_Leq_k3 (C : CallF) (L : LoopF) (G : Glo) (h0 : AHeap) : Ex → St → Option (List AV × AHeap) :=
  kBlk 0 (clock_Leq_k2 C L G h0)
def clock_Leq_s1 (l7 : List Cell) (a8 : Int) (s1 : List Cell) (h : AHeap) : St := ⟨[.top, .top, .top, .loc 1 0, .top, .top, .top, .v (.agg l7), .v (.c (.int .i64 a8)), .top, .top, .top, .top, .top, .top, .top, .top, .top], [none, some s1], h⟩
def clock_Leq_F1 (C : CallF) (L : LoopF) (G : Glo) : St → Option (Ex × St) :=
  roundF (fun st f => clock_Leq_b1.exec C L G st f) [3, 7, 8] [1] [(0, [4], []), (1, [], [])]
def clock_Leq_x1_0 (b4 : Bool) (h : AHeap) : St := ⟨[.top, .top, .top, .top, .v (.c (.bool b4)), .top, .top, .top, .top, .top, .top, .top, .top, .top, .top, .top, .top, .top], [none, none], h⟩
def clock_Leq_x1_1 (h : AHeap) : St := ⟨[.top, .top, .top, .top, .top, .top, .top, .top, .top, .top, .top, .top, .top, .top, .top, .top, .top, .top], [none, none], h⟩
theorem clock_Leq_r1 (C : CallF) (L : LoopF) (G : Glo) (l7 : List Cell) (a8 : Int) (s1 : List Cell) (h : AHeap) :
    clock_Leq_F1 C L G (clock_Leq_s1 l7 a8 s1 h) =
    if (decide (a8 < 24)) = true then if 0 ≤ a8 ∧ a8 < ((24 : Nat) : Int) then atK l7 (Int.toNat a8) fun q_1 => asI .i64 (.c q_1) fun n_2 => if 0 ≤ a8 ∧ a8 < ((24 : Nat) : Int) then atK s1 (0 + ((Int.toNat a8) * 1)) fun q_3 => asI .i64 (.c q_3) fun n_4 => if (decide (n_2 > n_4)) = true then some (.ret, (clock_Leq_x1_0 false h)) else some (.normal, (clock_Leq_s1 l7 (G.wrap .i64 (a8 + 1)) s1 h)) else none else none else some ((.exit 0), (clock_Leq_x1_1 h)) := by kernel_rfl
theorem clock_Leq_e1_0 (C : CallF) (L : LoopF) (G : Glo) (h0 : AHeap) (b4 : Bool) (h : AHeap) :
    (clock_Leq_k3 C L G h0) .ret (clock_Leq_x1_0 b4 h) =
    some ([(.c (.bool b4))], h) := by kernel_rfl
theorem clock_Leq_e1_1 (C : CallF) (L : LoopF) (G : Glo) (h0 : AHeap) (h : AHeap) :
    (clock_Leq_k3 C L G h0) (.exit 0) (clock_Leq_x1_1 h) =
    some ([(.c (.bool true))], h) := by kernel_rfl
set_option maxRecDepth 100000 in
theorem clock_Leq_eq (C : CallF) (L : LoopF) (G : Glo) (l0 : List Cell) (l1 : List Cell) (h0 : AHeap) :
    clock_Leq.body C L G [(.agg l0), (.agg l1)] h0 =
    if 0 = 0 ∧ l0.length = 24 then (L (clock_Leq_F1 C L G) (clock_Leq_s1 l0 0 l1 h0)).bind fun p_5 => (clock_Leq_k3 C L G h0) p_5.1 p_5.2 else none := by kernel_rfl

/- jacquard/clock.Join: 8 -/
def clock_Join_k2 (C : CallF) (L : LoopF) (G : Glo) (h0 : AHeap) : Ex → St → Option (List AV × AHeap) :=
  kSeq (fun st => clock_Join_p1.exec C L G st (clock_Join.fin G h0)) (clock_Join.fin G h0)
def clock_Join_k3 (C : CallF) (L : LoopF) (G : Glo) (h0 : AHeap) : Ex → St → Option (List AV × AHeap) :=
  kBlk 0 (clock_Join_k2 C L G h0)
def clock_Join_s1 (l7 : List Cell) (a8 : Int) (s0 : List Cell) (s2 : List Cell) (h : AHeap) : St := ⟨[.top, .top, .loc 0 0, .top, .loc 2 0, .top, .top, .v (.agg l7), .v (.c (.int .i64 a8)), .top, .top, .top, .top, .top, .top, .top, .top, .top, .top, .top, .top], [some s0, none, some s2], h⟩
def clock_Join_F1 (C : CallF) (L : LoopF) (G : Glo) : St → Option (Ex × St) :=
  roundF (fun st f => clock_Join_b1.exec C L G st f) [2, 4, 7, 8] [0, 2] [(1, [2, 4], [0, 2])]
def clock_Join_x1_1 (s0 : List Cell) (s2 : List Cell) (h : AHeap) : St := ⟨[.top, .top, .loc 0 0, .top, .loc 2 0, .top, .top, .top, .top, .top, .top, .top, .top, .top, .top, .top, .top, .top, .top, .top, .top], [some s0, none, some s2], h⟩
theorem clock_Join_r1 (C : CallF) (L : LoopF) (G : Glo) (l7 : List Cell) (a8 : Int) (s0 : List Cell) (s2 : List Cell) (h : AHeap) :
    clock_Join_F1 C L G (clock_Join_s1 l7 a8 s0 s2 h) =
    if (decide (a8 < 24)) = true then if 0 ≤ a8 ∧ a8 < ((24 : Nat) : Int) then atK l7 (Int.toNat a8) fun q_1 => asI .i64 (.c q_1) fun n_2 => if 0 ≤ a8 ∧ a8 < ((24 : Nat) : Int) then atK s0 (0 + ((Int.toNat a8) * 1)) fun q_3 => asI .i64 (.c q_3) fun n_4 => if 0 ≤ a8 ∧ a8 < ((24 : Nat) : Int) then if (0 + ((Int.toNat a8) * 1)) < s0.length then some (.normal, (clock_Join_s1 l7 (G.wrap .i64 (a8 + 1)) (s0.set (0 + ((Int.toNat a8) * 1)) (.int .i64 (if n_2 > n_4 then n_2 else n_4))) s2 h)) else none else none else none else none else some ((.exit 0), (clock_Join_x1_1 s0 s2 h)) := by kernel_rfl
theorem clock_Join_e1_1 (C : CallF) (L : LoopF) (G : Glo) (h0 : AHeap) (s0 : List Cell) (s2 : List Cell) (h : AHeap) :
    (clock_Join_k3 C L G h0) (.exit 0) (clock_Join_x1_1 s0 s2 h) =
    if 0 = 0 ∧ s0.length = 24 then if 0 = 0 ∧ s2.length = 24 ∧ s0.length = 24 then if 0 = 0 ∧ s0.length = 24 then some ([(.agg s0)], h) else none else none else none := by kernel_rfl
set_option maxRecDepth 100000 in
theorem clock_Join_eq (C : CallF) (L : LoopF) (G : Glo) (l0 : List Cell) (l1 : List Cell) (h0 : AHeap) :
    clock_Join.body C L G [(.agg l0), (.agg l1)] h0 =
    if 0 = 0 ∧ l1.length = 24 then (L (clock_Join_F1 C L G) (clock_Join_s1 l1 0 l0 (List.replicate 24 (Cell.int .i64 0)) h0)).bind fun p_5 => (clock_Join_k3 C L G h0) p_5.1 p_5.2 else none := by kernel_rfl

/- jacquard/clock.Back: 11 -/
def clock_Back_k2 (C : CallF) (L : LoopF) (G : Glo) (h0 : AHeap) : Ex → St → Option (List AV × AHeap) :=
  kSeq (fun st => clock_Back_p1.exec C L G st (clock_Back.fin G h0)) (clock_Back.fin G h0)
def clock_Back_k3 (C : CallF) (L : LoopF) (G : Glo) (h0 : AHeap) : Ex → St → Option (List AV × AHeap) :=
  kBlk 0 (clock_Back_k2 C L G h0)
def clock_Back_s2 (x0 : Cell) (x1 : Cell) (x24 : Cell) (a25 : Int) (a26 : Int) (s0 : List Cell) (s1 : List Cell) (s2 : List Cell) (h : AHeap) : St := ⟨[.v (.c x0), .v (.c x1), .top, .top, .loc 0 0, .loc 1 0, .loc 2 0, .top, .top, .top, .top, .top, .top, .top, .top, .top, .top, .top, .top, .top, .top, .top, .top, .top, .v (.c x24), .v (.c (.int .i64 a25)), .v (.c (.int .i64 a26)), .top, .top, .top, .top, .top, .top, .top, .top, .top, .top, .top, .top, .top, .top, .top, .top, .top, .top, .top, .top, .top, .top, .top, .top, .top, .top, .top, .top, .top, .top, .top, .top, .top, .top, .top, .top, .top, .top, .top], [some s0, some s1, some s2], h⟩
def clock_Back_F2 (C : CallF) (L : LoopF) (G : Glo) : St → Option (Ex × St) :=
  roundF (fun st f => clock_Back_b2.exec C L G st f) [0, 1, 4, 5, 6, 24, 25, 26] [0, 1, 2] [(1, [4, 5], [0, 1])]
def clock_Back_k4 (C : CallF) (L : LoopF) (G : Glo) : Ex → St → Option (Ex × St) :=
  kSeq (fun st => clock_Back_p2.exec C L G st (kLoop [0, 1, 4, 5, 6, 24, 25, 26] [0, 1, 2] [(1, [4, 5], [0, 1])])) (kLoop [0, 1, 4, 5, 6, 24, 25, 26] [0, 1, 2] [(1, [4, 5], [0, 1])])
def clock_Back_k5 (C : CallF) (L : LoopF) (G : Glo) : Ex → St → Option (Ex × St) :=
  kBlk 1 (clock_Back_k4 C L G)
def clock_Back_k6 (C : CallF) (L : LoopF) (G : Glo) : Ex → St → Option (Ex × St) :=
  kBlk 2 (clock_Back_k5 C L G)
def clock_Back_s1 (x0 : Cell) (x1 : Cell) (a7 : Int) (a8 : Int) (x24 : Cell) (a25 : Int) (a26 : Int) (a38 : Int) (a39 : Int) (s0 : List Cell) (s1 : List Cell) (s2 : List Cell) (h : AHeap) : St := ⟨[.v (.c x0), .v (.c x1), .top, .top, .loc 0 0, .loc 1 0, .loc 2 0, .v (.c (.int .i64 a7)), .v (.c (.int .i64 a8)), .top, .top, .top, .top, .top, .top, .top, .top, .top, .top, .top, .top, .top, .top, .top, .v (.c x24), .v (.c (.int .i64 a25)), .v (.c (.int .i64 a26)), .top, .top, .top, .top, .top, .top, .top, .top, .top, .top, .top, .v (.c (.int .i64 a38)), .v (.c (.int .i64 a39)), .top, .top, .top, .top, .top, .top, .top, .top, .top, .top, .top, .top, .top, .top, .top, .top, .top, .top, .top, .top, .top, .top, .top, .top, .top, .top], [some s0, some s1, some s2], h⟩
def clock_Back_F1 (C : CallF) (L : LoopF) (G : Glo) : St → Option (Ex × St) :=
  roundF (fun st f => clock_Back_b1.exec C L G st f) [0, 1, 4, 5, 6, 7, 8, 24, 25, 26, 38, 39] [0, 1, 2] [(3, [0, 1, 4, 5, 6, 24, 25, 26], [0, 1, 2])]
def clock_Back_x1_3 (x0 : Cell) (x1 : Cell) (x24 : Cell) (a25 : Int) (a26 : Int) (s0 : List Cell) (s1 : List Cell) (s2 : List Cell) (h : AHeap) : St := ⟨[.v (.c x0), .v (.c x1), .top, .top, .loc 0 0, .loc 1 0, .loc 2 0, .top, .top, .top, .top, .top, .top, .top, .top, .top, .top, .top, .top, .top, .top, .top, .top, .top, .v (.c x24), .v (.c (.int .i64 a25)), .v (.c (.int .i64 a26)), .top, .top, .top, .top, .top, .top, .top, .top, .top, .top, .top, .top, .top, .top, .top, .top, .top, .top, .top, .top, .top, .top, .top, .top, .top, .top, .top, .top, .top, .top, .top, .top, .top, .top, .top, .top, .top, .top, .top], [some s0, some s1, some s2], h⟩
def clock_Back_x2_1 (s0 : List Cell) (s1 : List Cell) (h : AHeap) : St := ⟨[.top, .top, .top, .top, .loc 0 0, .loc 1 0, .top, .top, .top, .top, .top, .top, .top, .top, .top, .top, .top, .top, .top, .top, .top, .top, .top, .top, .top, .top, .top, .top, .top, .top, .top, .top, .top, .top, .top, .top, .top, .top, .top, .top, .top, .top, .top, .top, .top, .top, .top, .top, .top, .top, .top, .top, .top, .top, .top, .top, .top, .top, .top, .top, .top, .top, .top, .top, .top, .top], [some s0, some s1, none], h⟩
theorem clock_Back_r1 (C : CallF) (L : LoopF) (G : Glo) (x0 : Cell) (x1 : Cell) (a7 : Int) (a8 : Int) (x24 : Cell) (a25 : Int) (a26 : Int) (a38 : Int) (a39 : Int) (s0 : List Cell) (s1 : List Cell) (s2 : List Cell) (h : AHeap) :
    clock_Back_F1 C L G (clock_Back_s1 x0 x1 a7 a8 x24 a25 a26 a38 a39 s0 s1 s2 h) =
    if (decide (a39 < a38)) = true then scK (a7 != a39) true (c1 (qh h (C 15 [(.c (.int .i64 a8))] h)) fun y_27 h_26 => asI .i64 y_27 fun n_28 => idxSK 24 x0 a39 fun k_29 N_30 o_31 => if 0 ≤ n_28 ∧ n_28 < ((24 : Nat) : Int) then rdH h k_29 N_30 fun l_32 => atK l_32 (o_31 + ((Int.toNat n_28) * 1)) fun q_33 => asI .i64 (.c q_33) fun n_34 => c1 (qh h (C 15 [(.c (.int .i64 a8))] h)) fun y_36 h_35 => asI .i64 y_36 fun n_37 => if 0 ≤ n_37 ∧ n_37 < ((24 : Nat) : Int) then atK s2 (0 + ((Int.toNat n_37) * 1)) fun q_38 => asI .i64 (.c q_38) fun n_39 => some ((decide (n_34 ≥ n_39)), h) else none else none) false h fun b_40 h_41 => if b_40 = true then if 0 = 0 ∧ s1.length = 65 then c1 (C 10 [(.agg s1), (.c (.int .i64 a7)), (.c (.int .i64 a39))] h_41) fun y_43 h_42 => asA y_43 fun l_44 => if 0 = 0 ∧ s1.length = 65 ∧ l_44.length = 65 then some (.normal, (clock_Back_s1 x0 x1 a7 a8 x24 a25 a26 a38 (G.wrap .i64 (a39 + 1)) s0 l_44 s2 h_42)) else none else none else some (.normal, (clock_Back_s1 x0 x1 a7 a8 x24 a25 a26 a38 (G.wrap .i64 (a39 + 1)) s0 s1 s2 h_41)) else some ((.exit 2), (clock_Back_x1_3 x0 x1 x24 a25 a26 s0 s1 s2 h)) := by kernel_rfl
theorem clock_Back_e1_3 (C : CallF) (L : LoopF) (G : Glo) (x0 : Cell) (x1 : Cell) (x24 : Cell) (a25 : Int) (a26 : Int) (s0 : List Cell) (s1 : List Cell) (s2 : List Cell) (h : AHeap) :
    (clock_Back_k6 C L G) (.exit 2) (clock_Back_x1_3 x0 x1 x24 a25 a26 s0 s1 s2 h) =
    some (.normal, (clock_Back_s2 x0 x1 x24 a25 (G.wrap .i64 (a26 + 1)) s0 s1 s2 h)) := by kernel_rfl
theorem clock_Back_r2 (C : CallF) (L : LoopF) (G : Glo) (x0 : Cell) (x1 : Cell) (x24 : Cell) (a25 : Int) (a26 : Int) (s0 : List Cell) (s1 : List Cell) (s2 : List Cell) (h : AHeap) :
    clock_Back_F2 C L G (clock_Back_s2 x0 x1 x24 a25 a26 s0 s1 s2 h) =
    if (decide (a26 < a25)) = true then idxSK 1 x24 a26 fun k_14 N_15 o_16 => rdH h k_14 N_15 fun l_17 => atK l_17 o_16 fun q_18 => asI .i64 (.c q_18) fun n_19 => c1 (C 15 [(.c (.int .i64 n_19))] h) fun y_21 h_20 => asI .i64 y_21 fun n_22 => if 0 ≤ n_22 ∧ n_22 < ((24 : Nat) : Int) then atK s2 (0 + ((Int.toNat n_22) * 1)) fun q_23 => asI .i64 (.c q_23) fun n_24 => if 0 ≤ n_22 ∧ n_22 < ((24 : Nat) : Int) then if (0 + ((Int.toNat n_22) * 1)) < s2.length then lenK x1 fun n_25 => (L (clock_Back_F1 C L G) (clock_Back_s1 x0 x1 a26 n_19 x24 a25 a26 n_25 0 s0 s1 (s2.set (0 + ((Int.toNat n_22) * 1)) (.int .i64 (G.wrap .i64 (n_24 + 1)))) h_20)).bind fun p_45 => (clock_Back_k6 C L G) p_45.1 p_45.2 else none else none else none else some ((.exit 0), (clock_Back_x2_1 s0 s1 h)) := by kernel_rfl
theorem clock_Back_e2_1 (C : CallF) (L : LoopF) (G : Glo) (h0 : AHeap) (s0 : List Cell) (s1 : List Cell) (h : AHeap) :
    (clock_Back_k3 C L G h0) (.exit 0) (clock_Back_x2_1 s0 s1 h) =
    if 0 = 0 ∧ s1.length = 65 then if 0 = 0 ∧ s0.length = 65 ∧ s1.length = 65 then if 0 = 0 ∧ s1.length = 65 then some ([(.agg s1)], h) else none else none else none := by kernel_rfl
set_option maxRecDepth 100000 in
theorem clock_Back_eq (C : CallF) (L : LoopF) (G : Glo) (x0 : Cell) (x1 : Cell) (h0 : AHeap) :
    clock_Back.body C L G [(.c x0), (.c x1)] h0 =
    lenK x1 fun n_1 => scK (decide (n_1 > 64)) false (lenK x0 fun n_2 => lenK x1 fun n_3 => some ((decide (n_2 < n_3)), h0)) true h0 fun b_4 h_5 => if b_4 = true then c1 (C 9 [(.c (.int .i64 0))] h_5) fun y_7 h_6 => asA y_7 fun l_8 => if 0 = 0 ∧ ([Cell.int .i64 0] ++ List.replicate 64 (Cell.int .u64 0)).length = 65 ∧ l_8.length = 65 then if 0 = 0 ∧ l_8.length = 65 then some ([(.agg l_8)], h_6) else none else none else lenK x1 fun n_9 => c1 (C 9 [(.c (.int .i64 n_9))] h_5) fun y_11 h_10 => asA y_11 fun l_12 => if 0 = 0 ∧ ([Cell.int .i64 0] ++ List.replicate 64 (Cell.int .u64 0)).length = 65 ∧ l_12.length = 65 then lenK x1 fun n_13 => (L (clock_Back_F2 C L G) (clock_Back_s2 x0 x1 x1 n_13 0 ([Cell.int .i64 0] ++ List.replicate 64 (Cell.int .u64 0)) l_12 (List.replicate 24 (Cell.int .i64 0)) h_10)).bind fun p_46 => (clock_Back_k3 C L G h0) p_46.1 p_46.2 else none := by kernel_rfl

/- jacquard/clock.pick: 15 -/
set_option maxRecDepth 100000 in
theorem clock_pick_eq (C : CallF) (L : LoopF) (G : Glo) (a0 : Int) (h0 : AHeap) :
    clock_pick.body C L G [(.c (.int .i64 a0))] h0 =
    scK (decide (a0 < 0)) false (some ((decide (a0 ≥ 24)), h0)) true h0 fun b_1 h_2 => if b_1 = true then some ([(.c (.int .i64 0))], h_2) else some ([(.c (.int .i64 a0))], h_2) := by kernel_rfl


end Jq

/- Clocks: rows of 24 numbers; what the package's functions come to. -/
namespace Jq
open Go

def vecL (v : Nat → Int) : List Cell := (List.range 24).map fun p => .int .i64 (v p)

theorem vecL_len (v : Nat → Int) : (vecL v).length = 24 := by simp [vecL]
theorem vecL_get {v : Nat → Int} {p : Nat} (hp : p < 24) : (vecL v)[p]? = some (.int .i64 (v p)) := by
  rw [vecL, List.getElem?_map, List.getElem?_range hp]; rfl
theorem vecL_congr {v w : Nat → Int} (h : ∀ p, p < 24 → v p = w p) : vecL v = vecL w := by
  unfold vecL
  refine List.map_congr_left fun p hp => ?_
  rw [h p (by simpa using hp)]
theorem vecL_set {v : Nat → Int} {p : Nat} {x : Int} : (vecL v).set p (.int .i64 x) = vecL fun q => if q = p then x else v q := by
  refine List.ext_getElem? fun j => ?_
  rw [List.getElem?_set, vecL_len]
  by_cases hj : j < 24
  · rw [vecL_get hj, vecL_get hj]
    by_cases hp : p = j
    · subst hp; simp [hj]
    · have : ¬ j = p := fun q => hp q.symm
      rw [if_neg hp, if_neg this]
  · have h1 : (vecL v)[j]? = none := List.getElem?_eq_none (by rw [vecL_len]; omega)
    have h2 : (vecL fun q => if q = p then x else v q)[j]? = none := List.getElem?_eq_none (by rw [vecL_len]; omega)
    rw [h1, h2]
    split
    · rw [if_neg (by omega)]
    · rfl
theorem zero24 : List.replicate 24 (Cell.int .i64 0) = vecL fun _ => 0 := rfl
theorem alike_vec (v w : Nat → Int) : alike (vecL v) (vecL w) = true := by
  unfold vecL
  generalize List.range 24 = l
  induction l with
  | nil => rfl
  | cons a l ih => simp only [List.map_cons, alike, alike1, decide_true, Bool.true_and]; exact ih

theorem okC_ints {h : AHeap} : ∀ (n : Nat) (c : List Cell), okC h (Sh.rep (.i .i64) n) c → ∃ l : List Int, c = intC .i64 l ∧ l.length = n
  | 0, c, hc => ⟨[], hc, rfl⟩
  | n + 1, c, hc => by
    obtain ⟨x, y, rfl, ⟨m, rfl, _⟩, hy⟩ := (show ∃ x y, c = x ++ y ∧ okC h (.i .i64) x ∧ okC h (Sh.rep (.i .i64) n) y from hc)
    obtain ⟨l, rfl, hl⟩ := okC_ints n y hy
    exact ⟨m :: l, rfl, by simp [hl]⟩

theorem arg_vec {h : AHeap} {c : List Cell} (o : okC h (.agg (Sh.rep (.i .i64) 24)) c) : ∃ v, av1 (.agg (Sh.rep (.i .i64) 24)) c = .agg (vecL v) := by
  obtain ⟨l, rfl, hl⟩ := okC_ints 24 c o
  refine ⟨fun p => l[p]?.getD 0, ?_⟩
  show AV.agg _ = _
  congr 1
  refine List.ext_getElem? fun j => ?_
  by_cases hj : j < 24
  · rw [vecL_get hj]
    have : l[j]? = some l[j] := by simp [hl, hj]
    rw [intC_get this, this]; rfl
  · rw [List.getElem?_eq_none (by rw [intC_len]; omega), List.getElem?_eq_none (by rw [vecL_len]; omega)]

/-- None greater. -/
def leqV (v w : Nat → Int) : Bool := (List.range 24).all fun p => decide (v p ≤ w p)

theorem leqV_iff {v w : Nat → Int} : leqV v w = true ↔ ∀ p, p < 24 → v p ≤ w p := by simp [leqV]

variable {E : Env}

theorem Leq_R (hE : clock_Leq_In E) (v w : Nat → Int) (h : AHeap) : R E 4 [.agg (vecL v), .agg (vecL w)] h = some ([.c (.bool (leqV v w))], h) := by
  refine R_intro hE.fn ?_
  have loop := Lim_any (F := clock_Leq_F1 (R E) Lim E.glob) (fun i => clock_Leq_s1 (vecL v) (i : Int) (vecL w) h) (fun p => !decide (v p ≤ w p)) (.ret, clock_Leq_x1_0 false h) (.exit 0, clock_Leq_x1_1 h) 24 (fun p hp => by
      have q1 : 0 ≤ (p : Int) ∧ (p : Int) < ((24 : Nat) : Int) := by omega
      rw [clock_Leq_r1, if_pos (by simp; omega), if_pos q1, Int.toNat_natCast, atK_ok (vecL_get hp), asI_ok, if_pos q1, show 0 + p * 1 = p by omega, atK_ok (vecL_get hp), asI_ok, g_succ (by omega)]
      by_cases hl : v p ≤ w p
      · rw [if_neg (by simpa using hl), if_neg (by simpa using hl)]
      · rw [if_pos (by simpa using hl), if_pos (by simpa using hl)]) (by simp) (by
      rw [clock_Leq_r1, if_neg (by simp)]) (by simp)
  simp only [Int.ofNat_zero, Int.natCast_zero] at loop
  have e : ((List.range 24).any fun p => !decide (v p ≤ w p)) = !leqV v w := by unfold leqV; rw [List.not_all_eq_any_not]
  rw [clock_Leq_eq, if_pos ⟨rfl, vecL_len _⟩, loop, bind_ok, e]
  cases leqV v w with
  | true => rw [if_neg (by simp)]; exact clock_Leq_e1_1 ..
  | false => rw [if_pos (by simp)]; exact clock_Leq_e1_0 ..

/-- The greater of both, place by place. -/
def joinV (v w : Nat → Int) : Nat → Int := fun p => if w p > v p then w p else v p

theorem Join_R (hE : clock_Join_In E) (v w : Nat → Int) (h : AHeap) : R E 8 [.agg (vecL v), .agg (vecL w)] h = some ([.agg (vecL (joinV v w))], h) := by
  refine R_intro hE.fn ?_
  have loop : Lim (clock_Join_F1 (R E) Lim E.glob) (clock_Join_s1 (vecL w) ((0 : Nat) : Int) (vecL fun p => if p < 0 then joinV v w p else v p) (vecL fun _ => 0) h) = some (.exit 0, clock_Join_x1_1 (vecL fun p => if p < 24 then joinV v w p else v p) (vecL fun _ => 0) h) := by
    refine Lim_count (fun i => clock_Join_s1 (vecL w) (i : Int) (vecL fun p => if p < i then joinV v w p else v p) (vecL fun _ => 0) h) 0 24 (by omega) (fun i _ hi => ?_) (Lim_exit ?_)
    · have q1 : 0 ≤ (i : Int) ∧ (i : Int) < ((24 : Nat) : Int) := by omega
      have e : (vecL fun q => if q = i then (if w i > (if i < i then joinV v w i else v i) then w i else (if i < i then joinV v w i else v i)) else (if q < i then joinV v w q else v q)) = vecL fun p => if p < i + 1 then joinV v w p else v p := by
        refine vecL_congr fun p _ => ?_
        by_cases h1 : p = i
        · subst h1
          simp only [if_pos trivial, if_neg (Nat.lt_irrefl p), if_pos (Nat.lt_succ_self p), if_true]
          rfl
        · rw [if_neg h1]
          by_cases h2 : p < i
          · rw [if_pos h2, if_pos (by omega)]
          · rw [if_neg h2, if_neg (by omega)]
      rw [clock_Join_r1, if_pos (by simp; omega), if_pos q1, Int.toNat_natCast, atK_ok (vecL_get hi), asI_ok, if_pos q1, show 0 + i * 1 = i by omega, atK_ok (vecL_get hi), asI_ok, if_pos q1, if_pos (by rw [vecL_len]; omega), vecL_set, e, g_succ (by omega)]
    · rw [clock_Join_r1, if_neg (by simp)]
  have e0 : (vecL fun p => if p < 0 then joinV v w p else v p) = vecL v := vecL_congr fun p _ => if_neg (by omega)
  have e1 : (vecL fun p => if p < 24 then joinV v w p else v p) = vecL (joinV v w) := vecL_congr fun p hp => if_pos hp
  rw [e0, e1] at loop
  rw [clock_Join_eq, if_pos ⟨rfl, vecL_len _⟩, zero24, show clock_Join_s1 (vecL w) 0 (vecL v) (vecL fun _ => 0) h = clock_Join_s1 (vecL w) ((0 : Nat) : Int) (vecL v) (vecL fun _ => 0) h from rfl, loop, bind_ok, clock_Join_e1_1]
  simp only [vecL_len, and_self, if_true]

/-- A lane, brought within. -/
def pk (a : Int) : Nat := if 0 ≤ a ∧ a < 24 then a.toNat else 0

theorem pk_lt (a : Int) : pk a < 24 := by unfold pk; split <;> omega

theorem pick_R (hE : clock_pick_In E) (a : Int) (h : AHeap) : R E 15 [.c (.int .i64 a)] h = some ([.c (.int .i64 (pk a : Nat))], h) := by
  refine R_intro hE.fn ?_
  rw [clock_pick_eq, scK_or]
  unfold pk
  by_cases ha : 0 ≤ a ∧ a < 24
  · rw [if_neg (by simp; omega), if_pos ha, Int.toNat_of_nonneg ha.1]
  · rw [if_pos (by simp; omega), if_neg ha]; rfl

/- Rows of clocks. -/
def matL (n : Nat) (V : Nat → Nat → Int) : List Cell := (List.range n).flatMap fun i => vecL (V i)

theorem matL_succ (n : Nat) (V : Nat → Nat → Int) : matL (n + 1) V = matL n V ++ vecL (V n) := by
  unfold matL; rw [List.range_succ, List.flatMap_append]; simp
theorem matL_len (V : Nat → Nat → Int) : ∀ n, (matL n V).length = n * 24
  | 0 => rfl
  | n + 1 => by rw [matL_succ, List.length_append, matL_len V n, vecL_len]; omega
theorem matL_get {V : Nat → Nat → Int} {i p : Nat} (hp : p < 24) : ∀ {n}, i < n → (matL n V)[i * 24 + p]? = some (.int .i64 (V i p))
  | 0, h => by omega
  | n + 1, h => by
    rw [matL_succ]
    by_cases hi : i < n
    · rw [List.getElem?_append_left (by rw [matL_len]; omega)]; exact matL_get hp hi
    · have : i = n := by omega
      subst this
      rw [List.getElem?_append_right (by rw [matL_len]; omega), matL_len, Nat.add_sub_cancel_left]
      exact vecL_get hp
theorem matL_at {V : Nat → Nat → Int} {n j : Nat} (hj : j < n * 24) : (matL n V)[j]? = some (.int .i64 (V (j / 24) (j % 24))) := by
  have := matL_get (V := V) (i := j / 24) (p := j % 24) (by omega) (n := n) (by omega)
  rw [show j / 24 * 24 + j % 24 = j by omega] at this; exact this
theorem matL_congr {n : Nat} {V W : Nat → Nat → Int} (h : ∀ i p, i < n → p < 24 → V i p = W i p) : matL n V = matL n W := by
  refine List.ext_getElem? fun j => ?_
  by_cases hj : j < n * 24
  · rw [matL_at hj, matL_at hj, h _ _ (by omega) (by omega)]
  · rw [List.getElem?_eq_none (by rw [matL_len]; omega), List.getElem?_eq_none (by rw [matL_len]; omega)]
theorem matL_set {n : Nat} {V : Nat → Nat → Int} {i p : Nat} {x : Int} (hp : p < 24) : (matL n V).set (i * 24 + p) (.int .i64 x) = matL n fun a q => if a = i ∧ q = p then x else V a q := by
  refine List.ext_getElem? fun j => ?_
  rw [List.getElem?_set, matL_len]
  by_cases hj : j < n * 24
  · rw [matL_at hj, matL_at hj]
    by_cases hip : i * 24 + p = j
    · rw [if_pos hip, if_pos (by omega), if_pos (by omega)]
    · rw [if_neg hip, if_neg (by omega)]
  · rw [List.getElem?_eq_none (by rw [matL_len]; omega), List.getElem?_eq_none (by rw [matL_len]; omega)]
    split
    · rw [if_neg (by omega)]
    · rfl
theorem matL_row {n : Nat} {V : Nat → Nat → Int} {i : Nat} (hi : i < n) : ((matL n V).drop (i * 24)).take 24 = vecL (V i) := by
  refine List.ext_getElem? fun j => ?_
  rw [List.getElem?_take, List.getElem?_drop]
  by_cases hj : j < 24
  · rw [if_pos hj, matL_get hj hi, vecL_get hj]
  · rw [if_neg hj, List.getElem?_eq_none (by rw [vecL_len]; omega)]
theorem rep_zero (n : Nat) : rep n (List.replicate 24 (Cell.int .i64 0)) = matL n fun _ _ => 0 := by
  induction n with
  | zero => rfl
  | succ n ih =>
    rw [matL_succ, ← ih]
    unfold rep
    rw [List.replicate_succ', List.flatten_append, zero24]; simp

theorem SlAt.getM {α : Type} {h : AHeap} {x : Cell} {n : Nat} {V : Nat → Nat → Int} (s : SlAt h x 24 (matL n V) n) {i p : Nat} (hi : i < n) (hp : p < 24) {f : Cell → Option α} :
    (idxSK 24 x (i : Int) fun k N o => if 0 ≤ (p : Int) ∧ (p : Int) < ((24 : Nat) : Int) then rdH h k N fun l => atK l (o + ((Int.toNat (p : Int)) * 1)) f else none) = f (.int .i64 (V i p)) := by
  have q1 : 0 ≤ (p : Int) ∧ (p : Int) < ((24 : Nat) : Int) := by omega
  simp only [if_pos q1, Int.toNat_natCast, Nat.mul_one]
  exact s.get hi hp (matL_get hp hi)

theorem SlAt.leqM {α : Type} {h : AHeap} {x : Cell} {n : Nat} {V : Nat → Nat → Int} (hE : clock_Leq_In E) (s : SlAt h x 24 (matL n V) n) {i j : Nat} (hi : i < n) (hj : j < n) {f : Bool → Option α} :
    (idxSK 24 x (i : Int) fun k N o => rdH h k N fun l => if o + 24 ≤ l.length then idxSK 24 x (j : Int) fun k N o' => rdH h k N fun l' => if o' + 24 ≤ l'.length then c1 (qh h (R E 4 [.agg ((l.drop o).take 24), .agg ((l'.drop o').take 24)] h)) fun y _ => asB y fun b => f b else none else none) = f (leqV (V i) (V j)) := by
  refine (s.getN hi (f := fun r => idxSK 24 x (j : Int) fun k N o' => rdH h k N fun l' => if o' + 24 ≤ l'.length then c1 (qh h (R E 4 [.agg r, .agg ((l'.drop o').take 24)] h)) fun y _ => asB y fun b => f b else none)).trans ?_
  rw [matL_row hi]
  refine (s.getN hj (f := fun r => c1 (qh h (R E 4 [.agg (vecL (V i)), .agg r] h)) fun y _ => asB y fun b => f b)).trans ?_
  rw [matL_row hj, Leq_R hE, qh_ok, c1_ok, asB_ok]

/- What a clock counts. -/
def cntP (P : Nat → Bool) (m : Nat) : Nat := ((List.range m).filter P).length

theorem cntP_succ (P : Nat → Bool) (m : Nat) : cntP P (m + 1) = cntP P m + if P m then 1 else 0 := by
  unfold cntP
  rw [List.range_succ, List.filter_append, List.length_append]
  by_cases h : P m = true <;> simp [h]

theorem cntP_le (P : Nat → Bool) (m : Nat) : cntP P m ≤ m := by
  unfold cntP; exact Nat.le_trans (List.length_filter_le _ _) (by simp)

theorem cntP_mono {P Q : Nat → Bool} : ∀ m, (∀ k, k < m → P k = true → Q k = true) → cntP P m ≤ cntP Q m
  | 0, _ => by simp [cntP]
  | m + 1, h => by
    have ih := cntP_mono m fun k hk => h k (by omega)
    rw [cntP_succ, cntP_succ]
    by_cases hp : P m = true
    · rw [if_pos hp, if_pos (h m (by omega) hp)]; omega
    · rw [if_neg hp]; split <;> omega

theorem cntP_congr {P Q : Nat → Bool} {m : Nat} (h : ∀ k, k < m → P k = Q k) : cntP P m = cntP Q m :=
  Nat.le_antisymm (cntP_mono m fun k hk hp => by rw [← h k hk]; exact hp) (cntP_mono m fun k hk hp => by rw [h k hk]; exact hp)

theorem cntP_pos {P : Nat → Bool} {m k : Nat} (hk : k < m) (hp : P k = true) : 0 < cntP P m := by
  unfold cntP
  exact List.length_pos_of_mem (List.mem_filter.2 ⟨by simpa using hk, hp⟩)

/-- The lane of a place. -/
def lane (l : List Int) (j : Nat) : Nat := pk (l[j]?.getD 0)

/-- What clock i counts in lane p, of the first m. -/
def vc (c : Nat → Nat) (l : List Int) (i p m : Nat) : Nat := cntP (fun j => (decide (j = i) || (c j).testBit i) && decide (lane l j = p)) m

/-- So far: row i, m looked at. -/
def vcS (c : Nat → Nat) (l : List Int) (n i m : Nat) : Nat → Nat → Int := fun a p => (vc c l a p (if a < i then n else if a = i then m else 0) : Nat)

theorem lane_lt (l : List Int) (j : Nat) : lane l j < 24 := pk_lt _

theorem vcS_yes {c : Nat → Nat} {l : List Int} {n i m : Nat} (hb : (decide (m = i) || (c m).testBit i) = true) : (matL n fun a q => if a = i ∧ q = lane l m then vcS c l n i m i (lane l m) + 1 else vcS c l n i m a q) = matL n (vcS c l n i (m + 1)) := by
  refine matL_congr fun a q _ _ => ?_
  unfold vcS
  by_cases ha : a = i
  · subst ha
    simp only [Nat.lt_irrefl, if_false, if_true]
    unfold vc
    rw [cntP_succ, hb, Bool.true_and]
    by_cases hq : q = lane l m
    · subst hq
      rw [if_pos ⟨trivial, rfl⟩]; simp
    · have : decide (lane l m = q) = false := by simp; exact fun h => hq h.symm
      rw [if_neg (fun h => hq h.2), this]; simp
  · rw [if_neg (fun h => ha h.1), if_neg ha, if_neg ha]

theorem vcS_no {c : Nat → Nat} {l : List Int} {n i m : Nat} (hb : (decide (m = i) || (c m).testBit i) = false) : matL n (vcS c l n i m) = matL n (vcS c l n i (m + 1)) := by
  refine matL_congr fun a q _ _ => ?_
  unfold vcS
  by_cases ha : a = i
  · subst ha
    simp only [Nat.lt_irrefl, if_false, if_true]
    unfold vc
    rw [cntP_succ, hb, Bool.false_and]; rfl
  · rw [if_neg ha, if_neg ha]

theorem vcS_row {c : Nat → Nat} {l : List Int} {n i : Nat} : matL n (vcS c l n i n) = matL n (vcS c l n (i + 1) 0) := by
  refine matL_congr fun a q _ _ => ?_
  unfold vcS
  congr 2
  by_cases h1 : a < i
  · rw [if_pos h1, if_pos (by omega)]
  · by_cases h2 : a = i
    · rw [if_neg h1, if_pos h2, if_pos (by omega)]
    · rw [if_neg h1, if_neg h2, if_neg (by omega)]; split <;> rfl

/-- The clocks. -/
def clks (n : Nat) (f : Nat → Nat) (l : List Int) : Nat → Nat → Int := fun a p => (vc (clK n f n) l a p n : Nat)

theorem ClkOf_R (hE : clock_Of_In E) {n : Nat} (hn : n ≤ 64) {f : Nat → Nat} (hf : Words f) {x : Cell} {l : List Int} {h : AHeap} (hx : SlAt h x 1 (intC .i64 l) l.length) (hl : Low h.length x) (hln : l.length = n) :
    R E 2 [.agg (relL n f), .c x] h = some ([.c (.sl h.length (n * 24) 0 n)], h ++ [some ⟨true, 24, matL n (clks n f l)⟩]) := by
  refine R_intro hE.fn ?_
  have hw := words_clK hf n n
  have hN : maxBytes ≥ 64 * 192 := by unfold maxBytes; omega
  have hxk : ∀ t : AHeap, SlAt (h ++ t) x 1 (intC .i64 l) l.length := fun t => hx.keep hl (Kp.app t (Nat.le_refl _))
  have hz : rep n (List.replicate 24 (Cell.int .i64 0)) = matL n (vcS (clK n f n) l n 0 0) := by
    rw [rep_zero]
    refine matL_congr fun a q _ _ => ?_
    unfold vcS
    rw [if_neg (by omega)]; split <;> rfl
  have outer : Lim (clock_Of_F2 (R E) Lim E.glob) (clock_Of_s2 x (.sl h.length (n * 24) 0 n) n ((0 : Nat) : Int) (relL n (clK n f n)) (h ++ [some ⟨true, 24, matL n (vcS (clK n f n) l n 0 0)⟩])) = some (.exit 0, clock_Of_x2_1 (.sl h.length (n * 24) 0 n) (h ++ [some ⟨true, 24, matL n (vcS (clK n f n) l n n 0)⟩])) := by
    refine Lim_count (fun i => clock_Of_s2 x (.sl h.length (n * 24) 0 n) n (i : Int) (relL n (clK n f n)) (h ++ [some ⟨true, 24, matL n (vcS (clK n f n) l n i 0)⟩])) 0 n (by omega) (fun i _ hi => ?_) (Lim_exit ?_)
    · have inner : Lim (clock_Of_F1 (R E) Lim E.glob) (clock_Of_s1 x (.sl h.length (n * 24) 0 n) i n i x n ((0 : Nat) : Int) (relL n (clK n f n)) (h ++ [some ⟨true, 24, matL n (vcS (clK n f n) l n i 0)⟩])) = some (.exit 2, clock_Of_x1_3 x (.sl h.length (n * 24) 0 n) n i (relL n (clK n f n)) (h ++ [some ⟨true, 24, matL n (vcS (clK n f n) l n i n)⟩])) := by
        refine Lim_count (fun j => clock_Of_s1 x (.sl h.length (n * 24) 0 n) i n i x n (j : Int) (relL n (clK n f n)) (h ++ [some ⟨true, 24, matL n (vcS (clK n f n) l n i j)⟩])) 0 n (by omega) (fun j _ hj => ?_) (Lim_exit ?_)
        · have hlj : l[j]? = some (l[j]?.getD 0) := by simp [hln, hj]
          have e0 : ((j : Int) == (i : Int)) = decide (j = i) := by rw [Bool.eq_iff_iff, beq_iff_eq, decide_eq_true_eq]; omega
          have q1 : ∀ p, p < 24 → 0 ≤ ((p : Nat) : Int) ∧ ((p : Nat) : Int) < ((24 : Nat) : Int) := fun p hp => by omega
          rw [clock_Of_r1, if_pos (by simp; omega), (hxk _).get1 (by omega) (intC_get hlj), asI_ok, if_pos ⟨rfl, relL_len _ _⟩, HasS hE.c3 hn hw hj (by omega), c1_ok, asB_ok, scK_or, e0]
          cases hb : (decide (j = i) || (clK n f n j).testBit i) with
          | false => rw [if_neg (by simp), vcS_no hb, g_succ (by omega)]
          | true =>
            have hp := lane_lt l j
            have hM := matL_len (vcS (clK n f n) l n i j) n
            have hv : vc (clK n f n) l i (lane l j) j ≤ j := cntP_le _ _
            have hvv : vcS (clK n f n) l n i j i (lane l j) = ((vc (clK n f n) l i (lane l j) j : Nat) : Int) := by unfold vcS; rw [if_neg (by omega), if_pos rfl]
            have hlt : i * 24 + lane l j < n * 24 := by omega
            rw [if_pos rfl, pick_R hE.c15, qh_ok, c1_ok, asI_ok, show pk (l[j]?.getD 0) = lane l j from rfl, idxSK_ok hi, if_pos (q1 _ hp), rdH_ok (blk_new h _) hM, Int.toNat_natCast, show 0 + i * 24 + lane l j * 1 = i * 24 + lane l j by omega, atK_ok (matL_get hp hi), asI_ok, idxSK_ok hi, if_pos (q1 _ hp), rdH_ok (blk_new h _) hM, show 0 + i * 24 + lane l j * 1 = i * 24 + lane l j by omega, if_pos (by rw [hM]; exact hlt), matL_set hp, putH_ok (blk_new h _) rfl, setBlk_last, g_succ (by omega)]
            rw [show E.glob.wrap .i64 (vcS (clK n f n) l n i j i (lane l j) + 1) = vcS (clK n f n) l n i j i (lane l j) + 1 by rw [hvv]; exact g_wrap_i64 (by omega) (by omega), vcS_yes hb]
        · rw [clock_Of_r1, if_neg (by simp)]
      rw [clock_Of_r2, if_pos (by simp; omega), hx.len, hln, show (0 : Int) = ((0 : Nat) : Int) from rfl, inner, bind_ok, clock_Of_e1_3, g_succ (by omega), vcS_row]
    · rw [clock_Of_r2, if_neg (by simp)]
  have hfin : matL n (vcS (clK n f n) l n n 0) = matL n (clks n f l) := matL_congr fun a q ha _ => by unfold vcS clks; rw [if_pos ha]
  rw [hfin] at outer
  have e1 : decide ((n : Int) > 64) = false := by simp; omega
  rw [clock_Of_eq, hx.len, hln, e1, scK_ok, if_pos ⟨rfl, relL_len _ _⟩, N_R hE.c14, c1_ok, asI_ok, hx.len, hln, bne_self_eq_false, bind_ok]
  dsimp only
  rw [if_neg (by simp), if_pos ⟨rfl, relL_len _ _⟩, Closure_R hE.c12 hn hf, c1_ok, asA_ok, if_pos ⟨rfl, zero_len, relL_len _ _⟩, hx.len, hln, Int.toNat_natCast, if_pos ⟨by omega, by omega, by omega, by omega⟩, hx.len, hln, hz, matL_len, show (0 : Int) = ((0 : Nat) : Int) from rfl, outer, bind_ok, clock_Of_e2_1]

theorem ClkOf_nil (hE : clock_Of_In E) {n : Nat} {f : Nat → Nat} {x : Cell} {l : List Int} {h : AHeap} (hx : SlAt h x 1 (intC .i64 l) l.length) (hln : 64 < l.length ∨ l.length ≠ n) :
    R E 2 [.agg (relL n f), .c x] h = some ([.c .nils], h) := by
  refine R_intro hE.fn ?_
  rw [clock_Of_eq, hx.len, if_pos ⟨rfl, relL_len _ _⟩, N_R hE.c14, c1_ok, asI_ok, hx.len, scK_or, if_pos]
  simp only [Bool.or_eq_true, decide_eq_true_eq, bne_iff_ne]
  omega

end Jq

namespace Jq
open Go

/- jacquard/jacquardlaw18.awake: 5 -/
set_option maxRecDepth 100000 in
theorem jacquardlaw18_awake_eq (C : CallF) (L : LoopF) (G : Glo)  (h0 : AHeap) :
    jacquardlaw18_awake.body C L G [] h0 =
    c1 (C 9 [(.c (.int .i64 3))] h0) fun y_2 h_1 => asA y_2 fun l_3 => c1 (C 10 [(.agg l_3), (.c (.int .i64 0)), (.c (.int .i64 1))] h_1) fun y_5 h_4 => asA y_5 fun l_6 => c1 (C 10 [(.agg l_6), (.c (.int .i64 1)), (.c (.int .i64 2))] h_4) fun y_8 h_7 => asA y_8 fun l_9 => if (splice (splice (splice [Cell.int .i64 0, Cell.int .i64 0, Cell.int .i64 0] 0 ([(.int .i64 0)] : List Cell)) 1 ([(.int .i64 0)] : List Cell)) 2 ([(.int .i64 1)] : List Cell)).length = 3 * 1 then c1 (C 2 [(.agg l_9), (.c (.sl h_7.length ((splice (splice (splice [Cell.int .i64 0, Cell.int .i64 0, Cell.int .i64 0] 0 ([(.int .i64 0)] : List Cell)) 1 ([(.int .i64 0)] : List Cell)) 2 ([(.int .i64 1)] : List Cell)).length) 0 3))] (h_7 ++ [some (Blk.mk true 1 (splice (splice (splice [Cell.int .i64 0, Cell.int .i64 0, Cell.int .i64 0] 0 ([(.int .i64 0)] : List Cell)) 1 ([(.int .i64 0)] : List Cell)) 2 ([(.int .i64 1)] : List Cell)))])) fun y_11 h_10 => asC y_11 fun x_12 => lenK x_12 fun n_13 => scK (n_13 == 3) true (idxSK 24 x_12 2 fun k_14 N_15 o_16 => rdH h_10 k_14 N_15 fun l_17 => atK l_17 (o_16 + 0) fun q_18 => asI .i64 (.c q_18) fun n_19 => some ((n_19 == 2), h_10)) false h_10 fun b_20 h_21 => scK b_20 true (idxSK 24 x_12 2 fun k_22 N_23 o_24 => rdH h_21 k_22 N_23 fun l_25 => atK l_25 (o_24 + 1) fun q_26 => asI .i64 (.c q_26) fun n_27 => some ((n_27 == 1), h_21)) false h_21 fun b_28 h_29 => scK b_28 true (idxSK 24 x_12 0 fun k_30 N_31 o_32 => rdH h_29 k_30 N_31 fun l_33 => atK l_33 (o_32 + 1) fun q_34 => asI .i64 (.c q_34) fun n_35 => some ((n_35 == 0), h_29)) false h_29 fun b_36 h_37 => scK b_36 true (idxSK 24 x_12 0 fun k_38 N_39 o_40 => rdH h_37 k_38 N_39 fun l_41 => if o_40 + 24 ≤ l_41.length then idxSK 24 x_12 2 fun k_42 N_43 o_44 => rdH h_37 k_42 N_43 fun l_45 => if o_44 + 24 ≤ l_45.length then c1 (qh h_37 (C 4 [(.agg ((l_41.drop o_40).take 24)), (.agg ((l_45.drop o_44).take 24))] h_37)) fun y_47 h_46 => asB y_47 fun b_48 => some (b_48, h_37) else none else none) false h_37 fun b_49 h_50 => finish true h0 [(.c (.bool b_49))] h_50 else none := by kernel_rfl

/- jacquard/jacquardlaw18.ClockRises: 224 -/
def jacquardlaw18_ClockRises_k2 (C : CallF) (L : LoopF) (G : Glo) (h0 : AHeap) : Ex → St → Option (List AV × AHeap) :=
  kSeq (fun st => jacquardlaw18_ClockRises_p1.exec C L G st (jacquardlaw18_ClockRises.fin G h0)) (jacquardlaw18_ClockRises.fin G h0)
def jacquardlaw18_ClockRises_k3 (C : CallF) (L : LoopF) (G : Glo) (h0 : AHeap) : Ex → St → Option (List AV × AHeap) :=
  kBlk 0 (jacquardlaw18_ClockRises_k2 C L G h0)
def jacquardlaw18_ClockRises_s3 (x0 : Cell) (a5 : Int) (x8 : Cell) (a9 : Int) (s0 : List Cell) (h : AHeap) : St := ⟨[.v (.c x0), .top, .top, .top, .top, .v (.c (.int .i64 a5)), .loc 0 0, .top, .v (.c x8), .v (.c (.int .i64 a9)), .top, .top, .top, .top, .top, .top, .top, .top, .top, .top, .top, .top, .top, .top, .top, .top, .top, .top, .top, .top, .top, .top, .top, .top, .top, .top, .top, .top, .top, .top, .top, .top, .top, .top, .top, .top, .top, .top, .top, .top, .top, .top, .top, .top, .top, .top, .top, .top, .top, .top, .top, .top, .top, .top, .top, .top, .top, .top, .top, .top, .top, .top, .top, .top, .top, .top, .top, .top, .top, .top, .top, .top, .top, .top, .top, .top, .top, .top, .top, .top, .top, .top, .top, .top, .top, .top, .top], [some s0, none], h⟩
def jacquardlaw18_ClockRises_F3 (C : CallF) (L : LoopF) (G : Glo) : St → Option (Ex × St) :=
  roundF (fun st f => jacquardlaw18_ClockRises_b3.exec C L G st f) [0, 5, 6, 8, 9] [0] [(0, [4], []), (1, [], [])]
def jacquardlaw18_ClockRises_k4 (C : CallF) (L : LoopF) (G : Glo) : Ex → St → Option (Ex × St) :=
  kSeq (fun st => jacquardlaw18_ClockRises_p2.exec C L G st (kLoop [0, 5, 6, 8, 9] [0] [(0, [4], []), (1, [], [])])) (kLoop [0, 5, 6, 8, 9] [0] [(0, [4], []), (1, [], [])])
def jacquardlaw18_ClockRises_k5 (C : CallF) (L : LoopF) (G : Glo) : Ex → St → Option (Ex × St) :=
  kBlk 1 (jacquardlaw18_ClockRises_k4 C L G)
def jacquardlaw18_ClockRises_k6 (C : CallF) (L : LoopF) (G : Glo) : Ex → St → Option (Ex × St) :=
  kSeq (fun st => jacquardlaw18_ClockRises_p3.exec C L G st (jacquardlaw18_ClockRises_k5 C L G)) (jacquardlaw18_ClockRises_k5 C L G)
def jacquardlaw18_ClockRises_c1 (x0 : Cell) (a5 : Int) (x8 : Cell) (a9 : Int) (a10 : Int) (s0 : List Cell) (h : AHeap) : St := ⟨[.v (.c x0), .top, .top, .top, .top, .v (.c (.int .i64 a5)), .loc 0 0, .top, .v (.c x8), .v (.c (.int .i64 a9)), .v (.c (.int .i64 a10)), .top, .top, .top, .top, .top, .top, .top, .top, .top, .top, .top, .top, .top, .top, .top, .top, .top, .top, .top, .top, .top, .top, .top, .top, .top, .top, .top, .top, .top, .top, .top, .top, .top, .top, .top, .top, .top, .top, .top, .top, .top, .top, .top, .top, .top, .top, .top, .top, .top, .top, .top, .top, .top, .top, .top, .top, .top, .top, .top, .top, .top, .top, .top, .top, .top, .top, .top, .top, .top, .top, .top, .top, .top, .top, .top, .top, .top, .top, .top, .top, .top, .top, .top, .top, .top, .top], [some s0, none], h⟩
def jacquardlaw18_ClockRises_k7 (C : CallF) (L : LoopF) (G : Glo) : Ex → St → Option (Ex × St) :=
  kSeq (fun st => jacquardlaw18_ClockRises_p4.exec C L G st (jacquardlaw18_ClockRises_k5 C L G)) (jacquardlaw18_ClockRises_k5 C L G)
def jacquardlaw18_ClockRises_k8 (C : CallF) (L : LoopF) (G : Glo) : Ex → St → Option (Ex × St) :=
  kBlk 2 (jacquardlaw18_ClockRises_k7 C L G)
def jacquardlaw18_ClockRises_s1 (x0 : Cell) (a5 : Int) (x8 : Cell) (a9 : Int) (a10 : Int) (a11 : Int) (a12 : Int) (s0 : List Cell) (h : AHeap) : St := ⟨[.v (.c x0), .top, .top, .top, .top, .v (.c (.int .i64 a5)), .loc 0 0, .top, .v (.c x8), .v (.c (.int .i64 a9)), .v (.c (.int .i64 a10)), .v (.c (.int .i64 a11)), .v (.c (.int .i64 a12)), .top, .top, .top, .top, .top, .top, .top, .top, .top, .top, .top, .top, .top, .top, .top, .top, .top, .top, .top, .top, .top, .top, .top, .top, .top, .top, .top, .top, .top, .top, .top, .top, .top, .top, .top, .top, .top, .top, .top, .top, .top, .top, .top, .top, .top, .top, .top, .top, .top, .top, .top, .top, .top, .top, .top, .top, .top, .top, .top, .top, .top, .top, .top, .top, .top, .top, .top, .top, .top, .top, .top, .top, .top, .top, .top, .top, .top, .top, .top, .top, .top, .top, .top, .top], [some s0, none], h⟩
def jacquardlaw18_ClockRises_F1 (C : CallF) (L : LoopF) (G : Glo) : St → Option (Ex × St) :=
  roundF (fun st f => jacquardlaw18_ClockRises_b1.exec C L G st f) [0, 5, 6, 8, 9, 10, 11, 12] [0] [(3, [0, 5, 6, 8, 9, 10, 11], [0])]
def jacquardlaw18_ClockRises_x1_3 (x0 : Cell) (a5 : Int) (x8 : Cell) (a9 : Int) (a10 : Int) (a11 : Int) (s0 : List Cell) (h : AHeap) : St := ⟨[.v (.c x0), .top, .top, .top, .top, .v (.c (.int .i64 a5)), .loc 0 0, .top, .v (.c x8), .v (.c (.int .i64 a9)), .v (.c (.int .i64 a10)), .v (.c (.int .i64 a11)), .top, .top, .top, .top, .top, .top, .top, .top, .top, .top, .top, .top, .top, .top, .top, .top, .top, .top, .top, .top, .top, .top, .top, .top, .top, .top, .top, .top, .top, .top, .top, .top, .top, .top, .top, .top, .top, .top, .top, .top, .top, .top, .top, .top, .top, .top, .top, .top, .top, .top, .top, .top, .top, .top, .top, .top, .top, .top, .top, .top, .top, .top, .top, .top, .top, .top, .top, .top, .top, .top, .top, .top, .top, .top, .top, .top, .top, .top, .top, .top, .top, .top, .top, .top, .top], [some s0, none], h⟩
def jacquardlaw18_ClockRises_x3_0 (b4 : Bool) (h : AHeap) : St := ⟨[.top, .top, .top, .top, .v (.c (.bool b4)), .top, .top, .top, .top, .top, .top, .top, .top, .top, .top, .top, .top, .top, .top, .top, .top, .top, .top, .top, .top, .top, .top, .top, .top, .top, .top, .top, .top, .top, .top, .top, .top, .top, .top, .top, .top, .top, .top, .top, .top, .top, .top, .top, .top, .top, .top, .top, .top, .top, .top, .top, .top, .top, .top, .top, .top, .top, .top, .top, .top, .top, .top, .top, .top, .top, .top, .top, .top, .top, .top, .top, .top, .top, .top, .top, .top, .top, .top, .top, .top, .top, .top, .top, .top, .top, .top, .top, .top, .top, .top, .top, .top], [none, none], h⟩
def jacquardlaw18_ClockRises_k9 (C : CallF) (L : LoopF) (G : Glo) : Ex → St → Option (Ex × St) :=
  kBlk 4 (jacquardlaw18_ClockRises_k5 C L G)
def jacquardlaw18_ClockRises_s2 (x0 : Cell) (a5 : Int) (x8 : Cell) (a9 : Int) (a13 : Int) (s0 : List Cell) (h : AHeap) : St := ⟨[.v (.c x0), .top, .top, .top, .top, .v (.c (.int .i64 a5)), .loc 0 0, .top, .v (.c x8), .v (.c (.int .i64 a9)), .top, .top, .top, .v (.c (.int .i64 a13)), .top, .top, .top, .top, .top, .top, .top, .top, .top, .top, .top, .top, .top, .top, .top, .top, .top, .top, .top, .top, .top, .top, .top, .top, .top, .top, .top, .top, .top, .top, .top, .top, .top, .top, .top, .top, .top, .top, .top, .top, .top, .top, .top, .top, .top, .top, .top, .top, .top, .top, .top, .top, .top, .top, .top, .top, .top, .top, .top, .top, .top, .top, .top, .top, .top, .top, .top, .top, .top, .top, .top, .top, .top, .top, .top, .top, .top, .top, .top, .top, .top, .top, .top], [some s0, none], h⟩
def jacquardlaw18_ClockRises_F2 (C : CallF) (L : LoopF) (G : Glo) : St → Option (Ex × St) :=
  roundF (fun st f => jacquardlaw18_ClockRises_b2.exec C L G st f) [0, 5, 6, 8, 9, 13] [0] [(0, [4], []), (5, [0, 5, 6, 8, 9], [0])]
def jacquardlaw18_ClockRises_x2_0 (b4 : Bool) (h : AHeap) : St := ⟨[.top, .top, .top, .top, .v (.c (.bool b4)), .top, .top, .top, .top, .top, .top, .top, .top, .top, .top, .top, .top, .top, .top, .top, .top, .top, .top, .top, .top, .top, .top, .top, .top, .top, .top, .top, .top, .top, .top, .top, .top, .top, .top, .top, .top, .top, .top, .top, .top, .top, .top, .top, .top, .top, .top, .top, .top, .top, .top, .top, .top, .top, .top, .top, .top, .top, .top, .top, .top, .top, .top, .top, .top, .top, .top, .top, .top, .top, .top, .top, .top, .top, .top, .top, .top, .top, .top, .top, .top, .top, .top, .top, .top, .top, .top, .top, .top, .top, .top, .top, .top], [none, none], h⟩
def jacquardlaw18_ClockRises_x2_5 (x0 : Cell) (a5 : Int) (x8 : Cell) (a9 : Int) (s0 : List Cell) (h : AHeap) : St := ⟨[.v (.c x0), .top, .top, .top, .top, .v (.c (.int .i64 a5)), .loc 0 0, .top, .v (.c x8), .v (.c (.int .i64 a9)), .top, .top, .top, .top, .top, .top, .top, .top, .top, .top, .top, .top, .top, .top, .top, .top, .top, .top, .top, .top, .top, .top, .top, .top, .top, .top, .top, .top, .top, .top, .top, .top, .top, .top, .top, .top, .top, .top, .top, .top, .top, .top, .top, .top, .top, .top, .top, .top, .top, .top, .top, .top, .top, .top, .top, .top, .top, .top, .top, .top, .top, .top, .top, .top, .top, .top, .top, .top, .top, .top, .top, .top, .top, .top, .top, .top, .top, .top, .top, .top, .top, .top, .top, .top, .top, .top, .top], [some s0, none], h⟩
def jacquardlaw18_ClockRises_x3_1 (h : AHeap) : St := ⟨[.top, .top, .top, .top, .top, .top, .top, .top, .top, .top, .top, .top, .top, .top, .top, .top, .top, .top, .top, .top, .top, .top, .top, .top, .top, .top, .top, .top, .top, .top, .top, .top, .top, .top, .top, .top, .top, .top, .top, .top, .top, .top, .top, .top, .top, .top, .top, .top, .top, .top, .top, .top, .top, .top, .top, .top, .top, .top, .top, .top, .top, .top, .top, .top, .top, .top, .top, .top, .top, .top, .top, .top, .top, .top, .top, .top, .top, .top, .top, .top, .top, .top, .top, .top, .top, .top, .top, .top, .top, .top, .top, .top, .top, .top, .top, .top, .top], [none, none], h⟩
theorem jacquardlaw18_ClockRises_r1 (C : CallF) (L : LoopF) (G : Glo) (x0 : Cell) (a5 : Int) (x8 : Cell) (a9 : Int) (a10 : Int) (a11 : Int) (a12 : Int) (s0 : List Cell) (h : AHeap) :
    jacquardlaw18_ClockRises_F1 C L G (jacquardlaw18_ClockRises_s1 x0 a5 x8 a9 a10 a11 a12 s0 h) =
    if (decide (a12 < 24)) = true then idxSK 24 x8 a9 fun k_20 N_21 o_22 => if 0 ≤ a12 ∧ a12 < ((24 : Nat) : Int) then rdH h k_20 N_21 fun l_23 => atK l_23 (o_22 + ((Int.toNat a12) * 1)) fun q_24 => asI .i64 (.c q_24) fun n_25 => some (.normal, (jacquardlaw18_ClockRises_s1 x0 a5 x8 a9 a10 (G.wrap .i64 (a11 + n_25)) (G.wrap .i64 (a12 + 1)) s0 h)) else none else some ((.exit 2), (jacquardlaw18_ClockRises_x1_3 x0 a5 x8 a9 a10 a11 s0 h)) := by kernel_rfl
theorem jacquardlaw18_ClockRises_r2 (C : CallF) (L : LoopF) (G : Glo) (x0 : Cell) (a5 : Int) (x8 : Cell) (a9 : Int) (a13 : Int) (s0 : List Cell) (h : AHeap) :
    jacquardlaw18_ClockRises_F2 C L G (jacquardlaw18_ClockRises_s2 x0 a5 x8 a9 a13 s0 h) =
    if (decide (a13 < a5)) = true then if 0 = 0 ∧ s0.length = 65 then c1 (qh h (C 3 [(.agg s0), (.c (.int .i64 a13)), (.c (.int .i64 a9))] h)) fun y_37 h_36 => asB y_37 fun b_38 => scK b_38 true (idxSK 24 x8 a13 fun k_39 N_40 o_41 => rdH h k_39 N_40 fun l_42 => if o_41 + 24 ≤ l_42.length then idxSK 24 x8 a9 fun k_43 N_44 o_45 => rdH h k_43 N_44 fun l_46 => if o_45 + 24 ≤ l_46.length then c1 (qh h (C 4 [(.agg ((l_42.drop o_41).take 24)), (.agg ((l_46.drop o_45).take 24))] h)) fun y_48 h_47 => asB y_48 fun b_49 => some ((!b_49), h) else none else none) false h fun b_50 h_51 => if b_50 = true then some (.ret, (jacquardlaw18_ClockRises_x2_0 false h_51)) else some (.normal, (jacquardlaw18_ClockRises_s2 x0 a5 x8 a9 (G.wrap .i64 (a13 + 1)) s0 h_51)) else none else some ((.exit 4), (jacquardlaw18_ClockRises_x2_5 x0 a5 x8 a9 s0 h)) := by kernel_rfl
theorem jacquardlaw18_ClockRises_e2_0 (C : CallF) (L : LoopF) (G : Glo) (b4 : Bool) (h : AHeap) :
    (jacquardlaw18_ClockRises_k9 C L G) .ret (jacquardlaw18_ClockRises_x2_0 b4 h) =
    some (.ret, (jacquardlaw18_ClockRises_x3_0 b4 h)) := by kernel_rfl
theorem jacquardlaw18_ClockRises_e2_5 (C : CallF) (L : LoopF) (G : Glo) (x0 : Cell) (a5 : Int) (x8 : Cell) (a9 : Int) (s0 : List Cell) (h : AHeap) :
    (jacquardlaw18_ClockRises_k9 C L G) (.exit 4) (jacquardlaw18_ClockRises_x2_5 x0 a5 x8 a9 s0 h) =
    some (.normal, (jacquardlaw18_ClockRises_s3 x0 a5 x8 (G.wrap .i64 (a9 + 1)) s0 h)) := by kernel_rfl
theorem jacquardlaw18_ClockRises_e1_3 (C : CallF) (L : LoopF) (G : Glo) (x0 : Cell) (a5 : Int) (x8 : Cell) (a9 : Int) (a10 : Int) (a11 : Int) (s0 : List Cell) (h : AHeap) :
    (jacquardlaw18_ClockRises_k8 C L G) (.exit 2) (jacquardlaw18_ClockRises_x1_3 x0 a5 x8 a9 a10 a11 s0 h) =
    idxSK 24 x8 a9 fun k_26 N_27 o_28 => if 0 ≤ a10 ∧ a10 < ((24 : Nat) : Int) then rdH h k_26 N_27 fun l_29 => atK l_29 (o_28 + ((Int.toNat a10) * 1)) fun q_30 => asI .i64 (.c q_30) fun n_31 => scK (decide (n_31 < 1)) false (some ((decide (a11 > a5)), h)) true h fun b_32 h_33 => scK b_32 false (some ((decide (a11 < 1)), h_33)) true h_33 fun b_34 h_35 => if b_34 = true then some (.ret, (jacquardlaw18_ClockRises_x3_0 false h_35)) else (L (jacquardlaw18_ClockRises_F2 C L G) (jacquardlaw18_ClockRises_s2 x0 a5 x8 a9 0 s0 h_35)).bind fun p_52 => (jacquardlaw18_ClockRises_k9 C L G) p_52.1 p_52.2 else none := by kernel_rfl
theorem jacquardlaw18_ClockRises_ec1_n (C : CallF) (L : LoopF) (G : Glo) (x0 : Cell) (a5 : Int) (x8 : Cell) (a9 : Int) (a10 : Int) (s0 : List Cell) (h : AHeap) :
    (jacquardlaw18_ClockRises_k6 C L G) .normal (jacquardlaw18_ClockRises_c1 x0 a5 x8 a9 a10 s0 h) =
    (L (jacquardlaw18_ClockRises_F1 C L G) (jacquardlaw18_ClockRises_s1 x0 a5 x8 a9 a10 0 0 s0 h)).bind fun p_53 => (jacquardlaw18_ClockRises_k8 C L G) p_53.1 p_53.2 := by kernel_rfl
theorem jacquardlaw18_ClockRises_r3 (C : CallF) (L : LoopF) (G : Glo) (x0 : Cell) (a5 : Int) (x8 : Cell) (a9 : Int) (s0 : List Cell) (h : AHeap) :
    jacquardlaw18_ClockRises_F3 C L G (jacquardlaw18_ClockRises_s3 x0 a5 x8 a9 s0 h) =
    if (decide (a9 < a5)) = true then idxSK 1 x0 a9 fun k_12 N_13 o_14 => rdH h k_12 N_13 fun l_15 => atK l_15 o_14 fun q_16 => asI .i64 (.c q_16) fun n_17 => (scK (decide (n_17 < 0)) false (some ((decide (n_17 > 23)), h)) true h fun b_18 h_19 => if b_18 = true then some (.normal, (jacquardlaw18_ClockRises_c1 x0 a5 x8 a9 0 s0 h_19)) else some (.normal, (jacquardlaw18_ClockRises_c1 x0 a5 x8 a9 n_17 s0 h_19)) : Option (Ex × St)).bind fun p_54 => (jacquardlaw18_ClockRises_k6 C L G) p_54.1 p_54.2 else some ((.exit 0), (jacquardlaw18_ClockRises_x3_1 h)) := by kernel_rfl
theorem jacquardlaw18_ClockRises_e3_0 (C : CallF) (L : LoopF) (G : Glo) (h0 : AHeap) (b4 : Bool) (h : AHeap) :
    (jacquardlaw18_ClockRises_k3 C L G h0) .ret (jacquardlaw18_ClockRises_x3_0 b4 h) =
    some ([(.c (.bool b4))], h) := by kernel_rfl
theorem jacquardlaw18_ClockRises_e3_1 (C : CallF) (L : LoopF) (G : Glo) (h0 : AHeap) (h : AHeap) :
    (jacquardlaw18_ClockRises_k3 C L G h0) (.exit 0) (jacquardlaw18_ClockRises_x3_1 h) =
    c1 (C 5 [] h) fun y_56 h_55 => asB y_56 fun b_57 => some ([(.c (.bool b_57))], h_55) := by kernel_rfl
set_option maxRecDepth 100000 in
theorem jacquardlaw18_ClockRises_eq (C : CallF) (L : LoopF) (G : Glo) (x0 : Cell) (x1 : Cell) (h0 : AHeap) :
    jacquardlaw18_ClockRises.body C L G [(.c x0), (.c x1)] h0 =
    lenK x0 fun n_1 => c2 (C 1 [(.c (.int .i64 (if 40 < n_1 then 40 else n_1))), (.c x1)] h0) fun y_3 y_4 h_2 => asA y_3 fun l_5 => asA y_4 fun l_6 => if 0 = 0 ∧ ([Cell.int .i64 0] ++ List.replicate 64 (Cell.int .u64 0)).length = 65 ∧ l_5.length = 65 then if 0 = 0 ∧ ([Cell.int .i64 0] ++ List.replicate 64 (Cell.int .u64 0)).length = 65 ∧ l_6.length = 65 then if 0 = 0 ∧ l_5.length = 65 then sliceK h_2 1 false true x0 [.v (.c (.int .i64 (if 40 < n_1 then 40 else n_1)))] fun x_7 => c1 (C 2 [(.agg l_5), (.c x_7)] h_2) fun y_9 h_8 => asC y_9 fun x_10 => lenK x_10 fun n_11 => if (n_11 != (if 40 < n_1 then 40 else n_1)) = true then some ([(.c (.bool false))], h_8) else (L (jacquardlaw18_ClockRises_F3 C L G) (jacquardlaw18_ClockRises_s3 x0 (if 40 < n_1 then 40 else n_1) x_10 0 l_5 h_8)).bind fun p_58 => (jacquardlaw18_ClockRises_k3 C L G h0) p_58.1 p_58.2 else none else none else none := by kernel_rfl

/- jacquard/jacquardlaw18.ClockJoins: 226 -/
def jacquardlaw18_ClockJoins_k2 (C : CallF) (L : LoopF) (G : Glo) (h0 : AHeap) : Ex → St → Option (List AV × AHeap) :=
  kSeq (fun st => jacquardlaw18_ClockJoins_p1.exec C L G st (jacquardlaw18_ClockJoins.fin G h0)) (jacquardlaw18_ClockJoins.fin G h0)
def jacquardlaw18_ClockJoins_k3 (C : CallF) (L : LoopF) (G : Glo) (h0 : AHeap) : Ex → St → Option (List AV × AHeap) :=
  kBlk 0 (jacquardlaw18_ClockJoins_k2 C L G h0)
def jacquardlaw18_ClockJoins_s1 (b11 : Bool) (a12 : Int) (s3 : List Cell) (s4 : List Cell) (s5 : List Cell) (s6 : List Cell) (h : AHeap) : St := ⟨[.top, .top, .top, .top, .top, .top, .top, .loc 3 0, .loc 4 0, .loc 5 0, .loc 6 0, .v (.c (.bool b11)), .v (.c (.int .i64 a12)), .top, .top, .top, .top, .top, .top, .top, .top, .top, .top, .top, .top, .top, .top, .top, .top, .top, .top, .top, .top, .top, .top, .top, .top, .top, .top, .top, .top, .top, .top, .top, .top, .top, .top, .top, .top, .top, .top, .top, .top, .top, .top, .top, .top, .top, .top, .top, .top, .top, .top, .top, .top, .top, .top, .top, .top, .top, .top, .top, .top, .top, .top, .top, .top, .top, .top, .top, .top, .top, .top, .top, .top, .top, .top, .top, .top, .top, .top, .top, .top, .top, .top, .top, .top, .top, .top, .top, .top, .top, .top, .top, .top, .top, .top, .top, .top, .top], [none, none, none, some s3, some s4, some s5, some s6], h⟩
def jacquardlaw18_ClockJoins_F1 (C : CallF) (L : LoopF) (G : Glo) : St → Option (Ex × St) :=
  roundF (fun st f => jacquardlaw18_ClockJoins_b1.exec C L G st f) [7, 8, 9, 10, 11, 12] [3, 4, 5, 6] [(0, [6], []), (1, [7, 8, 9, 10, 11], [3, 4, 5, 6])]
def jacquardlaw18_ClockJoins_x1_0 (b6 : Bool) (h : AHeap) : St := ⟨[.top, .top, .top, .top, .top, .top, .v (.c (.bool b6)), .top, .top, .top, .top, .top, .top, .top, .top, .top, .top, .top, .top, .top, .top, .top, .top, .top, .top, .top, .top, .top, .top, .top, .top, .top, .top, .top, .top, .top, .top, .top, .top, .top, .top, .top, .top, .top, .top, .top, .top, .top, .top, .top, .top, .top, .top, .top, .top, .top, .top, .top, .top, .top, .top, .top, .top, .top, .top, .top, .top, .top, .top, .top, .top, .top, .top, .top, .top, .top, .top, .top, .top, .top, .top, .top, .top, .top, .top, .top, .top, .top, .top, .top, .top, .top, .top, .top, .top, .top, .top, .top, .top, .top, .top, .top, .top, .top, .top, .top, .top, .top, .top, .top], [none, none, none, none, none, none, none], h⟩
def jacquardlaw18_ClockJoins_x1_1 (b11 : Bool) (s3 : List Cell) (s4 : List Cell) (s5 : List Cell) (s6 : List Cell) (h : AHeap) : St := ⟨[.top, .top, .top, .top, .top, .top, .top, .loc 3 0, .loc 4 0, .loc 5 0, .loc 6 0, .v (.c (.bool b11)), .top, .top, .top, .top, .top, .top, .top, .top, .top, .top, .top, .top, .top, .top, .top, .top, .top, .top, .top, .top, .top, .top, .top, .top, .top, .top, .top, .top, .top, .top, .top, .top, .top, .top, .top, .top, .top, .top, .top, .top, .top, .top, .top, .top, .top, .top, .top, .top, .top, .top, .top, .top, .top, .top, .top, .top, .top, .top, .top, .top, .top, .top, .top, .top, .top, .top, .top, .top, .top, .top, .top, .top, .top, .top, .top, .top, .top, .top, .top, .top, .top, .top, .top, .top, .top, .top, .top, .top, .top, .top, .top, .top, .top, .top, .top, .top, .top, .top], [none, none, none, some s3, some s4, some s5, some s6], h⟩
theorem jacquardlaw18_ClockJoins_r1 (C : CallF) (L : LoopF) (G : Glo) (b11 : Bool) (a12 : Int) (s3 : List Cell) (s4 : List Cell) (s5 : List Cell) (s6 : List Cell) (h : AHeap) :
    jacquardlaw18_ClockJoins_F1 C L G (jacquardlaw18_ClockJoins_s1 b11 a12 s3 s4 s5 s6 h) =
    if (decide (a12 < 24)) = true then if 0 ≤ a12 ∧ a12 < ((24 : Nat) : Int) then atK s6 (0 + ((Int.toNat a12) * 1)) fun q_4 => asI .i64 (.c q_4) fun n_5 => if 0 ≤ a12 ∧ a12 < ((24 : Nat) : Int) then atK s3 (0 + ((Int.toNat a12) * 1)) fun q_6 => asI .i64 (.c q_6) fun n_7 => if 0 ≤ a12 ∧ a12 < ((24 : Nat) : Int) then atK s4 (0 + ((Int.toNat a12) * 1)) fun q_8 => asI .i64 (.c q_8) fun n_9 => if (n_5 != (if n_9 > n_7 then n_9 else n_7)) = true then some (.ret, (jacquardlaw18_ClockJoins_x1_0 false h)) else scK b11 true (if 0 ≤ a12 ∧ a12 < ((24 : Nat) : Int) then atK s3 (0 + ((Int.toNat a12) * 1)) fun q_10 => asI .i64 (.c q_10) fun n_11 => if 0 ≤ a12 ∧ a12 < ((24 : Nat) : Int) then atK s4 (0 + ((Int.toNat a12) * 1)) fun q_12 => asI .i64 (.c q_12) fun n_13 => some ((decide (n_11 ≤ n_13)), h) else none else none) false h fun b_14 h_15 => some (.normal, (jacquardlaw18_ClockJoins_s1 b_14 (G.wrap .i64 (a12 + 1)) s3 s4 s5 s6 h_15)) else none else none else none else some ((.exit 0), (jacquardlaw18_ClockJoins_x1_1 b11 s3 s4 s5 s6 h)) := by kernel_rfl
theorem jacquardlaw18_ClockJoins_e1_0 (C : CallF) (L : LoopF) (G : Glo) (h0 : AHeap) (b6 : Bool) (h : AHeap) :
    (jacquardlaw18_ClockJoins_k3 C L G h0) .ret (jacquardlaw18_ClockJoins_x1_0 b6 h) =
    some ([(.c (.bool b6))], h) := by kernel_rfl
theorem jacquardlaw18_ClockJoins_e1_1 (C : CallF) (L : LoopF) (G : Glo) (h0 : AHeap) (b11 : Bool) (s3 : List Cell) (s4 : List Cell) (s5 : List Cell) (s6 : List Cell) (h : AHeap) :
    (jacquardlaw18_ClockJoins_k3 C L G h0) (.exit 0) (jacquardlaw18_ClockJoins_x1_1 b11 s3 s4 s5 s6 h) =
    if 0 = 0 ∧ s3.length = 24 then if 0 = 0 ∧ s4.length = 24 then c1 (qh h (C 4 [(.agg s3), (.agg s4)] h)) fun y_17 h_16 => asB y_17 fun b_18 => scK (!(b_18 == b11)) false (if 0 = 0 ∧ s3.length = 24 then if 0 = 0 ∧ s6.length = 24 then c1 (qh h (C 4 [(.agg s3), (.agg s6)] h)) fun y_20 h_19 => asB y_20 fun b_21 => some ((!b_21), h) else none else none) true h fun b_22 h_23 => scK b_22 false (if 0 = 0 ∧ s4.length = 24 then if 0 = 0 ∧ s6.length = 24 then c1 (qh h_23 (C 4 [(.agg s4), (.agg s6)] h_23)) fun y_25 h_24 => asB y_25 fun b_26 => some ((!b_26), h_23) else none else none) true h_23 fun b_27 h_28 => scK b_27 false (if 0 = 0 ∧ s6.length = 24 then if 0 = 0 ∧ s4.length = 24 then if 0 = 0 ∧ s3.length = 24 then c1 (qh h_28 (C 8 [(.agg s4), (.agg s3)] h_28)) fun y_30 h_29 => asA y_30 fun l_31 => if alike s6 (List.replicate 24 (Cell.int .i64 0)) = true ∧ alike l_31 (List.replicate 24 (Cell.int .i64 0)) = true then some ((!(decide (s6 = l_31))), h_28) else none else none else none else none) true h_28 fun b_32 h_33 => scK b_32 false (if 0 = 0 ∧ s3.length = 24 then if 0 = 0 ∧ s3.length = 24 then c1 (qh h_33 (C 8 [(.agg s3), (.agg s3)] h_33)) fun y_35 h_34 => asA y_35 fun l_36 => if 0 = 0 ∧ s3.length = 24 then if alike l_36 (List.replicate 24 (Cell.int .i64 0)) = true ∧ alike s3 (List.replicate 24 (Cell.int .i64 0)) = true then some ((!(decide (l_36 = s3))), h_33) else none else none else none else none) true h_33 fun b_37 h_38 => if b_37 = true then some ([(.c (.bool false))], h_38) else if 0 = 0 ∧ s3.length = 24 then if 0 = 0 ∧ s5.length = 24 then c1 (C 4 [(.agg s3), (.agg s5)] h_38) fun y_40 h_39 => asB y_40 fun b_41 => scK (!b_41) false (if 0 = 0 ∧ s4.length = 24 then if 0 = 0 ∧ s5.length = 24 then c1 (C 4 [(.agg s4), (.agg s5)] h_39) fun y_43 h_42 => asB y_43 fun b_44 => some ((!b_44), h_42) else none else none) true h_39 fun b_45 h_46 => scK b_45 false (if 0 = 0 ∧ s6.length = 24 then if 0 = 0 ∧ s5.length = 24 then c1 (C 4 [(.agg s6), (.agg s5)] h_46) fun y_48 h_47 => asB y_48 fun b_49 => some (b_49, h_47) else none else none) true h_46 fun b_50 h_51 => scK b_50 true (if 0 = 0 ∧ s3.length = 24 then if 0 = 0 ∧ s4.length = 24 then c1 (C 4 [(.agg s3), (.agg s4)] h_51) fun y_53 h_52 => asB y_53 fun b_54 => scK (!b_54) false (if 0 = 0 ∧ s4.length = 24 then if 0 = 0 ∧ s5.length = 24 then c1 (C 4 [(.agg s4), (.agg s5)] h_52) fun y_56 h_55 => asB y_56 fun b_57 => some ((!b_57), h_55) else none else none) true h_52 fun b_58 h_59 => scK b_58 false (if 0 = 0 ∧ s3.length = 24 then if 0 = 0 ∧ s5.length = 24 then c1 (C 4 [(.agg s3), (.agg s5)] h_59) fun y_61 h_60 => asB y_61 fun b_62 => some (b_62, h_60) else none else none) true h_59 fun b_63 h_64 => some (b_63, h_64) else none else none) false h_51 fun b_65 h_66 => scK b_65 true (c1 (C 5 [] h_66) fun y_68 h_67 => asB y_68 fun b_69 => some (b_69, h_67)) false h_66 fun b_70 h_71 => some ([(.c (.bool b_70))], h_71) else none else none else none else none := by kernel_rfl
set_option maxRecDepth 100000 in
theorem jacquardlaw18_ClockJoins_eq (C : CallF) (L : LoopF) (G : Glo) (l0 : List Cell) (l1 : List Cell) (l2 : List Cell) (h0 : AHeap) :
    jacquardlaw18_ClockJoins.body C L G [(.agg l0), (.agg l1), (.agg l2)] h0 =
    if 0 = 0 ∧ l0.length = 24 then if 0 = 0 ∧ l1.length = 24 then if 0 = 0 ∧ l2.length = 24 then if 0 = 0 ∧ (List.replicate 24 (Cell.int .i64 0)).length = 24 ∧ l0.length = 24 then if 0 = 0 ∧ (List.replicate 24 (Cell.int .i64 0)).length = 24 ∧ l1.length = 24 then if 0 = 0 ∧ (List.replicate 24 (Cell.int .i64 0)).length = 24 ∧ l2.length = 24 then if 0 = 0 ∧ l0.length = 24 then if 0 = 0 ∧ l1.length = 24 then c1 (C 8 [(.agg l0), (.agg l1)] h0) fun y_2 h_1 => asA y_2 fun l_3 => if 0 = 0 ∧ (List.replicate 24 (Cell.int .i64 0)).length = 24 ∧ l_3.length = 24 then (L (jacquardlaw18_ClockJoins_F1 C L G) (jacquardlaw18_ClockJoins_s1 true 0 l0 l1 l2 l_3 h_1)).bind fun p_72 => (jacquardlaw18_ClockJoins_k3 C L G h0) p_72.1 p_72.2 else none else none else none else none else none else none else none else none else none := by kernel_rfl

/- jacquard/jacquardlaw18.ClockShort: 228 -/
set_option maxRecDepth 100000 in
theorem jacquardlaw18_ClockShort_eq (C : CallF) (L : LoopF) (G : Glo) (x0 : Cell) (x1 : Cell) (a2 : Int) (h0 : AHeap) :
    jacquardlaw18_ClockShort.body C L G [(.c x0), (.c x1), (.c (.int .i64 a2))] h0 =
    lenK x0 fun n_1 => scK (n_1 == 0) false (lenK x0 fun n_2 => some ((decide (n_2 > 60)), h0)) true h0 fun b_3 h_4 => if b_3 = true then c1 (C 5 [] h_4) fun y_6 h_5 => asB y_6 fun b_7 => some ([(.c (.bool b_7))], h_5) else lenK x0 fun n_8 => c2 (C 1 [(.c (.int .i64 n_8)), (.c x1)] h_4) fun y_10 y_11 h_9 => asA y_10 fun l_12 => asA y_11 fun l_13 => if 0 = 0 ∧ ([Cell.int .i64 0] ++ List.replicate 64 (Cell.int .u64 0)).length = 65 ∧ l_12.length = 65 then if 0 = 0 ∧ ([Cell.int .i64 0] ++ List.replicate 64 (Cell.int .u64 0)).length = 65 ∧ l_13.length = 65 then if 0 = 0 ∧ l_12.length = 65 then c1 (C 2 [(.agg l_12), (.c x0)] h_9) fun y_15 h_14 => asC y_15 fun x_16 => lenK x_16 fun n_17 => lenK x0 fun n_18 => if (n_17 != n_18) = true then some ([(.c (.bool false))], h_14) else lenK x0 fun n_19 => if n_19 = 0 then none else sliceK h_14 24 false true x_16 [.v (.c (.int .i64 (G.rem .i64 (G.band .i64 a2 65535) n_19)))] fun x_20 => c1 (C 11 [(.c x_20), (.c x0)] h_14) fun y_22 h_21 => asA y_22 fun l_23 => c1 (C 20 [(.agg l_23)] h_21) fun y_25 h_24 => asC y_25 fun x_26 => lenK x_26 fun n_27 => scK (n_27 == 0) true (c1 (C 5 [] h_24) fun y_29 h_28 => asB y_29 fun b_30 => some (b_30, h_28)) false h_24 fun b_31 h_32 => some ([(.c (.bool b_31))], h_32) else none else none else none := by kernel_rfl


end Jq

/- Clocks' laws. -/
namespace Jq
open Go

variable {E : Env}

theorem SlAt.blkM (h : AHeap) (n : Nat) (V : Nat → Nat → Int) : SlAt (h ++ [some ⟨true, 24, matL n V⟩]) (.sl h.length (n * 24) 0 n) 24 (matL n V) n :=
  ⟨matL_len V n, .inr ⟨_, _, 0, rfl, .inr ⟨_, blk_new _ _, matL_len V n, by omega, fun j _ => by simp⟩⟩⟩

theorem SlAt.getC {α : Type} {h : AHeap} {x : Cell} {n : Nat} {V : Nat → Nat → Int} (s : SlAt h x 24 (matL n V) n) {i : Int} (a : Nat) (hi : i = (a : Int)) {p : Nat} (ha : a < n) (hp : p < 24) {f : Cell → Option α} :
    (idxSK 24 x i fun k N o => rdH h k N fun l => atK l (o + p) f) = f (.int .i64 (V a p)) := by
  subst hi; exact s.get ha hp (matL_get hp ha)

theorem SlAt.leqC {α : Type} {h : AHeap} {x : Cell} {n : Nat} {V : Nat → Nat → Int} (hE : clock_Leq_In E) (s : SlAt h x 24 (matL n V) n) {i j : Int} (a b : Nat) (hi : i = (a : Int)) (hj : j = (b : Int)) (ha : a < n) (hb : b < n) {f : Bool → Option α} :
    (idxSK 24 x i fun k N o => rdH h k N fun l => if o + 24 ≤ l.length then idxSK 24 x j fun k N o' => rdH h k N fun l' => if o' + 24 ≤ l'.length then c1 (qh h (R E 4 [.agg ((l.drop o).take 24), .agg ((l'.drop o').take 24)] h)) fun y _ => asB y fun b => f b else none else none) = f (leqV (V a) (V b)) := by
  subst hi; subst hj; exact s.leqM hE ha hb

theorem awake18_R (hE : jacquardlaw18_awake_In E) (h : AHeap) : R E 5 [] h = some ([.c (.bool true)], h) := by
  refine R_intro hE.fn ?_
  have w0 : Words fun _ => 0 := words_zero
  have w1 : Words (addR 3 (fun _ => 0) 0 1) := words_add w0 0 1
  have w2 : Words (addR 3 (addR 3 (fun _ => 0) 0 1) 1 2) := words_add w1 1 2
  have c3 : clamp 3 = 3 := rfl
  have b1 : (clks 3 (addR 3 (addR 3 (fun _ => 0) 0 1) 1 2) [0, 0, 1] 2 0 == 2) = true := by decide +kernel
  have b2 : (clks 3 (addR 3 (addR 3 (fun _ => 0) 0 1) 1 2) [0, 0, 1] 2 1 == 1) = true := by decide +kernel
  have b3 : (clks 3 (addR 3 (addR 3 (fun _ => 0) 0 1) 1 2) [0, 0, 1] 0 1 == 0) = true := by decide +kernel
  have b4 : leqV (clks 3 (addR 3 (addR 3 (fun _ => 0) 0 1) 1 2) [0, 0, 1] 0) (clks 3 (addR 3 (addR 3 (fun _ => 0) 0 1) 1 2) [0, 0, 1] 2) = true := by decide +kernel
  have hl : splice (splice (splice [Cell.int .i64 0, Cell.int .i64 0, Cell.int .i64 0] 0 ([(.int .i64 0)] : List Cell)) 1 ([(.int .i64 0)] : List Cell)) 2 ([(.int .i64 1)] : List Cell) = intC .i64 [0, 0, 1] := rfl
  rw [jacquardlaw18_awake_eq, New_R hE.c9, c1_ok, asA_ok, c3, Add_R hE.c10 (by omega) w0, c1_ok, asA_ok, Add_R hE.c10 (by omega) w1, c1_ok, asA_ok, hl]
  rw [if_pos (show (intC .i64 [0, 0, 1]).length = 3 * 1 from rfl)]
  have hat : SlAt (h ++ [some ⟨true, 1, intC .i64 [0, 0, 1]⟩]) (.sl h.length (intC .i64 [0, 0, 1]).length 0 3) 1 (intC .i64 [0, 0, 1]) [(0 : Int), 0, 1].length := SlAt.one []
  rw [ClkOf_R (n := 3) hE.c2 (by omega) w2 hat (.inr (by simp)) rfl, c1_ok, asC_ok]
  have hs := SlAt.blkM (h ++ [some ⟨true, 1, intC .i64 [0, 0, 1]⟩]) 3 (clks 3 (addR 3 (addR 3 (fun _ => 0) 0 1) 1 2) [0, 0, 1])
  have hK : Kp h.length h ((h ++ [some ⟨true, 1, intC .i64 [0, 0, 1]⟩]) ++ [some ⟨true, 24, matL 3 (clks 3 (addR 3 (addR 3 (fun _ => 0) 0 1) 1 2) [0, 0, 1])⟩]) := by
    rw [List.append_assoc]; exact Kp.app _ (Nat.le_refl _)
  generalize (h ++ [some ⟨true, 1, intC .i64 [0, 0, 1]⟩]) ++ [some ⟨true, 24, matL 3 (clks 3 (addR 3 (addR 3 (fun _ => 0) 0 1) 1 2) [0, 0, 1])⟩] = H at *
  rw [hs.len, show (((3 : Nat) : Int) == 3) = true from rfl, scK_ok, hs.getC (i := 2) 2 rfl (by omega) (by omega), asI_ok, b1, bind_ok]
  dsimp only
  rw [scK_ok, hs.getC (i := 2) 2 rfl (by omega) (by omega), asI_ok, b2, bind_ok]
  dsimp only
  rw [scK_ok, hs.getC (i := 0) 0 rfl (by omega) (by omega), asI_ok, b3, bind_ok]
  dsimp only
  rw [scK_ok, hs.leqC hE.c4 (i := 0) (j := 2) 0 2 rfl rfl (by omega) (by omega), b4, bind_ok]
  exact finish_gc hK (by simp [avOk, AV.cells, idOk])

theorem leq_trans {u v w : Nat → Int} (h1 : leqV u v = true) (h2 : leqV v w = true) : leqV u w = true := by
  rw [leqV_iff] at *; intro p hp; exact Int.le_trans (h1 p hp) (h2 p hp)
theorem leq_join1 (u v : Nat → Int) : leqV u (joinV u v) = true := by
  rw [leqV_iff]; intro p _; unfold joinV; split <;> omega
theorem leq_join2 (u v : Nat → Int) : leqV v (joinV u v) = true := by
  rw [leqV_iff]; intro p _; unfold joinV; split <;> omega
theorem join_leq {u v w : Nat → Int} (h1 : leqV u w = true) (h2 : leqV v w = true) : leqV (joinV u v) w = true := by
  rw [leqV_iff] at *; intro p hp; unfold joinV; split; exact h2 p hp; exact h1 p hp
theorem join_comm (u v : Nat → Int) : vecL (joinV u v) = vecL (joinV v u) := vecL_congr fun p _ => by unfold joinV; split <;> split <;> omega
theorem join_self (u : Nat → Int) : vecL (joinV u u) = vecL u := vecL_congr fun p _ => by unfold joinV; split <;> rfl

theorem ClockJoins_R (hE : jacquardlaw18_ClockJoins_In E) (u v w : Nat → Int) (h : AHeap) : R E 226 [.agg (vecL u), .agg (vecL v), .agg (vecL w)] h = some ([.c (.bool true)], h) := by
  refine R_intro hE.fn ?_
  have loop : Lim (jacquardlaw18_ClockJoins_F1 (R E) Lim E.glob) (jacquardlaw18_ClockJoins_s1 ((List.range 0).all fun p => decide (u p ≤ v p)) ((0 : Nat) : Int) (vecL u) (vecL v) (vecL w) (vecL (joinV u v)) h) = some (.exit 0, jacquardlaw18_ClockJoins_x1_1 (leqV u v) (vecL u) (vecL v) (vecL w) (vecL (joinV u v)) h) := by
    refine Lim_count (fun i => jacquardlaw18_ClockJoins_s1 ((List.range i).all fun p => decide (u p ≤ v p)) (i : Int) (vecL u) (vecL v) (vecL w) (vecL (joinV u v)) h) 0 24 (by omega) (fun i _ hi => ?_) (Lim_exit ?_)
    · have q1 : 0 ≤ (i : Int) ∧ (i : Int) < ((24 : Nat) : Int) := by omega
      have e : (joinV u v i != if v i > u i then v i else u i) = false := by unfold joinV; exact bne_self_eq_false _
      simp only [jacquardlaw18_ClockJoins_r1, if_pos q1, Int.toNat_natCast, show 0 + i * 1 = i by omega, atK_ok (vecL_get hi), asI_ok, e, scK_and, g_succ (show i < 9223372036854775807 by omega), List.range_succ, List.all_append]
      rw [if_pos (by simp; omega), if_neg (by simp)]
      simp
    · rw [jacquardlaw18_ClockJoins_r1, if_neg (by simp)]; rfl
  have lj1 := leq_join1 u v
  have lj2 := leq_join2 u v
  have ec := join_comm v u
  have es := join_self u
  rw [jacquardlaw18_ClockJoins_eq]
  simp only [vecL_len, List.length_replicate, and_self, if_true, Join_R hE.c8, c1_ok, asA_ok]
  rw [show jacquardlaw18_ClockJoins_s1 true 0 (vecL u) (vecL v) (vecL w) (vecL (joinV u v)) h = jacquardlaw18_ClockJoins_s1 ((List.range 0).all fun p => decide (u p ≤ v p)) ((0 : Nat) : Int) (vecL u) (vecL v) (vecL w) (vecL (joinV u v)) h from rfl, loop, bind_ok, jacquardlaw18_ClockJoins_e1_1]
  simp only [vecL_len, and_self, if_true, Leq_R hE.c4, Join_R hE.c8, awake18_R hE.c5, qh_ok, c1_ok, asA_ok, asB_ok, lj1, lj2, ec, es, zero24, alike_vec, decide_true, scK_or, scK_and, beq_self_eq_true, Bool.not_true, Bool.or_self, Bool.false_eq_true, if_false, Bool.and_true]
  have k1 := @join_leq u v w
  have k2 := @leq_trans u v w
  cases h1 : leqV u v <;> cases h2 : leqV u w <;> cases h3 : leqV v w <;> simp_all

theorem ClockJoins_law (hE : jacquardlaw18_ClockJoins_In E) {h : AHeap} {c0 c1 c2 : List Cell} (o0 : okC h (.agg (Sh.rep (.i .i64) 24)) c0) (o1 : okC h (.agg (Sh.rep (.i .i64) 24)) c1) (o2 : okC h (.agg (Sh.rep (.i .i64) 24)) c2) :
    ∃ h', R E 226 [av1 (.agg (Sh.rep (.i .i64) 24)) c0, av1 (.agg (Sh.rep (.i .i64) 24)) c1, av1 (.agg (Sh.rep (.i .i64) 24)) c2] h = some ([.c (.bool true)], h') := by
  obtain ⟨u, e0⟩ := arg_vec o0
  obtain ⟨v, e1⟩ := arg_vec o1
  obtain ⟨w, e2⟩ := arg_vec o2
  rw [e0, e1, e2]
  exact ⟨h, ClockJoins_R hE u v w h⟩

/- Too few clocks. -/
theorem Back_nil (hE : clock_Back_In E) {x0 x1 : Cell} {m n : Nat} (h0 : ∀ {α : Type} (f : Int → Option α), lenK x0 f = f m) (h1 : ∀ {α : Type} (f : Int → Option α), lenK x1 f = f n) (hmn : m < n) (h : AHeap) :
    R E 11 [.c x0, .c x1] h = some ([.agg (relL 0 fun _ => 0)], h) := by
  refine R_intro hE.fn ?_
  have hc : clamp 0 = 0 := rfl
  have e : decide ((m : Int) < (n : Int)) = true := by simp; omega
  rw [clock_Back_eq]
  simp only [h0, h1, scK_or, e, Bool.or_true, if_true, New_R hE.c9, c1_ok, asA_ok, hc, relL_len, zero_len, and_self]

theorem g_band65535 {x : Int} : E.glob.band .i64 x 65535 = x % 65536 := by
  show IntKind.wrap .i64 ((BitVec.ofInt 64 x &&& BitVec.ofInt 64 65535).toNat : Nat) = _
  have h1 : (BitVec.ofInt 64 x &&& BitVec.ofInt 64 65535).toNat = (BitVec.ofInt 64 x).toNat % 65536 := by
    rw [BitVec.toNat_and]
    have : (BitVec.ofInt 64 65535).toNat = 2 ^ 16 - 1 := by decide
    rw [this, Nat.and_two_pow_sub_one_eq_mod]
  rw [h1, BitVec.toNat_ofInt]
  have h3 : ((((x % ((2 ^ 64 : Nat) : Int)).toNat % 65536 : Nat) : Int)) = x % 65536 := by omega
  rw [h3]
  exact wrap_i64 (by omega) (by omega)

theorem ClockShort_R (hE : jacquardlaw18_ClockShort_In E) (ht : TabOk E) {x0 x1 : Cell} {l : List Int} {l1 : List (Int × Int)} (a2 : Int) {h : AHeap} (hx0 : SlAt h x0 1 (intC .i64 l) l.length) (hl0 : Low h.length x0)
    (hx1 : SlAt h x1 2 (pairC l1) l1.length) (hl1 : Low h.length x1) : ∃ h', R E 228 [.c x0, .c x1, .c (.int .i64 a2)] h = some ([.c (.bool true)], h') := by
  suffices hh : ∃ h', jacquardlaw18_ClockShort.body (R E) Lim E.glob [.c x0, .c x1, .c (.int .i64 a2)] h = some ([.c (.bool true)], h') by
    obtain ⟨h', hh⟩ := hh; exact ⟨h', R_intro hE.fn hh⟩
  rw [jacquardlaw18_ClockShort_eq]
  simp only [hx0.len]
  rw [scK_or]
  by_cases hb : (((l.length : Int) == 0) || decide ((l.length : Int) > 60)) = true
  · rw [if_pos hb, awake18_R hE.c5, c1_ok, asB_ok]; exact ⟨_, rfl⟩
  · rw [if_neg hb]
    have hb' : l.length ≠ 0 ∧ l.length ≤ 60 := by
      simp only [Bool.or_eq_true, beq_iff_eq, decide_eq_true_eq, not_or] at hb; omega
    have hn : l.length ≤ 64 := by omega
    rw [Of_R hE.c1 (l.length : Int) hx1 hl1, c2_ok, asA_ok, asA_ok, clamp_nat hn]
    have hf := words_of l.length (l1.take 200)
    generalize ofR l.length (l1.take 200) = f at *
    simp only [relL_len, zero_len, and_self, if_true]
    rw [ClkOf_R hE.c2 hn hf hx0 hl0 rfl, c1_ok, asC_ok]
    obtain ⟨m, hm, hmv⟩ : ∃ m : Nat, m < l.length ∧ E.glob.rem .i64 (E.glob.band .i64 a2 65535) (l.length : Int) = (m : Int) := by
      have h1 := Int.emod_lt_of_pos (a2 % 65536) (show (0 : Int) < l.length by omega)
      have h2 := Int.emod_nonneg (a2 % 65536) (show (l.length : Int) ≠ 0 by omega)
      exact ⟨(a2 % 65536 % l.length).toNat, by omega, by rw [g_band65535, g_rem, Int.tmod_eq_emod_of_nonneg (show 0 ≤ a2 % 65536 by omega), Int.toNat_of_nonneg h2]⟩
    have hs := SlAt.blkM h l.length (clks l.length f l)
    rw [hs.len, bne_self_eq_false, if_neg (by simp), if_neg (by omega), hmv]
    have hsl : ∀ {α : Type} (F : Cell → Option α), sliceK (h ++ [some ⟨true, 24, matL l.length (clks l.length f l)⟩]) 24 false true (.sl h.length (l.length * 24) 0 l.length) [.v (.c (.int .i64 (m : Int)))] F = F (.sl h.length (l.length * 24) (0 + 0 * 24) (m - 0)) := by
      intro α F
      unfold sliceK
      have hok : okSl (h ++ [some ⟨true, 24, matL l.length (clks l.length f l)⟩]) 24 h.length (l.length * 24) = true := by unfold okSl; rw [blk_new]; simp
      simp only [hok, if_true]
      unfold boundsK
      simp only
      rw [if_pos ⟨by omega, by omega⟩]; rfl
    rw [hsl, Back_nil hE.c11 (m := m) (n := l.length) (fun f => rfl) (fun f => hx0.len) hm, c1_ok, asA_ok]
    obtain ⟨x', h', hP, hx', _⟩ := Pairs_R hE.c20 ht (n := 0) (by omega) words_zero (h ++ [some ⟨true, 24, matL l.length (clks l.length f l)⟩])
    rw [hP, c1_ok, asC_ok, hx'.at.len, show (((pairsP 0 fun _ => 0).length : Nat) : Int) == 0 by rfl, scK_ok, awake18_R hE.c5, c1_ok, asB_ok, bind_ok]
    exact ⟨_, rfl⟩

theorem ClockShort_law (ht : TabOk E) (hE : jacquardlaw18_ClockShort_In E) {h : AHeap} {c0 c1 c2 : List Cell} (o0 : okC h (.sl (.i .i64)) c0) (o1 : okC h (.sl shPair) c1) (o2 : okC h (.i .i64) c2) :
    ∃ h', R E 228 [av1 (.sl (.i .i64)) c0, av1 (.sl shPair) c1, av1 (.i .i64) c2] h = some ([.c (.bool true)], h') := by
  obtain ⟨x0, l, e0, hx0, hl0, _⟩ := arg_ints o0
  obtain ⟨x1, l1, e1, hx1, hl1, _⟩ := arg_pairs o1
  obtain ⟨a2, e2, _⟩ := arg_int o2
  rw [e0, e1, e2]
  exact ClockShort_R hE ht a2 hx0 hl0 hx1 hl1

/- A clock rises along the order. -/
theorem cntP_cut (P : Nat → Bool) (L : Nat → Nat) (q : Nat) : ∀ m, cntP (fun j => P j && decide (L j < q + 1)) m = cntP (fun j => P j && decide (L j < q)) m + cntP (fun j => P j && decide (L j = q)) m
  | 0 => rfl
  | m + 1 => by
    rw [cntP_succ, cntP_succ, cntP_succ, cntP_cut P L q m]
    cases P m with
    | false => simp
    | true =>
      rcases Nat.lt_trichotomy (L m) q with h | h | h
      · have h1 : L m < q + 1 := by omega
        have h2 : ¬ L m = q := by omega
        simp [h, h1, h2]; omega
      · simp [h]; omega
      · have h1 : ¬ L m < q + 1 := by omega
        have h2 : ¬ L m = q := by omega
        have h3 : ¬ L m < q := by omega
        simp [h1, h2, h3]

/-- What all lanes below q count. -/
def tot (c : Nat → Nat) (l : List Int) (i n q : Nat) : Nat := cntP (fun j => (decide (j = i) || (c j).testBit i) && decide (lane l j < q)) n

theorem tot_succ (c : Nat → Nat) (l : List Int) (i n q : Nat) : tot c l i n (q + 1) = tot c l i n q + vc c l i q n := cntP_cut _ _ q n

theorem tot_zero (c : Nat → Nat) (l : List Int) (i n : Nat) : tot c l i n 0 = 0 := by
  unfold tot cntP
  rw [List.filter_eq_nil_iff.2 (fun x _ => by simp)]; rfl

theorem vc_self {c : Nat → Nat} {l : List Int} {i n : Nat} (hi : i < n) : 0 < vc c l i (lane l i) n := cntP_pos hi (by simp)

theorem tot_self {c : Nat → Nat} {l : List Int} {i n : Nat} (hi : i < n) : 0 < tot c l i n 24 := cntP_pos hi (by simp [lane_lt])

theorem clks_leq {n : Nat} {f : Nat → Nat} (ff : Fit n f) (l : List Int) {i j : Nat} (hj : j < n) (h : (clK n f n j).testBit i = true) : leqV (clks n f l j) (clks n f l i) = true := by
  rw [leqV_iff]
  intro p _
  have : vc (clK n f n) l j p n ≤ vc (clK n f n) l i p n := cntP_mono n fun k _ hk => by
    simp only [Bool.and_eq_true, Bool.or_eq_true, decide_eq_true_eq] at hk ⊢
    refine ⟨?_, hk.2⟩
    rcases hk.1 with rfl | hk
    · exact .inr h
    · exact .inr ((clK_bit ff _ _).2 (((clK_bit ff _ _).1 hk).trans hj ((clK_bit ff _ _).1 h)))
  unfold clks; omega

theorem ClockRises_R (hE : jacquardlaw18_ClockRises_In E) {x0 x1 : Cell} {l : List Int} {l1 : List (Int × Int)} {h : AHeap} (hx0 : SlAt h x0 1 (intC .i64 l) l.length) (hl0 : Low h.length x0) (hs0 : SlOk h x0)
    (hx1 : SlAt h x1 2 (pairC l1) l1.length) (hl1 : Low h.length x1) : ∃ h', R E 224 [.c x0, .c x1] h = some ([.c (.bool true)], h') := by
  suffices hh : ∃ h', jacquardlaw18_ClockRises.body (R E) Lim E.glob [.c x0, .c x1] h = some ([.c (.bool true)], h') by
    obtain ⟨h', hh⟩ := hh; exact ⟨h', R_intro hE.fn hh⟩
  rw [jacquardlaw18_ClockRises_eq]
  have hv : (if (40 : Int) < (l.length : Int) then (40 : Int) else (l.length : Int)) = ((min 40 l.length : Nat) : Int) := by split <;> omega
  simp only [hx0.len, hv]
  have hnl : min 40 l.length ≤ l.length := Nat.min_le_right _ _
  have hn40 : min 40 l.length ≤ 40 := Nat.min_le_left _ _
  generalize min 40 l.length = n at hnl hn40
  have hn : n ≤ 64 := by omega
  rw [Of_R hE.c1 (n : Int) hx1 hl1, c2_ok, asA_ok, asA_ok, clamp_nat hn]
  have hf := words_of n (l1.take 200)
  have ff := of_fit hn (l1.take 200)
  generalize ofR n (l1.take 200) = f at *
  simp only [relL_len, zero_len, and_self, if_true]
  have htl : (l.take n).length = n := by rw [List.length_take]; omega
  obtain ⟨x7, hx7, hs7, hl7, _⟩ := hx0.pre hs0 (Kp.refl _ _) hl0 hnl
  have hs7' : SlAt h x7 1 (intC .i64 (l.take n)) (l.take n).length := by
    rw [htl, intC, List.map_take]; rw [Nat.mul_one] at hs7; exact hs7
  rw [hx7, ClkOf_R hE.c2 hn hf hs7' hl7 htl, c1_ok, asC_ok]
  have hs := SlAt.blkM h n (clks n f (l.take n))
  have hk0 : SlAt (h ++ [some ⟨true, 24, matL n (clks n f (l.take n))⟩]) x0 1 (intC .i64 l) l.length := hx0.keep hl0 (Kp.app _ (Nat.le_refl _))
  have hclks : ∀ i p, clks n f (l.take n) i p = ((vc (clK n f n) (l.take n) i p n : Nat) : Int) := fun i p => rfl
  generalize clks n f (l.take n) = V at hs hk0 hclks ⊢
  generalize h ++ [some ⟨true, 24, matL n V⟩] = H at *
  generalize Cell.sl h.length (n * 24) 0 n = x at *
  rw [hs.len, bne_self_eq_false, if_neg (by simp)]
  have hleq : ∀ i j, j < n → (f j).testBit i = true → leqV (V j) (V i) = true := by
    intro i j hj hb
    have := clks_leq ff (l.take n) hj ((clK_bit ff _ _).2 (.one hb))
    rw [leqV_iff] at this ⊢
    intro p hp
    rw [hclks, hclks]; exact this p hp
  refine ⟨H, ?_⟩
  have outer : Lim (jacquardlaw18_ClockRises_F3 (R E) Lim E.glob) (jacquardlaw18_ClockRises_s3 x0 n x ((0 : Nat) : Int) (relL n f) H) = some (.exit 0, jacquardlaw18_ClockRises_x3_1 H) := by
    refine Lim_count (fun i => jacquardlaw18_ClockRises_s3 x0 n x (i : Int) (relL n f) H) 0 n (by omega) (fun i _ hi => ?_) (Lim_exit ?_)
    · have hil : l[i]? = some (l[i]?.getD 0) := by simp [show i < l.length by omega]
      have hpl : (pk (l[i]?.getD 0)) = lane (l.take n) i := by unfold lane; rw [List.getElem?_take, if_pos hi]
      have hp := lane_lt (l.take n) i
      have hself := vc_self (c := clK n f n) (l := l.take n) hi
      have hts := tot_self (c := clK n f n) (l := l.take n) hi
      have htn : tot (clK n f n) (l.take n) i n 24 ≤ n := cntP_le _ _
      have first : (scK (decide (l[i]?.getD 0 < 0)) false (some (decide (l[i]?.getD 0 > 23), H)) true H fun b_18 h_19 => if b_18 = true then some (Ex.normal, jacquardlaw18_ClockRises_c1 x0 n x i 0 (relL n f) h_19) else some (Ex.normal, jacquardlaw18_ClockRises_c1 x0 n x i (l[i]?.getD 0) (relL n f) h_19) : Option (Ex × St)) = some (Ex.normal, jacquardlaw18_ClockRises_c1 x0 n x i (lane (l.take n) i : Nat) (relL n f) H) := by
        rw [scK_or, ← hpl]
        unfold pk
        by_cases ha : 0 ≤ l[i]?.getD 0 ∧ l[i]?.getD 0 < 24
        · rw [if_neg (by simp; omega), if_pos ha, Int.toNat_of_nonneg ha.1]
        · rw [if_pos (by simp; omega), if_neg ha]; rfl
      have sum : Lim (jacquardlaw18_ClockRises_F1 (R E) Lim E.glob) (jacquardlaw18_ClockRises_s1 x0 n x i (lane (l.take n) i : Nat) (tot (clK n f n) (l.take n) i n 0 : Nat) ((0 : Nat) : Int) (relL n f) H) = some (.exit 2, jacquardlaw18_ClockRises_x1_3 x0 n x i (lane (l.take n) i : Nat) (tot (clK n f n) (l.take n) i n 24 : Nat) (relL n f) H) := by
        refine Lim_count (fun q => jacquardlaw18_ClockRises_s1 x0 n x i (lane (l.take n) i : Nat) (tot (clK n f n) (l.take n) i n q : Nat) (q : Int) (relL n f) H) 0 24 (by omega) (fun q _ hq => ?_) (Lim_exit ?_)
        · have h1 : tot (clK n f n) (l.take n) i n q ≤ n := cntP_le _ _
          have h2 : vc (clK n f n) (l.take n) i q n ≤ n := cntP_le _ _
          rw [jacquardlaw18_ClockRises_r1, if_pos (by simp; omega), hs.getM hi hq, asI_ok, hclks, tot_succ, g_succ (by omega), g_wrap_i64 (by omega) (by omega), ← Int.natCast_add]
        · rw [jacquardlaw18_ClockRises_r1, if_neg (by simp)]
      rw [tot_zero] at sum
      have inner : Lim (jacquardlaw18_ClockRises_F2 (R E) Lim E.glob) (jacquardlaw18_ClockRises_s2 x0 n x i ((0 : Nat) : Int) (relL n f) H) = some (.exit 4, jacquardlaw18_ClockRises_x2_5 x0 n x i (relL n f) H) := by
        refine Lim_count (fun j => jacquardlaw18_ClockRises_s2 x0 n x i (j : Int) (relL n f) H) 0 n (by omega) (fun j _ hj => ?_) (Lim_exit ?_)
        · rw [jacquardlaw18_ClockRises_r2, if_pos (by simp; omega), if_pos ⟨rfl, relL_len _ _⟩, HasS hE.c3 hn hf hj (by omega), qh_ok, c1_ok, asB_ok, hs.leqM hE.c4 hj hi, scK_and, g_succ (by omega)]
          cases hb : (f j).testBit i with
          | false => rw [if_neg (by simp)]
          | true => rw [hleq i j hj hb, if_neg (by simp)]
        · rw [jacquardlaw18_ClockRises_r2, if_neg (by simp)]
      rw [jacquardlaw18_ClockRises_r3, if_pos (by simp; omega), hk0.get1 (by omega) (intC_get hil), asI_ok, first, bind_ok, jacquardlaw18_ClockRises_ec1_n, show (0 : Int) = ((0 : Nat) : Int) from rfl, sum, bind_ok, jacquardlaw18_ClockRises_e1_3, hs.getM hi hp, asI_ok, hclks, scK_or, scK_or, if_neg (by simp; omega), show (0 : Int) = ((0 : Nat) : Int) from rfl, inner, bind_ok, jacquardlaw18_ClockRises_e2_5, g_succ (by omega)]
    · rw [jacquardlaw18_ClockRises_r3, if_neg (by simp)]
  rw [show (0 : Int) = ((0 : Nat) : Int) from rfl, outer, bind_ok, jacquardlaw18_ClockRises_e3_1, awake18_R hE.c5, c1_ok, asB_ok]

theorem ClockRises_law (hE : jacquardlaw18_ClockRises_In E) {h : AHeap} {c0 c1 : List Cell} (o0 : okC h (.sl (.i .i64)) c0) (o1 : okC h (.sl shPair) c1) :
    ∃ h', R E 224 [av1 (.sl (.i .i64)) c0, av1 (.sl shPair) c1] h = some ([.c (.bool true)], h') := by
  obtain ⟨x0, l, e0, hx0, hl0, _⟩ := arg_ints o0
  obtain ⟨x1, l1, e1, hx1, hl1, _⟩ := arg_pairs o1
  have hs := arg_slok o0 e0
  rw [e0, e1]
  exact ClockRises_R hE hx0 hl0 hs hx1 hl1

end Jq

/- ClockShort: whatever the input the call says true, and each argument reads behind it as before. No conditions. -/
namespace Go.Proofs.YtfecllgnajhkmaaDoor.LClockShort
open Go Jq Go.ChangeShapes Go.WideShapes Go.ChangeAt Go.RowKit
set_option linter.unusedVariables false

theorem own : ownKnob Tryd.prog.godebug = none := by kernel_rfl
theorem laidOut : laidOutB Tryd.prog = true := by kernel_rfl

theorem gN : Tryd.prog.globalNamed "math/bits.deBruijn64tab" = some 0 := by kernel_rfl
theorem met (os : Os) (args : Array Value) : laidMetH Tryd.prog Rows.clockShortRow.laid ((World.doorLaid Tryd.prog 400 os).forCall (fun _ _ => 0) ⟨#[], args, []⟩).memory :=
  laidMetH_of_parts3 (fuel := 8) (laidMet_of_run' 8 (by kernel_rfl) (by kernel_rfl)) (by kernel_rfl) (by kernel_rfl)
theorem of_laid {W : World} (h : laidMetH Tryd.prog Rows.clockShortRow.laid W) : ∀ i, i < deB.length → W.cell? ⟨0, i, none⟩ = some (.int .u8 (deB.getD i 0)) := by
  rw [MakeChecks.laidMetH_plain _ _ _ (by kernel_rfl)] at h
  have hT := Lib.tabIs_of_head (zs := deB) (n := 64) gN (t := 80) (by kernel_rfl) (e := 5) (by kernel_rfl) (by kernel_rfl) (by kernel_rfl) (by kernel_rfl) h
  exact fun i hi => hT.cell gN i hi

set_option maxRecDepth 100000 in
theorem lifted (os : Os) (started : os.Started) (H : Type) (enc : TypeId × Value → H) :
    ReturnsInHanded {} Tryd.checked os 3 .any (fun w args => (Rows.clockShortSpec.pre enc Tryd.prog Tryd.f3 [] false w args ∧ laidMetH Tryd.prog Rows.clockShortRow.laid w) ∧ sizedMet enc Tryd.prog Tryd.f3 (OpenSpec.ofChange Rows.clockShortSpec) false w args) (Rows.clockShortSpec.post enc Tryd.prog Tryd.f3 false true false false) := by
  refine returnsInHanded_of_change_and (C := Tryd.checked) (X := fun w _ => laidMetH Tryd.prog Rows.clockShortRow.laid w) (fun _ _ _ hh h => h.of_heap hh) own started (by kernel_rfl) Tryd.func3
    (ChangeSpec.witness_shaped (enc := enc) (C := Tryd.checked) (os := os) (X := fun w _ => laidMetH Tryd.prog Rows.clockShortRow.laid w) false (World.doorLaid Tryd.prog 400 os) #[.slice none 0 0, .slice none 0 0, .int .i64 0] 8 rfl (World.shaped_of_RefB (by kernel_rfl) (by kernel_rfl)) (by kernel_rfl) (by kernel_rfl) (by kernel_rfl) (met os _)) ?_
  intro W base args ds gs before hval0 hW _ _ hL _
  have hval : ∀ (j : Nat) t v, Tryd.f3.params[j]? = some t → args[j]? = some v → Value.okWide Tryd.prog W .any base t v := hval0
  have hW' := hW
  obtain ⟨p, q, hA0, hV, rfl, hfz, hnd⟩ := hW
  have hA : DataW.TrodAll enc Tryd.prog W 0 (fun _ => true) true Tryd.f3.params.toList args.toList ds p := hA0
  rw [Tryd.params3] at hA hval
  obtain ⟨v0, vs0, d0, ds0, p0, q0, hargs, rfl, rfl, h0, r0⟩ := trodAll_cons hA
  obtain ⟨v1, vs1, d1, ds1, p1, q1, rfl, rfl, rfl, h1, r1⟩ := trodAll_cons r0
  obtain ⟨v2, vs2, d2, ds2, p2, q2, rfl, rfl, rfl, h2, r2⟩ := trodAll_cons r1
  obtain ⟨rfl, rfl, rfl⟩ := trodAll_nil r2
  obtain rfl : args = #[v0, v1, v2] := by cases args; simp_all
  obtain ⟨rfl, rfl⟩ := trodVars_none hV
  have lt0 : ∀ x ∈ p0, x.block < W.heap.size := by obtain ⟨m, hm⟩ := h0; exact DataW.trod_lt m _ _ _ hm
  have lt1 : ∀ x ∈ p1, x.block < W.heap.size := by obtain ⟨m, hm⟩ := h1; exact DataW.trod_lt m _ _ _ hm
  have lt2 : ∀ x ∈ p2, x.block < W.heap.size := by obtain ⟨m, hm⟩ := h2; exact DataW.trod_lt m _ _ _ hm
  have c := Come.tab1 (S := seat) (W := W) deB (fun _ => rfl) (of_laid hL)
  have k0 : ((.sl (.i .i64)) : Sh).chk seat.P 22 = true := by kernel_rfl
  obtain ⟨b0, ρ0, cs0, c0, e0, x0, a0, o0⟩ := opens_arg (S := seat) (W := W) (sh := (.sl (.i .i64))) k0 h0 (wide_of k0 (hval 0 22 v0 rfl rfl)) ⟨nofun, nofun⟩ c
  have k1 : ((.sl shPair) : Sh).chk seat.P 23 = true := by kernel_rfl
  obtain ⟨b1, ρ1, cs1, c1, e1, x1, a1, o1⟩ := opens_arg (S := seat) (W := W) (sh := (.sl shPair)) k1 h1 (wide_of k1 (hval 1 23 v1 rfl rfl)) ⟨nofun, nofun⟩ c0
  have k2 : ((.i .i64) : Sh).chk seat.P 3 = true := by kernel_rfl
  obtain ⟨b2, ρ2, cs2, c2, e2, x2, a2, o2⟩ := opens_arg (S := seat) (W := W) (sh := (.i .i64)) k2 h2 (wide_of k2 (hval 2 3 v2 rfl rfl)) ⟨nofun, nofun⟩ c1
  obtain ⟨h', hR⟩ := ClockShort_law (E := env) tabOk in_228 (okC_mono x2 _ _ (okC_mono x1 _ _ o0)) (okC_mono x2 _ _ o1) o2
  refine (law_call (S := seat) (R_sound (S := seat) (E := env) rfl allOk) c2 (vals := #[v0, v1, v2]) (L2.cons (relA.mono e2 (relA.mono e1 a0)) (L2.cons (relA.mono e2 a1) (L2.cons a2 L2.nil))) hR).mono fun e W' ⟨he, bel⟩ => ?_
  subst he
  exact ⟨_, rfl, _, _, _, [], _, [], hW', trodAll_mk1 (shut_bool Tryd.underlying4 _), (trodAll_cons_mk (Below.trod laidOut (by kernel_rfl) (of_decide_eq_true (by kernel_rfl)) h0 bel lt0) (trodAll_cons_mk (Below.trod laidOut (by kernel_rfl) (of_decide_eq_true (by kernel_rfl)) h1 bel lt1) (trodAll_cons_mk (Below.trod laidOut (by kernel_rfl) (of_decide_eq_true (by kernel_rfl)) h2 bel lt2) trodAll_mk0))), rfl, bel.frame _, fun h => by cases h⟩

theorem over : Rows.clockShortRow.holds Tryd.pinned (OpenSpec.ofChange Rows.clockShortSpec) :=
  OpenClaim.holds_of_wide 3 Tryd.f3 rfl rfl rfl rfl rfl rfl rfl ⟨rfl, rfl, rfl, rfl, rfl⟩ rfl rfl rfl rfl rfl (by kernel_rfl) Tryd.func3 (by kernel_rfl)
    (of_decide_eq_true (by kernel_rfl)) (by unfold Func.isWrapper; first | (rw [if_pos (by decide +kernel)]; kernel_rfl) | (rw [if_neg (by decide +kernel)]; exact ⟨rfl, rfl⟩))
    (fun os started H enc _ => lifted os started H enc)

theorem proved : Rows.ClockShortCardSaid :=
  Claim7.holds_tied_plain_at .later [] [.data] true (true, "e2171dbe47d382b54c2c0add12de0f3351e3e8b0cf390f8a723af4f43efe4e31") false
    over (fun _ h => by cases h) (by kernel_rfl) (fun _ h => by cases h) clockShort_row_tie rfl ⟨rfl, rfl⟩ (by kernel_rfl) rfl
    (fun f fn hf hfn => by
      obtain rfl : f = 3 := Option.some.inj ((show Tryd.prog.funcNamed "jacquard/jacquardlaw18.ClockShort" = some 3 by kernel_rfl).symm.trans hf) |>.symm
      obtain rfl : fn = Tryd.f3 := (Option.some.inj (Tryd.func3.symm.trans hfn)).symm
      exact ⟨by kernel_rfl, fun j t ht => by
        rw [Tryd.params3] at ht
        have hm : t ∈ [22, 23, 3] := by simpa using Array.mem_of_getElem? ht
        have hall : ([22, 23, 3].all fun u => !Tryd.prog.wantsStandIn u) = true := by kernel_rfl
        exact (show Tryd.prog.wantsStandIn t = false by simpa using List.all_eq_true.1 hall t hm)⟩)
    (by kernel_rfl)
#print axioms proved

end Go.Proofs.YtfecllgnajhkmaaDoor.LClockShort

