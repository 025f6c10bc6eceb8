/- YtldfafaiappibaaProgStepsB: a part of the proof; no conditions of its own. -/
import Derived.KernelRfl
import Derived.Test.YtldfafaiappibaaProgStepsA
set_option linter.unusedVariables false
set_option linter.unusedSimpArgs false

/- Steps: which clash; who wakes; who may be first. -/
namespace Jq
open Go

structure Stp where
  pick : Int
  t : Int
  kind : Int
  loc : Int
  r : Int
  w : Int
  frm : Int

def Stp.cs (s : Stp) : List Cell := [.int .i64 s.pick, .int .i64 s.t, .int .i64 s.kind, .int .i64 s.loc, .int .i64 s.r, .int .i64 s.w, .int .i64 s.frm]
def shStep : Sh := .agg (Sh.rep (.i .i64) 7)
def stepsC (l : List Stp) : List Cell := l.flatMap Stp.cs

theorem stp_len (s : Stp) : s.cs.length = 7 := rfl
theorem stepsC_at : ∀ (l : List Stp) (i : Nat) (s : Stp), l[i]? = some s → ((stepsC l).drop (i * 7)).take 7 = s.cs
  | [], _, _, h => by simp at h
  | q :: l, 0, s, h => by simp at h; subst h; rfl
  | q :: l, i + 1, s, h => by
    have := stepsC_at l i s (by simpa using h)
    have e : stepsC (q :: l) = q.cs ++ stepsC l := rfl
    rw [e, List.drop_append, List.drop_of_length_le (by rw [stp_len]; omega), List.nil_append, show (i + 1) * 7 - q.cs.length = i * 7 by rw [stp_len]; omega]
    exact this

/-- One of a row, wherever it is looked at. -/
theorem SlAt.elG {h : AHeap} {x : Cell} {esz len : Nat} {cs : List Cell} (s : SlAt h x esz cs len) {i : Nat} (hi : i < len) :
    ∃ off cs', (∀ {α : Type} (G : Nat → List Cell → Option α), (idxSK esz x (i : Int) fun k N o => rdH h k N fun l => G o l) = G off cs') ∧ off + esz ≤ cs'.length ∧ (cs'.drop off).take esz = (cs.drop (i * esz)).take esz := by
  rcases s.2 with ⟨_, rfl⟩ | ⟨k, N, off, rfl, h0 | ⟨b, hb, hN, hle, hat⟩⟩
  · omega
  · omega
  · have hlt : i * esz + esz ≤ len * esz := by
      have : (i + 1) * esz ≤ len * esz := Nat.mul_le_mul_right _ hi
      rw [Nat.succ_mul] at this; exact this
    refine ⟨off + i * esz, b.cs, fun G => by rw [idxSK_ok hi, rdH_ok hb hN], by omega, ?_⟩
    refine List.ext_getElem? fun j => ?_
    rw [List.getElem?_take, List.getElem?_take]
    by_cases hj : j < esz
    · rw [if_pos hj, if_pos hj, List.getElem?_drop, List.getElem?_drop, Nat.add_assoc, hat _ (by omega)]
    · rw [if_neg hj, if_neg hj]

/-- One of the steps. -/
theorem SlAt.step {α : Type} {h : AHeap} {x : Cell} {l : List Stp} (s : SlAt h x 7 (stepsC l) l.length) {i : Nat} {q : Stp} (hq : l[i]? = some q) {f : List Cell → Option α} :
    (idxSK 7 x (i : Int) fun k N o => rdH h k N fun l => if o + 7 ≤ l.length then f ((l.drop o).take 7) else none) = f q.cs := by
  have hi : i < l.length := by
    rcases Nat.lt_or_ge i l.length with h | h
    · exact h
    · rw [List.getElem?_eq_none h] at hq; cases hq
  rw [s.getN hi, stepsC_at l i q hq]

def wrS (s : Stp) (m : Int) : Bool := s.kind == 6 || s.kind == 4 || (m == 1 && s.kind == 2)
def rdS (s : Stp) : Bool := s.kind == 1 || s.kind == 4 || s.kind == 5
def fnS (s : Stp) : Bool := s.kind == 3 || s.kind == 4 || s.kind == 5
def tchS (s : Stp) (m : Int) : Bool := wrS s m || rdS s
/-- Do two steps clash? -/
def clash (a b : Stp) (m : Int) : Bool :=
  if (a.pick == b.pick) = true then true
  else if (a.t == b.t) = true then (a.kind == 6 && fnS b) || (b.kind == 6 && fnS a)
  else tchS a m && tchS b m && a.loc == b.loc && (wrS a m || wrS b m)

/-- The sleepers that stay asleep. -/
def wakeS (a : Stp) (m : Int) : List Stp → Nat → Nat
  | [], s => s
  | x :: l, s => wakeS a m l (if clash x a m = true then ndiff s (bitI x.pick) else s)

section
variable {E : Env}

/-- May the one at a place be first, of those from a place on? -/
def frI (f : Nat → Nat) (a k : Nat) : Nat → Bool
  | 0 => true
  | i + 1 => frI f a k i && !(decide (a ≤ i) && (f i).testBit k)

/-- Who may be first, of the first so many. -/
def iniS (f : Nat → Nat) (l : List Int) (a : Nat) : Nat → Nat
  | 0 => 0
  | k + 1 => if (decide (a ≤ k) && frI f a k l.length) = true then iniS f l a k ||| bitI (l.getD k 0) else iniS f l a k

end
end Jq

namespace Jq
open Go

/- jacquard/prog.Start: 94 -/
set_option maxRecDepth 100000 in
theorem prog_Start_eq (C : CallF) (L : LoopF) (G : Glo) (l0 : List Cell) (a1 : Int) (h0 : AHeap) :
    prog_Start.body C L G [(.agg l0), (.c (.int .i64 a1))] h0 =
    if 0 = 0 ∧ l0.length = 3 then c1 (C 113 [(.agg l0), (.c (.int .i64 a1))] h0) fun y_2 h_1 => asC y_2 fun x_3 => c1 (C 114 [(.c x_3), (.agg [Cell.int .i64 0, Cell.int .i64 0, Cell.int .i64 0, Cell.int .i64 0, Cell.int .i64 0])] h_1) fun y_5 h_4 => asA y_5 fun l_6 => if 0 = 0 ∧ [Cell.int .i64 0, Cell.int .i64 0, Cell.int .i64 0, Cell.int .i64 0, Cell.int .i64 0].length = 5 ∧ l_6.length = 5 then if 0 = 0 ∧ l_6.length = 5 then some ([(.agg l_6)], h_4) else none else none else none := by kernel_rfl

/- jacquard/prog.Compile: 98 -/
def prog_Compile_k2 (C : CallF) (L : LoopF) (G : Glo) (h0 : AHeap) : Ex → St → Option (List AV × AHeap) :=
  kSeq (fun st => prog_Compile_p1.exec C L G st (prog_Compile.fin G h0)) (prog_Compile.fin G h0)
def prog_Compile_k3 (C : CallF) (L : LoopF) (G : Glo) (h0 : AHeap) : Ex → St → Option (List AV × AHeap) :=
  kBlk 0 (prog_Compile_k2 C L G h0)
def prog_Compile_s1 (k5 : Nat) (N5 : Nat) (o5 : Nat) (x6 : Cell) (x29 : Cell) (a30 : Int) (a31 : Int) (s0 : List Cell) (s1 : List Cell) (h : AHeap) : St := ⟨[.top, .loc 0 0, .loc 1 0, .top, .top, .v (.c (.ptr k5 N5 o5)), .v (.c x6), .top, .top, .top, .top, .top, .top, .top, .top, .top, .top, .top, .top, .top, .top, .top, .top, .top, .top, .top, .top, .top, .top, .v (.c x29), .v (.c (.int .i64 a30)), .v (.c (.int .i64 a31)), .top, .top, .top, .top, .top, .top, .top, .top, .top, .top, .top, .top, .top, .top, .top, .top, .top, .top, .top, .top, .top, .top, .top, .top, .top, .top, .top, .top, .top, .top, .top, .top, .top, .top, .top, .top, .top, .top, .top, .top, .top, .top, .top, .top, .top, .top, .top, .top, .top, .top, .top, .top, .top, .top, .top, .top, .top, .top, .top], [some s0, some s1, none, none], h⟩
def prog_Compile_F1 (C : CallF) (L : LoopF) (G : Glo) : St → Option (Ex × St) :=
  roundF (fun st f => prog_Compile_b1.exec C L G st f) [1, 2, 5, 6, 29, 30, 31] [0, 1] [(1, [1, 2, 5, 6], [0, 1])]
def prog_Compile_x1_1 (k5 : Nat) (N5 : Nat) (o5 : Nat) (x6 : Cell) (s0 : List Cell) (s1 : List Cell) (h : AHeap) : St := ⟨[.top, .loc 0 0, .loc 1 0, .top, .top, .v (.c (.ptr k5 N5 o5)), .v (.c x6), .top, .top, .top, .top, .top, .top, .top, .top, .top, .top, .top, .top, .top, .top, .top, .top, .top, .top, .top, .top, .top, .top, .top, .top, .top, .top, .top, .top, .top, .top, .top, .top, .top, .top, .top, .top, .top, .top, .top, .top, .top, .top, .top, .top, .top, .top, .top, .top, .top, .top, .top, .top, .top, .top, .top, .top, .top, .top, .top, .top, .top, .top, .top, .top, .top, .top, .top, .top, .top, .top, .top, .top, .top, .top, .top, .top, .top, .top, .top, .top, .top, .top, .top, .top], [some s0, some s1, none, none], h⟩
def prog_Compile_k4 (C : CallF) (L : LoopF) (G : Glo) (h0 : AHeap) : Ex → St → Option (List AV × AHeap) :=
  kSeq (fun st => prog_Compile_p2.exec C L G st (prog_Compile.fin G h0)) (prog_Compile.fin G h0)
def prog_Compile_k5 (C : CallF) (L : LoopF) (G : Glo) (h0 : AHeap) : Ex → St → Option (List AV × AHeap) :=
  kBlk 2 (prog_Compile_k4 C L G h0)
def prog_Compile_s3 (k5 : Nat) (N5 : Nat) (o5 : Nat) (x6 : Cell) (x46 : Cell) (a47 : Int) (a48 : Int) (s1 : List Cell) (h : AHeap) : St := ⟨[.top, .top, .loc 1 0, .top, .top, .v (.c (.ptr k5 N5 o5)), .v (.c x6), .top, .top, .top, .top, .top, .top, .top, .top, .top, .top, .top, .top, .top, .top, .top, .top, .top, .top, .top, .top, .top, .top, .top, .top, .top, .top, .top, .top, .top, .top, .top, .top, .top, .top, .top, .top, .top, .top, .top, .v (.c x46), .v (.c (.int .i64 a47)), .v (.c (.int .i64 a48)), .top, .top, .top, .top, .top, .top, .top, .top, .top, .top, .top, .top, .top, .top, .top, .top, .top, .top, .top, .top, .top, .top, .top, .top, .top, .top, .top, .top, .top, .top, .top, .top, .top, .top, .top, .top, .top, .top, .top, .top, .top, .top], [none, some s1, none, none], h⟩
def prog_Compile_F3 (C : CallF) (L : LoopF) (G : Glo) : St → Option (Ex × St) :=
  roundF (fun st f => prog_Compile_b3.exec C L G st f) [2, 5, 6, 46, 47, 48] [1] [(3, [2, 5], [1])]
def prog_Compile_k6 (C : CallF) (L : LoopF) (G : Glo) : Ex → St → Option (Ex × St) :=
  kSeq (fun st => prog_Compile_p3.exec C L G st (kLoop [2, 5, 6, 46, 47, 48] [1] [(3, [2, 5], [1])])) (kLoop [2, 5, 6, 46, 47, 48] [1] [(3, [2, 5], [1])])
def prog_Compile_k7 (C : CallF) (L : LoopF) (G : Glo) : Ex → St → Option (Ex × St) :=
  kBlk 3 (prog_Compile_k6 C L G)
def prog_Compile_k8 (C : CallF) (L : LoopF) (G : Glo) : Ex → St → Option (Ex × St) :=
  kSeq (fun st => prog_Compile_p4.exec C L G st (prog_Compile_k7 C L G)) (prog_Compile_k7 C L G)
def prog_Compile_k9 (C : CallF) (L : LoopF) (G : Glo) : Ex → St → Option (Ex × St) :=
  kBlk 4 (prog_Compile_k8 C L G)
def prog_Compile_s2 (k5 : Nat) (N5 : Nat) (o5 : Nat) (x6 : Cell) (x10 : Cell) (x46 : Cell) (a47 : Int) (a48 : Int) (x54 : Cell) (a55 : Int) (a56 : Int) (s1 : List Cell) (h : AHeap) : St := ⟨[.top, .top, .loc 1 0, .top, .top, .v (.c (.ptr k5 N5 o5)), .v (.c x6), .top, .top, .top, .v (.c x10), .top, .top, .top, .top, .top, .top, .top, .top, .top, .top, .top, .top, .top, .top, .top, .top, .top, .top, .top, .top, .top, .top, .top, .top, .top, .top, .top, .top, .top, .top, .top, .top, .top, .top, .top, .v (.c x46), .v (.c (.int .i64 a47)), .v (.c (.int .i64 a48)), .top, .top, .top, .top, .top, .v (.c x54), .v (.c (.int .i64 a55)), .v (.c (.int .i64 a56)), .top, .top, .top, .top, .top, .top, .top, .top, .top, .top, .top, .top, .top, .top, .top, .top, .top, .top, .top, .top, .top, .top, .top, .top, .top, .top, .top, .top, .top, .top, .top, .top, .top, .top], [none, some s1, none, none], h⟩
def prog_Compile_F2 (C : CallF) (L : LoopF) (G : Glo) : St → Option (Ex × St) :=
  roundF (fun st f => prog_Compile_b2.exec C L G st f) [2, 5, 6, 10, 46, 47, 48, 54, 55, 56] [1] [(5, [2, 5, 6, 10, 46, 47, 48], [1])]
def prog_Compile_x2_5 (k5 : Nat) (N5 : Nat) (o5 : Nat) (x6 : Cell) (x10 : Cell) (x46 : Cell) (a47 : Int) (a48 : Int) (s1 : List Cell) (h : AHeap) : St := ⟨[.top, .top, .loc 1 0, .top, .top, .v (.c (.ptr k5 N5 o5)), .v (.c x6), .top, .top, .top, .v (.c x10), .top, .top, .top, .top, .top, .top, .top, .top, .top, .top, .top, .top, .top, .top, .top, .top, .top, .top, .top, .top, .top, .top, .top, .top, .top, .top, .top, .top, .top, .top, .top, .top, .top, .top, .top, .v (.c x46), .v (.c (.int .i64 a47)), .v (.c (.int .i64 a48)), .top, .top, .top, .top, .top, .top, .top, .top, .top, .top, .top, .top, .top, .top, .top, .top, .top, .top, .top, .top, .top, .top, .top, .top, .top, .top, .top, .top, .top, .top, .top, .top, .top, .top, .top, .top, .top, .top, .top, .top, .top, .top], [none, some s1, none, none], h⟩
def prog_Compile_x3_3 (k5 : Nat) (N5 : Nat) (o5 : Nat) (s1 : List Cell) (h : AHeap) : St := ⟨[.top, .top, .loc 1 0, .top, .top, .v (.c (.ptr k5 N5 o5)), .top, .top, .top, .top, .top, .top, .top, .top, .top, .top, .top, .top, .top, .top, .top, .top, .top, .top, .top, .top, .top, .top, .top, .top, .top, .top, .top, .top, .top, .top, .top, .top, .top, .top, .top, .top, .top, .top, .top, .top, .top, .top, .top, .top, .top, .top, .top, .top, .top, .top, .top, .top, .top, .top, .top, .top, .top, .top, .top, .top, .top, .top, .top, .top, .top, .top, .top, .top, .top, .top, .top, .top, .top, .top, .top, .top, .top, .top, .top, .top, .top, .top, .top, .top, .top], [none, some s1, none, none], h⟩
theorem prog_Compile_r1 (C : CallF) (L : LoopF) (G : Glo) (k5 : Nat) (N5 : Nat) (o5 : Nat) (x6 : Cell) (x29 : Cell) (a30 : Int) (a31 : Int) (s0 : List Cell) (s1 : List Cell) (h : AHeap) :
    prog_Compile_F1 C L G (prog_Compile_s1 k5 N5 o5 x6 x29 a30 a31 s0 s1 h) =
    if (decide (a31 < a30)) = true then idxSK 2 x29 a31 fun k_16 N_17 o_18 => rdH h k_16 N_17 fun l_19 => if o_18 + 2 ≤ l_19.length then if 0 = 0 ∧ [Cell.int .i64 0, Cell.int .i64 0].length = 2 ∧ ((l_19.drop o_18).take 2).length = 2 then rdH h k5 N5 fun l_20 => atK l_20 (o5 + 1) fun q_21 => atK ((l_19.drop o_18).take 2) 0 fun q_22 => asI .i64 (.c q_22) fun n_23 => fnK x6 fun g_24 l_25 => c1 (qh h (C g_24 ([(.c (.int .i64 n_23))] ++ l_25) h)) fun y_27 h_26 => asI .i64 y_27 fun n_28 => atK ((l_19.drop o_18).take 2) 1 fun q_29 => asI .i64 (.c q_29) fun n_30 => idxSK 1 q_21 n_28 fun k_31 N_32 o_33 => rdH h k_31 N_32 fun l_34 => if o_33 < l_34.length then putH h k_31 (l_34.set o_33 (.int .i64 n_30)) fun h_35 => some (.normal, (prog_Compile_s1 k5 N5 o5 x6 x29 a30 (G.wrap .i64 (a31 + 1)) s0 s1 h_35)) else none else none else none else some ((.exit 0), (prog_Compile_x1_1 k5 N5 o5 x6 s0 s1 h)) := by kernel_rfl
theorem prog_Compile_r2 (C : CallF) (L : LoopF) (G : Glo) (k5 : Nat) (N5 : Nat) (o5 : Nat) (x6 : Cell) (x10 : Cell) (x46 : Cell) (a47 : Int) (a48 : Int) (x54 : Cell) (a55 : Int) (a56 : Int) (s1 : List Cell) (h : AHeap) :
    prog_Compile_F2 C L G (prog_Compile_s2 k5 N5 o5 x6 x10 x46 a47 a48 x54 a55 a56 s1 h) =
    if (decide (a56 < a55)) = true then idxSK 9 x54 a56 fun k_47 N_48 o_49 => rdH h k_47 N_48 fun l_50 => if o_49 + 9 ≤ l_50.length then if 0 = 0 ∧ (List.replicate 9 (Cell.int .i64 0)).length = 9 ∧ ((l_50.drop o_49).take 9).length = 9 then atK ((l_50.drop o_49).take 9) 0 fun q_51 => asI .i64 (.c q_51) fun n_52 => scK (n_52 == 1) false (atK ((l_50.drop o_49).take 9) 0 fun q_53 => asI .i64 (.c q_53) fun n_54 => some ((n_54 == 2), h)) true h fun b_55 h_56 => scK b_55 false (atK ((l_50.drop o_49).take 9) 0 fun q_57 => asI .i64 (.c q_57) fun n_58 => some ((n_58 == 4), h_56)) true h_56 fun b_59 h_60 => if b_59 = true then atK ((l_50.drop o_49).take 9) 2 fun q_61 => asI .i64 (.c q_61) fun n_62 => fnK x6 fun g_63 l_64 => c1 (C g_63 ([(.c (.int .i64 n_62))] ++ l_64) h_60) fun y_66 h_65 => asI .i64 y_66 fun n_67 => idxSK 9 x10 a56 fun k_68 N_69 o_70 => rdH h_65 k_68 N_69 fun l_71 => if (o_70 + 2) < l_71.length then putH h_65 k_68 (l_71.set (o_70 + 2) (.int .i64 n_67)) fun h_72 => some (.normal, (prog_Compile_s2 k5 N5 o5 x6 x10 x46 a47 a48 x54 a55 (G.wrap .i64 (a56 + 1)) s1 h_72)) else none else some (.normal, (prog_Compile_s2 k5 N5 o5 x6 x10 x46 a47 a48 x54 a55 (G.wrap .i64 (a56 + 1)) s1 h_60)) else none else none else some ((.exit 4), (prog_Compile_x2_5 k5 N5 o5 x6 x10 x46 a47 a48 s1 h)) := by kernel_rfl
theorem prog_Compile_e2_5 (C : CallF) (L : LoopF) (G : Glo) (k5 : Nat) (N5 : Nat) (o5 : Nat) (x6 : Cell) (x10 : Cell) (x46 : Cell) (a47 : Int) (a48 : Int) (s1 : List Cell) (h : AHeap) :
    (prog_Compile_k9 C L G) (.exit 4) (prog_Compile_x2_5 k5 N5 o5 x6 x10 x46 a47 a48 s1 h) =
    rdH h k5 N5 fun l_73 => atK l_73 (o5 + 2) fun q_74 => if (splice [Cell.nils] 0 ([x10] : List Cell)).length = 1 * 1 then appK 1 24 q_74 (splice [Cell.nils] 0 ([x10] : List Cell)) h fun x_75 h_76 => rdH h_76 k5 N5 fun l_77 => if (o5 + 2) < l_77.length then putH h_76 k5 (l_77.set (o5 + 2) x_75) fun h_78 => some (.normal, (prog_Compile_s3 k5 N5 o5 x6 x46 a47 (G.wrap .i64 (a48 + 1)) s1 h_78)) else none else none := by kernel_rfl
theorem prog_Compile_r3 (C : CallF) (L : LoopF) (G : Glo) (k5 : Nat) (N5 : Nat) (o5 : Nat) (x6 : Cell) (x46 : Cell) (a47 : Int) (a48 : Int) (s1 : List Cell) (h : AHeap) :
    prog_Compile_F3 C L G (prog_Compile_s3 k5 N5 o5 x6 x46 a47 a48 s1 h) =
    if (decide (a48 < a47)) = true then idxSK 1 x46 a48 fun k_38 N_39 o_40 => rdH h k_38 N_39 fun l_41 => atK l_41 o_40 fun q_42 => c1 (C 119 [(.c q_42)] h) fun y_44 h_43 => asC y_44 fun x_45 => lenK x_45 fun n_46 => (L (prog_Compile_F2 C L G) (prog_Compile_s2 k5 N5 o5 x6 x_45 x46 a47 a48 x_45 n_46 0 s1 h_43)).bind fun p_79 => (prog_Compile_k9 C L G) p_79.1 p_79.2 else some ((.exit 2), (prog_Compile_x3_3 k5 N5 o5 s1 h)) := by kernel_rfl
theorem prog_Compile_e3_3 (C : CallF) (L : LoopF) (G : Glo) (h0 : AHeap) (k5 : Nat) (N5 : Nat) (o5 : Nat) (s1 : List Cell) (h : AHeap) :
    (prog_Compile_k5 C L G h0) (.exit 2) (prog_Compile_x3_3 k5 N5 o5 s1 h) =
    rdH h k5 N5 fun l_80 => if o5 = 0 ∧ l_80.length = 3 then if 0 = 0 ∧ s1.length = 3 ∧ l_80.length = 3 then if 0 = 0 ∧ l_80.length = 3 then some ([(.agg l_80), (.c (.int .i64 0))], h) else none else none else none := by kernel_rfl
theorem prog_Compile_e1_1 (C : CallF) (L : LoopF) (G : Glo) (h0 : AHeap) (k5 : Nat) (N5 : Nat) (o5 : Nat) (x6 : Cell) (s0 : List Cell) (s1 : List Cell) (h : AHeap) :
    (prog_Compile_k3 C L G h0) (.exit 0) (prog_Compile_x1_1 k5 N5 o5 x6 s0 s1 h) =
    atK s0 2 fun q_36 => lenK q_36 fun n_37 => (L (prog_Compile_F3 C L G) (prog_Compile_s3 k5 N5 o5 x6 q_36 n_37 0 s1 h)).bind fun p_81 => (prog_Compile_k5 C L G h0) p_81.1 p_81.2 := by kernel_rfl
set_option maxRecDepth 100000 in
theorem prog_Compile_eq (C : CallF) (L : LoopF) (G : Glo) (l0 : List Cell) (h0 : AHeap) :
    prog_Compile.body C L G [(.agg l0)] h0 =
    if 0 = 0 ∧ l0.length = 5 then c1 (C 116 [(.agg l0)] h0) fun y_2 h_1 => asI .i64 y_2 fun n_3 => if (n_3 != 0) = true then if 0 = 0 ∧ [Cell.nils, Cell.nils, Cell.nils].length = 3 ∧ [Cell.nils, Cell.nils, Cell.nils].length = 3 then if 0 = 0 ∧ [Cell.nils, Cell.nils, Cell.nils].length = 3 then some ([(.agg [Cell.nils, Cell.nils, Cell.nils]), (.c (.int .i64 n_3))], h_1) else none else none else if 0 = 0 ∧ l0.length = 5 then c1 (C 117 [(.agg l0)] h_1) fun y_5 h_4 => asC y_5 fun x_6 => rdH (h_4 ++ [some (Blk.mk true 0 ([Cell.nils, Cell.nils, Cell.nils]))]) h_4.length (([Cell.nils, Cell.nils, Cell.nils]).length) fun l_7 => if 0 = 0 ∧ l_7.length = 3 ∧ (splice [Cell.nils, Cell.nils, Cell.nils] 0 ([x_6] : List Cell)).length = 3 then putH (h_4 ++ [some (Blk.mk true 0 ([Cell.nils, Cell.nils, Cell.nils]))]) h_4.length (splice [Cell.nils, Cell.nils, Cell.nils] 0 ([x_6] : List Cell)) fun h_8 => rdH h_8 h_4.length (([Cell.nils, Cell.nils, Cell.nils]).length) fun l_9 => atK l_9 0 fun q_10 => lenK q_10 fun n_11 => if 0 ≤ n_11 ∧ n_11 ≤ n_11 ∧ (Int.toNat n_11) * 8 ≤ maxBytes ∧ n_11 ≤ (maxBytes : Nat) then rdH (h_8 ++ [some (Blk.mk true 1 (rep (Int.toNat n_11) ([Cell.int .i64 0])))]) h_4.length (([Cell.nils, Cell.nils, Cell.nils]).length) fun l_12 => if 1 < l_12.length then putH (h_8 ++ [some (Blk.mk true 1 (rep (Int.toNat n_11) ([Cell.int .i64 0])))]) h_4.length (l_12.set 1 (.sl h_8.length ((rep (Int.toNat n_11) ([Cell.int .i64 0])).length) 0 (Int.toNat n_11))) fun h_13 => atK l0 1 fun q_14 => lenK q_14 fun n_15 => (L (prog_Compile_F1 C L G) (prog_Compile_s1 h_4.length (([Cell.nils, Cell.nils, Cell.nils]).length) 0 (.fn 118 [(h_4.length, ([Cell.nils, Cell.nils, Cell.nils]).length, 0)]) q_14 n_15 0 l0 [Cell.nils, Cell.nils, Cell.nils] h_13)).bind fun p_82 => (prog_Compile_k3 C L G h0) p_82.1 p_82.2 else none else none else none else none else none := by kernel_rfl

/- jacquard/prog.Size: 102 -/
def prog_Size_k2 (C : CallF) (L : LoopF) (G : Glo) (h0 : AHeap) : Ex → St → Option (List AV × AHeap) :=
  kSeq (fun st => prog_Size_p1.exec C L G st (prog_Size.fin G h0)) (prog_Size.fin G h0)
def prog_Size_k3 (C : CallF) (L : LoopF) (G : Glo) (h0 : AHeap) : Ex → St → Option (List AV × AHeap) :=
  kBlk 0 (prog_Size_k2 C L G h0)
def prog_Size_s1 (a3 : Int) (x7 : Cell) (a8 : Int) (a9 : Int) (h : AHeap) : St := ⟨[.top, .top, .top, .v (.c (.int .i64 a3)), .top, .top, .top, .v (.c x7), .v (.c (.int .i64 a8)), .v (.c (.int .i64 a9)), .top, .top, .top, .top, .top, .top, .top, .top, .top], [none], h⟩
def prog_Size_F1 (C : CallF) (L : LoopF) (G : Glo) : St → Option (Ex × St) :=
  roundF (fun st f => prog_Size_b1.exec C L G st f) [3, 7, 8, 9] [] [(1, [3], [])]
def prog_Size_x1_1 (a3 : Int) (h : AHeap) : St := ⟨[.top, .top, .top, .v (.c (.int .i64 a3)), .top, .top, .top, .top, .top, .top, .top, .top, .top, .top, .top, .top, .top, .top, .top], [none], h⟩
theorem prog_Size_r1 (C : CallF) (L : LoopF) (G : Glo) (a3 : Int) (x7 : Cell) (a8 : Int) (a9 : Int) (h : AHeap) :
    prog_Size_F1 C L G (prog_Size_s1 a3 x7 a8 a9 h) =
    if (decide (a9 < a8)) = true then idxSK 1 x7 a9 fun k_3 N_4 o_5 => rdH h k_3 N_4 fun l_6 => atK l_6 o_5 fun q_7 => lenK q_7 fun n_8 => some (.normal, (prog_Size_s1 (G.wrap .i64 (a3 + n_8)) x7 a8 (G.wrap .i64 (a9 + 1)) h)) else some ((.exit 0), (prog_Size_x1_1 a3 h)) := by kernel_rfl
theorem prog_Size_e1_1 (C : CallF) (L : LoopF) (G : Glo) (h0 : AHeap) (a3 : Int) (h : AHeap) :
    (prog_Size_k3 C L G h0) (.exit 0) (prog_Size_x1_1 a3 h) =
    some ([(.c (.int .i64 a3))], h) := by kernel_rfl
set_option maxRecDepth 100000 in
theorem prog_Size_eq (C : CallF) (L : LoopF) (G : Glo) (l0 : List Cell) (h0 : AHeap) :
    prog_Size.body C L G [(.agg l0)] h0 =
    atK l0 2 fun q_1 => lenK q_1 fun n_2 => (L (prog_Size_F1 C L G) (prog_Size_s1 0 q_1 n_2 0 h0)).bind fun p_9 => (prog_Size_k3 C L G h0) p_9.1 p_9.2 := by kernel_rfl

/- jacquard/prog.Next: 105 -/
set_option maxRecDepth 100000 in
theorem prog_Next_eq (C : CallF) (L : LoopF) (G : Glo) (l0 : List Cell) (a1 : Int) (l2 : List Cell) (h0 : AHeap) :
    prog_Next.body C L G [(.agg l0), (.c (.int .i64 a1)), (.agg l2)] h0 =
    if 0 = 0 ∧ l0.length = 3 then c1 (C 113 [(.agg l0), (.c (.int .i64 a1))] h0) fun y_2 h_1 => asC y_2 fun x_3 => atK l2 0 fun q_4 => asI .i64 (.c q_4) fun n_5 => scK (decide (n_5 < 0)) false (atK l2 0 fun q_6 => asI .i64 (.c q_6) fun n_7 => lenK x_3 fun n_8 => some ((decide (n_7 ≥ n_8)), h_1)) true h_1 fun b_9 h_10 => if b_9 = true then if 0 = 0 ∧ (List.replicate 9 (Cell.int .i64 0)).length = 9 ∧ (List.replicate 9 (Cell.int .i64 0)).length = 9 then if 0 = 0 ∧ (List.replicate 9 (Cell.int .i64 0)).length = 9 then some ([(.agg (List.replicate 9 (Cell.int .i64 0))), (.c (.bool false))], h_10) else none else none else atK l2 0 fun q_11 => asI .i64 (.c q_11) fun n_12 => idxSK 9 x_3 n_12 fun k_13 N_14 o_15 => rdH h_10 k_13 N_14 fun l_16 => if o_15 + 9 ≤ l_16.length then if 0 = 0 ∧ (List.replicate 9 (Cell.int .i64 0)).length = 9 ∧ ((l_16.drop o_15).take 9).length = 9 then atK ((l_16.drop o_15).take 9) 0 fun q_17 => asI .i64 (.c q_17) fun n_18 => scK (decide (n_18 < 1)) false (atK ((l_16.drop o_15).take 9) 0 fun q_19 => asI .i64 (.c q_19) fun n_20 => some ((decide (n_20 > 4)), h_10)) true h_10 fun b_21 h_22 => if b_21 = true then if 0 = 0 ∧ (List.replicate 9 (Cell.int .i64 0)).length = 9 ∧ (List.replicate 9 (Cell.int .i64 0)).length = 9 then if 0 = 0 ∧ (List.replicate 9 (Cell.int .i64 0)).length = 9 then some ([(.agg (List.replicate 9 (Cell.int .i64 0))), (.c (.bool false))], h_22) else none else none else if 0 = 0 ∧ ((l_16.drop o_15).take 9).length = 9 then if 0 = 0 ∧ (List.replicate 9 (Cell.int .i64 0)).length = 9 ∧ ((l_16.drop o_15).take 9).length = 9 then if 0 = 0 ∧ ((l_16.drop o_15).take 9).length = 9 then some ([(.agg ((l_16.drop o_15).take 9)), (.c (.bool true))], h_22) else none else none else none else none else none else none := by kernel_rfl

/- jacquard/prog.After: 106 -/
set_option maxRecDepth 100000 in
theorem prog_After_eq (C : CallF) (L : LoopF) (G : Glo) (l0 : List Cell) (a1 : Int) (l2 : List Cell) (a3 : Int) (h0 : AHeap) :
    prog_After.body C L G [(.agg l0), (.c (.int .i64 a1)), (.agg l2), (.c (.int .i64 a3))] h0 =
    if 0 = 0 ∧ l0.length = 3 then rdH (h0 ++ [some (Blk.mk true 0 (AV.cells (.agg l2)))]) h0.length ((AV.cells (.agg l2)).length) fun l_1 => if 0 = 0 ∧ l_1.length = 5 then c2 (C 105 [(.agg l0), (.c (.int .i64 a1)), (.agg l_1)] (h0 ++ [some (Blk.mk true 0 (AV.cells (.agg l2)))])) fun y_3 y_4 h_2 => asA y_3 fun l_5 => asB y_4 fun b_6 => if 0 = 0 ∧ (List.replicate 9 (Cell.int .i64 0)).length = 9 ∧ l_5.length = 9 then if (!b_6) = true then rdH h_2 h0.length ((AV.cells (.agg l2)).length) fun l_7 => if 0 = 0 ∧ l_7.length = 5 then if 0 = 0 ∧ [Cell.int .i64 0, Cell.int .i64 0, Cell.int .i64 0, Cell.int .i64 0, Cell.int .i64 0].length = 5 ∧ l_7.length = 5 then if 0 = 0 ∧ l_7.length = 5 then finish true h0 [(.agg l_7)] h_2 else none else none else none else atK l_5 0 fun q_8 => asI .i64 (.c q_8) fun n_9 => scK (n_9 == 2) false (atK l_5 0 fun q_10 => asI .i64 (.c q_10) fun n_11 => some ((n_11 == 4), h_2)) true h_2 fun b_12 h_13 => if b_12 = true then atK l_5 1 fun q_14 => asI .i64 (.c q_14) fun n_15 => c0 (C 124 [(.c (.ptr h0.length ((AV.cells (.agg l2)).length) 0)), (.c (.int .i64 n_15)), (.c (.int .i64 a3))] h_13) fun h_16 => rdH h_16 h0.length ((AV.cells (.agg l2)).length) fun l_17 => atK l_17 0 fun q_18 => asI .i64 (.c q_18) fun n_19 => rdH h_16 h0.length ((AV.cells (.agg l2)).length) fun l_20 => if 0 < l_20.length then putH h_16 h0.length (l_20.set 0 (.int .i64 (G.wrap .i64 (n_19 + 1)))) fun h_21 => if 0 = 0 ∧ l0.length = 3 then c1 (qh h_21 (C 113 [(.agg l0), (.c (.int .i64 a1))] h_21)) fun y_23 h_22 => asC y_23 fun x_24 => rdH h_21 h0.length ((AV.cells (.agg l2)).length) fun l_25 => if 0 = 0 ∧ l_25.length = 5 then c1 (qh h_21 (C 114 [(.c x_24), (.agg l_25)] h_21)) fun y_27 h_26 => asA y_27 fun l_28 => if 0 = 0 ∧ [Cell.int .i64 0, Cell.int .i64 0, Cell.int .i64 0, Cell.int .i64 0, Cell.int .i64 0].length = 5 ∧ l_28.length = 5 then if 0 = 0 ∧ l_28.length = 5 then finish true h0 [(.agg l_28)] h_21 else none else none else none else none else none else rdH h_13 h0.length ((AV.cells (.agg l2)).length) fun l_29 => atK l_29 0 fun q_30 => asI .i64 (.c q_30) fun n_31 => rdH h_13 h0.length ((AV.cells (.agg l2)).length) fun l_32 => if 0 < l_32.length then putH h_13 h0.length (l_32.set 0 (.int .i64 (G.wrap .i64 (n_31 + 1)))) fun h_33 => if 0 = 0 ∧ l0.length = 3 then c1 (qh h_33 (C 113 [(.agg l0), (.c (.int .i64 a1))] h_33)) fun y_35 h_34 => asC y_35 fun x_36 => rdH h_33 h0.length ((AV.cells (.agg l2)).length) fun l_37 => if 0 = 0 ∧ l_37.length = 5 then c1 (qh h_33 (C 114 [(.c x_36), (.agg l_37)] h_33)) fun y_39 h_38 => asA y_39 fun l_40 => if 0 = 0 ∧ [Cell.int .i64 0, Cell.int .i64 0, Cell.int .i64 0, Cell.int .i64 0, Cell.int .i64 0].length = 5 ∧ l_40.length = 5 then if 0 = 0 ∧ l_40.length = 5 then finish true h0 [(.agg l_40)] h_33 else none else none else none else none else none else none else none else none := by kernel_rfl

/- jacquard/prog.Value: 108 -/
set_option maxRecDepth 100000 in
theorem prog_Value_eq (C : CallF) (L : LoopF) (G : Glo) (l0 : List Cell) (l1 : List Cell) (h0 : AHeap) :
    prog_Value.body C L G [(.agg l0), (.agg l1)] h0 =
    atK l0 0 fun q_1 => asI .i64 (.c q_1) fun n_2 => scK (decide (n_2 ≥ 0)) true (atK l0 0 fun q_3 => asI .i64 (.c q_3) fun n_4 => some ((decide (n_4 < 4)), h0)) false h0 fun b_5 h_6 => if b_5 = true then atK l0 0 fun q_7 => asI .i64 (.c q_7) fun n_8 => if 0 ≤ n_8 ∧ n_8 < ((4 : Nat) : Int) then atK l1 (1 + ((Int.toNat n_8) * 1)) fun q_9 => asI .i64 (.c q_9) fun n_10 => some ([(.c (.int .i64 n_10))], h_6) else none else atK l0 1 fun q_11 => asI .i64 (.c q_11) fun n_12 => some ([(.c (.int .i64 n_12))], h_6) := by kernel_rfl

/- jacquard/prog.thread: 113 -/
set_option maxRecDepth 100000 in
theorem prog_thread_eq (C : CallF) (L : LoopF) (G : Glo) (l0 : List Cell) (a1 : Int) (h0 : AHeap) :
    prog_thread.body C L G [(.agg l0), (.c (.int .i64 a1))] h0 =
    scK (decide (a1 < 0)) false (atK l0 2 fun q_1 => lenK q_1 fun n_2 => some ((decide (a1 ≥ n_2)), h0)) true h0 fun b_3 h_4 => if b_3 = true then some ([(.c .nils)], h_4) else atK l0 2 fun q_5 => idxSK 1 q_5 a1 fun k_6 N_7 o_8 => rdH h_4 k_6 N_7 fun l_9 => atK l_9 o_8 fun q_10 => some ([(.c q_10)], h_4) := by kernel_rfl

/- jacquard/prog.normal: 114 -/
def prog_normal_k2 (C : CallF) (L : LoopF) (G : Glo) (h0 : AHeap) : Ex → St → Option (List AV × AHeap) :=
  kSeq (fun st => prog_normal_p1.exec C L G st (prog_normal.fin G h0)) (prog_normal.fin G h0)
def prog_normal_k3 (C : CallF) (L : LoopF) (G : Glo) (h0 : AHeap) : Ex → St → Option (List AV × AHeap) :=
  kBlk 0 (prog_normal_k2 C L G h0)
def prog_normal_s1 (x0 : Cell) (k3 : Nat) (N3 : Nat) (o3 : Nat) (s0 : List Cell) (h : AHeap) : St := ⟨[.v (.c x0), .top, .top, .v (.c (.ptr k3 N3 o3)), .loc 0 0, .top, .top, .top, .top, .top, .top, .top, .top, .top, .top, .top, .top, .top, .top, .top, .top, .top, .top, .top, .top, .top, .top, .top, .top, .top, .top, .top, .top, .top, .top, .top, .top, .top, .top, .top, .top, .top, .top, .top, .top, .top, .top, .top, .top, .top, .top, .top, .top, .top, .top, .top, .top, .top, .top, .top, .top, .top, .top, .top, .top, .top, .top, .top, .top, .top, .top, .top], [some s0, none], h⟩
def prog_normal_F1 (C : CallF) (L : LoopF) (G : Glo) : St → Option (Ex × St) :=
  roundF (fun st f => prog_normal_b1.exec C L G st f) [0, 3, 4] [0] [(0, [4], [0]), (1, [3, 4], [0])]
def prog_normal_x1_0 (s0 : List Cell) (h : AHeap) : St := ⟨[.top, .top, .top, .top, .loc 0 0, .top, .top, .top, .top, .top, .top, .top, .top, .top, .top, .top, .top, .top, .top, .top, .top, .top, .top, .top, .top, .top, .top, .top, .top, .top, .top, .top, .top, .top, .top, .top, .top, .top, .top, .top, .top, .top, .top, .top, .top, .top, .top, .top, .top, .top, .top, .top, .top, .top, .top, .top, .top, .top, .top, .top, .top, .top, .top, .top, .top, .top, .top, .top, .top, .top, .top, .top], [some s0, none], h⟩
def prog_normal_x1_1 (k3 : Nat) (N3 : Nat) (o3 : Nat) (s0 : List Cell) (h : AHeap) : St := ⟨[.top, .top, .top, .v (.c (.ptr k3 N3 o3)), .loc 0 0, .top, .top, .top, .top, .top, .top, .top, .top, .top, .top, .top, .top, .top, .top, .top, .top, .top, .top, .top, .top, .top, .top, .top, .top, .top, .top, .top, .top, .top, .top, .top, .top, .top, .top, .top, .top, .top, .top, .top, .top, .top, .top, .top, .top, .top, .top, .top, .top, .top, .top, .top, .top, .top, .top, .top, .top, .top, .top, .top, .top, .top, .top, .top, .top, .top, .top, .top], [some s0, none], h⟩
theorem prog_normal_r1 (C : CallF) (L : LoopF) (G : Glo) (x0 : Cell) (k3 : Nat) (N3 : Nat) (o3 : Nat) (s0 : List Cell) (h : AHeap) :
    prog_normal_F1 C L G (prog_normal_s1 x0 k3 N3 o3 s0 h) =
    rdH h k3 N3 fun l_1 => atK l_1 (o3 + 0) fun q_2 => asI .i64 (.c q_2) fun n_3 => scK (decide (n_3 ≥ 0)) true (rdH h k3 N3 fun l_4 => atK l_4 (o3 + 0) fun q_5 => asI .i64 (.c q_5) fun n_6 => lenK x0 fun n_7 => some ((decide (n_6 < n_7)), h)) false h fun b_8 h_9 => if b_8 = true then rdH h_9 k3 N3 fun l_10 => atK l_10 (o3 + 0) fun q_11 => asI .i64 (.c q_11) fun n_12 => idxSK 9 x0 n_12 fun k_13 N_14 o_15 => rdH h_9 k_13 N_14 fun l_16 => if o_15 + 9 ≤ l_16.length then if 0 = 0 ∧ (List.replicate 9 (Cell.int .i64 0)).length = 9 ∧ ((l_16.drop o_15).take 9).length = 9 then if 3 + 2 ≤ ((l_16.drop o_15).take 9).length then rdH h_9 k3 N3 fun l_17 => if o3 = 0 ∧ l_17.length = 5 then c1 (qh h_9 (C 108 [(.agg ((((l_16.drop o_15).take 9).drop 3).take 2)), (.agg l_17)] h_9)) fun y_19 h_18 => asI .i64 y_19 fun n_20 => if 6 + 2 ≤ ((l_16.drop o_15).take 9).length then rdH h_9 k3 N3 fun l_21 => if o3 = 0 ∧ l_21.length = 5 then c1 (qh h_9 (C 108 [(.agg ((((l_16.drop o_15).take 9).drop 6).take 2)), (.agg l_21)] h_9)) fun y_23 h_22 => asI .i64 y_23 fun n_24 => atK ((l_16.drop o_15).take 9) 0 fun q_25 => asI .i64 (.c q_25) fun n_26 => if (n_26 == 5) = true then atK ((l_16.drop o_15).take 9) 5 fun q_27 => asI .i64 (.c q_27) fun n_28 => c2 (C 125 [(.c (.int .i64 n_28)), (.c (.int .i64 n_20)), (.c (.int .i64 n_24))] h_9) fun y_30 y_31 h_29 => asI .i64 y_30 fun n_32 => asB y_31 fun b_33 => if b_33 = true then atK ((l_16.drop o_15).take 9) 1 fun q_34 => asI .i64 (.c q_34) fun n_35 => c0 (C 124 [(.c (.ptr k3 N3 o3)), (.c (.int .i64 n_35)), (.c (.int .i64 n_32))] h_29) fun h_36 => rdH h_36 k3 N3 fun l_37 => atK l_37 (o3 + 0) fun q_38 => asI .i64 (.c q_38) fun n_39 => rdH h_36 k3 N3 fun l_40 => if (o3 + 0) < l_40.length then putH h_36 k3 (l_40.set (o3 + 0) (.int .i64 (G.wrap .i64 (n_39 + 1)))) fun h_41 => some (.normal, (prog_normal_s1 x0 k3 N3 o3 s0 h_41)) else none else atK ((l_16.drop o_15).take 9) 1 fun q_42 => asI .i64 (.c q_42) fun n_43 => c0 (C 124 [(.c (.ptr k3 N3 o3)), (.c (.int .i64 n_43)), (.c (.int .i64 n_20))] h_29) fun h_44 => rdH h_44 k3 N3 fun l_45 => atK l_45 (o3 + 0) fun q_46 => asI .i64 (.c q_46) fun n_47 => rdH h_44 k3 N3 fun l_48 => if (o3 + 0) < l_48.length then putH h_44 k3 (l_48.set (o3 + 0) (.int .i64 (G.wrap .i64 (n_47 + 1)))) fun h_49 => some (.normal, (prog_normal_s1 x0 k3 N3 o3 s0 h_49)) else none else if (n_26 == 6) = true then if (n_20 == n_24) = true then rdH h_9 k3 N3 fun l_50 => atK l_50 (o3 + 0) fun q_51 => asI .i64 (.c q_51) fun n_52 => atK ((l_16.drop o_15).take 9) 8 fun q_53 => asI .i64 (.c q_53) fun n_54 => lenK x0 fun n_55 => let v_56 : Int := (if n_55 < (if 0 > n_54 then 0 else n_54) then n_55 else (if 0 > n_54 then 0 else n_54)); rdH h_9 k3 N3 fun l_57 => if (o3 + 0) < l_57.length then putH h_9 k3 (l_57.set (o3 + 0) (.int .i64 (G.wrap .i64 (n_52 + v_56)))) fun h_58 => rdH h_58 k3 N3 fun l_59 => atK l_59 (o3 + 0) fun q_60 => asI .i64 (.c q_60) fun n_61 => rdH h_58 k3 N3 fun l_62 => if (o3 + 0) < l_62.length then putH h_58 k3 (l_62.set (o3 + 0) (.int .i64 (G.wrap .i64 (n_61 + 1)))) fun h_63 => some (.normal, (prog_normal_s1 x0 k3 N3 o3 s0 h_63)) else none else none else rdH h_9 k3 N3 fun l_64 => atK l_64 (o3 + 0) fun q_65 => asI .i64 (.c q_65) fun n_66 => rdH h_9 k3 N3 fun l_67 => if (o3 + 0) < l_67.length then putH h_9 k3 (l_67.set (o3 + 0) (.int .i64 (G.wrap .i64 (n_66 + 1)))) fun h_68 => some (.normal, (prog_normal_s1 x0 k3 N3 o3 s0 h_68)) else none else rdH h_9 k3 N3 fun l_69 => if o3 = 0 ∧ l_69.length = 5 then if 0 = 0 ∧ s0.length = 5 ∧ l_69.length = 5 then some (.ret, (prog_normal_x1_0 l_69 h_9)) else none else none else none else none else none else none else none else none else some ((.exit 0), (prog_normal_x1_1 k3 N3 o3 s0 h_9)) := by kernel_rfl
theorem prog_normal_e1_0 (C : CallF) (L : LoopF) (G : Glo) (h0 : AHeap) (s0 : List Cell) (h : AHeap) :
    (prog_normal_k3 C L G h0) .ret (prog_normal_x1_0 s0 h) =
    if 0 = 0 ∧ s0.length = 5 then finish true h0 [(.agg s0)] h else none := by kernel_rfl
theorem prog_normal_e1_1 (C : CallF) (L : LoopF) (G : Glo) (h0 : AHeap) (k3 : Nat) (N3 : Nat) (o3 : Nat) (s0 : List Cell) (h : AHeap) :
    (prog_normal_k3 C L G h0) (.exit 0) (prog_normal_x1_1 k3 N3 o3 s0 h) =
    rdH h k3 N3 fun l_70 => if o3 = 0 ∧ l_70.length = 5 then if 0 = 0 ∧ s0.length = 5 ∧ l_70.length = 5 then if 0 = 0 ∧ l_70.length = 5 then finish true h0 [(.agg l_70)] h else none else none else none := by kernel_rfl
set_option maxRecDepth 100000 in
theorem prog_normal_eq (C : CallF) (L : LoopF) (G : Glo) (x0 : Cell) (l1 : List Cell) (h0 : AHeap) :
    prog_normal.body C L G [(.c x0), (.agg l1)] h0 =
    (L (prog_normal_F1 C L G) (prog_normal_s1 x0 h0.length ((AV.cells (.agg l1)).length) 0 [Cell.int .i64 0, Cell.int .i64 0, Cell.int .i64 0, Cell.int .i64 0, Cell.int .i64 0] (h0 ++ [some (Blk.mk true 0 (AV.cells (.agg l1)))]))).bind fun p_71 => (prog_normal_k3 C L G h0) p_71.1 p_71.2 := by kernel_rfl

/- jacquard/prog.Compile$1: 118 -/
set_option maxRecDepth 100000 in
theorem prog_Compile_1_eq (C : CallF) (L : LoopF) (G : Glo) (a0 : Int) (k1 : Nat) (N1 : Nat) (o1 : Nat) (h0 : AHeap) :
    prog_Compile_1.body C L G [(.c (.int .i64 a0)), (.c (.ptr k1 N1 o1))] h0 =
    rdH h0 k1 N1 fun l_1 => atK l_1 (o1 + 0) fun q_2 => c1 (C 134 [(.c q_2), (.c (.int .u8 (G.wrap .u8 a0)))] h0) fun y_4 h_3 => asI .i64 y_4 fun n_5 => some ([(.c (.int .i64 n_5))], h_3) := by kernel_rfl

/- jacquard/prog.set: 124 -/
set_option maxRecDepth 100000 in
theorem prog_set_eq (C : CallF) (L : LoopF) (G : Glo) (k0 : Nat) (N0 : Nat) (o0 : Nat) (a1 : Int) (a2 : Int) (h0 : AHeap) :
    prog_set.body C L G [(.c (.ptr k0 N0 o0)), (.c (.int .i64 a1)), (.c (.int .i64 a2))] h0 =
    scK (decide (a1 ≥ 0)) true (some ((decide (a1 < 4)), h0)) false h0 fun b_1 h_2 => if b_1 = true then if 0 ≤ a1 ∧ a1 < ((4 : Nat) : Int) then rdH h_2 k0 N0 fun l_3 => if ((o0 + 1) + ((Int.toNat a1) * 1)) < l_3.length then putH h_2 k0 (l_3.set ((o0 + 1) + ((Int.toNat a1) * 1)) (.int .i64 a2)) fun h_4 => some ([], h_4) else none else none else some ([], h_2) := by kernel_rfl


end Jq

namespace Jq
open Go

/- jacquard/num.Do: 125 -/
set_option maxRecDepth 100000 in
theorem num_Do_eq (C : CallF) (L : LoopF) (G : Glo) (a0 : Int) (a1 : Int) (a2 : Int) (h0 : AHeap) :
    num_Do.body C L G [(.c (.int .i64 a0)), (.c (.int .i64 a1)), (.c (.int .i64 a2))] h0 =
    if (a0 == 1) = true then some ([(.c (.int .i64 (G.wrap .i64 (a1 + a2)))), (.c (.bool true))], h0) else if (a0 == 2) = true then some ([(.c (.int .i64 (G.wrap .i64 (a1 - a2)))), (.c (.bool true))], h0) else if (a0 == 3) = true then some ([(.c (.int .i64 (G.wrap .i64 (a1 * a2)))), (.c (.bool true))], h0) else if (a0 == 4) = true then some ([(.c (.int .i64 (G.band .i64 a1 a2))), (.c (.bool true))], h0) else if (a0 == 5) = true then some ([(.c (.int .i64 (G.bor .i64 a1 a2))), (.c (.bool true))], h0) else if (a0 == 6) = true then some ([(.c (.int .i64 (G.bxor .i64 a1 a2))), (.c (.bool true))], h0) else if (a0 == 7) = true then if (G.rem .u64 (G.wrap .u64 a2) 64) < 0 then none else let v_1 : Int := (G.shl .i64 a1 (G.rem .u64 (G.wrap .u64 a2) 64)); some ([(.c (.int .i64 v_1)), (.c (.bool true))], h0) else if (a0 == 8) = true then if (G.rem .u64 (G.wrap .u64 a2) 64) < 0 then none else let v_2 : Int := (G.shr .i64 a1 (G.rem .u64 (G.wrap .u64 a2) 64)); some ([(.c (.int .i64 v_2)), (.c (.bool true))], h0) else if (a0 == 9) = true then c1 (C 139 [(.c (.bool (a1 == a2)))] h0) fun y_4 h_3 => asI .i64 y_4 fun n_5 => some ([(.c (.int .i64 n_5)), (.c (.bool true))], h_3) else if (a0 == 10) = true then c1 (C 139 [(.c (.bool (a1 != a2)))] h0) fun y_7 h_6 => asI .i64 y_7 fun n_8 => some ([(.c (.int .i64 n_8)), (.c (.bool true))], h_6) else if (a0 == 11) = true then c1 (C 139 [(.c (.bool (decide (a1 < a2))))] h0) fun y_10 h_9 => asI .i64 y_10 fun n_11 => some ([(.c (.int .i64 n_11)), (.c (.bool true))], h_9) else some ([(.c (.int .i64 0)), (.c (.bool false))], h0) := by kernel_rfl

/- jacquard/num.one: 139 -/
set_option maxRecDepth 100000 in
theorem num_one_eq (C : CallF) (L : LoopF) (G : Glo) (b0 : Bool) (h0 : AHeap) :
    num_one.body C L G [(.c (.bool b0))] h0 =
    if b0 = true then some ([(.c (.int .i64 1))], h0) else some ([(.c (.int .i64 0))], h0) := by kernel_rfl


end Jq

/- Programs: instructions, where a thread is; what is done at once. -/
namespace Jq
open Go

structure Opd where
  reg : Int
  val : Int
  deriving DecidableEq
structure Ins where
  kind : Int
  reg : Int
  loc : Int
  a : Opd
  op : Int
  b : Opd
  n : Int
  deriving DecidableEq
structure Lcl where
  pc : Int
  r0 : Int
  r1 : Int
  r2 : Int
  r3 : Int
  deriving DecidableEq

def Opd.cs (o : Opd) : List Cell := [.int .i64 o.reg, .int .i64 o.val]
def Ins.cs (i : Ins) : List Cell := [.int .i64 i.kind, .int .i64 i.reg, .int .i64 i.loc, .int .i64 i.a.reg, .int .i64 i.a.val, .int .i64 i.op, .int .i64 i.b.reg, .int .i64 i.b.val, .int .i64 i.n]
def Lcl.cs (l : Lcl) : List Cell := [.int .i64 l.pc, .int .i64 l.r0, .int .i64 l.r1, .int .i64 l.r2, .int .i64 l.r3]
def codeC (l : List Ins) : List Cell := l.flatMap Ins.cs
def Ins.zero : Ins := ⟨0, 0, 0, ⟨0, 0⟩, 0, ⟨0, 0⟩, 0⟩
def Lcl.zero : Lcl := ⟨0, 0, 0, 0, 0⟩

theorem Ins.len (i : Ins) : i.cs.length = 9 := rfl
theorem Lcl.len (l : Lcl) : l.cs.length = 5 := rfl
theorem zero5 : [Cell.int .i64 0, Cell.int .i64 0, Cell.int .i64 0, Cell.int .i64 0, Cell.int .i64 0] = Lcl.zero.cs := rfl

theorem codeC_len : ∀ l : List Ins, (codeC l).length = l.length * 9
  | [] => rfl
  | s :: l => by simp only [codeC, List.flatMap_cons, List.length_append]; rw [show (l.flatMap _).length = _ from codeC_len l, Ins.len]; simp; omega

theorem codeC_at : ∀ (l : List Ins) (i : Nat) (s : Ins), l[i]? = some s → ((codeC l).drop (i * 9)).take 9 = s.cs
  | [], _, _, h => by simp at h
  | q :: l, 0, s, h => by simp at h; subst h; rfl
  | q :: l, i + 1, s, h => by
    have := codeC_at l i s (by simpa using h)
    have e : codeC (q :: l) = q.cs ++ codeC l := rfl
    rw [e, List.drop_append, List.drop_of_length_le (by rw [Ins.len]; omega), List.nil_append, show (i + 1) * 9 - q.cs.length = i * 9 by rw [Ins.len]; omega]
    exact this

theorem codeC_snoc (l : List Ins) (s : Ins) : codeC (l ++ [s]) = codeC l ++ s.cs := by simp [codeC]

/-- One instruction, wherever it is looked at. -/
theorem SlAt.insG {h : AHeap} {x : Cell} {l : List Ins} (s : SlAt h x 9 (codeC l) l.length) {i : Nat} {q : Ins} (hq : l[i]? = some q) :
    ∃ off cs', (∀ {α : Type} (G : Nat → List Cell → Option α), (idxSK 9 x (i : Int) fun k N o => rdH h k N fun l => G o l) = G off cs') ∧ off + 9 ≤ cs'.length ∧ (cs'.drop off).take 9 = q.cs := by
  have hi : i < l.length := by
    rcases Nat.lt_or_ge i l.length with h | h
    · exact h
    · rw [List.getElem?_eq_none h] at hq; cases hq
  obtain ⟨off, cs', h1, h2, h3⟩ := s.elG hi
  exact ⟨off, cs', h1, h2, h3.trans (codeC_at l i q hq)⟩

/-- A register. -/
def Lcl.reg (l : Lcl) (i : Int) : Int := if i = 0 then l.r0 else if i = 1 then l.r1 else if i = 2 then l.r2 else l.r3
/-- A register set, if there is one. -/
def Lcl.setR (l : Lcl) (i v : Int) : Lcl := if i = 0 then { l with r0 := v } else if i = 1 then { l with r1 := v } else if i = 2 then { l with r2 := v } else if i = 3 then { l with r3 := v } else l
/-- An operand's number. -/
def opV (o : Opd) (l : Lcl) : Int := if 0 ≤ o.reg ∧ o.reg < 4 then l.reg o.reg else o.val

/-- Numbers as they are, no tables. -/
def GN : Glo := Glo.std fun _ => []

/-- What a sign makes of two numbers. -/
def doV (op a b : Int) : Option Int :=
  if op = 1 then some (GN.wrap .i64 (a + b)) else if op = 2 then some (GN.wrap .i64 (a - b)) else if op = 3 then some (GN.wrap .i64 (a * b))
  else if op = 4 then some (GN.band .i64 a b) else if op = 5 then some (GN.bor .i64 a b) else if op = 6 then some (GN.bxor .i64 a b)
  else if op = 7 then some (GN.shl .i64 a (GN.rem .u64 (GN.wrap .u64 b) 64)) else if op = 8 then some (GN.shr .i64 a (GN.rem .u64 (GN.wrap .u64 b) 64))
  else if op = 9 then some (if a = b then 1 else 0) else if op = 10 then some (if a = b then 0 else 1) else if op = 11 then some (if a < b then 1 else 0) else none

/-- One instruction that is done at once, if one comes. -/
def stepI (code : List Ins) (l : Lcl) : Option Lcl :=
  if 0 ≤ l.pc then match code[l.pc.toNat]? with
    | none => none
    | some i =>
      if i.kind = 5 then
        let m := l.setR i.reg ((doV i.op (opV i.a l) (opV i.b l)).getD (opV i.a l))
        some { m with pc := m.pc + 1 }
      else if i.kind = 6 then
        (if opV i.a l = opV i.b l then some { l with pc := l.pc + min (max i.n 0) code.length + 1 } else some { l with pc := l.pc + 1 })
      else none
  else none

def nrm (code : List Ins) : Nat → Lcl → Lcl
  | 0, l => l
  | k + 1, l => match stepI code l with
    | none => l
    | some l' => nrm code k l'

/-- Made normal. -/
def normL (code : List Ins) (l : Lcl) : Lcl := nrm code code.length l

theorem getI_lt {α : Type} {l : List α} {i : Nat} {v : α} (h : l[i]? = some v) : i < l.length := by
  rcases Nat.lt_or_ge i l.length with h1 | h1
  · exact h1
  · rw [List.getElem?_eq_none h1] at h; cases h

theorem Lcl.setR_pc (l : Lcl) (i v : Int) : (l.setR i v).pc = l.pc := by unfold Lcl.setR; repeat' split <;> try rfl

theorem stepI_pc {code : List Ins} {l l' : Lcl} (h : stepI code l = some l') : 0 ≤ l.pc ∧ l.pc < code.length ∧ l.pc < l'.pc ∧ l'.pc ≤ 2 * code.length := by
  unfold stepI at h
  split at h
  · rename_i h0
    cases hi : code[l.pc.toNat]? with
    | none => rw [hi] at h; cases h
    | some i =>
      rw [hi] at h
      have hlt := getI_lt hi
      simp only at h
      split at h
      · cases h
        have := l.setR_pc i.reg ((doV i.op (opV i.a l) (opV i.b l)).getD (opV i.a l))
        refine ⟨h0, by omega, ?_, ?_⟩ <;> simp only [this] <;> omega
      · split at h
        · split at h
          · cases h; refine ⟨h0, by omega, ?_, ?_⟩ <;> simp only <;> omega
          · cases h; refine ⟨h0, by omega, ?_, ?_⟩ <;> simp only <;> omega
        · cases h
  · cases h

section
variable {E : Env}

theorem lcl_get {l : Lcl} {i : Int} (h0 : 0 ≤ i) (h1 : i < 4) : l.cs[1 + Int.toNat i * 1]? = some (.int .i64 (l.reg i)) := by
  have h : i = 0 ∨ i = 1 ∨ i = 2 ∨ i = 3 := by omega
  rcases h with rfl | rfl | rfl | rfl <;> rfl

theorem lcl_set {l : Lcl} {i v : Int} (h0 : 0 ≤ i) (h1 : i < 4) : l.cs.set (1 + Int.toNat i * 1) (.int .i64 v) = (l.setR i v).cs := by
  have h : i = 0 ∨ i = 1 ∨ i = 2 ∨ i = 3 := by omega
  rcases h with rfl | rfl | rfl | rfl <;> rfl

theorem Value_R (hE : prog_Value_In E) (o : Opd) (l : Lcl) (h : AHeap) : R E 108 [.agg o.cs, .agg l.cs] h = some ([.c (.int .i64 (opV o l))], h) := by
  refine R_intro hE.fn ?_
  have a0 : ∀ {α : Type} (f : Cell → Option α), atK o.cs 0 f = f (.int .i64 o.reg) := fun _ => rfl
  have a1 : ∀ {α : Type} (f : Cell → Option α), atK o.cs 1 f = f (.int .i64 o.val) := fun _ => rfl
  unfold opV
  rw [prog_Value_eq]
  simp only [a0, a1, asI_ok, scK_and]
  by_cases h1 : 0 ≤ o.reg ∧ o.reg < 4
  · rw [if_pos (by simp; exact h1), if_pos ⟨h1.1, h1.2⟩, if_pos h1, atK_ok (lcl_get h1.1 h1.2), asI_ok]
  · rw [if_neg (by simp; omega), if_neg h1]

theorem set_R (hE : prog_set_In E) (i v : Int) {l : Lcl} {k : Nat} {h : AHeap} (hk : blk? h k = some ⟨true, 0, l.cs⟩) :
    R E 124 [.c (.ptr k 5 0), .c (.int .i64 i), .c (.int .i64 v)] h = some ([], setBlk h k (some ⟨true, 0, (l.setR i v).cs⟩)) := by
  refine R_intro hE.fn ?_
  rw [prog_set_eq, scK_and]
  by_cases h1 : 0 ≤ i ∧ i < 4
  · rw [if_pos (by simp; exact h1), if_pos ⟨h1.1, h1.2⟩, rdH_ok hk (Lcl.len l), if_pos (by rw [Lcl.len]; omega), show 0 + 1 + Int.toNat i * 1 = 1 + Int.toNat i * 1 by omega, lcl_set h1.1 h1.2, putH_ok hk rfl]
  · have e : l.setR i v = l := by unfold Lcl.setR; rw [if_neg (by omega), if_neg (by omega), if_neg (by omega), if_neg (by omega)]
    have e2 : setBlk h k (some ⟨true, 0, l.cs⟩) = h := by
      refine List.ext_getElem? fun j => ?_
      unfold setBlk
      rw [List.getElem?_set]
      by_cases hj : k = j
      · subst hj
        rw [if_pos rfl, if_pos (blk_lt' hk)]
        unfold blk? at hk
        cases hh : h[k]? with
        | none => rw [hh] at hk; cases hk
        | some b => rw [hh] at hk; simp at hk; rw [hk]
      · rw [if_neg hj]
    rw [if_neg (by simp; omega), e, e2]

theorem one_R (hE : num_one_In E) (b : Bool) (h : AHeap) : R E 139 [.c (.bool b)] h = some ([.c (.int .i64 (if b = true then 1 else 0))], h) := by
  refine R_intro hE.fn ?_
  rw [num_one_eq]
  cases b <;> rfl

theorem Do_R (hE : num_Do_In E) (op a b : Int) (h : AHeap) : R E 125 [.c (.int .i64 op), .c (.int .i64 a), .c (.int .i64 b)] h = some ([.c (.int .i64 ((doV op a b).getD 0)), .c (.bool (doV op a b).isSome)], h) := by
  refine R_intro hE.fn ?_
  rw [num_Do_eq]
  simp only [one_R hE.c139, c1_ok, asI_ok]
  have hr : ∀ x : Int, ¬ E.glob.rem .u64 (E.glob.wrap .u64 x) 64 < 0 := by
    intro x
    show ¬ Int.tmod (IntKind.wrap .u64 x) 64 < 0
    have h0 : 0 ≤ IntKind.wrap .u64 x := by
      simp only [IntKind.wrap, IntKind.signed, IntKind.bits, Bool.false_and, Bool.false_eq_true, if_false]
      exact Int.emod_nonneg _ (by omega)
    rw [Int.tmod_eq_emod_of_nonneg h0]
    have := Int.emod_nonneg (IntKind.wrap .u64 x) (b := 64) (by omega)
    omega
  simp only [hr, if_false]
  unfold doV
  have key : ∀ k : Int, ((op == k) = true) = (op = k) := fun k => by rw [beq_iff_eq]
  simp only [key]
  by_cases h1 : op = 1
  · simp only [if_pos h1]; rfl
  simp only [if_neg h1]
  by_cases h2 : op = 2
  · simp only [if_pos h2]; rfl
  simp only [if_neg h2]
  by_cases h3 : op = 3
  · simp only [if_pos h3]; rfl
  simp only [if_neg h3]
  by_cases h4 : op = 4
  · simp only [if_pos h4]; rfl
  simp only [if_neg h4]
  by_cases h5 : op = 5
  · simp only [if_pos h5]; rfl
  simp only [if_neg h5]
  by_cases h6 : op = 6
  · simp only [if_pos h6]; rfl
  simp only [if_neg h6]
  by_cases h7 : op = 7
  · simp only [if_pos h7]; rfl
  simp only [if_neg h7]
  by_cases h8 : op = 8
  · simp only [if_pos h8]; rfl
  simp only [if_neg h8]
  by_cases h9 : op = 9
  · simp only [if_pos h9]; (by_cases hab : a = b <;> simp [hab])
  simp only [if_neg h9]
  by_cases h10 : op = 10
  · simp only [if_pos h10]; (by_cases hab : a = b <;> simp [hab])
  simp only [if_neg h10]
  by_cases h11 : op = 11
  · simp only [if_pos h11]; (by_cases hab : a < b <;> simp [hab])
  simp only [if_neg h11]
  rfl

end
end Jq

/- RelAlgebra: joining and meeting are the same both ways; turned twice a relation is itself; closed twice it is closed. -/
namespace Jq
open Go

variable {E : Env}

end Jq

/- Relations told once more, by hand: closing, none leading to itself, cutting down, whether two are the same. -/
namespace Jq
open Go

theorem Low_mono {n m : Nat} (hm : n ≤ m) : ∀ {x : Cell}, Low n x → Low m x := by
  intro x h
  unfold Low at *
  split <;> simp_all
  omega

/-- What holds, over r. -/
def ACC (r : Nat) (q : Nat → Nat → Bool) : Nat → Nat := fun a => mkN fun b => decide (a < r) && decide (b < r) && q a b

variable {E : Env}

/-- Up to row i, place j. -/
def upto (i j a b : Nat) : Bool := decide (a < i) || (decide (a = i) && decide (b < j))

end Jq

/- Programs: made normal, begun, gone on. -/
namespace Jq
open Go

section
variable {E : Env}

theorem rdL {α : Type} {h : AHeap} {k : Nat} {l : Lcl} (hk : blk? h k = some ⟨true, 0, l.cs⟩) {F : List Cell → Option α} : rdH h k 5 F = F l.cs := rdH_ok hk rfl
theorem lcl_pc {α : Type} {l : Lcl} {f : Cell → Option α} : atK l.cs 0 f = f (.int .i64 l.pc) := rfl
theorem lcl_pc' {α : Type} {l : Lcl} {f : Cell → Option α} : atK l.cs (0 + 0) f = f (.int .i64 l.pc) := rfl
theorem lcl_setpc {l : Lcl} {v : Int} : l.cs.set 0 (.int .i64 v) = ({ l with pc := v } : Lcl).cs := rfl
theorem lcl_setpc' {l : Lcl} {v : Int} : l.cs.set (0 + 0) (.int .i64 v) = ({ l with pc := v } : Lcl).cs := rfl
theorem ins_kind {α : Type} {i : Ins} {f : Cell → Option α} : atK i.cs 0 f = f (.int .i64 i.kind) := rfl
theorem ins_reg {α : Type} {i : Ins} {f : Cell → Option α} : atK i.cs 1 f = f (.int .i64 i.reg) := rfl
theorem ins_loc {α : Type} {i : Ins} {f : Cell → Option α} : atK i.cs 2 f = f (.int .i64 i.loc) := rfl
theorem ins_op {α : Type} {i : Ins} {f : Cell → Option α} : atK i.cs 5 f = f (.int .i64 i.op) := rfl
theorem ins_n {α : Type} {i : Ins} {f : Cell → Option α} : atK i.cs 8 f = f (.int .i64 i.n) := rfl
theorem ins_a {i : Ins} : (i.cs.drop 3).take 2 = i.a.cs := rfl
theorem ins_b {i : Ins} : (i.cs.drop 6).take 2 = i.b.cs := rfl

theorem avOk_lcl (m : Nat) (l : Lcl) : avOk m (.agg l.cs) = true := by simp [avOk, AV.cells, Lcl.cs, idOk]

theorem normal_round (hE : prog_normal_In E) {x : Cell} {code : List Ins} {h : AHeap} (hlen : code.length < 4000000000000000000) (z : List Cell) (l : Lcl) (hx : SlAt (h ++ [some ⟨true, 0, l.cs⟩]) x 9 (codeC code) code.length) :
    prog_normal_F1 (R E) Lim E.glob (prog_normal_s1 x h.length 5 0 z (h ++ [some ⟨true, 0, l.cs⟩])) = match stepI code l with
      | some l' => some (.normal, prog_normal_s1 x h.length 5 0 z (h ++ [some ⟨true, 0, l'.cs⟩]))
      | none => if 0 ≤ l.pc ∧ l.pc < code.length then (if z.length = 5 then some (.ret, prog_normal_x1_0 l.cs (h ++ [some ⟨true, 0, l.cs⟩])) else none) else some (.exit 0, prog_normal_x1_1 h.length 5 0 z (h ++ [some ⟨true, 0, l.cs⟩])) := by
  have hb : ∀ l : Lcl, blk? (h ++ [some ⟨true, 0, l.cs⟩]) h.length = some ⟨true, 0, l.cs⟩ := fun l => blk_new _ _
  rw [prog_normal_r1, rdL (hb l), lcl_pc', asI_ok]
  by_cases h0 : 0 ≤ l.pc
  · rw [show decide (l.pc ≥ 0) = true from decide_eq_true h0, scK_ok, rdL (hb l), lcl_pc', asI_ok, hx.len, bind_ok]
    dsimp only
    by_cases h1 : l.pc < code.length
    · obtain ⟨p, hp⟩ : ∃ p : Nat, l.pc = (p : Int) := ⟨l.pc.toNat, by omega⟩
      have hpl : p < code.length := by omega
      have hq : code[p]? = some code[p] := List.getElem?_eq_getElem hpl
      generalize code[p] = i at hq
      obtain ⟨off, cs', hG0, hle, hcs⟩ := hx.insG hq
      have hG : ∀ {α : Type} (G : Nat → List Cell → Option α), (idxSK 9 x l.pc fun k N o => rdH (h ++ [some ⟨true, 0, l.cs⟩]) k N fun l => G o l) = G off cs' := by intro α G; rw [hp]; exact hG0 G
      have hst : stepI code l = if i.kind = 5 then
          some { (l.setR i.reg ((doV i.op (opV i.a l) (opV i.b l)).getD (opV i.a l))) with pc := (l.setR i.reg ((doV i.op (opV i.a l) (opV i.b l)).getD (opV i.a l))).pc + 1 }
        else if i.kind = 6 then (if opV i.a l = opV i.b l then some { l with pc := l.pc + min (max i.n 0) code.length + 1 } else some { l with pc := l.pc + 1 }) else none := by
        unfold stepI
        rw [if_pos h0, show l.pc.toNat = p by omega, hq]
      rw [hst, if_pos (decide_eq_true h1), rdL (hb l), lcl_pc', asI_ok, hG, if_pos hle, hcs, if_pos ⟨rfl, rfl, rfl⟩, if_pos (show 3 + 2 ≤ i.cs.length by rw [Ins.len]; omega), rdL (hb l), if_pos ⟨rfl, rfl⟩, ins_a, Value_R hE.c108, qh_ok, c1_ok, asI_ok, if_pos (show 6 + 2 ≤ i.cs.length by rw [Ins.len]; omega), rdL (hb l), if_pos ⟨rfl, rfl⟩, ins_b, Value_R hE.c108, qh_ok, c1_ok, asI_ok, ins_kind, asI_ok]
      by_cases k5 : i.kind = 5
      · rw [if_pos (by rw [k5]; rfl), if_pos k5, ins_op, asI_ok, Do_R hE.c125, c2_ok, asI_ok, asB_ok]
        cases hd : doV i.op (opV i.a l) (opV i.b l) with
        | some v =>
          have hpc := l.setR_pc i.reg v
          rw [show (some v : Option Int).isSome = true from rfl, if_pos rfl, ins_reg, asI_ok, set_R hE.c124 _ _ (hb l), setBlk_last, c0_ok, rdL (hb _), lcl_pc', asI_ok, rdL (hb _), if_pos (by rw [Lcl.len]; omega), lcl_setpc', putH_ok (hb _) rfl, setBlk_last]
          rw [show (some v : Option Int).getD 0 = v from rfl, show (some v : Option Int).getD (opV i.a l) = v from rfl, hpc, g_wrap_i64 (x := l.pc + 1) (by omega) (by omega)]
        | none =>
          have hpc := l.setR_pc i.reg (opV i.a l)
          rw [show (none : Option Int).isSome = false from rfl, if_neg (by simp), ins_reg, asI_ok, set_R hE.c124 _ _ (hb l), setBlk_last, c0_ok, rdL (hb _), lcl_pc', asI_ok, rdL (hb _), if_pos (by rw [Lcl.len]; omega), lcl_setpc', putH_ok (hb _) rfl, setBlk_last]
          rw [show (none : Option Int).getD (opV i.a l) = opV i.a l from rfl, hpc, g_wrap_i64 (x := l.pc + 1) (by omega) (by omega)]
      · rw [if_neg (by rw [beq_iff_eq]; exact k5), if_neg k5]
        by_cases k6 : i.kind = 6
        · rw [if_pos (by rw [k6]; rfl), if_pos k6]
          by_cases hab : opV i.a l = opV i.b l
          · have hv : (if (code.length : Int) < (if 0 > i.n then 0 else i.n) then (code.length : Int) else (if 0 > i.n then 0 else i.n)) = min (max i.n 0) code.length := by
              split <;> split at * <;> omega
            rw [if_pos (by rw [hab]; exact beq_self_eq_true _), if_pos hab, rdL (hb l), lcl_pc', asI_ok, ins_n, asI_ok, hx.len]
            dsimp only
            rw [hv, rdL (hb l), if_pos (by rw [Lcl.len]; omega), lcl_setpc', putH_ok (hb _) rfl, setBlk_last, rdL (hb _), lcl_pc', asI_ok, rdL (hb _), if_pos (by rw [Lcl.len]; omega), lcl_setpc', putH_ok (hb _) rfl, setBlk_last]
            dsimp only
            rw [g_wrap_i64 (x := l.pc + min (max i.n 0) code.length) (by omega) (by omega), g_wrap_i64 (x := l.pc + min (max i.n 0) code.length + 1) (by omega) (by omega)]
          · rw [if_neg (by rw [beq_iff_eq]; exact hab), if_neg hab, rdL (hb l), lcl_pc', asI_ok, rdL (hb l), if_pos (by rw [Lcl.len]; omega), lcl_setpc', putH_ok (hb _) rfl, setBlk_last, g_wrap_i64 (x := l.pc + 1) (by omega) (by omega)]
        · rw [if_neg (by rw [beq_iff_eq]; exact k6), if_neg k6, rdL (hb l), if_pos ⟨rfl, rfl⟩]
          dsimp only
          rw [if_pos (show 0 ≤ l.pc ∧ l.pc < code.length from ⟨h0, h1⟩)]
          by_cases hz : z.length = 5
          · rw [if_pos ⟨rfl, hz, rfl⟩, if_pos hz]
          · rw [if_neg (fun q => hz q.2.1), if_neg hz]
    · have hst : stepI code l = none := by
        unfold stepI
        rw [if_pos h0, List.getElem?_eq_none (by omega)]
      rw [hst, if_neg (by simpa using h1)]
      dsimp only
      rw [if_neg (fun q => h1 q.2)]
  · have hst : stepI code l = none := by unfold stepI; rw [if_neg h0]
    rw [hst, show decide (l.pc ≥ 0) = false from decide_eq_false h0, scK_ft, if_neg (by simp)]
    dsimp only
    rw [if_neg (fun q => h0 q.1)]

theorem normal_R (hE : prog_normal_In E) {x : Cell} {code : List Ins} {h : AHeap} (hlen : code.length < 4000000000000000000) (hx : SlAt h x 9 (codeC code) code.length) (hlow : Low h.length x) (l : Lcl) :
    R E 114 [.c x, .agg l.cs] h = some ([.agg (normL code l).cs], h) := by
  refine R_intro hE.fn ?_
  have hx' : ∀ l : Lcl, SlAt (h ++ [some ⟨true, 0, l.cs⟩]) x 9 (codeC code) code.length := fun l => hx.keep hlow (Kp.app _ (Nat.le_refl _))
  have hb : ∀ l : Lcl, blk? (h ++ [some ⟨true, 0, l.cs⟩]) h.length = some ⟨true, 0, l.cs⟩ := fun l => blk_new _ _
  have loop : ∀ (k : Nat) (l : Lcl), (0 ≤ l.pc → (code.length : Int) ≤ l.pc + k) → (Lim (prog_normal_F1 (R E) Lim E.glob) (prog_normal_s1 x h.length 5 0 Lcl.zero.cs (h ++ [some ⟨true, 0, l.cs⟩]))).bind (fun p => prog_normal_k3 (R E) Lim E.glob h p.1 p.2) = some ([.agg (nrm code k l).cs], h) := by
    intro k
    have stop : ∀ l : Lcl, stepI code l = none → (Lim (prog_normal_F1 (R E) Lim E.glob) (prog_normal_s1 x h.length 5 0 Lcl.zero.cs (h ++ [some ⟨true, 0, l.cs⟩]))).bind (fun p => prog_normal_k3 (R E) Lim E.glob h p.1 p.2) = some ([.agg l.cs], h) := by
      intro l hs
      have hr := normal_round hE hlen Lcl.zero.cs l (hx' l)
      rw [hs] at hr
      dsimp only at hr
      have fin : finish true h [.agg l.cs] (h ++ [some ⟨true, 0, l.cs⟩]) = some ([.agg l.cs], h) := finish_gc (Kp.app _ (Nat.le_refl _)) (by simp [avOk_lcl])
      split at hr
      · rw [if_pos (show Lcl.zero.cs.length = 5 from rfl)] at hr
        rw [Lim_ret hr, bind_ok, prog_normal_e1_0, if_pos ⟨rfl, rfl⟩, fin]
      · rw [Lim_exit hr, bind_ok, prog_normal_e1_1, rdL (hb l), if_pos ⟨rfl, rfl⟩, if_pos ⟨rfl, rfl, rfl⟩, if_pos ⟨rfl, rfl⟩, fin]
    induction k with
    | zero =>
      intro l hk
      rw [nrm]
      refine stop l ?_
      cases hs : stepI code l with
      | none => rfl
      | some l' => have := stepI_pc hs; have := hk this.1; omega
    | succ k ih =>
      intro l hk
      rw [nrm]
      cases hs : stepI code l with
      | none => exact stop l hs
      | some l' =>
        have hr := normal_round hE hlen Lcl.zero.cs l (hx' l)
        rw [hs] at hr
        have h3 := stepI_pc hs
        have := ih l' (fun _ => by have := hk h3.1; omega)
        cases hL : Lim (prog_normal_F1 (R E) Lim E.glob) (prog_normal_s1 x h.length 5 0 Lcl.zero.cs (h ++ [some ⟨true, 0, l'.cs⟩])) with
        | none => rw [hL] at this; cases this
        | some p => rw [Lim_next hr hL]; rw [hL] at this; exact this
  have hc : AV.cells (.agg l.cs) = l.cs := rfl
  rw [prog_normal_eq, hc, Lcl.len]
  exact loop code.length l (fun _ => by omega)

/-- A program, made of its parts. -/
structure PProg where
  locs : List Int
  init : List Int
  thr : List (List Ins)

/-- A program lies there. -/
def ProgAt (h : AHeap) (cs : List Cell) (P : PProg) : Prop :=
  ∃ a b c ts, cs = [a, b, c] ∧ (SlAt h a 1 (intC .u8 P.locs) P.locs.length ∧ Low h.length a) ∧ (SlAt h b 1 (intC .i64 P.init) P.init.length ∧ Low h.length b) ∧ (SlAt h c 1 ts P.thr.length ∧ Low h.length c) ∧
    ∀ (t : Nat) (code : List Ins), P.thr[t]? = some code → ∃ x : Cell, ts[t]? = some x ∧ SlAt h x 9 (codeC code) code.length ∧ Low h.length x

theorem ProgAt.len {h : AHeap} {cs : List Cell} {P : PProg} (p : ProgAt h cs P) : cs.length = 3 := by
  obtain ⟨a, b, c, ts, rfl, _⟩ := p; rfl

theorem ProgAt.keep {h h' : AHeap} {cs : List Cell} {P : PProg} (p : ProgAt h cs P) (hk : Kp h.length h h') : ProgAt h' cs P := by
  obtain ⟨a, b, c, ts, e, ⟨a1, a2⟩, ⟨b1, b2⟩, ⟨c1, c2⟩, ht⟩ := p
  exact ⟨a, b, c, ts, e, ⟨a1.keep a2 hk, Low_mono hk.1 a2⟩, ⟨b1.keep b2 hk, Low_mono hk.1 b2⟩, ⟨c1.keep c2 hk, Low_mono hk.1 c2⟩, fun t code h1 => by
    obtain ⟨x, x1, x2, x3⟩ := ht t code h1
    exact ⟨x, x1, x2.keep x3 hk, Low_mono hk.1 x3⟩⟩

/-- No thread is too long. -/
def PProg.fits (P : PProg) : Prop := P.thr.length < 4000000000000000000 ∧ ∀ code ∈ P.thr, code.length < 4000000000000000000

/-- A thread's instructions, or none. -/
def PProg.code (P : PProg) (t : Int) : List Ins := if 0 ≤ t then P.thr.getD t.toNat [] else []

theorem PProg.code_fits {P : PProg} (hf : P.fits) (t : Int) : (P.code t).length < 4000000000000000000 := by
  unfold PProg.code
  split
  · rw [List.getD_eq_getElem?_getD]
    cases h : P.thr[t.toNat]? with
    | none => show (0 : Nat) < _; omega
    | some c => exact hf.2 c (List.mem_of_getElem? h)
  · show (0 : Nat) < _; omega

theorem thread_R (hE : prog_thread_In E) {cs : List Cell} {P : PProg} {h : AHeap} (p : ProgAt h cs P) (t : Int) :
    ∃ x, R E 113 [.agg cs, .c (.int .i64 t)] h = some ([.c x], h) ∧ SlAt h x 9 (codeC (P.code t)) (P.code t).length ∧ Low h.length x := by
  obtain ⟨a, b, c, ts, rfl, _, _, ⟨hc, hcl⟩, ht⟩ := p
  have a2 : ∀ {α : Type} (f : Cell → Option α), atK [a, b, c] 2 f = f c := fun _ => rfl
  by_cases h0 : 0 ≤ t
  · by_cases h1 : t.toNat < P.thr.length
    · have hg : P.thr[t.toNat]? = some P.thr[t.toNat] := List.getElem?_eq_getElem h1
      generalize P.thr[t.toNat] = code at hg
      obtain ⟨x, x1, x2, x3⟩ := ht _ _ hg
      have hcode : P.code t = code := by unfold PProg.code; rw [if_pos h0, List.getD_eq_getElem?_getD, hg]; rfl
      rw [hcode]
      refine ⟨x, R_intro hE.fn ?_, x2, x3⟩
      have hti : t = ((t.toNat : Nat) : Int) := by omega
      rw [prog_thread_eq, show decide (t < 0) = false from decide_eq_false (by omega), scK_ok, a2, hc.len, show decide (t ≥ (P.thr.length : Int)) = false from decide_eq_false (by omega), bind_ok]
      dsimp only
      rw [if_neg (by simp), a2, hc.getAt t.toNat hti h1 x1]
    · have hcode : P.code t = [] := by unfold PProg.code; rw [if_pos h0, List.getD_eq_getElem?_getD, List.getElem?_eq_none (by omega)]; rfl
      rw [hcode]
      refine ⟨.nils, R_intro hE.fn ?_, ⟨rfl, .inl ⟨rfl, rfl⟩⟩, trivial⟩
      rw [prog_thread_eq, show decide (t < 0) = false from decide_eq_false (by omega), scK_ok, a2, hc.len, show decide (t ≥ (P.thr.length : Int)) = true from decide_eq_true (by omega), bind_ok]
      dsimp only
      rw [if_pos rfl]
  · have hcode : P.code t = [] := by unfold PProg.code; rw [if_neg h0]
    rw [hcode]
    refine ⟨.nils, R_intro hE.fn ?_, ⟨rfl, .inl ⟨rfl, rfl⟩⟩, trivial⟩
    rw [prog_thread_eq, show decide (t < 0) = true from decide_eq_true (by omega), scK_tf, if_pos rfl]

def startL (P : PProg) (t : Int) : Lcl := normL (P.code t) Lcl.zero

theorem PStart_R (hE : prog_Start_In E) {cs : List Cell} {P : PProg} {h : AHeap} (hf : P.fits) (p : ProgAt h cs P) (t : Int) :
    R E 94 [.agg cs, .c (.int .i64 t)] h = some ([.agg (startL P t).cs], h) := by
  refine R_intro hE.fn ?_
  obtain ⟨x, hr, hx, hl⟩ := thread_R hE.c113 p t
  rw [prog_Start_eq, if_pos ⟨rfl, p.len⟩, hr, c1_ok, asC_ok, zero5, normal_R hE.c114 (PProg.code_fits hf t) hx hl, c1_ok, asA_ok, if_pos ⟨rfl, rfl, rfl⟩, if_pos ⟨rfl, rfl⟩]
  rfl

/-- The instruction that comes, if one comes that touches memory. -/
def nextI (code : List Ins) (l : Lcl) : Option Ins :=
  if 0 ≤ l.pc then match code[l.pc.toNat]? with
    | none => none
    | some i => if 1 ≤ i.kind ∧ i.kind ≤ 4 then some i else none
  else none

theorem nextI_kind {code : List Ins} {l : Lcl} {i : Ins} (h : nextI code l = some i) : 0 ≤ l.pc ∧ l.pc < code.length ∧ code[l.pc.toNat]? = some i ∧ 1 ≤ i.kind ∧ i.kind ≤ 4 := by
  unfold nextI at h
  split at h
  · rename_i h0
    cases hi : code[l.pc.toNat]? with
    | none => rw [hi] at h; cases h
    | some j =>
      rw [hi] at h
      simp only at h
      split at h
      · cases h
        have := getI_lt hi
        rename_i hk
        exact ⟨h0, by omega, rfl, hk⟩
      · cases h
  · cases h

theorem PNext_R (hE : prog_Next_In E) {cs : List Cell} {P : PProg} {h : AHeap} (p : ProgAt h cs P) (t : Int) (l : Lcl) :
    R E 105 [.agg cs, .c (.int .i64 t), .agg l.cs] h = some ([.agg ((nextI (P.code t) l).getD Ins.zero).cs, .c (.bool (nextI (P.code t) l).isSome)], h) := by
  refine R_intro hE.fn ?_
  obtain ⟨x, hr, hx, hlo⟩ := thread_R hE.c113 p t
  generalize P.code t = code at *
  rw [prog_Next_eq, if_pos ⟨rfl, p.len⟩, hr, c1_ok, asC_ok, lcl_pc, asI_ok]
  by_cases h0 : 0 ≤ l.pc
  · rw [show decide (l.pc < 0) = false from decide_eq_false (by omega), scK_ok, lcl_pc, asI_ok, hx.len, bind_ok]
    dsimp only
    by_cases h1 : l.pc < code.length
    · obtain ⟨q, hq⟩ : ∃ q : Nat, l.pc = (q : Int) := ⟨l.pc.toNat, by omega⟩
      have hql : q < code.length := by omega
      have hg : code[q]? = some code[q] := List.getElem?_eq_getElem hql
      generalize code[q] = i at hg
      obtain ⟨off, cs', hG0, hle, hcs⟩ := hx.insG hg
      have hG : ∀ {α : Type} (G : Nat → List Cell → Option α), (idxSK 9 x l.pc fun k N o => rdH h k N fun l => G o l) = G off cs' := by intro α G; rw [hq]; exact hG0 G
      have hn : nextI code l = if 1 ≤ i.kind ∧ i.kind ≤ 4 then some i else none := by
        unfold nextI
        rw [if_pos h0, show l.pc.toNat = q by omega, hg]
      rw [show decide (l.pc ≥ (code.length : Int)) = false from decide_eq_false (by omega), if_neg (by simp), lcl_pc, asI_ok, hG, if_pos hle, hcs, if_pos ⟨rfl, rfl, rfl⟩, ins_kind, asI_ok, ins_kind, asI_ok, scK_or, hn]
      by_cases hk : 1 ≤ i.kind ∧ i.kind ≤ 4
      · rw [if_neg (by simp; omega), if_pos hk, if_pos ⟨rfl, rfl⟩, if_pos ⟨rfl, rfl, rfl⟩, if_pos ⟨rfl, rfl⟩]; rfl
      · rw [if_pos (by simp; omega), if_neg hk, if_pos ⟨rfl, rfl, rfl⟩, if_pos ⟨rfl, rfl⟩]; rfl
    · have hn : nextI code l = none := by unfold nextI; rw [if_pos h0, List.getElem?_eq_none (by omega)]
      rw [show decide (l.pc ≥ (code.length : Int)) = true from decide_eq_true (by omega), if_pos rfl, hn, if_pos ⟨rfl, rfl, rfl⟩, if_pos ⟨rfl, rfl⟩]; rfl
  · have hn : nextI code l = none := by unfold nextI; rw [if_neg h0]
    rw [show decide (l.pc < 0) = true from decide_eq_true (by omega), scK_tf, if_pos rfl, hn, if_pos ⟨rfl, rfl, rfl⟩, if_pos ⟨rfl, rfl⟩]; rfl

/-- Where a thread is behind an instruction that reads a value. -/
def afterL (code : List Ins) (l : Lcl) (v : Int) : Lcl := match nextI code l with
  | none => l
  | some i => normL code { (if i.kind = 2 ∨ i.kind = 4 then l.setR i.reg v else l) with pc := l.pc + 1 }

theorem PAfter_R (hE : prog_After_In E) {cs : List Cell} {P : PProg} {h : AHeap} (hf : P.fits) (p : ProgAt h cs P) (t : Int) (l : Lcl) (v : Int) :
    R E 106 [.agg cs, .c (.int .i64 t), .agg l.cs, .c (.int .i64 v)] h = some ([.agg (afterL (P.code t) l v).cs], h) := by
  refine R_intro hE.fn ?_
  have hK : ∀ b, Kp h.length h (h ++ [some b]) := fun b => Kp.app _ (Nat.le_refl _)
  have p' : ∀ b, ProgAt (h ++ [some b]) cs P := fun b => p.keep (hK b)
  have hb : ∀ l : Lcl, blk? (h ++ [some ⟨true, 0, l.cs⟩]) h.length = some ⟨true, 0, l.cs⟩ := fun l => blk_new _ _
  have fin : ∀ (m l : Lcl), finish true h [.agg m.cs] (h ++ [some ⟨true, 0, l.cs⟩]) = some ([.agg m.cs], h) := fun m l => finish_gc (hK _) (by simp [avOk_lcl])
  have hc : AV.cells (.agg l.cs) = l.cs := rfl
  have hfit := PProg.code_fits hf t
  rw [prog_After_eq, if_pos ⟨rfl, p.len⟩, hc, Lcl.len, rdL (hb l), if_pos ⟨rfl, rfl⟩, PNext_R hE.c105 (p' _), c2_ok, asA_ok, asB_ok, if_pos ⟨rfl, rfl, rfl⟩]
  unfold afterL
  cases hn : nextI (P.code t) l with
  | none =>
    rw [show (none : Option Ins).isSome = false from rfl, if_pos (show (!false) = true from rfl), rdL (hb l), if_pos ⟨rfl, rfl⟩, if_pos ⟨rfl, rfl, rfl⟩, if_pos ⟨rfl, rfl⟩, fin]
  | some i =>
    obtain ⟨n0, n1, n2, n3, n4⟩ := nextI_kind hn
    rw [show (some i : Option Ins).isSome = true from rfl, if_neg (by simp), show (some i : Option Ins).getD Ins.zero = i from rfl, ins_kind, asI_ok, ins_kind, asI_ok, scK_or]
    by_cases hk : i.kind = 2 ∨ i.kind = 4
    · have hpc := l.setR_pc i.reg v
      obtain ⟨x, hr, hx, hlo⟩ := thread_R hE.c113 (p' ⟨true, 0, ({ (l.setR i.reg v) with pc := l.pc + 1 } : Lcl).cs⟩) t
      rw [if_pos (by rw [Bool.or_eq_true, beq_iff_eq, beq_iff_eq]; exact hk), ins_reg, asI_ok, set_R hE.c124 _ _ (hb l), setBlk_last, c0_ok, rdL (hb _), lcl_pc, asI_ok, rdL (hb _), if_pos (by rw [Lcl.len]; omega), lcl_setpc, putH_ok (hb _) rfl, setBlk_last, if_pos ⟨rfl, p.len⟩, hpc, g_wrap_i64 (x := l.pc + 1) (by omega) (by omega), hr, qh_ok, c1_ok, asC_ok, rdL (hb _), if_pos ⟨rfl, rfl⟩, normal_R hE.c114 hfit hx hlo, qh_ok, c1_ok, asA_ok, if_pos ⟨rfl, rfl, rfl⟩, if_pos ⟨rfl, rfl⟩, fin]
      dsimp only
      rw [if_pos hk]
    · obtain ⟨x, hr, hx, hlo⟩ := thread_R hE.c113 (p' ⟨true, 0, ({ l with pc := l.pc + 1 } : Lcl).cs⟩) t
      rw [if_neg (by rw [Bool.or_eq_true, beq_iff_eq, beq_iff_eq]; exact hk), rdL (hb _), lcl_pc, asI_ok, rdL (hb _), if_pos (by rw [Lcl.len]; omega), lcl_setpc, putH_ok (hb _) rfl, setBlk_last, if_pos ⟨rfl, p.len⟩, g_wrap_i64 (x := l.pc + 1) (by omega) (by omega), hr, qh_ok, c1_ok, asC_ok, rdL (hb _), if_pos ⟨rfl, rfl⟩, normal_R hE.c114 hfit hx hlo, qh_ok, c1_ok, asA_ok, if_pos ⟨rfl, rfl, rfl⟩, if_pos ⟨rfl, rfl⟩, fin]
      dsimp only
      rw [if_neg hk]

end
end Jq

namespace Jq
open Go

/- jacquard/jacquardref2.Do: 93 -/
set_option maxRecDepth 100000 in
theorem jacquardref2_Do_eq (C : CallF) (L : LoopF) (G : Glo) (a0 : Int) (a1 : Int) (a2 : Int) (h0 : AHeap) :
    jacquardref2_Do.body C L G [(.c (.int .i64 a0)), (.c (.int .i64 a1)), (.c (.int .i64 a2))] h0 =
    if (a0 == 1) = true then let v_1 : Int := (G.wrap .u64 ((G.wrap .u64 a1) + (G.wrap .u64 a2))); some ([(.c (.int .i64 (G.wrap .i64 v_1))), (.c (.bool true))], h0) else if (a0 == 2) = true then let v_2 : Int := (G.wrap .u64 ((G.wrap .u64 a1) - (G.wrap .u64 a2))); some ([(.c (.int .i64 (G.wrap .i64 v_2))), (.c (.bool true))], h0) else if (a0 == 3) = true then let v_3 : Int := (G.wrap .u64 ((G.wrap .u64 a1) * (G.wrap .u64 a2))); some ([(.c (.int .i64 (G.wrap .i64 v_3))), (.c (.bool true))], h0) else if (a0 == 4) = true then some ([(.c (.int .i64 (G.band .i64 a1 a2))), (.c (.bool true))], h0) else if (a0 == 5) = true then some ([(.c (.int .i64 (G.bor .i64 a1 a2))), (.c (.bool true))], h0) else if (a0 == 6) = true then some ([(.c (.int .i64 (G.bxor .i64 a1 a2))), (.c (.bool true))], h0) else if (a0 == 7) = true then if (G.rem .u64 (G.wrap .u64 a2) 64) < 0 then none else let v_4 : Int := (G.shl .u64 (G.wrap .u64 a1) (G.rem .u64 (G.wrap .u64 a2) 64)); some ([(.c (.int .i64 (G.wrap .i64 v_4))), (.c (.bool true))], h0) else if (a0 == 8) = true then if (G.rem .u64 (G.wrap .u64 a2) 64) < 0 then none else let v_5 : Int := (G.shr .i64 a1 (G.rem .u64 (G.wrap .u64 a2) 64)); some ([(.c (.int .i64 v_5)), (.c (.bool true))], h0) else if (a0 == 9) = true then if (a1 == a2) = true then some ([(.c (.int .i64 1)), (.c (.bool true))], h0) else some ([(.c (.int .i64 0)), (.c (.bool true))], h0) else if (a0 == 10) = true then if (a1 != a2) = true then some ([(.c (.int .i64 1)), (.c (.bool true))], h0) else some ([(.c (.int .i64 0)), (.c (.bool true))], h0) else if (a0 == 11) = true then if (decide (a1 < a2)) = true then some ([(.c (.int .i64 1)), (.c (.bool true))], h0) else some ([(.c (.int .i64 0)), (.c (.bool true))], h0) else some ([(.c (.int .i64 0)), (.c (.bool false))], h0) := by kernel_rfl

/- jacquard/jacquardref2.Check: 99 -/
def jacquardref2_Check_k2 (C : CallF) (L : LoopF) (G : Glo) (h0 : AHeap) : Ex → St → Option (List AV × AHeap) :=
  kSeq (fun st => jacquardref2_Check_p1.exec C L G st (jacquardref2_Check.fin G h0)) (jacquardref2_Check.fin G h0)
def jacquardref2_Check_k3 (C : CallF) (L : LoopF) (G : Glo) (h0 : AHeap) : Ex → St → Option (List AV × AHeap) :=
  kBlk 0 (jacquardref2_Check_k2 C L G h0)
def jacquardref2_Check_s1 (a3 : Int) (b4 : Bool) (a5 : Int) (s0 : List Cell) (h : AHeap) : St := ⟨[.top, .loc 0 0, .top, .v (.c (.int .i64 a3)), .v (.c (.bool b4)), .v (.c (.int .i64 a5)), .top, .top, .top, .top, .top, .top, .top, .top, .top, .top, .top, .top, .top, .top, .top, .top, .top, .top, .top, .top, .top, .top, .top, .top, .top, .top, .top, .top, .top, .top, .top, .top, .top, .top, .top, .top, .top, .top, .top, .top, .top, .top, .top, .top, .top, .top, .top, .top, .top, .top, .top, .top, .top, .top, .top, .top, .top, .top, .top, .top, .top, .top, .top, .top, .top, .top, .top, .top, .top, .top, .top, .top, .top, .top, .top, .top, .top, .top, .top, .top, .top, .top, .top, .top, .top, .top, .top, .top, .top, .top, .top, .top, .top, .top, .top, .top, .top, .top, .top, .top, .top, .top, .top, .top, .top, .top, .top, .top, .top, .top, .top, .top, .top, .top, .top, .top, .top, .top, .top, .top, .top, .top, .top, .top, .top, .top, .top, .top, .top, .top, .top, .top, .top, .top, .top, .top, .top, .top, .top, .top, .top, .top, .top, .top, .top, .top, .top, .top, .top, .top, .top, .top, .top, .top, .top, .top, .top, .top, .top, .top, .top, .top, .top, .top, .top, .top, .top, .top, .top, .top, .top, .top, .top, .top, .top, .top, .top, .top, .top, .top, .top, .top, .top, .top, .top, .top, .top, .top, .top, .top, .top, .top, .top, .top, .top, .top, .top, .top], [some s0, none], h⟩
def jacquardref2_Check_F1 (C : CallF) (L : LoopF) (G : Glo) : St → Option (Ex × St) :=
  roundF (fun st f => jacquardref2_Check_b1.exec C L G st f) [1, 3, 4, 5] [0] [(1, [1, 3, 4], [0])]
def jacquardref2_Check_x1_1 (a3 : Int) (b4 : Bool) (s0 : List Cell) (h : AHeap) : St := ⟨[.top, .loc 0 0, .top, .v (.c (.int .i64 a3)), .v (.c (.bool b4)), .top, .top, .top, .top, .top, .top, .top, .top, .top, .top, .top, .top, .top, .top, .top, .top, .top, .top, .top, .top, .top, .top, .top, .top, .top, .top, .top, .top, .top, .top, .top, .top, .top, .top, .top, .top, .top, .top, .top, .top, .top, .top, .top, .top, .top, .top, .top, .top, .top, .top, .top, .top, .top, .top, .top, .top, .top, .top, .top, .top, .top, .top, .top, .top, .top, .top, .top, .top, .top, .top, .top, .top, .top, .top, .top, .top, .top, .top, .top, .top, .top, .top, .top, .top, .top, .top, .top, .top, .top, .top, .top, .top, .top, .top, .top, .top, .top, .top, .top, .top, .top, .top, .top, .top, .top, .top, .top, .top, .top, .top, .top, .top, .top, .top, .top, .top, .top, .top, .top, .top, .top, .top, .top, .top, .top, .top, .top, .top, .top, .top, .top, .top, .top, .top, .top, .top, .top, .top, .top, .top, .top, .top, .top, .top, .top, .top, .top, .top, .top, .top, .top, .top, .top, .top, .top, .top, .top, .top, .top, .top, .top, .top, .top, .top, .top, .top, .top, .top, .top, .top, .top, .top, .top, .top, .top, .top, .top, .top, .top, .top, .top, .top, .top, .top, .top, .top, .top, .top, .top, .top, .top, .top, .top, .top, .top, .top, .top, .top, .top], [some s0, none], h⟩
def jacquardref2_Check_k4 (C : CallF) (L : LoopF) (G : Glo) (h0 : AHeap) : Ex → St → Option (List AV × AHeap) :=
  kSeq (fun st => jacquardref2_Check_p2.exec C L G st (jacquardref2_Check.fin G h0)) (jacquardref2_Check.fin G h0)
def jacquardref2_Check_k5 (C : CallF) (L : LoopF) (G : Glo) (h0 : AHeap) : Ex → St → Option (List AV × AHeap) :=
  kBlk 2 (jacquardref2_Check_k4 C L G h0)
def jacquardref2_Check_s2 (a3 : Int) (b4 : Bool) (a6 : Int) (s0 : List Cell) (h : AHeap) : St := ⟨[.top, .loc 0 0, .top, .v (.c (.int .i64 a3)), .v (.c (.bool b4)), .top, .v (.c (.int .i64 a6)), .top, .top, .top, .top, .top, .top, .top, .top, .top, .top, .top, .top, .top, .top, .top, .top, .top, .top, .top, .top, .top, .top, .top, .top, .top, .top, .top, .top, .top, .top, .top, .top, .top, .top, .top, .top, .top, .top, .top, .top, .top, .top, .top, .top, .top, .top, .top, .top, .top, .top, .top, .top, .top, .top, .top, .top, .top, .top, .top, .top, .top, .top, .top, .top, .top, .top, .top, .top, .top, .top, .top, .top, .top, .top, .top, .top, .top, .top, .top, .top, .top, .top, .top, .top, .top, .top, .top, .top, .top, .top, .top, .top, .top, .top, .top, .top, .top, .top, .top, .top, .top, .top, .top, .top, .top, .top, .top, .top, .top, .top, .top, .top, .top, .top, .top, .top, .top, .top, .top, .top, .top, .top, .top, .top, .top, .top, .top, .top, .top, .top, .top, .top, .top, .top, .top, .top, .top, .top, .top, .top, .top, .top, .top, .top, .top, .top, .top, .top, .top, .top, .top, .top, .top, .top, .top, .top, .top, .top, .top, .top, .top, .top, .top, .top, .top, .top, .top, .top, .top, .top, .top, .top, .top, .top, .top, .top, .top, .top, .top, .top, .top, .top, .top, .top, .top, .top, .top, .top, .top, .top, .top, .top, .top, .top, .top, .top, .top], [some s0, none], h⟩
def jacquardref2_Check_F2 (C : CallF) (L : LoopF) (G : Glo) : St → Option (Ex × St) :=
  roundF (fun st f => jacquardref2_Check_b2.exec C L G st f) [1, 3, 4, 6] [0] [(3, [1, 3, 4], [0])]
def jacquardref2_Check_x2_3 (a3 : Int) (b4 : Bool) (s0 : List Cell) (h : AHeap) : St := ⟨[.top, .loc 0 0, .top, .v (.c (.int .i64 a3)), .v (.c (.bool b4)), .top, .top, .top, .top, .top, .top, .top, .top, .top, .top, .top, .top, .top, .top, .top, .top, .top, .top, .top, .top, .top, .top, .top, .top, .top, .top, .top, .top, .top, .top, .top, .top, .top, .top, .top, .top, .top, .top, .top, .top, .top, .top, .top, .top, .top, .top, .top, .top, .top, .top, .top, .top, .top, .top, .top, .top, .top, .top, .top, .top, .top, .top, .top, .top, .top, .top, .top, .top, .top, .top, .top, .top, .top, .top, .top, .top, .top, .top, .top, .top, .top, .top, .top, .top, .top, .top, .top, .top, .top, .top, .top, .top, .top, .top, .top, .top, .top, .top, .top, .top, .top, .top, .top, .top, .top, .top, .top, .top, .top, .top, .top, .top, .top, .top, .top, .top, .top, .top, .top, .top, .top, .top, .top, .top, .top, .top, .top, .top, .top, .top, .top, .top, .top, .top, .top, .top, .top, .top, .top, .top, .top, .top, .top, .top, .top, .top, .top, .top, .top, .top, .top, .top, .top, .top, .top, .top, .top, .top, .top, .top, .top, .top, .top, .top, .top, .top, .top, .top, .top, .top, .top, .top, .top, .top, .top, .top, .top, .top, .top, .top, .top, .top, .top, .top, .top, .top, .top, .top, .top, .top, .top, .top, .top, .top, .top, .top, .top, .top, .top], [some s0, none], h⟩
def jacquardref2_Check_k6 (C : CallF) (L : LoopF) (G : Glo) (h0 : AHeap) : Ex → St → Option (List AV × AHeap) :=
  kSeq (fun st => jacquardref2_Check_p3.exec C L G st (jacquardref2_Check.fin G h0)) (jacquardref2_Check.fin G h0)
def jacquardref2_Check_k7 (C : CallF) (L : LoopF) (G : Glo) (h0 : AHeap) : Ex → St → Option (List AV × AHeap) :=
  kBlk 4 (jacquardref2_Check_k6 C L G h0)
def jacquardref2_Check_s4 (a7 : Int) (s0 : List Cell) (h : AHeap) : St := ⟨[.top, .loc 0 0, .top, .top, .top, .top, .top, .v (.c (.int .i64 a7)), .top, .top, .top, .top, .top, .top, .top, .top, .top, .top, .top, .top, .top, .top, .top, .top, .top, .top, .top, .top, .top, .top, .top, .top, .top, .top, .top, .top, .top, .top, .top, .top, .top, .top, .top, .top, .top, .top, .top, .top, .top, .top, .top, .top, .top, .top, .top, .top, .top, .top, .top, .top, .top, .top, .top, .top, .top, .top, .top, .top, .top, .top, .top, .top, .top, .top, .top, .top, .top, .top, .top, .top, .top, .top, .top, .top, .top, .top, .top, .top, .top, .top, .top, .top, .top, .top, .top, .top, .top, .top, .top, .top, .top, .top, .top, .top, .top, .top, .top, .top, .top, .top, .top, .top, .top, .top, .top, .top, .top, .top, .top, .top, .top, .top, .top, .top, .top, .top, .top, .top, .top, .top, .top, .top, .top, .top, .top, .top, .top, .top, .top, .top, .top, .top, .top, .top, .top, .top, .top, .top, .top, .top, .top, .top, .top, .top, .top, .top, .top, .top, .top, .top, .top, .top, .top, .top, .top, .top, .top, .top, .top, .top, .top, .top, .top, .top, .top, .top, .top, .top, .top, .top, .top, .top, .top, .top, .top, .top, .top, .top, .top, .top, .top, .top, .top, .top, .top, .top, .top, .top, .top, .top, .top, .top, .top, .top], [some s0, none], h⟩
def jacquardref2_Check_F4 (C : CallF) (L : LoopF) (G : Glo) : St → Option (Ex × St) :=
  roundF (fun st f => jacquardref2_Check_b4.exec C L G st f) [1, 7] [0] [(0, [2], []), (5, [1], [0])]
def jacquardref2_Check_k8 (C : CallF) (L : LoopF) (G : Glo) : Ex → St → Option (Ex × St) :=
  kSeq (fun st => jacquardref2_Check_p4.exec C L G st (kLoop [1, 7] [0] [(0, [2], []), (5, [1], [0])])) (kLoop [1, 7] [0] [(0, [2], []), (5, [1], [0])])
def jacquardref2_Check_k9 (C : CallF) (L : LoopF) (G : Glo) : Ex → St → Option (Ex × St) :=
  kBlk 5 (jacquardref2_Check_k8 C L G)
def jacquardref2_Check_k10 (C : CallF) (L : LoopF) (G : Glo) : Ex → St → Option (Ex × St) :=
  kBlk 6 (jacquardref2_Check_k9 C L G)
def jacquardref2_Check_s3 (a7 : Int) (a8 : Int) (s0 : List Cell) (h : AHeap) : St := ⟨[.top, .loc 0 0, .top, .top, .top, .top, .top, .v (.c (.int .i64 a7)), .v (.c (.int .i64 a8)), .top, .top, .top, .top, .top, .top, .top, .top, .top, .top, .top, .top, .top, .top, .top, .top, .top, .top, .top, .top, .top, .top, .top, .top, .top, .top, .top, .top, .top, .top, .top, .top, .top, .top, .top, .top, .top, .top, .top, .top, .top, .top, .top, .top, .top, .top, .top, .top, .top, .top, .top, .top, .top, .top, .top, .top, .top, .top, .top, .top, .top, .top, .top, .top, .top, .top, .top, .top, .top, .top, .top, .top, .top, .top, .top, .top, .top, .top, .top, .top, .top, .top, .top, .top, .top, .top, .top, .top, .top, .top, .top, .top, .top, .top, .top, .top, .top, .top, .top, .top, .top, .top, .top, .top, .top, .top, .top, .top, .top, .top, .top, .top, .top, .top, .top, .top, .top, .top, .top, .top, .top, .top, .top, .top, .top, .top, .top, .top, .top, .top, .top, .top, .top, .top, .top, .top, .top, .top, .top, .top, .top, .top, .top, .top, .top, .top, .top, .top, .top, .top, .top, .top, .top, .top, .top, .top, .top, .top, .top, .top, .top, .top, .top, .top, .top, .top, .top, .top, .top, .top, .top, .top, .top, .top, .top, .top, .top, .top, .top, .top, .top, .top, .top, .top, .top, .top, .top, .top, .top, .top, .top, .top, .top, .top, .top], [some s0, none], h⟩
def jacquardref2_Check_F3 (C : CallF) (L : LoopF) (G : Glo) : St → Option (Ex × St) :=
  roundF (fun st f => jacquardref2_Check_b3.exec C L G st f) [1, 7, 8] [0] [(0, [2], []), (7, [1, 7], [0])]
def jacquardref2_Check_x3_0 (a2 : Int) (h : AHeap) : St := ⟨[.top, .top, .v (.c (.int .i64 a2)), .top, .top, .top, .top, .top, .top, .top, .top, .top, .top, .top, .top, .top, .top, .top, .top, .top, .top, .top, .top, .top, .top, .top, .top, .top, .top, .top, .top, .top, .top, .top, .top, .top, .top, .top, .top, .top, .top, .top, .top, .top, .top, .top, .top, .top, .top, .top, .top, .top, .top, .top, .top, .top, .top, .top, .top, .top, .top, .top, .top, .top, .top, .top, .top, .top, .top, .top, .top, .top, .top, .top, .top, .top, .top, .top, .top, .top, .top, .top, .top, .top, .top, .top, .top, .top, .top, .top, .top, .top, .top, .top, .top, .top, .top, .top, .top, .top, .top, .top, .top, .top, .top, .top, .top, .top, .top, .top, .top, .top, .top, .top, .top, .top, .top, .top, .top, .top, .top, .top, .top, .top, .top, .top, .top, .top, .top, .top, .top, .top, .top, .top, .top, .top, .top, .top, .top, .top, .top, .top, .top, .top, .top, .top, .top, .top, .top, .top, .top, .top, .top, .top, .top, .top, .top, .top, .top, .top, .top, .top, .top, .top, .top, .top, .top, .top, .top, .top, .top, .top, .top, .top, .top, .top, .top, .top, .top, .top, .top, .top, .top, .top, .top, .top, .top, .top, .top, .top, .top, .top, .top, .top, .top, .top, .top, .top, .top, .top, .top, .top, .top, .top], [none, none], h⟩
def jacquardref2_Check_x3_7 (a7 : Int) (s0 : List Cell) (h : AHeap) : St := ⟨[.top, .loc 0 0, .top, .top, .top, .top, .top, .v (.c (.int .i64 a7)), .top, .top, .top, .top, .top, .top, .top, .top, .top, .top, .top, .top, .top, .top, .top, .top, .top, .top, .top, .top, .top, .top, .top, .top, .top, .top, .top, .top, .top, .top, .top, .top, .top, .top, .top, .top, .top, .top, .top, .top, .top, .top, .top, .top, .top, .top, .top, .top, .top, .top, .top, .top, .top, .top, .top, .top, .top, .top, .top, .top, .top, .top, .top, .top, .top, .top, .top, .top, .top, .top, .top, .top, .top, .top, .top, .top, .top, .top, .top, .top, .top, .top, .top, .top, .top, .top, .top, .top, .top, .top, .top, .top, .top, .top, .top, .top, .top, .top, .top, .top, .top, .top, .top, .top, .top, .top, .top, .top, .top, .top, .top, .top, .top, .top, .top, .top, .top, .top, .top, .top, .top, .top, .top, .top, .top, .top, .top, .top, .top, .top, .top, .top, .top, .top, .top, .top, .top, .top, .top, .top, .top, .top, .top, .top, .top, .top, .top, .top, .top, .top, .top, .top, .top, .top, .top, .top, .top, .top, .top, .top, .top, .top, .top, .top, .top, .top, .top, .top, .top, .top, .top, .top, .top, .top, .top, .top, .top, .top, .top, .top, .top, .top, .top, .top, .top, .top, .top, .top, .top, .top, .top, .top, .top, .top, .top, .top], [some s0, none], h⟩
def jacquardref2_Check_x4_0 (a2 : Int) (h : AHeap) : St := ⟨[.top, .top, .v (.c (.int .i64 a2)), .top, .top, .top, .top, .top, .top, .top, .top, .top, .top, .top, .top, .top, .top, .top, .top, .top, .top, .top, .top, .top, .top, .top, .top, .top, .top, .top, .top, .top, .top, .top, .top, .top, .top, .top, .top, .top, .top, .top, .top, .top, .top, .top, .top, .top, .top, .top, .top, .top, .top, .top, .top, .top, .top, .top, .top, .top, .top, .top, .top, .top, .top, .top, .top, .top, .top, .top, .top, .top, .top, .top, .top, .top, .top, .top, .top, .top, .top, .top, .top, .top, .top, .top, .top, .top, .top, .top, .top, .top, .top, .top, .top, .top, .top, .top, .top, .top, .top, .top, .top, .top, .top, .top, .top, .top, .top, .top, .top, .top, .top, .top, .top, .top, .top, .top, .top, .top, .top, .top, .top, .top, .top, .top, .top, .top, .top, .top, .top, .top, .top, .top, .top, .top, .top, .top, .top, .top, .top, .top, .top, .top, .top, .top, .top, .top, .top, .top, .top, .top, .top, .top, .top, .top, .top, .top, .top, .top, .top, .top, .top, .top, .top, .top, .top, .top, .top, .top, .top, .top, .top, .top, .top, .top, .top, .top, .top, .top, .top, .top, .top, .top, .top, .top, .top, .top, .top, .top, .top, .top, .top, .top, .top, .top, .top, .top, .top, .top, .top, .top, .top, .top], [none, none], h⟩
def jacquardref2_Check_x4_5 (s0 : List Cell) (h : AHeap) : St := ⟨[.top, .loc 0 0, .top, .top, .top, .top, .top, .top, .top, .top, .top, .top, .top, .top, .top, .top, .top, .top, .top, .top, .top, .top, .top, .top, .top, .top, .top, .top, .top, .top, .top, .top, .top, .top, .top, .top, .top, .top, .top, .top, .top, .top, .top, .top, .top, .top, .top, .top, .top, .top, .top, .top, .top, .top, .top, .top, .top, .top, .top, .top, .top, .top, .top, .top, .top, .top, .top, .top, .top, .top, .top, .top, .top, .top, .top, .top, .top, .top, .top, .top, .top, .top, .top, .top, .top, .top, .top, .top, .top, .top, .top, .top, .top, .top, .top, .top, .top, .top, .top, .top, .top, .top, .top, .top, .top, .top, .top, .top, .top, .top, .top, .top, .top, .top, .top, .top, .top, .top, .top, .top, .top, .top, .top, .top, .top, .top, .top, .top, .top, .top, .top, .top, .top, .top, .top, .top, .top, .top, .top, .top, .top, .top, .top, .top, .top, .top, .top, .top, .top, .top, .top, .top, .top, .top, .top, .top, .top, .top, .top, .top, .top, .top, .top, .top, .top, .top, .top, .top, .top, .top, .top, .top, .top, .top, .top, .top, .top, .top, .top, .top, .top, .top, .top, .top, .top, .top, .top, .top, .top, .top, .top, .top, .top, .top, .top, .top, .top, .top, .top, .top, .top, .top, .top, .top], [some s0, none], h⟩
def jacquardref2_Check_k11 (C : CallF) (L : LoopF) (G : Glo) (h0 : AHeap) : Ex → St → Option (List AV × AHeap) :=
  kSeq (fun st => jacquardref2_Check_p5.exec C L G st (jacquardref2_Check.fin G h0)) (jacquardref2_Check.fin G h0)
def jacquardref2_Check_k12 (C : CallF) (L : LoopF) (G : Glo) (h0 : AHeap) : Ex → St → Option (List AV × AHeap) :=
  kBlk 8 (jacquardref2_Check_k11 C L G h0)
def jacquardref2_Check_s6 (a9 : Int) (s0 : List Cell) (h : AHeap) : St := ⟨[.top, .loc 0 0, .top, .top, .top, .top, .top, .top, .top, .v (.c (.int .i64 a9)), .top, .top, .top, .top, .top, .top, .top, .top, .top, .top, .top, .top, .top, .top, .top, .top, .top, .top, .top, .top, .top, .top, .top, .top, .top, .top, .top, .top, .top, .top, .top, .top, .top, .top, .top, .top, .top, .top, .top, .top, .top, .top, .top, .top, .top, .top, .top, .top, .top, .top, .top, .top, .top, .top, .top, .top, .top, .top, .top, .top, .top, .top, .top, .top, .top, .top, .top, .top, .top, .top, .top, .top, .top, .top, .top, .top, .top, .top, .top, .top, .top, .top, .top, .top, .top, .top, .top, .top, .top, .top, .top, .top, .top, .top, .top, .top, .top, .top, .top, .top, .top, .top, .top, .top, .top, .top, .top, .top, .top, .top, .top, .top, .top, .top, .top, .top, .top, .top, .top, .top, .top, .top, .top, .top, .top, .top, .top, .top, .top, .top, .top, .top, .top, .top, .top, .top, .top, .top, .top, .top, .top, .top, .top, .top, .top, .top, .top, .top, .top, .top, .top, .top, .top, .top, .top, .top, .top, .top, .top, .top, .top, .top, .top, .top, .top, .top, .top, .top, .top, .top, .top, .top, .top, .top, .top, .top, .top, .top, .top, .top, .top, .top, .top, .top, .top, .top, .top, .top, .top, .top, .top, .top, .top, .top], [some s0, none], h⟩
def jacquardref2_Check_F6 (C : CallF) (L : LoopF) (G : Glo) : St → Option (Ex × St) :=
  roundF (fun st f => jacquardref2_Check_b6.exec C L G st f) [1, 9] [0] [(0, [2], []), (9, [1], [0])]
def jacquardref2_Check_k13 (C : CallF) (L : LoopF) (G : Glo) : Ex → St → Option (Ex × St) :=
  kSeq (fun st => jacquardref2_Check_p6.exec C L G st (kLoop [1, 9] [0] [(0, [2], []), (9, [1], [0])])) (kLoop [1, 9] [0] [(0, [2], []), (9, [1], [0])])
def jacquardref2_Check_k14 (C : CallF) (L : LoopF) (G : Glo) : Ex → St → Option (Ex × St) :=
  kBlk 9 (jacquardref2_Check_k13 C L G)
def jacquardref2_Check_k15 (C : CallF) (L : LoopF) (G : Glo) : Ex → St → Option (Ex × St) :=
  kBlk 10 (jacquardref2_Check_k14 C L G)
def jacquardref2_Check_s5 (a9 : Int) (a10 : Int) (s0 : List Cell) (h : AHeap) : St := ⟨[.top, .loc 0 0, .top, .top, .top, .top, .top, .top, .top, .v (.c (.int .i64 a9)), .v (.c (.int .i64 a10)), .top, .top, .top, .top, .top, .top, .top, .top, .top, .top, .top, .top, .top, .top, .top, .top, .top, .top, .top, .top, .top, .top, .top, .top, .top, .top, .top, .top, .top, .top, .top, .top, .top, .top, .top, .top, .top, .top, .top, .top, .top, .top, .top, .top, .top, .top, .top, .top, .top, .top, .top, .top, .top, .top, .top, .top, .top, .top, .top, .top, .top, .top, .top, .top, .top, .top, .top, .top, .top, .top, .top, .top, .top, .top, .top, .top, .top, .top, .top, .top, .top, .top, .top, .top, .top, .top, .top, .top, .top, .top, .top, .top, .top, .top, .top, .top, .top, .top, .top, .top, .top, .top, .top, .top, .top, .top, .top, .top, .top, .top, .top, .top, .top, .top, .top, .top, .top, .top, .top, .top, .top, .top, .top, .top, .top, .top, .top, .top, .top, .top, .top, .top, .top, .top, .top, .top, .top, .top, .top, .top, .top, .top, .top, .top, .top, .top, .top, .top, .top, .top, .top, .top, .top, .top, .top, .top, .top, .top, .top, .top, .top, .top, .top, .top, .top, .top, .top, .top, .top, .top, .top, .top, .top, .top, .top, .top, .top, .top, .top, .top, .top, .top, .top, .top, .top, .top, .top, .top, .top, .top, .top, .top, .top], [some s0, none], h⟩
def jacquardref2_Check_F5 (C : CallF) (L : LoopF) (G : Glo) : St → Option (Ex × St) :=
  roundF (fun st f => jacquardref2_Check_b5.exec C L G st f) [1, 9, 10] [0] [(0, [2], []), (11, [1, 9], [0])]
def jacquardref2_Check_x5_0 (a2 : Int) (h : AHeap) : St := ⟨[.top, .top, .v (.c (.int .i64 a2)), .top, .top, .top, .top, .top, .top, .top, .top, .top, .top, .top, .top, .top, .top, .top, .top, .top, .top, .top, .top, .top, .top, .top, .top, .top, .top, .top, .top, .top, .top, .top, .top, .top, .top, .top, .top, .top, .top, .top, .top, .top, .top, .top, .top, .top, .top, .top, .top, .top, .top, .top, .top, .top, .top, .top, .top, .top, .top, .top, .top, .top, .top, .top, .top, .top, .top, .top, .top, .top, .top, .top, .top, .top, .top, .top, .top, .top, .top, .top, .top, .top, .top, .top, .top, .top, .top, .top, .top, .top, .top, .top, .top, .top, .top, .top, .top, .top, .top, .top, .top, .top, .top, .top, .top, .top, .top, .top, .top, .top, .top, .top, .top, .top, .top, .top, .top, .top, .top, .top, .top, .top, .top, .top, .top, .top, .top, .top, .top, .top, .top, .top, .top, .top, .top, .top, .top, .top, .top, .top, .top, .top, .top, .top, .top, .top, .top, .top, .top, .top, .top, .top, .top, .top, .top, .top, .top, .top, .top, .top, .top, .top, .top, .top, .top, .top, .top, .top, .top, .top, .top, .top, .top, .top, .top, .top, .top, .top, .top, .top, .top, .top, .top, .top, .top, .top, .top, .top, .top, .top, .top, .top, .top, .top, .top, .top, .top, .top, .top, .top, .top, .top], [none, none], h⟩
def jacquardref2_Check_x5_11 (a9 : Int) (s0 : List Cell) (h : AHeap) : St := ⟨[.top, .loc 0 0, .top, .top, .top, .top, .top, .top, .top, .v (.c (.int .i64 a9)), .top, .top, .top, .top, .top, .top, .top, .top, .top, .top, .top, .top, .top, .top, .top, .top, .top, .top, .top, .top, .top, .top, .top, .top, .top, .top, .top, .top, .top, .top, .top, .top, .top, .top, .top, .top, .top, .top, .top, .top, .top, .top, .top, .top, .top, .top, .top, .top, .top, .top, .top, .top, .top, .top, .top, .top, .top, .top, .top, .top, .top, .top, .top, .top, .top, .top, .top, .top, .top, .top, .top, .top, .top, .top, .top, .top, .top, .top, .top, .top, .top, .top, .top, .top, .top, .top, .top, .top, .top, .top, .top, .top, .top, .top, .top, .top, .top, .top, .top, .top, .top, .top, .top, .top, .top, .top, .top, .top, .top, .top, .top, .top, .top, .top, .top, .top, .top, .top, .top, .top, .top, .top, .top, .top, .top, .top, .top, .top, .top, .top, .top, .top, .top, .top, .top, .top, .top, .top, .top, .top, .top, .top, .top, .top, .top, .top, .top, .top, .top, .top, .top, .top, .top, .top, .top, .top, .top, .top, .top, .top, .top, .top, .top, .top, .top, .top, .top, .top, .top, .top, .top, .top, .top, .top, .top, .top, .top, .top, .top, .top, .top, .top, .top, .top, .top, .top, .top, .top, .top, .top, .top, .top, .top, .top], [some s0, none], h⟩
def jacquardref2_Check_x6_0 (a2 : Int) (h : AHeap) : St := ⟨[.top, .top, .v (.c (.int .i64 a2)), .top, .top, .top, .top, .top, .top, .top, .top, .top, .top, .top, .top, .top, .top, .top, .top, .top, .top, .top, .top, .top, .top, .top, .top, .top, .top, .top, .top, .top, .top, .top, .top, .top, .top, .top, .top, .top, .top, .top, .top, .top, .top, .top, .top, .top, .top, .top, .top, .top, .top, .top, .top, .top, .top, .top, .top, .top, .top, .top, .top, .top, .top, .top, .top, .top, .top, .top, .top, .top, .top, .top, .top, .top, .top, .top, .top, .top, .top, .top, .top, .top, .top, .top, .top, .top, .top, .top, .top, .top, .top, .top, .top, .top, .top, .top, .top, .top, .top, .top, .top, .top, .top, .top, .top, .top, .top, .top, .top, .top, .top, .top, .top, .top, .top, .top, .top, .top, .top, .top, .top, .top, .top, .top, .top, .top, .top, .top, .top, .top, .top, .top, .top, .top, .top, .top, .top, .top, .top, .top, .top, .top, .top, .top, .top, .top, .top, .top, .top, .top, .top, .top, .top, .top, .top, .top, .top, .top, .top, .top, .top, .top, .top, .top, .top, .top, .top, .top, .top, .top, .top, .top, .top, .top, .top, .top, .top, .top, .top, .top, .top, .top, .top, .top, .top, .top, .top, .top, .top, .top, .top, .top, .top, .top, .top, .top, .top, .top, .top, .top, .top, .top], [none, none], h⟩
def jacquardref2_Check_x6_9 (s0 : List Cell) (h : AHeap) : St := ⟨[.top, .loc 0 0, .top, .top, .top, .top, .top, .top, .top, .top, .top, .top, .top, .top, .top, .top, .top, .top, .top, .top, .top, .top, .top, .top, .top, .top, .top, .top, .top, .top, .top, .top, .top, .top, .top, .top, .top, .top, .top, .top, .top, .top, .top, .top, .top, .top, .top, .top, .top, .top, .top, .top, .top, .top, .top, .top, .top, .top, .top, .top, .top, .top, .top, .top, .top, .top, .top, .top, .top, .top, .top, .top, .top, .top, .top, .top, .top, .top, .top, .top, .top, .top, .top, .top, .top, .top, .top, .top, .top, .top, .top, .top, .top, .top, .top, .top, .top, .top, .top, .top, .top, .top, .top, .top, .top, .top, .top, .top, .top, .top, .top, .top, .top, .top, .top, .top, .top, .top, .top, .top, .top, .top, .top, .top, .top, .top, .top, .top, .top, .top, .top, .top, .top, .top, .top, .top, .top, .top, .top, .top, .top, .top, .top, .top, .top, .top, .top, .top, .top, .top, .top, .top, .top, .top, .top, .top, .top, .top, .top, .top, .top, .top, .top, .top, .top, .top, .top, .top, .top, .top, .top, .top, .top, .top, .top, .top, .top, .top, .top, .top, .top, .top, .top, .top, .top, .top, .top, .top, .top, .top, .top, .top, .top, .top, .top, .top, .top, .top, .top, .top, .top, .top, .top, .top], [some s0, none], h⟩
def jacquardref2_Check_k16 (C : CallF) (L : LoopF) (G : Glo) (h0 : AHeap) : Ex → St → Option (List AV × AHeap) :=
  kSeq (fun st => jacquardref2_Check_p7.exec C L G st (jacquardref2_Check.fin G h0)) (jacquardref2_Check.fin G h0)
def jacquardref2_Check_k17 (C : CallF) (L : LoopF) (G : Glo) (h0 : AHeap) : Ex → St → Option (List AV × AHeap) :=
  kBlk 12 (jacquardref2_Check_k16 C L G h0)
def jacquardref2_Check_s8 (a12 : Int) (s0 : List Cell) (h : AHeap) : St := ⟨[.top, .loc 0 0, .top, .top, .top, .top, .top, .top, .top, .top, .top, .top, .v (.c (.int .i64 a12)), .top, .top, .top, .top, .top, .top, .top, .top, .top, .top, .top, .top, .top, .top, .top, .top, .top, .top, .top, .top, .top, .top, .top, .top, .top, .top, .top, .top, .top, .top, .top, .top, .top, .top, .top, .top, .top, .top, .top, .top, .top, .top, .top, .top, .top, .top, .top, .top, .top, .top, .top, .top, .top, .top, .top, .top, .top, .top, .top, .top, .top, .top, .top, .top, .top, .top, .top, .top, .top, .top, .top, .top, .top, .top, .top, .top, .top, .top, .top, .top, .top, .top, .top, .top, .top, .top, .top, .top, .top, .top, .top, .top, .top, .top, .top, .top, .top, .top, .top, .top, .top, .top, .top, .top, .top, .top, .top, .top, .top, .top, .top, .top, .top, .top, .top, .top, .top, .top, .top, .top, .top, .top, .top, .top, .top, .top, .top, .top, .top, .top, .top, .top, .top, .top, .top, .top, .top, .top, .top, .top, .top, .top, .top, .top, .top, .top, .top, .top, .top, .top, .top, .top, .top, .top, .top, .top, .top, .top, .top, .top, .top, .top, .top, .top, .top, .top, .top, .top, .top, .top, .top, .top, .top, .top, .top, .top, .top, .top, .top, .top, .top, .top, .top, .top, .top, .top, .top, .top, .top, .top, .top], [some s0, none], h⟩
def jacquardref2_Check_F8 (C : CallF) (L : LoopF) (G : Glo) : St → Option (Ex × St) :=
  roundF (fun st f => jacquardref2_Check_b8.exec C L G st f) [1, 12] [0] [(0, [2], []), (13, [], [])]
def jacquardref2_Check_k18 (C : CallF) (L : LoopF) (G : Glo) : Ex → St → Option (Ex × St) :=
  kSeq (fun st => jacquardref2_Check_p8.exec C L G st (kLoop [1, 12] [0] [(0, [2], []), (13, [], [])])) (kLoop [1, 12] [0] [(0, [2], []), (13, [], [])])
def jacquardref2_Check_k19 (C : CallF) (L : LoopF) (G : Glo) : Ex → St → Option (Ex × St) :=
  kBlk 13 (jacquardref2_Check_k18 C L G)
def jacquardref2_Check_k20 (C : CallF) (L : LoopF) (G : Glo) : Ex → St → Option (Ex × St) :=
  kBlk 14 (jacquardref2_Check_k19 C L G)
def jacquardref2_Check_s7 (a12 : Int) (a13 : Int) (s0 : List Cell) (h : AHeap) : St := ⟨[.top, .loc 0 0, .top, .top, .top, .top, .top, .top, .top, .top, .top, .top, .v (.c (.int .i64 a12)), .v (.c (.int .i64 a13)), .top, .top, .top, .top, .top, .top, .top, .top, .top, .top, .top, .top, .top, .top, .top, .top, .top, .top, .top, .top, .top, .top, .top, .top, .top, .top, .top, .top, .top, .top, .top, .top, .top, .top, .top, .top, .top, .top, .top, .top, .top, .top, .top, .top, .top, .top, .top, .top, .top, .top, .top, .top, .top, .top, .top, .top, .top, .top, .top, .top, .top, .top, .top, .top, .top, .top, .top, .top, .top, .top, .top, .top, .top, .top, .top, .top, .top, .top, .top, .top, .top, .top, .top, .top, .top, .top, .top, .top, .top, .top, .top, .top, .top, .top, .top, .top, .top, .top, .top, .top, .top, .top, .top, .top, .top, .top, .top, .top, .top, .top, .top, .top, .top, .top, .top, .top, .top, .top, .top, .top, .top, .top, .top, .top, .top, .top, .top, .top, .top, .top, .top, .top, .top, .top, .top, .top, .top, .top, .top, .top, .top, .top, .top, .top, .top, .top, .top, .top, .top, .top, .top, .top, .top, .top, .top, .top, .top, .top, .top, .top, .top, .top, .top, .top, .top, .top, .top, .top, .top, .top, .top, .top, .top, .top, .top, .top, .top, .top, .top, .top, .top, .top, .top, .top, .top, .top, .top, .top, .top, .top], [some s0, none], h⟩
def jacquardref2_Check_F7 (C : CallF) (L : LoopF) (G : Glo) : St → Option (Ex × St) :=
  roundF (fun st f => jacquardref2_Check_b7.exec C L G st f) [1, 12, 13] [0] [(0, [2], []), (15, [1, 12], [0])]
def jacquardref2_Check_x7_0 (a2 : Int) (h : AHeap) : St := ⟨[.top, .top, .v (.c (.int .i64 a2)), .top, .top, .top, .top, .top, .top, .top, .top, .top, .top, .top, .top, .top, .top, .top, .top, .top, .top, .top, .top, .top, .top, .top, .top, .top, .top, .top, .top, .top, .top, .top, .top, .top, .top, .top, .top, .top, .top, .top, .top, .top, .top, .top, .top, .top, .top, .top, .top, .top, .top, .top, .top, .top, .top, .top, .top, .top, .top, .top, .top, .top, .top, .top, .top, .top, .top, .top, .top, .top, .top, .top, .top, .top, .top, .top, .top, .top, .top, .top, .top, .top, .top, .top, .top, .top, .top, .top, .top, .top, .top, .top, .top, .top, .top, .top, .top, .top, .top, .top, .top, .top, .top, .top, .top, .top, .top, .top, .top, .top, .top, .top, .top, .top, .top, .top, .top, .top, .top, .top, .top, .top, .top, .top, .top, .top, .top, .top, .top, .top, .top, .top, .top, .top, .top, .top, .top, .top, .top, .top, .top, .top, .top, .top, .top, .top, .top, .top, .top, .top, .top, .top, .top, .top, .top, .top, .top, .top, .top, .top, .top, .top, .top, .top, .top, .top, .top, .top, .top, .top, .top, .top, .top, .top, .top, .top, .top, .top, .top, .top, .top, .top, .top, .top, .top, .top, .top, .top, .top, .top, .top, .top, .top, .top, .top, .top, .top, .top, .top, .top, .top, .top], [none, none], h⟩
def jacquardref2_Check_x7_15 (a12 : Int) (s0 : List Cell) (h : AHeap) : St := ⟨[.top, .loc 0 0, .top, .top, .top, .top, .top, .top, .top, .top, .top, .top, .v (.c (.int .i64 a12)), .top, .top, .top, .top, .top, .top, .top, .top, .top, .top, .top, .top, .top, .top, .top, .top, .top, .top, .top, .top, .top, .top, .top, .top, .top, .top, .top, .top, .top, .top, .top, .top, .top, .top, .top, .top, .top, .top, .top, .top, .top, .top, .top, .top, .top, .top, .top, .top, .top, .top, .top, .top, .top, .top, .top, .top, .top, .top, .top, .top, .top, .top, .top, .top, .top, .top, .top, .top, .top, .top, .top, .top, .top, .top, .top, .top, .top, .top, .top, .top, .top, .top, .top, .top, .top, .top, .top, .top, .top, .top, .top, .top, .top, .top, .top, .top, .top, .top, .top, .top, .top, .top, .top, .top, .top, .top, .top, .top, .top, .top, .top, .top, .top, .top, .top, .top, .top, .top, .top, .top, .top, .top, .top, .top, .top, .top, .top, .top, .top, .top, .top, .top, .top, .top, .top, .top, .top, .top, .top, .top, .top, .top, .top, .top, .top, .top, .top, .top, .top, .top, .top, .top, .top, .top, .top, .top, .top, .top, .top, .top, .top, .top, .top, .top, .top, .top, .top, .top, .top, .top, .top, .top, .top, .top, .top, .top, .top, .top, .top, .top, .top, .top, .top, .top, .top, .top, .top, .top, .top, .top, .top], [some s0, none], h⟩
def jacquardref2_Check_x8_0 (a2 : Int) (h : AHeap) : St := ⟨[.top, .top, .v (.c (.int .i64 a2)), .top, .top, .top, .top, .top, .top, .top, .top, .top, .top, .top, .top, .top, .top, .top, .top, .top, .top, .top, .top, .top, .top, .top, .top, .top, .top, .top, .top, .top, .top, .top, .top, .top, .top, .top, .top, .top, .top, .top, .top, .top, .top, .top, .top, .top, .top, .top, .top, .top, .top, .top, .top, .top, .top, .top, .top, .top, .top, .top, .top, .top, .top, .top, .top, .top, .top, .top, .top, .top, .top, .top, .top, .top, .top, .top, .top, .top, .top, .top, .top, .top, .top, .top, .top, .top, .top, .top, .top, .top, .top, .top, .top, .top, .top, .top, .top, .top, .top, .top, .top, .top, .top, .top, .top, .top, .top, .top, .top, .top, .top, .top, .top, .top, .top, .top, .top, .top, .top, .top, .top, .top, .top, .top, .top, .top, .top, .top, .top, .top, .top, .top, .top, .top, .top, .top, .top, .top, .top, .top, .top, .top, .top, .top, .top, .top, .top, .top, .top, .top, .top, .top, .top, .top, .top, .top, .top, .top, .top, .top, .top, .top, .top, .top, .top, .top, .top, .top, .top, .top, .top, .top, .top, .top, .top, .top, .top, .top, .top, .top, .top, .top, .top, .top, .top, .top, .top, .top, .top, .top, .top, .top, .top, .top, .top, .top, .top, .top, .top, .top, .top, .top], [none, none], h⟩
def jacquardref2_Check_x8_13 (h : AHeap) : St := ⟨[.top, .top, .top, .top, .top, .top, .top, .top, .top, .top, .top, .top, .top, .top, .top, .top, .top, .top, .top, .top, .top, .top, .top, .top, .top, .top, .top, .top, .top, .top, .top, .top, .top, .top, .top, .top, .top, .top, .top, .top, .top, .top, .top, .top, .top, .top, .top, .top, .top, .top, .top, .top, .top, .top, .top, .top, .top, .top, .top, .top, .top, .top, .top, .top, .top, .top, .top, .top, .top, .top, .top, .top, .top, .top, .top, .top, .top, .top, .top, .top, .top, .top, .top, .top, .top, .top, .top, .top, .top, .top, .top, .top, .top, .top, .top, .top, .top, .top, .top, .top, .top, .top, .top, .top, .top, .top, .top, .top, .top, .top, .top, .top, .top, .top, .top, .top, .top, .top, .top, .top, .top, .top, .top, .top, .top, .top, .top, .top, .top, .top, .top, .top, .top, .top, .top, .top, .top, .top, .top, .top, .top, .top, .top, .top, .top, .top, .top, .top, .top, .top, .top, .top, .top, .top, .top, .top, .top, .top, .top, .top, .top, .top, .top, .top, .top, .top, .top, .top, .top, .top, .top, .top, .top, .top, .top, .top, .top, .top, .top, .top, .top, .top, .top, .top, .top, .top, .top, .top, .top, .top, .top, .top, .top, .top, .top, .top, .top, .top, .top, .top, .top, .top, .top, .top], [none, none], h⟩
theorem jacquardref2_Check_r1 (C : CallF) (L : LoopF) (G : Glo) (a3 : Int) (b4 : Bool) (a5 : Int) (s0 : List Cell) (h : AHeap) :
    jacquardref2_Check_F1 C L G (jacquardref2_Check_s1 a3 b4 a5 s0 h) =
    atK s0 2 fun q_25 => lenK q_25 fun n_26 => scK (decide (a5 < n_26)) true (some ((decide (a5 < 5)), h)) false h fun b_27 h_28 => if b_27 = true then scK b4 false (atK s0 2 fun q_29 => idxSK 1 q_29 a5 fun k_30 N_31 o_32 => rdH h_28 k_30 N_31 fun l_33 => atK l_33 o_32 fun q_34 => lenK q_34 fun n_35 => some ((decide (n_35 > 10)), h_28)) true h_28 fun b_36 h_37 => atK s0 2 fun q_38 => idxSK 1 q_38 a5 fun k_39 N_40 o_41 => rdH h_37 k_39 N_40 fun l_42 => atK l_42 o_41 fun q_43 => lenK q_43 fun n_44 => let v_45 : Int := (G.wrap .i64 (a3 + (if 100 < n_44 then 100 else n_44))); some (.normal, (jacquardref2_Check_s1 v_45 b_36 (G.wrap .i64 (a5 + 1)) s0 h_37)) else some ((.exit 0), (jacquardref2_Check_x1_1 a3 b4 s0 h_28)) := by kernel_rfl
theorem jacquardref2_Check_r2 (C : CallF) (L : LoopF) (G : Glo) (a3 : Int) (b4 : Bool) (a6 : Int) (s0 : List Cell) (h : AHeap) :
    jacquardref2_Check_F2 C L G (jacquardref2_Check_s2 a3 b4 a6 s0 h) =
    atK s0 4 fun q_46 => lenK q_46 fun n_47 => if (decide (a6 < n_47)) = true then scK b4 false (atK s0 4 fun q_48 => idxSK 1 q_48 a6 fun k_49 N_50 o_51 => rdH h k_49 N_50 fun l_52 => atK l_52 o_51 fun q_53 => lenK q_53 fun n_54 => some ((decide (n_54 > 8)), h)) true h fun b_55 h_56 => some (.normal, (jacquardref2_Check_s2 a3 b_55 (G.wrap .i64 (a6 + 1)) s0 h_56)) else some ((.exit 2), (jacquardref2_Check_x2_3 a3 b4 s0 h)) := by kernel_rfl
theorem jacquardref2_Check_r3 (C : CallF) (L : LoopF) (G : Glo) (a7 : Int) (a8 : Int) (s0 : List Cell) (h : AHeap) :
    jacquardref2_Check_F3 C L G (jacquardref2_Check_s3 a7 a8 s0 h) =
    if (decide (a8 < a7)) = true then atK s0 1 fun q_61 => idxSK 2 q_61 a7 fun k_62 N_63 o_64 => rdH h k_62 N_63 fun l_65 => atK l_65 (o_64 + 0) fun q_66 => asI .i64 (.c q_66) fun n_67 => atK s0 1 fun q_68 => idxSK 2 q_68 a8 fun k_69 N_70 o_71 => rdH h k_69 N_70 fun l_72 => atK l_72 (o_71 + 0) fun q_73 => asI .i64 (.c q_73) fun n_74 => if (n_67 == n_74) = true then some (.ret, (jacquardref2_Check_x3_0 9 h)) else some (.normal, (jacquardref2_Check_s3 a7 (G.wrap .i64 (a8 + 1)) s0 h)) else some ((.exit 6), (jacquardref2_Check_x3_7 a7 s0 h)) := by kernel_rfl
theorem jacquardref2_Check_e3_0 (C : CallF) (L : LoopF) (G : Glo) (a2 : Int) (h : AHeap) :
    (jacquardref2_Check_k10 C L G) .ret (jacquardref2_Check_x3_0 a2 h) =
    some (.ret, (jacquardref2_Check_x4_0 a2 h)) := by kernel_rfl
theorem jacquardref2_Check_e3_7 (C : CallF) (L : LoopF) (G : Glo) (a7 : Int) (s0 : List Cell) (h : AHeap) :
    (jacquardref2_Check_k10 C L G) (.exit 6) (jacquardref2_Check_x3_7 a7 s0 h) =
    some (.normal, (jacquardref2_Check_s4 (G.wrap .i64 (a7 + 1)) s0 h)) := by kernel_rfl
theorem jacquardref2_Check_r4 (C : CallF) (L : LoopF) (G : Glo) (a7 : Int) (s0 : List Cell) (h : AHeap) :
    jacquardref2_Check_F4 C L G (jacquardref2_Check_s4 a7 s0 h) =
    atK s0 1 fun q_59 => lenK q_59 fun n_60 => if (decide (a7 < n_60)) = true then (L (jacquardref2_Check_F3 C L G) (jacquardref2_Check_s3 a7 0 s0 h)).bind fun p_75 => (jacquardref2_Check_k10 C L G) p_75.1 p_75.2 else some ((.exit 4), (jacquardref2_Check_x4_5 s0 h)) := by kernel_rfl
theorem jacquardref2_Check_e4_0 (C : CallF) (L : LoopF) (G : Glo) (h0 : AHeap) (a2 : Int) (h : AHeap) :
    (jacquardref2_Check_k7 C L G h0) .ret (jacquardref2_Check_x4_0 a2 h) =
    some ([(.c (.int .i64 a2))], h) := by kernel_rfl
theorem jacquardref2_Check_r5 (C : CallF) (L : LoopF) (G : Glo) (a9 : Int) (a10 : Int) (s0 : List Cell) (h : AHeap) :
    jacquardref2_Check_F5 C L G (jacquardref2_Check_s5 a9 a10 s0 h) =
    atK s0 2 fun q_78 => idxSK 1 q_78 a9 fun k_79 N_80 o_81 => rdH h k_79 N_80 fun l_82 => atK l_82 o_81 fun q_83 => lenK q_83 fun n_84 => if (decide (a10 < n_84)) = true then atK s0 2 fun q_85 => idxSK 1 q_85 a9 fun k_86 N_87 o_88 => rdH h k_86 N_87 fun l_89 => atK l_89 o_88 fun q_90 => idxSK 9 q_90 a10 fun k_91 N_92 o_93 => rdH h k_91 N_92 fun l_94 => if o_93 + 9 ≤ l_94.length then if 0 = 0 ∧ (List.replicate 9 (Cell.int .i64 0)).length = 9 ∧ ((l_94.drop o_93).take 9).length = 9 then atK ((l_94.drop o_93).take 9) 0 fun q_95 => asI .i64 (.c q_95) fun n_96 => scK (n_96 == 6) true (atK ((l_94.drop o_93).take 9) 8 fun q_97 => asI .i64 (.c q_97) fun n_98 => scK (n_98 == 0) false (atK ((l_94.drop o_93).take 9) 8 fun q_99 => asI .i64 (.c q_99) fun n_100 => atK s0 2 fun q_101 => idxSK 1 q_101 a9 fun k_102 N_103 o_104 => rdH h k_102 N_103 fun l_105 => atK l_105 o_104 fun q_106 => lenK q_106 fun n_107 => some ((decide (n_100 ≥ (G.wrap .i64 (n_107 - a10)))), h)) true h fun b_108 h_109 => some (b_108, h_109)) false h fun b_110 h_111 => if b_110 = true then some (.ret, (jacquardref2_Check_x5_0 10 h_111)) else some (.normal, (jacquardref2_Check_s5 a9 (G.wrap .i64 (a10 + 1)) s0 h_111)) else none else none else some ((.exit 10), (jacquardref2_Check_x5_11 a9 s0 h)) := by kernel_rfl
theorem jacquardref2_Check_e5_0 (C : CallF) (L : LoopF) (G : Glo) (a2 : Int) (h : AHeap) :
    (jacquardref2_Check_k15 C L G) .ret (jacquardref2_Check_x5_0 a2 h) =
    some (.ret, (jacquardref2_Check_x6_0 a2 h)) := by kernel_rfl
theorem jacquardref2_Check_e5_11 (C : CallF) (L : LoopF) (G : Glo) (a9 : Int) (s0 : List Cell) (h : AHeap) :
    (jacquardref2_Check_k15 C L G) (.exit 10) (jacquardref2_Check_x5_11 a9 s0 h) =
    some (.normal, (jacquardref2_Check_s6 (G.wrap .i64 (a9 + 1)) s0 h)) := by kernel_rfl
theorem jacquardref2_Check_r6 (C : CallF) (L : LoopF) (G : Glo) (a9 : Int) (s0 : List Cell) (h : AHeap) :
    jacquardref2_Check_F6 C L G (jacquardref2_Check_s6 a9 s0 h) =
    atK s0 2 fun q_76 => lenK q_76 fun n_77 => if (decide (a9 < n_77)) = true then (L (jacquardref2_Check_F5 C L G) (jacquardref2_Check_s5 a9 0 s0 h)).bind fun p_112 => (jacquardref2_Check_k15 C L G) p_112.1 p_112.2 else some ((.exit 8), (jacquardref2_Check_x6_9 s0 h)) := by kernel_rfl
theorem jacquardref2_Check_e6_0 (C : CallF) (L : LoopF) (G : Glo) (h0 : AHeap) (a2 : Int) (h : AHeap) :
    (jacquardref2_Check_k12 C L G h0) .ret (jacquardref2_Check_x6_0 a2 h) =
    some ([(.c (.int .i64 a2))], h) := by kernel_rfl
theorem jacquardref2_Check_r7 (C : CallF) (L : LoopF) (G : Glo) (a12 : Int) (a13 : Int) (s0 : List Cell) (h : AHeap) :
    jacquardref2_Check_F7 C L G (jacquardref2_Check_s7 a12 a13 s0 h) =
    atK s0 4 fun q_115 => idxSK 1 q_115 a12 fun k_116 N_117 o_118 => rdH h k_116 N_117 fun l_119 => atK l_119 o_118 fun q_120 => lenK q_120 fun n_121 => if (decide (a13 < n_121)) = true then atK s0 4 fun q_122 => idxSK 1 q_122 a12 fun k_123 N_124 o_125 => rdH h k_123 N_124 fun l_126 => atK l_126 o_125 fun q_127 => idxSK 4 q_127 a13 fun k_128 N_129 o_130 => rdH h k_128 N_129 fun l_131 => atK l_131 (o_130 + 0) fun q_132 => asI .i64 (.c q_132) fun n_133 => atK s0 2 fun q_134 => lenK q_134 fun n_135 => if (decide (n_133 ≥ n_135)) = true then some (.ret, (jacquardref2_Check_x7_0 10 h)) else some (.normal, (jacquardref2_Check_s7 a12 (G.wrap .i64 (a13 + 1)) s0 h)) else some ((.exit 14), (jacquardref2_Check_x7_15 a12 s0 h)) := by kernel_rfl
theorem jacquardref2_Check_e7_0 (C : CallF) (L : LoopF) (G : Glo) (a2 : Int) (h : AHeap) :
    (jacquardref2_Check_k20 C L G) .ret (jacquardref2_Check_x7_0 a2 h) =
    some (.ret, (jacquardref2_Check_x8_0 a2 h)) := by kernel_rfl
theorem jacquardref2_Check_e7_15 (C : CallF) (L : LoopF) (G : Glo) (a12 : Int) (s0 : List Cell) (h : AHeap) :
    (jacquardref2_Check_k20 C L G) (.exit 14) (jacquardref2_Check_x7_15 a12 s0 h) =
    some (.normal, (jacquardref2_Check_s8 (G.wrap .i64 (a12 + 1)) s0 h)) := by kernel_rfl
theorem jacquardref2_Check_r8 (C : CallF) (L : LoopF) (G : Glo) (a12 : Int) (s0 : List Cell) (h : AHeap) :
    jacquardref2_Check_F8 C L G (jacquardref2_Check_s8 a12 s0 h) =
    atK s0 4 fun q_113 => lenK q_113 fun n_114 => if (decide (a12 < n_114)) = true then (L (jacquardref2_Check_F7 C L G) (jacquardref2_Check_s7 a12 0 s0 h)).bind fun p_136 => (jacquardref2_Check_k20 C L G) p_136.1 p_136.2 else some ((.exit 12), (jacquardref2_Check_x8_13 h)) := by kernel_rfl
theorem jacquardref2_Check_e8_0 (C : CallF) (L : LoopF) (G : Glo) (h0 : AHeap) (a2 : Int) (h : AHeap) :
    (jacquardref2_Check_k17 C L G h0) .ret (jacquardref2_Check_x8_0 a2 h) =
    some ([(.c (.int .i64 a2))], h) := by kernel_rfl
theorem jacquardref2_Check_e8_13 (C : CallF) (L : LoopF) (G : Glo) (h0 : AHeap) (h : AHeap) :
    (jacquardref2_Check_k17 C L G h0) (.exit 12) (jacquardref2_Check_x8_13 h) =
    some ([(.c (.int .i64 0))], h) := by kernel_rfl
theorem jacquardref2_Check_e6_9 (C : CallF) (L : LoopF) (G : Glo) (h0 : AHeap) (s0 : List Cell) (h : AHeap) :
    (jacquardref2_Check_k12 C L G h0) (.exit 8) (jacquardref2_Check_x6_9 s0 h) =
    (L (jacquardref2_Check_F8 C L G) (jacquardref2_Check_s8 0 s0 h)).bind fun p_137 => (jacquardref2_Check_k17 C L G h0) p_137.1 p_137.2 := by kernel_rfl
theorem jacquardref2_Check_e4_5 (C : CallF) (L : LoopF) (G : Glo) (h0 : AHeap) (s0 : List Cell) (h : AHeap) :
    (jacquardref2_Check_k7 C L G h0) (.exit 4) (jacquardref2_Check_x4_5 s0 h) =
    (L (jacquardref2_Check_F6 C L G) (jacquardref2_Check_s6 0 s0 h)).bind fun p_138 => (jacquardref2_Check_k12 C L G h0) p_138.1 p_138.2 := by kernel_rfl
theorem jacquardref2_Check_e2_3 (C : CallF) (L : LoopF) (G : Glo) (h0 : AHeap) (a3 : Int) (b4 : Bool) (s0 : List Cell) (h : AHeap) :
    (jacquardref2_Check_k5 C L G h0) (.exit 2) (jacquardref2_Check_x2_3 a3 b4 s0 h) =
    scK b4 false (some ((decide (a3 > 24)), h)) true h fun b_57 h_58 => if b_57 = true then some ([(.c (.int .i64 8))], h_58) else (L (jacquardref2_Check_F4 C L G) (jacquardref2_Check_s4 0 s0 h_58)).bind fun p_139 => (jacquardref2_Check_k7 C L G h0) p_139.1 p_139.2 := by kernel_rfl
theorem jacquardref2_Check_e1_1 (C : CallF) (L : LoopF) (G : Glo) (h0 : AHeap) (a3 : Int) (b4 : Bool) (s0 : List Cell) (h : AHeap) :
    (jacquardref2_Check_k3 C L G h0) (.exit 0) (jacquardref2_Check_x1_1 a3 b4 s0 h) =
    (L (jacquardref2_Check_F2 C L G) (jacquardref2_Check_s2 a3 b4 0 s0 h)).bind fun p_140 => (jacquardref2_Check_k5 C L G h0) p_140.1 p_140.2 := by kernel_rfl
set_option maxRecDepth 100000 in
theorem jacquardref2_Check_eq (C : CallF) (L : LoopF) (G : Glo) (l0 : List Cell) (h0 : AHeap) :
    jacquardref2_Check.body C L G [(.agg l0)] h0 =
    if 0 = 0 ∧ l0.length = 5 then c1 (C 120 [(.agg l0)] h0) fun y_2 h_1 => asB y_2 fun b_3 => if (!b_3) = true then some ([(.c (.int .i64 1))], h_1) else atK l0 2 fun q_4 => lenK q_4 fun n_5 => scK (decide (n_5 < 1)) false (atK l0 2 fun q_6 => lenK q_6 fun n_7 => some ((decide (n_7 > 4)), h_1)) true h_1 fun b_8 h_9 => scK b_8 false (atK l0 0 fun q_10 => asS (.c q_10) fun z_11 => lenSK (.str z_11) fun n_12 => some ((decide (n_12 > 20)), h_9)) true h_9 fun b_13 h_14 => scK b_13 false (atK l0 4 fun q_15 => lenK q_15 fun n_16 => some ((decide (n_16 > 8)), h_14)) true h_14 fun b_17 h_18 => scK b_17 false (if 0 = 0 ∧ l0.length = 5 then c1 (C 121 [(.agg l0)] h_18) fun y_20 h_19 => asC y_20 fun x_21 => lenK x_21 fun n_22 => some ((decide (n_22 > 4)), h_19) else none) true h_18 fun b_23 h_24 => (L (jacquardref2_Check_F1 C L G) (jacquardref2_Check_s1 0 b_23 0 l0 h_24)).bind fun p_141 => (jacquardref2_Check_k3 C L G h0) p_141.1 p_141.2 else none := by kernel_rfl

/- jacquard/jacquardref2.TestOk: 120 -/
def jacquardref2_TestOk_k2 (C : CallF) (L : LoopF) (G : Glo) (h0 : AHeap) : Ex → St → Option (List AV × AHeap) :=
  kSeq (fun st => jacquardref2_TestOk_p1.exec C L G st (jacquardref2_TestOk.fin G h0)) (jacquardref2_TestOk.fin G h0)
def jacquardref2_TestOk_k3 (C : CallF) (L : LoopF) (G : Glo) (h0 : AHeap) : Ex → St → Option (List AV × AHeap) :=
  kBlk 0 (jacquardref2_TestOk_k2 C L G h0)
def jacquardref2_TestOk_s1 (a3 : Int) (s0 : List Cell) (h : AHeap) : St := ⟨[.top, .loc 0 0, .top, .v (.c (.int .i64 a3)), .top, .top, .top, .top, .top, .top, .top, .top, .top, .top, .top, .top, .top, .top, .top, .top, .top, .top, .top, .top, .top, .top, .top, .top, .top, .top, .top, .top, .top, .top, .top, .top, .top, .top, .top, .top, .top, .top, .top, .top, .top, .top, .top, .top, .top, .top, .top, .top, .top, .top, .top, .top, .top, .top], [some s0], h⟩
def jacquardref2_TestOk_F1 (C : CallF) (L : LoopF) (G : Glo) : St → Option (Ex × St) :=
  roundF (fun st f => jacquardref2_TestOk_b1.exec C L G st f) [1, 3] [0] [(0, [2], []), (1, [1], [0])]
def jacquardref2_TestOk_x1_0 (b2 : Bool) (h : AHeap) : St := ⟨[.top, .top, .v (.c (.bool b2)), .top, .top, .top, .top, .top, .top, .top, .top, .top, .top, .top, .top, .top, .top, .top, .top, .top, .top, .top, .top, .top, .top, .top, .top, .top, .top, .top, .top, .top, .top, .top, .top, .top, .top, .top, .top, .top, .top, .top, .top, .top, .top, .top, .top, .top, .top, .top, .top, .top, .top, .top, .top, .top, .top, .top], [none], h⟩
def jacquardref2_TestOk_x1_1 (s0 : List Cell) (h : AHeap) : St := ⟨[.top, .loc 0 0, .top, .top, .top, .top, .top, .top, .top, .top, .top, .top, .top, .top, .top, .top, .top, .top, .top, .top, .top, .top, .top, .top, .top, .top, .top, .top, .top, .top, .top, .top, .top, .top, .top, .top, .top, .top, .top, .top, .top, .top, .top, .top, .top, .top, .top, .top, .top, .top, .top, .top, .top, .top, .top, .top, .top, .top], [some s0], h⟩
def jacquardref2_TestOk_k4 (C : CallF) (L : LoopF) (G : Glo) (h0 : AHeap) : Ex → St → Option (List AV × AHeap) :=
  kSeq (fun st => jacquardref2_TestOk_p2.exec C L G st (jacquardref2_TestOk.fin G h0)) (jacquardref2_TestOk.fin G h0)
def jacquardref2_TestOk_k5 (C : CallF) (L : LoopF) (G : Glo) (h0 : AHeap) : Ex → St → Option (List AV × AHeap) :=
  kBlk 2 (jacquardref2_TestOk_k4 C L G h0)
def jacquardref2_TestOk_s3 (a4 : Int) (s0 : List Cell) (h : AHeap) : St := ⟨[.top, .loc 0 0, .top, .top, .v (.c (.int .i64 a4)), .top, .top, .top, .top, .top, .top, .top, .top, .top, .top, .top, .top, .top, .top, .top, .top, .top, .top, .top, .top, .top, .top, .top, .top, .top, .top, .top, .top, .top, .top, .top, .top, .top, .top, .top, .top, .top, .top, .top, .top, .top, .top, .top, .top, .top, .top, .top, .top, .top, .top, .top, .top, .top], [some s0], h⟩
def jacquardref2_TestOk_F3 (C : CallF) (L : LoopF) (G : Glo) : St → Option (Ex × St) :=
  roundF (fun st f => jacquardref2_TestOk_b3.exec C L G st f) [1, 4] [0] [(0, [2], []), (3, [], [])]
def jacquardref2_TestOk_k6 (C : CallF) (L : LoopF) (G : Glo) : Ex → St → Option (Ex × St) :=
  kSeq (fun st => jacquardref2_TestOk_p3.exec C L G st (kLoop [1, 4] [0] [(0, [2], []), (3, [], [])])) (kLoop [1, 4] [0] [(0, [2], []), (3, [], [])])
def jacquardref2_TestOk_k7 (C : CallF) (L : LoopF) (G : Glo) : Ex → St → Option (Ex × St) :=
  kBlk 3 (jacquardref2_TestOk_k6 C L G)
def jacquardref2_TestOk_k8 (C : CallF) (L : LoopF) (G : Glo) : Ex → St → Option (Ex × St) :=
  kBlk 4 (jacquardref2_TestOk_k7 C L G)
def jacquardref2_TestOk_s2 (a4 : Int) (a5 : Int) (s0 : List Cell) (h : AHeap) : St := ⟨[.top, .loc 0 0, .top, .top, .v (.c (.int .i64 a4)), .v (.c (.int .i64 a5)), .top, .top, .top, .top, .top, .top, .top, .top, .top, .top, .top, .top, .top, .top, .top, .top, .top, .top, .top, .top, .top, .top, .top, .top, .top, .top, .top, .top, .top, .top, .top, .top, .top, .top, .top, .top, .top, .top, .top, .top, .top, .top, .top, .top, .top, .top, .top, .top, .top, .top, .top, .top], [some s0], h⟩
def jacquardref2_TestOk_F2 (C : CallF) (L : LoopF) (G : Glo) : St → Option (Ex × St) :=
  roundF (fun st f => jacquardref2_TestOk_b2.exec C L G st f) [1, 4, 5] [0] [(0, [2], []), (5, [1, 4], [0])]
def jacquardref2_TestOk_x2_0 (b2 : Bool) (h : AHeap) : St := ⟨[.top, .top, .v (.c (.bool b2)), .top, .top, .top, .top, .top, .top, .top, .top, .top, .top, .top, .top, .top, .top, .top, .top, .top, .top, .top, .top, .top, .top, .top, .top, .top, .top, .top, .top, .top, .top, .top, .top, .top, .top, .top, .top, .top, .top, .top, .top, .top, .top, .top, .top, .top, .top, .top, .top, .top, .top, .top, .top, .top, .top, .top], [none], h⟩
def jacquardref2_TestOk_x2_5 (a4 : Int) (s0 : List Cell) (h : AHeap) : St := ⟨[.top, .loc 0 0, .top, .top, .v (.c (.int .i64 a4)), .top, .top, .top, .top, .top, .top, .top, .top, .top, .top, .top, .top, .top, .top, .top, .top, .top, .top, .top, .top, .top, .top, .top, .top, .top, .top, .top, .top, .top, .top, .top, .top, .top, .top, .top, .top, .top, .top, .top, .top, .top, .top, .top, .top, .top, .top, .top, .top, .top, .top, .top, .top, .top], [some s0], h⟩
def jacquardref2_TestOk_x3_0 (b2 : Bool) (h : AHeap) : St := ⟨[.top, .top, .v (.c (.bool b2)), .top, .top, .top, .top, .top, .top, .top, .top, .top, .top, .top, .top, .top, .top, .top, .top, .top, .top, .top, .top, .top, .top, .top, .top, .top, .top, .top, .top, .top, .top, .top, .top, .top, .top, .top, .top, .top, .top, .top, .top, .top, .top, .top, .top, .top, .top, .top, .top, .top, .top, .top, .top, .top, .top, .top], [none], h⟩
def jacquardref2_TestOk_x3_3 (h : AHeap) : St := ⟨[.top, .top, .top, .top, .top, .top, .top, .top, .top, .top, .top, .top, .top, .top, .top, .top, .top, .top, .top, .top, .top, .top, .top, .top, .top, .top, .top, .top, .top, .top, .top, .top, .top, .top, .top, .top, .top, .top, .top, .top, .top, .top, .top, .top, .top, .top, .top, .top, .top, .top, .top, .top, .top, .top, .top, .top, .top, .top], [none], h⟩
theorem jacquardref2_TestOk_r1 (C : CallF) (L : LoopF) (G : Glo) (a3 : Int) (s0 : List Cell) (h : AHeap) :
    jacquardref2_TestOk_F1 C L G (jacquardref2_TestOk_s1 a3 s0 h) =
    atK s0 1 fun q_11 => lenK q_11 fun n_12 => if (decide (a3 < n_12)) = true then atK s0 1 fun q_13 => idxSK 2 q_13 a3 fun k_14 N_15 o_16 => rdH h k_14 N_15 fun l_17 => atK l_17 (o_16 + 0) fun q_18 => asI .i64 (.c q_18) fun n_19 => c1 (C 137 [(.c (.int .i64 n_19))] h) fun y_21 h_20 => asB y_21 fun b_22 => if (!b_22) = true then some (.ret, (jacquardref2_TestOk_x1_0 false h_20)) else some (.normal, (jacquardref2_TestOk_s1 (G.wrap .i64 (a3 + 1)) s0 h_20)) else some ((.exit 0), (jacquardref2_TestOk_x1_1 s0 h)) := by kernel_rfl
theorem jacquardref2_TestOk_e1_0 (C : CallF) (L : LoopF) (G : Glo) (h0 : AHeap) (b2 : Bool) (h : AHeap) :
    (jacquardref2_TestOk_k3 C L G h0) .ret (jacquardref2_TestOk_x1_0 b2 h) =
    some ([(.c (.bool b2))], h) := by kernel_rfl
theorem jacquardref2_TestOk_r2 (C : CallF) (L : LoopF) (G : Glo) (a4 : Int) (a5 : Int) (s0 : List Cell) (h : AHeap) :
    jacquardref2_TestOk_F2 C L G (jacquardref2_TestOk_s2 a4 a5 s0 h) =
    atK s0 2 fun q_25 => idxSK 1 q_25 a4 fun k_26 N_27 o_28 => rdH h k_26 N_27 fun l_29 => atK l_29 o_28 fun q_30 => lenK q_30 fun n_31 => if (decide (a5 < n_31)) = true then atK s0 2 fun q_32 => idxSK 1 q_32 a4 fun k_33 N_34 o_35 => rdH h k_33 N_34 fun l_36 => atK l_36 o_35 fun q_37 => idxSK 9 q_37 a5 fun k_38 N_39 o_40 => rdH h k_38 N_39 fun l_41 => if o_40 + 9 ≤ l_41.length then c1 (C 138 [(.agg ((l_41.drop o_40).take 9))] h) fun y_43 h_42 => asB y_43 fun b_44 => if (!b_44) = true then some (.ret, (jacquardref2_TestOk_x2_0 false h_42)) else some (.normal, (jacquardref2_TestOk_s2 a4 (G.wrap .i64 (a5 + 1)) s0 h_42)) else none else some ((.exit 4), (jacquardref2_TestOk_x2_5 a4 s0 h)) := by kernel_rfl
theorem jacquardref2_TestOk_e2_0 (C : CallF) (L : LoopF) (G : Glo) (b2 : Bool) (h : AHeap) :
    (jacquardref2_TestOk_k8 C L G) .ret (jacquardref2_TestOk_x2_0 b2 h) =
    some (.ret, (jacquardref2_TestOk_x3_0 b2 h)) := by kernel_rfl
theorem jacquardref2_TestOk_e2_5 (C : CallF) (L : LoopF) (G : Glo) (a4 : Int) (s0 : List Cell) (h : AHeap) :
    (jacquardref2_TestOk_k8 C L G) (.exit 4) (jacquardref2_TestOk_x2_5 a4 s0 h) =
    some (.normal, (jacquardref2_TestOk_s3 (G.wrap .i64 (a4 + 1)) s0 h)) := by kernel_rfl
theorem jacquardref2_TestOk_r3 (C : CallF) (L : LoopF) (G : Glo) (a4 : Int) (s0 : List Cell) (h : AHeap) :
    jacquardref2_TestOk_F3 C L G (jacquardref2_TestOk_s3 a4 s0 h) =
    atK s0 2 fun q_23 => lenK q_23 fun n_24 => if (decide (a4 < n_24)) = true then (L (jacquardref2_TestOk_F2 C L G) (jacquardref2_TestOk_s2 a4 0 s0 h)).bind fun p_45 => (jacquardref2_TestOk_k8 C L G) p_45.1 p_45.2 else some ((.exit 2), (jacquardref2_TestOk_x3_3 h)) := by kernel_rfl
theorem jacquardref2_TestOk_e3_0 (C : CallF) (L : LoopF) (G : Glo) (h0 : AHeap) (b2 : Bool) (h : AHeap) :
    (jacquardref2_TestOk_k5 C L G h0) .ret (jacquardref2_TestOk_x3_0 b2 h) =
    some ([(.c (.bool b2))], h) := by kernel_rfl
theorem jacquardref2_TestOk_e3_3 (C : CallF) (L : LoopF) (G : Glo) (h0 : AHeap) (h : AHeap) :
    (jacquardref2_TestOk_k5 C L G h0) (.exit 2) (jacquardref2_TestOk_x3_3 h) =
    some ([(.c (.bool true))], h) := by kernel_rfl
theorem jacquardref2_TestOk_e1_1 (C : CallF) (L : LoopF) (G : Glo) (h0 : AHeap) (s0 : List Cell) (h : AHeap) :
    (jacquardref2_TestOk_k3 C L G h0) (.exit 0) (jacquardref2_TestOk_x1_1 s0 h) =
    (L (jacquardref2_TestOk_F3 C L G) (jacquardref2_TestOk_s3 0 s0 h)).bind fun p_46 => (jacquardref2_TestOk_k5 C L G h0) p_46.1 p_46.2 := by kernel_rfl
set_option maxRecDepth 100000 in
theorem jacquardref2_TestOk_eq (C : CallF) (L : LoopF) (G : Glo) (l0 : List Cell) (h0 : AHeap) :
    jacquardref2_TestOk.body C L G [(.agg l0)] h0 =
    atK l0 0 fun q_1 => asS (.c q_1) fun z_2 => c1 (C 135 [(.c (.str z_2))] h0) fun y_4 h_3 => asB y_4 fun b_5 => scK (!b_5) false (if 3 + 2 ≤ l0.length then c1 (C 136 [(.agg ((l0.drop 3).take 2))] h_3) fun y_7 h_6 => asB y_7 fun b_8 => some ((!b_8), h_6) else none) true h_3 fun b_9 h_10 => if b_9 = true then some ([(.c (.bool false))], h_10) else (L (jacquardref2_TestOk_F1 C L G) (jacquardref2_TestOk_s1 0 l0 h_10)).bind fun p_47 => (jacquardref2_TestOk_k3 C L G h0) p_47.1 p_47.2 := by kernel_rfl

/- jacquard/jacquardref2.Locs: 121 -/
def jacquardref2_Locs_k2 (C : CallF) (L : LoopF) (G : Glo) (h0 : AHeap) : Ex → St → Option (List AV × AHeap) :=
  kSeq (fun st => jacquardref2_Locs_p1.exec C L G st (jacquardref2_Locs.fin G h0)) (jacquardref2_Locs.fin G h0)
def jacquardref2_Locs_k3 (C : CallF) (L : LoopF) (G : Glo) (h0 : AHeap) : Ex → St → Option (List AV × AHeap) :=
  kBlk 0 (jacquardref2_Locs_k2 C L G h0)
def jacquardref2_Locs_s1 (a4 : Int) (s0 : List Cell) (s1 : List Cell) (h : AHeap) : St := ⟨[.top, .loc 0 0, .top, .loc 1 0, .v (.c (.int .i64 a4)), .top, .top, .top, .top, .top, .top, .top, .top, .top, .top, .top, .top, .top, .top, .top, .top, .top, .top, .top, .top, .top, .top, .top, .top, .top, .top, .top, .top, .top, .top, .top, .top, .top, .top, .top, .top, .top, .top, .top, .top, .top, .top, .top, .top, .top, .top, .top, .top, .top, .top, .top, .top, .top, .top, .top, .top, .top, .top, .top, .top, .top, .top, .top, .top, .top, .top, .top, .top, .top, .top, .top, .top, .top, .top, .top, .top, .top, .top, .top, .top, .top, .top, .top, .top, .top, .top, .top, .top, .top, .top, .top, .top, .top], [some s0, some s1], h⟩
def jacquardref2_Locs_F1 (C : CallF) (L : LoopF) (G : Glo) : St → Option (Ex × St) :=
  roundF (fun st f => jacquardref2_Locs_b1.exec C L G st f) [1, 3, 4] [0, 1] [(1, [1, 3], [0, 1])]
def jacquardref2_Locs_x1_1 (s0 : List Cell) (s1 : List Cell) (h : AHeap) : St := ⟨[.top, .loc 0 0, .top, .loc 1 0, .top, .top, .top, .top, .top, .top, .top, .top, .top, .top, .top, .top, .top, .top, .top, .top, .top, .top, .top, .top, .top, .top, .top, .top, .top, .top, .top, .top, .top, .top, .top, .top, .top, .top, .top, .top, .top, .top, .top, .top, .top, .top, .top, .top, .top, .top, .top, .top, .top, .top, .top, .top, .top, .top, .top, .top, .top, .top, .top, .top, .top, .top, .top, .top, .top, .top, .top, .top, .top, .top, .top, .top, .top, .top, .top, .top, .top, .top, .top, .top, .top, .top, .top, .top, .top, .top, .top, .top, .top, .top, .top, .top, .top, .top], [some s0, some s1], h⟩
def jacquardref2_Locs_k4 (C : CallF) (L : LoopF) (G : Glo) (h0 : AHeap) : Ex → St → Option (List AV × AHeap) :=
  kSeq (fun st => jacquardref2_Locs_p2.exec C L G st (jacquardref2_Locs.fin G h0)) (jacquardref2_Locs.fin G h0)
def jacquardref2_Locs_k5 (C : CallF) (L : LoopF) (G : Glo) (h0 : AHeap) : Ex → St → Option (List AV × AHeap) :=
  kBlk 2 (jacquardref2_Locs_k4 C L G h0)
def jacquardref2_Locs_s3 (a5 : Int) (s0 : List Cell) (s1 : List Cell) (h : AHeap) : St := ⟨[.top, .loc 0 0, .top, .loc 1 0, .top, .v (.c (.int .i64 a5)), .top, .top, .top, .top, .top, .top, .top, .top, .top, .top, .top, .top, .top, .top, .top, .top, .top, .top, .top, .top, .top, .top, .top, .top, .top, .top, .top, .top, .top, .top, .top, .top, .top, .top, .top, .top, .top, .top, .top, .top, .top, .top, .top, .top, .top, .top, .top, .top, .top, .top, .top, .top, .top, .top, .top, .top, .top, .top, .top, .top, .top, .top, .top, .top, .top, .top, .top, .top, .top, .top, .top, .top, .top, .top, .top, .top, .top, .top, .top, .top, .top, .top, .top, .top, .top, .top, .top, .top, .top, .top, .top, .top], [some s0, some s1], h⟩
def jacquardref2_Locs_F3 (C : CallF) (L : LoopF) (G : Glo) : St → Option (Ex × St) :=
  roundF (fun st f => jacquardref2_Locs_b3.exec C L G st f) [1, 3, 5] [0, 1] [(3, [1, 3], [0, 1])]
def jacquardref2_Locs_k6 (C : CallF) (L : LoopF) (G : Glo) : Ex → St → Option (Ex × St) :=
  kSeq (fun st => jacquardref2_Locs_p3.exec C L G st (kLoop [1, 3, 5] [0, 1] [(3, [1, 3], [0, 1])])) (kLoop [1, 3, 5] [0, 1] [(3, [1, 3], [0, 1])])
def jacquardref2_Locs_k7 (C : CallF) (L : LoopF) (G : Glo) : Ex → St → Option (Ex × St) :=
  kBlk 3 (jacquardref2_Locs_k6 C L G)
def jacquardref2_Locs_k8 (C : CallF) (L : LoopF) (G : Glo) : Ex → St → Option (Ex × St) :=
  kBlk 4 (jacquardref2_Locs_k7 C L G)
def jacquardref2_Locs_s2 (a5 : Int) (a6 : Int) (s0 : List Cell) (s1 : List Cell) (h : AHeap) : St := ⟨[.top, .loc 0 0, .top, .loc 1 0, .top, .v (.c (.int .i64 a5)), .v (.c (.int .i64 a6)), .top, .top, .top, .top, .top, .top, .top, .top, .top, .top, .top, .top, .top, .top, .top, .top, .top, .top, .top, .top, .top, .top, .top, .top, .top, .top, .top, .top, .top, .top, .top, .top, .top, .top, .top, .top, .top, .top, .top, .top, .top, .top, .top, .top, .top, .top, .top, .top, .top, .top, .top, .top, .top, .top, .top, .top, .top, .top, .top, .top, .top, .top, .top, .top, .top, .top, .top, .top, .top, .top, .top, .top, .top, .top, .top, .top, .top, .top, .top, .top, .top, .top, .top, .top, .top, .top, .top, .top, .top, .top, .top], [some s0, some s1], h⟩
def jacquardref2_Locs_F2 (C : CallF) (L : LoopF) (G : Glo) : St → Option (Ex × St) :=
  roundF (fun st f => jacquardref2_Locs_b2.exec C L G st f) [1, 3, 5, 6] [0, 1] [(5, [1, 3, 5], [0, 1])]
def jacquardref2_Locs_x2_5 (a5 : Int) (s0 : List Cell) (s1 : List Cell) (h : AHeap) : St := ⟨[.top, .loc 0 0, .top, .loc 1 0, .top, .v (.c (.int .i64 a5)), .top, .top, .top, .top, .top, .top, .top, .top, .top, .top, .top, .top, .top, .top, .top, .top, .top, .top, .top, .top, .top, .top, .top, .top, .top, .top, .top, .top, .top, .top, .top, .top, .top, .top, .top, .top, .top, .top, .top, .top, .top, .top, .top, .top, .top, .top, .top, .top, .top, .top, .top, .top, .top, .top, .top, .top, .top, .top, .top, .top, .top, .top, .top, .top, .top, .top, .top, .top, .top, .top, .top, .top, .top, .top, .top, .top, .top, .top, .top, .top, .top, .top, .top, .top, .top, .top, .top, .top, .top, .top, .top, .top], [some s0, some s1], h⟩
def jacquardref2_Locs_x3_3 (s0 : List Cell) (s1 : List Cell) (h : AHeap) : St := ⟨[.top, .loc 0 0, .top, .loc 1 0, .top, .top, .top, .top, .top, .top, .top, .top, .top, .top, .top, .top, .top, .top, .top, .top, .top, .top, .top, .top, .top, .top, .top, .top, .top, .top, .top, .top, .top, .top, .top, .top, .top, .top, .top, .top, .top, .top, .top, .top, .top, .top, .top, .top, .top, .top, .top, .top, .top, .top, .top, .top, .top, .top, .top, .top, .top, .top, .top, .top, .top, .top, .top, .top, .top, .top, .top, .top, .top, .top, .top, .top, .top, .top, .top, .top, .top, .top, .top, .top, .top, .top, .top, .top, .top, .top, .top, .top, .top, .top, .top, .top, .top, .top], [some s0, some s1], h⟩
def jacquardref2_Locs_k9 (C : CallF) (L : LoopF) (G : Glo) (h0 : AHeap) : Ex → St → Option (List AV × AHeap) :=
  kSeq (fun st => jacquardref2_Locs_p4.exec C L G st (jacquardref2_Locs.fin G h0)) (jacquardref2_Locs.fin G h0)
def jacquardref2_Locs_k10 (C : CallF) (L : LoopF) (G : Glo) (h0 : AHeap) : Ex → St → Option (List AV × AHeap) :=
  kBlk 6 (jacquardref2_Locs_k9 C L G h0)
def jacquardref2_Locs_s5 (a7 : Int) (s0 : List Cell) (s1 : List Cell) (h : AHeap) : St := ⟨[.top, .loc 0 0, .top, .loc 1 0, .top, .top, .top, .v (.c (.int .i64 a7)), .top, .top, .top, .top, .top, .top, .top, .top, .top, .top, .top, .top, .top, .top, .top, .top, .top, .top, .top, .top, .top, .top, .top, .top, .top, .top, .top, .top, .top, .top, .top, .top, .top, .top, .top, .top, .top, .top, .top, .top, .top, .top, .top, .top, .top, .top, .top, .top, .top, .top, .top, .top, .top, .top, .top, .top, .top, .top, .top, .top, .top, .top, .top, .top, .top, .top, .top, .top, .top, .top, .top, .top, .top, .top, .top, .top, .top, .top, .top, .top, .top, .top, .top, .top, .top, .top, .top, .top, .top, .top], [some s0, some s1], h⟩
def jacquardref2_Locs_F5 (C : CallF) (L : LoopF) (G : Glo) : St → Option (Ex × St) :=
  roundF (fun st f => jacquardref2_Locs_b5.exec C L G st f) [1, 3, 7] [0, 1] [(7, [3], [1])]
def jacquardref2_Locs_k11 (C : CallF) (L : LoopF) (G : Glo) : Ex → St → Option (Ex × St) :=
  kSeq (fun st => jacquardref2_Locs_p5.exec C L G st (kLoop [1, 3, 7] [0, 1] [(7, [3], [1])])) (kLoop [1, 3, 7] [0, 1] [(7, [3], [1])])
def jacquardref2_Locs_k12 (C : CallF) (L : LoopF) (G : Glo) : Ex → St → Option (Ex × St) :=
  kBlk 7 (jacquardref2_Locs_k11 C L G)
def jacquardref2_Locs_k13 (C : CallF) (L : LoopF) (G : Glo) : Ex → St → Option (Ex × St) :=
  kBlk 8 (jacquardref2_Locs_k12 C L G)
def jacquardref2_Locs_s4 (a7 : Int) (a8 : Int) (s0 : List Cell) (s1 : List Cell) (h : AHeap) : St := ⟨[.top, .loc 0 0, .top, .loc 1 0, .top, .top, .top, .v (.c (.int .i64 a7)), .v (.c (.int .i64 a8)), .top, .top, .top, .top, .top, .top, .top, .top, .top, .top, .top, .top, .top, .top, .top, .top, .top, .top, .top, .top, .top, .top, .top, .top, .top, .top, .top, .top, .top, .top, .top, .top, .top, .top, .top, .top, .top, .top, .top, .top, .top, .top, .top, .top, .top, .top, .top, .top, .top, .top, .top, .top, .top, .top, .top, .top, .top, .top, .top, .top, .top, .top, .top, .top, .top, .top, .top, .top, .top, .top, .top, .top, .top, .top, .top, .top, .top, .top, .top, .top, .top, .top, .top, .top, .top, .top, .top, .top, .top], [some s0, some s1], h⟩
def jacquardref2_Locs_F4 (C : CallF) (L : LoopF) (G : Glo) : St → Option (Ex × St) :=
  roundF (fun st f => jacquardref2_Locs_b4.exec C L G st f) [1, 3, 7, 8] [0, 1] [(9, [1, 3, 7], [0, 1])]
def jacquardref2_Locs_x4_9 (a7 : Int) (s0 : List Cell) (s1 : List Cell) (h : AHeap) : St := ⟨[.top, .loc 0 0, .top, .loc 1 0, .top, .top, .top, .v (.c (.int .i64 a7)), .top, .top, .top, .top, .top, .top, .top, .top, .top, .top, .top, .top, .top, .top, .top, .top, .top, .top, .top, .top, .top, .top, .top, .top, .top, .top, .top, .top, .top, .top, .top, .top, .top, .top, .top, .top, .top, .top, .top, .top, .top, .top, .top, .top, .top, .top, .top, .top, .top, .top, .top, .top, .top, .top, .top, .top, .top, .top, .top, .top, .top, .top, .top, .top, .top, .top, .top, .top, .top, .top, .top, .top, .top, .top, .top, .top, .top, .top, .top, .top, .top, .top, .top, .top, .top, .top, .top, .top, .top, .top], [some s0, some s1], h⟩
def jacquardref2_Locs_x5_7 (s1 : List Cell) (h : AHeap) : St := ⟨[.top, .top, .top, .loc 1 0, .top, .top, .top, .top, .top, .top, .top, .top, .top, .top, .top, .top, .top, .top, .top, .top, .top, .top, .top, .top, .top, .top, .top, .top, .top, .top, .top, .top, .top, .top, .top, .top, .top, .top, .top, .top, .top, .top, .top, .top, .top, .top, .top, .top, .top, .top, .top, .top, .top, .top, .top, .top, .top, .top, .top, .top, .top, .top, .top, .top, .top, .top, .top, .top, .top, .top, .top, .top, .top, .top, .top, .top, .top, .top, .top, .top, .top, .top, .top, .top, .top, .top, .top, .top, .top, .top, .top, .top, .top, .top, .top, .top, .top, .top], [none, some s1], h⟩
def jacquardref2_Locs_k14 (C : CallF) (L : LoopF) (G : Glo) (h0 : AHeap) : Ex → St → Option (List AV × AHeap) :=
  kSeq (fun st => jacquardref2_Locs_p6.exec C L G st (jacquardref2_Locs.fin G h0)) (jacquardref2_Locs.fin G h0)
def jacquardref2_Locs_k15 (C : CallF) (L : LoopF) (G : Glo) (h0 : AHeap) : Ex → St → Option (List AV × AHeap) :=
  kBlk 10 (jacquardref2_Locs_k14 C L G h0)
def jacquardref2_Locs_s6 (x9 : Cell) (a10 : Int) (s1 : List Cell) (h : AHeap) : St := ⟨[.top, .top, .top, .loc 1 0, .top, .top, .top, .top, .top, .v (.c x9), .v (.c (.int .i32 a10)), .top, .top, .top, .top, .top, .top, .top, .top, .top, .top, .top, .top, .top, .top, .top, .top, .top, .top, .top, .top, .top, .top, .top, .top, .top, .top, .top, .top, .top, .top, .top, .top, .top, .top, .top, .top, .top, .top, .top, .top, .top, .top, .top, .top, .top, .top, .top, .top, .top, .top, .top, .top, .top, .top, .top, .top, .top, .top, .top, .top, .top, .top, .top, .top, .top, .top, .top, .top, .top, .top, .top, .top, .top, .top, .top, .top, .top, .top, .top, .top, .top, .top, .top, .top, .top, .top, .top], [none, some s1], h⟩
def jacquardref2_Locs_F6 (C : CallF) (L : LoopF) (G : Glo) : St → Option (Ex × St) :=
  roundF (fun st f => jacquardref2_Locs_b6.exec C L G st f) [3, 9, 10] [1] [(11, [9], [])]
def jacquardref2_Locs_x6_11 (x9 : Cell) (h : AHeap) : St := ⟨[.top, .top, .top, .top, .top, .top, .top, .top, .top, .v (.c x9), .top, .top, .top, .top, .top, .top, .top, .top, .top, .top, .top, .top, .top, .top, .top, .top, .top, .top, .top, .top, .top, .top, .top, .top, .top, .top, .top, .top, .top, .top, .top, .top, .top, .top, .top, .top, .top, .top, .top, .top, .top, .top, .top, .top, .top, .top, .top, .top, .top, .top, .top, .top, .top, .top, .top, .top, .top, .top, .top, .top, .top, .top, .top, .top, .top, .top, .top, .top, .top, .top, .top, .top, .top, .top, .top, .top, .top, .top, .top, .top, .top, .top, .top, .top, .top, .top, .top, .top], [none, none], h⟩
theorem jacquardref2_Locs_r1 (C : CallF) (L : LoopF) (G : Glo) (a4 : Int) (s0 : List Cell) (s1 : List Cell) (h : AHeap) :
    jacquardref2_Locs_F1 C L G (jacquardref2_Locs_s1 a4 s0 s1 h) =
    atK s0 1 fun q_1 => lenK q_1 fun n_2 => if (decide (a4 < n_2)) = true then atK s0 1 fun q_3 => idxSK 2 q_3 a4 fun k_4 N_5 o_6 => rdH h k_4 N_5 fun l_7 => atK l_7 (o_6 + 0) fun q_8 => asI .i64 (.c q_8) fun n_9 => if 0 ≤ (G.band .i64 n_9 255) ∧ (G.band .i64 n_9 255) < ((256 : Nat) : Int) then if (0 + ((Int.toNat (G.band .i64 n_9 255)) * 1)) < s1.length then some (.normal, (jacquardref2_Locs_s1 (G.wrap .i64 (a4 + 1)) s0 (s1.set (0 + ((Int.toNat (G.band .i64 n_9 255)) * 1)) (.bool true)) h)) else none else none else some ((.exit 0), (jacquardref2_Locs_x1_1 s0 s1 h)) := by kernel_rfl
theorem jacquardref2_Locs_r2 (C : CallF) (L : LoopF) (G : Glo) (a5 : Int) (a6 : Int) (s0 : List Cell) (s1 : List Cell) (h : AHeap) :
    jacquardref2_Locs_F2 C L G (jacquardref2_Locs_s2 a5 a6 s0 s1 h) =
    atK s0 2 fun q_12 => idxSK 1 q_12 a5 fun k_13 N_14 o_15 => rdH h k_13 N_14 fun l_16 => atK l_16 o_15 fun q_17 => lenK q_17 fun n_18 => if (decide (a6 < n_18)) = true then atK s0 2 fun q_19 => idxSK 1 q_19 a5 fun k_20 N_21 o_22 => rdH h k_20 N_21 fun l_23 => atK l_23 o_22 fun q_24 => idxSK 9 q_24 a6 fun k_25 N_26 o_27 => rdH h k_25 N_26 fun l_28 => atK l_28 (o_27 + 2) fun q_29 => asI .i64 (.c q_29) fun n_30 => if 0 ≤ (G.band .i64 n_30 255) ∧ (G.band .i64 n_30 255) < ((256 : Nat) : Int) then if (0 + ((Int.toNat (G.band .i64 n_30 255)) * 1)) < s1.length then some (.normal, (jacquardref2_Locs_s2 a5 (G.wrap .i64 (a6 + 1)) s0 (s1.set (0 + ((Int.toNat (G.band .i64 n_30 255)) * 1)) (.bool true)) h)) else none else none else some ((.exit 4), (jacquardref2_Locs_x2_5 a5 s0 s1 h)) := by kernel_rfl
theorem jacquardref2_Locs_e2_5 (C : CallF) (L : LoopF) (G : Glo) (a5 : Int) (s0 : List Cell) (s1 : List Cell) (h : AHeap) :
    (jacquardref2_Locs_k8 C L G) (.exit 4) (jacquardref2_Locs_x2_5 a5 s0 s1 h) =
    some (.normal, (jacquardref2_Locs_s3 (G.wrap .i64 (a5 + 1)) s0 s1 h)) := by kernel_rfl
theorem jacquardref2_Locs_r3 (C : CallF) (L : LoopF) (G : Glo) (a5 : Int) (s0 : List Cell) (s1 : List Cell) (h : AHeap) :
    jacquardref2_Locs_F3 C L G (jacquardref2_Locs_s3 a5 s0 s1 h) =
    atK s0 2 fun q_10 => lenK q_10 fun n_11 => if (decide (a5 < n_11)) = true then (L (jacquardref2_Locs_F2 C L G) (jacquardref2_Locs_s2 a5 0 s0 s1 h)).bind fun p_31 => (jacquardref2_Locs_k8 C L G) p_31.1 p_31.2 else some ((.exit 2), (jacquardref2_Locs_x3_3 s0 s1 h)) := by kernel_rfl
theorem jacquardref2_Locs_r4 (C : CallF) (L : LoopF) (G : Glo) (a7 : Int) (a8 : Int) (s0 : List Cell) (s1 : List Cell) (h : AHeap) :
    jacquardref2_Locs_F4 C L G (jacquardref2_Locs_s4 a7 a8 s0 s1 h) =
    atK s0 4 fun q_34 => idxSK 1 q_34 a7 fun k_35 N_36 o_37 => rdH h k_35 N_36 fun l_38 => atK l_38 o_37 fun q_39 => lenK q_39 fun n_40 => if (decide (a8 < n_40)) = true then atK s0 4 fun q_41 => idxSK 1 q_41 a7 fun k_42 N_43 o_44 => rdH h k_42 N_43 fun l_45 => atK l_45 o_44 fun q_46 => idxSK 4 q_46 a8 fun k_47 N_48 o_49 => rdH h k_47 N_48 fun l_50 => atK l_50 (o_49 + 2) fun q_51 => asI .i64 (.c q_51) fun n_52 => if 0 ≤ (G.band .i64 n_52 255) ∧ (G.band .i64 n_52 255) < ((256 : Nat) : Int) then if (0 + ((Int.toNat (G.band .i64 n_52 255)) * 1)) < s1.length then some (.normal, (jacquardref2_Locs_s4 a7 (G.wrap .i64 (a8 + 1)) s0 (s1.set (0 + ((Int.toNat (G.band .i64 n_52 255)) * 1)) (.bool true)) h)) else none else none else some ((.exit 8), (jacquardref2_Locs_x4_9 a7 s0 s1 h)) := by kernel_rfl
theorem jacquardref2_Locs_e4_9 (C : CallF) (L : LoopF) (G : Glo) (a7 : Int) (s0 : List Cell) (s1 : List Cell) (h : AHeap) :
    (jacquardref2_Locs_k13 C L G) (.exit 8) (jacquardref2_Locs_x4_9 a7 s0 s1 h) =
    some (.normal, (jacquardref2_Locs_s5 (G.wrap .i64 (a7 + 1)) s0 s1 h)) := by kernel_rfl
theorem jacquardref2_Locs_r5 (C : CallF) (L : LoopF) (G : Glo) (a7 : Int) (s0 : List Cell) (s1 : List Cell) (h : AHeap) :
    jacquardref2_Locs_F5 C L G (jacquardref2_Locs_s5 a7 s0 s1 h) =
    atK s0 4 fun q_32 => lenK q_32 fun n_33 => if (decide (a7 < n_33)) = true then (L (jacquardref2_Locs_F4 C L G) (jacquardref2_Locs_s4 a7 0 s0 s1 h)).bind fun p_53 => (jacquardref2_Locs_k13 C L G) p_53.1 p_53.2 else some ((.exit 6), (jacquardref2_Locs_x5_7 s1 h)) := by kernel_rfl
theorem jacquardref2_Locs_r6 (C : CallF) (L : LoopF) (G : Glo) (x9 : Cell) (a10 : Int) (s1 : List Cell) (h : AHeap) :
    jacquardref2_Locs_F6 C L G (jacquardref2_Locs_s6 x9 a10 s1 h) =
    if (decide (a10 ≤ 122)) = true then if 0 ≤ a10 ∧ a10 < ((256 : Nat) : Int) then atK s1 (0 + ((Int.toNat a10) * 1)) fun q_54 => asB (.c q_54) fun b_55 => if b_55 = true then if (splice [Cell.int .u8 0] 0 ([(.int .u8 (G.wrap .u8 a10))] : List Cell)).length = 1 * 1 then appK 1 1 x9 (splice [Cell.int .u8 0] 0 ([(.int .u8 (G.wrap .u8 a10))] : List Cell)) h fun x_56 h_57 => some (.normal, (jacquardref2_Locs_s6 x_56 (G.wrap .i32 (a10 + 1)) s1 h_57)) else none else some (.normal, (jacquardref2_Locs_s6 x9 (G.wrap .i32 (a10 + 1)) s1 h)) else none else some ((.exit 10), (jacquardref2_Locs_x6_11 x9 h)) := by kernel_rfl
theorem jacquardref2_Locs_e6_11 (C : CallF) (L : LoopF) (G : Glo) (h0 : AHeap) (x9 : Cell) (h : AHeap) :
    (jacquardref2_Locs_k15 C L G h0) (.exit 10) (jacquardref2_Locs_x6_11 x9 h) =
    some ([(.c x9)], h) := by kernel_rfl
theorem jacquardref2_Locs_e5_7 (C : CallF) (L : LoopF) (G : Glo) (h0 : AHeap) (s1 : List Cell) (h : AHeap) :
    (jacquardref2_Locs_k10 C L G h0) (.exit 6) (jacquardref2_Locs_x5_7 s1 h) =
    (L (jacquardref2_Locs_F6 C L G) (jacquardref2_Locs_s6 .nils 97 s1 h)).bind fun p_58 => (jacquardref2_Locs_k15 C L G h0) p_58.1 p_58.2 := by kernel_rfl
theorem jacquardref2_Locs_e3_3 (C : CallF) (L : LoopF) (G : Glo) (h0 : AHeap) (s0 : List Cell) (s1 : List Cell) (h : AHeap) :
    (jacquardref2_Locs_k5 C L G h0) (.exit 2) (jacquardref2_Locs_x3_3 s0 s1 h) =
    (L (jacquardref2_Locs_F5 C L G) (jacquardref2_Locs_s5 0 s0 s1 h)).bind fun p_59 => (jacquardref2_Locs_k10 C L G h0) p_59.1 p_59.2 := by kernel_rfl
theorem jacquardref2_Locs_e1_1 (C : CallF) (L : LoopF) (G : Glo) (h0 : AHeap) (s0 : List Cell) (s1 : List Cell) (h : AHeap) :
    (jacquardref2_Locs_k3 C L G h0) (.exit 0) (jacquardref2_Locs_x1_1 s0 s1 h) =
    (L (jacquardref2_Locs_F3 C L G) (jacquardref2_Locs_s3 0 s0 s1 h)).bind fun p_60 => (jacquardref2_Locs_k5 C L G h0) p_60.1 p_60.2 := by kernel_rfl
set_option maxRecDepth 100000 in
theorem jacquardref2_Locs_eq (C : CallF) (L : LoopF) (G : Glo) (l0 : List Cell) (h0 : AHeap) :
    jacquardref2_Locs.body C L G [(.agg l0)] h0 =
    (L (jacquardref2_Locs_F1 C L G) (jacquardref2_Locs_s1 0 l0 (List.replicate 256 (Cell.bool false)) h0)).bind fun p_61 => (jacquardref2_Locs_k3 C L G h0) p_61.1 p_61.2 := by kernel_rfl

/- jacquard/jacquardref2.word: 135 -/
def jacquardref2_word_k2 (C : CallF) (L : LoopF) (G : Glo) (h0 : AHeap) : Ex → St → Option (List AV × AHeap) :=
  kSeq (fun st => jacquardref2_word_p1.exec C L G st (jacquardref2_word.fin G h0)) (jacquardref2_word.fin G h0)
def jacquardref2_word_k3 (C : CallF) (L : LoopF) (G : Glo) (h0 : AHeap) : Ex → St → Option (List AV × AHeap) :=
  kBlk 0 (jacquardref2_word_k2 C L G h0)
def jacquardref2_word_s1 (z0 : ByteArray) (a3 : Int) (h : AHeap) : St := ⟨[.v (.c (.str z0)), .top, .top, .v (.c (.int .i64 a3)), .top, .top, .top, .top, .top, .top, .top, .top, .top, .top, .top, .top, .top, .top, .top, .top, .top, .top, .top, .top, .top, .top, .top, .top], [], h⟩
def jacquardref2_word_F1 (C : CallF) (L : LoopF) (G : Glo) : St → Option (Ex × St) :=
  roundF (fun st f => jacquardref2_word_b1.exec C L G st f) [0, 3] [] [(0, [2], []), (1, [0], [])]
def jacquardref2_word_x1_0 (b2 : Bool) (h : AHeap) : St := ⟨[.top, .top, .v (.c (.bool b2)), .top, .top, .top, .top, .top, .top, .top, .top, .top, .top, .top, .top, .top, .top, .top, .top, .top, .top, .top, .top, .top, .top, .top, .top, .top], [], h⟩
def jacquardref2_word_x1_1 (z0 : ByteArray) (h : AHeap) : St := ⟨[.v (.c (.str z0)), .top, .top, .top, .top, .top, .top, .top, .top, .top, .top, .top, .top, .top, .top, .top, .top, .top, .top, .top, .top, .top, .top, .top, .top, .top, .top, .top], [], h⟩
theorem jacquardref2_word_r1 (C : CallF) (L : LoopF) (G : Glo) (z0 : ByteArray) (a3 : Int) (h : AHeap) :
    jacquardref2_word_F1 C L G (jacquardref2_word_s1 z0 a3 h) =
    lenSK (.str z0) fun n_1 => if (decide (a3 < n_1)) = true then if 0 ≤ a3 then (z0[Int.toNat a3]?.bind fun u_2 => c1 (C 151 [(.c (.int .u8 (UInt8.toNat u_2 : Int)))] h) fun y_4 h_3 => asB y_4 fun b_5 => scK (!b_5) true (scK (decide (a3 > 0)) true (if 0 ≤ a3 then (z0[Int.toNat a3]?.bind fun u_6 => c1 (C 152 [(.c (.int .u8 (UInt8.toNat u_6 : Int)))] h_3) fun y_8 h_7 => asB y_8 fun b_9 => some (b_9, h_7)) else none) false h_3 fun b_10 h_11 => some ((!b_10), h_11)) false h_3 fun b_12 h_13 => if b_12 = true then some (.ret, (jacquardref2_word_x1_0 false h_13)) else some (.normal, (jacquardref2_word_s1 z0 (G.wrap .i64 (a3 + 1)) h_13))) else none else some ((.exit 0), (jacquardref2_word_x1_1 z0 h)) := by kernel_rfl
theorem jacquardref2_word_e1_0 (C : CallF) (L : LoopF) (G : Glo) (h0 : AHeap) (b2 : Bool) (h : AHeap) :
    (jacquardref2_word_k3 C L G h0) .ret (jacquardref2_word_x1_0 b2 h) =
    some ([(.c (.bool b2))], h) := by kernel_rfl
theorem jacquardref2_word_e1_1 (C : CallF) (L : LoopF) (G : Glo) (h0 : AHeap) (z0 : ByteArray) (h : AHeap) :
    (jacquardref2_word_k3 C L G h0) (.exit 0) (jacquardref2_word_x1_1 z0 h) =
    some ([(.c (.bool (!(ByteArray.toList z0 == ByteArray.toList (ByteArray.mk #[])))))], h) := by kernel_rfl
set_option maxRecDepth 100000 in
theorem jacquardref2_word_eq (C : CallF) (L : LoopF) (G : Glo) (z0 : ByteArray) (h0 : AHeap) :
    jacquardref2_word.body C L G [(.c (.str z0))] h0 =
    (L (jacquardref2_word_F1 C L G) (jacquardref2_word_s1 z0 0 h0)).bind fun p_14 => (jacquardref2_word_k3 C L G h0) p_14.1 p_14.2 := by kernel_rfl

/- jacquard/jacquardref2.CondOk: 136 -/
def jacquardref2_CondOk_k2 (C : CallF) (L : LoopF) (G : Glo) (h0 : AHeap) : Ex → St → Option (List AV × AHeap) :=
  kSeq (fun st => jacquardref2_CondOk_p1.exec C L G st (jacquardref2_CondOk.fin G h0)) (jacquardref2_CondOk.fin G h0)
def jacquardref2_CondOk_k3 (C : CallF) (L : LoopF) (G : Glo) (h0 : AHeap) : Ex → St → Option (List AV × AHeap) :=
  kBlk 0 (jacquardref2_CondOk_k2 C L G h0)
def jacquardref2_CondOk_s2 (a3 : Int) (s0 : List Cell) (h : AHeap) : St := ⟨[.top, .loc 0 0, .top, .v (.c (.int .i64 a3)), .top, .top, .top, .top, .top, .top, .top, .top, .top, .top, .top, .top, .top, .top, .top, .top, .top, .top, .top, .top, .top, .top, .top, .top, .top, .top, .top, .top, .top, .top, .top, .top, .top, .top, .top, .top, .top, .top, .top, .top, .top, .top, .top, .top, .top, .top, .top, .top, .top, .top, .top, .top, .top, .top, .top, .top, .top, .top, .top, .top, .top, .top, .top, .top, .top, .top, .top, .top, .top, .top, .top, .top, .top, .top, .top, .top, .top, .top, .top, .top, .top, .top, .top, .top, .top, .top, .top, .top, .top, .top, .top, .top, .top, .top, .top, .top, .top, .top, .top], [some s0, none], h⟩
def jacquardref2_CondOk_F2 (C : CallF) (L : LoopF) (G : Glo) : St → Option (Ex × St) :=
  roundF (fun st f => jacquardref2_CondOk_b2.exec C L G st f) [1, 3] [0] [(0, [2], []), (1, [], [])]
def jacquardref2_CondOk_k4 (C : CallF) (L : LoopF) (G : Glo) : Ex → St → Option (Ex × St) :=
  kSeq (fun st => jacquardref2_CondOk_p2.exec C L G st (kLoop [1, 3] [0] [(0, [2], []), (1, [], [])])) (kLoop [1, 3] [0] [(0, [2], []), (1, [], [])])
def jacquardref2_CondOk_k5 (C : CallF) (L : LoopF) (G : Glo) : Ex → St → Option (Ex × St) :=
  kBlk 1 (jacquardref2_CondOk_k4 C L G)
def jacquardref2_CondOk_x2_0 (b2 : Bool) (h : AHeap) : St := ⟨[.top, .top, .v (.c (.bool b2)), .top, .top, .top, .top, .top, .top, .top, .top, .top, .top, .top, .top, .top, .top, .top, .top, .top, .top, .top, .top, .top, .top, .top, .top, .top, .top, .top, .top, .top, .top, .top, .top, .top, .top, .top, .top, .top, .top, .top, .top, .top, .top, .top, .top, .top, .top, .top, .top, .top, .top, .top, .top, .top, .top, .top, .top, .top, .top, .top, .top, .top, .top, .top, .top, .top, .top, .top, .top, .top, .top, .top, .top, .top, .top, .top, .top, .top, .top, .top, .top, .top, .top, .top, .top, .top, .top, .top, .top, .top, .top, .top, .top, .top, .top, .top, .top, .top, .top, .top, .top], [none, none], h⟩
def jacquardref2_CondOk_k6 (C : CallF) (L : LoopF) (G : Glo) : Ex → St → Option (Ex × St) :=
  kBlk 2 (jacquardref2_CondOk_k5 C L G)
def jacquardref2_CondOk_s1 (a3 : Int) (a4 : Int) (s0 : List Cell) (h : AHeap) : St := ⟨[.top, .loc 0 0, .top, .v (.c (.int .i64 a3)), .v (.c (.int .i64 a4)), .top, .top, .top, .top, .top, .top, .top, .top, .top, .top, .top, .top, .top, .top, .top, .top, .top, .top, .top, .top, .top, .top, .top, .top, .top, .top, .top, .top, .top, .top, .top, .top, .top, .top, .top, .top, .top, .top, .top, .top, .top, .top, .top, .top, .top, .top, .top, .top, .top, .top, .top, .top, .top, .top, .top, .top, .top, .top, .top, .top, .top, .top, .top, .top, .top, .top, .top, .top, .top, .top, .top, .top, .top, .top, .top, .top, .top, .top, .top, .top, .top, .top, .top, .top, .top, .top, .top, .top, .top, .top, .top, .top, .top, .top, .top, .top, .top, .top], [some s0, none], h⟩
def jacquardref2_CondOk_F1 (C : CallF) (L : LoopF) (G : Glo) : St → Option (Ex × St) :=
  roundF (fun st f => jacquardref2_CondOk_b1.exec C L G st f) [1, 3, 4] [0] [(0, [2], []), (3, [1, 3], [0])]
def jacquardref2_CondOk_x1_0 (b2 : Bool) (h : AHeap) : St := ⟨[.top, .top, .v (.c (.bool b2)), .top, .top, .top, .top, .top, .top, .top, .top, .top, .top, .top, .top, .top, .top, .top, .top, .top, .top, .top, .top, .top, .top, .top, .top, .top, .top, .top, .top, .top, .top, .top, .top, .top, .top, .top, .top, .top, .top, .top, .top, .top, .top, .top, .top, .top, .top, .top, .top, .top, .top, .top, .top, .top, .top, .top, .top, .top, .top, .top, .top, .top, .top, .top, .top, .top, .top, .top, .top, .top, .top, .top, .top, .top, .top, .top, .top, .top, .top, .top, .top, .top, .top, .top, .top, .top, .top, .top, .top, .top, .top, .top, .top, .top, .top, .top, .top, .top, .top, .top, .top], [none, none], h⟩
def jacquardref2_CondOk_x1_3 (a3 : Int) (s0 : List Cell) (h : AHeap) : St := ⟨[.top, .loc 0 0, .top, .v (.c (.int .i64 a3)), .top, .top, .top, .top, .top, .top, .top, .top, .top, .top, .top, .top, .top, .top, .top, .top, .top, .top, .top, .top, .top, .top, .top, .top, .top, .top, .top, .top, .top, .top, .top, .top, .top, .top, .top, .top, .top, .top, .top, .top, .top, .top, .top, .top, .top, .top, .top, .top, .top, .top, .top, .top, .top, .top, .top, .top, .top, .top, .top, .top, .top, .top, .top, .top, .top, .top, .top, .top, .top, .top, .top, .top, .top, .top, .top, .top, .top, .top, .top, .top, .top, .top, .top, .top, .top, .top, .top, .top, .top, .top, .top, .top, .top, .top, .top, .top, .top, .top, .top], [some s0, none], h⟩
def jacquardref2_CondOk_x2_1 (h : AHeap) : St := ⟨[.top, .top, .top, .top, .top, .top, .top, .top, .top, .top, .top, .top, .top, .top, .top, .top, .top, .top, .top, .top, .top, .top, .top, .top, .top, .top, .top, .top, .top, .top, .top, .top, .top, .top, .top, .top, .top, .top, .top, .top, .top, .top, .top, .top, .top, .top, .top, .top, .top, .top, .top, .top, .top, .top, .top, .top, .top, .top, .top, .top, .top, .top, .top, .top, .top, .top, .top, .top, .top, .top, .top, .top, .top, .top, .top, .top, .top, .top, .top, .top, .top, .top, .top, .top, .top, .top, .top, .top, .top, .top, .top, .top, .top, .top, .top, .top, .top, .top, .top, .top, .top, .top, .top], [none, none], h⟩
theorem jacquardref2_CondOk_r1 (C : CallF) (L : LoopF) (G : Glo) (a3 : Int) (a4 : Int) (s0 : List Cell) (h : AHeap) :
    jacquardref2_CondOk_F1 C L G (jacquardref2_CondOk_s1 a3 a4 s0 h) =
    atK s0 1 fun q_24 => idxSK 1 q_24 a3 fun k_25 N_26 o_27 => rdH h k_25 N_26 fun l_28 => atK l_28 o_27 fun q_29 => lenK q_29 fun n_30 => if (decide (a4 < n_30)) = true then atK s0 1 fun q_31 => idxSK 1 q_31 a3 fun k_32 N_33 o_34 => rdH h k_32 N_33 fun l_35 => atK l_35 o_34 fun q_36 => idxSK 4 q_36 a4 fun k_37 N_38 o_39 => rdH h k_37 N_38 fun l_40 => if o_39 + 4 ≤ l_40.length then if 0 = 0 ∧ [Cell.int .i64 0, Cell.int .i64 0, Cell.int .i64 0, Cell.int .i64 0].length = 4 ∧ ((l_40.drop o_39).take 4).length = 4 then atK ((l_40.drop o_39).take 4) 0 fun q_41 => asI .i64 (.c q_41) fun n_42 => scK (n_42 == (-1)) true (atK ((l_40.drop o_39).take 4) 1 fun q_43 => asI .i64 (.c q_43) fun n_44 => some ((n_44 == 0), h)) false h fun b_45 h_46 => scK b_45 true (atK ((l_40.drop o_39).take 4) 2 fun q_47 => asI .i64 (.c q_47) fun n_48 => c1 (C 137 [(.c (.int .i64 n_48))] h_46) fun y_50 h_49 => asB y_50 fun b_51 => some (b_51, h_49)) false h_46 fun b_52 h_53 => atK ((l_40.drop o_39).take 4) 0 fun q_54 => asI .i64 (.c q_54) fun n_55 => scK (decide (n_55 ≥ 0)) true (atK ((l_40.drop o_39).take 4) 0 fun q_56 => asI .i64 (.c q_56) fun n_57 => some ((decide (n_57 ≤ 9)), h_53)) false h_53 fun b_58 h_59 => scK b_58 true (atK ((l_40.drop o_39).take 4) 1 fun q_60 => asI .i64 (.c q_60) fun n_61 => some ((decide (n_61 ≥ 0)), h_59)) false h_59 fun b_62 h_63 => scK b_62 true (atK ((l_40.drop o_39).take 4) 1 fun q_64 => asI .i64 (.c q_64) fun n_65 => some ((decide (n_65 ≤ 3)), h_63)) false h_63 fun b_66 h_67 => scK b_66 true (atK ((l_40.drop o_39).take 4) 2 fun q_68 => asI .i64 (.c q_68) fun n_69 => some ((n_69 == 0), h_67)) false h_67 fun b_70 h_71 => scK (!b_52) true (some ((!b_70), h_71)) false h_71 fun b_72 h_73 => if b_72 = true then some (.ret, (jacquardref2_CondOk_x1_0 false h_73)) else some (.normal, (jacquardref2_CondOk_s1 a3 (G.wrap .i64 (a4 + 1)) s0 h_73)) else none else none else some ((.exit 2), (jacquardref2_CondOk_x1_3 a3 s0 h)) := by kernel_rfl
theorem jacquardref2_CondOk_e1_0 (C : CallF) (L : LoopF) (G : Glo) (b2 : Bool) (h : AHeap) :
    (jacquardref2_CondOk_k6 C L G) .ret (jacquardref2_CondOk_x1_0 b2 h) =
    some (.ret, (jacquardref2_CondOk_x2_0 b2 h)) := by kernel_rfl
theorem jacquardref2_CondOk_e1_3 (C : CallF) (L : LoopF) (G : Glo) (a3 : Int) (s0 : List Cell) (h : AHeap) :
    (jacquardref2_CondOk_k6 C L G) (.exit 2) (jacquardref2_CondOk_x1_3 a3 s0 h) =
    some (.normal, (jacquardref2_CondOk_s2 (G.wrap .i64 (a3 + 1)) s0 h)) := by kernel_rfl
theorem jacquardref2_CondOk_r2 (C : CallF) (L : LoopF) (G : Glo) (a3 : Int) (s0 : List Cell) (h : AHeap) :
    jacquardref2_CondOk_F2 C L G (jacquardref2_CondOk_s2 a3 s0 h) =
    atK s0 1 fun q_15 => lenK q_15 fun n_16 => if (decide (a3 < n_16)) = true then atK s0 1 fun q_17 => idxSK 1 q_17 a3 fun k_18 N_19 o_20 => rdH h k_18 N_19 fun l_21 => atK l_21 o_20 fun q_22 => lenK q_22 fun n_23 => if (n_23 == 0) = true then some (.ret, (jacquardref2_CondOk_x2_0 false h)) else (L (jacquardref2_CondOk_F1 C L G) (jacquardref2_CondOk_s1 a3 0 s0 h)).bind fun p_74 => (jacquardref2_CondOk_k6 C L G) p_74.1 p_74.2 else some ((.exit 0), (jacquardref2_CondOk_x2_1 h)) := by kernel_rfl
theorem jacquardref2_CondOk_e2_0 (C : CallF) (L : LoopF) (G : Glo) (h0 : AHeap) (b2 : Bool) (h : AHeap) :
    (jacquardref2_CondOk_k3 C L G h0) .ret (jacquardref2_CondOk_x2_0 b2 h) =
    some ([(.c (.bool b2))], h) := by kernel_rfl
theorem jacquardref2_CondOk_e2_1 (C : CallF) (L : LoopF) (G : Glo) (h0 : AHeap) (h : AHeap) :
    (jacquardref2_CondOk_k3 C L G h0) (.exit 0) (jacquardref2_CondOk_x2_1 h) =
    some ([(.c (.bool true))], h) := by kernel_rfl
set_option maxRecDepth 100000 in
theorem jacquardref2_CondOk_eq (C : CallF) (L : LoopF) (G : Glo) (l0 : List Cell) (h0 : AHeap) :
    jacquardref2_CondOk.body C L G [(.agg l0)] h0 =
    atK l0 0 fun q_1 => asI .i64 (.c q_1) fun n_2 => if (n_2 == 0) = true then atK l0 1 fun q_3 => lenK q_3 fun n_4 => some ([(.c (.bool (n_4 == 0)))], h0) else atK l0 0 fun q_5 => asI .i64 (.c q_5) fun n_6 => scK (decide (n_6 < 0)) false (atK l0 0 fun q_7 => asI .i64 (.c q_7) fun n_8 => some ((decide (n_8 > 2)), h0)) true h0 fun b_9 h_10 => scK b_9 false (atK l0 1 fun q_11 => lenK q_11 fun n_12 => some ((n_12 == 0), h_10)) true h_10 fun b_13 h_14 => if b_13 = true then some ([(.c (.bool false))], h_14) else (L (jacquardref2_CondOk_F2 C L G) (jacquardref2_CondOk_s2 0 l0 h_14)).bind fun p_75 => (jacquardref2_CondOk_k3 C L G h0) p_75.1 p_75.2 := by kernel_rfl

/- jacquard/jacquardref2.named: 137 -/
set_option maxRecDepth 100000 in
theorem jacquardref2_named_eq (C : CallF) (L : LoopF) (G : Glo) (a0 : Int) (h0 : AHeap) :
    jacquardref2_named.body C L G [(.c (.int .i64 a0))] h0 =
    scK (decide (a0 ≥ 97)) true (some ((decide (a0 ≤ 122)), h0)) false h0 fun b_1 h_2 => some ([(.c (.bool b_1))], h_2) := by kernel_rfl

/- jacquard/jacquardref2.InsOk: 138 -/
set_option maxRecDepth 100000 in
theorem jacquardref2_InsOk_eq (C : CallF) (L : LoopF) (G : Glo) (l0 : List Cell) (h0 : AHeap) :
    jacquardref2_InsOk.body C L G [(.agg l0)] h0 =
    if 0 = 0 ∧ [Cell.int .i64 0, Cell.int .i64 0].length = 2 ∧ [Cell.int .i64 0, Cell.int .i64 0].length = 2 then atK l0 0 fun q_1 => asI .i64 (.c q_1) fun n_2 => if (n_2 == 1) = true then atK l0 1 fun q_3 => asI .i64 (.c q_3) fun n_4 => scK (n_4 == 0) true (atK l0 2 fun q_5 => asI .i64 (.c q_5) fun n_6 => c1 (C 137 [(.c (.int .i64 n_6))] h0) fun y_8 h_7 => asB y_8 fun b_9 => some (b_9, h_7)) false h0 fun b_10 h_11 => scK b_10 true (if 3 + 2 ≤ l0.length then c1 (C 153 [(.agg ((l0.drop 3).take 2))] h_11) fun y_13 h_12 => asB y_13 fun b_14 => some (b_14, h_12) else none) false h_11 fun b_15 h_16 => scK b_15 true (atK l0 5 fun q_17 => asI .i64 (.c q_17) fun n_18 => some ((n_18 == 0), h_16)) false h_16 fun b_19 h_20 => scK b_19 true (if 6 + 2 ≤ l0.length then if 0 = 0 ∧ [Cell.int .i64 0, Cell.int .i64 0].length = 2 then if alike ((l0.drop 6).take 2) ([Cell.int .i64 0, Cell.int .i64 0]) = true ∧ alike [Cell.int .i64 0, Cell.int .i64 0] ([Cell.int .i64 0, Cell.int .i64 0]) = true then some ((decide (((l0.drop 6).take 2) = [Cell.int .i64 0, Cell.int .i64 0])), h_20) else none else none else none) false h_20 fun b_21 h_22 => scK b_21 true (atK l0 8 fun q_23 => asI .i64 (.c q_23) fun n_24 => some ((n_24 == 0), h_22)) false h_22 fun b_25 h_26 => some ([(.c (.bool b_25))], h_26) else if (n_2 == 2) = true then atK l0 1 fun q_27 => asI .i64 (.c q_27) fun n_28 => scK (decide (n_28 ≥ 0)) true (atK l0 1 fun q_29 => asI .i64 (.c q_29) fun n_30 => some ((decide (n_30 ≤ 3)), h0)) false h0 fun b_31 h_32 => scK b_31 true (atK l0 2 fun q_33 => asI .i64 (.c q_33) fun n_34 => c1 (C 137 [(.c (.int .i64 n_34))] h_32) fun y_36 h_35 => asB y_36 fun b_37 => some (b_37, h_35)) false h_32 fun b_38 h_39 => scK b_38 true (if 3 + 2 ≤ l0.length then if 0 = 0 ∧ [Cell.int .i64 0, Cell.int .i64 0].length = 2 then if alike ((l0.drop 3).take 2) ([Cell.int .i64 0, Cell.int .i64 0]) = true ∧ alike [Cell.int .i64 0, Cell.int .i64 0] ([Cell.int .i64 0, Cell.int .i64 0]) = true then some ((decide (((l0.drop 3).take 2) = [Cell.int .i64 0, Cell.int .i64 0])), h_39) else none else none else none) false h_39 fun b_40 h_41 => scK b_40 true (atK l0 5 fun q_42 => asI .i64 (.c q_42) fun n_43 => some ((n_43 == 0), h_41)) false h_41 fun b_44 h_45 => scK b_44 true (if 6 + 2 ≤ l0.length then if 0 = 0 ∧ [Cell.int .i64 0, Cell.int .i64 0].length = 2 then if alike ((l0.drop 6).take 2) ([Cell.int .i64 0, Cell.int .i64 0]) = true ∧ alike [Cell.int .i64 0, Cell.int .i64 0] ([Cell.int .i64 0, Cell.int .i64 0]) = true then some ((decide (((l0.drop 6).take 2) = [Cell.int .i64 0, Cell.int .i64 0])), h_45) else none else none else none) false h_45 fun b_46 h_47 => scK b_46 true (atK l0 8 fun q_48 => asI .i64 (.c q_48) fun n_49 => some ((n_49 == 0), h_47)) false h_47 fun b_50 h_51 => some ([(.c (.bool b_50))], h_51) else if (n_2 == 3) = true then if 0 = 0 ∧ l0.length = 9 then if alike l0 (List.replicate 9 (Cell.int .i64 0)) = true ∧ alike (splice (List.replicate 9 (Cell.int .i64 0)) 0 ([(.int .i64 3)] : List Cell)) (List.replicate 9 (Cell.int .i64 0)) = true then some ([(.c (.bool (decide (l0 = (splice (List.replicate 9 (Cell.int .i64 0)) 0 ([(.int .i64 3)] : List Cell))))))], h0) else none else none else if (n_2 == 4) = true then atK l0 1 fun q_52 => asI .i64 (.c q_52) fun n_53 => scK (decide (n_53 ≥ 0)) true (atK l0 1 fun q_54 => asI .i64 (.c q_54) fun n_55 => some ((decide (n_55 ≤ 3)), h0)) false h0 fun b_56 h_57 => scK b_56 true (atK l0 2 fun q_58 => asI .i64 (.c q_58) fun n_59 => c1 (C 137 [(.c (.int .i64 n_59))] h_57) fun y_61 h_60 => asB y_61 fun b_62 => some (b_62, h_60)) false h_57 fun b_63 h_64 => scK b_63 true (if 3 + 2 ≤ l0.length then c1 (C 153 [(.agg ((l0.drop 3).take 2))] h_64) fun y_66 h_65 => asB y_66 fun b_67 => some (b_67, h_65) else none) false h_64 fun b_68 h_69 => scK b_68 true (atK l0 5 fun q_70 => asI .i64 (.c q_70) fun n_71 => some ((n_71 == 0), h_69)) false h_69 fun b_72 h_73 => scK b_72 true (if 6 + 2 ≤ l0.length then c1 (C 153 [(.agg ((l0.drop 6).take 2))] h_73) fun y_75 h_74 => asB y_75 fun b_76 => some (b_76, h_74) else none) false h_73 fun b_77 h_78 => scK b_77 true (atK l0 8 fun q_79 => asI .i64 (.c q_79) fun n_80 => some ((n_80 == 0), h_78)) false h_78 fun b_81 h_82 => some ([(.c (.bool b_81))], h_82) else if (n_2 == 5) = true then atK l0 5 fun q_83 => asI .i64 (.c q_83) fun n_84 => scK (n_84 == 0) true (if 6 + 2 ≤ l0.length then if alike ((l0.drop 6).take 2) ([Cell.int .i64 0, Cell.int .i64 0]) = true ∧ alike (splice [Cell.int .i64 0, Cell.int .i64 0] 0 ([(.int .i64 (-1))] : List Cell)) ([Cell.int .i64 0, Cell.int .i64 0]) = true then some ((!(decide (((l0.drop 6).take 2) = (splice [Cell.int .i64 0, Cell.int .i64 0] 0 ([(.int .i64 (-1))] : List Cell))))), h0) else none else none) false h0 fun b_85 h_86 => if b_85 = true then some ([(.c (.bool false))], h_86) else atK l0 1 fun q_87 => asI .i64 (.c q_87) fun n_88 => scK (decide (n_88 ≥ 0)) true (atK l0 1 fun q_89 => asI .i64 (.c q_89) fun n_90 => some ((decide (n_90 ≤ 3)), h_86)) false h_86 fun b_91 h_92 => scK b_91 true (atK l0 2 fun q_93 => asI .i64 (.c q_93) fun n_94 => some ((n_94 == 0), h_92)) false h_92 fun b_95 h_96 => scK b_95 true (if 3 + 2 ≤ l0.length then c1 (C 153 [(.agg ((l0.drop 3).take 2))] h_96) fun y_98 h_97 => asB y_98 fun b_99 => some (b_99, h_97) else none) false h_96 fun b_100 h_101 => scK b_100 true (atK l0 5 fun q_102 => asI .i64 (.c q_102) fun n_103 => some ((decide (n_103 ≥ 0)), h_101)) false h_101 fun b_104 h_105 => scK b_104 true (atK l0 5 fun q_106 => asI .i64 (.c q_106) fun n_107 => some ((decide (n_107 ≤ 11)), h_105)) false h_105 fun b_108 h_109 => scK b_108 true (if 6 + 2 ≤ l0.length then c1 (C 153 [(.agg ((l0.drop 6).take 2))] h_109) fun y_111 h_110 => asB y_111 fun b_112 => some (b_112, h_110) else none) false h_109 fun b_113 h_114 => scK b_113 true (atK l0 8 fun q_115 => asI .i64 (.c q_115) fun n_116 => some ((n_116 == 0), h_114)) false h_114 fun b_117 h_118 => some ([(.c (.bool b_117))], h_118) else if (n_2 == 6) = true then atK l0 1 fun q_119 => asI .i64 (.c q_119) fun n_120 => scK (n_120 == 0) true (atK l0 2 fun q_121 => asI .i64 (.c q_121) fun n_122 => some ((n_122 == 0), h0)) false h0 fun b_123 h_124 => scK b_123 true (if 3 + 2 ≤ l0.length then c1 (C 153 [(.agg ((l0.drop 3).take 2))] h_124) fun y_126 h_125 => asB y_126 fun b_127 => some (b_127, h_125) else none) false h_124 fun b_128 h_129 => scK b_128 true (atK l0 5 fun q_130 => asI .i64 (.c q_130) fun n_131 => some ((n_131 == 0), h_129)) false h_129 fun b_132 h_133 => scK b_132 true (if 6 + 2 ≤ l0.length then c1 (C 153 [(.agg ((l0.drop 6).take 2))] h_133) fun y_135 h_134 => asB y_135 fun b_136 => some (b_136, h_134) else none) false h_133 fun b_137 h_138 => scK b_137 true (atK l0 8 fun q_139 => asI .i64 (.c q_139) fun n_140 => some ((decide (n_140 ≥ 0)), h_138)) false h_138 fun b_141 h_142 => some ([(.c (.bool b_141))], h_142) else some ([(.c (.bool false))], h0) else none := by kernel_rfl

/- jacquard/jacquardref2.letter: 151 -/
set_option maxRecDepth 100000 in
theorem jacquardref2_letter_eq (C : CallF) (L : LoopF) (G : Glo) (a0 : Int) (h0 : AHeap) :
    jacquardref2_letter.body C L G [(.c (.int .u8 a0))] h0 =
    scK (decide (a0 ≥ 97)) true (some ((decide (a0 ≤ 122)), h0)) false h0 fun b_1 h_2 => some ([(.c (.bool b_1))], h_2) := by kernel_rfl

/- jacquard/jacquardref2.digit: 152 -/
set_option maxRecDepth 100000 in
theorem jacquardref2_digit_eq (C : CallF) (L : LoopF) (G : Glo) (a0 : Int) (h0 : AHeap) :
    jacquardref2_digit.body C L G [(.c (.int .u8 a0))] h0 =
    scK (decide (a0 ≥ 48)) true (some ((decide (a0 ≤ 57)), h0)) false h0 fun b_1 h_2 => some ([(.c (.bool b_1))], h_2) := by kernel_rfl

/- jacquard/jacquardref2.operandOk: 153 -/
set_option maxRecDepth 100000 in
theorem jacquardref2_operandOk_eq (C : CallF) (L : LoopF) (G : Glo) (l0 : List Cell) (h0 : AHeap) :
    jacquardref2_operandOk.body C L G [(.agg l0)] h0 =
    atK l0 0 fun q_1 => asI .i64 (.c q_1) fun n_2 => scK (n_2 == (-1)) false (atK l0 0 fun q_3 => asI .i64 (.c q_3) fun n_4 => scK (decide (n_4 ≥ 0)) true (atK l0 0 fun q_5 => asI .i64 (.c q_5) fun n_6 => some ((decide (n_6 ≤ 3)), h0)) false h0 fun b_7 h_8 => scK b_7 true (atK l0 1 fun q_9 => asI .i64 (.c q_9) fun n_10 => some ((n_10 == 0), h_8)) false h_8 fun b_11 h_12 => some (b_11, h_12)) true h0 fun b_13 h_14 => some ([(.c (.bool b_13))], h_14) := by kernel_rfl


end Jq

/- Programs as the document says: what is done at once, what comes next. -/
namespace Jq
open Go

theorem wrap_res {x y : Int} (h : x % 18446744073709551616 = y % 18446744073709551616) : IntKind.wrap .i64 x = IntKind.wrap .i64 y := by
  simp only [IntKind.wrap, IntKind.signed, IntKind.bits, Bool.true_and]
  split
  · rename_i h1
    have h1 := of_decide_eq_true h1
    split
    · omega
    · rename_i h2; exact absurd (decide_eq_true (by omega)) h2
  · rename_i h1
    split
    · rename_i h2
      have h2 := of_decide_eq_true h2
      exact absurd (decide_eq_true (by omega)) h1
    · omega

theorem u64_mod (x : Int) : IntKind.wrap .u64 x = x % 18446744073709551616 := by
  simp only [IntKind.wrap, IntKind.signed, IntKind.bits, Bool.false_and, Bool.false_eq_true, if_false]; rfl

/-- An instruction that may be, in a thread of so many. -/
structure GoodI (len : Nat) (i : Ins) : Prop where
  kind : 1 ≤ i.kind ∧ i.kind ≤ 6
  reg : i.kind = 2 ∨ i.kind = 4 ∨ i.kind = 5 → 0 ≤ i.reg ∧ i.reg < 4
  op : i.kind = 5 → 0 ≤ i.op ∧ i.op ≤ 11
  n : i.kind = 6 → 0 ≤ i.n ∧ i.n ≤ len

def GoodC (code : List Ins) : Prop := ∀ i ∈ code, GoodI code.length i

section
variable {E : Env}

theorem refValue_R (hE : jacquardref6_Value_In E) (o : Opd) (l : Lcl) (h : AHeap) : R E 92 [.agg o.cs, .agg l.cs] h = some ([.c (.int .i64 (opV o l))], h) := by
  refine R_intro hE.fn ?_
  have a0 : ∀ {α : Type} (f : Cell → Option α), atK o.cs 0 f = f (.int .i64 o.reg) := fun _ => rfl
  have a1 : ∀ {α : Type} (f : Cell → Option α), atK o.cs 1 f = f (.int .i64 o.val) := fun _ => rfl
  unfold opV
  rw [jacquardref6_Value_eq]
  simp only [a0, a1, asI_ok, scK_and]
  by_cases h1 : 0 ≤ o.reg ∧ o.reg < 4
  · rw [if_pos (by simp; omega), if_pos ⟨h1.1, h1.2⟩, if_pos h1, atK_ok (lcl_get h1.1 h1.2), asI_ok]
  · rw [if_neg (by simp; omega), if_neg h1]

theorem refDo_R (hE : jacquardref2_Do_In E) (op a b : Int) (h : AHeap) : R E 93 [.c (.int .i64 op), .c (.int .i64 a), .c (.int .i64 b)] h = some ([.c (.int .i64 ((doV op a b).getD 0)), .c (.bool (doV op a b).isSome)], h) := by
  refine R_intro hE.fn ?_
  rw [jacquardref2_Do_eq]
  have hr : ∀ x : Int, 0 ≤ E.glob.rem .u64 (E.glob.wrap .u64 x) 64 := by
    intro x
    show 0 ≤ Int.tmod (IntKind.wrap .u64 x) 64
    rw [u64_mod, Int.tmod_eq_emod_of_nonneg (Int.emod_nonneg _ (by omega))]
    exact Int.emod_nonneg _ (by omega)
  have hr' : ∀ x : Int, ¬ E.glob.rem .u64 (E.glob.wrap .u64 x) 64 < 0 := fun x => by have := hr x; omega
  simp only [hr', if_false]
  have w1 : E.glob.wrap .i64 (E.glob.wrap .u64 (E.glob.wrap .u64 a + E.glob.wrap .u64 b)) = GN.wrap .i64 (a + b) := by
    show IntKind.wrap .i64 (IntKind.wrap .u64 (IntKind.wrap .u64 a + IntKind.wrap .u64 b)) = IntKind.wrap .i64 (a + b)
    refine wrap_res ?_
    rw [u64_mod, u64_mod, u64_mod]; omega
  have w2 : E.glob.wrap .i64 (E.glob.wrap .u64 (E.glob.wrap .u64 a - E.glob.wrap .u64 b)) = GN.wrap .i64 (a - b) := by
    show IntKind.wrap .i64 (IntKind.wrap .u64 (IntKind.wrap .u64 a - IntKind.wrap .u64 b)) = IntKind.wrap .i64 (a - b)
    refine wrap_res ?_
    rw [u64_mod, u64_mod, u64_mod]; omega
  have w3 : E.glob.wrap .i64 (E.glob.wrap .u64 (E.glob.wrap .u64 a * E.glob.wrap .u64 b)) = GN.wrap .i64 (a * b) := by
    show IntKind.wrap .i64 (IntKind.wrap .u64 (IntKind.wrap .u64 a * IntKind.wrap .u64 b)) = IntKind.wrap .i64 (a * b)
    refine wrap_res ?_
    rw [u64_mod, u64_mod, u64_mod, Int.emod_emod_of_dvd _ (Int.dvd_refl _), ← Int.mul_emod]
  have w7 : ∀ k : Int, E.glob.wrap .i64 (E.glob.shl .u64 (E.glob.wrap .u64 a) k) = GN.shl .i64 a k := by
    intro k
    show IntKind.wrap .i64 (IntKind.wrap .u64 (IntKind.wrap .u64 a * 2 ^ min k.toNat IntKind.u64.bits)) = IntKind.wrap .i64 (a * 2 ^ min k.toNat IntKind.i64.bits)
    refine wrap_res ?_
    rw [u64_mod, u64_mod, Int.emod_emod_of_dvd _ (Int.dvd_refl _)]
    show _ = (a * 2 ^ min k.toNat IntKind.u64.bits) % _
    rw [Int.mul_emod, Int.emod_emod_of_dvd _ (Int.dvd_refl _), ← Int.mul_emod]
  simp only [w1, w2, w3, w7]
  unfold doV
  have key : ∀ k : Int, ((op == k) = true) = (op = k) := fun k => by rw [beq_iff_eq]
  simp only [key]
  by_cases h1 : op = 1
  · simp only [if_pos h1]; rfl
  simp only [if_neg h1]
  by_cases h2 : op = 2
  · simp only [if_pos h2]; rfl
  simp only [if_neg h2]
  by_cases h3 : op = 3
  · simp only [if_pos h3]; rfl
  simp only [if_neg h3]
  by_cases h4 : op = 4
  · simp only [if_pos h4]; rfl
  simp only [if_neg h4]
  by_cases h5 : op = 5
  · simp only [if_pos h5]; rfl
  simp only [if_neg h5]
  by_cases h6 : op = 6
  · simp only [if_pos h6]; rfl
  simp only [if_neg h6]
  by_cases h7 : op = 7
  · simp only [if_pos h7]; rfl
  simp only [if_neg h7]
  by_cases h8 : op = 8
  · simp only [if_pos h8]; rfl
  simp only [if_neg h8]
  by_cases h9 : op = 9
  · simp only [if_pos h9]; (by_cases hab : a = b <;> simp [hab])
  simp only [if_neg h9]
  by_cases h10 : op = 10
  · simp only [if_pos h10]; (by_cases hab : a = b <;> simp [hab])
  simp only [if_neg h10]
  by_cases h11 : op = 11
  · simp only [if_pos h11]; (by_cases hab : a < b <;> simp [hab])
  simp only [if_neg h11]
  rfl

theorem doV_some {op : Int} (a b : Int) (h1 : 1 ≤ op) (h2 : op ≤ 11) : ∃ v, doV op a b = some v := by
  have h : op = 1 ∨ op = 2 ∨ op = 3 ∨ op = 4 ∨ op = 5 ∨ op = 6 ∨ op = 7 ∨ op = 8 ∨ op = 9 ∨ op = 10 ∨ op = 11 := by omega
  rcases h with rfl | rfl | rfl | rfl | rfl | rfl | rfl | rfl | rfl | rfl | rfl <;> exact ⟨_, rfl⟩

/-- One thread of a program that lies there. -/
theorem ProgAt.thr {h : AHeap} {cs : List Cell} {P : PProg} (p : ProgAt h cs P) {t : Nat} {code : List Ins} (ht : P.thr[t]? = some code) :
    ∃ x, SlAt h x 9 (codeC code) code.length ∧ Low h.length x ∧ ∀ {α : Type} (f : Cell → Option α), (atK cs 2 fun q => idxSK 1 q (t : Int) fun k N o => rdH h k N fun l => atK l o f) = f x := by
  obtain ⟨a, b, c, ts, rfl, _, _, ⟨hc, hcl⟩, hts⟩ := p
  obtain ⟨x, x1, x2, x3⟩ := hts _ _ ht
  refine ⟨x, x2, x3, fun f => ?_⟩
  show (idxSK 1 c (t : Int) fun k N o => rdH h k N fun l => atK l o f) = f x
  exact hc.get1 (getI_lt ht) x1

theorem ProgAt.nthr {α : Type} {h : AHeap} {cs : List Cell} {P : PProg} (p : ProgAt h cs P) {f : Int → Option α} : (atK cs 2 fun q => lenK q f) = f P.thr.length := by
  obtain ⟨a, b, c, ts, rfl, _, _, ⟨hc, hcl⟩, hts⟩ := p
  show lenK c f = _
  exact hc.len

theorem code_of {P : PProg} {t : Nat} {code : List Ins} (ht : P.thr[t]? = some code) : P.code (t : Int) = code := by
  unfold PProg.code
  rw [if_pos (by omega), Int.toNat_natCast, List.getD_eq_getElem?_getD, ht]; rfl

theorem refnormal_R (hE : jacquardref6_normal_In E) {cs : List Cell} {P : PProg} {h : AHeap} (p : ProgAt h cs P) {t : Nat} {code : List Ins} (ht : P.thr[t]? = some code) (hlen : code.length < 4000000000000000000) (hg : GoodC code) (l : Lcl) (h0 : 0 ≤ l.pc) :
    R E 123 [.agg cs, .c (.int .i64 (t : Int)), .agg l.cs] h = some ([.agg (normL code l).cs], h) := by
  refine R_intro hE.fn ?_
  obtain ⟨x, hx, hxl, hT⟩ := p.thr ht
  have round : ∀ l : Lcl, 0 ≤ l.pc → jacquardref6_normal_F1 (R E) Lim E.glob (jacquardref6_normal_s1 t cs l.cs Lcl.zero.cs h) = match stepI code l with
      | some l' => some (.normal, jacquardref6_normal_s1 t cs l'.cs Lcl.zero.cs h)
      | none => if l.pc < code.length then some (.ret, jacquardref6_normal_x1_0 l.cs h) else some (.exit 0, jacquardref6_normal_x1_1 l.cs Lcl.zero.cs h) := by
    intro l h0
    rw [jacquardref6_normal_r1, lcl_pc, asI_ok, hT, hx.len]
    by_cases h1 : l.pc < code.length
    · obtain ⟨q, hp⟩ : ∃ q : Nat, l.pc = (q : Int) := ⟨l.pc.toNat, by omega⟩
      have hpl : q < code.length := by omega
      have hq : code[q]? = some code[q] := List.getElem?_eq_getElem hpl
      have hgi := hg _ (List.getElem_mem hpl)
      generalize code[q] = i at hq hgi
      obtain ⟨off, cs', hG0, hle, hcs⟩ := hx.insG hq
      have hG : ∀ {α : Type} (G : Nat → List Cell → Option α), (idxSK 9 x l.pc fun k N o => rdH h k N fun l => G o l) = G off cs' := by intro α G; rw [hp]; exact hG0 G
      have hst : stepI code l = if i.kind = 5 then
          some { (l.setR i.reg ((doV i.op (opV i.a l) (opV i.b l)).getD (opV i.a l))) with pc := (l.setR i.reg ((doV i.op (opV i.a l) (opV i.b l)).getD (opV i.a l))).pc + 1 }
        else if i.kind = 6 then (if opV i.a l = opV i.b l then some { l with pc := l.pc + min (max i.n 0) code.length + 1 } else some { l with pc := l.pc + 1 }) else none := by
        unfold stepI
        rw [if_pos h0, show l.pc.toNat = q by omega, hq]
      rw [hst, if_pos (decide_eq_true h1), hT, lcl_pc, asI_ok, hG, if_pos hle, hcs, if_pos ⟨rfl, rfl, rfl⟩, ins_kind, asI_ok]
      by_cases k5 : i.kind = 5
      · obtain ⟨r0, r1⟩ := hgi.reg (.inr (.inr k5))
        obtain ⟨o0, o1⟩ := hgi.op k5
        rw [if_pos (by rw [k5]; rfl), if_pos k5, if_pos (show 3 + 2 ≤ i.cs.length by rw [Ins.len]; omega), if_pos ⟨rfl, rfl⟩, ins_a, refValue_R hE.c92, c1_ok, asI_ok, ins_op, asI_ok]
        by_cases hop : i.op = 0
        · have hd : doV i.op (opV i.a l) (opV i.b l) = none := by rw [hop]; rfl
          have hpc := l.setR_pc i.reg (opV i.a l)
          rw [hd, if_neg (by rw [hop]; simp), ins_reg, asI_ok, if_pos ⟨r0, r1⟩, if_pos (by rw [Lcl.len]; omega), lcl_set r0 r1, lcl_pc, asI_ok, if_pos (by rw [Lcl.len]; omega), lcl_setpc]
          rw [show (none : Option Int).getD (opV i.a l) = opV i.a l from rfl, hpc, g_wrap_i64 (x := l.pc + 1) (by omega) (by omega)]
        · obtain ⟨v, hd⟩ := doV_some (opV i.a l) (opV i.b l) (show 1 ≤ i.op by omega) o1
          have hpc := l.setR_pc i.reg v
          rw [hd, if_pos (by rw [bne_iff_ne]; exact hop), ins_op, asI_ok, if_pos (show 6 + 2 ≤ i.cs.length by rw [Ins.len]; omega), if_pos ⟨rfl, rfl⟩, ins_b, refValue_R hE.c92, qh_ok, c1_ok, asI_ok, refDo_R hE.c93, qh_ok, c2_ok, asI_ok, asB_ok, hd, ins_reg, asI_ok, if_pos ⟨r0, r1⟩, if_pos (by rw [Lcl.len]; omega), show (some v : Option Int).getD 0 = v from rfl, lcl_set r0 r1, lcl_pc, asI_ok, if_pos (by rw [Lcl.len]; omega), lcl_setpc]
          rw [show (some v : Option Int).getD (opV i.a l) = v from rfl, hpc, g_wrap_i64 (x := l.pc + 1) (by omega) (by omega)]
      · rw [if_neg (by rw [beq_iff_eq]; exact k5), if_neg k5]
        by_cases k6 : i.kind = 6
        · obtain ⟨n0, n1⟩ := hgi.n k6
          rw [if_pos (by rw [k6]; rfl), if_pos k6, if_pos (show 3 + 2 ≤ i.cs.length by rw [Ins.len]; omega), if_pos ⟨rfl, rfl⟩, ins_a, refValue_R hE.c92, qh_ok, c1_ok, asI_ok, if_pos (show 6 + 2 ≤ i.cs.length by rw [Ins.len]; omega), if_pos ⟨rfl, rfl⟩, ins_b, refValue_R hE.c92, qh_ok, c1_ok, asI_ok]
          by_cases hab : opV i.a l = opV i.b l
          · rw [if_pos (by rw [hab]; exact beq_self_eq_true _), if_pos hab, lcl_pc, asI_ok, ins_n, asI_ok, if_pos (by rw [Lcl.len]; omega), lcl_setpc, lcl_pc, asI_ok, if_pos (by rw [Lcl.len]; omega), lcl_setpc]
            dsimp only
            rw [show min (max i.n 0) (code.length : Int) = i.n by omega, g_wrap_i64 (x := l.pc + i.n) (by omega) (by omega), g_wrap_i64 (x := l.pc + i.n + 1) (by omega) (by omega)]
          · rw [if_neg (by rw [beq_iff_eq]; exact hab), if_neg hab, lcl_pc, asI_ok, if_pos (by rw [Lcl.len]; omega), lcl_setpc, g_wrap_i64 (x := l.pc + 1) (by omega) (by omega)]
        · rw [if_neg (by rw [beq_iff_eq]; exact k6), if_neg k6, if_pos ⟨rfl, rfl⟩, if_pos ⟨rfl, rfl, rfl⟩]
          dsimp only
          rw [if_pos h1]
    · have hst : stepI code l = none := by
        unfold stepI
        rw [if_pos h0, List.getElem?_eq_none (by omega)]
      rw [hst, if_neg (by simpa using h1)]
      dsimp only
      rw [if_neg h1]
  have stop : ∀ l : Lcl, 0 ≤ l.pc → stepI code l = none → (Lim (jacquardref6_normal_F1 (R E) Lim E.glob) (jacquardref6_normal_s1 t cs l.cs Lcl.zero.cs h)).bind (fun p => jacquardref6_normal_k3 (R E) Lim E.glob h p.1 p.2) = some ([.agg l.cs], h) := by
    intro l h0 hs
    have hr := round l h0
    rw [hs] at hr
    dsimp only at hr
    split at hr
    · rw [Lim_ret hr, bind_ok, jacquardref6_normal_e1_0, if_pos ⟨rfl, rfl⟩]
    · rw [Lim_exit hr, bind_ok, jacquardref6_normal_e1_1, if_pos ⟨rfl, rfl⟩, if_pos ⟨rfl, rfl, rfl⟩, if_pos ⟨rfl, rfl⟩]
  have loop : ∀ (k : Nat) (l : Lcl), 0 ≤ l.pc → (code.length : Int) ≤ l.pc + k → (Lim (jacquardref6_normal_F1 (R E) Lim E.glob) (jacquardref6_normal_s1 t cs l.cs Lcl.zero.cs h)).bind (fun p => jacquardref6_normal_k3 (R E) Lim E.glob h p.1 p.2) = some ([.agg (nrm code k l).cs], h) := by
    intro k
    induction k with
    | zero =>
      intro l h0 hk
      rw [nrm]
      refine stop l h0 ?_
      cases hs : stepI code l with
      | none => rfl
      | some l' => have := stepI_pc hs; omega
    | succ k ih =>
      intro l h0 hk
      rw [nrm]
      cases hs : stepI code l with
      | none => exact stop l h0 hs
      | some l' =>
        have hr := round l h0
        rw [hs] at hr
        have h3 := stepI_pc hs
        have := ih l' (by omega) (by omega)
        cases hL : Lim (jacquardref6_normal_F1 (R E) Lim E.glob) (jacquardref6_normal_s1 t cs l'.cs Lcl.zero.cs h) with
        | none => rw [hL] at this; cases this
        | some p => rw [Lim_next hr hL]; rw [hL] at this; exact this
  rw [jacquardref6_normal_eq, zero5]
  exact loop code.length l h0 (by omega)

theorem there_R (hE : jacquardref6_there_In E) {cs : List Cell} {P : PProg} {h : AHeap} (p : ProgAt h cs P) (t : Int) :
    R E 110 [.agg cs, .c (.int .i64 t)] h = some ([.c (.bool (decide (0 ≤ t) && decide (t < P.thr.length)))], h) := by
  refine R_intro hE.fn ?_
  rw [jacquardref6_there_eq]
  by_cases h0 : 0 ≤ t
  · rw [show decide (t ≥ 0) = true from decide_eq_true h0, scK_ok, p.nthr, bind_ok]
    rfl
  · rw [show decide (t ≥ 0) = false from decide_eq_false h0, scK_ft]
    rfl

/-- Each thread may be. -/
def PProg.good (P : PProg) : Prop := P.fits ∧ ∀ code ∈ P.thr, GoodC code

theorem code_out {P : PProg} {t : Int} (h : ¬ (0 ≤ t ∧ t < P.thr.length)) : P.code t = [] := by
  unfold PProg.code
  split
  · rw [List.getD_eq_getElem?_getD, List.getElem?_eq_none (by omega)]; rfl
  · rfl

theorem refStart_R (hE : jacquardref6_Start_In E) {cs : List Cell} {P : PProg} {h : AHeap} (hg : P.good) (p : ProgAt h cs P) (t : Int) :
    R E 104 [.agg cs, .c (.int .i64 t)] h = some ([.agg (startL P t).cs], h) := by
  refine R_intro hE.fn ?_
  rw [jacquardref6_Start_eq, if_pos ⟨rfl, p.len⟩, there_R hE.c110 p, c1_ok, asB_ok]
  by_cases ht : 0 ≤ t ∧ t < P.thr.length
  · obtain ⟨q, hq⟩ : ∃ q : Nat, t = (q : Int) := ⟨t.toNat, by omega⟩
    have hqq : P.thr[q]? = some P.thr[q] := List.getElem?_eq_getElem (by omega)
    have hm := List.mem_of_getElem? hqq
    generalize P.thr[q] = code at hqq hm
    rw [show (decide (0 ≤ t) && decide (t < P.thr.length)) = true by simp [ht.1, ht.2], if_neg (by simp), if_pos ⟨rfl, p.len⟩, zero5, hq, refnormal_R hE.c123 p hqq (hg.1.2 _ hm) (hg.2 _ hm) Lcl.zero (by simp [Lcl.zero]), c1_ok, asA_ok, if_pos ⟨rfl, rfl, rfl⟩, if_pos ⟨rfl, rfl⟩]
    unfold startL
    rw [code_of hqq]
  · have hs : startL P t = Lcl.zero := by unfold startL; rw [code_out ht]; rfl
    rw [show (decide (0 ≤ t) && decide (t < P.thr.length)) = false by simp; omega, if_pos (show (!false) = true from rfl), zero5, if_pos ⟨rfl, rfl, rfl⟩, if_pos ⟨rfl, rfl⟩, hs]

theorem refNext_R (hE : jacquardref6_Next_In E) {cs : List Cell} {P : PProg} {h : AHeap} (hg : P.good) (p : ProgAt h cs P) (t : Int) (l : Lcl) :
    R E 81 [.agg cs, .c (.int .i64 t), .agg l.cs] h = some ([.agg ((nextI (P.code t) l).getD Ins.zero).cs, .c (.bool (nextI (P.code t) l).isSome)], h) := by
  refine R_intro hE.fn ?_
  rw [jacquardref6_Next_eq, if_pos ⟨rfl, p.len⟩, there_R hE.c110 p, qh_ok, c1_ok, asB_ok]
  by_cases ht : 0 ≤ t ∧ t < P.thr.length
  · obtain ⟨q, hq⟩ : ∃ q : Nat, t = (q : Int) := ⟨t.toNat, by omega⟩
    have hqq : P.thr[q]? = some P.thr[q] := List.getElem?_eq_getElem (by omega)
    have hm := List.mem_of_getElem? hqq
    generalize P.thr[q] = code at hqq hm
    have hgc := hg.2 _ hm
    obtain ⟨x, hx, hxl, hT⟩ := p.thr hqq
    rw [show (decide (0 ≤ t) && decide (t < P.thr.length)) = true by simp [ht.1, ht.2], Bool.not_true, scK_ok, lcl_pc, asI_ok, bind_ok]
    dsimp only
    subst hq
    rw [code_of hqq]
    by_cases h0 : 0 ≤ l.pc
    · rw [show decide (l.pc < 0) = false from decide_eq_false (by omega), scK_ok, lcl_pc, asI_ok, hT, hx.len, bind_ok]
      dsimp only
      by_cases h1 : l.pc < code.length
      · obtain ⟨m, hmm⟩ : ∃ m : Nat, l.pc = (m : Int) := ⟨l.pc.toNat, by omega⟩
        have hml : m < code.length := by omega
        have hi : code[m]? = some code[m] := List.getElem?_eq_getElem hml
        have hgi := hgc _ (List.getElem_mem hml)
        generalize code[m] = i at hi hgi
        obtain ⟨off, cs', hG0, hle, hcs⟩ := hx.insG hi
        have hG : ∀ {α : Type} (G : Nat → List Cell → Option α), (idxSK 9 x l.pc fun k N o => rdH h k N fun l => G o l) = G off cs' := by intro α G; rw [hmm]; exact hG0 G
        have hn : nextI code l = if 1 ≤ i.kind ∧ i.kind ≤ 4 then some i else none := by
          unfold nextI
          rw [if_pos h0, show l.pc.toNat = m by omega, hi]
        have hk2 := hgi.kind
        rw [show decide (l.pc ≥ (code.length : Int)) = false from decide_eq_false (by omega), if_neg (by simp), hT, lcl_pc, asI_ok, hG, if_pos hle, hcs, if_pos ⟨rfl, rfl, rfl⟩, ins_kind, asI_ok, ins_kind, asI_ok, scK_or, hn]
        by_cases hk : 1 ≤ i.kind ∧ i.kind ≤ 4
        · rw [if_neg (by simp; omega), if_pos hk, if_pos ⟨rfl, rfl⟩, if_pos ⟨rfl, rfl, rfl⟩, if_pos ⟨rfl, rfl⟩]; rfl
        · rw [if_pos (by simp; omega), if_neg hk, if_pos ⟨rfl, rfl, rfl⟩, if_pos ⟨rfl, rfl⟩]; rfl
      · have hn : nextI code l = none := by unfold nextI; rw [if_pos h0, List.getElem?_eq_none (by omega)]
        rw [show decide (l.pc ≥ (code.length : Int)) = true from decide_eq_true (by omega), if_pos rfl, hn, if_pos ⟨rfl, rfl, rfl⟩, if_pos ⟨rfl, rfl⟩]; rfl
    · have hn : nextI code l = none := by unfold nextI; rw [if_neg h0]
      rw [show decide (l.pc < 0) = true from decide_eq_true (by omega), scK_tf, if_pos rfl, hn, if_pos ⟨rfl, rfl, rfl⟩, if_pos ⟨rfl, rfl⟩]; rfl
  · have hn : nextI (P.code t) l = none := by rw [code_out ht]; unfold nextI; split <;> simp
    rw [show (decide (0 ≤ t) && decide (t < P.thr.length)) = false by simp; omega, Bool.not_false, scK_tf, scK_tf, if_pos rfl, hn, if_pos ⟨rfl, rfl, rfl⟩, if_pos ⟨rfl, rfl⟩]; rfl

theorem refAfter_R (hE : jacquardref6_After_In E) {cs : List Cell} {P : PProg} {h : AHeap} (hg : P.good) (p : ProgAt h cs P) (t : Int) (l : Lcl) (v : Int) :
    R E 107 [.agg cs, .c (.int .i64 t), .agg l.cs, .c (.int .i64 v)] h = some ([.agg (afterL (P.code t) l v).cs], h) := by
  refine R_intro hE.fn ?_
  rw [jacquardref6_After_eq, if_pos ⟨rfl, p.len⟩, if_pos ⟨rfl, rfl⟩, refNext_R hE.c81 hg p, c2_ok, asA_ok, asB_ok, if_pos ⟨rfl, rfl, rfl⟩]
  unfold afterL
  cases hn : nextI (P.code t) l with
  | none =>
    rw [show (none : Option Ins).isSome = false from rfl, if_pos (show (!false) = true from rfl), if_pos ⟨rfl, rfl⟩, if_pos ⟨rfl, rfl, rfl⟩, if_pos ⟨rfl, rfl⟩]
  | some i =>
    obtain ⟨n0, n1, n2, n3, n4⟩ := nextI_kind hn
    have ht : 0 ≤ t ∧ t < P.thr.length := by
      refine Classical.byContradiction fun hc => ?_
      rw [code_out hc] at n2; simp at n2
    obtain ⟨q, hq⟩ : ∃ q : Nat, t = (q : Int) := ⟨t.toNat, by omega⟩
    have hqq : P.thr[q]? = some P.thr[q] := List.getElem?_eq_getElem (by omega)
    have hm := List.mem_of_getElem? hqq
    generalize P.thr[q] = code at hqq hm
    subst hq
    rw [code_of hqq] at n1 n2 ⊢
    have hgi := hg.2 _ hm i (List.mem_of_getElem? n2)
    have hfit := hg.1.2 _ hm
    rw [show (some i : Option Ins).isSome = true from rfl, if_neg (by simp), show (some i : Option Ins).getD Ins.zero = i from rfl, ins_kind, asI_ok, ins_kind, asI_ok, scK_or]
    by_cases hk : i.kind = 2 ∨ i.kind = 4
    · have hpc := l.setR_pc i.reg v
      obtain ⟨r0, r1⟩ := hgi.reg (hk.imp id .inl)
      rw [if_pos (by rw [Bool.or_eq_true, beq_iff_eq, beq_iff_eq]; exact hk), ins_reg, asI_ok, if_pos ⟨r0, r1⟩, if_pos (by rw [Lcl.len]; omega), lcl_set r0 r1, lcl_pc, asI_ok, if_pos (by rw [Lcl.len]; omega), lcl_setpc, if_pos ⟨rfl, p.len⟩, if_pos ⟨rfl, rfl⟩, hpc, g_wrap_i64 (x := l.pc + 1) (by omega) (by omega), refnormal_R hE.c123 p hqq hfit (hg.2 _ hm) _ (by dsimp only; omega), c1_ok, asA_ok, if_pos ⟨rfl, rfl, rfl⟩, if_pos ⟨rfl, rfl⟩]
      dsimp only
      rw [if_pos hk]
    · rw [if_neg (by rw [Bool.or_eq_true, beq_iff_eq, beq_iff_eq]; exact hk), lcl_pc, asI_ok, if_pos (by rw [Lcl.len]; omega), lcl_setpc, if_pos ⟨rfl, p.len⟩, if_pos ⟨rfl, rfl⟩, g_wrap_i64 (x := l.pc + 1) (by omega) (by omega), refnormal_R hE.c123 p hqq hfit (hg.2 _ hm) _ (by dsimp only; omega), c1_ok, asA_ok, if_pos ⟨rfl, rfl, rfl⟩, if_pos ⟨rfl, rfl⟩]
      dsimp only
      rw [if_neg hk]

end
end Jq

namespace Jq
open Go


end Jq

/- Events: what an instruction does; a thread unfolded. -/
namespace Jq
open Go

structure Evt where
  t : Int
  i : Int
  kind : Int
  loc : Int
  r : Int
  w : Int
  deriving DecidableEq

def Evt.cs (e : Evt) : List Cell := [.int .i64 e.t, .int .i64 e.i, .int .i64 e.kind, .int .i64 e.loc, .int .i64 e.r, .int .i64 e.w]
def evsC (l : List Evt) : List Cell := l.flatMap Evt.cs
theorem Evt.len (e : Evt) : e.cs.length = 6 := rfl
/-- The event of an instruction that reads v. -/
def evOf (i : Ins) (l : Lcl) (v : Int) : Evt :=
  if i.kind = 1 then ⟨0, 0, 2, i.loc, 0, opV i.a l⟩
  else if i.kind = 2 then ⟨0, 0, 1, i.loc, v, 0⟩
  else if i.kind = 4 then (if opV i.a l = v then ⟨0, 0, 4, i.loc, v, opV i.b l⟩ else ⟨0, 0, 5, i.loc, v, 0⟩)
  else ⟨0, 0, 3, 0, 0, 0⟩

def rdI (i : Ins) : Bool := decide (i.kind = 2 ∨ i.kind = 4)

/-- A thread unfolded: its events, where it is, and whether it would read more. -/
def unf (code : List Ins) (t : Int) : Nat → Lcl → List Int → List Evt → List Evt × Lcl × Bool
  | 0, l, _, out => (out, l, false)
  | k + 1, l, rs, out => match nextI code l with
    | none => (out, l, false)
    | some i =>
      if rdI i = true then match rs with
        | [] => (out, l, true)
        | v :: rs => unf code t k (afterL code l v) rs (out ++ [{ evOf i l v with t := t, i := out.length }])
      else unf code t k (afterL code l 0) rs (out ++ [{ evOf i l 0 with t := t, i := out.length }])

section
variable {E : Env}

/-- A row that can be cut, whatever is made behind it. -/
def SlOkE (h : AHeap) (esz : Nat) (x : Cell) : Prop := ∀ k N off len, x = .sl k N off len → ∀ h', Kp h.length h h' → okSl h' esz k N = true

theorem SlOk.e {h : AHeap} {x : Cell} (s : SlOk h x) (esz : Nat) : SlOkE h esz x := fun k N off len e h' hk => s k N off len e h' hk esz

theorem SlOkE.mono {h h' : AHeap} {esz : Nat} {x : Cell} (s : SlOkE h esz x) (hk : Kp h.length h h') : SlOkE h' esz x :=
  fun k N off len e h2 hk2 => s k N off len e h2 (hk.trans (hk2.mono hk.1))

/-- No thread is long. -/
def PProg.small (P : PProg) : Prop := P.thr.length ≤ 1000 ∧ ∀ code ∈ P.thr, code.length ≤ 1000
theorem PProg.small.fits {P : PProg} (h : P.small) : P.fits := ⟨by have := h.1; omega, fun c hc => by have := h.2 c hc; omega⟩
theorem PProg.small.code {P : PProg} (h : P.small) (t : Int) : (P.code t).length ≤ 1000 := by
  unfold PProg.code
  split
  · rw [List.getD_eq_getElem?_getD]
    cases hq : P.thr[t.toNat]? with
    | none => show (0 : Nat) ≤ _; omega
    | some c => exact h.2 c (List.mem_of_getElem? hq)
  · show (0 : Nat) ≤ _; omega

end
end Jq

namespace Jq
open Go


end Jq

/- What a function needs of an environment. -/
namespace Jq
open Go


end Jq

namespace Jq
open Go


end Jq

namespace Jq
open Go

/- slices.Clone(()jacquard/api.Ins,jacquard/api.Ins): 119 -/
set_option maxRecDepth 100000 in
theorem slices_Clone_sIns_Ins_eq (C : CallF) (L : LoopF) (G : Glo) (x0 : Cell) (h0 : AHeap) :
    slices_Clone_sIns_Ins.body C L G [(.c x0)] h0 =
    eqNilK false x0 .nils fun b_1 => if b_1 = true then some ([(.c .nils)], h0) else if ([] : List Cell).length = 0 * 9 then (slCells (h0 ++ [some (Blk.mk true 9 ([] : List Cell))]) 9 x0).bind fun l_4 => appK 9 72 (.sl h0.length (([] : List Cell).length) 0 0) l_4 (h0 ++ [some (Blk.mk true 9 ([] : List Cell))]) fun x_2 h_3 => some ([(.c x_2)], h_3) else none := by kernel_rfl

/- slices.ContainsFunc(()()jacquard/api.Ins,()jacquard/api.Ins): 130 -/
set_option maxRecDepth 100000 in
theorem slices_ContainsFunc_ssIns_sIns_eq (C : CallF) (L : LoopF) (G : Glo) (x0 : Cell) (x1 : Cell) (h0 : AHeap) :
    slices_ContainsFunc_ssIns_sIns.body C L G [(.c x0), (.c x1)] h0 =
    c1 (C 147 [(.c x0), (.c x1)] h0) fun y_2 h_1 => asI .i64 y_2 fun n_3 => some ([(.c (.bool (decide (n_3 ≥ 0))))], h_1) := by kernel_rfl

/- slices.ContainsFunc(()jacquard/api.Atom,jacquard/api.Atom): 132 -/
set_option maxRecDepth 100000 in
theorem slices_ContainsFunc_sAtom_Atom_eq (C : CallF) (L : LoopF) (G : Glo) (x0 : Cell) (x1 : Cell) (h0 : AHeap) :
    slices_ContainsFunc_sAtom_Atom.body C L G [(.c x0), (.c x1)] h0 =
    c1 (C 149 [(.c x0), (.c x1)] h0) fun y_2 h_1 => asI .i64 y_2 fun n_3 => some ([(.c (.bool (decide (n_3 ≥ 0))))], h_1) := by kernel_rfl

/- slices.Index(()byte,byte): 134 -/
def slices_Index_sbyte_byte_k2 (C : CallF) (L : LoopF) (G : Glo) (h0 : AHeap) : Ex → St → Option (List AV × AHeap) :=
  kSeq (fun st => slices_Index_sbyte_byte_p1.exec C L G st (slices_Index_sbyte_byte.fin G h0)) (slices_Index_sbyte_byte.fin G h0)
def slices_Index_sbyte_byte_k3 (C : CallF) (L : LoopF) (G : Glo) (h0 : AHeap) : Ex → St → Option (List AV × AHeap) :=
  kBlk 0 (slices_Index_sbyte_byte_k2 C L G h0)
def slices_Index_sbyte_byte_s1 (x0 : Cell) (a1 : Int) (a7 : Int) (a8 : Int) (h : AHeap) : St := ⟨[.v (.c x0), .v (.c (.int .u8 a1)), .top, .top, .top, .top, .top, .v (.c (.int .i64 a7)), .v (.c (.int .i64 a8)), .top, .top, .top, .top, .top, .top, .top, .top, .top, .top], [], h⟩
def slices_Index_sbyte_byte_F1 (C : CallF) (L : LoopF) (G : Glo) : St → Option (Ex × St) :=
  roundF (fun st f => slices_Index_sbyte_byte_b1.exec C L G st f) [0, 1, 7, 8] [] [(0, [4], []), (1, [], [])]
def slices_Index_sbyte_byte_x1_0 (a4 : Int) (h : AHeap) : St := ⟨[.top, .top, .top, .top, .v (.c (.int .i64 a4)), .top, .top, .top, .top, .top, .top, .top, .top, .top, .top, .top, .top, .top, .top], [], h⟩
def slices_Index_sbyte_byte_x1_1 (h : AHeap) : St := ⟨[.top, .top, .top, .top, .top, .top, .top, .top, .top, .top, .top, .top, .top, .top, .top, .top, .top, .top, .top], [], h⟩
theorem slices_Index_sbyte_byte_r1 (C : CallF) (L : LoopF) (G : Glo) (x0 : Cell) (a1 : Int) (a7 : Int) (a8 : Int) (h : AHeap) :
    slices_Index_sbyte_byte_F1 C L G (slices_Index_sbyte_byte_s1 x0 a1 a7 a8 h) =
    if (decide (a8 < a7)) = true then idxSK 1 x0 a8 fun k_2 N_3 o_4 => rdH h k_2 N_3 fun l_5 => atK l_5 o_4 fun q_6 => asI .u8 (.c q_6) fun n_7 => if (a1 == n_7) = true then some (.ret, (slices_Index_sbyte_byte_x1_0 a8 h)) else some (.normal, (slices_Index_sbyte_byte_s1 x0 a1 a7 (G.wrap .i64 (a8 + 1)) h)) else some ((.exit 0), (slices_Index_sbyte_byte_x1_1 h)) := by kernel_rfl
theorem slices_Index_sbyte_byte_e1_0 (C : CallF) (L : LoopF) (G : Glo) (h0 : AHeap) (a4 : Int) (h : AHeap) :
    (slices_Index_sbyte_byte_k3 C L G h0) .ret (slices_Index_sbyte_byte_x1_0 a4 h) =
    some ([(.c (.int .i64 a4))], h) := by kernel_rfl
theorem slices_Index_sbyte_byte_e1_1 (C : CallF) (L : LoopF) (G : Glo) (h0 : AHeap) (h : AHeap) :
    (slices_Index_sbyte_byte_k3 C L G h0) (.exit 0) (slices_Index_sbyte_byte_x1_1 h) =
    some ([(.c (.int .i64 (-1)))], h) := by kernel_rfl
set_option maxRecDepth 100000 in
theorem slices_Index_sbyte_byte_eq (C : CallF) (L : LoopF) (G : Glo) (x0 : Cell) (a1 : Int) (h0 : AHeap) :
    slices_Index_sbyte_byte.body C L G [(.c x0), (.c (.int .u8 a1))] h0 =
    lenK x0 fun n_1 => (L (slices_Index_sbyte_byte_F1 C L G) (slices_Index_sbyte_byte_s1 x0 a1 n_1 0 h0)).bind fun p_8 => (slices_Index_sbyte_byte_k3 C L G h0) p_8.1 p_8.2 := by kernel_rfl

/- slices.ContainsFunc(()jacquard/api.Init,jacquard/api.Init): 143 -/
set_option maxRecDepth 100000 in
theorem slices_ContainsFunc_sInit_Init_eq (C : CallF) (L : LoopF) (G : Glo) (x0 : Cell) (x1 : Cell) (h0 : AHeap) :
    slices_ContainsFunc_sInit_Init.body C L G [(.c x0), (.c x1)] h0 =
    c1 (C 160 [(.c x0), (.c x1)] h0) fun y_2 h_1 => asI .i64 y_2 fun n_3 => some ([(.c (.bool (decide (n_3 ≥ 0))))], h_1) := by kernel_rfl

/- slices.ContainsFunc(()()jacquard/api.Atom,()jacquard/api.Atom): 146 -/
set_option maxRecDepth 100000 in
theorem slices_ContainsFunc_ssAtom_sAtom_eq (C : CallF) (L : LoopF) (G : Glo) (x0 : Cell) (x1 : Cell) (h0 : AHeap) :
    slices_ContainsFunc_ssAtom_sAtom.body C L G [(.c x0), (.c x1)] h0 =
    c1 (C 162 [(.c x0), (.c x1)] h0) fun y_2 h_1 => asI .i64 y_2 fun n_3 => some ([(.c (.bool (decide (n_3 ≥ 0))))], h_1) := by kernel_rfl

/- slices.IndexFunc(()()jacquard/api.Ins,()jacquard/api.Ins): 147 -/
def slices_IndexFunc_ssIns_sIns_k2 (C : CallF) (L : LoopF) (G : Glo) (h0 : AHeap) : Ex → St → Option (List AV × AHeap) :=
  kSeq (fun st => slices_IndexFunc_ssIns_sIns_p1.exec C L G st (slices_IndexFunc_ssIns_sIns.fin G h0)) (slices_IndexFunc_ssIns_sIns.fin G h0)
def slices_IndexFunc_ssIns_sIns_k3 (C : CallF) (L : LoopF) (G : Glo) (h0 : AHeap) : Ex → St → Option (List AV × AHeap) :=
  kBlk 0 (slices_IndexFunc_ssIns_sIns_k2 C L G h0)
def slices_IndexFunc_ssIns_sIns_s1 (x0 : Cell) (x1 : Cell) (a7 : Int) (a8 : Int) (h : AHeap) : St := ⟨[.v (.c x0), .v (.c x1), .top, .top, .top, .top, .top, .v (.c (.int .i64 a7)), .v (.c (.int .i64 a8)), .top, .top, .top, .top, .top, .top, .top, .top, .top, .top], [], h⟩
def slices_IndexFunc_ssIns_sIns_F1 (C : CallF) (L : LoopF) (G : Glo) : St → Option (Ex × St) :=
  roundF (fun st f => slices_IndexFunc_ssIns_sIns_b1.exec C L G st f) [0, 1, 7, 8] [] [(0, [4], []), (1, [], [])]
def slices_IndexFunc_ssIns_sIns_x1_0 (a4 : Int) (h : AHeap) : St := ⟨[.top, .top, .top, .top, .v (.c (.int .i64 a4)), .top, .top, .top, .top, .top, .top, .top, .top, .top, .top, .top, .top, .top, .top], [], h⟩
def slices_IndexFunc_ssIns_sIns_x1_1 (h : AHeap) : St := ⟨[.top, .top, .top, .top, .top, .top, .top, .top, .top, .top, .top, .top, .top, .top, .top, .top, .top, .top, .top], [], h⟩
theorem slices_IndexFunc_ssIns_sIns_r1 (C : CallF) (L : LoopF) (G : Glo) (x0 : Cell) (x1 : Cell) (a7 : Int) (a8 : Int) (h : AHeap) :
    slices_IndexFunc_ssIns_sIns_F1 C L G (slices_IndexFunc_ssIns_sIns_s1 x0 x1 a7 a8 h) =
    if (decide (a8 < a7)) = true then idxSK 1 x0 a8 fun k_2 N_3 o_4 => rdH h k_2 N_3 fun l_5 => atK l_5 o_4 fun q_6 => fnK x1 fun g_7 l_8 => c1 (C g_7 ([(.c q_6)] ++ l_8) h) fun y_10 h_9 => asB y_10 fun b_11 => if b_11 = true then some (.ret, (slices_IndexFunc_ssIns_sIns_x1_0 a8 h_9)) else some (.normal, (slices_IndexFunc_ssIns_sIns_s1 x0 x1 a7 (G.wrap .i64 (a8 + 1)) h_9)) else some ((.exit 0), (slices_IndexFunc_ssIns_sIns_x1_1 h)) := by kernel_rfl
theorem slices_IndexFunc_ssIns_sIns_e1_0 (C : CallF) (L : LoopF) (G : Glo) (h0 : AHeap) (a4 : Int) (h : AHeap) :
    (slices_IndexFunc_ssIns_sIns_k3 C L G h0) .ret (slices_IndexFunc_ssIns_sIns_x1_0 a4 h) =
    some ([(.c (.int .i64 a4))], h) := by kernel_rfl
theorem slices_IndexFunc_ssIns_sIns_e1_1 (C : CallF) (L : LoopF) (G : Glo) (h0 : AHeap) (h : AHeap) :
    (slices_IndexFunc_ssIns_sIns_k3 C L G h0) (.exit 0) (slices_IndexFunc_ssIns_sIns_x1_1 h) =
    some ([(.c (.int .i64 (-1)))], h) := by kernel_rfl
set_option maxRecDepth 100000 in
theorem slices_IndexFunc_ssIns_sIns_eq (C : CallF) (L : LoopF) (G : Glo) (x0 : Cell) (x1 : Cell) (h0 : AHeap) :
    slices_IndexFunc_ssIns_sIns.body C L G [(.c x0), (.c x1)] h0 =
    lenK x0 fun n_1 => (L (slices_IndexFunc_ssIns_sIns_F1 C L G) (slices_IndexFunc_ssIns_sIns_s1 x0 x1 n_1 0 h0)).bind fun p_12 => (slices_IndexFunc_ssIns_sIns_k3 C L G h0) p_12.1 p_12.2 := by kernel_rfl

/- slices.IndexFunc(()jacquard/api.Atom,jacquard/api.Atom): 149 -/
def slices_IndexFunc_sAtom_Atom_k2 (C : CallF) (L : LoopF) (G : Glo) (h0 : AHeap) : Ex → St → Option (List AV × AHeap) :=
  kSeq (fun st => slices_IndexFunc_sAtom_Atom_p1.exec C L G st (slices_IndexFunc_sAtom_Atom.fin G h0)) (slices_IndexFunc_sAtom_Atom.fin G h0)
def slices_IndexFunc_sAtom_Atom_k3 (C : CallF) (L : LoopF) (G : Glo) (h0 : AHeap) : Ex → St → Option (List AV × AHeap) :=
  kBlk 0 (slices_IndexFunc_sAtom_Atom_k2 C L G h0)
def slices_IndexFunc_sAtom_Atom_s1 (x0 : Cell) (x1 : Cell) (a7 : Int) (a8 : Int) (h : AHeap) : St := ⟨[.v (.c x0), .v (.c x1), .top, .top, .top, .top, .top, .v (.c (.int .i64 a7)), .v (.c (.int .i64 a8)), .top, .top, .top, .top, .top, .top, .top, .top, .top, .top], [], h⟩
def slices_IndexFunc_sAtom_Atom_F1 (C : CallF) (L : LoopF) (G : Glo) : St → Option (Ex × St) :=
  roundF (fun st f => slices_IndexFunc_sAtom_Atom_b1.exec C L G st f) [0, 1, 7, 8] [] [(0, [4], []), (1, [], [])]
def slices_IndexFunc_sAtom_Atom_x1_0 (a4 : Int) (h : AHeap) : St := ⟨[.top, .top, .top, .top, .v (.c (.int .i64 a4)), .top, .top, .top, .top, .top, .top, .top, .top, .top, .top, .top, .top, .top, .top], [], h⟩
def slices_IndexFunc_sAtom_Atom_x1_1 (h : AHeap) : St := ⟨[.top, .top, .top, .top, .top, .top, .top, .top, .top, .top, .top, .top, .top, .top, .top, .top, .top, .top, .top], [], h⟩
theorem slices_IndexFunc_sAtom_Atom_r1 (C : CallF) (L : LoopF) (G : Glo) (x0 : Cell) (x1 : Cell) (a7 : Int) (a8 : Int) (h : AHeap) :
    slices_IndexFunc_sAtom_Atom_F1 C L G (slices_IndexFunc_sAtom_Atom_s1 x0 x1 a7 a8 h) =
    if (decide (a8 < a7)) = true then idxSK 4 x0 a8 fun k_2 N_3 o_4 => rdH h k_2 N_3 fun l_5 => if o_4 + 4 ≤ l_5.length then fnK x1 fun g_6 l_7 => c1 (C g_6 ([(.agg ((l_5.drop o_4).take 4))] ++ l_7) h) fun y_9 h_8 => asB y_9 fun b_10 => if b_10 = true then some (.ret, (slices_IndexFunc_sAtom_Atom_x1_0 a8 h_8)) else some (.normal, (slices_IndexFunc_sAtom_Atom_s1 x0 x1 a7 (G.wrap .i64 (a8 + 1)) h_8)) else none else some ((.exit 0), (slices_IndexFunc_sAtom_Atom_x1_1 h)) := by kernel_rfl
theorem slices_IndexFunc_sAtom_Atom_e1_0 (C : CallF) (L : LoopF) (G : Glo) (h0 : AHeap) (a4 : Int) (h : AHeap) :
    (slices_IndexFunc_sAtom_Atom_k3 C L G h0) .ret (slices_IndexFunc_sAtom_Atom_x1_0 a4 h) =
    some ([(.c (.int .i64 a4))], h) := by kernel_rfl
theorem slices_IndexFunc_sAtom_Atom_e1_1 (C : CallF) (L : LoopF) (G : Glo) (h0 : AHeap) (h : AHeap) :
    (slices_IndexFunc_sAtom_Atom_k3 C L G h0) (.exit 0) (slices_IndexFunc_sAtom_Atom_x1_1 h) =
    some ([(.c (.int .i64 (-1)))], h) := by kernel_rfl
set_option maxRecDepth 100000 in
theorem slices_IndexFunc_sAtom_Atom_eq (C : CallF) (L : LoopF) (G : Glo) (x0 : Cell) (x1 : Cell) (h0 : AHeap) :
    slices_IndexFunc_sAtom_Atom.body C L G [(.c x0), (.c x1)] h0 =
    lenK x0 fun n_1 => (L (slices_IndexFunc_sAtom_Atom_F1 C L G) (slices_IndexFunc_sAtom_Atom_s1 x0 x1 n_1 0 h0)).bind fun p_11 => (slices_IndexFunc_sAtom_Atom_k3 C L G h0) p_11.1 p_11.2 := by kernel_rfl

/- slices.ContainsFunc(()jacquard/api.Ins,jacquard/api.Ins): 155 -/
set_option maxRecDepth 100000 in
theorem slices_ContainsFunc_sIns_Ins_eq (C : CallF) (L : LoopF) (G : Glo) (x0 : Cell) (x1 : Cell) (h0 : AHeap) :
    slices_ContainsFunc_sIns_Ins.body C L G [(.c x0), (.c x1)] h0 =
    c1 (C 156 [(.c x0), (.c x1)] h0) fun y_2 h_1 => asI .i64 y_2 fun n_3 => some ([(.c (.bool (decide (n_3 ≥ 0))))], h_1) := by kernel_rfl

/- slices.IndexFunc(()jacquard/api.Ins,jacquard/api.Ins): 156 -/
def slices_IndexFunc_sIns_Ins_k2 (C : CallF) (L : LoopF) (G : Glo) (h0 : AHeap) : Ex → St → Option (List AV × AHeap) :=
  kSeq (fun st => slices_IndexFunc_sIns_Ins_p1.exec C L G st (slices_IndexFunc_sIns_Ins.fin G h0)) (slices_IndexFunc_sIns_Ins.fin G h0)
def slices_IndexFunc_sIns_Ins_k3 (C : CallF) (L : LoopF) (G : Glo) (h0 : AHeap) : Ex → St → Option (List AV × AHeap) :=
  kBlk 0 (slices_IndexFunc_sIns_Ins_k2 C L G h0)
def slices_IndexFunc_sIns_Ins_s1 (x0 : Cell) (x1 : Cell) (a7 : Int) (a8 : Int) (h : AHeap) : St := ⟨[.v (.c x0), .v (.c x1), .top, .top, .top, .top, .top, .v (.c (.int .i64 a7)), .v (.c (.int .i64 a8)), .top, .top, .top, .top, .top, .top, .top, .top, .top, .top], [], h⟩
def slices_IndexFunc_sIns_Ins_F1 (C : CallF) (L : LoopF) (G : Glo) : St → Option (Ex × St) :=
  roundF (fun st f => slices_IndexFunc_sIns_Ins_b1.exec C L G st f) [0, 1, 7, 8] [] [(0, [4], []), (1, [], [])]
def slices_IndexFunc_sIns_Ins_x1_0 (a4 : Int) (h : AHeap) : St := ⟨[.top, .top, .top, .top, .v (.c (.int .i64 a4)), .top, .top, .top, .top, .top, .top, .top, .top, .top, .top, .top, .top, .top, .top], [], h⟩
def slices_IndexFunc_sIns_Ins_x1_1 (h : AHeap) : St := ⟨[.top, .top, .top, .top, .top, .top, .top, .top, .top, .top, .top, .top, .top, .top, .top, .top, .top, .top, .top], [], h⟩
theorem slices_IndexFunc_sIns_Ins_r1 (C : CallF) (L : LoopF) (G : Glo) (x0 : Cell) (x1 : Cell) (a7 : Int) (a8 : Int) (h : AHeap) :
    slices_IndexFunc_sIns_Ins_F1 C L G (slices_IndexFunc_sIns_Ins_s1 x0 x1 a7 a8 h) =
    if (decide (a8 < a7)) = true then idxSK 9 x0 a8 fun k_2 N_3 o_4 => rdH h k_2 N_3 fun l_5 => if o_4 + 9 ≤ l_5.length then fnK x1 fun g_6 l_7 => c1 (C g_6 ([(.agg ((l_5.drop o_4).take 9))] ++ l_7) h) fun y_9 h_8 => asB y_9 fun b_10 => if b_10 = true then some (.ret, (slices_IndexFunc_sIns_Ins_x1_0 a8 h_8)) else some (.normal, (slices_IndexFunc_sIns_Ins_s1 x0 x1 a7 (G.wrap .i64 (a8 + 1)) h_8)) else none else some ((.exit 0), (slices_IndexFunc_sIns_Ins_x1_1 h)) := by kernel_rfl
theorem slices_IndexFunc_sIns_Ins_e1_0 (C : CallF) (L : LoopF) (G : Glo) (h0 : AHeap) (a4 : Int) (h : AHeap) :
    (slices_IndexFunc_sIns_Ins_k3 C L G h0) .ret (slices_IndexFunc_sIns_Ins_x1_0 a4 h) =
    some ([(.c (.int .i64 a4))], h) := by kernel_rfl
theorem slices_IndexFunc_sIns_Ins_e1_1 (C : CallF) (L : LoopF) (G : Glo) (h0 : AHeap) (h : AHeap) :
    (slices_IndexFunc_sIns_Ins_k3 C L G h0) (.exit 0) (slices_IndexFunc_sIns_Ins_x1_1 h) =
    some ([(.c (.int .i64 (-1)))], h) := by kernel_rfl
set_option maxRecDepth 100000 in
theorem slices_IndexFunc_sIns_Ins_eq (C : CallF) (L : LoopF) (G : Glo) (x0 : Cell) (x1 : Cell) (h0 : AHeap) :
    slices_IndexFunc_sIns_Ins.body C L G [(.c x0), (.c x1)] h0 =
    lenK x0 fun n_1 => (L (slices_IndexFunc_sIns_Ins_F1 C L G) (slices_IndexFunc_sIns_Ins_s1 x0 x1 n_1 0 h0)).bind fun p_11 => (slices_IndexFunc_sIns_Ins_k3 C L G h0) p_11.1 p_11.2 := by kernel_rfl

/- slices.IndexFunc(()jacquard/api.Init,jacquard/api.Init): 160 -/
def slices_IndexFunc_sInit_Init_k2 (C : CallF) (L : LoopF) (G : Glo) (h0 : AHeap) : Ex → St → Option (List AV × AHeap) :=
  kSeq (fun st => slices_IndexFunc_sInit_Init_p1.exec C L G st (slices_IndexFunc_sInit_Init.fin G h0)) (slices_IndexFunc_sInit_Init.fin G h0)
def slices_IndexFunc_sInit_Init_k3 (C : CallF) (L : LoopF) (G : Glo) (h0 : AHeap) : Ex → St → Option (List AV × AHeap) :=
  kBlk 0 (slices_IndexFunc_sInit_Init_k2 C L G h0)
def slices_IndexFunc_sInit_Init_s1 (x0 : Cell) (x1 : Cell) (a7 : Int) (a8 : Int) (h : AHeap) : St := ⟨[.v (.c x0), .v (.c x1), .top, .top, .top, .top, .top, .v (.c (.int .i64 a7)), .v (.c (.int .i64 a8)), .top, .top, .top, .top, .top, .top, .top, .top, .top, .top], [], h⟩
def slices_IndexFunc_sInit_Init_F1 (C : CallF) (L : LoopF) (G : Glo) : St → Option (Ex × St) :=
  roundF (fun st f => slices_IndexFunc_sInit_Init_b1.exec C L G st f) [0, 1, 7, 8] [] [(0, [4], []), (1, [], [])]
def slices_IndexFunc_sInit_Init_x1_0 (a4 : Int) (h : AHeap) : St := ⟨[.top, .top, .top, .top, .v (.c (.int .i64 a4)), .top, .top, .top, .top, .top, .top, .top, .top, .top, .top, .top, .top, .top, .top], [], h⟩
def slices_IndexFunc_sInit_Init_x1_1 (h : AHeap) : St := ⟨[.top, .top, .top, .top, .top, .top, .top, .top, .top, .top, .top, .top, .top, .top, .top, .top, .top, .top, .top], [], h⟩
theorem slices_IndexFunc_sInit_Init_r1 (C : CallF) (L : LoopF) (G : Glo) (x0 : Cell) (x1 : Cell) (a7 : Int) (a8 : Int) (h : AHeap) :
    slices_IndexFunc_sInit_Init_F1 C L G (slices_IndexFunc_sInit_Init_s1 x0 x1 a7 a8 h) =
    if (decide (a8 < a7)) = true then idxSK 2 x0 a8 fun k_2 N_3 o_4 => rdH h k_2 N_3 fun l_5 => if o_4 + 2 ≤ l_5.length then fnK x1 fun g_6 l_7 => c1 (C g_6 ([(.agg ((l_5.drop o_4).take 2))] ++ l_7) h) fun y_9 h_8 => asB y_9 fun b_10 => if b_10 = true then some (.ret, (slices_IndexFunc_sInit_Init_x1_0 a8 h_8)) else some (.normal, (slices_IndexFunc_sInit_Init_s1 x0 x1 a7 (G.wrap .i64 (a8 + 1)) h_8)) else none else some ((.exit 0), (slices_IndexFunc_sInit_Init_x1_1 h)) := by kernel_rfl
theorem slices_IndexFunc_sInit_Init_e1_0 (C : CallF) (L : LoopF) (G : Glo) (h0 : AHeap) (a4 : Int) (h : AHeap) :
    (slices_IndexFunc_sInit_Init_k3 C L G h0) .ret (slices_IndexFunc_sInit_Init_x1_0 a4 h) =
    some ([(.c (.int .i64 a4))], h) := by kernel_rfl
theorem slices_IndexFunc_sInit_Init_e1_1 (C : CallF) (L : LoopF) (G : Glo) (h0 : AHeap) (h : AHeap) :
    (slices_IndexFunc_sInit_Init_k3 C L G h0) (.exit 0) (slices_IndexFunc_sInit_Init_x1_1 h) =
    some ([(.c (.int .i64 (-1)))], h) := by kernel_rfl
set_option maxRecDepth 100000 in
theorem slices_IndexFunc_sInit_Init_eq (C : CallF) (L : LoopF) (G : Glo) (x0 : Cell) (x1 : Cell) (h0 : AHeap) :
    slices_IndexFunc_sInit_Init.body C L G [(.c x0), (.c x1)] h0 =
    lenK x0 fun n_1 => (L (slices_IndexFunc_sInit_Init_F1 C L G) (slices_IndexFunc_sInit_Init_s1 x0 x1 n_1 0 h0)).bind fun p_11 => (slices_IndexFunc_sInit_Init_k3 C L G h0) p_11.1 p_11.2 := by kernel_rfl

/- slices.IndexFunc(()()jacquard/api.Atom,()jacquard/api.Atom): 162 -/
def slices_IndexFunc_ssAtom_sAtom_k2 (C : CallF) (L : LoopF) (G : Glo) (h0 : AHeap) : Ex → St → Option (List AV × AHeap) :=
  kSeq (fun st => slices_IndexFunc_ssAtom_sAtom_p1.exec C L G st (slices_IndexFunc_ssAtom_sAtom.fin G h0)) (slices_IndexFunc_ssAtom_sAtom.fin G h0)
def slices_IndexFunc_ssAtom_sAtom_k3 (C : CallF) (L : LoopF) (G : Glo) (h0 : AHeap) : Ex → St → Option (List AV × AHeap) :=
  kBlk 0 (slices_IndexFunc_ssAtom_sAtom_k2 C L G h0)
def slices_IndexFunc_ssAtom_sAtom_s1 (x0 : Cell) (x1 : Cell) (a7 : Int) (a8 : Int) (h : AHeap) : St := ⟨[.v (.c x0), .v (.c x1), .top, .top, .top, .top, .top, .v (.c (.int .i64 a7)), .v (.c (.int .i64 a8)), .top, .top, .top, .top, .top, .top, .top, .top, .top, .top], [], h⟩
def slices_IndexFunc_ssAtom_sAtom_F1 (C : CallF) (L : LoopF) (G : Glo) : St → Option (Ex × St) :=
  roundF (fun st f => slices_IndexFunc_ssAtom_sAtom_b1.exec C L G st f) [0, 1, 7, 8] [] [(0, [4], []), (1, [], [])]
def slices_IndexFunc_ssAtom_sAtom_x1_0 (a4 : Int) (h : AHeap) : St := ⟨[.top, .top, .top, .top, .v (.c (.int .i64 a4)), .top, .top, .top, .top, .top, .top, .top, .top, .top, .top, .top, .top, .top, .top], [], h⟩
def slices_IndexFunc_ssAtom_sAtom_x1_1 (h : AHeap) : St := ⟨[.top, .top, .top, .top, .top, .top, .top, .top, .top, .top, .top, .top, .top, .top, .top, .top, .top, .top, .top], [], h⟩
theorem slices_IndexFunc_ssAtom_sAtom_r1 (C : CallF) (L : LoopF) (G : Glo) (x0 : Cell) (x1 : Cell) (a7 : Int) (a8 : Int) (h : AHeap) :
    slices_IndexFunc_ssAtom_sAtom_F1 C L G (slices_IndexFunc_ssAtom_sAtom_s1 x0 x1 a7 a8 h) =
    if (decide (a8 < a7)) = true then idxSK 1 x0 a8 fun k_2 N_3 o_4 => rdH h k_2 N_3 fun l_5 => atK l_5 o_4 fun q_6 => fnK x1 fun g_7 l_8 => c1 (C g_7 ([(.c q_6)] ++ l_8) h) fun y_10 h_9 => asB y_10 fun b_11 => if b_11 = true then some (.ret, (slices_IndexFunc_ssAtom_sAtom_x1_0 a8 h_9)) else some (.normal, (slices_IndexFunc_ssAtom_sAtom_s1 x0 x1 a7 (G.wrap .i64 (a8 + 1)) h_9)) else some ((.exit 0), (slices_IndexFunc_ssAtom_sAtom_x1_1 h)) := by kernel_rfl
theorem slices_IndexFunc_ssAtom_sAtom_e1_0 (C : CallF) (L : LoopF) (G : Glo) (h0 : AHeap) (a4 : Int) (h : AHeap) :
    (slices_IndexFunc_ssAtom_sAtom_k3 C L G h0) .ret (slices_IndexFunc_ssAtom_sAtom_x1_0 a4 h) =
    some ([(.c (.int .i64 a4))], h) := by kernel_rfl
theorem slices_IndexFunc_ssAtom_sAtom_e1_1 (C : CallF) (L : LoopF) (G : Glo) (h0 : AHeap) (h : AHeap) :
    (slices_IndexFunc_ssAtom_sAtom_k3 C L G h0) (.exit 0) (slices_IndexFunc_ssAtom_sAtom_x1_1 h) =
    some ([(.c (.int .i64 (-1)))], h) := by kernel_rfl
set_option maxRecDepth 100000 in
theorem slices_IndexFunc_ssAtom_sAtom_eq (C : CallF) (L : LoopF) (G : Glo) (x0 : Cell) (x1 : Cell) (h0 : AHeap) :
    slices_IndexFunc_ssAtom_sAtom.body C L G [(.c x0), (.c x1)] h0 =
    lenK x0 fun n_1 => (L (slices_IndexFunc_ssAtom_sAtom_F1 C L G) (slices_IndexFunc_ssAtom_sAtom_s1 x0 x1 n_1 0 h0)).bind fun p_12 => (slices_IndexFunc_ssAtom_sAtom_k3 C L G h0) p_12.1 p_12.2 := by kernel_rfl


end Jq

/- Events: those at the beginning; their order; whether two rows are the same; laws of them. -/
namespace Jq
open Go

def initsE (l : List Int) : List Evt := (List.range l.length).map fun (i : Nat) => ⟨-1, i, 2, i, 0, l.getD i 0⟩

theorem getDI {l : List Int} {i : Nat} (hi : i < l.length) : l[i]? = some (l.getD i 0) := by
  rw [List.getD_eq_getElem?_getD, List.getElem?_eq_getElem hi]; rfl

theorem takeI_succ {α : Type} {l : List α} {i : Nat} {p : α} (h : l[i]? = some p) : l.take (i + 1) = l.take i ++ [p] := by
  rw [List.take_add_one, h]; rfl

def shEv : Sh := .agg (Sh.rep (.i .i64) 6)
section
variable {E : Env}

def evRd (e : Evt) : Bool := e.kind == 1 || e.kind == 4 || e.kind == 5
def evWr (e : Evt) : Bool := e.kind == 2 || e.kind == 4
def evFn (e : Evt) : Bool := e.kind == 3 || e.kind == 4 || e.kind == 5

/-- Is one ahead of another by their threads? -/
def poB (a b : Evt) : Bool := (decide (a.t < 0) && decide (b.t ≥ 0)) || (decide (a.t ≥ 0) && a.t == b.t && decide (a.i < b.i))
def poL (l : List Evt) (a b : Nat) : Bool := poB (l.getD a ⟨0, 0, 0, 0, 0, 0⟩) (l.getD b ⟨0, 0, 0, 0, 0, 0⟩)

end
end Jq

/- Tests in memory; their locations; made ready as the document says. -/
namespace Jq
open Go

structure Atm where
  thread : Int
  reg : Int
  loc : Int
  value : Int
def Atm.cs (a : Atm) : List Cell := [.int .i64 a.thread, .int .i64 a.reg, .int .i64 a.loc, .int .i64 a.value]
def atmC (l : List Atm) : List Cell := l.flatMap Atm.cs
theorem Atm.len (a : Atm) : a.cs.length = 4 := rfl
theorem atmC_at : ∀ (l : List Atm) (i : Nat) (s : Atm), l[i]? = some s → ((atmC l).drop (i * 4)).take 4 = s.cs
  | [], _, _, h => by simp at h
  | q :: l, 0, s, h => by simp at h; subst h; rfl
  | q :: l, i + 1, s, h => by
    have := atmC_at l i s (by simpa using h)
    have e : atmC (q :: l) = q.cs ++ atmC l := rfl
    rw [e, List.drop_append, List.drop_of_length_le (by rw [Atm.len]; omega), List.nil_append, show (i + 1) * 4 - q.cs.length = i * 4 by rw [Atm.len]; omega]
    exact this
theorem atmC_cell {l : List Atm} {i j : Nat} {s : Atm} {c : Cell} (h : l[i]? = some s) (hj : j < 4) (hc : s.cs[j]? = some c) : (atmC l)[i * 4 + j]? = some c := by
  rw [← hc, ← atmC_at l i s h, List.getElem?_take, if_pos hj, List.getElem?_drop]
theorem codeC_cell {l : List Ins} {i j : Nat} {s : Ins} {c : Cell} (h : l[i]? = some s) (hj : j < 9) (hc : s.cs[j]? = some c) : (codeC l)[i * 9 + j]? = some c := by
  rw [← hc, ← codeC_at l i s h, List.getElem?_take, if_pos hj, List.getElem?_drop]

structure PTest where
  name : ByteArray
  inits : List (Int × Int)
  thr : List (List Ins)
  ck : Int
  any : List (List Atm)

/-- Rows that lie there. -/
def RowsOf {α : Type} (esz : Nat) (C : List α → List Cell) (h : AHeap) (x : Cell) (rows : List (List α)) : Prop :=
  ∃ ts, SlAt h x 1 ts rows.length ∧ Low h.length x ∧ ∀ (t : Nat) (r : List α), rows[t]? = some r → ∃ y : Cell, ts[t]? = some y ∧ SlAt h y esz (C r) r.length ∧ Low h.length y

theorem RowsOf.keep {α : Type} {esz : Nat} {C : List α → List Cell} {h h' : AHeap} {x : Cell} {rows : List (List α)} (r : RowsOf esz C h x rows) (hk : Kp h.length h h') : RowsOf esz C h' x rows := by
  obtain ⟨ts, h1, h2, h3⟩ := r
  exact ⟨ts, h1.keep h2 hk, Low_mono hk.1 h2, fun t r hr => by
    obtain ⟨y, y1, y2, y3⟩ := h3 t r hr
    exact ⟨y, y1, y2.keep y3 hk, Low_mono hk.1 y3⟩⟩

theorem RowsOf.get {α β : Type} {esz : Nat} {C : List α → List Cell} {h : AHeap} {x : Cell} {rows : List (List α)} (r : RowsOf esz C h x rows) {t : Nat} {row : List α} (ht : rows[t]? = some row) :
    ∃ y, SlAt h y esz (C row) row.length ∧ Low h.length y ∧ ∀ (f : Cell → Option β), (idxSK 1 x (t : Int) fun k N o => rdH h k N fun l => atK l o f) = f y := by
  obtain ⟨ts, h1, h2, h3⟩ := r
  obtain ⟨y, y1, y2, y3⟩ := h3 t row ht
  exact ⟨y, y2, y3, fun f => h1.get1 (getI_lt ht) y1⟩

theorem RowsOf.len {α β : Type} {esz : Nat} {C : List α → List Cell} {h : AHeap} {x : Cell} {rows : List (List α)} (r : RowsOf esz C h x rows) {f : Int → Option β} : lenK x f = f rows.length := by
  obtain ⟨ts, h1, _⟩ := r; exact h1.len

/-- A test lies there. -/
def TestAt (h : AHeap) (cs : List Cell) (T : PTest) : Prop :=
  ∃ a b c, cs = [.str T.name, a, b, .int .i64 T.ck, c] ∧ (SlAt h a 2 (pairC T.inits) T.inits.length ∧ Low h.length a) ∧ RowsOf 9 codeC h b T.thr ∧ RowsOf 4 atmC h c T.any

theorem TestAt.keep {h h' : AHeap} {cs : List Cell} {T : PTest} (p : TestAt h cs T) (hk : Kp h.length h h') : TestAt h' cs T := by
  obtain ⟨a, b, c, e, ⟨a1, a2⟩, hb, hc⟩ := p
  exact ⟨a, b, c, e, ⟨a1.keep a2 hk, Low_mono hk.1 a2⟩, hb.keep hk, hc.keep hk⟩

theorem TestAt.len {h : AHeap} {cs : List Cell} {T : PTest} (p : TestAt h cs T) : cs.length = 5 := by
  obtain ⟨a, b, c, rfl, _⟩ := p; rfl

/-- Nothing of a test is long. -/
structure PTest.small (T : PTest) : Prop where
  inits : T.inits.length ≤ 1000
  thr : T.thr.length ≤ 1000
  code : ∀ c ∈ T.thr, c.length ≤ 1000
  any : T.any.length ≤ 1000
  row : ∀ c ∈ T.any, c.length ≤ 1000

/-- Is a letter named? -/
def thereT (T : PTest) (b : Nat) : Bool := (T.inits.any fun p => p.1 % 256 == (b : Int)) || (T.thr.any fun c => c.any fun i => i.loc % 256 == (b : Int)) || (T.any.any fun c => c.any fun a => a.loc % 256 == (b : Int))

/-- The locations, in order. -/
def locsF (S : Nat → Bool) (n : Nat) : List Int := ((List.range n).filter fun c => S (97 + c)).map fun (c : Nat) => ((97 + c : Nat) : Int)
def locsT (T : PTest) : List Int := locsF (thereT T) 26

theorem locsF_succ (S : Nat → Bool) (n : Nat) : locsF S (n + 1) = if S (97 + n) = true then locsF S n ++ [((97 + n : Nat) : Int)] else locsF S n := by
  unfold locsF
  rw [List.range_succ, List.filter_append, List.filter_cons, List.filter_nil]
  split <;> simp

theorem locsF_len (S : Nat → Bool) : ∀ n, (locsF S n).length ≤ n
  | 0 => by simp [locsF]
  | n + 1 => by
    have := locsF_len S n
    rw [locsF_succ]; split
    · rw [List.length_append, List.length_singleton]; omega
    · omega

theorem locsF_mem {S : Nat → Bool} {n : Nat} {x : Int} : x ∈ locsF S n ↔ ∃ c, c < n ∧ S (97 + c) = true ∧ x = ((97 + c : Nat) : Int) := by
  unfold locsF
  rw [List.mem_map]
  constructor
  · rintro ⟨c, hc, rfl⟩
    rw [List.mem_filter] at hc
    exact ⟨c, by simpa using hc.1, hc.2, rfl⟩
  · rintro ⟨c, h1, h2, rfl⟩
    exact ⟨c, by rw [List.mem_filter]; exact ⟨by simpa using h1, h2⟩, rfl⟩

theorem boolL_congr {s t : Nat → Bool} {n : Nat} (h : ∀ i, i < n → s i = t i) : boolL s n = boolL t n := List.map_congr_left fun i hi => by rw [h i (by simpa using hi)]

theorem mark_next {S S' : Nat → Bool} {v : Int} (h : ∀ b : Nat, b < 256 → S' b = (S b || (v % 256 == (b : Int)))) :
    (boolL S 256).set (0 + (v % 256).toNat * 1) (.bool true) = boolL S' 256 := by
  rw [show 0 + (v % 256).toNat * 1 = (v % 256).toNat by omega, boolL_set]
  refine boolL_congr fun i hi => ?_
  rw [h i hi]
  by_cases e : i = (v % 256).toNat
  · rw [if_pos e, show (v % 256 == (i : Int)) = true by rw [beq_iff_eq]; omega, Bool.or_true]
  · rw [if_neg e, show (v % 256 == (i : Int)) = false by rw [beq_eq_false_iff_ne]; omega, Bool.or_false]

theorem any_take_succ {α : Type} {l : List α} {i : Nat} {p : α} (h : l[i]? = some p) (f : α → Bool) : (l.take (i + 1)).any f = ((l.take i).any f || f p) := by
  rw [takeI_succ h, List.any_append]; simp

section
variable {E : Env}

theorem refLocs_R (hE : jacquardref2_Locs_In E) {cs : List Cell} {T : PTest} {h : AHeap} (p : TestAt h cs T) (hs : T.small) :
    ∃ y h', R E 121 [.agg cs] h = some ([.c y], h') ∧ Own h.length h' y 1 (intC .u8 (locsT T)) (locsT T).length ∧ Kp h.length h h' := by
  obtain ⟨a, b, c, rfl, ⟨ha, hal⟩, hb, hc⟩ := p
  have a1 : ∀ {α : Type} (f : Cell → Option α), atK [.str T.name, a, b, .int .i64 T.ck, c] 1 f = f a := fun _ => rfl
  have a2 : ∀ {α : Type} (f : Cell → Option α), atK [.str T.name, a, b, .int .i64 T.ck, c] 2 f = f b := fun _ => rfl
  have a4 : ∀ {α : Type} (f : Cell → Option α), atK [.str T.name, a, b, .int .i64 T.ck, c] 4 f = f c := fun _ => rfl
  have w : ∀ v : Int, 0 ≤ v % 256 ∧ v % 256 < ((256 : Nat) : Int) := fun v => by omega
  have w2 : ∀ (v : Int) (S : Nat → Bool), 0 + Int.toNat (v % 256) * 1 < (boolL S 256).length := fun v S => by rw [boolL_len]; omega
  have loop1 : Lim (jacquardref2_Locs_F1 (R E) Lim E.glob) (jacquardref2_Locs_s1 ((0 : Nat) : Int) [.str T.name, a, b, .int .i64 T.ck, c] (boolL (fun q => (T.inits.take 0).any fun p => p.1 % 256 == (q : Int)) 256) h) = some (.exit 0, jacquardref2_Locs_x1_1 [.str T.name, a, b, .int .i64 T.ck, c] (boolL (fun q => (T.inits.take T.inits.length).any fun p => p.1 % 256 == (q : Int)) 256) h) := by
    refine Lim_count (fun i => jacquardref2_Locs_s1 (i : Int) [.str T.name, a, b, .int .i64 T.ck, c] (boolL (fun q => (T.inits.take i).any fun p => p.1 % 256 == (q : Int)) 256) h) 0 T.inits.length (by omega) (fun i _ hi => ?_) (Lim_exit ?_)
    · have hq : T.inits[i]? = some T.inits[i] := List.getElem?_eq_getElem hi
      generalize T.inits[i] = q at hq
      have := hs.inits
      rw [jacquardref2_Locs_r1, a1, ha.len, if_pos (by simp; omega), a1, ha.get hi (by omega) (pairC_get _ _ _ hq).1, asI_ok, g_band255, if_pos (w _), if_pos (w2 _ _), g_succ (by omega), mark_next (S' := fun r => (T.inits.take (i + 1)).any fun p => p.1 % 256 == (r : Int)) (fun r _ => any_take_succ hq _)]
    · rw [jacquardref2_Locs_r1, a1, ha.len, if_neg (by simp)]
  rw [List.take_length] at loop1
  generalize hS1 : (fun q : Nat => T.inits.any fun p => p.1 % 256 == (q : Int)) = S1 at loop1
  have loop2 : ∀ (t : Nat) (code : List Ins) (S : Nat → Bool), T.thr[t]? = some code → Lim (jacquardref2_Locs_F2 (R E) Lim E.glob) (jacquardref2_Locs_s2 (t : Int) ((0 : Nat) : Int) [.str T.name, a, b, .int .i64 T.ck, c] (boolL (fun q => S q || (code.take 0).any fun i => i.loc % 256 == (q : Int)) 256) h) = some (.exit 4, jacquardref2_Locs_x2_5 (t : Int) [.str T.name, a, b, .int .i64 T.ck, c] (boolL (fun q => S q || (code.take code.length).any fun i => i.loc % 256 == (q : Int)) 256) h) := by
    intro t code S ht
    obtain ⟨y, y1, y2, y3⟩ := hb.get (β := Ex × St) ht
    refine Lim_count (fun i => jacquardref2_Locs_s2 (t : Int) (i : Int) [.str T.name, a, b, .int .i64 T.ck, c] (boolL (fun q => S q || (code.take i).any fun i => i.loc % 256 == (q : Int)) 256) h) 0 code.length (by omega) (fun i _ hi => ?_) (Lim_exit ?_)
    · have hq : code[i]? = some code[i] := List.getElem?_eq_getElem hi
      generalize code[i] = q at hq
      have := hs.code code (List.mem_of_getElem? ht)
      rw [jacquardref2_Locs_r2, a2, y3, y1.len, if_pos (by simp; omega), a2, y3, y1.get hi (by omega) (codeC_cell hq (by omega) (c := .int .i64 q.loc) rfl), asI_ok, g_band255, if_pos (w _), if_pos (w2 _ _), g_succ (by omega), mark_next (S' := fun r => S r || (code.take (i + 1)).any fun i => i.loc % 256 == (r : Int)) (fun r _ => by rw [any_take_succ hq, Bool.or_assoc])]
    · rw [jacquardref2_Locs_r2, a2, y3, y1.len, if_neg (by simp)]
  have loop3 : Lim (jacquardref2_Locs_F3 (R E) Lim E.glob) (jacquardref2_Locs_s3 ((0 : Nat) : Int) [.str T.name, a, b, .int .i64 T.ck, c] (boolL (fun q => S1 q || (T.thr.take 0).any fun c => c.any fun i => i.loc % 256 == (q : Int)) 256) h) = some (.exit 2, jacquardref2_Locs_x3_3 [.str T.name, a, b, .int .i64 T.ck, c] (boolL (fun q => S1 q || (T.thr.take T.thr.length).any fun c => c.any fun i => i.loc % 256 == (q : Int)) 256) h) := by
    refine Lim_count (fun t => jacquardref2_Locs_s3 (t : Int) [.str T.name, a, b, .int .i64 T.ck, c] (boolL (fun q => S1 q || (T.thr.take t).any fun c => c.any fun i => i.loc % 256 == (q : Int)) 256) h) 0 T.thr.length (by omega) (fun t _ ht => ?_) (Lim_exit ?_)
    · have hq : T.thr[t]? = some T.thr[t] := List.getElem?_eq_getElem ht
      generalize T.thr[t] = code at hq
      have := hs.thr
      have l2 := loop2 t code (fun q => S1 q || (T.thr.take t).any fun c => c.any fun i => i.loc % 256 == (q : Int)) hq
      rw [List.take_length, show ((0 : Nat) : Int) = 0 from rfl] at l2
      have e0 : boolL (fun q => (S1 q || (T.thr.take t).any fun c => c.any fun i => i.loc % 256 == (q : Int)) || (code.take 0).any fun i => i.loc % 256 == (q : Int)) 256 = boolL (fun q => S1 q || (T.thr.take t).any fun c => c.any fun i => i.loc % 256 == (q : Int)) 256 := boolL_congr fun q _ => by simp
      rw [e0] at l2
      rw [jacquardref2_Locs_r3, a2, hb.len, if_pos (by simp; omega), l2, bind_ok, jacquardref2_Locs_e2_5, g_succ (by omega)]
      congr 3
      exact boolL_congr fun q _ => by rw [any_take_succ hq, Bool.or_assoc]
    · rw [jacquardref2_Locs_r3, a2, hb.len, if_neg (by simp)]
  rw [List.take_length] at loop3
  have e3 : boolL (fun q => S1 q || (T.thr.take 0).any fun c => c.any fun i => i.loc % 256 == (q : Int)) 256 = boolL S1 256 := boolL_congr fun q _ => by simp
  rw [e3, show ((0 : Nat) : Int) = 0 from rfl] at loop3
  generalize hS2 : (fun q : Nat => S1 q || T.thr.any fun c => c.any fun i => i.loc % 256 == (q : Int)) = S2 at loop3
  have loop4 : ∀ (t : Nat) (row : List Atm) (S : Nat → Bool), T.any[t]? = some row → Lim (jacquardref2_Locs_F4 (R E) Lim E.glob) (jacquardref2_Locs_s4 (t : Int) ((0 : Nat) : Int) [.str T.name, a, b, .int .i64 T.ck, c] (boolL (fun q => S q || (row.take 0).any fun i => i.loc % 256 == (q : Int)) 256) h) = some (.exit 8, jacquardref2_Locs_x4_9 (t : Int) [.str T.name, a, b, .int .i64 T.ck, c] (boolL (fun q => S q || (row.take row.length).any fun i => i.loc % 256 == (q : Int)) 256) h) := by
    intro t row S ht
    obtain ⟨y, y1, y2, y3⟩ := hc.get (β := Ex × St) ht
    refine Lim_count (fun i => jacquardref2_Locs_s4 (t : Int) (i : Int) [.str T.name, a, b, .int .i64 T.ck, c] (boolL (fun q => S q || (row.take i).any fun i => i.loc % 256 == (q : Int)) 256) h) 0 row.length (by omega) (fun i _ hi => ?_) (Lim_exit ?_)
    · have hq : row[i]? = some row[i] := List.getElem?_eq_getElem hi
      generalize row[i] = q at hq
      have := hs.row row (List.mem_of_getElem? ht)
      rw [jacquardref2_Locs_r4, a4, y3, y1.len, if_pos (by simp; omega), a4, y3, y1.get hi (by omega) (atmC_cell hq (by omega) (c := .int .i64 q.loc) rfl), asI_ok, g_band255, if_pos (w _), if_pos (w2 _ _), g_succ (by omega), mark_next (S' := fun r => S r || (row.take (i + 1)).any fun i => i.loc % 256 == (r : Int)) (fun r _ => by rw [any_take_succ hq, Bool.or_assoc])]
    · rw [jacquardref2_Locs_r4, a4, y3, y1.len, if_neg (by simp)]
  have loop5 : Lim (jacquardref2_Locs_F5 (R E) Lim E.glob) (jacquardref2_Locs_s5 ((0 : Nat) : Int) [.str T.name, a, b, .int .i64 T.ck, c] (boolL (fun q => S2 q || (T.any.take 0).any fun c => c.any fun i => i.loc % 256 == (q : Int)) 256) h) = some (.exit 6, jacquardref2_Locs_x5_7 (boolL (fun q => S2 q || (T.any.take T.any.length).any fun c => c.any fun i => i.loc % 256 == (q : Int)) 256) h) := by
    refine Lim_count (fun t => jacquardref2_Locs_s5 (t : Int) [.str T.name, a, b, .int .i64 T.ck, c] (boolL (fun q => S2 q || (T.any.take t).any fun c => c.any fun i => i.loc % 256 == (q : Int)) 256) h) 0 T.any.length (by omega) (fun t _ ht => ?_) (Lim_exit ?_)
    · have hq : T.any[t]? = some T.any[t] := List.getElem?_eq_getElem ht
      generalize T.any[t] = row at hq
      have := hs.any
      have l2 := loop4 t row (fun q => S2 q || (T.any.take t).any fun c => c.any fun i => i.loc % 256 == (q : Int)) hq
      rw [List.take_length, show ((0 : Nat) : Int) = 0 from rfl] at l2
      have e0 : boolL (fun q => (S2 q || (T.any.take t).any fun c => c.any fun i => i.loc % 256 == (q : Int)) || (row.take 0).any fun i => i.loc % 256 == (q : Int)) 256 = boolL (fun q => S2 q || (T.any.take t).any fun c => c.any fun i => i.loc % 256 == (q : Int)) 256 := boolL_congr fun q _ => by simp
      rw [e0] at l2
      rw [jacquardref2_Locs_r5, a4, hc.len, if_pos (by simp; omega), l2, bind_ok, jacquardref2_Locs_e4_9, g_succ (by omega)]
      congr 3
      exact boolL_congr fun q _ => by rw [any_take_succ hq, Bool.or_assoc]
    · rw [jacquardref2_Locs_r5, a4, hc.len, if_neg (by simp)]
  rw [List.take_length] at loop5
  have e5 : boolL (fun q => S2 q || (T.any.take 0).any fun c => c.any fun i => i.loc % 256 == (q : Int)) 256 = boolL S2 256 := boolL_congr fun q _ => by simp
  rw [e5, show ((0 : Nat) : Int) = 0 from rfl] at loop5
  have hS3 : (fun q : Nat => S2 q || T.any.any fun c => c.any fun i => i.loc % 256 == (q : Int)) = thereT T := by
    funext q; rw [← hS2, ← hS1]; rfl
  rw [hS3] at loop5
  have hm : maxBytes ≥ 100 := by unfold maxBytes; omega
  obtain ⟨st, ⟨y, h1, rfl, hy, hk⟩, hL⟩ := Lim_inv (F := jacquardref2_Locs_F6 (R E) Lim E.glob) (fun i st => ∃ y h1, st = jacquardref2_Locs_s6 y ((97 + i : Nat) : Int) (boolL (thereT T) 256) h1 ∧ Own h.length h1 y 1 (intC .u8 (locsF (thereT T) i)) (locsF (thereT T) i).length ∧ Kp h.length h h1) 0 26 (by omega)
    (fun i st _ hi => by
      rintro ⟨y, h1, rfl, hy, hk⟩
      have hlen := locsF_len (thereT T) i
      have hw : E.glob.wrap .i32 (((97 + i : Nat) : Int) + 1) = ((97 + (i + 1) : Nat) : Int) := by
        show IntKind.wrap .i32 _ = _
        simp only [IntKind.wrap, IntKind.signed, IntKind.bits, Bool.true_and]
        split
        · rename_i hh; have hh := of_decide_eq_true hh; omega
        · omega
      have hw8 : E.glob.wrap .u8 ((97 + i : Nat) : Int) = ((97 + i : Nat) : Int) := by
        show IntKind.wrap .u8 _ = _
        simp only [IntKind.wrap, IntKind.signed, IntKind.bits, Bool.false_and, Bool.false_eq_true, if_false]; omega
      have hrd : jacquardref2_Locs_F6 (R E) Lim E.glob (jacquardref2_Locs_s6 y ((97 + i : Nat) : Int) (boolL (thereT T) 256) h1) = if thereT T (97 + i) = true then appK 1 1 y [.int .u8 ((97 + i : Nat) : Int)] h1 fun x h' => some (.normal, jacquardref2_Locs_s6 x ((97 + (i + 1) : Nat) : Int) (boolL (thereT T) 256) h') else some (.normal, jacquardref2_Locs_s6 y ((97 + (i + 1) : Nat) : Int) (boolL (thereT T) 256) h1) := by
        rw [jacquardref2_Locs_r6, if_pos (by simp; omega), if_pos ⟨by omega, by omega⟩, show 0 + Int.toNat ((97 + i : Nat) : Int) * 1 = 97 + i by omega, atK_ok (boolL_get (show 97 + i < 256 by omega)), asB_ok, hw, hw8]
        rfl
      rw [hrd]
      by_cases ht : thereT T (97 + i) = true
      · obtain ⟨y2, h2, hap, hy2, hk2, _⟩ := hy.app (bytes := 1) (xs := [.int .u8 ((97 + i : Nat) : Int)]) hk.1 rfl (by omega) (by omega) (by omega)
        refine ⟨_, by rw [if_pos ht, hap], y2, h2, rfl, ?_, hk.trans hk2⟩
        rw [locsF_succ, if_pos ht, intC_snoc, List.length_append, List.length_singleton]; exact hy2
      · refine ⟨_, by rw [if_neg ht], y, h1, rfl, ?_, hk⟩
        rw [locsF_succ, if_neg ht]; exact hy) (st := jacquardref2_Locs_s6 .nils ((97 + 0 : Nat) : Int) (boolL (thereT T) 256) h) ⟨.nils, h, rfl, Own.nil _ _ _, Kp.refl _ _⟩
  have hfin : jacquardref2_Locs_F6 (R E) Lim E.glob (jacquardref2_Locs_s6 y ((97 + 26 : Nat) : Int) (boolL (thereT T) 256) h1) = some (.exit 10, jacquardref2_Locs_x6_11 y h1) := by
    rw [jacquardref2_Locs_r6, if_neg (by simp)]
  have hr := hL _ (Lim_exit hfin)
  refine ⟨y, h1, R_intro hE.fn ?_, hy, hk⟩
  have e1 : boolL (fun q => (T.inits.take 0).any fun p => p.1 % 256 == (q : Int)) 256 = List.replicate 256 (Cell.bool false) := by rw [boolL_false]; exact boolL_congr fun q _ => by simp
  rw [e1, show ((0 : Nat) : Int) = 0 from rfl] at loop1
  rw [jacquardref2_Locs_eq, loop1, bind_ok, jacquardref2_Locs_e1_1, loop3, bind_ok, jacquardref2_Locs_e3_3, loop5, bind_ok, jacquardref2_Locs_e5_7, show (97 : Int) = ((97 + 0 : Nat) : Int) from rfl, hr, bind_ok, jacquardref2_Locs_e6_11]

end
end Jq

/- A test made ready as the document says. -/
namespace Jq
open Go

theorem Own.keepK {n : Nat} {h h' : AHeap} {x : Cell} {esz len : Nat} {cs : List Cell} (o : Own n h x esz cs len) (hk : Kp h.length h h') : Own n h' x esz cs len := by
  refine ⟨o.1, o.2.imp id ?_⟩
  rintro ⟨k, e, hn, hb⟩
  exact ⟨k, e, hn, by rw [hk.blk (blk_lt' hb)]; exact hb⟩
theorem Own.monoN {n m : Nat} (hm : m ≤ n) {h : AHeap} {x : Cell} {esz len : Nat} {cs : List Cell} (o : Own n h x esz cs len) : Own m h x esz cs len :=
  ⟨o.1, o.2.imp id fun ⟨k, e, hn, hb⟩ => ⟨k, e, by omega, hb⟩⟩
theorem Own.blkLt {n : Nat} {h : AHeap} {x : Cell} {esz len : Nat} {cs : List Cell} (o : Own n h x esz cs len) {k : Nat} (hk : isBlk x k) : k < h.length ∧ n ≤ k := by
  rcases o.2 with ⟨rfl, _⟩ | ⟨j, rfl, hn, hb⟩
  · cases hk
  · have : j = k := hk
    subst this; exact ⟨blk_lt' hb, hn⟩

/-- Rows of the call's own, each in a block of its own. -/
def RowsOwn {α : Type} (esz : Nat) (C : List α → List Cell) (n : Nat) (h : AHeap) (y : Cell) (rows : List (List α)) : Prop :=
  ∃ ts, Own n h y 1 ts rows.length ∧ ∀ (t : Nat) (r : List α), rows[t]? = some r → ∃ x : Cell, ts[t]? = some x ∧ Own n h x esz (C r) r.length ∧ ∀ k, isBlk x k → ¬ isBlk y k

section rows
variable {α : Type} {esz : Nat} {C : List α → List Cell} {n : Nat}

theorem RowsOwn.nil (h : AHeap) : RowsOwn esz C n h .nils ([] : List (List α)) := ⟨[], Own.nil _ _ _, fun t r hr => by simp at hr⟩

theorem RowsOwn.keep {h h' : AHeap} {y : Cell} {rows : List (List α)} (r : RowsOwn esz C n h y rows) (hk : Kp h.length h h') : RowsOwn esz C n h' y rows := by
  obtain ⟨ts, h1, h2⟩ := r
  exact ⟨ts, h1.keepK hk, fun t r hr => by obtain ⟨x, x1, x2, x3⟩ := h2 t r hr; exact ⟨x, x1, x2.keepK hk, x3⟩⟩

theorem RowsOwn.blkLt {h : AHeap} {y : Cell} {rows : List (List α)} (r : RowsOwn esz C n h y rows) {k : Nat} (hk : isBlk y k) : k < h.length ∧ n ≤ k := by
  obtain ⟨ts, h1, _⟩ := r; exact h1.blkLt hk

theorem RowsOwn.of {h : AHeap} {y : Cell} {rows : List (List α)} (r : RowsOwn esz C n h y rows) : RowsOf esz C h y rows := by
  obtain ⟨ts, h1, h2⟩ := r
  exact ⟨ts, h1.at, h1.low, fun t r hr => by obtain ⟨x, x1, x2, _⟩ := h2 t r hr; exact ⟨x, x1, x2.at, x2.low⟩⟩

theorem RowsOwn.push {h : AHeap} {y x : Cell} {rows : List (List α)} {r : List α} (w : RowsOwn esz C n h y rows) (hx : Own n h x esz (C r) r.length) (hd : ∀ k, isBlk x k → ¬ isBlk y k) (hn : n ≤ h.length) (hl : rows.length ≤ 2000) :
    ∃ y' h', (∀ {β : Type} (f : Cell → AHeap → Option β), appK 1 24 y [x] h f = f y' h') ∧ RowsOwn esz C n h' y' (rows ++ [r]) ∧ Kp n h h' ∧ ∀ j b, blk? h j = some b → ¬ isBlk y j → blk? h' j = some b ∧ ¬ isBlk y' j := by
  have hm : maxBytes ≥ 2001 * 24 := by unfold maxBytes; omega
  obtain ⟨ts, h1, h2⟩ := w
  obtain ⟨y', h', ha, ho, hk, hf⟩ := h1.app (bytes := 24) (xs := [x]) hn rfl (by omega) (by omega) (by omega)
  have mv : ∀ {z : Cell} {cs : List Cell} {len : Nat}, Own n h z esz cs len → (∀ k, isBlk z k → ¬ isBlk y k) → Own n h' z esz cs len ∧ ∀ k, isBlk z k → ¬ isBlk y' k := by
    intro z cs len oz dz
    rcases oz.2 with e | ⟨k, e, hnk, hb⟩
    · refine ⟨⟨oz.1, .inl e⟩, fun k hk => ?_⟩
      rw [e.1] at hk; cases hk
    · have hik : isBlk z k := by rw [e]; rfl
      obtain ⟨b1, b2⟩ := hf k _ hb (dz k hik)
      refine ⟨⟨oz.1, .inr ⟨k, e, hnk, b1⟩⟩, fun j hj => ?_⟩
      rw [e] at hj
      have : k = j := hj
      subst this; exact b2
  refine ⟨y', h', ha, ⟨ts ++ [x], by rw [List.length_append, List.length_singleton]; exact ho, fun t r' hr => ?_⟩, hk, hf⟩
  have hts : ts.length = rows.length := by have := h1.1; omega
  by_cases ht : t < rows.length
  · rw [List.getElem?_append_left ht] at hr
    obtain ⟨z, z1, z2, z3⟩ := h2 t r' hr
    obtain ⟨w1, w2⟩ := mv z2 z3
    exact ⟨z, by rw [List.getElem?_append_left (by omega)]; exact z1, w1, w2⟩
  · rw [List.getElem?_append_right (by omega)] at hr
    have h0 : t - rows.length = 0 := by
      rcases Nat.eq_zero_or_pos (t - rows.length) with e | e
      · exact e
      · rw [List.getElem?_eq_none (by simp; omega)] at hr; cases hr
    rw [h0] at hr
    obtain rfl : r = r' := by simpa using hr
    obtain ⟨w1, w2⟩ := mv hx hd
    exact ⟨x, by rw [List.getElem?_append_right (by omega), show t - ts.length = 0 by omega]; rfl, w1, w2⟩
end rows

/-- Where a letter stands. -/
def plc : List Int → Int → Nat → Int
  | [], _, _ => -1
  | c :: t, x, i => if c = x then i else plc t x (i + 1)

def initV (l : List (Int × Int)) (c : Int) : Int := l.foldl (fun v p => if p.1 = c then p.2 else v) 0
def compI (locs : List Int) (i : Ins) : Ins := if i.loc ≠ 0 then { i with loc := plc locs i.loc 0 } else i
def compT (T : PTest) : PProg := ⟨locsT T, (locsT T).map (initV T.inits), T.thr.map fun c => c.map (compI (locsT T))⟩

theorem locsT_u8 {T : PTest} {x : Int} (h : x ∈ locsT T) : 97 ≤ x ∧ x ≤ 122 := by
  obtain ⟨c, h1, _, rfl⟩ := locsF_mem.1 h
  omega

section
variable {E : Env}

theorem Place_R (hE : jacquardref6_Place_In E) {a b c : Cell} {locs : List Int} {h : AHeap} (ha : SlAt h a 1 (intC .u8 locs) locs.length) (hu : ∀ x ∈ locs, 97 ≤ x ∧ x ≤ 122) (hl : locs.length ≤ 100) (x : Int) :
    R E 122 [.agg [a, b, c], .c (.int .i64 x)] h = some ([.c (.int .i64 (plc locs x 0))], h) := by
  refine R_intro hE.fn ?_
  have a0 : ∀ {α : Type} (f : Cell → Option α), atK [a, b, c] 0 f = f a := fun _ => rfl
  have key : ∀ (t : List Int) (i : Nat), locs.drop i = t → (Lim (jacquardref6_Place_F1 (R E) Lim E.glob) (jacquardref6_Place_s1 x (i : Int) [a, b, c] h)).bind (fun p => jacquardref6_Place_k3 (R E) Lim E.glob h p.1 p.2) = some ([.c (.int .i64 (plc t x i))], h) := by
    intro t
    induction t with
    | nil =>
      intro i hd
      have hi : locs.length ≤ i := by
        have := congrArg List.length hd
        simp at this; omega
      have hr : jacquardref6_Place_F1 (R E) Lim E.glob (jacquardref6_Place_s1 x (i : Int) [a, b, c] h) = some (.exit 0, jacquardref6_Place_x1_1 h) := by
        rw [jacquardref6_Place_r1, a0, ha.len, if_neg (by simp; omega)]
      rw [Lim_exit hr, bind_ok, jacquardref6_Place_e1_1]; rfl
    | cons v t ih =>
      intro i hd
      have hi : i < locs.length := by
        have := congrArg List.length hd
        simp at this; omega
      have hv : locs[i]? = some v := by
        have := congrArg (fun z => z[0]?) hd
        simpa [List.getElem?_drop] using this
      have hd2 : locs.drop (i + 1) = t := by
        have := congrArg (List.drop 1) hd
        simpa [List.drop_drop] using this
      have huv := hu v (List.mem_of_getElem? hv)
      have hr : jacquardref6_Place_F1 (R E) Lim E.glob (jacquardref6_Place_s1 x (i : Int) [a, b, c] h) = if (v == x) = true then some (.ret, jacquardref6_Place_x1_0 i h) else some (.normal, jacquardref6_Place_s1 x ((i + 1 : Nat) : Int) [a, b, c] h) := by
        rw [jacquardref6_Place_r1, a0, ha.len, if_pos (by simp; omega), a0, ha.get1 hi (intC_get hv), asI_ok, g_wrap_i64 (by omega) (by omega), g_succ (by omega)]
      rw [plc]
      by_cases hvx : v = x
      · rw [if_pos (by rw [hvx]; exact beq_self_eq_true _)] at hr
        rw [Lim_ret hr, bind_ok, jacquardref6_Place_e1_0, if_pos hvx]
      · rw [if_neg (by rw [beq_iff_eq]; exact hvx)] at hr
        rw [if_neg hvx]
        have := ih (i + 1) hd2
        cases hL : Lim (jacquardref6_Place_F1 (R E) Lim E.glob) (jacquardref6_Place_s1 x ((i + 1 : Nat) : Int) [a, b, c] h) with
        | none => rw [hL] at this; cases this
        | some p => rw [Lim_next hr hL]; rw [hL] at this; exact this
  rw [jacquardref6_Place_eq]
  exact key locs 0 rfl

theorem ins_setloc {i : Ins} {v : Int} : i.cs.set 2 (.int .i64 v) = ({ i with loc := v } : Ins).cs := rfl
theorem ins_splice {i : Ins} : splice (List.replicate 9 (Cell.int .i64 0)) 0 i.cs = i.cs := rfl
theorem ins_len19 (i : Ins) : i.cs.length = 1 * 9 := rfl

theorem initV_snoc (l : List (Int × Int)) (p : Int × Int) (c : Int) : initV (l ++ [p]) c = if p.1 = c then p.2 else initV l c := by
  unfold initV; rw [List.foldl_append]; rfl

theorem refCompile_R (hE : jacquardref6_Compile_In E) {cs : List Cell} {T : PTest} {h : AHeap} (p : TestAt h cs T) (hs : T.small) :
    ∃ cs' h', R E 101 [.agg cs] h = some ([.agg cs'], h') ∧ ProgAt h' cs' (compT T) ∧ Kp h.length h h' := by
  obtain ⟨a, h1, hr1, ha, hk1⟩ := refLocs_R hE.c121 p hs
  have hll : (locsT T).length ≤ 26 := locsF_len _ _
  have hu := fun x (hx : x ∈ locsT T) => locsT_u8 hx
  have p1 := p.keep hk1
  have hlen := p.len
  obtain ⟨ta, tb, tc, hcs, ⟨hta, htal⟩, htb, htc⟩ := p1
  have t1 : ∀ {α : Type} (f : Cell → Option α), atK cs 1 f = f ta := fun f => by rw [hcs]; rfl
  have t2 : ∀ {α : Type} (f : Cell → Option α), atK cs 2 f = f tb := fun f => by rw [hcs]; rfl
  have hat := ha.at
  have hal := ha.low
  have hm : maxBytes ≥ 2000 * 72 := by unfold maxBytes; omega
  have pu : ∀ (x y z : Cell), ([x, y, z] : List Cell).length = 3 := fun _ _ _ => rfl
  -- what locations begin with
  have inner1 : ∀ (i : Nat) (b : Cell) (h2 : AHeap) (v : Int) (z : List Cell), (locsT T)[i]? = some v → Kp h1.length h1 h2 →
      Lim (jacquardref6_Compile_F1 (R E) Lim E.glob) (jacquardref6_Compile_s1 (i : Int) 0 ((0 : Nat) : Int) cs z [a, b, .nils] h2) = some (.exit 2, jacquardref6_Compile_x1_3 (i : Int) (initV T.inits v) cs z [a, b, .nils] h2) := by
    intro i b h2 v z hv hk
    have h0 : (0 : Int) = initV (T.inits.take 0) v := rfl
    have he : initV T.inits v = initV (T.inits.take T.inits.length) v := by rw [List.take_length]
    rw [he]
    rw [show jacquardref6_Compile_s1 (i : Int) 0 ((0 : Nat) : Int) cs z [a, b, .nils] h2 = jacquardref6_Compile_s1 (i : Int) (initV (T.inits.take 0) v) ((0 : Nat) : Int) cs z [a, b, .nils] h2 from rfl]
    have huv := hu v (List.mem_of_getElem? hv)
    refine Lim_count (fun k => jacquardref6_Compile_s1 (i : Int) (initV (T.inits.take k) v) (k : Int) cs z [a, b, .nils] h2) 0 T.inits.length (by omega) (fun k _ hkk => ?_) (Lim_exit ?_)
    · have hq : T.inits[k]? = some T.inits[k] := List.getElem?_eq_getElem hkk
      generalize T.inits[k] = q at hq
      have := hs.inits
      have hta2 := hta.keep htal hk
      rw [jacquardref6_Compile_r1, t1, hta2.len, if_pos (by simp; omega), t1, hta2.get hkk (by omega) (pairC_get _ _ _ hq).1, asI_ok, show ∀ {α : Type} (f : Cell → Option α), atK [a, b, Cell.nils] 0 f = f a from fun _ => rfl, (hat.keep hal hk).get1 (getI_lt hv) (intC_get hv), asI_ok, g_wrap_i64 (by omega) (by omega), takeI_succ hq, initV_snoc]
      by_cases hqv : q.1 = v
      · rw [if_pos (by rw [hqv]; exact beq_self_eq_true _), if_pos hqv, t1, hta2.get hkk (by omega) (pairC_get _ _ _ hq).2, asI_ok, g_succ (by omega)]
      · rw [if_neg (by rw [beq_iff_eq]; exact hqv), if_neg hqv, g_succ (by omega)]
    · have hta2 := hta.keep htal hk
      rw [jacquardref6_Compile_r1, t1, hta2.len, if_neg (by simp)]
  obtain ⟨st, ⟨b, h2, rfl, hb, hk2⟩, hL2⟩ := Lim_inv (F := jacquardref6_Compile_F2 (R E) Lim E.glob) (fun i st => ∃ b h2, st = jacquardref6_Compile_s2 (i : Int) cs [Cell.nils, Cell.nils, Cell.nils] [a, b, .nils] h2 ∧ Own h1.length h2 b 1 (intC .i64 (((locsT T).map (initV T.inits)).take i)) i ∧ Kp h1.length h1 h2) 0 (locsT T).length (by omega)
    (fun i st _ hi => by
      rintro ⟨b, h2, rfl, hb, hk⟩
      have hv : (locsT T)[i]? = some (locsT T)[i] := List.getElem?_eq_getElem hi
      generalize (locsT T)[i] = v at hv
      have hin := inner1 i b h2 v [Cell.nils, Cell.nils, Cell.nils] hv hk
      rw [show ((0 : Nat) : Int) = 0 from rfl] at hin
      obtain ⟨b2, h3, hap, hb2, hk3, _⟩ := hb.app (bytes := 8) (xs := [.int .i64 (initV T.inits v)]) hk.1 rfl (by omega) (by omega) (by omega)
      refine ⟨_, ?_, b2, h3, rfl, ?_, hk.trans hk3⟩
      · rw [jacquardref6_Compile_r2, show ∀ {α : Type} (f : Cell → Option α), atK [a, b, Cell.nils] 0 f = f a from fun _ => rfl, hat.len, if_pos (by simp; omega), hin, bind_ok, jacquardref6_Compile_e1_3, show ∀ {α : Type} (f : Cell → Option α), atK [a, b, Cell.nils] 1 f = f b from fun _ => rfl, if_pos (show (splice [Cell.int .i64 0] 0 ([(.int .i64 (initV T.inits v))] : List Cell)).length = 1 * 1 from rfl), show splice [Cell.int .i64 0] 0 ([(.int .i64 (initV T.inits v))] : List Cell) = [.int .i64 (initV T.inits v)] from rfl, hap, if_pos (show 1 < ([a, b, Cell.nils] : List Cell).length by simp), g_succ (by omega)]
        rfl
      · rw [takeI_succ (p := initV T.inits v) (by rw [List.getElem?_map, hv]; rfl), intC_snoc]; exact hb2) (st := jacquardref6_Compile_s2 ((0 : Nat) : Int) cs [Cell.nils, Cell.nils, Cell.nils] [a, .nils, .nils] h1) ⟨.nils, h1, rfl, Own.nil _ _ _, Kp.refl _ _⟩
  have hfin2 : jacquardref6_Compile_F2 (R E) Lim E.glob (jacquardref6_Compile_s2 ((locsT T).length : Int) cs [Cell.nils, Cell.nils, Cell.nils] [a, b, .nils] h2) = some (.exit 0, jacquardref6_Compile_x2_1 cs [Cell.nils, Cell.nils, Cell.nils] [a, b, .nils] h2) := by
    rw [jacquardref6_Compile_r2, show ∀ {α : Type} (f : Cell → Option α), atK [a, b, Cell.nils] 0 f = f a from fun _ => rfl, hat.len, if_neg (by simp)]
  have hr2 := hL2 _ (Lim_exit hfin2)
  rw [List.take_of_length_le (by rw [List.length_map]; exact Nat.le_refl _)] at hb
  have htb2 := htb.keep hk2
  have hat2 := hat.keep hal hk2
  have hal2 : Low h2.length a := Low_mono hk2.1 hal
  have hbt := hb.at
  have hbl := hb.low
  -- the threads
  have inner2 : ∀ (t : Nat) (code : List Ins) (y : Cell) (h3 : AHeap), T.thr[t]? = some code → Kp h2.length h2 h3 →
      ∃ x h4, Lim (jacquardref6_Compile_F3 (R E) Lim E.glob) (jacquardref6_Compile_s3 (t : Int) .nils ((0 : Nat) : Int) cs [Cell.nils, Cell.nils, Cell.nils] [a, b, y] h3) = some (.exit 6, jacquardref6_Compile_x3_7 (t : Int) x cs [Cell.nils, Cell.nils, Cell.nils] [a, b, y] h4) ∧ Own h3.length h4 x 9 (codeC (code.map (compI (locsT T)))) code.length ∧ Kp h3.length h3 h4 := by
    intro t code y h3 ht hk3
    obtain ⟨cx, c1x, c2x, c3x⟩ := (htb2.keep hk3).get (β := Ex × St) ht
    have hcl := hs.code code (List.mem_of_getElem? ht)
    obtain ⟨st, ⟨x, h4, rfl, hx, hk4⟩, hL⟩ := Lim_inv (F := jacquardref6_Compile_F3 (R E) Lim E.glob) (fun i st => ∃ x h4, st = jacquardref6_Compile_s3 (t : Int) x (i : Int) cs [Cell.nils, Cell.nils, Cell.nils] [a, b, y] h4 ∧ Own h3.length h4 x 9 (codeC ((code.map (compI (locsT T))).take i)) i ∧ Kp h3.length h3 h4) 0 code.length (by omega)
      (fun i st _ hi => by
        rintro ⟨x, h4, rfl, hx, hk4⟩
        obtain ⟨cx', c1x', c2x', c3x'⟩ := ((htb2.keep hk3).keep hk4).get (β := Ex × St) ht
        have hq : code[i]? = some code[i] := List.getElem?_eq_getElem hi
        generalize code[i] = q at hq
        obtain ⟨off, cs', hG, hle, hcc⟩ := c1x'.insG hq
        have hsn : (code.map (compI (locsT T)))[i]? = some (compI (locsT T) q) := by rw [List.getElem?_map, hq]; rfl
        obtain ⟨x2, h5, hap, hx2, hk5, _⟩ := hx.app (bytes := 72) (xs := (compI (locsT T) q).cs) hk4.1 rfl (by omega) (by omega) (by omega)
        refine ⟨_, ?_, x2, h5, rfl, ?_, hk4.trans hk5⟩
        · rw [jacquardref6_Compile_r3, t2, c3x', c1x'.len, if_pos (by simp; omega), t2, c3x', hG, if_pos hle, hcc, if_pos ⟨rfl, rfl, rfl⟩, ins_loc, asI_ok]
          unfold compI at hap
          by_cases hz : q.loc ≠ 0
          · have hpl := Place_R hE.c122 (b := b) (c := y) ((hat2.keep hal2 hk3).keep (Low_mono hk3.1 hal2) hk4) hu (by omega) q.loc
            rw [if_pos hz] at hap
            rw [if_pos (by rw [bne_iff_ne]; exact hz), if_pos ⟨rfl, pu _ _ _⟩, ins_loc, asI_ok, hpl, c1_ok, asI_ok, if_pos (by rw [Ins.len]; omega), ins_setloc, if_pos ⟨rfl, rfl⟩, if_pos ⟨rfl, by simp⟩, ins_splice, if_pos (ins_len19 _), hap, g_succ (by omega)]
          · rw [if_neg hz] at hap
            rw [if_neg (by rw [bne_iff_ne]; exact hz), if_pos ⟨rfl, rfl⟩, if_pos ⟨rfl, by simp⟩, ins_splice, if_pos (ins_len19 _), hap, g_succ (by omega)]
        · rw [takeI_succ hsn, codeC_snoc]; exact hx2) (st := jacquardref6_Compile_s3 (t : Int) .nils ((0 : Nat) : Int) cs [Cell.nils, Cell.nils, Cell.nils] [a, b, y] h3) ⟨.nils, h3, rfl, Own.nil _ _ _, Kp.refl _ _⟩
    have hfin : jacquardref6_Compile_F3 (R E) Lim E.glob (jacquardref6_Compile_s3 (t : Int) x (code.length : Int) cs [Cell.nils, Cell.nils, Cell.nils] [a, b, y] h4) = some (.exit 6, jacquardref6_Compile_x3_7 (t : Int) x cs [Cell.nils, Cell.nils, Cell.nils] [a, b, y] h4) := by
      obtain ⟨cx', c1x', c2x', c3x'⟩ := ((htb2.keep hk3).keep hk4).get (β := Ex × St) ht
      rw [jacquardref6_Compile_r3, t2, c3x', c1x'.len, if_neg (by simp)]
    rw [List.take_of_length_le (by rw [List.length_map]; exact Nat.le_refl _)] at hx
    exact ⟨x, h4, hL _ (Lim_exit hfin), hx, hk4⟩
  have hthl := hs.thr
  obtain ⟨st, ⟨y, h3, rfl, hy, hk3⟩, hL4⟩ := Lim_inv (F := jacquardref6_Compile_F4 (R E) Lim E.glob) (fun t st => ∃ y h3, st = jacquardref6_Compile_s4 (t : Int) cs [Cell.nils, Cell.nils, Cell.nils] [a, b, y] h3 ∧ RowsOwn 9 codeC h2.length h3 y ((T.thr.map fun c => c.map (compI (locsT T))).take t) ∧ Kp h2.length h2 h3) 0 T.thr.length (by omega)
    (fun t st _ ht => by
      rintro ⟨y, h3, rfl, hy, hk3⟩
      have hq : T.thr[t]? = some T.thr[t] := List.getElem?_eq_getElem ht
      generalize T.thr[t] = code at hq
      obtain ⟨x, h4, hin, hx, hk4⟩ := inner2 t code y h3 hq hk3
      rw [show ((0 : Nat) : Int) = 0 from rfl] at hin
      have hsn : (T.thr.map fun c => c.map (compI (locsT T)))[t]? = some (code.map (compI (locsT T))) := by rw [List.getElem?_map, hq]; rfl
      have hxl : code.length = (code.map (compI (locsT T))).length := by simp
      rw [hxl] at hx
      obtain ⟨y2, h5, hap, hy2, hk5, _⟩ := (hy.keep hk4).push (hx.monoN hk3.1) (fun k h1 h2 => by have := (hx.blkLt h1).2; have := (hy.blkLt h2).1; omega) (Nat.le_trans hk3.1 hk4.1) (by rw [List.length_take]; omega)
      refine ⟨_, ?_, y2, h5, rfl, ?_, hk3.trans ((hk4.mono hk3.1).trans hk5)⟩
      · rw [jacquardref6_Compile_r4, t2, htb2.len, if_pos (by simp; omega), hin, bind_ok, jacquardref6_Compile_e3_7, show ∀ {α : Type} (f : Cell → Option α), atK [a, b, y] 2 f = f y from fun _ => rfl, if_pos (show (splice [Cell.nils] 0 ([x] : List Cell)).length = 1 * 1 from rfl), show splice [Cell.nils] 0 ([x] : List Cell) = [x] from rfl, hap, if_pos (show 2 < ([a, b, y] : List Cell).length by simp), g_succ (by omega)]
        rfl
      · rw [takeI_succ hsn]; exact hy2) (st := jacquardref6_Compile_s4 ((0 : Nat) : Int) cs [Cell.nils, Cell.nils, Cell.nils] [a, b, .nils] h2) ⟨.nils, h2, rfl, by rw [List.take_zero]; exact RowsOwn.nil _, Kp.refl _ _⟩
  have hfin4 : jacquardref6_Compile_F4 (R E) Lim E.glob (jacquardref6_Compile_s4 (T.thr.length : Int) cs [Cell.nils, Cell.nils, Cell.nils] [a, b, y] h3) = some (.exit 4, jacquardref6_Compile_x4_5 [Cell.nils, Cell.nils, Cell.nils] [a, b, y] h3) := by
    rw [jacquardref6_Compile_r4, t2, htb2.len, if_neg (by simp)]
  have hr4 := hL4 _ (Lim_exit hfin4)
  rw [List.take_of_length_le (by rw [List.length_map]; exact Nat.le_refl _)] at hy
  obtain ⟨ts, y1, y2, y3⟩ := hy.of
  refine ⟨[a, b, y], h3, R_intro hE.fn ?_, ⟨a, b, y, ts, rfl, ⟨hat2.keep hal2 hk3, Low_mono hk3.1 hal2⟩, ⟨?_, Low_mono hk3.1 hbl⟩, ⟨y1, y2⟩, y3⟩, hk1.trans ((hk2.mono hk1.1).trans (hk3.mono (Nat.le_trans hk1.1 hk2.1)))⟩
  · rw [jacquardref6_Compile_eq, if_pos ⟨rfl, hlen⟩, hr1, c1_ok, asC_ok, show splice [Cell.nils, Cell.nils, Cell.nils] 0 ([a] : List Cell) = [a, .nils, .nils] from rfl, if_pos ⟨rfl, rfl, rfl⟩, show (0 : Int) = ((0 : Nat) : Int) from rfl, hr2, bind_ok, jacquardref6_Compile_e2_1, show (0 : Int) = ((0 : Nat) : Int) from rfl, hr4, bind_ok, jacquardref6_Compile_e4_5, if_pos ⟨rfl, rfl⟩, if_pos ⟨rfl, rfl, rfl⟩, if_pos ⟨rfl, rfl⟩]
  · have := hbt.keep hbl hk3
    have e : (compT T).init.length = (locsT T).length := by simp [compT]
    rw [e]; exact this

end
end Jq

