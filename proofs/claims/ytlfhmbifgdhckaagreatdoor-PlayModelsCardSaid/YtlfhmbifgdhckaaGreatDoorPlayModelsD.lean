/- YtlfhmbifgdhckaaGreatDoorPlayModelsD: a part of the proof; no conditions of its own. -/
import Derived.RangeFuncNested
import Derived.RangeFuncBound
import Derived.RangeFuncCalls
import Derived.RangeFuncLeaves
import Derived.Shelf.Abstract
import Derived.Shelf.RegionOpen
import Derived.WalkKit
import Derived.OwnWalkIn
import Derived.TacticsInMore
import Derived.LoopNIn
import Derived.LoopIn
import Derived.Lib.Strings
import Derived.Lib.Slices
import Derived.Lib.Walk
import Derived.Lib.Bytealg
import Derived.Maps.AppendAt
import Derived.Shelf.Strings.OnBuilder
import Derived.Test.YtlfhmbifgdhckaaGreatDoorProg
import Derived.Test.YtlfhmbifgdhckaaGreatDoorRows
import Derived.KernelRfl
import Derived.ProofKit
import Derived.OpenShut
import Derived.ShutString
import Derived.ChangeOld
import Derived.Below
import Derived.Carry
import Derived.Test.YtlfhmbifgdhckaaGreatDoorCards
import Derived.Test.YtlfhmbifgdhckaaGreatDoorTie
import Derived.SevenTiedAt
import Derived.LaidMore
import Derived.Stop.Joined
import Derived.Lib.LaidTab
import Derived.MakeChecks
import Derived.LaidHandle
import Derived.Stop.LaidErr
import Derived.Lay
import Derived.LaidOnce
import Derived.Test.YtlfhmbifgdhckaaGreatDoorPlayModelsC
set_option linter.unusedVariables false
set_option linter.unusedSimpArgs false

/- strings.Join and play.Parse in the given program: what calls of them come to. -/
namespace Go.Proofs
open Go.RowKit Go.Shelf
attribute [local go_sem] Oper.semAt_some
namespace PX
open Jq (parts parts_ne nameOf pickOf picksOf PPost)

def jren : Go.Shelf.Ren := ⟨fun | 156 => 49 | 165 => 67 | 166 => 68 | 169 => 69 | 240 => 96 | 241 => 97 | 276 => 108 | 277 => 109 | n => n, fun | 31 => 129 | 9 => 9 | 3 => 3 | 4 => 4 | 0 => 0 | 20 => 20 | 72 => 146 | 76 => 150 | 70 => 144 | 37 => 23 | 75 => 149 | 127 => 176 | 164 => 183 | 5 => 5 | 80 => 152 | n => n, fun | n => n⟩
theorem jlays : Go.Proofs.Lays.n156 Tryz.prog jren := {
  mixed := by kernel_rfl
  f156 := Tryz.func49.trans (congrArg some (by kernel_rfl))
  f165 := Tryz.func67.trans (congrArg some (by kernel_rfl))
  f166 := Tryz.func68.trans (congrArg some (by kernel_rfl))
  f169 := Tryz.func69.trans (congrArg some (by kernel_rfl))
  f240 := Tryz.func96.trans (congrArg some (by kernel_rfl))
  f241 := Tryz.func97.trans (congrArg some (by kernel_rfl))
  f276 := Tryz.func108.trans (congrArg some (by kernel_rfl))
  f277 := Tryz.func109.trans (congrArg some (by kernel_rfl))
  t0 := Tryz.underlying0
  a0 := Tryz.isAgg0
  z0 := Tryz.sizeOf0
  v0 := Tryz.zeroValue0
  t3 := Tryz.underlying3
  a3 := Tryz.isAgg3
  z3 := Tryz.sizeOf3
  v3 := Tryz.zeroValue3
  t4 := Tryz.underlying4
  a4 := Tryz.isAgg4
  z4 := Tryz.sizeOf4
  v4 := Tryz.zeroValue4
  t9 := Tryz.underlying9
  a9 := Tryz.isAgg9
  z9 := Tryz.sizeOf9
  v9 := Tryz.zeroValue9
  t20 := Tryz.underlying20
  a20 := Tryz.isAgg20
  z20 := Tryz.sizeOf20
  v20 := Tryz.zeroValue20
  t31 := Tryz.underlying129
  a31 := Tryz.isAgg129
  z31 := Tryz.sizeOf129
  v31 := Tryz.zeroValue129
  t37 := Tryz.underlying23
  a37 := Tryz.isAgg23
  z37 := Tryz.sizeOf23
  v37 := Tryz.zeroValue23
  t70 := Tryz.underlying144
  a70 := Tryz.isAgg144
  z70 := Tryz.sizeOf144
  v70 := Tryz.zeroValue144
  t72 := Tryz.underlying146
  a72 := Tryz.isAgg146
  z72 := Tryz.sizeOf146
  v72 := Tryz.zeroValue146
  t75 := Tryz.underlying149
  a75 := Tryz.isAgg149
  z75 := Tryz.sizeOf149
  v75 := Tryz.zeroValue149
  t76 := Tryz.underlying150
  a76 := Tryz.isAgg150
  z76 := Tryz.sizeOf150
  v76 := Tryz.zeroValue150
  t127 := Tryz.underlying176
  a127 := Tryz.isAgg176
  z127 := Tryz.sizeOf176
  v127 := Tryz.zeroValue176
  t164 := Tryz.underlying183
  a164 := Tryz.isAgg183
  z164 := Tryz.sizeOf183
  v164 := Tryz.zeroValue183 }
theorem jextra : Builder.Extra Tryz.prog jren := {
  sizeBuilder := by kernel_rfl
  liesBuilder := by kernel_rfl
  t5 := Tryz.underlying5
  a5 := Tryz.isAgg5
  z5 := Tryz.sizeOf5
  v5 := Tryz.zeroValue5
  infoByte := by kernel_rfl
  cellsByte := by kernel_rfl
  sizeByte := by kernel_rfl
  neB5 := by decide }
theorem Join_none (a : Option Addr) (c : Nat) (sep : ByteArray) (w : World) :
    Calls Tryz.prog 49 #[.slice a 0 c, .string sep] w fun e w' => e = .returned (.string ⟨#[]⟩) ∧ w' = w := Any.strings_Join_none jlays jextra a c sep w
theorem Join_w (bk o c : Nat) (xs : List ByteArray) (sep : ByteArray) (w : World) (hcells : ∀ (j : Nat) x, xs[j]? = some x → w.cell? ⟨bk, o + j, none⟩ = some (.string x)) (hbk : bk < w.heap.size) (hN : xs.length ≤ 140737488355328) (hcap : xs.length ≤ c) (hlen : (Lib.join (xs.map (·.data.toList)) sep.data.toList).length ≤ 140737488355328) :
    Calls Tryz.prog 49 #[.slice (some ⟨bk, o, none⟩) xs.length c, .string sep] w fun e w' => e = .returned (.string ⟨(Lib.join (xs.map (·.data.toList)) sep.data.toList).toArray⟩) ∧ Below w.heap.size w w' := Any.strings_Join jlays jextra bk o c xs sep w hcells hbk hN hcap hlen

set_option maxHeartbeats 1000000 in
set_option maxRecDepth 100000 in
theorem IndexByte_w (s : ByteArray) (c : Int) (w : World) :
    Calls Tryz.prog 111 #[.string s, .int .u8 c] w fun e w' => e = .returned (.int .i64 (Lib.indexByte s.data.toList c.toNat.toUInt8)) ∧ w' = w := by
  go_enter Tryz.func111, Tryz.ntmps111
  go_wp2
  rw [run_callFunc_extern Tryz.func119 (by kernel_rfl) (by kernel_rfl) (by kernel_rfl) (e := Extern.BytealgIndexByte.indexByte) (by kernel_rfl), Lib.run_indexByteString]
  simp only [Result.andThen]
  rw [Oper.upon_value]
  go_wp2
  go_ret
  exact ⟨rfl, rfl⟩

set_option maxHeartbeats 2000000 in
set_option maxRecDepth 100000 in
theorem slIndex_w (s : ByteArray) (c : UInt8) (w : World) :
    Calls Tryz.prog 106 #[.string s, .string ⟨#[c]⟩] w fun e w' => e = .returned (.int .i64 (Lib.indexByte s.data.toList c)) ∧ w' = w := by
  go_enter Tryz.func106, Tryz.ntmps106
  go_wp2_with (go_at_call 111; refine (IndexByte_w _ _ _).mono ?_; rintro e w' ⟨rfl, rfl⟩)
  · have h : ([c] == s.toList) = true := by assumption
    go_ret
    refine ⟨?_, rfl⟩
    have e : s.data.toList = [c] := by rw [← Lib.toList_data]; exact (beq_iff_eq.1 h).symm
    rw [e]
    simp [Lib.indexByte]
  · go_ret
    exact ⟨rfl, rfl⟩

set_option maxHeartbeats 1000000 in
theorem Index_w (s : ByteArray) (c : UInt8) (w : World) :
    Calls Tryz.prog 94 #[.string s, .string ⟨#[c]⟩] w fun e w' => e = .returned (.int .i64 (Lib.indexByte s.data.toList c)) ∧ w' = w := by
  go_enter Tryz.func94, Tryz.ntmps94
  go_wp2_with (go_at_call 106; refine (slIndex_w _ _ _).mono ?_; rintro e w' ⟨rfl, rfl⟩)
  go_ret
  exact ⟨rfl, rfl⟩

theorem parts_cons (b : UInt8) (l : List UInt8) : parts (b :: l) = if b = 32 then [] :: parts l else match parts l with
    | p :: ps => (b :: p) :: ps
    | [] => [[b]] := rfl

theorem wrap_in {n : Int} (h0 : 0 ≤ n) (h1 : n < 9223372036854775808) : wrap64 n = n := by unfold wrap64; omega

theorem parts_idx : ∀ l : List UInt8, (Lib.indexByte l 32 = -1 ∧ parts l = [l]) ∨ ∃ k : Nat, Lib.indexByte l 32 = (k : Int) ∧ k < l.length ∧ parts l = l.take k :: parts (l.drop (k + 1))
  | [] => .inl ⟨rfl, rfl⟩
  | b :: l => by
    rw [parts_cons]
    unfold Lib.indexByte
    by_cases hb : b = 32
    · rw [if_pos (by rw [hb]; rfl), if_pos hb]
      exact .inr ⟨0, rfl, by simp, by simp⟩
    · rw [if_neg (by rw [beq_iff_eq]; exact hb), if_neg hb]
      rcases parts_idx l with ⟨h1, h2⟩ | ⟨k, h1, h2, h3⟩
      · exact .inl ⟨by rw [h1]; rfl, by rw [h2]⟩
      · refine .inr ⟨k + 1, by rw [h1, if_neg (by rw [beq_iff_eq]; omega)]; rfl, by simp; omega, ?_⟩
        rw [h3]
        simp

def leftS (W : World) (Bs : Nat) : Nat := match W.cell? ⟨Bs, 0, none⟩ with
  | some (.string c) => c.size
  | _ => 0

set_option maxHeartbeats 4000000 in
set_option maxRecDepth 100000 in
theorem iter_in (n : Nat) (hn : 1 ≤ n) (l Bs Bp Bz : Nat) (hne1 : Bp ≠ Bs) (hne2 : Bz ≠ Bs) (J Jx : List (List UInt8) → World → Prop)
    (hJs : ∀ pre W c c', J pre W → Boxed W Bs 9 (.string c) → J pre (W.setCell ⟨Bs, 0, none⟩ (.string c')))
    (s : ByteArray) (hY : ∀ pre x W, pre ++ [x.data.toList] <+: parts s.data.toList → J pre W → YieldAt Fence.wide (n - 1) Tryz.prog l #[.string x] W fun e W' =>
      (e = .returned (.bool true) ∧ J (pre ++ [x.data.toList]) W' ∧ ∀ k t v, (k = Bs ∨ k = Bp ∨ k = Bz) → Boxed W k t v → Boxed W' k t v) ∨ (e = .returned (.bool false) ∧ Jx (pre ++ [x.data.toList]) W'))
    (W : World) (hs : s.size ≤ 4611686018427387904) (b1 : Boxed W Bs 9 (.string s)) (b2 : Boxed W Bp 9 (.string ⟨#[32]⟩)) (b3 : Boxed W Bz 3 (.int .i64 0)) (h0 : J [] W) :
    CallsIn Fence.wide n Tryz.prog 92 #[.func (.yield l) #[] #[], .pointer (some ⟨Bp, 0, none⟩), .pointer (some ⟨Bs, 0, none⟩), .pointer (some ⟨Bz, 0, none⟩)] W fun e W' =>
      (∃ v, e = .returned v) ∧ (J (parts s.data.toList) W' ∨ ∃ pre, pre <+: parts s.data.toList ∧ Jx pre W') := by
  refine callsIn_of_wp Tryz.func92 rfl trivial ?_ rfl
  simp only [Tryz.ntmps92, List.size_toArray, List.length_cons, List.length_nil, Nat.reduceAdd, Nat.reduceSub, Array.replicate_succ, Array.replicate_zero, List.push_toArray, List.append_toArray, List.nil_append, List.cons_append]
  have c1 := b1.cell
  have c2 := b2.cell
  have c3 := b3.cell
  gi_wp2
  gi_loopw [7] (fun i wr => ∃ (pre : List (List UInt8)) (cur : ByteArray), Boxed wr Bs 9 (.string cur) ∧ Boxed wr Bp 9 (.string ⟨#[32]⟩) ∧ Boxed wr Bz 3 (.int .i64 0) ∧ J pre wr ∧ parts s.data.toList = pre ++ parts cur.data.toList ∧ cur.size ≤ s.size)
    (fun _ wr => leftS wr Bs)
  case atStart =>
    exact ⟨[], s, b1, b2, b3, h0, rfl, Nat.le_refl _⟩
  case round =>
    obtain ⟨pre, cur, d1, d2, d3, hj, hp, hc⟩ := hrel
    have e1 := d1.cell
    have e2 := d2.cell
    have e3 := d3.cell
    have hsz : cur.data.toList.length = cur.size := rfl
    rcases parts_idx cur.data.toList with ⟨h1, h2⟩ | ⟨k, h1, h2, h3⟩
    · obtain ⟨f1, t1, a1, q1, hy1, hR1⟩ := hY pre cur wr (by rw [hp, h2]; exact List.prefix_refl _) hj
      have hpc : parts s.data.toList = pre ++ [cur.data.toList] := by rw [hp, h2]
      gi_wp2_with (first
        | (refine ⟨trivial, ?_⟩; gi_at_call 94; refine ((callsIn_wide (n := n - 1)).2 (Index_w _ _ _)).mono ?_; rintro e w' ⟨rfl, rfl⟩; rw [h1])
        | gi_in)
      refine hR1.mono ?_
      rintro e W3 (⟨rfl, hJ3, hk3⟩ | ⟨rfl, hJx3⟩)
      · gi_wp2
        go_end0
        exact ⟨⟨_, rfl⟩, .inl (by rw [hpc]; exact hJ3)⟩
      · gi_wp2
        go_end0
        exact ⟨⟨_, rfl⟩, .inr ⟨_, by rw [hpc]; exact List.prefix_refl _, hJx3⟩⟩
    · have hfrag : (cur.extract 0 k).data.toList = cur.data.toList.take k := by
        rw [Lib.extract_data]; simp
      obtain ⟨f2, t2, a2, q2, hy2, hR2⟩ := hY pre (cur.extract 0 k) wr (by rw [hp, h3, hfrag]; exact ⟨_, by rw [List.append_assoc]; rfl⟩) hj
      have hw1 : wrap64 (k : Int) = k := wrap_in (by omega) (by omega)
      have hw2 : wrap64 ((k : Int) + 1) = ((k + 1 : Nat) : Int) := wrap_in (by omega) (by omega)
      have hrest : (cur.extract (k + 1) cur.size).data.toList = cur.data.toList.drop (k + 1) := by
        rw [Lib.extract_data, List.take_of_length_le]
        rw [List.length_drop]; omega
      gi_wp2_with (first
        | (refine ⟨trivial, ?_⟩; gi_at_call 94; refine ((callsIn_wide (n := n - 1)).2 (Index_w _ _ _)).mono ?_; rintro e w' ⟨rfl, rfl⟩; rw [h1])
        | gi_in)
      refine hR2.mono ?_
      rintro e W3 (⟨rfl, hJ3, hk3⟩ | ⟨rfl, hJx3⟩)
      · have g1 : Boxed W3 Bs 9 (.string cur) := hk3 _ _ _ (.inl rfl) d1
        have g2 : Boxed W3 Bp 9 (.string ⟨#[32]⟩) := hk3 _ _ _ (.inr (.inl rfl)) d2
        have g3 : Boxed W3 Bz 3 (.int .i64 0) := hk3 _ _ _ (.inr (.inr rfl)) d3
        have k1 := g1.cell
        have k2 := g2.cell
        have k3 := g3.cell
        have k4 := g1.frozen
        gi_wp2
        have s1 := g1.set (.string (cur.extract (k + 1) cur.size))
        have hl := congrArg List.length hrest
        rw [List.length_drop] at hl
        have hl2 : (cur.extract (k + 1) cur.size).size = cur.data.toList.length - (k + 1) := hl
        refine ⟨⟨pre ++ [cur.data.toList.take k], _, s1, g2.kept (grownBy_setCell' _ _ _) (by simpa using hne1), g3.kept (grownBy_setCell' _ _ _) (by simpa using hne2), hJs _ _ _ _ (by rw [← hfrag]; exact hJ3) g1, ?_, by omega⟩, ?_⟩
        · rw [hp, h3, hrest, List.append_assoc]; rfl
        · unfold leftS
          rw [s1.cell, d1.cell]
          show (cur.extract (k + 1) cur.size).size < cur.size
          omega
      · gi_wp2
        refine bodyPost_ret (results_none rfl _ _ _) rfl ?_
        exact ⟨⟨_, rfl⟩, .inr ⟨_, by rw [hp, h3, hfrag]; exact ⟨_, by rw [List.append_assoc]; rfl⟩, hJx3⟩⟩

set_option maxHeartbeats 1000000 in
theorem wp_range {g : Operand} {ps : Array Tmp} {assign body : Code} {Q : Exit → Act → World → Prop} {a : Act} {w : World} {n : Nat} (hn : 1 ≤ n) {lb : Array Value} (hg : a.eval g = .func (.func 92) #[] lb) (hps : ps.size = 1)
    (I Ix : List (List UInt8) → World → Prop) (hIa : ∀ W o, Below w.heap.size w W → I [] W → I [] (W.alloc o)) (hI : ∀ pre W j o o', I pre W → w.heap.size ≤ j → W.heap[j]? = some o → o.isCells = false → I pre (W.putObj j o')) (hIx : ∀ pre W j o o', Ix pre W → w.heap.size ≤ j → W.heap[j]? = some o → o.isCells = false → Ix pre (W.putObj j o')) (h0 : I [] w) (Bs Bp Bz : Nat) (full : List (List UInt8))
    (hIs : ∀ pre W c c', I pre W → Boxed W Bs 9 (.string c) → I pre (W.setCell ⟨Bs, 0, none⟩ (.string c')))
    (hcall : ∀ (l : Nat) (W1 : World) (J Jx : List (List UInt8) → World → Prop), w.grownBy W1 none →
      (∀ pre W c c', J pre W → Boxed W Bs 9 (.string c) → J pre (W.setCell ⟨Bs, 0, none⟩ (.string c'))) →
      (∀ pre x W, pre ++ [x.data.toList] <+: full → J pre W → YieldAt Fence.wide (n - 1 - 1) Tryz.prog l #[.string x] W fun e W' =>
        (e = .returned (.bool true) ∧ J (pre ++ [x.data.toList]) W' ∧ ∀ k t v, (k = Bs ∨ k = Bp ∨ k = Bz) → Boxed W k t v → Boxed W' k t v) ∨ (e = .returned (.bool false) ∧ Jx (pre ++ [x.data.toList]) W')) →
      J [] W1 → CallsIn Fence.wide (n - 1) Tryz.prog 92 (#[.func (.yield l) #[] #[]] ++ lb) W1 fun e W' => (∃ v, e = .returned v) ∧ (J full W' ∨ ∃ pre, pre <+: full ∧ Jx pre W'))
    (a₁ : ByteArray → Act)
    (hassign : ∀ (l : Nat) (x : ByteArray) (W : World) (K : Act → World → Prop), K (a₁ x) W →
      assign.wpIn (Fence.wide.inRound l) (n - 1 - 1) Tryz.prog (Exit.then K (fun _ _ _ => False)) { tmps := (ps.zip #[.string x]).foldl (fun t (p, v) => t.setIfInBounds p v) a.tmps, defers := [] } W)
    (hbody : ∀ (l : Nat) (pre : List (List UInt8)) (x : ByteArray) (W : World), pre ++ [x.data.toList] <+: full → I pre W → body.wpIn (Fence.wide.inRound l) (n - 1 - 1) Tryz.prog
      (fun e _ W' => KeepsOthers W W' ∧ (∀ k t v, (k = Bs ∨ k = Bp ∨ k = Bz) → Boxed W k t v → Boxed W' k t v) ∧ ((e = .normal ∧ I (pre ++ [x.data.toList]) W') ∨ (e = .ret ∧ Ix (pre ++ [x.data.toList]) W'))) (a₁ x) W)
    (hdone : ∀ (D : Nat) (W : World), I full W → W.heap[D]? = some (.deferred (some [])) → w.heap.size ≤ D → Q .normal { a with defers := { target := .collected D, args := #[] } :: a.defers } W)
    (hstop : ∀ (D : Nat) (pre : List (List UInt8)) (W : World), pre <+: full → Ix pre W → W.heap[D]? = some (.deferred (some [])) → w.heap.size ≤ D → Code.ret.wpIn Fence.wide n Tryz.prog Q { a with defers := { target := .collected D, args := #[] } :: a.defers } W) :
    (Code.rangeFunc g ps assign body).wpIn Fence.wide n Tryz.prog Q a w := by
  refine wpIn_rangeFunc ?_
  intro fn _
  obtain ⟨rec, hrec⟩ : ∃ rec : LoopState → Option Code → Loop, rec = fun st pe => { state := st, pending := pe, fn, tmps := a.tmps, params := ps, assign, body, defers := w.heap.size } := ⟨_, rfl⟩
  obtain ⟨W1, hW1⟩ : ∃ W1, (w.alloc (.deferred (some []))).alloc (.loop (rec .ready none)) = W1 := ⟨_, rfl⟩
  have hL1 : W1.heap[w.heap.size + 1]? = some (.loop (rec .ready none)) := by
    rw [← hW1]; have := World.alloc_heap_new (w.alloc (.deferred (some []))) (.loop (rec .ready none)); rwa [World.size_alloc] at this
  have hK1 : W1.heap[w.heap.size]? = some (.deferred (some [])) := by
    rw [← hW1]; exact (Below.heap_alloc _ _ _ (by simp)).trans (World.alloc_heap_new w _)
  have hI1 : I [] W1 := by rw [← hW1]; exact hIa _ _ ((Below.refl w.heap.size w).alloc (Nat.le_refl _) _) (hIa _ _ (Below.refl _ _) h0)
  have hgr : w.grownBy W1 none := by
    have b := (((Below.refl w.heap.size w).alloc (Nat.le_refl _) (.deferred (some []))).alloc (by simp) (.loop (rec .ready none)))
    rw [hW1] at b
    exact ⟨b.os, b.tape, b.output, b.size, fun k hk _ => b.block k hk⟩
  refine ⟨w.heap.size + 1, [{ target := .collected w.heap.size, args := #[] }], W1, { target := .fn (.func 92) lb, args := #[.func (.yield (w.heap.size + 1)) #[] #[]] }, W1, 92,
    #[.func (.yield (w.heap.size + 1)) #[] #[]] ++ lb, W1, ?_, ?_, fun f' _ => trivial, ?_, fun _ => hn, ?_⟩
  · rw [← hW1, hrec]; exact run_enterLoop_outer _ _ _ _ _
  · simp only [resolve, hg]
    simp [go_sem]
  · have eg : ∀ args w, (callFunc 92 args).run Tryz.prog w = .ok (.enter 92 args) w := enters_of Tryz.func92 (by kernel_rfl) rfl
    simp [invoke, go_sem, eg]
  · have ncell : ∀ {W : World} {k : Nat} {o : Obj} {c : ByteArray}, W.heap[k]? = some o → o.isCells = false → Boxed W Bs 9 (.string c) → k ≠ Bs := by
      intro W k o c h1 h2 h3 e
      rw [e, show W.heap[Bs]? = _ from h3] at h1
      cases h1; cases h2
    have other : ∀ {W : World} {k : Nat} (v : Value), k ≠ Bs → (W.setCell ⟨Bs, 0, none⟩ v).heap[k]? = W.heap[k]? := fun v hk => Below.heap_setCell _ _ _ _ hk
    refine (hcall (w.heap.size + 1) W1
      (fun pre W => I pre W ∧ W.heap[w.heap.size + 1]? = some (.loop (rec .ready none)) ∧ W.heap[w.heap.size]? = some (.deferred (some [])))
      (fun pre W => Ix pre W ∧ W.heap[w.heap.size + 1]? = some (.loop (rec .done (some .ret))) ∧ W.heap[w.heap.size]? = some (.deferred (some [])))
      hgr (fun pre W c c' hj hb => ⟨hIs pre W c c' hj.1 hb, (other _ (ncell hj.2.1 rfl hb)).trans hj.2.1, (other _ (ncell hj.2.2 rfl hb)).trans hj.2.2⟩) ?_ ⟨hI1, hL1, hK1⟩).mono ?_
    · rintro pre x W hpre ⟨hi, hl, hk⟩
      have hlt : w.heap.size + 1 < W.heap.size := (Array.getElem?_eq_some_iff.1 hl).1
      have hy := run_yield (P := Tryz.prog) (args := #[.string x]) hl (by rw [hrec]; simp [hps])
      rw [hrec] at hy
      refine ⟨fn, _, assign, body, hy, roundIn_of_wpIn trivial (hassign _ x W _ ⟨_, run_beginRound hl (by rw [hrec]), ?_⟩)⟩
      have hl2 : (W.putObj (w.heap.size + 1) (.loop { rec .ready none with state := .busy })).heap[w.heap.size + 1]? = some (.loop { rec .ready none with state := .busy }) := World.putObj_heap_same hlt
      have hk2 : (W.putObj (w.heap.size + 1) (.loop { rec .ready none with state := .busy })).heap[w.heap.size]? = some (.deferred (some [])) := (World.putObj_heap_other (by omega)).trans hk
      have box : ∀ {W : World} {j : Nat} {o : Obj} (o' : Obj) {k : Nat} {t : TypeId} {v : Value}, W.heap[j]? = some o → o.isCells = false → Boxed W k t v → Boxed (W.putObj j o') k t v := by
        intro W j o o' k t v h1 h2 h3
        refine (World.putObj_heap_other ?_).trans h3
        intro e
        rw [← e, show W.heap[k]? = _ from h3] at h1
        cases h1; cases h2
      refine wpIn_mono (hbody _ pre x _ hpre (hI _ _ _ _ _ hi (by omega) hl rfl)) ?_
      have fin : ∀ (jump : Option Code) (W3 : World), KeepsOthers (W.putObj (w.heap.size + 1) (.loop { rec .ready none with state := .busy })) W3 →
          (Instr.endRound (w.heap.size + 1) jump).run Tryz.prog W3 = .ok (.bool jump.isNone) (W3.putObj (w.heap.size + 1) (.loop (rec (if jump.isNone then .ready else .done) jump))) ∧
          W3.heap[w.heap.size + 1]? = some (.loop { rec .ready none with state := .busy }) ∧
          (W3.putObj (w.heap.size + 1) (.loop (rec (if jump.isNone then .ready else .done) jump))).heap[w.heap.size + 1]? = some (.loop (rec (if jump.isNone then .ready else .done) jump)) ∧
          (W3.putObj (w.heap.size + 1) (.loop (rec (if jump.isNone then .ready else .done) jump))).heap[w.heap.size]? = some (.deferred (some [])) := fun jump W3 hk3 => by
        have hl3 := hk3.same _ _ hl2 rfl
        have := run_endRound (P := Tryz.prog) jump hl3
        rw [hrec] at this ⊢
        exact ⟨this, by rw [hrec] at hl3; exact hl3, World.putObj_heap_same (Array.getElem?_eq_some_iff.1 hl3).1, (World.putObj_heap_other (by omega)).trans (hk3.same _ _ hk2 rfl)⟩
      rintro e a3 W3 ⟨hk3, hb3, (⟨rfl, hi3⟩ | ⟨rfl, hi3⟩)⟩
      · obtain ⟨hr, hl3, hl4, hk4⟩ := fin none W3 hk3
        exact ⟨_, _, hr, .inl ⟨rfl, ⟨hI _ _ _ _ _ hi3 (by omega) hl3 rfl, hl4, hk4⟩, fun k t v hk hb => box _ hl3 rfl (hb3 k t v hk (box _ hl rfl hb))⟩⟩
      · obtain ⟨hr, hl3, hl4, hk4⟩ := fin (some .ret) W3 hk3
        exact ⟨_, _, hr, .inr ⟨rfl, hIx _ _ _ _ _ hi3 (by omega) hl3 rfl, hl4, hk4⟩⟩
    · rintro e W2 ⟨⟨v, rfl⟩, (⟨hi, hl, hk⟩ | ⟨pre, hSp, hi, hl, hk⟩)⟩
      · exact ⟨none, _, by have := run_endLoop (P := Tryz.prog) hl (by rw [hrec]; simp); rw [hrec] at this; exact this, hdone _ _ (hI _ _ _ _ _ hi (by omega) hl rfl) ((World.putObj_heap_other (by omega)).trans hk) (Nat.le_refl _)⟩
      · exact ⟨some .ret, _, by have := run_endLoop (P := Tryz.prog) hl (by rw [hrec]; simp); rw [hrec] at this; exact this, hstop _ pre _ hSp (hIx _ _ _ _ _ hi (by omega) hl rfl) ((World.putObj_heap_other (by omega)).trans hk) (Nat.le_refl _)⟩

set_option maxHeartbeats 1000000 in
theorem splitSeq_w (s sep : ByteArray) (w : World) :
    Calls Tryz.prog 65 #[.string s, .string sep, .int .i64 0] w fun e w' => e = .returned (.func (.func 92) #[] #[.pointer (some ⟨w.heap.size + 1, 0, none⟩), .pointer (some ⟨w.heap.size, 0, none⟩), .pointer (some ⟨w.heap.size + 1 + 1, 0, none⟩)]) ∧
      w' = ((w.alloc (.cells #[.string s] 9)).alloc (.cells #[.string sep] 9)).alloc (.cells #[.int .i64 0] 3) := by
  go_enter Tryz.func65, Tryz.ntmps65
  go_wp2
  go_ret
  exact ⟨rfl, rfl⟩

set_option maxHeartbeats 1000000 in
theorem SplitSeq_w (s sep : ByteArray) (w : World) :
    Calls Tryz.prog 47 #[.string s, .string sep] w fun e w' => e = .returned (.func (.func 92) #[] #[.pointer (some ⟨w.heap.size + 1, 0, none⟩), .pointer (some ⟨w.heap.size, 0, none⟩), .pointer (some ⟨w.heap.size + 1 + 1, 0, none⟩)]) ∧
      w' = ((w.alloc (.cells #[.string s] 9)).alloc (.cells #[.string sep] 9)).alloc (.cells #[.int .i64 0] 3) := by
  go_enter Tryz.func47, Tryz.ntmps47
  go_wp2_with (go_at_call 65; refine (splitSeq_w _ _ _).mono ?_; rintro e w' ⟨rfl, rfl⟩)
  go_ret
  exact ⟨rfl, rfl⟩

theorem picksOf_snoc (x : List UInt8) : ∀ pre : List (List UInt8), picksOf (pre ++ [x]) = match picksOf pre with
    | none => none
    | some l => if pickOf x = 24 then none else some (l ++ [(pickOf x : Int)])
  | [] => by
    show (if pickOf x = 24 then none else _) = if pickOf x = 24 then none else _
    rfl
  | y :: pre => by
    rw [List.cons_append]
    unfold picksOf
    by_cases hy : pickOf y = 24
    · rw [if_pos hy, if_pos hy]
    · rw [if_neg hy, if_neg hy, picksOf_snoc x pre]
      cases picksOf pre with
      | none => rfl
      | some l =>
        dsimp only [Option.map]
        by_cases hx : pickOf x = 24
        · rw [if_pos hx, if_pos hx]
        · rw [if_neg hx, if_neg hx]; rfl

theorem picksOf_none (pre t : List (List UInt8)) (h : picksOf pre = none) : picksOf (pre ++ t) = none := by
  induction t generalizing pre with
  | nil => rw [List.append_nil]; exact h
  | cons x t ih =>
    rw [show pre ++ x :: t = (pre ++ [x]) ++ t by simp]
    exact ih _ (by rw [picksOf_snoc, h])

theorem picksOf_len (l : List (List UInt8)) : ∀ {r : List Int}, picksOf l = some r → r.length = l.length := by
  induction l with
  | nil => intro r h; cases h; rfl
  | cons x l ih =>
    intro r h
    unfold picksOf at h
    split at h
    · cases h
    · cases hp : picksOf l with
      | none => rw [hp] at h; cases h
      | some q => rw [hp] at h; cases h; rw [List.length_cons, List.length_cons, ih hp]

theorem pickOf_eq {x : List UInt8} {k : Nat} (hk : k ≤ 24) (h : ∀ j : Nat, j < k → (nameOf (j : Int)).data.toList ≠ x) (he : k = 24 ∨ (nameOf (k : Int)).data.toList = x) : pickOf x = k := by
  unfold pickOf
  by_cases h24 : k = 24
  · subst h24
    have : ((List.range 24).find? fun (i : Nat) => decide ((nameOf (i : Int)).data.toList = x)) = none := by
      rw [List.find?_eq_none]
      intro j hj
      rw [List.mem_range] at hj
      simpa using h j hj
    rw [this]; rfl
  · have : ((List.range 24).find? fun (i : Nat) => decide ((nameOf (i : Int)).data.toList = x)) = some k := by
      rw [List.find?_range_eq_some]
      refine ⟨by simpa using he.resolve_left h24, by rw [List.mem_range]; omega, fun j hj => by simpa using h j hj⟩
    rw [this]; rfl

def PI (w : World) (pre : List (List UInt8)) (W : World) : Prop := ∃ l, picksOf pre = some l ∧ Boxed W w.heap.size 22 (.slice none 0 0) ∧ Boxed W (w.heap.size + 1) 4 (.bool false) ∧
  (∃ v, Boxed W (w.heap.size + 1 + 1) 22 v ∧ W.ownsRow (w.heap.size + 6) 3 1 v l.length (l.map (Value.int .i64))) ∧ Below w.heap.size w W ∧ w.heap.size + 6 ≤ W.heap.size

theorem ownsRow_low {W : World} {b b' : Nat} {e : TypeId} {size : Nat} {v : Value} {k : Nat} {xs : List Value} (h : W.ownsRow b e size v k xs) (hb : b' ≤ b) : W.ownsRow b' e size v k xs :=
  ⟨h.1, h.2.imp id fun ⟨g, cap, cur, q1, q2, q3⟩ => ⟨g, cap, cur, q1, by omega, q3⟩⟩

def PIx (w : World) (pre : List (List UInt8)) (W : World) : Prop := picksOf pre = none ∧ Boxed W w.heap.size 22 (.slice none 0 0) ∧ Boxed W (w.heap.size + 1) 4 (.bool false) ∧ Below w.heap.size w W

theorem Boxed.notCells {W : World} {j : Nat} {o : Obj} (h1 : W.heap[j]? = some o) (h2 : o.isCells = false) {k : Nat} {t : TypeId} {v : Value} (h3 : Boxed W k t v) : some k ≠ some j := by
  intro e
  obtain rfl : k = j := Option.some.inj e
  rw [show W.heap[k]? = _ from h3] at h1
  cases h1; cases h2

theorem Below.put {B : Nat} {w W : World} {j : Nat} (o : Obj) (h : Below B w W) (hj : B ≤ j) (hlt : j < W.heap.size) : Below B w (W.putObj j o) :=
  h.trans ((Below.refl B W).grown (grownBy_putObj' W j o) (by have := h.size; omega) (fun k e => by cases e; exact hj))

theorem PI.put {w : World} {pre : List (List UInt8)} {W : World} {j : Nat} {o : Obj} (o' : Obj) (h : PI w pre W) (hj : w.heap.size ≤ j) (h1 : W.heap[j]? = some o) (h2 : o.isCells = false) : PI w pre (W.putObj j o') := by
  obtain ⟨l, a1, a2, a3, ⟨v, a4, a5⟩, a6, a7⟩ := h
  have hlt : j < W.heap.size := (Array.getElem?_eq_some_iff.1 h1).1
  exact ⟨l, a1, a2.kept (grownBy_putObj' W j o') (Boxed.notCells h1 h2 a2), a3.kept (grownBy_putObj' W j o') (Boxed.notCells h1 h2 a3), ⟨v, a4.kept (grownBy_putObj' W j o') (Boxed.notCells h1 h2 a4), ownsRow_putObj a5 o' h1 h2⟩, Below.put o' a6 hj hlt, by simpa using a7⟩

theorem PIx.put {w : World} {pre : List (List UInt8)} {W : World} {j : Nat} {o : Obj} (o' : Obj) (h : PIx w pre W) (hj : w.heap.size ≤ j) (h1 : W.heap[j]? = some o) (h2 : o.isCells = false) : PIx w pre (W.putObj j o') := by
  obtain ⟨a1, a2, a3, a6⟩ := h
  have hlt : j < W.heap.size := (Array.getElem?_eq_some_iff.1 h1).1
  exact ⟨a1, a2.kept (grownBy_putObj' W j o') (Boxed.notCells h1 h2 a2), a3.kept (grownBy_putObj' W j o') (Boxed.notCells h1 h2 a3), Below.put o' a6 hj hlt⟩

theorem PI.grown {w : World} {pre : List (List UInt8)} {W W' : World} (h : PI w pre W) (hg : W.grownBy W' none) (hb : Below w.heap.size w W') : PI w pre W' := by
  obtain ⟨l, a1, a2, a3, ⟨v, a4, a5⟩, a6, a7⟩ := h
  refine ⟨l, a1, a2.kept hg (by simp), a3.kept hg (by simp), ⟨v, a4.kept hg (by simp), a5.kept hg ?_⟩, hb, by have := hg.size; omega⟩
  rcases a5.2 with ⟨rfl, _⟩ | ⟨g, cap, cur, rfl, _⟩
  · exact .inl rfl
  · exact .inr (by simp [Value.ownBlock])

theorem PI.set {w : World} {pre : List (List UInt8)} {W : World} {B : Nat} {c : Value} (c' : Value) (h : PI w pre W) (hB : w.heap.size + 1 + 1 < B) (hb : Boxed W B 9 c) : PI w pre (W.setCell ⟨B, 0, none⟩ c') := by
  obtain ⟨l, a1, a2, a3, ⟨v, a4, a5⟩, a6, a7⟩ := h
  have hg := grownBy_setCell' W B c'
  refine ⟨l, a1, a2.kept hg (by simp; omega), a3.kept hg (by simp; omega), ⟨v, a4.kept hg (by simp; omega), a5.kept hg (.inr (hb.not_row (by decide) a5).symm)⟩, a6.setCell (p := ⟨B, 0, none⟩) (by simp; omega) c', by have := hg.size; omega⟩

theorem results_two (tmps : Array Value) (W : World) (b c : Nat) (u v : Value) (h1 : tmps.getD 2 undef = .pointer (some ⟨b, 0, none⟩)) (h2 : tmps.getD 3 undef = .pointer (some ⟨c, 0, none⟩)) (hu : W.cell? ⟨b, 0, none⟩ = some u) (hv : W.cell? ⟨c, 0, none⟩ = some v) :
    (results Tryz.f27 tmps).run Tryz.prog W = .ok (.tuple #[u, v]) W := by
  have a22 : ∀ w, (isAgg 22).run Tryz.prog w = .ok false w := fun w => by kernel_rfl
  have a4 : ∀ w, (isAgg 4).run Tryz.prog w = .ok false w := fun w => by kernel_rfl
  have := Jq.run_results (fn := Tryz.f27) (tmps := tmps) (us := [u, v]) (P := Tryz.prog) (w := W) (by
    show (List.mapM (Jq.readR tmps) [.cell 2 22, .cell 3 4]).run _ _ = _
    simp [Jq.readR, h1, h2, asAddr, loadVar, a22, a4, hu, hv])
  rw [this]
  rfl

set_option maxHeartbeats 4000000 in
set_option maxRecDepth 100000 in
theorem Parse_w (s : ByteArray) (w : World) (hs : s.size ≤ 4611686018427387904) (h0 : s.size ≠ 0) (hb : ((parts s.data.toList).length + 1) * 8 ≤ 140737488355328)
    (hN : ∀ (i : Nat) (W : World), i < 24 → Below w.heap.size w W → Calls Tryz.prog 48 #[.int .i64 i] W fun e W' => e = .returned (.string (nameOf i)) ∧ Below W.heap.size W W') :
    Calls Tryz.prog 27 #[.string s] w (PPost 3 s w) := by
  refine (callsIn_wide (n := 5)).1 ?_
  refine callsIn_of_wp_marks Tryz.func27 rfl trivial ?_ rfl
  simp only [Tryz.ntmps27, List.size_toArray, List.length_cons, List.length_nil, Nat.reduceAdd, Nat.reduceSub, Array.replicate_succ, Array.replicate_zero, List.push_toArray, List.append_toArray, List.nil_append, List.cons_append]
  have hne : (s.toList == []) = false := by
    rw [Lib.toList_data]
    cases h : s.data.toList with
    | nil => exact absurd (show s.data.toList.length = 0 by rw [h]; rfl) h0
    | cons a t => rfl
  gi_wp2_with (first
    | (refine ⟨trivial, ?_⟩; gi_at_call 47; refine ((callsIn_wide (n := 5 - 1)).2 (SplitSeq_w _ _ _)).mono ?_; rintro e w' ⟨rfl, rfl⟩)
    | gi_in)
  obtain ⟨W0, hW0⟩ : ∃ W0, ((((((w.alloc (.cells #[.slice none 0 0] 22)).alloc (.cells #[.bool false] 4)).alloc (.cells #[.slice none 0 0] 22)).alloc (.cells #[.string s] 9)).alloc (.cells #[.string ⟨#[32]⟩] 9)).alloc (.cells #[.int .i64 0] 3)) = W0 := ⟨_, rfl⟩
  rw [hW0]
  have q0 : Boxed W0 w.heap.size 22 (.slice none 0 0) := by
    rw [← hW0]; exact (((((Boxed.new w 22 _).alloc _).alloc _).alloc _).alloc _).alloc _
  have q1 : Boxed W0 (w.heap.size + 1) 4 (.bool false) := by
    rw [← hW0]; have := Boxed.new (w.alloc (.cells #[.slice none 0 0] 22)) 4 (.bool false); rw [World.size_alloc] at this
    exact ((((this).alloc _).alloc _).alloc _).alloc _
  have q2 : Boxed W0 (w.heap.size + 1 + 1) 22 (.slice none 0 0) := by
    rw [← hW0]; have := Boxed.new ((w.alloc (.cells #[.slice none 0 0] 22)).alloc (.cells #[.bool false] 4)) 22 (.slice none 0 0); rw [World.size_alloc, World.size_alloc] at this
    exact (((this).alloc _).alloc _).alloc _
  have q3 : Boxed W0 (w.heap.size + 1 + 1 + 1) 9 (.string s) := by
    rw [← hW0]; have := Boxed.new (((w.alloc (.cells #[.slice none 0 0] 22)).alloc (.cells #[.bool false] 4)).alloc (.cells #[.slice none 0 0] 22)) 9 (.string s); rw [World.size_alloc, World.size_alloc, World.size_alloc] at this
    exact ((this).alloc _).alloc _
  have q4 : Boxed W0 (w.heap.size + 1 + 1 + 1 + 1) 9 (.string ⟨#[32]⟩) := by
    rw [← hW0]; have := Boxed.new ((((w.alloc (.cells #[.slice none 0 0] 22)).alloc (.cells #[.bool false] 4)).alloc (.cells #[.slice none 0 0] 22)).alloc (.cells #[.string s] 9)) 9 (.string ⟨#[32]⟩); rw [World.size_alloc, World.size_alloc, World.size_alloc, World.size_alloc] at this
    exact (this).alloc _
  have q5 : Boxed W0 (w.heap.size + 1 + 1 + 1 + 1 + 1) 3 (.int .i64 0) := by
    rw [← hW0]; have := Boxed.new (((((w.alloc (.cells #[.slice none 0 0] 22)).alloc (.cells #[.bool false] 4)).alloc (.cells #[.slice none 0 0] 22)).alloc (.cells #[.string s] 9)).alloc (.cells #[.string ⟨#[32]⟩] 9)) 3 (.int .i64 0); rw [World.size_alloc, World.size_alloc, World.size_alloc, World.size_alloc, World.size_alloc] at this
    exact this
  have qB : Below w.heap.size w W0 := by
    rw [← hW0]
    exact ((((((Below.refl w.heap.size w).alloc (by simp) _).alloc (by simp) _).alloc (by simp; omega) _).alloc (by simp; omega) _).alloc (by simp; omega) _).alloc (by simp; omega) _
  have qs : W0.heap.size = w.heap.size + 6 := by rw [← hW0]; simp
  clear hW0
  refine wp_range (n := 5) (by omega) (lb := #[.pointer (some ⟨w.heap.size + 1 + 1 + 1 + 1, 0, none⟩), .pointer (some ⟨w.heap.size + 1 + 1 + 1, 0, none⟩), .pointer (some ⟨w.heap.size + 1 + 1 + 1 + 1 + 1, 0, none⟩)]) rfl rfl (PI w) (PIx w)
    (fun W o hb h => h.grown (World.grownBy_alloc W o none) (qB.trans (((hb.trans (Below.refl _ _)).mono (by omega)).alloc (by have := hb.size; omega) o)))
    (fun pre W j o o' h hj h1 h2 => h.put o' (by omega) h1 h2) (fun pre W j o o' h hj h1 h2 => h.put o' (by omega) h1 h2)
    ⟨[], rfl, q0, q1, ⟨_, q2, World.ownsRow_nil _ _ _ _⟩, qB, by omega⟩ (w.heap.size + 1 + 1 + 1) (w.heap.size + 1 + 1 + 1 + 1) (w.heap.size + 1 + 1 + 1 + 1 + 1) (parts s.data.toList)
    (fun pre W c c' h hb => h.set _ (by omega) hb)
    (fun l W1 J Jx hg hJs hY h0 => iter_in (5 - 1) (by omega) l _ _ _ (by omega) (by omega) J Jx hJs s hY W1 hs (q3.kept hg (by simp)) (q4.kept hg (by simp)) (q5.kept hg (by simp)) h0)
    (fun x => { tmps := #[.string s, undef, .pointer (some ⟨w.heap.size, 0, none⟩), .pointer (some ⟨w.heap.size + 1, 0, none⟩), .pointer (some ⟨w.heap.size + 1 + 1, 0, none⟩), .string x, undef, .string s, .bool false, .string s,
      .func (.func 92) #[] #[.pointer (some ⟨w.heap.size + 1 + 1 + 1 + 1, 0, none⟩), .pointer (some ⟨w.heap.size + 1 + 1 + 1, 0, none⟩), .pointer (some ⟨w.heap.size + 1 + 1 + 1 + 1 + 1, 0, none⟩)],
      .string x, undef, undef, undef, undef, undef, undef, undef, undef, undef, undef, undef, undef, undef, undef, undef, undef, undef], defers := [] }) ?assign ?body ?done ?stop
  case assign =>
    intro l x W K hK
    gi_wp2
    exact hK
  case body =>
    rintro l pre x W hpre ⟨l', hl', c0, c1, ⟨v, c2, hrow⟩, hB, hsz⟩
    have hd : 1 ≤ 5 - 1 - 1 := by omega
    have hlen : l'.length + 1 ≤ (parts s.data.toList).length := by
      have := hpre.length_le
      rw [List.length_append, List.length_singleton] at this
      rw [picksOf_len _ hl']; exact this
    have box : ∀ {W' : World} {B : Nat} {t : TypeId} {v : Value}, Below W.heap.size W W' → Boxed W B t v → Boxed W' B t v := fun h b => (h.block _ b.lt).trans b
    have keep : ∀ {W' : World}, Below W.heap.size W W' → KeepsOthers W W' := fun h => ⟨h.size, fun k o hk _ => (h.block k (Array.getElem?_eq_some_iff.1 hk).1).trans hk⟩
    have grow : ∀ {W' : World}, Below W.heap.size W W' → W.grownBy W' none := fun h => ⟨h.os, h.tape, h.output, h.size, fun k hk _ => h.block k hk⟩
    obtain ⟨i0, hi, hz0, hz1, hz2⟩ := info_parts (show (Tryz.prog.info? 3).map (fun i => (i.zero, i.size, i.bytes)) = some (some (.int .i64 0), 1, 8) by kernel_rfl)
    gi_wp2
    gi_loopw [6] (fun iv wr => ∃ k : Nat, iv = .int .i64 k ∧ k ≤ 24 ∧ (∀ j : Nat, j < k → (nameOf (j : Int)).data.toList ≠ x.data.toList) ∧ Below W.heap.size W wr) (fun iv _ => (24 - intOf iv).toNat)
    case atStart =>
      exact ⟨0, rfl, by omega, fun j hj => by omega, Below.refl _ _⟩
    case round =>
      obtain ⟨k, rfl, hk, hno, hb⟩ := hrel
      by_cases h24 : k = 24
      · subst h24
        have d0 := (box hb c0).cell; have f0 := (box hb c0).frozen; have d1 := (box hb c1).cell; have f1 := (box hb c1).frozen
        gi_wp2_with (first
          | (refine ⟨trivial, ?_⟩; gi_at_call 48; refine (CallsIn.inRound l ((callsIn_wide (n := 5 - 1 - 1 - 1)).2 (hN 24 _ (by omega) (hB.trans (hb.mono hB.size))))).mono ?_; rintro e w' ⟨rfl, hb'⟩)
          | gi_in)
        refine ⟨trivial, ?_⟩
        gi_wp2
        have p1 := grownBy_setCell' wr w.heap.size (.slice none 0 0)
        have p2 := grownBy_setCell' (wr.setCell ⟨w.heap.size, 0, none⟩ (.slice none 0 0)) (w.heap.size + 1) (.bool false)
        refine ⟨((keep hb).trans (KeepsOthers.setCell _ _ _)).trans (KeepsOthers.setCell _ _ _), fun k t v hk b => ((box hb b).kept p1 (by simp; omega)).kept p2 (by simp; omega), ?_, ((box hb c0).set _).kept p2 (by simp), ((box hb c1).kept p1 (by simp)).set _, ?_⟩
        · rw [picksOf_snoc, hl']
          dsimp only
          rw [if_pos (pickOf_eq (Nat.le_refl 24) hno (.inl rfl))]
        · exact ((hB.trans (hb.mono hB.size)).setCell (p := ⟨w.heap.size, 0, none⟩) (by simp) _).setCell (p := ⟨w.heap.size + 1, 0, none⟩) (by simp) _
      · have hk4 : k < 24 := by omega
        have hw1 : wrap64 ((k : Int) + 1) = ((k + 1 : Nat) : Int) := wrap_in (by omega) (by omega)
        have hk5 : ((k : Int) == 24) = false := by rw [beq_eq_false_iff_ne]; omega
        by_cases hx : (nameOf (k : Int)).data.toList = x.data.toList
        · have hx2 : ((nameOf (k : Int)).toList == x.toList) = true := by rw [Lib.toList_data, Lib.toList_data, hx]; simp
          gi_wp2_with (first
            | (refine ⟨trivial, ?_⟩; gi_at_call 48; refine (CallsIn.inRound l ((callsIn_wide (n := 5 - 1 - 1 - 1)).2 (hN k _ hk4 (hB.trans (hb.mono hB.size))))).mono ?_; rintro e w' ⟨rfl, hb'⟩; have hbb := hb.trans (hb'.mono hb.size); have d2 := (box hbb c2).cell; have f2 := (box hbb c2).frozen; have hrow2 := hrow.kept (grow hbb) (by rcases hrow.2 with ⟨rfl, _⟩ | ⟨g, cap, cur, rfl, _⟩; exact .inl rfl; exact .inr (by simp [Value.ownBlock])))
            | (gi_at_builtin; refine wpListIn_append_own _ rfl _ _ 22 rfl (w.heap.size + 6) 3 i0 (.int .i64 0) 1 8 Tryz.underlying22 hi hz0 hz1 hz2 rfl (by decide) _ _ _ rfl (hrow2.alloc _) ⟨_, 0, none⟩ 1 1 [.int .i64 k] rfl rfl (cell_one_new _ _ _) (by simp [Value.oneCell']) (by unfold maxLen; omega) (by omega) (by have := hbb.size; simp; omega) ?_; intro v' w1 hown' hgrow _; obtain ⟨g', cap', rfl⟩ := ownsRow_succ hown'; obtain ⟨hv1, hv2, hr2, hk2, hb2⟩ := (box hbb c2).appended (by decide) (ownsRow_low hrow2 (show w.heap.size ≤ _ by omega)) (by have := hbb.size; omega) (by omega) (ownsRow_low hown' (show w.heap.size ≤ _ by omega)) hgrow; have hc1 := hv1.cell; have hf1 := hv1.frozen)
            | gi_in)
          have rowLt : ∀ j, v.ownBlock = some j → w.heap.size + 6 ≤ j := fun j e => (hrow.lt j e).1
          have oth : ∀ {B : Nat} {t : TypeId} {u : Value}, Boxed W B t u → B < w.heap.size + 6 → B ≠ w.heap.size + 1 + 1 → Boxed (w1.setCell ⟨w.heap.size + 1 + 1, 0, none⟩ (.slice (some ⟨g', 0, none⟩) (l'.length + 1) cap')) B t u := fun {B t u} b h1 h2 =>
            (((box hbb b).alloc _).kept hgrow (fun e => by have := rowLt B e.symm; omega)).kept (grownBy_setCell' _ _ _) (by simpa using h2)
          refine ⟨(keep hbb).trans hk2, fun k t v hk b => oth b (by omega) (by omega), ⟨l' ++ [(k : Int)], ?_, oth c0 (by omega) (by omega), oth c1 (by omega) (by omega), ⟨_, hv2, ?_⟩, (hB.trans (hbb.mono hB.size)).trans hb2, ?_⟩⟩
          · rw [picksOf_snoc, hl']
            dsimp only
            rw [if_neg (by rw [pickOf_eq hk hno (.inr hx)]; exact h24), pickOf_eq hk hno (.inr hx)]
          · have hr3 := hown'.kept (grownBy_setCell' w1 (w.heap.size + 1 + 1) (.slice (some ⟨g', 0, none⟩) (l'.length + 1) cap')) (.inr (hv1.not_row (by decide) hown').symm)
            rw [List.length_append, List.length_singleton, List.map_append]
            exact hr3
          · have := hb2.size; have := hbb.size; omega
        · have hx2 : ((nameOf (k : Int)).toList == x.toList) = false := by rw [Lib.toList_data, Lib.toList_data, beq_eq_false_iff_ne]; exact hx
          gi_wp2_with (first
            | (refine ⟨trivial, ?_⟩; gi_at_call 48; refine (CallsIn.inRound l ((callsIn_wide (n := 5 - 1 - 1 - 1)).2 (hN k _ hk4 (hB.trans (hb.mono hB.size))))).mono ?_; rintro e w' ⟨rfl, hb'⟩)
            | gi_in)
          refine ⟨⟨k + 1, rfl, by omega, fun j hj => ?_, hb.trans (hb'.mono hb.size)⟩, ?_⟩
          · rcases Nat.lt_or_ge j k with c | c
            · exact hno j c
            · obtain rfl : j = k := by omega
              exact hx
          · show (24 - ((k : Int) + 1)).toNat < (24 - (k : Int)).toNat
            omega
  case done =>
    rintro D W ⟨l', hl', c0, c1, ⟨v, c2, hrow⟩, hB, hsz⟩ hK hD
    have d0 := c0.cell; have f0 := c0.frozen; have d1 := c1.cell; have f1 := c1.frozen; have d2 := c2.cell; have f2 := c2.frozen
    have p1 := grownBy_setCell' W w.heap.size v
    have p2 := grownBy_setCell' (W.setCell ⟨w.heap.size, 0, none⟩ v) (w.heap.size + 1) (.bool true)
    have e0 := ((c0.set v).kept p2 (by simp)).cell
    have e1 := ((c1.kept p1 (by simp)).set (.bool true)).cell
    have hb2 := (hB.setCell (p := ⟨w.heap.size, 0, none⟩) (by simp) v).setCell (p := ⟨w.heap.size + 1, 0, none⟩) (by simp) (.bool true)
    have hr2 := ((ownsRow_low hrow (show w.heap.size ≤ _ by omega)).kept p1 (by
      rcases h : v.ownBlock with _ | j
      · exact .inl rfl
      · exact .inr (by have := (hrow.lt j h).1; simp; omega))).kept p2 (by
      rcases h : v.ownBlock with _ | j
      · exact .inl rfl
      · exact .inr (by have := (hrow.lt j h).1; simp; omega))
    have hK2 : ((W.setCell ⟨w.heap.size, 0, none⟩ v).setCell ⟨w.heap.size + 1, 0, none⟩ (.bool true)).heap[D]? = some (.deferred (some [])) := ((KeepsOthers.setCell _ _ _).trans (KeepsOthers.setCell _ _ _)).same D _ hK rfl
    have hDlt := (Array.getElem?_eq_some_iff.1 hK2).1
    have hv : ∃ a b c, v = .slice a b c := by
      rcases hrow.2 with ⟨rfl, _⟩ | ⟨g, cap, cur, rfl, _⟩
      · exact ⟨_, _, _, rfl⟩
      · exact ⟨_, _, _, rfl⟩
    obtain ⟨a, b, c, rfl⟩ := hv
    dsimp only
    gi_wp2
    refine ⟨by simp, .inl ⟨_, _, rfl, run_takeDeferred hK2, ?_⟩⟩
    have pD := grownBy_putObj' ((W.setCell ⟨w.heap.size, 0, none⟩ (.slice a b c)).setCell ⟨w.heap.size + 1, 0, none⟩ (.bool true)) D (.deferred none)
    refine ⟨_, results_two _ _ _ _ _ _ rfl rfl (((((c0.set _).kept p2 (by simp))).kept pD (by simp; omega)).cell) ((((c1.kept p1 (by simp)).set _).kept pD (by simp; omega)).cell), ?_⟩
    unfold PPost
    rw [hl']
    exact ⟨Below.put _ hb2 (by omega) hDlt, _, rfl, ownsRow_putObj hr2 _ hK2 rfl⟩
  case stop =>
    rintro D pre W hpre ⟨hn', c0, c1, hB⟩ hK hD
    have d0 := c0.cell; have f0 := c0.frozen; have d1 := c1.cell; have f1 := c1.frozen
    dsimp only
    gi_wp2
    refine ⟨by simp, .inl ⟨_, _, rfl, run_takeDeferred hK, ?_⟩⟩
    have pD := grownBy_putObj' W D (.deferred none)
    refine ⟨_, results_two _ _ _ _ _ _ rfl rfl ((c0.kept pD (by simp; omega)).cell) ((c1.kept pD (by simp; omega)).cell), ?_⟩
    obtain ⟨t, ht⟩ := hpre
    unfold PPost
    rw [← ht, picksOf_none _ _ hn']
    exact ⟨Below.put _ hB (by omega) (Array.getElem?_eq_some_iff.1 hK).1, rfl⟩

set_option maxHeartbeats 1000000 in
set_option maxRecDepth 100000 in
theorem Parse_w0 (s : ByteArray) (w : World) (h0 : s.size = 0) : Calls Tryz.prog 27 #[.string s] w fun e w' => Below w.heap.size w w' ∧ e = .returned (.tuple #[.slice none 0 0, .bool true]) := by
  refine (callsIn_wide (n := 5)).1 ?_
  refine callsIn_of_wp_marks Tryz.func27 rfl trivial ?_ rfl
  simp only [Tryz.ntmps27, List.size_toArray, List.length_cons, List.length_nil, Nat.reduceAdd, Nat.reduceSub, Array.replicate_succ, Array.replicate_zero, List.push_toArray, List.append_toArray, List.nil_append, List.cons_append]
  have hne : (s.toList == []) = true := by
    rw [Lib.toList_data]
    cases h : s.data.toList with
    | nil => rfl
    | cons a t => exact absurd (show s.data.toList.length = 0 from h0) (by rw [h]; simp)
  gi_wp2_with gi_in
  have n0 : Boxed ((w.alloc (.cells #[.slice none 0 0] 22)).alloc (.cells #[.bool true] 4)) w.heap.size 22 (.slice none 0 0) := (Boxed.new w 22 _).alloc _
  have n1 : Boxed ((w.alloc (.cells #[.slice none 0 0] 22)).alloc (.cells #[.bool true] 4)) (w.heap.size + 1) 4 (.bool true) := by
    have := Boxed.new (w.alloc (.cells #[.slice none 0 0] 22)) 4 (.bool true); rwa [World.size_alloc] at this
  exact ⟨_, results_two _ _ _ _ _ _ rfl rfl n0.cell n1.cell, ((Below.refl w.heap.size w).alloc (by simp) _).alloc (by simp) _, rfl⟩

end PX
end Go.Proofs

/- The seat: where the functions that are reached lie in the given program, and that each is the given one. -/
namespace Go.Proofs.YtlfhmbifgdhckaaGreatDoor.LPlayModels
open Go Jq

def seatFn : Nat → Nat
  | 17 => 58
  | 18 => 63
  | 19 => 84
  | 32 => 50
  | 38 => 70
  | 42 => 98
  | 45 => 66
  | 46 => 95
  | 47 => 107
  | 48 => 115
  | 49 => 116
  | 50 => 117
  | 51 => 118
  | 76 => 7
  | 80 => 88
  | 94 => 56
  | 97 => 22
  | 101 => 21
  | 102 => 72
  | 105 => 61
  | 106 => 89
  | 108 => 102
  | 109 => 86
  | 113 => 83
  | 114 => 82
  | 115 => 42
  | 119 => 81
  | 121 => 40
  | 122 => 41
  | 124 => 104
  | 125 => 103
  | 139 => 110
  | 148 => 75
  | 155 => 76
  | 156 => 99
  | 158 => 73
  | 159 => 78
  | 163 => 100
  | 164 => 101
  | 167 => 48
  | 171 => 43
  | 172 => 46
  | 173 => 44
  | 174 => 25
  | 175 => 24
  | 179 => 26
  | 187 => 28
  | 188 => 54
  | 189 => 55
  | 190 => 57
  | 191 => 62
  | 192 => 64
  | 193 => 59
  | 194 => 60
  | 195 => 45
  | 200 => 74
  | 201 => 77
  | 202 => 79
  | 203 => 80
  | 204 => 91
  | 205 => 85
  | 206 => 87
  | 207 => 90
  | 260 => 27
  | 261 => 12
  | 262 => 29
  | 271 => 9
  | 272 => 49
  | 278 => 23
  | 306 => 11
  | 307 => 10
  | 423 => 17
  | 424 => 18
  | 426 => 6
  | 428 => 32
  | 429 => 31
  | 430 => 33
  | _ => 0

def envFn : Nat → Option Jq.Fn
  | 17 => some set_Set_Has
  | 18 => some set_Set_With
  | 19 => some set_bit
  | 32 => some set_Set_List
  | 38 => some set_Set_First
  | 42 => some bits_TrailingZeros64
  | 45 => some strconv_Itoa
  | 46 => some istrconv_Itoa
  | 47 => some istrconv_FormatInt
  | 48 => some istrconv_small
  | 76 => some jacquardlaw6_Of
  | 80 => some event_Writes
  | 94 => some prog_Start
  | 97 => some jacquardlaw3_Small
  | 101 => some jacquardref6_Compile
  | 102 => some prog_Size
  | 105 => some prog_Next
  | 106 => some prog_After
  | 108 => some prog_Value
  | 109 => some event_Of
  | 113 => some prog_thread
  | 114 => some prog_normal
  | 115 => some jacquardlaw3_Small_1
  | 119 => some slices_Clone_sIns_Ins
  | 121 => some jacquardref2_Locs
  | 122 => some jacquardref6_Place
  | 124 => some prog_set
  | 125 => some num_Do
  | 139 => some num_one
  | 148 => some well_Jumps
  | 155 => some slices_ContainsFunc_sIns_Ins
  | 156 => some slices_IndexFunc_sIns_Ins
  | 158 => some print_IsLoc
  | 159 => some print_Fields
  | 163 => some print_isOperand
  | 164 => some print_isReg
  | 167 => some vm_Name
  | 171 => some vm_New
  | 172 => some vm_VM_Enabled
  | 173 => some vm_VM_Pick
  | 174 => some vm_VM_Done
  | 175 => some vm_VM_Steps
  | 179 => some vm_VM_Final
  | 187 => some jacquardlaw12_SB
  | 188 => some prog_Ok
  | 189 => some vm_copied
  | 190 => some buf_New
  | 191 => some buf_Buf_Empty
  | 192 => some buf_Buf_Oldest
  | 193 => some vm_VM_thread
  | 194 => some vm_VM_flush
  | 195 => some slices_Clone_sStep_Step
  | 200 => some prog_Ok_1
  | 201 => some prog_Ok_2
  | 202 => some slices_Clone_sbyte_byte
  | 203 => some slices_Clone_sint64_int64
  | 204 => some buf_Buf_oldest
  | 205 => some buf_Buf_Newest
  | 206 => some buf_Buf_Put
  | 207 => some buf_Buf_Drop
  | 261 => some jacquardlaw17_awake
  | 262 => some play_Text
  | 271 => some play_Run
  | 278 => some play_run
  | 306 => some play_Maximal
  | 307 => some play_Final
  | 423 => some play_First
  | 424 => some play_Lazy
  | 426 => some jacquardlaw17_PlayModels
  | 428 => some play_First_1
  | 429 => some play_always
  | 430 => some play_Lazy_1
  | _ => none

def seatTab : Nat → List Cell := fun _ => []
noncomputable def seat : Seat := { P := Tryz.prog, fn := seatFn, gl := fun _ => 0, tab := seatTab }
def env : Env := { fn := envFn, tab := seatTab, ext := ext17 }

theorem mixed : true = true → seat.P.follows .mixedOrders = true := fun _ => by kernel_rfl

theorem ok_17 : FnOk seat 17 set_Set_Has := ⟨⟨Tryz.f58, _, drK seat true, Tryz.func58, rfl, by kernel_rfl, by kernel_rfl, by kernel_rfl, by kernel_rfl, fun _ _ h => draw_sound mixed h⟩⟩
theorem ok_18 : FnOk seat 18 set_Set_With := ⟨⟨Tryz.f63, _, drK seat true, Tryz.func63, rfl, by kernel_rfl, by kernel_rfl, by kernel_rfl, by kernel_rfl, fun _ _ h => draw_sound mixed h⟩⟩
theorem ok_19 : FnOk seat 19 set_bit := ⟨⟨Tryz.f84, _, drK seat true, Tryz.func84, rfl, by kernel_rfl, by kernel_rfl, by kernel_rfl, by kernel_rfl, fun _ _ h => draw_sound mixed h⟩⟩
theorem ok_32 : FnOk seat 32 set_Set_List := ⟨⟨Tryz.f50, _, drK seat true, Tryz.func50, rfl, by kernel_rfl, by kernel_rfl, by kernel_rfl, by kernel_rfl, fun _ _ h => draw_sound mixed h⟩⟩
theorem ok_38 : FnOk seat 38 set_Set_First := ⟨⟨Tryz.f70, _, drK seat true, Tryz.func70, rfl, by kernel_rfl, by kernel_rfl, by kernel_rfl, by kernel_rfl, fun _ _ h => draw_sound mixed h⟩⟩
theorem ok_42 : FnOk seat 42 bits_TrailingZeros64 := ⟨⟨Tryz.f98, _, drK seat true, Tryz.func98, rfl, by kernel_rfl, by kernel_rfl, by kernel_rfl, by kernel_rfl, fun _ _ h => draw_sound mixed h⟩⟩
theorem ok_45 : FnOk seat 45 strconv_Itoa := ⟨⟨Tryz.f66, _, drK seat true, Tryz.func66, rfl, by kernel_rfl, by kernel_rfl, by kernel_rfl, by kernel_rfl, fun _ _ h => draw_sound mixed h⟩⟩
theorem ok_46 : FnOk seat 46 istrconv_Itoa := ⟨⟨Tryz.f95, _, drK seat true, Tryz.func95, rfl, by kernel_rfl, by kernel_rfl, by kernel_rfl, by kernel_rfl, fun _ _ h => draw_sound mixed h⟩⟩
theorem ok_47 : FnOk seat 47 istrconv_FormatInt := ⟨⟨Tryz.f107, _, drK seat true, Tryz.func107, rfl, by kernel_rfl, by kernel_rfl, by kernel_rfl, by kernel_rfl, fun _ _ h => draw_sound mixed h⟩⟩
theorem ok_48 : FnOk seat 48 istrconv_small := ⟨⟨Tryz.f115, _, drK seat true, Tryz.func115, rfl, by kernel_rfl, by kernel_rfl, by kernel_rfl, by kernel_rfl, fun _ _ h => draw_sound mixed h⟩⟩
theorem ok_76 : FnOk seat 76 jacquardlaw6_Of := ⟨⟨Tryz.f7, _, drK seat true, Tryz.func7, rfl, by kernel_rfl, by kernel_rfl, by kernel_rfl, by kernel_rfl, fun _ _ h => draw_sound mixed h⟩⟩
theorem ok_80 : FnOk seat 80 event_Writes := ⟨⟨Tryz.f88, _, drK seat true, Tryz.func88, rfl, by kernel_rfl, by kernel_rfl, by kernel_rfl, by kernel_rfl, fun _ _ h => draw_sound mixed h⟩⟩
theorem ok_94 : FnOk seat 94 prog_Start := ⟨⟨Tryz.f56, _, drK seat true, Tryz.func56, rfl, by kernel_rfl, by kernel_rfl, by kernel_rfl, by kernel_rfl, fun _ _ h => draw_sound mixed h⟩⟩
theorem ok_97 : FnOk seat 97 jacquardlaw3_Small := ⟨⟨Tryz.f22, _, drK seat true, Tryz.func22, rfl, by kernel_rfl, by kernel_rfl, by kernel_rfl, by kernel_rfl, fun _ _ h => draw_sound mixed h⟩⟩
theorem ok_101 : FnOk seat 101 jacquardref6_Compile := ⟨⟨Tryz.f21, _, drK seat true, Tryz.func21, rfl, by kernel_rfl, by kernel_rfl, by kernel_rfl, by kernel_rfl, fun _ _ h => draw_sound mixed h⟩⟩
theorem ok_102 : FnOk seat 102 prog_Size := ⟨⟨Tryz.f72, _, drK seat true, Tryz.func72, rfl, by kernel_rfl, by kernel_rfl, by kernel_rfl, by kernel_rfl, fun _ _ h => draw_sound mixed h⟩⟩
theorem ok_105 : FnOk seat 105 prog_Next := ⟨⟨Tryz.f61, _, drK seat true, Tryz.func61, rfl, by kernel_rfl, by kernel_rfl, by kernel_rfl, by kernel_rfl, fun _ _ h => draw_sound mixed h⟩⟩
theorem ok_106 : FnOk seat 106 prog_After := ⟨⟨Tryz.f89, _, drK seat true, Tryz.func89, rfl, by kernel_rfl, by kernel_rfl, by kernel_rfl, by kernel_rfl, fun _ _ h => draw_sound mixed h⟩⟩
theorem ok_108 : FnOk seat 108 prog_Value := ⟨⟨Tryz.f102, _, drK seat true, Tryz.func102, rfl, by kernel_rfl, by kernel_rfl, by kernel_rfl, by kernel_rfl, fun _ _ h => draw_sound mixed h⟩⟩
theorem ok_109 : FnOk seat 109 event_Of := ⟨⟨Tryz.f86, _, drK seat true, Tryz.func86, rfl, by kernel_rfl, by kernel_rfl, by kernel_rfl, by kernel_rfl, fun _ _ h => draw_sound mixed h⟩⟩
theorem ok_113 : FnOk seat 113 prog_thread := ⟨⟨Tryz.f83, _, drK seat true, Tryz.func83, rfl, by kernel_rfl, by kernel_rfl, by kernel_rfl, by kernel_rfl, fun _ _ h => draw_sound mixed h⟩⟩
theorem ok_114 : FnOk seat 114 prog_normal := ⟨⟨Tryz.f82, _, drK seat true, Tryz.func82, rfl, by kernel_rfl, by kernel_rfl, by kernel_rfl, by kernel_rfl, fun _ _ h => draw_sound mixed h⟩⟩
theorem ok_115 : FnOk seat 115 jacquardlaw3_Small_1 := ⟨⟨Tryz.f42, _, drK seat true, Tryz.func42, rfl, by kernel_rfl, by kernel_rfl, by kernel_rfl, by kernel_rfl, fun _ _ h => draw_sound mixed h⟩⟩
theorem ok_119 : FnOk seat 119 slices_Clone_sIns_Ins := ⟨⟨Tryz.f81, _, drK seat true, Tryz.func81, rfl, by kernel_rfl, by kernel_rfl, by kernel_rfl, by kernel_rfl, fun _ _ h => draw_sound mixed h⟩⟩
theorem ok_121 : FnOk seat 121 jacquardref2_Locs := ⟨⟨Tryz.f40, _, drK seat true, Tryz.func40, rfl, by kernel_rfl, by kernel_rfl, by kernel_rfl, by kernel_rfl, fun _ _ h => draw_sound mixed h⟩⟩
theorem ok_122 : FnOk seat 122 jacquardref6_Place := ⟨⟨Tryz.f41, _, drK seat true, Tryz.func41, rfl, by kernel_rfl, by kernel_rfl, by kernel_rfl, by kernel_rfl, fun _ _ h => draw_sound mixed h⟩⟩
theorem ok_124 : FnOk seat 124 prog_set := ⟨⟨Tryz.f104, _, drK seat true, Tryz.func104, rfl, by kernel_rfl, by kernel_rfl, by kernel_rfl, by kernel_rfl, fun _ _ h => draw_sound mixed h⟩⟩
theorem ok_125 : FnOk seat 125 num_Do := ⟨⟨Tryz.f103, _, drK seat true, Tryz.func103, rfl, by kernel_rfl, by kernel_rfl, by kernel_rfl, by kernel_rfl, fun _ _ h => draw_sound mixed h⟩⟩
theorem ok_139 : FnOk seat 139 num_one := ⟨⟨Tryz.f110, _, drK seat true, Tryz.func110, rfl, by kernel_rfl, by kernel_rfl, by kernel_rfl, by kernel_rfl, fun _ _ h => draw_sound mixed h⟩⟩
theorem ok_148 : FnOk seat 148 well_Jumps := ⟨⟨Tryz.f75, _, drK seat true, Tryz.func75, rfl, by kernel_rfl, by kernel_rfl, by kernel_rfl, by kernel_rfl, fun _ _ h => draw_sound mixed h⟩⟩
theorem ok_155 : FnOk seat 155 slices_ContainsFunc_sIns_Ins := ⟨⟨Tryz.f76, _, drK seat true, Tryz.func76, rfl, by kernel_rfl, by kernel_rfl, by kernel_rfl, by kernel_rfl, fun _ _ h => draw_sound mixed h⟩⟩
theorem ok_156 : FnOk seat 156 slices_IndexFunc_sIns_Ins := ⟨⟨Tryz.f99, _, drK seat true, Tryz.func99, rfl, by kernel_rfl, by kernel_rfl, by kernel_rfl, by kernel_rfl, fun _ _ h => draw_sound mixed h⟩⟩
theorem ok_158 : FnOk seat 158 print_IsLoc := ⟨⟨Tryz.f73, _, drK seat true, Tryz.func73, rfl, by kernel_rfl, by kernel_rfl, by kernel_rfl, by kernel_rfl, fun _ _ h => draw_sound mixed h⟩⟩
theorem ok_159 : FnOk seat 159 print_Fields := ⟨⟨Tryz.f78, _, drK seat true, Tryz.func78, rfl, by kernel_rfl, by kernel_rfl, by kernel_rfl, by kernel_rfl, fun _ _ h => draw_sound mixed h⟩⟩
theorem ok_163 : FnOk seat 163 print_isOperand := ⟨⟨Tryz.f100, _, drK seat true, Tryz.func100, rfl, by kernel_rfl, by kernel_rfl, by kernel_rfl, by kernel_rfl, fun _ _ h => draw_sound mixed h⟩⟩
theorem ok_164 : FnOk seat 164 print_isReg := ⟨⟨Tryz.f101, _, drK seat true, Tryz.func101, rfl, by kernel_rfl, by kernel_rfl, by kernel_rfl, by kernel_rfl, fun _ _ h => draw_sound mixed h⟩⟩
theorem ok_167 : FnOk seat 167 vm_Name := ⟨⟨Tryz.f48, _, drK seat true, Tryz.func48, rfl, by kernel_rfl, by kernel_rfl, by kernel_rfl, by kernel_rfl, fun _ _ h => draw_sound mixed h⟩⟩
theorem ok_171 : FnOk seat 171 vm_New := ⟨⟨Tryz.f43, _, drK seat true, Tryz.func43, rfl, by kernel_rfl, by kernel_rfl, by kernel_rfl, by kernel_rfl, fun _ _ h => draw_sound mixed h⟩⟩
theorem ok_172 : FnOk seat 172 vm_VM_Enabled := ⟨⟨Tryz.f46, _, drK seat true, Tryz.func46, rfl, by kernel_rfl, by kernel_rfl, by kernel_rfl, by kernel_rfl, fun _ _ h => draw_sound mixed h⟩⟩
theorem ok_173 : FnOk seat 173 vm_VM_Pick := ⟨⟨Tryz.f44, _, drK seat true, Tryz.func44, rfl, by kernel_rfl, by kernel_rfl, by kernel_rfl, by kernel_rfl, fun _ _ h => draw_sound mixed h⟩⟩
theorem ok_174 : FnOk seat 174 vm_VM_Done := ⟨⟨Tryz.f25, _, drK seat true, Tryz.func25, rfl, by kernel_rfl, by kernel_rfl, by kernel_rfl, by kernel_rfl, fun _ _ h => draw_sound mixed h⟩⟩
theorem ok_175 : FnOk seat 175 vm_VM_Steps := ⟨⟨Tryz.f24, _, drK seat true, Tryz.func24, rfl, by kernel_rfl, by kernel_rfl, by kernel_rfl, by kernel_rfl, fun _ _ h => draw_sound mixed h⟩⟩
theorem ok_179 : FnOk seat 179 vm_VM_Final := ⟨⟨Tryz.f26, _, drK seat true, Tryz.func26, rfl, by kernel_rfl, by kernel_rfl, by kernel_rfl, by kernel_rfl, fun _ _ h => draw_sound mixed h⟩⟩
theorem ok_187 : FnOk seat 187 jacquardlaw12_SB := ⟨⟨Tryz.f28, _, drK seat true, Tryz.func28, rfl, by kernel_rfl, by kernel_rfl, by kernel_rfl, by kernel_rfl, fun _ _ h => draw_sound mixed h⟩⟩
theorem ok_188 : FnOk seat 188 prog_Ok := ⟨⟨Tryz.f54, _, drK seat true, Tryz.func54, rfl, by kernel_rfl, by kernel_rfl, by kernel_rfl, by kernel_rfl, fun _ _ h => draw_sound mixed h⟩⟩
theorem ok_189 : FnOk seat 189 vm_copied := ⟨⟨Tryz.f55, _, drK seat true, Tryz.func55, rfl, by kernel_rfl, by kernel_rfl, by kernel_rfl, by kernel_rfl, fun _ _ h => draw_sound mixed h⟩⟩
theorem ok_190 : FnOk seat 190 buf_New := ⟨⟨Tryz.f57, _, drK seat true, Tryz.func57, rfl, by kernel_rfl, by kernel_rfl, by kernel_rfl, by kernel_rfl, fun _ _ h => draw_sound mixed h⟩⟩
theorem ok_191 : FnOk seat 191 buf_Buf_Empty := ⟨⟨Tryz.f62, _, drK seat true, Tryz.func62, rfl, by kernel_rfl, by kernel_rfl, by kernel_rfl, by kernel_rfl, fun _ _ h => draw_sound mixed h⟩⟩
theorem ok_192 : FnOk seat 192 buf_Buf_Oldest := ⟨⟨Tryz.f64, _, drK seat true, Tryz.func64, rfl, by kernel_rfl, by kernel_rfl, by kernel_rfl, by kernel_rfl, fun _ _ h => draw_sound mixed h⟩⟩
theorem ok_193 : FnOk seat 193 vm_VM_thread := ⟨⟨Tryz.f59, _, drK seat true, Tryz.func59, rfl, by kernel_rfl, by kernel_rfl, by kernel_rfl, by kernel_rfl, fun _ _ h => draw_sound mixed h⟩⟩
theorem ok_194 : FnOk seat 194 vm_VM_flush := ⟨⟨Tryz.f60, _, drK seat true, Tryz.func60, rfl, by kernel_rfl, by kernel_rfl, by kernel_rfl, by kernel_rfl, fun _ _ h => draw_sound mixed h⟩⟩
theorem ok_195 : FnOk seat 195 slices_Clone_sStep_Step := ⟨⟨Tryz.f45, _, drK seat true, Tryz.func45, rfl, by kernel_rfl, by kernel_rfl, by kernel_rfl, by kernel_rfl, fun _ _ h => draw_sound mixed h⟩⟩
theorem ok_200 : FnOk seat 200 prog_Ok_1 := ⟨⟨Tryz.f74, _, drK seat true, Tryz.func74, rfl, by kernel_rfl, by kernel_rfl, by kernel_rfl, by kernel_rfl, fun _ _ h => draw_sound mixed h⟩⟩
theorem ok_201 : FnOk seat 201 prog_Ok_2 := ⟨⟨Tryz.f77, _, drK seat true, Tryz.func77, rfl, by kernel_rfl, by kernel_rfl, by kernel_rfl, by kernel_rfl, fun _ _ h => draw_sound mixed h⟩⟩
theorem ok_202 : FnOk seat 202 slices_Clone_sbyte_byte := ⟨⟨Tryz.f79, _, drK seat true, Tryz.func79, rfl, by kernel_rfl, by kernel_rfl, by kernel_rfl, by kernel_rfl, fun _ _ h => draw_sound mixed h⟩⟩
theorem ok_203 : FnOk seat 203 slices_Clone_sint64_int64 := ⟨⟨Tryz.f80, _, drK seat true, Tryz.func80, rfl, by kernel_rfl, by kernel_rfl, by kernel_rfl, by kernel_rfl, fun _ _ h => draw_sound mixed h⟩⟩
theorem ok_204 : FnOk seat 204 buf_Buf_oldest := ⟨⟨Tryz.f91, _, drK seat true, Tryz.func91, rfl, by kernel_rfl, by kernel_rfl, by kernel_rfl, by kernel_rfl, fun _ _ h => draw_sound mixed h⟩⟩
theorem ok_205 : FnOk seat 205 buf_Buf_Newest := ⟨⟨Tryz.f85, _, drK seat true, Tryz.func85, rfl, by kernel_rfl, by kernel_rfl, by kernel_rfl, by kernel_rfl, fun _ _ h => draw_sound mixed h⟩⟩
theorem ok_206 : FnOk seat 206 buf_Buf_Put := ⟨⟨Tryz.f87, _, drK seat true, Tryz.func87, rfl, by kernel_rfl, by kernel_rfl, by kernel_rfl, by kernel_rfl, fun _ _ h => draw_sound mixed h⟩⟩
theorem ok_207 : FnOk seat 207 buf_Buf_Drop := ⟨⟨Tryz.f90, _, drK seat true, Tryz.func90, rfl, by kernel_rfl, by kernel_rfl, by kernel_rfl, by kernel_rfl, fun _ _ h => draw_sound mixed h⟩⟩
theorem ok_261 : FnOk seat 261 jacquardlaw17_awake := ⟨⟨Tryz.f12, _, drK seat true, Tryz.func12, rfl, by kernel_rfl, by kernel_rfl, by kernel_rfl, by kernel_rfl, fun _ _ h => draw_sound mixed h⟩⟩
theorem ok_262 : FnOk seat 262 play_Text := ⟨⟨Tryz.f29, _, drK seat true, Tryz.func29, rfl, by kernel_rfl, by kernel_rfl, by kernel_rfl, by kernel_rfl, fun _ _ h => draw_sound mixed h⟩⟩
theorem ok_271 : FnOk seat 271 play_Run := ⟨⟨Tryz.f9, _, drK seat true, Tryz.func9, rfl, by kernel_rfl, by kernel_rfl, by kernel_rfl, by kernel_rfl, fun _ _ h => draw_sound mixed h⟩⟩
theorem ok_278 : FnOk seat 278 play_run := ⟨⟨Tryz.f23, _, drK seat true, Tryz.func23, rfl, by kernel_rfl, by kernel_rfl, by kernel_rfl, by kernel_rfl, fun _ _ h => draw_sound mixed h⟩⟩
theorem ok_306 : FnOk seat 306 play_Maximal := ⟨⟨Tryz.f11, _, drK seat true, Tryz.func11, rfl, by kernel_rfl, by kernel_rfl, by kernel_rfl, by kernel_rfl, fun _ _ h => draw_sound mixed h⟩⟩
theorem ok_307 : FnOk seat 307 play_Final := ⟨⟨Tryz.f10, _, drK seat true, Tryz.func10, rfl, by kernel_rfl, by kernel_rfl, by kernel_rfl, by kernel_rfl, fun _ _ h => draw_sound mixed h⟩⟩
theorem ok_423 : FnOk seat 423 play_First := ⟨⟨Tryz.f17, _, drK seat true, Tryz.func17, rfl, by kernel_rfl, by kernel_rfl, by kernel_rfl, by kernel_rfl, fun _ _ h => draw_sound mixed h⟩⟩
theorem ok_424 : FnOk seat 424 play_Lazy := ⟨⟨Tryz.f18, _, drK seat true, Tryz.func18, rfl, by kernel_rfl, by kernel_rfl, by kernel_rfl, by kernel_rfl, fun _ _ h => draw_sound mixed h⟩⟩
theorem ok_426 : FnOk seat 426 jacquardlaw17_PlayModels := ⟨⟨Tryz.f6, _, drK seat true, Tryz.func6, rfl, by kernel_rfl, by kernel_rfl, by kernel_rfl, by kernel_rfl, fun _ _ h => draw_sound mixed h⟩⟩
theorem ok_428 : FnOk seat 428 play_First_1 := ⟨⟨Tryz.f32, _, drK seat true, Tryz.func32, rfl, by kernel_rfl, by kernel_rfl, by kernel_rfl, by kernel_rfl, fun _ _ h => draw_sound mixed h⟩⟩
theorem ok_429 : FnOk seat 429 play_always := ⟨⟨Tryz.f31, _, drK seat true, Tryz.func31, rfl, by kernel_rfl, by kernel_rfl, by kernel_rfl, by kernel_rfl, fun _ _ h => draw_sound mixed h⟩⟩
theorem ok_430 : FnOk seat 430 play_Lazy_1 := ⟨⟨Tryz.f33, _, drK seat true, Tryz.func33, rfl, by kernel_rfl, by kernel_rfl, by kernel_rfl, by kernel_rfl, fun _ _ h => draw_sound mixed h⟩⟩

theorem allOk : ∀ g fn, env.fn g = some fn → FnOk seat g fn := by
  intro g fn h
  unfold env envFn at h
  dsimp only at h
  split at h
  · cases h; exact ok_17
  · cases h; exact ok_18
  · cases h; exact ok_19
  · cases h; exact ok_32
  · cases h; exact ok_38
  · cases h; exact ok_42
  · cases h; exact ok_45
  · cases h; exact ok_46
  · cases h; exact ok_47
  · cases h; exact ok_48
  · cases h; exact ok_76
  · cases h; exact ok_80
  · cases h; exact ok_94
  · cases h; exact ok_97
  · cases h; exact ok_101
  · cases h; exact ok_102
  · cases h; exact ok_105
  · cases h; exact ok_106
  · cases h; exact ok_108
  · cases h; exact ok_109
  · cases h; exact ok_113
  · cases h; exact ok_114
  · cases h; exact ok_115
  · cases h; exact ok_119
  · cases h; exact ok_121
  · cases h; exact ok_122
  · cases h; exact ok_124
  · cases h; exact ok_125
  · cases h; exact ok_139
  · cases h; exact ok_148
  · cases h; exact ok_155
  · cases h; exact ok_156
  · cases h; exact ok_158
  · cases h; exact ok_159
  · cases h; exact ok_163
  · cases h; exact ok_164
  · cases h; exact ok_167
  · cases h; exact ok_171
  · cases h; exact ok_172
  · cases h; exact ok_173
  · cases h; exact ok_174
  · cases h; exact ok_175
  · cases h; exact ok_179
  · cases h; exact ok_187
  · cases h; exact ok_188
  · cases h; exact ok_189
  · cases h; exact ok_190
  · cases h; exact ok_191
  · cases h; exact ok_192
  · cases h; exact ok_193
  · cases h; exact ok_194
  · cases h; exact ok_195
  · cases h; exact ok_200
  · cases h; exact ok_201
  · cases h; exact ok_202
  · cases h; exact ok_203
  · cases h; exact ok_204
  · cases h; exact ok_205
  · cases h; exact ok_206
  · cases h; exact ok_207
  · cases h; exact ok_261
  · cases h; exact ok_262
  · cases h; exact ok_271
  · cases h; exact ok_278
  · cases h; exact ok_306
  · cases h; exact ok_307
  · cases h; exact ok_423
  · cases h; exact ok_424
  · cases h; exact ok_426
  · cases h; exact ok_428
  · cases h; exact ok_429
  · cases h; exact ok_430
  · cases h

theorem in_115 : jacquardlaw3_Small_1_In env := { fn := rfl }
theorem in_97 : jacquardlaw3_Small_In env := { fn := rfl, c115 := in_115 }
theorem in_121 : jacquardref2_Locs_In env := { fn := rfl }
theorem in_122 : jacquardref6_Place_In env := { fn := rfl }
theorem in_101 : jacquardref6_Compile_In env := { fn := rfl, c121 := in_121, c122 := in_122 }
theorem in_76 : jacquardlaw6_Of_In env := { fn := rfl, c97 := in_97, c101 := in_101 }
theorem in_187 : jacquardlaw12_SB_In env := { fn := rfl }
theorem in_48 : istrconv_small_In env := { fn := rfl }
theorem in_47 : istrconv_FormatInt_In env := { fn := rfl, c48 := in_48 }
theorem in_46 : istrconv_Itoa_In env := { fn := rfl, c47 := in_47 }
theorem in_45 : strconv_Itoa_In env := { fn := rfl, c46 := in_46 }
theorem in_167 : vm_Name_In env := { fn := rfl, c45 := in_45 }
theorem in_262 : play_Text_In env := { fn := rfl, c167 := in_167, x272 := rfl }
theorem in_19 : set_bit_In env := { fn := rfl }
theorem in_18 : set_Set_With_In env := { fn := rfl, c19 := in_19 }
theorem in_113 : prog_thread_In env := { fn := rfl }
theorem in_105 : prog_Next_In env := { fn := rfl, c113 := in_113 }
theorem in_191 : buf_Buf_Empty_In env := { fn := rfl }
theorem in_204 : buf_Buf_oldest_In env := { fn := rfl }
theorem in_192 : buf_Buf_Oldest_In env := { fn := rfl, c204 := in_204 }
theorem in_172 : vm_VM_Enabled_In env := { fn := rfl, c18 := in_18, c105 := in_105, c191 := in_191, c192 := in_192 }
theorem in_174 : vm_VM_Done_In env := { fn := rfl, c172 := in_172 }
theorem in_195 : slices_Clone_sStep_Step_In env := { fn := rfl }
theorem in_175 : vm_VM_Steps_In env := { fn := rfl, c195 := in_195 }
theorem in_108 : prog_Value_In env := { fn := rfl }
theorem in_124 : prog_set_In env := { fn := rfl }
theorem in_139 : num_one_In env := { fn := rfl }
theorem in_125 : num_Do_In env := { fn := rfl, c139 := in_139 }
theorem in_114 : prog_normal_In env := { fn := rfl, c108 := in_108, c124 := in_124, c125 := in_125 }
theorem in_94 : prog_Start_In env := { fn := rfl, c113 := in_113, c114 := in_114 }
theorem in_102 : prog_Size_In env := { fn := rfl }
theorem in_148 : well_Jumps_In env := { fn := rfl }
theorem in_156 : slices_IndexFunc_sIns_Ins_In env := { fn := rfl }
theorem in_155 : slices_ContainsFunc_sIns_Ins_In env := { fn := rfl, c156 := in_156 }
theorem in_158 : print_IsLoc_In env := { fn := rfl }
theorem in_200 : prog_Ok_1_In env := { fn := rfl }
theorem in_164 : print_isReg_In env := { fn := rfl }
theorem in_163 : print_isOperand_In env := { fn := rfl, c164 := in_164 }
theorem in_159 : print_Fields_In env := { fn := rfl, c163 := in_163, c164 := in_164 }
theorem in_201 : prog_Ok_2_In env := { fn := rfl, c159 := in_159 }
theorem in_188 : prog_Ok_In env := { fn := rfl, c102 := in_102, c148 := in_148, c155 := in_155, c158 := in_158, c200 := in_200, c201 := in_201 }
theorem in_119 : slices_Clone_sIns_Ins_In env := { fn := rfl }
theorem in_202 : slices_Clone_sbyte_byte_In env := { fn := rfl }
theorem in_203 : slices_Clone_sint64_int64_In env := { fn := rfl }
theorem in_189 : vm_copied_In env := { fn := rfl, c119 := in_119, c202 := in_202, c203 := in_203 }
theorem in_190 : buf_New_In env := { fn := rfl }
theorem in_171 : vm_New_In env := { fn := rfl, c94 := in_94, c188 := in_188, c189 := in_189, c190 := in_190 }
theorem in_17 : set_Set_Has_In env := { fn := rfl, c19 := in_19 }
theorem in_80 : event_Writes_In env := { fn := rfl }
theorem in_106 : prog_After_In env := { fn := rfl, c105 := in_105, c113 := in_113, c114 := in_114, c124 := in_124 }
theorem in_109 : event_Of_In env := { fn := rfl, c108 := in_108 }
theorem in_205 : buf_Buf_Newest_In env := { fn := rfl }
theorem in_206 : buf_Buf_Put_In env := { fn := rfl }
theorem in_193 : vm_VM_thread_In env := { fn := rfl, c80 := in_80, c105 := in_105, c106 := in_106, c109 := in_109, c205 := in_205, c206 := in_206 }
theorem in_207 : buf_Buf_Drop_In env := { fn := rfl, c204 := in_204 }
theorem in_194 : vm_VM_flush_In env := { fn := rfl, c192 := in_192, c207 := in_207 }
theorem in_173 : vm_VM_Pick_In env := { fn := rfl, c17 := in_17, c172 := in_172, c193 := in_193, c194 := in_194 }
theorem in_278 : play_run_In env := { fn := rfl, c171 := in_171, c173 := in_173 }
theorem in_271 : play_Run_In env := { fn := rfl, c174 := in_174, c175 := in_175, c278 := in_278 }
theorem in_261 : jacquardlaw17_awake_In env := { fn := rfl, x260 := rfl, c187 := in_187, c262 := in_262, c271 := in_271 }
theorem in_306 : play_Maximal_In env := { fn := rfl, c174 := in_174, c278 := in_278 }
theorem in_179 : vm_VM_Final_In env := { fn := rfl }
theorem in_307 : play_Final_In env := { fn := rfl, c174 := in_174, c179 := in_179, c278 := in_278 }
theorem in_428 : play_First_1_In env := { fn := rfl }
theorem in_42 : bits_TrailingZeros64_In env := { fn := rfl }
theorem in_38 : set_Set_First_In env := { fn := rfl, c42 := in_42 }
theorem in_32 : set_Set_List_In env := { fn := rfl, c38 := in_38 }
theorem in_429 : play_always_In env := { fn := rfl, c32 := in_32, c171 := in_171, c172 := in_172, c173 := in_173, c174 := in_174 }
theorem in_423 : play_First_In env := { fn := rfl, c428 := in_428, c429 := in_429 }
theorem in_430 : play_Lazy_1_In env := { fn := rfl }
theorem in_424 : play_Lazy_In env := { fn := rfl, c429 := in_429, c430 := in_430 }
theorem in_426 : jacquardlaw17_PlayModels_In env := { fn := rfl, c76 := in_76, c261 := in_261, c271 := in_271, c306 := in_306, c307 := in_307, c423 := in_423, c424 := in_424 }

def env0 : Env := { fn := envFn, tab := seatTab }
theorem in0_48 : istrconv_small_In env0 := { fn := rfl }
theorem in0_47 : istrconv_FormatInt_In env0 := { fn := rfl, c48 := in0_48 }
theorem in0_46 : istrconv_Itoa_In env0 := { fn := rfl, c47 := in0_47 }
theorem in0_45 : strconv_Itoa_In env0 := { fn := rfl, c46 := in0_46 }
theorem in0_167 : vm_Name_In env0 := { fn := rfl, c45 := in0_45 }
theorem ext17ok : Ext17 env := ⟨fun _ _ => rfl, fun _ _ => rfl⟩
theorem extOk : SoundC seat ext17 := ext17_sound
  (join_sound ⟨_, _, Tryz.func49, rfl, by kernel_rfl⟩ (fun a c sep w => PX.Join_none a c sep w) (fun bk o c xs sep w h1 h2 h3 h4 h5 => PX.Join_w bk o c xs sep w h1 h2 h3 h4 h5))
  (parse_sound (T := 3) ⟨_, _, Tryz.func27, rfl, by kernel_rfl⟩ (fun s w h => PX.Parse_w0 s w h)
    (fun s w ρ hi h1 h2 h3 => PX.Parse_w s w h1 h2 h3 fun i W _ hb =>
      text_calls (S := seat) (R_sound (S := seat) (E := env0) rfl allOk) (g := 167) (args := [.c (.int .i64 (i : Int))]) (vals := #[.int .i64 (i : Int)]) (VName_R in0_167 (i : Int) []) (hi.below0 hb) (L2.cons rfl L2.nil)))

end Go.Proofs.YtlfhmbifgdhckaaGreatDoor.LPlayModels

/- Programs made of numbers may be run. -/
namespace Jq
open Go

theorem locs_rise (S : Nat → Bool) (n : Nat) : (locsF S n).Pairwise (· < ·) := by
  unfold locsF
  refine List.Pairwise.map _ (fun a b (hab : a < b) => ?_) (List.Pairwise.filter _ List.pairwise_lt_range)
  omega

theorem locs_ok (S : Nat → Bool) : (List.range (locsF S 26).length).any (atB (locsF S 26) (locBad (locsF S 26))) = false := by
  have hp := locs_rise S 26
  have hm : ∀ x ∈ locsF S 26, 97 ≤ x ∧ x ≤ 122 := fun x h => by
    obtain ⟨c, h1, _, rfl⟩ := locsF_mem.1 h
    omega
  generalize locsF S 26 = l at *
  rw [List.any_eq_false]
  intro i hi
  rw [List.mem_range] at hi
  rw [atB_ok (List.getElem?_eq_getElem hi)]
  have h1 := hm _ (List.getElem_mem hi)
  have h2 : 0 < i → l.getD (i - 1) 0 < l[i] := fun h0 => by
    rw [List.getD_eq_getElem?_getD, List.getElem?_eq_getElem (by omega)]
    exact List.pairwise_iff_getElem.1 hp (i - 1) i (by omega) hi (by omega)
  unfold locBad locB
  rw [decide_eq_true h1.1, decide_eq_true h1.2]
  by_cases h0 : 0 < i
  · have := h2 h0
    rw [decide_eq_false (p := l[i] ≤ _) (by omega)]; simp
  · rw [decide_eq_false (p := (i : Int) > 0) (by omega)]; simp

theorem sumLen_le {c : Nat} : ∀ l : List (List Ins), (∀ x ∈ l, x.length ≤ c) → (l.map List.length).sum ≤ l.length * c
  | [], _ => by simp
  | x :: l, h => by
    have := sumLen_le l fun y hy => h y (List.mem_cons_of_mem _ hy)
    have h1 := h x List.mem_cons_self
    rw [List.map_cons, List.sum_cons, List.length_cons, Nat.succ_mul]; omega

theorem opdOk.opB {o : Opd} (h : opdOk o) : opB o = true := by
  unfold Jq.opB regB
  rcases h with ⟨h1, _⟩ | ⟨h1 | h1, h2⟩ <;> rw [h1] <;> simp [*]

/-- What an instruction of a test made of numbers is, made ready. -/
theorem SmI.fld {L : Int} {T : PTest} {i : Ins} (s : SmI L i) (hin : i.loc ≠ 0 → i.loc ∈ locsT T) : fldB (hasB (compT T)) (compI (locsT T) i) = true := by
  have hl : i.loc ≠ 0 → compI (locsT T) i = { i with loc := plc (locsT T) i.loc 0 } ∧ hasB (compT T) (plc (locsT T) i.loc 0) = true := fun h => by
    refine ⟨by unfold compI; rw [if_pos h], ?_⟩
    obtain ⟨j, hj, hg⟩ := plc_get (locsT T) 0 (hin h)
    have := getI_lt hg
    rw [hj]
    unfold hasB
    rw [show (compT T).locs = locsT T from rfl, decide_eq_true (by omega), decide_eq_true (by omega)]; rfl
  rcases s with ⟨h1, h2, h3, h4, h5, h6, h7⟩ | ⟨h1, h2, h3, h4, h5, h6, h7⟩ | rfl | ⟨h1, h2, h3, h4, h5, h6, h7⟩ | ⟨h1, h2, h3, h4, h5, h6, h7⟩ | ⟨h1, h2, h3, h4, h5, h6, h7⟩
  · obtain ⟨e, hh⟩ := hl (by omega)
    rw [e]
    unfold fldB
    dsimp only
    rw [if_pos h1, hh, h4.opB, h1, h2, h5, h6, h7]
    simp [Ins.cs]
  · obtain ⟨e, hh⟩ := hl (by omega)
    rw [e]
    unfold fldB regB
    dsimp only
    rw [if_neg (by omega), if_pos h1, hh, h1, h4, h5, h6, h7, decide_eq_true (by omega), decide_eq_true (by omega)]
    simp [Ins.cs]
  · rfl
  · obtain ⟨e, hh⟩ := hl (by omega)
    rw [e]
    unfold fldB regB
    dsimp only
    rw [if_neg (by omega), if_neg (by omega), if_neg (by omega), if_pos h1, hh, h4.opB, h1, h5, h6, h7, decide_eq_true (by omega), decide_eq_true (by omega)]
    simp [Ins.cs, opB]
  · have e : compI (locsT T) i = i := by unfold compI; rw [if_neg (by omega)]
    rw [e]
    unfold fldB regB
    rw [if_neg (by omega), if_neg (by omega), if_neg (by omega), if_neg (by omega), if_pos h1, h4.opB, h1, h5, h6, decide_eq_true (by omega), decide_eq_true (by omega)]
    simp [Ins.cs, opB, h1, h3, h5, h6, h7]
  · have e : compI (locsT T) i = i := by unfold compI; rw [if_neg (by omega)]
    rw [e]
    unfold fldB
    rw [if_neg (by omega), if_neg (by omega), if_neg (by omega), if_neg (by omega), if_neg (by omega), if_pos h1, h4.opB, h1, h6, h7]
    simp [Ins.cs, opB, h1, h2, h3, h5, h6, h7]

theorem there_loc {T : PTest} {c : List Ins} (hc : c ∈ T.thr) {i : Ins} (hi : i ∈ c) (hl : 97 ≤ i.loc ∧ i.loc ≤ 122) : i.loc ∈ locsT T := by
  unfold locsT
  refine locsF_mem.2 ⟨(i.loc - 97).toNat, by omega, ?_, by omega⟩
  unfold thereT
  rw [Bool.or_eq_true, Bool.or_eq_true]
  refine .inl (.inr (List.any_eq_true.2 ⟨c, hc, List.any_eq_true.2 ⟨i, hi, ?_⟩⟩))
  rw [beq_iff_eq]; omega

theorem SkipOk.jmp {c : List Ins} (s : SkipOk c) (h1 : ∀ i ∈ c, i.kind = 6 → i.n = 1) : jmpB c = true := by
  unfold jmpB
  rw [List.all_eq_true]
  intro k hk
  cases hq : c[k]? with
  | none => rfl
  | some i =>
    dsimp only
    by_cases h6 : i.kind = 6
    · have a := s k i hq h6
      have b := h1 i (List.mem_of_getElem? hq) h6
      rw [decide_eq_false (p := i.n < 1) (by omega), decide_eq_false (p := i.n > _) (by omega)]; simp
    · rw [beq_false_of_ne h6]; rfl

structure RunP (P : PProg) : Prop where
  pok : pokB P = true
  fld : ∀ c ∈ P.thr, ∀ i ∈ c, fldB (hasB P) i = true

theorem GoodT.run {most : Nat} {T : PTest} (g : GoodT most T) : RunP (compT T) := by
  have gp := g.goodP
  obtain ⟨L, hL, hc⟩ := g.code
  have hf : ∀ c ∈ (compT T).thr, ∀ i ∈ c, fldB (hasB (compT T)) i = true := fun c hcm i hi => by
    obtain ⟨d, hd, rfl⟩ := List.mem_map.1 hcm
    obtain ⟨j, hj, rfl⟩ := List.mem_map.1 hi
    obtain ⟨k, hk, ht⟩ := hc d hd
    have := ht.all j hj
    refine this.fld fun h0 => there_loc hd hj ?_
    have := this.loc; omega
  refine ⟨?_, hf⟩
  have hgn := gp.n
  have hgl := gp.locs
  have hgi := gp.init
  have hsum := sumLen_le (c := 6) (compT T).thr gp.code
  have hs : sizeBad (compT T) = false := by
    unfold sizeBad sumL
    rw [beq_false_of_ne (by omega), decide_eq_false (p := ((compT T).thr.length : Int) > 4) (by omega), decide_eq_false (p := ((compT T).locs.length : Int) > 4) (by omega), decide_eq_false (p := _ > (24 : Int)) (by omega), show (((compT T).init.length : Int) != ((compT T).locs.length : Int)) = false by simp [hgl]]
    rfl
  unfold pokB
  rw [if_neg (by rw [hs]; simp), if_neg (by rw [show (compT T).locs = locsF (thereT T) 26 from rfl, locs_ok]; simp), Bool.not_eq_true', List.any_eq_false]
  intro c hcm
  have hj : jmpB c = true := (gp.skip c hcm).jmp fun i hi h6 => by
    obtain ⟨d, hd, rfl⟩ := List.mem_map.1 hcm
    obtain ⟨j, hj, rfl⟩ := List.mem_map.1 hi
    obtain ⟨k, hk, ht⟩ := hc d hd
    rw [compI_kn.1] at h6
    rw [compI_kn.2]
    exact (ht.all j hj).skip h6
  have hcl := gp.code c hcm
  unfold thrBad
  rw [hj, decide_eq_false (by omega), show (c.any fun i => !fldB (hasB (compT T)) i) = false by
    rw [List.any_eq_false]; intro i hi; rw [hf c hcm i hi]; simp]
  simp

section
variable {E : Env}

/-- A program made of numbers. -/
theorem OfO_R (hE : jacquardlaw6_Of_In E) {h : AHeap} {x : Cell} {l : List Int} (hx : SlAt h x 1 (intC .i64 l) l.length) (hlow : Low h.length x) (hl : l.length < 9223372036854775808) {most : Nat} (hmost : most ≤ 900) :
    ∃ (cs : List Cell) (h' : AHeap) (P : PProg), R E 76 [.c x, .c (.int .i64 (most : Int))] h = some ([.agg cs], h') ∧ ProgOwn h.length h' cs P ∧ GoodP most P ∧ RunP P ∧ (∀ x ∈ P.locs, 0 ≤ x ∧ x < 256) ∧ Kp h.length h h' := by
  obtain ⟨cs, h1, T, s1, s2, s3, s4⟩ := Small_R hE.c97 hx hlow hl hmost
  obtain ⟨cs2, h2, t1, t2, t3⟩ := refCompile_S hE.c101 s2 s3.small
  refine ⟨cs2, h2, compT T, R_intro hE.fn ?_, by obtain ⟨m, a, b, y, e1, e2, e3⟩ := t2; exact ⟨m, a, b, y, e1, Nat.le_trans s4.1 e2, e3⟩, s3.goodP, s3.run, fun x hx => by have := locsT_u8 (T := T) hx; omega, s4.trans (t3.mono s4.1)⟩
  rw [jacquardlaw6_Of_eq, s1, c1_ok, asA_ok, t1, c1_ok, asA_ok, if_pos ⟨rfl, rfl, t2.at.len⟩, if_pos ⟨rfl, t2.at.len⟩]

theorem OfP_R (hE : jacquardlaw6_Of_In E) {h : AHeap} {x : Cell} {l : List Int} (hx : SlAt h x 1 (intC .i64 l) l.length) (hlow : Low h.length x) (hl : l.length < 9223372036854775808) {most : Nat} (hmost : most ≤ 900) :
    ∃ (cs : List Cell) (h' : AHeap) (P : PProg), R E 76 [.c x, .c (.int .i64 (most : Int))] h = some ([.agg cs], h') ∧ ProgAt h' cs P ∧ GoodP most P ∧ RunP P ∧ (∀ x ∈ P.locs, 0 ≤ x ∧ x < 256) ∧ Kp h.length h h' := by
  obtain ⟨cs, h', P, r1, r2, r3⟩ := OfO_R hE hx hlow hl hmost
  exact ⟨cs, h', P, r1, r2.at, r3⟩

end
end Jq

/- Machines: what the laws' loops share. -/
namespace Jq
open Go

theorem take_keep {n : Nat} {h h' : AHeap} (hk : Kp n h h') : h'.take n = h.take n := by
  refine List.ext_getElem? fun j => ?_
  rw [List.getElem?_take, List.getElem?_take]
  split
  · exact hk.2 j (by assumption)
  · rfl

theorem VmAt.keep {n : Nat} {h h' : AHeap} {k : Nat} {x : Cell} {pc : List Cell} {V : MV} (a : VmAt n h k x pc V) (hk : Kp h.length h h') : VmAt n h' k x pc V :=
  ⟨Nat.le_trans a.hn hk.1, a.nk, by rw [take_keep (hk.mono a.hn)]; exact a.prog, by rw [hk.blk (blk_lt' a.blk)]; exact a.blk, a.st.keepK hk, a.sep⟩

/-- What does not belong to a machine leaves it as it was. -/
theorem VmAt.other {n : Nat} {h h' : AHeap} {k : Nat} {x : Cell} {pc : List Cell} {V : MV} (a : VmAt n h k x pc V) (hl : h.length ≤ h'.length) (hn : Kp n h h') (hk : blk? h' k = blk? h k) (hx : ∀ j, isBlk x j → blk? h' j = blk? h j) : VmAt n h' k x pc V := by
  refine ⟨Nat.le_trans a.hn hl, a.nk, by rw [take_keep hn]; exact a.prog, by rw [hk]; exact a.blk, ⟨a.st.1, a.st.2.imp id ?_⟩, a.sep⟩
  rintro ⟨j, rfl, h1, h2⟩
  exact ⟨j, rfl, h1, by rw [hx j rfl]; exact h2⟩

theorem GoodP.inv {most : Nat} {P : PProg} (g : GoodP most P) (r : RunP P) {m : Int} (hm : 1 ≤ m ∧ m ≤ 3) : (MV.new P m).Inv :=
  MV.new_inv hm g.small r.fld (by have := g.locs; have := g.init; omega) (by have := g.init; omega) (fun c hc => by have := g.code c hc; omega)

section
variable {E : Env}

theorem ptr_nil {α : Type} {k : Nat} {f : Bool → Option α} : eqNilK false (.ptr k 329 0) .nilp f = f false := rfl

end
end Jq

/- VmWaits: what waits is told by what may be picked. -/
namespace Jq
open Go

/-- How many wait there. -/
def MV.cnt (V : MV) (q : Nat) : Int :=
  if V.m = 2 ∧ 4 ≤ q ∧ q < 8 then ((V.b (q - 4)).length : Int)
  else if V.m = 3 ∧ 8 ≤ q ∧ q < 24 then ((V.b ((q - 8) / 4)).countP (oldP 3 (((q - 8) % 4 : Nat) : Int)) : Int) else 0

theorem MV.cnt2 {V : MV} (hm : V.m = 2) (q : Nat) : V.cnt q = if 4 ≤ q ∧ q < 8 then ((V.b (q - 4)).length : Int) else 0 := by
  unfold MV.cnt
  by_cases h : 4 ≤ q ∧ q < 8
  · rw [if_pos ⟨hm, h⟩, if_pos h]
  · rw [if_neg (fun c => h c.2), if_neg (fun c => by omega), if_neg h]
theorem MV.cnt3 {V : MV} (hm : V.m = 3) (q : Nat) : V.cnt q = if 8 ≤ q ∧ q < 24 then ((V.b ((q - 8) / 4)).countP (oldP 3 (((q - 8) % 4 : Nat) : Int)) : Int) else 0 := by
  unfold MV.cnt
  rw [if_neg (fun c => by omega)]
  by_cases h : 8 ≤ q ∧ q < 24
  · rw [if_pos ⟨hm, h⟩, if_pos h]
  · rw [if_neg (fun c => h c.2), if_neg h]

def cntC (V : MV) : List Cell := (List.range 24).map fun q => .int .i64 (V.cnt q)

theorem MV.may_cnt (V : MV) {k : Nat} (h4 : 4 ≤ k) (h24 : k < 24) : V.may k = decide (V.cnt k > 0) := by
  unfold MV.may MV.cnt
  rw [if_neg (by omega)]
  by_cases h8 : k < 8
  · rw [if_pos h8]
    unfold MV.mayF
    by_cases hm : V.m = 2
    · rw [if_pos ⟨hm, h4, h8⟩, hm]
      cases V.b (k - 4) with
      | nil => rfl
      | cons e l => rw [decide_eq_true (by rw [List.length_cons]; omega)]; rfl
    · rw [if_neg (fun q => hm q.1), if_neg (show ¬ (V.m = 3 ∧ 8 ≤ k ∧ k < 24) by omega), beq_false_of_ne hm]; rfl
  · rw [if_neg h8, if_pos h24, if_neg (by omega)]
    unfold MV.mayL
    by_cases hm : V.m = 3
    · rw [if_pos ⟨hm, by omega, h24⟩, hm, Bool.eq_iff_iff, decide_eq_true_eq]
      have : ((3 : Int) == 3) = true := rfl
      rw [this, Bool.true_and, List.find?_isSome]
      constructor
      · rintro ⟨e, he, hp⟩
        have := List.countP_pos_iff.2 ⟨e, he, hp⟩
        omega
      · intro hp
        obtain ⟨e, he, hp⟩ := List.countP_pos_iff.1 (show 0 < (V.b ((k - 8) / 4)).countP (oldP 3 (((k - 8) % 4 : Nat) : Int)) by omega)
        exact ⟨e, he, hp⟩
    · rw [if_neg (fun q => hm q.1), beq_false_of_ne hm]; rfl

/-- Where a step's stores are counted. -/
def qOf (m : Int) (s : Stp) : Nat := if m = 3 then 8 + (4 * s.t.toNat + s.loc.toNat) else 4 + s.t.toNat

section
variable {E : Env}

end
end Jq

/- Each thread comes to its end. -/
namespace Jq
open Go

section
variable {E : Env}

end
end Jq

/- The document's check of a test. -/
namespace Jq
open Go

def sumM (l : List (List Ins)) : Int := ((l.map fun c => min c.length 100).sum : Nat)
def jmpAt (len : Nat) (k : Nat) (i : Ins) : Bool := i.kind == 6 && (decide (i.n < 1) || decide (i.n > (len : Int) - k - 1))
section
variable {E : Env}

end
end Jq

/- The document's check of a test: the whole. -/
namespace Jq
open Go

section
variable {E : Env}

end
end Jq

namespace Jq
open Go


end Jq

/- Threads step by step, of any test. -/
namespace Jq
open Go

def shOpd : Sh := .agg (.cons (.i .i64) (.cons (.i .i64) .nil))
def shIns : Sh := .agg (.cons (.i .i64) (.cons (.i .i64) (.cons (.i .i64) (.cons shOpd (.cons (.i .i64) (.cons shOpd (.cons (.i .i64) .nil)))))))
def shAtm : Sh := .agg (.cons (.i .i64) (.cons (.i .i64) (.cons (.i .i64) (.cons (.i .i64) .nil))))
def shCond : Sh := .agg (.cons (.i .i64) (.cons (.sl (.sl shAtm)) .nil))
def shTest : Sh := .agg (.cons .s (.cons (.sl shPair) (.cons (.sl (.sl shIns)) (.cons shCond .nil))))
def shLcl : Sh := .agg (.cons (.i .i64) (.cons (.agg (Sh.rep (.i .i64) 4)) .nil))

/-- Is a test of few parts? -/
def fewB (T : PTest) : Bool := !(((decide ((T.thr.length : Int) > 6) || decide ((T.inits.length : Int) > 40)) || decide ((T.name.size : Int) > 60)) || decide ((T.any.length : Int) > 12)) && !(T.thr.any fun c => decide ((c.length : Int) > 30)) && !(T.any.any fun c => decide ((c.length : Int) > 12))

section
variable {E : Env}

end

end Jq

/- Threads step by step, of any test: the law. -/
namespace Jq
open Go

section
variable {E : Env}

end
end Jq

/- A test is made ready as the document says, or refused. -/
namespace Jq
open Go

theorem SlAt.cells1 {h : AHeap} {x : Cell} {cs : List Cell} {len : Nat} (s : SlAt h x 1 cs len) : slCells h 1 x = some cs := by
  have hl := s.1
  rcases s.2 with ⟨rfl, rfl⟩ | ⟨k, N, off, rfl, hb⟩
  · have : cs = [] := List.length_eq_zero_iff.1 (by omega)
    rw [this]; rfl
  · unfold slCells
    dsimp only
    by_cases h0 : len = 0
    · have : cs = [] := List.length_eq_zero_iff.1 (by omega)
      rw [if_pos h0, this]
    · rw [if_neg h0]
      rcases hb with hb | ⟨b, hb, hN, hle, hat⟩
      · exact absurd hb h0
      · rw [hb]
        simp only
        rw [if_pos ⟨hN, hle⟩]
        congr 1
        refine List.ext_getElem? fun j => ?_
        rw [List.getElem?_take, List.getElem?_drop]
        by_cases hj : j < len * 1
        · rw [if_pos hj, hat j hj]
        · rw [if_neg hj, List.getElem?_eq_none (by omega)]

section
variable {E : Env}

end
end Jq

/- Machines: how long one goes on. -/
namespace Jq
open Go

def MV.sumB (V : MV) : Int := (V.b 0).length + (V.b 1).length + (V.b 2).length + (V.b 3).length
def MV.sumP (V : MV) : Int := (V.l 0).pc + (V.l 1).pc + (V.l 2).pc + (V.l 3).pc
def isSt (m : Int) (s : Stp) : Bool := s.kind == 2 && m != 1
def isFl (s : Stp) : Bool := s.kind == 6
def MV.skips (V : MV) : Prop := ∀ c ∈ V.P.thr, SkipOk c

structure MV.Inv2 (V : MV) : Prop where
  le : ∀ t, t < 4 → (V.l t).pc ≤ (V.P.code t).length
  ms : (V.st.length : Int) + V.sumB ≤ 2 * V.sumP
  m1 : V.m = 1 → ∀ t, V.b t = []
  bal : (V.st.countP (isSt V.m) : Int) = V.st.countP isFl + V.sumB

/-- All of a program's instructions. -/
theorem sum_codes {P : PProg} (h4 : P.thr.length ≤ 4) : ((P.code 0).length : Int) + (P.code 1).length + (P.code 2).length + (P.code 3).length = sumL P.thr := by
  have hc : ∀ t : Nat, P.code (t : Int) = P.thr.getD t [] := fun t => by unfold PProg.code; rw [if_pos (by omega), Int.toNat_natCast]
  have e0 := hc 0; have e1 := hc 1; have e2 := hc 2; have e3 := hc 3
  rw [show ((0 : Nat) : Int) = 0 from rfl] at e0
  rw [show ((1 : Nat) : Int) = 1 from rfl] at e1
  rw [show ((2 : Nat) : Int) = 2 from rfl] at e2
  rw [show ((3 : Nat) : Int) = 3 from rfl] at e3
  rw [e0, e1, e2, e3]
  unfold sumL
  generalize P.thr = l at *
  match l with
  | [] => rfl
  | [a] => simp
  | [a, b] => simp
  | [a, b, c] => simp <;> omega
  | [a, b, c, d] => simp <;> omega
  | a :: b :: c :: d :: e :: r => simp at h4

theorem MV.Inv2.most {V : MV} (w : V.Inv2) (h4 : V.P.thr.length ≤ 4) : (V.st.length : Int) ≤ 2 * sumL V.P.thr := by
  have := w.ms
  have h := sum_codes h4
  have l0 := w.le 0 (by omega); have l1 := w.le 1 (by omega); have l2 := w.le 2 (by omega); have l3 := w.le 3 (by omega)
  rw [show ((0 : Nat) : Int) = 0 from rfl] at l0
  rw [show ((1 : Nat) : Int) = 1 from rfl] at l1
  rw [show ((2 : Nat) : Int) = 2 from rfl] at l2
  rw [show ((3 : Nat) : Int) = 3 from rfl] at l3
  unfold MV.sumB MV.sumP at this
  omega

/-- If nothing may be picked nothing waits. -/
theorem MV.Inv.done {V : MV} (v : V.Inv) (w : V.Inv2) (h0 : V.word = 0) : V.sumB = 0 := by
  have hno : ∀ i, V.may i = false := fun i => by rw [← MV.word_bit, h0, Nat.zero_testBit]
  have hb : ∀ t, t < 4 → V.b t = [] := fun t ht => by
    have hm := v.fit.m
    rcases (show V.m = 1 ∨ V.m = 2 ∨ V.m = 3 by omega) with h1 | h2 | h3
    · exact w.m1 h1 t
    · have := hno (4 + t)
      rw [MV.may_cnt V (by omega) (by omega), MV.cnt2 h2, if_pos ⟨by omega, by omega⟩, show 4 + t - 4 = t by omega, decide_eq_false_iff_not] at this
      exact List.length_eq_zero_iff.1 (by omega)
    · cases hbb : V.b t with
      | nil => rfl
      | cons e l =>
        exfalso
        have he := v.mem_b (t := t) (e := e) (by rw [hbb]; exact List.mem_cons_self)
        have := hno (8 + (4 * t + e.loc.toNat))
        rw [MV.may_cnt V (by omega) (by omega), MV.cnt3 h3, if_pos ⟨by omega, by omega⟩, show (8 + (4 * t + e.loc.toNat) - 8) / 4 = t by omega, show (8 + (4 * t + e.loc.toNat) - 8) % 4 = e.loc.toNat by omega, decide_eq_false_iff_not, hbb, List.countP_cons, if_pos (show oldP 3 ((e.loc.toNat : Nat) : Int) e = true by unfold oldP; simp; omega)] at this
        omega
  unfold MV.sumB
  rw [hb 0 (by omega), hb 1 (by omega), hb 2 (by omega), hb 3 (by omega)]; rfl
end Jq

/- Machines of the document: how one lies in memory. -/
namespace Jq
open Go

/-- The block. -/
def rvC (pc : List Cell) (V : MV) (bs : List Cell) (x : Cell) : List Cell :=
  pc ++ (([.int .i64 V.m] : List Cell) ++ (intC .i64 V.mem ++ (intC .i64 V.frm ++ (V.lc.flatMap Lcl.cs ++ (bs ++ [x])))))

section
variable {V : MV} {pc bs : List Cell} {x : Cell} (f : V.Fit) (hpc : pc.length = 3) (hbs : bs.length = 4)

include f hpc

theorem rv_lensB : ∃ A : List Cell, A.length = 0 + 32 ∧ ∀ bs x, rvC pc V bs x = A ++ (bs ++ [x]) := by
  have e2 := flat_len (f.lcs hpc)
  have := f.lc; have := f.mem; have := f.frm
  refine ⟨pc ++ (([.int .i64 V.m] : List Cell) ++ (intC .i64 V.mem ++ (intC .i64 V.frm ++ V.lc.flatMap Lcl.cs))), ?_, fun bs x => ?_⟩
  · simp only [List.length_append, e2, hpc, List.length_cons, List.length_nil, intC_len]; omega
  · unfold rvC; simp only [List.append_assoc]

include hbs

theorem rv_len : (rvC pc V bs x).length = 37 := by
  obtain ⟨A, hA, e⟩ := rv_lensB f hpc
  rw [e]
  simp only [List.length_append, hA, hbs, List.length_cons, List.length_nil]

end

/-- It lies there. -/
structure RvAt (n : Nat) (h : AHeap) (k : Nat) (x : Cell) (bs pc : List Cell) (V : MV) : Prop where
  hn : n ≤ h.length
  nk : n ≤ k
  prog : ProgAt (h.take n) pc V.P
  blk : blk? h k = some ⟨true, 0, rvC pc V bs x⟩
  st : Own n h x 7 (stepsC V.st) V.st.length
  sep : ¬ isBlk x k
  bl : bs.length = 4
  bf : ∀ t, t < 4 → Own n h (bs.getD t .nils) 3 (entsC (V.b t)) (V.b t).length ∧ ¬ isBlk (bs.getD t .nils) k ∧ ∀ j, isBlk (bs.getD t .nils) j → ¬ isBlk x j

/-- What may be picked, of any number. -/
def mayI (V : MV) (i : Int) : Bool := decide (0 ≤ i) && V.may i.toNat

theorem mayI_has (V : MV) (i : Int) : mayI V i = hasI V.word i := by
  unfold mayI hasI
  by_cases h0 : 0 ≤ i
  · rw [decide_eq_true h0, Bool.true_and, Bool.true_and, MV.word_bit]
    by_cases h : i < 64
    · rw [decide_eq_true h, Bool.and_true]
    · rw [decide_eq_false h, Bool.and_false, MV.may_out (by omega)]
  · rw [decide_eq_false h0]; rfl

section
variable {E : Env}

/-- Whose flush, of which location. -/
def fluOf (m i : Int) : Int × Int × Bool :=
  if m = 2 ∧ 4 ≤ i ∧ i < 8 then (i - 4, -1, true) else if m = 3 ∧ 8 ≤ i ∧ i < 24 then ((i - 8) / 4, (i - 8) % 4, true) else (0, 0, false)

end
end Jq

/- Machines of the document: a pick is taken. -/
namespace Jq
open Go

theorem Own.via {n : Nat} {h h' : AHeap} {y : Cell} {esz len : Nat} {cs : List Cell} (o : Own n h y esz cs len) (hf : ∀ j b, isBlk y j → blk? h j = some b → blk? h' j = some b) : Own n h' y esz cs len := by
  refine ⟨o.1, o.2.imp id ?_⟩
  rintro ⟨j, rfl, h1, h2⟩
  exact ⟨j, rfl, h1, hf j _ rfl h2⟩

section
variable {E : Env}

end
end Jq

/- Machines of the document: a thread's pick; any pick. -/
namespace Jq
open Go

section
variable {E : Env}

end
end Jq

/- Machines of the document: at the beginning; what is told of them. -/
namespace Jq
open Go

theorem RvAt.keep {n : Nat} {h h' : AHeap} {k : Nat} {x : Cell} {bs pc : List Cell} {V : MV} (a : RvAt n h k x bs pc V) (hk : Kp h.length h h') : RvAt n h' k x bs pc V :=
  ⟨Nat.le_trans a.hn hk.1, a.nk, by rw [take_keep (hk.mono a.hn)]; exact a.prog, by rw [hk.blk (blk_lt' a.blk)]; exact a.blk, a.st.keepK hk, a.sep, a.bl, fun t ht => by
    obtain ⟨q1, q2, q3⟩ := a.bf t ht
    exact ⟨q1.keepK hk, q2, q3⟩⟩

/-- What does not belong to it leaves it as it was. -/
theorem RvAt.other {n : Nat} {h h' : AHeap} {k : Nat} {x : Cell} {bs pc : List Cell} {V : MV} (a : RvAt n h k x bs pc V) (hl : h.length ≤ h'.length) (hn : Kp n h h') (hk : ∀ j b, blk? h j = some b → j = k ∨ isBlk x j ∨ (∃ t, t < 4 ∧ isBlk (bs.getD t .nils) j) → blk? h' j = some b) : RvAt n h' k x bs pc V :=
  ⟨Nat.le_trans a.hn hl, a.nk, by rw [take_keep hn]; exact a.prog, hk k _ a.blk (.inl rfl), a.st.via fun j b q1 q2 => hk j b q2 (.inr (.inl q1)), a.sep, a.bl, fun t ht => by
    obtain ⟨q1, q2, q3⟩ := a.bf t ht
    exact ⟨q1.via fun j b s1 s2 => hk j b s2 (.inr (.inr ⟨t, ht, s1⟩)), q2, q3⟩⟩

def lcU (P : PProg) (t : Nat) : List Lcl := [if 0 < t then startL P 0 else Lcl.zero, if 1 < t then startL P 1 else Lcl.zero, if 2 < t then startL P 2 else Lcl.zero, if 3 < t then startL P 3 else Lcl.zero]

def MV.raw (P : PProg) (m : Int) (lc : List Lcl) (mem : List Int) : MV := ⟨P, m, lc, mem, [-1, -1, -1, -1], [[], [], [], []], []⟩

section
variable {E : Env}

def finU (V : MV) (t : Nat) : List Cell := (V.lc.take t).flatMap regsC ++ (List.replicate (16 - t * 4) (.int .i64 0) ++ intC .i64 V.mem)

end
end Jq

/- VmEnds: however it is picked a machine is done. -/
namespace Jq
open Go

section
variable {E : Env}

end
end Jq

/- Two machines that stand alike. -/
namespace Jq
open Go

theorem Own.has {n : Nat} {h : AHeap} {y : Cell} {esz len : Nat} {cs : List Cell} (o : Own n h y esz cs len) {j : Nat} (hj : isBlk y j) : blk? h j = some ⟨true, esz, cs⟩ := by
  rcases o.2 with ⟨e, _⟩ | ⟨j', e, _, hb⟩
  · rw [e] at hj; exact absurd hj (by simp [isBlk])
  · have : j' = j := by rw [e] at hj; exact hj
    subst this; exact hb

structure Both (n : Nat) (h : AHeap) (k : Nat) (x : Cell) (pc : List Cell) (V : MV) (n' k' : Nat) (x' : Cell) (bs pc' : List Cell) (W : MV) : Prop where
  a : VmAt n h k x pc V
  b : RvAt n' h k' x' bs pc' W
  nn : n ≤ n'
  d : ∀ j, isBlk x j → ¬ isBlk x' j
  fV : V.Fit
  fW : W.Fit

section both
variable {n : Nat} {h : AHeap} {k : Nat} {x : Cell} {pc : List Cell} {V : MV} {n' k' : Nat} {x' : Cell} {bs pc' : List Cell} {W : MV} (B : Both n h k x pc V n' k' x' bs pc' W)
include B

theorem Both.kk : k' ≠ k := fun e => by
  have h1 := B.a.blk
  have h2 := B.b.blk
  rw [e, h1] at h2
  have h3 := Blk.mk.inj (Option.some.inj h2)
  have l1 := vm_len (x := x) B.fV B.a.prog.len
  have l2 := rv_len (x := x') B.fW B.b.prog.len B.b.bl
  rw [h3.2.2, l2] at l1
  omega

theorem Both.xk : ¬ isBlk x k' := fun q => by
  have h1 := B.a.st.has q
  rw [B.b.blk] at h1
  have := (Blk.mk.inj (Option.some.inj h1)).2.1
  omega
theorem Both.x'k : ¬ isBlk x' k := fun q => by
  have h1 := B.b.st.has q
  rw [B.a.blk] at h1
  have := (Blk.mk.inj (Option.some.inj h1)).2.1
  omega
theorem Both.bk {t : Nat} (ht : t < 4) : ¬ isBlk (bs.getD t .nils) k := fun q => by
  have h1 := (B.b.bf t ht).1.has q
  rw [B.a.blk] at h1
  have := (Blk.mk.inj (Option.some.inj h1)).2.1
  omega
theorem Both.bx {t : Nat} (ht : t < 4) {j : Nat} (q : isBlk (bs.getD t .nils) j) : ¬ isBlk x j := fun q2 => by
  have h1 := (B.b.bf t ht).1.has q
  rw [B.a.st.has q2] at h1
  have := (Blk.mk.inj (Option.some.inj h1)).2.1
  omega

theorem Both.keep {h' : AHeap} (hk : Kp h.length h h') : Both n h' k x pc V n' k' x' bs pc' W := ⟨B.a.keep hk, B.b.keep hk, B.nn, B.d, B.fV, B.fW⟩

/-- The one goes on. -/
theorem Both.vm {h' : AHeap} {x1 : Cell} {V' : MV} (kv : KpV n k x x1 h h') (a' : VmAt n h' k x1 pc V') (f' : V'.Fit) (hp : ProgAt (h'.take n') pc' W.P) : Both n h' k x1 pc V' n' k' x' bs pc' W := by
  have b := B.b
  refine ⟨a', ⟨Nat.le_trans b.hn kv.kp.1, b.nk, hp, (kv.old _ _ b.blk B.kk B.xk).1, b.st.via fun j c q1 q2 => (kv.old j c q2 (fun e => B.x'k (e ▸ q1)) (fun q => B.d j q q1)).1, b.sep, b.bl, fun t ht => ?_⟩, B.nn, fun j q1 q2 => ?_, f', B.fW⟩
  · obtain ⟨q1, q2, q3⟩ := b.bf t ht
    exact ⟨q1.via fun j c s1 s2 => (kv.old j c s2 (fun e => B.bk ht (e ▸ s1)) (B.bx ht s1)).1, q2, q3⟩
  · exact (kv.old j _ (b.st.has q2) (fun e => B.x'k (e ▸ q2)) (fun q => B.d j q q2)).2 q1

/-- The other goes on. -/
theorem Both.rv {h' : AHeap} {x1 : Cell} {bs1 : List Cell} {W' : MV} (kv : KpV n' k' x' x1 h h') (b' : RvAt n' h' k' x1 bs1 pc' W') (f' : W'.Fit) : Both n h' k x pc V n' k' x1 bs1 pc' W' := by
  have a := B.a
  refine ⟨⟨Nat.le_trans a.hn kv.kp.1, a.nk, by rw [take_keep (kv.kp.mono B.nn)]; exact a.prog, (kv.old _ _ a.blk (fun e => B.kk e.symm) B.x'k).1, a.st.via fun j c q1 q2 => (kv.old j c q2 (fun e => B.xk (e ▸ q1)) (B.d j q1)).1, a.sep⟩, b', B.nn, fun j q1 q2 => ?_, B.fV, f'⟩
  exact (kv.old j _ (a.st.has q1) (fun e => B.xk (e ▸ q1)) (B.d j q1)).2 q2
end both

section
variable {E : Env}

end
end Jq

/- VmCopies: a copy goes on by itself. -/
namespace Jq
open Go

/-- Rows of picks, up to the first that may not be. -/
def MV.runG (V : MV) : List Int → MV × Nat
  | [] => (V, 0)
  | p :: ps => if mayI V p = true then (((V.nx p.toNat).runG ps).1, ((V.nx p.toNat).runG ps).2 + 1) else (V, 0)

theorem mayI_at {V : MV} {p : Int} (h : mayI V p = true) : ∃ j : Nat, p = (j : Int) ∧ V.may j = true ∧ p.toNat = j := by
  unfold mayI at h
  rw [Bool.and_eq_true] at h
  obtain ⟨j, rfl⟩ := Int.eq_ofNat_of_zero_le (of_decide_eq_true h.1)
  exact ⟨j, rfl, h.2, rfl⟩

theorem MV.runG_inv {V : MV} (v : V.Inv) : ∀ l : List Int, (V.runG l).1.Inv ∧ (V.runG l).1.P = V.P ∧ (V.runG l).1.m = V.m ∧ (V.runG l).1.st.length = V.st.length + (V.runG l).2 ∧ (V.runG l).2 ≤ l.length
  | [] => ⟨v, rfl, rfl, rfl, Nat.le_refl _⟩
  | p :: ps => by
    unfold MV.runG
    by_cases h : mayI V p = true
    · obtain ⟨j, rfl, hj, hn⟩ := mayI_at h
      rw [if_pos h, hn]
      obtain ⟨h1, h2, h3, h4, h5⟩ := MV.runG_inv (v.nx hj) ps
      refine ⟨h1, h2.trans (V.nx_P j).1, h3.trans (V.nx_P j).2, ?_, by dsimp only; rw [List.length_cons]; omega⟩
      dsimp only
      rw [h4, V.nx_st, List.length_append, List.length_singleton]; omega
    · rw [if_neg h]
      exact ⟨v, rfl, rfl, rfl, by dsimp only; omega⟩

def ptr37 (k : Nat) : Cell := .ptr k 37 0

section
variable {E : Env}

end

section both
variable {n : Nat} {h : AHeap} {k : Nat} {x : Cell} {pc : List Cell} {V : MV} {n' k' : Nat} {x' : Cell} {bs pc' : List Cell} {W : MV}

end both

section
variable {E : Env}

/-- What is kept of a copy. -/
def CopyOk (n : Nat) (h : AHeap) (k : Nat) (x : Cell) (P : PProg) (cs : List Cell) (pc : List Cell) (x12 x13 : Cell) : Prop :=
  x12 = .nilp ∨ ∃ (kc : Nat) (xc : Cell) (W : MV) (n' k' : Nat) (x' : Cell) (bs : List Cell), x12 = .ptr kc 329 0 ∧ x13 = .ptr k' 37 0 ∧ Both n h kc xc pc W n' k' x' bs cs W ∧ kc ≠ k ∧ (∀ j, isBlk x j → ¬ isBlk xc j) ∧ (∀ j, isBlk x j → ¬ isBlk x' j) ∧ W.P = P ∧ W.st.length ≤ 100

end
end Jq

/- A copy of the document's machine. -/
namespace Jq
open Go

theorem Own.cellsG {n : Nat} {h : AHeap} {x : Cell} {esz len : Nat} {cs : List Cell} (o : Own n h x esz cs len) : slCells h esz x = some cs := by
  have hl := o.1
  rcases o.2 with ⟨rfl, h0⟩ | ⟨k, rfl, _, hb⟩
  · have : cs = [] := List.length_eq_zero_iff.1 (by rw [hl, h0]; simp)
    rw [this]; rfl
  · unfold slCells
    dsimp only
    by_cases h0 : len = 0
    · have : cs = [] := List.length_eq_zero_iff.1 (by rw [hl, h0]; simp)
      rw [if_pos h0, this]
    · rw [if_neg h0, hb]
      simp only
      rw [if_pos ⟨by trivial, by omega⟩, List.drop_zero, List.take_of_length_le (by omega)]

section
variable {E : Env}

end
end Jq

namespace Jq
open Go

/- jacquard/jacquardlaw17.awake: 261 -/
set_option maxRecDepth 100000 in
theorem jacquardlaw17_awake_eq (C : CallF) (L : LoopF) (G : Glo)  (h0 : AHeap) :
    jacquardlaw17_awake.body C L G [] h0 =
    c2 (C 260 [(.c (.str (ByteArray.mk #[116, 48, 32, 102, 48, 32, 102, 49, 46, 49])))] h0) fun y_2 y_3 h_1 => asC y_2 fun x_4 => asB y_3 fun b_5 => c1 (C 187 [] h_1) fun y_7 h_6 => asA y_7 fun l_8 => if (splice (splice (splice [Cell.int .i64 0, Cell.int .i64 0, Cell.int .i64 0] 0 ([(.int .i64 0)] : List Cell)) 1 ([(.int .i64 0)] : List Cell)) 2 ([(.int .i64 0)] : List Cell)).length = 3 * 1 then c3 (C 271 [(.agg l_8), (.c (.int .i64 1)), (.c (.sl h_6.length ((splice (splice (splice [Cell.int .i64 0, Cell.int .i64 0, Cell.int .i64 0] 0 ([(.int .i64 0)] : List Cell)) 1 ([(.int .i64 0)] : List Cell)) 2 ([(.int .i64 0)] : List Cell)).length) 0 3))] (h_6 ++ [some (Blk.mk true 1 (splice (splice (splice [Cell.int .i64 0, Cell.int .i64 0, Cell.int .i64 0] 0 ([(.int .i64 0)] : List Cell)) 1 ([(.int .i64 0)] : List Cell)) 2 ([(.int .i64 0)] : List Cell)))])) fun y_10 y_11 y_12 h_9 => asC y_10 fun x_13 => asI .i64 y_11 fun n_14 => asB y_12 fun b_15 => scK b_5 true (lenK x_4 fun n_16 => some ((n_16 == 3), h_9)) false h_9 fun b_17 h_18 => scK b_17 true (idxSK 1 x_4 2 fun k_19 N_20 o_21 => rdH h_18 k_19 N_20 fun l_22 => atK l_22 o_21 fun q_23 => asI .i64 (.c q_23) fun n_24 => some ((n_24 == 13), h_18)) false h_18 fun b_25 h_26 => scK b_25 true (if (splice (splice (splice [Cell.int .i64 0, Cell.int .i64 0, Cell.int .i64 0] 0 ([(.int .i64 0)] : List Cell)) 1 ([(.int .i64 4)] : List Cell)) 2 ([(.int .i64 13)] : List Cell)).length = 3 * 1 then c1 (C 262 [(.c (.sl h_26.length ((splice (splice (splice [Cell.int .i64 0, Cell.int .i64 0, Cell.int .i64 0] 0 ([(.int .i64 0)] : List Cell)) 1 ([(.int .i64 4)] : List Cell)) 2 ([(.int .i64 13)] : List Cell)).length) 0 3))] (h_26 ++ [some (Blk.mk true 1 (splice (splice (splice [Cell.int .i64 0, Cell.int .i64 0, Cell.int .i64 0] 0 ([(.int .i64 0)] : List Cell)) 1 ([(.int .i64 4)] : List Cell)) 2 ([(.int .i64 13)] : List Cell)))])) fun y_28 h_27 => asS y_28 fun z_29 => some ((ByteArray.toList z_29 == ByteArray.toList (ByteArray.mk #[116, 48, 32, 102, 48, 32, 102, 49, 46, 49])), h_27) else none) false h_26 fun b_30 h_31 => scK b_30 true (lenK x_13 fun n_32 => some ((n_32 == 2), h_31)) false h_31 fun b_33 h_34 => scK b_33 true (some ((n_14 == 2), h_34)) false h_34 fun b_35 h_36 => scK b_35 true (some ((!b_15), h_36)) false h_36 fun b_37 h_38 => finish true h0 [(.c (.bool b_37))] h_38 else none := by kernel_rfl

/- jacquard/jacquardlaw17.PlayModels: 426 -/
set_option maxRecDepth 100000 in
theorem jacquardlaw17_PlayModels_eq (C : CallF) (L : LoopF) (G : Glo) (x0 : Cell) (a1 : Int) (x2 : Cell) (h0 : AHeap) :
    jacquardlaw17_PlayModels.body C L G [(.c x0), (.c (.int .i64 a1)), (.c x2)] h0 =
    c1 (C 76 [(.c x0), (.c (.int .i64 6))] h0) fun y_2 h_1 => asA y_2 fun l_3 => if 0 = 0 ∧ [Cell.nils, Cell.nils, Cell.nils].length = 3 ∧ l_3.length = 3 then scK (decide (a1 ≥ 1)) true (some ((decide (a1 ≤ 3)), h_1)) false h_1 fun b_4 h_5 => scK b_4 false (lenK x2 fun n_6 => some ((decide (n_6 > 100)), h_5)) true h_5 fun b_7 h_8 => if b_7 = true then c1 (C 261 [] h_8) fun y_10 h_9 => asB y_10 fun b_11 => some ([(.c (.bool b_11))], h_9) else if 0 = 0 ∧ l_3.length = 3 then c3 (C 271 [(.agg l_3), (.c (.int .i64 a1)), (.c x2)] h_8) fun y_13 y_14 y_15 h_12 => asC y_13 fun x_16 => asI .i64 y_14 fun n_17 => asB y_15 fun b_18 => if 0 = 0 ∧ l_3.length = 3 then c2 (C 307 [(.agg l_3), (.c (.int .i64 a1)), (.c x2)] h_12) fun y_20 y_21 h_19 => asA y_20 fun l_22 => asB y_21 fun b_23 => if 0 = 0 ∧ (List.replicate 20 (Cell.int .i64 0)).length = 20 ∧ l_22.length = 20 then lenK x_16 fun n_24 => scK (n_24 == 0) true (some ((n_17 == 0), h_19)) false h_19 fun b_25 h_26 => scK b_25 true (some ((!b_18), h_26)) false h_26 fun b_27 h_28 => scK b_27 true (some ((!b_23), h_28)) false h_28 fun b_29 h_30 => scK b_29 true (if 0 = 0 ∧ l_3.length = 3 then c1 (C 306 [(.agg l_3), (.c (.int .i64 a1)), (.c x2)] h_30) fun y_32 h_31 => asB y_32 fun b_33 => some ((!b_33), h_31) else none) false h_30 fun b_34 h_35 => scK b_34 true (if 0 = 0 ∧ l_3.length = 3 then c1 (C 423 [(.agg l_3), (.c (.int .i64 a1))] h_35) fun y_37 h_36 => asC y_37 fun x_38 => lenK x_38 fun n_39 => some ((n_39 == 0), h_36) else none) false h_35 fun b_40 h_41 => scK b_40 true (if 0 = 0 ∧ l_3.length = 3 then c1 (C 424 [(.agg l_3), (.c (.int .i64 a1))] h_41) fun y_43 h_42 => asC y_43 fun x_44 => lenK x_44 fun n_45 => some ((n_45 == 0), h_42) else none) false h_41 fun b_46 h_47 => scK b_46 true (c1 (C 261 [] h_47) fun y_49 h_48 => asB y_49 fun b_50 => some (b_50, h_48)) false h_47 fun b_51 h_52 => some ([(.c (.bool b_51))], h_52) else none else none else none else none := by kernel_rfl


end Jq

/- Any row of picks: each may be picked where it stands, and it goes on as long as something may. -/
namespace Jq
open Go

/-- Each pick of the row may be picked where it stands. -/
def MV.whole (V : MV) (l : List Int) : Prop := (V.runG l).2 = l.length
/-- Where the row comes to. -/
def MV.runs (V : MV) (l : List Int) : MV := (V.runG l).1

theorem MV.runs_inv {V : MV} (v : V.Inv) (l : List Int) : (V.runs l).Inv ∧ (V.runs l).P = V.P ∧ (V.runs l).m = V.m := ⟨(MV.runG_inv v l).1, (MV.runG_inv v l).2.1, (MV.runG_inv v l).2.2.1⟩
/-- A row of numbers is apart from a machine. -/
theorem RvAt.apart {n k : Nat} {h : AHeap} {x : Cell} {bs pc : List Cell} {V : MV} (a : RvAt n h k x bs pc V) {n1 len : Nat} {y : Cell} {cs : List Cell} (o : Own n1 h y 1 cs len) {j : Nat} (hj : isBlk y j) : j ≠ k ∧ ¬ isBlk x j ∧ ∀ t, t < 4 → ¬ isBlk (bs.getD t .nils) j := by
  have h1 := o.has hj
  refine ⟨fun e => ?_, fun q => ?_, fun t ht q => ?_⟩
  · rw [e, a.blk] at h1
    have := (Blk.mk.inj (Option.some.inj h1)).2.1
    omega
  · rw [a.st.has q] at h1
    have := (Blk.mk.inj (Option.some.inj h1)).2.1
    omega
  · rw [(a.bf t ht).1.has q] at h1
    have := (Blk.mk.inj (Option.some.inj h1)).2.1
    omega

section
variable {E : Env}

end
end Jq

/- Rows of picks are played. -/
namespace Jq
open Go

/-- What is asked of a program so that it may be played. -/
structure Plays (P : PProg) (m : Int) : Prop where
  small : P.small
  hu : ∀ x ∈ P.locs, 0 ≤ x ∧ x < 256
  ll : P.locs.length ≤ 1000
  il : P.init.length ≤ 4
  hm : 1 ≤ m ∧ m ≤ 3
  pok : pokB P = true
  inv : (MV.new P m).Inv
  good : P.good
  n4 : P.thr.length ≤ 4

section
variable {E : Env}

theorem mayI_no {V : MV} {q : Int} (h : mayI V q = false) : hasI V.word q = false := by rw [← mayI_has]; exact h

theorem prun_R (hE : play_run_In E) {h : AHeap} {pc : List Cell} {P : PProg} (p : ProgAt h pc P) {m : Int} (pl : Plays P m) {y : Cell} {l : List Int} (hy : SlAt h y 1 (intC .i64 l) l.length) (hlow : Low h.length y) (hlen : l.length < 90000) :
    ∃ n k x' pc' h', R E 278 [.agg pc, .c (.int .i64 m), .c y] h = some ([.c (.ptr k 329 0), .c (.int .i64 (((MV.new P m).runG l).2 : Int))], h') ∧ VmAt n h' k x' pc' ((MV.new P m).runs l) ∧ h.length ≤ n ∧ Kp h.length h h' := by
  obtain ⟨n, k0, pc', h1, r1, a1, hn, k1⟩ := VNew_R hE.c171 p pl.small pl.hu pl.ll pl.il pl.hm pl.pok
  have key : ∀ (t : List Int) (j : Nat) (V : MV) (x : Cell) (h2 : AHeap), l.drop j = t → j ≤ l.length → V.st.length = j → V.Inv → VmAt n h2 k0 x pc' V → Kp h.length h h2 →
      ∃ x' h3, (Lim (play_run_F1 (R E) Lim E.glob) (play_run_s1 y (.ptr k0 329 0) y (l.length : Int) (j : Int) h2)).bind (fun p_17 => (play_run_k3 (R E) Lim E.glob h) p_17.1 p_17.2) = some ([.c (.ptr k0 329 0), .c (.int .i64 ((j + (V.runG t).2 : Nat) : Int))], h3) ∧ VmAt n h3 k0 x' pc' (V.runG t).1 ∧ Kp h.length h h3 := by
    intro t
    induction t with
    | nil =>
      intro j V x h2 hd hj hst v a kk
      have hjl : j = l.length := by
        have := congrArg List.length hd
        rw [List.length_drop, List.length_nil] at this; omega
      subst hjl
      have hy2 := hy.keep hlow kk
      have e1 : play_run_F1 (R E) Lim E.glob (play_run_s1 y (.ptr k0 329 0) y (l.length : Int) (l.length : Int) h2) = some (.exit 0, play_run_x1_1 y (.ptr k0 329 0) h2) := by
        rw [play_run_r1, if_neg (by simp)]
      refine ⟨x, h2, ?_, a, kk⟩
      rw [Lim_exit e1, bind_ok]
      dsimp only
      rw [play_run_e1_1, hy2.len]
      rfl
    | cons q t ih =>
      intro j V x h2 hd hj hst v a kk
      have hjl : j < l.length := by
        rcases Nat.lt_or_ge j l.length with c | c
        · exact c
        · rw [List.drop_of_length_le c] at hd; cases hd
      have hq : l[j]? = some q := by
        have := congrArg (fun z => z[0]?) hd
        simp only [List.getElem?_drop, List.getElem?_cons_zero, Nat.add_zero] at this
        exact this
      have hd2 : l.drop (j + 1) = t := by
        have := congrArg (List.drop 1) hd
        rw [List.drop_drop] at this
        simpa using this
      have hy2 := hy.keep hlow kk
      unfold MV.runG
      by_cases hm : mayI V q = true
      · obtain ⟨i, rfl, hi, hin⟩ := mayI_at hm
        rw [if_pos hm, hin]
        obtain ⟨x3, h3, r3, a3, k3⟩ := Pick_R hE.c173 a v (by omega) hi
        have e1 : play_run_F1 (R E) Lim E.glob (play_run_s1 y (.ptr k0 329 0) y (l.length : Int) (j : Int) h2) = some (.normal, play_run_s1 y (.ptr k0 329 0) y (l.length : Int) ((j + 1 : Nat) : Int) h3) := by
          rw [play_run_r1, if_pos (by simp; omega), hy2.get1 hjl (intC_get hq), asI_ok, r3, c2_ok, asA_ok, asB_ok, if_pos (by exact ⟨rfl, rfl, rfl⟩), if_neg (by simp), g_succ (by omega)]
        obtain ⟨x4, h4, r4, a4, k4⟩ := ih (j + 1) (V.nx i) x3 h3 hd2 (by omega) (by rw [V.nx_st, List.length_append, List.length_singleton, hst]) (v.nx hi) a3 (kk.trans (k3.kp.mono hn))
        refine ⟨x4, h4, ?_, a4, k4⟩
        have hL : ∀ r, Lim (play_run_F1 (R E) Lim E.glob) (play_run_s1 y (.ptr k0 329 0) y (l.length : Int) ((j + 1 : Nat) : Int) h3) = some r → Lim (play_run_F1 (R E) Lim E.glob) (play_run_s1 y (.ptr k0 329 0) y (l.length : Int) (j : Int) h2) = some r := fun r hr => Lim_next e1 hr
        cases hl : Lim (play_run_F1 (R E) Lim E.glob) (play_run_s1 y (.ptr k0 329 0) y (l.length : Int) ((j + 1 : Nat) : Int) h3) with
        | none => rw [hl] at r4; cases r4
        | some r =>
          rw [hl] at r4
          rw [hL r hl, r4, show j + 1 + ((V.nx i).runG t).2 = j + (((V.nx i).runG t).2 + 1) by omega]
      · rw [if_neg hm]
        have hm' : mayI V q = false := by simpa using hm
        have r3 := Pick_no hE.c173 a v (mayI_no hm')
        have e1 : play_run_F1 (R E) Lim E.glob (play_run_s1 y (.ptr k0 329 0) y (l.length : Int) (j : Int) h2) = some (.ret, play_run_x1_0 (.ptr k0 329 0) (j : Int) h2) := by
          rw [play_run_r1, if_pos (by simp; omega), hy2.get1 hjl (intC_get hq), asI_ok, r3, c2_ok, asA_ok, asB_ok, if_pos (by exact ⟨rfl, rfl, rfl⟩), if_pos (by simp)]
        refine ⟨x, h2, ?_, a, kk⟩
        rw [Lim_ret e1, bind_ok]
        dsimp only
        rw [play_run_e1_0]
        rfl
  obtain ⟨x', h3, e1, e2, e3⟩ := key l 0 (MV.new P m) .nils h1 rfl (by omega) rfl pl.inv a1 k1
  refine ⟨n, k0, x', pc', h3, R_intro hE.fn ?_, e2, hn, e3⟩
  rw [play_run_eq, if_pos (by exact ⟨rfl, p.len⟩), r1, c2_ok, asC_ok, asI_ok, if_neg (by simp), hy.len]
  rw [Nat.zero_add, show ((0 : Nat) : Int) = 0 from rfl] at e1
  exact e1

theorem PRun_R (hE : play_Run_In E) {h : AHeap} {pc : List Cell} {P : PProg} (p : ProgAt h pc P) {m : Int} (pl : Plays P m) {y : Cell} {l : List Int} (hy : SlAt h y 1 (intC .i64 l) l.length) (hlow : Low h.length y) (hlen : l.length < 90000) :
    ∃ z h', R E 271 [.agg pc, .c (.int .i64 m), .c y] h = some ([.c z, .c (.int .i64 (((MV.new P m).runG l).2 : Int)), .c (.bool (((MV.new P m).runs l).word == 0))], h') ∧ Own h.length h' z 7 (stepsC ((MV.new P m).runs l).st) ((MV.new P m).runs l).st.length ∧ Kp h.length h h' := by
  obtain ⟨n, k, x', pc', h1, r1, a1, hn, k1⟩ := prun_R hE.c278 p pl hy hlow hlen
  obtain ⟨v, vP, vm⟩ := MV.runs_inv pl.inv l
  have vst := (MV.runG_inv pl.inv l).2.2.2
  have hst : ((MV.new P m).runs l).st.length ≤ 100000 := by
    show ((MV.new P m).runG l).1.st.length ≤ 100000
    rw [vst.1, show (MV.new P m).st.length = 0 from rfl]
    have := vst.2
    omega
  obtain ⟨z, h2, r2, o2, k2⟩ := Steps_R hE.c175 a1 v.fit hst
  have a2 := a1.keep k2
  have r3 := Done_R hE.c174 a2.blk v.fit (prog_at a2.prog a2.hn (Kp.refl n h2))
  refine ⟨z, h2, R_intro hE.fn ?_, o2.monoN k1.1, k1.trans (k2.mono k1.1)⟩
  rw [play_Run_eq, if_pos (by exact ⟨rfl, p.len⟩), r1, c2_ok, asC_ok, asI_ok]
  rw [ptr_nil, if_neg (by simp), r2, c1_ok, asC_ok, r3, c1_ok, asB_ok]
end
end Jq

/- Whether a row is maximal, and how it ends; always the least or the greatest of those that may be picked. -/
namespace Jq
open Go

/-- All of a row were taken, and nothing is left. -/
def maxB (P : PProg) (m : Int) (l : List Int) : Bool := ((MV.new P m).runG l).2 == l.length && ((MV.new P m).runs l).word == 0

/-- Always the one that is told. -/
structure Greedy (pk : MV → Nat) (V : MV) (l : List Int) : Prop where
  whole : V.whole l
  word : (V.runs l).word = 0
  at_ : ∀ i, i < l.length → l[i]? = some ((pk (V.runs (l.take i)) : Nat) : Int)

def pkF (V : MV) : Nat := (bitsL V.word).getD 0 0
def pkL (V : MV) : Nat := (bitsL V.word).getD ((bitsL V.word).length - 1) 0

section
variable {E : Env}

end
end Jq

/- Rows of picks: what the document fixes. -/
namespace Jq
open Go

theorem sb_good : sbP.good := by
  refine ⟨sb_small.fits, fun c hc => ?_⟩
  simp [sbP] at hc
  rcases hc with rfl | rfl <;>
  · intro i hi
    simp [sbC] at hi
    rcases hi with rfl | rfl <;> exact ⟨by decide, by decide, by decide, by decide⟩

def sbW : MV := MV.new sbP 1
theorem sbW_inv : sbW.Inv := MV.new_inv (by omega) sb_small sb_fld (by decide) (by decide) (fun c hc => by
  simp [sbP] at hc
  rcases hc with rfl | rfl <;> decide)

theorem sb_plays : Plays sbP 1 := ⟨sb_small, by decide, by decide, by decide, by omega, sb_pok, sbW_inv, sb_good, by decide⟩

theorem sb_run : (sbW.runG [0, 0, 0]).2 = 2 ∧ ((sbW.runs [0, 0, 0]).word == 0) = false ∧ (sbW.runs [0, 0, 0]).st.length = 2 := by decide +kernel

theorem picks_text : picksOf (parts [116, 48, 32, 102, 48, 32, 102, 49, 46, 49]) = some [0, 4, 13] := by decide +kernel
theorem text_picks : (ByteArray.toList (textOf [0, 4, 13]) == ByteArray.toList (ByteArray.mk #[116, 48, 32, 102, 48, 32, 102, 49, 46, 49])) = true := by kernel_rfl

section
variable {E : Env}

theorem awake17_R (hE : jacquardlaw17_awake_In E) (hx : Ext17 E) (h : AHeap) : R E 261 [] h = some ([.c (.bool true)], h) := by
  have hM : maxBytes = 1099511627776 := rfl
  have hp : parseX [.c (.str (ByteArray.mk #[116, 48, 32, 102, 48, 32, 102, 49, 46, 49]))] h = some ([.c (.sl h.length 3 0 3), .c (.bool true)], h ++ [some ⟨true, 1, intC .i64 [0, 4, 13]⟩]) := by
    unfold parseX
    dsimp only
    rw [if_neg (by decide), if_pos (by decide +kernel), picks_text]
    rfl
  have r1 := Parse_R hx hE.x260 hp
  generalize hH : h ++ [some (Blk.mk true 1 (intC .i64 [0, 4, 13]))] = H at r1
  have k1 : Kp h.length h H := by rw [← hH]; exact Kp.app _ (Nat.le_refl _)
  have o1 : Own h.length H (.sl h.length 3 0 3) 1 (intC .i64 [0, 4, 13]) 3 := ⟨rfl, .inr ⟨h.length, rfl, Nat.le_refl _, by rw [← hH]; exact blk_new _ _⟩⟩
  obtain ⟨cs, h2, r2, p2, k2⟩ := SB_R hE.c187 H
  have k3 : Kp h2.length h2 (h2 ++ [some (Blk.mk true 1 (intC .i64 [0, 0, 0]))]) := Kp.app _ (Nat.le_refl _)
  have o3 : SlAt (h2 ++ [some (Blk.mk true 1 (intC .i64 [0, 0, 0]))]) (.sl h2.length 3 0 3) 1 (intC .i64 [0, 0, 0]) 3 := SlAt.whole (blk_new _ _) rfl
  obtain ⟨z, h4, r4, o4, k4⟩ := PRun_R hE.c271 (p2.keep k3) sb_plays (y := .sl h2.length 3 0 3) (l := [0, 0, 0]) o3 (.inr (by simp)) (by decide)
  obtain ⟨s1, s2, s3⟩ := sb_run
  have e1 : ((MV.new sbP 1).runG [0, 0, 0]).2 = 2 := s1
  have e2 : (((MV.new sbP 1).runs [0, 0, 0]).word == 0) = false := s2
  have e3 : ((MV.new sbP 1).runs [0, 0, 0]).st.length = 2 := s3
  rw [e1, e2] at r4
  rw [e3] at o4
  have kk : Kp h.length h h4 := ((k1.trans (k2.mono k1.1)).trans (k3.mono (Nat.le_trans k1.1 k2.1))).trans (k4.mono (Nat.le_trans k1.1 (Nat.le_trans k2.1 k3.1)))
  have o1' : Own h.length h4 (.sl h.length 3 0 3) 1 (intC .i64 [0, 4, 13]) 3 := ((o1.keepK k2).keepK k3).keepK k4
  have k5 : Kp h4.length h4 (h4 ++ [some (Blk.mk true 1 (intC .i64 [0, 4, 13]))]) := Kp.app _ (Nat.le_refl _)
  have o5 : SlAt (h4 ++ [some (Blk.mk true 1 (intC .i64 [0, 4, 13]))]) (.sl h4.length 3 0 3) 1 (intC .i64 [0, 4, 13]) 3 := SlAt.whole (blk_new _ _) rfl
  obtain ⟨h6, r6, k6⟩ := Text_R hE.c262 hx (y := .sl h4.length 3 0 3) (l := [0, 4, 13]) o5 (.inr (by simp)) (by decide)
  have kk6 : Kp h.length h h6 := (kk.trans (k5.mono kk.1)).trans (k6.mono (Nat.le_trans kk.1 k5.1))
  have o4' : Own H.length h6 z 7 (stepsC ((MV.new sbP 1).runs [0, 0, 0]).st) 2 := ((o4.monoN (Nat.le_trans k2.1 k3.1)).keepK k5).keepK k6
  have a1 : splice (splice (splice [Cell.int .i64 0, Cell.int .i64 0, Cell.int .i64 0] 0 ([(.int .i64 0)] : List Cell)) 1 ([(.int .i64 0)] : List Cell)) 2 ([(.int .i64 0)] : List Cell) = intC .i64 [0, 0, 0] := rfl
  have a2 : splice (splice (splice [Cell.int .i64 0, Cell.int .i64 0, Cell.int .i64 0] 0 ([(.int .i64 0)] : List Cell)) 1 ([(.int .i64 4)] : List Cell)) 2 ([(.int .i64 13)] : List Cell) = intC .i64 [0, 4, 13] := rfl
  refine R_intro hE.fn ?_
  rw [jacquardlaw17_awake_eq, a1, a2, r1, c2_ok, asC_ok, asB_ok, r2, c1_ok, asA_ok, if_pos (by rfl), show (intC .i64 [0, 0, 0]).length = 3 from rfl, r4, c3_ok, asC_ok, asI_ok, asB_ok, scK_ok, o1'.at.len, bind_ok]
  dsimp only
  rw [show (((3 : Nat) : Int) == 3) = true from rfl, scK_ok]
  have g := o1'.at.get1 (i := 2) (by omega) (c := .int .i64 13) rfl (f := fun q_23 => asI .i64 (.c q_23) fun n_24 => some ((n_24 == 13), h4))
  rw [show ((2 : Nat) : Int) = 2 from rfl] at g
  rw [g, asI_ok, bind_ok]
  dsimp only
  rw [show (((13 : Int)) == 13) = true from rfl, scK_ok, if_pos (by rfl), show (intC .i64 [0, 4, 13]).length = 3 from rfl, r6, c1_ok, asS_ok, text_picks, bind_ok]
  dsimp only
  rw [scK_ok, o4'.at.len, bind_ok]
  dsimp only
  rw [show (((2 : Nat) : Int) == 2) = true from rfl, scK_and, scK_and]
  exact finish_gc kk6 (by simp [avOk, AV.cells, idOk])
end
end Jq

/- VmArgs: a machine of no model, or of a program that may not be, is refused. -/
namespace Jq
open Go

def fence : Ins := ⟨3, 0, 0, ⟨0, 0⟩, 0, ⟨0, 0⟩, 0⟩
def fences (i : Nat) : List Ins := List.replicate i fence ++ List.replicate (11 - i) Ins.zero
attribute [local irreducible] fences

section
variable {E : Env}

end
end Jq

/- PlayModels: of no model nothing is played. -/
namespace Jq
open Go

section
variable {E : Env}

theorem nil_nilF {α : Type} {f : Bool → Option α} : eqNilK false .nilp .nilp f = f true := rfl
theorem nil_nilT {α : Type} {f : Bool → Option α} : eqNilK true .nilp .nilp f = f false := rfl

theorem PlayModels_law (hx : Ext17 E) (hE : jacquardlaw17_PlayModels_In E) {h : AHeap} {c0 c1' c2' : List Cell} (o0 : okC h (.sl (.i .i64)) c0) (o1 : okC h (.i .i64) c1') (o2 : okC h (.sl (.i .i64)) c2') :
    ∃ h', R E 426 [av1 (.sl (.i .i64)) c0, av1 (.i .i64) c1', av1 (.sl (.i .i64)) c2'] h = some ([.c (.bool true)], h') := by
  obtain ⟨x, l, ha0, hx0, hlow, _, hml⟩ := arg_ints o0
  obtain ⟨m, ha1, _⟩ := arg_int o1
  obtain ⟨y, ps, ha2, hy, hylow, _, hpl⟩ := arg_ints o2
  obtain ⟨cs, h1, P, r1, p1, g1, g2, g3, k1⟩ := OfP_R hE.c76 hx0 hlow (by unfold maxLen at hml; omega) (most := 6) (by omega)
  have hll : P.locs.length ≤ 1000 := by have := g1.locs; have := g1.init; omega
  have hlen := p1.len
  refine ⟨h1, R_intro hE.fn ?_⟩
  rw [ha0, ha1, ha2, jacquardlaw17_PlayModels_eq, show (6 : Int) = ((6 : Nat) : Int) from rfl, r1, c1_ok, asA_ok, if_pos (by exact ⟨rfl, rfl, hlen⟩), scK_and]
  have aw := awake17_R hE.c261 hx h1
  by_cases hm : 1 ≤ m ∧ m ≤ 3
  · rw [show (decide (m ≥ 1) && decide (m ≤ 3)) = true by simp; omega, scK_tf, if_pos rfl, aw, c1_ok, asB_ok]
  · rw [show (decide (m ≥ 1) && decide (m ≤ 3)) = false by simp; omega, scK_ok, (hy.keep hylow k1).len, bind_ok]
    dsimp only
    by_cases h100 : ps.length > 100
    · rw [if_pos (by simp; omega), aw, c1_ok, asB_ok]
    · have nb := VNew_bad hE.c271.c278.c171 p1 g1.small g3 hll (m := m) (.inl hm)
      have run : R E 278 [.agg cs, .c (.int .i64 m), .c y] h1 = some ([.c .nilp, .c (.int .i64 0)], h1) := by
        refine R_intro hE.c271.c278.fn ?_
        rw [play_run_eq, if_pos (by exact ⟨rfl, hlen⟩), nb, c2_ok, asC_ok, asI_ok, if_pos (by simp)]
      have rr : R E 271 [.agg cs, .c (.int .i64 m), .c y] h1 = some ([.c .nils, .c (.int .i64 0), .c (.bool false)], h1) := by
        refine R_intro hE.c271.fn ?_
        rw [play_Run_eq, if_pos (by exact ⟨rfl, hlen⟩), run, c2_ok, asC_ok, asI_ok, nil_nilF, if_pos rfl]
      have hrep : (List.replicate 20 (Cell.int .i64 0)).length = 20 := List.length_replicate
      have rf : R E 307 [.agg cs, .c (.int .i64 m), .c y] h1 = some ([.agg (List.replicate 20 (.int .i64 0)), .c (.bool false)], h1) := by
        refine R_intro hE.c307.fn ?_
        rw [play_Final_eq, if_pos (by exact ⟨rfl, hlen⟩), run, c2_ok, asC_ok, asI_ok, nil_nilF, scK_tf, scK_tf, if_pos rfl, if_pos ⟨rfl, hrep, hrep⟩, if_pos ⟨rfl, hrep⟩]
      have rm : R E 306 [.agg cs, .c (.int .i64 m), .c y] h1 = some ([.c (.bool false)], h1) := by
        refine R_intro hE.c306.fn ?_
        rw [play_Maximal_eq, if_pos (by exact ⟨rfl, hlen⟩), run, c2_ok, asC_ok, asI_ok, nil_nilT, scK_ft, scK_ft]
      have ra : ∀ g : Nat, R E 429 [.agg cs, .c (.int .i64 m), .c (.fn g [])] h1 = some ([.c .nils], h1) := fun g => by
        refine R_intro hE.c423.c429.fn ?_
        rw [play_always_eq, if_pos (by exact ⟨rfl, hlen⟩), nb, c2_ok, asC_ok, asI_ok, if_pos (by simp)]
      have r1' : R E 423 [.agg cs, .c (.int .i64 m)] h1 = some ([.c .nils], h1) := by
        refine R_intro hE.c423.fn ?_
        rw [play_First_eq, if_pos (by exact ⟨rfl, hlen⟩), ra, c1_ok, asC_ok]
      have r2' : R E 424 [.agg cs, .c (.int .i64 m)] h1 = some ([.c .nils], h1) := by
        refine R_intro hE.c424.fn ?_
        rw [play_Lazy_eq, if_pos (by exact ⟨rfl, hlen⟩), ra, c1_ok, asC_ok]
      have ln : ∀ {α : Type} {f : Int → Option α}, lenK .nils f = f 0 := fun {α f} => rfl
      rw [if_neg (by simp; omega), if_pos (by exact ⟨rfl, hlen⟩), rr, c3_ok, asC_ok, asI_ok, asB_ok, if_pos (by exact ⟨rfl, hlen⟩), rf, c2_ok, asA_ok, asB_ok, if_pos (by exact ⟨rfl, hrep, hrep⟩), ln, show ((0 : Int) == 0) = true from rfl, scK_and, Bool.true_and, scK_and, Bool.true_and, scK_and, show (!false && !false) = true from rfl,
        scK_ok, if_pos (by exact ⟨rfl, hlen⟩), rm, c1_ok, asB_ok, bind_ok]
      dsimp only
      rw [show (!false) = true from rfl, scK_ok, if_pos (by exact ⟨rfl, hlen⟩), r1', c1_ok, asC_ok, ln, bind_ok]
      dsimp only
      rw [show ((0 : Int) == 0) = true from rfl, scK_ok, if_pos (by exact ⟨rfl, hlen⟩), r2', c1_ok, asC_ok, ln, bind_ok]
      dsimp only
      rw [show ((0 : Int) == 0) = true from rfl, scK_ok, aw, c1_ok, asB_ok, bind_ok]
end
end Jq

/- PlayModels: whatever the input the call says true, and each argument reads behind it as before. No conditions. -/
namespace Go.Proofs.YtlfhmbifgdhckaaGreatDoor.LPlayModels
open Go Jq Go.ChangeShapes Go.WideShapes Go.ChangeAt Go.RowKit
set_option linter.unusedVariables false

theorem own : ownKnob Tryz.prog.godebug = none := by kernel_rfl
theorem laidOut : laidOutB Tryz.prog = true := by kernel_rfl

theorem met (os : Os) (args : Array Value) : laidMetH Tryz.prog Rows.playModelsRow.laid ((World.laidAll Tryz.prog os Rows.playModelsRow.laid).forCall (fun _ _ => 0) ⟨#[], args, []⟩).memory := by
  rw [MakeChecks.laidMetH_plain _ _ _ (by kernel_rfl)]
  exact laidMet_laidAll _ (by kernel_rfl) (by kernel_rfl)
set_option maxRecDepth 100000 in
theorem lifted (os : Os) (started : os.Started) (H : Type) (enc : TypeId × Value → H) :
    ReturnsInHanded {} Tryz.checked os 6 .any (fun w args => (Rows.playModelsSpec.pre enc Tryz.prog Tryz.f6 [] false w args ∧ laidMetH Tryz.prog Rows.playModelsRow.laid w) ∧ sizedMet enc Tryz.prog Tryz.f6 (OpenSpec.ofChange Rows.playModelsSpec) false w args) (Rows.playModelsSpec.post enc Tryz.prog Tryz.f6 false true false false) := by
  refine returnsInHanded_of_change_and (C := Tryz.checked) (X := fun w _ => laidMetH Tryz.prog Rows.playModelsRow.laid w) (fun _ _ _ hh h => h.of_heap hh) own started (by kernel_rfl) Tryz.func6
    (ChangeSpec.witness_shaped (enc := enc) (C := Tryz.checked) (os := os) (X := fun w _ => laidMetH Tryz.prog Rows.playModelsRow.laid w) false (World.laidAll Tryz.prog os Rows.playModelsRow.laid) #[.slice none 0 0, .int .i64 0, .slice none 0 0] 8 (World.laidAll_os _ _ _) (World.shaped_of_ZipB (by kernel_rfl) (by kernel_rfl)) (by kernel_rfl) (by kernel_rfl) (by kernel_rfl) (met os _)) ?_
  intro W base args ds gs before hval0 hW _ _ hL _
  have hval : ∀ (j : Nat) t v, Tryz.f6.params[j]? = some t → args[j]? = some v → Value.okWide Tryz.prog W .any base t v := hval0
  have hW' := hW
  obtain ⟨p, q, hA0, hV, rfl, hfz, hnd⟩ := hW
  have hA : DataW.TrodAll enc Tryz.prog W 0 (fun _ => true) true Tryz.f6.params.toList args.toList ds p := hA0
  rw [Tryz.params6] at hA hval
  obtain ⟨v0, vs0, d0, ds0, p0, q0, hargs, rfl, rfl, h0, r0⟩ := trodAll_cons hA
  obtain ⟨v1, vs1, d1, ds1, p1, q1, rfl, rfl, rfl, h1, r1⟩ := trodAll_cons r0
  obtain ⟨v2, vs2, d2, ds2, p2, q2, rfl, rfl, rfl, h2, r2⟩ := trodAll_cons r1
  obtain ⟨rfl, rfl, rfl⟩ := trodAll_nil r2
  obtain rfl : args = #[v0, v1, v2] := by cases args; simp_all
  obtain ⟨rfl, rfl⟩ := trodVars_none hV
  have lt0 : ∀ x ∈ p0, x.block < W.heap.size := by obtain ⟨m, hm⟩ := h0; exact DataW.trod_lt m _ _ _ hm
  have lt1 : ∀ x ∈ p1, x.block < W.heap.size := by obtain ⟨m, hm⟩ := h1; exact DataW.trod_lt m _ _ _ hm
  have lt2 : ∀ x ∈ p2, x.block < W.heap.size := by obtain ⟨m, hm⟩ := h2; exact DataW.trod_lt m _ _ _ hm
  have c := Come.nil (S := seat) (W := W) (fun _ => rfl)
  have k0 : ((.sl (.i .i64)) : Sh).chk seat.P 22 = true := by kernel_rfl
  obtain ⟨b0, ρ0, cs0, c0, e0, x0, a0, o0⟩ := opens_arg (S := seat) (W := W) (sh := (.sl (.i .i64))) k0 h0 (wide_of k0 (hval 0 22 v0 rfl rfl)) ⟨nofun, nofun⟩ c
  have k1 : ((.i .i64) : Sh).chk seat.P 3 = true := by kernel_rfl
  obtain ⟨b1, ρ1, cs1, c1, e1, x1, a1, o1⟩ := opens_arg (S := seat) (W := W) (sh := (.i .i64)) k1 h1 (wide_of k1 (hval 1 3 v1 rfl rfl)) ⟨nofun, nofun⟩ c0
  have k2 : ((.sl (.i .i64)) : Sh).chk seat.P 22 = true := by kernel_rfl
  obtain ⟨b2, ρ2, cs2, c2, e2, x2, a2, o2⟩ := opens_arg (S := seat) (W := W) (sh := (.sl (.i .i64))) k2 h2 (wide_of k2 (hval 2 22 v2 rfl rfl)) ⟨nofun, nofun⟩ c1
  obtain ⟨h', hR⟩ := PlayModels_law (E := env) ext17ok in_426 (okC_mono x2 _ _ (okC_mono x1 _ _ o0)) (okC_mono x2 _ _ o1) o2
  refine (law_call (S := seat) (R_soundX (S := seat) (E := env) rfl allOk extOk) c2 (vals := #[v0, v1, v2]) (L2.cons (relA.mono e2 (relA.mono e1 a0)) (L2.cons (relA.mono e2 a1) (L2.cons a2 L2.nil))) hR).mono fun e W' ⟨he, bel⟩ => ?_
  subst he
  exact ⟨_, rfl, _, _, _, [], _, [], hW', trodAll_mk1 (shut_bool Tryz.underlying4 _), (trodAll_cons_mk (Below.trod laidOut (by kernel_rfl) (of_decide_eq_true (by kernel_rfl)) h0 bel lt0) (trodAll_cons_mk (Below.trod laidOut (by kernel_rfl) (of_decide_eq_true (by kernel_rfl)) h1 bel lt1) (trodAll_cons_mk (Below.trod laidOut (by kernel_rfl) (of_decide_eq_true (by kernel_rfl)) h2 bel lt2) trodAll_mk0))), rfl, bel.frame _, fun h => by cases h⟩

theorem over : Rows.playModelsRow.holds Tryz.pinned (OpenSpec.ofChange Rows.playModelsSpec) :=
  OpenClaim.holds_of_wide 6 Tryz.f6 rfl rfl rfl rfl rfl rfl rfl ⟨rfl, rfl, rfl, rfl, rfl⟩ rfl rfl rfl rfl rfl (by kernel_rfl) Tryz.func6 (by kernel_rfl)
    (of_decide_eq_true (by kernel_rfl)) (by unfold Func.isWrapper; first | (rw [if_pos (by decide +kernel)]; kernel_rfl) | (rw [if_neg (by decide +kernel)]; exact ⟨rfl, rfl⟩))
    (fun os started H enc _ => lifted os started H enc)

theorem proved : Rows.PlayModelsCardSaid :=
  Claim7.holds_tied_plain_at .later [] [.data, .data, .data, .data, .pinned] true (true, "13002eebc8ed8af3f8bed9544724ae5cf173fb17b4ca3f4061b822a2b14d4123") false
    over (fun _ h => by cases h) (by kernel_rfl) (fun _ h => by cases h) playModels_row_tie rfl ⟨rfl, rfl⟩ (by kernel_rfl) rfl
    (fun f fn hf hfn => by
      obtain rfl : f = 6 := Option.some.inj ((show Tryz.prog.funcNamed "jacquard/jacquardlaw17.PlayModels" = some 6 by kernel_rfl).symm.trans hf) |>.symm
      obtain rfl : fn = Tryz.f6 := (Option.some.inj (Tryz.func6.symm.trans hfn)).symm
      exact ⟨by kernel_rfl, fun j t ht => by
        rw [Tryz.params6] at ht
        have hm : t ∈ [22, 3, 22] := by simpa using Array.mem_of_getElem? ht
        have hall : ([22, 3, 22].all fun u => !Tryz.prog.wantsStandIn u) = true := by kernel_rfl
        exact (show Tryz.prog.wantsStandIn t = false by simpa using List.all_eq_true.1 hall t hm)⟩)
    (by kernel_rfl)
#print axioms proved

end Go.Proofs.YtlfhmbifgdhckaaGreatDoor.LPlayModels

