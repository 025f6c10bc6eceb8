/- YtkgaeiihabibmaaSleepSwapsD: a part of the proof; no conditions of its own. -/
import Derived.KernelRfl
import Derived.Test.YtkgaeiihabibmaaRows
import Derived.WalkKit
import Derived.ProofKit
import Derived.OpenShut
import Derived.ShutString
import Derived.ChangeOld
import Derived.Below
import Derived.Carry
import Derived.Test.YtkgaeiihabibmaaSleepSwapsC
set_option linter.unusedVariables false
set_option linter.unusedSimpArgs false

/- Any row of picks: each may be picked where it stands, and it goes on as long as something may. -/
namespace Jq
open Go

/-- Each pick of the row may be picked where it stands. -/
def MV.whole (V : MV) (l : List Int) : Prop := (V.runG l).2 = l.length
/-- Where the row comes to. -/
def MV.runs (V : MV) (l : List Int) : MV := (V.runG l).1

theorem MV.whole_take {V : MV} {l : List Int} (hw : V.whole l) (i : Nat) : V.whole (l.take i) := by
  have : ∀ (l : List Int) (V : MV), V.whole l → ∀ i, V.whole (l.take i) := by
    intro l
    induction l with
    | nil => intro V _ i; rw [List.take_nil]; rfl
    | cons p ps ih =>
      intro V hw i
      cases i with
      | zero => rfl
      | succ i =>
        rw [List.take_succ_cons]
        unfold MV.whole at hw ⊢
        unfold MV.runG at hw ⊢
        by_cases h : mayI V p = true
        · rw [if_pos h] at hw ⊢
          have := ih (V.nx p.toNat) (by unfold MV.whole; simp only [List.length_cons] at hw; omega) i
          unfold MV.whole at this
          dsimp only
          rw [this, List.length_cons]
        · rw [if_neg h] at hw
          simp at hw
  exact this l V hw i

theorem MV.runs_inv {V : MV} (v : V.Inv) (l : List Int) : (V.runs l).Inv ∧ (V.runs l).P = V.P ∧ (V.runs l).m = V.m := ⟨(MV.runG_inv v l).1, (MV.runG_inv v l).2.1, (MV.runG_inv v l).2.2.1⟩
theorem MV.runs_st {V : MV} (v : V.Inv) {l : List Int} (hw : V.whole l) : (V.runs l).st.length = V.st.length + l.length := by
  have := (MV.runG_inv v l).2.2.2.1
  unfold MV.whole at hw
  unfold MV.runs
  omega

/-- One of those that may be picked, told as long as the row stands. -/
theorem chooseR {V : MV} {y : Cell} {n : Nat} {h : AHeap} (o : Own n h y 1 (natC (bitsL V.word)) (bitsL V.word).length) {v : Int} (h0 : 0 ≤ v) (h1 : v < (bitsL V.word).length) :
    ∃ i : Nat, V.may i = true ∧ ∀ h', (∀ j b, isBlk y j → blk? h j = some b → blk? h' j = some b) → ∀ {α : Type} (f : Cell → Option α), (idxSK 1 y v fun k N o => rdH h' k N fun l => atK l o f) = f (.int .i64 (i : Int)) := by
  obtain ⟨q, rfl⟩ := Int.eq_ofNat_of_zero_le h0
  have hq : q < (bitsL V.word).length := by omega
  have hg := List.getElem?_eq_getElem hq
  exact ⟨(bitsL V.word)[q], bits_may hg, fun h' hf α f => (o.via hf).at.get1 hq (natC_get hg)⟩

/-- A row of numbers is apart from a machine. -/
theorem RvAt.apart {n k : Nat} {h : AHeap} {x : Cell} {bs pc : List Cell} {V : MV} (a : RvAt n h k x bs pc V) {n1 len : Nat} {y : Cell} {cs : List Cell} (o : Own n1 h y 1 cs len) {j : Nat} (hj : isBlk y j) : j ≠ k ∧ ¬ isBlk x j ∧ ∀ t, t < 4 → ¬ isBlk (bs.getD t .nils) j := by
  have h1 := o.has hj
  refine ⟨fun e => ?_, fun q => ?_, fun t ht q => ?_⟩
  · rw [e, a.blk] at h1
    have := (Blk.mk.inj (Option.some.inj h1)).2.1
    omega
  · rw [a.st.has q] at h1
    have := (Blk.mk.inj (Option.some.inj h1)).2.1
    omega
  · rw [(a.bf t ht).1.has q] at h1
    have := (Blk.mk.inj (Option.some.inj h1)).2.1
    omega

section
variable {E : Env}

set_option maxHeartbeats 2000000 in
theorem Any_R (hE : jacquardlaw17_Any_In E) {h : AHeap} {pc : List Cell} {P : PProg} (p : ProgAt h pc P) (hg : P.good) (h4 : P.thr.length ≤ 4) (hil : P.init.length ≤ 4) {m : Int} (hm : 1 ≤ m ∧ m ≤ 3) (inv : (MV.new P m).Inv) {y : Cell} {ps : List Int} (hy : SlAt h y 1 (intC .i64 ps) ps.length) (hlow : Low h.length y) :
    ∃ z row h', R E 254 [.agg pc, .c (.int .i64 m), .c y] h = some ([.c z], h') ∧ Own h.length h' z 1 (intC .i64 row) row.length ∧ Kp h.length h h' ∧ (MV.new P m).whole row ∧ row.length ≤ 60 ∧ (row.length = 60 ∨ ((MV.new P m).runs row).word = 0) := by
  have hM : maxBytes ≥ 1000 * 8 := by unfold maxBytes; omega
  obtain ⟨h1, r1, a1, k1⟩ := rNew_R hE.c180 p hg h4 hil hm
  obtain ⟨e, he, hQ⟩ := Lim_fallN (F := jacquardlaw17_Any_F1 (R E) Lim E.glob)
    (fun q st => ∃ (row : List Int) (z zs : Cell) (bs : List Cell) (h' : AHeap), q = 60 - row.length ∧ row.length ≤ 60 ∧ st = jacquardlaw17_Any_s1 y (.ptr h.length 37 0) z (row.length : Int) h' ∧ (MV.new P m).whole row ∧ RvAt h.length h' h.length zs bs pc ((MV.new P m).runs row) ∧ Own h.length h' z 1 (intC .i64 row) row.length ∧ Kp h.length h h')
    (fun e => ∃ (row : List Int) (z : Cell) (h' : AHeap), (e = (.ret, jacquardlaw17_Any_x1_0 z h') ∨ e = (.exit 0, jacquardlaw17_Any_x1_1 z h')) ∧ Own h.length h' z 1 (intC .i64 row) row.length ∧ Kp h.length h h' ∧ (MV.new P m).whole row ∧ row.length ≤ 60 ∧ (row.length = 60 ∨ ((MV.new P m).runs row).word = 0))
    (fun q st hI => by
      obtain ⟨row, z, zs, bs, h', rfl, hr60, rfl, hw, a, oz, kk⟩ := hI
      by_cases h60 : row.length < 60
      · obtain ⟨v, vP, vm⟩ := MV.runs_inv inv row
        have vst := MV.runs_st inv hw
        rw [show (MV.new P m).st.length = 0 from rfl, Nat.zero_add] at vst
        generalize hV : (MV.new P m).runs row = V at *
        have hg' : V.P.good := by rw [vP]; exact hg
        obtain ⟨x6, h4, r4, o4, k4⟩ := rEnabled_R hE.c181 a v.fit hg'
        have a4 := a.keep k4
        have oz4 := oz.keepK k4
        have kk4 : Kp h.length h h4 := kk.trans (k4.mono kk.1)
        by_cases h0 : (bitsL V.word).length = 0
        · refine .inr ⟨_, ?_, (by simp : Ex.ret ≠ .normal), row, z, h4, .inl rfl, oz4, kk4, hw, hr60, .inr (by rw [hV]; exact bits_none.1 h0)⟩
          rw [jacquardlaw17_Any_r1, if_pos (by simp; omega), r4, c1_ok, asC_ok, o4.at.len, if_pos (by rw [h0]; rfl)]
        · refine .inl ?_
          -- behind the choice
          have last : ∀ i : Nat, V.may i = true → ∃ h7 z9 h9 zs7, R E 182 [.c (.ptr h.length 37 0), .c (.int .i64 (i : Int))] h4 = some ([.agg (V.stp i).cs, .c (.bool true)], h7) ∧ (∀ j b, isBlk x6 j → blk? h4 j = some b → blk? h7 j = some b) ∧
              (∀ {α : Type} (f : Cell → AHeap → Option α), appK 1 8 z (splice [Cell.int .i64 0] 0 ([(.int .i64 (i : Int))] : List Cell)) h7 f = f z9 h9) ∧
              (∃ (row' : List Int) (zs : Cell) (bs : List Cell), row'.length = row.length + 1 ∧ (MV.new P m).whole row' ∧ RvAt h.length h9 h.length zs bs pc ((MV.new P m).runs row') ∧ Own h.length h9 z9 1 (intC .i64 row') row'.length ∧ Kp h.length h h9) ∧ zs7 = zs := by
            intro i hi
            obtain ⟨zs7, bs7, h7, r7, a7, k7⟩ := rPick_R hE.c182 a4 v hg' (by omega) hi
            have oz7 : Own h.length h7 z 1 (intC .i64 row) row.length := oz4.via fun j b q1 q2 => (k7.old j b q2 (a4.apart oz4 q1).1 (a4.apart oz4 q1).2.1).1
            have kk7 := kk4.trans k7.kp
            obtain ⟨z9, h9, e9, o9, k9, s9⟩ := oz7.app (bytes := 8) (xs := [.int .i64 (i : Int)]) kk7.1 rfl (by omega) (by omega) (by omega)
            have rs : (MV.new P m).runG (row ++ [(i : Int)]) = (V.nx i, row.length + 1) := by
              have := MV.runG_snoc row (MV.new P m) i hw (by rw [show ((MV.new P m).runG row).1 = V from hV]; exact hi)
              rw [this, show ((MV.new P m).runG row).1 = V from hV]
            refine ⟨h7, z9, h9, zs, r7, fun j b q1 q2 => (k7.old j b q2 (a4.apart o4 q1).1 (a4.apart o4 q1).2.1).1, fun f => e9 f, ⟨row ++ [(i : Int)], zs7, bs7, by simp, ?_, ?_, ?_, kk7.trans k9⟩, rfl⟩
            · unfold MV.whole; rw [rs]; simp
            · unfold MV.runs; rw [rs]
              have hl : h7.length ≤ h9.length := k9.1
              refine a7.other hl k9 fun j b q1 q2 => (s9 j b q1 (fun q => ?_)).1
              have ap := a7.apart oz7 q
              rcases q2 with q2 | q2 | ⟨t, ht, q2⟩
              · exact ap.1 q2
              · exact ap.2.1 q2
              · exact ap.2.2 t ht q2
            · rw [intC_snoc, List.length_append, List.length_singleton]; exact o9
          have hy4 := hy.keep hlow kk4
          have hlen : (bitsL V.word).length ≤ 64 := bits_len V.word
          by_cases hp : row.length < ps.length
          · have hq := List.getElem?_eq_getElem hp
            generalize ps[row.length] = pq at hq
            have hb := g_band16 (E := E) (x := pq)
            have hrng := rem_rng (E := E) (x := E.glob.band .i64 pq 65535) (m := ((bitsL V.word).length : Int)) hb.1 (by omega)
            obtain ⟨i, hi, hch⟩ := chooseR o4 hrng.1 hrng.2
            obtain ⟨h7, z9, h9, zs7, r7, kx, e9, ⟨row', zs', bs', hl', hw', a', o', kk'⟩, _⟩ := last i hi
            refine ⟨jacquardlaw17_Any_s1 y (.ptr h.length 37 0) z9 (row'.length : Int) h9, 60 - row'.length, ?_, ⟨row', z9, zs', bs', h9, rfl, by omega, rfl, hw', a', o', kk'⟩, by omega⟩
            rw [jacquardlaw17_Any_r1, if_pos (by simp; omega), r4, c1_ok, asC_ok, o4.at.len, if_neg (by rw [beq_iff_eq]; omega), hy4.len, if_pos (by simp; omega), hy4.get1 hp (intC_get hq), asI_ok, o4.at.len, if_neg (by omega)]
            dsimp only
            rw [hch h4 (fun _ _ _ q => q), asI_ok, r7, c2_ok, asA_ok, asB_ok, o4.at.len, if_neg (by omega), hch h7 kx, asI_ok, if_pos (by rfl), e9, g_succ (by omega), hl']
          · have hb : E.glob.wrap .i64 ((row.length : Int) * 3) = (row.length : Int) * 3 := g_wrap_i64 (by omega) (by omega)
            have hrng := rem_rng (E := E) (x := (row.length : Int) * 3) (m := ((bitsL V.word).length : Int)) (by omega) (by omega)
            obtain ⟨i, hi, hch⟩ := chooseR o4 hrng.1 hrng.2
            obtain ⟨h7, z9, h9, zs7, r7, kx, e9, ⟨row', zs', bs', hl', hw', a', o', kk'⟩, _⟩ := last i hi
            refine ⟨jacquardlaw17_Any_s1 y (.ptr h.length 37 0) z9 (row'.length : Int) h9, 60 - row'.length, ?_, ⟨row', z9, zs', bs', h9, rfl, by omega, rfl, hw', a', o', kk'⟩, by omega⟩
            rw [jacquardlaw17_Any_r1, if_pos (by simp; omega), r4, c1_ok, asC_ok, o4.at.len, if_neg (by rw [beq_iff_eq]; omega), hy4.len, if_neg (by simp; omega), o4.at.len, if_neg (by omega), hb, hch h4 (fun _ _ _ q => q), asI_ok, r7, c2_ok, asA_ok, asB_ok, o4.at.len, if_neg (by omega), hch h7 kx, asI_ok, if_pos (by rfl), e9, g_succ (by omega), hl']
      · refine .inr ⟨_, ?_, (by simp : Ex.exit 0 ≠ .normal), row, z, h', .inr rfl, oz, kk, hw, hr60, .inl (by omega)⟩
        rw [jacquardlaw17_Any_r1, if_neg (by simp; omega)])
    (k := 60) (st := jacquardlaw17_Any_s1 y (.ptr h.length 37 0) .nils ((([] : List Int).length : Nat) : Int) h1)
    ⟨[], .nils, .nils, [.nils, .nils, .nils, .nils], h1, rfl, by simp, rfl, rfl, a1, Own.nil _ _ _, k1⟩
  obtain ⟨row, z, h', hcase, o, kk, hw, h60, hend⟩ := hQ
  refine ⟨z, row, h', R_intro hE.fn ?_, o, kk, hw, h60, hend⟩
  rw [jacquardlaw17_Any_eq, if_pos (by exact ⟨rfl, p.len⟩), r1, c1_ok, asC_ok]
  rw [show ((([] : List Int).length : Nat) : Int) = 0 from rfl] at he
  rw [he, bind_ok]
  rcases hcase with rfl | rfl
  · dsimp only
    rw [jacquardlaw17_Any_e1_0]
  · dsimp only
    rw [jacquardlaw17_Any_e1_1]
end
end Jq

/- Machines: what a run's steps tell. -/

namespace Jq
open Go

/-- What a thread's step is. -/
structure ThrStep (V : MV) (i : Nat) (s : Stp) : Prop where
  t : s.t = (i : Int)
  kind : 1 ≤ s.kind ∧ s.kind ≤ 5
  loc : 0 ≤ s.loc ∧ s.loc < 4
  free : s.kind = 3 ∨ s.kind = 4 ∨ s.kind = 5 → V.b i = []
  read : s.kind = 1 ∨ s.kind = 4 ∨ s.kind = 5 → s.r = (match newE s.loc (V.b i) with | some e => e.val | none => V.mem.getD s.loc.toNat 0) ∧ s.frm = (match newE s.loc (V.b i) with | some e => e.id | none => V.frm.getD s.loc.toNat 0)
  b : ∀ t, (V.nx i).b t = if t = i ∧ isSt V.m s = true then V.b i ++ [⟨s.loc, s.w, V.st.length⟩] else V.b t
  mem : ∀ c, (V.nx i).mem.getD c 0 = if (s.kind = 4 ∨ (s.kind = 2 ∧ V.m = 1)) ∧ c = s.loc.toNat then s.w else V.mem.getD c 0
  frm : ∀ c, (V.nx i).frm.getD c 0 = if (s.kind = 4 ∨ (s.kind = 2 ∧ V.m = 1)) ∧ c = s.loc.toNat then (V.st.length : Int) else V.frm.getD c 0

theorem evOf_cases (q : Ins) (l : Lcl) (v : Int) (hk : 1 ≤ q.kind ∧ q.kind ≤ 4) : ((evOf q l v).kind = 3 ↔ q.kind = 3) ∧ (((evOf q l v).kind = 4 ∨ (evOf q l v).kind = 5) ↔ q.kind = 4) ∧ ((evOf q l v).kind = 1 ↔ q.kind = 2) ∧ ((evOf q l v).kind = 1 ∨ (evOf q l v).kind = 4 ∨ (evOf q l v).kind = 5 → (evOf q l v).r = v ∧ (evOf q l v).loc = q.loc ∧ rdI q = true) := by
  unfold evOf
  by_cases h1 : q.kind = 1
  · rw [if_pos h1]; dsimp only; refine ⟨by omega, by omega, by omega, fun h => by omega⟩
  · rw [if_neg h1]
    by_cases h2 : q.kind = 2
    · rw [if_pos h2]; dsimp only; exact ⟨by omega, by omega, by omega, fun _ => ⟨rfl, rfl, by unfold rdI; exact decide_eq_true (.inl h2)⟩⟩
    · rw [if_neg h2]
      by_cases h4 : q.kind = 4
      · rw [if_pos h4]
        have hr : rdI q = true := by unfold rdI; exact decide_eq_true (.inr h4)
        split <;> exact ⟨by dsimp only; omega, by dsimp only; omega, by dsimp only; omega, fun _ => ⟨rfl, rfl, hr⟩⟩
      · rw [if_neg h4]; dsimp only; exact ⟨by omega, by omega, by omega, fun h => by omega⟩

theorem MV.Inv.thr_step {V : MV} (v : V.Inv) {i : Nat} (h4 : i < 4) (hi : V.may i = true) : ThrStep V i (V.stp i) := by
  have f := v.fit
  have hq := MV.may_thr h4 hi
  have hS : V.stp i = { V.thrS i (V.thrI i) with pick := i } := by unfold MV.stp; rw [if_pos h4]
  have hN : V.nx i = { V.thrM i (V.thrI i) with st := V.st ++ [V.stp i] } := by unfold MV.nx; rw [if_pos h4]
  have hB := v.thrB h4 (V.thrI i)
  generalize hqq : V.thrI i = q at *
  obtain ⟨q1, q2, q3, q4, q5⟩ := v.nxt hq
  have hfree : q.kind = 3 ∨ q.kind = 4 → V.b i = [] := fun h => by
    unfold MV.may MV.mayT at hi
    rw [if_pos h4, hq] at hi
    dsimp only at hi
    have : (q.kind == 3 || q.kind == 4) = true := by rw [Bool.or_eq_true, beq_iff_eq, beq_iff_eq]; exact h
    rw [this] at hi
    simpa using hi
  obtain ⟨e1, e2, e3, e4⟩ := evOf_cases q (V.l i) (V.val i q).1 q2
  have hev := evOf_loc (l := V.l i) (v := (V.val i q).1) q1
  have hkk := evOf_kinds q (V.l i) (V.val i q).1
  generalize hee : evOf q (V.l i) (V.val i q).1 = e at *
  have eS : V.stp i = ⟨i, i, e.kind, e.loc, e.r, e.w, if rdI q = true then (V.val i q).2 else -1⟩ := by
    rw [hS]; unfold MV.thrS; rw [hee]
  have hW : ∀ W : MV, W = V.wr i e → ∀ c, W.mem.getD c 0 = (if (e.kind = 4 ∨ (e.kind = 2 ∧ V.m = 1)) ∧ c = e.loc.toNat then e.w else V.mem.getD c 0) ∧ W.frm.getD c 0 = (if (e.kind = 4 ∨ (e.kind = 2 ∧ V.m = 1)) ∧ c = e.loc.toNat then (V.st.length : Int) else V.frm.getD c 0) := by
    rintro W rfl c
    unfold MV.wr
    by_cases h2 : e.kind = 2 ∧ V.m ≠ 1
    · rw [if_pos h2, if_neg (fun q => by omega), if_neg (fun q => by omega)]
      exact ⟨rfl, rfl⟩
    · rw [if_neg h2]
      by_cases hw : evWr e = true
      · have hw' : e.kind = 2 ∨ e.kind = 4 := by unfold evWr at hw; simpa using hw
        rw [if_pos hw]
        dsimp only
        rw [getDset (by rw [f.mem]; omega), getDset (by rw [f.frm]; omega)]
        by_cases hc : c = e.loc.toNat
        · rw [if_pos hc, if_pos hc, if_pos ⟨by omega, hc⟩, if_pos ⟨by omega, hc⟩]; exact ⟨rfl, rfl⟩
        · rw [if_neg hc, if_neg hc, if_neg (fun q => hc q.2), if_neg (fun q => hc q.2)]; exact ⟨rfl, rfl⟩
      · have hw' : ¬ (e.kind = 2 ∨ e.kind = 4) := by unfold evWr at hw; simpa using hw
        rw [if_neg hw, if_neg (fun q => by omega), if_neg (fun q => by omega)]
        exact ⟨rfl, rfl⟩
  refine ⟨by rw [eS], by rw [eS]; exact hkk, by rw [eS]; exact hev, fun h => ?_, fun h => ?_, fun t => ?_, fun c => ?_, fun c => ?_⟩
  · rw [eS] at h
    dsimp only at h
    refine hfree ?_
    rcases h with h | h
    · exact .inl (e1.1 h)
    · exact .inr (e2.1 h)
  · rw [eS] at h ⊢
    dsimp only at h ⊢
    obtain ⟨k1, k2, k3⟩ := e4 h
    rw [k3, if_pos rfl, k1, k2]
    unfold MV.val
    cases newE q.loc (V.b i) <;> exact ⟨rfl, rfl⟩
  · rw [hN]
    show (V.thrM i q).b t = _
    rw [hB, eS]
    have hiff : isSt V.m ⟨i, i, e.kind, e.loc, e.r, e.w, if rdI q = true then (V.val i q).2 else -1⟩ = true ↔ (e.kind = 2 ∧ V.m ≠ 1) := by
      unfold isSt
      rw [Bool.and_eq_true, beq_iff_eq, bne_iff_ne]
    by_cases hc : t = i ∧ e.kind = 2 ∧ V.m ≠ 1
    · rw [if_pos hc, if_pos ⟨hc.1, hiff.2 hc.2⟩]
    · rw [if_neg hc, if_neg (fun q => hc ⟨q.1, hiff.1 q.2⟩)]
  · rw [hN, eS]
    show (V.thrM i q).mem.getD c 0 = _
    unfold MV.thrM
    rw [hee]
    exact (hW (V.wr i e) rfl c).1
  · rw [hN, eS]
    show (V.thrM i q).frm.getD c 0 = _
    unfold MV.thrM
    rw [hee]
    exact (hW (V.wr i e) rfl c).2

/-- What a flush's step is. -/
structure FluStep (V : MV) (i : Nat) (s : Stp) (t : Nat) (p : Ent → Bool) (e : Ent) : Prop where
  t4 : t < 4
  s : s = ⟨i, t, 6, e.loc, 0, e.val, e.id⟩
  f : (V.b t).find? p = some e
  pe : ∀ x, p x = (decide (V.m = 2) || x.loc == e.loc)
  m : V.m = 2 ∨ V.m = 3
  b : ∀ t', (V.nx i).b t' = if t' = t then (V.b t).eraseP p else V.b t'
  mem : ∀ c, (V.nx i).mem.getD c 0 = if c = e.loc.toNat then e.val else V.mem.getD c 0
  frm : ∀ c, (V.nx i).frm.getD c 0 = if c = e.loc.toNat then e.id else V.frm.getD c 0

/-- Stores that wait, and what has come to memory. -/
structure Hist (V : MV) : Prop where
  ids : ∀ t, (V.b t).Pairwise fun a b => a.id < b.id
  ent : ∀ t, ∀ e ∈ V.b t, ∃ k : Nat, e.id = (k : Int) ∧ ∃ s, V.st[k]? = some s ∧ s.kind = 2 ∧ s.t = (t : Int) ∧ s.loc = e.loc ∧ s.w = e.val ∧ ∀ (j : Nat) (u : Stp), V.st[j]? = some u → u.kind = 6 → u.frm ≠ e.id
  sto : ∀ (k : Nat) (s : Stp), V.st[k]? = some s → isSt V.m s = true → (∃ t : Nat, s.t = (t : Int) ∧ ∃ e ∈ V.b t, e.id = (k : Int)) ∨ ∃ (j : Nat) (u : Stp), k < j ∧ V.st[j]? = some u ∧ u.kind = 6 ∧ u.frm = (k : Int)
  flu : ∀ (j : Nat) (u : Stp), V.st[j]? = some u → u.kind = 6 → 0 ≤ u.t ∧ ∀ t : Nat, u.t = (t : Int) → ∀ e ∈ V.b t, (V.m = 3 → e.loc = u.loc) → u.frm < e.id
  b4 : ∀ t, 4 ≤ t → V.b t = []
  own : V.m = 1 → ∀ t, V.b t = []
  len : ∀ (k : Nat) (s : Stp), V.st[k]? = some s → s.kind = 6 → ∃ f : Nat, s.frm = (f : Int) ∧ f < k

theorem Hist.new (P : PProg) (m : Int) : Hist (MV.new P m) := by
  have hs : ∀ (k : Nat) (s : Stp), (MV.new P m).st[k]? = some s → False := fun k s h => by
    have : (MV.new P m).st = [] := rfl
    rw [this] at h; simp at h
  refine ⟨fun t => by rw [new_b]; exact List.Pairwise.nil, fun t e he => by rw [new_b] at he; simp at he, fun k s h => (hs k s h).elim, fun k s h => (hs k s h).elim, fun t _ => new_b P m t, fun _ t => new_b P m t, fun k s h => (hs k s h).elim⟩

end Jq

/- Steps that do not clash may change places. -/
namespace Jq
open Go

def pr (e : Ent) : Int × Int := (e.loc, e.val)
def BQ (V : MV) (t : Nat) : List (Int × Int) := (V.b t).map pr
def MQ (V : MV) (c : Nat) : Int := V.mem.getD c 0
def nwQ (c : Int) (l : List (Int × Int)) : Option (Int × Int) := l.reverse.find? fun p => p.1 == c
def qv (V : MV) (t : Nat) (q : Ins) : Int := match nwQ q.loc (BQ V t) with
  | some p => p.2
  | none => MQ V q.loc.toNat

theorem nwQ_cons (c : Int) (a : Int × Int) (l : List (Int × Int)) : nwQ c (a :: l) = match nwQ c l with | some x => some x | none => if a.1 = c then some a else none := by
  unfold nwQ
  rw [List.reverse_cons, List.find?_append]
  cases hl : l.reverse.find? fun p => p.1 == c with
  | some x => rfl
  | none =>
    dsimp only
    rw [List.find?_cons, List.find?_nil]
    by_cases h : a.1 = c
    · rw [if_pos h, h, beq_self_eq_true]; rfl
    · rw [if_neg h, beq_false_of_ne h]; rfl

theorem nwQ_map (c : Int) (l : List Ent) : nwQ c (l.map pr) = (newE c l).map pr := by
  induction l with
  | nil => rfl
  | cons a l ih =>
    rw [List.map_cons, nwQ_cons, ih]
    have : newE c (a :: l) = match newE c l with | some x => some x | none => if a.loc = c then some a else none := by
      unfold newE
      rw [List.reverse_cons, List.find?_append]
      cases hl : l.reverse.find? fun p => p.loc == c with
      | some x => rfl
      | none =>
        dsimp only
        rw [List.find?_cons, List.find?_nil]
        by_cases h : a.loc = c
        · rw [if_pos h, h, beq_self_eq_true]; rfl
        · rw [if_neg h, beq_false_of_ne h]; rfl
    rw [this]
    cases newE c l with
    | some x => rfl
    | none =>
      dsimp only [Option.map_none]
      by_cases h : a.loc = c
      · rw [if_pos h, if_pos (show (pr a).1 = c from h)]; rfl
      · rw [if_neg h, if_neg (show ¬ (pr a).1 = c from h)]; rfl

theorem qv_val (V : MV) (t : Nat) (q : Ins) : qv V t q = (V.val t q).1 := by
  unfold qv BQ MV.val
  rw [nwQ_map]
  cases newE q.loc (V.b t) <;> rfl

/-- What a thread's pick does. -/
structure TE (V : MV) (i : Nat) (q : Ins) (e : Evt) : Prop where
  n : nextI (V.P.code i) (V.l i) = some q
  free : q.kind = 3 ∨ q.kind = 4 → BQ V i = []
  ev : e = evOf q (V.l i) (qv V i q)
  kind : (V.stp i).kind = e.kind
  t : (V.stp i).t = (i : Int)
  loc : (V.stp i).loc = e.loc
  r : (V.stp i).r = e.r
  w : (V.stp i).w = e.w
  pick : (V.stp i).pick = (i : Int)
  k4 : 1 ≤ q.kind ∧ q.kind ≤ 4
  l4 : 0 ≤ e.loc ∧ e.loc < 4
  l : ∀ t, (V.nx i).l t = if t = i then afterL (V.P.code i) (V.l i) (qv V i q) else V.l t
  b : ∀ t, BQ (V.nx i) t = if t = i ∧ e.kind = 2 ∧ V.m ≠ 1 then BQ V i ++ [(e.loc, e.w)] else BQ V t
  mem : ∀ c, MQ (V.nx i) c = if wrS (V.stp i) V.m = true ∧ c = (V.stp i).loc.toNat then (V.stp i).w else MQ V c

theorem may_thr_iff {V : MV} {i : Nat} (h4 : i < 4) : V.may i = true ↔ ∃ q, nextI (V.P.code i) (V.l i) = some q ∧ (q.kind = 3 ∨ q.kind = 4 → BQ V i = []) := by
  unfold MV.may MV.mayT MV.nxt BQ
  rw [if_pos h4]
  cases hn : nextI (V.P.code i) (V.l i) with
  | none => simp
  | some q =>
    dsimp only
    constructor
    · intro h
      refine ⟨q, rfl, fun hk => ?_⟩
      have : (q.kind == 3 || q.kind == 4) = true := by rw [Bool.or_eq_true, beq_iff_eq, beq_iff_eq]; exact hk
      rw [this] at h
      have : V.b i = [] := by simpa using h
      rw [this]; rfl
    · rintro ⟨q', hq, hb⟩
      cases hq
      by_cases hk : q.kind = 3 ∨ q.kind = 4
      · have := hb hk
        rw [List.map_eq_nil_iff] at this
        rw [this]; simp
      · have : (q.kind == 3 || q.kind == 4) = false := by rw [← Bool.not_eq_true, Bool.or_eq_true, beq_iff_eq, beq_iff_eq]; exact hk
        rw [this]; rfl

theorem MV.Inv.te {V : MV} (v : V.Inv) {i : Nat} (h4 : i < 4) (hi : V.may i = true) : ∃ q, TE V i q (evOf q (V.l i) (qv V i q)) := by
  have hq := MV.may_thr h4 hi
  have T := v.thr_step h4 hi
  obtain ⟨q', hq', hfree⟩ := (may_thr_iff h4).1 hi
  have hqn : nextI (V.P.code i) (V.l i) = some (V.thrI i) := hq
  rw [hqn] at hq'
  cases hq'
  obtain ⟨q1, q2, q3, q4, q5⟩ := v.nxt hq
  have hS : V.stp i = { V.thrS i (V.thrI i) with pick := i } := by unfold MV.stp; rw [if_pos h4]
  have hv := qv_val V i (V.thrI i)
  have hk : (V.stp i).kind = (evOf (V.thrI i) (V.l i) (qv V i (V.thrI i))).kind := by rw [hS, hv]; rfl
  have hl : (V.stp i).loc = (evOf (V.thrI i) (V.l i) (qv V i (V.thrI i))).loc := by rw [hS, hv]; rfl
  have hw : (V.stp i).w = (evOf (V.thrI i) (V.l i) (qv V i (V.thrI i))).w := by rw [hS, hv]; rfl
  refine ⟨V.thrI i, hqn, hfree, rfl, hk, T.t, hl, by rw [hS, hv]; rfl, hw, rfl, q2, evOf_loc q1, fun t => ?_, fun t => ?_, fun c => ?_⟩
  · have e2 : (V.nx i).l t = (V.thrM i (V.thrI i)).l t := by unfold MV.nx; rw [if_pos h4]; rfl
    rw [e2, v.thrL h4, hv]
  · unfold BQ
    rw [T.b]
    have hiff : isSt V.m (V.stp i) = true ↔ ((evOf (V.thrI i) (V.l i) (qv V i (V.thrI i))).kind = 2 ∧ V.m ≠ 1) := by
      unfold isSt
      rw [Bool.and_eq_true, beq_iff_eq, bne_iff_ne, hk]
    by_cases hc : t = i ∧ (evOf (V.thrI i) (V.l i) (qv V i (V.thrI i))).kind = 2 ∧ V.m ≠ 1
    · rw [if_pos ⟨hc.1, hiff.2 hc.2⟩, if_pos hc, List.map_append, ← hl, ← hw]; rfl
    · rw [if_neg (fun q => hc ⟨q.1, hiff.1 q.2⟩), if_neg hc]
  · unfold MQ
    rw [T.mem]
    have hkk := T.kind
    have hwr : wrS (V.stp i) V.m = true ↔ ((V.stp i).kind = 4 ∨ ((V.stp i).kind = 2 ∧ V.m = 1)) := by
      unfold wrS
      simp
      omega
    by_cases hc : ((V.stp i).kind = 4 ∨ ((V.stp i).kind = 2 ∧ V.m = 1)) ∧ c = (V.stp i).loc.toNat
    · rw [if_pos hc, if_pos ⟨hwr.2 hc.1, hc.2⟩]
    · rw [if_neg hc, if_neg (fun q => hc ⟨hwr.1 q.1, q.2⟩)]

/-- Whose flush, and of which. -/
def ftQ (m : Int) (f : Nat) : Nat := if m = 2 then f - 4 else (f - 8) / 4
def fpQ (m : Int) (f : Nat) (x : Int × Int) : Bool := decide (m = 2) || x.1 == (((f - 8) % 4 : Nat) : Int)
def fOk (m : Int) (f : Nat) : Prop := (m = 2 ∧ f < 8) ∨ (m = 3 ∧ 8 ≤ f ∧ f < 24)

theorem fp_old {m : Int} {f : Nat} (h : fOk m f) (e : Ent) : oldP (bmod m) (if f < 8 then 0 else (((f - 8) % 4 : Nat) : Int)) e = fpQ m f (pr e) := by
  rcases h with ⟨h, h8⟩ | ⟨h, h8, _⟩
  · subst h; rfl
  · subst h; rw [if_neg (by omega)]; rfl

theorem may_flu_iff {V : MV} {f : Nat} (h4 : ¬ f < 4) : V.may f = true ↔ fOk V.m f ∧ ((BQ V (ftQ V.m f)).find? (fpQ V.m f)).isSome = true := by
  unfold MV.may MV.mayF MV.mayL fOk ftQ BQ
  rw [if_neg h4, List.find?_map, Option.isSome_map]
  by_cases h8 : f < 8
  · rw [if_pos h8, Bool.and_eq_true, beq_iff_eq]
    constructor
    · rintro ⟨h2, hb⟩
      refine ⟨.inl ⟨h2, h8⟩, ?_⟩
      rw [if_pos h2, h2]
      cases hbb : V.b (f - 4) with
      | nil => rw [hbb] at hb; simp at hb
      | cons e l => rfl
    · rintro ⟨h2 | h3, hb⟩
      · rw [if_pos h2.1, h2.1] at hb
        refine ⟨h2.1, ?_⟩
        cases hbb : V.b (f - 4) with
        | nil => rw [hbb] at hb; simp at hb
        | cons e l => rfl
      · omega
  · rw [if_neg h8]
    by_cases h24 : f < 24
    · rw [if_pos h24, Bool.and_eq_true, beq_iff_eq]
      have hfun : V.m = 3 → (fpQ V.m f ∘ pr) = oldP 3 (((f - 8) % 4 : Nat) : Int) := fun h => by
        funext e
        rw [h]; rfl
      constructor
      · rintro ⟨h3, hb⟩
        refine ⟨.inr ⟨h3, by omega, h24⟩, ?_⟩
        rw [if_neg (by omega), hfun h3]; exact hb
      · rintro ⟨h2 | h3, hb⟩
        · omega
        · rw [if_neg (by omega), hfun h3.1] at hb
          exact ⟨h3.1, hb⟩
    · rw [if_neg h24]
      constructor
      · intro h; cases h
      · rintro ⟨h | h, _⟩ <;> omega

structure FE (V : MV) (f : Nat) (c v : Int) : Prop where
  ok : fOk V.m f
  t4 : ftQ V.m f < 4
  find : (BQ V (ftQ V.m f)).find? (fpQ V.m f) = some (c, v)
  c4 : 0 ≤ c ∧ c < 4
  kind : (V.stp f).kind = 6
  t : (V.stp f).t = (ftQ V.m f : Int)
  loc : (V.stp f).loc = c
  r : (V.stp f).r = 0
  w : (V.stp f).w = v
  pick : (V.stp f).pick = (f : Int)
  l : ∀ t, (V.nx f).l t = V.l t
  b : ∀ t, BQ (V.nx f) t = if t = ftQ V.m f then (BQ V (ftQ V.m f)).eraseP (fpQ V.m f) else BQ V t
  mem : ∀ x, MQ (V.nx f) x = if wrS (V.stp f) V.m = true ∧ x = (V.stp f).loc.toNat then (V.stp f).w else MQ V x

theorem MV.Inv.fe {V : MV} (v : V.Inv) {f : Nat} (h4 : ¬ f < 4) (hi : V.may f = true) : ∃ c w, FE V f c w := by
  have h24 := MV.may_lt hi
  have hm := v.fit.m
  obtain ⟨hok, hs⟩ := (may_flu_iff h4).1 hi
  have ht4 : ftQ V.m f < 4 := by
    unfold ftQ; rcases hok with h | h
    · rw [if_pos h.1]; omega
    · rw [if_neg (by omega)]; omega
  have hold : (fpQ V.m f ∘ pr) = oldP (bmod V.m) (if f < 8 then 0 else (((f - 8) % 4 : Nat) : Int)) := by
    funext e; exact (fp_old hok e).symm
  have hstp : V.stp f = { V.fluS (ftQ V.m f) (if f < 8 then 0 else (((f - 8) % 4 : Nat) : Int)) with pick := f } := by
    unfold MV.stp ftQ
    rw [if_neg h4]
    rcases hok with h | h
    · rw [if_pos h.2, if_pos h.2, if_pos h.1]
    · rw [if_neg (by omega), if_neg (by omega), if_neg (by omega)]
  have hnx : V.nx f = { V.fluM (ftQ V.m f) (if f < 8 then 0 else (((f - 8) % 4 : Nat) : Int)) with st := V.st ++ [V.stp f] } := by
    unfold MV.nx ftQ
    rw [if_neg h4]
    rcases hok with h | h
    · rw [if_pos h.2, if_pos h.2, if_pos h.1]
    · rw [if_neg (by omega), if_neg (by omega), if_neg (by omega)]
  generalize (if f < 8 then (0 : Int) else (((f - 8) % 4 : Nat) : Int)) = lc at hold hstp hnx
  unfold BQ at hs
  rw [List.find?_map, Option.isSome_map, hold] at hs
  obtain ⟨e, he⟩ := Option.isSome_iff_exists.1 hs
  have hee : V.fluE (ftQ V.m f) lc = e := by unfold MV.fluE; rw [he]; rfl
  have hel := v.mem_b (List.mem_of_find?_eq_some he)
  have hkind : (V.stp f).kind = 6 := by rw [hstp]; rfl
  have hloc : (V.stp f).loc = e.loc := by rw [hstp]; show (V.fluE _ _).loc = _; rw [hee]
  have hw : (V.stp f).w = e.val := by rw [hstp]; show (V.fluE _ _).val = _; rw [hee]
  refine ⟨e.loc, e.val, hok, ht4, by unfold BQ; rw [List.find?_map, hold, he]; rfl, hel, hkind, by rw [hstp]; rfl, hloc, by rw [hstp]; rfl, hw, rfl, fun t => by rw [hnx]; rfl, fun t => ?_, fun c => ?_⟩
  · unfold BQ
    rw [hnx]
    show ((V.bf.set _ _).getD t []).map pr = _
    rw [getDset (by rw [v.fit.bf]; exact ht4)]
    by_cases h : t = ftQ V.m f
    · rw [if_pos h, if_pos h, List.eraseP_map, hold]
    · rw [if_neg h, if_neg h]; rfl
  · unfold MQ
    rw [hloc, hw, hnx]
    show (V.mem.set _ _).getD c 0 = _
    rw [hee, getDset (by rw [v.fit.mem]; omega)]
    have hwr : wrS (V.stp f) V.m = true := by unfold wrS; rw [hkind]; rfl
    by_cases h : c = e.loc.toNat
    · rw [if_pos h, if_pos ⟨hwr, h⟩]
    · rw [if_neg h, if_neg (fun q => h q.2)]

structure AlikeQ (X Y : MV) : Prop where
  l : ∀ t, X.l t = Y.l t
  b : ∀ t, BQ X t = BQ Y t
  mem : ∀ c, MQ X c = MQ Y c

theorem find_erase {fa fb : Int × Int → Bool} (h : ∀ x, fa x = true → fb x = false) : ∀ l : List (Int × Int), (l.eraseP fa).find? fb = l.find? fb
  | [] => rfl
  | a :: l => by
    by_cases ha : fa a = true
    · rw [List.eraseP_cons_of_pos ha, List.find?_cons, h a ha]
    · rw [List.eraseP_cons_of_neg ha, List.find?_cons, List.find?_cons, find_erase h l]
theorem erase_erase {fa fb : Int × Int → Bool} (h : ∀ x, fa x = true → fb x = false) : ∀ l : List (Int × Int), (l.eraseP fa).eraseP fb = (l.eraseP fb).eraseP fa
  | [] => rfl
  | a :: l => by
    by_cases ha : fa a = true
    · have hb : ¬ fb a = true := by rw [h a ha]; simp
      rw [List.eraseP_cons_of_pos ha, List.eraseP_cons_of_neg hb, List.eraseP_cons_of_pos ha]
    · by_cases hb : fb a = true
      · rw [List.eraseP_cons_of_neg ha, List.eraseP_cons_of_pos hb, List.eraseP_cons_of_pos hb]
      · rw [List.eraseP_cons_of_neg ha, List.eraseP_cons_of_neg hb, List.eraseP_cons_of_neg hb, List.eraseP_cons_of_neg ha, erase_erase h l]

/-- The newest of another location does not change. -/
theorem nwQ_other {p : Int × Int → Bool} {c0 : Int} : ∀ (l : List (Int × Int)) (e : Int × Int), l.find? p = some e → e.1 ≠ c0 → nwQ c0 (l.eraseP p) = nwQ c0 l
  | [], e, h, _ => by cases h
  | a :: l, e, h, hne => by
    rw [List.find?_cons] at h
    cases hp : p a with
    | true =>
      rw [hp] at h
      cases h
      rw [List.eraseP_cons_of_pos hp, nwQ_cons]
      cases nwQ c0 l with
      | some x => rfl
      | none => dsimp only; rw [if_neg hne]
    | false =>
      rw [hp] at h
      rw [List.eraseP_cons_of_neg (by rw [hp]; simp), nwQ_cons, nwQ_cons, nwQ_other l e h hne]
/-- The newest of the same one: it, if it was alone. -/
theorem nwQ_same {p : Int × Int → Bool} {c : Int} (hpc : ∀ x : Int × Int, x.1 = c → p x = true) : ∀ (l : List (Int × Int)) (e : Int × Int) (d : Int), l.find? p = some e → e.1 = c →
    (match nwQ c (l.eraseP p) with | some x => x.2 | none => e.2) = match nwQ c l with | some x => x.2 | none => d
  | [], e, _, h, _ => by cases h
  | a :: l, e, d, h, hc => by
    rw [List.find?_cons] at h
    cases hp : p a with
    | true =>
      rw [hp] at h
      cases h
      rw [List.eraseP_cons_of_pos hp, nwQ_cons]
      cases hq : nwQ c l with
      | some x => rfl
      | none => rw [if_pos hc]
    | false =>
      rw [hp] at h
      have hac : ¬ a.1 = c := fun q => by rw [hpc a q] at hp; cases hp
      have ih := nwQ_same hpc l e d h hc
      rw [List.eraseP_cons_of_neg (by rw [hp]; simp), nwQ_cons, nwQ_cons]
      cases h1 : nwQ c (l.eraseP p) with
      | some x =>
        rw [h1] at ih
        cases h2 : nwQ c l with
        | some z => rw [h2] at ih; exact ih
        | none => rw [h2] at ih; dsimp only at ih ⊢; rw [if_neg hac]; exact ih
      | none =>
        rw [h1] at ih
        dsimp only
        rw [if_neg hac]
        cases h2 : nwQ c l with
        | some z => rw [h2] at ih; exact ih
        | none => rw [h2] at ih; exact ih

theorem rd_kind {q : Ins} {l : Lcl} {v : Int} (hk : 1 ≤ q.kind ∧ q.kind ≤ 4) (h : rdI q = true) : ((evOf q l v).kind = 1 ∨ (evOf q l v).kind = 4 ∨ (evOf q l v).kind = 5) ∧ (evOf q l v).loc = q.loc := by
  obtain ⟨e1, e2, e3, e4⟩ := evOf_cases q l v hk
  have h' : q.kind = 2 ∨ q.kind = 4 := by unfold rdI at h; simpa using h
  have hkk : (evOf q l v).kind = 1 ∨ (evOf q l v).kind = 4 ∨ (evOf q l v).kind = 5 := by
    rcases h' with h' | h'
    · exact .inl (e3.2 h')
    · exact .inr (e2.2 h')
  exact ⟨hkk, (e4 hkk).2.1⟩

/-- Behind a step that does not clash a thread does what it would have done. -/
theorem thr_after {V V1 : MV} {i : Nat} {q : Ins} {e : Evt} (T : TE V i q e) (hP : V1.P = V.P) (v1 : V1.Inv) (h4 : i < 4) (hl : V1.l i = V.l i) (hfree : q.kind = 3 ∨ q.kind = 4 → BQ V1 i = []) (hv : rdI q = true → qv V1 i q = qv V i q) :
    V1.may i = true ∧ TE V1 i q e ∧ afterL (V1.P.code i) (V1.l i) (qv V1 i q) = afterL (V.P.code i) (V.l i) (qv V i q) := by
  have hn1 : nextI (V1.P.code i) (V1.l i) = some q := by rw [hP, hl]; exact T.n
  have hmay : V1.may i = true := (may_thr_iff h4).2 ⟨q, hn1, hfree⟩
  obtain ⟨q', T1⟩ := v1.te h4 hmay
  have hq : q' = q := by
    have := T1.n
    rw [hn1] at this
    exact (Option.some.inj this).symm
  subst hq
  have he : evOf q' (V1.l i) (qv V1 i q') = e := by
    rw [T.ev, hl]
    cases hr : rdI q' with
    | true => rw [hv hr]
    | false => exact evOf_novalue hr _ _ _
  have ha : afterL (V1.P.code i) (V1.l i) (qv V1 i q') = afterL (V.P.code i) (V.l i) (qv V i q') := by
    rw [hP, hl]
    cases hr : rdI q' with
    | true => rw [hv hr]
    | false => exact afterL_novalue T.n hr _ _
  rw [he] at T1
  exact ⟨hmay, T1, ha⟩

theorem flu_after {V V1 : MV} {f : Nat} {c v : Int} (F : FE V f c v) (hm : V1.m = V.m) (v1 : V1.Inv) (h4 : ¬ f < 4) (hb : (BQ V1 (ftQ V.m f)).find? (fpQ V.m f) = some (c, v)) : V1.may f = true ∧ FE V1 f c v := by
  have hmay : V1.may f = true := (may_flu_iff h4).2 ⟨by rw [hm]; exact F.ok, by rw [hm, hb]; rfl⟩
  obtain ⟨c', w', F1⟩ := v1.fe h4 hmay
  have := F1.find
  rw [hm, hb] at this
  have h2 := Option.some.inj this
  have h3 := Prod.mk.inj h2
  rw [← h3.1, ← h3.2] at F1
  exact ⟨hmay, F1⟩

theorem wrS_ne {a b : Stp} {m : Int} (hp : a.pick ≠ b.pick) (ht : a.t ≠ b.t) (hc : clash a b m = false) (ha : wrS a m = true) (hb : tchS b m = true) : a.loc ≠ b.loc := fun hl => by
  unfold clash at hc
  rw [if_neg (by rw [beq_iff_eq]; exact hp), if_neg (by rw [beq_iff_eq]; exact ht)] at hc
  have : tchS a m = true := by unfold tchS; rw [ha]; rfl
  rw [this, hb, ha, hl] at hc
  simp at hc

theorem tch_rd {s : Stp} {m : Int} (h : s.kind = 1 ∨ s.kind = 4 ∨ s.kind = 5) : tchS s m = true := by
  unfold tchS rdS
  rcases h with h | h | h <;> rw [h] <;> simp
theorem tch_wr {s : Stp} {m : Int} (h : wrS s m = true) : tchS s m = true := by unfold tchS; rw [h]; rfl

set_option maxHeartbeats 1000000 in
theorem swap {V : MV} (v : V.Inv) {a b : Nat} (ha : V.may a = true) (hb : V.may b = true) (hab : a ≠ b) (hc : clash (V.stp a) (V.stp b) V.m = false) :
    (V.nx a).may b = true ∧ (V.nx b).may a = true ∧ ((V.nx a).stp b).r = (V.stp b).r ∧ ((V.nx a).stp b).w = (V.stp b).w ∧ ((V.nx b).stp a).r = (V.stp a).r ∧ ((V.nx b).stp a).w = (V.stp a).w ∧ AlikeQ ((V.nx a).nx b) ((V.nx b).nx a) := by
  have va := v.nx ha
  have vb := v.nx hb
  have hPa := (V.nx_P a).1
  have hPb := (V.nx_P b).1
  have hma : (V.nx a).m = V.m := (V.nx_P a).2
  have hmb : (V.nx b).m = V.m := (V.nx_P b).2
  have hpk : (V.stp a).pick ≠ (V.stp b).pick := by
    show (a : Int) ≠ (b : Int); omega
  have hc' : clash (V.stp b) (V.stp a) V.m = false := by rw [clash_comm]; exact hc
  -- two threads, or a thread and a flush
  have tt : ∀ a b : Nat, a < 4 → b < 4 → V.may a = true → V.may b = true → a ≠ b → clash (V.stp a) (V.stp b) V.m = false → ∀ q e, TE V b q e → (V.nx a).may b = true ∧ TE (V.nx a) b q e ∧ afterL ((V.nx a).P.code b) ((V.nx a).l b) (qv (V.nx a) b q) = afterL (V.P.code b) (V.l b) (qv V b q) := by
    intro a b ha4 hb4 ha hb hab hc q e T
    obtain ⟨qa, Ta⟩ := v.te ha4 ha
    refine thr_after T (V.nx_P a).1 (v.nx ha) hb4 (by rw [Ta.l, if_neg (fun q => hab q.symm)]) (fun hk => by rw [Ta.b, if_neg (fun q => hab q.1.symm)]; exact T.free hk) fun hr => ?_
    unfold qv
    rw [show BQ (V.nx a) b = BQ V b by rw [Ta.b, if_neg (fun q => hab q.1.symm)]]
    cases nwQ q.loc (BQ V b) with
    | some x => rfl
    | none =>
      dsimp only
      obtain ⟨k1, k2⟩ := rd_kind (l := V.l b) (v := qv V b q) T.k4 hr
      rw [← T.ev] at k1 k2
      rw [Ta.mem, if_neg]
      rintro ⟨h1, h2⟩
      refine wrS_ne (by show (a : Int) ≠ (b : Int); omega) (by rw [Ta.t, T.t]; omega) hc h1 (tch_rd (by rw [T.kind]; exact k1)) ?_
      rw [T.loc, k2]
      have e1 := Ta.l4; have e2 := T.l4
      rw [Ta.loc] at h2 ⊢
      omega
  have tf : ∀ a b : Nat, ¬ a < 4 → b < 4 → V.may a = true → V.may b = true → clash (V.stp a) (V.stp b) V.m = false → ∀ c w, FE V a c w → ∀ q e, TE V b q e → (V.nx a).may b = true ∧ TE (V.nx a) b q e ∧ afterL ((V.nx a).P.code b) ((V.nx a).l b) (qv (V.nx a) b q) = afterL (V.P.code b) (V.l b) (qv V b q) := by
    intro a b ha4 hb4 ha hb hc c w F q e T
    have hne : b = ftQ V.m a → ¬ (q.kind = 3 ∨ q.kind = 4) := fun h hk => by
      have h1 := T.free hk
      have h2 := F.find
      rw [← h, h1] at h2
      cases h2
    refine thr_after T (V.nx_P a).1 (v.nx ha) hb4 (F.l b) (fun hk => ?_) fun hr => ?_
    · rw [F.b, if_neg (fun h => hne h hk)]; exact T.free hk
    · obtain ⟨k1, k2⟩ := rd_kind (l := V.l b) (v := qv V b q) T.k4 hr
      rw [← T.ev] at k1 k2
      have hwr : wrS (V.stp a) V.m = true := by unfold wrS; rw [F.kind]; rfl
      by_cases hbt : b = ftQ V.m a
      · -- its own flush
        unfold qv
        rw [F.b, if_pos hbt]
        by_cases hcq : c = q.loc
        · have hpc : ∀ x : Int × Int, x.1 = q.loc → fpQ V.m a x = true := fun x hx => by
            have h1 := List.find?_some F.find
            unfold fpQ at h1 ⊢
            rw [hx, ← hcq]; exact h1
          have := nwQ_same hpc (BQ V (ftQ V.m a)) (c, w) (MQ V q.loc.toNat) F.find hcq
          rw [hbt] at *
          rw [← this]
          cases nwQ q.loc ((BQ V (ftQ V.m a)).eraseP (fpQ V.m a)) with
          | some x => rfl
          | none =>
            dsimp only
            rw [F.mem, if_pos ⟨hwr, by rw [F.loc, hcq]⟩, F.w]
        · rw [nwQ_other _ _ F.find hcq, ← hbt]
          cases nwQ q.loc (BQ V b) with
          | some x => rfl
          | none =>
            dsimp only
            rw [F.mem, if_neg]
            rintro ⟨_, h2⟩
            rw [F.loc] at h2
            have e1 := F.c4; have e2 := T.l4
            rw [k2] at e2
            omega
      · unfold qv
        rw [F.b, if_neg hbt]
        cases nwQ q.loc (BQ V b) with
        | some x => rfl
        | none =>
          dsimp only
          rw [F.mem, if_neg]
          rintro ⟨_, h2⟩
          have ab : (V.stp a).pick ≠ (V.stp b).pick := by rw [F.pick, T.pick]; omega
          refine wrS_ne ab (by rw [F.t, T.t]; omega) hc hwr (tch_rd (by rw [T.kind]; exact k1)) ?_
          rw [T.loc, k2]
          have e1 := F.c4; have e2 := T.l4
          rw [F.loc] at h2 ⊢
          omega
  have ft : ∀ a b : Nat, a < 4 → ¬ b < 4 → V.may a = true → V.may b = true → ∀ c w, FE V b c w → (V.nx a).may b = true ∧ FE (V.nx a) b c w := by
    intro a b ha4 hb4 ha hb c w F
    obtain ⟨qa, Ta⟩ := v.te ha4 ha
    refine flu_after F (V.nx_P a).2 (v.nx ha) hb4 ?_
    rw [Ta.b]
    split
    · rename_i h
      rw [List.find?_append, ← h.1, F.find]; rfl
    · exact F.find
  have ff : ∀ a b : Nat, ¬ a < 4 → ¬ b < 4 → V.may a = true → V.may b = true → a ≠ b → ∀ c w c' w', FE V a c w → FE V b c' w' → (ftQ V.m a = ftQ V.m b → ∀ x, fpQ V.m a x = true → fpQ V.m b x = false) ∧ (V.nx a).may b = true ∧ FE (V.nx a) b c' w' := by
    intro a b ha4 hb4 ha hb hab c w c' w' Fa Fb
    have hdis : ftQ V.m a = ftQ V.m b → ∀ x, fpQ V.m a x = true → fpQ V.m b x = false := fun ht x hx => by
      have oa := Fa.ok; have ob := Fb.ok
      unfold fOk at oa ob
      unfold ftQ at ht
      unfold fpQ at hx ⊢
      by_cases h2 : V.m = 2
      · rw [if_pos h2, if_pos h2] at ht; omega
      · rw [if_neg h2, if_neg h2] at ht
        rw [decide_eq_false h2, Bool.false_or, beq_iff_eq] at hx
        rw [decide_eq_false h2, Bool.false_or, hx]
        exact beq_false_of_ne (by omega)
    refine ⟨hdis, flu_after Fb (V.nx_P a).2 (v.nx ha) hb4 ?_⟩
    rw [Fa.b]
    split
    · rename_i h
      rw [find_erase (hdis h.symm), ← h]; exact Fb.find
    · exact Fb.find
  -- memory
  have memX : ∀ (s t : Stp), (wrS s V.m = true → wrS t V.m = true → s.loc.toNat ≠ t.loc.toNat) → ∀ (c : Nat) (d : Int), (if wrS t V.m = true ∧ c = t.loc.toNat then t.w else if wrS s V.m = true ∧ c = s.loc.toNat then s.w else d) = if wrS s V.m = true ∧ c = s.loc.toNat then s.w else if wrS t V.m = true ∧ c = t.loc.toNat then t.w else d := by
    intro s t h c d
    by_cases h1 : wrS t V.m = true ∧ c = t.loc.toNat
    · rw [if_pos h1, if_neg (fun q => h q.1 h1.1 (by omega)), if_pos h1]
    · rw [if_neg h1, if_neg h1]
  by_cases ha4 : a < 4
  · obtain ⟨qa, Ta⟩ := v.te ha4 ha
    by_cases hb4 : b < 4
    · obtain ⟨qb, Tb⟩ := v.te hb4 hb
      obtain ⟨m1, T1, f1⟩ := tt a b ha4 hb4 ha hb hab hc _ _ Tb
      obtain ⟨m2, T2, f2⟩ := tt b a hb4 ha4 hb ha (fun q => hab q.symm) hc' _ _ Ta
      refine ⟨m1, m2, by rw [T1.r, Tb.r], by rw [T1.w, Tb.w], by rw [T2.r, Ta.r], by rw [T2.w, Ta.w], ⟨fun t => ?_, fun t => ?_, fun c => ?_⟩⟩
      · rw [T1.l, T2.l, f1, f2, Ta.l, Tb.l]
        by_cases h1 : t = b
        · rw [if_pos h1, if_neg (by omega), if_pos h1]
        · rw [if_neg h1, if_neg h1]
      · rw [T1.b, T2.b, Ta.b, Tb.b, Ta.b, Tb.b, hma, hmb]
        generalize evOf qa (V.l a) (qv V a qa) = ea
        generalize evOf qb (V.l b) (qv V b qb) = eb
        by_cases h1 : t = b ∧ eb.kind = 2 ∧ V.m ≠ 1
        · rw [if_pos h1, if_neg (fun q => hab q.1.symm), if_neg (fun q => by omega), if_pos h1]
        · rw [if_neg h1]
          by_cases h2 : t = a ∧ ea.kind = 2 ∧ V.m ≠ 1
          · rw [if_pos h2, if_pos h2, if_neg (fun q => hab q.1)]
          · rw [if_neg h2, if_neg h2, if_neg h1]
      · have e1 : (V.nx a).stp b = (V.nx a).stp b := rfl
        have s1 : wrS ((V.nx a).stp b) (V.nx a).m = wrS (V.stp b) V.m := by unfold wrS; rw [T1.kind, Tb.kind, hma]
        have s2 : wrS ((V.nx b).stp a) (V.nx b).m = wrS (V.stp a) V.m := by unfold wrS; rw [T2.kind, Ta.kind, hmb]
        rw [T1.mem, T2.mem, s1, s2, T1.loc, T2.loc, T1.w, T2.w, ← Tb.loc, ← Ta.loc, ← Tb.w, ← Ta.w, Ta.mem, Tb.mem]
        refine memX (V.stp a) (V.stp b) (fun w1 w2 q => ?_) c (MQ V c)
        have e1 := Ta.l4; have e2 := Tb.l4
        rw [Ta.loc, Tb.loc] at q
        exact wrS_ne hpk (by rw [Ta.t, Tb.t]; omega) hc w1 (tch_wr w2) (by rw [Ta.loc, Tb.loc]; omega)
    · obtain ⟨cb, wb, Fb⟩ := v.fe hb4 hb
      obtain ⟨m1, F1⟩ := ft a b ha4 hb4 ha hb _ _ Fb
      obtain ⟨m2, T2, f2⟩ := tf b a hb4 ha4 hb ha hc' _ _ Fb _ _ Ta
      refine ⟨m1, m2, by rw [F1.r, Fb.r], by rw [F1.w, Fb.w], by rw [T2.r, Ta.r], by rw [T2.w, Ta.w], ⟨fun t => ?_, fun t => ?_, fun c => ?_⟩⟩
      · rw [F1.l, T2.l, f2, Ta.l, Fb.l]
      · rw [F1.b, T2.b, Ta.b, Fb.b, Ta.b, Fb.b, hma, hmb]
        generalize evOf qa (V.l a) (qv V a qa) = ea
        by_cases h1 : ftQ V.m b = a ∧ ea.kind = 2 ∧ V.m ≠ 1
        · rw [if_pos h1]
          by_cases h2 : t = ftQ V.m b
          · rw [if_pos h2, if_pos ⟨by omega, h1.2⟩, if_pos h1.1.symm]
            rw [← h1.1]
            have hpe := List.find?_some Fb.find
            rw [List.eraseP_append_left hpe _ (List.mem_of_find?_eq_some Fb.find)]
          · rw [if_neg h2, if_neg (fun q => h2 (by omega)), if_neg (fun q => h2 (by omega)), if_neg h2]
        · rw [if_neg h1]
          by_cases h2 : t = a ∧ ea.kind = 2 ∧ V.m ≠ 1
          · rw [if_pos h2, if_pos h2, if_neg (fun q => h1 ⟨by omega, h2.2⟩), if_neg (fun q => h1 ⟨by omega, h2.2⟩)]
          · rw [if_neg h2, if_neg h2]
      · have s1 : wrS ((V.nx a).stp b) (V.nx a).m = wrS (V.stp b) V.m := by unfold wrS; rw [F1.kind, Fb.kind, hma]
        have s2 : wrS ((V.nx b).stp a) (V.nx b).m = wrS (V.stp a) V.m := by unfold wrS; rw [T2.kind, Ta.kind, hmb]
        rw [F1.mem, T2.mem, s1, s2, F1.loc, T2.loc, F1.w, T2.w, ← Fb.loc, ← Ta.loc, ← Fb.w, ← Ta.w, Ta.mem, Fb.mem]
        refine memX (V.stp a) (V.stp b) (fun w1 w2 q => ?_) c (MQ V c)
        have e1 := Ta.l4; have e2 := Fb.c4
        have hk2 := evOf_cases qa (V.l a) (qv V a qa) Ta.k4
        by_cases hta : a = ftQ V.m b
        · -- a thread's own flush and its own write to memory: it has nothing waiting then
          have hok := Fb.ok
          unfold fOk at hok
          have hm1 : V.m ≠ 1 := by omega
          have k4 : (V.stp a).kind = 4 := by
            have k1 := Ta.kind
            have k2 := evOf_kinds qa (V.l a) (qv V a qa)
            unfold wrS at w1
            rw [Bool.or_eq_true, Bool.or_eq_true, Bool.and_eq_true, beq_iff_eq, beq_iff_eq, beq_iff_eq, beq_iff_eq] at w1
            omega
          have := Ta.free (.inr (hk2.2.1.1 (.inl (by rw [← Ta.kind]; exact k4))))
          have h2 := Fb.find
          rw [← hta, this] at h2
          cases h2
        · rw [Ta.loc, Fb.loc] at q
          exact wrS_ne hpk (by rw [Ta.t, Fb.t]; omega) hc w1 (tch_wr w2) (by rw [Ta.loc, Fb.loc]; omega)
  · obtain ⟨ca, wa, Fa⟩ := v.fe ha4 ha
    by_cases hb4 : b < 4
    · obtain ⟨qb, Tb⟩ := v.te hb4 hb
      obtain ⟨m2, F2⟩ := ft b a hb4 ha4 hb ha _ _ Fa
      obtain ⟨m1, T1, f1⟩ := tf a b ha4 hb4 ha hb hc _ _ Fa _ _ Tb
      refine ⟨m1, m2, by rw [T1.r, Tb.r], by rw [T1.w, Tb.w], by rw [F2.r, Fa.r], by rw [F2.w, Fa.w], ⟨fun t => ?_, fun t => ?_, fun c => ?_⟩⟩
      · rw [F2.l, T1.l, f1, Tb.l, Fa.l]
      · rw [F2.b, T1.b, Tb.b, Fa.b, Tb.b, Fa.b, hma, hmb]
        generalize evOf qb (V.l b) (qv V b qb) = eb
        by_cases h1 : ftQ V.m a = b ∧ eb.kind = 2 ∧ V.m ≠ 1
        · rw [if_pos h1.1.symm]
          by_cases h2 : t = ftQ V.m a
          · rw [if_pos ⟨by omega, h1.2⟩, if_pos h2, if_pos h1]
            have hpe := List.find?_some Fa.find
            have := List.eraseP_append_left hpe [(eb.loc, eb.w)] (List.mem_of_find?_eq_some Fa.find)
            rw [h1.1] at this ⊢
            exact this.symm
          · rw [if_neg (fun q => h2 (by omega)), if_neg h2, if_neg h2, if_neg (fun q => h2 (by omega))]
        · by_cases h2 : t = b ∧ eb.kind = 2 ∧ V.m ≠ 1
          · rw [if_pos h2, if_neg (fun q => h1 ⟨by omega, h2.2⟩), if_neg (fun q => h1 ⟨by omega, h2.2⟩), if_pos h2]
          · rw [if_neg h2]
            by_cases h3 : t = ftQ V.m a
            · rw [if_pos h3, if_pos h3, if_neg h1]
            · rw [if_neg h3, if_neg h3, if_neg h2]
      · have s1 : wrS ((V.nx a).stp b) (V.nx a).m = wrS (V.stp b) V.m := by unfold wrS; rw [T1.kind, Tb.kind, hma]
        have s2 : wrS ((V.nx b).stp a) (V.nx b).m = wrS (V.stp a) V.m := by unfold wrS; rw [F2.kind, Fa.kind, hmb]
        rw [T1.mem, F2.mem, s1, s2, T1.loc, F2.loc, T1.w, F2.w, ← Tb.loc, ← Fa.loc, ← Tb.w, ← Fa.w, Fa.mem, Tb.mem]
        refine memX (V.stp a) (V.stp b) (fun w1 w2 q => ?_) c (MQ V c)
        have e1 := Fa.c4; have e2 := Tb.l4
        have hk2 := evOf_cases qb (V.l b) (qv V b qb) Tb.k4
        by_cases hta : b = ftQ V.m a
        · have hok := Fa.ok
          unfold fOk at hok
          have hm1 : V.m ≠ 1 := by omega
          have k4 : (V.stp b).kind = 4 := by
            have k1 := Tb.kind
            have k2 := evOf_kinds qb (V.l b) (qv V b qb)
            unfold wrS at w2
            rw [Bool.or_eq_true, Bool.or_eq_true, Bool.and_eq_true, beq_iff_eq, beq_iff_eq, beq_iff_eq, beq_iff_eq] at w2
            omega
          have := Tb.free (.inr (hk2.2.1.1 (.inl (by rw [← Tb.kind]; exact k4))))
          have h2 := Fa.find
          rw [← hta, this] at h2
          cases h2
        · rw [Fa.loc, Tb.loc] at q
          exact wrS_ne hpk (by rw [Fa.t, Tb.t]; omega) hc w1 (tch_wr w2) (by rw [Fa.loc, Tb.loc]; omega)
    · obtain ⟨cb, wb, Fb⟩ := v.fe hb4 hb
      obtain ⟨dis, m1, F1⟩ := ff a b ha4 hb4 ha hb hab _ _ _ _ Fa Fb
      obtain ⟨dis2, m2, F2⟩ := ff b a hb4 ha4 hb ha (fun q => hab q.symm) _ _ _ _ Fb Fa
      refine ⟨m1, m2, by rw [F1.r, Fb.r], by rw [F1.w, Fb.w], by rw [F2.r, Fa.r], by rw [F2.w, Fa.w], ⟨fun t => ?_, fun t => ?_, fun c => ?_⟩⟩
      · rw [F1.l, F2.l, Fa.l, Fb.l]
      · rw [F1.b, F2.b, Fa.b, Fb.b, Fa.b, Fb.b, hma, hmb]
        by_cases h1 : ftQ V.m a = ftQ V.m b
        · rw [h1]
          by_cases h2 : t = ftQ V.m b
          · rw [if_pos h2, if_pos rfl, if_pos h2, if_pos rfl, ← h1, erase_erase (dis h1)]
          · rw [if_neg h2, if_neg h2, if_neg h2, if_neg h2]
        · by_cases h2 : t = ftQ V.m b
          · rw [if_pos h2, if_neg (fun q => h1 q.symm), if_neg (fun q => h1 (by omega)), if_pos h2]
          · rw [if_neg h2]
            by_cases h3 : t = ftQ V.m a
            · rw [if_pos h3, if_pos h3, if_neg h1]
            · rw [if_neg h3, if_neg h3, if_neg h2]
      · have s1 : wrS ((V.nx a).stp b) (V.nx a).m = wrS (V.stp b) V.m := by unfold wrS; rw [F1.kind, Fb.kind, hma]
        have s2 : wrS ((V.nx b).stp a) (V.nx b).m = wrS (V.stp a) V.m := by unfold wrS; rw [F2.kind, Fa.kind, hmb]
        rw [F1.mem, F2.mem, s1, s2, F1.loc, F2.loc, F1.w, F2.w, ← Fb.loc, ← Fa.loc, ← Fb.w, ← Fa.w, Fa.mem, Fb.mem]
        refine memX (V.stp a) (V.stp b) (fun w1 w2 q => ?_) c (MQ V c)
        have e1 := Fa.c4; have e2 := Fb.c4
        rw [Fa.loc, Fb.loc] at q
        by_cases hta : ftQ V.m a = ftQ V.m b
        · have := dis hta (ca, wa) (List.find?_some Fa.find)
          have h2 := List.find?_some Fb.find
          have hcc : ca = cb := by omega
          unfold fpQ at this h2
          dsimp only at this h2
          rw [hcc] at this
          rw [this] at h2; cases h2
        · exact wrS_ne hpk (by rw [Fa.t, Fb.t]; omega) hc w1 (tch_wr w2) (by rw [Fa.loc, Fb.loc]; omega)
end Jq

namespace Jq
open Go

/- jacquard/jacquardlaw21.awake: 403 -/
set_option maxRecDepth 100000 in
theorem jacquardlaw21_awake_eq (C : CallF) (L : LoopF) (G : Glo)  (h0 : AHeap) :
    jacquardlaw21_awake.body C L G [] h0 =
    if 0 = 0 ∧ (List.replicate 7 (Cell.int .i64 0)).length = 7 ∧ (splice (splice (splice (List.replicate 7 (Cell.int .i64 0)) 0 ([(.int .i64 0)] : List Cell)) 1 ([(.int .i64 0)] : List Cell)) 2 ([(.int .i64 1)] : List Cell)).length = 7 then if 0 = 0 ∧ (List.replicate 7 (Cell.int .i64 0)).length = 7 ∧ (splice (splice (splice (List.replicate 7 (Cell.int .i64 0)) 0 ([(.int .i64 1)] : List Cell)) 1 ([(.int .i64 1)] : List Cell)) 2 ([(.int .i64 1)] : List Cell)).length = 7 then if 0 = 0 ∧ (splice (splice (splice (List.replicate 7 (Cell.int .i64 0)) 0 ([(.int .i64 0)] : List Cell)) 1 ([(.int .i64 0)] : List Cell)) 2 ([(.int .i64 1)] : List Cell)).length = 7 then if 0 = 0 ∧ (splice (splice (splice (List.replicate 7 (Cell.int .i64 0)) 0 ([(.int .i64 1)] : List Cell)) 1 ([(.int .i64 1)] : List Cell)) 2 ([(.int .i64 1)] : List Cell)).length = 7 then c1 (C 390 [(.agg (splice (splice (splice (List.replicate 7 (Cell.int .i64 0)) 0 ([(.int .i64 0)] : List Cell)) 1 ([(.int .i64 0)] : List Cell)) 2 ([(.int .i64 1)] : List Cell))), (.agg (splice (splice (splice (List.replicate 7 (Cell.int .i64 0)) 0 ([(.int .i64 1)] : List Cell)) 1 ([(.int .i64 1)] : List Cell)) 2 ([(.int .i64 1)] : List Cell))), (.c (.int .i64 1))] h0) fun y_2 h_1 => asB y_2 fun b_3 => scK (!b_3) true (c1 (C 9 [(.c (.int .i64 2))] h_1) fun y_5 h_4 => asA y_5 fun l_6 => if (splice (splice [Cell.int .i64 0, Cell.int .i64 0] 0 ([(.int .i64 0)] : List Cell)) 1 ([(.int .i64 1)] : List Cell)).length = 2 * 1 then c1 (C 408 [(.agg l_6), (.c (.sl h_4.length ((splice (splice [Cell.int .i64 0, Cell.int .i64 0] 0 ([(.int .i64 0)] : List Cell)) 1 ([(.int .i64 1)] : List Cell)).length) 0 2)), (.c (.int .i64 0))] (h_4 ++ [some (Blk.mk true 1 (splice (splice [Cell.int .i64 0, Cell.int .i64 0] 0 ([(.int .i64 0)] : List Cell)) 1 ([(.int .i64 1)] : List Cell)))])) fun y_8 h_7 => asI .u64 y_8 fun n_9 => some ((n_9 == 3), h_7) else none) false h_1 fun b_10 h_11 => scK b_10 true (c1 (C 368 [(.c (.int .u64 1)), (.c (.int .u64 0))] h_11) fun y_13 h_12 => asB y_13 fun b_14 => some (b_14, h_12)) false h_11 fun b_15 h_16 => scK b_15 true (c1 (C 368 [(.c (.int .u64 1)), (.c (.int .u64 2))] h_16) fun y_18 h_17 => asB y_18 fun b_19 => some ((!b_19), h_17)) false h_16 fun b_20 h_21 => finish true h0 [(.c (.bool b_20))] h_21 else none else none else none else none := by kernel_rfl

/- jacquard/jacquardlaw21.SleepSwaps: 405 -/
def jacquardlaw21_SleepSwaps_k2 (C : CallF) (L : LoopF) (G : Glo) (h0 : AHeap) : Ex → St → Option (List AV × AHeap) :=
  kSeq (fun st => jacquardlaw21_SleepSwaps_p1.exec C L G st (jacquardlaw21_SleepSwaps.fin G h0)) (jacquardlaw21_SleepSwaps.fin G h0)
def jacquardlaw21_SleepSwaps_k3 (C : CallF) (L : LoopF) (G : Glo) (h0 : AHeap) : Ex → St → Option (List AV × AHeap) :=
  kBlk 0 (jacquardlaw21_SleepSwaps_k2 C L G h0)
def jacquardlaw21_SleepSwaps_s2 (x20 : Cell) (x21 : Cell) (a30 : Int) (h : AHeap) : St := ⟨[.top, .top, .top, .top, .top, .top, .top, .top, .top, .top, .top, .top, .top, .top, .top, .top, .top, .top, .top, .top, .v (.c x20), .v (.c x21), .top, .top, .top, .top, .top, .top, .top, .top, .v (.c (.int .i64 a30)), .top, .top, .top, .top, .top, .top, .top, .top, .top, .top, .top, .top, .top, .top, .top, .top, .top, .top, .top, .top, .top, .top, .top, .top, .top, .top, .top, .top, .top, .top, .top, .top, .top, .top, .top, .top, .top, .top, .top, .top, .top, .top, .top, .top, .top, .top, .top, .top, .top, .top, .top, .top, .top, .top, .top, .top, .top, .top, .top, .top, .top, .top, .top, .top, .top, .top, .top, .top, .top, .top, .top, .top, .top, .top, .top, .top, .top, .top, .top, .top, .top, .top, .top, .top, .top, .top, .top, .top, .top, .top, .top, .top, .top, .top, .top, .top, .top, .top, .top, .top, .top, .top, .top, .top, .top, .top, .top, .top, .top, .top, .top, .top, .top, .top, .top, .top, .top, .top, .top, .top, .top, .top, .top, .top, .top, .top, .top, .top, .top, .top, .top, .top, .top, .top, .top, .top, .top, .top, .top, .top, .top, .top, .top, .top, .top, .top, .top, .top, .top, .top, .top, .top, .top, .top, .top, .top, .top, .top, .top, .top, .top, .top, .top, .top, .top, .top, .top, .top, .top, .top, .top, .top, .top, .top, .top, .top, .top, .top, .top, .top, .top, .top, .top, .top, .top, .top, .top, .top, .top, .top, .top, .top, .top, .top, .top, .top, .top, .top, .top, .top, .top, .top, .top, .top, .top, .top, .top, .top, .top, .top, .top, .top, .top, .top, .top, .top, .top, .top, .top, .top, .top, .top, .top, .top, .top, .top, .top, .top], [none, none, none, none, none], h⟩
def jacquardlaw21_SleepSwaps_F2 (C : CallF) (L : LoopF) (G : Glo) : St → Option (Ex × St) :=
  roundF (fun st f => jacquardlaw21_SleepSwaps_b2.exec C L G st f) [20, 21, 30] [] [(0, [12], []), (1, [], [])]
def jacquardlaw21_SleepSwaps_k4 (C : CallF) (L : LoopF) (G : Glo) : Ex → St → Option (Ex × St) :=
  kSeq (fun st => jacquardlaw21_SleepSwaps_p2.exec C L G st (kLoop [20, 21, 30] [] [(0, [12], []), (1, [], [])])) (kLoop [20, 21, 30] [] [(0, [12], []), (1, [], [])])
def jacquardlaw21_SleepSwaps_k5 (C : CallF) (L : LoopF) (G : Glo) : Ex → St → Option (Ex × St) :=
  kBlk 1 (jacquardlaw21_SleepSwaps_k4 C L G)
def jacquardlaw21_SleepSwaps_x2_0 (b12 : Bool) (h : AHeap) : St := ⟨[.top, .top, .top, .top, .top, .top, .top, .top, .top, .top, .top, .top, .v (.c (.bool b12)), .top, .top, .top, .top, .top, .top, .top, .top, .top, .top, .top, .top, .top, .top, .top, .top, .top, .top, .top, .top, .top, .top, .top, .top, .top, .top, .top, .top, .top, .top, .top, .top, .top, .top, .top, .top, .top, .top, .top, .top, .top, .top, .top, .top, .top, .top, .top, .top, .top, .top, .top, .top, .top, .top, .top, .top, .top, .top, .top, .top, .top, .top, .top, .top, .top, .top, .top, .top, .top, .top, .top, .top, .top, .top, .top, .top, .top, .top, .top, .top, .top, .top, .top, .top, .top, .top, .top, .top, .top, .top, .top, .top, .top, .top, .top, .top, .top, .top, .top, .top, .top, .top, .top, .top, .top, .top, .top, .top, .top, .top, .top, .top, .top, .top, .top, .top, .top, .top, .top, .top, .top, .top, .top, .top, .top, .top, .top, .top, .top, .top, .top, .top, .top, .top, .top, .top, .top, .top, .top, .top, .top, .top, .top, .top, .top, .top, .top, .top, .top, .top, .top, .top, .top, .top, .top, .top, .top, .top, .top, .top, .top, .top, .top, .top, .top, .top, .top, .top, .top, .top, .top, .top, .top, .top, .top, .top, .top, .top, .top, .top, .top, .top, .top, .top, .top, .top, .top, .top, .top, .top, .top, .top, .top, .top, .top, .top, .top, .top, .top, .top, .top, .top, .top, .top, .top, .top, .top, .top, .top, .top, .top, .top, .top, .top, .top, .top, .top, .top, .top, .top, .top, .top, .top, .top, .top, .top, .top, .top, .top, .top, .top, .top, .top, .top, .top, .top, .top, .top, .top, .top, .top, .top, .top, .top, .top, .top], [none, none, none, none, none], h⟩
def jacquardlaw21_SleepSwaps_k6 (C : CallF) (L : LoopF) (G : Glo) : Ex → St → Option (Ex × St) :=
  kBlk 2 (jacquardlaw21_SleepSwaps_k5 C L G)
def jacquardlaw21_SleepSwaps_s1 (x20 : Cell) (x21 : Cell) (a30 : Int) (a31 : Int) (h : AHeap) : St := ⟨[.top, .top, .top, .top, .top, .top, .top, .top, .top, .top, .top, .top, .top, .top, .top, .top, .top, .top, .top, .top, .v (.c x20), .v (.c x21), .top, .top, .top, .top, .top, .top, .top, .top, .v (.c (.int .i64 a30)), .v (.c (.int .i64 a31)), .top, .top, .top, .top, .top, .top, .top, .top, .top, .top, .top, .top, .top, .top, .top, .top, .top, .top, .top, .top, .top, .top, .top, .top, .top, .top, .top, .top, .top, .top, .top, .top, .top, .top, .top, .top, .top, .top, .top, .top, .top, .top, .top, .top, .top, .top, .top, .top, .top, .top, .top, .top, .top, .top, .top, .top, .top, .top, .top, .top, .top, .top, .top, .top, .top, .top, .top, .top, .top, .top, .top, .top, .top, .top, .top, .top, .top, .top, .top, .top, .top, .top, .top, .top, .top, .top, .top, .top, .top, .top, .top, .top, .top, .top, .top, .top, .top, .top, .top, .top, .top, .top, .top, .top, .top, .top, .top, .top, .top, .top, .top, .top, .top, .top, .top, .top, .top, .top, .top, .top, .top, .top, .top, .top, .top, .top, .top, .top, .top, .top, .top, .top, .top, .top, .top, .top, .top, .top, .top, .top, .top, .top, .top, .top, .top, .top, .top, .top, .top, .top, .top, .top, .top, .top, .top, .top, .top, .top, .top, .top, .top, .top, .top, .top, .top, .top, .top, .top, .top, .top, .top, .top, .top, .top, .top, .top, .top, .top, .top, .top, .top, .top, .top, .top, .top, .top, .top, .top, .top, .top, .top, .top, .top, .top, .top, .top, .top, .top, .top, .top, .top, .top, .top, .top, .top, .top, .top, .top, .top, .top, .top, .top, .top, .top, .top, .top, .top, .top, .top, .top, .top, .top, .top, .top, .top, .top, .top], [none, none, none, none, none], h⟩
def jacquardlaw21_SleepSwaps_F1 (C : CallF) (L : LoopF) (G : Glo) : St → Option (Ex × St) :=
  roundF (fun st f => jacquardlaw21_SleepSwaps_b1.exec C L G st f) [20, 21, 30, 31] [] [(0, [12], []), (3, [20, 21, 30], [])]
def jacquardlaw21_SleepSwaps_x1_0 (b12 : Bool) (h : AHeap) : St := ⟨[.top, .top, .top, .top, .top, .top, .top, .top, .top, .top, .top, .top, .v (.c (.bool b12)), .top, .top, .top, .top, .top, .top, .top, .top, .top, .top, .top, .top, .top, .top, .top, .top, .top, .top, .top, .top, .top, .top, .top, .top, .top, .top, .top, .top, .top, .top, .top, .top, .top, .top, .top, .top, .top, .top, .top, .top, .top, .top, .top, .top, .top, .top, .top, .top, .top, .top, .top, .top, .top, .top, .top, .top, .top, .top, .top, .top, .top, .top, .top, .top, .top, .top, .top, .top, .top, .top, .top, .top, .top, .top, .top, .top, .top, .top, .top, .top, .top, .top, .top, .top, .top, .top, .top, .top, .top, .top, .top, .top, .top, .top, .top, .top, .top, .top, .top, .top, .top, .top, .top, .top, .top, .top, .top, .top, .top, .top, .top, .top, .top, .top, .top, .top, .top, .top, .top, .top, .top, .top, .top, .top, .top, .top, .top, .top, .top, .top, .top, .top, .top, .top, .top, .top, .top, .top, .top, .top, .top, .top, .top, .top, .top, .top, .top, .top, .top, .top, .top, .top, .top, .top, .top, .top, .top, .top, .top, .top, .top, .top, .top, .top, .top, .top, .top, .top, .top, .top, .top, .top, .top, .top, .top, .top, .top, .top, .top, .top, .top, .top, .top, .top, .top, .top, .top, .top, .top, .top, .top, .top, .top, .top, .top, .top, .top, .top, .top, .top, .top, .top, .top, .top, .top, .top, .top, .top, .top, .top, .top, .top, .top, .top, .top, .top, .top, .top, .top, .top, .top, .top, .top, .top, .top, .top, .top, .top, .top, .top, .top, .top, .top, .top, .top, .top, .top, .top, .top, .top, .top, .top, .top, .top, .top, .top], [none, none, none, none, none], h⟩
def jacquardlaw21_SleepSwaps_x1_3 (x20 : Cell) (x21 : Cell) (a30 : Int) (h : AHeap) : St := ⟨[.top, .top, .top, .top, .top, .top, .top, .top, .top, .top, .top, .top, .top, .top, .top, .top, .top, .top, .top, .top, .v (.c x20), .v (.c x21), .top, .top, .top, .top, .top, .top, .top, .top, .v (.c (.int .i64 a30)), .top, .top, .top, .top, .top, .top, .top, .top, .top, .top, .top, .top, .top, .top, .top, .top, .top, .top, .top, .top, .top, .top, .top, .top, .top, .top, .top, .top, .top, .top, .top, .top, .top, .top, .top, .top, .top, .top, .top, .top, .top, .top, .top, .top, .top, .top, .top, .top, .top, .top, .top, .top, .top, .top, .top, .top, .top, .top, .top, .top, .top, .top, .top, .top, .top, .top, .top, .top, .top, .top, .top, .top, .top, .top, .top, .top, .top, .top, .top, .top, .top, .top, .top, .top, .top, .top, .top, .top, .top, .top, .top, .top, .top, .top, .top, .top, .top, .top, .top, .top, .top, .top, .top, .top, .top, .top, .top, .top, .top, .top, .top, .top, .top, .top, .top, .top, .top, .top, .top, .top, .top, .top, .top, .top, .top, .top, .top, .top, .top, .top, .top, .top, .top, .top, .top, .top, .top, .top, .top, .top, .top, .top, .top, .top, .top, .top, .top, .top, .top, .top, .top, .top, .top, .top, .top, .top, .top, .top, .top, .top, .top, .top, .top, .top, .top, .top, .top, .top, .top, .top, .top, .top, .top, .top, .top, .top, .top, .top, .top, .top, .top, .top, .top, .top, .top, .top, .top, .top, .top, .top, .top, .top, .top, .top, .top, .top, .top, .top, .top, .top, .top, .top, .top, .top, .top, .top, .top, .top, .top, .top, .top, .top, .top, .top, .top, .top, .top, .top, .top, .top, .top, .top, .top, .top, .top, .top, .top, .top], [none, none, none, none, none], h⟩
def jacquardlaw21_SleepSwaps_x2_1 (h : AHeap) : St := ⟨[.top, .top, .top, .top, .top, .top, .top, .top, .top, .top, .top, .top, .top, .top, .top, .top, .top, .top, .top, .top, .top, .top, .top, .top, .top, .top, .top, .top, .top, .top, .top, .top, .top, .top, .top, .top, .top, .top, .top, .top, .top, .top, .top, .top, .top, .top, .top, .top, .top, .top, .top, .top, .top, .top, .top, .top, .top, .top, .top, .top, .top, .top, .top, .top, .top, .top, .top, .top, .top, .top, .top, .top, .top, .top, .top, .top, .top, .top, .top, .top, .top, .top, .top, .top, .top, .top, .top, .top, .top, .top, .top, .top, .top, .top, .top, .top, .top, .top, .top, .top, .top, .top, .top, .top, .top, .top, .top, .top, .top, .top, .top, .top, .top, .top, .top, .top, .top, .top, .top, .top, .top, .top, .top, .top, .top, .top, .top, .top, .top, .top, .top, .top, .top, .top, .top, .top, .top, .top, .top, .top, .top, .top, .top, .top, .top, .top, .top, .top, .top, .top, .top, .top, .top, .top, .top, .top, .top, .top, .top, .top, .top, .top, .top, .top, .top, .top, .top, .top, .top, .top, .top, .top, .top, .top, .top, .top, .top, .top, .top, .top, .top, .top, .top, .top, .top, .top, .top, .top, .top, .top, .top, .top, .top, .top, .top, .top, .top, .top, .top, .top, .top, .top, .top, .top, .top, .top, .top, .top, .top, .top, .top, .top, .top, .top, .top, .top, .top, .top, .top, .top, .top, .top, .top, .top, .top, .top, .top, .top, .top, .top, .top, .top, .top, .top, .top, .top, .top, .top, .top, .top, .top, .top, .top, .top, .top, .top, .top, .top, .top, .top, .top, .top, .top, .top, .top, .top, .top, .top, .top], [none, none, none, none, none], h⟩
theorem jacquardlaw21_SleepSwaps_r1 (C : CallF) (L : LoopF) (G : Glo) (x20 : Cell) (x21 : Cell) (a30 : Int) (a31 : Int) (h : AHeap) :
    jacquardlaw21_SleepSwaps_F1 C L G (jacquardlaw21_SleepSwaps_s1 x20 x21 a30 a31 h) =
    ptrK x20 fun k_136 N_137 o_138 => if 0 ≤ a30 ∧ a30 < ((4 : Nat) : Int) then rdH h k_136 N_137 fun l_139 => atK l_139 ((o_138 + 32) + ((Int.toNat a30) * 1)) fun q_140 => lenK q_140 fun n_141 => if (decide (a31 < n_141)) = true then ptrK x20 fun k_142 N_143 o_144 => if 0 ≤ a30 ∧ a30 < ((4 : Nat) : Int) then rdH h k_142 N_143 fun l_145 => atK l_145 ((o_144 + 32) + ((Int.toNat a30) * 1)) fun q_146 => idxSK 3 q_146 a31 fun k_147 N_148 o_149 => rdH h k_147 N_148 fun l_150 => atK l_150 (o_149 + 0) fun q_151 => asI .i64 (.c q_151) fun n_152 => ptrK x21 fun k_153 N_154 o_155 => if 0 ≤ a30 ∧ a30 < ((4 : Nat) : Int) then rdH h k_153 N_154 fun l_156 => atK l_156 ((o_155 + 32) + ((Int.toNat a30) * 1)) fun q_157 => idxSK 3 q_157 a31 fun k_158 N_159 o_160 => rdH h k_158 N_159 fun l_161 => atK l_161 (o_160 + 0) fun q_162 => asI .i64 (.c q_162) fun n_163 => scK (n_152 != n_163) false (ptrK x20 fun k_164 N_165 o_166 => if 0 ≤ a30 ∧ a30 < ((4 : Nat) : Int) then rdH h k_164 N_165 fun l_167 => atK l_167 ((o_166 + 32) + ((Int.toNat a30) * 1)) fun q_168 => idxSK 3 q_168 a31 fun k_169 N_170 o_171 => rdH h k_169 N_170 fun l_172 => atK l_172 (o_171 + 1) fun q_173 => asI .i64 (.c q_173) fun n_174 => ptrK x21 fun k_175 N_176 o_177 => if 0 ≤ a30 ∧ a30 < ((4 : Nat) : Int) then rdH h k_175 N_176 fun l_178 => atK l_178 ((o_177 + 32) + ((Int.toNat a30) * 1)) fun q_179 => idxSK 3 q_179 a31 fun k_180 N_181 o_182 => rdH h k_180 N_181 fun l_183 => atK l_183 (o_182 + 1) fun q_184 => asI .i64 (.c q_184) fun n_185 => some ((n_174 != n_185), h) else none else none) true h fun b_186 h_187 => if b_186 = true then some (.ret, (jacquardlaw21_SleepSwaps_x1_0 false h_187)) else some (.normal, (jacquardlaw21_SleepSwaps_s1 x20 x21 a30 (G.wrap .i64 (a31 + 1)) h_187)) else none else none else some ((.exit 2), (jacquardlaw21_SleepSwaps_x1_3 x20 x21 a30 h)) else none := by kernel_rfl
theorem jacquardlaw21_SleepSwaps_e1_0 (C : CallF) (L : LoopF) (G : Glo) (b12 : Bool) (h : AHeap) :
    (jacquardlaw21_SleepSwaps_k6 C L G) .ret (jacquardlaw21_SleepSwaps_x1_0 b12 h) =
    some (.ret, (jacquardlaw21_SleepSwaps_x2_0 b12 h)) := by kernel_rfl
theorem jacquardlaw21_SleepSwaps_e1_3 (C : CallF) (L : LoopF) (G : Glo) (x20 : Cell) (x21 : Cell) (a30 : Int) (h : AHeap) :
    (jacquardlaw21_SleepSwaps_k6 C L G) (.exit 2) (jacquardlaw21_SleepSwaps_x1_3 x20 x21 a30 h) =
    some (.normal, (jacquardlaw21_SleepSwaps_s2 x20 x21 (G.wrap .i64 (a30 + 1)) h)) := by kernel_rfl
theorem jacquardlaw21_SleepSwaps_r2 (C : CallF) (L : LoopF) (G : Glo) (x20 : Cell) (x21 : Cell) (a30 : Int) (h : AHeap) :
    jacquardlaw21_SleepSwaps_F2 C L G (jacquardlaw21_SleepSwaps_s2 x20 x21 a30 h) =
    if (decide (a30 < 4)) = true then ptrK x20 fun k_124 N_125 o_126 => if 0 ≤ a30 ∧ a30 < ((4 : Nat) : Int) then rdH h k_124 N_125 fun l_127 => atK l_127 ((o_126 + 32) + ((Int.toNat a30) * 1)) fun q_128 => lenK q_128 fun n_129 => ptrK x21 fun k_130 N_131 o_132 => if 0 ≤ a30 ∧ a30 < ((4 : Nat) : Int) then rdH h k_130 N_131 fun l_133 => atK l_133 ((o_132 + 32) + ((Int.toNat a30) * 1)) fun q_134 => lenK q_134 fun n_135 => if (n_129 != n_135) = true then some (.ret, (jacquardlaw21_SleepSwaps_x2_0 false h)) else (L (jacquardlaw21_SleepSwaps_F1 C L G) (jacquardlaw21_SleepSwaps_s1 x20 x21 a30 0 h)).bind fun p_188 => (jacquardlaw21_SleepSwaps_k6 C L G) p_188.1 p_188.2 else none else none else some ((.exit 0), (jacquardlaw21_SleepSwaps_x2_1 h)) := by kernel_rfl
theorem jacquardlaw21_SleepSwaps_e2_0 (C : CallF) (L : LoopF) (G : Glo) (h0 : AHeap) (b12 : Bool) (h : AHeap) :
    (jacquardlaw21_SleepSwaps_k3 C L G h0) .ret (jacquardlaw21_SleepSwaps_x2_0 b12 h) =
    some ([(.c (.bool b12))], h) := by kernel_rfl
theorem jacquardlaw21_SleepSwaps_e2_1 (C : CallF) (L : LoopF) (G : Glo) (h0 : AHeap) (h : AHeap) :
    (jacquardlaw21_SleepSwaps_k3 C L G h0) (.exit 0) (jacquardlaw21_SleepSwaps_x2_1 h) =
    c1 (C 403 [] h) fun y_190 h_189 => asB y_190 fun b_191 => some ([(.c (.bool b_191))], h_189) := by kernel_rfl
set_option maxRecDepth 100000 in
theorem jacquardlaw21_SleepSwaps_eq (C : CallF) (L : LoopF) (G : Glo) (x0 : Cell) (a1 : Int) (x2 : Cell) (a3 : Int) (a4 : Int) (a5 : Int) (h0 : AHeap) :
    jacquardlaw21_SleepSwaps.body C L G [(.c x0), (.c (.int .i64 a1)), (.c x2), (.c (.int .i64 a3)), (.c (.int .i64 a4)), (.c (.int .i64 a5))] h0 =
    c1 (C 76 [(.c x0), (.c (.int .i64 10))] h0) fun y_2 h_1 => asA y_2 fun l_3 => if 0 = 0 ∧ [Cell.nils, Cell.nils, Cell.nils].length = 3 ∧ l_3.length = 3 then let v_4 : Int := (G.wrap .i64 ((G.rem .i64 (G.band .i64 a1 255) 3) + 1)); if 0 = 0 ∧ l_3.length = 3 then c1 (C 254 [(.agg l_3), (.c (.int .i64 v_4)), (.c x2)] h_1) fun y_6 h_5 => asC y_6 fun x_7 => lenK x_7 fun n_8 => if (G.wrap .i64 (n_8 + 1)) = 0 then none else let v_9 : Int := (G.rem .i64 (G.band .i64 a3 65535) (G.wrap .i64 (n_8 + 1))); if 0 = 0 ∧ l_3.length = 3 then sliceK h_5 1 false true x_7 [.v (.c (.int .i64 v_9))] fun x_10 => c2 (C 186 [(.agg l_3), (.c (.int .i64 v_4)), (.c x_10)] h_5) fun y_12 y_13 h_11 => asC y_12 fun x_14 => asI .i64 y_13 fun n_15 => c1 (C 181 [(.c x_14)] h_11) fun y_17 h_16 => asC y_17 fun x_18 => lenK x_18 fun n_19 => if (decide (n_19 < 2)) = true then c1 (C 403 [] h_16) fun y_21 h_20 => asB y_21 fun b_22 => some ([(.c (.bool b_22))], h_20) else lenK x_18 fun n_23 => if n_23 = 0 then none else idxSK 1 x_18 (G.rem .i64 (G.band .i64 a4 255) n_23) fun k_24 N_25 o_26 => rdH h_16 k_24 N_25 fun l_27 => atK l_27 o_26 fun q_28 => asI .i64 (.c q_28) fun n_29 => lenK x_18 fun n_30 => if n_30 = 0 then none else idxSK 1 x_18 (G.rem .i64 (G.band .i64 a5 255) n_30) fun k_31 N_32 o_33 => rdH h_16 k_31 N_32 fun l_34 => atK l_34 o_33 fun q_35 => asI .i64 (.c q_35) fun n_36 => c1 (C 404 [(.c x_14)] h_16) fun y_38 h_37 => asC y_38 fun x_39 => c1 (C 404 [(.c x_14)] h_37) fun y_41 h_40 => asC y_41 fun x_42 => c2 (C 182 [(.c x_39), (.c (.int .i64 n_29))] h_40) fun y_44 y_45 h_43 => asA y_44 fun l_46 => asB y_45 fun b_47 => if 0 = 0 ∧ (List.replicate 7 (Cell.int .i64 0)).length = 7 ∧ l_46.length = 7 then c2 (C 182 [(.c x_42), (.c (.int .i64 n_36))] h_43) fun y_49 y_50 h_48 => asA y_49 fun l_51 => asB y_50 fun b_52 => if 0 = 0 ∧ (List.replicate 7 (Cell.int .i64 0)).length = 7 ∧ l_51.length = 7 then scK (n_29 == n_36) false (if 0 = 0 ∧ l_46.length = 7 then if 0 = 0 ∧ l_51.length = 7 then c1 (C 390 [(.agg l_46), (.agg l_51), (.c (.int .i64 v_4))] h_48) fun y_54 h_53 => asB y_54 fun b_55 => some (b_55, h_53) else none else none) true h_48 fun b_56 h_57 => if b_56 = true then scK (n_29 != n_36) false (if 0 = 0 ∧ l_46.length = 7 then if 0 = 0 ∧ l_51.length = 7 then c1 (C 390 [(.agg l_46), (.agg l_51), (.c (.int .i64 v_4))] h_57) fun y_59 h_58 => asB y_59 fun b_60 => some (b_60, h_58) else none else none) true h_57 fun b_61 h_62 => scK b_61 true (c1 (C 403 [] h_62) fun y_64 h_63 => asB y_64 fun b_65 => some (b_65, h_63)) false h_62 fun b_66 h_67 => some ([(.c (.bool b_66))], h_67) else c2 (C 182 [(.c x_39), (.c (.int .i64 n_36))] h_57) fun y_69 y_70 h_68 => asA y_69 fun l_71 => asB y_70 fun b_72 => if 0 = 0 ∧ (List.replicate 7 (Cell.int .i64 0)).length = 7 ∧ l_71.length = 7 then c2 (C 182 [(.c x_42), (.c (.int .i64 n_29))] h_68) fun y_74 y_75 h_73 => asA y_74 fun l_76 => asB y_75 fun b_77 => if 0 = 0 ∧ (List.replicate 7 (Cell.int .i64 0)).length = 7 ∧ l_76.length = 7 then scK (!b_72) false (some ((!b_77), h_73)) true h_73 fun b_78 h_79 => scK b_78 false (atK l_71 4 fun q_80 => asI .i64 (.c q_80) fun n_81 => atK l_51 4 fun q_82 => asI .i64 (.c q_82) fun n_83 => some ((n_81 != n_83), h_79)) true h_79 fun b_84 h_85 => scK b_84 false (atK l_71 5 fun q_86 => asI .i64 (.c q_86) fun n_87 => atK l_51 5 fun q_88 => asI .i64 (.c q_88) fun n_89 => some ((n_87 != n_89), h_85)) true h_85 fun b_90 h_91 => scK b_90 false (atK l_76 4 fun q_92 => asI .i64 (.c q_92) fun n_93 => atK l_46 4 fun q_94 => asI .i64 (.c q_94) fun n_95 => some ((n_93 != n_95), h_91)) true h_91 fun b_96 h_97 => scK b_96 false (atK l_76 5 fun q_98 => asI .i64 (.c q_98) fun n_99 => atK l_46 5 fun q_100 => asI .i64 (.c q_100) fun n_101 => some ((n_99 != n_101), h_97)) true h_97 fun b_102 h_103 => scK b_102 false (ptrK x_39 fun k_104 N_105 o_106 => rdH h_103 k_104 N_105 fun l_107 => if (o_106 + 4) + 4 ≤ l_107.length then ptrK x_42 fun k_108 N_109 o_110 => rdH h_103 k_108 N_109 fun l_111 => if (o_110 + 4) + 4 ≤ l_111.length then if alike ((l_107.drop (o_106 + 4)).take 4) ([Cell.int .i64 0, Cell.int .i64 0, Cell.int .i64 0, Cell.int .i64 0]) = true ∧ alike ((l_111.drop (o_110 + 4)).take 4) ([Cell.int .i64 0, Cell.int .i64 0, Cell.int .i64 0, Cell.int .i64 0]) = true then some ((!(decide (((l_107.drop (o_106 + 4)).take 4) = ((l_111.drop (o_110 + 4)).take 4)))), h_103) else none else none else none) true h_103 fun b_112 h_113 => scK b_112 false (ptrK x_39 fun k_114 N_115 o_116 => rdH h_113 k_114 N_115 fun l_117 => if (o_116 + 12) + 20 ≤ l_117.length then ptrK x_42 fun k_118 N_119 o_120 => rdH h_113 k_118 N_119 fun l_121 => if (o_120 + 12) + 20 ≤ l_121.length then if alike ((l_117.drop (o_116 + 12)).take 20) (List.replicate 20 (Cell.int .i64 0)) = true ∧ alike ((l_121.drop (o_120 + 12)).take 20) (List.replicate 20 (Cell.int .i64 0)) = true then some ((!(decide (((l_117.drop (o_116 + 12)).take 20) = ((l_121.drop (o_120 + 12)).take 20)))), h_113) else none else none else none) true h_113 fun b_122 h_123 => if b_122 = true then some ([(.c (.bool false))], h_123) else (L (jacquardlaw21_SleepSwaps_F2 C L G) (jacquardlaw21_SleepSwaps_s2 x_39 x_42 0 h_123)).bind fun p_192 => (jacquardlaw21_SleepSwaps_k3 C L G h0) p_192.1 p_192.2 else none else none else none else none else none else none else none := by kernel_rfl


end Jq

/- Laws of sleepers. -/
namespace Jq
open Go

section
variable {E : Env}

theorem awake21_R (hE : jacquardlaw21_awake_In E) (h : AHeap) : R E 403 [] h = some ([.c (.bool true)], h) := by
  refine R_intro hE.fn ?_
  have e1 : splice (splice (splice (List.replicate 7 (Cell.int .i64 0)) 0 ([(.int .i64 0)] : List Cell)) 1 ([(.int .i64 0)] : List Cell)) 2 ([(.int .i64 1)] : List Cell) = (Stp.mk 0 0 1 0 0 0 0).cs := rfl
  have e2 : splice (splice (splice (List.replicate 7 (Cell.int .i64 0)) 0 ([(.int .i64 1)] : List Cell)) 1 ([(.int .i64 1)] : List Cell)) 2 ([(.int .i64 1)] : List Cell) = (Stp.mk 1 1 1 0 0 0 0).cs := rfl
  have e3 : splice (splice [Cell.int .i64 0, Cell.int .i64 0] 0 ([(.int .i64 0)] : List Cell)) 1 ([(.int .i64 1)] : List Cell) = intC .i64 [0, 1] := rfl
  have k1 : clash (Stp.mk 0 0 1 0 0 0 0) (Stp.mk 1 1 1 0 0 0 0) 1 = false := by decide
  have k2 : iniS (fun _ => 0) [0, 1] 0 [(0 : Int), 1].length = 3 := by decide
  have c2 : clamp 2 = 2 := rfl
  rw [jacquardlaw21_awake_eq, e1, e2, if_pos ⟨rfl, rfl, rfl⟩, if_pos ⟨rfl, rfl, rfl⟩, if_pos ⟨rfl, rfl⟩, if_pos ⟨rfl, rfl⟩, Clash_R hE.c390, c1_ok, asB_ok, k1, Bool.not_false, scK_ok, New_R hE.c9, c1_ok, asA_ok, c2, e3, if_pos (show (intC .i64 [0, 1]).length = 2 * 1 from rfl)]
  have hat : SlAt (h ++ [some ⟨true, 1, intC .i64 [0, 1]⟩]) (.sl h.length (intC .i64 [0, 1]).length 0 2) 1 (intC .i64 [0, 1]) [(0 : Int), 1].length := ⟨rfl, .inr ⟨_, _, 0, rfl, .inr ⟨_, blk_new _ _, rfl, by simp [intC], fun j _ => by simp⟩⟩⟩
  have hi := Initials_R hE.c408 (n := 2) (by omega) words_zero hat (by simp) (a0 := 0) 0 rfl
  rw [hi, c1_ok, asI_ok, k2, bind_ok]
  dsimp only
  have hv1 := Covers_R hE.c368 (a := 1) (b := 0) (by omega) (by omega) (h ++ [some ⟨true, 1, intC .i64 [0, 1]⟩])
  have hv2 := Covers_R hE.c368 (a := 1) (b := 2) (by omega) (by omega) (h ++ [some ⟨true, 1, intC .i64 [0, 1]⟩])
  rw [show ((1 : Nat) : Int) = 1 from rfl, show ((0 : Nat) : Int) = 0 from rfl] at hv1
  rw [show ((1 : Nat) : Int) = 1 from rfl, show ((2 : Nat) : Int) = 2 from rfl] at hv2
  rw [show (((3 : Nat) : Int) == 3) = true from rfl, scK_ok, hv1, c1_ok, asB_ok, bind_ok]
  dsimp only
  rw [show ((0 : Nat) == 0 || (1 &&& 0) != 0) = true from rfl, scK_ok, hv2, c1_ok, asB_ok, bind_ok]
  exact finish_gc (Kp.app _ (Nat.le_refl _)) (by simp [avOk, AV.cells, idOk])

/-- Is there one from a place on that leads there? -/
def ledI (f : Nat → Nat) (a k : Nat) : Nat → Bool
  | 0 => false
  | i + 1 => ledI f a k i || (decide (a ≤ i) && (f i).testBit k)

end
end Jq

/- SleepSwaps: steps that do not clash may be picked in either order. -/
namespace Jq
open Go

/-- Two machines of the document's. -/
structure Duo (n : Nat) (h : AHeap) (pc : List Cell) (k : Nat) (x : Cell) (bs : List Cell) (V : MV) (k' : Nat) (x' : Cell) (bs' : List Cell) (W : MV) : Prop where
  a : RvAt n h k x bs pc V
  b : RvAt n h k' x' bs' pc W
  kk : k ≠ k'
  d : ∀ j, isBlk x j → ¬ isBlk x' j

theorem RvAt.xk {n k k' : Nat} {h : AHeap} {x x' : Cell} {bs bs' pc pc' : List Cell} {V W : MV} (a : RvAt n h k x bs pc V) (b : RvAt n h k' x' bs' pc' W) : ¬ isBlk x k' ∧ ∀ t, t < 4 → ¬ isBlk (bs.getD t .nils) k' ∧ ∀ j, isBlk (bs.getD t .nils) j → ¬ isBlk x' j := by
  refine ⟨fun q => ?_, fun t ht => ⟨fun q => ?_, fun j q q2 => ?_⟩⟩
  · have h1 := a.st.has q
    rw [b.blk] at h1
    have := (Blk.mk.inj (Option.some.inj h1)).2.1
    omega
  · have h1 := (a.bf t ht).1.has q
    rw [b.blk] at h1
    have := (Blk.mk.inj (Option.some.inj h1)).2.1
    omega
  · have h1 := (a.bf t ht).1.has q
    rw [b.st.has q2] at h1
    have := (Blk.mk.inj (Option.some.inj h1)).2.1
    omega

theorem Duo.flip {n : Nat} {h : AHeap} {pc : List Cell} {k : Nat} {x : Cell} {bs : List Cell} {V : MV} {k' : Nat} {x' : Cell} {bs' : List Cell} {W : MV} (D : Duo n h pc k x bs V k' x' bs' W) : Duo n h pc k' x' bs' W k x bs V := ⟨D.b, D.a, fun e => D.kk e.symm, fun j q1 q2 => D.d j q2 q1⟩

/-- The first one goes on. -/
theorem Duo.one {n : Nat} {h : AHeap} {pc : List Cell} {k : Nat} {x : Cell} {bs : List Cell} {V : MV} {k' : Nat} {x' : Cell} {bs' : List Cell} {W : MV} (D : Duo n h pc k x bs V k' x' bs' W) {h1 : AHeap} {x1 : Cell} {bs1 : List Cell} {V1 : MV} (kv : KpV n k x x1 h h1) (a1 : RvAt n h1 k x1 bs1 pc V1) : Duo n h1 pc k x1 bs1 V1 k' x' bs' W := by
  have b := D.b
  have ab := D.a.xk b
  have ba := b.xk D.a
  refine ⟨a1, ⟨Nat.le_trans b.hn kv.kp.1, b.nk, by rw [take_keep kv.kp]; exact b.prog, (kv.old _ _ b.blk (fun e => D.kk e.symm) ab.1).1, b.st.via fun j c q1 q2 => (kv.old j c q2 (fun e => ba.1 (e ▸ q1)) (fun q => D.d j q q1)).1, b.sep, b.bl, fun t ht => ?_⟩, D.kk, fun j q1 q2 => ?_⟩
  · obtain ⟨q1, q2, q3⟩ := b.bf t ht
    exact ⟨q1.via fun j c s1 s2 => (kv.old j c s2 (fun e => (ba.2 t ht).1 (e ▸ s1)) (fun q => (ba.2 t ht).2 j s1 q)).1, q2, q3⟩
  · exact (kv.old j _ (b.st.has q2) (fun e => ba.1 (e ▸ q2)) (fun q => D.d j q q2)).2 q1

theorem clash_self (a b : Stp) (m : Int) (h : a.pick = b.pick) : clash a b m = true := by
  unfold clash
  rw [if_pos (by rw [h, beq_self_eq_true])]

theorem Own.pre {n : Nat} {h : AHeap} {x : Cell} {esz len m : Nat} {cs : List Cell} (o : Own n h x esz cs len) (hm : m ≤ len) :
    ∃ x', (∀ {α : Type} (f : Cell → Option α), sliceK h esz false true x [.v (.c (.int .i64 (m : Int)))] f = f x') ∧ SlAt h x' esz (cs.take (m * esz)) m ∧ Low h.length x' := by
  have hl := o.1
  have hme : m * esz ≤ len * esz := Nat.mul_le_mul_right _ hm
  have hlen : (cs.take (m * esz)).length = m * esz := by rw [List.length_take]; omega
  rcases o.2 with ⟨rfl, rfl⟩ | ⟨k, rfl, _, hb⟩
  · have : m = 0 := by omega
    subst this
    exact ⟨.nils, fun f => rfl, ⟨hlen, .inl ⟨rfl, rfl⟩⟩, trivial⟩
  · refine ⟨.sl k cs.length (0 + 0 * esz) (m - 0), fun f => ?_, ⟨hlen, .inr ⟨k, cs.length, 0 + 0 * esz, rfl, .inr ⟨_, hb, rfl, ?_, fun j hj => ?_⟩⟩⟩, .inr (blk_lt' hb)⟩
    · have hok : okSl h esz k cs.length = true := by unfold okSl; rw [hb]; simp
      unfold sliceK boundsK
      simp only
      rw [if_pos hok, if_pos ⟨by omega, by omega⟩, Int.toNat_natCast]
    · omega
    · rw [List.getElem?_take, if_pos hj]; simp

theorem ptrK_p {α : Type} {k N o : Nat} {f : Nat → Nat → Nat → Option α} : ptrK (.ptr k N o) f = f k N o := rfl

theorem rv_lcs {V : MV} {pc bs : List Cell} {x : Cell} (f : V.Fit) (hpc : pc.length = 3) : ((rvC pc V bs x).drop (0 + 12)).take 20 = V.lc.flatMap Lcl.cs := by
  have e2 : (V.lc.flatMap Lcl.cs).length = 20 := by rw [flat_len (f.lcs hpc), f.lc]
  have e3 : rvC pc V bs x = (pc ++ (([.int .i64 V.m] : List Cell) ++ (intC .i64 V.mem ++ intC .i64 V.frm))) ++ (V.lc.flatMap Lcl.cs ++ (bs ++ [x])) := by unfold rvC; simp only [List.append_assoc]
  rw [e3]
  refine seg_get ?_ e2
  rw [List.length_append, List.length_append, List.length_append, intC_len, intC_len, f.mem, f.frm, hpc]; rfl

theorem AlikeQ.eqs {X Y : MV} (a : AlikeQ X Y) (f : X.Fit) (g : Y.Fit) : X.mem = Y.mem ∧ X.lc = Y.lc := by
  refine ⟨List.ext_getElem? fun i => ?_, List.ext_getElem? fun i => ?_⟩
  · have := a.mem i
    unfold MQ at this
    rcases Nat.lt_or_ge i 4 with c | c
    · rw [List.getD_eq_getElem?_getD, List.getD_eq_getElem?_getD] at this
      rw [List.getElem?_eq_getElem (by rw [f.mem]; exact c), List.getElem?_eq_getElem (by rw [g.mem]; exact c)] at this ⊢
      exact congrArg some this
    · rw [List.getElem?_eq_none (by rw [f.mem]; exact c), List.getElem?_eq_none (by rw [g.mem]; exact c)]
  · have := a.l i
    unfold MV.l at this
    rcases Nat.lt_or_ge i 4 with c | c
    · rw [List.getD_eq_getElem?_getD, List.getD_eq_getElem?_getD] at this
      rw [List.getElem?_eq_getElem (by rw [f.lc]; exact c), List.getElem?_eq_getElem (by rw [g.lc]; exact c)] at this ⊢
      exact congrArg some this
    · rw [List.getElem?_eq_none (by rw [f.lc]; exact c), List.getElem?_eq_none (by rw [g.lc]; exact c)]

theorem lcs_ints (V : MV) : ∀ c ∈ V.lc.flatMap Lcl.cs, ∃ v, c = .int .i64 v := by
  intro c hc
  obtain ⟨l, _, hl⟩ := List.mem_flatMap.1 hc
  unfold Lcl.cs at hl
  simp at hl
  rcases hl with rfl | rfl | rfl | rfl | rfl <;> exact ⟨_, rfl⟩

section
variable {E : Env}

/-- The rows that wait are alike. -/
theorem bufs_alike (h0 : AHeap) {n : Nat} {h : AHeap} {pc : List Cell} {k : Nat} {x : Cell} {bs : List Cell} {V : MV} {k' : Nat} {x' : Cell} {bs' : List Cell} {W : MV} (D : Duo n h pc k x bs V k' x' bs' W) (f : V.Fit) (g : W.Fit) (hb : ∀ t, BQ V t = BQ W t) (aw : R E 403 [] h = some ([.c (.bool true)], h)) :
    (Lim (jacquardlaw21_SleepSwaps_F2 (R E) Lim E.glob) (jacquardlaw21_SleepSwaps_s2 (.ptr k 37 0) (.ptr k' 37 0) 0 h)).bind (fun p_192 => (jacquardlaw21_SleepSwaps_k3 (R E) Lim E.glob h0) p_192.1 p_192.2) = some ([.c (.bool true)], h) := by
  have hpc := D.a.prog.len
  have hpc' := D.b.prog.len
  have rd : ∀ {α : Type} {F : List Cell → Option α}, rdH h k 37 F = F (rvC pc V bs x) := fun {α F} => rdH_ok D.a.blk (rv_len f hpc D.a.bl)
  have rd' : ∀ {α : Type} {F : List Cell → Option α}, rdH h k' 37 F = F (rvC pc W bs' x') := fun {α F} => rdH_ok D.b.blk (rv_len g hpc' D.b.bl)
  have len24 : ∀ t, t < 4 → (V.b t).length ≤ 24 := fun t ht => by
    refine f.b _ ?_
    unfold MV.b
    rw [List.getD_eq_getElem?_getD, List.getElem?_eq_getElem (by rw [f.bf]; exact ht)]
    exact List.getElem_mem _
  have inner : ∀ t : Nat, t < 4 → Lim (jacquardlaw21_SleepSwaps_F1 (R E) Lim E.glob) (jacquardlaw21_SleepSwaps_s1 (.ptr k 37 0) (.ptr k' 37 0) (t : Int) ((0 : Nat) : Int) h) = some (.exit 2, jacquardlaw21_SleepSwaps_x1_3 (.ptr k 37 0) (.ptr k' 37 0) (t : Int) h) := fun t ht => by
    obtain ⟨o1, _, _⟩ := D.a.bf t ht
    obtain ⟨o2, _, _⟩ := D.b.bf t ht
    have hbt := hb t
    unfold BQ at hbt
    have hlen : (V.b t).length = (W.b t).length := by
      have := congrArg List.length hbt
      rwa [List.length_map, List.length_map] at this
    refine Lim_count (F := jacquardlaw21_SleepSwaps_F1 (R E) Lim E.glob) (fun q => jacquardlaw21_SleepSwaps_s1 (.ptr k 37 0) (.ptr k' 37 0) (t : Int) (q : Int) h) 0 (V.b t).length (by omega) (fun q _ hq => ?_) (Lim_exit ?_)
    · have q1 := List.getElem?_eq_getElem hq
      have q2 := List.getElem?_eq_getElem (show q < (W.b t).length by omega)
      have hp : pr (V.b t)[q] = pr ((W.b t)[q]'(by omega)) := by
        have := congrArg (fun z => z[q]?) hbt
        simp only [List.getElem?_map, q1, q2, Option.map_some] at this
        exact Option.some.inj this
      generalize (V.b t)[q] = e1 at q1 hp
      generalize (W.b t)[q]'(by omega) = e2 at q2 hp
      unfold pr at hp
      have hl := (Prod.mk.inj hp).1
      have hv := (Prod.mk.inj hp).2
      have := len24 t ht
      rw [jacquardlaw21_SleepSwaps_r1]
      simp only [ptrK_p, rd, rd', Int.toNat_natCast]
      rw [if_pos (by omega), rv_buf f hpc D.a.bl ht, o1.at.len, if_pos (by simp; omega), if_pos (by omega), rv_buf f hpc D.a.bl ht, ent_loc o1.at q1, asI_ok, if_pos (by omega), rv_buf g hpc' D.b.bl ht, ent_loc o2.at q2, asI_ok,
        show (e1.loc != e2.loc) = false by rw [hl]; simp, scK_ok, if_pos (by omega), rv_buf f hpc D.a.bl ht, ent_val o1.at q1, asI_ok, if_pos (by omega), rv_buf g hpc' D.b.bl ht, ent_val o2.at q2, asI_ok, show (e1.val != e2.val) = false by rw [hv]; simp, bind_ok]
      dsimp only
      rw [if_neg (by simp), g_succ (by omega)]
    · rw [jacquardlaw21_SleepSwaps_r1]
      simp only [ptrK_p, rd, Int.toNat_natCast]
      rw [if_pos (by omega), rv_buf f hpc D.a.bl ht, o1.at.len, if_neg (by simp)]
  have lp : Lim (jacquardlaw21_SleepSwaps_F2 (R E) Lim E.glob) (jacquardlaw21_SleepSwaps_s2 (.ptr k 37 0) (.ptr k' 37 0) ((0 : Nat) : Int) h) = some (.exit 0, jacquardlaw21_SleepSwaps_x2_1 h) := by
    refine Lim_count (F := jacquardlaw21_SleepSwaps_F2 (R E) Lim E.glob) (fun q => jacquardlaw21_SleepSwaps_s2 (.ptr k 37 0) (.ptr k' 37 0) (q : Int) h) 0 4 (by omega) (fun t _ ht => ?_) (Lim_exit ?_)
    · obtain ⟨o1, _, _⟩ := D.a.bf t ht
      obtain ⟨o2, _, _⟩ := D.b.bf t ht
      have hlen : (V.b t).length = (W.b t).length := by
        have := congrArg List.length (hb t)
        unfold BQ at this
        rwa [List.length_map, List.length_map] at this
      have hi := inner t ht
      rw [show ((0 : Nat) : Int) = 0 from rfl] at hi
      rw [jacquardlaw21_SleepSwaps_r2, if_pos (by simp; omega)]
      simp only [ptrK_p, rd, rd', Int.toNat_natCast]
      rw [if_pos (by omega), rv_buf f hpc D.a.bl ht, o1.at.len, if_pos (by omega), rv_buf g hpc' D.b.bl ht, o2.at.len, if_neg (by rw [hlen]; simp), hi, bind_ok]
      dsimp only
      rw [jacquardlaw21_SleepSwaps_e1_3, g_succ (by omega)]
    · rw [jacquardlaw21_SleepSwaps_r2, if_neg (by simp)]
  rw [show ((0 : Nat) : Int) = 0 from rfl] at lp
  rw [lp, bind_ok]
  dsimp only
  rw [jacquardlaw21_SleepSwaps_e2_1, aw, c1_ok, asB_ok]

set_option maxHeartbeats 2000000 in
theorem SleepSwaps_law (hE : jacquardlaw21_SleepSwaps_In E) {h : AHeap} {c0 c1' c2' c3' c4' c5' : List Cell} (o0 : okC h (.sl (.i .i64)) c0) (o1 : okC h (.i .i64) c1') (o2 : okC h (.sl (.i .i64)) c2') (o3 : okC h (.i .i64) c3') (o4 : okC h (.i .i64) c4') (o5 : okC h (.i .i64) c5') :
    ∃ h', R E 405 [av1 (.sl (.i .i64)) c0, av1 (.i .i64) c1', av1 (.sl (.i .i64)) c2', av1 (.i .i64) c3', av1 (.i .i64) c4', av1 (.i .i64) c5'] h = some ([.c (.bool true)], h') := by
  obtain ⟨x, l, ha0, hx, hlow, _, hml⟩ := arg_ints o0
  obtain ⟨m0, ha1, _⟩ := arg_int o1
  obtain ⟨y, ps, ha2, hy, hylow, _, hpl⟩ := arg_ints o2
  obtain ⟨n0, ha3, _⟩ := arg_int o3
  obtain ⟨i0, ha4, _⟩ := arg_int o4
  obtain ⟨k0, ha5, _⟩ := arg_int o5
  obtain ⟨cs, h1, P, r1, p1, g1, g2, hu, k1⟩ := OfP_R hE.c76 hx hlow (by unfold maxLen at hml; omega) (most := 10) (by omega)
  have hb1 := g_rem3 (E := E) m0
  have hm1 : E.glob.wrap .i64 (E.glob.rem .i64 (E.glob.band .i64 m0 255) 3 + 1) = E.glob.rem .i64 (E.glob.band .i64 m0 255) 3 + 1 := g_wrap_i64 (by omega) (by omega)
  generalize hmm : E.glob.rem .i64 (E.glob.band .i64 m0 255) 3 + 1 = m at hm1
  have hm13 : 1 ≤ m ∧ m ≤ 3 := by omega
  have gn := g1.n
  have gi := g1.init
  have gg := g1.good
  have inv := g1.inv g2 hm13
  obtain ⟨z, row, h2, r2, oz, k2, hw, h60, _⟩ := Any_R hE.c254 p1 gg (by omega) (by omega) hm13 inv (hy.keep hylow k1) (by
    rcases y with _ | _ | _ | _ | _ | _ | _ | _ | _ | _ <;> first | exact hylow | exact hylow.imp id fun q => Nat.lt_of_lt_of_le q k1.1)
  have hlr : E.glob.wrap .i64 ((row.length : Int) + 1) = (row.length : Int) + 1 := g_wrap_i64 (by omega) (by omega)
  have hb2 := g_band16 (E := E) (x := n0)
  have hrng := rem_rng (E := E) (x := E.glob.band .i64 n0 65535) (m := (row.length : Int) + 1) hb2.1 (by omega)
  obtain ⟨nn, hnn⟩ := Int.eq_ofNat_of_zero_le hrng.1
  have hnl : nn ≤ row.length := by omega
  obtain ⟨z', ez, sz, lz⟩ := oz.pre hnl
  rw [Nat.mul_one, show (intC .i64 row).take nn = intC .i64 (row.take nn) by unfold intC; rw [List.map_take]] at sz
  have hwn := MV.whole_take hw nn
  have htl : (row.take nn).length = nn := by rw [List.length_take]; omega
  have p2 := p1.keep k2
  have sz' : SlAt h2 z' 1 (intC .i64 (row.take nn)) (row.take nn).length := by rw [htl]; exact sz
  obtain ⟨zs, bs, h3, r3, a3, k3⟩ := rRun_R hE.c186 p2 gg (by omega) (by omega) hm13 inv sz' lz (by omega)
  obtain ⟨v, vP, vm⟩ := MV.runs_inv inv (row.take nn)
  have vst := MV.runs_st inv hwn
  rw [show (MV.new P m).st.length = 0 from rfl, Nat.zero_add] at vst
  change RvAt h2.length h3 h2.length zs bs cs ((MV.new P m).runs (row.take nn)) at a3
  generalize (MV.new P m).runs (row.take nn) = V at *
  generalize ((MV.new P m).runG (row.take nn)).2 = cnt0 at *
  have vP' : V.P = P := vP
  have vm' : V.m = m := vm
  have hg' : V.P.good := by rw [vP']; exact gg
  obtain ⟨x6, h4, r4, oe, k4⟩ := rEnabled_R hE.c181 a3 v.fit hg'
  have a4 := a3.keep k4
  rw [ha0, ha1, ha2, ha3, ha4, ha5]
  by_cases h2' : (bitsL V.word).length < 2
  · refine ⟨h4, R_intro hE.fn ?_⟩
    rw [jacquardlaw21_SleepSwaps_eq, show ((10 : Int)) = ((10 : Nat) : Int) from rfl, r1, c1_ok, asA_ok, if_pos (by exact ⟨rfl, rfl, p1.len⟩), hmm, hm1, if_pos (by exact ⟨rfl, p1.len⟩), r2, c1_ok, asC_ok, oz.at.len, hlr, if_neg (by omega), hnn]
    dsimp only
    rw [if_pos (by exact ⟨rfl, p1.len⟩), ez, r3, c2_ok, asC_ok, asI_ok, r4, c1_ok, asC_ok, oe.at.len, if_pos (by simp; omega), awake21_R hE.c403, c1_ok, asB_ok]
  · have hb4 := g_band255 (E := E) (x := i0)
    have hb5 := g_band255 (E := E) (x := k0)
    have hr4 := rem_rng (E := E) (x := E.glob.band .i64 i0 255) (m := ((bitsL V.word).length : Int)) (by omega) (by omega)
    have hr5 := rem_rng (E := E) (x := E.glob.band .i64 k0 255) (m := ((bitsL V.word).length : Int)) (by omega) (by omega)
    obtain ⟨a, hma, hca⟩ := chooseR oe hr4.1 hr4.2
    obtain ⟨b, hmb, hcb⟩ := chooseR oe hr5.1 hr5.2
    obtain ⟨x1, bs1, h5, r5, a5, k5, lo5⟩ := rCopy_R hE.c404 a4 v.fit (by omega)
    obtain ⟨x2, bs2, h6, r6, a6, k6, lo6⟩ := rCopy_R hE.c404 (a4.keep k5) v.fit (by omega)
    have D6 : Duo h2.length h6 cs h4.length x1 bs1 V h5.length x2 bs2 V := ⟨a5.keep k6, a6, fun e => by have := blk_lt' a5.blk; omega, fun j q1 q2 => by
      have h7 := (a5.st.blkLt' q1).2
      have h8 := lo6 j q2
      omega⟩
    obtain ⟨x7, bs7, h7, r7, a7, k7⟩ := rPick_R hE.c182 D6.a v hg' (by omega) hma
    have D7 := D6.one k7 a7
    obtain ⟨x8, bs8, h8, r8, a8, k8⟩ := rPick_R hE.c182 D7.b v hg' (by omega) hmb
    have D8 := (D7.flip.one k8 a8).flip
    have pre : ∀ {r : List AV × AHeap}, _ = some r → R E 405 [.c x, .c (.int .i64 m0), .c y, .c (.int .i64 n0), .c (.int .i64 i0), .c (.int .i64 k0)] h = some r := fun {r} hr => by
      refine R_intro hE.fn ?_
      rw [jacquardlaw21_SleepSwaps_eq, show ((10 : Int)) = ((10 : Nat) : Int) from rfl, r1, c1_ok, asA_ok, if_pos (by exact ⟨rfl, rfl, p1.len⟩), hmm, hm1, if_pos (by exact ⟨rfl, p1.len⟩), r2, c1_ok, asC_ok, oz.at.len, hlr, if_neg (by omega), hnn]
      dsimp only
      rw [if_pos (by exact ⟨rfl, p1.len⟩), ez, r3, c2_ok, asC_ok, asI_ok, r4, c1_ok, asC_ok, oe.at.len, if_neg (by simp; omega), oe.at.len, if_neg (by omega), hca h4 (fun _ _ _ q => q), asI_ok, oe.at.len, if_neg (by omega), hcb h4 (fun _ _ _ q => q), asI_ok,
        r5, c1_ok, asC_ok, r6, c1_ok, asC_ok, r7, c2_ok, asA_ok, asB_ok, if_pos (by exact ⟨rfl, rfl, rfl⟩), r8, c2_ok, asA_ok, asB_ok, if_pos (by exact ⟨rfl, rfl, rfl⟩)]
      exact hr
    by_cases hab : a = b
    · subst hab
      have hcl := clash_self (V.stp a) (V.stp a) m rfl
      refine ⟨h8, pre ?_⟩
      rw [beq_self_eq_true, scK_tf, if_pos rfl, show ((a : Int) != (a : Int)) = false by simp, scK_ok, if_pos (by exact ⟨rfl, rfl⟩), if_pos (by exact ⟨rfl, rfl⟩), Clash_R hE.c390, c1_ok, asB_ok, hcl, bind_ok]
      dsimp only
      rw [scK_ok, awake21_R hE.c403, c1_ok, asB_ok, bind_ok]
    · by_cases hc : clash (V.stp a) (V.stp b) m = true
      · refine ⟨h8, pre ?_⟩
        rw [show ((a : Int) == (b : Int)) = false by rw [beq_eq_false_iff_ne]; omega, scK_ok, if_pos (by exact ⟨rfl, rfl⟩), if_pos (by exact ⟨rfl, rfl⟩), Clash_R hE.c390, c1_ok, asB_ok, hc, bind_ok]
        dsimp only
        rw [if_pos rfl, show ((a : Int) != (b : Int)) = true by rw [bne_iff_ne]; omega, scK_tf, scK_ok, awake21_R hE.c403, c1_ok, asB_ok, bind_ok]
      · have hc' : clash (V.stp a) (V.stp b) V.m = false := by rw [vm']; simpa using hc
        obtain ⟨m1, m2, er, ew, fr, fw, AQ⟩ := swap v hma hmb hab hc'
        have va := v.nx hma
        have vb := v.nx hmb
        have sa : (V.nx a).st.length = V.st.length + 1 := by rw [V.nx_st, List.length_append, List.length_singleton]
        have sb : (V.nx b).st.length = V.st.length + 1 := by rw [V.nx_st, List.length_append, List.length_singleton]
        obtain ⟨x9, bs9, h9, r9, a9, k9⟩ := rPick_R hE.c182 D8.a va (by rw [(V.nx_P a).1]; exact hg') (by omega) m1
        have D9 := D8.one k9 a9
        obtain ⟨x10, bs10, h10, r10, a10, k10⟩ := rPick_R hE.c182 D9.b vb (by rw [(V.nx_P b).1]; exact hg') (by omega) m2
        have D10 := (D9.flip.one k10 a10).flip
        have v9 := va.nx m1
        have v10 := vb.nx m2
        obtain ⟨em, el⟩ := AQ.eqs v9.fit v10.fit
        have fin := bufs_alike (E := E) h D10 v9.fit v10.fit AQ.b (awake21_R hE.c403 h10)
        have hpc := D10.a.prog.len
        have hpc' := D10.b.prog.len
        have l9 := rv_len (x := x9) v9.fit hpc D10.a.bl
        have l10 := rv_len (x := x10) v10.fit hpc' D10.b.bl
        refine ⟨h10, pre ?_⟩
        rw [show ((a : Int) == (b : Int)) = false by rw [beq_eq_false_iff_ne]; omega, scK_ok, if_pos (by exact ⟨rfl, rfl⟩), if_pos (by exact ⟨rfl, rfl⟩), Clash_R hE.c390, c1_ok, asB_ok, show clash (V.stp a) (V.stp b) m = false by simpa using hc, bind_ok]
        dsimp only
        rw [if_neg (by simp), r9, c2_ok, asA_ok, asB_ok, if_pos (by exact ⟨rfl, rfl, rfl⟩), r10, c2_ok, asA_ok, asB_ok, if_pos (by exact ⟨rfl, rfl, rfl⟩), Bool.not_true, scK_ok, bind_ok]
        dsimp only
        rw [scK_ok, stp_r, asI_ok, stp_r, asI_ok, er, show ((V.stp b).r != (V.stp b).r) = false by simp, bind_ok]
        dsimp only
        rw [scK_ok, stp_w, asI_ok, stp_w, asI_ok, ew, show ((V.stp b).w != (V.stp b).w) = false by simp, bind_ok]
        dsimp only
        rw [scK_ok, stp_r, asI_ok, stp_r, asI_ok, fr, show ((V.stp a).r != (V.stp a).r) = false by simp, bind_ok]
        dsimp only
        rw [scK_ok, stp_w, asI_ok, stp_w, asI_ok, fw, show ((V.stp a).w != (V.stp a).w) = false by simp, bind_ok]
        dsimp only
        rw [scK_ok, ptrK_p, rdH_ok D10.a.blk l9, if_pos (by rw [l9]; omega), ptrK_p, rdH_ok D10.b.blk l10, if_pos (by rw [l10]; omega), rv_mems v9.fit hpc, rv_mems v10.fit hpc', em,
          if_pos ⟨alike_ints _ 4 (by rw [intC_len, v10.fit.mem]) (fun c hc => by unfold intC at hc; obtain ⟨q, _, rfl⟩ := List.mem_map.1 hc; exact ⟨q, rfl⟩), alike_ints _ 4 (by rw [intC_len, v10.fit.mem]) (fun c hc => by unfold intC at hc; obtain ⟨q, _, rfl⟩ := List.mem_map.1 hc; exact ⟨q, rfl⟩)⟩,
          decide_eq_true (show intC .i64 _ = intC .i64 _ from rfl), Bool.not_true, bind_ok]
        dsimp only
        rw [scK_ok, ptrK_p, rdH_ok D10.a.blk l9, if_pos (by rw [l9]; omega), ptrK_p, rdH_ok D10.b.blk l10, if_pos (by rw [l10]; omega), rv_lcs v9.fit hpc, rv_lcs v10.fit hpc', el,
          if_pos ⟨alike_ints _ 20 (by rw [flat_len (v10.fit.lcs hpc'), v10.fit.lc]) (lcs_ints _), alike_ints _ 20 (by rw [flat_len (v10.fit.lcs hpc'), v10.fit.lc]) (lcs_ints _)⟩,
          decide_eq_true (show List.flatMap Lcl.cs _ = List.flatMap Lcl.cs _ from rfl), Bool.not_true, bind_ok]
        dsimp only
        rw [if_neg (by simp)]
        exact fin
end
end Jq

/- SleepSwaps: whatever the input the call says true, and each argument reads behind it as before. No conditions. -/
namespace Go.Proofs.Ytkgaeiihabibmaa.LSleepSwaps
open Go Jq Go.ChangeShapes Go.WideShapes Go.ChangeAt Go.RowKit
set_option linter.unusedVariables false

theorem own : ownKnob Try.prog.godebug = none := by kernel_rfl
theorem laidOut : laidOutB Try.prog = true := by kernel_rfl

set_option maxRecDepth 100000 in
theorem lifted (os : Os) (started : os.Started) (H : Type) (enc : TypeId × Value → H) :
    ReturnsInHanded {} Try.checked os 3 .any (Rows.sleepSwapsSpec.pre6 enc Try.prog Try.f3 Rows.sleepSwapsRow.domain false) (Rows.sleepSwapsSpec.post enc Try.prog Try.f3 false true false false) := by
  refine returnsInHanded_of_change (C := Try.checked) own started (by kernel_rfl) Try.func3
    (ChangeSpec.witness6 (enc := enc) (C := Try.checked) false ⟨#[], #[.slice none 0 0, .int .i64 0, .slice none 0 0, .int .i64 0, .int .i64 0, .int .i64 0], []⟩ 8 (by kernel_rfl) (by kernel_rfl) (by kernel_rfl) (by kernel_rfl)) ?_
  intro W base args ds gs before hval0 hW hcnd _
  have hval : ∀ (j : Nat) t v, Try.f3.params[j]? = some t → args[j]? = some v → Value.okWide Try.prog W .any base t v := hval0
  have hW' := hW
  obtain ⟨p, q, hA0, hV, rfl, hfz, hnd⟩ := hW
  have hA : DataW.TrodAll enc Try.prog W 0 (fun _ => true) true Try.f3.params.toList args.toList ds p := hA0
  rw [Try.params3] at hA hval
  obtain ⟨v0, vs0, d0, ds0, p0, q0, hargs, rfl, rfl, h0, r0⟩ := trodAll_cons hA
  obtain ⟨v1, vs1, d1, ds1, p1, q1, rfl, rfl, rfl, h1, r1⟩ := trodAll_cons r0
  obtain ⟨v2, vs2, d2, ds2, p2, q2, rfl, rfl, rfl, h2, r2⟩ := trodAll_cons r1
  obtain ⟨v3, vs3, d3, ds3, p3, q3, rfl, rfl, rfl, h3, r3⟩ := trodAll_cons r2
  obtain ⟨v4, vs4, d4, ds4, p4, q4, rfl, rfl, rfl, h4, r4⟩ := trodAll_cons r3
  obtain ⟨v5, vs5, d5, ds5, p5, q5, rfl, rfl, rfl, h5, r5⟩ := trodAll_cons r4
  obtain ⟨rfl, rfl, rfl⟩ := trodAll_nil r5
  obtain rfl : args = #[v0, v1, v2, v3, v4, v5] := by cases args; simp_all
  obtain ⟨rfl, rfl⟩ := trodVars_none hV
  have lt0 : ∀ x ∈ p0, x.block < W.heap.size := by obtain ⟨m, hm⟩ := h0; exact DataW.trod_lt m _ _ _ hm
  have lt1 : ∀ x ∈ p1, x.block < W.heap.size := by obtain ⟨m, hm⟩ := h1; exact DataW.trod_lt m _ _ _ hm
  have lt2 : ∀ x ∈ p2, x.block < W.heap.size := by obtain ⟨m, hm⟩ := h2; exact DataW.trod_lt m _ _ _ hm
  have lt3 : ∀ x ∈ p3, x.block < W.heap.size := by obtain ⟨m, hm⟩ := h3; exact DataW.trod_lt m _ _ _ hm
  have lt4 : ∀ x ∈ p4, x.block < W.heap.size := by obtain ⟨m, hm⟩ := h4; exact DataW.trod_lt m _ _ _ hm
  have lt5 : ∀ x ∈ p5, x.block < W.heap.size := by obtain ⟨m, hm⟩ := h5; exact DataW.trod_lt m _ _ _ hm
  have c := Come.nil (S := seat) (W := W) (fun _ => rfl)
  have k0 : ((.sl (.i .i64)) : Sh).chk seat.P 22 = true := by kernel_rfl
  obtain ⟨b0, ρ0, cs0, c0, e0, x0, a0, o0⟩ := opens_arg (S := seat) (W := W) (sh := (.sl (.i .i64))) k0 h0 (wide_of k0 (hval 0 22 v0 rfl rfl)) ⟨nofun, nofun⟩ c
  have k1 : ((.i .i64) : Sh).chk seat.P 3 = true := by kernel_rfl
  obtain ⟨b1, ρ1, cs1, c1, e1, x1, a1, o1⟩ := opens_arg (S := seat) (W := W) (sh := (.i .i64)) k1 h1 (wide_of k1 (hval 1 3 v1 rfl rfl)) ⟨nofun, nofun⟩ c0
  have k2 : ((.sl (.i .i64)) : Sh).chk seat.P 22 = true := by kernel_rfl
  obtain ⟨b2, ρ2, cs2, c2, e2, x2, a2, o2⟩ := opens_arg (S := seat) (W := W) (sh := (.sl (.i .i64))) k2 h2 (wide_of k2 (hval 2 22 v2 rfl rfl)) ⟨nofun, nofun⟩ c1
  have k3 : ((.i .i64) : Sh).chk seat.P 3 = true := by kernel_rfl
  obtain ⟨b3, ρ3, cs3, c3, e3, x3, a3, o3⟩ := opens_arg (S := seat) (W := W) (sh := (.i .i64)) k3 h3 (wide_of k3 (hval 3 3 v3 rfl rfl)) ⟨nofun, nofun⟩ c2
  have k4 : ((.i .i64) : Sh).chk seat.P 3 = true := by kernel_rfl
  obtain ⟨b4, ρ4, cs4, c4, e4, x4, a4, o4⟩ := opens_arg (S := seat) (W := W) (sh := (.i .i64)) k4 h4 (wide_of k4 (hval 4 3 v4 rfl rfl)) ⟨nofun, nofun⟩ c3
  have k5 : ((.i .i64) : Sh).chk seat.P 3 = true := by kernel_rfl
  obtain ⟨b5, ρ5, cs5, c5, e5, x5, a5, o5⟩ := opens_arg (S := seat) (W := W) (sh := (.i .i64)) k5 h5 (wide_of k5 (hval 5 3 v5 rfl rfl)) ⟨nofun, nofun⟩ c4
  obtain ⟨h', hR⟩ := SleepSwaps_law (E := env) in_405 (okC_mono x5 _ _ (okC_mono x4 _ _ (okC_mono x3 _ _ (okC_mono x2 _ _ (okC_mono x1 _ _ o0))))) (okC_mono x5 _ _ (okC_mono x4 _ _ (okC_mono x3 _ _ (okC_mono x2 _ _ o1)))) (okC_mono x5 _ _ (okC_mono x4 _ _ (okC_mono x3 _ _ o2))) (okC_mono x5 _ _ (okC_mono x4 _ _ o3)) (okC_mono x5 _ _ o4) o5
  refine (law_call (S := seat) (R_sound (S := seat) (E := env) rfl allOk) c5 (vals := #[v0, v1, v2, v3, v4, v5]) (L2.cons (relA.mono e5 (relA.mono e4 (relA.mono e3 (relA.mono e2 (relA.mono e1 a0))))) (L2.cons (relA.mono e5 (relA.mono e4 (relA.mono e3 (relA.mono e2 a1)))) (L2.cons (relA.mono e5 (relA.mono e4 (relA.mono e3 a2))) (L2.cons (relA.mono e5 (relA.mono e4 a3)) (L2.cons (relA.mono e5 a4) (L2.cons a5 L2.nil)))))) hR).mono fun e W' ⟨he, bel⟩ => ?_
  subst he
  exact ⟨_, rfl, _, _, _, [], _, [], hW', trodAll_mk1 (shut_bool Try.underlying4 _), (trodAll_cons_mk (Below.trod laidOut (by kernel_rfl) (of_decide_eq_true (by kernel_rfl)) h0 bel lt0) (trodAll_cons_mk (Below.trod laidOut (by kernel_rfl) (of_decide_eq_true (by kernel_rfl)) h1 bel lt1) (trodAll_cons_mk (Below.trod laidOut (by kernel_rfl) (of_decide_eq_true (by kernel_rfl)) h2 bel lt2) (trodAll_cons_mk (Below.trod laidOut (by kernel_rfl) (of_decide_eq_true (by kernel_rfl)) h3 bel lt3) (trodAll_cons_mk (Below.trod laidOut (by kernel_rfl) (of_decide_eq_true (by kernel_rfl)) h4 bel lt4) (trodAll_cons_mk (Below.trod laidOut (by kernel_rfl) (of_decide_eq_true (by kernel_rfl)) h5 bel lt5) trodAll_mk0)))))), rfl, bel.frame _, fun h => by cases h⟩

theorem over : Rows.sleepSwapsRow.holds Try.pinned (OpenSpec.ofChange Rows.sleepSwapsSpec) :=
  OpenClaim.holds_of_wide 3 Try.f3 rfl rfl rfl rfl rfl rfl rfl ⟨rfl, rfl, rfl, rfl, rfl⟩ rfl rfl rfl rfl rfl (by kernel_rfl) Try.func3 (by kernel_rfl)
    (of_decide_eq_true (by kernel_rfl)) (by unfold Func.isWrapper; first | (rw [if_pos (by decide +kernel)]; kernel_rfl) | (rw [if_neg (by decide +kernel)]; exact ⟨rfl, rfl⟩))
    (fun os started H enc _ => lifted os started H enc)

theorem proved : Rows.SleepSwapsSaid := over
#print axioms proved

end Go.Proofs.Ytkgaeiihabibmaa.LSleepSwaps

