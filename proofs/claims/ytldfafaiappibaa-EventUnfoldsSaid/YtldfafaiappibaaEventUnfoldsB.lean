/- YtldfafaiappibaaEventUnfoldsB: a part of the proof; no conditions of its own. -/
import Derived.KernelRfl
import Derived.Test.YtldfafaiappibaaEventUnfoldsA
set_option linter.unusedVariables false
set_option linter.unusedSimpArgs false

/- Programs as the document says: what is done at once, what comes next. -/
namespace Jq
open Go

theorem wrap_res {x y : Int} (h : x % 18446744073709551616 = y % 18446744073709551616) : IntKind.wrap .i64 x = IntKind.wrap .i64 y := by
  simp only [IntKind.wrap, IntKind.signed, IntKind.bits, Bool.true_and]
  split
  · rename_i h1
    have h1 := of_decide_eq_true h1
    split
    · omega
    · rename_i h2; exact absurd (decide_eq_true (by omega)) h2
  · rename_i h1
    split
    · rename_i h2
      have h2 := of_decide_eq_true h2
      exact absurd (decide_eq_true (by omega)) h1
    · omega

theorem u64_mod (x : Int) : IntKind.wrap .u64 x = x % 18446744073709551616 := by
  simp only [IntKind.wrap, IntKind.signed, IntKind.bits, Bool.false_and, Bool.false_eq_true, if_false]; rfl

/-- An instruction that may be, in a thread of so many. -/
structure GoodI (len : Nat) (i : Ins) : Prop where
  kind : 1 ≤ i.kind ∧ i.kind ≤ 6
  reg : i.kind = 2 ∨ i.kind = 4 ∨ i.kind = 5 → 0 ≤ i.reg ∧ i.reg < 4
  op : i.kind = 5 → 0 ≤ i.op ∧ i.op ≤ 11
  n : i.kind = 6 → 0 ≤ i.n ∧ i.n ≤ len

def GoodC (code : List Ins) : Prop := ∀ i ∈ code, GoodI code.length i

section
variable {E : Env}

theorem refValue_R (hE : jacquardref6_Value_In E) (o : Opd) (l : Lcl) (h : AHeap) : R E 92 [.agg o.cs, .agg l.cs] h = some ([.c (.int .i64 (opV o l))], h) := by
  refine R_intro hE.fn ?_
  have a0 : ∀ {α : Type} (f : Cell → Option α), atK o.cs 0 f = f (.int .i64 o.reg) := fun _ => rfl
  have a1 : ∀ {α : Type} (f : Cell → Option α), atK o.cs 1 f = f (.int .i64 o.val) := fun _ => rfl
  unfold opV
  rw [jacquardref6_Value_eq]
  simp only [a0, a1, asI_ok, scK_and]
  by_cases h1 : 0 ≤ o.reg ∧ o.reg < 4
  · rw [if_pos (by simp; omega), if_pos ⟨h1.1, h1.2⟩, if_pos h1, atK_ok (lcl_get h1.1 h1.2), asI_ok]
  · rw [if_neg (by simp; omega), if_neg h1]

theorem refDo_R (hE : jacquardref2_Do_In E) (op a b : Int) (h : AHeap) : R E 93 [.c (.int .i64 op), .c (.int .i64 a), .c (.int .i64 b)] h = some ([.c (.int .i64 ((doV op a b).getD 0)), .c (.bool (doV op a b).isSome)], h) := by
  refine R_intro hE.fn ?_
  rw [jacquardref2_Do_eq]
  have hr : ∀ x : Int, 0 ≤ E.glob.rem .u64 (E.glob.wrap .u64 x) 64 := by
    intro x
    show 0 ≤ Int.tmod (IntKind.wrap .u64 x) 64
    rw [u64_mod, Int.tmod_eq_emod_of_nonneg (Int.emod_nonneg _ (by omega))]
    exact Int.emod_nonneg _ (by omega)
  have hr' : ∀ x : Int, ¬ E.glob.rem .u64 (E.glob.wrap .u64 x) 64 < 0 := fun x => by have := hr x; omega
  simp only [hr', if_false]
  have w1 : E.glob.wrap .i64 (E.glob.wrap .u64 (E.glob.wrap .u64 a + E.glob.wrap .u64 b)) = GN.wrap .i64 (a + b) := by
    show IntKind.wrap .i64 (IntKind.wrap .u64 (IntKind.wrap .u64 a + IntKind.wrap .u64 b)) = IntKind.wrap .i64 (a + b)
    refine wrap_res ?_
    rw [u64_mod, u64_mod, u64_mod]; omega
  have w2 : E.glob.wrap .i64 (E.glob.wrap .u64 (E.glob.wrap .u64 a - E.glob.wrap .u64 b)) = GN.wrap .i64 (a - b) := by
    show IntKind.wrap .i64 (IntKind.wrap .u64 (IntKind.wrap .u64 a - IntKind.wrap .u64 b)) = IntKind.wrap .i64 (a - b)
    refine wrap_res ?_
    rw [u64_mod, u64_mod, u64_mod]; omega
  have w3 : E.glob.wrap .i64 (E.glob.wrap .u64 (E.glob.wrap .u64 a * E.glob.wrap .u64 b)) = GN.wrap .i64 (a * b) := by
    show IntKind.wrap .i64 (IntKind.wrap .u64 (IntKind.wrap .u64 a * IntKind.wrap .u64 b)) = IntKind.wrap .i64 (a * b)
    refine wrap_res ?_
    rw [u64_mod, u64_mod, u64_mod, Int.emod_emod_of_dvd _ (Int.dvd_refl _), ← Int.mul_emod]
  have w7 : ∀ k : Int, E.glob.wrap .i64 (E.glob.shl .u64 (E.glob.wrap .u64 a) k) = GN.shl .i64 a k := by
    intro k
    show IntKind.wrap .i64 (IntKind.wrap .u64 (IntKind.wrap .u64 a * 2 ^ min k.toNat IntKind.u64.bits)) = IntKind.wrap .i64 (a * 2 ^ min k.toNat IntKind.i64.bits)
    refine wrap_res ?_
    rw [u64_mod, u64_mod, Int.emod_emod_of_dvd _ (Int.dvd_refl _)]
    show _ = (a * 2 ^ min k.toNat IntKind.u64.bits) % _
    rw [Int.mul_emod, Int.emod_emod_of_dvd _ (Int.dvd_refl _), ← Int.mul_emod]
  simp only [w1, w2, w3, w7]
  unfold doV
  have key : ∀ k : Int, ((op == k) = true) = (op = k) := fun k => by rw [beq_iff_eq]
  simp only [key]
  by_cases h1 : op = 1
  · simp only [if_pos h1]; rfl
  simp only [if_neg h1]
  by_cases h2 : op = 2
  · simp only [if_pos h2]; rfl
  simp only [if_neg h2]
  by_cases h3 : op = 3
  · simp only [if_pos h3]; rfl
  simp only [if_neg h3]
  by_cases h4 : op = 4
  · simp only [if_pos h4]; rfl
  simp only [if_neg h4]
  by_cases h5 : op = 5
  · simp only [if_pos h5]; rfl
  simp only [if_neg h5]
  by_cases h6 : op = 6
  · simp only [if_pos h6]; rfl
  simp only [if_neg h6]
  by_cases h7 : op = 7
  · simp only [if_pos h7]; rfl
  simp only [if_neg h7]
  by_cases h8 : op = 8
  · simp only [if_pos h8]; rfl
  simp only [if_neg h8]
  by_cases h9 : op = 9
  · simp only [if_pos h9]; (by_cases hab : a = b <;> simp [hab])
  simp only [if_neg h9]
  by_cases h10 : op = 10
  · simp only [if_pos h10]; (by_cases hab : a = b <;> simp [hab])
  simp only [if_neg h10]
  by_cases h11 : op = 11
  · simp only [if_pos h11]; (by_cases hab : a < b <;> simp [hab])
  simp only [if_neg h11]
  rfl

theorem doV_some {op : Int} (a b : Int) (h1 : 1 ≤ op) (h2 : op ≤ 11) : ∃ v, doV op a b = some v := by
  have h : op = 1 ∨ op = 2 ∨ op = 3 ∨ op = 4 ∨ op = 5 ∨ op = 6 ∨ op = 7 ∨ op = 8 ∨ op = 9 ∨ op = 10 ∨ op = 11 := by omega
  rcases h with rfl | rfl | rfl | rfl | rfl | rfl | rfl | rfl | rfl | rfl | rfl <;> exact ⟨_, rfl⟩

/-- One thread of a program that lies there. -/
theorem ProgAt.thr {h : AHeap} {cs : List Cell} {P : PProg} (p : ProgAt h cs P) {t : Nat} {code : List Ins} (ht : P.thr[t]? = some code) :
    ∃ x, SlAt h x 9 (codeC code) code.length ∧ Low h.length x ∧ ∀ {α : Type} (f : Cell → Option α), (atK cs 2 fun q => idxSK 1 q (t : Int) fun k N o => rdH h k N fun l => atK l o f) = f x := by
  obtain ⟨a, b, c, ts, rfl, _, _, ⟨hc, hcl⟩, hts⟩ := p
  obtain ⟨x, x1, x2, x3⟩ := hts _ _ ht
  refine ⟨x, x2, x3, fun f => ?_⟩
  show (idxSK 1 c (t : Int) fun k N o => rdH h k N fun l => atK l o f) = f x
  exact hc.get1 (getI_lt ht) x1

theorem ProgAt.nthr {α : Type} {h : AHeap} {cs : List Cell} {P : PProg} (p : ProgAt h cs P) {f : Int → Option α} : (atK cs 2 fun q => lenK q f) = f P.thr.length := by
  obtain ⟨a, b, c, ts, rfl, _, _, ⟨hc, hcl⟩, hts⟩ := p
  show lenK c f = _
  exact hc.len

theorem code_of {P : PProg} {t : Nat} {code : List Ins} (ht : P.thr[t]? = some code) : P.code (t : Int) = code := by
  unfold PProg.code
  rw [if_pos (by omega), Int.toNat_natCast, List.getD_eq_getElem?_getD, ht]; rfl

theorem refnormal_R (hE : jacquardref6_normal_In E) {cs : List Cell} {P : PProg} {h : AHeap} (p : ProgAt h cs P) {t : Nat} {code : List Ins} (ht : P.thr[t]? = some code) (hlen : code.length < 4000000000000000000) (hg : GoodC code) (l : Lcl) (h0 : 0 ≤ l.pc) :
    R E 123 [.agg cs, .c (.int .i64 (t : Int)), .agg l.cs] h = some ([.agg (normL code l).cs], h) := by
  refine R_intro hE.fn ?_
  obtain ⟨x, hx, hxl, hT⟩ := p.thr ht
  have round : ∀ l : Lcl, 0 ≤ l.pc → jacquardref6_normal_F1 (R E) Lim E.glob (jacquardref6_normal_s1 t cs l.cs Lcl.zero.cs h) = match stepI code l with
      | some l' => some (.normal, jacquardref6_normal_s1 t cs l'.cs Lcl.zero.cs h)
      | none => if l.pc < code.length then some (.ret, jacquardref6_normal_x1_0 l.cs h) else some (.exit 0, jacquardref6_normal_x1_1 l.cs Lcl.zero.cs h) := by
    intro l h0
    rw [jacquardref6_normal_r1, lcl_pc, asI_ok, hT, hx.len]
    by_cases h1 : l.pc < code.length
    · obtain ⟨q, hp⟩ : ∃ q : Nat, l.pc = (q : Int) := ⟨l.pc.toNat, by omega⟩
      have hpl : q < code.length := by omega
      have hq : code[q]? = some code[q] := List.getElem?_eq_getElem hpl
      have hgi := hg _ (List.getElem_mem hpl)
      generalize code[q] = i at hq hgi
      obtain ⟨off, cs', hG0, hle, hcs⟩ := hx.insG hq
      have hG : ∀ {α : Type} (G : Nat → List Cell → Option α), (idxSK 9 x l.pc fun k N o => rdH h k N fun l => G o l) = G off cs' := by intro α G; rw [hp]; exact hG0 G
      have hst : stepI code l = if i.kind = 5 then
          some { (l.setR i.reg ((doV i.op (opV i.a l) (opV i.b l)).getD (opV i.a l))) with pc := (l.setR i.reg ((doV i.op (opV i.a l) (opV i.b l)).getD (opV i.a l))).pc + 1 }
        else if i.kind = 6 then (if opV i.a l = opV i.b l then some { l with pc := l.pc + min (max i.n 0) code.length + 1 } else some { l with pc := l.pc + 1 }) else none := by
        unfold stepI
        rw [if_pos h0, show l.pc.toNat = q by omega, hq]
      rw [hst, if_pos (decide_eq_true h1), hT, lcl_pc, asI_ok, hG, if_pos hle, hcs, if_pos ⟨rfl, rfl, rfl⟩, ins_kind, asI_ok]
      by_cases k5 : i.kind = 5
      · obtain ⟨r0, r1⟩ := hgi.reg (.inr (.inr k5))
        obtain ⟨o0, o1⟩ := hgi.op k5
        rw [if_pos (by rw [k5]; rfl), if_pos k5, if_pos (show 3 + 2 ≤ i.cs.length by rw [Ins.len]; omega), if_pos ⟨rfl, rfl⟩, ins_a, refValue_R hE.c92, c1_ok, asI_ok, ins_op, asI_ok]
        by_cases hop : i.op = 0
        · have hd : doV i.op (opV i.a l) (opV i.b l) = none := by rw [hop]; rfl
          have hpc := l.setR_pc i.reg (opV i.a l)
          rw [hd, if_neg (by rw [hop]; simp), ins_reg, asI_ok, if_pos ⟨r0, r1⟩, if_pos (by rw [Lcl.len]; omega), lcl_set r0 r1, lcl_pc, asI_ok, if_pos (by rw [Lcl.len]; omega), lcl_setpc]
          rw [show (none : Option Int).getD (opV i.a l) = opV i.a l from rfl, hpc, g_wrap_i64 (x := l.pc + 1) (by omega) (by omega)]
        · obtain ⟨v, hd⟩ := doV_some (opV i.a l) (opV i.b l) (show 1 ≤ i.op by omega) o1
          have hpc := l.setR_pc i.reg v
          rw [hd, if_pos (by rw [bne_iff_ne]; exact hop), ins_op, asI_ok, if_pos (show 6 + 2 ≤ i.cs.length by rw [Ins.len]; omega), if_pos ⟨rfl, rfl⟩, ins_b, refValue_R hE.c92, qh_ok, c1_ok, asI_ok, refDo_R hE.c93, qh_ok, c2_ok, asI_ok, asB_ok, hd, ins_reg, asI_ok, if_pos ⟨r0, r1⟩, if_pos (by rw [Lcl.len]; omega), show (some v : Option Int).getD 0 = v from rfl, lcl_set r0 r1, lcl_pc, asI_ok, if_pos (by rw [Lcl.len]; omega), lcl_setpc]
          rw [show (some v : Option Int).getD (opV i.a l) = v from rfl, hpc, g_wrap_i64 (x := l.pc + 1) (by omega) (by omega)]
      · rw [if_neg (by rw [beq_iff_eq]; exact k5), if_neg k5]
        by_cases k6 : i.kind = 6
        · obtain ⟨n0, n1⟩ := hgi.n k6
          rw [if_pos (by rw [k6]; rfl), if_pos k6, if_pos (show 3 + 2 ≤ i.cs.length by rw [Ins.len]; omega), if_pos ⟨rfl, rfl⟩, ins_a, refValue_R hE.c92, qh_ok, c1_ok, asI_ok, if_pos (show 6 + 2 ≤ i.cs.length by rw [Ins.len]; omega), if_pos ⟨rfl, rfl⟩, ins_b, refValue_R hE.c92, qh_ok, c1_ok, asI_ok]
          by_cases hab : opV i.a l = opV i.b l
          · rw [if_pos (by rw [hab]; exact beq_self_eq_true _), if_pos hab, lcl_pc, asI_ok, ins_n, asI_ok, if_pos (by rw [Lcl.len]; omega), lcl_setpc, lcl_pc, asI_ok, if_pos (by rw [Lcl.len]; omega), lcl_setpc]
            dsimp only
            rw [show min (max i.n 0) (code.length : Int) = i.n by omega, g_wrap_i64 (x := l.pc + i.n) (by omega) (by omega), g_wrap_i64 (x := l.pc + i.n + 1) (by omega) (by omega)]
          · rw [if_neg (by rw [beq_iff_eq]; exact hab), if_neg hab, lcl_pc, asI_ok, if_pos (by rw [Lcl.len]; omega), lcl_setpc, g_wrap_i64 (x := l.pc + 1) (by omega) (by omega)]
        · rw [if_neg (by rw [beq_iff_eq]; exact k6), if_neg k6, if_pos ⟨rfl, rfl⟩, if_pos ⟨rfl, rfl, rfl⟩]
          dsimp only
          rw [if_pos h1]
    · have hst : stepI code l = none := by
        unfold stepI
        rw [if_pos h0, List.getElem?_eq_none (by omega)]
      rw [hst, if_neg (by simpa using h1)]
      dsimp only
      rw [if_neg h1]
  have stop : ∀ l : Lcl, 0 ≤ l.pc → stepI code l = none → (Lim (jacquardref6_normal_F1 (R E) Lim E.glob) (jacquardref6_normal_s1 t cs l.cs Lcl.zero.cs h)).bind (fun p => jacquardref6_normal_k3 (R E) Lim E.glob h p.1 p.2) = some ([.agg l.cs], h) := by
    intro l h0 hs
    have hr := round l h0
    rw [hs] at hr
    dsimp only at hr
    split at hr
    · rw [Lim_ret hr, bind_ok, jacquardref6_normal_e1_0, if_pos ⟨rfl, rfl⟩]
    · rw [Lim_exit hr, bind_ok, jacquardref6_normal_e1_1, if_pos ⟨rfl, rfl⟩, if_pos ⟨rfl, rfl, rfl⟩, if_pos ⟨rfl, rfl⟩]
  have loop : ∀ (k : Nat) (l : Lcl), 0 ≤ l.pc → (code.length : Int) ≤ l.pc + k → (Lim (jacquardref6_normal_F1 (R E) Lim E.glob) (jacquardref6_normal_s1 t cs l.cs Lcl.zero.cs h)).bind (fun p => jacquardref6_normal_k3 (R E) Lim E.glob h p.1 p.2) = some ([.agg (nrm code k l).cs], h) := by
    intro k
    induction k with
    | zero =>
      intro l h0 hk
      rw [nrm]
      refine stop l h0 ?_
      cases hs : stepI code l with
      | none => rfl
      | some l' => have := stepI_pc hs; omega
    | succ k ih =>
      intro l h0 hk
      rw [nrm]
      cases hs : stepI code l with
      | none => exact stop l h0 hs
      | some l' =>
        have hr := round l h0
        rw [hs] at hr
        have h3 := stepI_pc hs
        have := ih l' (by omega) (by omega)
        cases hL : Lim (jacquardref6_normal_F1 (R E) Lim E.glob) (jacquardref6_normal_s1 t cs l'.cs Lcl.zero.cs h) with
        | none => rw [hL] at this; cases this
        | some p => rw [Lim_next hr hL]; rw [hL] at this; exact this
  rw [jacquardref6_normal_eq, zero5]
  exact loop code.length l h0 (by omega)

theorem there_R (hE : jacquardref6_there_In E) {cs : List Cell} {P : PProg} {h : AHeap} (p : ProgAt h cs P) (t : Int) :
    R E 110 [.agg cs, .c (.int .i64 t)] h = some ([.c (.bool (decide (0 ≤ t) && decide (t < P.thr.length)))], h) := by
  refine R_intro hE.fn ?_
  rw [jacquardref6_there_eq]
  by_cases h0 : 0 ≤ t
  · rw [show decide (t ≥ 0) = true from decide_eq_true h0, scK_ok, p.nthr, bind_ok]
    rfl
  · rw [show decide (t ≥ 0) = false from decide_eq_false h0, scK_ft]
    rfl

/-- Each thread may be. -/
def PProg.good (P : PProg) : Prop := P.fits ∧ ∀ code ∈ P.thr, GoodC code

theorem code_out {P : PProg} {t : Int} (h : ¬ (0 ≤ t ∧ t < P.thr.length)) : P.code t = [] := by
  unfold PProg.code
  split
  · rw [List.getD_eq_getElem?_getD, List.getElem?_eq_none (by omega)]; rfl
  · rfl

theorem refStart_R (hE : jacquardref6_Start_In E) {cs : List Cell} {P : PProg} {h : AHeap} (hg : P.good) (p : ProgAt h cs P) (t : Int) :
    R E 104 [.agg cs, .c (.int .i64 t)] h = some ([.agg (startL P t).cs], h) := by
  refine R_intro hE.fn ?_
  rw [jacquardref6_Start_eq, if_pos ⟨rfl, p.len⟩, there_R hE.c110 p, c1_ok, asB_ok]
  by_cases ht : 0 ≤ t ∧ t < P.thr.length
  · obtain ⟨q, hq⟩ : ∃ q : Nat, t = (q : Int) := ⟨t.toNat, by omega⟩
    have hqq : P.thr[q]? = some P.thr[q] := List.getElem?_eq_getElem (by omega)
    have hm := List.mem_of_getElem? hqq
    generalize P.thr[q] = code at hqq hm
    rw [show (decide (0 ≤ t) && decide (t < P.thr.length)) = true by simp [ht.1, ht.2], if_neg (by simp), if_pos ⟨rfl, p.len⟩, zero5, hq, refnormal_R hE.c123 p hqq (hg.1.2 _ hm) (hg.2 _ hm) Lcl.zero (by simp [Lcl.zero]), c1_ok, asA_ok, if_pos ⟨rfl, rfl, rfl⟩, if_pos ⟨rfl, rfl⟩]
    unfold startL
    rw [code_of hqq]
  · have hs : startL P t = Lcl.zero := by unfold startL; rw [code_out ht]; rfl
    rw [show (decide (0 ≤ t) && decide (t < P.thr.length)) = false by simp; omega, if_pos (show (!false) = true from rfl), zero5, if_pos ⟨rfl, rfl, rfl⟩, if_pos ⟨rfl, rfl⟩, hs]

theorem refNext_R (hE : jacquardref6_Next_In E) {cs : List Cell} {P : PProg} {h : AHeap} (hg : P.good) (p : ProgAt h cs P) (t : Int) (l : Lcl) :
    R E 81 [.agg cs, .c (.int .i64 t), .agg l.cs] h = some ([.agg ((nextI (P.code t) l).getD Ins.zero).cs, .c (.bool (nextI (P.code t) l).isSome)], h) := by
  refine R_intro hE.fn ?_
  rw [jacquardref6_Next_eq, if_pos ⟨rfl, p.len⟩, there_R hE.c110 p, qh_ok, c1_ok, asB_ok]
  by_cases ht : 0 ≤ t ∧ t < P.thr.length
  · obtain ⟨q, hq⟩ : ∃ q : Nat, t = (q : Int) := ⟨t.toNat, by omega⟩
    have hqq : P.thr[q]? = some P.thr[q] := List.getElem?_eq_getElem (by omega)
    have hm := List.mem_of_getElem? hqq
    generalize P.thr[q] = code at hqq hm
    have hgc := hg.2 _ hm
    obtain ⟨x, hx, hxl, hT⟩ := p.thr hqq
    rw [show (decide (0 ≤ t) && decide (t < P.thr.length)) = true by simp [ht.1, ht.2], Bool.not_true, scK_ok, lcl_pc, asI_ok, bind_ok]
    dsimp only
    subst hq
    rw [code_of hqq]
    by_cases h0 : 0 ≤ l.pc
    · rw [show decide (l.pc < 0) = false from decide_eq_false (by omega), scK_ok, lcl_pc, asI_ok, hT, hx.len, bind_ok]
      dsimp only
      by_cases h1 : l.pc < code.length
      · obtain ⟨m, hmm⟩ : ∃ m : Nat, l.pc = (m : Int) := ⟨l.pc.toNat, by omega⟩
        have hml : m < code.length := by omega
        have hi : code[m]? = some code[m] := List.getElem?_eq_getElem hml
        have hgi := hgc _ (List.getElem_mem hml)
        generalize code[m] = i at hi hgi
        obtain ⟨off, cs', hG0, hle, hcs⟩ := hx.insG hi
        have hG : ∀ {α : Type} (G : Nat → List Cell → Option α), (idxSK 9 x l.pc fun k N o => rdH h k N fun l => G o l) = G off cs' := by intro α G; rw [hmm]; exact hG0 G
        have hn : nextI code l = if 1 ≤ i.kind ∧ i.kind ≤ 4 then some i else none := by
          unfold nextI
          rw [if_pos h0, show l.pc.toNat = m by omega, hi]
        have hk2 := hgi.kind
        rw [show decide (l.pc ≥ (code.length : Int)) = false from decide_eq_false (by omega), if_neg (by simp), hT, lcl_pc, asI_ok, hG, if_pos hle, hcs, if_pos ⟨rfl, rfl, rfl⟩, ins_kind, asI_ok, ins_kind, asI_ok, scK_or, hn]
        by_cases hk : 1 ≤ i.kind ∧ i.kind ≤ 4
        · rw [if_neg (by simp; omega), if_pos hk, if_pos ⟨rfl, rfl⟩, if_pos ⟨rfl, rfl, rfl⟩, if_pos ⟨rfl, rfl⟩]; rfl
        · rw [if_pos (by simp; omega), if_neg hk, if_pos ⟨rfl, rfl, rfl⟩, if_pos ⟨rfl, rfl⟩]; rfl
      · have hn : nextI code l = none := by unfold nextI; rw [if_pos h0, List.getElem?_eq_none (by omega)]
        rw [show decide (l.pc ≥ (code.length : Int)) = true from decide_eq_true (by omega), if_pos rfl, hn, if_pos ⟨rfl, rfl, rfl⟩, if_pos ⟨rfl, rfl⟩]; rfl
    · have hn : nextI code l = none := by unfold nextI; rw [if_neg h0]
      rw [show decide (l.pc < 0) = true from decide_eq_true (by omega), scK_tf, if_pos rfl, hn, if_pos ⟨rfl, rfl, rfl⟩, if_pos ⟨rfl, rfl⟩]; rfl
  · have hn : nextI (P.code t) l = none := by rw [code_out ht]; unfold nextI; split <;> simp
    rw [show (decide (0 ≤ t) && decide (t < P.thr.length)) = false by simp; omega, Bool.not_false, scK_tf, scK_tf, if_pos rfl, hn, if_pos ⟨rfl, rfl, rfl⟩, if_pos ⟨rfl, rfl⟩]; rfl

theorem refAfter_R (hE : jacquardref6_After_In E) {cs : List Cell} {P : PProg} {h : AHeap} (hg : P.good) (p : ProgAt h cs P) (t : Int) (l : Lcl) (v : Int) :
    R E 107 [.agg cs, .c (.int .i64 t), .agg l.cs, .c (.int .i64 v)] h = some ([.agg (afterL (P.code t) l v).cs], h) := by
  refine R_intro hE.fn ?_
  rw [jacquardref6_After_eq, if_pos ⟨rfl, p.len⟩, if_pos ⟨rfl, rfl⟩, refNext_R hE.c81 hg p, c2_ok, asA_ok, asB_ok, if_pos ⟨rfl, rfl, rfl⟩]
  unfold afterL
  cases hn : nextI (P.code t) l with
  | none =>
    rw [show (none : Option Ins).isSome = false from rfl, if_pos (show (!false) = true from rfl), if_pos ⟨rfl, rfl⟩, if_pos ⟨rfl, rfl, rfl⟩, if_pos ⟨rfl, rfl⟩]
  | some i =>
    obtain ⟨n0, n1, n2, n3, n4⟩ := nextI_kind hn
    have ht : 0 ≤ t ∧ t < P.thr.length := by
      refine Classical.byContradiction fun hc => ?_
      rw [code_out hc] at n2; simp at n2
    obtain ⟨q, hq⟩ : ∃ q : Nat, t = (q : Int) := ⟨t.toNat, by omega⟩
    have hqq : P.thr[q]? = some P.thr[q] := List.getElem?_eq_getElem (by omega)
    have hm := List.mem_of_getElem? hqq
    generalize P.thr[q] = code at hqq hm
    subst hq
    rw [code_of hqq] at n1 n2 ⊢
    have hgi := hg.2 _ hm i (List.mem_of_getElem? n2)
    have hfit := hg.1.2 _ hm
    rw [show (some i : Option Ins).isSome = true from rfl, if_neg (by simp), show (some i : Option Ins).getD Ins.zero = i from rfl, ins_kind, asI_ok, ins_kind, asI_ok, scK_or]
    by_cases hk : i.kind = 2 ∨ i.kind = 4
    · have hpc := l.setR_pc i.reg v
      obtain ⟨r0, r1⟩ := hgi.reg (hk.imp id .inl)
      rw [if_pos (by rw [Bool.or_eq_true, beq_iff_eq, beq_iff_eq]; exact hk), ins_reg, asI_ok, if_pos ⟨r0, r1⟩, if_pos (by rw [Lcl.len]; omega), lcl_set r0 r1, lcl_pc, asI_ok, if_pos (by rw [Lcl.len]; omega), lcl_setpc, if_pos ⟨rfl, p.len⟩, if_pos ⟨rfl, rfl⟩, hpc, g_wrap_i64 (x := l.pc + 1) (by omega) (by omega), refnormal_R hE.c123 p hqq hfit (hg.2 _ hm) _ (by dsimp only; omega), c1_ok, asA_ok, if_pos ⟨rfl, rfl, rfl⟩, if_pos ⟨rfl, rfl⟩]
      dsimp only
      rw [if_pos hk]
    · rw [if_neg (by rw [Bool.or_eq_true, beq_iff_eq, beq_iff_eq]; exact hk), lcl_pc, asI_ok, if_pos (by rw [Lcl.len]; omega), lcl_setpc, if_pos ⟨rfl, p.len⟩, if_pos ⟨rfl, rfl⟩, g_wrap_i64 (x := l.pc + 1) (by omega) (by omega), refnormal_R hE.c123 p hqq hfit (hg.2 _ hm) _ (by dsimp only; omega), c1_ok, asA_ok, if_pos ⟨rfl, rfl, rfl⟩, if_pos ⟨rfl, rfl⟩]
      dsimp only
      rw [if_neg hk]

end
end Jq

namespace Jq
open Go

/- jacquard/event.Unfold: 78 -/
def event_Unfold_k2 (C : CallF) (L : LoopF) (G : Glo) (h0 : AHeap) : Ex → St → Option (List AV × AHeap) :=
  kBlk 0 (event_Unfold.fin G h0)
def event_Unfold_s1 (a1 : Int) (x2 : Cell) (x6 : Cell) (s0 : List Cell) (s1 : List Cell) (h : AHeap) : St := ⟨[.top, .v (.c (.int .i64 a1)), .v (.c x2), .loc 0 0, .top, .top, .v (.c x6), .loc 1 0, .top, .top, .top, .top, .top, .top, .top, .top, .top, .top, .top, .top, .top, .top, .top, .top, .top, .top, .top, .top, .top, .top, .top, .top, .top, .top, .top, .top, .top, .top, .top, .top, .top, .top, .top, .top, .top, .top, .top, .top, .top, .top, .top, .top, .top, .top, .top, .top, .top, .top, .top, .top, .top, .top, .top], [some s0, some s1, none, none], h⟩
def event_Unfold_F1 (C : CallF) (L : LoopF) (G : Glo) : St → Option (Ex × St) :=
  roundF (fun st f => event_Unfold_b1.exec C L G st f) [1, 2, 3, 6, 7] [0, 1] [(0, [6, 7, 8], [1])]
def event_Unfold_x1_0 (x6 : Cell) (b8 : Bool) (s1 : List Cell) (h : AHeap) : St := ⟨[.top, .top, .top, .top, .top, .top, .v (.c x6), .loc 1 0, .v (.c (.bool b8)), .top, .top, .top, .top, .top, .top, .top, .top, .top, .top, .top, .top, .top, .top, .top, .top, .top, .top, .top, .top, .top, .top, .top, .top, .top, .top, .top, .top, .top, .top, .top, .top, .top, .top, .top, .top, .top, .top, .top, .top, .top, .top, .top, .top, .top, .top, .top, .top, .top, .top, .top, .top, .top, .top], [none, some s1, none, none], h⟩
theorem event_Unfold_r1 (C : CallF) (L : LoopF) (G : Glo) (a1 : Int) (x2 : Cell) (x6 : Cell) (s0 : List Cell) (s1 : List Cell) (h : AHeap) :
    event_Unfold_F1 C L G (event_Unfold_s1 a1 x2 x6 s0 s1 h) =
    if 0 = 0 ∧ s0.length = 3 then if 0 = 0 ∧ s1.length = 5 then c2 (C 105 [(.agg s0), (.c (.int .i64 a1)), (.agg s1)] h) fun y_5 y_6 h_4 => asA y_5 fun l_7 => asB y_6 fun b_8 => if 0 = 0 ∧ (List.replicate 9 (Cell.int .i64 0)).length = 9 ∧ l_7.length = 9 then if (!b_8) = true then if 0 = 0 ∧ s1.length = 5 then if 0 = 0 ∧ s1.length = 5 ∧ s1.length = 5 then some (.ret, (event_Unfold_x1_0 x6 false s1 h_4)) else none else none else lenK x2 fun n_9 => if (decide (n_9 > 0)) = true then idxSK 1 x2 0 fun k_10 N_11 o_12 => rdH h_4 k_10 N_11 fun l_13 => atK l_13 o_12 fun q_14 => asI .i64 (.c q_14) fun n_15 => if 0 = 0 ∧ l_7.length = 9 then if 0 = 0 ∧ s1.length = 5 then c2 (C 109 [(.agg l_7), (.agg s1), (.c (.int .i64 n_15))] h_4) fun y_17 y_18 h_16 => asA y_17 fun l_19 => asB y_18 fun b_20 => if 0 = 0 ∧ [Cell.int .i64 0, Cell.int .i64 0, Cell.int .i64 0, Cell.int .i64 0, Cell.int .i64 0, Cell.int .i64 0].length = 6 ∧ l_19.length = 6 then if b_20 = true then lenK x2 fun n_21 => if (n_21 == 0) = true then if 0 = 0 ∧ s1.length = 5 then if 0 = 0 ∧ s1.length = 5 ∧ s1.length = 5 then some (.ret, (event_Unfold_x1_0 x6 true s1 h_16)) else none else none else sliceK h_16 1 true false x2 [.v (.c (.int .i64 1))] fun x_22 => lenK x6 fun n_23 => if 0 < l_19.length then if 1 < (l_19.set 0 (.int .i64 a1)).length then if 0 = 0 ∧ ((l_19.set 0 (.int .i64 a1)).set 1 (.int .i64 n_23)).length = 6 then if ((l_19.set 0 (.int .i64 a1)).set 1 (.int .i64 n_23)).length = 6 ∧ 0 + 6 ≤ [Cell.int .i64 0, Cell.int .i64 0, Cell.int .i64 0, Cell.int .i64 0, Cell.int .i64 0, Cell.int .i64 0].length then if (splice [Cell.int .i64 0, Cell.int .i64 0, Cell.int .i64 0, Cell.int .i64 0, Cell.int .i64 0, Cell.int .i64 0] 0 ((l_19.set 0 (.int .i64 a1)).set 1 (.int .i64 n_23))).length = 1 * 6 then appK 6 48 x6 (splice [Cell.int .i64 0, Cell.int .i64 0, Cell.int .i64 0, Cell.int .i64 0, Cell.int .i64 0, Cell.int .i64 0] 0 ((l_19.set 0 (.int .i64 a1)).set 1 (.int .i64 n_23))) h_16 fun x_24 h_25 => if 0 = 0 ∧ s0.length = 3 then if 0 = 0 ∧ s1.length = 5 then c1 (C 106 [(.agg s0), (.c (.int .i64 a1)), (.agg s1), (.c (.int .i64 n_15))] h_25) fun y_27 h_26 => asA y_27 fun l_28 => if 0 = 0 ∧ s1.length = 5 ∧ l_28.length = 5 then some (.normal, (event_Unfold_s1 a1 x_22 x_24 s0 l_28 h_26)) else none else none else none else none else none else none else none else none else lenK x6 fun n_29 => if 0 < l_19.length then if 1 < (l_19.set 0 (.int .i64 a1)).length then if 0 = 0 ∧ ((l_19.set 0 (.int .i64 a1)).set 1 (.int .i64 n_29)).length = 6 then if ((l_19.set 0 (.int .i64 a1)).set 1 (.int .i64 n_29)).length = 6 ∧ 0 + 6 ≤ [Cell.int .i64 0, Cell.int .i64 0, Cell.int .i64 0, Cell.int .i64 0, Cell.int .i64 0, Cell.int .i64 0].length then if (splice [Cell.int .i64 0, Cell.int .i64 0, Cell.int .i64 0, Cell.int .i64 0, Cell.int .i64 0, Cell.int .i64 0] 0 ((l_19.set 0 (.int .i64 a1)).set 1 (.int .i64 n_29))).length = 1 * 6 then appK 6 48 x6 (splice [Cell.int .i64 0, Cell.int .i64 0, Cell.int .i64 0, Cell.int .i64 0, Cell.int .i64 0, Cell.int .i64 0] 0 ((l_19.set 0 (.int .i64 a1)).set 1 (.int .i64 n_29))) h_16 fun x_30 h_31 => if 0 = 0 ∧ s0.length = 3 then if 0 = 0 ∧ s1.length = 5 then c1 (C 106 [(.agg s0), (.c (.int .i64 a1)), (.agg s1), (.c (.int .i64 n_15))] h_31) fun y_33 h_32 => asA y_33 fun l_34 => if 0 = 0 ∧ s1.length = 5 ∧ l_34.length = 5 then some (.normal, (event_Unfold_s1 a1 x2 x_30 s0 l_34 h_32)) else none else none else none else none else none else none else none else none else none else none else none else if 0 = 0 ∧ l_7.length = 9 then if 0 = 0 ∧ s1.length = 5 then c2 (C 109 [(.agg l_7), (.agg s1), (.c (.int .i64 0))] h_4) fun y_36 y_37 h_35 => asA y_36 fun l_38 => asB y_37 fun b_39 => if 0 = 0 ∧ [Cell.int .i64 0, Cell.int .i64 0, Cell.int .i64 0, Cell.int .i64 0, Cell.int .i64 0, Cell.int .i64 0].length = 6 ∧ l_38.length = 6 then if b_39 = true then lenK x2 fun n_40 => if (n_40 == 0) = true then if 0 = 0 ∧ s1.length = 5 then if 0 = 0 ∧ s1.length = 5 ∧ s1.length = 5 then some (.ret, (event_Unfold_x1_0 x6 true s1 h_35)) else none else none else sliceK h_35 1 true false x2 [.v (.c (.int .i64 1))] fun x_41 => lenK x6 fun n_42 => if 0 < l_38.length then if 1 < (l_38.set 0 (.int .i64 a1)).length then if 0 = 0 ∧ ((l_38.set 0 (.int .i64 a1)).set 1 (.int .i64 n_42)).length = 6 then if ((l_38.set 0 (.int .i64 a1)).set 1 (.int .i64 n_42)).length = 6 ∧ 0 + 6 ≤ [Cell.int .i64 0, Cell.int .i64 0, Cell.int .i64 0, Cell.int .i64 0, Cell.int .i64 0, Cell.int .i64 0].length then if (splice [Cell.int .i64 0, Cell.int .i64 0, Cell.int .i64 0, Cell.int .i64 0, Cell.int .i64 0, Cell.int .i64 0] 0 ((l_38.set 0 (.int .i64 a1)).set 1 (.int .i64 n_42))).length = 1 * 6 then appK 6 48 x6 (splice [Cell.int .i64 0, Cell.int .i64 0, Cell.int .i64 0, Cell.int .i64 0, Cell.int .i64 0, Cell.int .i64 0] 0 ((l_38.set 0 (.int .i64 a1)).set 1 (.int .i64 n_42))) h_35 fun x_43 h_44 => if 0 = 0 ∧ s0.length = 3 then if 0 = 0 ∧ s1.length = 5 then c1 (C 106 [(.agg s0), (.c (.int .i64 a1)), (.agg s1), (.c (.int .i64 0))] h_44) fun y_46 h_45 => asA y_46 fun l_47 => if 0 = 0 ∧ s1.length = 5 ∧ l_47.length = 5 then some (.normal, (event_Unfold_s1 a1 x_41 x_43 s0 l_47 h_45)) else none else none else none else none else none else none else none else none else lenK x6 fun n_48 => if 0 < l_38.length then if 1 < (l_38.set 0 (.int .i64 a1)).length then if 0 = 0 ∧ ((l_38.set 0 (.int .i64 a1)).set 1 (.int .i64 n_48)).length = 6 then if ((l_38.set 0 (.int .i64 a1)).set 1 (.int .i64 n_48)).length = 6 ∧ 0 + 6 ≤ [Cell.int .i64 0, Cell.int .i64 0, Cell.int .i64 0, Cell.int .i64 0, Cell.int .i64 0, Cell.int .i64 0].length then if (splice [Cell.int .i64 0, Cell.int .i64 0, Cell.int .i64 0, Cell.int .i64 0, Cell.int .i64 0, Cell.int .i64 0] 0 ((l_38.set 0 (.int .i64 a1)).set 1 (.int .i64 n_48))).length = 1 * 6 then appK 6 48 x6 (splice [Cell.int .i64 0, Cell.int .i64 0, Cell.int .i64 0, Cell.int .i64 0, Cell.int .i64 0, Cell.int .i64 0] 0 ((l_38.set 0 (.int .i64 a1)).set 1 (.int .i64 n_48))) h_35 fun x_49 h_50 => if 0 = 0 ∧ s0.length = 3 then if 0 = 0 ∧ s1.length = 5 then c1 (C 106 [(.agg s0), (.c (.int .i64 a1)), (.agg s1), (.c (.int .i64 0))] h_50) fun y_52 h_51 => asA y_52 fun l_53 => if 0 = 0 ∧ s1.length = 5 ∧ l_53.length = 5 then some (.normal, (event_Unfold_s1 a1 x2 x_49 s0 l_53 h_51)) else none else none else none else none else none else none else none else none else none else none else none else none else none else none := by kernel_rfl
theorem event_Unfold_e1_0 (C : CallF) (L : LoopF) (G : Glo) (h0 : AHeap) (x6 : Cell) (b8 : Bool) (s1 : List Cell) (h : AHeap) :
    (event_Unfold_k2 C L G h0) .ret (event_Unfold_x1_0 x6 b8 s1 h) =
    if 0 = 0 ∧ s1.length = 5 then some ([(.c x6), (.agg s1), (.c (.bool b8))], h) else none := by kernel_rfl
set_option maxRecDepth 100000 in
theorem event_Unfold_eq (C : CallF) (L : LoopF) (G : Glo) (l0 : List Cell) (a1 : Int) (x2 : Cell) (h0 : AHeap) :
    event_Unfold.body C L G [(.agg l0), (.c (.int .i64 a1)), (.c x2)] h0 =
    if 0 = 0 ∧ l0.length = 3 then c1 (C 94 [(.agg l0), (.c (.int .i64 a1))] h0) fun y_2 h_1 => asA y_2 fun l_3 => if 0 = 0 ∧ [Cell.int .i64 0, Cell.int .i64 0, Cell.int .i64 0, Cell.int .i64 0, Cell.int .i64 0].length = 5 ∧ l_3.length = 5 then (L (event_Unfold_F1 C L G) (event_Unfold_s1 a1 x2 .nils l0 l_3 h_1)).bind fun p_54 => (event_Unfold_k2 C L G h0) p_54.1 p_54.2 else none else none := by kernel_rfl

/- jacquard/event.Reads: 79 -/
set_option maxRecDepth 100000 in
theorem event_Reads_eq (C : CallF) (L : LoopF) (G : Glo) (l0 : List Cell) (h0 : AHeap) :
    event_Reads.body C L G [(.agg l0)] h0 =
    atK l0 2 fun q_1 => asI .i64 (.c q_1) fun n_2 => scK (n_2 == 1) false (atK l0 2 fun q_3 => asI .i64 (.c q_3) fun n_4 => some ((n_4 == 4), h0)) true h0 fun b_5 h_6 => scK b_5 false (atK l0 2 fun q_7 => asI .i64 (.c q_7) fun n_8 => some ((n_8 == 5), h_6)) true h_6 fun b_9 h_10 => some ([(.c (.bool b_9))], h_10) := by kernel_rfl

/- jacquard/event.Writes: 80 -/
set_option maxRecDepth 100000 in
theorem event_Writes_eq (C : CallF) (L : LoopF) (G : Glo) (l0 : List Cell) (h0 : AHeap) :
    event_Writes.body C L G [(.agg l0)] h0 =
    atK l0 2 fun q_1 => asI .i64 (.c q_1) fun n_2 => scK (n_2 == 2) false (atK l0 2 fun q_3 => asI .i64 (.c q_3) fun n_4 => some ((n_4 == 4), h0)) true h0 fun b_5 h_6 => some ([(.c (.bool b_5))], h_6) := by kernel_rfl

/- jacquard/event.Fences: 82 -/
set_option maxRecDepth 100000 in
theorem event_Fences_eq (C : CallF) (L : LoopF) (G : Glo) (l0 : List Cell) (h0 : AHeap) :
    event_Fences.body C L G [(.agg l0)] h0 =
    atK l0 2 fun q_1 => asI .i64 (.c q_1) fun n_2 => scK (n_2 == 3) false (atK l0 2 fun q_3 => asI .i64 (.c q_3) fun n_4 => some ((n_4 == 4), h0)) true h0 fun b_5 h_6 => scK b_5 false (atK l0 2 fun q_7 => asI .i64 (.c q_7) fun n_8 => some ((n_8 == 5), h_6)) true h_6 fun b_9 h_10 => some ([(.c (.bool b_9))], h_10) := by kernel_rfl

/- jacquard/event.Same: 84 -/
set_option maxRecDepth 100000 in
theorem event_Same_eq (C : CallF) (L : LoopF) (G : Glo) (x0 : Cell) (x1 : Cell) (h0 : AHeap) :
    event_Same.body C L G [(.c x0), (.c x1)] h0 =
    c1 (C 112 [(.c x0), (.c x1)] h0) fun y_2 h_1 => asB y_2 fun b_3 => some ([(.c (.bool b_3))], h_1) := by kernel_rfl

/- jacquard/event.Inits: 88 -/
def event_Inits_k2 (C : CallF) (L : LoopF) (G : Glo) (h0 : AHeap) : Ex → St → Option (List AV × AHeap) :=
  kSeq (fun st => event_Inits_p1.exec C L G st (event_Inits.fin G h0)) (event_Inits.fin G h0)
def event_Inits_k3 (C : CallF) (L : LoopF) (G : Glo) (h0 : AHeap) : Ex → St → Option (List AV × AHeap) :=
  kBlk 0 (event_Inits_k2 C L G h0)
def event_Inits_s1 (x3 : Cell) (x7 : Cell) (a8 : Int) (a9 : Int) (h : AHeap) : St := ⟨[.top, .top, .top, .v (.c x3), .top, .top, .top, .v (.c x7), .v (.c (.int .i64 a8)), .v (.c (.int .i64 a9)), .top, .top, .top, .top, .top, .top, .top, .top, .top, .top, .top, .top, .top], [none], h⟩
def event_Inits_F1 (C : CallF) (L : LoopF) (G : Glo) : St → Option (Ex × St) :=
  roundF (fun st f => event_Inits_b1.exec C L G st f) [3, 7, 8, 9] [] [(1, [3], [])]
def event_Inits_x1_1 (x3 : Cell) (h : AHeap) : St := ⟨[.top, .top, .top, .v (.c x3), .top, .top, .top, .top, .top, .top, .top, .top, .top, .top, .top, .top, .top, .top, .top, .top, .top, .top, .top], [none], h⟩
theorem event_Inits_r1 (C : CallF) (L : LoopF) (G : Glo) (x3 : Cell) (x7 : Cell) (a8 : Int) (a9 : Int) (h : AHeap) :
    event_Inits_F1 C L G (event_Inits_s1 x3 x7 a8 a9 h) =
    if (decide (a9 < a8)) = true then idxSK 1 x7 a9 fun k_3 N_4 o_5 => rdH h k_3 N_4 fun l_6 => atK l_6 o_5 fun q_7 => asI .i64 (.c q_7) fun n_8 => if (splice (splice (splice (splice (splice [Cell.int .i64 0, Cell.int .i64 0, Cell.int .i64 0, Cell.int .i64 0, Cell.int .i64 0, Cell.int .i64 0] 0 ([(.int .i64 (-1))] : List Cell)) 1 ([(.int .i64 a9)] : List Cell)) 2 ([(.int .i64 2)] : List Cell)) 3 ([(.int .i64 a9)] : List Cell)) 5 ([(.int .i64 n_8)] : List Cell)).length = 6 ∧ 0 + 6 ≤ [Cell.int .i64 0, Cell.int .i64 0, Cell.int .i64 0, Cell.int .i64 0, Cell.int .i64 0, Cell.int .i64 0].length then if (splice [Cell.int .i64 0, Cell.int .i64 0, Cell.int .i64 0, Cell.int .i64 0, Cell.int .i64 0, Cell.int .i64 0] 0 (splice (splice (splice (splice (splice [Cell.int .i64 0, Cell.int .i64 0, Cell.int .i64 0, Cell.int .i64 0, Cell.int .i64 0, Cell.int .i64 0] 0 ([(.int .i64 (-1))] : List Cell)) 1 ([(.int .i64 a9)] : List Cell)) 2 ([(.int .i64 2)] : List Cell)) 3 ([(.int .i64 a9)] : List Cell)) 5 ([(.int .i64 n_8)] : List Cell))).length = 1 * 6 then appK 6 48 x3 (splice [Cell.int .i64 0, Cell.int .i64 0, Cell.int .i64 0, Cell.int .i64 0, Cell.int .i64 0, Cell.int .i64 0] 0 (splice (splice (splice (splice (splice [Cell.int .i64 0, Cell.int .i64 0, Cell.int .i64 0, Cell.int .i64 0, Cell.int .i64 0, Cell.int .i64 0] 0 ([(.int .i64 (-1))] : List Cell)) 1 ([(.int .i64 a9)] : List Cell)) 2 ([(.int .i64 2)] : List Cell)) 3 ([(.int .i64 a9)] : List Cell)) 5 ([(.int .i64 n_8)] : List Cell))) h fun x_9 h_10 => some (.normal, (event_Inits_s1 x_9 x7 a8 (G.wrap .i64 (a9 + 1)) h_10)) else none else none else some ((.exit 0), (event_Inits_x1_1 x3 h)) := by kernel_rfl
theorem event_Inits_e1_1 (C : CallF) (L : LoopF) (G : Glo) (h0 : AHeap) (x3 : Cell) (h : AHeap) :
    (event_Inits_k3 C L G h0) (.exit 0) (event_Inits_x1_1 x3 h) =
    some ([(.c x3)], h) := by kernel_rfl
set_option maxRecDepth 100000 in
theorem event_Inits_eq (C : CallF) (L : LoopF) (G : Glo) (l0 : List Cell) (h0 : AHeap) :
    event_Inits.body C L G [(.agg l0)] h0 =
    atK l0 1 fun q_1 => lenK q_1 fun n_2 => (L (event_Inits_F1 C L G) (event_Inits_s1 .nils q_1 n_2 0 h0)).bind fun p_11 => (event_Inits_k3 C L G h0) p_11.1 p_11.2 := by kernel_rfl

/- jacquard/event.Of: 109 -/
set_option maxRecDepth 100000 in
theorem event_Of_eq (C : CallF) (L : LoopF) (G : Glo) (l0 : List Cell) (l1 : List Cell) (a2 : Int) (h0 : AHeap) :
    event_Of.body C L G [(.agg l0), (.agg l1), (.c (.int .i64 a2))] h0 =
    atK l0 0 fun q_1 => asI .i64 (.c q_1) fun n_2 => if (n_2 == 1) = true then atK l0 2 fun q_3 => asI .i64 (.c q_3) fun n_4 => if 3 + 2 ≤ l0.length then if 0 = 0 ∧ l1.length = 5 then c1 (qh h0 (C 108 [(.agg ((l0.drop 3).take 2)), (.agg l1)] h0)) fun y_6 h_5 => asI .i64 y_6 fun n_7 => if 0 = 0 ∧ [Cell.int .i64 0, Cell.int .i64 0, Cell.int .i64 0, Cell.int .i64 0, Cell.int .i64 0, Cell.int .i64 0].length = 6 ∧ (splice (splice (splice [Cell.int .i64 0, Cell.int .i64 0, Cell.int .i64 0, Cell.int .i64 0, Cell.int .i64 0, Cell.int .i64 0] 2 ([(.int .i64 2)] : List Cell)) 3 ([(.int .i64 n_4)] : List Cell)) 5 ([(.int .i64 n_7)] : List Cell)).length = 6 then if 0 = 0 ∧ (splice (splice (splice [Cell.int .i64 0, Cell.int .i64 0, Cell.int .i64 0, Cell.int .i64 0, Cell.int .i64 0, Cell.int .i64 0] 2 ([(.int .i64 2)] : List Cell)) 3 ([(.int .i64 n_4)] : List Cell)) 5 ([(.int .i64 n_7)] : List Cell)).length = 6 then some ([(.agg (splice (splice (splice [Cell.int .i64 0, Cell.int .i64 0, Cell.int .i64 0, Cell.int .i64 0, Cell.int .i64 0, Cell.int .i64 0] 2 ([(.int .i64 2)] : List Cell)) 3 ([(.int .i64 n_4)] : List Cell)) 5 ([(.int .i64 n_7)] : List Cell))), (.c (.bool false))], h0) else none else none else none else none else if (n_2 == 2) = true then atK l0 2 fun q_8 => asI .i64 (.c q_8) fun n_9 => if 0 = 0 ∧ [Cell.int .i64 0, Cell.int .i64 0, Cell.int .i64 0, Cell.int .i64 0, Cell.int .i64 0, Cell.int .i64 0].length = 6 ∧ (splice (splice (splice [Cell.int .i64 0, Cell.int .i64 0, Cell.int .i64 0, Cell.int .i64 0, Cell.int .i64 0, Cell.int .i64 0] 2 ([(.int .i64 1)] : List Cell)) 3 ([(.int .i64 n_9)] : List Cell)) 4 ([(.int .i64 a2)] : List Cell)).length = 6 then if 0 = 0 ∧ (splice (splice (splice [Cell.int .i64 0, Cell.int .i64 0, Cell.int .i64 0, Cell.int .i64 0, Cell.int .i64 0, Cell.int .i64 0] 2 ([(.int .i64 1)] : List Cell)) 3 ([(.int .i64 n_9)] : List Cell)) 4 ([(.int .i64 a2)] : List Cell)).length = 6 then some ([(.agg (splice (splice (splice [Cell.int .i64 0, Cell.int .i64 0, Cell.int .i64 0, Cell.int .i64 0, Cell.int .i64 0, Cell.int .i64 0] 2 ([(.int .i64 1)] : List Cell)) 3 ([(.int .i64 n_9)] : List Cell)) 4 ([(.int .i64 a2)] : List Cell))), (.c (.bool true))], h0) else none else none else if (n_2 == 4) = true then if 3 + 2 ≤ l0.length then if 0 = 0 ∧ l1.length = 5 then c1 (C 108 [(.agg ((l0.drop 3).take 2)), (.agg l1)] h0) fun y_11 h_10 => asI .i64 y_11 fun n_12 => if (n_12 == a2) = true then atK l0 2 fun q_13 => asI .i64 (.c q_13) fun n_14 => if 6 + 2 ≤ l0.length then if 0 = 0 ∧ l1.length = 5 then c1 (qh h_10 (C 108 [(.agg ((l0.drop 6).take 2)), (.agg l1)] h_10)) fun y_16 h_15 => asI .i64 y_16 fun n_17 => if 0 = 0 ∧ [Cell.int .i64 0, Cell.int .i64 0, Cell.int .i64 0, Cell.int .i64 0, Cell.int .i64 0, Cell.int .i64 0].length = 6 ∧ (splice (splice (splice (splice [Cell.int .i64 0, Cell.int .i64 0, Cell.int .i64 0, Cell.int .i64 0, Cell.int .i64 0, Cell.int .i64 0] 2 ([(.int .i64 4)] : List Cell)) 3 ([(.int .i64 n_14)] : List Cell)) 4 ([(.int .i64 a2)] : List Cell)) 5 ([(.int .i64 n_17)] : List Cell)).length = 6 then if 0 = 0 ∧ (splice (splice (splice (splice [Cell.int .i64 0, Cell.int .i64 0, Cell.int .i64 0, Cell.int .i64 0, Cell.int .i64 0, Cell.int .i64 0] 2 ([(.int .i64 4)] : List Cell)) 3 ([(.int .i64 n_14)] : List Cell)) 4 ([(.int .i64 a2)] : List Cell)) 5 ([(.int .i64 n_17)] : List Cell)).length = 6 then some ([(.agg (splice (splice (splice (splice [Cell.int .i64 0, Cell.int .i64 0, Cell.int .i64 0, Cell.int .i64 0, Cell.int .i64 0, Cell.int .i64 0] 2 ([(.int .i64 4)] : List Cell)) 3 ([(.int .i64 n_14)] : List Cell)) 4 ([(.int .i64 a2)] : List Cell)) 5 ([(.int .i64 n_17)] : List Cell))), (.c (.bool true))], h_10) else none else none else none else none else atK l0 2 fun q_18 => asI .i64 (.c q_18) fun n_19 => if 0 = 0 ∧ [Cell.int .i64 0, Cell.int .i64 0, Cell.int .i64 0, Cell.int .i64 0, Cell.int .i64 0, Cell.int .i64 0].length = 6 ∧ (splice (splice (splice [Cell.int .i64 0, Cell.int .i64 0, Cell.int .i64 0, Cell.int .i64 0, Cell.int .i64 0, Cell.int .i64 0] 2 ([(.int .i64 5)] : List Cell)) 3 ([(.int .i64 n_19)] : List Cell)) 4 ([(.int .i64 a2)] : List Cell)).length = 6 then if 0 = 0 ∧ (splice (splice (splice [Cell.int .i64 0, Cell.int .i64 0, Cell.int .i64 0, Cell.int .i64 0, Cell.int .i64 0, Cell.int .i64 0] 2 ([(.int .i64 5)] : List Cell)) 3 ([(.int .i64 n_19)] : List Cell)) 4 ([(.int .i64 a2)] : List Cell)).length = 6 then some ([(.agg (splice (splice (splice [Cell.int .i64 0, Cell.int .i64 0, Cell.int .i64 0, Cell.int .i64 0, Cell.int .i64 0, Cell.int .i64 0] 2 ([(.int .i64 5)] : List Cell)) 3 ([(.int .i64 n_19)] : List Cell)) 4 ([(.int .i64 a2)] : List Cell))), (.c (.bool true))], h_10) else none else none else none else none else if 0 = 0 ∧ [Cell.int .i64 0, Cell.int .i64 0, Cell.int .i64 0, Cell.int .i64 0, Cell.int .i64 0, Cell.int .i64 0].length = 6 ∧ (splice [Cell.int .i64 0, Cell.int .i64 0, Cell.int .i64 0, Cell.int .i64 0, Cell.int .i64 0, Cell.int .i64 0] 2 ([(.int .i64 3)] : List Cell)).length = 6 then if 0 = 0 ∧ (splice [Cell.int .i64 0, Cell.int .i64 0, Cell.int .i64 0, Cell.int .i64 0, Cell.int .i64 0, Cell.int .i64 0] 2 ([(.int .i64 3)] : List Cell)).length = 6 then some ([(.agg (splice [Cell.int .i64 0, Cell.int .i64 0, Cell.int .i64 0, Cell.int .i64 0, Cell.int .i64 0, Cell.int .i64 0] 2 ([(.int .i64 3)] : List Cell))), (.c (.bool false))], h0) else none else none := by kernel_rfl


end Jq

/- Events: what an instruction does; a thread unfolded. -/
namespace Jq
open Go

structure Evt where
  t : Int
  i : Int
  kind : Int
  loc : Int
  r : Int
  w : Int
  deriving DecidableEq

def Evt.cs (e : Evt) : List Cell := [.int .i64 e.t, .int .i64 e.i, .int .i64 e.kind, .int .i64 e.loc, .int .i64 e.r, .int .i64 e.w]
def evsC (l : List Evt) : List Cell := l.flatMap Evt.cs
theorem Evt.len (e : Evt) : e.cs.length = 6 := rfl
theorem evsC_at : ∀ (l : List Evt) (i : Nat) (s : Evt), l[i]? = some s → ((evsC l).drop (i * 6)).take 6 = s.cs
  | [], _, _, h => by simp at h
  | q :: l, 0, s, h => by simp at h; subst h; rfl
  | q :: l, i + 1, s, h => by
    have := evsC_at l i s (by simpa using h)
    have e : evsC (q :: l) = q.cs ++ evsC l := rfl
    rw [e, List.drop_append, List.drop_of_length_le (by rw [Evt.len]; omega), List.nil_append, show (i + 1) * 6 - q.cs.length = i * 6 by rw [Evt.len]; omega]
    exact this
theorem evsC_snoc (l : List Evt) (s : Evt) : evsC (l ++ [s]) = evsC l ++ s.cs := by simp [evsC]
/-- One event, wherever it is looked at. -/
theorem SlAt.evG {h : AHeap} {x : Cell} {l : List Evt} (s : SlAt h x 6 (evsC l) l.length) {i : Nat} {q : Evt} (hq : l[i]? = some q) :
    ∃ off cs', (∀ {α : Type} (G : Nat → List Cell → Option α), (idxSK 6 x (i : Int) fun k N o => rdH h k N fun l => G o l) = G off cs') ∧ off + 6 ≤ cs'.length ∧ (cs'.drop off).take 6 = q.cs := by
  obtain ⟨off, cs', h1, h2, h3⟩ := s.elG (getI_lt hq)
  exact ⟨off, cs', h1, h2, h3.trans (evsC_at l i q hq)⟩
/-- The event of an instruction that reads v. -/
def evOf (i : Ins) (l : Lcl) (v : Int) : Evt :=
  if i.kind = 1 then ⟨0, 0, 2, i.loc, 0, opV i.a l⟩
  else if i.kind = 2 then ⟨0, 0, 1, i.loc, v, 0⟩
  else if i.kind = 4 then (if opV i.a l = v then ⟨0, 0, 4, i.loc, v, opV i.b l⟩ else ⟨0, 0, 5, i.loc, v, 0⟩)
  else ⟨0, 0, 3, 0, 0, 0⟩

def rdI (i : Ins) : Bool := decide (i.kind = 2 ∨ i.kind = 4)

/-- A thread unfolded: its events, where it is, and whether it would read more. -/
def unf (code : List Ins) (t : Int) : Nat → Lcl → List Int → List Evt → List Evt × Lcl × Bool
  | 0, l, _, out => (out, l, false)
  | k + 1, l, rs, out => match nextI code l with
    | none => (out, l, false)
    | some i =>
      if rdI i = true then match rs with
        | [] => (out, l, true)
        | v :: rs => unf code t k (afterL code l v) rs (out ++ [{ evOf i l v with t := t, i := out.length }])
      else unf code t k (afterL code l 0) rs (out ++ [{ evOf i l 0 with t := t, i := out.length }])

theorem nrm_pc {code : List Ins} : ∀ (k : Nat) (l : Lcl), l.pc ≤ (nrm code k l).pc
  | 0, l => by rw [nrm]; omega
  | k + 1, l => by
    rw [nrm]
    cases hs : stepI code l with
    | none => show l.pc ≤ l.pc; omega
    | some l' =>
      have h1 := stepI_pc hs
      have h2 := nrm_pc (code := code) k l'
      show l.pc ≤ (nrm code k l').pc
      omega

theorem afterL_pc {code : List Ins} {l : Lcl} {i : Ins} (h : nextI code l = some i) (v : Int) : l.pc + 1 ≤ (afterL code l v).pc := by
  unfold afterL
  rw [h]
  exact nrm_pc _ _

theorem evOf_novalue {i : Ins} (h : rdI i = false) (l : Lcl) (v w : Int) : evOf i l v = evOf i l w := by
  unfold rdI at h
  rw [decide_eq_false_iff_not] at h
  unfold evOf
  split
  · rfl
  · rw [if_neg (by omega), if_neg (by omega), if_neg (by omega), if_neg (by omega)]
theorem afterL_novalue {code : List Ins} {l : Lcl} {i : Ins} (hn : nextI code l = some i) (h : rdI i = false) (v w : Int) : afterL code l v = afterL code l w := by
  unfold rdI at h
  rw [decide_eq_false_iff_not] at h
  unfold afterL
  rw [hn]
  dsimp only
  rw [if_neg h, if_neg h]

theorem normL_pc (code : List Ins) (l : Lcl) : l.pc ≤ (normL code l).pc := nrm_pc _ _

section
variable {E : Env}

theorem evOf_prog (hE : event_Of_In E) (i : Ins) (l : Lcl) (v : Int) (h : AHeap) : R E 109 [.agg i.cs, .agg l.cs, .c (.int .i64 v)] h = some ([.agg (evOf i l v).cs, .c (.bool (rdI i))], h) := by
  refine R_intro hE.fn ?_
  have n3 : (3 + 2 ≤ i.cs.length) := by rw [Ins.len]; omega
  have n6 : (6 + 2 ≤ i.cs.length) := by rw [Ins.len]; omega
  unfold evOf rdI
  rw [event_Of_eq, ins_kind, asI_ok]
  by_cases k1 : i.kind = 1
  · rw [if_pos (by rw [k1]; rfl), if_pos k1, ins_loc, asI_ok, if_pos n3, if_pos ⟨rfl, rfl⟩, ins_a, Value_R hE.c108, qh_ok, c1_ok, asI_ok, if_pos ⟨rfl, rfl, rfl⟩, if_pos ⟨rfl, rfl⟩, show decide (i.kind = 2 ∨ i.kind = 4) = false from decide_eq_false (by omega)]
    rfl
  · rw [if_neg (by rw [beq_iff_eq]; exact k1), if_neg k1]
    by_cases k2 : i.kind = 2
    · rw [if_pos (by rw [k2]; rfl), if_pos k2, ins_loc, asI_ok, if_pos ⟨rfl, rfl, rfl⟩, if_pos ⟨rfl, rfl⟩, show decide (i.kind = 2 ∨ i.kind = 4) = true from decide_eq_true (by omega)]
      rfl
    · rw [if_neg (by rw [beq_iff_eq]; exact k2), if_neg k2]
      by_cases k4 : i.kind = 4
      · rw [if_pos (by rw [k4]; rfl), if_pos k4, if_pos n3, if_pos ⟨rfl, rfl⟩, ins_a, Value_R hE.c108, c1_ok, asI_ok, show decide (i.kind = 2 ∨ i.kind = 4) = true from decide_eq_true (by omega)]
        by_cases hv : opV i.a l = v
        · rw [if_pos (by rw [hv]; exact beq_self_eq_true _), if_pos hv, ins_loc, asI_ok, if_pos n6, if_pos ⟨rfl, rfl⟩, ins_b, Value_R hE.c108, qh_ok, c1_ok, asI_ok, if_pos ⟨rfl, rfl, rfl⟩, if_pos ⟨rfl, rfl⟩]
          rfl
        · rw [if_neg (by rw [beq_iff_eq]; exact hv), if_neg hv, ins_loc, asI_ok, if_pos ⟨rfl, rfl, rfl⟩, if_pos ⟨rfl, rfl⟩]
          rfl
      · rw [if_neg (by rw [beq_iff_eq]; exact k4), if_neg k4, if_pos ⟨rfl, rfl, rfl⟩, if_pos ⟨rfl, rfl⟩, show decide (i.kind = 2 ∨ i.kind = 4) = false from decide_eq_false (by omega)]
        rfl

theorem evOf_ref (hE : jacquardref6_Event_In E) (i : Ins) (l : Lcl) (v : Int) (h : AHeap) : R E 111 [.agg i.cs, .agg l.cs, .c (.int .i64 v)] h = some ([.agg (evOf i l v).cs], h) := by
  refine R_intro hE.fn ?_
  have n3 : (3 + 2 ≤ i.cs.length) := by rw [Ins.len]; omega
  have n6 : (6 + 2 ≤ i.cs.length) := by rw [Ins.len]; omega
  unfold evOf
  rw [jacquardref6_Event_eq, ins_kind, asI_ok]
  by_cases k1 : i.kind = 1
  · rw [if_pos (by rw [k1]; rfl), if_pos k1, ins_loc, asI_ok, if_pos n3, if_pos ⟨rfl, rfl⟩, ins_a, refValue_R hE.c92, qh_ok, c1_ok, asI_ok, if_pos ⟨rfl, rfl, rfl⟩, if_pos ⟨rfl, rfl⟩]
    rfl
  · rw [if_neg (by rw [beq_iff_eq]; exact k1), if_neg k1]
    by_cases k2 : i.kind = 2
    · rw [if_pos (by rw [k2]; rfl), if_pos k2, ins_loc, asI_ok, if_pos ⟨rfl, rfl, rfl⟩, if_pos ⟨rfl, rfl⟩]
      rfl
    · rw [if_neg (by rw [beq_iff_eq]; exact k2), if_neg k2]
      by_cases k4 : i.kind = 4
      · rw [if_pos (by rw [k4]; rfl), if_pos k4, if_pos n3, if_pos ⟨rfl, rfl⟩, ins_a, refValue_R hE.c92, c1_ok, asI_ok]
        by_cases hv : opV i.a l = v
        · rw [if_pos (by rw [hv]; exact beq_self_eq_true _), if_pos hv, ins_loc, asI_ok, if_pos n6, if_pos ⟨rfl, rfl⟩, ins_b, refValue_R hE.c92, qh_ok, c1_ok, asI_ok, if_pos ⟨rfl, rfl, rfl⟩, if_pos ⟨rfl, rfl⟩]
          rfl
        · rw [if_neg (by rw [beq_iff_eq]; exact fun e => hv e.symm), if_neg hv, ins_loc, asI_ok, if_pos ⟨rfl, rfl, rfl⟩, if_pos ⟨rfl, rfl⟩]
          rfl
      · rw [if_neg (by rw [beq_iff_eq]; exact k4), if_neg k4, if_pos ⟨rfl, rfl, rfl⟩, if_pos ⟨rfl, rfl⟩]
        rfl

/-- A row that can be cut, whatever is made behind it. -/
def SlOkE (h : AHeap) (esz : Nat) (x : Cell) : Prop := ∀ k N off len, x = .sl k N off len → ∀ h', Kp h.length h h' → okSl h' esz k N = true

theorem SlOk.e {h : AHeap} {x : Cell} (s : SlOk h x) (esz : Nat) : SlOkE h esz x := fun k N off len e h' hk => s k N off len e h' hk esz

theorem SlOkE.mono {h h' : AHeap} {esz : Nat} {x : Cell} (s : SlOkE h esz x) (hk : Kp h.length h h') : SlOkE h' esz x :=
  fun k N off len e h2 hk2 => s k N off len e h2 (hk.trans (hk2.mono hk.1))

theorem Own.okE {n : Nat} {h : AHeap} {x : Cell} {esz len : Nat} {cs : List Cell} (o : Own n h x esz cs len) : SlOkE h esz x := by
  intro k N off len' e h' hk
  rcases o.2 with ⟨rfl, _⟩ | ⟨k', rfl, _, hb⟩
  · cases e
  · cases e
    unfold okSl
    rw [hk.blk (blk_lt' hb), hb]; simp

/-- All but the first. -/
theorem SlAt.tail {α : Type} {h0 h : AHeap} {x : Cell} {esz len : Nat} {cs : List Cell} (s : SlAt h x esz cs (len + 1)) (hok : SlOkE h0 esz x) (hp : Kp h0.length h0 h) (hl : Low h0.length x) :
    ∃ x', (∀ f : Cell → Option α, sliceK h esz true false x [.v (.c (.int .i64 1))] f = f x') ∧ SlAt h x' esz (cs.drop esz) len ∧ Low h0.length x' ∧ SlOkE h0 esz x' := by
  have hlen : (cs.drop esz).length = len * esz := by rw [List.length_drop, s.1, Nat.succ_mul]; omega
  rcases s.2 with ⟨_, h0⟩ | ⟨k, N, off, rfl, hb⟩
  · omega
  · refine ⟨.sl k N (off + 1 * esz) (len + 1 - 1), fun f => ?_, ⟨hlen, .inr ⟨k, N, off + 1 * esz, rfl, ?_⟩⟩, ?_, ?_⟩
    · unfold sliceK
      simp only [hok k N off _ rfl h hp, if_true]
      unfold boundsK
      simp only
      rw [if_pos ⟨by omega, by omega⟩]
      rfl
    · rcases hb with h0 | ⟨b, hb, hN, hle, hat⟩
      · omega
      · rw [Nat.succ_mul] at hle hat
        refine .inr ⟨b, hb, hN, by omega, fun j hj => ?_⟩
        rw [List.getElem?_drop, ← hat (esz + j) (by omega)]
        congr 1; omega
    · rcases hl with h1 | h1
      · omega
      · exact .inr h1
    · intro k' N' off' len' hk'
      cases hk'
      exact hok k N off _ rfl

theorem intC_drop (k : IntKind) (l : List Int) (n : Nat) : (intC k l).drop n = intC k (l.drop n) := by simp [intC]

/-- No thread is long. -/
def PProg.small (P : PProg) : Prop := P.thr.length ≤ 1000 ∧ ∀ code ∈ P.thr, code.length ≤ 1000
theorem PProg.small.fits {P : PProg} (h : P.small) : P.fits := ⟨by have := h.1; omega, fun c hc => by have := h.2 c hc; omega⟩
theorem PProg.small.code {P : PProg} (h : P.small) (t : Int) : (P.code t).length ≤ 1000 := by
  unfold PProg.code
  split
  · rw [List.getD_eq_getElem?_getD]
    cases hq : P.thr[t.toNat]? with
    | none => show (0 : Nat) ≤ _; omega
    | some c => exact h.2 c (List.mem_of_getElem? hq)
  · show (0 : Nat) ≤ _; omega

theorem ev_put {t n : Int} {e : Evt} : (e.cs.set 0 (.int .i64 t)).set 1 (.int .i64 n) = ({ e with t := t, i := n } : Evt).cs := rfl
theorem ev_len16 (e : Evt) : e.cs.length = 1 * 6 := rfl
theorem ev_splice {e : Evt} : splice [Cell.int .i64 0, Cell.int .i64 0, Cell.int .i64 0, Cell.int .i64 0, Cell.int .i64 0, Cell.int .i64 0] 0 e.cs = e.cs := rfl

theorem Unfold_R (hE : event_Unfold_In E) {cs : List Cell} {P : PProg} {h : AHeap} (hsm : P.small) (p : ProgAt h cs P) (t : Int) {x : Cell} {rs : List Int} (hx : SlAt h x 1 (intC .i64 rs) rs.length) (hlx : Low h.length x) (hok : SlOkE h 1 x) :
    ∃ y h', R E 78 [.agg cs, .c (.int .i64 t), .c x] h = some ([.c y, .agg (unf (P.code t) t 1001 (startL P t) rs []).2.1.cs, .c (.bool (unf (P.code t) t 1001 (startL P t) rs []).2.2)], h') ∧
      Own h.length h' y 6 (evsC (unf (P.code t) t 1001 (startL P t) rs []).1) (unf (P.code t) t 1001 (startL P t) rs []).1.length ∧ Kp h.length h h' := by
  have hm : maxBytes ≥ 1001 * 48 := by unfold maxBytes; omega
  have hcode := hsm.code t
  have hfit := hsm.fits
  have loop : ∀ (k : Nat) (l : Lcl) (rs : List Int) (out : List Evt) (x y : Cell) (h1 : AHeap), 0 ≤ l.pc → (out.length : Int) ≤ l.pc → ((P.code t).length : Int) < l.pc + k → Kp h.length h h1 →
      SlAt h1 x 1 (intC .i64 rs) rs.length → Low h.length x → SlOkE h 1 x → Own h.length h1 y 6 (evsC out) out.length →
      ∃ y' h', (Lim (event_Unfold_F1 (R E) Lim E.glob) (event_Unfold_s1 t x y cs l.cs h1)).bind (fun p => event_Unfold_k2 (R E) Lim E.glob h p.1 p.2) = some ([.c y', .agg (unf (P.code t) t k l rs out).2.1.cs, .c (.bool (unf (P.code t) t k l rs out).2.2)], h') ∧
        Own h.length h' y' 6 (evsC (unf (P.code t) t k l rs out).1) (unf (P.code t) t k l rs out).1.length ∧ Kp h.length h h' := by
    intro k
    induction k with
    | zero =>
      intro l rs out x y h1 h0 h2 h3 hk hx hlx hok hy
      have hn : nextI (P.code t) l = none := by
        cases hq : nextI (P.code t) l with
        | none => rfl
        | some i => have := nextI_kind hq; omega
      refine ⟨y, h1, ?_, hy, hk⟩
      have hr : event_Unfold_F1 (R E) Lim E.glob (event_Unfold_s1 t x y cs l.cs h1) = some (.ret, event_Unfold_x1_0 y false l.cs h1) := by
        rw [event_Unfold_r1, if_pos ⟨rfl, p.len⟩, if_pos ⟨rfl, rfl⟩, PNext_R hE.c105 (p.keep hk), c2_ok, asA_ok, asB_ok, if_pos ⟨rfl, rfl, rfl⟩, hn, show (none : Option Ins).isSome = false from rfl, if_pos (show (!false) = true from rfl), if_pos ⟨rfl, rfl⟩, if_pos ⟨rfl, rfl, rfl⟩]
      rw [Lim_ret hr, bind_ok, event_Unfold_e1_0, if_pos ⟨rfl, rfl⟩]; rfl
    | succ k ih =>
      intro l rs out x y h1 h0 h2 h3 hk hx hlx hok hy
      rw [unf]
      cases hn : nextI (P.code t) l with
      | none =>
        refine ⟨y, h1, ?_, hy, hk⟩
        have hr : event_Unfold_F1 (R E) Lim E.glob (event_Unfold_s1 t x y cs l.cs h1) = some (.ret, event_Unfold_x1_0 y false l.cs h1) := by
          rw [event_Unfold_r1, if_pos ⟨rfl, p.len⟩, if_pos ⟨rfl, rfl⟩, PNext_R hE.c105 (p.keep hk), c2_ok, asA_ok, asB_ok, if_pos ⟨rfl, rfl, rfl⟩, hn, show (none : Option Ins).isSome = false from rfl, if_pos (show (!false) = true from rfl), if_pos ⟨rfl, rfl⟩, if_pos ⟨rfl, rfl, rfl⟩]
        rw [Lim_ret hr, bind_ok, event_Unfold_e1_0, if_pos ⟨rfl, rfl⟩]
      | some i =>
        have hnk := nextI_kind hn
        have hpc := fun v => afterL_pc hn v
        have hob : out.length < 1000 := by omega
        dsimp only
        cases rs with
        | nil =>
          have e0 : decide ((([] : List Int).length : Int) > 0) = false := rfl
          have e1 : ((([] : List Int).length : Int) == 0) = true := rfl
          by_cases hrd : rdI i = true
          · rw [if_pos hrd]
            refine ⟨y, h1, ?_, hy, hk⟩
            have hr : event_Unfold_F1 (R E) Lim E.glob (event_Unfold_s1 t x y cs l.cs h1) = some (.ret, event_Unfold_x1_0 y true l.cs h1) := by
              rw [event_Unfold_r1, if_pos ⟨rfl, p.len⟩, if_pos ⟨rfl, rfl⟩, PNext_R hE.c105 (p.keep hk), c2_ok, asA_ok, asB_ok, if_pos ⟨rfl, rfl, rfl⟩, hn, show (some i : Option Ins).isSome = true from rfl, if_neg (by simp), hx.len, e0, if_neg (by simp), if_pos ⟨rfl, rfl⟩, if_pos ⟨rfl, rfl⟩, show (some i : Option Ins).getD Ins.zero = i from rfl, evOf_prog hE.c109, c2_ok, asA_ok, asB_ok, if_pos ⟨rfl, rfl, rfl⟩, if_pos hrd, hx.len, if_pos e1, if_pos ⟨rfl, rfl⟩, if_pos ⟨rfl, rfl, rfl⟩]
            rw [Lim_ret hr, bind_ok, event_Unfold_e1_0, if_pos ⟨rfl, rfl⟩]
          · rw [if_neg hrd]
            obtain ⟨y2, h2', ha, hy2, hk2, _⟩ := hy.app (bytes := 48) (xs := ({ evOf i l 0 with t := t, i := out.length } : Evt).cs) hk.1 rfl (by omega) (by omega) (by omega)
            have hr : event_Unfold_F1 (R E) Lim E.glob (event_Unfold_s1 t x y cs l.cs h1) = some (.normal, event_Unfold_s1 t x y2 cs (afterL (P.code t) l 0).cs h2') := by
              rw [event_Unfold_r1, if_pos ⟨rfl, p.len⟩, if_pos ⟨rfl, rfl⟩, PNext_R hE.c105 (p.keep hk), c2_ok, asA_ok, asB_ok, if_pos ⟨rfl, rfl, rfl⟩, hn, show (some i : Option Ins).isSome = true from rfl, if_neg (by simp), hx.len, e0, if_neg (by simp), if_pos ⟨rfl, rfl⟩, if_pos ⟨rfl, rfl⟩, show (some i : Option Ins).getD Ins.zero = i from rfl, evOf_prog hE.c109, c2_ok, asA_ok, asB_ok, if_pos ⟨rfl, rfl, rfl⟩, if_neg hrd, hy.at.len, if_pos (by rw [Evt.len]; omega), if_pos (by rw [List.length_set, Evt.len]; omega), ev_put, if_pos ⟨rfl, rfl⟩, if_pos ⟨rfl, by simp⟩, ev_splice, if_pos (ev_len16 _), ha, if_pos ⟨rfl, p.len⟩, if_pos ⟨rfl, rfl⟩, PAfter_R hE.c106 hfit (p.keep (hk.trans hk2)), c1_ok, asA_ok, if_pos ⟨rfl, rfl, rfl⟩]
            rw [← evsC_snoc] at hy2
            obtain ⟨y3, h3', q1, q2, q3⟩ := ih (afterL (P.code t) l 0) [] (out ++ [{ evOf i l 0 with t := t, i := out.length }]) x y2 h2' (by have := hpc 0; omega) (by have := hpc 0; rw [List.length_append, List.length_singleton]; omega) (by have := hpc 0; omega) (hk.trans hk2) (hx.keep (n := h.length) hlx hk2) hlx hok (by rw [List.length_append, List.length_singleton]; exact hy2)
            refine ⟨y3, h3', ?_, q2, q3⟩
            cases hL : Lim (event_Unfold_F1 (R E) Lim E.glob) (event_Unfold_s1 t x y2 cs (afterL (P.code t) l 0).cs h2') with
            | none => rw [hL] at q1; cases q1
            | some w => rw [Lim_next hr hL]; rw [hL] at q1; exact q1
        | cons v rs =>
          have e0 : decide (((v :: rs).length : Int) > 0) = true := decide_eq_true (by rw [List.length_cons]; omega)
          have e1 : (((v :: rs).length : Int) == 0) = false := by rw [beq_eq_false_iff_ne, List.length_cons]; omega
          have g0 : ∀ {α : Type} (f : Cell → Option α), (idxSK 1 x 0 fun k N o => rdH h1 k N fun l => atK l o f) = f (.int .i64 v) := fun f => hx.get0 (by simp) rfl
          by_cases hrd : rdI i = true
          · rw [if_pos hrd]
            obtain ⟨x2, hs2, hx2, hlx2, hok2⟩ := SlAt.tail (α := Ex × St) (len := rs.length) (by rw [List.length_cons] at hx; exact hx) hok hk hlx
            have hx2' : SlAt h1 x2 1 (intC .i64 rs) rs.length := by rw [intC_drop] at hx2; exact hx2
            obtain ⟨y2, h2', ha, hy2, hk2, _⟩ := hy.app (bytes := 48) (xs := ({ evOf i l v with t := t, i := out.length } : Evt).cs) hk.1 rfl (by omega) (by omega) (by omega)
            have hr : event_Unfold_F1 (R E) Lim E.glob (event_Unfold_s1 t x y cs l.cs h1) = some (.normal, event_Unfold_s1 t x2 y2 cs (afterL (P.code t) l v).cs h2') := by
              rw [event_Unfold_r1, if_pos ⟨rfl, p.len⟩, if_pos ⟨rfl, rfl⟩, PNext_R hE.c105 (p.keep hk), c2_ok, asA_ok, asB_ok, if_pos ⟨rfl, rfl, rfl⟩, hn, show (some i : Option Ins).isSome = true from rfl, if_neg (by simp), hx.len, e0, if_pos rfl, g0, asI_ok, if_pos ⟨rfl, rfl⟩, if_pos ⟨rfl, rfl⟩, show (some i : Option Ins).getD Ins.zero = i from rfl, evOf_prog hE.c109, c2_ok, asA_ok, asB_ok, if_pos ⟨rfl, rfl, rfl⟩, if_pos hrd, hx.len, e1, if_neg (by simp), hs2, hy.at.len, if_pos (by rw [Evt.len]; omega), if_pos (by rw [List.length_set, Evt.len]; omega), ev_put, if_pos ⟨rfl, rfl⟩, if_pos ⟨rfl, by simp⟩, ev_splice, if_pos (ev_len16 _), ha, if_pos ⟨rfl, p.len⟩, if_pos ⟨rfl, rfl⟩, PAfter_R hE.c106 hfit (p.keep (hk.trans hk2)), c1_ok, asA_ok, if_pos ⟨rfl, rfl, rfl⟩]
            rw [← evsC_snoc] at hy2
            obtain ⟨y3, h3', q1, q2, q3⟩ := ih (afterL (P.code t) l v) rs (out ++ [{ evOf i l v with t := t, i := out.length }]) x2 y2 h2' (by have := hpc v; omega) (by have := hpc v; rw [List.length_append, List.length_singleton]; omega) (by have := hpc v; omega) (hk.trans hk2) (hx2'.keep (n := h.length) hlx2 hk2) hlx2 hok2 (by rw [List.length_append, List.length_singleton]; exact hy2)
            refine ⟨y3, h3', ?_, q2, q3⟩
            cases hL : Lim (event_Unfold_F1 (R E) Lim E.glob) (event_Unfold_s1 t x2 y2 cs (afterL (P.code t) l v).cs h2') with
            | none => rw [hL] at q1; cases q1
            | some w => rw [Lim_next hr hL]; rw [hL] at q1; exact q1
          · have hrd' : rdI i = false := by simpa using hrd
            rw [if_neg hrd]
            obtain ⟨y2, h2', ha, hy2, hk2, _⟩ := hy.app (bytes := 48) (xs := ({ evOf i l 0 with t := t, i := out.length } : Evt).cs) hk.1 rfl (by omega) (by omega) (by omega)
            have hr : event_Unfold_F1 (R E) Lim E.glob (event_Unfold_s1 t x y cs l.cs h1) = some (.normal, event_Unfold_s1 t x y2 cs (afterL (P.code t) l 0).cs h2') := by
              rw [event_Unfold_r1, if_pos ⟨rfl, p.len⟩, if_pos ⟨rfl, rfl⟩, PNext_R hE.c105 (p.keep hk), c2_ok, asA_ok, asB_ok, if_pos ⟨rfl, rfl, rfl⟩, hn, show (some i : Option Ins).isSome = true from rfl, if_neg (by simp), hx.len, e0, if_pos rfl, g0, asI_ok, if_pos ⟨rfl, rfl⟩, if_pos ⟨rfl, rfl⟩, show (some i : Option Ins).getD Ins.zero = i from rfl, evOf_prog hE.c109, evOf_novalue hrd' l v 0, c2_ok, asA_ok, asB_ok, if_pos ⟨rfl, rfl, rfl⟩, if_neg hrd, hy.at.len, if_pos (by rw [Evt.len]; omega), if_pos (by rw [List.length_set, Evt.len]; omega), ev_put, if_pos ⟨rfl, rfl⟩, if_pos ⟨rfl, by simp⟩, ev_splice, if_pos (ev_len16 _), ha, if_pos ⟨rfl, p.len⟩, if_pos ⟨rfl, rfl⟩, PAfter_R hE.c106 hfit (p.keep (hk.trans hk2)), afterL_novalue hn hrd' v 0, c1_ok, asA_ok, if_pos ⟨rfl, rfl, rfl⟩]
            rw [← evsC_snoc] at hy2
            obtain ⟨y3, h3', q1, q2, q3⟩ := ih (afterL (P.code t) l 0) (v :: rs) (out ++ [{ evOf i l 0 with t := t, i := out.length }]) x y2 h2' (by have := hpc 0; omega) (by have := hpc 0; rw [List.length_append, List.length_singleton]; omega) (by have := hpc 0; omega) (hk.trans hk2) (hx.keep (n := h.length) hlx hk2) hlx hok (by rw [List.length_append, List.length_singleton]; exact hy2)
            refine ⟨y3, h3', ?_, q2, q3⟩
            cases hL : Lim (event_Unfold_F1 (R E) Lim E.glob) (event_Unfold_s1 t x y2 cs (afterL (P.code t) l 0).cs h2') with
            | none => rw [hL] at q1; cases q1
            | some w => rw [Lim_next hr hL]; rw [hL] at q1; exact q1
  have hs0 : 0 ≤ (startL P t).pc := by have := normL_pc (P.code t) Lcl.zero; exact this
  obtain ⟨y', h', q1, q2, q3⟩ := loop 1001 (startL P t) rs [] x .nils h hs0 (by simpa using hs0) (by omega) (Kp.refl _ _) hx hlx hok (Own.nil _ _ _)
  refine ⟨y', h', R_intro hE.fn ?_, q2, q3⟩
  rw [event_Unfold_eq, if_pos ⟨rfl, p.len⟩, PStart_R hE.c94 hfit p, c1_ok, asA_ok, if_pos ⟨rfl, rfl, rfl⟩]
  exact q1

end
end Jq

namespace Jq
open Go

/- jacquard/jacquardlaw10.awake: 77 -/
set_option maxRecDepth 100000 in
theorem jacquardlaw10_awake_eq (C : CallF) (L : LoopF) (G : Glo)  (h0 : AHeap) :
    jacquardlaw10_awake.body C L G [] h0 =
    if (splice [Cell.int .u8 0] 0 ([(.int .u8 120)] : List Cell)).length = 1 * 1 then markK (.sl h0.length ((splice [Cell.int .u8 0] 0 ([(.int .u8 120)] : List Cell)).length) 0 1) (h0 ++ [some (Blk.mk true 1 (splice [Cell.int .u8 0] 0 ([(.int .u8 120)] : List Cell)))]) fun x_1 h_2 => if (splice [Cell.int .i64 0] 0 ([(.int .i64 4)] : List Cell)).length = 1 * 1 then if (splice (splice (List.replicate 9 (Cell.int .i64 0)) 0 ([(.int .i64 2)] : List Cell)) 1 ([(.int .i64 1)] : List Cell)).length = 9 ∧ 0 + 9 ≤ (List.replicate 9 (Cell.int .i64 0)).length then if (splice (List.replicate 9 (Cell.int .i64 0)) 0 (splice (splice (List.replicate 9 (Cell.int .i64 0)) 0 ([(.int .i64 2)] : List Cell)) 1 ([(.int .i64 1)] : List Cell))).length = 1 * 9 then if (splice [Cell.nils] 0 ([(.sl ((h_2 ++ [some (Blk.mk true 1 (splice [Cell.int .i64 0] 0 ([(.int .i64 4)] : List Cell)))]).length) ((splice (List.replicate 9 (Cell.int .i64 0)) 0 (splice (splice (List.replicate 9 (Cell.int .i64 0)) 0 ([(.int .i64 2)] : List Cell)) 1 ([(.int .i64 1)] : List Cell))).length) 0 1)] : List Cell)).length = 1 * 1 then if 0 = 0 ∧ [Cell.nils, Cell.nils, Cell.nils].length = 3 ∧ (splice (splice (splice [Cell.nils, Cell.nils, Cell.nils] 0 ([x_1] : List Cell)) 1 ([(.sl h_2.length ((splice [Cell.int .i64 0] 0 ([(.int .i64 4)] : List Cell)).length) 0 1)] : List Cell)) 2 ([(.sl (((h_2 ++ [some (Blk.mk true 1 (splice [Cell.int .i64 0] 0 ([(.int .i64 4)] : List Cell)))]) ++ [some (Blk.mk true 9 (splice (List.replicate 9 (Cell.int .i64 0)) 0 (splice (splice (List.replicate 9 (Cell.int .i64 0)) 0 ([(.int .i64 2)] : List Cell)) 1 ([(.int .i64 1)] : List Cell))))]).length) ((splice [Cell.nils] 0 ([(.sl ((h_2 ++ [some (Blk.mk true 1 (splice [Cell.int .i64 0] 0 ([(.int .i64 4)] : List Cell)))]).length) ((splice (List.replicate 9 (Cell.int .i64 0)) 0 (splice (splice (List.replicate 9 (Cell.int .i64 0)) 0 ([(.int .i64 2)] : List Cell)) 1 ([(.int .i64 1)] : List Cell))).length) 0 1)] : List Cell)).length) 0 1)] : List Cell)).length = 3 then if 0 = 0 ∧ (splice (splice (splice [Cell.nils, Cell.nils, Cell.nils] 0 ([x_1] : List Cell)) 1 ([(.sl h_2.length ((splice [Cell.int .i64 0] 0 ([(.int .i64 4)] : List Cell)).length) 0 1)] : List Cell)) 2 ([(.sl (((h_2 ++ [some (Blk.mk true 1 (splice [Cell.int .i64 0] 0 ([(.int .i64 4)] : List Cell)))]) ++ [some (Blk.mk true 9 (splice (List.replicate 9 (Cell.int .i64 0)) 0 (splice (splice (List.replicate 9 (Cell.int .i64 0)) 0 ([(.int .i64 2)] : List Cell)) 1 ([(.int .i64 1)] : List Cell))))]).length) ((splice [Cell.nils] 0 ([(.sl ((h_2 ++ [some (Blk.mk true 1 (splice [Cell.int .i64 0] 0 ([(.int .i64 4)] : List Cell)))]).length) ((splice (List.replicate 9 (Cell.int .i64 0)) 0 (splice (splice (List.replicate 9 (Cell.int .i64 0)) 0 ([(.int .i64 2)] : List Cell)) 1 ([(.int .i64 1)] : List Cell))).length) 0 1)] : List Cell)).length) 0 1)] : List Cell)).length = 3 then if (splice [Cell.int .i64 0] 0 ([(.int .i64 5)] : List Cell)).length = 1 * 1 then c3 (C 78 [(.agg (splice (splice (splice [Cell.nils, Cell.nils, Cell.nils] 0 ([x_1] : List Cell)) 1 ([(.sl h_2.length ((splice [Cell.int .i64 0] 0 ([(.int .i64 4)] : List Cell)).length) 0 1)] : List Cell)) 2 ([(.sl (((h_2 ++ [some (Blk.mk true 1 (splice [Cell.int .i64 0] 0 ([(.int .i64 4)] : List Cell)))]) ++ [some (Blk.mk true 9 (splice (List.replicate 9 (Cell.int .i64 0)) 0 (splice (splice (List.replicate 9 (Cell.int .i64 0)) 0 ([(.int .i64 2)] : List Cell)) 1 ([(.int .i64 1)] : List Cell))))]).length) ((splice [Cell.nils] 0 ([(.sl ((h_2 ++ [some (Blk.mk true 1 (splice [Cell.int .i64 0] 0 ([(.int .i64 4)] : List Cell)))]).length) ((splice (List.replicate 9 (Cell.int .i64 0)) 0 (splice (splice (List.replicate 9 (Cell.int .i64 0)) 0 ([(.int .i64 2)] : List Cell)) 1 ([(.int .i64 1)] : List Cell))).length) 0 1)] : List Cell)).length) 0 1)] : List Cell))), (.c (.int .i64 0)), (.c (.sl ((((h_2 ++ [some (Blk.mk true 1 (splice [Cell.int .i64 0] 0 ([(.int .i64 4)] : List Cell)))]) ++ [some (Blk.mk true 9 (splice (List.replicate 9 (Cell.int .i64 0)) 0 (splice (splice (List.replicate 9 (Cell.int .i64 0)) 0 ([(.int .i64 2)] : List Cell)) 1 ([(.int .i64 1)] : List Cell))))]) ++ [some (Blk.mk true 1 (splice [Cell.nils] 0 ([(.sl ((h_2 ++ [some (Blk.mk true 1 (splice [Cell.int .i64 0] 0 ([(.int .i64 4)] : List Cell)))]).length) ((splice (List.replicate 9 (Cell.int .i64 0)) 0 (splice (splice (List.replicate 9 (Cell.int .i64 0)) 0 ([(.int .i64 2)] : List Cell)) 1 ([(.int .i64 1)] : List Cell))).length) 0 1)] : List Cell)))]).length) ((splice [Cell.int .i64 0] 0 ([(.int .i64 5)] : List Cell)).length) 0 1))] ((((h_2 ++ [some (Blk.mk true 1 (splice [Cell.int .i64 0] 0 ([(.int .i64 4)] : List Cell)))]) ++ [some (Blk.mk true 9 (splice (List.replicate 9 (Cell.int .i64 0)) 0 (splice (splice (List.replicate 9 (Cell.int .i64 0)) 0 ([(.int .i64 2)] : List Cell)) 1 ([(.int .i64 1)] : List Cell))))]) ++ [some (Blk.mk true 1 (splice [Cell.nils] 0 ([(.sl ((h_2 ++ [some (Blk.mk true 1 (splice [Cell.int .i64 0] 0 ([(.int .i64 4)] : List Cell)))]).length) ((splice (List.replicate 9 (Cell.int .i64 0)) 0 (splice (splice (List.replicate 9 (Cell.int .i64 0)) 0 ([(.int .i64 2)] : List Cell)) 1 ([(.int .i64 1)] : List Cell))).length) 0 1)] : List Cell)))]) ++ [some (Blk.mk true 1 (splice [Cell.int .i64 0] 0 ([(.int .i64 5)] : List Cell)))])) fun y_4 y_5 y_6 h_3 => asC y_4 fun x_7 => asA y_5 fun l_8 => asB y_6 fun b_9 => if 0 = 0 ∧ [Cell.int .i64 0, Cell.int .i64 0, Cell.int .i64 0, Cell.int .i64 0, Cell.int .i64 0].length = 5 ∧ l_8.length = 5 then if 0 = 0 ∧ (splice (splice (splice [Cell.nils, Cell.nils, Cell.nils] 0 ([x_1] : List Cell)) 1 ([(.sl h_2.length ((splice [Cell.int .i64 0] 0 ([(.int .i64 4)] : List Cell)).length) 0 1)] : List Cell)) 2 ([(.sl (((h_2 ++ [some (Blk.mk true 1 (splice [Cell.int .i64 0] 0 ([(.int .i64 4)] : List Cell)))]) ++ [some (Blk.mk true 9 (splice (List.replicate 9 (Cell.int .i64 0)) 0 (splice (splice (List.replicate 9 (Cell.int .i64 0)) 0 ([(.int .i64 2)] : List Cell)) 1 ([(.int .i64 1)] : List Cell))))]).length) ((splice [Cell.nils] 0 ([(.sl ((h_2 ++ [some (Blk.mk true 1 (splice [Cell.int .i64 0] 0 ([(.int .i64 4)] : List Cell)))]).length) ((splice (List.replicate 9 (Cell.int .i64 0)) 0 (splice (splice (List.replicate 9 (Cell.int .i64 0)) 0 ([(.int .i64 2)] : List Cell)) 1 ([(.int .i64 1)] : List Cell))).length) 0 1)] : List Cell)).length) 0 1)] : List Cell)).length = 3 then c1 (C 88 [(.agg (splice (splice (splice [Cell.nils, Cell.nils, Cell.nils] 0 ([x_1] : List Cell)) 1 ([(.sl h_2.length ((splice [Cell.int .i64 0] 0 ([(.int .i64 4)] : List Cell)).length) 0 1)] : List Cell)) 2 ([(.sl (((h_2 ++ [some (Blk.mk true 1 (splice [Cell.int .i64 0] 0 ([(.int .i64 4)] : List Cell)))]) ++ [some (Blk.mk true 9 (splice (List.replicate 9 (Cell.int .i64 0)) 0 (splice (splice (List.replicate 9 (Cell.int .i64 0)) 0 ([(.int .i64 2)] : List Cell)) 1 ([(.int .i64 1)] : List Cell))))]).length) ((splice [Cell.nils] 0 ([(.sl ((h_2 ++ [some (Blk.mk true 1 (splice [Cell.int .i64 0] 0 ([(.int .i64 4)] : List Cell)))]).length) ((splice (List.replicate 9 (Cell.int .i64 0)) 0 (splice (splice (List.replicate 9 (Cell.int .i64 0)) 0 ([(.int .i64 2)] : List Cell)) 1 ([(.int .i64 1)] : List Cell))).length) 0 1)] : List Cell)).length) 0 1)] : List Cell)))] h_3) fun y_11 h_10 => asC y_11 fun x_12 => lenK x_7 fun n_13 => scK (n_13 == 1) true (idxSK 6 x_7 0 fun k_14 N_15 o_16 => rdH h_10 k_14 N_15 fun l_17 => if o_16 + 6 ≤ l_17.length then if alike ((l_17.drop o_16).take 6) ([Cell.int .i64 0, Cell.int .i64 0, Cell.int .i64 0, Cell.int .i64 0, Cell.int .i64 0, Cell.int .i64 0]) = true ∧ alike (splice (splice [Cell.int .i64 0, Cell.int .i64 0, Cell.int .i64 0, Cell.int .i64 0, Cell.int .i64 0, Cell.int .i64 0] 2 ([(.int .i64 1)] : List Cell)) 4 ([(.int .i64 5)] : List Cell)) ([Cell.int .i64 0, Cell.int .i64 0, Cell.int .i64 0, Cell.int .i64 0, Cell.int .i64 0, Cell.int .i64 0]) = true then some ((decide (((l_17.drop o_16).take 6) = (splice (splice [Cell.int .i64 0, Cell.int .i64 0, Cell.int .i64 0, Cell.int .i64 0, Cell.int .i64 0, Cell.int .i64 0] 2 ([(.int .i64 1)] : List Cell)) 4 ([(.int .i64 5)] : List Cell)))), h_10) else none else none) false h_10 fun b_18 h_19 => scK b_18 true (atK l_8 2 fun q_20 => asI .i64 (.c q_20) fun n_21 => some ((n_21 == 5), h_19)) false h_19 fun b_22 h_23 => scK b_22 true (some ((!b_9), h_23)) false h_23 fun b_24 h_25 => scK b_24 true (lenK x_12 fun n_26 => some ((n_26 == 1), h_25)) false h_25 fun b_27 h_28 => scK b_27 true (idxSK 6 x_12 0 fun k_29 N_30 o_31 => rdH h_28 k_29 N_30 fun l_32 => if o_31 + 6 ≤ l_32.length then if alike ((l_32.drop o_31).take 6) ([Cell.int .i64 0, Cell.int .i64 0, Cell.int .i64 0, Cell.int .i64 0, Cell.int .i64 0, Cell.int .i64 0]) = true ∧ alike (splice (splice (splice [Cell.int .i64 0, Cell.int .i64 0, Cell.int .i64 0, Cell.int .i64 0, Cell.int .i64 0, Cell.int .i64 0] 0 ([(.int .i64 (-1))] : List Cell)) 2 ([(.int .i64 2)] : List Cell)) 5 ([(.int .i64 4)] : List Cell)) ([Cell.int .i64 0, Cell.int .i64 0, Cell.int .i64 0, Cell.int .i64 0, Cell.int .i64 0, Cell.int .i64 0]) = true then some ((decide (((l_32.drop o_31).take 6) = (splice (splice (splice [Cell.int .i64 0, Cell.int .i64 0, Cell.int .i64 0, Cell.int .i64 0, Cell.int .i64 0, Cell.int .i64 0] 0 ([(.int .i64 (-1))] : List Cell)) 2 ([(.int .i64 2)] : List Cell)) 5 ([(.int .i64 4)] : List Cell)))), h_28) else none else none) false h_28 fun b_33 h_34 => finish true h0 [(.c (.bool b_33))] h_34 else none else none else none else none else none else none else none else none else none else none := by kernel_rfl

/- jacquard/jacquardlaw10.EventUnfolds: 213 -/
def jacquardlaw10_EventUnfolds_k2 (C : CallF) (L : LoopF) (G : Glo) (h0 : AHeap) : Ex → St → Option (List AV × AHeap) :=
  kSeq (fun st => jacquardlaw10_EventUnfolds_p1.exec C L G st (jacquardlaw10_EventUnfolds.fin G h0)) (jacquardlaw10_EventUnfolds.fin G h0)
def jacquardlaw10_EventUnfolds_k3 (C : CallF) (L : LoopF) (G : Glo) (h0 : AHeap) : Ex → St → Option (List AV × AHeap) :=
  kBlk 0 (jacquardlaw10_EventUnfolds_k2 C L G h0)
def jacquardlaw10_EventUnfolds_s1 (x8 : Cell) (x11 : Cell) (a14 : Int) (s0 : List Cell) (h : AHeap) : St := ⟨[.top, .top, .top, .top, .top, .top, .top, .loc 0 0, .v (.c x8), .top, .top, .v (.c x11), .top, .top, .v (.c (.int .i64 a14)), .top, .top, .top, .top, .top, .top, .top, .top, .top, .top, .top, .top, .top, .top, .top, .top, .top, .top, .top, .top, .top, .top, .top, .top, .top, .top, .top, .top, .top, .top, .top, .top, .top, .top, .top, .top, .top, .top, .top, .top, .top, .top, .top, .top, .top, .top, .top, .top, .top, .top, .top, .top, .top, .top, .top, .top, .top, .top, .top, .top, .top, .top, .top, .top, .top, .top, .top, .top, .top, .top, .top, .top, .top, .top, .top, .top, .top, .top, .top, .top, .top, .top, .top, .top, .top, .top, .top, .top, .top, .top, .top, .top, .top, .top, .top, .top, .top, .top, .top, .top, .top, .top, .top, .top, .top, .top, .top, .top, .top, .top, .top, .top, .top, .top, .top, .top, .top, .top, .top, .top, .top, .top, .top, .top, .top], [some s0, none, none], h⟩
def jacquardlaw10_EventUnfolds_F1 (C : CallF) (L : LoopF) (G : Glo) : St → Option (Ex × St) :=
  roundF (fun st f => jacquardlaw10_EventUnfolds_b1.exec C L G st f) [7, 8, 11, 14] [0] [(0, [6], []), (1, [7], [0])]
def jacquardlaw10_EventUnfolds_x1_0 (b6 : Bool) (h : AHeap) : St := ⟨[.top, .top, .top, .top, .top, .top, .v (.c (.bool b6)), .top, .top, .top, .top, .top, .top, .top, .top, .top, .top, .top, .top, .top, .top, .top, .top, .top, .top, .top, .top, .top, .top, .top, .top, .top, .top, .top, .top, .top, .top, .top, .top, .top, .top, .top, .top, .top, .top, .top, .top, .top, .top, .top, .top, .top, .top, .top, .top, .top, .top, .top, .top, .top, .top, .top, .top, .top, .top, .top, .top, .top, .top, .top, .top, .top, .top, .top, .top, .top, .top, .top, .top, .top, .top, .top, .top, .top, .top, .top, .top, .top, .top, .top, .top, .top, .top, .top, .top, .top, .top, .top, .top, .top, .top, .top, .top, .top, .top, .top, .top, .top, .top, .top, .top, .top, .top, .top, .top, .top, .top, .top, .top, .top, .top, .top, .top, .top, .top, .top, .top, .top, .top, .top, .top, .top, .top, .top, .top, .top, .top, .top, .top, .top], [none, none, none], h⟩
def jacquardlaw10_EventUnfolds_x1_1 (s0 : List Cell) (h : AHeap) : St := ⟨[.top, .top, .top, .top, .top, .top, .top, .loc 0 0, .top, .top, .top, .top, .top, .top, .top, .top, .top, .top, .top, .top, .top, .top, .top, .top, .top, .top, .top, .top, .top, .top, .top, .top, .top, .top, .top, .top, .top, .top, .top, .top, .top, .top, .top, .top, .top, .top, .top, .top, .top, .top, .top, .top, .top, .top, .top, .top, .top, .top, .top, .top, .top, .top, .top, .top, .top, .top, .top, .top, .top, .top, .top, .top, .top, .top, .top, .top, .top, .top, .top, .top, .top, .top, .top, .top, .top, .top, .top, .top, .top, .top, .top, .top, .top, .top, .top, .top, .top, .top, .top, .top, .top, .top, .top, .top, .top, .top, .top, .top, .top, .top, .top, .top, .top, .top, .top, .top, .top, .top, .top, .top, .top, .top, .top, .top, .top, .top, .top, .top, .top, .top, .top, .top, .top, .top, .top, .top, .top, .top, .top, .top], [some s0, none, none], h⟩
def jacquardlaw10_EventUnfolds_k4 (C : CallF) (L : LoopF) (G : Glo) (h0 : AHeap) : Ex → St → Option (List AV × AHeap) :=
  kSeq (fun st => jacquardlaw10_EventUnfolds_p2.exec C L G st (jacquardlaw10_EventUnfolds.fin G h0)) (jacquardlaw10_EventUnfolds.fin G h0)
def jacquardlaw10_EventUnfolds_k5 (C : CallF) (L : LoopF) (G : Glo) (h0 : AHeap) : Ex → St → Option (List AV × AHeap) :=
  kBlk 2 (jacquardlaw10_EventUnfolds_k4 C L G h0)
def jacquardlaw10_EventUnfolds_s2 (x15 : Cell) (x16 : Cell) (a17 : Int) (h : AHeap) : St := ⟨[.top, .top, .top, .top, .top, .top, .top, .top, .top, .top, .top, .top, .top, .top, .top, .v (.c x15), .v (.c x16), .v (.c (.int .i64 a17)), .top, .top, .top, .top, .top, .top, .top, .top, .top, .top, .top, .top, .top, .top, .top, .top, .top, .top, .top, .top, .top, .top, .top, .top, .top, .top, .top, .top, .top, .top, .top, .top, .top, .top, .top, .top, .top, .top, .top, .top, .top, .top, .top, .top, .top, .top, .top, .top, .top, .top, .top, .top, .top, .top, .top, .top, .top, .top, .top, .top, .top, .top, .top, .top, .top, .top, .top, .top, .top, .top, .top, .top, .top, .top, .top, .top, .top, .top, .top, .top, .top, .top, .top, .top, .top, .top, .top, .top, .top, .top, .top, .top, .top, .top, .top, .top, .top, .top, .top, .top, .top, .top, .top, .top, .top, .top, .top, .top, .top, .top, .top, .top, .top, .top, .top, .top, .top, .top, .top, .top, .top, .top], [none, none, none], h⟩
def jacquardlaw10_EventUnfolds_F2 (C : CallF) (L : LoopF) (G : Glo) : St → Option (Ex × St) :=
  roundF (fun st f => jacquardlaw10_EventUnfolds_b2.exec C L G st f) [15, 16, 17] [] [(0, [6], []), (3, [], [])]
def jacquardlaw10_EventUnfolds_x2_0 (b6 : Bool) (h : AHeap) : St := ⟨[.top, .top, .top, .top, .top, .top, .v (.c (.bool b6)), .top, .top, .top, .top, .top, .top, .top, .top, .top, .top, .top, .top, .top, .top, .top, .top, .top, .top, .top, .top, .top, .top, .top, .top, .top, .top, .top, .top, .top, .top, .top, .top, .top, .top, .top, .top, .top, .top, .top, .top, .top, .top, .top, .top, .top, .top, .top, .top, .top, .top, .top, .top, .top, .top, .top, .top, .top, .top, .top, .top, .top, .top, .top, .top, .top, .top, .top, .top, .top, .top, .top, .top, .top, .top, .top, .top, .top, .top, .top, .top, .top, .top, .top, .top, .top, .top, .top, .top, .top, .top, .top, .top, .top, .top, .top, .top, .top, .top, .top, .top, .top, .top, .top, .top, .top, .top, .top, .top, .top, .top, .top, .top, .top, .top, .top, .top, .top, .top, .top, .top, .top, .top, .top, .top, .top, .top, .top, .top, .top, .top, .top, .top, .top], [none, none, none], h⟩
def jacquardlaw10_EventUnfolds_x2_3 (h : AHeap) : St := ⟨[.top, .top, .top, .top, .top, .top, .top, .top, .top, .top, .top, .top, .top, .top, .top, .top, .top, .top, .top, .top, .top, .top, .top, .top, .top, .top, .top, .top, .top, .top, .top, .top, .top, .top, .top, .top, .top, .top, .top, .top, .top, .top, .top, .top, .top, .top, .top, .top, .top, .top, .top, .top, .top, .top, .top, .top, .top, .top, .top, .top, .top, .top, .top, .top, .top, .top, .top, .top, .top, .top, .top, .top, .top, .top, .top, .top, .top, .top, .top, .top, .top, .top, .top, .top, .top, .top, .top, .top, .top, .top, .top, .top, .top, .top, .top, .top, .top, .top, .top, .top, .top, .top, .top, .top, .top, .top, .top, .top, .top, .top, .top, .top, .top, .top, .top, .top, .top, .top, .top, .top, .top, .top, .top, .top, .top, .top, .top, .top, .top, .top, .top, .top, .top, .top, .top, .top, .top, .top, .top, .top], [none, none, none], h⟩
theorem jacquardlaw10_EventUnfolds_r1 (C : CallF) (L : LoopF) (G : Glo) (x8 : Cell) (x11 : Cell) (a14 : Int) (s0 : List Cell) (h : AHeap) :
    jacquardlaw10_EventUnfolds_F1 C L G (jacquardlaw10_EventUnfolds_s1 x8 x11 a14 s0 h) =
    lenK x11 fun n_33 => if (decide (a14 < n_33)) = true then idxSK 6 x8 a14 fun k_34 N_35 o_36 => rdH h k_34 N_35 fun l_37 => if o_36 + 6 ≤ l_37.length then idxSK 6 x11 a14 fun k_38 N_39 o_40 => rdH h k_38 N_39 fun l_41 => if o_40 + 6 ≤ l_41.length then if alike ((l_37.drop o_36).take 6) ([Cell.int .i64 0, Cell.int .i64 0, Cell.int .i64 0, Cell.int .i64 0, Cell.int .i64 0, Cell.int .i64 0]) = true ∧ alike ((l_41.drop o_40).take 6) ([Cell.int .i64 0, Cell.int .i64 0, Cell.int .i64 0, Cell.int .i64 0, Cell.int .i64 0, Cell.int .i64 0]) = true then scK (!(decide (((l_37.drop o_36).take 6) = ((l_41.drop o_40).take 6)))) false (idxSK 6 x11 a14 fun k_42 N_43 o_44 => rdH h k_42 N_43 fun l_45 => if o_44 + 6 ≤ l_45.length then c1 (qh h (C 79 [(.agg ((l_45.drop o_44).take 6))] h)) fun y_47 h_46 => asB y_47 fun b_48 => idxSK 6 x11 a14 fun k_49 N_50 o_51 => rdH h k_49 N_50 fun l_52 => if o_51 + 6 ≤ l_52.length then c1 (qh h (C 85 [(.agg ((l_52.drop o_51).take 6))] h)) fun y_54 h_53 => asB y_54 fun b_55 => some ((!(b_48 == b_55)), h) else none else none) true h fun b_56 h_57 => scK b_56 false (idxSK 6 x11 a14 fun k_58 N_59 o_60 => rdH h_57 k_58 N_59 fun l_61 => if o_60 + 6 ≤ l_61.length then c1 (qh h_57 (C 80 [(.agg ((l_61.drop o_60).take 6))] h_57)) fun y_63 h_62 => asB y_63 fun b_64 => idxSK 6 x11 a14 fun k_65 N_66 o_67 => rdH h_57 k_65 N_66 fun l_68 => if o_67 + 6 ≤ l_68.length then c1 (qh h_57 (C 86 [(.agg ((l_68.drop o_67).take 6))] h_57)) fun y_70 h_69 => asB y_70 fun b_71 => some ((!(b_64 == b_71)), h_57) else none else none) true h_57 fun b_72 h_73 => scK b_72 false (idxSK 6 x11 a14 fun k_74 N_75 o_76 => rdH h_73 k_74 N_75 fun l_77 => if o_76 + 6 ≤ l_77.length then c1 (qh h_73 (C 82 [(.agg ((l_77.drop o_76).take 6))] h_73)) fun y_79 h_78 => asB y_79 fun b_80 => idxSK 6 x11 a14 fun k_81 N_82 o_83 => rdH h_73 k_81 N_82 fun l_84 => if o_83 + 6 ≤ l_84.length then c1 (qh h_73 (C 87 [(.agg ((l_84.drop o_83).take 6))] h_73)) fun y_86 h_85 => asB y_86 fun b_87 => some ((!(b_80 == b_87)), h_73) else none else none) true h_73 fun b_88 h_89 => if b_88 = true then some (.ret, (jacquardlaw10_EventUnfolds_x1_0 false h_89)) else some (.normal, (jacquardlaw10_EventUnfolds_s1 x8 x11 (G.wrap .i64 (a14 + 1)) s0 h_89)) else none else none else none else some ((.exit 0), (jacquardlaw10_EventUnfolds_x1_1 s0 h)) := by kernel_rfl
theorem jacquardlaw10_EventUnfolds_e1_0 (C : CallF) (L : LoopF) (G : Glo) (h0 : AHeap) (b6 : Bool) (h : AHeap) :
    (jacquardlaw10_EventUnfolds_k3 C L G h0) .ret (jacquardlaw10_EventUnfolds_x1_0 b6 h) =
    some ([(.c (.bool b6))], h) := by kernel_rfl
theorem jacquardlaw10_EventUnfolds_r2 (C : CallF) (L : LoopF) (G : Glo) (x15 : Cell) (x16 : Cell) (a17 : Int) (h : AHeap) :
    jacquardlaw10_EventUnfolds_F2 C L G (jacquardlaw10_EventUnfolds_s2 x15 x16 a17 h) =
    lenK x16 fun n_98 => if (decide (a17 < n_98)) = true then idxSK 6 x15 a17 fun k_99 N_100 o_101 => rdH h k_99 N_100 fun l_102 => if o_101 + 6 ≤ l_102.length then idxSK 6 x16 a17 fun k_103 N_104 o_105 => rdH h k_103 N_104 fun l_106 => if o_105 + 6 ≤ l_106.length then if alike ((l_102.drop o_101).take 6) ([Cell.int .i64 0, Cell.int .i64 0, Cell.int .i64 0, Cell.int .i64 0, Cell.int .i64 0, Cell.int .i64 0]) = true ∧ alike ((l_106.drop o_105).take 6) ([Cell.int .i64 0, Cell.int .i64 0, Cell.int .i64 0, Cell.int .i64 0, Cell.int .i64 0, Cell.int .i64 0]) = true then if (!(decide (((l_102.drop o_101).take 6) = ((l_106.drop o_105).take 6)))) = true then some (.ret, (jacquardlaw10_EventUnfolds_x2_0 false h)) else some (.normal, (jacquardlaw10_EventUnfolds_s2 x15 x16 (G.wrap .i64 (a17 + 1)) h)) else none else none else none else some ((.exit 2), (jacquardlaw10_EventUnfolds_x2_3 h)) := by kernel_rfl
theorem jacquardlaw10_EventUnfolds_e2_0 (C : CallF) (L : LoopF) (G : Glo) (h0 : AHeap) (b6 : Bool) (h : AHeap) :
    (jacquardlaw10_EventUnfolds_k5 C L G h0) .ret (jacquardlaw10_EventUnfolds_x2_0 b6 h) =
    some ([(.c (.bool b6))], h) := by kernel_rfl
theorem jacquardlaw10_EventUnfolds_e2_3 (C : CallF) (L : LoopF) (G : Glo) (h0 : AHeap) (h : AHeap) :
    (jacquardlaw10_EventUnfolds_k5 C L G h0) (.exit 2) (jacquardlaw10_EventUnfolds_x2_3 h) =
    c1 (C 77 [] h) fun y_108 h_107 => asB y_108 fun b_109 => some ([(.c (.bool b_109))], h_107) := by kernel_rfl
theorem jacquardlaw10_EventUnfolds_e1_1 (C : CallF) (L : LoopF) (G : Glo) (h0 : AHeap) (s0 : List Cell) (h : AHeap) :
    (jacquardlaw10_EventUnfolds_k3 C L G h0) (.exit 0) (jacquardlaw10_EventUnfolds_x1_1 s0 h) =
    if 0 = 0 ∧ s0.length = 3 then c1 (C 88 [(.agg s0)] h) fun y_91 h_90 => asC y_91 fun x_92 => if 0 = 0 ∧ s0.length = 3 then c1 (C 89 [(.agg s0)] h_90) fun y_94 h_93 => asC y_94 fun x_95 => lenK x_92 fun n_96 => lenK x_95 fun n_97 => if (n_96 != n_97) = true then some ([(.c (.bool false))], h_93) else (L (jacquardlaw10_EventUnfolds_F2 C L G) (jacquardlaw10_EventUnfolds_s2 x_92 x_95 0 h_93)).bind fun p_110 => (jacquardlaw10_EventUnfolds_k5 C L G h0) p_110.1 p_110.2 else none else none := by kernel_rfl
set_option maxRecDepth 100000 in
theorem jacquardlaw10_EventUnfolds_eq (C : CallF) (L : LoopF) (G : Glo) (x0 : Cell) (a1 : Int) (x2 : Cell) (h0 : AHeap) :
    jacquardlaw10_EventUnfolds.body C L G [(.c x0), (.c (.int .i64 a1)), (.c x2)] h0 =
    lenK x2 fun n_1 => if (decide (n_1 > 50)) = true then c1 (C 77 [] h0) fun y_3 h_2 => asB y_3 fun b_4 => some ([(.c (.bool b_4))], h_2) else c1 (C 76 [(.c x0), (.c (.int .i64 12))] h0) fun y_6 h_5 => asA y_6 fun l_7 => if 0 = 0 ∧ [Cell.nils, Cell.nils, Cell.nils].length = 3 ∧ l_7.length = 3 then if 0 = 0 ∧ l_7.length = 3 then c3 (C 78 [(.agg l_7), (.c (.int .i64 a1)), (.c x2)] h_5) fun y_9 y_10 y_11 h_8 => asC y_9 fun x_12 => asA y_10 fun l_13 => asB y_11 fun b_14 => if 0 = 0 ∧ [Cell.int .i64 0, Cell.int .i64 0, Cell.int .i64 0, Cell.int .i64 0, Cell.int .i64 0].length = 5 ∧ l_13.length = 5 then if 0 = 0 ∧ l_7.length = 3 then c3 (C 83 [(.agg l_7), (.c (.int .i64 a1)), (.c x2)] h_8) fun y_16 y_17 y_18 h_15 => asC y_16 fun x_19 => asA y_17 fun l_20 => asB y_18 fun b_21 => if 0 = 0 ∧ [Cell.int .i64 0, Cell.int .i64 0, Cell.int .i64 0, Cell.int .i64 0, Cell.int .i64 0].length = 5 ∧ l_20.length = 5 then c1 (C 84 [(.c x_12), (.c x_19)] h_15) fun y_23 h_22 => asB y_23 fun b_24 => scK (!b_24) false (lenK x_12 fun n_25 => lenK x_19 fun n_26 => some ((n_25 != n_26), h_22)) true h_22 fun b_27 h_28 => scK b_27 false (if 0 = 0 ∧ l_13.length = 5 then if 0 = 0 ∧ l_20.length = 5 then if alike l_13 ([Cell.int .i64 0, Cell.int .i64 0, Cell.int .i64 0, Cell.int .i64 0, Cell.int .i64 0]) = true ∧ alike l_20 ([Cell.int .i64 0, Cell.int .i64 0, Cell.int .i64 0, Cell.int .i64 0, Cell.int .i64 0]) = true then some ((!(decide (l_13 = l_20))), h_28) else none else none else none) true h_28 fun b_29 h_30 => scK b_29 false (some ((!(b_14 == b_21)), h_30)) true h_30 fun b_31 h_32 => if b_31 = true then some ([(.c (.bool false))], h_32) else (L (jacquardlaw10_EventUnfolds_F1 C L G) (jacquardlaw10_EventUnfolds_s1 x_12 x_19 0 l_7 h_32)).bind fun p_111 => (jacquardlaw10_EventUnfolds_k3 C L G h0) p_111.1 p_111.2 else none else none else none else none else none := by kernel_rfl


end Jq

namespace Jq
open Go

/- slices.Equal(()jacquard/api.Ev,jacquard/api.Ev): 112 -/
def slices_Equal_sEv_Ev_k2 (C : CallF) (L : LoopF) (G : Glo) (h0 : AHeap) : Ex → St → Option (List AV × AHeap) :=
  kSeq (fun st => slices_Equal_sEv_Ev_p1.exec C L G st (slices_Equal_sEv_Ev.fin G h0)) (slices_Equal_sEv_Ev.fin G h0)
def slices_Equal_sEv_Ev_k3 (C : CallF) (L : LoopF) (G : Glo) (h0 : AHeap) : Ex → St → Option (List AV × AHeap) :=
  kBlk 0 (slices_Equal_sEv_Ev_k2 C L G h0)
def slices_Equal_sEv_Ev_s1 (x0 : Cell) (x1 : Cell) (a12 : Int) (a13 : Int) (h : AHeap) : St := ⟨[.v (.c x0), .v (.c x1), .top, .top, .top, .top, .top, .top, .top, .top, .top, .top, .v (.c (.int .i64 a12)), .v (.c (.int .i64 a13)), .top, .top, .top, .top, .top, .top, .top, .top, .top, .top, .top, .top], [], h⟩
def slices_Equal_sEv_Ev_F1 (C : CallF) (L : LoopF) (G : Glo) : St → Option (Ex × St) :=
  roundF (fun st f => slices_Equal_sEv_Ev_b1.exec C L G st f) [0, 1, 12, 13] [] [(0, [4], []), (1, [], [])]
def slices_Equal_sEv_Ev_x1_0 (b4 : Bool) (h : AHeap) : St := ⟨[.top, .top, .top, .top, .v (.c (.bool b4)), .top, .top, .top, .top, .top, .top, .top, .top, .top, .top, .top, .top, .top, .top, .top, .top, .top, .top, .top, .top, .top], [], h⟩
def slices_Equal_sEv_Ev_x1_1 (h : AHeap) : St := ⟨[.top, .top, .top, .top, .top, .top, .top, .top, .top, .top, .top, .top, .top, .top, .top, .top, .top, .top, .top, .top, .top, .top, .top, .top, .top, .top], [], h⟩
theorem slices_Equal_sEv_Ev_r1 (C : CallF) (L : LoopF) (G : Glo) (x0 : Cell) (x1 : Cell) (a12 : Int) (a13 : Int) (h : AHeap) :
    slices_Equal_sEv_Ev_F1 C L G (slices_Equal_sEv_Ev_s1 x0 x1 a12 a13 h) =
    if (decide (a13 < a12)) = true then idxSK 6 x0 a13 fun k_4 N_5 o_6 => rdH h k_4 N_5 fun l_7 => if o_6 + 6 ≤ l_7.length then idxSK 6 x1 a13 fun k_8 N_9 o_10 => rdH h k_8 N_9 fun l_11 => if o_10 + 6 ≤ l_11.length then if alike ((l_7.drop o_6).take 6) ([Cell.int .i64 0, Cell.int .i64 0, Cell.int .i64 0, Cell.int .i64 0, Cell.int .i64 0, Cell.int .i64 0]) = true ∧ alike ((l_11.drop o_10).take 6) ([Cell.int .i64 0, Cell.int .i64 0, Cell.int .i64 0, Cell.int .i64 0, Cell.int .i64 0, Cell.int .i64 0]) = true then if (!(decide (((l_7.drop o_6).take 6) = ((l_11.drop o_10).take 6)))) = true then some (.ret, (slices_Equal_sEv_Ev_x1_0 false h)) else some (.normal, (slices_Equal_sEv_Ev_s1 x0 x1 a12 (G.wrap .i64 (a13 + 1)) h)) else none else none else none else some ((.exit 0), (slices_Equal_sEv_Ev_x1_1 h)) := by kernel_rfl
theorem slices_Equal_sEv_Ev_e1_0 (C : CallF) (L : LoopF) (G : Glo) (h0 : AHeap) (b4 : Bool) (h : AHeap) :
    (slices_Equal_sEv_Ev_k3 C L G h0) .ret (slices_Equal_sEv_Ev_x1_0 b4 h) =
    some ([(.c (.bool b4))], h) := by kernel_rfl
theorem slices_Equal_sEv_Ev_e1_1 (C : CallF) (L : LoopF) (G : Glo) (h0 : AHeap) (h : AHeap) :
    (slices_Equal_sEv_Ev_k3 C L G h0) (.exit 0) (slices_Equal_sEv_Ev_x1_1 h) =
    some ([(.c (.bool true))], h) := by kernel_rfl
set_option maxRecDepth 100000 in
theorem slices_Equal_sEv_Ev_eq (C : CallF) (L : LoopF) (G : Glo) (x0 : Cell) (x1 : Cell) (h0 : AHeap) :
    slices_Equal_sEv_Ev.body C L G [(.c x0), (.c x1)] h0 =
    lenK x0 fun n_1 => lenK x1 fun n_2 => if (n_1 != n_2) = true then some ([(.c (.bool false))], h0) else lenK x0 fun n_3 => (L (slices_Equal_sEv_Ev_F1 C L G) (slices_Equal_sEv_Ev_s1 x0 x1 n_3 0 h0)).bind fun p_12 => (slices_Equal_sEv_Ev_k3 C L G h0) p_12.1 p_12.2 := by kernel_rfl


end Jq

/- Events: those at the beginning; their order; whether two rows are the same; laws of them. -/
namespace Jq
open Go

def initsE (l : List Int) : List Evt := (List.range l.length).map fun (i : Nat) => ⟨-1, i, 2, i, 0, l.getD i 0⟩

theorem initsE_len (l : List Int) : (initsE l).length = l.length := by simp [initsE]
theorem initsE_get {l : List Int} {i : Nat} (hi : i < l.length) : (initsE l)[i]? = some ⟨-1, i, 2, i, 0, l.getD i 0⟩ := by
  unfold initsE; rw [List.getElem?_map, List.getElem?_range hi]; rfl

theorem getDI {l : List Int} {i : Nat} (hi : i < l.length) : l[i]? = some (l.getD i 0) := by
  rw [List.getD_eq_getElem?_getD, List.getElem?_eq_getElem hi]; rfl

theorem takeI_succ {α : Type} {l : List α} {i : Nat} {p : α} (h : l[i]? = some p) : l.take (i + 1) = l.take i ++ [p] := by
  rw [List.take_add_one, h]; rfl

def shEv : Sh := .agg (Sh.rep (.i .i64) 6)
section
variable {E : Env}

theorem ProgAt.initG {h : AHeap} {cs : List Cell} {P : PProg} (p : ProgAt h cs P) : ∃ b, SlAt h b 1 (intC .i64 P.init) P.init.length ∧ Low h.length b ∧ ∀ {α : Type} (f : Cell → Option α), atK cs 1 f = f b := by
  obtain ⟨a, b, c, ts, rfl, _, ⟨hb, hbl⟩, _⟩ := p
  exact ⟨b, hb, hbl, fun _ => rfl⟩
theorem ProgAt.locsG {h : AHeap} {cs : List Cell} {P : PProg} (p : ProgAt h cs P) : ∃ b, SlAt h b 1 (intC .u8 P.locs) P.locs.length ∧ Low h.length b ∧ ∀ {α : Type} (f : Cell → Option α), atK cs 0 f = f b := by
  obtain ⟨a, b, c, ts, rfl, ⟨hb, hbl⟩, _⟩ := p
  exact ⟨a, hb, hbl, fun _ => rfl⟩

theorem ev_init {i v : Int} : splice (splice (splice (splice (splice [Cell.int .i64 0, Cell.int .i64 0, Cell.int .i64 0, Cell.int .i64 0, Cell.int .i64 0, Cell.int .i64 0] 0 ([(.int .i64 (-1))] : List Cell)) 1 ([(.int .i64 i)] : List Cell)) 2 ([(.int .i64 2)] : List Cell)) 3 ([(.int .i64 i)] : List Cell)) 5 ([(.int .i64 v)] : List Cell) = (Evt.mk (-1) i 2 i 0 v).cs := rfl

theorem Inits_R (hE : event_Inits_In E) {cs : List Cell} {P : PProg} {h : AHeap} (p : ProgAt h cs P) (hl : P.init.length ≤ 1000) :
    ∃ y h', R E 88 [.agg cs] h = some ([.c y], h') ∧ Own h.length h' y 6 (evsC (initsE P.init)) P.init.length ∧ Kp h.length h h' := by
  obtain ⟨b, hb, hbl, hB⟩ := p.initG
  have hm : maxBytes ≥ 1001 * 48 := by unfold maxBytes; omega
  obtain ⟨st, ⟨y, h1, rfl, hy, hk⟩, hL⟩ := Lim_inv (F := event_Inits_F1 (R E) Lim E.glob) (fun i st => ∃ y h1, st = event_Inits_s1 y b P.init.length (i : Int) h1 ∧ Own h.length h1 y 6 (evsC ((initsE P.init).take i)) i ∧ Kp h.length h h1) 0 P.init.length (by omega)
    (fun i st _ hi => by
      rintro ⟨y, h1, rfl, hy, hk⟩
      obtain ⟨y2, h2, ha, hy2, hk2, _⟩ := hy.app (bytes := 48) (xs := (Evt.mk (-1) i 2 i 0 (P.init.getD i 0)).cs) hk.1 rfl (by omega) (by omega) (by omega)
      refine ⟨_, ?_, y2, h2, rfl, ?_, hk.trans hk2⟩
      · rw [event_Inits_r1, if_pos (by simp; omega), (hb.keep hbl hk).get1 hi (intC_get (getDI hi)), asI_ok, ev_init, if_pos ⟨rfl, by simp⟩, ev_splice, if_pos (ev_len16 _), ha, g_succ (by omega)]
      · rw [takeI_succ (initsE_get hi), evsC_snoc]; exact hy2) (st := event_Inits_s1 .nils b P.init.length ((0 : Nat) : Int) h) ⟨.nils, h, rfl, by rw [List.take_zero]; exact Own.nil _ _ _, Kp.refl _ _⟩
  have hfin : event_Inits_F1 (R E) Lim E.glob (event_Inits_s1 y b P.init.length (P.init.length : Int) h1) = some (.exit 0, event_Inits_x1_1 y h1) := by
    rw [event_Inits_r1, if_neg (by simp)]
  have hr := hL _ (Lim_exit hfin)
  refine ⟨y, h1, R_intro hE.fn ?_, ?_, hk⟩
  · rw [event_Inits_eq, hB, hb.len, show (0 : Int) = ((0 : Nat) : Int) from rfl, hr, bind_ok, event_Inits_e1_1]
  · rw [List.take_of_length_le (by rw [initsE_len]; exact Nat.le_refl _)] at hy; exact hy

theorem refInits_R (hE : jacquardref6_Inits_In E) {cs : List Cell} {P : PProg} {h : AHeap} (p : ProgAt h cs P) (hl : P.init.length ≤ 1000) (hll : P.locs.length = P.init.length) :
    ∃ y h', R E 89 [.agg cs] h = some ([.c y], h') ∧ Own h.length h' y 6 (evsC (initsE P.init)) P.init.length ∧ Kp h.length h h' := by
  obtain ⟨b, hb, hbl, hB⟩ := p.initG
  obtain ⟨a, ha, hal, hA⟩ := p.locsG
  have hm : maxBytes ≥ 1001 * 48 := by unfold maxBytes; omega
  obtain ⟨st, ⟨y, h1, rfl, hy, hk⟩, hL⟩ := Lim_inv (F := jacquardref6_Inits_F1 (R E) Lim E.glob) (fun i st => ∃ y h1, st = jacquardref6_Inits_s1 y (i : Int) cs h1 ∧ Own h.length h1 y 6 (evsC ((initsE P.init).take i)) i ∧ Kp h.length h h1) 0 P.init.length (by omega)
    (fun i st _ hi => by
      rintro ⟨y, h1, rfl, hy, hk⟩
      obtain ⟨y2, h2, hap, hy2, hk2, _⟩ := hy.app (bytes := 48) (xs := (Evt.mk (-1) i 2 i 0 (P.init.getD i 0)).cs) hk.1 rfl (by omega) (by omega) (by omega)
      refine ⟨_, ?_, y2, h2, rfl, ?_, hk.trans hk2⟩
      · rw [jacquardref6_Inits_r1, hA, ha.len, if_pos (by simp; omega), hB, (hb.keep hbl hk).get1 hi (intC_get (getDI hi)), asI_ok, ev_init, if_pos ⟨rfl, by simp⟩, ev_splice, if_pos (ev_len16 _), hap, g_succ (by omega)]
      · rw [takeI_succ (initsE_get hi), evsC_snoc]; exact hy2) (st := jacquardref6_Inits_s1 .nils ((0 : Nat) : Int) cs h) ⟨.nils, h, rfl, by rw [List.take_zero]; exact Own.nil _ _ _, Kp.refl _ _⟩
  have hfin : jacquardref6_Inits_F1 (R E) Lim E.glob (jacquardref6_Inits_s1 y (P.init.length : Int) cs h1) = some (.exit 0, jacquardref6_Inits_x1_1 y h1) := by
    rw [jacquardref6_Inits_r1, hA, ha.len, if_neg (by simp; omega)]
  have hr := hL _ (Lim_exit hfin)
  refine ⟨y, h1, R_intro hE.fn ?_, ?_, hk⟩
  · rw [jacquardref6_Inits_eq, show (0 : Int) = ((0 : Nat) : Int) from rfl, hr, bind_ok, jacquardref6_Inits_e1_1]
  · rw [List.take_of_length_le (by rw [initsE_len]; exact Nat.le_refl _)] at hy; exact hy

theorem alike_ev (e : Evt) : alike e.cs [Cell.int .i64 0, Cell.int .i64 0, Cell.int .i64 0, Cell.int .i64 0, Cell.int .i64 0, Cell.int .i64 0] = true := rfl

theorem rdE_eq {k : Int} {e : Evt} (h : e.kind = k) {α : Type} {f : Cell → Option α} : atK e.cs 2 f = f (.int .i64 k) := by subst h; rfl

def evRd (e : Evt) : Bool := e.kind == 1 || e.kind == 4 || e.kind == 5
def evWr (e : Evt) : Bool := e.kind == 2 || e.kind == 4
def evFn (e : Evt) : Bool := e.kind == 3 || e.kind == 4 || e.kind == 5

theorem evReads_R (hE : event_Reads_In E) (e : Evt) (h : AHeap) : R E 79 [.agg e.cs] h = some ([.c (.bool (evRd e))], h) := by
  refine R_intro hE.fn ?_
  rw [event_Reads_eq]
  simp only [rdE_eq (e := e) rfl, asI_ok, scK_or]; rfl
theorem evWrites_R (hE : event_Writes_In E) (e : Evt) (h : AHeap) : R E 80 [.agg e.cs] h = some ([.c (.bool (evWr e))], h) := by
  refine R_intro hE.fn ?_
  rw [event_Writes_eq]
  simp only [rdE_eq (e := e) rfl, asI_ok, scK_or]; rfl
theorem evFences_R (hE : event_Fences_In E) (e : Evt) (h : AHeap) : R E 82 [.agg e.cs] h = some ([.c (.bool (evFn e))], h) := by
  refine R_intro hE.fn ?_
  rw [event_Fences_eq]
  simp only [rdE_eq (e := e) rfl, asI_ok, scK_or]; rfl
theorem refReads_R (hE : jacquardref6_Reads_In E) (e : Evt) (h : AHeap) : R E 85 [.agg e.cs] h = some ([.c (.bool (evRd e))], h) := by
  refine R_intro hE.fn ?_
  rw [jacquardref6_Reads_eq]
  simp only [rdE_eq (e := e) rfl, asI_ok, scK_or]; rfl
theorem refWritesE_R (hE : jacquardref6_Writes_In E) (e : Evt) (h : AHeap) : R E 86 [.agg e.cs] h = some ([.c (.bool (evWr e))], h) := by
  refine R_intro hE.fn ?_
  rw [jacquardref6_Writes_eq]
  simp only [rdE_eq (e := e) rfl, asI_ok, scK_or]; rfl
theorem refFences_R (hE : jacquardref6_Fences_In E) (e : Evt) (h : AHeap) : R E 87 [.agg e.cs] h = some ([.c (.bool (evFn e))], h) := by
  refine R_intro hE.fn ?_
  rw [jacquardref6_Fences_eq]
  simp only [rdE_eq (e := e) rfl, asI_ok, scK_or]; rfl

/-- The same rows are told to be. -/
theorem EqualEv_R (hE : slices_Equal_sEv_Ev_In E) {x y : Cell} {l : List Evt} {h : AHeap} (hx : SlAt h x 6 (evsC l) l.length) (hy : SlAt h y 6 (evsC l) l.length) (hl : l.length < 9223372036854775807) :
    R E 112 [.c x, .c y] h = some ([.c (.bool true)], h) := by
  refine R_intro hE.fn ?_
  have loop : Lim (slices_Equal_sEv_Ev_F1 (R E) Lim E.glob) (slices_Equal_sEv_Ev_s1 x y l.length ((0 : Nat) : Int) h) = some (.exit 0, slices_Equal_sEv_Ev_x1_1 h) := by
    refine Lim_count (fun i => slices_Equal_sEv_Ev_s1 x y l.length (i : Int) h) 0 l.length (by omega) (fun i _ hi => ?_) (Lim_exit ?_)
    · have hq : l[i]? = some l[i] := List.getElem?_eq_getElem hi
      generalize l[i] = e at hq
      obtain ⟨o1, c1, g1, h1, e1⟩ := hx.evG hq
      obtain ⟨o2, c2, g2, h2, e2⟩ := hy.evG hq
      rw [slices_Equal_sEv_Ev_r1, if_pos (by simp; omega), g1, if_pos h1, g2, if_pos h2, e1, e2, if_pos ⟨alike_ev e, alike_ev e⟩, show (!(decide (e.cs = e.cs))) = false by simp, if_neg (by simp), g_succ (by omega)]
    · rw [slices_Equal_sEv_Ev_r1, if_neg (by simp)]
  rw [show ((0 : Nat) : Int) = 0 from rfl] at loop
  rw [slices_Equal_sEv_Ev_eq, hx.len, hy.len, bne_self_eq_false, if_neg (by simp), hx.len, loop, bind_ok, slices_Equal_sEv_Ev_e1_1]

theorem SameEv_R (hE : event_Same_In E) {x y : Cell} {l : List Evt} {h : AHeap} (hx : SlAt h x 6 (evsC l) l.length) (hy : SlAt h y 6 (evsC l) l.length) (hl : l.length < 9223372036854775807) :
    R E 84 [.c x, .c y] h = some ([.c (.bool true)], h) := by
  refine R_intro hE.fn ?_
  rw [event_Same_eq, EqualEv_R hE.c112 hx hy hl, c1_ok, asB_ok]

/-- Is one ahead of another by their threads? -/
def poB (a b : Evt) : Bool := (decide (a.t < 0) && decide (b.t ≥ 0)) || (decide (a.t ≥ 0) && a.t == b.t && decide (a.i < b.i))
def poL (l : List Evt) (a b : Nat) : Bool := poB (l.getD a ⟨0, 0, 0, 0, 0, 0⟩) (l.getD b ⟨0, 0, 0, 0, 0, 0⟩)

end
end Jq

/- Tests in memory; their locations; made ready as the document says. -/
namespace Jq
open Go

structure Atm where
  thread : Int
  reg : Int
  loc : Int
  value : Int
def Atm.cs (a : Atm) : List Cell := [.int .i64 a.thread, .int .i64 a.reg, .int .i64 a.loc, .int .i64 a.value]
def atmC (l : List Atm) : List Cell := l.flatMap Atm.cs
theorem Atm.len (a : Atm) : a.cs.length = 4 := rfl
theorem atmC_at : ∀ (l : List Atm) (i : Nat) (s : Atm), l[i]? = some s → ((atmC l).drop (i * 4)).take 4 = s.cs
  | [], _, _, h => by simp at h
  | q :: l, 0, s, h => by simp at h; subst h; rfl
  | q :: l, i + 1, s, h => by
    have := atmC_at l i s (by simpa using h)
    have e : atmC (q :: l) = q.cs ++ atmC l := rfl
    rw [e, List.drop_append, List.drop_of_length_le (by rw [Atm.len]; omega), List.nil_append, show (i + 1) * 4 - q.cs.length = i * 4 by rw [Atm.len]; omega]
    exact this
theorem atmC_cell {l : List Atm} {i j : Nat} {s : Atm} {c : Cell} (h : l[i]? = some s) (hj : j < 4) (hc : s.cs[j]? = some c) : (atmC l)[i * 4 + j]? = some c := by
  rw [← hc, ← atmC_at l i s h, List.getElem?_take, if_pos hj, List.getElem?_drop]
theorem codeC_cell {l : List Ins} {i j : Nat} {s : Ins} {c : Cell} (h : l[i]? = some s) (hj : j < 9) (hc : s.cs[j]? = some c) : (codeC l)[i * 9 + j]? = some c := by
  rw [← hc, ← codeC_at l i s h, List.getElem?_take, if_pos hj, List.getElem?_drop]

structure PTest where
  name : ByteArray
  inits : List (Int × Int)
  thr : List (List Ins)
  ck : Int
  any : List (List Atm)

/-- Rows that lie there. -/
def RowsOf {α : Type} (esz : Nat) (C : List α → List Cell) (h : AHeap) (x : Cell) (rows : List (List α)) : Prop :=
  ∃ ts, SlAt h x 1 ts rows.length ∧ Low h.length x ∧ ∀ (t : Nat) (r : List α), rows[t]? = some r → ∃ y : Cell, ts[t]? = some y ∧ SlAt h y esz (C r) r.length ∧ Low h.length y

theorem RowsOf.keep {α : Type} {esz : Nat} {C : List α → List Cell} {h h' : AHeap} {x : Cell} {rows : List (List α)} (r : RowsOf esz C h x rows) (hk : Kp h.length h h') : RowsOf esz C h' x rows := by
  obtain ⟨ts, h1, h2, h3⟩ := r
  exact ⟨ts, h1.keep h2 hk, Low_mono hk.1 h2, fun t r hr => by
    obtain ⟨y, y1, y2, y3⟩ := h3 t r hr
    exact ⟨y, y1, y2.keep y3 hk, Low_mono hk.1 y3⟩⟩

theorem RowsOf.get {α β : Type} {esz : Nat} {C : List α → List Cell} {h : AHeap} {x : Cell} {rows : List (List α)} (r : RowsOf esz C h x rows) {t : Nat} {row : List α} (ht : rows[t]? = some row) :
    ∃ y, SlAt h y esz (C row) row.length ∧ Low h.length y ∧ ∀ (f : Cell → Option β), (idxSK 1 x (t : Int) fun k N o => rdH h k N fun l => atK l o f) = f y := by
  obtain ⟨ts, h1, h2, h3⟩ := r
  obtain ⟨y, y1, y2, y3⟩ := h3 t row ht
  exact ⟨y, y2, y3, fun f => h1.get1 (getI_lt ht) y1⟩

theorem RowsOf.len {α β : Type} {esz : Nat} {C : List α → List Cell} {h : AHeap} {x : Cell} {rows : List (List α)} (r : RowsOf esz C h x rows) {f : Int → Option β} : lenK x f = f rows.length := by
  obtain ⟨ts, h1, _⟩ := r; exact h1.len

/-- A test lies there. -/
def TestAt (h : AHeap) (cs : List Cell) (T : PTest) : Prop :=
  ∃ a b c, cs = [.str T.name, a, b, .int .i64 T.ck, c] ∧ (SlAt h a 2 (pairC T.inits) T.inits.length ∧ Low h.length a) ∧ RowsOf 9 codeC h b T.thr ∧ RowsOf 4 atmC h c T.any

theorem TestAt.keep {h h' : AHeap} {cs : List Cell} {T : PTest} (p : TestAt h cs T) (hk : Kp h.length h h') : TestAt h' cs T := by
  obtain ⟨a, b, c, e, ⟨a1, a2⟩, hb, hc⟩ := p
  exact ⟨a, b, c, e, ⟨a1.keep a2 hk, Low_mono hk.1 a2⟩, hb.keep hk, hc.keep hk⟩

theorem TestAt.len {h : AHeap} {cs : List Cell} {T : PTest} (p : TestAt h cs T) : cs.length = 5 := by
  obtain ⟨a, b, c, rfl, _⟩ := p; rfl

/-- Nothing of a test is long. -/
structure PTest.small (T : PTest) : Prop where
  inits : T.inits.length ≤ 1000
  thr : T.thr.length ≤ 1000
  code : ∀ c ∈ T.thr, c.length ≤ 1000
  any : T.any.length ≤ 1000
  row : ∀ c ∈ T.any, c.length ≤ 1000

/-- Is a letter named? -/
def thereT (T : PTest) (b : Nat) : Bool := (T.inits.any fun p => p.1 % 256 == (b : Int)) || (T.thr.any fun c => c.any fun i => i.loc % 256 == (b : Int)) || (T.any.any fun c => c.any fun a => a.loc % 256 == (b : Int))

/-- The locations, in order. -/
def locsF (S : Nat → Bool) (n : Nat) : List Int := ((List.range n).filter fun c => S (97 + c)).map fun (c : Nat) => ((97 + c : Nat) : Int)
def locsT (T : PTest) : List Int := locsF (thereT T) 26

theorem locsF_succ (S : Nat → Bool) (n : Nat) : locsF S (n + 1) = if S (97 + n) = true then locsF S n ++ [((97 + n : Nat) : Int)] else locsF S n := by
  unfold locsF
  rw [List.range_succ, List.filter_append, List.filter_cons, List.filter_nil]
  split <;> simp

theorem locsF_len (S : Nat → Bool) : ∀ n, (locsF S n).length ≤ n
  | 0 => by simp [locsF]
  | n + 1 => by
    have := locsF_len S n
    rw [locsF_succ]; split
    · rw [List.length_append, List.length_singleton]; omega
    · omega

theorem locsF_mem {S : Nat → Bool} {n : Nat} {x : Int} : x ∈ locsF S n ↔ ∃ c, c < n ∧ S (97 + c) = true ∧ x = ((97 + c : Nat) : Int) := by
  unfold locsF
  rw [List.mem_map]
  constructor
  · rintro ⟨c, hc, rfl⟩
    rw [List.mem_filter] at hc
    exact ⟨c, by simpa using hc.1, hc.2, rfl⟩
  · rintro ⟨c, h1, h2, rfl⟩
    exact ⟨c, by rw [List.mem_filter]; exact ⟨by simpa using h1, h2⟩, rfl⟩

theorem boolL_congr {s t : Nat → Bool} {n : Nat} (h : ∀ i, i < n → s i = t i) : boolL s n = boolL t n := List.map_congr_left fun i hi => by rw [h i (by simpa using hi)]

theorem mark_next {S S' : Nat → Bool} {v : Int} (h : ∀ b : Nat, b < 256 → S' b = (S b || (v % 256 == (b : Int)))) :
    (boolL S 256).set (0 + (v % 256).toNat * 1) (.bool true) = boolL S' 256 := by
  rw [show 0 + (v % 256).toNat * 1 = (v % 256).toNat by omega, boolL_set]
  refine boolL_congr fun i hi => ?_
  rw [h i hi]
  by_cases e : i = (v % 256).toNat
  · rw [if_pos e, show (v % 256 == (i : Int)) = true by rw [beq_iff_eq]; omega, Bool.or_true]
  · rw [if_neg e, show (v % 256 == (i : Int)) = false by rw [beq_eq_false_iff_ne]; omega, Bool.or_false]

theorem any_take_succ {α : Type} {l : List α} {i : Nat} {p : α} (h : l[i]? = some p) (f : α → Bool) : (l.take (i + 1)).any f = ((l.take i).any f || f p) := by
  rw [takeI_succ h, List.any_append]; simp

section
variable {E : Env}

theorem refLocs_R (hE : jacquardref2_Locs_In E) {cs : List Cell} {T : PTest} {h : AHeap} (p : TestAt h cs T) (hs : T.small) :
    ∃ y h', R E 121 [.agg cs] h = some ([.c y], h') ∧ Own h.length h' y 1 (intC .u8 (locsT T)) (locsT T).length ∧ Kp h.length h h' := by
  obtain ⟨a, b, c, rfl, ⟨ha, hal⟩, hb, hc⟩ := p
  have a1 : ∀ {α : Type} (f : Cell → Option α), atK [.str T.name, a, b, .int .i64 T.ck, c] 1 f = f a := fun _ => rfl
  have a2 : ∀ {α : Type} (f : Cell → Option α), atK [.str T.name, a, b, .int .i64 T.ck, c] 2 f = f b := fun _ => rfl
  have a4 : ∀ {α : Type} (f : Cell → Option α), atK [.str T.name, a, b, .int .i64 T.ck, c] 4 f = f c := fun _ => rfl
  have w : ∀ v : Int, 0 ≤ v % 256 ∧ v % 256 < ((256 : Nat) : Int) := fun v => by omega
  have w2 : ∀ (v : Int) (S : Nat → Bool), 0 + Int.toNat (v % 256) * 1 < (boolL S 256).length := fun v S => by rw [boolL_len]; omega
  have loop1 : Lim (jacquardref2_Locs_F1 (R E) Lim E.glob) (jacquardref2_Locs_s1 ((0 : Nat) : Int) [.str T.name, a, b, .int .i64 T.ck, c] (boolL (fun q => (T.inits.take 0).any fun p => p.1 % 256 == (q : Int)) 256) h) = some (.exit 0, jacquardref2_Locs_x1_1 [.str T.name, a, b, .int .i64 T.ck, c] (boolL (fun q => (T.inits.take T.inits.length).any fun p => p.1 % 256 == (q : Int)) 256) h) := by
    refine Lim_count (fun i => jacquardref2_Locs_s1 (i : Int) [.str T.name, a, b, .int .i64 T.ck, c] (boolL (fun q => (T.inits.take i).any fun p => p.1 % 256 == (q : Int)) 256) h) 0 T.inits.length (by omega) (fun i _ hi => ?_) (Lim_exit ?_)
    · have hq : T.inits[i]? = some T.inits[i] := List.getElem?_eq_getElem hi
      generalize T.inits[i] = q at hq
      have := hs.inits
      rw [jacquardref2_Locs_r1, a1, ha.len, if_pos (by simp; omega), a1, ha.get hi (by omega) (pairC_get _ _ _ hq).1, asI_ok, g_band255, if_pos (w _), if_pos (w2 _ _), g_succ (by omega), mark_next (S' := fun r => (T.inits.take (i + 1)).any fun p => p.1 % 256 == (r : Int)) (fun r _ => any_take_succ hq _)]
    · rw [jacquardref2_Locs_r1, a1, ha.len, if_neg (by simp)]
  rw [List.take_length] at loop1
  generalize hS1 : (fun q : Nat => T.inits.any fun p => p.1 % 256 == (q : Int)) = S1 at loop1
  have loop2 : ∀ (t : Nat) (code : List Ins) (S : Nat → Bool), T.thr[t]? = some code → Lim (jacquardref2_Locs_F2 (R E) Lim E.glob) (jacquardref2_Locs_s2 (t : Int) ((0 : Nat) : Int) [.str T.name, a, b, .int .i64 T.ck, c] (boolL (fun q => S q || (code.take 0).any fun i => i.loc % 256 == (q : Int)) 256) h) = some (.exit 4, jacquardref2_Locs_x2_5 (t : Int) [.str T.name, a, b, .int .i64 T.ck, c] (boolL (fun q => S q || (code.take code.length).any fun i => i.loc % 256 == (q : Int)) 256) h) := by
    intro t code S ht
    obtain ⟨y, y1, y2, y3⟩ := hb.get (β := Ex × St) ht
    refine Lim_count (fun i => jacquardref2_Locs_s2 (t : Int) (i : Int) [.str T.name, a, b, .int .i64 T.ck, c] (boolL (fun q => S q || (code.take i).any fun i => i.loc % 256 == (q : Int)) 256) h) 0 code.length (by omega) (fun i _ hi => ?_) (Lim_exit ?_)
    · have hq : code[i]? = some code[i] := List.getElem?_eq_getElem hi
      generalize code[i] = q at hq
      have := hs.code code (List.mem_of_getElem? ht)
      rw [jacquardref2_Locs_r2, a2, y3, y1.len, if_pos (by simp; omega), a2, y3, y1.get hi (by omega) (codeC_cell hq (by omega) (c := .int .i64 q.loc) rfl), asI_ok, g_band255, if_pos (w _), if_pos (w2 _ _), g_succ (by omega), mark_next (S' := fun r => S r || (code.take (i + 1)).any fun i => i.loc % 256 == (r : Int)) (fun r _ => by rw [any_take_succ hq, Bool.or_assoc])]
    · rw [jacquardref2_Locs_r2, a2, y3, y1.len, if_neg (by simp)]
  have loop3 : Lim (jacquardref2_Locs_F3 (R E) Lim E.glob) (jacquardref2_Locs_s3 ((0 : Nat) : Int) [.str T.name, a, b, .int .i64 T.ck, c] (boolL (fun q => S1 q || (T.thr.take 0).any fun c => c.any fun i => i.loc % 256 == (q : Int)) 256) h) = some (.exit 2, jacquardref2_Locs_x3_3 [.str T.name, a, b, .int .i64 T.ck, c] (boolL (fun q => S1 q || (T.thr.take T.thr.length).any fun c => c.any fun i => i.loc % 256 == (q : Int)) 256) h) := by
    refine Lim_count (fun t => jacquardref2_Locs_s3 (t : Int) [.str T.name, a, b, .int .i64 T.ck, c] (boolL (fun q => S1 q || (T.thr.take t).any fun c => c.any fun i => i.loc % 256 == (q : Int)) 256) h) 0 T.thr.length (by omega) (fun t _ ht => ?_) (Lim_exit ?_)
    · have hq : T.thr[t]? = some T.thr[t] := List.getElem?_eq_getElem ht
      generalize T.thr[t] = code at hq
      have := hs.thr
      have l2 := loop2 t code (fun q => S1 q || (T.thr.take t).any fun c => c.any fun i => i.loc % 256 == (q : Int)) hq
      rw [List.take_length, show ((0 : Nat) : Int) = 0 from rfl] at l2
      have e0 : boolL (fun q => (S1 q || (T.thr.take t).any fun c => c.any fun i => i.loc % 256 == (q : Int)) || (code.take 0).any fun i => i.loc % 256 == (q : Int)) 256 = boolL (fun q => S1 q || (T.thr.take t).any fun c => c.any fun i => i.loc % 256 == (q : Int)) 256 := boolL_congr fun q _ => by simp
      rw [e0] at l2
      rw [jacquardref2_Locs_r3, a2, hb.len, if_pos (by simp; omega), l2, bind_ok, jacquardref2_Locs_e2_5, g_succ (by omega)]
      congr 3
      exact boolL_congr fun q _ => by rw [any_take_succ hq, Bool.or_assoc]
    · rw [jacquardref2_Locs_r3, a2, hb.len, if_neg (by simp)]
  rw [List.take_length] at loop3
  have e3 : boolL (fun q => S1 q || (T.thr.take 0).any fun c => c.any fun i => i.loc % 256 == (q : Int)) 256 = boolL S1 256 := boolL_congr fun q _ => by simp
  rw [e3, show ((0 : Nat) : Int) = 0 from rfl] at loop3
  generalize hS2 : (fun q : Nat => S1 q || T.thr.any fun c => c.any fun i => i.loc % 256 == (q : Int)) = S2 at loop3
  have loop4 : ∀ (t : Nat) (row : List Atm) (S : Nat → Bool), T.any[t]? = some row → Lim (jacquardref2_Locs_F4 (R E) Lim E.glob) (jacquardref2_Locs_s4 (t : Int) ((0 : Nat) : Int) [.str T.name, a, b, .int .i64 T.ck, c] (boolL (fun q => S q || (row.take 0).any fun i => i.loc % 256 == (q : Int)) 256) h) = some (.exit 8, jacquardref2_Locs_x4_9 (t : Int) [.str T.name, a, b, .int .i64 T.ck, c] (boolL (fun q => S q || (row.take row.length).any fun i => i.loc % 256 == (q : Int)) 256) h) := by
    intro t row S ht
    obtain ⟨y, y1, y2, y3⟩ := hc.get (β := Ex × St) ht
    refine Lim_count (fun i => jacquardref2_Locs_s4 (t : Int) (i : Int) [.str T.name, a, b, .int .i64 T.ck, c] (boolL (fun q => S q || (row.take i).any fun i => i.loc % 256 == (q : Int)) 256) h) 0 row.length (by omega) (fun i _ hi => ?_) (Lim_exit ?_)
    · have hq : row[i]? = some row[i] := List.getElem?_eq_getElem hi
      generalize row[i] = q at hq
      have := hs.row row (List.mem_of_getElem? ht)
      rw [jacquardref2_Locs_r4, a4, y3, y1.len, if_pos (by simp; omega), a4, y3, y1.get hi (by omega) (atmC_cell hq (by omega) (c := .int .i64 q.loc) rfl), asI_ok, g_band255, if_pos (w _), if_pos (w2 _ _), g_succ (by omega), mark_next (S' := fun r => S r || (row.take (i + 1)).any fun i => i.loc % 256 == (r : Int)) (fun r _ => by rw [any_take_succ hq, Bool.or_assoc])]
    · rw [jacquardref2_Locs_r4, a4, y3, y1.len, if_neg (by simp)]
  have loop5 : Lim (jacquardref2_Locs_F5 (R E) Lim E.glob) (jacquardref2_Locs_s5 ((0 : Nat) : Int) [.str T.name, a, b, .int .i64 T.ck, c] (boolL (fun q => S2 q || (T.any.take 0).any fun c => c.any fun i => i.loc % 256 == (q : Int)) 256) h) = some (.exit 6, jacquardref2_Locs_x5_7 (boolL (fun q => S2 q || (T.any.take T.any.length).any fun c => c.any fun i => i.loc % 256 == (q : Int)) 256) h) := by
    refine Lim_count (fun t => jacquardref2_Locs_s5 (t : Int) [.str T.name, a, b, .int .i64 T.ck, c] (boolL (fun q => S2 q || (T.any.take t).any fun c => c.any fun i => i.loc % 256 == (q : Int)) 256) h) 0 T.any.length (by omega) (fun t _ ht => ?_) (Lim_exit ?_)
    · have hq : T.any[t]? = some T.any[t] := List.getElem?_eq_getElem ht
      generalize T.any[t] = row at hq
      have := hs.any
      have l2 := loop4 t row (fun q => S2 q || (T.any.take t).any fun c => c.any fun i => i.loc % 256 == (q : Int)) hq
      rw [List.take_length, show ((0 : Nat) : Int) = 0 from rfl] at l2
      have e0 : boolL (fun q => (S2 q || (T.any.take t).any fun c => c.any fun i => i.loc % 256 == (q : Int)) || (row.take 0).any fun i => i.loc % 256 == (q : Int)) 256 = boolL (fun q => S2 q || (T.any.take t).any fun c => c.any fun i => i.loc % 256 == (q : Int)) 256 := boolL_congr fun q _ => by simp
      rw [e0] at l2
      rw [jacquardref2_Locs_r5, a4, hc.len, if_pos (by simp; omega), l2, bind_ok, jacquardref2_Locs_e4_9, g_succ (by omega)]
      congr 3
      exact boolL_congr fun q _ => by rw [any_take_succ hq, Bool.or_assoc]
    · rw [jacquardref2_Locs_r5, a4, hc.len, if_neg (by simp)]
  rw [List.take_length] at loop5
  have e5 : boolL (fun q => S2 q || (T.any.take 0).any fun c => c.any fun i => i.loc % 256 == (q : Int)) 256 = boolL S2 256 := boolL_congr fun q _ => by simp
  rw [e5, show ((0 : Nat) : Int) = 0 from rfl] at loop5
  have hS3 : (fun q : Nat => S2 q || T.any.any fun c => c.any fun i => i.loc % 256 == (q : Int)) = thereT T := by
    funext q; rw [← hS2, ← hS1]; rfl
  rw [hS3] at loop5
  have hm : maxBytes ≥ 100 := by unfold maxBytes; omega
  obtain ⟨st, ⟨y, h1, rfl, hy, hk⟩, hL⟩ := Lim_inv (F := jacquardref2_Locs_F6 (R E) Lim E.glob) (fun i st => ∃ y h1, st = jacquardref2_Locs_s6 y ((97 + i : Nat) : Int) (boolL (thereT T) 256) h1 ∧ Own h.length h1 y 1 (intC .u8 (locsF (thereT T) i)) (locsF (thereT T) i).length ∧ Kp h.length h h1) 0 26 (by omega)
    (fun i st _ hi => by
      rintro ⟨y, h1, rfl, hy, hk⟩
      have hlen := locsF_len (thereT T) i
      have hw : E.glob.wrap .i32 (((97 + i : Nat) : Int) + 1) = ((97 + (i + 1) : Nat) : Int) := by
        show IntKind.wrap .i32 _ = _
        simp only [IntKind.wrap, IntKind.signed, IntKind.bits, Bool.true_and]
        split
        · rename_i hh; have hh := of_decide_eq_true hh; omega
        · omega
      have hw8 : E.glob.wrap .u8 ((97 + i : Nat) : Int) = ((97 + i : Nat) : Int) := by
        show IntKind.wrap .u8 _ = _
        simp only [IntKind.wrap, IntKind.signed, IntKind.bits, Bool.false_and, Bool.false_eq_true, if_false]; omega
      have hrd : jacquardref2_Locs_F6 (R E) Lim E.glob (jacquardref2_Locs_s6 y ((97 + i : Nat) : Int) (boolL (thereT T) 256) h1) = if thereT T (97 + i) = true then appK 1 1 y [.int .u8 ((97 + i : Nat) : Int)] h1 fun x h' => some (.normal, jacquardref2_Locs_s6 x ((97 + (i + 1) : Nat) : Int) (boolL (thereT T) 256) h') else some (.normal, jacquardref2_Locs_s6 y ((97 + (i + 1) : Nat) : Int) (boolL (thereT T) 256) h1) := by
        rw [jacquardref2_Locs_r6, if_pos (by simp; omega), if_pos ⟨by omega, by omega⟩, show 0 + Int.toNat ((97 + i : Nat) : Int) * 1 = 97 + i by omega, atK_ok (boolL_get (show 97 + i < 256 by omega)), asB_ok, hw, hw8]
        rfl
      rw [hrd]
      by_cases ht : thereT T (97 + i) = true
      · obtain ⟨y2, h2, hap, hy2, hk2, _⟩ := hy.app (bytes := 1) (xs := [.int .u8 ((97 + i : Nat) : Int)]) hk.1 rfl (by omega) (by omega) (by omega)
        refine ⟨_, by rw [if_pos ht, hap], y2, h2, rfl, ?_, hk.trans hk2⟩
        rw [locsF_succ, if_pos ht, intC_snoc, List.length_append, List.length_singleton]; exact hy2
      · refine ⟨_, by rw [if_neg ht], y, h1, rfl, ?_, hk⟩
        rw [locsF_succ, if_neg ht]; exact hy) (st := jacquardref2_Locs_s6 .nils ((97 + 0 : Nat) : Int) (boolL (thereT T) 256) h) ⟨.nils, h, rfl, Own.nil _ _ _, Kp.refl _ _⟩
  have hfin : jacquardref2_Locs_F6 (R E) Lim E.glob (jacquardref2_Locs_s6 y ((97 + 26 : Nat) : Int) (boolL (thereT T) 256) h1) = some (.exit 10, jacquardref2_Locs_x6_11 y h1) := by
    rw [jacquardref2_Locs_r6, if_neg (by simp)]
  have hr := hL _ (Lim_exit hfin)
  refine ⟨y, h1, R_intro hE.fn ?_, hy, hk⟩
  have e1 : boolL (fun q => (T.inits.take 0).any fun p => p.1 % 256 == (q : Int)) 256 = List.replicate 256 (Cell.bool false) := by rw [boolL_false]; exact boolL_congr fun q _ => by simp
  rw [e1, show ((0 : Nat) : Int) = 0 from rfl] at loop1
  rw [jacquardref2_Locs_eq, loop1, bind_ok, jacquardref2_Locs_e1_1, loop3, bind_ok, jacquardref2_Locs_e3_3, loop5, bind_ok, jacquardref2_Locs_e5_7, show (97 : Int) = ((97 + 0 : Nat) : Int) from rfl, hr, bind_ok, jacquardref2_Locs_e6_11]

end
end Jq

/- A test made ready as the document says. -/
namespace Jq
open Go

theorem Own.keepK {n : Nat} {h h' : AHeap} {x : Cell} {esz len : Nat} {cs : List Cell} (o : Own n h x esz cs len) (hk : Kp h.length h h') : Own n h' x esz cs len := by
  refine ⟨o.1, o.2.imp id ?_⟩
  rintro ⟨k, e, hn, hb⟩
  exact ⟨k, e, hn, by rw [hk.blk (blk_lt' hb)]; exact hb⟩
theorem Own.monoN {n m : Nat} (hm : m ≤ n) {h : AHeap} {x : Cell} {esz len : Nat} {cs : List Cell} (o : Own n h x esz cs len) : Own m h x esz cs len :=
  ⟨o.1, o.2.imp id fun ⟨k, e, hn, hb⟩ => ⟨k, e, by omega, hb⟩⟩
theorem Own.blkLt {n : Nat} {h : AHeap} {x : Cell} {esz len : Nat} {cs : List Cell} (o : Own n h x esz cs len) {k : Nat} (hk : isBlk x k) : k < h.length ∧ n ≤ k := by
  rcases o.2 with ⟨rfl, _⟩ | ⟨j, rfl, hn, hb⟩
  · cases hk
  · have : j = k := hk
    subst this; exact ⟨blk_lt' hb, hn⟩

/-- Rows of the call's own, each in a block of its own. -/
def RowsOwn {α : Type} (esz : Nat) (C : List α → List Cell) (n : Nat) (h : AHeap) (y : Cell) (rows : List (List α)) : Prop :=
  ∃ ts, Own n h y 1 ts rows.length ∧ ∀ (t : Nat) (r : List α), rows[t]? = some r → ∃ x : Cell, ts[t]? = some x ∧ Own n h x esz (C r) r.length ∧ ∀ k, isBlk x k → ¬ isBlk y k

section rows
variable {α : Type} {esz : Nat} {C : List α → List Cell} {n : Nat}

theorem RowsOwn.nil (h : AHeap) : RowsOwn esz C n h .nils ([] : List (List α)) := ⟨[], Own.nil _ _ _, fun t r hr => by simp at hr⟩

theorem RowsOwn.keep {h h' : AHeap} {y : Cell} {rows : List (List α)} (r : RowsOwn esz C n h y rows) (hk : Kp h.length h h') : RowsOwn esz C n h' y rows := by
  obtain ⟨ts, h1, h2⟩ := r
  exact ⟨ts, h1.keepK hk, fun t r hr => by obtain ⟨x, x1, x2, x3⟩ := h2 t r hr; exact ⟨x, x1, x2.keepK hk, x3⟩⟩

theorem RowsOwn.blkLt {h : AHeap} {y : Cell} {rows : List (List α)} (r : RowsOwn esz C n h y rows) {k : Nat} (hk : isBlk y k) : k < h.length ∧ n ≤ k := by
  obtain ⟨ts, h1, _⟩ := r; exact h1.blkLt hk

theorem RowsOwn.of {h : AHeap} {y : Cell} {rows : List (List α)} (r : RowsOwn esz C n h y rows) : RowsOf esz C h y rows := by
  obtain ⟨ts, h1, h2⟩ := r
  exact ⟨ts, h1.at, h1.low, fun t r hr => by obtain ⟨x, x1, x2, _⟩ := h2 t r hr; exact ⟨x, x1, x2.at, x2.low⟩⟩

theorem RowsOwn.push {h : AHeap} {y x : Cell} {rows : List (List α)} {r : List α} (w : RowsOwn esz C n h y rows) (hx : Own n h x esz (C r) r.length) (hd : ∀ k, isBlk x k → ¬ isBlk y k) (hn : n ≤ h.length) (hl : rows.length ≤ 2000) :
    ∃ y' h', (∀ {β : Type} (f : Cell → AHeap → Option β), appK 1 24 y [x] h f = f y' h') ∧ RowsOwn esz C n h' y' (rows ++ [r]) ∧ Kp n h h' ∧ ∀ j b, blk? h j = some b → ¬ isBlk y j → blk? h' j = some b ∧ ¬ isBlk y' j := by
  have hm : maxBytes ≥ 2001 * 24 := by unfold maxBytes; omega
  obtain ⟨ts, h1, h2⟩ := w
  obtain ⟨y', h', ha, ho, hk, hf⟩ := h1.app (bytes := 24) (xs := [x]) hn rfl (by omega) (by omega) (by omega)
  have mv : ∀ {z : Cell} {cs : List Cell} {len : Nat}, Own n h z esz cs len → (∀ k, isBlk z k → ¬ isBlk y k) → Own n h' z esz cs len ∧ ∀ k, isBlk z k → ¬ isBlk y' k := by
    intro z cs len oz dz
    rcases oz.2 with e | ⟨k, e, hnk, hb⟩
    · refine ⟨⟨oz.1, .inl e⟩, fun k hk => ?_⟩
      rw [e.1] at hk; cases hk
    · have hik : isBlk z k := by rw [e]; rfl
      obtain ⟨b1, b2⟩ := hf k _ hb (dz k hik)
      refine ⟨⟨oz.1, .inr ⟨k, e, hnk, b1⟩⟩, fun j hj => ?_⟩
      rw [e] at hj
      have : k = j := hj
      subst this; exact b2
  refine ⟨y', h', ha, ⟨ts ++ [x], by rw [List.length_append, List.length_singleton]; exact ho, fun t r' hr => ?_⟩, hk, hf⟩
  have hts : ts.length = rows.length := by have := h1.1; omega
  by_cases ht : t < rows.length
  · rw [List.getElem?_append_left ht] at hr
    obtain ⟨z, z1, z2, z3⟩ := h2 t r' hr
    obtain ⟨w1, w2⟩ := mv z2 z3
    exact ⟨z, by rw [List.getElem?_append_left (by omega)]; exact z1, w1, w2⟩
  · rw [List.getElem?_append_right (by omega)] at hr
    have h0 : t - rows.length = 0 := by
      rcases Nat.eq_zero_or_pos (t - rows.length) with e | e
      · exact e
      · rw [List.getElem?_eq_none (by simp; omega)] at hr; cases hr
    rw [h0] at hr
    obtain rfl : r = r' := by simpa using hr
    obtain ⟨w1, w2⟩ := mv hx hd
    exact ⟨x, by rw [List.getElem?_append_right (by omega), show t - ts.length = 0 by omega]; rfl, w1, w2⟩
end rows

/-- Where a letter stands. -/
def plc : List Int → Int → Nat → Int
  | [], _, _ => -1
  | c :: t, x, i => if c = x then i else plc t x (i + 1)

def initV (l : List (Int × Int)) (c : Int) : Int := l.foldl (fun v p => if p.1 = c then p.2 else v) 0
def compI (locs : List Int) (i : Ins) : Ins := if i.loc ≠ 0 then { i with loc := plc locs i.loc 0 } else i
def compT (T : PTest) : PProg := ⟨locsT T, (locsT T).map (initV T.inits), T.thr.map fun c => c.map (compI (locsT T))⟩

theorem locsT_u8 {T : PTest} {x : Int} (h : x ∈ locsT T) : 97 ≤ x ∧ x ≤ 122 := by
  obtain ⟨c, h1, _, rfl⟩ := locsF_mem.1 h
  omega

section
variable {E : Env}

theorem Place_R (hE : jacquardref6_Place_In E) {a b c : Cell} {locs : List Int} {h : AHeap} (ha : SlAt h a 1 (intC .u8 locs) locs.length) (hu : ∀ x ∈ locs, 97 ≤ x ∧ x ≤ 122) (hl : locs.length ≤ 100) (x : Int) :
    R E 122 [.agg [a, b, c], .c (.int .i64 x)] h = some ([.c (.int .i64 (plc locs x 0))], h) := by
  refine R_intro hE.fn ?_
  have a0 : ∀ {α : Type} (f : Cell → Option α), atK [a, b, c] 0 f = f a := fun _ => rfl
  have key : ∀ (t : List Int) (i : Nat), locs.drop i = t → (Lim (jacquardref6_Place_F1 (R E) Lim E.glob) (jacquardref6_Place_s1 x (i : Int) [a, b, c] h)).bind (fun p => jacquardref6_Place_k3 (R E) Lim E.glob h p.1 p.2) = some ([.c (.int .i64 (plc t x i))], h) := by
    intro t
    induction t with
    | nil =>
      intro i hd
      have hi : locs.length ≤ i := by
        have := congrArg List.length hd
        simp at this; omega
      have hr : jacquardref6_Place_F1 (R E) Lim E.glob (jacquardref6_Place_s1 x (i : Int) [a, b, c] h) = some (.exit 0, jacquardref6_Place_x1_1 h) := by
        rw [jacquardref6_Place_r1, a0, ha.len, if_neg (by simp; omega)]
      rw [Lim_exit hr, bind_ok, jacquardref6_Place_e1_1]; rfl
    | cons v t ih =>
      intro i hd
      have hi : i < locs.length := by
        have := congrArg List.length hd
        simp at this; omega
      have hv : locs[i]? = some v := by
        have := congrArg (fun z => z[0]?) hd
        simpa [List.getElem?_drop] using this
      have hd2 : locs.drop (i + 1) = t := by
        have := congrArg (List.drop 1) hd
        simpa [List.drop_drop] using this
      have huv := hu v (List.mem_of_getElem? hv)
      have hr : jacquardref6_Place_F1 (R E) Lim E.glob (jacquardref6_Place_s1 x (i : Int) [a, b, c] h) = if (v == x) = true then some (.ret, jacquardref6_Place_x1_0 i h) else some (.normal, jacquardref6_Place_s1 x ((i + 1 : Nat) : Int) [a, b, c] h) := by
        rw [jacquardref6_Place_r1, a0, ha.len, if_pos (by simp; omega), a0, ha.get1 hi (intC_get hv), asI_ok, g_wrap_i64 (by omega) (by omega), g_succ (by omega)]
      rw [plc]
      by_cases hvx : v = x
      · rw [if_pos (by rw [hvx]; exact beq_self_eq_true _)] at hr
        rw [Lim_ret hr, bind_ok, jacquardref6_Place_e1_0, if_pos hvx]
      · rw [if_neg (by rw [beq_iff_eq]; exact hvx)] at hr
        rw [if_neg hvx]
        have := ih (i + 1) hd2
        cases hL : Lim (jacquardref6_Place_F1 (R E) Lim E.glob) (jacquardref6_Place_s1 x ((i + 1 : Nat) : Int) [a, b, c] h) with
        | none => rw [hL] at this; cases this
        | some p => rw [Lim_next hr hL]; rw [hL] at this; exact this
  rw [jacquardref6_Place_eq]
  exact key locs 0 rfl

theorem ins_setloc {i : Ins} {v : Int} : i.cs.set 2 (.int .i64 v) = ({ i with loc := v } : Ins).cs := rfl
theorem ins_splice {i : Ins} : splice (List.replicate 9 (Cell.int .i64 0)) 0 i.cs = i.cs := rfl
theorem ins_len19 (i : Ins) : i.cs.length = 1 * 9 := rfl

theorem initV_snoc (l : List (Int × Int)) (p : Int × Int) (c : Int) : initV (l ++ [p]) c = if p.1 = c then p.2 else initV l c := by
  unfold initV; rw [List.foldl_append]; rfl

theorem refCompile_R (hE : jacquardref6_Compile_In E) {cs : List Cell} {T : PTest} {h : AHeap} (p : TestAt h cs T) (hs : T.small) :
    ∃ cs' h', R E 101 [.agg cs] h = some ([.agg cs'], h') ∧ ProgAt h' cs' (compT T) ∧ Kp h.length h h' := by
  obtain ⟨a, h1, hr1, ha, hk1⟩ := refLocs_R hE.c121 p hs
  have hll : (locsT T).length ≤ 26 := locsF_len _ _
  have hu := fun x (hx : x ∈ locsT T) => locsT_u8 hx
  have p1 := p.keep hk1
  have hlen := p.len
  obtain ⟨ta, tb, tc, hcs, ⟨hta, htal⟩, htb, htc⟩ := p1
  have t1 : ∀ {α : Type} (f : Cell → Option α), atK cs 1 f = f ta := fun f => by rw [hcs]; rfl
  have t2 : ∀ {α : Type} (f : Cell → Option α), atK cs 2 f = f tb := fun f => by rw [hcs]; rfl
  have hat := ha.at
  have hal := ha.low
  have hm : maxBytes ≥ 2000 * 72 := by unfold maxBytes; omega
  have pu : ∀ (x y z : Cell), ([x, y, z] : List Cell).length = 3 := fun _ _ _ => rfl
  -- what locations begin with
  have inner1 : ∀ (i : Nat) (b : Cell) (h2 : AHeap) (v : Int) (z : List Cell), (locsT T)[i]? = some v → Kp h1.length h1 h2 →
      Lim (jacquardref6_Compile_F1 (R E) Lim E.glob) (jacquardref6_Compile_s1 (i : Int) 0 ((0 : Nat) : Int) cs z [a, b, .nils] h2) = some (.exit 2, jacquardref6_Compile_x1_3 (i : Int) (initV T.inits v) cs z [a, b, .nils] h2) := by
    intro i b h2 v z hv hk
    have h0 : (0 : Int) = initV (T.inits.take 0) v := rfl
    have he : initV T.inits v = initV (T.inits.take T.inits.length) v := by rw [List.take_length]
    rw [he]
    rw [show jacquardref6_Compile_s1 (i : Int) 0 ((0 : Nat) : Int) cs z [a, b, .nils] h2 = jacquardref6_Compile_s1 (i : Int) (initV (T.inits.take 0) v) ((0 : Nat) : Int) cs z [a, b, .nils] h2 from rfl]
    have huv := hu v (List.mem_of_getElem? hv)
    refine Lim_count (fun k => jacquardref6_Compile_s1 (i : Int) (initV (T.inits.take k) v) (k : Int) cs z [a, b, .nils] h2) 0 T.inits.length (by omega) (fun k _ hkk => ?_) (Lim_exit ?_)
    · have hq : T.inits[k]? = some T.inits[k] := List.getElem?_eq_getElem hkk
      generalize T.inits[k] = q at hq
      have := hs.inits
      have hta2 := hta.keep htal hk
      rw [jacquardref6_Compile_r1, t1, hta2.len, if_pos (by simp; omega), t1, hta2.get hkk (by omega) (pairC_get _ _ _ hq).1, asI_ok, show ∀ {α : Type} (f : Cell → Option α), atK [a, b, Cell.nils] 0 f = f a from fun _ => rfl, (hat.keep hal hk).get1 (getI_lt hv) (intC_get hv), asI_ok, g_wrap_i64 (by omega) (by omega), takeI_succ hq, initV_snoc]
      by_cases hqv : q.1 = v
      · rw [if_pos (by rw [hqv]; exact beq_self_eq_true _), if_pos hqv, t1, hta2.get hkk (by omega) (pairC_get _ _ _ hq).2, asI_ok, g_succ (by omega)]
      · rw [if_neg (by rw [beq_iff_eq]; exact hqv), if_neg hqv, g_succ (by omega)]
    · have hta2 := hta.keep htal hk
      rw [jacquardref6_Compile_r1, t1, hta2.len, if_neg (by simp)]
  obtain ⟨st, ⟨b, h2, rfl, hb, hk2⟩, hL2⟩ := Lim_inv (F := jacquardref6_Compile_F2 (R E) Lim E.glob) (fun i st => ∃ b h2, st = jacquardref6_Compile_s2 (i : Int) cs [Cell.nils, Cell.nils, Cell.nils] [a, b, .nils] h2 ∧ Own h1.length h2 b 1 (intC .i64 (((locsT T).map (initV T.inits)).take i)) i ∧ Kp h1.length h1 h2) 0 (locsT T).length (by omega)
    (fun i st _ hi => by
      rintro ⟨b, h2, rfl, hb, hk⟩
      have hv : (locsT T)[i]? = some (locsT T)[i] := List.getElem?_eq_getElem hi
      generalize (locsT T)[i] = v at hv
      have hin := inner1 i b h2 v [Cell.nils, Cell.nils, Cell.nils] hv hk
      rw [show ((0 : Nat) : Int) = 0 from rfl] at hin
      obtain ⟨b2, h3, hap, hb2, hk3, _⟩ := hb.app (bytes := 8) (xs := [.int .i64 (initV T.inits v)]) hk.1 rfl (by omega) (by omega) (by omega)
      refine ⟨_, ?_, b2, h3, rfl, ?_, hk.trans hk3⟩
      · rw [jacquardref6_Compile_r2, show ∀ {α : Type} (f : Cell → Option α), atK [a, b, Cell.nils] 0 f = f a from fun _ => rfl, hat.len, if_pos (by simp; omega), hin, bind_ok, jacquardref6_Compile_e1_3, show ∀ {α : Type} (f : Cell → Option α), atK [a, b, Cell.nils] 1 f = f b from fun _ => rfl, if_pos (show (splice [Cell.int .i64 0] 0 ([(.int .i64 (initV T.inits v))] : List Cell)).length = 1 * 1 from rfl), show splice [Cell.int .i64 0] 0 ([(.int .i64 (initV T.inits v))] : List Cell) = [.int .i64 (initV T.inits v)] from rfl, hap, if_pos (show 1 < ([a, b, Cell.nils] : List Cell).length by simp), g_succ (by omega)]
        rfl
      · rw [takeI_succ (p := initV T.inits v) (by rw [List.getElem?_map, hv]; rfl), intC_snoc]; exact hb2) (st := jacquardref6_Compile_s2 ((0 : Nat) : Int) cs [Cell.nils, Cell.nils, Cell.nils] [a, .nils, .nils] h1) ⟨.nils, h1, rfl, Own.nil _ _ _, Kp.refl _ _⟩
  have hfin2 : jacquardref6_Compile_F2 (R E) Lim E.glob (jacquardref6_Compile_s2 ((locsT T).length : Int) cs [Cell.nils, Cell.nils, Cell.nils] [a, b, .nils] h2) = some (.exit 0, jacquardref6_Compile_x2_1 cs [Cell.nils, Cell.nils, Cell.nils] [a, b, .nils] h2) := by
    rw [jacquardref6_Compile_r2, show ∀ {α : Type} (f : Cell → Option α), atK [a, b, Cell.nils] 0 f = f a from fun _ => rfl, hat.len, if_neg (by simp)]
  have hr2 := hL2 _ (Lim_exit hfin2)
  rw [List.take_of_length_le (by rw [List.length_map]; exact Nat.le_refl _)] at hb
  have htb2 := htb.keep hk2
  have hat2 := hat.keep hal hk2
  have hal2 : Low h2.length a := Low_mono hk2.1 hal
  have hbt := hb.at
  have hbl := hb.low
  -- the threads
  have inner2 : ∀ (t : Nat) (code : List Ins) (y : Cell) (h3 : AHeap), T.thr[t]? = some code → Kp h2.length h2 h3 →
      ∃ x h4, Lim (jacquardref6_Compile_F3 (R E) Lim E.glob) (jacquardref6_Compile_s3 (t : Int) .nils ((0 : Nat) : Int) cs [Cell.nils, Cell.nils, Cell.nils] [a, b, y] h3) = some (.exit 6, jacquardref6_Compile_x3_7 (t : Int) x cs [Cell.nils, Cell.nils, Cell.nils] [a, b, y] h4) ∧ Own h3.length h4 x 9 (codeC (code.map (compI (locsT T)))) code.length ∧ Kp h3.length h3 h4 := by
    intro t code y h3 ht hk3
    obtain ⟨cx, c1x, c2x, c3x⟩ := (htb2.keep hk3).get (β := Ex × St) ht
    have hcl := hs.code code (List.mem_of_getElem? ht)
    obtain ⟨st, ⟨x, h4, rfl, hx, hk4⟩, hL⟩ := Lim_inv (F := jacquardref6_Compile_F3 (R E) Lim E.glob) (fun i st => ∃ x h4, st = jacquardref6_Compile_s3 (t : Int) x (i : Int) cs [Cell.nils, Cell.nils, Cell.nils] [a, b, y] h4 ∧ Own h3.length h4 x 9 (codeC ((code.map (compI (locsT T))).take i)) i ∧ Kp h3.length h3 h4) 0 code.length (by omega)
      (fun i st _ hi => by
        rintro ⟨x, h4, rfl, hx, hk4⟩
        obtain ⟨cx', c1x', c2x', c3x'⟩ := ((htb2.keep hk3).keep hk4).get (β := Ex × St) ht
        have hq : code[i]? = some code[i] := List.getElem?_eq_getElem hi
        generalize code[i] = q at hq
        obtain ⟨off, cs', hG, hle, hcc⟩ := c1x'.insG hq
        have hsn : (code.map (compI (locsT T)))[i]? = some (compI (locsT T) q) := by rw [List.getElem?_map, hq]; rfl
        obtain ⟨x2, h5, hap, hx2, hk5, _⟩ := hx.app (bytes := 72) (xs := (compI (locsT T) q).cs) hk4.1 rfl (by omega) (by omega) (by omega)
        refine ⟨_, ?_, x2, h5, rfl, ?_, hk4.trans hk5⟩
        · rw [jacquardref6_Compile_r3, t2, c3x', c1x'.len, if_pos (by simp; omega), t2, c3x', hG, if_pos hle, hcc, if_pos ⟨rfl, rfl, rfl⟩, ins_loc, asI_ok]
          unfold compI at hap
          by_cases hz : q.loc ≠ 0
          · have hpl := Place_R hE.c122 (b := b) (c := y) ((hat2.keep hal2 hk3).keep (Low_mono hk3.1 hal2) hk4) hu (by omega) q.loc
            rw [if_pos hz] at hap
            rw [if_pos (by rw [bne_iff_ne]; exact hz), if_pos ⟨rfl, pu _ _ _⟩, ins_loc, asI_ok, hpl, c1_ok, asI_ok, if_pos (by rw [Ins.len]; omega), ins_setloc, if_pos ⟨rfl, rfl⟩, if_pos ⟨rfl, by simp⟩, ins_splice, if_pos (ins_len19 _), hap, g_succ (by omega)]
          · rw [if_neg hz] at hap
            rw [if_neg (by rw [bne_iff_ne]; exact hz), if_pos ⟨rfl, rfl⟩, if_pos ⟨rfl, by simp⟩, ins_splice, if_pos (ins_len19 _), hap, g_succ (by omega)]
        · rw [takeI_succ hsn, codeC_snoc]; exact hx2) (st := jacquardref6_Compile_s3 (t : Int) .nils ((0 : Nat) : Int) cs [Cell.nils, Cell.nils, Cell.nils] [a, b, y] h3) ⟨.nils, h3, rfl, Own.nil _ _ _, Kp.refl _ _⟩
    have hfin : jacquardref6_Compile_F3 (R E) Lim E.glob (jacquardref6_Compile_s3 (t : Int) x (code.length : Int) cs [Cell.nils, Cell.nils, Cell.nils] [a, b, y] h4) = some (.exit 6, jacquardref6_Compile_x3_7 (t : Int) x cs [Cell.nils, Cell.nils, Cell.nils] [a, b, y] h4) := by
      obtain ⟨cx', c1x', c2x', c3x'⟩ := ((htb2.keep hk3).keep hk4).get (β := Ex × St) ht
      rw [jacquardref6_Compile_r3, t2, c3x', c1x'.len, if_neg (by simp)]
    rw [List.take_of_length_le (by rw [List.length_map]; exact Nat.le_refl _)] at hx
    exact ⟨x, h4, hL _ (Lim_exit hfin), hx, hk4⟩
  have hthl := hs.thr
  obtain ⟨st, ⟨y, h3, rfl, hy, hk3⟩, hL4⟩ := Lim_inv (F := jacquardref6_Compile_F4 (R E) Lim E.glob) (fun t st => ∃ y h3, st = jacquardref6_Compile_s4 (t : Int) cs [Cell.nils, Cell.nils, Cell.nils] [a, b, y] h3 ∧ RowsOwn 9 codeC h2.length h3 y ((T.thr.map fun c => c.map (compI (locsT T))).take t) ∧ Kp h2.length h2 h3) 0 T.thr.length (by omega)
    (fun t st _ ht => by
      rintro ⟨y, h3, rfl, hy, hk3⟩
      have hq : T.thr[t]? = some T.thr[t] := List.getElem?_eq_getElem ht
      generalize T.thr[t] = code at hq
      obtain ⟨x, h4, hin, hx, hk4⟩ := inner2 t code y h3 hq hk3
      rw [show ((0 : Nat) : Int) = 0 from rfl] at hin
      have hsn : (T.thr.map fun c => c.map (compI (locsT T)))[t]? = some (code.map (compI (locsT T))) := by rw [List.getElem?_map, hq]; rfl
      have hxl : code.length = (code.map (compI (locsT T))).length := by simp
      rw [hxl] at hx
      obtain ⟨y2, h5, hap, hy2, hk5, _⟩ := (hy.keep hk4).push (hx.monoN hk3.1) (fun k h1 h2 => by have := (hx.blkLt h1).2; have := (hy.blkLt h2).1; omega) (Nat.le_trans hk3.1 hk4.1) (by rw [List.length_take]; omega)
      refine ⟨_, ?_, y2, h5, rfl, ?_, hk3.trans ((hk4.mono hk3.1).trans hk5)⟩
      · rw [jacquardref6_Compile_r4, t2, htb2.len, if_pos (by simp; omega), hin, bind_ok, jacquardref6_Compile_e3_7, show ∀ {α : Type} (f : Cell → Option α), atK [a, b, y] 2 f = f y from fun _ => rfl, if_pos (show (splice [Cell.nils] 0 ([x] : List Cell)).length = 1 * 1 from rfl), show splice [Cell.nils] 0 ([x] : List Cell) = [x] from rfl, hap, if_pos (show 2 < ([a, b, y] : List Cell).length by simp), g_succ (by omega)]
        rfl
      · rw [takeI_succ hsn]; exact hy2) (st := jacquardref6_Compile_s4 ((0 : Nat) : Int) cs [Cell.nils, Cell.nils, Cell.nils] [a, b, .nils] h2) ⟨.nils, h2, rfl, by rw [List.take_zero]; exact RowsOwn.nil _, Kp.refl _ _⟩
  have hfin4 : jacquardref6_Compile_F4 (R E) Lim E.glob (jacquardref6_Compile_s4 (T.thr.length : Int) cs [Cell.nils, Cell.nils, Cell.nils] [a, b, y] h3) = some (.exit 4, jacquardref6_Compile_x4_5 [Cell.nils, Cell.nils, Cell.nils] [a, b, y] h3) := by
    rw [jacquardref6_Compile_r4, t2, htb2.len, if_neg (by simp)]
  have hr4 := hL4 _ (Lim_exit hfin4)
  rw [List.take_of_length_le (by rw [List.length_map]; exact Nat.le_refl _)] at hy
  obtain ⟨ts, y1, y2, y3⟩ := hy.of
  refine ⟨[a, b, y], h3, R_intro hE.fn ?_, ⟨a, b, y, ts, rfl, ⟨hat2.keep hal2 hk3, Low_mono hk3.1 hal2⟩, ⟨?_, Low_mono hk3.1 hbl⟩, ⟨y1, y2⟩, y3⟩, hk1.trans ((hk2.mono hk1.1).trans (hk3.mono (Nat.le_trans hk1.1 hk2.1)))⟩
  · rw [jacquardref6_Compile_eq, if_pos ⟨rfl, hlen⟩, hr1, c1_ok, asC_ok, show splice [Cell.nils, Cell.nils, Cell.nils] 0 ([a] : List Cell) = [a, .nils, .nils] from rfl, if_pos ⟨rfl, rfl, rfl⟩, show (0 : Int) = ((0 : Nat) : Int) from rfl, hr2, bind_ok, jacquardref6_Compile_e2_1, show (0 : Int) = ((0 : Nat) : Int) from rfl, hr4, bind_ok, jacquardref6_Compile_e4_5, if_pos ⟨rfl, rfl⟩, if_pos ⟨rfl, rfl, rfl⟩, if_pos ⟨rfl, rfl⟩]
  · have := hbt.keep hbl hk3
    have e : (compT T).init.length = (locsT T).length := by simp [compT]
    rw [e]; exact this

end
end Jq

namespace Jq
open Go

/- jacquard/jacquardlaw3.Small: 97 -/
def jacquardlaw3_Small_k2 (C : CallF) (L : LoopF) (G : Glo) (h0 : AHeap) : Ex → St → Option (List AV × AHeap) :=
  kSeq (fun st => jacquardlaw3_Small_p1.exec C L G st (jacquardlaw3_Small.fin G h0)) (jacquardlaw3_Small.fin G h0)
def jacquardlaw3_Small_c1 (a1 : Int) (x7 : Cell) (a8 : Int) (a9 : Int) (s0 : List Cell) (s1 : List Cell) (h : AHeap) : St := ⟨[.top, .v (.c (.int .i64 a1)), .top, .top, .loc 0 0, .loc 1 0, .top, .v (.c x7), .v (.c (.int .i64 a8)), .v (.c (.int .i64 a9)), .top, .top, .top, .top, .top, .top, .top, .top, .top, .top, .top, .top, .top, .top, .top, .top, .top, .top, .top, .top, .top, .top, .top, .top, .top, .top, .top, .top, .top, .top, .top, .top, .top, .top, .top, .top, .top, .top, .top, .top, .top, .top, .top, .top, .top, .top, .top, .top, .top, .top, .top, .top, .top, .top, .top, .top, .top, .top, .top, .top, .top, .top, .top, .top, .top, .top, .top, .top, .top, .top, .top, .top, .top, .top, .top, .top, .top, .top, .top, .top, .top, .top, .top, .top, .top, .top, .top, .top, .top, .top, .top, .top, .top, .top, .top, .top, .top, .top, .top, .top, .top, .top, .top, .top, .top, .top, .top, .top, .top, .top, .top, .top, .top, .top, .top, .top, .top, .top, .top, .top, .top, .top, .top, .top, .top, .top, .top, .top, .top, .top, .top, .top, .top, .top, .top, .top, .top, .top, .top, .top, .top, .top, .top, .top, .top, .top, .top, .top, .top, .top, .top, .top, .top, .top, .top, .top, .top, .top, .top, .top, .top, .top, .top, .top, .top, .top, .top, .top, .top, .top, .top, .top, .top, .top], [some s0, some s1, none], h⟩
def jacquardlaw3_Small_k3 (C : CallF) (L : LoopF) (G : Glo) (h0 : AHeap) : Ex → St → Option (List AV × AHeap) :=
  kSeq (fun st => jacquardlaw3_Small_p2.exec C L G st (jacquardlaw3_Small.fin G h0)) (jacquardlaw3_Small.fin G h0)
def jacquardlaw3_Small_k4 (C : CallF) (L : LoopF) (G : Glo) (h0 : AHeap) : Ex → St → Option (List AV × AHeap) :=
  kBlk 0 (jacquardlaw3_Small_k3 C L G h0)
def jacquardlaw3_Small_s2 (a1 : Int) (x7 : Cell) (a8 : Int) (a9 : Int) (a10 : Int) (a11 : Int) (s0 : List Cell) (s1 : List Cell) (h : AHeap) : St := ⟨[.top, .v (.c (.int .i64 a1)), .top, .top, .loc 0 0, .loc 1 0, .top, .v (.c x7), .v (.c (.int .i64 a8)), .v (.c (.int .i64 a9)), .v (.c (.int .i64 a10)), .v (.c (.int .i64 a11)), .top, .top, .top, .top, .top, .top, .top, .top, .top, .top, .top, .top, .top, .top, .top, .top, .top, .top, .top, .top, .top, .top, .top, .top, .top, .top, .top, .top, .top, .top, .top, .top, .top, .top, .top, .top, .top, .top, .top, .top, .top, .top, .top, .top, .top, .top, .top, .top, .top, .top, .top, .top, .top, .top, .top, .top, .top, .top, .top, .top, .top, .top, .top, .top, .top, .top, .top, .top, .top, .top, .top, .top, .top, .top, .top, .top, .top, .top, .top, .top, .top, .top, .top, .top, .top, .top, .top, .top, .top, .top, .top, .top, .top, .top, .top, .top, .top, .top, .top, .top, .top, .top, .top, .top, .top, .top, .top, .top, .top, .top, .top, .top, .top, .top, .top, .top, .top, .top, .top, .top, .top, .top, .top, .top, .top, .top, .top, .top, .top, .top, .top, .top, .top, .top, .top, .top, .top, .top, .top, .top, .top, .top, .top, .top, .top, .top, .top, .top, .top, .top, .top, .top, .top, .top, .top, .top, .top, .top, .top, .top, .top, .top, .top, .top, .top, .top, .top, .top, .top, .top, .top, .top], [some s0, some s1, none], h⟩
def jacquardlaw3_Small_F2 (C : CallF) (L : LoopF) (G : Glo) : St → Option (Ex × St) :=
  roundF (fun st f => jacquardlaw3_Small_b2.exec C L G st f) [1, 4, 5, 7, 8, 9, 10, 11] [0, 1] [(1, [4, 5, 7], [0, 1])]
def jacquardlaw3_Small_k5 (C : CallF) (L : LoopF) (G : Glo) : Ex → St → Option (Ex × St) :=
  kSeq (fun st => jacquardlaw3_Small_p3.exec C L G st (kLoop [1, 4, 5, 7, 8, 9, 10, 11] [0, 1] [(1, [4, 5, 7], [0, 1])])) (kLoop [1, 4, 5, 7, 8, 9, 10, 11] [0, 1] [(1, [4, 5, 7], [0, 1])])
def jacquardlaw3_Small_k6 (C : CallF) (L : LoopF) (G : Glo) : Ex → St → Option (Ex × St) :=
  kBlk 1 (jacquardlaw3_Small_k5 C L G)
def jacquardlaw3_Small_k7 (C : CallF) (L : LoopF) (G : Glo) : Ex → St → Option (Ex × St) :=
  kSeq (fun st => jacquardlaw3_Small_p4.exec C L G st (jacquardlaw3_Small_k6 C L G)) (jacquardlaw3_Small_k6 C L G)
def jacquardlaw3_Small_k8 (C : CallF) (L : LoopF) (G : Glo) : Ex → St → Option (Ex × St) :=
  kBlk 2 (jacquardlaw3_Small_k7 C L G)
def jacquardlaw3_Small_s1 (a1 : Int) (x7 : Cell) (a8 : Int) (a9 : Int) (a10 : Int) (a11 : Int) (x12 : Cell) (a13 : Int) (s0 : List Cell) (s1 : List Cell) (h : AHeap) : St := ⟨[.top, .v (.c (.int .i64 a1)), .top, .top, .loc 0 0, .loc 1 0, .top, .v (.c x7), .v (.c (.int .i64 a8)), .v (.c (.int .i64 a9)), .v (.c (.int .i64 a10)), .v (.c (.int .i64 a11)), .v (.c x12), .v (.c (.int .i64 a13)), .top, .top, .top, .top, .top, .top, .top, .top, .top, .top, .top, .top, .top, .top, .top, .top, .top, .top, .top, .top, .top, .top, .top, .top, .top, .top, .top, .top, .top, .top, .top, .top, .top, .top, .top, .top, .top, .top, .top, .top, .top, .top, .top, .top, .top, .top, .top, .top, .top, .top, .top, .top, .top, .top, .top, .top, .top, .top, .top, .top, .top, .top, .top, .top, .top, .top, .top, .top, .top, .top, .top, .top, .top, .top, .top, .top, .top, .top, .top, .top, .top, .top, .top, .top, .top, .top, .top, .top, .top, .top, .top, .top, .top, .top, .top, .top, .top, .top, .top, .top, .top, .top, .top, .top, .top, .top, .top, .top, .top, .top, .top, .top, .top, .top, .top, .top, .top, .top, .top, .top, .top, .top, .top, .top, .top, .top, .top, .top, .top, .top, .top, .top, .top, .top, .top, .top, .top, .top, .top, .top, .top, .top, .top, .top, .top, .top, .top, .top, .top, .top, .top, .top, .top, .top, .top, .top, .top, .top, .top, .top, .top, .top, .top, .top, .top, .top, .top, .top, .top, .top], [some s0, some s1, none], h⟩
def jacquardlaw3_Small_F1 (C : CallF) (L : LoopF) (G : Glo) : St → Option (Ex × St) :=
  roundF (fun st f => jacquardlaw3_Small_b1.exec C L G st f) [1, 4, 5, 7, 8, 9, 10, 11, 12, 13] [0, 1] [(3, [1, 4, 5, 7, 8, 9, 10, 11, 12], [0, 1])]
def jacquardlaw3_Small_k9 (C : CallF) (L : LoopF) (G : Glo) : Ex → St → Option (Ex × St) :=
  kSeq (fun st => jacquardlaw3_Small_p5.exec C L G st (kLoop [1, 4, 5, 7, 8, 9, 10, 11, 12, 13] [0, 1] [(3, [1, 4, 5, 7, 8, 9, 10, 11, 12], [0, 1])])) (kLoop [1, 4, 5, 7, 8, 9, 10, 11, 12, 13] [0, 1] [(3, [1, 4, 5, 7, 8, 9, 10, 11, 12], [0, 1])])
def jacquardlaw3_Small_k10 (C : CallF) (L : LoopF) (G : Glo) : Ex → St → Option (Ex × St) :=
  kBlk 3 (jacquardlaw3_Small_k9 C L G)
def jacquardlaw3_Small_k11 (C : CallF) (L : LoopF) (G : Glo) : Ex → St → Option (Ex × St) :=
  kSeq (fun st => jacquardlaw3_Small_p6.exec C L G st (jacquardlaw3_Small_k10 C L G)) (jacquardlaw3_Small_k10 C L G)
def jacquardlaw3_Small_c2 (a1 : Int) (x7 : Cell) (a8 : Int) (a9 : Int) (a10 : Int) (a11 : Int) (x12 : Cell) (a13 : Int) (a14 : Int) (a15 : Int) (s0 : List Cell) (s1 : List Cell) (s2 : List Cell) (h : AHeap) : St := ⟨[.top, .v (.c (.int .i64 a1)), .top, .top, .loc 0 0, .loc 1 0, .top, .v (.c x7), .v (.c (.int .i64 a8)), .v (.c (.int .i64 a9)), .v (.c (.int .i64 a10)), .v (.c (.int .i64 a11)), .v (.c x12), .v (.c (.int .i64 a13)), .v (.c (.int .i64 a14)), .v (.c (.int .i64 a15)), .loc 2 0, .top, .top, .top, .top, .top, .top, .top, .top, .top, .top, .top, .top, .top, .top, .top, .top, .top, .top, .top, .top, .top, .top, .top, .top, .top, .top, .top, .top, .top, .top, .top, .top, .top, .top, .top, .top, .top, .top, .top, .top, .top, .top, .top, .top, .top, .top, .top, .top, .top, .top, .top, .top, .top, .top, .top, .top, .top, .top, .top, .top, .top, .top, .top, .top, .top, .top, .top, .top, .top, .top, .top, .top, .top, .top, .top, .top, .top, .top, .top, .top, .top, .top, .top, .top, .top, .top, .top, .top, .top, .top, .top, .top, .top, .top, .top, .top, .top, .top, .top, .top, .top, .top, .top, .top, .top, .top, .top, .top, .top, .top, .top, .top, .top, .top, .top, .top, .top, .top, .top, .top, .top, .top, .top, .top, .top, .top, .top, .top, .top, .top, .top, .top, .top, .top, .top, .top, .top, .top, .top, .top, .top, .top, .top, .top, .top, .top, .top, .top, .top, .top, .top, .top, .top, .top, .top, .top, .top, .top, .top, .top, .top, .top, .top, .top, .top, .top, .top], [some s0, some s1, some s2], h⟩
def jacquardlaw3_Small_k12 (C : CallF) (L : LoopF) (G : Glo) : Ex → St → Option (Ex × St) :=
  kBlk 4 (jacquardlaw3_Small_k10 C L G)
def jacquardlaw3_Small_k13 (C : CallF) (L : LoopF) (G : Glo) : Ex → St → Option (Ex × St) :=
  kSeq (fun st => jacquardlaw3_Small_p7.exec C L G st (jacquardlaw3_Small_k12 C L G)) (jacquardlaw3_Small_k12 C L G)
def jacquardlaw3_Small_c3 (a1 : Int) (x7 : Cell) (a8 : Int) (a9 : Int) (a10 : Int) (a11 : Int) (x12 : Cell) (a13 : Int) (a15 : Int) (a17 : Int) (a83 : Int) (b95 : Bool) (s0 : List Cell) (s1 : List Cell) (s2 : List Cell) (h : AHeap) : St := ⟨[.top, .v (.c (.int .i64 a1)), .top, .top, .loc 0 0, .loc 1 0, .top, .v (.c x7), .v (.c (.int .i64 a8)), .v (.c (.int .i64 a9)), .v (.c (.int .i64 a10)), .v (.c (.int .i64 a11)), .v (.c x12), .v (.c (.int .i64 a13)), .top, .v (.c (.int .i64 a15)), .loc 2 0, .v (.c (.int .i64 a17)), .top, .top, .top, .top, .top, .top, .top, .top, .top, .top, .top, .top, .top, .top, .top, .top, .top, .top, .top, .top, .top, .top, .top, .top, .top, .top, .top, .top, .top, .top, .top, .top, .top, .top, .top, .top, .top, .top, .top, .top, .top, .top, .top, .top, .top, .top, .top, .top, .top, .top, .top, .top, .top, .top, .top, .top, .top, .top, .top, .top, .top, .top, .top, .top, .top, .v (.c (.int .i64 a83)), .top, .top, .top, .top, .top, .top, .top, .top, .top, .top, .top, .v (.c (.bool b95)), .top, .top, .top, .top, .top, .top, .top, .top, .top, .top, .top, .top, .top, .top, .top, .top, .top, .top, .top, .top, .top, .top, .top, .top, .top, .top, .top, .top, .top, .top, .top, .top, .top, .top, .top, .top, .top, .top, .top, .top, .top, .top, .top, .top, .top, .top, .top, .top, .top, .top, .top, .top, .top, .top, .top, .top, .top, .top, .top, .top, .top, .top, .top, .top, .top, .top, .top, .top, .top, .top, .top, .top, .top, .top, .top, .top, .top, .top, .top, .top, .top, .top, .top, .top, .top, .top, .top, .top], [some s0, some s1, some s2], h⟩
def jacquardlaw3_Small_k14 (C : CallF) (L : LoopF) (G : Glo) : Ex → St → Option (Ex × St) :=
  kSeq (fun st => jacquardlaw3_Small_p8.exec C L G st (jacquardlaw3_Small_k12 C L G)) (jacquardlaw3_Small_k12 C L G)
def jacquardlaw3_Small_c4 (a1 : Int) (x7 : Cell) (a8 : Int) (a9 : Int) (a10 : Int) (a11 : Int) (x12 : Cell) (a13 : Int) (a15 : Int) (a17 : Int) (a83 : Int) (b108 : Bool) (s0 : List Cell) (s1 : List Cell) (s2 : List Cell) (h : AHeap) : St := ⟨[.top, .v (.c (.int .i64 a1)), .top, .top, .loc 0 0, .loc 1 0, .top, .v (.c x7), .v (.c (.int .i64 a8)), .v (.c (.int .i64 a9)), .v (.c (.int .i64 a10)), .v (.c (.int .i64 a11)), .v (.c x12), .v (.c (.int .i64 a13)), .top, .v (.c (.int .i64 a15)), .loc 2 0, .v (.c (.int .i64 a17)), .top, .top, .top, .top, .top, .top, .top, .top, .top, .top, .top, .top, .top, .top, .top, .top, .top, .top, .top, .top, .top, .top, .top, .top, .top, .top, .top, .top, .top, .top, .top, .top, .top, .top, .top, .top, .top, .top, .top, .top, .top, .top, .top, .top, .top, .top, .top, .top, .top, .top, .top, .top, .top, .top, .top, .top, .top, .top, .top, .top, .top, .top, .top, .top, .top, .v (.c (.int .i64 a83)), .top, .top, .top, .top, .top, .top, .top, .top, .top, .top, .top, .top, .top, .top, .top, .top, .top, .top, .top, .top, .top, .top, .top, .top, .v (.c (.bool b108)), .top, .top, .top, .top, .top, .top, .top, .top, .top, .top, .top, .top, .top, .top, .top, .top, .top, .top, .top, .top, .top, .top, .top, .top, .top, .top, .top, .top, .top, .top, .top, .top, .top, .top, .top, .top, .top, .top, .top, .top, .top, .top, .top, .top, .top, .top, .top, .top, .top, .top, .top, .top, .top, .top, .top, .top, .top, .top, .top, .top, .top, .top, .top, .top, .top, .top, .top, .top, .top, .top, .top, .top, .top, .top, .top], [some s0, some s1, some s2], h⟩
def jacquardlaw3_Small_x1_3 (a1 : Int) (x7 : Cell) (a8 : Int) (a9 : Int) (a10 : Int) (a11 : Int) (x12 : Cell) (s0 : List Cell) (s1 : List Cell) (h : AHeap) : St := ⟨[.top, .v (.c (.int .i64 a1)), .top, .top, .loc 0 0, .loc 1 0, .top, .v (.c x7), .v (.c (.int .i64 a8)), .v (.c (.int .i64 a9)), .v (.c (.int .i64 a10)), .v (.c (.int .i64 a11)), .v (.c x12), .top, .top, .top, .top, .top, .top, .top, .top, .top, .top, .top, .top, .top, .top, .top, .top, .top, .top, .top, .top, .top, .top, .top, .top, .top, .top, .top, .top, .top, .top, .top, .top, .top, .top, .top, .top, .top, .top, .top, .top, .top, .top, .top, .top, .top, .top, .top, .top, .top, .top, .top, .top, .top, .top, .top, .top, .top, .top, .top, .top, .top, .top, .top, .top, .top, .top, .top, .top, .top, .top, .top, .top, .top, .top, .top, .top, .top, .top, .top, .top, .top, .top, .top, .top, .top, .top, .top, .top, .top, .top, .top, .top, .top, .top, .top, .top, .top, .top, .top, .top, .top, .top, .top, .top, .top, .top, .top, .top, .top, .top, .top, .top, .top, .top, .top, .top, .top, .top, .top, .top, .top, .top, .top, .top, .top, .top, .top, .top, .top, .top, .top, .top, .top, .top, .top, .top, .top, .top, .top, .top, .top, .top, .top, .top, .top, .top, .top, .top, .top, .top, .top, .top, .top, .top, .top, .top, .top, .top, .top, .top, .top, .top, .top, .top, .top, .top, .top, .top, .top, .top, .top], [some s0, some s1, none], h⟩
def jacquardlaw3_Small_x2_1 (x7 : Cell) (s0 : List Cell) (s1 : List Cell) (h : AHeap) : St := ⟨[.top, .top, .top, .top, .loc 0 0, .loc 1 0, .top, .v (.c x7), .top, .top, .top, .top, .top, .top, .top, .top, .top, .top, .top, .top, .top, .top, .top, .top, .top, .top, .top, .top, .top, .top, .top, .top, .top, .top, .top, .top, .top, .top, .top, .top, .top, .top, .top, .top, .top, .top, .top, .top, .top, .top, .top, .top, .top, .top, .top, .top, .top, .top, .top, .top, .top, .top, .top, .top, .top, .top, .top, .top, .top, .top, .top, .top, .top, .top, .top, .top, .top, .top, .top, .top, .top, .top, .top, .top, .top, .top, .top, .top, .top, .top, .top, .top, .top, .top, .top, .top, .top, .top, .top, .top, .top, .top, .top, .top, .top, .top, .top, .top, .top, .top, .top, .top, .top, .top, .top, .top, .top, .top, .top, .top, .top, .top, .top, .top, .top, .top, .top, .top, .top, .top, .top, .top, .top, .top, .top, .top, .top, .top, .top, .top, .top, .top, .top, .top, .top, .top, .top, .top, .top, .top, .top, .top, .top, .top, .top, .top, .top, .top, .top, .top, .top, .top, .top, .top, .top, .top, .top, .top, .top, .top, .top, .top, .top, .top, .top, .top, .top, .top, .top, .top, .top, .top, .top, .top], [some s0, some s1, none], h⟩
theorem jacquardlaw3_Small_ec4_n (C : CallF) (L : LoopF) (G : Glo) (a1 : Int) (x7 : Cell) (a8 : Int) (a9 : Int) (a10 : Int) (a11 : Int) (x12 : Cell) (a13 : Int) (a15 : Int) (a17 : Int) (a83 : Int) (b108 : Bool) (s0 : List Cell) (s1 : List Cell) (s2 : List Cell) (h : AHeap) :
    (jacquardlaw3_Small_k14 C L G) .normal (jacquardlaw3_Small_c4 a1 x7 a8 a9 a10 a11 x12 a13 a15 a17 a83 b108 s0 s1 s2 h) =
    if b108 = true then if (splice (splice (splice (List.replicate 9 (Cell.int .i64 0)) 0 ([(.int .i64 2)] : List Cell)) 1 ([(.int .i64 a17)] : List Cell)) 2 ([(.int .i64 a15)] : List Cell)).length = 9 ∧ 0 + 9 ≤ (List.replicate 9 (Cell.int .i64 0)).length then if (splice (List.replicate 9 (Cell.int .i64 0)) 0 (splice (splice (splice (List.replicate 9 (Cell.int .i64 0)) 0 ([(.int .i64 2)] : List Cell)) 1 ([(.int .i64 a17)] : List Cell)) 2 ([(.int .i64 a15)] : List Cell))).length = 1 * 9 then appK 9 72 x12 (splice (List.replicate 9 (Cell.int .i64 0)) 0 (splice (splice (splice (List.replicate 9 (Cell.int .i64 0)) 0 ([(.int .i64 2)] : List Cell)) 1 ([(.int .i64 a17)] : List Cell)) 2 ([(.int .i64 a15)] : List Cell))) h fun x_41 h_42 => some (.normal, (jacquardlaw3_Small_s1 a1 x7 a8 a9 (G.wrap .i64 (a10 + 1)) a11 x_41 (G.wrap .i64 (a13 - 1)) s0 s1 h_42)) else none else none else if (a83 == 8) = true then if (splice (List.replicate 9 (Cell.int .i64 0)) 0 ([(.int .i64 3)] : List Cell)).length = 9 ∧ 0 + 9 ≤ (List.replicate 9 (Cell.int .i64 0)).length then if (splice (List.replicate 9 (Cell.int .i64 0)) 0 (splice (List.replicate 9 (Cell.int .i64 0)) 0 ([(.int .i64 3)] : List Cell))).length = 1 * 9 then appK 9 72 x12 (splice (List.replicate 9 (Cell.int .i64 0)) 0 (splice (List.replicate 9 (Cell.int .i64 0)) 0 ([(.int .i64 3)] : List Cell))) h fun x_43 h_44 => some (.normal, (jacquardlaw3_Small_s1 a1 x7 a8 a9 a10 a11 x_43 (G.wrap .i64 (a13 - 1)) s0 s1 h_44)) else none else none else if (a83 == 9) = true then if 0 = 0 ∧ s2.length = 2 then if s2.length = 2 ∧ 3 + 2 ≤ (splice (splice (splice (List.replicate 9 (Cell.int .i64 0)) 0 ([(.int .i64 4)] : List Cell)) 1 ([(.int .i64 a17)] : List Cell)) 2 ([(.int .i64 a15)] : List Cell)).length then if (splice (splice [Cell.int .i64 0, Cell.int .i64 0] 0 ([(.int .i64 (-1))] : List Cell)) 1 ([(.int .i64 1)] : List Cell)).length = 2 ∧ 6 + 2 ≤ (splice (splice (splice (splice (List.replicate 9 (Cell.int .i64 0)) 0 ([(.int .i64 4)] : List Cell)) 1 ([(.int .i64 a17)] : List Cell)) 2 ([(.int .i64 a15)] : List Cell)) 3 s2).length then if (splice (splice (splice (splice (splice (List.replicate 9 (Cell.int .i64 0)) 0 ([(.int .i64 4)] : List Cell)) 1 ([(.int .i64 a17)] : List Cell)) 2 ([(.int .i64 a15)] : List Cell)) 3 s2) 6 (splice (splice [Cell.int .i64 0, Cell.int .i64 0] 0 ([(.int .i64 (-1))] : List Cell)) 1 ([(.int .i64 1)] : List Cell))).length = 9 ∧ 0 + 9 ≤ (List.replicate 9 (Cell.int .i64 0)).length then if (splice (List.replicate 9 (Cell.int .i64 0)) 0 (splice (splice (splice (splice (splice (List.replicate 9 (Cell.int .i64 0)) 0 ([(.int .i64 4)] : List Cell)) 1 ([(.int .i64 a17)] : List Cell)) 2 ([(.int .i64 a15)] : List Cell)) 3 s2) 6 (splice (splice [Cell.int .i64 0, Cell.int .i64 0] 0 ([(.int .i64 (-1))] : List Cell)) 1 ([(.int .i64 1)] : List Cell)))).length = 1 * 9 then appK 9 72 x12 (splice (List.replicate 9 (Cell.int .i64 0)) 0 (splice (splice (splice (splice (splice (List.replicate 9 (Cell.int .i64 0)) 0 ([(.int .i64 4)] : List Cell)) 1 ([(.int .i64 a17)] : List Cell)) 2 ([(.int .i64 a15)] : List Cell)) 3 s2) 6 (splice (splice [Cell.int .i64 0, Cell.int .i64 0] 0 ([(.int .i64 (-1))] : List Cell)) 1 ([(.int .i64 1)] : List Cell)))) h fun x_45 h_46 => some (.normal, (jacquardlaw3_Small_s1 a1 x7 a8 a9 (G.wrap .i64 (a10 + 1)) a11 x_45 (G.wrap .i64 (a13 - 1)) s0 s1 h_46)) else none else none else none else none else none else if (a83 == 10) = true then if 0 = 0 ∧ s2.length = 2 then if s2.length = 2 ∧ 3 + 2 ≤ (splice (splice (List.replicate 9 (Cell.int .i64 0)) 0 ([(.int .i64 5)] : List Cell)) 1 ([(.int .i64 a17)] : List Cell)).length then if ([(.int .i64 6)] : List Cell).length = 1 ∧ 5 + 1 ≤ (splice (splice (splice (List.replicate 9 (Cell.int .i64 0)) 0 ([(.int .i64 5)] : List Cell)) 1 ([(.int .i64 a17)] : List Cell)) 3 s2).length then if (splice (splice [Cell.int .i64 0, Cell.int .i64 0] 0 ([(.int .i64 (-1))] : List Cell)) 1 ([(.int .i64 1)] : List Cell)).length = 2 ∧ 6 + 2 ≤ (splice (splice (splice (splice (List.replicate 9 (Cell.int .i64 0)) 0 ([(.int .i64 5)] : List Cell)) 1 ([(.int .i64 a17)] : List Cell)) 3 s2) 5 ([(.int .i64 6)] : List Cell)).length then if (splice (splice (splice (splice (splice (List.replicate 9 (Cell.int .i64 0)) 0 ([(.int .i64 5)] : List Cell)) 1 ([(.int .i64 a17)] : List Cell)) 3 s2) 5 ([(.int .i64 6)] : List Cell)) 6 (splice (splice [Cell.int .i64 0, Cell.int .i64 0] 0 ([(.int .i64 (-1))] : List Cell)) 1 ([(.int .i64 1)] : List Cell))).length = 9 ∧ 0 + 9 ≤ (List.replicate 9 (Cell.int .i64 0)).length then if (splice (List.replicate 9 (Cell.int .i64 0)) 0 (splice (splice (splice (splice (splice (List.replicate 9 (Cell.int .i64 0)) 0 ([(.int .i64 5)] : List Cell)) 1 ([(.int .i64 a17)] : List Cell)) 3 s2) 5 ([(.int .i64 6)] : List Cell)) 6 (splice (splice [Cell.int .i64 0, Cell.int .i64 0] 0 ([(.int .i64 (-1))] : List Cell)) 1 ([(.int .i64 1)] : List Cell)))).length = 1 * 9 then appK 9 72 x12 (splice (List.replicate 9 (Cell.int .i64 0)) 0 (splice (splice (splice (splice (splice (List.replicate 9 (Cell.int .i64 0)) 0 ([(.int .i64 5)] : List Cell)) 1 ([(.int .i64 a17)] : List Cell)) 3 s2) 5 ([(.int .i64 6)] : List Cell)) 6 (splice (splice [Cell.int .i64 0, Cell.int .i64 0] 0 ([(.int .i64 (-1))] : List Cell)) 1 ([(.int .i64 1)] : List Cell)))) h fun x_47 h_48 => some (.normal, (jacquardlaw3_Small_s1 a1 x7 a8 a9 a10 a11 x_47 (G.wrap .i64 (a13 - 1)) s0 s1 h_48)) else none else none else none else none else none else none else if 0 = 0 ∧ s2.length = 2 then if s2.length = 2 ∧ 3 + 2 ≤ (splice (List.replicate 9 (Cell.int .i64 0)) 0 ([(.int .i64 6)] : List Cell)).length then if (splice [Cell.int .i64 0, Cell.int .i64 0] 0 ([(.int .i64 (-1))] : List Cell)).length = 2 ∧ 6 + 2 ≤ (splice (splice (List.replicate 9 (Cell.int .i64 0)) 0 ([(.int .i64 6)] : List Cell)) 3 s2).length then if ([(.int .i64 1)] : List Cell).length = 1 ∧ 8 + 1 ≤ (splice (splice (splice (List.replicate 9 (Cell.int .i64 0)) 0 ([(.int .i64 6)] : List Cell)) 3 s2) 6 (splice [Cell.int .i64 0, Cell.int .i64 0] 0 ([(.int .i64 (-1))] : List Cell))).length then if (splice (splice [Cell.int .i64 0, Cell.int .i64 0] 0 ([(.int .i64 (-1))] : List Cell)) 1 ([(.int .i64 2)] : List Cell)).length = 2 ∧ 3 + 2 ≤ (splice (splice (List.replicate 9 (Cell.int .i64 0)) 0 ([(.int .i64 1)] : List Cell)) 2 ([(.int .i64 a15)] : List Cell)).length then if (splice (splice (splice (splice (List.replicate 9 (Cell.int .i64 0)) 0 ([(.int .i64 6)] : List Cell)) 3 s2) 6 (splice [Cell.int .i64 0, Cell.int .i64 0] 0 ([(.int .i64 (-1))] : List Cell))) 8 ([(.int .i64 1)] : List Cell)).length = 9 ∧ 0 + 9 ≤ (List.replicate 18 (Cell.int .i64 0)).length then if (splice (splice (splice (List.replicate 9 (Cell.int .i64 0)) 0 ([(.int .i64 1)] : List Cell)) 2 ([(.int .i64 a15)] : List Cell)) 3 (splice (splice [Cell.int .i64 0, Cell.int .i64 0] 0 ([(.int .i64 (-1))] : List Cell)) 1 ([(.int .i64 2)] : List Cell))).length = 9 ∧ 9 + 9 ≤ (splice (List.replicate 18 (Cell.int .i64 0)) 0 (splice (splice (splice (splice (List.replicate 9 (Cell.int .i64 0)) 0 ([(.int .i64 6)] : List Cell)) 3 s2) 6 (splice [Cell.int .i64 0, Cell.int .i64 0] 0 ([(.int .i64 (-1))] : List Cell))) 8 ([(.int .i64 1)] : List Cell))).length then if (splice (splice (List.replicate 18 (Cell.int .i64 0)) 0 (splice (splice (splice (splice (List.replicate 9 (Cell.int .i64 0)) 0 ([(.int .i64 6)] : List Cell)) 3 s2) 6 (splice [Cell.int .i64 0, Cell.int .i64 0] 0 ([(.int .i64 (-1))] : List Cell))) 8 ([(.int .i64 1)] : List Cell))) 9 (splice (splice (splice (List.replicate 9 (Cell.int .i64 0)) 0 ([(.int .i64 1)] : List Cell)) 2 ([(.int .i64 a15)] : List Cell)) 3 (splice (splice [Cell.int .i64 0, Cell.int .i64 0] 0 ([(.int .i64 (-1))] : List Cell)) 1 ([(.int .i64 2)] : List Cell)))).length = 2 * 9 then appK 9 72 x12 (splice (splice (List.replicate 18 (Cell.int .i64 0)) 0 (splice (splice (splice (splice (List.replicate 9 (Cell.int .i64 0)) 0 ([(.int .i64 6)] : List Cell)) 3 s2) 6 (splice [Cell.int .i64 0, Cell.int .i64 0] 0 ([(.int .i64 (-1))] : List Cell))) 8 ([(.int .i64 1)] : List Cell))) 9 (splice (splice (splice (List.replicate 9 (Cell.int .i64 0)) 0 ([(.int .i64 1)] : List Cell)) 2 ([(.int .i64 a15)] : List Cell)) 3 (splice (splice [Cell.int .i64 0, Cell.int .i64 0] 0 ([(.int .i64 (-1))] : List Cell)) 1 ([(.int .i64 2)] : List Cell)))) h fun x_49 h_50 => some (.normal, (jacquardlaw3_Small_s1 a1 x7 a8 a9 (G.wrap .i64 (a10 + 1)) a11 x_49 (G.wrap .i64 (a13 - 1)) s0 s1 h_50)) else none else none else none else none else none else none else none else none := by kernel_rfl
theorem jacquardlaw3_Small_ec3_n (C : CallF) (L : LoopF) (G : Glo) (a1 : Int) (x7 : Cell) (a8 : Int) (a9 : Int) (a10 : Int) (a11 : Int) (x12 : Cell) (a13 : Int) (a15 : Int) (a17 : Int) (a83 : Int) (b95 : Bool) (s0 : List Cell) (s1 : List Cell) (s2 : List Cell) (h : AHeap) :
    (jacquardlaw3_Small_k13 C L G) .normal (jacquardlaw3_Small_c3 a1 x7 a8 a9 a10 a11 x12 a13 a15 a17 a83 b95 s0 s1 s2 h) =
    if b95 = true then if 0 = 0 ∧ s2.length = 2 then if s2.length = 2 ∧ 3 + 2 ≤ (splice (splice (List.replicate 9 (Cell.int .i64 0)) 0 ([(.int .i64 1)] : List Cell)) 2 ([(.int .i64 a15)] : List Cell)).length then if (splice (splice (splice (List.replicate 9 (Cell.int .i64 0)) 0 ([(.int .i64 1)] : List Cell)) 2 ([(.int .i64 a15)] : List Cell)) 3 s2).length = 9 ∧ 0 + 9 ≤ (List.replicate 9 (Cell.int .i64 0)).length then if (splice (List.replicate 9 (Cell.int .i64 0)) 0 (splice (splice (splice (List.replicate 9 (Cell.int .i64 0)) 0 ([(.int .i64 1)] : List Cell)) 2 ([(.int .i64 a15)] : List Cell)) 3 s2)).length = 1 * 9 then appK 9 72 x12 (splice (List.replicate 9 (Cell.int .i64 0)) 0 (splice (splice (splice (List.replicate 9 (Cell.int .i64 0)) 0 ([(.int .i64 1)] : List Cell)) 2 ([(.int .i64 a15)] : List Cell)) 3 s2)) h fun x_39 h_40 => some (.normal, (jacquardlaw3_Small_s1 a1 x7 a8 a9 (G.wrap .i64 (a10 + 1)) a11 x_39 (G.wrap .i64 (a13 - 1)) s0 s1 h_40)) else none else none else none else none else (if (a83 == 4) = true then some (.normal, (jacquardlaw3_Small_c4 a1 x7 a8 a9 a10 a11 x12 a13 a15 a17 a83 (a83 == 4) s0 s1 s2 h)) else if (a83 == 5) = true then some (.normal, (jacquardlaw3_Small_c4 a1 x7 a8 a9 a10 a11 x12 a13 a15 a17 a83 (a83 == 5) s0 s1 s2 h)) else if (a83 == 6) = true then some (.normal, (jacquardlaw3_Small_c4 a1 x7 a8 a9 a10 a11 x12 a13 a15 a17 a83 (a83 == 6) s0 s1 s2 h)) else some (.normal, (jacquardlaw3_Small_c4 a1 x7 a8 a9 a10 a11 x12 a13 a15 a17 a83 (a83 == 7) s0 s1 s2 h)) : Option (Ex × St)).bind fun p_51 => (jacquardlaw3_Small_k14 C L G) p_51.1 p_51.2 := by kernel_rfl
theorem jacquardlaw3_Small_ec2_n (C : CallF) (L : LoopF) (G : Glo) (a1 : Int) (x7 : Cell) (a8 : Int) (a9 : Int) (a10 : Int) (a11 : Int) (x12 : Cell) (a13 : Int) (a14 : Int) (a15 : Int) (s0 : List Cell) (s1 : List Cell) (s2 : List Cell) (h : AHeap) :
    (jacquardlaw3_Small_k11 C L G) .normal (jacquardlaw3_Small_c2 a1 x7 a8 a9 a10 a11 x12 a13 a14 a15 s0 s1 s2 h) =
    (if ((G.rem .i64 a14 12) == 0) = true then some (.normal, (jacquardlaw3_Small_c3 a1 x7 a8 a9 a10 a11 x12 a13 a15 (G.band .i64 (G.shr .i64 a14 11) 1) (G.rem .i64 a14 12) ((G.rem .i64 a14 12) == 0) s0 s1 s2 h)) else if ((G.rem .i64 a14 12) == 1) = true then some (.normal, (jacquardlaw3_Small_c3 a1 x7 a8 a9 a10 a11 x12 a13 a15 (G.band .i64 (G.shr .i64 a14 11) 1) (G.rem .i64 a14 12) ((G.rem .i64 a14 12) == 1) s0 s1 s2 h)) else if ((G.rem .i64 a14 12) == 2) = true then some (.normal, (jacquardlaw3_Small_c3 a1 x7 a8 a9 a10 a11 x12 a13 a15 (G.band .i64 (G.shr .i64 a14 11) 1) (G.rem .i64 a14 12) ((G.rem .i64 a14 12) == 2) s0 s1 s2 h)) else some (.normal, (jacquardlaw3_Small_c3 a1 x7 a8 a9 a10 a11 x12 a13 a15 (G.band .i64 (G.shr .i64 a14 11) 1) (G.rem .i64 a14 12) ((G.rem .i64 a14 12) == 3) s0 s1 s2 h)) : Option (Ex × St)).bind fun p_52 => (jacquardlaw3_Small_k13 C L G) p_52.1 p_52.2 := by kernel_rfl
theorem jacquardlaw3_Small_r1 (C : CallF) (L : LoopF) (G : Glo) (a1 : Int) (x7 : Cell) (a8 : Int) (a9 : Int) (a10 : Int) (a11 : Int) (x12 : Cell) (a13 : Int) (s0 : List Cell) (s1 : List Cell) (h : AHeap) :
    jacquardlaw3_Small_F1 C L G (jacquardlaw3_Small_s1 a1 x7 a8 a9 a10 a11 x12 a13 s0 s1 h) =
    scK (decide (a13 > 0)) true (some ((decide (a10 < a1)), h)) false h fun b_31 h_32 => if b_31 = true then fnK x7 fun g_33 l_34 => c1 (C g_33 ([] ++ l_34) h_32) fun y_36 h_35 => asI .i64 y_36 fun n_37 => if a9 = 0 then none else let v_38 : Int := (G.wrap .i64 (120 + (G.rem .i64 (G.shr .i64 n_37 4) a9))); if 0 = 0 ∧ [Cell.int .i64 0, Cell.int .i64 0].length = 2 ∧ (splice (splice [Cell.int .i64 0, Cell.int .i64 0] 0 ([(.int .i64 (-1))] : List Cell)) 1 ([(.int .i64 (G.rem .i64 (G.shr .i64 n_37 6) 3))] : List Cell)).length = 2 then (if ((G.rem .i64 (G.shr .i64 n_37 8) 3) == 0) = true then if 0 = 0 ∧ (splice (splice [Cell.int .i64 0, Cell.int .i64 0] 0 ([(.int .i64 (-1))] : List Cell)) 1 ([(.int .i64 (G.rem .i64 (G.shr .i64 n_37 6) 3))] : List Cell)).length = 2 ∧ (splice [Cell.int .i64 0, Cell.int .i64 0] 0 ([(.int .i64 (G.band .i64 (G.shr .i64 n_37 10) 1))] : List Cell)).length = 2 then some (.normal, (jacquardlaw3_Small_c2 a1 x7 a8 a9 a10 a11 x12 a13 n_37 v_38 s0 s1 (splice [Cell.int .i64 0, Cell.int .i64 0] 0 ([(.int .i64 (G.band .i64 (G.shr .i64 n_37 10) 1))] : List Cell)) h_35)) else none else some (.normal, (jacquardlaw3_Small_c2 a1 x7 a8 a9 a10 a11 x12 a13 n_37 v_38 s0 s1 (splice (splice [Cell.int .i64 0, Cell.int .i64 0] 0 ([(.int .i64 (-1))] : List Cell)) 1 ([(.int .i64 (G.rem .i64 (G.shr .i64 n_37 6) 3))] : List Cell)) h_35)) : Option (Ex × St)).bind fun p_53 => (jacquardlaw3_Small_k11 C L G) p_53.1 p_53.2 else none else some ((.exit 2), (jacquardlaw3_Small_x1_3 a1 x7 a8 a9 a10 a11 x12 s0 s1 h_32)) := by kernel_rfl
theorem jacquardlaw3_Small_e1_3 (C : CallF) (L : LoopF) (G : Glo) (a1 : Int) (x7 : Cell) (a8 : Int) (a9 : Int) (a10 : Int) (a11 : Int) (x12 : Cell) (s0 : List Cell) (s1 : List Cell) (h : AHeap) :
    (jacquardlaw3_Small_k8 C L G) (.exit 2) (jacquardlaw3_Small_x1_3 a1 x7 a8 a9 a10 a11 x12 s0 s1 h) =
    atK s1 2 fun q_54 => if (splice [Cell.nils] 0 ([x12] : List Cell)).length = 1 * 1 then appK 1 24 q_54 (splice [Cell.nils] 0 ([x12] : List Cell)) h fun x_55 h_56 => if 2 < s1.length then some (.normal, (jacquardlaw3_Small_s2 a1 x7 a8 a9 a10 (G.wrap .i64 (a11 + 1)) s0 (s1.set 2 x_55) h_56)) else none else none := by kernel_rfl
theorem jacquardlaw3_Small_r2 (C : CallF) (L : LoopF) (G : Glo) (a1 : Int) (x7 : Cell) (a8 : Int) (a9 : Int) (a10 : Int) (a11 : Int) (s0 : List Cell) (s1 : List Cell) (h : AHeap) :
    jacquardlaw3_Small_F2 C L G (jacquardlaw3_Small_s2 a1 x7 a8 a9 a10 a11 s0 s1 h) =
    if (decide (a11 < a8)) = true then fnK x7 fun g_26 l_27 => c1 (C g_26 ([] ++ l_27) h) fun y_29 h_28 => asI .i64 y_29 fun n_30 => (L (jacquardlaw3_Small_F1 C L G) (jacquardlaw3_Small_s1 a1 x7 a8 a9 a10 a11 .nils (G.wrap .i64 ((G.rem .i64 n_30 3) + 1)) s0 s1 h_28)).bind fun p_57 => (jacquardlaw3_Small_k8 C L G) p_57.1 p_57.2 else some ((.exit 0), (jacquardlaw3_Small_x2_1 x7 s0 s1 h)) := by kernel_rfl
theorem jacquardlaw3_Small_e2_1 (C : CallF) (L : LoopF) (G : Glo) (h0 : AHeap) (x7 : Cell) (s0 : List Cell) (s1 : List Cell) (h : AHeap) :
    (jacquardlaw3_Small_k4 C L G h0) (.exit 0) (jacquardlaw3_Small_x2_1 x7 s0 s1 h) =
    fnK x7 fun g_58 l_59 => c1 (C g_58 ([] ++ l_59) h) fun y_61 h_60 => asI .i64 y_61 fun n_62 => if ((G.rem .i64 n_62 3) == 0) = true then let v_63 : Int := (G.wrap .i64 ((G.rem .i64 (G.quo .i64 n_62 3) 2) + 1)); if (splice (splice (splice [Cell.int .i64 0, Cell.int .i64 0, Cell.int .i64 0, Cell.int .i64 0] 0 ([(.int .i64 0)] : List Cell)) 1 ([(.int .i64 (G.band .i64 (G.shr .i64 n_62 3) 1))] : List Cell)) 3 ([(.int .i64 (G.band .i64 (G.shr .i64 n_62 4) 1))] : List Cell)).length = 4 ∧ 0 + 4 ≤ [Cell.int .i64 0, Cell.int .i64 0, Cell.int .i64 0, Cell.int .i64 0].length then if (splice [Cell.int .i64 0, Cell.int .i64 0, Cell.int .i64 0, Cell.int .i64 0] 0 (splice (splice (splice [Cell.int .i64 0, Cell.int .i64 0, Cell.int .i64 0, Cell.int .i64 0] 0 ([(.int .i64 0)] : List Cell)) 1 ([(.int .i64 (G.band .i64 (G.shr .i64 n_62 3) 1))] : List Cell)) 3 ([(.int .i64 (G.band .i64 (G.shr .i64 n_62 4) 1))] : List Cell))).length = 1 * 4 then if (splice (splice (splice [Cell.int .i64 0, Cell.int .i64 0, Cell.int .i64 0, Cell.int .i64 0] 0 ([(.int .i64 (-1))] : List Cell)) 2 ([(.int .i64 120)] : List Cell)) 3 ([(.int .i64 (G.rem .i64 (G.shr .i64 n_62 5) 3))] : List Cell)).length = 4 ∧ 0 + 4 ≤ (List.replicate 8 (Cell.int .i64 0)).length then if (splice (splice (splice [Cell.int .i64 0, Cell.int .i64 0, Cell.int .i64 0, Cell.int .i64 0] 0 ([(.int .i64 1)] : List Cell)) 1 ([(.int .i64 0)] : List Cell)) 3 ([(.int .i64 (G.band .i64 (G.shr .i64 n_62 7) 1))] : List Cell)).length = 4 ∧ 4 + 4 ≤ (splice (List.replicate 8 (Cell.int .i64 0)) 0 (splice (splice (splice [Cell.int .i64 0, Cell.int .i64 0, Cell.int .i64 0, Cell.int .i64 0] 0 ([(.int .i64 (-1))] : List Cell)) 2 ([(.int .i64 120)] : List Cell)) 3 ([(.int .i64 (G.rem .i64 (G.shr .i64 n_62 5) 3))] : List Cell))).length then if (splice (splice (List.replicate 8 (Cell.int .i64 0)) 0 (splice (splice (splice [Cell.int .i64 0, Cell.int .i64 0, Cell.int .i64 0, Cell.int .i64 0] 0 ([(.int .i64 (-1))] : List Cell)) 2 ([(.int .i64 120)] : List Cell)) 3 ([(.int .i64 (G.rem .i64 (G.shr .i64 n_62 5) 3))] : List Cell))) 4 (splice (splice (splice [Cell.int .i64 0, Cell.int .i64 0, Cell.int .i64 0, Cell.int .i64 0] 0 ([(.int .i64 1)] : List Cell)) 1 ([(.int .i64 0)] : List Cell)) 3 ([(.int .i64 (G.band .i64 (G.shr .i64 n_62 7) 1))] : List Cell))).length = 2 * 4 then if (splice (splice [Cell.nils, Cell.nils] 0 ([(.sl h_60.length ((splice [Cell.int .i64 0, Cell.int .i64 0, Cell.int .i64 0, Cell.int .i64 0] 0 (splice (splice (splice [Cell.int .i64 0, Cell.int .i64 0, Cell.int .i64 0, Cell.int .i64 0] 0 ([(.int .i64 0)] : List Cell)) 1 ([(.int .i64 (G.band .i64 (G.shr .i64 n_62 3) 1))] : List Cell)) 3 ([(.int .i64 (G.band .i64 (G.shr .i64 n_62 4) 1))] : List Cell))).length) 0 1)] : List Cell)) 1 ([(.sl ((h_60 ++ [some (Blk.mk true 4 (splice [Cell.int .i64 0, Cell.int .i64 0, Cell.int .i64 0, Cell.int .i64 0] 0 (splice (splice (splice [Cell.int .i64 0, Cell.int .i64 0, Cell.int .i64 0, Cell.int .i64 0] 0 ([(.int .i64 0)] : List Cell)) 1 ([(.int .i64 (G.band .i64 (G.shr .i64 n_62 3) 1))] : List Cell)) 3 ([(.int .i64 (G.band .i64 (G.shr .i64 n_62 4) 1))] : List Cell))))]).length) ((splice (splice (List.replicate 8 (Cell.int .i64 0)) 0 (splice (splice (splice [Cell.int .i64 0, Cell.int .i64 0, Cell.int .i64 0, Cell.int .i64 0] 0 ([(.int .i64 (-1))] : List Cell)) 2 ([(.int .i64 120)] : List Cell)) 3 ([(.int .i64 (G.rem .i64 (G.shr .i64 n_62 5) 3))] : List Cell))) 4 (splice (splice (splice [Cell.int .i64 0, Cell.int .i64 0, Cell.int .i64 0, Cell.int .i64 0] 0 ([(.int .i64 1)] : List Cell)) 1 ([(.int .i64 0)] : List Cell)) 3 ([(.int .i64 (G.band .i64 (G.shr .i64 n_62 7) 1))] : List Cell))).length) 0 2)] : List Cell)).length = 2 * 1 then if 3 + 2 ≤ s1.length ∧ (splice (splice [Cell.int .i64 0, Cell.nils] 0 ([(.int .i64 v_63)] : List Cell)) 1 ([(.sl (((h_60 ++ [some (Blk.mk true 4 (splice [Cell.int .i64 0, Cell.int .i64 0, Cell.int .i64 0, Cell.int .i64 0] 0 (splice (splice (splice [Cell.int .i64 0, Cell.int .i64 0, Cell.int .i64 0, Cell.int .i64 0] 0 ([(.int .i64 0)] : List Cell)) 1 ([(.int .i64 (G.band .i64 (G.shr .i64 n_62 3) 1))] : List Cell)) 3 ([(.int .i64 (G.band .i64 (G.shr .i64 n_62 4) 1))] : List Cell))))]) ++ [some (Blk.mk true 4 (splice (splice (List.replicate 8 (Cell.int .i64 0)) 0 (splice (splice (splice [Cell.int .i64 0, Cell.int .i64 0, Cell.int .i64 0, Cell.int .i64 0] 0 ([(.int .i64 (-1))] : List Cell)) 2 ([(.int .i64 120)] : List Cell)) 3 ([(.int .i64 (G.rem .i64 (G.shr .i64 n_62 5) 3))] : List Cell))) 4 (splice (splice (splice [Cell.int .i64 0, Cell.int .i64 0, Cell.int .i64 0, Cell.int .i64 0] 0 ([(.int .i64 1)] : List Cell)) 1 ([(.int .i64 0)] : List Cell)) 3 ([(.int .i64 (G.band .i64 (G.shr .i64 n_62 7) 1))] : List Cell))))]).length) ((splice (splice [Cell.nils, Cell.nils] 0 ([(.sl h_60.length ((splice [Cell.int .i64 0, Cell.int .i64 0, Cell.int .i64 0, Cell.int .i64 0] 0 (splice (splice (splice [Cell.int .i64 0, Cell.int .i64 0, Cell.int .i64 0, Cell.int .i64 0] 0 ([(.int .i64 0)] : List Cell)) 1 ([(.int .i64 (G.band .i64 (G.shr .i64 n_62 3) 1))] : List Cell)) 3 ([(.int .i64 (G.band .i64 (G.shr .i64 n_62 4) 1))] : List Cell))).length) 0 1)] : List Cell)) 1 ([(.sl ((h_60 ++ [some (Blk.mk true 4 (splice [Cell.int .i64 0, Cell.int .i64 0, Cell.int .i64 0, Cell.int .i64 0] 0 (splice (splice (splice [Cell.int .i64 0, Cell.int .i64 0, Cell.int .i64 0, Cell.int .i64 0] 0 ([(.int .i64 0)] : List Cell)) 1 ([(.int .i64 (G.band .i64 (G.shr .i64 n_62 3) 1))] : List Cell)) 3 ([(.int .i64 (G.band .i64 (G.shr .i64 n_62 4) 1))] : List Cell))))]).length) ((splice (splice (List.replicate 8 (Cell.int .i64 0)) 0 (splice (splice (splice [Cell.int .i64 0, Cell.int .i64 0, Cell.int .i64 0, Cell.int .i64 0] 0 ([(.int .i64 (-1))] : List Cell)) 2 ([(.int .i64 120)] : List Cell)) 3 ([(.int .i64 (G.rem .i64 (G.shr .i64 n_62 5) 3))] : List Cell))) 4 (splice (splice (splice [Cell.int .i64 0, Cell.int .i64 0, Cell.int .i64 0, Cell.int .i64 0] 0 ([(.int .i64 1)] : List Cell)) 1 ([(.int .i64 0)] : List Cell)) 3 ([(.int .i64 (G.band .i64 (G.shr .i64 n_62 7) 1))] : List Cell))).length) 0 2)] : List Cell)).length) 0 2)] : List Cell)).length = 2 then if 0 = 0 ∧ (splice s1 3 (splice (splice [Cell.int .i64 0, Cell.nils] 0 ([(.int .i64 v_63)] : List Cell)) 1 ([(.sl (((h_60 ++ [some (Blk.mk true 4 (splice [Cell.int .i64 0, Cell.int .i64 0, Cell.int .i64 0, Cell.int .i64 0] 0 (splice (splice (splice [Cell.int .i64 0, Cell.int .i64 0, Cell.int .i64 0, Cell.int .i64 0] 0 ([(.int .i64 0)] : List Cell)) 1 ([(.int .i64 (G.band .i64 (G.shr .i64 n_62 3) 1))] : List Cell)) 3 ([(.int .i64 (G.band .i64 (G.shr .i64 n_62 4) 1))] : List Cell))))]) ++ [some (Blk.mk true 4 (splice (splice (List.replicate 8 (Cell.int .i64 0)) 0 (splice (splice (splice [Cell.int .i64 0, Cell.int .i64 0, Cell.int .i64 0, Cell.int .i64 0] 0 ([(.int .i64 (-1))] : List Cell)) 2 ([(.int .i64 120)] : List Cell)) 3 ([(.int .i64 (G.rem .i64 (G.shr .i64 n_62 5) 3))] : List Cell))) 4 (splice (splice (splice [Cell.int .i64 0, Cell.int .i64 0, Cell.int .i64 0, Cell.int .i64 0] 0 ([(.int .i64 1)] : List Cell)) 1 ([(.int .i64 0)] : List Cell)) 3 ([(.int .i64 (G.band .i64 (G.shr .i64 n_62 7) 1))] : List Cell))))]).length) ((splice (splice [Cell.nils, Cell.nils] 0 ([(.sl h_60.length ((splice [Cell.int .i64 0, Cell.int .i64 0, Cell.int .i64 0, Cell.int .i64 0] 0 (splice (splice (splice [Cell.int .i64 0, Cell.int .i64 0, Cell.int .i64 0, Cell.int .i64 0] 0 ([(.int .i64 0)] : List Cell)) 1 ([(.int .i64 (G.band .i64 (G.shr .i64 n_62 3) 1))] : List Cell)) 3 ([(.int .i64 (G.band .i64 (G.shr .i64 n_62 4) 1))] : List Cell))).length) 0 1)] : List Cell)) 1 ([(.sl ((h_60 ++ [some (Blk.mk true 4 (splice [Cell.int .i64 0, Cell.int .i64 0, Cell.int .i64 0, Cell.int .i64 0] 0 (splice (splice (splice [Cell.int .i64 0, Cell.int .i64 0, Cell.int .i64 0, Cell.int .i64 0] 0 ([(.int .i64 0)] : List Cell)) 1 ([(.int .i64 (G.band .i64 (G.shr .i64 n_62 3) 1))] : List Cell)) 3 ([(.int .i64 (G.band .i64 (G.shr .i64 n_62 4) 1))] : List Cell))))]).length) ((splice (splice (List.replicate 8 (Cell.int .i64 0)) 0 (splice (splice (splice [Cell.int .i64 0, Cell.int .i64 0, Cell.int .i64 0, Cell.int .i64 0] 0 ([(.int .i64 (-1))] : List Cell)) 2 ([(.int .i64 120)] : List Cell)) 3 ([(.int .i64 (G.rem .i64 (G.shr .i64 n_62 5) 3))] : List Cell))) 4 (splice (splice (splice [Cell.int .i64 0, Cell.int .i64 0, Cell.int .i64 0, Cell.int .i64 0] 0 ([(.int .i64 1)] : List Cell)) 1 ([(.int .i64 0)] : List Cell)) 3 ([(.int .i64 (G.band .i64 (G.shr .i64 n_62 7) 1))] : List Cell))).length) 0 2)] : List Cell)).length) 0 2)] : List Cell))).length = 5 then if 0 = 0 ∧ s0.length = 5 ∧ (splice s1 3 (splice (splice [Cell.int .i64 0, Cell.nils] 0 ([(.int .i64 v_63)] : List Cell)) 1 ([(.sl (((h_60 ++ [some (Blk.mk true 4 (splice [Cell.int .i64 0, Cell.int .i64 0, Cell.int .i64 0, Cell.int .i64 0] 0 (splice (splice (splice [Cell.int .i64 0, Cell.int .i64 0, Cell.int .i64 0, Cell.int .i64 0] 0 ([(.int .i64 0)] : List Cell)) 1 ([(.int .i64 (G.band .i64 (G.shr .i64 n_62 3) 1))] : List Cell)) 3 ([(.int .i64 (G.band .i64 (G.shr .i64 n_62 4) 1))] : List Cell))))]) ++ [some (Blk.mk true 4 (splice (splice (List.replicate 8 (Cell.int .i64 0)) 0 (splice (splice (splice [Cell.int .i64 0, Cell.int .i64 0, Cell.int .i64 0, Cell.int .i64 0] 0 ([(.int .i64 (-1))] : List Cell)) 2 ([(.int .i64 120)] : List Cell)) 3 ([(.int .i64 (G.rem .i64 (G.shr .i64 n_62 5) 3))] : List Cell))) 4 (splice (splice (splice [Cell.int .i64 0, Cell.int .i64 0, Cell.int .i64 0, Cell.int .i64 0] 0 ([(.int .i64 1)] : List Cell)) 1 ([(.int .i64 0)] : List Cell)) 3 ([(.int .i64 (G.band .i64 (G.shr .i64 n_62 7) 1))] : List Cell))))]).length) ((splice (splice [Cell.nils, Cell.nils] 0 ([(.sl h_60.length ((splice [Cell.int .i64 0, Cell.int .i64 0, Cell.int .i64 0, Cell.int .i64 0] 0 (splice (splice (splice [Cell.int .i64 0, Cell.int .i64 0, Cell.int .i64 0, Cell.int .i64 0] 0 ([(.int .i64 0)] : List Cell)) 1 ([(.int .i64 (G.band .i64 (G.shr .i64 n_62 3) 1))] : List Cell)) 3 ([(.int .i64 (G.band .i64 (G.shr .i64 n_62 4) 1))] : List Cell))).length) 0 1)] : List Cell)) 1 ([(.sl ((h_60 ++ [some (Blk.mk true 4 (splice [Cell.int .i64 0, Cell.int .i64 0, Cell.int .i64 0, Cell.int .i64 0] 0 (splice (splice (splice [Cell.int .i64 0, Cell.int .i64 0, Cell.int .i64 0, Cell.int .i64 0] 0 ([(.int .i64 0)] : List Cell)) 1 ([(.int .i64 (G.band .i64 (G.shr .i64 n_62 3) 1))] : List Cell)) 3 ([(.int .i64 (G.band .i64 (G.shr .i64 n_62 4) 1))] : List Cell))))]).length) ((splice (splice (List.replicate 8 (Cell.int .i64 0)) 0 (splice (splice (splice [Cell.int .i64 0, Cell.int .i64 0, Cell.int .i64 0, Cell.int .i64 0] 0 ([(.int .i64 (-1))] : List Cell)) 2 ([(.int .i64 120)] : List Cell)) 3 ([(.int .i64 (G.rem .i64 (G.shr .i64 n_62 5) 3))] : List Cell))) 4 (splice (splice (splice [Cell.int .i64 0, Cell.int .i64 0, Cell.int .i64 0, Cell.int .i64 0] 0 ([(.int .i64 1)] : List Cell)) 1 ([(.int .i64 0)] : List Cell)) 3 ([(.int .i64 (G.band .i64 (G.shr .i64 n_62 7) 1))] : List Cell))).length) 0 2)] : List Cell)).length) 0 2)] : List Cell))).length = 5 then if 0 = 0 ∧ (splice s1 3 (splice (splice [Cell.int .i64 0, Cell.nils] 0 ([(.int .i64 v_63)] : List Cell)) 1 ([(.sl (((h_60 ++ [some (Blk.mk true 4 (splice [Cell.int .i64 0, Cell.int .i64 0, Cell.int .i64 0, Cell.int .i64 0] 0 (splice (splice (splice [Cell.int .i64 0, Cell.int .i64 0, Cell.int .i64 0, Cell.int .i64 0] 0 ([(.int .i64 0)] : List Cell)) 1 ([(.int .i64 (G.band .i64 (G.shr .i64 n_62 3) 1))] : List Cell)) 3 ([(.int .i64 (G.band .i64 (G.shr .i64 n_62 4) 1))] : List Cell))))]) ++ [some (Blk.mk true 4 (splice (splice (List.replicate 8 (Cell.int .i64 0)) 0 (splice (splice (splice [Cell.int .i64 0, Cell.int .i64 0, Cell.int .i64 0, Cell.int .i64 0] 0 ([(.int .i64 (-1))] : List Cell)) 2 ([(.int .i64 120)] : List Cell)) 3 ([(.int .i64 (G.rem .i64 (G.shr .i64 n_62 5) 3))] : List Cell))) 4 (splice (splice (splice [Cell.int .i64 0, Cell.int .i64 0, Cell.int .i64 0, Cell.int .i64 0] 0 ([(.int .i64 1)] : List Cell)) 1 ([(.int .i64 0)] : List Cell)) 3 ([(.int .i64 (G.band .i64 (G.shr .i64 n_62 7) 1))] : List Cell))))]).length) ((splice (splice [Cell.nils, Cell.nils] 0 ([(.sl h_60.length ((splice [Cell.int .i64 0, Cell.int .i64 0, Cell.int .i64 0, Cell.int .i64 0] 0 (splice (splice (splice [Cell.int .i64 0, Cell.int .i64 0, Cell.int .i64 0, Cell.int .i64 0] 0 ([(.int .i64 0)] : List Cell)) 1 ([(.int .i64 (G.band .i64 (G.shr .i64 n_62 3) 1))] : List Cell)) 3 ([(.int .i64 (G.band .i64 (G.shr .i64 n_62 4) 1))] : List Cell))).length) 0 1)] : List Cell)) 1 ([(.sl ((h_60 ++ [some (Blk.mk true 4 (splice [Cell.int .i64 0, Cell.int .i64 0, Cell.int .i64 0, Cell.int .i64 0] 0 (splice (splice (splice [Cell.int .i64 0, Cell.int .i64 0, Cell.int .i64 0, Cell.int .i64 0] 0 ([(.int .i64 0)] : List Cell)) 1 ([(.int .i64 (G.band .i64 (G.shr .i64 n_62 3) 1))] : List Cell)) 3 ([(.int .i64 (G.band .i64 (G.shr .i64 n_62 4) 1))] : List Cell))))]).length) ((splice (splice (List.replicate 8 (Cell.int .i64 0)) 0 (splice (splice (splice [Cell.int .i64 0, Cell.int .i64 0, Cell.int .i64 0, Cell.int .i64 0] 0 ([(.int .i64 (-1))] : List Cell)) 2 ([(.int .i64 120)] : List Cell)) 3 ([(.int .i64 (G.rem .i64 (G.shr .i64 n_62 5) 3))] : List Cell))) 4 (splice (splice (splice [Cell.int .i64 0, Cell.int .i64 0, Cell.int .i64 0, Cell.int .i64 0] 0 ([(.int .i64 1)] : List Cell)) 1 ([(.int .i64 0)] : List Cell)) 3 ([(.int .i64 (G.band .i64 (G.shr .i64 n_62 7) 1))] : List Cell))).length) 0 2)] : List Cell)).length) 0 2)] : List Cell))).length = 5 then some ([(.agg (splice s1 3 (splice (splice [Cell.int .i64 0, Cell.nils] 0 ([(.int .i64 v_63)] : List Cell)) 1 ([(.sl (((h_60 ++ [some (Blk.mk true 4 (splice [Cell.int .i64 0, Cell.int .i64 0, Cell.int .i64 0, Cell.int .i64 0] 0 (splice (splice (splice [Cell.int .i64 0, Cell.int .i64 0, Cell.int .i64 0, Cell.int .i64 0] 0 ([(.int .i64 0)] : List Cell)) 1 ([(.int .i64 (G.band .i64 (G.shr .i64 n_62 3) 1))] : List Cell)) 3 ([(.int .i64 (G.band .i64 (G.shr .i64 n_62 4) 1))] : List Cell))))]) ++ [some (Blk.mk true 4 (splice (splice (List.replicate 8 (Cell.int .i64 0)) 0 (splice (splice (splice [Cell.int .i64 0, Cell.int .i64 0, Cell.int .i64 0, Cell.int .i64 0] 0 ([(.int .i64 (-1))] : List Cell)) 2 ([(.int .i64 120)] : List Cell)) 3 ([(.int .i64 (G.rem .i64 (G.shr .i64 n_62 5) 3))] : List Cell))) 4 (splice (splice (splice [Cell.int .i64 0, Cell.int .i64 0, Cell.int .i64 0, Cell.int .i64 0] 0 ([(.int .i64 1)] : List Cell)) 1 ([(.int .i64 0)] : List Cell)) 3 ([(.int .i64 (G.band .i64 (G.shr .i64 n_62 7) 1))] : List Cell))))]).length) ((splice (splice [Cell.nils, Cell.nils] 0 ([(.sl h_60.length ((splice [Cell.int .i64 0, Cell.int .i64 0, Cell.int .i64 0, Cell.int .i64 0] 0 (splice (splice (splice [Cell.int .i64 0, Cell.int .i64 0, Cell.int .i64 0, Cell.int .i64 0] 0 ([(.int .i64 0)] : List Cell)) 1 ([(.int .i64 (G.band .i64 (G.shr .i64 n_62 3) 1))] : List Cell)) 3 ([(.int .i64 (G.band .i64 (G.shr .i64 n_62 4) 1))] : List Cell))).length) 0 1)] : List Cell)) 1 ([(.sl ((h_60 ++ [some (Blk.mk true 4 (splice [Cell.int .i64 0, Cell.int .i64 0, Cell.int .i64 0, Cell.int .i64 0] 0 (splice (splice (splice [Cell.int .i64 0, Cell.int .i64 0, Cell.int .i64 0, Cell.int .i64 0] 0 ([(.int .i64 0)] : List Cell)) 1 ([(.int .i64 (G.band .i64 (G.shr .i64 n_62 3) 1))] : List Cell)) 3 ([(.int .i64 (G.band .i64 (G.shr .i64 n_62 4) 1))] : List Cell))))]).length) ((splice (splice (List.replicate 8 (Cell.int .i64 0)) 0 (splice (splice (splice [Cell.int .i64 0, Cell.int .i64 0, Cell.int .i64 0, Cell.int .i64 0] 0 ([(.int .i64 (-1))] : List Cell)) 2 ([(.int .i64 120)] : List Cell)) 3 ([(.int .i64 (G.rem .i64 (G.shr .i64 n_62 5) 3))] : List Cell))) 4 (splice (splice (splice [Cell.int .i64 0, Cell.int .i64 0, Cell.int .i64 0, Cell.int .i64 0] 0 ([(.int .i64 1)] : List Cell)) 1 ([(.int .i64 0)] : List Cell)) 3 ([(.int .i64 (G.band .i64 (G.shr .i64 n_62 7) 1))] : List Cell))).length) 0 2)] : List Cell)).length) 0 2)] : List Cell))))], (((h_60 ++ [some (Blk.mk true 4 (splice [Cell.int .i64 0, Cell.int .i64 0, Cell.int .i64 0, Cell.int .i64 0] 0 (splice (splice (splice [Cell.int .i64 0, Cell.int .i64 0, Cell.int .i64 0, Cell.int .i64 0] 0 ([(.int .i64 0)] : List Cell)) 1 ([(.int .i64 (G.band .i64 (G.shr .i64 n_62 3) 1))] : List Cell)) 3 ([(.int .i64 (G.band .i64 (G.shr .i64 n_62 4) 1))] : List Cell))))]) ++ [some (Blk.mk true 4 (splice (splice (List.replicate 8 (Cell.int .i64 0)) 0 (splice (splice (splice [Cell.int .i64 0, Cell.int .i64 0, Cell.int .i64 0, Cell.int .i64 0] 0 ([(.int .i64 (-1))] : List Cell)) 2 ([(.int .i64 120)] : List Cell)) 3 ([(.int .i64 (G.rem .i64 (G.shr .i64 n_62 5) 3))] : List Cell))) 4 (splice (splice (splice [Cell.int .i64 0, Cell.int .i64 0, Cell.int .i64 0, Cell.int .i64 0] 0 ([(.int .i64 1)] : List Cell)) 1 ([(.int .i64 0)] : List Cell)) 3 ([(.int .i64 (G.band .i64 (G.shr .i64 n_62 7) 1))] : List Cell))))]) ++ [some (Blk.mk true 1 (splice (splice [Cell.nils, Cell.nils] 0 ([(.sl h_60.length ((splice [Cell.int .i64 0, Cell.int .i64 0, Cell.int .i64 0, Cell.int .i64 0] 0 (splice (splice (splice [Cell.int .i64 0, Cell.int .i64 0, Cell.int .i64 0, Cell.int .i64 0] 0 ([(.int .i64 0)] : List Cell)) 1 ([(.int .i64 (G.band .i64 (G.shr .i64 n_62 3) 1))] : List Cell)) 3 ([(.int .i64 (G.band .i64 (G.shr .i64 n_62 4) 1))] : List Cell))).length) 0 1)] : List Cell)) 1 ([(.sl ((h_60 ++ [some (Blk.mk true 4 (splice [Cell.int .i64 0, Cell.int .i64 0, Cell.int .i64 0, Cell.int .i64 0] 0 (splice (splice (splice [Cell.int .i64 0, Cell.int .i64 0, Cell.int .i64 0, Cell.int .i64 0] 0 ([(.int .i64 0)] : List Cell)) 1 ([(.int .i64 (G.band .i64 (G.shr .i64 n_62 3) 1))] : List Cell)) 3 ([(.int .i64 (G.band .i64 (G.shr .i64 n_62 4) 1))] : List Cell))))]).length) ((splice (splice (List.replicate 8 (Cell.int .i64 0)) 0 (splice (splice (splice [Cell.int .i64 0, Cell.int .i64 0, Cell.int .i64 0, Cell.int .i64 0] 0 ([(.int .i64 (-1))] : List Cell)) 2 ([(.int .i64 120)] : List Cell)) 3 ([(.int .i64 (G.rem .i64 (G.shr .i64 n_62 5) 3))] : List Cell))) 4 (splice (splice (splice [Cell.int .i64 0, Cell.int .i64 0, Cell.int .i64 0, Cell.int .i64 0] 0 ([(.int .i64 1)] : List Cell)) 1 ([(.int .i64 0)] : List Cell)) 3 ([(.int .i64 (G.band .i64 (G.shr .i64 n_62 7) 1))] : List Cell))).length) 0 2)] : List Cell)))])) else none else none else none else none else none else none else none else none else none else none else if 0 = 0 ∧ s1.length = 5 then if 0 = 0 ∧ s0.length = 5 ∧ s1.length = 5 then if 0 = 0 ∧ s1.length = 5 then some ([(.agg s1)], h_60) else none else none else none := by kernel_rfl
theorem jacquardlaw3_Small_ec1_n (C : CallF) (L : LoopF) (G : Glo) (h0 : AHeap) (a1 : Int) (x7 : Cell) (a8 : Int) (a9 : Int) (s0 : List Cell) (s1 : List Cell) (h : AHeap) :
    (jacquardlaw3_Small_k2 C L G h0) .normal (jacquardlaw3_Small_c1 a1 x7 a8 a9 s0 s1 h) =
    (L (jacquardlaw3_Small_F2 C L G) (jacquardlaw3_Small_s2 a1 x7 a8 a9 0 0 s0 s1 h)).bind fun p_64 => (jacquardlaw3_Small_k4 C L G h0) p_64.1 p_64.2 := by kernel_rfl
set_option maxRecDepth 100000 in
theorem jacquardlaw3_Small_eq (C : CallF) (L : LoopF) (G : Glo) (x0 : Cell) (a1 : Int) (h0 : AHeap) :
    jacquardlaw3_Small.body C L G [(.c x0), (.c (.int .i64 a1))] h0 =
    if 0 = 0 ∧ [Cell.str (ByteArray.mk #[]), Cell.nils, Cell.nils, Cell.int .i64 0, Cell.nils].length = 5 ∧ (splice [Cell.str (ByteArray.mk #[]), Cell.nils, Cell.nils, Cell.int .i64 0, Cell.nils] 0 ([(.str (ByteArray.mk #[116]))] : List Cell)).length = 5 then rdH ((h0 ++ [some (Blk.mk true 0 (AV.cells (.c x0)))]) ++ [some (Blk.mk true 0 ([Cell.int .i64 0]))]) ((h0 ++ [some (Blk.mk true 0 (AV.cells (.c x0)))]).length) (([Cell.int .i64 0]).length) fun l_1 => if 0 < l_1.length then putH ((h0 ++ [some (Blk.mk true 0 (AV.cells (.c x0)))]) ++ [some (Blk.mk true 0 ([Cell.int .i64 0]))]) ((h0 ++ [some (Blk.mk true 0 (AV.cells (.c x0)))]).length) (l_1.set 0 (.int .i64 0)) fun h_2 => fnK (.fn 115 [((h0 ++ [some (Blk.mk true 0 (AV.cells (.c x0)))]).length, ([Cell.int .i64 0]).length, 0), (h0.length, (AV.cells (.c x0)).length, 0)]) fun g_3 l_4 => c1 (C g_3 ([] ++ l_4) h_2) fun y_6 h_5 => asI .i64 y_6 fun n_7 => fnK (.fn 115 [((h0 ++ [some (Blk.mk true 0 (AV.cells (.c x0)))]).length, ([Cell.int .i64 0]).length, 0), (h0.length, (AV.cells (.c x0)).length, 0)]) fun g_8 l_9 => c1 (C g_8 ([] ++ l_9) h_5) fun y_11 h_10 => asI .i64 y_11 fun n_12 => (fnK (.fn 115 [((h0 ++ [some (Blk.mk true 0 (AV.cells (.c x0)))]).length, ([Cell.int .i64 0]).length, 0), (h0.length, (AV.cells (.c x0)).length, 0)]) fun g_13 l_14 => c1 (C g_13 ([] ++ l_14) h_10) fun y_16 h_15 => asI .i64 y_16 fun n_17 => if ((G.rem .i64 n_17 4) == 0) = true then atK (splice [Cell.str (ByteArray.mk #[]), Cell.nils, Cell.nils, Cell.int .i64 0, Cell.nils] 0 ([(.str (ByteArray.mk #[116]))] : List Cell)) 1 fun q_18 => fnK (.fn 115 [((h0 ++ [some (Blk.mk true 0 (AV.cells (.c x0)))]).length, ([Cell.int .i64 0]).length, 0), (h0.length, (AV.cells (.c x0)).length, 0)]) fun g_19 l_20 => c1 (C g_19 ([] ++ l_20) h_15) fun y_22 h_21 => asI .i64 y_22 fun n_23 => if (splice (splice [Cell.int .i64 0, Cell.int .i64 0] 0 ([(.int .i64 120)] : List Cell)) 1 ([(.int .i64 (G.rem .i64 n_23 3))] : List Cell)).length = 2 ∧ 0 + 2 ≤ [Cell.int .i64 0, Cell.int .i64 0].length then if (splice [Cell.int .i64 0, Cell.int .i64 0] 0 (splice (splice [Cell.int .i64 0, Cell.int .i64 0] 0 ([(.int .i64 120)] : List Cell)) 1 ([(.int .i64 (G.rem .i64 n_23 3))] : List Cell))).length = 1 * 2 then appK 2 16 q_18 (splice [Cell.int .i64 0, Cell.int .i64 0] 0 (splice (splice [Cell.int .i64 0, Cell.int .i64 0] 0 ([(.int .i64 120)] : List Cell)) 1 ([(.int .i64 (G.rem .i64 n_23 3))] : List Cell))) h_21 fun x_24 h_25 => if 1 < (splice [Cell.str (ByteArray.mk #[]), Cell.nils, Cell.nils, Cell.int .i64 0, Cell.nils] 0 ([(.str (ByteArray.mk #[116]))] : List Cell)).length then some (.normal, (jacquardlaw3_Small_c1 a1 (.fn 115 [((h0 ++ [some (Blk.mk true 0 (AV.cells (.c x0)))]).length, ([Cell.int .i64 0]).length, 0), (h0.length, (AV.cells (.c x0)).length, 0)]) (G.wrap .i64 ((G.rem .i64 n_7 2) + 2)) (G.wrap .i64 ((G.rem .i64 n_12 2) + 2)) [Cell.str (ByteArray.mk #[]), Cell.nils, Cell.nils, Cell.int .i64 0, Cell.nils] ((splice [Cell.str (ByteArray.mk #[]), Cell.nils, Cell.nils, Cell.int .i64 0, Cell.nils] 0 ([(.str (ByteArray.mk #[116]))] : List Cell)).set 1 x_24) h_25)) else none else none else none else some (.normal, (jacquardlaw3_Small_c1 a1 (.fn 115 [((h0 ++ [some (Blk.mk true 0 (AV.cells (.c x0)))]).length, ([Cell.int .i64 0]).length, 0), (h0.length, (AV.cells (.c x0)).length, 0)]) (G.wrap .i64 ((G.rem .i64 n_7 2) + 2)) (G.wrap .i64 ((G.rem .i64 n_12 2) + 2)) [Cell.str (ByteArray.mk #[]), Cell.nils, Cell.nils, Cell.int .i64 0, Cell.nils] (splice [Cell.str (ByteArray.mk #[]), Cell.nils, Cell.nils, Cell.int .i64 0, Cell.nils] 0 ([(.str (ByteArray.mk #[116]))] : List Cell)) h_15)) : Option (Ex × St)).bind fun p_65 => (jacquardlaw3_Small_k2 C L G h0) p_65.1 p_65.2 else none else none := by kernel_rfl

/- jacquard/jacquardlaw3.Small$1: 115 -/
set_option maxRecDepth 100000 in
theorem jacquardlaw3_Small_1_eq (C : CallF) (L : LoopF) (G : Glo) (k0 : Nat) (N0 : Nat) (o0 : Nat) (k1 : Nat) (N1 : Nat) (o1 : Nat) (h0 : AHeap) :
    jacquardlaw3_Small_1.body C L G [(.c (.ptr k0 N0 o0)), (.c (.ptr k1 N1 o1))] h0 =
    rdH h0 k0 N0 fun l_1 => atK l_1 o0 fun q_2 => asI .i64 (.c q_2) fun n_3 => rdH h0 k0 N0 fun l_4 => if o0 < l_4.length then putH h0 k0 (l_4.set o0 (.int .i64 (G.wrap .i64 (n_3 + 1)))) fun h_5 => rdH h_5 k0 N0 fun l_6 => atK l_6 o0 fun q_7 => asI .i64 (.c q_7) fun n_8 => rdH h_5 k1 N1 fun l_9 => atK l_9 o1 fun q_10 => lenK q_10 fun n_11 => if (decide (n_8 > n_11)) = true then some ([(.c (.int .i64 0))], h_5) else rdH h_5 k1 N1 fun l_12 => atK l_12 o1 fun q_13 => rdH h_5 k0 N0 fun l_14 => atK l_14 o0 fun q_15 => asI .i64 (.c q_15) fun n_16 => idxSK 1 q_13 (G.wrap .i64 (n_16 - 1)) fun k_17 N_18 o_19 => rdH h_5 k_17 N_18 fun l_20 => atK l_20 o_19 fun q_21 => asI .i64 (.c q_21) fun n_22 => some ([(.c (.int .i64 (G.band .i64 n_22 65535)))], h_5) else none := by kernel_rfl


end Jq

/- Tests made of numbers: what instructions they have. -/
namespace Jq
open Go

def opdOk (o : Opd) : Prop := (o.reg = -1 ∧ 0 ≤ o.val ∧ o.val < 3) ∨ ((o.reg = 0 ∨ o.reg = 1) ∧ o.val = 0)

/-- An instruction of a small test, its letter one of L from x on. -/
def SmI (L : Int) (i : Ins) : Prop :=
  (i.kind = 1 ∧ i.reg = 0 ∧ (120 ≤ i.loc ∧ i.loc < 120 + L) ∧ opdOk i.a ∧ i.op = 0 ∧ i.b = ⟨0, 0⟩ ∧ i.n = 0) ∨
  (i.kind = 2 ∧ (i.reg = 0 ∨ i.reg = 1) ∧ (120 ≤ i.loc ∧ i.loc < 120 + L) ∧ i.a = ⟨0, 0⟩ ∧ i.op = 0 ∧ i.b = ⟨0, 0⟩ ∧ i.n = 0) ∨
  (i = ⟨3, 0, 0, ⟨0, 0⟩, 0, ⟨0, 0⟩, 0⟩) ∨
  (i.kind = 4 ∧ (i.reg = 0 ∨ i.reg = 1) ∧ (120 ≤ i.loc ∧ i.loc < 120 + L) ∧ opdOk i.a ∧ i.op = 0 ∧ i.b = ⟨-1, 1⟩ ∧ i.n = 0) ∨
  (i.kind = 5 ∧ (i.reg = 0 ∨ i.reg = 1) ∧ i.loc = 0 ∧ opdOk i.a ∧ i.op = 6 ∧ i.b = ⟨-1, 1⟩ ∧ i.n = 0) ∨
  (i.kind = 6 ∧ i.reg = 0 ∧ i.loc = 0 ∧ opdOk i.a ∧ i.op = 0 ∧ i.b = ⟨-1, 0⟩ ∧ i.n = 1)

/-- How many instructions touch memory (a fence does not count). -/
def memC (c : List Ins) : Nat := c.countP fun i => decide (i.kind = 1 ∨ i.kind = 2 ∨ i.kind = 4)

/-- Instructions one behind the other, a skip ahead of a store. -/
inductive ThrOk (L : Int) : Nat → List Ins → Prop
  | nil : ThrOk L 0 []
  | one {k : Nat} {c : List Ins} {i : Ins} : ThrOk L k c → SmI L i → i.kind ≠ 6 → ThrOk L (k + 1) (c ++ [i])
  | two {k : Nat} {c : List Ins} {i j : Ins} : ThrOk L k c → SmI L i → i.kind = 6 → SmI L j → j.kind = 1 → ThrOk L (k + 1) (c ++ [i, j])

theorem ThrOk.len {L : Int} {k : Nat} {c : List Ins} (t : ThrOk L k c) : c.length ≤ 2 * k := by
  induction t with
  | nil => simp
  | one _ _ _ ih => rw [List.length_append]; simp; omega
  | two _ _ _ _ _ ih => rw [List.length_append]; simp; omega

theorem ThrOk.all {L : Int} {k : Nat} {c : List Ins} (t : ThrOk L k c) : ∀ i ∈ c, SmI L i := by
  induction t with
  | nil => simp
  | one _ h _ ih =>
    intro i hi
    rcases List.mem_append.1 hi with hi | hi
    · exact ih i hi
    · simp at hi; subst hi; exact h
  | two _ h _ h' _ ih =>
    intro i hi
    rcases List.mem_append.1 hi with hi | hi
    · exact ih i hi
    · simp at hi; rcases hi with rfl | rfl
      · exact h
      · exact h'

theorem memC_app (a b : List Ins) : memC (a ++ b) = memC a + memC b := by unfold memC; rw [List.countP_append]

/-- Some more elements at the end. -/
theorem Own.appM {n : Nat} {h : AHeap} {x : Cell} {esz len bytes m : Nat} {cs xs : List Cell} (o : Own n h x esz cs len) (hn : n ≤ h.length) (hx : xs.length = m * esz) (hm : 0 < m) (he : 0 < esz) (h1 : (len + m) * bytes ≤ maxBytes) (h2 : len + m ≤ maxBytes) :
    ∃ x' h', (∀ {α : Type} (f : Cell → AHeap → Option α), appK esz bytes x xs h f = f x' h') ∧ Own n h' x' esz (cs ++ xs) (len + m) ∧ Kp n h h' := by
  have hd : xs.length / esz = m := by rw [hx]; exact Nat.mul_div_cancel _ he
  have hpos : 0 < xs.length := by rw [hx]; exact Nat.mul_pos hm he
  rcases o.2 with ⟨rfl, rfl⟩ | ⟨k, rfl, hk, hb⟩
  · have hcs : cs = [] := List.length_eq_zero_iff.1 (by have := o.1; omega)
    subst hcs
    refine ⟨.sl h.length xs.length 0 m, h ++ [some ⟨true, esz, xs⟩], fun f => ?_, ⟨by simp [hx], .inr ⟨h.length, by simp, hn, by rw [List.nil_append]; exact blk_new _ _⟩⟩, Kp.app _ hn⟩
    unfold appK; simp only; rw [if_neg (by omega), hd, if_pos ⟨by rw [Nat.zero_add] at h1; exact h1, by omega⟩]
  · have hl := o.1
    refine ⟨.sl k (len * esz + xs.length) 0 (len + m), setBlk h k (some ⟨true, esz, cs ++ xs⟩), fun f => ?_, ⟨by simp [hl, hx, Nat.add_mul], .inr ⟨k, by simp [hl], hk, blk_set_self (blk_lt' hb) _⟩⟩, Kp.set hk _⟩
    unfold appK; simp only; rw [hb, Option.bind_some]; dsimp only
    rw [if_pos ⟨rfl, rfl, rfl, by omega, by rw [hd]; exact h1, by rw [hd]; exact h2⟩, if_neg (by omega), if_pos trivial, hd, List.take_of_length_le (by omega)]

section
variable {E : Env}

theorem shr_nn {x k : Int} (hx : 0 ≤ x) : 0 ≤ E.glob.shr .i64 x k := by
  show 0 ≤ x.fdiv (2 ^ min k.toNat 64)
  exact Int.fdiv_nonneg hx (Int.le_of_lt (Int.pow_pos (by omega)))
theorem rem_rng {x m : Int} (hx : 0 ≤ x) (hm : 0 < m) : 0 ≤ E.glob.rem .i64 x m ∧ E.glob.rem .i64 x m < m := by
  rw [g_rem, Int.tmod_eq_emod_of_nonneg hx]
  exact ⟨Int.emod_nonneg _ (by omega), Int.emod_lt_of_pos _ hm⟩
theorem g_band1 {x : Int} : E.glob.band .i64 x 1 = x % 2 := by
  show IntKind.wrap .i64 ((BitVec.ofInt 64 x &&& BitVec.ofInt 64 1).toNat : Nat) = _
  have h1 : (BitVec.ofInt 64 x &&& BitVec.ofInt 64 1).toNat = (BitVec.ofInt 64 x).toNat % 2 := by
    rw [BitVec.toNat_and]
    have : (BitVec.ofInt 64 1).toNat = 2 ^ 1 - 1 := by decide
    rw [this, Nat.and_two_pow_sub_one_eq_mod]
  rw [h1, BitVec.toNat_ofInt]
  have h3 : ((((x % ((2 ^ 64 : Nat) : Int)).toNat % 2 : Nat) : Int)) = x % 2 := by omega
  rw [h3]
  exact wrap_i64 (by omega) (by omega)
theorem band1_rng (x : Int) : E.glob.band .i64 x 1 = 0 ∨ E.glob.band .i64 x 1 = 1 := by rw [g_band1]; omega

theorem g_band16 {x : Int} : 0 ≤ E.glob.band .i64 x 65535 ∧ E.glob.band .i64 x 65535 < 65536 := by
  have h : E.glob.band .i64 x 65535 = x % 65536 := by
    show IntKind.wrap .i64 ((BitVec.ofInt 64 x &&& BitVec.ofInt 64 65535).toNat : Nat) = _
    have h1 : (BitVec.ofInt 64 x &&& BitVec.ofInt 64 65535).toNat = (BitVec.ofInt 64 x).toNat % 65536 := by
      rw [BitVec.toNat_and]
      have : (BitVec.ofInt 64 65535).toNat = 2 ^ 16 - 1 := by decide
      rw [this, Nat.and_two_pow_sub_one_eq_mod]
    rw [h1, BitVec.toNat_ofInt]
    have h3 : ((((x % ((2 ^ 64 : Nat) : Int)).toNat % 65536 : Nat) : Int)) = x % 65536 := by omega
    rw [h3]
    exact wrap_i64 (by omega) (by omega)
  rw [h]; omega

/-- Where the row of numbers and the place in it lie. -/
def VarsAt (h0 : AHeap) (x : Cell) (h : AHeap) (m : Nat) : Prop :=
  blk? h h0.length = some ⟨true, 0, [x]⟩ ∧ blk? h (h0.length + 1) = some ⟨true, 0, [.int .i64 (m : Int)]⟩ ∧ h0.length + 2 ≤ h.length ∧ Kp h0.length h0 h

def nxF (h0 : AHeap) : Cell := .fn 115 [(h0.length + 1, 1, 0), (h0.length, 1, 0)]

theorem VarsAt.keep {h0 h h' : AHeap} {x : Cell} {m : Nat} (v : VarsAt h0 x h m) (hk : Kp (h0.length + 2) h h') : VarsAt h0 x h' m :=
  ⟨by rw [hk.blk (by omega)]; exact v.1, by rw [hk.blk (by omega)]; exact v.2.1, Nat.le_trans v.2.2.1 hk.1, v.2.2.2.trans (hk.mono (by omega))⟩

theorem rd1' {α : Type} {h : AHeap} {k : Nat} {a : Cell} (hk : blk? h k = some ⟨true, 0, [a]⟩) {F : List Cell → Option α} : rdH h k 1 F = F [a] := rdH_ok hk rfl

/-- The next number. -/
theorem next_R (hE : jacquardlaw3_Small_1_In E) {h0 h : AHeap} {x : Cell} {l : List Int} {m : Nat} (hx : SlAt h0 x 1 (intC .i64 l) l.length) (hlow : Low h0.length x) (hl : l.length < 9223372036854775808) (v : VarsAt h0 x h m) (hm : m < 100000) :
    ∃ r : Int, 0 ≤ r ∧ r < 65536 ∧ (∀ {α : Type} (F : AV → AHeap → Option α), (fnK (nxF h0) fun g cs => c1 (R E g ([] ++ cs) h) F) = F (.c (.int .i64 r)) (setBlk h (h0.length + 1) (some ⟨true, 0, [.int .i64 ((m + 1 : Nat) : Int)]⟩))) ∧
      VarsAt h0 x (setBlk h (h0.length + 1) (some ⟨true, 0, [.int .i64 ((m + 1 : Nat) : Int)]⟩)) (m + 1) := by
  obtain ⟨v1, v2, v3, v4⟩ := v
  have b2 : blk? (setBlk h (h0.length + 1) (some ⟨true, 0, [.int .i64 ((m + 1 : Nat) : Int)]⟩)) (h0.length + 1) = some ⟨true, 0, [.int .i64 ((m + 1 : Nat) : Int)]⟩ := blk_set_self (blk_lt' v2) _
  have b1 : blk? (setBlk h (h0.length + 1) (some ⟨true, 0, [.int .i64 ((m + 1 : Nat) : Int)]⟩)) h0.length = some ⟨true, 0, [x]⟩ := by rw [blk_set_ne (by omega)]; exact v1
  have kk : Kp h0.length h0 (setBlk h (h0.length + 1) (some ⟨true, 0, [.int .i64 ((m + 1 : Nat) : Int)]⟩)) := v4.trans (Kp.set (by omega) _)
  have hx' := hx.keep hlow kk
  have hV : VarsAt h0 x (setBlk h (h0.length + 1) (some ⟨true, 0, [.int .i64 ((m + 1 : Nat) : Int)]⟩)) (m + 1) := ⟨b1, b2, by rw [setBlk_len]; exact v3, kk⟩
  have hb : jacquardlaw3_Small_1.body (R E) Lim E.glob [.c (.ptr (h0.length + 1) 1 0), .c (.ptr h0.length 1 0)] h = some ([.c (.int .i64 (if m + 1 > l.length then 0 else E.glob.band .i64 (l.getD m 0) 65535))], setBlk h (h0.length + 1) (some ⟨true, 0, [.int .i64 ((m + 1 : Nat) : Int)]⟩)) := by
    rw [jacquardlaw3_Small_1_eq, rd1' v2, atK_ok (i := 0) (c := .int .i64 (m : Int)) rfl, asI_ok, rd1' v2, if_pos (by simp), g_succ (by omega), putH_ok v2 rfl]
    dsimp only [List.set]
    rw [rd1' b2, atK_ok (i := 0) (c := .int .i64 ((m + 1 : Nat) : Int)) rfl, asI_ok, rd1' b1, atK_ok (i := 0) (c := x) rfl, hx'.len]
    by_cases hgt : m + 1 > l.length
    · rw [if_pos (by simp; omega), if_pos hgt]
    · rw [if_neg (by simp; omega), if_neg hgt, rd1' b1, atK_ok (i := 0) (c := x) rfl, rd1' b2, atK_ok (i := 0) (c := .int .i64 ((m + 1 : Nat) : Int)) rfl, asI_ok, g_wrap_i64 (by omega) (by omega), show ((m + 1 : Nat) : Int) - 1 = (m : Int) by omega, hx'.get1 (show m < l.length by omega) (intC_get (getDI (by omega))), asI_ok]
  refine ⟨if m + 1 > l.length then 0 else E.glob.band .i64 (l.getD m 0) 65535, ?_, ?_, fun F => ?_, hV⟩
  · split
    · omega
    · exact g_band16.1
  · split
    · omega
    · exact g_band16.2
  · show c1 (R E 115 [.c (.ptr (h0.length + 1) 1 0), .c (.ptr h0.length 1 0)] h) F = _
    rw [R_intro hE.fn hb, c1_ok]

end
end Jq

/- Tests made of numbers: one instruction more. -/
namespace Jq
open Go

section
variable {E : Env}

/-- What one round comes to. -/
def OneMore (E : Env) (most : Int) (fnc : Cell) (n L : Int) (mem : Nat) (i : Int) (k : Int) (s0 s1 : List Cell) (N kk : Nat) (c : List Ins) (h : AHeap) (o : Option (Ex × St)) : Prop :=
  ∃ (c2 : List Ins) (mem2 : Nat) (xs2 : Cell) (h2 : AHeap), o = some (.normal, jacquardlaw3_Small_s1 most fnc n L (mem2 : Int) i xs2 (k - 1) s0 s1 h2) ∧ ThrOk L (kk + 1) c2 ∧ memC c2 + mem = memC c + mem2 ∧ mem ≤ mem2 ∧ mem2 ≤ mem + 1 ∧
    Own N h2 xs2 9 (codeC c2) c2.length ∧ Kp N h h2

variable {most : Int} {fnc : Cell} {n L : Int} {mem : Nat} {i : Int} {xs : Cell} {k loc x r m : Int} {s0 s1 : List Cell} {v : Opd} {h : AHeap} {N kk : Nat} {c : List Ins}

theorem one_ins {f : Cell → AHeap → Option (Ex × St)} {mem2 : Nat} {j : Ins} (hxs : Own N h xs 9 (codeC c) c.length) (hN : N ≤ h.length) (hc : c.length ≤ 100) (t : ThrOk L kk c) (hj : SmI L j) (h6 : j.kind ≠ 6)
    (hm2 : mem2 = mem + memC [j]) (hf : ∀ x' h', f x' h' = some (.normal, jacquardlaw3_Small_s1 most fnc n L (mem2 : Int) i x' (k - 1) s0 s1 h')) :
    OneMore E most fnc n L mem i k s0 s1 N kk c h (appK 9 72 xs j.cs h f) := by
  have hm : maxBytes ≥ 200 * 72 := by unfold maxBytes; omega
  obtain ⟨x', h', ha, ho, hk, _⟩ := hxs.app (bytes := 72) (xs := j.cs) hN rfl (by omega) (by omega) (by omega)
  have h1 : memC [j] ≤ 1 := by unfold memC; exact Nat.le_trans (List.countP_le_length) (by simp)
  refine ⟨c ++ [j], mem2, x', h', by rw [ha, hf], t.one hj h6, by rw [memC_app, hm2]; omega, by omega, by omega, ?_, hk⟩
  rw [codeC_snoc, List.length_append, List.length_singleton]; exact ho

theorem memC_yes {j : Ins} (h : j.kind = 1 ∨ j.kind = 2 ∨ j.kind = 4) : memC [j] = 1 := by unfold memC; rw [List.countP_cons, List.countP_nil]; simp [h]
theorem memC_no {j : Ins} (h : ¬ (j.kind = 1 ∨ j.kind = 2 ∨ j.kind = 4)) : memC [j] = 0 := by unfold memC; rw [List.countP_cons, List.countP_nil]; simp [h]

theorem small_st (hxs : Own N h xs 9 (codeC c) c.length) (hN : N ≤ h.length) (hc : c.length ≤ 100) (t : ThrOk L kk c) (hv : opdOk v) (hloc : 120 ≤ loc ∧ loc < 120 + L) (hmem : mem < 1000) (hk : 0 ≤ k ∧ k ≤ 3) {b : Bool} (hb : b = true) :
    OneMore E most fnc n L mem i k s0 s1 N kk c h ((jacquardlaw3_Small_k13 (R E) Lim E.glob) .normal (jacquardlaw3_Small_c3 most fnc n L (mem : Int) i xs k loc r m b s0 s1 v.cs h)) := by
  have e : splice (splice (splice (List.replicate 9 (Cell.int .i64 0)) 0 ([(.int .i64 1)] : List Cell)) 2 ([(.int .i64 loc)] : List Cell)) 3 v.cs = (Ins.mk 1 0 loc v 0 ⟨0, 0⟩ 0).cs := rfl
  rw [jacquardlaw3_Small_ec3_n, if_pos hb, if_pos ⟨rfl, rfl⟩, if_pos ⟨rfl, by simp [splice]⟩, e, if_pos ⟨rfl, by simp⟩, ins_splice, if_pos (ins_len19 _)]
  refine one_ins (mem2 := mem + 1) hxs hN hc t (.inl ⟨rfl, rfl, hloc, hv, rfl, rfl, rfl⟩) (by simp) (by rw [memC_yes (.inl rfl)]) fun x' h' => ?_
  rw [g_succ (by omega), g_wrap_i64 (by omega) (by omega)]

theorem small_ld (hxs : Own N h xs 9 (codeC c) c.length) (hN : N ≤ h.length) (hc : c.length ≤ 100) (t : ThrOk L kk c) (hr : r = 0 ∨ r = 1) (hloc : 120 ≤ loc ∧ loc < 120 + L) (hmem : mem < 1000) (hk : 0 ≤ k ∧ k ≤ 3) {b : Bool} (hb : b = true) {s2 : List Cell} :
    OneMore E most fnc n L mem i k s0 s1 N kk c h ((jacquardlaw3_Small_k14 (R E) Lim E.glob) .normal (jacquardlaw3_Small_c4 most fnc n L (mem : Int) i xs k loc r m b s0 s1 s2 h)) := by
  have e : splice (splice (splice (List.replicate 9 (Cell.int .i64 0)) 0 ([(.int .i64 2)] : List Cell)) 1 ([(.int .i64 r)] : List Cell)) 2 ([(.int .i64 loc)] : List Cell) = (Ins.mk 2 r loc ⟨0, 0⟩ 0 ⟨0, 0⟩ 0).cs := rfl
  rw [jacquardlaw3_Small_ec4_n, if_pos hb, e, if_pos ⟨rfl, by simp⟩, ins_splice, if_pos (ins_len19 _)]
  refine one_ins (mem2 := mem + 1) hxs hN hc t (.inr (.inl ⟨rfl, hr, hloc, rfl, rfl, rfl, rfl⟩)) (by simp) (by rw [memC_yes (.inr (.inl rfl))]) fun x' h' => ?_
  rw [g_succ (by omega), g_wrap_i64 (by omega) (by omega)]

theorem mb2 {k : Nat} (hk : k ≤ 100) : (k + 2) * 72 ≤ maxBytes ∧ k + 2 ≤ maxBytes := by
  have hm : maxBytes ≥ 200 * 72 := by unfold maxBytes; omega
  omega

theorem z18_len2 (a b : Ins) : (codeC [a, b]).length = 2 * 9 := by rw [codeC_len]; rfl

theorem two_ins {f : Cell → AHeap → Option (Ex × St)} {j q : Ins} (hxs : Own N h xs 9 (codeC c) c.length) (hN : N ≤ h.length) (hc : c.length ≤ 100) (t : ThrOk L kk c) (hj : SmI L j) (h6 : j.kind = 6) (hq : SmI L q) (h1 : q.kind = 1)
    (hf : ∀ x' h', f x' h' = some (.normal, jacquardlaw3_Small_s1 most fnc n L ((mem + 1 : Nat) : Int) i x' (k - 1) s0 s1 h')) :
    OneMore E most fnc n L mem i k s0 s1 N kk c h (appK 9 72 xs (codeC [j, q]) h f) := by
  obtain ⟨f1, f2⟩ := mb2 hc
  obtain ⟨x', h', ha, ho, hkp⟩ := hxs.appM hN (z18_len2 j q) Nat.zero_lt_two (Nat.succ_pos 8) f1 f2
  have e4 : codeC (c ++ [j, q]) = codeC c ++ codeC [j, q] := by simp [codeC]
  refine ⟨c ++ [j, q], mem + 1, x', h', by rw [ha, hf], t.two hj h6 hq h1, ?_, by omega, by omega, ?_, hkp⟩
  · rw [memC_app]
    have : memC [j, q] = 1 := by
      show memC ([j] ++ [q]) = 1
      rw [memC_app, memC_no (by omega), memC_yes (.inl h1)]
    omega
  · rw [e4, List.length_append]; exact ho

theorem z18_len : 0 + 9 ≤ (List.replicate 18 (Cell.int .i64 0)).length := by rw [List.length_replicate]; omega
theorem z18_one (a : Ins) : 9 + 9 ≤ (splice (List.replicate 18 (Cell.int .i64 0)) 0 a.cs).length := by
  unfold splice
  rw [List.length_append, List.length_append, List.length_drop, List.length_take, List.length_replicate, Ins.len]; omega
theorem z18_two (a b : Ins) : splice (splice (List.replicate 18 (Cell.int .i64 0)) 0 a.cs) 9 b.cs = codeC [a, b] := rfl

theorem small_other (hxs : Own N h xs 9 (codeC c) c.length) (hN : N ≤ h.length) (hc : c.length ≤ 100) (t : ThrOk L kk c) (hL : 0 < L) (hv : opdOk v) (hr : r = 0 ∨ r = 1) (hloc : 120 ≤ loc ∧ loc < 120 + L) (hmem : mem < 1000) (hk : 0 ≤ k ∧ k ≤ 3) {b : Bool} (hb : b = false) :
    OneMore E most fnc n L mem i k s0 s1 N kk c h ((jacquardlaw3_Small_k14 (R E) Lim E.glob) .normal (jacquardlaw3_Small_c4 most fnc n L (mem : Int) i xs k loc r m b s0 s1 v.cs h)) := by
  have hm : maxBytes ≥ 200 * 72 := by unfold maxBytes; omega
  rw [jacquardlaw3_Small_ec4_n, if_neg (by rw [hb]; simp)]
  by_cases h8 : m = 8
  · have e : splice (List.replicate 9 (Cell.int .i64 0)) 0 ([(.int .i64 3)] : List Cell) = (Ins.mk 3 0 0 ⟨0, 0⟩ 0 ⟨0, 0⟩ 0).cs := rfl
    rw [if_pos (by rw [h8]; rfl), e, if_pos ⟨rfl, by simp⟩, ins_splice, if_pos (ins_len19 _)]
    refine one_ins (mem2 := mem) hxs hN hc t (.inr (.inr (.inl rfl))) (by simp) (by rw [memC_no (by simp)]; rfl) fun x' h' => ?_
    rw [g_wrap_i64 (by omega) (by omega)]
  · rw [if_neg (by rw [beq_iff_eq]; exact h8)]
    by_cases h9 : m = 9
    · have e : splice (splice (splice (splice (splice (List.replicate 9 (Cell.int .i64 0)) 0 ([(.int .i64 4)] : List Cell)) 1 ([(.int .i64 r)] : List Cell)) 2 ([(.int .i64 loc)] : List Cell)) 3 v.cs) 6 (splice (splice [Cell.int .i64 0, Cell.int .i64 0] 0 ([(.int .i64 (-1))] : List Cell)) 1 ([(.int .i64 1)] : List Cell)) = (Ins.mk 4 r loc v 0 ⟨-1, 1⟩ 0).cs := rfl
      rw [if_pos (by rw [h9]; rfl), if_pos ⟨rfl, rfl⟩, if_pos ⟨rfl, by simp [splice]⟩, if_pos ⟨rfl, by simp [splice, Opd.cs]⟩, e, if_pos ⟨rfl, by simp⟩, ins_splice, if_pos (ins_len19 _)]
      refine one_ins (mem2 := mem + 1) hxs hN hc t (.inr (.inr (.inr (.inl ⟨rfl, hr, hloc, hv, rfl, rfl, rfl⟩)))) (by simp) (by rw [memC_yes (.inr (.inr rfl))]) fun x' h' => ?_
      rw [g_succ (by omega), g_wrap_i64 (by omega) (by omega)]
    · rw [if_neg (by rw [beq_iff_eq]; exact h9)]
      by_cases h10 : m = 10
      · have e : splice (splice (splice (splice (splice (List.replicate 9 (Cell.int .i64 0)) 0 ([(.int .i64 5)] : List Cell)) 1 ([(.int .i64 r)] : List Cell)) 3 v.cs) 5 ([(.int .i64 6)] : List Cell)) 6 (splice (splice [Cell.int .i64 0, Cell.int .i64 0] 0 ([(.int .i64 (-1))] : List Cell)) 1 ([(.int .i64 1)] : List Cell)) = (Ins.mk 5 r 0 v 6 ⟨-1, 1⟩ 0).cs := rfl
        rw [if_pos (by rw [h10]; rfl), if_pos ⟨rfl, rfl⟩, if_pos ⟨rfl, by simp [splice]⟩, if_pos ⟨rfl, by simp [splice, Opd.cs]⟩, if_pos ⟨rfl, by simp [splice, Opd.cs]⟩, e, if_pos ⟨rfl, by simp⟩, ins_splice, if_pos (ins_len19 _)]
        refine one_ins (mem2 := mem) hxs hN hc t (.inr (.inr (.inr (.inr (.inl ⟨rfl, hr, rfl, hv, rfl, rfl, rfl⟩))))) (by simp) (by rw [memC_no (by simp)]; rfl) fun x' h' => ?_
        rw [g_wrap_i64 (by omega) (by omega)]
      · have e1 : splice (splice (splice (splice (List.replicate 9 (Cell.int .i64 0)) 0 ([(.int .i64 6)] : List Cell)) 3 v.cs) 6 (splice [Cell.int .i64 0, Cell.int .i64 0] 0 ([(.int .i64 (-1))] : List Cell))) 8 ([(.int .i64 1)] : List Cell) = (Ins.mk 6 0 0 v 0 ⟨-1, 0⟩ 1).cs := rfl
        have e2 : splice (splice (splice (List.replicate 9 (Cell.int .i64 0)) 0 ([(.int .i64 1)] : List Cell)) 2 ([(.int .i64 loc)] : List Cell)) 3 (splice (splice [Cell.int .i64 0, Cell.int .i64 0] 0 ([(.int .i64 (-1))] : List Cell)) 1 ([(.int .i64 2)] : List Cell)) = (Ins.mk 1 0 loc ⟨-1, 2⟩ 0 ⟨0, 0⟩ 0).cs := rfl
        rw [if_neg (by rw [beq_iff_eq]; exact h10), if_pos ⟨rfl, rfl⟩, if_pos ⟨rfl, by simp [splice]⟩, if_pos ⟨rfl, by simp [splice, Opd.cs]⟩, if_pos ⟨rfl, by simp [splice, Opd.cs]⟩, if_pos ⟨rfl, by simp [splice]⟩, e1, e2, if_pos ⟨Ins.len _, z18_len⟩, if_pos ⟨Ins.len _, z18_one _⟩, z18_two, if_pos (z18_len2 _ _)]
        have hL2 : (2 : Int) < 3 ∧ (0 : Int) ≤ 2 := ⟨by decide, by decide⟩
        have hst : SmI L (Ins.mk 1 0 loc ⟨-1, 2⟩ 0 ⟨0, 0⟩ 0) := .inl ⟨rfl, rfl, hloc, .inl ⟨rfl, hL2.2, hL2.1⟩, rfl, rfl, rfl⟩
        have hsk : SmI L (Ins.mk 6 0 0 v 0 ⟨-1, 0⟩ 1) := .inr (.inr (.inr (.inr (.inr ⟨rfl, rfl, rfl, hv, rfl, rfl, rfl⟩))))
        refine two_ins hxs hN hc t hsk rfl hst rfl fun x' h' => ?_
        rw [g_succ (by omega), g_wrap_i64 (by omega) (by omega)]

theorem small_case (hxs : Own N h xs 9 (codeC c) c.length) (hN : N ≤ h.length) (hc : c.length ≤ 100) (t : ThrOk L kk c) (hL : 0 < L) (hv : opdOk v) (hx : 0 ≤ x) (hloc : 120 ≤ loc ∧ loc < 120 + L) (hmem : mem < 1000) (hk : 0 ≤ k ∧ k ≤ 3) :
    OneMore E most fnc n L mem i k s0 s1 N kk c h ((jacquardlaw3_Small_k11 (R E) Lim E.glob) .normal (jacquardlaw3_Small_c2 most fnc n L (mem : Int) i xs k x loc s0 s1 v.cs h)) := by
  have hr := band1_rng (E := E) (E.glob.shr .i64 x 11)
  have hm := rem_rng (E := E) hx (show (0 : Int) < 12 by omega)
  rw [jacquardlaw3_Small_ec2_n]
  generalize E.glob.band .i64 (E.glob.shr .i64 x 11) 1 = r at *
  generalize E.glob.rem .i64 x 12 = m at *
  by_cases h0 : m = 0
  · rw [if_pos (by rw [h0]; rfl), bind_ok]; exact small_st hxs hN hc t hv hloc hmem hk (by rw [h0]; rfl)
  rw [if_neg (by rw [beq_iff_eq]; exact h0)]
  by_cases h1 : m = 1
  · rw [if_pos (by rw [h1]; rfl), bind_ok]; exact small_st hxs hN hc t hv hloc hmem hk (by rw [h1]; rfl)
  rw [if_neg (by rw [beq_iff_eq]; exact h1)]
  by_cases h2 : m = 2
  · rw [if_pos (by rw [h2]; rfl), bind_ok]; exact small_st hxs hN hc t hv hloc hmem hk (by rw [h2]; rfl)
  rw [if_neg (by rw [beq_iff_eq]; exact h2), bind_ok]
  by_cases h3 : m = 3
  · exact small_st hxs hN hc t hv hloc hmem hk (by rw [h3]; rfl)
  rw [jacquardlaw3_Small_ec3_n, if_neg (by rw [beq_iff_eq]; exact h3)]
  by_cases h4 : m = 4
  · rw [if_pos (by rw [h4]; rfl), bind_ok]; exact small_ld hxs hN hc t hr hloc hmem hk (by rw [h4]; rfl)
  rw [if_neg (by rw [beq_iff_eq]; exact h4)]
  by_cases h5 : m = 5
  · rw [if_pos (by rw [h5]; rfl), bind_ok]; exact small_ld hxs hN hc t hr hloc hmem hk (by rw [h5]; rfl)
  rw [if_neg (by rw [beq_iff_eq]; exact h5)]
  by_cases h6 : m = 6
  · rw [if_pos (by rw [h6]; rfl), bind_ok]; exact small_ld hxs hN hc t hr hloc hmem hk (by rw [h6]; rfl)
  rw [if_neg (by rw [beq_iff_eq]; exact h6), bind_ok]
  by_cases h7 : m = 7
  · exact small_ld hxs hN hc t hr hloc hmem hk (by rw [h7]; rfl)
  exact small_other hxs hN hc t hL hv hr hloc hmem hk (by rw [beq_eq_false_iff_ne]; exact h7)

end
end Jq

/- Tests made of numbers: all of them are small, and may be. -/
namespace Jq
open Go

/-- The first so many blocks are as they were, but for one. -/
def KpX (a n : Nat) (h h' : AHeap) : Prop := h.length ≤ h'.length ∧ ∀ k, k < n → k ≠ a → h'[k]? = h[k]?

theorem KpX.refl (a n : Nat) (h : AHeap) : KpX a n h h := ⟨Nat.le_refl _, fun _ _ _ => rfl⟩
theorem KpX.trans {a n : Nat} {h h' h'' : AHeap} (x : KpX a n h h') (y : KpX a n h' h'') : KpX a n h h'' := ⟨Nat.le_trans x.1 y.1, fun k hk ha => (y.2 k hk ha).trans (x.2 k hk ha)⟩
theorem KpX.mono {a n m : Nat} {h h' : AHeap} (x : KpX a n h h') (hm : m ≤ n) : KpX a m h h' := ⟨x.1, fun k hk ha => x.2 k (by omega) ha⟩
theorem Kp.x {a n : Nat} {h h' : AHeap} (x : Kp n h h') : KpX a n h h' := ⟨x.1, fun k hk _ => x.2 k hk⟩
theorem KpX.set (a n : Nat) (h : AHeap) (b : Option Blk) : KpX a n h (setBlk h a b) := ⟨by simp [setBlk], fun j _ ha => by unfold setBlk; rw [List.getElem?_set_ne (fun e => ha e.symm)]⟩
theorem KpX.blk {a n : Nat} {h h' : AHeap} (x : KpX a n h h') {k : Nat} (hk : k < n) (ha : k ≠ a) : blk? h' k = blk? h k := by unfold blk?; rw [x.2 k hk ha]

theorem Own.keepX {a n : Nat} {h h' : AHeap} {x : Cell} {esz len : Nat} {cs : List Cell} (o : Own n h x esz cs len) (ha : a < n) (hk : KpX a h.length h h') : Own n h' x esz cs len := by
  refine ⟨o.1, o.2.imp id ?_⟩
  rintro ⟨k, e, hn, hb⟩
  exact ⟨k, e, hn, by rw [hk.blk (blk_lt' hb) (by omega)]; exact hb⟩
theorem RowsOwn.keepX {α : Type} {esz : Nat} {C : List α → List Cell} {a n : Nat} {h h' : AHeap} {y : Cell} {rows : List (List α)} (r : RowsOwn esz C n h y rows) (ha : a < n) (hk : KpX a h.length h h') : RowsOwn esz C n h' y rows := by
  obtain ⟨ts, h1, h2⟩ := r
  exact ⟨ts, h1.keepX ha hk, fun t r hr => by obtain ⟨x, x1, x2, x3⟩ := h2 t r hr; exact ⟨x, x1, x2.keepX ha hk, x3⟩⟩

structure GoodT (most : Nat) (T : PTest) : Prop where
  name : T.name.size ≤ 20
  n : 2 ≤ T.thr.length ∧ T.thr.length ≤ 3
  code : ∃ L : Int, (L = 2 ∨ L = 3) ∧ ∀ c ∈ T.thr, ∃ k, k ≤ 3 ∧ ThrOk L k c
  mem : (T.thr.map memC).sum ≤ most
  inits : T.inits = [] ∨ ∃ v : Int, 0 ≤ v ∧ v < 3 ∧ T.inits = [(120, v)]
  any : T.any.length ≤ 2 ∧ ∀ row ∈ T.any, row.length ≤ 2 ∧ ∀ a ∈ row, a.loc = 0 ∨ a.loc = 120

section
variable {E : Env}

theorem opd_reg {r : Int} : splice [Cell.int .i64 0, Cell.int .i64 0] 0 ([(.int .i64 r)] : List Cell) = (Opd.mk r 0).cs := rfl
theorem opd_num {v : Int} : splice (splice [Cell.int .i64 0, Cell.int .i64 0] 0 ([(.int .i64 (-1))] : List Cell)) 1 ([(.int .i64 v)] : List Cell) = (Opd.mk (-1) v).cs := rfl

/-- A thread's instructions. -/
theorem small_thr (hE : jacquardlaw3_Small_1_In E) {h0 : AHeap} {x : Cell} {l : List Int} (hx : SlAt h0 x 1 (intC .i64 l) l.length) (hlow : Low h0.length x) (hl : l.length < 9223372036854775808)
    {most : Nat} (hmost : most ≤ 900) {n i L : Int} (hL : L = 2 ∨ L = 3) (s0 s1 : List Cell) (N : Nat) (hN0 : h0.length + 2 ≤ N) : ∀ (k mem m kk : Nat) (c : List Ins) (xs : Cell) (h : AHeap), k ≤ 3 → kk + k ≤ 10 → mem ≤ most → m + k < 1000 →
      VarsAt h0 x h m → N ≤ h.length → Own N h xs 9 (codeC c) c.length → ThrOk L kk c →
      ∃ (mem' m' kk' : Nat) (c' : List Ins) (xs' : Cell) (h' : AHeap), Lim (jacquardlaw3_Small_F1 (R E) Lim E.glob) (jacquardlaw3_Small_s1 (most : Int) (nxF h0) n L (mem : Int) i xs (k : Int) s0 s1 h) = some (.exit 2, jacquardlaw3_Small_x1_3 (most : Int) (nxF h0) n L (mem' : Int) i xs' s0 s1 h') ∧
        ThrOk L kk' c' ∧ kk' ≤ kk + k ∧ memC c' + mem = memC c + mem' ∧ mem' ≤ most ∧ VarsAt h0 x h' m' ∧ m' ≤ m + k ∧ N ≤ h'.length ∧ Own N h' xs' 9 (codeC c') c'.length ∧ KpX (h0.length + 1) N h h' := by
  intro k
  induction k with
  | zero =>
    intro mem m kk c xs h _ _ hmem _ hv hN ho ht
    refine ⟨mem, m, kk, c, xs, h, Lim_exit ?_, ht, by omega, by omega, hmem, hv, by omega, hN, ho, KpX.refl _ _ _⟩
    rw [jacquardlaw3_Small_r1, show decide (((0 : Nat) : Int) > 0) = false from rfl, scK_ft, if_neg (by simp)]
  | succ k ih =>
    intro mem m kk c xs h hk hkk hmem hm hv hN ho ht
    by_cases hmm : mem < most
    · obtain ⟨r, r0, r1, hF, hv2⟩ := next_R hE hx hlow hl hv (by omega)
      have hLp : 0 < L := by omega
      have hset : KpX (h0.length + 1) N h (setBlk h (h0.length + 1) (some ⟨true, 0, [.int .i64 ((m + 1 : Nat) : Int)]⟩)) := KpX.set _ _ _ _
      have ho2 := ho.keepX (show h0.length + 1 < N by omega) (KpX.set (h0.length + 1) h.length h (some ⟨true, 0, [.int .i64 ((m + 1 : Nat) : Int)]⟩))
      have hN2 : N ≤ (setBlk h (h0.length + 1) (some ⟨true, 0, [.int .i64 ((m + 1 : Nat) : Int)]⟩)).length := by rw [setBlk_len]; exact hN
      generalize setBlk h (h0.length + 1) (some ⟨true, 0, [.int .i64 ((m + 1 : Nat) : Int)]⟩) = H at *
      have q4 := rem_rng (E := E) (shr_nn (E := E) (k := 4) r0) hLp
      have q6 := rem_rng (E := E) (shr_nn (E := E) (k := 6) r0) (show (0 : Int) < 3 by omega)
      have hb1 := band1_rng (E := E) (E.glob.shr .i64 r 10)
      have hclen := ht.len
      have hcase : ∀ v : Opd, opdOk v → OneMore E (most : Int) (nxF h0) n L mem i ((k + 1 : Nat) : Int) s0 s1 N kk c H ((jacquardlaw3_Small_k11 (R E) Lim E.glob) .normal (jacquardlaw3_Small_c2 (most : Int) (nxF h0) n L (mem : Int) i xs ((k + 1 : Nat) : Int) r (120 + E.glob.rem .i64 (E.glob.shr .i64 r 4) L) s0 s1 v.cs H)) := by
        intro v hvv
        exact small_case ho2 hN2 (by omega) ht hLp hvv r0 ⟨by omega, by omega⟩ (by omega) ⟨by omega, by omega⟩
      have hround : ∃ v : Opd, opdOk v ∧ jacquardlaw3_Small_F1 (R E) Lim E.glob (jacquardlaw3_Small_s1 (most : Int) (nxF h0) n L (mem : Int) i xs ((k + 1 : Nat) : Int) s0 s1 h) = (jacquardlaw3_Small_k11 (R E) Lim E.glob) .normal (jacquardlaw3_Small_c2 (most : Int) (nxF h0) n L (mem : Int) i xs ((k + 1 : Nat) : Int) r (120 + E.glob.rem .i64 (E.glob.shr .i64 r 4) L) s0 s1 v.cs H) := by
        have hw : E.glob.wrap .i64 (120 + E.glob.rem .i64 (E.glob.shr .i64 r 4) L) = 120 + E.glob.rem .i64 (E.glob.shr .i64 r 4) L := g_wrap_i64 (by omega) (by omega)
        rw [jacquardlaw3_Small_r1, show decide (((k + 1 : Nat) : Int) > 0) = true from decide_eq_true (by omega), scK_ok, bind_ok]
        dsimp only
        rw [if_pos (decide_eq_true (by omega)), hF, asI_ok, if_neg (by omega)]
        rw [hw, opd_num, opd_reg, if_pos ⟨rfl, rfl, rfl⟩]
        by_cases h8 : (E.glob.rem .i64 (E.glob.shr .i64 r 8) 3 == 0) = true
        · refine ⟨⟨E.glob.band .i64 (E.glob.shr .i64 r 10) 1, 0⟩, .inr ⟨hb1, rfl⟩, ?_⟩
          rw [if_pos h8, if_pos ⟨rfl, rfl, rfl⟩, bind_ok]
        · refine ⟨⟨-1, E.glob.rem .i64 (E.glob.shr .i64 r 6) 3⟩, .inl ⟨rfl, q6.1, q6.2⟩, ?_⟩
          rw [if_neg h8, bind_ok]
      obtain ⟨v, hvv, hround⟩ := hround
      obtain ⟨c2, mem2, xs2, h2, g1, g2, g3, g4, g5, g6, g7⟩ := hcase v hvv
      rw [g1, show ((k + 1 : Nat) : Int) - 1 = (k : Int) by omega] at hround
      obtain ⟨mem', m', kk', c', xs', h', f1, f2, f3, f4, f5, f6, f7, f8, f9, f10⟩ := ih mem2 (m + 1) (kk + 1) c2 xs2 h2 (by omega) (by omega) (by omega) (by omega) (hv2.keep (g7.mono hN0)) (Nat.le_trans hN2 g7.1) g6 g2
      exact ⟨mem', m', kk', c', xs', h', Lim_next hround f1, f2, by omega, by omega, f5, f6, by omega, f8, f9, (hset.trans g7.x).trans f10⟩
    · refine ⟨mem, m, kk, c, xs, h, Lim_exit ?_, ht, by omega, by omega, hmem, hv, by omega, hN, ho, KpX.refl _ _ _⟩
      rw [jacquardlaw3_Small_r1, show decide (((k + 1 : Nat) : Int) > 0) = true from decide_eq_true (by omega), scK_ok, bind_ok]
      dsimp only
      rw [if_neg (by simp; omega)]

theorem sum_app_one (l : List (List Ins)) (c : List Ins) : ((l ++ [c]).map memC).sum = (l.map memC).sum + memC c := by
  rw [List.map_append, List.sum_append]; simp

/-- All threads. -/
theorem small_thrs (hE : jacquardlaw3_Small_1_In E) {h0 : AHeap} {x : Cell} {l : List Int} (hx : SlAt h0 x 1 (intC .i64 l) l.length) (hlow : Low h0.length x) (hl : l.length < 9223372036854775808)
    {most : Nat} (hmost : most ≤ 900) {n : Nat} (hn : n ≤ 3) {L : Int} (hL : L = 2 ∨ L = 3) (s0 : List Cell) (a : Cell) {name : ByteArray} {Nb : Nat} (hNb : h0.length + 2 ≤ Nb) : ∀ (q i mem m : Nat) (rows : List (List Ins)) (y : Cell) (h : AHeap), i + q = n → rows.length = i → mem ≤ most → m + 4 * q < 900 →
      (rows.map memC).sum = mem → (∀ c ∈ rows, ∃ k, k ≤ 3 ∧ ThrOk L k c) → VarsAt h0 x h m → Nb ≤ h.length → RowsOwn 9 codeC Nb h y rows →
      ∃ (mem' m' : Nat) (rows' : List (List Ins)) (y' : Cell) (h' : AHeap), Lim (jacquardlaw3_Small_F2 (R E) Lim E.glob) (jacquardlaw3_Small_s2 (most : Int) (nxF h0) (n : Int) L (mem : Int) (i : Int) s0 [.str name, a, y, .int .i64 0, .nils] h) = some (.exit 0, jacquardlaw3_Small_x2_1 (nxF h0) s0 [.str name, a, y', .int .i64 0, .nils] h') ∧
        rows'.length = n ∧ mem' ≤ most ∧ (rows'.map memC).sum = mem' ∧ (∀ c ∈ rows', ∃ k, k ≤ 3 ∧ ThrOk L k c) ∧ VarsAt h0 x h' m' ∧ m' ≤ m + 4 * q ∧ Nb ≤ h'.length ∧ RowsOwn 9 codeC Nb h' y' rows' ∧ KpX (h0.length + 1) Nb h h' := by
  intro q
  induction q with
  | zero =>
    intro i mem m rows y h hi hr hmem _ hs hc hv hN hy
    refine ⟨mem, m, rows, y, h, Lim_exit ?_, by omega, hmem, hs, hc, hv, by omega, hN, hy, KpX.refl _ _ _⟩
    rw [jacquardlaw3_Small_r2, if_neg (by simp; omega)]
  | succ q ih =>
    intro i mem m rows y h hi hr hmem hm hs hc hv hN hy
    obtain ⟨r, r0, r1, hF, hv2⟩ := next_R hE hx hlow hl hv (by omega)
    have hset : KpX (h0.length + 1) Nb h (setBlk h (h0.length + 1) (some ⟨true, 0, [.int .i64 ((m + 1 : Nat) : Int)]⟩)) := KpX.set _ _ _ _
    have hy2 := hy.keepX (show h0.length + 1 < Nb by omega) (KpX.set (h0.length + 1) h.length h (some ⟨true, 0, [.int .i64 ((m + 1 : Nat) : Int)]⟩))
    have hN2 : Nb ≤ (setBlk h (h0.length + 1) (some ⟨true, 0, [.int .i64 ((m + 1 : Nat) : Int)]⟩)).length := by rw [setBlk_len]; exact hN
    generalize setBlk h (h0.length + 1) (some ⟨true, 0, [.int .i64 ((m + 1 : Nat) : Int)]⟩) = H at *
    have q3 := rem_rng (E := E) r0 (show (0 : Int) < 3 by omega)
    obtain ⟨k, hk⟩ : ∃ k : Nat, E.glob.rem .i64 r 3 + 1 = (k : Int) := ⟨(E.glob.rem .i64 r 3 + 1).toNat, by omega⟩
    obtain ⟨mem', m', kk', c', xs', h', f1, f2, f3, f4, f5, f6, f7, f8, f9, f10⟩ := small_thr hE hx hlow hl hmost (n := n) (i := (i : Int)) hL s0 [.str name, a, y, .int .i64 0, .nils] H.length (Nat.le_trans hNb hN2) k mem (m + 1) 0 [] .nils H (by omega) (by omega) hmem (by omega) hv2 (Nat.le_refl _) (Own.nil _ _ _) ThrOk.nil
    have hy3 := hy2.keepX (show h0.length + 1 < Nb by omega) f10
    obtain ⟨y2, h2, hap, hyp, hkp, _⟩ := hy3.push (f9.monoN hN2) (fun j h1 h2 => by have := (f9.blkLt h1).2; have := (hy2.blkLt h2).1; omega) (Nat.le_trans hN2 f8) (by omega)
    have hm0 : memC c' + mem = mem' := by have : memC ([] : List Ins) = 0 := rfl; omega
    have hround : jacquardlaw3_Small_F2 (R E) Lim E.glob (jacquardlaw3_Small_s2 (most : Int) (nxF h0) (n : Int) L (mem : Int) (i : Int) s0 [.str name, a, y, .int .i64 0, .nils] h) = some (.normal, jacquardlaw3_Small_s2 (most : Int) (nxF h0) (n : Int) L (mem' : Int) ((i + 1 : Nat) : Int) s0 [.str name, a, y2, .int .i64 0, .nils] h2) := by
      have hw : E.glob.wrap .i64 (E.glob.rem .i64 r 3 + 1) = (k : Int) := by rw [g_wrap_i64 (by omega) (by omega), hk]
      rw [jacquardlaw3_Small_r2, if_pos (by simp; omega), hF, asI_ok, hw, f1, bind_ok, jacquardlaw3_Small_e1_3, show ∀ {α : Type} (f : Cell → Option α), atK [.str name, a, y, .int .i64 0, .nils] 2 f = f y from fun _ => rfl, if_pos (show (splice [Cell.nils] 0 ([xs'] : List Cell)).length = 1 * 1 from rfl), show splice [Cell.nils] 0 ([xs'] : List Cell) = [xs'] from rfl, hap, if_pos (show 2 < ([.str name, a, y, .int .i64 0, .nils] : List Cell).length by simp), g_succ (by omega)]
      rfl
    obtain ⟨mem3, m3, rows3, y3, h3, g1, g2, g3, g4, g5, g6, g7, g8, g9, g10⟩ := ih (i + 1) mem' m' (rows ++ [c']) y2 h2 (by omega) (by rw [List.length_append, List.length_singleton]; omega) f5 (by omega) (by rw [sum_app_one]; omega)
      (fun c hcm => by
        rcases List.mem_append.1 hcm with hcm | hcm
        · exact hc c hcm
        · simp at hcm; subst hcm; exact ⟨kk', by omega, f2⟩) (f6.keep (hkp.mono hNb)) (Nat.le_trans (Nat.le_trans hN2 f8) hkp.1) hyp
    exact ⟨mem3, m3, rows3, y3, h3, Lim_next hround g1, g2, g3, g4, g5, g6, by omega, g8, g9, ((hset.trans (f10.mono hN2)).trans hkp.x).trans g10⟩

end
end Jq

namespace Jq
open Go

/- jacquard/jacquardlaw6.Of: 76 -/
set_option maxRecDepth 100000 in
theorem jacquardlaw6_Of_eq (C : CallF) (L : LoopF) (G : Glo) (x0 : Cell) (a1 : Int) (h0 : AHeap) :
    jacquardlaw6_Of.body C L G [(.c x0), (.c (.int .i64 a1))] h0 =
    c1 (C 97 [(.c x0), (.c (.int .i64 a1))] h0) fun y_2 h_1 => asA y_2 fun l_3 => c1 (C 101 [(.agg l_3)] h_1) fun y_5 h_4 => asA y_5 fun l_6 => if 0 = 0 ∧ [Cell.nils, Cell.nils, Cell.nils].length = 3 ∧ l_6.length = 3 then if 0 = 0 ∧ l_6.length = 3 then some ([(.agg l_6)], h_4) else none else none := by kernel_rfl


end Jq

/- Tests made of numbers, and their programs. -/
namespace Jq
open Go

section
variable {E : Env}

def tName : ByteArray := ByteArray.mk #[116]

theorem small_end (hE : jacquardlaw3_Small_1_In E) {h0 h hb : AHeap} {x : Cell} {l : List Int} (hx : SlAt h0 x 1 (intC .i64 l) l.length) (hlow : Low h0.length x) (hl : l.length < 9223372036854775808) {m : Nat} (hv : VarsAt h0 x h m) (hm : m < 1000)
    {most : Nat} {rows : List (List Ins)} {a y : Cell} {inits : List (Int × Int)} {Nb : Nat} (hNb : h0.length + 2 ≤ Nb) (hN : Nb ≤ h.length) (hy : RowsOwn 9 codeC Nb h y rows) (ha : SlAt h a 2 (pairC inits) inits.length ∧ Low h.length a ∧ ∀ k, isBlk a k → k ≠ h0.length + 1)
    (hi : inits = [] ∨ ∃ v : Int, 0 ≤ v ∧ v < 3 ∧ inits = [(120, v)]) (hn : 2 ≤ rows.length ∧ rows.length ≤ 3) (hmem : (rows.map memC).sum ≤ most) (hc : ∃ L : Int, (L = 2 ∨ L = 3) ∧ ∀ c ∈ rows, ∃ k, k ≤ 3 ∧ ThrOk L k c) {s0 : List Cell} (hs0 : s0.length = 5) :
    ∃ (cs : List Cell) (h' : AHeap) (T : PTest), (jacquardlaw3_Small_k4 (R E) Lim E.glob hb) (.exit 0) (jacquardlaw3_Small_x2_1 (nxF h0) s0 [.str tName, a, y, .int .i64 0, .nils] h) = some ([.agg cs], h') ∧ TestAt h' cs T ∧ GoodT most T ∧ Kp h0.length h0 h' := by
  obtain ⟨r, r0, r1, hF, hv2⟩ := next_R hE hx hlow hl hv (by omega)
  have hset := KpX.set (h0.length + 1) h.length h (some ⟨true, 0, [.int .i64 ((m + 1 : Nat) : Int)]⟩)
  have hy2 := hy.keepX (show h0.length + 1 < Nb by omega) hset
  have ha2 : SlAt (setBlk h (h0.length + 1) (some ⟨true, 0, [.int .i64 ((m + 1 : Nat) : Int)]⟩)) a 2 (pairC inits) inits.length := by
    refine ⟨ha.1.1, ha.1.2.imp id ?_⟩
    rintro ⟨k, N, off, e, hh | ⟨b, hb, hN, hle, hat⟩⟩
    · exact ⟨k, N, off, e, .inl hh⟩
    · have hk := ha.2.2 k (by rw [e]; rfl)
      exact ⟨k, N, off, e, .inr ⟨b, by rw [blk_set_ne (fun q => hk q.symm)]; exact hb, hN, hle, hat⟩⟩
  have hal2 : Low (setBlk h (h0.length + 1) (some ⟨true, 0, [.int .i64 ((m + 1 : Nat) : Int)]⟩)).length a := by rw [setBlk_len]; exact ha.2.1
  rw [jacquardlaw3_Small_e2_1, hF, asI_ok]
  generalize setBlk h (h0.length + 1) (some ⟨true, 0, [.int .i64 ((m + 1 : Nat) : Int)]⟩) = H at *
  have q5 := rem_rng (E := E) (shr_nn (E := E) (k := 5) r0) (show (0 : Int) < 3 by omega)
  by_cases h3 : (E.glob.rem .i64 r 3 == 0) = true
  · rw [if_pos h3]
    dsimp only
    generalize E.glob.band .i64 (E.glob.shr .i64 r 3) 1 = b3
    generalize E.glob.band .i64 (E.glob.shr .i64 r 4) 1 = b4
    generalize E.glob.rem .i64 (E.glob.shr .i64 r 5) 3 = v5
    generalize E.glob.band .i64 (E.glob.shr .i64 r 7) 1 = b7
    generalize E.glob.wrap .i64 (E.glob.rem .i64 (E.glob.quo .i64 r 3) 2 + 1) = ck
    have e1 : splice (splice (splice [Cell.int .i64 0, Cell.int .i64 0, Cell.int .i64 0, Cell.int .i64 0] 0 ([(.int .i64 0)] : List Cell)) 1 ([(.int .i64 b3)] : List Cell)) 3 ([(.int .i64 b4)] : List Cell) = (Atm.mk 0 b3 0 b4).cs := rfl
    have e2 : splice (splice (splice [Cell.int .i64 0, Cell.int .i64 0, Cell.int .i64 0, Cell.int .i64 0] 0 ([(.int .i64 (-1))] : List Cell)) 2 ([(.int .i64 120)] : List Cell)) 3 ([(.int .i64 v5)] : List Cell) = (Atm.mk (-1) 0 120 v5).cs := rfl
    have e3 : splice (splice (splice [Cell.int .i64 0, Cell.int .i64 0, Cell.int .i64 0, Cell.int .i64 0] 0 ([(.int .i64 1)] : List Cell)) 1 ([(.int .i64 0)] : List Cell)) 3 ([(.int .i64 b7)] : List Cell) = (Atm.mk 1 0 0 b7).cs := rfl
    have e4 : ∀ a : Atm, splice [Cell.int .i64 0, Cell.int .i64 0, Cell.int .i64 0, Cell.int .i64 0] 0 a.cs = atmC [a] := fun _ => rfl
    have e5 : ∀ a b : Atm, splice (splice (List.replicate 8 (Cell.int .i64 0)) 0 a.cs) 4 b.cs = atmC [a, b] := fun _ _ => rfl
    have e6 : ∀ a b : Cell, splice (splice [Cell.nils, Cell.nils] 0 ([a] : List Cell)) 1 ([b] : List Cell) = [a, b] := fun _ _ => rfl
    have e7 : ∀ a b : Cell, splice (splice [Cell.int .i64 0, Cell.nils] 0 ([a] : List Cell)) 1 ([b] : List Cell) = [a, b] := fun _ _ => rfl
    have l1 : ∀ a : Atm, (atmC [a]).length = 4 := fun _ => rfl
    have l2 : ∀ a b : Atm, (atmC [a, b]).length = 8 := fun _ _ => rfl
    simp only [e1, e2, e3, e4, e5, e6, e7, l1, l2]
    rw [if_pos ⟨rfl, by simp⟩, if_pos trivial, if_pos ⟨rfl, by simp⟩, if_pos ⟨rfl, by simp [splice, Atm.cs]⟩, if_pos trivial, if_pos (by simp), if_pos (by simp), if_pos (by simp [splice]), if_pos (by simp [splice, hs0]), if_pos (by simp [splice])]
    have k1 : Kp H.length H (H ++ [some ⟨true, 4, atmC [⟨0, b3, 0, b4⟩]⟩]) := Kp.app _ (Nat.le_refl _)
    have n1 : (H ++ [some (Blk.mk true 4 (atmC [⟨0, b3, 0, b4⟩]))]).length = H.length + 1 := by simp
    have c1' : blk? (H ++ [some ⟨true, 4, atmC [⟨0, b3, 0, b4⟩]⟩]) H.length = some ⟨true, 4, atmC [⟨0, b3, 0, b4⟩]⟩ := blk_new _ _
    generalize H ++ [some (Blk.mk true 4 (atmC [⟨0, b3, 0, b4⟩]))] = H1 at *
    have k2 : Kp H.length H (H1 ++ [some ⟨true, 4, atmC [⟨-1, 0, 120, v5⟩, ⟨1, 0, 0, b7⟩]⟩]) := k1.trans (Kp.app _ (by omega))
    have n2 : (H1 ++ [some (Blk.mk true 4 (atmC [⟨-1, 0, 120, v5⟩, ⟨1, 0, 0, b7⟩]))]).length = H1.length + 1 := by simp
    have c2' : blk? (H1 ++ [some ⟨true, 4, atmC [⟨-1, 0, 120, v5⟩, ⟨1, 0, 0, b7⟩]⟩]) H1.length = some ⟨true, 4, atmC [⟨-1, 0, 120, v5⟩, ⟨1, 0, 0, b7⟩]⟩ := blk_new _ _
    have c1'' : blk? (H1 ++ [some ⟨true, 4, atmC [⟨-1, 0, 120, v5⟩, ⟨1, 0, 0, b7⟩]⟩]) H.length = some ⟨true, 4, atmC [⟨0, b3, 0, b4⟩]⟩ := blk_old c1' _
    generalize H1 ++ [some (Blk.mk true 4 (atmC [⟨-1, 0, 120, v5⟩, ⟨1, 0, 0, b7⟩]))] = H2 at *
    have k3 : Kp H.length H (H2 ++ [some ⟨true, 1, [Cell.sl H.length 4 0 1, Cell.sl H1.length 8 0 2]⟩]) := k2.trans (Kp.app _ (by omega))
    have c3' : blk? (H2 ++ [some ⟨true, 1, [Cell.sl H.length 4 0 1, Cell.sl H1.length 8 0 2]⟩]) H2.length = some ⟨true, 1, [Cell.sl H.length 4 0 1, Cell.sl H1.length 8 0 2]⟩ := blk_new _ _
    have c2'' : blk? (H2 ++ [some ⟨true, 1, [Cell.sl H.length 4 0 1, Cell.sl H1.length 8 0 2]⟩]) H1.length = some ⟨true, 4, atmC [⟨-1, 0, 120, v5⟩, ⟨1, 0, 0, b7⟩]⟩ := blk_old c2' _
    have c1''' : blk? (H2 ++ [some ⟨true, 1, [Cell.sl H.length 4 0 1, Cell.sl H1.length 8 0 2]⟩]) H.length = some ⟨true, 4, atmC [⟨0, b3, 0, b4⟩]⟩ := blk_old c1'' _
    have n3 : (H2 ++ [some (Blk.mk true 1 [Cell.sl H.length 4 0 1, Cell.sl H1.length 8 0 2])]).length = H2.length + 1 := by simp
    refine ⟨_, _, ⟨tName, inits, rows, ck, [[⟨0, b3, 0, b4⟩], [⟨-1, 0, 120, v5⟩, ⟨1, 0, 0, b7⟩]]⟩, rfl, ?_, ⟨(by show tName.size ≤ 20; decide), hn, hc, hmem, hi, by simp, ?_⟩, hv2.2.2.2.trans (k3.mono (by have := hv2.2.2.1; omega))⟩
    · refine ⟨a, y, .sl H2.length 2 0 2, by simp [splice], ⟨ha2.keep hal2 k3, Low_mono k3.1 hal2⟩, hy2.of.keep k3, ⟨[Cell.sl H.length 4 0 1, Cell.sl H1.length 8 0 2], ⟨rfl, .inr ⟨_, _, 0, rfl, .inr ⟨_, c3', rfl, by simp, fun j _ => by simp⟩⟩⟩, .inr (by omega), fun t r ht => ?_⟩⟩
      match t, ht with
      | 0, ht =>
        cases ht
        exact ⟨_, rfl, ⟨rfl, .inr ⟨_, _, 0, rfl, .inr ⟨_, c1''', rfl, by simp, fun j _ => by simp⟩⟩⟩, .inr (by omega)⟩
      | 1, ht =>
        cases ht
        exact ⟨_, rfl, ⟨rfl, .inr ⟨_, _, 0, rfl, .inr ⟨_, c2'', rfl, by simp, fun j _ => by simp⟩⟩⟩, .inr (by omega)⟩
      | t + 2, ht => simp at ht
    · intro row hr
      simp only [List.mem_cons, List.not_mem_nil, or_false] at hr
      rcases hr with rfl | rfl
      · exact ⟨by simp, fun a ha => by simp at ha; subst ha; exact .inl rfl⟩
      · refine ⟨by simp, fun a ha => ?_⟩
        simp at ha
        rcases ha with rfl | rfl
        · exact .inr rfl
        · exact .inl rfl
  · rw [if_neg h3, if_pos ⟨rfl, rfl⟩, if_pos ⟨rfl, hs0, rfl⟩, if_pos ⟨rfl, rfl⟩]
    refine ⟨_, _, ⟨tName, inits, rows, 0, []⟩, rfl, ⟨a, y, .nils, rfl, ⟨ha2, hal2⟩, hy2.of, ⟨[], ⟨rfl, .inl ⟨rfl, rfl⟩⟩, trivial, fun t r ht => by simp at ht⟩⟩, ⟨(by show tName.size ≤ 20; decide), hn, hc, hmem, hi, by simp, by simp⟩, hv2.2.2.2⟩

theorem Small_R (hE : jacquardlaw3_Small_In E) {h : AHeap} {x : Cell} {l : List Int} (hx : SlAt h x 1 (intC .i64 l) l.length) (hlow : Low h.length x) (hl : l.length < 9223372036854775808) {most : Nat} (hmost : most ≤ 900) :
    ∃ (cs : List Cell) (h' : AHeap) (T : PTest), R E 97 [.c x, .c (.int .i64 (most : Int))] h = some ([.agg cs], h') ∧ TestAt h' cs T ∧ GoodT most T ∧ Kp h.length h h' := by
  suffices hs : ∃ (cs : List Cell) (h' : AHeap) (T : PTest), jacquardlaw3_Small.body (R E) Lim E.glob [.c x, .c (.int .i64 (most : Int))] h = some ([.agg cs], h') ∧ TestAt h' cs T ∧ GoodT most T ∧ Kp h.length h h' by
    obtain ⟨cs, h', T, h1, h2⟩ := hs; exact ⟨cs, h', T, R_intro hE.fn h1, h2⟩
  have hc : AV.cells (.c x) = [x] := rfl
  have hl1 : ([x] : List Cell).length = 1 := rfl
  have hl0 : ([Cell.int .i64 0] : List Cell).length = 1 := rfl
  have hln : (h ++ [some (Blk.mk true 0 [x])]).length = h.length + 1 := by simp
  have hnm : splice [Cell.str (ByteArray.mk #[]), Cell.nils, Cell.nils, Cell.int .i64 0, Cell.nils] 0 ([(.str (ByteArray.mk #[116]))] : List Cell) = [.str tName, .nils, .nils, .int .i64 0, .nils] := rfl
  rw [jacquardlaw3_Small_eq, hc, hl1, hl0, hnm, if_pos ⟨rfl, rfl, rfl⟩, rd1' (blk_new _ _), if_pos (by simp), putH_ok (blk_new _ _) rfl, setBlk_last]
  dsimp only [List.set]
  rw [hln]
  have hv0 : VarsAt h x (h ++ [some ⟨true, 0, [x]⟩] ++ [some ⟨true, 0, [Cell.int .i64 0]⟩]) 0 := by
    refine ⟨blk_old (blk_new _ _) _, ?_, by simp, ?_⟩
    · have := blk_new (h ++ [some (Blk.mk true 0 [x])]) ⟨true, 0, [Cell.int .i64 0]⟩
      rw [hln] at this; exact this
    · rw [List.append_assoc]; exact Kp.app _ (Nat.le_refl _)
  have hlen0 : (h ++ [some (Blk.mk true 0 [x])] ++ [some (Blk.mk true 0 [Cell.int .i64 0])]).length = h.length + 2 := by simp
  generalize h ++ [some (Blk.mk true 0 [x])] ++ [some (Blk.mk true 0 [Cell.int .i64 0])] = H0 at *
  rw [show (Cell.fn 115 [(h.length + 1, 1, 0), (h.length, 1, 0)]) = nxF h from rfl]
  obtain ⟨a0, a0p, _, hF1, hv1⟩ := next_R hE.c115 hx hlow hl hv0 (by omega)
  rw [hF1, asI_ok]
  have hlen1 : (setBlk H0 (h.length + 1) (some ⟨true, 0, [.int .i64 ((0 + 1 : Nat) : Int)]⟩)).length = h.length + 2 := by rw [setBlk_len, hlen0]
  generalize setBlk H0 (h.length + 1) (some ⟨true, 0, [.int .i64 ((0 + 1 : Nat) : Int)]⟩) = H1 at *
  obtain ⟨a1, a1p, _, hF2, hv2⟩ := next_R hE.c115 hx hlow hl hv1 (by omega)
  rw [hF2, asI_ok]
  have hlen2 : (setBlk H1 (h.length + 1) (some ⟨true, 0, [.int .i64 ((0 + 1 + 1 : Nat) : Int)]⟩)).length = h.length + 2 := by rw [setBlk_len, hlen1]
  generalize setBlk H1 (h.length + 1) (some ⟨true, 0, [.int .i64 ((0 + 1 + 1 : Nat) : Int)]⟩) = H2 at *
  obtain ⟨a2, a2p, _, hF3, hv3⟩ := next_R hE.c115 hx hlow hl hv2 (by omega)
  rw [hF3, asI_ok]
  have hlen3 : (setBlk H2 (h.length + 1) (some ⟨true, 0, [.int .i64 ((0 + 1 + 1 + 1 : Nat) : Int)]⟩)).length = h.length + 2 := by rw [setBlk_len, hlen2]
  generalize setBlk H2 (h.length + 1) (some ⟨true, 0, [.int .i64 ((0 + 1 + 1 + 1 : Nat) : Int)]⟩) = H3 at *
  have n2 := rem_rng (E := E) a0p (show (0 : Int) < 2 by omega)
  have n3 := rem_rng (E := E) a1p (show (0 : Int) < 2 by omega)
  have w2 : E.glob.wrap .i64 (E.glob.rem .i64 a0 2 + 2) = E.glob.rem .i64 a0 2 + 2 := g_wrap_i64 (by omega) (by omega)
  have w3 : E.glob.wrap .i64 (E.glob.rem .i64 a1 2 + 2) = E.glob.rem .i64 a1 2 + 2 := g_wrap_i64 (by omega) (by omega)
  rw [w2, w3]
  obtain ⟨n, hn⟩ : ∃ n : Nat, E.glob.rem .i64 a0 2 + 2 = (n : Int) := ⟨(E.glob.rem .i64 a0 2 + 2).toNat, by omega⟩
  generalize hLL : E.glob.rem .i64 a1 2 + 2 = L at *
  rw [hn]
  -- what is there from the loops on
  have rest : ∀ (m : Nat) (H : AHeap) (a : Cell) (inits : List (Int × Int)), m ≤ 4 → VarsAt h x H m → SlAt H a 2 (pairC inits) inits.length → Low H.length a → (∀ k, isBlk a k → k ≠ h.length + 1) → (inits = [] ∨ ∃ v : Int, 0 ≤ v ∧ v < 3 ∧ inits = [(120, v)]) →
      ∃ (cs : List Cell) (h' : AHeap) (T : PTest), (jacquardlaw3_Small_k2 (R E) Lim E.glob h) .normal (jacquardlaw3_Small_c1 (most : Int) (nxF h) (n : Int) L [Cell.str (ByteArray.mk #[]), Cell.nils, Cell.nils, Cell.int .i64 0, Cell.nils] [.str tName, a, .nils, .int .i64 0, .nils] H) = some ([.agg cs], h') ∧ TestAt h' cs T ∧ GoodT most T ∧ Kp h.length h h' := by
    intro m H a inits hm hv ha hal had hi
    obtain ⟨mem', m', rows', y', H', f1, f2, f3, f4, f5, f6, f7, f8, f9, f10⟩ := small_thrs hE.c115 hx hlow hl hmost (n := n) (by omega) (L := L) (by omega) [Cell.str (ByteArray.mk #[]), Cell.nils, Cell.nils, Cell.int .i64 0, Cell.nils] a (name := tName) (Nb := H.length) hv.2.2.1 n 0 0 m [] .nils H (by omega) rfl (by omega) (by omega) rfl (by simp) hv (Nat.le_refl _) (RowsOwn.nil _)
    have ha' : SlAt H' a 2 (pairC inits) inits.length := by
      refine ⟨ha.1, ha.2.imp id ?_⟩
      rintro ⟨k, N, off, e, hh | ⟨b, hb, hN, hle, hat⟩⟩
      · exact ⟨k, N, off, e, .inl hh⟩
      · exact ⟨k, N, off, e, .inr ⟨b, by rw [f10.blk (blk_lt' hb) (had k (by rw [e]; rfl))]; exact hb, hN, hle, hat⟩⟩
    obtain ⟨cs, h', T, g1, g2, g3, g4⟩ := small_end hE.c115 (hb := h) hx hlow hl f6 (by omega) (most := most) (rows := rows') (a := a) (y := y') (inits := inits) (Nb := H.length) hv.2.2.1 f8 f9 ⟨ha', Low_mono f10.1 hal, had⟩ hi (by omega) (by omega) ⟨L, by omega, f5⟩ (s0 := [Cell.str (ByteArray.mk #[]), Cell.nils, Cell.nils, Cell.int .i64 0, Cell.nils]) rfl
    refine ⟨cs, h', T, ?_, g2, g3, g4⟩
    rw [jacquardlaw3_Small_ec1_n]
    have e0 : jacquardlaw3_Small_s2 (most : Int) (nxF h) (n : Int) L 0 0 [Cell.str (ByteArray.mk #[]), Cell.nils, Cell.nils, Cell.int .i64 0, Cell.nils] [.str tName, a, .nils, .int .i64 0, .nils] H = jacquardlaw3_Small_s2 (most : Int) (nxF h) (n : Int) L ((0 : Nat) : Int) ((0 : Nat) : Int) [Cell.str (ByteArray.mk #[]), Cell.nils, Cell.nils, Cell.int .i64 0, Cell.nils] [.str tName, a, .nils, .int .i64 0, .nils] H := rfl
    rw [e0, f1, bind_ok, g1]
  by_cases h4 : (E.glob.rem .i64 a2 4 == 0) = true
  · obtain ⟨a3, a3p, _, hF4, hv4⟩ := next_R hE.c115 hx hlow hl hv3 (by omega)
    have q3 := rem_rng (E := E) a3p (show (0 : Int) < 3 by omega)
    rw [if_pos h4, show ∀ {α : Type} (f : Cell → Option α), atK [Cell.str tName, .nils, .nils, .int .i64 0, .nils] 1 f = f .nils from fun _ => rfl, hF4, asI_ok]
    have hlen4 : (setBlk H3 (h.length + 1) (some ⟨true, 0, [.int .i64 ((0 + 1 + 1 + 1 + 1 : Nat) : Int)]⟩)).length = h.length + 2 := by rw [setBlk_len, hlen3]
    generalize setBlk H3 (h.length + 1) (some ⟨true, 0, [.int .i64 ((0 + 1 + 1 + 1 + 1 : Nat) : Int)]⟩) = H4 at *
    generalize E.glob.rem .i64 a3 3 = v at *
    have e1 : splice (splice [Cell.int .i64 0, Cell.int .i64 0] 0 ([(.int .i64 120)] : List Cell)) 1 ([(.int .i64 v)] : List Cell) = pairC [(120, v)] := rfl
    have e2 : splice [Cell.int .i64 0, Cell.int .i64 0] 0 (pairC [(120, v)]) = pairC [(120, v)] := rfl
    have hm : maxBytes ≥ 100 := by unfold maxBytes; omega
    have hap : ∀ {α : Type} (f : Cell → AHeap → Option α), appK 2 16 .nils (pairC [(120, v)]) H4 f = f (.sl H4.length 2 0 1) (H4 ++ [some ⟨true, 2, pairC [(120, v)]⟩]) := by
      intro α f
      unfold appK
      simp only
      rw [if_neg (by simp [pairC]), if_pos ⟨by simp [pairC]; omega, by simp [pairC]; omega⟩]
      simp [pairC]
    rw [e1, if_pos ⟨rfl, by simp⟩, e2, if_pos (show (pairC [(120, v)]).length = 1 * 2 from rfl), hap, if_pos (by simp), bind_ok]
    have hv5 : VarsAt h x (H4 ++ [some ⟨true, 2, pairC [(120, v)]⟩]) (0 + 1 + 1 + 1 + 1) := hv4.keep (Kp.app _ (by omega))
    exact rest (0 + 1 + 1 + 1 + 1) _ (.sl H4.length 2 0 1) [(120, v)] (by omega) hv5 ⟨rfl, .inr ⟨_, _, 0, rfl, .inr ⟨_, blk_new _ _, rfl, by simp, fun j _ => by simp⟩⟩⟩ (.inr (by simp)) (fun k hk => by have : H4.length = k := hk; omega) (.inr ⟨v, q3.1, q3.2, rfl⟩)
  · rw [if_neg h4, bind_ok]
    exact rest (0 + 1 + 1 + 1) _ .nils [] (by omega) hv3 ⟨rfl, .inl ⟨rfl, rfl⟩⟩ trivial (fun k hk => by cases hk) (.inl rfl)

end
end Jq

/- Laws of events: kinds, orders. -/
namespace Jq
open Go

section
variable {E : Env}

end
end Jq

/- Laws of events: kinds, orders. -/
namespace Jq
open Go

section
variable {E : Env}

/-- A row of a block of its own. -/
theorem SlAt.whole {h : AHeap} {k len esz : Nat} {cs : List Cell} {o : Bool} {e : Nat} (hb : blk? h k = some ⟨o, e, cs⟩) (hl : cs.length = len * esz) : SlAt h (.sl k cs.length 0 len) esz cs len :=
  ⟨hl, .inr ⟨k, _, 0, rfl, .inr ⟨_, hb, rfl, by omega, fun j _ => by simp⟩⟩⟩

theorem awake10_R (hE : jacquardlaw10_awake_In E) (h : AHeap) : R E 77 [] h = some ([.c (.bool true)], h) := by
  refine R_intro hE.fn ?_
  have e1 : splice [Cell.int .u8 0] 0 ([(.int .u8 120)] : List Cell) = intC .u8 [120] := rfl
  have e2 : splice [Cell.int .i64 0] 0 ([(.int .i64 4)] : List Cell) = intC .i64 [4] := rfl
  have e3 : splice (splice (List.replicate 9 (Cell.int .i64 0)) 0 ([(.int .i64 2)] : List Cell)) 1 ([(.int .i64 1)] : List Cell) = (Ins.mk 2 1 0 ⟨0, 0⟩ 0 ⟨0, 0⟩ 0).cs := rfl
  have e4 : splice (List.replicate 9 (Cell.int .i64 0)) 0 (Ins.mk 2 1 0 ⟨0, 0⟩ 0 ⟨0, 0⟩ 0).cs = codeC [Ins.mk 2 1 0 ⟨0, 0⟩ 0 ⟨0, 0⟩ 0] := rfl
  have e5 : ∀ c : Cell, splice [Cell.nils] 0 ([c] : List Cell) = [c] := fun _ => rfl
  have e6 : ∀ a b c : Cell, splice (splice (splice [Cell.nils, Cell.nils, Cell.nils] 0 ([a] : List Cell)) 1 ([b] : List Cell)) 2 ([c] : List Cell) = [a, b, c] := fun _ _ _ => rfl
  have e7 : splice [Cell.int .i64 0] 0 ([(.int .i64 5)] : List Cell) = intC .i64 [5] := rfl
  have l1 : (intC .u8 [120]).length = 1 := rfl
  have l2 : (intC .i64 [4]).length = 1 := rfl
  have l3 : (codeC [Ins.mk 2 1 0 ⟨0, 0⟩ 0 ⟨0, 0⟩ 0]).length = 9 := rfl
  have l5 : (intC .i64 [5]).length = 1 := rfl
  rw [jacquardlaw10_awake_eq]
  simp only [e1, e2, e3, e4, e5, e6, e7]
  rw [if_pos (show (intC .u8 [120]).length = 1 * 1 from rfl)]
  have hmark : ∀ {α : Type} (f : Cell → AHeap → Option α), markK (.sl h.length (intC .u8 [120]).length 0 1) (h ++ [some ⟨true, 1, intC .u8 [120]⟩]) f = f (.sl h.length 1 0 1) (h ++ [some ⟨false, 1, intC .u8 [120]⟩]) := by
    intro α f
    unfold markK
    simp only
    rw [blk_new, Option.bind_some]
    dsimp only
    rw [if_pos ⟨rfl, rfl⟩, setBlk_last]; rfl
  rw [hmark]
  have b1 : blk? (h ++ [some ⟨false, 1, intC .u8 [120]⟩]) h.length = some ⟨false, 1, intC .u8 [120]⟩ := blk_new _ _
  have n1 : (h ++ [some (Blk.mk false 1 (intC .u8 [120]))]).length = h.length + 1 := by simp
  have k1 : Kp h.length h (h ++ [some ⟨false, 1, intC .u8 [120]⟩]) := Kp.app _ (Nat.le_refl _)
  generalize h ++ [some (Blk.mk false 1 (intC .u8 [120]))] = H1 at *
  have b2 : blk? (H1 ++ [some ⟨true, 1, intC .i64 [4]⟩]) H1.length = some ⟨true, 1, intC .i64 [4]⟩ := blk_new _ _
  have b1' : blk? (H1 ++ [some ⟨true, 1, intC .i64 [4]⟩]) h.length = some ⟨false, 1, intC .u8 [120]⟩ := blk_old b1 _
  have k2 : Kp h.length h (H1 ++ [some ⟨true, 1, intC .i64 [4]⟩]) := k1.trans (Kp.app _ k1.1)
  have n2 : (H1 ++ [some (Blk.mk true 1 (intC .i64 [4]))]).length = H1.length + 1 := by simp
  rw [if_pos (show (intC .i64 [4]).length = 1 * 1 from rfl)]
  generalize H1 ++ [some (Blk.mk true 1 (intC .i64 [4]))] = H2 at *
  have b3 : blk? (H2 ++ [some ⟨true, 9, codeC [Ins.mk 2 1 0 ⟨0, 0⟩ 0 ⟨0, 0⟩ 0]⟩]) H2.length = some ⟨true, 9, codeC [Ins.mk 2 1 0 ⟨0, 0⟩ 0 ⟨0, 0⟩ 0]⟩ := blk_new _ _
  have b2' : blk? (H2 ++ [some ⟨true, 9, codeC [Ins.mk 2 1 0 ⟨0, 0⟩ 0 ⟨0, 0⟩ 0]⟩]) H1.length = some ⟨true, 1, intC .i64 [4]⟩ := blk_old b2 _
  have b1'' : blk? (H2 ++ [some ⟨true, 9, codeC [Ins.mk 2 1 0 ⟨0, 0⟩ 0 ⟨0, 0⟩ 0]⟩]) h.length = some ⟨false, 1, intC .u8 [120]⟩ := blk_old b1' _
  have k3 : Kp h.length h (H2 ++ [some ⟨true, 9, codeC [Ins.mk 2 1 0 ⟨0, 0⟩ 0 ⟨0, 0⟩ 0]⟩]) := k2.trans (Kp.app _ k2.1)
  have n3 : (H2 ++ [some (Blk.mk true 9 (codeC [Ins.mk 2 1 0 ⟨0, 0⟩ 0 ⟨0, 0⟩ 0]))]).length = H2.length + 1 := by simp
  rw [if_pos ⟨rfl, by simp⟩, if_pos (show (codeC [Ins.mk 2 1 0 ⟨0, 0⟩ 0 ⟨0, 0⟩ 0]).length = 1 * 9 from rfl)]
  generalize H2 ++ [some (Blk.mk true 9 (codeC [Ins.mk 2 1 0 ⟨0, 0⟩ 0 ⟨0, 0⟩ 0]))] = H3 at *
  rw [l2, l3]
  have b4 : blk? (H3 ++ [some ⟨true, 1, [Cell.sl H2.length 9 0 1]⟩]) H3.length = some ⟨true, 1, [Cell.sl H2.length 9 0 1]⟩ := blk_new _ _
  have b3' : blk? (H3 ++ [some ⟨true, 1, [Cell.sl H2.length 9 0 1]⟩]) H2.length = some ⟨true, 9, codeC [Ins.mk 2 1 0 ⟨0, 0⟩ 0 ⟨0, 0⟩ 0]⟩ := blk_old b3 _
  have b2'' : blk? (H3 ++ [some ⟨true, 1, [Cell.sl H2.length 9 0 1]⟩]) H1.length = some ⟨true, 1, intC .i64 [4]⟩ := blk_old b2' _
  have b1''' : blk? (H3 ++ [some ⟨true, 1, [Cell.sl H2.length 9 0 1]⟩]) h.length = some ⟨false, 1, intC .u8 [120]⟩ := blk_old b1'' _
  have k4 : Kp h.length h (H3 ++ [some ⟨true, 1, [Cell.sl H2.length 9 0 1]⟩]) := k3.trans (Kp.app _ k3.1)
  have n4 : (H3 ++ [some (Blk.mk true 1 [Cell.sl H2.length 9 0 1])]).length = H3.length + 1 := by simp
  rw [if_pos (show ([Cell.sl H2.length 9 0 1] : List Cell).length = 1 * 1 from rfl)]
  have l4 : ([Cell.sl H2.length 9 0 1] : List Cell).length = 1 := rfl
  rw [l4]
  generalize hH4 : H3 ++ [some (Blk.mk true 1 [Cell.sl H2.length 9 0 1])] = H4 at *
  have b5 : blk? (H4 ++ [some ⟨true, 1, intC .i64 [5]⟩]) H4.length = some ⟨true, 1, intC .i64 [5]⟩ := blk_new _ _
  have p0 : ProgAt H4 [.sl h.length 1 0 1, .sl H1.length 1 0 1, .sl H3.length 1 0 1] ⟨[120], [4], [[Ins.mk 2 1 0 ⟨0, 0⟩ 0 ⟨0, 0⟩ 0]]⟩ := by
    refine ⟨_, _, _, [Cell.sl H2.length 9 0 1], rfl, ⟨SlAt.whole b1''' rfl, .inr (by omega)⟩, ⟨SlAt.whole b2'' rfl, .inr (by omega)⟩, ⟨SlAt.whole b4 rfl, .inr (by omega)⟩, fun t code ht => ?_⟩
    cases t with
    | zero =>
      cases ht
      exact ⟨_, rfl, SlAt.whole b3' rfl, .inr (by omega)⟩
    | succ t => simp at ht
  have k5 : Kp H4.length H4 (H4 ++ [some ⟨true, 1, intC .i64 [5]⟩]) := Kp.app _ (Nat.le_refl _)
  have k5' : Kp h.length h (H4 ++ [some ⟨true, 1, intC .i64 [5]⟩]) := k4.trans (k5.mono k4.1)
  have p5 := p0.keep k5
  have hx : SlAt (H4 ++ [some ⟨true, 1, intC .i64 [5]⟩]) (.sl H4.length 1 0 1) 1 (intC .i64 [5]) [(5 : Int)].length := SlAt.whole b5 rfl
  have hown : Own 0 (H4 ++ [some ⟨true, 1, intC .i64 [5]⟩]) (.sl H4.length 1 0 1) 1 (intC .i64 [5]) 1 := ⟨rfl, .inr ⟨_, rfl, by omega, b5⟩⟩
  have hlow : Low (H4 ++ [some (Blk.mk true 1 (intC .i64 [5]))]).length (.sl H4.length 1 0 1) := .inr (by simp)
  rw [if_pos ⟨trivial, rfl, rfl⟩, if_pos ⟨trivial, rfl⟩, if_pos (show (intC .i64 [5]).length = 1 * 1 from rfl), l5]
  generalize H4 ++ [some (Blk.mk true 1 (intC .i64 [5]))] = H5 at *
  have hsm : PProg.small ⟨[120], [4], [[Ins.mk 2 1 0 ⟨0, 0⟩ 0 ⟨0, 0⟩ 0]]⟩ := ⟨by simp, fun c hc => by simp at hc; subst hc; simp⟩
  obtain ⟨y, H6, hu, hy, ku⟩ := Unfold_R hE.c78 hsm p5 0 hx hlow hown.okE
  have hunf : unf (PProg.code ⟨[120], [4], [[Ins.mk 2 1 0 ⟨0, 0⟩ 0 ⟨0, 0⟩ 0]]⟩ 0) 0 1001 (startL ⟨[120], [4], [[Ins.mk 2 1 0 ⟨0, 0⟩ 0 ⟨0, 0⟩ 0]]⟩ 0) [5] [] = ([⟨0, 0, 1, 0, 5, 0⟩], ⟨1, 0, 5, 0, 0⟩, false) := by decide +kernel
  rw [hunf] at hu hy
  dsimp only at hu hy
  have p6 := p5.keep ku
  obtain ⟨y2, H7, hi, hy2, ki⟩ := Inits_R hE.c88 p6 (by simp)
  have hin : initsE [4] = [⟨-1, 0, 2, 0, 0, 4⟩] := rfl
  rw [hin] at hy2
  have hya := (hy.at.keep hy.low ki)
  obtain ⟨o1, c1', g1, q1, d1⟩ := SlAt.evG (l := [⟨0, 0, 1, 0, 5, 0⟩]) hya (i := 0) rfl
  obtain ⟨o2, c2', g2, q2, d2⟩ := SlAt.evG (l := [⟨-1, 0, 2, 0, 0, 4⟩]) hy2.at (i := 0) rfl
  have g1' : ∀ {α : Type} (G : Nat → List Cell → Option α), (idxSK 6 y (0 : Int) fun k N o => rdH H7 k N fun l => G o l) = G o1 c1' := fun G => g1 G
  have g2' : ∀ {α : Type} (G : Nat → List Cell → Option α), (idxSK 6 y2 (0 : Int) fun k N o => rdH H7 k N fun l => G o l) = G o2 c2' := fun G => g2 G
  have s1 : splice (splice [Cell.int .i64 0, Cell.int .i64 0, Cell.int .i64 0, Cell.int .i64 0, Cell.int .i64 0, Cell.int .i64 0] 2 ([(.int .i64 1)] : List Cell)) 4 ([(.int .i64 5)] : List Cell) = (Evt.mk 0 0 1 0 5 0).cs := rfl
  have s2 : splice (splice (splice [Cell.int .i64 0, Cell.int .i64 0, Cell.int .i64 0, Cell.int .i64 0, Cell.int .i64 0, Cell.int .i64 0] 0 ([(.int .i64 (-1))] : List Cell)) 2 ([(.int .i64 2)] : List Cell)) 5 ([(.int .i64 4)] : List Cell) = (Evt.mk (-1) 0 2 0 0 4).cs := rfl
  rw [hu, c3_ok, asC_ok, asA_ok, asB_ok, if_pos ⟨trivial, rfl, rfl⟩, if_pos ⟨trivial, rfl⟩, hi, c1_ok, asC_ok, hya.len, s1, s2]
  rw [show ((([⟨0, 0, 1, 0, 5, 0⟩] : List Evt).length : Int) == 1) = true from rfl, scK_ok, g1', if_pos q1, d1, if_pos ⟨alike_ev _, alike_ev _⟩, show decide ((Evt.mk 0 0 1 0 5 0).cs = (Evt.mk 0 0 1 0 5 0).cs) = true by simp, bind_ok]
  dsimp only
  rw [scK_ok, show ∀ {α : Type} (f : Cell → Option α), atK (Lcl.mk 1 0 5 0 0).cs 2 f = f (.int .i64 5) from fun _ => rfl, asI_ok, bind_ok]
  dsimp only
  rw [show ((5 : Int) == 5) = true from rfl, scK_ok, bind_ok]
  dsimp only
  rw [show (!false) = true from rfl, scK_ok, hy2.at.len, bind_ok]
  dsimp only
  rw [show ((([4] : List Int).length : Int) == 1) = true from rfl, scK_ok, g2', if_pos q2, d2, if_pos ⟨alike_ev _, alike_ev _⟩, show decide ((Evt.mk (-1) 0 2 0 0 4).cs = (Evt.mk (-1) 0 2 0 0 4).cs) = true by simp, bind_ok]
  exact finish_gc (k5'.trans ((ku.mono k5'.1).trans (ki.mono (Nat.le_trans k5'.1 ku.1)))) (by simp [avOk, AV.cells, idOk])

end
end Jq

/- Programs made of numbers; what a thread's events are. -/
namespace Jq
open Go

/-- Skips lead to where they may. -/
def SkipOk (code : List Ins) : Prop := ∀ (j : Nat) (i : Ins), code[j]? = some i → i.kind = 6 → 0 ≤ i.n ∧ (j : Int) + 1 + i.n ≤ code.length

structure GoodP (most : Nat) (P : PProg) : Prop where
  small : P.small
  good : P.good
  n : 2 ≤ P.thr.length ∧ P.thr.length ≤ 3
  init : P.init.length ≤ 3
  locs : P.locs.length = P.init.length
  code : ∀ c ∈ P.thr, c.length ≤ 6
  skip : ∀ c ∈ P.thr, SkipOk c

theorem SmI.good {L : Int} {i : Ins} (s : SmI L i) {n : Nat} (hn : 1 ≤ n) : GoodI n i := by
  rcases s with ⟨h1, h2, _⟩ | ⟨h1, h2, _⟩ | rfl | ⟨h1, h2, _⟩ | ⟨h1, h2, _, _, h3, _⟩ | ⟨h1, h2, _, _, h3, _, h4⟩
  all_goals refine ⟨?_, ?_, ?_, ?_⟩ <;> (try simp only) <;> omega

theorem SmI.skip {L : Int} {i : Ins} (s : SmI L i) (h : i.kind = 6) : i.n = 1 := by
  rcases s with ⟨h1, _⟩ | ⟨h1, _⟩ | rfl | ⟨h1, _⟩ | ⟨h1, _⟩ | ⟨h1, h2, _, _, h3, _, h4⟩
  · omega
  · omega
  · simp at h
  · omega
  · omega
  · exact h4

theorem ThrOk.skip {L : Int} {k : Nat} {c : List Ins} (t : ThrOk L k c) : SkipOk c := by
  induction t with
  | nil => intro j i h; simp at h
  | @one k c q t hq h6 ih =>
    intro j i h hk
    rcases Nat.lt_or_ge j c.length with hj | hj
    · rw [List.getElem?_append_left hj] at h
      have := ih j i h hk
      rw [List.length_append]; simp; omega
    · rw [List.getElem?_append_right hj] at h
      have := List.mem_of_getElem? h
      rw [List.mem_singleton] at this
      subst this; exact absurd hk h6
  | @two k c q r t hq h6 hr hr1 ih =>
    intro j i h hk
    rcases Nat.lt_or_ge j c.length with hj | hj
    · rw [List.getElem?_append_left hj] at h
      have := ih j i h hk
      rw [List.length_append]; simp; omega
    · rw [List.getElem?_append_right hj] at h
      have h2 := getI_lt h
      simp only [List.length_cons, List.length_nil] at h2
      rcases (show j - c.length = 0 ∨ j - c.length = 1 by omega) with e | e
      · rw [e] at h
        cases h
        have := hq.skip hk
        rw [List.length_append]; simp; omega
      · rw [e] at h
        cases h
        omega

theorem compI_kn {locs : List Int} {i : Ins} : (compI locs i).kind = i.kind ∧ (compI locs i).n = i.n := by
  unfold compI; split <;> exact ⟨rfl, rfl⟩

theorem SkipOk.map {locs : List Int} {c : List Ins} (s : SkipOk c) : SkipOk (c.map (compI locs)) := by
  intro j i h hk
  rw [List.getElem?_map] at h
  cases hc : c[j]? with
  | none => rw [hc] at h; cases h
  | some q =>
    rw [hc] at h
    cases h
    rw [compI_kn.1] at hk
    rw [compI_kn.2, List.length_map]
    exact s j q hc hk

theorem compI_good {locs : List Int} {i : Ins} {n : Nat} (g : GoodI n i) : GoodI n (compI locs i) := by
  unfold compI
  split
  · exact ⟨g.1, g.2, g.3, g.4⟩
  · exact g

theorem SmI.loc {L : Int} {i : Ins} (s : SmI L i) : i.loc = 0 ∨ (120 ≤ i.loc ∧ i.loc < 120 + L) := by
  rcases s with ⟨h1, h2, h3, _⟩ | ⟨h1, h2, h3, _⟩ | rfl | ⟨h1, h2, h3, _⟩ | ⟨h1, h2, h3, _, _⟩ | ⟨h1, h2, h3, _, _, _⟩
  · exact .inr h3
  · exact .inr h3
  · exact .inl rfl
  · exact .inr h3
  · exact .inl h3
  · exact .inl h3

theorem locsF_few (S : Nat → Bool) (hS : ∀ b, 97 ≤ b → b < 120 → S b = false) : ∀ n, n ≤ 26 → (locsF S n).length ≤ n - 23
  | 0, _ => by simp [locsF]
  | n + 1, h => by
    have ih := locsF_few S hS n (by omega)
    rw [locsF_succ]
    split
    · rename_i hs
      have : ¬ 97 + n < 120 := fun hlt => by rw [hS _ (by omega) hlt] at hs; cases hs
      rw [List.length_append, List.length_singleton]; omega
    · omega

theorem GoodT.small {most : Nat} {T : PTest} (g : GoodT most T) : T.small := by
  obtain ⟨L, hL, hc⟩ := g.code
  refine ⟨?_, by have := g.n; omega, fun c hcm => ?_, by have := g.any.1; omega, fun c hcm => by have := (g.any.2 c hcm).1; omega⟩
  · rcases g.inits with h | ⟨v, _, _, h⟩ <;> rw [h] <;> simp
  · obtain ⟨k, hk, ht⟩ := hc c hcm
    have := ht.len; omega

theorem GoodT.few {most : Nat} {T : PTest} (g : GoodT most T) : (locsT T).length ≤ 3 := by
  obtain ⟨L, hL, hc⟩ := g.code
  refine Nat.le_trans (locsF_few (thereT T) (fun b h1 h2 => ?_) 26 (Nat.le_refl _)) (by omega)
  unfold thereT
  rw [Bool.or_eq_false_iff, Bool.or_eq_false_iff]
  refine ⟨⟨?_, ?_⟩, ?_⟩
  · rw [List.any_eq_false]
    intro p hp
    rcases g.inits with h | ⟨v, _, _, h⟩
    · rw [h] at hp; cases hp
    · rw [h] at hp
      rw [List.mem_singleton] at hp
      subst hp
      rw [beq_iff_eq]; simp only; omega
  · rw [List.any_eq_false]
    intro c hcm
    rw [Bool.not_eq_true, List.any_eq_false]
    intro i hi
    obtain ⟨k, hk, ht⟩ := hc c hcm
    rw [beq_iff_eq]
    have := (ht.all i hi).loc
    omega
  · rw [List.any_eq_false]
    intro c hcm
    rw [Bool.not_eq_true, List.any_eq_false]
    intro i hi
    rw [beq_iff_eq]
    have := (g.any.2 c hcm).2 i hi
    omega

theorem GoodT.goodP {most : Nat} {T : PTest} (g : GoodT most T) : GoodP most (compT T) := by
  obtain ⟨L, hL, hc⟩ := g.code
  have hlen : ∀ c ∈ T.thr, c.length ≤ 6 := fun c hcm => by
    obtain ⟨k, hk, ht⟩ := hc c hcm
    have := ht.len; omega
  have hcode : ∀ c ∈ (compT T).thr, c.length ≤ 6 := fun c hcm => by
    obtain ⟨d, hd, rfl⟩ := List.mem_map.1 hcm
    rw [List.length_map]; exact hlen d hd
  have hn : (compT T).thr.length = T.thr.length := List.length_map _
  have hi : (compT T).init.length = (locsT T).length := List.length_map _
  have hfew := g.few
  have hgn := g.n
  refine ⟨⟨by omega, fun c hcm => by have := hcode c hcm; omega⟩, ⟨⟨by omega, fun c hcm => by have := hcode c hcm; omega⟩, fun c hcm => ?_⟩, by omega, by omega, hi.symm, hcode, fun c hcm => by
    obtain ⟨d, hd, rfl⟩ := List.mem_map.1 hcm
    obtain ⟨k, hk, ht⟩ := hc d hd
    exact ht.skip.map⟩
  obtain ⟨d, hd, rfl⟩ := List.mem_map.1 hcm
  intro i him
  obtain ⟨j, hj, rfl⟩ := List.mem_map.1 him
  rw [List.length_map]
  obtain ⟨k, hk, ht⟩ := hc d hd
  exact compI_good ((ht.all j hj).good (List.length_pos_of_mem hj))

section
variable {E : Env}

/-- A program made of numbers. -/
theorem Of6_R (hE : jacquardlaw6_Of_In E) {h : AHeap} {x : Cell} {l : List Int} (hx : SlAt h x 1 (intC .i64 l) l.length) (hlow : Low h.length x) (hl : l.length < 9223372036854775808) {most : Nat} (hmost : most ≤ 900) :
    ∃ (cs : List Cell) (h' : AHeap) (P : PProg), R E 76 [.c x, .c (.int .i64 (most : Int))] h = some ([.agg cs], h') ∧ ProgAt h' cs P ∧ GoodP most P ∧ Kp h.length h h' := by
  obtain ⟨cs, h1, T, s1, s2, s3, s4⟩ := Small_R hE.c97 hx hlow hl hmost
  obtain ⟨cs2, h2, t1, t2, t3⟩ := refCompile_R hE.c101 s2 s3.small
  refine ⟨cs2, h2, compT T, R_intro hE.fn ?_, t2, s3.goodP, s4.trans (t3.mono s4.1)⟩
  rw [jacquardlaw6_Of_eq, s1, c1_ok, asA_ok, t1, c1_ok, asA_ok, if_pos ⟨rfl, rfl, t2.len⟩, if_pos ⟨rfl, t2.len⟩]

end

/-- How many events read. -/
def rdc (l : List Evt) : Nat := l.countP evRd
theorem rdc_snoc (l : List Evt) (e : Evt) : rdc (l ++ [e]) = rdc l + if evRd e = true then 1 else 0 := by
  unfold rdc; rw [List.countP_append, List.countP_cons, List.countP_nil]; simp

def EvOk (t : Int) (all : List Int) (j n : Nat) (e : Evt) : Prop :=
  e.t = t ∧ e.i = (j : Int) ∧ 1 ≤ e.kind ∧ e.kind ≤ 5 ∧ (evWr e = false → e.w = 0) ∧ (evRd e = true → all[n]? = some e.r) ∧ (evRd e = false → e.r = 0)
def OutOk (t : Int) (all : List Int) (out : List Evt) : Prop := ∀ (j : Nat) (e : Evt), out[j]? = some e → EvOk t all j (rdc (out.take j)) e

theorem OutOk.nil (t : Int) (all : List Int) : OutOk t all [] := fun j e h => by simp at h
theorem OutOk.snoc {t : Int} {all : List Int} {out : List Evt} {e : Evt} (o : OutOk t all out) (he : EvOk t all out.length (rdc out) e) : OutOk t all (out ++ [e]) := by
  intro j q hq
  rcases Nat.lt_or_ge j out.length with h | h
  · rw [List.getElem?_append_left h] at hq
    rw [List.take_append_of_le_length (by omega)]
    exact o j q hq
  · have hj : j = out.length := by
      have : j < (out ++ [e]).length := by
        rcases Nat.lt_or_ge j (out ++ [e]).length with h | h
        · exact h
        · rw [List.getElem?_eq_none h] at hq; cases hq
      rw [List.length_append, List.length_singleton] at this; omega
    subst hj
    rw [List.getElem?_append_right (Nat.le_refl _), Nat.sub_self] at hq
    cases hq
    rw [List.take_left]
    exact he

theorem evOf_rd {i : Ins} (hk : 1 ≤ i.kind ∧ i.kind ≤ 4) (l : Lcl) (v t n : Int) : evRd { evOf i l v with t := t, i := n } = rdI i := by
  unfold evRd evOf rdI
  rcases (show i.kind = 1 ∨ i.kind = 2 ∨ i.kind = 3 ∨ i.kind = 4 by omega) with h | h | h | h <;> simp [h]
  split <;> simp

theorem evOf_kind (i : Ins) (l : Lcl) (v : Int) : 1 ≤ (evOf i l v).kind ∧ (evOf i l v).kind ≤ 5 := by
  unfold evOf
  repeat' split
  all_goals simp

theorem evOf_w (i : Ins) (l : Lcl) (v t n : Int) (h : evWr { evOf i l v with t := t, i := n } = false) : (evOf i l v).w = 0 := by
  revert h
  unfold evOf evWr
  repeat' split
  all_goals simp

theorem evOf_r {i : Ins} (l : Lcl) (v : Int) : (evOf i l v).r = if rdI i = true then v else 0 := by
  unfold evOf rdI
  by_cases h1 : i.kind = 1
  · simp [h1]
  · by_cases h2 : i.kind = 2
    · simp [h2]
    · by_cases h4 : i.kind = 4
      · simp [h4]; split <;> rfl
      · simp [h1, h2, h4]

theorem unf_ok {code : List Ins} {t : Int} {all : List Int} : ∀ (k : Nat) (l : Lcl) (rs : List Int) (out : List Evt), OutOk t all out → rs = all.drop (rdc out) → rdc out ≤ all.length → out.length ≤ code.length → (out.length : Int) ≤ l.pc → 0 ≤ l.pc → (code.length : Int) < l.pc + k →
    OutOk t all (unf code t k l rs out).1 ∧ rdc (unf code t k l rs out).1 ≤ all.length ∧ ((unf code t k l rs out).2.2 = true → rdc (unf code t k l rs out).1 = all.length) ∧ (nextI code (unf code t k l rs out).2.1).isSome = (unf code t k l rs out).2.2 ∧ (unf code t k l rs out).1.length ≤ code.length := by
  intro k
  induction k with
  | zero =>
    intro l rs out o hrs hle hlen hpl h0 hp
    have hn : nextI code l = none := by
      cases hq : nextI code l with
      | none => rfl
      | some i => have := nextI_kind hq; omega
    exact ⟨o, hle, (fun h => Bool.noConfusion h), (by show (nextI code l).isSome = false; rw [hn]; rfl), hlen⟩
  | succ k ih =>
    intro l rs out o hrs hle hlen hpl h0 hp
    rw [unf]
    cases hn : nextI code l with
    | none => exact ⟨o, hle, (fun h => Bool.noConfusion h), (by dsimp only; rw [hn]; rfl), hlen⟩
    | some i =>
      have hk := nextI_kind hn
      have hlt : out.length < code.length := by omega
      dsimp only
      by_cases hr : rdI i = true
      · rw [if_pos hr]
        cases rs with
        | nil =>
          have hall : all.length ≤ rdc out := by
            have := congrArg List.length hrs
            rw [List.length_drop, List.length_nil] at this; omega
          exact ⟨o, hle, fun _ => by show rdc out = _; omega, by dsimp only; rw [hn]; rfl, hlen⟩
        | cons v rs =>
          dsimp only
          have hv : all[rdc out]? = some v := by rw [← List.head?_drop, ← hrs]; rfl
          have hlt2 : rdc out < all.length := (List.getElem?_eq_some_iff.1 hv).1
          have hrd := evOf_rd hk.2.2.2 l v t out.length
          rw [hr] at hrd
          refine ih _ _ _ (o.snoc ⟨rfl, rfl, (evOf_kind i l v).1, (evOf_kind i l v).2, evOf_w i l v t out.length, fun _ => ?_, fun h => ?_⟩) ?_ ?_ ?_ ?_ ?_ ?_
          · rw [hv]; show some v = some (evOf i l v).r; rw [evOf_r, if_pos hr]
          · rw [hrd] at h; cases h
          · rw [rdc_snoc, if_pos hrd, ← List.drop_drop, ← hrs]; rfl
          · rw [rdc_snoc, if_pos hrd]; omega
          · rw [List.length_append, List.length_singleton]; omega
          · have := afterL_pc hn v; rw [List.length_append, List.length_singleton]; omega
          · have := afterL_pc hn v; omega
          · have := afterL_pc hn v; omega
      · rw [if_neg hr]
        have hr' : rdI i = false := by simpa using hr
        have hrd := evOf_rd hk.2.2.2 l 0 t out.length
        rw [hr'] at hrd
        refine ih _ _ _ (o.snoc ⟨rfl, rfl, (evOf_kind i l 0).1, (evOf_kind i l 0).2, evOf_w i l 0 t out.length, fun h => ?_, fun _ => ?_⟩) ?_ ?_ ?_ ?_ ?_ ?_
        · rw [hrd] at h; cases h
        · show (evOf i l 0).r = 0; rw [evOf_r, if_neg hr]
        · rw [rdc_snoc, if_neg (by rw [hrd]; simp)]; exact hrs
        · rw [rdc_snoc, if_neg (by rw [hrd]; simp)]; exact hle
        · rw [List.length_append, List.length_singleton]; omega
        · have := afterL_pc hn 0; rw [List.length_append, List.length_singleton]; omega
        · have := afterL_pc hn 0; omega
        · have := afterL_pc hn 0; omega

end Jq

/- Laws of events: how many. -/
namespace Jq
open Go

section
variable {E : Env}

end
end Jq

namespace Jq
open Go


end Jq

/- What a function needs of an environment. -/
namespace Jq
open Go


end Jq

namespace Jq
open Go


end Jq

/- Orders: what must be ahead of each; whether a row keeps a relation. -/
namespace Jq
open Go

/-- Words, one behind the other. -/
def setC (n : Nat) (F : Nat → Nat) : List Cell := (List.range n).map fun j => .int .u64 (F j : Nat)

variable {E : Env}

/-- Whether a row keeps to what must be ahead, some done. -/
def kpR (n : Nat) (B : Nat → Nat) : List Int → Nat → Bool
  | [], _ => true
  | v :: t, d => if (decide (v < 0) || decide (v ≥ (n : Int)) || hasI d v || (ndiff (B v.toNat) d != 0)) = true then false else kpR n B t (d ||| bitI v)

end Jq

