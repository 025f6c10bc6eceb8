/- YtldfafaiappibaaProgStepsD: a part of the proof; no conditions of its own. -/
import Derived.KernelRfl
import Derived.Test.YtldfafaiappibaaRows
import Derived.WalkKit
import Derived.ProofKit
import Derived.OpenShut
import Derived.ShutString
import Derived.ChangeOld
import Derived.Below
import Derived.Carry
import Derived.Test.YtldfafaiappibaaProgStepsC
set_option linter.unusedVariables false
set_option linter.unusedSimpArgs false

/- Is a test one that may be, as the document says? -/
namespace Jq
open Go

/-- A loop that looks for one. -/
theorem Lim_scan {F : St → Option (Ex × St)} (S : Nat → St) (n : Nat) (bad : Nat → Bool) (r x : St) (e : Nat) (hs : ∀ i, i < n → F (S i) = if bad i = true then some (.ret, r) else some (.normal, S (i + 1))) (he : F (S n) = some (.exit e, x)) :
    Lim F (S 0) = some (if (List.range n).any bad = true then (.ret, r) else (.exit e, x)) := by
  have key : ∀ (d i : Nat), i + d = n → Lim F (S i) = some (if (List.range d).any (fun k => bad (i + k)) = true then (.ret, r) else (.exit e, x)) := by
    intro d
    induction d with
    | zero =>
      intro i hi
      obtain rfl : i = n := by omega
      rw [Lim_exit he]; rfl
    | succ d ih =>
      intro i hi
      have h1 := hs i (by omega)
      rw [List.range_succ_eq_map, List.any_cons, List.any_map, Nat.add_zero]
      cases hb : bad i with
      | true =>
        rw [hb, if_pos rfl] at h1
        rw [Lim_ret h1, Bool.true_or, if_pos rfl]
      | false =>
        rw [hb, if_neg (by simp)] at h1
        have h2 := ih (i + 1) (by omega)
        rw [Bool.false_or]
        have he : ((List.range d).any ((fun k => bad (i + k)) ∘ Nat.succ)) = (List.range d).any fun k => bad (i + 1 + k) := by
          congr 1
          funext k
          show bad (i + (k + 1)) = _
          rw [show i + (k + 1) = i + 1 + k by omega]
        rw [he]
        exact Lim_next h1 h2
  have := key n 0 (by omega)
  simpa only [Nat.zero_add] using this

def atB {α : Type} (l : List α) (f : Nat → α → Bool) (i : Nat) : Bool := match l[i]? with | some q => f i q | none => false
theorem atB_ok {α : Type} {l : List α} {f : Nat → α → Bool} {i : Nat} {q : α} (h : l[i]? = some q) : atB l f i = f i q := by unfold atB; rw [h]
theorem atB_any {α : Type} (l : List α) (f : α → Bool) : (List.range l.length).any (atB l fun _ => f) = l.any f := by
  induction l with
  | nil => rfl
  | cons a l ih =>
    rw [List.length_cons, List.range_succ_eq_map, List.any_cons, List.any_map, List.any_cons, ← ih]
    rfl

def memB (a : Atm) : Bool := (a.thread == -1 && a.reg == 0) && locB a.loc
def ownB (a : Atm) : Bool := ((((decide (a.thread ≥ 0) && decide (a.thread ≤ 9)) && decide (a.reg ≥ 0)) && decide (a.reg ≤ 3)) && a.loc == 0)
theorem atm_eq (a : Atm) : (!memB a && !ownB a) = !atmB a := by
  unfold memB ownB atmB
  by_cases h : a.thread = -1
  · rw [if_pos h, h]
    cases (a.reg == 0) <;> cases locB a.loc <;> simp
  · rw [if_neg h, regB_le, show (a.thread == -1) = false by simpa using h]
    cases decide (a.thread ≥ 0) <;> cases decide (a.thread ≤ 9) <;> cases decide (a.reg ≥ 0) <;> cases decide (a.reg ≤ 3) <;> cases (a.loc == 0) <;> rfl

section
variable {E : Env}

theorem letter_R (hE : jacquardref2_letter_In E) (n : Int) (h : AHeap) : R E 151 [.c (.int .u8 n)] h = some ([.c (.bool (decide (n ≥ 97) && decide (n ≤ 122)))], h) := by
  refine R_intro hE.fn ?_
  rw [jacquardref2_letter_eq, scK_and]
theorem digit_R (hE : jacquardref2_digit_In E) (n : Int) (h : AHeap) : R E 152 [.c (.int .u8 n)] h = some ([.c (.bool (decide (n ≥ 48) && decide (n ≤ 57)))], h) := by
  refine R_intro hE.fn ?_
  rw [jacquardref2_digit_eq, scK_and]

theorem word_R (hE : jacquardref2_word_In E) {s : ByteArray} (hs : s.size < 9223372036854775807) (h : AHeap) : R E 135 [.c (.str s)] h = some ([.c (.bool (wordB s))], h) := by
  refine R_intro hE.fn ?_
  have s1 : ∀ {α : Type} (f : Int → Option α), lenSK (.str s) f = f s.size := fun _ => rfl
  have hl := Lim_scan (F := jacquardref2_word_F1 (R E) Lim E.glob) (fun i => jacquardref2_word_s1 s (i : Int) h) s.size (fun i => match s[i]? with | some b => !chrB b (i == 0) | none => false) (jacquardref2_word_x1_0 false h) (jacquardref2_word_x1_1 s h) 0 (fun i hi => by
    have hq : s[i]? = some s[i] := getElem?_pos s i hi
    generalize s[i] = b at hq
    have hc : ∀ {α : Type} (f : UInt8 → Option α), (s[Int.toNat (i : Int)]?.bind f) = f b := fun f => by rw [Int.toNat_natCast, hq]; rfl
    have hz : decide ((i : Int) > 0) = !(i == 0) := by cases i <;> simp <;> omega
    rw [jacquardref2_word_r1, s1, if_pos (by simp; omega), if_pos (by omega), hc, letter_R hE.c151, c1_ok, asB_ok, if_pos (by omega), hc, digit_R hE.c152, c1_ok, asB_ok, scK_and, scK_and, hz, g_succ (show i < 9223372036854775807 by omega), hq]
    dsimp only
    have he : (!(decide ((b.toNat : Int) ≥ 97) && decide ((b.toNat : Int) ≤ 122)) && !(!(i == 0) && (decide ((b.toNat : Int) ≥ 48) && decide ((b.toNat : Int) ≤ 57)))) = !chrB b (i == 0) := by
      unfold chrB
      have e1 : decide ((b.toNat : Int) ≥ 97) = !decide ((b.toNat : Int) < 97) := by rw [Bool.eq_iff_iff]; simp
      have e2 : decide ((b.toNat : Int) ≤ 122) = !decide ((b.toNat : Int) > 122) := by rw [Bool.eq_iff_iff]; simp
      have e3 : decide ((b.toNat : Int) ≥ 48) = !decide ((b.toNat : Int) < 48) := by rw [Bool.eq_iff_iff]; simp
      have e4 : decide ((b.toNat : Int) ≤ 57) = !decide ((b.toNat : Int) > 57) := by rw [Bool.eq_iff_iff]; simp
      rw [e1, e2, e3, e4]
      cases decide ((b.toNat : Int) < 97) <;> cases decide ((b.toNat : Int) > 122) <;> cases decide ((b.toNat : Int) < 48) <;> cases decide ((b.toNat : Int) > 57) <;> cases (i == 0) <;> rfl
    rw [he]) (by rw [jacquardref2_word_r1, s1, if_neg (by simp)])
  have hall : ((List.range s.size).any fun i => match s[i]? with | some b => !chrB b (i == 0) | none => false) = !((List.range s.size).all fun i => match s[i]? with | some b => chrB b (i == 0) | none => true) := by
    rw [List.any_eq_not_all_not]
    congr 2
    funext i
    cases s[i]? with
    | none => rfl
    | some b => simp
  rw [hall] at hl
  have hl' : Lim (jacquardref2_word_F1 (R E) Lim E.glob) (jacquardref2_word_s1 s 0 h) = _ := hl
  rw [jacquardref2_word_eq, hl', bind_ok]
  unfold wordB
  cases hb : ((List.range s.size).all fun i => match s[i]? with | some b => chrB b (i == 0) | none => true) with
  | true =>
    rw [if_neg (show ¬ (!true) = true by simp)]
    dsimp only
    rw [jacquardref2_word_e1_1]; rfl
  | false =>
    rw [if_pos (show (!false) = true from rfl)]
    dsimp only
    rw [jacquardref2_word_e1_0]; rfl

theorem CondOk_R (hE : jacquardref2_CondOk_In E) {ck : Int} {c : Cell} {any : List (List Atm)} {h : AHeap} (hc : RowsOf 4 atmC h c any) (hl : any.length < 9223372036854775807) (hr : ∀ r ∈ any, r.length < 9223372036854775807) : R E 136 [.agg [.int .i64 ck, c]] h = some ([.c (.bool (condB ck any))], h) := by
  refine R_intro hE.fn ?_
  have a0 : ∀ {α : Type} (f : Cell → Option α), atK [.int .i64 ck, c] 0 f = f (.int .i64 ck) := fun _ => rfl
  have a1 : ∀ {α : Type} (f : Cell → Option α), atK [.int .i64 ck, c] 1 f = f c := fun _ => rfl
  have inner : ∀ (i : Nat) (row : List Atm), any[i]? = some row → Lim (jacquardref2_CondOk_F1 (R E) Lim E.glob) (jacquardref2_CondOk_s1 (i : Int) 0 [.int .i64 ck, c] h) = some (if (row.any fun a => !atmB a) = true then (.ret, jacquardref2_CondOk_x1_0 false h) else (.exit 2, jacquardref2_CondOk_x1_3 (i : Int) [.int .i64 ck, c] h)) := by
    intro i row hrow
    obtain ⟨y, y1, y2, y3⟩ := hc.get (β := Ex × St) hrow
    have hrl := hr row (List.mem_of_getElem? hrow)
    rw [← atB_any]
    exact Lim_scan (F := jacquardref2_CondOk_F1 (R E) Lim E.glob) (fun k => jacquardref2_CondOk_s1 (i : Int) (k : Int) [.int .i64 ck, c] h) row.length (atB row fun _ a => !atmB a) _ _ 2 (fun k hk => by
      have hq : row[k]? = some row[k] := List.getElem?_eq_getElem hk
      generalize row[k] = q at hq
      obtain ⟨off, cc, g1, g2, g3⟩ := y1.atmG hq
      have q0 : ∀ {α : Type} (f : Cell → Option α), atK q.cs 0 f = f (.int .i64 q.thread) := fun _ => rfl
      have q1 : ∀ {α : Type} (f : Cell → Option α), atK q.cs 1 f = f (.int .i64 q.reg) := fun _ => rfl
      have q2 : ∀ {α : Type} (f : Cell → Option α), atK q.cs 2 f = f (.int .i64 q.loc) := fun _ => rfl
      rw [jacquardref2_CondOk_r1, a1, y3, y1.len, if_pos (by simp; omega), a1, y3, g1, if_pos g2, g3, if_pos ⟨rfl, rfl, rfl⟩]
      simp only [q0, q1, q2, asI_ok, named_R hE.c137, c1_ok, asB_ok, scK_and]
      rw [atB_ok hq, g_succ (by omega)]
      have he := atm_eq q
      unfold memB ownB at he
      rw [← he]) (by rw [jacquardref2_CondOk_r1, a1, y3, y1.len, if_neg (by simp)])
  have outer : Lim (jacquardref2_CondOk_F2 (R E) Lim E.glob) (jacquardref2_CondOk_s2 0 [.int .i64 ck, c] h) = some (if any.any rowBad = true then (.ret, jacquardref2_CondOk_x2_0 false h) else (.exit 0, jacquardref2_CondOk_x2_1 h)) := by
    rw [← atB_any]
    exact Lim_scan (F := jacquardref2_CondOk_F2 (R E) Lim E.glob) (fun k => jacquardref2_CondOk_s2 (k : Int) [.int .i64 ck, c] h) any.length (atB any fun _ => rowBad) _ _ 0 (fun k hk => by
      have hq : any[k]? = some any[k] := List.getElem?_eq_getElem hk
      generalize any[k] = row at hq
      obtain ⟨y, y1, y2, y3⟩ := hc.get (β := Ex × St) hq
      have hz : ((row.length : Int) == 0) = (row.length == 0) := by cases row <;> rfl
      rw [jacquardref2_CondOk_r2, a1, hc.len, if_pos (by simp; omega), a1, y3, y1.len, hz, inner k row hq, atB_ok hq, bind_ok]
      unfold rowBad
      cases hz2 : (row.length == 0) with
      | true => rw [if_pos rfl, Bool.true_or, if_pos rfl]
      | false =>
        rw [if_neg (by simp), Bool.false_or]
        cases hb : (row.any fun a => !atmB a) with
        | true => rw [if_pos rfl, if_pos rfl]; dsimp only; rw [jacquardref2_CondOk_e1_0]
        | false => rw [if_neg (by simp), if_neg (by simp)]; dsimp only; rw [jacquardref2_CondOk_e1_3, g_succ (by omega)]) (by rw [jacquardref2_CondOk_r2, a1, hc.len, if_neg (by simp)])
  have hz : ((any.length : Int) == 0) = (any.length == 0) := by cases any <;> rfl
  rw [jacquardref2_CondOk_eq]
  simp only [a0, a1, asI_ok, hc.len, scK_or, hz]
  unfold condB
  by_cases h0 : ck = 0
  · rw [if_pos (by simpa using h0), if_pos h0]
  rw [if_neg (by simpa using h0), if_neg h0]
  by_cases hb : ((decide (ck < 0) || decide (ck > 2)) || any.length == 0) = true
  · rw [if_pos hb]
    have : ((ck == 1 || ck == 2) && decide ((any.length : Int) > 0)) = false := by
      rw [Bool.eq_false_iff]
      intro hh
      simp at hh hb
      rcases hb with hb | hb
      · omega
      · rw [hb] at hh; simp at hh
    rw [this, Bool.false_and]
  · rw [if_neg hb, outer, bind_ok]
    have : ((ck == 1 || ck == 2) && decide ((any.length : Int) > 0)) = true := by
      simp at hb
      have hp : 0 < any.length := by
        rcases Nat.eq_zero_or_pos any.length with e | e
        · exact absurd (List.length_eq_zero_iff.1 e) hb.2
        · exact e
      simp
      exact ⟨by omega, by omega⟩
    rw [this, Bool.true_and]
    cases hb2 : any.any rowBad with
    | true => rw [if_pos rfl]; dsimp only; rw [jacquardref2_CondOk_e2_0]; rfl
    | false => rw [if_neg (by simp)]; dsimp only; rw [jacquardref2_CondOk_e2_1]; rfl

end
end Jq

/- The document's check of a test. -/
namespace Jq
open Go

theorem atB_take {α : Type} (l : List α) (f : α → Bool) {i : Nat} (hi : i ≤ l.length) : (List.range i).any (atB l fun _ => f) = (l.take i).any f := by
  rw [← atB_any (l.take i) f, List.length_take, Nat.min_eq_left hi]
  refine any_congr' fun k hk => ?_
  have hk : k < i := by simpa using hk
  unfold atB
  rw [List.getElem?_take, if_pos hk]

def sumM (l : List (List Ins)) : Int := ((l.map fun c => min c.length 100).sum : Nat)
theorem sumM_snoc (l : List (List Ins)) (c : List Ins) : sumM (l ++ [c]) = sumM l + (min c.length 100 : Nat) := by
  unfold sumM; rw [List.map_append, List.sum_append]; simp
theorem sumM_le (l : List (List Ins)) : (l.map fun c => min c.length 100).sum ≤ 100 * l.length := by
  induction l with
  | nil => simp
  | cons a l ih => rw [List.map_cons, List.sum_cons, List.length_cons]; omega
theorem sumM_eq (l : List (List Ins)) (h : ∀ c ∈ l, c.length ≤ 10) : sumM l = sumL l := by
  unfold sumM sumL
  congr 2
  refine List.map_congr_left fun c hc => ?_
  have := h c hc; omega

theorem big_eq {T : PTest} (hl : locsW T = locsT T) :
    (((((((decide ((T.thr.length : Int) < 1) || decide ((T.thr.length : Int) > 4)) || decide ((T.name.size : Int) > 20)) || decide ((T.any.length : Int) > 8)) || decide (((locsT T).length : Int) > 4)) || ((T.thr.take (min T.thr.length 5)).any fun c => decide ((c.length : Int) > 10))) || (T.any.any fun r => decide ((r.length : Int) > 8))) || decide (sumM (T.thr.take (min T.thr.length 5)) > 24)) = bigB T := by
  unfold bigB
  rw [hl]
  by_cases h0 : T.thr.length = 0
  · rw [show decide ((T.thr.length : Int) < 1) = true from decide_eq_true (by omega), show ((T.thr.length : Int) == 0) = true by rw [beq_iff_eq]; omega]
    simp
  by_cases h4 : T.thr.length > 4
  · rw [show decide ((T.thr.length : Int) > 4) = true from decide_eq_true (by omega)]
    simp
  rw [show decide ((T.thr.length : Int) < 1) = false from decide_eq_false (by omega), show decide ((T.thr.length : Int) > 4) = false from decide_eq_false (by omega), show ((T.thr.length : Int) == 0) = false by rw [beq_eq_false_iff_ne]; omega, List.take_of_length_le (by omega)]
  cases hb : T.thr.any fun c => decide ((c.length : Int) > 10) with
  | true => simp
  | false =>
    have hs : sumM T.thr = sumL T.thr := sumM_eq _ fun c hc => by
      rw [List.any_eq_false] at hb
      have := hb c hc
      simp at this; omega
    rw [hs]
    generalize decide ((T.name.size : Int) > 20) = x1
    generalize decide ((T.any.length : Int) > 8) = x2
    generalize decide (((locsT T).length : Int) > 4) = x3
    generalize (T.any.any fun r => decide ((r.length : Int) > 8)) = x4
    generalize decide (sumL T.thr > 24) = x5
    cases x1 <;> cases x2 <;> cases x3 <;> cases x4 <;> cases x5 <;> rfl

theorem fldB_n {i : Ins} (h : fldB locB i = true) (h6 : i.kind = 6) : 0 ≤ i.n := by
  unfold fldB at h
  rw [if_neg (by omega), if_neg (by omega), if_neg (by omega), if_neg (by omega), if_neg (by omega), if_pos h6] at h
  simp only [Bool.and_eq_true, decide_eq_true_eq] at h
  exact h.1.1.1

def jmpAt (len : Nat) (k : Nat) (i : Ins) : Bool := i.kind == 6 && (decide (i.n < 1) || decide (i.n > (len : Int) - k - 1))
theorem jmpB_any (l : List Ins) : (!jmpB l) = (List.range l.length).any (atB l (jmpAt l.length)) := by
  unfold jmpB
  rw [List.any_eq_not_all_not]
  congr 2
  funext k
  unfold atB jmpAt
  cases l[k]? with
  | none => rfl
  | some i => rfl

section
variable {E : Env}

theorem TestOk_R (hE : jacquardref2_TestOk_In E) {cs : List Cell} {T : PTest} {h : AHeap} (p : TestAt h cs T) (hs : T.fits) : R E 120 [.agg cs] h = some ([.c (.bool (okT T))], h) := by
  refine R_intro hE.fn ?_
  obtain ⟨a, b, c, rfl, ⟨ha, hal⟩, hb, hc⟩ := p
  have a0 : ∀ {α : Type} (f : Cell → Option α), atK [.str T.name, a, b, .int .i64 T.ck, c] 0 f = f (.str T.name) := fun _ => rfl
  have a1 : ∀ {α : Type} (f : Cell → Option α), atK [.str T.name, a, b, .int .i64 T.ck, c] 1 f = f a := fun _ => rfl
  have a2 : ∀ {α : Type} (f : Cell → Option α), atK [.str T.name, a, b, .int .i64 T.ck, c] 2 f = f b := fun _ => rfl
  have l1 : Lim (jacquardref2_TestOk_F1 (R E) Lim E.glob) (jacquardref2_TestOk_s1 0 [.str T.name, a, b, .int .i64 T.ck, c] h) = some (if (T.inits.any fun p => !locB p.1) = true then (.ret, jacquardref2_TestOk_x1_0 false h) else (.exit 0, jacquardref2_TestOk_x1_1 [.str T.name, a, b, .int .i64 T.ck, c] h)) := by
    have n1 := hs.inits
    rw [← atB_any]
    exact Lim_scan (F := jacquardref2_TestOk_F1 (R E) Lim E.glob) (fun k => jacquardref2_TestOk_s1 (k : Int) [.str T.name, a, b, .int .i64 T.ck, c] h) T.inits.length (atB T.inits fun _ p => !locB p.1) _ _ 0 (fun k hk => by
      have hq : T.inits[k]? = some T.inits[k] := List.getElem?_eq_getElem hk
      generalize T.inits[k] = q at hq
      rw [jacquardref2_TestOk_r1, a1, ha.len, if_pos (by simp; omega), a1, ha.get hk (by omega) (pairC_get _ _ _ hq).1, asI_ok, named_R hE.c137, c1_ok, asB_ok, atB_ok hq, g_succ (by omega)]) (by rw [jacquardref2_TestOk_r1, a1, ha.len, if_neg (by simp)])
  have inner : ∀ (t : Nat) (code : List Ins), T.thr[t]? = some code → Lim (jacquardref2_TestOk_F2 (R E) Lim E.glob) (jacquardref2_TestOk_s2 (t : Int) 0 [.str T.name, a, b, .int .i64 T.ck, c] h) = some (if (code.any fun i => !fldB locB i) = true then (.ret, jacquardref2_TestOk_x2_0 false h) else (.exit 4, jacquardref2_TestOk_x2_5 (t : Int) [.str T.name, a, b, .int .i64 T.ck, c] h)) := by
    intro t code ht
    obtain ⟨y, y1, y2, y3⟩ := hb.get (β := Ex × St) ht
    have hcl := hs.code code (List.mem_of_getElem? ht)
    rw [← atB_any]
    exact Lim_scan (F := jacquardref2_TestOk_F2 (R E) Lim E.glob) (fun k => jacquardref2_TestOk_s2 (t : Int) (k : Int) [.str T.name, a, b, .int .i64 T.ck, c] h) code.length (atB code fun _ i => !fldB locB i) _ _ 4 (fun k hk => by
      have hq : code[k]? = some code[k] := List.getElem?_eq_getElem hk
      generalize code[k] = q at hq
      obtain ⟨off, cc, g1, g2, g3⟩ := y1.insG hq
      rw [jacquardref2_TestOk_r2, a2, y3, y1.len, if_pos (by simp; omega), a2, y3, g1, if_pos g2, g3, InsOk_R hE.c138, c1_ok, asB_ok, atB_ok hq, g_succ (by omega)]) (by rw [jacquardref2_TestOk_r2, a2, y3, y1.len, if_neg (by simp)])
  have l3 : Lim (jacquardref2_TestOk_F3 (R E) Lim E.glob) (jacquardref2_TestOk_s3 0 [.str T.name, a, b, .int .i64 T.ck, c] h) = some (if (T.thr.any fun c => c.any fun i => !fldB locB i) = true then (.ret, jacquardref2_TestOk_x3_0 false h) else (.exit 2, jacquardref2_TestOk_x3_3 h)) := by
    have n2 := hs.thr
    rw [← atB_any]
    exact Lim_scan (F := jacquardref2_TestOk_F3 (R E) Lim E.glob) (fun k => jacquardref2_TestOk_s3 (k : Int) [.str T.name, a, b, .int .i64 T.ck, c] h) T.thr.length (atB T.thr fun _ c => c.any fun i => !fldB locB i) _ _ 2 (fun t ht => by
      have hq : T.thr[t]? = some T.thr[t] := List.getElem?_eq_getElem ht
      generalize T.thr[t] = code at hq
      rw [jacquardref2_TestOk_r3, a2, hb.len, if_pos (by simp; omega), inner t code hq, bind_ok, atB_ok hq]
      cases hbb : (code.any fun i => !fldB locB i) with
      | true => rw [if_pos rfl, if_pos rfl]; dsimp only; rw [jacquardref2_TestOk_e2_0]
      | false => rw [if_neg (by simp), if_neg (by simp)]; dsimp only; rw [jacquardref2_TestOk_e2_5, g_succ (by omega)]) (by rw [jacquardref2_TestOk_r3, a2, hb.len, if_neg (by simp)])
  rw [jacquardref2_TestOk_eq, a0, show ∀ {α : Type} (f : ByteArray → Option α), asS (.c (.str T.name)) f = f T.name from fun _ => rfl, word_R hE.c135 hs.name, c1_ok, asB_ok, if_pos (by exact Nat.le_of_ble_eq_true rfl), show ((([.str T.name, a, b, .int .i64 T.ck, c] : List Cell).drop 3).take 2) = [.int .i64 T.ck, c] from rfl, CondOk_R hE.c136 hc hs.any hs.row, c1_ok, asB_ok, scK_or]
  unfold okT
  cases hw : wordB T.name with
  | false => rw [if_pos (by simp)]; rfl
  | true =>
    cases hcd : condB T.ck T.any with
    | false => rw [if_pos (by simp)]; simp
    | true =>
      rw [if_neg (by simp), l1, bind_ok]
      cases hi : (T.inits.any fun p => !locB p.1) with
      | true => rw [if_pos rfl]; dsimp only; rw [jacquardref2_TestOk_e1_0]; rfl
      | false =>
        rw [if_neg (by simp)]; dsimp only; rw [jacquardref2_TestOk_e1_1, l3, bind_ok]
        cases ht : (T.thr.any fun c => c.any fun i => !fldB locB i) with
        | true => rw [if_pos rfl]; dsimp only; rw [jacquardref2_TestOk_e3_0]; rfl
        | false => rw [if_neg (by simp)]; dsimp only; rw [jacquardref2_TestOk_e3_3]; rfl

end
end Jq

/- The document's check of a test: the whole. -/
namespace Jq
open Go

section
variable {E : Env}

theorem refCheck_R (hE : jacquardref2_Check_In E) {cs : List Cell} {T : PTest} {h : AHeap} (p : TestAt h cs T) (hs : T.small) (hn : T.name.size < 9223372036854775807) :
    ∃ h', R E 99 [.agg cs] h = some ([.c (.int .i64 (checkT T))], h') ∧ Kp h.length h h' := by
  have hfit := hs.fits hn
  suffices hh : ∃ h', jacquardref2_Check.body (R E) Lim E.glob [.agg cs] h = some ([.c (.int .i64 (checkT T))], h') ∧ Kp h.length h h' by
    obtain ⟨h', h1, h2⟩ := hh; exact ⟨h', R_intro hE.fn h1, h2⟩
  by_cases hok : okT T = true
  case neg =>
    refine ⟨h, ?_, Kp.refl _ _⟩
    have : okT T = false := by simpa using hok
    rw [jacquardref2_Check_eq, if_pos ⟨rfl, p.len⟩, TestOk_R hE.c120 p hfit, c1_ok, asB_ok, this, if_pos (show (!false) = true from rfl)]
    unfold checkT
    rw [this, if_pos (show (!false) = true from rfl)]
  obtain ⟨yl, hl1, rl, ol, kl⟩ := refLocs_R hE.c121 p hs
  have p0 := p
  obtain ⟨a, b, c, rfl, ⟨ha0, hal⟩, hb0, hc0⟩ := p
  have a0 : ∀ {α : Type} (f : Cell → Option α), atK [.str T.name, a, b, .int .i64 T.ck, c] 0 f = f (.str T.name) := fun _ => rfl
  have a1 : ∀ {α : Type} (f : Cell → Option α), atK [.str T.name, a, b, .int .i64 T.ck, c] 1 f = f a := fun _ => rfl
  have a2 : ∀ {α : Type} (f : Cell → Option α), atK [.str T.name, a, b, .int .i64 T.ck, c] 2 f = f b := fun _ => rfl
  have a4 : ∀ {α : Type} (f : Cell → Option α), atK [.str T.name, a, b, .int .i64 T.ck, c] 4 f = f c := fun _ => rfl
  have hte := TestOk_R hE.c120 p0 hfit
  have n1 := hs.inits
  have n2 := hs.thr
  have n3 := hs.any
  -- behind the sizes, at any later heap
  have rest : ∀ (bb : Bool) (h : AHeap), TestAt h [.str T.name, a, b, .int .i64 T.ck, c] T →
      (bb || ((T.thr.take (min T.thr.length 5)).any fun c => decide ((c.length : Int) > 10)) || (T.any.any fun r => decide ((r.length : Int) > 8)) || decide (sumM (T.thr.take (min T.thr.length 5)) > 24)) = bigB T →
      (Lim (jacquardref2_Check_F1 (R E) Lim E.glob) (jacquardref2_Check_s1 0 bb 0 [.str T.name, a, b, .int .i64 T.ck, c] h)).bind (fun p => jacquardref2_Check_k3 (R E) Lim E.glob h p.1 p.2) = some ([.c (.int .i64 (checkT T))], h) := by
    intro bb h p hbig
    obtain ⟨_, _, _, e, ⟨ha, _⟩, hb, hc⟩ := p
    cases e
    have hw := sumM_le
    have f1 : Lim (jacquardref2_Check_F1 (R E) Lim E.glob) (jacquardref2_Check_s1 (sumM (T.thr.take 0)) (bb || ((T.thr.take 0).any fun c => decide ((c.length : Int) > 10))) ((0 : Nat) : Int) [.str T.name, a, b, .int .i64 T.ck, c] h) = some (.exit 0, jacquardref2_Check_x1_1 (sumM (T.thr.take (min T.thr.length 5))) (bb || ((T.thr.take (min T.thr.length 5)).any fun c => decide ((c.length : Int) > 10))) [.str T.name, a, b, .int .i64 T.ck, c] h) := by
      refine Lim_count (fun i => jacquardref2_Check_s1 (sumM (T.thr.take i)) (bb || ((T.thr.take i).any fun c => decide ((c.length : Int) > 10))) (i : Int) [.str T.name, a, b, .int .i64 T.ck, c] h) 0 (min T.thr.length 5) (by omega) (fun i _ hi => ?_) (Lim_exit ?_)
      · have hil : i < T.thr.length ∧ i < 5 := by omega
        have hq : T.thr[i]? = some T.thr[i] := List.getElem?_eq_getElem hil.1
        generalize T.thr[i] = code at hq
        obtain ⟨y, y1, y2, y3⟩ := hb.get (β := Ex × St) hq
        obtain ⟨y', y1', y2', y3'⟩ := hb.get (β := Bool × AHeap) hq
        have hsm := sumM_le (T.thr.take i)
        rw [List.length_take] at hsm
        have hmin : (if (100 : Int) < (code.length : Int) then (100 : Int) else (code.length : Int)) = ((min code.length 100 : Nat) : Int) := by
          split <;> omega
        rw [jacquardref2_Check_r1, a2, hb.len, scK_and, show (decide ((i : Int) < (T.thr.length : Int)) && decide ((i : Int) < 5)) = true by rw [Bool.and_eq_true, decide_eq_true_eq, decide_eq_true_eq]; omega, if_pos rfl, a2, y3', y1'.len, scK_or, a2, y3, y1.len]
        dsimp only
        rw [hmin, takeI_succ hq, sumM_snoc, List.any_append, List.any_cons, List.any_nil, Bool.or_false, Bool.or_assoc, g_succ (by omega)]
        have hw2 : E.glob.wrap .i64 (sumM (T.thr.take i) + ((min code.length 100 : Nat) : Int)) = sumM (T.thr.take i) + ((min code.length 100 : Nat) : Int) := by
          unfold sumM
          exact g_wrap_i64 (by omega) (by omega)
        rw [hw2]
      · rw [jacquardref2_Check_r1, a2, hb.len, scK_and, show (decide (((min T.thr.length 5 : Nat) : Int) < (T.thr.length : Int)) && decide (((min T.thr.length 5 : Nat) : Int) < 5)) = false by rw [Bool.and_eq_false_iff, decide_eq_false_iff_not, decide_eq_false_iff_not]; omega, if_neg (by simp)]
    rw [show sumM (T.thr.take 0) = 0 from rfl, show ((0 : Nat) : Int) = 0 from rfl, show (bb || ((T.thr.take 0).any fun c => decide ((c.length : Int) > 10))) = bb by simp] at f1
    generalize hB1 : (bb || ((T.thr.take (min T.thr.length 5)).any fun c => decide ((c.length : Int) > 10))) = B1 at *
    generalize hS : sumM (T.thr.take (min T.thr.length 5)) = S at *
    have f2 : Lim (jacquardref2_Check_F2 (R E) Lim E.glob) (jacquardref2_Check_s2 S (B1 || ((T.any.take 0).any fun r => decide ((r.length : Int) > 8))) ((0 : Nat) : Int) [.str T.name, a, b, .int .i64 T.ck, c] h) = some (.exit 2, jacquardref2_Check_x2_3 S (B1 || ((T.any.take T.any.length).any fun r => decide ((r.length : Int) > 8))) [.str T.name, a, b, .int .i64 T.ck, c] h) := by
      refine Lim_count (fun i => jacquardref2_Check_s2 S (B1 || ((T.any.take i).any fun r => decide ((r.length : Int) > 8))) (i : Int) [.str T.name, a, b, .int .i64 T.ck, c] h) 0 T.any.length (by omega) (fun i _ hi => ?_) (Lim_exit ?_)
      · have hq : T.any[i]? = some T.any[i] := List.getElem?_eq_getElem hi
        generalize T.any[i] = row at hq
        obtain ⟨y', y1', y2', y3'⟩ := hc.get (β := Bool × AHeap) hq
        rw [jacquardref2_Check_r2, a4, hc.len, if_pos (by simp; omega), a4, y3', y1'.len, scK_or, takeI_succ hq, List.any_append, List.any_cons, List.any_nil, Bool.or_false, Bool.or_assoc, g_succ (by omega)]
      · rw [jacquardref2_Check_r2, a4, hc.len, if_neg (by simp)]
    rw [List.take_of_length_le (Nat.le_refl _), show ((0 : Nat) : Int) = 0 from rfl, show (B1 || ((T.any.take 0).any fun r => decide ((r.length : Int) > 8))) = B1 by simp] at f2
    rw [f1, bind_ok, jacquardref2_Check_e1_1, f2, bind_ok, jacquardref2_Check_e2_3, scK_or, hbig]
    unfold checkT
    rw [hok, if_neg (show ¬ (!true) = true by simp)]
    cases hbb : bigB T with
    | true => rw [if_pos rfl, if_pos rfl]
    | false =>
      rw [if_neg (by simp), if_neg (by simp)]
      -- begun twice
      have i3 : ∀ (i : Nat) (q : Int × Int), T.inits[i]? = some q → Lim (jacquardref2_Check_F3 (R E) Lim E.glob) (jacquardref2_Check_s3 (i : Int) 0 [.str T.name, a, b, .int .i64 T.ck, c] h) = some (if ((T.inits.take i).any fun r => r.1 == q.1) = true then (.ret, jacquardref2_Check_x3_0 9 h) else (.exit 6, jacquardref2_Check_x3_7 (i : Int) [.str T.name, a, b, .int .i64 T.ck, c] h)) := by
        intro i q hq
        have hi := getI_lt hq
        rw [← atB_take _ _ (Nat.le_of_lt hi)]
        exact Lim_scan (F := jacquardref2_Check_F3 (R E) Lim E.glob) (fun k => jacquardref2_Check_s3 (i : Int) (k : Int) [.str T.name, a, b, .int .i64 T.ck, c] h) i (atB T.inits fun _ r => r.1 == q.1) _ _ 6 (fun k hk => by
          have hr : T.inits[k]? = some T.inits[k] := List.getElem?_eq_getElem (by omega)
          generalize T.inits[k] = r at hr
          have hsym : (q.1 == r.1) = (r.1 == q.1) := by rw [Bool.eq_iff_iff]; simp; exact eq_comm
          rw [jacquardref2_Check_r3, if_pos (by simp; omega), a1, ha.get hi (by omega) (pairC_get _ _ _ hq).1, asI_ok, a1, ha.get (getI_lt hr) (by omega) (pairC_get _ _ _ hr).1, asI_ok, atB_ok hr, hsym, g_succ (by omega)]) (by rw [jacquardref2_Check_r3, if_neg (by simp)])
      have f4 : Lim (jacquardref2_Check_F4 (R E) Lim E.glob) (jacquardref2_Check_s4 0 [.str T.name, a, b, .int .i64 T.ck, c] h) = some (if twB T.inits = true then (.ret, jacquardref2_Check_x4_0 9 h) else (.exit 4, jacquardref2_Check_x4_5 [.str T.name, a, b, .int .i64 T.ck, c] h)) := by
        have htw : twB T.inits = (List.range T.inits.length).any (atB T.inits fun i p => (T.inits.take i).any fun r => r.1 == p.1) := by
          unfold twB
          congr 1
          funext k
          unfold atB
          cases T.inits[k]? with
          | none => rfl
          | some p => rfl
        rw [htw]
        exact Lim_scan (F := jacquardref2_Check_F4 (R E) Lim E.glob) (fun k => jacquardref2_Check_s4 (k : Int) [.str T.name, a, b, .int .i64 T.ck, c] h) T.inits.length (atB T.inits fun i p => (T.inits.take i).any fun r => r.1 == p.1) _ _ 4 (fun i hi => by
          have hq : T.inits[i]? = some T.inits[i] := List.getElem?_eq_getElem hi
          generalize T.inits[i] = q at hq
          rw [jacquardref2_Check_r4, a1, ha.len, if_pos (by simp; omega), i3 i q hq, bind_ok, atB_ok hq]
          cases hz : ((T.inits.take i).any fun r => r.1 == q.1) with
          | true => rw [if_pos rfl, if_pos rfl]; dsimp only; rw [jacquardref2_Check_e3_0]
          | false => rw [if_neg (by simp), if_neg (by simp)]; dsimp only; rw [jacquardref2_Check_e3_7, g_succ (by omega)]) (by rw [jacquardref2_Check_r4, a1, ha.len, if_neg (by simp)])
      rw [f4, bind_ok]
      cases htw : twB T.inits with
      | true => rw [if_pos rfl, if_pos rfl]; dsimp only; rw [jacquardref2_Check_e4_0]
      | false =>
        rw [if_neg (by simp), if_neg (by simp)]
        dsimp only
        -- skips
        have i5 : ∀ (t : Nat) (code : List Ins), T.thr[t]? = some code → Lim (jacquardref2_Check_F5 (R E) Lim E.glob) (jacquardref2_Check_s5 (t : Int) 0 [.str T.name, a, b, .int .i64 T.ck, c] h) = some (if (!jmpB code) = true then (.ret, jacquardref2_Check_x5_0 10 h) else (.exit 10, jacquardref2_Check_x5_11 (t : Int) [.str T.name, a, b, .int .i64 T.ck, c] h)) := by
          intro t code ht
          obtain ⟨y, y1, y2, y3⟩ := hb.get (β := Ex × St) ht
          obtain ⟨y', y1', y2', y3'⟩ := hb.get (β := Bool × AHeap) ht
          have hcl := hs.code code (List.mem_of_getElem? ht)
          rw [jmpB_any]
          exact Lim_scan (F := jacquardref2_Check_F5 (R E) Lim E.glob) (fun k => jacquardref2_Check_s5 (t : Int) (k : Int) [.str T.name, a, b, .int .i64 T.ck, c] h) code.length (atB code (jmpAt code.length)) _ _ 10 (fun k hk => by
            have hq : code[k]? = some code[k] := List.getElem?_eq_getElem hk
            generalize code[k] = q at hq
            obtain ⟨off, cc, g1, g2, g3⟩ := y1.insG hq
            have hf := okT_ins hok (List.mem_of_getElem? ht) (List.mem_of_getElem? hq)
            have he : (q.kind == 6 && (q.n == 0 || decide (q.n ≥ (code.length : Int) - (k : Int)))) = jmpAt code.length k q := by
              unfold jmpAt
              cases hk6 : (q.kind == 6) with
              | false => rfl
              | true =>
                have := fldB_n hf (by simpa using hk6)
                rw [Bool.true_and, Bool.true_and, Bool.eq_iff_iff]
                simp; omega
            rw [jacquardref2_Check_r5, a2, y3, y1.len, if_pos (by simp; omega), a2, y3, g1, if_pos g2, g3, if_pos ⟨rfl, rfl, rfl⟩, ins_kind, asI_ok, ins_n, asI_ok, ins_n, asI_ok, a2, y3', y1'.len, g_wrap_i64 (x := (code.length : Int) - (k : Int)) (by omega) (by omega), scK_or, scK_and, he, atB_ok hq, g_succ (by omega)]) (by rw [jacquardref2_Check_r5, a2, y3, y1.len, if_neg (by simp)])
        have f6 : Lim (jacquardref2_Check_F6 (R E) Lim E.glob) (jacquardref2_Check_s6 0 [.str T.name, a, b, .int .i64 T.ck, c] h) = some (if (T.thr.any fun c => !jmpB c) = true then (.ret, jacquardref2_Check_x6_0 10 h) else (.exit 8, jacquardref2_Check_x6_9 [.str T.name, a, b, .int .i64 T.ck, c] h)) := by
          rw [← atB_any]
          exact Lim_scan (F := jacquardref2_Check_F6 (R E) Lim E.glob) (fun k => jacquardref2_Check_s6 (k : Int) [.str T.name, a, b, .int .i64 T.ck, c] h) T.thr.length (atB T.thr fun _ c => !jmpB c) _ _ 8 (fun t ht => by
            have hq : T.thr[t]? = some T.thr[t] := List.getElem?_eq_getElem ht
            generalize T.thr[t] = code at hq
            rw [jacquardref2_Check_r6, a2, hb.len, if_pos (by simp; omega), i5 t code hq, bind_ok, atB_ok hq]
            cases hz : (!jmpB code) with
            | true => rw [if_pos rfl, if_pos rfl]; dsimp only; rw [jacquardref2_Check_e5_0]
            | false => rw [if_neg (by simp), if_neg (by simp)]; dsimp only; rw [jacquardref2_Check_e5_11, g_succ (by omega)]) (by rw [jacquardref2_Check_r6, a2, hb.len, if_neg (by simp)])
        rw [jacquardref2_Check_e4_5, f6, bind_ok]
        cases hj : (T.thr.any fun c => !jmpB c) with
        | true => rw [if_pos rfl, if_pos rfl]; dsimp only; rw [jacquardref2_Check_e6_0]
        | false =>
          rw [if_neg (by simp), if_neg (by simp)]
          dsimp only
          have i7 : ∀ (t : Nat) (row : List Atm), T.any[t]? = some row → Lim (jacquardref2_Check_F7 (R E) Lim E.glob) (jacquardref2_Check_s7 (t : Int) 0 [.str T.name, a, b, .int .i64 T.ck, c] h) = some (if (row.any (outB T.thr.length)) = true then (.ret, jacquardref2_Check_x7_0 10 h) else (.exit 14, jacquardref2_Check_x7_15 (t : Int) [.str T.name, a, b, .int .i64 T.ck, c] h)) := by
            intro t row ht
            obtain ⟨y, y1, y2, y3⟩ := hc.get (β := Ex × St) ht
            have hcl := hs.row row (List.mem_of_getElem? ht)
            rw [← atB_any]
            exact Lim_scan (F := jacquardref2_Check_F7 (R E) Lim E.glob) (fun k => jacquardref2_Check_s7 (t : Int) (k : Int) [.str T.name, a, b, .int .i64 T.ck, c] h) row.length (atB row fun _ => outB T.thr.length) _ _ 14 (fun k hk => by
              have hq : row[k]? = some row[k] := List.getElem?_eq_getElem hk
              generalize row[k] = q at hq
              have he : decide (q.thread ≥ (T.thr.length : Int)) = outB T.thr.length q := by
                unfold outB
                rw [Bool.eq_iff_iff]; simp; omega
              rw [jacquardref2_Check_r7, a4, y3, y1.len, if_pos (by simp; omega), a4, y3, y1.get hk (by omega) (atmC_cell hq (by omega) (c := .int .i64 q.thread) rfl), asI_ok, a2, hb.len, he, atB_ok hq, g_succ (by omega)]) (by rw [jacquardref2_Check_r7, a4, y3, y1.len, if_neg (by simp)])
          have f8 : Lim (jacquardref2_Check_F8 (R E) Lim E.glob) (jacquardref2_Check_s8 0 [.str T.name, a, b, .int .i64 T.ck, c] h) = some (if (T.any.any fun r => r.any (outB T.thr.length)) = true then (.ret, jacquardref2_Check_x8_0 10 h) else (.exit 12, jacquardref2_Check_x8_13 h)) := by
            rw [← atB_any]
            exact Lim_scan (F := jacquardref2_Check_F8 (R E) Lim E.glob) (fun k => jacquardref2_Check_s8 (k : Int) [.str T.name, a, b, .int .i64 T.ck, c] h) T.any.length (atB T.any fun _ r => r.any (outB T.thr.length)) _ _ 12 (fun t ht => by
              have hq : T.any[t]? = some T.any[t] := List.getElem?_eq_getElem ht
              generalize T.any[t] = row at hq
              rw [jacquardref2_Check_r8, a4, hc.len, if_pos (by simp; omega), i7 t row hq, bind_ok, atB_ok hq]
              cases hz : (row.any (outB T.thr.length)) with
              | true => rw [if_pos rfl, if_pos rfl]; dsimp only; rw [jacquardref2_Check_e7_0]
              | false => rw [if_neg (by simp), if_neg (by simp)]; dsimp only; rw [jacquardref2_Check_e7_15, g_succ (by omega)]) (by rw [jacquardref2_Check_r8, a4, hc.len, if_neg (by simp)])
          rw [jacquardref2_Check_e6_9, f8, bind_ok]
          cases ho : (T.any.any fun r => r.any (outB T.thr.length)) with
          | true => rw [if_pos rfl, if_pos rfl]; dsimp only; rw [jacquardref2_Check_e8_0]
          | false => rw [if_neg (by simp), if_neg (by simp)]; dsimp only; rw [jacquardref2_Check_e8_13]
  have hbig := big_eq (locs_eq hok)
  have s0 : ∀ {α : Type} (f : ByteArray → Option α), asS (.c (.str T.name)) f = f T.name := fun _ => rfl
  have s1 : ∀ {α : Type} (f : Int → Option α), lenSK (.str T.name) f = f T.name.size := fun _ => rfl
  rw [jacquardref2_Check_eq, if_pos ⟨rfl, p0.len⟩, hte, c1_ok, asB_ok, hok, if_neg (by simp), a2, hb0.len, a2, hb0.len, scK_or, a0, s0, s1, scK_or, a4, hc0.len, scK_or]
  cases hx : (((decide ((T.thr.length : Int) < 1) || decide ((T.thr.length : Int) > 4)) || decide ((T.name.size : Int) > 20)) || decide ((T.any.length : Int) > 8)) with
  | true =>
    refine ⟨h, ?_, Kp.refl _ _⟩
    rw [scK_tf]
    refine rest true h p0 ?_
    rw [← hbig, hx]
    simp only [Bool.true_or]
  | false =>
    refine ⟨hl1, ?_, kl⟩
    rw [scK_ok, if_pos ⟨rfl, rfl⟩, rl, c1_ok, asC_ok, ol.at.len, bind_ok]
    dsimp only
    refine rest _ hl1 (p0.keep kl) ?_
    rw [← hbig, hx, Bool.false_or]

end
end Jq

namespace Jq
open Go

/- jacquard/jacquardlaw6.awake: 95 -/
set_option maxRecDepth 100000 in
theorem jacquardlaw6_awake_eq (C : CallF) (L : LoopF) (G : Glo)  (h0 : AHeap) :
    jacquardlaw6_awake.body C L G [] h0 =
    if (splice (splice [Cell.int .i64 0, Cell.int .i64 0] 0 ([(.int .i64 (-1))] : List Cell)) 1 ([(.int .i64 1)] : List Cell)).length = 2 ∧ 3 + 2 ≤ (splice (List.replicate 9 (Cell.int .i64 0)) 0 ([(.int .i64 5)] : List Cell)).length then if (splice [Cell.int .i64 0, Cell.int .i64 0] 0 ([(.int .i64 (-1))] : List Cell)).length = 2 ∧ 6 + 2 ≤ (splice (splice (List.replicate 9 (Cell.int .i64 0)) 0 ([(.int .i64 5)] : List Cell)) 3 (splice (splice [Cell.int .i64 0, Cell.int .i64 0] 0 ([(.int .i64 (-1))] : List Cell)) 1 ([(.int .i64 1)] : List Cell))).length then if [Cell.int .i64 0, Cell.int .i64 0].length = 2 ∧ 3 + 2 ≤ (splice (splice (List.replicate 9 (Cell.int .i64 0)) 0 ([(.int .i64 1)] : List Cell)) 2 ([(.int .i64 120)] : List Cell)).length then if (splice (splice (splice (List.replicate 9 (Cell.int .i64 0)) 0 ([(.int .i64 5)] : List Cell)) 3 (splice (splice [Cell.int .i64 0, Cell.int .i64 0] 0 ([(.int .i64 (-1))] : List Cell)) 1 ([(.int .i64 1)] : List Cell))) 6 (splice [Cell.int .i64 0, Cell.int .i64 0] 0 ([(.int .i64 (-1))] : List Cell))).length = 9 ∧ 0 + 9 ≤ (List.replicate 18 (Cell.int .i64 0)).length then if (splice (splice (splice (List.replicate 9 (Cell.int .i64 0)) 0 ([(.int .i64 1)] : List Cell)) 2 ([(.int .i64 120)] : List Cell)) 3 [Cell.int .i64 0, Cell.int .i64 0]).length = 9 ∧ 9 + 9 ≤ (splice (List.replicate 18 (Cell.int .i64 0)) 0 (splice (splice (splice (List.replicate 9 (Cell.int .i64 0)) 0 ([(.int .i64 5)] : List Cell)) 3 (splice (splice [Cell.int .i64 0, Cell.int .i64 0] 0 ([(.int .i64 (-1))] : List Cell)) 1 ([(.int .i64 1)] : List Cell))) 6 (splice [Cell.int .i64 0, Cell.int .i64 0] 0 ([(.int .i64 (-1))] : List Cell)))).length then if (splice (splice (List.replicate 18 (Cell.int .i64 0)) 0 (splice (splice (splice (List.replicate 9 (Cell.int .i64 0)) 0 ([(.int .i64 5)] : List Cell)) 3 (splice (splice [Cell.int .i64 0, Cell.int .i64 0] 0 ([(.int .i64 (-1))] : List Cell)) 1 ([(.int .i64 1)] : List Cell))) 6 (splice [Cell.int .i64 0, Cell.int .i64 0] 0 ([(.int .i64 (-1))] : List Cell)))) 9 (splice (splice (splice (List.replicate 9 (Cell.int .i64 0)) 0 ([(.int .i64 1)] : List Cell)) 2 ([(.int .i64 120)] : List Cell)) 3 [Cell.int .i64 0, Cell.int .i64 0])).length = 2 * 9 then if (splice [Cell.nils] 0 ([(.sl h0.length ((splice (splice (List.replicate 18 (Cell.int .i64 0)) 0 (splice (splice (splice (List.replicate 9 (Cell.int .i64 0)) 0 ([(.int .i64 5)] : List Cell)) 3 (splice (splice [Cell.int .i64 0, Cell.int .i64 0] 0 ([(.int .i64 (-1))] : List Cell)) 1 ([(.int .i64 1)] : List Cell))) 6 (splice [Cell.int .i64 0, Cell.int .i64 0] 0 ([(.int .i64 (-1))] : List Cell)))) 9 (splice (splice (splice (List.replicate 9 (Cell.int .i64 0)) 0 ([(.int .i64 1)] : List Cell)) 2 ([(.int .i64 120)] : List Cell)) 3 [Cell.int .i64 0, Cell.int .i64 0])).length) 0 2)] : List Cell)).length = 1 * 1 then if 0 = 0 ∧ [Cell.str (ByteArray.mk #[]), Cell.nils, Cell.nils, Cell.int .i64 0, Cell.nils].length = 5 ∧ (splice (splice [Cell.str (ByteArray.mk #[]), Cell.nils, Cell.nils, Cell.int .i64 0, Cell.nils] 0 ([(.str (ByteArray.mk #[97]))] : List Cell)) 2 ([(.sl ((h0 ++ [some (Blk.mk true 9 (splice (splice (List.replicate 18 (Cell.int .i64 0)) 0 (splice (splice (splice (List.replicate 9 (Cell.int .i64 0)) 0 ([(.int .i64 5)] : List Cell)) 3 (splice (splice [Cell.int .i64 0, Cell.int .i64 0] 0 ([(.int .i64 (-1))] : List Cell)) 1 ([(.int .i64 1)] : List Cell))) 6 (splice [Cell.int .i64 0, Cell.int .i64 0] 0 ([(.int .i64 (-1))] : List Cell)))) 9 (splice (splice (splice (List.replicate 9 (Cell.int .i64 0)) 0 ([(.int .i64 1)] : List Cell)) 2 ([(.int .i64 120)] : List Cell)) 3 [Cell.int .i64 0, Cell.int .i64 0])))]).length) ((splice [Cell.nils] 0 ([(.sl h0.length ((splice (splice (List.replicate 18 (Cell.int .i64 0)) 0 (splice (splice (splice (List.replicate 9 (Cell.int .i64 0)) 0 ([(.int .i64 5)] : List Cell)) 3 (splice (splice [Cell.int .i64 0, Cell.int .i64 0] 0 ([(.int .i64 (-1))] : List Cell)) 1 ([(.int .i64 1)] : List Cell))) 6 (splice [Cell.int .i64 0, Cell.int .i64 0] 0 ([(.int .i64 (-1))] : List Cell)))) 9 (splice (splice (splice (List.replicate 9 (Cell.int .i64 0)) 0 ([(.int .i64 1)] : List Cell)) 2 ([(.int .i64 120)] : List Cell)) 3 [Cell.int .i64 0, Cell.int .i64 0])).length) 0 2)] : List Cell)).length) 0 1)] : List Cell)).length = 5 then if 0 = 0 ∧ (splice (splice [Cell.str (ByteArray.mk #[]), Cell.nils, Cell.nils, Cell.int .i64 0, Cell.nils] 0 ([(.str (ByteArray.mk #[97]))] : List Cell)) 2 ([(.sl ((h0 ++ [some (Blk.mk true 9 (splice (splice (List.replicate 18 (Cell.int .i64 0)) 0 (splice (splice (splice (List.replicate 9 (Cell.int .i64 0)) 0 ([(.int .i64 5)] : List Cell)) 3 (splice (splice [Cell.int .i64 0, Cell.int .i64 0] 0 ([(.int .i64 (-1))] : List Cell)) 1 ([(.int .i64 1)] : List Cell))) 6 (splice [Cell.int .i64 0, Cell.int .i64 0] 0 ([(.int .i64 (-1))] : List Cell)))) 9 (splice (splice (splice (List.replicate 9 (Cell.int .i64 0)) 0 ([(.int .i64 1)] : List Cell)) 2 ([(.int .i64 120)] : List Cell)) 3 [Cell.int .i64 0, Cell.int .i64 0])))]).length) ((splice [Cell.nils] 0 ([(.sl h0.length ((splice (splice (List.replicate 18 (Cell.int .i64 0)) 0 (splice (splice (splice (List.replicate 9 (Cell.int .i64 0)) 0 ([(.int .i64 5)] : List Cell)) 3 (splice (splice [Cell.int .i64 0, Cell.int .i64 0] 0 ([(.int .i64 (-1))] : List Cell)) 1 ([(.int .i64 1)] : List Cell))) 6 (splice [Cell.int .i64 0, Cell.int .i64 0] 0 ([(.int .i64 (-1))] : List Cell)))) 9 (splice (splice (splice (List.replicate 9 (Cell.int .i64 0)) 0 ([(.int .i64 1)] : List Cell)) 2 ([(.int .i64 120)] : List Cell)) 3 [Cell.int .i64 0, Cell.int .i64 0])).length) 0 2)] : List Cell)).length) 0 1)] : List Cell)).length = 5 then c2 (C 98 [(.agg (splice (splice [Cell.str (ByteArray.mk #[]), Cell.nils, Cell.nils, Cell.int .i64 0, Cell.nils] 0 ([(.str (ByteArray.mk #[97]))] : List Cell)) 2 ([(.sl ((h0 ++ [some (Blk.mk true 9 (splice (splice (List.replicate 18 (Cell.int .i64 0)) 0 (splice (splice (splice (List.replicate 9 (Cell.int .i64 0)) 0 ([(.int .i64 5)] : List Cell)) 3 (splice (splice [Cell.int .i64 0, Cell.int .i64 0] 0 ([(.int .i64 (-1))] : List Cell)) 1 ([(.int .i64 1)] : List Cell))) 6 (splice [Cell.int .i64 0, Cell.int .i64 0] 0 ([(.int .i64 (-1))] : List Cell)))) 9 (splice (splice (splice (List.replicate 9 (Cell.int .i64 0)) 0 ([(.int .i64 1)] : List Cell)) 2 ([(.int .i64 120)] : List Cell)) 3 [Cell.int .i64 0, Cell.int .i64 0])))]).length) ((splice [Cell.nils] 0 ([(.sl h0.length ((splice (splice (List.replicate 18 (Cell.int .i64 0)) 0 (splice (splice (splice (List.replicate 9 (Cell.int .i64 0)) 0 ([(.int .i64 5)] : List Cell)) 3 (splice (splice [Cell.int .i64 0, Cell.int .i64 0] 0 ([(.int .i64 (-1))] : List Cell)) 1 ([(.int .i64 1)] : List Cell))) 6 (splice [Cell.int .i64 0, Cell.int .i64 0] 0 ([(.int .i64 (-1))] : List Cell)))) 9 (splice (splice (splice (List.replicate 9 (Cell.int .i64 0)) 0 ([(.int .i64 1)] : List Cell)) 2 ([(.int .i64 120)] : List Cell)) 3 [Cell.int .i64 0, Cell.int .i64 0])).length) 0 2)] : List Cell)).length) 0 1)] : List Cell)))] ((h0 ++ [some (Blk.mk true 9 (splice (splice (List.replicate 18 (Cell.int .i64 0)) 0 (splice (splice (splice (List.replicate 9 (Cell.int .i64 0)) 0 ([(.int .i64 5)] : List Cell)) 3 (splice (splice [Cell.int .i64 0, Cell.int .i64 0] 0 ([(.int .i64 (-1))] : List Cell)) 1 ([(.int .i64 1)] : List Cell))) 6 (splice [Cell.int .i64 0, Cell.int .i64 0] 0 ([(.int .i64 (-1))] : List Cell)))) 9 (splice (splice (splice (List.replicate 9 (Cell.int .i64 0)) 0 ([(.int .i64 1)] : List Cell)) 2 ([(.int .i64 120)] : List Cell)) 3 [Cell.int .i64 0, Cell.int .i64 0])))]) ++ [some (Blk.mk true 1 (splice [Cell.nils] 0 ([(.sl h0.length ((splice (splice (List.replicate 18 (Cell.int .i64 0)) 0 (splice (splice (splice (List.replicate 9 (Cell.int .i64 0)) 0 ([(.int .i64 5)] : List Cell)) 3 (splice (splice [Cell.int .i64 0, Cell.int .i64 0] 0 ([(.int .i64 (-1))] : List Cell)) 1 ([(.int .i64 1)] : List Cell))) 6 (splice [Cell.int .i64 0, Cell.int .i64 0] 0 ([(.int .i64 (-1))] : List Cell)))) 9 (splice (splice (splice (List.replicate 9 (Cell.int .i64 0)) 0 ([(.int .i64 1)] : List Cell)) 2 ([(.int .i64 120)] : List Cell)) 3 [Cell.int .i64 0, Cell.int .i64 0])).length) 0 2)] : List Cell)))])) fun y_2 y_3 h_1 => asA y_2 fun l_4 => asI .i64 y_3 fun n_5 => if 0 = 0 ∧ [Cell.nils, Cell.nils, Cell.nils].length = 3 ∧ l_4.length = 3 then if 0 = 0 ∧ l_4.length = 3 then c1 (C 94 [(.agg l_4), (.c (.int .i64 0))] h_1) fun y_7 h_6 => asA y_7 fun l_8 => if 0 = 0 ∧ [Cell.int .i64 0, Cell.int .i64 0, Cell.int .i64 0, Cell.int .i64 0, Cell.int .i64 0].length = 5 ∧ l_8.length = 5 then if 0 = 0 ∧ l_4.length = 3 then if 0 = 0 ∧ l_8.length = 5 then c2 (C 105 [(.agg l_4), (.c (.int .i64 0)), (.agg l_8)] h_6) fun y_10 y_11 h_9 => asA y_10 fun l_12 => asB y_11 fun b_13 => if 0 = 0 ∧ (List.replicate 9 (Cell.int .i64 0)).length = 9 ∧ l_12.length = 9 then scK (n_5 == 0) true (atK l_8 0 fun q_14 => asI .i64 (.c q_14) fun n_15 => some ((n_15 == 1), h_9)) false h_9 fun b_16 h_17 => scK b_16 true (atK l_8 1 fun q_18 => asI .i64 (.c q_18) fun n_19 => some ((n_19 == 1), h_17)) false h_17 fun b_20 h_21 => scK b_20 true (some (b_13, h_21)) false h_21 fun b_22 h_23 => scK b_22 true (atK l_12 0 fun q_24 => asI .i64 (.c q_24) fun n_25 => some ((n_25 == 1), h_23)) false h_23 fun b_26 h_27 => scK b_26 true (if 0 = 0 ∧ l_4.length = 3 then c1 (C 102 [(.agg l_4)] h_27) fun y_29 h_28 => asI .i64 y_29 fun n_30 => some ((n_30 == 2), h_28) else none) false h_27 fun b_31 h_32 => finish true h0 [(.c (.bool b_31))] h_32 else none else none else none else none else none else none else none else none else none else none else none else none else none else none else none := by kernel_rfl

/- jacquard/jacquardlaw6.ProgSteps: 232 -/
def jacquardlaw6_ProgSteps_k2 (C : CallF) (L : LoopF) (G : Glo) (h0 : AHeap) : Ex → St → Option (List AV × AHeap) :=
  kSeq (fun st => jacquardlaw6_ProgSteps_p1.exec C L G st (jacquardlaw6_ProgSteps.fin G h0)) (jacquardlaw6_ProgSteps.fin G h0)
def jacquardlaw6_ProgSteps_c1 (a2 : Int) (x3 : Cell) (s0 : List Cell) (s1 : List Cell) (h : AHeap) : St := ⟨[.top, .top, .v (.c (.int .i64 a2)), .v (.c x3), .top, .loc 0 0, .top, .top, .top, .loc 1 0, .top, .top, .top, .top, .top, .top, .top, .top, .top, .top, .top, .top, .top, .top, .top, .top, .top, .top, .top, .top, .top, .top, .top, .top, .top, .top, .top, .top, .top, .top, .top, .top, .top, .top, .top, .top, .top, .top, .top, .top, .top, .top, .top, .top, .top, .top, .top, .top, .top, .top, .top, .top, .top, .top, .top, .top, .top, .top, .top, .top, .top, .top, .top, .top, .top, .top, .top, .top, .top, .top, .top, .top, .top, .top, .top, .top, .top, .top, .top, .top, .top, .top, .top, .top, .top, .top, .top, .top, .top, .top, .top, .top, .top, .top, .top, .top, .top, .top, .top, .top, .top, .top, .top, .top, .top, .top, .top, .top, .top, .top, .top, .top, .top, .top, .top, .top, .top, .top, .top, .top, .top, .top, .top, .top, .top, .top, .top, .top], [some s0, some s1, none, none, none, none, none, none, none, none], h⟩
def jacquardlaw6_ProgSteps_k3 (C : CallF) (L : LoopF) (G : Glo) (h0 : AHeap) : Ex → St → Option (List AV × AHeap) :=
  kSeq (fun st => jacquardlaw6_ProgSteps_p2.exec C L G st (jacquardlaw6_ProgSteps.fin G h0)) (jacquardlaw6_ProgSteps.fin G h0)
def jacquardlaw6_ProgSteps_k4 (C : CallF) (L : LoopF) (G : Glo) (h0 : AHeap) : Ex → St → Option (List AV × AHeap) :=
  kBlk 0 (jacquardlaw6_ProgSteps_k3 C L G h0)
def jacquardlaw6_ProgSteps_s1 (a2 : Int) (x3 : Cell) (a14 : Int) (s1 : List Cell) (s2 : List Cell) (s3 : List Cell) (s4 : List Cell) (h : AHeap) : St := ⟨[.top, .top, .v (.c (.int .i64 a2)), .v (.c x3), .top, .top, .top, .top, .top, .loc 1 0, .top, .loc 2 0, .loc 3 0, .loc 4 0, .v (.c (.int .i64 a14)), .top, .top, .top, .top, .top, .top, .top, .top, .top, .top, .top, .top, .top, .top, .top, .top, .top, .top, .top, .top, .top, .top, .top, .top, .top, .top, .top, .top, .top, .top, .top, .top, .top, .top, .top, .top, .top, .top, .top, .top, .top, .top, .top, .top, .top, .top, .top, .top, .top, .top, .top, .top, .top, .top, .top, .top, .top, .top, .top, .top, .top, .top, .top, .top, .top, .top, .top, .top, .top, .top, .top, .top, .top, .top, .top, .top, .top, .top, .top, .top, .top, .top, .top, .top, .top, .top, .top, .top, .top, .top, .top, .top, .top, .top, .top, .top, .top, .top, .top, .top, .top, .top, .top, .top, .top, .top, .top, .top, .top, .top, .top, .top, .top, .top, .top, .top, .top, .top, .top, .top, .top, .top, .top], [none, some s1, some s2, some s3, some s4, none, none, none, none, none], h⟩
def jacquardlaw6_ProgSteps_F1 (C : CallF) (L : LoopF) (G : Glo) : St → Option (Ex × St) :=
  roundF (fun st f => jacquardlaw6_ProgSteps_b1.exec C L G st f) [2, 3, 9, 11, 12, 13, 14] [1, 2, 3, 4] [(0, [10], []), (1, [2, 9, 11], [1, 2])]
def jacquardlaw6_ProgSteps_x1_0 (b10 : Bool) (h : AHeap) : St := ⟨[.top, .top, .top, .top, .top, .top, .top, .top, .top, .top, .v (.c (.bool b10)), .top, .top, .top, .top, .top, .top, .top, .top, .top, .top, .top, .top, .top, .top, .top, .top, .top, .top, .top, .top, .top, .top, .top, .top, .top, .top, .top, .top, .top, .top, .top, .top, .top, .top, .top, .top, .top, .top, .top, .top, .top, .top, .top, .top, .top, .top, .top, .top, .top, .top, .top, .top, .top, .top, .top, .top, .top, .top, .top, .top, .top, .top, .top, .top, .top, .top, .top, .top, .top, .top, .top, .top, .top, .top, .top, .top, .top, .top, .top, .top, .top, .top, .top, .top, .top, .top, .top, .top, .top, .top, .top, .top, .top, .top, .top, .top, .top, .top, .top, .top, .top, .top, .top, .top, .top, .top, .top, .top, .top, .top, .top, .top, .top, .top, .top, .top, .top, .top, .top, .top, .top, .top, .top, .top, .top, .top, .top], [none, none, none, none, none, none, none, none, none, none], h⟩
def jacquardlaw6_ProgSteps_x1_1 (a2 : Int) (s1 : List Cell) (s2 : List Cell) (h : AHeap) : St := ⟨[.top, .top, .v (.c (.int .i64 a2)), .top, .top, .top, .top, .top, .top, .loc 1 0, .top, .loc 2 0, .top, .top, .top, .top, .top, .top, .top, .top, .top, .top, .top, .top, .top, .top, .top, .top, .top, .top, .top, .top, .top, .top, .top, .top, .top, .top, .top, .top, .top, .top, .top, .top, .top, .top, .top, .top, .top, .top, .top, .top, .top, .top, .top, .top, .top, .top, .top, .top, .top, .top, .top, .top, .top, .top, .top, .top, .top, .top, .top, .top, .top, .top, .top, .top, .top, .top, .top, .top, .top, .top, .top, .top, .top, .top, .top, .top, .top, .top, .top, .top, .top, .top, .top, .top, .top, .top, .top, .top, .top, .top, .top, .top, .top, .top, .top, .top, .top, .top, .top, .top, .top, .top, .top, .top, .top, .top, .top, .top, .top, .top, .top, .top, .top, .top, .top, .top, .top, .top, .top, .top, .top, .top, .top, .top, .top, .top], [none, some s1, some s2, none, none, none, none, none, none, none], h⟩
theorem jacquardlaw6_ProgSteps_r1 (C : CallF) (L : LoopF) (G : Glo) (a2 : Int) (x3 : Cell) (a14 : Int) (s1 : List Cell) (s2 : List Cell) (s3 : List Cell) (s4 : List Cell) (h : AHeap) :
    jacquardlaw6_ProgSteps_F1 C L G (jacquardlaw6_ProgSteps_s1 a2 x3 a14 s1 s2 s3 s4 h) =
    if (decide (a14 < 12)) = true then if 0 = 0 ∧ s2.length = 3 then if 0 = 0 ∧ s3.length = 5 then c2 (C 105 [(.agg s2), (.c (.int .i64 a2)), (.agg s3)] h) fun y_22 y_23 h_21 => asA y_22 fun l_24 => asB y_23 fun b_25 => if 0 = 0 ∧ (List.replicate 9 (Cell.int .i64 0)).length = 9 ∧ l_24.length = 9 then if 0 = 0 ∧ s2.length = 3 then if 0 = 0 ∧ s4.length = 5 then c2 (C 81 [(.agg s2), (.c (.int .i64 a2)), (.agg s4)] h_21) fun y_27 y_28 h_26 => asA y_27 fun l_29 => asB y_28 fun b_30 => if 0 = 0 ∧ (List.replicate 9 (Cell.int .i64 0)).length = 9 ∧ l_29.length = 9 then if 0 = 0 ∧ l_24.length = 9 then if 0 = 0 ∧ l_29.length = 9 then if alike l_24 (List.replicate 9 (Cell.int .i64 0)) = true ∧ alike l_29 (List.replicate 9 (Cell.int .i64 0)) = true then scK (!(decide (l_24 = l_29))) false (some ((!(b_25 == b_30)), h_26)) true h_26 fun b_31 h_32 => if b_31 = true then some (.ret, (jacquardlaw6_ProgSteps_x1_0 false h_32)) else lenK x3 fun n_33 => if (decide (a14 < n_33)) = true then idxSK 1 x3 a14 fun k_34 N_35 o_36 => rdH h_32 k_34 N_35 fun l_37 => atK l_37 o_36 fun q_38 => asI .i64 (.c q_38) fun n_39 => if 0 = 0 ∧ s2.length = 3 then if 0 = 0 ∧ s3.length = 5 then c1 (qh h_32 (C 106 [(.agg s2), (.c (.int .i64 a2)), (.agg s3), (.c (.int .i64 n_39))] h_32)) fun y_41 h_40 => asA y_41 fun l_42 => if 0 = 0 ∧ s2.length = 3 then if 0 = 0 ∧ s4.length = 5 then c1 (qh h_32 (C 107 [(.agg s2), (.c (.int .i64 a2)), (.agg s4), (.c (.int .i64 n_39))] h_32)) fun y_44 h_43 => asA y_44 fun l_45 => if 0 = 0 ∧ s3.length = 5 ∧ l_42.length = 5 then if 0 = 0 ∧ s4.length = 5 ∧ l_45.length = 5 then if 0 = 0 ∧ l_42.length = 5 then if 0 = 0 ∧ l_45.length = 5 then if alike l_42 ([Cell.int .i64 0, Cell.int .i64 0, Cell.int .i64 0, Cell.int .i64 0, Cell.int .i64 0]) = true ∧ alike l_45 ([Cell.int .i64 0, Cell.int .i64 0, Cell.int .i64 0, Cell.int .i64 0, Cell.int .i64 0]) = true then if (!(decide (l_42 = l_45))) = true then some (.ret, (jacquardlaw6_ProgSteps_x1_0 false h_32)) else some (.normal, (jacquardlaw6_ProgSteps_s1 a2 x3 (G.wrap .i64 (a14 + 1)) s1 s2 l_42 l_45 h_32)) else none else none else none else none else none else none else none else none else none else if 0 = 0 ∧ s2.length = 3 then if 0 = 0 ∧ s3.length = 5 then c1 (qh h_32 (C 106 [(.agg s2), (.c (.int .i64 a2)), (.agg s3), (.c (.int .i64 0))] h_32)) fun y_47 h_46 => asA y_47 fun l_48 => if 0 = 0 ∧ s2.length = 3 then if 0 = 0 ∧ s4.length = 5 then c1 (qh h_32 (C 107 [(.agg s2), (.c (.int .i64 a2)), (.agg s4), (.c (.int .i64 0))] h_32)) fun y_50 h_49 => asA y_50 fun l_51 => if 0 = 0 ∧ s3.length = 5 ∧ l_48.length = 5 then if 0 = 0 ∧ s4.length = 5 ∧ l_51.length = 5 then if 0 = 0 ∧ l_48.length = 5 then if 0 = 0 ∧ l_51.length = 5 then if alike l_48 ([Cell.int .i64 0, Cell.int .i64 0, Cell.int .i64 0, Cell.int .i64 0, Cell.int .i64 0]) = true ∧ alike l_51 ([Cell.int .i64 0, Cell.int .i64 0, Cell.int .i64 0, Cell.int .i64 0, Cell.int .i64 0]) = true then if (!(decide (l_48 = l_51))) = true then some (.ret, (jacquardlaw6_ProgSteps_x1_0 false h_32)) else some (.normal, (jacquardlaw6_ProgSteps_s1 a2 x3 (G.wrap .i64 (a14 + 1)) s1 s2 l_48 l_51 h_32)) else none else none else none else none else none else none else none else none else none else none else none else none else none else none else none else none else none else none else some ((.exit 0), (jacquardlaw6_ProgSteps_x1_1 a2 s1 s2 h)) := by kernel_rfl
theorem jacquardlaw6_ProgSteps_e1_0 (C : CallF) (L : LoopF) (G : Glo) (h0 : AHeap) (b10 : Bool) (h : AHeap) :
    (jacquardlaw6_ProgSteps_k4 C L G h0) .ret (jacquardlaw6_ProgSteps_x1_0 b10 h) =
    some ([(.c (.bool b10))], h) := by kernel_rfl
theorem jacquardlaw6_ProgSteps_e1_1 (C : CallF) (L : LoopF) (G : Glo) (h0 : AHeap) (a2 : Int) (s1 : List Cell) (s2 : List Cell) (h : AHeap) :
    (jacquardlaw6_ProgSteps_k4 C L G h0) (.exit 0) (jacquardlaw6_ProgSteps_x1_1 a2 s1 s2 h) =
    if 0 = 0 ∧ s2.length = 3 then if 0 = 0 ∧ s1.length = 5 then c2 (C 105 [(.agg s2), (.c (.int .i64 a2)), (.agg s1)] h) fun y_53 y_54 h_52 => asA y_53 fun l_55 => asB y_54 fun b_56 => if 0 = 0 ∧ (List.replicate 9 (Cell.int .i64 0)).length = 9 ∧ l_55.length = 9 then if 0 = 0 ∧ s2.length = 3 then if 0 = 0 ∧ s1.length = 5 then c2 (C 81 [(.agg s2), (.c (.int .i64 a2)), (.agg s1)] h_52) fun y_58 y_59 h_57 => asA y_58 fun l_60 => asB y_59 fun b_61 => if 0 = 0 ∧ (List.replicate 9 (Cell.int .i64 0)).length = 9 ∧ l_60.length = 9 then if 0 = 0 ∧ [Cell.int .i64 0, Cell.int .i64 0].length = 2 ∧ (splice [Cell.int .i64 0, Cell.int .i64 0] 0 ([(.int .i64 (G.band .i64 a2 3))] : List Cell)).length = 2 then if 0 = 0 ∧ l_55.length = 9 then if 0 = 0 ∧ l_60.length = 9 then if alike l_55 (List.replicate 9 (Cell.int .i64 0)) = true ∧ alike l_60 (List.replicate 9 (Cell.int .i64 0)) = true then scK (decide (l_55 = l_60)) true (some ((b_56 == b_61), h_57)) false h_57 fun b_62 h_63 => scK b_62 true (if 0 = 0 ∧ (splice [Cell.int .i64 0, Cell.int .i64 0] 0 ([(.int .i64 (G.band .i64 a2 3))] : List Cell)).length = 2 then if 0 = 0 ∧ s1.length = 5 then c1 (qh h_63 (C 108 [(.agg (splice [Cell.int .i64 0, Cell.int .i64 0] 0 ([(.int .i64 (G.band .i64 a2 3))] : List Cell))), (.agg s1)] h_63)) fun y_65 h_64 => asI .i64 y_65 fun n_66 => if 0 ≤ (G.band .i64 a2 3) ∧ (G.band .i64 a2 3) < ((4 : Nat) : Int) then atK s1 (1 + ((Int.toNat (G.band .i64 a2 3)) * 1)) fun q_67 => asI .i64 (.c q_67) fun n_68 => some ((n_66 == n_68), h_63) else none else none else none) false h_63 fun b_69 h_70 => scK b_69 true (if 0 = 0 ∧ s1.length = 5 then c1 (qh h_70 (C 108 [(.agg (splice (splice [Cell.int .i64 0, Cell.int .i64 0] 0 ([(.int .i64 (-1))] : List Cell)) 1 ([(.int .i64 9)] : List Cell))), (.agg s1)] h_70)) fun y_72 h_71 => asI .i64 y_72 fun n_73 => some ((n_73 == 9), h_70) else none) false h_70 fun b_74 h_75 => scK b_74 true (c1 (qh h_75 (C 95 [] h_75)) fun y_77 h_76 => asB y_77 fun b_78 => some (b_78, h_75)) false h_75 fun b_79 h_80 => some ([(.c (.bool b_79))], h_80) else none else none else none else none else none else none else none else none else none else none := by kernel_rfl
theorem jacquardlaw6_ProgSteps_ec1_n (C : CallF) (L : LoopF) (G : Glo) (h0 : AHeap) (a2 : Int) (x3 : Cell) (s0 : List Cell) (s1 : List Cell) (h : AHeap) :
    (jacquardlaw6_ProgSteps_k2 C L G h0) .normal (jacquardlaw6_ProgSteps_c1 a2 x3 s0 s1 h) =
    if 0 = 0 ∧ s0.length = 5 then c1 (C 101 [(.agg s0)] h) fun y_13 h_12 => asA y_13 fun l_14 => if 0 = 0 ∧ [Cell.nils, Cell.nils, Cell.nils].length = 3 ∧ l_14.length = 3 then if 0 = 0 ∧ l_14.length = 3 then c1 (qh h_12 (C 94 [(.agg l_14), (.c (.int .i64 a2))] h_12)) fun y_16 h_15 => asA y_16 fun l_17 => if 0 = 0 ∧ l_14.length = 3 then c1 (qh h_12 (C 104 [(.agg l_14), (.c (.int .i64 a2))] h_12)) fun y_19 h_18 => asA y_19 fun l_20 => if 0 = 0 ∧ [Cell.int .i64 0, Cell.int .i64 0, Cell.int .i64 0, Cell.int .i64 0, Cell.int .i64 0].length = 5 ∧ l_17.length = 5 then if 0 = 0 ∧ [Cell.int .i64 0, Cell.int .i64 0, Cell.int .i64 0, Cell.int .i64 0, Cell.int .i64 0].length = 5 ∧ l_20.length = 5 then if 0 = 0 ∧ l_17.length = 5 then if 0 = 0 ∧ l_20.length = 5 then if alike l_17 ([Cell.int .i64 0, Cell.int .i64 0, Cell.int .i64 0, Cell.int .i64 0, Cell.int .i64 0]) = true ∧ alike l_20 ([Cell.int .i64 0, Cell.int .i64 0, Cell.int .i64 0, Cell.int .i64 0, Cell.int .i64 0]) = true then if (!(decide (l_17 = l_20))) = true then some ([(.c (.bool false))], h_12) else (L (jacquardlaw6_ProgSteps_F1 C L G) (jacquardlaw6_ProgSteps_s1 a2 x3 0 s1 l_14 l_17 l_20 h_12)).bind fun p_81 => (jacquardlaw6_ProgSteps_k4 C L G h0) p_81.1 p_81.2 else none else none else none else none else none else none else none else none else none := by kernel_rfl
set_option maxRecDepth 100000 in
theorem jacquardlaw6_ProgSteps_eq (C : CallF) (L : LoopF) (G : Glo) (l0 : List Cell) (x1 : Cell) (a2 : Int) (x3 : Cell) (l4 : List Cell) (h0 : AHeap) :
    jacquardlaw6_ProgSteps.body C L G [(.agg l0), (.c x1), (.c (.int .i64 a2)), (.c x3), (.agg l4)] h0 =
    (if 0 = 0 ∧ l0.length = 5 then c1 (C 96 [(.agg l0)] h0) fun y_2 h_1 => asB y_2 fun b_3 => scK (!b_3) false (if 0 = 0 ∧ l0.length = 5 then c1 (C 99 [(.agg l0)] h_1) fun y_5 h_4 => asI .i64 y_5 fun n_6 => some ((n_6 != 0), h_4) else none) true h_1 fun b_7 h_8 => if b_7 = true then c1 (C 97 [(.c x1), (.c (.int .i64 12))] h_8) fun y_10 h_9 => asA y_10 fun l_11 => if 0 = 0 ∧ l0.length = 5 ∧ l_11.length = 5 then some (.normal, (jacquardlaw6_ProgSteps_c1 a2 x3 l_11 l4 h_9)) else none else some (.normal, (jacquardlaw6_ProgSteps_c1 a2 x3 l0 l4 h_8)) else none : Option (Ex × St)).bind fun p_82 => (jacquardlaw6_ProgSteps_k2 C L G h0) p_82.1 p_82.2 := by kernel_rfl


end Jq

/- Tests made of numbers, and their programs. -/
namespace Jq
open Go

section
variable {E : Env}

def tName : ByteArray := ByteArray.mk #[116]

theorem small_end (hE : jacquardlaw3_Small_1_In E) {h0 h hb : AHeap} {x : Cell} {l : List Int} (hx : SlAt h0 x 1 (intC .i64 l) l.length) (hlow : Low h0.length x) (hl : l.length < 9223372036854775808) {m : Nat} (hv : VarsAt h0 x h m) (hm : m < 1000)
    {most : Nat} {rows : List (List Ins)} {a y : Cell} {inits : List (Int × Int)} {Nb : Nat} (hNb : h0.length + 2 ≤ Nb) (hN : Nb ≤ h.length) (hy : RowsOwn 9 codeC Nb h y rows) (ha : SlAt h a 2 (pairC inits) inits.length ∧ Low h.length a ∧ ∀ k, isBlk a k → k ≠ h0.length + 1)
    (hi : inits = [] ∨ ∃ v : Int, 0 ≤ v ∧ v < 3 ∧ inits = [(120, v)]) (hn : 2 ≤ rows.length ∧ rows.length ≤ 3) (hmem : (rows.map memC).sum ≤ most) (hc : ∃ L : Int, (L = 2 ∨ L = 3) ∧ ∀ c ∈ rows, ∃ k, k ≤ 3 ∧ ThrOk L k c) {s0 : List Cell} (hs0 : s0.length = 5) :
    ∃ (cs : List Cell) (h' : AHeap) (T : PTest), (jacquardlaw3_Small_k4 (R E) Lim E.glob hb) (.exit 0) (jacquardlaw3_Small_x2_1 (nxF h0) s0 [.str tName, a, y, .int .i64 0, .nils] h) = some ([.agg cs], h') ∧ TestAt h' cs T ∧ GoodT most T ∧ Kp h0.length h0 h' := by
  obtain ⟨r, r0, r1, hF, hv2⟩ := next_R hE hx hlow hl hv (by omega)
  have hset := KpX.set (h0.length + 1) h.length h (some ⟨true, 0, [.int .i64 ((m + 1 : Nat) : Int)]⟩)
  have hy2 := hy.keepX (show h0.length + 1 < Nb by omega) hset
  have ha2 : SlAt (setBlk h (h0.length + 1) (some ⟨true, 0, [.int .i64 ((m + 1 : Nat) : Int)]⟩)) a 2 (pairC inits) inits.length := by
    refine ⟨ha.1.1, ha.1.2.imp id ?_⟩
    rintro ⟨k, N, off, e, hh | ⟨b, hb, hN, hle, hat⟩⟩
    · exact ⟨k, N, off, e, .inl hh⟩
    · have hk := ha.2.2 k (by rw [e]; rfl)
      exact ⟨k, N, off, e, .inr ⟨b, by rw [blk_set_ne (fun q => hk q.symm)]; exact hb, hN, hle, hat⟩⟩
  have hal2 : Low (setBlk h (h0.length + 1) (some ⟨true, 0, [.int .i64 ((m + 1 : Nat) : Int)]⟩)).length a := by rw [setBlk_len]; exact ha.2.1
  rw [jacquardlaw3_Small_e2_1, hF, asI_ok]
  generalize setBlk h (h0.length + 1) (some ⟨true, 0, [.int .i64 ((m + 1 : Nat) : Int)]⟩) = H at *
  have q5 := rem_rng (E := E) (shr_nn (E := E) (k := 5) r0) (show (0 : Int) < 3 by omega)
  by_cases h3 : (E.glob.rem .i64 r 3 == 0) = true
  · rw [if_pos h3]
    dsimp only
    generalize E.glob.band .i64 (E.glob.shr .i64 r 3) 1 = b3
    generalize E.glob.band .i64 (E.glob.shr .i64 r 4) 1 = b4
    generalize E.glob.rem .i64 (E.glob.shr .i64 r 5) 3 = v5
    generalize E.glob.band .i64 (E.glob.shr .i64 r 7) 1 = b7
    generalize E.glob.wrap .i64 (E.glob.rem .i64 (E.glob.quo .i64 r 3) 2 + 1) = ck
    have e1 : splice (splice (splice [Cell.int .i64 0, Cell.int .i64 0, Cell.int .i64 0, Cell.int .i64 0] 0 ([(.int .i64 0)] : List Cell)) 1 ([(.int .i64 b3)] : List Cell)) 3 ([(.int .i64 b4)] : List Cell) = (Atm.mk 0 b3 0 b4).cs := rfl
    have e2 : splice (splice (splice [Cell.int .i64 0, Cell.int .i64 0, Cell.int .i64 0, Cell.int .i64 0] 0 ([(.int .i64 (-1))] : List Cell)) 2 ([(.int .i64 120)] : List Cell)) 3 ([(.int .i64 v5)] : List Cell) = (Atm.mk (-1) 0 120 v5).cs := rfl
    have e3 : splice (splice (splice [Cell.int .i64 0, Cell.int .i64 0, Cell.int .i64 0, Cell.int .i64 0] 0 ([(.int .i64 1)] : List Cell)) 1 ([(.int .i64 0)] : List Cell)) 3 ([(.int .i64 b7)] : List Cell) = (Atm.mk 1 0 0 b7).cs := rfl
    have e4 : ∀ a : Atm, splice [Cell.int .i64 0, Cell.int .i64 0, Cell.int .i64 0, Cell.int .i64 0] 0 a.cs = atmC [a] := fun _ => rfl
    have e5 : ∀ a b : Atm, splice (splice (List.replicate 8 (Cell.int .i64 0)) 0 a.cs) 4 b.cs = atmC [a, b] := fun _ _ => rfl
    have e6 : ∀ a b : Cell, splice (splice [Cell.nils, Cell.nils] 0 ([a] : List Cell)) 1 ([b] : List Cell) = [a, b] := fun _ _ => rfl
    have e7 : ∀ a b : Cell, splice (splice [Cell.int .i64 0, Cell.nils] 0 ([a] : List Cell)) 1 ([b] : List Cell) = [a, b] := fun _ _ => rfl
    have l1 : ∀ a : Atm, (atmC [a]).length = 4 := fun _ => rfl
    have l2 : ∀ a b : Atm, (atmC [a, b]).length = 8 := fun _ _ => rfl
    simp only [e1, e2, e3, e4, e5, e6, e7, l1, l2]
    rw [if_pos ⟨rfl, by simp⟩, if_pos trivial, if_pos ⟨rfl, by simp⟩, if_pos ⟨rfl, by simp [splice, Atm.cs]⟩, if_pos trivial, if_pos (by simp), if_pos (by simp), if_pos (by simp [splice]), if_pos (by simp [splice, hs0]), if_pos (by simp [splice])]
    have k1 : Kp H.length H (H ++ [some ⟨true, 4, atmC [⟨0, b3, 0, b4⟩]⟩]) := Kp.app _ (Nat.le_refl _)
    have n1 : (H ++ [some (Blk.mk true 4 (atmC [⟨0, b3, 0, b4⟩]))]).length = H.length + 1 := by simp
    have c1' : blk? (H ++ [some ⟨true, 4, atmC [⟨0, b3, 0, b4⟩]⟩]) H.length = some ⟨true, 4, atmC [⟨0, b3, 0, b4⟩]⟩ := blk_new _ _
    generalize H ++ [some (Blk.mk true 4 (atmC [⟨0, b3, 0, b4⟩]))] = H1 at *
    have k2 : Kp H.length H (H1 ++ [some ⟨true, 4, atmC [⟨-1, 0, 120, v5⟩, ⟨1, 0, 0, b7⟩]⟩]) := k1.trans (Kp.app _ (by omega))
    have n2 : (H1 ++ [some (Blk.mk true 4 (atmC [⟨-1, 0, 120, v5⟩, ⟨1, 0, 0, b7⟩]))]).length = H1.length + 1 := by simp
    have c2' : blk? (H1 ++ [some ⟨true, 4, atmC [⟨-1, 0, 120, v5⟩, ⟨1, 0, 0, b7⟩]⟩]) H1.length = some ⟨true, 4, atmC [⟨-1, 0, 120, v5⟩, ⟨1, 0, 0, b7⟩]⟩ := blk_new _ _
    have c1'' : blk? (H1 ++ [some ⟨true, 4, atmC [⟨-1, 0, 120, v5⟩, ⟨1, 0, 0, b7⟩]⟩]) H.length = some ⟨true, 4, atmC [⟨0, b3, 0, b4⟩]⟩ := blk_old c1' _
    generalize H1 ++ [some (Blk.mk true 4 (atmC [⟨-1, 0, 120, v5⟩, ⟨1, 0, 0, b7⟩]))] = H2 at *
    have k3 : Kp H.length H (H2 ++ [some ⟨true, 1, [Cell.sl H.length 4 0 1, Cell.sl H1.length 8 0 2]⟩]) := k2.trans (Kp.app _ (by omega))
    have c3' : blk? (H2 ++ [some ⟨true, 1, [Cell.sl H.length 4 0 1, Cell.sl H1.length 8 0 2]⟩]) H2.length = some ⟨true, 1, [Cell.sl H.length 4 0 1, Cell.sl H1.length 8 0 2]⟩ := blk_new _ _
    have c2'' : blk? (H2 ++ [some ⟨true, 1, [Cell.sl H.length 4 0 1, Cell.sl H1.length 8 0 2]⟩]) H1.length = some ⟨true, 4, atmC [⟨-1, 0, 120, v5⟩, ⟨1, 0, 0, b7⟩]⟩ := blk_old c2' _
    have c1''' : blk? (H2 ++ [some ⟨true, 1, [Cell.sl H.length 4 0 1, Cell.sl H1.length 8 0 2]⟩]) H.length = some ⟨true, 4, atmC [⟨0, b3, 0, b4⟩]⟩ := blk_old c1'' _
    have n3 : (H2 ++ [some (Blk.mk true 1 [Cell.sl H.length 4 0 1, Cell.sl H1.length 8 0 2])]).length = H2.length + 1 := by simp
    refine ⟨_, _, ⟨tName, inits, rows, ck, [[⟨0, b3, 0, b4⟩], [⟨-1, 0, 120, v5⟩, ⟨1, 0, 0, b7⟩]]⟩, rfl, ?_, ⟨(by show tName.size ≤ 20; decide), hn, hc, hmem, hi, by simp, ?_⟩, hv2.2.2.2.trans (k3.mono (by have := hv2.2.2.1; omega))⟩
    · refine ⟨a, y, .sl H2.length 2 0 2, by simp [splice], ⟨ha2.keep hal2 k3, Low_mono k3.1 hal2⟩, hy2.of.keep k3, ⟨[Cell.sl H.length 4 0 1, Cell.sl H1.length 8 0 2], ⟨rfl, .inr ⟨_, _, 0, rfl, .inr ⟨_, c3', rfl, by simp, fun j _ => by simp⟩⟩⟩, .inr (by omega), fun t r ht => ?_⟩⟩
      match t, ht with
      | 0, ht =>
        cases ht
        exact ⟨_, rfl, ⟨rfl, .inr ⟨_, _, 0, rfl, .inr ⟨_, c1''', rfl, by simp, fun j _ => by simp⟩⟩⟩, .inr (by omega)⟩
      | 1, ht =>
        cases ht
        exact ⟨_, rfl, ⟨rfl, .inr ⟨_, _, 0, rfl, .inr ⟨_, c2'', rfl, by simp, fun j _ => by simp⟩⟩⟩, .inr (by omega)⟩
      | t + 2, ht => simp at ht
    · intro row hr
      simp only [List.mem_cons, List.not_mem_nil, or_false] at hr
      rcases hr with rfl | rfl
      · exact ⟨by simp, fun a ha => by simp at ha; subst ha; exact .inl rfl⟩
      · refine ⟨by simp, fun a ha => ?_⟩
        simp at ha
        rcases ha with rfl | rfl
        · exact .inr rfl
        · exact .inl rfl
  · rw [if_neg h3, if_pos ⟨rfl, rfl⟩, if_pos ⟨rfl, hs0, rfl⟩, if_pos ⟨rfl, rfl⟩]
    refine ⟨_, _, ⟨tName, inits, rows, 0, []⟩, rfl, ⟨a, y, .nils, rfl, ⟨ha2, hal2⟩, hy2.of, ⟨[], ⟨rfl, .inl ⟨rfl, rfl⟩⟩, trivial, fun t r ht => by simp at ht⟩⟩, ⟨(by show tName.size ≤ 20; decide), hn, hc, hmem, hi, by simp, by simp⟩, hv2.2.2.2⟩

theorem Small_R (hE : jacquardlaw3_Small_In E) {h : AHeap} {x : Cell} {l : List Int} (hx : SlAt h x 1 (intC .i64 l) l.length) (hlow : Low h.length x) (hl : l.length < 9223372036854775808) {most : Nat} (hmost : most ≤ 900) :
    ∃ (cs : List Cell) (h' : AHeap) (T : PTest), R E 97 [.c x, .c (.int .i64 (most : Int))] h = some ([.agg cs], h') ∧ TestAt h' cs T ∧ GoodT most T ∧ Kp h.length h h' := by
  suffices hs : ∃ (cs : List Cell) (h' : AHeap) (T : PTest), jacquardlaw3_Small.body (R E) Lim E.glob [.c x, .c (.int .i64 (most : Int))] h = some ([.agg cs], h') ∧ TestAt h' cs T ∧ GoodT most T ∧ Kp h.length h h' by
    obtain ⟨cs, h', T, h1, h2⟩ := hs; exact ⟨cs, h', T, R_intro hE.fn h1, h2⟩
  have hc : AV.cells (.c x) = [x] := rfl
  have hl1 : ([x] : List Cell).length = 1 := rfl
  have hl0 : ([Cell.int .i64 0] : List Cell).length = 1 := rfl
  have hln : (h ++ [some (Blk.mk true 0 [x])]).length = h.length + 1 := by simp
  have hnm : splice [Cell.str (ByteArray.mk #[]), Cell.nils, Cell.nils, Cell.int .i64 0, Cell.nils] 0 ([(.str (ByteArray.mk #[116]))] : List Cell) = [.str tName, .nils, .nils, .int .i64 0, .nils] := rfl
  rw [jacquardlaw3_Small_eq, hc, hl1, hl0, hnm, if_pos ⟨rfl, rfl, rfl⟩, rd1' (blk_new _ _), if_pos (by simp), putH_ok (blk_new _ _) rfl, setBlk_last]
  dsimp only [List.set]
  rw [hln]
  have hv0 : VarsAt h x (h ++ [some ⟨true, 0, [x]⟩] ++ [some ⟨true, 0, [Cell.int .i64 0]⟩]) 0 := by
    refine ⟨blk_old (blk_new _ _) _, ?_, by simp, ?_⟩
    · have := blk_new (h ++ [some (Blk.mk true 0 [x])]) ⟨true, 0, [Cell.int .i64 0]⟩
      rw [hln] at this; exact this
    · rw [List.append_assoc]; exact Kp.app _ (Nat.le_refl _)
  have hlen0 : (h ++ [some (Blk.mk true 0 [x])] ++ [some (Blk.mk true 0 [Cell.int .i64 0])]).length = h.length + 2 := by simp
  generalize h ++ [some (Blk.mk true 0 [x])] ++ [some (Blk.mk true 0 [Cell.int .i64 0])] = H0 at *
  rw [show (Cell.fn 115 [(h.length + 1, 1, 0), (h.length, 1, 0)]) = nxF h from rfl]
  obtain ⟨a0, a0p, _, hF1, hv1⟩ := next_R hE.c115 hx hlow hl hv0 (by omega)
  rw [hF1, asI_ok]
  have hlen1 : (setBlk H0 (h.length + 1) (some ⟨true, 0, [.int .i64 ((0 + 1 : Nat) : Int)]⟩)).length = h.length + 2 := by rw [setBlk_len, hlen0]
  generalize setBlk H0 (h.length + 1) (some ⟨true, 0, [.int .i64 ((0 + 1 : Nat) : Int)]⟩) = H1 at *
  obtain ⟨a1, a1p, _, hF2, hv2⟩ := next_R hE.c115 hx hlow hl hv1 (by omega)
  rw [hF2, asI_ok]
  have hlen2 : (setBlk H1 (h.length + 1) (some ⟨true, 0, [.int .i64 ((0 + 1 + 1 : Nat) : Int)]⟩)).length = h.length + 2 := by rw [setBlk_len, hlen1]
  generalize setBlk H1 (h.length + 1) (some ⟨true, 0, [.int .i64 ((0 + 1 + 1 : Nat) : Int)]⟩) = H2 at *
  obtain ⟨a2, a2p, _, hF3, hv3⟩ := next_R hE.c115 hx hlow hl hv2 (by omega)
  rw [hF3, asI_ok]
  have hlen3 : (setBlk H2 (h.length + 1) (some ⟨true, 0, [.int .i64 ((0 + 1 + 1 + 1 : Nat) : Int)]⟩)).length = h.length + 2 := by rw [setBlk_len, hlen2]
  generalize setBlk H2 (h.length + 1) (some ⟨true, 0, [.int .i64 ((0 + 1 + 1 + 1 : Nat) : Int)]⟩) = H3 at *
  have n2 := rem_rng (E := E) a0p (show (0 : Int) < 2 by omega)
  have n3 := rem_rng (E := E) a1p (show (0 : Int) < 2 by omega)
  have w2 : E.glob.wrap .i64 (E.glob.rem .i64 a0 2 + 2) = E.glob.rem .i64 a0 2 + 2 := g_wrap_i64 (by omega) (by omega)
  have w3 : E.glob.wrap .i64 (E.glob.rem .i64 a1 2 + 2) = E.glob.rem .i64 a1 2 + 2 := g_wrap_i64 (by omega) (by omega)
  rw [w2, w3]
  obtain ⟨n, hn⟩ : ∃ n : Nat, E.glob.rem .i64 a0 2 + 2 = (n : Int) := ⟨(E.glob.rem .i64 a0 2 + 2).toNat, by omega⟩
  generalize hLL : E.glob.rem .i64 a1 2 + 2 = L at *
  rw [hn]
  -- what is there from the loops on
  have rest : ∀ (m : Nat) (H : AHeap) (a : Cell) (inits : List (Int × Int)), m ≤ 4 → VarsAt h x H m → SlAt H a 2 (pairC inits) inits.length → Low H.length a → (∀ k, isBlk a k → k ≠ h.length + 1) → (inits = [] ∨ ∃ v : Int, 0 ≤ v ∧ v < 3 ∧ inits = [(120, v)]) →
      ∃ (cs : List Cell) (h' : AHeap) (T : PTest), (jacquardlaw3_Small_k2 (R E) Lim E.glob h) .normal (jacquardlaw3_Small_c1 (most : Int) (nxF h) (n : Int) L [Cell.str (ByteArray.mk #[]), Cell.nils, Cell.nils, Cell.int .i64 0, Cell.nils] [.str tName, a, .nils, .int .i64 0, .nils] H) = some ([.agg cs], h') ∧ TestAt h' cs T ∧ GoodT most T ∧ Kp h.length h h' := by
    intro m H a inits hm hv ha hal had hi
    obtain ⟨mem', m', rows', y', H', f1, f2, f3, f4, f5, f6, f7, f8, f9, f10⟩ := small_thrs hE.c115 hx hlow hl hmost (n := n) (by omega) (L := L) (by omega) [Cell.str (ByteArray.mk #[]), Cell.nils, Cell.nils, Cell.int .i64 0, Cell.nils] a (name := tName) (Nb := H.length) hv.2.2.1 n 0 0 m [] .nils H (by omega) rfl (by omega) (by omega) rfl (by simp) hv (Nat.le_refl _) (RowsOwn.nil _)
    have ha' : SlAt H' a 2 (pairC inits) inits.length := by
      refine ⟨ha.1, ha.2.imp id ?_⟩
      rintro ⟨k, N, off, e, hh | ⟨b, hb, hN, hle, hat⟩⟩
      · exact ⟨k, N, off, e, .inl hh⟩
      · exact ⟨k, N, off, e, .inr ⟨b, by rw [f10.blk (blk_lt' hb) (had k (by rw [e]; rfl))]; exact hb, hN, hle, hat⟩⟩
    obtain ⟨cs, h', T, g1, g2, g3, g4⟩ := small_end hE.c115 (hb := h) hx hlow hl f6 (by omega) (most := most) (rows := rows') (a := a) (y := y') (inits := inits) (Nb := H.length) hv.2.2.1 f8 f9 ⟨ha', Low_mono f10.1 hal, had⟩ hi (by omega) (by omega) ⟨L, by omega, f5⟩ (s0 := [Cell.str (ByteArray.mk #[]), Cell.nils, Cell.nils, Cell.int .i64 0, Cell.nils]) rfl
    refine ⟨cs, h', T, ?_, g2, g3, g4⟩
    rw [jacquardlaw3_Small_ec1_n]
    have e0 : jacquardlaw3_Small_s2 (most : Int) (nxF h) (n : Int) L 0 0 [Cell.str (ByteArray.mk #[]), Cell.nils, Cell.nils, Cell.int .i64 0, Cell.nils] [.str tName, a, .nils, .int .i64 0, .nils] H = jacquardlaw3_Small_s2 (most : Int) (nxF h) (n : Int) L ((0 : Nat) : Int) ((0 : Nat) : Int) [Cell.str (ByteArray.mk #[]), Cell.nils, Cell.nils, Cell.int .i64 0, Cell.nils] [.str tName, a, .nils, .int .i64 0, .nils] H := rfl
    rw [e0, f1, bind_ok, g1]
  by_cases h4 : (E.glob.rem .i64 a2 4 == 0) = true
  · obtain ⟨a3, a3p, _, hF4, hv4⟩ := next_R hE.c115 hx hlow hl hv3 (by omega)
    have q3 := rem_rng (E := E) a3p (show (0 : Int) < 3 by omega)
    rw [if_pos h4, show ∀ {α : Type} (f : Cell → Option α), atK [Cell.str tName, .nils, .nils, .int .i64 0, .nils] 1 f = f .nils from fun _ => rfl, hF4, asI_ok]
    have hlen4 : (setBlk H3 (h.length + 1) (some ⟨true, 0, [.int .i64 ((0 + 1 + 1 + 1 + 1 : Nat) : Int)]⟩)).length = h.length + 2 := by rw [setBlk_len, hlen3]
    generalize setBlk H3 (h.length + 1) (some ⟨true, 0, [.int .i64 ((0 + 1 + 1 + 1 + 1 : Nat) : Int)]⟩) = H4 at *
    generalize E.glob.rem .i64 a3 3 = v at *
    have e1 : splice (splice [Cell.int .i64 0, Cell.int .i64 0] 0 ([(.int .i64 120)] : List Cell)) 1 ([(.int .i64 v)] : List Cell) = pairC [(120, v)] := rfl
    have e2 : splice [Cell.int .i64 0, Cell.int .i64 0] 0 (pairC [(120, v)]) = pairC [(120, v)] := rfl
    have hm : maxBytes ≥ 100 := by unfold maxBytes; omega
    have hap : ∀ {α : Type} (f : Cell → AHeap → Option α), appK 2 16 .nils (pairC [(120, v)]) H4 f = f (.sl H4.length 2 0 1) (H4 ++ [some ⟨true, 2, pairC [(120, v)]⟩]) := by
      intro α f
      unfold appK
      simp only
      rw [if_neg (by simp [pairC]), if_pos ⟨by simp [pairC]; omega, by simp [pairC]; omega⟩]
      simp [pairC]
    rw [e1, if_pos ⟨rfl, by simp⟩, e2, if_pos (show (pairC [(120, v)]).length = 1 * 2 from rfl), hap, if_pos (by simp), bind_ok]
    have hv5 : VarsAt h x (H4 ++ [some ⟨true, 2, pairC [(120, v)]⟩]) (0 + 1 + 1 + 1 + 1) := hv4.keep (Kp.app _ (by omega))
    exact rest (0 + 1 + 1 + 1 + 1) _ (.sl H4.length 2 0 1) [(120, v)] (by omega) hv5 ⟨rfl, .inr ⟨_, _, 0, rfl, .inr ⟨_, blk_new _ _, rfl, by simp, fun j _ => by simp⟩⟩⟩ (.inr (by simp)) (fun k hk => by have : H4.length = k := hk; omega) (.inr ⟨v, q3.1, q3.2, rfl⟩)
  · rw [if_neg h4, bind_ok]
    exact rest (0 + 1 + 1 + 1) _ .nils [] (by omega) hv3 ⟨rfl, .inl ⟨rfl, rfl⟩⟩ trivial (fun k hk => by cases hk) (.inl rfl)

end
end Jq

/- Laws of events: kinds, orders. -/
namespace Jq
open Go

section
variable {E : Env}

end
end Jq

/- Laws of events: kinds, orders. -/
namespace Jq
open Go

section
variable {E : Env}

/-- A row of a block of its own. -/
theorem SlAt.whole {h : AHeap} {k len esz : Nat} {cs : List Cell} {o : Bool} {e : Nat} (hb : blk? h k = some ⟨o, e, cs⟩) (hl : cs.length = len * esz) : SlAt h (.sl k cs.length 0 len) esz cs len :=
  ⟨hl, .inr ⟨k, _, 0, rfl, .inr ⟨_, hb, rfl, by omega, fun j _ => by simp⟩⟩⟩

end
end Jq

/- Programs made of numbers; what a thread's events are. -/
namespace Jq
open Go

/-- Skips lead to where they may. -/
def SkipOk (code : List Ins) : Prop := ∀ (j : Nat) (i : Ins), code[j]? = some i → i.kind = 6 → 0 ≤ i.n ∧ (j : Int) + 1 + i.n ≤ code.length

structure GoodP (most : Nat) (P : PProg) : Prop where
  small : P.small
  good : P.good
  n : 2 ≤ P.thr.length ∧ P.thr.length ≤ 3
  init : P.init.length ≤ 3
  locs : P.locs.length = P.init.length
  code : ∀ c ∈ P.thr, c.length ≤ 6
  skip : ∀ c ∈ P.thr, SkipOk c

theorem SmI.good {L : Int} {i : Ins} (s : SmI L i) {n : Nat} (hn : 1 ≤ n) : GoodI n i := by
  rcases s with ⟨h1, h2, _⟩ | ⟨h1, h2, _⟩ | rfl | ⟨h1, h2, _⟩ | ⟨h1, h2, _, _, h3, _⟩ | ⟨h1, h2, _, _, h3, _, h4⟩
  all_goals refine ⟨?_, ?_, ?_, ?_⟩ <;> (try simp only) <;> omega

theorem SmI.skip {L : Int} {i : Ins} (s : SmI L i) (h : i.kind = 6) : i.n = 1 := by
  rcases s with ⟨h1, _⟩ | ⟨h1, _⟩ | rfl | ⟨h1, _⟩ | ⟨h1, _⟩ | ⟨h1, h2, _, _, h3, _, h4⟩
  · omega
  · omega
  · simp at h
  · omega
  · omega
  · exact h4

theorem ThrOk.skip {L : Int} {k : Nat} {c : List Ins} (t : ThrOk L k c) : SkipOk c := by
  induction t with
  | nil => intro j i h; simp at h
  | @one k c q t hq h6 ih =>
    intro j i h hk
    rcases Nat.lt_or_ge j c.length with hj | hj
    · rw [List.getElem?_append_left hj] at h
      have := ih j i h hk
      rw [List.length_append]; simp; omega
    · rw [List.getElem?_append_right hj] at h
      have := List.mem_of_getElem? h
      rw [List.mem_singleton] at this
      subst this; exact absurd hk h6
  | @two k c q r t hq h6 hr hr1 ih =>
    intro j i h hk
    rcases Nat.lt_or_ge j c.length with hj | hj
    · rw [List.getElem?_append_left hj] at h
      have := ih j i h hk
      rw [List.length_append]; simp; omega
    · rw [List.getElem?_append_right hj] at h
      have h2 := getI_lt h
      simp only [List.length_cons, List.length_nil] at h2
      rcases (show j - c.length = 0 ∨ j - c.length = 1 by omega) with e | e
      · rw [e] at h
        cases h
        have := hq.skip hk
        rw [List.length_append]; simp; omega
      · rw [e] at h
        cases h
        omega

theorem compI_kn {locs : List Int} {i : Ins} : (compI locs i).kind = i.kind ∧ (compI locs i).n = i.n := by
  unfold compI; split <;> exact ⟨rfl, rfl⟩

theorem SkipOk.map {locs : List Int} {c : List Ins} (s : SkipOk c) : SkipOk (c.map (compI locs)) := by
  intro j i h hk
  rw [List.getElem?_map] at h
  cases hc : c[j]? with
  | none => rw [hc] at h; cases h
  | some q =>
    rw [hc] at h
    cases h
    rw [compI_kn.1] at hk
    rw [compI_kn.2, List.length_map]
    exact s j q hc hk

theorem compI_good {locs : List Int} {i : Ins} {n : Nat} (g : GoodI n i) : GoodI n (compI locs i) := by
  unfold compI
  split
  · exact ⟨g.1, g.2, g.3, g.4⟩
  · exact g

theorem SmI.loc {L : Int} {i : Ins} (s : SmI L i) : i.loc = 0 ∨ (120 ≤ i.loc ∧ i.loc < 120 + L) := by
  rcases s with ⟨h1, h2, h3, _⟩ | ⟨h1, h2, h3, _⟩ | rfl | ⟨h1, h2, h3, _⟩ | ⟨h1, h2, h3, _, _⟩ | ⟨h1, h2, h3, _, _, _⟩
  · exact .inr h3
  · exact .inr h3
  · exact .inl rfl
  · exact .inr h3
  · exact .inl h3
  · exact .inl h3

theorem locsF_few (S : Nat → Bool) (hS : ∀ b, 97 ≤ b → b < 120 → S b = false) : ∀ n, n ≤ 26 → (locsF S n).length ≤ n - 23
  | 0, _ => by simp [locsF]
  | n + 1, h => by
    have ih := locsF_few S hS n (by omega)
    rw [locsF_succ]
    split
    · rename_i hs
      have : ¬ 97 + n < 120 := fun hlt => by rw [hS _ (by omega) hlt] at hs; cases hs
      rw [List.length_append, List.length_singleton]; omega
    · omega

theorem GoodT.small {most : Nat} {T : PTest} (g : GoodT most T) : T.small := by
  obtain ⟨L, hL, hc⟩ := g.code
  refine ⟨?_, by have := g.n; omega, fun c hcm => ?_, by have := g.any.1; omega, fun c hcm => by have := (g.any.2 c hcm).1; omega⟩
  · rcases g.inits with h | ⟨v, _, _, h⟩ <;> rw [h] <;> simp
  · obtain ⟨k, hk, ht⟩ := hc c hcm
    have := ht.len; omega

theorem GoodT.few {most : Nat} {T : PTest} (g : GoodT most T) : (locsT T).length ≤ 3 := by
  obtain ⟨L, hL, hc⟩ := g.code
  refine Nat.le_trans (locsF_few (thereT T) (fun b h1 h2 => ?_) 26 (Nat.le_refl _)) (by omega)
  unfold thereT
  rw [Bool.or_eq_false_iff, Bool.or_eq_false_iff]
  refine ⟨⟨?_, ?_⟩, ?_⟩
  · rw [List.any_eq_false]
    intro p hp
    rcases g.inits with h | ⟨v, _, _, h⟩
    · rw [h] at hp; cases hp
    · rw [h] at hp
      rw [List.mem_singleton] at hp
      subst hp
      rw [beq_iff_eq]; simp only; omega
  · rw [List.any_eq_false]
    intro c hcm
    rw [Bool.not_eq_true, List.any_eq_false]
    intro i hi
    obtain ⟨k, hk, ht⟩ := hc c hcm
    rw [beq_iff_eq]
    have := (ht.all i hi).loc
    omega
  · rw [List.any_eq_false]
    intro c hcm
    rw [Bool.not_eq_true, List.any_eq_false]
    intro i hi
    rw [beq_iff_eq]
    have := (g.any.2 c hcm).2 i hi
    omega

theorem GoodT.goodP {most : Nat} {T : PTest} (g : GoodT most T) : GoodP most (compT T) := by
  obtain ⟨L, hL, hc⟩ := g.code
  have hlen : ∀ c ∈ T.thr, c.length ≤ 6 := fun c hcm => by
    obtain ⟨k, hk, ht⟩ := hc c hcm
    have := ht.len; omega
  have hcode : ∀ c ∈ (compT T).thr, c.length ≤ 6 := fun c hcm => by
    obtain ⟨d, hd, rfl⟩ := List.mem_map.1 hcm
    rw [List.length_map]; exact hlen d hd
  have hn : (compT T).thr.length = T.thr.length := List.length_map _
  have hi : (compT T).init.length = (locsT T).length := List.length_map _
  have hfew := g.few
  have hgn := g.n
  refine ⟨⟨by omega, fun c hcm => by have := hcode c hcm; omega⟩, ⟨⟨by omega, fun c hcm => by have := hcode c hcm; omega⟩, fun c hcm => ?_⟩, by omega, by omega, hi.symm, hcode, fun c hcm => by
    obtain ⟨d, hd, rfl⟩ := List.mem_map.1 hcm
    obtain ⟨k, hk, ht⟩ := hc d hd
    exact ht.skip.map⟩
  obtain ⟨d, hd, rfl⟩ := List.mem_map.1 hcm
  intro i him
  obtain ⟨j, hj, rfl⟩ := List.mem_map.1 him
  rw [List.length_map]
  obtain ⟨k, hk, ht⟩ := hc d hd
  exact compI_good ((ht.all j hj).good (List.length_pos_of_mem hj))

section
variable {E : Env}

end

/-- How many events read. -/
def rdc (l : List Evt) : Nat := l.countP evRd
def EvOk (t : Int) (all : List Int) (j n : Nat) (e : Evt) : Prop :=
  e.t = t ∧ e.i = (j : Int) ∧ 1 ≤ e.kind ∧ e.kind ≤ 5 ∧ (evWr e = false → e.w = 0) ∧ (evRd e = true → all[n]? = some e.r) ∧ (evRd e = false → e.r = 0)
def OutOk (t : Int) (all : List Int) (out : List Evt) : Prop := ∀ (j : Nat) (e : Evt), out[j]? = some e → EvOk t all j (rdc (out.take j)) e

theorem OutOk.nil (t : Int) (all : List Int) : OutOk t all [] := fun j e h => by simp at h
end Jq

/- Laws of threads step by step. -/
namespace Jq
open Go

section
variable {E : Env}

theorem Size_R (hE : prog_Size_In E) {cs : List Cell} {P : PProg} {h : AHeap} (p : ProgAt h cs P) (hs : P.small) : R E 102 [.agg cs] h = some ([.c (.int .i64 (sumL P.thr))], h) := by
  obtain ⟨a, b, c, ts, rfl, _, _, ⟨hc, _⟩, hx⟩ := p
  refine R_intro hE.fn ?_
  have a2 : ∀ {α : Type} (f : Cell → Option α), atK [a, b, c] 2 f = f c := fun _ => rfl
  have n2 := hs.1
  have loop := Lim_count (F := prog_Size_F1 (R E) Lim E.glob) (fun i => prog_Size_s1 (sumL (P.thr.take i)) c P.thr.length (i : Int) h) 0 P.thr.length (by omega) (p := (.exit 0, prog_Size_x1_1 (sumL (P.thr.take P.thr.length)) h))
    (fun i _ hi => by
      have hq : P.thr[i]? = some P.thr[i] := List.getElem?_eq_getElem hi
      generalize P.thr[i] = q at hq
      obtain ⟨y, y1, y2, y3⟩ := hx i q hq
      have hsum := sumT_le (P.thr.take i) fun c hc => hs.2 c (List.mem_of_mem_take hc)
      rw [List.length_take] at hsum
      have hql := hs.2 q (List.mem_of_getElem? hq)
      have hw : E.glob.wrap .i64 (sumL (P.thr.take i) + (q.length : Int)) = sumL (P.thr.take (i + 1)) := by
        rw [takeI_succ hq, sumL_snoc]
        unfold sumL
        exact g_wrap_i64 (by omega) (by omega)
      rw [prog_Size_r1, if_pos (by simp; omega), hc.get1 hi y1, y2.len, hw, g_succ (by omega)])
    (Lim_exit (by rw [prog_Size_r1, if_neg (by simp)]))
  rw [List.take_of_length_le (Nat.le_refl _), show sumL (P.thr.take 0) = 0 from rfl, show ((0 : Nat) : Int) = 0 from rfl] at loop
  rw [prog_Size_eq, a2, hc.len, loop, bind_ok, prog_Size_e1_1]

def T6 : PTest := ⟨ByteArray.mk #[97], [], [[⟨5, 0, 0, ⟨-1, 1⟩, 0, ⟨-1, 0⟩, 0⟩, ⟨1, 0, 120, ⟨0, 0⟩, 0, ⟨0, 0⟩, 0⟩]], 0, []⟩

theorem T6_small : T6.small := ⟨by decide, by decide, by decide, by decide, by decide⟩
theorem T6_check : checkT T6 = 0 := by decide +kernel

theorem awake6_R (hE : jacquardlaw6_awake_In E) (h : AHeap) : R E 95 [] h = some ([.c (.bool true)], h) := by
  refine R_intro hE.fn ?_
  rw [jacquardlaw6_awake_eq, if_pos (by exact ⟨rfl, Nat.le_of_ble_eq_true rfl⟩), if_pos (by exact ⟨rfl, Nat.le_of_ble_eq_true rfl⟩), if_pos (by exact ⟨rfl, Nat.le_of_ble_eq_true rfl⟩), if_pos (by exact ⟨rfl, Nat.le_of_ble_eq_true rfl⟩), if_pos (by exact ⟨rfl, Nat.le_of_ble_eq_true rfl⟩), if_pos (by exact rfl), if_pos (by exact rfl), if_pos (by exact ⟨rfl, rfl, rfl⟩), if_pos (by exact ⟨rfl, rfl⟩)]
  have p : TestAt ((h ++ [some (Blk.mk true 9 (codeC [⟨5, 0, 0, ⟨-1, 1⟩, 0, ⟨-1, 0⟩, 0⟩, ⟨1, 0, 120, ⟨0, 0⟩, 0, ⟨0, 0⟩, 0⟩]))]) ++ [some (Blk.mk true 1 [.sl h.length 18 0 2])]) [.str (ByteArray.mk #[97]), .nils, .sl (h ++ [some (Blk.mk true 9 (codeC [⟨5, 0, 0, ⟨-1, 1⟩, 0, ⟨-1, 0⟩, 0⟩, ⟨1, 0, 120, ⟨0, 0⟩, 0, ⟨0, 0⟩, 0⟩]))]).length 1 0 1, .int .i64 0, .nils] T6 := by
    refine ⟨.nils, _, .nils, rfl, ⟨⟨rfl, .inl ⟨rfl, rfl⟩⟩, trivial⟩, ⟨[.sl h.length 18 0 2], SlAt.whole (blk_new _ _) rfl, .inr (by simp), fun t r hr => ?_⟩, ⟨[], ⟨rfl, .inl ⟨rfl, rfl⟩⟩, trivial, fun t r hr => by simp [T6] at hr⟩⟩
    cases t with
    | zero =>
      cases hr
      exact ⟨_, rfl, SlAt.whole (blk_old (blk_new _ _) _) rfl, .inr (by simp)⟩
    | succ t => simp [T6] at hr
  have k0 : Kp h.length h ((h ++ [some (Blk.mk true 9 (codeC [⟨5, 0, 0, ⟨-1, 1⟩, 0, ⟨-1, 0⟩, 0⟩, ⟨1, 0, 120, ⟨0, 0⟩, 0, ⟨0, 0⟩, 0⟩]))]) ++ [some (Blk.mk true 1 [.sl h.length 18 0 2])]) := (Kp.app _ (Nat.le_refl _)).trans (Kp.app _ (by simp))
  obtain ⟨cs, h', r1, r2, r3⟩ := Compile_R hE.c98 p T6_small (by decide) T6_check
  have hsm : (compT T6).small := ⟨by decide +kernel, by decide +kernel⟩
  have hst := PStart_R hE.c94 hsm.fits r2 0
  have hnx := PNext_R hE.c105 r2 (t := 0) (l := startL (compT T6) 0)
  have hsz := Size_R hE.c102 r2 hsm
  have v1 : (startL (compT T6) 0).pc = 1 := by decide +kernel
  have v2 : (startL (compT T6) 0).r0 = 1 := by decide +kernel
  have v3 : (nextI ((compT T6).code 0) (startL (compT T6) 0)).isSome = true := by decide +kernel
  have v4 : ((nextI ((compT T6).code 0) (startL (compT T6) 0)).getD Ins.zero).kind = 1 := by decide +kernel
  have v5 : sumL (compT T6).thr = 2 := by decide +kernel
  rw [v5] at hsz
  rw [v3] at hnx
  have q0 : ∀ {α : Type} (f : Cell → Option α), atK (startL (compT T6) 0).cs 0 f = f (.int .i64 1) := fun f => by rw [← v1]; rfl
  have q1 : ∀ {α : Type} (f : Cell → Option α), atK (startL (compT T6) 0).cs 1 f = f (.int .i64 1) := fun f => by rw [← v2]; rfl
  refine Eq.trans (congrArg (fun z => c2 z _) r1) ?_
  rw [c2_ok, asA_ok, asI_ok, if_pos ⟨rfl, rfl, r2.len⟩, if_pos ⟨rfl, r2.len⟩, hst, c1_ok, asA_ok, if_pos ⟨rfl, rfl, rfl⟩, if_pos ⟨rfl, r2.len⟩, if_pos ⟨rfl, rfl⟩, hnx, c2_ok, asA_ok, asB_ok, if_pos ⟨rfl, rfl, rfl⟩]
  rw [show ((0 : Int) == 0) = true from rfl, scK_ok, q0, asI_ok, bind_ok]
  dsimp only
  rw [show ((1 : Int) == 1) = true from rfl, scK_ok, q1, asI_ok, bind_ok]
  dsimp only
  rw [show ((1 : Int) == 1) = true from rfl, scK_ok, bind_ok]
  dsimp only
  rw [scK_ok, ins_kind, asI_ok, v4, bind_ok]
  dsimp only
  rw [show ((1 : Int) == 1) = true from rfl, scK_ok, if_pos ⟨rfl, r2.len⟩, hsz, c1_ok, asI_ok, bind_ok]
  dsimp only
  exact finish_gc (k0.trans (r3.mono k0.1)) (by simp [avOk, AV.cells, idOk])

end
end Jq

namespace Jq
open Go

/- jacquard/jacquardlaw4.Few: 96 -/
def jacquardlaw4_Few_k2 (C : CallF) (L : LoopF) (G : Glo) (h0 : AHeap) : Ex → St → Option (List AV × AHeap) :=
  kSeq (fun st => jacquardlaw4_Few_p1.exec C L G st (jacquardlaw4_Few.fin G h0)) (jacquardlaw4_Few.fin G h0)
def jacquardlaw4_Few_k3 (C : CallF) (L : LoopF) (G : Glo) (h0 : AHeap) : Ex → St → Option (List AV × AHeap) :=
  kBlk 0 (jacquardlaw4_Few_k2 C L G h0)
def jacquardlaw4_Few_s1 (a3 : Int) (s0 : List Cell) (h : AHeap) : St := ⟨[.top, .loc 0 0, .top, .v (.c (.int .i64 a3)), .top, .top, .top, .top, .top, .top, .top, .top, .top, .top, .top, .top, .top, .top, .top, .top, .top, .top, .top, .top, .top, .top, .top, .top, .top, .top, .top, .top, .top, .top, .top, .top, .top, .top, .top, .top, .top, .top, .top, .top, .top, .top, .top, .top, .top, .top, .top, .top, .top, .top, .top, .top, .top, .top], [some s0], h⟩
def jacquardlaw4_Few_F1 (C : CallF) (L : LoopF) (G : Glo) : St → Option (Ex × St) :=
  roundF (fun st f => jacquardlaw4_Few_b1.exec C L G st f) [1, 3] [0] [(0, [2], []), (1, [1], [0])]
def jacquardlaw4_Few_x1_0 (b2 : Bool) (h : AHeap) : St := ⟨[.top, .top, .v (.c (.bool b2)), .top, .top, .top, .top, .top, .top, .top, .top, .top, .top, .top, .top, .top, .top, .top, .top, .top, .top, .top, .top, .top, .top, .top, .top, .top, .top, .top, .top, .top, .top, .top, .top, .top, .top, .top, .top, .top, .top, .top, .top, .top, .top, .top, .top, .top, .top, .top, .top, .top, .top, .top, .top, .top, .top, .top], [none], h⟩
def jacquardlaw4_Few_x1_1 (s0 : List Cell) (h : AHeap) : St := ⟨[.top, .loc 0 0, .top, .top, .top, .top, .top, .top, .top, .top, .top, .top, .top, .top, .top, .top, .top, .top, .top, .top, .top, .top, .top, .top, .top, .top, .top, .top, .top, .top, .top, .top, .top, .top, .top, .top, .top, .top, .top, .top, .top, .top, .top, .top, .top, .top, .top, .top, .top, .top, .top, .top, .top, .top, .top, .top, .top, .top], [some s0], h⟩
def jacquardlaw4_Few_k4 (C : CallF) (L : LoopF) (G : Glo) (h0 : AHeap) : Ex → St → Option (List AV × AHeap) :=
  kSeq (fun st => jacquardlaw4_Few_p2.exec C L G st (jacquardlaw4_Few.fin G h0)) (jacquardlaw4_Few.fin G h0)
def jacquardlaw4_Few_k5 (C : CallF) (L : LoopF) (G : Glo) (h0 : AHeap) : Ex → St → Option (List AV × AHeap) :=
  kBlk 2 (jacquardlaw4_Few_k4 C L G h0)
def jacquardlaw4_Few_s2 (a4 : Int) (s0 : List Cell) (h : AHeap) : St := ⟨[.top, .loc 0 0, .top, .top, .v (.c (.int .i64 a4)), .top, .top, .top, .top, .top, .top, .top, .top, .top, .top, .top, .top, .top, .top, .top, .top, .top, .top, .top, .top, .top, .top, .top, .top, .top, .top, .top, .top, .top, .top, .top, .top, .top, .top, .top, .top, .top, .top, .top, .top, .top, .top, .top, .top, .top, .top, .top, .top, .top, .top, .top, .top, .top], [some s0], h⟩
def jacquardlaw4_Few_F2 (C : CallF) (L : LoopF) (G : Glo) : St → Option (Ex × St) :=
  roundF (fun st f => jacquardlaw4_Few_b2.exec C L G st f) [1, 4] [0] [(0, [2], []), (3, [], [])]
def jacquardlaw4_Few_x2_0 (b2 : Bool) (h : AHeap) : St := ⟨[.top, .top, .v (.c (.bool b2)), .top, .top, .top, .top, .top, .top, .top, .top, .top, .top, .top, .top, .top, .top, .top, .top, .top, .top, .top, .top, .top, .top, .top, .top, .top, .top, .top, .top, .top, .top, .top, .top, .top, .top, .top, .top, .top, .top, .top, .top, .top, .top, .top, .top, .top, .top, .top, .top, .top, .top, .top, .top, .top, .top, .top], [none], h⟩
def jacquardlaw4_Few_x2_3 (h : AHeap) : St := ⟨[.top, .top, .top, .top, .top, .top, .top, .top, .top, .top, .top, .top, .top, .top, .top, .top, .top, .top, .top, .top, .top, .top, .top, .top, .top, .top, .top, .top, .top, .top, .top, .top, .top, .top, .top, .top, .top, .top, .top, .top, .top, .top, .top, .top, .top, .top, .top, .top, .top, .top, .top, .top, .top, .top, .top, .top, .top, .top], [none], h⟩
theorem jacquardlaw4_Few_r1 (C : CallF) (L : LoopF) (G : Glo) (a3 : Int) (s0 : List Cell) (h : AHeap) :
    jacquardlaw4_Few_F1 C L G (jacquardlaw4_Few_s1 a3 s0 h) =
    atK s0 2 fun q_16 => lenK q_16 fun n_17 => if (decide (a3 < n_17)) = true then atK s0 2 fun q_18 => idxSK 1 q_18 a3 fun k_19 N_20 o_21 => rdH h k_19 N_20 fun l_22 => atK l_22 o_21 fun q_23 => lenK q_23 fun n_24 => if (decide (n_24 > 30)) = true then some (.ret, (jacquardlaw4_Few_x1_0 false h)) else some (.normal, (jacquardlaw4_Few_s1 (G.wrap .i64 (a3 + 1)) s0 h)) else some ((.exit 0), (jacquardlaw4_Few_x1_1 s0 h)) := by kernel_rfl
theorem jacquardlaw4_Few_e1_0 (C : CallF) (L : LoopF) (G : Glo) (h0 : AHeap) (b2 : Bool) (h : AHeap) :
    (jacquardlaw4_Few_k3 C L G h0) .ret (jacquardlaw4_Few_x1_0 b2 h) =
    some ([(.c (.bool b2))], h) := by kernel_rfl
theorem jacquardlaw4_Few_r2 (C : CallF) (L : LoopF) (G : Glo) (a4 : Int) (s0 : List Cell) (h : AHeap) :
    jacquardlaw4_Few_F2 C L G (jacquardlaw4_Few_s2 a4 s0 h) =
    atK s0 4 fun q_25 => lenK q_25 fun n_26 => if (decide (a4 < n_26)) = true then atK s0 4 fun q_27 => idxSK 1 q_27 a4 fun k_28 N_29 o_30 => rdH h k_28 N_29 fun l_31 => atK l_31 o_30 fun q_32 => lenK q_32 fun n_33 => if (decide (n_33 > 12)) = true then some (.ret, (jacquardlaw4_Few_x2_0 false h)) else some (.normal, (jacquardlaw4_Few_s2 (G.wrap .i64 (a4 + 1)) s0 h)) else some ((.exit 2), (jacquardlaw4_Few_x2_3 h)) := by kernel_rfl
theorem jacquardlaw4_Few_e2_0 (C : CallF) (L : LoopF) (G : Glo) (h0 : AHeap) (b2 : Bool) (h : AHeap) :
    (jacquardlaw4_Few_k5 C L G h0) .ret (jacquardlaw4_Few_x2_0 b2 h) =
    some ([(.c (.bool b2))], h) := by kernel_rfl
theorem jacquardlaw4_Few_e2_3 (C : CallF) (L : LoopF) (G : Glo) (h0 : AHeap) (h : AHeap) :
    (jacquardlaw4_Few_k5 C L G h0) (.exit 2) (jacquardlaw4_Few_x2_3 h) =
    some ([(.c (.bool true))], h) := by kernel_rfl
theorem jacquardlaw4_Few_e1_1 (C : CallF) (L : LoopF) (G : Glo) (h0 : AHeap) (s0 : List Cell) (h : AHeap) :
    (jacquardlaw4_Few_k3 C L G h0) (.exit 0) (jacquardlaw4_Few_x1_1 s0 h) =
    (L (jacquardlaw4_Few_F2 C L G) (jacquardlaw4_Few_s2 0 s0 h)).bind fun p_34 => (jacquardlaw4_Few_k5 C L G h0) p_34.1 p_34.2 := by kernel_rfl
set_option maxRecDepth 100000 in
theorem jacquardlaw4_Few_eq (C : CallF) (L : LoopF) (G : Glo) (l0 : List Cell) (h0 : AHeap) :
    jacquardlaw4_Few.body C L G [(.agg l0)] h0 =
    atK l0 2 fun q_1 => lenK q_1 fun n_2 => scK (decide (n_2 > 6)) false (atK l0 1 fun q_3 => lenK q_3 fun n_4 => some ((decide (n_4 > 40)), h0)) true h0 fun b_5 h_6 => scK b_5 false (atK l0 0 fun q_7 => asS (.c q_7) fun z_8 => lenSK (.str z_8) fun n_9 => some ((decide (n_9 > 60)), h_6)) true h_6 fun b_10 h_11 => scK b_10 false (atK l0 4 fun q_12 => lenK q_12 fun n_13 => some ((decide (n_13 > 12)), h_11)) true h_11 fun b_14 h_15 => if b_14 = true then some ([(.c (.bool false))], h_15) else (L (jacquardlaw4_Few_F1 C L G) (jacquardlaw4_Few_s1 0 l0 h_15)).bind fun p_35 => (jacquardlaw4_Few_k3 C L G h0) p_35.1 p_35.2 := by kernel_rfl


end Jq

/- Threads step by step, of any test. -/
namespace Jq
open Go

def shOpd : Sh := .agg (.cons (.i .i64) (.cons (.i .i64) .nil))
def shIns : Sh := .agg (.cons (.i .i64) (.cons (.i .i64) (.cons (.i .i64) (.cons shOpd (.cons (.i .i64) (.cons shOpd (.cons (.i .i64) .nil)))))))
def shAtm : Sh := .agg (.cons (.i .i64) (.cons (.i .i64) (.cons (.i .i64) (.cons (.i .i64) .nil))))
def shCond : Sh := .agg (.cons (.i .i64) (.cons (.sl (.sl shAtm)) .nil))
def shTest : Sh := .agg (.cons .s (.cons (.sl shPair) (.cons (.sl (.sl shIns)) (.cons shCond .nil))))
def shLcl : Sh := .agg (.cons (.i .i64) (.cons (.agg (Sh.rep (.i .i64) 4)) .nil))

theorem opd_of {h : AHeap} {c : List Cell} (o : okC h shOpd c) : ∃ s : Opd, c = s.cs := by
  obtain ⟨x0, y0, rfl, ⟨a0, rfl, _⟩, x1, y1, rfl, ⟨a1, rfl, _⟩, h2⟩ := o
  obtain rfl : y1 = [] := h2
  exact ⟨⟨a0, a1⟩, rfl⟩
theorem ins_of {h : AHeap} {c : List Cell} (o : okC h shIns c) : ∃ s : Ins, c = s.cs := by
  obtain ⟨x0, y0, rfl, ⟨a0, rfl, _⟩, x1, y1, rfl, ⟨a1, rfl, _⟩, x2, y2, rfl, ⟨a2, rfl, _⟩, x3, y3, rfl, o3, x4, y4, rfl, ⟨a4, rfl, _⟩, x5, y5, rfl, o5, x6, y6, rfl, ⟨a6, rfl, _⟩, h7⟩ := o
  obtain rfl : y6 = [] := h7
  obtain ⟨s3, rfl⟩ := opd_of o3
  obtain ⟨s5, rfl⟩ := opd_of o5
  exact ⟨⟨a0, a1, a2, s3, a4, s5, a6⟩, rfl⟩
theorem atm_of {h : AHeap} {c : List Cell} (o : okC h shAtm c) : ∃ s : Atm, c = s.cs := by
  obtain ⟨x0, y0, rfl, ⟨a0, rfl, _⟩, x1, y1, rfl, ⟨a1, rfl, _⟩, x2, y2, rfl, ⟨a2, rfl, _⟩, x3, y3, rfl, ⟨a3, rfl, _⟩, h7⟩ := o
  obtain rfl : y3 = [] := h7
  exact ⟨⟨a0, a1, a2, a3⟩, rfl⟩
theorem okL_ins {h : AHeap} : ∀ (len : Nat) (xs : List Cell), okL (okC h shIns) len xs → ∃ l : List Ins, xs = codeC l ∧ l.length = len
  | 0, xs, h => ⟨[], h, rfl⟩
  | len + 1, xs, ⟨x, y, h1, hx, hy⟩ => by
    obtain ⟨l, h2, h3⟩ := okL_ins len y hy
    obtain ⟨s, rfl⟩ := ins_of hx
    exact ⟨s :: l, by rw [h1, h2]; rfl, by simp [h3]⟩
theorem okL_atm {h : AHeap} : ∀ (len : Nat) (xs : List Cell), okL (okC h shAtm) len xs → ∃ l : List Atm, xs = atmC l ∧ l.length = len
  | 0, xs, h => ⟨[], h, rfl⟩
  | len + 1, xs, ⟨x, y, h1, hx, hy⟩ => by
    obtain ⟨l, h2, h3⟩ := okL_atm len y hy
    obtain ⟨s, rfl⟩ := atm_of hx
    exact ⟨s :: l, by rw [h1, h2]; rfl, by simp [h3]⟩

theorem row_of {h : AHeap} {e : Sh} {cs : List Cell} (o : okC h (.sl e) cs) : ∃ x xs len, cs = [x] ∧ okL (okC h e) len xs ∧ len ≤ maxLen ∧ SlAt h x e.size xs len ∧ Low h.length x := by
  rcases o with rfl | ⟨k, len, xs, rfl, hx, hk, hm, hb⟩
  · exact ⟨.nils, [], 0, rfl, rfl, by omega, ⟨by simp, .inl ⟨rfl, rfl⟩⟩, trivial⟩
  · have hl : xs.length = len * e.size := okL_len (okC_len e) len xs hx
    refine ⟨_, xs, len, rfl, hx, hm, ⟨hl, .inr ⟨k, _, 0, rfl, hb.imp (fun q => q.1) fun hb => ⟨_, hb, hl, by omega, fun j _ => by simp⟩⟩⟩, .inr hk⟩

theorem okL_rows {α : Type} {h : AHeap} {e : Sh} {C : List α → List Cell} (hC : ∀ len xs, okL (okC h e) len xs → ∃ l : List α, xs = C l ∧ l.length = len) : ∀ (len : Nat) (xs : List Cell), okL (okC h (.sl e)) len xs →
    ∃ rows : List (List α), rows.length = len ∧ (∀ r ∈ rows, r.length ≤ maxLen) ∧ ∀ (t : Nat) (r : List α), rows[t]? = some r → ∃ y : Cell, xs[t]? = some y ∧ SlAt h y e.size (C r) r.length ∧ Low h.length y
  | 0, xs, h => ⟨[], rfl, (fun r hr => absurd hr List.not_mem_nil), (fun t r hr => by simp at hr)⟩
  | len + 1, xs, ⟨x, y, h1, hx, hy⟩ => by
    obtain ⟨rows, h2, h3, h4⟩ := okL_rows hC len y hy
    obtain ⟨z, zs, zl, rfl, g1, g2, g3, g4⟩ := row_of hx
    obtain ⟨l, rfl, rfl⟩ := hC _ _ g1
    refine ⟨l :: rows, by simp [h2], fun r hr => ?_, fun t r hr => ?_⟩
    · rcases List.mem_cons.1 hr with e | hr
      · rw [e]; exact g2
      · exact h3 r hr
    · rw [h1]
      cases t with
      | zero => cases hr; exact ⟨z, rfl, g3, g4⟩
      | succ t => exact h4 t r (by simpa using hr)

theorem arg_test {h : AHeap} {cs : List Cell} (o : okC h shTest cs) : ∃ T : PTest, av1 shTest cs = .agg cs ∧ TestAt h cs T ∧ T.name.size ≤ maxLen ∧ T.inits.length ≤ maxLen ∧ T.thr.length ≤ maxLen ∧ (∀ c ∈ T.thr, c.length ≤ maxLen) ∧ T.any.length ≤ maxLen ∧ (∀ c ∈ T.any, c.length ≤ maxLen) := by
  obtain ⟨x0, y0, rfl, ⟨s, rfl, hs⟩, x1, y1, rfl, o1, x2, y2, rfl, o2, x3, y3, rfl, o3, h7⟩ := o
  obtain rfl : y3 = [] := h7
  obtain ⟨z0, w0, rfl, ⟨ck, rfl, _⟩, z1, w1, rfl, o4, h8⟩ := o3
  obtain rfl : w1 = [] := h8
  obtain ⟨a, az, al, rfl, a1, a2, a3, a4⟩ := row_of o1
  obtain ⟨ps, rfl, rfl, _⟩ := okL_pair _ _ a1
  obtain ⟨b, bs, bl, rfl, b1, b2, b3, b4⟩ := row_of o2
  obtain ⟨rows, rfl, b5, b6⟩ := okL_rows (C := codeC) okL_ins _ _ b1
  obtain ⟨c, cs, cl, rfl, c1, c2, c3, c4⟩ := row_of o4
  obtain ⟨any, rfl, c5, c6⟩ := okL_rows (C := atmC) okL_atm _ _ c1
  exact ⟨⟨s, ps, rows, ck, any⟩, rfl, ⟨a, b, c, rfl, ⟨a3, a4⟩, ⟨bs, b3, b4, b6⟩, ⟨cs, c3, c4, c6⟩⟩, hs, a2, b2, b5, c2, c5⟩

theorem arg_lcl {h : AHeap} {cs : List Cell} (o : okC h shLcl cs) : ∃ l : Lcl, av1 shLcl cs = .agg l.cs := by
  obtain ⟨x0, y0, rfl, ⟨a0, rfl, _⟩, x1, y1, rfl, ⟨z0, w0, rfl, ⟨r0, rfl, _⟩, z1, w1, rfl, ⟨r1, rfl, _⟩, z2, w2, rfl, ⟨r2, rfl, _⟩, z3, w3, rfl, ⟨r3, rfl, _⟩, h8⟩, h7⟩ := o
  obtain rfl : y1 = [] := h7
  obtain rfl : w3 = [] := h8
  exact ⟨⟨a0, r0, r1, r2, r3⟩, rfl⟩

/-- Is a test of few parts? -/
def fewB (T : PTest) : Bool := !(((decide ((T.thr.length : Int) > 6) || decide ((T.inits.length : Int) > 40)) || decide ((T.name.size : Int) > 60)) || decide ((T.any.length : Int) > 12)) && !(T.thr.any fun c => decide ((c.length : Int) > 30)) && !(T.any.any fun c => decide ((c.length : Int) > 12))

theorem few_small {T : PTest} (h : fewB T = true) : T.small ∧ T.name.size < 9223372036854775807 := by
  unfold fewB at h
  simp only [Bool.and_eq_true, Bool.not_eq_true', Bool.or_eq_false_iff, decide_eq_false_iff_not, List.any_eq_false, decide_eq_true_eq] at h
  obtain ⟨⟨⟨⟨⟨h1, h2⟩, h3⟩, h4⟩, h5⟩, h6⟩ := h
  exact ⟨⟨by omega, by omega, fun c hc => by have := h5 c hc; omega, by omega, fun c hc => by have := h6 c hc; omega⟩, by omega⟩

section
variable {E : Env}

theorem Few_R (hE : jacquardlaw4_Few_In E) {cs : List Cell} {T : PTest} {h : AHeap} (p : TestAt h cs T) : R E 96 [.agg cs] h = some ([.c (.bool (fewB T))], h) := by
  refine R_intro hE.fn ?_
  obtain ⟨a, b, c, rfl, ⟨ha, hal⟩, hb, hc⟩ := p
  have a0 : ∀ {α : Type} (f : Cell → Option α), atK [.str T.name, a, b, .int .i64 T.ck, c] 0 f = f (.str T.name) := fun _ => rfl
  have a1 : ∀ {α : Type} (f : Cell → Option α), atK [.str T.name, a, b, .int .i64 T.ck, c] 1 f = f a := fun _ => rfl
  have a2 : ∀ {α : Type} (f : Cell → Option α), atK [.str T.name, a, b, .int .i64 T.ck, c] 2 f = f b := fun _ => rfl
  have a4 : ∀ {α : Type} (f : Cell → Option α), atK [.str T.name, a, b, .int .i64 T.ck, c] 4 f = f c := fun _ => rfl
  have s0 : ∀ {α : Type} (f : ByteArray → Option α), asS (.c (.str T.name)) f = f T.name := fun _ => rfl
  have s1 : ∀ {α : Type} (f : Int → Option α), lenSK (.str T.name) f = f T.name.size := fun _ => rfl
  rw [jacquardlaw4_Few_eq, a2, hb.len, a1, ha.len, scK_or, a0, s0, s1, scK_or, a4, hc.len, scK_or]
  unfold fewB
  cases hx : (((decide ((T.thr.length : Int) > 6) || decide ((T.inits.length : Int) > 40)) || decide ((T.name.size : Int) > 60)) || decide ((T.any.length : Int) > 12)) with
  | true => rw [if_pos rfl]; rfl
  | false =>
    have hx' := hx
    simp only [Bool.or_eq_false_iff, decide_eq_false_iff_not] at hx'
    obtain ⟨⟨⟨h1, h2⟩, h3⟩, h4⟩ := hx'
    have f1 : Lim (jacquardlaw4_Few_F1 (R E) Lim E.glob) (jacquardlaw4_Few_s1 0 [.str T.name, a, b, .int .i64 T.ck, c] h) = some (if (T.thr.any fun c => decide ((c.length : Int) > 30)) = true then (.ret, jacquardlaw4_Few_x1_0 false h) else (.exit 0, jacquardlaw4_Few_x1_1 [.str T.name, a, b, .int .i64 T.ck, c] h)) := by
      rw [← atB_any]
      exact Lim_scan (F := jacquardlaw4_Few_F1 (R E) Lim E.glob) (fun k => jacquardlaw4_Few_s1 (k : Int) [.str T.name, a, b, .int .i64 T.ck, c] h) T.thr.length (atB T.thr fun _ c => decide ((c.length : Int) > 30)) _ _ 0 (fun t ht => by
        have hq : T.thr[t]? = some T.thr[t] := List.getElem?_eq_getElem ht
        generalize T.thr[t] = code at hq
        obtain ⟨y, y1, y2, y3⟩ := hb.get (β := Ex × St) hq
        rw [jacquardlaw4_Few_r1, a2, hb.len, if_pos (by simp; omega), a2, y3, y1.len, atB_ok hq, g_succ (by omega)]) (by rw [jacquardlaw4_Few_r1, a2, hb.len, if_neg (by simp)])
    have f2 : Lim (jacquardlaw4_Few_F2 (R E) Lim E.glob) (jacquardlaw4_Few_s2 0 [.str T.name, a, b, .int .i64 T.ck, c] h) = some (if (T.any.any fun c => decide ((c.length : Int) > 12)) = true then (.ret, jacquardlaw4_Few_x2_0 false h) else (.exit 2, jacquardlaw4_Few_x2_3 h)) := by
      rw [← atB_any]
      exact Lim_scan (F := jacquardlaw4_Few_F2 (R E) Lim E.glob) (fun k => jacquardlaw4_Few_s2 (k : Int) [.str T.name, a, b, .int .i64 T.ck, c] h) T.any.length (atB T.any fun _ c => decide ((c.length : Int) > 12)) _ _ 2 (fun t ht => by
        have hq : T.any[t]? = some T.any[t] := List.getElem?_eq_getElem ht
        generalize T.any[t] = code at hq
        obtain ⟨y, y1, y2, y3⟩ := hc.get (β := Ex × St) hq
        rw [jacquardlaw4_Few_r2, a4, hc.len, if_pos (by simp; omega), a4, y3, y1.len, atB_ok hq, g_succ (by omega)]) (by rw [jacquardlaw4_Few_r2, a4, hc.len, if_neg (by simp)])
    rw [if_neg (by simp), f1, bind_ok]
    cases hy : (T.thr.any fun c => decide ((c.length : Int) > 30)) with
    | true => rw [if_pos rfl]; dsimp only; rw [jacquardlaw4_Few_e1_0]; rfl
    | false =>
      rw [if_neg (by simp)]; dsimp only; rw [jacquardlaw4_Few_e1_1, f2, bind_ok]
      cases hz : (T.any.any fun c => decide ((c.length : Int) > 12)) with
      | true => rw [if_pos rfl]; dsimp only; rw [jacquardlaw4_Few_e2_0]; rfl
      | false => rw [if_neg (by simp)]; dsimp only; rw [jacquardlaw4_Few_e2_3]; rfl

end

theorem fldB_good {i : Ins} (h : fldB locB i = true) : (1 ≤ i.kind ∧ i.kind ≤ 6) ∧ (i.kind = 2 ∨ i.kind = 4 ∨ i.kind = 5 → 0 ≤ i.reg ∧ i.reg < 4) ∧ (i.kind = 5 → 0 ≤ i.op ∧ i.op ≤ 11) := by
  have hrb : ∀ n, regB n = true → 0 ≤ n ∧ n < 4 := fun n hn => by unfold regB at hn; simpa using hn
  unfold fldB at h
  by_cases h1 : i.kind = 1
  · exact ⟨by omega, fun hk => by omega, fun hk => by omega⟩
  rw [if_neg h1] at h
  by_cases h2 : i.kind = 2
  · rw [if_pos h2] at h; simp only [Bool.and_eq_true] at h
    exact ⟨by omega, fun _ => hrb _ h.1.2, fun hk => by omega⟩
  rw [if_neg h2] at h
  by_cases h3 : i.kind = 3
  · exact ⟨by omega, fun hk => by omega, fun hk => by omega⟩
  rw [if_neg h3] at h
  by_cases h4 : i.kind = 4
  · rw [if_pos h4] at h; simp only [Bool.and_eq_true] at h
    exact ⟨by omega, fun _ => hrb _ h.1.1.1.2, fun hk => by omega⟩
  rw [if_neg h4] at h
  by_cases h5 : i.kind = 5
  · rw [if_pos h5] at h; simp only [Bool.and_eq_true, decide_eq_true_eq] at h
    exact ⟨by omega, fun _ => hrb _ h.1.1.1.1.1.1, fun _ => ⟨h.1.1.1.2, h.1.1.2⟩⟩
  rw [if_neg h5] at h
  by_cases h6 : i.kind = 6
  · exact ⟨by omega, fun hk => by omega, fun hk => by omega⟩
  rw [if_neg h6] at h; cases h

theorem checkT_jmp {T : PTest} (h : checkT T = 0) : ∀ c ∈ T.thr, jmpB c = true := by
  unfold checkT at h
  intro c hc
  split at h
  · cases h
  split at h
  · cases h
  split at h
  · cases h
  split at h
  · cases h
  · rename_i hj
    rw [Bool.not_eq_true, List.any_eq_false] at hj
    simpa using hj c hc

theorem check_good {T : PTest} (h : checkT T = 0) (hs : T.small) : (compT T).small ∧ (compT T).good := by
  have hok := checkT_ok h
  have hlen : ∀ c ∈ (compT T).thr, c.length ≤ 1000 := fun c hcm => by
    obtain ⟨d, hd, rfl⟩ := List.mem_map.1 hcm
    rw [List.length_map]; exact hs.code d hd
  have hn : (compT T).thr.length = T.thr.length := List.length_map _
  have hsm : (compT T).small := ⟨by rw [hn]; exact hs.thr, hlen⟩
  refine ⟨hsm, hsm.fits, fun c hcm => ?_⟩
  obtain ⟨d, hd, rfl⟩ := List.mem_map.1 hcm
  intro i him
  obtain ⟨j, hj, rfl⟩ := List.mem_map.1 him
  rw [List.length_map]
  refine compI_good ?_
  have hf := okT_ins hok hd hj
  obtain ⟨g1, g2, g3⟩ := fldB_good hf
  refine ⟨g1, g2, g3, fun h6 => ⟨fldB_n hf h6, ?_⟩⟩
  have hjm := checkT_jmp h d hd
  have hja : (!jmpB d) = false := by rw [hjm]; rfl
  rw [jmpB_any, List.any_eq_false] at hja
  obtain ⟨k, hk⟩ := List.getElem?_of_mem hj
  have := hja k (by simpa using getI_lt hk)
  rw [atB_ok hk] at this
  unfold jmpAt at this
  rw [h6] at this
  simp at this
  omega

end Jq

/- A skip leads over as many as it says. -/
namespace Jq
open Go

def incI : Ins := ⟨5, 0, 0, ⟨0, 0⟩, 1, ⟨-1, 1⟩, 0⟩
def skipI (a b n : Int) : Ins := ⟨6, 0, 0, ⟨-1, a⟩, 0, ⟨-1, b⟩, n⟩

section
variable {E : Env}

end
end Jq

/- Registers are what their numbers make of each other. -/
namespace Jq
open Go

def SetOk (i : Ins) : Prop := i.kind = 5 ∧ (0 ≤ i.reg ∧ i.reg < 4) ∧ 0 ≤ i.op ∧ i.op ≤ 11
def regsC (l : Lcl) : List Cell := [.int .i64 l.r0, .int .i64 l.r1, .int .i64 l.r2, .int .i64 l.r3]

/-- What a row of settings makes, one after another. -/
def setV (i : Ins) (l : Lcl) : Lcl := l.setR i.reg ((doV i.op (opV i.a l) (opV i.b l)).getD (opV i.a l))

section
variable {E : Env}

theorem band3_rng {x : Int} : 0 ≤ E.glob.band .i64 x 3 ∧ E.glob.band .i64 x 3 < 4 := by
  have h : E.glob.band .i64 x 3 = x % 4 := by
    show IntKind.wrap .i64 ((BitVec.ofInt 64 x &&& BitVec.ofInt 64 3).toNat : Nat) = _
    have h1 : (BitVec.ofInt 64 x &&& BitVec.ofInt 64 3).toNat = (BitVec.ofInt 64 x).toNat % 4 := by
      rw [BitVec.toNat_and]
      have : (BitVec.ofInt 64 3).toNat = 2 ^ 2 - 1 := by decide
      rw [this, Nat.and_two_pow_sub_one_eq_mod]
    rw [h1, BitVec.toNat_ofInt]
    have h3 : ((((x % ((2 ^ 64 : Nat) : Int)).toNat % 4 : Nat) : Int)) = x % 4 := by omega
    rw [h3]
    exact wrap_i64 (by omega) (by omega)
  rw [h]; omega

/-- A setting made of a number. -/
def mkOp (E : Env) (x : Int) : Int := E.glob.rem .i64 (E.glob.band .i64 (E.glob.shr .i64 x 4) 255) 12
def mkRaw (E : Env) (x : Int) : Ins := ⟨5, E.glob.band .i64 x 3, 0, ⟨E.glob.band .i64 (E.glob.shr .i64 x 2) 3, 0⟩, mkOp E x, ⟨E.glob.band .i64 (E.glob.shr .i64 x 12) 3, 0⟩, 0⟩
def mkI (E : Env) (x : Int) : Ins := if mkOp E x = 0 then { mkRaw E x with b := ⟨-1, 0⟩ } else mkRaw E x

def setsBase (a b : Int) : List Ins := [⟨5, 0, 0, ⟨-1, a⟩, 0, ⟨-1, 0⟩, 0⟩, ⟨5, 1, 0, ⟨-1, b⟩, 0, ⟨-1, 0⟩, 0⟩]

end
end Jq

/- Threads step by step, of any test: the law. -/
namespace Jq
open Go

section
variable {E : Env}

theorem reg_at {α : Type} {l : Lcl} {r : Int} (h : 0 ≤ r ∧ r < 4) {f : Cell → Option α} : atK l.cs (1 + (r.toNat * 1)) f = f (.int .i64 (l.reg r)) := by
  rcases (show r = 0 ∨ r = 1 ∨ r = 2 ∨ r = 3 by omega) with e | e | e | e <;> subst e <;> rfl

theorem steps_loop (hE : jacquardlaw6_ProgSteps_In E) {cs : List Cell} {P : PProg} {h : AHeap} (p : ProgAt h cs P) (hsm : P.small) (hg : P.good) {v : Cell} {vals : List Int} (hv : SlAt h v 1 (intC .i64 vals) vals.length) (th : Int) (s1 : List Cell) (l0 : Lcl) :
    Lim (jacquardlaw6_ProgSteps_F1 (R E) Lim E.glob) (jacquardlaw6_ProgSteps_s1 th v ((0 : Nat) : Int) s1 cs l0.cs l0.cs h) = some (.exit 0, jacquardlaw6_ProgSteps_x1_1 th s1 cs h) := by
  have al : ∀ l : Lcl, alike l.cs [Cell.int .i64 0, Cell.int .i64 0, Cell.int .i64 0, Cell.int .i64 0, Cell.int .i64 0] = true := fun _ => rfl
  obtain ⟨st, ⟨l, rfl⟩, hL⟩ := Lim_inv (F := jacquardlaw6_ProgSteps_F1 (R E) Lim E.glob) (fun i st => ∃ l : Lcl, st = jacquardlaw6_ProgSteps_s1 th v (i : Int) s1 cs l.cs l.cs h) 0 12 (by omega)
    (fun i st _ hi => by
      rintro ⟨l, rfl⟩
      have hP := fun u => PAfter_R hE.c106 hsm.fits p th l u
      have hR := fun u => refAfter_R hE.c107 hg p th l u
      by_cases hil : i < vals.length
      · have hq := getDI hil
        refine ⟨_, ?_, afterL (P.code th) l (vals.getD i 0), rfl⟩
        rw [jacquardlaw6_ProgSteps_r1, if_pos (by simp; omega), if_pos ⟨rfl, p.len⟩, if_pos ⟨rfl, rfl⟩, PNext_R hE.c105 p, c2_ok, asA_ok, asB_ok, if_pos ⟨rfl, rfl, rfl⟩, if_pos ⟨rfl, p.len⟩, if_pos ⟨rfl, rfl⟩, refNext_R hE.c81 hg p, c2_ok, asA_ok, asB_ok, if_pos ⟨rfl, rfl, rfl⟩, if_pos ⟨rfl, rfl⟩, if_pos ⟨rfl, rfl⟩, if_pos ⟨alike_ins _, alike_ins _⟩, scK_or, decide_eq_true rfl, beq_self_eq_true, if_neg (by simp), hv.len, if_pos (by simp; omega), hv.get1 hil (intC_get hq), asI_ok, if_pos ⟨rfl, p.len⟩, if_pos ⟨rfl, rfl⟩, hP, qh_ok, c1_ok, asA_ok, if_pos ⟨rfl, p.len⟩, if_pos ⟨rfl, rfl⟩, hR, qh_ok, c1_ok, asA_ok, if_pos ⟨rfl, rfl, rfl⟩, if_pos ⟨rfl, rfl, rfl⟩, if_pos ⟨rfl, rfl⟩, if_pos ⟨rfl, rfl⟩, if_pos ⟨al _, al _⟩, decide_eq_true rfl, if_neg (by simp), g_succ (by omega)]
      · refine ⟨_, ?_, afterL (P.code th) l 0, rfl⟩
        rw [jacquardlaw6_ProgSteps_r1, if_pos (by simp; omega), if_pos ⟨rfl, p.len⟩, if_pos ⟨rfl, rfl⟩, PNext_R hE.c105 p, c2_ok, asA_ok, asB_ok, if_pos ⟨rfl, rfl, rfl⟩, if_pos ⟨rfl, p.len⟩, if_pos ⟨rfl, rfl⟩, refNext_R hE.c81 hg p, c2_ok, asA_ok, asB_ok, if_pos ⟨rfl, rfl, rfl⟩, if_pos ⟨rfl, rfl⟩, if_pos ⟨rfl, rfl⟩, if_pos ⟨alike_ins _, alike_ins _⟩, scK_or, decide_eq_true rfl, beq_self_eq_true, if_neg (by simp), hv.len, if_neg (by simp; omega), if_pos ⟨rfl, p.len⟩, if_pos ⟨rfl, rfl⟩, hP, qh_ok, c1_ok, asA_ok, if_pos ⟨rfl, p.len⟩, if_pos ⟨rfl, rfl⟩, hR, qh_ok, c1_ok, asA_ok, if_pos ⟨rfl, rfl, rfl⟩, if_pos ⟨rfl, rfl, rfl⟩, if_pos ⟨rfl, rfl⟩, if_pos ⟨rfl, rfl⟩, if_pos ⟨al _, al _⟩, decide_eq_true rfl, if_neg (by simp), g_succ (by omega)]) (st := jacquardlaw6_ProgSteps_s1 th v ((0 : Nat) : Int) s1 cs l0.cs l0.cs h) ⟨l0, rfl⟩
  refine hL _ (Lim_exit ?_)
  rw [jacquardlaw6_ProgSteps_r1, if_neg (by simp)]

theorem steps_tail (hE : jacquardlaw6_ProgSteps_In E) {h0 h : AHeap} {cs : List Cell} {T : PTest} (p : TestAt h cs T) (hs : T.small) (hsm : (compT T).small) (hg : (compT T).good) {v : Cell} {vals : List Int} (hv : SlAt h v 1 (intC .i64 vals) vals.length) (hlv : Low h.length v) (th : Int) (raw : Lcl) :
    ∃ h', jacquardlaw6_ProgSteps_k2 (R E) Lim E.glob h0 .normal (jacquardlaw6_ProgSteps_c1 th v cs raw.cs h) = some ([.c (.bool true)], h') := by
  have al : ∀ l : Lcl, alike l.cs [Cell.int .i64 0, Cell.int .i64 0, Cell.int .i64 0, Cell.int .i64 0, Cell.int .i64 0] = true := fun _ => rfl
  obtain ⟨cs2, h2, t1, t2, t3⟩ := refCompile_R hE.c101 p hs
  have hv2 := hv.keep hlv t3
  have hloop := steps_loop hE t2 hsm hg hv2 th raw.cs (startL (compT T) th)
  rw [show ((0 : Nat) : Int) = 0 from rfl] at hloop
  have hb := band3_rng (E := E) (x := th)
  have o1 : splice [Cell.int .i64 0, Cell.int .i64 0] 0 ([(.int .i64 (E.glob.band .i64 th 3))] : List Cell) = (Opd.mk (E.glob.band .i64 th 3) 0).cs := rfl
  have o2 : splice (splice [Cell.int .i64 0, Cell.int .i64 0] 0 ([(.int .i64 (-1))] : List Cell)) 1 ([(.int .i64 9)] : List Cell) = (Opd.mk (-1) 9).cs := rfl
  have v1 : opV ⟨E.glob.band .i64 th 3, 0⟩ raw = raw.reg (E.glob.band .i64 th 3) := by unfold opV; exact if_pos hb
  have v2 : opV ⟨-1, 9⟩ raw = 9 := rfl
  refine ⟨h2, ?_⟩
  rw [jacquardlaw6_ProgSteps_ec1_n, if_pos ⟨rfl, p.len⟩, t1, c1_ok, asA_ok, if_pos ⟨rfl, rfl, t2.len⟩, if_pos ⟨rfl, t2.len⟩, PStart_R hE.c94 hsm.fits t2, qh_ok, c1_ok, asA_ok, if_pos ⟨rfl, t2.len⟩, refStart_R hE.c104 hg t2, qh_ok, c1_ok, asA_ok, if_pos ⟨rfl, rfl, rfl⟩, if_pos ⟨rfl, rfl, rfl⟩, if_pos ⟨rfl, rfl⟩, if_pos ⟨rfl, rfl⟩, if_pos ⟨al _, al _⟩, decide_eq_true rfl, if_neg (by simp), hloop, bind_ok, jacquardlaw6_ProgSteps_e1_1]
  rw [o1, o2, if_pos ⟨rfl, t2.len⟩, if_pos ⟨rfl, rfl⟩, PNext_R hE.c105 t2, c2_ok, asA_ok, asB_ok, if_pos ⟨rfl, rfl, rfl⟩, if_pos ⟨rfl, t2.len⟩, if_pos ⟨rfl, rfl⟩, refNext_R hE.c81 hg t2, c2_ok, asA_ok, asB_ok, if_pos ⟨rfl, rfl, rfl⟩, if_pos ⟨rfl, rfl, rfl⟩, if_pos ⟨rfl, rfl⟩, if_pos ⟨rfl, rfl⟩, if_pos ⟨alike_ins _, alike_ins _⟩, decide_eq_true rfl, scK_ok, beq_self_eq_true, bind_ok]
  dsimp only
  rw [scK_ok, if_pos ⟨rfl, rfl⟩, if_pos ⟨rfl, rfl⟩, Value_R hE.c108, qh_ok, c1_ok, asI_ok, if_pos ⟨hb.1, by omega⟩, reg_at hb, asI_ok, v1, beq_self_eq_true, bind_ok]
  dsimp only
  rw [scK_ok, if_pos ⟨rfl, rfl⟩, Value_R hE.c108, qh_ok, c1_ok, asI_ok, v2, bind_ok]
  dsimp only
  rw [show ((9 : Int) == 9) = true from rfl, scK_ok, awake6_R hE.c95, qh_ok, c1_ok, asB_ok, bind_ok]

theorem ProgSteps_law (hE : jacquardlaw6_ProgSteps_In E) {h : AHeap} {d0 d1 d2 d3 d4 : List Cell} (o0 : okC h shTest d0) (o1 : okC h (.sl (.i .i64)) d1) (o2 : okC h (.i .i64) d2) (o3 : okC h (.sl (.i .i64)) d3) (o4 : okC h shLcl d4) :
    ∃ h', R E 232 [av1 shTest d0, av1 (.sl (.i .i64)) d1, av1 (.i .i64) d2, av1 (.sl (.i .i64)) d3, av1 shLcl d4] h = some ([.c (.bool true)], h') := by
  obtain ⟨T, e0, p, _⟩ := arg_test o0
  obtain ⟨x, l, e1, hx, hlow, _, hm⟩ := arg_ints o1
  obtain ⟨th, e2, _⟩ := arg_int o2
  obtain ⟨v, vals, e3, hv, hlv, _, hmv⟩ := arg_ints o3
  obtain ⟨raw, e4⟩ := arg_lcl o4
  rw [e0, e1, e2, e3, e4]
  suffices hh : ∃ h', jacquardlaw6_ProgSteps.body (R E) Lim E.glob [.agg d0, .c x, .c (.int .i64 th), .c v, .agg raw.cs] h = some ([.c (.bool true)], h') by
    obtain ⟨h', hh⟩ := hh; exact ⟨h', R_intro hE.fn hh⟩
  rw [jacquardlaw6_ProgSteps_eq, if_pos ⟨rfl, p.len⟩, Few_R hE.c96 p, c1_ok, asB_ok]
  have made : ∀ (hb : AHeap), Kp h.length h hb → ∃ h', (c1 (R E 97 [(.c x), (.c (.int .i64 12))] hb) fun y_10 h_9 => asA y_10 fun l_11 => if 0 = 0 ∧ d0.length = 5 ∧ l_11.length = 5 then some (.normal, (jacquardlaw6_ProgSteps_c1 th v l_11 raw.cs h_9)) else none : Option (Ex × St)).bind (fun p_82 => jacquardlaw6_ProgSteps_k2 (R E) Lim E.glob h p_82.1 p_82.2) = some ([.c (.bool true)], h') := by
    intro hb kb
    obtain ⟨cs, h1, T1, s1, s2, s3, s4⟩ := Small_R hE.c97 (hx.keep hlow kb) (Low_mono kb.1 hlow) (by unfold maxLen at hm; omega) (most := 12) (by omega)
    rw [show ((12 : Nat) : Int) = 12 from rfl] at s1
    have g := s3.goodP
    obtain ⟨h', hh⟩ := steps_tail hE (h0 := h) s2 s3.small g.small g.good ((hv.keep hlv kb).keep (Low_mono kb.1 hlv) s4) (Low_mono (Nat.le_trans kb.1 s4.1) hlv) th raw
    refine ⟨h', ?_⟩
    rw [s1, c1_ok, asA_ok, if_pos ⟨rfl, p.len, s2.len⟩, bind_ok]
    exact hh
  cases hf : fewB T with
  | false =>
    rw [show (!false) = true from rfl, scK_tf, if_pos rfl]
    exact made h (Kp.refl _ _)
  | true =>
    obtain ⟨hs, hn⟩ := few_small hf
    obtain ⟨hb, r1, r2⟩ := refCheck_R hE.c99 p hs hn
    rw [show (!true) = false from rfl, scK_ok, if_pos ⟨rfl, p.len⟩, r1, c1_ok, asI_ok, bind_ok]
    dsimp only
    by_cases hc : checkT T = 0
    · rw [hc, show ((0 : Int) != 0) = false from rfl, if_neg (by simp), bind_ok]
      obtain ⟨g1, g2⟩ := check_good hc hs
      exact steps_tail hE (p.keep r2) hs g1 g2 (hv.keep hlv r2) (Low_mono r2.1 hlv) th raw
    · rw [if_pos (by rw [bne_iff_ne]; exact hc)]
      exact made hb r2

end
end Jq

/- ProgSteps: whatever the input the call says true, and each argument reads behind it as before. No conditions. -/
namespace Go.Proofs.Ytldfafaiappibaa.LProgSteps
open Go Jq Go.ChangeShapes Go.WideShapes Go.ChangeAt Go.RowKit
set_option linter.unusedVariables false

theorem own : ownKnob Try.prog.godebug = none := by kernel_rfl
theorem laidOut : laidOutB Try.prog = true := by kernel_rfl

set_option maxRecDepth 100000 in
theorem lifted (os : Os) (started : os.Started) (H : Type) (enc : TypeId × Value → H) :
    ReturnsInHanded {} Try.checked os 11 .any (Rows.progStepsSpec.pre6 enc Try.prog Try.f11 Rows.progStepsRow.domain false) (Rows.progStepsSpec.post enc Try.prog Try.f11 false true false false) := by
  refine returnsInHanded_of_change (C := Try.checked) own started (by kernel_rfl) Try.func11
    (ChangeSpec.witness6 (enc := enc) (C := Try.checked) false ⟨#[], #[.agg #[.string ByteArray.empty, .slice none 0 0, .slice none 0 0, .int .i64 0, .slice none 0 0], .slice none 0 0, .int .i64 0, .slice none 0 0, .agg #[.int .i64 0, .int .i64 0, .int .i64 0, .int .i64 0, .int .i64 0]], []⟩ 8 (by kernel_rfl) (by kernel_rfl) (by kernel_rfl) (by kernel_rfl)) ?_
  intro W base args ds gs before hval0 hW hcnd _
  have hval : ∀ (j : Nat) t v, Try.f11.params[j]? = some t → args[j]? = some v → Value.okWide Try.prog W .any base t v := hval0
  have hW' := hW
  obtain ⟨p, q, hA0, hV, rfl, hfz, hnd⟩ := hW
  have hA : DataW.TrodAll enc Try.prog W 0 (fun _ => true) true Try.f11.params.toList args.toList ds p := hA0
  rw [Try.params11] at hA hval
  obtain ⟨v0, vs0, d0, ds0, p0, q0, hargs, rfl, rfl, h0, r0⟩ := trodAll_cons hA
  obtain ⟨v1, vs1, d1, ds1, p1, q1, rfl, rfl, rfl, h1, r1⟩ := trodAll_cons r0
  obtain ⟨v2, vs2, d2, ds2, p2, q2, rfl, rfl, rfl, h2, r2⟩ := trodAll_cons r1
  obtain ⟨v3, vs3, d3, ds3, p3, q3, rfl, rfl, rfl, h3, r3⟩ := trodAll_cons r2
  obtain ⟨v4, vs4, d4, ds4, p4, q4, rfl, rfl, rfl, h4, r4⟩ := trodAll_cons r3
  obtain ⟨rfl, rfl, rfl⟩ := trodAll_nil r4
  obtain rfl : args = #[v0, v1, v2, v3, v4] := by cases args; simp_all
  obtain ⟨rfl, rfl⟩ := trodVars_none hV
  have lt0 : ∀ x ∈ p0, x.block < W.heap.size := by obtain ⟨m, hm⟩ := h0; exact DataW.trod_lt m _ _ _ hm
  have lt1 : ∀ x ∈ p1, x.block < W.heap.size := by obtain ⟨m, hm⟩ := h1; exact DataW.trod_lt m _ _ _ hm
  have lt2 : ∀ x ∈ p2, x.block < W.heap.size := by obtain ⟨m, hm⟩ := h2; exact DataW.trod_lt m _ _ _ hm
  have lt3 : ∀ x ∈ p3, x.block < W.heap.size := by obtain ⟨m, hm⟩ := h3; exact DataW.trod_lt m _ _ _ hm
  have lt4 : ∀ x ∈ p4, x.block < W.heap.size := by obtain ⟨m, hm⟩ := h4; exact DataW.trod_lt m _ _ _ hm
  have c := Come.nil (S := seat) (W := W) (fun _ => rfl)
  have k0 : ((.agg (.cons .s (.cons (.sl (.agg (.cons (.i .i64) (.cons (.i .i64) .nil)))) (.cons (.sl (.sl (.agg (.cons (.i .i64) (.cons (.i .i64) (.cons (.i .i64) (.cons (.agg (.cons (.i .i64) (.cons (.i .i64) .nil))) (.cons (.i .i64) (.cons (.agg (.cons (.i .i64) (.cons (.i .i64) .nil))) (.cons (.i .i64) .nil)))))))))) (.cons (.agg (.cons (.i .i64) (.cons (.sl (.sl (.agg (.cons (.i .i64) (.cons (.i .i64) (.cons (.i .i64) (.cons (.i .i64) .nil))))))) .nil))) .nil))))) : Sh).chk seat.P 76 = true := by kernel_rfl
  obtain ⟨b0, ρ0, cs0, c0, e0, x0, a0, o0⟩ := opens_arg (S := seat) (W := W) (sh := (.agg (.cons .s (.cons (.sl (.agg (.cons (.i .i64) (.cons (.i .i64) .nil)))) (.cons (.sl (.sl (.agg (.cons (.i .i64) (.cons (.i .i64) (.cons (.i .i64) (.cons (.agg (.cons (.i .i64) (.cons (.i .i64) .nil))) (.cons (.i .i64) (.cons (.agg (.cons (.i .i64) (.cons (.i .i64) .nil))) (.cons (.i .i64) .nil)))))))))) (.cons (.agg (.cons (.i .i64) (.cons (.sl (.sl (.agg (.cons (.i .i64) (.cons (.i .i64) (.cons (.i .i64) (.cons (.i .i64) .nil))))))) .nil))) .nil)))))) k0 h0 (wide_of k0 (hval 0 76 v0 rfl rfl)) ⟨nofun, nofun⟩ c
  have k1 : ((.sl (.i .i64)) : Sh).chk seat.P 22 = true := by kernel_rfl
  obtain ⟨b1, ρ1, cs1, c1, e1, x1, a1, o1⟩ := opens_arg (S := seat) (W := W) (sh := (.sl (.i .i64))) k1 h1 (wide_of k1 (hval 1 22 v1 rfl rfl)) ⟨nofun, nofun⟩ c0
  have k2 : ((.i .i64) : Sh).chk seat.P 3 = true := by kernel_rfl
  obtain ⟨b2, ρ2, cs2, c2, e2, x2, a2, o2⟩ := opens_arg (S := seat) (W := W) (sh := (.i .i64)) k2 h2 (wide_of k2 (hval 2 3 v2 rfl rfl)) ⟨nofun, nofun⟩ c1
  have k3 : ((.sl (.i .i64)) : Sh).chk seat.P 23 = true := by kernel_rfl
  obtain ⟨b3, ρ3, cs3, c3, e3, x3, a3, o3⟩ := opens_arg (S := seat) (W := W) (sh := (.sl (.i .i64))) k3 h3 (wide_of k3 (hval 3 23 v3 rfl rfl)) ⟨nofun, nofun⟩ c2
  have k4 : ((.agg (.cons (.i .i64) (.cons (.agg (Sh.rep (.i .i64) 4)) .nil))) : Sh).chk seat.P 33 = true := by kernel_rfl
  obtain ⟨b4, ρ4, cs4, c4, e4, x4, a4, o4⟩ := opens_arg (S := seat) (W := W) (sh := (.agg (.cons (.i .i64) (.cons (.agg (Sh.rep (.i .i64) 4)) .nil)))) k4 h4 (wide_of k4 (hval 4 33 v4 rfl rfl)) ⟨nofun, nofun⟩ c3
  obtain ⟨h', hR⟩ := ProgSteps_law (E := env) in_232 (okC_mono x4 _ _ (okC_mono x3 _ _ (okC_mono x2 _ _ (okC_mono x1 _ _ o0)))) (okC_mono x4 _ _ (okC_mono x3 _ _ (okC_mono x2 _ _ o1))) (okC_mono x4 _ _ (okC_mono x3 _ _ o2)) (okC_mono x4 _ _ o3) o4
  refine (law_call (S := seat) (R_sound (S := seat) (E := env) rfl allOk) c4 (vals := #[v0, v1, v2, v3, v4]) (L2.cons (relA.mono e4 (relA.mono e3 (relA.mono e2 (relA.mono e1 a0)))) (L2.cons (relA.mono e4 (relA.mono e3 (relA.mono e2 a1))) (L2.cons (relA.mono e4 (relA.mono e3 a2)) (L2.cons (relA.mono e4 a3) (L2.cons a4 L2.nil))))) hR).mono fun e W' ⟨he, bel⟩ => ?_
  subst he
  exact ⟨_, rfl, _, _, _, [], _, [], hW', trodAll_mk1 (shut_bool Try.underlying4 _), (trodAll_cons_mk (Below.trod laidOut (by kernel_rfl) (of_decide_eq_true (by kernel_rfl)) h0 bel lt0) (trodAll_cons_mk (Below.trod laidOut (by kernel_rfl) (of_decide_eq_true (by kernel_rfl)) h1 bel lt1) (trodAll_cons_mk (Below.trod laidOut (by kernel_rfl) (of_decide_eq_true (by kernel_rfl)) h2 bel lt2) (trodAll_cons_mk (Below.trod laidOut (by kernel_rfl) (of_decide_eq_true (by kernel_rfl)) h3 bel lt3) (trodAll_cons_mk (Below.trod laidOut (by kernel_rfl) (of_decide_eq_true (by kernel_rfl)) h4 bel lt4) trodAll_mk0))))), rfl, bel.frame _, fun h => by cases h⟩

theorem over : Rows.progStepsRow.holds Try.pinned (OpenSpec.ofChange Rows.progStepsSpec) :=
  OpenClaim.holds_of_wide 11 Try.f11 rfl rfl rfl rfl rfl rfl rfl ⟨rfl, rfl, rfl, rfl, rfl⟩ rfl rfl rfl rfl rfl (by kernel_rfl) Try.func11 (by kernel_rfl)
    (of_decide_eq_true (by kernel_rfl)) (by unfold Func.isWrapper; first | (rw [if_pos (by decide +kernel)]; kernel_rfl) | (rw [if_neg (by decide +kernel)]; exact ⟨rfl, rfl⟩))
    (fun os started H enc _ => lifted os started H enc)

theorem proved : Rows.ProgStepsSaid := over
#print axioms proved

end Go.Proofs.Ytldfafaiappibaa.LProgSteps

