/- YtfecllgnajhkmaaDoorOrderAllC: a part of the proof; no conditions of its own. -/
import Derived.KernelRfl
import Derived.Test.YtfecllgnajhkmaaDoorRows
import Derived.WalkKit
import Derived.ProofKit
import Derived.OpenShut
import Derived.ShutString
import Derived.ChangeOld
import Derived.Below
import Derived.Carry
import Derived.Test.YtfecllgnajhkmaaDoorCards
import Derived.Test.YtfecllgnajhkmaaDoorTie
import Derived.SevenTiedAt
import Derived.LaidMore
import Derived.Stop.Joined
import Derived.Lib.LaidTab
import Derived.MakeChecks
import Derived.LaidHandle
import Derived.Test.YtfecllgnajhkmaaDoorOrderAllB
set_option linter.unusedVariables false
set_option linter.unusedSimpArgs false

/- Orders: which rows they are; how many; that they rise; that greed finds the first. -/
namespace Jq
open Go

theorem flatMap_congrL {α β : Type} {l : List α} {f g : α → List β} (h : ∀ i ∈ l, f i = g i) : l.flatMap f = l.flatMap g := by
  induction l with
  | nil => rfl
  | cons x t ih => rw [List.flatMap_cons, List.flatMap_cons, h x (by simp), ih (fun i hi => h i (by simp [hi]))]

def ints (r : List Nat) : List Int := r.map fun (v : Nat) => (v : Int)

theorem ints_len (r : List Nat) : (ints r).length = r.length := by simp [ints]
theorem ints_get (r : List Nat) (i : Nat) : (ints r)[i]? = (r[i]?).map fun (v : Nat) => (v : Int) := by simp [ints]
theorem ints_some {r : List Nat} {i v : Nat} : (ints r)[i]? = some (v : Int) ↔ r[i]? = some v := by
  rw [ints_get]
  cases r[i]? with
  | none => simp
  | some w => simp; omega

/-- The first m numbers of a row are numbers below n, no two alike. -/
def good (n : Nat) (l : List Int) (m : Nat) : Prop :=
  (∀ k v, k < m → l[k]? = some v → 0 ≤ v ∧ v < (n : Int)) ∧ (∀ j k v, j < k → k < m → l[j]? = some v → l[k]? ≠ some v)

theorem ndiff_zero (x d : Nat) : ndiff x d = 0 ↔ ∀ a, x.testBit a = true → d.testBit a = true := by
  constructor
  · intro h a ha
    have := congrArg (fun y => y.testBit a) h
    simp only [testBit_ndiff, Nat.zero_testBit, ha, Bool.true_and, Bool.not_eq_false'] at this
    exact this
  · intro h
    refine Nat.eq_of_testBit_eq fun a => ?_
    rw [testBit_ndiff, Nat.zero_testBit]
    cases hx : x.testBit a with
    | false => rfl
    | true => rw [h a hx]; rfl

theorem len_of_drop {α : Type} {l t : List α} {v : α} {i : Nat} (hd : l.drop i = v :: t) : i < l.length ∧ l[i]? = some v ∧ l.drop (i + 1) = t := by
  have h1 : i < l.length := by
    have := congrArg List.length hd
    simp at this; omega
  have h2 : l[i]? = some v := by
    have := congrArg (fun q => q[0]?) hd
    simpa [List.getElem?_drop] using this
  have h3 : l.drop (i + 1) = t := by
    have := congrArg (List.drop 1) hd
    simpa [List.drop_drop] using this
  exact ⟨h1, h2, h3⟩

theorem len_of_drop0 {α : Type} {l : List α} {i : Nat} (hd : l.drop i = []) : l.length ≤ i := by
  have := congrArg List.length hd
  simp at this; omega

theorem get_lt {α : Type} {l : List α} {i : Nat} {v : α} (h : l[i]? = some v) : i < l.length := by
  rcases Nat.lt_or_ge i l.length with h1 | h1
  · exact h1
  · rw [List.getElem?_eq_none h1] at h; cases h

theorem good_succ {n : Nat} {l : List Int} {i : Nat} {v : Int} (g : good n l i) (hv : l[i]? = some v) (h0 : 0 ≤ v) (h1 : v < (n : Int)) (hne : ∀ k, k < i → l[k]? ≠ some v) : good n l (i + 1) := by
  refine ⟨fun k w hk hw => ?_, fun j k w hjk hk hw hw2 => ?_⟩
  · by_cases e : k = i
    · subst e; rw [hv] at hw; cases hw; exact ⟨h0, h1⟩
    · exact g.1 k w (by omega) hw
  · by_cases e : k = i
    · subst e; rw [hv] at hw2; cases hw2; exact hne j hjk hw
    · exact g.2 j k w hjk (by omega) hw hw2

theorem kpR_aux {n : Nat} (hn : n ≤ 64) (B : Nat → Nat) (l : List Int) : ∀ (t : List Int) (i d : Nat), l.drop i = t → (∀ a, d.testBit a = true ↔ ∃ k, k < i ∧ l[k]? = some (a : Int)) → good n l i →
    (kpR n B t d = true ↔ good n l l.length ∧ ∀ (j : Nat) (b : Int), i ≤ j → l[j]? = some b → ∀ a, (B b.toNat).testBit a = true → ∃ k, k < j ∧ l[k]? = some (a : Int)) := by
  intro t
  induction t with
  | nil =>
    intro i d hd hi g
    have hl := len_of_drop0 hd
    refine ⟨fun _ => ⟨⟨fun k v hk => g.1 k v (by omega), fun j k v hj hk => g.2 j k v hj (by omega)⟩, fun j b hj hb => ?_⟩, fun _ => rfl⟩
    have := get_lt hb
    omega
  | cons v t ih =>
    intro i d hd hi g
    obtain ⟨h1, h2, h3⟩ := len_of_drop hd
    rw [kpR]
    by_cases hc : (decide (v < 0) || decide (v ≥ (n : Int)) || hasI d v || (ndiff (B v.toNat) d != 0)) = true
    · rw [if_pos hc]
      constructor
      · intro h; cases h
      rintro ⟨gg, hp⟩
      simp only [Bool.or_eq_true, decide_eq_true_eq, bne_iff_ne, ne_eq] at hc
      obtain ⟨b0, b1⟩ := gg.1 i v h1 h2
      rcases hc with ((hc | hc) | hc) | hc
      · omega
      · omega
      · unfold hasI at hc
        simp only [Bool.and_eq_true, decide_eq_true_eq] at hc
        obtain ⟨k, hk, hk2⟩ := (hi _).1 hc.1.2
        rw [show ((v.toNat : Nat) : Int) = v by omega] at hk2
        exact absurd h2 (gg.2 k i v hk h1 hk2)
      · exact absurd ((ndiff_zero _ _).2 fun a ha => (hi a).2 (hp i v (Nat.le_refl _) h2 a ha)) hc
    · rw [if_neg hc]
      simp only [Bool.or_eq_true, decide_eq_true_eq, bne_iff_ne, ne_eq, not_or, Decidable.not_not, Bool.not_eq_true] at hc
      obtain ⟨⟨⟨b0, b1⟩, b2⟩, b3⟩ := hc
      have hvv : ((v.toNat : Nat) : Int) = v := by omega
      have hne : ∀ k, k < i → l[k]? ≠ some v := by
        intro k hk hk2
        have : d.testBit v.toNat = true := (hi _).2 ⟨k, hk, by rw [hvv]; exact hk2⟩
        unfold hasI at b2
        rw [this] at b2
        simp only [Bool.and_true, Bool.and_eq_false_iff, decide_eq_false_iff_not] at b2
        omega
      have hnb : bitI v = 2 ^ v.toNat := by unfold bitI; rw [if_pos (by omega)]
      have hi2 : ∀ a, (d ||| bitI v).testBit a = true ↔ ∃ k, k < i + 1 ∧ l[k]? = some (a : Int) := by
        intro a
        rw [Nat.testBit_or, Bool.or_eq_true, hi, testBit_bitI]
        simp only [Bool.and_eq_true, decide_eq_true_eq]
        constructor
        · rintro (⟨k, hk, hk2⟩ | ⟨e, _⟩)
          · exact ⟨k, by omega, hk2⟩
          · exact ⟨i, by omega, by rw [← e]; exact h2⟩
        · rintro ⟨k, hk, hk2⟩
          by_cases e : k = i
          · subst e; rw [h2] at hk2; cases hk2; exact .inr ⟨rfl, by omega⟩
          · exact .inl ⟨k, by omega, hk2⟩
      rw [ih (i + 1) _ h3 hi2 (good_succ g h2 (by omega) (by omega) hne)]
      refine and_congr_right fun _ => ⟨fun hp j b hj hb a ha => ?_, fun hp j b hj => hp j b (by omega)⟩
      by_cases e : j = i
      · subst e; rw [h2] at hb; cases hb
        exact (hi a).1 ((ndiff_zero _ _).1 b3 a ha)
      · exact hp j b (by omega) hb a ha

theorem kpR_iff {n : Nat} (hn : n ≤ 64) (B : Nat → Nat) (l : List Int) : kpR n B l 0 = true ↔ good n l l.length ∧ ∀ (j : Nat) (b : Int), l[j]? = some b → ∀ a, (B b.toNat).testBit a = true → ∃ k, k < j ∧ l[k]? = some (a : Int) := by
  rw [kpR_aux hn B l l 0 0 rfl (fun a => by simp) ⟨fun k v h => by omega, fun j k v _ h => by omega⟩]
  simp

/-- As many numbers below n, no two alike, as n: at most. -/
theorem php : ∀ (n : Nat) (l : List Nat), l.Nodup → (∀ x ∈ l, x < n) → l.length ≤ n
  | 0, l, _, h => by
    cases l with
    | nil => simp
    | cons x t => exact absurd (h x (by simp)) (by omega)
  | n + 1, l, hd, h => by
    have h1 := php n (l.erase n) (hd.erase n) (fun x hx => by
      have := (hd.mem_erase_iff).1 hx
      have := h x this.2
      omega)
    have := List.length_erase (a := n) (l := l)
    split at this <;> omega

theorem good_nodup {n : Nat} {r : List Nat} (g : good n (ints r) r.length) : r.Nodup ∧ ∀ x ∈ r, x < n := by
  refine ⟨?_, fun x hx => ?_⟩
  · rw [List.nodup_iff_pairwise_ne, List.pairwise_iff_getElem]
    intro i j hi hj hij e
    refine g.2 i j (r[i] : Int) hij hj ?_ ?_
    · exact ints_some.2 (by simp [hi])
    · exact ints_some.2 (by simp [hj, e])
  · obtain ⟨k, hk⟩ := List.getElem?_of_mem hx
    have := g.1 k x (get_lt hk) (ints_some.2 hk)
    omega

theorem good_of {n : Nat} {r : List Nat} (h1 : r.Nodup) (h2 : ∀ x ∈ r, x < n) : good n (ints r) r.length := by
  refine ⟨fun k v hk hv => ?_, fun j k v hj hk hv hw => ?_⟩
  · rw [ints_get] at hv
    obtain ⟨w, hw, rfl⟩ := Option.map_eq_some_iff.1 hv
    have := h2 w (List.mem_of_getElem? hw)
    omega
  · rw [ints_get] at hv hw
    obtain ⟨w, hw1, rfl⟩ := Option.map_eq_some_iff.1 hv
    obtain ⟨w', hw2, e⟩ := Option.map_eq_some_iff.1 hw
    have e' : w' = w := by omega
    subst e'
    rw [List.nodup_iff_pairwise_ne, List.pairwise_iff_getElem] at h1
    have hj1 := get_lt hw1
    refine h1 j k hj1 hk hj ?_
    rw [List.getElem?_eq_getElem hj1] at hw1
    rw [List.getElem?_eq_getElem hk] at hw2
    exact (Option.some.inj hw1).trans (Option.some.inj hw2).symm

/-- In a row of all numbers each one stands somewhere. -/
theorem full_mem {n : Nat} {r : List Nat} (h1 : r.Nodup) (h2 : ∀ x ∈ r, x < n) (hl : r.length = n) {a : Nat} (ha : a < n) : a ∈ r := by
  refine Classical.byContradiction fun hm => ?_
  have := php n (a :: r) (List.nodup_cons.2 ⟨hm, h1⟩) (fun x hx => by
    rcases List.mem_cons.1 hx with rfl | hx
    · exact ha
    · exact h2 x hx)
  simp at this; omega

/-- What a row that keeps a relation is. -/
structure OrdOf (n : Nat) (f : Nat → Nat) (r : List Nat) : Prop where
  len : r.length = n
  nd : r.Nodup
  lt : ∀ x ∈ r, x < n
  ahead : ∀ a b, a < n → (f a).testBit b = true → ∀ j : Nat, r[j]? = some b → ∃ k : Nat, k < j ∧ r[k]? = some a

theorem kpR_ord {n : Nat} (hn : n ≤ 64) {f : Nat → Nat} {r : List Nat} (hl : r.length = n) : kpR n (INV n f) (ints r) 0 = true ↔ OrdOf n f r := by
  rw [kpR_iff hn, ints_len]
  constructor
  · rintro ⟨g, hp⟩
    obtain ⟨h1, h2⟩ := good_nodup g
    refine ⟨hl, h1, h2, fun a b ha hab j hj => ?_⟩
    obtain ⟨k, hk, hk2⟩ := hp j b (ints_some.2 hj) a ((b_INV hn f _ _).2 ⟨ha, hab⟩)
    exact ⟨k, hk, ints_some.1 hk2⟩
  · rintro ⟨_, h1, h2, hp⟩
    refine ⟨good_of h1 h2, fun j b hj a ha => ?_⟩
    rw [ints_get] at hj
    obtain ⟨w, hw, rfl⟩ := Option.map_eq_some_iff.1 hj
    obtain ⟨ha1, ha2⟩ := (b_INV hn f _ _).1 ha
    obtain ⟨k, hk, hk2⟩ := hp a w ha1 ha2 j hw
    exact ⟨k, hk, ints_some.2 hk2⟩

/-- One behind the other, by a way. -/
theorem OrdOf.way {n : Nat} {f : Nat → Nat} {r : List Nat} (o : OrdOf n f r) {a b : Nat} (w : Way f n a b) : a < n → ∀ j : Nat, r[j]? = some b → ∃ k : Nat, k < j ∧ r[k]? = some a := by
  induction w with
  | one h => intro ha j hj; exact o.ahead _ _ ha h j hj
  | step h hc _ ih =>
    intro ha j hj
    obtain ⟨k, hk, hk2⟩ := ih hc j hj
    obtain ⟨k', hk', hk3⟩ := o.ahead _ _ ha h k hk2
    exact ⟨k', by omega, hk3⟩

theorem nodup_get {r : List Nat} (h : r.Nodup) {i j v : Nat} (hi : r[i]? = some v) (hj : r[j]? = some v) : i = j := by
  rw [List.nodup_iff_pairwise_ne, List.pairwise_iff_getElem] at h
  have h1 := get_lt hi
  have h2 := get_lt hj
  rw [List.getElem?_eq_getElem h1] at hi
  rw [List.getElem?_eq_getElem h2] at hj
  have e : r[i] = r[j] := (Option.some.inj hi).trans (Option.some.inj hj).symm
  rcases Nat.lt_trichotomy i j with h3 | h3 | h3
  · exact absurd e (h i j h1 h2 h3)
  · exact h3
  · exact absurd e.symm (h j i h2 h1 h3)

theorem OrdOf.acyc {n : Nat} {f : Nat → Nat} {r : List Nat} (o : OrdOf n f r) : acycR n f = true := by
  rw [acycR_iff]
  intro a ha w
  obtain ⟨j, hj⟩ := List.getElem?_of_mem (full_mem o.nd o.lt o.len ha)
  obtain ⟨k, hk, hk2⟩ := o.way w ha j hj
  have := nodup_get o.nd hk2 hj
  omega

/-- Rows that go on are such, and keep. -/
theorem ext_form {n : Nat} {B : Nat → Nat} : ∀ {k d : Nat} {row r : List Nat}, r ∈ ext n B k d row → ∃ t, r = row ++ t ∧ t.length = k
  | 0, d, row, r, h => by
    have : r = row := by simpa [ext] using h
    exact ⟨[], by simp [this], rfl⟩
  | k + 1, d, row, r, h => by
    rw [ext, List.mem_flatMap] at h
    obtain ⟨i, hi, hr⟩ := h
    split at hr
    · cases hr
    · obtain ⟨t, ht, hl⟩ := ext_form hr
      exact ⟨i :: t, by rw [ht]; simp, by simp [hl]⟩

theorem kpR_cons {n : Nat} (hn : n ≤ 64) {B : Nat → Nat} {i : Nat} (hi : i < n) {t : List Nat} {d : Nat} : kpR n B (ints (i :: t)) d = if (d.testBit i || (ndiff (B i) d != 0)) = true then false else kpR n B (ints t) (d ||| 2 ^ i) := by
  have e1 : decide ((i : Int) < 0) = false := by simp
  have e2 : decide ((i : Int) ≥ (n : Int)) = false := by simp; omega
  show kpR n B ((i : Int) :: ints t) d = _
  rw [kpR, e1, e2, Bool.false_or, Bool.false_or, hasI_nat (by omega), Int.toNat_natCast, bitI_nat (by omega)]

theorem ext_mem {n : Nat} (hn : n ≤ 64) {B : Nat → Nat} : ∀ {k d : Nat} {row t : List Nat}, row ++ t ∈ ext n B k d row ↔ t.length = k ∧ (∀ x ∈ t, x < n) ∧ kpR n B (ints t) d = true
  | 0, d, row, t => by
    rw [ext, List.mem_singleton]
    constructor
    · intro h
      have : t = [] := by simpa using h
      subst this; exact ⟨rfl, by simp, rfl⟩
    · rintro ⟨h, _⟩
      rw [List.length_eq_zero_iff.1 h]; simp
  | k + 1, d, row, t => by
    rw [ext, List.mem_flatMap]
    constructor
    · rintro ⟨i, hi, hr⟩
      split at hr
      · cases hr
      · rename_i hc
        obtain ⟨t', ht, hl⟩ := ext_form hr
        have e : t = i :: t' := by simpa using ht
        subst e
        rw [show row ++ i :: t' = (row ++ [i]) ++ t' by simp, ext_mem hn] at hr
        have hi' : i < n := by simpa using hi
        refine ⟨by simp [hl], fun x hx => ?_, by rw [kpR_cons hn hi', if_neg hc]; exact hr.2.2⟩
        rcases List.mem_cons.1 hx with rfl | hx
        · exact hi'
        · exact hr.2.1 x hx
    · rintro ⟨hl, hlt, hk⟩
      cases t with
      | nil => simp at hl
      | cons i t =>
        have hi' : i < n := hlt i (by simp)
        rw [kpR_cons hn hi'] at hk
        split at hk
        · cases hk
        · rename_i hc
          refine ⟨i, by simpa using hi', ?_⟩
          rw [if_neg hc, show row ++ i :: t = (row ++ [i]) ++ t by simp, ext_mem hn]
          exact ⟨by simpa using hl, fun x hx => hlt x (by simp [hx]), hk⟩

theorem ext_filter {n : Nat} (hn : n ≤ 64) {B : Nat → Nat} : ∀ (k d : Nat) (row : List Nat), ext n B k d row = (ext n (fun _ => 0) k d row).filter fun r => kpR n B (ints (r.drop row.length)) d
  | 0, d, row => by
    rw [ext, ext, List.filter_cons, List.drop_length]
    simp [ints, kpR]
  | k + 1, d, row => by
    rw [ext, ext, List.filter_flatMap]
    refine flatMap_congrL fun i hi => ?_
    have hi' : i < n := by simpa using hi
    have e0 : (ndiff 0 d != 0) = false := by
      have : ndiff 0 d = 0 := (ndiff_zero _ _).2 fun a ha => by simp at ha
      rw [this]; rfl
    rw [e0, Bool.or_false]
    by_cases hb : d.testBit i = true
    · rw [if_pos hb, if_pos (by rw [hb]; rfl)]; rfl
    · rw [if_neg hb]
      have hb' : d.testBit i = false := by simpa using hb
      rw [hb', Bool.false_or]
      have hd : ∀ r ∈ ext n (fun _ => 0) k (d ||| 2 ^ i) (row ++ [i]), kpR n B (ints (r.drop row.length)) d = if (ndiff (B i) d != 0) = true then false else kpR n B (ints (r.drop (row ++ [i]).length)) (d ||| 2 ^ i) := by
        intro r hr
        obtain ⟨t, rfl, hl⟩ := ext_form hr
        rw [List.drop_left, show (row ++ [i] ++ t).drop row.length = i :: t by simp, kpR_cons hn hi', hb', Bool.false_or]
      rw [List.filter_congr hd]
      by_cases hc : (ndiff (B i) d != 0) = true
      · rw [if_pos hc]; simp [hc]
      · rw [if_neg hc, ext_filter hn]; simp only [if_neg hc]

/-- All rows of all numbers, each once, as rows stand. -/
def perms (n : Nat) : List (List Nat) := ext n (fun _ => 0) n 0 []

theorem perms_mem {n : Nat} (hn : n ≤ 64) {r : List Nat} (h : r ∈ perms n) : r.length = n ∧ r.Nodup ∧ ∀ x ∈ r, x < n := by
  have := (ext_mem hn (row := [])).1 (show [] ++ r ∈ ext n (fun _ => 0) n 0 [] from h)
  have g := ((kpR_iff hn _ _).1 this.2.2).1
  rw [ints_len] at g
  exact ⟨this.1, good_nodup g⟩

theorem ords_eq {n : Nat} (hn : n ≤ 64) (f : Nat → Nat) : ords n f = (perms n).filter fun r => kpR n (INV n f) (ints r) 0 := by
  have h0 := ext_filter hn (B := INV n f) n 0 []
  simp only [List.length_nil, List.drop_zero] at h0
  unfold ords
  split
  · exact h0
  · rename_i hc
    symm
    rw [List.filter_eq_nil_iff]
    intro r hr hk
    exact hc ((kpR_ord hn (perms_mem hn hr).1).1 hk).acyc

theorem ords_mem {n : Nat} (hn : n ≤ 64) {f : Nat → Nat} {r : List Nat} : r ∈ ords n f ↔ OrdOf n f r := by
  rw [ords_eq hn, List.mem_filter]
  constructor
  · rintro ⟨h1, h2⟩
    exact (kpR_ord hn (perms_mem hn h1).1).1 h2
  · intro o
    have hk := (kpR_ord hn o.len).2 o
    refine ⟨?_, hk⟩
    have := (ext_mem hn (B := fun _ => 0) (k := n) (d := 0) (row := []) (t := r)).2 ⟨o.len, o.lt, ?_⟩
    · simpa [perms] using this
    · rw [kpR_iff hn]
      rw [kpR_iff hn] at hk
      exact ⟨hk.1, fun j b _ a ha => by simp at ha⟩

/-- One row stands ahead of another. -/
def LexR (r s : List Nat) : Prop := ∃ (t : List Nat) (x y : Nat) (u v : List Nat), r = t ++ x :: u ∧ s = t ++ y :: v ∧ x < y

theorem ext_rise {n : Nat} {B : Nat → Nat} : ∀ (k d : Nat) (row : List Nat), (ext n B k d row).Pairwise LexR
  | 0, d, row => by rw [ext]; exact List.pairwise_singleton _ _
  | k + 1, d, row => by
    rw [ext, List.pairwise_flatMap]
    refine ⟨fun i _ => ?_, ?_⟩
    · split
      · exact List.Pairwise.nil
      · exact ext_rise k _ _
    · refine List.Pairwise.imp ?_ List.pairwise_lt_range
      intro i j hij r hr s hs
      split at hr
      · cases hr
      · split at hs
        · cases hs
        · obtain ⟨t, rfl, _⟩ := ext_form hr
          obtain ⟨u, rfl, _⟩ := ext_form hs
          exact ⟨row, i, j, t, u, by simp, by simp, hij⟩

theorem ords_rise {n : Nat} (hn : n ≤ 64) (f : Nat → Nat) : (ords n f).Pairwise LexR := by
  rw [ords_eq hn]; exact (ext_rise _ _ _).filter _

/- Greed. -/
def avail (B : Nat → Nat) (d i : Nat) : Bool := !d.testBit i && (ndiff (B i) d == 0)

theorem bestU_some {B : Nat → Nat} {l : List Int} {d : Nat} : ∀ {n i : Nat}, bestU B l d n = some i → i < n ∧ avail B d i = true
  | 0, _, h => by cases h
  | n + 1, i, h => by
    rw [bestU] at h
    cases ha : avail B d n with
    | false =>
      have ha' : (!d.testBit n && (ndiff (B n) d == 0)) = false := ha
      rw [ha', Bool.false_and, if_neg (by simp)] at h
      have := bestU_some h
      exact ⟨by omega, this.2⟩
    | true =>
      generalize (!d.testBit n && (ndiff (B n) d == 0) && (match bestU B l d n with | none => true | some j => lessL l n j)) = c at h
      cases c with
      | true => cases h; exact ⟨by omega, ha⟩
      | false =>
        have := bestU_some (n := n) h
        exact ⟨by omega, this.2⟩

theorem bestU_none {B : Nat → Nat} {l : List Int} {d : Nat} : ∀ {n : Nat}, bestU B l d n = none → ∀ i, i < n → avail B d i = false
  | 0, _, i, hi => by omega
  | n + 1, h, i, hi => by
    rw [bestU] at h
    cases hb : bestU B l d n with
    | none =>
      rw [hb] at h
      by_cases e : i = n
      · subst e
        cases ha : avail B d i with
        | false => rfl
        | true =>
          have ha' : (!d.testBit i && (ndiff (B i) d == 0)) = true := ha
          simp only [ha', Bool.and_self, if_true] at h
          cases h
      · exact bestU_none hb i (by omega)
    | some j =>
      rw [hb] at h
      exfalso
      generalize (!d.testBit n && (ndiff (B n) d == 0) && (match some j with | none => true | some j => lessL l n j)) = c at h
      cases c <;> cases h

/-- Of all numbers that are left one may come next, where nobody leads to itself. -/
theorem avail_ex {n : Nat} (hn : n ≤ 64) {f : Nat → Nat} (ha : acycR n f = true) {d : Nat} {u : Nat} (hu : u < n) (hd : d.testBit u = false) : ∃ i, i < n ∧ avail (INV n f) d i = true := by
  refine Classical.byContradiction fun hno => ?_
  have hpred : ∀ x, x < n → d.testBit x = false → ∃ y, y < n ∧ d.testBit y = false ∧ (f y).testBit x = true := by
    intro x hx hdx
    have h1 : avail (INV n f) d x = false := by
      cases h : avail (INV n f) d x with
      | false => rfl
      | true => exact absurd ⟨x, hx, h⟩ hno
    have h2 : ndiff (INV n f x) d ≠ 0 := by
      intro e
      unfold avail at h1
      rw [hdx, e] at h1
      cases h1
    have h3 : ¬ ∀ a, (INV n f x).testBit a = true → d.testBit a = true := fun h => h2 ((ndiff_zero _ _).2 h)
    obtain ⟨y, hy⟩ := Classical.not_forall.1 h3
    obtain ⟨hy1, hy2⟩ := Classical.not_imp.1 hy
    obtain ⟨b1, b2⟩ := (b_INV hn f _ _).1 hy1
    exact ⟨y, b1, by simpa using hy2, b2⟩
  have walk : ∀ (m : Nat), ∃ (x : Nat) (L : List Nat), x < n ∧ d.testBit x = false ∧ (x :: L).Nodup ∧ (∀ z ∈ L, z < n ∧ Way f n x z) ∧ L.length = m := by
    intro m
    induction m with
    | zero => exact ⟨u, [], hu, hd, by simp, by simp, rfl⟩
    | succ m ih =>
      obtain ⟨x, L, hx, hdx, hnd, hw, hl⟩ := ih
      obtain ⟨y, hy, hdy, hyx⟩ := hpred x hx hdx
      have hyw : ∀ z ∈ x :: L, z < n ∧ Way f n y z := by
        intro z hz
        rcases List.mem_cons.1 hz with rfl | hz
        · exact ⟨hx, .one hyx⟩
        · exact ⟨(hw z hz).1, .step hyx hx (hw z hz).2⟩
      refine ⟨y, x :: L, hy, hdy, List.nodup_cons.2 ⟨fun hm => ?_, hnd⟩, hyw, by simp [hl]⟩
      exact (acycR_iff n f).1 ha y hy (hyw y hm).2
  obtain ⟨x, L, hx, _, hnd, hw, hl⟩ := walk n
  have := php n (x :: L) hnd (fun z hz => by
    rcases List.mem_cons.1 hz with rfl | hz
    · exact hx
    · exact (hw z hz).1)
  simp at this; omega

theorem avail_iff {B : Nat → Nat} {d i : Nat} : avail B d i = true ↔ ¬ (d.testBit i || (ndiff (B i) d != 0)) = true := by
  unfold avail
  cases d.testBit i <;> simp

/-- Some are done: the row's. -/
def DoneIs (n : Nat) (row : List Nat) (d : Nat) : Prop := row.Nodup ∧ (∀ x ∈ row, x < n) ∧ ∀ a, d.testBit a = true ↔ a ∈ row

theorem DoneIs.nil (n : Nat) : DoneIs n [] 0 := ⟨by simp, by simp, by simp⟩

theorem DoneIs.snoc {n : Nat} {row : List Nat} {d i : Nat} (o : DoneIs n row d) (hi : i < n) (hd : d.testBit i = false) : DoneIs n (row ++ [i]) (d ||| 2 ^ i) := by
  obtain ⟨h1, h2, h3⟩ := o
  have hm : ¬ i ∈ row := fun h => by rw [(h3 i).2 h] at hd; cases hd
  refine ⟨?_, fun x hx => ?_, fun a => ?_⟩
  · rw [List.nodup_append]
    refine ⟨h1, by simp, fun a ha b hb e => ?_⟩
    have : b = i := by simpa using hb
    subst this; subst e; exact hm ha
  · rcases List.mem_append.1 hx with hx | hx
    · exact h2 x hx
    · have : x = i := by simpa using hx
      omega
  · rw [Nat.testBit_or, Bool.or_eq_true, h3, Nat.testBit_two_pow]
    simp [eq_comm]

theorem DoneIs.left {n : Nat} {row : List Nat} {d k : Nat} (o : DoneIs n row d) (hk : row.length + (k + 1) = n) : ∃ u, u < n ∧ d.testBit u = false := by
  refine Classical.byContradiction fun hno => ?_
  have hall : ∀ u, u < n → u ∈ row := fun u hu => by
    cases h : d.testBit u with
    | true => exact (o.2.2 u).1 h
    | false => exact absurd ⟨u, hu, h⟩ hno
  have h1 : (List.range n).length ≤ row.length := by
    have key : ∀ (L row : List Nat), L.Nodup → (∀ x ∈ L, x ∈ row) → L.length ≤ row.length := by
      intro L
      induction L with
      | nil => intros; simp
      | cons x L ih =>
        intro row hnd hs
        have hx := hs x (by simp)
        have := ih (row.erase x) (List.nodup_cons.1 hnd).2 (fun y hy => by
          have hne : y ≠ x := fun e => (List.nodup_cons.1 hnd).1 (e ▸ hy)
          exact (List.mem_erase_of_ne hne).2 (hs y (by simp [hy])))
        rw [List.length_erase_of_mem hx] at this
        have h0 := List.length_pos_of_mem hx
        simp; omega
    exact key _ _ List.nodup_range (fun x hx => hall x (by simpa using hx))
  simp at h1; omega

theorem ext_ne {n : Nat} (hn : n ≤ 64) {f : Nat → Nat} (ha : acycR n f = true) : ∀ (k d : Nat) (row : List Nat), DoneIs n row d → row.length + k = n → ext n (INV n f) k d row ≠ []
  | 0, _, _, _, _ => by simp [ext]
  | k + 1, d, row, o, hk => by
    obtain ⟨u, hu, hdu⟩ := o.left hk
    obtain ⟨i, hi, hav⟩ := avail_ex hn ha hu hdu
    have hd : d.testBit i = false := by
      unfold avail at hav
      cases h : d.testBit i with
      | false => rfl
      | true => rw [h] at hav; cases hav
    have ih := ext_ne hn ha k (d ||| 2 ^ i) (row ++ [i]) (o.snoc hi hd) (by simp; omega)
    intro e
    rw [ext, List.flatMap_eq_nil_iff] at e
    have := e i (by simpa using hi)
    rw [if_neg (avail_iff.1 hav)] at this
    exact ih this

theorem ords_ne {n : Nat} (hn : n ≤ 64) {f : Nat → Nat} : ords n f ≠ [] ↔ acycR n f = true := by
  unfold ords
  constructor
  · intro h
    split at h
    · rename_i ha; exact ha
    · exact absurd rfl h
  · intro ha
    rw [if_pos ha]
    exact ext_ne hn ha n 0 [] (DoneIs.nil n) (by simp)

/-- What greed finds is one of them. -/
theorem grd_mem {n : Nat} {B : Nat → Nat} {l : List Int} : ∀ {k d : Nat} {row r : List Nat}, grd n B l k d row = some r → r ∈ ext n B k d row
  | 0, d, row, r, h => by
    rw [grd] at h; cases h; simp [ext]
  | k + 1, d, row, r, h => by
    rw [grd] at h
    cases hb : bestU B l d n with
    | none => rw [hb] at h; cases h
    | some i =>
      rw [hb] at h
      obtain ⟨hi, ha⟩ := bestU_some hb
      rw [ext, List.mem_flatMap]
      exact ⟨i, by simpa using hi, by rw [if_neg (avail_iff.1 ha)]; exact grd_mem h⟩

theorem grd_ex {n : Nat} (hn : n ≤ 64) {f : Nat → Nat} {l : List Int} (ha : acycR n f = true) : ∀ (k d : Nat) (row : List Nat), DoneIs n row d → row.length + k = n → ∃ r, grd n (INV n f) l k d row = some r
  | 0, _, row, _, _ => ⟨row, rfl⟩
  | k + 1, d, row, o, hk => by
    obtain ⟨u, hu, hdu⟩ := o.left hk
    obtain ⟨i, hi, hav⟩ := avail_ex hn ha hu hdu
    cases hb : bestU (INV n f) l d n with
    | none => rw [bestU_none hb i hi] at hav; cases hav
    | some j =>
      obtain ⟨hj, hj2⟩ := bestU_some hb
      have hd : d.testBit j = false := by
        unfold avail at hj2
        cases h : d.testBit j with
        | false => rfl
        | true => rw [h] at hj2; cases hj2
      obtain ⟨r, hr⟩ := grd_ex hn ha (l := l) k (d ||| 2 ^ j) (row ++ [j]) (o.snoc hj hd) (by simp; omega)
      exact ⟨r, by rw [grd, hb]; exact hr⟩

theorem grd_acyc {n : Nat} (hn : n ≤ 64) {f : Nat → Nat} {l : List Int} : (grd n (INV n f) l n 0 []).isSome = acycR n f := by
  cases ha : acycR n f with
  | true =>
    obtain ⟨r, hr⟩ := grd_ex hn (l := l) ha n 0 [] (DoneIs.nil n) (by simp)
    rw [hr]; rfl
  | false =>
    cases hg : grd n (INV n f) l n 0 [] with
    | none => rfl
    | some r =>
      exfalso
      have hm := grd_mem hg
      obtain ⟨t, rfl, hl⟩ := ext_form hm
      have := (ext_mem hn).1 hm
      have o := (kpR_ord hn this.1).1 this.2.2
      rw [o.acyc] at ha; cases ha

theorem grd_ord {n : Nat} (hn : n ≤ 64) {f : Nat → Nat} {l : List Int} {r : List Nat} (hg : grd n (INV n f) l n 0 [] = some r) : OrdOf n f r := by
  have hm := grd_mem hg
  obtain ⟨t, e, hl⟩ := ext_form hm
  rw [e] at hm ⊢
  have := (ext_mem hn).1 hm
  exact (kpR_ord hn this.1).1 this.2.2

theorem bestU_least {B : Nat → Nat} {d : Nat} : ∀ {n i : Nat}, bestU B [] d n = some i → ∀ j, j < i → avail B d j = false
  | 0, _, h => by cases h
  | n + 1, i, h => by
    intro j hj
    rw [bestU] at h
    cases hb : bestU B [] d n with
    | none =>
      rw [hb] at h
      have hj' : j < n ∨ n ≤ j := by omega
      rcases hj' with hj' | hj'
      · exact bestU_none hb j hj'
      · exfalso
        generalize (!d.testBit n && (ndiff (B n) d == 0) && (match none with | none => true | some j => lessL [] n j)) = c at h
        cases c with
        | true => cases h; omega
        | false => cases h
    | some m =>
      rw [hb] at h
      have hm := bestU_lt hb
      have : lessL [] n m = false := by unfold lessL; simp; omega
      simp only [this, Bool.and_false, Bool.false_eq_true, if_false] at h
      cases h
      exact bestU_least hb j hj

/-- The least comes next: that is the first row. -/
theorem grd_head {n : Nat} (hn : n ≤ 64) {f : Nat → Nat} (ha : acycR n f = true) : ∀ (k d : Nat) (row : List Nat), DoneIs n row d → row.length + k = n → grd n (INV n f) [] k d row = (ext n (INV n f) k d row).head?
  | 0, _, row, _, _ => rfl
  | k + 1, d, row, o, hk => by
    obtain ⟨u, hu, hdu⟩ := o.left hk
    obtain ⟨i, hi, hav⟩ := avail_ex hn ha hu hdu
    cases hb : bestU (INV n f) [] d n with
    | none => rw [bestU_none hb i hi] at hav; cases hav
    | some j =>
      obtain ⟨hj, hj2⟩ := bestU_some hb
      have hlow := bestU_least hb
      have hd : d.testBit j = false := by
        unfold avail at hj2
        cases h : d.testBit j with
        | false => rfl
        | true => rw [h] at hj2; cases hj2
      have hs := o.snoc hj hd
      have ih := grd_head hn ha k (d ||| 2 ^ j) (row ++ [j]) hs (by simp; omega)
      have hne := ext_ne hn ha k (d ||| 2 ^ j) (row ++ [j]) hs (by simp; omega)
      rw [grd, hb]
      show grd n (INV n f) [] k (d ||| 2 ^ j) (row ++ [j]) = _
      rw [ih, ext, show n = j + (n - j - 1 + 1) by omega, List.range_add, List.flatMap_append]
      have e1 : ((List.range j).flatMap fun i => if (d.testBit i || (ndiff (INV (j + (n - j - 1 + 1)) f i) d != 0)) = true then [] else ext (j + (n - j - 1 + 1)) (INV (j + (n - j - 1 + 1)) f) k (d ||| 2 ^ i) (row ++ [i])) = [] := by
        rw [List.flatMap_eq_nil_iff]
        intro i hi
        have h1 := hlow i (by simpa using hi)
        rw [show j + (n - j - 1 + 1) = n by omega]
        rw [if_pos]
        refine Classical.byContradiction fun hc => ?_
        rw [avail_iff.2 hc] at h1; cases h1
      rw [e1, List.nil_append, List.range_succ_eq_map, List.map_cons, List.flatMap_cons, Nat.add_zero]
      rw [show j + (n - j - 1 + 1) = n by omega]
      simp only [Nat.add_zero]
      rw [if_neg (avail_iff.1 hj2), List.head?_append]
      cases he : ext n (INV n f) k (d ||| 2 ^ j) (row ++ [j]) with
      | nil => exact absurd he hne
      | cons x t => rfl

theorem grd_first {n : Nat} (hn : n ≤ 64) {f : Nat → Nat} : grd n (INV n f) [] n 0 [] = (ords n f).head? := by
  unfold ords
  by_cases ha : acycR n f = true
  · rw [if_pos ha]; exact grd_head hn ha n 0 [] (DoneIs.nil n) (by simp)
  · rw [if_neg ha]
    have h := grd_acyc hn (f := f) (l := [])
    rw [show acycR n f = false by simpa using ha] at h
    cases hg : grd n (INV n f) [] n 0 [] with
    | none => rfl
    | some r => rw [hg] at h; cases h

end Jq

namespace Jq
open Go

/- jacquard/jacquardlaw9.awake: 24 -/
set_option maxRecDepth 100000 in
theorem jacquardlaw9_awake_eq (C : CallF) (L : LoopF) (G : Glo)  (h0 : AHeap) :
    jacquardlaw9_awake.body C L G [] h0 =
    c1 (C 9 [(.c (.int .i64 3))] h0) fun y_2 h_1 => asA y_2 fun l_3 => c1 (C 10 [(.agg l_3), (.c (.int .i64 0)), (.c (.int .i64 1))] h_1) fun y_5 h_4 => asA y_5 fun l_6 => if 0 = 0 ∧ ([Cell.int .i64 0] ++ List.replicate 64 (Cell.int .u64 0)).length = 65 ∧ l_6.length = 65 then if 0 = 0 ∧ l_6.length = 65 then c1 (C 21 [(.agg l_6), (.c (.int .i64 10))] h_4) fun y_8 h_7 => asC y_8 fun x_9 => lenK x_9 fun n_10 => scK (n_10 == 3) true (idxSK 1 x_9 2 fun k_11 N_12 o_13 => rdH h_7 k_11 N_12 fun l_14 => atK l_14 o_13 fun q_15 => idxSK 1 q_15 0 fun k_16 N_17 o_18 => rdH h_7 k_16 N_17 fun l_19 => atK l_19 o_18 fun q_20 => asI .i64 (.c q_20) fun n_21 => some ((n_21 == 2), h_7)) false h_7 fun b_22 h_23 => scK b_22 true (if 0 = 0 ∧ l_6.length = 65 then c1 (C 23 [(.agg l_6), (.c (.int .i64 10))] h_23) fun y_25 h_24 => asI .i64 y_25 fun n_26 => some ((n_26 == 3), h_24) else none) false h_23 fun b_27 h_28 => scK b_27 true (if 0 = 0 ∧ l_6.length = 65 then if (splice (splice (splice [Cell.int .i64 0, Cell.int .i64 0, Cell.int .i64 0] 0 ([(.int .i64 2)] : List Cell)) 1 ([(.int .i64 0)] : List Cell)) 2 ([(.int .i64 1)] : List Cell)).length = 3 * 1 then c1 (C 22 [(.agg l_6), (.c (.sl h_28.length ((splice (splice (splice [Cell.int .i64 0, Cell.int .i64 0, Cell.int .i64 0] 0 ([(.int .i64 2)] : List Cell)) 1 ([(.int .i64 0)] : List Cell)) 2 ([(.int .i64 1)] : List Cell)).length) 0 3))] (h_28 ++ [some (Blk.mk true 1 (splice (splice (splice [Cell.int .i64 0, Cell.int .i64 0, Cell.int .i64 0] 0 ([(.int .i64 2)] : List Cell)) 1 ([(.int .i64 0)] : List Cell)) 2 ([(.int .i64 1)] : List Cell)))])) fun y_30 h_29 => asB y_30 fun b_31 => some (b_31, h_29) else none else none) false h_28 fun b_32 h_33 => scK b_32 true (if 0 = 0 ∧ l_6.length = 65 then if (splice (splice (splice [Cell.int .i64 0, Cell.int .i64 0, Cell.int .i64 0] 0 ([(.int .i64 1)] : List Cell)) 1 ([(.int .i64 0)] : List Cell)) 2 ([(.int .i64 2)] : List Cell)).length = 3 * 1 then c1 (C 22 [(.agg l_6), (.c (.sl h_33.length ((splice (splice (splice [Cell.int .i64 0, Cell.int .i64 0, Cell.int .i64 0] 0 ([(.int .i64 1)] : List Cell)) 1 ([(.int .i64 0)] : List Cell)) 2 ([(.int .i64 2)] : List Cell)).length) 0 3))] (h_33 ++ [some (Blk.mk true 1 (splice (splice (splice [Cell.int .i64 0, Cell.int .i64 0, Cell.int .i64 0] 0 ([(.int .i64 1)] : List Cell)) 1 ([(.int .i64 0)] : List Cell)) 2 ([(.int .i64 2)] : List Cell)))])) fun y_35 h_34 => asB y_35 fun b_36 => some ((!b_36), h_34) else none else none) false h_33 fun b_37 h_38 => finish true h0 [(.c (.bool b_37))] h_38 else none else none := by kernel_rfl

/- jacquard/jacquardlaw9.keeps: 25 -/
def jacquardlaw9_keeps_k2 (C : CallF) (L : LoopF) (G : Glo) (h0 : AHeap) : Ex → St → Option (List AV × AHeap) :=
  kSeq (fun st => jacquardlaw9_keeps_p1.exec C L G st (jacquardlaw9_keeps.fin G h0)) (jacquardlaw9_keeps.fin G h0)
def jacquardlaw9_keeps_k3 (C : CallF) (L : LoopF) (G : Glo) (h0 : AHeap) : Ex → St → Option (List AV × AHeap) :=
  kBlk 0 (jacquardlaw9_keeps_k2 C L G h0)
def jacquardlaw9_keeps_s1 (x1 : Cell) (a6 : Int) (s0 : List Cell) (s1 : List Cell) (h : AHeap) : St := ⟨[.top, .v (.c x1), .loc 0 0, .top, .top, .loc 1 0, .v (.c (.int .i64 a6)), .top, .top, .top, .top, .top, .top, .top, .top, .top, .top, .top, .top, .top, .top, .top, .top, .top, .top, .top, .top, .top, .top, .top, .top, .top, .top, .top, .top, .top, .top, .top, .top, .top, .top, .top, .top, .top, .top, .top, .top, .top, .top, .top, .top, .top, .top, .top, .top, .top, .top, .top, .top, .top, .top, .top, .top, .top, .top, .top, .top, .top, .top, .top, .top, .top, .top, .top, .top, .top, .top, .top, .top, .top, .top], [some s0, some s1], h⟩
def jacquardlaw9_keeps_F1 (C : CallF) (L : LoopF) (G : Glo) : St → Option (Ex × St) :=
  roundF (fun st f => jacquardlaw9_keeps_b1.exec C L G st f) [1, 2, 5, 6] [0, 1] [(1, [1, 2, 5], [0, 1])]
def jacquardlaw9_keeps_x1_1 (x1 : Cell) (s0 : List Cell) (s1 : List Cell) (h : AHeap) : St := ⟨[.top, .v (.c x1), .loc 0 0, .top, .top, .loc 1 0, .top, .top, .top, .top, .top, .top, .top, .top, .top, .top, .top, .top, .top, .top, .top, .top, .top, .top, .top, .top, .top, .top, .top, .top, .top, .top, .top, .top, .top, .top, .top, .top, .top, .top, .top, .top, .top, .top, .top, .top, .top, .top, .top, .top, .top, .top, .top, .top, .top, .top, .top, .top, .top, .top, .top, .top, .top, .top, .top, .top, .top, .top, .top, .top, .top, .top, .top, .top, .top, .top, .top, .top, .top, .top, .top], [some s0, some s1], h⟩
def jacquardlaw9_keeps_k4 (C : CallF) (L : LoopF) (G : Glo) (h0 : AHeap) : Ex → St → Option (List AV × AHeap) :=
  kSeq (fun st => jacquardlaw9_keeps_p2.exec C L G st (jacquardlaw9_keeps.fin G h0)) (jacquardlaw9_keeps.fin G h0)
def jacquardlaw9_keeps_k5 (C : CallF) (L : LoopF) (G : Glo) (h0 : AHeap) : Ex → St → Option (List AV × AHeap) :=
  kBlk 2 (jacquardlaw9_keeps_k4 C L G h0)
def jacquardlaw9_keeps_s2 (x1 : Cell) (a7 : Int) (s0 : List Cell) (s1 : List Cell) (h : AHeap) : St := ⟨[.top, .v (.c x1), .loc 0 0, .top, .top, .loc 1 0, .top, .v (.c (.int .i64 a7)), .top, .top, .top, .top, .top, .top, .top, .top, .top, .top, .top, .top, .top, .top, .top, .top, .top, .top, .top, .top, .top, .top, .top, .top, .top, .top, .top, .top, .top, .top, .top, .top, .top, .top, .top, .top, .top, .top, .top, .top, .top, .top, .top, .top, .top, .top, .top, .top, .top, .top, .top, .top, .top, .top, .top, .top, .top, .top, .top, .top, .top, .top, .top, .top, .top, .top, .top, .top, .top, .top, .top, .top, .top], [some s0, some s1], h⟩
def jacquardlaw9_keeps_F2 (C : CallF) (L : LoopF) (G : Glo) : St → Option (Ex × St) :=
  roundF (fun st f => jacquardlaw9_keeps_b2.exec C L G st f) [1, 2, 5, 7] [0, 1] [(0, [4], []), (3, [2, 5], [0, 1])]
def jacquardlaw9_keeps_x2_0 (b4 : Bool) (h : AHeap) : St := ⟨[.top, .top, .top, .top, .v (.c (.bool b4)), .top, .top, .top, .top, .top, .top, .top, .top, .top, .top, .top, .top, .top, .top, .top, .top, .top, .top, .top, .top, .top, .top, .top, .top, .top, .top, .top, .top, .top, .top, .top, .top, .top, .top, .top, .top, .top, .top, .top, .top, .top, .top, .top, .top, .top, .top, .top, .top, .top, .top, .top, .top, .top, .top, .top, .top, .top, .top, .top, .top, .top, .top, .top, .top, .top, .top, .top, .top, .top, .top, .top, .top, .top, .top, .top, .top], [none, none], h⟩
def jacquardlaw9_keeps_x2_3 (s0 : List Cell) (s1 : List Cell) (h : AHeap) : St := ⟨[.top, .top, .loc 0 0, .top, .top, .loc 1 0, .top, .top, .top, .top, .top, .top, .top, .top, .top, .top, .top, .top, .top, .top, .top, .top, .top, .top, .top, .top, .top, .top, .top, .top, .top, .top, .top, .top, .top, .top, .top, .top, .top, .top, .top, .top, .top, .top, .top, .top, .top, .top, .top, .top, .top, .top, .top, .top, .top, .top, .top, .top, .top, .top, .top, .top, .top, .top, .top, .top, .top, .top, .top, .top, .top, .top, .top, .top, .top, .top, .top, .top, .top, .top, .top], [some s0, some s1], h⟩
def jacquardlaw9_keeps_k6 (C : CallF) (L : LoopF) (G : Glo) (h0 : AHeap) : Ex → St → Option (List AV × AHeap) :=
  kSeq (fun st => jacquardlaw9_keeps_p3.exec C L G st (jacquardlaw9_keeps.fin G h0)) (jacquardlaw9_keeps.fin G h0)
def jacquardlaw9_keeps_k7 (C : CallF) (L : LoopF) (G : Glo) (h0 : AHeap) : Ex → St → Option (List AV × AHeap) :=
  kBlk 4 (jacquardlaw9_keeps_k6 C L G h0)
def jacquardlaw9_keeps_s4 (a8 : Int) (s0 : List Cell) (s1 : List Cell) (h : AHeap) : St := ⟨[.top, .top, .loc 0 0, .top, .top, .loc 1 0, .top, .top, .v (.c (.int .i64 a8)), .top, .top, .top, .top, .top, .top, .top, .top, .top, .top, .top, .top, .top, .top, .top, .top, .top, .top, .top, .top, .top, .top, .top, .top, .top, .top, .top, .top, .top, .top, .top, .top, .top, .top, .top, .top, .top, .top, .top, .top, .top, .top, .top, .top, .top, .top, .top, .top, .top, .top, .top, .top, .top, .top, .top, .top, .top, .top, .top, .top, .top, .top, .top, .top, .top, .top, .top, .top, .top, .top, .top, .top], [some s0, some s1], h⟩
def jacquardlaw9_keeps_F4 (C : CallF) (L : LoopF) (G : Glo) : St → Option (Ex × St) :=
  roundF (fun st f => jacquardlaw9_keeps_b4.exec C L G st f) [2, 5, 8] [0, 1] [(0, [4], []), (5, [], [])]
def jacquardlaw9_keeps_k8 (C : CallF) (L : LoopF) (G : Glo) : Ex → St → Option (Ex × St) :=
  kSeq (fun st => jacquardlaw9_keeps_p4.exec C L G st (kLoop [2, 5, 8] [0, 1] [(0, [4], []), (5, [], [])])) (kLoop [2, 5, 8] [0, 1] [(0, [4], []), (5, [], [])])
def jacquardlaw9_keeps_k9 (C : CallF) (L : LoopF) (G : Glo) : Ex → St → Option (Ex × St) :=
  kBlk 5 (jacquardlaw9_keeps_k8 C L G)
def jacquardlaw9_keeps_k10 (C : CallF) (L : LoopF) (G : Glo) : Ex → St → Option (Ex × St) :=
  kBlk 6 (jacquardlaw9_keeps_k9 C L G)
def jacquardlaw9_keeps_s3 (a8 : Int) (a9 : Int) (s0 : List Cell) (s1 : List Cell) (h : AHeap) : St := ⟨[.top, .top, .loc 0 0, .top, .top, .loc 1 0, .top, .top, .v (.c (.int .i64 a8)), .v (.c (.int .i64 a9)), .top, .top, .top, .top, .top, .top, .top, .top, .top, .top, .top, .top, .top, .top, .top, .top, .top, .top, .top, .top, .top, .top, .top, .top, .top, .top, .top, .top, .top, .top, .top, .top, .top, .top, .top, .top, .top, .top, .top, .top, .top, .top, .top, .top, .top, .top, .top, .top, .top, .top, .top, .top, .top, .top, .top, .top, .top, .top, .top, .top, .top, .top, .top, .top, .top, .top, .top, .top, .top, .top, .top], [some s0, some s1], h⟩
def jacquardlaw9_keeps_F3 (C : CallF) (L : LoopF) (G : Glo) : St → Option (Ex × St) :=
  roundF (fun st f => jacquardlaw9_keeps_b3.exec C L G st f) [2, 5, 8, 9] [0, 1] [(0, [4], []), (7, [2, 5, 8], [0, 1])]
def jacquardlaw9_keeps_x3_0 (b4 : Bool) (h : AHeap) : St := ⟨[.top, .top, .top, .top, .v (.c (.bool b4)), .top, .top, .top, .top, .top, .top, .top, .top, .top, .top, .top, .top, .top, .top, .top, .top, .top, .top, .top, .top, .top, .top, .top, .top, .top, .top, .top, .top, .top, .top, .top, .top, .top, .top, .top, .top, .top, .top, .top, .top, .top, .top, .top, .top, .top, .top, .top, .top, .top, .top, .top, .top, .top, .top, .top, .top, .top, .top, .top, .top, .top, .top, .top, .top, .top, .top, .top, .top, .top, .top, .top, .top, .top, .top, .top, .top], [none, none], h⟩
def jacquardlaw9_keeps_x3_7 (a8 : Int) (s0 : List Cell) (s1 : List Cell) (h : AHeap) : St := ⟨[.top, .top, .loc 0 0, .top, .top, .loc 1 0, .top, .top, .v (.c (.int .i64 a8)), .top, .top, .top, .top, .top, .top, .top, .top, .top, .top, .top, .top, .top, .top, .top, .top, .top, .top, .top, .top, .top, .top, .top, .top, .top, .top, .top, .top, .top, .top, .top, .top, .top, .top, .top, .top, .top, .top, .top, .top, .top, .top, .top, .top, .top, .top, .top, .top, .top, .top, .top, .top, .top, .top, .top, .top, .top, .top, .top, .top, .top, .top, .top, .top, .top, .top, .top, .top, .top, .top, .top, .top], [some s0, some s1], h⟩
def jacquardlaw9_keeps_x4_0 (b4 : Bool) (h : AHeap) : St := ⟨[.top, .top, .top, .top, .v (.c (.bool b4)), .top, .top, .top, .top, .top, .top, .top, .top, .top, .top, .top, .top, .top, .top, .top, .top, .top, .top, .top, .top, .top, .top, .top, .top, .top, .top, .top, .top, .top, .top, .top, .top, .top, .top, .top, .top, .top, .top, .top, .top, .top, .top, .top, .top, .top, .top, .top, .top, .top, .top, .top, .top, .top, .top, .top, .top, .top, .top, .top, .top, .top, .top, .top, .top, .top, .top, .top, .top, .top, .top, .top, .top, .top, .top, .top, .top], [none, none], h⟩
def jacquardlaw9_keeps_x4_5 (h : AHeap) : St := ⟨[.top, .top, .top, .top, .top, .top, .top, .top, .top, .top, .top, .top, .top, .top, .top, .top, .top, .top, .top, .top, .top, .top, .top, .top, .top, .top, .top, .top, .top, .top, .top, .top, .top, .top, .top, .top, .top, .top, .top, .top, .top, .top, .top, .top, .top, .top, .top, .top, .top, .top, .top, .top, .top, .top, .top, .top, .top, .top, .top, .top, .top, .top, .top, .top, .top, .top, .top, .top, .top, .top, .top, .top, .top, .top, .top, .top, .top, .top, .top, .top, .top], [none, none], h⟩
theorem jacquardlaw9_keeps_r1 (C : CallF) (L : LoopF) (G : Glo) (x1 : Cell) (a6 : Int) (s0 : List Cell) (s1 : List Cell) (h : AHeap) :
    jacquardlaw9_keeps_F1 C L G (jacquardlaw9_keeps_s1 x1 a6 s0 s1 h) =
    if (decide (a6 < 64)) = true then if 0 ≤ a6 ∧ a6 < ((64 : Nat) : Int) then if (0 + ((Int.toNat a6) * 1)) < s1.length then some (.normal, (jacquardlaw9_keeps_s1 x1 (G.wrap .i64 (a6 + 1)) s0 (s1.set (0 + ((Int.toNat a6) * 1)) (.int .i64 (-1))) h)) else none else none else some ((.exit 0), (jacquardlaw9_keeps_x1_1 x1 s0 s1 h)) := by kernel_rfl
theorem jacquardlaw9_keeps_r2 (C : CallF) (L : LoopF) (G : Glo) (x1 : Cell) (a7 : Int) (s0 : List Cell) (s1 : List Cell) (h : AHeap) :
    jacquardlaw9_keeps_F2 C L G (jacquardlaw9_keeps_s2 x1 a7 s0 s1 h) =
    lenK x1 fun n_5 => if (decide (a7 < n_5)) = true then idxSK 1 x1 a7 fun k_6 N_7 o_8 => rdH h k_6 N_7 fun l_9 => atK l_9 o_8 fun q_10 => asI .i64 (.c q_10) fun n_11 => scK (decide (n_11 < 0)) false (idxSK 1 x1 a7 fun k_12 N_13 o_14 => rdH h k_12 N_13 fun l_15 => atK l_15 o_14 fun q_16 => asI .i64 (.c q_16) fun n_17 => if 0 = 0 ∧ s0.length = 65 then c1 (qh h (C 14 [(.agg s0)] h)) fun y_19 h_18 => asI .i64 y_19 fun n_20 => some ((decide (n_17 ≥ n_20)), h) else none) true h fun b_21 h_22 => scK b_21 false (idxSK 1 x1 a7 fun k_23 N_24 o_25 => rdH h_22 k_23 N_24 fun l_26 => atK l_26 o_25 fun q_27 => asI .i64 (.c q_27) fun n_28 => if 0 ≤ n_28 ∧ n_28 < ((64 : Nat) : Int) then atK s1 (0 + ((Int.toNat n_28) * 1)) fun q_29 => asI .i64 (.c q_29) fun n_30 => some ((decide (n_30 ≥ 0)), h_22) else none) true h_22 fun b_31 h_32 => if b_31 = true then some (.ret, (jacquardlaw9_keeps_x2_0 false h_32)) else idxSK 1 x1 a7 fun k_33 N_34 o_35 => rdH h_32 k_33 N_34 fun l_36 => atK l_36 o_35 fun q_37 => asI .i64 (.c q_37) fun n_38 => if 0 ≤ n_38 ∧ n_38 < ((64 : Nat) : Int) then if (0 + ((Int.toNat n_38) * 1)) < s1.length then some (.normal, (jacquardlaw9_keeps_s2 x1 (G.wrap .i64 (a7 + 1)) s0 (s1.set (0 + ((Int.toNat n_38) * 1)) (.int .i64 a7)) h_32)) else none else none else some ((.exit 2), (jacquardlaw9_keeps_x2_3 s0 s1 h)) := by kernel_rfl
theorem jacquardlaw9_keeps_e2_0 (C : CallF) (L : LoopF) (G : Glo) (h0 : AHeap) (b4 : Bool) (h : AHeap) :
    (jacquardlaw9_keeps_k5 C L G h0) .ret (jacquardlaw9_keeps_x2_0 b4 h) =
    some ([(.c (.bool b4))], h) := by kernel_rfl
theorem jacquardlaw9_keeps_r3 (C : CallF) (L : LoopF) (G : Glo) (a8 : Int) (a9 : Int) (s0 : List Cell) (s1 : List Cell) (h : AHeap) :
    jacquardlaw9_keeps_F3 C L G (jacquardlaw9_keeps_s3 a8 a9 s0 s1 h) =
    if 0 = 0 ∧ s0.length = 65 then c1 (C 14 [(.agg s0)] h) fun y_43 h_42 => asI .i64 y_43 fun n_44 => if (decide (a9 < n_44)) = true then if 0 = 0 ∧ s0.length = 65 then c1 (qh h_42 (C 3 [(.agg s0), (.c (.int .i64 a8)), (.c (.int .i64 a9))] h_42)) fun y_46 h_45 => asB y_46 fun b_47 => scK b_47 true (if 0 ≤ a8 ∧ a8 < ((64 : Nat) : Int) then atK s1 (0 + ((Int.toNat a8) * 1)) fun q_48 => asI .i64 (.c q_48) fun n_49 => if 0 ≤ a9 ∧ a9 < ((64 : Nat) : Int) then atK s1 (0 + ((Int.toNat a9) * 1)) fun q_50 => asI .i64 (.c q_50) fun n_51 => some ((decide (n_49 ≥ n_51)), h_42) else none else none) false h_42 fun b_52 h_53 => if b_52 = true then some (.ret, (jacquardlaw9_keeps_x3_0 false h_53)) else some (.normal, (jacquardlaw9_keeps_s3 a8 (G.wrap .i64 (a9 + 1)) s0 s1 h_53)) else none else some ((.exit 6), (jacquardlaw9_keeps_x3_7 a8 s0 s1 h_42)) else none := by kernel_rfl
theorem jacquardlaw9_keeps_e3_0 (C : CallF) (L : LoopF) (G : Glo) (b4 : Bool) (h : AHeap) :
    (jacquardlaw9_keeps_k10 C L G) .ret (jacquardlaw9_keeps_x3_0 b4 h) =
    some (.ret, (jacquardlaw9_keeps_x4_0 b4 h)) := by kernel_rfl
theorem jacquardlaw9_keeps_e3_7 (C : CallF) (L : LoopF) (G : Glo) (a8 : Int) (s0 : List Cell) (s1 : List Cell) (h : AHeap) :
    (jacquardlaw9_keeps_k10 C L G) (.exit 6) (jacquardlaw9_keeps_x3_7 a8 s0 s1 h) =
    some (.normal, (jacquardlaw9_keeps_s4 (G.wrap .i64 (a8 + 1)) s0 s1 h)) := by kernel_rfl
theorem jacquardlaw9_keeps_r4 (C : CallF) (L : LoopF) (G : Glo) (a8 : Int) (s0 : List Cell) (s1 : List Cell) (h : AHeap) :
    jacquardlaw9_keeps_F4 C L G (jacquardlaw9_keeps_s4 a8 s0 s1 h) =
    if 0 = 0 ∧ s0.length = 65 then c1 (C 14 [(.agg s0)] h) fun y_40 h_39 => asI .i64 y_40 fun n_41 => if (decide (a8 < n_41)) = true then (L (jacquardlaw9_keeps_F3 C L G) (jacquardlaw9_keeps_s3 a8 0 s0 s1 h_39)).bind fun p_54 => (jacquardlaw9_keeps_k10 C L G) p_54.1 p_54.2 else some ((.exit 4), (jacquardlaw9_keeps_x4_5 h_39)) else none := by kernel_rfl
theorem jacquardlaw9_keeps_e4_0 (C : CallF) (L : LoopF) (G : Glo) (h0 : AHeap) (b4 : Bool) (h : AHeap) :
    (jacquardlaw9_keeps_k7 C L G h0) .ret (jacquardlaw9_keeps_x4_0 b4 h) =
    some ([(.c (.bool b4))], h) := by kernel_rfl
theorem jacquardlaw9_keeps_e4_5 (C : CallF) (L : LoopF) (G : Glo) (h0 : AHeap) (h : AHeap) :
    (jacquardlaw9_keeps_k7 C L G h0) (.exit 4) (jacquardlaw9_keeps_x4_5 h) =
    some ([(.c (.bool true))], h) := by kernel_rfl
theorem jacquardlaw9_keeps_e2_3 (C : CallF) (L : LoopF) (G : Glo) (h0 : AHeap) (s0 : List Cell) (s1 : List Cell) (h : AHeap) :
    (jacquardlaw9_keeps_k5 C L G h0) (.exit 2) (jacquardlaw9_keeps_x2_3 s0 s1 h) =
    (L (jacquardlaw9_keeps_F4 C L G) (jacquardlaw9_keeps_s4 0 s0 s1 h)).bind fun p_55 => (jacquardlaw9_keeps_k7 C L G h0) p_55.1 p_55.2 := by kernel_rfl
theorem jacquardlaw9_keeps_e1_1 (C : CallF) (L : LoopF) (G : Glo) (h0 : AHeap) (x1 : Cell) (s0 : List Cell) (s1 : List Cell) (h : AHeap) :
    (jacquardlaw9_keeps_k3 C L G h0) (.exit 0) (jacquardlaw9_keeps_x1_1 x1 s0 s1 h) =
    (L (jacquardlaw9_keeps_F2 C L G) (jacquardlaw9_keeps_s2 x1 0 s0 s1 h)).bind fun p_56 => (jacquardlaw9_keeps_k5 C L G h0) p_56.1 p_56.2 := by kernel_rfl
set_option maxRecDepth 100000 in
theorem jacquardlaw9_keeps_eq (C : CallF) (L : LoopF) (G : Glo) (l0 : List Cell) (x1 : Cell) (h0 : AHeap) :
    jacquardlaw9_keeps.body C L G [(.agg l0), (.c x1)] h0 =
    lenK x1 fun n_1 => if 0 = 0 ∧ l0.length = 65 then c1 (C 14 [(.agg l0)] h0) fun y_3 h_2 => asI .i64 y_3 fun n_4 => if (n_1 != n_4) = true then some ([(.c (.bool false))], h_2) else (L (jacquardlaw9_keeps_F1 C L G) (jacquardlaw9_keeps_s1 x1 0 l0 (List.replicate 64 (Cell.int .i64 0)) h_2)).bind fun p_57 => (jacquardlaw9_keeps_k3 C L G h0) p_57.1 p_57.2 else none := by kernel_rfl

/- jacquard/jacquardlaw9.less: 28 -/
set_option maxRecDepth 100000 in
theorem jacquardlaw9_less_eq (C : CallF) (L : LoopF) (G : Glo) (x0 : Cell) (a1 : Int) (a2 : Int) (h0 : AHeap) :
    jacquardlaw9_less.body C L G [(.c x0), (.c (.int .i64 a1)), (.c (.int .i64 a2))] h0 =
    lenK x0 fun n_1 => scK (decide (a1 < n_1)) true (lenK x0 fun n_2 => some ((decide (a2 < n_2)), h0)) false h0 fun b_3 h_4 => scK b_3 true (idxSK 1 x0 a1 fun k_5 N_6 o_7 => rdH h_4 k_5 N_6 fun l_8 => atK l_8 o_7 fun q_9 => asI .i64 (.c q_9) fun n_10 => idxSK 1 x0 a2 fun k_11 N_12 o_13 => rdH h_4 k_11 N_12 fun l_14 => atK l_14 o_13 fun q_15 => asI .i64 (.c q_15) fun n_16 => some ((n_10 != n_16), h_4)) false h_4 fun b_17 h_18 => if b_17 = true then idxSK 1 x0 a1 fun k_19 N_20 o_21 => rdH h_18 k_19 N_20 fun l_22 => atK l_22 o_21 fun q_23 => asI .i64 (.c q_23) fun n_24 => idxSK 1 x0 a2 fun k_25 N_26 o_27 => rdH h_18 k_25 N_26 fun l_28 => atK l_28 o_27 fun q_29 => asI .i64 (.c q_29) fun n_30 => some ([(.c (.bool (decide (n_24 < n_30))))], h_18) else some ([(.c (.bool (decide (a1 < a2))))], h_18) := by kernel_rfl

/- jacquard/jacquardlaw9.map0: 30 -/
set_option maxRecDepth 100000 in
theorem jacquardlaw9_map0_eq (C : CallF) (L : LoopF) (G : Glo) (a0 : Int) (h0 : AHeap) :
    jacquardlaw9_map0.body C L G [(.c (.int .i64 a0))] h0 =
    if (a0 == 0) = true then some ([(.c (.int .i64 1))], h0) else some ([(.c (.int .i64 0))], h0) := by kernel_rfl

/- jacquard/jacquardlaw9.all: 31 -/
def jacquardlaw9_all_k2 (C : CallF) (L : LoopF) (G : Glo) (h0 : AHeap) : Ex → St → Option (List AV × AHeap) :=
  kSeq (fun st => jacquardlaw9_all_p1.exec C L G st (jacquardlaw9_all.fin G h0)) (jacquardlaw9_all.fin G h0)
def jacquardlaw9_all_k3 (C : CallF) (L : LoopF) (G : Glo) (h0 : AHeap) : Ex → St → Option (List AV × AHeap) :=
  kBlk 0 (jacquardlaw9_all_k2 C L G h0)
def jacquardlaw9_all_s4 (x1 : Cell) (x2 : Cell) (a3 : Int) (a9 : Int) (s0 : List Cell) (h : AHeap) : St := ⟨[.top, .v (.c x1), .v (.c x2), .v (.c (.int .i64 a3)), .loc 0 0, .top, .top, .top, .top, .v (.c (.int .i64 a9)), .top, .top, .top, .top, .top, .top, .top, .top, .top, .top, .top, .top, .top, .top, .top, .top, .top, .top, .top, .top, .top, .top, .top, .top, .top, .top, .top, .top, .top, .top, .top, .top, .top, .top, .top, .top, .top, .top, .top, .top, .top, .top, .top, .top, .top, .top, .top, .top, .top, .top, .top, .top, .top, .top, .top, .top, .top, .top, .top, .top, .top, .top, .top, .top, .top, .top, .top, .top, .top, .top, .top, .top, .top, .top, .top, .top, .top, .top, .top, .top, .top, .top, .top, .top], [some s0], h⟩
def jacquardlaw9_all_F4 (C : CallF) (L : LoopF) (G : Glo) : St → Option (Ex × St) :=
  roundF (fun st f => jacquardlaw9_all_b4.exec C L G st f) [1, 2, 3, 4, 9] [0] [(1, [2], [])]
def jacquardlaw9_all_k4 (C : CallF) (L : LoopF) (G : Glo) : Ex → St → Option (Ex × St) :=
  kSeq (fun st => jacquardlaw9_all_p2.exec C L G st (kLoop [1, 2, 3, 4, 9] [0] [(1, [2], [])])) (kLoop [1, 2, 3, 4, 9] [0] [(1, [2], [])])
def jacquardlaw9_all_k5 (C : CallF) (L : LoopF) (G : Glo) : Ex → St → Option (Ex × St) :=
  kBlk 1 (jacquardlaw9_all_k4 C L G)
def jacquardlaw9_all_k6 (C : CallF) (L : LoopF) (G : Glo) : Ex → St → Option (Ex × St) :=
  kSeq (fun st => jacquardlaw9_all_p3.exec C L G st (jacquardlaw9_all_k5 C L G)) (jacquardlaw9_all_k5 C L G)
def jacquardlaw9_all_k7 (C : CallF) (L : LoopF) (G : Glo) : Ex → St → Option (Ex × St) :=
  kBlk 2 (jacquardlaw9_all_k6 C L G)
def jacquardlaw9_all_s1 (x1 : Cell) (x2 : Cell) (a3 : Int) (a9 : Int) (b10 : Bool) (a11 : Int) (s0 : List Cell) (h : AHeap) : St := ⟨[.top, .v (.c x1), .v (.c x2), .v (.c (.int .i64 a3)), .loc 0 0, .top, .top, .top, .top, .v (.c (.int .i64 a9)), .v (.c (.bool b10)), .v (.c (.int .i64 a11)), .top, .top, .top, .top, .top, .top, .top, .top, .top, .top, .top, .top, .top, .top, .top, .top, .top, .top, .top, .top, .top, .top, .top, .top, .top, .top, .top, .top, .top, .top, .top, .top, .top, .top, .top, .top, .top, .top, .top, .top, .top, .top, .top, .top, .top, .top, .top, .top, .top, .top, .top, .top, .top, .top, .top, .top, .top, .top, .top, .top, .top, .top, .top, .top, .top, .top, .top, .top, .top, .top, .top, .top, .top, .top, .top, .top, .top, .top, .top, .top, .top, .top], [some s0], h⟩
def jacquardlaw9_all_F1 (C : CallF) (L : LoopF) (G : Glo) : St → Option (Ex × St) :=
  roundF (fun st f => jacquardlaw9_all_b1.exec C L G st f) [1, 2, 3, 4, 9, 10, 11] [0] [(3, [1, 2, 3, 4, 9, 10], [0])]
def jacquardlaw9_all_x1_3 (x1 : Cell) (x2 : Cell) (a3 : Int) (a9 : Int) (b10 : Bool) (s0 : List Cell) (h : AHeap) : St := ⟨[.top, .v (.c x1), .v (.c x2), .v (.c (.int .i64 a3)), .loc 0 0, .top, .top, .top, .top, .v (.c (.int .i64 a9)), .v (.c (.bool b10)), .top, .top, .top, .top, .top, .top, .top, .top, .top, .top, .top, .top, .top, .top, .top, .top, .top, .top, .top, .top, .top, .top, .top, .top, .top, .top, .top, .top, .top, .top, .top, .top, .top, .top, .top, .top, .top, .top, .top, .top, .top, .top, .top, .top, .top, .top, .top, .top, .top, .top, .top, .top, .top, .top, .top, .top, .top, .top, .top, .top, .top, .top, .top, .top, .top, .top, .top, .top, .top, .top, .top, .top, .top, .top, .top, .top, .top, .top, .top, .top, .top, .top, .top], [some s0], h⟩
def jacquardlaw9_all_k8 (C : CallF) (L : LoopF) (G : Glo) : Ex → St → Option (Ex × St) :=
  kSeq (fun st => jacquardlaw9_all_p4.exec C L G st (jacquardlaw9_all_k5 C L G)) (jacquardlaw9_all_k5 C L G)
def jacquardlaw9_all_k9 (C : CallF) (L : LoopF) (G : Glo) : Ex → St → Option (Ex × St) :=
  kBlk 4 (jacquardlaw9_all_k8 C L G)
def jacquardlaw9_all_s3 (x1 : Cell) (x2 : Cell) (a3 : Int) (a9 : Int) (b10 : Bool) (a12 : Int) (s0 : List Cell) (h : AHeap) : St := ⟨[.top, .v (.c x1), .v (.c x2), .v (.c (.int .i64 a3)), .loc 0 0, .top, .top, .top, .top, .v (.c (.int .i64 a9)), .v (.c (.bool b10)), .top, .v (.c (.int .i64 a12)), .top, .top, .top, .top, .top, .top, .top, .top, .top, .top, .top, .top, .top, .top, .top, .top, .top, .top, .top, .top, .top, .top, .top, .top, .top, .top, .top, .top, .top, .top, .top, .top, .top, .top, .top, .top, .top, .top, .top, .top, .top, .top, .top, .top, .top, .top, .top, .top, .top, .top, .top, .top, .top, .top, .top, .top, .top, .top, .top, .top, .top, .top, .top, .top, .top, .top, .top, .top, .top, .top, .top, .top, .top, .top, .top, .top, .top, .top, .top, .top, .top], [some s0], h⟩
def jacquardlaw9_all_F3 (C : CallF) (L : LoopF) (G : Glo) : St → Option (Ex × St) :=
  roundF (fun st f => jacquardlaw9_all_b3.exec C L G st f) [1, 2, 3, 4, 9, 10, 12] [0] [(5, [1, 2, 3, 4, 9, 10], [0])]
def jacquardlaw9_all_k10 (C : CallF) (L : LoopF) (G : Glo) : Ex → St → Option (Ex × St) :=
  kSeq (fun st => jacquardlaw9_all_p5.exec C L G st (kLoop [1, 2, 3, 4, 9, 10, 12] [0] [(5, [1, 2, 3, 4, 9, 10], [0])])) (kLoop [1, 2, 3, 4, 9, 10, 12] [0] [(5, [1, 2, 3, 4, 9, 10], [0])])
def jacquardlaw9_all_k11 (C : CallF) (L : LoopF) (G : Glo) : Ex → St → Option (Ex × St) :=
  kBlk 5 (jacquardlaw9_all_k10 C L G)
def jacquardlaw9_all_k12 (C : CallF) (L : LoopF) (G : Glo) : Ex → St → Option (Ex × St) :=
  kSeq (fun st => jacquardlaw9_all_p6.exec C L G st (jacquardlaw9_all_k11 C L G)) (jacquardlaw9_all_k11 C L G)
def jacquardlaw9_all_k13 (C : CallF) (L : LoopF) (G : Glo) : Ex → St → Option (Ex × St) :=
  kBlk 6 (jacquardlaw9_all_k12 C L G)
def jacquardlaw9_all_s2 (x1 : Cell) (x2 : Cell) (a3 : Int) (a9 : Int) (b10 : Bool) (a12 : Int) (b13 : Bool) (a14 : Int) (s0 : List Cell) (h : AHeap) : St := ⟨[.top, .v (.c x1), .v (.c x2), .v (.c (.int .i64 a3)), .loc 0 0, .top, .top, .top, .top, .v (.c (.int .i64 a9)), .v (.c (.bool b10)), .top, .v (.c (.int .i64 a12)), .v (.c (.bool b13)), .v (.c (.int .i64 a14)), .top, .top, .top, .top, .top, .top, .top, .top, .top, .top, .top, .top, .top, .top, .top, .top, .top, .top, .top, .top, .top, .top, .top, .top, .top, .top, .top, .top, .top, .top, .top, .top, .top, .top, .top, .top, .top, .top, .top, .top, .top, .top, .top, .top, .top, .top, .top, .top, .top, .top, .top, .top, .top, .top, .top, .top, .top, .top, .top, .top, .top, .top, .top, .top, .top, .top, .top, .top, .top, .top, .top, .top, .top, .top, .top, .top, .top, .top, .top], [some s0], h⟩
def jacquardlaw9_all_F2 (C : CallF) (L : LoopF) (G : Glo) : St → Option (Ex × St) :=
  roundF (fun st f => jacquardlaw9_all_b2.exec C L G st f) [1, 2, 3, 4, 9, 10, 12, 13, 14] [0] [(7, [1, 2, 3, 4, 9, 10, 12, 13], [0])]
def jacquardlaw9_all_x2_7 (x1 : Cell) (x2 : Cell) (a3 : Int) (a9 : Int) (b10 : Bool) (a12 : Int) (b13 : Bool) (s0 : List Cell) (h : AHeap) : St := ⟨[.top, .v (.c x1), .v (.c x2), .v (.c (.int .i64 a3)), .loc 0 0, .top, .top, .top, .top, .v (.c (.int .i64 a9)), .v (.c (.bool b10)), .top, .v (.c (.int .i64 a12)), .v (.c (.bool b13)), .top, .top, .top, .top, .top, .top, .top, .top, .top, .top, .top, .top, .top, .top, .top, .top, .top, .top, .top, .top, .top, .top, .top, .top, .top, .top, .top, .top, .top, .top, .top, .top, .top, .top, .top, .top, .top, .top, .top, .top, .top, .top, .top, .top, .top, .top, .top, .top, .top, .top, .top, .top, .top, .top, .top, .top, .top, .top, .top, .top, .top, .top, .top, .top, .top, .top, .top, .top, .top, .top, .top, .top, .top, .top, .top, .top, .top, .top, .top, .top], [some s0], h⟩
def jacquardlaw9_all_x3_5 (x1 : Cell) (x2 : Cell) (a3 : Int) (a9 : Int) (b10 : Bool) (s0 : List Cell) (h : AHeap) : St := ⟨[.top, .v (.c x1), .v (.c x2), .v (.c (.int .i64 a3)), .loc 0 0, .top, .top, .top, .top, .v (.c (.int .i64 a9)), .v (.c (.bool b10)), .top, .top, .top, .top, .top, .top, .top, .top, .top, .top, .top, .top, .top, .top, .top, .top, .top, .top, .top, .top, .top, .top, .top, .top, .top, .top, .top, .top, .top, .top, .top, .top, .top, .top, .top, .top, .top, .top, .top, .top, .top, .top, .top, .top, .top, .top, .top, .top, .top, .top, .top, .top, .top, .top, .top, .top, .top, .top, .top, .top, .top, .top, .top, .top, .top, .top, .top, .top, .top, .top, .top, .top, .top, .top, .top, .top, .top, .top, .top, .top, .top, .top, .top], [some s0], h⟩
def jacquardlaw9_all_x4_1 (x2 : Cell) (h : AHeap) : St := ⟨[.top, .top, .v (.c x2), .top, .top, .top, .top, .top, .top, .top, .top, .top, .top, .top, .top, .top, .top, .top, .top, .top, .top, .top, .top, .top, .top, .top, .top, .top, .top, .top, .top, .top, .top, .top, .top, .top, .top, .top, .top, .top, .top, .top, .top, .top, .top, .top, .top, .top, .top, .top, .top, .top, .top, .top, .top, .top, .top, .top, .top, .top, .top, .top, .top, .top, .top, .top, .top, .top, .top, .top, .top, .top, .top, .top, .top, .top, .top, .top, .top, .top, .top, .top, .top, .top, .top, .top, .top, .top, .top, .top, .top, .top, .top, .top], [none], h⟩
theorem jacquardlaw9_all_r1 (C : CallF) (L : LoopF) (G : Glo) (x1 : Cell) (x2 : Cell) (a3 : Int) (a9 : Int) (b10 : Bool) (a11 : Int) (s0 : List Cell) (h : AHeap) :
    jacquardlaw9_all_F1 C L G (jacquardlaw9_all_s1 x1 x2 a3 a9 b10 a11 s0 h) =
    lenK x1 fun n_14 => if (decide (a11 < n_14)) = true then scK b10 true (idxSK 1 x1 a11 fun k_15 N_16 o_17 => rdH h k_15 N_16 fun l_18 => atK l_18 o_17 fun q_19 => asI .i64 (.c q_19) fun n_20 => some ((n_20 != a9), h)) false h fun b_21 h_22 => some (.normal, (jacquardlaw9_all_s1 x1 x2 a3 a9 b_21 (G.wrap .i64 (a11 + 1)) s0 h_22)) else some ((.exit 2), (jacquardlaw9_all_x1_3 x1 x2 a3 a9 b10 s0 h)) := by kernel_rfl
theorem jacquardlaw9_all_r2 (C : CallF) (L : LoopF) (G : Glo) (x1 : Cell) (x2 : Cell) (a3 : Int) (a9 : Int) (b10 : Bool) (a12 : Int) (b13 : Bool) (a14 : Int) (s0 : List Cell) (h : AHeap) :
    jacquardlaw9_all_F2 C L G (jacquardlaw9_all_s2 x1 x2 a3 a9 b10 a12 b13 a14 s0 h) =
    lenK x1 fun n_29 => if (decide (a14 < n_29)) = true then scK b13 false (idxSK 1 x1 a14 fun k_30 N_31 o_32 => rdH h k_30 N_31 fun l_33 => atK l_33 o_32 fun q_34 => asI .i64 (.c q_34) fun n_35 => some ((n_35 == a12), h)) true h fun b_36 h_37 => some (.normal, (jacquardlaw9_all_s2 x1 x2 a3 a9 b10 a12 b_36 (G.wrap .i64 (a14 + 1)) s0 h_37)) else some ((.exit 6), (jacquardlaw9_all_x2_7 x1 x2 a3 a9 b10 a12 b13 s0 h)) := by kernel_rfl
theorem jacquardlaw9_all_e2_7 (C : CallF) (L : LoopF) (G : Glo) (x1 : Cell) (x2 : Cell) (a3 : Int) (a9 : Int) (b10 : Bool) (a12 : Int) (b13 : Bool) (s0 : List Cell) (h : AHeap) :
    (jacquardlaw9_all_k13 C L G) (.exit 6) (jacquardlaw9_all_x2_7 x1 x2 a3 a9 b10 a12 b13 s0 h) =
    scK b10 true (some (b13, h)) false h fun b_38 h_39 => some (.normal, (jacquardlaw9_all_s3 x1 x2 a3 a9 b_38 (G.wrap .i64 (a12 + 1)) s0 h_39)) := by kernel_rfl
theorem jacquardlaw9_all_r3 (C : CallF) (L : LoopF) (G : Glo) (x1 : Cell) (x2 : Cell) (a3 : Int) (a9 : Int) (b10 : Bool) (a12 : Int) (s0 : List Cell) (h : AHeap) :
    jacquardlaw9_all_F3 C L G (jacquardlaw9_all_s3 x1 x2 a3 a9 b10 a12 s0 h) =
    if 0 = 0 ∧ s0.length = 65 then c1 (C 14 [(.agg s0)] h) fun y_24 h_23 => asI .i64 y_24 fun n_25 => if (decide (a12 < n_25)) = true then if 0 = 0 ∧ s0.length = 65 then c1 (C 3 [(.agg s0), (.c (.int .i64 a12)), (.c (.int .i64 a9))] h_23) fun y_27 h_26 => asB y_27 fun b_28 => if (!b_28) = true then some (.normal, (jacquardlaw9_all_s3 x1 x2 a3 a9 b10 (G.wrap .i64 (a12 + 1)) s0 h_26)) else (L (jacquardlaw9_all_F2 C L G) (jacquardlaw9_all_s2 x1 x2 a3 a9 b10 a12 false 0 s0 h_26)).bind fun p_40 => (jacquardlaw9_all_k13 C L G) p_40.1 p_40.2 else none else some ((.exit 4), (jacquardlaw9_all_x3_5 x1 x2 a3 a9 b10 s0 h_23)) else none := by kernel_rfl
theorem jacquardlaw9_all_e3_5 (C : CallF) (L : LoopF) (G : Glo) (x1 : Cell) (x2 : Cell) (a3 : Int) (a9 : Int) (b10 : Bool) (s0 : List Cell) (h : AHeap) :
    (jacquardlaw9_all_k9 C L G) (.exit 4) (jacquardlaw9_all_x3_5 x1 x2 a3 a9 b10 s0 h) =
    if b10 = true then if 0 = 0 ∧ s0.length = 65 then if ([] : List Cell).length = 0 * 1 then (slCells (h ++ [some (Blk.mk true 1 ([] : List Cell))]) 1 x1).bind fun l_43 => appK 1 8 (.sl h.length (([] : List Cell).length) 0 0) l_43 (h ++ [some (Blk.mk true 1 ([] : List Cell))]) fun x_41 h_42 => if (splice [Cell.int .i64 0] 0 ([(.int .i64 a9)] : List Cell)).length = 1 * 1 then appK 1 8 x_41 (splice [Cell.int .i64 0] 0 ([(.int .i64 a9)] : List Cell)) h_42 fun x_44 h_45 => c1 (C 31 [(.agg s0), (.c x_44), (.c x2), (.c (.int .i64 a3))] h_45) fun y_47 h_46 => asC y_47 fun x_48 => some (.normal, (jacquardlaw9_all_s4 x1 x_48 a3 (G.wrap .i64 (a9 + 1)) s0 h_46)) else none else none else none else some (.normal, (jacquardlaw9_all_s4 x1 x2 a3 (G.wrap .i64 (a9 + 1)) s0 h)) := by kernel_rfl
theorem jacquardlaw9_all_e1_3 (C : CallF) (L : LoopF) (G : Glo) (x1 : Cell) (x2 : Cell) (a3 : Int) (a9 : Int) (b10 : Bool) (s0 : List Cell) (h : AHeap) :
    (jacquardlaw9_all_k7 C L G) (.exit 2) (jacquardlaw9_all_x1_3 x1 x2 a3 a9 b10 s0 h) =
    (L (jacquardlaw9_all_F3 C L G) (jacquardlaw9_all_s3 x1 x2 a3 a9 b10 0 s0 h)).bind fun p_49 => (jacquardlaw9_all_k9 C L G) p_49.1 p_49.2 := by kernel_rfl
theorem jacquardlaw9_all_r4 (C : CallF) (L : LoopF) (G : Glo) (x1 : Cell) (x2 : Cell) (a3 : Int) (a9 : Int) (s0 : List Cell) (h : AHeap) :
    jacquardlaw9_all_F4 C L G (jacquardlaw9_all_s4 x1 x2 a3 a9 s0 h) =
    if 0 = 0 ∧ s0.length = 65 then c1 (C 14 [(.agg s0)] h) fun y_12 h_11 => asI .i64 y_12 fun n_13 => if (decide (a9 < n_13)) = true then (L (jacquardlaw9_all_F1 C L G) (jacquardlaw9_all_s1 x1 x2 a3 a9 true 0 s0 h_11)).bind fun p_50 => (jacquardlaw9_all_k7 C L G) p_50.1 p_50.2 else some ((.exit 0), (jacquardlaw9_all_x4_1 x2 h_11)) else none := by kernel_rfl
theorem jacquardlaw9_all_e4_1 (C : CallF) (L : LoopF) (G : Glo) (h0 : AHeap) (x2 : Cell) (h : AHeap) :
    (jacquardlaw9_all_k3 C L G h0) (.exit 0) (jacquardlaw9_all_x4_1 x2 h) =
    some ([(.c x2)], h) := by kernel_rfl
set_option maxRecDepth 100000 in
theorem jacquardlaw9_all_eq (C : CallF) (L : LoopF) (G : Glo) (l0 : List Cell) (x1 : Cell) (x2 : Cell) (a3 : Int) (h0 : AHeap) :
    jacquardlaw9_all.body C L G [(.agg l0), (.c x1), (.c x2), (.c (.int .i64 a3))] h0 =
    lenK x2 fun n_1 => if (decide (n_1 ≥ a3)) = true then some ([(.c x2)], h0) else lenK x1 fun n_2 => if 0 = 0 ∧ l0.length = 65 then c1 (C 14 [(.agg l0)] h0) fun y_4 h_3 => asI .i64 y_4 fun n_5 => if (n_2 == n_5) = true then if ([] : List Cell).length = 0 * 1 then (slCells (h_3 ++ [some (Blk.mk true 1 ([] : List Cell))]) 1 x1).bind fun l_8 => appK 1 8 (.sl h_3.length (([] : List Cell).length) 0 0) l_8 (h_3 ++ [some (Blk.mk true 1 ([] : List Cell))]) fun x_6 h_7 => if (splice [Cell.nils] 0 ([x_6] : List Cell)).length = 1 * 1 then appK 1 24 x2 (splice [Cell.nils] 0 ([x_6] : List Cell)) h_7 fun x_9 h_10 => some ([(.c x_9)], h_10) else none else none else (L (jacquardlaw9_all_F4 C L G) (jacquardlaw9_all_s4 x1 x2 a3 0 l0 h_3)).bind fun p_51 => (jacquardlaw9_all_k3 C L G h0) p_51.1 p_51.2 else none := by kernel_rfl

/- jacquard/jacquardlaw9.OrderFewer: 245 -/
def jacquardlaw9_OrderFewer_k2 (C : CallF) (L : LoopF) (G : Glo) (h0 : AHeap) : Ex → St → Option (List AV × AHeap) :=
  kSeq (fun st => jacquardlaw9_OrderFewer_p1.exec C L G st (jacquardlaw9_OrderFewer.fin G h0)) (jacquardlaw9_OrderFewer.fin G h0)
def jacquardlaw9_OrderFewer_k3 (C : CallF) (L : LoopF) (G : Glo) (h0 : AHeap) : Ex → St → Option (List AV × AHeap) :=
  kBlk 0 (jacquardlaw9_OrderFewer_k2 C L G h0)
def jacquardlaw9_OrderFewer_s1 (a0 : Int) (a2 : Int) (a3 : Int) (x12 : Cell) (a13 : Int) (s0 : List Cell) (s2 : List Cell) (h : AHeap) : St := ⟨[.v (.c (.int .i64 a0)), .top, .v (.c (.int .i64 a2)), .v (.c (.int .i64 a3)), .top, .top, .top, .top, .top, .loc 0 0, .top, .loc 2 0, .v (.c x12), .v (.c (.int .i64 a13)), .top, .top, .top, .top, .top, .top, .top, .top, .top, .top, .top, .top, .top, .top, .top, .top, .top, .top, .top, .top, .top, .top, .top, .top, .top, .top, .top, .top, .top, .top, .top, .top, .top, .top, .top, .top, .top, .top, .top, .top, .top, .top, .top, .top, .top, .top, .top, .top, .top, .top, .top, .top, .top, .top, .top, .top, .top, .top, .top, .top, .top, .top, .top, .top, .top, .top, .top, .top, .top, .top, .top, .top, .top, .top, .top], [some s0, none, some s2], h⟩
def jacquardlaw9_OrderFewer_F1 (C : CallF) (L : LoopF) (G : Glo) : St → Option (Ex × St) :=
  roundF (fun st f => jacquardlaw9_OrderFewer_b1.exec C L G st f) [0, 2, 3, 9, 11, 12, 13] [0, 2] [(0, [8], []), (1, [0, 2, 3, 9, 11, 12], [0, 2])]
def jacquardlaw9_OrderFewer_x1_0 (b8 : Bool) (h : AHeap) : St := ⟨[.top, .top, .top, .top, .top, .top, .top, .top, .v (.c (.bool b8)), .top, .top, .top, .top, .top, .top, .top, .top, .top, .top, .top, .top, .top, .top, .top, .top, .top, .top, .top, .top, .top, .top, .top, .top, .top, .top, .top, .top, .top, .top, .top, .top, .top, .top, .top, .top, .top, .top, .top, .top, .top, .top, .top, .top, .top, .top, .top, .top, .top, .top, .top, .top, .top, .top, .top, .top, .top, .top, .top, .top, .top, .top, .top, .top, .top, .top, .top, .top, .top, .top, .top, .top, .top, .top, .top, .top, .top, .top, .top, .top], [none, none, none], h⟩
def jacquardlaw9_OrderFewer_x1_1 (a0 : Int) (a2 : Int) (a3 : Int) (x12 : Cell) (s0 : List Cell) (s2 : List Cell) (h : AHeap) : St := ⟨[.v (.c (.int .i64 a0)), .top, .v (.c (.int .i64 a2)), .v (.c (.int .i64 a3)), .top, .top, .top, .top, .top, .loc 0 0, .top, .loc 2 0, .v (.c x12), .top, .top, .top, .top, .top, .top, .top, .top, .top, .top, .top, .top, .top, .top, .top, .top, .top, .top, .top, .top, .top, .top, .top, .top, .top, .top, .top, .top, .top, .top, .top, .top, .top, .top, .top, .top, .top, .top, .top, .top, .top, .top, .top, .top, .top, .top, .top, .top, .top, .top, .top, .top, .top, .top, .top, .top, .top, .top, .top, .top, .top, .top, .top, .top, .top, .top, .top, .top, .top, .top, .top, .top, .top, .top, .top, .top], [some s0, none, some s2], h⟩
theorem jacquardlaw9_OrderFewer_r1 (C : CallF) (L : LoopF) (G : Glo) (a0 : Int) (a2 : Int) (a3 : Int) (x12 : Cell) (a13 : Int) (s0 : List Cell) (s2 : List Cell) (h : AHeap) :
    jacquardlaw9_OrderFewer_F1 C L G (jacquardlaw9_OrderFewer_s1 a0 a2 a3 x12 a13 s0 s2 h) =
    lenK x12 fun n_13 => if (decide (a13 < n_13)) = true then if 0 = 0 ∧ s0.length = 65 then idxSK 1 x12 a13 fun k_14 N_15 o_16 => rdH h k_14 N_15 fun l_17 => atK l_17 o_16 fun q_18 => c1 (qh h (C 22 [(.agg s0), (.c q_18)] h)) fun y_20 h_19 => asB y_20 fun b_21 => if (!b_21) = true then some (.ret, (jacquardlaw9_OrderFewer_x1_0 false h)) else some (.normal, (jacquardlaw9_OrderFewer_s1 a0 a2 a3 x12 (G.wrap .i64 (a13 + 1)) s0 s2 h)) else none else some ((.exit 0), (jacquardlaw9_OrderFewer_x1_1 a0 a2 a3 x12 s0 s2 h)) := by kernel_rfl
theorem jacquardlaw9_OrderFewer_e1_0 (C : CallF) (L : LoopF) (G : Glo) (h0 : AHeap) (b8 : Bool) (h : AHeap) :
    (jacquardlaw9_OrderFewer_k3 C L G h0) .ret (jacquardlaw9_OrderFewer_x1_0 b8 h) =
    some ([(.c (.bool b8))], h) := by kernel_rfl
theorem jacquardlaw9_OrderFewer_e1_1 (C : CallF) (L : LoopF) (G : Glo) (h0 : AHeap) (a0 : Int) (a2 : Int) (a3 : Int) (x12 : Cell) (s0 : List Cell) (s2 : List Cell) (h : AHeap) :
    (jacquardlaw9_OrderFewer_k3 C L G h0) (.exit 0) (jacquardlaw9_OrderFewer_x1_1 a0 a2 a3 x12 s0 s2 h) =
    if 0 = 0 ∧ s2.length = 65 then c1 (qh h (C 23 [(.agg s2), (.c (.int .i64 1000))] h)) fun y_23 h_22 => asI .i64 y_23 fun n_24 => if 0 = 0 ∧ s0.length = 65 then if a0 = 0 then none else if a0 = 0 then none else c1 (qh h (C 10 [(.agg s0), (.c (.int .i64 (G.rem .i64 (G.band .i64 a3 255) a0))), (.c (.int .i64 (G.rem .i64 (G.band .i64 a2 255) a0)))] h)) fun y_26 h_25 => asA y_26 fun l_27 => c1 (qh h (C 23 [(.agg l_27), (.c (.int .i64 1000))] h)) fun y_29 h_28 => asI .i64 y_29 fun n_30 => lenK x12 fun n_31 => if 0 = 0 ∧ s0.length = 65 then c1 (qh h (C 23 [(.agg s0), (.c (.int .i64 1000))] h)) fun y_33 h_32 => asI .i64 y_33 fun n_34 => scK (decide (n_31 ≤ n_34)) true (if a0 = 0 then none else if a0 = 0 then none else scK ((G.rem .i64 (G.band .i64 a2 255) a0) == (G.rem .i64 (G.band .i64 a3 255) a0)) false (if 0 = 0 ∧ s0.length = 65 then c1 (qh h (C 23 [(.agg s0), (.c (.int .i64 1000))] h)) fun y_36 h_35 => asI .i64 y_36 fun n_37 => some (((G.wrap .i64 (n_24 + n_30)) == n_37), h) else none) true h fun b_38 h_39 => some (b_38, h_39)) false h fun b_40 h_41 => scK b_40 true (c1 (qh h_41 (C 24 [] h_41)) fun y_43 h_42 => asB y_43 fun b_44 => some (b_44, h_41)) false h_41 fun b_45 h_46 => some ([(.c (.bool b_45))], h_46) else none else none else none := by kernel_rfl
set_option maxRecDepth 100000 in
theorem jacquardlaw9_OrderFewer_eq (C : CallF) (L : LoopF) (G : Glo) (a0 : Int) (x1 : Cell) (a2 : Int) (a3 : Int) (h0 : AHeap) :
    jacquardlaw9_OrderFewer.body C L G [(.c (.int .i64 a0)), (.c x1), (.c (.int .i64 a2)), (.c (.int .i64 a3))] h0 =
    let v_1 : Int := (G.wrap .i64 ((G.rem .i64 (G.band .i64 a0 255) 6) + 1)); c2 (C 1 [(.c (.int .i64 v_1)), (.c x1)] h0) fun y_3 y_4 h_2 => asA y_3 fun l_5 => asA y_4 fun l_6 => if 0 = 0 ∧ ([Cell.int .i64 0] ++ List.replicate 64 (Cell.int .u64 0)).length = 65 ∧ l_5.length = 65 then if 0 = 0 ∧ ([Cell.int .i64 0] ++ List.replicate 64 (Cell.int .u64 0)).length = 65 ∧ l_6.length = 65 then if 0 = 0 ∧ l_5.length = 65 then if v_1 = 0 then none else if v_1 = 0 then none else c1 (qh h_2 (C 10 [(.agg l_5), (.c (.int .i64 (G.rem .i64 (G.band .i64 a2 255) v_1))), (.c (.int .i64 (G.rem .i64 (G.band .i64 a3 255) v_1)))] h_2)) fun y_8 h_7 => asA y_8 fun l_9 => if 0 = 0 ∧ ([Cell.int .i64 0] ++ List.replicate 64 (Cell.int .u64 0)).length = 65 ∧ l_9.length = 65 then if 0 = 0 ∧ l_9.length = 65 then c1 (C 21 [(.agg l_9), (.c (.int .i64 1000))] h_2) fun y_11 h_10 => asC y_11 fun x_12 => (L (jacquardlaw9_OrderFewer_F1 C L G) (jacquardlaw9_OrderFewer_s1 v_1 a2 a3 x_12 0 l_5 l_9 h_10)).bind fun p_47 => (jacquardlaw9_OrderFewer_k3 C L G h0) p_47.1 p_47.2 else none else none else none else none else none := by kernel_rfl

/- jacquard/jacquardlaw9.OrderEach: 246 -/
def jacquardlaw9_OrderEach_k2 (C : CallF) (L : LoopF) (G : Glo) (h0 : AHeap) : Ex → St → Option (List AV × AHeap) :=
  kSeq (fun st => jacquardlaw9_OrderEach_p1.exec C L G st (jacquardlaw9_OrderEach.fin G h0)) (jacquardlaw9_OrderEach.fin G h0)
def jacquardlaw9_OrderEach_k3 (C : CallF) (L : LoopF) (G : Glo) (h0 : AHeap) : Ex → St → Option (List AV × AHeap) :=
  kBlk 0 (jacquardlaw9_OrderEach_k2 C L G h0)
def jacquardlaw9_OrderEach_s2 (a0 : Int) (x7 : Cell) (a8 : Int) (s0 : List Cell) (h : AHeap) : St := ⟨[.v (.c (.int .i64 a0)), .top, .top, .top, .top, .loc 0 0, .top, .v (.c x7), .v (.c (.int .i64 a8)), .top, .top, .top, .top, .top, .top, .top, .top, .top, .top, .top, .top, .top, .top, .top, .top, .top, .top, .top, .top, .top, .top, .top, .top, .top, .top, .top, .top, .top, .top, .top, .top, .top, .top, .top, .top, .top, .top, .top, .top, .top, .top, .top, .top, .top, .top, .top, .top, .top, .top, .top, .top, .top, .top, .top, .top, .top, .top, .top, .top, .top, .top, .top, .top, .top, .top, .top, .top, .top, .top, .top, .top, .top, .top, .top, .top, .top, .top, .top, .top, .top, .top, .top, .top, .top, .top, .top], [some s0, none], h⟩
def jacquardlaw9_OrderEach_F2 (C : CallF) (L : LoopF) (G : Glo) : St → Option (Ex × St) :=
  roundF (fun st f => jacquardlaw9_OrderEach_b2.exec C L G st f) [0, 5, 7, 8] [0] [(0, [4], []), (1, [5, 7], [0])]
def jacquardlaw9_OrderEach_k4 (C : CallF) (L : LoopF) (G : Glo) : Ex → St → Option (Ex × St) :=
  kSeq (fun st => jacquardlaw9_OrderEach_p2.exec C L G st (kLoop [0, 5, 7, 8] [0] [(0, [4], []), (1, [5, 7], [0])])) (kLoop [0, 5, 7, 8] [0] [(0, [4], []), (1, [5, 7], [0])])
def jacquardlaw9_OrderEach_k5 (C : CallF) (L : LoopF) (G : Glo) : Ex → St → Option (Ex × St) :=
  kBlk 1 (jacquardlaw9_OrderEach_k4 C L G)
def jacquardlaw9_OrderEach_x2_0 (b4 : Bool) (h : AHeap) : St := ⟨[.top, .top, .top, .top, .v (.c (.bool b4)), .top, .top, .top, .top, .top, .top, .top, .top, .top, .top, .top, .top, .top, .top, .top, .top, .top, .top, .top, .top, .top, .top, .top, .top, .top, .top, .top, .top, .top, .top, .top, .top, .top, .top, .top, .top, .top, .top, .top, .top, .top, .top, .top, .top, .top, .top, .top, .top, .top, .top, .top, .top, .top, .top, .top, .top, .top, .top, .top, .top, .top, .top, .top, .top, .top, .top, .top, .top, .top, .top, .top, .top, .top, .top, .top, .top, .top, .top, .top, .top, .top, .top, .top, .top, .top, .top, .top, .top, .top, .top, .top], [none, none], h⟩
def jacquardlaw9_OrderEach_k6 (C : CallF) (L : LoopF) (G : Glo) : Ex → St → Option (Ex × St) :=
  kSeq (fun st => jacquardlaw9_OrderEach_p3.exec C L G st (jacquardlaw9_OrderEach_k5 C L G)) (jacquardlaw9_OrderEach_k5 C L G)
def jacquardlaw9_OrderEach_k7 (C : CallF) (L : LoopF) (G : Glo) : Ex → St → Option (Ex × St) :=
  kBlk 2 (jacquardlaw9_OrderEach_k6 C L G)
def jacquardlaw9_OrderEach_s1 (a0 : Int) (x7 : Cell) (a8 : Int) (a9 : Int) (s0 : List Cell) (h : AHeap) : St := ⟨[.v (.c (.int .i64 a0)), .top, .top, .top, .top, .loc 0 0, .top, .v (.c x7), .v (.c (.int .i64 a8)), .v (.c (.int .i64 a9)), .top, .top, .top, .top, .top, .top, .top, .top, .top, .top, .top, .top, .top, .top, .top, .top, .top, .top, .top, .top, .top, .top, .top, .top, .top, .top, .top, .top, .top, .top, .top, .top, .top, .top, .top, .top, .top, .top, .top, .top, .top, .top, .top, .top, .top, .top, .top, .top, .top, .top, .top, .top, .top, .top, .top, .top, .top, .top, .top, .top, .top, .top, .top, .top, .top, .top, .top, .top, .top, .top, .top, .top, .top, .top, .top, .top, .top, .top, .top, .top, .top, .top, .top, .top, .top, .top], [some s0, none], h⟩
def jacquardlaw9_OrderEach_F1 (C : CallF) (L : LoopF) (G : Glo) : St → Option (Ex × St) :=
  roundF (fun st f => jacquardlaw9_OrderEach_b1.exec C L G st f) [0, 5, 7, 8, 9] [0] [(3, [0, 5, 7, 8, 9], [0])]
def jacquardlaw9_OrderEach_x1_3 (a0 : Int) (x7 : Cell) (a8 : Int) (a9 : Int) (s0 : List Cell) (h : AHeap) : St := ⟨[.v (.c (.int .i64 a0)), .top, .top, .top, .top, .loc 0 0, .top, .v (.c x7), .v (.c (.int .i64 a8)), .v (.c (.int .i64 a9)), .top, .top, .top, .top, .top, .top, .top, .top, .top, .top, .top, .top, .top, .top, .top, .top, .top, .top, .top, .top, .top, .top, .top, .top, .top, .top, .top, .top, .top, .top, .top, .top, .top, .top, .top, .top, .top, .top, .top, .top, .top, .top, .top, .top, .top, .top, .top, .top, .top, .top, .top, .top, .top, .top, .top, .top, .top, .top, .top, .top, .top, .top, .top, .top, .top, .top, .top, .top, .top, .top, .top, .top, .top, .top, .top, .top, .top, .top, .top, .top, .top, .top, .top, .top, .top, .top], [some s0, none], h⟩
def jacquardlaw9_OrderEach_x2_1 (x7 : Cell) (s0 : List Cell) (h : AHeap) : St := ⟨[.top, .top, .top, .top, .top, .loc 0 0, .top, .v (.c x7), .top, .top, .top, .top, .top, .top, .top, .top, .top, .top, .top, .top, .top, .top, .top, .top, .top, .top, .top, .top, .top, .top, .top, .top, .top, .top, .top, .top, .top, .top, .top, .top, .top, .top, .top, .top, .top, .top, .top, .top, .top, .top, .top, .top, .top, .top, .top, .top, .top, .top, .top, .top, .top, .top, .top, .top, .top, .top, .top, .top, .top, .top, .top, .top, .top, .top, .top, .top, .top, .top, .top, .top, .top, .top, .top, .top, .top, .top, .top, .top, .top, .top, .top, .top, .top, .top, .top, .top], [some s0, none], h⟩
theorem jacquardlaw9_OrderEach_r1 (C : CallF) (L : LoopF) (G : Glo) (a0 : Int) (x7 : Cell) (a8 : Int) (a9 : Int) (s0 : List Cell) (h : AHeap) :
    jacquardlaw9_OrderEach_F1 C L G (jacquardlaw9_OrderEach_s1 a0 x7 a8 a9 s0 h) =
    scK (decide (a9 < a0)) true (idxSK 1 x7 a8 fun k_18 N_19 o_20 => rdH h k_18 N_19 fun l_21 => atK l_21 o_20 fun q_22 => idxSK 1 q_22 a9 fun k_23 N_24 o_25 => rdH h k_23 N_24 fun l_26 => atK l_26 o_25 fun q_27 => asI .i64 (.c q_27) fun n_28 => idxSK 1 x7 (G.wrap .i64 (a8 - 1)) fun k_29 N_30 o_31 => rdH h k_29 N_30 fun l_32 => atK l_32 o_31 fun q_33 => idxSK 1 q_33 a9 fun k_34 N_35 o_36 => rdH h k_34 N_35 fun l_37 => atK l_37 o_36 fun q_38 => asI .i64 (.c q_38) fun n_39 => some ((n_28 == n_39), h)) false h fun b_40 h_41 => if b_40 = true then some (.normal, (jacquardlaw9_OrderEach_s1 a0 x7 a8 (G.wrap .i64 (a9 + 1)) s0 h_41)) else some ((.exit 2), (jacquardlaw9_OrderEach_x1_3 a0 x7 a8 a9 s0 h_41)) := by kernel_rfl
theorem jacquardlaw9_OrderEach_e1_3 (C : CallF) (L : LoopF) (G : Glo) (a0 : Int) (x7 : Cell) (a8 : Int) (a9 : Int) (s0 : List Cell) (h : AHeap) :
    (jacquardlaw9_OrderEach_k7 C L G) (.exit 2) (jacquardlaw9_OrderEach_x1_3 a0 x7 a8 a9 s0 h) =
    scK (a9 == a0) false (idxSK 1 x7 a8 fun k_42 N_43 o_44 => rdH h k_42 N_43 fun l_45 => atK l_45 o_44 fun q_46 => idxSK 1 q_46 a9 fun k_47 N_48 o_49 => rdH h k_47 N_48 fun l_50 => atK l_50 o_49 fun q_51 => asI .i64 (.c q_51) fun n_52 => idxSK 1 x7 (G.wrap .i64 (a8 - 1)) fun k_53 N_54 o_55 => rdH h k_53 N_54 fun l_56 => atK l_56 o_55 fun q_57 => idxSK 1 q_57 a9 fun k_58 N_59 o_60 => rdH h k_58 N_59 fun l_61 => atK l_61 o_60 fun q_62 => asI .i64 (.c q_62) fun n_63 => some ((decide (n_52 < n_63)), h)) true h fun b_64 h_65 => if b_64 = true then some (.ret, (jacquardlaw9_OrderEach_x2_0 false h_65)) else some (.normal, (jacquardlaw9_OrderEach_s2 a0 x7 (G.wrap .i64 (a8 + 1)) s0 h_65)) := by kernel_rfl
theorem jacquardlaw9_OrderEach_r2 (C : CallF) (L : LoopF) (G : Glo) (a0 : Int) (x7 : Cell) (a8 : Int) (s0 : List Cell) (h : AHeap) :
    jacquardlaw9_OrderEach_F2 C L G (jacquardlaw9_OrderEach_s2 a0 x7 a8 s0 h) =
    lenK x7 fun n_9 => if (decide (a8 < n_9)) = true then if 0 = 0 ∧ s0.length = 65 then idxSK 1 x7 a8 fun k_10 N_11 o_12 => rdH h k_10 N_11 fun l_13 => atK l_13 o_12 fun q_14 => c1 (qh h (C 25 [(.agg s0), (.c q_14)] h)) fun y_16 h_15 => asB y_16 fun b_17 => if (!b_17) = true then some (.ret, (jacquardlaw9_OrderEach_x2_0 false h)) else if (a8 == 0) = true then some (.normal, (jacquardlaw9_OrderEach_s2 a0 x7 (G.wrap .i64 (a8 + 1)) s0 h)) else (L (jacquardlaw9_OrderEach_F1 C L G) (jacquardlaw9_OrderEach_s1 a0 x7 a8 0 s0 h)).bind fun p_66 => (jacquardlaw9_OrderEach_k7 C L G) p_66.1 p_66.2 else none else some ((.exit 0), (jacquardlaw9_OrderEach_x2_1 x7 s0 h)) := by kernel_rfl
theorem jacquardlaw9_OrderEach_e2_0 (C : CallF) (L : LoopF) (G : Glo) (h0 : AHeap) (b4 : Bool) (h : AHeap) :
    (jacquardlaw9_OrderEach_k3 C L G h0) .ret (jacquardlaw9_OrderEach_x2_0 b4 h) =
    some ([(.c (.bool b4))], h) := by kernel_rfl
theorem jacquardlaw9_OrderEach_e2_1 (C : CallF) (L : LoopF) (G : Glo) (h0 : AHeap) (x7 : Cell) (s0 : List Cell) (h : AHeap) :
    (jacquardlaw9_OrderEach_k3 C L G h0) (.exit 0) (jacquardlaw9_OrderEach_x2_1 x7 s0 h) =
    lenK x7 fun n_67 => if 0 = 0 ∧ s0.length = 65 then c1 (C 26 [(.agg s0)] h) fun y_69 h_68 => asB y_69 fun b_70 => scK ((decide (n_67 > 0)) == b_70) true (if 0 = 0 ∧ s0.length = 65 then c1 (C 23 [(.agg s0), (.c (.int .i64 100000))] h_68) fun y_72 h_71 => asI .i64 y_72 fun n_73 => lenK x7 fun n_74 => some ((n_73 == n_74), h_71) else none) false h_68 fun b_75 h_76 => scK b_75 true (c1 (C 24 [] h_76) fun y_78 h_77 => asB y_78 fun b_79 => some (b_79, h_77)) false h_76 fun b_80 h_81 => some ([(.c (.bool b_80))], h_81) else none := by kernel_rfl
set_option maxRecDepth 100000 in
theorem jacquardlaw9_OrderEach_eq (C : CallF) (L : LoopF) (G : Glo) (a0 : Int) (x1 : Cell) (h0 : AHeap) :
    jacquardlaw9_OrderEach.body C L G [(.c (.int .i64 a0)), (.c x1)] h0 =
    c2 (C 1 [(.c (.int .i64 (G.rem .i64 (G.band .i64 a0 255) 7))), (.c x1)] h0) fun y_2 y_3 h_1 => asA y_2 fun l_4 => asA y_3 fun l_5 => if 0 = 0 ∧ ([Cell.int .i64 0] ++ List.replicate 64 (Cell.int .u64 0)).length = 65 ∧ l_4.length = 65 then if 0 = 0 ∧ ([Cell.int .i64 0] ++ List.replicate 64 (Cell.int .u64 0)).length = 65 ∧ l_5.length = 65 then if 0 = 0 ∧ l_4.length = 65 then c1 (C 21 [(.agg l_4), (.c (.int .i64 1000))] h_1) fun y_7 h_6 => asC y_7 fun x_8 => (L (jacquardlaw9_OrderEach_F2 C L G) (jacquardlaw9_OrderEach_s2 (G.rem .i64 (G.band .i64 a0 255) 7) x_8 0 l_4 h_6)).bind fun p_82 => (jacquardlaw9_OrderEach_k3 C L G h0) p_82.1 p_82.2 else none else none else none := by kernel_rfl

/- jacquard/jacquardlaw9.OrderKeeps: 247 -/
set_option maxRecDepth 100000 in
theorem jacquardlaw9_OrderKeeps_eq (C : CallF) (L : LoopF) (G : Glo) (a0 : Int) (x1 : Cell) (x2 : Cell) (h0 : AHeap) :
    jacquardlaw9_OrderKeeps.body C L G [(.c (.int .i64 a0)), (.c x1), (.c x2)] h0 =
    let v_1 : Int := (if 64 < (if 0 > a0 then 0 else a0) then 64 else (if 0 > a0 then 0 else a0)); lenK x2 fun n_2 => if (decide (n_2 > 100)) = true then c1 (C 24 [] h0) fun y_4 h_3 => asB y_4 fun b_5 => some ([(.c (.bool b_5))], h_3) else c2 (C 1 [(.c (.int .i64 v_1)), (.c x1)] h0) fun y_7 y_8 h_6 => asA y_7 fun l_9 => asA y_8 fun l_10 => if 0 = 0 ∧ ([Cell.int .i64 0] ++ List.replicate 64 (Cell.int .u64 0)).length = 65 ∧ l_9.length = 65 then if 0 = 0 ∧ ([Cell.int .i64 0] ++ List.replicate 64 (Cell.int .u64 0)).length = 65 ∧ l_10.length = 65 then if 0 = 0 ∧ l_9.length = 65 then c1 (qh h_6 (C 22 [(.agg l_9), (.c x2)] h_6)) fun y_12 h_11 => asB y_12 fun b_13 => if 0 = 0 ∧ l_9.length = 65 then c1 (qh h_6 (C 25 [(.agg l_9), (.c x2)] h_6)) fun y_15 h_14 => asB y_15 fun b_16 => scK (b_13 == b_16) true (c1 (qh h_6 (C 24 [] h_6)) fun y_18 h_17 => asB y_18 fun b_19 => some (b_19, h_6)) false h_6 fun b_20 h_21 => some ([(.c (.bool b_20))], h_21) else none else none else none else none := by kernel_rfl

/- jacquard/jacquardlaw9.OrderRanks: 248 -/
def jacquardlaw9_OrderRanks_k2 (C : CallF) (L : LoopF) (G : Glo) (h0 : AHeap) : Ex → St → Option (List AV × AHeap) :=
  kSeq (fun st => jacquardlaw9_OrderRanks_p1.exec C L G st (jacquardlaw9_OrderRanks.fin G h0)) (jacquardlaw9_OrderRanks.fin G h0)
def jacquardlaw9_OrderRanks_k3 (C : CallF) (L : LoopF) (G : Glo) (h0 : AHeap) : Ex → St → Option (List AV × AHeap) :=
  kBlk 0 (jacquardlaw9_OrderRanks_k2 C L G h0)
def jacquardlaw9_OrderRanks_s1 (a0 : Int) (x9 : Cell) (x10 : Cell) (x12 : Cell) (x13 : Cell) (a14 : Int) (s0 : List Cell) (h : AHeap) : St := ⟨[.v (.c (.int .i64 a0)), .top, .top, .top, .top, .top, .top, .loc 0 0, .top, .v (.c x9), .v (.c x10), .top, .v (.c x12), .v (.c x13), .v (.c (.int .i64 a14)), .top, .top, .top, .top, .top, .top, .top, .top, .top, .top, .top, .top, .top, .top, .top, .top, .top, .top, .top, .top, .top, .top, .top, .top, .top, .top, .top, .top, .top, .top, .top, .top, .top, .top, .top, .top, .top, .top, .top, .top, .top, .top, .top, .top, .top, .top, .top, .top, .top, .top, .top, .top, .top, .top, .top, .top, .top, .top, .top, .top, .top, .top, .top, .top, .top, .top, .top, .top, .top, .top, .top, .top, .top, .top, .top, .top, .top, .top, .top, .top, .top, .top, .top, .top, .top, .top, .top, .top, .top, .top, .top, .top, .top, .top, .top, .top, .top, .top, .top, .top, .top, .top, .top, .top, .top, .top, .top, .top, .top, .top, .top, .top, .top, .top, .top, .top, .top], [some s0, none], h⟩
def jacquardlaw9_OrderRanks_F1 (C : CallF) (L : LoopF) (G : Glo) : St → Option (Ex × St) :=
  roundF (fun st f => jacquardlaw9_OrderRanks_b1.exec C L G st f) [0, 7, 9, 10, 12, 13, 14] [0] [(0, [6], []), (1, [0, 7, 12, 13], [0])]
def jacquardlaw9_OrderRanks_x1_0 (b6 : Bool) (h : AHeap) : St := ⟨[.top, .top, .top, .top, .top, .top, .v (.c (.bool b6)), .top, .top, .top, .top, .top, .top, .top, .top, .top, .top, .top, .top, .top, .top, .top, .top, .top, .top, .top, .top, .top, .top, .top, .top, .top, .top, .top, .top, .top, .top, .top, .top, .top, .top, .top, .top, .top, .top, .top, .top, .top, .top, .top, .top, .top, .top, .top, .top, .top, .top, .top, .top, .top, .top, .top, .top, .top, .top, .top, .top, .top, .top, .top, .top, .top, .top, .top, .top, .top, .top, .top, .top, .top, .top, .top, .top, .top, .top, .top, .top, .top, .top, .top, .top, .top, .top, .top, .top, .top, .top, .top, .top, .top, .top, .top, .top, .top, .top, .top, .top, .top, .top, .top, .top, .top, .top, .top, .top, .top, .top, .top, .top, .top, .top, .top, .top, .top, .top, .top, .top, .top, .top, .top, .top, .top], [none, none], h⟩
def jacquardlaw9_OrderRanks_x1_1 (a0 : Int) (x12 : Cell) (x13 : Cell) (s0 : List Cell) (h : AHeap) : St := ⟨[.v (.c (.int .i64 a0)), .top, .top, .top, .top, .top, .top, .loc 0 0, .top, .top, .top, .top, .v (.c x12), .v (.c x13), .top, .top, .top, .top, .top, .top, .top, .top, .top, .top, .top, .top, .top, .top, .top, .top, .top, .top, .top, .top, .top, .top, .top, .top, .top, .top, .top, .top, .top, .top, .top, .top, .top, .top, .top, .top, .top, .top, .top, .top, .top, .top, .top, .top, .top, .top, .top, .top, .top, .top, .top, .top, .top, .top, .top, .top, .top, .top, .top, .top, .top, .top, .top, .top, .top, .top, .top, .top, .top, .top, .top, .top, .top, .top, .top, .top, .top, .top, .top, .top, .top, .top, .top, .top, .top, .top, .top, .top, .top, .top, .top, .top, .top, .top, .top, .top, .top, .top, .top, .top, .top, .top, .top, .top, .top, .top, .top, .top, .top, .top, .top, .top, .top, .top, .top, .top, .top, .top], [some s0, none], h⟩
def jacquardlaw9_OrderRanks_k4 (C : CallF) (L : LoopF) (G : Glo) (h0 : AHeap) : Ex → St → Option (List AV × AHeap) :=
  kSeq (fun st => jacquardlaw9_OrderRanks_p2.exec C L G st (jacquardlaw9_OrderRanks.fin G h0)) (jacquardlaw9_OrderRanks.fin G h0)
def jacquardlaw9_OrderRanks_k5 (C : CallF) (L : LoopF) (G : Glo) (h0 : AHeap) : Ex → St → Option (List AV × AHeap) :=
  kBlk 2 (jacquardlaw9_OrderRanks_k4 C L G h0)
def jacquardlaw9_OrderRanks_s2 (a0 : Int) (x12 : Cell) (x15 : Cell) (b16 : Bool) (a17 : Int) (h : AHeap) : St := ⟨[.v (.c (.int .i64 a0)), .top, .top, .top, .top, .top, .top, .top, .top, .top, .top, .top, .v (.c x12), .top, .top, .v (.c x15), .v (.c (.bool b16)), .v (.c (.int .i64 a17)), .top, .top, .top, .top, .top, .top, .top, .top, .top, .top, .top, .top, .top, .top, .top, .top, .top, .top, .top, .top, .top, .top, .top, .top, .top, .top, .top, .top, .top, .top, .top, .top, .top, .top, .top, .top, .top, .top, .top, .top, .top, .top, .top, .top, .top, .top, .top, .top, .top, .top, .top, .top, .top, .top, .top, .top, .top, .top, .top, .top, .top, .top, .top, .top, .top, .top, .top, .top, .top, .top, .top, .top, .top, .top, .top, .top, .top, .top, .top, .top, .top, .top, .top, .top, .top, .top, .top, .top, .top, .top, .top, .top, .top, .top, .top, .top, .top, .top, .top, .top, .top, .top, .top, .top, .top, .top, .top, .top, .top, .top, .top, .top, .top, .top], [none, none], h⟩
def jacquardlaw9_OrderRanks_F2 (C : CallF) (L : LoopF) (G : Glo) : St → Option (Ex × St) :=
  roundF (fun st f => jacquardlaw9_OrderRanks_b2.exec C L G st f) [0, 12, 15, 16, 17] [] [(0, [6], []), (3, [16], [])]
def jacquardlaw9_OrderRanks_x2_0 (b6 : Bool) (h : AHeap) : St := ⟨[.top, .top, .top, .top, .top, .top, .v (.c (.bool b6)), .top, .top, .top, .top, .top, .top, .top, .top, .top, .top, .top, .top, .top, .top, .top, .top, .top, .top, .top, .top, .top, .top, .top, .top, .top, .top, .top, .top, .top, .top, .top, .top, .top, .top, .top, .top, .top, .top, .top, .top, .top, .top, .top, .top, .top, .top, .top, .top, .top, .top, .top, .top, .top, .top, .top, .top, .top, .top, .top, .top, .top, .top, .top, .top, .top, .top, .top, .top, .top, .top, .top, .top, .top, .top, .top, .top, .top, .top, .top, .top, .top, .top, .top, .top, .top, .top, .top, .top, .top, .top, .top, .top, .top, .top, .top, .top, .top, .top, .top, .top, .top, .top, .top, .top, .top, .top, .top, .top, .top, .top, .top, .top, .top, .top, .top, .top, .top, .top, .top, .top, .top, .top, .top, .top, .top], [none, none], h⟩
def jacquardlaw9_OrderRanks_x2_3 (b16 : Bool) (h : AHeap) : St := ⟨[.top, .top, .top, .top, .top, .top, .top, .top, .top, .top, .top, .top, .top, .top, .top, .top, .v (.c (.bool b16)), .top, .top, .top, .top, .top, .top, .top, .top, .top, .top, .top, .top, .top, .top, .top, .top, .top, .top, .top, .top, .top, .top, .top, .top, .top, .top, .top, .top, .top, .top, .top, .top, .top, .top, .top, .top, .top, .top, .top, .top, .top, .top, .top, .top, .top, .top, .top, .top, .top, .top, .top, .top, .top, .top, .top, .top, .top, .top, .top, .top, .top, .top, .top, .top, .top, .top, .top, .top, .top, .top, .top, .top, .top, .top, .top, .top, .top, .top, .top, .top, .top, .top, .top, .top, .top, .top, .top, .top, .top, .top, .top, .top, .top, .top, .top, .top, .top, .top, .top, .top, .top, .top, .top, .top, .top, .top, .top, .top, .top, .top, .top, .top, .top, .top, .top], [none, none], h⟩
theorem jacquardlaw9_OrderRanks_r1 (C : CallF) (L : LoopF) (G : Glo) (a0 : Int) (x9 : Cell) (x10 : Cell) (x12 : Cell) (x13 : Cell) (a14 : Int) (s0 : List Cell) (h : AHeap) :
    jacquardlaw9_OrderRanks_F1 C L G (jacquardlaw9_OrderRanks_s1 a0 x9 x10 x12 x13 a14 s0 h) =
    if (decide (a14 < a0)) = true then lenK x12 fun n_24 => scK (n_24 != a0) false (lenK x10 fun n_25 => some ((n_25 != a0), h)) true h fun b_26 h_27 => scK b_26 false (idxSK 1 x10 a14 fun k_28 N_29 o_30 => rdH h_27 k_28 N_29 fun l_31 => atK l_31 o_30 fun q_32 => asI .i64 (.c q_32) fun n_33 => idxSK 1 x9 0 fun k_34 N_35 o_36 => rdH h_27 k_34 N_35 fun l_37 => atK l_37 o_36 fun q_38 => idxSK 1 q_38 a14 fun k_39 N_40 o_41 => rdH h_27 k_39 N_40 fun l_42 => atK l_42 o_41 fun q_43 => asI .i64 (.c q_43) fun n_44 => some ((n_33 != n_44), h_27)) true h_27 fun b_45 h_46 => scK b_45 false (idxSK 1 x12 a14 fun k_47 N_48 o_49 => rdH h_46 k_47 N_48 fun l_50 => atK l_50 o_49 fun q_51 => asI .i64 (.c q_51) fun n_52 => some ((decide (n_52 < 0)), h_46)) true h_46 fun b_53 h_54 => scK b_53 false (idxSK 1 x12 a14 fun k_55 N_56 o_57 => rdH h_54 k_55 N_56 fun l_58 => atK l_58 o_57 fun q_59 => asI .i64 (.c q_59) fun n_60 => some ((decide (n_60 ≥ a0)), h_54)) true h_54 fun b_61 h_62 => if b_61 = true then some (.ret, (jacquardlaw9_OrderRanks_x1_0 false h_62)) else idxSK 1 x12 a14 fun k_63 N_64 o_65 => rdH h_62 k_63 N_64 fun l_66 => atK l_66 o_65 fun q_67 => asI .i64 (.c q_67) fun n_68 => idxSK 1 x13 n_68 fun k_69 N_70 o_71 => rdH h_62 k_69 N_70 fun l_72 => if o_71 < l_72.length then putH h_62 k_69 (l_72.set o_71 (.int .i64 a14)) fun h_73 => some (.normal, (jacquardlaw9_OrderRanks_s1 a0 x9 x10 x12 x13 (G.wrap .i64 (a14 + 1)) s0 h_73)) else none else some ((.exit 0), (jacquardlaw9_OrderRanks_x1_1 a0 x12 x13 s0 h)) := by kernel_rfl
theorem jacquardlaw9_OrderRanks_e1_0 (C : CallF) (L : LoopF) (G : Glo) (h0 : AHeap) (b6 : Bool) (h : AHeap) :
    (jacquardlaw9_OrderRanks_k3 C L G h0) .ret (jacquardlaw9_OrderRanks_x1_0 b6 h) =
    finish true h0 [(.c (.bool b6))] h := by kernel_rfl
theorem jacquardlaw9_OrderRanks_r2 (C : CallF) (L : LoopF) (G : Glo) (a0 : Int) (x12 : Cell) (x15 : Cell) (b16 : Bool) (a17 : Int) (h : AHeap) :
    jacquardlaw9_OrderRanks_F2 C L G (jacquardlaw9_OrderRanks_s2 a0 x12 x15 b16 a17 h) =
    if (decide (a17 < a0)) = true then lenK x15 fun n_79 => scK (n_79 != a0) false (idxSK 1 x15 a17 fun k_80 N_81 o_82 => rdH h k_80 N_81 fun l_83 => atK l_83 o_82 fun q_84 => asI .i64 (.c q_84) fun n_85 => idxSK 1 x12 a17 fun k_86 N_87 o_88 => rdH h k_86 N_87 fun l_89 => atK l_89 o_88 fun q_90 => asI .i64 (.c q_90) fun n_91 => some ((n_85 != n_91), h)) true h fun b_92 h_93 => if b_92 = true then some (.ret, (jacquardlaw9_OrderRanks_x2_0 false h_93)) else some (.normal, (jacquardlaw9_OrderRanks_s2 a0 x12 x15 b16 (G.wrap .i64 (a17 + 1)) h_93)) else some ((.exit 2), (jacquardlaw9_OrderRanks_x2_3 b16 h)) := by kernel_rfl
theorem jacquardlaw9_OrderRanks_e2_0 (C : CallF) (L : LoopF) (G : Glo) (h0 : AHeap) (b6 : Bool) (h : AHeap) :
    (jacquardlaw9_OrderRanks_k5 C L G h0) .ret (jacquardlaw9_OrderRanks_x2_0 b6 h) =
    finish true h0 [(.c (.bool b6))] h := by kernel_rfl
theorem jacquardlaw9_OrderRanks_e2_3 (C : CallF) (L : LoopF) (G : Glo) (h0 : AHeap) (b16 : Bool) (h : AHeap) :
    (jacquardlaw9_OrderRanks_k5 C L G h0) (.exit 2) (jacquardlaw9_OrderRanks_x2_3 b16 h) =
    scK b16 true (c1 (C 24 [] h) fun y_95 h_94 => asB y_95 fun b_96 => some (b_96, h_94)) false h fun b_97 h_98 => finish true h0 [(.c (.bool b_97))] h_98 := by kernel_rfl
theorem jacquardlaw9_OrderRanks_e1_1 (C : CallF) (L : LoopF) (G : Glo) (h0 : AHeap) (a0 : Int) (x12 : Cell) (x13 : Cell) (s0 : List Cell) (h : AHeap) :
    (jacquardlaw9_OrderRanks_k3 C L G h0) (.exit 0) (jacquardlaw9_OrderRanks_x1_1 a0 x12 x13 s0 h) =
    if 0 = 0 ∧ s0.length = 65 then c2 (C 27 [(.agg s0), (.c x13)] h) fun y_75 y_76 h_74 => asC y_75 fun x_77 => asB y_76 fun b_78 => (L (jacquardlaw9_OrderRanks_F2 C L G) (jacquardlaw9_OrderRanks_s2 a0 x12 x_77 b_78 0 h_74)).bind fun p_99 => (jacquardlaw9_OrderRanks_k5 C L G h0) p_99.1 p_99.2 else none := by kernel_rfl
set_option maxRecDepth 100000 in
theorem jacquardlaw9_OrderRanks_eq (C : CallF) (L : LoopF) (G : Glo) (a0 : Int) (x1 : Cell) (a2 : Int) (h0 : AHeap) :
    jacquardlaw9_OrderRanks.body C L G [(.c (.int .i64 a0)), (.c x1), (.c (.int .i64 a2))] h0 =
    c2 (C 1 [(.c (.int .i64 (G.rem .i64 (G.band .i64 a0 255) 7))), (.c x1)] h0) fun y_2 y_3 h_1 => asA y_2 fun l_4 => asA y_3 fun l_5 => if 0 = 0 ∧ ([Cell.int .i64 0] ++ List.replicate 64 (Cell.int .u64 0)).length = 65 ∧ l_4.length = 65 then if 0 = 0 ∧ ([Cell.int .i64 0] ++ List.replicate 64 (Cell.int .u64 0)).length = 65 ∧ l_5.length = 65 then if 0 = 0 ∧ l_4.length = 65 then c1 (C 21 [(.agg l_4), (.c (.int .i64 1000))] h_1) fun y_7 h_6 => asC y_7 fun x_8 => if 0 = 0 ∧ l_4.length = 65 then c2 (C 27 [(.agg l_4), (.c .nils)] h_6) fun y_10 y_11 h_9 => asC y_10 fun x_12 => asB y_11 fun b_13 => lenK x_8 fun n_14 => if (!(b_13 == (decide (n_14 > 0)))) = true then finish true h0 [(.c (.bool false))] h_9 else if (!b_13) = true then c1 (C 24 [] h_9) fun y_16 h_15 => asB y_16 fun b_17 => finish true h0 [(.c (.bool b_17))] h_15 else lenK x_8 fun n_18 => if n_18 = 0 then none else idxSK 1 x_8 (G.rem .i64 (G.band .i64 a2 65535) n_18) fun k_19 N_20 o_21 => rdH h_9 k_19 N_20 fun l_22 => atK l_22 o_21 fun q_23 => if 0 ≤ (G.rem .i64 (G.band .i64 a0 255) 7) ∧ (G.rem .i64 (G.band .i64 a0 255) 7) ≤ (G.rem .i64 (G.band .i64 a0 255) 7) ∧ (Int.toNat (G.rem .i64 (G.band .i64 a0 255) 7)) * 8 ≤ maxBytes ∧ (G.rem .i64 (G.band .i64 a0 255) 7) ≤ (maxBytes : Nat) then (L (jacquardlaw9_OrderRanks_F1 C L G) (jacquardlaw9_OrderRanks_s1 (G.rem .i64 (G.band .i64 a0 255) 7) x_8 x_12 q_23 (.sl h_9.length ((rep (Int.toNat (G.rem .i64 (G.band .i64 a0 255) 7)) ([Cell.int .i64 0])).length) 0 (Int.toNat (G.rem .i64 (G.band .i64 a0 255) 7))) 0 l_4 (h_9 ++ [some (Blk.mk true 1 (rep (Int.toNat (G.rem .i64 (G.band .i64 a0 255) 7)) ([Cell.int .i64 0])))]))).bind fun p_100 => (jacquardlaw9_OrderRanks_k3 C L G h0) p_100.1 p_100.2 else none else none else none else none else none := by kernel_rfl

/- jacquard/jacquardlaw9.OrderGreedy: 249 -/
def jacquardlaw9_OrderGreedy_k2 (C : CallF) (L : LoopF) (G : Glo) (h0 : AHeap) : Ex → St → Option (List AV × AHeap) :=
  kSeq (fun st => jacquardlaw9_OrderGreedy_p1.exec C L G st (jacquardlaw9_OrderGreedy.fin G h0)) (jacquardlaw9_OrderGreedy.fin G h0)
def jacquardlaw9_OrderGreedy_k3 (C : CallF) (L : LoopF) (G : Glo) (h0 : AHeap) : Ex → St → Option (List AV × AHeap) :=
  kBlk 0 (jacquardlaw9_OrderGreedy_k2 C L G h0)
def jacquardlaw9_OrderGreedy_s3 (a0 : Int) (x2 : Cell) (x9 : Cell) (a12 : Int) (s0 : List Cell) (s2 : List Cell) (h : AHeap) : St := ⟨[.v (.c (.int .i64 a0)), .top, .v (.c x2), .top, .top, .top, .top, .loc 0 0, .top, .v (.c x9), .top, .loc 2 0, .v (.c (.int .i64 a12)), .top, .top, .top, .top, .top, .top, .top, .top, .top, .top, .top, .top, .top, .top, .top, .top, .top, .top, .top, .top, .top, .top, .top, .top, .top, .top, .top, .top, .top, .top, .top, .top, .top, .top, .top, .top, .top, .top, .top, .top, .top, .top, .top, .top, .top, .top, .top, .top, .top, .top, .top, .top, .top, .top, .top, .top, .top, .top, .top, .top, .top, .top, .top, .top, .top, .top, .top, .top, .top, .top, .top, .top, .top, .top, .top, .top, .top, .top, .top, .top, .top, .top, .top, .top, .top, .top, .top, .top, .top, .top, .top, .top, .top, .top, .top, .top, .top], [some s0, none, some s2], h⟩
def jacquardlaw9_OrderGreedy_F3 (C : CallF) (L : LoopF) (G : Glo) : St → Option (Ex × St) :=
  roundF (fun st f => jacquardlaw9_OrderGreedy_b3.exec C L G st f) [0, 2, 7, 9, 11, 12] [0, 2] [(0, [6], []), (1, [], [])]
def jacquardlaw9_OrderGreedy_k4 (C : CallF) (L : LoopF) (G : Glo) : Ex → St → Option (Ex × St) :=
  kSeq (fun st => jacquardlaw9_OrderGreedy_p2.exec C L G st (kLoop [0, 2, 7, 9, 11, 12] [0, 2] [(0, [6], []), (1, [], [])])) (kLoop [0, 2, 7, 9, 11, 12] [0, 2] [(0, [6], []), (1, [], [])])
def jacquardlaw9_OrderGreedy_k5 (C : CallF) (L : LoopF) (G : Glo) : Ex → St → Option (Ex × St) :=
  kBlk 1 (jacquardlaw9_OrderGreedy_k4 C L G)
def jacquardlaw9_OrderGreedy_k6 (C : CallF) (L : LoopF) (G : Glo) : Ex → St → Option (Ex × St) :=
  kSeq (fun st => jacquardlaw9_OrderGreedy_p3.exec C L G st (jacquardlaw9_OrderGreedy_k5 C L G)) (jacquardlaw9_OrderGreedy_k5 C L G)
def jacquardlaw9_OrderGreedy_k7 (C : CallF) (L : LoopF) (G : Glo) : Ex → St → Option (Ex × St) :=
  kBlk 2 (jacquardlaw9_OrderGreedy_k6 C L G)
def jacquardlaw9_OrderGreedy_s2 (a0 : Int) (x2 : Cell) (x9 : Cell) (a12 : Int) (a13 : Int) (a14 : Int) (s0 : List Cell) (s2 : List Cell) (h : AHeap) : St := ⟨[.v (.c (.int .i64 a0)), .top, .v (.c x2), .top, .top, .top, .top, .loc 0 0, .top, .v (.c x9), .top, .loc 2 0, .v (.c (.int .i64 a12)), .v (.c (.int .i64 a13)), .v (.c (.int .i64 a14)), .top, .top, .top, .top, .top, .top, .top, .top, .top, .top, .top, .top, .top, .top, .top, .top, .top, .top, .top, .top, .top, .top, .top, .top, .top, .top, .top, .top, .top, .top, .top, .top, .top, .top, .top, .top, .top, .top, .top, .top, .top, .top, .top, .top, .top, .top, .top, .top, .top, .top, .top, .top, .top, .top, .top, .top, .top, .top, .top, .top, .top, .top, .top, .top, .top, .top, .top, .top, .top, .top, .top, .top, .top, .top, .top, .top, .top, .top, .top, .top, .top, .top, .top, .top, .top, .top, .top, .top, .top, .top, .top, .top, .top, .top, .top], [some s0, none, some s2], h⟩
def jacquardlaw9_OrderGreedy_F2 (C : CallF) (L : LoopF) (G : Glo) : St → Option (Ex × St) :=
  roundF (fun st f => jacquardlaw9_OrderGreedy_b2.exec C L G st f) [0, 2, 7, 9, 11, 12, 13, 14] [0, 2] [(3, [0, 2, 7, 9, 11, 12, 13], [0, 2])]
def jacquardlaw9_OrderGreedy_k8 (C : CallF) (L : LoopF) (G : Glo) : Ex → St → Option (Ex × St) :=
  kSeq (fun st => jacquardlaw9_OrderGreedy_p4.exec C L G st (kLoop [0, 2, 7, 9, 11, 12, 13, 14] [0, 2] [(3, [0, 2, 7, 9, 11, 12, 13], [0, 2])])) (kLoop [0, 2, 7, 9, 11, 12, 13, 14] [0, 2] [(3, [0, 2, 7, 9, 11, 12, 13], [0, 2])])
def jacquardlaw9_OrderGreedy_k9 (C : CallF) (L : LoopF) (G : Glo) : Ex → St → Option (Ex × St) :=
  kBlk 3 (jacquardlaw9_OrderGreedy_k8 C L G)
def jacquardlaw9_OrderGreedy_k10 (C : CallF) (L : LoopF) (G : Glo) : Ex → St → Option (Ex × St) :=
  kSeq (fun st => jacquardlaw9_OrderGreedy_p5.exec C L G st (jacquardlaw9_OrderGreedy_k9 C L G)) (jacquardlaw9_OrderGreedy_k9 C L G)
def jacquardlaw9_OrderGreedy_k11 (C : CallF) (L : LoopF) (G : Glo) : Ex → St → Option (Ex × St) :=
  kBlk 4 (jacquardlaw9_OrderGreedy_k10 C L G)
def jacquardlaw9_OrderGreedy_s1 (a0 : Int) (x2 : Cell) (x9 : Cell) (a12 : Int) (a13 : Int) (a14 : Int) (b15 : Bool) (a16 : Int) (s0 : List Cell) (s2 : List Cell) (h : AHeap) : St := ⟨[.v (.c (.int .i64 a0)), .top, .v (.c x2), .top, .top, .top, .top, .loc 0 0, .top, .v (.c x9), .top, .loc 2 0, .v (.c (.int .i64 a12)), .v (.c (.int .i64 a13)), .v (.c (.int .i64 a14)), .v (.c (.bool b15)), .v (.c (.int .i64 a16)), .top, .top, .top, .top, .top, .top, .top, .top, .top, .top, .top, .top, .top, .top, .top, .top, .top, .top, .top, .top, .top, .top, .top, .top, .top, .top, .top, .top, .top, .top, .top, .top, .top, .top, .top, .top, .top, .top, .top, .top, .top, .top, .top, .top, .top, .top, .top, .top, .top, .top, .top, .top, .top, .top, .top, .top, .top, .top, .top, .top, .top, .top, .top, .top, .top, .top, .top, .top, .top, .top, .top, .top, .top, .top, .top, .top, .top, .top, .top, .top, .top, .top, .top, .top, .top, .top, .top, .top, .top, .top, .top, .top, .top], [some s0, none, some s2], h⟩
def jacquardlaw9_OrderGreedy_F1 (C : CallF) (L : LoopF) (G : Glo) : St → Option (Ex × St) :=
  roundF (fun st f => jacquardlaw9_OrderGreedy_b1.exec C L G st f) [0, 2, 7, 9, 11, 12, 13, 14, 15, 16] [0, 2] [(5, [0, 2, 7, 9, 11, 12, 13, 14, 15], [0, 2])]
def jacquardlaw9_OrderGreedy_x1_5 (a0 : Int) (x2 : Cell) (x9 : Cell) (a12 : Int) (a13 : Int) (a14 : Int) (b15 : Bool) (s0 : List Cell) (s2 : List Cell) (h : AHeap) : St := ⟨[.v (.c (.int .i64 a0)), .top, .v (.c x2), .top, .top, .top, .top, .loc 0 0, .top, .v (.c x9), .top, .loc 2 0, .v (.c (.int .i64 a12)), .v (.c (.int .i64 a13)), .v (.c (.int .i64 a14)), .v (.c (.bool b15)), .top, .top, .top, .top, .top, .top, .top, .top, .top, .top, .top, .top, .top, .top, .top, .top, .top, .top, .top, .top, .top, .top, .top, .top, .top, .top, .top, .top, .top, .top, .top, .top, .top, .top, .top, .top, .top, .top, .top, .top, .top, .top, .top, .top, .top, .top, .top, .top, .top, .top, .top, .top, .top, .top, .top, .top, .top, .top, .top, .top, .top, .top, .top, .top, .top, .top, .top, .top, .top, .top, .top, .top, .top, .top, .top, .top, .top, .top, .top, .top, .top, .top, .top, .top, .top, .top, .top, .top, .top, .top, .top, .top, .top, .top], [some s0, none, some s2], h⟩
def jacquardlaw9_OrderGreedy_x2_3 (a0 : Int) (x2 : Cell) (x9 : Cell) (a12 : Int) (a13 : Int) (s0 : List Cell) (s2 : List Cell) (h : AHeap) : St := ⟨[.v (.c (.int .i64 a0)), .top, .v (.c x2), .top, .top, .top, .top, .loc 0 0, .top, .v (.c x9), .top, .loc 2 0, .v (.c (.int .i64 a12)), .v (.c (.int .i64 a13)), .top, .top, .top, .top, .top, .top, .top, .top, .top, .top, .top, .top, .top, .top, .top, .top, .top, .top, .top, .top, .top, .top, .top, .top, .top, .top, .top, .top, .top, .top, .top, .top, .top, .top, .top, .top, .top, .top, .top, .top, .top, .top, .top, .top, .top, .top, .top, .top, .top, .top, .top, .top, .top, .top, .top, .top, .top, .top, .top, .top, .top, .top, .top, .top, .top, .top, .top, .top, .top, .top, .top, .top, .top, .top, .top, .top, .top, .top, .top, .top, .top, .top, .top, .top, .top, .top, .top, .top, .top, .top, .top, .top, .top, .top, .top, .top], [some s0, none, some s2], h⟩
def jacquardlaw9_OrderGreedy_x3_0 (b6 : Bool) (h : AHeap) : St := ⟨[.top, .top, .top, .top, .top, .top, .v (.c (.bool b6)), .top, .top, .top, .top, .top, .top, .top, .top, .top, .top, .top, .top, .top, .top, .top, .top, .top, .top, .top, .top, .top, .top, .top, .top, .top, .top, .top, .top, .top, .top, .top, .top, .top, .top, .top, .top, .top, .top, .top, .top, .top, .top, .top, .top, .top, .top, .top, .top, .top, .top, .top, .top, .top, .top, .top, .top, .top, .top, .top, .top, .top, .top, .top, .top, .top, .top, .top, .top, .top, .top, .top, .top, .top, .top, .top, .top, .top, .top, .top, .top, .top, .top, .top, .top, .top, .top, .top, .top, .top, .top, .top, .top, .top, .top, .top, .top, .top, .top, .top, .top, .top, .top, .top], [none, none, none], h⟩
def jacquardlaw9_OrderGreedy_x3_1 (h : AHeap) : St := ⟨[.top, .top, .top, .top, .top, .top, .top, .top, .top, .top, .top, .top, .top, .top, .top, .top, .top, .top, .top, .top, .top, .top, .top, .top, .top, .top, .top, .top, .top, .top, .top, .top, .top, .top, .top, .top, .top, .top, .top, .top, .top, .top, .top, .top, .top, .top, .top, .top, .top, .top, .top, .top, .top, .top, .top, .top, .top, .top, .top, .top, .top, .top, .top, .top, .top, .top, .top, .top, .top, .top, .top, .top, .top, .top, .top, .top, .top, .top, .top, .top, .top, .top, .top, .top, .top, .top, .top, .top, .top, .top, .top, .top, .top, .top, .top, .top, .top, .top, .top, .top, .top, .top, .top, .top, .top, .top, .top, .top, .top, .top], [none, none, none], h⟩
theorem jacquardlaw9_OrderGreedy_r1 (C : CallF) (L : LoopF) (G : Glo) (a0 : Int) (x2 : Cell) (x9 : Cell) (a12 : Int) (a13 : Int) (a14 : Int) (b15 : Bool) (a16 : Int) (s0 : List Cell) (s2 : List Cell) (h : AHeap) :
    jacquardlaw9_OrderGreedy_F1 C L G (jacquardlaw9_OrderGreedy_s1 a0 x2 x9 a12 a13 a14 b15 a16 s0 s2 h) =
    if (decide (a16 < a0)) = true then scK b15 true (if 0 ≤ a16 ∧ a16 < ((64 : Nat) : Int) then atK s2 (0 + ((Int.toNat a16) * 1)) fun q_33 => asB (.c q_33) fun b_34 => scK b_34 false (if 0 = 0 ∧ s0.length = 65 then c1 (C 3 [(.agg s0), (.c (.int .i64 a16)), (.c (.int .i64 a14))] h) fun y_36 h_35 => asB y_36 fun b_37 => some ((!b_37), h_35) else none) true h fun b_38 h_39 => some (b_38, h_39) else none) false h fun b_40 h_41 => some (.normal, (jacquardlaw9_OrderGreedy_s1 a0 x2 x9 a12 a13 a14 b_40 (G.wrap .i64 (a16 + 1)) s0 s2 h_41)) else some ((.exit 4), (jacquardlaw9_OrderGreedy_x1_5 a0 x2 x9 a12 a13 a14 b15 s0 s2 h)) := by kernel_rfl
theorem jacquardlaw9_OrderGreedy_e1_5 (C : CallF) (L : LoopF) (G : Glo) (a0 : Int) (x2 : Cell) (x9 : Cell) (a12 : Int) (a13 : Int) (a14 : Int) (b15 : Bool) (s0 : List Cell) (s2 : List Cell) (h : AHeap) :
    (jacquardlaw9_OrderGreedy_k11 C L G) (.exit 4) (jacquardlaw9_OrderGreedy_x1_5 a0 x2 x9 a12 a13 a14 b15 s0 s2 h) =
    scK b15 true (scK (decide (a13 < 0)) false (c1 (C 28 [(.c x2), (.c (.int .i64 a14)), (.c (.int .i64 a13))] h) fun y_43 h_42 => asB y_43 fun b_44 => some (b_44, h_42)) true h fun b_45 h_46 => some (b_45, h_46)) false h fun b_47 h_48 => if b_47 = true then some (.normal, (jacquardlaw9_OrderGreedy_s2 a0 x2 x9 a12 a14 (G.wrap .i64 (a14 + 1)) s0 s2 h_48)) else some (.normal, (jacquardlaw9_OrderGreedy_s2 a0 x2 x9 a12 a13 (G.wrap .i64 (a14 + 1)) s0 s2 h_48)) := by kernel_rfl
theorem jacquardlaw9_OrderGreedy_r2 (C : CallF) (L : LoopF) (G : Glo) (a0 : Int) (x2 : Cell) (x9 : Cell) (a12 : Int) (a13 : Int) (a14 : Int) (s0 : List Cell) (s2 : List Cell) (h : AHeap) :
    jacquardlaw9_OrderGreedy_F2 C L G (jacquardlaw9_OrderGreedy_s2 a0 x2 x9 a12 a13 a14 s0 s2 h) =
    if (decide (a14 < a0)) = true then if 0 ≤ a14 ∧ a14 < ((64 : Nat) : Int) then atK s2 (0 + ((Int.toNat a14) * 1)) fun q_31 => asB (.c q_31) fun b_32 => (L (jacquardlaw9_OrderGreedy_F1 C L G) (jacquardlaw9_OrderGreedy_s1 a0 x2 x9 a12 a13 a14 (!b_32) 0 s0 s2 h)).bind fun p_49 => (jacquardlaw9_OrderGreedy_k11 C L G) p_49.1 p_49.2 else none else some ((.exit 2), (jacquardlaw9_OrderGreedy_x2_3 a0 x2 x9 a12 a13 s0 s2 h)) := by kernel_rfl
theorem jacquardlaw9_OrderGreedy_e2_3 (C : CallF) (L : LoopF) (G : Glo) (a0 : Int) (x2 : Cell) (x9 : Cell) (a12 : Int) (a13 : Int) (s0 : List Cell) (s2 : List Cell) (h : AHeap) :
    (jacquardlaw9_OrderGreedy_k7 C L G) (.exit 2) (jacquardlaw9_OrderGreedy_x2_3 a0 x2 x9 a12 a13 s0 s2 h) =
    idxSK 1 x9 a12 fun k_50 N_51 o_52 => rdH h k_50 N_51 fun l_53 => atK l_53 o_52 fun q_54 => asI .i64 (.c q_54) fun n_55 => if (a13 != n_55) = true then some (.ret, (jacquardlaw9_OrderGreedy_x3_0 false h)) else if 0 ≤ a13 ∧ a13 < ((64 : Nat) : Int) then if (0 + ((Int.toNat a13) * 1)) < s2.length then some (.normal, (jacquardlaw9_OrderGreedy_s3 a0 x2 x9 (G.wrap .i64 (a12 + 1)) s0 (s2.set (0 + ((Int.toNat a13) * 1)) (.bool true)) h)) else none else none := by kernel_rfl
theorem jacquardlaw9_OrderGreedy_r3 (C : CallF) (L : LoopF) (G : Glo) (a0 : Int) (x2 : Cell) (x9 : Cell) (a12 : Int) (s0 : List Cell) (s2 : List Cell) (h : AHeap) :
    jacquardlaw9_OrderGreedy_F3 C L G (jacquardlaw9_OrderGreedy_s3 a0 x2 x9 a12 s0 s2 h) =
    lenK x9 fun n_30 => if (decide (a12 < n_30)) = true then (L (jacquardlaw9_OrderGreedy_F2 C L G) (jacquardlaw9_OrderGreedy_s2 a0 x2 x9 a12 (-1) 0 s0 s2 h)).bind fun p_56 => (jacquardlaw9_OrderGreedy_k7 C L G) p_56.1 p_56.2 else some ((.exit 0), (jacquardlaw9_OrderGreedy_x3_1 h)) := by kernel_rfl
theorem jacquardlaw9_OrderGreedy_e3_0 (C : CallF) (L : LoopF) (G : Glo) (h0 : AHeap) (b6 : Bool) (h : AHeap) :
    (jacquardlaw9_OrderGreedy_k3 C L G h0) .ret (jacquardlaw9_OrderGreedy_x3_0 b6 h) =
    some ([(.c (.bool b6))], h) := by kernel_rfl
theorem jacquardlaw9_OrderGreedy_e3_1 (C : CallF) (L : LoopF) (G : Glo) (h0 : AHeap) (h : AHeap) :
    (jacquardlaw9_OrderGreedy_k3 C L G h0) (.exit 0) (jacquardlaw9_OrderGreedy_x3_1 h) =
    c1 (C 24 [] h) fun y_58 h_57 => asB y_58 fun b_59 => some ([(.c (.bool b_59))], h_57) := by kernel_rfl
set_option maxRecDepth 100000 in
theorem jacquardlaw9_OrderGreedy_eq (C : CallF) (L : LoopF) (G : Glo) (a0 : Int) (x1 : Cell) (x2 : Cell) (h0 : AHeap) :
    jacquardlaw9_OrderGreedy.body C L G [(.c (.int .i64 a0)), (.c x1), (.c x2)] h0 =
    let v_1 : Int := (if 64 < (if 0 > a0 then 0 else a0) then 64 else (if 0 > a0 then 0 else a0)); lenK x2 fun n_2 => if (decide (n_2 > 200)) = true then c1 (C 24 [] h0) fun y_4 h_3 => asB y_4 fun b_5 => some ([(.c (.bool b_5))], h_3) else c2 (C 1 [(.c (.int .i64 v_1)), (.c x1)] h0) fun y_7 y_8 h_6 => asA y_7 fun l_9 => asA y_8 fun l_10 => if 0 = 0 ∧ ([Cell.int .i64 0] ++ List.replicate 64 (Cell.int .u64 0)).length = 65 ∧ l_9.length = 65 then if 0 = 0 ∧ ([Cell.int .i64 0] ++ List.replicate 64 (Cell.int .u64 0)).length = 65 ∧ l_10.length = 65 then if 0 = 0 ∧ l_9.length = 65 then c2 (C 27 [(.agg l_9), (.c x2)] h_6) fun y_12 y_13 h_11 => asC y_12 fun x_14 => asB y_13 fun b_15 => if 0 = 0 ∧ l_9.length = 65 then c1 (C 26 [(.agg l_9)] h_11) fun y_17 h_16 => asB y_17 fun b_18 => scK (!(b_15 == b_18)) false (scK (!b_15) true (lenK x_14 fun n_19 => some ((n_19 != 0), h_16)) false h_16 fun b_20 h_21 => some (b_20, h_21)) true h_16 fun b_22 h_23 => if b_22 = true then some ([(.c (.bool false))], h_23) else if (!b_15) = true then c1 (C 24 [] h_23) fun y_25 h_24 => asB y_25 fun b_26 => some ([(.c (.bool b_26))], h_24) else if 0 = 0 ∧ l_9.length = 65 then c1 (C 25 [(.agg l_9), (.c x_14)] h_23) fun y_28 h_27 => asB y_28 fun b_29 => if (!b_29) = true then some ([(.c (.bool false))], h_27) else (L (jacquardlaw9_OrderGreedy_F3 C L G) (jacquardlaw9_OrderGreedy_s3 v_1 x2 x_14 0 l_9 (List.replicate 64 (Cell.bool false)) h_27)).bind fun p_60 => (jacquardlaw9_OrderGreedy_k3 C L G h0) p_60.1 p_60.2 else none else none else none else none else none := by kernel_rfl

/- jacquard/jacquardlaw9.OrderCounts: 250 -/
def jacquardlaw9_OrderCounts_k2 (C : CallF) (L : LoopF) (G : Glo) (h0 : AHeap) : Ex → St → Option (List AV × AHeap) :=
  kSeq (fun st => jacquardlaw9_OrderCounts_p1.exec C L G st (jacquardlaw9_OrderCounts.fin G h0)) (jacquardlaw9_OrderCounts.fin G h0)
def jacquardlaw9_OrderCounts_k3 (C : CallF) (L : LoopF) (G : Glo) (h0 : AHeap) : Ex → St → Option (List AV × AHeap) :=
  kBlk 0 (jacquardlaw9_OrderCounts_k2 C L G h0)
def jacquardlaw9_OrderCounts_s1 (a0 : Int) (a3 : Int) (a5 : Int) (s0 : List Cell) (h : AHeap) : St := ⟨[.v (.c (.int .i64 a0)), .top, .top, .v (.c (.int .i64 a3)), .loc 0 0, .v (.c (.int .i64 a5)), .top, .top, .top, .top, .top, .top, .top, .top, .top, .top, .top, .top, .top, .top, .top, .top, .top, .top, .top, .top, .top, .top, .top, .top, .top, .top, .top, .top, .top, .top, .top, .top, .top, .top, .top, .top, .top, .top, .top, .top, .top, .top, .top, .top, .top, .top, .top, .top, .top, .top, .top, .top, .top, .top, .top, .top, .top, .top, .top, .top, .top, .top, .top, .top, .top, .top, .top], [some s0], h⟩
def jacquardlaw9_OrderCounts_F1 (C : CallF) (L : LoopF) (G : Glo) : St → Option (Ex × St) :=
  roundF (fun st f => jacquardlaw9_OrderCounts_b1.exec C L G st f) [0, 3, 4, 5] [0] [(1, [0, 3, 4], [0])]
def jacquardlaw9_OrderCounts_x1_1 (a0 : Int) (a3 : Int) (s0 : List Cell) (h : AHeap) : St := ⟨[.v (.c (.int .i64 a0)), .top, .top, .v (.c (.int .i64 a3)), .loc 0 0, .top, .top, .top, .top, .top, .top, .top, .top, .top, .top, .top, .top, .top, .top, .top, .top, .top, .top, .top, .top, .top, .top, .top, .top, .top, .top, .top, .top, .top, .top, .top, .top, .top, .top, .top, .top, .top, .top, .top, .top, .top, .top, .top, .top, .top, .top, .top, .top, .top, .top, .top, .top, .top, .top, .top, .top, .top, .top, .top, .top, .top, .top, .top, .top, .top, .top, .top, .top], [some s0], h⟩
theorem jacquardlaw9_OrderCounts_r1 (C : CallF) (L : LoopF) (G : Glo) (a0 : Int) (a3 : Int) (a5 : Int) (s0 : List Cell) (h : AHeap) :
    jacquardlaw9_OrderCounts_F1 C L G (jacquardlaw9_OrderCounts_s1 a0 a3 a5 s0 h) =
    if (decide (a5 < a0)) = true then let v_4 : Int := (G.wrap .i64 (a3 * (G.wrap .i64 (a5 + 1)))); if (decide (a5 > 0)) = true then if 0 = 0 ∧ s0.length = 65 then c1 (C 10 [(.agg s0), (.c (.int .i64 (G.wrap .i64 (a5 - 1)))), (.c (.int .i64 a5))] h) fun y_6 h_5 => asA y_6 fun l_7 => if 0 = 0 ∧ s0.length = 65 ∧ l_7.length = 65 then some (.normal, (jacquardlaw9_OrderCounts_s1 a0 v_4 (G.wrap .i64 (a5 + 1)) l_7 h_5)) else none else none else some (.normal, (jacquardlaw9_OrderCounts_s1 a0 v_4 (G.wrap .i64 (a5 + 1)) s0 h)) else some ((.exit 0), (jacquardlaw9_OrderCounts_x1_1 a0 a3 s0 h)) := by kernel_rfl
theorem jacquardlaw9_OrderCounts_e1_1 (C : CallF) (L : LoopF) (G : Glo) (h0 : AHeap) (a0 : Int) (a3 : Int) (s0 : List Cell) (h : AHeap) :
    (jacquardlaw9_OrderCounts_k3 C L G h0) (.exit 0) (jacquardlaw9_OrderCounts_x1_1 a0 a3 s0 h) =
    if 0 = 0 ∧ s0.length = 65 then c2 (C 29 [(.agg s0)] h) fun y_9 y_10 h_8 => asC y_9 fun x_11 => asB y_10 fun b_12 => c1 (C 9 [(.c (.int .i64 a0))] h_8) fun y_14 h_13 => asA y_14 fun l_15 => c1 (C 23 [(.agg l_15), (.c (.int .i64 100000))] h_13) fun y_17 h_16 => asI .i64 y_17 fun n_18 => scK (n_18 == a3) true (if 0 = 0 ∧ s0.length = 65 then c1 (C 23 [(.agg s0), (.c (.int .i64 10))] h_16) fun y_20 h_19 => asI .i64 y_20 fun n_21 => some ((n_21 == 1), h_19) else none) false h_16 fun b_22 h_23 => scK b_22 true (c1 (C 9 [(.c (.int .i64 a0))] h_23) fun y_25 h_24 => asA y_25 fun l_26 => c1 (C 23 [(.agg l_26), (.c (.int .i64 (G.wrap .i64 (a3 - 1))))] h_24) fun y_28 h_27 => asI .i64 y_28 fun n_29 => some ((n_29 == (G.wrap .i64 (a3 - 1))), h_27)) false h_23 fun b_30 h_31 => scK b_30 true (if 0 = 0 ∧ s0.length = 65 then c1 (C 10 [(.agg s0), (.c (.int .i64 0)), (.c (.int .i64 0))] h_31) fun y_33 h_32 => asA y_33 fun l_34 => c1 (C 23 [(.agg l_34), (.c (.int .i64 9))] h_32) fun y_36 h_35 => asI .i64 y_36 fun n_37 => c1 (C 30 [(.c (.int .i64 a0))] h_35) fun y_39 h_38 => asI .i64 y_39 fun n_40 => some ((n_37 == n_40), h_38) else none) false h_31 fun b_41 h_42 => scK b_41 true (some (b_12, h_42)) false h_42 fun b_43 h_44 => scK b_43 true (lenK x_11 fun n_45 => some ((n_45 == a0), h_44)) false h_44 fun b_46 h_47 => scK b_46 true (c1 (C 24 [] h_47) fun y_49 h_48 => asB y_49 fun b_50 => some (b_50, h_48)) false h_47 fun b_51 h_52 => some ([(.c (.bool b_51))], h_52) else none := by kernel_rfl
set_option maxRecDepth 100000 in
theorem jacquardlaw9_OrderCounts_eq (C : CallF) (L : LoopF) (G : Glo) (a0 : Int) (h0 : AHeap) :
    jacquardlaw9_OrderCounts.body C L G [(.c (.int .i64 a0))] h0 =
    c1 (C 9 [(.c (.int .i64 (G.band .i64 a0 7)))] h0) fun y_2 h_1 => asA y_2 fun l_3 => if 0 = 0 ∧ ([Cell.int .i64 0] ++ List.replicate 64 (Cell.int .u64 0)).length = 65 ∧ l_3.length = 65 then (L (jacquardlaw9_OrderCounts_F1 C L G) (jacquardlaw9_OrderCounts_s1 (G.band .i64 a0 7) 1 0 l_3 h_1)).bind fun p_53 => (jacquardlaw9_OrderCounts_k3 C L G h0) p_53.1 p_53.2 else none := by kernel_rfl

/- jacquard/jacquardlaw9.OrderAll: 251 -/
def jacquardlaw9_OrderAll_k2 (C : CallF) (L : LoopF) (G : Glo) (h0 : AHeap) : Ex → St → Option (List AV × AHeap) :=
  kSeq (fun st => jacquardlaw9_OrderAll_p1.exec C L G st (jacquardlaw9_OrderAll.fin G h0)) (jacquardlaw9_OrderAll.fin G h0)
def jacquardlaw9_OrderAll_k3 (C : CallF) (L : LoopF) (G : Glo) (h0 : AHeap) : Ex → St → Option (List AV × AHeap) :=
  kBlk 0 (jacquardlaw9_OrderAll_k2 C L G h0)
def jacquardlaw9_OrderAll_s2 (a0 : Int) (x9 : Cell) (x10 : Cell) (a11 : Int) (s0 : List Cell) (h : AHeap) : St := ⟨[.v (.c (.int .i64 a0)), .top, .top, .top, .top, .top, .top, .loc 0 0, .top, .v (.c x9), .v (.c x10), .v (.c (.int .i64 a11)), .top, .top, .top, .top, .top, .top, .top, .top, .top, .top, .top, .top, .top, .top, .top, .top, .top, .top, .top, .top, .top, .top, .top, .top, .top, .top, .top, .top, .top, .top, .top, .top, .top, .top, .top, .top, .top, .top, .top, .top, .top, .top, .top, .top, .top, .top, .top, .top, .top, .top, .top, .top, .top, .top, .top, .top, .top, .top, .top, .top, .top, .top, .top, .top, .top, .top, .top, .top, .top, .top, .top, .top, .top, .top, .top, .top, .top, .top, .top, .top, .top, .top, .top, .top, .top, .top, .top, .top, .top, .top, .top, .top, .top, .top, .top, .top, .top, .top, .top, .top, .top, .top, .top, .top, .top, .top, .top, .top, .top, .top, .top, .top, .top], [some s0, none], h⟩
def jacquardlaw9_OrderAll_F2 (C : CallF) (L : LoopF) (G : Glo) : St → Option (Ex × St) :=
  roundF (fun st f => jacquardlaw9_OrderAll_b2.exec C L G st f) [0, 7, 9, 10, 11] [0] [(0, [6], []), (1, [7], [0])]
def jacquardlaw9_OrderAll_k4 (C : CallF) (L : LoopF) (G : Glo) : Ex → St → Option (Ex × St) :=
  kSeq (fun st => jacquardlaw9_OrderAll_p2.exec C L G st (kLoop [0, 7, 9, 10, 11] [0] [(0, [6], []), (1, [7], [0])])) (kLoop [0, 7, 9, 10, 11] [0] [(0, [6], []), (1, [7], [0])])
def jacquardlaw9_OrderAll_k5 (C : CallF) (L : LoopF) (G : Glo) : Ex → St → Option (Ex × St) :=
  kBlk 1 (jacquardlaw9_OrderAll_k4 C L G)
def jacquardlaw9_OrderAll_k6 (C : CallF) (L : LoopF) (G : Glo) : Ex → St → Option (Ex × St) :=
  kBlk 2 (jacquardlaw9_OrderAll_k5 C L G)
def jacquardlaw9_OrderAll_s1 (a0 : Int) (x9 : Cell) (x10 : Cell) (a11 : Int) (a12 : Int) (s0 : List Cell) (h : AHeap) : St := ⟨[.v (.c (.int .i64 a0)), .top, .top, .top, .top, .top, .top, .loc 0 0, .top, .v (.c x9), .v (.c x10), .v (.c (.int .i64 a11)), .v (.c (.int .i64 a12)), .top, .top, .top, .top, .top, .top, .top, .top, .top, .top, .top, .top, .top, .top, .top, .top, .top, .top, .top, .top, .top, .top, .top, .top, .top, .top, .top, .top, .top, .top, .top, .top, .top, .top, .top, .top, .top, .top, .top, .top, .top, .top, .top, .top, .top, .top, .top, .top, .top, .top, .top, .top, .top, .top, .top, .top, .top, .top, .top, .top, .top, .top, .top, .top, .top, .top, .top, .top, .top, .top, .top, .top, .top, .top, .top, .top, .top, .top, .top, .top, .top, .top, .top, .top, .top, .top, .top, .top, .top, .top, .top, .top, .top, .top, .top, .top, .top, .top, .top, .top, .top, .top, .top, .top, .top, .top, .top, .top, .top, .top, .top, .top], [some s0, none], h⟩
def jacquardlaw9_OrderAll_F1 (C : CallF) (L : LoopF) (G : Glo) : St → Option (Ex × St) :=
  roundF (fun st f => jacquardlaw9_OrderAll_b1.exec C L G st f) [0, 7, 9, 10, 11, 12] [0] [(0, [6], []), (3, [0, 7, 9, 10, 11], [0])]
def jacquardlaw9_OrderAll_x1_0 (b6 : Bool) (h : AHeap) : St := ⟨[.top, .top, .top, .top, .top, .top, .v (.c (.bool b6)), .top, .top, .top, .top, .top, .top, .top, .top, .top, .top, .top, .top, .top, .top, .top, .top, .top, .top, .top, .top, .top, .top, .top, .top, .top, .top, .top, .top, .top, .top, .top, .top, .top, .top, .top, .top, .top, .top, .top, .top, .top, .top, .top, .top, .top, .top, .top, .top, .top, .top, .top, .top, .top, .top, .top, .top, .top, .top, .top, .top, .top, .top, .top, .top, .top, .top, .top, .top, .top, .top, .top, .top, .top, .top, .top, .top, .top, .top, .top, .top, .top, .top, .top, .top, .top, .top, .top, .top, .top, .top, .top, .top, .top, .top, .top, .top, .top, .top, .top, .top, .top, .top, .top, .top, .top, .top, .top, .top, .top, .top, .top, .top, .top, .top, .top, .top, .top, .top], [none, none], h⟩
def jacquardlaw9_OrderAll_x1_3 (a0 : Int) (x9 : Cell) (x10 : Cell) (a11 : Int) (s0 : List Cell) (h : AHeap) : St := ⟨[.v (.c (.int .i64 a0)), .top, .top, .top, .top, .top, .top, .loc 0 0, .top, .v (.c x9), .v (.c x10), .v (.c (.int .i64 a11)), .top, .top, .top, .top, .top, .top, .top, .top, .top, .top, .top, .top, .top, .top, .top, .top, .top, .top, .top, .top, .top, .top, .top, .top, .top, .top, .top, .top, .top, .top, .top, .top, .top, .top, .top, .top, .top, .top, .top, .top, .top, .top, .top, .top, .top, .top, .top, .top, .top, .top, .top, .top, .top, .top, .top, .top, .top, .top, .top, .top, .top, .top, .top, .top, .top, .top, .top, .top, .top, .top, .top, .top, .top, .top, .top, .top, .top, .top, .top, .top, .top, .top, .top, .top, .top, .top, .top, .top, .top, .top, .top, .top, .top, .top, .top, .top, .top, .top, .top, .top, .top, .top, .top, .top, .top, .top, .top, .top, .top, .top, .top, .top, .top], [some s0, none], h⟩
def jacquardlaw9_OrderAll_x2_0 (b6 : Bool) (h : AHeap) : St := ⟨[.top, .top, .top, .top, .top, .top, .v (.c (.bool b6)), .top, .top, .top, .top, .top, .top, .top, .top, .top, .top, .top, .top, .top, .top, .top, .top, .top, .top, .top, .top, .top, .top, .top, .top, .top, .top, .top, .top, .top, .top, .top, .top, .top, .top, .top, .top, .top, .top, .top, .top, .top, .top, .top, .top, .top, .top, .top, .top, .top, .top, .top, .top, .top, .top, .top, .top, .top, .top, .top, .top, .top, .top, .top, .top, .top, .top, .top, .top, .top, .top, .top, .top, .top, .top, .top, .top, .top, .top, .top, .top, .top, .top, .top, .top, .top, .top, .top, .top, .top, .top, .top, .top, .top, .top, .top, .top, .top, .top, .top, .top, .top, .top, .top, .top, .top, .top, .top, .top, .top, .top, .top, .top, .top, .top, .top, .top, .top, .top], [none, none], h⟩
def jacquardlaw9_OrderAll_x2_1 (s0 : List Cell) (h : AHeap) : St := ⟨[.top, .top, .top, .top, .top, .top, .top, .loc 0 0, .top, .top, .top, .top, .top, .top, .top, .top, .top, .top, .top, .top, .top, .top, .top, .top, .top, .top, .top, .top, .top, .top, .top, .top, .top, .top, .top, .top, .top, .top, .top, .top, .top, .top, .top, .top, .top, .top, .top, .top, .top, .top, .top, .top, .top, .top, .top, .top, .top, .top, .top, .top, .top, .top, .top, .top, .top, .top, .top, .top, .top, .top, .top, .top, .top, .top, .top, .top, .top, .top, .top, .top, .top, .top, .top, .top, .top, .top, .top, .top, .top, .top, .top, .top, .top, .top, .top, .top, .top, .top, .top, .top, .top, .top, .top, .top, .top, .top, .top, .top, .top, .top, .top, .top, .top, .top, .top, .top, .top, .top, .top, .top, .top, .top, .top, .top, .top], [some s0, none], h⟩
theorem jacquardlaw9_OrderAll_r1 (C : CallF) (L : LoopF) (G : Glo) (a0 : Int) (x9 : Cell) (x10 : Cell) (a11 : Int) (a12 : Int) (s0 : List Cell) (h : AHeap) :
    jacquardlaw9_OrderAll_F1 C L G (jacquardlaw9_OrderAll_s1 a0 x9 x10 a11 a12 s0 h) =
    if (decide (a12 < a0)) = true then idxSK 1 x9 a11 fun k_22 N_23 o_24 => rdH h k_22 N_23 fun l_25 => atK l_25 o_24 fun q_26 => lenK q_26 fun n_27 => scK (n_27 != a0) false (idxSK 1 x9 a11 fun k_28 N_29 o_30 => rdH h k_28 N_29 fun l_31 => atK l_31 o_30 fun q_32 => idxSK 1 q_32 a12 fun k_33 N_34 o_35 => rdH h k_33 N_34 fun l_36 => atK l_36 o_35 fun q_37 => asI .i64 (.c q_37) fun n_38 => idxSK 1 x10 a11 fun k_39 N_40 o_41 => rdH h k_39 N_40 fun l_42 => atK l_42 o_41 fun q_43 => idxSK 1 q_43 a12 fun k_44 N_45 o_46 => rdH h k_44 N_45 fun l_47 => atK l_47 o_46 fun q_48 => asI .i64 (.c q_48) fun n_49 => some ((n_38 != n_49), h)) true h fun b_50 h_51 => if b_50 = true then some (.ret, (jacquardlaw9_OrderAll_x1_0 false h_51)) else some (.normal, (jacquardlaw9_OrderAll_s1 a0 x9 x10 a11 (G.wrap .i64 (a12 + 1)) s0 h_51)) else some ((.exit 2), (jacquardlaw9_OrderAll_x1_3 a0 x9 x10 a11 s0 h)) := by kernel_rfl
theorem jacquardlaw9_OrderAll_e1_0 (C : CallF) (L : LoopF) (G : Glo) (b6 : Bool) (h : AHeap) :
    (jacquardlaw9_OrderAll_k6 C L G) .ret (jacquardlaw9_OrderAll_x1_0 b6 h) =
    some (.ret, (jacquardlaw9_OrderAll_x2_0 b6 h)) := by kernel_rfl
theorem jacquardlaw9_OrderAll_e1_3 (C : CallF) (L : LoopF) (G : Glo) (a0 : Int) (x9 : Cell) (x10 : Cell) (a11 : Int) (s0 : List Cell) (h : AHeap) :
    (jacquardlaw9_OrderAll_k6 C L G) (.exit 2) (jacquardlaw9_OrderAll_x1_3 a0 x9 x10 a11 s0 h) =
    some (.normal, (jacquardlaw9_OrderAll_s2 a0 x9 x10 (G.wrap .i64 (a11 + 1)) s0 h)) := by kernel_rfl
theorem jacquardlaw9_OrderAll_r2 (C : CallF) (L : LoopF) (G : Glo) (a0 : Int) (x9 : Cell) (x10 : Cell) (a11 : Int) (s0 : List Cell) (h : AHeap) :
    jacquardlaw9_OrderAll_F2 C L G (jacquardlaw9_OrderAll_s2 a0 x9 x10 a11 s0 h) =
    lenK x9 fun n_21 => if (decide (a11 < n_21)) = true then (L (jacquardlaw9_OrderAll_F1 C L G) (jacquardlaw9_OrderAll_s1 a0 x9 x10 a11 0 s0 h)).bind fun p_52 => (jacquardlaw9_OrderAll_k6 C L G) p_52.1 p_52.2 else some ((.exit 0), (jacquardlaw9_OrderAll_x2_1 s0 h)) := by kernel_rfl
theorem jacquardlaw9_OrderAll_e2_0 (C : CallF) (L : LoopF) (G : Glo) (h0 : AHeap) (b6 : Bool) (h : AHeap) :
    (jacquardlaw9_OrderAll_k3 C L G h0) .ret (jacquardlaw9_OrderAll_x2_0 b6 h) =
    some ([(.c (.bool b6))], h) := by kernel_rfl
theorem jacquardlaw9_OrderAll_e2_1 (C : CallF) (L : LoopF) (G : Glo) (h0 : AHeap) (s0 : List Cell) (h : AHeap) :
    (jacquardlaw9_OrderAll_k3 C L G h0) (.exit 0) (jacquardlaw9_OrderAll_x2_1 s0 h) =
    if 0 = 0 ∧ s0.length = 65 then c2 (C 29 [(.agg s0)] h) fun y_54 y_55 h_53 => asC y_54 fun x_56 => asB y_55 fun b_57 => if 0 = 0 ∧ s0.length = 65 then c1 (C 31 [(.agg s0), (.c .nils), (.c .nils), (.c (.int .i64 1))] h_53) fun y_59 h_58 => asC y_59 fun x_60 => lenK x_60 fun n_61 => scK (!(b_57 == (n_61 == 1))) false (if 0 = 0 ∧ s0.length = 65 then c1 (C 26 [(.agg s0)] h_58) fun y_63 h_62 => asB y_63 fun b_64 => some ((!(b_57 == b_64)), h_62) else none) true h_58 fun b_65 h_66 => scK b_65 false (scK (!b_57) true (lenK x_56 fun n_67 => some ((n_67 != 0), h_66)) false h_66 fun b_68 h_69 => some (b_68, h_69)) true h_66 fun b_70 h_71 => if b_70 = true then some ([(.c (.bool false))], h_71) else scK (!b_57) false (if 0 = 0 ∧ s0.length = 65 then c1 (C 25 [(.agg s0), (.c x_56)] h_71) fun y_73 h_72 => asB y_73 fun b_74 => scK b_74 true (if 0 = 0 ∧ s0.length = 65 then c1 (C 22 [(.agg s0), (.c x_56)] h_72) fun y_76 h_75 => asB y_76 fun b_77 => some (b_77, h_75) else none) false h_72 fun b_78 h_79 => some (b_78, h_79) else none) true h_71 fun b_80 h_81 => scK b_80 true (c1 (C 24 [] h_81) fun y_83 h_82 => asB y_83 fun b_84 => some (b_84, h_82)) false h_81 fun b_85 h_86 => some ([(.c (.bool b_85))], h_86) else none else none := by kernel_rfl
set_option maxRecDepth 100000 in
theorem jacquardlaw9_OrderAll_eq (C : CallF) (L : LoopF) (G : Glo) (a0 : Int) (x1 : Cell) (a2 : Int) (h0 : AHeap) :
    jacquardlaw9_OrderAll.body C L G [(.c (.int .i64 a0)), (.c x1), (.c (.int .i64 a2))] h0 =
    c2 (C 1 [(.c (.int .i64 (G.rem .i64 (G.band .i64 a0 255) 7))), (.c x1)] h0) fun y_2 y_3 h_1 => asA y_2 fun l_4 => asA y_3 fun l_5 => if 0 = 0 ∧ ([Cell.int .i64 0] ++ List.replicate 64 (Cell.int .u64 0)).length = 65 ∧ l_4.length = 65 then if 0 = 0 ∧ ([Cell.int .i64 0] ++ List.replicate 64 (Cell.int .u64 0)).length = 65 ∧ l_5.length = 65 then let v_6 : Int := (G.wrap .i64 ((G.band .i64 a2 1023) - 5)); if 0 = 0 ∧ l_4.length = 65 then c1 (C 21 [(.agg l_4), (.c (.int .i64 v_6))] h_1) fun y_8 h_7 => asC y_8 fun x_9 => if 0 = 0 ∧ l_4.length = 65 then c1 (C 31 [(.agg l_4), (.c .nils), (.c .nils), (.c (.int .i64 (if 0 > v_6 then 0 else v_6)))] h_7) fun y_11 h_10 => asC y_11 fun x_12 => lenK x_9 fun n_13 => lenK x_12 fun n_14 => scK (n_13 != n_14) false (if 0 = 0 ∧ l_4.length = 65 then c1 (C 23 [(.agg l_4), (.c (.int .i64 v_6))] h_10) fun y_16 h_15 => asI .i64 y_16 fun n_17 => lenK x_12 fun n_18 => some ((n_17 != n_18), h_15) else none) true h_10 fun b_19 h_20 => if b_19 = true then some ([(.c (.bool false))], h_20) else (L (jacquardlaw9_OrderAll_F2 C L G) (jacquardlaw9_OrderAll_s2 (G.rem .i64 (G.band .i64 a0 255) 7) x_9 x_12 0 l_4 h_20)).bind fun p_87 => (jacquardlaw9_OrderAll_k3 C L G h0) p_87.1 p_87.2 else none else none else none else none := by kernel_rfl


end Jq

/- jacquardlaw9.keeps tells what order.Keeps tells; jacquardlaw9.awake. -/
namespace Jq
open Go

/-- Places, one behind the other. -/
def posC (P : Nat → Int) : List Cell := (List.range 64).map fun j => .int .i64 (P j)

theorem posC_len (P : Nat → Int) : (posC P).length = 64 := by simp [posC]
theorem posC_get {P : Nat → Int} {i : Nat} (hi : i < 64) : (posC P)[i]? = some (.int .i64 (P i)) := by
  rw [posC, List.getElem?_map, List.getElem?_range hi]; rfl
def updP (P : Nat → Int) (i : Nat) (v : Int) : Nat → Int := fun j => if j = i then v else P j
theorem posC_set {P : Nat → Int} {i : Nat} {v : Int} : (posC P).set i (.int .i64 v) = posC (updP P i v) := by
  refine List.ext_getElem? fun j => ?_
  rw [List.getElem?_set, posC_len]
  by_cases hj : j < 64
  · rw [posC_get hj, posC_get hj]
    unfold updP
    by_cases hij : i = j
    · subst hij; simp [hj]
    · have : ¬ j = i := fun h => hij h.symm
      rw [if_neg hij, if_neg this]
  · rw [List.getElem?_eq_none (by rw [posC_len]; omega), List.getElem?_eq_none (by rw [posC_len]; omega)]
    split
    · rw [if_neg (by omega)]
    · rfl
theorem posC_zero : List.replicate 64 (Cell.int .i64 0) = posC fun _ => 0 := by
  refine List.ext_getElem? fun j => ?_
  by_cases hj : j < 64
  · rw [posC_get hj, List.getElem?_replicate, if_pos hj]
  · rw [List.getElem?_replicate, if_neg hj, List.getElem?_eq_none (by rw [posC_len]; omega)]
theorem posC_congr {P Q : Nat → Int} (h : ∀ i, i < 64 → P i = Q i) : posC P = posC Q := List.map_congr_left fun j hj => by rw [h j (by simpa using hj)]

/-- Where each stands, or none where one stands twice or is none. -/
def scanP (n : Nat) : List Int → Nat → (Nat → Int) → Option (Nat → Int)
  | [], _, P => some P
  | v :: t, i, P => if (decide (v < 0) || decide (v ≥ (n : Int)) || decide (P v.toNat ≥ 0)) = true then none else scanP n t (i + 1) (updP P v.toNat i)

def pairsK (n : Nat) (f : Nat → Nat) (P : Nat → Int) : Bool := !((List.range n).any fun a => (List.range n).any fun b => (f a).testBit b && decide (P a ≥ P b))

def keepsB (n : Nat) (f : Nat → Nat) (l : List Int) : Bool := decide (l.length = n) && match scanP n l 0 (fun _ => -1) with
  | none => false
  | some P => pairsK n f P

/-- What stands while scanning. -/
def PosI (l : List Int) (i : Nat) (P : Nat → Int) : Prop := ∀ w : Nat, (P w = -1 ∧ ∀ k : Nat, k < i → l[k]? ≠ some (w : Int)) ∨ ∃ k : Nat, k < i ∧ P w = (k : Int) ∧ l[k]? = some (w : Int)

theorem scanP_good {n : Nat} (l : List Int) : ∀ (t : List Int) (i : Nat) (P : Nat → Int), l.drop i = t → PosI l i P → good n l i →
    (∃ Q, scanP n t i P = some Q ∧ PosI l l.length Q ∧ good n l l.length) ∨ (scanP n t i P = none ∧ ¬ good n l l.length) := by
  intro t
  induction t with
  | nil =>
    intro i P hd hi g
    have hl := len_of_drop0 hd
    have none_at : ∀ k, l.length ≤ k → ∀ w, l[k]? ≠ some w := fun k hk w e => by have := get_lt e; omega
    refine .inl ⟨P, rfl, fun w => ?_, ⟨fun k v hk => g.1 k v (by omega), fun j k v hj hk => g.2 j k v hj (by omega)⟩⟩
    rcases hi w with ⟨h1, h2⟩ | ⟨k, hk, h1, h2⟩
    · exact .inl ⟨h1, fun k hk => h2 k (by omega)⟩
    · exact .inr ⟨k, get_lt h2, h1, h2⟩
  | cons v t ih =>
    intro i P hd hi g
    obtain ⟨h1, h2, h3⟩ := len_of_drop hd
    rw [scanP]
    by_cases hc : (decide (v < 0) || decide (v ≥ (n : Int)) || decide (P v.toNat ≥ 0)) = true
    · rw [if_pos hc]
      refine .inr ⟨rfl, fun gg => ?_⟩
      simp only [Bool.or_eq_true, decide_eq_true_eq] at hc
      obtain ⟨b0, b1⟩ := gg.1 i v h1 h2
      rcases hc with (hc | hc) | hc
      · omega
      · omega
      · rcases hi v.toNat with ⟨e, _⟩ | ⟨k, hk, _, hk2⟩
        · omega
        · rw [show ((v.toNat : Nat) : Int) = v by omega] at hk2
          exact gg.2 k i v hk h1 hk2 h2
    · rw [if_neg hc]
      simp only [Bool.or_eq_true, decide_eq_true_eq, not_or] at hc
      obtain ⟨⟨b0, b1⟩, b2⟩ := hc
      have hvv : ((v.toNat : Nat) : Int) = v := by omega
      have hne : ∀ k : Nat, k < i → l[k]? ≠ some v := by
        rcases hi v.toNat with ⟨_, h⟩ | ⟨k, _, e, _⟩
        · rw [hvv] at h; exact h
        · omega
      refine ih (i + 1) _ h3 (fun w => ?_) (good_succ g h2 (by omega) (by omega) hne)
      unfold updP
      by_cases e : w = v.toNat
      · rw [if_pos e]
        exact .inr ⟨i, by omega, rfl, by rw [e, hvv]; exact h2⟩
      · rw [if_neg e]
        rcases hi w with ⟨q1, q2⟩ | ⟨k, hk, q1, q2⟩
        · refine .inl ⟨q1, fun k hk => ?_⟩
          by_cases ek : k = i
          · subst ek; rw [h2]; intro e2
            have : v = (w : Int) := by simpa using e2
            omega
          · exact q2 k (by omega)
        · exact .inr ⟨k, by omega, q1, q2⟩

theorem ints_of_good {n : Nat} {l : List Int} (g : good n l l.length) : ∃ r : List Nat, l = ints r := by
  refine ⟨l.map Int.toNat, ?_⟩
  unfold ints
  rw [List.map_map]
  refine (List.ext_getElem? fun j => ?_)
  rw [List.getElem?_map]
  cases h : l[j]? with
  | none => rfl
  | some v =>
    have := g.1 j v (get_lt h) h
    simp; omega

theorem keepsB_eq {n : Nat} (hn : n ≤ 64) {f : Nat → Nat} (hf : Fit n f) (l : List Int) : keepsB n f l = (decide (l.length = n) && kpR n (INV n f) l 0) := by
  unfold keepsB
  by_cases hl : l.length = n
  · rw [show decide (l.length = n) = true by simpa using hl, Bool.true_and, Bool.true_and]
    rcases scanP_good l l 0 (fun _ => -1) rfl (fun w => .inl ⟨rfl, fun k hk => by omega⟩) ⟨fun k v h => by omega, fun j k v _ h => by omega⟩ with ⟨P, hs, hP, g⟩ | ⟨hs, hg⟩
    · rw [hs]
      obtain ⟨r, rfl⟩ := ints_of_good g
      rw [ints_len] at hl g
      obtain ⟨g1, g2⟩ := good_nodup g
      have hpos : ∀ a j : Nat, r[j]? = some a → P a = (j : Int) := by
        intro a j hj
        have hj' : (ints r)[j]? = some (a : Int) := ints_some.2 hj
        rcases hP a with ⟨_, h⟩ | ⟨k, _, e, hk⟩
        · exact absurd hj' (h j (get_lt hj'))
        · rw [e, nodup_get g1 (ints_some.1 hk) hj]
      show pairsK n f P = _
      rw [Bool.eq_iff_iff, kpR_ord hn hl]
      unfold pairsK
      rw [Bool.not_eq_true', ← Bool.not_eq_true, List.any_eq_true]
      constructor
      · intro h
        refine ⟨hl, g1, g2, fun a b ha hab j hj => ?_⟩
        obtain ⟨k, hk⟩ := List.getElem?_of_mem (full_mem g1 g2 hl ha)
        refine ⟨k, ?_, hk⟩
        refine Classical.byContradiction fun hc => h ⟨a, by simpa using ha, ?_⟩
        rw [List.any_eq_true]
        refine ⟨b, by simpa using g2 b (List.mem_of_getElem? hj), ?_⟩
        rw [hab, hpos a k hk, hpos b j hj]
        simp; omega
      · rintro o ⟨a, ha, h⟩
        rw [List.any_eq_true] at h
        obtain ⟨b, hb, hab⟩ := h
        simp only [Bool.and_eq_true, decide_eq_true_eq, List.mem_range] at ha hb hab
        obtain ⟨j, hj⟩ := List.getElem?_of_mem (full_mem g1 g2 hl hb)
        obtain ⟨k, hk, hk2⟩ := o.ahead a b ha hab.1 j hj
        rw [hpos a k hk2, hpos b j hj] at hab
        omega
    · rw [hs]
      symm
      show kpR n (INV n f) l 0 = false
      rw [← Bool.not_eq_true, kpR_iff hn]
      exact fun h => hg h.1
  · rw [show decide (l.length = n) = false by simpa using hl]; rfl

section
variable {E : Env}

theorem hasR_nat {n : Nat} {f : Nat → Nat} {a b : Nat} (ha : a < n) (hb : b < 64) : hasR n f (a : Int) (b : Int) = (f a).testBit b := by
  unfold hasR
  rw [inR_nat, hasI_nat hb, Int.toNat_natCast]
  simp [ha]

theorem keeps_R (hE : jacquardlaw9_keeps_In E) {n : Nat} (hn : n ≤ 64) {f : Nat → Nat} (hf : Words f) {x : Cell} {l : List Int} {h : AHeap} (hx : SlAt h x 1 (intC .i64 l) l.length) (hlen : l.length < 9223372036854775807) :
    R E 25 [.agg (relL n f), .c x] h = some ([.c (.bool (keepsB n f l))], h) := by
  refine R_intro hE.fn ?_
  unfold keepsB
  rw [jacquardlaw9_keeps_eq, hx.len, if_pos ⟨rfl, relL_len _ _⟩, N_R hE.c14, c1_ok, asI_ok]
  by_cases hl : l.length = n
  · have e0 : ((l.length : Int) != (n : Int)) = false := by rw [hl]; exact bne_self_eq_false _
    rw [e0, if_neg (by simp), show decide (l.length = n) = true by simpa using hl, Bool.true_and, posC_zero]
    have loop1 : Lim (jacquardlaw9_keeps_F1 (R E) Lim E.glob) (jacquardlaw9_keeps_s1 x ((0 : Nat) : Int) (relL n f) (posC fun j => if j < 0 then -1 else 0) h) = some (.exit 0, jacquardlaw9_keeps_x1_1 x (relL n f) (posC fun j => if j < 64 then -1 else 0) h) := by
      refine Lim_count (fun i => jacquardlaw9_keeps_s1 x (i : Int) (relL n f) (posC fun j => if j < i then -1 else 0) h) 0 64 (by omega) (fun i _ hi => ?_) (Lim_exit ?_)
      · rw [jacquardlaw9_keeps_r1, if_pos (by simp; omega), if_pos ⟨by omega, by omega⟩, if_pos (by rw [posC_len]; omega), show 0 + Int.toNat (i : Int) * 1 = i by omega, posC_set, g_succ (by omega)]
        congr 3
        refine posC_congr fun j _ => ?_
        unfold updP
        dsimp only
        by_cases e : j = i
        · subst e; simp
        · by_cases e2 : j < i
          · rw [if_neg e, if_pos e2, if_pos (by omega)]
          · rw [if_neg e, if_neg e2, if_neg (by omega)]
      · rw [jacquardlaw9_keeps_r1, if_neg (by simp)]
    have e1 : (posC fun j => if j < 0 then -1 else 0) = posC fun _ => 0 := posC_congr fun j _ => by simp
    have e2 : (posC fun j => if j < 64 then -1 else 0) = posC fun _ => -1 := posC_congr fun j hj => if_pos hj
    rw [e1, e2] at loop1
    rw [show ((0 : Nat) : Int) = 0 from rfl] at loop1
    rw [loop1, bind_ok, jacquardlaw9_keeps_e1_1]
    have loop2 : ∀ (t : List Int) (i : Nat) (P : Nat → Int), l.drop i = t → Lim (jacquardlaw9_keeps_F2 (R E) Lim E.glob) (jacquardlaw9_keeps_s2 x (i : Int) (relL n f) (posC P) h) = match scanP n t i P with
        | none => some (.ret, jacquardlaw9_keeps_x2_0 false h)
        | some Q => some (.exit 2, jacquardlaw9_keeps_x2_3 (relL n f) (posC Q) h) := by
      intro t
      induction t with
      | nil =>
        intro i P hd
        have := len_of_drop0 hd
        refine Lim_exit ?_
        rw [jacquardlaw9_keeps_r2, hx.len, if_neg (by simp; omega)]
      | cons v t ih =>
        intro i P hd
        obtain ⟨h1, h2, h3⟩ := len_of_drop hd
        have hround : jacquardlaw9_keeps_F2 (R E) Lim E.glob (jacquardlaw9_keeps_s2 x (i : Int) (relL n f) (posC P) h) = if (decide (v < 0) || decide (v ≥ (n : Int)) || decide (P v.toNat ≥ 0)) = true then some (.ret, jacquardlaw9_keeps_x2_0 false h) else some (.normal, jacquardlaw9_keeps_s2 x ((i + 1 : Nat) : Int) (relL n f) (posC (updP P v.toNat i)) h) := by
          rw [jacquardlaw9_keeps_r2, hx.len, if_pos (by simp; omega), hx.get1 h1 (intC_get h2), asI_ok]
          cases b1 : decide (v < 0) with
          | true => rw [scK_tf, scK_tf, if_pos rfl, if_pos (by simp)]
          | false =>
            rw [scK_ok, hx.get1 h1 (intC_get h2), asI_ok, if_pos ⟨rfl, relL_len _ _⟩, N_R hE.c14, qh_ok, c1_ok, asI_ok, bind_ok]
            dsimp only
            cases b2 : decide (v ≥ (n : Int)) with
            | true => rw [scK_tf, if_pos rfl, if_pos (by simp)]
            | false =>
              have hv0 : 0 ≤ v ∧ v < (n : Int) := by
                rw [decide_eq_false_iff_not] at b1 b2; omega
              rw [scK_ok, hx.get1 h1 (intC_get h2), asI_ok, if_pos ⟨by omega, by omega⟩, show 0 + Int.toNat v * 1 = v.toNat by omega, atK_ok (posC_get (show v.toNat < 64 by omega)), asI_ok, bind_ok]
              dsimp only
              rw [Bool.false_or, Bool.false_or]
              by_cases b3 : decide (P v.toNat ≥ 0) = true
              · rw [if_pos b3, if_pos b3]
              · rw [if_neg b3, if_neg b3, hx.get1 h1 (intC_get h2), asI_ok, if_pos ⟨by omega, by omega⟩, if_pos (by rw [posC_len]; omega), show 0 + Int.toNat v * 1 = v.toNat by omega, posC_set, g_succ (by omega)]
        rw [scanP]
        by_cases hc : (decide (v < 0) || decide (v ≥ (n : Int)) || decide (P v.toNat ≥ 0)) = true
        · rw [if_pos hc] at hround ⊢
          exact Lim_ret hround
        · rw [if_neg hc] at hround ⊢
          rw [← ih (i + 1) _ h3]
          cases hq : Lim (jacquardlaw9_keeps_F2 (R E) Lim E.glob) (jacquardlaw9_keeps_s2 x ((i + 1 : Nat) : Int) (relL n f) (posC (updP P v.toNat i)) h) with
          | some p => exact Lim_next hround hq
          | none =>
            rw [ih (i + 1) _ h3] at hq
            split at hq <;> cases hq
    have l2 := loop2 l 0 (fun _ => -1) rfl
    rw [show ((0 : Nat) : Int) = 0 from rfl] at l2
    rw [l2]
    cases hs : scanP n l 0 (fun _ => -1) with
    | none =>
      show (some (Ex.ret, jacquardlaw9_keeps_x2_0 false h)).bind _ = _
      rw [bind_ok, jacquardlaw9_keeps_e2_0]
    | some P =>
      show (some (Ex.exit 2, jacquardlaw9_keeps_x2_3 (relL n f) (posC P) h)).bind _ = _
      rw [bind_ok, jacquardlaw9_keeps_e2_3]
      have inner : ∀ a, a < n → Lim (jacquardlaw9_keeps_F3 (R E) Lim E.glob) (jacquardlaw9_keeps_s3 (a : Int) 0 (relL n f) (posC P) h) = some (if ((List.range n).any fun b => (f a).testBit b && decide (P a ≥ P b)) = true then (.ret, jacquardlaw9_keeps_x3_0 false h) else (.exit 6, jacquardlaw9_keeps_x3_7 (a : Int) (relL n f) (posC P) h)) := by
        intro a ha
        refine Lim_any (fun b => jacquardlaw9_keeps_s3 (a : Int) (b : Int) (relL n f) (posC P) h) (fun b => (f a).testBit b && decide (P a ≥ P b)) (.ret, jacquardlaw9_keeps_x3_0 false h) (.exit 6, jacquardlaw9_keeps_x3_7 (a : Int) (relL n f) (posC P) h) n (fun b hb => ?_) (by simp) ?_ (by simp)
        · rw [jacquardlaw9_keeps_r3, if_pos ⟨rfl, relL_len _ _⟩, N_R hE.c14, c1_ok, asI_ok, if_pos (by simp; omega), if_pos ⟨rfl, relL_len _ _⟩, HasR_R hE.c3 hn hf, qh_ok, c1_ok, asB_ok, hasR_nat ha (by omega)]
          cases (f a).testBit b with
          | false => rw [scK_ft, if_neg (by simp), Bool.false_and, if_neg (by simp), g_succ (by omega)]
          | true =>
            rw [scK_ok, if_pos ⟨by omega, by omega⟩, show 0 + Int.toNat (a : Int) * 1 = a by omega, atK_ok (posC_get (show a < 64 by omega)), asI_ok, if_pos ⟨by omega, by omega⟩, show 0 + Int.toNat (b : Int) * 1 = b by omega, atK_ok (posC_get (show b < 64 by omega)), asI_ok, bind_ok]
            dsimp only
            rw [Bool.true_and]
            split
            · rfl
            · rw [g_succ (by omega)]
        · rw [jacquardlaw9_keeps_r3, if_pos ⟨rfl, relL_len _ _⟩, N_R hE.c14, c1_ok, asI_ok, if_neg (by simp)]
      have outer : Lim (jacquardlaw9_keeps_F4 (R E) Lim E.glob) (jacquardlaw9_keeps_s4 0 (relL n f) (posC P) h) = some (if ((List.range n).any fun a => (List.range n).any fun b => (f a).testBit b && decide (P a ≥ P b)) = true then (.ret, jacquardlaw9_keeps_x4_0 false h) else (.exit 4, jacquardlaw9_keeps_x4_5 h)) := by
        refine Lim_any (fun a => jacquardlaw9_keeps_s4 (a : Int) (relL n f) (posC P) h) (fun a => (List.range n).any fun b => (f a).testBit b && decide (P a ≥ P b)) (.ret, jacquardlaw9_keeps_x4_0 false h) (.exit 4, jacquardlaw9_keeps_x4_5 h) n (fun a ha => ?_) (by simp) ?_ (by simp)
        · rw [jacquardlaw9_keeps_r4, if_pos ⟨rfl, relL_len _ _⟩, N_R hE.c14, c1_ok, asI_ok, if_pos (by simp; omega), inner a ha, bind_ok]
          split
          · rw [jacquardlaw9_keeps_e3_0]
          · rw [jacquardlaw9_keeps_e3_7, g_succ (by omega)]
        · rw [jacquardlaw9_keeps_r4, if_pos ⟨rfl, relL_len _ _⟩, N_R hE.c14, c1_ok, asI_ok, if_neg (by simp)]
      rw [outer, bind_ok]
      unfold pairsK
      by_cases hb : ((List.range n).any fun a => (List.range n).any fun b => (f a).testBit b && decide (P a ≥ P b)) = true
      · rw [if_pos hb, jacquardlaw9_keeps_e4_0]
        simp only [hb, Bool.not_true]
      · rw [if_neg hb, jacquardlaw9_keeps_e4_5]
        have hb' : ((List.range n).any fun a => (List.range n).any fun b => (f a).testBit b && decide (P a ≥ P b)) = false := by simpa using hb
        simp only [hb', Bool.not_false]
  · have e0 : ((l.length : Int) != (n : Int)) = true := by rw [bne_iff_ne]; omega
    rw [e0, if_pos rfl, show decide (l.length = n) = false by simpa using hl, Bool.false_and]

/-- What `keeps` says of a relation made of pairs is what `Keeps` says. -/
theorem keeps_S (hE : jacquardlaw9_keeps_In E) {n : Nat} (hn : n ≤ 64) {f : Nat → Nat} (hf : Words f) (hfit : Fit n f) {x : Cell} {l : List Int} {h : AHeap} (hx : SlAt h x 1 (intC .i64 l) l.length) (hlen : l.length < 9223372036854775807) :
    R E 25 [.agg (relL n f), .c x] h = some ([.c (.bool (decide (l.length = n) && kpR n (INV n f) l 0))], h) := by
  rw [keeps_R hE hn hf hx hlen, keepsB_eq hn hfit]

theorem awake9_R (hE : jacquardlaw9_awake_In E) (ht : TabOk E) (h : AHeap) : R E 24 [] h = some ([.c (.bool true)], h) := by
  refine R_intro hE.fn ?_
  have w0 : Words fun _ => 0 := words_zero
  have w1 : Words (addR 3 (fun _ => 0) 0 1) := words_add w0 0 1
  have c3 : clamp 3 = 3 := rfl
  have ea : allO 3 (addR 3 (fun _ => 0) 0 1) 10 = [[0, 1, 2], [0, 2, 1], [2, 0, 1]] := by decide +kernel
  have ec : cntO 3 (addR 3 (fun _ => 0) 0 1) 10 = 3 := by decide +kernel
  have k1 : (decide ([(2 : Int), 0, 1].length = 3) && kpR 3 (INV 3 (addR 3 (fun _ => 0) 0 1)) [2, 0, 1] 0) = true := by decide +kernel
  have k2 : (decide ([(1 : Int), 0, 2].length = 3) && kpR 3 (INV 3 (addR 3 (fun _ => 0) 0 1)) [1, 0, 2] 0) = false := by decide +kernel
  have l1 : splice (splice (splice [Cell.int .i64 0, Cell.int .i64 0, Cell.int .i64 0] 0 ([(.int .i64 2)] : List Cell)) 1 ([(.int .i64 0)] : List Cell)) 2 ([(.int .i64 1)] : List Cell) = intC .i64 [2, 0, 1] := rfl
  have l2 : splice (splice (splice [Cell.int .i64 0, Cell.int .i64 0, Cell.int .i64 0] 0 ([(.int .i64 1)] : List Cell)) 1 ([(.int .i64 0)] : List Cell)) 2 ([(.int .i64 2)] : List Cell) = intC .i64 [1, 0, 2] := rfl
  obtain ⟨y, H, hr, hrow, hk⟩ := All_R hE.c21 ht (n := 3) (by omega) w1 10 h
  rw [ea] at hrow
  obtain ⟨z, hz, hzs, hzl⟩ := hrow.get (α := Bool × AHeap) (i := 2) (r := [2, 0, 1]) rfl
  have hz' : ∀ F : Cell → Option (Bool × AHeap), (idxSK 1 y (2 : Int) fun k N o => rdH H k N fun l => atK l o F) = F z := hz
  have z0 : ∀ {α : Type} (F : Cell → Option α), (idxSK 1 z (0 : Int) fun k N o => rdH H k N fun l => atK l o F) = F (.int .i64 2) := fun F => hzs.get0 (by simp) rfl
  rw [jacquardlaw9_awake_eq, New_R hE.c9, c1_ok, asA_ok, c3, Add_R hE.c10 (by omega) w0, c1_ok, asA_ok, if_pos ⟨rfl, zero_len, relL_len _ _⟩, if_pos ⟨rfl, relL_len _ _⟩, hr, c1_ok, asC_ok, hrow.len]
  rw [show ((([[0, 1, 2], [0, 2, 1], [2, 0, 1]] : List (List Nat)).length : Int) == 3) = true from rfl, scK_ok, hz', z0, asI_ok, bind_ok]
  dsimp only
  rw [show ((2 : Int) == 2) = true from rfl, scK_ok, if_pos ⟨rfl, relL_len _ _⟩, Count_R hE.c23 ht (by omega) w1, c1_ok, asI_ok, ec, bind_ok]
  dsimp only
  rw [show ((3 : Int) == 3) = true from rfl, scK_ok, if_pos ⟨rfl, relL_len _ _⟩, show splice (splice (splice [Cell.int .i64 0, Cell.int .i64 0, Cell.int .i64 0] 0 ([(.int .i64 2)] : List Cell)) 1 ([(.int .i64 0)] : List Cell)) 2 ([(.int .i64 1)] : List Cell) = intC .i64 [2, 0, 1] from rfl, if_pos (show (intC .i64 [2, 0, 1]).length = 3 * 1 from rfl)]
  have at1 : SlAt (H ++ [some ⟨true, 1, intC .i64 [2, 0, 1]⟩]) (.sl H.length (intC .i64 [2, 0, 1]).length 0 3) 1 (intC .i64 [2, 0, 1]) [(2 : Int), 0, 1].length := ⟨rfl, .inr ⟨_, _, 0, rfl, .inr ⟨_, blk_new _ _, rfl, by simp [intC], fun j _ => by simp⟩⟩⟩
  rw [OKeeps_R hE.c22 ht (n := 3) (by omega) w1 at1 (.inr (by simp)) (by simp), c1_ok, asB_ok, bind_ok, k1]
  dsimp only
  have hk2 : Kp h.length h (H ++ [some ⟨true, 1, intC .i64 [2, 0, 1]⟩]) := hk.trans (Kp.app _ hk.1)
  generalize H ++ [some (Blk.mk true 1 (intC .i64 [2, 0, 1]))] = H2 at *
  rw [scK_ok, if_pos ⟨rfl, relL_len _ _⟩, show splice (splice (splice [Cell.int .i64 0, Cell.int .i64 0, Cell.int .i64 0] 0 ([(.int .i64 1)] : List Cell)) 1 ([(.int .i64 0)] : List Cell)) 2 ([(.int .i64 2)] : List Cell) = intC .i64 [1, 0, 2] from rfl, if_pos (show (intC .i64 [1, 0, 2]).length = 3 * 1 from rfl)]
  have at2 : SlAt (H2 ++ [some ⟨true, 1, intC .i64 [1, 0, 2]⟩]) (.sl H2.length (intC .i64 [1, 0, 2]).length 0 3) 1 (intC .i64 [1, 0, 2]) [(1 : Int), 0, 2].length := ⟨rfl, .inr ⟨_, _, 0, rfl, .inr ⟨_, blk_new _ _, rfl, by simp [intC], fun j _ => by simp⟩⟩⟩
  rw [OKeeps_R hE.c22 ht (n := 3) (by omega) w1 at2 (.inr (by simp)) (by simp), c1_ok, asB_ok, bind_ok, k2]
  exact finish_gc (hk2.trans (Kp.app _ hk2.1)) (by simp [avOk, AV.cells, idOk])

theorem OrderKeeps_law (ht : TabOk E) (hE : jacquardlaw9_OrderKeeps_In E) {h : AHeap} {c0 c1 c2 : List Cell} (o0 : okC h (.i .i64) c0) (o1 : okC h (.sl shPair) c1) (o2 : okC h (.sl (.i .i64)) c2) :
    ∃ h', R E 247 [av1 (.i .i64) c0, av1 (.sl shPair) c1, av1 (.sl (.i .i64)) c2] h = some ([.c (.bool true)], h') := by
  obtain ⟨a, e0, _⟩ := arg_int o0
  obtain ⟨x1, l1, e1, s1, lo1, _, hm1⟩ := arg_pairs o1
  obtain ⟨x2, l2, e2, s2, lo2, _, hm2⟩ := arg_ints o2
  rw [e0, e1, e2]
  suffices hs : ∃ h', jacquardlaw9_OrderKeeps.body (R E) Lim E.glob [.c (.int .i64 a), .c x1, .c x2] h = some ([.c (.bool true)], h') by
    obtain ⟨h', hs⟩ := hs; exact ⟨h', R_intro hE.fn hs⟩
  rw [jacquardlaw9_OrderKeeps_eq]
  dsimp only
  rw [s2.len]
  by_cases hb : l2.length > 100
  · rw [if_pos (by simp; omega), awake9_R hE.c24 ht, c1_ok, asB_ok]; exact ⟨_, rfl⟩
  · have ecl : (if 64 < (if 0 > a then 0 else a) then 64 else (if 0 > a then 0 else a)) = ((clamp a : Nat) : Int) := by unfold clamp; split <;> split <;> omega
    have hn : clamp a ≤ 64 := by unfold clamp; omega
    have hw := words_of (clamp a) (l1.take 200)
    have hfit := of_fit hn (l1.take 200)
    have hOf := Of_R hE.c1 ((clamp a : Nat) : Int) s1 lo1
    rw [clamp_nat hn] at hOf
    rw [if_neg (by simp; omega), ecl, hOf, c2_ok, asA_ok, asA_ok]
    simp only [relL_len, zero_len, and_self, if_true]
    generalize ofR (clamp a) (l1.take 200) = f at *
    rw [OKeeps_R hE.c22 ht hn hw s2 lo2 (by omega), qh_ok, c1_ok, asB_ok, keeps_S hE.c25 hn hw hfit s2 (by omega), qh_ok, c1_ok, asB_ok, beq_self_eq_true, scK_ok, awake9_R hE.c24 ht, qh_ok, c1_ok, asB_ok, bind_ok]
    exact ⟨_, rfl⟩

end
end Jq

/- Orders: how many; with one pair more; ranks. -/
namespace Jq
open Go

theorem feed_cnt (lim : Int) (hlim : lim ≤ 100000) : ∀ (l : List (List Nat)) (c : Nat), (c : Int) < lim → (feed (cntF lim) c l).1 = c + (l.take (lim.toNat - c)).length
  | [], c, _ => by simp [feed]
  | r :: l, c, h => by
    rw [feed]
    have e : (cntF lim c r).2 = decide (IntKind.wrap .i64 ((c + 1 : Nat) : Int) < lim) := rfl
    rw [wrap_i64 (by omega) (by omega)] at e
    obtain ⟨d, hd⟩ : ∃ d, lim.toNat - c = d + 1 := ⟨lim.toNat - c - 1, by omega⟩
    rw [hd, List.take_succ_cons, List.length_cons]
    by_cases hc : ((c + 1 : Nat) : Int) < lim
    · rw [e, if_pos (by simpa using hc)]
      show (feed (cntF lim) (c + 1) l).1 = _
      rw [feed_cnt lim hlim l (c + 1) hc, show lim.toNat - (c + 1) = d by omega]; omega
    · rw [e, if_neg (by simpa using hc)]
      show c + 1 = _
      rw [show d = 0 by omega]; simp

theorem cntO_eq (n : Nat) (f : Nat → Nat) (a : Int) : cntO n f a = ((allO n f a).length : Nat) := by
  unfold cntO allO
  have e : min a 100000 = if 100000 < a then 100000 else a := by split <;> omega
  rw [e]
  have hlim : (if 100000 < a then 100000 else a) ≤ 100000 := by split <;> omega
  generalize (if 100000 < a then 100000 else a) = lim at *
  by_cases h : lim ≤ 0
  · rw [if_pos h, show lim.toNat = 0 by omega]; simp
  · rw [if_neg h, feed_cnt lim hlim (ords n f) 0 (by omega), Nat.zero_add, Nat.sub_zero]
    have : ((ords n f).take lim.toNat).length ≤ lim.toNat := by rw [List.length_take]; omega
    rw [wrap_i64 (by omega) (by omega)]

def cntE (n : Nat) (B : Nat → Nat) : Nat → Nat → Nat
  | 0, _ => 1
  | k + 1, d => ((List.range n).map fun i => if (d.testBit i || (ndiff (B i) d != 0)) = true then 0 else cntE n B k (d ||| 2 ^ i)).sum

theorem ext_cnt (n : Nat) (B : Nat → Nat) : ∀ (k d : Nat) (row : List Nat), (ext n B k d row).length = cntE n B k d
  | 0, _, _ => rfl
  | k + 1, d, row => by
    rw [ext, cntE, List.length_flatMap]
    congr 1
    refine List.map_congr_left fun i _ => ?_
    split
    · rfl
    · exact ext_cnt n B k _ _

theorem perms_len {n : Nat} (hn : n ≤ 6) : (perms n).length ≤ 720 := by
  unfold perms
  rw [ext_cnt]
  have h : n = 0 ∨ n = 1 ∨ n = 2 ∨ n = 3 ∨ n = 4 ∨ n = 5 ∨ n = 6 := by omega
  rcases h with rfl | rfl | rfl | rfl | rfl | rfl | rfl <;> decide +kernel

theorem ords_len {n : Nat} (hn : n ≤ 6) (f : Nat → Nat) : (ords n f).length ≤ 720 := by
  rw [ords_eq (by omega)]
  exact Nat.le_trans (List.length_filter_le _ _) (perms_len hn)

theorem allO_all {n : Nat} (hn : n ≤ 6) (f : Nat → Nat) {a : Int} (ha : 1000 ≤ a) : allO n f a = ords n f := by
  have := ords_len hn f
  unfold allO
  exact List.take_of_length_le (by omega)

theorem OrdOf.add_iff {n : Nat} (hn : n ≤ 64) {f : Nat → Nat} {a b : Nat} (ha : a < n) (hb : b < n) {r : List Nat} :
    OrdOf n (addR n f (a : Int) (b : Int)) r ↔ OrdOf n f r ∧ ∀ j : Nat, r[j]? = some b → ∃ k : Nat, k < j ∧ r[k]? = some a := by
  have bit : ∀ x y, (addR n f (a : Int) (b : Int) x).testBit y = true ↔ (f x).testBit y = true ∨ (x = a ∧ y = b) := by
    intro x y
    rw [addR_bit hn, inR_nat, inR_nat]
    simp only [Bool.or_eq_true, Bool.and_eq_true, decide_eq_true_eq]
    constructor
    · rintro (h | ⟨⟨_, h1⟩, h2⟩)
      · exact .inl h
      · exact .inr ⟨by omega, by omega⟩
    · rintro (h | ⟨h1, h2⟩)
      · exact .inl h
      · exact .inr ⟨⟨⟨ha, hb⟩, by omega⟩, by omega⟩
  constructor
  · intro o
    exact ⟨⟨o.len, o.nd, o.lt, fun x y hx hxy => o.ahead x y hx ((bit x y).2 (.inl hxy))⟩, fun j hj => o.ahead a b ha ((bit a b).2 (.inr ⟨rfl, rfl⟩)) j hj⟩
  · rintro ⟨o, h⟩
    refine ⟨o.len, o.nd, o.lt, fun x y hx hxy j hj => ?_⟩
    rcases (bit x y).1 hxy with h1 | ⟨rfl, rfl⟩
    · exact o.ahead x y hx h1 j hj
    · exact h j hj

theorem countP_split {α : Type} {p q s : α → Bool} : ∀ {l : List α}, (∀ x ∈ l, (p x = true ↔ q x = true ∨ s x = true) ∧ ¬ (q x = true ∧ s x = true)) → l.countP q + l.countP s = l.countP p
  | [], _ => rfl
  | x :: l, h => by
    have ih := countP_split (l := l) fun y hy => h y (by simp [hy])
    obtain ⟨h1, h2⟩ := h x (by simp)
    rw [List.countP_cons, List.countP_cons, List.countP_cons]
    cases hp : p x <;> cases hq : q x <;> cases hs : s x <;> simp_all <;> omega

theorem ords_split {n : Nat} (hn : n ≤ 64) (f : Nat → Nat) {a b : Nat} (ha : a < n) (hb : b < n) (hab : a ≠ b) :
    (ords n (addR n f (a : Int) (b : Int))).length + (ords n (addR n f (b : Int) (a : Int))).length = (ords n f).length := by
  rw [ords_eq hn, ords_eq hn, ords_eq hn, ← List.countP_eq_length_filter, ← List.countP_eq_length_filter, ← List.countP_eq_length_filter]
  refine countP_split fun r hr => ?_
  obtain ⟨h1, h2, h3⟩ := perms_mem hn hr
  rw [kpR_ord hn h1, kpR_ord hn h1, kpR_ord hn h1, OrdOf.add_iff hn ha hb, OrdOf.add_iff hn hb ha]
  obtain ⟨i, hi⟩ := List.getElem?_of_mem (full_mem h2 h3 h1 ha)
  obtain ⟨j, hj⟩ := List.getElem?_of_mem (full_mem h2 h3 h1 hb)
  constructor
  · constructor
    · intro o
      rcases Nat.lt_trichotomy i j with h | h | h
      · refine .inl ⟨o, fun j' hj' => ⟨i, ?_, hi⟩⟩
        rw [nodup_get h2 hj' hj]; exact h
      · subst h; rw [hi] at hj; cases hj; exact absurd rfl hab
      · refine .inr ⟨o, fun j' hj' => ⟨j, ?_, hj⟩⟩
        rw [nodup_get h2 hj' hi]; exact h
    · rintro (h | h) <;> exact h.1
  · rintro ⟨⟨_, q1⟩, _, q2⟩
    obtain ⟨k, hk, hk2⟩ := q1 j hj
    obtain ⟨k', hk', hk2'⟩ := q2 i hi
    have := nodup_get h2 hk2 hi
    have := nodup_get h2 hk2' hj
    omega

theorem ords_le {n : Nat} (hn : n ≤ 64) (f : Nat → Nat) {a b : Nat} (ha : a < n) (hb : b < n) : (ords n (addR n f (a : Int) (b : Int))).length ≤ (ords n f).length := by
  rw [ords_eq hn, ords_eq hn, ← List.countP_eq_length_filter, ← List.countP_eq_length_filter]
  refine List.countP_mono_left fun r hr h => ?_
  obtain ⟨h1, _⟩ := perms_mem hn hr
  exact (kpR_ord hn h1).2 ((OrdOf.add_iff hn ha hb).1 ((kpR_ord hn h1).1 h)).1

/-- Who is done behind the first i of a row. -/
def dOf (r : List Nat) : Nat → Nat
  | 0 => 0
  | i + 1 => match r[i]? with
    | some v => dOf r i ||| 2 ^ v
    | none => dOf r i

theorem grd_steps {n : Nat} {B : Nat → Nat} {l : List Int} : ∀ {k : Nat} {out r : List Nat}, grd n B l k (dOf r out.length) out = some r → r.length = out.length + k ∧ (∃ t, r = out ++ t) ∧ ∀ i, out.length ≤ i → i < r.length → bestU B l (dOf r i) n = r[i]?
  | 0, out, r, h => by
    rw [grd] at h; cases h
    exact ⟨rfl, ⟨[], by simp⟩, fun i h1 h2 => by omega⟩
  | k + 1, out, r, h => by
    rw [grd] at h
    cases hb : bestU B l (dOf r out.length) n with
    | none => rw [hb] at h; cases h
    | some v =>
      rw [hb] at h
      have h' : grd n B l k (dOf r out.length ||| 2 ^ v) (out ++ [v]) = some r := h
      have hpre : ∀ {k d : Nat} {o r : List Nat}, grd n B l k d o = some r → ∃ t, r = o ++ t := fun hh => by
        obtain ⟨t, ht, _⟩ := ext_form (grd_mem hh)
        exact ⟨t, ht⟩
      obtain ⟨t, ht⟩ := hpre h'
      have hv : r[out.length]? = some v := by rw [ht]; simp
      have hd : dOf r (out ++ [v]).length = dOf r out.length ||| 2 ^ v := by
        rw [List.length_append, List.length_singleton, dOf, hv]
      rw [← hd] at h'
      obtain ⟨h1, h2, h3⟩ := grd_steps h'
      refine ⟨by rw [h1]; simp; omega, ⟨v :: t, by rw [ht]; simp⟩, fun i hi1 hi2 => ?_⟩
      by_cases e : i = out.length
      · subst e; rw [hb, hv]
      · exact h3 i (by simp; omega) hi2

theorem dOf_bit {r : List Nat} : ∀ {i a : Nat}, (dOf r i).testBit a = true ↔ ∃ k, k < i ∧ r[k]? = some a
  | 0, a => by simp [dOf]
  | i + 1, a => by
    rw [dOf]
    cases h : r[i]? with
    | none =>
      simp only
      rw [dOf_bit (i := i)]
      constructor
      · rintro ⟨k, hk, e⟩; exact ⟨k, by omega, e⟩
      · rintro ⟨k, hk, e⟩
        refine ⟨k, ?_, e⟩
        have : k ≠ i := fun q => by rw [q, h] at e; cases e
        omega
    | some v =>
      simp only
      rw [Nat.testBit_or, Bool.or_eq_true, dOf_bit (i := i), Nat.testBit_two_pow]
      constructor
      · rintro (⟨k, hk, e⟩ | e)
        · exact ⟨k, by omega, e⟩
        · exact ⟨i, by omega, by rw [h]; simpa using e⟩
      · rintro ⟨k, hk, e⟩
        by_cases q : k = i
        · rw [q, h] at e; cases e; exact .inr (by simp)
        · exact .inl ⟨k, by omega, e⟩

theorem grd_of_steps {n : Nat} {B : Nat → Nat} {l : List Int} {r : List Nat} : ∀ {k : Nat} {out t : List Nat}, r = out ++ t → t.length = k → (∀ i, out.length ≤ i → i < r.length → bestU B l (dOf r i) n = r[i]?) → grd n B l k (dOf r out.length) out = some r
  | 0, out, t, hr, ht, _ => by
    rw [grd, hr, List.length_eq_zero_iff.1 ht]; simp
  | k + 1, out, [], _, ht, _ => by simp at ht
  | k + 1, out, v :: t, hr, ht, hs => by
    have hv : r[out.length]? = some v := by rw [hr]; simp
    have hb := hs out.length (Nat.le_refl _) (get_lt hv)
    rw [grd, hb, hv]
    show grd n B l k (dOf r out.length ||| 2 ^ v) (out ++ [v]) = some r
    have hd : dOf r (out ++ [v]).length = dOf r out.length ||| 2 ^ v := by
      rw [List.length_append, List.length_singleton, dOf, hv]
    rw [← hd]
    exact grd_of_steps (t := t) (by rw [hr]; simp) (by simpa using ht) (fun i h1 h2 => hs i (by simp at h1; omega) h2)

/-- One that is ahead of all others that may come is the best. -/
theorem bestU_is {B : Nat → Nat} {l : List Int} {d v : Nat} (hv : avail B d v = true) : ∀ n, (∀ u, u < n → u ≠ v → avail B d u = true → lessL l v u = true ∧ lessL l u v = false) → v < n → bestU B l d n = some v
  | 0, _, h => by omega
  | n + 1, hl, h => by
    rw [bestU]
    by_cases e : v = n
    · subst e
      have hv' : (!d.testBit v && (ndiff (B v) d == 0)) = true := hv
      rw [if_pos]
      rw [hv', Bool.true_and]
      cases hb : bestU B l d v with
      | none => rfl
      | some u =>
        obtain ⟨h1, h2⟩ := bestU_some hb
        exact (hl u (by omega) (by omega) h2).1
    · rw [bestU_is hv n (fun u hu => hl u (by omega)) (by omega), if_neg]
      intro hc
      rw [Bool.and_eq_true] at hc
      have h2 := (hl n (by omega) (fun q => e q.symm) hc.1).2
      have h3 : lessL l n v = true := hc.2
      rw [h2] at h3; cases h3

/-- Ranked by one of the orders greed finds it. -/
theorem grd_ranked {n : Nat} (hn : n ≤ 64) {f : Nat → Nat} {r : List Nat} (o : OrdOf n f r) {l : List Int} (hl : l.length = n) (hr : ∀ i v : Nat, r[i]? = some v → l.getD v 0 = (i : Int)) : grd n (INV n f) l n 0 [] = some r := by
  refine grd_of_steps (r := r) (out := []) (t := r) rfl o.len fun i _ hi => ?_
  have hv : r[i]? = some r[i] := List.getElem?_eq_getElem hi
  generalize r[i] = v at hv
  have hvn := o.lt v (List.mem_of_getElem? hv)
  rw [hv]
  have hav : avail (INV n f) (dOf r i) v = true := by
    rw [avail_iff]
    simp only [Bool.or_eq_true, not_or, bne_iff_ne, ne_eq, Decidable.not_not]
    refine ⟨fun h => ?_, (ndiff_zero _ _).2 fun a ha => ?_⟩
    · obtain ⟨k, hk, hk2⟩ := dOf_bit.1 h
      have := nodup_get o.nd hk2 hv
      omega
    · obtain ⟨ha1, ha2⟩ := (b_INV hn f _ _).1 ha
      exact dOf_bit.2 (o.ahead a v ha1 ha2 i hv)
  refine bestU_is hav n (fun u hun hu ha => ?_) hvn
  · obtain ⟨j, hj⟩ := List.getElem?_of_mem (full_mem o.nd o.lt o.len hun)
    have hji : i < j := by
      rw [avail_iff] at ha
      simp only [Bool.or_eq_true, not_or] at ha
      have h1 : ¬ j < i := fun h => ha.1 (dOf_bit.2 ⟨j, h, hj⟩)
      have h2 : j ≠ i := fun h => by rw [h, hv] at hj; cases hj; exact hu rfl
      omega
    have e1 := hr i v hv
    have e2 := hr j u hj
    unfold lessL
    rw [e1, e2, show decide (v < l.length) = true by simp; omega, show decide (u < l.length) = true by simp; omega]
    have n1 : ((i : Int) != (j : Int)) = true := by rw [bne_iff_ne]; omega
    have n2 : ((j : Int) != (i : Int)) = true := by rw [bne_iff_ne]; omega
    rw [n1, n2]
    simp; omega

end Jq

/- Laws of orders: each keeps, they rise; with one pair more there are no more. -/
namespace Jq
open Go

section
variable {E : Env}

theorem g_pred {i : Nat} (h0 : 0 < i) (hi : i < 9223372036854775807) : E.glob.wrap .i64 ((i : Int) - 1) = ((i - 1 : Nat) : Int) := by
  rw [g_wrap_i64 (by omega) (by omega)]; omega

/-- One number of one of the rows. -/
theorem RowsAt.cell {α : Type} {h : AHeap} {y : Cell} {s : List (List Nat)} (a : RowsAt h y s) {i j v : Nat} {r : List Nat} (hr : s[i]? = some r) (hv : r[j]? = some v) {f : Cell → Option α} :
    (idxSK 1 y (i : Int) fun k N o => rdH h k N fun l => atK l o fun q => idxSK 1 q (j : Int) fun k N o => rdH h k N fun l => atK l o f) = f (.int .i64 (v : Int)) := by
  obtain ⟨z, hz, hzs, _⟩ := a.get (α := α) hr
  rw [hz, hzs.get1 (get_lt hv) (natC_get hv)]

theorem natC_ints (r : List Nat) : natC r = intC .i64 (ints r) := rfl

theorem OrderEach_law (ht : TabOk E) (hE : jacquardlaw9_OrderEach_In E) {h : AHeap} {c0 c1 : List Cell} (o0 : okC h (.i .i64) c0) (o1 : okC h (.sl shPair) c1) :
    ∃ h', R E 246 [av1 (.i .i64) c0, av1 (.sl shPair) c1] h = some ([.c (.bool true)], h') := by
  obtain ⟨a, e0, _⟩ := arg_int o0
  obtain ⟨x1, l1, e1, s1, lo1, _, hm1⟩ := arg_pairs o1
  rw [e0, e1]
  suffices hs : ∃ h', jacquardlaw9_OrderEach.body (R E) Lim E.glob [.c (.int .i64 a), .c x1] h = some ([.c (.bool true)], h') by
    obtain ⟨h', hs⟩ := hs; exact ⟨h', R_intro hE.fn hs⟩
  obtain ⟨n, hn, hm⟩ := mod_nat (E := E) a (n := 7) (by omega)
  rw [show ((7 : Nat) : Int) = 7 from rfl] at hm
  have hn64 : n ≤ 64 := by omega
  have hOf := Of_R hE.c1 (n : Int) s1 lo1
  rw [clamp_nat hn64] at hOf
  have hw := words_of n (l1.take 200)
  have hfit := of_fit hn64 (l1.take 200)
  rw [jacquardlaw9_OrderEach_eq, hm, hOf, c2_ok, asA_ok, asA_ok]
  simp only [relL_len, zero_len, and_self, if_true]
  generalize ofR n (l1.take 200) = f at *
  obtain ⟨y, H, hr, hrow, _⟩ := All_R hE.c21 ht hn64 hw 1000 h
  rw [hr, c1_ok, asC_ok]
  rw [allO_all (by omega) f (by omega)] at hrow
  have hlen := ords_len (show n ≤ 6 by omega) f
  have loop : Lim (jacquardlaw9_OrderEach_F2 (R E) Lim E.glob) (jacquardlaw9_OrderEach_s2 n y ((0 : Nat) : Int) (relL n f) H) = some (.exit 0, jacquardlaw9_OrderEach_x2_1 y (relL n f) H) := by
    refine Lim_count (fun i => jacquardlaw9_OrderEach_s2 n y (i : Int) (relL n f) H) 0 (ords n f).length (by omega) (fun i _ hi => ?_) (Lim_exit ?_)
    · have hg : (ords n f)[i]? = some (ords n f)[i] := List.getElem?_eq_getElem hi
      have ho := (ords_mem hn64).1 (List.getElem_mem hi)
      obtain ⟨z, hz, hzs, _⟩ := hrow.get (α := Ex × St) hg
      have hk : (decide ((ints (ords n f)[i]).length = n) && kpR n (INV n f) (ints (ords n f)[i]) 0) = true := by
        rw [(kpR_ord hn64 ho.len).2 ho, ints_len, ho.len]; simp
      rw [natC_ints, ← ints_len] at hzs
      rw [jacquardlaw9_OrderEach_r2, hrow.len, if_pos (by simp; omega), if_pos ⟨rfl, relL_len _ _⟩, hz, keeps_S hE.c25 hn64 hw hfit hzs (by rw [ints_len, ho.len]; omega), qh_ok, c1_ok, asB_ok, hk, if_neg (by simp)]
      by_cases h0 : i = 0
      · subst h0
        rw [if_pos (by simp), g_succ (by omega)]
      · rw [if_neg (by simp; omega)]
        have hg1 : (ords n f)[i - 1]? = some (ords n f)[i - 1] := List.getElem?_eq_getElem (by omega)
        have hrise := (List.pairwise_iff_getElem.1 (ords_rise hn64 f)) (i - 1) i (by omega) hi (by omega)
        generalize (ords n f)[i] = r at *
        generalize (ords n f)[i - 1] = r0 at *
        obtain ⟨t, x, y', u, v, q1, q2, hxy⟩ := hrise
        have ht1 : r0[t.length]? = some x := by rw [q1]; simp
        have ht2 : r[t.length]? = some y' := by rw [q2]; simp
        have htn : t.length < n := by have := get_lt ht2; rw [ho.len] at this; exact this
        have inner : Lim (jacquardlaw9_OrderEach_F1 (R E) Lim E.glob) (jacquardlaw9_OrderEach_s1 n y i ((0 : Nat) : Int) (relL n f) H) = some (.exit 2, jacquardlaw9_OrderEach_x1_3 n y i (t.length : Int) (relL n f) H) := by
          refine Lim_count (fun k => jacquardlaw9_OrderEach_s1 n y i (k : Int) (relL n f) H) 0 t.length (by omega) (fun k _ hk2 => ?_) (Lim_exit ?_)
          · have g1 : r0[k]? = some t[k] := by rw [q1, List.getElem?_append_left hk2, List.getElem?_eq_getElem hk2]
            have g2 : r[k]? = some t[k] := by rw [q2, List.getElem?_append_left hk2, List.getElem?_eq_getElem hk2]
            rw [jacquardlaw9_OrderEach_r1, show decide ((k : Int) < (n : Int)) = true by simp; omega, scK_ok, hrow.cell hg g2, asI_ok, g_pred (by omega) (by omega), hrow.cell hg1 g1, asI_ok, beq_self_eq_true, bind_ok]
            dsimp only
            rw [if_pos rfl, g_succ (by omega)]
          · rw [jacquardlaw9_OrderEach_r1, show decide ((t.length : Int) < (n : Int)) = true by simp; omega, scK_ok, hrow.cell hg ht2, asI_ok, g_pred (by omega) (by omega), hrow.cell hg1 ht1, asI_ok, show (((y' : Nat) : Int) == (x : Int)) = false by rw [beq_eq_false_iff_ne]; omega, bind_ok]
            dsimp only
            rw [if_neg (by simp)]
        rw [show ((0 : Nat) : Int) = 0 from rfl] at inner
        rw [inner, bind_ok, jacquardlaw9_OrderEach_e1_3, show ((t.length : Int) == (n : Int)) = false by rw [beq_eq_false_iff_ne]; omega, scK_ok, hrow.cell hg ht2, asI_ok, g_pred (by omega) (by omega), hrow.cell hg1 ht1, asI_ok, show decide ((y' : Int) < (x : Int)) = false by simp; omega, bind_ok]
        dsimp only
        rw [if_neg (by simp), g_succ (by omega)]
    · rw [jacquardlaw9_OrderEach_r2, hrow.len, if_neg (by simp)]
  rw [show ((0 : Nat) : Int) = 0 from rfl] at loop
  have hne : decide (((ords n f).length : Int) > 0) = acycR n f := by
    have := ords_ne hn64 (f := f)
    rw [Bool.eq_iff_iff, ← this, decide_eq_true_eq]
    constructor
    · intro h e; rw [e] at h; simp at h
    · intro h
      have := List.length_pos_iff.2 h
      omega
  rw [loop, bind_ok, jacquardlaw9_OrderEach_e2_1, hrow.len, if_pos ⟨rfl, relL_len _ _⟩, Acyclic_R hE.c26 hn64 hw, c1_ok, asB_ok, hne, beq_self_eq_true, scK_ok, if_pos ⟨rfl, relL_len _ _⟩, Count_R hE.c23 ht hn64 hw, c1_ok, asI_ok, hrow.len, cntO_eq, allO_all (by omega) f (by omega), beq_self_eq_true, bind_ok]
  dsimp only
  rw [scK_ok, awake9_R hE.c24 ht, c1_ok, asB_ok, bind_ok]
  exact ⟨_, rfl⟩

theorem OrderFewer_law (ht : TabOk E) (hE : jacquardlaw9_OrderFewer_In E) {h : AHeap} {c0 c1 c2 c3 : List Cell} (o0 : okC h (.i .i64) c0) (o1 : okC h (.sl shPair) c1) (o2 : okC h (.i .i64) c2) (o3 : okC h (.i .i64) c3) :
    ∃ h', R E 245 [av1 (.i .i64) c0, av1 (.sl shPair) c1, av1 (.i .i64) c2, av1 (.i .i64) c3] h = some ([.c (.bool true)], h') := by
  obtain ⟨a, e0, _⟩ := arg_int o0
  obtain ⟨x1, l1, e1, s1, lo1, _, hm1⟩ := arg_pairs o1
  obtain ⟨a2, e2, _⟩ := arg_int o2
  obtain ⟨a3, e3, _⟩ := arg_int o3
  rw [e0, e1, e2, e3]
  suffices hs : ∃ h', jacquardlaw9_OrderFewer.body (R E) Lim E.glob [.c (.int .i64 a), .c x1, .c (.int .i64 a2), .c (.int .i64 a3)] h = some ([.c (.bool true)], h') by
    obtain ⟨h', hs⟩ := hs; exact ⟨h', R_intro hE.fn hs⟩
  obtain ⟨m, hm0, hm⟩ := mod_nat (E := E) a (n := 6) (by omega)
  rw [show ((6 : Nat) : Int) = 6 from rfl] at hm
  obtain ⟨n, hn⟩ : ∃ n, n = m + 1 := ⟨_, rfl⟩
  have hv : E.glob.wrap .i64 ((m : Int) + 1) = (n : Int) := by rw [g_succ (by omega), hn]
  have hn64 : n ≤ 64 := by omega
  obtain ⟨p, hp, ep⟩ := mod_nat (E := E) a2 (n := n) (by omega)
  obtain ⟨q, hq, eq⟩ := mod_nat (E := E) a3 (n := n) (by omega)
  have hOf := Of_R hE.c1 (n : Int) s1 lo1
  rw [clamp_nat hn64] at hOf
  have hw := words_of n (l1.take 200)
  have nz : ¬ (n : Int) = 0 := by omega
  rw [jacquardlaw9_OrderFewer_eq]
  dsimp only
  rw [hm, hv, hOf, c2_ok, asA_ok, asA_ok, ep, eq]
  simp only [relL_len, zero_len, and_self, if_true, nz, if_false]
  generalize ofR n (l1.take 200) = f at *
  have hw1 : Words (addR n f (p : Int) (q : Int)) := words_add hw _ _
  have hw2 : Words (addR n f (q : Int) (p : Int)) := words_add hw _ _
  rw [Add_R hE.c10 hn64 hw, qh_ok, c1_ok, asA_ok]
  simp only [relL_len, zero_len, and_self, if_true]
  obtain ⟨y, H, hr, hrow, _⟩ := All_R hE.c21 ht hn64 hw1 1000 h
  rw [hr, c1_ok, asC_ok]
  rw [allO_all (by omega) _ (by omega)] at hrow
  have l0 := ords_len (show n ≤ 6 by omega) f
  have l1 := ords_len (show n ≤ 6 by omega) (addR n f (p : Int) (q : Int))
  have l2 := ords_len (show n ≤ 6 by omega) (addR n f (q : Int) (p : Int))
  have loop : Lim (jacquardlaw9_OrderFewer_F1 (R E) Lim E.glob) (jacquardlaw9_OrderFewer_s1 n a2 a3 y ((0 : Nat) : Int) (relL n f) (relL n (addR n f (p : Int) (q : Int))) H) = some (.exit 0, jacquardlaw9_OrderFewer_x1_1 n a2 a3 y (relL n f) (relL n (addR n f (p : Int) (q : Int))) H) := by
    refine Lim_count (fun i => jacquardlaw9_OrderFewer_s1 n a2 a3 y (i : Int) (relL n f) (relL n (addR n f (p : Int) (q : Int))) H) 0 (ords n (addR n f (p : Int) (q : Int))).length (by omega) (fun i _ hi => ?_) (Lim_exit ?_)
    · have hg : (ords n (addR n f (p : Int) (q : Int)))[i]? = some (ords n (addR n f (p : Int) (q : Int)))[i] := List.getElem?_eq_getElem hi
      have ho := ((OrdOf.add_iff hn64 hp hq).1 ((ords_mem hn64).1 (List.getElem_mem hi))).1
      obtain ⟨z, hz, hzs, hzl⟩ := hrow.get (α := Ex × St) hg
      generalize (ords n (addR n f (p : Int) (q : Int)))[i] = r at *
      have hk : (decide ((ints r).length = n) && kpR n (INV n f) (ints r) 0) = true := by
        rw [(kpR_ord hn64 ho.len).2 ho, ints_len, ho.len]; simp
      rw [natC_ints, ← ints_len] at hzs
      rw [jacquardlaw9_OrderFewer_r1, hrow.len, if_pos (by simp; omega), if_pos ⟨rfl, relL_len _ _⟩, hz, OKeeps_R hE.c22 ht hn64 hw hzs hzl (by rw [ints_len, ho.len]; omega), qh_ok, c1_ok, asB_ok, hk, if_neg (by simp), g_succ (by omega)]
    · rw [jacquardlaw9_OrderFewer_r1, hrow.len, if_neg (by simp)]
  rw [show ((0 : Nat) : Int) = 0 from rfl] at loop
  rw [loop, bind_ok, jacquardlaw9_OrderFewer_e1_1, ep, eq, if_pos ⟨rfl, relL_len _ _⟩, Count_R hE.c23 ht hn64 hw1, qh_ok, c1_ok, asI_ok, if_pos ⟨rfl, relL_len _ _⟩, if_neg nz, if_neg nz, Add_R hE.c10 hn64 hw, qh_ok, c1_ok, asA_ok, Count_R hE.c23 ht hn64 hw2, qh_ok, c1_ok, asI_ok, hrow.len, if_pos ⟨rfl, relL_len _ _⟩, Count_R hE.c23 ht hn64 hw, qh_ok, c1_ok, asI_ok]
  have hle := ords_le hn64 f hp hq
  rw [cntO_eq, cntO_eq, cntO_eq, allO_all (by omega) _ (by omega), allO_all (by omega) _ (by omega), allO_all (by omega) _ (by omega), show decide (((ords n (addR n f (p : Int) (q : Int))).length : Int) ≤ ((ords n f).length : Int)) = true by simpa using hle, scK_ok, if_neg nz, if_neg nz]
  by_cases hpq : p = q
  · rw [show ((p : Int) == (q : Int)) = true by rw [beq_iff_eq]; omega, scK_tf, bind_ok]
    dsimp only
    rw [scK_ok, awake9_R hE.c24 ht, qh_ok, c1_ok, asB_ok, bind_ok]
    exact ⟨_, rfl⟩
  · have hsum := ords_split hn64 f hp hq hpq
    rw [show ((p : Int) == (q : Int)) = false by rw [beq_eq_false_iff_ne]; omega, scK_ok, if_pos ⟨rfl, relL_len _ _⟩, c1_ok, asI_ok, g_wrap_i64 (by omega) (by omega), show (((ords n (addR n f (p : Int) (q : Int))).length : Int) + ((ords n (addR n f (q : Int) (p : Int))).length : Int) == ((ords n f).length : Int)) = true by rw [beq_iff_eq]; omega, bind_ok]
    dsimp only
    rw [bind_ok]
    dsimp only
    rw [scK_ok, awake9_R hE.c24 ht, qh_ok, c1_ok, asB_ok, bind_ok]
    exact ⟨_, rfl⟩

end
end Jq

/- Laws of orders: how many there are of a chain, of numbers that are free; ranks; greed. -/
namespace Jq
open Go

def fct : Nat → Nat
  | 0 => 1
  | i + 1 => fct i * (i + 1)

/-- The chain, so far. -/
def chA (n : Nat) : Nat → Nat → Nat
  | 0 => fun _ => 0
  | i + 1 => if 0 < i then addR n (chA n i) ((i - 1 : Nat) : Int) (i : Int) else chA n i

theorem words_chA (n : Nat) : ∀ i, Words (chA n i)
  | 0 => words_zero
  | i + 1 => by rw [chA]; split; exact words_add (words_chA n i) _ _; exact words_chA n i

theorem chA_bit {n : Nat} (hn : n ≤ 64) : ∀ {i : Nat}, i ≤ n → ∀ x y, (chA n i x).testBit y = true ↔ y = x + 1 ∧ y < i
  | 0, _, x, y => by simp [chA]
  | i + 1, hi, x, y => by
    rw [chA]
    by_cases h0 : 0 < i
    · rw [if_pos h0, addR_bit hn, inR_nat, inR_nat, Bool.or_eq_true, chA_bit hn (by omega)]
      simp only [Bool.and_eq_true, decide_eq_true_eq]
      constructor
      · rintro (h | ⟨⟨_, h1⟩, h2⟩) <;> omega
      · rintro ⟨h1, h2⟩
        by_cases e : y < i
        · exact .inl ⟨h1, e⟩
        · exact .inr ⟨⟨⟨by omega, by omega⟩, by omega⟩, by omega⟩
    · rw [if_neg h0, chA_bit hn (by omega)]; omega

def chX (n : Nat) : Nat → Nat := fun x => if x + 1 < n then 2 ^ (x + 1) else 0

theorem ords_acyc_len {n : Nat} {f : Nat → Nat} (ha : acycR n f = true) : (ords n f).length = cntE n (INV n f) n 0 := by
  unfold ords; rw [if_pos ha, ext_cnt]

theorem INV_congr {n : Nat} {f g : Nat → Nat} (h : ∀ x y, (f x).testBit y = (g x).testBit y) : INV n f = INV n g := by
  funext i
  unfold INV
  congr 1
  funext j
  rw [h]

theorem way_up {f : Nat → Nat} {k a b : Nat} (hr : ∀ a b, (f a).testBit b = true → a < b) (w : Way f k a b) : a < b := by
  induction w with
  | one h => exact hr _ _ h
  | step h _ _ ih => have := hr _ _ h; omega

theorem chain_acyc {n : Nat} (hn : n ≤ 64) : acycR n (chA n n) = true := by
  rw [acycR_iff]
  intro a _ w
  have := way_up (fun x y h => by have := (chA_bit hn (Nat.le_refl n) x y).1 h; omega) w
  omega

theorem chain_one {n : Nat} (hn : n ≤ 7) : (ords n (chA n n)).length = 1 := by
  have e : INV n (chA n n) = INV n (chX n) := INV_congr fun x y => by
    rw [Bool.eq_iff_iff, chA_bit (by omega) (Nat.le_refl n)]
    unfold chX
    split
    · rw [Nat.testBit_two_pow]; simp; omega
    · rw [Nat.zero_testBit]; simp; omega
  rw [ords_acyc_len (chain_acyc (by omega)), e]
  have h : n = 0 ∨ n = 1 ∨ n = 2 ∨ n = 3 ∨ n = 4 ∨ n = 5 ∨ n = 6 ∨ n = 7 := by omega
  rcases h with rfl | rfl | rfl | rfl | rfl | rfl | rfl | rfl <;> decide +kernel

theorem free_acyc (n : Nat) : acycR n (fun _ => 0) = true := by
  rw [acycR_iff]
  intro a _ w
  cases w <;> simp_all

theorem free_len {n : Nat} (hn : n ≤ 7) : (ords n fun _ => 0).length = fct n := by
  have e : (INV n fun _ => 0) = fun _ => 0 := by
    funext i
    refine Nat.eq_of_testBit_eq fun a => ?_
    rw [Nat.zero_testBit, ← Bool.not_eq_true, b_INV (by omega)]
    simp
  rw [ords_acyc_len (free_acyc n), e]
  have h : n = 0 ∨ n = 1 ∨ n = 2 ∨ n = 3 ∨ n = 4 ∨ n = 5 ∨ n = 6 ∨ n = 7 := by omega
  rcases h with rfl | rfl | rfl | rfl | rfl | rfl | rfl | rfl <;> decide +kernel

theorem fct_le : ∀ {n : Nat}, n ≤ 7 → fct n ≤ 5040 ∧ 1 ≤ fct n := by
  intro n hn
  have h : n = 0 ∨ n = 1 ∨ n = 2 ∨ n = 3 ∨ n = 4 ∨ n = 5 ∨ n = 6 ∨ n = 7 := by omega
  rcases h with rfl | rfl | rfl | rfl | rfl | rfl | rfl | rfl <;> decide

theorem loop_len {n : Nat} (hn : n ≤ 7) : (ords n (addR n (chA n n) 0 0)).length = if n = 0 then 1 else 0 := by
  by_cases h : n = 0
  · subst h; decide +kernel
  · rw [if_neg h]
    have : acycR n (addR n (chA n n) 0 0) = false := by
      rw [← Bool.not_eq_true, acycR_iff]
      intro hall
      refine hall 0 (by omega) (.one ?_)
      have := addR_bit (n := n) (by omega) (chA n n) ((0 : Nat) : Int) ((0 : Nat) : Int) 0 0
      rw [show ((0 : Nat) : Int) = 0 from rfl] at this
      rw [this, Bool.or_eq_true]
      refine .inr ?_
      rw [show (0 : Int) = ((0 : Nat) : Int) from rfl, inR_nat]
      simp; omega
    unfold ords
    rw [this]; rfl

section
variable {E : Env}

theorem g_band7 {x : Int} : E.glob.band .i64 x 7 = x % 8 := by
  show IntKind.wrap .i64 ((BitVec.ofInt 64 x &&& BitVec.ofInt 64 7).toNat : Nat) = _
  have h1 : (BitVec.ofInt 64 x &&& BitVec.ofInt 64 7).toNat = (BitVec.ofInt 64 x).toNat % 8 := by
    rw [BitVec.toNat_and]
    have : (BitVec.ofInt 64 7).toNat = 2 ^ 3 - 1 := by decide
    rw [this, Nat.and_two_pow_sub_one_eq_mod]
  rw [h1, BitVec.toNat_ofInt]
  have h3 : ((((x % ((2 ^ 64 : Nat) : Int)).toNat % 8 : Nat) : Int)) = x % 8 := by omega
  rw [h3]
  exact wrap_i64 (by omega) (by omega)

theorem g_bandK {x : Int} (k : Nat) (hk : k ≤ 32) : E.glob.band .i64 x ((2 ^ k - 1 : Nat) : Int) = x % ((2 ^ k : Nat) : Int) := by
  show IntKind.wrap .i64 ((BitVec.ofInt 64 x &&& BitVec.ofInt 64 ((2 ^ k - 1 : Nat) : Int)).toNat : Nat) = _
  have hp : (2 : Nat) ^ k ≤ 2 ^ 32 := Nat.pow_le_pow_right (by omega) hk
  have hp1 : 1 ≤ (2 : Nat) ^ k := Nat.one_le_two_pow
  have h1 : (BitVec.ofInt 64 x &&& BitVec.ofInt 64 ((2 ^ k - 1 : Nat) : Int)).toNat = (BitVec.ofInt 64 x).toNat % 2 ^ k := by
    rw [BitVec.toNat_and]
    have : (BitVec.ofInt 64 ((2 ^ k - 1 : Nat) : Int)).toNat = 2 ^ k - 1 := by
      rw [ofInt_nat, BitVec.toNat_ofNat, Nat.mod_eq_of_lt (by omega)]
    rw [this, Nat.and_two_pow_sub_one_eq_mod]
  rw [h1, BitVec.toNat_ofInt]
  have hd : ((2 ^ k : Nat) : Int) ∣ ((2 ^ 64 : Nat) : Int) := by
    refine ⟨((2 ^ (64 - k) : Nat) : Int), ?_⟩
    rw [← Int.natCast_mul, ← Nat.pow_add, show k + (64 - k) = 64 by omega]
  have h3 : ((((x % ((2 ^ 64 : Nat) : Int)).toNat % 2 ^ k : Nat) : Int)) = x % ((2 ^ k : Nat) : Int) := by
    have h0 : 0 ≤ x % ((2 ^ 64 : Nat) : Int) := Int.emod_nonneg _ (by omega)
    rw [Int.natCast_emod, Int.toNat_of_nonneg h0, Int.emod_emod_of_dvd _ hd]
  rw [h3]
  have h4 : 0 ≤ x % ((2 ^ k : Nat) : Int) := Int.emod_nonneg _ (by omega)
  have h5 : x % ((2 ^ k : Nat) : Int) < ((2 ^ k : Nat) : Int) := Int.emod_lt_of_pos _ (by omega)
  exact wrap_i64 (by omega) (by omega)

theorem modK_nat (a : Int) (k : Nat) (hk : k ≤ 32) {n : Nat} (hn : 1 ≤ n) : ∃ m : Nat, m < n ∧ E.glob.rem .i64 (E.glob.band .i64 a ((2 ^ k - 1 : Nat) : Int)) (n : Int) = (m : Int) := by
  rw [g_bandK k hk, g_rem]
  have h4 : 0 ≤ a % ((2 ^ k : Nat) : Int) := Int.emod_nonneg _ (by have : 1 ≤ (2 : Nat) ^ k := Nat.one_le_two_pow; omega)
  generalize a % ((2 ^ k : Nat) : Int) = b at *
  rw [Int.tmod_eq_emod_of_nonneg h4]
  have h1 := Int.emod_nonneg b (b := (n : Int)) (by omega)
  have h2 := Int.emod_lt_of_pos b (b := (n : Int)) (by omega)
  exact ⟨(b % (n : Int)).toNat, by omega, by omega⟩

theorem map0_R (hE : jacquardlaw9_map0_In E) (n : Nat) (h : AHeap) : R E 30 [.c (.int .i64 (n : Int))] h = some ([.c (.int .i64 ((if n = 0 then 1 else 0 : Nat) : Int))], h) := by
  refine R_intro hE.fn ?_
  rw [jacquardlaw9_map0_eq]
  by_cases h0 : n = 0
  · subst h0; rfl
  · rw [if_neg (by simpa using h0), if_neg h0]; rfl

theorem OrderCounts_law (ht : TabOk E) (hE : jacquardlaw9_OrderCounts_In E) {h : AHeap} {c0 : List Cell} (o0 : okC h (.i .i64) c0) :
    ∃ h', R E 250 [av1 (.i .i64) c0] h = some ([.c (.bool true)], h') := by
  obtain ⟨a, e0, _⟩ := arg_int o0
  rw [e0]
  suffices hs : ∃ h', jacquardlaw9_OrderCounts.body (R E) Lim E.glob [.c (.int .i64 a)] h = some ([.c (.bool true)], h') by
    obtain ⟨h', hs⟩ := hs; exact ⟨h', R_intro hE.fn hs⟩
  rw [jacquardlaw9_OrderCounts_eq, g_band7]
  obtain ⟨n, hn⟩ : ∃ n : Nat, a % 8 = (n : Int) := ⟨(a % 8).toNat, by omega⟩
  have hn7 : n ≤ 7 := by omega
  have hn64 : n ≤ 64 := by omega
  rw [hn, New_R hE.c9, clamp_nat hn64, c1_ok, asA_ok, if_pos ⟨rfl, zero_len, relL_len _ _⟩]
  obtain ⟨f1, f2⟩ := fct_le hn7
  have loop : Lim (jacquardlaw9_OrderCounts_F1 (R E) Lim E.glob) (jacquardlaw9_OrderCounts_s1 n (fct 0 : Nat) ((0 : Nat) : Int) (relL n (chA n 0)) h) = some (.exit 0, jacquardlaw9_OrderCounts_x1_1 n (fct n : Nat) (relL n (chA n n)) h) := by
    refine Lim_count (fun i => jacquardlaw9_OrderCounts_s1 n (fct i : Nat) (i : Int) (relL n (chA n i)) h) 0 n (by omega) (fun i _ hi => ?_) (Lim_exit ?_)
    · obtain ⟨g1, g2⟩ := fct_le (n := i + 1) (by omega)
      have hv : E.glob.wrap .i64 ((fct i : Int) * ((i + 1 : Nat) : Int)) = ((fct (i + 1) : Nat) : Int) := by
        rw [← Int.natCast_mul]
        exact g_wrap_i64 (by omega) (by show ((fct (i + 1) : Nat) : Int) ≤ _; omega)
      rw [jacquardlaw9_OrderCounts_r1, if_pos (by simp; omega)]
      dsimp only
      rw [g_succ (by omega), hv]
      by_cases h0 : 0 < i
      · rw [if_pos (by simp; omega), if_pos ⟨rfl, relL_len _ _⟩, g_pred h0 (by omega), Add_R hE.c10 hn64 (words_chA n i), c1_ok, asA_ok, if_pos ⟨rfl, relL_len _ _, relL_len _ _⟩]
        rw [show chA n (i + 1) = addR n (chA n i) ((i - 1 : Nat) : Int) (i : Int) by rw [chA, if_pos h0]]
      · rw [if_neg (by simp; omega)]
        rw [show chA n (i + 1) = chA n i by rw [chA, if_neg h0]]
    · rw [jacquardlaw9_OrderCounts_r1, if_neg (by simp)]
  have hw := words_chA n n
  have hl := chain_one hn7
  obtain ⟨y, H, hr, _, hs, _⟩ := OFirst_R hE.c29 ht hn64 hw h
  obtain ⟨r, hg⟩ := grd_ex hn64 (l := []) (chain_acyc hn64) n 0 [] (DoneIs.nil n) (by simp)
  have ho := grd_ord hn64 hg
  rw [hg] at hr hs
  have hs' : SlAt H y 1 (natC r) r.length := hs
  have k1 : cntO n (fun _ => 0) 100000 = ((fct n : Nat) : Int) := by
    rw [cntO_eq]; unfold allO
    rw [List.take_of_length_le (by rw [free_len hn7]; omega), free_len hn7]
  have k2 : cntO n (chA n n) 10 = 1 := by
    rw [cntO_eq]; unfold allO
    rw [List.take_of_length_le (by rw [hl]; omega), hl]; rfl
  have k3 : cntO n (fun _ => 0) ((fct n : Int) - 1) = (fct n : Int) - 1 := by
    rw [cntO_eq]; unfold allO
    rw [List.length_take, free_len hn7]; omega
  have k4 : cntO n (addR n (chA n n) 0 0) 9 = ((if n = 0 then 1 else 0 : Nat) : Int) := by
    rw [cntO_eq]; unfold allO
    have := loop_len hn7
    rw [List.take_of_length_le (by rw [this]; split <;> omega), this]
  have w0 := words_zero
  have w4 : Words (addR n (chA n n) 0 0) := words_add hw 0 0
  rw [show jacquardlaw9_OrderCounts_s1 n 1 0 (relL n fun _ => 0) h = jacquardlaw9_OrderCounts_s1 n (fct 0 : Nat) ((0 : Nat) : Int) (relL n (chA n 0)) h from rfl, loop, bind_ok, jacquardlaw9_OrderCounts_e1_1, if_pos ⟨rfl, relL_len _ _⟩, hr, c2_ok, asC_ok, asB_ok, New_R hE.c9, clamp_nat hn64, c1_ok, asA_ok, Count_R hE.c23 ht hn64 w0, c1_ok, asI_ok, k1, beq_self_eq_true, scK_ok, if_pos ⟨rfl, relL_len _ _⟩, Count_R hE.c23 ht hn64 hw, c1_ok, asI_ok, k2, bind_ok]
  dsimp only
  rw [show ((1 : Int) == 1) = true from rfl, scK_ok, New_R hE.c9, clamp_nat hn64, c1_ok, asA_ok, g_wrap_i64 (by omega) (by omega), Count_R hE.c23 ht hn64 w0, c1_ok, asI_ok, k3, beq_self_eq_true, bind_ok]
  dsimp only
  rw [scK_ok, if_pos ⟨rfl, relL_len _ _⟩, Add_R hE.c10 hn64 hw, c1_ok, asA_ok, Count_R hE.c23 ht hn64 w4, c1_ok, asI_ok, k4, map0_R hE.c30, c1_ok, asI_ok, beq_self_eq_true, bind_ok]
  dsimp only
  rw [scK_ok, bind_ok]
  dsimp only
  rw [show (some r).isSome = true from rfl, scK_ok, hs'.len, ho.len, beq_self_eq_true, bind_ok]
  dsimp only
  rw [scK_ok, awake9_R hE.c24 ht, c1_ok, asB_ok, bind_ok]
  exact ⟨_, rfl⟩

/- Greed, as the document says. -/
theorem less9_R (hE : jacquardlaw9_less_In E) {x : Cell} {l : List Int} {h : AHeap} (hx : SlAt h x 1 (intC .i64 l) l.length) (i j : Nat) :
    R E 28 [.c x, .c (.int .i64 (i : Int)), .c (.int .i64 (j : Int))] h = some ([.c (.bool (lessL l i j))], h) := by
  refine R_intro hE.fn ?_
  unfold lessL
  rw [jacquardlaw9_less_eq, hx.len]
  by_cases hi : i < l.length
  · have di : decide ((i : Int) < (l.length : Int)) = true := by simpa using hi
    rw [di, scK_ok, hx.len, bind_ok]
    dsimp only
    by_cases hj : j < l.length
    · have dj : decide ((j : Int) < (l.length : Int)) = true := by simpa using hj
      rw [dj, scK_ok, hx.get1 hi (intC_get (getD_of hi)), asI_ok, hx.get1 hj (intC_get (getD_of hj)), asI_ok, bind_ok]
      dsimp only
      rw [show decide (i < l.length) = true by simpa using hi, show decide (j < l.length) = true by simpa using hj, Bool.true_and, Bool.true_and]
      split
      · rw [hx.get1 hi (intC_get (getD_of hi)), asI_ok, hx.get1 hj (intC_get (getD_of hj)), asI_ok]
      · simp
    · have dj : decide ((j : Int) < (l.length : Int)) = false := by simpa using hj
      rw [dj, scK_ft, if_neg (by simp), show decide (j < l.length) = false by simpa using hj]
      simp
  · have di : decide ((i : Int) < (l.length : Int)) = false := by simpa using hi
    rw [di, scK_ft, scK_ft, if_neg (by simp), show decide (i < l.length) = false by simpa using hi]
    simp

def frU (f : Nat → Nat) (d k : Nat) : Nat → Bool
  | 0 => !d.testBit k
  | j + 1 => frU f d k j && (d.testBit j || !(f j).testBit k)

theorem frU_iff (f : Nat → Nat) (d k : Nat) : ∀ n, frU f d k n = true ↔ d.testBit k = false ∧ ∀ j, j < n → (f j).testBit k = true → d.testBit j = true
  | 0 => by simp [frU]
  | n + 1 => by
    rw [frU, Bool.and_eq_true, frU_iff f d k n]
    constructor
    · rintro ⟨⟨h1, h2⟩, h3⟩
      refine ⟨h1, fun j hj hf => ?_⟩
      by_cases e : j = n
      · subst e; rw [hf] at h3; simpa using h3
      · exact h2 j (by omega) hf
    · rintro ⟨h1, h2⟩
      refine ⟨⟨h1, fun j hj => h2 j (by omega)⟩, ?_⟩
      cases hf : (f n).testBit k with
      | false => simp
      | true => rw [h2 n (by omega) hf]; rfl

theorem frU_avail {n : Nat} (hn : n ≤ 64) (f : Nat → Nat) (d k : Nat) : frU f d k n = avail (INV n f) d k := by
  rw [Bool.eq_iff_iff, frU_iff]
  unfold avail
  rw [Bool.and_eq_true, beq_iff_eq, ndiff_zero]
  constructor
  · rintro ⟨h1, h2⟩
    refine ⟨by rw [h1]; rfl, fun a ha => ?_⟩
    obtain ⟨a1, a2⟩ := (b_INV hn f _ _).1 ha
    exact h2 a a1 a2
  · rintro ⟨h1, h2⟩
    exact ⟨by simpa using h1, fun j hj hf => h2 j ((b_INV hn f _ _).2 ⟨hj, hf⟩)⟩

theorem bestU_succ (B : Nat → Nat) (l : List Int) (d i : Nat) : bestU B l d (i + 1) = if (avail B d i && (match bestU B l d i with | none => true | some j => lessL l i j)) = true then some i else bestU B l d i := rfl

theorem OrderGreedy_law (ht : TabOk E) (hE : jacquardlaw9_OrderGreedy_In E) {h : AHeap} {c0 c1 c2 : List Cell} (o0 : okC h (.i .i64) c0) (o1 : okC h (.sl shPair) c1) (o2 : okC h (.sl (.i .i64)) c2) :
    ∃ h', R E 249 [av1 (.i .i64) c0, av1 (.sl shPair) c1, av1 (.sl (.i .i64)) c2] h = some ([.c (.bool true)], h') := by
  obtain ⟨a, e0, _⟩ := arg_int o0
  obtain ⟨x1, l1, e1, s1, lo1, _, hm1⟩ := arg_pairs o1
  obtain ⟨x2, l2, e2, s2, lo2, _, hm2⟩ := arg_ints o2
  rw [e0, e1, e2]
  suffices hs : ∃ h', jacquardlaw9_OrderGreedy.body (R E) Lim E.glob [.c (.int .i64 a), .c x1, .c x2] h = some ([.c (.bool true)], h') by
    obtain ⟨h', hs⟩ := hs; exact ⟨h', R_intro hE.fn hs⟩
  rw [jacquardlaw9_OrderGreedy_eq]
  dsimp only
  rw [s2.len]
  by_cases hb : l2.length > 200
  · rw [if_pos (by simp; omega), awake9_R hE.c24 ht, c1_ok, asB_ok]; exact ⟨_, rfl⟩
  · have ecl : (if 64 < (if 0 > a then 0 else a) then 64 else (if 0 > a then 0 else a)) = ((clamp a : Nat) : Int) := by unfold clamp; split <;> split <;> omega
    have hn : clamp a ≤ 64 := by unfold clamp; omega
    generalize clamp a = n at *
    have hOf := Of_R hE.c1 (n : Int) s1 lo1
    rw [clamp_nat hn] at hOf
    have hw := words_of n (l1.take 200)
    have hfit := of_fit hn (l1.take 200)
    rw [if_neg (by simp; omega), ecl, hOf, c2_ok, asA_ok, asA_ok]
    simp only [relL_len, zero_len, and_self, if_true]
    generalize ofR n (l1.take 200) = f at *
    obtain ⟨y, H, hr, hk, hs, hlow⟩ := Greedy_R hE.c27 ht hn hw s2 lo2
    have s2' := s2.keep lo2 hk
    rw [hr, c2_ok, asC_ok, asB_ok, Acyclic_R hE.c26 hn hw, c1_ok, asB_ok, grd_acyc hn, beq_self_eq_true]
    cases hac : acycR n f with
    | false =>
      have hg : grd n (INV n f) l2 n 0 [] = none := by
        have := grd_acyc hn (f := f) (l := l2)
        rw [hac] at this
        cases hg : grd n (INV n f) l2 n 0 [] with
        | none => rfl
        | some r => rw [hg] at this; cases this
      rw [hg] at hs
      have hs' : SlAt H y 1 (natC []) ([] : List Nat).length := hs
      rw [Bool.not_true, scK_ok, Bool.not_false, scK_ok, hs'.len, bind_ok]
      dsimp only
      rw [show ((([] : List Nat).length : Int) != 0) = false from rfl, bind_ok]
      dsimp only
      rw [if_neg (by simp), if_pos rfl, awake9_R hE.c24 ht, c1_ok, asB_ok]
      exact ⟨_, rfl⟩
    | true =>
      obtain ⟨r, hg⟩ := grd_ex hn (l := l2) hac n 0 [] (DoneIs.nil n) (by simp)
      have ho := grd_ord hn hg
      rw [hg] at hs
      have hs' : SlAt H y 1 (natC r) r.length := hs
      obtain ⟨_, _, hstep⟩ := grd_steps (out := []) (show grd n (INV n f) l2 n (dOf r 0) [] = some r from hg)
      have hkp : (decide ((ints r).length = n) && kpR n (INV n f) (ints r) 0) = true := by
        rw [(kpR_ord hn ho.len).2 ho, ints_len, ho.len]; simp
      have hsi := hs'
      rw [natC_ints, ← ints_len] at hsi
      rw [Bool.not_true, scK_ok, scK_ft, bind_ok]
      dsimp only
      rw [if_neg (by simp), if_neg (by simp), keeps_S hE.c25 hn hw hfit hsi (by rw [ints_len, ho.len]; omega), c1_ok, asB_ok, hkp, if_neg (by simp), boolL_false]
      have inner : ∀ (i k : Nat) (b : Int), k < n → Lim (jacquardlaw9_OrderGreedy_F1 (R E) Lim E.glob) (jacquardlaw9_OrderGreedy_s1 n x2 y i b k (!(dOf r i).testBit k) 0 (relL n f) (boolL (fun j => (dOf r i).testBit j) 64) H) = some (.exit 4, jacquardlaw9_OrderGreedy_x1_5 n x2 y i b k (avail (INV n f) (dOf r i) k) (relL n f) (boolL (fun j => (dOf r i).testBit j) 64) H) := by
        intro i k b hkn
        rw [← frU_avail hn]
        refine Lim_count (fun j => jacquardlaw9_OrderGreedy_s1 n x2 y i b k (frU f (dOf r i) k j) (j : Int) (relL n f) (boolL (fun j => (dOf r i).testBit j) 64) H) 0 n (by omega) (fun j _ hj => ?_) (Lim_exit ?_)
        · rw [jacquardlaw9_OrderGreedy_r1, if_pos (by simp; omega), frU]
          cases frU f (dOf r i) k j with
          | false => rw [scK_ft, Bool.false_and, g_succ (by omega)]
          | true =>
            rw [scK_ok, if_pos ⟨by omega, by omega⟩, show 0 + Int.toNat (j : Int) * 1 = j by omega, atK_ok (boolL_get (show j < 64 by omega)), asB_ok]
            cases hd : (dOf r i).testBit j with
            | true => rw [scK_tf, bind_ok]; dsimp only; rw [g_succ (by omega)]; rfl
            | false =>
              rw [scK_ok, if_pos ⟨rfl, relL_len _ _⟩, HasR_R hE.c3 hn hw, c1_ok, asB_ok, hasR_nat hj (by omega), bind_ok]
              dsimp only
              rw [bind_ok]
              dsimp only
              rw [g_succ (by omega), Bool.true_and, Bool.false_or]
        · rw [jacquardlaw9_OrderGreedy_r1, if_neg (by simp)]
      have mid : ∀ (i : Nat), i < r.length → Lim (jacquardlaw9_OrderGreedy_F2 (R E) Lim E.glob) (jacquardlaw9_OrderGreedy_s2 n x2 y i (-1) 0 (relL n f) (boolL (fun j => (dOf r i).testBit j) 64) H) = some (.exit 2, jacquardlaw9_OrderGreedy_x2_3 n x2 y i (bI (bestU (INV n f) l2 (dOf r i) n)) (relL n f) (boolL (fun j => (dOf r i).testBit j) 64) H) := by
        intro i hi
        refine Lim_count (fun k => jacquardlaw9_OrderGreedy_s2 n x2 y i (bI (bestU (INV n f) l2 (dOf r i) k)) (k : Int) (relL n f) (boolL (fun j => (dOf r i).testBit j) 64) H) 0 n (by omega) (fun k _ hk => ?_) (Lim_exit ?_)
        · rw [jacquardlaw9_OrderGreedy_r2, if_pos (by simp; omega), if_pos ⟨by omega, by omega⟩, show 0 + Int.toNat (k : Int) * 1 = k by omega, atK_ok (boolL_get (show k < 64 by omega)), asB_ok, inner i k _ hk, bind_ok, jacquardlaw9_OrderGreedy_e1_5, bestU_succ]
          cases avail (INV n f) (dOf r i) k with
          | false => rw [scK_ft, if_neg (by simp), if_neg (by simp), g_succ (by omega)]
          | true =>
            rw [scK_ok, Bool.true_and]
            cases hb : bestU (INV n f) l2 (dOf r i) k with
            | none =>
              rw [show decide (bI none < 0) = true from rfl, scK_tf, bind_ok]
              dsimp only
              rw [if_pos rfl, if_pos rfl, g_succ (by omega)]; rfl
            | some j =>
              rw [show decide (bI (some j) < 0) = false by unfold bI; simp, scK_ok, show bI (some j) = (j : Int) from rfl, less9_R hE.c28 s2', c1_ok, asB_ok, bind_ok]
              dsimp only
              rw [bind_ok]
              dsimp only
              split
              · rw [g_succ (by omega)]; rfl
              · rw [g_succ (by omega)]; rfl
        · rw [jacquardlaw9_OrderGreedy_r2, if_neg (by simp)]
      have outer : Lim (jacquardlaw9_OrderGreedy_F3 (R E) Lim E.glob) (jacquardlaw9_OrderGreedy_s3 n x2 y ((0 : Nat) : Int) (relL n f) (boolL (fun j => (dOf r 0).testBit j) 64) H) = some (.exit 0, jacquardlaw9_OrderGreedy_x3_1 H) := by
        refine Lim_count (fun i => jacquardlaw9_OrderGreedy_s3 n x2 y (i : Int) (relL n f) (boolL (fun j => (dOf r i).testBit j) 64) H) 0 r.length (by omega) (fun i _ hi => ?_) (Lim_exit ?_)
        · have hv : r[i]? = some r[i] := List.getElem?_eq_getElem hi
          generalize r[i] = v at hv
          have hvn := ho.lt v (List.mem_of_getElem? hv)
          have hl := ho.len
          have hbst := hstep i (by simp) hi
          rw [hv] at hbst
          rw [jacquardlaw9_OrderGreedy_r3, hs'.len, if_pos (by simp; omega), mid i hi, bind_ok, jacquardlaw9_OrderGreedy_e2_3, hs'.get1 hi (natC_get hv), asI_ok, hbst, show bI (some v) = (v : Int) from rfl, show ((v : Int) != (v : Int)) = false from bne_self_eq_false _, if_neg (by simp), if_pos ⟨by omega, by omega⟩, if_pos (by rw [boolL_len]; omega), show 0 + Int.toNat (v : Int) * 1 = v by omega, boolL_set, g_succ (by omega)]
          congr 3
          unfold boolL
          refine List.map_congr_left fun j _ => ?_
          rw [dOf, hv]
          dsimp only
          rw [Nat.testBit_or, Nat.testBit_two_pow]
          by_cases e : j = v
          · subst e; simp
          · rw [if_neg e, show decide (v = j) = false by simpa using fun h => e h.symm, Bool.or_false]
        · rw [jacquardlaw9_OrderGreedy_r3, hs'.len, if_neg (by simp)]
      have ez : (boolL (fun j => (dOf r 0).testBit j) 64) = boolL (fun _ => false) 64 := by
        unfold boolL; refine List.map_congr_left fun j _ => ?_
        dsimp only; rw [dOf, Nat.zero_testBit]
      rw [ez, show ((0 : Nat) : Int) = 0 from rfl] at outer
      rw [outer, bind_ok, jacquardlaw9_OrderGreedy_e3_1, awake9_R hE.c24 ht, c1_ok, asB_ok]
      exact ⟨_, rfl⟩

end
end Jq

/- Laws of orders: ranks. -/
namespace Jq
open Go

/-- Numbers of a table, one behind the other. -/
def tabC (n : Nat) (P : Nat → Int) : List Cell := (List.range n).map fun j => .int .i64 (P j)

theorem tabC_len (n : Nat) (P : Nat → Int) : (tabC n P).length = n := by simp [tabC]
theorem tabC_get {n : Nat} {P : Nat → Int} {i : Nat} (hi : i < n) : (tabC n P)[i]? = some (.int .i64 (P i)) := by
  rw [tabC, List.getElem?_map, List.getElem?_range hi]; rfl
theorem tabC_set {n : Nat} {P : Nat → Int} {i : Nat} {v : Int} : (tabC n P).set i (.int .i64 v) = tabC n (updP P i v) := by
  refine List.ext_getElem? fun j => ?_
  rw [List.getElem?_set, tabC_len]
  by_cases hj : j < n
  · rw [tabC_get hj, tabC_get hj]
    unfold updP
    by_cases hij : i = j
    · subst hij; simp [hj]
    · have : ¬ j = i := fun h => hij h.symm
      rw [if_neg hij, if_neg this]
  · rw [List.getElem?_eq_none (by rw [tabC_len]; omega), List.getElem?_eq_none (by rw [tabC_len]; omega)]
    split
    · rw [if_neg (by omega)]
    · rfl
theorem rep_tab (n : Nat) : rep n [Cell.int .i64 0] = tabC n fun _ => 0 := by
  unfold rep tabC
  induction n with
  | zero => rfl
  | succ n ih => rw [List.replicate_succ', List.flatten_append, ih, List.range_succ, List.map_append]; simp
theorem tabC_int (n : Nat) (P : Nat → Int) : tabC n P = intC .i64 ((List.range n).map P) := by simp [tabC, intC]
theorem SlAt.blkT (h : AHeap) (n : Nat) (P : Nat → Int) : SlAt (h ++ [some ⟨true, 1, tabC n P⟩]) (.sl h.length n 0 n) 1 (intC .i64 ((List.range n).map P)) ((List.range n).map P).length := by
  rw [← tabC_int, List.length_map, List.length_range]
  exact ⟨by rw [tabC_len]; omega, .inr ⟨_, _, 0, rfl, .inr ⟨_, blk_new _ _, tabC_len n P, by omega, fun j _ => by simp⟩⟩⟩

/-- Each one's place, for the first i of a row. -/
def rkP (r : List Nat) : Nat → Nat → Int
  | 0 => fun _ => 0
  | i + 1 => updP (rkP r i) (r.getD i 0) i

theorem rkP_at {r : List Nat} (hr : r.Nodup) : ∀ {i j v : Nat}, j < i → i ≤ r.length → r[j]? = some v → rkP r i v = (j : Int)
  | 0, _, _, h, _, _ => by omega
  | i + 1, j, v, h, hi, hv => by
    rw [rkP]
    unfold updP
    have hg : r[i]? = some (r.getD i 0) := by rw [List.getD_eq_getElem?_getD, List.getElem?_eq_getElem (by omega)]; rfl
    by_cases e : j = i
    · subst e; rw [hv] at hg; rw [if_pos (Option.some.inj hg)]
    · rw [if_neg (fun q => e (nodup_get hr hv (by rw [q]; exact hg)))]
      exact rkP_at hr (by omega) (by omega) hv

section
variable {E : Env}

theorem RowsAt.cell0 {α : Type} {h : AHeap} {y : Cell} {s : List (List Nat)} (a : RowsAt h y s) {j v : Nat} {r : List Nat} (hr : s[0]? = some r) (hv : r[j]? = some v) {f : Cell → Option α} :
    (idxSK 1 y (0 : Int) fun k N o => rdH h k N fun l => atK l o fun q => idxSK 1 q (j : Int) fun k N o => rdH h k N fun l => atK l o f) = f (.int .i64 (v : Int)) :=
  a.cell (i := 0) hr hv

theorem OrderRanks_law (ht : TabOk E) (hE : jacquardlaw9_OrderRanks_In E) {h : AHeap} {c0 c1 c2 : List Cell} (o0 : okC h (.i .i64) c0) (o1 : okC h (.sl shPair) c1) (o2 : okC h (.i .i64) c2) :
    ∃ h', R E 248 [av1 (.i .i64) c0, av1 (.sl shPair) c1, av1 (.i .i64) c2] h = some ([.c (.bool true)], h') := by
  obtain ⟨a, e0, _⟩ := arg_int o0
  obtain ⟨x1, l1, e1, s1, lo1, _, hm1⟩ := arg_pairs o1
  obtain ⟨a2, e2, _⟩ := arg_int o2
  rw [e0, e1, e2]
  suffices hs : ∃ h', jacquardlaw9_OrderRanks.body (R E) Lim E.glob [.c (.int .i64 a), .c x1, .c (.int .i64 a2)] h = some ([.c (.bool true)], h') by
    obtain ⟨h', hs⟩ := hs; exact ⟨h', R_intro hE.fn hs⟩
  obtain ⟨n, hn, hm⟩ := mod_nat (E := E) a (n := 7) (by omega)
  rw [show ((7 : Nat) : Int) = 7 from rfl] at hm
  have hn64 : n ≤ 64 := by omega
  have hOf := Of_R hE.c1 (n : Int) s1 lo1
  rw [clamp_nat hn64] at hOf
  have hw := words_of n (l1.take 200)
  rw [jacquardlaw9_OrderRanks_eq, hm, hOf, c2_ok, asA_ok, asA_ok]
  simp only [relL_len, zero_len, and_self, if_true]
  generalize ofR n (l1.take 200) = f at *
  obtain ⟨y, H, hr, hrow, hk⟩ := All_R hE.c21 ht hn64 hw 1000 h
  rw [hr, c1_ok, asC_ok]
  rw [allO_all (by omega) f (by omega)] at hrow
  obtain ⟨y0, H0, hr0, hk0, hs0, hlow0⟩ := Greedy_R hE.c27 ht hn64 hw (x := .nils) (l := []) (h := H) ⟨rfl, .inl ⟨rfl, rfl⟩⟩ trivial
  have hrow0 := hrow.keep hk0
  have hkk : Kp h.length h H0 := hk.trans (hk0.mono hk.1)
  have hne : decide (((ords n f).length : Int) > 0) = acycR n f := by
    have := ords_ne hn64 (f := f)
    rw [Bool.eq_iff_iff, ← this, decide_eq_true_eq]
    constructor
    · intro h e; rw [e] at h; simp at h
    · intro h
      have := List.length_pos_iff.2 h
      omega
  have fin : ∀ h', Kp h.length h h' → ∃ h2, finish true h [.c (.bool true)] h' = some ([.c (.bool true)], h2) := fun h' q => ⟨_, finish_gc q (by simp [avOk, AV.cells, idOk])⟩
  rw [hr0, c2_ok, asC_ok, asB_ok, hrow0.len, grd_acyc hn64, hne, beq_self_eq_true, if_neg (by simp)]
  cases hac : acycR n f with
  | false =>
    rw [Bool.not_false, if_pos rfl, awake9_R hE.c24 ht, c1_ok, asB_ok]
    exact fin _ hkk
  | true =>
    have hnz : ords n f ≠ [] := (ords_ne hn64).2 hac
    have hpos : 1 ≤ (ords n f).length := List.length_pos_iff.2 hnz
    have hhead : (ords n f)[0]? = some ((grd n (INV n f) [] n 0 []).getD []) := by
      rw [grd_first hn64, ← List.head?_eq_getElem?]
      cases hc : ords n f with
      | nil => exact absurd hc hnz
      | cons x t => rfl
    generalize (grd n (INV n f) [] n 0 []).getD [] = r0 at *
    have ho0 := (ords_mem hn64).1 (List.mem_of_getElem? hhead)
    obtain ⟨m, hm1, hm2⟩ := modK_nat (E := E) a2 16 (by omega) hpos
    rw [show ((2 ^ 16 - 1 : Nat) : Int) = 65535 from rfl] at hm2
    have hg : (ords n f)[m]? = some (ords n f)[m] := List.getElem?_eq_getElem hm1
    have ho := (ords_mem hn64).1 (List.getElem_mem hm1)
    obtain ⟨z, hz, hzs, hzl⟩ := hrow0.get (α := List AV × AHeap) hg
    generalize (ords n f)[m] = r at *
    have hmax : n ≤ maxBytes ∧ n * 8 ≤ maxBytes := by unfold maxBytes; omega
    rw [Bool.not_true, if_neg (by simp), hrow0.len, if_neg (by omega), hm2, hz, if_pos ⟨by omega, by omega, by rw [Int.toNat_natCast]; exact hmax.2, by omega⟩]
    rw [Int.toNat_natCast, rep_tab, tabC_len]
    have loop : Lim (jacquardlaw9_OrderRanks_F1 (R E) Lim E.glob) (jacquardlaw9_OrderRanks_s1 n y y0 z (.sl H0.length n 0 n) ((0 : Nat) : Int) (relL n f) (H0 ++ [some ⟨true, 1, tabC n (rkP r 0)⟩])) = some (.exit 0, jacquardlaw9_OrderRanks_x1_1 n z (.sl H0.length n 0 n) (relL n f) (H0 ++ [some ⟨true, 1, tabC n (rkP r n)⟩])) := by
      refine Lim_count (fun i => jacquardlaw9_OrderRanks_s1 n y y0 z (.sl H0.length n 0 n) (i : Int) (relL n f) (H0 ++ [some ⟨true, 1, tabC n (rkP r i)⟩])) 0 n (by omega) (fun i _ hi => ?_) (Lim_exit ?_)
      · have hK : Kp H0.length H0 (H0 ++ [some ⟨true, 1, tabC n (rkP r i)⟩]) := Kp.app _ (Nat.le_refl _)
        have zs := hzs.keep hzl hK
        have ys := hs0.keep hlow0 hK
        have rs := hrow0.keep hK
        have hb : blk? (H0 ++ [some ⟨true, 1, tabC n (rkP r i)⟩]) H0.length = some ⟨true, 1, tabC n (rkP r i)⟩ := blk_new _ _
        have hv : r[i]? = some (r.getD i 0) := by rw [List.getD_eq_getElem?_getD, List.getElem?_eq_getElem (by rw [ho.len]; exact hi)]; rfl
        have hv0 : r0[i]? = some (r0.getD i 0) := by rw [List.getD_eq_getElem?_getD, List.getElem?_eq_getElem (by rw [ho0.len]; exact hi)]; rfl
        have hvn := ho.lt _ (List.mem_of_getElem? hv)
        rw [jacquardlaw9_OrderRanks_r1, if_pos (by simp; omega), zs.len, ho.len, bne_self_eq_false, scK_ok, ys.len, ho0.len, bne_self_eq_false, bind_ok]
        dsimp only
        rw [scK_ok, ys.get1 (by rw [ho0.len]; exact hi) (natC_get hv0), asI_ok, rs.cell0 hhead hv0, asI_ok, bne_self_eq_false, bind_ok]
        dsimp only
        rw [scK_ok, zs.get1 (by rw [ho.len]; exact hi) (natC_get hv), asI_ok, show decide (((r.getD i 0 : Nat) : Int) < 0) = false from decide_eq_false (by omega), bind_ok]
        dsimp only
        rw [scK_ok, zs.get1 (by rw [ho.len]; exact hi) (natC_get hv), asI_ok, show decide (((r.getD i 0 : Nat) : Int) ≥ (n : Int)) = false from decide_eq_false (by omega), bind_ok]
        dsimp only
        rw [if_neg (by simp), zs.get1 (by rw [ho.len]; exact hi) (natC_get hv), asI_ok, idxSK_ok hvn, rdH_ok hb (tabC_len _ _), if_pos (by rw [tabC_len]; omega), show 0 + r.getD i 0 * 1 = r.getD i 0 by omega, tabC_set, putH_ok hb rfl, setBlk_last, g_succ (by omega)]
        rfl
      · rw [jacquardlaw9_OrderRanks_r1, if_neg (by simp)]
    have e00 : tabC n (rkP r 0) = tabC n fun _ => 0 := rfl
    rw [e00, show ((0 : Nat) : Int) = 0 from rfl] at loop
    have hT := SlAt.blkT H0 n (rkP r n)
    have hK1 : Kp H0.length H0 (H0 ++ [some ⟨true, 1, tabC n (rkP r n)⟩]) := Kp.app _ (Nat.le_refl _)
    have hTl : Low (H0 ++ [some (Blk.mk true 1 (tabC n (rkP r n)))]).length (.sl H0.length n 0 n) := .inr (by simp)
    have hgr := grd_ranked hn64 ho (l := (List.range n).map (rkP r n)) (by simp) (fun i v hv => by
      have hvn := ho.lt v (List.mem_of_getElem? hv)
      rw [List.getD_eq_getElem?_getD, List.getElem?_map, List.getElem?_range hvn]
      exact rkP_at ho.nd (by have := get_lt hv; rw [ho.len] at this; exact this) (by rw [ho.len]; exact Nat.le_refl _) hv)
    obtain ⟨y3, H3, hr3, hk3, hs3, hlow3⟩ := Greedy_R hE.c27 ht hn64 hw hT hTl
    rw [hgr] at hr3 hs3
    have hs3' : SlAt H3 y3 1 (natC r) r.length := hs3
    have zs3 : SlAt H3 z 1 (natC r) r.length := (hzs.keep hzl hK1).keep (Low_mono hK1.1 hzl) hk3
    have hkf : Kp h.length h H3 := hkk.trans ((hK1.mono hkk.1).trans (hk3.mono (Nat.le_trans hkk.1 hK1.1)))
    have loop2 : Lim (jacquardlaw9_OrderRanks_F2 (R E) Lim E.glob) (jacquardlaw9_OrderRanks_s2 n z y3 true ((0 : Nat) : Int) H3) = some (.exit 2, jacquardlaw9_OrderRanks_x2_3 true H3) := by
      refine Lim_count (fun i => jacquardlaw9_OrderRanks_s2 n z y3 true (i : Int) H3) 0 n (by omega) (fun i _ hi => ?_) (Lim_exit ?_)
      · have hv : r[i]? = some (r.getD i 0) := by rw [List.getD_eq_getElem?_getD, List.getElem?_eq_getElem (by rw [ho.len]; exact hi)]; rfl
        rw [jacquardlaw9_OrderRanks_r2, if_pos (by simp; omega), hs3'.len, ho.len, bne_self_eq_false, scK_ok, hs3'.get1 (by rw [ho.len]; exact hi) (natC_get hv), asI_ok, zs3.get1 (by rw [ho.len]; exact hi) (natC_get hv), asI_ok, bne_self_eq_false, bind_ok]
        dsimp only
        rw [if_neg (by simp), g_succ (by omega)]
      · rw [jacquardlaw9_OrderRanks_r2, if_neg (by simp)]
    rw [show ((0 : Nat) : Int) = 0 from rfl] at loop2
    rw [loop, bind_ok, jacquardlaw9_OrderRanks_e1_1, if_pos ⟨rfl, relL_len _ _⟩, hr3, c2_ok, asC_ok, asB_ok, show (some r).isSome = true from rfl, loop2, bind_ok, jacquardlaw9_OrderRanks_e2_3, scK_ok, awake9_R hE.c24 ht, c1_ok, asB_ok, bind_ok]
    exact fin _ hkf

end
end Jq

/- Laws of orders: all of them, as the document says. -/
namespace Jq
open Go

/-- The rows so far, in a row of the call's own. -/
def AO (h : AHeap) (y : Cell) (s : List (List Nat)) : Prop :=
  ∃ ks : List Nat, ks.length = s.length ∧ Own 0 h y 1 (rowsC ks s) s.length ∧ ∀ (j k : Nat) (r : List Nat), ks[j]? = some k → s[j]? = some r → blk? h k = some ⟨true, 1, natC r⟩ ∧ ¬ isBlk y k

def AF (h : AHeap) (y : Cell) (h' : AHeap) (y' : Cell) : Prop := h.length ≤ h'.length ∧ ∀ k, k < h.length → ¬ isBlk y k → h'[k]? = h[k]? ∧ ¬ isBlk y' k

theorem AF.refl (h : AHeap) (y : Cell) : AF h y h y := ⟨Nat.le_refl _, fun _ _ hk => ⟨rfl, hk⟩⟩
theorem AF.trans {h h' h'' : AHeap} {y y' y'' : Cell} (a : AF h y h' y') (b : AF h' y' h'' y'') : AF h y h'' y'' := by
  refine ⟨Nat.le_trans a.1 b.1, fun k hk hy => ?_⟩
  obtain ⟨a1, a2⟩ := a.2 k hk hy
  obtain ⟨b1, b2⟩ := b.2 k (by have := a.1; omega) a2
  exact ⟨b1.trans a1, b2⟩
theorem AF.of {h h' : AHeap} {y : Cell} (hl : h.length ≤ h'.length) (hk : ∀ k, k < h.length → h'[k]? = h[k]?) : AF h y h' y := ⟨hl, fun k hkl hy => ⟨hk k hkl, hy⟩⟩

theorem Own.blk_lt {h : AHeap} {y : Cell} {cs : List Cell} {len : Nat} (o : Own 0 h y 1 cs len) {k : Nat} (hk : isBlk y k) : k < h.length := by
  rcases o.2 with ⟨rfl, _⟩ | ⟨j, rfl, _, hb⟩
  · cases hk
  · have : j = k := hk
    subst this; exact blk_lt' hb

theorem Own.frame {h h' : AHeap} {y : Cell} {cs : List Cell} {len : Nat} (o : Own 0 h y 1 cs len) (hk : ∀ k, isBlk y k → h'[k]? = h[k]?) : Own 0 h' y 1 cs len := by
  refine ⟨o.1, ?_⟩
  rcases o.2 with e | ⟨j, e, h0, hb⟩
  · exact .inl e
  · exact .inr ⟨j, e, h0, (blk_of_get (hk j (by rw [e]; rfl))).trans hb⟩

theorem AO.frame {h h' : AHeap} {y : Cell} {s : List (List Nat)} (a : AO h y s) (hk : ∀ k, k < h.length → h'[k]? = h[k]?) : AO h' y s := by
  obtain ⟨ks, h1, h2, h3⟩ := a
  refine ⟨ks, h1, h2.frame fun k hb => hk k (h2.blk_lt hb), fun j k r hj hr => ?_⟩
  obtain ⟨a1, a2⟩ := h3 j k r hj hr
  exact ⟨(blk_of_get (hk k (blk_lt' a1))).trans a1, a2⟩

theorem AO.lt {h : AHeap} {y : Cell} {s : List (List Nat)} (a : AO h y s) {k : Nat} (hk : isBlk y k) : k < h.length := by
  obtain ⟨ks, _, h2, _⟩ := a; exact h2.blk_lt hk

theorem AO.rows {h : AHeap} {y : Cell} {s : List (List Nat)} (a : AO h y s) : RowsAt h y s := by
  obtain ⟨ks, h1, h2, h3⟩ := a
  exact ⟨ks, h1, h2.at, h2.low, fun j k r hj hr => (h3 j k r hj hr).1⟩

theorem SlAt.frame {h h' : AHeap} {x : Cell} {esz len : Nat} {cs : List Cell} (s : SlAt h x esz cs len) (hk : ∀ k, isBlk x k → h'[k]? = h[k]?) : SlAt h' x esz cs len := by
  refine ⟨s.1, s.2.imp id ?_⟩
  rintro ⟨k, N, off, rfl, h0 | ⟨b, hb, hN, hle, hat⟩⟩
  · exact ⟨k, N, off, rfl, .inl h0⟩
  · exact ⟨k, N, off, rfl, .inr ⟨b, (blk_of_get (hk k rfl)).trans hb, hN, hle, hat⟩⟩

/-- One row more, copied. -/
theorem AO.push {h : AHeap} {y : Cell} {s : List (List Nat)} (a : AO h y s) (row : List Nat) (hs : s.length < 2000) :
    ∃ y' h', (∀ {α : Type} (f : Cell → AHeap → Option α), appK 1 24 y [.sl h.length row.length 0 row.length] (h ++ [some ⟨true, 1, natC row⟩]) f = f y' h') ∧ AO h' y' (s ++ [row]) ∧ AF h y h' y' := by
  obtain ⟨ks, hks, ho, hr⟩ := a
  have hm : maxBytes ≥ 2000 * 24 := by unfold maxBytes; omega
  have ho1 : Own 0 (h ++ [some ⟨true, 1, natC row⟩]) y 1 (rowsC ks s) s.length := ho.frame fun k hk => List.getElem?_append_left (ho.blk_lt hk)
  have hH : (h ++ [some (Blk.mk true 1 (natC row))]).length = h.length + 1 := by simp
  obtain ⟨y', h', ha, ho2, hlen, hin, hfr⟩ := ho1.appF (bytes := 24) (.sl h.length row.length 0 row.length) (by omega) (by omega)
  have ny : ∀ k, h.length ≤ k → ¬ isBlk y k := fun k hk e => by have := ho.blk_lt e; omega
  refine ⟨y', h', ha, ⟨ks ++ [h.length], by simp [hks], ?_, fun j k r hj hjr => ?_⟩, by omega, fun k hk hy => ?_⟩
  · rw [rowsC_snoc _ _ _ _ hks, List.length_append, List.length_singleton]; exact ho2
  · by_cases hjl : j < ks.length
    · rw [List.getElem?_append_left hjl] at hj
      rw [List.getElem?_append_left (by omega)] at hjr
      obtain ⟨a1, a2⟩ := hr j k r hj hjr
      have hlt := blk_lt' a1
      obtain ⟨b1, b2⟩ := hfr k (by omega) a2
      exact ⟨(blk_of_get b1).trans (blk_old a1 _), b2⟩
    · rw [List.getElem?_append_right (by omega)] at hj
      rw [List.getElem?_append_right (by omega)] at hjr
      have hj0 : j - ks.length = 0 := by
        rcases Nat.eq_zero_or_pos (j - ks.length) with e | e
        · exact e
        · rw [List.getElem?_eq_none (by simp; omega)] at hj; cases hj
      have hj1 : j - s.length = 0 := by omega
      rw [hj0] at hj; rw [hj1] at hjr
      obtain rfl : h.length = k := by simpa using hj
      obtain rfl : row = r := by simpa using hjr
      obtain ⟨b1, b2⟩ := hfr h.length (by omega) (ny _ (Nat.le_refl _))
      exact ⟨(blk_of_get b1).trans (blk_new _ _), b2⟩
  · obtain ⟨b1, b2⟩ := hfr k (by omega) hy
    exact ⟨b1.trans (List.getElem?_append_left hk), b2⟩

theorem take_join {α : Type} (s A B : List α) (m : Nat) : (s ++ A.take (m - s.length)) ++ B.take (m - (s ++ A.take (m - s.length)).length) = s ++ (A ++ B).take (m - s.length) := by
  rw [List.take_append, List.append_assoc]
  congr 2
  rw [List.length_append, List.length_take]
  by_cases h : A.length ≤ m - s.length
  · rw [show m - (s.length + min (m - s.length) A.length) = m - s.length - A.length by omega]
  · rw [show m - (s.length + min (m - s.length) A.length) = 0 by omega, show m - s.length - A.length = 0 by omega]

section
variable {E : Env} {n : Nat} {f : Nat → Nat}

theorem take_mem_succ {row : List Nat} {k v a : Nat} (hv : row[k]? = some v) : a ∈ row.take (k + 1) ↔ a ∈ row.take k ∨ v = a := by
  rw [take_succ hv, List.mem_append, List.mem_singleton]
  constructor <;> (rintro (h | h); exact .inl h; exact .inr h.symm)

theorem all_free (hE : jacquardlaw9_all_In E) (hn : n ≤ 64) (hf : Words f) {d : Nat} {row : List Nat} (od : DoneIs n row d) (hrl : row.length ≤ 64) {x y : Cell} {m : Int} {i : Nat} (hi : i < n) {h : AHeap} (hx : SlAt h x 1 (natC row) row.length) :
    jacquardlaw9_all_F4 (R E) Lim E.glob (jacquardlaw9_all_s4 x y m i (relL n f) h) = jacquardlaw9_all_k9 (R E) Lim E.glob (.exit 4) (jacquardlaw9_all_x3_5 x y m i (avail (INV n f) d i) (relL n f) h) := by
  have l1 : Lim (jacquardlaw9_all_F1 (R E) Lim E.glob) (jacquardlaw9_all_s1 x y m i (decide (¬ i ∈ row.take 0)) ((0 : Nat) : Int) (relL n f) h) = some (.exit 2, jacquardlaw9_all_x1_3 x y m i (decide (¬ i ∈ row.take row.length)) (relL n f) h) := by
    refine Lim_count (fun k => jacquardlaw9_all_s1 x y m i (decide (¬ i ∈ row.take k)) (k : Int) (relL n f) h) 0 row.length (by omega) (fun k _ hk => ?_) (Lim_exit ?_)
    · have hv : row[k]? = some row[k] := List.getElem?_eq_getElem hk
      generalize row[k] = v at hv
      rw [jacquardlaw9_all_r1, hx.len, if_pos (by simp; omega)]
      have e : decide (¬ i ∈ row.take (k + 1)) = (decide (¬ i ∈ row.take k) && ((v : Int) != (i : Int))) := by
        rw [Bool.eq_iff_iff]
        simp only [Bool.and_eq_true, decide_eq_true_eq, bne_iff_ne, ne_eq, take_mem_succ hv, not_or]
        refine and_congr_right fun _ => ?_
        omega
      rw [e]
      cases decide (¬ i ∈ row.take k) with
      | false => rw [scK_ft, Bool.false_and, g_succ (by omega)]
      | true =>
        rw [scK_ok, hx.get1 hk (natC_get hv), asI_ok, bind_ok]
        dsimp only
        rw [Bool.true_and, g_succ (by omega)]
    · rw [jacquardlaw9_all_r1, hx.len, if_neg (by simp)]
  have e0 : decide (¬ i ∈ row.take 0) = true := by simp
  have e1 : decide (¬ i ∈ row.take row.length) = frU f d i 0 := by
    rw [List.take_length, frU, Bool.eq_iff_iff]
    simp only [decide_eq_true_eq, Bool.not_eq_true', ← Bool.not_eq_true, od.2.2]
  rw [e0, e1, show ((0 : Nat) : Int) = 0 from rfl] at l1
  have l3 : Lim (jacquardlaw9_all_F3 (R E) Lim E.glob) (jacquardlaw9_all_s3 x y m i (frU f d i 0) ((0 : Nat) : Int) (relL n f) h) = some (.exit 4, jacquardlaw9_all_x3_5 x y m i (frU f d i n) (relL n f) h) := by
    refine Lim_count (fun a => jacquardlaw9_all_s3 x y m i (frU f d i a) (a : Int) (relL n f) h) 0 n (by omega) (fun a _ ha => ?_) (Lim_exit ?_)
    · rw [jacquardlaw9_all_r3, if_pos ⟨rfl, relL_len _ _⟩, N_R hE.c14, c1_ok, asI_ok, if_pos (by simp; omega), if_pos ⟨rfl, relL_len _ _⟩, HasR_R hE.c3 hn hf, c1_ok, asB_ok, hasR_nat ha (by omega), frU]
      cases (f a).testBit i with
      | false => rw [if_pos (by rfl), Bool.not_false, Bool.or_true, Bool.and_true, g_succ (by omega)]
      | true =>
        have l2 : Lim (jacquardlaw9_all_F2 (R E) Lim E.glob) (jacquardlaw9_all_s2 x y m i (frU f d i a) a (decide (a ∈ row.take 0)) ((0 : Nat) : Int) (relL n f) h) = some (.exit 6, jacquardlaw9_all_x2_7 x y m i (frU f d i a) a (decide (a ∈ row.take row.length)) (relL n f) h) := by
          refine Lim_count (fun k => jacquardlaw9_all_s2 x y m i (frU f d i a) a (decide (a ∈ row.take k)) (k : Int) (relL n f) h) 0 row.length (by omega) (fun k _ hk => ?_) (Lim_exit ?_)
          · have hv : row[k]? = some row[k] := List.getElem?_eq_getElem hk
            generalize row[k] = v at hv
            rw [jacquardlaw9_all_r2, hx.len, if_pos (by simp; omega)]
            have e : decide (a ∈ row.take (k + 1)) = (decide (a ∈ row.take k) || ((v : Int) == (a : Int))) := by
              rw [Bool.eq_iff_iff]
              simp only [Bool.or_eq_true, decide_eq_true_eq, beq_iff_eq, take_mem_succ hv]
              refine or_congr_right ?_
              omega
            rw [e]
            cases decide (a ∈ row.take k) with
            | true => rw [scK_tf, Bool.true_or, g_succ (by omega)]
            | false =>
              rw [scK_ok, hx.get1 hk (natC_get hv), asI_ok, bind_ok]
              dsimp only
              rw [Bool.false_or, g_succ (by omega)]
          · rw [jacquardlaw9_all_r2, hx.len, if_neg (by simp)]
        have e2 : decide (a ∈ row.take 0) = false := by simp
        have e3 : decide (a ∈ row.take row.length) = d.testBit a := by
          rw [List.take_length, Bool.eq_iff_iff, od.2.2]; simp
        rw [e2, e3, show ((0 : Nat) : Int) = 0 from rfl] at l2
        rw [if_neg (by simp), l2, bind_ok, jacquardlaw9_all_e2_7, scK_and, g_succ (by omega), Bool.not_true, Bool.or_false]
    · rw [jacquardlaw9_all_r3, if_pos ⟨rfl, relL_len _ _⟩, N_R hE.c14, c1_ok, asI_ok, if_neg (by simp)]
  rw [show ((0 : Nat) : Int) = 0 from rfl] at l3
  rw [jacquardlaw9_all_r4, if_pos ⟨rfl, relL_len _ _⟩, N_R hE.c14, c1_ok, asI_ok, if_pos (by simp; omega), l1, bind_ok, jacquardlaw9_all_e1_3, l3, bind_ok, frU_avail hn]

theorem all_R (hE : jacquardlaw9_all_In E) (hn : n ≤ 64) (hf : Words f) {m : Nat} (hm : m < 2000) : ∀ (k d : Nat) (row : List Nat) (x : Cell) (s : List (List Nat)) (y : Cell) (h : AHeap), DoneIs n row d → row.length + k = n → SlAt h x 1 (natC row) row.length →
    (∀ j, isBlk x j → j < h.length ∧ ¬ isBlk y j) → AO h y s →
    ∃ y' h', R E 31 [.agg (relL n f), .c x, .c y, .c (.int .i64 (m : Int))] h = some ([.c y'], h') ∧ AO h' y' (s ++ (ext n (INV n f) k d row).take (m - s.length)) ∧ AF h y h' y' := by
  intro k
  have full : ∀ (k d : Nat) (row : List Nat) (x : Cell) (s : List (List Nat)) (y : Cell) (h : AHeap), m ≤ s.length → AO h y s →
      ∃ y' h', R E 31 [.agg (relL n f), .c x, .c y, .c (.int .i64 (m : Int))] h = some ([.c y'], h') ∧ AO h' y' (s ++ (ext n (INV n f) k d row).take (m - s.length)) ∧ AF h y h' y' := by
    intro k d row x s y h hms ao
    refine ⟨y, h, R_intro hE.fn ?_, by rw [show m - s.length = 0 by omega]; simpa using ao, AF.refl _ _⟩
    rw [jacquardlaw9_all_eq, ao.rows.len, if_pos (by simp; omega)]
  induction k with
  | zero =>
    intro d row x s y h od hk hx hxb ao
    by_cases hms : m ≤ s.length
    · exact full 0 d row x s y h hms ao
    · obtain ⟨y', h', ha, ao', af⟩ := ao.push row (by omega)
      have hx2 : SlAt (h ++ [some ⟨true, 1, []⟩]) x 1 (natC row) row.length := hx.frame fun k hk => List.getElem?_append_left (hxb k hk).1
      refine ⟨y', h', R_intro hE.fn ?_, ?_, af⟩
      · rw [jacquardlaw9_all_eq, ao.rows.len, if_neg (by simp; omega), hx.len, if_pos ⟨rfl, relL_len _ _⟩, N_R hE.c14, c1_ok, asI_ok, if_pos (by rw [beq_iff_eq]; omega), if_pos (show ([] : List Cell).length = 0 * 1 from rfl), hx2.cells, bind_ok, show ([] : List Cell).length = 0 from rfl, copy_row (by omega), if_pos (show (splice [Cell.nils] 0 [Cell.sl h.length row.length 0 row.length]).length = 1 * 1 from rfl), show splice [Cell.nils] 0 [Cell.sl h.length row.length 0 row.length] = [Cell.sl h.length row.length 0 row.length] from rfl, ha]
      · rw [ext, List.take_of_length_le (by simp; omega)]; exact ao'
  | succ k ihk =>
    intro d row x s y h od hk hx hxb ao
    by_cases hms : m ≤ s.length
    · exact full (k + 1) d row x s y h hms ao
    · have loop : ∀ (q i : Nat) (s : List (List Nat)) (y : Cell) (h : AHeap), i + q = n → SlAt h x 1 (natC row) row.length → (∀ j, isBlk x j → j < h.length ∧ ¬ isBlk y j) → AO h y s →
          ∃ y' h', Lim (jacquardlaw9_all_F4 (R E) Lim E.glob) (jacquardlaw9_all_s4 x y m (i : Nat) (relL n f) h) = some (.exit 0, jacquardlaw9_all_x4_1 y' h') ∧ AO h' y' (s ++ (extF n (INV n f) k d row i q).take (m - s.length)) ∧ AF h y h' y' := by
        intro q
        induction q with
        | zero =>
          intro i s y h hi hx hxb ao
          refine ⟨y, h, Lim_exit ?_, by simpa [extF] using ao, AF.refl _ _⟩
          rw [jacquardlaw9_all_r4, if_pos ⟨rfl, relL_len _ _⟩, N_R hE.c14, c1_ok, asI_ok, if_neg (by simp; omega)]
        | succ q ihq =>
          intro i s y h hi hx hxb ao
          have hround := all_free hE hn hf od (by omega) (y := y) (m := (m : Int)) (i := i) (by omega) hx
          rw [jacquardlaw9_all_e3_5] at hround
          rw [extF_succ]
          by_cases hc : (d.testBit i || (ndiff (INV n f i) d != 0)) = true
          · have hav : avail (INV n f) d i = false := by
              cases h : avail (INV n f) d i with
              | false => rfl
              | true => exact absurd hc (avail_iff.1 h)
            rw [hav, if_neg (by simp), g_succ (by omega)] at hround
            rw [if_pos hc, List.nil_append]
            obtain ⟨y', h', hl, ao', af⟩ := ihq (i + 1) s y h (by omega) hx hxb ao
            exact ⟨y', h', Lim_next hround hl, ao', af⟩
          · have hav := avail_iff.2 hc
            have hmb : maxBytes ≥ 65 * 8 := by unfold maxBytes; omega
            have hd : d.testBit i = false := by
              unfold avail at hav
              cases h : d.testBit i with
              | false => rfl
              | true => rw [h] at hav; cases hav
            have hx2 : SlAt (h ++ [some ⟨true, 1, []⟩]) x 1 (natC row) row.length := hx.frame fun k hk => List.getElem?_append_left (hxb k hk).1
            have ow : Own 0 (h ++ [some ⟨true, 1, natC row⟩]) (.sl h.length row.length 0 row.length) 1 (natC row) row.length := ⟨by rw [natC_len]; omega, .inr ⟨h.length, by rw [natC_len], by omega, blk_new _ _⟩⟩
            obtain ⟨z, h2, ha, hz, hlen2, hin2, hfr2⟩ := ow.appF (bytes := 8) (.int .i64 (i : Int)) (by omega) (by omega)
            have hH : (h ++ [some (Blk.mk true 1 (natC row))]).length = h.length + 1 := by simp
            have same2 : ∀ k, k < h.length → h2[k]? = h[k]? := fun k hkl => by
              obtain ⟨a1, _⟩ := hfr2 k (by omega) (fun e => by have : h.length = k := e; omega)
              exact a1.trans (List.getElem?_append_left hkl)
            have ao2 := ao.frame same2
            have hzb : ∀ j, isBlk z j → j < h2.length ∧ ¬ isBlk y j := fun j hj => by
              refine ⟨hz.blk_lt hj, fun e => ?_⟩
              have h1 := ao.lt e
              rcases hin2 j hj with h3 | h3
              · have : h.length = j := h3
                omega
              · omega
            rw [← natC_snoc] at hz
            obtain ⟨y3, h3, hr3, ao3, af3⟩ := ihk (d ||| 2 ^ i) (row ++ [i]) z s y h2 (od.snoc (by omega) hd) (by simp; omega) (by rw [List.length_append, List.length_singleton]; exact hz.at) hzb ao2
            have af13 : AF h y h3 y3 := (AF.of (by omega) same2).trans af3
            have hx3 : SlAt h3 x 1 (natC row) row.length := hx.frame fun k hk => (af13.2 k (hxb k hk).1 (hxb k hk).2).1
            have hxb3 : ∀ j, isBlk x j → j < h3.length ∧ ¬ isBlk y3 j := fun j hj => ⟨by have := (hxb j hj).1; have := af13.1; omega, (af13.2 j (hxb j hj).1 (hxb j hj).2).2⟩
            obtain ⟨y', h', hl, ao', af⟩ := ihq (i + 1) _ y3 h3 (by omega) hx3 hxb3 ao3
            rw [hav, if_pos rfl, if_pos ⟨rfl, relL_len _ _⟩, if_pos (show ([] : List Cell).length = 0 * 1 from rfl), hx2.cells, bind_ok, show ([] : List Cell).length = 0 from rfl, copy_row (by omega), if_pos (show (splice [Cell.int .i64 0] 0 ([(.int .i64 (i : Int))] : List Cell)).length = 1 * 1 from rfl), show splice [Cell.int .i64 0] 0 ([(.int .i64 (i : Int))] : List Cell) = [.int .i64 (i : Int)] from rfl, ha, hr3, c1_ok, asC_ok, g_succ (by omega)] at hround
            rw [if_neg hc]
            refine ⟨y', h', Lim_next hround hl, ?_, af13.trans af⟩
            rw [take_join] at ao'
            exact ao'
      obtain ⟨y', h', hl, ao', af⟩ := loop n 0 s y h (by omega) hx hxb ao
      refine ⟨y', h', R_intro hE.fn ?_, by rw [ext_succ]; exact ao', af⟩
      rw [show ((0 : Nat) : Int) = 0 from rfl] at hl
      rw [jacquardlaw9_all_eq, ao.rows.len, if_neg (by simp; omega), hx.len, if_pos ⟨rfl, relL_len _ _⟩, N_R hE.c14, c1_ok, asI_ok, if_neg (by rw [beq_iff_eq]; omega), hl, bind_ok, jacquardlaw9_all_e4_1]

theorem ext_ords (hn : n ≤ 64) : ext n (INV n f) n 0 [] = ords n f := by
  have h0 := ext_filter hn (B := INV n f) n 0 []
  simp only [List.length_nil, List.drop_zero] at h0
  rw [ords_eq hn, h0]; rfl

theorem AO.nil (h : AHeap) : AO h .nils [] := ⟨[], rfl, Own.nil _ _ _, fun j k r hj => by simp at hj⟩

theorem all_S (hE : jacquardlaw9_all_In E) (hn : n ≤ 64) (hf : Words f) {m : Nat} (hm : m < 2000) (h : AHeap) :
    ∃ y' h', R E 31 [.agg (relL n f), .c .nils, .c .nils, .c (.int .i64 (m : Int))] h = some ([.c y'], h') ∧ RowsAt h' y' ((ords n f).take m) ∧ Kp h.length h h' := by
  obtain ⟨y', h', h1, h2, h3⟩ := all_R hE hn hf hm n 0 [] .nils [] .nils h (DoneIs.nil n) (by simp) ⟨rfl, .inl ⟨rfl, rfl⟩⟩ (fun j hj => by cases hj) (AO.nil h)
  rw [ext_ords hn] at h2
  exact ⟨y', h', h1, by simpa using h2.rows, h3.1, fun k hk => (h3.2 k hk (fun e => by cases e)).1⟩

theorem OrderAll_law (ht : TabOk E) (hE : jacquardlaw9_OrderAll_In E) {h : AHeap} {c0 c1 c2 : List Cell} (o0 : okC h (.i .i64) c0) (o1 : okC h (.sl shPair) c1) (o2 : okC h (.i .i64) c2) :
    ∃ h', R E 251 [av1 (.i .i64) c0, av1 (.sl shPair) c1, av1 (.i .i64) c2] h = some ([.c (.bool true)], h') := by
  obtain ⟨a, e0, _⟩ := arg_int o0
  obtain ⟨x1, l1, e1, s1, lo1, _, hm1⟩ := arg_pairs o1
  obtain ⟨a2, e2, _⟩ := arg_int o2
  rw [e0, e1, e2]
  suffices hs : ∃ h', jacquardlaw9_OrderAll.body (R E) Lim E.glob [.c (.int .i64 a), .c x1, .c (.int .i64 a2)] h = some ([.c (.bool true)], h') by
    obtain ⟨h', hs⟩ := hs; exact ⟨h', R_intro hE.fn hs⟩
  obtain ⟨n, hn, hm⟩ := mod_nat (E := E) a (n := 7) (by omega)
  rw [show ((7 : Nat) : Int) = 7 from rfl] at hm
  have hn64 : n ≤ 64 := by omega
  have hOf := Of_R hE.c1 (n : Int) s1 lo1
  rw [clamp_nat hn64] at hOf
  have hw := words_of n (l1.take 200)
  have hfit := of_fit hn64 (l1.take 200)
  have hb := g_bandK (E := E) (x := a2) 10 (by omega)
  rw [show ((2 ^ 10 - 1 : Nat) : Int) = 1023 from rfl, show ((2 ^ 10 : Nat) : Int) = 1024 from rfl] at hb
  rw [jacquardlaw9_OrderAll_eq, hm, hOf, c2_ok, asA_ok, asA_ok]
  simp only [relL_len, zero_len, and_self, if_true]
  rw [hb, g_wrap_i64 (by omega) (by omega)]
  have hv : (if 0 > a2 % 1024 - 5 then 0 else a2 % 1024 - 5) = (((a2 % 1024 - 5).toNat : Nat) : Int) := by split <;> omega
  have hv2 : a2 % 1024 - 5 < 1100 := by omega
  rw [hv]
  generalize a2 % 1024 - 5 = b at *
  generalize ofR n (l1.take 200) = f at *
  obtain ⟨y, H, hr, hrow, hk⟩ := All_R hE.c21 ht hn64 hw b h
  obtain ⟨y2, H2, hr2, hrow2, hk2⟩ := all_S hE.c31 hn64 hw (m := b.toNat) (by omega) H
  have e1 : allO n f b = (ords n f).take b.toNat := by unfold allO; congr 2; omega
  rw [e1] at hrow
  have hrow' := hrow.keep hk2
  rw [hr, c1_ok, asC_ok, hr2, c1_ok, asC_ok, hrow'.len, hrow2.len, bne_self_eq_false, scK_ok, Count_R hE.c23 ht hn64 hw, c1_ok, asI_ok, cntO_eq, e1, hrow2.len, bne_self_eq_false, bind_ok]
  dsimp only
  rw [if_neg (by simp)]
  have hmem : ∀ (i : Nat) (r : List Nat), ((ords n f).take b.toNat)[i]? = some r → OrdOf n f r := fun i r hr => (ords_mem hn64).1 (List.mem_of_mem_take (List.mem_of_getElem? hr))
  generalize hS : (ords n f).take b.toNat = S at *
  have hSl : S.length ≤ 720 := by rw [← hS, List.length_take]; have := ords_len (show n ≤ 6 by omega) f; omega
  have loop : Lim (jacquardlaw9_OrderAll_F2 (R E) Lim E.glob) (jacquardlaw9_OrderAll_s2 n y y2 ((0 : Nat) : Int) (relL n f) H2) = some (.exit 0, jacquardlaw9_OrderAll_x2_1 (relL n f) H2) := by
    refine Lim_count (fun i => jacquardlaw9_OrderAll_s2 n y y2 (i : Int) (relL n f) H2) 0 S.length (by omega) (fun i _ hi => ?_) (Lim_exit ?_)
    · have hg : S[i]? = some S[i] := List.getElem?_eq_getElem hi
      generalize S[i] = r at hg
      have ho := hmem i r hg
      have inner : Lim (jacquardlaw9_OrderAll_F1 (R E) Lim E.glob) (jacquardlaw9_OrderAll_s1 n y y2 i ((0 : Nat) : Int) (relL n f) H2) = some (.exit 2, jacquardlaw9_OrderAll_x1_3 n y y2 i (relL n f) H2) := by
        refine Lim_count (fun k => jacquardlaw9_OrderAll_s1 n y y2 i (k : Int) (relL n f) H2) 0 n (by omega) (fun k _ hk => ?_) (Lim_exit ?_)
        · have hv : r[k]? = some (r.getD k 0) := by rw [List.getD_eq_getElem?_getD, List.getElem?_eq_getElem (by rw [ho.len]; exact hk)]; rfl
          obtain ⟨z, hz, hzs, _⟩ := hrow'.get (α := Ex × St) hg
          rw [jacquardlaw9_OrderAll_r1, if_pos (by simp; omega), hz, hzs.len, ho.len, bne_self_eq_false, scK_ok, hrow'.cell hg hv, asI_ok, hrow2.cell hg hv, asI_ok, bne_self_eq_false, bind_ok]
          dsimp only
          rw [if_neg (by simp), g_succ (by omega)]
        · rw [jacquardlaw9_OrderAll_r1, if_neg (by simp)]
      rw [show ((0 : Nat) : Int) = 0 from rfl] at inner
      rw [jacquardlaw9_OrderAll_r2, hrow'.len, if_pos (by simp; omega), inner, bind_ok, jacquardlaw9_OrderAll_e1_3, g_succ (by omega)]
    · rw [jacquardlaw9_OrderAll_r2, hrow'.len, if_neg (by simp)]
  rw [show ((0 : Nat) : Int) = 0 from rfl] at loop
  obtain ⟨y3, H3, hr3, hk3, hs3, hl3⟩ := OFirst_R hE.c29 ht hn64 hw H2
  obtain ⟨y4, H4, hr4, hrow4, hk4⟩ := all_S hE.c31 hn64 hw (m := 1) (by omega) H3
  have hs3' := hs3.keep hl3 hk4
  have hl3' : Low H4.length y3 := Low_mono hk4.1 hl3
  have hone : ((((ords n f).take 1).length : Int) == 1) = acycR n f := by
    have := ords_ne hn64 (f := f)
    rw [Bool.eq_iff_iff, ← this, beq_iff_eq, List.length_take]
    constructor
    · intro h e; rw [e] at h; simp at h
    · intro h
      have := List.length_pos_iff.2 h
      omega
  rw [loop, bind_ok, jacquardlaw9_OrderAll_e2_1, if_pos ⟨rfl, relL_len _ _⟩, hr3, c2_ok, asC_ok, asB_ok, if_pos ⟨rfl, relL_len _ _⟩, show (1 : Int) = ((1 : Nat) : Int) from rfl, hr4, c1_ok, asC_ok, hrow4.len, show (((1 : Nat)) : Int) = 1 from rfl, hone, grd_acyc hn64, beq_self_eq_true, Bool.not_true, scK_ok, if_pos ⟨rfl, relL_len _ _⟩, Acyclic_R hE.c26 hn64 hw, c1_ok, asB_ok, beq_self_eq_true, Bool.not_true, bind_ok]
  dsimp only
  rw [scK_ok]
  cases hac : acycR n f with
  | false =>
    have hg : grd n (INV n f) [] n 0 [] = none := by
      have := grd_acyc hn64 (f := f) (l := [])
      rw [hac] at this
      cases hg : grd n (INV n f) [] n 0 [] with
      | none => rfl
      | some r => rw [hg] at this; cases this
    rw [hg] at hs3'
    have hs' : SlAt H4 y3 1 (natC []) ([] : List Nat).length := hs3'
    rw [Bool.not_false, scK_ok, hs'.len, bind_ok]
    dsimp only
    rw [show ((([] : List Nat).length : Int) != 0) = false from rfl, bind_ok]
    dsimp only
    rw [if_neg (by simp), scK_tf, scK_ok, awake9_R hE.c24 ht, c1_ok, asB_ok, bind_ok]
    exact ⟨_, rfl⟩
  | true =>
    obtain ⟨r, hg⟩ := grd_ex hn64 (l := []) hac n 0 [] (DoneIs.nil n) (by simp)
    have ho := grd_ord hn64 hg
    rw [hg] at hs3'
    have hs' : SlAt H4 y3 1 (natC r) r.length := hs3'
    have hkp : (decide ((ints r).length = n) && kpR n (INV n f) (ints r) 0) = true := by
      rw [(kpR_ord hn64 ho.len).2 ho, ints_len, ho.len]; simp
    rw [natC_ints, ← ints_len] at hs'
    rw [Bool.not_true, scK_ft, bind_ok]
    dsimp only
    rw [if_neg (by simp), scK_ok, if_pos ⟨rfl, relL_len _ _⟩, keeps_S hE.c25 hn64 hw hfit hs' (by rw [ints_len, ho.len]; omega), c1_ok, asB_ok, hkp, scK_ok, if_pos ⟨rfl, relL_len _ _⟩, OKeeps_R hE.c22 ht hn64 hw hs' hl3' (by rw [ints_len, ho.len]; omega), c1_ok, asB_ok, hkp, bind_ok]
    dsimp only
    rw [bind_ok]
    dsimp only
    rw [scK_ok, awake9_R hE.c24 ht, c1_ok, asB_ok, bind_ok]
    exact ⟨_, rfl⟩

end
end Jq

/- OrderAll: whatever the input the call says true, and each argument reads behind it as before. No conditions. -/
namespace Go.Proofs.YtfecllgnajhkmaaDoor.LOrderAll
open Go Jq Go.ChangeShapes Go.WideShapes Go.ChangeAt Go.RowKit
set_option linter.unusedVariables false

theorem own : ownKnob Tryd.prog.godebug = none := by kernel_rfl
theorem laidOut : laidOutB Tryd.prog = true := by kernel_rfl

theorem gN : Tryd.prog.globalNamed "math/bits.deBruijn64tab" = some 0 := by kernel_rfl
theorem met (os : Os) (args : Array Value) : laidMetH Tryd.prog Rows.orderAllRow.laid ((World.doorLaid Tryd.prog 400 os).forCall (fun _ _ => 0) ⟨#[], args, []⟩).memory :=
  laidMetH_of_parts3 (fuel := 8) (laidMet_of_run' 8 (by kernel_rfl) (by kernel_rfl)) (by kernel_rfl) (by kernel_rfl)
theorem of_laid {W : World} (h : laidMetH Tryd.prog Rows.orderAllRow.laid W) : ∀ i, i < deB.length → W.cell? ⟨0, i, none⟩ = some (.int .u8 (deB.getD i 0)) := by
  rw [MakeChecks.laidMetH_plain _ _ _ (by kernel_rfl)] at h
  have hT := Lib.tabIs_of_head (zs := deB) (n := 64) gN (t := 80) (by kernel_rfl) (e := 5) (by kernel_rfl) (by kernel_rfl) (by kernel_rfl) (by kernel_rfl) h
  exact fun i hi => hT.cell gN i hi

set_option maxRecDepth 100000 in
theorem lifted (os : Os) (started : os.Started) (H : Type) (enc : TypeId × Value → H) :
    ReturnsInHanded {} Tryd.checked os 10 .any (fun w args => (Rows.orderAllSpec.pre enc Tryd.prog Tryd.f10 [] false w args ∧ laidMetH Tryd.prog Rows.orderAllRow.laid w) ∧ sizedMet enc Tryd.prog Tryd.f10 (OpenSpec.ofChange Rows.orderAllSpec) false w args) (Rows.orderAllSpec.post enc Tryd.prog Tryd.f10 false true false false) := by
  refine returnsInHanded_of_change_and (C := Tryd.checked) (X := fun w _ => laidMetH Tryd.prog Rows.orderAllRow.laid w) (fun _ _ _ hh h => h.of_heap hh) own started (by kernel_rfl) Tryd.func10
    (ChangeSpec.witness_shaped (enc := enc) (C := Tryd.checked) (os := os) (X := fun w _ => laidMetH Tryd.prog Rows.orderAllRow.laid w) false (World.doorLaid Tryd.prog 400 os) #[.int .i64 0, .slice none 0 0, .int .i64 0] 8 rfl (World.shaped_of_RefB (by kernel_rfl) (by kernel_rfl)) (by kernel_rfl) (by kernel_rfl) (by kernel_rfl) (met os _)) ?_
  intro W base args ds gs before hval0 hW _ _ hL _
  have hval : ∀ (j : Nat) t v, Tryd.f10.params[j]? = some t → args[j]? = some v → Value.okWide Tryd.prog W .any base t v := hval0
  have hW' := hW
  obtain ⟨p, q, hA0, hV, rfl, hfz, hnd⟩ := hW
  have hA : DataW.TrodAll enc Tryd.prog W 0 (fun _ => true) true Tryd.f10.params.toList args.toList ds p := hA0
  rw [Tryd.params10] at hA hval
  obtain ⟨v0, vs0, d0, ds0, p0, q0, hargs, rfl, rfl, h0, r0⟩ := trodAll_cons hA
  obtain ⟨v1, vs1, d1, ds1, p1, q1, rfl, rfl, rfl, h1, r1⟩ := trodAll_cons r0
  obtain ⟨v2, vs2, d2, ds2, p2, q2, rfl, rfl, rfl, h2, r2⟩ := trodAll_cons r1
  obtain ⟨rfl, rfl, rfl⟩ := trodAll_nil r2
  obtain rfl : args = #[v0, v1, v2] := by cases args; simp_all
  obtain ⟨rfl, rfl⟩ := trodVars_none hV
  have lt0 : ∀ x ∈ p0, x.block < W.heap.size := by obtain ⟨m, hm⟩ := h0; exact DataW.trod_lt m _ _ _ hm
  have lt1 : ∀ x ∈ p1, x.block < W.heap.size := by obtain ⟨m, hm⟩ := h1; exact DataW.trod_lt m _ _ _ hm
  have lt2 : ∀ x ∈ p2, x.block < W.heap.size := by obtain ⟨m, hm⟩ := h2; exact DataW.trod_lt m _ _ _ hm
  have c := Come.tab1 (S := seat) (W := W) deB (fun _ => rfl) (of_laid hL)
  have k0 : ((.i .i64) : Sh).chk seat.P 3 = true := by kernel_rfl
  obtain ⟨b0, ρ0, cs0, c0, e0, x0, a0, o0⟩ := opens_arg (S := seat) (W := W) (sh := (.i .i64)) k0 h0 (wide_of k0 (hval 0 3 v0 rfl rfl)) ⟨nofun, nofun⟩ c
  have k1 : ((.sl shPair) : Sh).chk seat.P 23 = true := by kernel_rfl
  obtain ⟨b1, ρ1, cs1, c1, e1, x1, a1, o1⟩ := opens_arg (S := seat) (W := W) (sh := (.sl shPair)) k1 h1 (wide_of k1 (hval 1 23 v1 rfl rfl)) ⟨nofun, nofun⟩ c0
  have k2 : ((.i .i64) : Sh).chk seat.P 3 = true := by kernel_rfl
  obtain ⟨b2, ρ2, cs2, c2, e2, x2, a2, o2⟩ := opens_arg (S := seat) (W := W) (sh := (.i .i64)) k2 h2 (wide_of k2 (hval 2 3 v2 rfl rfl)) ⟨nofun, nofun⟩ c1
  obtain ⟨h', hR⟩ := OrderAll_law (E := env) tabOk in_251 (okC_mono x2 _ _ (okC_mono x1 _ _ o0)) (okC_mono x2 _ _ o1) o2
  refine (law_call (S := seat) (R_sound (S := seat) (E := env) rfl allOk) c2 (vals := #[v0, v1, v2]) (L2.cons (relA.mono e2 (relA.mono e1 a0)) (L2.cons (relA.mono e2 a1) (L2.cons a2 L2.nil))) hR).mono fun e W' ⟨he, bel⟩ => ?_
  subst he
  exact ⟨_, rfl, _, _, _, [], _, [], hW', trodAll_mk1 (shut_bool Tryd.underlying4 _), (trodAll_cons_mk (Below.trod laidOut (by kernel_rfl) (of_decide_eq_true (by kernel_rfl)) h0 bel lt0) (trodAll_cons_mk (Below.trod laidOut (by kernel_rfl) (of_decide_eq_true (by kernel_rfl)) h1 bel lt1) (trodAll_cons_mk (Below.trod laidOut (by kernel_rfl) (of_decide_eq_true (by kernel_rfl)) h2 bel lt2) trodAll_mk0))), rfl, bel.frame _, fun h => by cases h⟩

theorem over : Rows.orderAllRow.holds Tryd.pinned (OpenSpec.ofChange Rows.orderAllSpec) :=
  OpenClaim.holds_of_wide 10 Tryd.f10 rfl rfl rfl rfl rfl rfl rfl ⟨rfl, rfl, rfl, rfl, rfl⟩ rfl rfl rfl rfl rfl (by kernel_rfl) Tryd.func10 (by kernel_rfl)
    (of_decide_eq_true (by kernel_rfl)) (by unfold Func.isWrapper; first | (rw [if_pos (by decide +kernel)]; kernel_rfl) | (rw [if_neg (by decide +kernel)]; exact ⟨rfl, rfl⟩))
    (fun os started H enc _ => lifted os started H enc)

theorem proved : Rows.OrderAllCardSaid :=
  Claim7.holds_tied_plain_at .later [] [.data] true (true, "e2171dbe47d382b54c2c0add12de0f3351e3e8b0cf390f8a723af4f43efe4e31") false
    over (fun _ h => by cases h) (by kernel_rfl) (fun _ h => by cases h) orderAll_row_tie rfl ⟨rfl, rfl⟩ (by kernel_rfl) rfl
    (fun f fn hf hfn => by
      obtain rfl : f = 10 := Option.some.inj ((show Tryd.prog.funcNamed "jacquard/jacquardlaw9.OrderAll" = some 10 by kernel_rfl).symm.trans hf) |>.symm
      obtain rfl : fn = Tryd.f10 := (Option.some.inj (Tryd.func10.symm.trans hfn)).symm
      exact ⟨by kernel_rfl, fun j t ht => by
        rw [Tryd.params10] at ht
        have hm : t ∈ [3, 23, 3] := by simpa using Array.mem_of_getElem? ht
        have hall : ([3, 23, 3].all fun u => !Tryd.prog.wantsStandIn u) = true := by kernel_rfl
        exact (show Tryd.prog.wantsStandIn t = false by simpa using List.all_eq_true.1 hall t hm)⟩)
    (by kernel_rfl)
#print axioms proved

end Go.Proofs.YtfecllgnajhkmaaDoor.LOrderAll

