/- YtfecllgnajhkmaaDoorOrderKeepsC: a part of the proof; no conditions of its own. -/
import Derived.Test.YtfecllgnajhkmaaDoorRows
import Derived.WalkKit
import Derived.ProofKit
import Derived.OpenShut
import Derived.ShutString
import Derived.ChangeOld
import Derived.Below
import Derived.Carry
import Derived.Test.YtfecllgnajhkmaaDoorCards
import Derived.Test.YtfecllgnajhkmaaDoorTie
import Derived.SevenTiedAt
import Derived.LaidMore
import Derived.Stop.Joined
import Derived.Lib.LaidTab
import Derived.MakeChecks
import Derived.LaidHandle
import Derived.Test.YtfecllgnajhkmaaDoorOrderKeepsB
set_option linter.unusedVariables false
set_option linter.unusedSimpArgs false

/- jacquardlaw9.keeps tells what order.Keeps tells; jacquardlaw9.awake. -/
namespace Jq
open Go

/-- Places, one behind the other. -/
def posC (P : Nat → Int) : List Cell := (List.range 64).map fun j => .int .i64 (P j)

theorem posC_len (P : Nat → Int) : (posC P).length = 64 := by simp [posC]
theorem posC_get {P : Nat → Int} {i : Nat} (hi : i < 64) : (posC P)[i]? = some (.int .i64 (P i)) := by
  rw [posC, List.getElem?_map, List.getElem?_range hi]; rfl
def updP (P : Nat → Int) (i : Nat) (v : Int) : Nat → Int := fun j => if j = i then v else P j
theorem posC_set {P : Nat → Int} {i : Nat} {v : Int} : (posC P).set i (.int .i64 v) = posC (updP P i v) := by
  refine List.ext_getElem? fun j => ?_
  rw [List.getElem?_set, posC_len]
  by_cases hj : j < 64
  · rw [posC_get hj, posC_get hj]
    unfold updP
    by_cases hij : i = j
    · subst hij; simp [hj]
    · have : ¬ j = i := fun h => hij h.symm
      rw [if_neg hij, if_neg this]
  · rw [List.getElem?_eq_none (by rw [posC_len]; omega), List.getElem?_eq_none (by rw [posC_len]; omega)]
    split
    · rw [if_neg (by omega)]
    · rfl
theorem posC_zero : List.replicate 64 (Cell.int .i64 0) = posC fun _ => 0 := by
  refine List.ext_getElem? fun j => ?_
  by_cases hj : j < 64
  · rw [posC_get hj, List.getElem?_replicate, if_pos hj]
  · rw [List.getElem?_replicate, if_neg hj, List.getElem?_eq_none (by rw [posC_len]; omega)]
theorem posC_congr {P Q : Nat → Int} (h : ∀ i, i < 64 → P i = Q i) : posC P = posC Q := List.map_congr_left fun j hj => by rw [h j (by simpa using hj)]

/-- Where each stands, or none where one stands twice or is none. -/
def scanP (n : Nat) : List Int → Nat → (Nat → Int) → Option (Nat → Int)
  | [], _, P => some P
  | v :: t, i, P => if (decide (v < 0) || decide (v ≥ (n : Int)) || decide (P v.toNat ≥ 0)) = true then none else scanP n t (i + 1) (updP P v.toNat i)

def pairsK (n : Nat) (f : Nat → Nat) (P : Nat → Int) : Bool := !((List.range n).any fun a => (List.range n).any fun b => (f a).testBit b && decide (P a ≥ P b))

def keepsB (n : Nat) (f : Nat → Nat) (l : List Int) : Bool := decide (l.length = n) && match scanP n l 0 (fun _ => -1) with
  | none => false
  | some P => pairsK n f P

/-- What stands while scanning. -/
def PosI (l : List Int) (i : Nat) (P : Nat → Int) : Prop := ∀ w : Nat, (P w = -1 ∧ ∀ k : Nat, k < i → l[k]? ≠ some (w : Int)) ∨ ∃ k : Nat, k < i ∧ P w = (k : Int) ∧ l[k]? = some (w : Int)

theorem scanP_good {n : Nat} (l : List Int) : ∀ (t : List Int) (i : Nat) (P : Nat → Int), l.drop i = t → PosI l i P → good n l i →
    (∃ Q, scanP n t i P = some Q ∧ PosI l l.length Q ∧ good n l l.length) ∨ (scanP n t i P = none ∧ ¬ good n l l.length) := by
  intro t
  induction t with
  | nil =>
    intro i P hd hi g
    have hl := len_of_drop0 hd
    have none_at : ∀ k, l.length ≤ k → ∀ w, l[k]? ≠ some w := fun k hk w e => by have := get_lt e; omega
    refine .inl ⟨P, rfl, fun w => ?_, ⟨fun k v hk => g.1 k v (by omega), fun j k v hj hk => g.2 j k v hj (by omega)⟩⟩
    rcases hi w with ⟨h1, h2⟩ | ⟨k, hk, h1, h2⟩
    · exact .inl ⟨h1, fun k hk => h2 k (by omega)⟩
    · exact .inr ⟨k, get_lt h2, h1, h2⟩
  | cons v t ih =>
    intro i P hd hi g
    obtain ⟨h1, h2, h3⟩ := len_of_drop hd
    rw [scanP]
    by_cases hc : (decide (v < 0) || decide (v ≥ (n : Int)) || decide (P v.toNat ≥ 0)) = true
    · rw [if_pos hc]
      refine .inr ⟨rfl, fun gg => ?_⟩
      simp only [Bool.or_eq_true, decide_eq_true_eq] at hc
      obtain ⟨b0, b1⟩ := gg.1 i v h1 h2
      rcases hc with (hc | hc) | hc
      · omega
      · omega
      · rcases hi v.toNat with ⟨e, _⟩ | ⟨k, hk, _, hk2⟩
        · omega
        · rw [show ((v.toNat : Nat) : Int) = v by omega] at hk2
          exact gg.2 k i v hk h1 hk2 h2
    · rw [if_neg hc]
      simp only [Bool.or_eq_true, decide_eq_true_eq, not_or] at hc
      obtain ⟨⟨b0, b1⟩, b2⟩ := hc
      have hvv : ((v.toNat : Nat) : Int) = v := by omega
      have hne : ∀ k : Nat, k < i → l[k]? ≠ some v := by
        rcases hi v.toNat with ⟨_, h⟩ | ⟨k, _, e, _⟩
        · rw [hvv] at h; exact h
        · omega
      refine ih (i + 1) _ h3 (fun w => ?_) (good_succ g h2 (by omega) (by omega) hne)
      unfold updP
      by_cases e : w = v.toNat
      · rw [if_pos e]
        exact .inr ⟨i, by omega, rfl, by rw [e, hvv]; exact h2⟩
      · rw [if_neg e]
        rcases hi w with ⟨q1, q2⟩ | ⟨k, hk, q1, q2⟩
        · refine .inl ⟨q1, fun k hk => ?_⟩
          by_cases ek : k = i
          · subst ek; rw [h2]; intro e2
            have : v = (w : Int) := by simpa using e2
            omega
          · exact q2 k (by omega)
        · exact .inr ⟨k, by omega, q1, q2⟩

theorem ints_of_good {n : Nat} {l : List Int} (g : good n l l.length) : ∃ r : List Nat, l = ints r := by
  refine ⟨l.map Int.toNat, ?_⟩
  unfold ints
  rw [List.map_map]
  refine (List.ext_getElem? fun j => ?_)
  rw [List.getElem?_map]
  cases h : l[j]? with
  | none => rfl
  | some v =>
    have := g.1 j v (get_lt h) h
    simp; omega

theorem keepsB_eq {n : Nat} (hn : n ≤ 64) {f : Nat → Nat} (hf : Fit n f) (l : List Int) : keepsB n f l = (decide (l.length = n) && kpR n (INV n f) l 0) := by
  unfold keepsB
  by_cases hl : l.length = n
  · rw [show decide (l.length = n) = true by simpa using hl, Bool.true_and, Bool.true_and]
    rcases scanP_good l l 0 (fun _ => -1) rfl (fun w => .inl ⟨rfl, fun k hk => by omega⟩) ⟨fun k v h => by omega, fun j k v _ h => by omega⟩ with ⟨P, hs, hP, g⟩ | ⟨hs, hg⟩
    · rw [hs]
      obtain ⟨r, rfl⟩ := ints_of_good g
      rw [ints_len] at hl g
      obtain ⟨g1, g2⟩ := good_nodup g
      have hpos : ∀ a j : Nat, r[j]? = some a → P a = (j : Int) := by
        intro a j hj
        have hj' : (ints r)[j]? = some (a : Int) := ints_some.2 hj
        rcases hP a with ⟨_, h⟩ | ⟨k, _, e, hk⟩
        · exact absurd hj' (h j (get_lt hj'))
        · rw [e, nodup_get g1 (ints_some.1 hk) hj]
      show pairsK n f P = _
      rw [Bool.eq_iff_iff, kpR_ord hn hl]
      unfold pairsK
      rw [Bool.not_eq_true', ← Bool.not_eq_true, List.any_eq_true]
      constructor
      · intro h
        refine ⟨hl, g1, g2, fun a b ha hab j hj => ?_⟩
        obtain ⟨k, hk⟩ := List.getElem?_of_mem (full_mem g1 g2 hl ha)
        refine ⟨k, ?_, hk⟩
        refine Classical.byContradiction fun hc => h ⟨a, by simpa using ha, ?_⟩
        rw [List.any_eq_true]
        refine ⟨b, by simpa using g2 b (List.mem_of_getElem? hj), ?_⟩
        rw [hab, hpos a k hk, hpos b j hj]
        simp; omega
      · rintro o ⟨a, ha, h⟩
        rw [List.any_eq_true] at h
        obtain ⟨b, hb, hab⟩ := h
        simp only [Bool.and_eq_true, decide_eq_true_eq, List.mem_range] at ha hb hab
        obtain ⟨j, hj⟩ := List.getElem?_of_mem (full_mem g1 g2 hl hb)
        obtain ⟨k, hk, hk2⟩ := o.ahead a b ha hab.1 j hj
        rw [hpos a k hk2, hpos b j hj] at hab
        omega
    · rw [hs]
      symm
      show kpR n (INV n f) l 0 = false
      rw [← Bool.not_eq_true, kpR_iff hn]
      exact fun h => hg h.1
  · rw [show decide (l.length = n) = false by simpa using hl]; rfl

section
variable {E : Env}

theorem hasR_nat {n : Nat} {f : Nat → Nat} {a b : Nat} (ha : a < n) (hb : b < 64) : hasR n f (a : Int) (b : Int) = (f a).testBit b := by
  unfold hasR
  rw [inR_nat, hasI_nat hb, Int.toNat_natCast]
  simp [ha]

theorem keeps_R (hE : jacquardlaw9_keeps_In E) {n : Nat} (hn : n ≤ 64) {f : Nat → Nat} (hf : Words f) {x : Cell} {l : List Int} {h : AHeap} (hx : SlAt h x 1 (intC .i64 l) l.length) (hlen : l.length < 9223372036854775807) :
    R E 25 [.agg (relL n f), .c x] h = some ([.c (.bool (keepsB n f l))], h) := by
  refine R_intro hE.fn ?_
  unfold keepsB
  rw [jacquardlaw9_keeps_eq, hx.len, if_pos ⟨rfl, relL_len _ _⟩, N_R hE.c14, c1_ok, asI_ok]
  by_cases hl : l.length = n
  · have e0 : ((l.length : Int) != (n : Int)) = false := by rw [hl]; exact bne_self_eq_false _
    rw [e0, if_neg (by simp), show decide (l.length = n) = true by simpa using hl, Bool.true_and, posC_zero]
    have loop1 : Lim (jacquardlaw9_keeps_F1 (R E) Lim E.glob) (jacquardlaw9_keeps_s1 x ((0 : Nat) : Int) (relL n f) (posC fun j => if j < 0 then -1 else 0) h) = some (.exit 0, jacquardlaw9_keeps_x1_1 x (relL n f) (posC fun j => if j < 64 then -1 else 0) h) := by
      refine Lim_count (fun i => jacquardlaw9_keeps_s1 x (i : Int) (relL n f) (posC fun j => if j < i then -1 else 0) h) 0 64 (by omega) (fun i _ hi => ?_) (Lim_exit ?_)
      · rw [jacquardlaw9_keeps_r1, if_pos (by simp; omega), if_pos ⟨by omega, by omega⟩, if_pos (by rw [posC_len]; omega), show 0 + Int.toNat (i : Int) * 1 = i by omega, posC_set, g_succ (by omega)]
        congr 3
        refine posC_congr fun j _ => ?_
        unfold updP
        dsimp only
        by_cases e : j = i
        · subst e; simp
        · by_cases e2 : j < i
          · rw [if_neg e, if_pos e2, if_pos (by omega)]
          · rw [if_neg e, if_neg e2, if_neg (by omega)]
      · rw [jacquardlaw9_keeps_r1, if_neg (by simp)]
    have e1 : (posC fun j => if j < 0 then -1 else 0) = posC fun _ => 0 := posC_congr fun j _ => by simp
    have e2 : (posC fun j => if j < 64 then -1 else 0) = posC fun _ => -1 := posC_congr fun j hj => if_pos hj
    rw [e1, e2] at loop1
    rw [show ((0 : Nat) : Int) = 0 from rfl] at loop1
    rw [loop1, bind_ok, jacquardlaw9_keeps_e1_1]
    have loop2 : ∀ (t : List Int) (i : Nat) (P : Nat → Int), l.drop i = t → Lim (jacquardlaw9_keeps_F2 (R E) Lim E.glob) (jacquardlaw9_keeps_s2 x (i : Int) (relL n f) (posC P) h) = match scanP n t i P with
        | none => some (.ret, jacquardlaw9_keeps_x2_0 false h)
        | some Q => some (.exit 2, jacquardlaw9_keeps_x2_3 (relL n f) (posC Q) h) := by
      intro t
      induction t with
      | nil =>
        intro i P hd
        have := len_of_drop0 hd
        refine Lim_exit ?_
        rw [jacquardlaw9_keeps_r2, hx.len, if_neg (by simp; omega)]
      | cons v t ih =>
        intro i P hd
        obtain ⟨h1, h2, h3⟩ := len_of_drop hd
        have hround : jacquardlaw9_keeps_F2 (R E) Lim E.glob (jacquardlaw9_keeps_s2 x (i : Int) (relL n f) (posC P) h) = if (decide (v < 0) || decide (v ≥ (n : Int)) || decide (P v.toNat ≥ 0)) = true then some (.ret, jacquardlaw9_keeps_x2_0 false h) else some (.normal, jacquardlaw9_keeps_s2 x ((i + 1 : Nat) : Int) (relL n f) (posC (updP P v.toNat i)) h) := by
          rw [jacquardlaw9_keeps_r2, hx.len, if_pos (by simp; omega), hx.get1 h1 (intC_get h2), asI_ok]
          cases b1 : decide (v < 0) with
          | true => rw [scK_tf, scK_tf, if_pos rfl, if_pos (by simp)]
          | false =>
            rw [scK_ok, hx.get1 h1 (intC_get h2), asI_ok, if_pos ⟨rfl, relL_len _ _⟩, N_R hE.c14, qh_ok, c1_ok, asI_ok, bind_ok]
            dsimp only
            cases b2 : decide (v ≥ (n : Int)) with
            | true => rw [scK_tf, if_pos rfl, if_pos (by simp)]
            | false =>
              have hv0 : 0 ≤ v ∧ v < (n : Int) := by
                rw [decide_eq_false_iff_not] at b1 b2; omega
              rw [scK_ok, hx.get1 h1 (intC_get h2), asI_ok, if_pos ⟨by omega, by omega⟩, show 0 + Int.toNat v * 1 = v.toNat by omega, atK_ok (posC_get (show v.toNat < 64 by omega)), asI_ok, bind_ok]
              dsimp only
              rw [Bool.false_or, Bool.false_or]
              by_cases b3 : decide (P v.toNat ≥ 0) = true
              · rw [if_pos b3, if_pos b3]
              · rw [if_neg b3, if_neg b3, hx.get1 h1 (intC_get h2), asI_ok, if_pos ⟨by omega, by omega⟩, if_pos (by rw [posC_len]; omega), show 0 + Int.toNat v * 1 = v.toNat by omega, posC_set, g_succ (by omega)]
        rw [scanP]
        by_cases hc : (decide (v < 0) || decide (v ≥ (n : Int)) || decide (P v.toNat ≥ 0)) = true
        · rw [if_pos hc] at hround ⊢
          exact Lim_ret hround
        · rw [if_neg hc] at hround ⊢
          rw [← ih (i + 1) _ h3]
          cases hq : Lim (jacquardlaw9_keeps_F2 (R E) Lim E.glob) (jacquardlaw9_keeps_s2 x ((i + 1 : Nat) : Int) (relL n f) (posC (updP P v.toNat i)) h) with
          | some p => exact Lim_next hround hq
          | none =>
            rw [ih (i + 1) _ h3] at hq
            split at hq <;> cases hq
    have l2 := loop2 l 0 (fun _ => -1) rfl
    rw [show ((0 : Nat) : Int) = 0 from rfl] at l2
    rw [l2]
    cases hs : scanP n l 0 (fun _ => -1) with
    | none =>
      show (some (Ex.ret, jacquardlaw9_keeps_x2_0 false h)).bind _ = _
      rw [bind_ok, jacquardlaw9_keeps_e2_0]
    | some P =>
      show (some (Ex.exit 2, jacquardlaw9_keeps_x2_3 (relL n f) (posC P) h)).bind _ = _
      rw [bind_ok, jacquardlaw9_keeps_e2_3]
      have inner : ∀ a, a < n → Lim (jacquardlaw9_keeps_F3 (R E) Lim E.glob) (jacquardlaw9_keeps_s3 (a : Int) 0 (relL n f) (posC P) h) = some (if ((List.range n).any fun b => (f a).testBit b && decide (P a ≥ P b)) = true then (.ret, jacquardlaw9_keeps_x3_0 false h) else (.exit 6, jacquardlaw9_keeps_x3_7 (a : Int) (relL n f) (posC P) h)) := by
        intro a ha
        refine Lim_any (fun b => jacquardlaw9_keeps_s3 (a : Int) (b : Int) (relL n f) (posC P) h) (fun b => (f a).testBit b && decide (P a ≥ P b)) (.ret, jacquardlaw9_keeps_x3_0 false h) (.exit 6, jacquardlaw9_keeps_x3_7 (a : Int) (relL n f) (posC P) h) n (fun b hb => ?_) (by simp) ?_ (by simp)
        · rw [jacquardlaw9_keeps_r3, if_pos ⟨rfl, relL_len _ _⟩, N_R hE.c14, c1_ok, asI_ok, if_pos (by simp; omega), if_pos ⟨rfl, relL_len _ _⟩, HasR_R hE.c3 hn hf, qh_ok, c1_ok, asB_ok, hasR_nat ha (by omega)]
          cases (f a).testBit b with
          | false => rw [scK_ft, if_neg (by simp), Bool.false_and, if_neg (by simp), g_succ (by omega)]
          | true =>
            rw [scK_ok, if_pos ⟨by omega, by omega⟩, show 0 + Int.toNat (a : Int) * 1 = a by omega, atK_ok (posC_get (show a < 64 by omega)), asI_ok, if_pos ⟨by omega, by omega⟩, show 0 + Int.toNat (b : Int) * 1 = b by omega, atK_ok (posC_get (show b < 64 by omega)), asI_ok, bind_ok]
            dsimp only
            rw [Bool.true_and]
            split
            · rfl
            · rw [g_succ (by omega)]
        · rw [jacquardlaw9_keeps_r3, if_pos ⟨rfl, relL_len _ _⟩, N_R hE.c14, c1_ok, asI_ok, if_neg (by simp)]
      have outer : Lim (jacquardlaw9_keeps_F4 (R E) Lim E.glob) (jacquardlaw9_keeps_s4 0 (relL n f) (posC P) h) = some (if ((List.range n).any fun a => (List.range n).any fun b => (f a).testBit b && decide (P a ≥ P b)) = true then (.ret, jacquardlaw9_keeps_x4_0 false h) else (.exit 4, jacquardlaw9_keeps_x4_5 h)) := by
        refine Lim_any (fun a => jacquardlaw9_keeps_s4 (a : Int) (relL n f) (posC P) h) (fun a => (List.range n).any fun b => (f a).testBit b && decide (P a ≥ P b)) (.ret, jacquardlaw9_keeps_x4_0 false h) (.exit 4, jacquardlaw9_keeps_x4_5 h) n (fun a ha => ?_) (by simp) ?_ (by simp)
        · rw [jacquardlaw9_keeps_r4, if_pos ⟨rfl, relL_len _ _⟩, N_R hE.c14, c1_ok, asI_ok, if_pos (by simp; omega), inner a ha, bind_ok]
          split
          · rw [jacquardlaw9_keeps_e3_0]
          · rw [jacquardlaw9_keeps_e3_7, g_succ (by omega)]
        · rw [jacquardlaw9_keeps_r4, if_pos ⟨rfl, relL_len _ _⟩, N_R hE.c14, c1_ok, asI_ok, if_neg (by simp)]
      rw [outer, bind_ok]
      unfold pairsK
      by_cases hb : ((List.range n).any fun a => (List.range n).any fun b => (f a).testBit b && decide (P a ≥ P b)) = true
      · rw [if_pos hb, jacquardlaw9_keeps_e4_0]
        simp only [hb, Bool.not_true]
      · rw [if_neg hb, jacquardlaw9_keeps_e4_5]
        have hb' : ((List.range n).any fun a => (List.range n).any fun b => (f a).testBit b && decide (P a ≥ P b)) = false := by simpa using hb
        simp only [hb', Bool.not_false]
  · have e0 : ((l.length : Int) != (n : Int)) = true := by rw [bne_iff_ne]; omega
    rw [e0, if_pos rfl, show decide (l.length = n) = false by simpa using hl, Bool.false_and]

/-- What `keeps` says of a relation made of pairs is what `Keeps` says. -/
theorem keeps_S (hE : jacquardlaw9_keeps_In E) {n : Nat} (hn : n ≤ 64) {f : Nat → Nat} (hf : Words f) (hfit : Fit n f) {x : Cell} {l : List Int} {h : AHeap} (hx : SlAt h x 1 (intC .i64 l) l.length) (hlen : l.length < 9223372036854775807) :
    R E 25 [.agg (relL n f), .c x] h = some ([.c (.bool (decide (l.length = n) && kpR n (INV n f) l 0))], h) := by
  rw [keeps_R hE hn hf hx hlen, keepsB_eq hn hfit]

theorem awake9_R (hE : jacquardlaw9_awake_In E) (ht : TabOk E) (h : AHeap) : R E 24 [] h = some ([.c (.bool true)], h) := by
  refine R_intro hE.fn ?_
  have w0 : Words fun _ => 0 := words_zero
  have w1 : Words (addR 3 (fun _ => 0) 0 1) := words_add w0 0 1
  have c3 : clamp 3 = 3 := rfl
  have ea : allO 3 (addR 3 (fun _ => 0) 0 1) 10 = [[0, 1, 2], [0, 2, 1], [2, 0, 1]] := by decide +kernel
  have ec : cntO 3 (addR 3 (fun _ => 0) 0 1) 10 = 3 := by decide +kernel
  have k1 : (decide ([(2 : Int), 0, 1].length = 3) && kpR 3 (INV 3 (addR 3 (fun _ => 0) 0 1)) [2, 0, 1] 0) = true := by decide +kernel
  have k2 : (decide ([(1 : Int), 0, 2].length = 3) && kpR 3 (INV 3 (addR 3 (fun _ => 0) 0 1)) [1, 0, 2] 0) = false := by decide +kernel
  have l1 : splice (splice (splice [Cell.int .i64 0, Cell.int .i64 0, Cell.int .i64 0] 0 ([(.int .i64 2)] : List Cell)) 1 ([(.int .i64 0)] : List Cell)) 2 ([(.int .i64 1)] : List Cell) = intC .i64 [2, 0, 1] := rfl
  have l2 : splice (splice (splice [Cell.int .i64 0, Cell.int .i64 0, Cell.int .i64 0] 0 ([(.int .i64 1)] : List Cell)) 1 ([(.int .i64 0)] : List Cell)) 2 ([(.int .i64 2)] : List Cell) = intC .i64 [1, 0, 2] := rfl
  obtain ⟨y, H, hr, hrow, hk⟩ := All_R hE.c21 ht (n := 3) (by omega) w1 10 h
  rw [ea] at hrow
  obtain ⟨z, hz, hzs, hzl⟩ := hrow.get (α := Bool × AHeap) (i := 2) (r := [2, 0, 1]) rfl
  have hz' : ∀ F : Cell → Option (Bool × AHeap), (idxSK 1 y (2 : Int) fun k N o => rdH H k N fun l => atK l o F) = F z := hz
  have z0 : ∀ {α : Type} (F : Cell → Option α), (idxSK 1 z (0 : Int) fun k N o => rdH H k N fun l => atK l o F) = F (.int .i64 2) := fun F => hzs.get0 (by simp) rfl
  rw [jacquardlaw9_awake_eq, New_R hE.c9, c1_ok, asA_ok, c3, Add_R hE.c10 (by omega) w0, c1_ok, asA_ok, if_pos ⟨rfl, zero_len, relL_len _ _⟩, if_pos ⟨rfl, relL_len _ _⟩, hr, c1_ok, asC_ok, hrow.len]
  rw [show ((([[0, 1, 2], [0, 2, 1], [2, 0, 1]] : List (List Nat)).length : Int) == 3) = true from rfl, scK_ok, hz', z0, asI_ok, bind_ok]
  dsimp only
  rw [show ((2 : Int) == 2) = true from rfl, scK_ok, if_pos ⟨rfl, relL_len _ _⟩, Count_R hE.c23 ht (by omega) w1, c1_ok, asI_ok, ec, bind_ok]
  dsimp only
  rw [show ((3 : Int) == 3) = true from rfl, scK_ok, if_pos ⟨rfl, relL_len _ _⟩, show splice (splice (splice [Cell.int .i64 0, Cell.int .i64 0, Cell.int .i64 0] 0 ([(.int .i64 2)] : List Cell)) 1 ([(.int .i64 0)] : List Cell)) 2 ([(.int .i64 1)] : List Cell) = intC .i64 [2, 0, 1] from rfl, if_pos (show (intC .i64 [2, 0, 1]).length = 3 * 1 from rfl)]
  have at1 : SlAt (H ++ [some ⟨true, 1, intC .i64 [2, 0, 1]⟩]) (.sl H.length (intC .i64 [2, 0, 1]).length 0 3) 1 (intC .i64 [2, 0, 1]) [(2 : Int), 0, 1].length := ⟨rfl, .inr ⟨_, _, 0, rfl, .inr ⟨_, blk_new _ _, rfl, by simp [intC], fun j _ => by simp⟩⟩⟩
  rw [OKeeps_R hE.c22 ht (n := 3) (by omega) w1 at1 (.inr (by simp)) (by simp), c1_ok, asB_ok, bind_ok, k1]
  dsimp only
  have hk2 : Kp h.length h (H ++ [some ⟨true, 1, intC .i64 [2, 0, 1]⟩]) := hk.trans (Kp.app _ hk.1)
  generalize H ++ [some (Blk.mk true 1 (intC .i64 [2, 0, 1]))] = H2 at *
  rw [scK_ok, if_pos ⟨rfl, relL_len _ _⟩, show splice (splice (splice [Cell.int .i64 0, Cell.int .i64 0, Cell.int .i64 0] 0 ([(.int .i64 1)] : List Cell)) 1 ([(.int .i64 0)] : List Cell)) 2 ([(.int .i64 2)] : List Cell) = intC .i64 [1, 0, 2] from rfl, if_pos (show (intC .i64 [1, 0, 2]).length = 3 * 1 from rfl)]
  have at2 : SlAt (H2 ++ [some ⟨true, 1, intC .i64 [1, 0, 2]⟩]) (.sl H2.length (intC .i64 [1, 0, 2]).length 0 3) 1 (intC .i64 [1, 0, 2]) [(1 : Int), 0, 2].length := ⟨rfl, .inr ⟨_, _, 0, rfl, .inr ⟨_, blk_new _ _, rfl, by simp [intC], fun j _ => by simp⟩⟩⟩
  rw [OKeeps_R hE.c22 ht (n := 3) (by omega) w1 at2 (.inr (by simp)) (by simp), c1_ok, asB_ok, bind_ok, k2]
  exact finish_gc (hk2.trans (Kp.app _ hk2.1)) (by simp [avOk, AV.cells, idOk])

theorem OrderKeeps_law (ht : TabOk E) (hE : jacquardlaw9_OrderKeeps_In E) {h : AHeap} {c0 c1 c2 : List Cell} (o0 : okC h (.i .i64) c0) (o1 : okC h (.sl shPair) c1) (o2 : okC h (.sl (.i .i64)) c2) :
    ∃ h', R E 247 [av1 (.i .i64) c0, av1 (.sl shPair) c1, av1 (.sl (.i .i64)) c2] h = some ([.c (.bool true)], h') := by
  obtain ⟨a, e0, _⟩ := arg_int o0
  obtain ⟨x1, l1, e1, s1, lo1, _, hm1⟩ := arg_pairs o1
  obtain ⟨x2, l2, e2, s2, lo2, _, hm2⟩ := arg_ints o2
  rw [e0, e1, e2]
  suffices hs : ∃ h', jacquardlaw9_OrderKeeps.body (R E) Lim E.glob [.c (.int .i64 a), .c x1, .c x2] h = some ([.c (.bool true)], h') by
    obtain ⟨h', hs⟩ := hs; exact ⟨h', R_intro hE.fn hs⟩
  rw [jacquardlaw9_OrderKeeps_eq]
  dsimp only
  rw [s2.len]
  by_cases hb : l2.length > 100
  · rw [if_pos (by simp; omega), awake9_R hE.c24 ht, c1_ok, asB_ok]; exact ⟨_, rfl⟩
  · have ecl : (if 64 < (if 0 > a then 0 else a) then 64 else (if 0 > a then 0 else a)) = ((clamp a : Nat) : Int) := by unfold clamp; split <;> split <;> omega
    have hn : clamp a ≤ 64 := by unfold clamp; omega
    have hw := words_of (clamp a) (l1.take 200)
    have hfit := of_fit hn (l1.take 200)
    have hOf := Of_R hE.c1 ((clamp a : Nat) : Int) s1 lo1
    rw [clamp_nat hn] at hOf
    rw [if_neg (by simp; omega), ecl, hOf, c2_ok, asA_ok, asA_ok]
    simp only [relL_len, zero_len, and_self, if_true]
    generalize ofR (clamp a) (l1.take 200) = f at *
    rw [OKeeps_R hE.c22 ht hn hw s2 lo2 (by omega), qh_ok, c1_ok, asB_ok, keeps_S hE.c25 hn hw hfit s2 (by omega), qh_ok, c1_ok, asB_ok, beq_self_eq_true, scK_ok, awake9_R hE.c24 ht, qh_ok, c1_ok, asB_ok, bind_ok]
    exact ⟨_, rfl⟩

end
end Jq

/- OrderKeeps: whatever the input the call says true, and each argument reads behind it as before. No conditions. -/
namespace Go.Proofs.YtfecllgnajhkmaaDoor.LOrderKeeps
open Go Jq Go.ChangeShapes Go.WideShapes Go.ChangeAt Go.RowKit
set_option linter.unusedVariables false

theorem own : ownKnob Tryd.prog.godebug = none := by kernel_rfl
theorem laidOut : laidOutB Tryd.prog = true := by kernel_rfl

theorem gN : Tryd.prog.globalNamed "math/bits.deBruijn64tab" = some 0 := by kernel_rfl
theorem met (os : Os) (args : Array Value) : laidMetH Tryd.prog Rows.orderKeepsRow.laid ((World.doorLaid Tryd.prog 400 os).forCall (fun _ _ => 0) ⟨#[], args, []⟩).memory :=
  laidMetH_of_parts3 (fuel := 8) (laidMet_of_run' 8 (by kernel_rfl) (by kernel_rfl)) (by kernel_rfl) (by kernel_rfl)
theorem of_laid {W : World} (h : laidMetH Tryd.prog Rows.orderKeepsRow.laid W) : ∀ i, i < deB.length → W.cell? ⟨0, i, none⟩ = some (.int .u8 (deB.getD i 0)) := by
  rw [MakeChecks.laidMetH_plain _ _ _ (by kernel_rfl)] at h
  have hT := Lib.tabIs_of_head (zs := deB) (n := 64) gN (t := 80) (by kernel_rfl) (e := 5) (by kernel_rfl) (by kernel_rfl) (by kernel_rfl) (by kernel_rfl) h
  exact fun i hi => hT.cell gN i hi

set_option maxRecDepth 100000 in
theorem lifted (os : Os) (started : os.Started) (H : Type) (enc : TypeId × Value → H) :
    ReturnsInHanded {} Tryd.checked os 6 .any (fun w args => (Rows.orderKeepsSpec.pre enc Tryd.prog Tryd.f6 [] false w args ∧ laidMetH Tryd.prog Rows.orderKeepsRow.laid w) ∧ sizedMet enc Tryd.prog Tryd.f6 (OpenSpec.ofChange Rows.orderKeepsSpec) false w args) (Rows.orderKeepsSpec.post enc Tryd.prog Tryd.f6 false true false false) := by
  refine returnsInHanded_of_change_and (C := Tryd.checked) (X := fun w _ => laidMetH Tryd.prog Rows.orderKeepsRow.laid w) (fun _ _ _ hh h => h.of_heap hh) own started (by kernel_rfl) Tryd.func6
    (ChangeSpec.witness_shaped (enc := enc) (C := Tryd.checked) (os := os) (X := fun w _ => laidMetH Tryd.prog Rows.orderKeepsRow.laid w) false (World.doorLaid Tryd.prog 400 os) #[.int .i64 0, .slice none 0 0, .slice none 0 0] 8 rfl (World.shaped_of_RefB (by kernel_rfl) (by kernel_rfl)) (by kernel_rfl) (by kernel_rfl) (by kernel_rfl) (met os _)) ?_
  intro W base args ds gs before hval0 hW _ _ hL _
  have hval : ∀ (j : Nat) t v, Tryd.f6.params[j]? = some t → args[j]? = some v → Value.okWide Tryd.prog W .any base t v := hval0
  have hW' := hW
  obtain ⟨p, q, hA0, hV, rfl, hfz, hnd⟩ := hW
  have hA : DataW.TrodAll enc Tryd.prog W 0 (fun _ => true) true Tryd.f6.params.toList args.toList ds p := hA0
  rw [Tryd.params6] at hA hval
  obtain ⟨v0, vs0, d0, ds0, p0, q0, hargs, rfl, rfl, h0, r0⟩ := trodAll_cons hA
  obtain ⟨v1, vs1, d1, ds1, p1, q1, rfl, rfl, rfl, h1, r1⟩ := trodAll_cons r0
  obtain ⟨v2, vs2, d2, ds2, p2, q2, rfl, rfl, rfl, h2, r2⟩ := trodAll_cons r1
  obtain ⟨rfl, rfl, rfl⟩ := trodAll_nil r2
  obtain rfl : args = #[v0, v1, v2] := by cases args; simp_all
  obtain ⟨rfl, rfl⟩ := trodVars_none hV
  have lt0 : ∀ x ∈ p0, x.block < W.heap.size := by obtain ⟨m, hm⟩ := h0; exact DataW.trod_lt m _ _ _ hm
  have lt1 : ∀ x ∈ p1, x.block < W.heap.size := by obtain ⟨m, hm⟩ := h1; exact DataW.trod_lt m _ _ _ hm
  have lt2 : ∀ x ∈ p2, x.block < W.heap.size := by obtain ⟨m, hm⟩ := h2; exact DataW.trod_lt m _ _ _ hm
  have c := Come.tab1 (S := seat) (W := W) deB (fun _ => rfl) (of_laid hL)
  have k0 : ((.i .i64) : Sh).chk seat.P 3 = true := by kernel_rfl
  obtain ⟨b0, ρ0, cs0, c0, e0, x0, a0, o0⟩ := opens_arg (S := seat) (W := W) (sh := (.i .i64)) k0 h0 (wide_of k0 (hval 0 3 v0 rfl rfl)) ⟨nofun, nofun⟩ c
  have k1 : ((.sl shPair) : Sh).chk seat.P 23 = true := by kernel_rfl
  obtain ⟨b1, ρ1, cs1, c1, e1, x1, a1, o1⟩ := opens_arg (S := seat) (W := W) (sh := (.sl shPair)) k1 h1 (wide_of k1 (hval 1 23 v1 rfl rfl)) ⟨nofun, nofun⟩ c0
  have k2 : ((.sl (.i .i64)) : Sh).chk seat.P 22 = true := by kernel_rfl
  obtain ⟨b2, ρ2, cs2, c2, e2, x2, a2, o2⟩ := opens_arg (S := seat) (W := W) (sh := (.sl (.i .i64))) k2 h2 (wide_of k2 (hval 2 22 v2 rfl rfl)) ⟨nofun, nofun⟩ c1
  obtain ⟨h', hR⟩ := OrderKeeps_law (E := env) tabOk in_247 (okC_mono x2 _ _ (okC_mono x1 _ _ o0)) (okC_mono x2 _ _ o1) o2
  refine (law_call (S := seat) (R_sound (S := seat) (E := env) rfl allOk) c2 (vals := #[v0, v1, v2]) (L2.cons (relA.mono e2 (relA.mono e1 a0)) (L2.cons (relA.mono e2 a1) (L2.cons a2 L2.nil))) hR).mono fun e W' ⟨he, bel⟩ => ?_
  subst he
  exact ⟨_, rfl, _, _, _, [], _, [], hW', trodAll_mk1 (shut_bool Tryd.underlying4 _), (trodAll_cons_mk (Below.trod laidOut (by kernel_rfl) (of_decide_eq_true (by kernel_rfl)) h0 bel lt0) (trodAll_cons_mk (Below.trod laidOut (by kernel_rfl) (of_decide_eq_true (by kernel_rfl)) h1 bel lt1) (trodAll_cons_mk (Below.trod laidOut (by kernel_rfl) (of_decide_eq_true (by kernel_rfl)) h2 bel lt2) trodAll_mk0))), rfl, bel.frame _, fun h => by cases h⟩

theorem over : Rows.orderKeepsRow.holds Tryd.pinned (OpenSpec.ofChange Rows.orderKeepsSpec) :=
  OpenClaim.holds_of_wide 6 Tryd.f6 rfl rfl rfl rfl rfl rfl rfl ⟨rfl, rfl, rfl, rfl, rfl⟩ rfl rfl rfl rfl rfl (by kernel_rfl) Tryd.func6 (by kernel_rfl)
    (of_decide_eq_true (by kernel_rfl)) (by unfold Func.isWrapper; first | (rw [if_pos (by decide +kernel)]; kernel_rfl) | (rw [if_neg (by decide +kernel)]; exact ⟨rfl, rfl⟩))
    (fun os started H enc _ => lifted os started H enc)

theorem proved : Rows.OrderKeepsCardSaid :=
  Claim7.holds_tied_plain_at .later [] [.data] true (true, "e2171dbe47d382b54c2c0add12de0f3351e3e8b0cf390f8a723af4f43efe4e31") false
    over (fun _ h => by cases h) (by kernel_rfl) (fun _ h => by cases h) orderKeeps_row_tie rfl ⟨rfl, rfl⟩ (by kernel_rfl) rfl
    (fun f fn hf hfn => by
      obtain rfl : f = 6 := Option.some.inj ((show Tryd.prog.funcNamed "jacquard/jacquardlaw9.OrderKeeps" = some 6 by kernel_rfl).symm.trans hf) |>.symm
      obtain rfl : fn = Tryd.f6 := (Option.some.inj (Tryd.func6.symm.trans hfn)).symm
      exact ⟨by kernel_rfl, fun j t ht => by
        rw [Tryd.params6] at ht
        have hm : t ∈ [3, 23, 22] := by simpa using Array.mem_of_getElem? ht
        have hall : ([3, 23, 22].all fun u => !Tryd.prog.wantsStandIn u) = true := by kernel_rfl
        exact (show Tryd.prog.wantsStandIn t = false by simpa using List.all_eq_true.1 hall t hm)⟩)
    (by kernel_rfl)
#print axioms proved

end Go.Proofs.YtfecllgnajhkmaaDoor.LOrderKeeps

