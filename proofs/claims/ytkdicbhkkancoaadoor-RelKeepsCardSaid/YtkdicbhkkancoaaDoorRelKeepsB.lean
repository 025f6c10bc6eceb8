/- YtkdicbhkkancoaaDoorRelKeepsB: a part of the proof; no conditions of its own. -/
import Derived.Test.YtkdicbhkkancoaaDoorRows
import Derived.WalkKit
import Derived.ProofKit
import Derived.OpenShut
import Derived.ShutString
import Derived.ChangeOld
import Derived.Below
import Derived.Carry
import Derived.Test.YtkdicbhkkancoaaDoorCards
import Derived.Test.YtkdicbhkkancoaaDoorTie
import Derived.SevenTiedAt
import Derived.LaidMore
import Derived.Stop.Joined
import Derived.Lib.LaidTab
import Derived.MakeChecks
import Derived.LaidHandle
import Derived.Test.YtkdicbhkkancoaaDoorRelKeepsA
set_option linter.unusedVariables false
set_option linter.unusedSimpArgs false

/- A relation's pairs, told rising. -/
namespace Jq
open Go

/-- The pairs of one row. -/
def rowP (f : Nat → Nat) (i : Nat) : List (Int × Int) := (bitsL (f i)).map fun (k : Nat) => ((i : Int), (k : Int))

/-- All pairs. -/
def pairsP (n : Nat) (f : Nat → Nat) : List (Int × Int) := (List.range n).flatMap (rowP f)

theorem pairsP_succ (n : Nat) (f : Nat → Nat) : pairsP (n + 1) f = pairsP n f ++ rowP f n := by
  unfold pairsP; rw [List.range_succ, List.flatMap_append]; simp

theorem bits_len (s : Nat) : (bitsL s).length ≤ 64 := by unfold bitsL; exact Nat.le_trans (List.length_filter_le _ _) (by simp)

theorem pairsP_len (f : Nat → Nat) : ∀ n, (pairsP n f).length ≤ n * 64
  | 0 => by simp [pairsP]
  | n + 1 => by
    have := pairsP_len f n
    have := bits_len (f n)
    rw [pairsP_succ, List.length_append]
    simp only [rowP, List.length_map]; omega

theorem mem_pairsP {n : Nat} {f : Nat → Nat} {p : Int × Int} : p ∈ pairsP n f ↔ ∃ i k : Nat, i < n ∧ k < 64 ∧ (f i).testBit k = true ∧ p = ((i : Int), (k : Int)) := by
  unfold pairsP rowP
  simp only [List.mem_flatMap, List.mem_range, List.mem_map, mem_bitsL]
  constructor
  · rintro ⟨i, hi, k, ⟨hk, hb⟩, rfl⟩; exact ⟨i, k, hi, hk, hb, rfl⟩
  · rintro ⟨i, k, hi, hk, hb, rfl⟩; exact ⟨i, hi, k, ⟨hk, hb⟩, rfl⟩

theorem Own.keep {n : Nat} {h h' : AHeap} {x : Cell} {esz len : Nat} {cs : List Cell} (o : Own n h x esz cs len) (a : Kp h.length h h') : Own n h' x esz cs len := by
  refine ⟨o.1, o.2.imp id ?_⟩
  rintro ⟨k, rfl, hk, hb⟩
  exact ⟨k, rfl, hk, by rw [a.blk (blk_lt' hb)]; exact hb⟩

/-- Two rows lie apart. -/
def ApartB (x y : Cell) : Prop := ∀ k, isBlk y k → ¬ isBlk x k

theorem Own.keep_app {m : Nat} {h h' : AHeap} {x x' y : Cell} {esz len : Nat} {cs : List Cell} (o : Own m h y esz cs len) (ha : ApartB x y) (hk : ∀ j b, blk? h j = some b → ¬ isBlk x j → blk? h' j = some b ∧ ¬ isBlk x' j) : Own m h' y esz cs len ∧ ApartB x' y := by
  rcases o.2 with ⟨rfl, hz⟩ | ⟨k, rfl, hkm, hb⟩
  · exact ⟨⟨o.1, .inl ⟨rfl, hz⟩⟩, fun k hk => by cases hk⟩
  · obtain ⟨h1, h2⟩ := hk k _ hb (ha k rfl)
    refine ⟨⟨o.1, .inr ⟨k, rfl, hkm, h1⟩⟩, fun j hj => ?_⟩
    have : k = j := hj
    subst this; exact h2

theorem Own.apart {n m : Nat} {h : AHeap} {x y : Cell} {e1 e2 l1 l2 : Nat} {c1 c2 : List Cell} (o : Own n h x e1 c1 l1) (hm : h.length ≤ m) {h' : AHeap} (o2 : Own m h' y e2 c2 l2) : ApartB x y := by
  intro k hk hx
  rcases o.2 with ⟨rfl, _⟩ | ⟨k1, rfl, _, hb⟩
  · cases hx
  · rcases o2.2 with ⟨rfl, _⟩ | ⟨k2, rfl, hk2, _⟩
    · cases hk
    · have e1 : k1 = k := hx
      have e2 : k2 = k := hk
      have := blk_lt' hb
      omega

variable {E : Env}

theorem two_cells' (a b : Int) : splice [Cell.int .i64 0, Cell.int .i64 0] 0 (splice (splice [Cell.int .i64 0, Cell.int .i64 0] 0 [.int .i64 a]) 1 [.int .i64 b]) = [.int .i64 a, .int .i64 b] := rfl

theorem Pairs_R (hE : rel_Rel_Pairs_In E) (ht : TabOk E) {n : Nat} (hn : n ≤ 64) {f : Nat → Nat} (hf : Words f) (h : AHeap) :
    ∃ x h', R E 20 [.agg (relL n f)] h = some ([.c x], h') ∧ Own h.length h' x 2 (pairC (pairsP n f)) (pairsP n f).length ∧ Kp h.length h h' := by
  suffices hs' : ∃ x h', rel_Rel_Pairs.body (R E) Lim E.glob [.agg (relL n f)] h = some ([.c x], h') ∧ Own h.length h' x 2 (pairC (pairsP n f)) (pairsP n f).length ∧ Kp h.length h h' by
    obtain ⟨x, h', hh, hr⟩ := hs'; exact ⟨x, h', R_intro hE.fn hh, hr⟩
  obtain ⟨st, ⟨x, h', rfl, ho, hk⟩, hlim⟩ := Lim_inv (F := rel_Rel_Pairs_F2 (R E) Lim E.glob)
    (fun i st => ∃ x h', st = rel_Rel_Pairs_s2 x n (i : Int) (relL n f) h' ∧ Own h.length h' x 2 (pairC (pairsP i f)) (pairsP i f).length ∧ Kp h.length h h') 0 n (by omega)
    (fun i st _ hi hI => by
      obtain ⟨x, h1, rfl, ho, hk⟩ := hI
      have q1 : 0 ≤ (i : Int) ∧ (i : Int) < ((64 : Nat) : Int) := by omega
      obtain ⟨y, h2, hL, hoy, hky⟩ := List_R hE.c32 ht (hf i) h1
      have hpl := pairsP_len f i
      have hbl := bits_len (f i)
      have hnn : i * 64 ≤ 64 * 64 := Nat.mul_le_mul_right _ (by omega)
      obtain ⟨st2, ⟨x3, h3, rfl, ho3, hy3, hap3, hk3⟩, hlim2⟩ := Lim_inv (F := rel_Rel_Pairs_F1 (R E) Lim E.glob)
        (fun j st => ∃ x h', st = rel_Rel_Pairs_s1 x i n i y (bitsL (f i)).length (j : Int) (relL n f) h' ∧ Own h.length h' x 2 (pairC (pairsP i f ++ (rowP f i).take j)) (pairsP i f ++ (rowP f i).take j).length ∧ Own h1.length h' y 1 (natC (bitsL (f i))) (bitsL (f i)).length ∧ ApartB x y ∧ Kp h.length h h') 0 (bitsL (f i)).length (by omega)
        (fun j st _ hj hI => by
          obtain ⟨x, h', rfl, ho, hoy, hap, hk⟩ := hI
          obtain ⟨m, hm⟩ : ∃ m, (bitsL (f i))[j]? = some m := ⟨(bitsL (f i))[j], by simp⟩
          have hlen : (pairsP i f ++ (rowP f i).take j).length ≤ 64 * 64 + 64 := by
            rw [List.length_append, List.length_take]; omega
          obtain ⟨x', h'', ha, ho', hk', hfr⟩ := ho.app (xs := [.int .i64 (i : Int), .int .i64 (m : Int)]) (bytes := 16) hk.1 rfl (by omega) (by unfold maxBytes; omega) (by unfold maxBytes; omega)
          obtain ⟨hoy', hap'⟩ := hoy.keep_app hap hfr
          have htk : (rowP f i).take (j + 1) = (rowP f i).take j ++ [((i : Int), (m : Int))] := by
            rw [List.take_add_one]; unfold rowP; rw [List.getElem?_map, hm]; rfl
          refine ⟨rel_Rel_Pairs_s1 x' i n i y (bitsL (f i)).length ((j + 1 : Nat) : Int) (relL n f) h'', ?_, x', h'', rfl, ?_, hoy', hap', hk.trans hk'⟩
          · rw [rel_Rel_Pairs_r1, if_pos (by simp; omega), hoy.at.get1 hj (natC_get hm), asI_ok, if_pos ⟨rfl, by simp⟩, two_cells', if_pos (show (List.length [_, _] : Nat) = 1 * 2 from rfl), ha, g_succ (by omega)]
          · rw [htk, ← List.append_assoc, pairC_snoc, List.length_append]; exact ho')
        (st := rel_Rel_Pairs_s1 x i n i y (bitsL (f i)).length 0 (relL n f) h2)
        ⟨x, h2, rfl, by rw [List.take_zero, List.append_nil]; exact ho.keep hky, hoy, ho.apart (Nat.le_refl _) hoy, hk.trans (hky.mono hk.1)⟩
      have hend : rel_Rel_Pairs_F1 (R E) Lim E.glob (rel_Rel_Pairs_s1 x3 i n i y (bitsL (f i)).length ((bitsL (f i)).length : Nat) (relL n f) h3) = some (.exit 2, rel_Rel_Pairs_x1_3 x3 n i (relL n f) h3) := by
        rw [rel_Rel_Pairs_r1, if_neg (by simp)]
      have hrl : (rowP f i).take (bitsL (f i)).length = rowP f i := List.take_of_length_le (by unfold rowP; simp)
      rw [hrl, ← pairsP_succ] at ho3
      refine ⟨rel_Rel_Pairs_s2 x3 n ((i + 1 : Nat) : Int) (relL n f) h3, ?_, x3, h3, rfl, ho3, hk3⟩
      rw [rel_Rel_Pairs_r2, if_pos (by simp; omega), if_pos q1, Int.toNat_natCast, Nat.mul_one, atK_ok (relL_row (by omega)), asI_ok, hL, c1_ok, asC_ok, hoy.at.len, hlim2 _ (Lim_exit hend), bind_ok, rel_Rel_Pairs_e1_3, g_succ (by omega)])
    (st := rel_Rel_Pairs_s2 .nils n 0 (relL n f) h) ⟨.nils, h, rfl, by exact Own.nil _ _ _, Kp.refl _ _⟩
  have hend : rel_Rel_Pairs_F2 (R E) Lim E.glob (rel_Rel_Pairs_s2 x n (n : Int) (relL n f) h') = some (.exit 0, rel_Rel_Pairs_x2_1 x h') := by
    rw [rel_Rel_Pairs_r2, if_neg (by simp)]
  refine ⟨x, h', ?_, ho, hk⟩
  rw [rel_Rel_Pairs_eq, atK_ok (relL_zero _ _), asI_ok, hlim _ (Lim_exit hend), bind_ok, rel_Rel_Pairs_e2_1]

end Jq

/- RelPairs: the pairs are the ones had, in order, no more; the relation of its pairs is itself. -/
namespace Jq
open Go

/-- A row's pairs below j. -/
def rowU (f : Nat → Nat) (i j : Nat) : List (Int × Int) := ((List.range j).filter fun k => (f i).testBit k).map fun (k : Nat) => ((i : Int), (k : Int))

theorem rowU_succ (f : Nat → Nat) (i j : Nat) : rowU f i (j + 1) = rowU f i j ++ if (f i).testBit j then [((i : Int), (j : Int))] else [] := by
  unfold rowU
  rw [List.range_succ, List.filter_append, List.map_append]
  congr 1
  by_cases hb : (f i).testBit j = true
  · simp [hb]
  · simp [hb]

theorem rowU_pre (f : Nat → Nat) (i j : Nat) : ∀ d, rowU f i j <+: rowU f i (j + d)
  | 0 => List.prefix_refl _
  | d + 1 => (rowU_pre f i j d).trans (by rw [← Nat.add_assoc, rowU_succ]; exact List.prefix_append _ _)

theorem pairsP_pre (f : Nat → Nat) (i : Nat) : ∀ d, pairsP i f <+: pairsP (i + d) f
  | 0 => List.prefix_refl _
  | d + 1 => (pairsP_pre f i d).trans (by rw [← Nat.add_assoc, pairsP_succ]; exact List.prefix_append _ _)

theorem pairsP_at {n : Nat} {f : Nat → Nat} {i j : Nat} (hi : i < n) (hj : j < 64) (hb : (f i).testBit j = true) : (pairsP n f)[(pairsP i f ++ rowU f i j).length]? = some ((i : Int), (j : Int)) := by
  obtain ⟨t1, h1⟩ := pairsP_pre f (i + 1) (n - (i + 1))
  rw [show i + 1 + (n - (i + 1)) = n by omega] at h1
  obtain ⟨t2, h2⟩ := rowU_pre f i (j + 1) (64 - (j + 1))
  rw [show j + 1 + (64 - (j + 1)) = 64 by omega, rowU_succ, if_pos hb] at h2
  have h3 : rowP f i = rowU f i 64 := rfl
  rw [← h1, pairsP_succ, h3, ← h2]
  simp only [← List.append_assoc]
  rw [List.append_assoc, List.append_assoc, List.getElem?_append_right (Nat.le_refl _), Nat.sub_self]
  rfl

theorem rowU_fit {n : Nat} {f : Nat → Nat} (ff : Fit n f) (i : Nat) : ∀ d, rowU f i (n + d) = rowU f i n
  | 0 => rfl
  | d + 1 => by
    rw [← Nat.add_assoc, rowU_succ, rowU_fit ff i d, if_neg, List.append_nil]
    intro hb
    have := (ff _ _ hb).2
    omega

theorem rowU_all {n : Nat} (hn : n ≤ 64) {f : Nat → Nat} (ff : Fit n f) (i : Nat) : rowU f i n = rowP f i := by
  rw [← rowU_fit ff i (64 - n), show n + (64 - n) = 64 by omega]; rfl

theorem bit01 (x i : Nat) : x >>> i &&& 1 = if x.testBit i then 1 else 0 := by
  have : x.testBit i = (1 &&& (x >>> i) != 0) := rfl
  rw [this, Nat.and_comm, Nat.and_comm 1, Nat.and_one_is_mod]
  rcases Nat.mod_two_eq_zero_or_one (x >>> i) with h | h <;> simp [h]

section
variable {E : Env}
theorem shr_le (x i : Nat) : x >>> i ≤ x := by rw [Nat.shiftRight_eq_div_pow]; exact Nat.div_le_self _ _
theorem g_bitI {x i : Nat} (hx : x < 2 ^ 64) (hi : i ≤ 64) : E.glob.band .u64 (E.glob.shr .u64 (x : Int) (i : Int)) 1 = (((if x.testBit i then 1 else 0 : Nat)) : Int) := by
  rw [g_shr hi, show (1 : Int) = ((1 : Nat) : Int) from rfl, g_band (Nat.lt_of_le_of_lt (shr_le x i) hx) (by omega), bit01]
theorem g_bit1 {x i : Nat} (hx : x < 2 ^ 64) (hi : i ≤ 64) : (E.glob.band .u64 (E.glob.shr .u64 (x : Int) (i : Int)) 1 == 1) = x.testBit i := by
  rw [g_bitI hx hi]; cases x.testBit i <;> rfl
theorem g_bit0 {x i : Nat} (hx : x < 2 ^ 64) (hi : i ≤ 64) : (E.glob.band .u64 (E.glob.shr .u64 (x : Int) (i : Int)) 1 == 0) = !x.testBit i := by
  rw [g_bitI hx hi]; cases x.testBit i <;> rfl

theorem refHas_R (hE : jacquardref6_Rel_Has_In E) {n : Nat} {f : Nat → Nat} (hf : Words f) {a b : Nat} (ha : a < 64) (hb : b ≤ 64) {k : Nat} {o : Bool} {h : AHeap} (hk : blk? h k = some ⟨o, 0, relL n f⟩) :
    R E 7 [.c (.ptr k 65 0), .c (.int .i64 (a : Nat)), .c (.int .i64 (b : Nat))] h = some ([.c (.bool ((f a).testBit b))], h) := by
  refine R_intro hE.fn ?_
  have q1 : 0 ≤ (a : Int) ∧ (a : Int) < ((64 : Nat) : Int) := by omega
  rw [jacquardref6_Rel_Has_eq, if_pos q1, rdH_ok hk (relL_len n f)]
  dsimp only
  rw [Int.toNat_natCast, show 0 + 1 + a * 1 = 1 + a by omega, atK_ok (relL_row ha), asI_ok, if_neg (by omega), g_bit1 (hf a) hb]
end

theorem SlAt.getP {h hh : AHeap} {x : Cell} {l : List (Int × Int)} (s : SlAt h x 2 (pairC l) l.length) {i : Nat} {p : Int × Int} (hi : l[i]? = some p) {a b : Int} :
    (idxSK 2 x (i : Int) fun k N o => rdH h k N fun l => if o + 2 ≤ l.length then if alike ((l.drop o).take 2) ([Cell.int .i64 0, Cell.int .i64 0]) = true ∧ alike (splice (splice [Cell.int .i64 0, Cell.int .i64 0] 0 ([(.int .i64 a)] : List Cell)) 1 ([(.int .i64 b)] : List Cell)) ([Cell.int .i64 0, Cell.int .i64 0]) = true then
      some ((!(decide (((l.drop o).take 2) = (splice (splice [Cell.int .i64 0, Cell.int .i64 0] 0 ([(.int .i64 a)] : List Cell)) 1 ([(.int .i64 b)] : List Cell))))), hh) else none else none) = some (!(decide (p = (a, b))), hh) := by
  have hlt : i < l.length := by
    rcases Nat.lt_or_ge i l.length with h1 | h1
    · exact h1
    · rw [List.getElem?_eq_none h1] at hi; cases hi
  refine (s.getN hlt (f := fun t => if alike t ([Cell.int .i64 0, Cell.int .i64 0]) = true ∧ alike (splice (splice [Cell.int .i64 0, Cell.int .i64 0] 0 ([(.int .i64 a)] : List Cell)) 1 ([(.int .i64 b)] : List Cell)) ([Cell.int .i64 0, Cell.int .i64 0]) = true then
      some ((!(decide (t = (splice (splice [Cell.int .i64 0, Cell.int .i64 0] 0 ([(.int .i64 a)] : List Cell)) 1 ([(.int .i64 b)] : List Cell))))), hh) else none)).trans ?_
  have e : ((pairC l).drop (i * 2)).take 2 = [.int .i64 p.1, .int .i64 p.2] := by
    obtain ⟨g1, g2⟩ := pairC_get l i p hi
    refine List.ext_getElem? fun j => ?_
    rw [List.getElem?_take, List.getElem?_drop]
    match j with
    | 0 => rw [if_pos (by omega), g1]; rfl
    | 1 => rw [if_pos (by omega), g2]; rfl
    | j + 2 => rw [if_neg (by omega)]; rfl
  have e2 : splice (splice [Cell.int .i64 0, Cell.int .i64 0] 0 ([(.int .i64 a)] : List Cell)) 1 ([(.int .i64 b)] : List Cell) = [.int .i64 a, .int .i64 b] := rfl
  rw [e, e2, if_pos ⟨rfl, rfl⟩]
  congr 3
  rw [decide_eq_decide]
  obtain ⟨c, d⟩ := p
  simp

theorem rel_pairs {n : Nat} (hn : n ≤ 64) {f : Nat → Nat} (hf : Words f) (ff : Fit n f) : relL n (ofR n (pairsP n f)) = relL n f := rel_eq (words_of _ _) hf fun i j => by
  rw [of_bit hn]
  constructor
  · rintro ⟨p, hp, _, _, h1, h2⟩
    obtain ⟨a, b, _, _, hb, rfl⟩ := mem_pairsP.1 hp
    have e1 : a = i := Int.ofNat.inj h1
    have e2 : b = j := Int.ofNat.inj h2
    rw [← e1, ← e2]; exact hb
  · intro hb
    obtain ⟨h1, h2⟩ := ff _ _ hb
    exact ⟨_, mem_pairsP.2 ⟨i, j, h1, by omega, hb, rfl⟩, by rw [inR_nat]; simpa using h1, by rw [inR_nat]; simpa using h2, rfl, rfl⟩

variable {E : Env}

theorem RelPairs_R (hE : jacquardlaw8_RelPairs_In E) (ht : TabOk E) (a0 : Int) {x1 : Cell} {l1 : List (Int × Int)} {h : AHeap} (hx1 : SlAt h x1 2 (pairC l1) l1.length) (hl1 : Low h.length x1) :
    R E 240 [.c (.int .i64 a0), .c x1] h = some ([.c (.bool true)], h) := by
  refine R_intro hE.fn ?_
  rw [jacquardlaw8_RelPairs_eq]
  have hn : clamp a0 ≤ 64 := by unfold clamp; omega
  have hv : (if 64 < (if 0 > a0 then 0 else a0) then 64 else (if 0 > a0 then 0 else a0)) = ((clamp a0 : Nat) : Int) := by unfold clamp; split <;> split <;> omega
  simp only [hv]
  generalize clamp a0 = n at hn
  rw [Of_R hE.c1 (n : Int) hx1 hl1, c2_ok, asA_ok, asA_ok, clamp_nat hn]
  have hf := words_of n (l1.take 200)
  have ff := of_fit hn (l1.take 200)
  simp only [relL_len, zero_len, and_self, if_true]
  generalize ofR n (l1.take 200) = f at *
  rw [rdH_ok (blk_new h _) zero_len]
  dsimp only
  rw [if_pos ⟨by trivial, zero_len, by trivial⟩, putH_ok (blk_new h _) rfl, setBlk_last]
  dsimp only
  obtain ⟨x, h2, hP, hx, hk⟩ := Pairs_R hE.c20 ht hn hf (h ++ [some ⟨true, 0, relL n f⟩])
  rw [hP, c1_ok, asC_ok]
  have hk2 : blk? h2 h.length = some ⟨true, 0, relL n f⟩ := by rw [hk.blk (by simp)]; exact blk_new _ _
  have hK : Kp h.length h h2 := (Kp.app _ (Nat.le_refl _)).trans (hk.mono (by simp))
  have hlen : ∀ i j, i < n → j ≤ n → (pairsP i f ++ rowU f i j).length ≤ 64 * 64 + 64 := by
    intro i j hi hj
    have h1 := pairsP_len f i
    have h2 : (rowU f i j).length ≤ j := by unfold rowU; rw [List.length_map]; exact Nat.le_trans (List.length_filter_le _ _) (by simp)
    rw [List.length_append]
    omega
  have outer : Lim (jacquardlaw8_RelPairs_F2 (R E) Lim E.glob) (jacquardlaw8_RelPairs_s2 n h.length 65 0 x ((pairsP 0 f).length : Nat) ((0 : Nat) : Int) (relL n f) h2) = some (.exit 0, jacquardlaw8_RelPairs_x2_1 n x ((pairsP n f).length : Nat) (relL n f) h2) := by
    refine Lim_count (fun i => jacquardlaw8_RelPairs_s2 n h.length 65 0 x ((pairsP i f).length : Nat) (i : Int) (relL n f) h2) 0 n (by omega) (fun i _ hi => ?_) (Lim_exit ?_)
    · have inner : Lim (jacquardlaw8_RelPairs_F1 (R E) Lim E.glob) (jacquardlaw8_RelPairs_s1 n h.length 65 0 x ((pairsP i f ++ rowU f i 0).length : Nat) i ((0 : Nat) : Int) (relL n f) h2) = some (.exit 2, jacquardlaw8_RelPairs_x1_3 n h.length 65 0 x ((pairsP i f ++ rowU f i n).length : Nat) i (relL n f) h2) := by
        refine Lim_count (fun j => jacquardlaw8_RelPairs_s1 n h.length 65 0 x ((pairsP i f ++ rowU f i j).length : Nat) i (j : Int) (relL n f) h2) 0 n (by omega) (fun j _ hj => ?_) (Lim_exit ?_)
        · rw [jacquardlaw8_RelPairs_r1, if_pos (by simp; omega), if_pos ⟨rfl, relL_len _ _⟩, HasS hE.c3 hn hf hi (by omega), c1_ok, asB_ok, refHas_R hE.c7 hf (by omega) (by omega) hk2, c1_ok, asB_ok, refHas_R hE.c7 hf (by omega) (by omega) hk2, c1_ok, asB_ok, beq_self_eq_true, if_neg (by simp), g_succ (by omega)]
          cases hb : (f i).testBit j with
          | false =>
            rw [if_pos (by simp), rowU_succ, hb]
            simp
          | true =>
            have hp := pairsP_at hi (show j < 64 by omega) hb
            have hlt : (pairsP i f ++ rowU f i j).length < (pairsP n f).length := by
              rcases Nat.lt_or_ge (pairsP i f ++ rowU f i j).length (pairsP n f).length with h1 | h1
              · exact h1
              · rw [List.getElem?_eq_none h1] at hp; cases hp
            have hle := hlen i j hi (by omega)
            rw [if_neg (by simp), hx.at.len, show decide ((((pairsP i f ++ rowU f i j).length : Nat) : Int) ≥ (((pairsP n f).length : Nat) : Int)) = false from decide_eq_false (fun q => absurd (Int.ofNat_le.1 q) (Nat.not_le.2 hlt)), scK_ok, hx.at.getP hp, bind_ok]
            dsimp only
            rw [if_neg (by simp), g_succ (by omega), rowU_succ, hb, if_pos rfl, ← List.append_assoc, List.length_append (bs := [_])]
            rfl
        · rw [jacquardlaw8_RelPairs_r1, if_neg (by simp)]
      rw [show pairsP i f ++ rowU f i 0 = pairsP i f from List.append_nil _, rowU_all hn ff, ← pairsP_succ] at inner
      rw [jacquardlaw8_RelPairs_r2, if_pos (by simp; omega), show (0 : Int) = ((0 : Nat) : Int) from rfl, inner, bind_ok, jacquardlaw8_RelPairs_e1_3, g_succ (by omega)]
    · rw [jacquardlaw8_RelPairs_r2, if_neg (by simp)]
  rw [show jacquardlaw8_RelPairs_s2 n h.length 65 0 x 0 0 (relL n f) h2 = jacquardlaw8_RelPairs_s2 n h.length 65 0 x ((pairsP 0 f).length : Nat) ((0 : Nat) : Int) (relL n f) h2 from rfl, outer, bind_ok, jacquardlaw8_RelPairs_e2_1, Of_R hE.c1 (n : Int) hx.at hx.low, c2_ok, asA_ok, asA_ok, clamp_nat hn]
  simp only [relL_len, zero_len, and_self, if_true]
  rw [hx.at.len, beq_self_eq_true, scK_ok]
  have e1 : (scK (decide ((((pairsP n f).length : Nat) : Int) > 200)) false (if alike (relL n (ofR n ((pairsP n f).take 200))) ([Cell.int .i64 0] ++ List.replicate 64 (Cell.int .u64 0)) = true ∧ alike (relL n f) ([Cell.int .i64 0] ++ List.replicate 64 (Cell.int .u64 0)) = true then some ((decide (relL n (ofR n ((pairsP n f).take 200)) = relL n f)), h2) else none) true h2 fun b h => some (b, h)) = some (true, h2) := by
    by_cases hl : (pairsP n f).length ≤ 200
    · rw [show decide ((((pairsP n f).length : Nat) : Int) > 200) = false by simp; omega, scK_ok, List.take_of_length_le hl, rel_pairs hn hf ff, zero_rel]
      simp only [alike_rel, and_self, if_true, decide_true]
      rfl
    · rw [show decide ((((pairsP n f).length : Nat) : Int) > 200) = true by simp; omega, scK_tf]
  rw [e1, bind_ok]
  dsimp only
  have b1 : hasR n f (-1) 0 = false := by unfold hasR inR; simp
  have b2 : hasR n f 0 64 = false := by unfold hasR hasI; simp
  have b3 : inR n (-1) = false := by unfold inR; simp
  have b4 : inR n 64 = false := by unfold inR; simp; omega
  simp only [relL_len, HasR_R hE.c3 hn hf, Row_R hE.c41 hn, awake8_R hE.c55, c1_ok, asI_ok, asB_ok, and_self, if_true, bind_ok, scK_ok, b1, b2, b3, b4, Bool.not_false, Bool.false_eq_true, if_false]
  exact finish_gc hK (by simp [avOk, AV.cells, idOk])

theorem RelPairs_law (ht : TabOk E) (hE : jacquardlaw8_RelPairs_In E) {h : AHeap} {c0 c1 : List Cell} (o0 : okC h (.i .i64) c0) (o1 : okC h (.sl shPair) c1) :
    ∃ h', R E 240 [av1 (.i .i64) c0, av1 (.sl shPair) c1] h = some ([.c (.bool true)], h') := by
  obtain ⟨a0, e0, _⟩ := arg_int o0
  obtain ⟨x1, l1, e1, hx1, hl1, _⟩ := arg_pairs o1
  rw [e0, e1]
  exact ⟨h, RelPairs_R hE ht a0 hx1 hl1⟩

end Jq

/- RelKeeps: what is kept lies within the set; kept twice is kept by both; kept by all is itself, by none is none. -/
namespace Jq
open Go

variable {E : Env}

theorem RelKeeps_R (hE : jacquardlaw8_RelKeeps_In E) (ht : TabOk E) (a0 : Int) {x1 : Cell} {l1 : List (Int × Int)} {s t : Nat} (hs : s < 2 ^ 64) (htt : t < 2 ^ 64) {h : AHeap} (hx1 : SlAt h x1 2 (pairC l1) l1.length) (hl1 : Low h.length x1) :
    ∃ h', R E 242 [.c (.int .i64 a0), .c x1, .c (.int .u64 (s : Int)), .c (.int .u64 (t : Int))] h = some ([.c (.bool true)], h') := by
  suffices hh : ∃ h', jacquardlaw8_RelKeeps.body (R E) Lim E.glob [.c (.int .i64 a0), .c x1, .c (.int .u64 (s : Int)), .c (.int .u64 (t : Int))] h = some ([.c (.bool true)], h') by
    obtain ⟨h', hh⟩ := hh; exact ⟨h', R_intro hE.fn hh⟩
  rw [jacquardlaw8_RelKeeps_eq]
  have hn : clamp a0 ≤ 64 := by unfold clamp; omega
  have hv : (if 64 < (if 0 > a0 then 0 else a0) then 64 else (if 0 > a0 then 0 else a0)) = ((clamp a0 : Nat) : Int) := by unfold clamp; split <;> split <;> omega
  simp only [hv]
  generalize clamp a0 = n at hn
  rw [Of_R hE.c1 (n : Int) hx1 hl1, c2_ok, asA_ok, asA_ok, clamp_nat hn]
  have hf := words_of n (l1.take 200)
  have ff := of_fit hn (l1.take 200)
  simp only [relL_len, zero_len, and_self, if_true]
  generalize ofR n (l1.take 200) = f at *
  rw [Keep_S hE.c66 hn hf hs, c1_ok, asA_ok]
  simp only [relL_len, and_self, if_true]
  have hg := w_KEE n f s
  have hgb := fun i j => b_KEE (n := n) (f := f) s hs i j
  generalize hG : KEE n f s = g at *
  obtain ⟨x, h2, hP, hx, hk⟩ := Pairs_R hE.c20 ht hn hg h
  rw [hP, c1_ok, asC_ok]
  have loop : Lim (jacquardlaw8_RelKeeps_F1 (R E) Lim E.glob) (jacquardlaw8_RelKeeps_s1 n s t x ((0 : Nat) : Int) (relL n f) (relL n g) h2) = some (.exit 0, jacquardlaw8_RelKeeps_x1_1 n s t (relL n f) (relL n g) h2) := by
    refine Lim_count (fun i => jacquardlaw8_RelKeeps_s1 n s t x (i : Int) (relL n f) (relL n g) h2) 0 (pairsP n g).length (by omega) (fun i _ hi => ?_) (Lim_exit ?_)
    · obtain ⟨p, hp⟩ : ∃ p, (pairsP n g)[i]? = some p := ⟨(pairsP n g)[i], by simp⟩
      obtain ⟨g1, g2⟩ := pairC_get _ i p hp
      obtain ⟨a, b, ha, hb, hab, rfl⟩ := mem_pairsP.1 (List.mem_of_getElem? hp)
      obtain ⟨_, sa, fab, sb⟩ := (hgb a b).1 hab
      have hlen := pairsP_len g n
      have hnn : n * 64 ≤ 64 * 64 := Nat.mul_le_mul_right _ hn
      dsimp only at g1 g2
      rw [jacquardlaw8_RelKeeps_r1, hx.at.len, if_pos (by simpa using hi), hx.at.get hi (by omega) g1, asI_ok, if_neg (by omega), g_bit0 hs (by omega), sa, Bool.not_true, scK_ok, hx.at.get hi (by omega) g2, asI_ok, if_neg (by omega), g_bit0 hs (by omega), sb, bind_ok]
      dsimp only
      rw [Bool.not_true, scK_ok, if_pos ⟨rfl, relL_len _ _⟩, hx.at.get hi (by omega) g1, asI_ok, hx.at.get hi (by omega) g2, asI_ok, HasS hE.c3 hn hf ha hb, qh_ok, c1_ok, asB_ok, fab, bind_ok]
      dsimp only
      rw [if_neg (by simp), g_succ (by omega)]
    · rw [jacquardlaw8_RelKeeps_r1, hx.at.len, if_neg (by simp)]
  have e1 : relL n (KEE n g t) = relL n (KEE n f (s &&& t)) := rel_eq (w_KEE _ _ _) (w_KEE _ _ _) fun i j => by
    rw [b_KEE t htt, b_KEE (s &&& t) (and_lt hs), hgb]
    simp only [Nat.testBit_and, Bool.and_eq_true]
    constructor
    · rintro ⟨q1, q2, ⟨_, q3, q4, q5⟩, q6⟩; exact ⟨q1, ⟨q3, q2⟩, q4, q5, q6⟩
    · rintro ⟨q1, ⟨q3, q2⟩, q4, q5, q6⟩; exact ⟨q1, q2, ⟨q1, q3, q4, q5⟩, q6⟩
  have e2 : relL n (KEE n f (2 ^ n - 1)) = relL n f := rel_eq (w_KEE _ _ _) hf fun i j => by
    rw [b_KEE _ (all_lt hn)]
    simp only [all_bit, decide_eq_true_eq]
    constructor
    · rintro ⟨_, _, q, _⟩; exact q
    · intro q; obtain ⟨q1, q2⟩ := ff _ _ q; exact ⟨q1, q1, q, q2⟩
  have e3 : relL n (UNI n g f) = relL n f := rel_eq (w_UNI _ _ _) hf fun i j => by
    rw [b_UNI hn, hgb]
    constructor
    · rintro ⟨_, _, ⟨_, _, q, _⟩ | q⟩ <;> exact q
    · intro q; obtain ⟨q1, q2⟩ := ff _ _ q; exact ⟨q1, q2, .inr q⟩
  have e4 : relL n (fun _ => 0) = relL n (KEE n f 0) := rel_eq words_zero (w_KEE _ _ _) fun i j => by
    rw [b_KEE 0 (by omega)]; simp
  have c0 : clamp (n : Int) = n := clamp_nat hn
  have kz : ∀ h, R E 66 [.agg (relL n f), .c (.int .u64 0)] h = some ([.agg (relL n (KEE n f 0))], h) := fun h => Keep_S hE.c66 hn hf (s := 0) (by omega) h
  refine ⟨h2, ?_⟩
  rw [show (0 : Int) = ((0 : Nat) : Int) from rfl, loop, bind_ok, jacquardlaw8_RelKeeps_e1_1, g_band hs htt]
  have hst : s &&& t < 2 ^ 64 := and_lt hs
  simp only [relL_len, Keep_S hE.c66 hn hg htt, Keep_S hE.c66 hn hf hst, Keep_S hE.c66 hn hf (all_lt hn), kz, Union_S hE.c59 hn hg hf, New_R hE.c9, upto_n hE.c61 hn, awake8_R hE.c55, c0, qh_ok, c1_ok, asA_ok, asI_ok, asB_ok, bind_ok, scK_ok, zero_rel, alike_rel, e1, e2, e3, e4, and_self, if_true, decide_true]

theorem RelKeeps_law (ht : TabOk E) (hE : jacquardlaw8_RelKeeps_In E) {h : AHeap} {c0 c1 c2 c3 : List Cell} (o0 : okC h (.i .i64) c0) (o1 : okC h (.sl shPair) c1) (o2 : okC h (.i .u64) c2) (o3 : okC h (.i .u64) c3) :
    ∃ h', R E 242 [av1 (.i .i64) c0, av1 (.sl shPair) c1, av1 (.i .u64) c2, av1 (.i .u64) c3] h = some ([.c (.bool true)], h') := by
  obtain ⟨a0, e0, _⟩ := arg_int o0
  obtain ⟨x1, l1, e1, hx1, hl1, _⟩ := arg_pairs o1
  obtain ⟨s, e2, hs⟩ := arg_u64 o2
  obtain ⟨t, e3, htt⟩ := arg_u64 o3
  rw [e0, e1, e2, e3]
  exact RelKeeps_R hE ht a0 hs htt hx1 hl1

end Jq

/- RelKeeps: whatever the input the call says true, and each argument reads behind it as before. No conditions. -/
namespace Go.Proofs.YtkdicbhkkancoaaDoor.LRelKeeps
open Go Jq Go.ChangeShapes Go.WideShapes Go.ChangeAt Go.RowKit
set_option linter.unusedVariables false

theorem own : ownKnob Tryd.prog.godebug = none := by kernel_rfl
theorem laidOut : laidOutB Tryd.prog = true := by kernel_rfl

theorem gN : Tryd.prog.globalNamed "math/bits.deBruijn64tab" = some 0 := by kernel_rfl
theorem met (os : Os) (args : Array Value) : laidMetH Tryd.prog Rows.relKeepsRow.laid ((World.doorLaid Tryd.prog 400 os).forCall (fun _ _ => 0) ⟨#[], args, []⟩).memory :=
  laidMetH_of_parts3 (fuel := 8) (laidMet_of_run' 8 (by kernel_rfl) (by kernel_rfl)) (by kernel_rfl) (by kernel_rfl)
theorem of_laid {W : World} (h : laidMetH Tryd.prog Rows.relKeepsRow.laid W) : ∀ i, i < deB.length → W.cell? ⟨0, i, none⟩ = some (.int .u8 (deB.getD i 0)) := by
  rw [MakeChecks.laidMetH_plain _ _ _ (by kernel_rfl)] at h
  have hT := Lib.tabIs_of_head (zs := deB) (n := 64) gN (t := 70) (by kernel_rfl) (e := 5) (by kernel_rfl) (by kernel_rfl) (by kernel_rfl) (by kernel_rfl) h
  exact fun i hi => hT.cell gN i hi

set_option maxRecDepth 100000 in
theorem lifted (os : Os) (started : os.Started) (H : Type) (enc : TypeId × Value → H) :
    ReturnsInHanded {} Tryd.checked os 9 .any (fun w args => (Rows.relKeepsSpec.pre enc Tryd.prog Tryd.f9 [] false w args ∧ laidMetH Tryd.prog Rows.relKeepsRow.laid w) ∧ sizedMet enc Tryd.prog Tryd.f9 (OpenSpec.ofChange Rows.relKeepsSpec) false w args) (Rows.relKeepsSpec.post enc Tryd.prog Tryd.f9 false true false false) := by
  refine returnsInHanded_of_change_and (C := Tryd.checked) (X := fun w _ => laidMetH Tryd.prog Rows.relKeepsRow.laid w) (fun _ _ _ hh h => h.of_heap hh) own started (by kernel_rfl) Tryd.func9
    (ChangeSpec.witness_shaped (enc := enc) (C := Tryd.checked) (os := os) (X := fun w _ => laidMetH Tryd.prog Rows.relKeepsRow.laid w) false (World.doorLaid Tryd.prog 400 os) #[.int .i64 0, .slice none 0 0, .int .u64 0, .int .u64 0] 8 rfl (World.shaped_of_RefB (by kernel_rfl) (by kernel_rfl)) (by kernel_rfl) (by kernel_rfl) (by kernel_rfl) (met os _)) ?_
  intro W base args ds gs before hval0 hW _ _ hL _
  have hval : ∀ (j : Nat) t v, Tryd.f9.params[j]? = some t → args[j]? = some v → Value.okWide Tryd.prog W .any base t v := hval0
  have hW' := hW
  obtain ⟨p, q, hA0, hV, rfl, hfz, hnd⟩ := hW
  have hA : DataW.TrodAll enc Tryd.prog W 0 (fun _ => true) true Tryd.f9.params.toList args.toList ds p := hA0
  rw [Tryd.params9] at hA hval
  obtain ⟨v0, vs0, d0, ds0, p0, q0, hargs, rfl, rfl, h0, r0⟩ := trodAll_cons hA
  obtain ⟨v1, vs1, d1, ds1, p1, q1, rfl, rfl, rfl, h1, r1⟩ := trodAll_cons r0
  obtain ⟨v2, vs2, d2, ds2, p2, q2, rfl, rfl, rfl, h2, r2⟩ := trodAll_cons r1
  obtain ⟨v3, vs3, d3, ds3, p3, q3, rfl, rfl, rfl, h3, r3⟩ := trodAll_cons r2
  obtain ⟨rfl, rfl, rfl⟩ := trodAll_nil r3
  obtain rfl : args = #[v0, v1, v2, v3] := by cases args; simp_all
  obtain ⟨rfl, rfl⟩ := trodVars_none hV
  have lt0 : ∀ x ∈ p0, x.block < W.heap.size := by obtain ⟨m, hm⟩ := h0; exact DataW.trod_lt m _ _ _ hm
  have lt1 : ∀ x ∈ p1, x.block < W.heap.size := by obtain ⟨m, hm⟩ := h1; exact DataW.trod_lt m _ _ _ hm
  have lt2 : ∀ x ∈ p2, x.block < W.heap.size := by obtain ⟨m, hm⟩ := h2; exact DataW.trod_lt m _ _ _ hm
  have lt3 : ∀ x ∈ p3, x.block < W.heap.size := by obtain ⟨m, hm⟩ := h3; exact DataW.trod_lt m _ _ _ hm
  have c := Come.tab1 (S := seat) (W := W) deB (fun _ => rfl) (of_laid hL)
  have k0 : ((.i .i64) : Sh).chk seat.P 3 = true := by kernel_rfl
  obtain ⟨b0, ρ0, cs0, c0, e0, x0, a0, o0⟩ := opens_arg (S := seat) (W := W) (sh := (.i .i64)) k0 h0 (wide_of k0 (hval 0 3 v0 rfl rfl)) ⟨nofun, nofun⟩ c
  have k1 : ((.sl shPair) : Sh).chk seat.P 22 = true := by kernel_rfl
  obtain ⟨b1, ρ1, cs1, c1, e1, x1, a1, o1⟩ := opens_arg (S := seat) (W := W) (sh := (.sl shPair)) k1 h1 (wide_of k1 (hval 1 22 v1 rfl rfl)) ⟨nofun, nofun⟩ c0
  have k2 : ((.i .u64) : Sh).chk seat.P 23 = true := by kernel_rfl
  obtain ⟨b2, ρ2, cs2, c2, e2, x2, a2, o2⟩ := opens_arg (S := seat) (W := W) (sh := (.i .u64)) k2 h2 (wide_of k2 (hval 2 23 v2 rfl rfl)) ⟨nofun, nofun⟩ c1
  have k3 : ((.i .u64) : Sh).chk seat.P 23 = true := by kernel_rfl
  obtain ⟨b3, ρ3, cs3, c3, e3, x3, a3, o3⟩ := opens_arg (S := seat) (W := W) (sh := (.i .u64)) k3 h3 (wide_of k3 (hval 3 23 v3 rfl rfl)) ⟨nofun, nofun⟩ c2
  obtain ⟨h', hR⟩ := RelKeeps_law (E := env) tabOk in_242 (okC_mono x3 _ _ (okC_mono x2 _ _ (okC_mono x1 _ _ o0))) (okC_mono x3 _ _ (okC_mono x2 _ _ o1)) (okC_mono x3 _ _ o2) o3
  refine (law_call (S := seat) (R_sound (S := seat) (E := env) rfl allOk) c3 (vals := #[v0, v1, v2, v3]) (L2.cons (relA.mono e3 (relA.mono e2 (relA.mono e1 a0))) (L2.cons (relA.mono e3 (relA.mono e2 a1)) (L2.cons (relA.mono e3 a2) (L2.cons a3 L2.nil)))) hR).mono fun e W' ⟨he, bel⟩ => ?_
  subst he
  exact ⟨_, rfl, _, _, _, [], _, [], hW', trodAll_mk1 (shut_bool Tryd.underlying4 _), (trodAll_cons_mk (Below.trod laidOut (by kernel_rfl) (of_decide_eq_true (by kernel_rfl)) h0 bel lt0) (trodAll_cons_mk (Below.trod laidOut (by kernel_rfl) (of_decide_eq_true (by kernel_rfl)) h1 bel lt1) (trodAll_cons_mk (Below.trod laidOut (by kernel_rfl) (of_decide_eq_true (by kernel_rfl)) h2 bel lt2) (trodAll_cons_mk (Below.trod laidOut (by kernel_rfl) (of_decide_eq_true (by kernel_rfl)) h3 bel lt3) trodAll_mk0)))), rfl, bel.frame _, fun h => by cases h⟩

theorem over : Rows.relKeepsRow.holds Tryd.pinned (OpenSpec.ofChange Rows.relKeepsSpec) :=
  OpenClaim.holds_of_wide 9 Tryd.f9 rfl rfl rfl rfl rfl rfl rfl ⟨rfl, rfl, rfl, rfl, rfl⟩ rfl rfl rfl rfl rfl (by kernel_rfl) Tryd.func9 (by kernel_rfl)
    (of_decide_eq_true (by kernel_rfl)) (by unfold Func.isWrapper; first | (rw [if_pos (by decide +kernel)]; kernel_rfl) | (rw [if_neg (by decide +kernel)]; exact ⟨rfl, rfl⟩))
    (fun os started H enc _ => lifted os started H enc)

theorem proved : Rows.RelKeepsCardSaid :=
  Claim7.holds_tied_plain_at .later [] [.data] true (true, "247157c4400f09dbf37c7c2675cf8478a89aff0d810297ef4dd9ce74afe5d438") false
    over (fun _ h => by cases h) (by kernel_rfl) (fun _ h => by cases h) relKeeps_row_tie rfl ⟨rfl, rfl⟩ (by kernel_rfl) rfl
    (fun f fn hf hfn => by
      obtain rfl : f = 9 := Option.some.inj ((show Tryd.prog.funcNamed "jacquard/jacquardlaw8.RelKeeps" = some 9 by kernel_rfl).symm.trans hf) |>.symm
      obtain rfl : fn = Tryd.f9 := (Option.some.inj (Tryd.func9.symm.trans hfn)).symm
      exact ⟨by kernel_rfl, fun j t ht => by
        rw [Tryd.params9] at ht
        have hm : t ∈ [3, 22, 23, 23] := by simpa using Array.mem_of_getElem? ht
        have hall : ([3, 22, 23, 23].all fun u => !Tryd.prog.wantsStandIn u) = true := by kernel_rfl
        exact (show Tryd.prog.wantsStandIn t = false by simpa using List.all_eq_true.1 hall t hm)⟩)
    (by kernel_rfl)
#print axioms proved

end Go.Proofs.YtkdicbhkkancoaaDoor.LRelKeeps

