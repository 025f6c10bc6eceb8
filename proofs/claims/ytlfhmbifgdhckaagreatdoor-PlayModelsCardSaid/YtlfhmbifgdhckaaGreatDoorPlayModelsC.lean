/- YtlfhmbifgdhckaaGreatDoorPlayModelsC: a part of the proof; no conditions of its own. -/
import Derived.KernelRfl
import Derived.Lib.Join
import Derived.Below
import Derived.Laws.AppendOwn
import Derived.Test.YtlfhmbifgdhckaaGreatDoorPlayModelsB
set_option linter.unusedVariables false
set_option linter.unusedSimpArgs false

/- Stores that wait. -/
namespace Jq
open Go

structure Ent where
  loc : Int
  val : Int
  id : Int
  deriving DecidableEq
def Ent.cs (e : Ent) : List Cell := [.int .i64 e.loc, .int .i64 e.val, .int .i64 e.id]
def entsC (l : List Ent) : List Cell := l.flatMap Ent.cs
theorem entsC_len : ∀ l : List Ent, (entsC l).length = l.length * 3
  | [] => rfl
  | s :: l => by simp only [entsC, List.flatMap_cons, List.length_append]; rw [show (l.flatMap _).length = _ from entsC_len l]; simp [Ent.cs]; omega
theorem entsC_get : ∀ (l : List Ent) (i : Nat) (s : Ent), l[i]? = some s → ∀ j, j < 3 → (entsC l)[i * 3 + j]? = s.cs[j]?
  | [], _, _, h, _, _ => by simp at h
  | q :: l, 0, s, h, j, hj => by
    simp at h; subst h
    rw [show entsC (q :: l) = q.cs ++ entsC l from rfl, List.getElem?_append_left (by simp [Ent.cs]; omega)]; congr 1; omega
  | q :: l, i + 1, s, h, j, hj => by
    have := entsC_get l i s (by simpa using h) j hj
    rw [show entsC (q :: l) = q.cs ++ entsC l from rfl, List.getElem?_append_right (by simp [Ent.cs]; omega), ← this]
    congr 1; simp [Ent.cs]; omega

/-- A row of stores, as it lies in memory. -/
def bufC (m : Int) (l : List Ent) : List Cell := [.int .i64 m, .int .i64 (l.length : Int)] ++ (entsC l ++ List.replicate (72 - l.length * 3) (.int .i64 0))
theorem bufC_len (m : Int) {l : List Ent} (h : l.length ≤ 24) : (bufC m l).length = 74 := by
  unfold bufC; rw [List.length_append, List.length_append, entsC_len, List.length_replicate]; simp; omega
theorem bufC_at {α : Type} {m : Int} {l : List Ent} {i j : Nat} {s : Ent} {c : Cell} (h : l[i]? = some s) (hj : j < 3) (hc : s.cs[j]? = some c) {f : Cell → Option α} : atK (bufC m l) ((2 + i * 3) + j) f = f c := by
  refine atK_ok ?_
  have hi := getI_lt h
  have hl := entsC_len l
  unfold bufC
  rw [List.getElem?_append_right (by simp; omega), List.getElem?_append_left (by simp; omega)]
  rw [show 2 + i * 3 + j - [Cell.int .i64 m, Cell.int .i64 (l.length : Int)].length = i * 3 + j by simp; omega, entsC_get l i s h j hj, hc]

/-- Where the one stands that comes to memory first. -/
def oldP (m loc : Int) (e : Ent) : Bool := m == 2 || e.loc == loc
def oldI (m loc : Int) (l : List Ent) : Int := match l.findIdx? (oldP m loc) with | some i => i | none => -1
def newE (loc : Int) (l : List Ent) : Option Ent := l.reverse.find? fun e => e.loc == loc

/-- A loop that looks for the first. -/
theorem Lim_find {α : Type} {F : St → Option (Ex × St)} (S r : Nat → St) (x : St) (e : Nat) (l : List α) (p : α → Bool) (hs : ∀ (i : Nat) (q : α), l[i]? = some q → F (S i) = if p q = true then some (.ret, r i) else some (.normal, S (i + 1))) (he : F (S l.length) = some (.exit e, x)) :
    Lim F (S 0) = some (match l.findIdx? p with | some i => (.ret, r i) | none => (.exit e, x)) := by
  have key : ∀ (t : List α) (i : Nat), l.drop i = t → i ≤ l.length → Lim F (S i) = some (match t.findIdx? p with | some k => (.ret, r (i + k)) | none => (.exit e, x)) := by
    intro t
    induction t with
    | nil =>
      intro i hd hi
      have : l.length ≤ i := by
        have := congrArg List.length hd
        rw [List.length_drop, List.length_nil] at this; omega
      obtain rfl : i = l.length := by omega
      rw [Lim_exit he]; rfl
    | cons q t ih =>
      intro i hd hi
      have hlt : i < l.length := by
        have := congrArg List.length hd
        rw [List.length_drop, List.length_cons] at this; omega
      have hq : l[i]? = some q := by rw [← List.head?_drop, hd]; rfl
      have hd2 : l.drop (i + 1) = t := by rw [← List.drop_drop, hd]; rfl
      have h1 := hs i q hq
      rw [List.findIdx?_cons]
      cases hp : p q with
      | true =>
        rw [hp, if_pos rfl] at h1
        rw [Lim_ret h1, if_pos rfl]; rfl
      | false =>
        rw [hp, if_neg (by simp)] at h1
        rw [Lim_next h1 (ih (i + 1) hd2 (by omega)), if_neg (by simp)]
        cases t.findIdx? p with
        | none => rfl
        | some k => show some (Ex.ret, r (i + 1 + k)) = some (Ex.ret, r (i + (k + 1))); rw [show i + 1 + k = i + (k + 1) by omega]
  have := key l 0 rfl (Nat.zero_le _)
  rw [this]
  cases l.findIdx? p with
  | none => rfl
  | some k => simp

section
variable {E : Env}

theorem bufNew_R (hE : buf_New_In E) (m : Int) (h : AHeap) : R E 190 [.c (.int .i64 m)] h = some ([.agg (bufC (if m = 2 ∨ m = 3 then m else 0) [])], h) := by
  refine R_intro hE.fn ?_
  rw [buf_New_eq, scK_and]
  by_cases hm : m = 2 ∨ m = 3
  · rw [if_neg (by simp; omega), if_pos hm, if_pos (by exact ⟨rfl, rfl, rfl⟩), if_pos (by exact ⟨rfl, rfl⟩)]
    rfl
  · rw [if_pos (by simp; omega), if_neg hm, if_pos (by exact ⟨rfl, rfl, rfl⟩), if_pos (by exact ⟨rfl, rfl⟩)]
    rfl

theorem bufEmpty_R (hE : buf_Buf_Empty_In E) {m : Int} {l : List Ent} (h : AHeap) : R E 191 [.agg (bufC m l)] h = some ([.c (.bool (l.length == 0))], h) := by
  refine R_intro hE.fn ?_
  have a1 : ∀ {α : Type} (f : Cell → Option α), atK (bufC m l) 1 f = f (.int .i64 (l.length : Int)) := fun _ => rfl
  have hz : ((l.length : Int) == 0) = (l.length == 0) := by cases l <;> rfl
  rw [buf_Buf_Empty_eq, a1, asI_ok, hz]

theorem buf_a0 {α : Type} {m : Int} {l : List Ent} {f : Cell → Option α} : atK (bufC m l) 0 f = f (.int .i64 m) := rfl
theorem buf_a1 {α : Type} {m : Int} {l : List Ent} {f : Cell → Option α} : atK (bufC m l) 1 f = f (.int .i64 (l.length : Int)) := rfl

theorem bufoldest_R (hE : buf_Buf_oldest_In E) {m : Int} {l : List Ent} (hl : l.length ≤ 24) (loc : Int) (h : AHeap) : R E 204 [.agg (bufC m l), .c (.int .i64 loc)] h = some ([.c (.int .i64 (oldI m loc l))], h) := by
  refine R_intro hE.fn ?_
  have hL := Lim_find (F := buf_Buf_oldest_F1 (R E) Lim E.glob) (fun i => buf_Buf_oldest_s1 loc l.length (i : Int) (bufC m l) h) (fun i => buf_Buf_oldest_x1_0 (i : Int) h) (buf_Buf_oldest_x1_1 h) 0 l (oldP m loc) (fun i q hq => by
    have hi := getI_lt hq
    rw [buf_Buf_oldest_r1, if_pos (by simp; omega), buf_a0, asI_ok, if_pos ⟨by omega, by omega⟩, Int.toNat_natCast, bufC_at hq (by omega) (c := .int .i64 q.loc) rfl, asI_ok, scK_or, g_succ (by omega)]
    rfl) (by rw [buf_Buf_oldest_r1, if_neg (by simp)])
  have hL' : Lim (buf_Buf_oldest_F1 (R E) Lim E.glob) (buf_Buf_oldest_s1 loc l.length 0 (bufC m l) h) = _ := hL
  rw [buf_Buf_oldest_eq, buf_a1, asI_ok, hL', bind_ok]
  unfold oldI
  cases l.findIdx? (oldP m loc) with
  | none => dsimp only; rw [buf_Buf_oldest_e1_1]
  | some i => dsimp only; rw [buf_Buf_oldest_e1_0]

theorem bufOldest_R (hE : buf_Buf_Oldest_In E) {m : Int} {l : List Ent} (hl : l.length ≤ 24) (loc : Int) (h : AHeap) :
    R E 192 [.agg (bufC m l), .c (.int .i64 loc)] h = some (match l.find? (oldP m loc) with | some e => ([.c (.int .i64 e.loc), .c (.int .i64 e.val), .c (.int .i64 e.id), .c (.bool true)], h) | none => ([.c (.int .i64 0), .c (.int .i64 0), .c (.int .i64 0), .c (.bool false)], h)) := by
  refine R_intro hE.fn ?_
  rw [buf_Buf_Oldest_eq, if_pos ⟨rfl, bufC_len m hl⟩, bufoldest_R hE.c204 hl, c1_ok, asI_ok]
  unfold oldI
  cases hf : l.findIdx? (oldP m loc) with
  | none =>
    have : l.find? (oldP m loc) = none := by
      rw [List.find?_eq_none]
      intro e he
      rw [List.findIdx?_eq_none_iff] at hf
      rw [hf e he]; simp
    rw [this]
    dsimp only
    rw [if_pos (by decide)]
  | some i =>
    obtain ⟨hi, hp, hlt⟩ := List.findIdx?_eq_some_iff_getElem.1 hf
    have hq : l[i]? = some l[i] := List.getElem?_eq_getElem hi
    have hfi : l.find? (oldP m loc) = some l[i] := by
      rw [List.find?_eq_some_iff_getElem]
      exact ⟨hp, i, hi, rfl, fun j hj => by have := hlt j hj; simpa using this⟩
    rw [hfi]
    generalize l[i] = e at hq
    dsimp only
    rw [if_neg (by rw [decide_eq_true_eq]; omega), if_pos ⟨by omega, by omega⟩, Int.toNat_natCast, bufC_at hq (by omega) (c := .int .i64 e.loc) rfl, asI_ok, if_pos ⟨by omega, by omega⟩, bufC_at hq (by omega) (c := .int .i64 e.val) rfl, asI_ok, if_pos ⟨by omega, by omega⟩, bufC_at hq (by omega) (c := .int .i64 e.id) rfl, asI_ok]

theorem bufNewest_R (hE : buf_Buf_Newest_In E) {m : Int} {l : List Ent} (hl : l.length ≤ 24) (loc : Int) (h : AHeap) :
    R E 205 [.agg (bufC m l), .c (.int .i64 loc)] h = some (match newE loc l with | some e => ([.c (.int .i64 e.val), .c (.int .i64 e.id), .c (.bool true)], h) | none => ([.c (.int .i64 0), .c (.int .i64 0), .c (.bool false)], h)) := by
  refine R_intro hE.fn ?_
  have key : ∀ i : Nat, i ≤ l.length → (Lim (buf_Buf_Newest_F1 (R E) Lim E.glob) (buf_Buf_Newest_s1 loc ((i : Int) - 1) (bufC m l) h)).bind (fun p => buf_Buf_Newest_k3 (R E) Lim E.glob h p.1 p.2) =
      some (match (l.take i).reverse.find? (fun e => e.loc == loc) with | some e => ([.c (.int .i64 e.val), .c (.int .i64 e.id), .c (.bool true)], h) | none => ([.c (.int .i64 0), .c (.int .i64 0), .c (.bool false)], h)) := by
    intro i
    induction i with
    | zero =>
      intro _
      have hr : buf_Buf_Newest_F1 (R E) Lim E.glob (buf_Buf_Newest_s1 loc (((0 : Nat) : Int) - 1) (bufC m l) h) = some (.exit 0, buf_Buf_Newest_x1_1 h) := by
        rw [buf_Buf_Newest_r1, if_neg (by rw [decide_eq_true_eq]; omega)]
      rw [Lim_exit hr, bind_ok, buf_Buf_Newest_e1_1]; rfl
    | succ i ih =>
      intro hi
      have hq : l[i]? = some l[i] := List.getElem?_eq_getElem (by omega)
      generalize l[i] = e at hq
      have he : (((i + 1 : Nat) : Int) - 1) = (i : Int) := by omega
      rw [he, takeI_succ hq, List.reverse_append, List.reverse_singleton, List.singleton_append, List.find?_cons]
      have hg : ∀ (b : Bool), (e.loc == loc) = b → buf_Buf_Newest_F1 (R E) Lim E.glob (buf_Buf_Newest_s1 loc (i : Int) (bufC m l) h) = if b = true then some (.ret, buf_Buf_Newest_x1_0 e.val e.id true h) else some (.normal, buf_Buf_Newest_s1 loc ((i : Int) - 1) (bufC m l) h) := by
        intro b hb
        rw [buf_Buf_Newest_r1, if_pos (by rw [decide_eq_true_eq]; omega), if_pos ⟨by omega, by omega⟩, Int.toNat_natCast, bufC_at hq (by omega) (c := .int .i64 e.loc) rfl, asI_ok, hb]
        cases b with
        | true => rw [if_pos rfl, if_pos rfl, if_pos ⟨by omega, by omega⟩, bufC_at hq (by omega) (c := .int .i64 e.val) rfl, asI_ok, if_pos ⟨by omega, by omega⟩, bufC_at hq (by omega) (c := .int .i64 e.id) rfl, asI_ok]
        | false => rw [if_neg (by simp), if_neg (by simp), g_wrap_i64 (by omega) (by omega)]
      cases hb : (e.loc == loc) with
      | true =>
        have h1 := hg true hb
        rw [if_pos rfl] at h1
        rw [Lim_ret h1, bind_ok, buf_Buf_Newest_e1_0]
      | false =>
        have h1 := hg false hb
        rw [if_neg (by simp)] at h1
        have h2 := ih (by omega)
        dsimp only
        rw [← h2]
        cases hL : Lim (buf_Buf_Newest_F1 (R E) Lim E.glob) (buf_Buf_Newest_s1 loc ((i : Int) - 1) (bufC m l) h) with
        | none => rw [hL] at h2; cases h2
        | some w => rw [Lim_next h1 hL]
  have := key l.length (Nat.le_refl _)
  rw [List.take_of_length_le (Nat.le_refl _)] at this
  rw [buf_Buf_Newest_eq, buf_a1, asI_ok, g_wrap_i64 (by omega) (by omega)]
  exact this

theorem bufC_put {m : Int} {l : List Ent} (hl : l.length < 24) (e : Ent) : (splice (bufC m l) (2 + l.length * 3) e.cs).set 1 (.int .i64 ((l.length : Int) + 1)) = bufC m (l ++ [e]) := by
  have h1 : bufC m l = ([Cell.int .i64 m, Cell.int .i64 (l.length : Int)] ++ entsC l) ++ List.replicate (72 - l.length * 3) (.int .i64 0) := by unfold bufC; rw [List.append_assoc]
  have h2 : 2 + l.length * 3 = ([Cell.int .i64 m, Cell.int .i64 (l.length : Int)] ++ entsC l).length + 0 := by rw [List.length_append, entsC_len]; simp
  have h3 : splice (List.replicate (72 - l.length * 3) (Cell.int .i64 0)) 0 e.cs = e.cs ++ List.replicate (72 - (l ++ [e]).length * 3) (Cell.int .i64 0) := by
    unfold splice
    rw [List.take_zero, List.nil_append, List.drop_replicate]
    congr 2
    simp [Ent.cs]; omega
  have h4 : entsC (l ++ [e]) = entsC l ++ e.cs := by simp [entsC]
  rw [h1, h2, splice_app, h3]
  unfold bufC
  rw [h4, List.length_append, List.length_singleton]
  simp [List.append_assoc]

theorem bufPut_R (hE : buf_Buf_Put_In E) {m : Int} {l : List Ent} (hl : l.length < 24) (hm : m ≠ 0) {loc : Int} (hloc : 0 ≤ loc ∧ loc < 4) (v id : Int) (h : AHeap) :
    R E 206 [.agg (bufC m l), .c (.int .i64 loc), .c (.int .i64 v), .c (.int .i64 id)] h = some ([.agg (bufC m (l ++ [⟨loc, v, id⟩]))], h) := by
  refine R_intro hE.fn ?_
  have hz : (m == 0) = false := by rw [beq_eq_false_iff_ne]; exact hm
  have e3 : splice (splice (splice [Cell.int .i64 0, Cell.int .i64 0, Cell.int .i64 0] 0 ([(.int .i64 loc)] : List Cell)) 1 ([(.int .i64 v)] : List Cell)) 2 ([(.int .i64 id)] : List Cell) = (Ent.mk loc v id).cs := rfl
  have hlen := bufC_len m (Nat.le_of_lt hl)
  have hsl : (splice (bufC m l) (2 + l.length * 3) (Ent.mk loc v id).cs).length = 74 := by
    unfold splice
    rw [List.length_append, List.length_append, List.length_take, List.length_drop, hlen]; simp [Ent.cs]; omega
  have ha1 : ∀ {α : Type} (f : Cell → Option α), atK (splice (bufC m l) (2 + l.length * 3) (Ent.mk loc v id).cs) 1 f = f (.int .i64 (l.length : Int)) := fun f => by
    refine atK_ok ?_
    unfold splice
    rw [List.append_assoc, List.getElem?_append_left (by rw [List.length_take, hlen]; omega), List.getElem?_take, if_pos (by omega)]; rfl
  have hw : E.glob.wrap .i64 ((l.length : Int) + 1) = (l.length : Int) + 1 := g_wrap_i64 (by omega) (by omega)
  have hput := bufC_put (m := m) hl ⟨loc, v, id⟩
  rw [buf_Buf_Put_eq, buf_a0, asI_ok, hz, scK_or, show decide (loc < 0) = false from decide_eq_false (by omega), scK_or, show decide (loc ≥ 4) = false from decide_eq_false (by omega), buf_a1, asI_ok, scK_or, show decide ((l.length : Int) ≥ 24) = false from decide_eq_false (by omega), if_neg (by simp), buf_a1, asI_ok, if_pos ⟨by omega, by omega⟩, Int.toNat_natCast, e3, if_pos ⟨by rw [hlen]; omega, rfl⟩, ha1, asI_ok, if_pos (by rw [hsl]; omega), hw, hput]
  have hl2 := bufC_len m (l := l ++ [⟨loc, v, id⟩]) (by rw [List.length_append, List.length_singleton]; omega)
  rw [if_pos ⟨rfl, hl2⟩, if_pos ⟨rfl, rfl, hl2⟩, if_pos ⟨rfl, hl2⟩]

theorem entsC_append (a b : List Ent) : entsC (a ++ b) = entsC a ++ entsC b := by simp [entsC]

theorem drop_len_app {α : Type} {a b : List α} {n : Nat} (h : a.length = n) : (a ++ b).drop n = b := by subst h; simp

/-- What a row of stores is without one. -/
theorem bufC_drop {m : Int} {l : List Ent} (hl : l.length ≤ 24) {i : Nat} (hi : i < l.length) :
    splice ((splice (bufC m l) (2 + i * 3) (((bufC m l).drop (2 + (i + 1) * 3)).take ((23 - i) * 3))).set 1 (Cell.int .i64 ((l.length : Int) - 1))) (2 + (l.length - 1) * 3) [Cell.int .i64 0, Cell.int .i64 0, Cell.int .i64 0] = bufC m (l.eraseIdx i) := by
  have hq : l[i]? = some l[i] := List.getElem?_eq_getElem hi
  generalize l[i] = e at hq
  have hsp : l = l.take i ++ e :: l.drop (i + 1) := by
    have : l.drop i = e :: l.drop (i + 1) := by
      rw [List.drop_eq_getElem_cons hi]
      have := List.getElem?_eq_getElem hi
      rw [hq] at this
      rw [← Option.some.inj this]
    rw [← this, List.take_append_drop]
  have her : l.eraseIdx i = l.take i ++ l.drop (i + 1) := List.eraseIdx_eq_take_drop_succ _ _
  have hn : l.length = i + 1 + (l.drop (i + 1)).length := by rw [List.length_drop]; omega
  have hti : (l.take i).length = i := by rw [List.length_take]; omega
  rw [her]
  generalize hA : l.take i = A at *
  generalize hB : l.drop (i + 1) = B at *
  have hlA := entsC_len A
  have hlB := entsC_len B
  have hcs : bufC m l = ([Cell.int .i64 m, Cell.int .i64 (l.length : Int)] ++ entsC A) ++ (e.cs ++ (entsC B ++ List.replicate (72 - l.length * 3) (Cell.int .i64 0))) := by
    have : entsC l = entsC A ++ (e.cs ++ entsC B) := by
      have h2 : entsC l = entsC (A ++ e :: B) := by rw [← hsp]
      rw [h2, entsC_append]; rfl
    unfold bufC
    rw [this]; simp [List.append_assoc]
  have hhd : ([Cell.int .i64 m, Cell.int .i64 (l.length : Int)] ++ entsC A).length = 2 + i * 3 := by rw [List.length_append, hlA, hti]; simp
  have hR : ((bufC m l).drop (2 + (i + 1) * 3)).take ((23 - i) * 3) = entsC B ++ List.replicate (72 - l.length * 3) (Cell.int .i64 0) := by
    rw [hcs, ← List.append_assoc, drop_len_app (by rw [List.length_append, hhd]; simp [Ent.cs]; omega)]
    exact List.take_of_length_le (by rw [List.length_append, List.length_replicate, hlB]; omega)
  rw [hR]
  have hs1 : splice (bufC m l) (2 + i * 3) (entsC B ++ List.replicate (72 - l.length * 3) (Cell.int .i64 0)) = ([Cell.int .i64 m, Cell.int .i64 (l.length : Int)] ++ entsC A) ++ ((entsC B ++ List.replicate (72 - l.length * 3) (Cell.int .i64 0)) ++ (e.cs ++ (entsC B ++ List.replicate (72 - l.length * 3) (Cell.int .i64 0))).drop (entsC B ++ List.replicate (72 - l.length * 3) (Cell.int .i64 0) : List Cell).length) := by
    rw [hcs]
    have := splice_app ([Cell.int .i64 m, Cell.int .i64 (l.length : Int)] ++ entsC A) (e.cs ++ (entsC B ++ List.replicate (72 - l.length * 3) (Cell.int .i64 0))) (entsC B ++ List.replicate (72 - l.length * 3) (Cell.int .i64 0)) 0
    rw [Nat.add_zero, hhd] at this
    rw [this]
    unfold splice
    rw [List.take_zero, List.nil_append, Nat.zero_add]
  rw [hs1]
  generalize hL3 : (e.cs ++ (entsC B ++ List.replicate (72 - l.length * 3) (Cell.int .i64 0))).drop (entsC B ++ List.replicate (72 - l.length * 3) (Cell.int .i64 0) : List Cell).length = L3
  have hL3l : L3.length = 3 := by
    rw [← hL3, List.length_drop, List.length_append]; simp [Ent.cs]
  have hset : (([Cell.int .i64 m, Cell.int .i64 (l.length : Int)] ++ entsC A) ++ ((entsC B ++ List.replicate (72 - l.length * 3) (Cell.int .i64 0)) ++ L3)).set 1 (Cell.int .i64 ((l.length : Int) - 1)) = ([Cell.int .i64 m, Cell.int .i64 ((l.length : Int) - 1)] ++ (entsC A ++ entsC B)) ++ (List.replicate (72 - l.length * 3) (Cell.int .i64 0) ++ L3) := by
    simp [List.append_assoc]
  rw [hset]
  have hoff : 2 + (l.length - 1) * 3 = ([Cell.int .i64 m, Cell.int .i64 ((l.length : Int) - 1)] ++ (entsC A ++ entsC B)).length + 0 := by
    rw [List.length_append, List.length_append, hlA, hlB, hti]; simp; omega
  rw [hoff, splice_app]
  have hz : splice (List.replicate (72 - l.length * 3) (Cell.int .i64 0) ++ L3) 0 [Cell.int .i64 0, Cell.int .i64 0, Cell.int .i64 0] = List.replicate (72 - (A ++ B).length * 3) (Cell.int .i64 0) := by
    have hlen : (A ++ B).length = l.length - 1 := by rw [List.length_append, hti]; omega
    rw [hlen]
    unfold splice
    rw [List.take_zero, List.nil_append]
    by_cases h24 : l.length = 24
    · rw [show 72 - l.length * 3 = 0 by omega, List.replicate_zero, List.nil_append, List.drop_of_length_le (by rw [hL3l]; simp), h24]; rfl
    · have hL3z : L3 = List.replicate 3 (Cell.int .i64 0) := by
        rw [← hL3]
        refine List.ext_getElem? fun j => ?_
        rw [List.getElem?_drop, List.getElem?_append_right (by simp [Ent.cs, hlB]; omega), List.getElem?_append_right (by simp [Ent.cs, hlB]; omega), List.getElem?_replicate, List.getElem?_replicate]
        simp [Ent.cs, hlB]
        by_cases hj : j < 3
        · rw [if_pos (by omega), if_pos hj]
        · rw [if_neg (by omega), if_neg hj]
      rw [hL3z, List.replicate_append_replicate, List.drop_replicate, show [Cell.int .i64 0, Cell.int .i64 0, Cell.int .i64 0] = List.replicate 3 (Cell.int .i64 0) from rfl, List.replicate_append_replicate]
      congr 1
      simp; omega
  rw [hz]
  unfold bufC
  rw [entsC_append, List.length_append, hti]
  have : (l.length : Int) - 1 = ((i + B.length : Nat) : Int) := by omega
  rw [this]
  simp [List.append_assoc]

theorem bufC_ok {m : Int} {l : List Ent} {n : Nat} {c : Cell} (h : c ∈ bufC m l) : idOk n c = true := by
  unfold bufC at h
  rcases List.mem_append.1 h with h | h
  · simp at h; rcases h with rfl | rfl <;> rfl
  · rcases List.mem_append.1 h with h | h
    · unfold entsC at h
      obtain ⟨e, _, he⟩ := List.mem_flatMap.1 h
      simp [Ent.cs] at he
      rcases he with rfl | rfl | rfl <;> rfl
    · rw [List.eq_of_mem_replicate h]; rfl

theorem bufDrop_R (hE : buf_Buf_Drop_In E) {m : Int} {l : List Ent} (hl : l.length ≤ 24) {loc : Int} {i : Nat} (hf : l.findIdx? (oldP m loc) = some i) (h : AHeap) :
    R E 207 [.agg (bufC m l), .c (.int .i64 loc)] h = some ([.agg (bufC m (l.eraseIdx i))], h) := by
  refine R_intro hE.fn ?_
  obtain ⟨hi, _, _⟩ := List.findIdx?_eq_some_iff_getElem.1 hf
  have hold : oldI m loc l = (i : Int) := by unfold oldI; rw [hf]
  have hlen := bufC_len m hl
  have hd := bufC_drop (m := m) hl hi
  have hlen2 := bufC_len m (l := l.eraseIdx i) (by rw [List.length_eraseIdx]; split <;> omega)
  have hcell : ∀ cs : List Cell, AV.cells (.agg cs) = cs := fun _ => rfl
  have b0 : blk? (h ++ [some ⟨true, 0, bufC m l⟩]) h.length = some ⟨true, 0, bufC m l⟩ := blk_new _ _
  have hxl : (((bufC m l).drop (2 + (i + 1) * 3)).take ((23 - i) * 3)).length = (23 - i) * 3 := by rw [List.length_take, List.length_drop, hlen]; omega
  have hsl1 : ∀ {α : Type} (f : Cell → Option α), sliceAK (h ++ [some ⟨true, 0, bufC m l⟩]) 24 3 true false (.ptr h.length 74 2) [.v (.c (.int .i64 (i : Int)))] f = f (.sl h.length 74 (2 + i * 3) (24 - i)) := fun f => by
    unfold sliceAK okSl boundsK
    simp only
    rw [b0]
    simp only
    rw [if_pos (by simp), if_pos ⟨by omega, by omega⟩, Int.toNat_natCast]
  have hsl2 : ∀ {α : Type} (f : Cell → Option α), sliceAK (h ++ [some ⟨true, 0, bufC m l⟩]) 24 3 true false (.ptr h.length 74 2) [.v (.c (.int .i64 ((i + 1 : Nat) : Int)))] f = f (.sl h.length 74 (2 + (i + 1) * 3) (24 - (i + 1))) := fun f => by
    unfold sliceAK okSl boundsK
    simp only
    rw [b0]
    simp only
    rw [if_pos (by simp), if_pos ⟨by omega, by omega⟩, Int.toNat_natCast]
  have hsc : slCells (h ++ [some ⟨true, 0, bufC m l⟩]) 3 (.sl h.length 74 (2 + (i + 1) * 3) (24 - (i + 1))) = some (((bufC m l).drop (2 + (i + 1) * 3)).take ((23 - i) * 3)) := by
    unfold slCells
    dsimp only
    by_cases hz : 24 - (i + 1) = 0
    · rw [if_pos hz, show (23 - i) * 3 = 0 by omega]; simp
    · rw [if_neg hz, b0]
      simp only
      rw [if_pos ⟨hlen, by omega⟩, show 24 - (i + 1) = 23 - i by omega]
  have hcp : ∀ {α : Type} (f : Int → AHeap → Option α), copyK 3 (.sl h.length 74 (2 + i * 3) (24 - i)) (.sl h.length 74 (2 + (i + 1) * 3) (24 - (i + 1))) (h ++ [some ⟨true, 0, bufC m l⟩]) f = f ((23 - i : Nat) : Int) (h ++ [some ⟨true, 0, splice (bufC m l) (2 + i * 3) (((bufC m l).drop (2 + (i + 1) * 3)).take ((23 - i) * 3))⟩]) := fun f => by
    unfold copyK
    rw [hsc, Option.bind_some]
    simp only
    rw [b0, Option.bind_some]
    dsimp only
    rw [if_pos ⟨rfl, hlen, by omega⟩, hxl, show min ((23 - i) * 3 / 3) (24 - i) = 23 - i by omega, List.take_of_length_le (by rw [hxl]; exact Nat.le_refl _), setBlk_last]
  generalize hX : ((bufC m l).drop (2 + (i + 1) * 3)).take ((23 - i) * 3) = X at *
  have hc2l : (splice (bufC m l) (2 + i * 3) X).length = 74 := by
    unfold splice
    rw [List.length_append, List.length_append, List.length_take, List.length_drop, hlen, hxl]; omega
  have hat2 : (splice (bufC m l) (2 + i * 3) X)[1]? = some (.int .i64 (l.length : Int)) := by
    unfold splice
    rw [List.append_assoc, List.getElem?_append_left (by rw [List.length_take, hlen]; omega), List.getElem?_take, if_pos (by omega)]; rfl
  generalize splice (bufC m l) (2 + i * 3) X = Y at *
  have b2 : blk? (h ++ [some ⟨true, 0, Y⟩]) h.length = some ⟨true, 0, Y⟩ := blk_new _ _
  have hw1 : E.glob.wrap .i64 ((l.length : Int) - 1) = (l.length : Int) - 1 := g_wrap_i64 (by omega) (by omega)
  have hat3 : (Y.set 1 (.int .i64 ((l.length : Int) - 1)))[1]? = some (.int .i64 ((l.length : Int) - 1)) := by rw [List.getElem?_set_self (by omega)]
  have hc3l : (Y.set 1 (.int .i64 ((l.length : Int) - 1))).length = 74 := by rw [List.length_set]; exact hc2l
  generalize hZ : Y.set 1 (.int .i64 ((l.length : Int) - 1)) = Z at *
  have b3 : blk? (h ++ [some ⟨true, 0, Z⟩]) h.length = some ⟨true, 0, Z⟩ := blk_new _ _
  have b4 : blk? (h ++ [some ⟨true, 0, bufC m (l.eraseIdx i)⟩]) h.length = some ⟨true, 0, bufC m (l.eraseIdx i)⟩ := blk_new _ _
  have htn : Int.toNat ((l.length : Int) - 1) = l.length - 1 := by omega
  rw [buf_Buf_Drop_eq]
  simp only [hcell, hlen]
  rw [rdH_ok b0 hlen]
  dsimp only
  rw [if_pos ⟨trivial, hlen⟩, bufoldest_R hE.c204 hl, c1_ok, asI_ok, hold, if_neg (by rw [decide_eq_true_eq]; omega), hsl1, g_succ (by omega), hsl2, hcp, rdH_ok b2 hc2l]
  dsimp only
  rw [atK_ok hat2, asI_ok, rdH_ok b2 hc2l]
  dsimp only
  rw [if_pos (by omega), putH_ok b2 rfl, setBlk_last, hw1]
  dsimp only
  rw [hZ, rdH_ok b3 hc3l]
  dsimp only
  rw [atK_ok hat3, asI_ok, if_pos ⟨by omega, by omega⟩, rdH_ok b3 hc3l]
  dsimp only
  rw [if_pos ⟨by rw [hc3l, htn]; omega, rfl⟩, putH_ok b3 rfl, setBlk_last, htn]
  dsimp only
  rw [hd, rdH_ok b4 hlen2]
  dsimp only
  rw [if_pos ⟨trivial, hlen2⟩, if_pos ⟨trivial, rfl, hlen2⟩, if_pos ⟨trivial, hlen2⟩]
  refine finish_gc (Kp.app _ (Nat.le_refl _)) ?_
  intro x hx
  rw [List.mem_singleton] at hx
  subst hx
  unfold avOk
  rw [hcell, List.all_eq_true]
  intro c hc
  exact bufC_ok hc

end
end Jq

/- Is a test one that may be, as the document says? -/
namespace Jq
open Go

theorem dec_iff {p : Prop} [Decidable p] {b : Bool} (h : p ↔ b = true) : decide p = b := by
  rw [Bool.eq_iff_iff, decide_eq_true_eq]; exact h

theorem cs1 (i : Ins) : decide (i.cs = (⟨i.kind, 0, i.loc, i.a, 0, ⟨0, 0⟩, 0⟩ : Ins).cs) = (((i.reg == 0 && i.op == 0) && decide (i.b.cs = [Cell.int .i64 0, Cell.int .i64 0])) && i.n == 0) := by
  refine dec_iff ?_
  simp [Ins.cs, Opd.cs, and_assoc]
theorem cs2 (i : Ins) : decide (i.cs = (⟨i.kind, i.reg, i.loc, ⟨0, 0⟩, 0, ⟨0, 0⟩, 0⟩ : Ins).cs) = (((decide (i.a.cs = [Cell.int .i64 0, Cell.int .i64 0]) && i.op == 0) && decide (i.b.cs = [Cell.int .i64 0, Cell.int .i64 0])) && i.n == 0) := by
  refine dec_iff ?_
  simp [Ins.cs, Opd.cs, and_assoc]
section
variable {E : Env}

end
end Jq

/- Is a test one that may be, as the document says? -/
namespace Jq
open Go

/-- A loop that looks for one. -/
theorem Lim_scan {F : St → Option (Ex × St)} (S : Nat → St) (n : Nat) (bad : Nat → Bool) (r x : St) (e : Nat) (hs : ∀ i, i < n → F (S i) = if bad i = true then some (.ret, r) else some (.normal, S (i + 1))) (he : F (S n) = some (.exit e, x)) :
    Lim F (S 0) = some (if (List.range n).any bad = true then (.ret, r) else (.exit e, x)) := by
  have key : ∀ (d i : Nat), i + d = n → Lim F (S i) = some (if (List.range d).any (fun k => bad (i + k)) = true then (.ret, r) else (.exit e, x)) := by
    intro d
    induction d with
    | zero =>
      intro i hi
      obtain rfl : i = n := by omega
      rw [Lim_exit he]; rfl
    | succ d ih =>
      intro i hi
      have h1 := hs i (by omega)
      rw [List.range_succ_eq_map, List.any_cons, List.any_map, Nat.add_zero]
      cases hb : bad i with
      | true =>
        rw [hb, if_pos rfl] at h1
        rw [Lim_ret h1, Bool.true_or, if_pos rfl]
      | false =>
        rw [hb, if_neg (by simp)] at h1
        have h2 := ih (i + 1) (by omega)
        rw [Bool.false_or]
        have he : ((List.range d).any ((fun k => bad (i + k)) ∘ Nat.succ)) = (List.range d).any fun k => bad (i + 1 + k) := by
          congr 1
          funext k
          show bad (i + (k + 1)) = _
          rw [show i + (k + 1) = i + 1 + k by omega]
        rw [he]
        exact Lim_next h1 h2
  have := key n 0 (by omega)
  simpa only [Nat.zero_add] using this

def atB {α : Type} (l : List α) (f : Nat → α → Bool) (i : Nat) : Bool := match l[i]? with | some q => f i q | none => false
theorem atB_ok {α : Type} {l : List α} {f : Nat → α → Bool} {i : Nat} {q : α} (h : l[i]? = some q) : atB l f i = f i q := by unfold atB; rw [h]
theorem atB_any {α : Type} (l : List α) (f : α → Bool) : (List.range l.length).any (atB l fun _ => f) = l.any f := by
  induction l with
  | nil => rfl
  | cons a l ih =>
    rw [List.length_cons, List.range_succ_eq_map, List.any_cons, List.any_map, List.any_cons, ← ih]
    rfl

def memB (a : Atm) : Bool := (a.thread == -1 && a.reg == 0) && locB a.loc
def ownB (a : Atm) : Bool := ((((decide (a.thread ≥ 0) && decide (a.thread ≤ 9)) && decide (a.reg ≥ 0)) && decide (a.reg ≤ 3)) && a.loc == 0)
section
variable {E : Env}

end
end Jq

/- Is a program one that may be? -/
namespace Jq
open Go

def hasB (P : PProg) (n : Int) : Bool := decide (n ≥ 0) && decide (n < (P.locs.length : Int))
def locBad (l : List Int) (i : Nat) (c : Int) : Bool := !locB c || (decide ((i : Int) > 0) && decide (c ≤ l.getD (i - 1) 0))
def thrBad (P : PProg) (c : List Ins) : Bool := (decide ((c.length : Int) > 10) || !jmpB c) || c.any fun i => !fldB (hasB P) i
def sizeBad (P : PProg) : Bool := ((((P.thr.length : Int) == 0 || decide ((P.thr.length : Int) > 4)) || decide ((P.locs.length : Int) > 4)) || ((P.init.length : Int) != (P.locs.length : Int))) || decide (sumL P.thr > 24)
def pokB (P : PProg) : Bool := if sizeBad P = true then false else if (List.range P.locs.length).any (atB P.locs (locBad P.locs)) = true then false else !(P.thr.any (thrBad P))

section
variable {E : Env}

theorem progOk_R (hE : prog_Ok_In E) {cs : List Cell} {P : PProg} {h : AHeap} (p : ProgAt h cs P) (hsm : P.small) (hu : ∀ x ∈ P.locs, 0 ≤ x ∧ x < 256) (hll : P.locs.length ≤ 1000) : R E 188 [.agg cs] h = some ([.c (.bool (pokB P))], h) := by
  refine R_intro hE.fn ?_
  obtain ⟨a, b, c, ts, rfl, ⟨ha, hal⟩, ⟨hb, hbl⟩, ⟨hc, hcl⟩, hts⟩ := p
  have p : ProgAt h [a, b, c] P := ⟨a, b, c, ts, rfl, ⟨ha, hal⟩, ⟨hb, hbl⟩, ⟨hc, hcl⟩, hts⟩
  have hcell : AV.cells (.agg [a, b, c]) = [a, b, c] := rfl
  have l3 : ([a, b, c] : List Cell).length = 3 := rfl
  have b1 : blk? (h ++ [some ⟨true, 0, [a, b, c]⟩]) h.length = some ⟨true, 0, [a, b, c]⟩ := blk_new _ _
  have k1 : Kp h.length h (h ++ [some ⟨true, 0, [a, b, c]⟩]) := Kp.app _ (Nat.le_refl _)
  have nn : (h ++ [some (Blk.mk true 0 [a, b, c])]).length = h.length + 1 := by simp
  have fin : ∀ (h' : AHeap) (x : Bool), Kp h.length h h' → finish true h [.c (.bool x)] h' = some ([.c (.bool x)], h) := fun h' x hk => finish_gc hk (by simp [avOk, AV.cells, idOk])
  rw [prog_Ok_eq]
  simp only [hcell, l3]
  generalize h ++ [some (Blk.mk true 0 [a, b, c])] = H at *
  have p1 := p.keep k1
  have ha1 := ha.keep hal k1
  have hb1 := hb.keep hbl k1
  have hc1 := hc.keep hcl k1
  have a0 : ∀ {α : Type} (f : Cell → Option α), atK [a, b, c] 0 f = f a := fun _ => rfl
  have a1 : ∀ {α : Type} (f : Cell → Option α), atK [a, b, c] 1 f = f b := fun _ => rfl
  have a2 : ∀ {α : Type} (f : Cell → Option α), atK [a, b, c] 2 f = f c := fun _ => rfl
  have rb : ∀ {α : Type} (F : List Cell → Option α), rdH H h.length 3 F = F [a, b, c] := fun F => rd3 b1
  rw [rb, a2, hc1.len, rb, a2, hc1.len, scK_or, rb, a0, ha1.len, scK_or, rb, a1, hb1.len, rb, a0, ha1.len, scK_or, rb, if_pos ⟨trivial, rfl⟩, Size_R hE.c102 p1 hsm, c1_ok, asI_ok, scK_or]
  unfold pokB
  rw [show (((((P.thr.length : Int) == 0 || decide ((P.thr.length : Int) > 4)) || decide ((P.locs.length : Int) > 4)) || ((P.init.length : Int) != (P.locs.length : Int))) || decide (sumL P.thr > 24)) = sizeBad P from rfl]
  cases hsb : sizeBad P with
  | true => rw [if_pos rfl, if_pos rfl, fin _ _ k1]
  | false =>
    rw [if_neg (by simp), if_neg (by simp), rb, a0, ha1.len]
    have f1 : Lim (prog_Ok_F1 (R E) Lim E.glob) (prog_Ok_s1 h.length 3 0 a P.locs.length 0 H) = some (if (List.range P.locs.length).any (atB P.locs (locBad P.locs)) = true then (.ret, prog_Ok_x1_0 false H) else (.exit 0, prog_Ok_x1_1 h.length 3 0 H)) := by
      exact Lim_scan (F := prog_Ok_F1 (R E) Lim E.glob) (fun i => prog_Ok_s1 h.length 3 0 a P.locs.length (i : Int) H) P.locs.length (atB P.locs (locBad P.locs)) _ _ 0 (fun i hi => by
        have hq : P.locs[i]? = some P.locs[i] := List.getElem?_eq_getElem hi
        generalize P.locs[i] = v at hq
        have hv := hu v (List.mem_of_getElem? hq)
        rw [prog_Ok_r1, if_pos (by simp; omega), ha1.get1 hi (intC_get hq), asI_ok, g_wrap_i64 (by omega) (by omega), IsLoc_R hE.c158, c1_ok, asB_ok, atB_ok hq, g_succ (by omega)]
        unfold locBad
        by_cases h0 : i = 0
        · subst h0
          rw [show decide (((0 : Nat) : Int) > 0) = false from rfl, scK_ft, scK_or, Bool.false_and]
        · have hd : decide ((i : Int) > 0) = true := decide_eq_true (by omega)
          have hq2 := getDI (show i - 1 < P.locs.length by omega)
          have hw : E.glob.wrap .i64 ((i : Int) - 1) = ((i - 1 : Nat) : Int) := by rw [g_wrap_i64 (by omega) (by omega)]; omega
          rw [hd, scK_ok, rb, show 0 + 0 = 0 from rfl, a0, hw, ha1.get1 (show i - 1 < P.locs.length by omega) (intC_get hq2), asI_ok, bind_ok]
          dsimp only
          rw [scK_or, Bool.true_and]) (by rw [prog_Ok_r1, if_neg (by simp)])
    rw [f1, bind_ok]
    cases hlb : (List.range P.locs.length).any (atB P.locs (locBad P.locs)) with
    | true => rw [if_pos rfl, if_pos rfl]; dsimp only; rw [prog_Ok_e1_0, fin _ _ k1]
    | false =>
      rw [if_neg (by simp), if_neg (by simp)]
      dsimp only
      rw [prog_Ok_e1_1]
      have l1 : ([Cell.nilf] : List Cell).length = 1 := rfl
      rw [l1, rd1' (blk_new _ _), if_pos (by simp), putH_ok (blk_new _ _) rfl, setBlk_last]
      dsimp only [List.set]
      have k2 : Kp H.length H (H ++ [some (Blk.mk true 0 [.fn 200 [(h.length, 3, 0)]])]) := Kp.app _ (Nat.le_refl _)
      have b2 : blk? (H ++ [some (Blk.mk true 0 [.fn 200 [(h.length, 3, 0)]])]) H.length = some ⟨true, 0, [.fn 200 [(h.length, 3, 0)]]⟩ := blk_new _ _
      have b1' : blk? (H ++ [some (Blk.mk true 0 [.fn 200 [(h.length, 3, 0)]])]) h.length = some ⟨true, 0, [a, b, c]⟩ := blk_old b1 _
      generalize H ++ [some (Blk.mk true 0 [.fn 200 [(h.length, 3, 0)]])] = H2 at *
      have kk : Kp h.length h H2 := k1.trans (k2.mono k1.1)
      have hc2 := hc.keep hcl kk
      have ha2 := ha.keep hal kk
      have hsays : Says E H2 (.fn 200 [(h.length, 3, 0)]) (hasB P) := fun n α F => by
        show c1 (R E 200 ([.c (.int .i64 n)] ++ [.c (.ptr h.length 3 0)]) H2) F = _
        have : R E 200 ([.c (.int .i64 n)] ++ [.c (.ptr h.length 3 0)]) H2 = some ([.c (.bool (hasB P n))], H2) := by
          refine R_intro hE.c200.fn ?_
          show prog_Ok_1.body (R E) Lim E.glob [.c (.int .i64 n), .c (.ptr h.length 3 0)] H2 = _
          rw [prog_Ok_1_eq, rd3 b1', show 0 + 0 = 0 from rfl, a0, ha2.len, scK_and]; rfl
        rw [this, c1_ok]
      have hins : ∀ (c : List Ins) (y : Cell), c.length ≤ 1000 → SlAt H2 y 9 (codeC c) c.length → R E 155 [.c y, .c (.fn 201 [(H.length, 1, 0)])] H2 = some ([.c (.bool (c.any fun i => !fldB (hasB P) i))], H2) := by
        intro c y hcl hy
        refine any_sIns_Ins_R hE.c155 hy (by omega) (fun i => !fldB (hasB P) i) fun i _ α F => ?_
        show c1 (R E 201 ([.agg i.cs] ++ [.c (.ptr H.length 1 0)]) H2) F = _
        have : R E 201 ([.agg i.cs] ++ [.c (.ptr H.length 1 0)]) H2 = some ([.c (.bool (!fldB (hasB P) i))], H2) := by
          refine R_intro hE.c201.fn ?_
          show prog_Ok_2.body (R E) Lim E.glob [.agg i.cs, .c (.ptr H.length 1 0)] H2 = _
          rw [prog_Ok_2_eq, if_pos ⟨rfl, rfl⟩, rd1' b2, atK_ok (i := 0) (c := .fn 200 [(h.length, 3, 0)]) rfl, Fields_R hE.c201.c159 i hsays, c1_ok, asB_ok]
        rw [this, c1_ok]
      have n2 := hsm.1
      have f2 : Lim (prog_Ok_F2 (R E) Lim E.glob) (prog_Ok_s2 H.length 1 0 c P.thr.length 0 H2) = some (if P.thr.any (thrBad P) = true then (.ret, prog_Ok_x2_0 false H2) else (.exit 2, prog_Ok_x2_3 H2)) := by
        rw [← atB_any]
        exact Lim_scan (F := prog_Ok_F2 (R E) Lim E.glob) (fun i => prog_Ok_s2 H.length 1 0 c P.thr.length (i : Int) H2) P.thr.length (atB P.thr fun _ => thrBad P) _ _ 2 (fun t ht => by
          have hq : P.thr[t]? = some P.thr[t] := List.getElem?_eq_getElem ht
          generalize P.thr[t] = code at hq
          have hcl2 := hsm.2 code (List.mem_of_getElem? hq)
          obtain ⟨y, y1, y2, y3⟩ := hts t code hq
          have y2' := y2.keep y3 kk
          rw [prog_Ok_r2, if_pos (by simp; omega), hc2.get1 ht y1, y2'.len, Jumps_R hE.c148 y2' (by omega), c1_ok, asB_ok, scK_or, hins code y hcl2 y2', c1_ok, asB_ok, scK_or, atB_ok hq, g_succ (by omega)]
          rfl) (by rw [prog_Ok_r2, if_neg (by simp)])
      rw [rd3 b1', show 0 + 2 = 2 from rfl, a2, hc2.len, f2, bind_ok]
      cases htb : P.thr.any (thrBad P) with
      | true => rw [if_pos rfl]; dsimp only; rw [prog_Ok_e2_0, fin _ _ kk]; rfl
      | false => rw [if_neg (by simp)]; dsimp only; rw [prog_Ok_e2_3, fin _ _ kk]; rfl

end
end Jq

/- Rows of numbers copied. -/
namespace Jq
open Go

section
variable {E : Env}

theorem cells1 {h : AHeap} {x : Cell} {cs : List Cell} {len : Nat} (s : SlAt h x 1 cs len) : slCells h 1 x = some cs := by
  have hl := s.1
  rcases s.2 with ⟨rfl, rfl⟩ | ⟨k, N, off, rfl, hb⟩
  · have : cs = [] := List.length_eq_zero_iff.1 (by omega)
    rw [this]; rfl
  · unfold slCells
    dsimp only
    by_cases h0 : len = 0
    · have : cs = [] := List.length_eq_zero_iff.1 (by omega)
      rw [if_pos h0, this]
    · rw [if_neg h0]
      rcases hb with hb | ⟨b, hb, hN, hle, hat⟩
      · exact absurd hb h0
      · rw [hb]
        simp only
        rw [if_pos ⟨hN, hle⟩]
        congr 1
        refine List.ext_getElem? fun j => ?_
        rw [List.getElem?_take, List.getElem?_drop]
        by_cases hj : j < len * 1
        · rw [if_pos hj, hat j hj]
        · rw [if_neg hj, List.getElem?_eq_none (by omega)]

/-- Cells put behind an empty row. -/
theorem app_empty {α : Type} {h : AHeap} {bytes len : Nat} {cs : List Cell} (hlen : cs.length = len) (h1 : len * bytes ≤ maxBytes) (h2 : len ≤ maxBytes) (f : Cell → AHeap → Option α) :
    appK 1 bytes (.sl h.length 0 0 0) cs (h ++ [some ⟨true, 1, []⟩]) f = f (.sl h.length cs.length 0 len) (h ++ [some ⟨true, 1, cs⟩]) := by
  unfold appK
  simp only
  rw [blk_new, Option.bind_some]
  dsimp only
  have hd : cs.length / 1 = len := by rw [Nat.div_one, hlen]
  rw [if_pos ⟨rfl, rfl, rfl, by simp, by rw [hd]; simp; omega, by rw [hd]; simp; omega⟩, hd]
  by_cases h0 : len = 0
  · have : cs = [] := List.length_eq_zero_iff.1 (by omega)
    subst this
    rw [if_pos (by simp), setBlk_last, h0]; rfl
  · rw [if_neg (by omega), if_pos trivial, setBlk_last]
    simp

theorem slices_Clone_sbyte_byte_R (hE : slices_Clone_sbyte_byte_In E) {x : Cell} {cs : List Cell} {len : Nat} {h : AHeap} (hx : SlAt h x 1 cs len) (hlow : Low h.length x) (hl : len ≤ 1000) :
    ∃ x' h', R E 202 [.c x] h = some ([.c x'], h') ∧ Own h.length h' x' 1 cs len ∧ Kp h.length h h' := by
  have hm : maxBytes ≥ 1000 * 8 := by unfold maxBytes; omega
  have hlen : cs.length = len := by have := hx.1; omega
  have hx0 := hx
  rcases hx.2 with ⟨rfl, h0⟩ | ⟨k, N, off, rfl, hb⟩
  · refine ⟨.nils, h, R_intro hE.fn ?_, ⟨hx.1, .inl ⟨rfl, h0⟩⟩, Kp.refl _ _⟩
    rw [slices_Clone_sbyte_byte_eq]; rfl
  · have hk1 : Kp h.length h (h ++ [some ⟨true, 1, []⟩]) := Kp.app _ (Nat.le_refl _)
    have hc := cells1 (hx0.keep hlow hk1)
    refine ⟨.sl h.length cs.length 0 len, h ++ [some ⟨true, 1, cs⟩], R_intro hE.fn ?_, ⟨hx.1, .inr ⟨h.length, rfl, Nat.le_refl _, blk_new _ _⟩⟩, Kp.app _ (Nat.le_refl _)⟩
    rw [slices_Clone_sbyte_byte_eq, show ∀ {α : Type} (f : Bool → Option α), eqNilK false (.sl k N off len) .nils f = f false from fun _ => rfl, if_neg (by simp), if_pos (show ([] : List Cell).length = 0 * 1 from rfl), hc, bind_ok, show ([] : List Cell).length = 0 from rfl, app_empty hlen (by omega) (by omega)]

theorem slices_Clone_sint64_int64_R (hE : slices_Clone_sint64_int64_In E) {x : Cell} {cs : List Cell} {len : Nat} {h : AHeap} (hx : SlAt h x 1 cs len) (hlow : Low h.length x) (hl : len ≤ 1000) :
    ∃ x' h', R E 203 [.c x] h = some ([.c x'], h') ∧ Own h.length h' x' 1 cs len ∧ Kp h.length h h' := by
  have hm : maxBytes ≥ 1000 * 8 := by unfold maxBytes; omega
  have hlen : cs.length = len := by have := hx.1; omega
  have hx0 := hx
  rcases hx.2 with ⟨rfl, h0⟩ | ⟨k, N, off, rfl, hb⟩
  · refine ⟨.nils, h, R_intro hE.fn ?_, ⟨hx.1, .inl ⟨rfl, h0⟩⟩, Kp.refl _ _⟩
    rw [slices_Clone_sint64_int64_eq]; rfl
  · have hk1 : Kp h.length h (h ++ [some ⟨true, 1, []⟩]) := Kp.app _ (Nat.le_refl _)
    have hc := cells1 (hx0.keep hlow hk1)
    refine ⟨.sl h.length cs.length 0 len, h ++ [some ⟨true, 1, cs⟩], R_intro hE.fn ?_, ⟨hx.1, .inr ⟨h.length, rfl, Nat.le_refl _, blk_new _ _⟩⟩, Kp.app _ (Nat.le_refl _)⟩
    rw [slices_Clone_sint64_int64_eq, show ∀ {α : Type} (f : Bool → Option α), eqNilK false (.sl k N off len) .nils f = f false from fun _ => rfl, if_neg (by simp), if_pos (show ([] : List Cell).length = 0 * 1 from rfl), hc, bind_ok, show ([] : List Cell).length = 0 from rfl, app_empty hlen (by omega) (by omega)]

end
end Jq

namespace Jq
open Go

/- jacquard/vm.Name: 167 -/
set_option maxRecDepth 100000 in
theorem vm_Name_eq (C : CallF) (L : LoopF) (G : Glo) (a0 : Int) (h0 : AHeap) :
    vm_Name.body C L G [(.c (.int .i64 a0))] h0 =
    scK (decide (a0 < 0)) false (some ((decide (a0 ≥ 24)), h0)) true h0 fun b_1 h_2 => if b_1 = true then some ([(.c (.str (ByteArray.mk #[])))], h_2) else if (decide (a0 < 4)) = true then c1 (C 45 [(.c (.int .i64 a0))] h_2) fun y_4 h_3 => asS y_4 fun z_5 => if ByteArray.size (ByteArray.mk #[116]) + ByteArray.size z_5 ≤ 1099511627776 then some ([(.c (.str ((ByteArray.mk #[116]) ++ z_5)))], h_3) else none else if (decide (a0 < 8)) = true then c1 (C 45 [(.c (.int .i64 (G.wrap .i64 (a0 - 4))))] h_2) fun y_7 h_6 => asS y_7 fun z_8 => if ByteArray.size (ByteArray.mk #[102]) + ByteArray.size z_8 ≤ 1099511627776 then some ([(.c (.str ((ByteArray.mk #[102]) ++ z_8)))], h_6) else none else c1 (C 45 [(.c (.int .i64 (G.quo .i64 (G.wrap .i64 (a0 - 8)) 4)))] h_2) fun y_10 h_9 => asS y_10 fun z_11 => if ByteArray.size (ByteArray.mk #[102]) + ByteArray.size z_11 ≤ 1099511627776 then if ByteArray.size ((ByteArray.mk #[102]) ++ z_11) + ByteArray.size (ByteArray.mk #[46]) ≤ 1099511627776 then c1 (C 45 [(.c (.int .i64 (G.rem .i64 (G.wrap .i64 (a0 - 8)) 4)))] h_9) fun y_13 h_12 => asS y_13 fun z_14 => if ByteArray.size (((ByteArray.mk #[102]) ++ z_11) ++ (ByteArray.mk #[46])) + ByteArray.size z_14 ≤ 1099511627776 then some ([(.c (.str ((((ByteArray.mk #[102]) ++ z_11) ++ (ByteArray.mk #[46])) ++ z_14)))], h_12) else none else none else none := by kernel_rfl

/- jacquard/vm.New: 171 -/
def vm_New_k2 (C : CallF) (L : LoopF) (G : Glo) (h0 : AHeap) : Ex → St → Option (List AV × AHeap) :=
  kSeq (fun st => vm_New_p1.exec C L G st (vm_New.fin G h0)) (vm_New.fin G h0)
def vm_New_k3 (C : CallF) (L : LoopF) (G : Glo) (h0 : AHeap) : Ex → St → Option (List AV × AHeap) :=
  kBlk 0 (vm_New_k2 C L G h0)
def vm_New_s1 (a1 : Int) (k6 : Nat) (N6 : Nat) (o6 : Nat) (a24 : Int) (s0 : List Cell) (h : AHeap) : St := ⟨[.top, .v (.c (.int .i64 a1)), .loc 0 0, .top, .top, .top, .v (.c (.ptr k6 N6 o6)), .top, .top, .top, .top, .top, .top, .top, .top, .top, .top, .top, .top, .top, .top, .top, .top, .top, .v (.c (.int .i64 a24)), .top, .top, .top, .top, .top, .top, .top, .top, .top, .top, .top, .top, .top, .top, .top, .top, .top, .top, .top, .top, .top, .top, .top, .top, .top, .top, .top, .top, .top, .top, .top, .top, .top, .top], [some s0], h⟩
def vm_New_F1 (C : CallF) (L : LoopF) (G : Glo) : St → Option (Ex × St) :=
  roundF (fun st f => vm_New_b1.exec C L G st f) [1, 2, 6, 24] [0] [(1, [2, 6], [0])]
def vm_New_x1_1 (k6 : Nat) (N6 : Nat) (o6 : Nat) (s0 : List Cell) (h : AHeap) : St := ⟨[.top, .top, .loc 0 0, .top, .top, .top, .v (.c (.ptr k6 N6 o6)), .top, .top, .top, .top, .top, .top, .top, .top, .top, .top, .top, .top, .top, .top, .top, .top, .top, .top, .top, .top, .top, .top, .top, .top, .top, .top, .top, .top, .top, .top, .top, .top, .top, .top, .top, .top, .top, .top, .top, .top, .top, .top, .top, .top, .top, .top, .top, .top, .top, .top, .top, .top], [some s0], h⟩
theorem vm_New_r1 (C : CallF) (L : LoopF) (G : Glo) (a1 : Int) (k6 : Nat) (N6 : Nat) (o6 : Nat) (a24 : Int) (s0 : List Cell) (h : AHeap) :
    vm_New_F1 C L G (vm_New_s1 a1 k6 N6 o6 a24 s0 h) =
    if (decide (a24 < 4)) = true then rdH h k6 N6 fun l_11 => if (o6 + 0) + 3 ≤ l_11.length then c1 (qh h (C 94 [(.agg ((l_11.drop (o6 + 0)).take 3)), (.c (.int .i64 a24))] h)) fun y_13 h_12 => asA y_13 fun l_14 => if 0 ≤ a24 ∧ a24 < ((4 : Nat) : Int) then rdH h k6 N6 fun l_15 => if ((o6 + 4) + ((Int.toNat a24) * 5)) + 5 ≤ l_15.length ∧ l_14.length = 5 then putH h k6 (splice l_15 ((o6 + 4) + ((Int.toNat a24) * 5)) l_14) fun h_16 => c1 (qh h_16 (C 190 [(.c (.int .i64 a1))] h_16)) fun y_18 h_17 => asA y_18 fun l_19 => if 0 ≤ a24 ∧ a24 < ((4 : Nat) : Int) then rdH h_16 k6 N6 fun l_20 => if ((o6 + 32) + ((Int.toNat a24) * 74)) + 74 ≤ l_20.length ∧ l_19.length = 74 then putH h_16 k6 (splice l_20 ((o6 + 32) + ((Int.toNat a24) * 74)) l_19) fun h_21 => if 0 ≤ a24 ∧ a24 < ((4 : Nat) : Int) then rdH h_21 k6 N6 fun l_22 => if ((o6 + 28) + ((Int.toNat a24) * 1)) < l_22.length then putH h_21 k6 (l_22.set ((o6 + 28) + ((Int.toNat a24) * 1)) (.int .i64 (-1))) fun h_23 => some (.normal, (vm_New_s1 a1 k6 N6 o6 (G.wrap .i64 (a24 + 1)) s0 h_23)) else none else none else none else none else none else none else none else some ((.exit 0), (vm_New_x1_1 k6 N6 o6 s0 h)) := by kernel_rfl
theorem vm_New_e1_1 (C : CallF) (L : LoopF) (G : Glo) (h0 : AHeap) (k6 : Nat) (N6 : Nat) (o6 : Nat) (s0 : List Cell) (h : AHeap) :
    (vm_New_k3 C L G h0) (.exit 0) (vm_New_x1_1 k6 N6 o6 s0 h) =
    sliceAK h 4 1 false false (.ptr k6 N6 (o6 + 24)) [] fun x_24 => atK s0 1 fun q_25 => copyK 1 x_24 q_25 h fun n_26 h_27 => some ([(.c (.ptr k6 N6 o6)), (.c (.int .i64 0))], h_27) := by kernel_rfl
set_option maxRecDepth 100000 in
theorem vm_New_eq (C : CallF) (L : LoopF) (G : Glo) (l0 : List Cell) (a1 : Int) (h0 : AHeap) :
    vm_New.body C L G [(.agg l0), (.c (.int .i64 a1))] h0 =
    scK (decide (a1 < 1)) false (some ((decide (a1 > 3)), h0)) true h0 fun b_1 h_2 => scK b_1 false (if 0 = 0 ∧ l0.length = 3 then c1 (C 188 [(.agg l0)] h_2) fun y_4 h_3 => asB y_4 fun b_5 => some ((!b_5), h_3) else none) true h_2 fun b_6 h_7 => if b_6 = true then some ([(.c .nilp), (.c (.int .i64 1))], h_7) else if 0 = 0 ∧ l0.length = 3 then c1 (C 189 [(.agg l0)] h_7) fun y_9 h_8 => asA y_9 fun l_10 => if l_10.length = 3 ∧ 0 + 3 ≤ ([Cell.nils, Cell.nils, Cell.nils] ++ List.replicate 325 (Cell.int .i64 0) ++ [Cell.nils]).length then if ([(.int .i64 a1)] : List Cell).length = 1 ∧ 3 + 1 ≤ (splice ([Cell.nils, Cell.nils, Cell.nils] ++ List.replicate 325 (Cell.int .i64 0) ++ [Cell.nils]) 0 l_10).length then (L (vm_New_F1 C L G) (vm_New_s1 a1 h_8.length ((AV.cells (.agg (splice (splice ([Cell.nils, Cell.nils, Cell.nils] ++ List.replicate 325 (Cell.int .i64 0) ++ [Cell.nils]) 0 l_10) 3 ([(.int .i64 a1)] : List Cell)))).length) 0 0 l0 (h_8 ++ [some (Blk.mk true 0 (AV.cells (.agg (splice (splice ([Cell.nils, Cell.nils, Cell.nils] ++ List.replicate 325 (Cell.int .i64 0) ++ [Cell.nils]) 0 l_10) 3 ([(.int .i64 a1)] : List Cell)))))]))).bind fun p_28 => (vm_New_k3 C L G h0) p_28.1 p_28.2 else none else none else none := by kernel_rfl

/- (*jacquard/vm.VM).Enabled: 172 -/
def vm_VM_Enabled_k2 (C : CallF) (L : LoopF) (G : Glo) (h0 : AHeap) : Ex → St → Option (List AV × AHeap) :=
  kSeq (fun st => vm_VM_Enabled_p1.exec C L G st (vm_VM_Enabled.fin G h0)) (vm_VM_Enabled.fin G h0)
def vm_VM_Enabled_k3 (C : CallF) (L : LoopF) (G : Glo) (h0 : AHeap) : Ex → St → Option (List AV × AHeap) :=
  kBlk 0 (vm_VM_Enabled_k2 C L G h0)
def vm_VM_Enabled_s2 (k0 : Nat) (N0 : Nat) (o0 : Nat) (a3 : Int) (a13 : Int) (h : AHeap) : St := ⟨[.v (.c (.ptr k0 N0 o0)), .top, .top, .v (.c (.int .u64 a3)), .top, .top, .top, .top, .top, .top, .top, .top, .top, .v (.c (.int .i64 a13)), .top, .top, .top, .top, .top, .top, .top, .top, .top, .top, .top, .top, .top, .top, .top, .top, .top, .top, .top, .top, .top, .top, .top, .top, .top, .top, .top, .top, .top, .top, .top, .top, .top, .top, .top, .top, .top, .top, .top, .top, .top, .top, .top, .top, .top, .top, .top, .top, .top, .top, .top, .top, .top, .top, .top, .top, .top, .top, .top, .top, .top, .top, .top, .top, .top, .top, .top, .top, .top, .top, .top, .top, .top, .top, .top, .top, .top, .top, .top, .top, .top, .top, .top, .top, .top, .top, .top, .top, .top, .top, .top, .top, .top, .top, .top], [none], h⟩
def vm_VM_Enabled_F2 (C : CallF) (L : LoopF) (G : Glo) : St → Option (Ex × St) :=
  roundF (fun st f => vm_VM_Enabled_b2.exec C L G st f) [0, 3, 13] [] [(1, [3], [])]
def vm_VM_Enabled_k4 (C : CallF) (L : LoopF) (G : Glo) : Ex → St → Option (Ex × St) :=
  kSeq (fun st => vm_VM_Enabled_p2.exec C L G st (kLoop [0, 3, 13] [] [(1, [3], [])])) (kLoop [0, 3, 13] [] [(1, [3], [])])
def vm_VM_Enabled_k5 (C : CallF) (L : LoopF) (G : Glo) : Ex → St → Option (Ex × St) :=
  kBlk 1 (vm_VM_Enabled_k4 C L G)
def vm_VM_Enabled_k6 (C : CallF) (L : LoopF) (G : Glo) : Ex → St → Option (Ex × St) :=
  kSeq (fun st => vm_VM_Enabled_p3.exec C L G st (vm_VM_Enabled_k5 C L G)) (vm_VM_Enabled_k5 C L G)
def vm_VM_Enabled_c1 (k0 : Nat) (N0 : Nat) (o0 : Nat) (a3 : Int) (a4 : Int) (a13 : Int) (h : AHeap) : St := ⟨[.v (.c (.ptr k0 N0 o0)), .top, .top, .v (.c (.int .u64 a3)), .v (.c (.int .i64 a4)), .top, .top, .top, .top, .top, .top, .top, .top, .v (.c (.int .i64 a13)), .top, .top, .top, .top, .top, .top, .top, .top, .top, .top, .top, .top, .top, .top, .top, .top, .top, .top, .top, .top, .top, .top, .top, .top, .top, .top, .top, .top, .top, .top, .top, .top, .top, .top, .top, .top, .top, .top, .top, .top, .top, .top, .top, .top, .top, .top, .top, .top, .top, .top, .top, .top, .top, .top, .top, .top, .top, .top, .top, .top, .top, .top, .top, .top, .top, .top, .top, .top, .top, .top, .top, .top, .top, .top, .top, .top, .top, .top, .top, .top, .top, .top, .top, .top, .top, .top, .top, .top, .top, .top, .top, .top, .top, .top, .top], [none], h⟩
def vm_VM_Enabled_k7 (C : CallF) (L : LoopF) (G : Glo) : Ex → St → Option (Ex × St) :=
  kBlk 2 (vm_VM_Enabled_k5 C L G)
def vm_VM_Enabled_s1 (k0 : Nat) (N0 : Nat) (o0 : Nat) (a3 : Int) (a4 : Int) (a13 : Int) (a75 : Int) (h : AHeap) : St := ⟨[.v (.c (.ptr k0 N0 o0)), .top, .top, .v (.c (.int .u64 a3)), .v (.c (.int .i64 a4)), .top, .top, .top, .top, .top, .top, .top, .top, .v (.c (.int .i64 a13)), .top, .top, .top, .top, .top, .top, .top, .top, .top, .top, .top, .top, .top, .top, .top, .top, .top, .top, .top, .top, .top, .top, .top, .top, .top, .top, .top, .top, .top, .top, .top, .top, .top, .top, .top, .top, .top, .top, .top, .top, .top, .top, .top, .top, .top, .top, .top, .top, .top, .top, .top, .top, .top, .top, .top, .top, .top, .top, .top, .top, .top, .v (.c (.int .i64 a75)), .top, .top, .top, .top, .top, .top, .top, .top, .top, .top, .top, .top, .top, .top, .top, .top, .top, .top, .top, .top, .top, .top, .top, .top, .top, .top, .top, .top, .top, .top, .top, .top, .top], [none], h⟩
def vm_VM_Enabled_F1 (C : CallF) (L : LoopF) (G : Glo) : St → Option (Ex × St) :=
  roundF (fun st f => vm_VM_Enabled_b1.exec C L G st f) [0, 3, 4, 13, 75] [] [(3, [0, 3, 13], [])]
def vm_VM_Enabled_x1_3 (k0 : Nat) (N0 : Nat) (o0 : Nat) (a3 : Int) (a13 : Int) (h : AHeap) : St := ⟨[.v (.c (.ptr k0 N0 o0)), .top, .top, .v (.c (.int .u64 a3)), .top, .top, .top, .top, .top, .top, .top, .top, .top, .v (.c (.int .i64 a13)), .top, .top, .top, .top, .top, .top, .top, .top, .top, .top, .top, .top, .top, .top, .top, .top, .top, .top, .top, .top, .top, .top, .top, .top, .top, .top, .top, .top, .top, .top, .top, .top, .top, .top, .top, .top, .top, .top, .top, .top, .top, .top, .top, .top, .top, .top, .top, .top, .top, .top, .top, .top, .top, .top, .top, .top, .top, .top, .top, .top, .top, .top, .top, .top, .top, .top, .top, .top, .top, .top, .top, .top, .top, .top, .top, .top, .top, .top, .top, .top, .top, .top, .top, .top, .top, .top, .top, .top, .top, .top, .top, .top, .top, .top, .top], [none], h⟩
def vm_VM_Enabled_k8 (C : CallF) (L : LoopF) (G : Glo) : Ex → St → Option (Ex × St) :=
  kBlk 2 (vm_VM_Enabled_k5 C L G)
def vm_VM_Enabled_x2_1 (a3 : Int) (h : AHeap) : St := ⟨[.top, .top, .top, .v (.c (.int .u64 a3)), .top, .top, .top, .top, .top, .top, .top, .top, .top, .top, .top, .top, .top, .top, .top, .top, .top, .top, .top, .top, .top, .top, .top, .top, .top, .top, .top, .top, .top, .top, .top, .top, .top, .top, .top, .top, .top, .top, .top, .top, .top, .top, .top, .top, .top, .top, .top, .top, .top, .top, .top, .top, .top, .top, .top, .top, .top, .top, .top, .top, .top, .top, .top, .top, .top, .top, .top, .top, .top, .top, .top, .top, .top, .top, .top, .top, .top, .top, .top, .top, .top, .top, .top, .top, .top, .top, .top, .top, .top, .top, .top, .top, .top, .top, .top, .top, .top, .top, .top, .top, .top, .top, .top, .top, .top], [none], h⟩
theorem vm_VM_Enabled_r1 (C : CallF) (L : LoopF) (G : Glo) (k0 : Nat) (N0 : Nat) (o0 : Nat) (a3 : Int) (a4 : Int) (a13 : Int) (a75 : Int) (h : AHeap) :
    vm_VM_Enabled_F1 C L G (vm_VM_Enabled_s1 k0 N0 o0 a3 a4 a13 a75 h) =
    if (decide (a75 < 4)) = true then if 0 ≤ a4 ∧ a4 < ((4 : Nat) : Int) then rdH h k0 N0 fun l_37 => if ((o0 + 32) + ((Int.toNat a4) * 74)) + 74 ≤ l_37.length then c4 (C 192 [(.agg ((l_37.drop ((o0 + 32) + ((Int.toNat a4) * 74))).take 74)), (.c (.int .i64 a75))] h) fun y_39 y_40 y_41 y_42 h_38 => asI .i64 y_39 fun n_43 => asI .i64 y_40 fun n_44 => asI .i64 y_41 fun n_45 => asB y_42 fun b_46 => rdH h_38 k0 N0 fun l_47 => atK l_47 (o0 + 3) fun q_48 => asI .i64 (.c q_48) fun n_49 => scK (n_49 == 3) true (some (b_46, h_38)) false h_38 fun b_50 h_51 => if b_50 = true then let v_52 : Int := (G.wrap .i64 (8 + (G.wrap .i64 (4 * a4)))); c1 (C 18 [(.c (.int .u64 a3)), (.c (.int .i64 (G.wrap .i64 (v_52 + a75))))] h_51) fun y_54 h_53 => asI .u64 y_54 fun n_55 => some (.normal, (vm_VM_Enabled_s1 k0 N0 o0 n_55 a4 a13 (G.wrap .i64 (a75 + 1)) h_53)) else some (.normal, (vm_VM_Enabled_s1 k0 N0 o0 a3 a4 a13 (G.wrap .i64 (a75 + 1)) h_51)) else none else none else some ((.exit 2), (vm_VM_Enabled_x1_3 k0 N0 o0 a3 a13 h)) := by kernel_rfl
theorem vm_VM_Enabled_e1_3 (C : CallF) (L : LoopF) (G : Glo) (k0 : Nat) (N0 : Nat) (o0 : Nat) (a3 : Int) (a13 : Int) (h : AHeap) :
    (vm_VM_Enabled_k7 C L G) (.exit 2) (vm_VM_Enabled_x1_3 k0 N0 o0 a3 a13 h) =
    some (.normal, (vm_VM_Enabled_s2 k0 N0 o0 a3 (G.wrap .i64 (a13 + 1)) h)) := by kernel_rfl
theorem vm_VM_Enabled_ec1_n (C : CallF) (L : LoopF) (G : Glo) (k0 : Nat) (N0 : Nat) (o0 : Nat) (a3 : Int) (a4 : Int) (a13 : Int) (h : AHeap) :
    (vm_VM_Enabled_k6 C L G) .normal (vm_VM_Enabled_c1 k0 N0 o0 a3 a4 a13 h) =
    rdH h k0 N0 fun l_25 => atK l_25 (o0 + 3) fun q_26 => asI .i64 (.c q_26) fun n_27 => scK (n_27 == 2) true (if 0 ≤ a4 ∧ a4 < ((4 : Nat) : Int) then rdH h k0 N0 fun l_28 => if ((o0 + 32) + ((Int.toNat a4) * 74)) + 74 ≤ l_28.length then c1 (C 191 [(.agg ((l_28.drop ((o0 + 32) + ((Int.toNat a4) * 74))).take 74))] h) fun y_30 h_29 => asB y_30 fun b_31 => some ((!b_31), h_29) else none else none) false h fun b_32 h_33 => if b_32 = true then c1 (C 18 [(.c (.int .u64 a3)), (.c (.int .i64 (G.wrap .i64 (4 + a4))))] h_33) fun y_35 h_34 => asI .u64 y_35 fun n_36 => (L (vm_VM_Enabled_F1 C L G) (vm_VM_Enabled_s1 k0 N0 o0 n_36 a4 a13 0 h_34)).bind fun p_56 => (vm_VM_Enabled_k7 C L G) p_56.1 p_56.2 else (L (vm_VM_Enabled_F1 C L G) (vm_VM_Enabled_s1 k0 N0 o0 a3 a4 a13 0 h_33)).bind fun p_57 => (vm_VM_Enabled_k8 C L G) p_57.1 p_57.2 := by kernel_rfl
theorem vm_VM_Enabled_r2 (C : CallF) (L : LoopF) (G : Glo) (k0 : Nat) (N0 : Nat) (o0 : Nat) (a3 : Int) (a13 : Int) (h : AHeap) :
    vm_VM_Enabled_F2 C L G (vm_VM_Enabled_s2 k0 N0 o0 a3 a13 h) =
    if (decide (a13 < 4)) = true then rdH h k0 N0 fun l_1 => if (o0 + 0) + 3 ≤ l_1.length then if 0 ≤ a13 ∧ a13 < ((4 : Nat) : Int) then rdH h k0 N0 fun l_2 => if ((o0 + 4) + ((Int.toNat a13) * 5)) + 5 ≤ l_2.length then c2 (qh h (C 105 [(.agg ((l_1.drop (o0 + 0)).take 3)), (.c (.int .i64 a13)), (.agg ((l_2.drop ((o0 + 4) + ((Int.toNat a13) * 5))).take 5))] h)) fun y_4 y_5 h_3 => asA y_4 fun l_6 => asB y_5 fun b_7 => if 0 = 0 ∧ (List.replicate 9 (Cell.int .i64 0)).length = 9 ∧ l_6.length = 9 then atK l_6 0 fun q_8 => asI .i64 (.c q_8) fun n_9 => scK (n_9 == 3) false (atK l_6 0 fun q_10 => asI .i64 (.c q_10) fun n_11 => some ((n_11 == 4), h)) true h fun b_12 h_13 => (scK b_7 true (scK (!b_12) false (if 0 ≤ a13 ∧ a13 < ((4 : Nat) : Int) then rdH h_13 k0 N0 fun l_14 => if ((o0 + 32) + ((Int.toNat a13) * 74)) + 74 ≤ l_14.length then c1 (C 191 [(.agg ((l_14.drop ((o0 + 32) + ((Int.toNat a13) * 74))).take 74))] h_13) fun y_16 h_15 => asB y_16 fun b_17 => some (b_17, h_15) else none else none) true h_13 fun b_18 h_19 => some (b_18, h_19)) false h_13 fun b_20 h_21 => if b_20 = true then c1 (C 18 [(.c (.int .u64 a3)), (.c (.int .i64 a13))] h_21) fun y_23 h_22 => asI .u64 y_23 fun n_24 => some (.normal, (vm_VM_Enabled_c1 k0 N0 o0 n_24 a13 a13 h_22)) else some (.normal, (vm_VM_Enabled_c1 k0 N0 o0 a3 a13 a13 h_21)) : Option (Ex × St)).bind fun p_58 => (vm_VM_Enabled_k6 C L G) p_58.1 p_58.2 else none else none else none else none else some ((.exit 0), (vm_VM_Enabled_x2_1 a3 h)) := by kernel_rfl
theorem vm_VM_Enabled_e2_1 (C : CallF) (L : LoopF) (G : Glo) (h0 : AHeap) (a3 : Int) (h : AHeap) :
    (vm_VM_Enabled_k3 C L G h0) (.exit 0) (vm_VM_Enabled_x2_1 a3 h) =
    some ([(.c (.int .u64 a3))], h) := by kernel_rfl
set_option maxRecDepth 100000 in
theorem vm_VM_Enabled_eq (C : CallF) (L : LoopF) (G : Glo) (k0 : Nat) (N0 : Nat) (o0 : Nat) (h0 : AHeap) :
    vm_VM_Enabled.body C L G [(.c (.ptr k0 N0 o0))] h0 =
    (L (vm_VM_Enabled_F2 C L G) (vm_VM_Enabled_s2 k0 N0 o0 0 0 h0)).bind fun p_59 => (vm_VM_Enabled_k3 C L G h0) p_59.1 p_59.2 := by kernel_rfl

/- (*jacquard/vm.VM).Pick: 173 -/
set_option maxRecDepth 100000 in
theorem vm_VM_Pick_eq (C : CallF) (L : LoopF) (G : Glo) (k0 : Nat) (N0 : Nat) (o0 : Nat) (a1 : Int) (h0 : AHeap) :
    vm_VM_Pick.body C L G [(.c (.ptr k0 N0 o0)), (.c (.int .i64 a1))] h0 =
    c1 (C 172 [(.c (.ptr k0 N0 o0))] h0) fun y_2 h_1 => asI .u64 y_2 fun n_3 => c1 (C 17 [(.c (.int .u64 n_3)), (.c (.int .i64 a1))] h_1) fun y_5 h_4 => asB y_5 fun b_6 => if (!b_6) = true then if 0 = 0 ∧ (List.replicate 7 (Cell.int .i64 0)).length = 7 ∧ (List.replicate 7 (Cell.int .i64 0)).length = 7 then if 0 = 0 ∧ (List.replicate 7 (Cell.int .i64 0)).length = 7 then some ([(.agg (List.replicate 7 (Cell.int .i64 0))), (.c (.bool false))], h_4) else none else none else if (decide (a1 < 4)) = true then c1 (C 193 [(.c (.ptr k0 N0 o0)), (.c (.int .i64 a1))] h_4) fun y_8 h_7 => asA y_8 fun l_9 => if 0 = 0 ∧ (List.replicate 7 (Cell.int .i64 0)).length = 7 ∧ l_9.length = 7 then if 0 < l_9.length then rdH h_7 k0 N0 fun l_10 => atK l_10 (o0 + 328) fun q_11 => if 0 = 0 ∧ (l_9.set 0 (.int .i64 a1)).length = 7 then if (l_9.set 0 (.int .i64 a1)).length = 7 ∧ 0 + 7 ≤ (List.replicate 7 (Cell.int .i64 0)).length then if (splice (List.replicate 7 (Cell.int .i64 0)) 0 (l_9.set 0 (.int .i64 a1))).length = 1 * 7 then appK 7 56 q_11 (splice (List.replicate 7 (Cell.int .i64 0)) 0 (l_9.set 0 (.int .i64 a1))) h_7 fun x_12 h_13 => rdH h_13 k0 N0 fun l_14 => if (o0 + 328) < l_14.length then putH h_13 k0 (l_14.set (o0 + 328) x_12) fun h_15 => if 0 = 0 ∧ (l_9.set 0 (.int .i64 a1)).length = 7 then if 0 = 0 ∧ (List.replicate 7 (Cell.int .i64 0)).length = 7 ∧ (l_9.set 0 (.int .i64 a1)).length = 7 then if 0 = 0 ∧ (l_9.set 0 (.int .i64 a1)).length = 7 then some ([(.agg (l_9.set 0 (.int .i64 a1))), (.c (.bool true))], h_15) else none else none else none else none else none else none else none else none else none else if (decide (a1 < 8)) = true then c1 (C 194 [(.c (.ptr k0 N0 o0)), (.c (.int .i64 (G.wrap .i64 (a1 - 4)))), (.c (.int .i64 0))] h_4) fun y_17 h_16 => asA y_17 fun l_18 => if 0 = 0 ∧ (List.replicate 7 (Cell.int .i64 0)).length = 7 ∧ l_18.length = 7 then if 0 < l_18.length then rdH h_16 k0 N0 fun l_19 => atK l_19 (o0 + 328) fun q_20 => if 0 = 0 ∧ (l_18.set 0 (.int .i64 a1)).length = 7 then if (l_18.set 0 (.int .i64 a1)).length = 7 ∧ 0 + 7 ≤ (List.replicate 7 (Cell.int .i64 0)).length then if (splice (List.replicate 7 (Cell.int .i64 0)) 0 (l_18.set 0 (.int .i64 a1))).length = 1 * 7 then appK 7 56 q_20 (splice (List.replicate 7 (Cell.int .i64 0)) 0 (l_18.set 0 (.int .i64 a1))) h_16 fun x_21 h_22 => rdH h_22 k0 N0 fun l_23 => if (o0 + 328) < l_23.length then putH h_22 k0 (l_23.set (o0 + 328) x_21) fun h_24 => if 0 = 0 ∧ (l_18.set 0 (.int .i64 a1)).length = 7 then if 0 = 0 ∧ (List.replicate 7 (Cell.int .i64 0)).length = 7 ∧ (l_18.set 0 (.int .i64 a1)).length = 7 then if 0 = 0 ∧ (l_18.set 0 (.int .i64 a1)).length = 7 then some ([(.agg (l_18.set 0 (.int .i64 a1))), (.c (.bool true))], h_24) else none else none else none else none else none else none else none else none else none else c1 (C 194 [(.c (.ptr k0 N0 o0)), (.c (.int .i64 (G.quo .i64 (G.wrap .i64 (a1 - 8)) 4))), (.c (.int .i64 (G.rem .i64 (G.wrap .i64 (a1 - 8)) 4)))] h_4) fun y_26 h_25 => asA y_26 fun l_27 => if 0 = 0 ∧ (List.replicate 7 (Cell.int .i64 0)).length = 7 ∧ l_27.length = 7 then if 0 < l_27.length then rdH h_25 k0 N0 fun l_28 => atK l_28 (o0 + 328) fun q_29 => if 0 = 0 ∧ (l_27.set 0 (.int .i64 a1)).length = 7 then if (l_27.set 0 (.int .i64 a1)).length = 7 ∧ 0 + 7 ≤ (List.replicate 7 (Cell.int .i64 0)).length then if (splice (List.replicate 7 (Cell.int .i64 0)) 0 (l_27.set 0 (.int .i64 a1))).length = 1 * 7 then appK 7 56 q_29 (splice (List.replicate 7 (Cell.int .i64 0)) 0 (l_27.set 0 (.int .i64 a1))) h_25 fun x_30 h_31 => rdH h_31 k0 N0 fun l_32 => if (o0 + 328) < l_32.length then putH h_31 k0 (l_32.set (o0 + 328) x_30) fun h_33 => if 0 = 0 ∧ (l_27.set 0 (.int .i64 a1)).length = 7 then if 0 = 0 ∧ (List.replicate 7 (Cell.int .i64 0)).length = 7 ∧ (l_27.set 0 (.int .i64 a1)).length = 7 then if 0 = 0 ∧ (l_27.set 0 (.int .i64 a1)).length = 7 then some ([(.agg (l_27.set 0 (.int .i64 a1))), (.c (.bool true))], h_33) else none else none else none else none else none else none else none else none else none := by kernel_rfl

/- (*jacquard/vm.VM).Done: 174 -/
set_option maxRecDepth 100000 in
theorem vm_VM_Done_eq (C : CallF) (L : LoopF) (G : Glo) (k0 : Nat) (N0 : Nat) (o0 : Nat) (h0 : AHeap) :
    vm_VM_Done.body C L G [(.c (.ptr k0 N0 o0))] h0 =
    c1 (C 172 [(.c (.ptr k0 N0 o0))] h0) fun y_2 h_1 => asI .u64 y_2 fun n_3 => some ([(.c (.bool (n_3 == 0)))], h_1) := by kernel_rfl

/- (*jacquard/vm.VM).Steps: 175 -/
set_option maxRecDepth 100000 in
theorem vm_VM_Steps_eq (C : CallF) (L : LoopF) (G : Glo) (k0 : Nat) (N0 : Nat) (o0 : Nat) (h0 : AHeap) :
    vm_VM_Steps.body C L G [(.c (.ptr k0 N0 o0))] h0 =
    rdH h0 k0 N0 fun l_1 => atK l_1 (o0 + 328) fun q_2 => c1 (C 195 [(.c q_2)] h0) fun y_4 h_3 => asC y_4 fun x_5 => some ([(.c x_5)], h_3) := by kernel_rfl

/- jacquard/vm.copied: 189 -/
def vm_copied_k2 (C : CallF) (L : LoopF) (G : Glo) (h0 : AHeap) : Ex → St → Option (List AV × AHeap) :=
  kSeq (fun st => vm_copied_p1.exec C L G st (vm_copied.fin G h0)) (vm_copied.fin G h0)
def vm_copied_k3 (C : CallF) (L : LoopF) (G : Glo) (h0 : AHeap) : Ex → St → Option (List AV × AHeap) :=
  kBlk 0 (vm_copied_k2 C L G h0)
def vm_copied_s1 (x14 : Cell) (a15 : Int) (a16 : Int) (s1 : List Cell) (s2 : List Cell) (h : AHeap) : St := ⟨[.top, .top, .loc 1 0, .loc 2 0, .top, .top, .top, .top, .top, .top, .top, .top, .top, .top, .v (.c x14), .v (.c (.int .i64 a15)), .v (.c (.int .i64 a16)), .top, .top, .top, .top, .top, .top, .top, .top, .top, .top, .top, .top], [none, some s1, some s2], h⟩
def vm_copied_F1 (C : CallF) (L : LoopF) (G : Glo) : St → Option (Ex × St) :=
  roundF (fun st f => vm_copied_b1.exec C L G st f) [2, 3, 14, 15, 16] [1, 2] [(1, [2, 3], [1, 2])]
def vm_copied_x1_1 (s1 : List Cell) (s2 : List Cell) (h : AHeap) : St := ⟨[.top, .top, .loc 1 0, .loc 2 0, .top, .top, .top, .top, .top, .top, .top, .top, .top, .top, .top, .top, .top, .top, .top, .top, .top, .top, .top, .top, .top, .top, .top, .top, .top], [none, some s1, some s2], h⟩
theorem vm_copied_r1 (C : CallF) (L : LoopF) (G : Glo) (x14 : Cell) (a15 : Int) (a16 : Int) (s1 : List Cell) (s2 : List Cell) (h : AHeap) :
    vm_copied_F1 C L G (vm_copied_s1 x14 a15 a16 s1 s2 h) =
    if (decide (a16 < a15)) = true then idxSK 1 x14 a16 fun k_11 N_12 o_13 => rdH h k_11 N_12 fun l_14 => atK l_14 o_13 fun q_15 => atK s2 2 fun q_16 => c1 (C 119 [(.c q_15)] h) fun y_18 h_17 => asC y_18 fun x_19 => if (splice [Cell.nils] 0 ([x_19] : List Cell)).length = 1 * 1 then appK 1 24 q_16 (splice [Cell.nils] 0 ([x_19] : List Cell)) h_17 fun x_20 h_21 => if 2 < s2.length then some (.normal, (vm_copied_s1 x14 a15 (G.wrap .i64 (a16 + 1)) s1 (s2.set 2 x_20) h_21)) else none else none else some ((.exit 0), (vm_copied_x1_1 s1 s2 h)) := by kernel_rfl
theorem vm_copied_e1_1 (C : CallF) (L : LoopF) (G : Glo) (h0 : AHeap) (s1 : List Cell) (s2 : List Cell) (h : AHeap) :
    (vm_copied_k3 C L G h0) (.exit 0) (vm_copied_x1_1 s1 s2 h) =
    if 0 = 0 ∧ s2.length = 3 then if 0 = 0 ∧ s1.length = 3 ∧ s2.length = 3 then if 0 = 0 ∧ s2.length = 3 then some ([(.agg s2)], h) else none else none else none := by kernel_rfl
set_option maxRecDepth 100000 in
theorem vm_copied_eq (C : CallF) (L : LoopF) (G : Glo) (l0 : List Cell) (h0 : AHeap) :
    vm_copied.body C L G [(.agg l0)] h0 =
    atK l0 0 fun q_1 => c1 (C 202 [(.c q_1)] h0) fun y_3 h_2 => asC y_3 fun x_4 => atK l0 1 fun q_5 => c1 (C 203 [(.c q_5)] h_2) fun y_7 h_6 => asC y_7 fun x_8 => if 0 = 0 ∧ [Cell.nils, Cell.nils, Cell.nils].length = 3 ∧ (splice (splice [Cell.nils, Cell.nils, Cell.nils] 0 ([x_4] : List Cell)) 1 ([x_8] : List Cell)).length = 3 then atK l0 2 fun q_9 => lenK q_9 fun n_10 => (L (vm_copied_F1 C L G) (vm_copied_s1 q_9 n_10 0 [Cell.nils, Cell.nils, Cell.nils] (splice (splice [Cell.nils, Cell.nils, Cell.nils] 0 ([x_4] : List Cell)) 1 ([x_8] : List Cell)) h_6)).bind fun p_22 => (vm_copied_k3 C L G h0) p_22.1 p_22.2 else none := by kernel_rfl

/- (*jacquard/vm.VM).thread: 193 -/
def vm_VM_thread_k2 (C : CallF) (L : LoopF) (G : Glo) (h0 : AHeap) : Ex → St → Option (List AV × AHeap) :=
  kSeq (fun st => vm_VM_thread_p1.exec C L G st (vm_VM_thread.fin G h0)) (vm_VM_thread.fin G h0)
def vm_VM_thread_c1 (k0 : Nat) (N0 : Nat) (o0 : Nat) (a1 : Int) (a8 : Int) (a9 : Int) (s0 : List Cell) (s1 : List Cell) (s2 : List Cell) (h : AHeap) : St := ⟨[.v (.c (.ptr k0 N0 o0)), .v (.c (.int .i64 a1)), .top, .top, .loc 0 0, .loc 1 0, .loc 2 0, .top, .v (.c (.int .i64 a8)), .v (.c (.int .i64 a9)), .top, .top, .top, .top, .top, .top, .top, .top, .top, .top, .top, .top, .top, .top, .top, .top, .top, .top, .top, .top, .top, .top, .top, .top, .top, .top, .top, .top, .top, .top, .top, .top, .top, .top, .top, .top, .top, .top, .top, .top, .top, .top, .top, .top, .top, .top, .top, .top, .top, .top, .top, .top, .top, .top, .top, .top, .top, .top, .top, .top, .top, .top, .top, .top, .top, .top, .top, .top, .top, .top, .top, .top, .top, .top, .top, .top, .top, .top, .top, .top, .top, .top, .top, .top, .top, .top, .top, .top, .top, .top, .top, .top, .top, .top, .top, .top, .top, .top, .top, .top, .top, .top, .top, .top, .top, .top, .top, .top, .top, .top, .top, .top, .top, .top, .top, .top, .top, .top, .top, .top, .top, .top, .top, .top, .top, .top, .top, .top, .top, .top, .top, .top, .top, .top, .top, .top], [some s0, some s1, some s2, none], h⟩
def vm_VM_thread_k3 (C : CallF) (L : LoopF) (G : Glo) (h0 : AHeap) : Ex → St → Option (List AV × AHeap) :=
  kSeq (fun st => vm_VM_thread_p2.exec C L G st (vm_VM_thread.fin G h0)) (vm_VM_thread.fin G h0)
def vm_VM_thread_c2 (k0 : Nat) (N0 : Nat) (o0 : Nat) (a1 : Int) (a8 : Int) (a9 : Int) (s0 : List Cell) (s1 : List Cell) (s3 : List Cell) (h : AHeap) : St := ⟨[.v (.c (.ptr k0 N0 o0)), .v (.c (.int .i64 a1)), .top, .top, .loc 0 0, .loc 1 0, .top, .top, .v (.c (.int .i64 a8)), .v (.c (.int .i64 a9)), .top, .top, .top, .loc 3 0, .top, .top, .top, .top, .top, .top, .top, .top, .top, .top, .top, .top, .top, .top, .top, .top, .top, .top, .top, .top, .top, .top, .top, .top, .top, .top, .top, .top, .top, .top, .top, .top, .top, .top, .top, .top, .top, .top, .top, .top, .top, .top, .top, .top, .top, .top, .top, .top, .top, .top, .top, .top, .top, .top, .top, .top, .top, .top, .top, .top, .top, .top, .top, .top, .top, .top, .top, .top, .top, .top, .top, .top, .top, .top, .top, .top, .top, .top, .top, .top, .top, .top, .top, .top, .top, .top, .top, .top, .top, .top, .top, .top, .top, .top, .top, .top, .top, .top, .top, .top, .top, .top, .top, .top, .top, .top, .top, .top, .top, .top, .top, .top, .top, .top, .top, .top, .top, .top, .top, .top, .top, .top, .top, .top, .top, .top, .top, .top, .top, .top, .top, .top], [some s0, some s1, none, some s3], h⟩
theorem vm_VM_thread_ec2_n (C : CallF) (L : LoopF) (G : Glo) (h0 : AHeap) (k0 : Nat) (N0 : Nat) (o0 : Nat) (a1 : Int) (a8 : Int) (a9 : Int) (s0 : List Cell) (s1 : List Cell) (s3 : List Cell) (h : AHeap) :
    (vm_VM_thread_k3 C L G h0) .normal (vm_VM_thread_c2 k0 N0 o0 a1 a8 a9 s0 s1 s3 h) =
    rdH h k0 N0 fun l_33 => atK l_33 (o0 + 328) fun q_34 => lenK q_34 fun n_35 => atK s3 2 fun q_36 => asI .i64 (.c q_36) fun n_37 => scK (n_37 == 2) true (rdH h k0 N0 fun l_38 => atK l_38 (o0 + 3) fun q_39 => asI .i64 (.c q_39) fun n_40 => some ((n_40 != 1), h)) false h fun b_41 h_42 => if b_41 = true then if 0 ≤ a1 ∧ a1 < ((4 : Nat) : Int) then rdH h_42 k0 N0 fun l_43 => if ((o0 + 32) + ((Int.toNat a1) * 74)) + 74 ≤ l_43.length then atK s3 3 fun q_44 => asI .i64 (.c q_44) fun n_45 => atK s3 5 fun q_46 => asI .i64 (.c q_46) fun n_47 => c1 (qh h_42 (C 206 [(.agg ((l_43.drop ((o0 + 32) + ((Int.toNat a1) * 74))).take 74)), (.c (.int .i64 n_45)), (.c (.int .i64 n_47)), (.c (.int .i64 n_35))] h_42)) fun y_49 h_48 => asA y_49 fun l_50 => if 0 ≤ a1 ∧ a1 < ((4 : Nat) : Int) then rdH h_42 k0 N0 fun l_51 => if ((o0 + 32) + ((Int.toNat a1) * 74)) + 74 ≤ l_51.length ∧ l_50.length = 74 then putH h_42 k0 (splice l_51 ((o0 + 32) + ((Int.toNat a1) * 74)) l_50) fun h_52 => rdH h_52 k0 N0 fun l_53 => if (o0 + 0) + 3 ≤ l_53.length then if 0 = 0 ∧ s1.length = 5 then c1 (qh h_52 (C 106 [(.agg ((l_53.drop (o0 + 0)).take 3)), (.c (.int .i64 a1)), (.agg s1), (.c (.int .i64 a8))] h_52)) fun y_55 h_54 => asA y_55 fun l_56 => if 0 ≤ a1 ∧ a1 < ((4 : Nat) : Int) then rdH h_52 k0 N0 fun l_57 => if ((o0 + 4) + ((Int.toNat a1) * 5)) + 5 ≤ l_57.length ∧ l_56.length = 5 then putH h_52 k0 (splice l_57 ((o0 + 4) + ((Int.toNat a1) * 5)) l_56) fun h_58 => atK s3 2 fun q_59 => asI .i64 (.c q_59) fun n_60 => atK s3 3 fun q_61 => asI .i64 (.c q_61) fun n_62 => atK s3 4 fun q_63 => asI .i64 (.c q_63) fun n_64 => atK s3 5 fun q_65 => asI .i64 (.c q_65) fun n_66 => if 0 = 0 ∧ s0.length = 7 ∧ (splice (splice (splice (splice (splice (splice (List.replicate 7 (Cell.int .i64 0)) 1 ([(.int .i64 a1)] : List Cell)) 2 ([(.int .i64 n_60)] : List Cell)) 3 ([(.int .i64 n_62)] : List Cell)) 4 ([(.int .i64 n_64)] : List Cell)) 5 ([(.int .i64 n_66)] : List Cell)) 6 ([(.int .i64 a9)] : List Cell)).length = 7 then if 0 = 0 ∧ (splice (splice (splice (splice (splice (splice (List.replicate 7 (Cell.int .i64 0)) 1 ([(.int .i64 a1)] : List Cell)) 2 ([(.int .i64 n_60)] : List Cell)) 3 ([(.int .i64 n_62)] : List Cell)) 4 ([(.int .i64 n_64)] : List Cell)) 5 ([(.int .i64 n_66)] : List Cell)) 6 ([(.int .i64 a9)] : List Cell)).length = 7 then some ([(.agg (splice (splice (splice (splice (splice (splice (List.replicate 7 (Cell.int .i64 0)) 1 ([(.int .i64 a1)] : List Cell)) 2 ([(.int .i64 n_60)] : List Cell)) 3 ([(.int .i64 n_62)] : List Cell)) 4 ([(.int .i64 n_64)] : List Cell)) 5 ([(.int .i64 n_66)] : List Cell)) 6 ([(.int .i64 a9)] : List Cell)))], h_58) else none else none else none else none else none else none else none else none else none else none else if 0 = 0 ∧ s3.length = 6 then c1 (C 80 [(.agg s3)] h_42) fun y_68 h_67 => asB y_68 fun b_69 => if b_69 = true then atK s3 3 fun q_70 => asI .i64 (.c q_70) fun n_71 => atK s3 3 fun q_72 => asI .i64 (.c q_72) fun n_73 => atK s3 5 fun q_74 => asI .i64 (.c q_74) fun n_75 => if 0 ≤ n_71 ∧ n_71 < ((4 : Nat) : Int) then rdH h_67 k0 N0 fun l_76 => if ((o0 + 24) + ((Int.toNat n_71) * 1)) < l_76.length then putH h_67 k0 (l_76.set ((o0 + 24) + ((Int.toNat n_71) * 1)) (.int .i64 n_75)) fun h_77 => if 0 ≤ n_73 ∧ n_73 < ((4 : Nat) : Int) then rdH h_77 k0 N0 fun l_78 => if ((o0 + 28) + ((Int.toNat n_73) * 1)) < l_78.length then putH h_77 k0 (l_78.set ((o0 + 28) + ((Int.toNat n_73) * 1)) (.int .i64 n_35)) fun h_79 => rdH h_79 k0 N0 fun l_80 => if (o0 + 0) + 3 ≤ l_80.length then if 0 = 0 ∧ s1.length = 5 then c1 (qh h_79 (C 106 [(.agg ((l_80.drop (o0 + 0)).take 3)), (.c (.int .i64 a1)), (.agg s1), (.c (.int .i64 a8))] h_79)) fun y_82 h_81 => asA y_82 fun l_83 => if 0 ≤ a1 ∧ a1 < ((4 : Nat) : Int) then rdH h_79 k0 N0 fun l_84 => if ((o0 + 4) + ((Int.toNat a1) * 5)) + 5 ≤ l_84.length ∧ l_83.length = 5 then putH h_79 k0 (splice l_84 ((o0 + 4) + ((Int.toNat a1) * 5)) l_83) fun h_85 => atK s3 2 fun q_86 => asI .i64 (.c q_86) fun n_87 => atK s3 3 fun q_88 => asI .i64 (.c q_88) fun n_89 => atK s3 4 fun q_90 => asI .i64 (.c q_90) fun n_91 => atK s3 5 fun q_92 => asI .i64 (.c q_92) fun n_93 => if 0 = 0 ∧ s0.length = 7 ∧ (splice (splice (splice (splice (splice (splice (List.replicate 7 (Cell.int .i64 0)) 1 ([(.int .i64 a1)] : List Cell)) 2 ([(.int .i64 n_87)] : List Cell)) 3 ([(.int .i64 n_89)] : List Cell)) 4 ([(.int .i64 n_91)] : List Cell)) 5 ([(.int .i64 n_93)] : List Cell)) 6 ([(.int .i64 a9)] : List Cell)).length = 7 then if 0 = 0 ∧ (splice (splice (splice (splice (splice (splice (List.replicate 7 (Cell.int .i64 0)) 1 ([(.int .i64 a1)] : List Cell)) 2 ([(.int .i64 n_87)] : List Cell)) 3 ([(.int .i64 n_89)] : List Cell)) 4 ([(.int .i64 n_91)] : List Cell)) 5 ([(.int .i64 n_93)] : List Cell)) 6 ([(.int .i64 a9)] : List Cell)).length = 7 then some ([(.agg (splice (splice (splice (splice (splice (splice (List.replicate 7 (Cell.int .i64 0)) 1 ([(.int .i64 a1)] : List Cell)) 2 ([(.int .i64 n_87)] : List Cell)) 3 ([(.int .i64 n_89)] : List Cell)) 4 ([(.int .i64 n_91)] : List Cell)) 5 ([(.int .i64 n_93)] : List Cell)) 6 ([(.int .i64 a9)] : List Cell)))], h_85) else none else none else none else none else none else none else none else none else none else none else rdH h_67 k0 N0 fun l_94 => if (o0 + 0) + 3 ≤ l_94.length then if 0 = 0 ∧ s1.length = 5 then c1 (qh h_67 (C 106 [(.agg ((l_94.drop (o0 + 0)).take 3)), (.c (.int .i64 a1)), (.agg s1), (.c (.int .i64 a8))] h_67)) fun y_96 h_95 => asA y_96 fun l_97 => if 0 ≤ a1 ∧ a1 < ((4 : Nat) : Int) then rdH h_67 k0 N0 fun l_98 => if ((o0 + 4) + ((Int.toNat a1) * 5)) + 5 ≤ l_98.length ∧ l_97.length = 5 then putH h_67 k0 (splice l_98 ((o0 + 4) + ((Int.toNat a1) * 5)) l_97) fun h_99 => atK s3 2 fun q_100 => asI .i64 (.c q_100) fun n_101 => atK s3 3 fun q_102 => asI .i64 (.c q_102) fun n_103 => atK s3 4 fun q_104 => asI .i64 (.c q_104) fun n_105 => atK s3 5 fun q_106 => asI .i64 (.c q_106) fun n_107 => if 0 = 0 ∧ s0.length = 7 ∧ (splice (splice (splice (splice (splice (splice (List.replicate 7 (Cell.int .i64 0)) 1 ([(.int .i64 a1)] : List Cell)) 2 ([(.int .i64 n_101)] : List Cell)) 3 ([(.int .i64 n_103)] : List Cell)) 4 ([(.int .i64 n_105)] : List Cell)) 5 ([(.int .i64 n_107)] : List Cell)) 6 ([(.int .i64 a9)] : List Cell)).length = 7 then if 0 = 0 ∧ (splice (splice (splice (splice (splice (splice (List.replicate 7 (Cell.int .i64 0)) 1 ([(.int .i64 a1)] : List Cell)) 2 ([(.int .i64 n_101)] : List Cell)) 3 ([(.int .i64 n_103)] : List Cell)) 4 ([(.int .i64 n_105)] : List Cell)) 5 ([(.int .i64 n_107)] : List Cell)) 6 ([(.int .i64 a9)] : List Cell)).length = 7 then some ([(.agg (splice (splice (splice (splice (splice (splice (List.replicate 7 (Cell.int .i64 0)) 1 ([(.int .i64 a1)] : List Cell)) 2 ([(.int .i64 n_101)] : List Cell)) 3 ([(.int .i64 n_103)] : List Cell)) 4 ([(.int .i64 n_105)] : List Cell)) 5 ([(.int .i64 n_107)] : List Cell)) 6 ([(.int .i64 a9)] : List Cell)))], h_99) else none else none else none else none else none else none else none := by kernel_rfl
theorem vm_VM_thread_ec1_n (C : CallF) (L : LoopF) (G : Glo) (h0 : AHeap) (k0 : Nat) (N0 : Nat) (o0 : Nat) (a1 : Int) (a8 : Int) (a9 : Int) (s0 : List Cell) (s1 : List Cell) (s2 : List Cell) (h : AHeap) :
    (vm_VM_thread_k2 C L G h0) .normal (vm_VM_thread_c1 k0 N0 o0 a1 a8 a9 s0 s1 s2 h) =
    if 0 = 0 ∧ s2.length = 9 then if 0 = 0 ∧ s1.length = 5 then c2 (C 109 [(.agg s2), (.agg s1), (.c (.int .i64 a8))] h) fun y_29 y_30 h_28 => asA y_29 fun l_31 => asB y_30 fun b_32 => if 0 = 0 ∧ [Cell.int .i64 0, Cell.int .i64 0, Cell.int .i64 0, Cell.int .i64 0, Cell.int .i64 0, Cell.int .i64 0].length = 6 ∧ l_31.length = 6 then (if (!b_32) = true then some (.normal, (vm_VM_thread_c2 k0 N0 o0 a1 a8 (-1) s0 s1 l_31 h_28)) else some (.normal, (vm_VM_thread_c2 k0 N0 o0 a1 a8 a9 s0 s1 l_31 h_28)) : Option (Ex × St)).bind fun p_108 => (vm_VM_thread_k3 C L G h0) p_108.1 p_108.2 else none else none else none := by kernel_rfl
set_option maxRecDepth 100000 in
theorem vm_VM_thread_eq (C : CallF) (L : LoopF) (G : Glo) (k0 : Nat) (N0 : Nat) (o0 : Nat) (a1 : Int) (h0 : AHeap) :
    vm_VM_thread.body C L G [(.c (.ptr k0 N0 o0)), (.c (.int .i64 a1))] h0 =
    if 0 ≤ a1 ∧ a1 < ((4 : Nat) : Int) then rdH h0 k0 N0 fun l_1 => if ((o0 + 4) + ((Int.toNat a1) * 5)) + 5 ≤ l_1.length then if 0 = 0 ∧ [Cell.int .i64 0, Cell.int .i64 0, Cell.int .i64 0, Cell.int .i64 0, Cell.int .i64 0].length = 5 ∧ ((l_1.drop ((o0 + 4) + ((Int.toNat a1) * 5))).take 5).length = 5 then rdH h0 k0 N0 fun l_2 => if (o0 + 0) + 3 ≤ l_2.length then if 0 = 0 ∧ ((l_1.drop ((o0 + 4) + ((Int.toNat a1) * 5))).take 5).length = 5 then c2 (qh h0 (C 105 [(.agg ((l_2.drop (o0 + 0)).take 3)), (.c (.int .i64 a1)), (.agg ((l_1.drop ((o0 + 4) + ((Int.toNat a1) * 5))).take 5))] h0)) fun y_4 y_5 h_3 => asA y_4 fun l_6 => asB y_5 fun b_7 => if 0 = 0 ∧ (List.replicate 9 (Cell.int .i64 0)).length = 9 ∧ l_6.length = 9 then atK l_6 2 fun q_8 => asI .i64 (.c q_8) fun n_9 => if 0 ≤ n_9 ∧ n_9 < ((4 : Nat) : Int) then rdH h0 k0 N0 fun l_10 => atK l_10 ((o0 + 24) + ((Int.toNat n_9) * 1)) fun q_11 => asI .i64 (.c q_11) fun n_12 => atK l_6 2 fun q_13 => asI .i64 (.c q_13) fun n_14 => if 0 ≤ n_14 ∧ n_14 < ((4 : Nat) : Int) then rdH h0 k0 N0 fun l_15 => atK l_15 ((o0 + 28) + ((Int.toNat n_14) * 1)) fun q_16 => asI .i64 (.c q_16) fun n_17 => (if 0 ≤ a1 ∧ a1 < ((4 : Nat) : Int) then rdH h0 k0 N0 fun l_18 => if ((o0 + 32) + ((Int.toNat a1) * 74)) + 74 ≤ l_18.length then atK l_6 2 fun q_19 => asI .i64 (.c q_19) fun n_20 => c3 (qh h0 (C 205 [(.agg ((l_18.drop ((o0 + 32) + ((Int.toNat a1) * 74))).take 74)), (.c (.int .i64 n_20))] h0)) fun y_22 y_23 y_24 h_21 => asI .i64 y_22 fun n_25 => asI .i64 y_23 fun n_26 => asB y_24 fun b_27 => if b_27 = true then some (.normal, (vm_VM_thread_c1 k0 N0 o0 a1 n_25 n_26 (List.replicate 7 (Cell.int .i64 0)) ((l_1.drop ((o0 + 4) + ((Int.toNat a1) * 5))).take 5) l_6 h0)) else some (.normal, (vm_VM_thread_c1 k0 N0 o0 a1 n_12 n_17 (List.replicate 7 (Cell.int .i64 0)) ((l_1.drop ((o0 + 4) + ((Int.toNat a1) * 5))).take 5) l_6 h0)) else none else none : Option (Ex × St)).bind fun p_109 => (vm_VM_thread_k2 C L G h0) p_109.1 p_109.2 else none else none else none else none else none else none else none else none := by kernel_rfl

/- (*jacquard/vm.VM).flush: 194 -/
set_option maxRecDepth 100000 in
theorem vm_VM_flush_eq (C : CallF) (L : LoopF) (G : Glo) (k0 : Nat) (N0 : Nat) (o0 : Nat) (a1 : Int) (a2 : Int) (h0 : AHeap) :
    vm_VM_flush.body C L G [(.c (.ptr k0 N0 o0)), (.c (.int .i64 a1)), (.c (.int .i64 a2))] h0 =
    if 0 ≤ a1 ∧ a1 < ((4 : Nat) : Int) then rdH h0 k0 N0 fun l_1 => if ((o0 + 32) + ((Int.toNat a1) * 74)) + 74 ≤ l_1.length then c4 (C 192 [(.agg ((l_1.drop ((o0 + 32) + ((Int.toNat a1) * 74))).take 74)), (.c (.int .i64 a2))] h0) fun y_3 y_4 y_5 y_6 h_2 => asI .i64 y_3 fun n_7 => asI .i64 y_4 fun n_8 => asI .i64 y_5 fun n_9 => asB y_6 fun b_10 => if 0 ≤ a1 ∧ a1 < ((4 : Nat) : Int) then rdH h_2 k0 N0 fun l_11 => if ((o0 + 32) + ((Int.toNat a1) * 74)) + 74 ≤ l_11.length then c1 (qh h_2 (C 207 [(.agg ((l_11.drop ((o0 + 32) + ((Int.toNat a1) * 74))).take 74)), (.c (.int .i64 a2))] h_2)) fun y_13 h_12 => asA y_13 fun l_14 => if 0 ≤ a1 ∧ a1 < ((4 : Nat) : Int) then rdH h_2 k0 N0 fun l_15 => if ((o0 + 32) + ((Int.toNat a1) * 74)) + 74 ≤ l_15.length ∧ l_14.length = 74 then putH h_2 k0 (splice l_15 ((o0 + 32) + ((Int.toNat a1) * 74)) l_14) fun h_16 => if 0 ≤ n_7 ∧ n_7 < ((4 : Nat) : Int) then rdH h_16 k0 N0 fun l_17 => if ((o0 + 24) + ((Int.toNat n_7) * 1)) < l_17.length then putH h_16 k0 (l_17.set ((o0 + 24) + ((Int.toNat n_7) * 1)) (.int .i64 n_8)) fun h_18 => if 0 ≤ n_7 ∧ n_7 < ((4 : Nat) : Int) then rdH h_18 k0 N0 fun l_19 => if ((o0 + 28) + ((Int.toNat n_7) * 1)) < l_19.length then putH h_18 k0 (l_19.set ((o0 + 28) + ((Int.toNat n_7) * 1)) (.int .i64 n_9)) fun h_20 => if 0 = 0 ∧ (List.replicate 7 (Cell.int .i64 0)).length = 7 ∧ (splice (splice (splice (splice (splice (List.replicate 7 (Cell.int .i64 0)) 1 ([(.int .i64 a1)] : List Cell)) 2 ([(.int .i64 6)] : List Cell)) 3 ([(.int .i64 n_7)] : List Cell)) 5 ([(.int .i64 n_8)] : List Cell)) 6 ([(.int .i64 n_9)] : List Cell)).length = 7 then if 0 = 0 ∧ (splice (splice (splice (splice (splice (List.replicate 7 (Cell.int .i64 0)) 1 ([(.int .i64 a1)] : List Cell)) 2 ([(.int .i64 6)] : List Cell)) 3 ([(.int .i64 n_7)] : List Cell)) 5 ([(.int .i64 n_8)] : List Cell)) 6 ([(.int .i64 n_9)] : List Cell)).length = 7 then some ([(.agg (splice (splice (splice (splice (splice (List.replicate 7 (Cell.int .i64 0)) 1 ([(.int .i64 a1)] : List Cell)) 2 ([(.int .i64 6)] : List Cell)) 3 ([(.int .i64 n_7)] : List Cell)) 5 ([(.int .i64 n_8)] : List Cell)) 6 ([(.int .i64 n_9)] : List Cell)))], h_20) else none else none else none else none else none else none else none else none else none else none else none else none := by kernel_rfl


end Jq

/- A program in memory of its own. -/
namespace Jq
open Go

/-- A program whose rows are all of their own blocks. -/
def ProgO (n : Nat) (h : AHeap) (cs : List Cell) (P : PProg) : Prop :=
  ∃ x y th, cs = [x, y, th] ∧ Own n h x 1 (intC .u8 P.locs) P.locs.length ∧ Own n h y 1 (intC .i64 P.init) P.init.length ∧ RowsOwn 9 codeC n h th P.thr

theorem ProgO.at {n : Nat} {h : AHeap} {cs : List Cell} {P : PProg} (p : ProgO n h cs P) : ProgAt h cs P := by
  obtain ⟨x, y, th, rfl, o1, o2, rr⟩ := p
  obtain ⟨us, u1, u2, u3⟩ := rr.of
  exact ⟨x, y, th, us, rfl, ⟨o1.at, o1.low⟩, ⟨o2.at, o2.low⟩, ⟨u1, u2⟩, u3⟩

section
variable {E : Env}

theorem copied_S (hE : vm_copied_In E) {cs : List Cell} {P : PProg} {h : AHeap} (p : ProgAt h cs P) (hsm : P.small) (hll : P.locs.length ≤ 1000) (hil : P.init.length ≤ 1000) :
    ∃ cs' h', R E 189 [.agg cs] h = some ([.agg cs'], h') ∧ ProgO h.length h' cs' P ∧ Kp h.length h h' := by
  have p0 := p
  obtain ⟨a, b, c, ts, rfl, ⟨ha, hal⟩, ⟨hb, hbl⟩, ⟨hc, hcl⟩, hts⟩ := p
  obtain ⟨x, h1, r1, o1, k1⟩ := slices_Clone_sbyte_byte_R hE.c202 ha hal hll
  obtain ⟨y, h2, r2, o2, k2⟩ := slices_Clone_sint64_int64_R hE.c203 (hb.keep hbl k1) (Low_mono k1.1 hbl) hil
  have k12 : Kp h.length h h2 := k1.trans (k2.mono k1.1)
  have n2 := hsm.1
  obtain ⟨st, ⟨th, h3, rfl, rr, k3⟩, hL⟩ := Lim_inv (F := vm_copied_F1 (R E) Lim E.glob) (fun t st => ∃ th h', st = vm_copied_s1 c P.thr.length (t : Int) [.nils, .nils, .nils] [x, y, th] h' ∧ RowsOwn 9 codeC h2.length h' th (P.thr.take t) ∧ Kp h2.length h2 h') 0 P.thr.length (by omega)
    (fun t st _ ht => by
      rintro ⟨th, h', rfl, rr, kk⟩
      have hq : P.thr[t]? = some P.thr[t] := List.getElem?_eq_getElem ht
      generalize P.thr[t] = code at hq
      have hcl2 := hsm.2 code (List.mem_of_getElem? hq)
      obtain ⟨z, z1, z2, z3⟩ := hts t code hq
      have kh : Kp h.length h h' := k12.trans (kk.mono k12.1)
      obtain ⟨x', h'', c1', c2', c3'⟩ := Clone_R hE.c119 (z2.keep z3 kh) (Low_mono kh.1 z3) hcl2
      obtain ⟨th2, h4, ap, r4, k4, _⟩ := (rr.keep c3').push (c2'.monoN kk.1) (fun k q1 q2 => by have := (c2'.blkLt q1).2; have := (rr.blkLt q2).1; omega) (Nat.le_trans kk.1 c3'.1) (by rw [List.length_take]; omega)
      refine ⟨vm_copied_s1 c P.thr.length ((t + 1 : Nat) : Int) [.nils, .nils, .nils] [x, y, th2] h4, ?_, th2, h4, rfl, by rw [takeI_succ hq]; exact r4, kk.trans ((c3'.mono kk.1).trans k4)⟩
      rw [vm_copied_r1, if_pos (by simp; omega), (hc.keep hcl kh).get1 ht z1, show ∀ {α : Type} (f : Cell → Option α), atK [x, y, th] 2 f = f th from fun _ => rfl, c1', c1_ok, asC_ok, if_pos (show (splice [Cell.nils] 0 ([x'] : List Cell)).length = 1 * 1 from rfl), show splice [Cell.nils] 0 ([x'] : List Cell) = [x'] from rfl, ap, if_pos (by simp), g_succ (by omega)]
      rfl) (st := vm_copied_s1 c P.thr.length ((0 : Nat) : Int) [.nils, .nils, .nils] [x, y, .nils] h2) ⟨.nils, h2, rfl, by rw [List.take_zero]; exact RowsOwn.nil _, Kp.refl _ _⟩
  have e1 : vm_copied_F1 (R E) Lim E.glob (vm_copied_s1 c P.thr.length (P.thr.length : Int) [.nils, .nils, .nils] [x, y, th] h3) = some (.exit 0, vm_copied_x1_1 [.nils, .nils, .nils] [x, y, th] h3) := by
    rw [vm_copied_r1, if_neg (by simp)]
  have hr := hL _ (Lim_exit e1)
  rw [show ((0 : Nat) : Int) = 0 from rfl] at hr
  rw [List.take_of_length_le (Nat.le_refl _)] at rr
  have kx := k2.trans (k3.mono k2.1)
  refine ⟨[x, y, th], h3, R_intro hE.fn ?_, ⟨x, y, th, rfl, o1.keepK kx, (o2.keepK k3).monoN k1.1, by
    obtain ⟨ts, w1, w2⟩ := rr
    exact ⟨ts, w1.monoN k12.1, fun t r hr => by
      obtain ⟨z, z1, z2, z3⟩ := w2 t r hr
      exact ⟨z, z1, z2.monoN k12.1, z3⟩⟩⟩, k12.trans (k3.mono k12.1)⟩
  rw [vm_copied_eq, show ∀ {α : Type} (f : Cell → Option α), atK [a, b, c] 0 f = f a from fun _ => rfl, r1, c1_ok, asC_ok, show ∀ {α : Type} (f : Cell → Option α), atK [a, b, c] 1 f = f b from fun _ => rfl, r2, c1_ok, asC_ok, if_pos (by exact ⟨rfl, rfl, rfl⟩), show ∀ {α : Type} (f : Cell → Option α), atK [a, b, c] 2 f = f c from fun _ => rfl, hc.len]
  refine Eq.trans (congrArg (fun z => Option.bind z _) hr) ?_
  rw [bind_ok]
  dsimp only
  rw [vm_copied_e1_1, if_pos ⟨rfl, rfl⟩, if_pos ⟨rfl, rfl, rfl⟩, if_pos ⟨rfl, rfl⟩]

end
end Jq

/- Machines: how one lies in memory. -/
namespace Jq
open Go

/-- A machine. -/
structure MV where
  P : PProg
  m : Int
  lc : List Lcl
  mem : List Int
  frm : List Int
  bf : List (List Ent)
  st : List Stp

def bmod (m : Int) : Int := if m = 2 ∨ m = 3 then m else 0

def vmC (pc : List Cell) (V : MV) (x : Cell) : List Cell :=
  pc ++ (([.int .i64 V.m] : List Cell) ++ (V.lc.flatMap Lcl.cs ++ (intC .i64 V.mem ++ (intC .i64 V.frm ++ (V.bf.flatMap (bufC (bmod V.m)) ++ [x])))))

/-- It has the shape of one. -/
structure MV.Fit (V : MV) : Prop where
  m : 1 ≤ V.m ∧ V.m ≤ 3
  lc : V.lc.length = 4
  mem : V.mem.length = 4
  frm : V.frm.length = 4
  bf : V.bf.length = 4
  b : ∀ l ∈ V.bf, l.length ≤ 24

section seg
variable {α : Type}

theorem seg_get {a s b : List α} {n m : Nat} (hn : a.length = n) (hm : s.length = m) : ((a ++ (s ++ b)).drop n).take m = s := by
  subst hn hm
  rw [List.drop_append_of_le_length (Nat.le_refl _), List.drop_length, List.nil_append, List.take_append_of_le_length (Nat.le_refl _), List.take_length]

theorem seg_set {a s b s' : List Cell} {n : Nat} (hn : a.length = n) (hm : s.length = s'.length) : splice (a ++ (s ++ b)) n s' = a ++ (s' ++ b) := by
  subst hn
  unfold splice
  rw [List.take_append_of_le_length (Nat.le_refl _), List.take_length, ← hm, ← List.append_assoc a s b, List.drop_append, List.drop_of_length_le (by rw [List.length_append]; exact Nat.le_refl _), List.nil_append,
    show a.length + s.length - (a ++ s).length = 0 by rw [List.length_append]; omega, List.drop_zero, List.append_assoc]

theorem flat_len {f : α → List Cell} {n : Nat} : ∀ {l : List α}, (∀ x ∈ l, (f x).length = n) → (l.flatMap f).length = l.length * n
  | [], _ => by simp
  | x :: l, h => by
    rw [List.flatMap_cons, List.length_append, h x List.mem_cons_self, flat_len fun y hy => h y (List.mem_cons_of_mem _ hy), List.length_cons, Nat.succ_mul]; omega

theorem flat_split {f : α → List Cell} {l : List α} {i : Nat} {x : α} (h : l[i]? = some x) : l.flatMap f = (l.take i).flatMap f ++ (f x ++ (l.drop (i + 1)).flatMap f) := by
  have hi := getI_lt h
  have he : l = l.take i ++ x :: l.drop (i + 1) := by
    rw [List.getElem?_eq_getElem hi] at h
    cases h
    rw [List.getElem_cons_drop, List.take_append_drop]
  conv => lhs; rw [he]
  rw [List.flatMap_append, List.flatMap_cons]

theorem flat_set {f : α → List Cell} {l : List α} {i : Nat} (hi : i < l.length) (y : α) : (l.set i y).flatMap f = (l.take i).flatMap f ++ (f y ++ (l.drop (i + 1)).flatMap f) := by
  have := flat_split (f := f) (l := l.set i y) (i := i) (x := y) (by rw [List.getElem?_set_self hi])
  rw [this, List.take_set_of_le (Nat.le_refl _), List.drop_set_of_lt (by omega)]

theorem take_flat_len {f : α → List Cell} {n : Nat} {l : List α} (hl : ∀ x ∈ l, (f x).length = n) {i : Nat} (hi : i ≤ l.length) : ((l.take i).flatMap f).length = i * n := by
  rw [flat_len fun x hx => hl x (List.mem_of_mem_take hx), List.length_take, Nat.min_eq_left hi]
end seg

theorem MV.Fit.lcs {V : MV} {pc : List Cell} (_ : V.Fit) (_ : pc.length = 3) : ∀ l ∈ V.lc, (Lcl.cs l).length = 5 := fun _ _ => rfl
theorem MV.Fit.bfs {V : MV} {pc : List Cell} (f : V.Fit) (_ : pc.length = 3) : ∀ l ∈ V.bf, (bufC (bmod V.m) l).length = 74 := fun l hl => bufC_len _ (f.b l hl)
theorem vm_prog {V : MV} {pc : List Cell} {x : Cell} (_ : V.Fit) (hpc : pc.length = 3) : ((vmC pc V x).drop (0 + 0)).take 3 = pc := by
  unfold vmC
  exact seg_get (a := []) rfl hpc
theorem vm_m {V : MV} {pc : List Cell} {x : Cell} (_ : V.Fit) (hpc : pc.length = 3) {α : Type} {g : Cell → Option α} : atK (vmC pc V x) (0 + 3) g = g (.int .i64 V.m) := by
  unfold vmC
  refine atK_ok ?_
  rw [List.getElem?_append_right (by omega), hpc]; rfl

section
variable {V : MV} {pc : List Cell} {x : Cell} (f : V.Fit) (hpc : pc.length = 3)
include f hpc

theorem vm_len : (vmC pc V x).length = 329 := by
  have h1 := flat_len (f.lcs hpc)
  have h2 := flat_len (f.bfs hpc)
  have := f.lc; have := f.mem; have := f.frm; have := f.bf
  unfold vmC
  simp only [List.length_append, intC_len, List.length_cons, List.length_nil]
  omega

theorem vm_lensL {t : Nat} {l : Lcl} (h : V.lc[t]? = some l) : ∃ A B : List Cell, vmC pc V x = A ++ (l.cs ++ B) ∧ A.length = (0 + 4) + t * 5 ∧ ∀ l' : Lcl, vmC pc { V with lc := V.lc.set t l' } x = A ++ (l'.cs ++ B) := by
  have hi := getI_lt h
  have e := take_flat_len (f.lcs hpc) (Nat.le_of_lt hi)
  refine ⟨pc ++ (([.int .i64 V.m] : List Cell) ++ (V.lc.take t).flatMap Lcl.cs), (V.lc.drop (t + 1)).flatMap Lcl.cs ++ (intC .i64 V.mem ++ (intC .i64 V.frm ++ (V.bf.flatMap (bufC (bmod V.m)) ++ [x]))), ?_, ?_, fun l' => ?_⟩
  · unfold vmC; rw [flat_split h]; simp only [List.append_assoc]
  · simp only [List.length_append, e, hpc, List.length_cons, List.length_nil]; omega
  · unfold vmC; dsimp only; rw [flat_set hi]; simp only [List.append_assoc]

theorem vm_lensB {t : Nat} {l : List Ent} (h : V.bf[t]? = some l) : ∃ A B : List Cell, vmC pc V x = A ++ (bufC (bmod V.m) l ++ B) ∧ A.length = (0 + 32) + t * 74 ∧ ∀ l' : List Ent, vmC pc { V with bf := V.bf.set t l' } x = A ++ (bufC (bmod V.m) l' ++ B) := by
  have hi := getI_lt h
  have e := take_flat_len (f.bfs hpc) (Nat.le_of_lt hi)
  have e2 := flat_len (f.lcs hpc)
  have := f.lc; have := f.mem; have := f.frm
  refine ⟨pc ++ (([.int .i64 V.m] : List Cell) ++ (V.lc.flatMap Lcl.cs ++ (intC .i64 V.mem ++ (intC .i64 V.frm ++ (V.bf.take t).flatMap (bufC (bmod V.m)))))), (V.bf.drop (t + 1)).flatMap (bufC (bmod V.m)) ++ [x], ?_, ?_, fun l' => ?_⟩
  · unfold vmC; rw [flat_split h]; simp only [List.append_assoc]
  · simp only [List.length_append, e, e2, hpc, List.length_cons, List.length_nil, intC_len]; omega
  · unfold vmC; dsimp only; rw [flat_set hi]; simp only [List.append_assoc]

theorem vm_lensM : ∃ A B : List Cell, vmC pc V x = A ++ (intC .i64 V.mem ++ B) ∧ A.length = 0 + 24 ∧ ∀ l' : List Int, vmC pc { V with mem := l' } x = A ++ (intC .i64 l' ++ B) := by
  have e2 := flat_len (f.lcs hpc)
  have := f.lc
  refine ⟨pc ++ (([.int .i64 V.m] : List Cell) ++ V.lc.flatMap Lcl.cs), intC .i64 V.frm ++ (V.bf.flatMap (bufC (bmod V.m)) ++ [x]), ?_, ?_, fun l' => ?_⟩
  · unfold vmC; simp only [List.append_assoc]
  · simp only [List.length_append, e2, hpc, List.length_cons, List.length_nil]; omega
  · unfold vmC; simp only [List.append_assoc]

theorem vm_lensF : ∃ A B : List Cell, vmC pc V x = A ++ (intC .i64 V.frm ++ B) ∧ A.length = 0 + 28 ∧ ∀ l' : List Int, vmC pc { V with frm := l' } x = A ++ (intC .i64 l' ++ B) := by
  have e2 := flat_len (f.lcs hpc)
  have := f.lc; have := f.mem
  refine ⟨pc ++ (([.int .i64 V.m] : List Cell) ++ (V.lc.flatMap Lcl.cs ++ intC .i64 V.mem)), V.bf.flatMap (bufC (bmod V.m)) ++ [x], ?_, ?_, fun l' => ?_⟩
  · unfold vmC; simp only [List.append_assoc]
  · simp only [List.length_append, e2, hpc, List.length_cons, List.length_nil, intC_len]; omega
  · unfold vmC; simp only [List.append_assoc]

theorem vm_lensX : ∃ A : List Cell, (∀ y, vmC pc V y = A ++ [y]) ∧ A.length = 328 := by
  have h1 := flat_len (f.lcs hpc)
  have h2 := flat_len (f.bfs hpc)
  have := f.lc; have := f.mem; have := f.frm; have := f.bf
  refine ⟨pc ++ (([.int .i64 V.m] : List Cell) ++ (V.lc.flatMap Lcl.cs ++ (intC .i64 V.mem ++ (intC .i64 V.frm ++ V.bf.flatMap (bufC (bmod V.m)))))), fun y => ?_, ?_⟩
  · unfold vmC; simp only [List.append_assoc]
  · simp only [List.length_append, h1, h2, hpc, List.length_cons, List.length_nil, intC_len]; omega

theorem vm_lcl {t : Nat} {l : Lcl} (h : V.lc[t]? = some l) : ((vmC pc V x).drop ((0 + 4) + t * 5)).take 5 = l.cs := by
  obtain ⟨A, B, e, hA, _⟩ := vm_lensL (x := x) f hpc h
  rw [e]; exact seg_get hA rfl

theorem vm_setL {t : Nat} (ht : t < 4) (l : Lcl) : splice (vmC pc V x) ((0 + 4) + t * 5) l.cs = vmC pc { V with lc := V.lc.set t l } x := by
  obtain ⟨A, B, e, hA, h2⟩ := vm_lensL (x := x) f hpc (List.getElem?_eq_getElem (show t < V.lc.length by rw [f.lc]; exact ht))
  rw [e, h2]; exact seg_set hA rfl

theorem vm_buf {t : Nat} {l : List Ent} (h : V.bf[t]? = some l) : ((vmC pc V x).drop ((0 + 32) + t * 74)).take 74 = bufC (bmod V.m) l := by
  obtain ⟨A, B, e, hA, _⟩ := vm_lensB (x := x) f hpc h
  rw [e]; exact seg_get hA (bufC_len _ (f.b _ (List.mem_of_getElem? h)))

theorem vm_setB {t : Nat} (ht : t < 4) {l : List Ent} (hl : l.length ≤ 24) : splice (vmC pc V x) ((0 + 32) + t * 74) (bufC (bmod V.m) l) = vmC pc { V with bf := V.bf.set t l } x := by
  have hq := List.getElem?_eq_getElem (show t < V.bf.length by rw [f.bf]; exact ht)
  obtain ⟨A, B, e, hA, h2⟩ := vm_lensB (x := x) f hpc hq
  rw [e, h2]; exact seg_set hA (by rw [bufC_len _ (f.b _ (List.mem_of_getElem? hq)), bufC_len _ hl])

theorem vm_mem {α : Type} {i : Nat} {v : Int} (h : V.mem[i]? = some v) {g : Cell → Option α} : atK (vmC pc V x) ((0 + 24) + i * 1) g = g (.int .i64 v) := by
  obtain ⟨A, B, e, hA, _⟩ := vm_lensM (x := x) f hpc
  have hi := getI_lt h
  refine atK_ok ?_
  rw [e, List.getElem?_append_right (by omega), List.getElem?_append_left (by rw [intC_len]; omega), show 0 + 24 + i * 1 - A.length = i by omega]
  exact intC_get h

theorem vm_frm {α : Type} {i : Nat} {v : Int} (h : V.frm[i]? = some v) {g : Cell → Option α} : atK (vmC pc V x) ((0 + 28) + i * 1) g = g (.int .i64 v) := by
  obtain ⟨A, B, e, hA, _⟩ := vm_lensF (x := x) f hpc
  have hi := getI_lt h
  refine atK_ok ?_
  rw [e, List.getElem?_append_right (by omega), List.getElem?_append_left (by rw [intC_len]; omega), show 0 + 28 + i * 1 - A.length = i by omega]
  exact intC_get h

theorem vm_setM {i : Nat} (hi : i < 4) (v : Int) : (vmC pc V x).set ((0 + 24) + i * 1) (.int .i64 v) = vmC pc { V with mem := V.mem.set i v } x := by
  obtain ⟨A, B, e, hA, h2⟩ := vm_lensM (x := x) f hpc
  have := f.mem
  rw [e, h2, List.set_append_right _ _ (by omega), List.set_append_left _ _ (by rw [intC_len]; omega), show 0 + 24 + i * 1 - A.length = i by omega]
  unfold intC
  rw [List.map_set]

theorem vm_setF {i : Nat} (hi : i < 4) (v : Int) : (vmC pc V x).set ((0 + 28) + i * 1) (.int .i64 v) = vmC pc { V with frm := V.frm.set i v } x := by
  obtain ⟨A, B, e, hA, h2⟩ := vm_lensF (x := x) f hpc
  have := f.frm
  rw [e, h2, List.set_append_right _ _ (by omega), List.set_append_left _ _ (by rw [intC_len]; omega), show 0 + 28 + i * 1 - A.length = i by omega]
  unfold intC
  rw [List.map_set]

theorem vm_steps {α : Type} {g : Cell → Option α} : atK (vmC pc V x) (0 + 328) g = g x := by
  obtain ⟨A, e, hA⟩ := vm_lensX f hpc
  refine atK_ok ?_
  rw [e, List.getElem?_append_right (by omega), hA]; rfl

theorem vm_setX (y : Cell) : (vmC pc V x).set (0 + 328) y = vmC pc V y := by
  obtain ⟨A, e, hA⟩ := vm_lensX f hpc
  rw [e, e, List.set_append_right _ _ (by omega), hA]; rfl
end

/- What may be picked. -/
def MV.l (V : MV) (t : Nat) : Lcl := V.lc.getD t Lcl.zero
def MV.b (V : MV) (t : Nat) : List Ent := V.bf.getD t []
def MV.nxt (V : MV) (t : Nat) : Option Ins := nextI (V.P.code t) (V.l t)
def MV.mayT (V : MV) (t : Nat) : Bool := match V.nxt t with
  | none => false
  | some i => !(i.kind == 3 || i.kind == 4) || (V.b t).length == 0
def MV.mayF (V : MV) (t : Nat) : Bool := V.m == 2 && !((V.b t).length == 0)
def MV.mayL (V : MV) (t loc : Nat) : Bool := V.m == 3 && ((V.b t).find? (oldP 3 (loc : Int))).isSome
def MV.may (V : MV) (i : Nat) : Bool :=
  if i < 4 then V.mayT i else if i < 8 then V.mayF (i - 4) else if i < 24 then V.mayL ((i - 8) / 4) ((i - 8) % 4) else false

/-- A word of what is so. -/
def wordOf (p : Nat → Bool) : Nat → Nat
  | 0 => 0
  | n + 1 => if p n = true then wordOf p n ||| 2 ^ n else wordOf p n

theorem wordOf_bit (p : Nat → Bool) : ∀ n i, (wordOf p n).testBit i = (decide (i < n) && p i)
  | 0, i => by simp [wordOf]
  | n + 1, i => by
    have ih := wordOf_bit p n i
    rw [wordOf]
    split
    · rename_i hp
      rw [Nat.testBit_or, ih, Nat.testBit_two_pow]
      by_cases h : n = i
      · subst h; simp [hp]
      · rw [decide_eq_false h, Bool.or_false]; congr 1; simp; omega
    · rename_i hp
      rw [ih]
      by_cases h : n = i
      · subst h; simp [hp]
      · congr 1; simp; omega

theorem wordOf_lt (p : Nat → Bool) {n : Nat} (hn : n ≤ 64) : wordOf p n < 2 ^ 64 := by
  refine Nat.lt_pow_two_of_testBit _ fun i hi => ?_
  rw [wordOf_bit, decide_eq_false (by omega)]; rfl

def MV.word (V : MV) : Nat := wordOf V.may 24

theorem MV.may_out {V : MV} {i : Nat} (h : 24 ≤ i) : V.may i = false := by
  unfold MV.may
  rw [if_neg (by omega), if_neg (by omega), if_neg (by omega)]

theorem MV.word_bit (V : MV) (i : Nat) : V.word.testBit i = V.may i := by
  unfold MV.word
  rw [wordOf_bit]
  by_cases h : i < 24
  · rw [decide_eq_true h, Bool.true_and]
  · rw [MV.may_out (by omega), Bool.and_false]

theorem MV.l_at {V : MV} {t : Nat} (h : t < V.lc.length) : V.lc[t]? = some (V.l t) := by
  unfold MV.l; rw [List.getD_eq_getElem?_getD, List.getElem?_eq_getElem h]; rfl
theorem MV.b_at {V : MV} {t : Nat} (h : t < V.bf.length) : V.bf[t]? = some (V.b t) := by
  unfold MV.b; rw [List.getD_eq_getElem?_getD, List.getElem?_eq_getElem h]; rfl
end Jq

/- Machines: what may be picked. -/
namespace Jq
open Go

/-- Which picks have been looked at. -/
def Dn (a b c i : Nat) : Bool := if i < 4 then decide (i < a) else if i < 8 then decide (i - 4 < b) else decide (i - 8 < c)

theorem Dn_t {a b c : Nat} (ha : a < 4) (i : Nat) : Dn (a + 1) b c i = (Dn a b c i || decide (i = a)) := by
  unfold Dn
  rw [Bool.eq_iff_iff]
  split
  · simp; omega
  · split <;> simp <;> omega
theorem Dn_f {a b c : Nat} (hb : b < 4) (i : Nat) : Dn a (b + 1) c i = (Dn a b c i || decide (i = 4 + b)) := by
  unfold Dn
  rw [Bool.eq_iff_iff]
  split
  · simp; omega
  · split <;> simp <;> omega
theorem Dn_l {a b c : Nat} (i : Nat) : Dn a b (c + 1) i = (Dn a b c i || decide (i = 8 + c)) := by
  unfold Dn
  rw [Bool.eq_iff_iff]
  split
  · simp; omega
  · split <;> simp <;> omega

theorem bits_add {M D D' : Nat → Bool} {s p : Nat} (hp : p < 64) (hs : s < 2 ^ 64) (hb : ∀ i, s.testBit i = (M i && D i)) (hD : ∀ i, D' i = (D i || decide (i = p))) :
    (if M p = true then s ||| bitI (p : Int) else s) < 2 ^ 64 ∧ ∀ i, (if M p = true then s ||| bitI (p : Int) else s).testBit i = (M i && D' i) := by
  have e : bitI (p : Int) = 2 ^ p := by unfold bitI; rw [if_pos ⟨by omega, by omega⟩, Int.toNat_natCast]
  have hlt := bitI_lt (p : Int)
  rw [e] at hlt ⊢
  refine ⟨?_, fun i => ?_⟩
  · split
    · exact or_lt hs hlt
    · exact hs
  · rw [hD]
    split
    · rename_i hm
      rw [Nat.testBit_or, hb, Nat.testBit_two_pow]
      by_cases h : p = i
      · subst h; simp [hm]
      · rw [decide_eq_false h, decide_eq_false (fun q => h q.symm)]; simp
    · rename_i hm
      rw [hb]
      by_cases h : p = i
      · subst h; simp [hm]
      · rw [decide_eq_false (fun q => h q.symm)]; simp

section
variable {E : Env}

theorem Enabled_R (hE : vm_VM_Enabled_In E) {h : AHeap} {k : Nat} {x : Cell} {pc : List Cell} {V : MV} (hb : blk? h k = some ⟨true, 0, vmC pc V x⟩) (f : V.Fit) (p : ProgAt h pc V.P) :
    R E 172 [.c (.ptr k 329 0)] h = some ([.c (.int .u64 (V.word : Int))], h) := by
  refine R_intro hE.fn ?_
  have hpc := p.len
  have hl := vm_len (x := x) f hpc
  have rd : ∀ {α : Type} {F : List Cell → Option α}, rdH h k 329 F = F (vmC pc V x) := fun {α F} => rdH_ok hb hl
  have inner : ∀ (t : Nat) (s : Nat), t < 4 → s < 2 ^ 64 → (∀ i, s.testBit i = (V.may i && Dn (t + 1) (t + 1) (4 * t) i)) →
      ∃ s' : Nat, Lim (vm_VM_Enabled_F1 (R E) Lim E.glob) (vm_VM_Enabled_s1 k 329 0 (s : Int) (t : Int) (t : Int) 0 h) = some (.exit 2, vm_VM_Enabled_x1_3 k 329 0 (s' : Int) (t : Int) h) ∧ s' < 2 ^ 64 ∧ ∀ i, s'.testBit i = (V.may i && Dn (t + 1) (t + 1) (4 * (t + 1)) i) := by
    intro t s ht hs hbit
    obtain ⟨st, ⟨s', rfl, hs', hbit'⟩, hL⟩ := Lim_inv (F := vm_VM_Enabled_F1 (R E) Lim E.glob) (fun j st => ∃ s' : Nat, st = vm_VM_Enabled_s1 k 329 0 (s' : Int) (t : Int) (t : Int) (j : Int) h ∧ s' < 2 ^ 64 ∧ ∀ i, s'.testBit i = (V.may i && Dn (t + 1) (t + 1) (4 * t + j) i)) 0 4 (by omega)
      (fun j st _ hj => by
        rintro ⟨s', rfl, hs', hbit'⟩
        obtain ⟨n1, n2⟩ := bits_add (p := 8 + (4 * t + j)) (by omega) hs' hbit' (fun i => Dn_l i)
        have hm : V.may (8 + (4 * t + j)) = V.mayL t j := by
          unfold MV.may
          rw [if_neg (by omega), if_neg (by omega), if_pos (by omega), show (8 + (4 * t + j) - 8) / 4 = t by omega, show (8 + (4 * t + j) - 8) % 4 = j by omega]
        rw [hm] at n1 n2
        refine ⟨vm_VM_Enabled_s1 k 329 0 ((if V.mayL t j = true then s' ||| bitI ((8 + (4 * t + j) : Nat) : Int) else s' : Nat) : Int) (t : Int) (t : Int) ((j + 1 : Nat) : Int) h, ?_, _, rfl, n1, n2⟩
        have hq := MV.b_at (V := V) (t := t) (by rw [f.bf]; exact ht)
        have hbl := f.b _ (List.mem_of_getElem? hq)
        rw [vm_VM_Enabled_r1, if_pos (by simp; omega), if_pos ⟨by omega, by omega⟩, rd, Int.toNat_natCast, if_pos (by rw [hl]; omega), vm_buf f hpc hq, bufOldest_R hE.c192 hbl]
        have key : ∀ (n1 n2 n3 : Int) (b : Bool) (hb : V.m = 3 → b = ((V.b t).find? (oldP 3 (j : Int))).isSome),
            (c4 (some ([AV.c (.int .i64 n1), .c (.int .i64 n2), .c (.int .i64 n3), .c (.bool b)], h)) fun y_39 y_40 y_41 y_42 h_38 => asI .i64 y_39 fun n_43 => asI .i64 y_40 fun n_44 => asI .i64 y_41 fun n_45 => asB y_42 fun b_46 => rdH h_38 k 329 fun l_47 => atK l_47 (0 + 3) fun q_48 => asI .i64 (.c q_48) fun n_49 => scK (n_49 == 3) true (some (b_46, h_38)) false h_38 fun b_50 h_51 => if b_50 = true then let v_52 : Int := (E.glob.wrap .i64 (8 + (E.glob.wrap .i64 (4 * (t : Int))))); c1 (R E 18 [(.c (.int .u64 (s' : Int))), (.c (.int .i64 (E.glob.wrap .i64 (v_52 + (j : Int)))))] h_51) fun y_54 h_53 => asI .u64 y_54 fun n_55 => some (Ex.normal, (vm_VM_Enabled_s1 k 329 0 n_55 t t (E.glob.wrap .i64 ((j : Int) + 1)) h_53)) else some (.normal, (vm_VM_Enabled_s1 k 329 0 (s' : Int) t t (E.glob.wrap .i64 ((j : Int) + 1)) h_51))) =
            some (.normal, vm_VM_Enabled_s1 k 329 0 ((if V.mayL t j = true then s' ||| bitI ((8 + (4 * t + j) : Nat) : Int) else s' : Nat) : Int) (t : Int) (t : Int) ((j + 1 : Nat) : Int) h) := by
          intro n1 n2 n3 b hbb
          rw [c4_ok, asI_ok, asI_ok, asI_ok, asB_ok, rd, vm_m f hpc, asI_ok, scK_and, g_succ (by omega)]
          have e : V.mayL t j = ((V.m == 3) && b) := by
            unfold MV.mayL
            by_cases h3 : V.m = 3
            · rw [hbb h3]
            · rw [beq_false_of_ne h3]; rfl
          rw [e]
          cases hv : ((V.m == 3) && b) with
          | false => rfl
          | true =>
            simp only [if_true]
            rw [g_wrap_i64 (x := 4 * (t : Int)) (by omega) (by omega), g_wrap_i64 (x := 8 + 4 * (t : Int)) (by omega) (by omega), g_wrap_i64 (by omega) (by omega), show (8 + 4 * (t : Int) + (j : Int)) = ((8 + (4 * t + j) : Nat) : Int) by omega, With_R hE.c18 hs', c1_ok, asI_ok]
        have e3 : V.m = 3 → bmod V.m = 3 := fun h => by unfold bmod; rw [h]; rfl
        cases hf : (V.b t).find? (oldP (bmod V.m) (j : Int)) with
        | none => exact key _ _ _ _ fun h3 => by rw [e3 h3] at hf; rw [hf]; rfl
        | some e => exact key _ _ _ _ fun h3 => by rw [e3 h3] at hf; rw [hf]; rfl) (st := vm_VM_Enabled_s1 k 329 0 (s : Int) (t : Int) (t : Int) ((0 : Nat) : Int) h) ⟨s, rfl, hs, hbit⟩
    refine ⟨s', hL _ (Lim_exit ?_), hs', fun i => by rw [hbit', Nat.mul_succ]⟩
    rw [vm_VM_Enabled_r1, if_neg (by simp)]
  obtain ⟨st, ⟨s, rfl, hs, hbit⟩, hL⟩ := Lim_inv (F := vm_VM_Enabled_F2 (R E) Lim E.glob) (fun t st => ∃ s : Nat, st = vm_VM_Enabled_s2 k 329 0 (s : Int) (t : Int) h ∧ s < 2 ^ 64 ∧ ∀ i, s.testBit i = (V.may i && Dn t t (4 * t) i)) 0 4 (by omega)
    (fun t st _ ht => by
      rintro ⟨s, rfl, hs, hbit⟩
      have hq := MV.b_at (V := V) (t := t) (by rw [f.bf]; exact ht)
      have hbl := f.b _ (List.mem_of_getElem? hq)
      have hql := MV.l_at (V := V) (t := t) (by rw [f.lc]; exact ht)
      obtain ⟨a1, a2⟩ := bits_add (p := t) (by omega) hs hbit (fun i => Dn_t ht i)
      have hm1 : V.may t = V.mayT t := by unfold MV.may; rw [if_pos ht]
      rw [hm1] at a1 a2
      obtain ⟨b1, b2⟩ := bits_add (p := 4 + t) (by omega) a1 a2 (fun i => Dn_f ht i)
      have hm2 : V.may (4 + t) = V.mayF t := by unfold MV.may; rw [if_neg (by omega), if_pos (by omega), show 4 + t - 4 = t by omega]
      rw [hm2] at b1 b2
      generalize hs1 : (if V.mayT t = true then s ||| bitI (t : Int) else s) = s1 at *
      generalize hs2 : (if V.mayF t = true then s1 ||| bitI ((4 + t : Nat) : Int) else s1) = s2 at *
      obtain ⟨s3, l1, l2, l3⟩ := inner t s2 ht b1 b2
      refine ⟨vm_VM_Enabled_s2 k 329 0 (s3 : Int) ((t + 1 : Nat) : Int) h, ?_, s3, rfl, l2, l3⟩
      have hr : 0 ≤ (t : Int) ∧ (t : Int) < ((4 : Nat) : Int) := ⟨by omega, by omega⟩
      have h74 : (0 + 32) + t * 74 + 74 ≤ (vmC pc V x).length := by rw [hl]; omega
      have hemp : ∀ {β : Type} (g : Bool → AHeap → Option β), (c1 (R E 191 [(.agg (bufC (bmod V.m) (V.b t)))] h) fun y h' => asB y fun b => g b h') = g ((V.b t).length == 0) h := fun g => by
        rw [bufEmpty_R hE.c191, c1_ok, asB_ok]
      have hk : (vm_VM_Enabled_k6 (R E) Lim E.glob) .normal (vm_VM_Enabled_c1 k 329 0 (s1 : Int) (t : Int) (t : Int) h) = some (.normal, vm_VM_Enabled_s2 k 329 0 (s3 : Int) ((t + 1 : Nat) : Int) h) := by
        have fin : ∀ w : Nat, w = s2 → (Lim (vm_VM_Enabled_F1 (R E) Lim E.glob) (vm_VM_Enabled_s1 k 329 0 (w : Int) (t : Int) (t : Int) 0 h)).bind (fun p_56 => (vm_VM_Enabled_k7 (R E) Lim E.glob) p_56.1 p_56.2) = some (.normal, vm_VM_Enabled_s2 k 329 0 (s3 : Int) ((t + 1 : Nat) : Int) h) := by
          rintro w rfl
          rw [l1, bind_ok]
          dsimp only
          rw [vm_VM_Enabled_e1_3, g_succ (by omega)]
        rw [vm_VM_Enabled_ec1_n, rd, vm_m f hpc, asI_ok]
        simp only [rd, Int.toNat_natCast, if_pos hr, if_pos h74, vm_buf f hpc hq, bufEmpty_R hE.c191, c1_ok, asB_ok, scK_and]
        rw [show (V.m == 2 && !((V.b t).length == 0)) = V.mayF t from rfl]
        cases hv : V.mayF t with
        | false =>
          rw [hv] at hs2
          exact fin s1 hs2
        | true =>
          rw [hv, if_pos rfl] at hs2
          rw [if_pos rfl, g_wrap_i64 (by omega) (by omega), show (4 + (t : Int)) = ((4 + t : Nat) : Int) by omega, With_R hE.c18 a1, c1_ok, asI_ok]
          exact fin _ hs2
      rw [vm_VM_Enabled_r2, if_pos (by simp; omega), rd, if_pos (by rw [hl]; omega), if_pos hr, rd, Int.toNat_natCast, if_pos (by rw [hl]; omega), vm_prog f hpc, vm_lcl f hpc hql, PNext_R hE.c105 p, qh_ok, c2_ok, asA_ok, asB_ok, if_pos (by exact ⟨rfl, rfl, rfl⟩)]
      simp only [ins_kind, asI_ok, scK_or, rd, if_pos hr, if_pos h74, vm_buf f hpc hq, bufEmpty_R hE.c191, c1_ok, asB_ok]
      have step : ∀ b : Bool, b = V.mayT t → ((if b = true then c1 (R E 18 [(.c (.int .u64 (s : Int))), (.c (.int .i64 (t : Int)))] h) fun y_23 h_22 => asI .u64 y_23 fun n_24 => some (Ex.normal, (vm_VM_Enabled_c1 k 329 0 n_24 t t h_22)) else some (.normal, (vm_VM_Enabled_c1 k 329 0 (s : Int) t t h)) : Option (Ex × St)).bind fun p_58 => (vm_VM_Enabled_k6 (R E) Lim E.glob) p_58.1 p_58.2) = some (.normal, vm_VM_Enabled_s2 k 329 0 (s3 : Int) ((t + 1 : Nat) : Int) h) := by
        rintro b rfl
        cases hv : V.mayT t with
        | false =>
          rw [hv] at hs1
          rw [if_neg (by simp), bind_ok]
          rw [if_neg (by simp)] at hs1
          rw [hs1]; exact hk
        | true =>
          rw [hv, if_pos rfl] at hs1
          rw [if_pos rfl, With_R hE.c18 hs, c1_ok, asI_ok, bind_ok, hs1]
          exact hk
      have hT : V.mayT t = match nextI (V.P.code t) (V.l t) with | none => false | some i => !(i.kind == 3 || i.kind == 4) || (V.b t).length == 0 := rfl
      cases hn : nextI (V.P.code t) (V.l t) with
      | none =>
        rw [hn] at hT
        exact step false hT.symm
      | some i =>
        rw [hn] at hT
        dsimp only at hT
        simp only [Option.getD_some, Option.isSome_some]
        cases hkk : (i.kind == 3 || i.kind == 4) with
        | false => exact step true (by rw [hT, hkk]; rfl)
        | true => exact step _ (by rw [hT, hkk])) (st := vm_VM_Enabled_s2 k 329 0 ((0 : Nat) : Int) ((0 : Nat) : Int) h) ⟨0, rfl, by decide, fun i => by
        rw [show Dn 0 0 (4 * 0) i = false by unfold Dn; split <;> (try split) <;> simp, Bool.and_false]; simp⟩
  have hw : s = V.word := by
    refine Nat.eq_of_testBit_eq fun i => ?_
    rw [hbit, MV.word_bit]
    by_cases hi : i < 24
    · rw [show Dn 4 4 (4 * 4) i = true by unfold Dn; split; (· exact decide_eq_true (by omega)); split <;> exact decide_eq_true (by omega), Bool.and_true]
    · rw [MV.may_out (by omega)]; rfl
  subst hw
  have e1 : vm_VM_Enabled_F2 (R E) Lim E.glob (vm_VM_Enabled_s2 k 329 0 (V.word : Int) ((4 : Nat) : Int) h) = some (.exit 0, vm_VM_Enabled_x2_1 (V.word : Int) h) := by
    rw [vm_VM_Enabled_r2, if_neg (by simp)]
  have hr := hL _ (Lim_exit e1)
  rw [show (((0 : Nat) : Int)) = 0 from rfl] at hr
  rw [vm_VM_Enabled_eq, hr, bind_ok]
  dsimp only
  rw [vm_VM_Enabled_e2_1]
end
end Jq

/- Machines: what a thread does, what comes to memory. -/
namespace Jq
open Go

theorem prog_at {n : Nat} {h h' : AHeap} {pc : List Cell} {P : PProg} (p : ProgAt (h.take n) pc P) (hn : n ≤ h.length) (hk : Kp n h h') : ProgAt h' pc P := by
  have hl : (h.take n).length = n := by rw [List.length_take]; omega
  refine p.keep ⟨by rw [hl]; exact Nat.le_trans hn hk.1, fun k hk2 => ?_⟩
  rw [hl] at hk2
  rw [hk.2 k hk2, List.getElem?_take, if_pos hk2]

theorem putB {α : Type} {h : AHeap} {k : Nat} {l : List Cell} (hb : blk? h k = some ⟨true, 0, l⟩) {cs : List Cell} {F : AHeap → Option α} : putH h k cs F = F (setBlk h k (some ⟨true, 0, cs⟩)) := putH_ok hb rfl

/-- What a thread would read, and whose it is. -/
def MV.val (V : MV) (t : Nat) (i : Ins) : Int × Int := match newE i.loc (V.b t) with
  | some e => (e.val, e.id)
  | none => (V.mem.getD i.loc.toNat 0, V.frm.getD i.loc.toNat 0)

/-- What an event does to memory. -/
def MV.wr (V : MV) (t : Nat) (e : Evt) : MV :=
  if e.kind = 2 ∧ V.m ≠ 1 then { V with bf := V.bf.set t (V.b t ++ [⟨e.loc, e.w, V.st.length⟩]) }
  else if evWr e = true then { V with mem := V.mem.set e.loc.toNat e.w, frm := V.frm.set e.loc.toNat V.st.length }
  else V

/-- A thread's next instruction is done. -/
def MV.thrM (V : MV) (t : Nat) (i : Ins) : MV :=
  { V.wr t (evOf i (V.l t) (V.val t i).1) with lc := V.lc.set t (afterL (V.P.code t) (V.l t) (V.val t i).1) }
def MV.thrS (V : MV) (t : Nat) (i : Ins) : Stp :=
  ⟨0, t, (evOf i (V.l t) (V.val t i).1).kind, (evOf i (V.l t) (V.val t i).1).loc, (evOf i (V.l t) (V.val t i).1).r, (evOf i (V.l t) (V.val t i).1).w, if rdI i = true then (V.val t i).2 else -1⟩

theorem evt_kind {α : Type} {e : Evt} {f : Cell → Option α} : atK e.cs 2 f = f (.int .i64 e.kind) := rfl
theorem evt_loc {α : Type} {e : Evt} {f : Cell → Option α} : atK e.cs 3 f = f (.int .i64 e.loc) := rfl
theorem evt_r {α : Type} {e : Evt} {f : Cell → Option α} : atK e.cs 4 f = f (.int .i64 e.r) := rfl
theorem evt_w {α : Type} {e : Evt} {f : Cell → Option α} : atK e.cs 5 f = f (.int .i64 e.w) := rfl

theorem evOf_loc {i : Ins} {l : Lcl} {v : Int} (h : 0 ≤ i.loc ∧ i.loc < 4) : 0 ≤ (evOf i l v).loc ∧ (evOf i l v).loc < 4 := by
  unfold evOf
  split
  · exact h
  · split
    · exact h
    · split
      · split <;> exact h
      · exact ⟨by decide, by decide⟩

section
variable {E : Env}

set_option maxHeartbeats 1000000 in
theorem thread_R' (hE : vm_VM_thread_In E) {n k : Nat} {h : AHeap} {x : Cell} {pc : List Cell} {V : MV} (hb : blk? h k = some ⟨true, 0, vmC pc V x⟩) (f : V.Fit) (hp : ProgAt (h.take n) pc V.P) (hn : n ≤ h.length) (hnk : n ≤ k)
    (hP : V.P.fits) (hx : Own n h x 7 (stepsC V.st) V.st.length) {t : Nat} (ht : t < 4) {i : Ins} (hi : V.nxt t = some i) (hloc : 0 ≤ i.loc ∧ i.loc < 4) (hbl : (V.b t).length < 24) :
    R E 193 [.c (.ptr k 329 0), .c (.int .i64 (t : Int))] h = some ([.agg (V.thrS t i).cs], setBlk h k (some ⟨true, 0, vmC pc (V.thrM t i) x⟩)) := by
  refine R_intro hE.fn ?_
  have hpc := hp.len
  have hl := vm_len (x := x) f hpc
  have rd : ∀ {α : Type} {F : List Cell → Option α}, rdH h k 329 F = F (vmC pc V x) := fun {α F} => rdH_ok hb hl
  have p := prog_at hp hn (Kp.refl n h)
  have hr : 0 ≤ (t : Int) ∧ (t : Int) < ((4 : Nat) : Int) := ⟨by omega, by omega⟩
  have h74 : (0 + 32) + t * 74 + 74 ≤ (vmC pc V x).length := by rw [hl]; omega
  have hq := MV.b_at (V := V) (t := t) (by rw [f.bf]; exact ht)
  have hql := MV.l_at (V := V) (t := t) (by rw [f.lc]; exact ht)
  have hil : 0 ≤ i.loc ∧ i.loc < ((4 : Nat) : Int) := ⟨hloc.1, by omega⟩
  have hi4 : i.loc.toNat < 4 := by omega
  have hmem : V.mem[i.loc.toNat]? = some (V.mem.getD i.loc.toNat 0) := by
    rw [List.getD_eq_getElem?_getD, List.getElem?_eq_getElem (by rw [f.mem]; exact hi4)]; rfl
  have hfrm : V.frm[i.loc.toNat]? = some (V.frm.getD i.loc.toNat 0) := by
    rw [List.getD_eq_getElem?_getD, List.getElem?_eq_getElem (by rw [f.frm]; exact hi4)]; rfl
  have hk : k < h.length := blk_lt' hb
  have hlcs : (Lcl.cs (V.l t)).length = 5 := rfl
  -- what is left when the value is known
  have two : ∀ (v fr : Int), v = (V.val t i).1 → fr = (V.val t i).2 →
      (vm_VM_thread_k2 (R E) Lim E.glob h) .normal (vm_VM_thread_c1 k 329 0 (t : Int) v fr (List.replicate 7 (Cell.int .i64 0)) (V.l t).cs i.cs h) = some ([.agg (V.thrS t i).cs], setBlk h k (some ⟨true, 0, vmC pc (V.thrM t i) x⟩)) := by
    rintro v fr hv hfr
    have three : ∀ a9 : Int, a9 = (if rdI i = true then fr else -1) →
        (vm_VM_thread_k3 (R E) Lim E.glob h) .normal (vm_VM_thread_c2 k 329 0 (t : Int) v a9 (List.replicate 7 (Cell.int .i64 0)) (V.l t).cs (evOf i (V.l t) v).cs h) = some ([.agg (V.thrS t i).cs], setBlk h k (some ⟨true, 0, vmC pc (V.thrM t i) x⟩)) := by
      intro a9 h9
      have hev := evOf_loc (l := V.l t) (v := v) hloc
      have hS : V.thrS t i = ⟨0, t, (evOf i (V.l t) v).kind, (evOf i (V.l t) v).loc, (evOf i (V.l t) v).r, (evOf i (V.l t) v).w, a9⟩ := by unfold MV.thrS; rw [← hv, ← hfr, h9]
      have hM : V.thrM t i = { V.wr t (evOf i (V.l t) v) with lc := V.lc.set t (afterL (V.P.code t) (V.l t) v) } := by unfold MV.thrM; rw [← hv]
      rw [hS, hM]
      generalize evOf i (V.l t) v = e at hev
      have he : 0 ≤ e.loc ∧ e.loc < ((4 : Nat) : Int) := ⟨hev.1, by omega⟩
      have he4 : e.loc.toNat < 4 := by omega
      rw [vm_VM_thread_ec2_n, rd, vm_steps f hpc, hx.at.len, evt_kind, asI_ok]
      simp only [rd, vm_m f hpc, asI_ok, scK_and]
      unfold MV.wr
      by_cases h2 : e.kind = 2 ∧ V.m ≠ 1
      · have hm0 : bmod V.m ≠ 0 := by have := f.m; unfold bmod; rw [if_pos (by omega)]; omega
        rw [if_pos (by rw [Bool.and_eq_true]; exact ⟨beq_iff_eq.2 h2.1, bne_iff_ne.2 h2.2⟩), if_pos h2]
        have hbl2 : (V.b t ++ [(⟨e.loc, e.w, V.st.length⟩ : Ent)]).length ≤ 24 := by rw [List.length_append, List.length_singleton]; omega
        rw [if_pos hr, Int.toNat_natCast, if_pos h74, evt_loc, asI_ok, evt_w, asI_ok, vm_buf f hpc hq, bufPut_R hE.c206 hbl hm0 hev, qh_ok, c1_ok, asA_ok, if_pos hr, if_pos (by exact ⟨h74, bufC_len _ hbl2⟩), vm_setB f hpc ht hbl2, putB hb]
        have fW : MV.Fit { V with bf := V.bf.set t (V.b t ++ [⟨e.loc, e.w, V.st.length⟩]) } := ⟨f.m, f.lc, f.mem, f.frm, by rw [List.length_set]; exact f.bf, fun l hl => by
          rcases List.mem_or_eq_of_mem_set hl with hl | rfl
          · exact f.b l hl
          · exact hbl2⟩
        have hb2 : blk? (setBlk h k (some ⟨true, 0, vmC pc { V with bf := V.bf.set t (V.b t ++ [⟨e.loc, e.w, V.st.length⟩]) } x⟩)) k = some ⟨true, 0, vmC pc { V with bf := V.bf.set t (V.b t ++ [⟨e.loc, e.w, V.st.length⟩]) } x⟩ := blk_set_self hk _
        rw [rdH_ok hb2 (vm_len fW hpc), if_pos (by rw [vm_len fW hpc]; omega), if_pos (by exact ⟨by trivial, rfl⟩), vm_prog fW hpc, PAfter_R hE.c106 hP (prog_at hp hn (Kp.set hnk _)), qh_ok, c1_ok, asA_ok, if_pos hr, rdH_ok hb2 (vm_len fW hpc), if_pos (by exact ⟨by rw [vm_len fW hpc]; omega, rfl⟩)]
        try rw [Int.toNat_natCast]
        rw [vm_setL fW hpc ht, putB hb2]
        simp only [evt_kind, evt_loc, evt_r, evt_w, asI_ok]
        rw [if_pos (by exact ⟨by trivial, rfl, rfl⟩), if_pos (by exact ⟨by trivial, rfl⟩)]
        rw [setBlk_set]
        rfl
      · rw [if_neg (by rw [Bool.and_eq_true]; intro q; exact h2 ⟨beq_iff_eq.1 q.1, bne_iff_ne.1 q.2⟩), if_neg h2, if_pos (by exact ⟨by trivial, rfl⟩), evWrites_R hE.c80, c1_ok, asB_ok]
        cases hw : evWr e with
        | true =>
          rw [if_pos rfl, if_pos rfl]
          simp only [evt_loc, evt_w, asI_ok]
          have fW1 : MV.Fit { V with mem := V.mem.set e.loc.toNat e.w } := ⟨f.m, f.lc, by rw [List.length_set]; exact f.mem, f.frm, f.bf, f.b⟩
          have hb1 : blk? (setBlk h k (some ⟨true, 0, vmC pc { V with mem := V.mem.set e.loc.toNat e.w } x⟩)) k = some ⟨true, 0, vmC pc { V with mem := V.mem.set e.loc.toNat e.w } x⟩ := blk_set_self hk _
          have fW : MV.Fit { V with mem := V.mem.set e.loc.toNat e.w, frm := V.frm.set e.loc.toNat V.st.length } := ⟨f.m, f.lc, by rw [List.length_set]; exact f.mem, by rw [List.length_set]; exact f.frm, f.bf, f.b⟩
          have hb2 : blk? (setBlk h k (some ⟨true, 0, vmC pc { V with mem := V.mem.set e.loc.toNat e.w, frm := V.frm.set e.loc.toNat V.st.length } x⟩)) k = some ⟨true, 0, vmC pc { V with mem := V.mem.set e.loc.toNat e.w, frm := V.frm.set e.loc.toNat V.st.length } x⟩ := blk_set_self hk _
          rw [if_pos he, rd, if_pos (by rw [hl]; omega), vm_setM f hpc he4, putB hb, if_pos he, rdH_ok hb1 (vm_len fW1 hpc), if_pos (by rw [vm_len fW1 hpc]; omega), vm_setF fW1 hpc he4, putB hb1, setBlk_set]
          rw [rdH_ok hb2 (vm_len fW hpc), if_pos (by rw [vm_len fW hpc]; omega), if_pos (by exact ⟨by trivial, rfl⟩), vm_prog fW hpc, PAfter_R hE.c106 hP (prog_at hp hn (Kp.set hnk _)), qh_ok, c1_ok, asA_ok, if_pos hr, rdH_ok hb2 (vm_len fW hpc), if_pos (by exact ⟨by rw [vm_len fW hpc]; omega, rfl⟩)]
          try rw [Int.toNat_natCast]
          rw [vm_setL fW hpc ht, putB hb2]
          simp only [evt_kind, evt_r, asI_ok]
          rw [if_pos (by exact ⟨by trivial, rfl, rfl⟩), if_pos (by exact ⟨by trivial, rfl⟩)]
          rw [setBlk_set]
          rfl
        | false =>
          rw [if_neg (by simp), if_neg (by simp)]
          rw [rdH_ok hb (vm_len f hpc), if_pos (by rw [vm_len f hpc]; omega), if_pos (by exact ⟨by trivial, rfl⟩), vm_prog f hpc, PAfter_R hE.c106 hP (prog_at hp hn (Kp.refl n h)), qh_ok, c1_ok, asA_ok, if_pos hr, rdH_ok hb (vm_len f hpc), if_pos (by exact ⟨by rw [vm_len f hpc]; omega, rfl⟩)]
          try rw [Int.toNat_natCast]
          rw [vm_setL f hpc ht, putB hb]
          simp only [evt_kind, evt_loc, evt_r, evt_w, asI_ok]
          rw [if_pos (by exact ⟨by trivial, rfl, rfl⟩), if_pos (by exact ⟨by trivial, rfl⟩)]
          rfl
    rw [vm_VM_thread_ec1_n, if_pos (by exact ⟨by trivial, rfl⟩), if_pos (by exact ⟨by trivial, rfl⟩), evOf_prog hE.c109, c2_ok, asA_ok, asB_ok, if_pos (by exact ⟨by trivial, rfl, rfl⟩)]
    cases hrd : rdI i with
    | false => exact three (-1) (by rw [hrd]; rfl)
    | true => exact three fr (by rw [hrd]; rfl)
  rw [vm_VM_thread_eq, if_pos hr, rd, Int.toNat_natCast, if_pos (by rw [hl]; omega), vm_lcl f hpc hql, if_pos (by exact ⟨by trivial, rfl, rfl⟩), rd, if_pos (by rw [hl]; omega), if_pos (by exact ⟨by trivial, rfl⟩), vm_prog f hpc, PNext_R hE.c105 p, qh_ok, c2_ok, asA_ok, asB_ok, if_pos (by exact ⟨by trivial, rfl, rfl⟩)]
  rw [show nextI (V.P.code t) (V.l t) = some i from hi]
  simp only [Option.getD_some, ins_loc, asI_ok]
  rw [if_pos hil, rd, vm_mem f hpc hmem, asI_ok, if_pos hil, rd, vm_frm f hpc hfrm, asI_ok, if_pos hr, rd, if_pos h74, vm_buf f hpc hq, bufNewest_R hE.c205 (Nat.le_of_lt hbl)]
  have hv : V.val t i = match newE i.loc (V.b t) with | some e => (e.val, e.id) | none => (V.mem.getD i.loc.toNat 0, V.frm.getD i.loc.toNat 0) := rfl
  cases hnw : newE i.loc (V.b t) with
  | none =>
    rw [hnw] at hv
    dsimp only
    rw [qh_ok, c3_ok, asI_ok, asI_ok, asB_ok, if_neg (by simp), bind_ok]
    exact two _ _ (by rw [hv]) (by rw [hv])
  | some e =>
    rw [hnw] at hv
    dsimp only
    rw [qh_ok, c3_ok, asI_ok, asI_ok, asB_ok, if_pos rfl, bind_ok]
    exact two _ _ (by rw [hv]) (by rw [hv])
end
end Jq

/- Machines: a pick is taken. -/
namespace Jq
open Go

def MV.fluE (V : MV) (t : Nat) (loc : Int) : Ent := ((V.b t).find? (oldP (bmod V.m) loc)).getD ⟨0, 0, 0⟩
def MV.fluM (V : MV) (t : Nat) (loc : Int) : MV :=
  { V with bf := V.bf.set t ((V.b t).eraseP (oldP (bmod V.m) loc)), mem := V.mem.set (V.fluE t loc).loc.toNat (V.fluE t loc).val, frm := V.frm.set (V.fluE t loc).loc.toNat (V.fluE t loc).id }
def MV.fluS (V : MV) (t : Nat) (loc : Int) : Stp := ⟨0, t, 6, (V.fluE t loc).loc, 0, (V.fluE t loc).val, (V.fluE t loc).id⟩

def MV.thrI (V : MV) (t : Nat) : Ins := (V.nxt t).getD Ins.zero
/-- The step of a pick, and how the machine stands behind it. -/
def MV.stp (V : MV) (i : Nat) : Stp :=
  { (if i < 4 then V.thrS i (V.thrI i) else if i < 8 then V.fluS (i - 4) 0 else V.fluS ((i - 8) / 4) (((i - 8) % 4 : Nat) : Int)) with pick := i }
def MV.nx (V : MV) (i : Nat) : MV :=
  { (if i < 4 then V.thrM i (V.thrI i) else if i < 8 then V.fluM (i - 4) 0 else V.fluM ((i - 8) / 4) (((i - 8) % 4 : Nat) : Int)) with st := V.st ++ [V.stp i] }

/-- What stays so from pick to pick. -/
structure MV.Inv (V : MV) : Prop where
  fit : V.Fit
  small : V.P.small
  fld : ∀ c ∈ V.P.thr, ∀ i ∈ c, fldB (hasB V.P) i = true
  locs : V.P.locs.length ≤ 4
  c10 : ∀ c ∈ V.P.thr, c.length ≤ 10
  ents : ∀ b ∈ V.bf, ∀ e ∈ b, 0 ≤ e.loc ∧ e.loc < 4
  pcs : ∀ t, t < 4 → ((V.b t).length : Int) ≤ (V.l t).pc

theorem fldV_loc {P : PProg} (h4 : P.locs.length ≤ 4) {i : Ins} (h : fldB (hasB P) i = true) (hk : 1 ≤ i.kind ∧ i.kind ≤ 4) : 0 ≤ i.loc ∧ i.loc < 4 := by
  unfold fldB hasB at h
  split at h
  · simp at h; omega
  · split at h
    · simp at h; omega
    · split at h
      · have h := of_decide_eq_true h
        unfold Ins.cs at h
        simp at h
        omega
      · split at h
        · simp at h; omega
        · omega

theorem MV.Inv.code10 {V : MV} (v : V.Inv) (t : Int) : (V.P.code t).length ≤ 10 := by
  unfold PProg.code
  split
  · rw [List.getD_eq_getElem?_getD]
    cases hq : V.P.thr[t.toNat]? with
    | none => simp
    | some c => exact v.c10 c (List.mem_of_getElem? hq)
  · simp

theorem MV.Inv.nxt {V : MV} (v : V.Inv) {t : Nat} {i : Ins} (h : V.nxt t = some i) : (0 ≤ i.loc ∧ i.loc < 4) ∧ (1 ≤ i.kind ∧ i.kind ≤ 4) ∧ 0 ≤ (V.l t).pc ∧ (V.l t).pc < 10 ∧ i ∈ V.P.code t := by
  obtain ⟨h1, h2, h3, h4, h5⟩ := nextI_kind h
  have hm : i ∈ V.P.code t := List.mem_of_getElem? h3
  have := v.code10 t
  refine ⟨fldV_loc v.locs ?_ ⟨h4, h5⟩, ⟨h4, h5⟩, h1, by omega, hm⟩
  unfold PProg.code at hm
  split at hm
  · rw [List.getD_eq_getElem?_getD] at hm
    cases hq : V.P.thr[(t : Int).toNat]? with
    | none => rw [hq] at hm; simp at hm
    | some c => rw [hq] at hm; exact v.fld c (List.mem_of_getElem? hq) i hm
  · simp at hm

theorem MV.Inv.blen {V : MV} (v : V.Inv) {t : Nat} (ht : t < 4) : (V.b t).length ≤ 24 := v.fit.b _ (List.mem_of_getElem? (MV.b_at (by rw [v.fit.bf]; exact ht)))

/-- It lies there. -/
structure VmAt (n : Nat) (h : AHeap) (k : Nat) (x : Cell) (pc : List Cell) (V : MV) : Prop where
  hn : n ≤ h.length
  nk : n ≤ k
  prog : ProgAt (h.take n) pc V.P
  blk : blk? h k = some ⟨true, 0, vmC pc V x⟩
  st : Own n h x 7 (stepsC V.st) V.st.length
  sep : ¬ isBlk x k

/-- What a machine's call leaves as it was. -/
structure KpV (n k : Nat) (x x' : Cell) (h h' : AHeap) : Prop where
  kp : Kp n h h'
  old : ∀ j b, blk? h j = some b → j ≠ k → ¬ isBlk x j → blk? h' j = some b ∧ ¬ isBlk x' j

theorem Own.setO {n : Nat} {h : AHeap} {x : Cell} {esz len : Nat} {cs : List Cell} (o : Own n h x esz cs len) {k : Nat} (hk : ¬ isBlk x k) (b : Option Blk) : Own n (setBlk h k b) x esz cs len := by
  refine ⟨o.1, o.2.imp id ?_⟩
  rintro ⟨k', rfl, h1, h2⟩
  exact ⟨k', rfl, h1, by rw [blk_set_ne (fun e => hk e.symm)]; exact h2⟩

theorem MV.word_lt (V : MV) : V.word < 2 ^ 64 := wordOf_lt _ (by omega)

section
variable {E : Env}

theorem flush_R' (hE : vm_VM_flush_In E) {k : Nat} {h : AHeap} {x : Cell} {pc : List Cell} {V : MV} (hb : blk? h k = some ⟨true, 0, vmC pc V x⟩) (v : V.Inv) (hpc : pc.length = 3)
    {t : Nat} (ht : t < 4) {loc : Int} (hf : ((V.b t).find? (oldP (bmod V.m) loc)).isSome = true) :
    R E 194 [.c (.ptr k 329 0), .c (.int .i64 (t : Int)), .c (.int .i64 loc)] h = some ([.agg (V.fluS t loc).cs], setBlk h k (some ⟨true, 0, vmC pc (V.fluM t loc) x⟩)) := by
  refine R_intro hE.fn ?_
  have f := v.fit
  have hl := vm_len (x := x) f hpc
  have rd : ∀ {α : Type} {F : List Cell → Option α}, rdH h k 329 F = F (vmC pc V x) := fun {α F} => rdH_ok hb hl
  have hr : 0 ≤ (t : Int) ∧ (t : Int) < ((4 : Nat) : Int) := ⟨by omega, by omega⟩
  have h74 : (0 + 32) + t * 74 + 74 ≤ (vmC pc V x).length := by rw [hl]; omega
  have hq := MV.b_at (V := V) (t := t) (by rw [f.bf]; exact ht)
  have hbl := v.blen ht
  have hk : k < h.length := blk_lt' hb
  cases he : (V.b t).find? (oldP (bmod V.m) loc) with
  | none => rw [he] at hf; cases hf
  | some e =>
    have hee : V.fluE t loc = e := by unfold MV.fluE; rw [he]; rfl
    have hel := v.ents _ (List.mem_of_getElem? hq) e (List.mem_of_find?_eq_some he)
    have hel' : 0 ≤ e.loc ∧ e.loc < ((4 : Nat) : Int) := ⟨hel.1, by omega⟩
    have he4 : e.loc.toNat < 4 := by omega
    obtain ⟨j, hj⟩ : ∃ j, (V.b t).findIdx? (oldP (bmod V.m) loc) = some j := by
      cases hx : (V.b t).findIdx? (oldP (bmod V.m) loc) with
      | some j => exact ⟨j, rfl⟩
      | none =>
        rw [List.findIdx?_eq_none_iff] at hx
        have := hx e (List.mem_of_find?_eq_some he)
        rw [List.find?_some he] at this; cases this
    have hep : (V.b t).eraseP (oldP (bmod V.m) loc) = (V.b t).eraseIdx j := by rw [List.eraseP_eq_eraseIdx, hj]
    have hlen2 : ((V.b t).eraseIdx j).length ≤ 24 := by rw [List.length_eraseIdx]; split <;> omega
    unfold MV.fluM MV.fluS
    rw [hee, hep]
    have f1 : MV.Fit { V with bf := V.bf.set t ((V.b t).eraseIdx j) } := ⟨f.m, f.lc, f.mem, f.frm, by rw [List.length_set]; exact f.bf, fun l hl => by
      rcases List.mem_or_eq_of_mem_set hl with hl | rfl
      · exact f.b l hl
      · exact hlen2⟩
    have f2 : MV.Fit { V with bf := V.bf.set t ((V.b t).eraseIdx j), mem := V.mem.set e.loc.toNat e.val } := ⟨f1.m, f1.lc, by rw [List.length_set]; exact f1.mem, f1.frm, f1.bf, f1.b⟩
    have b1 : ∀ l, blk? (setBlk h k (some ⟨true, 0, l⟩)) k = some ⟨true, 0, l⟩ := fun l => blk_set_self hk _
    have rd1 : ∀ (W : MV) (fW : W.Fit) {α : Type} {F : List Cell → Option α}, rdH (setBlk h k (some ⟨true, 0, vmC pc W x⟩)) k 329 F = F (vmC pc W x) := fun W fW {α F} => rdH_ok (b1 _) (vm_len fW hpc)
    rw [vm_VM_flush_eq, if_pos hr, rd, Int.toNat_natCast, if_pos h74, vm_buf f hpc hq, bufOldest_R hE.c192 hbl, he]
    dsimp only
    rw [c4_ok, asI_ok, asI_ok, asI_ok, asB_ok, if_pos hr, rd, if_pos h74, vm_buf f hpc hq, bufDrop_R hE.c207 hbl hj, qh_ok, c1_ok, asA_ok, if_pos hr, rd, if_pos ⟨h74, bufC_len _ hlen2⟩, vm_setB f hpc ht hlen2, putB hb,
      if_pos hel', rd1 _ f1, if_pos (by rw [vm_len f1 hpc]; omega), vm_setM f1 hpc he4, putB (b1 _), setBlk_set, if_pos hel', rd1 _ f2, if_pos (by rw [vm_len f2 hpc]; omega), vm_setF f2 hpc he4, putB (b1 _), setBlk_set,
      if_pos (by exact ⟨by trivial, rfl, rfl⟩), if_pos (by exact ⟨by trivial, rfl⟩)]
    rfl

theorem Pick_no (hE : vm_VM_Pick_In E) {n k : Nat} {h : AHeap} {x : Cell} {pc : List Cell} {V : MV} (a : VmAt n h k x pc V) (v : V.Inv) {i : Int} (hi : hasI V.word i = false) :
    R E 173 [.c (.ptr k 329 0), .c (.int .i64 i)] h = some ([.agg (Stp.cs ⟨0, 0, 0, 0, 0, 0, 0⟩), .c (.bool false)], h) := by
  refine R_intro hE.fn ?_
  rw [vm_VM_Pick_eq, Enabled_R hE.c172 a.blk v.fit (prog_at a.prog a.hn (Kp.refl n h)), c1_ok, asI_ok, Has_R hE.c17 V.word_lt, c1_ok, asB_ok, hi, if_pos (by simp), if_pos (by exact ⟨by trivial, rfl, rfl⟩), if_pos (by exact ⟨by trivial, rfl⟩)]
  rfl

theorem MV.may_lt {V : MV} {i : Nat} (h : V.may i = true) : i < 24 := by
  rcases Nat.lt_or_ge i 24 with h1 | h1
  · exact h1
  · rw [MV.may_out h1] at h; cases h

set_option maxHeartbeats 1000000 in
theorem Pick_R (hE : vm_VM_Pick_In E) {n k : Nat} {h : AHeap} {x : Cell} {pc : List Cell} {V : MV} (a : VmAt n h k x pc V) (v : V.Inv) (hst : V.st.length < 100000) {i : Nat} (hi : V.may i = true) :
    ∃ x' h', R E 173 [.c (.ptr k 329 0), .c (.int .i64 (i : Int))] h = some ([.agg (V.stp i).cs, .c (.bool true)], h') ∧ VmAt n h' k x' pc (V.nx i) ∧ KpV n k x x' h h' := by
  have hi24 := MV.may_lt hi
  have f := v.fit
  have hpc := a.prog.len
  have hk : k < h.length := blk_lt' a.blk
  have hb : maxBytes ≥ 200000 * 56 := by unfold maxBytes; omega
  have hfits := v.small.fits
  -- the row of steps goes on
  have push : ∀ (W : MV) (s : Stp), W.Fit → W.P = V.P → W.st = V.st → ∃ x' h', (∀ {α : Type} (F : Cell → AHeap → Option α), appK 7 56 x s.cs (setBlk h k (some ⟨true, 0, vmC pc W x⟩)) F = F x' h') ∧ blk? h' k = some ⟨true, 0, vmC pc W x⟩ ∧
      VmAt n (setBlk h' k (some ⟨true, 0, vmC pc W x'⟩)) k x' pc { W with st := V.st ++ [s] } ∧ KpV n k x x' h (setBlk h' k (some ⟨true, 0, vmC pc W x'⟩)) := by
    intro W s fW hWP hWs
    have b1 : blk? (setBlk h k (some ⟨true, 0, vmC pc W x⟩)) k = some ⟨true, 0, vmC pc W x⟩ := blk_set_self hk _
    obtain ⟨x', h', e1, o1, k1, r1⟩ := (a.st.setO a.sep (some ⟨true, 0, vmC pc W x⟩)).app (bytes := 56) (by rw [setBlk_len]; exact a.hn) (stp_len s) (by omega) (by omega) (by omega)
    obtain ⟨c1, c2⟩ := r1 k _ b1 a.sep
    have kp1 : Kp n h h' := (Kp.set a.nk _).trans k1
    have kp2 : Kp n h (setBlk h' k (some ⟨true, 0, vmC pc W x'⟩)) := kp1.trans (Kp.set a.nk _)
    refine ⟨x', h', e1, c1, ⟨Nat.le_trans a.hn kp2.1, a.nk, ?_, blk_set_self (blk_lt' c1) _, ?_, c2⟩, kp2, fun j b hj hne hnx => ?_⟩
    · have : (setBlk h' k (some ⟨true, 0, vmC pc W x'⟩)).take n = h.take n := by
        refine List.ext_getElem? fun j => ?_
        rw [List.getElem?_take, List.getElem?_take]
        split
        · exact kp2.2 j (by assumption)
        · rfl
      rw [this]
      show ProgAt (h.take n) pc W.P
      rw [hWP]; exact a.prog
    · show Own n _ x' 7 (stepsC (V.st ++ [s])) (V.st ++ [s]).length
      rw [stepsC_snoc, List.length_append, List.length_singleton]
      exact o1.setO c2 _
    · obtain ⟨d1, d2⟩ := r1 j b (by rw [blk_set_ne (fun e => hne e.symm)]; exact hj) hnx
      exact ⟨by rw [blk_set_ne (fun e => hne e.symm)]; exact d1, d2⟩
  have hhas : hasI V.word (i : Int) = true := by rw [hasI_nat (by omega), MV.word_bit, hi]
  have en := Enabled_R hE.c172 a.blk f (prog_at a.prog a.hn (Kp.refl n h))
  have s7 : ∀ s : Stp, (s.cs.set 0 (.int .i64 (i : Int))) = ({ s with pick := i } : Stp).cs := fun _ => rfl
  have s7' : ∀ s : Stp, splice (List.replicate 7 (Cell.int .i64 0)) 0 s.cs = s.cs := fun _ => rfl
  have fluW : ∀ (t : Nat) (loc : Int), t < 4 → (V.fluM t loc).Fit := fun t loc ht => by
    have hbl := v.blen ht
    refine ⟨f.m, f.lc, by show (V.mem.set _ _).length = 4; rw [List.length_set]; exact f.mem, by show (V.frm.set _ _).length = 4; rw [List.length_set]; exact f.frm, by show (V.bf.set _ _).length = 4; rw [List.length_set]; exact f.bf, fun l hl => ?_⟩
    rcases List.mem_or_eq_of_mem_set hl with hl | rfl
    · exact f.b l hl
    · exact Nat.le_trans List.length_eraseP_le hbl
  by_cases h4 : i < 4
  · have hm : V.mayT i = true := by unfold MV.may at hi; rw [if_pos h4] at hi; exact hi
    obtain ⟨q, hq⟩ : ∃ q, V.nxt i = some q := by
      unfold MV.mayT at hm
      cases hq : V.nxt i with
      | none => rw [hq] at hm; cases hm
      | some q => exact ⟨q, rfl⟩
    have hqI : V.thrI i = q := by unfold MV.thrI; rw [hq]; rfl
    obtain ⟨q1, q2, q3, q4, q5⟩ := v.nxt hq
    have hpb := v.pcs i h4
    have th := thread_R' hE.c193 a.blk f a.prog a.hn a.nk hfits a.st h4 hq q1 (by omega)
    have fW : (V.thrM i q).Fit := by
      have hfw : (V.wr i (evOf q (V.l i) (V.val i q).1)).Fit := by
        unfold MV.wr
        split
        · refine ⟨f.m, f.lc, f.mem, f.frm, by rw [List.length_set]; exact f.bf, fun l hl => ?_⟩
          rcases List.mem_or_eq_of_mem_set hl with hl | rfl
          · exact f.b l hl
          · rw [List.length_append, List.length_singleton]; omega
        · split
          · exact ⟨f.m, f.lc, by rw [List.length_set]; exact f.mem, by rw [List.length_set]; exact f.frm, f.bf, f.b⟩
          · exact f
      exact ⟨hfw.m, by show (V.lc.set _ _).length = 4; rw [List.length_set]; exact f.lc, hfw.mem, hfw.frm, hfw.bf, hfw.b⟩
    have hPP : (V.thrM i q).P = V.P := by unfold MV.thrM MV.wr; split <;> (try split) <;> rfl
    have hSS : (V.thrM i q).st = V.st := by unfold MV.thrM MV.wr; split <;> (try split) <;> rfl
    obtain ⟨x', h', e1, c1, c2, c3⟩ := push (V.thrM i q) { V.thrS i q with pick := i } fW hPP hSS
    have e2 : V.stp i = { V.thrS i q with pick := i } := by unfold MV.stp; rw [if_pos h4, hqI]
    have e3 : V.nx i = { V.thrM i q with st := V.st ++ [{ V.thrS i q with pick := i }] } := by unfold MV.nx; rw [if_pos h4, hqI, e2]
    rw [e2, e3]
    have b1 : blk? (setBlk h k (some ⟨true, 0, vmC pc (V.thrM i q) x⟩)) k = some ⟨true, 0, vmC pc (V.thrM i q) x⟩ := blk_set_self hk _
    have l1 := vm_len (x := x) fW hpc
    refine ⟨x', _, R_intro hE.fn ?_, c2, c3⟩
    rw [vm_VM_Pick_eq, en, c1_ok, asI_ok, Has_R hE.c17 V.word_lt, c1_ok, asB_ok, hhas, if_neg (by simp), if_pos (by simp; omega), th, c1_ok, asA_ok, if_pos (by exact ⟨by trivial, rfl, rfl⟩), if_pos (by rw [stp_len]; omega), rdH_ok b1 l1, vm_steps fW hpc]
    simp only [s7, s7', e1]
    rw [if_pos (by exact ⟨by trivial, rfl⟩), if_pos (by exact ⟨rfl, by decide⟩), if_pos (by exact rfl), rdH_ok c1 l1, if_pos (by rw [l1]; omega), vm_setX fW hpc, putB c1, if_pos (by exact ⟨by trivial, rfl⟩), if_pos (by exact ⟨by trivial, rfl, rfl⟩), if_pos (by exact ⟨by trivial, rfl⟩)]
  · have flu : ∀ (t : Nat) (loc : Int), t < 4 → ((V.b t).find? (oldP (bmod V.m) loc)).isSome = true → V.stp i = { V.fluS t loc with pick := i } → V.nx i = { V.fluM t loc with st := V.st ++ [V.stp i] } →
        (((i : Int) < 8 ∧ R E 194 [(.c (.ptr k 329 0)), (.c (.int .i64 (E.glob.wrap .i64 ((i : Int) - 4)))), (.c (.int .i64 0))] h = R E 194 [.c (.ptr k 329 0), .c (.int .i64 (t : Int)), .c (.int .i64 loc)] h) ∨
         (¬ (i : Int) < 8 ∧ R E 194 [(.c (.ptr k 329 0)), (.c (.int .i64 (E.glob.quo .i64 (E.glob.wrap .i64 ((i : Int) - 8)) 4))), (.c (.int .i64 (E.glob.rem .i64 (E.glob.wrap .i64 ((i : Int) - 8)) 4)))] h = R E 194 [.c (.ptr k 329 0), .c (.int .i64 (t : Int)), .c (.int .i64 loc)] h)) →
        ∃ x' h', R E 173 [.c (.ptr k 329 0), .c (.int .i64 (i : Int))] h = some ([.agg (V.stp i).cs, .c (.bool true)], h') ∧ VmAt n h' k x' pc (V.nx i) ∧ KpV n k x x' h h' := by
      intro t loc ht hf e2 e3 hF
      have fW := fluW t loc ht
      have fl := flush_R' hE.c194 a.blk v hpc ht hf
      obtain ⟨x', h', e1, c1, c2, c3⟩ := push (V.fluM t loc) { V.fluS t loc with pick := i } fW rfl rfl
      rw [e3, e2]
      have b1 : blk? (setBlk h k (some ⟨true, 0, vmC pc (V.fluM t loc) x⟩)) k = some ⟨true, 0, vmC pc (V.fluM t loc) x⟩ := blk_set_self hk _
      have l1 := vm_len (x := x) fW hpc
      refine ⟨x', _, R_intro hE.fn ?_, c2, c3⟩
      rw [vm_VM_Pick_eq, en, c1_ok, asI_ok, Has_R hE.c17 V.word_lt, c1_ok, asB_ok, hhas, if_neg (by simp), if_neg (by simp; omega)]
      rcases hF with ⟨h8, hF⟩ | ⟨h8, hF⟩
      · rw [if_pos (decide_eq_true h8), hF]
        rw [fl, c1_ok, asA_ok, if_pos (by exact ⟨by trivial, rfl, rfl⟩), if_pos (by rw [stp_len]; omega), rdH_ok b1 l1, vm_steps fW hpc]
        simp only [s7, s7', e1]
        rw [if_pos (by exact ⟨by trivial, rfl⟩), if_pos (by exact ⟨rfl, by decide⟩), if_pos (by exact rfl), rdH_ok c1 l1, if_pos (by rw [l1]; omega), vm_setX fW hpc, putB c1, if_pos (by exact ⟨by trivial, rfl⟩), if_pos (by exact ⟨by trivial, rfl, rfl⟩), if_pos (by exact ⟨by trivial, rfl⟩)]
      · rw [if_neg (by rw [decide_eq_false h8]; simp), hF]
        rw [fl, c1_ok, asA_ok, if_pos (by exact ⟨by trivial, rfl, rfl⟩), if_pos (by rw [stp_len]; omega), rdH_ok b1 l1, vm_steps fW hpc]
        simp only [s7, s7', e1]
        rw [if_pos (by exact ⟨by trivial, rfl⟩), if_pos (by exact ⟨rfl, by decide⟩), if_pos (by exact rfl), rdH_ok c1 l1, if_pos (by rw [l1]; omega), vm_setX fW hpc, putB c1, if_pos (by exact ⟨by trivial, rfl⟩), if_pos (by exact ⟨by trivial, rfl, rfl⟩), if_pos (by exact ⟨by trivial, rfl⟩)]
    by_cases h8 : i < 8
    · have hm : V.mayF (i - 4) = true := by unfold MV.may at hi; rw [if_neg h4, if_pos h8] at hi; exact hi
      unfold MV.mayF at hm
      rw [Bool.and_eq_true] at hm
      have hm2 : V.m = 2 := beq_iff_eq.1 hm.1
      have hne : (V.b (i - 4)).length ≠ 0 := by simpa using hm.2
      refine flu (i - 4) 0 (by omega) ?_ (by unfold MV.stp; rw [if_neg h4, if_pos h8]) (by unfold MV.nx; rw [if_neg h4, if_pos h8]) (.inl ⟨by omega, ?_⟩)
      · rw [hm2]
        cases hbb : V.b (i - 4) with
        | nil => rw [hbb] at hne; exact absurd rfl hne
        | cons e l => rfl
      · rw [g_wrap_i64 (by omega) (by omega), show ((i : Int) - 4) = ((i - 4 : Nat) : Int) by omega]
    · have hm : V.mayL ((i - 8) / 4) ((i - 8) % 4) = true := by unfold MV.may at hi; rw [if_neg h4, if_neg h8, if_pos hi24] at hi; exact hi
      unfold MV.mayL at hm
      rw [Bool.and_eq_true] at hm
      have hm3 : V.m = 3 := beq_iff_eq.1 hm.1
      refine flu ((i - 8) / 4) (((i - 8) % 4 : Nat) : Int) (by omega) ?_ (by unfold MV.stp; rw [if_neg h4, if_neg h8]) (by unfold MV.nx; rw [if_neg h4, if_neg h8]) (.inr ⟨by omega, ?_⟩)
      · rw [hm3]; exact hm.2
      · rw [g_wrap_i64 (by omega) (by omega), show ((i : Int) - 8) = ((i - 8 : Nat) : Int) by omega, g_quo, g_rem, Int.tdiv_eq_ediv_of_nonneg (by omega), Int.tmod_eq_emod_of_nonneg (by omega),
          show (((i - 8 : Nat) : Int) / 4) = (((i - 8) / 4 : Nat) : Int) by omega, show (((i - 8 : Nat) : Int) % 4) = (((i - 8) % 4 : Nat) : Int) by omega, wrap_i64 (by omega) (by omega)]
end
end Jq

/- Machines: at the beginning. -/
namespace Jq
open Go

/-- The block while threads are laid in it. -/
def nwC (a b c : Cell) (m bm : Int) (l : Nat → Lcl) (t : Nat) : List Cell :=
  [a, b, c, .int .i64 m] ++ (((if 0 < t then (l 0).cs else Lcl.zero.cs) ++ ((if 1 < t then (l 1).cs else Lcl.zero.cs) ++ ((if 2 < t then (l 2).cs else Lcl.zero.cs) ++ (if 3 < t then (l 3).cs else Lcl.zero.cs)))) ++
    (List.replicate 4 (.int .i64 0) ++ (([if 0 < t then .int .i64 (-1) else .int .i64 0, if 1 < t then .int .i64 (-1) else .int .i64 0, if 2 < t then .int .i64 (-1) else .int .i64 0, if 3 < t then .int .i64 (-1) else .int .i64 0] : List Cell) ++
      (((if 0 < t then bufC bm [] else bufC 0 []) ++ ((if 1 < t then bufC bm [] else bufC 0 []) ++ ((if 2 < t then bufC bm [] else bufC 0 []) ++ (if 3 < t then bufC bm [] else bufC 0 [])))) ++ [.nils]))))

set_option maxRecDepth 100000 in
theorem nw_0 (a b c : Cell) (m bm : Int) (l : Nat → Lcl) : splice (splice ([Cell.nils, Cell.nils, Cell.nils] ++ List.replicate 325 (Cell.int .i64 0) ++ [Cell.nils]) 0 [a, b, c]) 3 ([(.int .i64 m)] : List Cell) = nwC a b c m bm l 0 := by kernel_rfl
set_option maxRecDepth 100000 in
theorem nw_next (a b c : Cell) (m bm : Int) (l : Nat → Lcl) : ∀ t, t < 4 → (splice (splice (nwC a b c m bm l t) ((0 + 4) + t * 5) (l t).cs) ((0 + 32) + t * 74) (bufC bm [])).set ((0 + 28) + t * 1) (.int .i64 (-1)) = nwC a b c m bm l (t + 1)
  | 0, _ => by kernel_rfl
  | 1, _ => by kernel_rfl
  | 2, _ => by kernel_rfl
  | 3, _ => by kernel_rfl
  | t + 4, h => by omega
theorem nw_len (a b c : Cell) (m bm : Int) (l : Nat → Lcl) : ∀ t, t ≤ 4 → (nwC a b c m bm l t).length = 329
  | 0, _ => by kernel_rfl
  | 1, _ => by kernel_rfl
  | 2, _ => by kernel_rfl
  | 3, _ => by kernel_rfl
  | 4, _ => by kernel_rfl
  | t + 5, h => by omega

theorem nw_pc (a b c : Cell) (m bm : Int) (l : Nat → Lcl) (t : Nat) : ((nwC a b c m bm l t).drop (0 + 0)).take 3 = [a, b, c] := by
  rw [Nat.add_zero, List.drop_zero]; rfl
set_option maxRecDepth 100000 in
theorem nw_z : ([Cell.nils, Cell.nils, Cell.nils] ++ List.replicate 325 (Cell.int .i64 0) ++ [Cell.nils]).length = 329 := by kernel_rfl

theorem splice_len {l xs : List Cell} {n : Nat} (h : n + xs.length ≤ l.length) : (splice l n xs).length = l.length := by
  unfold splice
  rw [List.length_append, List.length_append, List.length_take, List.length_drop]; omega

/-- A machine at the beginning. -/
def MV.new (P : PProg) (m : Int) : MV :=
  ⟨P, m, [startL P 0, startL P 1, startL P 2, startL P 3], P.init ++ List.replicate (4 - P.init.length) 0, [-1, -1, -1, -1], [[], [], [], []], []⟩

set_option maxRecDepth 100000 in
theorem nw_end (a b c : Cell) (P : PProg) (m : Int) : nwC a b c m (bmod m) (fun t => startL P t) 4 = vmC [a, b, c] { MV.new P m with mem := [0, 0, 0, 0] } .nils := by kernel_rfl

theorem MV.new_fit {P : PProg} {m : Int} (hm : 1 ≤ m ∧ m ≤ 3) (hi : P.init.length ≤ 4) : (MV.new P m).Fit :=
  ⟨hm, rfl, by show (P.init ++ List.replicate (4 - P.init.length) 0).length = 4; rw [List.length_append, List.length_replicate]; omega, rfl, rfl, fun l hl => by
    simp [MV.new] at hl; subst hl; simp⟩

attribute [local irreducible] nwC vmC bufC

section
variable {E : Env}

theorem VNew_bad (hE : vm_New_In E) {h : AHeap} {pc : List Cell} {P : PProg} (p : ProgAt h pc P) (hsm : P.small) (hu : ∀ x ∈ P.locs, 0 ≤ x ∧ x < 256) (hll : P.locs.length ≤ 1000) {m : Int} (hbad : ¬ (1 ≤ m ∧ m ≤ 3) ∨ pokB P = false) :
    R E 171 [.agg pc, .c (.int .i64 m)] h = some ([.c .nilp, .c (.int .i64 1)], h) := by
  refine R_intro hE.fn ?_
  rw [vm_New_eq, scK_or]
  by_cases hm : 1 ≤ m ∧ m ≤ 3
  · rcases hbad with hb | hb
    · exact absurd hm hb
    rw [show (decide (m < 1) || decide (m > 3)) = false by simp; omega, scK_ok, if_pos (by exact ⟨rfl, p.len⟩), progOk_R hE.c188 p hsm hu hll, c1_ok, asB_ok, hb, bind_ok]
    dsimp only
    rw [if_pos (by simp)]
  · rw [show (decide (m < 1) || decide (m > 3)) = true by simp; omega, scK_tf, if_pos rfl]

theorem new_cnt (hE : vm_New_In E) {h8 : AHeap} {a b c : Cell} {pc : List Cell} {P : PProg} (p8 : ProgAt h8 [a, b, c] P) (hfits : P.fits) {m : Int} :
    Lim (vm_New_F1 (R E) Lim E.glob) (vm_New_s1 m h8.length 329 0 ((0 : Nat) : Int) pc (h8 ++ [some ⟨true, 0, nwC a b c m (bmod m) (fun t => startL P t) 0⟩])) = some (.exit 0, vm_New_x1_1 h8.length 329 0 pc (h8 ++ [some ⟨true, 0, nwC a b c m (bmod m) (fun t => startL P t) 4⟩])) := by
  have b8 : ∀ l : List Cell, blk? (h8 ++ [some ⟨true, 0, l⟩]) h8.length = some ⟨true, 0, l⟩ := fun l => blk_new _ _
  have p9 : ∀ q, ProgAt (h8 ++ [some q]) [a, b, c] P := fun q => p8.keep (Kp.app _ (Nat.le_refl _))
  have rd : ∀ (l : List Cell) {α : Type} {F : List Cell → Option α}, l.length = 329 → rdH (h8 ++ [some ⟨true, 0, l⟩]) h8.length 329 F = F l := fun l α F hl => rdH_ok (b8 l) hl
  have put : ∀ (l cs : List Cell) {α : Type} {F : AHeap → Option α}, putH (h8 ++ [some ⟨true, 0, l⟩]) h8.length cs F = F (h8 ++ [some ⟨true, 0, cs⟩]) := fun l cs α F => by rw [putB (b8 l), setBlk_last]
  refine Lim_count (F := vm_New_F1 (R E) Lim E.glob) (fun t => vm_New_s1 m h8.length 329 0 (t : Int) pc (h8 ++ [some ⟨true, 0, nwC a b c m (bmod m) (fun t => startL P t) t⟩])) 0 4 (by omega) (fun t _ ht => ?_) (Lim_exit ?_)
  · have hl := nw_len a b c m (bmod m) (fun t => startL P t) t (by omega)
    have hnx := nw_next a b c m (bmod m) (fun t => startL P t) t ht
    have hr : 0 ≤ (t : Int) ∧ (t : Int) < ((4 : Nat) : Int) := ⟨by omega, by omega⟩
    have hpcs := nw_pc a b c m (bmod m) (fun t => startL P t) t
    have hb0 : (bufC (bmod m) []).length = 74 := bufC_len _ (by simp)
    generalize nwC a b c m (bmod m) (fun t => startL P t) t = l0 at *
    generalize nwC a b c m (bmod m) (fun t => startL P t) (t + 1) = l9 at *
    have hl1 : (splice l0 ((0 + 4) + t * 5) (startL P t).cs).length = 329 := by
      rw [splice_len (by rw [hl, Lcl.len]; omega), hl]
    have hl2 : (splice (splice l0 ((0 + 4) + t * 5) (startL P t).cs) ((0 + 32) + t * 74) (bufC (bmod m) [])).length = 329 := by
      rw [splice_len (by rw [hl1, hb0]; omega), hl1]
    rw [vm_New_r1, if_pos (by simp; omega), rd _ hl, if_pos (by rw [hl]; omega), hpcs, PStart_R hE.c94 hfits (p9 _), qh_ok, c1_ok, asA_ok, if_pos hr, rd _ hl, Int.toNat_natCast, if_pos ⟨by rw [hl]; omega, rfl⟩, put, bufNew_R hE.c190, qh_ok, c1_ok, asA_ok, if_pos hr]
    rw [show (if m = 2 ∨ m = 3 then m else 0) = bmod m from rfl, rd _ hl1, if_pos ⟨by rw [hl1]; omega, hb0⟩, put, if_pos hr, rd _ hl2, if_pos (by rw [hl2]; omega), put, g_succ (by omega), hnx]
  · rw [vm_New_r1, if_neg (by simp)]

theorem new_mem {a b c : Cell} {P : PProg} {m : Int} (f0 : MV.Fit { MV.new P m with mem := [0, 0, 0, 0] }) (hil : P.init.length ≤ 4) :
    splice (vmC [a, b, c] { MV.new P m with mem := [0, 0, 0, 0] } .nils) 24 (intC .i64 P.init) = vmC [a, b, c] (MV.new P m) .nils := by
  obtain ⟨A, B, eA, hA, eM⟩ := vm_lensM (pc := [a, b, c]) (x := .nils) f0 rfl
  have e1 : vmC [a, b, c] (MV.new P m) .nils = A ++ (intC .i64 (MV.new P m).mem ++ B) := eM (MV.new P m).mem
  rw [eA, e1, show 24 = A.length + 0 by omega, splice_app]
  congr 1
  unfold splice
  rw [List.take_zero, List.nil_append, Nat.zero_add, intC_len]
  show intC .i64 P.init ++ _ = intC .i64 (P.init ++ List.replicate (4 - P.init.length) 0) ++ B
  rw [show intC .i64 (P.init ++ List.replicate (4 - P.init.length) 0) = intC .i64 P.init ++ List.replicate (4 - P.init.length) (.int .i64 0) by simp [intC], List.append_assoc]
  congr 1
  rw [List.drop_append_of_le_length (by rw [intC_len]; exact hil)]
  congr 1
  show (List.replicate 4 (Cell.int .i64 0)).drop _ = _
  rw [List.drop_replicate]

theorem new_loop (hE : vm_New_In E) {h8 : AHeap} {a b c : Cell} {pc : List Cell} {P : PProg} (p8 : ProgAt h8 [a, b, c] P) (hfits : P.fits) {m : Int} (z : List Cell) (hz : z = nwC a b c m (bmod m) (fun t => startL P t) 0) :
    Lim (vm_New_F1 (R E) Lim E.glob) (vm_New_s1 m h8.length (AV.cells (.agg z)).length 0 0 pc (h8 ++ [some (Blk.mk true 0 (AV.cells (.agg z)))])) = some (.exit 0, vm_New_x1_1 h8.length 329 0 pc (h8 ++ [some ⟨true, 0, vmC [a, b, c] { MV.new P m with mem := [0, 0, 0, 0] } .nils⟩])) := by
  have h1 : AV.cells (.agg z) = z := rfl
  rw [h1, hz, nw_len _ _ _ _ _ _ _ (by omega), ← nw_end]
  exact new_cnt hE p8 hfits

theorem VNew_S (hE : vm_New_In E) {h : AHeap} {pc : List Cell} {P : PProg} (p : ProgAt h pc P) (hsm : P.small) (hu : ∀ x ∈ P.locs, 0 ≤ x ∧ x < 256) (hll : P.locs.length ≤ 1000) (hil : P.init.length ≤ 4) {m : Int} (hm : 1 ≤ m ∧ m ≤ 3) (hpok : pokB P = true) :
    ∃ n k pc' h', R E 171 [.agg pc, .c (.int .i64 m)] h = some ([.c (.ptr k 329 0), .c (.int .i64 0)], h') ∧ VmAt n h' k .nils pc' (MV.new P m) ∧ h.length ≤ n ∧ Kp h.length h h' ∧ ProgO h.length (h'.take n) pc' P ∧ k < h'.length := by
  obtain ⟨pc', h8, r8, po8, k8⟩ := copied_S hE.c189 p hsm hll (by omega)
  have p8 := po8.at
  obtain ⟨a, b, c, ts, he, _⟩ := id p8
  subst he
  have hfits := hsm.fits
  have f0 : MV.Fit { MV.new P m with mem := [0, 0, 0, 0] } := ⟨hm, rfl, rfl, rfl, rfl, fun l hl => by simp [MV.new] at hl; subst hl; simp⟩
  have hpc : ([a, b, c] : List Cell).length = 3 := rfl
  have b8 : ∀ l : List Cell, blk? (h8 ++ [some ⟨true, 0, l⟩]) h8.length = some ⟨true, 0, l⟩ := fun l => blk_new _ _
  have cnt := new_loop hE (pc := pc) p8 hfits _ (nw_0 a b c m (bmod m) (fun t => startL P t))
  obtain ⟨bi, hbi, hbl, hbg⟩ := p.initG
  have hl0 := vm_len (x := .nils) f0 hpc
  have hsp := new_mem (a := a) (b := b) (c := c) f0 hil
  generalize vmC [a, b, c] { MV.new P m with mem := [0, 0, 0, 0] } .nils = l0 at *
  have hci := cells1 (hbi.keep hbl (k8.trans (Kp.app [some ⟨true, 0, l0⟩] k8.1)))
  refine ⟨h8.length, h8.length, [a, b, c], h8 ++ [some ⟨true, 0, vmC [a, b, c] (MV.new P m) .nils⟩], R_intro hE.fn ?_, ⟨by simp, Nat.le_refl _, ?_, b8 _, Own.nil _ _ _, fun h => h⟩, k8.1, k8.trans (Kp.app _ k8.1), by rw [List.take_append_of_le_length (Nat.le_refl _), List.take_length]; exact po8, by simp⟩
  · rw [vm_New_eq, scK_or, show (decide (m < 1) || decide (m > 3)) = false by simp; omega, scK_ok, if_pos (by exact ⟨rfl, p.len⟩), progOk_R hE.c188 p hsm hu hll, c1_ok, asB_ok, hpok, bind_ok]
    dsimp only
    rw [if_neg (by simp), if_pos (by exact ⟨rfl, p.len⟩), r8, c1_ok, asA_ok, if_pos (by exact ⟨rfl, by rw [nw_z]; omega⟩), if_pos (by exact ⟨rfl, by rw [splice_len (by rw [nw_z]; simp), nw_z]; omega⟩), cnt, bind_ok]
    dsimp only
    rw [vm_New_e1_1]
    have hsl : ∀ {α : Type} (F : Cell → Option α), sliceAK (h8 ++ [some ⟨true, 0, l0⟩]) 4 1 false false (.ptr h8.length 329 (0 + 24)) [] F = F (.sl h8.length 329 24 4) := fun F => by
      unfold sliceAK okSl boundsK
      simp only
      rw [b8]
      simp only
      rw [if_pos (by rw [hl0]; simp)]
    rw [hsl, hbg]
    unfold copyK
    rw [hci, bind_ok]
    dsimp only
    rw [b8, bind_ok]
    dsimp only
    rw [if_pos ⟨rfl, hl0, by omega⟩, intC_len, Nat.div_one, Nat.min_eq_left hil, Nat.mul_one, List.take_of_length_le (by rw [intC_len]; exact Nat.le_refl _), hsp, setBlk_last]
  · rw [List.take_append_of_le_length (Nat.le_refl _), List.take_length]; exact p8
theorem VNew_R (hE : vm_New_In E) {h : AHeap} {pc : List Cell} {P : PProg} (p : ProgAt h pc P) (hsm : P.small) (hu : ∀ x ∈ P.locs, 0 ≤ x ∧ x < 256) (hll : P.locs.length ≤ 1000) (hil : P.init.length ≤ 4) {m : Int} (hm : 1 ≤ m ∧ m ≤ 3) (hpok : pokB P = true) :
    ∃ n k pc' h', R E 171 [.agg pc, .c (.int .i64 m)] h = some ([.c (.ptr k 329 0), .c (.int .i64 0)], h') ∧ VmAt n h' k .nils pc' (MV.new P m) ∧ h.length ≤ n ∧ Kp h.length h h' := by
  obtain ⟨n, k, pc', h', r1, r2, r3, r4, _⟩ := VNew_S hE p hsm hu hll hil hm hpok
  exact ⟨n, k, pc', h', r1, r2, r3, r4⟩

end
end Jq

/- Machines: what stays so. -/
namespace Jq
open Go

theorem getDset {α : Type} {l : List α} {i : Nat} (hi : i < l.length) (y d : α) (j : Nat) : (l.set i y).getD j d = if j = i then y else l.getD j d := by
  rw [List.getD_eq_getElem?_getD, List.getD_eq_getElem?_getD, List.getElem?_set]
  by_cases h : i = j
  · subst h; rw [if_pos rfl, if_pos hi, if_pos rfl]; rfl
  · rw [if_neg h, if_neg (fun e => h e.symm)]

theorem startL_pc (P : PProg) (t : Int) : 0 ≤ (startL P t).pc := by
  unfold startL normL
  exact nrm_pc (code := P.code t) _ Lcl.zero

theorem MV.new_inv {P : PProg} {m : Int} (hm : 1 ≤ m ∧ m ≤ 3) (hs : P.small) (hf : ∀ c ∈ P.thr, ∀ i ∈ c, fldB (hasB P) i = true) (hl : P.locs.length ≤ 4) (hi : P.init.length ≤ 4) (hc : ∀ c ∈ P.thr, c.length ≤ 10) : (MV.new P m).Inv := by
  refine ⟨MV.new_fit hm hi, hs, hf, hl, hc, fun b hb e he => ?_, fun t ht => ?_⟩
  · simp [MV.new] at hb; subst hb; simp at he
  · match t with
    | 0 => exact startL_pc P 0
    | 1 => exact startL_pc P 1
    | 2 => exact startL_pc P 2
    | 3 => exact startL_pc P 3
    | t + 4 => omega

theorem MV.wr_lc (V : MV) (t : Nat) (e : Evt) : (V.wr t e).lc = V.lc ∧ (V.wr t e).P = V.P ∧ (V.wr t e).m = V.m := by
  unfold MV.wr; split <;> (try split) <;> exact ⟨rfl, rfl, rfl⟩

theorem MV.wr_bf (V : MV) (t : Nat) (e : Evt) : (V.wr t e).bf = if e.kind = 2 ∧ V.m ≠ 1 then V.bf.set t (V.b t ++ [⟨e.loc, e.w, V.st.length⟩]) else V.bf := by
  unfold MV.wr; split
  · rfl
  · split <;> rfl

/-- Facts of all four rows are facts of all rows. -/
theorem MV.rows_of {W : MV} (h4 : W.bf.length = 4) {p : List Ent → Prop} (h : ∀ t, t < 4 → p (W.b t)) : ∀ b ∈ W.bf, p b := by
  intro b hb
  obtain ⟨t, ht, rfl⟩ := List.mem_iff_getElem.1 hb
  have := h t (by omega)
  unfold MV.b at this
  rw [List.getD_eq_getElem?_getD, List.getElem?_eq_getElem ht] at this
  exact this

/-- A thread that may go on has an instruction. -/
theorem MV.may_thr {V : MV} {i : Nat} (hi : i < 4) (h : V.may i = true) : V.nxt i = some (V.thrI i) := by
  unfold MV.may at h
  rw [if_pos hi] at h
  unfold MV.mayT at h
  unfold MV.thrI
  cases hq : V.nxt i with
  | none => rw [hq] at h; cases h
  | some q => rfl

section nx
variable {V : MV} (v : V.Inv)
include v

theorem MV.Inv.thrL {i : Nat} (hi : i < 4) (q : Ins) (t : Nat) : (V.thrM i q).l t = if t = i then afterL (V.P.code i) (V.l i) (V.val i q).1 else V.l t := by
  show (V.lc.set i _).getD t Lcl.zero = _
  rw [getDset (by rw [v.fit.lc]; exact hi)]
  rfl
theorem MV.Inv.thrB {i : Nat} (hi : i < 4) (q : Ins) (t : Nat) : (V.thrM i q).b t = if t = i ∧ (evOf q (V.l i) (V.val i q).1).kind = 2 ∧ V.m ≠ 1 then V.b i ++ [⟨(evOf q (V.l i) (V.val i q).1).loc, (evOf q (V.l i) (V.val i q).1).w, V.st.length⟩] else V.b t := by
  show (V.wr i _).bf.getD t [] = _
  rw [V.wr_bf]
  split
  · rename_i h
    rw [getDset (by rw [v.fit.bf]; exact hi)]
    by_cases ht : t = i
    · rw [if_pos ht, if_pos ⟨ht, h⟩]
    · rw [if_neg ht, if_neg (fun q => ht q.1)]; rfl
  · rename_i h
    rw [if_neg (fun q => h q.2)]; rfl
theorem MV.Inv.fluB {i : Nat} (hi : i < 4) (loc : Int) (t : Nat) : (V.fluM i loc).b t = if t = i then (V.b i).eraseP (oldP (bmod V.m) loc) else V.b t := by
  show (V.bf.set i _).getD t [] = _
  rw [getDset (by rw [v.fit.bf]; exact hi)]
  rfl

theorem MV.Inv.mem_b {t : Nat} {e : Ent} (he : e ∈ V.b t) : 0 ≤ e.loc ∧ e.loc < 4 := by
  by_cases ht : t < V.bf.length
  · exact v.ents _ (List.mem_of_getElem? (MV.b_at ht)) e he
  · unfold MV.b at he
    rw [List.getD_eq_getElem?_getD, List.getElem?_eq_none (by omega)] at he
    simp at he

theorem MV.Inv.thr {i : Nat} (hi : i < 4) {q : Ins} (hq : V.nxt i = some q) : (V.thrM i q).Inv := by
  obtain ⟨q1, q2, q3, q4, q5⟩ := v.nxt hq
  have hb := v.thrB hi q
  have hl := v.thrL hi q
  have hpc : (V.l i).pc + 1 ≤ (afterL (V.P.code i) (V.l i) (V.val i q).1).pc := afterL_pc hq _
  have hev := evOf_loc (l := V.l i) (v := (V.val i q).1) q1
  obtain ⟨w1, w2, w3⟩ := V.wr_lc i (evOf q (V.l i) (V.val i q).1)
  have f := v.fit
  have e0 : (V.thrM i q).bf.length = 4 := by
    show (V.wr i _).bf.length = 4
    rw [V.wr_bf]; split
    · rw [List.length_set]; exact f.bf
    · exact f.bf
  have blen : ∀ t, t < 4 → ((V.thrM i q).b t).length ≤ 24 := fun t ht => by
    rw [hb]
    split
    · have := v.pcs i hi
      rw [List.length_append, List.length_singleton]; omega
    · exact v.blen ht
  have hmm : (V.thrM i q).m = V.m := w3
  have hPP : (V.thrM i q).P = V.P := w2
  refine ⟨⟨by rw [hmm]; exact f.m, by show (V.lc.set _ _).length = 4; rw [List.length_set]; exact f.lc, ?_, ?_, e0, MV.rows_of e0 blen⟩, by rw [hPP]; exact v.small, by rw [hPP]; exact v.fld, by rw [hPP]; exact v.locs, by rw [hPP]; exact v.c10, MV.rows_of e0 fun t ht e he => ?_, fun t ht => ?_⟩
  · show (V.wr i _).mem.length = 4
    unfold MV.wr; split
    · exact f.mem
    · split
      · rw [List.length_set]; exact f.mem
      · exact f.mem
  · show (V.wr i _).frm.length = 4
    unfold MV.wr; split
    · exact f.frm
    · split
      · rw [List.length_set]; exact f.frm
      · exact f.frm
  · rw [hb] at he
    split at he
    · rcases List.mem_append.1 he with he | he
      · exact v.mem_b he
      · rw [List.mem_singleton] at he; subst he; exact hev
    · exact v.mem_b he
  · rw [hb, hl]
    by_cases h : t = i
    · subst h
      rw [if_pos rfl]
      have := v.pcs t ht
      split
      · rw [List.length_append, List.length_singleton]; omega
      · omega
    · rw [if_neg h, if_neg (fun q => h q.1)]
      exact v.pcs t ht

theorem MV.Inv.flu {i : Nat} (hi : i < 4) (loc : Int) : (V.fluM i loc).Inv := by
  have hb := v.fluB hi loc
  have f := v.fit
  have e0 : (V.fluM i loc).bf.length = 4 := by show (V.bf.set _ _).length = 4; rw [List.length_set]; exact f.bf
  refine ⟨⟨f.m, f.lc, by show (V.mem.set _ _).length = 4; rw [List.length_set]; exact f.mem, by show (V.frm.set _ _).length = 4; rw [List.length_set]; exact f.frm, e0, MV.rows_of e0 fun t ht => ?_⟩, v.small, v.fld, v.locs, v.c10, MV.rows_of e0 fun t ht e he => ?_, fun t ht => ?_⟩
  · rw [hb]; split
    · exact Nat.le_trans List.length_eraseP_le (v.blen hi)
    · exact v.blen ht
  · rw [hb] at he
    split at he
    · exact v.mem_b (List.mem_of_mem_eraseP he)
    · exact v.mem_b he
  · rw [hb]
    show _ ≤ (V.l t).pc
    split
    · rename_i h
      subst h
      have := v.pcs t ht
      have h2 := List.length_eraseP_le (p := oldP (bmod V.m) loc) (l := V.b t)
      omega
    · exact v.pcs t ht

theorem MV.Inv.st {s : List Stp} : MV.Inv { V with st := s } := ⟨⟨v.fit.m, v.fit.lc, v.fit.mem, v.fit.frm, v.fit.bf, v.fit.b⟩, v.small, v.fld, v.locs, v.c10, v.ents, v.pcs⟩

theorem MV.Inv.nx {i : Nat} (h : V.may i = true) : (V.nx i).Inv := by
  have hi := MV.may_lt h
  unfold MV.nx
  split
  · rename_i h4
    exact (v.thr h4 (MV.may_thr h4 h)).st
  · split
    · exact (v.flu (by omega) _).st
    · exact (v.flu (by omega) _).st
end nx

theorem MV.nx_st (V : MV) (i : Nat) : (V.nx i).st = V.st ++ [V.stp i] := rfl
theorem MV.nx_P (V : MV) (i : Nat) : (V.nx i).P = V.P ∧ (V.nx i).m = V.m := by
  unfold MV.nx
  split
  · exact ⟨(V.wr_lc _ _).2.1, (V.wr_lc _ _).2.2⟩
  · split <;> exact ⟨rfl, rfl⟩
end Jq

namespace Jq
open Go


end Jq

namespace Jq
open Go


end Jq

/- What a function needs of an environment. -/
namespace Jq
open Go


end Jq

/- What a function needs of an environment. -/
namespace Jq
open Go


end Jq

namespace Jq
open Go


end Jq

namespace Jq
open Go


end Jq

namespace Jq
open Go

/- strconv.Itoa: 45 -/
set_option maxRecDepth 100000 in
theorem strconv_Itoa_eq (C : CallF) (L : LoopF) (G : Glo) (a0 : Int) (h0 : AHeap) :
    strconv_Itoa.body C L G [(.c (.int .i64 a0))] h0 =
    c1 (C 46 [(.c (.int .i64 a0))] h0) fun y_2 h_1 => asS y_2 fun z_3 => some ([(.c (.str z_3))], h_1) := by kernel_rfl


end Jq

namespace Jq
open Go

/- internal/strconv.Itoa: 46 -/
set_option maxRecDepth 100000 in
theorem istrconv_Itoa_eq (C : CallF) (L : LoopF) (G : Glo) (a0 : Int) (h0 : AHeap) :
    istrconv_Itoa.body C L G [(.c (.int .i64 a0))] h0 =
    c1 (C 47 [(.c (.int .i64 a0)), (.c (.int .i64 10))] h0) fun y_2 h_1 => asS y_2 fun z_3 => some ([(.c (.str z_3))], h_1) := by kernel_rfl

/- internal/strconv.FormatInt: 47 -/
set_option maxRecDepth 100000 in
theorem istrconv_FormatInt_eq (C : CallF) (L : LoopF) (G : Glo) (a0 : Int) (a1 : Int) (h0 : AHeap) :
    istrconv_FormatInt.body C L G [(.c (.int .i64 a0)), (.c (.int .i64 a1))] h0 =
    if (a1 == 10) = true then scK (decide (0 ≤ a0)) true (some ((decide (a0 < 100)), h0)) false h0 fun b_1 h_2 => if b_1 = true then c1 (C 48 [(.c (.int .i64 a0))] h_2) fun y_4 h_3 => asS y_4 fun z_5 => finish true h0 [(.c (.str z_5))] h_3 else if (decide (a0 < 0)) = true then c1 (C 49 [(.c (.int .u64 (G.wrap .u64 (0 - (G.wrap .u64 a0)))))] (h_2 ++ [some (Blk.mk true 0 (List.replicate 24 (Cell.int .u8 0)))])) fun y_7 h_6 => asI .i64 y_7 fun n_8 => sliceAK h_6 24 1 true true (.ptr h_2.length ((List.replicate 24 (Cell.int .u8 0)).length) 0) [.v (.c (.int .i64 1)), .v (.c (.int .i64 (G.wrap .i64 (1 + n_8))))] fun x_9 => c0 (C 50 [(.c x_9), (.c (.int .u64 (G.wrap .u64 (0 - (G.wrap .u64 a0)))))] h_6) fun h_10 => if (decide (a0 < 0)) = true then rdH h_10 h_2.length ((List.replicate 24 (Cell.int .u8 0)).length) fun l_11 => if 0 < l_11.length then putH h_10 h_2.length (l_11.set 0 (.int .u8 45)) fun h_12 => sliceAK h_12 24 1 false true (.ptr h_2.length ((List.replicate 24 (Cell.int .u8 0)).length) 0) [.v (.c (.int .i64 (G.wrap .i64 (1 + n_8))))] fun x_13 => (slCells h_12 1 x_13).bind fun l_14 => (bytesOf l_14).bind fun l_15 => finish true h0 [(.c (.str (ByteArray.mk l_15.toArray)))] h_12 else none else sliceAK h_10 24 1 true true (.ptr h_2.length ((List.replicate 24 (Cell.int .u8 0)).length) 0) [.v (.c (.int .i64 1)), .v (.c (.int .i64 (G.wrap .i64 (1 + n_8))))] fun x_16 => (slCells h_10 1 x_16).bind fun l_17 => (bytesOf l_17).bind fun l_18 => finish true h0 [(.c (.str (ByteArray.mk l_18.toArray)))] h_10 else c1 (C 49 [(.c (.int .u64 (G.wrap .u64 a0)))] (h_2 ++ [some (Blk.mk true 0 (List.replicate 24 (Cell.int .u8 0)))])) fun y_20 h_19 => asI .i64 y_20 fun n_21 => sliceAK h_19 24 1 true true (.ptr h_2.length ((List.replicate 24 (Cell.int .u8 0)).length) 0) [.v (.c (.int .i64 1)), .v (.c (.int .i64 (G.wrap .i64 (1 + n_21))))] fun x_22 => c0 (C 50 [(.c x_22), (.c (.int .u64 (G.wrap .u64 a0)))] h_19) fun h_23 => if (decide (a0 < 0)) = true then rdH h_23 h_2.length ((List.replicate 24 (Cell.int .u8 0)).length) fun l_24 => if 0 < l_24.length then putH h_23 h_2.length (l_24.set 0 (.int .u8 45)) fun h_25 => sliceAK h_25 24 1 false true (.ptr h_2.length ((List.replicate 24 (Cell.int .u8 0)).length) 0) [.v (.c (.int .i64 (G.wrap .i64 (1 + n_21))))] fun x_26 => (slCells h_25 1 x_26).bind fun l_27 => (bytesOf l_27).bind fun l_28 => finish true h0 [(.c (.str (ByteArray.mk l_28.toArray)))] h_25 else none else sliceAK h_23 24 1 true true (.ptr h_2.length ((List.replicate 24 (Cell.int .u8 0)).length) 0) [.v (.c (.int .i64 1)), .v (.c (.int .i64 (G.wrap .i64 (1 + n_21))))] fun x_29 => (slCells h_23 1 x_29).bind fun l_30 => (bytesOf l_30).bind fun l_31 => finish true h0 [(.c (.str (ByteArray.mk l_31.toArray)))] h_23 else c2 (C 51 [(.c .nils), (.c (.int .u64 (G.wrap .u64 a0))), (.c (.int .i64 a1)), (.c (.bool (decide (a0 < 0)))), (.c (.bool false))] h0) fun y_33 y_34 h_32 => asC y_33 fun x_35 => asS y_34 fun z_36 => finish true h0 [(.c (.str z_36))] h_32 := by kernel_rfl

/- internal/strconv.small: 48 -/
set_option maxRecDepth 100000 in
theorem istrconv_small_eq (C : CallF) (L : LoopF) (G : Glo) (a0 : Int) (h0 : AHeap) :
    istrconv_small.body C L G [(.c (.int .i64 a0))] h0 =
    if (decide (a0 < 10)) = true then sliceStrK true true (.str (ByteArray.mk #[48, 49, 50, 51, 52, 53, 54, 55, 56, 57, 97, 98, 99, 100, 101, 102, 103, 104, 105, 106, 107, 108, 109, 110, 111, 112, 113, 114, 115, 116, 117, 118, 119, 120, 121, 122])) [.v (.c (.int .i64 a0)), .v (.c (.int .i64 (G.wrap .i64 (a0 + 1))))] fun x_1 => some ([(.c (.str x_1))], h0) else let v_2 : Int := (G.wrap .i64 ((G.wrap .i64 (a0 * 2)) + 2)); sliceStrK true true (.str (ByteArray.mk #[48, 48, 48, 49, 48, 50, 48, 51, 48, 52, 48, 53, 48, 54, 48, 55, 48, 56, 48, 57, 49, 48, 49, 49, 49, 50, 49, 51, 49, 52, 49, 53, 49, 54, 49, 55, 49, 56, 49, 57, 50, 48, 50, 49, 50, 50, 50, 51, 50, 52, 50, 53, 50, 54, 50, 55, 50, 56, 50, 57, 51, 48, 51, 49, 51, 50, 51, 51, 51, 52, 51, 53, 51, 54, 51, 55, 51, 56, 51, 57, 52, 48, 52, 49, 52, 50, 52, 51, 52, 52, 52, 53, 52, 54, 52, 55, 52, 56, 52, 57, 53, 48, 53, 49, 53, 50, 53, 51, 53, 52, 53, 53, 53, 54, 53, 55, 53, 56, 53, 57, 54, 48, 54, 49, 54, 50, 54, 51, 54, 52, 54, 53, 54, 54, 54, 55, 54, 56, 54, 57, 55, 48, 55, 49, 55, 50, 55, 51, 55, 52, 55, 53, 55, 54, 55, 55, 55, 56, 55, 57, 56, 48, 56, 49, 56, 50, 56, 51, 56, 52, 56, 53, 56, 54, 56, 55, 56, 56, 56, 57, 57, 48, 57, 49, 57, 50, 57, 51, 57, 52, 57, 53, 57, 54, 57, 55, 57, 56, 57, 57])) [.v (.c (.int .i64 (G.wrap .i64 (a0 * 2)))), .v (.c (.int .i64 v_2))] fun x_3 => some ([(.c (.str x_3))], h0) := by kernel_rfl


end Jq

/- NamesNumbers: every number is the document's. -/
namespace Jq
open Go

variable {E : Env}

theorem Itoa_of (hE : strconv_Itoa_In E) {a : Int} {z : ByteArray} (ha : 0 ≤ a ∧ a < 100) {h : AHeap} (small : R E 48 [.c (.int .i64 a)] h = some ([.c (.str z)], h)) : R E 45 [.c (.int .i64 a)] h = some ([.c (.str z)], h) := by
  refine R_intro hE.fn ?_
  have fmt : R E 47 [.c (.int .i64 a), .c (.int .i64 10)] h = some ([.c (.str z)], h) := by
    refine R_intro hE.c46.c47.fn ?_
    rw [istrconv_FormatInt_eq, if_pos (by rfl), scK_and, if_pos (by simp; omega), small, c1_ok, asS_ok]
    exact finish_gc (Kp.refl _ _) (by simp [avOk, AV.cells, idOk])
  have it : R E 46 [.c (.int .i64 a)] h = some ([.c (.str z)], h) := by
    refine R_intro hE.c46.fn ?_
    rw [istrconv_Itoa_eq, fmt, c1_ok, asS_ok]
  rw [strconv_Itoa_eq, it, c1_ok, asS_ok]

/-- The numbers. -/
def nums : List (Int × Int) := [(0, 0), (1, 1), (2, 2), (4, 4), (5, 5), (6, 6), (7, 7), (8, 8), (9, 9), (10, 10), (4000, 4000), (4, 4), (10, 10), (24, 24), (4, 4), (1, 1), (2, 2), (3, 3), (4, 4), (5, 5), (6, 6), (7, 7), (8, 8), (9, 9), (10, 10), (11, 11), (1, 1), (2, 2), (3, 3), (4, 4), (1, 1), (2, 2), (3, 3), (4, 4), (5, 5), (6, 6), (1, 1), (2, 2), (1, 1), (2, 2), (3, 3), (4, 4), (5, 5), (6, 6), (1, 1), (2, 2), (3, 3), (0, 0), (1, 1), (2, 2), (1, 1), (2, 2), (3, 3), (4, 4), (5, 5), (6, 6), (7, 7), (8, 8), (9, 9), (10, 10), (11, 11), (12, 12), (13, 13)]

end Jq

namespace Jq
open Go

/- jacquard/jacquardlaw12.SB: 187 -/
set_option maxRecDepth 100000 in
theorem jacquardlaw12_SB_eq (C : CallF) (L : LoopF) (G : Glo)  (h0 : AHeap) :
    jacquardlaw12_SB.body C L G [] h0 =
    if 0 = 0 ∧ [Cell.int .i64 0, Cell.int .i64 0].length = 2 ∧ (splice (splice [Cell.int .i64 0, Cell.int .i64 0] 0 ([(.int .i64 (-1))] : List Cell)) 1 ([(.int .i64 1)] : List Cell)).length = 2 then if (splice (splice [Cell.int .u8 0, Cell.int .u8 0] 0 ([(.int .u8 120)] : List Cell)) 1 ([(.int .u8 121)] : List Cell)).length = 2 * 1 then markK (.sl h0.length ((splice (splice [Cell.int .u8 0, Cell.int .u8 0] 0 ([(.int .u8 120)] : List Cell)) 1 ([(.int .u8 121)] : List Cell)).length) 0 2) (h0 ++ [some (Blk.mk true 1 (splice (splice [Cell.int .u8 0, Cell.int .u8 0] 0 ([(.int .u8 120)] : List Cell)) 1 ([(.int .u8 121)] : List Cell)))]) fun x_1 h_2 => if (splice (splice [Cell.int .i64 0, Cell.int .i64 0] 0 ([(.int .i64 0)] : List Cell)) 1 ([(.int .i64 0)] : List Cell)).length = 2 * 1 then if 0 = 0 ∧ (splice (splice [Cell.int .i64 0, Cell.int .i64 0] 0 ([(.int .i64 (-1))] : List Cell)) 1 ([(.int .i64 1)] : List Cell)).length = 2 then if (splice (splice [Cell.int .i64 0, Cell.int .i64 0] 0 ([(.int .i64 (-1))] : List Cell)) 1 ([(.int .i64 1)] : List Cell)).length = 2 ∧ 3 + 2 ≤ (splice (splice (List.replicate 9 (Cell.int .i64 0)) 0 ([(.int .i64 1)] : List Cell)) 2 ([(.int .i64 0)] : List Cell)).length then if (splice (splice (splice (List.replicate 9 (Cell.int .i64 0)) 0 ([(.int .i64 1)] : List Cell)) 2 ([(.int .i64 0)] : List Cell)) 3 (splice (splice [Cell.int .i64 0, Cell.int .i64 0] 0 ([(.int .i64 (-1))] : List Cell)) 1 ([(.int .i64 1)] : List Cell))).length = 9 ∧ 0 + 9 ≤ (List.replicate 18 (Cell.int .i64 0)).length then if (splice (splice (List.replicate 9 (Cell.int .i64 0)) 0 ([(.int .i64 2)] : List Cell)) 2 ([(.int .i64 1)] : List Cell)).length = 9 ∧ 9 + 9 ≤ (splice (List.replicate 18 (Cell.int .i64 0)) 0 (splice (splice (splice (List.replicate 9 (Cell.int .i64 0)) 0 ([(.int .i64 1)] : List Cell)) 2 ([(.int .i64 0)] : List Cell)) 3 (splice (splice [Cell.int .i64 0, Cell.int .i64 0] 0 ([(.int .i64 (-1))] : List Cell)) 1 ([(.int .i64 1)] : List Cell)))).length then if (splice (splice (List.replicate 18 (Cell.int .i64 0)) 0 (splice (splice (splice (List.replicate 9 (Cell.int .i64 0)) 0 ([(.int .i64 1)] : List Cell)) 2 ([(.int .i64 0)] : List Cell)) 3 (splice (splice [Cell.int .i64 0, Cell.int .i64 0] 0 ([(.int .i64 (-1))] : List Cell)) 1 ([(.int .i64 1)] : List Cell)))) 9 (splice (splice (List.replicate 9 (Cell.int .i64 0)) 0 ([(.int .i64 2)] : List Cell)) 2 ([(.int .i64 1)] : List Cell))).length = 2 * 9 then if 0 = 0 ∧ (splice (splice [Cell.int .i64 0, Cell.int .i64 0] 0 ([(.int .i64 (-1))] : List Cell)) 1 ([(.int .i64 1)] : List Cell)).length = 2 then if (splice (splice [Cell.int .i64 0, Cell.int .i64 0] 0 ([(.int .i64 (-1))] : List Cell)) 1 ([(.int .i64 1)] : List Cell)).length = 2 ∧ 3 + 2 ≤ (splice (splice (List.replicate 9 (Cell.int .i64 0)) 0 ([(.int .i64 1)] : List Cell)) 2 ([(.int .i64 1)] : List Cell)).length then if (splice (splice (splice (List.replicate 9 (Cell.int .i64 0)) 0 ([(.int .i64 1)] : List Cell)) 2 ([(.int .i64 1)] : List Cell)) 3 (splice (splice [Cell.int .i64 0, Cell.int .i64 0] 0 ([(.int .i64 (-1))] : List Cell)) 1 ([(.int .i64 1)] : List Cell))).length = 9 ∧ 0 + 9 ≤ (List.replicate 18 (Cell.int .i64 0)).length then if (splice (splice (List.replicate 9 (Cell.int .i64 0)) 0 ([(.int .i64 2)] : List Cell)) 2 ([(.int .i64 0)] : List Cell)).length = 9 ∧ 9 + 9 ≤ (splice (List.replicate 18 (Cell.int .i64 0)) 0 (splice (splice (splice (List.replicate 9 (Cell.int .i64 0)) 0 ([(.int .i64 1)] : List Cell)) 2 ([(.int .i64 1)] : List Cell)) 3 (splice (splice [Cell.int .i64 0, Cell.int .i64 0] 0 ([(.int .i64 (-1))] : List Cell)) 1 ([(.int .i64 1)] : List Cell)))).length then if (splice (splice (List.replicate 18 (Cell.int .i64 0)) 0 (splice (splice (splice (List.replicate 9 (Cell.int .i64 0)) 0 ([(.int .i64 1)] : List Cell)) 2 ([(.int .i64 1)] : List Cell)) 3 (splice (splice [Cell.int .i64 0, Cell.int .i64 0] 0 ([(.int .i64 (-1))] : List Cell)) 1 ([(.int .i64 1)] : List Cell)))) 9 (splice (splice (List.replicate 9 (Cell.int .i64 0)) 0 ([(.int .i64 2)] : List Cell)) 2 ([(.int .i64 0)] : List Cell))).length = 2 * 9 then if (splice (splice [Cell.nils, Cell.nils] 0 ([(.sl ((h_2 ++ [some (Blk.mk true 1 (splice (splice [Cell.int .i64 0, Cell.int .i64 0] 0 ([(.int .i64 0)] : List Cell)) 1 ([(.int .i64 0)] : List Cell)))]).length) ((splice (splice (List.replicate 18 (Cell.int .i64 0)) 0 (splice (splice (splice (List.replicate 9 (Cell.int .i64 0)) 0 ([(.int .i64 1)] : List Cell)) 2 ([(.int .i64 0)] : List Cell)) 3 (splice (splice [Cell.int .i64 0, Cell.int .i64 0] 0 ([(.int .i64 (-1))] : List Cell)) 1 ([(.int .i64 1)] : List Cell)))) 9 (splice (splice (List.replicate 9 (Cell.int .i64 0)) 0 ([(.int .i64 2)] : List Cell)) 2 ([(.int .i64 1)] : List Cell))).length) 0 2)] : List Cell)) 1 ([(.sl (((h_2 ++ [some (Blk.mk true 1 (splice (splice [Cell.int .i64 0, Cell.int .i64 0] 0 ([(.int .i64 0)] : List Cell)) 1 ([(.int .i64 0)] : List Cell)))]) ++ [some (Blk.mk true 9 (splice (splice (List.replicate 18 (Cell.int .i64 0)) 0 (splice (splice (splice (List.replicate 9 (Cell.int .i64 0)) 0 ([(.int .i64 1)] : List Cell)) 2 ([(.int .i64 0)] : List Cell)) 3 (splice (splice [Cell.int .i64 0, Cell.int .i64 0] 0 ([(.int .i64 (-1))] : List Cell)) 1 ([(.int .i64 1)] : List Cell)))) 9 (splice (splice (List.replicate 9 (Cell.int .i64 0)) 0 ([(.int .i64 2)] : List Cell)) 2 ([(.int .i64 1)] : List Cell))))]).length) ((splice (splice (List.replicate 18 (Cell.int .i64 0)) 0 (splice (splice (splice (List.replicate 9 (Cell.int .i64 0)) 0 ([(.int .i64 1)] : List Cell)) 2 ([(.int .i64 1)] : List Cell)) 3 (splice (splice [Cell.int .i64 0, Cell.int .i64 0] 0 ([(.int .i64 (-1))] : List Cell)) 1 ([(.int .i64 1)] : List Cell)))) 9 (splice (splice (List.replicate 9 (Cell.int .i64 0)) 0 ([(.int .i64 2)] : List Cell)) 2 ([(.int .i64 0)] : List Cell))).length) 0 2)] : List Cell)).length = 2 * 1 then if 0 = 0 ∧ [Cell.nils, Cell.nils, Cell.nils].length = 3 ∧ (splice (splice (splice [Cell.nils, Cell.nils, Cell.nils] 0 ([x_1] : List Cell)) 1 ([(.sl h_2.length ((splice (splice [Cell.int .i64 0, Cell.int .i64 0] 0 ([(.int .i64 0)] : List Cell)) 1 ([(.int .i64 0)] : List Cell)).length) 0 2)] : List Cell)) 2 ([(.sl ((((h_2 ++ [some (Blk.mk true 1 (splice (splice [Cell.int .i64 0, Cell.int .i64 0] 0 ([(.int .i64 0)] : List Cell)) 1 ([(.int .i64 0)] : List Cell)))]) ++ [some (Blk.mk true 9 (splice (splice (List.replicate 18 (Cell.int .i64 0)) 0 (splice (splice (splice (List.replicate 9 (Cell.int .i64 0)) 0 ([(.int .i64 1)] : List Cell)) 2 ([(.int .i64 0)] : List Cell)) 3 (splice (splice [Cell.int .i64 0, Cell.int .i64 0] 0 ([(.int .i64 (-1))] : List Cell)) 1 ([(.int .i64 1)] : List Cell)))) 9 (splice (splice (List.replicate 9 (Cell.int .i64 0)) 0 ([(.int .i64 2)] : List Cell)) 2 ([(.int .i64 1)] : List Cell))))]) ++ [some (Blk.mk true 9 (splice (splice (List.replicate 18 (Cell.int .i64 0)) 0 (splice (splice (splice (List.replicate 9 (Cell.int .i64 0)) 0 ([(.int .i64 1)] : List Cell)) 2 ([(.int .i64 1)] : List Cell)) 3 (splice (splice [Cell.int .i64 0, Cell.int .i64 0] 0 ([(.int .i64 (-1))] : List Cell)) 1 ([(.int .i64 1)] : List Cell)))) 9 (splice (splice (List.replicate 9 (Cell.int .i64 0)) 0 ([(.int .i64 2)] : List Cell)) 2 ([(.int .i64 0)] : List Cell))))]).length) ((splice (splice [Cell.nils, Cell.nils] 0 ([(.sl ((h_2 ++ [some (Blk.mk true 1 (splice (splice [Cell.int .i64 0, Cell.int .i64 0] 0 ([(.int .i64 0)] : List Cell)) 1 ([(.int .i64 0)] : List Cell)))]).length) ((splice (splice (List.replicate 18 (Cell.int .i64 0)) 0 (splice (splice (splice (List.replicate 9 (Cell.int .i64 0)) 0 ([(.int .i64 1)] : List Cell)) 2 ([(.int .i64 0)] : List Cell)) 3 (splice (splice [Cell.int .i64 0, Cell.int .i64 0] 0 ([(.int .i64 (-1))] : List Cell)) 1 ([(.int .i64 1)] : List Cell)))) 9 (splice (splice (List.replicate 9 (Cell.int .i64 0)) 0 ([(.int .i64 2)] : List Cell)) 2 ([(.int .i64 1)] : List Cell))).length) 0 2)] : List Cell)) 1 ([(.sl (((h_2 ++ [some (Blk.mk true 1 (splice (splice [Cell.int .i64 0, Cell.int .i64 0] 0 ([(.int .i64 0)] : List Cell)) 1 ([(.int .i64 0)] : List Cell)))]) ++ [some (Blk.mk true 9 (splice (splice (List.replicate 18 (Cell.int .i64 0)) 0 (splice (splice (splice (List.replicate 9 (Cell.int .i64 0)) 0 ([(.int .i64 1)] : List Cell)) 2 ([(.int .i64 0)] : List Cell)) 3 (splice (splice [Cell.int .i64 0, Cell.int .i64 0] 0 ([(.int .i64 (-1))] : List Cell)) 1 ([(.int .i64 1)] : List Cell)))) 9 (splice (splice (List.replicate 9 (Cell.int .i64 0)) 0 ([(.int .i64 2)] : List Cell)) 2 ([(.int .i64 1)] : List Cell))))]).length) ((splice (splice (List.replicate 18 (Cell.int .i64 0)) 0 (splice (splice (splice (List.replicate 9 (Cell.int .i64 0)) 0 ([(.int .i64 1)] : List Cell)) 2 ([(.int .i64 1)] : List Cell)) 3 (splice (splice [Cell.int .i64 0, Cell.int .i64 0] 0 ([(.int .i64 (-1))] : List Cell)) 1 ([(.int .i64 1)] : List Cell)))) 9 (splice (splice (List.replicate 9 (Cell.int .i64 0)) 0 ([(.int .i64 2)] : List Cell)) 2 ([(.int .i64 0)] : List Cell))).length) 0 2)] : List Cell)).length) 0 2)] : List Cell)).length = 3 then if 0 = 0 ∧ (splice (splice (splice [Cell.nils, Cell.nils, Cell.nils] 0 ([x_1] : List Cell)) 1 ([(.sl h_2.length ((splice (splice [Cell.int .i64 0, Cell.int .i64 0] 0 ([(.int .i64 0)] : List Cell)) 1 ([(.int .i64 0)] : List Cell)).length) 0 2)] : List Cell)) 2 ([(.sl ((((h_2 ++ [some (Blk.mk true 1 (splice (splice [Cell.int .i64 0, Cell.int .i64 0] 0 ([(.int .i64 0)] : List Cell)) 1 ([(.int .i64 0)] : List Cell)))]) ++ [some (Blk.mk true 9 (splice (splice (List.replicate 18 (Cell.int .i64 0)) 0 (splice (splice (splice (List.replicate 9 (Cell.int .i64 0)) 0 ([(.int .i64 1)] : List Cell)) 2 ([(.int .i64 0)] : List Cell)) 3 (splice (splice [Cell.int .i64 0, Cell.int .i64 0] 0 ([(.int .i64 (-1))] : List Cell)) 1 ([(.int .i64 1)] : List Cell)))) 9 (splice (splice (List.replicate 9 (Cell.int .i64 0)) 0 ([(.int .i64 2)] : List Cell)) 2 ([(.int .i64 1)] : List Cell))))]) ++ [some (Blk.mk true 9 (splice (splice (List.replicate 18 (Cell.int .i64 0)) 0 (splice (splice (splice (List.replicate 9 (Cell.int .i64 0)) 0 ([(.int .i64 1)] : List Cell)) 2 ([(.int .i64 1)] : List Cell)) 3 (splice (splice [Cell.int .i64 0, Cell.int .i64 0] 0 ([(.int .i64 (-1))] : List Cell)) 1 ([(.int .i64 1)] : List Cell)))) 9 (splice (splice (List.replicate 9 (Cell.int .i64 0)) 0 ([(.int .i64 2)] : List Cell)) 2 ([(.int .i64 0)] : List Cell))))]).length) ((splice (splice [Cell.nils, Cell.nils] 0 ([(.sl ((h_2 ++ [some (Blk.mk true 1 (splice (splice [Cell.int .i64 0, Cell.int .i64 0] 0 ([(.int .i64 0)] : List Cell)) 1 ([(.int .i64 0)] : List Cell)))]).length) ((splice (splice (List.replicate 18 (Cell.int .i64 0)) 0 (splice (splice (splice (List.replicate 9 (Cell.int .i64 0)) 0 ([(.int .i64 1)] : List Cell)) 2 ([(.int .i64 0)] : List Cell)) 3 (splice (splice [Cell.int .i64 0, Cell.int .i64 0] 0 ([(.int .i64 (-1))] : List Cell)) 1 ([(.int .i64 1)] : List Cell)))) 9 (splice (splice (List.replicate 9 (Cell.int .i64 0)) 0 ([(.int .i64 2)] : List Cell)) 2 ([(.int .i64 1)] : List Cell))).length) 0 2)] : List Cell)) 1 ([(.sl (((h_2 ++ [some (Blk.mk true 1 (splice (splice [Cell.int .i64 0, Cell.int .i64 0] 0 ([(.int .i64 0)] : List Cell)) 1 ([(.int .i64 0)] : List Cell)))]) ++ [some (Blk.mk true 9 (splice (splice (List.replicate 18 (Cell.int .i64 0)) 0 (splice (splice (splice (List.replicate 9 (Cell.int .i64 0)) 0 ([(.int .i64 1)] : List Cell)) 2 ([(.int .i64 0)] : List Cell)) 3 (splice (splice [Cell.int .i64 0, Cell.int .i64 0] 0 ([(.int .i64 (-1))] : List Cell)) 1 ([(.int .i64 1)] : List Cell)))) 9 (splice (splice (List.replicate 9 (Cell.int .i64 0)) 0 ([(.int .i64 2)] : List Cell)) 2 ([(.int .i64 1)] : List Cell))))]).length) ((splice (splice (List.replicate 18 (Cell.int .i64 0)) 0 (splice (splice (splice (List.replicate 9 (Cell.int .i64 0)) 0 ([(.int .i64 1)] : List Cell)) 2 ([(.int .i64 1)] : List Cell)) 3 (splice (splice [Cell.int .i64 0, Cell.int .i64 0] 0 ([(.int .i64 (-1))] : List Cell)) 1 ([(.int .i64 1)] : List Cell)))) 9 (splice (splice (List.replicate 9 (Cell.int .i64 0)) 0 ([(.int .i64 2)] : List Cell)) 2 ([(.int .i64 0)] : List Cell))).length) 0 2)] : List Cell)).length) 0 2)] : List Cell)).length = 3 then some ([(.agg (splice (splice (splice [Cell.nils, Cell.nils, Cell.nils] 0 ([x_1] : List Cell)) 1 ([(.sl h_2.length ((splice (splice [Cell.int .i64 0, Cell.int .i64 0] 0 ([(.int .i64 0)] : List Cell)) 1 ([(.int .i64 0)] : List Cell)).length) 0 2)] : List Cell)) 2 ([(.sl ((((h_2 ++ [some (Blk.mk true 1 (splice (splice [Cell.int .i64 0, Cell.int .i64 0] 0 ([(.int .i64 0)] : List Cell)) 1 ([(.int .i64 0)] : List Cell)))]) ++ [some (Blk.mk true 9 (splice (splice (List.replicate 18 (Cell.int .i64 0)) 0 (splice (splice (splice (List.replicate 9 (Cell.int .i64 0)) 0 ([(.int .i64 1)] : List Cell)) 2 ([(.int .i64 0)] : List Cell)) 3 (splice (splice [Cell.int .i64 0, Cell.int .i64 0] 0 ([(.int .i64 (-1))] : List Cell)) 1 ([(.int .i64 1)] : List Cell)))) 9 (splice (splice (List.replicate 9 (Cell.int .i64 0)) 0 ([(.int .i64 2)] : List Cell)) 2 ([(.int .i64 1)] : List Cell))))]) ++ [some (Blk.mk true 9 (splice (splice (List.replicate 18 (Cell.int .i64 0)) 0 (splice (splice (splice (List.replicate 9 (Cell.int .i64 0)) 0 ([(.int .i64 1)] : List Cell)) 2 ([(.int .i64 1)] : List Cell)) 3 (splice (splice [Cell.int .i64 0, Cell.int .i64 0] 0 ([(.int .i64 (-1))] : List Cell)) 1 ([(.int .i64 1)] : List Cell)))) 9 (splice (splice (List.replicate 9 (Cell.int .i64 0)) 0 ([(.int .i64 2)] : List Cell)) 2 ([(.int .i64 0)] : List Cell))))]).length) ((splice (splice [Cell.nils, Cell.nils] 0 ([(.sl ((h_2 ++ [some (Blk.mk true 1 (splice (splice [Cell.int .i64 0, Cell.int .i64 0] 0 ([(.int .i64 0)] : List Cell)) 1 ([(.int .i64 0)] : List Cell)))]).length) ((splice (splice (List.replicate 18 (Cell.int .i64 0)) 0 (splice (splice (splice (List.replicate 9 (Cell.int .i64 0)) 0 ([(.int .i64 1)] : List Cell)) 2 ([(.int .i64 0)] : List Cell)) 3 (splice (splice [Cell.int .i64 0, Cell.int .i64 0] 0 ([(.int .i64 (-1))] : List Cell)) 1 ([(.int .i64 1)] : List Cell)))) 9 (splice (splice (List.replicate 9 (Cell.int .i64 0)) 0 ([(.int .i64 2)] : List Cell)) 2 ([(.int .i64 1)] : List Cell))).length) 0 2)] : List Cell)) 1 ([(.sl (((h_2 ++ [some (Blk.mk true 1 (splice (splice [Cell.int .i64 0, Cell.int .i64 0] 0 ([(.int .i64 0)] : List Cell)) 1 ([(.int .i64 0)] : List Cell)))]) ++ [some (Blk.mk true 9 (splice (splice (List.replicate 18 (Cell.int .i64 0)) 0 (splice (splice (splice (List.replicate 9 (Cell.int .i64 0)) 0 ([(.int .i64 1)] : List Cell)) 2 ([(.int .i64 0)] : List Cell)) 3 (splice (splice [Cell.int .i64 0, Cell.int .i64 0] 0 ([(.int .i64 (-1))] : List Cell)) 1 ([(.int .i64 1)] : List Cell)))) 9 (splice (splice (List.replicate 9 (Cell.int .i64 0)) 0 ([(.int .i64 2)] : List Cell)) 2 ([(.int .i64 1)] : List Cell))))]).length) ((splice (splice (List.replicate 18 (Cell.int .i64 0)) 0 (splice (splice (splice (List.replicate 9 (Cell.int .i64 0)) 0 ([(.int .i64 1)] : List Cell)) 2 ([(.int .i64 1)] : List Cell)) 3 (splice (splice [Cell.int .i64 0, Cell.int .i64 0] 0 ([(.int .i64 (-1))] : List Cell)) 1 ([(.int .i64 1)] : List Cell)))) 9 (splice (splice (List.replicate 9 (Cell.int .i64 0)) 0 ([(.int .i64 2)] : List Cell)) 2 ([(.int .i64 0)] : List Cell))).length) 0 2)] : List Cell)).length) 0 2)] : List Cell)))], ((((h_2 ++ [some (Blk.mk true 1 (splice (splice [Cell.int .i64 0, Cell.int .i64 0] 0 ([(.int .i64 0)] : List Cell)) 1 ([(.int .i64 0)] : List Cell)))]) ++ [some (Blk.mk true 9 (splice (splice (List.replicate 18 (Cell.int .i64 0)) 0 (splice (splice (splice (List.replicate 9 (Cell.int .i64 0)) 0 ([(.int .i64 1)] : List Cell)) 2 ([(.int .i64 0)] : List Cell)) 3 (splice (splice [Cell.int .i64 0, Cell.int .i64 0] 0 ([(.int .i64 (-1))] : List Cell)) 1 ([(.int .i64 1)] : List Cell)))) 9 (splice (splice (List.replicate 9 (Cell.int .i64 0)) 0 ([(.int .i64 2)] : List Cell)) 2 ([(.int .i64 1)] : List Cell))))]) ++ [some (Blk.mk true 9 (splice (splice (List.replicate 18 (Cell.int .i64 0)) 0 (splice (splice (splice (List.replicate 9 (Cell.int .i64 0)) 0 ([(.int .i64 1)] : List Cell)) 2 ([(.int .i64 1)] : List Cell)) 3 (splice (splice [Cell.int .i64 0, Cell.int .i64 0] 0 ([(.int .i64 (-1))] : List Cell)) 1 ([(.int .i64 1)] : List Cell)))) 9 (splice (splice (List.replicate 9 (Cell.int .i64 0)) 0 ([(.int .i64 2)] : List Cell)) 2 ([(.int .i64 0)] : List Cell))))]) ++ [some (Blk.mk true 1 (splice (splice [Cell.nils, Cell.nils] 0 ([(.sl ((h_2 ++ [some (Blk.mk true 1 (splice (splice [Cell.int .i64 0, Cell.int .i64 0] 0 ([(.int .i64 0)] : List Cell)) 1 ([(.int .i64 0)] : List Cell)))]).length) ((splice (splice (List.replicate 18 (Cell.int .i64 0)) 0 (splice (splice (splice (List.replicate 9 (Cell.int .i64 0)) 0 ([(.int .i64 1)] : List Cell)) 2 ([(.int .i64 0)] : List Cell)) 3 (splice (splice [Cell.int .i64 0, Cell.int .i64 0] 0 ([(.int .i64 (-1))] : List Cell)) 1 ([(.int .i64 1)] : List Cell)))) 9 (splice (splice (List.replicate 9 (Cell.int .i64 0)) 0 ([(.int .i64 2)] : List Cell)) 2 ([(.int .i64 1)] : List Cell))).length) 0 2)] : List Cell)) 1 ([(.sl (((h_2 ++ [some (Blk.mk true 1 (splice (splice [Cell.int .i64 0, Cell.int .i64 0] 0 ([(.int .i64 0)] : List Cell)) 1 ([(.int .i64 0)] : List Cell)))]) ++ [some (Blk.mk true 9 (splice (splice (List.replicate 18 (Cell.int .i64 0)) 0 (splice (splice (splice (List.replicate 9 (Cell.int .i64 0)) 0 ([(.int .i64 1)] : List Cell)) 2 ([(.int .i64 0)] : List Cell)) 3 (splice (splice [Cell.int .i64 0, Cell.int .i64 0] 0 ([(.int .i64 (-1))] : List Cell)) 1 ([(.int .i64 1)] : List Cell)))) 9 (splice (splice (List.replicate 9 (Cell.int .i64 0)) 0 ([(.int .i64 2)] : List Cell)) 2 ([(.int .i64 1)] : List Cell))))]).length) ((splice (splice (List.replicate 18 (Cell.int .i64 0)) 0 (splice (splice (splice (List.replicate 9 (Cell.int .i64 0)) 0 ([(.int .i64 1)] : List Cell)) 2 ([(.int .i64 1)] : List Cell)) 3 (splice (splice [Cell.int .i64 0, Cell.int .i64 0] 0 ([(.int .i64 (-1))] : List Cell)) 1 ([(.int .i64 1)] : List Cell)))) 9 (splice (splice (List.replicate 9 (Cell.int .i64 0)) 0 ([(.int .i64 2)] : List Cell)) 2 ([(.int .i64 0)] : List Cell))).length) 0 2)] : List Cell)))])) else none else none else none else none else none else none else none else none else none else none else none else none else none else none else none else none := by kernel_rfl


end Jq

namespace Jq
open Go


end Jq

/- What a function needs of an environment. -/
namespace Jq
open Go


end Jq

namespace Jq
open Go


end Jq

/- Machines: names, and what the document fixes. -/
namespace Jq
open Go

section
variable {E : Env}

def sbC (a b : Int) : List Ins := [⟨1, 0, a, ⟨-1, 1⟩, 0, ⟨0, 0⟩, 0⟩, ⟨2, 0, b, ⟨0, 0⟩, 0, ⟨0, 0⟩, 0⟩]
/-- Two threads, each stores and loads. -/
def sbP : PProg := ⟨[120, 121], [0, 0], [sbC 0 1, sbC 1 0]⟩

theorem SB_R (hE : jacquardlaw12_SB_In E) (h : AHeap) : ∃ cs h', R E 187 [] h = some ([.agg cs], h') ∧ ProgAt h' cs sbP ∧ Kp h.length h h' := by
  have hmark : ∀ {α : Type} (f : Cell → AHeap → Option α), markK (.sl h.length ((splice (splice [Cell.int .u8 0, Cell.int .u8 0] 0 ([(.int .u8 120)] : List Cell)) 1 ([(.int .u8 121)] : List Cell)).length) 0 2) (h ++ [some (Blk.mk true 1 (splice (splice [Cell.int .u8 0, Cell.int .u8 0] 0 ([(.int .u8 120)] : List Cell)) 1 ([(.int .u8 121)] : List Cell)))]) f = f (.sl h.length 2 0 2) (h ++ [some ⟨false, 1, intC .u8 [120, 121]⟩]) := by
    intro α f
    unfold markK
    simp only
    rw [blk_new, Option.bind_some]
    dsimp only
    rw [if_pos ⟨rfl, rfl⟩, setBlk_last]; rfl
  generalize h1 : h ++ [some (Blk.mk false 1 (intC .u8 [120, 121]))] = H1 at hmark
  generalize h2 : H1 ++ [some (Blk.mk true 1 (intC .i64 [0, 0]))] = H2
  generalize h3 : H2 ++ [some (Blk.mk true 9 (codeC (sbC 0 1)))] = H3
  generalize h4 : H3 ++ [some (Blk.mk true 9 (codeC (sbC 1 0)))] = H4
  generalize h5 : H4 ++ [some (Blk.mk true 1 [Cell.sl H2.length 18 0 2, .sl H3.length 18 0 2])] = H5
  have n1 : H1.length = h.length + 1 := by rw [← h1]; simp
  have n2 : H2.length = h.length + 2 := by rw [← h2, List.length_append, n1]; simp
  have n3 : H3.length = h.length + 3 := by rw [← h3, List.length_append, n2]; simp
  have n4 : H4.length = h.length + 4 := by rw [← h4, List.length_append, n3]; simp
  have n5 : H5.length = h.length + 5 := by rw [← h5, List.length_append, n4]; simp
  have b1 : blk? H5 h.length = some ⟨false, 1, intC .u8 [120, 121]⟩ := by
    rw [← h5, ← h4, ← h3, ← h2, ← h1]
    exact blk_old (blk_old (blk_old (blk_old (blk_new _ _) _) _) _) _
  have b2 : blk? H5 H1.length = some ⟨true, 1, intC .i64 [0, 0]⟩ := by
    rw [← h5, ← h4, ← h3, ← h2]
    exact blk_old (blk_old (blk_old (blk_new _ _) _) _) _
  have b3 : blk? H5 H2.length = some ⟨true, 9, codeC (sbC 0 1)⟩ := by
    rw [← h5, ← h4, ← h3]
    exact blk_old (blk_old (blk_new _ _) _) _
  have b4 : blk? H5 H3.length = some ⟨true, 9, codeC (sbC 1 0)⟩ := by
    rw [← h5, ← h4]
    exact blk_old (blk_new _ _) _
  have b5 : blk? H5 H4.length = some ⟨true, 1, [Cell.sl H2.length 18 0 2, .sl H3.length 18 0 2]⟩ := by
    rw [← h5]
    exact blk_new _ _
  have kk : Kp h.length h H5 := by
    rw [← h5, ← h4, ← h3, ← h2, ← h1]
    simp only [List.append_assoc]
    exact Kp.app _ (Nat.le_refl _)
  refine ⟨[.sl h.length 2 0 2, .sl H1.length 2 0 2, .sl H4.length 2 0 2], H5, R_intro hE.fn ?_, ⟨_, _, _, [Cell.sl H2.length 18 0 2, .sl H3.length 18 0 2], rfl, ⟨SlAt.whole b1 rfl, .inr (by omega)⟩, ⟨SlAt.whole b2 rfl, .inr (by omega)⟩, ⟨SlAt.whole b5 rfl, .inr (by omega)⟩, fun t code ht => ?_⟩, kk⟩
  · rw [jacquardlaw12_SB_eq, if_pos ⟨rfl, rfl, rfl⟩, if_pos (by rfl), hmark]
    rw [← h5, ← h4, ← h3, ← h2]
    kernel_rfl
  · match t with
    | 0 => cases ht; exact ⟨_, rfl, SlAt.whole b3 rfl, .inr (by omega)⟩
    | 1 => cases ht; exact ⟨_, rfl, SlAt.whole b4 rfl, .inr (by omega)⟩
    | t + 2 => simp [sbP] at ht

/-- A digit. -/
theorem small_R (hE : istrconv_small_In E) (h : AHeap) : ∀ n : Nat, n < 4 → R E 48 [.c (.int .i64 (n : Int))] h = some ([.c (.str (ByteArray.mk #[UInt8.ofNat (48 + n)]))], h)
  | 0, _ => R_intro hE.fn ((istrconv_small_eq (R E) Lim E.glob 0 h).trans (by kernel_rfl))
  | 1, _ => R_intro hE.fn ((istrconv_small_eq (R E) Lim E.glob 1 h).trans (by kernel_rfl))
  | 2, _ => R_intro hE.fn ((istrconv_small_eq (R E) Lim E.glob 2 h).trans (by kernel_rfl))
  | 3, _ => R_intro hE.fn ((istrconv_small_eq (R E) Lim E.glob 3 h).trans (by kernel_rfl))
  | n + 4, h => by omega

theorem Itoa_R (hE : strconv_Itoa_In E) (h : AHeap) {n : Nat} (hn : n < 4) : R E 45 [.c (.int .i64 (n : Int))] h = some ([.c (.str (ByteArray.mk #[UInt8.ofNat (48 + n)]))], h) :=
  Itoa_of hE (by omega) (small_R hE.c46.c47.c48 h n hn)

/-- A pick's name. -/
def nameOf (i : Int) : ByteArray :=
  if i < 0 ∨ i ≥ 24 then ByteArray.mk #[]
  else if i < 4 then ByteArray.mk #[116] ++ ByteArray.mk #[UInt8.ofNat (48 + i.toNat)]
  else if i < 8 then ByteArray.mk #[102] ++ ByteArray.mk #[UInt8.ofNat (48 + (i.toNat - 4))]
  else ((ByteArray.mk #[102] ++ ByteArray.mk #[UInt8.ofNat (48 + (i.toNat - 8) / 4)]) ++ ByteArray.mk #[46]) ++ ByteArray.mk #[UInt8.ofNat (48 + (i.toNat - 8) % 4)]

theorem one_size (n : Nat) : (ByteArray.mk #[UInt8.ofNat n]).size = 1 := rfl

theorem VName_R (hE : vm_Name_In E) (i : Int) (h : AHeap) : R E 167 [.c (.int .i64 i)] h = some ([.c (.str (nameOf i))], h) := by
  refine R_intro hE.fn ?_
  rw [vm_Name_eq, scK_or]
  unfold nameOf
  by_cases h0 : i < 0 ∨ i ≥ 24
  · rw [if_pos (by simp; omega), if_pos h0]
  · rw [if_neg (by simp; omega), if_neg h0]
    obtain ⟨n, rfl⟩ := Int.eq_ofNat_of_zero_le (show 0 ≤ i by omega)
    rw [Int.toNat_natCast]
    by_cases h4 : n < 4
    · rw [if_pos (by simp; omega), if_pos (by omega), Itoa_R hE.c45 _ h4, c1_ok, asS_ok, if_pos (by rw [one_size]; decide)]
    · rw [if_neg (by simp; omega), if_neg (c := ((n : Int) < 4)) (by omega)]
      by_cases h8 : n < 8
      · rw [if_pos (by simp; omega), if_pos (c := ((n : Int) < 8)) (by omega), g_wrap_i64 (by omega) (by omega), show ((n : Int) - 4) = ((n - 4 : Nat) : Int) by omega, Itoa_R hE.c45 _ (by omega), c1_ok, asS_ok, if_pos (by rw [one_size]; decide)]
      · rw [if_neg (by simp; omega), if_neg (c := ((n : Int) < 8)) (by omega), g_wrap_i64 (by omega) (by omega), show ((n : Int) - 8) = ((n - 8 : Nat) : Int) by omega, g_quo, g_rem, Int.tdiv_eq_ediv_of_nonneg (by omega), Int.tmod_eq_emod_of_nonneg (by omega),
          show (((n - 8 : Nat) : Int) / 4) = (((n - 8) / 4 : Nat) : Int) by omega, show (((n - 8 : Nat) : Int) % 4) = (((n - 8) % 4 : Nat) : Int) by omega, wrap_i64 (by omega) (by omega), Itoa_R hE.c45 _ (by omega), c1_ok, asS_ok,
          if_pos (by rw [one_size]; decide), if_pos (by rw [ByteArray.size_append, one_size]; decide), Itoa_R hE.c45 _ (by omega), c1_ok, asS_ok, if_pos (by rw [ByteArray.size_append, ByteArray.size_append, one_size, one_size]; decide)]

theorem sb_small : sbP.small := ⟨by decide, fun c hc => by
  simp [sbP] at hc
  rcases hc with rfl | rfl <;> decide⟩

def sbV : MV := MV.new sbP 2
theorem sb_pok : pokB sbP = true := by decide +kernel

theorem sb_fld : ∀ c ∈ sbP.thr, ∀ i ∈ c, fldB (hasB sbP) i = true := by decide +kernel

end
end Jq

/- Machines: what is told of them; copies. -/
namespace Jq
open Go

theorem SlAt.cellsG {h : AHeap} {x : Cell} {esz : Nat} {cs : List Cell} {len : Nat} (s : SlAt h x esz cs len) : slCells h esz x = some cs := by
  have hl := s.1
  rcases s.2 with ⟨rfl, rfl⟩ | ⟨k, N, off, rfl, hb⟩
  · have : cs = [] := List.length_eq_zero_iff.1 (by omega)
    rw [this]; rfl
  · unfold slCells
    dsimp only
    by_cases h0 : len = 0
    · have : cs = [] := List.length_eq_zero_iff.1 (by rw [h0] at hl; omega)
      rw [if_pos h0, this]
    · rw [if_neg h0]
      rcases hb with hb | ⟨b, hb, hN, hle, hat⟩
      · exact absurd hb h0
      · rw [hb]
        simp only
        rw [if_pos ⟨hN, hle⟩]
        congr 1
        refine List.ext_getElem? fun j => ?_
        rw [List.getElem?_take, List.getElem?_drop]
        by_cases hj : j < len * esz
        · rw [if_pos hj, hat j hj]
        · rw [if_neg hj, List.getElem?_eq_none (by omega)]

/-- Cells put behind an empty row. -/
theorem app_emptyG {α : Type} {h : AHeap} {esz bytes len : Nat} {cs : List Cell} (he : 0 < esz) (hlen : cs.length = len * esz) (h1 : len * bytes ≤ maxBytes) (h2 : len ≤ maxBytes) (f : Cell → AHeap → Option α) :
    appK esz bytes (.sl h.length 0 0 0) cs (h ++ [some ⟨true, esz, []⟩]) f = f (.sl h.length cs.length 0 len) (h ++ [some ⟨true, esz, cs⟩]) := by
  unfold appK
  simp only
  rw [blk_new, Option.bind_some]
  dsimp only
  have hd : cs.length / esz = len := by rw [hlen]; exact Nat.mul_div_cancel _ he
  rw [if_pos ⟨rfl, rfl, rfl, by simp, by rw [hd]; simp; omega, by rw [hd]; simp; omega⟩, hd]
  by_cases h0 : len = 0
  · have : cs = [] := List.length_eq_zero_iff.1 (by rw [hlen, h0]; omega)
    subst this
    rw [if_pos (by simp), setBlk_last, h0]
    simp [splice]
  · have hpos : 0 < cs.length := by rw [hlen]; exact Nat.mul_pos (by omega) he
    rw [if_neg (by omega), if_pos trivial, setBlk_last]
    simp

def finC (V : MV) : List Cell := V.lc.flatMap regsC ++ intC .i64 V.mem
def finT (V : MV) (t : Nat) : List Cell := (V.lc.take t).flatMap regsC ++ List.replicate (20 - t * 4) (.int .i64 0)

section
variable {E : Env}

theorem Done_R (hE : vm_VM_Done_In E) {h : AHeap} {k : Nat} {x : Cell} {pc : List Cell} {V : MV} (hb : blk? h k = some ⟨true, 0, vmC pc V x⟩) (f : V.Fit) (p : ProgAt h pc V.P) :
    R E 174 [.c (.ptr k 329 0)] h = some ([.c (.bool (V.word == 0))], h) := by
  refine R_intro hE.fn ?_
  rw [vm_VM_Done_eq, Enabled_R hE.c172 hb f p, c1_ok, asI_ok]
  have : (((V.word : Nat) : Int) == 0) = (V.word == 0) := by rw [Bool.eq_iff_iff, beq_iff_eq, beq_iff_eq]; omega
  rw [this]

theorem CloneS_R (hE : slices_Clone_sStep_Step_In E) {x : Cell} {l : List Stp} {h : AHeap} (hx : SlAt h x 7 (stepsC l) l.length) (hlow : Low h.length x) (hl : l.length ≤ 100000) :
    ∃ x' h', R E 195 [.c x] h = some ([.c x'], h') ∧ Own h.length h' x' 7 (stepsC l) l.length ∧ Kp h.length h h' := by
  have hm : maxBytes ≥ 100000 * 56 := by unfold maxBytes; omega
  have hlen := stepsC_len l
  have hx0 := hx
  rcases hx.2 with ⟨rfl, h0⟩ | ⟨k, N, off, rfl, hb⟩
  · refine ⟨.nils, h, R_intro hE.fn ?_, ⟨hlen, .inl ⟨rfl, h0⟩⟩, Kp.refl _ _⟩
    rw [slices_Clone_sStep_Step_eq]; rfl
  · have hk1 : Kp h.length h (h ++ [some ⟨true, 7, []⟩]) := Kp.app _ (Nat.le_refl _)
    have hc := (hx0.keep hlow hk1).cellsG
    refine ⟨.sl h.length (stepsC l).length 0 l.length, h ++ [some ⟨true, 7, stepsC l⟩], R_intro hE.fn ?_, ⟨hlen, .inr ⟨h.length, rfl, Nat.le_refl _, blk_new _ _⟩⟩, Kp.app _ (Nat.le_refl _)⟩
    rw [slices_Clone_sStep_Step_eq, show ∀ {α : Type} (f : Bool → Option α), eqNilK false (.sl k N off l.length) .nils f = f false from fun _ => rfl, if_neg (by simp), if_pos (show ([] : List Cell).length = 0 * 7 from rfl), hc, bind_ok, show ([] : List Cell).length = 0 from rfl, app_emptyG (by omega) hlen (by omega) (by omega)]

theorem Steps_R (hE : vm_VM_Steps_In E) {n k : Nat} {h : AHeap} {x : Cell} {pc : List Cell} {V : MV} (a : VmAt n h k x pc V) (f : V.Fit) (hst : V.st.length ≤ 100000) :
    ∃ y h', R E 175 [.c (.ptr k 329 0)] h = some ([.c y], h') ∧ Own h.length h' y 7 (stepsC V.st) V.st.length ∧ Kp h.length h h' := by
  obtain ⟨y, h', r, o, kk⟩ := CloneS_R hE.c195 a.st.at a.st.low hst
  refine ⟨y, h', R_intro hE.fn ?_, o, kk⟩
  rw [vm_VM_Steps_eq, rdH_ok a.blk (vm_len f a.prog.len), vm_steps f a.prog.len, r, c1_ok, asC_ok]

end
end Jq

namespace Jq
open Go


end Jq

/- What a function needs of an environment. -/
namespace Jq
open Go


end Jq

namespace Jq
open Go


end Jq

/- Orders: what must be ahead of each; whether a row keeps a relation. -/
namespace Jq
open Go

/-- Words, one behind the other. -/
def setC (n : Nat) (F : Nat → Nat) : List Cell := (List.range n).map fun j => .int .u64 (F j : Nat)

variable {E : Env}

/-- Whether a row keeps to what must be ahead, some done. -/
def kpR (n : Nat) (B : Nat → Nat) : List Int → Nat → Bool
  | [], _ => true
  | v :: t, d => if (decide (v < 0) || decide (v ≥ (n : Int)) || hasI d v || (ndiff (B v.toNat) d != 0)) = true then false else kpR n B t (d ||| bitI v)

end Jq

/- Orders: rows that go on, handed on one by one: rows cut and made longer. -/
namespace Jq
open Go

/-- All rows that go on from this one, in order. -/
def ext (n : Nat) (B : Nat → Nat) : Nat → Nat → List Nat → List (List Nat)
  | 0, _, row => [row]
  | k + 1, d, row => (List.range n).flatMap fun i => if (d.testBit i || (ndiff (B i) d != 0)) = true then [] else ext n B k (d ||| 2 ^ i) (row ++ [i])

/-- Handed on, one by one, till one says stop. -/
def feed {S : Type} (P : S → List Nat → S × Bool) : S → List (List Nat) → S × Bool
  | s, [] => (s, true)
  | s, r :: rs => if (P s r).2 = true then feed P (P s r).1 rs else ((P s r).1, false)

/-- The row under way: its block may reach further than it. -/
def RowQ (h : AHeap) (q : Cell) (row : List Nat) : Prop :=
  (q = .nils ∧ row = []) ∨ ∃ kr cs, q = .sl kr cs.length 0 row.length ∧ blk? h kr = some ⟨true, 1, cs⟩ ∧ cs.take row.length = natC row ∧ row.length ≤ cs.length

theorem RowQ.at {h : AHeap} {q : Cell} {row : List Nat} (r : RowQ h q row) : SlAt h q 1 (natC row) row.length := by
  refine ⟨by rw [natC_len]; omega, ?_⟩
  rcases r with ⟨rfl, rfl⟩ | ⟨kr, cs, rfl, hb, ht, hl⟩
  · exact .inl ⟨rfl, rfl⟩
  · refine .inr ⟨kr, _, 0, rfl, .inr ⟨_, hb, rfl, by omega, fun j hj => ?_⟩⟩
    rw [← ht, List.getElem?_take, if_pos (by omega), Nat.zero_add]

theorem RowQ.lt {h : AHeap} {q : Cell} {row : List Nat} (r : RowQ h q row) {k : Nat} (hk : isBlk q k) : k < h.length := by
  rcases r with ⟨rfl, _⟩ | ⟨kr, cs, rfl, hb, _⟩
  · cases hk
  · have : kr = k := hk
    subst this; exact blk_lt' hb

theorem RowQ.app {h : AHeap} {q : Cell} {row : List Nat} (r : RowQ h q row) (hr : row.length < 100) (i : Nat) :
    ∃ q' h', (∀ {α : Type} (f : Cell → AHeap → Option α), appK 1 8 q [.int .i64 (i : Int)] h f = f q' h') ∧ RowQ h' q' (row ++ [i]) ∧ h.length ≤ h'.length ∧ (∃ k, isBlk q' k) ∧ ∀ k, k < h.length → ¬ isBlk q k → h'[k]? = h[k]? ∧ ¬ isBlk q' k := by
  have hm : maxBytes ≥ 101 * 8 := by unfold maxBytes; omega
  rcases r with ⟨rfl, rfl⟩ | ⟨kr, cs, rfl, hb, ht, hl⟩
  · refine ⟨.sl h.length 1 0 1, h ++ [some ⟨true, 1, [.int .i64 (i : Int)]⟩], fun f => ?_, .inr ⟨h.length, [.int .i64 (i : Int)], rfl, blk_new _ _, rfl, by simp⟩, by simp, ⟨_, rfl⟩, fun k hk _ => ⟨List.getElem?_append_left hk, fun hq => ?_⟩⟩
    · unfold appK; simp only; rw [if_neg (by simp), if_pos ⟨by simp; omega, by simp; omega⟩]; simp
    · have : h.length = k := hq
      omega
  · have hkl := blk_lt' hb
    have hsl : row.length < cs.length → (splice cs row.length [Cell.int .i64 (i : Int)]).length = cs.length := fun hlt => by
      unfold splice
      simp only [List.length_append, List.length_take, List.length_drop, List.length_singleton]; omega
    by_cases hlt : row.length < cs.length
    · refine ⟨.sl kr cs.length 0 (row.length + 1), setBlk h kr (some ⟨true, 1, splice cs row.length [.int .i64 (i : Int)]⟩), fun f => ?_, .inr ⟨kr, splice cs row.length [.int .i64 (i : Int)], ?_, blk_set_self hkl _, ?_, ?_⟩, by rw [setBlk_len]; exact Nat.le_refl _, ⟨_, rfl⟩, fun k hk hq => ⟨?_, hq⟩⟩
      · unfold appK; simp only; rw [hb, Option.bind_some]; dsimp only
        rw [if_pos ⟨rfl, rfl, rfl, by omega, by simp; omega, by simp; omega⟩, if_pos (by simp; omega)]
        simp
      · rw [hsl hlt]; simp
      · rw [natC_snoc, ← ht, List.length_append, List.length_singleton]; unfold splice
        rw [List.take_append_of_le_length (by simp; omega), List.take_of_length_le (by simp; omega)]
      · rw [hsl hlt]; simp; omega
      · unfold setBlk; rw [List.getElem?_set_ne (fun h => hq h)]
    · have he : row.length = cs.length := by omega
      refine ⟨.sl kr (cs.length + 1) 0 (row.length + 1), setBlk h kr (some ⟨true, 1, cs ++ [.int .i64 (i : Int)]⟩), fun f => ?_, .inr ⟨kr, cs ++ [.int .i64 (i : Int)], by simp, blk_set_self hkl _, ?_, by simp; omega⟩, by rw [setBlk_len]; exact Nat.le_refl _, ⟨_, rfl⟩, fun k hk hq => ⟨?_, hq⟩⟩
      · unfold appK; simp only; rw [hb, Option.bind_some]; dsimp only
        rw [if_pos ⟨rfl, rfl, rfl, by omega, by simp; omega, by simp; omega⟩, if_neg (by simp; omega), if_pos trivial, he]
        simp
      · rw [natC_snoc, ← ht, List.take_of_length_le (by simp; omega), List.take_of_length_le (l := cs) (by omega)]
      · unfold setBlk; rw [List.getElem?_set_ne (fun h => hq h)]

theorem RowQ.cut {h : AHeap} {q : Cell} {row : List Nat} {i : Nat} (r : RowQ h q (row ++ [i])) :
    ∃ q', (∀ {α : Type} (f : Cell → Option α), sliceK h 1 false true q [.v (.c (.int .i64 (row.length : Int)))] f = f q') ∧ RowQ h q' row ∧ ∀ k, isBlk q' k ↔ isBlk q k := by
  rcases r with ⟨_, hn⟩ | ⟨kr, cs, rfl, hb, ht, hl⟩
  · simp at hn
  · refine ⟨.sl kr cs.length 0 row.length, fun f => ?_, .inr ⟨kr, cs, rfl, hb, ?_, by simp at hl; omega⟩, fun k => Iff.rfl⟩
    · unfold sliceK
      have hok : okSl h 1 kr cs.length = true := by unfold okSl; rw [hb]; simp
      simp only [hok, if_true]
      unfold boundsK
      simp only
      rw [if_pos ⟨by omega, by simp; omega⟩]
      simp
    · have := congrArg (List.take row.length) ht
      rw [List.take_take, natC_snoc] at this
      simp [natC_len] at this
      exact this

/-- What takes the rows: it needs I of the heap, some blocks of which are its own. -/
structure Put (E : Env) (S : Type) (P : S → List Nat → S × Bool) (fnc : Cell) (I : S → (Nat → Prop) → AHeap → Prop) (go : S → Prop) : Prop where
  on : ∀ s row, go s → (P s row).2 = true → go (P s row).1
  frame : ∀ s L h h', I s L h → (∀ k, L k → h'[k]? = h[k]?) → h.length ≤ h'.length → I s L h'
  low : ∀ s L h, I s L h → ∀ k, L k → k < h.length
  put : ∀ s L h x row, I s L h → go s → row.length ≤ 64 → SlAt h x 1 (natC row) row.length → (∀ k, isBlk x k → k < h.length ∧ ¬ L k) →
    ∃ h' L', (∀ {α : Type} (F : AV → AHeap → Option α), (fnK fnc fun g cs => c1 (R E g ([.c x] ++ cs) h) F) = F (.c (.bool (P s row).2)) h') ∧ I (P s row).1 L' h' ∧ h.length ≤ h'.length ∧ ∀ k, k < h.length → ¬ L k → h'[k]? = h[k]? ∧ ¬ L' k

end Jq

/- order.walk.on: every row that goes on is handed on, in order, till one says stop. -/
namespace Jq
open Go

variable {E : Env}

/-- What stands while walking. -/
structure WI {S : Type} (I : S → (Nat → Prop) → AHeap → Prop) (n kw kb : Nat) (B : Nat → Nat) (fnc : Cell) (row : List Nat) (s : S) (L : Nat → Prop) (h : AHeap) (q : Cell) : Prop where
  i : I s L h
  w : blk? h kw = some ⟨true, 0, [.sl kb n 0 n, q, fnc]⟩
  b : blk? h kb = some ⟨true, 1, setC n B⟩
  r : RowQ h q row
  lw : ¬ L kw
  lb : ¬ L kb
  wb : kw ≠ kb
  ap : ∀ j, isBlk q j → ¬ L j ∧ j ≠ kw ∧ j ≠ kb

/-- What a stretch of walking leaves alone. -/
def Left (kw : Nat) (L : Nat → Prop) (h : AHeap) (q : Cell) (L' : Nat → Prop) (h' : AHeap) (q' : Cell) : Prop :=
  h.length ≤ h'.length ∧ ∀ j, j < h.length → ¬ L j → j ≠ kw → ¬ isBlk q j → h'[j]? = h[j]? ∧ ¬ L' j ∧ ¬ isBlk q' j

theorem Left.refl (kw : Nat) (L : Nat → Prop) (h : AHeap) (q : Cell) : Left kw L h q L h q := ⟨Nat.le_refl _, fun _ _ a _ b => ⟨rfl, a, b⟩⟩

theorem Left.trans {kw : Nat} {L L' L'' : Nat → Prop} {h h' h'' : AHeap} {q q' q'' : Cell} (a : Left kw L h q L' h' q') (b : Left kw L' h' q' L'' h'' q'') : Left kw L h q L'' h'' q'' := by
  refine ⟨Nat.le_trans a.1 b.1, fun j h1 h2 h3 h4 => ?_⟩
  obtain ⟨a1, a2, a3⟩ := a.2 j h1 h2 h3 h4
  obtain ⟨b1, b2, b3⟩ := b.2 j (by have := a.1; omega) a2 h3 a3
  exact ⟨b1.trans a1, b2, b3⟩

theorem blk_of_get {h h' : AHeap} {k : Nat} (e : h'[k]? = h[k]?) : blk? h' k = blk? h k := by unfold blk?; rw [e]

theorem set_get {h : AHeap} {k j : Nat} {x : Option Blk} (hj : j ≠ k) : (setBlk h k x)[j]? = h[j]? := by
  unfold setBlk; rw [List.getElem?_set_ne (fun e => hj e.symm)]

section
variable {S : Type} {P : S → List Nat → S × Bool} {fnc : Cell} {I : S → (Nat → Prop) → AHeap → Prop} {go : S → Prop} {n kw kb : Nat} {B : Nat → Nat}

/-- One longer. -/
theorem WI.push (pu : Put E S P fnc I go) {row : List Nat} {s : S} {L : Nat → Prop} {h : AHeap} {q : Cell} (w : WI I n kw kb B fnc row s L h q) (hr : row.length < 100) (i : Nat) :
    ∃ q1 h1, (∀ {α : Type} (f : Cell → AHeap → Option α), appK 1 8 q [.int .i64 (i : Int)] h f = f q1 h1) ∧ blk? h1 kw = some ⟨true, 0, [.sl kb n 0 n, q, fnc]⟩ ∧
      WI I n kw kb B fnc (row ++ [i]) s L (setBlk h1 kw (some ⟨true, 0, [.sl kb n 0 n, q1, fnc]⟩)) q1 ∧ Left kw L h q L (setBlk h1 kw (some ⟨true, 0, [.sl kb n 0 n, q1, fnc]⟩)) q1 := by
  obtain ⟨q1, h1, ha, hrow, hlen, ⟨k1, hk1⟩, hfr⟩ := w.r.app hr i
  have hkw := blk_lt' w.w
  have hkb := blk_lt' w.b
  have nw : ¬ isBlk q kw := fun e => (w.ap kw e).2.1 rfl
  have nb : ¬ isBlk q kb := fun e => (w.ap kb e).2.2 rfl
  obtain ⟨f1, f2⟩ := hfr kw hkw nw
  obtain ⟨g1, g2⟩ := hfr kb hkb nb
  have hw1 : blk? h1 kw = some ⟨true, 0, [.sl kb n 0 n, q, fnc]⟩ := (blk_of_get f1).trans w.w
  have hkw1 := blk_lt' hw1
  have nL : ∀ j, isBlk q1 j → ¬ L j ∧ j ≠ kw ∧ j ≠ kb := by
    intro j hj
    refine ⟨fun hL => ?_, fun e => f2 (e ▸ hj), fun e => g2 (e ▸ hj)⟩
    have hjl := pu.low _ _ _ w.i j hL
    by_cases hq : isBlk q j
    · exact (w.ap j hq).1 hL
    · exact (hfr j hjl hq).2 hj
  refine ⟨q1, h1, ha, hw1, ⟨?_, blk_set_self hkw1 _, ?_, ?_, w.lw, w.lb, w.wb, nL⟩, ?_, ?_⟩
  · refine pu.frame _ _ _ _ w.i (fun j hL => ?_) (by rw [setBlk_len]; exact hlen)
    have hjw : j ≠ kw := fun e => w.lw (e ▸ hL)
    rw [set_get hjw]
    exact (hfr j (pu.low _ _ _ w.i j hL) (fun e => (w.ap j e).1 hL)).1
  · rw [blk_of_get (set_get (fun e => w.wb e.symm)), blk_of_get g1]; exact w.b
  · rcases hrow with ⟨e, he⟩ | ⟨kr, cs, e, hb, ht, hl⟩
    · exact .inl ⟨e, he⟩
    · have hne : kr ≠ kw := (nL kr (by rw [e]; rfl)).2.1
      exact .inr ⟨kr, cs, e, by rw [blk_of_get (set_get hne)]; exact hb, ht, hl⟩
  · rw [setBlk_len]; exact hlen
  · intro j h2 h3 h4 h5
    obtain ⟨a1, a2⟩ := hfr j h2 h5
    exact ⟨by rw [set_get h4]; exact a1, h3, a2⟩

end
end Jq

/- order.walk.on comes to feeding on all rows that go on. -/
namespace Jq
open Go

def extF (n : Nat) (B : Nat → Nat) (k d : Nat) (row : List Nat) (i m : Nat) : List (List Nat) :=
  (List.range' i m).flatMap fun i => if (d.testBit i || (ndiff (B i) d != 0)) = true then [] else ext n B k (d ||| 2 ^ i) (row ++ [i])

section
variable {E : Env} {S : Type} {P : S → List Nat → S × Bool} {fnc : Cell} {I : S → (Nat → Prop) → AHeap → Prop} {go : S → Prop} {n kw kb : Nat} {B : Nat → Nat}

end
end Jq

/- order.each: all orders are handed on, none where something leads to itself. -/
namespace Jq
open Go

section
variable {E : Env} {S : Type} {P : S → List Nat → S × Bool} {fnc : Cell} {I : S → (Nat → Prop) → AHeap → Prop} {go : S → Prop} {n : Nat}

/-- All orders. -/
def ords (n : Nat) (f : Nat → Nat) : List (List Nat) := if acycR n f = true then ext n (INV n f) n 0 [] else []

end
end Jq

/- order.All$1: a row is copied and put behind the others. -/
namespace Jq
open Go

/-- The rows' cells, each a row of its own block. -/
def rowsC : List Nat → List (List Nat) → List Cell
  | k :: ks, r :: rs => .sl k r.length 0 r.length :: rowsC ks rs
  | _, _ => []

def outF (lim : Int) : List (List Nat) → List Nat → List (List Nat) × Bool := fun s r => (s ++ [r], decide (((s.length + 1 : Nat) : Int) < lim))

/-- The rows so far lie there: behind the variable `out`, with the bound beside it. -/
def OutI (ko kl : Nat) (lim : Int) : List (List Nat) → (Nat → Prop) → AHeap → Prop := fun s L h =>
  ∃ (y : Cell) (ks : List Nat), blk? h ko = some ⟨true, 0, [y]⟩ ∧ blk? h kl = some ⟨true, 0, [.int .i64 lim]⟩ ∧ ko ≠ kl ∧ ks.length = s.length ∧
    ((y = .nils ∧ s = []) ∨ ∃ ky, y = .sl ky s.length 0 s.length ∧ blk? h ky = some ⟨true, 1, rowsC ks s⟩ ∧ ky ≠ ko ∧ ky ≠ kl ∧ ¬ ky ∈ ks) ∧
    (∀ (j k : Nat) (r : List Nat), ks[j]? = some k → s[j]? = some r → blk? h k = some ⟨true, 1, natC r⟩ ∧ k ≠ ko ∧ k ≠ kl) ∧
    (∀ k, L k ↔ (k = ko ∨ k = kl ∨ isBlk y k ∨ k ∈ ks))

theorem OutI.low {ko kl : Nat} {lim : Int} {s : List (List Nat)} {L : Nat → Prop} {h : AHeap} (o : OutI ko kl lim s L h) : ∀ k, L k → k < h.length := by
  obtain ⟨y, ks, h1, h2, _, hks, hy, hrow, hL⟩ := o
  intro k hk
  rcases (hL k).1 hk with rfl | rfl | hb | hm
  · exact blk_lt' h1
  · exact blk_lt' h2
  · rcases hy with ⟨rfl, _⟩ | ⟨ky, rfl, hb2, _⟩
    · cases hb
    · have : ky = k := hb
      subst this; exact blk_lt' hb2
  · obtain ⟨j, hj⟩ := List.getElem?_of_mem hm
    have hjl : j < s.length := by
      rcases Nat.lt_or_ge j ks.length with h3 | h3
      · omega
      · rw [List.getElem?_eq_none h3] at hj; cases hj
    exact blk_lt' (hrow j k s[j] hj (by simp [hjl])).1

theorem OutI.frame {ko kl : Nat} {lim : Int} {s : List (List Nat)} {L : Nat → Prop} {h h' : AHeap} (o : OutI ko kl lim s L h) (hk : ∀ k, L k → h'[k]? = h[k]?) : OutI ko kl lim s L h' := by
  obtain ⟨y, ks, h1, h2, hne, hks, hy, hrow, hL⟩ := o
  have e : ∀ k, L k → blk? h' k = blk? h k := fun k hl => blk_of_get (hk k hl)
  refine ⟨y, ks, (e ko ((hL ko).2 (.inl rfl))).trans h1, (e kl ((hL kl).2 (.inr (.inl rfl)))).trans h2, hne, hks, ?_, fun j k r hj hr => ?_, hL⟩
  · rcases hy with hy | ⟨ky, hy, hb, hr⟩
    · exact .inl hy
    · exact .inr ⟨ky, hy, (e ky ((hL ky).2 (.inr (.inr (.inl (by rw [hy]; rfl)))))).trans hb, hr⟩
  · obtain ⟨a, b⟩ := hrow j k r hj hr
    exact ⟨(e k ((hL k).2 (.inr (.inr (.inr (List.mem_of_getElem? hj)))))).trans a, b⟩

theorem SlAt.cells {h : AHeap} {x : Cell} {cs : List Cell} {len : Nat} (s : SlAt h x 1 cs len) : slCells h 1 x = some cs := by
  have hl := s.1
  rcases s.2 with ⟨rfl, rfl⟩ | ⟨k, N, off, rfl, hb⟩
  · have : cs = [] := List.length_eq_zero_iff.1 (by omega)
    rw [this]; rfl
  · unfold slCells
    dsimp only
    by_cases h0 : len = 0
    · have : cs = [] := List.length_eq_zero_iff.1 (by omega)
      rw [if_pos h0, this]
    · rw [if_neg h0]
      rcases hb with hb | ⟨b, hb, hN, hle, hat⟩
      · exact absurd hb h0
      · rw [hb]
        simp only
        rw [if_pos ⟨hN, hle⟩]
        congr 1
        refine List.ext_getElem? fun j => ?_
        rw [List.getElem?_take, List.getElem?_drop]
        by_cases hj : j < len * 1
        · rw [if_pos hj, hat j hj]
        · rw [if_neg hj, List.getElem?_eq_none (by omega)]

end Jq

namespace Jq
open Go

/- jacquard/play.Text: 262 -/
def play_Text_k2 (C : CallF) (L : LoopF) (G : Glo) (h0 : AHeap) : Ex → St → Option (List AV × AHeap) :=
  kSeq (fun st => play_Text_p1.exec C L G st (play_Text.fin G h0)) (play_Text.fin G h0)
def play_Text_k3 (C : CallF) (L : LoopF) (G : Glo) (h0 : AHeap) : Ex → St → Option (List AV × AHeap) :=
  kBlk 0 (play_Text_k2 C L G h0)
def play_Text_s1 (x3 : Cell) (x6 : Cell) (a7 : Int) (a8 : Int) (h : AHeap) : St := ⟨[.top, .top, .top, .v (.c x3), .top, .top, .v (.c x6), .v (.c (.int .i64 a7)), .v (.c (.int .i64 a8)), .top, .top, .top, .top, .top, .top, .top, .top, .top, .top, .top], [], h⟩
def play_Text_F1 (C : CallF) (L : LoopF) (G : Glo) : St → Option (Ex × St) :=
  roundF (fun st f => play_Text_b1.exec C L G st f) [3, 6, 7, 8] [] [(1, [3], [])]
def play_Text_x1_1 (x3 : Cell) (h : AHeap) : St := ⟨[.top, .top, .top, .v (.c x3), .top, .top, .top, .top, .top, .top, .top, .top, .top, .top, .top, .top, .top, .top, .top, .top], [], h⟩
theorem play_Text_r1 (C : CallF) (L : LoopF) (G : Glo) (x3 : Cell) (x6 : Cell) (a7 : Int) (a8 : Int) (h : AHeap) :
    play_Text_F1 C L G (play_Text_s1 x3 x6 a7 a8 h) =
    if (decide (a8 < a7)) = true then idxSK 1 x6 a8 fun k_2 N_3 o_4 => rdH h k_2 N_3 fun l_5 => atK l_5 o_4 fun q_6 => asI .i64 (.c q_6) fun n_7 => c1 (C 167 [(.c (.int .i64 n_7))] h) fun y_9 h_8 => asS y_9 fun z_10 => if (splice [Cell.str (ByteArray.mk #[])] 0 ([(.str z_10)] : List Cell)).length = 1 * 1 then appK 1 16 x3 (splice [Cell.str (ByteArray.mk #[])] 0 ([(.str z_10)] : List Cell)) h_8 fun x_11 h_12 => some (.normal, (play_Text_s1 x_11 x6 a7 (G.wrap .i64 (a8 + 1)) h_12)) else none else some ((.exit 0), (play_Text_x1_1 x3 h)) := by kernel_rfl
theorem play_Text_e1_1 (C : CallF) (L : LoopF) (G : Glo) (h0 : AHeap) (x3 : Cell) (h : AHeap) :
    (play_Text_k3 C L G h0) (.exit 0) (play_Text_x1_1 x3 h) =
    c1 (C 272 [(.c x3), (.c (.str (ByteArray.mk #[32])))] h) fun y_14 h_13 => asS y_14 fun z_15 => some ([(.c (.str z_15))], h_13) := by kernel_rfl
set_option maxRecDepth 100000 in
theorem play_Text_eq (C : CallF) (L : LoopF) (G : Glo) (x0 : Cell) (h0 : AHeap) :
    play_Text.body C L G [(.c x0)] h0 =
    lenK x0 fun n_1 => (L (play_Text_F1 C L G) (play_Text_s1 .nils x0 n_1 0 h0)).bind fun p_16 => (play_Text_k3 C L G h0) p_16.1 p_16.2 := by kernel_rfl

/- jacquard/play.Run: 271 -/
set_option maxRecDepth 100000 in
theorem play_Run_eq (C : CallF) (L : LoopF) (G : Glo) (l0 : List Cell) (a1 : Int) (x2 : Cell) (h0 : AHeap) :
    play_Run.body C L G [(.agg l0), (.c (.int .i64 a1)), (.c x2)] h0 =
    if 0 = 0 ∧ l0.length = 3 then c2 (C 278 [(.agg l0), (.c (.int .i64 a1)), (.c x2)] h0) fun y_2 y_3 h_1 => asC y_2 fun x_4 => asI .i64 y_3 fun n_5 => eqNilK false x_4 .nilp fun b_6 => if b_6 = true then some ([(.c .nils), (.c (.int .i64 0)), (.c (.bool false))], h_1) else c1 (C 175 [(.c x_4)] h_1) fun y_8 h_7 => asC y_8 fun x_9 => c1 (C 174 [(.c x_4)] h_7) fun y_11 h_10 => asB y_11 fun b_12 => some ([(.c x_9), (.c (.int .i64 n_5)), (.c (.bool b_12))], h_10) else none := by kernel_rfl

/- jacquard/play.run: 278 -/
def play_run_k2 (C : CallF) (L : LoopF) (G : Glo) (h0 : AHeap) : Ex → St → Option (List AV × AHeap) :=
  kSeq (fun st => play_run_p1.exec C L G st (play_run.fin G h0)) (play_run.fin G h0)
def play_run_k3 (C : CallF) (L : LoopF) (G : Glo) (h0 : AHeap) : Ex → St → Option (List AV × AHeap) :=
  kBlk 0 (play_run_k2 C L G h0)
def play_run_s1 (x2 : Cell) (x8 : Cell) (x22 : Cell) (a23 : Int) (a24 : Int) (h : AHeap) : St := ⟨[.top, .top, .v (.c x2), .top, .top, .top, .top, .top, .v (.c x8), .top, .top, .top, .top, .top, .top, .top, .top, .top, .top, .top, .top, .top, .v (.c x22), .v (.c (.int .i64 a23)), .v (.c (.int .i64 a24)), .top, .top, .top, .top, .top, .top, .top, .top, .top, .top, .top, .top, .top, .top, .top, .top, .top, .top], [none, none], h⟩
def play_run_F1 (C : CallF) (L : LoopF) (G : Glo) : St → Option (Ex × St) :=
  roundF (fun st f => play_run_b1.exec C L G st f) [2, 8, 22, 23, 24] [] [(0, [6, 7], []), (1, [2, 8], [])]
def play_run_x1_0 (x6 : Cell) (a7 : Int) (h : AHeap) : St := ⟨[.top, .top, .top, .top, .top, .top, .v (.c x6), .v (.c (.int .i64 a7)), .top, .top, .top, .top, .top, .top, .top, .top, .top, .top, .top, .top, .top, .top, .top, .top, .top, .top, .top, .top, .top, .top, .top, .top, .top, .top, .top, .top, .top, .top, .top, .top, .top, .top, .top], [none, none], h⟩
def play_run_x1_1 (x2 : Cell) (x8 : Cell) (h : AHeap) : St := ⟨[.top, .top, .v (.c x2), .top, .top, .top, .top, .top, .v (.c x8), .top, .top, .top, .top, .top, .top, .top, .top, .top, .top, .top, .top, .top, .top, .top, .top, .top, .top, .top, .top, .top, .top, .top, .top, .top, .top, .top, .top, .top, .top, .top, .top, .top, .top], [none, none], h⟩
theorem play_run_r1 (C : CallF) (L : LoopF) (G : Glo) (x2 : Cell) (x8 : Cell) (x22 : Cell) (a23 : Int) (a24 : Int) (h : AHeap) :
    play_run_F1 C L G (play_run_s1 x2 x8 x22 a23 a24 h) =
    if (decide (a24 < a23)) = true then idxSK 1 x22 a24 fun k_7 N_8 o_9 => rdH h k_7 N_8 fun l_10 => atK l_10 o_9 fun q_11 => asI .i64 (.c q_11) fun n_12 => c2 (C 173 [(.c x8), (.c (.int .i64 n_12))] h) fun y_14 y_15 h_13 => asA y_14 fun l_16 => asB y_15 fun b_17 => if 0 = 0 ∧ (List.replicate 7 (Cell.int .i64 0)).length = 7 ∧ l_16.length = 7 then if (!b_17) = true then some (.ret, (play_run_x1_0 x8 a24 h_13)) else some (.normal, (play_run_s1 x2 x8 x22 a23 (G.wrap .i64 (a24 + 1)) h_13)) else none else some ((.exit 0), (play_run_x1_1 x2 x8 h)) := by kernel_rfl
theorem play_run_e1_0 (C : CallF) (L : LoopF) (G : Glo) (h0 : AHeap) (x6 : Cell) (a7 : Int) (h : AHeap) :
    (play_run_k3 C L G h0) .ret (play_run_x1_0 x6 a7 h) =
    some ([(.c x6), (.c (.int .i64 a7))], h) := by kernel_rfl
theorem play_run_e1_1 (C : CallF) (L : LoopF) (G : Glo) (h0 : AHeap) (x2 : Cell) (x8 : Cell) (h : AHeap) :
    (play_run_k3 C L G h0) (.exit 0) (play_run_x1_1 x2 x8 h) =
    lenK x2 fun n_18 => some ([(.c x8), (.c (.int .i64 n_18))], h) := by kernel_rfl
set_option maxRecDepth 100000 in
theorem play_run_eq (C : CallF) (L : LoopF) (G : Glo) (l0 : List Cell) (a1 : Int) (x2 : Cell) (h0 : AHeap) :
    play_run.body C L G [(.agg l0), (.c (.int .i64 a1)), (.c x2)] h0 =
    if 0 = 0 ∧ l0.length = 3 then c2 (C 171 [(.agg l0), (.c (.int .i64 a1))] h0) fun y_2 y_3 h_1 => asC y_2 fun x_4 => asI .i64 y_3 fun n_5 => if (n_5 != 0) = true then some ([(.c .nilp), (.c (.int .i64 0))], h_1) else lenK x2 fun n_6 => (L (play_run_F1 C L G) (play_run_s1 x2 x_4 x2 n_6 0 h_1)).bind fun p_19 => (play_run_k3 C L G h0) p_19.1 p_19.2 else none := by kernel_rfl

/- jacquard/play.Maximal: 306 -/
set_option maxRecDepth 100000 in
theorem play_Maximal_eq (C : CallF) (L : LoopF) (G : Glo) (l0 : List Cell) (a1 : Int) (x2 : Cell) (h0 : AHeap) :
    play_Maximal.body C L G [(.agg l0), (.c (.int .i64 a1)), (.c x2)] h0 =
    if 0 = 0 ∧ l0.length = 3 then c2 (C 278 [(.agg l0), (.c (.int .i64 a1)), (.c x2)] h0) fun y_2 y_3 h_1 => asC y_2 fun x_4 => asI .i64 y_3 fun n_5 => eqNilK true x_4 .nilp fun b_6 => scK b_6 true (lenK x2 fun n_7 => some ((n_5 == n_7), h_1)) false h_1 fun b_8 h_9 => scK b_8 true (c1 (C 174 [(.c x_4)] h_9) fun y_11 h_10 => asB y_11 fun b_12 => some (b_12, h_10)) false h_9 fun b_13 h_14 => some ([(.c (.bool b_13))], h_14) else none := by kernel_rfl

/- jacquard/play.Final: 307 -/
set_option maxRecDepth 100000 in
theorem play_Final_eq (C : CallF) (L : LoopF) (G : Glo) (l0 : List Cell) (a1 : Int) (x2 : Cell) (h0 : AHeap) :
    play_Final.body C L G [(.agg l0), (.c (.int .i64 a1)), (.c x2)] h0 =
    if 0 = 0 ∧ l0.length = 3 then c2 (C 278 [(.agg l0), (.c (.int .i64 a1)), (.c x2)] h0) fun y_2 y_3 h_1 => asC y_2 fun x_4 => asI .i64 y_3 fun n_5 => eqNilK false x_4 .nilp fun b_6 => scK b_6 false (lenK x2 fun n_7 => some ((decide (n_5 < n_7)), h_1)) true h_1 fun b_8 h_9 => scK b_8 false (c1 (C 174 [(.c x_4)] h_9) fun y_11 h_10 => asB y_11 fun b_12 => some ((!b_12), h_10)) true h_9 fun b_13 h_14 => if b_13 = true then if 0 = 0 ∧ (List.replicate 20 (Cell.int .i64 0)).length = 20 ∧ (List.replicate 20 (Cell.int .i64 0)).length = 20 then if 0 = 0 ∧ (List.replicate 20 (Cell.int .i64 0)).length = 20 then some ([(.agg (List.replicate 20 (Cell.int .i64 0))), (.c (.bool false))], h_14) else none else none else c1 (C 179 [(.c x_4)] h_14) fun y_16 h_15 => asA y_16 fun l_17 => if 0 = 0 ∧ (List.replicate 20 (Cell.int .i64 0)).length = 20 ∧ l_17.length = 20 then if 0 = 0 ∧ l_17.length = 20 then some ([(.agg l_17), (.c (.bool true))], h_15) else none else none else none := by kernel_rfl

/- jacquard/play.First: 423 -/
set_option maxRecDepth 100000 in
theorem play_First_eq (C : CallF) (L : LoopF) (G : Glo) (l0 : List Cell) (a1 : Int) (h0 : AHeap) :
    play_First.body C L G [(.agg l0), (.c (.int .i64 a1))] h0 =
    if 0 = 0 ∧ l0.length = 3 then c1 (C 429 [(.agg l0), (.c (.int .i64 a1)), (.c (.fn 428 []))] h0) fun y_2 h_1 => asC y_2 fun x_3 => some ([(.c x_3)], h_1) else none := by kernel_rfl

/- jacquard/play.Lazy: 424 -/
set_option maxRecDepth 100000 in
theorem play_Lazy_eq (C : CallF) (L : LoopF) (G : Glo) (l0 : List Cell) (a1 : Int) (h0 : AHeap) :
    play_Lazy.body C L G [(.agg l0), (.c (.int .i64 a1))] h0 =
    if 0 = 0 ∧ l0.length = 3 then c1 (C 429 [(.agg l0), (.c (.int .i64 a1)), (.c (.fn 430 []))] h0) fun y_2 h_1 => asC y_2 fun x_3 => some ([(.c x_3)], h_1) else none := by kernel_rfl

/- jacquard/play.always: 429 -/
def play_always_k2 (C : CallF) (L : LoopF) (G : Glo) (h0 : AHeap) : Ex → St → Option (List AV × AHeap) :=
  kSeq (fun st => play_always_p1.exec C L G st (play_always.fin G h0)) (play_always.fin G h0)
def play_always_k3 (C : CallF) (L : LoopF) (G : Glo) (h0 : AHeap) : Ex → St → Option (List AV × AHeap) :=
  kBlk 0 (play_always_k2 C L G h0)
def play_always_s1 (x2 : Cell) (x7 : Cell) (x9 : Cell) (h : AHeap) : St := ⟨[.top, .top, .v (.c x2), .top, .top, .top, .top, .v (.c x7), .top, .v (.c x9), .top, .top, .top, .top, .top, .top, .top, .top, .top, .top, .top, .top, .top, .top, .top, .top, .top, .top, .top, .top, .top, .top, .top, .top, .top], [none], h⟩
def play_always_F1 (C : CallF) (L : LoopF) (G : Glo) : St → Option (Ex × St) :=
  roundF (fun st f => play_always_b1.exec C L G st f) [2, 7, 9] [] [(1, [9], [])]
def play_always_x1_1 (x9 : Cell) (h : AHeap) : St := ⟨[.top, .top, .top, .top, .top, .top, .top, .top, .top, .v (.c x9), .top, .top, .top, .top, .top, .top, .top, .top, .top, .top, .top, .top, .top, .top, .top, .top, .top, .top, .top, .top, .top, .top, .top, .top, .top], [none], h⟩
theorem play_always_r1 (C : CallF) (L : LoopF) (G : Glo) (x2 : Cell) (x7 : Cell) (x9 : Cell) (h : AHeap) :
    play_always_F1 C L G (play_always_s1 x2 x7 x9 h) =
    c1 (C 174 [(.c x7)] h) fun y_7 h_6 => asB y_7 fun b_8 => if (!b_8) = true then c1 (C 172 [(.c x7)] h_6) fun y_10 h_9 => asI .u64 y_10 fun n_11 => c1 (C 32 [(.c (.int .u64 n_11))] h_9) fun y_13 h_12 => asC y_13 fun x_14 => fnK x2 fun g_15 l_16 => c1 (C g_15 ([(.c x_14)] ++ l_16) h_12) fun y_18 h_17 => asI .i64 y_18 fun n_19 => c2 (C 173 [(.c x7), (.c (.int .i64 n_19))] h_17) fun y_21 y_22 h_20 => asA y_21 fun l_23 => asB y_22 fun b_24 => if (splice [Cell.int .i64 0] 0 ([(.int .i64 n_19)] : List Cell)).length = 1 * 1 then appK 1 8 x9 (splice [Cell.int .i64 0] 0 ([(.int .i64 n_19)] : List Cell)) h_20 fun x_25 h_26 => some (.normal, (play_always_s1 x2 x7 x_25 h_26)) else none else some ((.exit 0), (play_always_x1_1 x9 h_6)) := by kernel_rfl
theorem play_always_e1_1 (C : CallF) (L : LoopF) (G : Glo) (h0 : AHeap) (x9 : Cell) (h : AHeap) :
    (play_always_k3 C L G h0) (.exit 0) (play_always_x1_1 x9 h) =
    some ([(.c x9)], h) := by kernel_rfl
set_option maxRecDepth 100000 in
theorem play_always_eq (C : CallF) (L : LoopF) (G : Glo) (l0 : List Cell) (a1 : Int) (x2 : Cell) (h0 : AHeap) :
    play_always.body C L G [(.agg l0), (.c (.int .i64 a1)), (.c x2)] h0 =
    if 0 = 0 ∧ l0.length = 3 then c2 (C 171 [(.agg l0), (.c (.int .i64 a1))] h0) fun y_2 y_3 h_1 => asC y_2 fun x_4 => asI .i64 y_3 fun n_5 => if (n_5 != 0) = true then some ([(.c .nils)], h_1) else (L (play_always_F1 C L G) (play_always_s1 x2 x_4 .nils h_1)).bind fun p_27 => (play_always_k3 C L G h0) p_27.1 p_27.2 else none := by kernel_rfl


end Jq

/- Functions from elsewhere, by what is said of them: strings.Join, play.Parse; and what leans on them: play.Text. -/
namespace Jq
open Go

def strsOf : List Cell → Option (List ByteArray)
  | [] => some []
  | .str s :: cs => (strsOf cs).map (s :: ·)
  | _ :: _ => none

theorem strsOf_map (l : List ByteArray) : strsOf (l.map Cell.str) = some l := by
  induction l with
  | nil => rfl
  | cons s l ih => rw [List.map_cons, strsOf, ih]; rfl

/-- Texts side by side, another between each two. -/
def joined (l : List ByteArray) (sep : ByteArray) : ByteArray := ⟨(Lib.join (l.map (·.data.toList)) sep.data.toList).toArray⟩

/-- strings.Join. -/
def joinX (args : List AV) (h : AHeap) : Option (List AV × AHeap) := match args with
  | [.c x, .c (.str sep)] => (slCells h 1 x).bind fun cs => (strsOf cs).bind fun l =>
    if l.length ≤ 140737488355328 ∧ (Lib.join (l.map (·.data.toList)) sep.data.toList).length ≤ 140737488355328 then some ([.c (.str (joined l sep))], h) else none
  | _ => none

/-- A text's parts between blanks. -/
def parts : List UInt8 → List (List UInt8)
  | [] => [[]]
  | b :: l => if b = 32 then [] :: parts l else match parts l with
    | p :: ps => (b :: p) :: ps
    | [] => [[b]]

theorem parts_ne (l : List UInt8) : parts l ≠ [] := by
  cases l with
  | nil => simp [parts]
  | cons b l =>
    unfold parts
    split
    · simp
    · split <;> simp

/-- The least pick of a name; 24: none. -/
def pickOf (w : List UInt8) : Nat := ((List.range 24).find? fun (i : Nat) => decide ((nameOf (i : Int)).data.toList = w)).getD 24

/-- Picks, as far as all are names. -/
def picksOf : List (List UInt8) → Option (List Int)
  | [] => some []
  | w :: ws => if pickOf w = 24 then none else (picksOf ws).map ((pickOf w : Int) :: ·)

/-- play.Parse. -/
def parseX (args : List AV) (h : AHeap) : Option (List AV × AHeap) := match args with
  | [.c (.str s)] =>
    if s.size = 0 then some ([.c .nils, .c (.bool true)], h)
    else if s.size ≤ 4611686018427387904 ∧ ((parts s.data.toList).length + 1) * 8 ≤ 140737488355328 then match picksOf (parts s.data.toList) with
      | none => some ([.c .nils, .c (.bool false)], h)
      | some l => some ([.c (.sl h.length l.length 0 l.length), .c (.bool true)], h ++ [some ⟨true, 1, intC .i64 l⟩])
    else none
  | _ => none

/-- Functions from elsewhere. -/
def ext17 : CallF := fun g args h => if g = 272 then joinX args h else if g = 260 then parseX args h else none

structure Ext17 (E : Env) : Prop where
  join : ∀ args h, E.ext 272 args h = joinX args h
  parse : ∀ args h, E.ext 260 args h = parseX args h

def namesOf (l : List Int) : List ByteArray := l.map nameOf
def textOf (l : List Int) : ByteArray := joined (namesOf l) (ByteArray.mk #[32])

section
variable {E : Env}

theorem Join_R (hx17 : Ext17 E) (hn : E.fn 272 = none) {h : AHeap} {x : Cell} {l : List ByteArray} (hx : SlAt h x 1 (l.map Cell.str) l.length) (sep : ByteArray) (h1 : l.length ≤ 140737488355328) (h2 : (Lib.join (l.map (·.data.toList)) sep.data.toList).length ≤ 140737488355328) :
    R E 272 [.c x, .c (.str sep)] h = some ([.c (.str (joined l sep))], h) := by
  refine R_ext hn ?_
  rw [hx17.join]
  unfold joinX
  dsimp only
  rw [hx.cellsG, Option.bind_some, strsOf_map, Option.bind_some, if_pos ⟨h1, h2⟩]

theorem Parse_R (hx17 : Ext17 E) (hn : E.fn 260 = none) {h : AHeap} {s : ByteArray} {r : List AV × AHeap} (hr : parseX [.c (.str s)] h = some r) : R E 260 [.c (.str s)] h = some r :=
  R_ext hn ((hx17.parse _ _).trans hr)

theorem name_size (i : Int) : (nameOf i).size ≤ 4 := by
  unfold nameOf
  split
  · decide
  · split
    · rw [ByteArray.size_append, one_size]; decide
    · split
      · rw [ByteArray.size_append, one_size]; decide
      · rw [ByteArray.size_append, ByteArray.size_append, ByteArray.size_append, one_size, one_size]; decide

theorem joinTail_le (r : List (List UInt8)) (h : ∀ x ∈ r, x.length ≤ 4) : (Lib.joinTail [32] r).length ≤ 5 * r.length := by
  induction r with
  | nil => simp [Lib.joinTail]
  | cons x r ih =>
    have h1 := h x List.mem_cons_self
    have h2 := ih fun y hy => h y (List.mem_cons_of_mem _ hy)
    unfold Lib.joinTail at h2 ⊢
    rw [List.map_cons, List.flatten_cons, List.length_append, List.length_append, List.length_cons, List.length_cons]
    simp only [List.length_nil]
    omega

theorem join_names (l : List Int) : (Lib.join ((namesOf l).map (·.data.toList)) [32]).length ≤ 5 * l.length := by
  cases l with
  | nil => simp [namesOf, Lib.join]
  | cons i l =>
    unfold namesOf
    rw [List.map_cons, List.map_cons, Lib.join_cons, List.length_append]
    have h1 : (nameOf i).data.toList.length ≤ 4 := name_size i
    have h2 := joinTail_le ((l.map nameOf).map (·.data.toList)) (by
      intro x hx
      simp only [List.mem_map] at hx
      obtain ⟨y, ⟨k, _, rfl⟩, rfl⟩ := hx
      exact name_size k)
    rw [List.length_map, List.length_map] at h2
    rw [List.length_cons]
    omega

theorem Text_R (hE : play_Text_In E) (hx17 : Ext17 E) {h : AHeap} {y : Cell} {l : List Int} (hy : SlAt h y 1 (intC .i64 l) l.length) (hlow : Low h.length y) (hlen : (l.length + 1) * 16 ≤ maxBytes) :
    ∃ h', R E 262 [.c y] h = some ([.c (.str (textOf l))], h') ∧ Kp h.length h h' := by
  have hM : maxBytes = 1099511627776 := rfl
  obtain ⟨st, ⟨z, h', rfl, o, kk⟩, hL⟩ := Lim_inv (F := play_Text_F1 (R E) Lim E.glob)
    (fun i st => ∃ z h', st = play_Text_s1 z y (l.length : Int) (i : Int) h' ∧ Own h.length h' z 1 ((namesOf (l.take i)).map Cell.str) i ∧ Kp h.length h h') 0 l.length (by omega)
    (fun i st _ hi => by
      rintro ⟨z, h', rfl, o, kk⟩
      have hq : l[i]? = some l[i] := List.getElem?_eq_getElem hi
      generalize l[i] = q at hq
      have hy' := hy.keep hlow kk
      obtain ⟨z2, h2, e2, o2, k2, _⟩ := o.app (bytes := 16) (xs := [.str (nameOf q)]) kk.1 rfl (by omega) (by omega) (by omega)
      refine ⟨play_Text_s1 z2 y (l.length : Int) ((i + 1 : Nat) : Int) h2, ?_, z2, h2, rfl, ?_, kk.trans k2⟩
      · rw [play_Text_r1, if_pos (by simp; omega), hy'.get1 hi (intC_get hq), asI_ok, VName_R hE.c167, c1_ok, asS_ok, if_pos (by rfl), g_succ (by omega)]
        exact e2 _
      · rw [takeI_succ hq]
        unfold namesOf at o2 ⊢
        rw [List.map_append, List.map_append]
        exact o2) (st := play_Text_s1 .nils y (l.length : Int) ((0 : Nat) : Int) h) ⟨.nils, h, rfl, Own.nil _ _ _, Kp.refl _ _⟩
  have hr := hL _ (Lim_exit (show play_Text_F1 (R E) Lim E.glob (play_Text_s1 z y (l.length : Int) (l.length : Int) h') = some (.exit 0, play_Text_x1_1 z h') by rw [play_Text_r1, if_neg (by simp)]))
  rw [show ((0 : Nat) : Int) = 0 from rfl] at hr
  rw [List.take_length] at o
  have hn : l.length = (namesOf l).length := by unfold namesOf; rw [List.length_map]
  have hx : SlAt h' z 1 ((namesOf l).map Cell.str) (namesOf l).length := by rw [← hn]; exact o.at
  refine ⟨h', R_intro hE.fn ?_, kk⟩
  rw [play_Text_eq, hy.len, hr, bind_ok]
  dsimp only
  have hj := join_names l
  rw [play_Text_e1_1, Join_R hx17 hE.x272 hx (ByteArray.mk #[32]) (by omega) (by show (Lib.join ((namesOf l).map (·.data.toList)) [32]).length ≤ _; omega), c1_ok, asS_ok]
  rfl
end
end Jq

/- Functions from elsewhere come to what is said of them, if calls of them in the model do. -/
namespace Jq
open Go Go.RowKit

/-- What play.Parse comes to in the model; T: the type of an element. -/
def PPost (T : TypeId) (s : ByteArray) (w : World) (e : Ending) (w' : World) : Prop := Below w.heap.size w w' ∧ (match picksOf (parts s.data.toList) with
      | none => e = .returned (.tuple #[.slice none 0 0, .bool false])
      | some l => ∃ v, e = .returned (.tuple #[v, .bool true]) ∧ w'.ownsRow w.heap.size T 1 v l.length (l.map (Value.int .i64)))

section
variable {S : Seat} {h : AHeap} {w w' : World} {ρ : Rho}

theorem blk_nil (k : Nat) : blk? [] k = none := by simp [blk?]

theorem HI.empty (hi : HI S ρ h w) : HI S ρ [] w where
  blks := fun k b hb => by rw [blk_nil] at hb; cases hb
  inj := fun k b _ _ hb => by rw [blk_nil] at hb; cases hb
  glo := fun g i c hc => by
    obtain ⟨v, hv, hr⟩ := hi.glo g i c hc
    exact ⟨v, hv, relC.const (hi.gcl g c (List.mem_of_getElem? hc)) hr _ _⟩
  gno := fun g k b _ hb => by rw [blk_nil] at hb; cases hb
  gcl := hi.gcl

theorem HI.below0 (hi : HI S ρ h w) (hb : Below w.heap.size w w') : HI S ρ h w' := hi.same fun x hx => hb.block x hx

/-- A call that answers a text and asks for nothing. -/
theorem text_calls {C : CallF} (sc : SoundC S C) {g : Nat} {args : List AV} {vals : Array Value} {s : ByteArray} (hr : C g args [] = some ([.c (.str s)], [])) (hi : HI S ρ [] w) (ha : L2 (relA S ρ []) args vals.toList) :
    Calls S.P (S.fn g) vals w fun e w' => e = .returned (.string s) ∧ Below w.heap.size w w' := by
  refine Calls.mono ((sc g args [] _ hr).2 w ρ vals hi ha) ?_
  rintro e w' ⟨v, ρ', rfl, hr, hi', st⟩
  have hv : v = .string s := hr
  exact ⟨by rw [hv], st.os, st.tape, st.output, st.size, fun k hk => st.keep k hk fun j bl hb => by rw [blk_nil] at hb; cases hb⟩

theorem HI.stay (hi : HI S ρ h w) (hb : Below w.heap.size w w') : HI S ρ h w' ∧ Step h w ρ h w' ρ :=
  ⟨hi.below0 hb, Step.same (fun x hx => hb.block x hx) hb.size hb.os hb.tape hb.output⟩

/-- A row that is nobody's comes in as one of the program's own. -/
theorem HI.adopt (hi : HI S ρ h w) (hb : Below w.heap.size w w') {T : TypeId} {g n cap : Nat} {cur : Array Value} {cs : List Cell} {vs : List Value} (hg : w.heap.size ≤ g) (hc : w'.heap[g]? = some (.cells cur T (0, 0))) (hcap : cur.size = cap) (hn : cs.length = n) (hle : n ≤ cap) (ht : cur.toList.take n = vs)
    (hr : ∀ h ρ, L2 (relC S ρ h) cs vs) :
    ∃ ρ', HI S ρ' (h ++ [some ⟨true, 1, cs⟩]) w' ∧ Step h w ρ (h ++ [some ⟨true, 1, cs⟩]) w' ρ' ∧ relC S ρ' (h ++ [some ⟨true, 1, cs⟩]) (.sl h.length n 0 n) (.slice (some ⟨g, 0, none⟩) n cap) := by
  have e0 : Ext h ρ (h ++ [some ⟨true, 1, cs⟩]) (fun k => if k = h.length then ⟨g, 0, cap⟩ else ρ k) := Ext.append h ρ _ _
  have hnew : blk? (h ++ [some ⟨true, 1, cs⟩]) h.length = some ⟨true, 1, cs⟩ := blk_append_new _ _
  have hoth : ∀ j b, j ≠ h.length → blk? (h ++ [some ⟨true, 1, cs⟩]) j = some b → blk? h j = some b ∧ (fun k => if k = h.length then (⟨g, 0, cap⟩ : Pl) else ρ k) j = ρ j := by
    intro j b hj hb
    rcases blk_append hb with ⟨rfl, _⟩ | ⟨_, hb⟩
    · exact absurd rfl hj
    · exact ⟨hb, if_neg hj⟩
  refine ⟨fun k => if k = h.length then ⟨g, 0, cap⟩ else ρ k, hi.put e0 hnew (if_pos rfl) hoth ?_ (fun x _ hx => hb.block x hx) (.inr hg), Step.put e0 hnew (if_pos rfl) hoth (fun x _ hx => hb.block x hx) (.inr hg) hb.size hb.os hb.tape hb.output, ?_⟩
  · refine ⟨cur, T, (0, 0), hc, hcap, by show 0 + cs.length ≤ cur.size; omega, fun i c hi => ?_, fun _ => rfl⟩
    obtain ⟨u, hu, hru⟩ := (hr (h ++ [some ⟨true, 1, cs⟩]) (fun k => if k = h.length then (⟨g, 0, cap⟩ : Pl) else ρ k)).get hi
    rw [← ht, List.getElem?_take] at hu
    split at hu
    · refine ⟨u, ?_, hru⟩
      rw [Nat.zero_add]
      simpa using hu
    · cases hu
  · refine ⟨by simp, _, _, rfl, hle, fun b hbb => ?_⟩
    rw [hnew] at hbb
    cases hbb
    refine ⟨by show n ≤ cs.length; omega, fun _ => ⟨fun _ => by show n ≤ 0 + cap * 1; omega, .inr ⟨?_, fun _ => ?_⟩⟩⟩
    · dsimp only; rw [if_pos rfl]
    · dsimp only; rw [if_pos rfl]; show 0 + 0 + cap * 1 = cap; omega

theorem ints_rel (l : List Int) (h : AHeap) (ρ : Rho) : L2 (relC S ρ h) (intC .i64 l) (l.map (Value.int .i64)) := by
  unfold intC
  exact L2.of_map l fun _ _ => rfl

theorem parse_sound (hfn : ∃ fn c, S.P.funcs[S.fn 260]? = some fn ∧ fn.body = some c ∧ (fn.name == "runtime.NumGoroutine") = false) {T : TypeId}
    (hw0 : ∀ s w, s.size = 0 → Calls S.P (S.fn 260) #[.string s] w fun e w' => Below w.heap.size w w' ∧ e = .returned (.tuple #[.slice none 0 0, .bool true]))
    (hw : ∀ s w ρ, HI S ρ [] w → s.size ≤ 4611686018427387904 → s.size ≠ 0 → ((parts s.data.toList).length + 1) * 8 ≤ 140737488355328 → Calls S.P (S.fn 260) #[.string s] w (PPost T s w)) :
    SoundC S fun g args h => if g = 260 then parseX args h else none := by
  intro g args h r hr
  have hr : (if g = 260 then parseX args h else none) = some r := hr
  obtain ⟨rfl, hr⟩ := ite_inv hr
  refine ⟨hfn, fun w ρ vals hi ha => ?_⟩
  have hargs : ∃ s, args = [.c (.str s)] := by
    rcases args with _ | ⟨a, _ | ⟨b, t⟩⟩
    · exfalso; simp [parseX] at hr
    · rcases a with c | c
      · cases c <;> first | exact ⟨_, rfl⟩ | (exfalso; simp [parseX] at hr)
      · exfalso; simp [parseX] at hr
    · exfalso
      rcases a with c | c
      · cases c <;> simp [parseX] at hr
      · simp [parseX] at hr
  obtain ⟨s, rfl⟩ := hargs
  have hr : (if s.size = 0 then some ([.c .nils, .c (.bool true)], h)
    else if s.size ≤ 4611686018427387904 ∧ ((parts s.data.toList).length + 1) * 8 ≤ 140737488355328 then match picksOf (parts s.data.toList) with
      | none => some ([.c .nils, .c (.bool false)], h)
      | some l => some ([.c (.sl h.length l.length 0 l.length), .c (.bool true)], h ++ [some ⟨true, 1, intC .i64 l⟩])
    else none : Option (List AV × AHeap)) = some r := hr
  · obtain ⟨v, vs, hv, rv, ht⟩ := ha.cons_left
    have hvs := ht.nil_left
    subst hvs
    have hv1 : v = .string s := rv
    have hvals : vals = #[.string s] := by apply Array.toList_inj.1; rw [hv, hv1]
    subst hvals
    by_cases h0 : s.size = 0
    · rw [if_pos h0] at hr
      cases hr
      refine Calls.mono (hw0 s w h0) ?_
      rintro e w' ⟨hb, rfl⟩
      obtain ⟨h1, h2⟩ := hi.stay hb
      exact ⟨_, ρ, rfl, ⟨#[.slice none 0 0, .bool true], rfl, L2.cons rfl (L2.cons rfl L2.nil)⟩, h1, h2⟩
    · rw [if_neg h0] at hr
      obtain ⟨⟨hs, hb⟩, hr⟩ := ite_inv hr
      refine Calls.mono (hw s w ρ hi.empty hs h0 hb) ?_
      rintro e w' ⟨hbl, hp⟩
      split at hr
      · rename_i hn
        rw [hn] at hp
        cases hr
        obtain ⟨h1, h2⟩ := hi.stay hbl
        exact ⟨_, ρ, hp, ⟨#[.slice none 0 0, .bool false], rfl, L2.cons rfl (L2.cons rfl L2.nil)⟩, h1, h2⟩
      · rename_i l hl
        rw [hl] at hp
        cases hr
        obtain ⟨v, rfl, hrow⟩ := hp
        rcases hrow.2 with ⟨_, hl0⟩ | ⟨q, cap, cur, rfl, hq, hc, hle, _, hcap, ht⟩
        · exfalso
          have hpl : ∀ (ws : List (List UInt8)) (l : List Int), picksOf ws = some l → l.length = ws.length := by
            intro ws
            induction ws with
            | nil => intro l h; cases h; rfl
            | cons x ws ih =>
              intro l h
              unfold picksOf at h
              split at h
              · cases h
              · cases hp : picksOf ws with
                | none => rw [hp] at h; cases h
                | some q => rw [hp] at h; cases h; rw [List.length_cons, List.length_cons, ih q hp]
          have := hpl _ _ hl
          have h2 := List.length_pos_iff.2 (parts_ne s.data.toList)
          omega
        · obtain ⟨ρ', h1, h2, h3⟩ := hi.adopt hbl hq hc (by omega) (show (intC .i64 l).length = l.length by simp [intC]) hle (by rw [← ht, Nat.mul_one]) (fun h ρ => ints_rel l h ρ)
          exact ⟨_, ρ', rfl, ⟨#[.slice (some ⟨q, 0, none⟩) l.length cap, .bool true], rfl, L2.cons h3 (L2.cons rfl L2.nil)⟩, h1, h2⟩

theorem strs_cells {cs : List Cell} : ∀ {l : List ByteArray}, strsOf cs = some l → cs = l.map Cell.str := by
  induction cs with
  | nil => intro l h; cases h; rfl
  | cons c cs ih =>
    intro l h
    cases c with
    | str s =>
      rw [strsOf] at h
      cases hp : strsOf cs with
      | none => rw [hp] at h; cases h
      | some q => rw [hp] at h; cases h; rw [ih hp]; rfl
    | _ => cases h

theorem join_sound (hfn : ∃ fn c, S.P.funcs[S.fn 272]? = some fn ∧ fn.body = some c ∧ (fn.name == "runtime.NumGoroutine") = false)
    (hw0 : ∀ a c sep w, Calls S.P (S.fn 272) #[.slice a 0 c, .string sep] w fun e w' => e = .returned (.string ⟨#[]⟩) ∧ w' = w)
    (hw : ∀ (bk o c : Nat) (xs : List ByteArray) (sep : ByteArray) (w : World), (∀ (j : Nat) x, xs[j]? = some x → w.cell? ⟨bk, o + j, none⟩ = some (.string x)) → bk < w.heap.size → xs.length ≤ 140737488355328 → xs.length ≤ c →
      (Lib.join (xs.map (·.data.toList)) sep.data.toList).length ≤ 140737488355328 → Calls S.P (S.fn 272) #[.slice (some ⟨bk, o, none⟩) xs.length c, .string sep] w fun e w' => e = .returned (.string ⟨(Lib.join (xs.map (·.data.toList)) sep.data.toList).toArray⟩) ∧ Below w.heap.size w w') :
    SoundC S fun g args h => if g = 272 then joinX args h else none := by
  intro g args h r hr
  have hr : (if g = 272 then joinX args h else none) = some r := hr
  obtain ⟨rfl, hr⟩ := ite_inv hr
  refine ⟨hfn, fun w ρ vals hi ha => ?_⟩
  have hargs : ∃ x sep, args = [.c x, .c (.str sep)] := by
    rcases args with _ | ⟨a, _ | ⟨b, _ | ⟨d, t⟩⟩⟩
    · exfalso; simp [joinX] at hr
    · exfalso; simp [joinX] at hr
    · rcases a with c | c
      · rcases b with d | d
        · cases d <;> first | exact ⟨_, _, rfl⟩ | (exfalso; simp [joinX] at hr)
        · exfalso; simp [joinX] at hr
      · exfalso; simp [joinX] at hr
    · exfalso; simp [joinX] at hr
  obtain ⟨x, sep, rfl⟩ := hargs
  unfold joinX at hr
  dsimp only at hr
  · obtain ⟨v, vs, hv, rv, ht⟩ := ha.cons_left
    obtain ⟨v2, vs2, rfl, rv2, ht2⟩ := ht.cons_left
    have hvs := ht2.nil_left
    subst hvs
    have hv2 : v2 = .string sep := rv2
    have hvals : vals = #[v, .string sep] := by apply Array.toList_inj.1; rw [hv, hv2]
    subst hvals
    obtain ⟨cs, hcs, hr⟩ := bind_some hr
    obtain ⟨l, hl, hr⟩ := bind_some hr
    obtain ⟨⟨b1, b2⟩, hr⟩ := ite_inv hr
    cases some_inv hr
    have hcl := strs_cells hl
    subst hcl
    have none_ : ∀ a c, v = .slice a 0 c → l = [] → Calls S.P (S.fn 272) #[v, .string sep] w fun e w' => ∃ u ρ', e = .returned u ∧ relR S ρ' h [.c (.str (joined l sep))] u ∧ HI S ρ' h w' ∧ Step h w ρ h w' ρ' := by
      rintro a c rfl rfl
      refine Calls.mono (hw0 a c sep w) ?_
      rintro e w' ⟨rfl, rfl⟩
      exact ⟨_, ρ, rfl, rfl, hi, Step.refl _ _ _⟩
    unfold slCells at hcs
    split at hcs
    · have : l = [] := by cases l with
        | nil => rfl
        | cons a t => cases hcs
      exact none_ none 0 rv this
    · rename_i k N off len _ _
      split at hcs
      · rename_i h0
        subst h0
        have : l = [] := by cases l with
          | nil => rfl
          | cons a t => cases hcs
        obtain ⟨_, a, c, hva, _⟩ := rv
        exact none_ _ _ hva this
      · rename_i h0
        cases hb : blk? h k with
        | none => rw [hb] at hcs; cases hcs
        | some b =>
          rw [hb] at hcs
          obtain ⟨⟨hN, hle⟩, hcs⟩ := ite_inv hcs
          have hcs := some_inv hcs
          obtain ⟨_, a, cp, hva, hlc, hrr⟩ := rv
          obtain ⟨_, hrr⟩ := hrr b hb
          obtain ⟨_, hrr⟩ := hrr hN
          have hlen : len = l.length := by
            have := congrArg List.length hcs
            simp at this
            omega
          rcases hrr with ⟨hc0, _⟩ | ⟨ha2, _⟩
          · omega
          · obtain ⟨C, e, fz, hC, _, _, hat, _⟩ := hi.blks k b hb
            subst hva ha2 hlen
            refine Calls.mono (hw (ρ k).b ((ρ k).o + off) cp l sep w (fun j y hy => ?_) (Array.getElem?_eq_some_iff.1 hC).1 b1 hlc b2) ?_
            · have hc : b.cs[off + j]? = some (.str y) := by
                have h1 : (l.map Cell.str)[j]? = some (.str y) := by rw [List.getElem?_map, hy]; rfl
                rw [← hcs, List.getElem?_take] at h1
                split at h1
                · rw [List.getElem?_drop] at h1; exact h1
                · cases h1
              obtain ⟨u, hu, hru⟩ := hat _ _ hc
              have hu2 : u = .string y := hru
              rw [hu2] at hu
              rw [Nat.add_assoc]
              simp [World.cell?, hC, hu]
            · rintro e w' ⟨rfl, hbl⟩
              obtain ⟨h1, h2⟩ := hi.stay hbl
              exact ⟨_, ρ, rfl, rfl, h1, h2⟩
    · cases hcs

theorem ext17_sound (hj : SoundC S fun g args h => if g = 272 then joinX args h else none) (hp : SoundC S fun g args h => if g = 260 then parseX args h else none) : SoundC S ext17 := by
  intro g args h r hr
  unfold ext17 at hr
  by_cases h1 : g = 272
  · rw [if_pos h1] at hr
    exact hj g args h r (by show (if g = 272 then joinX args h else none) = some r; rw [if_pos h1]; exact hr)
  · rw [if_neg h1] at hr
    exact hp g args h r hr
end
end Jq

