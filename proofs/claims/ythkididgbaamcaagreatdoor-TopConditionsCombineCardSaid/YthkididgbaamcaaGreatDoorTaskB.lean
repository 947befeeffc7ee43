/-
  The program's layer 11 (task): Permitted, copied vectors and Allowed.
  Conditions: as each theorem states.
-/
import Derived.Test.YthkididgbaamcaaGreatDoorTaskA
import Derived.Test.YthkididgbaamcaaGreatDoorCloneI
import Derived.Test.YthkididgbaamcaaGreatDoorGrAll
import Derived.Test.YthkididgbaamcaaGreatDoorChoose
namespace Go.Proofs.YthkididgbaamcaaGreatDoor
open Go.RowKit
attribute [local go_sem] Oper.semAt_some

theorem ordL_trans : ∀ {a b c : List Int}, ordL a b = -1 → ordL b c = -1 → ordL a c = -1
  | [], [], _, h, _ => by simp [ordL] at h
  | [], _ :: _, [], _, h => by simp [ordL] at h
  | [], _ :: _, _ :: _, _, _ => rfl
  | _ :: _, [], _, h, _ => by simp [ordL] at h
  | _ :: _, _ :: _, [], _, h => by simp [ordL] at h
  | x :: a, y :: b, z :: c, h1, h2 => by
    unfold ordL at h1 h2 ⊢
    by_cases e1 : x < y
    · by_cases e2 : y < z
      · rw [if_pos (by omega)]
      · rw [if_neg e2] at h2
        by_cases e3 : z < y
        · rw [if_pos e3] at h2; exact absurd h2 (by decide)
        · rw [if_pos (by omega)]
    · rw [if_neg e1] at h1
      by_cases e4 : y < x
      · rw [if_pos e4] at h1; exact absurd h1 (by decide)
      · rw [if_neg e4] at h1
        by_cases e2 : y < z
        · rw [if_pos (by omega)]
        · rw [if_neg e2] at h2
          by_cases e3 : z < y
          · rw [if_pos e3] at h2; exact absurd h2 (by decide)
          · rw [if_neg e3] at h2
            rw [if_neg (by omega), if_neg (by omega)]
            exact ordL_trans h1 h2
theorem ordL_swap : ∀ (a b : List Int), ordL b a = -ordL a b
  | [], [] => rfl
  | [], _ :: _ => rfl
  | _ :: _, [] => rfl
  | x :: a, y :: b => by
    unfold ordL
    by_cases e1 : x < y
    · rw [if_pos e1, if_neg (by omega), if_pos e1]; rfl
    · by_cases e2 : y < x
      · rw [if_pos e2, if_neg e1, if_pos e2]
      · rw [if_neg e2, if_neg e1, if_neg e1, if_neg e2]
        exact ordL_swap a b
/-- A task without an error. -/
structure TkOk (T : Tk) : Prop where
  n1 : 1 ≤ T.n
  n5 : T.n ≤ 5
  i1 : 1 ≤ T.ins
  i8 : T.ins ≤ 8
  o1 : 1 ≤ T.outs
  o8 : T.outs ≤ 8
  l1 : 1 ≤ T.cs.length
  l2 : T.cs.length ≤ 1024
  at_ : ∀ i, i < T.cs.length → vecE (T.cs.getD i default).inp T.n T.ins = 0 ∧ csE T.n T.outs (T.cs.getD i default) = 0
  asc : ∀ i, i + 1 < T.cs.length → ordL (T.cs.getD i default).inp (T.cs.getD (i + 1) default).inp = -1
theorem tk_ok {T : Tk} (h : tkE T = 0) : TkOk T := by
  unfold tkE at h
  by_cases h1 : T.n < 1 ∨ 5 < T.n ∨ T.ins < 1 ∨ 8 < T.ins ∨ T.outs < 1 ∨ 8 < T.outs
  · rw [if_pos h1] at h; exact absurd h (by decide)
  rw [if_neg h1] at h
  by_cases h2 : T.cs.length < 1 ∨ 1024 < T.cs.length
  · rw [if_pos h2] at h; exact absurd h (by decide)
  rw [if_neg h2] at h
  have hi := firstErr_zero.1 h
  have key : ∀ i, i < T.cs.length → vecE (T.cs.getD i default).inp T.n T.ins = 0 ∧ (decide (0 < i) && decide (0 ≤ ordL (T.cs.getD (i - 1) default).inp (T.cs.getD i default).inp)) = false ∧ csE T.n T.outs (T.cs.getD i default) = 0 := fun i hlt => by
    have := hi i hlt
    unfold inE at this
    by_cases k1 : vecE (T.cs.getD i default).inp T.n T.ins = 0
    · rw [if_neg (fun k => k k1)] at this
      cases k2 : (decide (0 < i) && decide (0 ≤ ordL (T.cs.getD (i - 1) default).inp (T.cs.getD i default).inp))
      · rw [k2, if_neg (by decide)] at this
        exact ⟨k1, rfl, this⟩
      · rw [k2, if_pos rfl] at this; exact absurd this (by decide)
    · rw [if_pos k1] at this; exact absurd this k1
  refine ⟨by omega, by omega, by omega, by omega, by omega, by omega, by omega, by omega, fun i hlt => ⟨(key i hlt).1, (key i hlt).2.2⟩, fun i hlt => ?_⟩
  have := (key (i + 1) hlt).2.1
  rw [show i + 1 - 1 = i by omega, show decide (0 < i + 1) = true by simp, Bool.true_and, decide_eq_false_iff_not] at this
  rcases ordL_cases (T.cs.getD i default).inp (T.cs.getD (i + 1) default).inp with h | h | h
  · exact h
  · omega
  · omega
theorem TkOk.lt {T : Tk} (h : TkOk T) : ∀ {i j : Nat}, i < j → j < T.cs.length → ordL (T.cs.getD i default).inp (T.cs.getD j default).inp = -1 := by
  intro i j
  induction j with
  | zero => intro h; omega
  | succ j ih =>
    intro h1 h2
    by_cases e : i = j
    · subst e; exact h.asc i h2
    · exact ordL_trans (ih (by omega) (by omega)) (h.asc j h2)
/-- The index of the case of an input vector, or -1. -/
def fnd (T : Tk) (x : List Int) : Int := firstAt (fun i => decide ((T.cs.getD i default).inp = x)) T.cs.length
theorem fnd_at {T : Tk} (h : TkOk T) {x : List Int} {k : Nat} (hk : k < T.cs.length) (he : (T.cs.getD k default).inp = x) : fnd T x = k :=
  firstAt_at (P := fun i => decide ((T.cs.getD i default).inp = x)) hk (fun i hi => decide_eq_false (fun e => by
    have := h.lt hi hk
    rw [e, ← he] at this
    rw [ordL_zero.2 rfl] at this
    exact absurd this (by decide))) (decide_eq_true he)
theorem fnd_none {T : Tk} {x : List Int} (h : ∀ i, i < T.cs.length → (T.cs.getD i default).inp ≠ x) : fnd T x = -1 :=
  firstAt_none fun i hi => decide_eq_false (h i hi)
def findS (T : Tk) (x : List Int) : Int × Int := if tkE T ≠ 0 then (0, tkE T) else if 0 ≤ fnd T x then (fnd T x, 0) else (0, 6)
/-- What a binary search knows: below i all are lesser, from j on none is. -/
structure Bis (T : Tk) (x : List Int) (i j : Nat) : Prop where
  le : i ≤ j
  len : j ≤ T.cs.length
  lo : ∀ m, m < i → ordL (T.cs.getD m default).inp x = -1
  hi : ∀ m, j ≤ m → m < T.cs.length → 0 ≤ ordL (T.cs.getD m default).inp x
theorem Bis.start (T : Tk) (x : List Int) : Bis T x 0 T.cs.length := ⟨by omega, by omega, fun m h => by omega, fun m h1 h2 => by omega⟩
theorem Bis.up {T : Tk} (h : TkOk T) {x : List Int} {i j m : Nat} (hb : Bis T x i j) (h1 : i ≤ m) (h2 : m < j) (hc : ordL (T.cs.getD m default).inp x < 0) : Bis T x (m + 1) j := by
  have hc' : ordL (T.cs.getD m default).inp x = -1 := by
    rcases ordL_cases (T.cs.getD m default).inp x with h | h | h <;> omega
  refine ⟨by omega, hb.len, fun k hk => ?_, hb.hi⟩
  by_cases e : k = m
  · subst e; exact hc'
  · exact ordL_trans (h.lt (show k < m by omega) (by have := hb.len; omega)) hc'
theorem Bis.down {T : Tk} (h : TkOk T) {x : List Int} {i j m : Nat} (hb : Bis T x i j) (h1 : i ≤ m) (h2 : m < j) (hc : 0 ≤ ordL (T.cs.getD m default).inp x) : Bis T x i m := by
  refine ⟨by omega, by have := hb.len; omega, hb.lo, fun k hk hl => ?_⟩
  by_cases e : k = m
  · subst e; exact hc
  · have hlt := h.lt (show m < k by omega) hl
    rcases ordL_cases (T.cs.getD k default).inp x with h | h | h
    · have := ordL_trans hlt h; omega
    · omega
    · omega
theorem Bis.found {T : Tk} (h : TkOk T) {x : List Int} {i : Nat} (_hb : Bis T x i i) (hl : i < T.cs.length) (hc : ordL (T.cs.getD i default).inp x = 0) : fnd T x = i :=
  fnd_at h hl (ordL_zero.1 hc)
theorem Bis.none_ {T : Tk} (h : TkOk T) {x : List Int} {i : Nat} (hb : Bis T x i i) (hc : i < T.cs.length → ordL (T.cs.getD i default).inp x ≠ 0) : fnd T x = -1 := by
  refine fnd_none fun k hk e => ?_
  have h0 : ordL (T.cs.getD k default).inp x = 0 := ordL_zero.2 e
  by_cases h1 : k < i
  · have := hb.lo k h1; omega
  · by_cases h2 : k = i
    · subst h2; exact hc hk h0
    · have hi := hb.hi i (Nat.le_refl _) (by omega)
      have := h.lt (show i < k by omega) hk
      rw [e] at this
      omega
end Go.Proofs.YthkididgbaamcaaGreatDoor

namespace Go.Proofs.YthkididgbaamcaaGreatDoor
open Go.RowKit
attribute [local go_sem] Oper.semAt_some

def placeE (T : Tk) (i f : Int) : Int := if tkE T ≠ 0 then tkE T else if i < 0 ∨ (T.cs.length : Int) ≤ i then 6 else if f < 0 ∨ (2 : Int) ^ T.n.toNat ≤ f then 2 else 0
/-- The allowed vectors of a case. -/
def allowedL (c : Cs) (f : Int) : List (List Int) := if f = 0 ∧ 0 < c.calm.length then c.calm else c.out
/-- A vector agrees with decisions, but for the faulty. -/
def agreesB (v o : List Int) (s : Nat) : Bool := (List.range v.length).all fun p => has (s : Int) p || (o.getD p 0 == v.getD p 0)
theorem bit_zero {s p : Nat} (hs : s < 9223372036854775808) : (bits .and .i64 ((s : Int) / 2 ^ p) 1 == 0) = !has (s : Int) p := by
  rw [← bit_has (s := s) (p := p) hs]
  rw [show ((s : Int) / 2 ^ p) = ((s >>> p : Nat) : Int) by rw [Nat.shiftRight_eq_div_pow]; simp]
  have h0 : s >>> p ≤ s := Nat.shiftRight_le s p
  have h1 := i64_and_nat (s >>> p) 1 (by omega) (by omega)
  rw [show ((1 : Nat) : Int) = 1 from rfl] at h1
  rw [h1]
  have : s >>> p &&& 1 = 0 ∨ s >>> p &&& 1 = 1 := by rw [Nat.and_one_is_mod]; omega
  rcases this with e | e <;> rw [e] <;> rfl
theorem agrees_no {v o : List Int} {s p : Nat} (hp : p < v.length) (h1 : has (s : Int) p = false) (h2 : o.getD p 0 ≠ v.getD p 0) : agreesB v o s = false := by
  unfold agreesB
  rw [List.all_eq_false]
  refine ⟨p, List.mem_range.2 hp, ?_⟩
  rw [h1, Bool.false_or, beq_iff_eq]
  exact h2
theorem agrees_yes {v o : List Int} {s : Nat} (h : ∀ p, p < v.length → (has (s : Int) p || (o.getD p 0 == v.getD p 0)) = true) : agreesB v o s = true := by
  unfold agreesB
  rw [List.all_eq_true]
  exact fun p hp => h p (List.mem_range.1 hp)
def decBad (m x : Int) : Bool := decide (x < -1) || decide (m ≤ x)
theorem csE_zero {n m : Int} {c : Cs} (h : csE n m c = 0) : (1 ≤ c.out.length ∧ c.out.length ≤ 1024) ∧ (∀ i, i < c.out.length → vecE (c.out.getD i []) n m = 0 ∧ unord c.out i = false) ∧ (∀ i, i < c.calm.length → c.calm.getD i [] ∈ c.out ∧ unord c.calm i = false) := by
  unfold csE at h
  by_cases h1 : c.out.length < 1 ∨ 1024 < c.out.length
  · rw [if_pos h1] at h; exact absurd h (by decide)
  rw [if_neg h1] at h
  by_cases h2 : firstErr (outE n m c.out) c.out.length ≠ 0
  · rw [if_pos h2] at h; exact absurd h h2
  rw [if_neg h2] at h
  have h2 := firstErr_zero.1 (Classical.not_not.1 h2)
  have h3 := firstErr_zero.1 h
  refine ⟨by omega, fun i hi => ?_, fun i hi => ?_⟩
  · have := h2 i hi
    unfold outE at this
    by_cases k : vecE (c.out.getD i []) n m = 0
    · rw [if_neg (fun j => j k)] at this
      cases k2 : unord c.out i
      · exact ⟨k, rfl⟩
      · rw [k2, if_pos rfl] at this; exact absurd this (by decide)
    · rw [if_pos k] at this; exact absurd this k
  · have := h3 i hi
    unfold calmE at this
    by_cases k : c.calm.getD i [] ∈ c.out
    · rw [if_neg (by rw [decide_eq_true k]; decide)] at this
      cases k2 : unord c.calm i
      · exact ⟨k, rfl⟩
      · rw [k2, if_pos rfl] at this; exact absurd this (by decide)
    · rw [if_pos (decide_eq_false k)] at this; exact absurd this (by decide)
theorem vecE_zero {v : List Int} {n m : Int} (h : vecE v n m = 0) : (v.length : Int) = n ∧ ∀ x ∈ v, 0 ≤ x ∧ x < m := by
  unfold vecE at h
  by_cases h1 : (v.length : Int) ≠ n
  · rw [if_pos h1] at h; exact absurd h (by decide)
  rw [if_neg h1] at h
  by_cases h2 : v.any (vecBad m) = true
  · rw [if_pos h2] at h; exact absurd h (by decide)
  refine ⟨Classical.not_not.1 h1, fun x hx => ?_⟩
  have h3 : vecBad m x = false := by
    have := List.any_eq_false.1 (Bool.eq_false_iff.2 h2) x hx
    simpa using this
  unfold vecBad at h3
  simp only [Bool.or_eq_false_iff, decide_eq_false_iff_not] at h3
  omega
/-- All allowed vectors are vectors. -/
theorem allowed_len {n m : Int} {c : Cs} (h : csE n m c = 0) (f : Int) : ∀ i, i < (allowedL c f).length → (((allowedL c f).getD i []).length : Int) = n := by
  obtain ⟨-, h2, h3⟩ := csE_zero h
  have key : ∀ y ∈ c.out, (y.length : Int) = n := fun y hy => by
    obtain ⟨i, hi, rfl⟩ := List.getElem_of_mem hy
    have := (vecE_zero (h2 i hi).1).1
    rw [List.getD_eq_getElem?_getD, List.getElem?_eq_getElem hi] at this
    exact this
  intro i hi
  unfold allowedL at hi ⊢
  split at hi
  · rename_i hc
    rw [if_pos hc]
    exact key _ (h3 i hi).1
  · rename_i hc
    rw [if_neg hc]
    exact (vecE_zero (h2 i hi).1).1
def permS (T : Tk) (i f : Int) (o : List Int) : Bool × Int :=
  if placeE T i f ≠ 0 then (false, placeE T i f) else if (o.length : Int) ≠ T.n then (false, 15) else if o.any (decBad T.outs) = true then (false, 2)
  else ((allowedL (T.cs.getD i.toNat default) f).any fun v => agreesB v o f.toNat, 0)
theorem place_ok {T : Tk} {i f : Int} (h : placeE T i f = 0) : TkOk T ∧ 0 ≤ i ∧ i < T.cs.length ∧ 0 ≤ f ∧ f < 2 ^ T.n.toNat := by
  unfold placeE at h
  by_cases h1 : tkE T = 0
  · rw [if_neg (fun k => k h1)] at h
    by_cases h2 : i < 0 ∨ (T.cs.length : Int) ≤ i
    · rw [if_pos h2] at h; exact absurd h (by decide)
    rw [if_neg h2] at h
    by_cases h3 : f < 0 ∨ (2 : Int) ^ T.n.toNat ≤ f
    · rw [if_pos h3] at h; exact absurd h (by decide)
    exact ⟨tk_ok h1, by omega, by omega, by omega, by omega⟩
  · rw [if_pos h1] at h; exact absurd h h1
end Go.Proofs.YthkididgbaamcaaGreatDoor

namespace Go.Proofs.YthkididgbaamcaaGreatDoor
open Go.RowKit
attribute [local go_sem] Oper.semAt_some

theorem any_agrees (L : List (List Int)) (o : List Int) (s : Nat) : (L.any fun v => agreesB v o s) = L.any (fun v => agreesB v o s) := rfl
theorem place_bd {n : Int} {f : Int} (h1 : 1 ≤ n) (h5 : n ≤ 5) (h0 : 0 ≤ f) (h : f < 2 ^ n.toNat) : f < 32 := by
  obtain ⟨N, rfl⟩ : ∃ N : Nat, n = (N : Int) := ⟨n.toNat, by omega⟩
  rw [Int.toNat_natCast] at h
  obtain rfl | rfl | rfl | rfl | rfl : N = 1 ∨ N = 2 ∨ N = 3 ∨ N = 4 ∨ N = 5 := by omega
  all_goals simp only [Int.reducePow] at h; omega
def firstN (L : List (List Int)) (i : Nat) : List (List Int) := L.take i
def allowS (T : Tk) (i f : Int) : List (List Int) × Int := if placeE T i f ≠ 0 then ([], placeE T i f) else (allowedL (T.cs.getD i.toNat default) f, 0)
theorem allowed_short {n m : Int} {c : Cs} (h : csE n m c = 0) (f : Int) (hc : c.calm.length ≤ 100000) : (allowedL c f).length ≤ 100000 := by
  have := (csE_zero h).1
  unfold allowedL
  split <;> omega
end Go.Proofs.YthkididgbaamcaaGreatDoor
