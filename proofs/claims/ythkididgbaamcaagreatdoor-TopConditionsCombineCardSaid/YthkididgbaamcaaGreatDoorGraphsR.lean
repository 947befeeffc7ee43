/-
  The reference's Graphs (roundtableref13), SameAll (roundtableref03).
  Conditions: as each theorem states.
-/
import Derived.Test.YthkididgbaamcaaGreatDoorDelG
import Derived.Test.YthkididgbaamcaaGreatDoorGrAll
import Derived.Test.YthkididgbaamcaaGreatDoorFound
namespace Go.Proofs.YthkididgbaamcaaGreatDoor
open Go.RowKit
attribute [local go_sem] Oper.semAt_some

def holdG (N : Nat) (e : Ex) (g : Gr) : Bool := truthB ⟨N, [], [], g⟩ e
/-- What Graphs returns. -/
def graphsS (n : Int) (e : Ex) : List Gr × Int :=
  if condS e 4 ≠ 0 then ([], condS e 4) else if (allS n).2 ≠ 0 then ([], (allS n).2) else ((allS n).1.filter (holdG n.toNat e), 0)
theorem Gr.h_set (g : Gr) (p k : Nat) (x : Int) : (g.set p x).h k = g.h k ∨ (g.set p x).h k = x := by
  match p with
  | 0 => match k with | 0 => exact .inr rfl | 1 => exact .inl rfl | 2 => exact .inl rfl | 3 => exact .inl rfl | 4 => exact .inl rfl | _ + 5 => exact .inl rfl
  | 1 => match k with | 0 => exact .inl rfl | 1 => exact .inr rfl | 2 => exact .inl rfl | 3 => exact .inl rfl | 4 => exact .inl rfl | _ + 5 => exact .inl rfl
  | 2 => match k with | 0 => exact .inl rfl | 1 => exact .inl rfl | 2 => exact .inr rfl | 3 => exact .inl rfl | 4 => exact .inl rfl | _ + 5 => exact .inl rfl
  | 3 => match k with | 0 => exact .inl rfl | 1 => exact .inl rfl | 2 => exact .inl rfl | 3 => exact .inr rfl | 4 => exact .inl rfl | _ + 5 => exact .inl rfl
  | 4 => match k with | 0 => exact .inl rfl | 1 => exact .inl rfl | 2 => exact .inl rfl | 3 => exact .inl rfl | 4 => exact .inr rfl | _ + 5 => exact .inl rfl
  | _ + 5 => exact .inl rfl
theorem allG_bd {n : Nat} (hn : n ≤ 5) : ∀ p, ∀ g ∈ allG n p, ∀ k, 0 ≤ g.h k ∧ g.h k ≤ 32
  | 0, g, hg, k => by
    simp only [allG, List.mem_singleton] at hg
    subst hg
    match k with
    | 0 => simp [Gr.h]
    | 1 => simp [Gr.h]
    | 2 => simp [Gr.h]
    | 3 => simp [Gr.h]
    | 4 => simp [Gr.h]
    | _ + 5 => simp [Gr.h]
  | p + 1, g, hg, k => by
    have h2 : 2 ^ n ≤ 2 ^ 5 := Nat.pow_le_pow_right (by decide) hn
    simp only [allG, flatG, List.mem_flatMap, rowsP, setsP, List.mem_map, List.mem_filter, List.mem_range] at hg
    obtain ⟨x, hx, i, ⟨hi, _⟩, rfl⟩ := hg
    have ih := allG_bd hn p x (List.mem_of_mem_take hx) k
    rcases Gr.h_set x p k (i : Int) with h | h
    · rw [h]; exact ih
    · rw [h]; omega
theorem getD_mem_gr {L : List Gr} {i : Nat} (h : i < L.length) : L.getD i default ∈ L := by
  rw [List.getD_eq_getElem?_getD, List.getElem?_eq_getElem h]; exact List.getElem_mem h
theorem sc_gr {N : Nat} {g : Gr} (h1 : 1 ≤ N) (h5 : N ≤ 5) (hg : ∀ k, 0 ≤ g.h k ∧ g.h k ≤ 32) : Sc.ok ⟨N, [], [], g⟩ :=
  ⟨h1, h5, fun x hx => (by cases hx), fun x hx => (by cases hx), fun k _ => ⟨(hg k).1, by have := (hg k).2; show g.h k ≤ _; omega⟩⟩
theorem allS_zero {n : Int} (h : (allS n).2 = 0) : 1 ≤ n ∧ n ≤ 4 ∧ (allS n).1 = allG n.toNat n.toNat := by
  unfold allS at h ⊢
  by_cases h1 : n < 1 ∨ 5 < n
  · rw [if_pos h1] at h; exact absurd h (by decide)
  rw [if_neg h1] at h ⊢
  by_cases h2 : n = 5
  · rw [if_pos h2] at h; exact absurd h (by decide)
  rw [if_neg h2]
  exact ⟨by omega, by omega, rfl⟩
theorem allG_short {n : Nat} (h1 : 1 ≤ n) (h4 : n ≤ 4) : (allG n n).length ≤ 4096 := by
  rw [allG_len (by omega) n (Nat.le_refl _)]
  obtain rfl | rfl | rfl | rfl : n = 1 ∨ n = 2 ∨ n = 3 ∨ n = 4 := by omega
  all_goals decide
end Go.Proofs.YthkididgbaamcaaGreatDoor

namespace Go.Proofs.YthkididgbaamcaaGreatDoor
open Go.RowKit
attribute [local go_sem] Oper.semAt_some

def selG (P : Gr → Bool) (L : List Gr) (j : Nat) : List Gr := (L.take j).filter P
theorem selG_yes {P : Gr → Bool} {L : List Gr} {j : Nat} (h : j < L.length) (hp : P (L.getD j default) = true) : selG P L (j + 1) = selG P L j ++ [L.getD j default] := by
  rw [List.getD_eq_getElem?_getD, List.getElem?_eq_getElem h] at hp ⊢
  unfold selG; rw [List.take_succ_eq_append_getElem h, List.filter_append]; simp at hp; simp [hp]
theorem selG_no {P : Gr → Bool} {L : List Gr} {j : Nat} (h : j < L.length) (hp : P (L.getD j default) = false) : selG P L (j + 1) = selG P L j := by
  rw [List.getD_eq_getElem?_getD, List.getElem?_eq_getElem h] at hp
  unfold selG; rw [List.take_succ_eq_append_getElem h, List.filter_append]; simp at hp; simp [hp]
theorem selG_len (P : Gr → Bool) (L : List Gr) (j : Nat) : (selG P L j).length ≤ j := by
  unfold selG; exact Nat.le_trans (List.length_filter_le _ _) (by rw [List.length_take]; omega)
theorem selG_full (P : Gr → Bool) (L : List Gr) : selG P L L.length = L.filter P := by unfold selG; rw [List.take_of_length_le (Nat.le_refl _)]

end Go.Proofs.YthkididgbaamcaaGreatDoor
