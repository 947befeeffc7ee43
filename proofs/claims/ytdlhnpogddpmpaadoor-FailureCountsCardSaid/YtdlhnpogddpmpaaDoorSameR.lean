/-
  The equality of two lists of rounds (roundtableref15.Same).
  Conditions: none.
-/
import Derived.Test.YtdlhnpogddpmpaaDoorRep
import Derived.Test.YtdlhnpogddpmpaaDoorFound
namespace Go.Proofs.YtdlhnpogddpmpaaDoor
open Go.RowKit

theorem list_ne_at {α : Type} [DecidableEq α] {a b : List α} {i : Nat} {d : α} (hi : i < b.length) (h : a.getD i d ≠ b.getD i d) : decide (a = b) = false := by
  rw [decide_eq_false_iff_not]
  rintro rfl
  exact h rfl
theorem list_eq_of {α : Type} [DecidableEq α] {a b : List α} {d : α} (hl : a.length = b.length) (h : ∀ j, j < b.length → a.getD j d = b.getD j d) : decide (a = b) = true := by
  rw [decide_eq_true_iff]
  apply List.ext_getElem hl
  intro i h1 h2
  have := h i h2
  rw [List.getD_eq_getElem?_getD, List.getD_eq_getElem?_getD, List.getElem?_eq_getElem h1, List.getElem?_eq_getElem h2] at this
  exact this

end Go.Proofs.YtdlhnpogddpmpaaDoor
