/-
  The program's task.Agreement.
  Conditions: as each theorem states.
-/
import Derived.Test.YthkididgbaamcaaGreatDoorTaskB
namespace Go.Proofs.YthkididgbaamcaaGreatDoor
open Go.RowKit
attribute [local go_sem] Oper.semAt_some

/-- All values are one. -/
def constB (v : List Int) : Bool := !(v.any fun x => x != v.getD 0 0)
/-- All outputs of a task are of one value. -/
def aggB (T : Tk) : Bool := T.cs.all fun c => c.out.all constB
theorem aggB_no {T : Tk} {i m : Nat} (hi : i < T.cs.length) (hm : m < (T.cs.getD i default).out.length) (h : constB ((T.cs.getD i default).out.getD m []) = false) : aggB T = false := by
  unfold aggB
  rw [List.all_eq_false]
  have e : T.cs.getD i default = T.cs[i] := by rw [List.getD_eq_getElem?_getD, List.getElem?_eq_getElem hi]; rfl
  rw [e] at hm h
  refine ⟨T.cs[i], List.getElem_mem hi, ?_⟩
  rw [Bool.not_eq_true, List.all_eq_false]
  have e2 : T.cs[i].out.getD m [] = T.cs[i].out[m] := by rw [List.getD_eq_getElem?_getD, List.getElem?_eq_getElem hm]; rfl
  rw [e2] at h
  exact ⟨_, List.getElem_mem hm, by simp [h]⟩
theorem aggB_yes {T : Tk} (h : ∀ i, i < T.cs.length → ∀ m, m < (T.cs.getD i default).out.length → constB ((T.cs.getD i default).out.getD m []) = true) : aggB T = true := by
  unfold aggB
  rw [List.all_eq_true]
  intro c hc
  obtain ⟨i, hi, rfl⟩ := List.getElem_of_mem hc
  rw [List.all_eq_true]
  intro v hv
  obtain ⟨m, hm, rfl⟩ := List.getElem_of_mem hv
  have e : T.cs.getD i default = T.cs[i] := by rw [List.getD_eq_getElem?_getD, List.getElem?_eq_getElem hi]; rfl
  have := h i hi m (by rw [e]; exact hm)
  rw [e, List.getD_eq_getElem?_getD, List.getElem?_eq_getElem hm] at this
  exact this
def aggS (T : Tk) : Bool × Int := if tkE T ≠ 0 then (false, tkE T) else (aggB T, 0)
end Go.Proofs.YthkididgbaamcaaGreatDoor
