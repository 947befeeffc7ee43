/-
  The program's steps (adversary.Step, State, Allows).
  Conditions: as each theorem states.
-/
import Derived.Test.YtdlhnpogddpmpaaGreatIndex
import Derived.Test.YtdlhnpogddpmpaaGreatHeldA
import Derived.Test.YtdlhnpogddpmpaaGreatAdvRef3
namespace Go.Proofs.YtdlhnpogddpmpaaGreat
open Go.RowKit
attribute [local go_sem] Oper.semAt_some

theorem ents_all (A : Adv) (s : Nat) : ents A s (A.len s) = (A.st.getD s []).map fun m => (m.r, m.to) := by
  apply List.ext_getElem
  · simp [ents, Adv.len]
  · intro i h1 h2
    have h3 : i < (A.st.getD s []).length := by simpa using h2
    simp only [ents, List.getElem_map, List.getElem_range]
    have : A.mv s i = (A.st.getD s [])[i] := by show (A.st.getD s []).getD i default = _; rw [List.getD_eq_getElem?_getD, List.getElem?_eq_getElem h3]; rfl
    rw [this]
theorem alook_find (ms : List Mv) (r : Rd) : alook (ms.map fun m => (m.r, m.to)) r = (ms.find? fun m => req m.r r).map (·.to) := by
  induction ms with
  | nil => rfl
  | cons m ms ih =>
    simp only [List.map_cons, alook, List.find?_cons]
    by_cases h : r = m.r
    · rw [if_pos h, req_iff.2 h.symm]; rfl
    · rw [if_neg h]
      have : req m.r r = false := by cases hh : req m.r r; rfl; exact absurd (req_iff.1 hh).symm h
      rw [this]; exact ih
/-- What the table says is what the list says. -/
theorem alook_to {A : Adv} (h : achk A = 0) {s : Nat} (hs : s < A.L) (r : Rd) : (alook (ents A s (A.len s)) r).isSome = decide (0 ≤ toL (A.st.getD s []) r) ∧ (0 ≤ toL (A.st.getD s []) r → (alook (ents A s (A.len s)) r).getD 0 = toL (A.st.getD s []) r) := by
  rw [ents_all, alook_find]
  have hr := to_range h hs r
  unfold toL at hr ⊢
  cases hf : (A.st.getD s []).find? fun m => req m.r r with
  | none => simp
  | some m =>
    have hi : 0 ≤ m.to := by
      obtain ⟨i, hi, he⟩ := List.getElem_of_mem (List.mem_of_find?_eq_some hf)
      have h1 := (sound_of (achk_zero h).2.2.2.2.2.1 s hs i hi).1
      have : A.mv s i = m := by show (A.st.getD s []).getD i default = _; rw [List.getD_eq_getElem?_getD, List.getElem?_eq_getElem hi]; exact he
      rw [this] at h1; exact h1
    simp [hi]
theorem Tab.ext {W W' : World} {g B : Nat} {A : Adv} (h : Tab W g B A) (hE : Ext W W') : Tab W' g B A :=
  ⟨(hE.b.block _ (lt_of_heap h.1)).trans h.1, fun s hs => (h.2 s hs).of_block (hE.b.block _ (h.2 s hs).lt)⟩
theorem Tab.cell {W : World} {g B : Nat} {A : Adv} (h : Tab W g B A) {s : Nat} (hs : s < A.L) : W.cell? ⟨g, s, none⟩ = some (.map (some (B + s))) := by
  rw [cell_of_row _ _ _ _ _ _ h.1, tcells_at hs]; simp [hs]

end Go.Proofs.YtdlhnpogddpmpaaGreat
