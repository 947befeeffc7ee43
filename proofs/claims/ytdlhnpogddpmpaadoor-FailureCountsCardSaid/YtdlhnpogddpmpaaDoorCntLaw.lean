/-
  The law FailureCounts: the plain part.
  Conditions: none.
-/
import Derived.Test.YtdlhnpogddpmpaaDoorFailBb
import Derived.Test.YtdlhnpogddpmpaaDoorFailAX
import Derived.Test.YtdlhnpogddpmpaaDoorGMeas
namespace Go.Proofs.YtdlhnpogddpmpaaDoor
open Go.RowKit
attribute [local go_sem] Oper.semAt_some

/-- The numbers of the first rounds, for few processes. -/
def cntN (N : Nat) : Nat := 1 + N * 2 ^ (N - 1)
def cntP (N : Nat) : Nat := [0, 1, 2, 5, 15].getD N 0
def cntS (N : Nat) : Nat := [0, 1, 3, 13, 75].getD N 0
/-- A snapshot's move, whose graph is idempotent. -/
def idemB (_N : Nat) (m : Mv) : Bool := decide (m.r.f = 0) && (decide (m.to = 0) && decide (composeS m.r.g m.r.g = (m.r.g, 0)))
theorem cnt_crash : ((List.range 4).all fun n => decide ((mdlA 1 (n + 1 : Nat) 1).2 = 0) && (decide (0 < (mdlA 1 (n + 1 : Nat) 1).1.L) && decide ((mdlA 1 (n + 1 : Nat) 1).1.len 0 = cntN (n + 1)))) = true := by decide +kernel
theorem cnt_part : ((List.range 4).all fun n => decide ((partA (n + 1 : Nat) 1).2 = 0) && (decide (0 < (partA (n + 1 : Nat) 1).1.L) && decide ((partA (n + 1 : Nat) 1).1.len 0 = cntP (n + 1)))) = true := by decide +kernel
theorem cnt_snap : ((List.range 4).all fun n => decide ((snapA (n + 1 : Nat)).2 = 0) && (decide ((snapA (n + 1 : Nat)).1.L = 1) && (decide ((snapA (n + 1 : Nat)).1.len 0 = cntS (n + 1)) && ((snapA (n + 1 : Nat)).1.st.getD 0 []).all (idemB (n + 1))))) = true := by decide +kernel
theorem cnt_none : ((List.range 4).all fun n => decide ((mdlA 4 (n + 1 : Nat) 0).2 = 0) && (decide ((mdlA 4 (n + 1 : Nat) 0).1.n = (n + 1 : Nat)) && (decide ((mdlA 4 (n + 1 : Nat) 0).1.st = [[⟨⟨(compC (n + 1 : Nat)).1, 0⟩, 0⟩]]) && decide ((compC (n + 1 : Nat)).2 = 0)))) = true := by decide +kernel
theorem cnt_ok {N : Nat} (h1 : 1 ≤ N) (h4 : N ≤ 4) : (∃ A, mdlA 1 N 1 = (A, 0) ∧ 0 < A.L ∧ A.len 0 = cntN N) ∧ (∃ A, partA N 1 = (A, 0) ∧ 0 < A.L ∧ A.len 0 = cntP N) ∧
    (∃ A, snapA N = (A, 0) ∧ A.L = 1 ∧ A.len 0 = cntS N ∧ ∀ i, i < A.len 0 → (A.mv 0 i).r.f = 0 ∧ (A.mv 0 i).to = 0 ∧ composeS (A.mv 0 i).r.g (A.mv 0 i).r.g = ((A.mv 0 i).r.g, 0)) ∧
    ∃ g, mdlA 4 N 0 = (⟨N, [[⟨⟨g, 0⟩, 0⟩]]⟩, 0) ∧ compC N = (g, 0) := by
  obtain ⟨k, rfl⟩ : ∃ k, N = k + 1 := ⟨N - 1, by omega⟩
  have hk : k ∈ List.range 4 := List.mem_range.2 (by omega)
  have a := List.all_eq_true.1 cnt_crash k hk
  have b := List.all_eq_true.1 cnt_part k hk
  have c := List.all_eq_true.1 cnt_snap k hk
  have d := List.all_eq_true.1 cnt_none k hk
  simp only [Bool.and_eq_true, decide_eq_true_eq] at a b c d
  refine ⟨⟨_, Prod.ext rfl a.1, a.2⟩, ⟨_, Prod.ext rfl b.1, b.2⟩, ⟨_, Prod.ext rfl c.1, c.2.1, c.2.2.1, fun i hi => ?_⟩, ⟨_, ?_, Prod.ext rfl d.2.2.2⟩⟩
  rotate_left
  · generalize mdlA 4 ((k + 1 : Nat) : Int) 0 = r at d ⊢
    obtain ⟨⟨n, st⟩, e⟩ := r
    obtain ⟨rfl, rfl, rfl, -⟩ := d
    rfl
  have hm : (snapA (k + 1 : Nat)).1.mv 0 i ∈ (snapA (k + 1 : Nat)).1.st.getD 0 [] := by
    have hi' : i < ((snapA (k + 1 : Nat)).1.st.getD 0 []).length := hi
    show ((snapA (k + 1 : Nat)).1.st.getD 0 []).getD i default ∈ _
    rw [List.getD_eq_getElem?_getD (l := (snapA (k + 1 : Nat)).1.st.getD 0 []), List.getElem?_eq_getElem hi']
    exact List.getElem_mem hi'
  have := List.all_eq_true.1 c.2.2.2 _ hm
  unfold idemB at this
  simpa only [Bool.and_eq_true, decide_eq_true_eq] using this
end Go.Proofs.YtdlhnpogddpmpaaDoor
