/-
  What the functions answer for the law's example.
  Conditions: none.
-/
import Derived.Test.YtjgkgcjmcpgiaaaExample
namespace Go.Proofs.Ytjgkgcjmcpgiaaa
open Go.RowKit

theorem exA_ok : achk exA = 0 := by decide
theorem exB_ok : achk exB = 0 := by decide
theorem exA_moves : movesN exA ≤ 4611686018427387904 := by decide
theorem exB_moves : movesN exB ≤ 4611686018427387904 := by decide
theorem exA_count : countS exA 1 1048576 = (2, 0) := by decide
theorem exA_words : wordsS exA 2 = ([[exS, exC], [exC, exS], [exC, exC]], 0) := by decide
theorem exA_allows : allowsS exA [exS, exS] = (false, 0) := by decide
theorem ex_reach {A : Adv} (hL : A.L = 3) (h0 : A.len 0 = 2) (h1 : A.mv 0 0 = ⟨exS, 1⟩) (hc : ∀ s i, s ≤ 1 → s < A.L → i < A.len s → (A.mv s i).to.toNat ≤ 1) : reachB A 0 = true ∧ reachB A 1 = true ∧ reachB A 2 = false := by
  refine ⟨reach_zero A, reachB_iff.2 ?_, ?_⟩
  · have := Reach.step (A := A) (s := 0) (i := 0) .zero (by omega) (by omega)
    rw [h1] at this
    exact this
  · cases h : reachB A 2 with
    | false => rfl
    | true =>
      have key : ∀ s, Reach A s → s ≤ 1 := by
        intro s hs
        induction hs with
        | zero => omega
        | step _ h2 h3 ih => exact hc _ _ ih h2 h3
      have := key 2 (reachB_iff.1 h)
      omega
theorem exA_reach : reachB exA 0 = true ∧ reachB exA 1 = true ∧ reachB exA 2 = false :=
  ex_reach rfl rfl rfl (fun s i hs _ hi => by
    obtain rfl | rfl : s = 0 ∨ s = 1 := by omega
    · have hi' : i < 2 := hi
      obtain rfl | rfl : i = 0 ∨ i = 1 := by omega
      · decide
      · decide
    · have hi' : i < 1 := hi
      obtain rfl : i = 0 := by omega
      decide)
theorem exB_reach : reachB exB 0 = true ∧ reachB exB 1 = true ∧ reachB exB 2 = false :=
  ex_reach rfl rfl rfl (fun s i hs _ hi => by
    obtain rfl | rfl : s = 0 ∨ s = 1 := by omega
    · have hi' : i < 2 := hi
      obtain rfl | rfl : i = 0 ∨ i = 1 := by omega
      · decide
      · decide
    · have hi' : i < 2 := hi
      obtain rfl | rfl : i = 0 ∨ i = 1 := by omega
      · decide
      · decide)
theorem exA_reachS : reachS exA = [0, 1] := by
  obtain ⟨h0, h1, h2⟩ := exA_reach
  unfold reachS
  rw [if_pos exA_ok]
  show reachP exA 3 = _
  rw [reachP_no h2, reachP_yes h1, reachP_yes h0]
  rfl
theorem exA_trim : ∃ a b, trimS exA = (⟨2, [a, b]⟩, 0) := by
  obtain ⟨h0, h1, h2⟩ := exA_reach
  unfold trimS
  rw [if_pos exA_ok]
  have : trimSt exA 3 = [(exA.st.getD 0 []).map (trimMv exA), (exA.st.getD 1 []).map (trimMv exA)] := by
    rw [trimSt_no h2, trimSt_yes h1, trimSt_yes h0]
    rfl
  refine ⟨(exA.st.getD 0 []).map (trimMv exA), (exA.st.getD 1 []).map (trimMv exA), ?_⟩
  show (trimA exA, (0 : Int)) = _
  unfold trimA
  rw [show trimSt exA exA.L = _ from this]
  rfl
theorem exA_obl : oblS exA = (false, 0) := by
  obtain ⟨h0, h1, h2⟩ := exA_reach
  unfold oblS
  rw [if_pos exA_ok, oblB_bad (A := exA) (s := 1) (by decide) h1 (by decide)]
theorem exB_obl : oblS exB = (true, 0) := by
  obtain ⟨h0, h1, h2⟩ := exB_reach
  unfold oblS
  rw [if_pos exB_ok, oblB_ok (A := exB) (fun s hs hr => by
    have hs' : s < 3 := hs
    obtain rfl | rfl | rfl : s = 0 ∨ s = 1 ∨ s = 2 := by omega
    · decide
    · decide
    · rw [h2] at hr; cases hr)]
end Go.Proofs.Ytjgkgcjmcpgiaaa
