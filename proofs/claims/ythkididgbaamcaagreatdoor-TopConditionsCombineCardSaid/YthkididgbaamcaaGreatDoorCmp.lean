/-
  Contracts of the orders of graphs and rounds (cmp, graph, round, roundtableref03, roundtableref15).
  Conditions: as each theorem states.
-/
import Derived.Test.YthkididgbaamcaaGreatDoorFound
namespace Go.Proofs.YthkididgbaamcaaGreatDoor
open Go.RowKit

def icmp (a b : Int) : Int := if a < b then -1 else if b < a then 1 else 0
def gcmp (a b : Gr) : Int := firstNZ [icmp a.n b.n, icmp a.h0 b.h0, icmp a.h1 b.h1, icmp a.h2 b.h2, icmp a.h3 b.h3, icmp a.h4 b.h4]
def rcmp (a b : Rd) : Int := firstNZ [gcmp a.g b.g, icmp a.f b.f]
theorem icmp_lt {a b : Int} (h : a < b) : icmp a b = -1 := by unfold icmp; rw [if_pos h]
theorem icmp_gt {a b : Int} (h : b < a) : icmp a b = 1 := by unfold icmp; rw [if_neg (by omega), if_pos h]
theorem icmp_self (a : Int) : icmp a a = 0 := by unfold icmp; rw [if_neg (by omega), if_neg (by omega)]
theorem icmp_zero {a b : Int} : icmp a b = 0 ↔ a = b := by unfold icmp; split <;> (try split) <;> omega

theorem isnan_any (n : Int) (w : World) : Calls Tryz.prog 116 #[.int .i64 n] w fun e w' => e = .returned (.bool false) ∧ w' = w := by
  go_enter Tryz.func116, Tryz.ntmps116
  go_wp2
  go_ret
  exact ⟨by simp, rfl⟩
theorem ccmp_any (a b : Int) (w : World) : Calls Tryz.prog 83 #[.int .i64 a, .int .i64 b] w fun e w' => e = .returned (.int .i64 (icmp a b)) ∧ w' = w := by
  rcases (by omega : a < b ∨ b < a ∨ a = b) with h | h | h
  · rw [icmp_lt h]
    go_enter Tryz.func83, Tryz.ntmps83
    go_wp2_with (go_at_call 116; refine (isnan_any _ _).mono ?_; rintro e w1 ⟨rfl, rfl⟩)
    go_ret
    exact ⟨rfl, rfl⟩
  · rw [icmp_gt h]
    go_enter Tryz.func83, Tryz.ntmps83
    go_wp2_with (go_at_call 116; refine (isnan_any _ _).mono ?_; rintro e w1 ⟨rfl, rfl⟩)
    go_ret
    exact ⟨rfl, rfl⟩
  · subst h
    rw [icmp_self]
    go_enter Tryz.func83, Tryz.ntmps83
    go_wp2_with (go_at_call 116; refine (isnan_any _ _).mono ?_; rintro e w1 ⟨rfl, rfl⟩)
    go_ret
    exact ⟨rfl, rfl⟩

theorem firstNZ_zero {l : List Int} (h : ∀ x ∈ l, x = 0) : firstNZ l = 0 := by
  induction l with
  | nil => rfl
  | cons x l ih => simp only [firstNZ]; rw [if_pos (h x (by simp))]; exact ih fun y hy => h y (by simp [hy])
theorem gcmp_self (g : Gr) : gcmp g g = 0 := by unfold gcmp; simp [icmp_self, firstNZ]
theorem gcmp_first {g g' : Gr} (h : g.n ≠ g'.n) : gcmp g g' = icmp g.n g'.n := by
  unfold gcmp
  simp only [firstNZ]
  rw [if_neg (by rw [icmp_zero]; exact h)]
theorem gcmp_at {g g' : Gr} {k : Nat} (h0 : g.n = g'.n) (hk : k < 5) (hb : ∀ i, i < k → icmp (g.h i) (g'.h i) = 0) (hne : icmp (g.h k) (g'.h k) ≠ 0) : gcmp g g' = icmp (g.h k) (g'.h k) := by
  unfold gcmp
  rw [h0, icmp_self]
  obtain rfl | rfl | rfl | rfl | rfl : k = 0 ∨ k = 1 ∨ k = 2 ∨ k = 3 ∨ k = 4 := by omega
  · simp only [firstNZ, if_true, Gr.h] at hne ⊢; rw [if_neg hne]
  · have := hb 0 (by omega); simp only [Gr.h] at this hne ⊢; simp [firstNZ, this, hne]
  · have a0 := hb 0 (by omega); have a1 := hb 1 (by omega); simp only [Gr.h] at a0 a1 hne ⊢; simp [firstNZ, a0, a1, hne]
  · have a0 := hb 0 (by omega); have a1 := hb 1 (by omega); have a2 := hb 2 (by omega); simp only [Gr.h] at a0 a1 a2 hne ⊢; simp [firstNZ, a0, a1, a2, hne]
  · have a0 := hb 0 (by omega); have a1 := hb 1 (by omega); have a2 := hb 2 (by omega); have a3 := hb 3 (by omega); simp only [Gr.h] at a0 a1 a2 a3 hne ⊢; simp [firstNZ, a0, a1, a2, a3, hne]
theorem gcmp_end {g g' : Gr} (h0 : g.n = g'.n) (hb : ∀ i, i < 5 → icmp (g.h i) (g'.h i) = 0) : gcmp g g' = 0 := by
  unfold gcmp
  have a0 := hb 0 (by omega); have a1 := hb 1 (by omega); have a2 := hb 2 (by omega); have a3 := hb 3 (by omega); have a4 := hb 4 (by omega)
  simp only [Gr.h] at a0 a1 a2 a3 a4
  simp [firstNZ, a0, a1, a2, a3, a4, h0, icmp_self]


/-- Each element of a is one of b. -/
def inside (a b : Int) : Bool := (List.range 5).all fun p => !has a p || has b p
theorem inside_at {a b : Int} {k : Nat} (hk : k < 5) (h1 : has a k = true) (h2 : has b k = false) : inside a b = false := by
  unfold inside
  rw [List.all_eq_false]
  exact ⟨k, by simpa using hk, by simp [h1, h2]⟩
theorem inside_all {a b : Int} (h : ∀ k, k < 5 → (!has a k || has b k) = true) : inside a b = true := by
  unfold inside
  rw [List.all_eq_true]
  exact fun x hx => h x (by simpa using hx)
end Go.Proofs.YthkididgbaamcaaGreatDoor
