/-
  Graphs, and rounds, are totally ordered.
  Conditions: none.
-/
import Derived.Test.YtnhgdjiljjpgmaaCmp
namespace Go.Proofs.Ytnhgdjiljjpgmaa

/-- What three comparisons, of a with b, of b with c and of a with c, are to one another. -/
structure Ord3 (x y z : Int) : Prop where
  x1 : -1 ≤ x ∧ x ≤ 1
  y1 : -1 ≤ y ∧ y ≤ 1
  z1 : -1 ≤ z ∧ z ≤ 1
  t : x ≤ 0 → y ≤ 0 → z = max (-1) (x + y)
theorem icmp_ord (a b c : Int) : Ord3 (icmp a b) (icmp b c) (icmp a c) := by
  unfold icmp
  refine ⟨?_, ?_, ?_, ?_⟩
  · split <;> (try split) <;> omega
  · split <;> (try split) <;> omega
  · split <;> (try split) <;> omega
  · intro h1 h2
    by_cases k1 : a < b
    · rw [if_pos k1] at h1 ⊢
      by_cases k2 : b < c
      · rw [if_pos k2, if_pos (by omega)]; decide
      · rw [if_neg k2] at h2 ⊢
        by_cases k3 : c < b
        · rw [if_pos k3] at h2; omega
        · rw [if_neg k3, if_pos (by omega)]; decide
    · rw [if_neg k1] at h1 ⊢
      by_cases k4 : b < a
      · rw [if_pos k4] at h1; omega
      · rw [if_neg k4]
        obtain rfl : a = b := by omega
        split <;> (try split) <;> omega
theorem Ord3.lex {x y z : Int} {l m k : List Int} (h : Ord3 x y z) (h2 : Ord3 (firstNZ l) (firstNZ m) (firstNZ k)) : Ord3 (firstNZ (x :: l)) (firstNZ (y :: m)) (firstNZ (z :: k)) := by
  obtain ⟨x1, y1, z1, t⟩ := h
  obtain ⟨x2, y2, z2, t2⟩ := h2
  simp only [firstNZ]
  generalize firstNZ l = x' at *
  generalize firstNZ m = y' at *
  generalize firstNZ k = z' at *
  refine ⟨?_, ?_, ?_, ?_⟩
  · split <;> omega
  · split <;> omega
  · split <;> omega
  · intro h3 h4
    by_cases k1 : x = 0
    · rw [if_pos k1] at h3 ⊢
      by_cases k2 : y = 0
      · rw [if_pos k2] at h4 ⊢
        have := t (by omega) (by omega)
        rw [if_pos (by omega)]; exact t2 h3 h4
      · rw [if_neg k2] at h4 ⊢
        have := t (by omega) h4
        rw [if_neg (by omega)]; omega
    · rw [if_neg k1] at h3 ⊢
      by_cases k2 : y = 0
      · rw [if_pos k2] at h4 ⊢
        have := t h3 (by omega)
        rw [if_neg (by omega)]; omega
      · rw [if_neg k2] at h4 ⊢
        have := t h3 h4
        rw [if_neg (by omega)]; omega
theorem ord3_nil : Ord3 (firstNZ []) (firstNZ []) (firstNZ []) := ⟨by simp [firstNZ], by simp [firstNZ], by simp [firstNZ], by simp [firstNZ]; decide⟩
theorem gcmp_ord (a b c : Gr) : Ord3 (gcmp a b) (gcmp b c) (gcmp a c) :=
  (icmp_ord _ _ _).lex ((icmp_ord _ _ _).lex ((icmp_ord _ _ _).lex ((icmp_ord _ _ _).lex ((icmp_ord _ _ _).lex ((icmp_ord _ _ _).lex ord3_nil)))))
theorem icmp_anti (a b : Int) : icmp b a = - icmp a b := by unfold icmp; split <;> (try split) <;> (try split) <;> omega
theorem lex_anti {x y : Int} {l m : List Int} (h : y = -x) (h2 : firstNZ m = - firstNZ l) : firstNZ (y :: m) = - firstNZ (x :: l) := by
  simp only [firstNZ]
  subst h
  by_cases k : x = 0
  · rw [if_pos (by omega), if_pos (by omega), h2]
  · rw [if_neg (by omega), if_neg (by omega)]
theorem gcmp_anti (a b : Gr) : gcmp b a = - gcmp a b :=
  lex_anti (icmp_anti _ _) (lex_anti (icmp_anti _ _) (lex_anti (icmp_anti _ _) (lex_anti (icmp_anti _ _) (lex_anti (icmp_anti _ _) (lex_anti (icmp_anti _ _) rfl)))))
theorem lex_zero {x : Int} {l : List Int} : firstNZ (x :: l) = 0 ↔ x = 0 ∧ firstNZ l = 0 := by
  simp only [firstNZ]
  by_cases k : x = 0
  · simp [k]
  · simp [k]
theorem gcmp_zero' {a b : Gr} : gcmp a b = 0 ↔ a = b := by
  unfold gcmp
  rw [lex_zero, lex_zero, lex_zero, lex_zero, lex_zero, lex_zero, icmp_zero, icmp_zero, icmp_zero, icmp_zero, icmp_zero, icmp_zero]
  obtain ⟨a0, a1, a2, a3, a4, a5⟩ := a
  obtain ⟨b0, b1, b2, b3, b4, b5⟩ := b
  simp [firstNZ]
theorem rcmp_ord (a b c : Rd) : Ord3 (rcmp a b) (rcmp b c) (rcmp a c) := (gcmp_ord _ _ _).lex ((icmp_ord _ _ _).lex ord3_nil)
theorem rcmp_anti (a b : Rd) : rcmp b a = - rcmp a b := lex_anti (gcmp_anti _ _) (lex_anti (icmp_anti _ _) rfl)
theorem rcmp_zero' {a b : Rd} : rcmp a b = 0 ↔ a = b := by
  unfold rcmp
  rw [lex_zero, lex_zero, gcmp_zero', icmp_zero]
  obtain ⟨g, f⟩ := a
  obtain ⟨g', f'⟩ := b
  simp [firstNZ]
end Go.Proofs.Ytnhgdjiljjpgmaa
