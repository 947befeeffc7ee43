/-
  Words of an adversary are those that lead to a state.
  Conditions: none.
-/
import Derived.Test.YtmkmgimmlohamaaWordsRef
import Derived.Test.YtmkmgimmlohamaaIndex
namespace Go.Proofs.Ytmkmgimmlohamaa

theorem flatMap_ext {α β : Type} {l : List α} {f g : α → List β} (h : ∀ x ∈ l, f x = g x) : l.flatMap f = l.flatMap g := by
  induction l with
  | nil => rfl
  | cons x l ih => rw [List.flatMap_cons, List.flatMap_cons, h x (by simp), ih fun y hy => h y (by simp [hy])]
theorem mv_to {A : Adv} (h : achk A = 0) {s i : Nat} (hs : s < A.L) (hi : i < A.len s) : 0 ≤ (A.mv s i).to ∧ (A.mv s i).to < A.L := by
  have := sound_of (achk_zero h).2.2.2.2.2.1 s hs i hi
  exact ⟨this.1, this.2.1⟩
theorem len_pos {A : Adv} (h : achk A = 0) {s : Nat} (hs : s < A.L) : 0 < A.len s := by
  have := (stErr_zero ((achk_zero h).2.2.2.2.2.1 s hs)).1
  omega
theorem toL_mv {A : Adv} (h : achk A = 0) {s i : Nat} (hs : s < A.L) (hi : i < A.len s) : toL (A.st.getD s []) (A.mv s i).r = (A.mv s i).to := by
  refine toL_at hi (fun j hj => ?_) (req_iff.2 rfl)
  cases hq : req ((A.st.getD s []).getD j default).r (A.mv s i).r
  · rfl
  · exact absurd (req_iff.1 hq) (rcmp_lt_ne (asc_of h hs i hi j hj))
theorem after_mv {A : Adv} (h : achk A = 0) {s i : Nat} (hs : s < A.L) (hi : i < A.len s) (w : List Rd) : after A s ((A.mv s i).r :: w) = after A (A.mv s i).to.toNat w := by
  simp only [after]
  rw [if_neg (by omega), Int.toNat_natCast, toL_mv h hs hi, Int.toNat_of_nonneg (mv_to h hs hi).1]
theorem after_append (A : Adv) (y : List Rd) : ∀ (x : List Rd) (s : Int), after A s (x ++ y) = after A (after A s x) y
  | [], _ => rfl
  | r :: x, s => by
    rw [List.cons_append]
    simp only [after]
    by_cases hs : s < 0
    · rw [if_pos hs, if_pos hs, after_neg hs]
    · rw [if_neg hs, if_neg hs]; exact after_append A y x _
theorem after_lt {A : Adv} (h : achk A = 0) {s : Nat} (hs : s < A.L) {x : List Rd} (_h0 : 0 ≤ after A s x) : (after A s x).toNat < A.L := by
  have := after_range h x s (.inr ⟨by omega, by omega⟩)
  omega
theorem mem_fromS {A : Adv} {k s : Nat} {x : List Rd} : x ∈ fromS A (k + 1) s ↔ ∃ i, i < A.len s ∧ ∃ y ∈ fromS A k (A.mv s i).to.toNat, (A.mv s i).r :: y = x := by
  simp only [fromS, List.mem_flatMap, List.mem_range, List.mem_map]
theorem words_after {A : Adv} (h : achk A = 0) : ∀ (k s : Nat), s < A.L → ∀ x ∈ fromS A k s, 0 ≤ after A s x
  | 0, s, _, x, hx => by simp only [fromS, List.mem_singleton] at hx; subst hx; simp only [after]; omega
  | k + 1, s, hs, x, hx => by
    obtain ⟨i, hi, y, hy, rfl⟩ := mem_fromS.1 hx
    rw [after_mv h hs hi]
    exact words_after h k _ (by have := mv_to h hs hi; omega) y hy
theorem words_has {A : Adv} (h : achk A = 0) : ∀ (x : List Rd) (s : Nat), s < A.L → 0 ≤ after A s x → x ∈ fromS A x.length s
  | [], s, _, _ => by simp [fromS]
  | r :: x, s, hs, h0 => by
    rw [List.length_cons, mem_fromS]
    have h1 : after A s (r :: x) = after A (toL (A.st.getD s []) r) x := by
      simp only [after]; rw [if_neg (by omega), Int.toNat_natCast]
    rw [h1] at h0
    rcases toL_mem (ms := A.st.getD s []) (r := r) with h2 | ⟨i, hi, hr, ht⟩
    · rw [h2, after_neg (by decide)] at h0; exact absurd h0 (by decide)
    · have hm := mv_to h hs (i := i) hi
      rw [ht] at h0
      have e : ((A.mv s i).to.toNat : Int) = (A.mv s i).to := Int.toNat_of_nonneg hm.1
      refine ⟨i, hi, x, words_has h x _ (by omega) (by rw [e]; exact h0), ?_⟩
      exact congrArg (· :: x) hr
theorem words_iff {A : Adv} (h : achk A = 0) (x : List Rd) : x ∈ fromS A x.length 0 ↔ 0 ≤ after A 0 x :=
  ⟨fun hx => words_after h _ 0 (by have := (achk_zero h).2.2.1; omega) x hx, fun hx => words_has h x 0 (by have := (achk_zero h).2.2.1; omega) hx⟩
end Go.Proofs.Ytmkmgimmlohamaa
