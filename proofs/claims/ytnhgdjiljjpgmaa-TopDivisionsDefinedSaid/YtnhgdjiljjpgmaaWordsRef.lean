/-
  Contracts of the reference's lists of words (roundtableref16): From, Words.
  Conditions: as each theorem states.
-/
import Derived.Test.YtnhgdjiljjpgmaaAdvRef3
import Derived.Test.YtnhgdjiljjpgmaaOwned
namespace Go.Proofs.Ytnhgdjiljjpgmaa
open Go.RowKit

/-- The words with k rounds from state s on. -/
def fromS (A : Adv) : Nat → Nat → List (List Rd)
  | 0, _ => [[]]
  | k + 1, s => (List.range (A.len s)).flatMap fun i => (fromS A k (A.mv s i).to.toNat).map ((A.mv s i).r :: ·)
def fromP (A : Adv) (k s i : Nat) : List (List Rd) := (List.range i).flatMap fun i => (fromS A k (A.mv s i).to.toNat).map ((A.mv s i).r :: ·)
theorem fromP_succ (A : Adv) (k s i : Nat) : fromP A k s (i + 1) = fromP A k s i ++ (fromS A k (A.mv s i).to.toNat).map ((A.mv s i).r :: ·) := by
  unfold fromP; rw [List.range_succ, List.flatMap_append]; simp
theorem fromP_len_mono (A : Adv) (k s : Nat) {i j : Nat} (h : i ≤ j) : (fromP A k s i).length ≤ (fromP A k s j).length := by
  obtain ⟨d, rfl⟩ := Nat.exists_eq_add_of_le h
  induction d with
  | zero => exact Nat.le_refl _
  | succ d ih => rw [← Nat.add_assoc, fromP_succ, List.length_append]; have := ih (by omega); omega
theorem fromS_words (A : Adv) : ∀ k s x, x ∈ fromS A k s → x.length = k := by
  intro k
  induction k with
  | zero => intro s x h; simp [fromS] at h; simp [h]
  | succ k ih =>
    intro s x h
    simp only [fromS, List.mem_flatMap, List.mem_map] at h
    obtain ⟨i, _, y, hy, rfl⟩ := h
    simp [ih _ _ hy]
theorem rslice_info : (Try.prog.info? 22).map (fun i => (i.zero, i.size, i.bytes)) = some (some (.slice none 0 0), 1, 24) := by kernel_rfl
theorem round_info : (Try.prog.info? 38).map (fun i => (i.zero, i.size, i.bytes)) = some (some (Rd.v default), 7, 56) := by kernel_rfl
theorem rd_one (x : Rd) : ∀ u ∈ Rd.cells x, u.oneCell' = true := by intro u hu; simp only [List.mem_cons, List.not_mem_nil, or_false] at hu; rcases hu with rfl | rfl | rfl | rfl | rfl | rfl | rfl <;> rfl
theorem own_new_rd (w : World) (r : Rd) : Own Rd.cells 7 (w.alloc (.cells r.cells.toArray 38)) w.heap.size 38 (.slice (some ⟨w.heap.size, 0, none⟩) 1 1) [r] :=
  ⟨fun _ => rfl, rfl, .inr ⟨w.heap.size, 1, r.cells.toArray, rfl, Nat.le_refl _, heap_alloc_new w _, Nat.le_refl _, by unfold maxLen; omega, rfl, rfl⟩⟩

end Go.Proofs.Ytnhgdjiljjpgmaa
