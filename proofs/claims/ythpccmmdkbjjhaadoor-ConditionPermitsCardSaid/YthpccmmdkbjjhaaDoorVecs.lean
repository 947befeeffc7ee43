/-
  All vectors of n values below m, in ascending order.
  Conditions: none.
-/
import Derived.Test.YthpccmmdkbjjhaaDoorFound
namespace Go.Proofs.YthpccmmdkbjjhaaDoor

def dig (m : Nat) : Nat → Nat → List Int
  | 0, _ => []
  | n + 1, i => dig m n (i / m) ++ [((i % m : Nat) : Int)]
def vecs (m : Nat) : Nat → List (List Int)
  | 0 => [[]]
  | n + 1 => (vecs m n).flatMap fun x => (List.range m).map fun v : Nat => x ++ [(v : Int)]
theorem dig_len (m : Nat) : ∀ n i, (dig m n i).length = n
  | 0, _ => rfl
  | n + 1, i => by simp only [dig, List.length_append, dig_len m n]; rfl
theorem vecs_map (m : Nat) : ∀ n, vecs m n = (List.range (m ^ n)).map (dig m n)
  | 0 => rfl
  | n + 1 => by
    simp only [vecs]
    rw [vecs_map m n]
    have key : ∀ k, ((List.range k).map (dig m n)).flatMap (fun x => (List.range m).map fun v : Nat => x ++ [(v : Int)]) = (List.range (k * m)).map (dig m (n + 1)) := by
      intro k
      induction k with
      | zero => simp
      | succ k ih =>
        rw [List.range_succ, List.map_append, List.flatMap_append, ih, Nat.succ_mul, List.range_add, List.map_append]
        congr 1
        simp only [List.map_cons, List.map_nil, List.flatMap_cons, List.flatMap_nil, List.append_nil, List.map_map]
        apply List.map_congr_left
        intro v hv
        have hv' : v < m := List.mem_range.1 hv
        simp only [Function.comp, dig]
        rw [Nat.mul_comm k m, Nat.mul_add_div (by omega), Nat.div_eq_of_lt hv', Nat.add_zero, Nat.mul_add_mod, Nat.mod_eq_of_lt hv']
    rw [key, Nat.pow_succ]
theorem vecs_len (m n : Nat) : (vecs m n).length = m ^ n := by rw [vecs_map]; simp
theorem vecs_at (m n : Nat) {i : Nat} (h : i < m ^ n) : (vecs m n)[i]? = some (dig m n i) := by
  rw [vecs_map, List.getElem?_map, List.getElem?_range h]; rfl
theorem dig_bd (m : Nat) (hm : 0 < m) : ∀ n i, ∀ x ∈ dig m n i, 0 ≤ x ∧ x < m
  | 0, _, x, h => by simp [dig] at h
  | n + 1, i, x, h => by
    simp only [dig, List.mem_append, List.mem_singleton] at h
    rcases h with h | h
    · exact dig_bd m hm n _ x h
    · have := Nat.mod_lt i hm
      omega
theorem dig_full {m n q : Nat} (h : q % m = m - 1) (hm : 0 < m) : dig m (n + 1) (q + 1) = dig m n (q / m + 1) ++ [0] := by
  have h1 := Nat.div_add_mod q m
  have h2 : q + 1 = m * (q / m + 1) := by rw [Nat.mul_add, Nat.mul_one]; omega
  simp only [dig]
  rw [h2, Nat.mul_div_cancel_left _ hm, Nat.mul_mod_right]
  rfl
theorem dig_next {m n q : Nat} (h : q % m ≠ m - 1) (hm : 0 < m) : dig m (n + 1) (q + 1) = dig m n (q / m) ++ [((q % m + 1 : Nat) : Int)] := by
  have h1 := Nat.div_add_mod q m
  have h3 := Nat.mod_lt q hm
  have h2 : q + 1 = m * (q / m) + (q % m + 1) := by omega
  simp only [dig]
  have e1 : (q + 1) / m = q / m := by rw [h2, Nat.mul_add_div hm, Nat.div_eq_of_lt (show q % m + 1 < m by omega), Nat.add_zero]
  have e2 : (q + 1) % m = q % m + 1 := by
    have := Nat.mul_add_mod m (q / m) (q % m + 1)
    rw [← h2, Nat.mod_eq_of_lt (show q % m + 1 < m by omega)] at this
    exact this
  rw [e1, e2]
theorem dig_zero (m : Nat) : ∀ n, dig m n 0 = List.replicate n 0
  | 0 => rfl
  | n + 1 => by simp only [dig, Nat.zero_div, Nat.zero_mod, dig_zero m n]; rw [List.replicate_succ']; rfl
theorem dig_last (m n q : Nat) : (dig m (n + 1) q).getD n 0 = ((q % m : Nat) : Int) := by
  simp only [dig]
  rw [List.getD_eq_getElem?_getD, List.getElem?_append_right (by rw [dig_len]; exact Nat.le_refl _), dig_len]
  simp
end Go.Proofs.YthpccmmdkbjjhaaDoor
