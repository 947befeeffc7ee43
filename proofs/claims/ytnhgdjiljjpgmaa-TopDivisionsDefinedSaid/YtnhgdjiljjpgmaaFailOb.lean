/-
  Plain: the program's adversaries of layer 17 are the reference's.
  Conditions: as each theorem states.
-/
import Derived.Test.YtnhgdjiljjpgmaaFailY
namespace Go.Proofs.Ytnhgdjiljjpgmaa

theorem buildR_congr {E E' : Nat → List Stp17} {K : Nat → Prop} {n : Nat} (hE : ∀ k, K k → E k = E' k) (hK : ∀ k, K k → ∀ s ∈ E k, K s.2) : ∀ (fuel i : Nat) (order : List Nat) (count : Nat) (out : List (List Mv)), (∀ k ∈ order, K k) →
    buildR E n fuel i order count out = buildR E' n fuel i order count out
  | 0, _, _, _, _, _ => rfl
  | fuel + 1, i, order, count, out, ho => by
    unfold buildR
    by_cases h : i < order.length
    · have hk := ho _ (List.getElem_mem h)
      have e := hE _ hk
      rw [dif_pos h, dif_pos h, ← e]
      rw [buildR_congr hE hK fuel (i + 1) _ _ _ (keysR_all (K := K) _ _ ho (hK _ hk))]
    · rw [dif_neg h, dif_neg h]
theorem buildA_congr {E E' : Nat → List Stp17} {K : Nat → Prop} {n : Nat} (hE : ∀ k, K k → E k = E' k) (hK : ∀ k, K k → ∀ s ∈ E k, K s.2) (h0 : K 0) : buildA E n = buildA E' n := by
  unfold buildA
  rw [buildR_congr hE hK 64 0 [0] 0 [] fun k hk => by
    rw [List.mem_singleton] at hk
    rw [hk]; exact h0]
theorem mdlA_eq {op : Nat} (hop : 1 ≤ op ∧ op ≤ 4) {n f : Int} (h : n ≤ 4 ∨ 5 < n) : mdlA op n f = refA op n f := by
  unfold mdlA refA
  by_cases hb : n < 1 ∨ 5 < n ∨ f < 0 ∨ n < f
  · rw [if_pos hb, if_pos hb]
  · rw [if_neg hb, if_neg hb]
    obtain ⟨e1, e2⟩ := mdlOf_nf (n := n.toNat) (f := f.toNat) hop
    refine buildA_congr (K := fun k => k < 2 ^ n.toNat) (fun k hk => edges_eq hop (by omega) (by omega) hk) (fun k hk s hs => ?_) (Nat.two_pow_pos _)
    rw [sortR_mem] at hs
    obtain ⟨more, hm, g, hg, hn, rfl⟩ := steps_mem hs
    rw [e1] at hm
    exact more_lt hk hm
theorem partA_eq (n k : Int) : partA n k = refPA n k := by
  unfold partA refPA
  by_cases hb : n < 1 ∨ 5 < n ∨ k < 0 ∨ 6 < k
  · rw [if_pos hb, if_pos hb]
  · rw [if_neg hb, if_neg hb]
    refine buildA_congr (K := fun key => key ≤ k.toNat) (fun key hk => part_eq (by omega) (by omega) hk) (fun key hk s hs => ?_) (Nat.zero_le _)
    rw [sortR_mem] at hs
    obtain ⟨g, -, h⟩ := parF_mem hs
    exact h
end Go.Proofs.Ytnhgdjiljjpgmaa
