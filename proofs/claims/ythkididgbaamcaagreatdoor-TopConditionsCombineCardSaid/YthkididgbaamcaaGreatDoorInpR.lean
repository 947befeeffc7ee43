/-
  The reference's Inputs and Outputs (roundtableref13).
  Conditions: as each theorem states.
-/
import Derived.Test.YthkididgbaamcaaGreatDoorVecA
import Derived.Test.YthkididgbaamcaaGreatDoorOwned
import Derived.Test.YthkididgbaamcaaGreatDoorOutP
import Derived.ArgAppend
import Derived.Deep.Upon
namespace Go.Proofs.YthkididgbaamcaaGreatDoor
open Go.RowKit
attribute [local go_sem] Oper.semAt_some

def extP (x : List Int) (v : Nat) : List (List Int) := (List.range v).map fun k : Nat => x ++ [(k : Int)]
theorem extP_succ (x : List Int) (v : Nat) : extP x (v + 1) = extP x v ++ [x ++ [(v : Int)]] := by simp [extP, List.range_succ]
def flatV (m : Nat) (L : List (List Int)) (i : Nat) : List (List Int) := (L.take i).flatMap fun x => extP x m
theorem flatV_succ {m : Nat} {L : List (List Int)} {i : Nat} (h : i < L.length) : flatV m L (i + 1) = flatV m L i ++ extP (L.getD i []) m := by
  unfold flatV
  rw [List.take_succ_eq_append_getElem h, List.flatMap_append, List.getD_eq_getElem?_getD, List.getElem?_eq_getElem h]
  simp
theorem flatV_len (m : Nat) (L : List (List Int)) : ∀ i, (flatV m L i).length ≤ i * m := by
  intro i
  induction i with
  | zero => simp [flatV]
  | succ i ih =>
    rcases Nat.lt_or_ge i L.length with h | h
    · rw [flatV_succ h, List.length_append, Nat.succ_mul]
      have : (extP (L.getD i []) m).length = m := by simp [extP]
      omega
    · have : flatV m L (i + 1) = flatV m L i := by unfold flatV; rw [List.take_of_length_le h, List.take_of_length_le (by omega)]
      rw [this, Nat.succ_mul]; omega
theorem flatV_all (m n : Nat) : flatV m (vecs m n) (m ^ n) = vecs m (n + 1) := by
  unfold flatV
  rw [List.take_of_length_le (by rw [vecs_len]; exact Nat.le_refl _)]
  rfl
theorem pow_bd {m n : Nat} (hm : m ≤ 8) (hn : n ≤ 5) : m ^ n ≤ 32768 :=
  Nat.le_trans (Nat.pow_le_pow_left hm n) (Nat.pow_le_pow_right (by decide) hn)
theorem islice_infoR : (Tryz.prog.info? 45).map (fun i => (i.zero, i.size, i.bytes)) = some (some (.slice none 0 0), 1, 24) := by kernel_rfl

end Go.Proofs.YthkididgbaamcaaGreatDoor

namespace Go.Proofs.YthkididgbaamcaaGreatDoor
open Go.RowKit
attribute [local go_sem] Oper.semAt_some

theorem any_getD {l : List Int} {P : Int → Bool} {i : Nat} (h : i < l.length) (hp : P (l.getD i 0) = true) : l.any P = true := by
  refine List.any_eq_true.2 ⟨l.getD i 0, ?_, hp⟩
  rw [List.getD_eq_getElem?_getD, List.getElem?_eq_getElem h]; exact List.getElem_mem h
theorem any_none {l : List Int} {P : Int → Bool} (h : ∀ j, j < l.length → P (l.getD j 0) = false) : l.any P = false := by
  rw [List.any_eq_false]
  intro x hx
  obtain ⟨i, hi, rfl⟩ := List.mem_iff_getElem.1 hx
  have := h i hi
  rw [List.getD_eq_getElem?_getD, List.getElem?_eq_getElem hi] at this
  simpa using this
end Go.Proofs.YthkididgbaamcaaGreatDoor
