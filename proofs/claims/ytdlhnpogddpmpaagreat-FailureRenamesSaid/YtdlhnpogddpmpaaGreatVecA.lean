/-
  The program's iterator over all vectors (condition.vectors).
  Conditions: as each theorem states.
-/
import Derived.Test.YtdlhnpogddpmpaaGreatFound
import Derived.Test.YtdlhnpogddpmpaaGreatHeldA
import Derived.Test.YtdlhnpogddpmpaaGreatSeqA
import Derived.Laws.MakeOwn
import Derived.IntWalk
namespace Go.Proofs.YtdlhnpogddpmpaaGreat

def dig (m : Nat) : Nat → Nat → List Int
  | 0, _ => []
  | n + 1, i => dig m n (i / m) ++ [((i % m : Nat) : Int)]
def vecs (m : Nat) : Nat → List (List Int)
  | 0 => [[]]
  | n + 1 => (vecs m n).flatMap fun x => (List.range m).map fun v : Nat => x ++ [(v : Int)]
theorem dig_len (m : Nat) : ∀ n i, (dig m n i).length = n
  | 0, _ => rfl
  | n + 1, i => by simp only [dig, List.length_append, dig_len m n]; rfl
theorem vecs_map (m : Nat) : ∀ n, vecs m n = (List.range (m ^ n)).map (dig m n)
  | 0 => rfl
  | n + 1 => by
    simp only [vecs]
    rw [vecs_map m n]
    have key : ∀ k, ((List.range k).map (dig m n)).flatMap (fun x => (List.range m).map fun v : Nat => x ++ [(v : Int)]) = (List.range (k * m)).map (dig m (n + 1)) := by
      intro k
      induction k with
      | zero => simp
      | succ k ih =>
        rw [List.range_succ, List.map_append, List.flatMap_append, ih, Nat.succ_mul, List.range_add, List.map_append]
        congr 1
        simp only [List.map_cons, List.map_nil, List.flatMap_cons, List.flatMap_nil, List.append_nil, List.map_map]
        apply List.map_congr_left
        intro v hv
        have hv' : v < m := List.mem_range.1 hv
        simp only [Function.comp, dig]
        rw [Nat.mul_comm k m, Nat.mul_add_div (by omega), Nat.div_eq_of_lt hv', Nat.add_zero, Nat.mul_add_mod, Nat.mod_eq_of_lt hv']
    rw [key, Nat.pow_succ]
theorem vecs_len (m n : Nat) : (vecs m n).length = m ^ n := by rw [vecs_map]; simp
theorem vecs_at (m n : Nat) {i : Nat} (h : i < m ^ n) : (vecs m n)[i]? = some (dig m n i) := by
  rw [vecs_map, List.getElem?_map, List.getElem?_range h]; rfl
theorem dig_bd (m : Nat) (hm : 0 < m) : ∀ n i, ∀ x ∈ dig m n i, 0 ≤ x ∧ x < m
  | 0, _, x, h => by simp [dig] at h
  | n + 1, i, x, h => by
    simp only [dig, List.mem_append, List.mem_singleton] at h
    rcases h with h | h
    · exact dig_bd m hm n _ x h
    · have := Nat.mod_lt i hm
      omega
theorem dig_full {m n q : Nat} (h : q % m = m - 1) (hm : 0 < m) : dig m (n + 1) (q + 1) = dig m n (q / m + 1) ++ [0] := by
  have h1 := Nat.div_add_mod q m
  have h2 : q + 1 = m * (q / m + 1) := by rw [Nat.mul_add, Nat.mul_one]; omega
  simp only [dig]
  rw [h2, Nat.mul_div_cancel_left _ hm, Nat.mul_mod_right]
  rfl
theorem dig_next {m n q : Nat} (h : q % m ≠ m - 1) (hm : 0 < m) : dig m (n + 1) (q + 1) = dig m n (q / m) ++ [((q % m + 1 : Nat) : Int)] := by
  have h1 := Nat.div_add_mod q m
  have h3 := Nat.mod_lt q hm
  have h2 : q + 1 = m * (q / m) + (q % m + 1) := by omega
  simp only [dig]
  have e1 : (q + 1) / m = q / m := by rw [h2, Nat.mul_add_div hm, Nat.div_eq_of_lt (show q % m + 1 < m by omega), Nat.add_zero]
  have e2 : (q + 1) % m = q % m + 1 := by
    have := Nat.mul_add_mod m (q / m) (q % m + 1)
    rw [← h2, Nat.mod_eq_of_lt (show q % m + 1 < m by omega)] at this
    exact this
  rw [e1, e2]
theorem dig_zero (m : Nat) : ∀ n, dig m n 0 = List.replicate n 0
  | 0 => rfl
  | n + 1 => by simp only [dig, Nat.zero_div, Nat.zero_mod, dig_zero m n]; rw [List.replicate_succ']; rfl
theorem dig_last (m n q : Nat) : (dig m (n + 1) q).getD n 0 = ((q % m : Nat) : Int) := by
  simp only [dig]
  rw [List.getD_eq_getElem?_getD, List.getElem?_append_right (by rw [dig_len]; exact Nat.le_refl _), dig_len]
  simp
end Go.Proofs.YtdlhnpogddpmpaaGreat

namespace Go.Proofs.YtdlhnpogddpmpaaGreat
open Go.RowKit
attribute [local go_sem] Oper.semAt_some

def vals (l : List Int) : Array Value := (l.map fun x => Value.int .i64 x).toArray
theorem vals_at {l : List Int} {j : Nat} (h : j < l.length) : (vals l)[j]? = some (.int .i64 (l.getD j 0)) := by
  unfold vals
  rw [List.getElem?_toArray, List.getElem?_map, List.getElem?_eq_getElem h, List.getD_eq_getElem?_getD, List.getElem?_eq_getElem h]; rfl
theorem vals_set (l : List Int) (j : Nat) (x : Int) : (vals l).setIfInBounds j (.int .i64 x) = vals (l.set j x) := by
  unfold vals
  rw [List.setIfInBounds_toArray, List.map_set]
/-- Block b holds the numbers l. -/
def Nums (W : World) (b : Nat) (l : List Int) : Prop := W.heap[b]? = some (.cells (vals l) 3 (0, 0))
theorem Nums.at_ {W : World} {b : Nat} {l : List Int} (h : Nums W b l) {j : Nat} (hj : j < l.length) : W.cell? ⟨b, j, none⟩ = some (.int .i64 (l.getD j 0)) := by rw [cell_of_row W b j _ _ _ h]; exact vals_at hj
theorem Nums.set {W : World} {b : Nat} {l : List Int} (h : Nums W b l) (j : Nat) (x : Int) : Nums (W.setCell ⟨b, j, none⟩ (.int .i64 x)) b (l.set j x) := by
  have := heap_set (j := j) h (.int .i64 x)
  rw [vals_set] at this
  exact this
theorem Nums.row {W : World} {b : Nat} {l : List Int} (h : Nums W b l) (hl : l.length ≤ 1000) : Row icells 1 W (.slice (some ⟨b, 0, none⟩) l.length l.length) l := by
  refine ⟨_, _, rfl, Nat.le_refl _, by omega, fun _ => ⟨b, 0, rfl, lt_of_heap h, fun i x hx j u hu => ?_⟩⟩
  cases j with
  | zero =>
    simp only [List.getElem?_cons_zero, Option.some.injEq] at hu
    subst hu
    have hi : i < l.length := by
      rcases Nat.lt_or_ge i l.length with h1 | h1
      · exact h1
      · rw [List.getElem?_eq_none h1] at hx; cases hx
    have := h.at_ hi
    rw [List.getD_eq_getElem?_getD, hx] at this
    simpa using this
  | succ j => simp at hu
theorem set_dig (m j q r : Nat) (x : Int) : (dig m (j + 1) q ++ List.replicate r 0).set j x = dig m j (q / m) ++ (x :: List.replicate r 0) := by
  simp only [dig, List.append_assoc, List.singleton_append]
  rw [List.set_append_right _ _ (by rw [dig_len]; exact Nat.le_refl _), dig_len, Nat.sub_self]
  rfl
theorem getD_dig (m j q r : Nat) : (dig m (j + 1) q ++ List.replicate r 0).getD j 0 = ((q % m : Nat) : Int) := by
  simp only [dig, List.append_assoc, List.singleton_append]
  rw [List.getD_eq_getElem?_getD, List.getElem?_append_right (by rw [dig_len]; exact Nat.le_refl _), dig_len, Nat.sub_self]
  rfl
def decode (m : Nat) (l : List Int) : Nat := l.foldl (fun a x => a * m + x.toNat) 0
theorem decode_dig (m : Nat) (hm : 0 < m) : ∀ n i, i < m ^ n → decode m (dig m n i) = i
  | 0, i, h => by simp at h; subst h; rfl
  | n + 1, i, h => by
    have h1 : i / m < m ^ n := by rw [Nat.div_lt_iff_lt_mul hm]; rwa [Nat.pow_succ] at h
    have := decode_dig m hm n (i / m) h1
    unfold decode at this ⊢
    simp only [dig, List.foldl_append, this, List.foldl_cons, List.foldl_nil, Int.toNat_natCast]
    rw [Nat.mul_comm]; exact Nat.div_add_mod i m
def intsOf : Option Obj → List Int
  | some (.cells c _ _) => c.toList.map intOf
  | _ => []
theorem Nums.ints {W : World} {b : Nat} {l : List Int} (h : Nums W b l) : intsOf W.heap[b]? = l := by
  unfold Nums at h
  rw [h]
  show (List.map intOf (vals l).toList) = l
  unfold vals
  rw [show ((l.map fun x => Value.int .i64 x).toArray).toList = l.map fun x => Value.int .i64 x from rfl, List.map_map]
  exact List.map_id' l

theorem make_ints {P : Program} (t e : TypeId) (ht : P.underlying t = some (.slice e)) (hi : (P.info? e).map (fun i => (i.zero, i.size, i.bytes)) = some (some (.int .i64 0), 1, 8)) (n : Nat) (hn : n ≤ 5) (w : World) :
    (Instr.makeSlice t (.int .i64 (n : Int)) (.int .i64 (n : Int))).run P w = .ok (.slice (some ⟨w.heap.size, 0, none⟩) n n) (w.alloc (.cells (vals (List.replicate n 0)) e)) := by
  cases hq : P.info? e with
  | none => rw [hq] at hi; cases hi
  | some i =>
    rw [hq] at hi
    simp only [Option.map_some, Option.some.injEq, Prod.mk.injEq] at hi
    obtain ⟨hz, h1, h8⟩ := hi
    have hr := run_make (P := P) w t e i (.int .i64 0) ht hq hz .i64 .i64 n n (by omega) (by omega) (by rw [h8]; omega) (by omega)
    simp only [Int.toNat_natCast] at hr
    rw [hr, h1, Nat.mul_one]
    have : madeCells (Value.int .i64 0).cells n = vals (List.replicate n 0) := by
      obtain rfl | rfl | rfl | rfl | rfl | rfl : n = 0 ∨ n = 1 ∨ n = 2 ∨ n = 3 ∨ n = 4 ∨ n = 5 := by omega
      all_goals kernel_rfl
    rw [this]
end Go.Proofs.YtdlhnpogddpmpaaGreat
