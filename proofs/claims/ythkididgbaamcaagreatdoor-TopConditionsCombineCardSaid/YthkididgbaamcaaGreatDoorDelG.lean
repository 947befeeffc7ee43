/-
  Graphs struck from a list (slices.DeleteFunc, IndexFunc at the closure of condition.Graphs).
  Conditions: as each theorem states.
-/
import Derived.Test.YthkididgbaamcaaGreatDoorGrAll
import Derived.Test.YthkididgbaamcaaGreatDoorCondA
import Derived.Deep.CutRange
import Derived.Laws.IdiomCopy
namespace Go.Proofs.YthkididgbaamcaaGreatDoor
open Go.RowKit
attribute [local go_sem] Oper.semAt_some

/-- The six cells of element i. -/
def AtG (V : World) (g i : Nat) (x : Gr) : Prop :=
  V.cell? ⟨g, i * 6, none⟩ = some (.int .i64 x.n) ∧ V.cell? ⟨g, i * 6 + 1, none⟩ = some (.int .i64 x.h0) ∧ V.cell? ⟨g, i * 6 + 2, none⟩ = some (.int .i64 x.h1) ∧
  V.cell? ⟨g, i * 6 + 3, none⟩ = some (.int .i64 x.h2) ∧ V.cell? ⟨g, i * 6 + 4, none⟩ = some (.int .i64 x.h3) ∧ V.cell? ⟨g, i * 6 + 5, none⟩ = some (.int .i64 x.h4)
theorem AtG.of_block {V V' : World} {g i : Nat} {x : Gr} (h : AtG V g i x) (hb : V'.heap[g]? = V.heap[g]?) : AtG V' g i x := by
  obtain ⟨h0, h1, h2, h3, h4, h5⟩ := h
  have k : ∀ j, V'.cell? ⟨g, j, none⟩ = V.cell? ⟨g, j, none⟩ := fun j => World.cell?_of_block (a := ⟨g, j, none⟩) hb
  exact ⟨(k _).trans h0, (k _).trans h1, (k _).trans h2, (k _).trans h3, (k _).trans h4, (k _).trans h5⟩
theorem setCells_heap (b : Nat) : ∀ (vs : List Value) (o : Nat) (w : World) (k : Nat), k ≠ b → (w.setCells b o vs).heap[k]? = w.heap[k]?
  | [], _, _, _, _ => rfl
  | _v :: r, o, _w, k, h => (setCells_heap b r (o + 1) _ k h).trans (Below.heap_setCell _ _ _ _ h)
theorem setCells_size (b : Nat) : ∀ (vs : List Value) (o : Nat) (w : World), (w.setCells b o vs).heap.size = w.heap.size
  | [], _, _ => rfl
  | v :: r, o, w => (setCells_size b r (o + 1) _).trans (by simp [World.setCell])
theorem setCells_row (b : Nat) : ∀ (vs : List Value) (o : Nat) (w : World) {c : Array Value} {t : TypeId}, w.heap[b]? = some (.cells c t (0, 0)) → ∃ c', (w.setCells b o vs).heap[b]? = some (.cells c' t (0, 0))
  | [], _, _, c, _, h => ⟨c, h⟩
  | v :: r, o, _w, _c, _t, h => setCells_row b r (o + 1) _ (heap_set h v)
theorem Ext.setCells {w W : World} (h : Ext w W) {b : Nat} (hb : w.heap.size ≤ b) : ∀ (vs : List Value) (o : Nat) (V : World), Ext w V → Ext w (V.setCells b o vs)
  | [], _, _, hV => hV
  | v :: r, o, _V, hV => Ext.setCells h hb r (o + 1) _ (hV.setCell hb v)
theorem AtG.same {V : World} {g k : Nat} {x y : Gr} (h : AtG V g k y) : AtG (V.setCells g (k * 6) (Gr.cells x)) g k x := by
  obtain ⟨h0, h1, h2, h3, h4, h5⟩ := h
  have hs : ∀ j, j < (Gr.cells x).length → (V.cell? ⟨g, k * 6 + j, none⟩).isSome = true := fun j hj => by
    have hj : j < 6 := hj
    obtain rfl | rfl | rfl | rfl | rfl | rfl : j = 0 ∨ j = 1 ∨ j = 2 ∨ j = 3 ∨ j = 4 ∨ j = 5 := by omega
    · rw [show k * 6 + 0 = k * 6 from rfl, h0]; rfl
    · rw [h1]; rfl
    · rw [h2]; rfl
    · rw [h3]; rfl
    · rw [h4]; rfl
    · rw [h5]; rfl
  have hin := fun j hj => World.cell?_setCells_in g (Gr.cells x) (k * 6) V hs j hj
  exact ⟨hin 0 (show 0 < 6 by decide), hin 1 (show 1 < 6 by decide), hin 2 (show 2 < 6 by decide), hin 3 (show 3 < 6 by decide), hin 4 (show 4 < 6 by decide), hin 5 (show 5 < 6 by decide)⟩
theorem AtG.out {V : World} {g i o : Nat} {vs : List Value} {x : Gr} (h : AtG V g i x) (ho : i * 6 + 6 ≤ o ∨ o + vs.length ≤ i * 6) : AtG (V.setCells g o vs) g i x := by
  obtain ⟨h0, h1, h2, h3, h4, h5⟩ := h
  have k : ∀ j, j < 6 → (V.setCells g o vs).cell? ⟨g, i * 6 + j, none⟩ = V.cell? ⟨g, i * 6 + j, none⟩ := fun j hj => World.cell?_setCells_out g vs o V ⟨g, i * 6 + j, none⟩ (fun _ _ => by show i * 6 + j < o ∨ o + vs.length ≤ i * 6 + j; omega)
  exact ⟨(k 0 (by decide)).trans h0, (k 1 (by decide)).trans h1, (k 2 (by decide)).trans h2, (k 3 (by decide)).trans h3, (k 4 (by decide)).trans h4, (k 5 (by decide)).trans h5⟩
theorem run_clear_some {P : Program} (w : World) (t e ty : TypeId) (z : Value) (ht : P.underlying t = some (.slice e)) (hv : ∀ w, (zeroValue e).run P w = .ok z w) (h1 : ∀ i, i < z.cells.size → (z.cells[i]!).oneCell' = true) (hz : 0 < z.cells.size) (b o n c : Nat) (hn : 0 < n)
    (hc : ∀ j, j < n * z.cells.size → (w.cell? ⟨b, o + j, none⟩).isSome = true) (hf : ∀ j, w.frozen? ⟨b, o + j, none⟩ = false) :
    ∃ vs : List Value, vs.length = n * z.cells.size ∧ (Builtin.clear_ #[t] ty #[.slice (some ⟨b, o, none⟩) n c]).run P w = .ok (.tuple #[]) (w.setCells b o vs) := by
  have hlen : (Builtin.zeroCells z.cells n).toList.length = n * z.cells.size := by simp [Builtin.zeroCells]
  refine ⟨(Builtin.zeroCells z.cells n).toList, hlen, ?_⟩
  have hst := run_storeCells_cells (P := P) b o (Builtin.zeroCells z.cells n).toList 0 w (by rw [hlen]; simpa using hc) (fun j _ => by simpa using hf j) (by
    intro v hv'
    simp only [Builtin.zeroCells, Array.toList_map, List.mem_map] at hv'
    obtain ⟨i, _, rfl⟩ := hv'
    exact h1 _ (Nat.mod_lt _ hz))
  simp only [Nat.add_zero] at hst
  obtain ⟨m, rfl⟩ : ∃ m, n = m + 1 := ⟨n - 1, by omega⟩
  simp [Builtin.clear_, run_underlying ht, hv, hst]

/-- What is kept of the first j. -/
def keptG (P : Gr → Bool) (L : List Gr) (j : Nat) : List Gr := (L.take j).filter fun x => !P x
theorem keptG_yes {P : Gr → Bool} {L : List Gr} {j : Nat} (h : j < L.length) (hp : P (L.getD j default) = false) : keptG P L (j + 1) = keptG P L j ++ [L.getD j default] := by
  rw [List.getD_eq_getElem?_getD, List.getElem?_eq_getElem h] at hp ⊢
  unfold keptG; rw [List.take_succ_eq_append_getElem h, List.filter_append]; simp at hp; simp [hp]
theorem keptG_no {P : Gr → Bool} {L : List Gr} {j : Nat} (h : j < L.length) (hp : P (L.getD j default) = true) : keptG P L (j + 1) = keptG P L j := by
  rw [List.getD_eq_getElem?_getD, List.getElem?_eq_getElem h] at hp
  unfold keptG; rw [List.take_succ_eq_append_getElem h, List.filter_append]; simp at hp; simp [hp]
theorem keptG_all {P : Gr → Bool} {L : List Gr} {j : Nat} (hj : j ≤ L.length) (h : ∀ i, i < j → P (L.getD i default) = false) : keptG P L j = L.take j := by
  unfold keptG
  rw [List.filter_eq_self]
  intro x hx
  obtain ⟨i, hi, rfl⟩ := List.mem_iff_getElem.1 hx
  have h1 : i < j := by rw [List.length_take] at hi; omega
  have := h i h1
  rw [List.getD_eq_getElem?_getD, List.getElem?_eq_getElem (show i < L.length by omega)] at this
  simp at this
  simp [this]
theorem keptG_full (P : Gr → Bool) (L : List Gr) : keptG P L L.length = L.filter fun x => !P x := by unfold keptG; rw [List.take_of_length_le (Nat.le_refl _)]
theorem Row.of_atG {V : World} {g c : Nat} {M : List Gr} (h : ∀ i, i < M.length → AtG V g i (M.getD i default)) (hg : g < V.heap.size) (hc : M.length ≤ c) (hc2 : c ≤ 9223372036854775807) (hl : M.length ≤ 17592186044416) : Row Gr.cells 6 V (.slice (some ⟨g, 0, none⟩) M.length c) M := by
  refine ⟨_, _, rfl, hc, ⟨hc2, hl⟩, fun _ => ⟨g, 0, rfl, hg, fun i x hx j u hu => ?_⟩⟩
  have hi : i < M.length := by
    rcases Nat.lt_or_ge i M.length with h1 | h1
    · exact h1
    · rw [List.getElem?_eq_none h1] at hx; cases hx
  have hA := h i hi
  rw [List.getD_eq_getElem?_getD, hx] at hA
  obtain ⟨h0, h1, h2, h3, h4, h5⟩ := hA
  rw [Nat.zero_add]
  match j, hu with
  | 0, hu => simp at hu; subst hu; exact h0
  | 1, hu => simp at hu; subst hu; exact h1
  | 2, hu => simp at hu; subst hu; exact h2
  | 3, hu => simp at hu; subst hu; exact h3
  | 4, hu => simp at hu; subst hu; exact h4
  | 5, hu => simp at hu; subst hu; exact h5
  | _ + 6, hu => simp at hu

theorem exists_first {P : Nat → Bool} : ∀ {n : Nat}, (¬ ∀ i, i < n → P i = false) → ∃ k, k < n ∧ P k = true ∧ ∀ j, j < k → P j = false
  | 0, h => absurd (fun i hi => absurd hi (Nat.not_lt_zero _)) h
  | n + 1, h => by
    by_cases h1 : ∀ i, i < n → P i = false
    · refine ⟨n, Nat.lt_succ_self _, ?_, h1⟩
      cases hp : P n with
      | true => rfl
      | false =>
        exact absurd (fun i hi => by
          rcases Nat.lt_or_ge i n with h2 | h2
          · exact h1 i h2
          · rw [show i = n by omega]; exact hp) h
    · obtain ⟨k, hk, h2⟩ := exists_first h1
      exact ⟨k, by omega, h2⟩
end Go.Proofs.YthkididgbaamcaaGreatDoor
