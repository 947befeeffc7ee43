/-
  The law's example.
  Conditions: as each theorem states.
-/
import Derived.Test.YtjgkgcjmcpgiaaaTrimP
namespace Go.Proofs.Ytjgkgcjmcpgiaaa
open Go.RowKit
attribute [local go_sem] Oper.semAt_some

def exS : Rd := ⟨⟨2, 1, 2, 0, 0, 0⟩, 0⟩
def exC : Rd := ⟨⟨2, 3, 3, 0, 0, 0⟩, 0⟩
def exA : Adv := ⟨2, [[⟨exS, 1⟩, ⟨exC, 0⟩], [⟨exC, 1⟩], [⟨exS, 0⟩]]⟩
def exB : Adv := ⟨2, [[⟨exS, 1⟩, ⟨exC, 0⟩], [⟨exS, 0⟩, ⟨exC, 1⟩], [⟨exS, 0⟩]]⟩
/-- The two rounds of the example lie in V. -/
structure ES (B : Nat) (V : World) : Prop where
  lt : B + 5 ≤ V.heap.size
  b3 : V.heap[B + 3]? = some (.cells #[.int .i64 2, .int .i64 1, .int .i64 2, .int .i64 0, .int .i64 0, .int .i64 0, .int .i64 0] 67 (0, 0))
  b4 : V.heap[B + 4]? = some (.cells #[.int .i64 2, .int .i64 3, .int .i64 3, .int .i64 0, .int .i64 0, .int .i64 0, .int .i64 0] 67 (0, 0))
theorem ES.ext {B : Nat} {V V' : World} (h : ES B V) (hE : Ext V V') : ES B V' := ⟨Nat.le_trans h.lt hE.size, (hE.b.block _ (by have := h.lt; omega)).trans h.b3, (hE.b.block _ (by have := h.lt; omega)).trans h.b4⟩
theorem ES.set {B : Nat} {V : World} (h : ES B V) {a : Addr} (v : Value) (h3 : a.block < B + 3) : ES B (V.setCell a v) := ⟨by have := h.lt; simpa using this, (Below.heap_setCell _ _ _ _ (by omega)).trans h.b3, (Below.heap_setCell _ _ _ _ (by omega)).trans h.b4⟩
theorem ES.k30 {B : Nat} {V : World} (h : ES B V) : V.cell? ⟨B + 3, 0, none⟩ = some (.int .i64 2) := by rw [cell_of_row _ _ _ _ _ _ h.b3]; rfl
theorem ES.k31 {B : Nat} {V : World} (h : ES B V) : V.cell? ⟨B + 3, 1, none⟩ = some (.int .i64 1) := by rw [cell_of_row _ _ _ _ _ _ h.b3]; rfl
theorem ES.k32 {B : Nat} {V : World} (h : ES B V) : V.cell? ⟨B + 3, 2, none⟩ = some (.int .i64 2) := by rw [cell_of_row _ _ _ _ _ _ h.b3]; rfl
theorem ES.k33 {B : Nat} {V : World} (h : ES B V) : V.cell? ⟨B + 3, 3, none⟩ = some (.int .i64 0) := by rw [cell_of_row _ _ _ _ _ _ h.b3]; rfl
theorem ES.k34 {B : Nat} {V : World} (h : ES B V) : V.cell? ⟨B + 3, 4, none⟩ = some (.int .i64 0) := by rw [cell_of_row _ _ _ _ _ _ h.b3]; rfl
theorem ES.k35 {B : Nat} {V : World} (h : ES B V) : V.cell? ⟨B + 3, 5, none⟩ = some (.int .i64 0) := by rw [cell_of_row _ _ _ _ _ _ h.b3]; rfl
theorem ES.k36 {B : Nat} {V : World} (h : ES B V) : V.cell? ⟨B + 3, 6, none⟩ = some (.int .i64 0) := by rw [cell_of_row _ _ _ _ _ _ h.b3]; rfl
theorem ES.k40 {B : Nat} {V : World} (h : ES B V) : V.cell? ⟨B + 4, 0, none⟩ = some (.int .i64 2) := by rw [cell_of_row _ _ _ _ _ _ h.b4]; rfl
theorem ES.k41 {B : Nat} {V : World} (h : ES B V) : V.cell? ⟨B + 4, 1, none⟩ = some (.int .i64 3) := by rw [cell_of_row _ _ _ _ _ _ h.b4]; rfl
theorem ES.k42 {B : Nat} {V : World} (h : ES B V) : V.cell? ⟨B + 4, 2, none⟩ = some (.int .i64 3) := by rw [cell_of_row _ _ _ _ _ _ h.b4]; rfl
theorem ES.k43 {B : Nat} {V : World} (h : ES B V) : V.cell? ⟨B + 4, 3, none⟩ = some (.int .i64 0) := by rw [cell_of_row _ _ _ _ _ _ h.b4]; rfl
theorem ES.k44 {B : Nat} {V : World} (h : ES B V) : V.cell? ⟨B + 4, 4, none⟩ = some (.int .i64 0) := by rw [cell_of_row _ _ _ _ _ _ h.b4]; rfl
theorem ES.k45 {B : Nat} {V : World} (h : ES B V) : V.cell? ⟨B + 4, 5, none⟩ = some (.int .i64 0) := by rw [cell_of_row _ _ _ _ _ _ h.b4]; rfl
theorem ES.k46 {B : Nat} {V : World} (h : ES B V) : V.cell? ⟨B + 4, 6, none⟩ = some (.int .i64 0) := by rw [cell_of_row _ _ _ _ _ _ h.b4]; rfl
attribute [local go_sem] ES.k30 ES.k31 ES.k32 ES.k33 ES.k34 ES.k35 ES.k36 ES.k40 ES.k41 ES.k42 ES.k43 ES.k44 ES.k45 ES.k46

/-- The example lies in w. -/
def ExRep (B : Nat) (w : World) (g g0 g1 g2 : Nat) : Prop :=
  B + 5 ≤ g ∧ B + 5 ≤ g0 ∧ B + 5 ≤ g1 ∧ B + 5 ≤ g2 ∧ g ≠ g0 ∧ g ≠ g1 ∧ g ≠ g2 ∧ w.heap[g]? = some (.cells #[.slice (some ⟨g0, 0, none⟩) 2 2, .slice (some ⟨g1, 0, none⟩) 1 1, .slice (some ⟨g2, 0, none⟩) 1 1] 62 (0, 0)) ∧
  w.heap[g0]? = some (.cells (Mv.cells ⟨exS, 1⟩ ++ Mv.cells ⟨exC, 0⟩).toArray 69 (0, 0)) ∧ w.heap[g1]? = some (.cells (Mv.cells ⟨exC, 1⟩).toArray 69 (0, 0)) ∧ w.heap[g2]? = some (.cells (Mv.cells ⟨exS, 0⟩).toArray 69 (0, 0))
theorem ExRep.set {B : Nat} {w : World} {g g0 g1 g2 : Nat} (h : ExRep B w g g0 g1 g2) {a : Addr} (v : Value) (ha : a.block < B + 5) : ExRep B (w.setCell a v) g g0 g1 g2 := by
  obtain ⟨a1, a2, a3, a4, b1, b2, b3, c1, c2, c3, c4⟩ := h
  exact ⟨a1, a2, a3, a4, b1, b2, b3, (Below.heap_setCell _ _ _ _ (by omega)).trans c1, (Below.heap_setCell _ _ _ _ (by omega)).trans c2, (Below.heap_setCell _ _ _ _ (by omega)).trans c3, (Below.heap_setCell _ _ _ _ (by omega)).trans c4⟩
def ExPost (w : World) (e : Ending) (w' : World) : Prop :=
  ∃ g g0 g1 g2, e = .returned (.tuple #[.agg #[.int .i64 2, .slice (some ⟨g, 0, none⟩) 3 3], exS.v, exC.v]) ∧ ExRep w.heap.size w' g g0 g1 g2 ∧ Ext w w'

set_option maxRecDepth 8000 in
set_option maxHeartbeats 4000000 in
theorem example_any (w : World) : Calls Try.prog 43 #[] w (ExPost w) := by
  go_enter Try.func43, Try.ntmps43
  go_wp2_with fail
  simp only [Nat.add_assoc, Nat.reduceAdd]
  obtain ⟨W, hW⟩ : ∃ W, (((((w.alloc (.cells #[.int .i64 0, .slice none 0 0] 24)).alloc (.cells #[.int .i64 0, .int .i64 0, .int .i64 0, .int .i64 0, .int .i64 0, .int .i64 0, .int .i64 0] 67)).alloc (.cells #[.int .i64 0, .int .i64 0, .int .i64 0, .int .i64 0, .int .i64 0, .int .i64 0, .int .i64 0] 67)).alloc (.cells #[.int .i64 2, .int .i64 1, .int .i64 2, .int .i64 0, .int .i64 0, .int .i64 0, .int .i64 0] 67)).alloc (.cells #[.int .i64 2, .int .i64 3, .int .i64 3, .int .i64 0, .int .i64 0, .int .i64 0, .int .i64 0] 67)) = W := ⟨_, rfl⟩
  have hE : Ext w W := by rw [← hW]; exact (((((Ext.refl w).alloc _).alloc _).alloc _).alloc _).alloc _
  have hz : W.heap.size = w.heap.size + 5 := by rw [← hW]; simp
  have hb0 : W.heap[w.heap.size + 0]? = some (.cells #[.int .i64 0, .slice none 0 0] 24 (0, 0)) := by
    rw [← hW]
    rw [Below.heap_alloc _ _ _ (by simp; try omega)]
    rw [Below.heap_alloc _ _ _ (by simp; try omega)]
    rw [Below.heap_alloc _ _ _ (by simp; try omega)]
    rw [Below.heap_alloc _ _ _ (by simp; try omega)]
    have := heap_alloc_new w (.cells #[.int .i64 0, .slice none 0 0] 24)
    simpa only [World.size_alloc, Nat.add_assoc, Nat.reduceAdd, Nat.add_zero] using this
  have hb1 : W.heap[w.heap.size + 1]? = some (.cells #[.int .i64 0, .int .i64 0, .int .i64 0, .int .i64 0, .int .i64 0, .int .i64 0, .int .i64 0] 67 (0, 0)) := by
    rw [← hW]
    rw [Below.heap_alloc _ _ _ (by simp; try omega)]
    rw [Below.heap_alloc _ _ _ (by simp; try omega)]
    rw [Below.heap_alloc _ _ _ (by simp; try omega)]
    have := heap_alloc_new (w.alloc (.cells #[.int .i64 0, .slice none 0 0] 24)) (.cells #[.int .i64 0, .int .i64 0, .int .i64 0, .int .i64 0, .int .i64 0, .int .i64 0, .int .i64 0] 67)
    simpa only [World.size_alloc, Nat.add_assoc, Nat.reduceAdd, Nat.add_zero] using this
  have hb2 : W.heap[w.heap.size + 2]? = some (.cells #[.int .i64 0, .int .i64 0, .int .i64 0, .int .i64 0, .int .i64 0, .int .i64 0, .int .i64 0] 67 (0, 0)) := by
    rw [← hW]
    rw [Below.heap_alloc _ _ _ (by simp; try omega)]
    rw [Below.heap_alloc _ _ _ (by simp; try omega)]
    have := heap_alloc_new ((w.alloc (.cells #[.int .i64 0, .slice none 0 0] 24)).alloc (.cells #[.int .i64 0, .int .i64 0, .int .i64 0, .int .i64 0, .int .i64 0, .int .i64 0, .int .i64 0] 67)) (.cells #[.int .i64 0, .int .i64 0, .int .i64 0, .int .i64 0, .int .i64 0, .int .i64 0, .int .i64 0] 67)
    simpa only [World.size_alloc, Nat.add_assoc, Nat.reduceAdd, Nat.add_zero] using this
  have hb3 : W.heap[w.heap.size + 3]? = some (.cells #[.int .i64 2, .int .i64 1, .int .i64 2, .int .i64 0, .int .i64 0, .int .i64 0, .int .i64 0] 67 (0, 0)) := by
    rw [← hW]
    rw [Below.heap_alloc _ _ _ (by simp; try omega)]
    have := heap_alloc_new (((w.alloc (.cells #[.int .i64 0, .slice none 0 0] 24)).alloc (.cells #[.int .i64 0, .int .i64 0, .int .i64 0, .int .i64 0, .int .i64 0, .int .i64 0, .int .i64 0] 67)).alloc (.cells #[.int .i64 0, .int .i64 0, .int .i64 0, .int .i64 0, .int .i64 0, .int .i64 0, .int .i64 0] 67)) (.cells #[.int .i64 2, .int .i64 1, .int .i64 2, .int .i64 0, .int .i64 0, .int .i64 0, .int .i64 0] 67)
    simpa only [World.size_alloc, Nat.add_assoc, Nat.reduceAdd, Nat.add_zero] using this
  have hb4 : W.heap[w.heap.size + 4]? = some (.cells #[.int .i64 2, .int .i64 3, .int .i64 3, .int .i64 0, .int .i64 0, .int .i64 0, .int .i64 0] 67 (0, 0)) := by
    rw [← hW]
    have := heap_alloc_new ((((w.alloc (.cells #[.int .i64 0, .slice none 0 0] 24)).alloc (.cells #[.int .i64 0, .int .i64 0, .int .i64 0, .int .i64 0, .int .i64 0, .int .i64 0, .int .i64 0] 67)).alloc (.cells #[.int .i64 0, .int .i64 0, .int .i64 0, .int .i64 0, .int .i64 0, .int .i64 0, .int .i64 0] 67)).alloc (.cells #[.int .i64 2, .int .i64 1, .int .i64 2, .int .i64 0, .int .i64 0, .int .i64 0, .int .i64 0] 67)) (.cells #[.int .i64 2, .int .i64 3, .int .i64 3, .int .i64 0, .int .i64 0, .int .i64 0, .int .i64 0] 67)
    simpa only [World.size_alloc, Nat.add_assoc, Nat.reduceAdd, Nat.add_zero] using this
  rw [hW]
  clear hW
  rw [Nat.add_zero] at hb0
  refine wp_region_heldAll (ES w.heap.size) (by kernel_rfl) ?_
  intro V hV
  have hE : Ext w V := by rw [hV]; exact hE.drew
  have hS : ES w.heap.size V := by rw [hV]; exact ⟨by show w.heap.size + 5 ≤ W.heap.size; omega, hb3, hb4⟩
  have HB0 : Hid (V.heap[w.heap.size]? = some (.cells #[.int .i64 0, .slice none 0 0] 24 (0, 0))) := by rw [hV]; exact hb0
  have HB1 : Hid (V.heap[w.heap.size + 1]? = some (.cells #[.int .i64 0, .int .i64 0, .int .i64 0, .int .i64 0, .int .i64 0, .int .i64 0, .int .i64 0] 67 (0, 0))) := by rw [hV]; exact hb1
  have HB2 : Hid (V.heap[w.heap.size + 2]? = some (.cells #[.int .i64 0, .int .i64 0, .int .i64 0, .int .i64 0, .int .i64 0, .int .i64 0, .int .i64 0] 67 (0, 0))) := by rw [hV]; exact hb2
  clear hV hz hb0 hb1 hb2 hb3 hb4
  refine wpAnyT_take (i := 0) (.agg #[.int .i64 2, .int .i64 1, .int .i64 2, .int .i64 0, .int .i64 0, .int .i64 0, .int .i64 0]) rfl (by kernel_rfl) (by kernel_rfl) (by kernel_rfl) (by simp [Region.wanted]) (fun V hV => by go_simp) hS ?_
  refine wpAnyT_take (i := 1) (.agg #[.int .i64 2, .int .i64 1, .int .i64 2, .int .i64 0, .int .i64 0, .int .i64 0, .int .i64 0, .int .i64 1]) rfl (by kernel_rfl) (by kernel_rfl) (by kernel_rfl) (by simp [Region.wanted]) (fun V hV => by go_simp) hS ?_
  refine wpAnyT_take (i := 2) (.agg #[.int .i64 2, .int .i64 3, .int .i64 3, .int .i64 0, .int .i64 0, .int .i64 0, .int .i64 0]) rfl (by kernel_rfl) (by kernel_rfl) (by kernel_rfl) (by simp [Region.wanted]) (fun V hV => by go_simp) hS ?_
  refine wpAnyT_take (i := 3) (.agg #[.int .i64 2, .int .i64 3, .int .i64 3, .int .i64 0, .int .i64 0, .int .i64 0, .int .i64 0, .int .i64 0]) rfl (by kernel_rfl) (by kernel_rfl) (by kernel_rfl) (by simp [Region.wanted]) (fun V hV => by go_simp) hS ?_
  refine wpAnyT_take (i := 5) (.agg #[.int .i64 2, .int .i64 3, .int .i64 3, .int .i64 0, .int .i64 0, .int .i64 0, .int .i64 0]) rfl (by kernel_rfl) (by kernel_rfl) (by kernel_rfl) (by simp [Region.wanted]) (fun V hV => by go_simp) hS ?_
  refine wpAnyT_take (i := 6) (.agg #[.int .i64 2, .int .i64 3, .int .i64 3, .int .i64 0, .int .i64 0, .int .i64 0, .int .i64 0, .int .i64 1]) rfl (by kernel_rfl) (by kernel_rfl) (by kernel_rfl) (by simp [Region.wanted]) (fun V hV => by go_simp) hS ?_
  refine wpAnyT_take (i := 8) (.agg #[.int .i64 2, .int .i64 1, .int .i64 2, .int .i64 0, .int .i64 0, .int .i64 0, .int .i64 0]) rfl (by kernel_rfl) (by kernel_rfl) (by kernel_rfl) (by simp [Region.wanted]) (fun V hV => by go_simp) hS ?_
  refine wpAnyT_take (i := 9) (.agg #[.int .i64 2, .int .i64 1, .int .i64 2, .int .i64 0, .int .i64 0, .int .i64 0, .int .i64 0, .int .i64 0]) rfl (by kernel_rfl) (by kernel_rfl) (by kernel_rfl) (by simp [Region.wanted]) (fun V hV => by go_simp) hS ?_
  refine wpAnyT_take (i := 13) (.agg #[.int .i64 2, .int .i64 1, .int .i64 2, .int .i64 0, .int .i64 0, .int .i64 0, .int .i64 0]) rfl (by kernel_rfl) (by kernel_rfl) (by kernel_rfl) (by simp [Region.wanted]) (fun V hV => by go_simp) hS ?_
  refine wpAnyT_take (i := 14) (.agg #[.int .i64 2, .int .i64 3, .int .i64 3, .int .i64 0, .int .i64 0, .int .i64 0, .int .i64 0]) rfl (by kernel_rfl) (by kernel_rfl) (by kernel_rfl) (by simp [Region.wanted]) (fun V hV => by go_simp) hS ?_
  simp only [Act.put, List.setIfInBounds_toArray, List.set_cons_zero, List.set_cons_succ]
  refine wpAnyT_all (rs := [4, 7, 10]) (by kernel_rfl) (by simp) ?_
  intro i hi
  simp only [List.mem_cons, List.not_mem_nil, or_false] at hi
  rcases hi with rfl | rfl | rfl
  · refine op_newRow (n := 2) (cs := #[.int .i64 2, .int .i64 1, .int .i64 2, .int .i64 0, .int .i64 0, .int .i64 0, .int .i64 0, .int .i64 1, .int .i64 2, .int .i64 3, .int .i64 3, .int .i64 0, .int .i64 0, .int .i64 0, .int .i64 0, .int .i64 0]) (e := 69) rfl rfl (by go_simp) ?_
    intro V1 g0 hE1 hr0 hg0
    have hS1 := hS.ext hE1
    refine ⟨hS1, ?_⟩
    simp only [Act.put, List.setIfInBounds_toArray, List.set_cons_zero, List.set_cons_succ]
    refine wpAnyT_all (rs := [7, 10]) (by kernel_rfl) (by simp) ?_
    intro i hi
    simp only [List.mem_cons, List.not_mem_nil, or_false] at hi
    rcases hi with rfl | rfl
    · refine op_newRow (n := 1) (cs := #[.int .i64 2, .int .i64 3, .int .i64 3, .int .i64 0, .int .i64 0, .int .i64 0, .int .i64 0, .int .i64 1]) (e := 69) rfl rfl (by go_simp) ?_
      intro V2 g1 hE2 hr1 hg1
      have hS2 := hS1.ext hE2
      refine ⟨hS2, ?_⟩
      simp only [Act.put, List.setIfInBounds_toArray, List.set_cons_zero, List.set_cons_succ]
      refine wpAnyT_all (rs := [10]) (by kernel_rfl) (by simp) ?_
      intro i hi
      simp only [List.mem_singleton] at hi
      subst hi
      refine op_newRow (n := 1) (cs := #[.int .i64 2, .int .i64 1, .int .i64 2, .int .i64 0, .int .i64 0, .int .i64 0, .int .i64 0, .int .i64 0]) (e := 69) rfl rfl (by go_simp) ?_
      intro V3 g2 hE3 hr2 hg2
      have hS3 := hS2.ext hE3
      refine ⟨hS3, ?_⟩
      simp only [Act.put, List.setIfInBounds_toArray, List.set_cons_zero, List.set_cons_succ]
      have hR0 := ((hE3.b.block _ (lt_of_heap ((hE2.b.block _ (lt_of_heap hr0)).trans hr0))).trans ((hE2.b.block _ (lt_of_heap hr0)).trans hr0))
      have hR1 := ((hE3.b.block _ (lt_of_heap hr1)).trans hr1)
      have hR2 := hr2
      have hEE : Ext V V3 := (hE1.trans hE2).trans hE3
      refine wpAnyT_all (rs := [11]) (by kernel_rfl) (by simp) ?_
      intro i hi
      simp only [List.mem_singleton] at hi
      subst hi
      refine op_newRow (n := 3) (cs := #[.slice (some ⟨g0, 0, none⟩) 2 2, .slice (some ⟨g1, 0, none⟩) 1 1, .slice (some ⟨g2, 0, none⟩) 1 1]) (e := 62) rfl rfl (by go_simp) ?_
      intro V4 g hE4 hr hg
      have hS4 := hS3.ext hE4
      refine ⟨hS4, ?_⟩
      simp only [Act.put, List.setIfInBounds_toArray, List.set_cons_zero, List.set_cons_succ]
      refine wpAnyT_take (i := 12) (.agg #[.int .i64 2, .slice (some ⟨g, 0, none⟩) 3 3]) rfl (by kernel_rfl) (by kernel_rfl) (by kernel_rfl) (by simp [Region.wanted]) (fun V hV => by go_simp) hS4 ?_
      simp only [Act.put, List.setIfInBounds_toArray, List.set_cons_zero, List.set_cons_succ]
      refine wpAnyT_rest 15 (by simp) (by kernel_rfl) ?_
      simp only [List.drop_succ_cons, List.drop_zero]
      have hx0 := hEE.trans hE4
      have hR : ExRep w.heap.size V4 g g0 g1 g2 := by
        have a0 := lt_of_heap hR0
        have a1 := lt_of_heap hR1
        have a2 := lt_of_heap hR2
        have z1 := hE.size
        have z2 := hEE.size
        have z3 := hS.lt
        have z4 := hE1.size
        have z5 := hE2.size
        have z6 := hE3.size
        refine ⟨by omega, by omega, by omega, by omega, by omega, by omega, by omega, hr, (hE4.b.block _ a0).trans hR0, (hE4.b.block _ a1).trans hR1, (hE4.b.block _ a2).trans hR2⟩
      have hgV : V.heap.size ≤ g := by have := hEE.size; omega
      have B0 := (hx0.b.block _ (lt_of_heap HB0.out)).trans HB0.out
      have B1 := (hx0.b.block _ (lt_of_heap HB1.out)).trans HB1.out
      have B2 := (hx0.b.block _ (lt_of_heap HB2.out)).trans HB2.out
      have hEV := hE.trans hx0
      clear hg hg0 hg1 hg2 hr hR0 hR1 hR2 hgV hr0 hr1 hr2
      have l0 : w.heap.size < V4.heap.size := lt_of_heap B0
      have c00 : V4.cell? ⟨w.heap.size, 0, none⟩ = some (.int .i64 0) := by rw [cell_of_row _ _ _ _ _ _ B0]; rfl
      have f00 : V4.frozen? ⟨w.heap.size, 0, none⟩ = false := frozen_row B0 _
      have c01 : V4.cell? ⟨w.heap.size, 1, none⟩ = some (.slice none 0 0) := by rw [cell_of_row _ _ _ _ _ _ B0]; rfl
      have f01 : V4.frozen? ⟨w.heap.size, 1, none⟩ = false := frozen_row B0 _
      have HB := hide (And.intro B0 (And.intro B1 B2))
      have HR9 := hide hR
      have HE9 := hide hEV
      have HS9 := hide hS4
      clear B0 B1 B2 hR hEV hS4
      refine wpTail_keep (fun KK hKK => ?_)
      go_wp2_with fail
      obtain ⟨B0, B1, B2⟩ := HB.out
      have hR := HR9.out
      have hEV := HE9.out
      have hS4 := HS9.out
      obtain ⟨V5, hV9⟩ : ∃ V5, ((V4.setCell ⟨w.heap.size, 0, none⟩ (.int .i64 2)).setCell ⟨w.heap.size, 1, none⟩ (.slice (some ⟨g, 0, none⟩) 3 3)) = V5 := ⟨_, rfl⟩
      have hR : ExRep w.heap.size V5 g g0 g1 g2 := by rw [← hV9]; exact (ExRep.set (ExRep.set hR (a := ⟨w.heap.size, 0, none⟩) _ (by simp)) (a := ⟨w.heap.size, 1, none⟩) _ (by simp))
      have hEV : Ext w V5 := by rw [← hV9]; exact (Ext.setCell (Ext.setCell hEV (p := ⟨w.heap.size, 0, none⟩) (by simp) _) (p := ⟨w.heap.size, 1, none⟩) (by simp) _)
      have hS4 : ES w.heap.size V5 := by rw [← hV9]; exact (ES.set (ES.set hS4 (a := ⟨w.heap.size, 0, none⟩) _ (by simp)) (a := ⟨w.heap.size, 1, none⟩) _ (by simp))
      have B0 : V5.heap[w.heap.size]? = some (.cells #[.int .i64 2, .slice (some ⟨g, 0, none⟩) 3 3] 24 (0, 0)) := by rw [← hV9, row_set (row_set B0 0 _) 1 _]; rfl
      have B1 : V5.heap[w.heap.size + 1]? = some (.cells #[.int .i64 0, .int .i64 0, .int .i64 0, .int .i64 0, .int .i64 0, .int .i64 0, .int .i64 0] 67 (0, 0)) := by rw [← hV9, Below.heap_setCell _ _ _ _ (by simp), Below.heap_setCell _ _ _ _ (by simp)]; exact B1
      have B2 : V5.heap[w.heap.size + 2]? = some (.cells #[.int .i64 0, .int .i64 0, .int .i64 0, .int .i64 0, .int .i64 0, .int .i64 0, .int .i64 0] 67 (0, 0)) := by rw [← hV9, Below.heap_setCell _ _ _ _ (by simp), Below.heap_setCell _ _ _ _ (by simp)]; exact B2
      rw [hV9]
      clear hV9 HB HR9 HE9 HS9 c00 f00 c01 f01 l0
      refine ⟨rfl, hKK _ _ hS4 ?_⟩
      clear hKK KK
      have l1 : w.heap.size + 1 < V5.heap.size := lt_of_heap B1
      have c10 : V5.cell? ⟨w.heap.size + 1, 0, none⟩ = some (.int .i64 0) := by rw [cell_of_row _ _ _ _ _ _ B1]; rfl
      have f10 : V5.frozen? ⟨w.heap.size + 1, 0, none⟩ = false := frozen_row B1 _
      have c11 : V5.cell? ⟨w.heap.size + 1, 1, none⟩ = some (.int .i64 0) := by rw [cell_of_row _ _ _ _ _ _ B1]; rfl
      have f11 : V5.frozen? ⟨w.heap.size + 1, 1, none⟩ = false := frozen_row B1 _
      have c12 : V5.cell? ⟨w.heap.size + 1, 2, none⟩ = some (.int .i64 0) := by rw [cell_of_row _ _ _ _ _ _ B1]; rfl
      have f12 : V5.frozen? ⟨w.heap.size + 1, 2, none⟩ = false := frozen_row B1 _
      have c13 : V5.cell? ⟨w.heap.size + 1, 3, none⟩ = some (.int .i64 0) := by rw [cell_of_row _ _ _ _ _ _ B1]; rfl
      have f13 : V5.frozen? ⟨w.heap.size + 1, 3, none⟩ = false := frozen_row B1 _
      have c14 : V5.cell? ⟨w.heap.size + 1, 4, none⟩ = some (.int .i64 0) := by rw [cell_of_row _ _ _ _ _ _ B1]; rfl
      have f14 : V5.frozen? ⟨w.heap.size + 1, 4, none⟩ = false := frozen_row B1 _
      have c15 : V5.cell? ⟨w.heap.size + 1, 5, none⟩ = some (.int .i64 0) := by rw [cell_of_row _ _ _ _ _ _ B1]; rfl
      have f15 : V5.frozen? ⟨w.heap.size + 1, 5, none⟩ = false := frozen_row B1 _
      have c16 : V5.cell? ⟨w.heap.size + 1, 6, none⟩ = some (.int .i64 0) := by rw [cell_of_row _ _ _ _ _ _ B1]; rfl
      have f16 : V5.frozen? ⟨w.heap.size + 1, 6, none⟩ = false := frozen_row B1 _
      have HB := hide (And.intro B0 (And.intro B1 B2))
      have HR9 := hide hR
      have HE9 := hide hEV
      have HS9 := hide hS4
      clear B0 B1 B2 hR hEV hS4
      refine wpTail_keep (fun KK hKK => ?_)
      go_wp2_with fail
      obtain ⟨B0, B1, B2⟩ := HB.out
      have hR := HR9.out
      have hEV := HE9.out
      have hS4 := HS9.out
      obtain ⟨V6, hV9⟩ : ∃ V6, (((((((V5.setCell ⟨w.heap.size + 1, 0, none⟩ (.int .i64 2)).setCell ⟨w.heap.size + 1, 1, none⟩ (.int .i64 1)).setCell ⟨w.heap.size + 1, 2, none⟩ (.int .i64 2)).setCell ⟨w.heap.size + 1, 3, none⟩ (.int .i64 0)).setCell ⟨w.heap.size + 1, 4, none⟩ (.int .i64 0)).setCell ⟨w.heap.size + 1, 5, none⟩ (.int .i64 0)).setCell ⟨w.heap.size + 1, 6, none⟩ (.int .i64 0)) = V6 := ⟨_, rfl⟩
      have hR : ExRep w.heap.size V6 g g0 g1 g2 := by rw [← hV9]; exact (ExRep.set (ExRep.set (ExRep.set (ExRep.set (ExRep.set (ExRep.set (ExRep.set hR (a := ⟨w.heap.size + 1, 0, none⟩) _ (by simp)) (a := ⟨w.heap.size + 1, 1, none⟩) _ (by simp)) (a := ⟨w.heap.size + 1, 2, none⟩) _ (by simp)) (a := ⟨w.heap.size + 1, 3, none⟩) _ (by simp)) (a := ⟨w.heap.size + 1, 4, none⟩) _ (by simp)) (a := ⟨w.heap.size + 1, 5, none⟩) _ (by simp)) (a := ⟨w.heap.size + 1, 6, none⟩) _ (by simp))
      have hEV : Ext w V6 := by rw [← hV9]; exact (Ext.setCell (Ext.setCell (Ext.setCell (Ext.setCell (Ext.setCell (Ext.setCell (Ext.setCell hEV (p := ⟨w.heap.size + 1, 0, none⟩) (by simp) _) (p := ⟨w.heap.size + 1, 1, none⟩) (by simp) _) (p := ⟨w.heap.size + 1, 2, none⟩) (by simp) _) (p := ⟨w.heap.size + 1, 3, none⟩) (by simp) _) (p := ⟨w.heap.size + 1, 4, none⟩) (by simp) _) (p := ⟨w.heap.size + 1, 5, none⟩) (by simp) _) (p := ⟨w.heap.size + 1, 6, none⟩) (by simp) _)
      have hS4 : ES w.heap.size V6 := by rw [← hV9]; exact (ES.set (ES.set (ES.set (ES.set (ES.set (ES.set (ES.set hS4 (a := ⟨w.heap.size + 1, 0, none⟩) _ (by simp)) (a := ⟨w.heap.size + 1, 1, none⟩) _ (by simp)) (a := ⟨w.heap.size + 1, 2, none⟩) _ (by simp)) (a := ⟨w.heap.size + 1, 3, none⟩) _ (by simp)) (a := ⟨w.heap.size + 1, 4, none⟩) _ (by simp)) (a := ⟨w.heap.size + 1, 5, none⟩) _ (by simp)) (a := ⟨w.heap.size + 1, 6, none⟩) _ (by simp))
      have B0 : V6.heap[w.heap.size]? = some (.cells #[.int .i64 2, .slice (some ⟨g, 0, none⟩) 3 3] 24 (0, 0)) := by rw [← hV9, Below.heap_setCell _ _ _ _ (by simp), Below.heap_setCell _ _ _ _ (by simp), Below.heap_setCell _ _ _ _ (by simp), Below.heap_setCell _ _ _ _ (by simp), Below.heap_setCell _ _ _ _ (by simp), Below.heap_setCell _ _ _ _ (by simp), Below.heap_setCell _ _ _ _ (by simp)]; exact B0
      have B1 : V6.heap[w.heap.size + 1]? = some (.cells #[.int .i64 2, .int .i64 1, .int .i64 2, .int .i64 0, .int .i64 0, .int .i64 0, .int .i64 0] 67 (0, 0)) := by rw [← hV9, row_set (row_set (row_set (row_set (row_set (row_set (row_set B1 0 _) 1 _) 2 _) 3 _) 4 _) 5 _) 6 _]; rfl
      have B2 : V6.heap[w.heap.size + 2]? = some (.cells #[.int .i64 0, .int .i64 0, .int .i64 0, .int .i64 0, .int .i64 0, .int .i64 0, .int .i64 0] 67 (0, 0)) := by rw [← hV9, Below.heap_setCell _ _ _ _ (by simp), Below.heap_setCell _ _ _ _ (by simp), Below.heap_setCell _ _ _ _ (by simp), Below.heap_setCell _ _ _ _ (by simp), Below.heap_setCell _ _ _ _ (by simp), Below.heap_setCell _ _ _ _ (by simp), Below.heap_setCell _ _ _ _ (by simp)]; exact B2
      rw [hV9]
      clear hV9 HB HR9 HE9 HS9 c10 f10 c11 f11 c12 f12 c13 f13 c14 f14 c15 f15 c16 f16 l1
      refine ⟨rfl, hKK _ _ hS4 ?_⟩
      clear hKK KK
      have l2 : w.heap.size + 2 < V6.heap.size := lt_of_heap B2
      have c20 : V6.cell? ⟨w.heap.size + 2, 0, none⟩ = some (.int .i64 0) := by rw [cell_of_row _ _ _ _ _ _ B2]; rfl
      have f20 : V6.frozen? ⟨w.heap.size + 2, 0, none⟩ = false := frozen_row B2 _
      have c21 : V6.cell? ⟨w.heap.size + 2, 1, none⟩ = some (.int .i64 0) := by rw [cell_of_row _ _ _ _ _ _ B2]; rfl
      have f21 : V6.frozen? ⟨w.heap.size + 2, 1, none⟩ = false := frozen_row B2 _
      have c22 : V6.cell? ⟨w.heap.size + 2, 2, none⟩ = some (.int .i64 0) := by rw [cell_of_row _ _ _ _ _ _ B2]; rfl
      have f22 : V6.frozen? ⟨w.heap.size + 2, 2, none⟩ = false := frozen_row B2 _
      have c23 : V6.cell? ⟨w.heap.size + 2, 3, none⟩ = some (.int .i64 0) := by rw [cell_of_row _ _ _ _ _ _ B2]; rfl
      have f23 : V6.frozen? ⟨w.heap.size + 2, 3, none⟩ = false := frozen_row B2 _
      have c24 : V6.cell? ⟨w.heap.size + 2, 4, none⟩ = some (.int .i64 0) := by rw [cell_of_row _ _ _ _ _ _ B2]; rfl
      have f24 : V6.frozen? ⟨w.heap.size + 2, 4, none⟩ = false := frozen_row B2 _
      have c25 : V6.cell? ⟨w.heap.size + 2, 5, none⟩ = some (.int .i64 0) := by rw [cell_of_row _ _ _ _ _ _ B2]; rfl
      have f25 : V6.frozen? ⟨w.heap.size + 2, 5, none⟩ = false := frozen_row B2 _
      have c26 : V6.cell? ⟨w.heap.size + 2, 6, none⟩ = some (.int .i64 0) := by rw [cell_of_row _ _ _ _ _ _ B2]; rfl
      have f26 : V6.frozen? ⟨w.heap.size + 2, 6, none⟩ = false := frozen_row B2 _
      have HB := hide (And.intro B0 (And.intro B1 B2))
      have HR9 := hide hR
      have HE9 := hide hEV
      have HS9 := hide hS4
      clear B0 B1 B2 hR hEV hS4
      refine wpTail_keep (fun KK hKK => ?_)
      go_wp2_with fail
      obtain ⟨B0, B1, B2⟩ := HB.out
      have hR := HR9.out
      have hEV := HE9.out
      have hS4 := HS9.out
      obtain ⟨V7, hV9⟩ : ∃ V7, (((((((V6.setCell ⟨w.heap.size + 2, 0, none⟩ (.int .i64 2)).setCell ⟨w.heap.size + 2, 1, none⟩ (.int .i64 3)).setCell ⟨w.heap.size + 2, 2, none⟩ (.int .i64 3)).setCell ⟨w.heap.size + 2, 3, none⟩ (.int .i64 0)).setCell ⟨w.heap.size + 2, 4, none⟩ (.int .i64 0)).setCell ⟨w.heap.size + 2, 5, none⟩ (.int .i64 0)).setCell ⟨w.heap.size + 2, 6, none⟩ (.int .i64 0)) = V7 := ⟨_, rfl⟩
      have hR : ExRep w.heap.size V7 g g0 g1 g2 := by rw [← hV9]; exact (ExRep.set (ExRep.set (ExRep.set (ExRep.set (ExRep.set (ExRep.set (ExRep.set hR (a := ⟨w.heap.size + 2, 0, none⟩) _ (by simp)) (a := ⟨w.heap.size + 2, 1, none⟩) _ (by simp)) (a := ⟨w.heap.size + 2, 2, none⟩) _ (by simp)) (a := ⟨w.heap.size + 2, 3, none⟩) _ (by simp)) (a := ⟨w.heap.size + 2, 4, none⟩) _ (by simp)) (a := ⟨w.heap.size + 2, 5, none⟩) _ (by simp)) (a := ⟨w.heap.size + 2, 6, none⟩) _ (by simp))
      have hEV : Ext w V7 := by rw [← hV9]; exact (Ext.setCell (Ext.setCell (Ext.setCell (Ext.setCell (Ext.setCell (Ext.setCell (Ext.setCell hEV (p := ⟨w.heap.size + 2, 0, none⟩) (by simp) _) (p := ⟨w.heap.size + 2, 1, none⟩) (by simp) _) (p := ⟨w.heap.size + 2, 2, none⟩) (by simp) _) (p := ⟨w.heap.size + 2, 3, none⟩) (by simp) _) (p := ⟨w.heap.size + 2, 4, none⟩) (by simp) _) (p := ⟨w.heap.size + 2, 5, none⟩) (by simp) _) (p := ⟨w.heap.size + 2, 6, none⟩) (by simp) _)
      have hS4 : ES w.heap.size V7 := by rw [← hV9]; exact (ES.set (ES.set (ES.set (ES.set (ES.set (ES.set (ES.set hS4 (a := ⟨w.heap.size + 2, 0, none⟩) _ (by simp)) (a := ⟨w.heap.size + 2, 1, none⟩) _ (by simp)) (a := ⟨w.heap.size + 2, 2, none⟩) _ (by simp)) (a := ⟨w.heap.size + 2, 3, none⟩) _ (by simp)) (a := ⟨w.heap.size + 2, 4, none⟩) _ (by simp)) (a := ⟨w.heap.size + 2, 5, none⟩) _ (by simp)) (a := ⟨w.heap.size + 2, 6, none⟩) _ (by simp))
      have B0 : V7.heap[w.heap.size]? = some (.cells #[.int .i64 2, .slice (some ⟨g, 0, none⟩) 3 3] 24 (0, 0)) := by rw [← hV9, Below.heap_setCell _ _ _ _ (by simp), Below.heap_setCell _ _ _ _ (by simp), Below.heap_setCell _ _ _ _ (by simp), Below.heap_setCell _ _ _ _ (by simp), Below.heap_setCell _ _ _ _ (by simp), Below.heap_setCell _ _ _ _ (by simp), Below.heap_setCell _ _ _ _ (by simp)]; exact B0
      have B1 : V7.heap[w.heap.size + 1]? = some (.cells #[.int .i64 2, .int .i64 1, .int .i64 2, .int .i64 0, .int .i64 0, .int .i64 0, .int .i64 0] 67 (0, 0)) := by rw [← hV9, Below.heap_setCell _ _ _ _ (by simp), Below.heap_setCell _ _ _ _ (by simp), Below.heap_setCell _ _ _ _ (by simp), Below.heap_setCell _ _ _ _ (by simp), Below.heap_setCell _ _ _ _ (by simp), Below.heap_setCell _ _ _ _ (by simp), Below.heap_setCell _ _ _ _ (by simp)]; exact B1
      have B2 : V7.heap[w.heap.size + 2]? = some (.cells #[.int .i64 2, .int .i64 3, .int .i64 3, .int .i64 0, .int .i64 0, .int .i64 0, .int .i64 0] 67 (0, 0)) := by rw [← hV9, row_set (row_set (row_set (row_set (row_set (row_set (row_set B2 0 _) 1 _) 2 _) 3 _) 4 _) 5 _) 6 _]; rfl
      rw [hV9]
      clear hV9 HB HR9 HE9 HS9 c20 f20 c21 f21 c22 f22 c23 f23 c24 f24 c25 f25 c26 f26 l2
      refine ⟨rfl, hKK _ _ hS4 ?_⟩
      clear hKK KK
      refine wpTail_nil ?_
      have m0 : w.heap.size < V7.heap.size := lt_of_heap B0
      have c00 : V7.cell? ⟨w.heap.size, 0, none⟩ = some (.int .i64 2) := by rw [cell_of_row _ _ _ _ _ _ B0]; rfl
      have f00 : V7.frozen? ⟨w.heap.size, 0, none⟩ = false := frozen_row B0 _
      have c01 : V7.cell? ⟨w.heap.size, 1, none⟩ = some (.slice (some ⟨g, 0, none⟩) 3 3) := by rw [cell_of_row _ _ _ _ _ _ B0]; rfl
      have f01 : V7.frozen? ⟨w.heap.size, 1, none⟩ = false := frozen_row B0 _
      have m1 : w.heap.size + 1 < V7.heap.size := lt_of_heap B1
      have c10 : V7.cell? ⟨w.heap.size + 1, 0, none⟩ = some (.int .i64 2) := by rw [cell_of_row _ _ _ _ _ _ B1]; rfl
      have f10 : V7.frozen? ⟨w.heap.size + 1, 0, none⟩ = false := frozen_row B1 _
      have c11 : V7.cell? ⟨w.heap.size + 1, 1, none⟩ = some (.int .i64 1) := by rw [cell_of_row _ _ _ _ _ _ B1]; rfl
      have f11 : V7.frozen? ⟨w.heap.size + 1, 1, none⟩ = false := frozen_row B1 _
      have c12 : V7.cell? ⟨w.heap.size + 1, 2, none⟩ = some (.int .i64 2) := by rw [cell_of_row _ _ _ _ _ _ B1]; rfl
      have f12 : V7.frozen? ⟨w.heap.size + 1, 2, none⟩ = false := frozen_row B1 _
      have c13 : V7.cell? ⟨w.heap.size + 1, 3, none⟩ = some (.int .i64 0) := by rw [cell_of_row _ _ _ _ _ _ B1]; rfl
      have f13 : V7.frozen? ⟨w.heap.size + 1, 3, none⟩ = false := frozen_row B1 _
      have c14 : V7.cell? ⟨w.heap.size + 1, 4, none⟩ = some (.int .i64 0) := by rw [cell_of_row _ _ _ _ _ _ B1]; rfl
      have f14 : V7.frozen? ⟨w.heap.size + 1, 4, none⟩ = false := frozen_row B1 _
      have c15 : V7.cell? ⟨w.heap.size + 1, 5, none⟩ = some (.int .i64 0) := by rw [cell_of_row _ _ _ _ _ _ B1]; rfl
      have f15 : V7.frozen? ⟨w.heap.size + 1, 5, none⟩ = false := frozen_row B1 _
      have c16 : V7.cell? ⟨w.heap.size + 1, 6, none⟩ = some (.int .i64 0) := by rw [cell_of_row _ _ _ _ _ _ B1]; rfl
      have f16 : V7.frozen? ⟨w.heap.size + 1, 6, none⟩ = false := frozen_row B1 _
      have m2 : w.heap.size + 2 < V7.heap.size := lt_of_heap B2
      have c20 : V7.cell? ⟨w.heap.size + 2, 0, none⟩ = some (.int .i64 2) := by rw [cell_of_row _ _ _ _ _ _ B2]; rfl
      have f20 : V7.frozen? ⟨w.heap.size + 2, 0, none⟩ = false := frozen_row B2 _
      have c21 : V7.cell? ⟨w.heap.size + 2, 1, none⟩ = some (.int .i64 3) := by rw [cell_of_row _ _ _ _ _ _ B2]; rfl
      have f21 : V7.frozen? ⟨w.heap.size + 2, 1, none⟩ = false := frozen_row B2 _
      have c22 : V7.cell? ⟨w.heap.size + 2, 2, none⟩ = some (.int .i64 3) := by rw [cell_of_row _ _ _ _ _ _ B2]; rfl
      have f22 : V7.frozen? ⟨w.heap.size + 2, 2, none⟩ = false := frozen_row B2 _
      have c23 : V7.cell? ⟨w.heap.size + 2, 3, none⟩ = some (.int .i64 0) := by rw [cell_of_row _ _ _ _ _ _ B2]; rfl
      have f23 : V7.frozen? ⟨w.heap.size + 2, 3, none⟩ = false := frozen_row B2 _
      have c24 : V7.cell? ⟨w.heap.size + 2, 4, none⟩ = some (.int .i64 0) := by rw [cell_of_row _ _ _ _ _ _ B2]; rfl
      have f24 : V7.frozen? ⟨w.heap.size + 2, 4, none⟩ = false := frozen_row B2 _
      have c25 : V7.cell? ⟨w.heap.size + 2, 5, none⟩ = some (.int .i64 0) := by rw [cell_of_row _ _ _ _ _ _ B2]; rfl
      have f25 : V7.frozen? ⟨w.heap.size + 2, 5, none⟩ = false := frozen_row B2 _
      have c26 : V7.cell? ⟨w.heap.size + 2, 6, none⟩ = some (.int .i64 0) := by rw [cell_of_row _ _ _ _ _ _ B2]; rfl
      have f26 : V7.frozen? ⟨w.heap.size + 2, 6, none⟩ = false := frozen_row B2 _
      have HR9 := hide hR
      have HE9 := hide hEV
      clear B0 B1 B2 hR hEV hS4
      go_wp2_with fail
      exact bodyPost_ret (v := .tuple #[.agg #[.int .i64 2, .slice (some ⟨g, 0, none⟩) 3 3], exS.v, exC.v]) (by simp [results, Try.f43, go_sem, exS, exC, c00, c01, c10, c11, c12, c13, c14, c15, c16, c20, c21, c22, c23, c24, c25, c26]) rfl ⟨g, g0, g1, g2, rfl, HR9.out, HE9.out⟩
    · refine op_newRow (n := 1) (cs := #[.int .i64 2, .int .i64 1, .int .i64 2, .int .i64 0, .int .i64 0, .int .i64 0, .int .i64 0, .int .i64 0]) (e := 69) rfl rfl (by go_simp) ?_
      intro V2 g2 hE2 hr2 hg2
      have hS2 := hS1.ext hE2
      refine ⟨hS2, ?_⟩
      simp only [Act.put, List.setIfInBounds_toArray, List.set_cons_zero, List.set_cons_succ]
      refine wpAnyT_all (rs := [7]) (by kernel_rfl) (by simp) ?_
      intro i hi
      simp only [List.mem_singleton] at hi
      subst hi
      refine op_newRow (n := 1) (cs := #[.int .i64 2, .int .i64 3, .int .i64 3, .int .i64 0, .int .i64 0, .int .i64 0, .int .i64 0, .int .i64 1]) (e := 69) rfl rfl (by go_simp) ?_
      intro V3 g1 hE3 hr1 hg1
      have hS3 := hS2.ext hE3
      refine ⟨hS3, ?_⟩
      simp only [Act.put, List.setIfInBounds_toArray, List.set_cons_zero, List.set_cons_succ]
      have hR0 := ((hE3.b.block _ (lt_of_heap ((hE2.b.block _ (lt_of_heap hr0)).trans hr0))).trans ((hE2.b.block _ (lt_of_heap hr0)).trans hr0))
      have hR2 := ((hE3.b.block _ (lt_of_heap hr2)).trans hr2)
      have hR1 := hr1
      have hEE : Ext V V3 := (hE1.trans hE2).trans hE3
      refine wpAnyT_all (rs := [11]) (by kernel_rfl) (by simp) ?_
      intro i hi
      simp only [List.mem_singleton] at hi
      subst hi
      refine op_newRow (n := 3) (cs := #[.slice (some ⟨g0, 0, none⟩) 2 2, .slice (some ⟨g1, 0, none⟩) 1 1, .slice (some ⟨g2, 0, none⟩) 1 1]) (e := 62) rfl rfl (by go_simp) ?_
      intro V4 g hE4 hr hg
      have hS4 := hS3.ext hE4
      refine ⟨hS4, ?_⟩
      simp only [Act.put, List.setIfInBounds_toArray, List.set_cons_zero, List.set_cons_succ]
      refine wpAnyT_take (i := 12) (.agg #[.int .i64 2, .slice (some ⟨g, 0, none⟩) 3 3]) rfl (by kernel_rfl) (by kernel_rfl) (by kernel_rfl) (by simp [Region.wanted]) (fun V hV => by go_simp) hS4 ?_
      simp only [Act.put, List.setIfInBounds_toArray, List.set_cons_zero, List.set_cons_succ]
      refine wpAnyT_rest 15 (by simp) (by kernel_rfl) ?_
      simp only [List.drop_succ_cons, List.drop_zero]
      have hx0 := hEE.trans hE4
      have hR : ExRep w.heap.size V4 g g0 g1 g2 := by
        have a0 := lt_of_heap hR0
        have a1 := lt_of_heap hR1
        have a2 := lt_of_heap hR2
        have z1 := hE.size
        have z2 := hEE.size
        have z3 := hS.lt
        have z4 := hE1.size
        have z5 := hE2.size
        have z6 := hE3.size
        refine ⟨by omega, by omega, by omega, by omega, by omega, by omega, by omega, hr, (hE4.b.block _ a0).trans hR0, (hE4.b.block _ a1).trans hR1, (hE4.b.block _ a2).trans hR2⟩
      have hgV : V.heap.size ≤ g := by have := hEE.size; omega
      have B0 := (hx0.b.block _ (lt_of_heap HB0.out)).trans HB0.out
      have B1 := (hx0.b.block _ (lt_of_heap HB1.out)).trans HB1.out
      have B2 := (hx0.b.block _ (lt_of_heap HB2.out)).trans HB2.out
      have hEV := hE.trans hx0
      clear hg hg0 hg1 hg2 hr hR0 hR1 hR2 hgV hr0 hr1 hr2
      have l0 : w.heap.size < V4.heap.size := lt_of_heap B0
      have c00 : V4.cell? ⟨w.heap.size, 0, none⟩ = some (.int .i64 0) := by rw [cell_of_row _ _ _ _ _ _ B0]; rfl
      have f00 : V4.frozen? ⟨w.heap.size, 0, none⟩ = false := frozen_row B0 _
      have c01 : V4.cell? ⟨w.heap.size, 1, none⟩ = some (.slice none 0 0) := by rw [cell_of_row _ _ _ _ _ _ B0]; rfl
      have f01 : V4.frozen? ⟨w.heap.size, 1, none⟩ = false := frozen_row B0 _
      have HB := hide (And.intro B0 (And.intro B1 B2))
      have HR9 := hide hR
      have HE9 := hide hEV
      have HS9 := hide hS4
      clear B0 B1 B2 hR hEV hS4
      refine wpTail_keep (fun KK hKK => ?_)
      go_wp2_with fail
      obtain ⟨B0, B1, B2⟩ := HB.out
      have hR := HR9.out
      have hEV := HE9.out
      have hS4 := HS9.out
      obtain ⟨V5, hV9⟩ : ∃ V5, ((V4.setCell ⟨w.heap.size, 0, none⟩ (.int .i64 2)).setCell ⟨w.heap.size, 1, none⟩ (.slice (some ⟨g, 0, none⟩) 3 3)) = V5 := ⟨_, rfl⟩
      have hR : ExRep w.heap.size V5 g g0 g1 g2 := by rw [← hV9]; exact (ExRep.set (ExRep.set hR (a := ⟨w.heap.size, 0, none⟩) _ (by simp)) (a := ⟨w.heap.size, 1, none⟩) _ (by simp))
      have hEV : Ext w V5 := by rw [← hV9]; exact (Ext.setCell (Ext.setCell hEV (p := ⟨w.heap.size, 0, none⟩) (by simp) _) (p := ⟨w.heap.size, 1, none⟩) (by simp) _)
      have hS4 : ES w.heap.size V5 := by rw [← hV9]; exact (ES.set (ES.set hS4 (a := ⟨w.heap.size, 0, none⟩) _ (by simp)) (a := ⟨w.heap.size, 1, none⟩) _ (by simp))
      have B0 : V5.heap[w.heap.size]? = some (.cells #[.int .i64 2, .slice (some ⟨g, 0, none⟩) 3 3] 24 (0, 0)) := by rw [← hV9, row_set (row_set B0 0 _) 1 _]; rfl
      have B1 : V5.heap[w.heap.size + 1]? = some (.cells #[.int .i64 0, .int .i64 0, .int .i64 0, .int .i64 0, .int .i64 0, .int .i64 0, .int .i64 0] 67 (0, 0)) := by rw [← hV9, Below.heap_setCell _ _ _ _ (by simp), Below.heap_setCell _ _ _ _ (by simp)]; exact B1
      have B2 : V5.heap[w.heap.size + 2]? = some (.cells #[.int .i64 0, .int .i64 0, .int .i64 0, .int .i64 0, .int .i64 0, .int .i64 0, .int .i64 0] 67 (0, 0)) := by rw [← hV9, Below.heap_setCell _ _ _ _ (by simp), Below.heap_setCell _ _ _ _ (by simp)]; exact B2
      rw [hV9]
      clear hV9 HB HR9 HE9 HS9 c00 f00 c01 f01 l0
      refine ⟨rfl, hKK _ _ hS4 ?_⟩
      clear hKK KK
      have l1 : w.heap.size + 1 < V5.heap.size := lt_of_heap B1
      have c10 : V5.cell? ⟨w.heap.size + 1, 0, none⟩ = some (.int .i64 0) := by rw [cell_of_row _ _ _ _ _ _ B1]; rfl
      have f10 : V5.frozen? ⟨w.heap.size + 1, 0, none⟩ = false := frozen_row B1 _
      have c11 : V5.cell? ⟨w.heap.size + 1, 1, none⟩ = some (.int .i64 0) := by rw [cell_of_row _ _ _ _ _ _ B1]; rfl
      have f11 : V5.frozen? ⟨w.heap.size + 1, 1, none⟩ = false := frozen_row B1 _
      have c12 : V5.cell? ⟨w.heap.size + 1, 2, none⟩ = some (.int .i64 0) := by rw [cell_of_row _ _ _ _ _ _ B1]; rfl
      have f12 : V5.frozen? ⟨w.heap.size + 1, 2, none⟩ = false := frozen_row B1 _
      have c13 : V5.cell? ⟨w.heap.size + 1, 3, none⟩ = some (.int .i64 0) := by rw [cell_of_row _ _ _ _ _ _ B1]; rfl
      have f13 : V5.frozen? ⟨w.heap.size + 1, 3, none⟩ = false := frozen_row B1 _
      have c14 : V5.cell? ⟨w.heap.size + 1, 4, none⟩ = some (.int .i64 0) := by rw [cell_of_row _ _ _ _ _ _ B1]; rfl
      have f14 : V5.frozen? ⟨w.heap.size + 1, 4, none⟩ = false := frozen_row B1 _
      have c15 : V5.cell? ⟨w.heap.size + 1, 5, none⟩ = some (.int .i64 0) := by rw [cell_of_row _ _ _ _ _ _ B1]; rfl
      have f15 : V5.frozen? ⟨w.heap.size + 1, 5, none⟩ = false := frozen_row B1 _
      have c16 : V5.cell? ⟨w.heap.size + 1, 6, none⟩ = some (.int .i64 0) := by rw [cell_of_row _ _ _ _ _ _ B1]; rfl
      have f16 : V5.frozen? ⟨w.heap.size + 1, 6, none⟩ = false := frozen_row B1 _
      have HB := hide (And.intro B0 (And.intro B1 B2))
      have HR9 := hide hR
      have HE9 := hide hEV
      have HS9 := hide hS4
      clear B0 B1 B2 hR hEV hS4
      refine wpTail_keep (fun KK hKK => ?_)
      go_wp2_with fail
      obtain ⟨B0, B1, B2⟩ := HB.out
      have hR := HR9.out
      have hEV := HE9.out
      have hS4 := HS9.out
      obtain ⟨V6, hV9⟩ : ∃ V6, (((((((V5.setCell ⟨w.heap.size + 1, 0, none⟩ (.int .i64 2)).setCell ⟨w.heap.size + 1, 1, none⟩ (.int .i64 1)).setCell ⟨w.heap.size + 1, 2, none⟩ (.int .i64 2)).setCell ⟨w.heap.size + 1, 3, none⟩ (.int .i64 0)).setCell ⟨w.heap.size + 1, 4, none⟩ (.int .i64 0)).setCell ⟨w.heap.size + 1, 5, none⟩ (.int .i64 0)).setCell ⟨w.heap.size + 1, 6, none⟩ (.int .i64 0)) = V6 := ⟨_, rfl⟩
      have hR : ExRep w.heap.size V6 g g0 g1 g2 := by rw [← hV9]; exact (ExRep.set (ExRep.set (ExRep.set (ExRep.set (ExRep.set (ExRep.set (ExRep.set hR (a := ⟨w.heap.size + 1, 0, none⟩) _ (by simp)) (a := ⟨w.heap.size + 1, 1, none⟩) _ (by simp)) (a := ⟨w.heap.size + 1, 2, none⟩) _ (by simp)) (a := ⟨w.heap.size + 1, 3, none⟩) _ (by simp)) (a := ⟨w.heap.size + 1, 4, none⟩) _ (by simp)) (a := ⟨w.heap.size + 1, 5, none⟩) _ (by simp)) (a := ⟨w.heap.size + 1, 6, none⟩) _ (by simp))
      have hEV : Ext w V6 := by rw [← hV9]; exact (Ext.setCell (Ext.setCell (Ext.setCell (Ext.setCell (Ext.setCell (Ext.setCell (Ext.setCell hEV (p := ⟨w.heap.size + 1, 0, none⟩) (by simp) _) (p := ⟨w.heap.size + 1, 1, none⟩) (by simp) _) (p := ⟨w.heap.size + 1, 2, none⟩) (by simp) _) (p := ⟨w.heap.size + 1, 3, none⟩) (by simp) _) (p := ⟨w.heap.size + 1, 4, none⟩) (by simp) _) (p := ⟨w.heap.size + 1, 5, none⟩) (by simp) _) (p := ⟨w.heap.size + 1, 6, none⟩) (by simp) _)
      have hS4 : ES w.heap.size V6 := by rw [← hV9]; exact (ES.set (ES.set (ES.set (ES.set (ES.set (ES.set (ES.set hS4 (a := ⟨w.heap.size + 1, 0, none⟩) _ (by simp)) (a := ⟨w.heap.size + 1, 1, none⟩) _ (by simp)) (a := ⟨w.heap.size + 1, 2, none⟩) _ (by simp)) (a := ⟨w.heap.size + 1, 3, none⟩) _ (by simp)) (a := ⟨w.heap.size + 1, 4, none⟩) _ (by simp)) (a := ⟨w.heap.size + 1, 5, none⟩) _ (by simp)) (a := ⟨w.heap.size + 1, 6, none⟩) _ (by simp))
      have B0 : V6.heap[w.heap.size]? = some (.cells #[.int .i64 2, .slice (some ⟨g, 0, none⟩) 3 3] 24 (0, 0)) := by rw [← hV9, Below.heap_setCell _ _ _ _ (by simp), Below.heap_setCell _ _ _ _ (by simp), Below.heap_setCell _ _ _ _ (by simp), Below.heap_setCell _ _ _ _ (by simp), Below.heap_setCell _ _ _ _ (by simp), Below.heap_setCell _ _ _ _ (by simp), Below.heap_setCell _ _ _ _ (by simp)]; exact B0
      have B1 : V6.heap[w.heap.size + 1]? = some (.cells #[.int .i64 2, .int .i64 1, .int .i64 2, .int .i64 0, .int .i64 0, .int .i64 0, .int .i64 0] 67 (0, 0)) := by rw [← hV9, row_set (row_set (row_set (row_set (row_set (row_set (row_set B1 0 _) 1 _) 2 _) 3 _) 4 _) 5 _) 6 _]; rfl
      have B2 : V6.heap[w.heap.size + 2]? = some (.cells #[.int .i64 0, .int .i64 0, .int .i64 0, .int .i64 0, .int .i64 0, .int .i64 0, .int .i64 0] 67 (0, 0)) := by rw [← hV9, Below.heap_setCell _ _ _ _ (by simp), Below.heap_setCell _ _ _ _ (by simp), Below.heap_setCell _ _ _ _ (by simp), Below.heap_setCell _ _ _ _ (by simp), Below.heap_setCell _ _ _ _ (by simp), Below.heap_setCell _ _ _ _ (by simp), Below.heap_setCell _ _ _ _ (by simp)]; exact B2
      rw [hV9]
      clear hV9 HB HR9 HE9 HS9 c10 f10 c11 f11 c12 f12 c13 f13 c14 f14 c15 f15 c16 f16 l1
      refine ⟨rfl, hKK _ _ hS4 ?_⟩
      clear hKK KK
      have l2 : w.heap.size + 2 < V6.heap.size := lt_of_heap B2
      have c20 : V6.cell? ⟨w.heap.size + 2, 0, none⟩ = some (.int .i64 0) := by rw [cell_of_row _ _ _ _ _ _ B2]; rfl
      have f20 : V6.frozen? ⟨w.heap.size + 2, 0, none⟩ = false := frozen_row B2 _
      have c21 : V6.cell? ⟨w.heap.size + 2, 1, none⟩ = some (.int .i64 0) := by rw [cell_of_row _ _ _ _ _ _ B2]; rfl
      have f21 : V6.frozen? ⟨w.heap.size + 2, 1, none⟩ = false := frozen_row B2 _
      have c22 : V6.cell? ⟨w.heap.size + 2, 2, none⟩ = some (.int .i64 0) := by rw [cell_of_row _ _ _ _ _ _ B2]; rfl
      have f22 : V6.frozen? ⟨w.heap.size + 2, 2, none⟩ = false := frozen_row B2 _
      have c23 : V6.cell? ⟨w.heap.size + 2, 3, none⟩ = some (.int .i64 0) := by rw [cell_of_row _ _ _ _ _ _ B2]; rfl
      have f23 : V6.frozen? ⟨w.heap.size + 2, 3, none⟩ = false := frozen_row B2 _
      have c24 : V6.cell? ⟨w.heap.size + 2, 4, none⟩ = some (.int .i64 0) := by rw [cell_of_row _ _ _ _ _ _ B2]; rfl
      have f24 : V6.frozen? ⟨w.heap.size + 2, 4, none⟩ = false := frozen_row B2 _
      have c25 : V6.cell? ⟨w.heap.size + 2, 5, none⟩ = some (.int .i64 0) := by rw [cell_of_row _ _ _ _ _ _ B2]; rfl
      have f25 : V6.frozen? ⟨w.heap.size + 2, 5, none⟩ = false := frozen_row B2 _
      have c26 : V6.cell? ⟨w.heap.size + 2, 6, none⟩ = some (.int .i64 0) := by rw [cell_of_row _ _ _ _ _ _ B2]; rfl
      have f26 : V6.frozen? ⟨w.heap.size + 2, 6, none⟩ = false := frozen_row B2 _
      have HB := hide (And.intro B0 (And.intro B1 B2))
      have HR9 := hide hR
      have HE9 := hide hEV
      have HS9 := hide hS4
      clear B0 B1 B2 hR hEV hS4
      refine wpTail_keep (fun KK hKK => ?_)
      go_wp2_with fail
      obtain ⟨B0, B1, B2⟩ := HB.out
      have hR := HR9.out
      have hEV := HE9.out
      have hS4 := HS9.out
      obtain ⟨V7, hV9⟩ : ∃ V7, (((((((V6.setCell ⟨w.heap.size + 2, 0, none⟩ (.int .i64 2)).setCell ⟨w.heap.size + 2, 1, none⟩ (.int .i64 3)).setCell ⟨w.heap.size + 2, 2, none⟩ (.int .i64 3)).setCell ⟨w.heap.size + 2, 3, none⟩ (.int .i64 0)).setCell ⟨w.heap.size + 2, 4, none⟩ (.int .i64 0)).setCell ⟨w.heap.size + 2, 5, none⟩ (.int .i64 0)).setCell ⟨w.heap.size + 2, 6, none⟩ (.int .i64 0)) = V7 := ⟨_, rfl⟩
      have hR : ExRep w.heap.size V7 g g0 g1 g2 := by rw [← hV9]; exact (ExRep.set (ExRep.set (ExRep.set (ExRep.set (ExRep.set (ExRep.set (ExRep.set hR (a := ⟨w.heap.size + 2, 0, none⟩) _ (by simp)) (a := ⟨w.heap.size + 2, 1, none⟩) _ (by simp)) (a := ⟨w.heap.size + 2, 2, none⟩) _ (by simp)) (a := ⟨w.heap.size + 2, 3, none⟩) _ (by simp)) (a := ⟨w.heap.size + 2, 4, none⟩) _ (by simp)) (a := ⟨w.heap.size + 2, 5, none⟩) _ (by simp)) (a := ⟨w.heap.size + 2, 6, none⟩) _ (by simp))
      have hEV : Ext w V7 := by rw [← hV9]; exact (Ext.setCell (Ext.setCell (Ext.setCell (Ext.setCell (Ext.setCell (Ext.setCell (Ext.setCell hEV (p := ⟨w.heap.size + 2, 0, none⟩) (by simp) _) (p := ⟨w.heap.size + 2, 1, none⟩) (by simp) _) (p := ⟨w.heap.size + 2, 2, none⟩) (by simp) _) (p := ⟨w.heap.size + 2, 3, none⟩) (by simp) _) (p := ⟨w.heap.size + 2, 4, none⟩) (by simp) _) (p := ⟨w.heap.size + 2, 5, none⟩) (by simp) _) (p := ⟨w.heap.size + 2, 6, none⟩) (by simp) _)
      have hS4 : ES w.heap.size V7 := by rw [← hV9]; exact (ES.set (ES.set (ES.set (ES.set (ES.set (ES.set (ES.set hS4 (a := ⟨w.heap.size + 2, 0, none⟩) _ (by simp)) (a := ⟨w.heap.size + 2, 1, none⟩) _ (by simp)) (a := ⟨w.heap.size + 2, 2, none⟩) _ (by simp)) (a := ⟨w.heap.size + 2, 3, none⟩) _ (by simp)) (a := ⟨w.heap.size + 2, 4, none⟩) _ (by simp)) (a := ⟨w.heap.size + 2, 5, none⟩) _ (by simp)) (a := ⟨w.heap.size + 2, 6, none⟩) _ (by simp))
      have B0 : V7.heap[w.heap.size]? = some (.cells #[.int .i64 2, .slice (some ⟨g, 0, none⟩) 3 3] 24 (0, 0)) := by rw [← hV9, Below.heap_setCell _ _ _ _ (by simp), Below.heap_setCell _ _ _ _ (by simp), Below.heap_setCell _ _ _ _ (by simp), Below.heap_setCell _ _ _ _ (by simp), Below.heap_setCell _ _ _ _ (by simp), Below.heap_setCell _ _ _ _ (by simp), Below.heap_setCell _ _ _ _ (by simp)]; exact B0
      have B1 : V7.heap[w.heap.size + 1]? = some (.cells #[.int .i64 2, .int .i64 1, .int .i64 2, .int .i64 0, .int .i64 0, .int .i64 0, .int .i64 0] 67 (0, 0)) := by rw [← hV9, Below.heap_setCell _ _ _ _ (by simp), Below.heap_setCell _ _ _ _ (by simp), Below.heap_setCell _ _ _ _ (by simp), Below.heap_setCell _ _ _ _ (by simp), Below.heap_setCell _ _ _ _ (by simp), Below.heap_setCell _ _ _ _ (by simp), Below.heap_setCell _ _ _ _ (by simp)]; exact B1
      have B2 : V7.heap[w.heap.size + 2]? = some (.cells #[.int .i64 2, .int .i64 3, .int .i64 3, .int .i64 0, .int .i64 0, .int .i64 0, .int .i64 0] 67 (0, 0)) := by rw [← hV9, row_set (row_set (row_set (row_set (row_set (row_set (row_set B2 0 _) 1 _) 2 _) 3 _) 4 _) 5 _) 6 _]; rfl
      rw [hV9]
      clear hV9 HB HR9 HE9 HS9 c20 f20 c21 f21 c22 f22 c23 f23 c24 f24 c25 f25 c26 f26 l2
      refine ⟨rfl, hKK _ _ hS4 ?_⟩
      clear hKK KK
      refine wpTail_nil ?_
      have m0 : w.heap.size < V7.heap.size := lt_of_heap B0
      have c00 : V7.cell? ⟨w.heap.size, 0, none⟩ = some (.int .i64 2) := by rw [cell_of_row _ _ _ _ _ _ B0]; rfl
      have f00 : V7.frozen? ⟨w.heap.size, 0, none⟩ = false := frozen_row B0 _
      have c01 : V7.cell? ⟨w.heap.size, 1, none⟩ = some (.slice (some ⟨g, 0, none⟩) 3 3) := by rw [cell_of_row _ _ _ _ _ _ B0]; rfl
      have f01 : V7.frozen? ⟨w.heap.size, 1, none⟩ = false := frozen_row B0 _
      have m1 : w.heap.size + 1 < V7.heap.size := lt_of_heap B1
      have c10 : V7.cell? ⟨w.heap.size + 1, 0, none⟩ = some (.int .i64 2) := by rw [cell_of_row _ _ _ _ _ _ B1]; rfl
      have f10 : V7.frozen? ⟨w.heap.size + 1, 0, none⟩ = false := frozen_row B1 _
      have c11 : V7.cell? ⟨w.heap.size + 1, 1, none⟩ = some (.int .i64 1) := by rw [cell_of_row _ _ _ _ _ _ B1]; rfl
      have f11 : V7.frozen? ⟨w.heap.size + 1, 1, none⟩ = false := frozen_row B1 _
      have c12 : V7.cell? ⟨w.heap.size + 1, 2, none⟩ = some (.int .i64 2) := by rw [cell_of_row _ _ _ _ _ _ B1]; rfl
      have f12 : V7.frozen? ⟨w.heap.size + 1, 2, none⟩ = false := frozen_row B1 _
      have c13 : V7.cell? ⟨w.heap.size + 1, 3, none⟩ = some (.int .i64 0) := by rw [cell_of_row _ _ _ _ _ _ B1]; rfl
      have f13 : V7.frozen? ⟨w.heap.size + 1, 3, none⟩ = false := frozen_row B1 _
      have c14 : V7.cell? ⟨w.heap.size + 1, 4, none⟩ = some (.int .i64 0) := by rw [cell_of_row _ _ _ _ _ _ B1]; rfl
      have f14 : V7.frozen? ⟨w.heap.size + 1, 4, none⟩ = false := frozen_row B1 _
      have c15 : V7.cell? ⟨w.heap.size + 1, 5, none⟩ = some (.int .i64 0) := by rw [cell_of_row _ _ _ _ _ _ B1]; rfl
      have f15 : V7.frozen? ⟨w.heap.size + 1, 5, none⟩ = false := frozen_row B1 _
      have c16 : V7.cell? ⟨w.heap.size + 1, 6, none⟩ = some (.int .i64 0) := by rw [cell_of_row _ _ _ _ _ _ B1]; rfl
      have f16 : V7.frozen? ⟨w.heap.size + 1, 6, none⟩ = false := frozen_row B1 _
      have m2 : w.heap.size + 2 < V7.heap.size := lt_of_heap B2
      have c20 : V7.cell? ⟨w.heap.size + 2, 0, none⟩ = some (.int .i64 2) := by rw [cell_of_row _ _ _ _ _ _ B2]; rfl
      have f20 : V7.frozen? ⟨w.heap.size + 2, 0, none⟩ = false := frozen_row B2 _
      have c21 : V7.cell? ⟨w.heap.size + 2, 1, none⟩ = some (.int .i64 3) := by rw [cell_of_row _ _ _ _ _ _ B2]; rfl
      have f21 : V7.frozen? ⟨w.heap.size + 2, 1, none⟩ = false := frozen_row B2 _
      have c22 : V7.cell? ⟨w.heap.size + 2, 2, none⟩ = some (.int .i64 3) := by rw [cell_of_row _ _ _ _ _ _ B2]; rfl
      have f22 : V7.frozen? ⟨w.heap.size + 2, 2, none⟩ = false := frozen_row B2 _
      have c23 : V7.cell? ⟨w.heap.size + 2, 3, none⟩ = some (.int .i64 0) := by rw [cell_of_row _ _ _ _ _ _ B2]; rfl
      have f23 : V7.frozen? ⟨w.heap.size + 2, 3, none⟩ = false := frozen_row B2 _
      have c24 : V7.cell? ⟨w.heap.size + 2, 4, none⟩ = some (.int .i64 0) := by rw [cell_of_row _ _ _ _ _ _ B2]; rfl
      have f24 : V7.frozen? ⟨w.heap.size + 2, 4, none⟩ = false := frozen_row B2 _
      have c25 : V7.cell? ⟨w.heap.size + 2, 5, none⟩ = some (.int .i64 0) := by rw [cell_of_row _ _ _ _ _ _ B2]; rfl
      have f25 : V7.frozen? ⟨w.heap.size + 2, 5, none⟩ = false := frozen_row B2 _
      have c26 : V7.cell? ⟨w.heap.size + 2, 6, none⟩ = some (.int .i64 0) := by rw [cell_of_row _ _ _ _ _ _ B2]; rfl
      have f26 : V7.frozen? ⟨w.heap.size + 2, 6, none⟩ = false := frozen_row B2 _
      have HR9 := hide hR
      have HE9 := hide hEV
      clear B0 B1 B2 hR hEV hS4
      go_wp2_with fail
      exact bodyPost_ret (v := .tuple #[.agg #[.int .i64 2, .slice (some ⟨g, 0, none⟩) 3 3], exS.v, exC.v]) (by simp [results, Try.f43, go_sem, exS, exC, c00, c01, c10, c11, c12, c13, c14, c15, c16, c20, c21, c22, c23, c24, c25, c26]) rfl ⟨g, g0, g1, g2, rfl, HR9.out, HE9.out⟩
  · refine op_newRow (n := 1) (cs := #[.int .i64 2, .int .i64 3, .int .i64 3, .int .i64 0, .int .i64 0, .int .i64 0, .int .i64 0, .int .i64 1]) (e := 69) rfl rfl (by go_simp) ?_
    intro V1 g1 hE1 hr1 hg1
    have hS1 := hS.ext hE1
    refine ⟨hS1, ?_⟩
    simp only [Act.put, List.setIfInBounds_toArray, List.set_cons_zero, List.set_cons_succ]
    refine wpAnyT_all (rs := [4, 10]) (by kernel_rfl) (by simp) ?_
    intro i hi
    simp only [List.mem_cons, List.not_mem_nil, or_false] at hi
    rcases hi with rfl | rfl
    · refine op_newRow (n := 2) (cs := #[.int .i64 2, .int .i64 1, .int .i64 2, .int .i64 0, .int .i64 0, .int .i64 0, .int .i64 0, .int .i64 1, .int .i64 2, .int .i64 3, .int .i64 3, .int .i64 0, .int .i64 0, .int .i64 0, .int .i64 0, .int .i64 0]) (e := 69) rfl rfl (by go_simp) ?_
      intro V2 g0 hE2 hr0 hg0
      have hS2 := hS1.ext hE2
      refine ⟨hS2, ?_⟩
      simp only [Act.put, List.setIfInBounds_toArray, List.set_cons_zero, List.set_cons_succ]
      refine wpAnyT_all (rs := [10]) (by kernel_rfl) (by simp) ?_
      intro i hi
      simp only [List.mem_singleton] at hi
      subst hi
      refine op_newRow (n := 1) (cs := #[.int .i64 2, .int .i64 1, .int .i64 2, .int .i64 0, .int .i64 0, .int .i64 0, .int .i64 0, .int .i64 0]) (e := 69) rfl rfl (by go_simp) ?_
      intro V3 g2 hE3 hr2 hg2
      have hS3 := hS2.ext hE3
      refine ⟨hS3, ?_⟩
      simp only [Act.put, List.setIfInBounds_toArray, List.set_cons_zero, List.set_cons_succ]
      have hR1 := ((hE3.b.block _ (lt_of_heap ((hE2.b.block _ (lt_of_heap hr1)).trans hr1))).trans ((hE2.b.block _ (lt_of_heap hr1)).trans hr1))
      have hR0 := ((hE3.b.block _ (lt_of_heap hr0)).trans hr0)
      have hR2 := hr2
      have hEE : Ext V V3 := (hE1.trans hE2).trans hE3
      refine wpAnyT_all (rs := [11]) (by kernel_rfl) (by simp) ?_
      intro i hi
      simp only [List.mem_singleton] at hi
      subst hi
      refine op_newRow (n := 3) (cs := #[.slice (some ⟨g0, 0, none⟩) 2 2, .slice (some ⟨g1, 0, none⟩) 1 1, .slice (some ⟨g2, 0, none⟩) 1 1]) (e := 62) rfl rfl (by go_simp) ?_
      intro V4 g hE4 hr hg
      have hS4 := hS3.ext hE4
      refine ⟨hS4, ?_⟩
      simp only [Act.put, List.setIfInBounds_toArray, List.set_cons_zero, List.set_cons_succ]
      refine wpAnyT_take (i := 12) (.agg #[.int .i64 2, .slice (some ⟨g, 0, none⟩) 3 3]) rfl (by kernel_rfl) (by kernel_rfl) (by kernel_rfl) (by simp [Region.wanted]) (fun V hV => by go_simp) hS4 ?_
      simp only [Act.put, List.setIfInBounds_toArray, List.set_cons_zero, List.set_cons_succ]
      refine wpAnyT_rest 15 (by simp) (by kernel_rfl) ?_
      simp only [List.drop_succ_cons, List.drop_zero]
      have hx0 := hEE.trans hE4
      have hR : ExRep w.heap.size V4 g g0 g1 g2 := by
        have a0 := lt_of_heap hR0
        have a1 := lt_of_heap hR1
        have a2 := lt_of_heap hR2
        have z1 := hE.size
        have z2 := hEE.size
        have z3 := hS.lt
        have z4 := hE1.size
        have z5 := hE2.size
        have z6 := hE3.size
        refine ⟨by omega, by omega, by omega, by omega, by omega, by omega, by omega, hr, (hE4.b.block _ a0).trans hR0, (hE4.b.block _ a1).trans hR1, (hE4.b.block _ a2).trans hR2⟩
      have hgV : V.heap.size ≤ g := by have := hEE.size; omega
      have B0 := (hx0.b.block _ (lt_of_heap HB0.out)).trans HB0.out
      have B1 := (hx0.b.block _ (lt_of_heap HB1.out)).trans HB1.out
      have B2 := (hx0.b.block _ (lt_of_heap HB2.out)).trans HB2.out
      have hEV := hE.trans hx0
      clear hg hg0 hg1 hg2 hr hR0 hR1 hR2 hgV hr0 hr1 hr2
      have l0 : w.heap.size < V4.heap.size := lt_of_heap B0
      have c00 : V4.cell? ⟨w.heap.size, 0, none⟩ = some (.int .i64 0) := by rw [cell_of_row _ _ _ _ _ _ B0]; rfl
      have f00 : V4.frozen? ⟨w.heap.size, 0, none⟩ = false := frozen_row B0 _
      have c01 : V4.cell? ⟨w.heap.size, 1, none⟩ = some (.slice none 0 0) := by rw [cell_of_row _ _ _ _ _ _ B0]; rfl
      have f01 : V4.frozen? ⟨w.heap.size, 1, none⟩ = false := frozen_row B0 _
      have HB := hide (And.intro B0 (And.intro B1 B2))
      have HR9 := hide hR
      have HE9 := hide hEV
      have HS9 := hide hS4
      clear B0 B1 B2 hR hEV hS4
      refine wpTail_keep (fun KK hKK => ?_)
      go_wp2_with fail
      obtain ⟨B0, B1, B2⟩ := HB.out
      have hR := HR9.out
      have hEV := HE9.out
      have hS4 := HS9.out
      obtain ⟨V5, hV9⟩ : ∃ V5, ((V4.setCell ⟨w.heap.size, 0, none⟩ (.int .i64 2)).setCell ⟨w.heap.size, 1, none⟩ (.slice (some ⟨g, 0, none⟩) 3 3)) = V5 := ⟨_, rfl⟩
      have hR : ExRep w.heap.size V5 g g0 g1 g2 := by rw [← hV9]; exact (ExRep.set (ExRep.set hR (a := ⟨w.heap.size, 0, none⟩) _ (by simp)) (a := ⟨w.heap.size, 1, none⟩) _ (by simp))
      have hEV : Ext w V5 := by rw [← hV9]; exact (Ext.setCell (Ext.setCell hEV (p := ⟨w.heap.size, 0, none⟩) (by simp) _) (p := ⟨w.heap.size, 1, none⟩) (by simp) _)
      have hS4 : ES w.heap.size V5 := by rw [← hV9]; exact (ES.set (ES.set hS4 (a := ⟨w.heap.size, 0, none⟩) _ (by simp)) (a := ⟨w.heap.size, 1, none⟩) _ (by simp))
      have B0 : V5.heap[w.heap.size]? = some (.cells #[.int .i64 2, .slice (some ⟨g, 0, none⟩) 3 3] 24 (0, 0)) := by rw [← hV9, row_set (row_set B0 0 _) 1 _]; rfl
      have B1 : V5.heap[w.heap.size + 1]? = some (.cells #[.int .i64 0, .int .i64 0, .int .i64 0, .int .i64 0, .int .i64 0, .int .i64 0, .int .i64 0] 67 (0, 0)) := by rw [← hV9, Below.heap_setCell _ _ _ _ (by simp), Below.heap_setCell _ _ _ _ (by simp)]; exact B1
      have B2 : V5.heap[w.heap.size + 2]? = some (.cells #[.int .i64 0, .int .i64 0, .int .i64 0, .int .i64 0, .int .i64 0, .int .i64 0, .int .i64 0] 67 (0, 0)) := by rw [← hV9, Below.heap_setCell _ _ _ _ (by simp), Below.heap_setCell _ _ _ _ (by simp)]; exact B2
      rw [hV9]
      clear hV9 HB HR9 HE9 HS9 c00 f00 c01 f01 l0
      refine ⟨rfl, hKK _ _ hS4 ?_⟩
      clear hKK KK
      have l1 : w.heap.size + 1 < V5.heap.size := lt_of_heap B1
      have c10 : V5.cell? ⟨w.heap.size + 1, 0, none⟩ = some (.int .i64 0) := by rw [cell_of_row _ _ _ _ _ _ B1]; rfl
      have f10 : V5.frozen? ⟨w.heap.size + 1, 0, none⟩ = false := frozen_row B1 _
      have c11 : V5.cell? ⟨w.heap.size + 1, 1, none⟩ = some (.int .i64 0) := by rw [cell_of_row _ _ _ _ _ _ B1]; rfl
      have f11 : V5.frozen? ⟨w.heap.size + 1, 1, none⟩ = false := frozen_row B1 _
      have c12 : V5.cell? ⟨w.heap.size + 1, 2, none⟩ = some (.int .i64 0) := by rw [cell_of_row _ _ _ _ _ _ B1]; rfl
      have f12 : V5.frozen? ⟨w.heap.size + 1, 2, none⟩ = false := frozen_row B1 _
      have c13 : V5.cell? ⟨w.heap.size + 1, 3, none⟩ = some (.int .i64 0) := by rw [cell_of_row _ _ _ _ _ _ B1]; rfl
      have f13 : V5.frozen? ⟨w.heap.size + 1, 3, none⟩ = false := frozen_row B1 _
      have c14 : V5.cell? ⟨w.heap.size + 1, 4, none⟩ = some (.int .i64 0) := by rw [cell_of_row _ _ _ _ _ _ B1]; rfl
      have f14 : V5.frozen? ⟨w.heap.size + 1, 4, none⟩ = false := frozen_row B1 _
      have c15 : V5.cell? ⟨w.heap.size + 1, 5, none⟩ = some (.int .i64 0) := by rw [cell_of_row _ _ _ _ _ _ B1]; rfl
      have f15 : V5.frozen? ⟨w.heap.size + 1, 5, none⟩ = false := frozen_row B1 _
      have c16 : V5.cell? ⟨w.heap.size + 1, 6, none⟩ = some (.int .i64 0) := by rw [cell_of_row _ _ _ _ _ _ B1]; rfl
      have f16 : V5.frozen? ⟨w.heap.size + 1, 6, none⟩ = false := frozen_row B1 _
      have HB := hide (And.intro B0 (And.intro B1 B2))
      have HR9 := hide hR
      have HE9 := hide hEV
      have HS9 := hide hS4
      clear B0 B1 B2 hR hEV hS4
      refine wpTail_keep (fun KK hKK => ?_)
      go_wp2_with fail
      obtain ⟨B0, B1, B2⟩ := HB.out
      have hR := HR9.out
      have hEV := HE9.out
      have hS4 := HS9.out
      obtain ⟨V6, hV9⟩ : ∃ V6, (((((((V5.setCell ⟨w.heap.size + 1, 0, none⟩ (.int .i64 2)).setCell ⟨w.heap.size + 1, 1, none⟩ (.int .i64 1)).setCell ⟨w.heap.size + 1, 2, none⟩ (.int .i64 2)).setCell ⟨w.heap.size + 1, 3, none⟩ (.int .i64 0)).setCell ⟨w.heap.size + 1, 4, none⟩ (.int .i64 0)).setCell ⟨w.heap.size + 1, 5, none⟩ (.int .i64 0)).setCell ⟨w.heap.size + 1, 6, none⟩ (.int .i64 0)) = V6 := ⟨_, rfl⟩
      have hR : ExRep w.heap.size V6 g g0 g1 g2 := by rw [← hV9]; exact (ExRep.set (ExRep.set (ExRep.set (ExRep.set (ExRep.set (ExRep.set (ExRep.set hR (a := ⟨w.heap.size + 1, 0, none⟩) _ (by simp)) (a := ⟨w.heap.size + 1, 1, none⟩) _ (by simp)) (a := ⟨w.heap.size + 1, 2, none⟩) _ (by simp)) (a := ⟨w.heap.size + 1, 3, none⟩) _ (by simp)) (a := ⟨w.heap.size + 1, 4, none⟩) _ (by simp)) (a := ⟨w.heap.size + 1, 5, none⟩) _ (by simp)) (a := ⟨w.heap.size + 1, 6, none⟩) _ (by simp))
      have hEV : Ext w V6 := by rw [← hV9]; exact (Ext.setCell (Ext.setCell (Ext.setCell (Ext.setCell (Ext.setCell (Ext.setCell (Ext.setCell hEV (p := ⟨w.heap.size + 1, 0, none⟩) (by simp) _) (p := ⟨w.heap.size + 1, 1, none⟩) (by simp) _) (p := ⟨w.heap.size + 1, 2, none⟩) (by simp) _) (p := ⟨w.heap.size + 1, 3, none⟩) (by simp) _) (p := ⟨w.heap.size + 1, 4, none⟩) (by simp) _) (p := ⟨w.heap.size + 1, 5, none⟩) (by simp) _) (p := ⟨w.heap.size + 1, 6, none⟩) (by simp) _)
      have hS4 : ES w.heap.size V6 := by rw [← hV9]; exact (ES.set (ES.set (ES.set (ES.set (ES.set (ES.set (ES.set hS4 (a := ⟨w.heap.size + 1, 0, none⟩) _ (by simp)) (a := ⟨w.heap.size + 1, 1, none⟩) _ (by simp)) (a := ⟨w.heap.size + 1, 2, none⟩) _ (by simp)) (a := ⟨w.heap.size + 1, 3, none⟩) _ (by simp)) (a := ⟨w.heap.size + 1, 4, none⟩) _ (by simp)) (a := ⟨w.heap.size + 1, 5, none⟩) _ (by simp)) (a := ⟨w.heap.size + 1, 6, none⟩) _ (by simp))
      have B0 : V6.heap[w.heap.size]? = some (.cells #[.int .i64 2, .slice (some ⟨g, 0, none⟩) 3 3] 24 (0, 0)) := by rw [← hV9, Below.heap_setCell _ _ _ _ (by simp), Below.heap_setCell _ _ _ _ (by simp), Below.heap_setCell _ _ _ _ (by simp), Below.heap_setCell _ _ _ _ (by simp), Below.heap_setCell _ _ _ _ (by simp), Below.heap_setCell _ _ _ _ (by simp), Below.heap_setCell _ _ _ _ (by simp)]; exact B0
      have B1 : V6.heap[w.heap.size + 1]? = some (.cells #[.int .i64 2, .int .i64 1, .int .i64 2, .int .i64 0, .int .i64 0, .int .i64 0, .int .i64 0] 67 (0, 0)) := by rw [← hV9, row_set (row_set (row_set (row_set (row_set (row_set (row_set B1 0 _) 1 _) 2 _) 3 _) 4 _) 5 _) 6 _]; rfl
      have B2 : V6.heap[w.heap.size + 2]? = some (.cells #[.int .i64 0, .int .i64 0, .int .i64 0, .int .i64 0, .int .i64 0, .int .i64 0, .int .i64 0] 67 (0, 0)) := by rw [← hV9, Below.heap_setCell _ _ _ _ (by simp), Below.heap_setCell _ _ _ _ (by simp), Below.heap_setCell _ _ _ _ (by simp), Below.heap_setCell _ _ _ _ (by simp), Below.heap_setCell _ _ _ _ (by simp), Below.heap_setCell _ _ _ _ (by simp), Below.heap_setCell _ _ _ _ (by simp)]; exact B2
      rw [hV9]
      clear hV9 HB HR9 HE9 HS9 c10 f10 c11 f11 c12 f12 c13 f13 c14 f14 c15 f15 c16 f16 l1
      refine ⟨rfl, hKK _ _ hS4 ?_⟩
      clear hKK KK
      have l2 : w.heap.size + 2 < V6.heap.size := lt_of_heap B2
      have c20 : V6.cell? ⟨w.heap.size + 2, 0, none⟩ = some (.int .i64 0) := by rw [cell_of_row _ _ _ _ _ _ B2]; rfl
      have f20 : V6.frozen? ⟨w.heap.size + 2, 0, none⟩ = false := frozen_row B2 _
      have c21 : V6.cell? ⟨w.heap.size + 2, 1, none⟩ = some (.int .i64 0) := by rw [cell_of_row _ _ _ _ _ _ B2]; rfl
      have f21 : V6.frozen? ⟨w.heap.size + 2, 1, none⟩ = false := frozen_row B2 _
      have c22 : V6.cell? ⟨w.heap.size + 2, 2, none⟩ = some (.int .i64 0) := by rw [cell_of_row _ _ _ _ _ _ B2]; rfl
      have f22 : V6.frozen? ⟨w.heap.size + 2, 2, none⟩ = false := frozen_row B2 _
      have c23 : V6.cell? ⟨w.heap.size + 2, 3, none⟩ = some (.int .i64 0) := by rw [cell_of_row _ _ _ _ _ _ B2]; rfl
      have f23 : V6.frozen? ⟨w.heap.size + 2, 3, none⟩ = false := frozen_row B2 _
      have c24 : V6.cell? ⟨w.heap.size + 2, 4, none⟩ = some (.int .i64 0) := by rw [cell_of_row _ _ _ _ _ _ B2]; rfl
      have f24 : V6.frozen? ⟨w.heap.size + 2, 4, none⟩ = false := frozen_row B2 _
      have c25 : V6.cell? ⟨w.heap.size + 2, 5, none⟩ = some (.int .i64 0) := by rw [cell_of_row _ _ _ _ _ _ B2]; rfl
      have f25 : V6.frozen? ⟨w.heap.size + 2, 5, none⟩ = false := frozen_row B2 _
      have c26 : V6.cell? ⟨w.heap.size + 2, 6, none⟩ = some (.int .i64 0) := by rw [cell_of_row _ _ _ _ _ _ B2]; rfl
      have f26 : V6.frozen? ⟨w.heap.size + 2, 6, none⟩ = false := frozen_row B2 _
      have HB := hide (And.intro B0 (And.intro B1 B2))
      have HR9 := hide hR
      have HE9 := hide hEV
      have HS9 := hide hS4
      clear B0 B1 B2 hR hEV hS4
      refine wpTail_keep (fun KK hKK => ?_)
      go_wp2_with fail
      obtain ⟨B0, B1, B2⟩ := HB.out
      have hR := HR9.out
      have hEV := HE9.out
      have hS4 := HS9.out
      obtain ⟨V7, hV9⟩ : ∃ V7, (((((((V6.setCell ⟨w.heap.size + 2, 0, none⟩ (.int .i64 2)).setCell ⟨w.heap.size + 2, 1, none⟩ (.int .i64 3)).setCell ⟨w.heap.size + 2, 2, none⟩ (.int .i64 3)).setCell ⟨w.heap.size + 2, 3, none⟩ (.int .i64 0)).setCell ⟨w.heap.size + 2, 4, none⟩ (.int .i64 0)).setCell ⟨w.heap.size + 2, 5, none⟩ (.int .i64 0)).setCell ⟨w.heap.size + 2, 6, none⟩ (.int .i64 0)) = V7 := ⟨_, rfl⟩
      have hR : ExRep w.heap.size V7 g g0 g1 g2 := by rw [← hV9]; exact (ExRep.set (ExRep.set (ExRep.set (ExRep.set (ExRep.set (ExRep.set (ExRep.set hR (a := ⟨w.heap.size + 2, 0, none⟩) _ (by simp)) (a := ⟨w.heap.size + 2, 1, none⟩) _ (by simp)) (a := ⟨w.heap.size + 2, 2, none⟩) _ (by simp)) (a := ⟨w.heap.size + 2, 3, none⟩) _ (by simp)) (a := ⟨w.heap.size + 2, 4, none⟩) _ (by simp)) (a := ⟨w.heap.size + 2, 5, none⟩) _ (by simp)) (a := ⟨w.heap.size + 2, 6, none⟩) _ (by simp))
      have hEV : Ext w V7 := by rw [← hV9]; exact (Ext.setCell (Ext.setCell (Ext.setCell (Ext.setCell (Ext.setCell (Ext.setCell (Ext.setCell hEV (p := ⟨w.heap.size + 2, 0, none⟩) (by simp) _) (p := ⟨w.heap.size + 2, 1, none⟩) (by simp) _) (p := ⟨w.heap.size + 2, 2, none⟩) (by simp) _) (p := ⟨w.heap.size + 2, 3, none⟩) (by simp) _) (p := ⟨w.heap.size + 2, 4, none⟩) (by simp) _) (p := ⟨w.heap.size + 2, 5, none⟩) (by simp) _) (p := ⟨w.heap.size + 2, 6, none⟩) (by simp) _)
      have hS4 : ES w.heap.size V7 := by rw [← hV9]; exact (ES.set (ES.set (ES.set (ES.set (ES.set (ES.set (ES.set hS4 (a := ⟨w.heap.size + 2, 0, none⟩) _ (by simp)) (a := ⟨w.heap.size + 2, 1, none⟩) _ (by simp)) (a := ⟨w.heap.size + 2, 2, none⟩) _ (by simp)) (a := ⟨w.heap.size + 2, 3, none⟩) _ (by simp)) (a := ⟨w.heap.size + 2, 4, none⟩) _ (by simp)) (a := ⟨w.heap.size + 2, 5, none⟩) _ (by simp)) (a := ⟨w.heap.size + 2, 6, none⟩) _ (by simp))
      have B0 : V7.heap[w.heap.size]? = some (.cells #[.int .i64 2, .slice (some ⟨g, 0, none⟩) 3 3] 24 (0, 0)) := by rw [← hV9, Below.heap_setCell _ _ _ _ (by simp), Below.heap_setCell _ _ _ _ (by simp), Below.heap_setCell _ _ _ _ (by simp), Below.heap_setCell _ _ _ _ (by simp), Below.heap_setCell _ _ _ _ (by simp), Below.heap_setCell _ _ _ _ (by simp), Below.heap_setCell _ _ _ _ (by simp)]; exact B0
      have B1 : V7.heap[w.heap.size + 1]? = some (.cells #[.int .i64 2, .int .i64 1, .int .i64 2, .int .i64 0, .int .i64 0, .int .i64 0, .int .i64 0] 67 (0, 0)) := by rw [← hV9, Below.heap_setCell _ _ _ _ (by simp), Below.heap_setCell _ _ _ _ (by simp), Below.heap_setCell _ _ _ _ (by simp), Below.heap_setCell _ _ _ _ (by simp), Below.heap_setCell _ _ _ _ (by simp), Below.heap_setCell _ _ _ _ (by simp), Below.heap_setCell _ _ _ _ (by simp)]; exact B1
      have B2 : V7.heap[w.heap.size + 2]? = some (.cells #[.int .i64 2, .int .i64 3, .int .i64 3, .int .i64 0, .int .i64 0, .int .i64 0, .int .i64 0] 67 (0, 0)) := by rw [← hV9, row_set (row_set (row_set (row_set (row_set (row_set (row_set B2 0 _) 1 _) 2 _) 3 _) 4 _) 5 _) 6 _]; rfl
      rw [hV9]
      clear hV9 HB HR9 HE9 HS9 c20 f20 c21 f21 c22 f22 c23 f23 c24 f24 c25 f25 c26 f26 l2
      refine ⟨rfl, hKK _ _ hS4 ?_⟩
      clear hKK KK
      refine wpTail_nil ?_
      have m0 : w.heap.size < V7.heap.size := lt_of_heap B0
      have c00 : V7.cell? ⟨w.heap.size, 0, none⟩ = some (.int .i64 2) := by rw [cell_of_row _ _ _ _ _ _ B0]; rfl
      have f00 : V7.frozen? ⟨w.heap.size, 0, none⟩ = false := frozen_row B0 _
      have c01 : V7.cell? ⟨w.heap.size, 1, none⟩ = some (.slice (some ⟨g, 0, none⟩) 3 3) := by rw [cell_of_row _ _ _ _ _ _ B0]; rfl
      have f01 : V7.frozen? ⟨w.heap.size, 1, none⟩ = false := frozen_row B0 _
      have m1 : w.heap.size + 1 < V7.heap.size := lt_of_heap B1
      have c10 : V7.cell? ⟨w.heap.size + 1, 0, none⟩ = some (.int .i64 2) := by rw [cell_of_row _ _ _ _ _ _ B1]; rfl
      have f10 : V7.frozen? ⟨w.heap.size + 1, 0, none⟩ = false := frozen_row B1 _
      have c11 : V7.cell? ⟨w.heap.size + 1, 1, none⟩ = some (.int .i64 1) := by rw [cell_of_row _ _ _ _ _ _ B1]; rfl
      have f11 : V7.frozen? ⟨w.heap.size + 1, 1, none⟩ = false := frozen_row B1 _
      have c12 : V7.cell? ⟨w.heap.size + 1, 2, none⟩ = some (.int .i64 2) := by rw [cell_of_row _ _ _ _ _ _ B1]; rfl
      have f12 : V7.frozen? ⟨w.heap.size + 1, 2, none⟩ = false := frozen_row B1 _
      have c13 : V7.cell? ⟨w.heap.size + 1, 3, none⟩ = some (.int .i64 0) := by rw [cell_of_row _ _ _ _ _ _ B1]; rfl
      have f13 : V7.frozen? ⟨w.heap.size + 1, 3, none⟩ = false := frozen_row B1 _
      have c14 : V7.cell? ⟨w.heap.size + 1, 4, none⟩ = some (.int .i64 0) := by rw [cell_of_row _ _ _ _ _ _ B1]; rfl
      have f14 : V7.frozen? ⟨w.heap.size + 1, 4, none⟩ = false := frozen_row B1 _
      have c15 : V7.cell? ⟨w.heap.size + 1, 5, none⟩ = some (.int .i64 0) := by rw [cell_of_row _ _ _ _ _ _ B1]; rfl
      have f15 : V7.frozen? ⟨w.heap.size + 1, 5, none⟩ = false := frozen_row B1 _
      have c16 : V7.cell? ⟨w.heap.size + 1, 6, none⟩ = some (.int .i64 0) := by rw [cell_of_row _ _ _ _ _ _ B1]; rfl
      have f16 : V7.frozen? ⟨w.heap.size + 1, 6, none⟩ = false := frozen_row B1 _
      have m2 : w.heap.size + 2 < V7.heap.size := lt_of_heap B2
      have c20 : V7.cell? ⟨w.heap.size + 2, 0, none⟩ = some (.int .i64 2) := by rw [cell_of_row _ _ _ _ _ _ B2]; rfl
      have f20 : V7.frozen? ⟨w.heap.size + 2, 0, none⟩ = false := frozen_row B2 _
      have c21 : V7.cell? ⟨w.heap.size + 2, 1, none⟩ = some (.int .i64 3) := by rw [cell_of_row _ _ _ _ _ _ B2]; rfl
      have f21 : V7.frozen? ⟨w.heap.size + 2, 1, none⟩ = false := frozen_row B2 _
      have c22 : V7.cell? ⟨w.heap.size + 2, 2, none⟩ = some (.int .i64 3) := by rw [cell_of_row _ _ _ _ _ _ B2]; rfl
      have f22 : V7.frozen? ⟨w.heap.size + 2, 2, none⟩ = false := frozen_row B2 _
      have c23 : V7.cell? ⟨w.heap.size + 2, 3, none⟩ = some (.int .i64 0) := by rw [cell_of_row _ _ _ _ _ _ B2]; rfl
      have f23 : V7.frozen? ⟨w.heap.size + 2, 3, none⟩ = false := frozen_row B2 _
      have c24 : V7.cell? ⟨w.heap.size + 2, 4, none⟩ = some (.int .i64 0) := by rw [cell_of_row _ _ _ _ _ _ B2]; rfl
      have f24 : V7.frozen? ⟨w.heap.size + 2, 4, none⟩ = false := frozen_row B2 _
      have c25 : V7.cell? ⟨w.heap.size + 2, 5, none⟩ = some (.int .i64 0) := by rw [cell_of_row _ _ _ _ _ _ B2]; rfl
      have f25 : V7.frozen? ⟨w.heap.size + 2, 5, none⟩ = false := frozen_row B2 _
      have c26 : V7.cell? ⟨w.heap.size + 2, 6, none⟩ = some (.int .i64 0) := by rw [cell_of_row _ _ _ _ _ _ B2]; rfl
      have f26 : V7.frozen? ⟨w.heap.size + 2, 6, none⟩ = false := frozen_row B2 _
      have HR9 := hide hR
      have HE9 := hide hEV
      clear B0 B1 B2 hR hEV hS4
      go_wp2_with fail
      exact bodyPost_ret (v := .tuple #[.agg #[.int .i64 2, .slice (some ⟨g, 0, none⟩) 3 3], exS.v, exC.v]) (by simp [results, Try.f43, go_sem, exS, exC, c00, c01, c10, c11, c12, c13, c14, c15, c16, c20, c21, c22, c23, c24, c25, c26]) rfl ⟨g, g0, g1, g2, rfl, HR9.out, HE9.out⟩
    · refine op_newRow (n := 1) (cs := #[.int .i64 2, .int .i64 1, .int .i64 2, .int .i64 0, .int .i64 0, .int .i64 0, .int .i64 0, .int .i64 0]) (e := 69) rfl rfl (by go_simp) ?_
      intro V2 g2 hE2 hr2 hg2
      have hS2 := hS1.ext hE2
      refine ⟨hS2, ?_⟩
      simp only [Act.put, List.setIfInBounds_toArray, List.set_cons_zero, List.set_cons_succ]
      refine wpAnyT_all (rs := [4]) (by kernel_rfl) (by simp) ?_
      intro i hi
      simp only [List.mem_singleton] at hi
      subst hi
      refine op_newRow (n := 2) (cs := #[.int .i64 2, .int .i64 1, .int .i64 2, .int .i64 0, .int .i64 0, .int .i64 0, .int .i64 0, .int .i64 1, .int .i64 2, .int .i64 3, .int .i64 3, .int .i64 0, .int .i64 0, .int .i64 0, .int .i64 0, .int .i64 0]) (e := 69) rfl rfl (by go_simp) ?_
      intro V3 g0 hE3 hr0 hg0
      have hS3 := hS2.ext hE3
      refine ⟨hS3, ?_⟩
      simp only [Act.put, List.setIfInBounds_toArray, List.set_cons_zero, List.set_cons_succ]
      have hR1 := ((hE3.b.block _ (lt_of_heap ((hE2.b.block _ (lt_of_heap hr1)).trans hr1))).trans ((hE2.b.block _ (lt_of_heap hr1)).trans hr1))
      have hR2 := ((hE3.b.block _ (lt_of_heap hr2)).trans hr2)
      have hR0 := hr0
      have hEE : Ext V V3 := (hE1.trans hE2).trans hE3
      refine wpAnyT_all (rs := [11]) (by kernel_rfl) (by simp) ?_
      intro i hi
      simp only [List.mem_singleton] at hi
      subst hi
      refine op_newRow (n := 3) (cs := #[.slice (some ⟨g0, 0, none⟩) 2 2, .slice (some ⟨g1, 0, none⟩) 1 1, .slice (some ⟨g2, 0, none⟩) 1 1]) (e := 62) rfl rfl (by go_simp) ?_
      intro V4 g hE4 hr hg
      have hS4 := hS3.ext hE4
      refine ⟨hS4, ?_⟩
      simp only [Act.put, List.setIfInBounds_toArray, List.set_cons_zero, List.set_cons_succ]
      refine wpAnyT_take (i := 12) (.agg #[.int .i64 2, .slice (some ⟨g, 0, none⟩) 3 3]) rfl (by kernel_rfl) (by kernel_rfl) (by kernel_rfl) (by simp [Region.wanted]) (fun V hV => by go_simp) hS4 ?_
      simp only [Act.put, List.setIfInBounds_toArray, List.set_cons_zero, List.set_cons_succ]
      refine wpAnyT_rest 15 (by simp) (by kernel_rfl) ?_
      simp only [List.drop_succ_cons, List.drop_zero]
      have hx0 := hEE.trans hE4
      have hR : ExRep w.heap.size V4 g g0 g1 g2 := by
        have a0 := lt_of_heap hR0
        have a1 := lt_of_heap hR1
        have a2 := lt_of_heap hR2
        have z1 := hE.size
        have z2 := hEE.size
        have z3 := hS.lt
        have z4 := hE1.size
        have z5 := hE2.size
        have z6 := hE3.size
        refine ⟨by omega, by omega, by omega, by omega, by omega, by omega, by omega, hr, (hE4.b.block _ a0).trans hR0, (hE4.b.block _ a1).trans hR1, (hE4.b.block _ a2).trans hR2⟩
      have hgV : V.heap.size ≤ g := by have := hEE.size; omega
      have B0 := (hx0.b.block _ (lt_of_heap HB0.out)).trans HB0.out
      have B1 := (hx0.b.block _ (lt_of_heap HB1.out)).trans HB1.out
      have B2 := (hx0.b.block _ (lt_of_heap HB2.out)).trans HB2.out
      have hEV := hE.trans hx0
      clear hg hg0 hg1 hg2 hr hR0 hR1 hR2 hgV hr0 hr1 hr2
      have l0 : w.heap.size < V4.heap.size := lt_of_heap B0
      have c00 : V4.cell? ⟨w.heap.size, 0, none⟩ = some (.int .i64 0) := by rw [cell_of_row _ _ _ _ _ _ B0]; rfl
      have f00 : V4.frozen? ⟨w.heap.size, 0, none⟩ = false := frozen_row B0 _
      have c01 : V4.cell? ⟨w.heap.size, 1, none⟩ = some (.slice none 0 0) := by rw [cell_of_row _ _ _ _ _ _ B0]; rfl
      have f01 : V4.frozen? ⟨w.heap.size, 1, none⟩ = false := frozen_row B0 _
      have HB := hide (And.intro B0 (And.intro B1 B2))
      have HR9 := hide hR
      have HE9 := hide hEV
      have HS9 := hide hS4
      clear B0 B1 B2 hR hEV hS4
      refine wpTail_keep (fun KK hKK => ?_)
      go_wp2_with fail
      obtain ⟨B0, B1, B2⟩ := HB.out
      have hR := HR9.out
      have hEV := HE9.out
      have hS4 := HS9.out
      obtain ⟨V5, hV9⟩ : ∃ V5, ((V4.setCell ⟨w.heap.size, 0, none⟩ (.int .i64 2)).setCell ⟨w.heap.size, 1, none⟩ (.slice (some ⟨g, 0, none⟩) 3 3)) = V5 := ⟨_, rfl⟩
      have hR : ExRep w.heap.size V5 g g0 g1 g2 := by rw [← hV9]; exact (ExRep.set (ExRep.set hR (a := ⟨w.heap.size, 0, none⟩) _ (by simp)) (a := ⟨w.heap.size, 1, none⟩) _ (by simp))
      have hEV : Ext w V5 := by rw [← hV9]; exact (Ext.setCell (Ext.setCell hEV (p := ⟨w.heap.size, 0, none⟩) (by simp) _) (p := ⟨w.heap.size, 1, none⟩) (by simp) _)
      have hS4 : ES w.heap.size V5 := by rw [← hV9]; exact (ES.set (ES.set hS4 (a := ⟨w.heap.size, 0, none⟩) _ (by simp)) (a := ⟨w.heap.size, 1, none⟩) _ (by simp))
      have B0 : V5.heap[w.heap.size]? = some (.cells #[.int .i64 2, .slice (some ⟨g, 0, none⟩) 3 3] 24 (0, 0)) := by rw [← hV9, row_set (row_set B0 0 _) 1 _]; rfl
      have B1 : V5.heap[w.heap.size + 1]? = some (.cells #[.int .i64 0, .int .i64 0, .int .i64 0, .int .i64 0, .int .i64 0, .int .i64 0, .int .i64 0] 67 (0, 0)) := by rw [← hV9, Below.heap_setCell _ _ _ _ (by simp), Below.heap_setCell _ _ _ _ (by simp)]; exact B1
      have B2 : V5.heap[w.heap.size + 2]? = some (.cells #[.int .i64 0, .int .i64 0, .int .i64 0, .int .i64 0, .int .i64 0, .int .i64 0, .int .i64 0] 67 (0, 0)) := by rw [← hV9, Below.heap_setCell _ _ _ _ (by simp), Below.heap_setCell _ _ _ _ (by simp)]; exact B2
      rw [hV9]
      clear hV9 HB HR9 HE9 HS9 c00 f00 c01 f01 l0
      refine ⟨rfl, hKK _ _ hS4 ?_⟩
      clear hKK KK
      have l1 : w.heap.size + 1 < V5.heap.size := lt_of_heap B1
      have c10 : V5.cell? ⟨w.heap.size + 1, 0, none⟩ = some (.int .i64 0) := by rw [cell_of_row _ _ _ _ _ _ B1]; rfl
      have f10 : V5.frozen? ⟨w.heap.size + 1, 0, none⟩ = false := frozen_row B1 _
      have c11 : V5.cell? ⟨w.heap.size + 1, 1, none⟩ = some (.int .i64 0) := by rw [cell_of_row _ _ _ _ _ _ B1]; rfl
      have f11 : V5.frozen? ⟨w.heap.size + 1, 1, none⟩ = false := frozen_row B1 _
      have c12 : V5.cell? ⟨w.heap.size + 1, 2, none⟩ = some (.int .i64 0) := by rw [cell_of_row _ _ _ _ _ _ B1]; rfl
      have f12 : V5.frozen? ⟨w.heap.size + 1, 2, none⟩ = false := frozen_row B1 _
      have c13 : V5.cell? ⟨w.heap.size + 1, 3, none⟩ = some (.int .i64 0) := by rw [cell_of_row _ _ _ _ _ _ B1]; rfl
      have f13 : V5.frozen? ⟨w.heap.size + 1, 3, none⟩ = false := frozen_row B1 _
      have c14 : V5.cell? ⟨w.heap.size + 1, 4, none⟩ = some (.int .i64 0) := by rw [cell_of_row _ _ _ _ _ _ B1]; rfl
      have f14 : V5.frozen? ⟨w.heap.size + 1, 4, none⟩ = false := frozen_row B1 _
      have c15 : V5.cell? ⟨w.heap.size + 1, 5, none⟩ = some (.int .i64 0) := by rw [cell_of_row _ _ _ _ _ _ B1]; rfl
      have f15 : V5.frozen? ⟨w.heap.size + 1, 5, none⟩ = false := frozen_row B1 _
      have c16 : V5.cell? ⟨w.heap.size + 1, 6, none⟩ = some (.int .i64 0) := by rw [cell_of_row _ _ _ _ _ _ B1]; rfl
      have f16 : V5.frozen? ⟨w.heap.size + 1, 6, none⟩ = false := frozen_row B1 _
      have HB := hide (And.intro B0 (And.intro B1 B2))
      have HR9 := hide hR
      have HE9 := hide hEV
      have HS9 := hide hS4
      clear B0 B1 B2 hR hEV hS4
      refine wpTail_keep (fun KK hKK => ?_)
      go_wp2_with fail
      obtain ⟨B0, B1, B2⟩ := HB.out
      have hR := HR9.out
      have hEV := HE9.out
      have hS4 := HS9.out
      obtain ⟨V6, hV9⟩ : ∃ V6, (((((((V5.setCell ⟨w.heap.size + 1, 0, none⟩ (.int .i64 2)).setCell ⟨w.heap.size + 1, 1, none⟩ (.int .i64 1)).setCell ⟨w.heap.size + 1, 2, none⟩ (.int .i64 2)).setCell ⟨w.heap.size + 1, 3, none⟩ (.int .i64 0)).setCell ⟨w.heap.size + 1, 4, none⟩ (.int .i64 0)).setCell ⟨w.heap.size + 1, 5, none⟩ (.int .i64 0)).setCell ⟨w.heap.size + 1, 6, none⟩ (.int .i64 0)) = V6 := ⟨_, rfl⟩
      have hR : ExRep w.heap.size V6 g g0 g1 g2 := by rw [← hV9]; exact (ExRep.set (ExRep.set (ExRep.set (ExRep.set (ExRep.set (ExRep.set (ExRep.set hR (a := ⟨w.heap.size + 1, 0, none⟩) _ (by simp)) (a := ⟨w.heap.size + 1, 1, none⟩) _ (by simp)) (a := ⟨w.heap.size + 1, 2, none⟩) _ (by simp)) (a := ⟨w.heap.size + 1, 3, none⟩) _ (by simp)) (a := ⟨w.heap.size + 1, 4, none⟩) _ (by simp)) (a := ⟨w.heap.size + 1, 5, none⟩) _ (by simp)) (a := ⟨w.heap.size + 1, 6, none⟩) _ (by simp))
      have hEV : Ext w V6 := by rw [← hV9]; exact (Ext.setCell (Ext.setCell (Ext.setCell (Ext.setCell (Ext.setCell (Ext.setCell (Ext.setCell hEV (p := ⟨w.heap.size + 1, 0, none⟩) (by simp) _) (p := ⟨w.heap.size + 1, 1, none⟩) (by simp) _) (p := ⟨w.heap.size + 1, 2, none⟩) (by simp) _) (p := ⟨w.heap.size + 1, 3, none⟩) (by simp) _) (p := ⟨w.heap.size + 1, 4, none⟩) (by simp) _) (p := ⟨w.heap.size + 1, 5, none⟩) (by simp) _) (p := ⟨w.heap.size + 1, 6, none⟩) (by simp) _)
      have hS4 : ES w.heap.size V6 := by rw [← hV9]; exact (ES.set (ES.set (ES.set (ES.set (ES.set (ES.set (ES.set hS4 (a := ⟨w.heap.size + 1, 0, none⟩) _ (by simp)) (a := ⟨w.heap.size + 1, 1, none⟩) _ (by simp)) (a := ⟨w.heap.size + 1, 2, none⟩) _ (by simp)) (a := ⟨w.heap.size + 1, 3, none⟩) _ (by simp)) (a := ⟨w.heap.size + 1, 4, none⟩) _ (by simp)) (a := ⟨w.heap.size + 1, 5, none⟩) _ (by simp)) (a := ⟨w.heap.size + 1, 6, none⟩) _ (by simp))
      have B0 : V6.heap[w.heap.size]? = some (.cells #[.int .i64 2, .slice (some ⟨g, 0, none⟩) 3 3] 24 (0, 0)) := by rw [← hV9, Below.heap_setCell _ _ _ _ (by simp), Below.heap_setCell _ _ _ _ (by simp), Below.heap_setCell _ _ _ _ (by simp), Below.heap_setCell _ _ _ _ (by simp), Below.heap_setCell _ _ _ _ (by simp), Below.heap_setCell _ _ _ _ (by simp), Below.heap_setCell _ _ _ _ (by simp)]; exact B0
      have B1 : V6.heap[w.heap.size + 1]? = some (.cells #[.int .i64 2, .int .i64 1, .int .i64 2, .int .i64 0, .int .i64 0, .int .i64 0, .int .i64 0] 67 (0, 0)) := by rw [← hV9, row_set (row_set (row_set (row_set (row_set (row_set (row_set B1 0 _) 1 _) 2 _) 3 _) 4 _) 5 _) 6 _]; rfl
      have B2 : V6.heap[w.heap.size + 2]? = some (.cells #[.int .i64 0, .int .i64 0, .int .i64 0, .int .i64 0, .int .i64 0, .int .i64 0, .int .i64 0] 67 (0, 0)) := by rw [← hV9, Below.heap_setCell _ _ _ _ (by simp), Below.heap_setCell _ _ _ _ (by simp), Below.heap_setCell _ _ _ _ (by simp), Below.heap_setCell _ _ _ _ (by simp), Below.heap_setCell _ _ _ _ (by simp), Below.heap_setCell _ _ _ _ (by simp), Below.heap_setCell _ _ _ _ (by simp)]; exact B2
      rw [hV9]
      clear hV9 HB HR9 HE9 HS9 c10 f10 c11 f11 c12 f12 c13 f13 c14 f14 c15 f15 c16 f16 l1
      refine ⟨rfl, hKK _ _ hS4 ?_⟩
      clear hKK KK
      have l2 : w.heap.size + 2 < V6.heap.size := lt_of_heap B2
      have c20 : V6.cell? ⟨w.heap.size + 2, 0, none⟩ = some (.int .i64 0) := by rw [cell_of_row _ _ _ _ _ _ B2]; rfl
      have f20 : V6.frozen? ⟨w.heap.size + 2, 0, none⟩ = false := frozen_row B2 _
      have c21 : V6.cell? ⟨w.heap.size + 2, 1, none⟩ = some (.int .i64 0) := by rw [cell_of_row _ _ _ _ _ _ B2]; rfl
      have f21 : V6.frozen? ⟨w.heap.size + 2, 1, none⟩ = false := frozen_row B2 _
      have c22 : V6.cell? ⟨w.heap.size + 2, 2, none⟩ = some (.int .i64 0) := by rw [cell_of_row _ _ _ _ _ _ B2]; rfl
      have f22 : V6.frozen? ⟨w.heap.size + 2, 2, none⟩ = false := frozen_row B2 _
      have c23 : V6.cell? ⟨w.heap.size + 2, 3, none⟩ = some (.int .i64 0) := by rw [cell_of_row _ _ _ _ _ _ B2]; rfl
      have f23 : V6.frozen? ⟨w.heap.size + 2, 3, none⟩ = false := frozen_row B2 _
      have c24 : V6.cell? ⟨w.heap.size + 2, 4, none⟩ = some (.int .i64 0) := by rw [cell_of_row _ _ _ _ _ _ B2]; rfl
      have f24 : V6.frozen? ⟨w.heap.size + 2, 4, none⟩ = false := frozen_row B2 _
      have c25 : V6.cell? ⟨w.heap.size + 2, 5, none⟩ = some (.int .i64 0) := by rw [cell_of_row _ _ _ _ _ _ B2]; rfl
      have f25 : V6.frozen? ⟨w.heap.size + 2, 5, none⟩ = false := frozen_row B2 _
      have c26 : V6.cell? ⟨w.heap.size + 2, 6, none⟩ = some (.int .i64 0) := by rw [cell_of_row _ _ _ _ _ _ B2]; rfl
      have f26 : V6.frozen? ⟨w.heap.size + 2, 6, none⟩ = false := frozen_row B2 _
      have HB := hide (And.intro B0 (And.intro B1 B2))
      have HR9 := hide hR
      have HE9 := hide hEV
      have HS9 := hide hS4
      clear B0 B1 B2 hR hEV hS4
      refine wpTail_keep (fun KK hKK => ?_)
      go_wp2_with fail
      obtain ⟨B0, B1, B2⟩ := HB.out
      have hR := HR9.out
      have hEV := HE9.out
      have hS4 := HS9.out
      obtain ⟨V7, hV9⟩ : ∃ V7, (((((((V6.setCell ⟨w.heap.size + 2, 0, none⟩ (.int .i64 2)).setCell ⟨w.heap.size + 2, 1, none⟩ (.int .i64 3)).setCell ⟨w.heap.size + 2, 2, none⟩ (.int .i64 3)).setCell ⟨w.heap.size + 2, 3, none⟩ (.int .i64 0)).setCell ⟨w.heap.size + 2, 4, none⟩ (.int .i64 0)).setCell ⟨w.heap.size + 2, 5, none⟩ (.int .i64 0)).setCell ⟨w.heap.size + 2, 6, none⟩ (.int .i64 0)) = V7 := ⟨_, rfl⟩
      have hR : ExRep w.heap.size V7 g g0 g1 g2 := by rw [← hV9]; exact (ExRep.set (ExRep.set (ExRep.set (ExRep.set (ExRep.set (ExRep.set (ExRep.set hR (a := ⟨w.heap.size + 2, 0, none⟩) _ (by simp)) (a := ⟨w.heap.size + 2, 1, none⟩) _ (by simp)) (a := ⟨w.heap.size + 2, 2, none⟩) _ (by simp)) (a := ⟨w.heap.size + 2, 3, none⟩) _ (by simp)) (a := ⟨w.heap.size + 2, 4, none⟩) _ (by simp)) (a := ⟨w.heap.size + 2, 5, none⟩) _ (by simp)) (a := ⟨w.heap.size + 2, 6, none⟩) _ (by simp))
      have hEV : Ext w V7 := by rw [← hV9]; exact (Ext.setCell (Ext.setCell (Ext.setCell (Ext.setCell (Ext.setCell (Ext.setCell (Ext.setCell hEV (p := ⟨w.heap.size + 2, 0, none⟩) (by simp) _) (p := ⟨w.heap.size + 2, 1, none⟩) (by simp) _) (p := ⟨w.heap.size + 2, 2, none⟩) (by simp) _) (p := ⟨w.heap.size + 2, 3, none⟩) (by simp) _) (p := ⟨w.heap.size + 2, 4, none⟩) (by simp) _) (p := ⟨w.heap.size + 2, 5, none⟩) (by simp) _) (p := ⟨w.heap.size + 2, 6, none⟩) (by simp) _)
      have hS4 : ES w.heap.size V7 := by rw [← hV9]; exact (ES.set (ES.set (ES.set (ES.set (ES.set (ES.set (ES.set hS4 (a := ⟨w.heap.size + 2, 0, none⟩) _ (by simp)) (a := ⟨w.heap.size + 2, 1, none⟩) _ (by simp)) (a := ⟨w.heap.size + 2, 2, none⟩) _ (by simp)) (a := ⟨w.heap.size + 2, 3, none⟩) _ (by simp)) (a := ⟨w.heap.size + 2, 4, none⟩) _ (by simp)) (a := ⟨w.heap.size + 2, 5, none⟩) _ (by simp)) (a := ⟨w.heap.size + 2, 6, none⟩) _ (by simp))
      have B0 : V7.heap[w.heap.size]? = some (.cells #[.int .i64 2, .slice (some ⟨g, 0, none⟩) 3 3] 24 (0, 0)) := by rw [← hV9, Below.heap_setCell _ _ _ _ (by simp), Below.heap_setCell _ _ _ _ (by simp), Below.heap_setCell _ _ _ _ (by simp), Below.heap_setCell _ _ _ _ (by simp), Below.heap_setCell _ _ _ _ (by simp), Below.heap_setCell _ _ _ _ (by simp), Below.heap_setCell _ _ _ _ (by simp)]; exact B0
      have B1 : V7.heap[w.heap.size + 1]? = some (.cells #[.int .i64 2, .int .i64 1, .int .i64 2, .int .i64 0, .int .i64 0, .int .i64 0, .int .i64 0] 67 (0, 0)) := by rw [← hV9, Below.heap_setCell _ _ _ _ (by simp), Below.heap_setCell _ _ _ _ (by simp), Below.heap_setCell _ _ _ _ (by simp), Below.heap_setCell _ _ _ _ (by simp), Below.heap_setCell _ _ _ _ (by simp), Below.heap_setCell _ _ _ _ (by simp), Below.heap_setCell _ _ _ _ (by simp)]; exact B1
      have B2 : V7.heap[w.heap.size + 2]? = some (.cells #[.int .i64 2, .int .i64 3, .int .i64 3, .int .i64 0, .int .i64 0, .int .i64 0, .int .i64 0] 67 (0, 0)) := by rw [← hV9, row_set (row_set (row_set (row_set (row_set (row_set (row_set B2 0 _) 1 _) 2 _) 3 _) 4 _) 5 _) 6 _]; rfl
      rw [hV9]
      clear hV9 HB HR9 HE9 HS9 c20 f20 c21 f21 c22 f22 c23 f23 c24 f24 c25 f25 c26 f26 l2
      refine ⟨rfl, hKK _ _ hS4 ?_⟩
      clear hKK KK
      refine wpTail_nil ?_
      have m0 : w.heap.size < V7.heap.size := lt_of_heap B0
      have c00 : V7.cell? ⟨w.heap.size, 0, none⟩ = some (.int .i64 2) := by rw [cell_of_row _ _ _ _ _ _ B0]; rfl
      have f00 : V7.frozen? ⟨w.heap.size, 0, none⟩ = false := frozen_row B0 _
      have c01 : V7.cell? ⟨w.heap.size, 1, none⟩ = some (.slice (some ⟨g, 0, none⟩) 3 3) := by rw [cell_of_row _ _ _ _ _ _ B0]; rfl
      have f01 : V7.frozen? ⟨w.heap.size, 1, none⟩ = false := frozen_row B0 _
      have m1 : w.heap.size + 1 < V7.heap.size := lt_of_heap B1
      have c10 : V7.cell? ⟨w.heap.size + 1, 0, none⟩ = some (.int .i64 2) := by rw [cell_of_row _ _ _ _ _ _ B1]; rfl
      have f10 : V7.frozen? ⟨w.heap.size + 1, 0, none⟩ = false := frozen_row B1 _
      have c11 : V7.cell? ⟨w.heap.size + 1, 1, none⟩ = some (.int .i64 1) := by rw [cell_of_row _ _ _ _ _ _ B1]; rfl
      have f11 : V7.frozen? ⟨w.heap.size + 1, 1, none⟩ = false := frozen_row B1 _
      have c12 : V7.cell? ⟨w.heap.size + 1, 2, none⟩ = some (.int .i64 2) := by rw [cell_of_row _ _ _ _ _ _ B1]; rfl
      have f12 : V7.frozen? ⟨w.heap.size + 1, 2, none⟩ = false := frozen_row B1 _
      have c13 : V7.cell? ⟨w.heap.size + 1, 3, none⟩ = some (.int .i64 0) := by rw [cell_of_row _ _ _ _ _ _ B1]; rfl
      have f13 : V7.frozen? ⟨w.heap.size + 1, 3, none⟩ = false := frozen_row B1 _
      have c14 : V7.cell? ⟨w.heap.size + 1, 4, none⟩ = some (.int .i64 0) := by rw [cell_of_row _ _ _ _ _ _ B1]; rfl
      have f14 : V7.frozen? ⟨w.heap.size + 1, 4, none⟩ = false := frozen_row B1 _
      have c15 : V7.cell? ⟨w.heap.size + 1, 5, none⟩ = some (.int .i64 0) := by rw [cell_of_row _ _ _ _ _ _ B1]; rfl
      have f15 : V7.frozen? ⟨w.heap.size + 1, 5, none⟩ = false := frozen_row B1 _
      have c16 : V7.cell? ⟨w.heap.size + 1, 6, none⟩ = some (.int .i64 0) := by rw [cell_of_row _ _ _ _ _ _ B1]; rfl
      have f16 : V7.frozen? ⟨w.heap.size + 1, 6, none⟩ = false := frozen_row B1 _
      have m2 : w.heap.size + 2 < V7.heap.size := lt_of_heap B2
      have c20 : V7.cell? ⟨w.heap.size + 2, 0, none⟩ = some (.int .i64 2) := by rw [cell_of_row _ _ _ _ _ _ B2]; rfl
      have f20 : V7.frozen? ⟨w.heap.size + 2, 0, none⟩ = false := frozen_row B2 _
      have c21 : V7.cell? ⟨w.heap.size + 2, 1, none⟩ = some (.int .i64 3) := by rw [cell_of_row _ _ _ _ _ _ B2]; rfl
      have f21 : V7.frozen? ⟨w.heap.size + 2, 1, none⟩ = false := frozen_row B2 _
      have c22 : V7.cell? ⟨w.heap.size + 2, 2, none⟩ = some (.int .i64 3) := by rw [cell_of_row _ _ _ _ _ _ B2]; rfl
      have f22 : V7.frozen? ⟨w.heap.size + 2, 2, none⟩ = false := frozen_row B2 _
      have c23 : V7.cell? ⟨w.heap.size + 2, 3, none⟩ = some (.int .i64 0) := by rw [cell_of_row _ _ _ _ _ _ B2]; rfl
      have f23 : V7.frozen? ⟨w.heap.size + 2, 3, none⟩ = false := frozen_row B2 _
      have c24 : V7.cell? ⟨w.heap.size + 2, 4, none⟩ = some (.int .i64 0) := by rw [cell_of_row _ _ _ _ _ _ B2]; rfl
      have f24 : V7.frozen? ⟨w.heap.size + 2, 4, none⟩ = false := frozen_row B2 _
      have c25 : V7.cell? ⟨w.heap.size + 2, 5, none⟩ = some (.int .i64 0) := by rw [cell_of_row _ _ _ _ _ _ B2]; rfl
      have f25 : V7.frozen? ⟨w.heap.size + 2, 5, none⟩ = false := frozen_row B2 _
      have c26 : V7.cell? ⟨w.heap.size + 2, 6, none⟩ = some (.int .i64 0) := by rw [cell_of_row _ _ _ _ _ _ B2]; rfl
      have f26 : V7.frozen? ⟨w.heap.size + 2, 6, none⟩ = false := frozen_row B2 _
      have HR9 := hide hR
      have HE9 := hide hEV
      clear B0 B1 B2 hR hEV hS4
      go_wp2_with fail
      exact bodyPost_ret (v := .tuple #[.agg #[.int .i64 2, .slice (some ⟨g, 0, none⟩) 3 3], exS.v, exC.v]) (by simp [results, Try.f43, go_sem, exS, exC, c00, c01, c10, c11, c12, c13, c14, c15, c16, c20, c21, c22, c23, c24, c25, c26]) rfl ⟨g, g0, g1, g2, rfl, HR9.out, HE9.out⟩
  · refine op_newRow (n := 1) (cs := #[.int .i64 2, .int .i64 1, .int .i64 2, .int .i64 0, .int .i64 0, .int .i64 0, .int .i64 0, .int .i64 0]) (e := 69) rfl rfl (by go_simp) ?_
    intro V1 g2 hE1 hr2 hg2
    have hS1 := hS.ext hE1
    refine ⟨hS1, ?_⟩
    simp only [Act.put, List.setIfInBounds_toArray, List.set_cons_zero, List.set_cons_succ]
    refine wpAnyT_all (rs := [4, 7]) (by kernel_rfl) (by simp) ?_
    intro i hi
    simp only [List.mem_cons, List.not_mem_nil, or_false] at hi
    rcases hi with rfl | rfl
    · refine op_newRow (n := 2) (cs := #[.int .i64 2, .int .i64 1, .int .i64 2, .int .i64 0, .int .i64 0, .int .i64 0, .int .i64 0, .int .i64 1, .int .i64 2, .int .i64 3, .int .i64 3, .int .i64 0, .int .i64 0, .int .i64 0, .int .i64 0, .int .i64 0]) (e := 69) rfl rfl (by go_simp) ?_
      intro V2 g0 hE2 hr0 hg0
      have hS2 := hS1.ext hE2
      refine ⟨hS2, ?_⟩
      simp only [Act.put, List.setIfInBounds_toArray, List.set_cons_zero, List.set_cons_succ]
      refine wpAnyT_all (rs := [7]) (by kernel_rfl) (by simp) ?_
      intro i hi
      simp only [List.mem_singleton] at hi
      subst hi
      refine op_newRow (n := 1) (cs := #[.int .i64 2, .int .i64 3, .int .i64 3, .int .i64 0, .int .i64 0, .int .i64 0, .int .i64 0, .int .i64 1]) (e := 69) rfl rfl (by go_simp) ?_
      intro V3 g1 hE3 hr1 hg1
      have hS3 := hS2.ext hE3
      refine ⟨hS3, ?_⟩
      simp only [Act.put, List.setIfInBounds_toArray, List.set_cons_zero, List.set_cons_succ]
      have hR2 := ((hE3.b.block _ (lt_of_heap ((hE2.b.block _ (lt_of_heap hr2)).trans hr2))).trans ((hE2.b.block _ (lt_of_heap hr2)).trans hr2))
      have hR0 := ((hE3.b.block _ (lt_of_heap hr0)).trans hr0)
      have hR1 := hr1
      have hEE : Ext V V3 := (hE1.trans hE2).trans hE3
      refine wpAnyT_all (rs := [11]) (by kernel_rfl) (by simp) ?_
      intro i hi
      simp only [List.mem_singleton] at hi
      subst hi
      refine op_newRow (n := 3) (cs := #[.slice (some ⟨g0, 0, none⟩) 2 2, .slice (some ⟨g1, 0, none⟩) 1 1, .slice (some ⟨g2, 0, none⟩) 1 1]) (e := 62) rfl rfl (by go_simp) ?_
      intro V4 g hE4 hr hg
      have hS4 := hS3.ext hE4
      refine ⟨hS4, ?_⟩
      simp only [Act.put, List.setIfInBounds_toArray, List.set_cons_zero, List.set_cons_succ]
      refine wpAnyT_take (i := 12) (.agg #[.int .i64 2, .slice (some ⟨g, 0, none⟩) 3 3]) rfl (by kernel_rfl) (by kernel_rfl) (by kernel_rfl) (by simp [Region.wanted]) (fun V hV => by go_simp) hS4 ?_
      simp only [Act.put, List.setIfInBounds_toArray, List.set_cons_zero, List.set_cons_succ]
      refine wpAnyT_rest 15 (by simp) (by kernel_rfl) ?_
      simp only [List.drop_succ_cons, List.drop_zero]
      have hx0 := hEE.trans hE4
      have hR : ExRep w.heap.size V4 g g0 g1 g2 := by
        have a0 := lt_of_heap hR0
        have a1 := lt_of_heap hR1
        have a2 := lt_of_heap hR2
        have z1 := hE.size
        have z2 := hEE.size
        have z3 := hS.lt
        have z4 := hE1.size
        have z5 := hE2.size
        have z6 := hE3.size
        refine ⟨by omega, by omega, by omega, by omega, by omega, by omega, by omega, hr, (hE4.b.block _ a0).trans hR0, (hE4.b.block _ a1).trans hR1, (hE4.b.block _ a2).trans hR2⟩
      have hgV : V.heap.size ≤ g := by have := hEE.size; omega
      have B0 := (hx0.b.block _ (lt_of_heap HB0.out)).trans HB0.out
      have B1 := (hx0.b.block _ (lt_of_heap HB1.out)).trans HB1.out
      have B2 := (hx0.b.block _ (lt_of_heap HB2.out)).trans HB2.out
      have hEV := hE.trans hx0
      clear hg hg0 hg1 hg2 hr hR0 hR1 hR2 hgV hr0 hr1 hr2
      have l0 : w.heap.size < V4.heap.size := lt_of_heap B0
      have c00 : V4.cell? ⟨w.heap.size, 0, none⟩ = some (.int .i64 0) := by rw [cell_of_row _ _ _ _ _ _ B0]; rfl
      have f00 : V4.frozen? ⟨w.heap.size, 0, none⟩ = false := frozen_row B0 _
      have c01 : V4.cell? ⟨w.heap.size, 1, none⟩ = some (.slice none 0 0) := by rw [cell_of_row _ _ _ _ _ _ B0]; rfl
      have f01 : V4.frozen? ⟨w.heap.size, 1, none⟩ = false := frozen_row B0 _
      have HB := hide (And.intro B0 (And.intro B1 B2))
      have HR9 := hide hR
      have HE9 := hide hEV
      have HS9 := hide hS4
      clear B0 B1 B2 hR hEV hS4
      refine wpTail_keep (fun KK hKK => ?_)
      go_wp2_with fail
      obtain ⟨B0, B1, B2⟩ := HB.out
      have hR := HR9.out
      have hEV := HE9.out
      have hS4 := HS9.out
      obtain ⟨V5, hV9⟩ : ∃ V5, ((V4.setCell ⟨w.heap.size, 0, none⟩ (.int .i64 2)).setCell ⟨w.heap.size, 1, none⟩ (.slice (some ⟨g, 0, none⟩) 3 3)) = V5 := ⟨_, rfl⟩
      have hR : ExRep w.heap.size V5 g g0 g1 g2 := by rw [← hV9]; exact (ExRep.set (ExRep.set hR (a := ⟨w.heap.size, 0, none⟩) _ (by simp)) (a := ⟨w.heap.size, 1, none⟩) _ (by simp))
      have hEV : Ext w V5 := by rw [← hV9]; exact (Ext.setCell (Ext.setCell hEV (p := ⟨w.heap.size, 0, none⟩) (by simp) _) (p := ⟨w.heap.size, 1, none⟩) (by simp) _)
      have hS4 : ES w.heap.size V5 := by rw [← hV9]; exact (ES.set (ES.set hS4 (a := ⟨w.heap.size, 0, none⟩) _ (by simp)) (a := ⟨w.heap.size, 1, none⟩) _ (by simp))
      have B0 : V5.heap[w.heap.size]? = some (.cells #[.int .i64 2, .slice (some ⟨g, 0, none⟩) 3 3] 24 (0, 0)) := by rw [← hV9, row_set (row_set B0 0 _) 1 _]; rfl
      have B1 : V5.heap[w.heap.size + 1]? = some (.cells #[.int .i64 0, .int .i64 0, .int .i64 0, .int .i64 0, .int .i64 0, .int .i64 0, .int .i64 0] 67 (0, 0)) := by rw [← hV9, Below.heap_setCell _ _ _ _ (by simp), Below.heap_setCell _ _ _ _ (by simp)]; exact B1
      have B2 : V5.heap[w.heap.size + 2]? = some (.cells #[.int .i64 0, .int .i64 0, .int .i64 0, .int .i64 0, .int .i64 0, .int .i64 0, .int .i64 0] 67 (0, 0)) := by rw [← hV9, Below.heap_setCell _ _ _ _ (by simp), Below.heap_setCell _ _ _ _ (by simp)]; exact B2
      rw [hV9]
      clear hV9 HB HR9 HE9 HS9 c00 f00 c01 f01 l0
      refine ⟨rfl, hKK _ _ hS4 ?_⟩
      clear hKK KK
      have l1 : w.heap.size + 1 < V5.heap.size := lt_of_heap B1
      have c10 : V5.cell? ⟨w.heap.size + 1, 0, none⟩ = some (.int .i64 0) := by rw [cell_of_row _ _ _ _ _ _ B1]; rfl
      have f10 : V5.frozen? ⟨w.heap.size + 1, 0, none⟩ = false := frozen_row B1 _
      have c11 : V5.cell? ⟨w.heap.size + 1, 1, none⟩ = some (.int .i64 0) := by rw [cell_of_row _ _ _ _ _ _ B1]; rfl
      have f11 : V5.frozen? ⟨w.heap.size + 1, 1, none⟩ = false := frozen_row B1 _
      have c12 : V5.cell? ⟨w.heap.size + 1, 2, none⟩ = some (.int .i64 0) := by rw [cell_of_row _ _ _ _ _ _ B1]; rfl
      have f12 : V5.frozen? ⟨w.heap.size + 1, 2, none⟩ = false := frozen_row B1 _
      have c13 : V5.cell? ⟨w.heap.size + 1, 3, none⟩ = some (.int .i64 0) := by rw [cell_of_row _ _ _ _ _ _ B1]; rfl
      have f13 : V5.frozen? ⟨w.heap.size + 1, 3, none⟩ = false := frozen_row B1 _
      have c14 : V5.cell? ⟨w.heap.size + 1, 4, none⟩ = some (.int .i64 0) := by rw [cell_of_row _ _ _ _ _ _ B1]; rfl
      have f14 : V5.frozen? ⟨w.heap.size + 1, 4, none⟩ = false := frozen_row B1 _
      have c15 : V5.cell? ⟨w.heap.size + 1, 5, none⟩ = some (.int .i64 0) := by rw [cell_of_row _ _ _ _ _ _ B1]; rfl
      have f15 : V5.frozen? ⟨w.heap.size + 1, 5, none⟩ = false := frozen_row B1 _
      have c16 : V5.cell? ⟨w.heap.size + 1, 6, none⟩ = some (.int .i64 0) := by rw [cell_of_row _ _ _ _ _ _ B1]; rfl
      have f16 : V5.frozen? ⟨w.heap.size + 1, 6, none⟩ = false := frozen_row B1 _
      have HB := hide (And.intro B0 (And.intro B1 B2))
      have HR9 := hide hR
      have HE9 := hide hEV
      have HS9 := hide hS4
      clear B0 B1 B2 hR hEV hS4
      refine wpTail_keep (fun KK hKK => ?_)
      go_wp2_with fail
      obtain ⟨B0, B1, B2⟩ := HB.out
      have hR := HR9.out
      have hEV := HE9.out
      have hS4 := HS9.out
      obtain ⟨V6, hV9⟩ : ∃ V6, (((((((V5.setCell ⟨w.heap.size + 1, 0, none⟩ (.int .i64 2)).setCell ⟨w.heap.size + 1, 1, none⟩ (.int .i64 1)).setCell ⟨w.heap.size + 1, 2, none⟩ (.int .i64 2)).setCell ⟨w.heap.size + 1, 3, none⟩ (.int .i64 0)).setCell ⟨w.heap.size + 1, 4, none⟩ (.int .i64 0)).setCell ⟨w.heap.size + 1, 5, none⟩ (.int .i64 0)).setCell ⟨w.heap.size + 1, 6, none⟩ (.int .i64 0)) = V6 := ⟨_, rfl⟩
      have hR : ExRep w.heap.size V6 g g0 g1 g2 := by rw [← hV9]; exact (ExRep.set (ExRep.set (ExRep.set (ExRep.set (ExRep.set (ExRep.set (ExRep.set hR (a := ⟨w.heap.size + 1, 0, none⟩) _ (by simp)) (a := ⟨w.heap.size + 1, 1, none⟩) _ (by simp)) (a := ⟨w.heap.size + 1, 2, none⟩) _ (by simp)) (a := ⟨w.heap.size + 1, 3, none⟩) _ (by simp)) (a := ⟨w.heap.size + 1, 4, none⟩) _ (by simp)) (a := ⟨w.heap.size + 1, 5, none⟩) _ (by simp)) (a := ⟨w.heap.size + 1, 6, none⟩) _ (by simp))
      have hEV : Ext w V6 := by rw [← hV9]; exact (Ext.setCell (Ext.setCell (Ext.setCell (Ext.setCell (Ext.setCell (Ext.setCell (Ext.setCell hEV (p := ⟨w.heap.size + 1, 0, none⟩) (by simp) _) (p := ⟨w.heap.size + 1, 1, none⟩) (by simp) _) (p := ⟨w.heap.size + 1, 2, none⟩) (by simp) _) (p := ⟨w.heap.size + 1, 3, none⟩) (by simp) _) (p := ⟨w.heap.size + 1, 4, none⟩) (by simp) _) (p := ⟨w.heap.size + 1, 5, none⟩) (by simp) _) (p := ⟨w.heap.size + 1, 6, none⟩) (by simp) _)
      have hS4 : ES w.heap.size V6 := by rw [← hV9]; exact (ES.set (ES.set (ES.set (ES.set (ES.set (ES.set (ES.set hS4 (a := ⟨w.heap.size + 1, 0, none⟩) _ (by simp)) (a := ⟨w.heap.size + 1, 1, none⟩) _ (by simp)) (a := ⟨w.heap.size + 1, 2, none⟩) _ (by simp)) (a := ⟨w.heap.size + 1, 3, none⟩) _ (by simp)) (a := ⟨w.heap.size + 1, 4, none⟩) _ (by simp)) (a := ⟨w.heap.size + 1, 5, none⟩) _ (by simp)) (a := ⟨w.heap.size + 1, 6, none⟩) _ (by simp))
      have B0 : V6.heap[w.heap.size]? = some (.cells #[.int .i64 2, .slice (some ⟨g, 0, none⟩) 3 3] 24 (0, 0)) := by rw [← hV9, Below.heap_setCell _ _ _ _ (by simp), Below.heap_setCell _ _ _ _ (by simp), Below.heap_setCell _ _ _ _ (by simp), Below.heap_setCell _ _ _ _ (by simp), Below.heap_setCell _ _ _ _ (by simp), Below.heap_setCell _ _ _ _ (by simp), Below.heap_setCell _ _ _ _ (by simp)]; exact B0
      have B1 : V6.heap[w.heap.size + 1]? = some (.cells #[.int .i64 2, .int .i64 1, .int .i64 2, .int .i64 0, .int .i64 0, .int .i64 0, .int .i64 0] 67 (0, 0)) := by rw [← hV9, row_set (row_set (row_set (row_set (row_set (row_set (row_set B1 0 _) 1 _) 2 _) 3 _) 4 _) 5 _) 6 _]; rfl
      have B2 : V6.heap[w.heap.size + 2]? = some (.cells #[.int .i64 0, .int .i64 0, .int .i64 0, .int .i64 0, .int .i64 0, .int .i64 0, .int .i64 0] 67 (0, 0)) := by rw [← hV9, Below.heap_setCell _ _ _ _ (by simp), Below.heap_setCell _ _ _ _ (by simp), Below.heap_setCell _ _ _ _ (by simp), Below.heap_setCell _ _ _ _ (by simp), Below.heap_setCell _ _ _ _ (by simp), Below.heap_setCell _ _ _ _ (by simp), Below.heap_setCell _ _ _ _ (by simp)]; exact B2
      rw [hV9]
      clear hV9 HB HR9 HE9 HS9 c10 f10 c11 f11 c12 f12 c13 f13 c14 f14 c15 f15 c16 f16 l1
      refine ⟨rfl, hKK _ _ hS4 ?_⟩
      clear hKK KK
      have l2 : w.heap.size + 2 < V6.heap.size := lt_of_heap B2
      have c20 : V6.cell? ⟨w.heap.size + 2, 0, none⟩ = some (.int .i64 0) := by rw [cell_of_row _ _ _ _ _ _ B2]; rfl
      have f20 : V6.frozen? ⟨w.heap.size + 2, 0, none⟩ = false := frozen_row B2 _
      have c21 : V6.cell? ⟨w.heap.size + 2, 1, none⟩ = some (.int .i64 0) := by rw [cell_of_row _ _ _ _ _ _ B2]; rfl
      have f21 : V6.frozen? ⟨w.heap.size + 2, 1, none⟩ = false := frozen_row B2 _
      have c22 : V6.cell? ⟨w.heap.size + 2, 2, none⟩ = some (.int .i64 0) := by rw [cell_of_row _ _ _ _ _ _ B2]; rfl
      have f22 : V6.frozen? ⟨w.heap.size + 2, 2, none⟩ = false := frozen_row B2 _
      have c23 : V6.cell? ⟨w.heap.size + 2, 3, none⟩ = some (.int .i64 0) := by rw [cell_of_row _ _ _ _ _ _ B2]; rfl
      have f23 : V6.frozen? ⟨w.heap.size + 2, 3, none⟩ = false := frozen_row B2 _
      have c24 : V6.cell? ⟨w.heap.size + 2, 4, none⟩ = some (.int .i64 0) := by rw [cell_of_row _ _ _ _ _ _ B2]; rfl
      have f24 : V6.frozen? ⟨w.heap.size + 2, 4, none⟩ = false := frozen_row B2 _
      have c25 : V6.cell? ⟨w.heap.size + 2, 5, none⟩ = some (.int .i64 0) := by rw [cell_of_row _ _ _ _ _ _ B2]; rfl
      have f25 : V6.frozen? ⟨w.heap.size + 2, 5, none⟩ = false := frozen_row B2 _
      have c26 : V6.cell? ⟨w.heap.size + 2, 6, none⟩ = some (.int .i64 0) := by rw [cell_of_row _ _ _ _ _ _ B2]; rfl
      have f26 : V6.frozen? ⟨w.heap.size + 2, 6, none⟩ = false := frozen_row B2 _
      have HB := hide (And.intro B0 (And.intro B1 B2))
      have HR9 := hide hR
      have HE9 := hide hEV
      have HS9 := hide hS4
      clear B0 B1 B2 hR hEV hS4
      refine wpTail_keep (fun KK hKK => ?_)
      go_wp2_with fail
      obtain ⟨B0, B1, B2⟩ := HB.out
      have hR := HR9.out
      have hEV := HE9.out
      have hS4 := HS9.out
      obtain ⟨V7, hV9⟩ : ∃ V7, (((((((V6.setCell ⟨w.heap.size + 2, 0, none⟩ (.int .i64 2)).setCell ⟨w.heap.size + 2, 1, none⟩ (.int .i64 3)).setCell ⟨w.heap.size + 2, 2, none⟩ (.int .i64 3)).setCell ⟨w.heap.size + 2, 3, none⟩ (.int .i64 0)).setCell ⟨w.heap.size + 2, 4, none⟩ (.int .i64 0)).setCell ⟨w.heap.size + 2, 5, none⟩ (.int .i64 0)).setCell ⟨w.heap.size + 2, 6, none⟩ (.int .i64 0)) = V7 := ⟨_, rfl⟩
      have hR : ExRep w.heap.size V7 g g0 g1 g2 := by rw [← hV9]; exact (ExRep.set (ExRep.set (ExRep.set (ExRep.set (ExRep.set (ExRep.set (ExRep.set hR (a := ⟨w.heap.size + 2, 0, none⟩) _ (by simp)) (a := ⟨w.heap.size + 2, 1, none⟩) _ (by simp)) (a := ⟨w.heap.size + 2, 2, none⟩) _ (by simp)) (a := ⟨w.heap.size + 2, 3, none⟩) _ (by simp)) (a := ⟨w.heap.size + 2, 4, none⟩) _ (by simp)) (a := ⟨w.heap.size + 2, 5, none⟩) _ (by simp)) (a := ⟨w.heap.size + 2, 6, none⟩) _ (by simp))
      have hEV : Ext w V7 := by rw [← hV9]; exact (Ext.setCell (Ext.setCell (Ext.setCell (Ext.setCell (Ext.setCell (Ext.setCell (Ext.setCell hEV (p := ⟨w.heap.size + 2, 0, none⟩) (by simp) _) (p := ⟨w.heap.size + 2, 1, none⟩) (by simp) _) (p := ⟨w.heap.size + 2, 2, none⟩) (by simp) _) (p := ⟨w.heap.size + 2, 3, none⟩) (by simp) _) (p := ⟨w.heap.size + 2, 4, none⟩) (by simp) _) (p := ⟨w.heap.size + 2, 5, none⟩) (by simp) _) (p := ⟨w.heap.size + 2, 6, none⟩) (by simp) _)
      have hS4 : ES w.heap.size V7 := by rw [← hV9]; exact (ES.set (ES.set (ES.set (ES.set (ES.set (ES.set (ES.set hS4 (a := ⟨w.heap.size + 2, 0, none⟩) _ (by simp)) (a := ⟨w.heap.size + 2, 1, none⟩) _ (by simp)) (a := ⟨w.heap.size + 2, 2, none⟩) _ (by simp)) (a := ⟨w.heap.size + 2, 3, none⟩) _ (by simp)) (a := ⟨w.heap.size + 2, 4, none⟩) _ (by simp)) (a := ⟨w.heap.size + 2, 5, none⟩) _ (by simp)) (a := ⟨w.heap.size + 2, 6, none⟩) _ (by simp))
      have B0 : V7.heap[w.heap.size]? = some (.cells #[.int .i64 2, .slice (some ⟨g, 0, none⟩) 3 3] 24 (0, 0)) := by rw [← hV9, Below.heap_setCell _ _ _ _ (by simp), Below.heap_setCell _ _ _ _ (by simp), Below.heap_setCell _ _ _ _ (by simp), Below.heap_setCell _ _ _ _ (by simp), Below.heap_setCell _ _ _ _ (by simp), Below.heap_setCell _ _ _ _ (by simp), Below.heap_setCell _ _ _ _ (by simp)]; exact B0
      have B1 : V7.heap[w.heap.size + 1]? = some (.cells #[.int .i64 2, .int .i64 1, .int .i64 2, .int .i64 0, .int .i64 0, .int .i64 0, .int .i64 0] 67 (0, 0)) := by rw [← hV9, Below.heap_setCell _ _ _ _ (by simp), Below.heap_setCell _ _ _ _ (by simp), Below.heap_setCell _ _ _ _ (by simp), Below.heap_setCell _ _ _ _ (by simp), Below.heap_setCell _ _ _ _ (by simp), Below.heap_setCell _ _ _ _ (by simp), Below.heap_setCell _ _ _ _ (by simp)]; exact B1
      have B2 : V7.heap[w.heap.size + 2]? = some (.cells #[.int .i64 2, .int .i64 3, .int .i64 3, .int .i64 0, .int .i64 0, .int .i64 0, .int .i64 0] 67 (0, 0)) := by rw [← hV9, row_set (row_set (row_set (row_set (row_set (row_set (row_set B2 0 _) 1 _) 2 _) 3 _) 4 _) 5 _) 6 _]; rfl
      rw [hV9]
      clear hV9 HB HR9 HE9 HS9 c20 f20 c21 f21 c22 f22 c23 f23 c24 f24 c25 f25 c26 f26 l2
      refine ⟨rfl, hKK _ _ hS4 ?_⟩
      clear hKK KK
      refine wpTail_nil ?_
      have m0 : w.heap.size < V7.heap.size := lt_of_heap B0
      have c00 : V7.cell? ⟨w.heap.size, 0, none⟩ = some (.int .i64 2) := by rw [cell_of_row _ _ _ _ _ _ B0]; rfl
      have f00 : V7.frozen? ⟨w.heap.size, 0, none⟩ = false := frozen_row B0 _
      have c01 : V7.cell? ⟨w.heap.size, 1, none⟩ = some (.slice (some ⟨g, 0, none⟩) 3 3) := by rw [cell_of_row _ _ _ _ _ _ B0]; rfl
      have f01 : V7.frozen? ⟨w.heap.size, 1, none⟩ = false := frozen_row B0 _
      have m1 : w.heap.size + 1 < V7.heap.size := lt_of_heap B1
      have c10 : V7.cell? ⟨w.heap.size + 1, 0, none⟩ = some (.int .i64 2) := by rw [cell_of_row _ _ _ _ _ _ B1]; rfl
      have f10 : V7.frozen? ⟨w.heap.size + 1, 0, none⟩ = false := frozen_row B1 _
      have c11 : V7.cell? ⟨w.heap.size + 1, 1, none⟩ = some (.int .i64 1) := by rw [cell_of_row _ _ _ _ _ _ B1]; rfl
      have f11 : V7.frozen? ⟨w.heap.size + 1, 1, none⟩ = false := frozen_row B1 _
      have c12 : V7.cell? ⟨w.heap.size + 1, 2, none⟩ = some (.int .i64 2) := by rw [cell_of_row _ _ _ _ _ _ B1]; rfl
      have f12 : V7.frozen? ⟨w.heap.size + 1, 2, none⟩ = false := frozen_row B1 _
      have c13 : V7.cell? ⟨w.heap.size + 1, 3, none⟩ = some (.int .i64 0) := by rw [cell_of_row _ _ _ _ _ _ B1]; rfl
      have f13 : V7.frozen? ⟨w.heap.size + 1, 3, none⟩ = false := frozen_row B1 _
      have c14 : V7.cell? ⟨w.heap.size + 1, 4, none⟩ = some (.int .i64 0) := by rw [cell_of_row _ _ _ _ _ _ B1]; rfl
      have f14 : V7.frozen? ⟨w.heap.size + 1, 4, none⟩ = false := frozen_row B1 _
      have c15 : V7.cell? ⟨w.heap.size + 1, 5, none⟩ = some (.int .i64 0) := by rw [cell_of_row _ _ _ _ _ _ B1]; rfl
      have f15 : V7.frozen? ⟨w.heap.size + 1, 5, none⟩ = false := frozen_row B1 _
      have c16 : V7.cell? ⟨w.heap.size + 1, 6, none⟩ = some (.int .i64 0) := by rw [cell_of_row _ _ _ _ _ _ B1]; rfl
      have f16 : V7.frozen? ⟨w.heap.size + 1, 6, none⟩ = false := frozen_row B1 _
      have m2 : w.heap.size + 2 < V7.heap.size := lt_of_heap B2
      have c20 : V7.cell? ⟨w.heap.size + 2, 0, none⟩ = some (.int .i64 2) := by rw [cell_of_row _ _ _ _ _ _ B2]; rfl
      have f20 : V7.frozen? ⟨w.heap.size + 2, 0, none⟩ = false := frozen_row B2 _
      have c21 : V7.cell? ⟨w.heap.size + 2, 1, none⟩ = some (.int .i64 3) := by rw [cell_of_row _ _ _ _ _ _ B2]; rfl
      have f21 : V7.frozen? ⟨w.heap.size + 2, 1, none⟩ = false := frozen_row B2 _
      have c22 : V7.cell? ⟨w.heap.size + 2, 2, none⟩ = some (.int .i64 3) := by rw [cell_of_row _ _ _ _ _ _ B2]; rfl
      have f22 : V7.frozen? ⟨w.heap.size + 2, 2, none⟩ = false := frozen_row B2 _
      have c23 : V7.cell? ⟨w.heap.size + 2, 3, none⟩ = some (.int .i64 0) := by rw [cell_of_row _ _ _ _ _ _ B2]; rfl
      have f23 : V7.frozen? ⟨w.heap.size + 2, 3, none⟩ = false := frozen_row B2 _
      have c24 : V7.cell? ⟨w.heap.size + 2, 4, none⟩ = some (.int .i64 0) := by rw [cell_of_row _ _ _ _ _ _ B2]; rfl
      have f24 : V7.frozen? ⟨w.heap.size + 2, 4, none⟩ = false := frozen_row B2 _
      have c25 : V7.cell? ⟨w.heap.size + 2, 5, none⟩ = some (.int .i64 0) := by rw [cell_of_row _ _ _ _ _ _ B2]; rfl
      have f25 : V7.frozen? ⟨w.heap.size + 2, 5, none⟩ = false := frozen_row B2 _
      have c26 : V7.cell? ⟨w.heap.size + 2, 6, none⟩ = some (.int .i64 0) := by rw [cell_of_row _ _ _ _ _ _ B2]; rfl
      have f26 : V7.frozen? ⟨w.heap.size + 2, 6, none⟩ = false := frozen_row B2 _
      have HR9 := hide hR
      have HE9 := hide hEV
      clear B0 B1 B2 hR hEV hS4
      go_wp2_with fail
      exact bodyPost_ret (v := .tuple #[.agg #[.int .i64 2, .slice (some ⟨g, 0, none⟩) 3 3], exS.v, exC.v]) (by simp [results, Try.f43, go_sem, exS, exC, c00, c01, c10, c11, c12, c13, c14, c15, c16, c20, c21, c22, c23, c24, c25, c26]) rfl ⟨g, g0, g1, g2, rfl, HR9.out, HE9.out⟩
    · refine op_newRow (n := 1) (cs := #[.int .i64 2, .int .i64 3, .int .i64 3, .int .i64 0, .int .i64 0, .int .i64 0, .int .i64 0, .int .i64 1]) (e := 69) rfl rfl (by go_simp) ?_
      intro V2 g1 hE2 hr1 hg1
      have hS2 := hS1.ext hE2
      refine ⟨hS2, ?_⟩
      simp only [Act.put, List.setIfInBounds_toArray, List.set_cons_zero, List.set_cons_succ]
      refine wpAnyT_all (rs := [4]) (by kernel_rfl) (by simp) ?_
      intro i hi
      simp only [List.mem_singleton] at hi
      subst hi
      refine op_newRow (n := 2) (cs := #[.int .i64 2, .int .i64 1, .int .i64 2, .int .i64 0, .int .i64 0, .int .i64 0, .int .i64 0, .int .i64 1, .int .i64 2, .int .i64 3, .int .i64 3, .int .i64 0, .int .i64 0, .int .i64 0, .int .i64 0, .int .i64 0]) (e := 69) rfl rfl (by go_simp) ?_
      intro V3 g0 hE3 hr0 hg0
      have hS3 := hS2.ext hE3
      refine ⟨hS3, ?_⟩
      simp only [Act.put, List.setIfInBounds_toArray, List.set_cons_zero, List.set_cons_succ]
      have hR2 := ((hE3.b.block _ (lt_of_heap ((hE2.b.block _ (lt_of_heap hr2)).trans hr2))).trans ((hE2.b.block _ (lt_of_heap hr2)).trans hr2))
      have hR1 := ((hE3.b.block _ (lt_of_heap hr1)).trans hr1)
      have hR0 := hr0
      have hEE : Ext V V3 := (hE1.trans hE2).trans hE3
      refine wpAnyT_all (rs := [11]) (by kernel_rfl) (by simp) ?_
      intro i hi
      simp only [List.mem_singleton] at hi
      subst hi
      refine op_newRow (n := 3) (cs := #[.slice (some ⟨g0, 0, none⟩) 2 2, .slice (some ⟨g1, 0, none⟩) 1 1, .slice (some ⟨g2, 0, none⟩) 1 1]) (e := 62) rfl rfl (by go_simp) ?_
      intro V4 g hE4 hr hg
      have hS4 := hS3.ext hE4
      refine ⟨hS4, ?_⟩
      simp only [Act.put, List.setIfInBounds_toArray, List.set_cons_zero, List.set_cons_succ]
      refine wpAnyT_take (i := 12) (.agg #[.int .i64 2, .slice (some ⟨g, 0, none⟩) 3 3]) rfl (by kernel_rfl) (by kernel_rfl) (by kernel_rfl) (by simp [Region.wanted]) (fun V hV => by go_simp) hS4 ?_
      simp only [Act.put, List.setIfInBounds_toArray, List.set_cons_zero, List.set_cons_succ]
      refine wpAnyT_rest 15 (by simp) (by kernel_rfl) ?_
      simp only [List.drop_succ_cons, List.drop_zero]
      have hx0 := hEE.trans hE4
      have hR : ExRep w.heap.size V4 g g0 g1 g2 := by
        have a0 := lt_of_heap hR0
        have a1 := lt_of_heap hR1
        have a2 := lt_of_heap hR2
        have z1 := hE.size
        have z2 := hEE.size
        have z3 := hS.lt
        have z4 := hE1.size
        have z5 := hE2.size
        have z6 := hE3.size
        refine ⟨by omega, by omega, by omega, by omega, by omega, by omega, by omega, hr, (hE4.b.block _ a0).trans hR0, (hE4.b.block _ a1).trans hR1, (hE4.b.block _ a2).trans hR2⟩
      have hgV : V.heap.size ≤ g := by have := hEE.size; omega
      have B0 := (hx0.b.block _ (lt_of_heap HB0.out)).trans HB0.out
      have B1 := (hx0.b.block _ (lt_of_heap HB1.out)).trans HB1.out
      have B2 := (hx0.b.block _ (lt_of_heap HB2.out)).trans HB2.out
      have hEV := hE.trans hx0
      clear hg hg0 hg1 hg2 hr hR0 hR1 hR2 hgV hr0 hr1 hr2
      have l0 : w.heap.size < V4.heap.size := lt_of_heap B0
      have c00 : V4.cell? ⟨w.heap.size, 0, none⟩ = some (.int .i64 0) := by rw [cell_of_row _ _ _ _ _ _ B0]; rfl
      have f00 : V4.frozen? ⟨w.heap.size, 0, none⟩ = false := frozen_row B0 _
      have c01 : V4.cell? ⟨w.heap.size, 1, none⟩ = some (.slice none 0 0) := by rw [cell_of_row _ _ _ _ _ _ B0]; rfl
      have f01 : V4.frozen? ⟨w.heap.size, 1, none⟩ = false := frozen_row B0 _
      have HB := hide (And.intro B0 (And.intro B1 B2))
      have HR9 := hide hR
      have HE9 := hide hEV
      have HS9 := hide hS4
      clear B0 B1 B2 hR hEV hS4
      refine wpTail_keep (fun KK hKK => ?_)
      go_wp2_with fail
      obtain ⟨B0, B1, B2⟩ := HB.out
      have hR := HR9.out
      have hEV := HE9.out
      have hS4 := HS9.out
      obtain ⟨V5, hV9⟩ : ∃ V5, ((V4.setCell ⟨w.heap.size, 0, none⟩ (.int .i64 2)).setCell ⟨w.heap.size, 1, none⟩ (.slice (some ⟨g, 0, none⟩) 3 3)) = V5 := ⟨_, rfl⟩
      have hR : ExRep w.heap.size V5 g g0 g1 g2 := by rw [← hV9]; exact (ExRep.set (ExRep.set hR (a := ⟨w.heap.size, 0, none⟩) _ (by simp)) (a := ⟨w.heap.size, 1, none⟩) _ (by simp))
      have hEV : Ext w V5 := by rw [← hV9]; exact (Ext.setCell (Ext.setCell hEV (p := ⟨w.heap.size, 0, none⟩) (by simp) _) (p := ⟨w.heap.size, 1, none⟩) (by simp) _)
      have hS4 : ES w.heap.size V5 := by rw [← hV9]; exact (ES.set (ES.set hS4 (a := ⟨w.heap.size, 0, none⟩) _ (by simp)) (a := ⟨w.heap.size, 1, none⟩) _ (by simp))
      have B0 : V5.heap[w.heap.size]? = some (.cells #[.int .i64 2, .slice (some ⟨g, 0, none⟩) 3 3] 24 (0, 0)) := by rw [← hV9, row_set (row_set B0 0 _) 1 _]; rfl
      have B1 : V5.heap[w.heap.size + 1]? = some (.cells #[.int .i64 0, .int .i64 0, .int .i64 0, .int .i64 0, .int .i64 0, .int .i64 0, .int .i64 0] 67 (0, 0)) := by rw [← hV9, Below.heap_setCell _ _ _ _ (by simp), Below.heap_setCell _ _ _ _ (by simp)]; exact B1
      have B2 : V5.heap[w.heap.size + 2]? = some (.cells #[.int .i64 0, .int .i64 0, .int .i64 0, .int .i64 0, .int .i64 0, .int .i64 0, .int .i64 0] 67 (0, 0)) := by rw [← hV9, Below.heap_setCell _ _ _ _ (by simp), Below.heap_setCell _ _ _ _ (by simp)]; exact B2
      rw [hV9]
      clear hV9 HB HR9 HE9 HS9 c00 f00 c01 f01 l0
      refine ⟨rfl, hKK _ _ hS4 ?_⟩
      clear hKK KK
      have l1 : w.heap.size + 1 < V5.heap.size := lt_of_heap B1
      have c10 : V5.cell? ⟨w.heap.size + 1, 0, none⟩ = some (.int .i64 0) := by rw [cell_of_row _ _ _ _ _ _ B1]; rfl
      have f10 : V5.frozen? ⟨w.heap.size + 1, 0, none⟩ = false := frozen_row B1 _
      have c11 : V5.cell? ⟨w.heap.size + 1, 1, none⟩ = some (.int .i64 0) := by rw [cell_of_row _ _ _ _ _ _ B1]; rfl
      have f11 : V5.frozen? ⟨w.heap.size + 1, 1, none⟩ = false := frozen_row B1 _
      have c12 : V5.cell? ⟨w.heap.size + 1, 2, none⟩ = some (.int .i64 0) := by rw [cell_of_row _ _ _ _ _ _ B1]; rfl
      have f12 : V5.frozen? ⟨w.heap.size + 1, 2, none⟩ = false := frozen_row B1 _
      have c13 : V5.cell? ⟨w.heap.size + 1, 3, none⟩ = some (.int .i64 0) := by rw [cell_of_row _ _ _ _ _ _ B1]; rfl
      have f13 : V5.frozen? ⟨w.heap.size + 1, 3, none⟩ = false := frozen_row B1 _
      have c14 : V5.cell? ⟨w.heap.size + 1, 4, none⟩ = some (.int .i64 0) := by rw [cell_of_row _ _ _ _ _ _ B1]; rfl
      have f14 : V5.frozen? ⟨w.heap.size + 1, 4, none⟩ = false := frozen_row B1 _
      have c15 : V5.cell? ⟨w.heap.size + 1, 5, none⟩ = some (.int .i64 0) := by rw [cell_of_row _ _ _ _ _ _ B1]; rfl
      have f15 : V5.frozen? ⟨w.heap.size + 1, 5, none⟩ = false := frozen_row B1 _
      have c16 : V5.cell? ⟨w.heap.size + 1, 6, none⟩ = some (.int .i64 0) := by rw [cell_of_row _ _ _ _ _ _ B1]; rfl
      have f16 : V5.frozen? ⟨w.heap.size + 1, 6, none⟩ = false := frozen_row B1 _
      have HB := hide (And.intro B0 (And.intro B1 B2))
      have HR9 := hide hR
      have HE9 := hide hEV
      have HS9 := hide hS4
      clear B0 B1 B2 hR hEV hS4
      refine wpTail_keep (fun KK hKK => ?_)
      go_wp2_with fail
      obtain ⟨B0, B1, B2⟩ := HB.out
      have hR := HR9.out
      have hEV := HE9.out
      have hS4 := HS9.out
      obtain ⟨V6, hV9⟩ : ∃ V6, (((((((V5.setCell ⟨w.heap.size + 1, 0, none⟩ (.int .i64 2)).setCell ⟨w.heap.size + 1, 1, none⟩ (.int .i64 1)).setCell ⟨w.heap.size + 1, 2, none⟩ (.int .i64 2)).setCell ⟨w.heap.size + 1, 3, none⟩ (.int .i64 0)).setCell ⟨w.heap.size + 1, 4, none⟩ (.int .i64 0)).setCell ⟨w.heap.size + 1, 5, none⟩ (.int .i64 0)).setCell ⟨w.heap.size + 1, 6, none⟩ (.int .i64 0)) = V6 := ⟨_, rfl⟩
      have hR : ExRep w.heap.size V6 g g0 g1 g2 := by rw [← hV9]; exact (ExRep.set (ExRep.set (ExRep.set (ExRep.set (ExRep.set (ExRep.set (ExRep.set hR (a := ⟨w.heap.size + 1, 0, none⟩) _ (by simp)) (a := ⟨w.heap.size + 1, 1, none⟩) _ (by simp)) (a := ⟨w.heap.size + 1, 2, none⟩) _ (by simp)) (a := ⟨w.heap.size + 1, 3, none⟩) _ (by simp)) (a := ⟨w.heap.size + 1, 4, none⟩) _ (by simp)) (a := ⟨w.heap.size + 1, 5, none⟩) _ (by simp)) (a := ⟨w.heap.size + 1, 6, none⟩) _ (by simp))
      have hEV : Ext w V6 := by rw [← hV9]; exact (Ext.setCell (Ext.setCell (Ext.setCell (Ext.setCell (Ext.setCell (Ext.setCell (Ext.setCell hEV (p := ⟨w.heap.size + 1, 0, none⟩) (by simp) _) (p := ⟨w.heap.size + 1, 1, none⟩) (by simp) _) (p := ⟨w.heap.size + 1, 2, none⟩) (by simp) _) (p := ⟨w.heap.size + 1, 3, none⟩) (by simp) _) (p := ⟨w.heap.size + 1, 4, none⟩) (by simp) _) (p := ⟨w.heap.size + 1, 5, none⟩) (by simp) _) (p := ⟨w.heap.size + 1, 6, none⟩) (by simp) _)
      have hS4 : ES w.heap.size V6 := by rw [← hV9]; exact (ES.set (ES.set (ES.set (ES.set (ES.set (ES.set (ES.set hS4 (a := ⟨w.heap.size + 1, 0, none⟩) _ (by simp)) (a := ⟨w.heap.size + 1, 1, none⟩) _ (by simp)) (a := ⟨w.heap.size + 1, 2, none⟩) _ (by simp)) (a := ⟨w.heap.size + 1, 3, none⟩) _ (by simp)) (a := ⟨w.heap.size + 1, 4, none⟩) _ (by simp)) (a := ⟨w.heap.size + 1, 5, none⟩) _ (by simp)) (a := ⟨w.heap.size + 1, 6, none⟩) _ (by simp))
      have B0 : V6.heap[w.heap.size]? = some (.cells #[.int .i64 2, .slice (some ⟨g, 0, none⟩) 3 3] 24 (0, 0)) := by rw [← hV9, Below.heap_setCell _ _ _ _ (by simp), Below.heap_setCell _ _ _ _ (by simp), Below.heap_setCell _ _ _ _ (by simp), Below.heap_setCell _ _ _ _ (by simp), Below.heap_setCell _ _ _ _ (by simp), Below.heap_setCell _ _ _ _ (by simp), Below.heap_setCell _ _ _ _ (by simp)]; exact B0
      have B1 : V6.heap[w.heap.size + 1]? = some (.cells #[.int .i64 2, .int .i64 1, .int .i64 2, .int .i64 0, .int .i64 0, .int .i64 0, .int .i64 0] 67 (0, 0)) := by rw [← hV9, row_set (row_set (row_set (row_set (row_set (row_set (row_set B1 0 _) 1 _) 2 _) 3 _) 4 _) 5 _) 6 _]; rfl
      have B2 : V6.heap[w.heap.size + 2]? = some (.cells #[.int .i64 0, .int .i64 0, .int .i64 0, .int .i64 0, .int .i64 0, .int .i64 0, .int .i64 0] 67 (0, 0)) := by rw [← hV9, Below.heap_setCell _ _ _ _ (by simp), Below.heap_setCell _ _ _ _ (by simp), Below.heap_setCell _ _ _ _ (by simp), Below.heap_setCell _ _ _ _ (by simp), Below.heap_setCell _ _ _ _ (by simp), Below.heap_setCell _ _ _ _ (by simp), Below.heap_setCell _ _ _ _ (by simp)]; exact B2
      rw [hV9]
      clear hV9 HB HR9 HE9 HS9 c10 f10 c11 f11 c12 f12 c13 f13 c14 f14 c15 f15 c16 f16 l1
      refine ⟨rfl, hKK _ _ hS4 ?_⟩
      clear hKK KK
      have l2 : w.heap.size + 2 < V6.heap.size := lt_of_heap B2
      have c20 : V6.cell? ⟨w.heap.size + 2, 0, none⟩ = some (.int .i64 0) := by rw [cell_of_row _ _ _ _ _ _ B2]; rfl
      have f20 : V6.frozen? ⟨w.heap.size + 2, 0, none⟩ = false := frozen_row B2 _
      have c21 : V6.cell? ⟨w.heap.size + 2, 1, none⟩ = some (.int .i64 0) := by rw [cell_of_row _ _ _ _ _ _ B2]; rfl
      have f21 : V6.frozen? ⟨w.heap.size + 2, 1, none⟩ = false := frozen_row B2 _
      have c22 : V6.cell? ⟨w.heap.size + 2, 2, none⟩ = some (.int .i64 0) := by rw [cell_of_row _ _ _ _ _ _ B2]; rfl
      have f22 : V6.frozen? ⟨w.heap.size + 2, 2, none⟩ = false := frozen_row B2 _
      have c23 : V6.cell? ⟨w.heap.size + 2, 3, none⟩ = some (.int .i64 0) := by rw [cell_of_row _ _ _ _ _ _ B2]; rfl
      have f23 : V6.frozen? ⟨w.heap.size + 2, 3, none⟩ = false := frozen_row B2 _
      have c24 : V6.cell? ⟨w.heap.size + 2, 4, none⟩ = some (.int .i64 0) := by rw [cell_of_row _ _ _ _ _ _ B2]; rfl
      have f24 : V6.frozen? ⟨w.heap.size + 2, 4, none⟩ = false := frozen_row B2 _
      have c25 : V6.cell? ⟨w.heap.size + 2, 5, none⟩ = some (.int .i64 0) := by rw [cell_of_row _ _ _ _ _ _ B2]; rfl
      have f25 : V6.frozen? ⟨w.heap.size + 2, 5, none⟩ = false := frozen_row B2 _
      have c26 : V6.cell? ⟨w.heap.size + 2, 6, none⟩ = some (.int .i64 0) := by rw [cell_of_row _ _ _ _ _ _ B2]; rfl
      have f26 : V6.frozen? ⟨w.heap.size + 2, 6, none⟩ = false := frozen_row B2 _
      have HB := hide (And.intro B0 (And.intro B1 B2))
      have HR9 := hide hR
      have HE9 := hide hEV
      have HS9 := hide hS4
      clear B0 B1 B2 hR hEV hS4
      refine wpTail_keep (fun KK hKK => ?_)
      go_wp2_with fail
      obtain ⟨B0, B1, B2⟩ := HB.out
      have hR := HR9.out
      have hEV := HE9.out
      have hS4 := HS9.out
      obtain ⟨V7, hV9⟩ : ∃ V7, (((((((V6.setCell ⟨w.heap.size + 2, 0, none⟩ (.int .i64 2)).setCell ⟨w.heap.size + 2, 1, none⟩ (.int .i64 3)).setCell ⟨w.heap.size + 2, 2, none⟩ (.int .i64 3)).setCell ⟨w.heap.size + 2, 3, none⟩ (.int .i64 0)).setCell ⟨w.heap.size + 2, 4, none⟩ (.int .i64 0)).setCell ⟨w.heap.size + 2, 5, none⟩ (.int .i64 0)).setCell ⟨w.heap.size + 2, 6, none⟩ (.int .i64 0)) = V7 := ⟨_, rfl⟩
      have hR : ExRep w.heap.size V7 g g0 g1 g2 := by rw [← hV9]; exact (ExRep.set (ExRep.set (ExRep.set (ExRep.set (ExRep.set (ExRep.set (ExRep.set hR (a := ⟨w.heap.size + 2, 0, none⟩) _ (by simp)) (a := ⟨w.heap.size + 2, 1, none⟩) _ (by simp)) (a := ⟨w.heap.size + 2, 2, none⟩) _ (by simp)) (a := ⟨w.heap.size + 2, 3, none⟩) _ (by simp)) (a := ⟨w.heap.size + 2, 4, none⟩) _ (by simp)) (a := ⟨w.heap.size + 2, 5, none⟩) _ (by simp)) (a := ⟨w.heap.size + 2, 6, none⟩) _ (by simp))
      have hEV : Ext w V7 := by rw [← hV9]; exact (Ext.setCell (Ext.setCell (Ext.setCell (Ext.setCell (Ext.setCell (Ext.setCell (Ext.setCell hEV (p := ⟨w.heap.size + 2, 0, none⟩) (by simp) _) (p := ⟨w.heap.size + 2, 1, none⟩) (by simp) _) (p := ⟨w.heap.size + 2, 2, none⟩) (by simp) _) (p := ⟨w.heap.size + 2, 3, none⟩) (by simp) _) (p := ⟨w.heap.size + 2, 4, none⟩) (by simp) _) (p := ⟨w.heap.size + 2, 5, none⟩) (by simp) _) (p := ⟨w.heap.size + 2, 6, none⟩) (by simp) _)
      have hS4 : ES w.heap.size V7 := by rw [← hV9]; exact (ES.set (ES.set (ES.set (ES.set (ES.set (ES.set (ES.set hS4 (a := ⟨w.heap.size + 2, 0, none⟩) _ (by simp)) (a := ⟨w.heap.size + 2, 1, none⟩) _ (by simp)) (a := ⟨w.heap.size + 2, 2, none⟩) _ (by simp)) (a := ⟨w.heap.size + 2, 3, none⟩) _ (by simp)) (a := ⟨w.heap.size + 2, 4, none⟩) _ (by simp)) (a := ⟨w.heap.size + 2, 5, none⟩) _ (by simp)) (a := ⟨w.heap.size + 2, 6, none⟩) _ (by simp))
      have B0 : V7.heap[w.heap.size]? = some (.cells #[.int .i64 2, .slice (some ⟨g, 0, none⟩) 3 3] 24 (0, 0)) := by rw [← hV9, Below.heap_setCell _ _ _ _ (by simp), Below.heap_setCell _ _ _ _ (by simp), Below.heap_setCell _ _ _ _ (by simp), Below.heap_setCell _ _ _ _ (by simp), Below.heap_setCell _ _ _ _ (by simp), Below.heap_setCell _ _ _ _ (by simp), Below.heap_setCell _ _ _ _ (by simp)]; exact B0
      have B1 : V7.heap[w.heap.size + 1]? = some (.cells #[.int .i64 2, .int .i64 1, .int .i64 2, .int .i64 0, .int .i64 0, .int .i64 0, .int .i64 0] 67 (0, 0)) := by rw [← hV9, Below.heap_setCell _ _ _ _ (by simp), Below.heap_setCell _ _ _ _ (by simp), Below.heap_setCell _ _ _ _ (by simp), Below.heap_setCell _ _ _ _ (by simp), Below.heap_setCell _ _ _ _ (by simp), Below.heap_setCell _ _ _ _ (by simp), Below.heap_setCell _ _ _ _ (by simp)]; exact B1
      have B2 : V7.heap[w.heap.size + 2]? = some (.cells #[.int .i64 2, .int .i64 3, .int .i64 3, .int .i64 0, .int .i64 0, .int .i64 0, .int .i64 0] 67 (0, 0)) := by rw [← hV9, row_set (row_set (row_set (row_set (row_set (row_set (row_set B2 0 _) 1 _) 2 _) 3 _) 4 _) 5 _) 6 _]; rfl
      rw [hV9]
      clear hV9 HB HR9 HE9 HS9 c20 f20 c21 f21 c22 f22 c23 f23 c24 f24 c25 f25 c26 f26 l2
      refine ⟨rfl, hKK _ _ hS4 ?_⟩
      clear hKK KK
      refine wpTail_nil ?_
      have m0 : w.heap.size < V7.heap.size := lt_of_heap B0
      have c00 : V7.cell? ⟨w.heap.size, 0, none⟩ = some (.int .i64 2) := by rw [cell_of_row _ _ _ _ _ _ B0]; rfl
      have f00 : V7.frozen? ⟨w.heap.size, 0, none⟩ = false := frozen_row B0 _
      have c01 : V7.cell? ⟨w.heap.size, 1, none⟩ = some (.slice (some ⟨g, 0, none⟩) 3 3) := by rw [cell_of_row _ _ _ _ _ _ B0]; rfl
      have f01 : V7.frozen? ⟨w.heap.size, 1, none⟩ = false := frozen_row B0 _
      have m1 : w.heap.size + 1 < V7.heap.size := lt_of_heap B1
      have c10 : V7.cell? ⟨w.heap.size + 1, 0, none⟩ = some (.int .i64 2) := by rw [cell_of_row _ _ _ _ _ _ B1]; rfl
      have f10 : V7.frozen? ⟨w.heap.size + 1, 0, none⟩ = false := frozen_row B1 _
      have c11 : V7.cell? ⟨w.heap.size + 1, 1, none⟩ = some (.int .i64 1) := by rw [cell_of_row _ _ _ _ _ _ B1]; rfl
      have f11 : V7.frozen? ⟨w.heap.size + 1, 1, none⟩ = false := frozen_row B1 _
      have c12 : V7.cell? ⟨w.heap.size + 1, 2, none⟩ = some (.int .i64 2) := by rw [cell_of_row _ _ _ _ _ _ B1]; rfl
      have f12 : V7.frozen? ⟨w.heap.size + 1, 2, none⟩ = false := frozen_row B1 _
      have c13 : V7.cell? ⟨w.heap.size + 1, 3, none⟩ = some (.int .i64 0) := by rw [cell_of_row _ _ _ _ _ _ B1]; rfl
      have f13 : V7.frozen? ⟨w.heap.size + 1, 3, none⟩ = false := frozen_row B1 _
      have c14 : V7.cell? ⟨w.heap.size + 1, 4, none⟩ = some (.int .i64 0) := by rw [cell_of_row _ _ _ _ _ _ B1]; rfl
      have f14 : V7.frozen? ⟨w.heap.size + 1, 4, none⟩ = false := frozen_row B1 _
      have c15 : V7.cell? ⟨w.heap.size + 1, 5, none⟩ = some (.int .i64 0) := by rw [cell_of_row _ _ _ _ _ _ B1]; rfl
      have f15 : V7.frozen? ⟨w.heap.size + 1, 5, none⟩ = false := frozen_row B1 _
      have c16 : V7.cell? ⟨w.heap.size + 1, 6, none⟩ = some (.int .i64 0) := by rw [cell_of_row _ _ _ _ _ _ B1]; rfl
      have f16 : V7.frozen? ⟨w.heap.size + 1, 6, none⟩ = false := frozen_row B1 _
      have m2 : w.heap.size + 2 < V7.heap.size := lt_of_heap B2
      have c20 : V7.cell? ⟨w.heap.size + 2, 0, none⟩ = some (.int .i64 2) := by rw [cell_of_row _ _ _ _ _ _ B2]; rfl
      have f20 : V7.frozen? ⟨w.heap.size + 2, 0, none⟩ = false := frozen_row B2 _
      have c21 : V7.cell? ⟨w.heap.size + 2, 1, none⟩ = some (.int .i64 3) := by rw [cell_of_row _ _ _ _ _ _ B2]; rfl
      have f21 : V7.frozen? ⟨w.heap.size + 2, 1, none⟩ = false := frozen_row B2 _
      have c22 : V7.cell? ⟨w.heap.size + 2, 2, none⟩ = some (.int .i64 3) := by rw [cell_of_row _ _ _ _ _ _ B2]; rfl
      have f22 : V7.frozen? ⟨w.heap.size + 2, 2, none⟩ = false := frozen_row B2 _
      have c23 : V7.cell? ⟨w.heap.size + 2, 3, none⟩ = some (.int .i64 0) := by rw [cell_of_row _ _ _ _ _ _ B2]; rfl
      have f23 : V7.frozen? ⟨w.heap.size + 2, 3, none⟩ = false := frozen_row B2 _
      have c24 : V7.cell? ⟨w.heap.size + 2, 4, none⟩ = some (.int .i64 0) := by rw [cell_of_row _ _ _ _ _ _ B2]; rfl
      have f24 : V7.frozen? ⟨w.heap.size + 2, 4, none⟩ = false := frozen_row B2 _
      have c25 : V7.cell? ⟨w.heap.size + 2, 5, none⟩ = some (.int .i64 0) := by rw [cell_of_row _ _ _ _ _ _ B2]; rfl
      have f25 : V7.frozen? ⟨w.heap.size + 2, 5, none⟩ = false := frozen_row B2 _
      have c26 : V7.cell? ⟨w.heap.size + 2, 6, none⟩ = some (.int .i64 0) := by rw [cell_of_row _ _ _ _ _ _ B2]; rfl
      have f26 : V7.frozen? ⟨w.heap.size + 2, 6, none⟩ = false := frozen_row B2 _
      have HR9 := hide hR
      have HE9 := hide hEV
      clear B0 B1 B2 hR hEV hS4
      go_wp2_with fail
      exact bodyPost_ret (v := .tuple #[.agg #[.int .i64 2, .slice (some ⟨g, 0, none⟩) 3 3], exS.v, exC.v]) (by simp [results, Try.f43, go_sem, exS, exC, c00, c01, c10, c11, c12, c13, c14, c15, c16, c20, c21, c22, c23, c24, c25, c26]) rfl ⟨g, g0, g1, g2, rfl, HR9.out, HE9.out⟩

end Go.Proofs.Ytjgkgcjmcpgiaaa
