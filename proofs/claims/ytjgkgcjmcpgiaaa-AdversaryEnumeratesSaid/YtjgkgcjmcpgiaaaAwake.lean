/-
  The law's examples hold (awake).
  Conditions: none.
-/
import Derived.Test.YtjgkgcjmcpgiaaaExFacts
namespace Go.Proofs.Ytjgkgcjmcpgiaaa
open Go.RowKit
attribute [local go_sem] Oper.semAt_some

theorem row_of_cells {α : Type} {enc : α → List Value} {size : Nat} (hs : ∀ x, (enc x).length = size) {W : World} {g : Nat} {e : TypeId} {l : List α} (hg : W.heap[g]? = some (.cells (l.flatMap enc).toArray e (0, 0))) (hl : l.length ≤ 100000) :
    Row enc size W (.slice (some ⟨g, 0, none⟩) l.length l.length) l := by
  refine ⟨_, _, rfl, Nat.le_refl _, by omega, fun _ => ⟨g, 0, rfl, lt_of_heap hg, fun i x hx j u hu => ?_⟩⟩
  have hj : j < size := by
    rcases Nat.lt_or_ge j size with h | h
    · exact h
    · rw [List.getElem?_eq_none (by rw [hs]; exact h)] at hu; cases hu
  rw [Nat.zero_add, cell_of_row _ _ _ _ _ _ hg, List.getElem?_toArray, flat_get hs l i j x hx hj]
  exact hu
theorem rows2_of {α : Type} {enc : α → List Value} {size : Nat} {W : World} {g : Nat} {e : TypeId} {vs : List Value} {xss : List (List α)} (hg : W.heap[g]? = some (.cells vs.toArray e (0, 0))) (hl : vs.length = xss.length) (hl2 : xss.length ≤ 100000)
    (h : ∀ (i : Nat) (v : Value) (xs : List α), vs[i]? = some v → xss[i]? = some xs → Row enc size W v xs) : Rows2 enc size W (.slice (some ⟨g, 0, none⟩) xss.length xss.length) xss := by
  refine ⟨vs, hl, ?_, h⟩
  rw [← hl]
  exact row_of_cells (enc := one) (size := 1) (fun _ => rfl) (by simpa using hg) (by omega)
theorem ExRep.adv {B : Nat} {w : World} {g g0 g1 g2 : Nat} (h : ExRep B w g g0 g1 g2) : AdvRep w (.agg #[.int .i64 2, .slice (some ⟨g, 0, none⟩) 3 3]) exA := by
  obtain ⟨_, _, _, _, _, _, _, h, h0, h1, h2⟩ := h
  refine ⟨_, rfl, rows2_of (xss := exA.st) (vs := [.slice (some ⟨g0, 0, none⟩) 2 2, .slice (some ⟨g1, 0, none⟩) 1 1, .slice (some ⟨g2, 0, none⟩) 1 1]) h rfl (by decide) fun i v xs hv hx => ?_⟩
  obtain rfl | rfl | rfl | hi : i = 0 ∨ i = 1 ∨ i = 2 ∨ 3 ≤ i := by omega
  · simp only [exA, List.getElem?_cons_zero, Option.some.injEq] at hv hx
    subst hv hx
    exact row_of_cells (enc := Mv.cells) (size := 8) (l := [⟨exS, 1⟩, ⟨exC, 0⟩]) (fun _ => rfl) h0 (by decide)
  · simp only [exA, List.getElem?_cons_zero, List.getElem?_cons_succ, Option.some.injEq] at hv hx
    subst hv hx
    exact row_of_cells (enc := Mv.cells) (size := 8) (l := [⟨exC, 1⟩]) (fun _ => rfl) h1 (by decide)
  · simp only [exA, List.getElem?_cons_zero, List.getElem?_cons_succ, Option.some.injEq] at hv hx
    subst hv hx
    exact row_of_cells (enc := Mv.cells) (size := 8) (l := [⟨exS, 0⟩]) (fun _ => rfl) h2 (by decide)
  · rw [List.getElem?_eq_none (by show 3 ≤ i; exact hi)] at hx; cases hx

/-- The law's own variables: the adversary, the two rounds. -/
structure ABox (B g : Nat) (V : World) : Prop where
  b0 : V.heap[B]? = some (.cells #[.int .i64 2, .slice (some ⟨g, 0, none⟩) 3 3] 24 (0, 0))
  b1 : V.heap[B + 1]? = some (.cells #[.int .i64 2, .int .i64 1, .int .i64 2, .int .i64 0, .int .i64 0, .int .i64 0, .int .i64 0] 67 (0, 0))
  b2 : V.heap[B + 2]? = some (.cells #[.int .i64 2, .int .i64 3, .int .i64 3, .int .i64 0, .int .i64 0, .int .i64 0, .int .i64 0] 67 (0, 0))
theorem ABox.lt {B g : Nat} {V : World} (h : ABox B g V) : B + 2 < V.heap.size := lt_of_heap h.b2
theorem ABox.of {B g : Nat} {V V' : World} (h : ABox B g V) (hb : ∀ k, B ≤ k → k ≤ B + 2 → V'.heap[k]? = V.heap[k]?) : ABox B g V' := ⟨(hb _ (by omega) (by omega)).trans h.b0, (hb _ (by omega) (by omega)).trans h.b1, (hb _ (by omega) (by omega)).trans h.b2⟩
theorem ABox.ext {B g : Nat} {V V' : World} (h : ABox B g V) (hE : Ext V V') : ABox B g V' := h.of fun k _ hk => hE.b.block _ (by have := h.lt; omega)
theorem ABox.k00 {B g : Nat} {V : World} (h : ABox B g V) : V.cell? ⟨B, 0, none⟩ = some (.int .i64 2) := by rw [cell_of_row _ _ _ _ _ _ h.b0]; rfl
theorem ABox.k01 {B g : Nat} {V : World} (h : ABox B g V) : V.cell? ⟨B, 1, none⟩ = some (.slice (some ⟨g, 0, none⟩) 3 3) := by rw [cell_of_row _ _ _ _ _ _ h.b0]; rfl
theorem ABox.k10 {B g : Nat} {V : World} (h : ABox B g V) : V.cell? ⟨B + 1, 0, none⟩ = some (.int .i64 2) := by rw [cell_of_row _ _ _ _ _ _ h.b1]; rfl
theorem ABox.k11 {B g : Nat} {V : World} (h : ABox B g V) : V.cell? ⟨B + 1, 1, none⟩ = some (.int .i64 1) := by rw [cell_of_row _ _ _ _ _ _ h.b1]; rfl
theorem ABox.k12 {B g : Nat} {V : World} (h : ABox B g V) : V.cell? ⟨B + 1, 2, none⟩ = some (.int .i64 2) := by rw [cell_of_row _ _ _ _ _ _ h.b1]; rfl
theorem ABox.k13 {B g : Nat} {V : World} (h : ABox B g V) : V.cell? ⟨B + 1, 3, none⟩ = some (.int .i64 0) := by rw [cell_of_row _ _ _ _ _ _ h.b1]; rfl
theorem ABox.k14 {B g : Nat} {V : World} (h : ABox B g V) : V.cell? ⟨B + 1, 4, none⟩ = some (.int .i64 0) := by rw [cell_of_row _ _ _ _ _ _ h.b1]; rfl
theorem ABox.k15 {B g : Nat} {V : World} (h : ABox B g V) : V.cell? ⟨B + 1, 5, none⟩ = some (.int .i64 0) := by rw [cell_of_row _ _ _ _ _ _ h.b1]; rfl
theorem ABox.k16 {B g : Nat} {V : World} (h : ABox B g V) : V.cell? ⟨B + 1, 6, none⟩ = some (.int .i64 0) := by rw [cell_of_row _ _ _ _ _ _ h.b1]; rfl
theorem ABox.k20 {B g : Nat} {V : World} (h : ABox B g V) : V.cell? ⟨B + 2, 0, none⟩ = some (.int .i64 2) := by rw [cell_of_row _ _ _ _ _ _ h.b2]; rfl
theorem ABox.k21 {B g : Nat} {V : World} (h : ABox B g V) : V.cell? ⟨B + 2, 1, none⟩ = some (.int .i64 3) := by rw [cell_of_row _ _ _ _ _ _ h.b2]; rfl
theorem ABox.k22 {B g : Nat} {V : World} (h : ABox B g V) : V.cell? ⟨B + 2, 2, none⟩ = some (.int .i64 3) := by rw [cell_of_row _ _ _ _ _ _ h.b2]; rfl
theorem ABox.k23 {B g : Nat} {V : World} (h : ABox B g V) : V.cell? ⟨B + 2, 3, none⟩ = some (.int .i64 0) := by rw [cell_of_row _ _ _ _ _ _ h.b2]; rfl
theorem ABox.k24 {B g : Nat} {V : World} (h : ABox B g V) : V.cell? ⟨B + 2, 4, none⟩ = some (.int .i64 0) := by rw [cell_of_row _ _ _ _ _ _ h.b2]; rfl
theorem ABox.k25 {B g : Nat} {V : World} (h : ABox B g V) : V.cell? ⟨B + 2, 5, none⟩ = some (.int .i64 0) := by rw [cell_of_row _ _ _ _ _ _ h.b2]; rfl
theorem ABox.k26 {B g : Nat} {V : World} (h : ABox B g V) : V.cell? ⟨B + 2, 6, none⟩ = some (.int .i64 0) := by rw [cell_of_row _ _ _ _ _ _ h.b2]; rfl
theorem ABox.all {B g : Nat} {V : World} (h : ABox B g V) : B < V.heap.size ∧ V.cell? ⟨B, 0, none⟩ = some (.int .i64 2) ∧ V.cell? ⟨B, 1, none⟩ = some (.slice (some ⟨g, 0, none⟩) 3 3) ∧ B + 1 < V.heap.size ∧ V.cell? ⟨B + 1, 0, none⟩ = some (.int .i64 2) ∧ V.cell? ⟨B + 1, 1, none⟩ = some (.int .i64 1) ∧ V.cell? ⟨B + 1, 2, none⟩ = some (.int .i64 2) ∧ V.cell? ⟨B + 1, 3, none⟩ = some (.int .i64 0) ∧ V.cell? ⟨B + 1, 4, none⟩ = some (.int .i64 0) ∧ V.cell? ⟨B + 1, 5, none⟩ = some (.int .i64 0) ∧ V.cell? ⟨B + 1, 6, none⟩ = some (.int .i64 0) ∧ B + 2 < V.heap.size ∧ V.cell? ⟨B + 2, 0, none⟩ = some (.int .i64 2) ∧ V.cell? ⟨B + 2, 1, none⟩ = some (.int .i64 3) ∧ V.cell? ⟨B + 2, 2, none⟩ = some (.int .i64 3) ∧ V.cell? ⟨B + 2, 3, none⟩ = some (.int .i64 0) ∧ V.cell? ⟨B + 2, 4, none⟩ = some (.int .i64 0) ∧ V.cell? ⟨B + 2, 5, none⟩ = some (.int .i64 0) ∧ V.cell? ⟨B + 2, 6, none⟩ = some (.int .i64 0) := ⟨by have := h.lt; omega, h.k00, h.k01, by have := h.lt; omega, h.k10, h.k11, h.k12, h.k13, h.k14, h.k15, h.k16, by have := h.lt; omega, h.k20, h.k21, h.k22, h.k23, h.k24, h.k25, h.k26⟩

theorem advB_rep {w : World} {g g0 g1 g2 : Nat} (h : w.heap[g]? = some (.cells #[.slice (some ⟨g0, 0, none⟩) 2 2, .slice (some ⟨g1, 0, none⟩) 2 2, .slice (some ⟨g2, 0, none⟩) 1 1] 62 (0, 0)))
    (h0 : w.heap[g0]? = some (.cells (Mv.cells ⟨exS, 1⟩ ++ Mv.cells ⟨exC, 0⟩).toArray 69 (0, 0))) (h1 : w.heap[g1]? = some (.cells (Mv.cells ⟨exS, 0⟩ ++ Mv.cells ⟨exC, 1⟩).toArray 69 (0, 0)))
    (h2 : w.heap[g2]? = some (.cells (Mv.cells ⟨exS, 0⟩).toArray 69 (0, 0))) : AdvRep w (.agg #[.int .i64 2, .slice (some ⟨g, 0, none⟩) 3 3]) exB := by
  refine ⟨_, rfl, rows2_of (xss := exB.st) (vs := [.slice (some ⟨g0, 0, none⟩) 2 2, .slice (some ⟨g1, 0, none⟩) 2 2, .slice (some ⟨g2, 0, none⟩) 1 1]) h rfl (by decide) fun i v xs hv hx => ?_⟩
  obtain rfl | rfl | rfl | hi : i = 0 ∨ i = 1 ∨ i = 2 ∨ 3 ≤ i := by omega
  · simp only [exB, List.getElem?_cons_zero, Option.some.injEq] at hv hx
    subst hv hx
    exact row_of_cells (enc := Mv.cells) (size := 8) (l := [⟨exS, 1⟩, ⟨exC, 0⟩]) (fun _ => rfl) h0 (by decide)
  · simp only [exB, List.getElem?_cons_zero, List.getElem?_cons_succ, Option.some.injEq] at hv hx
    subst hv hx
    exact row_of_cells (enc := Mv.cells) (size := 8) (l := [⟨exS, 0⟩, ⟨exC, 1⟩]) (fun _ => rfl) h1 (by decide)
  · simp only [exB, List.getElem?_cons_zero, List.getElem?_cons_succ, Option.some.injEq] at hv hx
    subst hv hx
    exact row_of_cells (enc := Mv.cells) (size := 8) (l := [⟨exS, 0⟩]) (fun _ => rfl) h2 (by decide)
  · rw [List.getElem?_eq_none (by show 3 ≤ i; exact hi)] at hx; cases hx
theorem ExRep.ext {B : Nat} {w V : World} {g g0 g1 g2 : Nat} (h : ExRep B w g g0 g1 g2) (hE : Ext w V) : ExRep B V g g0 g1 g2 := by
  obtain ⟨a1, a2, a3, a4, b1, b2, b3, c1, c2, c3, c4⟩ := h
  exact ⟨a1, a2, a3, a4, b1, b2, b3, (hE.b.block _ (lt_of_heap c1)).trans c1, (hE.b.block _ (lt_of_heap c2)).trans c2, (hE.b.block _ (lt_of_heap c3)).trans c3, (hE.b.block _ (lt_of_heap c4)).trans c4⟩

set_option maxRecDepth 100000 in
set_option maxHeartbeats 4000000 in
theorem awake_any (w : World) : Calls Try.prog 12 #[] w fun e w' => e = .returned (.bool true) ∧ Ext w w' := by
  go_enter Try.func12, Try.ntmps12
  go_wp2_with fail
  refine (example_any w).mono ?_
  rintro e w1 ⟨g, g0, g1, g2, rfl, hR, hE1⟩
  have hA := hR.adv
  have HR := hide hR
  have HA := hide hA
  have HE1 := hide hE1
  clear hR hA hE1
  dsimp only [exS, exC, Rd.v]
  go_wp2_with fail
  simp only [Nat.add_assoc, Nat.reduceAdd]
  obtain ⟨W0, hW0⟩ : ∃ W0, (((w1.alloc (.cells #[.int .i64 2, .slice (some ⟨g, 0, none⟩) 3 3] 24)).alloc (.cells #[.int .i64 2, .int .i64 1, .int .i64 2, .int .i64 0, .int .i64 0, .int .i64 0, .int .i64 0] 67)).alloc (.cells #[.int .i64 2, .int .i64 3, .int .i64 3, .int .i64 0, .int .i64 0, .int .i64 0, .int .i64 0] 67)) = W0 := ⟨_, rfl⟩
  have hEW : Ext w1 W0 := by rw [← hW0]; exact (((Ext.refl w1).alloc _).alloc _).alloc _
  have hB : ABox w1.heap.size g W0 := by
    refine ⟨?_, ?_, ?_⟩
    · rw [← hW0, Below.heap_alloc _ _ _ (by simp; omega), Below.heap_alloc _ _ _ (by simp)]; exact heap_alloc_new _ _
    · rw [← hW0, Below.heap_alloc _ _ _ (by simp)]
      have := heap_alloc_new (w1.alloc (.cells #[.int .i64 2, .slice (some ⟨g, 0, none⟩) 3 3] 24)) (.cells #[.int .i64 2, .int .i64 1, .int .i64 2, .int .i64 0, .int .i64 0, .int .i64 0, .int .i64 0] 67)
      rwa [World.size_alloc] at this
    · rw [← hW0]
      have := heap_alloc_new ((w1.alloc (.cells #[.int .i64 2, .slice (some ⟨g, 0, none⟩) 3 3] 24)).alloc (.cells #[.int .i64 2, .int .i64 1, .int .i64 2, .int .i64 0, .int .i64 0, .int .i64 0, .int .i64 0] 67)) (.cells #[.int .i64 2, .int .i64 3, .int .i64 3, .int .i64 0, .int .i64 0, .int .i64 0, .int .i64 0] 67)
      rwa [World.size_alloc, World.size_alloc] at this
  rw [hW0]
  clear hW0
  have hlt0 := hB.lt
  refine (pcount_any exA _ 1 W0 (HA.out.ext hEW) exA_moves).mono ?_
  rintro e V1 ⟨he, hX⟩
  rw [exA_count] at he
  subst he
  have hEV1 := hEW.trans hX
  have hB1 := hB.ext hX
  clear hB hEW hX hlt0
  clear W0
  obtain ⟨l0_1, c00_1, c01_1, l1_1, c10_1, c11_1, c12_1, c13_1, c14_1, c15_1, c16_1, l2_1, c20_1, c21_1, c22_1, c23_1, c24_1, c25_1, c26_1⟩ := hB1.all
  go_wp2_with fail
  refine (pwords_any exA _ 2 V1 (HA.out.ext hEV1) exA_moves).mono ?_
  rintro e V2 ⟨uw, he, hC, hX⟩
  rw [exA_words] at he hC
  subst he
  have hEV2 := hEV1.trans hX
  have hB2 := hB1.ext hX
  obtain ⟨qw, cw, rfl⟩ := hC.slice
  have hRW := hC.mono (Nat.zero_le _)
  have HRW := hide hRW
  clear hC hX hRW hB1 hEV1
  clear l0_1 c00_1 c01_1 l1_1 c10_1 c11_1 c12_1 c13_1 c14_1 c15_1 c16_1 l2_1 c20_1 c21_1 c22_1 c23_1 c24_1 c25_1 c26_1
  clear V1
  obtain ⟨l0_2, c00_2, c01_2, l1_2, c10_2, c11_2, c12_2, c13_2, c14_2, c15_2, c16_2, l2_2, c20_2, c21_2, c22_2, c23_2, c24_2, c25_2, c26_2⟩ := hB2.all
  dsimp only [List.length_cons, List.length_nil]
  go_wp2_with fail
  obtain ⟨V3, hV3⟩ : ∃ V3, V2.alloc (.cells (exS.cells ++ exS.cells).toArray 67) = V3 := ⟨_, rfl⟩
  have hr3 : V3.heap[V2.heap.size]? = some (.cells ([exS, exS].flatMap Rd.cells).toArray 67 (0, 0)) := by rw [← hV3]; exact heap_alloc_new _ _
  have hX3 : Ext V2 V3 := by rw [← hV3]; exact (Ext.refl _).alloc _
  have hRS : Row Rd.cells 7 V3 (.slice (some ⟨V2.heap.size, 0, none⟩) 2 2) [exS, exS] := row_of_cells (enc := Rd.cells) (size := 7) (l := [exS, exS]) (fun _ => rfl) hr3 (by decide)
  have hcall := pallows_any exA _ _ [exS, exS] V3 (HA.out.ext (hEV2.trans hX3)) hRS exA_moves
  rw [← hV3] at hcall
  refine hcall.mono ?_
  clear hcall
  rintro e V4 ⟨he, hX⟩
  rw [hV3] at hX
  rw [exA_allows] at he
  subst he
  have hX24 := hX3.trans hX
  have hEV4 := hEV2.trans hX24
  have hB4 := hB2.ext hX24
  have HRW4 := hide (HRW.out.ext hX24)
  clear l0_2 c00_2 c01_2 l1_2 c10_2 c11_2 c12_2 c13_2 c14_2 c15_2 c16_2 l2_2 c20_2 c21_2 c22_2 c23_2 c24_2 c25_2 c26_2
  clear hV3 hr3 hX3 hRS hX hX24 HRW hB2 hEV2
  clear V3
  obtain ⟨l0_4, c00_4, c01_4, l1_4, c10_4, c11_4, c12_4, c13_4, c14_4, c15_4, c16_4, l2_4, c20_4, c21_4, c22_4, c23_4, c24_4, c25_4, c26_4⟩ := hB4.all
  go_wp2_with fail
  refine (ptrim_any exA _ V4 (HA.out.ext hEV4) exA_moves).mono ?_
  rintro e V5 ⟨ut, he, hT, hX⟩
  obtain ⟨ta, tb, htr⟩ := exA_trim
  rw [htr] at he hT
  obtain ⟨qt, rfl, hCT⟩ := hT
  obtain ⟨qtt, ctt, rfl⟩ := hCT.slice
  dsimp only [List.length_cons, List.length_nil] at he
  subst he
  have hEV5 := hEV4.trans hX
  have hB5 := hB4.ext hX
  have HRW5 := hide (HRW4.out.ext hX)
  clear l0_4 c00_4 c01_4 l1_4 c10_4 c11_4 c12_4 c13_4 c14_4 c15_4 c16_4 l2_4 c20_4 c21_4 c22_4 c23_4 c24_4 c25_4 c26_4
  clear hX HRW4 hB4 hEV4 hCT htr
  clear V4
  obtain ⟨l0_5, c00_5, c01_5, l1_5, c10_5, c11_5, c12_5, c13_5, c14_5, c15_5, c16_5, l2_5, c20_5, c21_5, c22_5, c23_5, c24_5, c25_5, c26_5⟩ := hB5.all
  go_wp2_with fail
  obtain ⟨V6, hV6⟩ : ∃ V6, V5.alloc (.cells #[.int .i64 2, .slice qtt 2 ctt] 24) = V6 := ⟨_, rfl⟩
  have hX6 : Ext V5 V6 := by rw [← hV6]; exact (Ext.refl _).alloc _
  have hbt : V6.heap[V5.heap.size]? = some (.cells #[.int .i64 2, .slice qtt 2 ctt] 24 (0, 0)) := by rw [← hV6]; exact heap_alloc_new _ _
  rw [hV6]
  clear hV6
  refine (reachable_any exA _ V6 (HA.out.ext (hEV5.trans hX6)) exA_moves).mono ?_
  rintro e V7 ⟨ur, he, hO, hX⟩
  rw [exA_reachS] at hO
  rw [exA_ok] at he
  subst he
  have hX57 := hX6.trans hX
  have hEV7 := hEV5.trans hX57
  have hB7 := hB5.ext hX57
  have HRW7 := hide (HRW5.out.ext hX57)
  have hRR := hO.row (by decide)
  obtain ⟨qr, cr, rfl, -⟩ := id hRR
  have HRR := hide hRR
  have HBT := hide ((hX.b.block _ (lt_of_heap hbt)).trans hbt)
  obtain ⟨bt, hbtv⟩ : ∃ bt, V5.heap.size = bt := ⟨_, rfl⟩
  rw [hbtv] at HBT ⊢
  clear l0_5 c00_5 c01_5 l1_5 c10_5 c11_5 c12_5 c13_5 c14_5 c15_5 c16_5 l2_5 c20_5 c21_5 c22_5 c23_5 c24_5 c25_5 c26_5
  clear hX HRW5 hB5 hEV5 hX6 hbt hX57 hO hRR hbtv
  clear V6 V5
  dsimp only [List.length_cons, List.length_nil]
  obtain ⟨l0_7, c00_7, c01_7, l1_7, c10_7, c11_7, c12_7, c13_7, c14_7, c15_7, c16_7, l2_7, c20_7, c21_7, c22_7, c23_7, c24_7, c25_7, c26_7⟩ := hB7.all
  go_wp2_with fail
  refine (oblivious_any exA _ V7 (HA.out.ext hEV7) exA_moves).mono ?_
  rintro e V8 ⟨he, hX⟩
  rw [exA_obl] at he
  subst he
  have hEV8 := hEV7.trans hX
  have hB8 := hB7.ext hX
  have HRW8 := hide (HRW7.out.ext hX)
  have HRR8 := hide (HRR.out.ext hX)
  have hbt8 := (hX.b.block _ (lt_of_heap HBT.out)).trans HBT.out
  have ct1 : V8.cell? ⟨bt, 1, none⟩ = some (.slice qtt 2 ctt) := by rw [cell_of_row _ _ _ _ _ _ hbt8]; rfl
  clear l0_7 c00_7 c01_7 l1_7 c10_7 c11_7 c12_7 c13_7 c14_7 c15_7 c16_7 l2_7 c20_7 c21_7 c22_7 c23_7 c24_7 c25_7 c26_7
  clear hX HRW7 hB7 hEV7 HRR HBT hbt8
  clear V7
  go_wp2_with fail
  obtain ⟨V9, hV9⟩ : ∃ V9, V8.alloc (.cells #[.int .i64 0, .int .i64 1] 3) = V9 := ⟨_, rfl⟩
  have hX9 : Ext V8 V9 := by rw [← hV9]; exact (Ext.refl _).alloc _
  have hr9 : V9.heap[V8.heap.size]? = some (.cells (([0, 1] : List Int).flatMap icells).toArray 3 (0, 0)) := by rw [← hV9]; exact heap_alloc_new _ _
  have hR9 : Row icells 1 V9 (.slice (some ⟨V8.heap.size, 0, none⟩) 2 2) [0, 1] := row_of_cells (enc := icells) (size := 1) (l := ([0, 1] : List Int)) (fun _ => rfl) hr9 (by decide)
  have hcall := sequal_ints [0, 1] [0, 1] _ _ V9 (HRR8.out.ext hX9) hR9
  rw [← hV9] at hcall
  refine hcall.mono ?_
  clear hcall
  rintro e V10 ⟨he, hX⟩
  rw [hV9] at hX
  rw [show decide (([0, 1] : List Int) = [0, 1]) = true from rfl] at he
  subst he
  have hX810 := hX9.trans hX
  have hEV10 := hEV8.trans hX810
  have hB10 := hB8.ext hX810
  have HRW10 := hide (HRW8.out.ext hX810)
  have hRg := HR.out.ext hEV10
  obtain ⟨a1, a2, a3, a4, b1, b2, b3, hg, hg0, hg1, hg2⟩ := id hRg
  have cg1 : V10.cell? ⟨g, 1, none⟩ = some (.slice (some ⟨g1, 0, none⟩) 1 1) := by rw [cell_of_row _ _ _ _ _ _ hg]; rfl
  have fg1 : V10.frozen? ⟨g, 1, none⟩ = false := frozen_row hg _
  have lg := lt_of_heap hg
  have hgB : g < w1.heap.size := lt_of_heap HR.out.2.2.2.2.2.2.2.1
  have HRG := hide hRg
  clear ct1 hX hX9 hr9 hR9 hV9 hX810 HRW8 hB8 hEV8 HRR8 hg hg0 hg1 hg2 hRg
  clear V9
  obtain ⟨l0_10, c00_10, c01_10, l1_10, c10_10, c11_10, c12_10, c13_10, c14_10, c15_10, c16_10, l2_10, c20_10, c21_10, c22_10, c23_10, c24_10, c25_10, c26_10⟩ := hB10.all
  go_wp2_with fail
  obtain ⟨V11, hV11⟩ : ∃ V11, (V10.setCell ⟨g, 1, none⟩ (.slice (some ⟨V10.heap.size, 0, none⟩) 2 2)).alloc (.cells (Mv.cells ⟨exS, 0⟩ ++ Mv.cells ⟨exC, 1⟩).toArray 69) = V11 := ⟨_, rfl⟩
  obtain ⟨a1, a2, a3, a4, b1, b2, b3, hg, hg0, hg1, hg2⟩ := HRG.out
  have hk11 : ∀ k, k < V10.heap.size → k ≠ g → V11.heap[k]? = V10.heap[k]? := fun k hk hne => by
    rw [← hV11, Below.heap_alloc _ _ _ (by simpa using hk), Below.heap_setCell _ _ _ _ hne]
  have hg11 : V11.heap[g]? = some (.cells #[.slice (some ⟨g0, 0, none⟩) 2 2, .slice (some ⟨V10.heap.size, 0, none⟩) 2 2, .slice (some ⟨g2, 0, none⟩) 1 1] 62 (0, 0)) := by
    rw [← hV11, Below.heap_alloc _ _ _ (by simpa using lg), row_set hg]; rfl
  have hn11 : V11.heap[V10.heap.size]? = some (.cells (Mv.cells ⟨exS, 0⟩ ++ Mv.cells ⟨exC, 1⟩).toArray 69 (0, 0)) := by
    rw [← hV11]
    have := heap_alloc_new (V10.setCell ⟨g, 1, none⟩ (.slice (some ⟨V10.heap.size, 0, none⟩) 2 2)) (.cells (Mv.cells ⟨exS, 0⟩ ++ Mv.cells ⟨exC, 1⟩).toArray 69)
    rwa [World.size_setCell] at this
  have hAB := advB_rep hg11 ((hk11 _ (lt_of_heap hg0) (Ne.symm b1)).trans hg0) hn11 ((hk11 _ (lt_of_heap hg2) (Ne.symm b3)).trans hg2)
  have hz11 : V10.heap.size ≤ V11.heap.size := by rw [← hV11]; simp
  have hB11 := hB10.of (V' := V11) (fun k hk1 hk2 => hk11 k (by have := hB10.lt; omega) (by omega))
  have hCW : Coll 25 67 Rd.cells 7 V11 0 (.slice qw 3 cw) [[exS, exC], [exC, exS], [exC, exC]] := by
    rw [← hV11]; exact (HRW10.out.setOther hg (by decide) (by decide) 1 _).ext ((Ext.refl _).alloc _)
  have hE11 : Ext w V11 := by rw [← hV11]; exact ((HE1.out.trans hEV10).setCell (by show w.heap.size ≤ g; omega) _).alloc _
  have hcall := oblivious_any exB _ V11 hAB exB_moves
  rw [← hV11] at hcall
  refine hcall.mono ?_
  clear hcall
  rintro e V12 ⟨he, hX⟩
  rw [hV11] at hX
  rw [exB_obl] at he
  subst he
  have hE12 := hE11.trans hX
  have hB12 := hB11.ext hX
  have HCW := hide (hCW.ext hX)
  clear l0_10 c00_10 c01_10 l1_10 c10_10 c11_10 c12_10 c13_10 c14_10 c15_10 c16_10 l2_10 c20_10 c21_10 c22_10 c23_10 c24_10 c25_10 c26_10
  clear hV11 hk11 hg11 hn11 hAB hz11 hB11 hCW hE11 hX HRW10 hB10 hEV10 cg1 fg1 lg HRG hg hg0 hg1 hg2
  clear V11
  obtain ⟨l0_12, c00_12, c01_12, l1_12, c10_12, c11_12, c12_12, c13_12, c14_12, c15_12, c16_12, l2_12, c20_12, c21_12, c22_12, c23_12, c24_12, c25_12, c26_12⟩ := hB12.all
  go_wp2_with fail
  obtain ⟨V13, hV13⟩ : ∃ V13, ((((V12.alloc (.cells (exS.cells ++ exC.cells).toArray 67)).alloc (.cells (exC.cells ++ exS.cells).toArray 67)).alloc (.cells (exC.cells ++ exC.cells).toArray 67)).alloc (.cells #[.slice (some ⟨V12.heap.size, 0, none⟩) 2 2, .slice (some ⟨V12.heap.size + 1, 0, none⟩) 2 2, .slice (some ⟨V12.heap.size + 2, 0, none⟩) 2 2] 25)) = V13 := ⟨_, rfl⟩
  have hX13 : Ext V12 V13 := by rw [← hV13]; exact ((((Ext.refl _).alloc _).alloc _).alloc _).alloc _
  have r0 : V13.heap[V12.heap.size]? = some (.cells ([exS, exC].flatMap Rd.cells).toArray 67 (0, 0)) := by
    rw [← hV13, Below.heap_alloc _ _ _ (by simp; try omega), Below.heap_alloc _ _ _ (by simp; try omega), Below.heap_alloc _ _ _ (by simp)]; exact heap_alloc_new _ _
  have r1 : V13.heap[V12.heap.size + 1]? = some (.cells ([exC, exS].flatMap Rd.cells).toArray 67 (0, 0)) := by
    rw [← hV13, Below.heap_alloc _ _ _ (by simp; try omega), Below.heap_alloc _ _ _ (by simp)]
    have := heap_alloc_new (V12.alloc (.cells (exS.cells ++ exC.cells).toArray 67)) (.cells (exC.cells ++ exS.cells).toArray 67)
    rwa [World.size_alloc] at this
  have r2 : V13.heap[V12.heap.size + 2]? = some (.cells ([exC, exC].flatMap Rd.cells).toArray 67 (0, 0)) := by
    rw [← hV13, Below.heap_alloc _ _ _ (by simp)]
    have := heap_alloc_new ((V12.alloc (.cells (exS.cells ++ exC.cells).toArray 67)).alloc (.cells (exC.cells ++ exS.cells).toArray 67)) (.cells (exC.cells ++ exC.cells).toArray 67)
    rwa [World.size_alloc, World.size_alloc] at this
  have r3 : V13.heap[V12.heap.size + 3]? = some (.cells [.slice (some ⟨V12.heap.size, 0, none⟩) 2 2, .slice (some ⟨V12.heap.size + 1, 0, none⟩) 2 2, .slice (some ⟨V12.heap.size + 2, 0, none⟩) 2 2].toArray 25 (0, 0)) := by
    rw [← hV13]
    have := heap_alloc_new (((V12.alloc (.cells (exS.cells ++ exC.cells).toArray 67)).alloc (.cells (exC.cells ++ exS.cells).toArray 67)).alloc (.cells (exC.cells ++ exC.cells).toArray 67)) (.cells #[.slice (some ⟨V12.heap.size, 0, none⟩) 2 2, .slice (some ⟨V12.heap.size + 1, 0, none⟩) 2 2, .slice (some ⟨V12.heap.size + 2, 0, none⟩) 2 2] 25)
    rwa [World.size_alloc, World.size_alloc, World.size_alloc] at this
  have hR13 : Rows2 Rd.cells 7 V13 (.slice (some ⟨V12.heap.size + 3, 0, none⟩) 3 3) [[exS, exC], [exC, exS], [exC, exC]] := rows2_of (xss := [[exS, exC], [exC, exS], [exC, exC]]) r3 rfl (by decide) fun i v xs hv hx => by
    obtain rfl | rfl | rfl | hi : i = 0 ∨ i = 1 ∨ i = 2 ∨ 3 ≤ i := by omega
    · simp only [List.getElem?_cons_zero, Option.some.injEq] at hv hx
      subst hv hx
      exact row_of_cells (enc := Rd.cells) (size := 7) (l := [exS, exC]) (fun _ => rfl) r0 (by decide)
    · simp only [List.getElem?_cons_zero, List.getElem?_cons_succ, Option.some.injEq] at hv hx
      subst hv hx
      exact row_of_cells (enc := Rd.cells) (size := 7) (l := [exC, exS]) (fun _ => rfl) r1 (by decide)
    · simp only [List.getElem?_cons_zero, List.getElem?_cons_succ, Option.some.injEq] at hv hx
      subst hv hx
      exact row_of_cells (enc := Rd.cells) (size := 7) (l := [exC, exC]) (fun _ => rfl) r2 (by decide)
    · rw [List.getElem?_eq_none (by show 3 ≤ i; exact hi)] at hx; cases hx
  have hcall := rsamewords_any [[exS, exC], [exC, exS], [exC, exC]] [[exS, exC], [exC, exS], [exC, exC]] _ _ V13 ((HCW.out.ext hX13).rows2 (by decide)) hR13
  have hE13 := hE12.trans hX13
  rw [← hV13] at hcall
  refine hcall.mono ?_
  clear hcall
  rintro e V14 ⟨he, hX⟩
  rw [hV13] at hX
  rw [show decide ([[exS, exC], [exC, exS], [exC, exC]] = [[exS, exC], [exC, exS], [exC, exC]]) = true from by decide] at he
  subst he
  have hE14 := hE13.trans hX
  clear l0_12 c00_12 c01_12 l1_12 c10_12 c11_12 c12_12 c13_12 c14_12 c15_12 c16_12 l2_12 c20_12 c21_12 c22_12 c23_12 c24_12 c25_12 c26_12
  clear hV13 hX13 r0 r1 r2 r3 hR13 hX hE13 HCW hB12 hE12
  clear V13
  go_wp2_with fail
  go_ret
  exact ⟨rfl, hE14⟩
end Go.Proofs.Ytjgkgcjmcpgiaaa
