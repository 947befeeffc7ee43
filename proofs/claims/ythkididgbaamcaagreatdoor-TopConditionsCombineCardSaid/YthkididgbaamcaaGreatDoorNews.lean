/-
  Three new boxes, laid in any order.
  Conditions: none.
-/
import Derived.Test.YthkididgbaamcaaGreatDoorHeldA
namespace Go.Proofs.YthkididgbaamcaaGreatDoor
open Go.RowKit
section
variable {P : Program} {ops : Array Oper} {S : World → Prop} {Q : Act → World → Prop}
/-- A new box. -/
theorem op_newBox {i : Nat} {o : Oper} {a : Act} {w : World} {K Q : Act → World → Prop} {ob : Obj} {d : Nat} (hi : ops[i]? = some o) (hg : o.guard = none) (hd : o.dst = some d)
    (hrun : (execOp a.eval o).run P w = .ok (.value (.pointer (some ⟨w.heap.size, 0, none⟩))) (w.alloc ob))
    (h : K { a with tmps := a.tmps.setIfInBounds d (.pointer (some ⟨w.heap.size, 0, none⟩)) } (w.alloc ob)) : wpOp P ops (Aft Q) i K a w := by
  unfold wpOp
  simp only [hi]
  have hw : Region.wanted o (yielded ops a.tmps) = true := by simp [Region.wanted, hg]
  simp only [hw, if_true]
  refine .inl ?_
  unfold Oper.wp
  rw [hrun]
  show K (a.put o.dst _) _
  rw [hd]
  exact h
/-- An operation that its guard leaves out. -/
theorem wpAnyT_skip {md : Region.Mode} {i : Nat} {oi : Oper} {fuel : Nat} {listed : Array Bool} {a : Act} {w : World} (hi : ops[i]? = some oi) (hs : Region.noSelect ops = true) (hf : Region.free md ops listed i = true)
    (hr : (Region.ready md ops listed).contains i = true) (hg : Region.wanted oi (yielded ops a.tmps) = false) (hS : S w)
    (h : wpAnyT P md ops S (fun _ => false) Q fuel (listed.setIfInBounds i true) (a.put oi.dst undef) w) : wpAnyT P md ops S (fun _ => false) Q (fuel + 1) listed a w :=
  wpAnyT_first hi (Region.noSelect_spec hs) (fun _ h => by cases h) fuel listed a w (Region.free_spec hi hf) (by simpa using hr) (.inr ⟨hg, rfl⟩) hS h
/-- Two that may come up, in either order. -/
theorem wpAnyT_two {md : Region.Mode} {i j : Nat} {o1 o2 : Oper} {fuel : Nat} {listed : Array Bool} {a : Act} {w : World} (hi : ops[i]? = some o1) (hj : ops[j]? = some o2) (hr : Region.ready md ops listed = [i, j])
    (h1 : ∀ K : Act → World → Prop, (∀ a' w', S w' → wpAnyT P md ops S (fun _ => false) Q fuel (listed.setIfInBounds i true) a' w' → K a' w') → wpList P ops (Aft K) [o1] a w)
    (h2 : ∀ K : Act → World → Prop, (∀ a' w', S w' → wpAnyT P md ops S (fun _ => false) Q fuel (listed.setIfInBounds j true) a' w' → K a' w') → wpList P ops (Aft K) [o2] a w) : wpAnyT P md ops S (fun _ => false) Q (fuel + 1) listed a w := by
  refine wpAnyT_all hr (by simp) fun k hk => ?_
  obtain rfl | rfl : k = i ∨ k = j := by simpa using hk
  · exact Aft.op hi (fun _ _ h => h) (h1 (fun a' w' => S w' ∧ wpAnyT P md ops S (fun _ => false) Q fuel (listed.setIfInBounds k true) a' w') fun _ _ h1 h2 => ⟨h1, h2⟩)
  · exact Aft.op hj (fun _ _ h => h) (h2 (fun a' w' => S w' ∧ wpAnyT P md ops S (fun _ => false) Q fuel (listed.setIfInBounds k true) a' w') fun _ _ h1 h2 => ⟨h1, h2⟩)
/-- What the three boxes are, whatever order they came in. -/
structure News3 (w V : World) (ob : Obj) (g1 g2 g3 : Nat) : Prop where
  ext : Ext w V
  b1 : V.heap[g1]? = some ob
  b2 : V.heap[g2]? = some ob
  b3 : V.heap[g3]? = some ob
  n12 : g1 ≠ g2
  n13 : g1 ≠ g3
  n23 : g2 ≠ g3
  l1 : w.heap.size ≤ g1
  l2 : w.heap.size ≤ g2
  l3 : w.heap.size ≤ g3
theorem news3 (w : World) (ob : Obj) : News3 w (((w.alloc ob).alloc ob).alloc ob) ob w.heap.size (w.heap.size + 1) (w.heap.size + 1 + 1) := by
  refine ⟨(((Ext.refl w).alloc _).alloc _).alloc _, ?_, ?_, ?_, by omega, by omega, by omega, by omega, by omega, by omega⟩
  · rw [Below.heap_alloc _ _ _ (by simp; omega), Below.heap_alloc _ _ _ (by simp)]
    exact heap_alloc_new w _
  · rw [Below.heap_alloc _ _ _ (by simp)]
    have := heap_alloc_new (w.alloc ob) ob
    rwa [World.size_alloc] at this
  · have := heap_alloc_new ((w.alloc ob).alloc ob) ob
    rwa [World.size_alloc, World.size_alloc] at this
theorem News3.swap12 {w V : World} {ob : Obj} {g1 g2 g3 : Nat} (h : News3 w V ob g1 g2 g3) : News3 w V ob g2 g1 g3 := ⟨h.ext, h.b2, h.b1, h.b3, h.n12.symm, h.n23, h.n13, h.l2, h.l1, h.l3⟩
theorem News3.swap23 {w V : World} {ob : Obj} {g1 g2 g3 : Nat} (h : News3 w V ob g1 g2 g3) : News3 w V ob g1 g3 g2 := ⟨h.ext, h.b1, h.b3, h.b2, h.n13, h.n12, h.n23.symm, h.l1, h.l3, h.l2⟩
theorem wpAnyT_news3 {i j k d1 d2 d3 : Nat} {o1 o2 o3 : Oper} {ob : Obj} {listed : Array Bool} {fuel : Nat} {a : Act} {w : World}
    (hi : ops[i]? = some o1) (hj : ops[j]? = some o2) (hk : ops[k]? = some o3) (gi : o1.guard = none) (gj : o2.guard = none) (gk : o3.guard = none) (di : o1.dst = some d1) (dj : o2.dst = some d2) (dk : o3.dst = some d3)
    (hd : d1 ≠ d2 ∧ d1 ≠ d3 ∧ d2 ≠ d3) (hn : i ≠ j ∧ i ≠ k ∧ j ≠ k)
    (r0 : Region.ready .any ops listed = [i, j, k]) (r1 : Region.ready .any ops (listed.setIfInBounds i true) = [j, k]) (r2 : Region.ready .any ops (listed.setIfInBounds j true) = [i, k]) (r3 : Region.ready .any ops (listed.setIfInBounds k true) = [i, j])
    (r12 : Region.ready .any ops ((listed.setIfInBounds i true).setIfInBounds j true) = [k]) (r13 : Region.ready .any ops ((listed.setIfInBounds i true).setIfInBounds k true) = [j]) (r23 : Region.ready .any ops ((listed.setIfInBounds j true).setIfInBounds k true) = [i])
    (e1 : ∀ (a : Act) (w : World), (execOp a.eval o1).run P w = .ok (.value (.pointer (some ⟨w.heap.size, 0, none⟩))) (w.alloc ob))
    (e2 : ∀ (a : Act) (w : World), (execOp a.eval o2).run P w = .ok (.value (.pointer (some ⟨w.heap.size, 0, none⟩))) (w.alloc ob))
    (e3 : ∀ (a : Act) (w : World), (execOp a.eval o3).run P w = .ok (.value (.pointer (some ⟨w.heap.size, 0, none⟩))) (w.alloc ob))
    (hS : ∀ V, Ext w V → S V)
    (h : ∀ V g1 g2 g3, News3 w V ob g1 g2 g3 → wpAnyT P .any ops S (fun _ => false) Q fuel (((listed.setIfInBounds i true).setIfInBounds j true).setIfInBounds k true)
      { a with tmps := ((a.tmps.setIfInBounds d1 (.pointer (some ⟨g1, 0, none⟩))).setIfInBounds d2 (.pointer (some ⟨g2, 0, none⟩))).setIfInBounds d3 (.pointer (some ⟨g3, 0, none⟩)) } V) :
    wpAnyT P .any ops S (fun _ => false) Q (fuel + 1 + 1 + 1) listed a w := by
  obtain ⟨d12, d13, d23⟩ := hd
  obtain ⟨n12, n13, n23⟩ := hn
  have E1 : Ext w (w.alloc ob) := (Ext.refl w).alloc _
  have E2 := E1.alloc ob
  have N := news3 w ob
  have s1 : (w.alloc ob).heap.size = w.heap.size + 1 := World.size_alloc _ _
  have s2 : ((w.alloc ob).alloc ob).heap.size = w.heap.size + 1 + 1 := by rw [World.size_alloc, World.size_alloc]
  have r21 := r12; rw [Array.setIfInBounds_comm _ _ n12] at r21
  have r31 := r13; rw [Array.setIfInBounds_comm _ _ n13] at r31
  have r32 := r23; rw [Array.setIfInBounds_comm _ _ n23] at r32
  refine wpAnyT_all r0 (by simp) fun x hx => ?_
  simp only [List.mem_cons, List.not_mem_nil, or_false] at hx
  rcases hx with rfl | rfl | rfl
  · refine op_newBox hi gi di (e1 _ _) ⟨hS _ E1, wpAnyT_all r1 (by simp) fun x hx => ?_⟩
    simp only [List.mem_cons, List.not_mem_nil, or_false] at hx
    rcases hx with rfl | rfl
    · refine op_newBox hj gj dj (e2 _ _) ⟨hS _ E2, wpAnyT_all r12 (by simp) fun x hx => ?_⟩
      simp only [List.mem_cons, List.not_mem_nil, or_false] at hx
      subst hx
      refine op_newBox hk gk dk (e3 _ _) ⟨hS _ N.ext, ?_⟩
      rw [s1, s2]
      exact h _ _ _ _ N
    · refine op_newBox hk gk dk (e3 _ _) ⟨hS _ E2, wpAnyT_all r13 (by simp) fun x hx => ?_⟩
      simp only [List.mem_cons, List.not_mem_nil, or_false] at hx
      subst hx
      refine op_newBox hj gj dj (e2 _ _) ⟨hS _ N.ext, ?_⟩
      rw [s1, s2]
      have := h _ _ _ _ N.swap23
      rw [Array.setIfInBounds_comm _ _ n23, Array.setIfInBounds_comm _ _ d23] at this
      exact this
  · refine op_newBox hj gj dj (e2 _ _) ⟨hS _ E1, wpAnyT_all r2 (by simp) fun x hx => ?_⟩
    simp only [List.mem_cons, List.not_mem_nil, or_false] at hx
    rcases hx with rfl | rfl
    · refine op_newBox hi gi di (e1 _ _) ⟨hS _ E2, wpAnyT_all r21 (by simp) fun x hx => ?_⟩
      simp only [List.mem_cons, List.not_mem_nil, or_false] at hx
      subst hx
      refine op_newBox hk gk dk (e3 _ _) ⟨hS _ N.ext, ?_⟩
      rw [s1, s2]
      have := h _ _ _ _ N.swap12
      rw [Array.setIfInBounds_comm (xs := listed) _ _ n12, Array.setIfInBounds_comm (xs := a.tmps) _ _ d12] at this
      exact this
    · refine op_newBox hk gk dk (e3 _ _) ⟨hS _ E2, wpAnyT_all r23 (by simp) fun x hx => ?_⟩
      simp only [List.mem_cons, List.not_mem_nil, or_false] at hx
      subst hx
      refine op_newBox hi gi di (e1 _ _) ⟨hS _ N.ext, ?_⟩
      rw [s1, s2]
      have := h _ _ _ _ N.swap23.swap12
      rw [Array.setIfInBounds_comm (xs := listed) _ _ n12, Array.setIfInBounds_comm _ _ n13, Array.setIfInBounds_comm (xs := a.tmps) _ _ d12, Array.setIfInBounds_comm _ _ d13] at this
      exact this
  · refine op_newBox hk gk dk (e3 _ _) ⟨hS _ E1, wpAnyT_all r3 (by simp) fun x hx => ?_⟩
    simp only [List.mem_cons, List.not_mem_nil, or_false] at hx
    rcases hx with rfl | rfl
    · refine op_newBox hi gi di (e1 _ _) ⟨hS _ E2, wpAnyT_all r31 (by simp) fun x hx => ?_⟩
      simp only [List.mem_cons, List.not_mem_nil, or_false] at hx
      subst hx
      refine op_newBox hj gj dj (e2 _ _) ⟨hS _ N.ext, ?_⟩
      rw [s1, s2]
      have := h _ _ _ _ N.swap12.swap23
      rw [Array.setIfInBounds_comm _ _ n23, Array.setIfInBounds_comm _ _ n13, Array.setIfInBounds_comm _ _ d23, Array.setIfInBounds_comm _ _ d13] at this
      exact this
    · refine op_newBox hj gj dj (e2 _ _) ⟨hS _ E2, wpAnyT_all r32 (by simp) fun x hx => ?_⟩
      simp only [List.mem_cons, List.not_mem_nil, or_false] at hx
      subst hx
      refine op_newBox hi gi di (e1 _ _) ⟨hS _ N.ext, ?_⟩
      rw [s1, s2]
      have := h _ _ _ _ N.swap12.swap23.swap12
      rw [Array.setIfInBounds_comm (xs := listed) _ _ n12, Array.setIfInBounds_comm _ _ n13, Array.setIfInBounds_comm _ _ n23, Array.setIfInBounds_comm (xs := a.tmps) _ _ d12, Array.setIfInBounds_comm _ _ d13, Array.setIfInBounds_comm _ _ d23] at this
      exact this
end
end Go.Proofs.YthkididgbaamcaaGreatDoor
