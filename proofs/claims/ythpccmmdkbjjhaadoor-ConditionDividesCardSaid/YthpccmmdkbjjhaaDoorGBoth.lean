/-
  Two graphs are checked (graph.both, roundtableref03.Both).
  Conditions: none.
-/
import Derived.Test.YthpccmmdkbjjhaaDoorGSpec
namespace Go.Proofs.YthpccmmdkbjjhaaDoor
open Go.RowKit
attribute [local go_sem] Oper.semAt_some

theorem gr_new (w : World) (g : Gr) : GrBox (w.alloc (.cells #[.int .i64 g.n, .int .i64 g.h0, .int .i64 g.h1, .int .i64 g.h2, .int .i64 g.h3, .int .i64 g.h4] 70)) w.heap.size g := heap_alloc_new w _
theorem GrBox.alloc {W : World} {b : Nat} {g : Gr} (h : GrBox W b g) (o : Obj) : GrBox (W.alloc o) b g := (Below.heap_alloc _ _ _ (lt_of_heap h)).trans h
theorem GrBox.gstore_other {V : World} {b b' : Nat} {g r : Gr} (h : GrBox V b g) (hne : b ≠ b') : GrBox (gstore V b' r) b g := by
  show (gstore V b' r).heap[b]? = _
  rw [Below.heap_setCell _ _ _ _ hne, Below.heap_setCell _ _ _ _ hne, Below.heap_setCell _ _ _ _ hne, Below.heap_setCell _ _ _ _ hne, Below.heap_setCell _ _ _ _ hne, Below.heap_setCell _ _ _ _ hne]
  exact h
/-- The graph in a block. -/
noncomputable def grOf (V : World) (b : Nat) : Gr := open Classical in if h : ∃ g, GrBox V b g then Classical.choose h else gz0
/-- Two graphs in boxes of their own. -/
structure Two (w W : World) (a b : Gr) : Prop where
  ext : Ext w W
  a : GrBox W w.heap.size a
  b : GrBox W (w.heap.size + 1) b
theorem Two.mk_ (w : World) (a b : Gr) : Two w ((w.alloc (.cells #[.int .i64 a.n, .int .i64 a.h0, .int .i64 a.h1, .int .i64 a.h2, .int .i64 a.h3, .int .i64 a.h4] 70)).alloc (.cells #[.int .i64 b.n, .int .i64 b.h0, .int .i64 b.h1, .int .i64 b.h2, .int .i64 b.h3, .int .i64 b.h4] 70)) a b :=
  ⟨((Ext.refl w).alloc _).alloc _, (gr_new w a).alloc _, by
    have := gr_new (w.alloc (.cells #[.int .i64 a.n, .int .i64 a.h0, .int .i64 a.h1, .int .i64 a.h2, .int .i64 a.h3, .int .i64 a.h4] 70)) b
    rwa [World.size_alloc] at this⟩
theorem Two.ext_ {w W V : World} {a b : Gr} (h : Two w W a b) (hE : Ext W V) : Two w V a b := ⟨h.ext.trans hE, h.a.ext hE, h.b.ext hE⟩
/-- Two graphs in boxes of their own, and room for a third. -/
structure Three (w W : World) (a b : Gr) : Prop extends Two w W a b where
  c : ∃ g, GrBox W (w.heap.size + 1 + 1) g
abbrev gobj (g : Gr) : Obj := .cells #[.int .i64 g.n, .int .i64 g.h0, .int .i64 g.h1, .int .i64 g.h2, .int .i64 g.h3, .int .i64 g.h4] 70
abbrev gobj0 : Obj := .cells #[.int .i64 0, .int .i64 0, .int .i64 0, .int .i64 0, .int .i64 0, .int .i64 0] 70
theorem Three.mk_ (w : World) (a b : Gr) : Three w (((w.alloc (gobj a)).alloc (gobj b)).alloc gobj0) a b :=
  ⟨⟨(Two.mk_ w a b).ext.alloc _, (Two.mk_ w a b).a.alloc _, (Two.mk_ w a b).b.alloc _⟩, gz0, by
    have := gr_new ((w.alloc (gobj a)).alloc (gobj b)) gz0
    rwa [World.size_alloc, World.size_alloc] at this⟩
theorem Three.ext_ {w W V : World} {a b : Gr} (h : Three w W a b) (hE : Ext W V) : Three w V a b := ⟨h.toTwo.ext_ hE, by obtain ⟨g, hg⟩ := h.c; exact ⟨g, hg.ext hE⟩⟩
/-- A graph in a box of its own, and room for a second. -/
structure One1 (w W : World) (a : Gr) : Prop where
  ext : Ext w W
  a : GrBox W w.heap.size a
  c : ∃ g, GrBox W (w.heap.size + 1) g
theorem One1.mk_ (w : World) (a : Gr) : One1 w ((w.alloc (gobj a)).alloc gobj0) a :=
  ⟨((Ext.refl w).alloc _).alloc _, (gr_new w a).alloc _, gz0, by
    have := gr_new (w.alloc (gobj a)) gz0
    rwa [World.size_alloc] at this⟩
theorem One1.ext_ {w W V : World} {a : Gr} (h : One1 w W a) (hE : Ext W V) : One1 w V a := ⟨h.ext.trans hE, h.a.ext hE, by obtain ⟨g, hg⟩ := h.c; exact ⟨g, hg.ext hE⟩⟩
theorem bothS_a {a b : Gr} (h : gchk a ≠ 0) : bothS a b = gchk a := by unfold bothS; rw [if_pos h]
theorem bothS_b {a b : Gr} (h : gchk a = 0) (h2 : gchk b ≠ 0) : bothS a b = gchk b := by unfold bothS; rw [if_neg (by simp [h]), if_pos h2]
theorem bothS_n {a b : Gr} (h : gchk a = 0) (h2 : gchk b = 0) (h3 : a.n ≠ b.n) : bothS a b = 22 := by unfold bothS; rw [if_neg (by simp [h]), if_neg (by simp [h2]), if_pos h3]
theorem bothS_0 {a b : Gr} (h : gchk a = 0) (h2 : gchk b = 0) (h3 : a.n = b.n) : bothS a b = 0 := by unfold bothS; rw [if_neg (by simp [h]), if_neg (by simp [h2]), if_neg (by simp [h3])]

end Go.Proofs.YthpccmmdkbjjhaaDoor
