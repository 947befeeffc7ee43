/-
  Variables in blocks of their own: one cell each; results that lie in cells.
  Conditions: none.
-/
import Derived.Test.YtpcboonjalbihaaDoorColl
import Derived.Test.YtpcboonjalbihaaDoorSeq
namespace Go.Proofs.YtpcboonjalbihaaDoor
open Go.RowKit

/-- A variable of one cell in a block of its own. -/
def Box (W : World) (b : Nat) (e : TypeId) (v : Value) : Prop := W.heap[b]? = some (.cells #[v] e (0, 0))
theorem cell_chg {B : Nat} {W W' : World} (h : Chg B W W') {a : Addr} {v : Value} (hc : W.cell? a = some v) : W'.cell? a = some v := by
  unfold World.cell? at hc
  cases hh : W.heap[a.block]? with
  | none => rw [hh] at hc; cases hc
  | some o =>
    cases o <;> rw [hh] at hc <;> first | (cases hc; done) | skip
    rename_i c e fr
    have := h.cells _ _ _ _ hh
    rw [World.cell?_of_block (this.trans hh.symm)]
    unfold World.cell?; rw [hh]; exact hc
theorem Box.chg {B : Nat} {W W' : World} {b : Nat} {e : TypeId} {v : Value} (h : Box W b e v) (hc : Chg B W W') : Box W' b e v := hc.cells _ _ _ _ h
theorem Box.cell {W : World} {b : Nat} {e : TypeId} {v : Value} (h : Box W b e v) : W.cell? ⟨b, 0, none⟩ = some v := by rw [cell_of_row W b 0 _ _ _ h]; rfl
theorem Box.frozen {W : World} {b : Nat} {e : TypeId} {v : Value} (h : Box W b e v) : W.frozen? ⟨b, 0, none⟩ = false := by
  unfold World.frozen?; show (match W.heap[b]? with | some (Obj.cells c elem (lo, hi)) => decide (lo ≤ 0) && decide (0 < hi) | x => false) = false; rw [h]; rfl
theorem Box.lt {W : World} {b : Nat} {e : TypeId} {v : Value} (h : Box W b e v) : b < W.heap.size := lt_of_heap h
theorem Box.set {W : World} {b : Nat} {e : TypeId} {v u : Value} (h : Box W b e v) : Box (W.setCell ⟨b, 0, none⟩ u) b e u := by
  unfold Box
  simp only [World.setCell, Array.getElem?_modify, if_true]
  rw [h]; rfl
theorem Box.other {W : World} {b : Nat} {e : TypeId} {v u : Value} (h : Box W b e v) {a : Addr} (hne : b ≠ a.block) : Box (W.setCell a u) b e v := (Below.heap_setCell _ _ _ _ hne).trans h
theorem Box.alloc {W : World} {b : Nat} {e : TypeId} {v : Value} (h : Box W b e v) (o : Obj) : Box (W.alloc o) b e v := (Below.heap_alloc _ _ _ h.lt).trans h
theorem Box.new (W : World) (e : TypeId) (v : Value) : Box (W.alloc (.cells #[v] e)) W.heap.size e v := heap_alloc_new W _

theorem Box.grown {W W' : World} {b : Nat} {e : TypeId} {v : Value} {row : Option Nat} (h : Box W b e v) (hg : W.grownBy W' row) (hr : ∀ k, row = some k → b < k) : Box W' b e v :=
  (hg.block _ h.lt (fun he => by have := hr b he.symm; omega)).trans h
theorem Box.ext {W W' : World} {b : Nat} {e : TypeId} {v : Value} (h : Box W b e v) (hE : Ext W W') : Box W' b e v := (hE.b.block _ h.lt).trans h
theorem Own.of_block {α : Type} {enc : α → List Value} {size : Nat} {w W : World} {base : Nat} {e : TypeId} {v : Value} {l : List α} (h : Own enc size w base e v l) (hb : ∀ k, v.ownBlock = some k → W.heap[k]? = w.heap[k]?) : Own enc size W base e v l := by
  refine ⟨h.1, h.2.1, ?_⟩
  rcases h.2.2 with h2 | ⟨g, cap, cur, h1, h2, h3, h4⟩
  · exact .inl h2
  · exact .inr ⟨g, cap, cur, h1, h2, (hb g (by rw [h1]; rfl)).trans h3, h4⟩
theorem Own.setNe {α : Type} {enc : α → List Value} {size : Nat} {w : World} {base : Nat} {e : TypeId} {v : Value} {l : List α} (h : Own enc size w base e v l) {a : Addr} (ha : ∀ k, v.ownBlock = some k → k ≠ a.block) (u : Value) : Own enc size (w.setCell a u) base e v l := by
  refine ⟨h.1, h.2.1, ?_⟩
  rcases h.2.2 with h2 | ⟨g, cap, cur, h1, h2, h3, h4⟩
  · exact .inl h2
  · exact .inr ⟨g, cap, cur, h1, h2, (Below.heap_setCell _ _ _ _ (ha g (by rw [h1]; rfl))).trans h3, h4⟩
theorem ne_of_form {u : Value} {g k size : Nat} (h : u.ownBlock = some k ∨ k = size) (hu : ∀ j, u.ownBlock = some j → g < j) (hs : g < size) : g ≠ k := by
  rcases h with h | h
  · have := hu k h; omega
  · omega
theorem results_cell2 {fn : Func} {a b : Tmp} {t s : TypeId} (h : fn.results = #[.cell a t, .cell b s]) (tmps : Array Value) (P : Program) (w : World) {p q : Addr} {u v : Value} (ha : tmps.getD a undef = .pointer (some p)) (hb : tmps.getD b undef = .pointer (some q))
    (ht : (isAgg t).run P w = .ok false w) (hs : (isAgg s).run P w = .ok false w) (hp : w.cell? p = some u) (hq : w.cell? q = some v) : (results fn tmps).run P w = .ok (.tuple #[u, v]) w := by
  rw [Array.getD_eq_getD_getElem?] at ha hb
  have ht' : _ = _ := ht
  have hs' : _ = _ := hs
  simp [results, h, ha, hb, go_sem, ht', hs', hp, hq]
theorem Own.sl {α : Type} {enc : α → List Value} {size : Nat} {w : World} {base : Nat} {e : TypeId} {v : Value} {l : List α} (h : Own enc size w base e v l) : ∃ q c, v = .slice q l.length c := by
  rcases h.form with ⟨h, hn⟩ | ⟨g, c, h, _⟩
  · exact ⟨none, 0, by rw [h, hn]; rfl⟩
  · exact ⟨_, _, h⟩
theorem Coll.sl {α : Type} {e1 e2 : TypeId} {enc : α → List Value} {size : Nat} {W : World} {base : Nat} {u : Value} {ws : List (List α)} (h : Coll e1 e2 enc size W base u ws) : ∃ q c, u = .slice q ws.length c := by
  rcases h.form with ⟨h, hn⟩ | ⟨g, c, h, _⟩
  · exact ⟨none, 0, by rw [h, hn]; rfl⟩
  · exact ⟨_, _, h⟩
/-- A value is returned of which R holds; the world has grown. -/
def RetV (R : Value → World → Prop) (w : World) (e : Ending) (w' : World) : Prop := ∃ u, e = .returned u ∧ R u w' ∧ Ext w w'
/-- Two values are returned, the second a number. -/
def RetV2 (R : Value → World → Prop) (n : Int) (w : World) (e : Ending) (w' : World) : Prop := ∃ u, e = .returned (.tuple #[u, .int .i64 n]) ∧ R u w' ∧ Ext w w'
end Go.Proofs.YtpcboonjalbihaaDoor
