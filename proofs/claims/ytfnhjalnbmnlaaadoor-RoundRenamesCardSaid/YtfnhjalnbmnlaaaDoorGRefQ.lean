/-
  Graphs that are composed, joined, reversed, made whole in the reference (roundtableref03).
  Conditions: none.
-/
import Derived.Test.YtfnhjalnbmnlaaaDoorGRefP
namespace Go.Proofs.YtfnhjalnbmnlaaaDoor
open Go.RowKit
attribute [local go_sem] Oper.semAt_some

theorem Gr.ext_h {x y : Gr} (hn : x.n = y.n) (h : ∀ p, p < 5 → x.h p = y.h p) : x = y := Gr.ext_ hn (h 0 (by decide)) (h 1 (by decide)) (h 2 (by decide)) (h 3 (by decide)) (h 4 (by decide))
/-- A graph whose first k rows are replaced. -/
def setG (a : Gr) (f : Nat → Int) : Nat → Gr
  | 0 => a
  | k + 1 => (setG a f k).set k (f k)
theorem Gr.set_n (g : Gr) (p : Nat) (x : Int) : (g.set p x).n = g.n := by
  match p with
  | 0 => rfl
  | 1 => rfl
  | 2 => rfl
  | 3 => rfl
  | 4 => rfl
  | _ + 5 => rfl
theorem Gr.set_other (g : Gr) {p q : Nat} (x : Int) (hp : p < 5) (hq : q < 5) (h : q ≠ p) : (g.set p x).h q = g.h q := by
  obtain rfl | rfl | rfl | rfl | rfl : p = 0 ∨ p = 1 ∨ p = 2 ∨ p = 3 ∨ p = 4 := by omega
  all_goals (obtain rfl | rfl | rfl | rfl | rfl : q = 0 ∨ q = 1 ∨ q = 2 ∨ q = 3 ∨ q = 4 := by omega)
  all_goals first | rfl | omega
theorem setG_n (a : Gr) (f : Nat → Int) : ∀ k, (setG a f k).n = a.n
  | 0 => rfl
  | k + 1 => by rw [setG, Gr.set_n, setG_n a f k]
theorem setG_h (a : Gr) (f : Nat → Int) : ∀ k p, k ≤ 5 → p < 5 → (setG a f k).h p = if p < k then f p else a.h p
  | 0, p, _, _ => by simp [setG]
  | k + 1, p, hk, hp => by
    rw [setG]
    by_cases h : p = k
    · subst h; rw [Gr.set_h _ _ _ hp, if_pos (by omega)]
    · rw [Gr.set_other _ _ (by omega) hp h, setG_h a f k p (by omega) hp]
      by_cases h2 : p < k
      · rw [if_pos h2, if_pos (by omega)]
      · rw [if_neg h2, if_neg (by omega)]
theorem setG_made {a : Gr} {n : Nat} (ha : Wf a n) (f : Nat → Int) : setG a f n = mkG n f n := by
  have h5 := ha.n5
  refine Gr.ext_h (by rw [setG_n, ha.n_eq]; rfl) fun p hp => ?_
  rw [setG_h _ _ _ _ h5 hp, mkG_h _ _ _ _ hp]
  split
  · rfl
  · rw [ha.row, ha.out p (by omega)]; rfl
theorem Three.set {w W : World} {a b : Gr} (h : Three w W a b) {p : Nat} (hp : p < 5) (x : Int) : Three w (W.setCell ⟨w.heap.size, 1 + p, none⟩ (.int .i64 x)) (a.set p x) b := by
  refine ⟨⟨h.ext.setCell (Nat.le_refl _) _, h.a.set hp x, ?_⟩, ?_⟩
  · exact (Below.heap_setCell _ _ _ _ (by show w.heap.size + 1 ≠ w.heap.size; omega)).trans h.b
  · obtain ⟨c, hc⟩ := h.c
    exact ⟨c, (Below.heap_setCell _ _ _ _ (by show w.heap.size + 1 + 1 ≠ w.heap.size; omega)).trans hc⟩
end Go.Proofs.YtfnhjalnbmnlaaaDoor
