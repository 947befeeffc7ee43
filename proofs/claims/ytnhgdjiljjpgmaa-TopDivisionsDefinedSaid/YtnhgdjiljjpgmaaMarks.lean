/-
  A function that enters ranges over functions in a loop: its marks, its end.
  Conditions: none.
-/
import Derived.Test.YtnhgdjiljjpgmaaSeqA
import Derived.Deep.LoopGhost
namespace Go.Proofs.Ytnhgdjiljjpgmaa
open Go.RowKit

/-- The deferred marks of the loops that were entered, the newest first; each below the one before it, none below B. -/
def Marks (B : Nat) (W : World) : Nat → List Deferred → Prop
  | _, [] => True
  | top, d :: ds => ∃ M, d = { target := .collected M, args := #[] } ∧ B ≤ M ∧ M < top ∧ W.heap[M]? = some (.deferred (some [])) ∧ Marks B W M ds
theorem Marks.of_heap {B : Nat} {W W' : World} : ∀ {ds : List Deferred} {top : Nat}, Marks B W top ds → (∀ k, B ≤ k → k < top → W.heap[k]? = some (.deferred (some [])) → W'.heap[k]? = W.heap[k]?) → Marks B W' top ds
  | [], _, _, _ => trivial
  | _ :: _, _, ⟨M, h1, h2, h3, h4, h5⟩, h => ⟨M, h1, h2, h3, (h M h2 h3 h4).trans h4, h5.of_heap fun k hk hkm => h k hk (by omega)⟩
theorem Marks.top {B : Nat} {W : World} : ∀ {ds : List Deferred} {top top' : Nat}, Marks B W top ds → top ≤ top' → Marks B W top' ds
  | [], _, _, _, _ => trivial
  | _ :: _, _, _, ⟨M, h1, h2, h3, h4, h5⟩, h => ⟨M, h1, h2, by omega, h4, h5⟩
/-- Its end behind any number of such loops. -/
theorem leave_marks {P : Program} {fn : Func} {R : Ending → World → Prop} {tmps : Array Value} {v : Value} {B : Nat} : ∀ (ds : List Deferred) (top : Nat) (W : World), Marks B W top ds →
    (∀ W', Chg B W W' → (results fn tmps).run P W' = .ok v W') → (∀ W', Chg B W W' → R (.returned v) W') → LeavesInM Fence.wide 0 P fn tmps R ds .returning W
  | [], _, W, _, hr, hR => ⟨v, hr W (Chg.refl _ _), hR W (Chg.refl _ _)⟩
  | _ :: ds, top, W, ⟨M, h1, h2, h3, h4, h5⟩, hr, hR => by
    have hc : Chg B W (W.putObj M (.deferred none)) := Chg.putObj _ h4 rfl h2
    refine ⟨by simp, .inl ⟨M, _, by rw [h1], run_takeDeferred h4, ?_⟩⟩
    exact leave_marks ds M _ (h5.of_heap fun k _ hk _ => World.putObj_heap_other (by omega)) (fun W' h => hr W' (hc.trans h)) (fun W' h => hR W' (hc.trans h))
theorem leave_marks_ret {P : Program} {fn : Func} {R : Ending → World → Prop} {a : Act} {v : Value} {B top : Nat} {W : World} (hm : Marks B W top a.defers)
    (hr : ∀ W', (results fn a.tmps).run P W' = .ok v W') (hR : ∀ W', Chg B W W' → R (.returned v) W') : bodyPostM Fence.wide 0 P fn R .ret a W :=
  leave_marks a.defers top W hm (fun W' _ => hr W') hR
end Go.Proofs.Ytnhgdjiljjpgmaa
