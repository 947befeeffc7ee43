/-
  The reference's truth of a condition (roundtableref07.ranged, Eval, Truth).
  Conditions: as each theorem states.
-/
import Derived.Test.YthkididgbaamcaaGreatDoorExN
import Derived.Test.YthkididgbaamcaaGreatDoorOwned
import Derived.Test.YthkididgbaamcaaGreatDoorSeqA
namespace Go.Proofs.YthkididgbaamcaaGreatDoor
open Go.RowKit

/-- How a scene lies. -/
def ScAt (w : World) (u : Value) (s : Sc) (vars : List Int) : Prop :=
  ∃ si so sv, u = .agg #[.int .i64 s.n, si, so, .int .i64 s.h.h0, .int .i64 s.h.h1, .int .i64 s.h.h2, .int .i64 s.h.h3, .int .i64 s.h.h4, sv] ∧ Row icells 1 w si s.inp ∧ Row icells 1 w so s.out ∧ Row icells 1 w sv vars
theorem ScAt.ext {w W : World} {u : Value} {s : Sc} {vars : List Int} (h : ScAt w u s vars) (hE : Ext w W) : ScAt W u s vars := by
  obtain ⟨si, so, sv, hu, h1, h2, h3⟩ := h
  exact ⟨si, so, sv, hu, h1.ext hE, h2.ext hE, h3.ext hE⟩

theorem ptruth_any (b : Bool) (w : World) : Calls Tryz.prog 129 #[.bool b] w fun e' w' => e' = .returned (.int .i64 (flag b)) ∧ w' = w := by
  cases b
  all_goals
    go_enter Tryz.func129, Tryz.ntmps129
    go_wp2
    go_ret
    exact ⟨rfl, rfl⟩
/-- The bit of a row of a scene. -/
theorem shr_bit (h : Int) (b : Nat) (h0 : 0 ≤ h) (h1 : h ≤ 1048576) (_hb : b < 5) : (bits .and .i64 (h / 2 ^ b) 1 == 1) = has h b := by
  rw [and_one (Int.ediv_nonneg h0 (Int.le_of_lt (Int.pow_pos (by decide)))) (Int.le_trans (Int.ediv_le_self _ h0) (by omega))]
  rfl
end Go.Proofs.YthkididgbaamcaaGreatDoor

namespace Go.Proofs.YthkididgbaamcaaGreatDoor
open Go.RowKit

/-- The box of a scene, in a later world. -/
theorem sbox9 {W V : World} {g : Nat} {t : TypeId} {v0 v1 v2 v3 v4 v5 v6 v7 v8 : Value} (hb : W.heap[g]? = some (.cells #[v0, v1, v2, v3, v4, v5, v6, v7, v8] t (0, 0))) (hE : Ext W V) :
    V.cell? ⟨g, 0, none⟩ = some v0 ∧ V.cell? ⟨g, 1, none⟩ = some v1 ∧ V.cell? ⟨g, 2, none⟩ = some v2 ∧ V.cell? ⟨g, 3, none⟩ = some v3 ∧ V.cell? ⟨g, 4, none⟩ = some v4 ∧ V.cell? ⟨g, 5, none⟩ = some v5 ∧
    V.cell? ⟨g, 6, none⟩ = some v6 ∧ V.cell? ⟨g, 7, none⟩ = some v7 ∧ V.cell? ⟨g, 8, none⟩ = some v8 ∧ g < V.heap.size := by
  have h := (hE.b.block _ (lt_of_heap hb)).trans hb
  refine ⟨?_, ?_, ?_, ?_, ?_, ?_, ?_, ?_, ?_, lt_of_heap h⟩ <;> (rw [cell_of_row _ _ _ _ _ _ h]; rfl)
theorem xbox3 {W V : World} {g : Nat} {t : TypeId} {v0 v1 v2 : Value} (hb : W.heap[g]? = some (.cells #[v0, v1, v2] t (0, 0))) (hE : Ext W V) :
    V.cell? ⟨g, 0, none⟩ = some v0 ∧ V.cell? ⟨g, 1, none⟩ = some v1 ∧ V.cell? ⟨g, 2, none⟩ = some v2 ∧ g < V.heap.size := by
  have h := (hE.b.block _ (lt_of_heap hb)).trans hb
  refine ⟨?_, ?_, ?_, lt_of_heap h⟩ <;> (rw [cell_of_row _ _ _ _ _ _ h]; rfl)

theorem Ext.appended' {α : Type} {enc : α → List Value} {size : Nat} {w W W' : World} {base : Nat} {e : TypeId} {v : Value} {l : List α} {o : Obj} (hE : Ext w W) (h : Own enc size W base e v l) (hg : (W.alloc o).grownBy W' v.ownBlock) (hb : w.heap.size ≤ base) : Ext w W' :=
  (hE.alloc o).grown hg (fun k hk => Nat.le_trans hb (h.block_ge k hk))

end Go.Proofs.YthkididgbaamcaaGreatDoor

namespace Go.Proofs.YthkididgbaamcaaGreatDoor
open Go.RowKit

theorem valE_one {s : Sc} {op num : Int} {a : Ex} {vars : List Int} (h0 : op ≠ 0) (h1 : op ≠ 1) : valE s (.mk op num [a]) vars = if isQ op = true then quantS s.n op (cntTo (fun p => valE s a (vars ++ [(p : Int)])) s.n) else oneS s op (valE s a vars) := by
  simp only [valE]; rw [if_neg h0, if_neg h1]
theorem valE_two {s : Sc} {op num : Int} {a b : Ex} {vars : List Int} : valE s (.mk op num [a, b]) vars = twoS s op (valE s a vars) (valE s b vars) := rfl

end Go.Proofs.YthkididgbaamcaaGreatDoor

namespace Go.Proofs.YthkididgbaamcaaGreatDoor
open Go.RowKit

/-- Whether a condition without variables holds in a scene. -/
def truthB (s : Sc) (e : Ex) : Bool := decide (exchk e 0 = 0) && decide (kindOf e.op = 1) && decide (valE s e [] = 1)
theorem exchk_zero {e : Ex} {n : Nat} (h : exchk e n = 0) : e.nodes ≤ 128 ∧ nodesE e n = 0 := by
  unfold exchk at h
  split at h
  · omega
  · split at h
    · omega
    · split at h
      · omega
      · exact ⟨by omega, h⟩

end Go.Proofs.YthkididgbaamcaaGreatDoor
