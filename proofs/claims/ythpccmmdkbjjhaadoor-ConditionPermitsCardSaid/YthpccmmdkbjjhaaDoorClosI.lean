/-
  The closures that choose the vectors (condition.Inputs$1, Outputs$2).
  Conditions: as each theorem states.
-/
import Derived.Test.YthpccmmdkbjjhaaDoorHolds
namespace Go.Proofs.YthpccmmdkbjjhaaDoor
open Go.RowKit

abbrev gz : Gr := ⟨0, 0, 0, 0, 0, 0⟩
/-- The block of an expression's three cells. -/
def ExBox (w : World) (b : Nat) (e : Ex) : Prop := ∃ p c, w.heap[b]? = some (.cells #[.int .i64 e.op, .int .i64 e.num, .slice p e.args.length c] 26 (0, 0)) ∧ ExAt w (.agg #[.int .i64 e.op, .int .i64 e.num, .slice p e.args.length c]) e
theorem ExBox.ext {w W : World} {b : Nat} {e : Ex} (h : ExBox w b e) (hE : Ext w W) : ExBox W b e := by
  obtain ⟨p, c, h1, h2⟩ := h
  exact ⟨p, c, (hE.b.block _ (lt_of_heap h1)).trans h1, h2.ext hE⟩
theorem IBox.at_ {w : World} {b : Nat} {t : TypeId} {v : Value} (h : w.heap[b]? = some (.cells #[v] t (0, 0))) : w.cell? ⟨b, 0, none⟩ = some v ∧ b < w.heap.size := ⟨by rw [cell_of_row _ _ _ _ _ _ h]; rfl, lt_of_heap h⟩
set_option maxHeartbeats 1000000 in
theorem inok_any (n : Nat) (e : Ex) (l : List Int) (bc bn : Nat) (u : Value) (w : World) (hT : Tab w) (hb : ExBox w bc e) (hn : w.heap[bn]? = some (.cells #[.int .i64 n] 3 (0, 0))) (hl : Row icells 1 w u l) (hs : Sc.ok ⟨n, l, [], gz⟩) (hno : e.nodes ≤ 100000) :
    Calls Tryd.prog 47 #[u, P0 bc, P0 bn] w fun e' w' => e' = .returned (.bool (holdsB ⟨n, l, [], gz⟩ e)) ∧ Ext w w' := by
  obtain ⟨p, c, hbl, hv⟩ := hb
  have HH := hide (holds_any ⟨n, l, [], gz⟩ hs e _ (.agg #[.int .i64 n, u, .slice none 0 0, .int .i64 0, .int .i64 0, .int .i64 0, .int .i64 0, .int .i64 0, .slice none 0 0]) w hT hv hno ⟨_, _, _, rfl, hl, Row.nil _ _ _, Row.nil _ _ _⟩)
  obtain ⟨c0, c1, c2, hz⟩ := xbox3 hbl (Ext.refl w)
  obtain ⟨d0, hz2⟩ := IBox.at_ hn
  obtain ⟨q, k, rfl, -⟩ := hl.int_all
  clear hbl hv hn hl hs hT
  generalize holdsB ⟨n, l, [], gz⟩ e = res at HH ⊢
  go_enter Tryd.func47, Tryd.ntmps47
  go_wp2_with fail
  refine HH.out.mono ?_
  rintro e' w1 ⟨rfl, hE1⟩
  go_wp2_with fail
  go_ret
  exact ⟨rfl, hE1⟩
set_option maxHeartbeats 1000000 in
theorem outok_any (n : Nat) (e : Ex) (li l : List Int) (bc bn bi : Nat) (u ui : Value) (w : World) (hT : Tab w) (hb : ExBox w bc e) (hn : w.heap[bn]? = some (.cells #[.int .i64 n] 3 (0, 0))) (hi : w.heap[bi]? = some (.cells #[ui] 38 (0, 0)))
    (hli : Row icells 1 w ui li) (hl : Row icells 1 w u l) (hs : Sc.ok ⟨n, li, l, gz⟩) (hno : e.nodes ≤ 100000) :
    Calls Tryd.prog 56 #[u, P0 bc, P0 bn, P0 bi] w fun e' w' => e' = .returned (.bool (holdsB ⟨n, li, l, gz⟩ e)) ∧ Ext w w' := by
  obtain ⟨p, c, hbl, hv⟩ := hb
  have HH := hide (holds_any ⟨n, li, l, gz⟩ hs e _ (.agg #[.int .i64 n, ui, u, .int .i64 0, .int .i64 0, .int .i64 0, .int .i64 0, .int .i64 0, .slice none 0 0]) w hT hv hno ⟨_, _, _, rfl, hli, hl, Row.nil _ _ _⟩)
  obtain ⟨c0, c1, c2, hz⟩ := xbox3 hbl (Ext.refl w)
  obtain ⟨d0, hz2⟩ := IBox.at_ hn
  obtain ⟨d1, hz3⟩ := IBox.at_ hi
  obtain ⟨q, k, rfl, -⟩ := hl.int_all
  obtain ⟨qi, ki, rfl, -⟩ := hli.int_all
  clear hbl hv hn hl hs hT hi hli
  generalize holdsB ⟨n, li, l, gz⟩ e = res at HH ⊢
  go_enter Tryd.func56, Tryd.ntmps56
  go_wp2_with fail
  refine HH.out.mono ?_
  rintro e' w1 ⟨rfl, hE1⟩
  go_wp2_with fail
  go_ret
  exact ⟨rfl, hE1⟩
end Go.Proofs.YthpccmmdkbjjhaaDoor
