/-
  A slice of numbers copied (slices.Clone).
  Conditions: as each theorem states.
-/
import Derived.Test.YthkididgbaamcaaGreatDoorOwned
import Derived.ArgAppend
import Derived.Deep.Upon
namespace Go.Proofs.YthkididgbaamcaaGreatDoor
open Go.RowKit
attribute [local go_sem] Oper.semAt_some

set_option maxRecDepth 8000 in
set_option maxHeartbeats 1000000 in
theorem cloneI_any (l : List Int) (b o c : Nat) (w : World) (hl : Row icells 1 w (.slice (some ⟨b, o, none⟩) l.length c) l) (hlen : l.length ≤ 100000) :
    Calls Tryz.prog 33 #[.slice (some ⟨b, o, none⟩) l.length c] w fun e w' => (∃ u, e = .returned u ∧ Own icells 1 w' w.heap.size 3 u l) ∧ Ext w w' := by
  have HL := hide hl
  have qT := fun (w : World) (a : Option Addr) (n c n' c' : Nat) => Lib.run_eql_slice_nil (P := Tryz.prog) w 45 3 a n c n' c' Tryz.underlying45
  clear hl
  go_enter Tryz.func33, Tryz.ntmps33
  have HO : Hid (Own icells 1 (w.alloc (.cells #[] 3)) w.heap.size 3 (.slice (some ⟨w.heap.size, 0, none⟩) 0 0) ([] : List Int)) := Own.empty (fun _ => rfl) (Nat.le_refl _) (heap_alloc_new w _)
  have HE : Hid (Ext w (w.alloc (.cells #[] 3))) := (Ext.refl w).alloc _
  have HR := hide (HL.out.ext HE.out)
  go_wp2_with (at_builtin; refine wpList_appendN rfl (.tmp 5) (.tmp 6) 45 rfl w.heap.size 3 (.int .i64 0) 1 8 Tryz.underlying45 int_info rfl (by decide) _ ([] : List Int) _ l rfl HO.out rfl HR.out int_one (by simp; omega) (by decide) (by simp) ?_; intro v' w' hown' hg)
  go_ret
  exact ⟨⟨_, rfl, hown'⟩, HE.out.grown hg (fun k hk => by injection hk with hk; rw [← hk]; exact Nat.le_refl _)⟩
end Go.Proofs.YthkididgbaamcaaGreatDoor
