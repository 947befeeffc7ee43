/-
  The condition of an agreement (runAgree), the library's Consensus.
  Conditions: as each theorem states.
-/
import Derived.Test.YthkididgbaamcaaGreatDoorLibMade
import Derived.Test.YthkididgbaamcaaGreatDoorAw13
namespace Go.Proofs.YthkididgbaamcaaGreatDoor
open Go.RowKit
attribute [local go_sem] Oper.semAt_some

/-- All outputs are one input. -/
def agreeEx : Ex := .mk 14 0 [.mk 13 0 [.mk 7 0 [.mk 3 0 [.mk 1 1 []], .mk 2 0 [.mk 1 0 []]]]]
/-- The kind of an agreement, as it is made. -/
theorem results_kind {fn : Func} {a : Tmp} (h : fn.results = #[.cell a 86]) (tmps : Array Value) (w : World) {g : Nat} {u0 u1 u2 u3 u4 u5 u6 : Value} (ha : tmps.getD a undef = .pointer (some ⟨g, 0, none⟩))
    (hb : w.heap[g]? = some (.cells #[u0, u1, u2, u3, u4, u5, u6] 86 (0, 0))) : (results fn tmps).run Tryz.prog w = .ok (.agg #[u0, u1, u2, u3, u4, u5, u6]) w := by
  have h0 : w.cell? ⟨g, 0, none⟩ = some u0 := decl_cells hb 0
  have h1 : w.cell? ⟨g, 1, none⟩ = some u1 := decl_cells hb 1
  have h2 : w.cell? ⟨g, 2, none⟩ = some u2 := decl_cells hb 2
  have h3 : w.cell? ⟨g, 3, none⟩ = some u3 := decl_cells hb 3
  have h4 : w.cell? ⟨g, 4, none⟩ = some u4 := decl_cells hb 4
  have h5 : w.cell? ⟨g, 5, none⟩ = some u5 := decl_cells hb 5
  have h6 : w.cell? ⟨g, 6, none⟩ = some u6 := decl_cells hb 6
  rw [Array.getD_eq_getD_getElem?] at ha
  simp [results, h, ha, go_sem, h0, h1, h2, h3, h4, h5, h6]
theorem agreement_any (n m : Int) (w : World) : Calls Tryz.prog 52 #[.int .i64 n, .int .i64 m, .int .i64 1] w fun e w' =>
    ∃ bk, e = .returned (.agg #[.int .i64 n, .int .i64 m, .int .i64 m, .int .i64 1, .nilFunc, .func (.func 84) #[] #[.pointer (some ⟨bk, 0, none⟩)], .nilFunc]) ∧ Box w' bk 3 (.int .i64 1) ∧ Ext w w' := by
  go_enter Tryz.func52, Tryz.ntmps52
  go_wp2_with fail
  have hb2 := heap_alloc_new (w.alloc (.cells #[.int .i64 1] 3)) (.cells #[.int .i64 n, .int .i64 m, .int .i64 m, .int .i64 1, .nilFunc, .func (.func 84) #[] #[.pointer (some ⟨w.heap.size, 0, none⟩)], .nilFunc] 86)
  rw [World.size_alloc] at hb2
  refine bodyPost_ret (results_kind rfl _ _ rfl hb2) rfl ⟨w.heap.size, rfl, ?_, ((Ext.refl w).alloc _).alloc _⟩
  exact (Below.heap_alloc _ _ _ (by simp)).trans (heap_alloc_new w _)
set_option maxHeartbeats 1000000 in
theorem consensus_any (n m : Nat) (w : World) (hn1 : 1 ≤ n) (hn5 : n ≤ 5) (hm1 : 1 ≤ m) (hm8 : m ≤ 8) (hmn : m ^ n ≤ 1024) :
    Calls Tryz.prog 13 #[.int .i64 n, .int .i64 m] w (RetV2 (fun u w' => TkAt w' u (consT n m)) 0 w) := by
  have HA := hide (fun W => agreement_any n m W)
  have HM := hide (fun bk W (hb : Box W bk 3 (.int .i64 1)) => made_any n m bk W hb hn1 hn5 hm1 hm8 hmn)
  have HT0 : Hid (TBox (w.alloc (.cells #[.int .i64 0, .int .i64 0, .int .i64 0, .slice none 0 0] 33)) w.heap.size (.int .i64 0) (.int .i64 0) (.int .i64 0) (.slice none 0 0)) := heap_alloc_new w _
  have HE0 : Hid (Ext w (w.alloc (.cells #[.int .i64 0, .int .i64 0, .int .i64 0, .slice none 0 0] 33))) := (Ext.refl w).alloc _
  clear hn1 hn5 hm1 hm8 hmn
  go_enter Tryz.func13, Tryz.ntmps13
  go_wp2_with fail
  refine (HA.out _).mono ?_
  rintro e w1 ⟨bk, rfl, hb, hE1⟩
  have HB := hide hb
  have HE1 := hide hE1
  clear hb hE1
  go_wp2_with fail
  refine (HM.out bk _ (HB.out.ext ((Ext.refl _).alloc _))).mono ?_
  rintro e w2 ⟨u, rfl, hu, hE2⟩
  have HU := hide hu
  obtain ⟨q, vs, rfl, hc, -⟩ := hu
  obtain ⟨pq, cq, rfl⟩ := hc.own.sl
  have HE2 := hide ((HE1.out.alloc _).trans hE2)
  have HT2 := hide (HT0.out.ext HE2.out)
  obtain ⟨y0, y1, y2, y3⟩ := HT2.out.cells
  obtain ⟨f0, f1, f2, f3⟩ := HT2.out.frozen
  have hz := lt_of_heap HT2.out
  have hz1 : w.heap.size < w1.heap.size + 1 := by have := HE1.out.size; simp at this; omega
  clear hE2 hc
  go_wp2_with fail
  refine leave_task rfl rfl rfl rfl (HT2.out.store _ _ _ _) ⟨_, rfl, ((HU.out.store HT2.out (by simp only [World.size_alloc]; exact hz1) _ _ _ _).at_), ext_store4 (HE0.out.trans HE2.out) (Nat.le_refl _) _ _ _ _⟩
end Go.Proofs.YthkididgbaamcaaGreatDoor
