/-
  The condition of an agreement (runAgree), the library's Consensus.
  Conditions: as each theorem states.
-/
import Derived.Test.YtdgapihlgddnjaaDoorLibMade
import Derived.Test.YtdgapihlgddnjaaDoorAw13
namespace Go.Proofs.YtdgapihlgddnjaaDoor
open Go.RowKit
attribute [local go_sem] Oper.semAt_some

theorem mkvar7_any (S : Nat → Prop) (n : Int) (w : World) : Calls Tryd.prog 41 #[.int .i64 n] w (RetE S (.mk 1 n []) w) := by
  go_enter Tryd.func41, Tryd.ntmps41
  go_wp2_with fail
  exact bodyPost_ret (results_agg3 rfl _ _ rfl (by rw [cell_new]; rfl) (by rw [cell_new]; rfl) (by rw [cell_new]; rfl)) rfl ⟨_, rfl, fun _ _ _ => exAt_zero _ _ _, (Ext.refl w).alloc _⟩
/-- All outputs are one input. -/
def agreeEx : Ex := .mk 14 0 [.mk 13 0 [.mk 7 0 [.mk 3 0 [.mk 1 1 []], .mk 2 0 [.mk 1 0 []]]]]
set_option maxHeartbeats 1000000 in
theorem runAgree_any (w : World) : Calls Tryd.prog 7 #[] w (RetE (fun _ => False) agreeEx w) := by
  obtain ⟨S, hS⟩ : ∃ S : Nat → Prop, S = fun k => k = w.heap.size := ⟨_, rfl⟩
  have HV := hide (fun n W => mkvar7_any S n W)
  have HO := hide (fun op ea a W (hs : ∀ k, S k → k < W.heap.size) (h : ExBut S W a ea) => mkone_any S op ea a W hs h)
  have HT := hide (fun op ea eb a b W (hs : ∀ k, S k → k < W.heap.size) (h : ExBut S W a ea) (h2 : ExBut S W b eb) => mktwo_any S op ea eb a b W hs h h2)
  have hE0 : Ext w (w.alloc (.cells #[.int .i64 0, .int .i64 0, .slice none 0 0] 30)) := (Ext.refl w).alloc _
  have HB0 := hide (heap_alloc_new w (.cells #[.int .i64 0, .int .i64 0, .slice none 0 0] 30))
  have HZ : Hid (∀ W, Ext (w.alloc (.cells #[.int .i64 0, .int .i64 0, .slice none 0 0] 30)) W → ∀ k, S k → k < W.heap.size) := fun W hW k hk => by
    rw [hS] at hk
    have := hW.size
    simp only [World.size_alloc] at this
    have hk : k = w.heap.size := hk
    omega
  have HSS := hide hS
  have HE0 := hide hE0
  clear hS hE0
  go_enter Tryd.func7, Tryd.ntmps7
  go_wp2_with fail
  refine (HV.out _ _).mono ?_
  rintro e w1 ⟨u1, rfl, hu1, hE1⟩
  have HU1 := hide hu1
  obtain ⟨q1, k1, rfl, -⟩ := hu1.at_.form
  have HE1 := hide hE1
  clear hu1 hE1
  go_wp2_with fail
  refine (HO.out _ _ _ _ (HZ.out _ HE1.out) HU1.out).mono ?_
  rintro e w2 ⟨u2, rfl, hu2, hE2⟩
  have HU2 := hide hu2
  obtain ⟨q2, k2, rfl, -⟩ := hu2.at_.form
  have HE2 := hide (HE1.out.trans hE2)
  clear hu2 hE2
  go_wp2_with fail
  refine (HV.out _ _).mono ?_
  rintro e w3 ⟨u3, rfl, hu3, hE3⟩
  have HU3 := hide hu3
  obtain ⟨q3, k3, rfl, -⟩ := hu3.at_.form
  have HU2 := hide (HU2.out.ext hE3)
  have HE3 := hide (HE2.out.trans hE3)
  clear hu3 hE3
  go_wp2_with fail
  refine (HO.out _ _ _ _ (HZ.out _ HE3.out) HU3.out).mono ?_
  rintro e w4 ⟨u4, rfl, hu4, hE4⟩
  have HU4 := hide hu4
  obtain ⟨q4, k4, rfl, -⟩ := hu4.at_.form
  have HU2 := hide (HU2.out.ext hE4)
  have HE4 := hide (HE3.out.trans hE4)
  clear hu4 hE4
  go_wp2_with fail
  refine (HT.out _ _ _ _ _ _ (HZ.out _ HE4.out) HU2.out HU4.out).mono ?_
  rintro e w5 ⟨u5, rfl, hu5, hE5⟩
  have HU5 := hide hu5
  obtain ⟨q5, k5, rfl, -⟩ := hu5.at_.form
  have HE5 := hide (HE4.out.trans hE5)
  clear hu5 hE5
  go_wp2_with fail
  refine (HO.out _ _ _ _ (HZ.out _ (HE5.out.alloc _)) (HU5.out.ext ((Ext.refl _).alloc _))).mono ?_
  rintro e w6 ⟨u6, rfl, hu6, hE6⟩
  have HU6 := hide hu6
  obtain ⟨q6, k6, rfl, -⟩ := hu6.at_.form
  have HE6 := hide ((HE5.out.alloc _).trans hE6)
  clear hu6 hE6
  go_wp2_with fail
  refine (HO.out _ _ _ _ (HZ.out _ HE6.out) HU6.out).mono ?_
  rintro e w7 ⟨u7, rfl, hu7, hE7⟩
  have HU7 := hide hu7
  obtain ⟨q7, k7, rfl, -⟩ := hu7.at_.form
  have HE7 := hide (HE6.out.trans hE7)
  have hb := (HE7.out.b.block _ (lt_of_heap HB0.out)).trans HB0.out
  have e0 := decl_cells hb 0
  have e1 := decl_cells hb 1
  have e2 := decl_cells hb 2
  have f0 := frozen_of (j := 0) hb
  have f1 := frozen_of (j := 1) hb
  have f2 := frozen_of (j := 2) hb
  have HB := hide hb
  have hz := lt_of_heap hb
  clear hu7 hE7 hb
  go_wp2_with fail
  refine bodyPost_ret (results_agg3 rfl _ _ rfl (decl_cells (ebox_end HB.out) 0) (decl_cells (ebox_end HB.out) 1) (decl_cells (ebox_end HB.out) 2)) rfl ⟨_, rfl, ebox_but (S := fun _ => False) ?_ _ _ _, ebox_ext (HE0.out.trans HE7.out) (Nat.le_refl _) _ _ _⟩
  have := HU7.out
  rw [HSS.out] at this
  exact fun V hV hk => this V hV fun k h1 h2 => hk k (fun h => h.elim (fun h => h) h1) h2
/-- The kind of an agreement, as it is made. -/
theorem results_kind {fn : Func} {a : Tmp} (h : fn.results = #[.cell a 89]) (tmps : Array Value) (w : World) {g : Nat} {u0 u1 u2 u3 u4 u5 u6 : Value} (ha : tmps.getD a undef = .pointer (some ⟨g, 0, none⟩))
    (hb : w.heap[g]? = some (.cells #[u0, u1, u2, u3, u4, u5, u6] 89 (0, 0))) : (results fn tmps).run Tryd.prog w = .ok (.agg #[u0, u1, u2, u3, u4, u5, u6]) w := by
  have h0 : w.cell? ⟨g, 0, none⟩ = some u0 := decl_cells hb 0
  have h1 : w.cell? ⟨g, 1, none⟩ = some u1 := decl_cells hb 1
  have h2 : w.cell? ⟨g, 2, none⟩ = some u2 := decl_cells hb 2
  have h3 : w.cell? ⟨g, 3, none⟩ = some u3 := decl_cells hb 3
  have h4 : w.cell? ⟨g, 4, none⟩ = some u4 := decl_cells hb 4
  have h5 : w.cell? ⟨g, 5, none⟩ = some u5 := decl_cells hb 5
  have h6 : w.cell? ⟨g, 6, none⟩ = some u6 := decl_cells hb 6
  rw [Array.getD_eq_getD_getElem?] at ha
  simp [results, h, ha, go_sem, h0, h1, h2, h3, h4, h5, h6]
theorem agreement_any (n m : Int) (w : World) : Calls Tryd.prog 44 #[.int .i64 n, .int .i64 m, .int .i64 1] w fun e w' =>
    ∃ bk, e = .returned (.agg #[.int .i64 n, .int .i64 m, .int .i64 m, .int .i64 1, .nilFunc, .func (.func 90) #[] #[.pointer (some ⟨bk, 0, none⟩)], .nilFunc]) ∧ Box w' bk 3 (.int .i64 1) ∧ Ext w w' := by
  go_enter Tryd.func44, Tryd.ntmps44
  go_wp2_with fail
  have hb2 := heap_alloc_new (w.alloc (.cells #[.int .i64 1] 3)) (.cells #[.int .i64 n, .int .i64 m, .int .i64 m, .int .i64 1, .nilFunc, .func (.func 90) #[] #[.pointer (some ⟨w.heap.size, 0, none⟩)], .nilFunc] 89)
  rw [World.size_alloc] at hb2
  refine bodyPost_ret (results_kind rfl _ _ rfl hb2) rfl ⟨w.heap.size, rfl, ?_, ((Ext.refl w).alloc _).alloc _⟩
  exact (Below.heap_alloc _ _ _ (by simp)).trans (heap_alloc_new w _)
set_option maxHeartbeats 1000000 in
theorem consensus_any (n m : Nat) (w : World) (hn1 : 1 ≤ n) (hn5 : n ≤ 5) (hm1 : 1 ≤ m) (hm8 : m ≤ 8) (hmn : m ^ n ≤ 1024) :
    Calls Tryd.prog 8 #[.int .i64 n, .int .i64 m] w (RetV2 (fun u w' => TkAt w' u (consT n m)) 0 w) := by
  have HA := hide (fun W => agreement_any n m W)
  have HM := hide (fun bk W (hb : Box W bk 3 (.int .i64 1)) => made_any n m bk W hb hn1 hn5 hm1 hm8 hmn)
  have HT0 : Hid (TBox (w.alloc (.cells #[.int .i64 0, .int .i64 0, .int .i64 0, .slice none 0 0] 24)) w.heap.size (.int .i64 0) (.int .i64 0) (.int .i64 0) (.slice none 0 0)) := heap_alloc_new w _
  have HE0 : Hid (Ext w (w.alloc (.cells #[.int .i64 0, .int .i64 0, .int .i64 0, .slice none 0 0] 24))) := (Ext.refl w).alloc _
  clear hn1 hn5 hm1 hm8 hmn
  go_enter Tryd.func8, Tryd.ntmps8
  go_wp2_with fail
  refine (HA.out _).mono ?_
  rintro e w1 ⟨bk, rfl, hb, hE1⟩
  have HB := hide hb
  have HE1 := hide hE1
  clear hb hE1
  go_wp2_with fail
  refine (HM.out bk _ (HB.out.ext ((Ext.refl _).alloc _))).mono ?_
  rintro e w2 ⟨u, rfl, hu, hE2⟩
  have HU := hide hu
  obtain ⟨q, vs, rfl, hc, -⟩ := hu
  obtain ⟨pq, cq, rfl⟩ := hc.own.sl
  have HE2 := hide ((HE1.out.alloc _).trans hE2)
  have HT2 := hide (HT0.out.ext HE2.out)
  obtain ⟨y0, y1, y2, y3⟩ := HT2.out.cells
  obtain ⟨f0, f1, f2, f3⟩ := HT2.out.frozen
  have hz := lt_of_heap HT2.out
  have hz1 : w.heap.size < w1.heap.size + 1 := by have := HE1.out.size; simp at this; omega
  clear hE2 hc
  go_wp2_with fail
  refine leave_task rfl rfl rfl rfl (HT2.out.store _ _ _ _) ⟨_, rfl, ((HU.out.store HT2.out (by simp only [World.size_alloc]; exact hz1) _ _ _ _).at_), ext_store4 (HE0.out.trans HE2.out) (Nat.le_refl _) _ _ _ _⟩
end Go.Proofs.YtdgapihlgddnjaaDoor
