/-
  The walk of TopConsensusDefined.
  Conditions: the table expr.rows lies in the heap.
-/
import Derived.Test.YtdgapihlgddnjaaDoorTop07C
namespace Go.Proofs.YtdgapihlgddnjaaDoor
open Go.RowKit
attribute [local go_sem] Oper.semAt_some

def agreeD (k : Nat) : Dc := ⟨k, k, zeroEx, agreeEx, zeroEx⟩
theorem ev_cons (m k : Nat) (h1 : 1 ≤ m) (h2 : m ≤ 3) (h3 : 1 ≤ k) (h4 : k ≤ 3) : taskS m (agreeD k) = (consT m k, 0) ∧ aggS (consT m k) = (true, 0) ∧ shortB (consT m k) = true := by
  obtain rfl | rfl | rfl : m = 1 ∨ m = 2 ∨ m = 3 := by omega
  all_goals
    obtain rfl | rfl | rfl : k = 1 ∨ k = 2 ∨ k = 3 := by omega
    all_goals exact ⟨by kernel_rfl, by kernel_rfl, by kernel_rfl⟩
set_option maxRecDepth 16000 in
set_option maxHeartbeats 4000000 in
theorem topcons_law (a b : Nat) (ha : a < 256) (hb : b < 256) (w : World) (hT : Tab w) :
    Calls Tryd.prog 3 #[.int .u8 a, .int .u8 b] w fun e w' => e = .returned (.bool true) ∧ Ext w w' := by
  have HT := hide hT
  have ha0 : (0 : Int) ≤ (a : Int) := by omega
  have ha1 : (a : Int) ≤ 255 := by omega
  have hb0 : (0 : Int) ≤ (b : Int) := by omega
  have hb1 : (b : Int) ≤ 255 := by omega
  go_enter Tryd.func3, Tryd.ntmps3
  go_wp2_with fail
  obtain ⟨m, hm⟩ : ∃ m : Nat, 1 + (a : Int) % 3 = (m : Int) := ⟨1 + a % 3, by omega⟩
  obtain ⟨k, hk⟩ : ∃ k : Nat, 1 + (b : Int) % 3 = (k : Int) := ⟨1 + b % 3, by omega⟩
  have hm1 : 1 ≤ m := by omega
  have hm3 : m ≤ 3 := by omega
  have hk1 : 1 ≤ k := by omega
  have hk3 : k ≤ 3 := by omega
  rw [hm, hk]
  clear hm hk
  obtain ⟨ev1, ev2, ev3⟩ := ev_cons m k hm1 hm3 hk1 hk3
  have EV1 := hide ev1
  have EV2 := hide ev2
  have EV3 := hide ev3
  have hkm : k ^ m ≤ 1024 := by
    obtain rfl | rfl | rfl : m = 1 ∨ m = 2 ∨ m = 3 := by omega
    all_goals
      obtain rfl | rfl | rfl : k = 1 ∨ k = 2 ∨ k = 3 := by omega
      all_goals decide
  have HCO := hide (fun W => consensus_any m k W hm1 (by omega) hk1 (by omega) hkm)
  have HFW : Hid (fewV (m : Int) (k : Int)) := by
    obtain rfl | rfl | rfl : m = 1 ∨ m = 2 ∨ m = 3 := by omega
    all_goals
      obtain rfl | rfl | rfl : k = 1 ∨ k = 2 ∨ k = 3 := by omega
      all_goals exact fun _ _ _ _ => by decide
  clear ev1 ev2 ev3 ha hb ha0 ha1 hb0 hb1 hT hkm
  refine (runAgree_any w).mono ?_
  rintro e w1 ⟨u, rfl, hu, hE1⟩
  have HA := hide hu
  obtain ⟨q1, k1, rfl, -⟩ := hu.at_.form
  have HE1 := hide hE1
  clear hu hE1
  go_wp2_with fail
  refine (ptask_any m (agreeD k) _ w1 (HT.out.ext HE1.out) ⟨_, none, 0, q1, k1, none, 0, rfl, exAt_zero _ _ _, HA.out.at_, exAt_zero _ _ _⟩ (show zeroEx.nodes ≤ 100000 by decide) (show agreeEx.nodes ≤ 100000 by decide) (show zeroEx.nodes ≤ 100000 by decide) HFW.out HFW.out).mono ?_
  rintro e w2 ⟨u, rfl, hu, hE2⟩
  rw [EV1.out] at hu ⊢
  have HU1 := hide (hu.rep_ EV3.out)
  obtain ⟨p1, c1, rfl, -⟩ := hu.outs_
  have HE2 := hide (HE1.out.trans hE2)
  obtain ⟨W2, hW2⟩ : ∃ W2, w2.alloc (.cells #[.int .i64 (consT m k).n, .int .i64 (consT m k).ins, .int .i64 (consT m k).outs, .slice p1 (consT m k).cs.length c1] 24) = W2 := ⟨_, rfl⟩
  have HB2 : Hid (TBox W2 w2.heap.size (.int .i64 (consT m k).n) (.int .i64 (consT m k).ins) (.int .i64 (consT m k).outs) (.slice p1 (consT m k).cs.length c1)) := by show _ = _; rw [← hW2]; exact heap_alloc_new w2 _
  have HEW : Hid (Ext w2 W2) := by show Ext _ _; rw [← hW2]; exact (Ext.refl w2).alloc _
  have HW2 := hide hW2
  clear hu hE2 HA hW2
  go_wp2_with fail
  rw [HW2.out]
  refine (HCO.out _).mono ?_
  rintro e w3 ⟨u, rfl, hu, hE3⟩
  have HU2 := hide (hu.rep_ EV3.out)
  obtain ⟨p2, c2, rfl, -⟩ := hu.outs_
  have HE3 := hide (HE2.out.trans (HEW.out.trans hE3))
  have HU1 := hide (HU1.out.ext (HEW.out.trans hE3))
  have HB2 := hide (HB2.out.ext hE3)
  obtain ⟨W3, hW3⟩ : ∃ W3, w3.alloc (.cells #[.int .i64 (consT m k).n, .int .i64 (consT m k).ins, .int .i64 (consT m k).outs, .slice p2 (consT m k).cs.length c2] 24) = W3 := ⟨_, rfl⟩
  have HB3 : Hid (TBox W3 w3.heap.size (.int .i64 (consT m k).n) (.int .i64 (consT m k).ins) (.int .i64 (consT m k).outs) (.slice p2 (consT m k).cs.length c2)) := by show _ = _; rw [← hW3]; exact heap_alloc_new w3 _
  have HEX : Hid (Ext w3 W3) := by show Ext _ _; rw [← hW3]; exact (Ext.refl w3).alloc _
  have HW3 := hide hW3
  have HU1 := hide (HU1.out.ext HEX.out)
  have HU2 := hide (HU2.out.ext HEX.out)
  obtain ⟨x0, x1, x2, x3⟩ := HB2.out.cells
  have xz := lt_of_heap HB2.out
  generalize w2.heap.size = b2 at HB2 x0 x1 x2 x3 xz ⊢
  clear hu hE3 hW3
  go_wp2_with fail
  rw [HW3.out]
  have h1 := pagreement_any _ _ W3 HU1.out
  rw [EV2.out] at h1
  refine h1.mono ?_
  clear h1
  rintro e w4 ⟨rfl, hE4⟩
  have HU1 := hide (HU1.out.ext hE4)
  have HU2 := hide (HU2.out.ext hE4)
  have HB2 := hide (HB2.out.ext (HEX.out.trans hE4))
  have HB3 := hide (HB3.out.ext hE4)
  have HE4 := hide (HE3.out.trans (HEX.out.trans hE4))
  generalize w3.heap.size = b3 at HB3 ⊢
  clear hE4 x0 x1 x2 x3 xz
  obtain ⟨x0, x1, x2, x3⟩ := HB2.out.cells
  have xz := lt_of_heap HB2.out
  obtain ⟨y0, y1, y2, y3⟩ := HB3.out.cells
  have yz := lt_of_heap HB3.out
  go_wp2_with fail
  have h1 := rsame_tk _ _ _ _ w4 HU1.out HU2.out
  rw [decide_eq_true (rfl : consT m k = consT m k)] at h1
  refine h1.mono ?_
  clear h1
  rintro e w5 ⟨rfl, hE5⟩
  have HE5 := hide (HE4.out.trans hE5)
  clear hE5 x0 x1 x2 x3 xz y0 y1 y2 y3 yz
  go_wp2_with fail
  refine (awake07_any w5 (HT.out.ext HE5.out)).mono ?_
  rintro e w6 ⟨rfl, hE6⟩
  go_wp2_with fail
  go_ret
  exact ⟨rfl, HE5.out.trans hE6⟩
end Go.Proofs.YtdgapihlgddnjaaDoor
