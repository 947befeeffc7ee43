/-
  The walk of 'RoundOrders'.
  Conditions: the tables lie in the heap (Tz, Ml).
-/
import Derived.Test.YtfnhjalnbmnlaaaDoorAw15
import Derived.Test.YtfnhjalnbmnlaaaDoorRdFew
import Derived.Test.YtfnhjalnbmnlaaaDoorOrdLaw
namespace Go.Proofs.YtfnhjalnbmnlaaaDoor
open Go.RowKit
attribute [local go_sem] Oper.semAt_some

set_option maxRecDepth 100000 in
set_option maxHeartbeats 8000000 in
theorem rorders_law (a b c : Rd) (w : World) (hT : Tz w) (hM : Ml w) : Calls Tryd.prog 10 #[a.v, b.v, c.v] w fun e w' => e = .returned (.bool true) ∧ Ext w w' := by
  have HAW := hide (fun W (hE : Ext w W) => awake_any W (hT.ext hE) (Ml.ext hM hE))
  have HC1 := hide (fun W => rcompare_any a b W)
  have HC2 := hide (fun W => rcompare_any b c W)
  have HC3 := hide (fun W => rcompare_any a c W)
  have HC4 := hide (fun W => rcompare_any b a W)
  have HC5 := hide (fun W => rcompare_any a a W)
  rw [rcmp_zero'.2 (rfl : a = a)] at HC5
  have hord := rcmp_ord a b c
  have HA := hide (rcmp_anti a b)
  have HZ := hide (rcmp_zero' (a := a) (b := b))
  rw [HA.out] at HC4
  clear hT hM HA
  generalize rcmp a b = x at HC1 HC4 HZ hord
  generalize rcmp b c = y at HC2 hord
  generalize rcmp a c = z at HC3 hord
  obtain ⟨hx, hy, hz, ht⟩ := hord
  have HT3 := hide ht
  clear ht
  have hneg : IntKind.i64.wrap (-(-x)) = x := by rw [Int.neg_neg]; exact IntWalk.i64_in _ (by omega)
  have hneg2 : (-x : Int) ≤ 9223372036854775807 := by omega
  have hneg3 : (-9223372036854775808 : Int) ≤ -x := by omega
  have heq := eql_rd a b
  have HD : Hid ((x == 0) = decide (a = b)) := by
    show _ = _
    rw [Bool.eq_iff_iff, beq_iff_eq, decide_eq_true_iff]; exact HZ.out
  generalize hdd : decide (a = b) = d at heq HD
  have HDD := hide hdd
  have HEQ := hide heq
  clear hdd HZ heq
  go_enter Tryd.func10, Tryd.ntmps10
  go_upto_region 1 with fail
  have HBa : Hid (RdBox (((w.alloc (robj a)).alloc (robj b)).alloc (robj c)) w.heap.size a) := ((rd_new w a).alloc _).alloc _
  have HBb : Hid (RdBox (((w.alloc (robj a)).alloc (robj b)).alloc (robj c)) (w.heap.size + 1) b) := by
    have := rd_new (w.alloc (robj a)) b
    rw [World.size_alloc] at this
    exact this.alloc _
  have HBc : Hid (RdBox (((w.alloc (robj a)).alloc (robj b)).alloc (robj c)) (w.heap.size + 1 + 1) c) := by
    have := rd_new ((w.alloc (robj a)).alloc (robj b)) c
    rwa [World.size_alloc, World.size_alloc] at this
  have HE : Hid (Ext w (((w.alloc (robj a)).alloc (robj b)).alloc (robj c))) := (((Ext.refl w).alloc _).alloc _).alloc _
  generalize ((w.alloc (robj a)).alloc (robj b)).alloc (robj c) = W at HBa HBb HBc HE ⊢
  refine wp_region_ext (by kernel_rfl) (by kernel_rfl) ?_
  obtain ⟨ca0, ca1, ca2, ca3, ca4, ca5, ca6, za⟩ := HBa.out.cells
  obtain ⟨cb0, cb1, cb2, cb3, cb4, cb5, cb6, zb⟩ := HBb.out.cells
  obtain ⟨cc0, cc1, cc2, cc3, cc4, cc5, cc6, zc⟩ := HBc.out.cells
  repeat (go_big_quiet_step ((go_at_call 38; (first | with_reducible exact Calls.ext_of (HC1.out _) | with_reducible exact Calls.ext_of (HC2.out _) | with_reducible exact Calls.ext_of (HC3.out _)))))
  refine wpQuiet_nil ?_
  rintro w9 ⟨⟨_, hE9⟩, rfl⟩
  have HE := hide (HE.out.trans hE9)
  have HBa := hide (HBa.out.ext hE9)
  have HBb := hide (HBb.out.ext hE9)
  clear ca0 ca1 ca2 ca3 ca4 ca5 ca6 za cb0 cb1 cb2 cb3 cb4 cb5 cb6 zb cc0 cc1 cc2 cc3 cc4 cc5 cc6 zc hE9
  clear HBc
  obtain ⟨ca0, ca1, ca2, ca3, ca4, ca5, ca6, za⟩ := HBa.out.cells
  obtain ⟨cb0, cb1, cb2, cb3, cb4, cb5, cb6, zb⟩ := HBb.out.cells
  go_wp2_with fail
  clear ca0 ca1 ca2 ca3 ca4 ca5 ca6 za cb0 cb1 cb2 cb3 cb4 cb5 cb6 zb
  refine (HC4.out _).mono ?_
  rintro e1 w2 ⟨rfl, hE⟩
  have HE := hide (HE.out.trans hE)
  have HBa := hide (HBa.out.ext hE)
  have HBb := hide (HBb.out.ext hE)
  clear hE
  obtain ⟨ca0, ca1, ca2, ca3, ca4, ca5, ca6, za⟩ := HBa.out.cells
  obtain ⟨cb0, cb1, cb2, cb3, cb4, cb5, cb6, zb⟩ := HBb.out.cells
  have heq := HEQ.out
  have hxd := HD.out
  go_wp2_with fail
  clear ca0 ca1 ca2 ca3 ca4 ca5 ca6 za cb0 cb1 cb2 cb3 cb4 cb5 cb6 zb heq hxd HBb
  refine (HC5.out _).mono ?_
  rintro e1 w3 ⟨rfl, hE⟩
  have HE := hide (HE.out.trans hE)
  clear hE HBa
  go_upto_region 4 with fail
  by_cases hx0 : x ≤ 0
  · by_cases hy0 : y ≤ 0
    · have hz0 := HT3.out hx0 hy0
      go_wp2_with fail
      refine (HAW.out _ HE.out).mono ?_
      rintro e1 w4 ⟨rfl, hE⟩
      have HE := hide (HE.out.trans hE)
      clear hE
      go_wp2_with fail
      go_ret
      exact ⟨rfl, HE.out⟩
    · skip
      go_wp2_with fail
      refine (HAW.out _ HE.out).mono ?_
      rintro e1 w4 ⟨rfl, hE⟩
      have HE := hide (HE.out.trans hE)
      clear hE
      go_wp2_with fail
      go_ret
      exact ⟨rfl, HE.out⟩
  · skip
    go_wp2_with fail
    refine (HAW.out _ HE.out).mono ?_
    rintro e1 w4 ⟨rfl, hE⟩
    have HE := hide (HE.out.trans hE)
    clear hE
    go_wp2_with fail
    go_ret
    exact ⟨rfl, HE.out⟩
end Go.Proofs.YtfnhjalnbmnlaaaDoor
