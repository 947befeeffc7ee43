/-
  The walk of 'GraphOrders'.
  Conditions: the tables lie in the heap (Tz, Ml).
-/
import Derived.Test.YtpcboonjalbihaaDoorAw03
import Derived.Test.YtpcboonjalbihaaDoorLwAssoc
import Derived.Test.YtpcboonjalbihaaDoorNews
import Derived.Test.YtpcboonjalbihaaDoorFindG
import Derived.Test.YtpcboonjalbihaaDoorOrdLaw
import Derived.Test.YtpcboonjalbihaaDoorSpl
import Derived.Test.YtpcboonjalbihaaDoorAllG
import Derived.Deep.CutRange
namespace Go.Proofs.YtpcboonjalbihaaDoor
open Go.RowKit
attribute [local go_sem] Oper.semAt_some

set_option maxRecDepth 100000 in
set_option maxHeartbeats 8000000 in
theorem orders_law (a b c : Gr) (w : World) (hT : Tz w) (hM : Ml w) : Calls Tryd.prog 11 #[a3v a b c] w fun e w' => e = .returned (.bool true) ∧ Ext w w' := by
  have HAW := hide (fun W (hE : Ext w W) => awake_any W (hT.ext hE) (hM.ext hE))
  have HTT := hide hT
  have HMM := hide hM
  have HC1 := hide (fun W => gcompare_any a b W)
  have HC2 := hide (fun W => gcompare_any b c W)
  have HC3 := hide (fun W => gcompare_any a c W)
  have HC4 := hide (fun W => gcompare_any b a W)
  have hord := gcmp_ord a b c
  have HA := hide (gcmp_anti a b)
  have HZ := hide (gcmp_zero (a := a) (b := b))
  have HCA := hide (fun W => rgcheck_any a W)
  have HCB := hide (fun W => rgcheck_any b W)
  rw [HA.out] at HC4
  clear hT hM HA
  generalize gcmp a b = x at HC1 HC4 HZ hord
  generalize gcmp b c = y at HC2 hord
  generalize gcmp a c = z at HC3 hord
  obtain ⟨hx, hy, hz, ht⟩ := hord
  have HT3 := hide ht
  clear ht
  have hneg : IntKind.i64.wrap (-(-x)) = x := by rw [Int.neg_neg]; exact IntWalk.i64_in _ (by omega)
  have hneg2 : (-x : Int) ≤ 9223372036854775807 := by omega
  have hneg3 : (-9223372036854775808 : Int) ≤ -x := by omega
  go_enter Tryd.func11, Tryd.ntmps11
  go_upto_region 1 with fail
  have HBl := hide (A3Box.new w a b c)
  have HE : Hid (Ext w (w.alloc (a3obj a b c))) := hide ((Ext.refl w).alloc _)
  generalize w.alloc (a3obj a b c) = W at HBl HE ⊢
  generalize w.heap.size = pl at HBl ⊢
  refine wp_region_heldAll (fun V => A3Box V pl a b c) (by kernel_rfl) ?_
  intro W3 hW3
  have HE : Hid (Ext w W3) := hide (by rw [hW3]; exact HE.out.drew)
  have hA3 : A3Box W3 pl a b c := by rw [hW3]; exact HBl.out.ext (Ext.refl _).drew
  clear hW3 HBl
  refine wpAnyT_take (i := 0) (.pointer (some ⟨pl, 0, none⟩)) rfl (by kernel_rfl) (by kernel_rfl) (by kernel_rfl) (by simp [Region.wanted]) (fun V hV => by
    obtain ⟨⟨c0, c1, c2, c3, c4, c5⟩, ⟨d0, d1, d2, d3, d4, d5⟩, ⟨e0, e1, e2, e3, e4, e5⟩, z0⟩ := A3Box.cells hV
    go_simp) hA3 ?_
  try simp only [Act.put, List.getElem_toArray, List.getElem_cons_zero, List.setIfInBounds_toArray, List.set_cons_zero, List.set_cons_succ]
  refine wpAnyT_take (i := 1) (.agg #[.int .i64 a.n, .int .i64 a.h0, .int .i64 a.h1, .int .i64 a.h2, .int .i64 a.h3, .int .i64 a.h4]) rfl (by kernel_rfl) (by kernel_rfl) (by kernel_rfl) (by simp [Region.wanted]) (fun V hV => by
    obtain ⟨⟨c0, c1, c2, c3, c4, c5⟩, ⟨d0, d1, d2, d3, d4, d5⟩, ⟨e0, e1, e2, e3, e4, e5⟩, z0⟩ := A3Box.cells hV
    go_simp) hA3 ?_
  try simp only [Act.put, List.getElem_toArray, List.getElem_cons_zero, List.getElem_cons_succ, List.setIfInBounds_toArray, List.set_cons_zero, List.set_cons_succ]
  refine wpAnyT_take (i := 2) (.pointer (some ⟨pl, 6, none⟩)) rfl (by kernel_rfl) (by kernel_rfl) (by kernel_rfl) (by simp [Region.wanted]) (fun V hV => by
    obtain ⟨⟨c0, c1, c2, c3, c4, c5⟩, ⟨d0, d1, d2, d3, d4, d5⟩, ⟨e0, e1, e2, e3, e4, e5⟩, z0⟩ := A3Box.cells hV
    go_simp) hA3 ?_
  try simp only [Act.put, List.getElem_toArray, List.getElem_cons_zero, List.getElem_cons_succ, List.setIfInBounds_toArray, List.set_cons_zero, List.set_cons_succ]
  refine wpAnyT_take (i := 3) (.agg #[.int .i64 b.n, .int .i64 b.h0, .int .i64 b.h1, .int .i64 b.h2, .int .i64 b.h3, .int .i64 b.h4]) rfl (by kernel_rfl) (by kernel_rfl) (by kernel_rfl) (by simp [Region.wanted]) (fun V hV => by
    obtain ⟨⟨c0, c1, c2, c3, c4, c5⟩, ⟨d0, d1, d2, d3, d4, d5⟩, ⟨e0, e1, e2, e3, e4, e5⟩, z0⟩ := A3Box.cells hV
    go_simp) hA3 ?_
  try simp only [Act.put, List.getElem_toArray, List.getElem_cons_zero, List.getElem_cons_succ, List.setIfInBounds_toArray, List.set_cons_zero, List.set_cons_succ]
  refine wpAnyT_take (i := 4) (.pointer (some ⟨pl, 12, none⟩)) rfl (by kernel_rfl) (by kernel_rfl) (by kernel_rfl) (by simp [Region.wanted]) (fun V hV => by
    obtain ⟨⟨c0, c1, c2, c3, c4, c5⟩, ⟨d0, d1, d2, d3, d4, d5⟩, ⟨e0, e1, e2, e3, e4, e5⟩, z0⟩ := A3Box.cells hV
    go_simp) hA3 ?_
  try simp only [Act.put, List.getElem_toArray, List.getElem_cons_zero, List.getElem_cons_succ, List.setIfInBounds_toArray, List.set_cons_zero, List.set_cons_succ]
  refine wpAnyT_take (i := 5) (.agg #[.int .i64 c.n, .int .i64 c.h0, .int .i64 c.h1, .int .i64 c.h2, .int .i64 c.h3, .int .i64 c.h4]) rfl (by kernel_rfl) (by kernel_rfl) (by kernel_rfl) (by simp [Region.wanted]) (fun V hV => by
    obtain ⟨⟨c0, c1, c2, c3, c4, c5⟩, ⟨d0, d1, d2, d3, d4, d5⟩, ⟨e0, e1, e2, e3, e4, e5⟩, z0⟩ := A3Box.cells hV
    go_simp) hA3 ?_
  try simp only [Act.put, List.getElem_toArray, List.getElem_cons_zero, List.getElem_cons_succ, List.setIfInBounds_toArray, List.set_cons_zero, List.set_cons_succ]
  refine wpAnyT_news3 (i := 6) (j := 7) (k := 8) (d1 := 3) (d2 := 4) (d3 := 5) (ob := gobj0) rfl rfl rfl rfl rfl rfl rfl rfl rfl (by decide) (by decide) (by kernel_rfl) (by kernel_rfl) (by kernel_rfl) (by kernel_rfl) (by kernel_rfl) (by kernel_rfl) (by kernel_rfl)
    (fun _ _ => by go_simp) (fun _ _ => by go_simp) (fun _ _ => by go_simp) (fun _ hE => hA3.ext hE) (fun V ga gb gc hN => ?_)
  try simp only [List.setIfInBounds_toArray, List.set_cons_zero, List.set_cons_succ]
  have hwW := HE.out.size
  have HN := hide (And.intro hN.n12 (And.intro hN.n13 hN.n23))
  have HL := hide (show w.heap.size ≤ ga ∧ w.heap.size ≤ gb ∧ w.heap.size ≤ gc from ⟨by have := hN.l1; omega, by have := hN.l2; omega, by have := hN.l3; omega⟩)
  have HP := hide (show pl < ga ∧ pl < gb ∧ pl < gc from ⟨Nat.lt_of_lt_of_le (lt_of_heap hA3) hN.l1, Nat.lt_of_lt_of_le (lt_of_heap hA3) hN.l2, Nat.lt_of_lt_of_le (lt_of_heap hA3) hN.l3⟩)
  have HA3 := hide (hA3.ext hN.ext)
  have HE := hide (HE.out.trans hN.ext)
  have HBa : Hid (GrBox V ga gz0) := hide hN.b1
  have HBb : Hid (GrBox V gb gz0) := hide hN.b2
  have HBc : Hid (GrBox V gc gz0) := hide hN.b3
  clear hN hwW hA3
  obtain ⟨c0, c1, c2, c3, c4, c5, z0⟩ := HBa.out.cells
  obtain ⟨f0, f1, f2, f3, f4, f5⟩ := HBa.out.frozen
  refine wpAnyT_one (i := 9) rfl (by kernel_rfl) (fun K hK => ?_)
  go_wp2_with fail
  change _ ∧ K _ (gstore V ga a)
  refine ⟨rfl, hK _ _ (HA3.out.gstore_other (by have := HP.out; omega) a) ?_⟩
  clear hK K c0 c1 c2 c3 c4 c5 z0 f0 f1 f2 f3 f4 f5
  have HA3 := hide (HA3.out.gstore_other (b' := ga) (by have := HP.out; omega) a)
  have HE := hide (HE.out.gstore (b := ga) (by have := HL.out; omega) a)
  have HBa := hide (HBa.out.store a)
  have HBb := hide (HBb.out.gstore_other (r := a) (b' := ga) HN.out.1.symm)
  have HBc := hide (HBc.out.gstore_other (r := a) (b' := ga) HN.out.2.1.symm)
  generalize gstore V ga a = V0 at HA3 HE HBa HBb HBc ⊢
  obtain ⟨c0, c1, c2, c3, c4, c5, z0⟩ := HBb.out.cells
  obtain ⟨f0, f1, f2, f3, f4, f5⟩ := HBb.out.frozen
  refine wpAnyT_one (i := 10) rfl (by kernel_rfl) (fun K hK => ?_)
  go_wp2_with fail
  change _ ∧ K _ (gstore V0 gb b)
  refine ⟨rfl, hK _ _ (HA3.out.gstore_other (by have := HP.out; omega) b) ?_⟩
  clear hK K c0 c1 c2 c3 c4 c5 z0 f0 f1 f2 f3 f4 f5
  have HA3 := hide (HA3.out.gstore_other (b' := gb) (by have := HP.out; omega) b)
  have HE := hide (HE.out.gstore (b := gb) (by have := HL.out; omega) b)
  have HBb := hide (HBb.out.store b)
  have HBa := hide (HBa.out.gstore_other (r := b) (b' := gb) HN.out.1)
  have HBc := hide (HBc.out.gstore_other (r := b) (b' := gb) HN.out.2.2.symm)
  generalize gstore V0 gb b = V1 at HA3 HE HBa HBb HBc ⊢
  obtain ⟨c0, c1, c2, c3, c4, c5, z0⟩ := HBc.out.cells
  obtain ⟨f0, f1, f2, f3, f4, f5⟩ := HBc.out.frozen
  refine wpAnyT_one (i := 11) rfl (by kernel_rfl) (fun K hK => ?_)
  go_wp2_with fail
  change _ ∧ K _ (gstore V1 gc c)
  refine ⟨rfl, hK _ _ (HA3.out.gstore_other (by have := HP.out; omega) c) ?_⟩
  clear hK K c0 c1 c2 c3 c4 c5 z0 f0 f1 f2 f3 f4 f5
  have HA3 := hide (HA3.out.gstore_other (b' := gc) (by have := HP.out; omega) c)
  have HE := hide (HE.out.gstore (b := gc) (by have := HL.out; omega) c)
  have HBc := hide (HBc.out.store c)
  have HBa := hide (HBa.out.gstore_other (r := c) (b' := gc) HN.out.2.1)
  have HBb := hide (HBb.out.gstore_other (r := c) (b' := gc) HN.out.2.2)
  generalize gstore V1 gc c = V2 at HA3 HE HBa HBb HBc ⊢
  refine wpAnyT_done (by kernel_rfl) ?_ _
  clear HN HL HP HA3
  go_upto_region 2 with fail
  go_cut [6, 7, 8] from 23 to 31 (fun s t u V => s = .int .i64 x ∧ t = .int .i64 y ∧ u = .int .i64 z ∧ Hid (Ext w V) ∧ Hid (GrBox V ga a) ∧ Hid (GrBox V gb b))
  case first =>
    refine wp_region_ext (by kernel_rfl) (by kernel_rfl) ?_
    obtain ⟨ca0, ca1, ca2, ca3, ca4, ca5, za⟩ := HBa.out.cells
    obtain ⟨cb0, cb1, cb2, cb3, cb4, cb5, zb⟩ := HBb.out.cells
    obtain ⟨cc0, cc1, cc2, cc3, cc4, cc5, zc⟩ := HBc.out.cells
    repeat (go_big_quiet_step ((go_at_call 48; (first | with_reducible exact Calls.ext_of (HC1.out _) | with_reducible exact Calls.ext_of (HC2.out _) | with_reducible exact Calls.ext_of (HC3.out _)))))
    refine wpQuiet_nil ?_
    rintro w9 ⟨⟨_, hE9⟩, rfl⟩
    have HE := hide (HE.out.trans hE9)
    have HBa := hide (HBa.out.ext hE9)
    have HBb := hide (HBb.out.ext hE9)
    clear ca0 ca1 ca2 ca3 ca4 ca5 za cb0 cb1 cb2 cb3 cb4 cb5 zb cc0 cc1 cc2 cc3 cc4 cc5 zc hE9
    go_wp2_with fail
    go_meet
    exact ⟨rfl, rfl, rfl, HE, HBa, HBb⟩
  case rest =>
  obtain ⟨rfl, rfl, rfl, HE, HBa, HBb⟩ := hcut
  clear HBc
  have heq := eql_gr a b
  have HD : Hid ((x == 0) = decide (a = b)) := by
    show _ = _
    rw [Bool.eq_iff_iff, beq_iff_eq, decide_eq_true_iff]; exact HZ.out
  generalize hdd : decide (a = b) = d at heq HD
  have HDD := hide hdd
  clear hdd HZ
  have hxd := HD.out
  go_upto_region 3 with fail
  go_cut [57] from 32 to 57 (fun r V => r = .bool false ∧ Hid (Ext w V) ∧ Hid (GrBox V ga a) ∧ Hid (GrBox V gb b))
  case first =>
    obtain ⟨ca0, ca1, ca2, ca3, ca4, ca5, za⟩ := HBa.out.cells
    obtain ⟨cb0, cb1, cb2, cb3, cb4, cb5, zb⟩ := HBb.out.cells
    by_cases hx0 : x ≤ 0
    · by_cases hy0 : y ≤ 0
      · have hz0 : ¬ 0 < z := by have := HT3.out hx0 hy0; omega
        go_wp2_with fail
        refine (HC4.out _).mono ?_
        rintro e w2 ⟨rfl, hE⟩
        have HE := hide (HE.out.trans hE)
        have HBa := hide (HBa.out.ext hE)
        have HBb := hide (HBb.out.ext hE)
        clear hE ca0 ca1 ca2 ca3 ca4 ca5 za cb0 cb1 cb2 cb3 cb4 cb5 zb
        obtain ⟨ca0, ca1, ca2, ca3, ca4, ca5, za⟩ := HBa.out.cells
        obtain ⟨cb0, cb1, cb2, cb3, cb4, cb5, zb⟩ := HBb.out.cells
        go_wp2_with fail
        go_meet
        exact ⟨congrArg Value.bool (decide_eq_false (by omega)), HE, HBa, HBb⟩
      · skip
        go_wp2_with fail
        refine (HC4.out _).mono ?_
        rintro e w2 ⟨rfl, hE⟩
        have HE := hide (HE.out.trans hE)
        have HBa := hide (HBa.out.ext hE)
        have HBb := hide (HBb.out.ext hE)
        clear hE ca0 ca1 ca2 ca3 ca4 ca5 za cb0 cb1 cb2 cb3 cb4 cb5 zb
        obtain ⟨ca0, ca1, ca2, ca3, ca4, ca5, za⟩ := HBa.out.cells
        obtain ⟨cb0, cb1, cb2, cb3, cb4, cb5, zb⟩ := HBb.out.cells
        go_wp2_with fail
        go_meet
        exact ⟨rfl, HE, HBa, HBb⟩
    · skip
      go_wp2_with fail
      refine (HC4.out _).mono ?_
      rintro e w2 ⟨rfl, hE⟩
      have HE := hide (HE.out.trans hE)
      have HBa := hide (HBa.out.ext hE)
      have HBb := hide (HBb.out.ext hE)
      clear hE ca0 ca1 ca2 ca3 ca4 ca5 za cb0 cb1 cb2 cb3 cb4 cb5 zb
      obtain ⟨ca0, ca1, ca2, ca3, ca4, ca5, za⟩ := HBa.out.cells
      obtain ⟨cb0, cb1, cb2, cb3, cb4, cb5, zb⟩ := HBb.out.cells
      go_wp2_with fail
      go_meet
      exact ⟨rfl, HE, HBa, HBb⟩
  case rest =>
  obtain ⟨rfl, HE, HBa, HBb⟩ := hcut
  clear heq HC1 HC2 HC3 HC4 HT3 hneg hneg2 hneg3
  obtain ⟨ca0, ca1, ca2, ca3, ca4, ca5, za⟩ := HBa.out.cells
  go_wp2_with fail
  clear ca0 ca1 ca2 ca3 ca4 ca5 za
  refine (HCA.out _).mono ?_
  rintro e w2 ⟨rfl, hE⟩
  have HE := hide (HE.out.trans hE)
  have HBa := hide (HBa.out.ext hE)
  have HBb := hide (HBb.out.ext hE)
  clear hE
  by_cases hga : gchk a = 0
  case neg =>
    have hd : (gchk a != 0) = true := by simp [hga]
    have HGA := hide hga
    clear hga
    generalize gchk a = cg at hd HGA
    go_wp2_with fail
    refine (HAW.out _ HE.out).mono ?_
    rintro e w4 ⟨rfl, hE⟩
    have HE := hide (HE.out.trans hE)
    clear hE
    go_wp2_with fail
    go_ret
    exact ⟨rfl, HE.out⟩
  case pos =>
  obtain ⟨n, ha⟩ := wf_of hga
  rw [hga]
  clear hga
  obtain ⟨cb0, cb1, cb2, cb3, cb4, cb5, zb⟩ := HBb.out.cells
  go_wp2_with fail
  clear cb0 cb1 cb2 cb3 cb4 cb5 zb
  refine (HCB.out _).mono ?_
  rintro e w2 ⟨rfl, hE⟩
  have HE := hide (HE.out.trans hE)
  have HBa := hide (HBa.out.ext hE)
  have HBb := hide (HBb.out.ext hE)
  clear hE
  by_cases hgb : gchk b = 0
  case neg =>
    have hd : (gchk b != 0) = true := by simp [hgb]
    have HGB := hide hgb
    have HAF := hide ha
    clear hgb ha
    generalize gchk b = cg at hd HGB
    go_wp2_with fail
    refine (HAW.out _ HE.out).mono ?_
    rintro e w4 ⟨rfl, hE⟩
    have HE := hide (HE.out.trans hE)
    clear hE
    go_wp2_with fail
    go_ret
    exact ⟨rfl, HE.out⟩
  case pos =>
  obtain ⟨m, hb⟩ := wf_of hgb
  rw [hgb]
  clear hgb
  have HFA := hide (fun W (hE : Ext w W) => format_ok a ha W (HTT.out.ext hE))
  have HFB := hide (fun W (hE : Ext w W) => format_ok b hb W (HTT.out.ext hE))
  have HPA : Hid (∀ W, Ext w W → Calls Tryd.prog 28 #[.string ⟨(wrt a).toArray⟩] W (RetG (a, 0) W)) := fun W hE => by
    have h := parse_any ⟨(wrt a).toArray⟩ (by have := wrt_len ha; show (wrt a).toArray.size ≤ _; simp; omega) W (HTT.out.ext hE) (HMM.out.ext hE)
    rw [show parseS (⟨(wrt a).toArray⟩ : ByteArray).data.toList = (a, 0) from parse_wrt ha] at h
    exact h
  have HST : Hid (((⟨(wrt a).toArray⟩ : ByteArray).toList == (⟨(wrt b).toArray⟩ : ByteArray).toList) = d) := by
    show _ = _
    rw [← HDD.out, Bool.eq_iff_iff, beq_iff_eq, decide_eq_true_iff, ByteArray.toList_eq, ByteArray.toList_eq]
    constructor
    · intro h
      exact wrt_inj ha hb h
    · rintro rfl; rfl
  have hneq := neq_gr a a
  rw [decide_eq_true (rfl : a = a)] at hneq
  have HWA := hide ha
  have hn1 := ha.n1
  have hn5 := ha.n5
  clear ha hb
  generalize (⟨(wrt a).toArray⟩ : ByteArray) = sa at HFA HPA HST
  generalize (⟨(wrt b).toArray⟩ : ByteArray) = sb at HFB HST
  have hst := HST.out
  obtain ⟨ca0, ca1, ca2, ca3, ca4, ca5, za⟩ := HBa.out.cells
  go_wp2_with fail
  clear ca0 ca1 ca2 ca3 ca4 ca5 za
  refine (HFA.out _ HE.out).mono ?_
  rintro e w2 ⟨rfl, hE⟩
  have HE := hide (HE.out.trans hE)
  have HBa := hide (HBa.out.ext hE)
  have HBb := hide (HBb.out.ext hE)
  clear hE
  obtain ⟨cb0, cb1, cb2, cb3, cb4, cb5, zb⟩ := HBb.out.cells
  go_wp2_with fail
  clear cb0 cb1 cb2 cb3 cb4 cb5 zb
  refine (HFB.out _ HE.out).mono ?_
  rintro e w2 ⟨rfl, hE⟩
  have HE := hide (HE.out.trans hE)
  have HBa := hide (HBa.out.ext hE)
  clear hE HBb
  go_wp2_with fail
  refine (HPA.out _ HE.out).mono ?_
  rintro e w2 ⟨rfl, hE⟩
  have HE := hide (HE.out.trans hE)
  have HBa := hide (HBa.out.ext hE)
  clear hE
  go_upto_region 10 with fail
  have HE := hide (HE.out.alloc (gobj a))
  have HBa := hide (HBa.out.alloc (gobj a))
  have HB13 : Hid (GrBox (w2.alloc (gobj a)) w2.heap.size a) := gr_new w2 a
  generalize w2.alloc (gobj a) = W2 at HE HBa HB13 ⊢
  generalize w2.heap.size = b13 at HB13 ⊢
  obtain ⟨ca0, ca1, ca2, ca3, ca4, ca5, za⟩ := HBa.out.cells
  obtain ⟨cb0, cb1, cb2, cb3, cb4, cb5, zb⟩ := HB13.out.cells
  go_upto_region 12 with fail
  clear cb0 cb1 cb2 cb3 cb4 cb5 zb hst hneq hxd
  by_cases hn3 : 3 < a.n
  case pos =>
    go_wp2_with fail
    clear ca0 ca1 ca2 ca3 ca4 ca5 za
    refine (HAW.out _ HE.out).mono ?_
    rintro e w4 ⟨rfl, hE⟩
    have HE := hide (HE.out.trans hE)
    clear hE
    go_wp2_with fail
    go_ret
    exact ⟨rfl, HE.out⟩
  case neg =>
  go_upto_region 14 with fail
  clear ca0 ca1 ca2 ca3 ca4 ca5 za
  have hn3' : n ≤ 3 := by have := HWA.out.n_eq; omega
  have HMEM := hide (mem_all HWA.out)
  have HSRT := hide (sorted_all hn1 hn3')
  have HAL := hide (fun W => all_any a.n W)
  have HCN := hide (fun u W (h : Row Gr.cells 6 W u (allG n n)) => contains_gr (allG n n) a u W h)
  rw [decide_eq_true HMEM.out] at HCN
  have HSO := hide (fun u W (h : Row Gr.cells 6 W u (allG n n)) => sorted_gr (allG n n) u W h HSRT.out)
  have HNN := hide HWA.out.n_eq
  clear HMEM HSRT HWA hn3 HAL
  obtain rfl | rfl | rfl : n = 1 ∨ n = 2 ∨ n = 3 := by omega
  · have HAL : Hid (∀ W, Calls Tryd.prog 30 #[.int .i64 1] W (RetV2 (fun u w' => Own Gr.cells 6 w' W.heap.size 24 u (allG 1 1)) 0 W)) := fun W => all_any 1 W
    have hlen : Hid ((allG 1 1).length = 1) := by show _ = _; decide +kernel
    obtain ⟨ca0, ca1, ca2, ca3, ca4, ca5, za⟩ := HBa.out.cells
    rw [HNN.out] at ca0
    replace ca0 : W2.cell? ⟨ga, 0, none⟩ = some (.int .i64 1) := ca0
    generalize allG 1 1 = L at HAL hlen HCN HSO
    go_wp2_with fail
    clear ca0 ca1 ca2 ca3 ca4 ca5 za
    refine (HAL.out _).mono ?_
    rintro e w2 ⟨u, rfl, ho, hE⟩
    have HR := hide (ho.row (by have := hlen.out; omega))
    have HE := hide (HE.out.trans hE)
    have HBa := hide (HBa.out.ext hE)
    clear hE ho
    obtain ⟨p, cc, rfl, -⟩ := HR.out.gr_all
    have HR := HR
    obtain ⟨ca0, ca1, ca2, ca3, ca4, ca5, za⟩ := HBa.out.cells
    go_wp2_with fail
    clear ca0 ca1 ca2 ca3 ca4 ca5 za
    refine (HCN.out _ _ HR.out).mono ?_
    rintro e w3 ⟨rfl, hE⟩
    have HE := hide (HE.out.trans hE)
    have HBa := hide (HBa.out.ext hE)
    have HR := hide (HR.out.ext hE)
    clear hE
    go_wp2_with fail
    refine (HSO.out _ _ HR.out).mono ?_
    rintro e w3 ⟨rfl, hE⟩
    have HE := hide (HE.out.trans hE)
    have HBa := hide (HBa.out.ext hE)
    clear hE HR
    rw [hlen.out]
    obtain ⟨ca0, ca1, ca2, ca3, ca4, ca5, za⟩ := HBa.out.cells
    rw [HNN.out] at ca0
    replace ca0 : w3.cell? ⟨ga, 0, none⟩ = some (.int .i64 1) := ca0
    go_wp2_with fail
    clear ca0 ca1 ca2 ca3 ca4 ca5 za
    refine (HAW.out _ HE.out).mono ?_
    rintro e w4 ⟨rfl, hE⟩
    have HE := hide (HE.out.trans hE)
    clear hE
    go_wp2_with fail
    go_ret
    exact ⟨rfl, HE.out⟩
  · have HAL : Hid (∀ W, Calls Tryd.prog 30 #[.int .i64 2] W (RetV2 (fun u w' => Own Gr.cells 6 w' W.heap.size 24 u (allG 2 2)) 0 W)) := fun W => all_any 2 W
    have hlen : Hid ((allG 2 2).length = 4) := by show _ = _; decide +kernel
    obtain ⟨ca0, ca1, ca2, ca3, ca4, ca5, za⟩ := HBa.out.cells
    rw [HNN.out] at ca0
    replace ca0 : W2.cell? ⟨ga, 0, none⟩ = some (.int .i64 2) := ca0
    generalize allG 2 2 = L at HAL hlen HCN HSO
    go_wp2_with fail
    clear ca0 ca1 ca2 ca3 ca4 ca5 za
    refine (HAL.out _).mono ?_
    rintro e w2 ⟨u, rfl, ho, hE⟩
    have HR := hide (ho.row (by have := hlen.out; omega))
    have HE := hide (HE.out.trans hE)
    have HBa := hide (HBa.out.ext hE)
    clear hE ho
    obtain ⟨p, cc, rfl, -⟩ := HR.out.gr_all
    have HR := HR
    obtain ⟨ca0, ca1, ca2, ca3, ca4, ca5, za⟩ := HBa.out.cells
    go_wp2_with fail
    clear ca0 ca1 ca2 ca3 ca4 ca5 za
    refine (HCN.out _ _ HR.out).mono ?_
    rintro e w3 ⟨rfl, hE⟩
    have HE := hide (HE.out.trans hE)
    have HBa := hide (HBa.out.ext hE)
    have HR := hide (HR.out.ext hE)
    clear hE
    go_wp2_with fail
    refine (HSO.out _ _ HR.out).mono ?_
    rintro e w3 ⟨rfl, hE⟩
    have HE := hide (HE.out.trans hE)
    have HBa := hide (HBa.out.ext hE)
    clear hE HR
    rw [hlen.out]
    obtain ⟨ca0, ca1, ca2, ca3, ca4, ca5, za⟩ := HBa.out.cells
    rw [HNN.out] at ca0
    replace ca0 : w3.cell? ⟨ga, 0, none⟩ = some (.int .i64 2) := ca0
    go_wp2_with fail
    clear ca0 ca1 ca2 ca3 ca4 ca5 za
    refine (HAW.out _ HE.out).mono ?_
    rintro e w4 ⟨rfl, hE⟩
    have HE := hide (HE.out.trans hE)
    clear hE
    go_wp2_with fail
    go_ret
    exact ⟨rfl, HE.out⟩
  · have HAL : Hid (∀ W, Calls Tryd.prog 30 #[.int .i64 3] W (RetV2 (fun u w' => Own Gr.cells 6 w' W.heap.size 24 u (allG 3 3)) 0 W)) := fun W => all_any 3 W
    have hlen : Hid ((allG 3 3).length = 64) := by show _ = _; decide +kernel
    obtain ⟨ca0, ca1, ca2, ca3, ca4, ca5, za⟩ := HBa.out.cells
    rw [HNN.out] at ca0
    replace ca0 : W2.cell? ⟨ga, 0, none⟩ = some (.int .i64 3) := ca0
    generalize allG 3 3 = L at HAL hlen HCN HSO
    go_wp2_with fail
    clear ca0 ca1 ca2 ca3 ca4 ca5 za
    refine (HAL.out _).mono ?_
    rintro e w2 ⟨u, rfl, ho, hE⟩
    have HR := hide (ho.row (by have := hlen.out; omega))
    have HE := hide (HE.out.trans hE)
    have HBa := hide (HBa.out.ext hE)
    clear hE ho
    obtain ⟨p, cc, rfl, -⟩ := HR.out.gr_all
    have HR := HR
    obtain ⟨ca0, ca1, ca2, ca3, ca4, ca5, za⟩ := HBa.out.cells
    go_wp2_with fail
    clear ca0 ca1 ca2 ca3 ca4 ca5 za
    refine (HCN.out _ _ HR.out).mono ?_
    rintro e w3 ⟨rfl, hE⟩
    have HE := hide (HE.out.trans hE)
    have HBa := hide (HBa.out.ext hE)
    have HR := hide (HR.out.ext hE)
    clear hE
    go_wp2_with fail
    refine (HSO.out _ _ HR.out).mono ?_
    rintro e w3 ⟨rfl, hE⟩
    have HE := hide (HE.out.trans hE)
    have HBa := hide (HBa.out.ext hE)
    clear hE HR
    rw [hlen.out]
    obtain ⟨ca0, ca1, ca2, ca3, ca4, ca5, za⟩ := HBa.out.cells
    rw [HNN.out] at ca0
    replace ca0 : w3.cell? ⟨ga, 0, none⟩ = some (.int .i64 3) := ca0
    go_wp2_with fail
    clear ca0 ca1 ca2 ca3 ca4 ca5 za
    refine (HAW.out _ HE.out).mono ?_
    rintro e w4 ⟨rfl, hE⟩
    have HE := hide (HE.out.trans hE)
    clear hE
    go_wp2_with fail
    go_ret
    exact ⟨rfl, HE.out⟩
end Go.Proofs.YtpcboonjalbihaaDoor
