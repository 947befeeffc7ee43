/-
  The walk of 'ConditionCombines'.
  Conditions: as each theorem states.
-/
import Derived.Test.YthpccmmdkbjjhaaDoorOpen13
import Derived.Test.YthpccmmdkbjjhaaDoorComb13
import Derived.Test.YthpccmmdkbjjhaaDoorHas11
namespace Go.Proofs.YthpccmmdkbjjhaaDoor
open Go.RowKit
attribute [local go_sem] Oper.semAt_some

theorem exBut_of {w : World} {v : Value} {e : Ex} (h : ExAt w v e) : ExBut (fun _ => False) w v e := by
  intro W hz hk
  induction h with
  | mk op num xs p c ss b o hc hl hp hcell hsub ih =>
    refine .mk op num xs p c ss b o hc hl (fun h => ⟨(hp h).1, Nat.lt_of_lt_of_le (hp h).2 hz⟩) (fun i hi => ?_) ih
    obtain ⟨h1, h2, h3⟩ := hcell i hi
    have hb := (hp (by omega)).2
    have hB := hk b (fun h => h) hb
    exact ⟨(World.cell?_of_block (a := ⟨b, _, none⟩) hB).trans h1, (World.cell?_of_block (a := ⟨b, _, none⟩) hB).trans h2, (World.cell?_of_block (a := ⟨b, _, none⟩) hB).trans h3⟩
theorem at3_0 (w : World) (c1 c2 c3 : Array Value) (t1 t2 t3 : TypeId) : (((w.alloc (.cells c1 t1)).alloc (.cells c2 t2)).alloc (.cells c3 t3)).heap[w.heap.size]? = some (.cells c1 t1 (0, 0)) := by
  rw [Below.heap_alloc _ _ _ (by simp; omega), Below.heap_alloc _ _ _ (by simp)]
  exact heap_alloc_new w _
set_option maxRecDepth 16000 in
set_option maxHeartbeats 4000000 in
theorem combines_law (n m : Int) (a b : Ex) (va vb : Value) (w : World) (hT : Tab w) (ha : ExAt w va a) (hb : ExAt w vb b) :
    Calls Tryd.prog 7 #[.agg #[.int .i64 n, .int .i64 m], va, vb] w fun r w' => r = .returned (.bool true) ∧ Ext w w' := by
  have HFS := hide (fun W => few_any n m W)
  have HAW := hide (fun W (hW : Ext w W) => awake_any W (hT.ext hW))
  have HCA := hide (fun W (hW : Ext w W) => rcount_any a 50 va W (ha.ext hW) (by omega) (by omega))
  have HCB := hide (fun W (hW : Ext w W) => rcount_any b 50 vb W (hb.ext hW) (by omega) (by omega))
  have HFA := hide (fun W (hW : Ext w W) => rfew_ex a va W (ha.ext hW))
  have HFB := hide (fun W (hW : Ext w W) => rfew_ex b vb W (hb.ext hW))
  have HAA := hide (fun W (hW : Ext w W) => rabsent_any a va W (ha.ext hW))
  have HAB := hide (fun W (hW : Ext w W) => rabsent_any b vb W (hb.ext hW))
  have HPI := hide (fun e v hn hf W (hW : Ext w W) (hv : ExAt W v e) => pinputs_any n m e v W (hT.ext hW) hv hn hf)
  have HXA := hide ha
  have HXB := hide hb
  obtain ⟨p, c, rfl, hc, hl⟩ := ha.form
  obtain ⟨q, d, rfl, hd, hm⟩ := hb.form
  clear ha hb hT
  have HNA := hide (cntE_nodes a 50 (by omega))
  have HNB := hide (cntE_nodes b 50 (by omega))
  generalize cntE a 50 = ka at HCA HNA
  generalize cntE b 50 = kb at HCB HNB
  obtain ⟨w2, hw2⟩ : ∃ w2, ((w.alloc (.cells #[.int .i64 n, .int .i64 m] 23)).alloc (.cells #[.int .i64 a.op, .int .i64 a.num, .slice p a.args.length c] 26)).alloc (.cells #[.int .i64 b.op, .int .i64 b.num, .slice q b.args.length d] 26) = w2 := ⟨_, rfl⟩
  have hE2 : Ext w w2 := by rw [← hw2]; exact (((Ext.refl w).alloc _).alloc _).alloc _
  have HBS : Hid (w2.heap[w.heap.size]? = some (.cells #[.int .i64 n, .int .i64 m] 23 (0, 0))) := by show _ = _; rw [← hw2]; exact at3_0 _ _ _ _ _ _ _
  have HBA : Hid (w2.heap[w.heap.size + 1]? = some (.cells #[.int .i64 a.op, .int .i64 a.num, .slice p a.args.length c] 26 (0, 0))) := by show _ = _; rw [← hw2]; exact at3_1 _ _ _ _ _ _ _
  have HBB : Hid (w2.heap[w.heap.size + 1 + 1]? = some (.cells #[.int .i64 b.op, .int .i64 b.num, .slice q b.args.length d] 26 (0, 0))) := by show _ = _; rw [← hw2]; exact at3_2 _ _ _ _ _ _ _
  have HW2 := hide hw2
  clear hw2
  go_enter Tryd.func7, Tryd.ntmps7
  go_wp2_with fail
  rw [HW2.out]
  refine (HFS.out w2).mono ?_
  rintro r w3 ⟨rfl, hE23⟩
  cases hf : fewB n m with
  | false =>
    clear HXA HXB
    go_wp2_with fail
    refine (HAW.out w3 (hE2.trans hE23)).mono ?_
    rintro r w19 ⟨rfl, hE19⟩
    go_wp2_with fail
    go_ret
    exact ⟨rfl, (hE2.trans hE23).trans hE19⟩
  | true =>
  have HFV := hide (few_vecs hf)
  clear hf
  obtain ⟨c0, c1, c2, hz⟩ := xbox3 HBA.out hE23
  go_wp2_with fail
  refine (HCA.out w3 (hE2.trans hE23)).mono ?_
  rintro r w4 ⟨rfl, hE4⟩
  have hE24 := hE23.trans hE4
  clear c0 c1 c2 hz hE4 hE23
  cases hf : decide (50 ≤ ka) with
  | true =>
    clear HXA HXB
    go_wp2_with fail
    refine (HAW.out w4 (hE2.trans hE24)).mono ?_
    rintro r w19 ⟨rfl, hE19⟩
    go_wp2_with fail
    go_ret
    exact ⟨rfl, (hE2.trans hE24).trans hE19⟩
  | false =>
  have HNA : Hid (a.nodes < 50) := by
    have h1 : ka < 50 := by simpa using hf
    have := HNA.out h1
    show a.nodes < 50
    omega
  obtain ⟨c0, c1, c2, hz⟩ := xbox3 HBB.out hE24
  go_wp2_with fail
  refine (HCB.out w4 (hE2.trans hE24)).mono ?_
  rintro r w5 ⟨rfl, hE5⟩
  have hE25 := hE24.trans hE5
  clear c0 c1 c2 hz hE5 hE24
  cases hf : decide (50 ≤ kb) with
  | true =>
    clear HXA HXB
    go_wp2_with fail
    refine (HAW.out w5 (hE2.trans hE25)).mono ?_
    rintro r w19 ⟨rfl, hE19⟩
    go_wp2_with fail
    go_ret
    exact ⟨rfl, (hE2.trans hE25).trans hE19⟩
  | false =>
  have HNB : Hid (b.nodes < 50) := by
    have h1 : kb < 50 := by simpa using hf
    have := HNB.out h1
    show b.nodes < 50
    omega
  obtain ⟨c0, c1, c2, hz⟩ := xbox3 HBA.out hE25
  go_wp2_with fail
  refine (HFA.out w5 (hE2.trans hE25)).mono ?_
  rintro r w6 ⟨rfl, hE6⟩
  have hE26 := hE25.trans hE6
  clear c0 c1 c2 hz hE6 hE25
  cases hf : efew a with
  | false =>
    clear HXA HXB
    go_wp2_with fail
    refine (HAW.out w6 (hE2.trans hE26)).mono ?_
    rintro r w19 ⟨rfl, hE19⟩
    go_wp2_with fail
    go_ret
    exact ⟨rfl, (hE2.trans hE26).trans hE19⟩
  | true =>
  have HFA := hide hf
  clear hf
  obtain ⟨c0, c1, c2, hz⟩ := xbox3 HBB.out hE26
  go_wp2_with fail
  refine (HFB.out w6 (hE2.trans hE26)).mono ?_
  rintro r w7 ⟨rfl, hE7⟩
  have hE27 := hE26.trans hE7
  clear c0 c1 c2 hz hE7 hE26
  cases hf : efew b with
  | false =>
    clear HXA HXB
    go_wp2_with fail
    refine (HAW.out w7 (hE2.trans hE27)).mono ?_
    rintro r w19 ⟨rfl, hE19⟩
    go_wp2_with fail
    go_ret
    exact ⟨rfl, (hE2.trans hE27).trans hE19⟩
  | true =>
  have HFB := hide hf
  clear hf
  obtain ⟨c0, c1, c2, hz⟩ := xbox3 HBA.out hE27
  go_wp2_with fail
  refine (HAA.out w7 (hE2.trans hE27)).mono ?_
  rintro r w8 ⟨rfl, hE8⟩
  have hE28 := hE27.trans hE8
  clear c0 c1 c2 hz hE8 hE27
  cases hf : absentE a with
  | true =>
    clear HXA HXB
    go_wp2_with fail
    refine (HAW.out w8 (hE2.trans hE28)).mono ?_
    rintro r w19 ⟨rfl, hE19⟩
    go_wp2_with fail
    go_ret
    exact ⟨rfl, (hE2.trans hE28).trans hE19⟩
  | false =>
  have HAA := hide hf
  clear hf
  obtain ⟨c0, c1, c2, hz⟩ := xbox3 HBB.out hE28
  go_wp2_with fail
  refine (HAB.out w8 (hE2.trans hE28)).mono ?_
  rintro r w9 ⟨rfl, hE9⟩
  have hE29 := hE28.trans hE9
  clear c0 c1 c2 hz hE9 hE28
  cases hf : absentE b with
  | true =>
    clear HXA HXB
    go_wp2_with fail
    refine (HAW.out w9 (hE2.trans hE29)).mono ?_
    rintro r w19 ⟨rfl, hE19⟩
    go_wp2_with fail
    go_ret
    exact ⟨rfl, (hE2.trans hE29).trans hE19⟩
  | false =>
  have HAB := hide hf
  clear hf
  obtain ⟨c0, c1, c2, hz⟩ := xbox3 HBA.out hE29
  obtain ⟨s0, s1, sz⟩ := sz_box HBS.out hE29
  go_wp2_with fail
  have hPA := HPI.out a _ (few_nodes HFA.out) HFV.out w9 (hE2.trans hE29) (HXA.out.ext (hE2.trans hE29))
  have HOKA := hide (fun (h : (inpS n m a).2 = 0) => inpS_ok h HAA.out)
  generalize hra : inpS n m a = ra at hPA HOKA
  obtain ⟨X, kx⟩ := ra
  have HRA := hide hra
  clear hra
  refine hPA.mono ?_
  clear hPA
  rintro r w10 ⟨u, rfl, hu, hE10⟩
  have HX := hide hu
  obtain ⟨qx, lx, rfl⟩ := hu.sl
  have hE210 := hE29.trans hE10
  clear c0 c1 c2 hz s0 s1 sz hE10 hE29 hu
  obtain ⟨c0, c1, c2, hz⟩ := xbox3 HBB.out hE210
  obtain ⟨s0, s1, sz⟩ := sz_box HBS.out hE210
  go_wp2_with fail
  have hPB := HPI.out b _ (few_nodes HFB.out) HFV.out w10 (hE2.trans hE210) (HXB.out.ext (hE2.trans hE210))
  have HOKB := hide (fun (h : (inpS n m b).2 = 0) => inpS_ok h HAB.out)
  generalize hrb : inpS n m b = rb at hPB HOKB
  obtain ⟨Y, ky⟩ := rb
  have HRB := hide hrb
  clear hrb
  refine hPB.mono ?_
  clear hPB
  rintro r w11 ⟨u, rfl, hu, hE11⟩
  have HX := hide (HX.out.ext hE11)
  have HY := hide hu
  obtain ⟨qy, ly, rfl⟩ := hu.sl
  have hE211 := hE210.trans hE11
  clear c0 c1 c2 hz s0 s1 sz hE11 hE210 hu
  by_cases hkx : kx = 0
  case neg =>
    have hd : (kx != 0) = true := by simp [hkx]
    clear hkx
    go_wp2_with fail
    refine (HAW.out w11 (hE2.trans hE211)).mono ?_
    rintro r w19 ⟨rfl, hE19⟩
    go_wp2_with fail
    go_ret
    exact ⟨rfl, (hE2.trans hE211).trans hE19⟩
  case pos =>
  subst hkx
  by_cases hky : ky = 0
  case neg =>
    have hd : (ky != 0) = true := by simp [hky]
    clear hky
    go_wp2_with fail
    refine (HAW.out w11 (hE2.trans hE211)).mono ?_
    rintro r w19 ⟨rfl, hE19⟩
    go_wp2_with fail
    go_ret
    exact ⟨rfl, (hE2.trans hE211).trans hE19⟩
  case pos =>
  subst hky
  go_wp2_with fail
  refine wp_region_heldB (fun V => Ext w2 V) (fun _ => false) (by kernel_rfl) ?_
  intro Ya3 hY3
  have hE3 : Ext w11 Ya3 := by rw [hY3]; exact (Ext.refl w11).drew
  clear hY3
  have hS3 : Ext w2 Ya3 := hE211.trans hE3
  refine wpAnyT_takeB (i := 0) (.pointer (some ⟨w.heap.size, 0, none⟩)) rfl (by kernel_rfl) (fun j hj => by cases hj) (by kernel_rfl) (by kernel_rfl) (by simp [Region.wanted]) (fun V hV => by
    obtain ⟨s0, s1, sz⟩ := sz_box HBS.out hV
    go_simp) hS3 ?_
  try simp only [Act.put, List.getElem_toArray, List.getElem_cons_zero, List.setIfInBounds_toArray, List.set_cons_zero, List.set_cons_succ]
  refine wpAnyT_takeB (i := 1) (.int .i64 n) rfl (by kernel_rfl) (fun j hj => by cases hj) (by kernel_rfl) (by kernel_rfl) (by simp [Region.wanted]) (fun V hV => by
    obtain ⟨s0, s1, sz⟩ := sz_box HBS.out hV
    go_simp) hS3 ?_
  try simp only [Act.put, List.getElem_toArray, List.getElem_cons_zero, List.getElem_cons_succ, List.setIfInBounds_toArray, List.set_cons_zero, List.set_cons_succ]
  refine wpAnyT_takeB (i := 2) (.pointer (some ⟨w.heap.size, 1, none⟩)) rfl (by kernel_rfl) (fun j hj => by cases hj) (by kernel_rfl) (by kernel_rfl) (by simp [Region.wanted]) (fun V hV => by
    obtain ⟨s0, s1, sz⟩ := sz_box HBS.out hV
    go_simp) hS3 ?_
  try simp only [Act.put, List.getElem_toArray, List.getElem_cons_zero, List.getElem_cons_succ, List.setIfInBounds_toArray, List.set_cons_zero, List.set_cons_succ]
  refine wpAnyT_takeB (i := 3) (.int .i64 m) rfl (by kernel_rfl) (fun j hj => by cases hj) (by kernel_rfl) (by kernel_rfl) (by simp [Region.wanted]) (fun V hV => by
    obtain ⟨s0, s1, sz⟩ := sz_box HBS.out hV
    go_simp) hS3 ?_
  try simp only [Act.put, List.getElem_toArray, List.getElem_cons_zero, List.getElem_cons_succ, List.setIfInBounds_toArray, List.set_cons_zero, List.set_cons_succ]
  refine wpAnyT_takeB (i := 4) (.agg #[.int .i64 a.op, .int .i64 a.num, .slice p a.args.length c]) rfl (by kernel_rfl) (fun j hj => by cases hj) (by kernel_rfl) (by kernel_rfl) (by simp [Region.wanted]) (fun V hV => by
    obtain ⟨c0, c1, c2, hz⟩ := xbox3 HBA.out hV
    go_simp) hS3 ?_
  try simp only [Act.put, List.getElem_toArray, List.getElem_cons_zero, List.getElem_cons_succ, List.setIfInBounds_toArray, List.set_cons_zero, List.set_cons_succ]
  refine wpAnyT_takeB (i := 5) (.agg #[.int .i64 b.op, .int .i64 b.num, .slice q b.args.length d]) rfl (by kernel_rfl) (fun j hj => by cases hj) (by kernel_rfl) (by kernel_rfl) (by simp [Region.wanted]) (fun V hV => by
    obtain ⟨c0, c1, c2, hz⟩ := xbox3 HBB.out hV
    go_simp) hS3 ?_
  try simp only [Act.put, List.getElem_toArray, List.getElem_cons_zero, List.getElem_cons_succ, List.setIfInBounds_toArray, List.set_cons_zero, List.set_cons_succ]
  refine wpAnyT_oneB (i := 6) rfl (by kernel_rfl) (fun KK hKK => ?_)
  go_wp2_with fail
  refine (mkboth_any (fun _ => False) 10 a b _ _ Ya3 (fun _ h => h.elim) (exBut_of (HXA.out.ext (hE2.trans hS3))) (exBut_of (HXB.out.ext (hE2.trans hS3)))).mono ?_
  rintro r Ya4 ⟨u, rfl, hu, hE4⟩
  have HCND := hide hu.at_
  obtain ⟨qa, la, rfl, -⟩ := hu.at_.form
  have hS4 := hS3.trans hE4
  have hE34 := hE3.trans hE4
  clear hu hS3 hE4 hE3
  go_wp2_with fail
  refine ⟨rfl, hKK _ _ (fun _ => hS4) ?_⟩
  clear hKK KK
  try simp only [Act.put, List.getElem_toArray, List.getElem_cons_zero, List.getElem_cons_succ, List.setIfInBounds_toArray, List.set_cons_zero, List.set_cons_succ]
  refine wpAnyT_oneB (i := 7) rfl (by kernel_rfl) (fun KK hKK => ?_)
  go_wp2_with fail
  have hPC := HPI.out (andE a b) _ (by have h1 := HNA.out; have h2 := HNB.out; simp only [Ex.nodes, Ex.nodesL]; omega) HFV.out Ya4 (hE2.trans hS4) HCND.out
  generalize hrc : inpS n m (andE a b) = rc at hPC
  obtain ⟨AN, ea⟩ := rc
  have HRC := hide hrc
  clear hrc HCND
  refine hPC.mono ?_
  clear hPC
  rintro r Ya5 ⟨u, rfl, hu, hE5⟩
  have HAN := hide hu
  obtain ⟨q5, l5, rfl⟩ := hu.sl
  have hS5 := hS4.trans hE5
  have hE35 := hE34.trans hE5
  clear hu hS4 hE34 hE5
  go_wp2_with fail
  refine ⟨rfl, hKK _ _ (fun _ => hS5) ?_⟩
  clear hKK KK
  try simp only [Act.put, List.getElem_toArray, List.getElem_cons_zero, List.getElem_cons_succ, List.setIfInBounds_toArray, List.set_cons_zero, List.set_cons_succ]
  refine wpAnyT_oneB (i := 8) rfl (by kernel_rfl) (fun KK hKK => ?_)
  go_wp2_with fail
  refine ⟨rfl, hKK _ _ (fun _ => hS5) ?_⟩
  clear hKK KK
  try simp only [Act.put, List.getElem_toArray, List.getElem_cons_zero, List.getElem_cons_succ, List.setIfInBounds_toArray, List.set_cons_zero, List.set_cons_succ]
  refine wpAnyT_takeB (i := 9) (.slice q5 AN.length l5) rfl (by kernel_rfl) (fun j hj => by cases hj) (by kernel_rfl) (by kernel_rfl) (by simp [Region.wanted]) (fun V hV => by go_simp) hS5 ?_
  try simp only [Act.put, List.getElem_toArray, List.getElem_cons_zero, List.getElem_cons_succ, List.setIfInBounds_toArray, List.set_cons_zero, List.set_cons_succ]
  refine wpAnyT_takeB (i := 10) (.int .i64 ea) rfl (by kernel_rfl) (fun j hj => by cases hj) (by kernel_rfl) (by kernel_rfl) (by simp [Region.wanted]) (fun V hV => by go_simp) hS5 ?_
  try simp only [Act.put, List.getElem_toArray, List.getElem_cons_zero, List.getElem_cons_succ, List.setIfInBounds_toArray, List.set_cons_zero, List.set_cons_succ]
  refine wpAnyT_oneB (i := 11) rfl (by kernel_rfl) (fun KK hKK => ?_)
  go_wp2_with fail
  refine ⟨rfl, hKK _ _ (fun _ => hS5) ?_⟩
  clear hKK KK
  try simp only [Act.put, List.getElem_toArray, List.getElem_cons_zero, List.getElem_cons_succ, List.setIfInBounds_toArray, List.set_cons_zero, List.set_cons_succ]
  refine wpAnyT_oneB (i := 12) rfl (by kernel_rfl) (fun KK hKK => ?_)
  go_wp2_with fail
  refine ⟨rfl, hKK _ _ (fun _ => hS5) ?_⟩
  clear hKK KK
  refine wpAnyT_done (by kernel_rfl) ?_ _
  have HX := hide (HX.out.ext hE35)
  have HY := hide (HY.out.ext hE35)
  have hE2Ya := hS5
  clear hS5 hE35 hE211
  go_wp2_with fail
  refine wp_region_heldB (fun V => Ext w2 V) (fun _ => false) (by kernel_rfl) ?_
  intro Yo3 hY3
  have hE3 : Ext Ya5 Yo3 := by rw [hY3]; exact (Ext.refl Ya5).drew
  clear hY3
  have hS3 : Ext w2 Yo3 := hE2Ya.trans hE3
  refine wpAnyT_takeB (i := 0) (.pointer (some ⟨w.heap.size, 0, none⟩)) rfl (by kernel_rfl) (fun j hj => by cases hj) (by kernel_rfl) (by kernel_rfl) (by simp [Region.wanted]) (fun V hV => by
    obtain ⟨s0, s1, sz⟩ := sz_box HBS.out hV
    go_simp) hS3 ?_
  try simp only [Act.put, List.getElem_toArray, List.getElem_cons_zero, List.setIfInBounds_toArray, List.set_cons_zero, List.set_cons_succ]
  refine wpAnyT_takeB (i := 1) (.int .i64 n) rfl (by kernel_rfl) (fun j hj => by cases hj) (by kernel_rfl) (by kernel_rfl) (by simp [Region.wanted]) (fun V hV => by
    obtain ⟨s0, s1, sz⟩ := sz_box HBS.out hV
    go_simp) hS3 ?_
  try simp only [Act.put, List.getElem_toArray, List.getElem_cons_zero, List.getElem_cons_succ, List.setIfInBounds_toArray, List.set_cons_zero, List.set_cons_succ]
  refine wpAnyT_takeB (i := 2) (.pointer (some ⟨w.heap.size, 1, none⟩)) rfl (by kernel_rfl) (fun j hj => by cases hj) (by kernel_rfl) (by kernel_rfl) (by simp [Region.wanted]) (fun V hV => by
    obtain ⟨s0, s1, sz⟩ := sz_box HBS.out hV
    go_simp) hS3 ?_
  try simp only [Act.put, List.getElem_toArray, List.getElem_cons_zero, List.getElem_cons_succ, List.setIfInBounds_toArray, List.set_cons_zero, List.set_cons_succ]
  refine wpAnyT_takeB (i := 3) (.int .i64 m) rfl (by kernel_rfl) (fun j hj => by cases hj) (by kernel_rfl) (by kernel_rfl) (by simp [Region.wanted]) (fun V hV => by
    obtain ⟨s0, s1, sz⟩ := sz_box HBS.out hV
    go_simp) hS3 ?_
  try simp only [Act.put, List.getElem_toArray, List.getElem_cons_zero, List.getElem_cons_succ, List.setIfInBounds_toArray, List.set_cons_zero, List.set_cons_succ]
  refine wpAnyT_takeB (i := 4) (.agg #[.int .i64 a.op, .int .i64 a.num, .slice p a.args.length c]) rfl (by kernel_rfl) (fun j hj => by cases hj) (by kernel_rfl) (by kernel_rfl) (by simp [Region.wanted]) (fun V hV => by
    obtain ⟨c0, c1, c2, hz⟩ := xbox3 HBA.out hV
    go_simp) hS3 ?_
  try simp only [Act.put, List.getElem_toArray, List.getElem_cons_zero, List.getElem_cons_succ, List.setIfInBounds_toArray, List.set_cons_zero, List.set_cons_succ]
  refine wpAnyT_takeB (i := 5) (.agg #[.int .i64 b.op, .int .i64 b.num, .slice q b.args.length d]) rfl (by kernel_rfl) (fun j hj => by cases hj) (by kernel_rfl) (by kernel_rfl) (by simp [Region.wanted]) (fun V hV => by
    obtain ⟨c0, c1, c2, hz⟩ := xbox3 HBB.out hV
    go_simp) hS3 ?_
  try simp only [Act.put, List.getElem_toArray, List.getElem_cons_zero, List.getElem_cons_succ, List.setIfInBounds_toArray, List.set_cons_zero, List.set_cons_succ]
  refine wpAnyT_oneB (i := 6) rfl (by kernel_rfl) (fun KK hKK => ?_)
  go_wp2_with fail
  refine (mkboth_any (fun _ => False) 11 a b _ _ Yo3 (fun _ h => h.elim) (exBut_of (HXA.out.ext (hE2.trans hS3))) (exBut_of (HXB.out.ext (hE2.trans hS3)))).mono ?_
  rintro r Yo4 ⟨u, rfl, hu, hE4⟩
  have HCND := hide hu.at_
  obtain ⟨qa, la, rfl, -⟩ := hu.at_.form
  have hS4 := hS3.trans hE4
  have hE34 := hE3.trans hE4
  clear hu hS3 hE4 hE3
  go_wp2_with fail
  refine ⟨rfl, hKK _ _ (fun _ => hS4) ?_⟩
  clear hKK KK
  try simp only [Act.put, List.getElem_toArray, List.getElem_cons_zero, List.getElem_cons_succ, List.setIfInBounds_toArray, List.set_cons_zero, List.set_cons_succ]
  refine wpAnyT_oneB (i := 7) rfl (by kernel_rfl) (fun KK hKK => ?_)
  go_wp2_with fail
  have hPC := HPI.out (orE a b) _ (by have h1 := HNA.out; have h2 := HNB.out; simp only [Ex.nodes, Ex.nodesL]; omega) HFV.out Yo4 (hE2.trans hS4) HCND.out
  generalize hrc : inpS n m (orE a b) = rc at hPC
  obtain ⟨OR, eo⟩ := rc
  have HRO := hide hrc
  clear hrc HCND
  refine hPC.mono ?_
  clear hPC
  rintro r Yo5 ⟨u, rfl, hu, hE5⟩
  have HOR := hide hu
  obtain ⟨q5, l5, rfl⟩ := hu.sl
  have hS5 := hS4.trans hE5
  have hE35 := hE34.trans hE5
  clear hu hS4 hE34 hE5
  go_wp2_with fail
  refine ⟨rfl, hKK _ _ (fun _ => hS5) ?_⟩
  clear hKK KK
  try simp only [Act.put, List.getElem_toArray, List.getElem_cons_zero, List.getElem_cons_succ, List.setIfInBounds_toArray, List.set_cons_zero, List.set_cons_succ]
  refine wpAnyT_oneB (i := 8) rfl (by kernel_rfl) (fun KK hKK => ?_)
  go_wp2_with fail
  refine ⟨rfl, hKK _ _ (fun _ => hS5) ?_⟩
  clear hKK KK
  try simp only [Act.put, List.getElem_toArray, List.getElem_cons_zero, List.getElem_cons_succ, List.setIfInBounds_toArray, List.set_cons_zero, List.set_cons_succ]
  refine wpAnyT_takeB (i := 9) (.slice q5 OR.length l5) rfl (by kernel_rfl) (fun j hj => by cases hj) (by kernel_rfl) (by kernel_rfl) (by simp [Region.wanted]) (fun V hV => by go_simp) hS5 ?_
  try simp only [Act.put, List.getElem_toArray, List.getElem_cons_zero, List.getElem_cons_succ, List.setIfInBounds_toArray, List.set_cons_zero, List.set_cons_succ]
  refine wpAnyT_takeB (i := 10) (.int .i64 eo) rfl (by kernel_rfl) (fun j hj => by cases hj) (by kernel_rfl) (by kernel_rfl) (by simp [Region.wanted]) (fun V hV => by go_simp) hS5 ?_
  try simp only [Act.put, List.getElem_toArray, List.getElem_cons_zero, List.getElem_cons_succ, List.setIfInBounds_toArray, List.set_cons_zero, List.set_cons_succ]
  refine wpAnyT_oneB (i := 11) rfl (by kernel_rfl) (fun KK hKK => ?_)
  go_wp2_with fail
  refine ⟨rfl, hKK _ _ (fun _ => hS5) ?_⟩
  clear hKK KK
  try simp only [Act.put, List.getElem_toArray, List.getElem_cons_zero, List.getElem_cons_succ, List.setIfInBounds_toArray, List.set_cons_zero, List.set_cons_succ]
  refine wpAnyT_oneB (i := 12) rfl (by kernel_rfl) (fun KK hKK => ?_)
  go_wp2_with fail
  refine ⟨rfl, hKK _ _ (fun _ => hS5) ?_⟩
  clear hKK KK
  refine wpAnyT_done (by kernel_rfl) ?_ _
  have HX := hide (HX.out.ext hE35)
  have HY := hide (HY.out.ext hE35)
  have HAN := hide (HAN.out.ext hE35)
  have hE2Yo := hS5
  clear hS5 hE35 hE2Ya
  go_wp2_with fail
  refine wp_region_heldB (fun V => Ext w2 V) (fun _ => false) (by kernel_rfl) ?_
  intro Yn3 hY3
  have hE3 : Ext Yo5 Yn3 := by rw [hY3]; exact (Ext.refl Yo5).drew
  clear hY3
  have hS3 : Ext w2 Yn3 := hE2Yo.trans hE3
  refine wpAnyT_takeB (i := 0) (.pointer (some ⟨w.heap.size, 0, none⟩)) rfl (by kernel_rfl) (fun j hj => by cases hj) (by kernel_rfl) (by kernel_rfl) (by simp [Region.wanted]) (fun V hV => by
    obtain ⟨s0, s1, sz⟩ := sz_box HBS.out hV
    go_simp) hS3 ?_
  try simp only [Act.put, List.getElem_toArray, List.getElem_cons_zero, List.setIfInBounds_toArray, List.set_cons_zero, List.set_cons_succ]
  refine wpAnyT_takeB (i := 1) (.int .i64 n) rfl (by kernel_rfl) (fun j hj => by cases hj) (by kernel_rfl) (by kernel_rfl) (by simp [Region.wanted]) (fun V hV => by
    obtain ⟨s0, s1, sz⟩ := sz_box HBS.out hV
    go_simp) hS3 ?_
  try simp only [Act.put, List.getElem_toArray, List.getElem_cons_zero, List.getElem_cons_succ, List.setIfInBounds_toArray, List.set_cons_zero, List.set_cons_succ]
  refine wpAnyT_takeB (i := 2) (.pointer (some ⟨w.heap.size, 1, none⟩)) rfl (by kernel_rfl) (fun j hj => by cases hj) (by kernel_rfl) (by kernel_rfl) (by simp [Region.wanted]) (fun V hV => by
    obtain ⟨s0, s1, sz⟩ := sz_box HBS.out hV
    go_simp) hS3 ?_
  try simp only [Act.put, List.getElem_toArray, List.getElem_cons_zero, List.getElem_cons_succ, List.setIfInBounds_toArray, List.set_cons_zero, List.set_cons_succ]
  refine wpAnyT_takeB (i := 3) (.int .i64 m) rfl (by kernel_rfl) (fun j hj => by cases hj) (by kernel_rfl) (by kernel_rfl) (by simp [Region.wanted]) (fun V hV => by
    obtain ⟨s0, s1, sz⟩ := sz_box HBS.out hV
    go_simp) hS3 ?_
  try simp only [Act.put, List.getElem_toArray, List.getElem_cons_zero, List.getElem_cons_succ, List.setIfInBounds_toArray, List.set_cons_zero, List.set_cons_succ]
  refine wpAnyT_takeB (i := 4) (.agg #[.int .i64 a.op, .int .i64 a.num, .slice p a.args.length c]) rfl (by kernel_rfl) (fun j hj => by cases hj) (by kernel_rfl) (by kernel_rfl) (by simp [Region.wanted]) (fun V hV => by
    obtain ⟨c0, c1, c2, hz⟩ := xbox3 HBA.out hV
    go_simp) hS3 ?_
  try simp only [Act.put, List.getElem_toArray, List.getElem_cons_zero, List.getElem_cons_succ, List.setIfInBounds_toArray, List.set_cons_zero, List.set_cons_succ]
  refine wpAnyT_oneB (i := 5) rfl (by kernel_rfl) (fun KK hKK => ?_)
  go_wp2_with fail
  refine (mkone_any (fun _ => False) 12 a _ Yn3 (fun _ h => h.elim) (exBut_of (HXA.out.ext (hE2.trans hS3)))).mono ?_
  rintro r Yn4 ⟨u, rfl, hu, hE4⟩
  have HCND := hide hu.at_
  obtain ⟨qa, la, rfl, -⟩ := hu.at_.form
  have hS4 := hS3.trans hE4
  have hE34 := hE3.trans hE4
  clear hu hS3 hE4 hE3
  go_wp2_with fail
  refine ⟨rfl, hKK _ _ (fun _ => hS4) ?_⟩
  clear hKK KK
  try simp only [Act.put, List.getElem_toArray, List.getElem_cons_zero, List.getElem_cons_succ, List.setIfInBounds_toArray, List.set_cons_zero, List.set_cons_succ]
  refine wpAnyT_oneB (i := 6) rfl (by kernel_rfl) (fun KK hKK => ?_)
  go_wp2_with fail
  have hPC := HPI.out (notE a) _ (by have h1 := HNA.out; have h2 := HNB.out; simp only [Ex.nodes, Ex.nodesL]; omega) HFV.out Yn4 (hE2.trans hS4) HCND.out
  generalize hrc : inpS n m (notE a) = rc at hPC
  obtain ⟨NT, en⟩ := rc
  have HRN := hide hrc
  clear hrc HCND
  refine hPC.mono ?_
  clear hPC
  rintro r Yn5 ⟨u, rfl, hu, hE5⟩
  have HNT := hide hu
  obtain ⟨q5, l5, rfl⟩ := hu.sl
  have hS5 := hS4.trans hE5
  have hE35 := hE34.trans hE5
  clear hu hS4 hE34 hE5
  go_wp2_with fail
  refine ⟨rfl, hKK _ _ (fun _ => hS5) ?_⟩
  clear hKK KK
  try simp only [Act.put, List.getElem_toArray, List.getElem_cons_zero, List.getElem_cons_succ, List.setIfInBounds_toArray, List.set_cons_zero, List.set_cons_succ]
  refine wpAnyT_oneB (i := 7) rfl (by kernel_rfl) (fun KK hKK => ?_)
  go_wp2_with fail
  refine ⟨rfl, hKK _ _ (fun _ => hS5) ?_⟩
  clear hKK KK
  try simp only [Act.put, List.getElem_toArray, List.getElem_cons_zero, List.getElem_cons_succ, List.setIfInBounds_toArray, List.set_cons_zero, List.set_cons_succ]
  refine wpAnyT_takeB (i := 8) (.slice q5 NT.length l5) rfl (by kernel_rfl) (fun j hj => by cases hj) (by kernel_rfl) (by kernel_rfl) (by simp [Region.wanted]) (fun V hV => by go_simp) hS5 ?_
  try simp only [Act.put, List.getElem_toArray, List.getElem_cons_zero, List.getElem_cons_succ, List.setIfInBounds_toArray, List.set_cons_zero, List.set_cons_succ]
  refine wpAnyT_takeB (i := 9) (.int .i64 en) rfl (by kernel_rfl) (fun j hj => by cases hj) (by kernel_rfl) (by kernel_rfl) (by simp [Region.wanted]) (fun V hV => by go_simp) hS5 ?_
  try simp only [Act.put, List.getElem_toArray, List.getElem_cons_zero, List.getElem_cons_succ, List.setIfInBounds_toArray, List.set_cons_zero, List.set_cons_succ]
  refine wpAnyT_oneB (i := 10) rfl (by kernel_rfl) (fun KK hKK => ?_)
  go_wp2_with fail
  refine ⟨rfl, hKK _ _ (fun _ => hS5) ?_⟩
  clear hKK KK
  try simp only [Act.put, List.getElem_toArray, List.getElem_cons_zero, List.getElem_cons_succ, List.setIfInBounds_toArray, List.set_cons_zero, List.set_cons_succ]
  refine wpAnyT_oneB (i := 11) rfl (by kernel_rfl) (fun KK hKK => ?_)
  go_wp2_with fail
  refine ⟨rfl, hKK _ _ (fun _ => hS5) ?_⟩
  clear hKK KK
  refine wpAnyT_done (by kernel_rfl) ?_ _
  have HX := hide (HX.out.ext hE35)
  have HY := hide (HY.out.ext hE35)
  have HAN := hide (HAN.out.ext hE35)
  have HOR := hide (HOR.out.ext hE35)
  have hE2Yn := hS5
  clear hS5 hE35 hE2Yo
  obtain ⟨s0, s1, sz⟩ := sz_box HBS.out hE2Yn
  go_wp2_with fail
  have hPV := HPI.out noE _ (by decide) HFV.out Yn5 (hE2.trans hE2Yn) (exAt_zero _ _ _)
  generalize hrv : inpS n m noE = rv at hPV
  obtain ⟨V, ev⟩ := rv
  have HRV := hide hrv
  clear hrv
  refine hPV.mono ?_
  clear hPV
  rintro r w12 ⟨u, rfl, hu, hE12⟩
  have HX := hide (HX.out.ext hE12)
  have HY := hide (HY.out.ext hE12)
  have HAN := hide (HAN.out.ext hE12)
  have HOR := hide (HOR.out.ext hE12)
  have HNT := hide (HNT.out.ext hE12)
  have HVV := hide hu
  obtain ⟨qv, lv, rfl⟩ := hu.sl
  have hE212 := hE2Yn.trans hE12
  clear s0 s1 sz hu hE12 hE2Yn
  have HSA := HOKA.out (by simp)
  have HSB := HOKB.out (by simp)
  have hA := comb_err HSA.1 rfl (condS_two (.inl rfl) HSA.2 HSB.2 HNA.out HNB.out) (exchk_two (.inl rfl) HSA.2 HSB.2 HNA.out HNB.out) HRC.out
  have hO := comb_err HSA.1 rfl (condS_two (.inr rfl) HSA.2 HSB.2 HNA.out HNB.out) (exchk_two (.inr rfl) HSA.2 HSB.2 HNA.out HNB.out) HRO.out
  have hN := comb_err HSA.1 rfl (condS_not HSA.2 HNA.out) (exchk_not HSA.2 HNA.out) HRN.out
  have hV : ev = 0 := by have := HRV.out; rw [inpS_none HSA.1] at this; injection this with _ h; exact h.symm
  subst hV
  have HSA := hide HSA
  have HSB := hide HSB
  rcases hA with ⟨rfl, hA⟩ | rfl
  case inr =>
    clear hO hN
    go_wp2_with fail
    refine (HAW.out w12 (hE2.trans hE212)).mono ?_
    rintro r w19 ⟨rfl, hE19⟩
    go_wp2_with fail
    go_ret
    exact ⟨rfl, (hE2.trans hE212).trans hE19⟩
  case inl =>
  have HA1 := hide hA
  clear hA
  rcases hO with ⟨rfl, hO⟩ | rfl
  case inr =>
    clear hN
    go_wp2_with fail
    refine (HAW.out w12 (hE2.trans hE212)).mono ?_
    rintro r w19 ⟨rfl, hE19⟩
    go_wp2_with fail
    go_ret
    exact ⟨rfl, (hE2.trans hE212).trans hE19⟩
  case inl =>
  have HO1 := hide hO
  clear hO
  rcases hN with ⟨rfl, hN⟩ | rfl
  case inr =>
    go_wp2_with fail
    refine (HAW.out w12 (hE2.trans hE212)).mono ?_
    rintro r w19 ⟨rfl, hE19⟩
    go_wp2_with fail
    go_ret
    exact ⟨rfl, (hE2.trans hE212).trans hE19⟩
  case inl =>
  have HN1 := hide hN
  clear hN
  have HOK := hide (comb_ok (n := n) (m := m) HSA.out.1 HSA.out.2 HSB.out.2 HAA.out HAB.out HA1.out HO1.out HN1.out)
  rw [HRA.out, HRB.out, HRC.out, HRO.out, HRN.out, HRV.out] at HOK
  have HOK : Hid (CombOk X Y AN OR NT V) := HOK
  have hd1 : decide ((X.length : Int) < (AN.length : Int)) = false := by have := HOK.out.le; simp; omega
  have hd3 : decide (X.length < AN.length) = false := by have := HOK.out.le; simp; omega
  have hd2 : ((V.length : Int) == 0) = false := beq_eq_false_iff_ne.2 (by have := HOK.out.ne; omega)
  have hd4 : (V.length == 0) = false := beq_eq_false_iff_ne.2 HOK.out.ne
  go_wp2_with fail
  have lx : X.length ≤ 1024 := by have := inpS_len (n := n) (m := m) (e := a) HFV.out; rw [HRA.out] at this; exact this
  have ly : Y.length ≤ 1024 := by have := inpS_len (n := n) (m := m) (e := b) HFV.out; rw [HRB.out] at this; exact this
  have la : AN.length ≤ 1024 := by have := inpS_len (n := n) (m := m) (e := andE a b) HFV.out; rw [HRC.out] at this; exact this
  have lo : OR.length ≤ 1024 := by have := inpS_len (n := n) (m := m) (e := orE a b) HFV.out; rw [HRO.out] at this; exact this
  have ln : NT.length ≤ 1024 := by have := inpS_len (n := n) (m := m) (e := notE a) HFV.out; rw [HRN.out] at this; exact this
  have lV : V.length ≤ 1024 := by have := inpS_len (n := n) (m := m) (e := noE) HFV.out; rw [HRV.out] at this; exact this
  have HRX := hide (HX.out.rows2 (by omega))
  have HRY := hide (HY.out.rows2 (by omega))
  have HRA2 := hide (HAN.out.rows2 (by omega))
  have HRO2 := hide (HOR.out.rows2 (by omega))
  have HRN2 := hide (HNT.out.rows2 (by omega))
  obtain ⟨pv, cv, hpv, -, -, hvat⟩ := (HVV.out.rows2 (by omega)).sl_all
  injection hpv with e1 _ e2
  subst e1 e2
  have HVAT := hide hvat
  have HGM : Hid (∀ i, i < V.length → V.getD i [] ∈ V) := fun i hi => by
    rw [List.getD_eq_getElem?_getD, List.getElem?_eq_getElem hi]; exact List.getElem_mem hi
  have HOA := hide (fun i (hi : i < V.length) => HOK.out.and_ _ (HGM.out i hi))
  have HOO := hide (fun i (hi : i < V.length) => HOK.out.or_ _ (HGM.out i hi))
  have HON := hide (fun i (hi : i < V.length) => HOK.out.not_ _ (HGM.out i hi))
  have hsum : ((X.length : Int) + (NT.length : Int) == (V.length : Int)) = true := by have := HOK.out.sum; rw [beq_iff_eq]; omega
  have hsum2 : (X.length + NT.length == V.length) = true := by have := HOK.out.sum; rw [beq_iff_eq]; omega
  have HS1 := hide hsum
  have HS2 := hide hsum2
  clear hvat hd1 hd2 hd3 hd4 hsum hsum2 HOK HGM HX HY HAN HOR HNT HVV HRA HRB HRC HRO HRN HRV HSA HSB HA1 HO1 HN1 HPI HXA HXB HOKA HOKB HFS HCA HCB HFA HFB HAA HAB HNA HNB HFV HBS HBA HBB HW2
  clear la lo ly
  have hE12 := hE2.trans hE212
  clear hE212 hE2
  go_loopw [152] (fun x wr => ∃ i : Nat, i ≤ V.length ∧ x = .int .i64 i ∧ Ext w12 wr) (fun x _ => V.length - (intOf x).toNat)
  case atStart => exact ⟨0, by omega, rfl, Ext.refl _⟩
  case round =>
    obtain ⟨i, hi, rfl, hE⟩ := hrel
    by_cases hlt : i < V.length
    · obtain ⟨b1, o1, rfl, hb1, hat⟩ := HVAT.out (by omega)
      obtain ⟨q1, d1, hca, hra, hla⟩ := hat i hlt
      have hx := hca wr hE
      have hA := HOA.out i hlt
      have hO := HOO.out i hlt
      have hN := HON.out i hlt
      have HCX := hide (fun W (hW : Ext w12 W) => rhasv_any X _ _ _ W (HRX.out.ext hW) (hra.ext hW))
      have HCY := hide (fun W (hW : Ext w12 W) => rhasv_any Y _ _ _ W (HRY.out.ext hW) (hra.ext hW))
      have HCA := hide (fun W (hW : Ext w12 W) => rhasv_any AN _ _ _ W (HRA2.out.ext hW) (hra.ext hW))
      have HCO := hide (fun W (hW : Ext w12 W) => rhasv_any OR _ _ _ W (HRO2.out.ext hW) (hra.ext hW))
      have HCN := hide (fun W (hW : Ext w12 W) => rhasv_any NT _ _ _ W (HRN2.out.ext hW) (hra.ext hW))
      rw [hA] at HCA
      rw [hO] at HCO
      rw [hN] at HCN
      clear hat hca hra hA hO hN
      generalize decide (V.getD i [] ∈ X) = px at HCX HCA HCO HCN
      generalize decide (V.getD i [] ∈ Y) = py at HCY HCA HCO
      generalize (V.getD i []).length = lv at hx HCX HCY HCA HCO HCN hla
      have hz1 := hE.size
      have hb1' : b1 < wr.heap.size := by omega
      clear hz1
      cases px <;> cases py
      all_goals
        simp only [Bool.and_true, Bool.and_false, Bool.or_true, Bool.or_false, Bool.not_true, Bool.not_false] at HCA HCO HCN
        go_wp2_with fail
        refine (HCX.out _ hE).mono ?_
        rintro r w15 ⟨rfl, h15⟩
        have e15 := hE.trans h15
        clear h15 hx
        go_wp2_with fail
        refine (HCY.out _ e15).mono ?_
        rintro r w16 ⟨rfl, h16⟩
        have e16 := e15.trans h16
        clear h16
        go_wp2_with fail
        refine (HCA.out _ e16).mono ?_
        rintro r w17 ⟨rfl, h17⟩
        have e17 := e16.trans h17
        clear h17
        go_wp2_with fail
        refine (HCO.out _ e17).mono ?_
        rintro r w18 ⟨rfl, h18⟩
        have e18 := e17.trans h18
        clear h18
        go_wp2_with fail
        refine (HCN.out _ e18).mono ?_
        rintro r w20 ⟨rfl, h20⟩
        have e20 := e18.trans h20
        clear h20
        go_wp2_with fail
        go_roundw
        case rel => exact ⟨i + 1, by omega, by go_num, e20⟩
        case measure => simp [intOf]; omega
    · obtain rfl : i = V.length := by omega
      have hs1 := HS1.out
      have hs2 := HS2.out
      go_wp2_with (go_at_call 12; refine (HAW.out _ (hE12.trans hE)).mono ?_; rintro r w19 ⟨rfl, hE19⟩)
      go_ret
      exact ⟨rfl, (hE12.trans hE).trans hE19⟩
end Go.Proofs.YthpccmmdkbjjhaaDoor
