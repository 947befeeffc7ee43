/-
  The walk of 'ConditionTasks'.
  Conditions: as each theorem states.
-/
import Derived.Test.YthpccmmdkbjjhaaDoorOpen13
import Derived.Test.YthpccmmdkbjjhaaDoorTkRep
import Derived.Test.YthpccmmdkbjjhaaDoorRTask
namespace Go.Proofs.YthpccmmdkbjjhaaDoor
open Go.RowKit
attribute [local go_sem] Oper.semAt_some

def fewDc (d : Dc) : Bool := efew d.wh && (efew d.al && (efew d.ca && ((decide (d.ins ≤ 3) || decide (8 < d.ins)) && (decide (d.outs ≤ 3) || decide (8 < d.outs)))))
set_option maxRecDepth 16000 in
set_option maxHeartbeats 2000000 in
theorem rfewd_any (d : Dc) (v : Value) (w : World) (hv : DcAt w v d) :
    Calls Tryd.prog 18 #[v] w fun e w' => e = .returned (.bool (fewDc d)) ∧ Ext w w' := by
  obtain ⟨s, p1, c1, p2, c2, p3, c3, rfl, h1, h2, h3⟩ := hv
  have H1 := hide (fun W (hW : Ext w W) => rfew_ex d.wh _ W (h1.ext hW))
  have H2 := hide (fun W (hW : Ext w W) => rfew_ex d.al _ W (h2.ext hW))
  have H3 := hide (fun W (hW : Ext w W) => rfew_ex d.ca _ W (h3.ext hW))
  have HD0 := hide (heap_alloc_new w (.cells (DCells s d p1 c1 p2 c2 p3 c3) 43))
  have HE0 : Hid (Ext w (w.alloc (.cells (DCells s d p1 c1 p2 c2 p3 c3) 43))) := (Ext.refl w).alloc _
  have kd : Hid (∀ V, Ext (w.alloc (.cells (DCells s d p1 c1 p2 c2 p3 c3) 43)) V → (V.cell? ⟨w.heap.size, 1, none⟩ = some (.int .i64 d.ins) ∧ V.cell? ⟨w.heap.size, 2, none⟩ = some (.int .i64 d.outs)) ∧
      (V.cell? ⟨w.heap.size, 3, none⟩ = some (.int .i64 d.wh.op) ∧ V.cell? ⟨w.heap.size, 4, none⟩ = some (.int .i64 d.wh.num) ∧ V.cell? ⟨w.heap.size, 5, none⟩ = some (.slice p1 d.wh.args.length c1)) ∧
      (V.cell? ⟨w.heap.size, 6, none⟩ = some (.int .i64 d.al.op) ∧ V.cell? ⟨w.heap.size, 7, none⟩ = some (.int .i64 d.al.num) ∧ V.cell? ⟨w.heap.size, 8, none⟩ = some (.slice p2 d.al.args.length c2)) ∧
      (V.cell? ⟨w.heap.size, 9, none⟩ = some (.int .i64 d.ca.op) ∧ V.cell? ⟨w.heap.size, 10, none⟩ = some (.int .i64 d.ca.num) ∧ V.cell? ⟨w.heap.size, 11, none⟩ = some (.slice p3 d.ca.args.length c3)) ∧ w.heap.size < V.heap.size) := fun V hV => by
    have hb := (hV.b.block _ (lt_of_heap HD0.out)).trans HD0.out
    exact ⟨⟨decl_cells hb 1, decl_cells hb 2⟩, ⟨decl_cells hb 3, decl_cells hb 4, decl_cells hb 5⟩, ⟨decl_cells hb 6, decl_cells hb 7, decl_cells hb 8⟩, ⟨decl_cells hb 9, decl_cells hb 10, decl_cells hb 11⟩, lt_of_heap hb⟩
  obtain ⟨-, ⟨k3, k4, k5⟩, -, -, ksz⟩ := kd.out _ (Ext.refl _)
  clear h1 h2 h3 HD0
  unfold fewDc
  go_enter Tryd.func18, Tryd.ntmps18
  go_wp2_with fail
  refine (H1.out _ HE0.out).mono ?_
  rintro e w1 ⟨rfl, hE1⟩
  have HE1 := hide hE1
  clear k3 k4 k5 ksz hE1 H1
  cases hf : efew d.wh with
  | false =>
    have HFa := hide hf
    clear hf
    go_wp2_with fail
    go_ret
    exact ⟨ret_bool (by rw [HFa.out]; rfl), HE0.out.trans HE1.out⟩
  | true =>
  have HFa := hide hf
  clear hf
  obtain ⟨-, -, ⟨k3, k4, k5⟩, -, ksz⟩ := kd.out _ HE1.out
  go_wp2_with fail
  refine (H2.out _ (HE0.out.trans HE1.out)).mono ?_
  rintro e w2 ⟨rfl, hE2⟩
  have HE2 := hide (HE1.out.trans hE2)
  clear k3 k4 k5 ksz hE2 H2
  cases hf : efew d.al with
  | false =>
    have HFb := hide hf
    clear hf
    go_wp2_with fail
    go_ret
    exact ⟨ret_bool (by rw [HFa.out, HFb.out]; rfl), HE0.out.trans HE2.out⟩
  | true =>
  have HFb := hide hf
  clear hf
  obtain ⟨-, -, -, ⟨k3, k4, k5⟩, ksz⟩ := kd.out _ HE2.out
  go_wp2_with fail
  refine (H3.out _ (HE0.out.trans HE2.out)).mono ?_
  rintro e w3 ⟨rfl, hE3⟩
  have HE3 := hide (HE2.out.trans hE3)
  clear k3 k4 k5 ksz hE3 H3
  cases hf : efew d.ca with
  | false =>
    have HFc := hide hf
    clear hf
    go_wp2_with fail
    go_ret
    exact ⟨ret_bool (by rw [HFa.out, HFb.out, HFc.out]; rfl), HE0.out.trans HE3.out⟩
  | true =>
  have HFc := hide hf
  clear hf
  obtain ⟨⟨k1, k2⟩, -, -, -, ksz⟩ := kd.out _ HE3.out
  clear kd
  have key : ∀ a b c e : Bool, decide (d.ins ≤ 3) = a → decide (8 < d.ins) = b → decide (d.outs ≤ 3) = c → decide (8 < d.outs) = e → Hid ((efew d.wh && (efew d.al && (efew d.ca && ((decide (d.ins ≤ 3) || decide (8 < d.ins)) && (decide (d.outs ≤ 3) || decide (8 < d.outs)))))) = ((a || b) && (c || e))) := by
    intro a b c e h1 h2 h3 h4
    show _ = _
    rw [HFa.out, HFb.out, HFc.out, h1, h2, h3, h4]; rfl
  cases ha : decide (d.ins ≤ 3) <;> cases hb : decide (8 < d.ins) <;> cases hc : decide (d.outs ≤ 3) <;> cases hd : decide (8 < d.outs)
  all_goals
    have HK := key _ _ _ _ ha hb hc hd
    go_wp2_with fail
    go_ret
    exact ⟨ret_bool HK.out.symm, HE0.out.trans HE3.out⟩
theorem fewDc_at {d : Dc} {n : Int} (h : fewDc d = true) (hn : fewB n 1 = true) : d.wh.nodes ≤ 100000 ∧ d.al.nodes ≤ 100000 ∧ d.ca.nodes ≤ 100000 ∧ fewV n d.ins ∧ fewV n d.outs := by
  unfold fewDc at h
  simp only [Bool.and_eq_true] at h
  obtain ⟨h1, h2, h3, h4, h5⟩ := h
  have hn1 : (decide (n ≤ 3) || decide (5 < n)) = true := by
    unfold fewB at hn
    simp only [Bool.and_eq_true] at hn
    exact hn.1
  exact ⟨few_nodes h1, few_nodes h2, few_nodes h3, few_vecs (by unfold fewB; rw [hn1, h4]; rfl), few_vecs (by unfold fewB; rw [hn1, h5]; rfl)⟩
/-- The lists of a task that is made are short. -/
theorem taskS_short {n : Int} {d : Dc} (hf2 : fewV n d.outs) : ∀ c ∈ (taskS n d).1.cs, c.out.length ≤ 17592186044416 ∧ c.calm.length ≤ 17592186044416 := by
  intro c hc
  unfold taskS at hc
  split at hc
  · exact absurd hc (by simp)
  split at hc
  · exact absurd hc (by simp)
  split at hc
  · exact absurd hc (by simp)
  split at hc
  · exact absurd hc (by simp)
  split at hc
  · exact absurd hc (by simp)
  split at hc
  · exact absurd hc (by simp)
  rename_i h1 _ _ _ _ _
  obtain ⟨a1, a2, _, _, a5, a6⟩ := sizes_two (by simpa using h1)
  obtain ⟨x, _, rfl⟩ := List.mem_map.1 hc
  have hle : ((vecs d.outs.toNat n.toNat).filter (holdOut n.toNat x d.al)).length ≤ 1024 := Nat.le_trans (List.length_filter_le _ _) (by rw [vecs_len]; exact hf2 a1 a2 a5 a6)
  unfold caseS
  dsimp only
  refine ⟨by omega, ?_⟩
  split
  · simp
  · exact Nat.le_trans (List.length_filter_le _ _) (by omega)
theorem TkAt.form {w : World} {v : Value} {T : Tk} (h : TkAt w v T) : ∃ p c, v = .agg #[.int .i64 T.n, .int .i64 T.ins, .int .i64 T.outs, .slice p T.cs.length c] := by
  obtain ⟨u, vs, rfl, hl, ⟨p, c, rfl, _⟩, _⟩ := h
  exact ⟨p, c, by rw [hl]⟩
set_option maxRecDepth 16000 in
set_option maxHeartbeats 4000000 in
theorem tasks_law (n : Int) (d : Dc) (v : Value) (w : World) (hT : Tab w) (hv : DcAt w v d) :
    Calls Tryd.prog 5 #[.int .i64 n, v] w fun r w' => r = .returned (.bool true) ∧ Ext w w' := by
  have HFS := hide (fun W => few_any n 1 W)
  have HFD := hide (fun W (hW : Ext w W) => rfewd_any d v W (hv.ext hW))
  have HAW := hide (fun W (hW : Ext w W) => awake_any W (hT.ext hW))
  have HP := hide (fun h1 h2 h3 h4 h5 W (hW : Ext w W) => ptask_any n d v W (hT.ext hW) (hv.ext hW) h1 h2 h3 h4 h5)
  have HR := hide (fun h1 h2 h3 h4 h5 W (hW : Ext w W) => rtask_any n d v W (hT.ext hW) (hv.ext hW) h1 h2 h3 h4 h5)
  obtain ⟨s, p1, c1, p2, c2, p3, c3, rfl, -, -, -⟩ := hv
  clear hT
  have HD0 := hide (heap_alloc_new w (.cells (DCells s d p1 c1 p2 c2 p3 c3) 43))
  have HE0 : Hid (Ext w (w.alloc (.cells (DCells s d p1 c1 p2 c2 p3 c3) 43))) := (Ext.refl w).alloc _
  generalize hW0 : w.alloc (.cells (DCells s d p1 c1 p2 c2 p3 c3) 43) = w0 at HD0 HE0
  have HW0 := hide hW0
  clear hW0
  go_enter Tryd.func5, Tryd.ntmps5
  go_wp2_with fail
  rw [HW0.out]
  refine (HFS.out _).mono ?_
  rintro r w1 ⟨rfl, hE1⟩
  cases hf : fewB n 1 with
  | false =>
    go_wp2_with fail
    refine (HAW.out w1 (HE0.out.trans hE1)).mono ?_
    rintro r w4 ⟨rfl, hE4⟩
    go_wp2_with fail
    go_ret
    exact ⟨rfl, (HE0.out.trans hE1).trans hE4⟩
  | true =>
  have HF1 := hide hf
  have kd : Hid (∀ V, Ext w0 V → (V.cell? ⟨w.heap.size, 0, none⟩ = some (.string s) ∧ V.cell? ⟨w.heap.size, 1, none⟩ = some (.int .i64 d.ins) ∧ V.cell? ⟨w.heap.size, 2, none⟩ = some (.int .i64 d.outs)) ∧
      (V.cell? ⟨w.heap.size, 3, none⟩ = some (.int .i64 d.wh.op) ∧ V.cell? ⟨w.heap.size, 4, none⟩ = some (.int .i64 d.wh.num) ∧ V.cell? ⟨w.heap.size, 5, none⟩ = some (.slice p1 d.wh.args.length c1)) ∧
      (V.cell? ⟨w.heap.size, 6, none⟩ = some (.int .i64 d.al.op) ∧ V.cell? ⟨w.heap.size, 7, none⟩ = some (.int .i64 d.al.num) ∧ V.cell? ⟨w.heap.size, 8, none⟩ = some (.slice p2 d.al.args.length c2)) ∧
      (V.cell? ⟨w.heap.size, 9, none⟩ = some (.int .i64 d.ca.op) ∧ V.cell? ⟨w.heap.size, 10, none⟩ = some (.int .i64 d.ca.num) ∧ V.cell? ⟨w.heap.size, 11, none⟩ = some (.slice p3 d.ca.args.length c3)) ∧ w.heap.size < V.heap.size) := fun V hV => by
    have hb := (hV.b.block _ (lt_of_heap HD0.out)).trans HD0.out
    exact ⟨⟨decl_cells hb 0, decl_cells hb 1, decl_cells hb 2⟩, ⟨decl_cells hb 3, decl_cells hb 4, decl_cells hb 5⟩, ⟨decl_cells hb 6, decl_cells hb 7, decl_cells hb 8⟩, ⟨decl_cells hb 9, decl_cells hb 10, decl_cells hb 11⟩, lt_of_heap hb⟩
  obtain ⟨⟨k0, k1, k2⟩, ⟨k3, k4, k5⟩, ⟨k6, k7, k8⟩, ⟨k9, k10, k11⟩, ksz⟩ := kd.out _ hE1
  have HE1 := hide hE1
  clear hE1 hf
  go_wp2_with fail
  refine (HFD.out w1 (HE0.out.trans HE1.out)).mono ?_
  rintro r w2 ⟨rfl, hE2⟩
  have HE2 := hide (HE1.out.trans hE2)
  clear hE2 k0 k1 k2 k3 k4 k5 k6 k7 k8 k9 k10 k11 ksz
  cases hf : fewDc d with
  | false =>
    go_wp2_with fail
    refine (HAW.out w2 (HE0.out.trans HE2.out)).mono ?_
    rintro r w4 ⟨rfl, hE4⟩
    go_wp2_with fail
    go_ret
    exact ⟨rfl, (HE0.out.trans HE2.out).trans hE4⟩
  | true =>
  obtain ⟨g1, g2, g3, g4, g5⟩ := fewDc_at hf HF1.out
  have HP := hide (HP.out g1 g2 g3 g4 g5)
  have HR := hide (HR.out g1 g2 g3 g4 g5)
  have HSH := hide (taskS_short (n := n) (d := d) g5)
  clear hf g1 g2 g3 g4 g5
  generalize taskS n d = res at HP HR HSH
  obtain ⟨T, k⟩ := res
  obtain ⟨⟨k0, k1, k2⟩, ⟨k3, k4, k5⟩, ⟨k6, k7, k8⟩, ⟨k9, k10, k11⟩, ksz⟩ := kd.out _ HE2.out
  go_wp2_with fail
  refine (HP.out w2 (HE0.out.trans HE2.out)).mono ?_
  rintro r w3 ⟨u, rfl, hu, hE3⟩
  have HU : Hid (TkRep w3 u T) := TkAt.rep hu HSH.out
  obtain ⟨q3, l3, rfl⟩ := (show TkAt w3 u T from hu).form
  have HE3 := hide (HE2.out.trans hE3)
  clear hu hE3 k0 k1 k2 k3 k4 k5 k6 k7 k8 k9 k10 k11 ksz
  go_upto_region 4 with fail
  obtain ⟨w4, hw4⟩ : ∃ w4, w3.alloc (.cells #[.int .i64 T.n, .int .i64 T.ins, .int .i64 T.outs, .slice q3 T.cs.length l3] 47) = w4 := ⟨_, rfl⟩
  have hb4 : TBox w4 w3.heap.size (.int .i64 T.n) (.int .i64 T.ins) (.int .i64 T.outs) (.slice q3 T.cs.length l3) := by rw [← hw4]; exact heap_alloc_new w3 _
  have HB4 := hide hb4
  have hE4 : Ext w3 w4 := by rw [← hw4]; exact (Ext.refl _).alloc _
  have HE4 := hide (HE3.out.trans hE4)
  have HU := hide (HU.out.ext hE4)
  rw [hw4]
  clear hw4 hb4 hE4
  generalize w3.heap.size = g4 at HB4 ⊢
  obtain ⟨⟨k0, k1, k2⟩, ⟨k3, k4, k5⟩, ⟨k6, k7, k8⟩, ⟨k9, k10, k11⟩, ksz⟩ := kd.out _ HE4.out
  go_wp2_with fail
  refine (HR.out w4 (HE0.out.trans HE4.out)).mono ?_
  rintro r w5 ⟨u, rfl, hu, hE5⟩
  have HV : Hid (TkRep w5 u T) := TkAt.rep hu HSH.out
  obtain ⟨q5, l5, rfl⟩ := (show TkAt w5 u T from hu).form
  have HE5 := hide (HE4.out.trans hE5)
  have HU := hide (HU.out.ext hE5)
  have HB4 := hide (HB4.out.ext hE5)
  clear hu hE5 k0 k1 k2 k3 k4 k5 k6 k7 k8 k9 k10 k11 ksz
  go_upto_region 5 with fail
  obtain ⟨w6, hw6⟩ : ∃ w6, w5.alloc (.cells #[.int .i64 T.n, .int .i64 T.ins, .int .i64 T.outs, .slice q5 T.cs.length l5] 47) = w6 := ⟨_, rfl⟩
  have hb6 : TBox w6 w5.heap.size (.int .i64 T.n) (.int .i64 T.ins) (.int .i64 T.outs) (.slice q5 T.cs.length l5) := by rw [← hw6]; exact heap_alloc_new w5 _
  have hE6 : Ext w5 w6 := by rw [← hw6]; exact (Ext.refl _).alloc _
  have HE6 := hide (HE5.out.trans hE6)
  have HU := hide (HU.out.ext hE6)
  have HV := hide (HV.out.ext hE6)
  have HB4 := hide (HB4.out.ext hE6)
  rw [hw6]
  obtain ⟨a0, a1, a2, a3⟩ := HB4.out.cells
  obtain ⟨b0, b1, b2, b3⟩ := hb6.cells
  have z4 := lt_of_heap HB4.out
  have z6 := lt_of_heap hb6
  clear hw6 hb6 hE6
  generalize w5.heap.size = g6 at b0 b1 b2 b3 z6 ⊢
  go_wp2_with fail
  refine (rsame_tk T T _ _ w6 HU.out HV.out).mono ?_
  rintro r w7 ⟨rfl, hE7⟩
  rw [show decide (T = T) = true by simp]
  have hkk : ((k : Int) == k) = true := by simp
  clear a0 a1 a2 a3 b0 b1 b2 b3 z4 z6
  go_wp2_with fail
  refine (HAW.out w7 (HE0.out.trans (HE6.out.trans hE7))).mono ?_
  rintro r w8 ⟨rfl, hE8⟩
  go_wp2_with fail
  go_ret
  exact ⟨rfl, (HE0.out.trans (HE6.out.trans hE7)).trans hE8⟩
end Go.Proofs.YthpccmmdkbjjhaaDoor
