/-
  The walk of 'ConditionPermits'.
  Conditions: as each theorem states.
-/
import Derived.Test.YthpccmmdkbjjhaaDoorTasksW
import Derived.Test.YthpccmmdkbjjhaaDoorPermLaw
namespace Go.Proofs.YthpccmmdkbjjhaaDoor
open Go.RowKit
attribute [local go_sem] Oper.semAt_some

structure e_nodes (d : Dc) : Prop where
  a : d.wh.nodes ≤ 100000
  b : d.al.nodes ≤ 100000
  c : d.ca.nodes ≤ 100000
theorem e_nodes.at_ {d : Dc} (h : e_nodes d) {e : Ex} (hm : e = d.wh ∨ e = d.al ∨ e = d.ca) : e.nodes ≤ 100000 := by
  rcases hm with rfl | rfl | rfl
  · exact h.a
  · exact h.b
  · exact h.c
theorem cond_here {e : Ex} {u : Nat} (h : condS e u = 0) : absentE e = false := by
  unfold condS at h
  by_cases h1 : exchk e 0 ≠ 0
  · rw [if_pos h1] at h; exact absurd h h1
  rw [if_neg h1] at h
  by_cases h2 : kindOf e.op ≠ 1
  · rw [if_pos h2] at h; exact absurd h (by decide)
  cases ha : absentE e
  · rfl
  · unfold absentE at ha
    simp only [Bool.and_eq_true, beq_iff_eq] at ha
    rw [ha.1.1] at h2
    exact absurd (by decide) h2
theorem sc_vec {N Mi Mo : Nat} (h1 : 1 ≤ N) (h5 : N ≤ 5) (hi : 1 ≤ Mi) (hi8 : Mi ≤ 8) (ho : 1 ≤ Mo) (ho8 : Mo ≤ 8) {x y : List Int} (hx : x ∈ vecs Mi N) (hy : y ∈ vecs Mo N ∨ y = []) : Sc.ok ⟨N, x, y, gz⟩ := by
  refine ⟨h1, h5, fun v hv => ?_, fun v hv => ?_, fun k hk => ?_⟩
  · have := vecs_bd hi hx v hv; omega
  · rcases hy with hy | rfl
    · have := vecs_bd ho hy v hv; omega
    · simp at hv
  · obtain rfl | rfl | rfl | rfl | rfl : k = 0 ∨ k = 1 ∨ k = 2 ∨ k = 3 ∨ k = 4 := by omega
    all_goals exact (show (0 : Int) ≤ 0 ∧ (0 : Int) ≤ 1048576 from ⟨Int.le_refl 0, by decide⟩)
set_option maxRecDepth 100000 in
set_option maxHeartbeats 4000000 in
theorem permits_law (n : Int) (d : Dc) (v : Value) (w : World) (hT : Tab w) (hv : DcAt w v d) :
    Calls Tryd.prog 9 #[.int .i64 n, v] w fun r w' => r = .returned (.bool true) ∧ Ext w w' := by
  have HFS := hide (fun W => few_any n 1 W)
  have HFD := hide (fun W (hW : Ext w W) => rfewd_any d v W (hv.ext hW))
  have HAW := hide (fun W (hW : Ext w W) => awake_any W (hT.ext hW))
  have HP := hide (fun h1 h2 h3 h4 h5 W (hW : Ext w W) => ptask_any n d v W (hT.ext hW) (hv.ext hW) h1 h2 h3 h4 h5)
  obtain ⟨s, p1, c1, p2, c2, p3, c3, rfl, hx1, hx2, hx3⟩ := hv
  have HAB := hide (fun e v (hx : ExAt w v e) W (hW : Ext w W) => rabsent_any e v W (hx.ext hW))
  have HTR := hide (fun (hn : e_nodes d) e v (hm : e = d.wh ∨ e = d.al ∨ e = d.ca) (hx : ExAt w v e) N li l ui u W (hW : Ext w W) (hi : Row icells 1 W ui li) (ho : Row icells 1 W u l) hs => ptruth_ex ⟨N, li, l, gz⟩ hs e v (.agg #[.int .i64 N, ui, u, .int .i64 0, .int .i64 0, .int .i64 0, .int .i64 0, .int .i64 0, .slice none 0 0]) W (hT.ext hW) (hx.ext hW) (hn.at_ hm) ⟨_, _, _, rfl, hi, ho, Row.nil _ _ _⟩)
  have HX1 := hide hx1
  have HX2 := hide hx2
  have HX3 := hide hx3
  clear hT hx1 hx2 hx3
  have HD0 := hide (heap_alloc_new w (.cells (DCells s d p1 c1 p2 c2 p3 c3) 43))
  have HE0 : Hid (Ext w (w.alloc (.cells (DCells s d p1 c1 p2 c2 p3 c3) 43))) := (Ext.refl w).alloc _
  generalize hW0 : w.alloc (.cells (DCells s d p1 c1 p2 c2 p3 c3) 43) = w0 at HD0 HE0
  have HW0 := hide hW0
  clear hW0
  go_enter Tryd.func9, Tryd.ntmps9
  go_wp2_with fail
  rw [HW0.out]
  refine (HFS.out _).mono ?_
  rintro r w1 ⟨rfl, hE1⟩
  cases hf : fewB n 1 with
  | false =>
    go_wp2_with fail
    refine (HAW.out w1 (HE0.out.trans hE1)).mono ?_
    rintro r w4 ⟨rfl, hE4⟩
    go_wp2_with fail
    go_ret
    exact ⟨rfl, (HE0.out.trans hE1).trans hE4⟩
  | true =>
  have HF1 := hide hf
  have kd : Hid (∀ V, Ext w0 V → (V.cell? ⟨w.heap.size, 0, none⟩ = some (.string s) ∧ V.cell? ⟨w.heap.size, 1, none⟩ = some (.int .i64 d.ins) ∧ V.cell? ⟨w.heap.size, 2, none⟩ = some (.int .i64 d.outs)) ∧
      (V.cell? ⟨w.heap.size, 3, none⟩ = some (.int .i64 d.wh.op) ∧ V.cell? ⟨w.heap.size, 4, none⟩ = some (.int .i64 d.wh.num) ∧ V.cell? ⟨w.heap.size, 5, none⟩ = some (.slice p1 d.wh.args.length c1)) ∧
      (V.cell? ⟨w.heap.size, 6, none⟩ = some (.int .i64 d.al.op) ∧ V.cell? ⟨w.heap.size, 7, none⟩ = some (.int .i64 d.al.num) ∧ V.cell? ⟨w.heap.size, 8, none⟩ = some (.slice p2 d.al.args.length c2)) ∧
      (V.cell? ⟨w.heap.size, 9, none⟩ = some (.int .i64 d.ca.op) ∧ V.cell? ⟨w.heap.size, 10, none⟩ = some (.int .i64 d.ca.num) ∧ V.cell? ⟨w.heap.size, 11, none⟩ = some (.slice p3 d.ca.args.length c3)) ∧ w.heap.size < V.heap.size) := fun V hV => by
    have hb := (hV.b.block _ (lt_of_heap HD0.out)).trans HD0.out
    exact ⟨⟨decl_cells hb 0, decl_cells hb 1, decl_cells hb 2⟩, ⟨decl_cells hb 3, decl_cells hb 4, decl_cells hb 5⟩, ⟨decl_cells hb 6, decl_cells hb 7, decl_cells hb 8⟩, ⟨decl_cells hb 9, decl_cells hb 10, decl_cells hb 11⟩, lt_of_heap hb⟩
  obtain ⟨⟨k0, k1, k2⟩, ⟨k3, k4, k5⟩, ⟨k6, k7, k8⟩, ⟨k9, k10, k11⟩, ksz⟩ := kd.out _ hE1
  have HE1 := hide hE1
  clear hE1 hf
  go_wp2_with fail
  refine (HFD.out w1 (HE0.out.trans HE1.out)).mono ?_
  rintro r w2 ⟨rfl, hE2⟩
  have HE2 := hide (HE1.out.trans hE2)
  clear hE2 k0 k1 k2 k3 k4 k5 k6 k7 k8 k9 k10 k11 ksz
  cases hf : fewDc d with
  | false =>
    go_wp2_with fail
    refine (HAW.out w2 (HE0.out.trans HE2.out)).mono ?_
    rintro r w4 ⟨rfl, hE4⟩
    go_wp2_with fail
    go_ret
    exact ⟨rfl, (HE0.out.trans HE2.out).trans hE4⟩
  | true =>
  obtain ⟨g1, g2, g3, g4, g5⟩ := fewDc_at hf HF1.out
  have HP := hide (HP.out g1 g2 g3 g4 g5)
  have HMADE := hide (fun h => made_of (n := n) (d := d) h g4 g5)
  have HNO : Hid (e_nodes d) := ⟨g1, g2, g3⟩
  clear hf g1 g2 g3 g4 g5
  generalize hre : taskS n d = res at HP HMADE
  clear hre
  obtain ⟨T, k⟩ := res
  obtain ⟨⟨k0, k1, k2⟩, ⟨k3, k4, k5⟩, ⟨k6, k7, k8⟩, ⟨k9, k10, k11⟩, ksz⟩ := kd.out _ HE2.out
  go_wp2_with fail
  refine (HP.out w2 (HE0.out.trans HE2.out)).mono ?_
  rintro r w3 ⟨u, rfl, hu, hE3⟩
  have HU0 : Hid (TkAt w3 u T) := hu
  obtain ⟨q3, l3, rfl⟩ := (show TkAt w3 u T from hu).form
  have HE3 := hide (HE2.out.trans hE3)
  clear hu hE3
  clear k0 k1 k2 k3 k4 k5 k6 k7 k8 k9 k10 k11 ksz
  go_upto_region 4 with fail
  obtain ⟨w4, hw4⟩ : ∃ w4, w3.alloc (.cells #[.int .i64 T.n, .int .i64 T.ins, .int .i64 T.outs, .slice q3 T.cs.length l3] 47) = w4 := ⟨_, rfl⟩
  have hb4 : TBox w4 w3.heap.size (.int .i64 T.n) (.int .i64 T.ins) (.int .i64 T.outs) (.slice q3 T.cs.length l3) := by rw [← hw4]; exact heap_alloc_new w3 _
  have HB4 := hide hb4
  have hE4 : Ext w3 w4 := by rw [← hw4]; exact (Ext.refl _).alloc _
  have HE4 := hide (HE3.out.trans hE4)
  have HU0 := hide (HU0.out.ext hE4)
  rw [hw4]
  clear hw4 hb4 hE4
  generalize w3.heap.size = g4 at HB4 ⊢
  by_cases hk0 : k = 0
  case neg =>
    have hd : (k != 0) = true := by simp [hk0]
    clear hk0
    go_wp2_with fail
    refine (HAW.out w4 (HE0.out.trans HE4.out)).mono ?_
    rintro r w99 ⟨rfl, hE99⟩
    go_wp2_with fail
    go_ret
    exact ⟨rfl, (HE0.out.trans HE4.out).trans hE99⟩
  case pos =>
  subst hk0
  obtain ⟨N, Mi, Mo, rfl, hins, houts, hM⟩ := HMADE.out rfl
  have hM : Made1 N Mi Mo d T := hM
  have HM := hide hM
  have HU : Hid (TkRep w4 (.agg #[.int .i64 T.n, .int .i64 T.ins, .int .i64 T.outs, .slice q3 T.cs.length l3]) T) := TkAt.rep HU0.out hM.out_len
  have htn : T.n = (N : Int) := by rw [hM.e]
  have hti : T.ins = (Mi : Int) := by rw [hM.e]
  have hto : T.outs = (Mo : Int) := by rw [hM.e]
  have HCK := hide (fun W (hW : Ext w4 W) => tcheck_any T _ W (HU.out.ext hW))
  have HFI := hide (fun x u W (hW : Ext w4 W) (hx : Row icells 1 W u x) => find_any T x _ u W (HU.out.ext hW) hx)
  have HPE := hide (fun i y u W (hW : Ext w4 W) (hy : Row icells 1 W u y) => permitted_any T i 0 y _ u W (HU.out.ext hW) hy)
  have HAL := hide (fun i f W (hW : Ext w4 W) => allow_any T i f _ W (HU.out.ext hW) hM.calm_len)
  rw [hM.ok] at HCK
  rw [htn, hti, hto] at HB4 HCK HFI HPE HAL ⊢
  have HINS := hide hins
  have HOUTS := hide houts
  have HVI := hide (fun W => rvecs_any N Mi W hM.n5 hM.i8)
  have HVO := hide (fun W => rvecs_any N Mo W hM.n5 hM.o8)
  have HLI : Hid ((vecs Mi N).length ≤ 1024) := by show _ ≤ _; rw [vecs_len]; exact hM.fi
  have HLO : Hid ((vecs Mo N).length ≤ 1024) := by show _ ≤ _; rw [vecs_len]; exact hM.fo
  have HSC := hide (fun x y (hx : x ∈ vecs Mi N) (hy : y ∈ vecs Mo N ∨ y = []) => sc_vec hM.n1 hM.n5 hM.i1 hM.i8 hM.o1 hM.o8 hx hy)
  have hn1 := hM.n1
  have hn5 := hM.n5
  have hi1 := hM.i1
  have hi8 := hM.i8
  have ho1 := hM.o1
  have ho8 := hM.o8
  have HAL0 := hide (cond_here hM.c2)
  have HTR := hide (HTR.out HNO.out)
  have HTW := hide (fun N li ui W hW hi hs => HTR.out d.wh _ (.inl rfl) HX1.out N li [] ui (.slice none 0 0) W hW hi (Row.nil _ _ _) hs)
  have HTA := hide (HTR.out d.al _ (.inr (.inl rfl)) HX2.out)
  have HTC := hide (HTR.out d.ca _ (.inr (.inr rfl)) HX3.out)
  have HBW := hide (HAB.out d.wh _ HX1.out)
  have HBC := hide (HAB.out d.ca _ HX3.out)
  clear hM htn hti hto hins houts HMADE HU0 HTR HAB HX1 HX2 HX3 HP HFS HFD
  have kd : Hid (∀ V, Ext w0 V → (V.cell? ⟨w.heap.size, 1, none⟩ = some (.int .i64 Mi) ∧ V.cell? ⟨w.heap.size, 2, none⟩ = some (.int .i64 Mo)) ∧
      (V.cell? ⟨w.heap.size, 3, none⟩ = some (.int .i64 d.wh.op) ∧ V.cell? ⟨w.heap.size, 4, none⟩ = some (.int .i64 d.wh.num) ∧ V.cell? ⟨w.heap.size, 5, none⟩ = some (.slice p1 d.wh.args.length c1)) ∧
      (V.cell? ⟨w.heap.size, 6, none⟩ = some (.int .i64 d.al.op) ∧ V.cell? ⟨w.heap.size, 7, none⟩ = some (.int .i64 d.al.num) ∧ V.cell? ⟨w.heap.size, 8, none⟩ = some (.slice p2 d.al.args.length c2)) ∧
      (V.cell? ⟨w.heap.size, 9, none⟩ = some (.int .i64 d.ca.op) ∧ V.cell? ⟨w.heap.size, 10, none⟩ = some (.int .i64 d.ca.num) ∧ V.cell? ⟨w.heap.size, 11, none⟩ = some (.slice p3 d.ca.args.length c3)) ∧ w.heap.size < V.heap.size) := fun V hV => by
    obtain ⟨⟨_, h1, h2⟩, h3, h4, h5, h6⟩ := kd.out V hV
    rw [HINS.out] at h1
    rw [HOUTS.out] at h2
    exact ⟨⟨h1, h2⟩, h3, h4, h5, h6⟩
  have tbx : Hid (∀ V, Ext w4 V → V.cell? ⟨g4, 0, none⟩ = some (.int .i64 N) ∧ V.cell? ⟨g4, 1, none⟩ = some (.int .i64 Mi) ∧ V.cell? ⟨g4, 2, none⟩ = some (.int .i64 Mo) ∧ V.cell? ⟨g4, 3, none⟩ = some (.slice q3 T.cs.length l3) ∧ g4 < V.heap.size) := fun V hV => by
    have hb := TBox.ext HB4.out hV
    obtain ⟨t0, t1, t2, t3⟩ := hb.cells
    exact ⟨t0, t1, t2, t3, lt_of_heap hb⟩
  obtain ⟨⟨k1, k2⟩, -, -, -, ksz⟩ := kd.out _ HE4.out
  obtain ⟨t0, t1, t2, t3, tz⟩ := tbx.out _ (Ext.refl _)
  go_wp2_with fail
  refine (HCK.out _ (Ext.refl _)).mono ?_
  rintro r w5 ⟨rfl, hE5⟩
  have HT5 := hide hE5
  have HE5 := hide (HE4.out.trans hE5)
  clear hE5 k1 k2 ksz t0 t1 t2 t3 tz
  obtain ⟨⟨k1, k2⟩, -, -, -, ksz⟩ := kd.out _ HE5.out
  obtain ⟨t0, t1, t2, t3, tz⟩ := tbx.out _ HT5.out
  go_wp2_with fail
  refine (HVO.out _).mono ?_
  rintro r w6 ⟨uo, rfl, huo, hE6⟩
  have HVO := hide (Coll.rows2 huo (by have := HLO.out; omega))
  obtain ⟨qo, lo, rfl⟩ := (show Coll 38 3 icells 1 w6 w5.heap.size uo (vecs Mo N) from huo).sl
  have HT6 := hide (HT5.out.trans hE6)
  have HE6 := hide (HE5.out.trans hE6)
  clear hE6 huo k1 k2 ksz t0 t1 t2 t3 tz
  obtain ⟨⟨k1, k2⟩, -, -, -, ksz⟩ := kd.out _ HE6.out
  go_wp2_with fail
  refine (HVI.out _).mono ?_
  rintro r w7 ⟨ui, rfl, hui, hE7⟩
  have HVI := hide (Coll.rows2 hui (by have := HLI.out; omega))
  obtain ⟨qi, li, rfl⟩ := (show Coll 38 3 icells 1 w7 w6.heap.size ui (vecs Mi N) from hui).sl
  have HVO := hide (HVO.out.ext hE7)
  have HT7 := hide (HT6.out.trans hE7)
  have HE7 := hide (HE6.out.trans hE7)
  clear hE7 hui k1 k2 ksz
  obtain ⟨pi, ci, epi, -, hli, hati⟩ := HVI.out.sl_all
  injection epi with e1 _ e2
  subst e1 e2
  obtain ⟨po, co, epo, -, hlo, hato⟩ := HVO.out.sl_all
  injection epo with e1 _ e2
  subst e1 e2
  have HATI := hide hati
  have HATO := hide hato
  clear hati hato
  have hli := HLI.out
  have hlo := HLO.out
  have HMI := hide (fun i (hi : i < (vecs Mi N).length) => getD_mem_l hi)
  have HMO := hide (fun i (hi : i < (vecs Mo N).length) => getD_mem_l hi)
  have HFND := hide (fun x (hx : x ∈ vecs Mi N) => HM.out.find hx)
  have HPRM := hide (fun k hk y (hy : y ∈ vecs Mo N) => HM.out.perm (k := k) hk hy)
  have HA1 := hide (fun k hk => HM.out.allow1 (k := k) hk)
  have HA0 := hide (fun k hk => HM.out.allow0 (k := k) hk)
  have HSF := hide (fun P => selL_full P (vecs Mo N))
  have HSY := hide (fun P j => selL_yes (P := P) (L := vecs Mo N) (j := j))
  have HSN := hide (fun P j => selL_no (P := P) (L := vecs Mo N) (j := j))
  have HSL := hide (fun P => selL_len P (vecs Mo N))
  have HS0 : Hid (∀ P, selL P (vecs Mo N) 0 = []) := fun _ => rfl
  have HOUTF : Hid (∀ x P, (vecs Mo N).filter P = x → True) := fun _ _ _ => trivial
  generalize vecs Mi N = VI at *
  generalize vecs Mo N = VO at *
  go_wp2_with fail
  go_loopw [103] (fun x wr => ∃ i : Nat, i ≤ VI.length ∧ x = .int .i64 i ∧ Hid (Ext w7 wr)) (fun x _ => VI.length - (intOf x).toNat)
  case atStart => exact ⟨0, by omega, rfl, Ext.refl _⟩
  case round =>
    obtain ⟨i, hi, rfl, HE⟩ := hrel
    obtain ⟨wo, rfl⟩ : ∃ wo : World, wo = wr := ⟨_, rfl⟩
    by_cases hlt : i < VI.length
    · obtain ⟨bI, oI, rfl, hbI, hat⟩ := HATI.out (by omega)
      obtain ⟨qx, kx, hx, hrx, hlx⟩ := hat i hlt
      replace hx := hx _ HE.out
      have hbz := Nat.lt_of_lt_of_le hbI HE.out.size
      have hm := HMI.out i hlt
      have HXR := hide hrx
      clear hat hrx
      generalize VI.getD i [] = x at hx hlx hm HXR
      have HXM := hide hm
      have HF := hide (HFND.out x hm)
      have HFX := hide (fun W (hW : Ext w7 W) => HFI.out x _ W (HT7.out.trans hW) (HXR.out.ext hW))
      have HTX := hide (fun W (hW : Ext w7 W) => HTW.out N x _ W (HE0.out.trans (HE7.out.trans hW)) (HXR.out.ext hW) (HSC.out x [] hm (.inr rfl)))
      have HWD : Hid (holdIn N d.wh x = (absentE d.wh || truthB ⟨N, x, [], gz⟩ d.wh)) := rfl
      obtain ⟨-, ⟨k3, k4, k5⟩, -, -, ksz⟩ := kd.out _ (HE7.out.trans HE.out)
      go_upto_region 14 with fail
      clear hx hbz
      go_wp2_with fail
      refine (HBW.out _ (HE0.out.trans (HE7.out.trans HE.out))).mono ?_
      rintro r W1 ⟨rfl, hE1⟩
      have HE1 := hide (HE.out.trans hE1)
      clear hE1 k3 k4 k5 ksz
      generalize truthB ⟨N, x, [], gz⟩ d.wh = tw at HTX HWD
      cases hab : absentE d.wh with
      | true =>
        have HWH : Hid (holdIn N d.wh x = true) := by show _ = _; rw [HWD.out, hab]; rfl
        clear hab HWD HTX
        obtain ⟨kk, hkk, hg, hf⟩ := HF.out.1 HWH.out
        have HG := hide hg
        have HKK := hide hkk
        have HFX := hide (HFX.out W1 HE1.out)
        rw [hf] at HFX
        clear hg hkk hf HF
        obtain ⟨t0, t1, t2, t3, tz⟩ := tbx.out _ (HT7.out.trans HE1.out)
        go_wp2_with fail
        refine HFX.out.mono ?_
        rintro r W3 ⟨rfl, hE3'⟩
        have HE3' := hide (HE1.out.trans hE3')
        clear hE3' HFX
        clear t0 t1 t2 t3 tz
        go_wp2_with fail
        have HPX := hide (fun y (hy : y ∈ VO) => HPRM.out kk HKK.out y hy)
        rw [HG.out] at HPX
        have HX1 := hide (HA1.out kk HKK.out)
        have HX0 := hide (HA0.out kk HKK.out)
        rw [HG.out] at HX1 HX0
        have HAY : Hid (∀ j, j < VO.length → holdOut N x d.al (VO.getD j []) = true → (selL (holdOut N x d.al) VO (j + 1)).length = (selL (holdOut N x d.al) VO j).length + 1) := fun j hj hp => by rw [HSY.out _ j hj hp, List.length_append]; rfl
        have HAN : Hid (∀ j, j < VO.length → holdOut N x d.al (VO.getD j []) = false → (selL (holdOut N x d.al) VO (j + 1)).length = (selL (holdOut N x d.al) VO j).length) := fun j hj hp => by rw [HSN.out _ j hj hp]
        have HQY : Hid (∀ j, j < VO.length → quietB N d x (VO.getD j []) = true → (selL (quietB N d x) VO (j + 1)).length = (selL (quietB N d x) VO j).length + 1) := fun j hj hp => by rw [HSY.out _ j hj hp, List.length_append]; rfl
        have HQN : Hid (∀ j, j < VO.length → quietB N d x (VO.getD j []) = false → (selL (quietB N d x) VO (j + 1)).length = (selL (quietB N d x) VO j).length) := fun j hj hp => by rw [HSN.out _ j hj hp]
        have HAB : Hid (∀ j, (selL (holdOut N x d.al) VO j).length ≤ j) := fun j => HSL.out _ j
        have HQB : Hid (∀ j, (selL (quietB N d x) VO j).length ≤ j) := fun j => HSL.out _ j
        have HAF : Hid ((VO.filter (holdOut N x d.al)).length = (selL (holdOut N x d.al) VO VO.length).length) := by show _ = _; rw [HSF.out]
        have HQF : Hid ((VO.filter (quietB N d x)).length = (selL (quietB N d x) VO VO.length).length) := by show _ = _; rw [HSF.out]
        have HA00 : Hid ((selL (holdOut N x d.al) VO 0).length = 0) := rfl
        have HQ00 : Hid ((selL (quietB N d x) VO 0).length = 0) := rfl
        generalize hLA : (fun j => (selL (holdOut N x d.al) VO j).length) = LA
        have hLA' : ∀ j, (selL (holdOut N x d.al) VO j).length = LA j := fun j => by rw [← hLA]
        generalize hLQ : (fun j => (selL (quietB N d x) VO j).length) = LQ
        have hLQ' : ∀ j, (selL (quietB N d x) VO j).length = LQ j := fun j => by rw [← hLQ]
        simp only [hLA', hLQ'] at HAY HAN HQY HQN HAB HQB HAF HQF HA00 HQ00
        clear hLA hLA' hLQ hLQ'
        go_loopw [132, 13, 14] (fun a b c wr => ∃ j : Nat, j ≤ VO.length ∧ a = .int .i64 j ∧ b = .int .i64 (LA j) ∧ c = .int .i64 (LQ j) ∧ Hid (Ext w7 wr)) (fun a _ _ _ => VO.length - (intOf a).toNat)
        case atStart => exact ⟨0, by omega, rfl, by rw [HA00.out]; rfl, by rw [HQ00.out]; rfl, HE3'.out⟩
        case round =>
          obtain ⟨j, hj, rfl, rfl, rfl, HEj⟩ := hrel
          have hlaj := HAB.out j
          have hlqj := HQB.out j
          by_cases hltj : j < VO.length
          · obtain ⟨bO, oO, rfl, hbO, hatO⟩ := HATO.out (by omega)
            obtain ⟨qy, ky, hyc, hry, hly⟩ := hatO j hltj
            replace hyc := hyc _ HEj.out
            have hbz := Nat.lt_of_lt_of_le hbO HEj.out.size
            have hmy := HMO.out j hltj
            have HYR := hide hry
            have HYD0 : Hid (VO.getD j [] = VO.getD j []) := rfl
            clear hatO hry
            generalize hyd : VO.getD j [] = y at hyc hly hmy HYR
            have HYD := hide hyd
            clear hyd HYD0
            have HPI := hide (fun W (hW : Ext w7 W) => HPE.out (kk : Int) y _ W (HT7.out.trans hW) (HYR.out.ext hW))
            rw [HPX.out y hmy] at HPI
            have HSCY := hide (HSC.out x y HXM.out (.inl hmy))
            have HTAY := hide (fun W (hW : Ext w7 W) => HTA.out N x y _ _ W (HE0.out.trans (HE7.out.trans hW)) (HXR.out.ext hW) (HYR.out.ext hW) HSCY.out)
            have HTCY := hide (fun W (hW : Ext w7 W) => HTC.out N x y _ _ W (HE0.out.trans (HE7.out.trans hW)) (HXR.out.ext hW) (HYR.out.ext hW) HSCY.out)
            have HYA0 : Hid (holdOut N x d.al y = (absentE d.al || truthB ⟨N, x, y, gz⟩ d.al)) := rfl
            have HYC0 : Hid (quietB N d x y = (holdOut N x d.al y && (absentE d.ca || (absentE d.ca || truthB ⟨N, x, y, gz⟩ d.ca)))) := rfl
            rw [HAL0.out] at HYA0
            clear hmy HSCY
            generalize truthB ⟨N, x, y, gz⟩ d.al = ta at HTAY HYA0
            generalize truthB ⟨N, x, y, gz⟩ d.ca = tc at HTCY HYC0
            go_upto_region 24 with fail
            obtain ⟨w8, hw8⟩ : ∃ w8, wr.alloc (.cells #[.int .i64 N, .slice qx x.length kx, .slice qy y.length ky, .int .i64 0, .int .i64 0, .int .i64 0, .int .i64 0, .int .i64 0, .slice none 0 0] 80) = w8 := ⟨_, rfl⟩
            have HB8 : Hid (w8.heap[wr.heap.size]? = some (.cells #[.int .i64 N, .slice qx x.length kx, .slice qy y.length ky, .int .i64 0, .int .i64 0, .int .i64 0, .int .i64 0, .int .i64 0, .slice none 0 0] 80 (0, 0))) := by show _ = _; rw [← hw8]; exact heap_alloc_new wr _
            have HE8 : Hid (Ext w7 w8) := by show Ext _ _; rw [← hw8]; exact HEj.out.alloc _
            rw [hw8]
            clear hw8 hyc hbz
            generalize wr.heap.size = g8 at HB8 ⊢
            have sbx : Hid (∀ V, Ext w8 V → V.cell? ⟨g8, 0, none⟩ = some (.int .i64 N) ∧ V.cell? ⟨g8, 1, none⟩ = some (.slice qx x.length kx) ∧ V.cell? ⟨g8, 2, none⟩ = some (.slice qy y.length ky) ∧ V.cell? ⟨g8, 3, none⟩ = some (.int .i64 0) ∧ V.cell? ⟨g8, 4, none⟩ = some (.int .i64 0) ∧ V.cell? ⟨g8, 5, none⟩ = some (.int .i64 0) ∧ V.cell? ⟨g8, 6, none⟩ = some (.int .i64 0) ∧ V.cell? ⟨g8, 7, none⟩ = some (.int .i64 0) ∧ V.cell? ⟨g8, 8, none⟩ = some (.slice none 0 0) ∧ g8 < V.heap.size) := fun V hV => by
              have hb := (hV.b.block _ (lt_of_heap HB8.out)).trans HB8.out
              exact ⟨decl_cells hb 0, decl_cells hb 1, decl_cells hb 2, decl_cells hb 3, decl_cells hb 4, decl_cells hb 5, decl_cells hb 6, decl_cells hb 7, decl_cells hb 8, lt_of_heap hb⟩
            obtain ⟨-, -, ⟨k6, k7, k8⟩, -, ksz⟩ := kd.out _ (HE7.out.trans HE8.out)
            obtain ⟨s0, s1, s2, s3, s4, s5, s6, s7, s8, sz⟩ := sbx.out _ (Ext.refl _)
            go_wp2_with fail
            refine (HTAY.out w8 HE8.out).mono ?_
            rintro r W5 ⟨rfl, hE5'⟩
            have HS5 := hide hE5'
            have HE6 := hide (HE8.out.trans hE5')
            clear hE5' k6 k7 k8 ksz s0 s1 s2 s3 s4 s5 s6 s7 s8 sz HTAY
            obtain ⟨W6, rfl⟩ : ∃ W6 : World, W6 = W5 := ⟨_, rfl⟩
            cases ta with
            | false =>
              have HYA : Hid (holdOut N x d.al y = false) := HYA0.out
              have HQ : Hid (quietB N d x y = false) := by show _ = _; rw [HYC0.out, HYA.out]; rfl
              have HLA : Hid (LA (j + 1) = LA j) := HAN.out j hltj (by rw [HYD.out]; exact HYA.out)
              have HLQ : Hid (LQ (j + 1) = LQ j) := HQN.out j hltj (by rw [HYD.out]; exact HQ.out)
              rw [HQ.out] at HPI
              obtain ⟨t0, t1, t2, t3, tz⟩ := tbx.out _ (HT7.out.trans HE6.out)
              go_wp2_with fail
              refine (HPI.out W6 HE6.out).mono ?_
              rintro r W7 ⟨rfl, hE7'⟩
              have HE7' := hide (HE6.out.trans hE7')
              clear hE7' HPI
              clear t0 t1 t2 t3 tz
              go_wp2_with fail
              go_roundw
              case rel => exact ⟨j + 1, by omega, by go_num, by rw [HLA.out]; try go_num, by rw [HLQ.out]; try go_num, HE7'.out⟩
              case measure => simp [intOf]; omega
            | true =>
              have HYA : Hid (holdOut N x d.al y = true) := HYA0.out
              obtain ⟨-, -, -, ⟨k9, k10, k11⟩, ksz⟩ := kd.out _ (HE7.out.trans HE6.out)
              go_wp2_with fail
              refine (HBC.out W6 (HE0.out.trans (HE7.out.trans HE6.out))).mono ?_
              rintro r W8 ⟨rfl, hE8'⟩
              have HS6 := hide (HS5.out.trans hE8')
              have HE6 := hide (HE6.out.trans hE8')
              obtain ⟨W6o, rfl⟩ : ∃ W6o : World, W6o = W6 := ⟨_, rfl⟩
              obtain ⟨W6, rfl⟩ : ∃ W6 : World, W6 = W8 := ⟨_, rfl⟩
              clear hE8' k9 k10 k11 ksz HS5
              cases hab : absentE d.ca with
              | true =>
                have HQ : Hid (quietB N d x y = true) := by show _ = _; rw [HYC0.out, HYA.out, hab]; rfl
                clear hab
                have HLA : Hid (LA (j + 1) = LA j + 1) := HAY.out j hltj (by rw [HYD.out]; exact HYA.out)
                have HLQ : Hid (LQ (j + 1) = LQ j + 1) := HQY.out j hltj (by rw [HYD.out]; exact HQ.out)
                rw [HQ.out] at HPI
                obtain ⟨t0, t1, t2, t3, tz⟩ := tbx.out _ (HT7.out.trans HE6.out)
                go_wp2_with fail
                refine (HPI.out W6 HE6.out).mono ?_
                rintro r W7 ⟨rfl, hE7'⟩
                have HE7' := hide (HE6.out.trans hE7')
                clear hE7' HPI
                clear t0 t1 t2 t3 tz
                go_wp2_with fail
                go_roundw
                case rel => exact ⟨j + 1, by omega, by go_num, by rw [HLA.out]; try go_num, by rw [HLQ.out]; try go_num, HE7'.out⟩
                case measure => simp [intOf]; omega
              | false =>
                rw [hab] at HYC0
                clear hab
                obtain ⟨-, -, -, ⟨k9, k10, k11⟩, ksz⟩ := kd.out _ (HE7.out.trans HE6.out)
                obtain ⟨s0, s1, s2, s3, s4, s5, s6, s7, s8, sz⟩ := sbx.out _ HS6.out
                go_wp2_with fail
                refine (HTCY.out W6 HE6.out).mono ?_
                rintro r W9 ⟨rfl, hE9'⟩
                have HE6 := hide (HE6.out.trans hE9')
                obtain ⟨W6p, rfl⟩ : ∃ W6p : World, W6p = W6 := ⟨_, rfl⟩
                obtain ⟨W6, rfl⟩ : ∃ W6 : World, W6 = W9 := ⟨_, rfl⟩
                clear hE9' k9 k10 k11 ksz s0 s1 s2 s3 s4 s5 s6 s7 s8 sz HTCY
                cases tc with
                | true =>
                  have HQ : Hid (quietB N d x y = true) := by show _ = _; rw [HYC0.out, HYA.out]; rfl
                  have HLA : Hid (LA (j + 1) = LA j + 1) := HAY.out j hltj (by rw [HYD.out]; exact HYA.out)
                  have HLQ : Hid (LQ (j + 1) = LQ j + 1) := HQY.out j hltj (by rw [HYD.out]; exact HQ.out)
                  rw [HQ.out] at HPI
                  obtain ⟨t0, t1, t2, t3, tz⟩ := tbx.out _ (HT7.out.trans HE6.out)
                  go_wp2_with fail
                  refine (HPI.out W6 HE6.out).mono ?_
                  rintro r W7 ⟨rfl, hE7'⟩
                  have HE7' := hide (HE6.out.trans hE7')
                  clear hE7' HPI
                  clear t0 t1 t2 t3 tz
                  go_wp2_with fail
                  go_roundw
                  case rel => exact ⟨j + 1, by omega, by go_num, by rw [HLA.out]; try go_num, by rw [HLQ.out]; try go_num, HE7'.out⟩
                  case measure => simp [intOf]; omega
                | false =>
                  have HQ : Hid (quietB N d x y = false) := by show _ = _; rw [HYC0.out, HYA.out]; rfl
                  have HLA : Hid (LA (j + 1) = LA j + 1) := HAY.out j hltj (by rw [HYD.out]; exact HYA.out)
                  have HLQ : Hid (LQ (j + 1) = LQ j) := HQN.out j hltj (by rw [HYD.out]; exact HQ.out)
                  rw [HQ.out] at HPI
                  obtain ⟨t0, t1, t2, t3, tz⟩ := tbx.out _ (HT7.out.trans HE6.out)
                  go_wp2_with fail
                  refine (HPI.out W6 HE6.out).mono ?_
                  rintro r W7 ⟨rfl, hE7'⟩
                  have HE7' := hide (HE6.out.trans hE7')
                  clear hE7' HPI
                  clear t0 t1 t2 t3 tz
                  go_wp2_with fail
                  go_roundw
                  case rel => exact ⟨j + 1, by omega, by go_num, by rw [HLA.out]; try go_num, by rw [HLQ.out]; try go_num, HE7'.out⟩
                  case measure => simp [intOf]; omega
          · obtain rfl : j = VO.length := by omega
            have HAI := hide (HAL.out (kk : Int) 1)
            have HAJ := hide (HAL.out (kk : Int) 0)
            rw [HX1.out] at HAI
            rw [HX0.out] at HAJ
            generalize VO.filter (holdOut N x d.al) = FA at HAI HAF
            generalize VO.filter (quietB N d x) = FQ at HAJ HQF
            obtain ⟨t0, t1, t2, t3, tz⟩ := tbx.out _ (HT7.out.trans HEj.out)
            go_wp2_with fail
            refine (HAI.out wr (HT7.out.trans HEj.out)).mono ?_
            rintro r W5 ⟨u5, rfl, hu5, hE5'⟩
            obtain ⟨q5, l5, rfl⟩ := (show Coll 38 3 icells 1 W5 wr.heap.size u5 FA from hu5).sl
            have HE5' := hide (HEj.out.trans hE5')
            clear hE5' hu5
            clear t0 t1 t2 t3 tz
            obtain ⟨t0, t1, t2, t3, tz⟩ := tbx.out _ (HT7.out.trans HE5'.out)
            go_wp2_with fail
            refine (HAJ.out W5 (HT7.out.trans HE5'.out)).mono ?_
            rintro r W6 ⟨u6, rfl, hu6, hE6'⟩
            obtain ⟨q6, l6, rfl⟩ := (show Coll 38 3 icells 1 W6 W5.heap.size u6 FQ from hu6).sl
            have HE6' := hide (HE5'.out.trans hE6')
            clear hE6' hu6
            clear t0 t1 t2 t3 tz
            have hA := HAF.out
            have hQ := HQF.out
            rw [hA, hQ]
            have hd1 : ((LA VO.length : Int) != (LA VO.length : Int)) = false := by simp
            have hd2 : ((LQ VO.length : Int) != (LQ VO.length : Int)) = false := by simp
            clear hA hQ
            go_wp2_with fail
            go_roundw
            case rel => exact ⟨i + 1, by omega, by go_num, HE6'.out⟩
            case measure => simp [intOf]; omega
      | false =>
        rw [hab] at HWD
        clear hab
        obtain ⟨-, ⟨k3, k4, k5⟩, -, -, ksz⟩ := kd.out _ (HE7.out.trans HE1.out)
        go_wp2_with fail
        refine (HTX.out _ HE1.out).mono ?_
        rintro r W2 ⟨rfl, hE2⟩
        have HE2 := hide (HE1.out.trans hE2)
        clear hE2 k3 k4 k5 ksz HTX
        cases tw with
        | true =>
          have HWH : Hid (holdIn N d.wh x = true) := HWD.out
          obtain ⟨kk, hkk, hg, hf⟩ := HF.out.1 HWH.out
          have HG := hide hg
          have HKK := hide hkk
          have HFX := hide (HFX.out W2 HE2.out)
          rw [hf] at HFX
          clear hg hkk hf HF
          obtain ⟨t0, t1, t2, t3, tz⟩ := tbx.out _ (HT7.out.trans HE2.out)
          go_wp2_with fail
          refine HFX.out.mono ?_
          rintro r W3 ⟨rfl, hE3'⟩
          have HE3' := hide (HE2.out.trans hE3')
          clear hE3' HFX
          clear t0 t1 t2 t3 tz
          go_wp2_with fail
          have HPX := hide (fun y (hy : y ∈ VO) => HPRM.out kk HKK.out y hy)
          rw [HG.out] at HPX
          have HX1 := hide (HA1.out kk HKK.out)
          have HX0 := hide (HA0.out kk HKK.out)
          rw [HG.out] at HX1 HX0
          have HAY : Hid (∀ j, j < VO.length → holdOut N x d.al (VO.getD j []) = true → (selL (holdOut N x d.al) VO (j + 1)).length = (selL (holdOut N x d.al) VO j).length + 1) := fun j hj hp => by rw [HSY.out _ j hj hp, List.length_append]; rfl
          have HAN : Hid (∀ j, j < VO.length → holdOut N x d.al (VO.getD j []) = false → (selL (holdOut N x d.al) VO (j + 1)).length = (selL (holdOut N x d.al) VO j).length) := fun j hj hp => by rw [HSN.out _ j hj hp]
          have HQY : Hid (∀ j, j < VO.length → quietB N d x (VO.getD j []) = true → (selL (quietB N d x) VO (j + 1)).length = (selL (quietB N d x) VO j).length + 1) := fun j hj hp => by rw [HSY.out _ j hj hp, List.length_append]; rfl
          have HQN : Hid (∀ j, j < VO.length → quietB N d x (VO.getD j []) = false → (selL (quietB N d x) VO (j + 1)).length = (selL (quietB N d x) VO j).length) := fun j hj hp => by rw [HSN.out _ j hj hp]
          have HAB : Hid (∀ j, (selL (holdOut N x d.al) VO j).length ≤ j) := fun j => HSL.out _ j
          have HQB : Hid (∀ j, (selL (quietB N d x) VO j).length ≤ j) := fun j => HSL.out _ j
          have HAF : Hid ((VO.filter (holdOut N x d.al)).length = (selL (holdOut N x d.al) VO VO.length).length) := by show _ = _; rw [HSF.out]
          have HQF : Hid ((VO.filter (quietB N d x)).length = (selL (quietB N d x) VO VO.length).length) := by show _ = _; rw [HSF.out]
          have HA00 : Hid ((selL (holdOut N x d.al) VO 0).length = 0) := rfl
          have HQ00 : Hid ((selL (quietB N d x) VO 0).length = 0) := rfl
          generalize hLA : (fun j => (selL (holdOut N x d.al) VO j).length) = LA
          have hLA' : ∀ j, (selL (holdOut N x d.al) VO j).length = LA j := fun j => by rw [← hLA]
          generalize hLQ : (fun j => (selL (quietB N d x) VO j).length) = LQ
          have hLQ' : ∀ j, (selL (quietB N d x) VO j).length = LQ j := fun j => by rw [← hLQ]
          simp only [hLA', hLQ'] at HAY HAN HQY HQN HAB HQB HAF HQF HA00 HQ00
          clear hLA hLA' hLQ hLQ'
          go_loopw [132, 13, 14] (fun a b c wr => ∃ j : Nat, j ≤ VO.length ∧ a = .int .i64 j ∧ b = .int .i64 (LA j) ∧ c = .int .i64 (LQ j) ∧ Hid (Ext w7 wr)) (fun a _ _ _ => VO.length - (intOf a).toNat)
          case atStart => exact ⟨0, by omega, rfl, by rw [HA00.out]; rfl, by rw [HQ00.out]; rfl, HE3'.out⟩
          case round =>
            obtain ⟨j, hj, rfl, rfl, rfl, HEj⟩ := hrel
            have hlaj := HAB.out j
            have hlqj := HQB.out j
            by_cases hltj : j < VO.length
            · obtain ⟨bO, oO, rfl, hbO, hatO⟩ := HATO.out (by omega)
              obtain ⟨qy, ky, hyc, hry, hly⟩ := hatO j hltj
              replace hyc := hyc _ HEj.out
              have hbz := Nat.lt_of_lt_of_le hbO HEj.out.size
              have hmy := HMO.out j hltj
              have HYR := hide hry
              have HYD0 : Hid (VO.getD j [] = VO.getD j []) := rfl
              clear hatO hry
              generalize hyd : VO.getD j [] = y at hyc hly hmy HYR
              have HYD := hide hyd
              clear hyd HYD0
              have HPI := hide (fun W (hW : Ext w7 W) => HPE.out (kk : Int) y _ W (HT7.out.trans hW) (HYR.out.ext hW))
              rw [HPX.out y hmy] at HPI
              have HSCY := hide (HSC.out x y HXM.out (.inl hmy))
              have HTAY := hide (fun W (hW : Ext w7 W) => HTA.out N x y _ _ W (HE0.out.trans (HE7.out.trans hW)) (HXR.out.ext hW) (HYR.out.ext hW) HSCY.out)
              have HTCY := hide (fun W (hW : Ext w7 W) => HTC.out N x y _ _ W (HE0.out.trans (HE7.out.trans hW)) (HXR.out.ext hW) (HYR.out.ext hW) HSCY.out)
              have HYA0 : Hid (holdOut N x d.al y = (absentE d.al || truthB ⟨N, x, y, gz⟩ d.al)) := rfl
              have HYC0 : Hid (quietB N d x y = (holdOut N x d.al y && (absentE d.ca || (absentE d.ca || truthB ⟨N, x, y, gz⟩ d.ca)))) := rfl
              rw [HAL0.out] at HYA0
              clear hmy HSCY
              generalize truthB ⟨N, x, y, gz⟩ d.al = ta at HTAY HYA0
              generalize truthB ⟨N, x, y, gz⟩ d.ca = tc at HTCY HYC0
              go_upto_region 24 with fail
              obtain ⟨w8, hw8⟩ : ∃ w8, wr.alloc (.cells #[.int .i64 N, .slice qx x.length kx, .slice qy y.length ky, .int .i64 0, .int .i64 0, .int .i64 0, .int .i64 0, .int .i64 0, .slice none 0 0] 80) = w8 := ⟨_, rfl⟩
              have HB8 : Hid (w8.heap[wr.heap.size]? = some (.cells #[.int .i64 N, .slice qx x.length kx, .slice qy y.length ky, .int .i64 0, .int .i64 0, .int .i64 0, .int .i64 0, .int .i64 0, .slice none 0 0] 80 (0, 0))) := by show _ = _; rw [← hw8]; exact heap_alloc_new wr _
              have HE8 : Hid (Ext w7 w8) := by show Ext _ _; rw [← hw8]; exact HEj.out.alloc _
              rw [hw8]
              clear hw8 hyc hbz
              generalize wr.heap.size = g8 at HB8 ⊢
              have sbx : Hid (∀ V, Ext w8 V → V.cell? ⟨g8, 0, none⟩ = some (.int .i64 N) ∧ V.cell? ⟨g8, 1, none⟩ = some (.slice qx x.length kx) ∧ V.cell? ⟨g8, 2, none⟩ = some (.slice qy y.length ky) ∧ V.cell? ⟨g8, 3, none⟩ = some (.int .i64 0) ∧ V.cell? ⟨g8, 4, none⟩ = some (.int .i64 0) ∧ V.cell? ⟨g8, 5, none⟩ = some (.int .i64 0) ∧ V.cell? ⟨g8, 6, none⟩ = some (.int .i64 0) ∧ V.cell? ⟨g8, 7, none⟩ = some (.int .i64 0) ∧ V.cell? ⟨g8, 8, none⟩ = some (.slice none 0 0) ∧ g8 < V.heap.size) := fun V hV => by
                have hb := (hV.b.block _ (lt_of_heap HB8.out)).trans HB8.out
                exact ⟨decl_cells hb 0, decl_cells hb 1, decl_cells hb 2, decl_cells hb 3, decl_cells hb 4, decl_cells hb 5, decl_cells hb 6, decl_cells hb 7, decl_cells hb 8, lt_of_heap hb⟩
              obtain ⟨-, -, ⟨k6, k7, k8⟩, -, ksz⟩ := kd.out _ (HE7.out.trans HE8.out)
              obtain ⟨s0, s1, s2, s3, s4, s5, s6, s7, s8, sz⟩ := sbx.out _ (Ext.refl _)
              go_wp2_with fail
              refine (HTAY.out w8 HE8.out).mono ?_
              rintro r W5 ⟨rfl, hE5'⟩
              have HS5 := hide hE5'
              have HE6 := hide (HE8.out.trans hE5')
              clear hE5' k6 k7 k8 ksz s0 s1 s2 s3 s4 s5 s6 s7 s8 sz HTAY
              obtain ⟨W6, rfl⟩ : ∃ W6 : World, W6 = W5 := ⟨_, rfl⟩
              cases ta with
              | false =>
                have HYA : Hid (holdOut N x d.al y = false) := HYA0.out
                have HQ : Hid (quietB N d x y = false) := by show _ = _; rw [HYC0.out, HYA.out]; rfl
                have HLA : Hid (LA (j + 1) = LA j) := HAN.out j hltj (by rw [HYD.out]; exact HYA.out)
                have HLQ : Hid (LQ (j + 1) = LQ j) := HQN.out j hltj (by rw [HYD.out]; exact HQ.out)
                rw [HQ.out] at HPI
                obtain ⟨t0, t1, t2, t3, tz⟩ := tbx.out _ (HT7.out.trans HE6.out)
                go_wp2_with fail
                refine (HPI.out W6 HE6.out).mono ?_
                rintro r W7 ⟨rfl, hE7'⟩
                have HE7' := hide (HE6.out.trans hE7')
                clear hE7' HPI
                clear t0 t1 t2 t3 tz
                go_wp2_with fail
                go_roundw
                case rel => exact ⟨j + 1, by omega, by go_num, by rw [HLA.out]; try go_num, by rw [HLQ.out]; try go_num, HE7'.out⟩
                case measure => simp [intOf]; omega
              | true =>
                have HYA : Hid (holdOut N x d.al y = true) := HYA0.out
                obtain ⟨-, -, -, ⟨k9, k10, k11⟩, ksz⟩ := kd.out _ (HE7.out.trans HE6.out)
                go_wp2_with fail
                refine (HBC.out W6 (HE0.out.trans (HE7.out.trans HE6.out))).mono ?_
                rintro r W8 ⟨rfl, hE8'⟩
                have HS6 := hide (HS5.out.trans hE8')
                have HE6 := hide (HE6.out.trans hE8')
                obtain ⟨W6o, rfl⟩ : ∃ W6o : World, W6o = W6 := ⟨_, rfl⟩
                obtain ⟨W6, rfl⟩ : ∃ W6 : World, W6 = W8 := ⟨_, rfl⟩
                clear hE8' k9 k10 k11 ksz HS5
                cases hab : absentE d.ca with
                | true =>
                  have HQ : Hid (quietB N d x y = true) := by show _ = _; rw [HYC0.out, HYA.out, hab]; rfl
                  clear hab
                  have HLA : Hid (LA (j + 1) = LA j + 1) := HAY.out j hltj (by rw [HYD.out]; exact HYA.out)
                  have HLQ : Hid (LQ (j + 1) = LQ j + 1) := HQY.out j hltj (by rw [HYD.out]; exact HQ.out)
                  rw [HQ.out] at HPI
                  obtain ⟨t0, t1, t2, t3, tz⟩ := tbx.out _ (HT7.out.trans HE6.out)
                  go_wp2_with fail
                  refine (HPI.out W6 HE6.out).mono ?_
                  rintro r W7 ⟨rfl, hE7'⟩
                  have HE7' := hide (HE6.out.trans hE7')
                  clear hE7' HPI
                  clear t0 t1 t2 t3 tz
                  go_wp2_with fail
                  go_roundw
                  case rel => exact ⟨j + 1, by omega, by go_num, by rw [HLA.out]; try go_num, by rw [HLQ.out]; try go_num, HE7'.out⟩
                  case measure => simp [intOf]; omega
                | false =>
                  rw [hab] at HYC0
                  clear hab
                  obtain ⟨-, -, -, ⟨k9, k10, k11⟩, ksz⟩ := kd.out _ (HE7.out.trans HE6.out)
                  obtain ⟨s0, s1, s2, s3, s4, s5, s6, s7, s8, sz⟩ := sbx.out _ HS6.out
                  go_wp2_with fail
                  refine (HTCY.out W6 HE6.out).mono ?_
                  rintro r W9 ⟨rfl, hE9'⟩
                  have HE6 := hide (HE6.out.trans hE9')
                  obtain ⟨W6p, rfl⟩ : ∃ W6p : World, W6p = W6 := ⟨_, rfl⟩
                  obtain ⟨W6, rfl⟩ : ∃ W6 : World, W6 = W9 := ⟨_, rfl⟩
                  clear hE9' k9 k10 k11 ksz s0 s1 s2 s3 s4 s5 s6 s7 s8 sz HTCY
                  cases tc with
                  | true =>
                    have HQ : Hid (quietB N d x y = true) := by show _ = _; rw [HYC0.out, HYA.out]; rfl
                    have HLA : Hid (LA (j + 1) = LA j + 1) := HAY.out j hltj (by rw [HYD.out]; exact HYA.out)
                    have HLQ : Hid (LQ (j + 1) = LQ j + 1) := HQY.out j hltj (by rw [HYD.out]; exact HQ.out)
                    rw [HQ.out] at HPI
                    obtain ⟨t0, t1, t2, t3, tz⟩ := tbx.out _ (HT7.out.trans HE6.out)
                    go_wp2_with fail
                    refine (HPI.out W6 HE6.out).mono ?_
                    rintro r W7 ⟨rfl, hE7'⟩
                    have HE7' := hide (HE6.out.trans hE7')
                    clear hE7' HPI
                    clear t0 t1 t2 t3 tz
                    go_wp2_with fail
                    go_roundw
                    case rel => exact ⟨j + 1, by omega, by go_num, by rw [HLA.out]; try go_num, by rw [HLQ.out]; try go_num, HE7'.out⟩
                    case measure => simp [intOf]; omega
                  | false =>
                    have HQ : Hid (quietB N d x y = false) := by show _ = _; rw [HYC0.out, HYA.out]; rfl
                    have HLA : Hid (LA (j + 1) = LA j + 1) := HAY.out j hltj (by rw [HYD.out]; exact HYA.out)
                    have HLQ : Hid (LQ (j + 1) = LQ j) := HQN.out j hltj (by rw [HYD.out]; exact HQ.out)
                    rw [HQ.out] at HPI
                    obtain ⟨t0, t1, t2, t3, tz⟩ := tbx.out _ (HT7.out.trans HE6.out)
                    go_wp2_with fail
                    refine (HPI.out W6 HE6.out).mono ?_
                    rintro r W7 ⟨rfl, hE7'⟩
                    have HE7' := hide (HE6.out.trans hE7')
                    clear hE7' HPI
                    clear t0 t1 t2 t3 tz
                    go_wp2_with fail
                    go_roundw
                    case rel => exact ⟨j + 1, by omega, by go_num, by rw [HLA.out]; try go_num, by rw [HLQ.out]; try go_num, HE7'.out⟩
                    case measure => simp [intOf]; omega
            · obtain rfl : j = VO.length := by omega
              have HAI := hide (HAL.out (kk : Int) 1)
              have HAJ := hide (HAL.out (kk : Int) 0)
              rw [HX1.out] at HAI
              rw [HX0.out] at HAJ
              generalize VO.filter (holdOut N x d.al) = FA at HAI HAF
              generalize VO.filter (quietB N d x) = FQ at HAJ HQF
              obtain ⟨t0, t1, t2, t3, tz⟩ := tbx.out _ (HT7.out.trans HEj.out)
              go_wp2_with fail
              refine (HAI.out wr (HT7.out.trans HEj.out)).mono ?_
              rintro r W5 ⟨u5, rfl, hu5, hE5'⟩
              obtain ⟨q5, l5, rfl⟩ := (show Coll 38 3 icells 1 W5 wr.heap.size u5 FA from hu5).sl
              have HE5' := hide (HEj.out.trans hE5')
              clear hE5' hu5
              clear t0 t1 t2 t3 tz
              obtain ⟨t0, t1, t2, t3, tz⟩ := tbx.out _ (HT7.out.trans HE5'.out)
              go_wp2_with fail
              refine (HAJ.out W5 (HT7.out.trans HE5'.out)).mono ?_
              rintro r W6 ⟨u6, rfl, hu6, hE6'⟩
              obtain ⟨q6, l6, rfl⟩ := (show Coll 38 3 icells 1 W6 W5.heap.size u6 FQ from hu6).sl
              have HE6' := hide (HE5'.out.trans hE6')
              clear hE6' hu6
              clear t0 t1 t2 t3 tz
              have hA := HAF.out
              have hQ := HQF.out
              rw [hA, hQ]
              have hd1 : ((LA VO.length : Int) != (LA VO.length : Int)) = false := by simp
              have hd2 : ((LQ VO.length : Int) != (LQ VO.length : Int)) = false := by simp
              clear hA hQ
              go_wp2_with fail
              go_roundw
              case rel => exact ⟨i + 1, by omega, by go_num, HE6'.out⟩
              case measure => simp [intOf]; omega
        | false =>
          have HWH : Hid (holdIn N d.wh x = false) := HWD.out
          have HFX := hide (HFX.out W2 HE2.out)
          rw [HF.out.2 HWH.out] at HFX
          obtain ⟨t0, t1, t2, t3, tz⟩ := tbx.out _ (HT7.out.trans HE2.out)
          go_wp2_with fail
          refine HFX.out.mono ?_
          rintro r W3 ⟨rfl, hE3'⟩
          have HE3' := hide (HE2.out.trans hE3')
          clear hE3' HFX
          clear t0 t1 t2 t3 tz
          go_wp2_with fail
          go_roundw
          case rel => exact ⟨i + 1, by omega, by go_num, HE3'.out⟩
          case measure => simp [intOf]; omega
    · obtain rfl : i = VI.length := by omega
      go_wp2_with fail
      refine (HAW.out wo (HE0.out.trans (HE7.out.trans HE.out))).mono ?_
      rintro r w99 ⟨rfl, hE99⟩
      go_wp2_with fail
      go_ret
      exact ⟨rfl, (HE0.out.trans (HE7.out.trans HE.out)).trans hE99⟩
end Go.Proofs.YthpccmmdkbjjhaaDoor
