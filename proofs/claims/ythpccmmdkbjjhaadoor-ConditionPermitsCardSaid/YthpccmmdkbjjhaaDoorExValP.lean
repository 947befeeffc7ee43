/-
  The program's evaluation of expressions (expr.evaluator$4).
  Conditions: as each theorem states.
-/
import Derived.Test.YthpccmmdkbjjhaaDoorExCntP
namespace Go.Proofs.YthpccmmdkbjjhaaDoor
open Go.RowKit

theorem and01 {a b : Int} (ha : 0 ≤ a ∧ a ≤ 1) (hb : 0 ≤ b ∧ b ≤ 1) : bits .and .i64 a b = a * b ∧ bits .or .i64 a b = flag (decide (0 < a + b)) := by
  rcases (show a = 0 ∨ a = 1 by omega) with rfl | rfl <;> rcases (show b = 0 ∨ b = 1 by omega) with rfl | rfl <;> exact ⟨by kernel_rfl, by kernel_rfl⟩
set_option maxRecDepth 8000 in
set_option maxHeartbeats 1000000 in
theorem pvalue_any (s : Sc) (hs : s.ok) (g : Nat) : ∀ (e : Ex) (vars : List Int) (v u : Value) (w : World), EvEnv w g s → ExAt w v e → Row icells 1 w u vars → (∀ x ∈ vars, 0 ≤ x ∧ x ≤ 1048576) → vars.length + e.nodes ≤ 500 → nodesE e vars.length = 0 →
    Calls Tryd.prog 129 #[v, u, P0 (g + 4), P0 g, P0 (g + 3), P0 (g + 2), P0 (g + 1)] w fun e' w' => e' = .returned (.int .i64 (valE s e vars)) ∧ Ext w w' := by
  refine Ex.ind (P := fun e => ∀ (vars : List Int) (v u : Value) (w : World), EvEnv w g s → ExAt w v e → Row icells 1 w u vars → (∀ x ∈ vars, 0 ≤ x ∧ x ≤ 1048576) → vars.length + e.nodes ≤ 500 → nodesE e vars.length = 0 →
    Calls Tryd.prog 129 #[v, u, P0 (g + 4), P0 g, P0 (g + 3), P0 (g + 2), P0 (g + 1)] w fun e' w' => e' = .returned (.int .i64 (valE s e vars)) ∧ Ext w w') ?_
  intro op num xs ih vars v u w hg hv hu hvs hvl hnz
  obtain ⟨h0, h15, hl, hvar, hcon, hx⟩ := nodesE_zero hnz
  have HV := hide hv
  have HU := hide hu
  obtain ⟨p, c, rfl, hc, hlx, hat⟩ := hv.all_
  simp only [Ex.op, Ex.num, Ex.args] at HV hc hlx hat ⊢
  have HAT := hide hat
  clear hat hv
  obtain ⟨nx, hnx⟩ : ∃ nx, xs.length = nx := ⟨_, rfl⟩
  rw [hnx] at HV ⊢
  rw [hnx] at hc hlx
  obtain ⟨qv, cv, rfl, hcv, hlv, hatv⟩ := hu.int_all
  have HATV := hide hatv
  clear hu hatv
  have HOK := hide hs
  have HBD := hide (fun e vars hv h => val_bd s hs e vars hv h)
  obtain ⟨s1, s2, -, -, s5⟩ := hs
  have HS5 := hide s5
  clear s5
  obtain ⟨w2, hw2⟩ : ∃ w2, w.alloc (.cells #[.int .i64 op, .int .i64 num, .slice p nx c] 26) = w2 := ⟨_, rfl⟩
  have hE0 : Ext w w2 := by rw [← hw2]; exact (Ext.refl w).alloc _
  have HB := hide (fun w1 (hE : Ext w2 w1) => xbox w op num (.slice p nx c) (w1 := w1) (by rw [hw2]; exact hE))
  have HEV := hide (fun V (hV : Ext w2 V) => (hg.ext (hE0.trans hV)).cells)
  have HG := hide hg
  obtain ⟨si, so, hsi, hso, m0, m1, m2, mh⟩ := (hg.ext hE0).scene
  obtain ⟨q1, c1', rfl, -⟩ := hsi.int_all
  obtain ⟨q2, c2', rfl, -⟩ := hso.int_all
  have HSI := hide hsi
  have HSO := hide hso
  obtain ⟨e1, e2, e3, e4, hgz⟩ := HEV.out w2 (Ext.refl w2)
  have hg0 : g < w2.heap.size := by omega
  have hg1 : g + 1 < w2.heap.size := by omega
  have hg2 : g + 2 < w2.heap.size := by omega
  have hg3 : g + 3 < w2.heap.size := by omega
  have HM := hide (And.intro m0 (And.intro m1 (And.intro m2 mh)))
  clear hg hsi hso mh
  have HW2 := hide hw2
  clear hw2
  rcases arity_cases h0 h15 with ha | ha | ha
  · have hop := arity_zero h0 h15 ha
    obtain rfl : xs = [] := List.eq_nil_of_length_eq_zero (by omega)
    obtain rfl : nx = 0 := hnx.symm
    clear e1 e2 e3 e4 m0 m1 m2 hg0 hg1 hg2 hg3 hgz
    rcases hop with rfl | rfl
    · have HR := hide (show valE s (.mk 0 num []) vars = num from rfl)
      go_enter Tryd.func129, Tryd.ntmps129
      go_wp2_with fail
      go_ret
      exact ⟨ret_int HR.out.symm, by rw [HW2.out]; exact hE0⟩
    · have hb := hvar rfl
      obtain ⟨k, rfl⟩ := Int.eq_ofNat_of_zero_le hb.1
      have HR := hide (show valE s (.mk 1 k []) vars = vars.getD k 0 from rfl)
      obtain ⟨b, o, rfl, hbv, hcell⟩ := HATV.out (by omega)
      have HCV := hide (hcell k (by omega))
      have hcv0 := HCV.out w2 hE0
      have hk : (k : Int) < (vars.length : Int) := hb.2
      clear hcell hb
      rw [← HW2.out] at hcv0
      go_enter Tryd.func129, Tryd.ntmps129
      go_wp2_with fail
      go_ret
      exact ⟨ret_int HR.out.symm, by rw [HW2.out]; exact hE0⟩
  · obtain ⟨a, rfl⟩ : ∃ a, xs = [a] := List.length_eq_one_iff.1 (by omega)
    obtain ⟨hz, hka⟩ := hx a (by simp)
    have hop := arity_one h0 h15 ha
    have hna : vars.length + 1 + a.nodes ≤ 500 := by simp only [Ex.nodes, Ex.nodesL] at hvl; omega
    obtain rfl : nx = 1 := hnx.symm
    clear hx hnz hvl hvar hcon hl h0 h15 ha
    obtain ⟨b, o, rfl, hb, hat2⟩ := HAT.out (by simp)
    obtain ⟨q, d, hxc, hxa⟩ := hat2 0 (by simp)
    rw [Nat.zero_mul, Nat.add_zero] at hxc
    simp only [List.getD_cons_zero] at hxc hxa
    obtain ⟨x0, x1, x2⟩ := hxc
    have x0 := x0 _ hE0
    have x1 := x1 _ hE0
    have x2 := x2 _ hE0
    have hb2 : b < w2.heap.size := Nat.lt_of_lt_of_le hb hE0.size
    obtain ⟨c0, c1, c2, hzz⟩ := HB.out _ (Ext.refl w2)
    clear hat2
    rcases hop with rfl | rfl | rfl | rfl | rfl | rfl
    · have hi1 : innerV 2 (vars.length : Int) = vars.length := by unfold innerV; rw [if_neg (by decide)]
      rw [hi1] at hz
      have HC := hide (fun W (hW : Ext w W) => ih a (by simp) vars _ _ W (HG.out.ext hW) (hxa.ext hW) (HU.out.ext hW) hvs (by omega) hz)
      have hbd := HBD.out a vars hvs hz
      have HR := hide (show valE s (.mk 2 num [a]) vars = oneS s 2 (valE s a vars) from by rw [valE_one (by decide) (by decide)]; rfl)
      clear hi1 hz hka ih hxa
      generalize valE s a vars = av at HC HR hbd
      obtain ⟨hbd, -⟩ := hbd
      go_enter Tryd.func129, Tryd.ntmps129
      go_wp2_with fail
      rw [HW2.out]
      refine wp_region_ext (by kernel_rfl) (by kernel_rfl) ?_
      repeat (go_big_quiet_step ((go_at_call 129; exact Calls.ext_of (HC.out _ (by simp [go_sem, hE0])))))
      refine wpQuiet_nil ?_
      rintro w3 ⟨⟨_, hE3⟩, rfl⟩
      clear x0 x1 x2 c0 c1 c2 hzz e1 e2 e3 e4 m0 m1 m2 hg0 hg1 hg2 hg3 hgz
      obtain ⟨c0, c1, c2, hzz⟩ := HB.out _ hE3
      obtain ⟨e1, e2, e3, e4, hgz⟩ := HEV.out w3 hE3
      obtain ⟨m0, m1, m2, -⟩ := HM.out
      have m0 := (hE3.cell (by show g < _; have := (HEV.out w2 (Ext.refl w2)).2.2.2.2; omega)).trans m0
      have m1 := (hE3.cell (by show g < _; have := (HEV.out w2 (Ext.refl w2)).2.2.2.2; omega)).trans m1
      have m2 := (hE3.cell (by show g < _; have := (HEV.out w2 (Ext.refl w2)).2.2.2.2; omega)).trans m2
      go_wp2_with fail
      refine (elem_any s g _ _ av w3 ((HG.out.ext hE0).ext hE3) (HSI.out.ext hE3)).mono ?_
      rintro e' w4 ⟨rfl, hw4⟩
      have hE4 : Ext w w4 := by rw [hw4]; exact hE0.trans hE3
      clear hw4
      go_wp2_with fail
      go_ret
      exact ⟨ret_int HR.out.symm, hE4⟩
    · have hi1 : innerV 3 (vars.length : Int) = vars.length := by unfold innerV; rw [if_neg (by decide)]
      rw [hi1] at hz
      have HC := hide (fun W (hW : Ext w W) => ih a (by simp) vars _ _ W (HG.out.ext hW) (hxa.ext hW) (HU.out.ext hW) hvs (by omega) hz)
      have hbd := HBD.out a vars hvs hz
      have HR := hide (show valE s (.mk 3 num [a]) vars = oneS s 3 (valE s a vars) from by rw [valE_one (by decide) (by decide)]; rfl)
      clear hi1 hz hka ih hxa
      generalize valE s a vars = av at HC HR hbd
      obtain ⟨hbd, -⟩ := hbd
      go_enter Tryd.func129, Tryd.ntmps129
      go_wp2_with fail
      rw [HW2.out]
      refine wp_region_ext (by kernel_rfl) (by kernel_rfl) ?_
      repeat (go_big_quiet_step ((go_at_call 129; exact Calls.ext_of (HC.out _ (by simp [go_sem, hE0])))))
      refine wpQuiet_nil ?_
      rintro w3 ⟨⟨_, hE3⟩, rfl⟩
      clear x0 x1 x2 c0 c1 c2 hzz e1 e2 e3 e4 m0 m1 m2 hg0 hg1 hg2 hg3 hgz
      obtain ⟨c0, c1, c2, hzz⟩ := HB.out _ hE3
      obtain ⟨e1, e2, e3, e4, hgz⟩ := HEV.out w3 hE3
      obtain ⟨m0, m1, m2, -⟩ := HM.out
      have m0 := (hE3.cell (by show g < _; have := (HEV.out w2 (Ext.refl w2)).2.2.2.2; omega)).trans m0
      have m1 := (hE3.cell (by show g < _; have := (HEV.out w2 (Ext.refl w2)).2.2.2.2; omega)).trans m1
      have m2 := (hE3.cell (by show g < _; have := (HEV.out w2 (Ext.refl w2)).2.2.2.2; omega)).trans m2
      go_wp2_with fail
      refine (elem_any s g _ _ av w3 ((HG.out.ext hE0).ext hE3) (HSO.out.ext hE3)).mono ?_
      rintro e' w4 ⟨rfl, hw4⟩
      have hE4 : Ext w w4 := by rw [hw4]; exact hE0.trans hE3
      clear hw4
      go_wp2_with fail
      go_ret
      exact ⟨ret_int HR.out.symm, hE4⟩
    · have hi1 : innerV 12 (vars.length : Int) = vars.length := by unfold innerV; rw [if_neg (by decide)]
      rw [hi1] at hz
      have HC := hide (fun W (hW : Ext w W) => ih a (by simp) vars _ _ W (HG.out.ext hW) (hxa.ext hW) (HU.out.ext hW) hvs (by omega) hz)
      have hbd := HBD.out a vars hvs hz
      have HR := hide (show valE s (.mk 12 num [a]) vars = oneS s 12 (valE s a vars) from by rw [valE_one (by decide) (by decide)]; rfl)
      have hk01 := hbd.2 (by rw [hka]; rfl)
      clear hi1 hz hka ih hxa
      generalize valE s a vars = av at HC HR hbd hk01
      clear hbd
      obtain ⟨hk0, hk1⟩ := hk01
      go_enter Tryd.func129, Tryd.ntmps129
      go_wp2_with fail
      rw [HW2.out]
      refine wp_region_ext (by kernel_rfl) (by kernel_rfl) ?_
      repeat (go_big_quiet_step ((go_at_call 129; exact Calls.ext_of (HC.out _ (by simp [go_sem, hE0])))))
      refine wpQuiet_nil ?_
      rintro w3 ⟨⟨_, hE3⟩, rfl⟩
      clear x0 x1 x2 c0 c1 c2 hzz e1 e2 e3 e4 m0 m1 m2 hg0 hg1 hg2 hg3 hgz
      obtain ⟨c0, c1, c2, hzz⟩ := HB.out _ hE3
      obtain ⟨e1, e2, e3, e4, hgz⟩ := HEV.out w3 hE3
      obtain ⟨m0, m1, m2, -⟩ := HM.out
      have m0 := (hE3.cell (by show g < _; have := (HEV.out w2 (Ext.refl w2)).2.2.2.2; omega)).trans m0
      have m1 := (hE3.cell (by show g < _; have := (HEV.out w2 (Ext.refl w2)).2.2.2.2; omega)).trans m1
      have m2 := (hE3.cell (by show g < _; have := (HEV.out w2 (Ext.refl w2)).2.2.2.2; omega)).trans m2
      go_wp2_with fail
      go_ret
      exact ⟨ret_int HR.out.symm, hE0.trans hE3⟩
    · have hi1 : innerV 13 (vars.length : Int) = ((vars.length + 1 : Nat) : Int) := by unfold innerV; rw [if_pos (by rfl)]; omega
      rw [hi1] at hz
      have hfb : ∀ p, p < s.n → 0 ≤ valE s a (vars ++ [(p : Int)]) ∧ valE s a (vars ++ [(p : Int)]) ≤ 1 := fun p hp => by
        exact (HBD.out a (vars ++ [(p : Int)]) (fun x hx => by
          rcases List.mem_append.1 hx with h2 | h2
          · exact hvs x h2
          · simp only [List.mem_singleton] at h2; omega) (by rw [List.length_append]; exact hz)).2 (by rw [hka]; rfl)
      have HC := hide (fun W (hW : Ext w W) => pcnt_any s HOK.out g a vars (fun p => valE s a (vars ++ [(p : Int)])) _ _ W (HG.out.ext hW) (hxa.ext hW) (HU.out.ext hW) (by omega) hfb (fun p hp W' va vv hWW hva hvv => ih a (by simp) (vars ++ [(p : Int)]) va vv W' ((HG.out.ext hW).ext hWW) hva hvv (fun x hx => by
          rcases List.mem_append.1 hx with h2 | h2
          · exact hvs x h2
          · simp only [List.mem_singleton] at h2; omega) (by simp only [List.length_append, List.length_singleton]; omega) (by rw [List.length_append]; exact hz)))
      have hcb := cntTo_bd hfb
      have HR := hide (show valE s (.mk 13 num [a]) vars = quantS s.n 13 (cntTo (fun p => valE s a (vars ++ [(p : Int)])) s.n) from by rw [valE_one (by decide) (by decide)]; rfl)
      clear hfb hi1 hz hka ih hxa
      generalize cntTo (fun p => valE s a (vars ++ [(p : Int)])) s.n = kk at HC HR hcb
      go_enter Tryd.func129, Tryd.ntmps129
      go_wp2_with fail
      rw [HW2.out]
      refine wp_region_ext (by kernel_rfl) (by kernel_rfl) ?_
      repeat (go_big_quiet_step ((first | (go_at_call 128; exact Calls.ext_of (HC.out _ (by simp [go_sem, hE0]))) | (go_at_call 130; exact Calls.ext_same (ptruth_any _ _)))))
      refine wpQuiet_nil ?_
      rintro w3 ⟨⟨_, hE3⟩, rfl⟩
      go_wp2_with fail
      go_ret
      exact ⟨ret_int HR.out.symm, hE0.trans hE3⟩
    · have hi1 : innerV 14 (vars.length : Int) = ((vars.length + 1 : Nat) : Int) := by unfold innerV; rw [if_pos (by rfl)]; omega
      rw [hi1] at hz
      have hfb : ∀ p, p < s.n → 0 ≤ valE s a (vars ++ [(p : Int)]) ∧ valE s a (vars ++ [(p : Int)]) ≤ 1 := fun p hp => by
        exact (HBD.out a (vars ++ [(p : Int)]) (fun x hx => by
          rcases List.mem_append.1 hx with h2 | h2
          · exact hvs x h2
          · simp only [List.mem_singleton] at h2; omega) (by rw [List.length_append]; exact hz)).2 (by rw [hka]; rfl)
      have HC := hide (fun W (hW : Ext w W) => pcnt_any s HOK.out g a vars (fun p => valE s a (vars ++ [(p : Int)])) _ _ W (HG.out.ext hW) (hxa.ext hW) (HU.out.ext hW) (by omega) hfb (fun p hp W' va vv hWW hva hvv => ih a (by simp) (vars ++ [(p : Int)]) va vv W' ((HG.out.ext hW).ext hWW) hva hvv (fun x hx => by
          rcases List.mem_append.1 hx with h2 | h2
          · exact hvs x h2
          · simp only [List.mem_singleton] at h2; omega) (by simp only [List.length_append, List.length_singleton]; omega) (by rw [List.length_append]; exact hz)))
      have hcb := cntTo_bd hfb
      have HR := hide (show valE s (.mk 14 num [a]) vars = quantS s.n 14 (cntTo (fun p => valE s a (vars ++ [(p : Int)])) s.n) from by rw [valE_one (by decide) (by decide)]; rfl)
      clear hfb hi1 hz hka ih hxa
      generalize cntTo (fun p => valE s a (vars ++ [(p : Int)])) s.n = kk at HC HR hcb
      go_enter Tryd.func129, Tryd.ntmps129
      go_wp2_with fail
      rw [HW2.out]
      refine wp_region_ext (by kernel_rfl) (by kernel_rfl) ?_
      repeat (go_big_quiet_step ((first | (go_at_call 128; exact Calls.ext_of (HC.out _ (by simp [go_sem, hE0]))) | (go_at_call 130; exact Calls.ext_same (ptruth_any _ _)))))
      refine wpQuiet_nil ?_
      rintro w3 ⟨⟨_, hE3⟩, rfl⟩
      go_wp2_with fail
      go_ret
      exact ⟨ret_int HR.out.symm, hE0.trans hE3⟩
    · have hi1 : innerV 15 (vars.length : Int) = ((vars.length + 1 : Nat) : Int) := by unfold innerV; rw [if_pos (by rfl)]; omega
      rw [hi1] at hz
      have hfb : ∀ p, p < s.n → 0 ≤ valE s a (vars ++ [(p : Int)]) ∧ valE s a (vars ++ [(p : Int)]) ≤ 1 := fun p hp => by
        exact (HBD.out a (vars ++ [(p : Int)]) (fun x hx => by
          rcases List.mem_append.1 hx with h2 | h2
          · exact hvs x h2
          · simp only [List.mem_singleton] at h2; omega) (by rw [List.length_append]; exact hz)).2 (by rw [hka]; rfl)
      have HC := hide (fun W (hW : Ext w W) => pcnt_any s HOK.out g a vars (fun p => valE s a (vars ++ [(p : Int)])) _ _ W (HG.out.ext hW) (hxa.ext hW) (HU.out.ext hW) (by omega) hfb (fun p hp W' va vv hWW hva hvv => ih a (by simp) (vars ++ [(p : Int)]) va vv W' ((HG.out.ext hW).ext hWW) hva hvv (fun x hx => by
          rcases List.mem_append.1 hx with h2 | h2
          · exact hvs x h2
          · simp only [List.mem_singleton] at h2; omega) (by simp only [List.length_append, List.length_singleton]; omega) (by rw [List.length_append]; exact hz)))
      have hcb := cntTo_bd hfb
      have HR := hide (show valE s (.mk 15 num [a]) vars = quantS s.n 15 (cntTo (fun p => valE s a (vars ++ [(p : Int)])) s.n) from by rw [valE_one (by decide) (by decide)]; rfl)
      clear hfb hi1 hz hka ih hxa
      generalize cntTo (fun p => valE s a (vars ++ [(p : Int)])) s.n = kk at HC HR hcb
      go_enter Tryd.func129, Tryd.ntmps129
      go_wp2_with fail
      rw [HW2.out]
      refine wp_region_ext (by kernel_rfl) (by kernel_rfl) ?_
      repeat (go_big_quiet_step ((first | (go_at_call 128; exact Calls.ext_of (HC.out _ (by simp [go_sem, hE0]))) | (go_at_call 130; exact Calls.ext_same (ptruth_any _ _)))))
      refine wpQuiet_nil ?_
      rintro w3 ⟨⟨_, hE3⟩, rfl⟩
      go_wp2_with fail
      go_ret
      exact ⟨ret_int HR.out.symm, hE0.trans hE3⟩
  · obtain ⟨a, a2, rfl⟩ : ∃ a a2, xs = [a, a2] := by
      match xs, hl with
      | [], hl => rw [ha] at hl; simp at hl
      | [_], hl => rw [ha] at hl; simp at hl
      | [a, b], _ => exact ⟨a, b, rfl⟩
      | _ :: _ :: _ :: _, hl => rw [ha] at hl; simp at hl; omega
    obtain ⟨hz, hka⟩ := hx a (by simp)
    obtain ⟨hz2, hka2⟩ := hx a2 (by simp)
    obtain rfl : nx = 2 := hnx.symm
    have hop := arity_two h0 h15 ha
    have hna : vars.length + a.nodes ≤ 500 ∧ vars.length + a2.nodes ≤ 500 := by simp only [Ex.nodes, Ex.nodesL] at hvl; omega
    have hq : ¬ isQ op = true := by simp only [isQ, Bool.or_eq_true, beq_iff_eq]; omega
    have hi1 : innerV op (vars.length : Int) = vars.length := by unfold innerV; rw [if_neg hq]
    rw [hi1] at hz hz2
    obtain ⟨b, o, rfl, hb, hat2⟩ := HAT.out (by simp)
    obtain ⟨q, d, hxc, hxa⟩ := hat2 0 (by simp)
    obtain ⟨q2, d2', hyc, hya⟩ := hat2 1 (by simp)
    rw [Nat.zero_mul, Nat.add_zero] at hxc
    rw [Nat.one_mul] at hyc
    simp only [List.getD_cons_zero, List.getD_cons_succ] at hxc hxa hyc hya
    have HC := hide (fun W (hW : Ext w W) => ih a (by simp) vars _ _ W (HG.out.ext hW) (hxa.ext hW) (HU.out.ext hW) hvs (by omega) hz)
    have HC2 := hide (fun W (hW : Ext w W) => ih a2 (by simp) vars _ _ W (HG.out.ext hW) (hya.ext hW) (HU.out.ext hW) hvs (by omega) hz2)
    have hbd := HBD.out a vars hvs hz
    have hbd2 := HBD.out a2 vars hvs hz2
    have hb01 : op = 10 ∨ op = 11 → (0 ≤ valE s a vars ∧ valE s a vars ≤ 1) ∧ (0 ≤ valE s a2 vars ∧ valE s a2 vars ≤ 1) := fun h10 => by
      have hk : argKind op = 1 := by unfold argKind; rw [if_pos (by omega)]
      exact ⟨hbd.2 (by rw [hka, hk]), hbd2.2 (by rw [hka2, hk])⟩
    have HB01 := hide hb01
    obtain ⟨hbd, -⟩ := hbd
    obtain ⟨hbd2, -⟩ := hbd2
    have HR := hide (valE_two (s := s) (op := op) (num := num) (a := a) (b := a2) (vars := vars))
    obtain ⟨x0, x1, x2⟩ := hxc
    have x0 := x0 _ hE0
    have x1 := x1 _ hE0
    have x2 := x2 _ hE0
    have hb2 : b < w2.heap.size := Nat.lt_of_lt_of_le hb hE0.size
    have HYC := hide hyc
    obtain ⟨c0, c1, c2, hzz⟩ := HB.out _ (Ext.refl w2)
    have d0' : (op == 0) = false := by rw [beq_eq_false_iff_ne]; omega
    have d1' : (op == 1) = false := by rw [beq_eq_false_iff_ne]; omega
    have d13 : (op == 13) = false := by rw [beq_eq_false_iff_ne]; omega
    have d14 : (op == 14) = false := by rw [beq_eq_false_iff_ne]; omega
    have d15 : (op == 15) = false := by rw [beq_eq_false_iff_ne]; omega
    have d2'' : (op == 2) = false := by rw [beq_eq_false_iff_ne]; omega
    have d3' : (op == 3) = false := by rw [beq_eq_false_iff_ne]; omega
    have d12 : (op == 12) = false := by rw [beq_eq_false_iff_ne]; omega
    have hn1 : (a.nodes : Int) ≤ 500 := by omega
    have hn2 : (a2.nodes : Int) ≤ 500 := by omega
    clear hi1 hz hz2 hka hka2 ih hxa hya hat2 hx hnz hvl hvar hcon hl ha hq hb01 hyc
    generalize valE s a vars = av at HC HR hbd HB01
    generalize valE s a2 vars = bv at HC2 HR hbd2 HB01
    have ha1 : -1000000000 ≤ av ∧ av ≤ 1000000000 := by omega
    have hb1 : -1000000000 ≤ bv ∧ bv ≤ 1000000000 := by omega
    go_enter Tryd.func129, Tryd.ntmps129
    go_wp2_with fail
    rw [HW2.out]
    refine wp_region_ext (by kernel_rfl) (by kernel_rfl) ?_
    repeat (go_big_quiet_step ((go_at_call 129; exact Calls.ext_of (HC.out _ (by simp [go_sem, hE0])))))
    refine wpQuiet_nil ?_
    rintro w3 ⟨⟨_, hE3⟩, rfl⟩
    clear x0 x1 x2 c0 c1 c2 hzz e1 e2 e3 e4 m0 m1 m2 hg0 hg1 hg2 hg3 hgz
    obtain ⟨c0, c1, c2, hzz⟩ := HB.out _ hE3
    obtain ⟨e1, e2, e3, e4, hgz⟩ := HEV.out w3 hE3
    have hE03 := hE0.trans hE3
    obtain ⟨x0, x1, x2⟩ := HYC.out
    have x0 := x0 _ hE03
    have x1 := x1 _ hE03
    have x2 := x2 _ hE03
    have hb3 : b < w3.heap.size := Nat.lt_of_lt_of_le hb hE03.size
    have hg0 : g < w3.heap.size := by omega
    have hg1 : g + 1 < w3.heap.size := by omega
    have hg2 : g + 2 < w3.heap.size := by omega
    have hg3 : g + 3 < w3.heap.size := by omega
    go_wp2_with fail
    refine wp_region_ext (by kernel_rfl) (by kernel_rfl) ?_
    repeat (go_big_quiet_step ((go_at_call 129; exact Calls.ext_of (HC2.out _ (by simp [go_sem, hE03])))))
    refine wpQuiet_nil ?_
    rintro w4 ⟨⟨_, hE4'⟩, rfl⟩
    have hE4 := hE3.trans hE4'
    clear x0 x1 x2 c0 c1 c2 hzz e1 e2 e3 e4 hg0 hg1 hg2 hg3 hgz hE4'
    obtain ⟨c0, c1, c2, hzz⟩ := HB.out _ hE4
    obtain ⟨e1, e2, e3, e4, hgz⟩ := HEV.out w4 hE4
    by_cases o4 : op = 4
    · subst o4
      have HP := hide (fun x => proc_any s g x w4 ((HG.out.ext hE0).ext hE4))
      have hbs : bitS s av bv = (procS s.n av && procS s.n bv && has (s.h.h av.toNat) bv.toNat) := rfl
      have HBS := hide hbs
      have HRR := hide (show valE s (.mk 4 num [a, a2]) vars = flag (bitS s av bv) from HR.out)
      clear hbs
      cases hp1 : procS s.n av with
      | false =>
        have hb0 : bitS s av bv = false := by rw [HBS.out, hp1]; rfl
        have HP1 := hide (HP.out av)
        rw [hp1] at HP1
        rw [hb0] at HRR
        clear hp1 hb0
        go_wp2_with fail
        refine HP1.out.mono ?_
        rintro e' w5 ⟨rfl, hw5⟩
        rw [hw5]
        clear hw5
        go_wp2_with fail
        refine (ptruth_any _ _).mono ?_
        rintro e' w5 ⟨rfl, hw5⟩
        rw [hw5]
        clear hw5
        go_wp2_with fail
        go_ret
        exact ⟨ret_int HRR.out.symm, hE0.trans hE4⟩
      | true =>
        have HP1 := hide (HP.out av)
        rw [hp1] at HP1
        cases hp2 : procS s.n bv with
        | false =>
          have hb0 : bitS s av bv = false := by rw [HBS.out, hp1, hp2]; rfl
          have HP2 := hide (HP.out bv)
          rw [hp2] at HP2
          rw [hb0] at HRR
          clear hp1 hp2 hb0
          go_wp2_with fail
          refine HP1.out.mono ?_
          rintro e' w5 ⟨rfl, hw5⟩
          rw [hw5]
          clear hw5
          go_wp2_with fail
          refine HP2.out.mono ?_
          rintro e' w5 ⟨rfl, hw5⟩
          rw [hw5]
          clear hw5
          go_wp2_with fail
          refine (ptruth_any _ _).mono ?_
          rintro e' w5 ⟨rfl, hw5⟩
          rw [hw5]
          clear hw5
          go_wp2_with fail
          go_ret
          exact ⟨ret_int HRR.out.symm, hE0.trans hE4⟩
        | true =>
          have HP2 := hide (HP.out bv)
          rw [hp2] at HP2
          have hb0 : bitS s av bv = has (s.h.h av.toNat) bv.toNat := by rw [HBS.out, hp1, hp2]; rfl
          rw [hb0] at HRR
          have hp1' : 0 ≤ av ∧ av < s.n := by simpa only [procS, Bool.and_eq_true, decide_eq_true_eq] using hp1
          have hp2' : 0 ≤ bv ∧ bv < s.n := by simpa only [procS, Bool.and_eq_true, decide_eq_true_eq] using hp2
          obtain ⟨k, rfl⟩ := Int.eq_ofNat_of_zero_le hp1'.1
          obtain ⟨m, rfl⟩ := Int.eq_ofNat_of_zero_le hp2'.1
          rw [Int.toNat_natCast, Int.toNat_natCast] at HRR
          have hk5 : k < 5 := by omega
          have hm5 : m < 5 := by omega
          have hh := HS5.out k hk5
          have hsb := shr_bit (s.h.h k) m hh.1 hh.2 hm5
          have hcl := (hE4.cell (p := ⟨g, 3 + k, none⟩) (by show g < _; have := (HEV.out w2 (Ext.refl w2)).2.2.2.2; omega)).trans (HM.out.2.2.2 k hk5)
          clear hp1 hp2 hb0 hp1' hp2'
          generalize has (s.h.h k) m = bb at HRR hsb
          generalize s.h.h k = hk at hcl hsb hh
          obtain ⟨hh0, hh1⟩ := hh
          go_wp2_with fail
          refine HP1.out.mono ?_
          rintro e' w5 ⟨rfl, hw5⟩
          rw [hw5]
          clear hw5
          go_wp2_with fail
          refine HP2.out.mono ?_
          rintro e' w5 ⟨rfl, hw5⟩
          rw [hw5]
          clear hw5
          go_wp2_with fail
          refine (ptruth_any _ _).mono ?_
          rintro e' w5 ⟨rfl, hw5⟩
          rw [hw5]
          clear hw5
          go_wp2_with fail
          go_ret
          exact ⟨ret_int HRR.out.symm, hE0.trans hE4⟩
    have d4 : (op == 4) = false := by rw [beq_eq_false_iff_ne]; omega
    by_cases o10 : op = 10
    · subst o10
      have hab := HB01.out (.inl rfl)
      have h10 := (and01 hab.1 hab.2).1
      have HRR := hide (show valE s (.mk 10 num [a, a2]) vars = av * bv from HR.out)
      have H10 := hide h10
      clear h10 hab
      go_wp2_with fail
      go_ret
      exact ⟨ret_int (H10.out.trans HRR.out.symm), hE0.trans hE4⟩
    by_cases o11 : op = 11
    · subst o11
      have hab := HB01.out (.inr rfl)
      have h10 := (and01 hab.1 hab.2).2
      have HRR := hide (show valE s (.mk 11 num [a, a2]) vars = flag (decide (0 < av + bv)) from HR.out)
      have H10 := hide h10
      clear h10 hab
      go_wp2_with fail
      go_ret
      exact ⟨ret_int (H10.out.trans HRR.out.symm), hE0.trans hE4⟩
    have d10 : (op == 10) = false := by rw [beq_eq_false_iff_ne]; omega
    have d11 : (op == 11) = false := by rw [beq_eq_false_iff_ne]; omega
    have HCM := hide (fun W => compared_any s op av bv W (by omega) (by omega) ha1 hb1)
    go_wp2_with fail
    refine (HCM.out _).mono ?_
    rintro e' w5 ⟨rfl, hw5⟩
    rw [hw5]
    clear hw5
    go_wp2_with fail
    go_ret
    exact ⟨ret_int HR.out.symm, hE0.trans hE4⟩
end Go.Proofs.YthpccmmdkbjjhaaDoor
