/-
  The reference's evaluation of expressions (roundtableref07.Value).
  Conditions: as each theorem states.
-/
import Derived.Test.YthpccmmdkbjjhaaDoorExRef2
namespace Go.Proofs.YthpccmmdkbjjhaaDoor
open Go.RowKit

theorem valE_one {s : Sc} {op num : Int} {a : Ex} {vars : List Int} (h0 : op ≠ 0) (h1 : op ≠ 1) : valE s (.mk op num [a]) vars = if isQ op = true then quantS s.n op (cntTo (fun p => valE s a (vars ++ [(p : Int)])) s.n) else oneS s op (valE s a vars) := by
  simp only [valE]; rw [if_neg h0, if_neg h1]
theorem valE_two {s : Sc} {op num : Int} {a b : Ex} {vars : List Int} : valE s (.mk op num [a, b]) vars = twoS s op (valE s a vars) (valE s b vars) := rfl

set_option maxHeartbeats 4000000 in
theorem rvalue_any (s : Sc) (hs : s.ok) : ∀ (e : Ex) (vars : List Int) (v u : Value) (w : World), ExAt w v e → ScAt w u s vars → (∀ x ∈ vars, 0 ≤ x ∧ x ≤ 1048576) → vars.length + e.nodes ≤ 500 → nodesE e vars.length = 0 →
    Calls Tryd.prog 120 #[v, u] w fun e' w' => e' = .returned (.int .i64 (valE s e vars)) ∧ Ext w w' := by
  refine Ex.ind (P := fun e => ∀ (vars : List Int) (v u : Value) (w : World), ExAt w v e → ScAt w u s vars → (∀ x ∈ vars, 0 ≤ x ∧ x ≤ 1048576) → vars.length + e.nodes ≤ 500 → nodesE e vars.length = 0 →
    Calls Tryd.prog 120 #[v, u] w fun e' w' => e' = .returned (.int .i64 (valE s e vars)) ∧ Ext w w') ?_
  intro op num xs ih vars v u w hv hu hvs hvl hnz
  obtain ⟨h0, h15, hl, hvar, hcon, hx⟩ := nodesE_zero hnz
  have HV := hide hv
  have HU := hide hu
  obtain ⟨p, c, rfl, hc, hlx, hat⟩ := hv.all_
  simp only [Ex.op, Ex.num, Ex.args] at HV hc hlx hat ⊢
  have HAT := hide hat
  clear hat hv
  obtain ⟨nx, hnx⟩ : ∃ nx, xs.length = nx := ⟨_, rfl⟩
  rw [hnx] at HV ⊢
  rw [hnx] at hc hlx
  obtain ⟨si, so, sv, rfl, hi, ho, hvv⟩ := hu
  have HI := hide hi
  have HO := hide ho
  obtain ⟨qi, ci, rfl, -⟩ := hi.int_all
  obtain ⟨qo, co, rfl, -⟩ := ho.int_all
  obtain ⟨qv, cv, rfl, hcv, hlv, hatv⟩ := hvv.int_all
  have HATV := hide hatv
  clear hi ho hvv hatv
  have HOK := hide hs
  have HBD := hide (fun e vars hv h => val_bd s hs e vars hv h)
  obtain ⟨s1, s2, -, -, -⟩ := hs
  obtain ⟨w2, hw2⟩ : ∃ w2, (w.alloc (.cells #[.int .i64 op, .int .i64 num, .slice p nx c] 26)).alloc (.cells #[.int .i64 s.n, .slice qi s.inp.length ci, .slice qo s.out.length co, .int .i64 s.h.h0, .int .i64 s.h.h1, .int .i64 s.h.h2, .int .i64 s.h.h3, .int .i64 s.h.h4, .slice qv vars.length cv] 107) = w2 := ⟨_, rfl⟩
  have hE0 : Ext w w2 := by rw [← hw2]; exact ((Ext.refl w).alloc _).alloc _
  have HBX := hide (fun V (hE : Ext w2 V) => xbox3 (g := w.heap.size) (V := V) (by rw [← hw2]; exact (Below.heap_alloc _ _ _ (by simp)).trans (heap_alloc_new w _)) hE)
  have HBS := hide (fun V (hE : Ext w2 V) => sbox9 (g := w.heap.size + 1) (V := V) (by rw [← hw2]; have := heap_alloc_new (w.alloc (.cells #[.int .i64 op, .int .i64 num, .slice p nx c] 26)) (.cells #[.int .i64 s.n, .slice qi s.inp.length ci, .slice qo s.out.length co, .int .i64 s.h.h0, .int .i64 s.h.h1, .int .i64 s.h.h2, .int .i64 s.h.h3, .int .i64 s.h.h4, .slice qv vars.length cv] 107); rwa [World.size_alloc] at this) hE)
  have HW2 := hide hw2
  clear hw2
  rcases arity_cases h0 h15 with ha | ha | ha
  · have hop := arity_zero h0 h15 ha
    obtain rfl : xs = [] := List.eq_nil_of_length_eq_zero (by omega)
    obtain rfl : nx = 0 := hnx.symm
    rcases hop with rfl | rfl
    · have HR := hide (show valE s (.mk 0 num []) vars = num from rfl)
      go_enter Tryd.func120, Tryd.ntmps120
      go_wp2_with fail
      go_ret
      exact ⟨ret_int HR.out.symm, by rw [HW2.out]; exact hE0⟩
    · have hb := hvar rfl
      obtain ⟨k, rfl⟩ := Int.eq_ofNat_of_zero_le hb.1
      have HR := hide (show valE s (.mk 1 k []) vars = vars.getD k 0 from rfl)
      obtain ⟨b, o, rfl, hbv, hcell⟩ := HATV.out (by omega)
      have HCV := hide (hcell k (by omega))
      have hbv2 : b < w2.heap.size := Nat.lt_of_lt_of_le hbv hE0.size
      have hcv0 := HCV.out w2 hE0
      have hk : (k : Int) < (vars.length : Int) := hb.2
      clear hcell hb
      go_enter Tryd.func120, Tryd.ntmps120
      obtain ⟨c0, c1, c2, hz⟩ := HBX.out _ (Ext.refl _)
      obtain ⟨d0, d1, d2, d3, d4, d5, d6, d7, d8, hzs⟩ := HBS.out _ (Ext.refl _)
      rw [← HW2.out] at hcv0
      clear c0 c1 c2 hz d0 d1 d2 d3 d4 d5 d6 d7 d8 hzs
      go_wp2_with fail
      go_ret
      exact ⟨ret_int HR.out.symm, by rw [HW2.out]; exact hE0⟩
  · obtain ⟨a, rfl⟩ : ∃ a, xs = [a] := List.length_eq_one_iff.1 (by omega)
    obtain ⟨hz, hka⟩ := hx a (by simp)
    have hop := arity_one h0 h15 ha
    have hna : vars.length + 1 + a.nodes ≤ 500 := by simp only [Ex.nodes, Ex.nodesL] at hvl; omega
    obtain rfl : nx = 1 := hnx.symm
    clear hx hnz hvl hvar hcon hl h0 h15 ha
    rcases hop with rfl | rfl | rfl | rfl | rfl | rfl
    · obtain ⟨b, o, rfl, hb, hat2⟩ := HAT.out (by simp)
      obtain ⟨q, d, hxc, hxa⟩ := hat2 0 (by simp)
      rw [Nat.zero_mul, Nat.add_zero] at hxc
      simp only [List.getD_cons_zero] at hxc hxa
      have hi1 : innerV 2 (vars.length : Int) = vars.length := by unfold innerV; rw [if_neg (by decide)]
      rw [hi1] at hz
      have HC := hide (fun W (hW : Ext w W) => ih a (by simp) vars _ _ W (hxa.ext hW) (HU.out.ext hW) hvs (by omega) hz)
      have hbd := HBD.out a vars hvs hz
      have HR := hide (show valE s (.mk 2 num [a]) vars = oneS s 2 (valE s a vars) from by rw [valE_one (by decide) (by decide)]; rfl)
      obtain ⟨x0, x1, x2⟩ := hxc
      have x0 := x0 _ hE0
      have x1 := x1 _ hE0
      have x2 := x2 _ hE0
      have hb2 : b < w2.heap.size := Nat.lt_of_lt_of_le hb hE0.size
      clear hi1 hz hka ih hxa hat2
      generalize valE s a vars = av at HC HR hbd
      obtain ⟨hbd, -⟩ := hbd
      go_enter Tryd.func120, Tryd.ntmps120
      go_wp2_with fail
      rw [HW2.out]
      obtain ⟨c0, c1, c2, hz⟩ := HBX.out _ (Ext.refl _)
      obtain ⟨d0, d1, d2, d3, d4, d5, d6, d7, d8, hzs⟩ := HBS.out _ (Ext.refl _)
      refine wp_region_ext (by kernel_rfl) (by kernel_rfl) ?_
      repeat (go_big_quiet_step ((go_at_call 120; exact Calls.ext_of (HC.out _ (by simp [go_sem, hE0])))))
      refine wpQuiet_nil ?_
      rintro w3 ⟨⟨_, hE3⟩, rfl⟩
      clear x0 x1 x2 c0 c1 c2 hz d0 d1 d2 d3 d4 d5 d6 d7 d8 hzs
      obtain ⟨c0, c1, c2, hz⟩ := HBX.out _ hE3
      obtain ⟨d0, d1, d2, d3, d4, d5, d6, d7, d8, hzs⟩ := HBS.out _ hE3
      go_wp2_with fail
      refine (rat_any _ _ av s.n w3 (HI.out.ext (hE0.trans hE3))).mono ?_
      rintro e' w4 ⟨rfl, hw4⟩
      have hE4 : Ext w w4 := by rw [hw4]; exact hE0.trans hE3
      clear hw4
      go_wp2_with fail
      go_ret
      exact ⟨ret_int HR.out.symm, hE4⟩
    · obtain ⟨b, o, rfl, hb, hat2⟩ := HAT.out (by simp)
      obtain ⟨q, d, hxc, hxa⟩ := hat2 0 (by simp)
      rw [Nat.zero_mul, Nat.add_zero] at hxc
      simp only [List.getD_cons_zero] at hxc hxa
      have hi1 : innerV 3 (vars.length : Int) = vars.length := by unfold innerV; rw [if_neg (by decide)]
      rw [hi1] at hz
      have HC := hide (fun W (hW : Ext w W) => ih a (by simp) vars _ _ W (hxa.ext hW) (HU.out.ext hW) hvs (by omega) hz)
      have hbd := HBD.out a vars hvs hz
      have HR := hide (show valE s (.mk 3 num [a]) vars = oneS s 3 (valE s a vars) from by rw [valE_one (by decide) (by decide)]; rfl)
      obtain ⟨x0, x1, x2⟩ := hxc
      have x0 := x0 _ hE0
      have x1 := x1 _ hE0
      have x2 := x2 _ hE0
      have hb2 : b < w2.heap.size := Nat.lt_of_lt_of_le hb hE0.size
      clear hi1 hz hka ih hxa hat2
      generalize valE s a vars = av at HC HR hbd
      obtain ⟨hbd, -⟩ := hbd
      go_enter Tryd.func120, Tryd.ntmps120
      go_wp2_with fail
      rw [HW2.out]
      obtain ⟨c0, c1, c2, hz⟩ := HBX.out _ (Ext.refl _)
      obtain ⟨d0, d1, d2, d3, d4, d5, d6, d7, d8, hzs⟩ := HBS.out _ (Ext.refl _)
      refine wp_region_ext (by kernel_rfl) (by kernel_rfl) ?_
      repeat (go_big_quiet_step ((go_at_call 120; exact Calls.ext_of (HC.out _ (by simp [go_sem, hE0])))))
      refine wpQuiet_nil ?_
      rintro w3 ⟨⟨_, hE3⟩, rfl⟩
      clear x0 x1 x2 c0 c1 c2 hz d0 d1 d2 d3 d4 d5 d6 d7 d8 hzs
      obtain ⟨c0, c1, c2, hz⟩ := HBX.out _ hE3
      obtain ⟨d0, d1, d2, d3, d4, d5, d6, d7, d8, hzs⟩ := HBS.out _ hE3
      go_wp2_with fail
      refine (rat_any _ _ av s.n w3 (HO.out.ext (hE0.trans hE3))).mono ?_
      rintro e' w4 ⟨rfl, hw4⟩
      have hE4 : Ext w w4 := by rw [hw4]; exact hE0.trans hE3
      clear hw4
      go_wp2_with fail
      go_ret
      exact ⟨ret_int HR.out.symm, hE4⟩
    · obtain ⟨b, o, rfl, hb, hat2⟩ := HAT.out (by simp)
      obtain ⟨q, d, hxc, hxa⟩ := hat2 0 (by simp)
      rw [Nat.zero_mul, Nat.add_zero] at hxc
      simp only [List.getD_cons_zero] at hxc hxa
      have hi1 : innerV 12 (vars.length : Int) = vars.length := by unfold innerV; rw [if_neg (by decide)]
      rw [hi1] at hz
      have HC := hide (fun W (hW : Ext w W) => ih a (by simp) vars _ _ W (hxa.ext hW) (HU.out.ext hW) hvs (by omega) hz)
      have hbd := HBD.out a vars hvs hz
      have HR := hide (show valE s (.mk 12 num [a]) vars = oneS s 12 (valE s a vars) from by rw [valE_one (by decide) (by decide)]; rfl)
      obtain ⟨x0, x1, x2⟩ := hxc
      have x0 := x0 _ hE0
      have x1 := x1 _ hE0
      have x2 := x2 _ hE0
      have hb2 : b < w2.heap.size := Nat.lt_of_lt_of_le hb hE0.size
      have hk01 := hbd.2 (by rw [hka]; rfl)
      clear hi1 hz hka ih hxa hat2
      generalize valE s a vars = av at HC HR hbd hk01
      clear hbd
      obtain ⟨hk0, hk1⟩ := hk01
      go_enter Tryd.func120, Tryd.ntmps120
      go_wp2_with fail
      rw [HW2.out]
      obtain ⟨c0, c1, c2, hz⟩ := HBX.out _ (Ext.refl _)
      obtain ⟨d0, d1, d2, d3, d4, d5, d6, d7, d8, hzs⟩ := HBS.out _ (Ext.refl _)
      refine wp_region_ext (by kernel_rfl) (by kernel_rfl) ?_
      repeat (go_big_quiet_step ((go_at_call 120; exact Calls.ext_of (HC.out _ (by simp [go_sem, hE0])))))
      refine wpQuiet_nil ?_
      rintro w3 ⟨⟨_, hE3⟩, rfl⟩
      clear x0 x1 x2 c0 c1 c2 hz d0 d1 d2 d3 d4 d5 d6 d7 d8 hzs
      obtain ⟨c0, c1, c2, hz⟩ := HBX.out _ hE3
      obtain ⟨d0, d1, d2, d3, d4, d5, d6, d7, d8, hzs⟩ := HBS.out _ hE3
      go_wp2_with fail
      go_ret
      exact ⟨ret_int HR.out.symm, hE0.trans hE3⟩
    · obtain ⟨b, o, rfl, hb, hat2⟩ := HAT.out (by simp)
      clear hat2
      have hi1 : innerV 13 (vars.length : Int) = ((vars.length + 1 : Nat) : Int) := by unfold innerV; rw [if_pos (by rfl)]; omega
      rw [hi1] at hz
      have hfb : ∀ p, p < s.n → 0 ≤ valE s a (vars ++ [(p : Int)]) ∧ valE s a (vars ++ [(p : Int)]) ≤ 1 := fun p hp => by
        exact (HBD.out a (vars ++ [(p : Int)]) (fun x hx => by
          rcases List.mem_append.1 hx with h2 | h2
          · exact hvs x h2
          · simp only [List.mem_singleton] at h2; omega) (by rw [List.length_append]; exact hz)).2 (by rw [hka]; rfl)
      have HC := hide (fun W (hW : Ext w W) => rcnt_any 13 num a s vars (fun p => valE s a (vars ++ [(p : Int)])) _ _ W HOK.out (HV.out.ext hW) (HU.out.ext hW) (by omega) hfb (fun p hp W' u' va _ hva hu' => ih a (by simp) (vars ++ [(p : Int)]) va u' W' hva hu' (fun x hx => by
          rcases List.mem_append.1 hx with h2 | h2
          · exact hvs x h2
          · simp only [List.mem_singleton] at h2; omega) (by simp only [List.length_append, List.length_singleton]; omega) (by rw [List.length_append]; exact hz)))
      have hcb := cntTo_bd hfb
      have HR := hide (show valE s (.mk 13 num [a]) vars = quantS s.n 13 (cntTo (fun p => valE s a (vars ++ [(p : Int)])) s.n) from by rw [valE_one (by decide) (by decide)]; rfl)
      clear hfb hi1 hz hka ih
      generalize cntTo (fun p => valE s a (vars ++ [(p : Int)])) s.n = kk at HC HR hcb
      go_enter Tryd.func120, Tryd.ntmps120
      go_wp2_with fail
      rw [HW2.out]
      obtain ⟨c0, c1, c2, hz⟩ := HBX.out _ (Ext.refl _)
      obtain ⟨d0, d1, d2, d3, d4, d5, d6, d7, d8, hzs⟩ := HBS.out _ (Ext.refl _)
      refine wp_region_ext (by kernel_rfl) (by kernel_rfl) ?_
      repeat (go_big_quiet_step ((first | (go_at_call 136; exact Calls.ext_of (HC.out _ (by simp [go_sem, hE0]))) | (go_at_call 135; exact Calls.ext_same (rflag_any _ _)))))
      refine wpQuiet_nil ?_
      rintro w3 ⟨⟨_, hE3⟩, rfl⟩
      go_wp2_with fail
      go_ret
      exact ⟨ret_int HR.out.symm, hE0.trans hE3⟩
    · obtain ⟨b, o, rfl, hb, hat2⟩ := HAT.out (by simp)
      clear hat2
      have hi1 : innerV 14 (vars.length : Int) = ((vars.length + 1 : Nat) : Int) := by unfold innerV; rw [if_pos (by rfl)]; omega
      rw [hi1] at hz
      have hfb : ∀ p, p < s.n → 0 ≤ valE s a (vars ++ [(p : Int)]) ∧ valE s a (vars ++ [(p : Int)]) ≤ 1 := fun p hp => by
        exact (HBD.out a (vars ++ [(p : Int)]) (fun x hx => by
          rcases List.mem_append.1 hx with h2 | h2
          · exact hvs x h2
          · simp only [List.mem_singleton] at h2; omega) (by rw [List.length_append]; exact hz)).2 (by rw [hka]; rfl)
      have HC := hide (fun W (hW : Ext w W) => rcnt_any 14 num a s vars (fun p => valE s a (vars ++ [(p : Int)])) _ _ W HOK.out (HV.out.ext hW) (HU.out.ext hW) (by omega) hfb (fun p hp W' u' va _ hva hu' => ih a (by simp) (vars ++ [(p : Int)]) va u' W' hva hu' (fun x hx => by
          rcases List.mem_append.1 hx with h2 | h2
          · exact hvs x h2
          · simp only [List.mem_singleton] at h2; omega) (by simp only [List.length_append, List.length_singleton]; omega) (by rw [List.length_append]; exact hz)))
      have hcb := cntTo_bd hfb
      have HR := hide (show valE s (.mk 14 num [a]) vars = quantS s.n 14 (cntTo (fun p => valE s a (vars ++ [(p : Int)])) s.n) from by rw [valE_one (by decide) (by decide)]; rfl)
      clear hfb hi1 hz hka ih
      generalize cntTo (fun p => valE s a (vars ++ [(p : Int)])) s.n = kk at HC HR hcb
      go_enter Tryd.func120, Tryd.ntmps120
      go_wp2_with fail
      rw [HW2.out]
      refine (HC.out _ hE0).mono ?_
      rintro e' w3 ⟨rfl, hE3⟩
      go_wp2_with fail
      refine (rflag_any _ _).mono ?_
      rintro e' w4 ⟨rfl, hw4⟩
      have hE4 : Ext w w4 := by rw [hw4]; exact hE0.trans hE3
      clear hw4
      go_wp2_with fail
      go_ret
      exact ⟨ret_int HR.out.symm, hE4⟩
    · obtain ⟨b, o, rfl, hb, hat2⟩ := HAT.out (by simp)
      clear hat2
      have hi1 : innerV 15 (vars.length : Int) = ((vars.length + 1 : Nat) : Int) := by unfold innerV; rw [if_pos (by rfl)]; omega
      rw [hi1] at hz
      have hfb : ∀ p, p < s.n → 0 ≤ valE s a (vars ++ [(p : Int)]) ∧ valE s a (vars ++ [(p : Int)]) ≤ 1 := fun p hp => by
        exact (HBD.out a (vars ++ [(p : Int)]) (fun x hx => by
          rcases List.mem_append.1 hx with h2 | h2
          · exact hvs x h2
          · simp only [List.mem_singleton] at h2; omega) (by rw [List.length_append]; exact hz)).2 (by rw [hka]; rfl)
      have HC := hide (fun W (hW : Ext w W) => rcnt_any 15 num a s vars (fun p => valE s a (vars ++ [(p : Int)])) _ _ W HOK.out (HV.out.ext hW) (HU.out.ext hW) (by omega) hfb (fun p hp W' u' va _ hva hu' => ih a (by simp) (vars ++ [(p : Int)]) va u' W' hva hu' (fun x hx => by
          rcases List.mem_append.1 hx with h2 | h2
          · exact hvs x h2
          · simp only [List.mem_singleton] at h2; omega) (by simp only [List.length_append, List.length_singleton]; omega) (by rw [List.length_append]; exact hz)))
      have hcb := cntTo_bd hfb
      have HR := hide (show valE s (.mk 15 num [a]) vars = quantS s.n 15 (cntTo (fun p => valE s a (vars ++ [(p : Int)])) s.n) from by rw [valE_one (by decide) (by decide)]; rfl)
      clear hfb hi1 hz hka ih
      generalize cntTo (fun p => valE s a (vars ++ [(p : Int)])) s.n = kk at HC HR hcb
      go_enter Tryd.func120, Tryd.ntmps120
      go_wp2_with fail
      rw [HW2.out]
      refine (HC.out _ hE0).mono ?_
      rintro e' w3 ⟨rfl, hE3⟩
      go_wp2_with fail
      go_ret
      exact ⟨ret_int HR.out.symm, hE0.trans hE3⟩
  · obtain ⟨a, a2, rfl⟩ : ∃ a a2, xs = [a, a2] := by
      match xs, hl with
      | [], hl => rw [ha] at hl; simp at hl
      | [_], hl => rw [ha] at hl; simp at hl
      | [a, b], _ => exact ⟨a, b, rfl⟩
      | _ :: _ :: _ :: _, hl => rw [ha] at hl; simp at hl; omega
    obtain ⟨hz, hka⟩ := hx a (by simp)
    obtain ⟨hz2, hka2⟩ := hx a2 (by simp)
    obtain rfl : nx = 2 := hnx.symm
    have hop := arity_two h0 h15 ha
    have hna : vars.length + a.nodes ≤ 500 ∧ vars.length + a2.nodes ≤ 500 := by simp only [Ex.nodes, Ex.nodesL] at hvl; omega
    have hq : ¬ isQ op = true := by simp only [isQ, Bool.or_eq_true, beq_iff_eq]; omega
    have hi1 : innerV op (vars.length : Int) = vars.length := by unfold innerV; rw [if_neg hq]
    rw [hi1] at hz hz2
    obtain ⟨b, o, rfl, hb, hat2⟩ := HAT.out (by simp)
    obtain ⟨q, d, hxc, hxa⟩ := hat2 0 (by simp)
    obtain ⟨q2, d2', hyc, hya⟩ := hat2 1 (by simp)
    rw [Nat.zero_mul, Nat.add_zero] at hxc
    rw [Nat.one_mul] at hyc
    simp only [List.getD_cons_zero, List.getD_cons_succ] at hxc hxa hyc hya
    have HC := hide (fun W (hW : Ext w W) => ih a (by simp) vars _ _ W (hxa.ext hW) (HU.out.ext hW) hvs (by omega) hz)
    have HC2 := hide (fun W (hW : Ext w W) => ih a2 (by simp) vars _ _ W (hya.ext hW) (HU.out.ext hW) hvs (by omega) hz2)
    have hbd := HBD.out a vars hvs hz
    have hbd2 := HBD.out a2 vars hvs hz2
    have hmul : op = 10 → 0 ≤ valE s a vars ∧ valE s a vars ≤ 1 ∧ 0 ≤ valE s a2 vars ∧ valE s a2 vars ≤ 1 := fun h10 => by
      have h1 := hbd.2 (by rw [hka, h10]; rfl)
      have h2 := hbd2.2 (by rw [hka2, h10]; rfl)
      exact ⟨h1.1, h1.2, h2.1, h2.2⟩
    have HMUL := hide hmul
    obtain ⟨hbd, -⟩ := hbd
    obtain ⟨hbd2, -⟩ := hbd2
    have HR := hide (valE_two (s := s) (op := op) (num := num) (a := a) (b := a2) (vars := vars))
    obtain ⟨x0, x1, x2⟩ := hxc
    have x0 := x0 _ hE0
    have x1 := x1 _ hE0
    have x2 := x2 _ hE0
    have hb2 : b < w2.heap.size := Nat.lt_of_lt_of_le hb hE0.size
    have HYC := hide hyc
    have HTW := hide (fun W (hW : Ext w W) h1 h2 h3 => rtwo_any s HOK.out op (valE s a vars) (valE s a2 vars) _ vars W hop.1 hop.2 h1 h2 h3 (HU.out.ext hW))
    have d0' : (op == 0) = false := by rw [beq_eq_false_iff_ne]; omega
    have d1' : (op == 1) = false := by rw [beq_eq_false_iff_ne]; omega
    have d13 : (op == 13) = false := by rw [beq_eq_false_iff_ne]; omega
    have d14 : (op == 14) = false := by rw [beq_eq_false_iff_ne]; omega
    have d15 : (op == 15) = false := by rw [beq_eq_false_iff_ne]; omega
    have d2'' : (op == 2) = false := by rw [beq_eq_false_iff_ne]; omega
    have d3' : (op == 3) = false := by rw [beq_eq_false_iff_ne]; omega
    have d12 : (op == 12) = false := by rw [beq_eq_false_iff_ne]; omega
    have hn1 : (a.nodes : Int) ≤ 500 := by omega
    have hn2 : (a2.nodes : Int) ≤ 500 := by omega
    have HT2 := hide (fun W hW => HTW.out W hW (by omega) (by omega) HMUL.out)
    clear hi1 hz hz2 hka hka2 ih hxa hya hat2 hx hnz hvl hvar hcon hl ha hq hmul HTW HMUL hyc
    generalize valE s a vars = av at HC HR hbd HT2
    generalize valE s a2 vars = bv at HC2 HR hbd2 HT2
    go_enter Tryd.func120, Tryd.ntmps120
    go_wp2_with fail
    rw [HW2.out]
    obtain ⟨c0, c1, c2, hz⟩ := HBX.out _ (Ext.refl _)
    obtain ⟨d0, d1, d2, d3, d4, d5, d6, d7, d8, hzs⟩ := HBS.out _ (Ext.refl _)
    refine wp_region_ext (by kernel_rfl) (by kernel_rfl) ?_
    repeat (go_big_quiet_step ((go_at_call 120; exact Calls.ext_of (HC.out _ (by simp [go_sem, hE0])))))
    refine wpQuiet_nil ?_
    rintro w3 ⟨⟨_, hE3⟩, rfl⟩
    clear x0 x1 x2 c0 c1 c2 hz d0 d1 d2 d3 d4 d5 d6 d7 d8 hzs
    obtain ⟨c0, c1, c2, hz⟩ := HBX.out _ hE3
    obtain ⟨d0, d1, d2, d3, d4, d5, d6, d7, d8, hzs⟩ := HBS.out _ hE3
    have hE03 := hE0.trans hE3
    obtain ⟨x0, x1, x2⟩ := HYC.out
    have x0 := x0 _ hE03
    have x1 := x1 _ hE03
    have x2 := x2 _ hE03
    have hb3 : b < w3.heap.size := Nat.lt_of_lt_of_le hb hE03.size
    go_wp2_with fail
    refine wp_region_ext (by kernel_rfl) (by kernel_rfl) ?_
    repeat (go_big_quiet_step ((first | (go_at_call 120; exact Calls.ext_of (HC2.out _ (by simp [go_sem, hE03]))) | (go_at_call 138; exact Calls.ext_of (HT2.out _ (by simp [go_sem, hE03]))))))
    refine wpQuiet_nil ?_
    rintro w4 ⟨⟨_, hE4⟩, rfl⟩
    go_wp2_with fail
    go_ret
    exact ⟨ret_int HR.out.symm, hE03.trans hE4⟩
end Go.Proofs.YthpccmmdkbjjhaaDoor
