/-
  Roots of the reference, Inside, Edges, Nonsplit (graph, roundtableref03).
  Conditions: the table of math/bits lies in the heap (Tz), where products are made.
-/
import Derived.Test.YtpcboonjalbihaaDoorGMeasP
namespace Go.Proofs.YtpcboonjalbihaaDoor
open Go.RowKit
attribute [local go_sem] Oper.semAt_some

set_option maxRecDepth 16000 in
set_option maxHeartbeats 1000000 in
theorem rroots_ok (g : Gr) {n : Nat} (hg : Wf g n) (w : World) : Calls Tryd.prog 42 #[g.v] w (RetV1 (.int .i64 ((rootsG g : Nat) : Int), 0) w) := by
  have HC := hide (fun W => rgcheck_any g W)
  rw [wf_chk hg] at HC
  have HP := hide (fun k W => rproduct_any (pwG g k) g (pw_wf hg k) hg W)
  have HK := hide (fun k W => rcommon_in (pwG g k) (pw_wf hg k) W)
  have HR := hide (show kerG (pwG g n) = rootsG g from by unfold rootsG; rw [hg.toNat])
  have HP1 := hide (fun k => show compG (pwG g k) g = pwG g (k + 1) from rfl)
  have HP0 := hide (show pwG g 0 = g from rfl)
  have HN := hide hg.n_eq
  have hn5 := hg.n5
  simp only [HP1.out] at HP
  generalize pwG g = pw at HP HK HR HP0
  clear HP1 hg
  go_enter Tryd.func42, Tryd.ntmps42
  go_wp2_with fail
  have HB : Hid (GrBox (w.alloc (gobj g)) w.heap.size g) := gr_new w g
  have HE : Hid (Ext w (w.alloc (gobj g))) := (Ext.refl w).alloc _
  generalize w.alloc (gobj g) = W at HB HE ⊢
  refine (HC.out _).mono ?_
  rintro r w1 ⟨rfl, hE⟩
  have HB := hide (HB.out.ext hE)
  have HE := hide (HE.out.trans hE)
  clear hE
  obtain ⟨c0, c1, c2, c3, c4, c5, z0⟩ := HB.out.cells
  go_wp2_with fail
  clear c0 c1 c2 c3 c4 c5 z0
  have HZ := hide (lt_of_heap HB.out)
  have HB5 : Hid (GrBox (w1.alloc (gobj g)) w1.heap.size (pw 0)) := by show GrBox _ _ _; rw [HP0.out]; exact gr_new w1 g
  have HB := hide (HB.out.alloc (gobj g))
  have HE := hide (HE.out.alloc (gobj g))
  generalize w1.alloc (gobj g) = w2 at HB HB5 HE ⊢
  generalize w1.heap.size = b5 at *
  go_loopw [6] (fun x V => ∃ k : Nat, k ≤ n ∧ x = .int .i64 k ∧ Hid (GrBox V w.heap.size g) ∧ Hid (GrBox V b5 (pw k)) ∧ Hid (Ext w V)) (fun x _ => n - (intOf x).toNat)
  case atStart => exact ⟨0, by omega, rfl, HB, HB5, HE⟩
  case round =>
    clear HB HB5 HE
    obtain ⟨k, hk, rfl, HB, HB5, HE⟩ := hrel
    obtain ⟨e0, e1, e2, e3, e4, e5, z2⟩ := HB.out.cells
    obtain ⟨c0, c1, c2, c3, c4, c5, z0⟩ := HB5.out.cells
    by_cases hlt : k < n
    · have hd : decide ((k : Int) < g.n) = true := by rw [HN.out]; simp; omega
      have hgn : (k : Int) < g.n := by rw [HN.out]; omega
      go_wp2_with fail
      clear e0 e1 e2 e3 e4 e5 z2 c0 c1 c2 c3 c4 c5 z0 hd hgn
      refine (HP.out k _).mono ?_
      rintro r V4 ⟨rfl, hE⟩
      have HB := hide (HB.out.ext hE)
      have HB5 := hide (HB5.out.ext hE)
      have HE := hide (HE.out.trans hE)
      clear hE
      obtain ⟨d0, d1, d2, d3, d4, d5, z1⟩ := HB5.out.cells
      obtain ⟨f0, f1, f2, f3, f4, f5⟩ := HB5.out.frozen
      go_wp2_with fail
      clear d0 d1 d2 d3 d4 d5 z1 f0 f1 f2 f3 f4 f5
      have hz5 := HZ.out
      go_roundw
      case rel => exact ⟨k + 1, by omega, by go_num, HB.out.gstore_other (by omega), HB5.out.store _, HE.out.gstore (by omega) _⟩
      case measure => simp [intOf]; omega
    · obtain rfl : k = n := by omega
      have hd : decide ((k : Int) < g.n) = false := by rw [HN.out]; simp
      have hgn : ¬ (k : Int) < g.n := by rw [HN.out]; omega
      go_wp2_with fail
      refine (HK.out k _).mono ?_
      rintro r w9 ⟨rfl, hE⟩
      have HE := hide (HE.out.trans hE)
      clear hE c0 c1 c2 c3 c4 c5 z0 e0 e1 e2 e3 e4 e5 z2 hd hgn
      go_wp2_with fail
      go_ret2
      exact ⟨by rw [HR.out]; rfl, HE.out⟩
set_option maxHeartbeats 1000000 in
theorem roots_any (g : Gr) (w : World) (hT : Tz w) : Calls Tryd.prog 34 #[g.v] w (RetV1 (.int .i64 (rootsS g).1, (rootsS g).2) w) := by
  by_cases h0 : gchk g = 0
  · obtain ⟨n, hg⟩ := wf_of h0
    have hs : rootsS g = (((rootsG g : Nat) : Int), 0) := by unfold rootsS; rw [if_neg (by simp [h0])]
    rw [hs]
    exact roots_ok g hg w hT
  have HB := hide (fun W => gcheck_any g W)
  have HR := hide (show rootsS g = (0, gchk g) from if_pos h0)
  generalize rootsS g = res at HR ⊢
  generalize gchk g = e at HB HR h0
  have hd : (e != 0) = true := by simp [h0]
  clear h0
  go_enter Tryd.func34, Tryd.ntmps34
  go_wp2_with fail
  refine (HB.out _).mono ?_
  rintro r w1 ⟨rfl, hE⟩
  have HE := hide (((Ext.refl w).alloc _).trans hE)
  clear hE
  go_wp2_with fail
  go_ret2
  exact ⟨by rw [HR.out]; rfl, HE.out⟩
set_option maxHeartbeats 1000000 in
theorem rroots_any (g : Gr) (w : World) : Calls Tryd.prog 42 #[g.v] w (RetV1 (.int .i64 (rootsS g).1, (rootsS g).2) w) := by
  by_cases h0 : gchk g = 0
  · obtain ⟨n, hg⟩ := wf_of h0
    have hs : rootsS g = (((rootsG g : Nat) : Int), 0) := by unfold rootsS; rw [if_neg (by simp [h0])]
    rw [hs]
    exact rroots_ok g hg w
  have HB := hide (fun W => rgcheck_any g W)
  have HR := hide (show rootsS g = (0, gchk g) from if_pos h0)
  generalize rootsS g = res at HR ⊢
  generalize gchk g = e at HB HR h0
  have hd : (e != 0) = true := by simp [h0]
  clear h0
  go_enter Tryd.func42, Tryd.ntmps42
  go_wp2_with fail
  refine (HB.out _).mono ?_
  rintro r w1 ⟨rfl, hE⟩
  have HE := hide (((Ext.refl w).alloc _).trans hE)
  clear hE
  go_wp2_with fail
  go_ret2
  exact ⟨by rw [HR.out]; rfl, HE.out⟩
set_option maxRecDepth 16000 in
set_option maxHeartbeats 1000000 in
theorem nonsplit_ok (g : Gr) {n : Nat} (hg : Wf g n) (w : World) : Calls Tryd.prog 36 #[g.v] w (RetV1 (.bool (nsG g), 0) w) := by
  have HC := hide (fun W => gcheck_any g W)
  rw [wf_chk hg] at HC
  have HNO := hide (fun p q hp hq hz => nsG_no (p := p) (q := q) hg hp hq hz)
  have HEND := hide (nsG_end hg)
  have HN := hide hg.n_eq
  have HG := hide hg
  have hn5 := hg.n5
  generalize nsG g = res at HNO HEND ⊢
  clear hg
  go_enter Tryd.func36, Tryd.ntmps36
  go_wp2_with fail
  have HB : Hid (GrBox (w.alloc (gobj g)) w.heap.size g) := gr_new w g
  have HE : Hid (Ext w (w.alloc (gobj g))) := (Ext.refl w).alloc _
  generalize w.alloc (gobj g) = W at HB HE ⊢
  refine (HC.out _).mono ?_
  rintro r w1 ⟨rfl, hE⟩
  have HB := hide (HB.out.ext hE)
  have HE := hide (HE.out.trans hE)
  clear hE
  obtain ⟨c0, -, -, -, -, -, z0⟩ := HB.out.cells
  rw [HN.out] at c0
  go_wp2_with fail
  clear c0 z0
  go_loopw [14] (fun x V => ∃ p : Nat, p ≤ n ∧ x = .int .i64 p ∧ Hid (GrBox V w.heap.size g) ∧ Hid (Ext w V) ∧ Hid (∀ i, i < p → ∀ q, q < i → g.r i &&& g.r q ≠ 0)) (fun x _ => n - (intOf x).toNat)
  case atStart => exact ⟨0, by omega, rfl, HB, HE, fun i hi => by omega⟩
  case round =>
    clear HB HE
    obtain ⟨p, hp, rfl, HB, HE, HJ⟩ := hrel
    obtain ⟨c0, -, -, -, -, -, z0⟩ := HB.out.cells
    rw [HN.out] at c0
    by_cases hlt : p < n
    · go_wp2_with fail
      clear c0 z0
      obtain ⟨wo, rfl⟩ : ∃ wo : World, wo = wr := ⟨_, rfl⟩
      go_loopw [18] (fun x V => ∃ q : Nat, q ≤ p ∧ x = .int .i64 q ∧ Hid (GrBox V w.heap.size g) ∧ Hid (Ext w V) ∧ Hid (∀ j, j < q → g.r p &&& g.r j ≠ 0)) (fun x _ => p - (intOf x).toNat)
      case atStart => exact ⟨0, by omega, rfl, HB, HE, fun j hj => by omega⟩
      case round =>
        clear HB HE
        obtain ⟨q, hq, rfl, HB, HE, HJ2⟩ := hrel
        by_cases hqt : q < p
        · have hp5 : (p : Int) < 5 := by omega
          have hq5 : (q : Int) < 5 := by omega
          obtain ⟨r1, -⟩ := HB.out.row (p := p) (by omega)
          rw [HG.out.row] at r1
          obtain ⟨r2, -⟩ := HB.out.row (p := q) (by omega)
          rw [HG.out.row] at r2
          have z0 := lt_of_heap HB.out
          have hand := i64_and_nat (g.r p) (g.r q) (by have := HG.out.lt32 p; omega) (by have := HG.out.lt32 q; omega)
          by_cases hz : g.r p &&& g.r q = 0
          · have HR := hide (HNO.out p q hlt hqt hz)
            rw [hz] at hand
            clear hz
            go_wp2_with fail
            refine wp_region_ext (by kernel_rfl) (by kernel_rfl) ?_
            repeat (go_big_quiet_step (fail))
            refine wpQuiet_nil ?_
            rintro w9 ⟨⟨_, hE9⟩, rfl⟩
            have HE := hide (HE.out.trans hE9)
            clear hE9 r1 r2 z0
            go_wp2_with fail
            go_ret2
            exact ⟨by rw [HR.out]; rfl, HE.out⟩
          · have HJ3 : Hid (∀ j, j < q + 1 → g.r p &&& g.r j ≠ 0) := fun j hj => by
              by_cases e : j = q
              · subst e; exact hz
              · exact HJ2.out j (by omega)
            have hd : (((g.r p &&& g.r q : Nat) : Int) == 0) = false := by rw [beq_eq_false_iff_ne]; omega
            clear hz
            generalize g.r p &&& g.r q = y at hand hd
            go_wp2_with fail
            refine wp_region_ext (by kernel_rfl) (by kernel_rfl) ?_
            repeat (go_big_quiet_step (fail))
            refine wpQuiet_nil ?_
            rintro w9 ⟨⟨_, hE9⟩, rfl⟩
            have HB := hide (HB.out.ext hE9)
            have HE := hide (HE.out.trans hE9)
            clear hE9 r1 r2 z0 hand
            go_wp2_with fail
            go_roundw
            case rel => exact ⟨q + 1, by omega, by go_num, HB, HE, HJ3⟩
            case measure => simp [intOf]; omega
        · obtain rfl : q = p := by omega
          have HJ3 : Hid (∀ i, i < q + 1 → ∀ j, j < i → g.r i &&& g.r j ≠ 0) := fun i hi j hj => by
            by_cases e : i = q
            · subst e; exact HJ2.out j hj
            · exact HJ.out i (by omega) j hj
          go_wp2_with fail
          go_roundw
          case rel => exact ⟨q + 1, by omega, by go_num, HB, HE, HJ3⟩
          case measure => simp [intOf]; omega
    · obtain rfl : p = n := by omega
      have HR := hide (HEND.out HJ.out)
      go_wp2_with fail
      go_ret2
      exact ⟨by rw [HR.out]; rfl, HE.out⟩
set_option maxRecDepth 16000 in
set_option maxHeartbeats 1000000 in
theorem rnonsplit_ok (g : Gr) {n : Nat} (hg : Wf g n) (w : World) : Calls Tryd.prog 43 #[g.v] w (RetV1 (.bool (nsG g), 0) w) := by
  have HC := hide (fun W => rgcheck_any g W)
  rw [wf_chk hg] at HC
  have HNO := hide (fun p q hp hq hz => nsG_no (p := p) (q := q) hg hp hq hz)
  have HEND := hide (nsG_end hg)
  have HN := hide hg.n_eq
  have HG := hide hg
  have hn5 := hg.n5
  generalize nsG g = res at HNO HEND ⊢
  clear hg
  go_enter Tryd.func43, Tryd.ntmps43
  go_wp2_with fail
  have HB : Hid (GrBox (w.alloc (gobj g)) w.heap.size g) := gr_new w g
  have HE : Hid (Ext w (w.alloc (gobj g))) := (Ext.refl w).alloc _
  generalize w.alloc (gobj g) = W at HB HE ⊢
  refine (HC.out _).mono ?_
  rintro r w1 ⟨rfl, hE⟩
  have HB := hide (HB.out.ext hE)
  have HE := hide (HE.out.trans hE)
  clear hE
  obtain ⟨c0, -, -, -, -, -, z0⟩ := HB.out.cells
  rw [HN.out] at c0
  go_wp2_with fail
  clear c0 z0
  go_loopw [5] (fun x V => ∃ p : Nat, p ≤ n ∧ x = .int .i64 p ∧ Hid (GrBox V w.heap.size g) ∧ Hid (Ext w V) ∧ Hid (∀ i, i < p → ∀ q, q < i → g.r i &&& g.r q ≠ 0)) (fun x _ => n - (intOf x).toNat)
  case atStart => exact ⟨0, by omega, rfl, HB, HE, fun i hi => by omega⟩
  case round =>
    clear HB HE
    obtain ⟨p, hp, rfl, HB, HE, HJ⟩ := hrel
    obtain ⟨c0, -, -, -, -, -, z0⟩ := HB.out.cells
    rw [HN.out] at c0
    by_cases hlt : p < n
    · go_wp2_with fail
      clear c0 z0
      obtain ⟨wo, rfl⟩ : ∃ wo : World, wo = wr := ⟨_, rfl⟩
      go_loopw [6] (fun x V => ∃ q : Nat, q ≤ p ∧ x = .int .i64 q ∧ Hid (GrBox V w.heap.size g) ∧ Hid (Ext w V) ∧ Hid (∀ j, j < q → g.r p &&& g.r j ≠ 0)) (fun x _ => p - (intOf x).toNat)
      case atStart => exact ⟨0, by omega, rfl, HB, HE, fun j hj => by omega⟩
      case round =>
        clear HB HE
        obtain ⟨q, hq, rfl, HB, HE, HJ2⟩ := hrel
        by_cases hqt : q < p
        · have hp5 : (p : Int) < 5 := by omega
          have hq5 : (q : Int) < 5 := by omega
          obtain ⟨r1, -⟩ := HB.out.row (p := p) (by omega)
          rw [HG.out.row] at r1
          obtain ⟨r2, -⟩ := HB.out.row (p := q) (by omega)
          rw [HG.out.row] at r2
          have z0 := lt_of_heap HB.out
          have hand := i64_and_nat (g.r p) (g.r q) (by have := HG.out.lt32 p; omega) (by have := HG.out.lt32 q; omega)
          by_cases hz : g.r p &&& g.r q = 0
          · have HR := hide (HNO.out p q hlt hqt hz)
            rw [hz] at hand
            clear hz
            go_wp2_with fail
            refine wp_region_ext (by kernel_rfl) (by kernel_rfl) ?_
            repeat (go_big_quiet_step (fail))
            refine wpQuiet_nil ?_
            rintro w9 ⟨⟨_, hE9⟩, rfl⟩
            have HE := hide (HE.out.trans hE9)
            clear hE9 r1 r2 z0
            go_wp2_with fail
            go_ret2
            exact ⟨by rw [HR.out]; rfl, HE.out⟩
          · have HJ3 : Hid (∀ j, j < q + 1 → g.r p &&& g.r j ≠ 0) := fun j hj => by
              by_cases e : j = q
              · subst e; exact hz
              · exact HJ2.out j (by omega)
            have hd : (((g.r p &&& g.r q : Nat) : Int) == 0) = false := by rw [beq_eq_false_iff_ne]; omega
            clear hz
            generalize g.r p &&& g.r q = y at hand hd
            go_wp2_with fail
            refine wp_region_ext (by kernel_rfl) (by kernel_rfl) ?_
            repeat (go_big_quiet_step (fail))
            refine wpQuiet_nil ?_
            rintro w9 ⟨⟨_, hE9⟩, rfl⟩
            have HB := hide (HB.out.ext hE9)
            have HE := hide (HE.out.trans hE9)
            clear hE9 r1 r2 z0 hand
            go_wp2_with fail
            go_roundw
            case rel => exact ⟨q + 1, by omega, by go_num, HB, HE, HJ3⟩
            case measure => simp [intOf]; omega
        · obtain rfl : q = p := by omega
          have HJ3 : Hid (∀ i, i < q + 1 → ∀ j, j < i → g.r i &&& g.r j ≠ 0) := fun i hi j hj => by
            by_cases e : i = q
            · subst e; exact HJ2.out j hj
            · exact HJ.out i (by omega) j hj
          go_wp2_with fail
          go_roundw
          case rel => exact ⟨q + 1, by omega, by go_num, HB, HE, HJ3⟩
          case measure => simp [intOf]; omega
    · obtain rfl : p = n := by omega
      have HR := hide (HEND.out HJ.out)
      go_wp2_with fail
      go_ret2
      exact ⟨by rw [HR.out]; rfl, HE.out⟩
set_option maxHeartbeats 1000000 in
theorem nonsplit_any (g : Gr) (w : World) : Calls Tryd.prog 36 #[g.v] w (RetV1 (.bool (nonsplitS g).1, (nonsplitS g).2) w) := by
  by_cases h0 : gchk g = 0
  · obtain ⟨n, hg⟩ := wf_of h0
    have hs : nonsplitS g = (nsG g, 0) := by unfold nonsplitS; rw [if_neg (by simp [h0])]
    rw [hs]
    exact nonsplit_ok g hg w
  have HB := hide (fun W => gcheck_any g W)
  have HR := hide (show nonsplitS g = (false, gchk g) from if_pos h0)
  generalize nonsplitS g = res at HR ⊢
  generalize gchk g = e at HB HR h0
  have hd : (e != 0) = true := by simp [h0]
  clear h0
  go_enter Tryd.func36, Tryd.ntmps36
  go_wp2_with fail
  refine (HB.out _).mono ?_
  rintro r w1 ⟨rfl, hE⟩
  have HE := hide (((Ext.refl w).alloc _).trans hE)
  clear hE
  go_wp2_with fail
  go_ret2
  exact ⟨by rw [HR.out]; rfl, HE.out⟩
set_option maxHeartbeats 1000000 in
theorem rnonsplit_any (g : Gr) (w : World) : Calls Tryd.prog 43 #[g.v] w (RetV1 (.bool (nonsplitS g).1, (nonsplitS g).2) w) := by
  by_cases h0 : gchk g = 0
  · obtain ⟨n, hg⟩ := wf_of h0
    have hs : nonsplitS g = (nsG g, 0) := by unfold nonsplitS; rw [if_neg (by simp [h0])]
    rw [hs]
    exact rnonsplit_ok g hg w
  have HB := hide (fun W => rgcheck_any g W)
  have HR := hide (show nonsplitS g = (false, gchk g) from if_pos h0)
  generalize nonsplitS g = res at HR ⊢
  generalize gchk g = e at HB HR h0
  have hd : (e != 0) = true := by simp [h0]
  clear h0
  go_enter Tryd.func43, Tryd.ntmps43
  go_wp2_with fail
  refine (HB.out _).mono ?_
  rintro r w1 ⟨rfl, hE⟩
  have HE := hide (((Ext.refl w).alloc _).trans hE)
  clear hE
  go_wp2_with fail
  go_ret2
  exact ⟨by rw [HR.out]; rfl, HE.out⟩
end Go.Proofs.YtpcboonjalbihaaDoor
