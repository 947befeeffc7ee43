/-
  Complete, Silent (graph, roundtableref03), and Reverse of the reference.
  Conditions: none.
-/
import Derived.Test.YtfnhjalnbmnlaaaDoorGRefQ
namespace Go.Proofs.YtfnhjalnbmnlaaaDoor
open Go.RowKit
attribute [local go_sem] Oper.semAt_some

theorem sizedE_bad {n : Int} (h : n < 1 ∨ 5 < n) : sizedE n = 2 := if_pos h
theorem sizedE_ok {n : Int} (h : ¬ (n < 1 ∨ 5 < n)) : sizedE n = 0 := if_neg h
set_option maxHeartbeats 1000000 in
theorem sized_any (n : Int) (fid : Nat) (lb : Array Value) (f : Nat → Int) (w : World)
    (ef : ∀ args w, (callFunc fid args).run Tryd.prog w = .ok (.enter fid args) w)
    (hrow : ∀ (p : Nat) W, (p : Int) < n → n ≤ 5 → Ext w W → Calls Tryd.prog fid (#[.int .i64 p] ++ lb) W fun e W' => e = .returned (.int .i64 (f p)) ∧ Ext W W') :
    Calls Tryd.prog 77 #[.int .i64 n, .func (.func fid) #[] lb] w (RetG (withE (sizedE n) (mkG n.toNat f n.toNat)) w) := by
  have HG0 : Hid (GrBox (w.alloc gobj0) w.heap.size gz0) := gr_new w gz0
  by_cases h : n < 1 ∨ 5 < n
  · have HR : Hid (withE (sizedE n) (mkG n.toNat f n.toNat) = (gz0, 2)) := by show _ = _; rw [sizedE_bad h]; rfl
    rw [HR.out]
    clear hrow ef HR
    by_cases h1 : n < 1
    · go_enter Tryd.func77, Tryd.ntmps77
      go_wp2_with fail
      exact bodyPost_ret (v := .tuple #[gz0.v, .int .i64 2]) (results_gr2 rfl _ rfl rfl HG0.out) rfl ⟨rfl, (Ext.refl w).alloc _⟩
    · have h2 : 5 < n := by omega
      go_enter Tryd.func77, Tryd.ntmps77
      go_wp2_with fail
      exact bodyPost_ret (v := .tuple #[gz0.v, .int .i64 2]) (results_gr2 rfl _ rfl rfl HG0.out) rfl ⟨rfl, (Ext.refl w).alloc _⟩
  · have h1 : ¬ n < 1 := by omega
    have h2 : ¬ 5 < n := by omega
    obtain ⟨N, rfl⟩ := Int.eq_ofNat_of_zero_le (show 0 ≤ n by omega)
    have HR : Hid (withE (sizedE (N : Int)) (mkG (N : Int).toNat f (N : Int).toNat) = (mkG N f N, 0)) := by show _ = _; rw [sizedE_ok h]; rfl
    rw [HR.out]
    have HM := hide (made_any N (by omega) fid lb f (w.alloc gobj0) ef (fun p W hp hE => hrow p W (by omega) (by omega) (((Ext.refl w).alloc _).trans hE)))
    generalize hr : mkG N f N = r
    have HRR := hide hr
    clear hrow ef HR h hr
    go_enter Tryd.func77, Tryd.ntmps77
    go_wp2_with fail
    refine HM.out.mono ?_
    rintro e w2 ⟨rfl, hE⟩
    rw [HRR.out]
    have hg := HG0.out.ext hE
    have HE := hide (((Ext.refl w).alloc _).trans hE)
    obtain ⟨d0, d1, d2, d3, d4, d5, dz⟩ := hg.cells
    obtain ⟨f0, f1, f2, f3, f4, f5⟩ := hg.frozen
    have HG := hide hg
    clear hg hE
    go_wp2_with fail
    exact bodyPost_ret (v := .tuple #[r.v, .int .i64 0]) (results_gr2 rfl _ rfl rfl (HG.out.store r)) rfl ⟨rfl, HE.out.gstore (by omega) r⟩
theorem enters_s1 : ∀ args w, (callFunc 78 args).run Tryd.prog w = .ok (.enter 78 args) w := fun _ _ => by kernel_rfl
theorem pow_shl (p : Nat) (hp : p < 5) : wrap64 (2 ^ p) = ((2 ^ p : Nat) : Int) := by
  obtain rfl | rfl | rfl | rfl | rfl : p = 0 ∨ p = 1 ∨ p = 2 ∨ p = 3 ∨ p = 4 := by omega
  all_goals kernel_rfl
theorem silent1_any (p : Nat) (hp : p < 5) (w : World) : Calls Tryd.prog 78 #[.int .i64 p] w fun e w' => e = .returned (.int .i64 (2 ^ p : Nat)) ∧ Ext w w' := by
  have HS := hide (pow_shl p hp)
  go_enter Tryd.func78, Tryd.ntmps78
  go_wp2
  go_ret
  exact ⟨ret_int HS.out, Ext.refl _⟩
set_option maxHeartbeats 1000000 in
theorem silent_any (n : Int) (w : World) : Calls Tryd.prog 47 #[.int .i64 n] w (RetG (silentS n) w) := by
  have HS := hide (sized_any n 78 #[] (fun p => (2 ^ p : Nat)) (w.alloc gobj0) enters_s1 (fun p W hp h5 hE => by exact silent1_any p (by omega) W))
  have HR : Hid (withE (sizedE n) (mkG n.toNat (fun p => (2 ^ p : Nat)) n.toNat) = silentS n) := rfl
  rw [HR.out] at HS
  generalize silentS n = r at HS ⊢
  clear HR
  go_enter Tryd.func47, Tryd.ntmps47
  go_wp2_with fail
  refine HS.out.mono ?_
  rintro e w2 ⟨rfl, hE⟩
  have hg := (gr_new w gz0).ext hE
  have HE := hide (((Ext.refl w).alloc _).trans hE)
  obtain ⟨d0, d1, d2, d3, d4, d5, dz⟩ := hg.cells
  obtain ⟨f0, f1, f2, f3, f4, f5⟩ := hg.frozen
  have HG := hide hg
  clear hg hE
  go_wp2_with fail
  exact bodyPost_ret (v := .tuple #[r.1.v, .int .i64 r.2]) (results_gr2 rfl _ rfl rfl (HG.out.store r.1)) rfl ⟨rfl, HE.out.gstore (by omega) r.1⟩
/-- Room for a result, and a graph that is being made. -/
structure ResG (w W : World) (g : Gr) : Prop where
  ext : Ext w W
  c : ∃ g', GrBox W w.heap.size g'
  g : GrBox W (w.heap.size + 1) g
theorem ResG.mk_ (w : World) (n : Int) : ResG w ((w.alloc gobj0).alloc (gobj ⟨n, 0, 0, 0, 0, 0⟩)) ⟨n, 0, 0, 0, 0, 0⟩ :=
  ⟨((Ext.refl w).alloc _).alloc _, ⟨gz0, (gr_new w gz0).alloc _⟩, by
    have := gr_new (w.alloc gobj0) ⟨n, 0, 0, 0, 0, 0⟩
    rwa [World.size_alloc] at this⟩
theorem ResG.ext_ {w W V : World} {g : Gr} (h : ResG w W g) (hE : Ext W V) : ResG w V g := ⟨h.ext.trans hE, by obtain ⟨c, hc⟩ := h.c; exact ⟨c, hc.ext hE⟩, h.g.ext hE⟩
theorem ResG.set {w W : World} {g : Gr} (h : ResG w W g) {p : Nat} (hp : p < 5) (x : Int) : ResG w (W.setCell ⟨w.heap.size + 1, 1 + p, none⟩ (.int .i64 x)) (g.set p x) := by
  refine ⟨h.ext.setCell (by show w.heap.size ≤ w.heap.size + 1; omega) _, ?_, h.g.set hp x⟩
  obtain ⟨c, hc⟩ := h.c
  exact ⟨c, (Below.heap_setCell _ _ _ _ (by show w.heap.size ≠ w.heap.size + 1; omega)).trans hc⟩
set_option maxRecDepth 16000 in
set_option maxHeartbeats 1000000 in
theorem rsilent_any (n : Int) (w : World) : Calls Tryd.prog 79 #[.int .i64 n] w (RetG (silentS n) w) := by
  by_cases h : n < 1 ∨ 5 < n
  · have HG0 : Hid (GrBox (w.alloc gobj0) w.heap.size gz0) := gr_new w gz0
    have HR : Hid (silentS n = (gz0, 2)) := by show _ = _; unfold silentS; rw [sizedE_bad h]; rfl
    rw [HR.out]
    clear HR
    by_cases h1 : n < 1
    · go_enter Tryd.func79, Tryd.ntmps79
      go_wp2_with fail
      exact bodyPost_ret (v := .tuple #[gz0.v, .int .i64 2]) (results_gr2 rfl _ rfl rfl HG0.out) rfl ⟨rfl, (Ext.refl w).alloc _⟩
    · have h2 : 5 < n := by omega
      go_enter Tryd.func79, Tryd.ntmps79
      go_wp2_with fail
      exact bodyPost_ret (v := .tuple #[gz0.v, .int .i64 2]) (results_gr2 rfl _ rfl rfl HG0.out) rfl ⟨rfl, (Ext.refl w).alloc _⟩
  · have h1 : ¬ n < 1 := by omega
    have h2 : ¬ 5 < n := by omega
    obtain ⟨N, rfl⟩ := Int.eq_ofNat_of_zero_le (show 0 ≤ n by omega)
    have hr : silentS (N : Int) = (mkG N (fun p => (2 ^ p : Nat)) N, 0) := by unfold silentS; rw [sizedE_ok h]; rfl
    rw [hr]
    have HMS := hide (fun p hp => mkG_succ N (fun p => (2 ^ p : Nat)) p hp)
    have HM0 := hide (mkG_zero N (fun p => (2 ^ p : Nat)))
    generalize hm : mkG N (fun p => (2 ^ p : Nat)) = mk at HMS HM0
    clear h hr hm
    obtain ⟨r, hrr⟩ : ∃ r, r = mk N := ⟨_, rfl⟩
    have HRR := hide hrr
    rw [← hrr]
    clear hrr
    go_enter Tryd.func79, Tryd.ntmps79
    go_wp2_with fail
    have HT := hide (ResG.mk_ w N)
    generalize (w.alloc gobj0).alloc (gobj ⟨(N : Int), 0, 0, 0, 0, 0⟩) = W at HT ⊢
    rw [← HM0.out] at HT
    go_loopw [5] (fun x wr => ∃ p : Nat, p ≤ N ∧ x = .int .i64 p ∧ Hid (ResG w wr (mk p))) (fun x _ => N - (intOf x).toNat)
    case atStart => exact ⟨0, by omega, rfl, HT⟩
    case round =>
      clear HT
      obtain ⟨p, hp, rfl, HT⟩ := hrel
      by_cases hlt : p < N
      · have hp5 : (p : Int) < 5 := by omega
        obtain ⟨rg, fg⟩ := HT.out.g.row (p := p) (by omega)
        have hz := lt_of_heap HT.out.g
        have HNEW := hide (HT.out.set (p := p) (by omega) (2 ^ p : Nat))
        rw [HMS.out p (by omega)] at HNEW
        have hs := pow_shl p (by omega)
        go_wp2_with fail
        go_roundw
        case rel => exact ⟨p + 1, by omega, by go_num, HNEW⟩
        case measure => simp [intOf]; omega
      · obtain rfl : p = N := by omega
        rw [← HRR.out] at HT
        obtain ⟨a0, a1, a2, a3, a4, a5, az⟩ := HT.out.g.cells
        obtain ⟨g, hg⟩ := HT.out.c
        obtain ⟨d0, d1, d2, d3, d4, d5, dz⟩ := hg.cells
        obtain ⟨f0, f1, f2, f3, f4, f5⟩ := hg.frozen
        have HG := hide hg
        clear hg
        go_wp2_with fail
        exact bodyPost_ret (v := .tuple #[r.v, .int .i64 0]) (results_gr2 rfl _ rfl rfl (HG.out.store r)) rfl ⟨rfl, HT.out.ext.gstore (by omega) r⟩
/-- A box of a graph, room for a result, and a graph that is being made in block gb. -/
structure OneG (w W : World) (a : Gr) (gb : Nat) (g : Gr) : Prop extends One1 w W a where
  g : GrBox W gb g
  lt : w.heap.size + 1 < gb
theorem OneG.ext_ {w W V : World} {a g : Gr} {gb : Nat} (h : OneG w W a gb g) (hE : Ext W V) : OneG w V a gb g := ⟨h.toOne1.ext_ hE, h.g.ext hE, h.lt⟩
theorem OneG.set {w W : World} {a g : Gr} {gb : Nat} (h : OneG w W a gb g) {p : Nat} (hp : p < 5) (x : Int) : OneG w (W.setCell ⟨gb, 1 + p, none⟩ (.int .i64 x)) a gb (g.set p x) := by
  have hl := h.lt
  refine ⟨⟨h.ext.setCell (by show w.heap.size ≤ gb; omega) _, (Below.heap_setCell _ _ _ _ (by show w.heap.size ≠ gb; omega)).trans h.a, ?_⟩, h.g.set hp x, hl⟩
  obtain ⟨c, hc⟩ := h.c
  exact ⟨c, (Below.heap_setCell _ _ _ _ (by show w.heap.size + 1 ≠ gb; omega)).trans hc⟩
theorem One1.make {w W : World} {a : Gr} (h : One1 w W a) (n : Int) : OneG w (W.alloc (gobj ⟨n, 0, 0, 0, 0, 0⟩)) a W.heap.size ⟨n, 0, 0, 0, 0, 0⟩ :=
  ⟨h.ext_ ((Ext.refl W).alloc _), gr_new W ⟨n, 0, 0, 0, 0, 0⟩, by obtain ⟨c, hc⟩ := h.c; exact lt_of_heap hc⟩
end Go.Proofs.YtfnhjalnbmnlaaaDoor
