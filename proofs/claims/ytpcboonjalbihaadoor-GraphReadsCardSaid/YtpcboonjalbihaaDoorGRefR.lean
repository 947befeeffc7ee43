/-
  Complete, Silent (graph, roundtableref03), and Reverse of the reference.
  Conditions: none.
-/
import Derived.Test.YtpcboonjalbihaaDoorGRefQ
namespace Go.Proofs.YtpcboonjalbihaaDoor
open Go.RowKit
attribute [local go_sem] Oper.semAt_some

theorem sizedE_bad {n : Int} (h : n < 1 ∨ 5 < n) : sizedE n = 2 := if_pos h
theorem sizedE_ok {n : Int} (h : ¬ (n < 1 ∨ 5 < n)) : sizedE n = 0 := if_neg h
set_option maxHeartbeats 1000000 in
theorem sized_any (n : Int) (fid : Nat) (lb : Array Value) (f : Nat → Int) (w : World)
    (ef : ∀ args w, (callFunc fid args).run Tryd.prog w = .ok (.enter fid args) w)
    (hrow : ∀ (p : Nat) W, (p : Int) < n → n ≤ 5 → Ext w W → Calls Tryd.prog fid (#[.int .i64 p] ++ lb) W fun e W' => e = .returned (.int .i64 (f p)) ∧ Ext W W') :
    Calls Tryd.prog 64 #[.int .i64 n, .func (.func fid) #[] lb] w (RetG (withE (sizedE n) (mkG n.toNat f n.toNat)) w) := by
  have HG0 : Hid (GrBox (w.alloc gobj0) w.heap.size gz0) := gr_new w gz0
  by_cases h : n < 1 ∨ 5 < n
  · have HR : Hid (withE (sizedE n) (mkG n.toNat f n.toNat) = (gz0, 2)) := by show _ = _; rw [sizedE_bad h]; rfl
    rw [HR.out]
    clear hrow ef HR
    by_cases h1 : n < 1
    · go_enter Tryd.func64, Tryd.ntmps64
      go_wp2_with fail
      exact bodyPost_ret (v := .tuple #[gz0.v, .int .i64 2]) (results_gr2 rfl _ rfl rfl HG0.out) rfl ⟨rfl, (Ext.refl w).alloc _⟩
    · have h2 : 5 < n := by omega
      go_enter Tryd.func64, Tryd.ntmps64
      go_wp2_with fail
      exact bodyPost_ret (v := .tuple #[gz0.v, .int .i64 2]) (results_gr2 rfl _ rfl rfl HG0.out) rfl ⟨rfl, (Ext.refl w).alloc _⟩
  · have h1 : ¬ n < 1 := by omega
    have h2 : ¬ 5 < n := by omega
    obtain ⟨N, rfl⟩ := Int.eq_ofNat_of_zero_le (show 0 ≤ n by omega)
    have HR : Hid (withE (sizedE (N : Int)) (mkG (N : Int).toNat f (N : Int).toNat) = (mkG N f N, 0)) := by show _ = _; rw [sizedE_ok h]; rfl
    rw [HR.out]
    have HM := hide (made_any N (by omega) fid lb f (w.alloc gobj0) ef (fun p W hp hE => hrow p W (by omega) (by omega) (((Ext.refl w).alloc _).trans hE)))
    generalize hr : mkG N f N = r
    have HRR := hide hr
    clear hrow ef HR h hr
    go_enter Tryd.func64, Tryd.ntmps64
    go_wp2_with fail
    refine HM.out.mono ?_
    rintro e w2 ⟨rfl, hE⟩
    rw [HRR.out]
    have hg := HG0.out.ext hE
    have HE := hide (((Ext.refl w).alloc _).trans hE)
    obtain ⟨d0, d1, d2, d3, d4, d5, dz⟩ := hg.cells
    obtain ⟨f0, f1, f2, f3, f4, f5⟩ := hg.frozen
    have HG := hide hg
    clear hg hE
    go_wp2_with fail
    exact bodyPost_ret (v := .tuple #[r.v, .int .i64 0]) (results_gr2 rfl _ rfl rfl (HG.out.store r)) rfl ⟨rfl, HE.out.gstore (by omega) r⟩
theorem enters_s1 : ∀ args w, (callFunc 65 args).run Tryd.prog w = .ok (.enter 65 args) w := fun _ _ => by kernel_rfl
theorem enters_c1 : ∀ args w, (callFunc 74 args).run Tryd.prog w = .ok (.enter 74 args) w := fun _ _ => by kernel_rfl
theorem pow_shl (p : Nat) (hp : p < 5) : wrap64 (2 ^ p) = ((2 ^ p : Nat) : Int) := by
  obtain rfl | rfl | rfl | rfl | rfl : p = 0 ∨ p = 1 ∨ p = 2 ∨ p = 3 ∨ p = 4 := by omega
  all_goals kernel_rfl
theorem silent1_any (p : Nat) (hp : p < 5) (w : World) : Calls Tryd.prog 65 #[.int .i64 p] w fun e w' => e = .returned (.int .i64 (2 ^ p : Nat)) ∧ Ext w w' := by
  have HS := hide (pow_shl p hp)
  go_enter Tryd.func65, Tryd.ntmps65
  go_wp2
  go_ret
  exact ⟨ret_int HS.out, Ext.refl _⟩
theorem complete1_any (n : Nat) (hn : n ≤ 5) (p : Int) (b : Nat) (w : World) (hb : Box w b 3 (.int .i64 n)) : Calls Tryd.prog 74 #[.int .i64 p, .pointer (some ⟨b, 0, none⟩)] w fun e w' => e = .returned (.int .i64 (2 ^ n - 1 : Nat)) ∧ Ext w w' := by
  have hc := hb.cell
  have hz := hb.lt
  have HF := hide (full_any (n : Int) w (by omega) (by omega))
  have he : ((2 : Int) ^ ((n : Int)).toNat - 1) = ((2 ^ n - 1 : Nat) : Int) := by
    have := Nat.two_pow_pos n
    rw [Int.toNat_natCast, Int.natCast_sub (by omega)]; simp
  rw [he] at HF
  clear hb he
  go_enter Tryd.func74, Tryd.ntmps74
  go_wp2_with (go_at_call 75; refine HF.out.mono ?_; rintro e w' ⟨rfl, rfl⟩)
  go_ret
  exact ⟨rfl, Ext.refl _⟩
set_option maxHeartbeats 1000000 in
theorem silent_any (n : Int) (w : World) : Calls Tryd.prog 25 #[.int .i64 n] w (RetG (silentS n) w) := by
  have HS := hide (sized_any n 65 #[] (fun p => (2 ^ p : Nat)) (w.alloc gobj0) enters_s1 (fun p W hp h5 hE => by exact silent1_any p (by omega) W))
  have HR : Hid (withE (sizedE n) (mkG n.toNat (fun p => (2 ^ p : Nat)) n.toNat) = silentS n) := rfl
  rw [HR.out] at HS
  generalize silentS n = r at HS ⊢
  clear HR
  go_enter Tryd.func25, Tryd.ntmps25
  go_wp2_with fail
  refine HS.out.mono ?_
  rintro e w2 ⟨rfl, hE⟩
  have hg := (gr_new w gz0).ext hE
  have HE := hide (((Ext.refl w).alloc _).trans hE)
  obtain ⟨d0, d1, d2, d3, d4, d5, dz⟩ := hg.cells
  obtain ⟨f0, f1, f2, f3, f4, f5⟩ := hg.frozen
  have HG := hide hg
  clear hg hE
  go_wp2_with fail
  exact bodyPost_ret (v := .tuple #[r.1.v, .int .i64 r.2]) (results_gr2 rfl _ rfl rfl (HG.out.store r.1)) rfl ⟨rfl, HE.out.gstore (by omega) r.1⟩
set_option maxHeartbeats 1000000 in
theorem complete_any (n : Int) (w : World) : Calls Tryd.prog 44 #[.int .i64 n] w (RetG (completeS n) w) := by
  have HBX : Hid (Box ((w.alloc (.cells #[.int .i64 n] 3)).alloc gobj0) w.heap.size 3 (.int .i64 n)) := (Box.new w _ _).alloc _
  have HGX : Hid (GrBox ((w.alloc (.cells #[.int .i64 n] 3)).alloc gobj0) (w.heap.size + 1) gz0) := by
    show GrBox _ _ _; have := gr_new (w.alloc (.cells #[.int .i64 n] 3)) gz0; rwa [World.size_alloc] at this
  have hE1 : Ext w ((w.alloc (.cells #[.int .i64 n] 3)).alloc gobj0) := ((Ext.refl w).alloc _).alloc _
  have HS := hide (sized_any n 74 #[.pointer (some ⟨w.heap.size, 0, none⟩)] (fun _ => (2 ^ n.toNat - 1 : Nat)) ((w.alloc (.cells #[.int .i64 n] 3)).alloc gobj0) enters_c1 (fun p W hp h5 hE => by
    have hb := HBX.out.ext hE
    rw [show n = ((n.toNat : Nat) : Int) by omega] at hb
    exact complete1_any n.toNat (by omega) p _ W hb))
  have HR : Hid (withE (sizedE n) (mkG n.toNat (fun _ => (2 ^ n.toNat - 1 : Nat)) n.toNat) = completeS n) := rfl
  rw [HR.out] at HS
  generalize completeS n = r at HS ⊢
  have HE1 := hide hE1
  clear HR hE1 HBX
  go_enter Tryd.func44, Tryd.ntmps44
  go_wp2_with fail
  refine HS.out.mono ?_
  rintro e w2 ⟨rfl, hE⟩
  have hg := HGX.out.ext hE
  have HE := hide (HE1.out.trans hE)
  obtain ⟨d0, d1, d2, d3, d4, d5, dz⟩ := hg.cells
  obtain ⟨f0, f1, f2, f3, f4, f5⟩ := hg.frozen
  have HG := hide hg
  clear hg hE
  go_wp2_with fail
  exact bodyPost_ret (v := .tuple #[r.1.v, .int .i64 r.2]) (results_gr2 rfl _ rfl rfl (HG.out.store r.1)) rfl ⟨rfl, HE.out.gstore (by omega) r.1⟩
/-- Room for a result, and a graph that is being made. -/
structure ResG (w W : World) (g : Gr) : Prop where
  ext : Ext w W
  c : ∃ g', GrBox W w.heap.size g'
  g : GrBox W (w.heap.size + 1) g
theorem ResG.mk_ (w : World) (n : Int) : ResG w ((w.alloc gobj0).alloc (gobj ⟨n, 0, 0, 0, 0, 0⟩)) ⟨n, 0, 0, 0, 0, 0⟩ :=
  ⟨((Ext.refl w).alloc _).alloc _, ⟨gz0, (gr_new w gz0).alloc _⟩, by
    have := gr_new (w.alloc gobj0) ⟨n, 0, 0, 0, 0, 0⟩
    rwa [World.size_alloc] at this⟩
theorem ResG.ext_ {w W V : World} {g : Gr} (h : ResG w W g) (hE : Ext W V) : ResG w V g := ⟨h.ext.trans hE, by obtain ⟨c, hc⟩ := h.c; exact ⟨c, hc.ext hE⟩, h.g.ext hE⟩
theorem ResG.set {w W : World} {g : Gr} (h : ResG w W g) {p : Nat} (hp : p < 5) (x : Int) : ResG w (W.setCell ⟨w.heap.size + 1, 1 + p, none⟩ (.int .i64 x)) (g.set p x) := by
  refine ⟨h.ext.setCell (by show w.heap.size ≤ w.heap.size + 1; omega) _, ?_, h.g.set hp x⟩
  obtain ⟨c, hc⟩ := h.c
  exact ⟨c, (Below.heap_setCell _ _ _ _ (by show w.heap.size ≠ w.heap.size + 1; omega)).trans hc⟩
set_option maxRecDepth 16000 in
set_option maxHeartbeats 1000000 in
theorem rcomplete_any (n : Int) (w : World) : Calls Tryd.prog 45 #[.int .i64 n] w (RetG (completeS n) w) := by
  by_cases h : n < 1 ∨ 5 < n
  · have HG0 : Hid (GrBox (w.alloc gobj0) w.heap.size gz0) := gr_new w gz0
    have HR : Hid (completeS n = (gz0, 2)) := by show _ = _; unfold completeS; rw [sizedE_bad h]; rfl
    rw [HR.out]
    clear HR
    by_cases h1 : n < 1
    · go_enter Tryd.func45, Tryd.ntmps45
      go_wp2_with fail
      exact bodyPost_ret (v := .tuple #[gz0.v, .int .i64 2]) (results_gr2 rfl _ rfl rfl HG0.out) rfl ⟨rfl, (Ext.refl w).alloc _⟩
    · have h2 : 5 < n := by omega
      go_enter Tryd.func45, Tryd.ntmps45
      go_wp2_with fail
      exact bodyPost_ret (v := .tuple #[gz0.v, .int .i64 2]) (results_gr2 rfl _ rfl rfl HG0.out) rfl ⟨rfl, (Ext.refl w).alloc _⟩
  · have h1 : ¬ n < 1 := by omega
    have h2 : ¬ 5 < n := by omega
    obtain ⟨N, rfl⟩ := Int.eq_ofNat_of_zero_le (show 0 ≤ n by omega)
    have hr : completeS (N : Int) = (mkG N (fun p => (2 ^ N - 1 : Nat)) N, 0) := by unfold completeS; rw [sizedE_ok h]; rfl
    rw [hr]
    have HMS := hide (fun p hp => mkG_succ N (fun p => (2 ^ N - 1 : Nat)) p hp)
    have HM0 := hide (mkG_zero N (fun p => (2 ^ N - 1 : Nat)))
    generalize hm : mkG N (fun p => (2 ^ N - 1 : Nat)) = mk at HMS HM0
    clear h hr hm
    obtain ⟨r, hrr⟩ : ∃ r, r = mk N := ⟨_, rfl⟩
    have HRR := hide hrr
    rw [← hrr]
    clear hrr
    have HF := hide (fun W => rfull_any (N : Int) W (by omega) (by omega))
    have he : ((2 : Int) ^ ((N : Int)).toNat - 1) = ((2 ^ N - 1 : Nat) : Int) := by
      have := Nat.two_pow_pos N
      rw [Int.toNat_natCast, Int.natCast_sub (by omega)]; simp
    simp only [he] at HF
    clear he
    go_enter Tryd.func45, Tryd.ntmps45
    go_wp2_with fail
    have HT := hide (ResG.mk_ w N)
    generalize (w.alloc gobj0).alloc (gobj ⟨(N : Int), 0, 0, 0, 0, 0⟩) = W at HT ⊢
    rw [← HM0.out] at HT
    go_loopw [5] (fun x wr => ∃ p : Nat, p ≤ N ∧ x = .int .i64 p ∧ Hid (ResG w wr (mk p))) (fun x _ => N - (intOf x).toNat)
    case atStart => exact ⟨0, by omega, rfl, HT⟩
    case round =>
      clear HT
      obtain ⟨p, hp, rfl, HT⟩ := hrel
      by_cases hlt : p < N
      · have hp5 : (p : Int) < 5 := by omega
        obtain ⟨rg, fg⟩ := HT.out.g.row (p := p) (by omega)
        have hz := lt_of_heap HT.out.g
        have HNEW := hide (HT.out.set (p := p) (by omega) (2 ^ N - 1 : Nat))
        rw [HMS.out p (by omega)] at HNEW
        go_wp2_with (go_at_call 69; refine (HF.out _).mono ?_; rintro e w' ⟨rfl, rfl⟩)
        go_roundw
        case rel => exact ⟨p + 1, by omega, by go_num, HNEW⟩
        case measure => simp [intOf]; omega
      · obtain rfl : p = N := by omega
        rw [← HRR.out] at HT
        obtain ⟨a0, a1, a2, a3, a4, a5, az⟩ := HT.out.g.cells
        obtain ⟨g, hg⟩ := HT.out.c
        obtain ⟨d0, d1, d2, d3, d4, d5, dz⟩ := hg.cells
        obtain ⟨f0, f1, f2, f3, f4, f5⟩ := hg.frozen
        have HG := hide hg
        clear hg
        go_wp2_with fail
        exact bodyPost_ret (v := .tuple #[r.v, .int .i64 0]) (results_gr2 rfl _ rfl rfl (HG.out.store r)) rfl ⟨rfl, HT.out.ext.gstore (by omega) r⟩
set_option maxRecDepth 16000 in
set_option maxHeartbeats 1000000 in
theorem rsilent_any (n : Int) (w : World) : Calls Tryd.prog 46 #[.int .i64 n] w (RetG (silentS n) w) := by
  by_cases h : n < 1 ∨ 5 < n
  · have HG0 : Hid (GrBox (w.alloc gobj0) w.heap.size gz0) := gr_new w gz0
    have HR : Hid (silentS n = (gz0, 2)) := by show _ = _; unfold silentS; rw [sizedE_bad h]; rfl
    rw [HR.out]
    clear HR
    by_cases h1 : n < 1
    · go_enter Tryd.func46, Tryd.ntmps46
      go_wp2_with fail
      exact bodyPost_ret (v := .tuple #[gz0.v, .int .i64 2]) (results_gr2 rfl _ rfl rfl HG0.out) rfl ⟨rfl, (Ext.refl w).alloc _⟩
    · have h2 : 5 < n := by omega
      go_enter Tryd.func46, Tryd.ntmps46
      go_wp2_with fail
      exact bodyPost_ret (v := .tuple #[gz0.v, .int .i64 2]) (results_gr2 rfl _ rfl rfl HG0.out) rfl ⟨rfl, (Ext.refl w).alloc _⟩
  · have h1 : ¬ n < 1 := by omega
    have h2 : ¬ 5 < n := by omega
    obtain ⟨N, rfl⟩ := Int.eq_ofNat_of_zero_le (show 0 ≤ n by omega)
    have hr : silentS (N : Int) = (mkG N (fun p => (2 ^ p : Nat)) N, 0) := by unfold silentS; rw [sizedE_ok h]; rfl
    rw [hr]
    have HMS := hide (fun p hp => mkG_succ N (fun p => (2 ^ p : Nat)) p hp)
    have HM0 := hide (mkG_zero N (fun p => (2 ^ p : Nat)))
    generalize hm : mkG N (fun p => (2 ^ p : Nat)) = mk at HMS HM0
    clear h hr hm
    obtain ⟨r, hrr⟩ : ∃ r, r = mk N := ⟨_, rfl⟩
    have HRR := hide hrr
    rw [← hrr]
    clear hrr
    go_enter Tryd.func46, Tryd.ntmps46
    go_wp2_with fail
    have HT := hide (ResG.mk_ w N)
    generalize (w.alloc gobj0).alloc (gobj ⟨(N : Int), 0, 0, 0, 0, 0⟩) = W at HT ⊢
    rw [← HM0.out] at HT
    go_loopw [5] (fun x wr => ∃ p : Nat, p ≤ N ∧ x = .int .i64 p ∧ Hid (ResG w wr (mk p))) (fun x _ => N - (intOf x).toNat)
    case atStart => exact ⟨0, by omega, rfl, HT⟩
    case round =>
      clear HT
      obtain ⟨p, hp, rfl, HT⟩ := hrel
      by_cases hlt : p < N
      · have hp5 : (p : Int) < 5 := by omega
        obtain ⟨rg, fg⟩ := HT.out.g.row (p := p) (by omega)
        have hz := lt_of_heap HT.out.g
        have HNEW := hide (HT.out.set (p := p) (by omega) (2 ^ p : Nat))
        rw [HMS.out p (by omega)] at HNEW
        have hs := pow_shl p (by omega)
        go_wp2_with fail
        go_roundw
        case rel => exact ⟨p + 1, by omega, by go_num, HNEW⟩
        case measure => simp [intOf]; omega
      · obtain rfl : p = N := by omega
        rw [← HRR.out] at HT
        obtain ⟨a0, a1, a2, a3, a4, a5, az⟩ := HT.out.g.cells
        obtain ⟨g, hg⟩ := HT.out.c
        obtain ⟨d0, d1, d2, d3, d4, d5, dz⟩ := hg.cells
        obtain ⟨f0, f1, f2, f3, f4, f5⟩ := hg.frozen
        have HG := hide hg
        clear hg
        go_wp2_with fail
        exact bodyPost_ret (v := .tuple #[r.v, .int .i64 0]) (results_gr2 rfl _ rfl rfl (HG.out.store r)) rfl ⟨rfl, HT.out.ext.gstore (by omega) r⟩
/-- A box of a graph, room for a result, and a graph that is being made in block gb. -/
structure OneG (w W : World) (a : Gr) (gb : Nat) (g : Gr) : Prop extends One1 w W a where
  g : GrBox W gb g
  lt : w.heap.size + 1 < gb
theorem OneG.ext_ {w W V : World} {a g : Gr} {gb : Nat} (h : OneG w W a gb g) (hE : Ext W V) : OneG w V a gb g := ⟨h.toOne1.ext_ hE, h.g.ext hE, h.lt⟩
theorem OneG.set {w W : World} {a g : Gr} {gb : Nat} (h : OneG w W a gb g) {p : Nat} (hp : p < 5) (x : Int) : OneG w (W.setCell ⟨gb, 1 + p, none⟩ (.int .i64 x)) a gb (g.set p x) := by
  have hl := h.lt
  refine ⟨⟨h.ext.setCell (by show w.heap.size ≤ gb; omega) _, (Below.heap_setCell _ _ _ _ (by show w.heap.size ≠ gb; omega)).trans h.a, ?_⟩, h.g.set hp x, hl⟩
  obtain ⟨c, hc⟩ := h.c
  exact ⟨c, (Below.heap_setCell _ _ _ _ (by show w.heap.size + 1 ≠ gb; omega)).trans hc⟩
theorem One1.make {w W : World} {a : Gr} (h : One1 w W a) (n : Int) : OneG w (W.alloc (gobj ⟨n, 0, 0, 0, 0, 0⟩)) a W.heap.size ⟨n, 0, 0, 0, 0, 0⟩ :=
  ⟨h.ext_ ((Ext.refl W).alloc _), gr_new W ⟨n, 0, 0, 0, 0, 0⟩, by obtain ⟨c, hc⟩ := h.c; exact lt_of_heap hc⟩
set_option maxRecDepth 16000 in
set_option maxHeartbeats 4000000 in
theorem rreverse_ok (a : Gr) {n : Nat} (ha : Wf a n) (w : World) : Calls Tryd.prog 23 #[a.v] w (RetG (revG a, 0) w) := by
  have HC := hide (fun W => rgcheck_any a W)
  rw [wf_chk ha] at HC
  have hr : revG a = mkG n (fun p => (setOf (fun q => (a.r q).testBit p) n : Nat)) n := by unfold revG natG; rw [ha.toNat]
  rw [hr]
  have HMS := hide (fun p hp => mkG_succ n (fun p => (setOf (fun q => (a.r q).testBit p) n : Nat)) p hp)
  have HMZ := hide (mkG_zero n (fun p => (setOf (fun q => (a.r q).testBit p) n : Nat)))
  have HM0 := hide (fun p hp => mkG_set0 n (fun p => (setOf (fun q => (a.r q).testBit p) n : Nat)) p hp)
  generalize hm : mkG n (fun p => (setOf (fun q => (a.r q).testBit p) n : Nat)) = mk at HMS HMZ HM0
  obtain ⟨r, hrr⟩ : ∃ r, r = mk n := ⟨_, rfl⟩
  have HRR := hide hrr
  rw [← hrr]
  clear hr hm hrr
  have hn5 := ha.n5
  have HA := hide ha
  have HN := hide ha.n_eq
  have HU := hide (fun p k => show setOf (fun q => (a.r q).testBit p) (k + 1) = setOf (fun q => (a.r q).testBit p) k ||| (if (a.r k).testBit p then 2 ^ k else 0) from rfl)
  have HUL := hide (fun p k (hk : k ≤ 5) => setOf_lt (fun q => (a.r q).testBit p) k 5 hk)
  have HU0 := hide (fun p => show setOf (fun q => (a.r q).testBit p) 0 = 0 from rfl)
  generalize hso : (fun p k => setOf (fun q => (a.r q).testBit p) k) = so
  have hso' : ∀ p k, setOf (fun q => (a.r q).testBit p) k = so p k := fun p k => by rw [← hso]
  simp only [hso'] at HU HUL HU0 HMS
  clear hso hso'
  have HH := hide (fun (x p : Nat) (hx : x < 32) (hp : p ≤ 60) W => rhas_any (x : Int) (p : Int) W (by omega) (by omega) (by omega) (by omega))
  clear ha
  go_enter Tryd.func23, Tryd.ntmps23
  go_wp2_with fail
  have HT := hide (One1.mk_ w a)
  refine (HC.out _).mono ?_
  rintro e w1 ⟨rfl, hE⟩
  have HT := hide (HT.out.ext_ hE)
  clear hE
  obtain ⟨c0, -, -, -, -, -, z0⟩ := HT.out.a.cells
  go_wp2_with fail
  have HT := hide (HT.out.make a.n)
  generalize w1.alloc (gobj ⟨a.n, 0, 0, 0, 0, 0⟩) = W at HT ⊢
  rw [HN.out, ← HMZ.out] at HT
  clear c0 z0
  generalize w1.heap.size = gb at HT ⊢
  go_loopw [6] (fun x wr => ∃ p : Nat, p ≤ n ∧ x = .int .i64 p ∧ Hid (OneG w wr a gb (mk p))) (fun x _ => n - (intOf x).toNat)
  case atStart => exact ⟨0, by omega, rfl, HT⟩
  case round =>
    clear HT
    obtain ⟨p, hp, rfl, HT⟩ := hrel
    obtain ⟨c0, -, -, -, -, -, z0⟩ := HT.out.a.cells
    rw [HN.out] at c0
    by_cases hlt : p < n
    · go_wp2_with fail
      clear c0 z0
      have HT0 : Hid (OneG w wr a gb ((mk p).set p (so p 0 : Nat))) := by
        show OneG _ _ _ _ _
        have := HT.out
        rw [← HM0.out p (by omega)] at this
        rw [HU0.out]
        exact this
      obtain ⟨wo, rfl⟩ : ∃ wo : World, wo = wr := ⟨_, rfl⟩
      go_loopw [7] (fun x V => ∃ m : Nat, m ≤ n ∧ x = .int .i64 m ∧ Hid (OneG w V a gb ((mk p).set p (so p m : Nat)))) (fun x _ => n - (intOf x).toNat)
      case atStart => exact ⟨0, by omega, rfl, HT0⟩
      case round =>
        clear HT0 HT
        obtain ⟨m, hm, rfl, HT⟩ := hrel
        obtain ⟨c0, -, -, -, -, -, z0⟩ := HT.out.a.cells
        rw [HN.out] at c0
        by_cases hmt : m < n
        · have hp5 : (p : Int) < 5 := by omega
          have hm5 : (m : Int) < 5 := by omega
          obtain ⟨ra, -⟩ := HT.out.a.row (p := m) (by omega)
          rw [HA.out.row] at ra
          obtain ⟨rg, fg⟩ := HT.out.g.row (p := p) (by omega)
          rw [Gr.set_h _ _ _ (by omega)] at rg
          have z3 := lt_of_heap HT.out.g
          have HC2 := hide (HH.out (a.r m) p (HA.out.lt32 m) (by omega))
          have hu := HU.out p m
          have hul := HUL.out p m (by omega)
          have hpw := pow2_32 (n := m) (by omega)
          have hsh := pow_shl m (by omega)
          have hor := i64_or_nat (so p m) (2 ^ m) (Nat.lt_of_lt_of_le hul (by decide)) (Nat.lt_of_le_of_lt hpw (by decide))
          rw [has_nat, Int.toNat_natCast] at HC2
          cases hbit : (a.r m).testBit p with
          | false =>
            rw [hbit] at HC2 hu
            have HU2 : Hid (so p (m + 1) = so p m) := by show _ = _; rw [hu]; simp
            clear hu hor hbit hsh hpw
            go_wp2_with (go_at_call 63; refine (HC2.out _).mono ?_; rintro e w' ⟨rfl, rfl⟩)
            go_roundw
            case rel => exact ⟨m + 1, by omega, by go_num, by rw [HU2.out]; exact HT⟩
            case measure => simp [intOf]; omega
          | true =>
            rw [hbit] at HC2 hu
            have HU2 : Hid (so p (m + 1) = so p m ||| 2 ^ m) := by show _ = _; rw [hu]; simp
            clear hu hbit hpw
            generalize 2 ^ m = y at hsh hor HU2
            go_wp2_with (go_at_call 63; refine (HC2.out _).mono ?_; rintro e w' ⟨rfl, rfl⟩)
            go_still_tail 9, (by kernel_rfl)
            change wpList _ _ _ _ _ w'.drew
            have HT := hide (HT.out.ext_ (Ext.refl w').drew)
            obtain ⟨rg9, fg9⟩ := HT.out.g.row (p := p) (by omega)
            have HNEW := hide (HT.out.set (p := p) (by omega) (so p m ||| y : Nat))
            rw [Gr.set_set] at HNEW
            have z9 := lt_of_heap HT.out.g
            clear ra rg fg z0 z3 c0
            generalize w'.drew = w9 at *
            go_wp2_with fail
            go_roundw
            case rel => exact ⟨m + 1, by omega, by go_num, by rw [HU2.out]; exact HNEW⟩
            case measure => simp [intOf]; omega
        · obtain rfl : m = n := by omega
          have HMS2 : Hid ((mk p).set p (so p m : Nat) = mk (p + 1)) := HMS.out p (by omega)
          go_wp2_with fail
          go_roundw
          case rel => exact ⟨p + 1, by omega, by go_num, by rw [← HMS2.out]; exact HT⟩
          case measure => simp [intOf]; omega
    · obtain rfl : p = n := by omega
      rw [← HRR.out] at HT
      obtain ⟨a0, a1, a2, a3, a4, a5, az⟩ := HT.out.g.cells
      obtain ⟨g, hg⟩ := HT.out.c
      obtain ⟨d0, d1, d2, d3, d4, d5, dz⟩ := hg.cells
      obtain ⟨f0, f1, f2, f3, f4, f5⟩ := hg.frozen
      have HG := hide hg
      clear hg
      go_wp2_with fail
      exact bodyPost_ret (v := .tuple #[r.v, .int .i64 0]) (results_gr2 rfl _ rfl rfl (HG.out.store r)) rfl ⟨rfl, HT.out.ext.gstore (by omega) r⟩
set_option maxHeartbeats 1000000 in
theorem rreverse_any (a : Gr) (w : World) : Calls Tryd.prog 23 #[a.v] w (RetG (reverseS a) w) := by
  by_cases h0 : gchk a = 0
  · obtain ⟨n, ha⟩ := wf_of h0
    have : reverseS a = (revG a, 0) := by unfold reverseS; rw [h0]; rfl
    rw [this]
    exact rreverse_ok a ha w
  have HB := hide (fun W => rgcheck_any a W)
  have HR := hide (show reverseS a = (gz0, gchk a) from withE_err h0)
  generalize reverseS a = res at HR ⊢
  generalize gchk a = e at HB HR h0
  have hd : (e != 0) = true := by simp [h0]
  clear h0
  go_enter Tryd.func23, Tryd.ntmps23
  go_wp2_with fail
  have HT := hide (One1.mk_ w a)
  refine (HB.out _).mono ?_
  rintro r w1 ⟨rfl, hE⟩
  have HT := hide (HT.out.ext_ hE)
  clear hE
  obtain ⟨g, hg⟩ := HT.out.c
  obtain ⟨d0, d1, d2, d3, d4, d5, dz⟩ := hg.cells
  obtain ⟨f0, f1, f2, f3, f4, f5⟩ := hg.frozen
  have HG := hide hg
  clear hg
  go_wp2_with fail
  exact bodyPost_ret (v := .tuple #[gz0.v, .int .i64 e]) (results_gr2 rfl _ rfl rfl (HG.out.store gz0)) rfl ⟨by rw [HR.out], HT.out.ext.gstore (by omega) gz0⟩
end Go.Proofs.YtpcboonjalbihaaDoor
