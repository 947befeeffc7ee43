/-
  Products of graphs in the reference (roundtableref03.Product).
  Conditions: as each theorem states.
-/
import Derived.Test.YtfnhjalnbmnlaaaDoorGOps
import Derived.StillTailTactics
namespace Go.Proofs.YtfnhjalnbmnlaaaDoor
open Go.RowKit
attribute [local go_sem] Oper.semAt_some

theorem unionR_stop {f : Nat → Nat} {s n : Nat} (hs : s < 2 ^ n) : ∀ k, unionR f s (n + k) = unionR f s n
  | 0 => rfl
  | k + 1 => by
    have h : s.testBit (n + k) = false := Nat.testBit_lt_two_pow (Nat.lt_of_lt_of_le hs (Nat.pow_le_pow_right (by decide) (by omega)))
    rw [show n + (k + 1) = (n + k) + 1 from rfl, unionR, unionR_stop hs k, h]
    simp
theorem unionR_n {f : Nat → Nat} {s n : Nat} (hs : s < 2 ^ n) (h5 : n ≤ 5) : unionR f s 5 = unionR f s n := by
  obtain ⟨k, hk⟩ := Nat.exists_eq_add_of_le h5
  rw [hk]; exact unionR_stop hs k
theorem Gr.set_h (g : Gr) (p : Nat) (x : Int) (hp : p < 5) : (g.set p x).h p = x := by
  obtain rfl | rfl | rfl | rfl | rfl : p = 0 ∨ p = 1 ∨ p = 2 ∨ p = 3 ∨ p = 4 := by omega
  all_goals rfl
theorem mkG_set0 (N : Nat) (f : Nat → Int) (p : Nat) (hp : p < 5) : (mkG N f p).set p 0 = mkG N f p := by
  have := Gr.set_own (mkG N f p) p hp
  rwa [mkG_h _ _ _ _ hp, if_neg (by omega)] at this
/-- Boxes of two graphs, of a third one, and of the graph that is being made. -/
structure Four (w W : World) (a b g : Gr) : Prop extends Three w W a b where
  g : GrBox W (w.heap.size + 1 + 1 + 1) g
theorem Four.ext_ {w W V : World} {a b g : Gr} (h : Four w W a b g) (hE : Ext W V) : Four w V a b g := ⟨h.toThree.ext_ hE, h.g.ext hE⟩
theorem Four.set {w W : World} {a b g : Gr} (h : Four w W a b g) {p : Nat} (hp : p < 5) (x : Int) : Four w (W.setCell ⟨w.heap.size + 1 + 1 + 1, 1 + p, none⟩ (.int .i64 x)) a b (g.set p x) := by
  have hz := lt_of_heap h.g
  refine ⟨⟨⟨h.ext.setCell (by show w.heap.size ≤ w.heap.size + 1 + 1 + 1; omega) _, ?_, ?_⟩, ?_⟩, h.g.set hp x⟩
  · exact (Below.heap_setCell _ _ _ _ (by show w.heap.size ≠ w.heap.size + 1 + 1 + 1; omega)).trans h.a
  · exact (Below.heap_setCell _ _ _ _ (by show w.heap.size + 1 ≠ w.heap.size + 1 + 1 + 1; omega)).trans h.b
  · obtain ⟨c, hc⟩ := h.c
    exact ⟨c, (Below.heap_setCell _ _ _ _ (by show w.heap.size + 1 + 1 ≠ w.heap.size + 1 + 1 + 1; omega)).trans hc⟩
theorem Four.mk_ (w : World) (a b : Gr) (n : Int) : Four w ((((w.alloc (gobj a)).alloc (gobj b)).alloc gobj0).alloc (gobj ⟨n, 0, 0, 0, 0, 0⟩)) a b ⟨n, 0, 0, 0, 0, 0⟩ :=
  ⟨(Three.mk_ w a b).ext_ ((Ext.refl _).alloc _), by
    have := gr_new (((w.alloc (gobj a)).alloc (gobj b)).alloc gobj0) ⟨n, 0, 0, 0, 0, 0⟩
    rwa [World.size_alloc, World.size_alloc, World.size_alloc] at this⟩
set_option maxRecDepth 16000 in
set_option maxHeartbeats 4000000 in
theorem rproduct_any (a b : Gr) {n : Nat} (ha : Wf a n) (hb : Wf b n) (w : World) :
    Calls Tryd.prog 80 #[a.v, b.v] w fun e w' => e = .returned (compG a b).v ∧ Ext w w' := by
  have HC : Hid (compG a b = mkG n (fun p => (unionR a.r (b.r p) n : Nat)) n) := by
    show _ = _; unfold compG natG; rw [ha.toNat]
    congr 1; funext p; show ((unionR a.r (b.r p) 5 : Nat) : Int) = _; rw [unionR_n (hb.ltn p) ha.n5]
  rw [HC.out]
  generalize hr : mkG n (fun p => (unionR a.r (b.r p) n : Nat)) n = r
  have HR := hide hr
  have hn5 := ha.n5
  have HA := hide ha
  have HB := hide hb
  have HH := hide (fun (x p : Nat) (hx : x < 32) (hp : p ≤ 60) W => rhas_any (x : Int) (p : Int) W (by omega) (by omega) (by omega) (by omega))
  clear ha hb hr HC
  go_enter Tryd.func80, Tryd.ntmps80
  go_wp2_with fail
  have HT := hide (Four.mk_ w a b a.n)
  generalize (((w.alloc (gobj a)).alloc (gobj b)).alloc gobj0).alloc (gobj ⟨a.n, 0, 0, 0, 0, 0⟩) = W at HT ⊢
  have HT : Hid (Four w W a b (mkG n (fun p => (unionR a.r (b.r p) n : Nat)) 0)) := by
    show Four _ _ _ _ _; rw [mkG_zero]; have := HT.out; rwa [HA.out.n_eq] at this
  have HU := hide (fun p k => show unionR a.r (b.r p) (k + 1) = unionR a.r (b.r p) k ||| (if (b.r p).testBit k then a.r k else 0) from rfl)
  have HUL := hide (fun p k => unionR_lt (f := a.r) (s := b.r p) (b := 5) (fun m => HA.out.lt32 m) k)
  have HMS := hide (fun p hp => mkG_succ n (fun p => (unionR a.r (b.r p) n : Nat)) p hp)
  have HM0 := hide (fun p hp => mkG_set0 n (fun p => (unionR a.r (b.r p) n : Nat)) p hp)
  have HMR := hide (HR.out)
  generalize mkG n (fun p => (unionR a.r (b.r p) n : Nat)) = mk at HT HMS HM0 HMR
  go_loopw [6] (fun x wr => ∃ p : Nat, p ≤ n ∧ x = .int .i64 p ∧ Hid (Four w wr a b (mk p))) (fun x _ => n - (intOf x).toNat)
  case atStart => exact ⟨0, by omega, rfl, HT⟩
  case round =>
    obtain ⟨p, hp, rfl, HT⟩ := hrel
    obtain ⟨c0, -, -, -, -, -, z0⟩ := HT.out.a.cells
    rw [HA.out.n_eq] at c0
    by_cases hlt : p < n
    · go_wp2_with fail
      clear c0 z0
      have HT0 : Hid (Four w wr a b ((mk p).set p (unionR a.r (b.r p) 0 : Nat))) := by
        show Four _ _ _ _ _
        have := HT.out
        rw [← HM0.out p (by omega)] at this
        exact this
      obtain ⟨wo, rfl⟩ : ∃ wo : World, wo = wr := ⟨_, rfl⟩
      go_loopw [7] (fun x V => ∃ m : Nat, m ≤ n ∧ x = .int .i64 m ∧ Hid (Four w V a b ((mk p).set p (unionR a.r (b.r p) m : Nat)))) (fun x _ => n - (intOf x).toNat)
      case atStart => exact ⟨0, by omega, rfl, HT0⟩
      case round =>
        clear HT0 HT
        obtain ⟨m, hm, rfl, HT⟩ := hrel
        obtain ⟨c0, -, -, -, -, -, z0⟩ := HT.out.a.cells
        rw [HA.out.n_eq] at c0
        by_cases hmt : m < n
        · have hp5 : (p : Int) < 5 := by omega
          have hm5 : (m : Int) < 5 := by omega
          obtain ⟨rb, -⟩ := HT.out.b.row (p := p) (by omega)
          rw [HB.out.row] at rb
          obtain ⟨ra, -⟩ := HT.out.a.row (p := m) (by omega)
          rw [HA.out.row] at ra
          obtain ⟨rg, fg⟩ := HT.out.g.row (p := p) (by omega)
          have hgp : ((mk p).set p (unionR a.r (b.r p) m : Nat)).h p = (unionR a.r (b.r p) m : Nat) := Gr.set_h _ _ _ (by omega)
          rw [hgp] at rg
          have z1 := lt_of_heap HT.out.b
          have z3 := lt_of_heap HT.out.g
          have HC := hide (HH.out (b.r p) m (HB.out.lt32 p) (by omega))
          have hu := HU.out p m
          have hul := HUL.out p m
          have hal := HA.out.lt32 m
          have hor := i64_or_nat (unionR a.r (b.r p) m) (a.r m) (by omega) (by omega)
          have HNEW := hide (HT.out.set (p := p) (by omega) (unionR a.r (b.r p) m ||| a.r m : Nat))
          rw [Gr.set_set] at HNEW
          rw [has_nat, Int.toNat_natCast] at HC
          cases hbit : (b.r p).testBit m with
          | false =>
            rw [hbit] at HC hu
            have HU2 : Hid (unionR a.r (b.r p) (m + 1) = unionR a.r (b.r p) m) := by show _ = _; rw [hu]; simp
            clear hu hor hgp hbit HNEW
            go_wp2_with (go_at_call 75; refine (HC.out _).mono ?_; rintro e w' ⟨rfl, rfl⟩)
            go_roundw
            case rel => exact ⟨m + 1, by omega, by go_num, by rw [HU2.out]; exact HT⟩
            case measure => simp [intOf]; omega
          | true =>
            rw [hbit] at HC hu
            have HU2 : Hid (unionR a.r (b.r p) (m + 1) = unionR a.r (b.r p) m ||| a.r m) := by show _ = _; rw [hu]; simp
            clear hu hgp hbit
            go_wp2_with (go_at_call 75; refine (HC.out _).mono ?_; rintro e w' ⟨rfl, rfl⟩)
            go_still_tail 11, (by kernel_rfl)
            change wpList _ _ _ _ _ w'.drew
            have HT := hide (HT.out.ext_ (Ext.refl w').drew)
            obtain ⟨rg9, fg9⟩ := HT.out.g.row (p := p) (by omega)
            have HNEW := hide (HT.out.set (p := p) (by omega) (unionR a.r (b.r p) m ||| a.r m : Nat))
            rw [Gr.set_set] at HNEW
            have z9 := lt_of_heap HT.out.g
            clear rb ra rg fg z0 z1 z3
            generalize w'.drew = w9 at *
            go_wp2_with fail
            go_roundw
            case rel => exact ⟨m + 1, by omega, by go_num, by rw [HU2.out]; exact HNEW⟩
            case measure => simp [intOf]; omega
        · obtain rfl : m = n := by omega
          have HMS2 : Hid ((mk p).set p (unionR a.r (b.r p) m : Nat) = mk (p + 1)) := HMS.out p (by omega)
          go_wp2_with fail
          go_roundw
          case rel => exact ⟨p + 1, by omega, by go_num, by rw [← HMS2.out]; exact HT⟩
          case measure => simp [intOf]; omega
    · obtain rfl : p = n := by omega
      obtain ⟨a0, a1, a2, a3, a4, a5, az⟩ := HT.out.g.cells
      obtain ⟨g, hg⟩ := HT.out.c
      obtain ⟨d0, d1, d2, d3, d4, d5, dz⟩ := hg.cells
      obtain ⟨f0, f1, f2, f3, f4, f5⟩ := hg.frozen
      have HG := hide hg
      clear hg
      rw [HMR.out] at a0 a1 a2 a3 a4 a5
      go_wp2_with fail
      exact bodyPost_ret (v := r.v) (results_gr rfl _ rfl (HG.out.store r)) rfl ⟨rfl, HT.out.ext.gstore (by omega) r⟩
end Go.Proofs.YtfnhjalnbmnlaaaDoor
