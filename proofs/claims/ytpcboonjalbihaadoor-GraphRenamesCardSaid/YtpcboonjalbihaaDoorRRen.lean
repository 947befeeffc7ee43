/-
  The reference's renaming (roundtableref03.Renamed) and Permute.
  Conditions: as each theorem states.
-/
import Derived.Test.YtpcboonjalbihaaDoorRPermP
import Derived.Test.YtpcboonjalbihaaDoorGRefR
namespace Go.Proofs.YtpcboonjalbihaaDoor
open Go.RowKit
attribute [local go_sem] Oper.semAt_some

set_option maxRecDepth 16000 in
set_option maxHeartbeats 4000000 in
theorem renamed_any (a : Gr) (l : List Int) (ha : Wf a l.length) (h : PermOk l) (u : Value) (w : World) (hl : Row icells 1 w u l) : Calls Tryd.prog 56 #[a.v, u] w fun e w' => e = .returned (permG a l).v ∧ Ext w w' := by
  obtain ⟨pp, c, rfl, hc, hlen, hat⟩ := hl.int_all
  have HAT := hide hat
  have HPN := hide (fun i hi => h.nat (i := i) hi)
  have HMS := hide (fun p hp => rnG_succ (g := a) h (p := p) hp)
  have HM0 := hide (fun p hp => rnG_set0 (g := a) h (p := p) hp)
  have HMZ := hide (rnG_zero a l)
  have HRR := hide (rnG_all ha h)
  have hn5 := h.n5
  have HA := hide ha
  have HN := hide ha.n_eq
  have HU := hide (fun p k => show imgN l (a.r p) (k + 1) = imgN l (a.r p) k ||| (if (a.r p).testBit k then 2 ^ piN l k else 0) from rfl)
  have HUL := hide (fun p k hk => imgN_lt h (a.r p) k hk)
  have HU0 := hide (fun p => show imgN l (a.r p) 0 = 0 from rfl)
  generalize rnG a l = mk at HMS HM0 HMZ HRR
  generalize permG a l = r at HRR ⊢
  generalize hso : (fun p k => imgN l (a.r p) k) = so
  have hso' : ∀ p k, imgN l (a.r p) k = so p k := fun p k => by rw [← hso]
  simp only [hso'] at HU HUL HU0 HMS
  clear hso hso' hl hat
  have HH := hide (fun (x p : Nat) (hx : x < 32) (hp : p ≤ 60) W => rhas_any (x : Int) (p : Int) W (by omega) (by omega) (by omega) (by omega))
  clear ha h
  go_enter Tryd.func56, Tryd.ntmps56
  go_wp2_with fail
  have HT := hide ((One1.mk_ w a).make a.n)
  have hsz : ((w.alloc (gobj a)).alloc gobj0).heap.size = w.heap.size + 1 + 1 := by rw [World.size_alloc, World.size_alloc]
  rw [hsz] at HT
  clear hsz
  change Code.wp _ _ _ _ (((w.alloc (gobj a)).alloc gobj0).alloc (gobj ⟨a.n, 0, 0, 0, 0, 0⟩))
  generalize ((w.alloc (gobj a)).alloc gobj0).alloc (gobj ⟨a.n, 0, 0, 0, 0, 0⟩) = W at HT ⊢
  rw [HN.out, ← HMZ.out] at HT
  generalize w.heap.size + 1 + 1 = gb at HT ⊢
  have HPL : Hid (∀ i, i < l.length → piN l i < l.length ∧ l.getD i 0 = (piN l i : Int)) := fun i hi => ⟨(HPN.out i hi).2, (HPN.out i hi).1⟩
  clear HPN HMZ
  generalize hn : l.length = n at *
  generalize hpi : piN l = pi at *
  clear hn hpi
  go_loopw [6] (fun x wr => ∃ p : Nat, p ≤ n ∧ x = .int .i64 p ∧ Hid (OneG w wr a gb (mk p))) (fun x _ => n - (intOf x).toNat)
  case atStart => exact ⟨0, by omega, rfl, HT⟩
  case round =>
    clear HT
    obtain ⟨p, hp, rfl, HT⟩ := hrel
    obtain ⟨c0, -, -, -, -, -, z0⟩ := HT.out.a.cells
    rw [HN.out] at c0
    by_cases hlt : p < n
    · obtain ⟨b, o, rfl, hb, hat⟩ := HAT.out (by omega)
      have HX := hide hat
      clear hat
      go_wp2_with fail
      clear c0 z0
      obtain ⟨hq1, hq2⟩ := HPL.out p hlt
      have HT0 : Hid (OneG w wr a gb ((mk p).set (pi p) (so p 0 : Nat))) := by
        show OneG _ _ _ _ _
        have := HT.out
        rw [← HM0.out p (by omega)] at this
        rw [HU0.out]
        exact this
      have HQ2 := hide hq2
      clear hq2
      obtain ⟨wo, rfl⟩ : ∃ wo : World, wo = wr := ⟨_, rfl⟩
      go_loopw [7] (fun x V => ∃ m : Nat, m ≤ n ∧ x = .int .i64 m ∧ Hid (OneG w V a gb ((mk p).set (pi p) (so p m : Nat)))) (fun x _ => n - (intOf x).toNat)
      case atStart => exact ⟨0, by omega, rfl, HT0⟩
      case round =>
        clear HT0 HT
        obtain ⟨m, hm, rfl, HT⟩ := hrel
        obtain ⟨c0, -, -, -, -, -, z0⟩ := HT.out.a.cells
        rw [HN.out] at c0
        by_cases hmt : m < n
        · have hp5 : (p : Int) < 5 := by omega
          have hm5 : (m : Int) < 5 := by omega
          obtain ⟨hm1, hm2⟩ := HPL.out m hmt
          have HM2 := hide hm2
          clear hm2
          generalize hqq : pi m = qm at *
          have hqm5 : qm < 5 := by omega
          have hpp5 : ((pi p : Nat) : Int) < 5 := by omega
          obtain ⟨ra, -⟩ := HT.out.a.row (p := p) (by omega)
          rw [HA.out.row] at ra
          have HC2 := hide (HH.out (a.r p) m (HA.out.lt32 p) (by omega))
          have hu := HU.out p m
          rw [hqq] at hu
          clear hqq
          have hul := HUL.out p m (by omega)
          have hul2 : so p m < 32 := Nat.lt_of_lt_of_le hul (pow2_32 hn5)
          have hpw := pow2_32 (n := qm) (by omega)
          have hsh := pow_shl qm (by omega)
          have hor := i64_or_nat (so p m) (2 ^ qm) (Nat.lt_of_lt_of_le hul2 (by decide)) (Nat.lt_of_le_of_lt hpw (by decide))
          clear hul hul2
          rw [has_nat, Int.toNat_natCast] at HC2
          cases hbit : (a.r p).testBit m with
          | false =>
            rw [hbit] at HC2 hu
            have HU2 : Hid (so p (m + 1) = so p m) := by show _ = _; rw [hu]; simp
            clear hu hor hbit hsh hpw
            go_wp2_with (go_at_call 63; refine (HC2.out _).mono ?_; rintro e w' ⟨rfl, rfl⟩)
            go_roundw
            case rel => exact ⟨m + 1, by omega, by go_num, by rw [HU2.out]; exact HT⟩
            case measure => simp [intOf]; omega
          | true =>
            rw [hbit] at HC2 hu
            have HU2 : Hid (so p (m + 1) = so p m ||| 2 ^ qm) := by show _ = _; rw [hu]; simp
            clear hu hbit hpw
            generalize 2 ^ qm = y at hsh hor HU2
            go_wp2_with (go_at_call 63; refine (HC2.out _).mono ?_; rintro e w' ⟨rfl, rfl⟩)
            obtain ⟨rg, fg⟩ := HT.out.g.row (p := pi p) (by omega)
            rw [Gr.set_h _ _ _ (by omega)] at rg
            have z3 := lt_of_heap HT.out.g
            have hxp := HX.out p hlt _ HT.out.ext
            rw [HQ2.out] at hxp
            have hxm := HX.out m hmt _ HT.out.ext
            rw [HM2.out] at hxm
            have hbz : b < w'.heap.size := Nat.lt_of_lt_of_le hb HT.out.ext.size
            go_still_tail 15, (by kernel_rfl)
            change wpList _ _ _ _ _ w'.drew
            have HT := hide (HT.out.ext_ (Ext.refl w').drew)
            obtain ⟨rg9, fg9⟩ := HT.out.g.row (p := pi p) (by omega)
            have HNEW := hide (HT.out.set (p := pi p) (by omega) (so p m ||| y : Nat))
            rw [Gr.set_set] at HNEW
            have z9 := lt_of_heap HT.out.g
            clear ra rg fg z0 z3 c0 hxp hxm hbz
            generalize w'.drew = w9 at *
            go_wp2_with fail
            go_roundw
            case rel => exact ⟨m + 1, by omega, by go_num, by rw [HU2.out]; exact HNEW⟩
            case measure => simp [intOf]; omega
        · obtain rfl : m = n := by omega
          have HMS2 : Hid ((mk p).set (pi p) (so p m : Nat) = mk (p + 1)) := HMS.out p (by omega)
          go_wp2_with fail
          go_roundw
          case rel => exact ⟨p + 1, by omega, by go_num, by rw [← HMS2.out]; exact HT⟩
          case measure => simp [intOf]; omega
    · obtain rfl : p = n := by omega
      rw [HRR.out] at HT
      obtain ⟨a0, a1, a2, a3, a4, a5, az⟩ := HT.out.g.cells
      obtain ⟨g, hg⟩ := HT.out.c
      obtain ⟨d0, d1, d2, d3, d4, d5, dz⟩ := hg.cells
      obtain ⟨f0, f1, f2, f3, f4, f5⟩ := hg.frozen
      have HG := hide hg
      clear hg
      go_wp2_with fail
      exact bodyPost_ret (v := r.v) (results_gr rfl _ rfl (HG.out.store r)) rfl ⟨rfl, HT.out.ext.gstore (by omega) r⟩
end Go.Proofs.YtpcboonjalbihaaDoor
