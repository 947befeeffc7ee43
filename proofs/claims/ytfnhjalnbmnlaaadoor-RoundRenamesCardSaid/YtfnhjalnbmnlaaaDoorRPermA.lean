/-
  The plain law of renaming and reversing.
  Conditions: none.
-/
import Derived.Test.YtfnhjalnbmnlaaaDoorPermQ
import Derived.Test.YtfnhjalnbmnlaaaDoorGRefR
import Derived.Test.YtfnhjalnbmnlaaaDoorGLaw
namespace Go.Proofs.YtfnhjalnbmnlaaaDoor
open Go.RowKit
attribute [local go_sem] Oper.semAt_some

theorem seenB_true {l : List Int} {i : Nat} {x : Int} (h : ∃ k, k < i ∧ l.getD k 0 = x) : seenB l i x = true := by
  obtain ⟨k, hk, he⟩ := h
  unfold seenB
  exact List.any_eq_true.2 ⟨k, List.mem_range.2 hk, by simpa using he⟩
set_option maxRecDepth 16000 in
set_option maxHeartbeats 1000000 in
theorem rpmcheck_any (l : List Int) (u : Value) (w : World) (hl : Row icells 1 w u l) : Calls Tryd.prog 30 #[u] w fun e w' => e = .returned (.int .i64 (permE l)) ∧ Ext w w' := by
  obtain ⟨p, c, rfl, hc, hlen, hat⟩ := hl.int_all
  have HAT := hide hat
  clear hl hat
  by_cases h0 : l.length < 1 ∨ 5 < l.length
  · rw [permE_bad h0]
    by_cases h1 : l.length < 1
    · have h1' : (l.length : Int) < 1 := by omega
      clear h0 h1
      go_enter Tryd.func30, Tryd.ntmps30
      go_wp2_with fail
      go_ret
      exact ⟨rfl, Ext.refl _⟩
    · have h1' : ¬ (l.length : Int) < 1 := by omega
      have h2' : (5 : Int) < l.length := by omega
      clear h0 h1
      go_enter Tryd.func30, Tryd.ntmps30
      go_wp2_with fail
      go_ret
      exact ⟨rfl, Ext.refl _⟩
  · have HEND := hide (permE_end (l := l) h0)
    have HERR := hide (fun k hk hi he => permE_at (l := l) (k := k) h0 hk hi he)
    have hl5 : l.length ≤ 5 := by omega
    have h1' : ¬ (l.length : Int) < 1 := by omega
    have h2' : ¬ (5 : Int) < l.length := by omega
    have HPA := hide (fun i => show permAt l i = if l.getD i 0 < 0 ∨ (l.length : Int) ≤ l.getD i 0 then 2 else if seenB l i (l.getD i 0) then 7 else 0 from rfl)
    generalize permE l = res at HEND HERR ⊢
    generalize permAt l = pa at HEND HERR HPA
    clear h0
    go_enter Tryd.func30, Tryd.ntmps30
    go_wp2_with fail
    go_loopw [3] (fun x V => ∃ i : Nat, i ≤ l.length ∧ x = .int .i64 i ∧ Hid (Ext w V) ∧ Hid (∀ j, j < i → pa j = 0)) (fun x _ => l.length - (intOf x).toNat)
    case atStart => exact ⟨0, by omega, rfl, Ext.refl _, fun j hj => by omega⟩
    case round =>
      obtain ⟨i, hi, rfl, HE, HJ⟩ := hrel
      by_cases hlt : i < l.length
      · obtain ⟨b, o, rfl, hb, hat⟩ := HAT.out (by omega)
        have hx := hat i hlt _ HE.out
        have hbz : b < wr.heap.size := Nat.lt_of_lt_of_le hb HE.out.size
        have hpa := HPA.out i
        have HER := hide (HERR.out i hlt HJ.out)
        have HX := hide (fun W hE => hat i hlt W hE)
        have HY := hide (fun k (hk : k < l.length) W hE => hat k hk W hE)
        have HS1 := hide (fun k => seenB_succ l k (l.getD i 0))
        have HS2 := hide (fun (h : ∃ k, k < i ∧ l.getD k 0 = l.getD i 0) => seenB_true h)
        generalize l.getD i 0 = x at hx hpa HX HS1 HS2
        clear hat
        by_cases h1 : x < 0
        · have HR : Hid (res = 2) := by
            have h2 : pa i = 2 := by rw [hpa, if_pos (.inl h1)]
            have := HER.out (by rw [h2]; decide)
            rwa [h2] at this
          clear hpa
          go_wp2_with fail
          go_ret
          exact ⟨ret_int HR.out.symm, HE.out⟩
        by_cases h2 : (l.length : Int) ≤ x
        · have HR : Hid (res = 2) := by
            have h2 : pa i = 2 := by rw [hpa, if_pos (.inr h2)]
            have := HER.out (by rw [h2]; decide)
            rwa [h2] at this
          clear hpa
          go_wp2_with fail
          go_ret
          exact ⟨ret_int HR.out.symm, HE.out⟩
        rw [if_neg (by omega)] at hpa
        have HPI := hide hpa
        clear hpa
        go_wp2_with fail
        clear hx hbz
        obtain ⟨wo, rfl⟩ : ∃ wo : World, wo = wr := ⟨_, rfl⟩
        go_loopw [4] (fun y V => ∃ k : Nat, k ≤ i ∧ y = .int .i64 k ∧ Hid (Ext w V) ∧ Hid (seenB l k x = false)) (fun y _ => i - (intOf y).toNat)
        case atStart => exact ⟨0, by omega, rfl, HE, rfl⟩
        case round =>
          clear HE
          obtain ⟨k, hk, rfl, HE, HS⟩ := hrel
          by_cases hkt : k < i
          · have hy := HY.out k (by omega) _ HE.out
            have hx := HX.out _ HE.out
            have hbz : b < wr.heap.size := Nat.lt_of_lt_of_le hb HE.out.size
            have HSK := hide (HS1.out k)
            have HST := hide (fun h => HS2.out ⟨k, hkt, h⟩)
            generalize l.getD k 0 = y at hy HSK HST
            by_cases hyx : y = x
            · have HR : Hid (res = 7) := by
                have h2 : pa i = 7 := by rw [HPI.out, HST.out hyx]; rfl
                have := HER.out (by rw [h2]; decide)
                rwa [h2] at this
              subst hyx
              go_wp2_with fail
              refine wp_region_ext (by kernel_rfl) (by kernel_rfl) ?_
              repeat (go_big_quiet_step (fail))
              refine wpQuiet_nil ?_
              rintro w9 ⟨⟨_, hE9⟩, rfl⟩
              go_wp2_with fail
              go_ret
              exact ⟨ret_int HR.out.symm, HE.out.trans hE9⟩
            · have hd : (y == x) = false := by simp [hyx]
              have HS3 : Hid (seenB l (k + 1) x = false) := by show _ = _; rw [HSK.out, HS.out, hd]; rfl
              clear hyx
              go_wp2_with fail
              refine wp_region_ext (by kernel_rfl) (by kernel_rfl) ?_
              repeat (go_big_quiet_step (fail))
              refine wpQuiet_nil ?_
              rintro w9 ⟨⟨_, hE9⟩, rfl⟩
              have HE9 := hide (HE.out.trans hE9)
              clear hE9
              go_wp2_with fail
              go_roundw
              case rel => exact ⟨k + 1, by omega, by go_num, HE9, HS3⟩
              case measure => simp [intOf]; omega
          · obtain rfl : k = i := by omega
            have HJ2 : Hid (∀ j, j < k + 1 → pa j = 0) := fun j hj => by
              by_cases e : j = k
              · subst e; rw [HPI.out, HS.out]; rfl
              · exact HJ.out j (by omega)
            go_wp2_with fail
            go_roundw
            case rel => exact ⟨k + 1, by omega, by go_num, HE, HJ2⟩
            case measure => simp [intOf]; omega
      · obtain rfl : i = l.length := by omega
        have HR := hide (HEND.out HJ.out)
        go_wp2_with fail
        go_ret
        exact ⟨ret_int HR.out.symm, HE.out⟩
end Go.Proofs.YtfnhjalnbmnlaaaDoor

namespace Go.Proofs.YtfnhjalnbmnlaaaDoor
open Go.RowKit

/-- Row q of the renamed graph, the first k processes renamed. -/
def rnR (g : Gr) (l : List Int) (k q : Nat) : Int := if q < l.length ∧ bkN l q < k then ((imgN l (g.r (bkN l q)) l.length : Nat) : Int) else 0
def rnG (g : Gr) (l : List Int) (k : Nat) : Gr := ⟨l.length, rnR g l k 0, rnR g l k 1, rnR g l k 2, rnR g l k 3, rnR g l k 4⟩
theorem rnG_h (g : Gr) (l : List Int) (k q : Nat) (hq : q < 5) : (rnG g l k).h q = rnR g l k q := by
  obtain rfl | rfl | rfl | rfl | rfl : q = 0 ∨ q = 1 ∨ q = 2 ∨ q = 3 ∨ q = 4 := by omega
  all_goals rfl
theorem gr_eq {a b : Gr} (hn : a.n = b.n) (h : ∀ q, q < 5 → a.h q = b.h q) : a = b :=
  Gr.ext_ hn (h 0 (by omega)) (h 1 (by omega)) (h 2 (by omega)) (h 3 (by omega)) (h 4 (by omega))
theorem Gr.set_h_if (g : Gr) (p q : Nat) (x : Int) (hp : p < 5) (hq : q < 5) : (g.set p x).h q = if q = p then x else g.h q := by
  obtain rfl | rfl | rfl | rfl | rfl : p = 0 ∨ p = 1 ∨ p = 2 ∨ p = 3 ∨ p = 4 := by omega
  all_goals
    obtain rfl | rfl | rfl | rfl | rfl : q = 0 ∨ q = 1 ∨ q = 2 ∨ q = 3 ∨ q = 4 := by omega
    all_goals rfl
theorem Gr.set_n_ (g : Gr) (p : Nat) (x : Int) (hp : p < 5) : (g.set p x).n = g.n := by
  obtain rfl | rfl | rfl | rfl | rfl : p = 0 ∨ p = 1 ∨ p = 2 ∨ p = 3 ∨ p = 4 := by omega
  all_goals rfl
theorem rnG_zero (g : Gr) (l : List Int) : rnG g l 0 = ⟨l.length, 0, 0, 0, 0, 0⟩ := by simp [rnG, rnR]
theorem rnG_succ {g : Gr} {l : List Int} (h : PermOk l) {p : Nat} (hp : p < l.length) : (rnG g l p).set (piN l p) ((imgN l (g.r p) l.length : Nat) : Int) = rnG g l (p + 1) := by
  have hpp : piN l p < l.length := (h.nat hp).2
  have h5 := h.n5
  refine gr_eq (Gr.set_n_ _ _ _ (by omega)) fun q hq => ?_
  rw [Gr.set_h_if _ _ _ _ (by omega) hq, rnG_h _ _ _ _ hq, rnG_h _ _ _ _ hq]
  unfold rnR
  by_cases e : q = piN l p
  · subst e
    rw [if_pos rfl, bk_pi h hp, if_pos ⟨hpp, by omega⟩]
  · rw [if_neg e]
    by_cases hql : q < l.length
    · have hne : bkN l q ≠ p := fun e2 => e (by rw [← e2]; exact (pi_bk h hql).1.symm)
      by_cases h3 : bkN l q < p
      · rw [if_pos ⟨hql, h3⟩, if_pos ⟨hql, by omega⟩]
      · rw [if_neg (by omega), if_neg (by omega)]
    · rw [if_neg (by omega), if_neg (by omega)]
theorem rnG_set0 {g : Gr} {l : List Int} (h : PermOk l) {p : Nat} (hp : p < l.length) : (rnG g l p).set (piN l p) 0 = rnG g l p := by
  have hpp : piN l p < l.length := (h.nat hp).2
  have h5 := h.n5
  refine gr_eq (Gr.set_n_ _ _ _ (by omega)) fun q hq => ?_
  rw [Gr.set_h_if _ _ _ _ (by omega) hq, rnG_h _ _ _ _ hq]
  by_cases e : q = piN l p
  · subst e
    unfold rnR
    rw [if_pos rfl, bk_pi h hp, if_neg (by omega)]
  · rw [if_neg e]
theorem rnG_all {g : Gr} {l : List Int} (hg : Wf g l.length) (h : PermOk l) : rnG g l l.length = permG g l := by
  have hw := perm_wf hg h
  have h5 := h.n5
  refine gr_eq hw.n_eq.symm fun q hq => ?_
  rw [rnG_h _ _ _ _ hq, hw.row q]
  unfold rnR
  by_cases hql : q < l.length
  · rw [if_pos ⟨hql, (pi_bk h hql).2⟩]
    unfold permG
    rw [natG_r _ _ h5, if_pos hql]
  · rw [if_neg (by omega), hw.out q (by omega)]; rfl
end Go.Proofs.YtfnhjalnbmnlaaaDoor

namespace Go.Proofs.YtfnhjalnbmnlaaaDoor
open Go.RowKit
attribute [local go_sem] Oper.semAt_some

set_option maxRecDepth 16000 in
set_option maxHeartbeats 4000000 in
theorem renamed_any (a : Gr) (l : List Int) (ha : Wf a l.length) (h : PermOk l) (u : Value) (w : World) (hl : Row icells 1 w u l) : Calls Tryd.prog 73 #[a.v, u] w fun e w' => e = .returned (permG a l).v ∧ Ext w w' := by
  obtain ⟨pp, c, rfl, hc, hlen, hat⟩ := hl.int_all
  have HAT := hide hat
  have HPN := hide (fun i hi => h.nat (i := i) hi)
  have HMS := hide (fun p hp => rnG_succ (g := a) h (p := p) hp)
  have HM0 := hide (fun p hp => rnG_set0 (g := a) h (p := p) hp)
  have HMZ := hide (rnG_zero a l)
  have HRR := hide (rnG_all ha h)
  have hn5 := h.n5
  have HA := hide ha
  have HN := hide ha.n_eq
  have HU := hide (fun p k => show imgN l (a.r p) (k + 1) = imgN l (a.r p) k ||| (if (a.r p).testBit k then 2 ^ piN l k else 0) from rfl)
  have HUL := hide (fun p k hk => imgN_lt h (a.r p) k hk)
  have HU0 := hide (fun p => show imgN l (a.r p) 0 = 0 from rfl)
  generalize rnG a l = mk at HMS HM0 HMZ HRR
  generalize permG a l = r at HRR ⊢
  generalize hso : (fun p k => imgN l (a.r p) k) = so
  have hso' : ∀ p k, imgN l (a.r p) k = so p k := fun p k => by rw [← hso]
  simp only [hso'] at HU HUL HU0 HMS
  clear hso hso' hl hat
  have HH := hide (fun (x p : Nat) (hx : x < 32) (hp : p ≤ 60) W => rhas_any (x : Int) (p : Int) W (by omega) (by omega) (by omega) (by omega))
  clear ha h
  go_enter Tryd.func73, Tryd.ntmps73
  go_wp2_with fail
  have HT := hide ((One1.mk_ w a).make a.n)
  have hsz : ((w.alloc (gobj a)).alloc gobj0).heap.size = w.heap.size + 1 + 1 := by rw [World.size_alloc, World.size_alloc]
  rw [hsz] at HT
  clear hsz
  change Code.wp _ _ _ _ (((w.alloc (gobj a)).alloc gobj0).alloc (gobj ⟨a.n, 0, 0, 0, 0, 0⟩))
  generalize ((w.alloc (gobj a)).alloc gobj0).alloc (gobj ⟨a.n, 0, 0, 0, 0, 0⟩) = W at HT ⊢
  rw [HN.out, ← HMZ.out] at HT
  generalize w.heap.size + 1 + 1 = gb at HT ⊢
  have HPL : Hid (∀ i, i < l.length → piN l i < l.length ∧ l.getD i 0 = (piN l i : Int)) := fun i hi => ⟨(HPN.out i hi).2, (HPN.out i hi).1⟩
  clear HPN HMZ
  generalize hn : l.length = n at *
  generalize hpi : piN l = pi at *
  clear hn hpi
  go_loopw [6] (fun x wr => ∃ p : Nat, p ≤ n ∧ x = .int .i64 p ∧ Hid (OneG w wr a gb (mk p))) (fun x _ => n - (intOf x).toNat)
  case atStart => exact ⟨0, by omega, rfl, HT⟩
  case round =>
    clear HT
    obtain ⟨p, hp, rfl, HT⟩ := hrel
    obtain ⟨c0, -, -, -, -, -, z0⟩ := HT.out.a.cells
    rw [HN.out] at c0
    by_cases hlt : p < n
    · obtain ⟨b, o, rfl, hb, hat⟩ := HAT.out (by omega)
      have HX := hide hat
      clear hat
      go_wp2_with fail
      clear c0 z0
      obtain ⟨hq1, hq2⟩ := HPL.out p hlt
      have HT0 : Hid (OneG w wr a gb ((mk p).set (pi p) (so p 0 : Nat))) := by
        show OneG _ _ _ _ _
        have := HT.out
        rw [← HM0.out p (by omega)] at this
        rw [HU0.out]
        exact this
      have HQ2 := hide hq2
      clear hq2
      obtain ⟨wo, rfl⟩ : ∃ wo : World, wo = wr := ⟨_, rfl⟩
      go_loopw [7] (fun x V => ∃ m : Nat, m ≤ n ∧ x = .int .i64 m ∧ Hid (OneG w V a gb ((mk p).set (pi p) (so p m : Nat)))) (fun x _ => n - (intOf x).toNat)
      case atStart => exact ⟨0, by omega, rfl, HT0⟩
      case round =>
        clear HT0 HT
        obtain ⟨m, hm, rfl, HT⟩ := hrel
        obtain ⟨c0, -, -, -, -, -, z0⟩ := HT.out.a.cells
        rw [HN.out] at c0
        by_cases hmt : m < n
        · have hp5 : (p : Int) < 5 := by omega
          have hm5 : (m : Int) < 5 := by omega
          obtain ⟨hm1, hm2⟩ := HPL.out m hmt
          have HM2 := hide hm2
          clear hm2
          generalize hqq : pi m = qm at *
          have hqm5 : qm < 5 := by omega
          have hpp5 : ((pi p : Nat) : Int) < 5 := by omega
          obtain ⟨ra, -⟩ := HT.out.a.row (p := p) (by omega)
          rw [HA.out.row] at ra
          have HC2 := hide (HH.out (a.r p) m (HA.out.lt32 p) (by omega))
          have hu := HU.out p m
          rw [hqq] at hu
          clear hqq
          have hul := HUL.out p m (by omega)
          have hul2 : so p m < 32 := Nat.lt_of_lt_of_le hul (pow2_32 hn5)
          have hpw := pow2_32 (n := qm) (by omega)
          have hsh := pow_shl qm (by omega)
          have hor := i64_or_nat (so p m) (2 ^ qm) (Nat.lt_of_lt_of_le hul2 (by decide)) (Nat.lt_of_le_of_lt hpw (by decide))
          clear hul hul2
          rw [has_nat, Int.toNat_natCast] at HC2
          cases hbit : (a.r p).testBit m with
          | false =>
            rw [hbit] at HC2 hu
            have HU2 : Hid (so p (m + 1) = so p m) := by show _ = _; rw [hu]; simp
            clear hu hor hbit hsh hpw
            go_wp2_with (go_at_call 75; refine (HC2.out _).mono ?_; rintro e w' ⟨rfl, rfl⟩)
            go_roundw
            case rel => exact ⟨m + 1, by omega, by go_num, by rw [HU2.out]; exact HT⟩
            case measure => simp [intOf]; omega
          | true =>
            rw [hbit] at HC2 hu
            have HU2 : Hid (so p (m + 1) = so p m ||| 2 ^ qm) := by show _ = _; rw [hu]; simp
            clear hu hbit hpw
            generalize 2 ^ qm = y at hsh hor HU2
            go_wp2_with (go_at_call 75; refine (HC2.out _).mono ?_; rintro e w' ⟨rfl, rfl⟩)
            obtain ⟨rg, fg⟩ := HT.out.g.row (p := pi p) (by omega)
            rw [Gr.set_h _ _ _ (by omega)] at rg
            have z3 := lt_of_heap HT.out.g
            have hxp := HX.out p hlt _ HT.out.ext
            rw [HQ2.out] at hxp
            have hxm := HX.out m hmt _ HT.out.ext
            rw [HM2.out] at hxm
            have hbz : b < w'.heap.size := Nat.lt_of_lt_of_le hb HT.out.ext.size
            go_still_tail 15, (by kernel_rfl)
            change wpList _ _ _ _ _ w'.drew
            have HT := hide (HT.out.ext_ (Ext.refl w').drew)
            obtain ⟨rg9, fg9⟩ := HT.out.g.row (p := pi p) (by omega)
            have HNEW := hide (HT.out.set (p := pi p) (by omega) (so p m ||| y : Nat))
            rw [Gr.set_set] at HNEW
            have z9 := lt_of_heap HT.out.g
            clear ra rg fg z0 z3 c0 hxp hxm hbz
            generalize w'.drew = w9 at *
            go_wp2_with fail
            go_roundw
            case rel => exact ⟨m + 1, by omega, by go_num, by rw [HU2.out]; exact HNEW⟩
            case measure => simp [intOf]; omega
        · obtain rfl : m = n := by omega
          have HMS2 : Hid ((mk p).set (pi p) (so p m : Nat) = mk (p + 1)) := HMS.out p (by omega)
          go_wp2_with fail
          go_roundw
          case rel => exact ⟨p + 1, by omega, by go_num, by rw [← HMS2.out]; exact HT⟩
          case measure => simp [intOf]; omega
    · obtain rfl : p = n := by omega
      rw [HRR.out] at HT
      obtain ⟨a0, a1, a2, a3, a4, a5, az⟩ := HT.out.g.cells
      obtain ⟨g, hg⟩ := HT.out.c
      obtain ⟨d0, d1, d2, d3, d4, d5, dz⟩ := hg.cells
      obtain ⟨f0, f1, f2, f3, f4, f5⟩ := hg.frozen
      have HG := hide hg
      clear hg
      go_wp2_with fail
      exact bodyPost_ret (v := r.v) (results_gr rfl _ rfl (HG.out.store r)) rfl ⟨rfl, HT.out.ext.gstore (by omega) r⟩
end Go.Proofs.YtfnhjalnbmnlaaaDoor

namespace Go.Proofs.YtfnhjalnbmnlaaaDoor
open Go.RowKit
attribute [local go_sem] Oper.semAt_some

end Go.Proofs.YtfnhjalnbmnlaaaDoor

namespace Go.Proofs.YtfnhjalnbmnlaaaDoor
open Go.RowKit

theorem perm_comp {a b : Gr} {l : List Int} (ha : Wf a l.length) (hb : Wf b l.length) (h : PermOk l) : permG (compG a b) l = compG (permG a l) (permG b l) := by
  have hpa := perm_wf ha h
  have hpb := perm_wf hb h
  have hc := comp_wf ha hb
  refine wf_ext (perm_wf hc h) (comp_wf hpa hpb) fun p q hp hq => ?_
  obtain ⟨p, hp', rfl⟩ := pi_surj h hp
  obtain ⟨q, hq', rfl⟩ := pi_surj h hq
  rw [perm_bit hc h hp' hq', Bool.eq_iff_iff, comp_bit ha hb hp', comp_bit hpa hpb hp]
  constructor
  · rintro ⟨m, h1, h2⟩
    have hm := (hb.bit_lt h1).1
    exact ⟨piN l m, by rw [perm_bit hb h hp' hm]; exact h1, by rw [perm_bit ha h hm hq']; exact h2⟩
  · rintro ⟨M, h1, h2⟩
    obtain ⟨m, hm, rfl⟩ := pi_surj h (hpb.bit_lt h1).1
    rw [perm_bit hb h hp' hm] at h1
    rw [perm_bit ha h hm hq'] at h2
    exact ⟨m, h1, h2⟩
theorem rev_comp {a b : Gr} {n : Nat} (ha : Wf a n) (hb : Wf b n) : revG (compG a b) = compG (revG b) (revG a) := by
  have hra := rev_wf ha
  have hrb := rev_wf hb
  have hc := comp_wf ha hb
  refine wf_ext (rev_wf hc) (comp_wf hrb hra) fun p q hp hq => ?_
  rw [rev_bit hc hp, Bool.eq_iff_iff, comp_bit ha hb hq, comp_bit hrb hra hp]
  constructor
  · rintro ⟨m, h1, h2⟩
    exact ⟨m, by rw [rev_bit ha hp]; exact h2, by rw [rev_bit hb (hb.bit_lt h1).1]; exact h1⟩
  · rintro ⟨m, h1, h2⟩
    have hm := (hra.bit_lt h1).1
    rw [rev_bit ha hp] at h1
    rw [rev_bit hb hm] at h2
    exact ⟨m, h2, h1⟩
theorem rev_rev {a : Gr} {n : Nat} (ha : Wf a n) : revG (revG a) = a := by
  have hr := rev_wf ha
  refine wf_ext (rev_wf hr) ha fun p q hp hq => ?_
  rw [rev_bit hr hp, rev_bit ha hq]
theorem inv_at {l : List Int} (h : PermOk l) {k : Nat} (hk : k < l.length) : (invL l l.length).getD (piN l k) 0 = k := invL_at h _ (Nat.le_refl _) k hk
theorem inv_ok {l : List Int} (h : PermOk l) : PermOk (invL l l.length) := by
  have hlen := invL_len l l.length
  refine ⟨by rw [hlen]; exact h.n1, by rw [hlen]; exact h.n5, fun i hi => ?_, fun i j hi hj => ?_⟩
  · rw [hlen] at hi ⊢
    obtain ⟨k, hk, rfl⟩ := pi_surj h hi
    rw [inv_at h hk]; omega
  · rw [hlen] at hi
    obtain ⟨k, hk, rfl⟩ := pi_surj h hi
    obtain ⟨m, hm, rfl⟩ := pi_surj h (show j < l.length by omega)
    rw [inv_at h hk, inv_at h hm]
    intro e
    have : m = k := by omega
    subst this; omega
theorem perm_back {a : Gr} {l : List Int} (ha : Wf a l.length) (h : PermOk l) : permG (permG a l) (invL l l.length) = a := by
  have hlen := invL_len l l.length
  have hpa := perm_wf ha h
  have hi := inv_ok h
  have hpa' : Wf (permG a l) (invL l l.length).length := by rw [hlen]; exact hpa
  have hw := perm_wf hpa' hi
  rw [hlen] at hw
  refine wf_ext hw ha fun p q hp hq => ?_
  have e1 : piN (invL l l.length) (piN l p) = p := by unfold piN; rw [show (invL l l.length).getD (l.getD p 0).toNat 0 = p from inv_at h hp]; rfl
  have e2 : piN (invL l l.length) (piN l q) = q := by unfold piN; rw [show (invL l l.length).getD (l.getD q 0).toNat 0 = q from inv_at h hq]; rfl
  have := perm_bit hpa' hi (p := piN l p) (q := piN l q) (by rw [hlen]; exact (h.nat hp).2) (by rw [hlen]; exact (h.nat hq).2)
  rw [e1, e2, perm_bit ha h hp hq] at this
  exact this
/-- What the products and renamings of the law are. -/
structure RenOk (a b : Gr) (l L : List Int) (ab x pa pb r ra rb : Gr) : Prop where
  e1 : composeS a b = (ab, 0)
  e2 : permuteS ab l = (x, 0)
  e3 : permuteS a l = (pa, 0)
  e4 : permuteS b l = (pb, 0)
  e5 : composeS pa pb = (x, 0)
  e7 : permuteS pa L = (a, 0)
  f1 : reverseS ab = (r, 0)
  f2 : reverseS a = (ra, 0)
  f3 : reverseS b = (rb, 0)
  f4 : composeS rb ra = (r, 0)
  f5 : reverseS r = (ab, 0)
theorem permE_of {l : List Int} (h : PermOk l) : permE l = 0 := by
  have := h.n1; have := h.n5
  refine permE_end (by omega) fun i hi => ?_
  unfold permAt
  have hb := h.bd i hi
  rw [if_neg (by omega)]
  cases hs : seenB l i (l.getD i 0) with
  | false => rfl
  | true =>
    obtain ⟨k, hk, he⟩ := List.any_eq_true.1 (show (List.range i).any _ = true from hs)
    exact absurd (by simpa using he) (h.inj i k hi (List.mem_range.1 hk))
theorem permS_wf {g : Gr} {l : List Int} (hg : Wf g l.length) (h : PermOk l) : permuteS g l = (permG g l, 0) := permuteS_0 (chk_of_wf hg) (permE_of h) hg.n_eq.symm
theorem revS_wf {g : Gr} {n : Nat} (hg : Wf g n) : reverseS g = (revG g, 0) := by unfold reverseS; rw [chk_of_wf hg]; rfl
theorem ren_ok {a b : Gr} {l : List Int} (h1 : bothS a b = 0) (h2 : (l.length : Int) = a.n) (h3 : permE l = 0) : ∃ ab x pa pb r ra rb, RenOk a b l (invL l l.length) ab x pa pb r ra rb := by
  obtain ⟨n, ha, hb⟩ := bothS_ok h1
  have h := permE_ok h3
  have hn : n = l.length := by have := ha.n_eq; omega
  subst hn
  have hab := comp_wf ha hb
  have hpa := perm_wf ha h
  have hpb := perm_wf hb h
  have hlen := invL_len l l.length
  have hpa' : Wf (permG a l) (invL l l.length).length := by rw [hlen]; exact hpa
  exact ⟨_, _, _, _, _, _, _, compS_wf ha hb, permS_wf hab h, permS_wf ha h, permS_wf hb h, (compS_wf hpa hpb).trans (by rw [perm_comp ha hb h]), (permS_wf hpa' (inv_ok h)).trans (by rw [perm_back ha h]),
    revS_wf hab, revS_wf ha, revS_wf hb, (compS_wf (rev_wf hb) (rev_wf ha)).trans (by rw [rev_comp ha hb]), (revS_wf (rev_wf hab)).trans (by rw [rev_rev hab])⟩
end Go.Proofs.YtfnhjalnbmnlaaaDoor
