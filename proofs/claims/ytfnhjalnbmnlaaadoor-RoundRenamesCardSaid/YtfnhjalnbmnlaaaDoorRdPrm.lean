/-
  Renamed rounds: round.Permute, and the reference's Image, Renamed, Permute.
  Conditions: none.
-/
import Derived.Test.YtfnhjalnbmnlaaaDoorRdA
import Derived.Test.YtfnhjalnbmnlaaaDoorNews
namespace Go.Proofs.YtfnhjalnbmnlaaaDoor
open Go.RowKit
attribute [local go_sem] Oper.semAt_some

theorem rpermS_r {r : Rd} {l : List Int} (h : rchk r ≠ 0) : rpermS r l = (rz0, rchk r) := if_pos h
theorem rpermS_l {r : Rd} {l : List Int} (h : rchk r = 0) (h2 : permE l ≠ 0) : rpermS r l = (rz0, permE l) := by unfold rpermS; rw [if_neg (fun k => k h), if_pos h2]
theorem rpermS_n {r : Rd} {l : List Int} (h : rchk r = 0) (h2 : permE l = 0) (h3 : (l.length : Int) ≠ r.g.n) : rpermS r l = (rz0, 22) := by unfold rpermS; rw [if_neg (fun k => k h), if_neg (fun k => k h2), if_pos h3]
theorem rpermS_0 {r : Rd} {l : List Int} (h : rchk r = 0) (h2 : permE l = 0) (h3 : (l.length : Int) = r.g.n) : rpermS r l = (permR r l, 0) := by unfold rpermS; rw [if_neg (fun k => k h), if_neg (fun k => k h2), if_neg (fun k => k h3)]

theorem n32' {n : Nat} (h : n ≤ 5) {s : Nat} (hs : s < 2 ^ n) : s < 32 := Nat.lt_of_lt_of_le hs (pow2_32 h)
set_option maxRecDepth 16000 in
set_option maxHeartbeats 2000000 in
theorem rdpermute_any (r : Rd) (l : List Int) (u : Value) (w : World) (hu : Row icells 1 w u l) : Calls Tryd.prog 12 #[r.v, u] w (RetR (rpermS r l) w) := by
  have HC := hide (fun W => rcheck_any r W)
  have HU := hide hu
  have HP := hide (fun W (hE : Ext w W) => permute_any r.g l u W (hu.ext hE))
  obtain ⟨p, c, rfl, hc, hlen, -⟩ := hu.int_all
  clear hu
  by_cases h1 : rchk r = 0
  case neg =>
    have HR := hide (rpermS_r (l := l) h1)
    generalize rpermS r l = res at HR ⊢
    generalize rchk r = e at HC HR h1
    have hd : (e != 0) = true := by simp [h1]
    have H1 := hide h1
    clear h1
    go_enter Tryd.func12, Tryd.ntmps12
    go_upto_region 1 with fail
    have HB2 : Hid (RdBox ((w.alloc (robj r)).alloc robj0) w.heap.size r) := (rd_new w r).alloc _
    have HB4 : Hid (RdBox ((w.alloc (robj r)).alloc robj0) (w.heap.size + 1) rz0) := by
      have := rd_new (w.alloc (robj r)) rz0
      rwa [World.size_alloc] at this
    have HE : Hid (Ext w ((w.alloc (robj r)).alloc robj0)) := ((Ext.refl w).alloc _).alloc _
    generalize (w.alloc (robj r)).alloc robj0 = W at HB2 HB4 HE ⊢
    obtain ⟨c0, c1, c2, c3, c4, c5, c6, cz⟩ := HB2.out.cells
    go_wp2_with fail
    clear c0 c1 c2 c3 c4 c5 c6 cz
    refine (HC.out _).mono ?_
    rintro x w1 ⟨rfl, hE⟩
    have HE := hide (HE.out.trans hE)
    have HB4 := hide (HB4.out.ext hE)
    clear hE
    obtain ⟨d0, d1, d2, d3, d4, d5, d6, dz⟩ := HB4.out.cells
    obtain ⟨f0, f1, f2, f3, f4, f5, f6⟩ := HB4.out.frozen
    go_wp2_with fail
    exact bodyPost_ret (v := .tuple #[rz0.v, .int .i64 e]) (results_rd2 rfl _ rfl rfl (HB4.out.store rz0)) rfl ⟨by rw [HR.out], HE.out.rstore (by omega) rz0⟩
  case pos =>
  rw [h1] at HC
  obtain ⟨n, hr⟩ := rwf_of h1
  by_cases h2 : permE l = 0 ∧ (l.length : Int) = r.g.n
  case neg =>
    have HQ : Hid (∃ e, e ≠ 0 ∧ permuteS r.g l = (gz0, e) ∧ rpermS r l = (rz0, e)) := by
      by_cases h3 : permE l = 0
      · have h4 : (l.length : Int) ≠ r.g.n := fun h => h2 ⟨h3, h⟩
        exact ⟨22, by decide, permuteS_n (wf_chk hr.g) h3 h4, rpermS_n h1 h3 h4⟩
      · exact ⟨permE l, h3, permuteS_l (wf_chk hr.g) h3, rpermS_l h1 h3⟩
    obtain ⟨e, he, hp, hr2⟩ := HQ.out
    rw [hp] at HP
    have HR := hide hr2
    have hd : (e != 0) = true := by simp [he]
    have H0 := hide he
    clear h1 h2 hr HQ hp hr2 he
    generalize rpermS r l = res at HR ⊢
    go_enter Tryd.func12, Tryd.ntmps12
    go_upto_region 1 with fail
    have HB2 : Hid (RdBox ((w.alloc (robj r)).alloc robj0) w.heap.size r) := (rd_new w r).alloc _
    have HB4 : Hid (RdBox ((w.alloc (robj r)).alloc robj0) (w.heap.size + 1) rz0) := by
      have := rd_new (w.alloc (robj r)) rz0
      rwa [World.size_alloc] at this
    have HE : Hid (Ext w ((w.alloc (robj r)).alloc robj0)) := ((Ext.refl w).alloc _).alloc _
    generalize (w.alloc (robj r)).alloc robj0 = W at HB2 HB4 HE ⊢
    obtain ⟨c0, c1, c2, c3, c4, c5, c6, cz⟩ := HB2.out.cells
    go_wp2_with fail
    clear c0 c1 c2 c3 c4 c5 c6 cz
    refine (HC.out _).mono ?_
    rintro x w1 ⟨rfl, hE⟩
    have HE := hide (HE.out.trans hE)
    have HB2 := hide (HB2.out.ext hE)
    have HB4 := hide (HB4.out.ext hE)
    clear hE
    obtain ⟨c0, c1, c2, c3, c4, c5, c6, cz⟩ := HB2.out.cells
    go_wp2_with fail
    clear c0 c1 c2 c3 c4 c5 c6 cz
    refine (HP.out _ HE.out).mono ?_
    rintro x w2 ⟨rfl, hE⟩
    have HE := hide ((HE.out.trans hE).alloc (gobj gz0))
    have HB4 := hide ((HB4.out.ext hE).alloc (gobj gz0))
    clear hE
    go_upto_region 5 with fail
    change Code.wp _ _ _ _ (w2.alloc (gobj gz0))
    generalize w2.alloc (gobj gz0) = W2 at HE HB4 ⊢
    obtain ⟨d0, d1, d2, d3, d4, d5, d6, dz⟩ := HB4.out.cells
    obtain ⟨f0, f1, f2, f3, f4, f5, f6⟩ := HB4.out.frozen
    go_wp2_with fail
    exact bodyPost_ret (v := .tuple #[rz0.v, .int .i64 e]) (results_rd2 rfl _ rfl rfl (HB4.out.store rz0)) rfl ⟨by rw [HR.out], HE.out.rstore (by omega) rz0⟩
  case pos =>
  have HR := hide (rpermS_0 h1 h2.1 h2.2)
  have hq := permuteS_0 (wf_chk hr.g) h2.1 h2.2
  have hnl : l.length = n := by have := hr.g.n_eq; have := h2.2; omega
  have hflt := hr.f_lt
  rw [← hnl] at hflt
  have HS := hide (fun W (hE : Ext w W) => set_ok l (permE_ok h2.1) h2.1 r.f.toNat hflt _ W (HU.out.ext hE))
  rw [← hr.f_eq] at HS
  rw [hq] at HP
  have HX : Hid (permR r l = ⟨permG r.g l, (imgN l r.f.toNat l.length : Nat)⟩) := rfl
  generalize permG r.g l = g at HP HX
  generalize imgN l r.f.toNat l.length = f at HS HX
  generalize rpermS r l = res at HR ⊢
  generalize permR r l = q at HR HX
  clear h1 h2 hr hq hflt hnl
  go_enter Tryd.func12, Tryd.ntmps12
  go_upto_region 1 with fail
  have HB2 : Hid (RdBox ((w.alloc (robj r)).alloc robj0) w.heap.size r) := (rd_new w r).alloc _
  have HB4 : Hid (RdBox ((w.alloc (robj r)).alloc robj0) (w.heap.size + 1) rz0) := by
    have := rd_new (w.alloc (robj r)) rz0
    rwa [World.size_alloc] at this
  have HE : Hid (Ext w ((w.alloc (robj r)).alloc robj0)) := ((Ext.refl w).alloc _).alloc _
  generalize (w.alloc (robj r)).alloc robj0 = W at HB2 HB4 HE ⊢
  obtain ⟨c0, c1, c2, c3, c4, c5, c6, cz⟩ := HB2.out.cells
  go_wp2_with fail
  clear c0 c1 c2 c3 c4 c5 c6 cz
  refine (HC.out _).mono ?_
  rintro x w1 ⟨rfl, hE⟩
  have HE := hide (HE.out.trans hE)
  have HB2 := hide (HB2.out.ext hE)
  have HB4 := hide (HB4.out.ext hE)
  clear hE
  obtain ⟨c0, c1, c2, c3, c4, c5, c6, cz⟩ := HB2.out.cells
  go_wp2_with fail
  clear c0 c1 c2 c3 c4 c5 c6 cz
  refine (HP.out _ HE.out).mono ?_
  rintro x w2 ⟨rfl, hE⟩
  have HE := hide ((HE.out.trans hE).alloc (gobj g))
  have HB2 := hide ((HB2.out.ext hE).alloc (gobj g))
  have HB4 := hide ((HB4.out.ext hE).alloc (gobj g))
  have HB7 : Hid (GrBox (w2.alloc (gobj g)) w2.heap.size g) := gr_new w2 g
  clear hE
  go_upto_region 5 with fail
  change Code.wp _ _ _ _ (w2.alloc (gobj g))
  generalize w2.alloc (gobj g) = W2 at HE HB2 HB4 HB7 ⊢
  generalize w2.heap.size = b7 at HB7 ⊢
  obtain ⟨c0, c1, c2, c3, c4, c5, c6, cz⟩ := HB2.out.cells
  go_wp2_with fail
  clear c0 c1 c2 c3 c4 c5 c6 cz
  refine (HS.out _ HE.out).mono ?_
  rintro x w3 ⟨rfl, hE⟩
  have HE := hide (HE.out.trans hE)
  have HB4 := hide (HB4.out.ext hE)
  have HB7 := hide (HB7.out.ext hE)
  clear hE
  obtain ⟨d0, d1, d2, d3, d4, d5, d6, dz⟩ := HB4.out.cells
  obtain ⟨f0, f1, f2, f3, f4, f5, f6⟩ := HB4.out.frozen
  obtain ⟨e0, e1, e2, e3, e4, e5, ez⟩ := HB7.out.cells
  go_wp2_with fail
  have HB := hide (HB4.out.store ⟨g, (f : Nat)⟩)
  have HE2 := hide (HE.out.rstore (b := w.heap.size + 1) (by omega) ⟨g, (f : Nat)⟩)
  change bodyPost _ _ _ _ _ (rstore w3 (w.heap.size + 1) ⟨g, (f : Nat)⟩)
  generalize rstore w3 (w.heap.size + 1) ⟨g, (f : Nat)⟩ = V at HB HE2 ⊢
  rw [← HX.out] at HB
  exact bodyPost_ret (v := .tuple #[q.v, .int .i64 0]) (results_rd2 rfl _ rfl rfl HB.out) rfl ⟨by rw [HR.out], HE2.out⟩
set_option maxRecDepth 16000 in
set_option maxHeartbeats 2000000 in
theorem rimage_any (l : List Int) (h : PermOk l) (s : Nat) (hs : s < 2 ^ l.length) (u : Value) (w : World) (hl : Row icells 1 w u l) :
    Calls Tryd.prog 74 #[u, .int .i64 s] w fun e w' => e = .returned (.int .i64 (imgN l s l.length : Nat)) ∧ Ext w w' := by
  obtain ⟨p, c, rfl, hc, hlen, hat⟩ := hl.int_all
  have HAT := hide hat
  have HI := hide (fun i => show imgN l s (i + 1) = imgN l s i ||| (if s.testBit i then 2 ^ (l.getD i 0).toNat else 0) from rfl)
  have HI0 := hide (show imgN l s 0 = 0 from rfl)
  have HIL := hide (fun i (hi : i ≤ l.length) => n32' h.n5 (imgN_lt h s i hi))
  have HNAT := hide (fun i hi => h.nat (i := i) hi)
  have h5 := h.n5
  have hs32 : s < 32 := n32' h5 hs
  generalize imgN l s = im at HI HI0 HIL ⊢
  clear hl hat h hs
  go_enter Tryd.func74, Tryd.ntmps74
  go_wp2_with fail
  go_loop [5, 6] (fun o x => ∃ i : Nat, i ≤ l.length ∧ x = .int .i64 i ∧ o = .int .i64 (im i : Nat)) (fun _ x => l.length - (intOf x).toNat)
  case atStart => exact ⟨0, by omega, rfl, by rw [HI0.out]; rfl⟩
  case round =>
    obtain ⟨i, hi, rfl, rfl⟩ := hrel
    by_cases hlt : i < l.length
    · obtain ⟨b, o, rfl, hb, hat⟩ := HAT.out (by omega)
      have hx := hat i hlt _ (Ext.refl _)
      obtain ⟨hxn, hxl⟩ := HNAT.out i hlt
      have hi2 := HI.out i
      have hil := HIL.out i (by omega)
      generalize (l.getD i 0).toNat = v at hxn hxl hi2
      rw [hxn] at hx
      have hi5 : (i : Int) < 5 := by omega
      have hv5 : (v : Int) < 5 := by omega
      have h1 := shr1 (p := i) hs32
      rw [and1_bit] at h1
      cases hb2 : s.testBit i with
      | false =>
        rw [hb2, if_neg (by decide), Nat.or_zero] at hi2
        rw [hb2, if_neg (by decide)] at h1
        have HI2 := hide hi2
        clear hat hxn hi2 hx hb2
        generalize im i = x0 at *
        go_wp2_with fail
        go_round
        case rel => exact ⟨i + 1, by omega, by go_num, by rw [HI2.out]⟩
        case measure => simp [intOf]; omega
      | true =>
        rw [hb2, if_pos rfl] at hi2
        rw [hb2, if_pos rfl] at h1
        have hsh := pow_shl v (by omega)
        have hor := i64_or_nat (im i) (2 ^ v) (Nat.lt_of_lt_of_le hil (by decide)) (Nat.lt_of_le_of_lt (pow2_32 (show v ≤ 5 by omega)) (by decide))
        rw [← hi2] at hor
        have HI2 := hide hi2
        clear hat hxn hi2 hb2
        generalize 2 ^ v = y at hsh hor HI2
        generalize im i = x0 at *
        go_wp2_with fail
        go_round
        case rel => exact ⟨i + 1, by omega, by go_num, rfl⟩
        case measure => simp [intOf]; omega
    · obtain rfl : i = l.length := by omega
      go_wp2_with fail
      go_ret
      exact ⟨rfl, Ext.refl _⟩
set_option maxRecDepth 16000 in
set_option maxHeartbeats 2000000 in
theorem rrenamed_any (r : Rd) (l : List Int) (hr : RWf r l.length) (h : PermOk l) (u : Value) (w : World) (hl : Row icells 1 w u l) :
    Calls Tryd.prog 42 #[r.v, u] w fun e w' => e = .returned (permR r l).v ∧ Ext w w' := by
  have H1 := hide (fun W (hE : Ext w W) => renamed_any r.g l hr.g h u W (hl.ext hE))
  have H2 := hide (fun W (hE : Ext w W) => rimage_any l h r.f.toNat hr.f_lt u W (hl.ext hE))
  rw [← hr.f_eq] at H2
  have HX : Hid (permR r l = ⟨permG r.g l, (imgN l r.f.toNat l.length : Nat)⟩) := rfl
  generalize permG r.g l = g at H1 HX
  generalize imgN l r.f.toNat l.length = f at H2 HX
  generalize permR r l = q at HX ⊢
  obtain ⟨p, c, rfl, hc, hlen, -⟩ := hl.int_all
  clear hl hr h
  go_enter Tryd.func42, Tryd.ntmps42
  go_upto_region 1 with fail
  have HB2 : Hid (RdBox ((w.alloc (robj r)).alloc robj0) w.heap.size r) := (rd_new w r).alloc _
  have HB4 : Hid (RdBox ((w.alloc (robj r)).alloc robj0) (w.heap.size + 1) rz0) := by
    have := rd_new (w.alloc (robj r)) rz0
    rwa [World.size_alloc] at this
  have HE : Hid (Ext w ((w.alloc (robj r)).alloc robj0)) := ((Ext.refl w).alloc _).alloc _
  generalize (w.alloc (robj r)).alloc robj0 = W at HB2 HB4 HE ⊢
  refine wp_region_heldAll (fun V => Ext w V ∧ RdBox V w.heap.size r) (by kernel_rfl) ?_
  intro W5 hW5
  have hED : Ext W W5 := by rw [hW5]; exact (Ext.refl W).drew
  clear hW5
  have hS5 : Ext w W5 ∧ RdBox W5 w.heap.size r := ⟨HE.out.trans hED, HB2.out.ext hED⟩
  replace HB4 := hide (HB4.out.ext hED)
  clear hED HE HB2
  refine wpAnyT_take (i := 0) (.pointer (some ⟨w.heap.size, 0, none⟩)) rfl (by kernel_rfl) (by kernel_rfl) (by kernel_rfl) (by simp [Region.wanted]) (fun V hV => by go_simp) hS5 ?_
  try simp only [Act.put, List.getElem_toArray, List.getElem_cons_zero, List.setIfInBounds_toArray, List.set_cons_zero, List.set_cons_succ]
  refine wpAnyT_take (i := 1) (.agg #[.int .i64 r.g.n, .int .i64 r.g.h0, .int .i64 r.g.h1, .int .i64 r.g.h2, .int .i64 r.g.h3, .int .i64 r.g.h4]) rfl (by kernel_rfl) (by kernel_rfl) (by kernel_rfl) (by simp [Region.wanted]) (fun V hV => by 
    obtain ⟨c0, c1, c2, c3, c4, c5, c6, cz⟩ := hV.2.cells
    go_simp) hS5 ?_
  try simp only [Act.put, List.getElem_toArray, List.getElem_cons_zero, List.getElem_cons_succ, List.setIfInBounds_toArray, List.set_cons_zero, List.set_cons_succ]
  refine wpAnyT_take (i := 2) (.slice p l.length c) rfl (by kernel_rfl) (by kernel_rfl) (by kernel_rfl) (by simp [Region.wanted]) (fun V hV => by go_simp) hS5 ?_
  try simp only [Act.put, List.getElem_toArray, List.getElem_cons_zero, List.getElem_cons_succ, List.setIfInBounds_toArray, List.set_cons_zero, List.set_cons_succ]
  refine wpAnyT_take (i := 4) (.slice p l.length c) rfl (by kernel_rfl) (by kernel_rfl) (by kernel_rfl) (by simp [Region.wanted]) (fun V hV => by go_simp) hS5 ?_
  try simp only [Act.put, List.getElem_toArray, List.getElem_cons_zero, List.getElem_cons_succ, List.setIfInBounds_toArray, List.set_cons_zero, List.set_cons_succ]
  refine wpAnyT_take (i := 5) (.pointer (some ⟨w.heap.size, 6, none⟩)) rfl (by kernel_rfl) (by kernel_rfl) (by kernel_rfl) (by simp [Region.wanted]) (fun V hV => by go_simp) hS5 ?_
  try simp only [Act.put, List.getElem_toArray, List.getElem_cons_zero, List.getElem_cons_succ, List.setIfInBounds_toArray, List.set_cons_zero, List.set_cons_succ]
  refine wpAnyT_take (i := 6) (.int .i64 r.f) rfl (by kernel_rfl) (by kernel_rfl) (by kernel_rfl) (by simp [Region.wanted]) (fun V hV => by 
    obtain ⟨c0, c1, c2, c3, c4, c5, c6, cz⟩ := hV.2.cells
    go_simp) hS5 ?_
  try simp only [Act.put, List.getElem_toArray, List.getElem_cons_zero, List.getElem_cons_succ, List.setIfInBounds_toArray, List.set_cons_zero, List.set_cons_succ]
  refine wpAnyT_one (i := 3) rfl (by kernel_rfl) (fun K hK => ?_)
  go_wp2_with fail
  refine (H1.out _ hS5.1).mono ?_
  rintro e w6 ⟨rfl, hE⟩
  have hS6 := And.intro (hS5.1.trans hE) (hS5.2.ext hE)
  replace HB4 := hide (HB4.out.ext hE)
  clear hE
  go_wp2_with fail
  refine ⟨rfl, hK _ _ hS6 ?_⟩
  clear hK K
  try simp only [Act.put, List.getElem_toArray, List.getElem_cons_zero, List.getElem_cons_succ, List.setIfInBounds_toArray, List.set_cons_zero, List.set_cons_succ]
  refine wpAnyT_one (i := 7) rfl (by kernel_rfl) (fun K hK => ?_)
  go_wp2_with fail
  refine (H2.out _ hS6.1).mono ?_
  rintro e w7 ⟨rfl, hE⟩
  have hS7 := And.intro (hS6.1.trans hE) (hS6.2.ext hE)
  replace HB4 := hide (HB4.out.ext hE)
  clear hE
  go_wp2_with fail
  refine ⟨rfl, hK _ _ hS7 ?_⟩
  clear hK K
  try simp only [Act.put, List.getElem_toArray, List.getElem_cons_zero, List.getElem_cons_succ, List.setIfInBounds_toArray, List.set_cons_zero, List.set_cons_succ]
  refine wpAnyT_take (i := 8) (.agg #[.int .i64 g.n, .int .i64 g.h0, .int .i64 g.h1, .int .i64 g.h2, .int .i64 g.h3, .int .i64 g.h4, .int .i64 (f : Nat)]) rfl (by kernel_rfl) (by kernel_rfl) (by kernel_rfl) (by simp [Region.wanted]) (fun V hV => by go_simp) hS7 ?_
  try simp only [Act.put, List.getElem_toArray, List.getElem_cons_zero, List.getElem_cons_succ, List.setIfInBounds_toArray, List.set_cons_zero, List.set_cons_succ]
  obtain ⟨d0, d1, d2, d3, d4, d5, d6, dz⟩ := HB4.out.cells
  obtain ⟨f0, f1, f2, f3, f4, f5, f6⟩ := HB4.out.frozen
  have HB := hide (HB4.out.store ⟨g, (f : Nat)⟩)
  have hS8 : Ext w (rstore w7 (w.heap.size + 1) ⟨g, (f : Nat)⟩) ∧ RdBox (rstore w7 (w.heap.size + 1) ⟨g, (f : Nat)⟩) w.heap.size r := ⟨hS7.1.rstore (by omega) _, (heap_rstore (by omega) _).trans hS7.2⟩
  refine wpAnyT_one (i := 9) rfl (by kernel_rfl) (fun K hK => ?_)
  go_wp2_with fail
  change _ ∧ K _ (rstore w7 (w.heap.size + 1) ⟨g, (f : Nat)⟩)
  refine ⟨rfl, hK _ _ hS8 ?_⟩
  clear hK K d0 d1 d2 d3 d4 d5 d6 dz f0 f1 f2 f3 f4 f5 f6
  generalize rstore w7 (w.heap.size + 1) ⟨g, (f : Nat)⟩ = V at HB hS8 ⊢
  rw [← HX.out] at HB
  refine wpAnyT_done (by kernel_rfl) ?_ _
  go_wp2_with fail
  exact bodyPost_ret (v := q.v) (results_rd rfl _ rfl HB.out) rfl ⟨rfl, hS8.1⟩
set_option maxRecDepth 16000 in
set_option maxHeartbeats 2000000 in
theorem rrdpermute_any (r : Rd) (l : List Int) (u : Value) (w : World) (hu : Row icells 1 w u l) : Calls Tryd.prog 13 #[r.v, u] w (RetR (rpermS r l) w) := by
  have HC := hide (fun W => rrcheck_any r W)
  have HU := hide hu
  have HP := hide (fun W (hE : Ext w W) => rpmcheck_any l u W (hu.ext hE))
  obtain ⟨p, c, rfl, hc, hlen, -⟩ := hu.int_all
  clear hu
  by_cases h1 : rchk r = 0
  case neg =>
    have HR := hide (rpermS_r (l := l) h1)
    generalize rpermS r l = res at HR ⊢
    generalize rchk r = e at HC HR h1
    have hd : (e != 0) = true := by simp [h1]
    have H1 := hide h1
    clear h1
    go_enter Tryd.func13, Tryd.ntmps13
    go_upto_region 1 with fail
    have HB2 : Hid (RdBox ((w.alloc (robj r)).alloc robj0) w.heap.size r) := (rd_new w r).alloc _
    have HB4 : Hid (RdBox ((w.alloc (robj r)).alloc robj0) (w.heap.size + 1) rz0) := by
      have := rd_new (w.alloc (robj r)) rz0
      rwa [World.size_alloc] at this
    have HE : Hid (Ext w ((w.alloc (robj r)).alloc robj0)) := ((Ext.refl w).alloc _).alloc _
    generalize (w.alloc (robj r)).alloc robj0 = W at HB2 HB4 HE ⊢
    obtain ⟨c0, c1, c2, c3, c4, c5, c6, cz⟩ := HB2.out.cells
    go_wp2_with fail
    clear c0 c1 c2 c3 c4 c5 c6 cz
    refine (HC.out _).mono ?_
    rintro x w1 ⟨rfl, hE⟩
    have HE := hide (HE.out.trans hE)
    have HB2 := hide (HB2.out.ext hE)
    have HB4 := hide (HB4.out.ext hE)
    clear hE
    obtain ⟨d0, d1, d2, d3, d4, d5, d6, dz⟩ := HB4.out.cells
    obtain ⟨f0, f1, f2, f3, f4, f5, f6⟩ := HB4.out.frozen
    go_wp2_with fail
    exact bodyPost_ret (v := .tuple #[rz0.v, .int .i64 e]) (results_rd2 rfl _ rfl rfl (HB4.out.store rz0)) rfl ⟨by rw [HR.out], HE.out.rstore (by omega) rz0⟩
  case pos =>
  rw [h1] at HC
  obtain ⟨n, hr⟩ := rwf_of h1
  by_cases h2 : permE l = 0
  case neg =>
    have HR := hide (rpermS_l h1 h2)
    generalize rpermS r l = res at HR ⊢
    generalize permE l = e at HP HR h2
    have hd : (e != 0) = true := by simp [h2]
    have H1 := hide h1
    have H2 := hide h2
    clear h1 h2 hr
    go_enter Tryd.func13, Tryd.ntmps13
    go_upto_region 1 with fail
    have HB2 : Hid (RdBox ((w.alloc (robj r)).alloc robj0) w.heap.size r) := (rd_new w r).alloc _
    have HB4 : Hid (RdBox ((w.alloc (robj r)).alloc robj0) (w.heap.size + 1) rz0) := by
      have := rd_new (w.alloc (robj r)) rz0
      rwa [World.size_alloc] at this
    have HE : Hid (Ext w ((w.alloc (robj r)).alloc robj0)) := ((Ext.refl w).alloc _).alloc _
    generalize (w.alloc (robj r)).alloc robj0 = W at HB2 HB4 HE ⊢
    obtain ⟨c0, c1, c2, c3, c4, c5, c6, cz⟩ := HB2.out.cells
    go_wp2_with fail
    clear c0 c1 c2 c3 c4 c5 c6 cz
    refine (HC.out _).mono ?_
    rintro x w1 ⟨rfl, hE⟩
    have HE := hide (HE.out.trans hE)
    have HB2 := hide (HB2.out.ext hE)
    have HB4 := hide (HB4.out.ext hE)
    clear hE
    go_wp2_with fail
    refine (HP.out _ HE.out).mono ?_
    rintro x w2 ⟨rfl, hE⟩
    have HE := hide (HE.out.trans hE)
    have HB2 := hide (HB2.out.ext hE)
    have HB4 := hide (HB4.out.ext hE)
    clear hE
    obtain ⟨d0, d1, d2, d3, d4, d5, d6, dz⟩ := HB4.out.cells
    obtain ⟨f0, f1, f2, f3, f4, f5, f6⟩ := HB4.out.frozen
    go_wp2_with fail
    exact bodyPost_ret (v := .tuple #[rz0.v, .int .i64 e]) (results_rd2 rfl _ rfl rfl (HB4.out.store rz0)) rfl ⟨by rw [HR.out], HE.out.rstore (by omega) rz0⟩
  case pos =>
  rw [h2] at HP
  by_cases h3 : (l.length : Int) = r.g.n
  case neg =>
    have HR := hide (rpermS_n h1 h2 h3)
    generalize rpermS r l = res at HR ⊢
    have hd : ((l.length : Int) != r.g.n) = true := by simp [h3]
    have H3 := hide h3
    clear h1 h2 h3 hr
    go_enter Tryd.func13, Tryd.ntmps13
    go_upto_region 1 with fail
    have HB2 : Hid (RdBox ((w.alloc (robj r)).alloc robj0) w.heap.size r) := (rd_new w r).alloc _
    have HB4 : Hid (RdBox ((w.alloc (robj r)).alloc robj0) (w.heap.size + 1) rz0) := by
      have := rd_new (w.alloc (robj r)) rz0
      rwa [World.size_alloc] at this
    have HE : Hid (Ext w ((w.alloc (robj r)).alloc robj0)) := ((Ext.refl w).alloc _).alloc _
    generalize (w.alloc (robj r)).alloc robj0 = W at HB2 HB4 HE ⊢
    obtain ⟨c0, c1, c2, c3, c4, c5, c6, cz⟩ := HB2.out.cells
    go_wp2_with fail
    clear c0 c1 c2 c3 c4 c5 c6 cz
    refine (HC.out _).mono ?_
    rintro x w1 ⟨rfl, hE⟩
    have HE := hide (HE.out.trans hE)
    have HB2 := hide (HB2.out.ext hE)
    have HB4 := hide (HB4.out.ext hE)
    clear hE
    go_wp2_with fail
    refine (HP.out _ HE.out).mono ?_
    rintro x w2 ⟨rfl, hE⟩
    have HE := hide (HE.out.trans hE)
    have HB2 := hide (HB2.out.ext hE)
    have HB4 := hide (HB4.out.ext hE)
    clear hE
    obtain ⟨c0, -, -, -, -, -, -, cz⟩ := HB2.out.cells
    obtain ⟨d0, d1, d2, d3, d4, d5, d6, dz⟩ := HB4.out.cells
    obtain ⟨f0, f1, f2, f3, f4, f5, f6⟩ := HB4.out.frozen
    go_wp2_with fail
    exact bodyPost_ret (v := .tuple #[rz0.v, .int .i64 22]) (results_rd2 rfl _ rfl rfl (HB4.out.store rz0)) rfl ⟨by rw [HR.out], HE.out.rstore (by omega) rz0⟩
  case pos =>
  have HR := hide (rpermS_0 h1 h2 h3)
  have hd : ((l.length : Int) != r.g.n) = false := by simp [h3]
  have hnl : l.length = n := by have := hr.g.n_eq; omega
  rw [← hnl] at hr
  have HK := hide (fun W (hE : Ext w W) => rrenamed_any r l hr (permE_ok h2) _ W (HU.out.ext hE))
  generalize rpermS r l = res at HR ⊢
  generalize permR r l = q at HR HK
  have H3 := hide h3
  clear h1 h2 h3 hr hnl
  go_enter Tryd.func13, Tryd.ntmps13
  go_upto_region 1 with fail
  have HB2 : Hid (RdBox ((w.alloc (robj r)).alloc robj0) w.heap.size r) := (rd_new w r).alloc _
  have HB4 : Hid (RdBox ((w.alloc (robj r)).alloc robj0) (w.heap.size + 1) rz0) := by
    have := rd_new (w.alloc (robj r)) rz0
    rwa [World.size_alloc] at this
  have HE : Hid (Ext w ((w.alloc (robj r)).alloc robj0)) := ((Ext.refl w).alloc _).alloc _
  generalize (w.alloc (robj r)).alloc robj0 = W at HB2 HB4 HE ⊢
  obtain ⟨c0, c1, c2, c3, c4, c5, c6, cz⟩ := HB2.out.cells
  go_wp2_with fail
  clear c0 c1 c2 c3 c4 c5 c6 cz
  refine (HC.out _).mono ?_
  rintro x w1 ⟨rfl, hE⟩
  have HE := hide (HE.out.trans hE)
  have HB2 := hide (HB2.out.ext hE)
  have HB4 := hide (HB4.out.ext hE)
  clear hE
  go_wp2_with fail
  refine (HP.out _ HE.out).mono ?_
  rintro x w2 ⟨rfl, hE⟩
  have HE := hide (HE.out.trans hE)
  have HB2 := hide (HB2.out.ext hE)
  have HB4 := hide (HB4.out.ext hE)
  clear hE
  obtain ⟨c0, c1, c2, c3, c4, c5, c6, cz⟩ := HB2.out.cells
  go_wp2_with fail
  clear c0 c1 c2 c3 c4 c5 c6 cz
  refine (HK.out _ HE.out).mono ?_
  rintro x w3 ⟨rfl, hE⟩
  have HE := hide (HE.out.trans hE)
  have HB4 := hide (HB4.out.ext hE)
  clear hE
  obtain ⟨d0, d1, d2, d3, d4, d5, d6, dz⟩ := HB4.out.cells
  obtain ⟨f0, f1, f2, f3, f4, f5, f6⟩ := HB4.out.frozen
  go_wp2_with fail
  exact bodyPost_ret (v := .tuple #[q.v, .int .i64 0]) (results_rd2 rfl _ rfl rfl (HB4.out.store q)) rfl ⟨by rw [HR.out], HE.out.rstore (by omega) q⟩
end Go.Proofs.YtfnhjalnbmnlaaaDoor
