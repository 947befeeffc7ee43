/-
  graph.Permute.
  Conditions: none.
-/
import Derived.Test.YtfnhjalnbmnlaaaDoorPermP
import Derived.Deep.CutRange
namespace Go.Proofs.YtfnhjalnbmnlaaaDoor
open Go.RowKit
attribute [local go_sem] Oper.semAt_some

/-- Boxes of a graph, of a list, and room for a result. -/
structure PB (w W : World) (g : Gr) (u : Value) : Prop where
  ext : Ext w W
  g : GrBox W w.heap.size g
  s : Box W (w.heap.size + 1) 27 u
  c : ∃ g', GrBox W (w.heap.size + 1 + 1) g'
theorem PB.mk_ (w : World) (g : Gr) (u : Value) : PB w (((w.alloc (gobj g)).alloc (.cells #[u] 27)).alloc gobj0) g u :=
  ⟨(((Ext.refl w).alloc _).alloc _).alloc _, ((gr_new w g).alloc _).alloc _, by
    have := (Box.new (w.alloc (gobj g)) 27 u).alloc gobj0
    rwa [World.size_alloc] at this, gz0, by
    have := gr_new ((w.alloc (gobj g)).alloc (.cells #[u] 27)) gz0
    rwa [World.size_alloc, World.size_alloc] at this⟩
theorem PB.ext_ {w W V : World} {g : Gr} {u : Value} (h : PB w W g u) (hE : Ext W V) : PB w V g u :=
  ⟨h.ext.trans hE, h.g.ext hE, h.s.ext hE, by obtain ⟨c, hc⟩ := h.c; exact ⟨c, hc.ext hE⟩⟩
set_option maxRecDepth 16000 in
set_option maxHeartbeats 1000000 in
theorem permute1_any (g : Gr) (l : List Int) (hg : Wf g l.length) (h : PermOk l) (hE0 : permE l = 0) (q : Nat) (hq : q < l.length) (bp bg bk : Nat) (u ub : Value) (w : World)
    (hbp : Box w bp 27 u) (hu : Row icells 1 w u l) (hbg : GrBox w bg g) (hbk : Box w bk 27 ub) (hub : Row icells 1 w ub (invL l l.length)) :
    Calls Tryd.prog 66 #[.int .i64 q, .pointer (some ⟨bp, 0, none⟩), .pointer (some ⟨bg, 0, none⟩), .pointer (some ⟨bk, 0, none⟩)] w fun e w' => e = .returned (.int .i64 (imgN l (g.r (bkN l q)) l.length : Nat)) ∧ Ext w w' := by
  obtain ⟨hb1, hb2⟩ := pi_bk h hq
  have HS : Hid (∀ W, Ext w W → Calls Tryd.prog 35 #[u, .int .i64 (g.r (bkN l q) : Nat)] W fun e w' => e = .returned (.tuple #[.int .i64 (imgN l (g.r (bkN l q)) l.length : Nat), .int .i64 0]) ∧ Ext W w') :=
    fun W hE => set_ok l h hE0 _ (hg.ltn _) u W (hu.ext hE)
  obtain ⟨hrow, -⟩ := hbg.row (p := bkN l q) (by have := h.n5; omega)
  rw [hg.row] at hrow
  have hbk5 : (bkN l q : Int) < 5 := by have := h.n5; omega
  obtain ⟨p, c, rfl, hc, hlen, hat⟩ := hub.int_all
  rw [invL_len] at hc hlen hat
  obtain ⟨b, o, rfl, hb, hat⟩ := hat (by omega)
  have hx := hat q hq _ (Ext.refl _)
  have hxe : (invL l l.length).getD q 0 = (bkN l q : Int) := by
    obtain ⟨k, hk, rfl⟩ := pi_surj h hq
    rw [bk_pi h hk]
    have := invL_at h _ (Nat.le_refl _) k hk
    unfold piN
    exact this
  rw [hxe] at hx
  obtain ⟨pu, cu, rfl, -, -, -⟩ := hu.int_all
  rw [invL_len] at hbk
  have hc1 := hbp.cell
  have hc3 := hbk.cell
  have z1 := hbp.lt
  have z2 := lt_of_heap hbg
  have z3 := hbk.lt
  have hqI : (q : Int) < l.length := by omega
  clear hat hxe hb1 hb2 hbp hu hbg hbk hub hg h hE0
  generalize bkN l q = k at *
  generalize g.r k = s at *
  generalize imgN l s l.length = res at *
  go_enter Tryd.func66, Tryd.ntmps66
  go_wp2_with fail
  refine wp_region_ext (by kernel_rfl) (by kernel_rfl) ?_
  repeat (go_big_quiet_step ((go_at_call 35; exact Calls.ext_of (HS.out _ (by simp [go_sem])))))
  refine wpQuiet_nil ?_
  rintro w9 ⟨⟨_, hE9⟩, rfl⟩
  clear hx hrow hc1 hc3
  go_wp2_with fail
  go_ret
  exact ⟨rfl, hE9⟩
theorem enters_pm1 : ∀ args w, (callFunc 66 args).run Tryd.prog w = .ok (.enter 66 args) w := fun _ _ => by kernel_rfl
set_option maxHeartbeats 1000000 in
theorem inverse_bad (l : List Int) (hE0 : permE l ≠ 0) (u : Value) (w : World) (hl : Row icells 1 w u l) : Calls Tryd.prog 64 #[u] w fun e w' => e = .returned (.tuple #[.slice none 0 0, .int .i64 (permE l)]) ∧ Ext w w' := by
  have HC := hide (fun W (hE : Ext w W) => pmcheck_any l u W (hl.ext hE))
  obtain ⟨p, c, rfl, -, -, -⟩ := hl.int_all
  generalize permE l = e at *
  have hd : (e != 0) = true := by simp [hE0]
  clear hl hE0
  go_enter Tryd.func64, Tryd.ntmps64
  go_wp2_with fail
  refine (HC.out _ (Ext.refl _)).mono ?_
  rintro r w1 ⟨rfl, hE⟩
  have HE := hide hE
  clear hE
  go_wp2_with fail
  go_ret2
  exact ⟨rfl, HE.out⟩
theorem permuteS_g {g : Gr} {l : List Int} (h : gchk g ≠ 0) : permuteS g l = (gz0, gchk g) := if_pos h
theorem permuteS_l {g : Gr} {l : List Int} (h : gchk g = 0) (h2 : permE l ≠ 0) : permuteS g l = (gz0, permE l) := by unfold permuteS; rw [if_neg (by simp [h]), if_pos h2]
theorem permuteS_n {g : Gr} {l : List Int} (h : gchk g = 0) (h2 : permE l = 0) (h3 : (l.length : Int) ≠ g.n) : permuteS g l = (gz0, 22) := by unfold permuteS; rw [if_neg (by simp [h]), if_neg (by simp [h2]), if_pos h3]
theorem permuteS_0 {g : Gr} {l : List Int} (h : gchk g = 0) (h2 : permE l = 0) (h3 : (l.length : Int) = g.n) : permuteS g l = (permG g l, 0) := by unfold permuteS; rw [if_neg (by simp [h]), if_neg (by simp [h2]), if_neg (by simp [h3])]
theorem wf_len {g : Gr} {l : List Int} (h : gchk g = 0) (h3 : (l.length : Int) = g.n) : Wf g l.length := by
  obtain ⟨n, hn⟩ := wf_of h
  have := hn.n_eq
  have : n = l.length := by omega
  subst this; exact hn
set_option maxRecDepth 16000 in
set_option maxHeartbeats 2000000 in
theorem permute_any (g : Gr) (l : List Int) (u : Value) (w : World) (hu : Row icells 1 w u l) : Calls Tryd.prog 34 #[g.v, u] w (RetG (permuteS g l) w) := by
  have HC := hide (fun W => gcheck_any g W)
  have HU := hide hu
  obtain ⟨p, c, rfl, hc, hlen, -⟩ := hu.int_all
  clear hu
  by_cases h1 : gchk g = 0
  case neg =>
    have HR := hide (permuteS_g (l := l) h1)
    generalize permuteS g l = res at HR ⊢
    generalize gchk g = e at HC HR h1
    have hd : (e != 0) = true := by simp [h1]
    clear h1
    go_enter Tryd.func34, Tryd.ntmps34
    go_wp2_with fail
    have HT := hide (PB.mk_ w g (.slice p l.length c))
    generalize ((w.alloc (gobj g)).alloc (.cells #[.slice p l.length c] 27)).alloc gobj0 = W at HT ⊢
    refine (HC.out _).mono ?_
    rintro r w1 ⟨rfl, hE⟩
    have HT := hide (HT.out.ext_ hE)
    clear hE
    obtain ⟨g', hg⟩ := HT.out.c
    obtain ⟨d0, d1, d2, d3, d4, d5, dz⟩ := hg.cells
    obtain ⟨f0, f1, f2, f3, f4, f5⟩ := hg.frozen
    have HG := hide hg
    clear hg
    go_wp2_with fail
    exact bodyPost_ret (v := .tuple #[gz0.v, .int .i64 e]) (results_gr2 rfl _ rfl rfl (HG.out.store gz0)) rfl ⟨by rw [HR.out], HT.out.ext.gstore (by omega) gz0⟩
  case pos =>
  rw [h1] at HC
  by_cases h2 : permE l = 0
  case neg =>
    have HR := hide (permuteS_l h1 h2)
    have HI := hide (fun W (hE : Ext w W) => inverse_bad l h2 _ W (HU.out.ext hE))
    generalize permuteS g l = res at HR ⊢
    generalize permE l = e at HI HR h2
    have hd : (e != 0) = true := by simp [h2]
    clear h2 h1
    go_enter Tryd.func34, Tryd.ntmps34
    go_wp2_with fail
    have HT := hide (PB.mk_ w g (.slice p l.length c))
    generalize ((w.alloc (gobj g)).alloc (.cells #[.slice p l.length c] 27)).alloc gobj0 = W at HT ⊢
    refine (HC.out _).mono ?_
    rintro r w1 ⟨rfl, hE⟩
    have HT := hide (HT.out.ext_ hE)
    clear hE
    have hs := HT.out.s.cell
    have hsz := HT.out.s.lt
    go_wp2_with fail
    refine (HI.out _ HT.out.ext).mono ?_
    rintro r w2 ⟨rfl, hE⟩
    have HT := hide ((HT.out.ext_ hE).ext_ ((Ext.refl w2).alloc (.cells #[.slice none 0 0] 27)))
    clear hE hs hsz
    obtain ⟨g', hg⟩ := HT.out.c
    obtain ⟨d0, d1, d2, d3, d4, d5, dz⟩ := hg.cells
    obtain ⟨f0, f1, f2, f3, f4, f5⟩ := hg.frozen
    have HG := hide hg
    clear hg
    generalize hw3 : w2.alloc (.cells #[.slice none 0 0] 27) = w3 at HT HG d0 d1 d2 d3 d4 d5 dz f0 f1 f2 f3 f4 f5
    have HW3 := hide hw3
    clear hw3
    go_upto_region 5 with fail
    rw [HW3.out]
    go_wp2_with fail
    exact bodyPost_ret (v := .tuple #[gz0.v, .int .i64 e]) (results_gr2 rfl _ rfl rfl (HG.out.store gz0)) rfl ⟨by rw [HR.out], HT.out.ext.gstore (by omega) gz0⟩
  case pos =>
  have HI := hide (fun W (hE : Ext w W) => inverse_ok l (permE_ok h2) h2 _ W (HU.out.ext hE))
  by_cases h3 : (l.length : Int) = g.n
  case neg =>
    have HR := hide (permuteS_n h1 h2 h3)
    have hd : ((l.length : Int) != g.n) = true := by simp [h3]
    generalize permuteS g l = res at HR ⊢
    clear h1 h2 h3
    go_enter Tryd.func34, Tryd.ntmps34
    go_wp2_with fail
    have HT := hide (PB.mk_ w g (.slice p l.length c))
    generalize ((w.alloc (gobj g)).alloc (.cells #[.slice p l.length c] 27)).alloc gobj0 = W at HT ⊢
    refine (HC.out _).mono ?_
    rintro r w1 ⟨rfl, hE⟩
    have HT := hide (HT.out.ext_ hE)
    clear hE
    have hs := HT.out.s.cell
    have hsz := HT.out.s.lt
    go_wp2_with fail
    refine (HI.out _ HT.out.ext).mono ?_
    rintro r w2 ⟨ub, rfl, hub, hE⟩
    obtain ⟨pb, cb, rfl, -, -, -⟩ := hub.int_all
    have HT := hide ((HT.out.ext_ hE).ext_ ((Ext.refl w2).alloc (.cells #[.slice pb (invL l l.length).length cb] 27)))
    clear hE hs hsz hub
    obtain ⟨g', hg⟩ := HT.out.c
    obtain ⟨d0, d1, d2, d3, d4, d5, dz⟩ := hg.cells
    obtain ⟨f0, f1, f2, f3, f4, f5⟩ := hg.frozen
    obtain ⟨a0, -⟩ := HT.out.g.cells
    have az := lt_of_heap HT.out.g
    have hs := HT.out.s.cell
    have hsz := HT.out.s.lt
    have HG := hide hg
    clear hg
    generalize hw3 : w2.alloc (.cells #[.slice pb (invL l l.length).length cb] 27) = w3 at HT HG d0 d1 d2 d3 d4 d5 dz f0 f1 f2 f3 f4 f5 a0 az hs hsz
    have HW3 := hide hw3
    clear hw3
    go_upto_region 5 with fail
    rw [HW3.out]
    go_wp2_with fail
    exact bodyPost_ret (v := .tuple #[gz0.v, .int .i64 22]) (results_gr2 rfl _ rfl rfl (HG.out.store gz0)) rfl ⟨by rw [HR.out], HT.out.ext.gstore (by omega) gz0⟩
  case pos =>
    have HR := hide (permuteS_0 h1 h2 h3)
    have hwf := wf_len h1 h3
    have HG1 : Hid (permG g l = mkG l.length (fun q => (imgN l (g.r (bkN l q)) l.length : Nat)) l.length) := rfl
    have HM := hide (made_any l.length hwf.n5 66)
    have HP := hide (fun q hq bp bg bk u ub W hbp hu hbg hbk hub => permute1_any g l hwf (permE_ok h2) h2 q hq bp bg bk u ub W hbp hu hbg hbk hub)
    have HN := hide hwf.n_eq
    have hd : ((l.length : Int) != (l.length : Int)) = false := by simp
    generalize permuteS g l = res at HR ⊢
    clear h1 h2 h3 hwf
    go_enter Tryd.func34, Tryd.ntmps34
    go_wp2_with fail
    have HT := hide (PB.mk_ w g (.slice p l.length c))
    generalize ((w.alloc (gobj g)).alloc (.cells #[.slice p l.length c] 27)).alloc gobj0 = W at HT ⊢
    refine (HC.out _).mono ?_
    rintro r w1 ⟨rfl, hE⟩
    have HT := hide (HT.out.ext_ hE)
    clear hE
    have hs := HT.out.s.cell
    have hsz := HT.out.s.lt
    go_wp2_with fail
    refine (HI.out _ HT.out.ext).mono ?_
    rintro r w2 ⟨ub, rfl, hub, hE⟩
    have HUB := hide (hub.ext ((Ext.refl w2).alloc (.cells #[ub] 27)))
    obtain ⟨pb, cb, rfl, -, -, -⟩ := hub.int_all
    have HT := hide ((HT.out.ext_ hE).ext_ ((Ext.refl w2).alloc (.cells #[.slice pb (invL l l.length).length cb] 27)))
    have HBK : Hid (Box (w2.alloc (.cells #[.slice pb (invL l l.length).length cb] 27)) w2.heap.size 27 (.slice pb (invL l l.length).length cb)) := Box.new _ _ _
    clear hE hs hsz hub
    obtain ⟨a0, -⟩ := HT.out.g.cells
    rw [HN.out] at a0
    have az := lt_of_heap HT.out.g
    have hs := HT.out.s.cell
    have hsz := HT.out.s.lt
    generalize hw3 : w2.alloc (.cells #[.slice pb (invL l l.length).length cb] 27) = w3 at HT HUB HBK a0 az hs hsz
    have HW3 := hide hw3
    clear hw3
    go_upto_region 5 with fail
    rw [HW3.out]
    generalize w2.heap.size = bk at HBK ⊢
    go_wp2_with fail
    refine (HM.out _ _ _ enters_pm1 (fun q W hq hE => by exact HP.out q hq _ _ _ _ _ W (HT.out.s.ext hE) (HU.out.ext (HT.out.ext.trans hE)) (HT.out.g.ext hE) (HBK.out.ext hE) (HUB.out.ext hE))).mono ?_
    rintro r w4 ⟨rfl, hE⟩
    rw [← HG1.out]
    have HT := hide (HT.out.ext_ hE)
    clear hE a0 az hs hsz
    obtain ⟨g', hg⟩ := HT.out.c
    obtain ⟨d0, d1, d2, d3, d4, d5, dz⟩ := hg.cells
    obtain ⟨f0, f1, f2, f3, f4, f5⟩ := hg.frozen
    have HG := hide hg
    clear hg
    generalize hr : permG g l = r at HR ⊢
    clear hr
    go_wp2_with fail
    exact bodyPost_ret (v := .tuple #[r.v, .int .i64 0]) (results_gr2 rfl _ rfl rfl (HG.out.store r)) rfl ⟨by rw [HR.out], HT.out.ext.gstore (by omega) r⟩
end Go.Proofs.YtfnhjalnbmnlaaaDoor
