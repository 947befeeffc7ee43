/-
  The reference's Permute.
  Conditions: as each theorem states.
-/
import Derived.Test.YtpcboonjalbihaaDoorRRen
namespace Go.Proofs.YtpcboonjalbihaaDoor
open Go.RowKit
attribute [local go_sem] Oper.semAt_some

set_option maxRecDepth 16000 in
set_option maxHeartbeats 2000000 in
theorem rpermute_any (g : Gr) (l : List Int) (u : Value) (w : World) (hu : Row icells 1 w u l) : Calls Tryd.prog 14 #[g.v, u] w (RetG (permuteS g l) w) := by
  have HC := hide (fun W => rgcheck_any g W)
  have HU := hide hu
  have HI := hide (fun W (hE : Ext w W) => rpmcheck_any l u W (hu.ext hE))
  have HRN := hide (fun (ha : Wf g l.length) (h : PermOk l) W (hE : Ext w W) => renamed_any g l ha h u W (hu.ext hE))
  obtain ⟨p, c, rfl, hc, hlen, -⟩ := hu.int_all
  clear hu HU
  by_cases h1 : gchk g = 0
  case neg =>
    have HR := hide (show permuteS g l = (gz0, gchk g) from if_pos h1)
    generalize permuteS g l = res at HR ⊢
    generalize gchk g = e at HC HR h1
    have hd : (e != 0) = true := by simp [h1]
    clear h1 HI HRN
    go_enter Tryd.func14, Tryd.ntmps14
    go_wp2_with fail
    have HT := hide (One1.mk_ w g)
    refine (HC.out _).mono ?_
    rintro r w1 ⟨rfl, hE⟩
    have HT := hide (HT.out.ext_ hE)
    clear hE
    obtain ⟨g', hg⟩ := HT.out.c
    obtain ⟨d0, d1, d2, d3, d4, d5, dz⟩ := hg.cells
    obtain ⟨f0, f1, f2, f3, f4, f5⟩ := hg.frozen
    have HG := hide hg
    clear hg
    go_wp2_with fail
    exact bodyPost_ret (v := .tuple #[gz0.v, .int .i64 e]) (results_gr2 rfl _ rfl rfl (HG.out.store gz0)) rfl ⟨by rw [HR.out], HT.out.ext.gstore (by omega) gz0⟩
  case pos =>
  rw [h1] at HC
  by_cases h2 : permE l = 0
  case neg =>
    have HR := hide (show permuteS g l = (gz0, permE l) by unfold permuteS; rw [if_neg (by simp [h1]), if_pos h2])
    generalize permuteS g l = res at HR ⊢
    generalize permE l = e at HI HR h2
    have hd : (e != 0) = true := by simp [h2]
    clear h2 h1 HRN
    go_enter Tryd.func14, Tryd.ntmps14
    go_wp2_with fail
    have HT := hide (One1.mk_ w g)
    refine (HC.out _).mono ?_
    rintro r w1 ⟨rfl, hE⟩
    have HT := hide (HT.out.ext_ hE)
    clear hE
    go_wp2_with fail
    refine (HI.out _ HT.out.ext).mono ?_
    rintro r w2 ⟨rfl, hE⟩
    have HT := hide (HT.out.ext_ hE)
    clear hE
    obtain ⟨g', hg⟩ := HT.out.c
    obtain ⟨d0, d1, d2, d3, d4, d5, dz⟩ := hg.cells
    obtain ⟨f0, f1, f2, f3, f4, f5⟩ := hg.frozen
    have HG := hide hg
    clear hg
    go_wp2_with fail
    exact bodyPost_ret (v := .tuple #[gz0.v, .int .i64 e]) (results_gr2 rfl _ rfl rfl (HG.out.store gz0)) rfl ⟨by rw [HR.out], HT.out.ext.gstore (by omega) gz0⟩
  case pos =>
  rw [h2] at HI
  by_cases h3 : (l.length : Int) = g.n
  case neg =>
    have HR := hide (show permuteS g l = (gz0, 22) by unfold permuteS; rw [if_neg (by simp [h1]), if_neg (by simp [h2]), if_pos h3])
    generalize permuteS g l = res at HR ⊢
    have hd : ((l.length : Int) != g.n) = true := by simp [h3]
    clear h2 h1 h3 HRN
    go_enter Tryd.func14, Tryd.ntmps14
    go_wp2_with fail
    have HT := hide (One1.mk_ w g)
    refine (HC.out _).mono ?_
    rintro r w1 ⟨rfl, hE⟩
    have HT := hide (HT.out.ext_ hE)
    clear hE
    go_wp2_with fail
    refine (HI.out _ HT.out.ext).mono ?_
    rintro r w2 ⟨rfl, hE⟩
    have HT := hide (HT.out.ext_ hE)
    clear hE
    obtain ⟨c0, -, -, -, -, -, z0⟩ := HT.out.a.cells
    obtain ⟨g', hg⟩ := HT.out.c
    obtain ⟨d0, d1, d2, d3, d4, d5, dz⟩ := hg.cells
    obtain ⟨f0, f1, f2, f3, f4, f5⟩ := hg.frozen
    have HG := hide hg
    clear hg
    go_wp2_with fail
    exact bodyPost_ret (v := .tuple #[gz0.v, .int .i64 22]) (results_gr2 rfl _ rfl rfl (HG.out.store gz0)) rfl ⟨by rw [HR.out], HT.out.ext.gstore (by omega) gz0⟩
  case pos =>
  have HR := hide (show permuteS g l = (permG g l, 0) by unfold permuteS; rw [if_neg (by simp [h1]), if_neg (by simp [h2]), if_neg (by simp [h3])])
  obtain ⟨n, hg⟩ := wf_of h1
  have hnl : n = l.length := by have := hg.n_eq; omega
  subst hnl
  have HRN := hide (HRN.out hg (permE_ok h2))
  have HN := hide hg.n_eq
  generalize permuteS g l = res at HR ⊢
  generalize permG g l = r at HR HRN
  clear h2 h1 h3 hg
  go_enter Tryd.func14, Tryd.ntmps14
  go_wp2_with fail
  have HT := hide (One1.mk_ w g)
  refine (HC.out _).mono ?_
  rintro r w1 ⟨rfl, hE⟩
  have HT := hide (HT.out.ext_ hE)
  clear hE
  go_wp2_with fail
  refine (HI.out _ HT.out.ext).mono ?_
  rintro r w2 ⟨rfl, hE⟩
  have HT := hide (HT.out.ext_ hE)
  clear hE
  obtain ⟨c0, c1, c2, c3, c4, c5, z0⟩ := HT.out.a.cells
  have hd : ((l.length : Int) != g.n) = false := by simp [HN.out]
  go_wp2_with fail
  clear c0 c1 c2 c3 c4 c5 z0
  refine (HRN.out _ HT.out.ext).mono ?_
  rintro e w3 ⟨rfl, hE⟩
  have HT := hide (HT.out.ext_ hE)
  clear hE
  obtain ⟨g', hg⟩ := HT.out.c
  obtain ⟨d0, d1, d2, d3, d4, d5, dz⟩ := hg.cells
  obtain ⟨f0, f1, f2, f3, f4, f5⟩ := hg.frozen
  have HG := hide hg
  clear hg
  go_wp2_with fail
  exact bodyPost_ret (v := .tuple #[r.v, .int .i64 0]) (results_gr2 rfl _ rfl rfl (HG.out.store r)) rfl ⟨by rw [HR.out], HT.out.ext.gstore (by omega) r⟩
end Go.Proofs.YtpcboonjalbihaaDoor
