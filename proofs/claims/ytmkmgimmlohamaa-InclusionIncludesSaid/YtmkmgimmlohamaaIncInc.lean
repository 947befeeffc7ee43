/-
  The law of chapter 20 on Includes and Simulation: the walk.
  Conditions: none.
-/
import Derived.Test.YtmkmgimmlohamaaRSim
namespace Go.Proofs.Ytmkmgimmlohamaa
open Go.RowKit
attribute [local go_sem] Oper.semAt_some

open Classical in
set_option maxRecDepth 100000 in
set_option maxHeartbeats 8000000 in
theorem inclusionIncludes_law (A : Adv) (u : Value) (B : Adv) (v : Value) (w : World) (hA : AdvRep w u A) (hB : AdvRep w v B) :
    Calls Try.prog 3 #[u, v] w fun e w' => e = .returned (.bool true) ∧ Ext w w' := by
  have HA := hide hA
  have HB := hide hB
  obtain ⟨p, c, rfl, -⟩ := hA.all_
  obtain ⟨q, d, rfl, -⟩ := hB.all_
  clear hA hB 
  have HN := hide (TwoBox.new A B p c q d w)
  have HE := hide (((Ext.refl w).alloc (.cells #[.int .i64 A.n, .slice p A.L c] 24)).alloc (.cells #[.int .i64 B.n, .slice q B.L d] 24))
  obtain ⟨W1, hW1⟩ : ∃ W1, (w.alloc (.cells #[.int .i64 A.n, .slice p A.L c] 24)).alloc (.cells #[.int .i64 B.n, .slice q B.L d] 24) = W1 := ⟨_, rfl⟩
  rw [hW1] at HN HE
  have HW1 := hide hW1
  clear hW1
  go_enter Try.func3, Try.ntmps3
  obtain ⟨z, hz⟩ : ∃ z, w.heap.size = z := ⟨_, rfl⟩
  rw [hz] at HN
  go_wp2_with fail
  rw [HW1.out]
  clear HW1
  have AW : ∀ W, Ext w W → Hid (Calls Try.prog 11 #[] W fun e w' => e = .returned (.bool true) ∧ Ext w w') := fun W hW => (awake20 W).mono fun _ _ h => ⟨h.1, hW.trans h.2⟩
  have HAW := hide AW
  clear AW hz
  refine (rfew2_any A B _ _ W1 (HA.out.ext HE.out) (HB.out.ext HE.out)).mono ?_
  rintro e W2 ⟨rfl, hX⟩
  replace HN := hide (HN.out.ext hX)
  replace HE := hide (HE.out.trans hX)
  clear hX
  clear W1
  by_cases hab : (afew A && afew B) = true
  case neg =>
    rw [Bool.not_eq_true] at hab
    rw [hab]
    go_wp2_with fail
    refine (HAW.out _ HE.out).mono ?_
    rintro e W3 ⟨rfl, hX⟩
    go_wp2_with fail
    go_ret
    exact ⟨rfl, hX⟩
  rw [hab]
  have hm : movesN A ≤ 4611686018427387904 ∧ movesN B ≤ 4611686018427387904 := by
    rw [Bool.and_eq_true] at hab
    exact ⟨afew_moves hab.1, afew_moves hab.2⟩
  have HM := hide hm
  have HAB := hide hab
  clear hab hm
  have HN2 := HN
  have HE2 := hide (Ext.refl W2)
  have HP := hide (fun V (hV : Ext W2 V) => pincludes_any A B _ _ V (HA.out.ext (HE.out.trans hV)) (HB.out.ext (HE.out.trans hV)) HM.out.1 HM.out.2)
  have HR := hide (fun V (hV : Ext W2 V) => rincludes_any A B _ _ V (HA.out.ext (HE.out.trans hV)) (HB.out.ext (HE.out.trans hV)))
  have HS := hide (fun V (hV : Ext W2 V) => psim_any A B _ _ V (HA.out.ext (HE.out.trans hV)) (HB.out.ext (HE.out.trans hV)) HM.out.1 HM.out.2)
  have HT := hide (fun V (hV : Ext W2 V) => rsim_any A B _ _ V (HA.out.ext (HE.out.trans hV)) (HB.out.ext (HE.out.trans hV)))
  generalize hbo : bothI A B = bo at *
  obtain ⟨z0, a0, a1, z1, b0, b1⟩ := HN2.out.cells
  go_wp2_with fail
  refine (HP.out W2 HE2.out).mono ?_
  intro e W3 hret
  obtain ⟨x, bx, wx, rfl, hE3, hrx, hxx⟩ := inT_of hret
  have HN3 := hide (HN2.out.ext hE3)
  have HE3 := hide (HE2.out.trans hE3)
  have HRx := hide hrx
  have HXx := hide hxx
  have hfx := hrx
  obtain ⟨px, cx, rfl, -⟩ := hfx
  rw [hbo]
  clear hE3 hret z0 a0 a1 z1 b0 b1 hrx hxx
  obtain ⟨z0, a0, a1, z1, b0, b1⟩ := HN3.out.cells
  go_wp2_with fail
  refine (HR.out W3 HE3.out).mono ?_
  intro e W4 hret
  obtain ⟨y, bY, wy, rfl, hE4, hry, hxy⟩ := id hret
  have HN4 := hide (HN3.out.ext hE4)
  have HE4 := hide (HE3.out.trans hE4)
  have HRy := hide hry
  have HXy := hide hxy
  have hfy := hry
  obtain ⟨py, cy, rfl, -⟩ := hfy
  replace HRx := hide (HRx.out.ext hE4)
  rw [hbo]
  clear hE4 hret z0 a0 a1 z1 b0 b1 hry hxy
  obtain ⟨rfl, rfl⟩ := inT_same HXx.out HXy.out
  clear HXx HXy
  obtain ⟨z0, a0, a1, z1, b0, b1⟩ := HN4.out.cells
  go_wp2_with fail
  refine (HS.out W4 HE4.out).mono ?_
  intro e W5 hret
  obtain ⟨s, bs, ls, rfl, hE5, hrs, hxs⟩ := smT_of hret
  have HN5 := hide (HN4.out.ext hE5)
  have HE5 := hide (HE4.out.trans hE5)
  have HRs := hide hrs
  have HXs := hide hxs
  have hfs := hrs
  obtain ⟨ps, cs, rfl, -⟩ := hfs
  replace HRx := hide (HRx.out.ext hE5)
  replace HRy := hide (HRy.out.ext hE5)
  rw [hbo]
  clear hE5 hret z0 a0 a1 z1 b0 b1 hrs hxs
  obtain ⟨z0, a0, a1, z1, b0, b1⟩ := HN5.out.cells
  go_wp2_with fail
  refine (HT.out W5 HE5.out).mono ?_
  intro e W6 hret
  obtain ⟨t, bt, lt, rfl, hE6, hrt, hxt⟩ := id hret
  have HN6 := hide (HN5.out.ext hE6)
  have HE6 := hide (HE5.out.trans hE6)
  have HRt := hide hrt
  have HXt := hide hxt
  have hft := hrt
  obtain ⟨pt, ct, rfl, -⟩ := hft
  replace HRx := hide (HRx.out.ext hE6)
  replace HRy := hide (HRy.out.ext hE6)
  replace HRs := hide (HRs.out.ext hE6)
  rw [hbo]
  clear hE6 hret z0 a0 a1 z1 b0 b1 hrt hxt
  obtain ⟨rfl, rfl⟩ := smT_same HXs.out HXt.out
  clear HXs HXt hbo HP HR HS HT
  go_wp2_with fail
  refine (awake20 W6).mono ?_
  rintro e W7 ⟨rfl, hE7⟩
  have HE7 := hide (HE.out.trans (HE6.out.trans hE7))
  have HSQ := hide (sequal_rd wx wx _ _ W7 (HRx.out.ext hE7) (HRy.out.ext hE7))
  have HSP := hide (fun V (hV : Ext W7 V) => sequal_pr ls ls _ _ V (HRs.out.ext (hE7.trans hV)) (HRt.out.ext (hE7.trans hV)))
  rw [decide_eq_true rfl] at HSQ
  have hdl : decide (ls = ls) = true := decide_eq_true rfl
  rw [hdl] at HSP
  clear hE7 HRx HRy HRs HRt hdl
  go_wp2_with fail
  refine HSQ.out.mono ?_
  rintro e W8 ⟨rfl, hE8⟩
  have HE8 := hide (HE7.out.trans hE8)
  have HSR := hide (HSP.out W8 hE8)
  have hcc : (bo == bo) = true := by simp
  clear hE8 HSP HSQ
  cases bx <;> cases bs <;>
  · go_wp2_with fail
    refine HSR.out.mono ?_
    rintro e W9 ⟨rfl, hE9⟩
    have HE9 := hide (HE8.out.trans hE9)
    clear hE9
    go_wp2_with fail
    go_ret
    exact ⟨rfl, HE9.out⟩
end Go.Proofs.Ytmkmgimmlohamaa
