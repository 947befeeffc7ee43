/-
  The law of chapter 20 on Equivalent: the walk.
  Conditions: none.
-/
import Derived.Test.YtmkmgimmlohamaaREqv
namespace Go.Proofs.Ytmkmgimmlohamaa
open Go.RowKit
attribute [local go_sem] Oper.semAt_some

open Classical in
set_option maxRecDepth 100000 in
set_option maxHeartbeats 8000000 in
theorem inclusionCompares_law (A : Adv) (u : Value) (B : Adv) (v : Value) (w : World) (hA : AdvRep w u A) (hB : AdvRep w v B) :
    Calls Try.prog 4 #[u, v] w fun e w' => e = .returned (.bool true) ∧ Ext w w' := by
  have HA := hide hA
  have HB := hide hB
  obtain ⟨p, c, rfl, -⟩ := hA.all_
  obtain ⟨q, d, rfl, -⟩ := hB.all_
  clear hA hB 
  have HN := hide (TwoBox.new A B p c q d w)
  have HE := hide (((Ext.refl w).alloc (.cells #[.int .i64 A.n, .slice p A.L c] 24)).alloc (.cells #[.int .i64 B.n, .slice q B.L d] 24))
  obtain ⟨W1, hW1⟩ : ∃ W1, (w.alloc (.cells #[.int .i64 A.n, .slice p A.L c] 24)).alloc (.cells #[.int .i64 B.n, .slice q B.L d] 24) = W1 := ⟨_, rfl⟩
  rw [hW1] at HN HE
  have HW1 := hide hW1
  clear hW1
  go_enter Try.func4, Try.ntmps4
  obtain ⟨z, hz⟩ : ∃ z, w.heap.size = z := ⟨_, rfl⟩
  rw [hz] at HN
  go_wp2_with fail
  rw [HW1.out]
  clear HW1
  have AW : ∀ W, Ext w W → Hid (Calls Try.prog 11 #[] W fun e w' => e = .returned (.bool true) ∧ Ext w w') := fun W hW => (awake20 W).mono fun _ _ h => ⟨h.1, hW.trans h.2⟩
  have HAW := hide AW
  clear AW hz
  refine (rfew2_any A B _ _ W1 (HA.out.ext HE.out) (HB.out.ext HE.out)).mono ?_
  rintro e W2 ⟨rfl, hX⟩
  replace HN := hide (HN.out.ext hX)
  replace HE := hide (HE.out.trans hX)
  clear hX
  clear W1
  by_cases hab : (afew A && afew B) = true
  case neg =>
    rw [Bool.not_eq_true] at hab
    rw [hab]
    go_wp2_with fail
    refine (HAW.out _ HE.out).mono ?_
    rintro e W3 ⟨rfl, hX⟩
    go_wp2_with fail
    go_ret
    exact ⟨rfl, hX⟩
  rw [hab]
  have hm : movesN A ≤ 4611686018427387904 ∧ movesN B ≤ 4611686018427387904 := by
    rw [Bool.and_eq_true] at hab
    exact ⟨afew_moves hab.1, afew_moves hab.2⟩
  have HM := hide hm
  have HAB := hide hab
  clear hab hm
  have HP := hide (pequiv_any A B _ _ W2 (HA.out.ext HE.out) (HB.out.ext HE.out) HM.out.1 HM.out.2)
  have HR := hide (fun V (hV : Ext W2 V) => requiv_any A B _ _ V (HA.out.ext (HE.out.trans hV)) (HB.out.ext (HE.out.trans hV)))
  generalize hbo : bothI A B = bo at *
  obtain ⟨z0, a0, a1, z1, b0, b1⟩ := HN.out.cells
  go_wp2_with fail
  refine HP.out.mono ?_
  intro e W3 hret
  obtain ⟨x, bx, wx, rfl, hE3, hrx, hx⟩ := eqT_of hret
  have HE3 := hide hE3
  have HN3 := hide (HN.out.ext hE3)
  have HRX := hide hrx
  obtain ⟨px, cx, rfl, -⟩ := hrx
  have HX := hide hx
  rw [hbo]
  clear hE3 hx hret z0 a0 a1 z1 b0 b1
  obtain ⟨z0, a0, a1, z1, b0, b1⟩ := HN3.out.cells
  go_wp2_with fail
  refine (HR.out W3 HE3.out).mono ?_
  rintro e W4 ⟨y, bY, wy, rfl, hE4, hry, hy⟩
  obtain ⟨rfl, rfl⟩ := eqT_same HX.out hy
  rw [hbo]
  have HE4 := hide (HE.out.trans (HE3.out.trans hE4))
  have HRX4 := hide (HRX.out.ext hE4)
  have HRY := hide hry
  obtain ⟨py, cy, rfl, -⟩ := hry
  clear hE4 hy z0 a0 a1 z1 b0 b1 HX hbo HP HR HRX
  go_wp2_with fail
  refine (awake20 W4).mono ?_
  rintro e W5 ⟨rfl, hE5⟩
  have HE5 := hide (HE4.out.trans hE5)
  have HSQ := hide (sequal_rd wx wx _ _ W5 (HRX4.out.ext hE5) (HRY.out.ext hE5))
  rw [decide_eq_true rfl] at HSQ
  have hbb : (bx == bx) = true := by simp
  have hcc : (bo == bo) = true := by simp
  clear hE5 HRX4 HRY
  go_wp2_with fail
  refine HSQ.out.mono ?_
  rintro e W6 ⟨rfl, hE6⟩
  have HE6 := hide (HE5.out.trans hE6)
  clear hE6
  cases bx <;>
  · go_wp2_with fail
    go_ret
    exact ⟨rfl, HE6.out⟩
end Go.Proofs.Ytmkmgimmlohamaa
