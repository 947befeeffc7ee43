/-
  The law of chapter 20 that inclusion is an order: the walk.
  Conditions: none.
-/
import Derived.Test.YtmkmgimmlohamaaIncC
namespace Go.Proofs.Ytmkmgimmlohamaa
open Go.RowKit
attribute [local go_sem] Oper.semAt_some

open Classical in
set_option maxRecDepth 100000 in
set_option maxHeartbeats 8000000 in
theorem inclusionOrders_law (A : Adv) (u : Value) (B : Adv) (v : Value) (C : Adv) (x : Value) (w : World) (hA : AdvRep w u A) (hB : AdvRep w v B) (hC : AdvRep w x C) :
    Calls Try.prog 7 #[u, v, x] w fun e w' => e = .returned (.bool true) ∧ Ext w w' := by
  have HA := hide hA
  have HB := hide hB
  have HC := hide hC
  obtain ⟨p, c, rfl, -⟩ := hA.all_
  obtain ⟨q, d, rfl, -⟩ := hB.all_
  obtain ⟨r, k, rfl, -⟩ := hC.all_
  clear hA hB hC
  have HN := hide (TriBox.new A B C p c q d r k w)
  have HE := hide ((((Ext.refl w).alloc (.cells #[.int .i64 A.n, .slice p A.L c] 24)).alloc (.cells #[.int .i64 B.n, .slice q B.L d] 24)).alloc (.cells #[.int .i64 C.n, .slice r C.L k] 24))
  obtain ⟨W1, hW1⟩ : ∃ W1, ((w.alloc (.cells #[.int .i64 A.n, .slice p A.L c] 24)).alloc (.cells #[.int .i64 B.n, .slice q B.L d] 24)).alloc (.cells #[.int .i64 C.n, .slice r C.L k] 24) = W1 := ⟨_, rfl⟩
  rw [hW1] at HN HE
  have HW1 := hide hW1
  clear hW1
  go_enter Try.func7, Try.ntmps7
  obtain ⟨z, hz⟩ : ∃ z, w.heap.size = z := ⟨_, rfl⟩
  rw [hz] at HN
  go_wp2_with fail
  rw [HW1.out]
  clear HW1
  have AW : ∀ W, Ext w W → Hid (Calls Try.prog 11 #[] W fun e w' => e = .returned (.bool true) ∧ Ext w w') := fun W hW => (awake20 W).mono fun _ _ h => ⟨h.1, hW.trans h.2⟩
  have HAW := hide AW
  clear AW hz
  refine (rfew2_any A B _ _ W1 (HA.out.ext HE.out) (HB.out.ext HE.out)).mono ?_
  rintro e W2 ⟨rfl, hX⟩
  replace HN := hide (HN.out.ext hX)
  replace HE := hide (HE.out.trans hX)
  clear hX
  clear W1
  by_cases hab : (afew A && afew B) = true
  case neg =>
    rw [Bool.not_eq_true] at hab
    rw [hab]
    go_wp2_with fail
    refine (HAW.out _ HE.out).mono ?_
    rintro e W3 ⟨rfl, hX⟩
    go_wp2_with fail
    go_ret
    exact ⟨rfl, hX⟩
  rw [hab]
  have HAB := hide hab
  clear hab
  obtain ⟨z0, a0, a1, z1, b0, b1, z2, c0, c1⟩ := HN.out.cells
  go_wp2_with fail
  refine (rfew_any C _ W2 (HC.out.ext HE.out)).mono ?_
  rintro e W3 ⟨rfl, hX⟩
  replace HN := hide (HN.out.ext hX)
  replace HE := hide (HE.out.trans hX)
  clear hX z0 a0 a1 z1 b0 b1 z2 c0 c1
  clear W2
  by_cases hc : afew C = true
  case neg =>
    rw [Bool.not_eq_true] at hc
    rw [hc]
    go_wp2_with fail
    refine (HAW.out _ HE.out).mono ?_
    rintro e W3 ⟨rfl, hX⟩
    go_wp2_with fail
    go_ret
    exact ⟨rfl, hX⟩
  rw [hc]
  have HCF := hide hc
  clear hc
  obtain ⟨z0, a0, a1, z1, b0, b1, z2, c0, c1⟩ := HN.out.cells
  go_wp2_with fail
  refine (rboth_any A B _ _ W3 (HA.out.ext HE.out) (HB.out.ext HE.out)).mono ?_
  rintro e W4 ⟨rfl, hX⟩
  replace HN := hide (HN.out.ext hX)
  replace HE := hide (HE.out.trans hX)
  clear hX z0 a0 a1 z1 b0 b1 z2 c0 c1
  clear W3
  by_cases hb1 : bothI A B = 0
  case neg =>
    have hd : (bothI A B != 0) = true := by simp [hb1]
    clear hb1
    generalize bothI A B = res at hd ⊢
    go_wp2_with fail
    refine (HAW.out _ HE.out).mono ?_
    rintro e W3 ⟨rfl, hX⟩
    go_wp2_with fail
    go_ret
    exact ⟨rfl, hX⟩
  have HB1 := hide hb1
  rw [hb1]
  clear hb1
  obtain ⟨z0, a0, a1, z1, b0, b1, z2, c0, c1⟩ := HN.out.cells
  go_wp2_with fail
  refine (rboth_any A C _ _ W4 (HA.out.ext HE.out) (HC.out.ext HE.out)).mono ?_
  rintro e W5 ⟨rfl, hX⟩
  replace HN := hide (HN.out.ext hX)
  replace HE := hide (HE.out.trans hX)
  clear hX z0 a0 a1 z1 b0 b1 z2 c0 c1
  clear W4
  by_cases hb1 : bothI A C = 0
  case neg =>
    have hd : (bothI A C != 0) = true := by simp [hb1]
    clear hb1
    generalize bothI A C = res at hd ⊢
    go_wp2_with fail
    refine (HAW.out _ HE.out).mono ?_
    rintro e W3 ⟨rfl, hX⟩
    go_wp2_with fail
    go_ret
    exact ⟨rfl, hX⟩
  have HB2 := hide hb1
  rw [hb1]
  clear hb1
  have hm : movesN A ≤ 4611686018427387904 ∧ movesN B ≤ 4611686018427387904 ∧ movesN C ≤ 4611686018427387904 := by
    have := HAB.out
    rw [Bool.and_eq_true] at this
    exact ⟨afew_moves this.1, afew_moves this.2, afew_moves HCF.out⟩
  have HM := hide hm
  have hz : achk A = 0 ∧ achk B = 0 ∧ achk C = 0 ∧ A.n = B.n ∧ A.n = C.n := ⟨(bothI_zero HB1.out).1, (bothI_zero HB1.out).2.1, (bothI_zero HB2.out).2.1, (bothI_zero HB1.out).2.2, (bothI_zero HB2.out).2.2⟩
  have HAA := hide (bothI_of hz.1 hz.1 rfl)
  have HBC := hide (bothI_of hz.2.1 hz.2.2.1 (hz.2.2.2.1.symm.trans hz.2.2.2.2))
  have HBA := hide (bothI_of hz.2.1 hz.1 hz.2.2.2.1.symm)
  clear hm hz
  obtain ⟨z0, a0, a1, z1, b0, b1, z2, c0, c1⟩ := HN.out.cells
  go_wp2_with fail
  refine ((pincludes_any A A _ _ W5 (HA.out.ext HE.out) (HA.out.ext HE.out) HM.out.1 HM.out.1).mono fun _ _ h => inc_told HAA.out h).mono ?_
  rintro e W6 ⟨x1, wordx1, rfl, hX, hr, hf⟩
  replace HN := hide (HN.out.ext hX)
  replace HE := hide (HE.out.trans hX)
  clear hX hr hf z0 a0 a1 z1 b0 b1 z2 c0 c1
  clear W5
  obtain ⟨z0, a0, a1, z1, b0, b1, z2, c0, c1⟩ := HN.out.cells
  go_wp2_with fail
  refine ((pincludes_any A B _ _ W6 (HA.out.ext HE.out) (HB.out.ext HE.out) HM.out.1 HM.out.2.1).mono fun _ _ h => inc_told HB1.out h).mono ?_
  rintro e W7 ⟨x2, wordx2, rfl, hX, hr, hf⟩
  replace HN := hide (HN.out.ext hX)
  replace HE := hide (HE.out.trans hX)
  clear hX hr hf z0 a0 a1 z1 b0 b1 z2 c0 c1
  clear W6
  obtain ⟨z0, a0, a1, z1, b0, b1, z2, c0, c1⟩ := HN.out.cells
  go_wp2_with fail
  refine ((pincludes_any B C _ _ W7 (HB.out.ext HE.out) (HC.out.ext HE.out) HM.out.2.1 HM.out.2.2).mono fun _ _ h => inc_told HBC.out h).mono ?_
  rintro e W8 ⟨x3, wordx3, rfl, hX, hr, hf⟩
  replace HN := hide (HN.out.ext hX)
  replace HE := hide (HE.out.trans hX)
  clear hX hr hf z0 a0 a1 z1 b0 b1 z2 c0 c1
  clear W7
  obtain ⟨z0, a0, a1, z1, b0, b1, z2, c0, c1⟩ := HN.out.cells
  go_wp2_with fail
  refine ((pincludes_any A C _ _ W8 (HA.out.ext HE.out) (HC.out.ext HE.out) HM.out.1 HM.out.2.2).mono fun _ _ h => inc_told HB2.out h).mono ?_
  rintro e W9 ⟨x4, wordx4, rfl, hX, hr, hf⟩
  replace HN := hide (HN.out.ext hX)
  replace HE := hide (HE.out.trans hX)
  clear hX hr hf z0 a0 a1 z1 b0 b1 z2 c0 c1
  clear W8
  obtain ⟨z0, a0, a1, z1, b0, b1, z2, c0, c1⟩ := HN.out.cells
  go_wp2_with fail
  refine ((pincludes_any B A _ _ W9 (HB.out.ext HE.out) (HA.out.ext HE.out) HM.out.2.1 HM.out.1).mono fun _ _ h => inc_told HBA.out h).mono ?_
  rintro e W10 ⟨x5, wordx5, rfl, hX, hr, hf⟩
  replace HN := hide (HN.out.ext hX)
  replace HE := hide (HE.out.trans hX)
  clear hX hr hf z0 a0 a1 z1 b0 b1 z2 c0 c1
  clear W9
  obtain ⟨z0, a0, a1, z1, b0, b1, z2, c0, c1⟩ := HN.out.cells
  go_wp2_with fail
  refine ((pequiv_any A B _ _ W10 (HA.out.ext HE.out) (HB.out.ext HE.out) HM.out.1 HM.out.2.1).mono fun _ _ h => eqv_told HB1.out h).mono ?_
  rintro e W11 ⟨x6, wordx6, rfl, hX, hr, hf⟩
  have HRx6 := hide hr
  have HFx6 := hide hf
  replace HN := hide (HN.out.ext hX)
  replace HE := hide (HE.out.trans hX)
  clear hX hr hf z0 a0 a1 z1 b0 b1 z2 c0 c1
  clear W10
  obtain ⟨z0, a0, a1, z1, b0, b1, z2, c0, c1⟩ := HN.out.cells
  go_wp2_with fail
  refine ((pequiv_any B A _ _ W11 (HB.out.ext HE.out) (HA.out.ext HE.out) HM.out.2.1 HM.out.1).mono fun _ _ h => eqv_told HBA.out h).mono ?_
  rintro e W12 ⟨x7, wordx7, rfl, hX, hr, hf⟩
  replace HRx6 := hide (HRx6.out.ext hX)
  have HRx7 := hide hr
  have HFx7 := hide hf
  replace HN := hide (HN.out.ext hX)
  replace HE := hide (HE.out.trans hX)
  clear hX hr hf z0 a0 a1 z1 b0 b1 z2 c0 c1
  clear W11
  have hs : wordx6 = wordx7 := eqv_same HFx6.out HFx7.out
  have HSQ := hide (fun V (hV : Ext W12 V) => sequal_rd wordx6 wordx7 x6 x7 V (HRx6.out.ext hV) (HRx7.out.ext hV))
  rw [show decide (wordx6 = wordx7) = true from decide_eq_true hs] at HSQ
  have HT : Hid (Inc A B → Inc B C → Inc A C) := fun h1 h2 => h1.trans h2
  rw [decide_eq_true (Inc.refl A)]
  clear hs HFx6 HFx7 HRx6 HRx7 HN HM HAA HBC HBA HB1 HB2 HA HB HC HAB HCF
  have hkey : Hid (∀ a b c d : Bool, (a = true → b = true → c = true) → decide (Inc A B) = a → decide (Inc B C) = b → decide (Inc A C) = c → decide (Inc B A) = d → True) := fun _ _ _ _ _ _ _ _ _ => trivial
  clear hkey
  have h1 : decide (Inc A B) = true → decide (Inc B C) = true → decide (Inc A C) = true := fun h1 h2 => decide_eq_true (HT.out (of_decide_eq_true h1) (of_decide_eq_true h2))
  clear HT
  generalize decide (Inc A B) = ab at h1 ⊢
  generalize decide (Inc B C) = bc at h1 ⊢
  generalize decide (Inc A C) = ac at h1 ⊢
  generalize decide (Inc B A) = ba
  cases ab <;> cases bc <;> cases ac <;> cases ba
  all_goals
    first
    | exact absurd (h1 rfl rfl) (by decide)
    | (clear h1
       dsimp only [Bool.and_true, Bool.and_false, Bool.true_and, Bool.false_and, Bool.and_self]
       go_wp2_with fail
       refine (HSQ.out W12 (Ext.refl _)).mono ?_
       rintro e W13 ⟨rfl, hX⟩
       go_wp2_with fail
       refine (HAW.out _ (HE.out.trans hX)).mono ?_
       rintro e W14 ⟨rfl, hX2⟩
       go_wp2_with fail
       go_ret
       exact ⟨rfl, hX2⟩)
end Go.Proofs.Ytmkmgimmlohamaa
