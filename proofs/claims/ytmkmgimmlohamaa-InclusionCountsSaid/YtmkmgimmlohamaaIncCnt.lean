/-
  The law of chapter 20 on Extra: the walk.
  Conditions: none.
-/
import Derived.Test.YtmkmgimmlohamaaRMore
namespace Go.Proofs.Ytmkmgimmlohamaa
open Go.RowKit
attribute [local go_sem] Oper.semAt_some

open Classical in
set_option maxRecDepth 100000 in
set_option maxHeartbeats 8000000 in
theorem inclusionCounts_law (A : Adv) (u : Value) (B : Adv) (v : Value) (rounds : Int) (w : World) (hA : AdvRep w u A) (hB : AdvRep w v B) :
    Calls Try.prog 6 #[u, v, .int .i64 rounds] w fun e w' => e = .returned (.bool true) ∧ Ext w w' := by
  have HA := hide hA
  have HB := hide hB
  obtain ⟨p, c, rfl, -⟩ := hA.all_
  obtain ⟨q, d, rfl, -⟩ := hB.all_
  clear hA hB 
  have HN := hide (TwoBox.new A B p c q d w)
  have HE := hide (((Ext.refl w).alloc (.cells #[.int .i64 A.n, .slice p A.L c] 24)).alloc (.cells #[.int .i64 B.n, .slice q B.L d] 24))
  obtain ⟨W1, hW1⟩ : ∃ W1, (w.alloc (.cells #[.int .i64 A.n, .slice p A.L c] 24)).alloc (.cells #[.int .i64 B.n, .slice q B.L d] 24) = W1 := ⟨_, rfl⟩
  rw [hW1] at HN HE
  have HW1 := hide hW1
  clear hW1
  go_enter Try.func6, Try.ntmps6
  obtain ⟨z, hz⟩ : ∃ z, w.heap.size = z := ⟨_, rfl⟩
  rw [hz] at HN
  go_wp2_with fail
  rw [HW1.out]
  clear HW1
  have AW : ∀ W, Ext w W → Hid (Calls Try.prog 11 #[] W fun e w' => e = .returned (.bool true) ∧ Ext w w') := fun W hW => (awake20 W).mono fun _ _ h => ⟨h.1, hW.trans h.2⟩
  have HAW := hide AW
  clear AW hz
  refine (rfew2_any A B _ _ W1 (HA.out.ext HE.out) (HB.out.ext HE.out)).mono ?_
  rintro e W2 ⟨rfl, hX⟩
  replace HN := hide (HN.out.ext hX)
  replace HE := hide (HE.out.trans hX)
  clear hX
  clear W1
  by_cases hab : (afew A && afew B) = true
  case neg =>
    rw [Bool.not_eq_true] at hab
    rw [hab]
    go_wp2_with fail
    refine (HAW.out _ HE.out).mono ?_
    rintro e W3 ⟨rfl, hX⟩
    go_wp2_with fail
    go_ret
    exact ⟨rfl, hX⟩
  rw [hab]
  have hm : movesN A ≤ 4611686018427387904 ∧ movesN B ≤ 4611686018427387904 := by
    rw [Bool.and_eq_true] at hab
    exact ⟨afew_moves hab.1, afew_moves hab.2⟩
  have HM := hide hm
  have HAB := hide hab
  clear hab hm
  have hmB : movesN B ≤ 40 := by
    have := HAB.out
    rw [Bool.and_eq_true] at this
    exact (afew_parts this.2).2
  have HMV := hide (rmoves_any B _ W2 (HB.out.ext HE.out) (by
    have := HAB.out
    rw [Bool.and_eq_true] at this
    have := (afew_parts this.2).1
    unfold Adv.L at this
    omega))
  have hcase : (3 < rounds ∧ rounds ≤ 6) ∨ ¬ (3 < rounds ∧ rounds ≤ 6) := Classical.em _
  rcases hcase with ⟨hl1, hl2⟩ | hl
  · have d1 : decide (3 < rounds) = true := decide_eq_true hl1
    have d2 : decide (rounds ≤ 6) = true := decide_eq_true hl2
    clear hl1 hl2
    go_wp2_with fail
    refine (HAW.out _ (HE.out)).mono ?_
    rintro e W3 ⟨rfl, hX⟩
    go_wp2_with fail
    go_ret
    exact ⟨rfl, hX⟩
  have HGO : Hid (∀ b : Bool, decide (3 < rounds) = b → (b = true → decide (rounds ≤ 6) = false)) := fun b hb ht => by
    subst hb
    exact decide_eq_false (by have := of_decide_eq_true ht; omega)
  clear hl
  have HX := hide (fun V (hV : Ext W2 V) => extra_any A B rounds _ _ V (HA.out.ext (HE.out.trans hV)) (HB.out.ext (HE.out.trans hV)) HM.out.1 HM.out.2)
  have HR := hide (fun V (hV : Ext W2 V) => rextra_any A B rounds _ _ V (HA.out.ext (HE.out.trans hV)) (HB.out.ext (HE.out.trans hV)))
  generalize extraS A B rounds = res at HX HR
  generalize hmb : movesN B = mb at HMV hmB
  clear hmb
  obtain ⟨z0, a0, a1, z1, b0, b1⟩ := HN.out.cells
  cases d1 : decide (3 < rounds) with
  | false =>
    clear HGO
    go_wp2_with fail
    refine HMV.out.mono ?_
    rintro e W4 ⟨rfl, hE4⟩
    have HF := hide (HE.out.trans hE4)
    have HN4 := hide (HN.out.ext hE4)
    clear z0 a0 a1 z1 b0 b1
    by_cases h16 : 16 < mb
    · have d3 : decide (16 < mb) = true := decide_eq_true h16
      go_wp2_with fail
      refine (HAW.out _ (HF.out)).mono ?_
      rintro e W3 ⟨rfl, hX⟩
      go_wp2_with fail
      go_ret
      exact ⟨rfl, hX⟩
    have d3 : decide (16 < mb) = false := decide_eq_false h16
    obtain ⟨z0, a0, a1, z1, b0, b1⟩ := HN4.out.cells
    go_wp2_with fail
    refine (HX.out W4 hE4).mono ?_
    rintro e W5 ⟨rfl, hE5⟩
    have HF5 := hide (hE4.trans hE5)
    have HN5 := hide (HN4.out.ext hE5)
    clear z0 a0 a1 z1 b0 b1 hE4 hE5 HN4
    obtain ⟨z0, a0, a1, z1, b0, b1⟩ := HN5.out.cells
    go_wp2_with fail
    refine (HR.out W5 HF5.out).mono ?_
    rintro e W6 ⟨rfl, hE6⟩
    have HF6 := hide (HE.out.trans (HF5.out.trans hE6))
    clear z0 a0 a1 z1 b0 b1 hE6 HN5
    go_wp2_with fail
    refine (HAW.out _ (HF6.out)).mono ?_
    rintro e W3 ⟨rfl, hX⟩
    go_wp2_with fail
    go_ret
    exact ⟨rfl, hX⟩
  | true =>
    have d2 := HGO.out _ d1 rfl
    clear HGO
    go_wp2_with fail
    refine HMV.out.mono ?_
    rintro e W4 ⟨rfl, hE4⟩
    have HF := hide (HE.out.trans hE4)
    have HN4 := hide (HN.out.ext hE4)
    clear z0 a0 a1 z1 b0 b1
    by_cases h16 : 16 < mb
    · have d3 : decide (16 < mb) = true := decide_eq_true h16
      go_wp2_with fail
      refine (HAW.out _ (HF.out)).mono ?_
      rintro e W3 ⟨rfl, hX⟩
      go_wp2_with fail
      go_ret
      exact ⟨rfl, hX⟩
    have d3 : decide (16 < mb) = false := decide_eq_false h16
    obtain ⟨z0, a0, a1, z1, b0, b1⟩ := HN4.out.cells
    go_wp2_with fail
    refine (HX.out W4 hE4).mono ?_
    rintro e W5 ⟨rfl, hE5⟩
    have HF5 := hide (hE4.trans hE5)
    have HN5 := hide (HN4.out.ext hE5)
    clear z0 a0 a1 z1 b0 b1 hE4 hE5 HN4
    obtain ⟨z0, a0, a1, z1, b0, b1⟩ := HN5.out.cells
    go_wp2_with fail
    refine (HR.out W5 HF5.out).mono ?_
    rintro e W6 ⟨rfl, hE6⟩
    have HF6 := hide (HE.out.trans (HF5.out.trans hE6))
    clear z0 a0 a1 z1 b0 b1 hE6 HN5
    go_wp2_with fail
    refine (HAW.out _ (HF6.out)).mono ?_
    rintro e W3 ⟨rfl, hX⟩
    go_wp2_with fail
    go_ret
    exact ⟨rfl, hX⟩
end Go.Proofs.Ytmkmgimmlohamaa
