/-
  FewWords of chapter 16's reference.
  Conditions: as each theorem states.
-/
import Derived.Test.YtmkmgimmlohamaaCount
namespace Go.Proofs.Ytmkmgimmlohamaa
open Go.RowKit
attribute [local go_sem] Oper.semAt_some

/-- What FewWords answers. -/
def fewW (A : Adv) (k : Int) : Bool := afew A && (decide (achk A ≠ 0) || (decide (rdsErr k ≠ 0) || (decide (cnt A 4096 k.toNat 0 ≤ 100) || decide (4096 < cnt A 4096 k.toNat 0))))
theorem abox2 (w : World) (n : Int) (sv : Value) {w1 : World} (hE : Ext (w.alloc (.cells #[.int .i64 n, sv] 24)) w1) : w1.cell? ⟨w.heap.size, 0, none⟩ = some (.int .i64 n) ∧ w1.cell? ⟨w.heap.size, 1, none⟩ = some sv ∧ w.heap.size < w1.heap.size := by
  refine ⟨by rw [hE.cell (by simp), cell_new]; rfl, by rw [hE.cell (by simp), cell_new]; rfl, by have := hE.size; simp at this; omega⟩

set_option maxHeartbeats 2000000 in
theorem rfewwords_any (A : Adv) (v : Value) (k : Int) (w : World) (hA : AdvRep w v A) :
    Calls Try.prog 28 #[v, .int .i64 k] w fun e w' => e = .returned (.bool (fewW A k)) ∧ Ext w w' := by
  have HF := hide (fun W (hE : Ext w W) => rfew_any A v W (hA.ext hE))
  have HC := hide (fun W (hE : Ext w W) => racheck_any A v W (hA.ext hE))
  have HN := hide (fun W (hE : Ext w W) h0 h1 h2 => rnumber_any A v k 4096 W (hA.ext hE) h0 h1 h2 (by decide) (by decide))
  have HRD := hide (fun W => (rrounds_any k W))
  obtain ⟨p, c, rfl, hc, hl, hat⟩ := hA.all_
  clear hA hat
  have hE0 : Ext w (w.alloc (.cells #[.int .i64 A.n, .slice p A.L c] 24)) := (Ext.refl w).alloc _
  have HB := hide (fun w1 => abox2 w A.n (.slice p A.L c) (w1 := w1))
  generalize hres : fewW A k = res
  unfold fewW at hres
  cases hf : afew A with
  | false =>
    rw [hf] at HF hres
    rw [Bool.false_and] at hres
    subst hres
    clear hf HC HN HRD
    go_enter Try.func28, Try.ntmps28
    go_wp2_with fail
    refine (HF.out _ hE0).mono ?_
    rintro e w1 ⟨rfl, hE⟩
    go_wp2_with fail
    go_ret
    exact ⟨rfl, hE0.trans hE⟩
  | true =>
    rw [hf] at HF hres
    rw [Bool.true_and] at hres
    clear hf
    by_cases h1 : achk A = 0
    · have hHC := HC.out
      rw [h1] at hHC
      have HC := hide hHC
      clear hHC
      rw [show decide (achk A ≠ 0) = false from decide_eq_false (not_not_intro h1), Bool.false_or] at hres
      by_cases h2 : rdsErr k = 0
      · rw [show decide (rdsErr k ≠ 0) = false from decide_eq_false (not_not_intro h2), Bool.false_or] at hres
        rw [h2] at HRD
        have hr := rdsErr_zero h2
        have HN := hide (fun W hE => HN.out W hE h1 hr.1 (by omega))
        clear h1 h2 hr
        have HRES := hide hres
        clear hres
        generalize cnt A 4096 k.toNat 0 = x at HN HRES
        by_cases h3 : x ≤ 100
        · have hr := HRES.out
          have d1 : decide (x ≤ (100 : Int)) = true := decide_eq_true h3
          rw [d1, Bool.true_or] at hr
          subst hr
          clear h3
          go_enter Try.func28, Try.ntmps28
          go_wp2_with fail
          refine (HF.out _ hE0).mono ?_
          rintro e w1 ⟨rfl, hE⟩
          obtain ⟨c0, c1, hz⟩ := HB.out _ hE
          go_wp2_with fail
          refine (HC.out _ (hE0.trans hE)).mono ?_
          rintro e w2 ⟨rfl, hE2⟩
          have hE := hE.trans hE2
          clear c0 c1 hE2
          obtain ⟨c0, c1, hz⟩ := HB.out _ hE
          go_wp2_with fail
          refine (HRD.out _).mono ?_
          rintro e w3 ⟨rfl, rfl⟩
          go_wp2_with fail
          refine (HN.out _ (hE0.trans hE)).mono ?_
          rintro e w4 ⟨rfl, hE2⟩
          go_wp2_with fail
          go_ret
          exact ⟨rfl, (hE0.trans hE).trans hE2⟩
        · have hr := HRES.out
          have d1 : decide (x ≤ (100 : Int)) = false := decide_eq_false h3
          rw [d1, Bool.false_or] at hr
          clear h3
          by_cases h4 : 4096 < x
          · have d2 : decide ((4096 : Int) < x) = true := decide_eq_true h4
            rw [d2] at hr
            subst hr
            clear h4
            go_enter Try.func28, Try.ntmps28
            go_wp2_with fail
            refine (HF.out _ hE0).mono ?_
            rintro e w1 ⟨rfl, hE⟩
            obtain ⟨c0, c1, hz⟩ := HB.out _ hE
            go_wp2_with fail
            refine (HC.out _ (hE0.trans hE)).mono ?_
            rintro e w2 ⟨rfl, hE2⟩
            have hE := hE.trans hE2
            clear c0 c1 hE2
            obtain ⟨c0, c1, hz⟩ := HB.out _ hE
            go_wp2_with fail
            refine (HRD.out _).mono ?_
            rintro e w3 ⟨rfl, rfl⟩
            go_wp2_with fail
            refine (HN.out _ (hE0.trans hE)).mono ?_
            rintro e w4 ⟨rfl, hE2⟩
            go_wp2_with fail
            go_ret
            exact ⟨rfl, (hE0.trans hE).trans hE2⟩
          · have d2 : decide ((4096 : Int) < x) = false := decide_eq_false h4
            rw [d2] at hr
            subst hr
            clear h4
            go_enter Try.func28, Try.ntmps28
            go_wp2_with fail
            refine (HF.out _ hE0).mono ?_
            rintro e w1 ⟨rfl, hE⟩
            obtain ⟨c0, c1, hz⟩ := HB.out _ hE
            go_wp2_with fail
            refine (HC.out _ (hE0.trans hE)).mono ?_
            rintro e w2 ⟨rfl, hE2⟩
            have hE := hE.trans hE2
            clear c0 c1 hE2
            obtain ⟨c0, c1, hz⟩ := HB.out _ hE
            go_wp2_with fail
            refine (HRD.out _).mono ?_
            rintro e w3 ⟨rfl, rfl⟩
            go_wp2_with fail
            refine (HN.out _ (hE0.trans hE)).mono ?_
            rintro e w4 ⟨rfl, hE2⟩
            go_wp2_with fail
            go_ret
            exact ⟨rfl, (hE0.trans hE).trans hE2⟩
      · rw [show decide (rdsErr k ≠ 0) = true from decide_eq_true h2, Bool.true_or] at hres
        subst hres
        have hb : (rdsErr k != 0) = true := by simp [h2]
        clear h1 h2 HN
        generalize rdsErr k = ck at *
        go_enter Try.func28, Try.ntmps28
        go_wp2_with fail
        refine (HF.out _ hE0).mono ?_
        rintro e w1 ⟨rfl, hE⟩
        obtain ⟨c0, c1, hz⟩ := HB.out _ hE
        go_wp2_with fail
        refine (HC.out _ (hE0.trans hE)).mono ?_
        rintro e w2 ⟨rfl, hE2⟩
        go_wp2_with fail
        refine (HRD.out _).mono ?_
        rintro e w3 ⟨rfl, rfl⟩
        go_wp2_with fail
        go_ret
        exact ⟨rfl, (hE0.trans hE).trans hE2⟩
    · rw [show decide (achk A ≠ 0) = true from decide_eq_true h1, Bool.true_or] at hres
      subst hres
      have hb : (achk A != 0) = true := by simp [h1]
      clear h1 HN
      generalize achk A = ck at *
      go_enter Try.func28, Try.ntmps28
      go_wp2_with fail
      refine (HF.out _ hE0).mono ?_
      rintro e w1 ⟨rfl, hE⟩
      obtain ⟨c0, c1, hz⟩ := HB.out _ hE
      go_wp2_with fail
      refine (HC.out _ (hE0.trans hE)).mono ?_
      rintro e w2 ⟨rfl, hE2⟩
      go_wp2_with fail
      go_ret
      exact ⟨rfl, (hE0.trans hE).trans hE2⟩

end Go.Proofs.Ytmkmgimmlohamaa
