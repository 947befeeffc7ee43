/-
  The law of chapter 16 on Count and Words: the walk.
  Conditions: none.
-/
import Derived.Test.YtjgkgcjmcpgiaaaLawA
namespace Go.Proofs.Ytjgkgcjmcpgiaaa
open Go.RowKit
attribute [local go_sem] Oper.semAt_some

/-- What FewWords answers. -/
def fewW (A : Adv) (k : Int) : Bool := afew A && (decide (achk A ≠ 0) || (decide (rdsErr k ≠ 0) || (decide (cnt A 4096 k.toNat 0 ≤ 100) || decide (4096 < cnt A 4096 k.toNat 0))))
theorem fewW_few {A : Adv} {k : Int} (h : fewW A k = true) : movesN A ≤ 40 := by
  unfold fewW at h
  rw [Bool.and_eq_true] at h
  exact fewB_moves (by unfold fewB; rw [h.1]; rfl)
theorem abox2 (w : World) (n : Int) (sv : Value) {w1 : World} (hE : Ext (w.alloc (.cells #[.int .i64 n, sv] 24)) w1) : w1.cell? ⟨w.heap.size, 0, none⟩ = some (.int .i64 n) ∧ w1.cell? ⟨w.heap.size, 1, none⟩ = some sv ∧ w.heap.size < w1.heap.size := by
  refine ⟨by rw [hE.cell (by simp), cell_new]; rfl, by rw [hE.cell (by simp), cell_new]; rfl, by have := hE.size; simp at this; omega⟩

set_option maxHeartbeats 2000000 in
theorem rfewwords_any (A : Adv) (v : Value) (k : Int) (w : World) (hA : AdvRep w v A) :
    Calls Try.prog 17 #[v, .int .i64 k] w fun e w' => e = .returned (.bool (fewW A k)) ∧ Ext w w' := by
  have HF := hide (fun W (hE : Ext w W) => rfew_any A v W (hA.ext hE))
  have HC := hide (fun W (hE : Ext w W) => racheck_any A v W (hA.ext hE))
  have HN := hide (fun W (hE : Ext w W) h0 h1 h2 => rnumber_any A v k 4096 W (hA.ext hE) h0 h1 h2 (by decide) (by decide))
  have HRD := hide (fun W => (rrounds_any k W))
  obtain ⟨p, c, rfl, hc, hl, hat⟩ := hA.all_
  clear hA hat
  have hE0 : Ext w (w.alloc (.cells #[.int .i64 A.n, .slice p A.L c] 24)) := (Ext.refl w).alloc _
  have HB := hide (fun w1 => abox2 w A.n (.slice p A.L c) (w1 := w1))
  generalize hres : fewW A k = res
  unfold fewW at hres
  cases hf : afew A with
  | false =>
    rw [hf] at HF hres
    rw [Bool.false_and] at hres
    subst hres
    clear hf HC HN HRD
    go_enter Try.func17, Try.ntmps17
    go_wp2_with fail
    refine (HF.out _ hE0).mono ?_
    rintro e w1 ⟨rfl, hE⟩
    go_wp2_with fail
    go_ret
    exact ⟨rfl, hE0.trans hE⟩
  | true =>
    rw [hf] at HF hres
    rw [Bool.true_and] at hres
    clear hf
    by_cases h1 : achk A = 0
    · have hHC := HC.out
      rw [h1] at hHC
      have HC := hide hHC
      clear hHC
      rw [show decide (achk A ≠ 0) = false from decide_eq_false (not_not_intro h1), Bool.false_or] at hres
      by_cases h2 : rdsErr k = 0
      · rw [show decide (rdsErr k ≠ 0) = false from decide_eq_false (not_not_intro h2), Bool.false_or] at hres
        rw [h2] at HRD
        have hr := rdsErr_zero h2
        have HN := hide (fun W hE => HN.out W hE h1 hr.1 (by omega))
        clear h1 h2 hr
        have HRES := hide hres
        clear hres
        generalize cnt A 4096 k.toNat 0 = x at HN HRES
        by_cases h3 : x ≤ 100
        · have hr := HRES.out
          have d1 : decide (x ≤ (100 : Int)) = true := decide_eq_true h3
          rw [d1, Bool.true_or] at hr
          subst hr
          clear h3
          go_enter Try.func17, Try.ntmps17
          go_wp2_with fail
          refine (HF.out _ hE0).mono ?_
          rintro e w1 ⟨rfl, hE⟩
          obtain ⟨c0, c1, hz⟩ := HB.out _ hE
          go_wp2_with fail
          refine (HC.out _ (hE0.trans hE)).mono ?_
          rintro e w2 ⟨rfl, hE2⟩
          have hE := hE.trans hE2
          clear c0 c1 hE2
          obtain ⟨c0, c1, hz⟩ := HB.out _ hE
          go_wp2_with fail
          refine (HRD.out _).mono ?_
          rintro e w3 ⟨rfl, rfl⟩
          go_wp2_with fail
          refine (HN.out _ (hE0.trans hE)).mono ?_
          rintro e w4 ⟨rfl, hE2⟩
          go_wp2_with fail
          go_ret
          exact ⟨rfl, (hE0.trans hE).trans hE2⟩
        · have hr := HRES.out
          have d1 : decide (x ≤ (100 : Int)) = false := decide_eq_false h3
          rw [d1, Bool.false_or] at hr
          clear h3
          by_cases h4 : 4096 < x
          · have d2 : decide ((4096 : Int) < x) = true := decide_eq_true h4
            rw [d2] at hr
            subst hr
            clear h4
            go_enter Try.func17, Try.ntmps17
            go_wp2_with fail
            refine (HF.out _ hE0).mono ?_
            rintro e w1 ⟨rfl, hE⟩
            obtain ⟨c0, c1, hz⟩ := HB.out _ hE
            go_wp2_with fail
            refine (HC.out _ (hE0.trans hE)).mono ?_
            rintro e w2 ⟨rfl, hE2⟩
            have hE := hE.trans hE2
            clear c0 c1 hE2
            obtain ⟨c0, c1, hz⟩ := HB.out _ hE
            go_wp2_with fail
            refine (HRD.out _).mono ?_
            rintro e w3 ⟨rfl, rfl⟩
            go_wp2_with fail
            refine (HN.out _ (hE0.trans hE)).mono ?_
            rintro e w4 ⟨rfl, hE2⟩
            go_wp2_with fail
            go_ret
            exact ⟨rfl, (hE0.trans hE).trans hE2⟩
          · have d2 : decide ((4096 : Int) < x) = false := decide_eq_false h4
            rw [d2] at hr
            subst hr
            clear h4
            go_enter Try.func17, Try.ntmps17
            go_wp2_with fail
            refine (HF.out _ hE0).mono ?_
            rintro e w1 ⟨rfl, hE⟩
            obtain ⟨c0, c1, hz⟩ := HB.out _ hE
            go_wp2_with fail
            refine (HC.out _ (hE0.trans hE)).mono ?_
            rintro e w2 ⟨rfl, hE2⟩
            have hE := hE.trans hE2
            clear c0 c1 hE2
            obtain ⟨c0, c1, hz⟩ := HB.out _ hE
            go_wp2_with fail
            refine (HRD.out _).mono ?_
            rintro e w3 ⟨rfl, rfl⟩
            go_wp2_with fail
            refine (HN.out _ (hE0.trans hE)).mono ?_
            rintro e w4 ⟨rfl, hE2⟩
            go_wp2_with fail
            go_ret
            exact ⟨rfl, (hE0.trans hE).trans hE2⟩
      · rw [show decide (rdsErr k ≠ 0) = true from decide_eq_true h2, Bool.true_or] at hres
        subst hres
        have hb : (rdsErr k != 0) = true := by simp [h2]
        clear h1 h2 HN
        generalize rdsErr k = ck at *
        go_enter Try.func17, Try.ntmps17
        go_wp2_with fail
        refine (HF.out _ hE0).mono ?_
        rintro e w1 ⟨rfl, hE⟩
        obtain ⟨c0, c1, hz⟩ := HB.out _ hE
        go_wp2_with fail
        refine (HC.out _ (hE0.trans hE)).mono ?_
        rintro e w2 ⟨rfl, hE2⟩
        go_wp2_with fail
        refine (HRD.out _).mono ?_
        rintro e w3 ⟨rfl, rfl⟩
        go_wp2_with fail
        go_ret
        exact ⟨rfl, (hE0.trans hE).trans hE2⟩
    · rw [show decide (achk A ≠ 0) = true from decide_eq_true h1, Bool.true_or] at hres
      subst hres
      have hb : (achk A != 0) = true := by simp [h1]
      clear h1 HN
      generalize achk A = ck at *
      go_enter Try.func17, Try.ntmps17
      go_wp2_with fail
      refine (HF.out _ hE0).mono ?_
      rintro e w1 ⟨rfl, hE⟩
      obtain ⟨c0, c1, hz⟩ := HB.out _ hE
      go_wp2_with fail
      refine (HC.out _ (hE0.trans hE)).mono ?_
      rintro e w2 ⟨rfl, hE2⟩
      go_wp2_with fail
      go_ret
      exact ⟨rfl, (hE0.trans hE).trans hE2⟩

theorem wordsS_len (A : Adv) (k : Int) : (wordsS A k).1.length ≤ 4096 := by
  unfold wordsS
  split
  · split
    · split
      · simp
      · rename_i h
        have := cnt_len A (lim := 4096) (by decide) k.toNat 0
        show (fromS A k.toNat 0).length ≤ 4096
        omega
    · simp
  · simp

set_option maxRecDepth 8000 in
set_option maxHeartbeats 2000000 in
theorem lists_law (A : Adv) (v : Value) (k : Int) (w : World) (hA : AdvRep w v A) :
    Calls Try.prog 4 #[v, .int .i64 k] w fun e w' => e = .returned (.bool true) ∧ Ext w w' := by
  have HF := hide (fun W (hE : Ext w W) => rfewwords_any A v k W (hA.ext hE))
  have HP := hide (fun W (hE : Ext w W) h => pcount_any A v k W (hA.ext hE) h)
  have HR := hide (fun W (hE : Ext w W) => rcount_any A v k W (hA.ext hE))
  have HPW := hide (fun W (hE : Ext w W) h => pwords_any A v k W (hA.ext hE) h)
  have HRW := hide (fun W (hE : Ext w W) => rwords_any A v k W (hA.ext hE))
  obtain ⟨p, c, rfl, hc, hL, hat⟩ := hA.all_
  clear hA hat
  have hE0 : Ext w (w.alloc (.cells #[.int .i64 A.n, .slice p A.L c] 24)) := (Ext.refl w).alloc _
  have HB := hide (fun w1 => abox2 w A.n (.slice p A.L c) (w1 := w1))
  cases hf : fewW A k with
  | false =>
    rw [hf] at HF
    clear hf HP HR HPW HRW
    go_enter Try.func4, Try.ntmps4
    go_wp2_with fail
    refine (HF.out _ hE0).mono ?_
    rintro e w1 ⟨rfl, hE⟩
    go_wp2_with fail
    refine (awake_any w1).mono ?_
    rintro e w2 ⟨rfl, hE2⟩
    go_wp2_with fail
    go_ret
    exact ⟨rfl, (hE0.trans hE).trans hE2⟩
  | true =>
    rw [hf] at HF
    have hM : movesN A ≤ 4611686018427387904 := by have := fewW_few hf; omega
    have HP := hide (fun W hE => HP.out W hE hM)
    have HPW := hide (fun W hE => HPW.out W hE hM)
    have HLN := hide (Nat.le_trans (wordsS_len A k) (by decide : 4096 ≤ 17592186044416))
    generalize countS A k 1048576 = cs at HP HR
    obtain ⟨s1, s2⟩ := cs
    generalize wordsS A k = ws at HPW HRW HLN
    obtain ⟨a1, a2⟩ := ws
    clear hf hM
    go_enter Try.func4, Try.ntmps4
    go_wp2_with fail
    refine (HF.out _ hE0).mono ?_
    rintro e w1 ⟨rfl, hE⟩
    obtain ⟨c0, c1, hz⟩ := HB.out _ hE
    go_wp2_with fail
    refine (HP.out _ (hE0.trans hE)).mono ?_
    rintro e w2 ⟨rfl, hE2⟩
    have hE := hE.trans hE2
    clear c0 c1 hE2
    obtain ⟨c0, c1, hz⟩ := HB.out _ hE
    go_wp2_with fail
    refine (HR.out _ (hE0.trans hE)).mono ?_
    rintro e w3 ⟨rfl, hE2⟩
    have hE := hE.trans hE2
    clear c0 c1 hE2
    obtain ⟨c0, c1, hz⟩ := HB.out _ hE
    go_wp2_with fail
    refine (HPW.out _ (hE0.trans hE)).mono ?_
    rintro e w4 ⟨u1, rfl, hO1, hE2⟩
    have hE := hE.trans hE2
    have hR1 := hO1.rows2 HLN.out
    obtain ⟨q1, d1, rfl⟩ := hO1.slice
    have HR1 := hide hR1
    clear c0 c1 hE2 hO1 hR1
    obtain ⟨c0, c1, hz⟩ := HB.out _ hE
    go_wp2_with fail
    refine (HRW.out _ (hE0.trans hE)).mono ?_
    rintro e w5 ⟨u2, rfl, hO2, hE2⟩
    have hE := hE.trans hE2
    have hR2 := hO2.rows2 HLN.out
    obtain ⟨q2, d2, rfl⟩ := hO2.slice
    have HR1 := hide (HR1.out.ext hE2)
    have HR2 := hide hR2
    clear c0 c1 hE2 hO2 hR2 hz
    go_wp2_with fail
    refine (rsamewords_any a1 a1 _ _ w5 HR1.out HR2.out).mono ?_
    rintro e w6 ⟨he, hE2⟩
    rw [show decide (a1 = a1) = true from decide_eq_true rfl] at he
    subst he
    have hE := hE.trans hE2
    clear hE2
    go_wp2_with fail
    refine (awake_any w6).mono ?_
    rintro e w7 ⟨rfl, hE2⟩
    go_wp2_with fail
    go_ret
    exact ⟨rfl, (hE0.trans hE).trans hE2⟩
end Go.Proofs.Ytjgkgcjmcpgiaaa
