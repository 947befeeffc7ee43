/-
  The laws of chapter 16 that compare with the reference: the walks.
  Conditions: none.
-/
import Derived.Test.YtjgkgcjmcpgiaaaAwake
namespace Go.Proofs.Ytjgkgcjmcpgiaaa
open Go.RowKit
attribute [local go_sem] Oper.semAt_some

def fewB (A : Adv) : Bool := afew A || (decide (256 < A.L) && decide (A.L ≤ 258) && decide (movesN A ≤ 40))
theorem fewB_moves {A : Adv} (h : fewB A = true) : movesN A ≤ 40 := by
  unfold fewB afew at h
  simp only [Bool.or_eq_true, Bool.and_eq_true, decide_eq_true_eq] at h
  rcases h with h | h <;> exact h.2

set_option maxHeartbeats 1000000 in
theorem few_any (A : Adv) (v : Value) (w : World) (hA : AdvRep w v A) :
    Calls Try.prog 11 #[v] w fun e w' => e = .returned (.bool (fewB A)) ∧ Ext w w' := by
  have HF := hide (fun W (hE : Ext w W) => rfew_any A v W (hA.ext hE))
  have HM := hide (fun W (hE : Ext w W) h => rmoves_any A v W (hA.ext hE) h)
  obtain ⟨p, c, rfl, hc, hl, hat⟩ := hA.all_
  clear hA hat
  have hE0 : Ext w (w.alloc (.cells #[.int .i64 A.n, .slice p A.L c] 24)) := (Ext.refl w).alloc _
  have ha1 : ∀ W, Ext (w.alloc (.cells #[.int .i64 A.n, .slice p A.L c] 24)) W → W.cell? ⟨w.heap.size, 1, none⟩ = some (.slice p A.L c) := fun W hE => by rw [hE.cell (by simp), cell_new]; rfl
  have ha0 : ∀ W, Ext (w.alloc (.cells #[.int .i64 A.n, .slice p A.L c] 24)) W → W.cell? ⟨w.heap.size, 0, none⟩ = some (.int .i64 A.n) := fun W hE => by rw [hE.cell (by simp), cell_new]; rfl
  have HA1 := hide ha1
  have HA0 := hide ha0
  clear ha1 ha0
  generalize hres : fewB A = res
  have HRES := hide hres
  unfold fewB at hres
  cases hf : afew A with
  | true =>
    rw [hf] at HF hres
    have hr : res = true := by rw [← hres]; rfl
    subst hr
    clear hres hf
    go_enter Try.func11, Try.ntmps11
    go_wp2_with fail
    refine (HF.out _ hE0).mono ?_
    rintro e w1 ⟨rfl, hE⟩
    go_wp2_with fail
    go_ret
    exact ⟨rfl, hE0.trans hE⟩
  | false =>
    rw [hf] at HF hres
    rw [Bool.false_or] at hres
    clear hf
    by_cases h1 : 256 < A.L
    · by_cases h2 : A.L ≤ 258
      · rw [decide_eq_true h1, decide_eq_true h2, Bool.true_and, Bool.true_and] at hres
        have HM := hide (fun W hE => HM.out W hE (by have : A.st.length = A.L := rfl; omega))
        have HR := hide hres
        have d1 : decide ((256 : Int) < A.L) = true := decide_eq_true (by omega)
        have d2 : decide ((A.L : Int) ≤ 258) = true := decide_eq_true (by omega)
        clear hres
        have hzM : (movesN A : Int) ≤ 40 ↔ movesN A ≤ 40 := by omega
        by_cases h3 : movesN A ≤ 40
        · have d3 : decide ((movesN A : Int) ≤ 40) = true := decide_eq_true (by omega)
          have hr := HR.out
          rw [decide_eq_true h3] at hr
          subst hr
          clear hzM h3
          generalize movesN A = mm at HM d3
          go_enter Try.func11, Try.ntmps11
          go_wp2_with fail
          refine (HF.out _ hE0).mono ?_
          rintro e w1 ⟨rfl, hE⟩
          have c1 := HA1.out _ hE
          have c0 := HA0.out _ hE
          go_wp2_with fail
          refine (HM.out _ (hE0.trans hE)).mono ?_
          rintro e w2 ⟨rfl, hE2⟩
          go_wp2_with fail
          go_ret
          exact ⟨rfl, (hE0.trans hE).trans hE2⟩
        · have d3 : decide ((movesN A : Int) ≤ 40) = false := decide_eq_false (by omega)
          have hr := HR.out
          rw [decide_eq_false h3] at hr
          subst hr
          clear hzM h3
          generalize movesN A = mm at HM d3
          go_enter Try.func11, Try.ntmps11
          go_wp2_with fail
          refine (HF.out _ hE0).mono ?_
          rintro e w1 ⟨rfl, hE⟩
          have c1 := HA1.out _ hE
          have c0 := HA0.out _ hE
          go_wp2_with fail
          refine (HM.out _ (hE0.trans hE)).mono ?_
          rintro e w2 ⟨rfl, hE2⟩
          go_wp2_with fail
          go_ret
          exact ⟨rfl, (hE0.trans hE).trans hE2⟩
      · rw [decide_eq_true h1, decide_eq_false h2] at hres
        subst hres
        have d1 : decide ((256 : Int) < A.L) = true := decide_eq_true (by omega)
        have d2 : decide ((A.L : Int) ≤ 258) = false := decide_eq_false (by omega)
        go_enter Try.func11, Try.ntmps11
        go_wp2_with fail
        refine (HF.out _ hE0).mono ?_
        rintro e w1 ⟨rfl, hE⟩
        have c1 := HA1.out _ hE
        go_wp2_with fail
        go_ret
        exact ⟨rfl, hE0.trans hE⟩
    · rw [decide_eq_false h1] at hres
      subst hres
      have d1 : decide ((256 : Int) < A.L) = false := decide_eq_false (by omega)
      go_enter Try.func11, Try.ntmps11
      go_wp2_with fail
      refine (HF.out _ hE0).mono ?_
      rintro e w1 ⟨rfl, hE⟩
      have c1 := HA1.out _ hE
      go_wp2_with fail
      go_ret
      exact ⟨rfl, hE0.trans hE⟩

set_option maxRecDepth 8000 in
set_option maxHeartbeats 2000000 in
theorem checks_law (A : Adv) (v : Value) (s : Int) (r : Rd) (w : World) (hA : AdvRep w v A) :
    Calls Try.prog 8 #[v, .int .i64 s, r.v] w fun e w' => e = .returned (.bool true) ∧ Ext w w' := by
  have HF := hide (fun W (hE : Ext w W) => few_any A v W (hA.ext hE))
  have HC := hide (fun W (hE : Ext w W) h => check_any A v W (hA.ext hE) h)
  have HRC := hide (fun W (hE : Ext w W) => racheck_any A v W (hA.ext hE))
  have HS := hide (fun W (hE : Ext w W) h => step_any A v s r W (hA.ext hE) h)
  have HRS := hide (fun W (hE : Ext w W) => rstep_any A v s r W (hA.ext hE))
  obtain ⟨p, c, rfl, hc, hl, hat⟩ := hA.all_
  clear hA hat
  have hE0 : Ext w ((w.alloc (.cells #[.int .i64 A.n, .slice p A.L c] 24)).alloc (.cells r.cells.toArray 67)) := ((Ext.refl w).alloc _).alloc _
  cases hf : fewB A with
  | false =>
    rw [hf] at HF
    clear hf HC HRC HS HRS
    obtain ⟨⟨n, a, b, c1, d, e1⟩, f⟩ := r
    dsimp only [Rd.v] at hE0 ⊢
    go_enter Try.func8, Try.ntmps8
    go_wp2_with fail
    refine (HF.out _ hE0).mono ?_
    rintro e w1 ⟨rfl, hE⟩
    go_wp2_with fail
    refine (awake_any w1).mono ?_
    rintro e w2 ⟨rfl, hE2⟩
    go_wp2_with fail
    go_ret
    exact ⟨rfl, (hE0.trans hE).trans hE2⟩
  | true =>
    rw [hf] at HF
    have hM : movesN A ≤ 4611686018427387904 := by have := fewB_moves hf; omega
    have HC := hide (fun W hE => HC.out W hE hM)
    have HS := hide (fun W hE => HS.out W hE hM)
    generalize stepS A s r = st at HS HRS
    obtain ⟨s1, s2⟩ := st
    generalize achk A = ck at HC HRC
    clear hf hM
    obtain ⟨⟨n, a, b, c1, d, e1⟩, f⟩ := r
    dsimp only [Rd.v] at hE0 HS HRS ⊢
    have hk : ∀ W, Ext ((w.alloc (.cells #[.int .i64 A.n, .slice p A.L c] 24)).alloc (.cells #[.int .i64 n, .int .i64 a, .int .i64 b, .int .i64 c1, .int .i64 d, .int .i64 e1, .int .i64 f] 67)) W → W.heap[w.heap.size]? = some (.cells #[.int .i64 A.n, .slice p A.L c] 24 (0, 0)) ∧
        W.heap[w.heap.size + 1]? = some (.cells #[.int .i64 n, .int .i64 a, .int .i64 b, .int .i64 c1, .int .i64 d, .int .i64 e1, .int .i64 f] 67 (0, 0)) := fun W hE => by
      constructor
      · rw [hE.b.block _ (by simp; omega), Below.heap_alloc _ _ _ (by simp)]; exact heap_alloc_new _ _
      · rw [hE.b.block _ (by simp)]
        have := heap_alloc_new (w.alloc (.cells #[.int .i64 A.n, .slice p A.L c] 24)) (.cells #[.int .i64 n, .int .i64 a, .int .i64 b, .int .i64 c1, .int .i64 d, .int .i64 e1, .int .i64 f] 67)
        rwa [World.size_alloc] at this
    have HK := hide hk
    clear hk
    go_enter Try.func8, Try.ntmps8
    go_wp2_with fail
    refine (HF.out _ hE0).mono ?_
    rintro e w1 ⟨rfl, hE⟩
    have hz1 : w.heap.size + 1 < w1.heap.size := by have := hE.size; simp at this; omega
    have hz0 : w.heap.size < w1.heap.size := by omega
    obtain ⟨k0, k1⟩ := HK.out _ hE
    have a0 : w1.cell? ⟨w.heap.size, 0, none⟩ = some (.int .i64 A.n) := by rw [cell_of_row _ _ _ _ _ _ k0]; rfl
    have a1 : w1.cell? ⟨w.heap.size, 1, none⟩ = some (.slice p A.L c) := by rw [cell_of_row _ _ _ _ _ _ k0]; rfl
    have b0 : w1.cell? ⟨w.heap.size + 1, 0, none⟩ = some (.int .i64 n) := by rw [cell_of_row _ _ _ _ _ _ k1]; rfl
    have b1 : w1.cell? ⟨w.heap.size + 1, 1, none⟩ = some (.int .i64 a) := by rw [cell_of_row _ _ _ _ _ _ k1]; rfl
    have b2 : w1.cell? ⟨w.heap.size + 1, 2, none⟩ = some (.int .i64 b) := by rw [cell_of_row _ _ _ _ _ _ k1]; rfl
    have b3 : w1.cell? ⟨w.heap.size + 1, 3, none⟩ = some (.int .i64 c1) := by rw [cell_of_row _ _ _ _ _ _ k1]; rfl
    have b4 : w1.cell? ⟨w.heap.size + 1, 4, none⟩ = some (.int .i64 d) := by rw [cell_of_row _ _ _ _ _ _ k1]; rfl
    have b5 : w1.cell? ⟨w.heap.size + 1, 5, none⟩ = some (.int .i64 e1) := by rw [cell_of_row _ _ _ _ _ _ k1]; rfl
    have b6 : w1.cell? ⟨w.heap.size + 1, 6, none⟩ = some (.int .i64 f) := by rw [cell_of_row _ _ _ _ _ _ k1]; rfl
    have hEw := hE0.trans hE
    clear k0 k1 HK hE hE0 HF
    go_wp2_with fail
    refine (HS.out _ hEw).mono ?_
    rintro e w2 ⟨rfl, hE2⟩
    obtain ⟨r2, r2f⟩ := hE2.rules
    have hz2 : w.heap.size + 1 < w2.heap.size := by have := hE2.size; omega
    have hz20 : w.heap.size < w2.heap.size := by omega
    have hEw2 := hEw.trans hE2
    clear hE2 HS hEw
    go_wp2_with fail
    refine (HRS.out _ hEw2).mono ?_
    rintro e w3 ⟨rfl, hE3⟩
    obtain ⟨r3, r3f⟩ := hE3.rules
    have hz3 : w.heap.size + 1 < w3.heap.size := by have := hE3.size; omega
    have hz30 : w.heap.size < w3.heap.size := by omega
    have hEw3 := hEw2.trans hE3
    clear hE3 HRS hEw2
    go_wp2_with fail
    refine wp_region_ext (by kernel_rfl) (by kernel_rfl) ?_
    repeat (go_big_quiet_step (first | (go_at_call 32; exact Calls.ext_of (HC.out _ (by simp [go_sem, hEw3]))) | (go_at_call 35; exact Calls.ext_of (HRC.out _ (by simp [go_sem, hEw3]))) | (go_at_call 12; exact Calls.ext_of (awake_any _))))
    refine wpQuiet_nil ?_
    rintro w9 ⟨⟨_, hE9⟩, rfl⟩
    go_wp2_with fail
    go_ret
    exact ⟨rfl, hEw3.trans hE9⟩
end Go.Proofs.Ytjgkgcjmcpgiaaa
