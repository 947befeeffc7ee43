/-
  The laws of chapter 16 on State, Allows, Reachable, Trim, Oblivious: the walks.
  Conditions: none.
-/
import Derived.Test.YtjgkgcjmcpgiaaaLawA
namespace Go.Proofs.Ytjgkgcjmcpgiaaa
open Go.RowKit
attribute [local go_sem] Oper.semAt_some

/-- The law's copy of the adversary. -/
theorem abox (w : World) (n : Int) (sv : Value) {w1 : World} (hE : Ext (w.alloc (.cells #[.int .i64 n, sv] 24)) w1) : w1.cell? ⟨w.heap.size, 0, none⟩ = some (.int .i64 n) ∧ w1.cell? ⟨w.heap.size, 1, none⟩ = some sv ∧ w.heap.size < w1.heap.size := by
  refine ⟨by rw [hE.cell (by simp), cell_new]; rfl, by rw [hE.cell (by simp), cell_new]; rfl, by have := hE.size; simp at this; omega⟩

set_option maxRecDepth 8000 in
set_option maxHeartbeats 2000000 in
theorem allows_law (A : Adv) (v u : Value) (l : List Rd) (w : World) (hA : AdvRep w v A) (hl : Row Rd.cells 7 w u l) :
    Calls Try.prog 3 #[v, u] w fun e w' => e = .returned (.bool true) ∧ Ext w w' := by
  have HF := hide (fun W (hE : Ext w W) => few_any A v W (hA.ext hE))
  have HP := hide (fun W (hE : Ext w W) h => pstate_any A v u l W (hA.ext hE) (hl.ext hE) h)
  have HR := hide (fun W (hE : Ext w W) => rstate_any A v u l W (hA.ext hE) (hl.ext hE))
  have HPA := hide (fun W (hE : Ext w W) h => pallows_any A v u l W (hA.ext hE) (hl.ext hE) h)
  have HRA := hide (fun W (hE : Ext w W) => rallows_any A v u l W (hA.ext hE) (hl.ext hE))
  obtain ⟨p, c, rfl, hc, hL, hat⟩ := hA.all_
  clear hA hat
  obtain ⟨q, d, rfl, hd, hll, hat⟩ := hl.rd_all
  clear hl hat
  have hE0 : Ext w (w.alloc (.cells #[.int .i64 A.n, .slice p A.L c] 24)) := (Ext.refl w).alloc _
  have HB := hide (fun w1 => abox w A.n (.slice p A.L c) (w1 := w1))
  cases hf : fewB A with
  | false =>
    rw [hf] at HF
    clear hf HP HR HPA HRA
    go_enter Try.func3, Try.ntmps3
    go_wp2_with fail
    refine (HF.out _ hE0).mono ?_
    rintro e w1 ⟨rfl, hE⟩
    go_wp2_with fail
    refine (awake_any w1).mono ?_
    rintro e w2 ⟨rfl, hE2⟩
    go_wp2_with fail
    go_ret
    exact ⟨rfl, (hE0.trans hE).trans hE2⟩
  | true =>
    rw [hf] at HF
    have hM : movesN A ≤ 4611686018427387904 := by have := fewB_moves hf; omega
    have HP := hide (fun W hE => HP.out W hE hM)
    have HPA := hide (fun W hE => HPA.out W hE hM)
    generalize stateS A l = st at HP HR
    obtain ⟨s1, s2⟩ := st
    generalize allowsS A l = at_ at HPA HRA
    obtain ⟨a1, a2⟩ := at_
    clear hf hM
    by_cases hlen : 20 < l.length
    · have d1 : decide ((20 : Int) < l.length) = true := decide_eq_true (by omega)
      clear HP HR HPA HRA
      go_enter Try.func3, Try.ntmps3
      go_wp2_with fail
      refine (HF.out _ hE0).mono ?_
      rintro e w1 ⟨rfl, hE⟩
      go_wp2_with fail
      refine (awake_any w1).mono ?_
      rintro e w2 ⟨rfl, hE2⟩
      go_wp2_with fail
      go_ret
      exact ⟨rfl, (hE0.trans hE).trans hE2⟩
    · have d1 : decide ((20 : Int) < l.length) = false := decide_eq_false (by omega)
      go_enter Try.func3, Try.ntmps3
      go_wp2_with fail
      refine (HF.out _ hE0).mono ?_
      rintro e w1 ⟨rfl, hE⟩
      obtain ⟨c0, c1, hz⟩ := HB.out _ hE
      go_wp2_with fail
      refine (HP.out _ (hE0.trans hE)).mono ?_
      rintro e w2 ⟨rfl, hE2⟩
      have hE := hE.trans hE2
      clear c0 c1 hE2
      obtain ⟨c0, c1, hz⟩ := HB.out _ hE
      go_wp2_with fail
      refine (HR.out _ (hE0.trans hE)).mono ?_
      rintro e w3 ⟨rfl, hE2⟩
      have hE := hE.trans hE2
      clear c0 c1 hE2
      obtain ⟨c0, c1, hz⟩ := HB.out _ hE
      go_wp2_with fail
      refine (HPA.out _ (hE0.trans hE)).mono ?_
      rintro e w4 ⟨rfl, hE2⟩
      have hE := hE.trans hE2
      clear c0 c1 hE2
      obtain ⟨c0, c1, hz⟩ := HB.out _ hE
      go_wp2_with fail
      refine (HRA.out _ (hE0.trans hE)).mono ?_
      rintro e w5 ⟨rfl, hE2⟩
      have hE := hE.trans hE2
      clear c0 c1 hE2
      go_wp2_with fail
      refine (awake_any w5).mono ?_
      rintro e w6 ⟨rfl, hE2⟩
      go_wp2_with fail
      go_ret
      exact ⟨rfl, (hE0.trans hE).trans hE2⟩

set_option maxRecDepth 8000 in
set_option maxHeartbeats 2000000 in
theorem trims_law (A : Adv) (v : Value) (w : World) (hA : AdvRep w v A) :
    Calls Try.prog 5 #[v] w fun e w' => e = .returned (.bool true) ∧ Ext w w' := by
  have HF := hide (fun W (hE : Ext w W) => few_any A v W (hA.ext hE))
  have HP := hide (fun W (hE : Ext w W) h => reachable_any A v W (hA.ext hE) h)
  have HR := hide (fun W (hE : Ext w W) => rreachable_any A v W (hA.ext hE))
  have HPT := hide (fun W (hE : Ext w W) h => ptrim_any A v W (hA.ext hE) h)
  have HRT := hide (fun W (hE : Ext w W) => rtrim_any A v W (hA.ext hE))
  have HPO := hide (fun W (hE : Ext w W) h => oblivious_any A v W (hA.ext hE) h)
  have HRO := hide (fun W (hE : Ext w W) => roblivious_any A v W (hA.ext hE))
  obtain ⟨p, c, rfl, hc, hL, hat⟩ := hA.all_
  clear hA hat
  have hE0 : Ext w (w.alloc (.cells #[.int .i64 A.n, .slice p A.L c] 24)) := (Ext.refl w).alloc _
  have HB := hide (fun w1 => abox w A.n (.slice p A.L c) (w1 := w1))
  cases hf : fewB A with
  | false =>
    rw [hf] at HF
    clear hf HP HR HPT HRT HPO HRO
    go_enter Try.func5, Try.ntmps5
    go_wp2_with fail
    refine (HF.out _ hE0).mono ?_
    rintro e w1 ⟨rfl, hE⟩
    go_wp2_with fail
    refine (awake_any w1).mono ?_
    rintro e w2 ⟨rfl, hE2⟩
    go_wp2_with fail
    go_ret
    exact ⟨rfl, (hE0.trans hE).trans hE2⟩
  | true =>
    rw [hf] at HF
    have hM : movesN A ≤ 4611686018427387904 := by have := fewB_moves hf; omega
    have HP := hide (fun W hE => HP.out W hE hM)
    have HPT := hide (fun W hE => HPT.out W hE hM)
    have HPO := hide (fun W hE => HPO.out W hE hM)
    have HRL : Hid ((reachS A).length ≤ 1000) := by
      show _ ≤ _
      unfold reachS
      by_cases h : achk A = 0
      · rw [if_pos h]; have := reachP_len A A.L; have := (achk_zero h).2.2.2.1; omega
      · rw [if_neg h]; simp
    have HTL := hide (trimS_len (A := A))
    generalize reachS A = rs at HP HR HRL
    generalize trimS A = ts at HPT HRT HTL
    obtain ⟨⟨tn, tst⟩, t2⟩ := ts
    generalize oblS A = os at HPO HRO
    obtain ⟨o1, o2⟩ := os
    generalize achk A = ck at HP HR
    clear hf hM
    go_enter Try.func5, Try.ntmps5
    go_wp2_with fail
    refine (HF.out _ hE0).mono ?_
    rintro e w1 ⟨rfl, hE⟩
    obtain ⟨c0, c1, hz⟩ := HB.out _ hE
    go_wp2_with fail
    refine (HP.out _ (hE0.trans hE)).mono ?_
    rintro e w2 ⟨u1, rfl, hO1, hE2⟩
    have hE := hE.trans hE2
    clear c0 c1 hE2
    obtain ⟨c0, c1, hz⟩ := HB.out _ hE
    have hR1 := hO1.row (by have := HRL.out; omega)
    obtain ⟨q1, d1, rfl, -⟩ := id hR1
    have HR1 := hide hR1
    clear hO1 hR1
    go_wp2_with fail
    refine (HR.out _ (hE0.trans hE)).mono ?_
    rintro e w3 ⟨u2, rfl, hO2, hE2⟩
    have hE := hE.trans hE2
    have HR1 := hide (HR1.out.ext hE2)
    clear c0 c1 hE2
    obtain ⟨c0, c1, hz⟩ := HB.out _ hE
    have hR2 := hO2.row (by have := HRL.out; omega)
    obtain ⟨q2, d2, rfl, -⟩ := id hR2
    have HR2 := hide hR2
    clear hO2 hR2
    go_wp2_with fail
    refine (HPT.out _ (hE0.trans hE)).mono ?_
    rintro e w4 ⟨u3, rfl, hT1, hE2⟩
    have hE := hE.trans hE2
    have HR1 := hide (HR1.out.ext hE2)
    have HR2 := hide (HR2.out.ext hE2)
    clear c0 c1 hE2
    have hA1 := hT1.rep (Nat.le_trans HTL.out (by decide))
    obtain ⟨qq, rfl, hCC⟩ := hT1
    obtain ⟨q3, d3, rfl⟩ := hCC.slice
    dsimp only at hA1 hCC
    have HA1 := hide hA1
    obtain ⟨c0, c1, hz⟩ := HB.out _ hE
    clear hCC hA1
    go_wp2_with fail
    obtain ⟨v4, hv4⟩ : ∃ v4, w4.alloc (.cells #[.int .i64 tn, .slice q3 tst.length d3] 24) = v4 := ⟨_, rfl⟩
    have hX4 : Ext w4 v4 := by rw [← hv4]; exact (Ext.refl _).alloc _
    have hb4 : v4.heap[w4.heap.size]? = some (.cells #[.int .i64 tn, .slice q3 tst.length d3] 24 (0, 0)) := by rw [← hv4]; exact heap_alloc_new _ _
    rw [hv4]
    clear hv4
    have hE := hE.trans hX4
    refine (HRT.out _ (hE0.trans hE)).mono ?_
    rintro e w5 ⟨u4, rfl, hT2, hE2⟩
    have hE := hE.trans hE2
    have HR1 := hide (HR1.out.ext (hX4.trans hE2))
    have HR2 := hide (HR2.out.ext (hX4.trans hE2))
    have HA1 := hide (HA1.out.ext (hX4.trans hE2))
    have HB4 := hide ((hE2.b.block _ (lt_of_heap hb4)).trans hb4)
    obtain ⟨g4, hg4⟩ : ∃ g4, w4.heap.size = g4 := ⟨_, rfl⟩
    rw [hg4] at HB4 ⊢
    clear c0 c1 hE2 hX4 hb4 hg4 hz
    have hA2 := hT2.rep (Nat.le_trans HTL.out (by decide))
    obtain ⟨qq, rfl, hCC⟩ := hT2
    obtain ⟨q5, d5, rfl⟩ := hCC.slice
    dsimp only at hA2 hCC
    have HA2 := hide hA2
    obtain ⟨c0, c1, hz⟩ := HB.out _ hE
    clear hCC hA2
    go_wp2_with fail
    obtain ⟨v5, hv5⟩ : ∃ v5, w5.alloc (.cells #[.int .i64 tn, .slice q5 tst.length d5] 24) = v5 := ⟨_, rfl⟩
    have hX5 : Ext w5 v5 := by rw [← hv5]; exact (Ext.refl _).alloc _
    have hb5 : v5.heap[w5.heap.size]? = some (.cells #[.int .i64 tn, .slice q5 tst.length d5] 24 (0, 0)) := by rw [← hv5]; exact heap_alloc_new _ _
    rw [hv5]
    clear hv5
    have hE := hE.trans hX5
    refine (HPO.out _ (hE0.trans hE)).mono ?_
    rintro e w6 ⟨rfl, hE2⟩
    have hE := hE.trans hE2
    have HR1 := hide (HR1.out.ext (hX5.trans hE2))
    have HR2 := hide (HR2.out.ext (hX5.trans hE2))
    have HA1 := hide (HA1.out.ext (hX5.trans hE2))
    have HA2 := hide (HA2.out.ext (hX5.trans hE2))
    have HB4 := hide (((hX5.trans hE2).b.block _ (lt_of_heap HB4.out)).trans HB4.out)
    have HB5 := hide ((hE2.b.block _ (lt_of_heap hb5)).trans hb5)
    obtain ⟨g5, hg5⟩ : ∃ g5, w5.heap.size = g5 := ⟨_, rfl⟩
    rw [hg5] at HB5 ⊢
    clear c0 c1 hE2 hX5 hb5 hg5 hz
    obtain ⟨c0, c1, hz⟩ := HB.out _ hE
    go_wp2_with fail
    refine (HRO.out _ (hE0.trans hE)).mono ?_
    rintro e w7 ⟨rfl, hE2⟩
    have hE := hE.trans hE2
    have HR1 := hide (HR1.out.ext hE2)
    have HR2 := hide (HR2.out.ext hE2)
    have HA1 := hide (HA1.out.ext hE2)
    have HA2 := hide (HA2.out.ext hE2)
    have hB4 := ((hE2.b.block _ (lt_of_heap HB4.out)).trans HB4.out)
    have hB5 := ((hE2.b.block _ (lt_of_heap HB5.out)).trans HB5.out)
    have HB4 := hide hB4
    have HB5 := hide hB5
    clear c0 c1 hE2 hz hB4 hB5
    go_wp2_with fail
    refine (rsame_ints rs rs _ _ w7 HR1.out HR2.out).mono ?_
    rintro e w8 ⟨he, hE2⟩
    rw [show decide (rs = rs) = true from decide_eq_true rfl] at he
    subst he
    have hE := hE.trans hE2
    have hB4 := ((hE2.b.block _ (lt_of_heap HB4.out)).trans HB4.out)
    have hB5 := ((hE2.b.block _ (lt_of_heap HB5.out)).trans HB5.out)
    have k40 : w8.cell? ⟨g4, 0, none⟩ = some (.int .i64 tn) := by rw [cell_of_row _ _ _ _ _ _ hB4]; rfl
    have k41 : w8.cell? ⟨g4, 1, none⟩ = some (.slice q3 tst.length d3) := by rw [cell_of_row _ _ _ _ _ _ hB4]; rfl
    have k50 : w8.cell? ⟨g5, 0, none⟩ = some (.int .i64 tn) := by rw [cell_of_row _ _ _ _ _ _ hB5]; rfl
    have k51 : w8.cell? ⟨g5, 1, none⟩ = some (.slice q5 tst.length d5) := by rw [cell_of_row _ _ _ _ _ _ hB5]; rfl
    have HA1 := hide (HA1.out.ext hE2)
    have HA2 := hide (HA2.out.ext hE2)
    clear hB4 hB5 hE2 HR1 HR2
    go_wp2_with fail
    refine (rsame_adv ⟨tn, tst⟩ ⟨tn, tst⟩ _ _ w8 HA1.out HA2.out).mono ?_
    rintro e w9 ⟨he, hE2⟩
    rw [show advEq ⟨tn, tst⟩ ⟨tn, tst⟩ = true from decide_eq_true ⟨rfl, rfl⟩] at he
    subst he
    have hE := hE.trans hE2
    clear k40 k41 k50 k51 hE2
    go_wp2_with fail
    refine (awake_any w9).mono ?_
    rintro e w10 ⟨rfl, hE2⟩
    go_wp2_with fail
    go_ret
    exact ⟨rfl, (hE0.trans hE).trans hE2⟩
end Go.Proofs.Ytjgkgcjmcpgiaaa
