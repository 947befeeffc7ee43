/-
  The reference's Trim.
  Conditions: as each theorem states.
-/
import Derived.Test.YtjgkgcjmcpgiaaaTrimRef
namespace Go.Proofs.Ytjgkgcjmcpgiaaa
open Go.RowKit
attribute [local go_sem] Oper.semAt_some

/-- An adversary is returned that the call has made. -/
def AdvOut (w : World) (A : Adv) (u : Value) (w' : World) : Prop := ∃ q, u = .agg #[.int .i64 A.n, q] ∧ Coll 62 69 Mv.cells 8 w' w.heap.size q A.st
theorem AdvOut.rep {w w' : World} {A : Adv} {u : Value} (h : AdvOut w A u w') (hl : A.st.length ≤ 17592186044416) : AdvRep w' u A := by
  obtain ⟨q, rfl, h⟩ := h
  exact h.adv hl
theorem trimS_len {A : Adv} : (trimS A).1.st.length ≤ 256 := by
  unfold trimS
  by_cases h : achk A = 0
  · rw [if_pos h]
    have := trimSt_len A A.L
    have := (achk_zero h).2.2.2.1
    show (trimSt A A.L).length ≤ 256
    omega
  · rw [if_neg h]; simp

set_option maxHeartbeats 2000000 in
theorem rtrim_any (A : Adv) (v : Value) (w : World) (hA : AdvRep w v A) :
    Calls Try.prog 26 #[v] w (RetV2 (AdvOut w (trimS A).1) (trimS A).2 w) := by
  have HC := hide (fun W (hE : Ext w W) => racheck_any A v W (hA.ext hE))
  have HT := hide (fun W (hE : Ext w W) h0 => rtrimmed_any A v W (hA.ext hE) h0)
  obtain ⟨p, c, rfl, hc, hl, hat⟩ := hA.all_
  clear hA hat
  have hE0 : Ext w ((w.alloc (.cells #[.int .i64 A.n, .slice p A.L c] 24)).alloc (.cells #[.int .i64 0, .slice none 0 0] 24)) := ((Ext.refl w).alloc _).alloc _
  have hbk : ∀ w1, Ext ((w.alloc (.cells #[.int .i64 A.n, .slice p A.L c] 24)).alloc (.cells #[.int .i64 0, .slice none 0 0] 24)) w1 → w1.heap[w.heap.size + 1]? = some (.cells #[.int .i64 0, .slice none 0 0] 24 (0, 0)) := fun w1 hE => by
    rw [hE.b.block _ (by simp)]
    have := heap_alloc_new (w.alloc (.cells #[.int .i64 A.n, .slice p A.L c] 24)) (.cells #[.int .i64 0, .slice none 0 0] 24)
    rwa [World.size_alloc] at this
  have HBK := hide hbk
  clear hbk
  generalize hres : trimS A = res
  obtain ⟨⟨rn, rst⟩, r2⟩ := res
  unfold trimS at hres
  by_cases h1 : achk A = 0
  · rw [if_pos h1] at hres
    have hHC := HC.out
    rw [h1] at hHC
    have HC := hide hHC
    have HT := hide (fun W hE => HT.out W hE h1)
    injection hres with hr1 hr2
    injection hr1 with hr3 hr4
    subst hr3 hr4 hr2
    clear hHC h1
    go_enter Try.func26, Try.ntmps26
    go_wp2_with fail
    refine (HC.out _ hE0).mono ?_
    rintro e w1 ⟨rfl, hE⟩
    have hEw := hE0.trans hE
    have HB1 := hide (HBK.out _ hE)
    obtain ⟨hc1, hf1⟩ := hE.rules
    have hz0 : w.heap.size + 2 ≤ w1.heap.size := by have := hE.size; simp at this; omega
    go_wp2_with fail
    refine (HT.out _ hEw).mono ?_
    rintro e w2 ⟨_, rfl, ⟨q, rfl, hC⟩, hE2⟩
    have hb2 := (hE2.b.block _ (by omega)).trans HB1.out
    have HB2 := hide hb2
    have hb20 : w2.cell? ⟨w.heap.size + 1, 0, none⟩ = some (.int .i64 0) := by rw [cell_of_row _ _ _ _ _ _ hb2]; rfl
    have hb21 : w2.cell? ⟨w.heap.size + 1, 1, none⟩ = some (.slice none 0 0) := by rw [cell_of_row _ _ _ _ _ _ hb2]; rfl
    have hb2f0 := frozen_row hb2 0
    have hb2f1 := frozen_row hb2 1
    obtain ⟨qq, cq, rfl⟩ := hC.slice
    have HC2 := hide hC
    have HE2 := hide hE2
    clear hb2 hC hE2 hc1 hf1 hE
    go_wp2_with fail
    have c0 : ((w2.setCell ⟨w.heap.size + 1, 0, none⟩ (.int .i64 A.n)).setCell ⟨w.heap.size + 1, 1, none⟩ (.slice qq (trimSt A A.L).length cq)).cell? ⟨w.heap.size + 1, 0, none⟩ = some (.int .i64 A.n) := by
      rw [cell_of_row _ _ _ _ _ _ (row_set (row_set HB2.out 0 _) 1 _)]; rfl
    have c1 : ((w2.setCell ⟨w.heap.size + 1, 0, none⟩ (.int .i64 A.n)).setCell ⟨w.heap.size + 1, 1, none⟩ (.slice qq (trimSt A A.L).length cq)).cell? ⟨w.heap.size + 1, 1, none⟩ = some (.slice qq (trimSt A A.L).length cq) := by
      rw [cell_of_row _ _ _ _ _ _ (row_set (row_set HB2.out 0 _) 1 _)]; rfl
    have hC9 := ((HC2.out.mono hEw.size).setOther HB2.out (by decide) (by decide) 0 (.int .i64 A.n)).setOther (row_set HB2.out 0 _) (by decide) (by decide) 1 (.slice qq (trimSt A A.L).length cq)
    have hE9 := ((hEw.trans HE2.out).setCell (p := ⟨w.heap.size + 1, 0, none⟩) (by simp) (.int .i64 A.n)).setCell (p := ⟨w.heap.size + 1, 1, none⟩) (by simp) (.slice qq (trimSt A A.L).length cq)
    generalize (w2.setCell ⟨w.heap.size + 1, 0, none⟩ (.int .i64 A.n)).setCell ⟨w.heap.size + 1, 1, none⟩ (.slice qq (trimSt A A.L).length cq) = W9 at c0 c1 hC9 hE9 ⊢
    exact bodyPost_ret (v := .tuple #[.agg #[.int .i64 A.n, .slice qq (trimSt A A.L).length cq], .int .i64 0]) (by simp [results, Try.f26, go_sem, c0, c1]) rfl ⟨_, rfl, ⟨_, rfl, hC9⟩, hE9⟩
  · rw [if_neg h1] at hres
    have hb : (achk A != 0) = true := by simp [h1]
    injection hres with hr1 hr2
    injection hr1 with hr3 hr4
    subst hr3 hr4
    clear h1
    generalize achk A = ck at *
    subst hr2
    go_enter Try.func26, Try.ntmps26
    go_wp2_with fail
    refine (HC.out _ hE0).mono ?_
    rintro e w1 ⟨rfl, hE⟩
    have hEw := hE0.trans hE
    have hb2 := HBK.out _ hE
    have HB2 := hide hb2
    have hb20 : w1.cell? ⟨w.heap.size + 1, 0, none⟩ = some (.int .i64 0) := by rw [cell_of_row _ _ _ _ _ _ hb2]; rfl
    have hb21 : w1.cell? ⟨w.heap.size + 1, 1, none⟩ = some (.slice none 0 0) := by rw [cell_of_row _ _ _ _ _ _ hb2]; rfl
    have hb2f0 := frozen_row hb2 0
    have hb2f1 := frozen_row hb2 1
    clear hb2 hE
    go_wp2_with fail
    have c0 : ((w1.setCell ⟨w.heap.size + 1, 0, none⟩ (.int .i64 0)).setCell ⟨w.heap.size + 1, 1, none⟩ (.slice none 0 0)).cell? ⟨w.heap.size + 1, 0, none⟩ = some (.int .i64 0) := by
      rw [cell_of_row _ _ _ _ _ _ (row_set (row_set HB2.out 0 _) 1 _)]; rfl
    have c1 : ((w1.setCell ⟨w.heap.size + 1, 0, none⟩ (.int .i64 0)).setCell ⟨w.heap.size + 1, 1, none⟩ (.slice none 0 0)).cell? ⟨w.heap.size + 1, 1, none⟩ = some (.slice none 0 0) := by
      rw [cell_of_row _ _ _ _ _ _ (row_set (row_set HB2.out 0 _) 1 _)]; rfl
    have hE9 := (hEw.setCell (p := ⟨w.heap.size + 1, 0, none⟩) (by simp) (.int .i64 0)).setCell (p := ⟨w.heap.size + 1, 1, none⟩) (by simp) (.slice none 0 0)
    generalize (w1.setCell ⟨w.heap.size + 1, 0, none⟩ (.int .i64 0)).setCell ⟨w.heap.size + 1, 1, none⟩ (.slice none 0 0) = W9 at c0 c1 hE9 ⊢
    exact bodyPost_ret (v := .tuple #[.agg #[.int .i64 0, .slice none 0 0], .int .i64 ck]) (by simp [results, Try.f26, go_sem, c0, c1]) rfl ⟨_, rfl, ⟨_, rfl, Coll.nil _ _⟩, hE9⟩
end Go.Proofs.Ytjgkgcjmcpgiaaa
