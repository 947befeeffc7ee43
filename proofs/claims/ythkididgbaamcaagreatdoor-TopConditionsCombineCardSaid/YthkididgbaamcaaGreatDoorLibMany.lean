/-
  The library: how many vectors there are (library.many without a condition).
  Conditions: as each theorem states.
-/
import Derived.Test.YthkididgbaamcaaGreatDoorLibP
import Derived.Test.YthkididgbaamcaaGreatDoorLibSeq
import Derived.Test.YthkididgbaamcaaGreatDoorSeqA
import Derived.Test.YthkididgbaamcaaGreatDoorCollO
namespace Go.Proofs.YthkididgbaamcaaGreatDoor
open Go.RowKit
attribute [local go_sem] Oper.semAt_some

set_option maxRecDepth 8000 in
set_option maxHeartbeats 2000000 in
theorem many_any (n m most : Nat) (w : World) (hn1 : 1 ≤ n) (hn5 : n ≤ 5) (hm1 : 1 ≤ m) (hm8 : m ≤ 8) (hmost : m ^ n ≤ most) (hmost2 : most ≤ 1000000) :
    Calls Tryz.prog 88 #[.int .i64 n, .int .i64 m, .nilFunc, .int .i64 most] w fun e w' => e = .returned (.int .i64 (m ^ n : Nat)) ∧ Ext w w' := by
  have HMOST := hide hmost
  have HSEQ := hide (each_seq n m hm1 hm8 hn5 hn1)
  clear hmost hm1 hm8 hn1
  refine calls_of_wp_m Tryz.func88 rfl ?_
  simp only [Tryz.ntmps88, List.size_toArray, List.length_cons, List.length_nil, Nat.reduceAdd, Nat.reduceSub, Array.replicate_succ, Array.replicate_zero, List.push_toArray, List.append_toArray, List.nil_append, List.cons_append]
  go_wp2_with fail
  obtain ⟨w1, hw1⟩ : ∃ w1, ((w.alloc (.cells #[.nilFunc] 72)).alloc (.cells #[.int .i64 most] 3)).alloc (.cells #[.int .i64 0] 3) = w1 := ⟨_, rfl⟩
  have hE1 : Ext w w1 := by rw [← hw1]; exact (((Ext.refl w).alloc _).alloc _).alloc _
  have hz1 : w1.heap.size = w.heap.size + 3 := by rw [← hw1]; simp
  have hb0 : Box w1 w.heap.size 72 .nilFunc := by rw [← hw1]; exact ((Box.new w _ _).alloc _).alloc _
  have hb1 : Box w1 (w.heap.size + 1) 3 (.int .i64 most) := by
    rw [← hw1]; have := (Box.new (w.alloc (.cells #[.nilFunc] 72)) 3 (.int .i64 most)).alloc (.cells #[.int .i64 0] 3)
    simpa only [World.size_alloc] using this
  have hb2 : Box w1 (w.heap.size + 1 + 1) 3 (.int .i64 0) := by
    rw [← hw1]; have := Box.new ((w.alloc (.cells #[.nilFunc] 72)).alloc (.cells #[.int .i64 most] 3)) 3 (.int .i64 0)
    simpa only [World.size_alloc] using this
  rw [hw1]
  clear hw1
  obtain ⟨g, hg⟩ : ∃ g, w.heap.size = g := ⟨_, rfl⟩
  have HG := hide hg
  rw [hg] at hz1 hb0 hb1 hb2 ⊢
  clear hg
  obtain ⟨s, hs⟩ : ∃ s, w1.heap.size = s := ⟨_, rfl⟩
  refine (each_any n m w1).mono ?_
  rw [hs]
  rw [hs] at hz1
  rintro e W ⟨rfl, hW⟩
  have hEW : Ext w1 W := by rw [hW]; exact ((Ext.refl w1).alloc _).alloc _
  have hWz : W.heap.size = s + 2 := by rw [hW]; simp [hs]
  have hi1 : W.cell? ⟨s, 0, none⟩ = some (.int .i64 n) := by rw [hW, ← hs]; simp [go_sem]
  have hi2 : W.cell? ⟨s + 1, 0, none⟩ = some (.int .i64 m) := by
    rw [hW, ← hs]
    have := (Box.new (w1.alloc (.cells #[.int .i64 n] 3)) 3 (.int .i64 m)).cell
    simpa only [World.size_alloc] using this
  have HI := hide (And.intro hi1 hi2)
  have HWZ := hide hWz
  have HZ1 := hide hz1
  have HE : Hid (Ext w W) := hE1.trans hEW
  have HB : Hid (Box W g 72 .nilFunc ∧ Box W (g + 1) 3 (.int .i64 most) ∧ Box W (g + 1 + 1) 3 (.int .i64 0)) :=
    ⟨(hEW.b.block _ hb0.lt).trans hb0, (hEW.b.block _ hb1.lt).trans hb1, (hEW.b.block _ hb2.lt).trans hb2⟩
  clear hE1 hb0 hb1 hb2 hW hi1 hi2 hs hEW hWz hz1
  go_wp2_with fail
  have hWz := HWZ.out
  have hz1 := HZ1.out
  have hgw := HG.out
  refine wp_rangeX (n := m ^ n) rfl (fun _ _ => rfl) (HSEQ.out s) (fun i O x V hi hX => by obtain ⟨b, rfl, _⟩ := hX; rfl)
    (fun i O V => Ext w V ∧ (Box V g 72 .nilFunc ∧ Box V (g + 1) 3 (.int .i64 most) ∧ Box V (g + 1 + 1) 3 (.int .i64 i)) ∧ (∀ k, O k → g + 3 ≤ k))
    (fun c O V => False) ?_ ?_ ?_ ?_ ?_ ?_ ?_ ?_ ?_
  · exact fun _ _ _ _ => trivial
  · rintro i O O' V V' ⟨h1, ⟨h2, h3, h4⟩, h6⟩ hC hG
    have no : ∀ k, k < g + 3 → ¬ O k := fun k hk h => by have := h6 k h; omega
    refine ⟨h1.offc hC (by omega) (fun k hk => by have := h6 k hk; omega), ⟨hC.cells _ _ _ _ h2 (no _ (by omega)), hC.cells _ _ _ _ h3 (no _ (by omega)), hC.cells _ _ _ _ h4 (no _ (by omega))⟩, fun k hk => ?_⟩
    have hz := h4.lt
    rcases (hG k hk).1 with h | h
    · exact h6 k h
    · omega
  · rintro c O O' V V' h; exact h.elim
  · rintro V hE; exact ⟨(hE.cell (by show s < _; omega)).trans HI.out.1, (hE.cell (by show s + 1 < _; omega)).trans HI.out.2⟩
  · rintro k (rfl | rfl) <;> omega
  · obtain ⟨h1, h2, h3⟩ := HB.out
    exact ⟨HE.out, ⟨h1, h2, h3⟩, fun k hk => by rcases hk with rfl | rfl <;> omega⟩
  · rintro lp i x O V hi ⟨b, rfl, hOb, hN⟩ ⟨h1, ⟨h2, h3, h4⟩, h6⟩ hOV hlp hlV
    clear hN hOb
    gi_wp2_with fail
    refine ⟨KFO.of_ext (Ext.refl _) hOV, fun W2 hC hKO => ?_⟩
    have hOV2 : ∀ k, O k → k < W2.heap.size := fun k hk => by have := hOV k hk; have := hC.size; omega
    have h1 : Ext w W2 := h1.chg hC (by omega)
    have h2 := h2.chg hC
    have h3 := h3.chg hC
    have h4 := h4.chg hC
    clear hC hKO hOV
    have hc0 := h2.cell
    have hc1 := h3.cell
    have hc2 := h4.cell
    have hf2 := h4.frozen
    have hbi : i < 1000000 := by have := HMOST.out; omega
    have hle : i + 1 ≤ most := by have := HMOST.out; omega
    have hd : decide ((most : Int) < (i : Int) + 1) = false := by rw [decide_eq_false_iff_not]; omega
    have HBX := hide (show Box W2 g 72 .nilFunc ∧ Box W2 (g + 1) 3 (.int .i64 most) ∧ Box W2 (g + 1 + 1) 3 (.int .i64 i) from ⟨h2, h3, h4⟩)
    have hg0 := h2.lt
    have hg1 := h3.lt
    have hg2 := h4.lt
    have H1 := hide h1
    have H6 := hide h6
    have HOV2 := hide hOV2
    clear h1 h2 h3 h4 h6 hOV2
    have hnf : ∀ V, (binOp BinOp.eql 72 .nilFunc .nilFunc).run Tryz.prog V = .ok (.bool true) V := fun V => by kernel_rfl
    gi_wp2_with fail
    rename_i hKK _ _ _ _
    refine ⟨fun _ h => (nomatch h), hKK _ _ ?_⟩
    gi_wp2_with fail
    obtain ⟨h2, h3, h4⟩ := HBX.out
    have hno : ¬ O (g + 1 + 1) := fun h => by have := H6.out _ h; omega
    exact ⟨KFO.setCell _ _ _ hno, H1.out.setCell (by show w.heap.size ≤ g + 1 + 1; omega) _, ⟨h2.other (by show g ≠ g + 1 + 1; omega), h3.other (by show g + 1 ≠ g + 1 + 1; omega), h4.set⟩, H6.out⟩
  · rintro M O V ⟨h1, ⟨h2, h3, h4⟩, h6⟩ hMl hM
    have hc2 := h4.cell
    have HM := hide hM
    have HE := hide h1
    clear h1 h2 h3 h4 h6 hM
    go_wp2_with fail
    refine leave_mark rfl HM.out (v := .int .i64 ((m ^ n : Nat) : Int)) (by kernel_rfl) ⟨rfl, HE.out.putObj (by omega) _⟩
  · exact fun _ _ _ _ h => h.elim
end Go.Proofs.YthkididgbaamcaaGreatDoor
