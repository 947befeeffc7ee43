/-
  The law FailureOmits: the walk.
  Conditions: none.
-/
import Derived.Test.YtdlhnpogddpmpaaGreatFailAz
import Derived.Test.YtdlhnpogddpmpaaGreatFailBb
namespace Go.Proofs.YtdlhnpogddpmpaaGreat
open Go.RowKit
attribute [local go_sem] Oper.semAt_some

set_option maxRecDepth 16000 in
set_option maxHeartbeats 4000000 in
theorem failureOmits_law (n k : Int) (w : World) : Calls Tryz.prog 3 #[.int .i64 n, .int .i64 k] w fun e w' => e = .returned (.bool true) ∧ Ext w w' := by
  have H1 := hide (fun W => precv_any n k W)
  have H2 := hide (fun W => rrecv_any n k W)
  have H3 := hide (fun W => pomit_any n k W)
  have H4 := hide (fun W => romit_any n k W)
  have HA := hide (fun W => awake17_any W)
  have HF := hide (fun W => rfew17_any n k W)
  cases hf : few17 n k with
  | false =>
    rw [hf] at HF
    clear H1 H2 H3 H4 hf
    go_enter Tryz.func3, Tryz.ntmps3
    go_wp2_with (go_at_call 7; refine (HF.out _).mono ?_; rintro e w1 ⟨rfl, rfl⟩)
    refine (HA.out _).mono ?_
    rintro e w2 ⟨rfl, hE⟩
    go_wp2_with fail
    go_ret
    exact ⟨rfl, hE⟩
  | true =>
  have hn : n ≤ 4 ∨ 5 < n := by
    unfold few17 at hf
    simp only [Bool.or_eq_true, Bool.and_eq_true, decide_eq_true_eq, beq_iff_eq] at hf
    omega
  rw [hf] at HF
  rw [← mdlA_eq (by omega) hn] at H2
  rw [← mdlA_eq (by omega) hn] at H4
  clear hf hn
  generalize mdlA 3 n k = rp at H1 H2
  generalize mdlA 4 n k = rs at H3 H4
  obtain ⟨a, ae⟩ := rp
  obtain ⟨c, ce⟩ := rs
  go_enter Tryz.func3, Tryz.ntmps3
  go_wp2_with (go_at_call 7; refine (HF.out _).mono ?_; rintro e w1 ⟨rfl, rfl⟩)
  refine (H1.out _).mono ?_
  rintro e w1 ⟨v1, rfl, hv1, hE1⟩
  obtain ⟨sv1, rfl, hco, -⟩ := id hv1
  obtain ⟨sq1, sc1, rfl⟩ := hco.sl
  clear hco
  have R1 := hide hv1.rep
  have HE1 := hide hE1
  clear hv1 hE1
  go_wp2_with fail
  refine (H2.out _).mono ?_
  rintro e w2 ⟨v2, rfl, hv2, hE2⟩
  obtain ⟨sv2, rfl, hco, -⟩ := id hv2
  obtain ⟨sq2, sc2, rfl⟩ := hco.sl
  clear hco
  have hX := ((Ext.refl w1).alloc (.cells #[.int .i64 a.n, .slice sq1 a.st.length sc1] 26)).trans hE2
  have HB1 : Hid (w2.heap[w1.heap.size]? = some (.cells #[.int .i64 a.n, .slice sq1 a.st.length sc1] 26 (0, 0))) := (hE2.b.block _ (by simp)).trans (heap_alloc_new w1 _)
  have R2 := hide hv2.rep
  have R1 := hide (R1.out.ext hX)
  have HE2 := hide (HE1.out.trans hX)
  clear hv2 hE2 hX
  go_wp2_with fail
  refine (H3.out _).mono ?_
  rintro e w3 ⟨v3, rfl, hv3, hE3⟩
  obtain ⟨sv3, rfl, hco, -⟩ := id hv3
  obtain ⟨sq3, sc3, rfl⟩ := hco.sl
  clear hco
  have hX := ((Ext.refl w2).alloc (.cells #[.int .i64 a.n, .slice sq2 a.st.length sc2] 26)).trans hE3
  have HB2 : Hid (w3.heap[w2.heap.size]? = some (.cells #[.int .i64 a.n, .slice sq2 a.st.length sc2] 26 (0, 0))) := (hE3.b.block _ (by simp)).trans (heap_alloc_new w2 _)
  have R3 := hide hv3.rep
  have R1 := hide (R1.out.ext hX)
  have R2 := hide (R2.out.ext hX)
  have HE3 := hide (HE2.out.trans hX)
  have HB1 : Hid (w3.heap[w1.heap.size]? = some _) := (hX.b.block _ (lt_of_heap HB1.out)).trans HB1.out
  clear hv3 hE3 hX
  go_wp2_with fail
  refine (H4.out _).mono ?_
  rintro e w4 ⟨v4, rfl, hv4, hE4⟩
  obtain ⟨sv4, rfl, hco, -⟩ := id hv4
  obtain ⟨sq4, sc4, rfl⟩ := hco.sl
  clear hco
  have hX := ((Ext.refl w3).alloc (.cells #[.int .i64 c.n, .slice sq3 c.st.length sc3] 26)).trans hE4
  have HB3 : Hid (w4.heap[w3.heap.size]? = some (.cells #[.int .i64 c.n, .slice sq3 c.st.length sc3] 26 (0, 0))) := (hE4.b.block _ (by simp)).trans (heap_alloc_new w3 _)
  have R4 := hide hv4.rep
  have R1 := hide (R1.out.ext hX)
  have R2 := hide (R2.out.ext hX)
  have R3 := hide (R3.out.ext hX)
  have HE4 := hide (HE3.out.trans hX)
  have HB1 : Hid (w4.heap[w1.heap.size]? = some _) := (hX.b.block _ (lt_of_heap HB1.out)).trans HB1.out
  have HB2 : Hid (w4.heap[w2.heap.size]? = some _) := (hX.b.block _ (lt_of_heap HB2.out)).trans HB2.out
  clear hv4 hE4 hX
  go_wp2_with fail
  refine (HA.out _).mono ?_
  rintro e w5 ⟨rfl, hE5⟩
  have hX := ((Ext.refl w4).alloc (.cells #[.int .i64 c.n, .slice sq4 c.st.length sc4] 26)).trans hE5
  have HB4 : Hid (w5.heap[w4.heap.size]? = some (.cells #[.int .i64 c.n, .slice sq4 c.st.length sc4] 26 (0, 0))) := (hE5.b.block _ (by simp)).trans (heap_alloc_new w4 _)
  have HE5 := hide (HE4.out.trans hX)
  have R1 := hide (R1.out.ext hX)
  have R2 := hide (R2.out.ext hX)
  have R3 := hide (R3.out.ext hX)
  have R4 := hide (R4.out.ext hX)
  have HB1 := hide ((hX.b.block _ (lt_of_heap HB1.out)).trans HB1.out)
  have HB2 := hide ((hX.b.block _ (lt_of_heap HB2.out)).trans HB2.out)
  have HB3 := hide ((hX.b.block _ (lt_of_heap HB3.out)).trans HB3.out)
  clear hE5 hX
  have b10 : w5.cell? ⟨w1.heap.size, 0, none⟩ = some (.int .i64 a.n) := cells_at HB1.out 0
  have b11 : w5.cell? ⟨w1.heap.size, 1, none⟩ = some (.slice sq1 a.st.length sc1) := cells_at HB1.out 1
  have b1z := lt_of_heap HB1.out
  have b20 : w5.cell? ⟨w2.heap.size, 0, none⟩ = some (.int .i64 a.n) := cells_at HB2.out 0
  have b21 : w5.cell? ⟨w2.heap.size, 1, none⟩ = some (.slice sq2 a.st.length sc2) := cells_at HB2.out 1
  have b2z := lt_of_heap HB2.out
  go_wp2_with fail
  refine (rsame_adv a a _ _ _ R1.out R2.out).mono ?_
  rw [advEq_self]
  rintro e w6 ⟨rfl, hE6⟩
  have HE6 := hide (HE5.out.trans hE6)
  have R3 := hide (R3.out.ext hE6)
  have R4 := hide (R4.out.ext hE6)
  have HB3 := hide ((hE6.b.block _ (lt_of_heap HB3.out)).trans HB3.out)
  have HB4 := hide ((hE6.b.block _ (lt_of_heap HB4.out)).trans HB4.out)
  clear hE6 b10 b11 b1z b20 b21 b2z
  have b30 : w6.cell? ⟨w3.heap.size, 0, none⟩ = some (.int .i64 c.n) := cells_at HB3.out 0
  have b31 : w6.cell? ⟨w3.heap.size, 1, none⟩ = some (.slice sq3 c.st.length sc3) := cells_at HB3.out 1
  have b3z := lt_of_heap HB3.out
  have b40 : w6.cell? ⟨w4.heap.size, 0, none⟩ = some (.int .i64 c.n) := cells_at HB4.out 0
  have b41 : w6.cell? ⟨w4.heap.size, 1, none⟩ = some (.slice sq4 c.st.length sc4) := cells_at HB4.out 1
  have b4z := lt_of_heap HB4.out
  go_wp2_with fail
  refine (rsame_adv c c _ _ _ R3.out R4.out).mono ?_
  rw [advEq_self]
  rintro e w7 ⟨rfl, hE7⟩
  have HE7 := hide (HE6.out.trans hE7)
  clear hE7
  go_wp2_with fail
  go_ret
  exact ⟨rfl, HE7.out⟩
end Go.Proofs.YtdlhnpogddpmpaaGreat
