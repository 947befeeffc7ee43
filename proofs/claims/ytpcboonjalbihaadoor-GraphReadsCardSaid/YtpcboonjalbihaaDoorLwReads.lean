/-
  The walk of 'GraphReads'.
  Conditions: the tables lie in the heap (Tz, Ml).
-/
import Derived.Test.YtpcboonjalbihaaDoorAw03
import Derived.Test.YtpcboonjalbihaaDoorRPars
import Derived.Test.YtpcboonjalbihaaDoorFindG
import Derived.Test.YtpcboonjalbihaaDoorSameG
namespace Go.Proofs.YtpcboonjalbihaaDoor
open Go.RowKit
attribute [local go_sem] Oper.semAt_some

theorem allS_len (m : Int) : (allS m).1.length ≤ 17592186044416 := by
  unfold allS
  by_cases h1 : m < 1 ∨ 5 < m
  · rw [if_pos h1]; decide
  · rw [if_neg h1]
    by_cases h2 : m = 5
    · rw [if_pos h2]; decide
    · rw [if_neg h2]
      show (allG m.toNat m.toNat).length ≤ _
      rw [allG_len (by omega) _ (Nat.le_refl _)]
      generalize hk : m.toNat = k
      obtain rfl | rfl | rfl | rfl : k = 1 ∨ k = 2 ∨ k = 3 ∨ k = 4 := by omega
      all_goals decide

set_option maxRecDepth 100000 in
set_option maxHeartbeats 8000000 in
theorem reads_law (g : Gr) (s : ByteArray) (m : Int) (w : World) (hT : Tz w) (hM : Ml w) : Calls Tryd.prog 7 #[g.v, .string s, .int .i64 m] w fun e w' => e = .returned (.bool true) ∧ Ext w w' := by
  have HAW := hide (fun W (hE : Ext w W) => awake_any W (hT.ext hE) (hM.ext hE))
  by_cases h2 : 200 < s.size
  · have h2I : (200 : Int) < (s.size : Int) := by omega
    clear h2 hT hM
    go_enter Tryd.func7, Tryd.ntmps7
    go_wp2_with fail
    have HE : Hid (Ext w (w.alloc (gobj g))) := hide ((Ext.refl w).alloc (gobj g))
    refine (HAW.out _ HE.out).mono ?_
    rintro e w2 ⟨rfl, hE⟩
    have HE := hide (HE.out.trans hE)
    clear hE
    go_wp2_with fail
    go_ret
    exact ⟨rfl, HE.out⟩
  have h2I : ¬ (200 : Int) < (s.size : Int) := by omega
  have H1 := hide (fun W (hE : Ext w W) => format_any g W (hT.ext hE))
  have H2 := hide (fun W => rformat_any g W)
  have H3 := hide (fun W (hE : Ext w W) => parse_any s (by omega) W (hT.ext hE) (hM.ext hE))
  have H4 := hide (fun W => rparse_any s (by omega) W)
  have H5 := hide (fun W => all_any m W)
  have H6 := hide (fun W => rall_any m W)
  generalize gchk g = eg at H1 H2
  generalize (⟨(if eg = 0 then wrt g else []).toArray⟩ : ByteArray) = tx at H1 H2
  generalize parseS s.data.toList = pr at H3 H4
  obtain ⟨x, ex⟩ := pr
  have HLEN : (allS m).1.length ≤ 17592186044416 := allS_len m
  generalize allS m = al at H5 H6 HLEN
  obtain ⟨L, el⟩ := al
  have HSA := hide (fun u v W hu hv => rsameall_any L L u v W hu hv)
  rw [decide_eq_true (rfl : L = L)] at HSA
  have HLL : Hid (L.length ≤ 17592186044416) := HLEN
  have hneq := neq_gr x x
  rw [decide_eq_true (rfl : x = x)] at hneq
  clear hT hM h2 HLEN
  go_enter Tryd.func7, Tryd.ntmps7
  go_upto_region 3 with fail
  have HB : Hid (GrBox (w.alloc (gobj g)) w.heap.size g) := gr_new w g
  have HE : Hid (Ext w (w.alloc (gobj g))) := hide ((Ext.refl w).alloc (gobj g))
  generalize w.alloc (gobj g) = W at HB HE ⊢
  generalize w.heap.size = bg at HB ⊢
  obtain ⟨c0, c1, c2, c3, c4, c5, z0⟩ := HB.out.cells
  go_wp2_with fail
  clear c0 c1 c2 c3 c4 c5 z0
  refine (H1.out _ HE.out).mono ?_
  rintro e w2 ⟨rfl, hE⟩
  have HE := hide (HE.out.trans hE)
  have HB := hide (HB.out.ext hE)
  clear hE
  obtain ⟨c0, c1, c2, c3, c4, c5, z0⟩ := HB.out.cells
  go_wp2_with fail
  clear c0 c1 c2 c3 c4 c5 z0
  refine (H2.out _).mono ?_
  rintro e w3 ⟨rfl, hE⟩
  have HE := hide (HE.out.trans hE)
  clear hE HB
  go_wp2_with fail
  refine (H3.out _ HE.out).mono ?_
  rintro e w4 ⟨rfl, hE⟩
  have HE := hide (HE.out.trans hE)
  clear hE
  go_upto_region 6 with fail
  have HE := hide (HE.out.alloc (gobj x))
  have HB1 : Hid (GrBox (w4.alloc (gobj x)) w4.heap.size x) := gr_new w4 x
  generalize w4.alloc (gobj x) = W4 at HE HB1 ⊢
  generalize w4.heap.size = b1 at HB1 ⊢
  go_wp2_with fail
  refine (H4.out _).mono ?_
  rintro e w5 ⟨rfl, hE⟩
  have HE := hide (HE.out.trans hE)
  have HB1 := hide (HB1.out.ext hE)
  clear hE
  go_upto_region 7 with fail
  have HE := hide (HE.out.alloc (gobj x))
  have HB1 := hide (HB1.out.alloc (gobj x))
  have HB2 : Hid (GrBox (w5.alloc (gobj x)) w5.heap.size x) := gr_new w5 x
  generalize w5.alloc (gobj x) = W5 at HE HB1 HB2 ⊢
  generalize w5.heap.size = b2 at HB2 ⊢
  obtain ⟨c0, c1, c2, c3, c4, c5, z0⟩ := HB1.out.cells
  obtain ⟨d0, d1, d2, d3, d4, d5, y0⟩ := HB2.out.cells
  go_upto_region 9 with fail
  clear c0 c1 c2 c3 c4 c5 z0 d0 d1 d2 d3 d4 d5 y0 hneq
  go_wp2_with fail
  refine (H5.out _).mono ?_
  rintro e w6 ⟨u, rfl, ho, hE⟩
  have HE := hide (HE.out.trans hE)
  have HO := hide ho
  clear hE ho
  obtain ⟨qu, cu, rfl⟩ := HO.out.sl
  go_wp2_with fail
  refine (H6.out _).mono ?_
  rintro e w7 ⟨v, rfl, ho, hE⟩
  have HE := hide (HE.out.trans hE)
  have HO := hide (HO.out.ext hE)
  have HO2 := hide ho
  clear hE ho
  obtain ⟨qv, cv, rfl⟩ := HO2.out.sl
  have HR := hide (HO.out.row HLL.out)
  have HR2 := hide (HO2.out.row HLL.out)
  clear HO HO2
  go_wp2_with fail
  refine (HSA.out _ _ _ HR.out HR2.out).mono ?_
  rintro e w8 ⟨rfl, hE⟩
  have HE := hide (HE.out.trans hE)
  clear hE
  go_wp2_with fail
  refine (HAW.out _ HE.out).mono ?_
  rintro e w9 ⟨rfl, hE⟩
  have HE := hide (HE.out.trans hE)
  clear hE
  go_wp2_with fail
  go_ret
  exact ⟨rfl, HE.out⟩
end Go.Proofs.YtpcboonjalbihaaDoor
