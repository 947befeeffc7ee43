/-
  The walk of 'RoundEnds'.
  Conditions: the tables lie in the heap (Tz, Ml).
-/
import Derived.Test.YtfnhjalnbmnlaaaDoorAw15
import Derived.Test.YtfnhjalnbmnlaaaDoorRdFew
namespace Go.Proofs.YtfnhjalnbmnlaaaDoor
open Go.RowKit
attribute [local go_sem] Oper.semAt_some

set_option maxRecDepth 100000 in
set_option maxHeartbeats 8000000 in
theorem rends_law (n : Int) (l : List Rd) (u : Value) (w : World) (hu : Row Rd.cells 7 w u l) (hT : Tz w) (hM : Ml w) : Calls Tryd.prog 4 #[.int .i64 n, u] w fun e w' => e = .returned (.bool true) ∧ Ext w w' := by
  have HAW := hide (fun W (hE : Ext w W) => awake_any W (hT.ext hE) (Ml.ext hM hE))
  have HC1 := hide (fun W (hE : Ext w W) => rdfaulty_any n l u W (hu.ext hE))
  have HC2 := hide (fun W (hE : Ext w W) => rrdfaulty_any n l u W (hu.ext hE))
  have HC3 := hide (fun W (hE : Ext w W) => rdobliged_any n l u W (hu.ext hE))
  have HC4 := hide (fun W (hE : Ext w W) => rrdobliged_any n l u W (hu.ext hE))
  have HC5 := hide (fun W (hE : Ext w W) => rdproduct_any n l u W (hT.ext hE) (hu.ext hE))
  have HC6 := hide (fun W (hE : Ext w W) => rrdproduct_any n l u W (hu.ext hE))
  have HC7 := hide (fun W (hE : Ext w W) => rword_any n l u W (hu.ext hE))
  have HC8 := hide (fun W (hE : Ext w W) => rrword_any n l u W (hu.ext hE))
  obtain ⟨p, c, rfl, hc, hlen, -⟩ := hu.rd_all
  have HF := hide (fun W => rdfew_any l p c W)
  clear hu hT hM
  generalize faultyS n l = r1 at HC1 HC2
  generalize obligedS n l = r2 at HC3 HC4
  generalize productS n l = r3 at HC5 HC6
  generalize wordE n l = r4 at HC7 HC8
  obtain ⟨x1, e1⟩ := r1
  obtain ⟨x2, e2⟩ := r2
  obtain ⟨x3, e3⟩ := r3
  have heq := eqg_rd x3
  have HEQ := hide heq
  clear heq
  generalize fewB l = fb at HF
  have HE : Hid (Ext w w) := Ext.refl w
  go_enter Tryd.func4, Tryd.ntmps4
  go_wp2_with fail
  refine (HF.out _).mono ?_
  rintro e w0 ⟨rfl, rfl⟩
  cases fb with
  | false =>
    go_wp2_with fail
    refine (HAW.out _ HE.out).mono ?_
    rintro e w1 ⟨rfl, hE⟩
    have HE := hide (HE.out.trans hE)
    clear hE
    go_wp2_with fail
    go_ret
    exact ⟨rfl, HE.out⟩
  | true =>
    go_wp2_with fail
    refine (HC1.out _ HE.out).mono ?_
    rintro e w1 ⟨rfl, hE⟩
    have HE := hide (HE.out.trans hE)
    clear hE
    go_wp2_with fail
    refine (HC2.out _ HE.out).mono ?_
    rintro e w2 ⟨rfl, hE⟩
    have HE := hide (HE.out.trans hE)
    clear hE
    go_wp2_with fail
    refine (HC3.out _ HE.out).mono ?_
    rintro e w3 ⟨rfl, hE⟩
    have HE := hide (HE.out.trans hE)
    clear hE
    go_wp2_with fail
    refine (HC4.out _ HE.out).mono ?_
    rintro e w4 ⟨rfl, hE⟩
    have HE := hide (HE.out.trans hE)
    clear hE
    go_wp2_with fail
    refine (HC5.out _ HE.out).mono ?_
    rintro e w5 ⟨rfl, hE⟩
    have HE := hide (HE.out.trans hE)
    clear hE
    go_upto_region 8 with fail
    have HB13 : Hid (GrBox (w5.alloc (gobj x3)) w5.heap.size x3) := gr_new w5 x3
    have HE := hide (HE.out.alloc (gobj x3))
    change Code.wp _ _ _ _ (w5.alloc (gobj x3))
    generalize w5.alloc (gobj x3) = W5 at HB13 HE ⊢
    generalize w5.heap.size = b13 at HB13 ⊢
    go_wp2_with fail
    refine (HC6.out _ HE.out).mono ?_
    rintro e w6 ⟨rfl, hE⟩
    have HE := hide (HE.out.trans hE)
    have HB13 := hide (HB13.out.ext hE)
    clear hE
    go_upto_region 9 with fail
    have HB15 : Hid (GrBox (w6.alloc (gobj x3)) w6.heap.size x3) := gr_new w6 x3
    have HB13 := hide (HB13.out.alloc (gobj x3))
    have HE := hide (HE.out.alloc (gobj x3))
    change Code.wp _ _ _ _ (w6.alloc (gobj x3))
    generalize w6.alloc (gobj x3) = W6 at HB13 HB15 HE ⊢
    generalize w6.heap.size = b15 at HB15 ⊢
    go_wp2_with fail
    refine (HC7.out _ HE.out).mono ?_
    rintro e w7 ⟨rfl, hE⟩
    have HE := hide (HE.out.trans hE)
    have HB13 := hide (HB13.out.ext hE)
    have HB15 := hide (HB15.out.ext hE)
    clear hE
    go_wp2_with fail
    refine (HC8.out _ HE.out).mono ?_
    rintro e w8 ⟨rfl, hE⟩
    have HE := hide (HE.out.trans hE)
    have HB13 := hide (HB13.out.ext hE)
    have HB15 := hide (HB15.out.ext hE)
    clear hE
    obtain ⟨c0, c1, c2, c3, c4, c5, cz⟩ := HB13.out.cells
    obtain ⟨d0, d1, d2, d3, d4, d5, dz⟩ := HB15.out.cells
    have heq := HEQ.out
    go_wp2_with fail
    clear c0 c1 c2 c3 c4 c5 cz d0 d1 d2 d3 d4 d5 dz heq
    refine (HAW.out _ HE.out).mono ?_
    rintro e w9 ⟨rfl, hE⟩
    have HE := hide (HE.out.trans hE)
    clear hE
    go_wp2_with fail
    go_ret
    exact ⟨rfl, HE.out⟩
end Go.Proofs.YtfnhjalnbmnlaaaDoor
