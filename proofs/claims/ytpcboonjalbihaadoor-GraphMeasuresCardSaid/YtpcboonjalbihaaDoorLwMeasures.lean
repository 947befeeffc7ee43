/-
  The walk of 'GraphMeasures'.
  Conditions: the tables lie in the heap (Tz, Ml).
-/
import Derived.Test.YtpcboonjalbihaaDoorAw03
import Derived.Test.YtpcboonjalbihaaDoorGMeasR
namespace Go.Proofs.YtpcboonjalbihaaDoor
open Go.RowKit
attribute [local go_sem] Oper.semAt_some

set_option maxRecDepth 100000 in
set_option maxHeartbeats 4000000 in
theorem measures_law (a b : Gr) (w : World) (hT : Tz w) (hM : Ml w) : Calls Tryd.prog 9 #[a.v, b.v] w fun e w' => e = .returned (.bool true) ∧ Ext w w' := by
  have HAW := hide (fun W (hE : Ext w W) => awake_any W (hT.ext hE) (hM.ext hE))
  have H1 := hide (fun W => inside_any a b W)
  have H2 := hide (fun W => rgin_any a b W)
  have H3 := hide (fun W => edges_any a W)
  have H4 := hide (fun W => redges_any a W)
  have H5 := hide (fun W => kernel_any a W)
  have H6 := hide (fun W => rkernel_any a W)
  have H7 := hide (fun W (hE : Ext w W) => roots_any a W (hT.ext hE))
  have H8 := hide (fun W => rroots_any a W)
  have H9 := hide (fun W => nonsplit_any a W)
  have H10 := hide (fun W => rnonsplit_any a W)
  generalize insideS a b = r1 at H1 H2
  generalize edgesS a = r2 at H3 H4
  generalize kernelS a = r3 at H5 H6
  generalize rootsS a = r4 at H7 H8
  generalize nonsplitS a = r5 at H9 H10
  obtain ⟨x, ex⟩ := r1
  obtain ⟨y, ey⟩ := r2
  obtain ⟨z, ez⟩ := r3
  obtain ⟨u, eu⟩ := r4
  obtain ⟨v, ev⟩ := r5
  clear hT hM
  go_enter Tryd.func9, Tryd.ntmps9
  go_wp2_with fail
  have HT := hide (Two.mk_ w a b)
  have HE := hide HT.out.ext
  have HBa := hide HT.out.a
  have HBb := hide HT.out.b
  clear HT
  generalize (w.alloc (gobj a)).alloc (gobj b) = W at HE HBa HBb ⊢
  obtain ⟨ca0, ca1, ca2, ca3, ca4, ca5, za⟩ := HBa.out.cells
  obtain ⟨cb0, cb1, cb2, cb3, cb4, cb5, zb⟩ := HBb.out.cells
  go_wp2_with fail
  clear ca0 ca1 ca2 ca3 ca4 ca5 cb0 cb1 cb2 cb3 cb4 cb5 za zb
  refine (H1.out _).mono ?_
  rintro e w2 ⟨rfl, hE⟩
  have HE := hide (HE.out.trans hE)
  have HBa := hide (HBa.out.ext hE)
  have HBb := hide (HBb.out.ext hE)
  clear hE
  obtain ⟨ca0, ca1, ca2, ca3, ca4, ca5, za⟩ := HBa.out.cells
  obtain ⟨cb0, cb1, cb2, cb3, cb4, cb5, zb⟩ := HBb.out.cells
  go_wp2_with fail
  clear ca0 ca1 ca2 ca3 ca4 ca5 cb0 cb1 cb2 cb3 cb4 cb5 za zb
  refine (H2.out _).mono ?_
  rintro e w2 ⟨rfl, hE⟩
  have HE := hide (HE.out.trans hE)
  have HBa := hide (HBa.out.ext hE)
  have HBb := hide (HBb.out.ext hE)
  clear hE
  obtain ⟨ca0, ca1, ca2, ca3, ca4, ca5, za⟩ := HBa.out.cells
  go_wp2_with fail
  clear ca0 ca1 ca2 ca3 ca4 ca5 za
  refine (H3.out _).mono ?_
  rintro e w2 ⟨rfl, hE⟩
  have HE := hide (HE.out.trans hE)
  have HBa := hide (HBa.out.ext hE)
  have HBb := hide (HBb.out.ext hE)
  clear hE
  obtain ⟨ca0, ca1, ca2, ca3, ca4, ca5, za⟩ := HBa.out.cells
  go_wp2_with fail
  clear ca0 ca1 ca2 ca3 ca4 ca5 za
  refine (H4.out _).mono ?_
  rintro e w2 ⟨rfl, hE⟩
  have HE := hide (HE.out.trans hE)
  have HBa := hide (HBa.out.ext hE)
  have HBb := hide (HBb.out.ext hE)
  clear hE
  clear HBb
  obtain ⟨ca0, ca1, ca2, ca3, ca4, ca5, za⟩ := HBa.out.cells
  go_wp2_with fail
  clear ca0 ca1 ca2 ca3 ca4 ca5 za
  refine (H5.out _).mono ?_
  rintro e w2 ⟨rfl, hE⟩
  have HE := hide (HE.out.trans hE)
  have HBa := hide (HBa.out.ext hE)
  clear hE
  obtain ⟨ca0, ca1, ca2, ca3, ca4, ca5, za⟩ := HBa.out.cells
  go_wp2_with fail
  clear ca0 ca1 ca2 ca3 ca4 ca5 za
  refine (H6.out _).mono ?_
  rintro e w2 ⟨rfl, hE⟩
  have HE := hide (HE.out.trans hE)
  have HBa := hide (HBa.out.ext hE)
  clear hE
  obtain ⟨ca0, ca1, ca2, ca3, ca4, ca5, za⟩ := HBa.out.cells
  go_wp2_with fail
  clear ca0 ca1 ca2 ca3 ca4 ca5 za
  refine (H7.out _ HE.out).mono ?_
  rintro e w2 ⟨rfl, hE⟩
  have HE := hide (HE.out.trans hE)
  have HBa := hide (HBa.out.ext hE)
  clear hE
  obtain ⟨ca0, ca1, ca2, ca3, ca4, ca5, za⟩ := HBa.out.cells
  go_wp2_with fail
  clear ca0 ca1 ca2 ca3 ca4 ca5 za
  refine (H8.out _).mono ?_
  rintro e w2 ⟨rfl, hE⟩
  have HE := hide (HE.out.trans hE)
  have HBa := hide (HBa.out.ext hE)
  clear hE
  obtain ⟨ca0, ca1, ca2, ca3, ca4, ca5, za⟩ := HBa.out.cells
  go_wp2_with fail
  clear ca0 ca1 ca2 ca3 ca4 ca5 za
  refine (H9.out _).mono ?_
  rintro e w2 ⟨rfl, hE⟩
  have HE := hide (HE.out.trans hE)
  have HBa := hide (HBa.out.ext hE)
  clear hE
  obtain ⟨ca0, ca1, ca2, ca3, ca4, ca5, za⟩ := HBa.out.cells
  go_wp2_with fail
  clear ca0 ca1 ca2 ca3 ca4 ca5 za
  refine (H10.out _).mono ?_
  rintro e w2 ⟨rfl, hE⟩
  have HE := hide (HE.out.trans hE)
  have HBa := hide (HBa.out.ext hE)
  clear hE
  go_wp2_with fail
  refine (HAW.out _ HE.out).mono ?_
  rintro e w2 ⟨rfl, hE⟩
  have HE := hide (HE.out.trans hE)
  clear hE
  go_wp2_with fail
  go_ret
  exact ⟨rfl, HE.out⟩
end Go.Proofs.YtpcboonjalbihaaDoor
