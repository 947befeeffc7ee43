/-
  The walk of 'GraphComposes'.
  Conditions: the tables lie in the heap (Tz, Ml).
-/
import Derived.Test.YtpcboonjalbihaaDoorAw03
import Derived.Test.YtpcboonjalbihaaDoorGRefR
namespace Go.Proofs.YtpcboonjalbihaaDoor
open Go.RowKit
attribute [local go_sem] Oper.semAt_some

set_option maxRecDepth 100000 in
set_option maxHeartbeats 4000000 in
theorem composes_law (a b : Gr) (w : World) (hT : Tz w) (hM : Ml w) : Calls Tryd.prog 5 #[a.v, b.v] w fun e w' => e = .returned (.bool true) ∧ Ext w w' := by
  have HAW := hide (fun W (hE : Ext w W) => awake_any W (hT.ext hE) (hM.ext hE))
  have H1 := hide (fun W (hE : Ext w W) => compose_any a b W (hT.ext hE))
  have H2 := hide (fun W => rcompose_any a b W)
  have H3 := hide (fun W => union_any a b W)
  have H4 := hide (fun W => runion_any a b W)
  have H5 := hide (fun W => reverse_any a W)
  have H6 := hide (fun W => rreverse_any a W)
  generalize composeS a b = r1 at H1 H2
  generalize unionS a b = r2 at H3 H4
  generalize reverseS a = r3 at H5 H6
  obtain ⟨x, ex⟩ := r1
  obtain ⟨y, ey⟩ := r2
  obtain ⟨z, ez⟩ := r3
  clear hT hM
  have heq_x : ∀ W, (binOp .eql 24 x.v x.v).run Tryd.prog W = .ok (.bool true) W := fun W => by
    have h := eql_graph x.n x.h0 x.h1 x.h2 x.h3 x.h4 x.n x.h0 x.h1 x.h2 x.h3 x.h4 W
    rw [show geq ⟨x.n, x.h0, x.h1, x.h2, x.h3, x.h4⟩ ⟨x.n, x.h0, x.h1, x.h2, x.h3, x.h4⟩ = true from geq_iff.2 rfl] at h
    exact h
  have heq_y : ∀ W, (binOp .eql 24 y.v y.v).run Tryd.prog W = .ok (.bool true) W := fun W => by
    have h := eql_graph y.n y.h0 y.h1 y.h2 y.h3 y.h4 y.n y.h0 y.h1 y.h2 y.h3 y.h4 W
    rw [show geq ⟨y.n, y.h0, y.h1, y.h2, y.h3, y.h4⟩ ⟨y.n, y.h0, y.h1, y.h2, y.h3, y.h4⟩ = true from geq_iff.2 rfl] at h
    exact h
  have heq_z : ∀ W, (binOp .eql 24 z.v z.v).run Tryd.prog W = .ok (.bool true) W := fun W => by
    have h := eql_graph z.n z.h0 z.h1 z.h2 z.h3 z.h4 z.n z.h0 z.h1 z.h2 z.h3 z.h4 W
    rw [show geq ⟨z.n, z.h0, z.h1, z.h2, z.h3, z.h4⟩ ⟨z.n, z.h0, z.h1, z.h2, z.h3, z.h4⟩ = true from geq_iff.2 rfl] at h
    exact h
  go_enter Tryd.func5, Tryd.ntmps5
  go_wp2_with fail
  have HT := hide (Two.mk_ w a b)
  have HE := hide HT.out.ext
  have HBa := hide HT.out.a
  have HBb := hide HT.out.b
  clear HT
  generalize (w.alloc (gobj a)).alloc (gobj b) = W at HE HBa HBb ⊢
  obtain ⟨ca0, ca1, ca2, ca3, ca4, ca5, za⟩ := HBa.out.cells
  obtain ⟨cb0, cb1, cb2, cb3, cb4, cb5, zb⟩ := HBb.out.cells
  go_wp2_with fail
  clear ca0 ca1 ca2 ca3 ca4 ca5 cb0 cb1 cb2 cb3 cb4 cb5 za zb
  refine (H1.out _ HE.out).mono ?_
  rintro e w2 ⟨rfl, hE⟩
  have HE := hide (HE.out.trans hE)
  have HBa := hide (HBa.out.ext hE)
  have HBb := hide (HBb.out.ext hE)
  clear hE
  go_upto_region 2 with fail
  have HBa := hide (HBa.out.alloc (gobj x))
  have HBb := hide (HBb.out.alloc (gobj x))
  have HE := hide (HE.out.alloc (gobj x))
  have HB1 : Hid (GrBox (w2.alloc (gobj x)) w2.heap.size x) := gr_new w2 x
  generalize w2.alloc (gobj x) = W2 at HE HBa HBb HB1 ⊢
  generalize w2.heap.size = b1 at HB1 ⊢
  obtain ⟨ca0, ca1, ca2, ca3, ca4, ca5, za⟩ := HBa.out.cells
  obtain ⟨cb0, cb1, cb2, cb3, cb4, cb5, zb⟩ := HBb.out.cells
  go_wp2_with fail
  clear ca0 ca1 ca2 ca3 ca4 ca5 cb0 cb1 cb2 cb3 cb4 cb5 za zb
  refine (H2.out _).mono ?_
  rintro e w2 ⟨rfl, hE⟩
  have HE := hide (HE.out.trans hE)
  have HBa := hide (HBa.out.ext hE)
  have HBb := hide (HBb.out.ext hE)
  have HB1 := hide (HB1.out.ext hE)
  clear hE
  go_upto_region 3 with fail
  have HBa := hide (HBa.out.alloc (gobj x))
  have HBb := hide (HBb.out.alloc (gobj x))
  have HB1 := hide (HB1.out.alloc (gobj x))
  have HE := hide (HE.out.alloc (gobj x))
  have HB2 : Hid (GrBox (w2.alloc (gobj x)) w2.heap.size x) := gr_new w2 x
  generalize w2.alloc (gobj x) = W2 at HE HBa HBb HB1 HB2 ⊢
  generalize w2.heap.size = b2 at HB2 ⊢
  obtain ⟨ca0, ca1, ca2, ca3, ca4, ca5, za⟩ := HBa.out.cells
  obtain ⟨cb0, cb1, cb2, cb3, cb4, cb5, zb⟩ := HBb.out.cells
  go_wp2_with fail
  clear ca0 ca1 ca2 ca3 ca4 ca5 cb0 cb1 cb2 cb3 cb4 cb5 za zb
  refine (H3.out _).mono ?_
  rintro e w2 ⟨rfl, hE⟩
  have HE := hide (HE.out.trans hE)
  have HBa := hide (HBa.out.ext hE)
  have HBb := hide (HBb.out.ext hE)
  have HB1 := hide (HB1.out.ext hE)
  have HB2 := hide (HB2.out.ext hE)
  clear hE
  go_upto_region 4 with fail
  have HBa := hide (HBa.out.alloc (gobj y))
  have HBb := hide (HBb.out.alloc (gobj y))
  have HB1 := hide (HB1.out.alloc (gobj y))
  have HB2 := hide (HB2.out.alloc (gobj y))
  have HE := hide (HE.out.alloc (gobj y))
  have HB3 : Hid (GrBox (w2.alloc (gobj y)) w2.heap.size y) := gr_new w2 y
  generalize w2.alloc (gobj y) = W2 at HE HBa HBb HB1 HB2 HB3 ⊢
  generalize w2.heap.size = b3 at HB3 ⊢
  obtain ⟨ca0, ca1, ca2, ca3, ca4, ca5, za⟩ := HBa.out.cells
  obtain ⟨cb0, cb1, cb2, cb3, cb4, cb5, zb⟩ := HBb.out.cells
  go_wp2_with fail
  clear ca0 ca1 ca2 ca3 ca4 ca5 cb0 cb1 cb2 cb3 cb4 cb5 za zb
  refine (H4.out _).mono ?_
  rintro e w2 ⟨rfl, hE⟩
  have HE := hide (HE.out.trans hE)
  have HBa := hide (HBa.out.ext hE)
  have HBb := hide (HBb.out.ext hE)
  have HB1 := hide (HB1.out.ext hE)
  have HB2 := hide (HB2.out.ext hE)
  have HB3 := hide (HB3.out.ext hE)
  clear hE
  go_upto_region 5 with fail
  have HBa := hide (HBa.out.alloc (gobj y))
  have HBb := hide (HBb.out.alloc (gobj y))
  have HB1 := hide (HB1.out.alloc (gobj y))
  have HB2 := hide (HB2.out.alloc (gobj y))
  have HB3 := hide (HB3.out.alloc (gobj y))
  have HE := hide (HE.out.alloc (gobj y))
  have HB4 : Hid (GrBox (w2.alloc (gobj y)) w2.heap.size y) := gr_new w2 y
  generalize w2.alloc (gobj y) = W2 at HE HBa HBb HB1 HB2 HB3 HB4 ⊢
  generalize w2.heap.size = b4 at HB4 ⊢
  obtain ⟨ca0, ca1, ca2, ca3, ca4, ca5, za⟩ := HBa.out.cells
  go_wp2_with fail
  clear ca0 ca1 ca2 ca3 ca4 ca5 za
  refine (H5.out _).mono ?_
  rintro e w2 ⟨rfl, hE⟩
  have HE := hide (HE.out.trans hE)
  have HBa := hide (HBa.out.ext hE)
  have HBb := hide (HBb.out.ext hE)
  have HB1 := hide (HB1.out.ext hE)
  have HB2 := hide (HB2.out.ext hE)
  have HB3 := hide (HB3.out.ext hE)
  have HB4 := hide (HB4.out.ext hE)
  clear hE
  go_upto_region 6 with fail
  have HBa := hide (HBa.out.alloc (gobj z))
  have HBb := hide (HBb.out.alloc (gobj z))
  have HB1 := hide (HB1.out.alloc (gobj z))
  have HB2 := hide (HB2.out.alloc (gobj z))
  have HB3 := hide (HB3.out.alloc (gobj z))
  have HB4 := hide (HB4.out.alloc (gobj z))
  have HE := hide (HE.out.alloc (gobj z))
  have HB5 : Hid (GrBox (w2.alloc (gobj z)) w2.heap.size z) := gr_new w2 z
  generalize w2.alloc (gobj z) = W2 at HE HBa HBb HB1 HB2 HB3 HB4 HB5 ⊢
  generalize w2.heap.size = b5 at HB5 ⊢
  obtain ⟨ca0, ca1, ca2, ca3, ca4, ca5, za⟩ := HBa.out.cells
  go_wp2_with fail
  clear ca0 ca1 ca2 ca3 ca4 ca5 za
  refine (H6.out _).mono ?_
  rintro e w2 ⟨rfl, hE⟩
  have HE := hide (HE.out.trans hE)
  have HBa := hide (HBa.out.ext hE)
  have HBb := hide (HBb.out.ext hE)
  have HB1 := hide (HB1.out.ext hE)
  have HB2 := hide (HB2.out.ext hE)
  have HB3 := hide (HB3.out.ext hE)
  have HB4 := hide (HB4.out.ext hE)
  have HB5 := hide (HB5.out.ext hE)
  clear hE
  go_upto_region 7 with fail
  have HBa := hide (HBa.out.alloc (gobj z))
  have HBb := hide (HBb.out.alloc (gobj z))
  have HB1 := hide (HB1.out.alloc (gobj z))
  have HB2 := hide (HB2.out.alloc (gobj z))
  have HB3 := hide (HB3.out.alloc (gobj z))
  have HB4 := hide (HB4.out.alloc (gobj z))
  have HB5 := hide (HB5.out.alloc (gobj z))
  have HE := hide (HE.out.alloc (gobj z))
  have HB6 : Hid (GrBox (w2.alloc (gobj z)) w2.heap.size z) := gr_new w2 z
  generalize w2.alloc (gobj z) = W2 at HE HBa HBb HB1 HB2 HB3 HB4 HB5 HB6 ⊢
  generalize w2.heap.size = b6 at HB6 ⊢
  obtain ⟨c10, c11, c12, c13, c14, c15, z1⟩ := HB1.out.cells
  obtain ⟨c20, c21, c22, c23, c24, c25, z2⟩ := HB2.out.cells
  obtain ⟨c30, c31, c32, c33, c34, c35, z3⟩ := HB3.out.cells
  obtain ⟨c40, c41, c42, c43, c44, c45, z4⟩ := HB4.out.cells
  obtain ⟨c50, c51, c52, c53, c54, c55, z5⟩ := HB5.out.cells
  obtain ⟨c60, c61, c62, c63, c64, c65, z6⟩ := HB6.out.cells
  go_wp2_with fail
  refine (HAW.out _ HE.out).mono ?_
  rintro e w2 ⟨rfl, hE⟩
  have HE := hide (HE.out.trans hE)
  clear hE
  clear c10 c11 c12 c13 c14 c15 c20 c21 c22 c23 c24 c25 c30 c31 c32 c33 c34 c35 c40 c41 c42 c43 c44 c45 c50 c51 c52 c53 c54 c55 c60 c61 c62 c63 c64 c65 z1 z2 z3 z4 z5 z6
  go_wp2_with fail
  go_ret
  exact ⟨rfl, HE.out⟩
end Go.Proofs.YtpcboonjalbihaaDoor
