/-
  The walk of 'GraphPermutes'.
  Conditions: the tables lie in the heap (Tz, Ml).
-/
import Derived.Test.YtpcboonjalbihaaDoorAw03
import Derived.Test.YtpcboonjalbihaaDoorRPm
namespace Go.Proofs.YtpcboonjalbihaaDoor
open Go.RowKit
attribute [local go_sem] Oper.semAt_some

set_option maxRecDepth 100000 in
set_option maxHeartbeats 4000000 in
theorem permutes_law (a : Gr) (l : List Int) (u : Value) (w : World) (hu : Row icells 1 w u l) (hT : Tz w) (hM : Ml w) : Calls Tryd.prog 3 #[a.v, u] w fun e w' => e = .returned (.bool true) ∧ Ext w w' := by
  have HAW := hide (fun W (hE : Ext w W) => awake_any W (hT.ext hE) (hM.ext hE))
  have H1 := hide (fun W (hE : Ext w W) => permute_any a l u W (hu.ext hE))
  have H2 := hide (fun W (hE : Ext w W) => rpermute_any a l u W (hu.ext hE))
  obtain ⟨p, c, rfl, hc, hlen, -⟩ := hu.int_all
  generalize permuteS a l = r1 at H1 H2
  obtain ⟨x, ex⟩ := r1
  clear hT hM hu
  have heq_x : ∀ W, (binOp .eql 24 x.v x.v).run Tryd.prog W = .ok (.bool true) W := fun W => by
    have h := eql_graph x.n x.h0 x.h1 x.h2 x.h3 x.h4 x.n x.h0 x.h1 x.h2 x.h3 x.h4 W
    rw [show geq ⟨x.n, x.h0, x.h1, x.h2, x.h3, x.h4⟩ ⟨x.n, x.h0, x.h1, x.h2, x.h3, x.h4⟩ = true from geq_iff.2 rfl] at h
    exact h
  by_cases h20 : (20 : Int) < l.length
  · go_enter Tryd.func3, Tryd.ntmps3
    go_wp2_with fail
    have HE := hide ((Ext.refl w).alloc (gobj a))
    refine (HAW.out _ HE.out).mono ?_
    rintro e w2 ⟨rfl, hE⟩
    have HE := hide (HE.out.trans hE)
    clear hE
    go_wp2_with fail
    go_ret
    exact ⟨rfl, HE.out⟩
  go_enter Tryd.func3, Tryd.ntmps3
  go_upto_region 3 with fail
  have HBa := hide (gr_new w a)
  have HE : Hid (Ext w (w.alloc (gobj a))) := hide ((Ext.refl w).alloc (gobj a))
  change Code.wp _ _ _ _ (w.alloc (gobj a))
  generalize w.alloc (gobj a) = W at HE HBa ⊢
  obtain ⟨ca0, ca1, ca2, ca3, ca4, ca5, za⟩ := HBa.out.cells
  go_wp2_with fail
  clear ca0 ca1 ca2 ca3 ca4 ca5 za
  refine (H1.out _ HE.out).mono ?_
  rintro e w2 ⟨rfl, hE⟩
  have HE := hide (HE.out.trans hE)
  have HBa := hide (HBa.out.ext hE)
  clear hE
  go_upto_region 4 with fail
  have HBa := hide (HBa.out.alloc (gobj x))
  have HE := hide (HE.out.alloc (gobj x))
  have HB1 : Hid (GrBox (w2.alloc (gobj x)) w2.heap.size x) := gr_new w2 x
  generalize w2.alloc (gobj x) = W2 at HE HBa HB1 ⊢
  generalize w2.heap.size = b1 at HB1 ⊢
  obtain ⟨ca0, ca1, ca2, ca3, ca4, ca5, za⟩ := HBa.out.cells
  go_wp2_with fail
  clear ca0 ca1 ca2 ca3 ca4 ca5 za
  refine (H2.out _ HE.out).mono ?_
  rintro e w2 ⟨rfl, hE⟩
  have HE := hide (HE.out.trans hE)
  have HBa := hide (HBa.out.ext hE)
  have HB1 := hide (HB1.out.ext hE)
  clear hE
  go_upto_region 5 with fail
  have HBa := hide (HBa.out.alloc (gobj x))
  have HB1 := hide (HB1.out.alloc (gobj x))
  have HE := hide (HE.out.alloc (gobj x))
  have HB2 : Hid (GrBox (w2.alloc (gobj x)) w2.heap.size x) := gr_new w2 x
  generalize w2.alloc (gobj x) = W2 at HE HBa HB1 HB2 ⊢
  generalize w2.heap.size = b2 at HB2 ⊢
  obtain ⟨c10, c11, c12, c13, c14, c15, z1⟩ := HB1.out.cells
  obtain ⟨c20, c21, c22, c23, c24, c25, z2⟩ := HB2.out.cells
  go_wp2_with fail
  refine (HAW.out _ HE.out).mono ?_
  rintro e w2 ⟨rfl, hE⟩
  have HE := hide (HE.out.trans hE)
  clear hE
  clear c10 c11 c12 c13 c14 c15 c20 c21 c22 c23 c24 c25 z1 z2
  go_wp2_with fail
  go_ret
  exact ⟨rfl, HE.out⟩
end Go.Proofs.YtpcboonjalbihaaDoor
