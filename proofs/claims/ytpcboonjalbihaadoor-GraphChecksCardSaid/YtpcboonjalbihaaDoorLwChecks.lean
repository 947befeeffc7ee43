/-
  The walk of 'GraphChecks'.
  Conditions: the tables lie in the heap (Tz, Ml).
-/
import Derived.Test.YtpcboonjalbihaaDoorAw03
import Derived.Test.YtpcboonjalbihaaDoorGRefR
namespace Go.Proofs.YtpcboonjalbihaaDoor
open Go.RowKit
attribute [local go_sem] Oper.semAt_some

set_option maxRecDepth 100000 in
set_option maxHeartbeats 4000000 in
theorem gchecks_law (a b : Gr) (n : Int) (w : World) (hT : Tz w) (hM : Ml w) : Calls Tryd.prog 10 #[a.v, b.v, .int .i64 n] w fun e w' => e = .returned (.bool true) ∧ Ext w w' := by
  have HAW := hide (fun W (hE : Ext w W) => awake_any W (hT.ext hE) (hM.ext hE))
  have H1 := hide (fun W => complete_any n W)
  have H2 := hide (fun W => rcomplete_any n W)
  have H3 := hide (fun W => silent_any n W)
  have H4 := hide (fun W => rsilent_any n W)
  have H5 := hide (fun W => gcheck_any a W)
  have H6 := hide (fun W => rgcheck_any a W)
  have H7 := hide (fun W => gcompare_any a b W)
  have H8 := hide (fun W => rgcompare_any a b W)
  generalize completeS n = r1 at H1 H2
  generalize silentS n = r2 at H3 H4
  generalize gchk a = c1 at H5 H6
  generalize gcmp a b = c2 at H7 H8
  obtain ⟨x, ex⟩ := r1
  obtain ⟨y, ey⟩ := r2
  clear hT hM
  have heq_x : ∀ W, (binOp .eql 24 x.v x.v).run Tryd.prog W = .ok (.bool true) W := fun W => by
    have h := eql_graph x.n x.h0 x.h1 x.h2 x.h3 x.h4 x.n x.h0 x.h1 x.h2 x.h3 x.h4 W
    rw [show geq ⟨x.n, x.h0, x.h1, x.h2, x.h3, x.h4⟩ ⟨x.n, x.h0, x.h1, x.h2, x.h3, x.h4⟩ = true from geq_iff.2 rfl] at h
    exact h
  have heq_y : ∀ W, (binOp .eql 24 y.v y.v).run Tryd.prog W = .ok (.bool true) W := fun W => by
    have h := eql_graph y.n y.h0 y.h1 y.h2 y.h3 y.h4 y.n y.h0 y.h1 y.h2 y.h3 y.h4 W
    rw [show geq ⟨y.n, y.h0, y.h1, y.h2, y.h3, y.h4⟩ ⟨y.n, y.h0, y.h1, y.h2, y.h3, y.h4⟩ = true from geq_iff.2 rfl] at h
    exact h
  go_enter Tryd.func10, Tryd.ntmps10
  go_wp2_with fail
  have HT := hide (Two.mk_ w a b)
  have HE := hide HT.out.ext
  have HBa := hide HT.out.a
  have HBb := hide HT.out.b
  clear HT
  generalize (w.alloc (gobj a)).alloc (gobj b) = W at HE HBa HBb ⊢
  go_wp2_with fail
  refine (H1.out _).mono ?_
  rintro e w2 ⟨rfl, hE⟩
  have HE := hide (HE.out.trans hE)
  have HBa := hide (HBa.out.ext hE)
  have HBb := hide (HBb.out.ext hE)
  clear hE
  go_upto_region 2 with fail
  have HBa := hide (HBa.out.alloc (gobj x))
  have HBb := hide (HBb.out.alloc (gobj x))
  have HE := hide (HE.out.alloc (gobj x))
  have HB1 : Hid (GrBox (w2.alloc (gobj x)) w2.heap.size x) := gr_new w2 x
  generalize w2.alloc (gobj x) = W2 at HE HBa HBb HB1 ⊢
  generalize w2.heap.size = b1 at HB1 ⊢
  go_wp2_with fail
  refine (H2.out _).mono ?_
  rintro e w2 ⟨rfl, hE⟩
  have HE := hide (HE.out.trans hE)
  have HBa := hide (HBa.out.ext hE)
  have HBb := hide (HBb.out.ext hE)
  have HB1 := hide (HB1.out.ext hE)
  clear hE
  go_upto_region 3 with fail
  have HBa := hide (HBa.out.alloc (gobj x))
  have HBb := hide (HBb.out.alloc (gobj x))
  have HB1 := hide (HB1.out.alloc (gobj x))
  have HE := hide (HE.out.alloc (gobj x))
  have HB2 : Hid (GrBox (w2.alloc (gobj x)) w2.heap.size x) := gr_new w2 x
  generalize w2.alloc (gobj x) = W2 at HE HBa HBb HB1 HB2 ⊢
  generalize w2.heap.size = b2 at HB2 ⊢
  go_wp2_with fail
  refine (H3.out _).mono ?_
  rintro e w2 ⟨rfl, hE⟩
  have HE := hide (HE.out.trans hE)
  have HBa := hide (HBa.out.ext hE)
  have HBb := hide (HBb.out.ext hE)
  have HB1 := hide (HB1.out.ext hE)
  have HB2 := hide (HB2.out.ext hE)
  clear hE
  go_upto_region 4 with fail
  have HBa := hide (HBa.out.alloc (gobj y))
  have HBb := hide (HBb.out.alloc (gobj y))
  have HB1 := hide (HB1.out.alloc (gobj y))
  have HB2 := hide (HB2.out.alloc (gobj y))
  have HE := hide (HE.out.alloc (gobj y))
  have HB3 : Hid (GrBox (w2.alloc (gobj y)) w2.heap.size y) := gr_new w2 y
  generalize w2.alloc (gobj y) = W2 at HE HBa HBb HB1 HB2 HB3 ⊢
  generalize w2.heap.size = b3 at HB3 ⊢
  go_wp2_with fail
  refine (H4.out _).mono ?_
  rintro e w2 ⟨rfl, hE⟩
  have HE := hide (HE.out.trans hE)
  have HBa := hide (HBa.out.ext hE)
  have HBb := hide (HBb.out.ext hE)
  have HB1 := hide (HB1.out.ext hE)
  have HB2 := hide (HB2.out.ext hE)
  have HB3 := hide (HB3.out.ext hE)
  clear hE
  go_upto_region 5 with fail
  have HBa := hide (HBa.out.alloc (gobj y))
  have HBb := hide (HBb.out.alloc (gobj y))
  have HB1 := hide (HB1.out.alloc (gobj y))
  have HB2 := hide (HB2.out.alloc (gobj y))
  have HB3 := hide (HB3.out.alloc (gobj y))
  have HE := hide (HE.out.alloc (gobj y))
  have HB4 : Hid (GrBox (w2.alloc (gobj y)) w2.heap.size y) := gr_new w2 y
  generalize w2.alloc (gobj y) = W2 at HE HBa HBb HB1 HB2 HB3 HB4 ⊢
  generalize w2.heap.size = b4 at HB4 ⊢
  obtain ⟨ca0, ca1, ca2, ca3, ca4, ca5, za⟩ := HBa.out.cells
  obtain ⟨cb0, cb1, cb2, cb3, cb4, cb5, zb⟩ := HBb.out.cells
  obtain ⟨c10, c11, c12, c13, c14, c15, z1⟩ := HB1.out.cells
  obtain ⟨c20, c21, c22, c23, c24, c25, z2⟩ := HB2.out.cells
  obtain ⟨c30, c31, c32, c33, c34, c35, z3⟩ := HB3.out.cells
  obtain ⟨c40, c41, c42, c43, c44, c45, z4⟩ := HB4.out.cells
  go_wp2_with fail
  have hEw := HE.out
  refine wp_region_ext (by kernel_rfl) (by kernel_rfl) ?_
  repeat (go_big_quiet_step (first | (go_at_call 47; exact Calls.ext_of (H5.out _)) | (go_at_call 33; exact Calls.ext_of (H6.out _)) | (go_at_call 48; exact Calls.ext_of (H7.out _)) | (go_at_call 49; exact Calls.ext_of (H8.out _)) | (go_at_call 12; exact Calls.ext_of (HAW.out _ (by simp [go_sem, hEw])))))
  refine wpQuiet_nil ?_
  rintro w9 ⟨⟨_, hE9⟩, rfl⟩
  go_wp2_with fail
  go_ret
  exact ⟨rfl, HE.out.trans hE9⟩
end Go.Proofs.YtpcboonjalbihaaDoor
