/-
  The walk of 'GraphRenames'.
  Conditions: the tables lie in the heap (Tz, Ml).
-/
import Derived.Test.YtpcboonjalbihaaDoorAw03
import Derived.Test.YtpcboonjalbihaaDoorRenLaw
namespace Go.Proofs.YtpcboonjalbihaaDoor
open Go.RowKit
attribute [local go_sem] Oper.semAt_some

set_option maxRecDepth 100000 in
set_option maxHeartbeats 8000000 in
theorem renames_law (a b : Gr) (l : List Int) (u : Value) (w : World) (hu : Row icells 1 w u l) (hT : Tz w) (hM : Ml w) : Calls Tryd.prog 4 #[a.v, b.v, u] w fun e w' => e = .returned (.bool true) ∧ Ext w w' := by
  have HAW := hide (fun W (hE : Ext w W) => awake_any W (hT.ext hE) (hM.ext hE))
  have HBO := hide (fun W => rgboth_any a b W)
  have HPC := hide (fun W (hE : Ext w W) => pmcheck_any l u W (hu.ext hE))
  by_cases h1 : bothS a b = 0
  case neg =>
    obtain ⟨p, c, rfl, hc, hlen, -⟩ := hu.int_all
    generalize bothS a b = e1 at HBO h1
    have hd : (e1 != 0) = true := by simp [h1]
    clear h1 hT hM hu HPC
    go_enter Tryd.func4, Tryd.ntmps4
    go_wp2_with fail
    have HT := hide (Two.mk_ w a b)
    have HE := hide HT.out.ext
    have HBa := hide HT.out.a
    have HBb := hide HT.out.b
    clear HT
    generalize (w.alloc (gobj a)).alloc (gobj b) = W at HE HBa HBb ⊢
    obtain ⟨ca0, ca1, ca2, ca3, ca4, ca5, za⟩ := HBa.out.cells
    obtain ⟨cb0, cb1, cb2, cb3, cb4, cb5, zb⟩ := HBb.out.cells
    go_wp2_with fail
    clear ca0 ca1 ca2 ca3 ca4 ca5 cb0 cb1 cb2 cb3 cb4 cb5 za zb
    refine (HBO.out _).mono ?_
    rintro e w2 ⟨rfl, hE⟩
    have HE := hide (HE.out.trans hE)
    have HBa := hide (HBa.out.ext hE)
    have HBb := hide (HBb.out.ext hE)
    clear hE
    go_wp2_with fail
    refine (HAW.out _ HE.out).mono ?_
    rintro e w3 ⟨rfl, hE⟩
    have HE := hide (HE.out.trans hE)
    clear hE
    go_wp2_with fail
    go_ret
    exact ⟨rfl, HE.out⟩
  case pos =>
  rw [h1] at HBO
  by_cases h2 : (l.length : Int) = a.n
  case neg =>
    obtain ⟨p, c, rfl, hc, hlen, -⟩ := hu.int_all
    have hd : ((l.length : Int) != a.n) = true := by simp [h2]
    clear h1 h2 hT hM hu HPC
    go_enter Tryd.func4, Tryd.ntmps4
    go_wp2_with fail
    have HT := hide (Two.mk_ w a b)
    have HE := hide HT.out.ext
    have HBa := hide HT.out.a
    have HBb := hide HT.out.b
    clear HT
    generalize (w.alloc (gobj a)).alloc (gobj b) = W at HE HBa HBb ⊢
    obtain ⟨ca0, ca1, ca2, ca3, ca4, ca5, za⟩ := HBa.out.cells
    obtain ⟨cb0, cb1, cb2, cb3, cb4, cb5, zb⟩ := HBb.out.cells
    go_wp2_with fail
    clear ca0 ca1 ca2 ca3 ca4 ca5 cb0 cb1 cb2 cb3 cb4 cb5 za zb
    refine (HBO.out _).mono ?_
    rintro e w2 ⟨rfl, hE⟩
    have HE := hide (HE.out.trans hE)
    have HBa := hide (HBa.out.ext hE)
    have HBb := hide (HBb.out.ext hE)
    clear hE
    obtain ⟨ca0, ca1, ca2, ca3, ca4, ca5, za⟩ := HBa.out.cells
    go_wp2_with fail
    refine (HAW.out _ HE.out).mono ?_
    rintro e w3 ⟨rfl, hE⟩
    have HE := hide (HE.out.trans hE)
    clear hE
    go_wp2_with fail
    go_ret
    exact ⟨rfl, HE.out⟩
  case pos =>
  by_cases h3 : permE l = 0
  case neg =>
    obtain ⟨p, c, rfl, hc, hlen, -⟩ := hu.int_all
    have hd : ((l.length : Int) != a.n) = false := by simp [h2]
    generalize permE l = e1 at HPC h3
    have hd2 : (e1 != 0) = true := by simp [h3]
    clear h1 h2 h3 hT hM hu
    go_enter Tryd.func4, Tryd.ntmps4
    go_wp2_with fail
    have HT := hide (Two.mk_ w a b)
    have HE := hide HT.out.ext
    have HBa := hide HT.out.a
    have HBb := hide HT.out.b
    clear HT
    generalize (w.alloc (gobj a)).alloc (gobj b) = W at HE HBa HBb ⊢
    obtain ⟨ca0, ca1, ca2, ca3, ca4, ca5, za⟩ := HBa.out.cells
    obtain ⟨cb0, cb1, cb2, cb3, cb4, cb5, zb⟩ := HBb.out.cells
    go_wp2_with fail
    clear ca0 ca1 ca2 ca3 ca4 ca5 cb0 cb1 cb2 cb3 cb4 cb5 za zb
    refine (HBO.out _).mono ?_
    rintro e w2 ⟨rfl, hE⟩
    have HE := hide (HE.out.trans hE)
    have HBa := hide (HBa.out.ext hE)
    have HBb := hide (HBb.out.ext hE)
    clear hE
    obtain ⟨ca0, ca1, ca2, ca3, ca4, ca5, za⟩ := HBa.out.cells
    go_wp2_with fail
    clear ca0 ca1 ca2 ca3 ca4 ca5 za
    refine (HPC.out _ HE.out).mono ?_
    rintro e w2 ⟨rfl, hE⟩
    have HE := hide (HE.out.trans hE)
    have HBa := hide (HBa.out.ext hE)
    have HBb := hide (HBb.out.ext hE)
    clear hE
    go_wp2_with fail
    refine (HAW.out _ HE.out).mono ?_
    rintro e w3 ⟨rfl, hE⟩
    have HE := hide (HE.out.trans hE)
    clear hE
    go_wp2_with fail
    go_ret
    exact ⟨rfl, HE.out⟩
  case pos =>
  have HL := hide h2
  have hd : ((l.length : Int) != a.n) = false := by simp [h2]
  obtain ⟨ab, x, pa, pb, r, ra, rb, H⟩ := ren_ok h1 h2 h3
  have HIV := hide (fun W (hE : Ext w W) => inverse_ok l (permE_ok h3) h3 u W (hu.ext hE))
  rw [h3] at HPC
  generalize invL l l.length = L at H HIV
  have H1 := hide (cmp_ok hT H.e1)
  have H2 := hide (fun W (hE : Ext w W) => (H.e2 ▸ permute_any ab l u W (hu.ext hE) : Calls Tryd.prog 13 #[ab.v, u] W (RetG (x, 0) W)))
  have H3 := hide (fun W (hE : Ext w W) => (H.e3 ▸ permute_any a l u W (hu.ext hE) : Calls Tryd.prog 13 #[a.v, u] W (RetG (pa, 0) W)))
  have H4 := hide (fun W (hE : Ext w W) => (H.e4 ▸ permute_any b l u W (hu.ext hE) : Calls Tryd.prog 13 #[b.v, u] W (RetG (pb, 0) W)))
  have H5 := hide (cmp_ok hT H.e5)
  have H6 := hide (fun v W (hv : Row icells 1 W v L) => (H.e7 ▸ permute_any pa L v W hv : Calls Tryd.prog 13 #[pa.v, v] W (RetG (a, 0) W)))
  have H7 := hide (fun W => (H.f1 ▸ reverse_any ab W : Calls Tryd.prog 19 #[ab.v] W (RetG (r, 0) W)))
  have H8 := hide (fun W => (H.f2 ▸ reverse_any a W : Calls Tryd.prog 19 #[a.v] W (RetG (ra, 0) W)))
  have H9 := hide (fun W => (H.f3 ▸ reverse_any b W : Calls Tryd.prog 19 #[b.v] W (RetG (rb, 0) W)))
  have H10 := hide (cmp_ok hT H.f4)
  have H11 := hide (fun W => (H.f5 ▸ reverse_any r W : Calls Tryd.prog 19 #[r.v] W (RetG (ab, 0) W)))
  obtain ⟨p, c, rfl, hc, hlen, -⟩ := hu.int_all
  clear h1 h2 h3 hT hM hu H
  have hneq_x : ∀ W, (binOp .neq 24 x.v x.v).run Tryd.prog W = .ok (.bool false) W := fun W => by
    have h := neq_graph x.n x.h0 x.h1 x.h2 x.h3 x.h4 x.n x.h0 x.h1 x.h2 x.h3 x.h4 W
    rw [show geq ⟨x.n, x.h0, x.h1, x.h2, x.h3, x.h4⟩ ⟨x.n, x.h0, x.h1, x.h2, x.h3, x.h4⟩ = true from geq_iff.2 rfl] at h
    exact h
  have hneq_a : ∀ W, (binOp .neq 24 a.v a.v).run Tryd.prog W = .ok (.bool false) W := fun W => by
    have h := neq_graph a.n a.h0 a.h1 a.h2 a.h3 a.h4 a.n a.h0 a.h1 a.h2 a.h3 a.h4 W
    rw [show geq ⟨a.n, a.h0, a.h1, a.h2, a.h3, a.h4⟩ ⟨a.n, a.h0, a.h1, a.h2, a.h3, a.h4⟩ = true from geq_iff.2 rfl] at h
    exact h
  have heq_r : ∀ W, (binOp .eql 24 r.v r.v).run Tryd.prog W = .ok (.bool true) W := fun W => by
    have h := eql_graph r.n r.h0 r.h1 r.h2 r.h3 r.h4 r.n r.h0 r.h1 r.h2 r.h3 r.h4 W
    rw [show geq ⟨r.n, r.h0, r.h1, r.h2, r.h3, r.h4⟩ ⟨r.n, r.h0, r.h1, r.h2, r.h3, r.h4⟩ = true from geq_iff.2 rfl] at h
    exact h
  have heq_ab : ∀ W, (binOp .eql 24 ab.v ab.v).run Tryd.prog W = .ok (.bool true) W := fun W => by
    have h := eql_graph ab.n ab.h0 ab.h1 ab.h2 ab.h3 ab.h4 ab.n ab.h0 ab.h1 ab.h2 ab.h3 ab.h4 W
    rw [show geq ⟨ab.n, ab.h0, ab.h1, ab.h2, ab.h3, ab.h4⟩ ⟨ab.n, ab.h0, ab.h1, ab.h2, ab.h3, ab.h4⟩ = true from geq_iff.2 rfl] at h
    exact h
  go_enter Tryd.func4, Tryd.ntmps4
  go_wp2_with fail
  have HT := hide (Two.mk_ w a b)
  have HE := hide HT.out.ext
  have HBa := hide HT.out.a
  have HBb := hide HT.out.b
  clear HT
  generalize (w.alloc (gobj a)).alloc (gobj b) = W at HE HBa HBb ⊢
  obtain ⟨ca0, ca1, ca2, ca3, ca4, ca5, za⟩ := HBa.out.cells
  obtain ⟨cb0, cb1, cb2, cb3, cb4, cb5, zb⟩ := HBb.out.cells
  go_wp2_with fail
  clear ca0 ca1 ca2 ca3 ca4 ca5 cb0 cb1 cb2 cb3 cb4 cb5 za zb
  refine (HBO.out _).mono ?_
  rintro e w2 ⟨rfl, hE⟩
  have HE := hide (HE.out.trans hE)
  have HBa := hide (HBa.out.ext hE)
  have HBb := hide (HBb.out.ext hE)
  clear hE
  obtain ⟨ca0, ca1, ca2, ca3, ca4, ca5, za⟩ := HBa.out.cells
  go_wp2_with fail
  clear ca0 ca1 ca2 ca3 ca4 ca5 za
  refine (HPC.out _ HE.out).mono ?_
  rintro e w2 ⟨rfl, hE⟩
  have HE := hide (HE.out.trans hE)
  have HBa := hide (HBa.out.ext hE)
  have HBb := hide (HBb.out.ext hE)
  clear hE
  go_upto_region 3 with fail
  obtain ⟨ca0, ca1, ca2, ca3, ca4, ca5, za⟩ := HBa.out.cells
  obtain ⟨cb0, cb1, cb2, cb3, cb4, cb5, zb⟩ := HBb.out.cells
  go_wp2_with fail
  clear ca0 ca1 ca2 ca3 ca4 ca5 cb0 cb1 cb2 cb3 cb4 cb5 za zb
  refine (H1.out _ HE.out).mono ?_
  rintro e w2 ⟨rfl, hE⟩
  have HE := hide (HE.out.trans hE)
  have HBa := hide (HBa.out.ext hE)
  have HBb := hide (HBb.out.ext hE)
  clear hE
  go_upto_region 4 with fail
  have HBa := hide (HBa.out.alloc (gobj ab))
  have HBb := hide (HBb.out.alloc (gobj ab))
  have HE := hide (HE.out.alloc (gobj ab))
  have HB1 : Hid (GrBox (w2.alloc (gobj ab)) w2.heap.size ab) := gr_new w2 ab
  generalize w2.alloc (gobj ab) = W2 at HE HBa HBb HB1 ⊢
  generalize w2.heap.size = b1 at HB1 ⊢
  obtain ⟨c10, c11, c12, c13, c14, c15, z1⟩ := HB1.out.cells
  go_wp2_with fail
  clear c10 c11 c12 c13 c14 c15 z1
  refine (H2.out _ HE.out).mono ?_
  rintro e w2 ⟨rfl, hE⟩
  have HE := hide (HE.out.trans hE)
  have HBa := hide (HBa.out.ext hE)
  have HBb := hide (HBb.out.ext hE)
  have HB1 := hide (HB1.out.ext hE)
  clear hE
  go_upto_region 5 with fail
  have HBa := hide (HBa.out.alloc (gobj x))
  have HBb := hide (HBb.out.alloc (gobj x))
  have HB1 := hide (HB1.out.alloc (gobj x))
  have HE := hide (HE.out.alloc (gobj x))
  have HB2 : Hid (GrBox (w2.alloc (gobj x)) w2.heap.size x) := gr_new w2 x
  generalize w2.alloc (gobj x) = W2 at HE HBa HBb HB1 HB2 ⊢
  generalize w2.heap.size = b2 at HB2 ⊢
  obtain ⟨ca0, ca1, ca2, ca3, ca4, ca5, za⟩ := HBa.out.cells
  go_wp2_with fail
  clear ca0 ca1 ca2 ca3 ca4 ca5 za
  refine (H3.out _ HE.out).mono ?_
  rintro e w2 ⟨rfl, hE⟩
  have HE := hide (HE.out.trans hE)
  have HBa := hide (HBa.out.ext hE)
  have HBb := hide (HBb.out.ext hE)
  have HB1 := hide (HB1.out.ext hE)
  have HB2 := hide (HB2.out.ext hE)
  clear hE
  go_upto_region 6 with fail
  have HBa := hide (HBa.out.alloc (gobj pa))
  have HBb := hide (HBb.out.alloc (gobj pa))
  have HB1 := hide (HB1.out.alloc (gobj pa))
  have HB2 := hide (HB2.out.alloc (gobj pa))
  have HE := hide (HE.out.alloc (gobj pa))
  have HB3 : Hid (GrBox (w2.alloc (gobj pa)) w2.heap.size pa) := gr_new w2 pa
  generalize w2.alloc (gobj pa) = W2 at HE HBa HBb HB1 HB2 HB3 ⊢
  generalize w2.heap.size = b3 at HB3 ⊢
  obtain ⟨cb0, cb1, cb2, cb3, cb4, cb5, zb⟩ := HBb.out.cells
  go_wp2_with fail
  clear cb0 cb1 cb2 cb3 cb4 cb5 zb
  refine (H4.out _ HE.out).mono ?_
  rintro e w2 ⟨rfl, hE⟩
  have HE := hide (HE.out.trans hE)
  have HBa := hide (HBa.out.ext hE)
  have HBb := hide (HBb.out.ext hE)
  have HB1 := hide (HB1.out.ext hE)
  have HB2 := hide (HB2.out.ext hE)
  have HB3 := hide (HB3.out.ext hE)
  clear hE
  go_upto_region 7 with fail
  have HBa := hide (HBa.out.alloc (gobj pb))
  have HBb := hide (HBb.out.alloc (gobj pb))
  have HB1 := hide (HB1.out.alloc (gobj pb))
  have HB2 := hide (HB2.out.alloc (gobj pb))
  have HB3 := hide (HB3.out.alloc (gobj pb))
  have HE := hide (HE.out.alloc (gobj pb))
  have HB4 : Hid (GrBox (w2.alloc (gobj pb)) w2.heap.size pb) := gr_new w2 pb
  generalize w2.alloc (gobj pb) = W2 at HE HBa HBb HB1 HB2 HB3 HB4 ⊢
  generalize w2.heap.size = b4 at HB4 ⊢
  obtain ⟨c30, c31, c32, c33, c34, c35, z3⟩ := HB3.out.cells
  obtain ⟨c40, c41, c42, c43, c44, c45, z4⟩ := HB4.out.cells
  go_wp2_with fail
  clear c30 c31 c32 c33 c34 c35 c40 c41 c42 c43 c44 c45 z3 z4
  refine (H5.out _ HE.out).mono ?_
  rintro e w2 ⟨rfl, hE⟩
  have HE := hide (HE.out.trans hE)
  have HBa := hide (HBa.out.ext hE)
  have HBb := hide (HBb.out.ext hE)
  have HB1 := hide (HB1.out.ext hE)
  have HB2 := hide (HB2.out.ext hE)
  have HB3 := hide (HB3.out.ext hE)
  have HB4 := hide (HB4.out.ext hE)
  clear hE
  go_upto_region 8 with fail
  have HBa := hide (HBa.out.alloc (gobj x))
  have HBb := hide (HBb.out.alloc (gobj x))
  have HB1 := hide (HB1.out.alloc (gobj x))
  have HB2 := hide (HB2.out.alloc (gobj x))
  have HB3 := hide (HB3.out.alloc (gobj x))
  have HB4 := hide (HB4.out.alloc (gobj x))
  have HE := hide (HE.out.alloc (gobj x))
  have HB5 : Hid (GrBox (w2.alloc (gobj x)) w2.heap.size x) := gr_new w2 x
  generalize w2.alloc (gobj x) = W2 at HE HBa HBb HB1 HB2 HB3 HB4 HB5 ⊢
  generalize w2.heap.size = b5 at HB5 ⊢
  go_wp2_with fail
  refine (HIV.out _ HE.out).mono ?_
  rintro e w2 ⟨v, rfl, hv, hE⟩
  have HE := hide (HE.out.trans hE)
  have HBa := hide (HBa.out.ext hE)
  have HBb := hide (HBb.out.ext hE)
  have HB1 := hide (HB1.out.ext hE)
  have HB2 := hide (HB2.out.ext hE)
  have HB3 := hide (HB3.out.ext hE)
  have HB4 := hide (HB4.out.ext hE)
  have HB5 := hide (HB5.out.ext hE)
  have HV := hide hv
  obtain ⟨p', c', rfl, -, -, -⟩ := hv.int_all
  clear hE hv
  obtain ⟨c30, c31, c32, c33, c34, c35, z3⟩ := HB3.out.cells
  go_wp2_with fail
  clear c30 c31 c32 c33 c34 c35 z3
  refine (H6.out _ _ HV.out).mono ?_
  rintro e w2 ⟨rfl, hE⟩
  have HE := hide (HE.out.trans hE)
  have HBa := hide (HBa.out.ext hE)
  have HBb := hide (HBb.out.ext hE)
  have HB1 := hide (HB1.out.ext hE)
  have HB2 := hide (HB2.out.ext hE)
  have HB3 := hide (HB3.out.ext hE)
  have HB4 := hide (HB4.out.ext hE)
  have HB5 := hide (HB5.out.ext hE)
  clear hE
  go_upto_region 10 with fail
  have HBa := hide (HBa.out.alloc (gobj a))
  have HBb := hide (HBb.out.alloc (gobj a))
  have HB1 := hide (HB1.out.alloc (gobj a))
  have HB2 := hide (HB2.out.alloc (gobj a))
  have HB3 := hide (HB3.out.alloc (gobj a))
  have HB4 := hide (HB4.out.alloc (gobj a))
  have HB5 := hide (HB5.out.alloc (gobj a))
  have HE := hide (HE.out.alloc (gobj a))
  have HB6 : Hid (GrBox (w2.alloc (gobj a)) w2.heap.size a) := gr_new w2 a
  generalize w2.alloc (gobj a) = W2 at HE HBa HBb HB1 HB2 HB3 HB4 HB5 HB6 ⊢
  generalize w2.heap.size = b6 at HB6 ⊢
  obtain ⟨c20, c21, c22, c23, c24, c25, z2⟩ := HB2.out.cells
  obtain ⟨c50, c51, c52, c53, c54, c55, z5⟩ := HB5.out.cells
  obtain ⟨c60, c61, c62, c63, c64, c65, z6⟩ := HB6.out.cells
  obtain ⟨ca0, ca1, ca2, ca3, ca4, ca5, za⟩ := HBa.out.cells
  obtain ⟨c10, c11, c12, c13, c14, c15, z1⟩ := HB1.out.cells
  go_wp2_with fail
  clear c20 c21 c22 c23 c24 c25 c50 c51 c52 c53 c54 c55 c60 c61 c62 c63 c64 c65 ca0 ca1 ca2 ca3 ca4 ca5 c10 c11 c12 c13 c14 c15 z2 z5 z6 za z1
  refine (H7.out _).mono ?_
  rintro e w2 ⟨rfl, hE⟩
  have HE := hide (HE.out.trans hE)
  have HBa := hide (HBa.out.ext hE)
  have HBb := hide (HBb.out.ext hE)
  have HB1 := hide (HB1.out.ext hE)
  have HB2 := hide (HB2.out.ext hE)
  have HB3 := hide (HB3.out.ext hE)
  have HB4 := hide (HB4.out.ext hE)
  have HB5 := hide (HB5.out.ext hE)
  have HB6 := hide (HB6.out.ext hE)
  clear hE
  go_upto_region 13 with fail
  have HBa := hide (HBa.out.alloc (gobj r))
  have HBb := hide (HBb.out.alloc (gobj r))
  have HB1 := hide (HB1.out.alloc (gobj r))
  have HB2 := hide (HB2.out.alloc (gobj r))
  have HB3 := hide (HB3.out.alloc (gobj r))
  have HB4 := hide (HB4.out.alloc (gobj r))
  have HB5 := hide (HB5.out.alloc (gobj r))
  have HB6 := hide (HB6.out.alloc (gobj r))
  have HE := hide (HE.out.alloc (gobj r))
  have HB7 : Hid (GrBox (w2.alloc (gobj r)) w2.heap.size r) := gr_new w2 r
  generalize w2.alloc (gobj r) = W2 at HE HBa HBb HB1 HB2 HB3 HB4 HB5 HB6 HB7 ⊢
  generalize w2.heap.size = b7 at HB7 ⊢
  obtain ⟨ca0, ca1, ca2, ca3, ca4, ca5, za⟩ := HBa.out.cells
  go_wp2_with fail
  clear ca0 ca1 ca2 ca3 ca4 ca5 za
  refine (H8.out _).mono ?_
  rintro e w2 ⟨rfl, hE⟩
  have HE := hide (HE.out.trans hE)
  have HBa := hide (HBa.out.ext hE)
  have HBb := hide (HBb.out.ext hE)
  have HB1 := hide (HB1.out.ext hE)
  have HB2 := hide (HB2.out.ext hE)
  have HB3 := hide (HB3.out.ext hE)
  have HB4 := hide (HB4.out.ext hE)
  have HB5 := hide (HB5.out.ext hE)
  have HB6 := hide (HB6.out.ext hE)
  have HB7 := hide (HB7.out.ext hE)
  clear hE
  go_upto_region 14 with fail
  have HBa := hide (HBa.out.alloc (gobj ra))
  have HBb := hide (HBb.out.alloc (gobj ra))
  have HB1 := hide (HB1.out.alloc (gobj ra))
  have HB2 := hide (HB2.out.alloc (gobj ra))
  have HB3 := hide (HB3.out.alloc (gobj ra))
  have HB4 := hide (HB4.out.alloc (gobj ra))
  have HB5 := hide (HB5.out.alloc (gobj ra))
  have HB6 := hide (HB6.out.alloc (gobj ra))
  have HB7 := hide (HB7.out.alloc (gobj ra))
  have HE := hide (HE.out.alloc (gobj ra))
  have HB8 : Hid (GrBox (w2.alloc (gobj ra)) w2.heap.size ra) := gr_new w2 ra
  generalize w2.alloc (gobj ra) = W2 at HE HBa HBb HB1 HB2 HB3 HB4 HB5 HB6 HB7 HB8 ⊢
  generalize w2.heap.size = b8 at HB8 ⊢
  obtain ⟨cb0, cb1, cb2, cb3, cb4, cb5, zb⟩ := HBb.out.cells
  go_wp2_with fail
  clear cb0 cb1 cb2 cb3 cb4 cb5 zb
  refine (H9.out _).mono ?_
  rintro e w2 ⟨rfl, hE⟩
  have HE := hide (HE.out.trans hE)
  have HBa := hide (HBa.out.ext hE)
  have HBb := hide (HBb.out.ext hE)
  have HB1 := hide (HB1.out.ext hE)
  have HB2 := hide (HB2.out.ext hE)
  have HB3 := hide (HB3.out.ext hE)
  have HB4 := hide (HB4.out.ext hE)
  have HB5 := hide (HB5.out.ext hE)
  have HB6 := hide (HB6.out.ext hE)
  have HB7 := hide (HB7.out.ext hE)
  have HB8 := hide (HB8.out.ext hE)
  clear hE
  go_upto_region 15 with fail
  have HBa := hide (HBa.out.alloc (gobj rb))
  have HBb := hide (HBb.out.alloc (gobj rb))
  have HB1 := hide (HB1.out.alloc (gobj rb))
  have HB2 := hide (HB2.out.alloc (gobj rb))
  have HB3 := hide (HB3.out.alloc (gobj rb))
  have HB4 := hide (HB4.out.alloc (gobj rb))
  have HB5 := hide (HB5.out.alloc (gobj rb))
  have HB6 := hide (HB6.out.alloc (gobj rb))
  have HB7 := hide (HB7.out.alloc (gobj rb))
  have HB8 := hide (HB8.out.alloc (gobj rb))
  have HE := hide (HE.out.alloc (gobj rb))
  have HB9 : Hid (GrBox (w2.alloc (gobj rb)) w2.heap.size rb) := gr_new w2 rb
  generalize w2.alloc (gobj rb) = W2 at HE HBa HBb HB1 HB2 HB3 HB4 HB5 HB6 HB7 HB8 HB9 ⊢
  generalize w2.heap.size = b9 at HB9 ⊢
  obtain ⟨c90, c91, c92, c93, c94, c95, z9⟩ := HB9.out.cells
  obtain ⟨c80, c81, c82, c83, c84, c85, z8⟩ := HB8.out.cells
  go_wp2_with fail
  clear c90 c91 c92 c93 c94 c95 c80 c81 c82 c83 c84 c85 z9 z8
  refine (H10.out _ HE.out).mono ?_
  rintro e w2 ⟨rfl, hE⟩
  have HE := hide (HE.out.trans hE)
  have HBa := hide (HBa.out.ext hE)
  have HBb := hide (HBb.out.ext hE)
  have HB1 := hide (HB1.out.ext hE)
  have HB2 := hide (HB2.out.ext hE)
  have HB3 := hide (HB3.out.ext hE)
  have HB4 := hide (HB4.out.ext hE)
  have HB5 := hide (HB5.out.ext hE)
  have HB6 := hide (HB6.out.ext hE)
  have HB7 := hide (HB7.out.ext hE)
  have HB8 := hide (HB8.out.ext hE)
  have HB9 := hide (HB9.out.ext hE)
  clear hE
  go_upto_region 16 with fail
  have HBa := hide (HBa.out.alloc (gobj r))
  have HBb := hide (HBb.out.alloc (gobj r))
  have HB1 := hide (HB1.out.alloc (gobj r))
  have HB2 := hide (HB2.out.alloc (gobj r))
  have HB3 := hide (HB3.out.alloc (gobj r))
  have HB4 := hide (HB4.out.alloc (gobj r))
  have HB5 := hide (HB5.out.alloc (gobj r))
  have HB6 := hide (HB6.out.alloc (gobj r))
  have HB7 := hide (HB7.out.alloc (gobj r))
  have HB8 := hide (HB8.out.alloc (gobj r))
  have HB9 := hide (HB9.out.alloc (gobj r))
  have HE := hide (HE.out.alloc (gobj r))
  have HB10 : Hid (GrBox (w2.alloc (gobj r)) w2.heap.size r) := gr_new w2 r
  generalize w2.alloc (gobj r) = W2 at HE HBa HBb HB1 HB2 HB3 HB4 HB5 HB6 HB7 HB8 HB9 HB10 ⊢
  generalize w2.heap.size = b10 at HB10 ⊢
  obtain ⟨c70, c71, c72, c73, c74, c75, z7⟩ := HB7.out.cells
  go_wp2_with fail
  clear c70 c71 c72 c73 c74 c75 z7
  refine (H11.out _).mono ?_
  rintro e w2 ⟨rfl, hE⟩
  have HE := hide (HE.out.trans hE)
  have HBa := hide (HBa.out.ext hE)
  have HBb := hide (HBb.out.ext hE)
  have HB1 := hide (HB1.out.ext hE)
  have HB2 := hide (HB2.out.ext hE)
  have HB3 := hide (HB3.out.ext hE)
  have HB4 := hide (HB4.out.ext hE)
  have HB5 := hide (HB5.out.ext hE)
  have HB6 := hide (HB6.out.ext hE)
  have HB7 := hide (HB7.out.ext hE)
  have HB8 := hide (HB8.out.ext hE)
  have HB9 := hide (HB9.out.ext hE)
  have HB10 := hide (HB10.out.ext hE)
  clear hE
  go_upto_region 17 with fail
  have HBa := hide (HBa.out.alloc (gobj ab))
  have HBb := hide (HBb.out.alloc (gobj ab))
  have HB1 := hide (HB1.out.alloc (gobj ab))
  have HB2 := hide (HB2.out.alloc (gobj ab))
  have HB3 := hide (HB3.out.alloc (gobj ab))
  have HB4 := hide (HB4.out.alloc (gobj ab))
  have HB5 := hide (HB5.out.alloc (gobj ab))
  have HB6 := hide (HB6.out.alloc (gobj ab))
  have HB7 := hide (HB7.out.alloc (gobj ab))
  have HB8 := hide (HB8.out.alloc (gobj ab))
  have HB9 := hide (HB9.out.alloc (gobj ab))
  have HB10 := hide (HB10.out.alloc (gobj ab))
  have HE := hide (HE.out.alloc (gobj ab))
  have HB11 : Hid (GrBox (w2.alloc (gobj ab)) w2.heap.size ab) := gr_new w2 ab
  generalize w2.alloc (gobj ab) = W2 at HE HBa HBb HB1 HB2 HB3 HB4 HB5 HB6 HB7 HB8 HB9 HB10 HB11 ⊢
  generalize w2.heap.size = b11 at HB11 ⊢
  obtain ⟨c70, c71, c72, c73, c74, c75, z7⟩ := HB7.out.cells
  obtain ⟨c100, c101, c102, c103, c104, c105, z10⟩ := HB10.out.cells
  obtain ⟨c110, c111, c112, c113, c114, c115, z11⟩ := HB11.out.cells
  obtain ⟨c10, c11, c12, c13, c14, c15, z1⟩ := HB1.out.cells
  go_wp2_with fail
  refine (HAW.out _ HE.out).mono ?_
  rintro e w3 ⟨rfl, hE⟩
  have HE := hide (HE.out.trans hE)
  clear hE
  go_wp2_with fail
  go_ret
  exact ⟨rfl, HE.out⟩
end Go.Proofs.YtpcboonjalbihaaDoor
