/-
  The walk of 'GraphAssociates'.
  Conditions: the tables lie in the heap (Tz, Ml).
-/
import Derived.Test.YtpcboonjalbihaaDoorAw03
import Derived.Test.YtpcboonjalbihaaDoorLwAssoc
import Derived.Test.YtpcboonjalbihaaDoorNews
namespace Go.Proofs.YtpcboonjalbihaaDoor
open Go.RowKit
attribute [local go_sem] Oper.semAt_some

set_option maxRecDepth 100000 in
set_option maxHeartbeats 8000000 in
theorem assoc_law (a b c : Gr) (w : World) (hT : Tz w) (hM : Ml w) : Calls Tryd.prog 6 #[a3v a b c] w fun e w' => e = .returned (.bool true) ∧ Ext w w' := by
  have HAW := hide (fun W (hE : Ext w W) => awake_any W (hT.ext hE) (hM.ext hE))
  have HTH := hide (fun W => three_any a b c W)
  by_cases h0 : bothS a b = 0 ∧ bothS b c = 0
  · rw [decide_eq_true h0] at HTH
    obtain ⟨ab, L, bc, u, x, ac, z, ba, ca, s, H⟩ := assoc_ok h0.1 h0.2
    have H1 := hide (cmp_ok hT H.e1)
    have H2 := hide (cmp_ok hT H.e2)
    have H3 := hide (cmp_ok hT H.e3)
    have H4 := hide (cmp_ok hT H.e4)
    have H5 := hide (uni_ok H.e5)
    have H6 := hide (cmp_ok hT H.e6)
    have H7 := hide (cmp_ok hT H.e7)
    have H8 := hide (uni_ok H.e8)
    have H9 := hide (cmp_ok hT H.e9)
    have H10 := hide (cmp_ok hT H.e10)
    have H11 := hide (cmp_ok hT H.e11)
    have H12 := hide (uni_ok H.e12)
    have H13 := hide (sil_ok H.e13)
    have H14 := hide (cmp_ok hT H.e14)
    have H15 := hide (cmp_ok hT H.e15)
    clear hT hM H h0
    have hneq_L : ∀ W, (binOp .neq 24 L.v L.v).run Tryd.prog W = .ok (.bool false) W := fun W => by
      have h := neq_graph L.n L.h0 L.h1 L.h2 L.h3 L.h4 L.n L.h0 L.h1 L.h2 L.h3 L.h4 W
      rw [show geq ⟨L.n, L.h0, L.h1, L.h2, L.h3, L.h4⟩ ⟨L.n, L.h0, L.h1, L.h2, L.h3, L.h4⟩ = true from geq_iff.2 rfl] at h
      exact h
    have heq_x : ∀ W, (binOp .eql 24 x.v x.v).run Tryd.prog W = .ok (.bool true) W := fun W => by
      have h := eql_graph x.n x.h0 x.h1 x.h2 x.h3 x.h4 x.n x.h0 x.h1 x.h2 x.h3 x.h4 W
      rw [show geq ⟨x.n, x.h0, x.h1, x.h2, x.h3, x.h4⟩ ⟨x.n, x.h0, x.h1, x.h2, x.h3, x.h4⟩ = true from geq_iff.2 rfl] at h
      exact h
    have heq_z : ∀ W, (binOp .eql 24 z.v z.v).run Tryd.prog W = .ok (.bool true) W := fun W => by
      have h := eql_graph z.n z.h0 z.h1 z.h2 z.h3 z.h4 z.n z.h0 z.h1 z.h2 z.h3 z.h4 W
      rw [show geq ⟨z.n, z.h0, z.h1, z.h2, z.h3, z.h4⟩ ⟨z.n, z.h0, z.h1, z.h2, z.h3, z.h4⟩ = true from geq_iff.2 rfl] at h
      exact h
    have heq_a : ∀ W, (binOp .eql 24 a.v a.v).run Tryd.prog W = .ok (.bool true) W := fun W => by
      have h := eql_graph a.n a.h0 a.h1 a.h2 a.h3 a.h4 a.n a.h0 a.h1 a.h2 a.h3 a.h4 W
      rw [show geq ⟨a.n, a.h0, a.h1, a.h2, a.h3, a.h4⟩ ⟨a.n, a.h0, a.h1, a.h2, a.h3, a.h4⟩ = true from geq_iff.2 rfl] at h
      exact h
    go_enter Tryd.func6, Tryd.ntmps6
    go_upto_region 1 with fail
    have HBl := hide (A3Box.new w a b c)
    have HE : Hid (Ext w (w.alloc (a3obj a b c))) := hide ((Ext.refl w).alloc _)
    generalize w.alloc (a3obj a b c) = W at HBl HE ⊢
    generalize w.heap.size = pl at HBl ⊢
    refine wp_region_list ?_
    refine wpList_load_row (g := pl) rfl 43 (.tmp 1) rfl rfl 43 _ (0, 0) (.array 3 24) HBl.out Tryd.underlying43 rfl (by kernel_rfl) ?_
    go_wp2_with fail
    refine (HTH.out _).mono ?_
    rintro e w2 ⟨rfl, hE⟩
    have HE := hide (HE.out.trans hE)
    have HBl := hide (HBl.out.ext hE)
    clear hE
    obtain ⟨⟨c0, c1, c2, c3, c4, c5⟩, ⟨d0, d1, d2, d3, d4, d5⟩, ⟨e0, e1, e2, e3, e4, e5⟩, z0⟩ := HBl.out.cells
    go_wp2_with fail
    clear c0 c1 c2 c3 c4 c5 d0 d1 d2 d3 d4 d5 e0 e1 e2 e3 e4 e5 z0
    refine wp_region_heldAll (fun V => A3Box V pl a b c) (by kernel_rfl) ?_
    intro W3 hW3
    have HE : Hid (Ext w W3) := hide (by rw [hW3]; exact HE.out.drew)
    have hA3 : A3Box W3 pl a b c := by rw [hW3]; exact HBl.out.ext (Ext.refl _).drew
    clear hW3 HBl
    refine wpAnyT_take (i := 0) (.pointer (some ⟨pl, 0, none⟩)) rfl (by kernel_rfl) (by kernel_rfl) (by kernel_rfl) (by simp [Region.wanted]) (fun V hV => by
      obtain ⟨⟨c0, c1, c2, c3, c4, c5⟩, ⟨d0, d1, d2, d3, d4, d5⟩, ⟨e0, e1, e2, e3, e4, e5⟩, z0⟩ := A3Box.cells hV
      go_simp) hA3 ?_
    try simp only [Act.put, List.getElem_toArray, List.getElem_cons_zero, List.getElem_cons_succ, List.setIfInBounds_toArray, List.set_cons_zero, List.set_cons_succ]
    refine wpAnyT_take (i := 1) (.agg #[.int .i64 a.n, .int .i64 a.h0, .int .i64 a.h1, .int .i64 a.h2, .int .i64 a.h3, .int .i64 a.h4]) rfl (by kernel_rfl) (by kernel_rfl) (by kernel_rfl) (by simp [Region.wanted]) (fun V hV => by
      obtain ⟨⟨c0, c1, c2, c3, c4, c5⟩, ⟨d0, d1, d2, d3, d4, d5⟩, ⟨e0, e1, e2, e3, e4, e5⟩, z0⟩ := A3Box.cells hV
      go_simp) hA3 ?_
    try simp only [Act.put, List.getElem_toArray, List.getElem_cons_zero, List.getElem_cons_succ, List.setIfInBounds_toArray, List.set_cons_zero, List.set_cons_succ]
    refine wpAnyT_take (i := 2) (.pointer (some ⟨pl, 6, none⟩)) rfl (by kernel_rfl) (by kernel_rfl) (by kernel_rfl) (by simp [Region.wanted]) (fun V hV => by
      obtain ⟨⟨c0, c1, c2, c3, c4, c5⟩, ⟨d0, d1, d2, d3, d4, d5⟩, ⟨e0, e1, e2, e3, e4, e5⟩, z0⟩ := A3Box.cells hV
      go_simp) hA3 ?_
    try simp only [Act.put, List.getElem_toArray, List.getElem_cons_zero, List.getElem_cons_succ, List.setIfInBounds_toArray, List.set_cons_zero, List.set_cons_succ]
    refine wpAnyT_take (i := 3) (.agg #[.int .i64 b.n, .int .i64 b.h0, .int .i64 b.h1, .int .i64 b.h2, .int .i64 b.h3, .int .i64 b.h4]) rfl (by kernel_rfl) (by kernel_rfl) (by kernel_rfl) (by simp [Region.wanted]) (fun V hV => by
      obtain ⟨⟨c0, c1, c2, c3, c4, c5⟩, ⟨d0, d1, d2, d3, d4, d5⟩, ⟨e0, e1, e2, e3, e4, e5⟩, z0⟩ := A3Box.cells hV
      go_simp) hA3 ?_
    try simp only [Act.put, List.getElem_toArray, List.getElem_cons_zero, List.getElem_cons_succ, List.setIfInBounds_toArray, List.set_cons_zero, List.set_cons_succ]
    refine wpAnyT_take (i := 4) (.pointer (some ⟨pl, 12, none⟩)) rfl (by kernel_rfl) (by kernel_rfl) (by kernel_rfl) (by simp [Region.wanted]) (fun V hV => by
      obtain ⟨⟨c0, c1, c2, c3, c4, c5⟩, ⟨d0, d1, d2, d3, d4, d5⟩, ⟨e0, e1, e2, e3, e4, e5⟩, z0⟩ := A3Box.cells hV
      go_simp) hA3 ?_
    try simp only [Act.put, List.getElem_toArray, List.getElem_cons_zero, List.getElem_cons_succ, List.setIfInBounds_toArray, List.set_cons_zero, List.set_cons_succ]
    refine wpAnyT_take (i := 5) (.agg #[.int .i64 c.n, .int .i64 c.h0, .int .i64 c.h1, .int .i64 c.h2, .int .i64 c.h3, .int .i64 c.h4]) rfl (by kernel_rfl) (by kernel_rfl) (by kernel_rfl) (by simp [Region.wanted]) (fun V hV => by
      obtain ⟨⟨c0, c1, c2, c3, c4, c5⟩, ⟨d0, d1, d2, d3, d4, d5⟩, ⟨e0, e1, e2, e3, e4, e5⟩, z0⟩ := A3Box.cells hV
      go_simp) hA3 ?_
    try simp only [Act.put, List.getElem_toArray, List.getElem_cons_zero, List.getElem_cons_succ, List.setIfInBounds_toArray, List.set_cons_zero, List.set_cons_succ]
    refine wpAnyT_news3 (i := 6) (j := 7) (k := 8) (d1 := 3) (d2 := 4) (d3 := 5) (ob := gobj0) rfl rfl rfl rfl rfl rfl rfl rfl rfl (by decide) (by decide) (by kernel_rfl) (by kernel_rfl) (by kernel_rfl) (by kernel_rfl) (by kernel_rfl) (by kernel_rfl) (by kernel_rfl)
      (fun _ _ => by go_simp) (fun _ _ => by go_simp) (fun _ _ => by go_simp) (fun _ hE => hA3.ext hE) (fun V ga gb gc hN => ?_)
    try simp only [Act.put, List.getElem_toArray, List.getElem_cons_zero, List.getElem_cons_succ, List.setIfInBounds_toArray, List.set_cons_zero, List.set_cons_succ]
    have hwW := HE.out.size
    have HN := hide (And.intro hN.n12 (And.intro hN.n13 hN.n23))
    have HL := hide (show w.heap.size ≤ ga ∧ w.heap.size ≤ gb ∧ w.heap.size ≤ gc from ⟨by have := hN.l1; omega, by have := hN.l2; omega, by have := hN.l3; omega⟩)
    have HP := hide (show pl < ga ∧ pl < gb ∧ pl < gc from ⟨Nat.lt_of_lt_of_le (lt_of_heap hA3) hN.l1, Nat.lt_of_lt_of_le (lt_of_heap hA3) hN.l2, Nat.lt_of_lt_of_le (lt_of_heap hA3) hN.l3⟩)
    have HA3 := hide (hA3.ext hN.ext)
    have HE := hide (HE.out.trans hN.ext)
    have HBa : Hid (GrBox V ga gz0) := hide hN.b1
    have HBb : Hid (GrBox V gb gz0) := hide hN.b2
    have HBc : Hid (GrBox V gc gz0) := hide hN.b3
    clear hN hwW hA3
    obtain ⟨c0, c1, c2, c3, c4, c5, z0⟩ := HBa.out.cells
    obtain ⟨f0, f1, f2, f3, f4, f5⟩ := HBa.out.frozen
    refine wpAnyT_one (i := 9) rfl (by kernel_rfl) (fun K hK => ?_)
    go_wp2_with fail
    change _ ∧ K _ (gstore V ga a)
    refine ⟨rfl, hK _ _ (HA3.out.gstore_other (by have := HP.out; omega) a) ?_⟩
    clear hK K c0 c1 c2 c3 c4 c5 z0 f0 f1 f2 f3 f4 f5
    have HA3 := hide (HA3.out.gstore_other (b' := ga) (by have := HP.out; omega) a)
    have HE := hide (HE.out.gstore (b := ga) (by have := HL.out; omega) a)
    have HBa := hide (HBa.out.store a)
    have HBb := hide (HBb.out.gstore_other (r := a) (b' := ga) HN.out.1.symm)
    have HBc := hide (HBc.out.gstore_other (r := a) (b' := ga) HN.out.2.1.symm)
    generalize gstore V ga a = V0 at HA3 HE HBa HBb HBc ⊢
    obtain ⟨c0, c1, c2, c3, c4, c5, z0⟩ := HBb.out.cells
    obtain ⟨f0, f1, f2, f3, f4, f5⟩ := HBb.out.frozen
    refine wpAnyT_one (i := 10) rfl (by kernel_rfl) (fun K hK => ?_)
    go_wp2_with fail
    change _ ∧ K _ (gstore V0 gb b)
    refine ⟨rfl, hK _ _ (HA3.out.gstore_other (by have := HP.out; omega) b) ?_⟩
    clear hK K c0 c1 c2 c3 c4 c5 z0 f0 f1 f2 f3 f4 f5
    have HA3 := hide (HA3.out.gstore_other (b' := gb) (by have := HP.out; omega) b)
    have HE := hide (HE.out.gstore (b := gb) (by have := HL.out; omega) b)
    have HBb := hide (HBb.out.store b)
    have HBa := hide (HBa.out.gstore_other (r := b) (b' := gb) HN.out.1)
    have HBc := hide (HBc.out.gstore_other (r := b) (b' := gb) HN.out.2.2.symm)
    generalize gstore V0 gb b = V1 at HA3 HE HBa HBb HBc ⊢
    obtain ⟨c0, c1, c2, c3, c4, c5, z0⟩ := HBc.out.cells
    obtain ⟨f0, f1, f2, f3, f4, f5⟩ := HBc.out.frozen
    refine wpAnyT_one (i := 11) rfl (by kernel_rfl) (fun K hK => ?_)
    go_wp2_with fail
    change _ ∧ K _ (gstore V1 gc c)
    refine ⟨rfl, hK _ _ (HA3.out.gstore_other (by have := HP.out; omega) c) ?_⟩
    clear hK K c0 c1 c2 c3 c4 c5 z0 f0 f1 f2 f3 f4 f5
    have HA3 := hide (HA3.out.gstore_other (b' := gc) (by have := HP.out; omega) c)
    have HE := hide (HE.out.gstore (b := gc) (by have := HL.out; omega) c)
    have HBc := hide (HBc.out.store c)
    have HBa := hide (HBa.out.gstore_other (r := c) (b' := gc) HN.out.2.1)
    have HBb := hide (HBb.out.gstore_other (r := c) (b' := gc) HN.out.2.2)
    generalize gstore V1 gc c = V2 at HA3 HE HBa HBb HBc ⊢
    refine wpAnyT_done (by kernel_rfl) ?_ _
    clear HN HL HP HA3
    obtain ⟨ca0, ca1, ca2, ca3, ca4, ca5, za⟩ := HBa.out.cells
    obtain ⟨cb0, cb1, cb2, cb3, cb4, cb5, zb⟩ := HBb.out.cells
    go_wp2_with fail
    clear ca0 ca1 ca2 ca3 ca4 ca5 cb0 cb1 cb2 cb3 cb4 cb5 za zb
    refine (H1.out _ HE.out).mono ?_
    rintro e w2 ⟨rfl, hE⟩
    have HE := hide (HE.out.trans hE)
    have HBa := hide (HBa.out.ext hE)
    have HBb := hide (HBb.out.ext hE)
    have HBc := hide (HBc.out.ext hE)
    clear hE
    go_upto_region 5 with fail
    have HBa := hide (HBa.out.alloc (gobj ab))
    have HBb := hide (HBb.out.alloc (gobj ab))
    have HBc := hide (HBc.out.alloc (gobj ab))
    have HE := hide (HE.out.alloc (gobj ab))
    have HB1 : Hid (GrBox (w2.alloc (gobj ab)) w2.heap.size ab) := gr_new w2 ab
    generalize w2.alloc (gobj ab) = W2 at HE HBa HBb HBc HB1 ⊢
    generalize w2.heap.size = b1 at HB1 ⊢
    obtain ⟨c10, c11, c12, c13, c14, c15, z1⟩ := HB1.out.cells
    obtain ⟨cc0, cc1, cc2, cc3, cc4, cc5, zc⟩ := HBc.out.cells
    go_wp2_with fail
    clear c10 c11 c12 c13 c14 c15 cc0 cc1 cc2 cc3 cc4 cc5 z1 zc
    refine (H2.out _ HE.out).mono ?_
    rintro e w2 ⟨rfl, hE⟩
    have HE := hide (HE.out.trans hE)
    have HBa := hide (HBa.out.ext hE)
    have HBb := hide (HBb.out.ext hE)
    have HBc := hide (HBc.out.ext hE)
    have HB1 := hide (HB1.out.ext hE)
    clear hE
    go_upto_region 6 with fail
    have HBa := hide (HBa.out.alloc (gobj L))
    have HBb := hide (HBb.out.alloc (gobj L))
    have HBc := hide (HBc.out.alloc (gobj L))
    have HB1 := hide (HB1.out.alloc (gobj L))
    have HE := hide (HE.out.alloc (gobj L))
    have HB2 : Hid (GrBox (w2.alloc (gobj L)) w2.heap.size L) := gr_new w2 L
    generalize w2.alloc (gobj L) = W2 at HE HBa HBb HBc HB1 HB2 ⊢
    generalize w2.heap.size = b2 at HB2 ⊢
    obtain ⟨cb0, cb1, cb2, cb3, cb4, cb5, zb⟩ := HBb.out.cells
    obtain ⟨cc0, cc1, cc2, cc3, cc4, cc5, zc⟩ := HBc.out.cells
    go_wp2_with fail
    clear cb0 cb1 cb2 cb3 cb4 cb5 cc0 cc1 cc2 cc3 cc4 cc5 zb zc
    refine (H3.out _ HE.out).mono ?_
    rintro e w2 ⟨rfl, hE⟩
    have HE := hide (HE.out.trans hE)
    have HBa := hide (HBa.out.ext hE)
    have HBb := hide (HBb.out.ext hE)
    have HBc := hide (HBc.out.ext hE)
    have HB1 := hide (HB1.out.ext hE)
    have HB2 := hide (HB2.out.ext hE)
    clear hE
    go_upto_region 7 with fail
    have HBa := hide (HBa.out.alloc (gobj bc))
    have HBb := hide (HBb.out.alloc (gobj bc))
    have HBc := hide (HBc.out.alloc (gobj bc))
    have HB1 := hide (HB1.out.alloc (gobj bc))
    have HB2 := hide (HB2.out.alloc (gobj bc))
    have HE := hide (HE.out.alloc (gobj bc))
    have HB3 : Hid (GrBox (w2.alloc (gobj bc)) w2.heap.size bc) := gr_new w2 bc
    generalize w2.alloc (gobj bc) = W2 at HE HBa HBb HBc HB1 HB2 HB3 ⊢
    generalize w2.heap.size = b3 at HB3 ⊢
    obtain ⟨ca0, ca1, ca2, ca3, ca4, ca5, za⟩ := HBa.out.cells
    obtain ⟨c30, c31, c32, c33, c34, c35, z3⟩ := HB3.out.cells
    go_wp2_with fail
    clear ca0 ca1 ca2 ca3 ca4 ca5 c30 c31 c32 c33 c34 c35 za z3
    refine (H4.out _ HE.out).mono ?_
    rintro e w2 ⟨rfl, hE⟩
    have HE := hide (HE.out.trans hE)
    have HBa := hide (HBa.out.ext hE)
    have HBb := hide (HBb.out.ext hE)
    have HBc := hide (HBc.out.ext hE)
    have HB1 := hide (HB1.out.ext hE)
    have HB2 := hide (HB2.out.ext hE)
    have HB3 := hide (HB3.out.ext hE)
    clear hE
    go_upto_region 8 with fail
    have HBa := hide (HBa.out.alloc (gobj L))
    have HBb := hide (HBb.out.alloc (gobj L))
    have HBc := hide (HBc.out.alloc (gobj L))
    have HB1 := hide (HB1.out.alloc (gobj L))
    have HB2 := hide (HB2.out.alloc (gobj L))
    have HB3 := hide (HB3.out.alloc (gobj L))
    have HE := hide (HE.out.alloc (gobj L))
    have HB4 : Hid (GrBox (w2.alloc (gobj L)) w2.heap.size L) := gr_new w2 L
    generalize w2.alloc (gobj L) = W2 at HE HBa HBb HBc HB1 HB2 HB3 HB4 ⊢
    generalize w2.heap.size = b4 at HB4 ⊢
    obtain ⟨c20, c21, c22, c23, c24, c25, z2⟩ := HB2.out.cells
    obtain ⟨c40, c41, c42, c43, c44, c45, z4⟩ := HB4.out.cells
    obtain ⟨cb0, cb1, cb2, cb3, cb4, cb5, zb⟩ := HBb.out.cells
    obtain ⟨cc0, cc1, cc2, cc3, cc4, cc5, zc⟩ := HBc.out.cells
    go_wp2_with fail
    clear c20 c21 c22 c23 c24 c25 c40 c41 c42 c43 c44 c45 cb0 cb1 cb2 cb3 cb4 cb5 cc0 cc1 cc2 cc3 cc4 cc5 z2 z4 zb zc
    refine (H5.out _).mono ?_
    rintro e w2 ⟨rfl, hE⟩
    have HE := hide (HE.out.trans hE)
    have HBa := hide (HBa.out.ext hE)
    have HBb := hide (HBb.out.ext hE)
    have HBc := hide (HBc.out.ext hE)
    have HB1 := hide (HB1.out.ext hE)
    have HB2 := hide (HB2.out.ext hE)
    have HB3 := hide (HB3.out.ext hE)
    have HB4 := hide (HB4.out.ext hE)
    clear hE
    go_upto_region 11 with fail
    have HBa := hide (HBa.out.alloc (gobj u))
    have HBb := hide (HBb.out.alloc (gobj u))
    have HBc := hide (HBc.out.alloc (gobj u))
    have HB1 := hide (HB1.out.alloc (gobj u))
    have HB2 := hide (HB2.out.alloc (gobj u))
    have HB3 := hide (HB3.out.alloc (gobj u))
    have HB4 := hide (HB4.out.alloc (gobj u))
    have HE := hide (HE.out.alloc (gobj u))
    have HB5 : Hid (GrBox (w2.alloc (gobj u)) w2.heap.size u) := gr_new w2 u
    generalize w2.alloc (gobj u) = W2 at HE HBa HBb HBc HB1 HB2 HB3 HB4 HB5 ⊢
    generalize w2.heap.size = b5 at HB5 ⊢
    clear HB2
    clear HB3
    clear HB4
    obtain ⟨ca0, ca1, ca2, ca3, ca4, ca5, za⟩ := HBa.out.cells
    obtain ⟨c50, c51, c52, c53, c54, c55, z5⟩ := HB5.out.cells
    go_wp2_with fail
    clear ca0 ca1 ca2 ca3 ca4 ca5 c50 c51 c52 c53 c54 c55 za z5
    refine (H6.out _ HE.out).mono ?_
    rintro e w2 ⟨rfl, hE⟩
    have HE := hide (HE.out.trans hE)
    have HBa := hide (HBa.out.ext hE)
    have HBb := hide (HBb.out.ext hE)
    have HBc := hide (HBc.out.ext hE)
    have HB1 := hide (HB1.out.ext hE)
    have HB5 := hide (HB5.out.ext hE)
    clear hE
    go_upto_region 12 with fail
    have HBa := hide (HBa.out.alloc (gobj x))
    have HBb := hide (HBb.out.alloc (gobj x))
    have HBc := hide (HBc.out.alloc (gobj x))
    have HB1 := hide (HB1.out.alloc (gobj x))
    have HB5 := hide (HB5.out.alloc (gobj x))
    have HE := hide (HE.out.alloc (gobj x))
    have HB6 : Hid (GrBox (w2.alloc (gobj x)) w2.heap.size x) := gr_new w2 x
    generalize w2.alloc (gobj x) = W2 at HE HBa HBb HBc HB1 HB5 HB6 ⊢
    generalize w2.heap.size = b6 at HB6 ⊢
    obtain ⟨ca0, ca1, ca2, ca3, ca4, ca5, za⟩ := HBa.out.cells
    obtain ⟨cc0, cc1, cc2, cc3, cc4, cc5, zc⟩ := HBc.out.cells
    go_wp2_with fail
    clear ca0 ca1 ca2 ca3 ca4 ca5 cc0 cc1 cc2 cc3 cc4 cc5 za zc
    refine (H7.out _ HE.out).mono ?_
    rintro e w2 ⟨rfl, hE⟩
    have HE := hide (HE.out.trans hE)
    have HBa := hide (HBa.out.ext hE)
    have HBb := hide (HBb.out.ext hE)
    have HBc := hide (HBc.out.ext hE)
    have HB1 := hide (HB1.out.ext hE)
    have HB5 := hide (HB5.out.ext hE)
    have HB6 := hide (HB6.out.ext hE)
    clear hE
    go_upto_region 13 with fail
    have HBa := hide (HBa.out.alloc (gobj ac))
    have HBb := hide (HBb.out.alloc (gobj ac))
    have HBc := hide (HBc.out.alloc (gobj ac))
    have HB1 := hide (HB1.out.alloc (gobj ac))
    have HB5 := hide (HB5.out.alloc (gobj ac))
    have HB6 := hide (HB6.out.alloc (gobj ac))
    have HE := hide (HE.out.alloc (gobj ac))
    have HB7 : Hid (GrBox (w2.alloc (gobj ac)) w2.heap.size ac) := gr_new w2 ac
    generalize w2.alloc (gobj ac) = W2 at HE HBa HBb HBc HB1 HB5 HB6 HB7 ⊢
    generalize w2.heap.size = b7 at HB7 ⊢
    obtain ⟨c10, c11, c12, c13, c14, c15, z1⟩ := HB1.out.cells
    obtain ⟨c70, c71, c72, c73, c74, c75, z7⟩ := HB7.out.cells
    go_wp2_with fail
    clear c10 c11 c12 c13 c14 c15 c70 c71 c72 c73 c74 c75 z1 z7
    refine (H8.out _).mono ?_
    rintro e w2 ⟨rfl, hE⟩
    have HE := hide (HE.out.trans hE)
    have HBa := hide (HBa.out.ext hE)
    have HBb := hide (HBb.out.ext hE)
    have HBc := hide (HBc.out.ext hE)
    have HB1 := hide (HB1.out.ext hE)
    have HB5 := hide (HB5.out.ext hE)
    have HB6 := hide (HB6.out.ext hE)
    have HB7 := hide (HB7.out.ext hE)
    clear hE
    go_upto_region 14 with fail
    have HBa := hide (HBa.out.alloc (gobj x))
    have HBb := hide (HBb.out.alloc (gobj x))
    have HBc := hide (HBc.out.alloc (gobj x))
    have HB1 := hide (HB1.out.alloc (gobj x))
    have HB5 := hide (HB5.out.alloc (gobj x))
    have HB6 := hide (HB6.out.alloc (gobj x))
    have HB7 := hide (HB7.out.alloc (gobj x))
    have HE := hide (HE.out.alloc (gobj x))
    have HB8 : Hid (GrBox (w2.alloc (gobj x)) w2.heap.size x) := gr_new w2 x
    generalize w2.alloc (gobj x) = W2 at HE HBa HBb HBc HB1 HB5 HB6 HB7 HB8 ⊢
    generalize w2.heap.size = b8 at HB8 ⊢
    clear HB1
    clear HB7
    obtain ⟨c50, c51, c52, c53, c54, c55, z5⟩ := HB5.out.cells
    obtain ⟨ca0, ca1, ca2, ca3, ca4, ca5, za⟩ := HBa.out.cells
    go_wp2_with fail
    clear c50 c51 c52 c53 c54 c55 ca0 ca1 ca2 ca3 ca4 ca5 z5 za
    refine (H9.out _ HE.out).mono ?_
    rintro e w2 ⟨rfl, hE⟩
    have HE := hide (HE.out.trans hE)
    have HBa := hide (HBa.out.ext hE)
    have HBb := hide (HBb.out.ext hE)
    have HBc := hide (HBc.out.ext hE)
    have HB5 := hide (HB5.out.ext hE)
    have HB6 := hide (HB6.out.ext hE)
    have HB8 := hide (HB8.out.ext hE)
    clear hE
    go_upto_region 15 with fail
    have HBa := hide (HBa.out.alloc (gobj z))
    have HBb := hide (HBb.out.alloc (gobj z))
    have HBc := hide (HBc.out.alloc (gobj z))
    have HB5 := hide (HB5.out.alloc (gobj z))
    have HB6 := hide (HB6.out.alloc (gobj z))
    have HB8 := hide (HB8.out.alloc (gobj z))
    have HE := hide (HE.out.alloc (gobj z))
    have HB9 : Hid (GrBox (w2.alloc (gobj z)) w2.heap.size z) := gr_new w2 z
    generalize w2.alloc (gobj z) = W2 at HE HBa HBb HBc HB5 HB6 HB8 HB9 ⊢
    generalize w2.heap.size = b9 at HB9 ⊢
    clear HB5
    obtain ⟨cb0, cb1, cb2, cb3, cb4, cb5, zb⟩ := HBb.out.cells
    obtain ⟨ca0, ca1, ca2, ca3, ca4, ca5, za⟩ := HBa.out.cells
    go_wp2_with fail
    clear cb0 cb1 cb2 cb3 cb4 cb5 ca0 ca1 ca2 ca3 ca4 ca5 zb za
    refine (H10.out _ HE.out).mono ?_
    rintro e w2 ⟨rfl, hE⟩
    have HE := hide (HE.out.trans hE)
    have HBa := hide (HBa.out.ext hE)
    have HBb := hide (HBb.out.ext hE)
    have HBc := hide (HBc.out.ext hE)
    have HB6 := hide (HB6.out.ext hE)
    have HB8 := hide (HB8.out.ext hE)
    have HB9 := hide (HB9.out.ext hE)
    clear hE
    go_upto_region 16 with fail
    have HBa := hide (HBa.out.alloc (gobj ba))
    have HBb := hide (HBb.out.alloc (gobj ba))
    have HBc := hide (HBc.out.alloc (gobj ba))
    have HB6 := hide (HB6.out.alloc (gobj ba))
    have HB8 := hide (HB8.out.alloc (gobj ba))
    have HB9 := hide (HB9.out.alloc (gobj ba))
    have HE := hide (HE.out.alloc (gobj ba))
    have HB10 : Hid (GrBox (w2.alloc (gobj ba)) w2.heap.size ba) := gr_new w2 ba
    generalize w2.alloc (gobj ba) = W2 at HE HBa HBb HBc HB6 HB8 HB9 HB10 ⊢
    generalize w2.heap.size = b10 at HB10 ⊢
    clear HBb
    obtain ⟨cc0, cc1, cc2, cc3, cc4, cc5, zc⟩ := HBc.out.cells
    obtain ⟨ca0, ca1, ca2, ca3, ca4, ca5, za⟩ := HBa.out.cells
    go_wp2_with fail
    clear cc0 cc1 cc2 cc3 cc4 cc5 ca0 ca1 ca2 ca3 ca4 ca5 zc za
    refine (H11.out _ HE.out).mono ?_
    rintro e w2 ⟨rfl, hE⟩
    have HE := hide (HE.out.trans hE)
    have HBa := hide (HBa.out.ext hE)
    have HBc := hide (HBc.out.ext hE)
    have HB6 := hide (HB6.out.ext hE)
    have HB8 := hide (HB8.out.ext hE)
    have HB9 := hide (HB9.out.ext hE)
    have HB10 := hide (HB10.out.ext hE)
    clear hE
    go_upto_region 17 with fail
    have HBa := hide (HBa.out.alloc (gobj ca))
    have HBc := hide (HBc.out.alloc (gobj ca))
    have HB6 := hide (HB6.out.alloc (gobj ca))
    have HB8 := hide (HB8.out.alloc (gobj ca))
    have HB9 := hide (HB9.out.alloc (gobj ca))
    have HB10 := hide (HB10.out.alloc (gobj ca))
    have HE := hide (HE.out.alloc (gobj ca))
    have HB11 : Hid (GrBox (w2.alloc (gobj ca)) w2.heap.size ca) := gr_new w2 ca
    generalize w2.alloc (gobj ca) = W2 at HE HBa HBc HB6 HB8 HB9 HB10 HB11 ⊢
    generalize w2.heap.size = b11 at HB11 ⊢
    clear HBc
    obtain ⟨c100, c101, c102, c103, c104, c105, z10⟩ := HB10.out.cells
    obtain ⟨c110, c111, c112, c113, c114, c115, z11⟩ := HB11.out.cells
    go_wp2_with fail
    clear c100 c101 c102 c103 c104 c105 c110 c111 c112 c113 c114 c115 z10 z11
    refine (H12.out _).mono ?_
    rintro e w2 ⟨rfl, hE⟩
    have HE := hide (HE.out.trans hE)
    have HBa := hide (HBa.out.ext hE)
    have HB6 := hide (HB6.out.ext hE)
    have HB8 := hide (HB8.out.ext hE)
    have HB9 := hide (HB9.out.ext hE)
    have HB10 := hide (HB10.out.ext hE)
    have HB11 := hide (HB11.out.ext hE)
    clear hE
    go_upto_region 18 with fail
    have HBa := hide (HBa.out.alloc (gobj z))
    have HB6 := hide (HB6.out.alloc (gobj z))
    have HB8 := hide (HB8.out.alloc (gobj z))
    have HB9 := hide (HB9.out.alloc (gobj z))
    have HB10 := hide (HB10.out.alloc (gobj z))
    have HB11 := hide (HB11.out.alloc (gobj z))
    have HE := hide (HE.out.alloc (gobj z))
    have HB12 : Hid (GrBox (w2.alloc (gobj z)) w2.heap.size z) := gr_new w2 z
    generalize w2.alloc (gobj z) = W2 at HE HBa HB6 HB8 HB9 HB10 HB11 HB12 ⊢
    generalize w2.heap.size = b12 at HB12 ⊢
    clear HB10
    clear HB11
    obtain ⟨ca0, ca1, ca2, ca3, ca4, ca5, za⟩ := HBa.out.cells
    go_wp2_with fail
    clear ca0 ca1 ca2 ca3 ca4 ca5 za
    refine (H13.out _).mono ?_
    rintro e w2 ⟨rfl, hE⟩
    have HE := hide (HE.out.trans hE)
    have HBa := hide (HBa.out.ext hE)
    have HB6 := hide (HB6.out.ext hE)
    have HB8 := hide (HB8.out.ext hE)
    have HB9 := hide (HB9.out.ext hE)
    have HB12 := hide (HB12.out.ext hE)
    clear hE
    go_upto_region 19 with fail
    have HBa := hide (HBa.out.alloc (gobj s))
    have HB6 := hide (HB6.out.alloc (gobj s))
    have HB8 := hide (HB8.out.alloc (gobj s))
    have HB9 := hide (HB9.out.alloc (gobj s))
    have HB12 := hide (HB12.out.alloc (gobj s))
    have HE := hide (HE.out.alloc (gobj s))
    have HB13 : Hid (GrBox (w2.alloc (gobj s)) w2.heap.size s) := gr_new w2 s
    generalize w2.alloc (gobj s) = W2 at HE HBa HB6 HB8 HB9 HB12 HB13 ⊢
    generalize w2.heap.size = b13 at HB13 ⊢
    obtain ⟨ca0, ca1, ca2, ca3, ca4, ca5, za⟩ := HBa.out.cells
    obtain ⟨c130, c131, c132, c133, c134, c135, z13⟩ := HB13.out.cells
    go_wp2_with fail
    clear ca0 ca1 ca2 ca3 ca4 ca5 c130 c131 c132 c133 c134 c135 za z13
    refine (H14.out _ HE.out).mono ?_
    rintro e w2 ⟨rfl, hE⟩
    have HE := hide (HE.out.trans hE)
    have HBa := hide (HBa.out.ext hE)
    have HB6 := hide (HB6.out.ext hE)
    have HB8 := hide (HB8.out.ext hE)
    have HB9 := hide (HB9.out.ext hE)
    have HB12 := hide (HB12.out.ext hE)
    have HB13 := hide (HB13.out.ext hE)
    clear hE
    go_upto_region 20 with fail
    have HBa := hide (HBa.out.alloc (gobj a))
    have HB6 := hide (HB6.out.alloc (gobj a))
    have HB8 := hide (HB8.out.alloc (gobj a))
    have HB9 := hide (HB9.out.alloc (gobj a))
    have HB12 := hide (HB12.out.alloc (gobj a))
    have HB13 := hide (HB13.out.alloc (gobj a))
    have HE := hide (HE.out.alloc (gobj a))
    have HB14 : Hid (GrBox (w2.alloc (gobj a)) w2.heap.size a) := gr_new w2 a
    generalize w2.alloc (gobj a) = W2 at HE HBa HB6 HB8 HB9 HB12 HB13 HB14 ⊢
    generalize w2.heap.size = b14 at HB14 ⊢
    obtain ⟨c130, c131, c132, c133, c134, c135, z13⟩ := HB13.out.cells
    obtain ⟨ca0, ca1, ca2, ca3, ca4, ca5, za⟩ := HBa.out.cells
    go_wp2_with fail
    clear c130 c131 c132 c133 c134 c135 ca0 ca1 ca2 ca3 ca4 ca5 z13 za
    refine (H15.out _ HE.out).mono ?_
    rintro e w2 ⟨rfl, hE⟩
    have HE := hide (HE.out.trans hE)
    have HBa := hide (HBa.out.ext hE)
    have HB6 := hide (HB6.out.ext hE)
    have HB8 := hide (HB8.out.ext hE)
    have HB9 := hide (HB9.out.ext hE)
    have HB12 := hide (HB12.out.ext hE)
    have HB13 := hide (HB13.out.ext hE)
    have HB14 := hide (HB14.out.ext hE)
    clear hE
    go_upto_region 21 with fail
    have HBa := hide (HBa.out.alloc (gobj a))
    have HB6 := hide (HB6.out.alloc (gobj a))
    have HB8 := hide (HB8.out.alloc (gobj a))
    have HB9 := hide (HB9.out.alloc (gobj a))
    have HB12 := hide (HB12.out.alloc (gobj a))
    have HB13 := hide (HB13.out.alloc (gobj a))
    have HB14 := hide (HB14.out.alloc (gobj a))
    have HE := hide (HE.out.alloc (gobj a))
    have HB15 : Hid (GrBox (w2.alloc (gobj a)) w2.heap.size a) := gr_new w2 a
    generalize w2.alloc (gobj a) = W2 at HE HBa HB6 HB8 HB9 HB12 HB13 HB14 HB15 ⊢
    generalize w2.heap.size = b15 at HB15 ⊢
    clear HB13
    obtain ⟨c60, c61, c62, c63, c64, c65, z6⟩ := HB6.out.cells
    obtain ⟨c80, c81, c82, c83, c84, c85, z8⟩ := HB8.out.cells
    obtain ⟨c90, c91, c92, c93, c94, c95, z9⟩ := HB9.out.cells
    obtain ⟨c120, c121, c122, c123, c124, c125, z12⟩ := HB12.out.cells
    obtain ⟨c140, c141, c142, c143, c144, c145, z14⟩ := HB14.out.cells
    obtain ⟨c150, c151, c152, c153, c154, c155, z15⟩ := HB15.out.cells
    obtain ⟨ca0, ca1, ca2, ca3, ca4, ca5, za⟩ := HBa.out.cells
    go_wp2_with fail
    refine (HAW.out _ HE.out).mono ?_
    rintro e w2 ⟨rfl, hE⟩
    have HE := hide (HE.out.trans hE)
    clear hE
    clear c60 c61 c62 c63 c64 c65 c80 c81 c82 c83 c84 c85 c90 c91 c92 c93 c94 c95 c120 c121 c122 c123 c124 c125 c140 c141 c142 c143 c144 c145 c150 c151 c152 c153 c154 c155 ca0 ca1 ca2 ca3 ca4 ca5 z6 z8 z9 z12 z14 z15 za
    go_wp2_with fail
    go_ret
    exact ⟨rfl, HE.out⟩
  · rw [decide_eq_false h0] at HTH
    clear hT hM h0
    go_enter Tryd.func6, Tryd.ntmps6
    go_upto_region 1 with fail
    have HBl := hide (A3Box.new w a b c)
    have HE : Hid (Ext w (w.alloc (a3obj a b c))) := hide ((Ext.refl w).alloc _)
    generalize w.alloc (a3obj a b c) = W at HBl HE ⊢
    generalize w.heap.size = pl at HBl ⊢
    refine wp_region_list ?_
    refine wpList_load_row (g := pl) rfl 43 (.tmp 1) rfl rfl 43 _ (0, 0) (.array 3 24) HBl.out Tryd.underlying43 rfl (by kernel_rfl) ?_
    go_wp2_with fail
    refine (HTH.out _).mono ?_
    rintro e w2 ⟨rfl, hE⟩
    have HE := hide (HE.out.trans hE)
    clear hE
    go_wp2_with fail
    refine (HAW.out _ HE.out).mono ?_
    rintro e w3 ⟨rfl, hE⟩
    have HE := hide (HE.out.trans hE)
    clear hE
    go_wp2_with fail
    go_ret
    exact ⟨rfl, HE.out⟩
end Go.Proofs.YtpcboonjalbihaaDoor
