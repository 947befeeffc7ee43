/-
  Products of words, of both (round.Product, roundtableref15.All, Product).
  Conditions: the table of math/bits lies in the heap (Tz), for the program's.
-/
import Derived.Test.YtfnhjalnbmnlaaaDoorRdEnds
import Derived.Test.YtfnhjalnbmnlaaaDoorRdLaw
namespace Go.Proofs.YtfnhjalnbmnlaaaDoor
open Go.RowKit
attribute [local go_sem] Oper.semAt_some

theorem silS_n {n : Nat} (h1 : 1 ≤ n) (h5 : n ≤ 5) : silentS (n : Int) = (silG n, 0) := by
  unfold silentS sizedE; rw [if_neg (by omega)]; rfl
theorem prodL_succ (n : Nat) (l : List Rd) {i : Nat} (hi : i < l.length) : prodL n (l.take (i + 1)) = compG (prodL n (l.take i)) (l.getD i default).g := by
  unfold prodL
  rw [List.take_succ_eq_append_getElem hi, List.foldl_append, List.getD_eq_getElem?_getD, List.getElem?_eq_getElem hi]; rfl

set_option maxRecDepth 16000 in
set_option maxHeartbeats 2000000 in
theorem rdproduct_any (n : Int) (l : List Rd) (v : Value) (w : World) (hT : Tz w) (hv : Row Rd.cells 7 w v l) : Calls Tryd.prog 19 #[.int .i64 n, v] w (RetG (productS n l) w) := by
  have HW := hide (fun W (hE : Ext w W) => rword_any n l v W (hv.ext hE))
  obtain ⟨p, c, rfl, hc, hlen, hat⟩ := hv.rd_all
  have HA := hide hat
  clear hv hat
  unfold productS
  by_cases h0 : wordE n l = 0
  case neg =>
    rw [if_pos h0]
    have hd : (wordE n l != 0) = true := by simp [h0]
    have H0 := hide h0
    clear h0 HA hT
    generalize wordE n l = x at *
    go_enter Tryd.func19, Tryd.ntmps19
    go_wp2_with fail
    have HB : Hid (GrBox (w.alloc gobj0) w.heap.size gz0) := gr_new w gz0
    have HE : Hid (Ext w (w.alloc gobj0)) := (Ext.refl w).alloc _
    generalize w.alloc gobj0 = W at HB HE ⊢
    refine (HW.out _ HE.out).mono ?_
    rintro e w1 ⟨rfl, hE⟩
    have HE := hide (HE.out.trans hE)
    have HB := hide (HB.out.ext hE)
    clear hE
    obtain ⟨c0, c1, c2, c3, c4, c5, cz⟩ := HB.out.cells
    obtain ⟨f0, f1, f2, f3, f4, f5⟩ := HB.out.frozen
    go_wp2_with fail
    exact bodyPost_ret (v := .tuple #[gz0.v, .int .i64 x]) (results_gr2 rfl _ rfl rfl (HB.out.store gz0)) rfl ⟨rfl, HE.out.gstore (by omega) gz0⟩
  case pos =>
  obtain ⟨m, rfl, ho⟩ := word_of h0
  rw [if_neg (fun k => k h0), Int.toNat_natCast]
  rw [h0] at HW
  have HSI := hide (sil_ok (silS_n ho.n1 ho.n5))
  have HPW := hide (fun i (hi : i ≤ l.length) => prod_wfL (word_take ho hi))
  have HC := hide (fun i (hi : i < l.length) => cmp_ok hT (compS_wf (HPW.out i (by omega)) (ho.wf i hi).g))
  have HPS := hide (fun i (hi : i < l.length) => prodL_succ m l hi)
  have HP0 : Hid (prodL m (l.take 0) = silG m) := rfl
  have HPL : Hid (prodL m (l.take l.length) = prodL m l) := by show _ = _; rw [List.take_length]
  obtain ⟨pg, hpg⟩ : ∃ pg : Nat → Gr, pg = fun i => prodL m (l.take i) := ⟨_, rfl⟩
  replace HC : Hid (∀ i (hi : i < l.length), CmpOK w (pg i) (l.getD i default).g (compG (pg i) (l.getD i default).g)) := by rw [hpg]; exact HC
  replace HPS : Hid (∀ i (hi : i < l.length), pg (i + 1) = compG (pg i) (l.getD i default).g) := by rw [hpg]; exact HPS
  replace HP0 : Hid (pg 0 = silG m) := by rw [hpg]; exact HP0
  replace HPL : Hid (pg l.length = prodL m l) := by rw [hpg]; exact HPL
  generalize prodL m l = res at HPL ⊢
  clear h0 ho hT hpg HPW
  go_enter Tryd.func19, Tryd.ntmps19
  go_wp2_with fail
  have HB : Hid (GrBox (w.alloc gobj0) w.heap.size gz0) := gr_new w gz0
  have HE : Hid (Ext w (w.alloc gobj0)) := (Ext.refl w).alloc _
  generalize w.alloc gobj0 = W at HB HE ⊢
  refine (HW.out _ HE.out).mono ?_
  rintro e w1 ⟨rfl, hE⟩
  have HE := hide (HE.out.trans hE)
  have HB := hide (HB.out.ext hE)
  clear hE
  go_wp2_with fail
  refine (HSI.out _).mono ?_
  rintro e w2 ⟨rfl, hE⟩
  have HE := hide ((HE.out.trans hE).alloc (gobj (silG m)))
  have HB := hide (HB.out.ext hE)
  have hb4 := lt_of_heap HB.out
  have HB := hide (HB.out.alloc (gobj (silG m)))
  have HB7 : Hid (GrBox (w2.alloc (gobj (silG m))) w2.heap.size (silG m)) := gr_new w2 _
  clear hE
  go_upto_region 5 with fail
  change Code.wp _ _ _ _ (w2.alloc (gobj (silG m)))
  generalize w2.alloc (gobj (silG m)) = W2 at HE HB HB7 ⊢
  generalize w2.heap.size = b7 at HB7 hb4 ⊢
  rw [← HP0.out] at HB7
  go_wp2_with fail
  go_loopw [25, 8, 10] (fun x y _ V => ∃ i : Nat, i ≤ l.length ∧ x = .int .i64 i ∧ y = .int .i64 0 ∧ Hid (Ext w V) ∧ Hid (GrBox V w.heap.size gz0) ∧ Hid (GrBox V b7 (pg i))) (fun x _ _ _ => l.length - (intOf x).toNat)
  case atStart => exact ⟨0, by omega, rfl, rfl, HE, HB, HB7⟩
  case round =>
    clear HE HB HB7
    obtain ⟨i, hi, rfl, rfl, HE, HB, HB7⟩ := hrel
    by_cases hlt : i < l.length
    · obtain ⟨b, o, rfl, hb, hat⟩ := HA.out (by omega)
      have hx := hat i hlt
      have HC2 := hide (HC.out i hlt)
      have HPN := hide (HPS.out i hlt)
      generalize l.getD i default = r at hx HC2 HPN
      obtain ⟨x0, x1, x2, x3, x4, x5, x6⟩ := hx
      replace x0 := x0 _ HE.out
      replace x1 := x1 _ HE.out
      replace x2 := x2 _ HE.out
      replace x3 := x3 _ HE.out
      replace x4 := x4 _ HE.out
      replace x5 := x5 _ HE.out
      replace x6 := x6 _ HE.out
      generalize compG (pg i) r.g = q at HC2 HPN
      generalize pg i = g at HC2 HB7
      clear hat
      have hz7 := lt_of_heap HB7.out
      go_upto_region 8 with fail
      clear x0 x1 x2 x3 x4 x5 x6
      have HE := hide (HE.out.alloc (robj r))
      have HB := hide (HB.out.alloc (robj r))
      have HB7 := hide (HB7.out.alloc (robj r))
      have HB10 : Hid (RdBox (wr.alloc (robj r)) wr.heap.size r) := rd_new wr r
      change Code.wp _ _ _ _ (wr.alloc (robj r))
      generalize wr.alloc (robj r) = W3 at HE HB HB7 HB10 ⊢
      generalize wr.heap.size = b10 at HB10 hz7 ⊢
      obtain ⟨c0, c1, c2, c3, c4, c5, c6, cz⟩ := HB10.out.cells
      obtain ⟨d0, d1, d2, d3, d4, d5, dz⟩ := HB7.out.cells
      go_wp2_with fail
      clear c0 c1 c2 c3 c4 c5 c6 cz d0 d1 d2 d3 d4 d5 dz
      refine (HC2.out _ HE.out).mono ?_
      rintro e w4 ⟨rfl, hE⟩
      have HE := hide (HE.out.trans hE)
      have HB := hide (HB.out.ext hE)
      have HB7 := hide (HB7.out.ext hE)
      clear hE HB10
      obtain ⟨d0, d1, d2, d3, d4, d5, dz⟩ := HB7.out.cells
      obtain ⟨f0, f1, f2, f3, f4, f5⟩ := HB7.out.frozen
      have HE2 := hide (HE.out.gstore (b := b7) (by omega) q)
      have HB2 : Hid (GrBox (gstore w4 b7 q) w.heap.size gz0) := HB.out.gstore_other (by omega)
      have HB72 : Hid (GrBox (gstore w4 b7 q) b7 (pg (i + 1))) := by show GrBox _ _ _; rw [HPN.out]; exact HB7.out.store q
      go_wp2_with fail
      go_roundw
      case rel => exact ⟨i + 1, by omega, by go_num, rfl, HE2, HB2, HB72⟩
      case measure => simp [intOf]; omega
    · obtain rfl : i = l.length := by omega
      rw [HPL.out] at HB7
      obtain ⟨c0, c1, c2, c3, c4, c5, cz⟩ := HB.out.cells
      obtain ⟨f0, f1, f2, f3, f4, f5⟩ := HB.out.frozen
      obtain ⟨d0, d1, d2, d3, d4, d5, dz⟩ := HB7.out.cells
      go_wp2_with fail
      exact bodyPost_ret (v := .tuple #[res.v, .int .i64 0]) (results_gr2 rfl _ rfl rfl (HB.out.store res)) rfl ⟨rfl, HE.out.gstore (by omega) res⟩
set_option maxRecDepth 16000 in
set_option maxHeartbeats 2000000 in
theorem rall_ok (n : Nat) (l : List Rd) (ho : WordOk n l) (v : Value) (w : World) (hv : Row Rd.cells 7 w v l) : Calls Tryd.prog 48 #[.int .i64 n, v] w fun e w' => e = .returned (prodL n l).v ∧ Ext w w' := by
  obtain ⟨p, c, rfl, hc, hlen, hat⟩ := hv.rd_all
  have HA := hide hat
  clear hv hat
  have HSI : Hid (∀ W, Calls Tryd.prog 79 #[.int .i64 n] W (RetG (silG n, 0) W)) := fun W => silS_n ho.n1 ho.n5 ▸ rsilent_any n W
  have HPW := hide (fun i (hi : i ≤ l.length) => prod_wfL (word_take ho hi))
  have HC := hide (fun i (hi : i < l.length) W => rproduct_any _ _ (HPW.out i (by omega)) (ho.wf i hi).g W)
  have HPS := hide (fun i (hi : i < l.length) => prodL_succ n l hi)
  have HP0 : Hid (prodL n (l.take 0) = silG n) := rfl
  have HPL : Hid (prodL n (l.take l.length) = prodL n l) := by show _ = _; rw [List.take_length]
  obtain ⟨pg, hpg⟩ : ∃ pg : Nat → Gr, pg = fun i => prodL n (l.take i) := ⟨_, rfl⟩
  replace HC : Hid (∀ i (hi : i < l.length) W, Calls Tryd.prog 80 #[(pg i).v, (l.getD i default).g.v] W fun e w' => e = .returned (compG (pg i) (l.getD i default).g).v ∧ Ext W w') := by rw [hpg]; exact HC
  replace HPS : Hid (∀ i (hi : i < l.length), pg (i + 1) = compG (pg i) (l.getD i default).g) := by rw [hpg]; exact HPS
  replace HP0 : Hid (pg 0 = silG n) := by rw [hpg]; exact HP0
  replace HPL : Hid (pg l.length = prodL n l) := by rw [hpg]; exact HPL
  generalize prodL n l = res at HPL ⊢
  clear ho hpg HPW
  go_enter Tryd.func48, Tryd.ntmps48
  go_wp2_with fail
  have HB : Hid (GrBox (w.alloc gobj0) w.heap.size gz0) := gr_new w gz0
  have HE : Hid (Ext w (w.alloc gobj0)) := (Ext.refl w).alloc _
  generalize w.alloc gobj0 = W at HB HE ⊢
  refine (HSI.out _).mono ?_
  rintro e w2 ⟨rfl, hE⟩
  have HE := hide ((HE.out.trans hE).alloc (gobj (silG n)))
  have HB := hide (HB.out.ext hE)
  have hb4 := lt_of_heap HB.out
  have HB := hide (HB.out.alloc (gobj (silG n)))
  have HB7 : Hid (GrBox (w2.alloc (gobj (silG n))) w2.heap.size (silG n)) := gr_new w2 _
  clear hE
  go_upto_region 2 with fail
  change Code.wp _ _ _ _ (w2.alloc (gobj (silG n)))
  generalize w2.alloc (gobj (silG n)) = W2 at HE HB HB7 ⊢
  generalize w2.heap.size = b7 at HB7 hb4 ⊢
  rw [← HP0.out] at HB7
  go_wp2_with fail
  go_loopw [7] (fun x V => ∃ i : Nat, i ≤ l.length ∧ x = .int .i64 i ∧ Hid (Ext w V) ∧ Hid (GrBox V w.heap.size gz0) ∧ Hid (GrBox V b7 (pg i))) (fun x _ => l.length - (intOf x).toNat)
  case atStart => exact ⟨0, by omega, rfl, HE, HB, HB7⟩
  case round =>
    clear HE HB HB7
    obtain ⟨i, hi, rfl, HE, HB, HB7⟩ := hrel
    by_cases hlt : i < l.length
    · obtain ⟨b, o, rfl, hb, hat⟩ := HA.out (by omega)
      have hx := hat i hlt
      have HC2 := hide (HC.out i hlt)
      have HPN := hide (HPS.out i hlt)
      generalize l.getD i default = r at hx HC2 HPN
      have HX := hide hx
      clear hx hat
      generalize compG (pg i) r.g = q at HC2 HPN
      generalize pg i = g at HC2 HB7
      go_upto_region 5 with fail
      refine wp_region_heldB (fun V => Ext w V ∧ GrBox V b7 g) (fun j => j == 7) (by kernel_rfl) ?_
      intro W5 hW5
      have hED : Ext wr W5 := by rw [hW5]; exact (Ext.refl wr).drew
      clear hW5
      have hS5 : Ext w W5 ∧ GrBox W5 b7 g := ⟨HE.out.trans hED, HB7.out.ext hED⟩
      have HB := hide (HB.out.ext hED)
      clear hED HE HB7
      refine wpAnyT_takeB (i := 0) (.agg #[.int .i64 g.n, .int .i64 g.h0, .int .i64 g.h1, .int .i64 g.h2, .int .i64 g.h3, .int .i64 g.h4]) rfl (by kernel_rfl) (fun j hj => by
        obtain rfl : j = 7 := by simpa using hj
        kernel_rfl) (by kernel_rfl) (by kernel_rfl) (by simp [Region.wanted]) (fun V hV => by 
        obtain ⟨c0, c1, c2, c3, c4, c5, cz⟩ := hV.2.cells
        go_simp) hS5 ?_
      try simp only [Act.put, List.getElem_toArray, List.getElem_cons_zero, List.setIfInBounds_toArray, List.set_cons_zero, List.set_cons_succ]
      refine wpAnyT_takeB (i := 1) (.slice (some ⟨b, o, none⟩) l.length c) rfl (by kernel_rfl) (fun j hj => by
        obtain rfl : j = 7 := by simpa using hj
        kernel_rfl) (by kernel_rfl) (by kernel_rfl) (by simp [Region.wanted]) (fun V hV => by go_simp) hS5 ?_
      try simp only [Act.put, List.getElem_toArray, List.getElem_cons_zero, List.getElem_cons_succ, List.setIfInBounds_toArray, List.set_cons_zero, List.set_cons_succ]
      refine wpAnyT_takeB (i := 2) (.int .i64 (i : Nat)) rfl (by kernel_rfl) (fun j hj => by
        obtain rfl : j = 7 := by simpa using hj
        kernel_rfl) (by kernel_rfl) (by kernel_rfl) (by simp [Region.wanted]) (fun V hV => by go_simp) hS5 ?_
      try simp only [Act.put, List.getElem_toArray, List.getElem_cons_zero, List.getElem_cons_succ, List.setIfInBounds_toArray, List.set_cons_zero, List.set_cons_succ]
      refine wpAnyT_takeB (i := 3) (.pointer (some ⟨b, o + i * 7, none⟩)) rfl (by kernel_rfl) (fun j hj => by
        obtain rfl : j = 7 := by simpa using hj
        kernel_rfl) (by kernel_rfl) (by kernel_rfl) (by simp [Region.wanted]) (fun V hV => by go_simp) hS5 ?_
      try simp only [Act.put, List.getElem_toArray, List.getElem_cons_zero, List.getElem_cons_succ, List.setIfInBounds_toArray, List.set_cons_zero, List.set_cons_succ]
      refine wpAnyT_takeB (i := 4) (.pointer (some ⟨b, o + i * 7, none⟩)) rfl (by kernel_rfl) (fun j hj => by
        obtain rfl : j = 7 := by simpa using hj
        kernel_rfl) (by kernel_rfl) (by kernel_rfl) (by simp [Region.wanted]) (fun V hV => by go_simp) hS5 ?_
      try simp only [Act.put, List.getElem_toArray, List.getElem_cons_zero, List.getElem_cons_succ, List.setIfInBounds_toArray, List.set_cons_zero, List.set_cons_succ]
      refine wpAnyT_takeB (i := 5) (.agg #[.int .i64 r.g.n, .int .i64 r.g.h0, .int .i64 r.g.h1, .int .i64 r.g.h2, .int .i64 r.g.h3, .int .i64 r.g.h4]) rfl (by kernel_rfl) (fun j hj => by
        obtain rfl : j = 7 := by simpa using hj
        kernel_rfl) (by kernel_rfl) (by kernel_rfl) (by simp [Region.wanted]) (fun V hV => by 
        obtain ⟨x0, x1, x2, x3, x4, x5, x6⟩ := HX.out
        replace x0 := x0 _ hV.1
        replace x1 := x1 _ hV.1
        replace x2 := x2 _ hV.1
        replace x3 := x3 _ hV.1
        replace x4 := x4 _ hV.1
        replace x5 := x5 _ hV.1
        go_simp) hS5 ?_
      try simp only [Act.put, List.getElem_toArray, List.getElem_cons_zero, List.getElem_cons_succ, List.setIfInBounds_toArray, List.set_cons_zero, List.set_cons_succ]
      refine wpAnyT_oneB (i := 6) rfl (by kernel_rfl) (fun K hK => ?_)
      go_wp2_with fail
      refine (HC2.out _).mono ?_
      rintro e w6 ⟨rfl, hE⟩
      have hS6 : Ext w w6 ∧ GrBox w6 b7 g := ⟨hS5.1.trans hE, hS5.2.ext hE⟩
      have HB := hide (HB.out.ext hE)
      clear hE
      go_wp2_with fail
      refine ⟨rfl, hK _ _ (fun _ => hS6) ?_⟩
      clear hK K
      try simp only [Act.put, List.getElem_toArray, List.getElem_cons_zero, List.getElem_cons_succ, List.setIfInBounds_toArray, List.set_cons_zero, List.set_cons_succ]
      refine wpAnyT_oneB (i := 7) rfl (by kernel_rfl) (fun K hK => ?_)
      obtain ⟨d0, d1, d2, d3, d4, d5, dz⟩ := hS6.2.cells
      obtain ⟨f0, f1, f2, f3, f4, f5⟩ := hS6.2.frozen
      go_wp2_with fail
      change _ ∧ K _ (gstore w6 b7 q)
      refine ⟨rfl, hK _ _ (fun h => by cases h) ?_⟩
      clear hK K d0 d1 d2 d3 d4 d5 dz f0 f1 f2 f3 f4 f5
      have HE2 := hide (hS6.1.gstore (b := b7) (by omega) q)
      have HB2 : Hid (GrBox (gstore w6 b7 q) w.heap.size gz0) := HB.out.gstore_other (by omega)
      have HB72 : Hid (GrBox (gstore w6 b7 q) b7 (pg (i + 1))) := by show GrBox _ _ _; rw [HPN.out]; exact hS6.2.store q
      generalize gstore w6 b7 q = V at HE2 HB2 HB72 ⊢
      refine wpAnyT_done (by kernel_rfl) ?_ _
      clear hS5 hS6
      go_wp2_with fail
      go_roundw
      case rel => exact ⟨i + 1, by omega, by go_num, HE2, HB2, HB72⟩
      case measure => simp [intOf]; omega
    · obtain rfl : i = l.length := by omega
      rw [HPL.out] at HB7
      obtain ⟨c0, c1, c2, c3, c4, c5, cz⟩ := HB.out.cells
      obtain ⟨f0, f1, f2, f3, f4, f5⟩ := HB.out.frozen
      obtain ⟨d0, d1, d2, d3, d4, d5, dz⟩ := HB7.out.cells
      go_wp2_with fail
      exact bodyPost_ret (v := res.v) (results_gr rfl _ rfl (HB.out.store res)) rfl ⟨rfl, HE.out.gstore (by omega) res⟩
set_option maxHeartbeats 1000000 in
theorem rrdproduct_any (n : Int) (l : List Rd) (v : Value) (w : World) (hv : Row Rd.cells 7 w v l) : Calls Tryd.prog 20 #[.int .i64 n, v] w (RetG (productS n l) w) := by
  have HW := hide (fun W (hE : Ext w W) => rrword_any n l v W (hv.ext hE))
  have HV := hide hv
  obtain ⟨p, c, rfl, -⟩ := hv.rd_all
  clear hv
  unfold productS
  by_cases h0 : wordE n l = 0
  · obtain ⟨m, rfl, ho⟩ := word_of h0
    rw [if_neg (fun k => k h0), Int.toNat_natCast]
    rw [h0] at HW
    have HAL := hide (fun W (hE : Ext w W) => rall_ok m l ho _ W (HV.out.ext hE))
    generalize prodL m l = res at HAL ⊢
    clear h0 ho
    go_enter Tryd.func20, Tryd.ntmps20
    go_wp2_with fail
    have HB : Hid (GrBox (w.alloc gobj0) w.heap.size gz0) := gr_new w gz0
    have HE : Hid (Ext w (w.alloc gobj0)) := (Ext.refl w).alloc _
    generalize w.alloc gobj0 = W at HB HE ⊢
    refine (HW.out _ HE.out).mono ?_
    rintro e w1 ⟨rfl, hE⟩
    have HE := hide (HE.out.trans hE)
    have HB := hide (HB.out.ext hE)
    clear hE
    go_wp2_with fail
    refine (HAL.out _ HE.out).mono ?_
    rintro e w2 ⟨rfl, hE⟩
    have HE := hide (HE.out.trans hE)
    have HB := hide (HB.out.ext hE)
    clear hE
    obtain ⟨c0, c1, c2, c3, c4, c5, cz⟩ := HB.out.cells
    obtain ⟨f0, f1, f2, f3, f4, f5⟩ := HB.out.frozen
    go_wp2_with fail
    exact bodyPost_ret (v := .tuple #[res.v, .int .i64 0]) (results_gr2 rfl _ rfl rfl (HB.out.store res)) rfl ⟨rfl, HE.out.gstore (by omega) res⟩
  · rw [if_pos h0]
    have hd : (wordE n l != 0) = true := by simp [h0]
    have H0 := hide h0
    clear h0
    generalize wordE n l = x at *
    go_enter Tryd.func20, Tryd.ntmps20
    go_wp2_with fail
    have HB : Hid (GrBox (w.alloc gobj0) w.heap.size gz0) := gr_new w gz0
    have HE : Hid (Ext w (w.alloc gobj0)) := (Ext.refl w).alloc _
    generalize w.alloc gobj0 = W at HB HE ⊢
    refine (HW.out _ HE.out).mono ?_
    rintro e w1 ⟨rfl, hE⟩
    have HE := hide (HE.out.trans hE)
    have HB := hide (HB.out.ext hE)
    clear hE
    obtain ⟨c0, c1, c2, c3, c4, c5, cz⟩ := HB.out.cells
    obtain ⟨f0, f1, f2, f3, f4, f5⟩ := HB.out.frozen
    go_wp2_with fail
    exact bodyPost_ret (v := .tuple #[gz0.v, .int .i64 x]) (results_gr2 rfl _ rfl rfl (HB.out.store gz0)) rfl ⟨rfl, HE.out.gstore (by omega) gz0⟩
end Go.Proofs.YtfnhjalnbmnlaaaDoor
