/-
  The program's truth of a condition (expr.Eval, Truth).
  Conditions: as each theorem states.
-/
import Derived.Test.YthpccmmdkbjjhaaDoorExValP
import Derived.Test.YthpccmmdkbjjhaaDoorIdxInt
namespace Go.Proofs.YthpccmmdkbjjhaaDoor
open Go.RowKit

theorem wide_any (x : Int) (W : World) : Calls Tryd.prog 107 #[.int .i64 x] W fun e w' => e = .returned (.bool (!smallB x)) ∧ w' = W := by
  have HS := hide (small_any x)
  generalize smallB x = b at HS ⊢
  go_enter Tryd.func107, Tryd.ntmps107
  go_wp2_with fail
  refine (HS.out _).mono ?_
  rintro e w1 ⟨rfl, rfl⟩
  go_wp2_with fail
  go_ret
  exact ⟨rfl, rfl⟩
theorem nowide {l : List Int} (h : ∀ x ∈ l, -1048576 ≤ x ∧ x ≤ 1048576) : (l.any fun x => !smallB x) = false := by
  rw [List.any_eq_false]
  intro x hx
  have := h x hx
  unfold smallB
  rw [decide_eq_true this.1, decide_eq_true this.2]
  simp

set_option maxRecDepth 8000 in
set_option maxHeartbeats 1000000 in
theorem peval_any (s : Sc) (hs : s.ok) (e : Ex) (v u : Value) (w : World) (hT : Tab w) (hv : ExAt w v e) (hn : e.nodes ≤ 100000) (hu : ScAt w u s []) :
    Calls Tryd.prog 77 #[v, u] w fun e' w' => e' = .returned (.tuple #[.int .i64 (if exchk e 0 = 0 then valE s e [] else 0), .int .i64 (exchk e 0)]) ∧ Ext w w' := by
  have HC := hide (fun V (hV : Ext w V) => pexcheck_any e 0 v V (hT.ext hV) (hv.ext hV) hn)
  have HEE := hide (fun V (hV : Ext w V) => evaluator_any s [] u V (hu.ext hV))
  have HVA := hide (fun g V vv (hV : Ext w V) hg h1 h2 h3 => pvalue_any s hs g e [] v vv V hg (hv.ext hV) h1 (by simp) h2 h3)
  obtain ⟨p, c, rfl, hc, hl⟩ := hv.form
  obtain ⟨si, so, sv, rfl, hi, ho, hvv⟩ := hu
  have hnw1 := nowide hs.2.2.1
  have hnw2 := nowide hs.2.2.2.1
  have hi1 := fun V (hV : Ext w V) => contains_wide (fun x => !smallB x) wide_any _ _ V (hi.ext hV)
  have ho1 := fun V (hV : Ext w V) => contains_wide (fun x => !smallB x) wide_any _ _ V (ho.ext hV)
  have hv1 := fun V (hV : Ext w V) => contains_wide (fun x => !smallB x) wide_any _ _ V (hvv.ext hV)
  simp only [hnw1] at hi1
  simp only [hnw2] at ho1
  simp only [List.any_nil] at hv1
  have HI := hide hi1
  have HO := hide ho1
  have HVV := hide hv1
  have HVR := hide hvv
  obtain ⟨qi, ci, rfl, -⟩ := hi.int_all
  obtain ⟨qo, co, rfl, -⟩ := ho.int_all
  obtain ⟨qv, cv, rfl, -⟩ := hvv.int_all
  have s1 := hs.1
  have s2 := hs.2.1
  clear hv hi ho hvv hs hi1 ho1 hv1 hnw1 hnw2 hT
  obtain ⟨w2, hw2⟩ : ∃ w2, (w.alloc (.cells #[.int .i64 e.op, .int .i64 e.num, .slice p e.args.length c] 26)).alloc (.cells #[.int .i64 s.n, .slice qi s.inp.length ci, .slice qo s.out.length co, .int .i64 s.h.h0, .int .i64 s.h.h1, .int .i64 s.h.h2, .int .i64 s.h.h3, .int .i64 s.h.h4, .slice qv 0 cv] 80) = w2 := ⟨_, rfl⟩
  have hE0 : Ext w w2 := by rw [← hw2]; exact ((Ext.refl w).alloc _).alloc _
  have HBX := hide (fun V (hE : Ext w2 V) => xbox3 (g := w.heap.size) (V := V) (by rw [← hw2]; exact (Below.heap_alloc _ _ _ (by simp)).trans (heap_alloc_new w _)) hE)
  have HBS := hide (fun V (hE : Ext w2 V) => sbox9 (g := w.heap.size + 1) (V := V) (by rw [← hw2]; have := heap_alloc_new (w.alloc (.cells #[.int .i64 e.op, .int .i64 e.num, .slice p e.args.length c] 26)) (.cells #[.int .i64 s.n, .slice qi s.inp.length ci, .slice qo s.out.length co, .int .i64 s.h.h0, .int .i64 s.h.h1, .int .i64 s.h.h2, .int .i64 s.h.h3, .int .i64 s.h.h4, .slice qv 0 cv] 80); rwa [World.size_alloc] at this) hE)
  have HW2 := hide hw2
  clear hw2
  by_cases hz : exchk e 0 = 0
  · rw [if_pos hz]
    obtain ⟨hz1, hz2⟩ := exchk_zero (n := 0) hz
    have hva := fun g V vv hV hg h1 => HVA.out g V vv hV hg h1 (by simp; omega) hz2
    have HV2 := hide hva
    rw [hz] at HC ⊢
    clear hva HVA hz2 hz
    generalize valE s e [] = ev at HV2 ⊢
    go_enter Tryd.func77, Tryd.ntmps77
    go_wp2_with fail
    rw [HW2.out]
    refine (HC.out _ hE0).mono ?_
    rintro e' w3 ⟨rfl, hE3⟩
    obtain ⟨c0, c1, c2, hz⟩ := HBX.out _ hE3
    obtain ⟨d0, d1, d2, d3, d4, d5, d6, d7, d8, hzs⟩ := HBS.out _ hE3
    go_wp2_with fail
    refine (HI.out _ (hE0.trans hE3)).mono ?_
    rintro e' w4 ⟨rfl, hE4⟩
    have hE4 := hE3.trans hE4
    clear c0 c1 c2 hz d0 d1 d2 d3 d4 d5 d6 d7 d8 hzs
    obtain ⟨c0, c1, c2, hz⟩ := HBX.out _ hE4
    obtain ⟨d0, d1, d2, d3, d4, d5, d6, d7, d8, hzs⟩ := HBS.out _ hE4
    go_wp2_with fail
    refine (HO.out _ (hE0.trans hE4)).mono ?_
    rintro e' w5 ⟨rfl, hE5⟩
    have hE5 := hE4.trans hE5
    clear c0 c1 c2 hz d0 d1 d2 d3 d4 d5 d6 d7 d8 hzs
    obtain ⟨c0, c1, c2, hz⟩ := HBX.out _ hE5
    obtain ⟨d0, d1, d2, d3, d4, d5, d6, d7, d8, hzs⟩ := HBS.out _ hE5
    go_wp2_with fail
    refine (HVV.out _ (hE0.trans hE5)).mono ?_
    rintro e' w6 ⟨rfl, hE6⟩
    have hE6 := hE5.trans hE6
    clear c0 c1 c2 hz d0 d1 d2 d3 d4 d5 d6 d7 d8 hzs
    go_wp2_with fail
    refine wp_region_heldAll (fun V => Ext w6 V) (by kernel_rfl) ?_
    intro W2 hW2
    have hR2 : Ext w6 W2 := by rw [hW2]; exact (Ext.refl w6).drew
    clear hW2
    have HBX6 := hide (fun V (hV : Ext w6 V) => HBX.out V (hE6.trans hV))
    have HBS6 := hide (fun V (hV : Ext w6 V) => HBS.out V (hE6.trans hV))
    refine wpAnyT_take (i := 0) (.agg #[.int .i64 s.n, .slice qi s.inp.length ci, .slice qo s.out.length co, .int .i64 s.h.h0, .int .i64 s.h.h1, .int .i64 s.h.h2, .int .i64 s.h.h3, .int .i64 s.h.h4, .slice qv 0 cv]) rfl (by kernel_rfl) (by kernel_rfl) (by kernel_rfl) (by simp [Region.wanted]) (fun V hV => by
      obtain ⟨d0, d1, d2, d3, d4, d5, d6, d7, d8, -⟩ := HBS6.out V hV
      go_simp) hR2 ?_
    refine wpAnyT_take (i := 2) (.agg #[.int .i64 e.op, .int .i64 e.num, .slice p e.args.length c]) rfl (by kernel_rfl) (by kernel_rfl) (by kernel_rfl) (by simp [Region.wanted]) (fun V hV => by
      obtain ⟨c0, c1, c2, -⟩ := HBX6.out V hV
      go_simp) hR2 ?_
    refine wpAnyT_take (i := 3) (.pointer (some ⟨w.heap.size + 1, 8, none⟩)) rfl (by kernel_rfl) (by kernel_rfl) (by kernel_rfl) (by simp [Region.wanted]) (fun V hV => by go_simp) hR2 ?_
    refine wpAnyT_take (i := 4) (.slice qv 0 cv) rfl (by kernel_rfl) (by kernel_rfl) (by kernel_rfl) (by simp [Region.wanted]) (fun V hV => by
      obtain ⟨d0, d1, d2, d3, d4, d5, d6, d7, d8, -⟩ := HBS6.out V hV
      go_simp) hR2 ?_
    try simp only [Act.put, List.getElem_toArray, List.getElem_cons_zero, List.getElem_cons_succ, List.setIfInBounds_toArray, List.set_cons_zero, List.set_cons_succ]
    refine wpAnyT_one (i := 1) rfl (by kernel_rfl) (fun K hK => ?_)
    go_wp2_with fail
    refine (HEE.out W2 ((hE0.trans hE6).trans hR2)).mono ?_
    rintro e' w7 ⟨rfl, hE7, hEV⟩
    have hR7 := hR2.trans hE7
    go_wp2_with fail
    refine ⟨rfl, hK _ _ hR7 ?_⟩
    clear hK K
    generalize W2.heap.size = g at hEV ⊢
    try simp only [Act.put, List.getElem_toArray, List.getElem_cons_zero, List.getElem_cons_succ, List.setIfInBounds_toArray, List.set_cons_zero, List.set_cons_succ]
    refine wpAnyT_one (i := 5) rfl (by kernel_rfl) (fun K hK => ?_)
    go_wp2_with fail
    refine (HV2.out g w7 _ ((hE0.trans hE6).trans hR7) hEV (HVR.out.ext ((hE0.trans hE6).trans hR7))).mono ?_
    rintro e' w8 ⟨rfl, hE8⟩
    have hR8 := hR7.trans hE8
    go_wp2_with fail
    refine ⟨rfl, hK _ _ hR8 ?_⟩
    clear hK K
    refine wpAnyT_take (i := 6) (.int .i64 ev) rfl (by kernel_rfl) (by kernel_rfl) (by kernel_rfl) (by simp [Region.wanted]) (fun V hV => by go_simp) hR8 ?_
    refine wpAnyT_take (i := 7) (.int .i64 0) rfl (by kernel_rfl) (by kernel_rfl) (by kernel_rfl) (by simp [Region.wanted]) (fun V hV => by go_simp) hR8 ?_
    try simp only [Act.put, List.getElem_toArray, List.getElem_cons_zero, List.getElem_cons_succ, List.setIfInBounds_toArray, List.set_cons_zero, List.set_cons_succ]
    refine wpAnyT_done (by kernel_rfl) ?_ _
    go_wp2_with fail
    go_ret2
    exact ⟨rfl, (hE0.trans hE6).trans hR8⟩
  · rw [if_neg hz]
    have hd : (exchk e 0 != 0) = true := by simp [hz]
    clear hz HVA
    generalize exchk e 0 = k at HC hd ⊢
    go_enter Tryd.func77, Tryd.ntmps77
    go_wp2_with fail
    rw [HW2.out]
    refine (HC.out _ hE0).mono ?_
    rintro e' w3 ⟨rfl, hE3⟩
    go_wp2_with fail
    go_ret2
    exact ⟨rfl, hE0.trans hE3⟩

set_option maxHeartbeats 1000000 in
theorem ptruth_ex (s : Sc) (hs : s.ok) (e : Ex) (v u : Value) (w : World) (hT : Tab w) (hv : ExAt w v e) (hn : e.nodes ≤ 100000) (hu : ScAt w u s []) :
    Calls Tryd.prog 37 #[v, u] w fun e' w' => e' = .returned (.bool (truthB s e)) ∧ Ext w w' := by
  have HE := hide (fun W (hW : Ext w W) => peval_any s hs e v u W (hT.ext hW) (hv.ext hW) hn (hu.ext hW))
  have HTB := hide (fun W (hW : Ext w W) => hT.ext hW)
  obtain ⟨p, c, rfl, hc, hl⟩ := hv.form
  obtain ⟨si, so, sv, rfl, hi, ho, hvv⟩ := hu
  obtain ⟨qi, ci, rfl, -⟩ := hi.int_all
  obtain ⟨qo, co, rfl, -⟩ := ho.int_all
  obtain ⟨qv, cv, rfl, -⟩ := hvv.int_all
  clear hv hi ho hvv hs hn hT
  obtain ⟨w2, hw2⟩ : ∃ w2, (w.alloc (.cells #[.int .i64 e.op, .int .i64 e.num, .slice p e.args.length c] 26)).alloc (.cells #[.int .i64 s.n, .slice qi s.inp.length ci, .slice qo s.out.length co, .int .i64 s.h.h0, .int .i64 s.h.h1, .int .i64 s.h.h2, .int .i64 s.h.h3, .int .i64 s.h.h4, .slice qv 0 cv] 80) = w2 := ⟨_, rfl⟩
  have hE0 : Ext w w2 := by rw [← hw2]; exact ((Ext.refl w).alloc _).alloc _
  have HBX := hide (fun V (hE : Ext w2 V) => xbox3 (g := w.heap.size) (V := V) (by rw [← hw2]; exact (Below.heap_alloc _ _ _ (by simp)).trans (heap_alloc_new w _)) hE)
  have HW2 := hide hw2
  clear hw2
  unfold truthB
  by_cases hz : exchk e 0 = 0
  · have hop : 0 ≤ e.op ∧ e.op < 16 := by
      have h1 := (exchk_zero (n := 0) hz).2
      obtain ⟨o, n, xs⟩ := e
      have := nodesE_zero h1
      exact ⟨this.1, by have := this.2.1; show o < 16; omega⟩
    have HTG := hide (fun W (hW : Ext w W) => (HTB.out W hW).get hop.1 hop.2)
    have hz' := hz
    simp only [hz, if_true] at HE
    rw [decide_eq_true hz', Bool.true_and]
    clear hz hz'
    generalize valE s e [] = ev at HE ⊢
    generalize hke : kindOf e.op = kd at HTG ⊢
    have HKE := hide hke
    clear hke
    generalize hoe : e.op = op at *
    obtain ⟨m, hm, -, -⟩ := HTG.out w (Ext.refl w)
    subst hm
    by_cases hk : kd = 1
    · subst hk
      by_cases hv1 : ev = 1
      · subst hv1
        go_enter Tryd.func37, Tryd.ntmps37
        go_wp2_with fail
        rw [HW2.out]
        refine (HE.out _ hE0).mono ?_
        rintro e' w3 ⟨rfl, hE3⟩
        obtain ⟨c0, c1, c2, hz⟩ := HBX.out _ hE3
        obtain ⟨m', hm', hm16, t0, -, -⟩ := HTG.out w3 (hE0.trans hE3)
        obtain rfl : m' = m := by omega
        have hz0 := (HTB.out w3 (hE0.trans hE3)).1
        clear hm'
        go_wp2_with fail
        go_ret
        exact ⟨rfl, hE0.trans hE3⟩
      · have hd : (ev == 1) = false := by simp [hv1]
        rw [decide_eq_false hv1]
        clear hv1
        go_enter Tryd.func37, Tryd.ntmps37
        go_wp2_with fail
        rw [HW2.out]
        refine (HE.out _ hE0).mono ?_
        rintro e' w3 ⟨rfl, hE3⟩
        obtain ⟨c0, c1, c2, hz⟩ := HBX.out _ hE3
        obtain ⟨m', hm', hm16, t0, -, -⟩ := HTG.out w3 (hE0.trans hE3)
        obtain rfl : m' = m := by omega
        have hz0 := (HTB.out w3 (hE0.trans hE3)).1
        clear hm'
        go_wp2_with fail
        go_ret
        exact ⟨rfl, hE0.trans hE3⟩
    · have hd : (kd == 1) = false := by simp [hk]
      rw [decide_eq_false hk, Bool.false_and]
      clear hk
      go_enter Tryd.func37, Tryd.ntmps37
      go_wp2_with fail
      rw [HW2.out]
      refine (HE.out _ hE0).mono ?_
      rintro e' w3 ⟨rfl, hE3⟩
      obtain ⟨c0, c1, c2, hz⟩ := HBX.out _ hE3
      obtain ⟨m', hm', hm16, t0, -, -⟩ := HTG.out w3 (hE0.trans hE3)
      obtain rfl : m' = m := by omega
      have hz0 := (HTB.out w3 (hE0.trans hE3)).1
      clear hm'
      go_wp2_with fail
      go_ret
      exact ⟨rfl, hE0.trans hE3⟩
  · have hd : (exchk e 0 == 0) = false := by simp [hz]
    rw [decide_eq_false hz, Bool.false_and, Bool.false_and]
    simp only [hz, if_false] at HE
    clear hz
    generalize exchk e 0 = k at HE hd
    go_enter Tryd.func37, Tryd.ntmps37
    go_wp2_with fail
    rw [HW2.out]
    refine (HE.out _ hE0).mono ?_
    rintro e' w3 ⟨rfl, hE3⟩
    go_wp2_with fail
    go_ret
    exact ⟨rfl, hE0.trans hE3⟩
end Go.Proofs.YthpccmmdkbjjhaaDoor
