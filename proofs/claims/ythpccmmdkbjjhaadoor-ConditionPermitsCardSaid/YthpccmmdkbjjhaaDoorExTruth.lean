/-
  The reference's truth of a condition (roundtableref07.ranged, Eval, Truth).
  Conditions: as each theorem states.
-/
import Derived.Test.YthpccmmdkbjjhaaDoorExRef3
namespace Go.Proofs.YthpccmmdkbjjhaaDoor
open Go.RowKit

set_option maxHeartbeats 1000000 in
theorem rranged_any (l : List Int) (v : Value) (w : World) (hl : Row icells 1 w v l) (hr : ∀ x ∈ l, -1048576 ≤ x ∧ x ≤ 1048576) :
    Calls Tryd.prog 119 #[v] w fun e' w' => e' = .returned (.bool true) ∧ Ext w w' := by
  obtain ⟨q, c, rfl, hc, hlen, hat⟩ := hl.int_all
  have HAT := hide hat
  have HRG := hide (fun i (hi : i < l.length) => hr (l.getD i 0) (by rw [List.getD_eq_getElem?_getD, List.getElem?_eq_getElem hi]; exact List.getElem_mem hi))
  clear hl hat hr
  go_enter Tryd.func119, Tryd.ntmps119
  go_wp2_with fail
  go_loopw [3] (fun x V => ∃ i : Nat, i ≤ l.length ∧ x = .int .i64 i ∧ Ext w V) (fun x _ => l.length - (intOf x).toNat)
  case atStart => exact ⟨0, by omega, rfl, Ext.refl _⟩
  case round =>
    obtain ⟨i, hi, rfl, hE⟩ := hrel
    by_cases hlt : i < l.length
    · obtain ⟨b, o, rfl, hb, hcell⟩ := HAT.out (by omega)
      have hc0 := hcell i hlt _ hE
      have hr0 := HRG.out i hlt
      clear hcell
      generalize l.getD i 0 = x at hc0 hr0
      obtain ⟨hr1, hr2⟩ := hr0
      go_wp2_with fail
      go_roundw
      case rel => exact ⟨i + 1, by omega, by go_num, hE⟩
      case measure => simp [intOf]; omega
    · obtain rfl : i = l.length := by omega
      go_wp2_with fail
      go_ret
      exact ⟨rfl, hE⟩

/-- Whether a condition without variables holds in a scene. -/
def truthB (s : Sc) (e : Ex) : Bool := decide (exchk e 0 = 0) && decide (kindOf e.op = 1) && decide (valE s e [] = 1)
theorem exchk_zero {e : Ex} {n : Nat} (h : exchk e n = 0) : e.nodes ≤ 128 ∧ nodesE e n = 0 := by
  unfold exchk at h
  split at h
  · omega
  · split at h
    · omega
    · split at h
      · omega
      · exact ⟨by omega, h⟩

set_option maxHeartbeats 1000000 in
theorem rtruth_ex (s : Sc) (hs : s.ok) (e : Ex) (v u : Value) (w : World) (hv : ExAt w v e) (hn : e.nodes ≤ 100000) (hu : ScAt w u s []) :
    Calls Tryd.prog 68 #[v, u] w fun e' w' => e' = .returned (.bool (truthB s e)) ∧ Ext w w' := by
  have key : ∀ W (hW : Ext w W), Calls Tryd.prog 99 #[v, u] W fun e' w' => e' = .returned (.tuple #[.int .i64 (if exchk e 0 = 0 then valE s e [] else 0), .int .i64 (exchk e 0)]) ∧ Ext W w' := by
    intro W hW
    have HC := hide (fun V (hV : Ext W V) => rexcheck_any e 0 v V ((hv.ext hW).ext hV) hn)
    have HVA := hide (fun V (hV : Ext W V) h1 h2 => rvalue_any s hs e [] v u V ((hv.ext hW).ext hV) ((hu.ext hW).ext hV) (by simp) h1 h2)
    obtain ⟨p, c, rfl, hc, hl⟩ := hv.form
    obtain ⟨si, so, sv, rfl, hi, ho, hvv⟩ := hu
    have HI := hide (fun V (hV : Ext W V) => rranged_any _ _ V ((hi.ext hW).ext hV) hs.2.2.1)
    have HO := hide (fun V (hV : Ext W V) => rranged_any _ _ V ((ho.ext hW).ext hV) hs.2.2.2.1)
    have HVV := hide (fun V (hV : Ext W V) => rranged_any _ _ V ((hvv.ext hW).ext hV) (by simp))
    obtain ⟨qi, ci, rfl, -⟩ := hi.int_all
    obtain ⟨qo, co, rfl, -⟩ := ho.int_all
    obtain ⟨qv, cv, rfl, -⟩ := hvv.int_all
    have s1 := hs.1
    have s2 := hs.2.1
    clear hv hi ho hvv hs
    obtain ⟨w2, hw2⟩ : ∃ w2, (W.alloc (.cells #[.int .i64 e.op, .int .i64 e.num, .slice p e.args.length c] 26)).alloc (.cells #[.int .i64 s.n, .slice qi s.inp.length ci, .slice qo s.out.length co, .int .i64 s.h.h0, .int .i64 s.h.h1, .int .i64 s.h.h2, .int .i64 s.h.h3, .int .i64 s.h.h4, .slice qv 0 cv] 107) = w2 := ⟨_, rfl⟩
    have hE0 : Ext W w2 := by rw [← hw2]; exact ((Ext.refl W).alloc _).alloc _
    have HBX := hide (fun V (hE : Ext w2 V) => xbox3 (g := W.heap.size) (V := V) (by rw [← hw2]; exact (Below.heap_alloc _ _ _ (by simp)).trans (heap_alloc_new W _)) hE)
    have HBS := hide (fun V (hE : Ext w2 V) => sbox9 (g := W.heap.size + 1) (V := V) (by rw [← hw2]; have := heap_alloc_new (W.alloc (.cells #[.int .i64 e.op, .int .i64 e.num, .slice p e.args.length c] 26)) (.cells #[.int .i64 s.n, .slice qi s.inp.length ci, .slice qo s.out.length co, .int .i64 s.h.h0, .int .i64 s.h.h1, .int .i64 s.h.h2, .int .i64 s.h.h3, .int .i64 s.h.h4, .slice qv 0 cv] 107); rwa [World.size_alloc] at this) hE)
    have HW2 := hide hw2
    clear hw2
    by_cases hz : exchk e 0 = 0
    · rw [if_pos hz]
      obtain ⟨hz1, hz2⟩ := exchk_zero (n := 0) hz
      have hva := fun V hV => HVA.out V hV (by simp; omega) hz2
      have HV2 := hide hva
      rw [hz] at HC ⊢
      clear hva HVA hz2 hz
      generalize valE s e [] = ev at HV2 ⊢
      go_enter Tryd.func99, Tryd.ntmps99
      go_wp2_with fail
      rw [HW2.out]
      refine (HC.out _ hE0).mono ?_
      rintro e' w3 ⟨rfl, hE3⟩
      obtain ⟨c0, c1, c2, hz⟩ := HBX.out _ hE3
      obtain ⟨d0, d1, d2, d3, d4, d5, d6, d7, d8, hzs⟩ := HBS.out _ hE3
      go_wp2_with fail
      refine (HI.out _ (hE0.trans hE3)).mono ?_
      rintro e' w4 ⟨rfl, hE4⟩
      have hE4 := hE3.trans hE4
      clear c0 c1 c2 hz d0 d1 d2 d3 d4 d5 d6 d7 d8 hzs
      obtain ⟨c0, c1, c2, hz⟩ := HBX.out _ hE4
      obtain ⟨d0, d1, d2, d3, d4, d5, d6, d7, d8, hzs⟩ := HBS.out _ hE4
      go_wp2_with fail
      refine (HO.out _ (hE0.trans hE4)).mono ?_
      rintro e' w5 ⟨rfl, hE5⟩
      have hE5 := hE4.trans hE5
      clear c0 c1 c2 hz d0 d1 d2 d3 d4 d5 d6 d7 d8 hzs
      obtain ⟨c0, c1, c2, hz⟩ := HBX.out _ hE5
      obtain ⟨d0, d1, d2, d3, d4, d5, d6, d7, d8, hzs⟩ := HBS.out _ hE5
      go_wp2_with fail
      refine (HVV.out _ (hE0.trans hE5)).mono ?_
      rintro e' w6 ⟨rfl, hE6⟩
      have hE6 := hE5.trans hE6
      clear c0 c1 c2 hz d0 d1 d2 d3 d4 d5 d6 d7 d8 hzs
      obtain ⟨c0, c1, c2, hz⟩ := HBX.out _ hE6
      obtain ⟨d0, d1, d2, d3, d4, d5, d6, d7, d8, hzs⟩ := HBS.out _ hE6
      go_wp2_with fail
      refine (HV2.out _ (hE0.trans hE6)).mono ?_
      rintro e' w7 ⟨rfl, hE7⟩
      go_wp2_with fail
      go_ret2
      exact ⟨rfl, hE0.trans (hE6.trans hE7)⟩
    · rw [if_neg hz]
      have hd : (exchk e 0 != 0) = true := by simp [hz]
      clear hz HVA
      generalize exchk e 0 = k at HC hd ⊢
      go_enter Tryd.func99, Tryd.ntmps99
      go_wp2_with fail
      rw [HW2.out]
      refine (HC.out _ hE0).mono ?_
      rintro e' w3 ⟨rfl, hE3⟩
      go_wp2_with fail
      go_ret2
      exact ⟨rfl, hE0.trans hE3⟩
  have HE := hide key
  clear key
  obtain ⟨p, c, rfl, hc, hl⟩ := hv.form
  obtain ⟨si, so, sv, rfl, hi, ho, hvv⟩ := hu
  obtain ⟨qi, ci, rfl, -⟩ := hi.int_all
  obtain ⟨qo, co, rfl, -⟩ := ho.int_all
  obtain ⟨qv, cv, rfl, -⟩ := hvv.int_all
  clear hv hi ho hvv hs hn
  obtain ⟨w2, hw2⟩ : ∃ w2, (w.alloc (.cells #[.int .i64 e.op, .int .i64 e.num, .slice p e.args.length c] 26)).alloc (.cells #[.int .i64 s.n, .slice qi s.inp.length ci, .slice qo s.out.length co, .int .i64 s.h.h0, .int .i64 s.h.h1, .int .i64 s.h.h2, .int .i64 s.h.h3, .int .i64 s.h.h4, .slice qv 0 cv] 107) = w2 := ⟨_, rfl⟩
  have hE0 : Ext w w2 := by rw [← hw2]; exact ((Ext.refl w).alloc _).alloc _
  have HBX := hide (fun V (hE : Ext w2 V) => xbox3 (g := w.heap.size) (V := V) (by rw [← hw2]; exact (Below.heap_alloc _ _ _ (by simp)).trans (heap_alloc_new w _)) hE)
  have HK := hide (rkindof_any e.op)
  have HW2 := hide hw2
  clear hw2
  unfold truthB
  by_cases hz : exchk e 0 = 0
  · have hz' := hz
    simp only [hz, if_true] at HE
    rw [decide_eq_true hz', Bool.true_and]
    clear hz hz'
    generalize valE s e [] = ev at HE ⊢
    generalize kindOf e.op = kd at HK ⊢
    by_cases hk : kd = 1
    · subst hk
      by_cases hv1 : ev = 1
      · subst hv1
        go_enter Tryd.func68, Tryd.ntmps68
        go_wp2_with fail
        rw [HW2.out]
        refine (HE.out _ hE0).mono ?_
        rintro e' w3 ⟨rfl, hE3⟩
        obtain ⟨c0, c1, c2, hz⟩ := HBX.out _ hE3
        go_wp2_with fail
        refine (HK.out _).mono ?_
        rintro e' w4 ⟨rfl, hw4⟩
        have hE4 : Ext w2 w4 := by rw [hw4]; exact hE3
        clear hw4
        go_wp2_with fail
        go_ret
        exact ⟨rfl, hE0.trans hE4⟩
      · have hd : (ev == 1) = false := by simp [hv1]
        rw [decide_eq_false hv1]
        clear hv1
        go_enter Tryd.func68, Tryd.ntmps68
        go_wp2_with fail
        rw [HW2.out]
        refine (HE.out _ hE0).mono ?_
        rintro e' w3 ⟨rfl, hE3⟩
        obtain ⟨c0, c1, c2, hz⟩ := HBX.out _ hE3
        go_wp2_with fail
        refine (HK.out _).mono ?_
        rintro e' w4 ⟨rfl, hw4⟩
        have hE4 : Ext w2 w4 := by rw [hw4]; exact hE3
        clear hw4
        go_wp2_with fail
        go_ret
        exact ⟨rfl, hE0.trans hE4⟩
    · have hd : (kd == 1) = false := by simp [hk]
      rw [decide_eq_false hk, Bool.false_and]
      clear hk
      go_enter Tryd.func68, Tryd.ntmps68
      go_wp2_with fail
      rw [HW2.out]
      refine (HE.out _ hE0).mono ?_
      rintro e' w3 ⟨rfl, hE3⟩
      obtain ⟨c0, c1, c2, hz⟩ := HBX.out _ hE3
      go_wp2_with fail
      refine (HK.out _).mono ?_
      rintro e' w4 ⟨rfl, hw4⟩
      have hE4 : Ext w2 w4 := by rw [hw4]; exact hE3
      clear hw4
      go_wp2_with fail
      go_ret
      exact ⟨rfl, hE0.trans hE4⟩
  · have hd : (exchk e 0 == 0) = false := by simp [hz]
    rw [decide_eq_false hz, Bool.false_and, Bool.false_and]
    simp only [hz, if_false] at HE
    clear hz
    generalize exchk e 0 = k at HE hd
    go_enter Tryd.func68, Tryd.ntmps68
    go_wp2_with fail
    rw [HW2.out]
    refine (HE.out _ hE0).mono ?_
    rintro e' w3 ⟨rfl, hE3⟩
    go_wp2_with fail
    go_ret
    exact ⟨rfl, hE0.trans hE3⟩
end Go.Proofs.YthpccmmdkbjjhaaDoor
