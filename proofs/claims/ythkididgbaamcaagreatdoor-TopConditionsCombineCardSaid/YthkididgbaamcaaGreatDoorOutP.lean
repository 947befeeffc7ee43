/-
  The program's Outputs (condition).
  Conditions: as each theorem states.
-/
import Derived.Test.YthkididgbaamcaaGreatDoorChoose
namespace Go.Proofs.YthkididgbaamcaaGreatDoor
open Go.RowKit

def holdIn (n : Nat) (e : Ex) (l : List Int) : Bool := holdsB ⟨n, l, [], gz⟩ e
def holdOut (n : Nat) (li : List Int) (e : Ex) (l : List Int) : Bool := holdsB ⟨n, li, l, gz⟩ e
/-- What Inputs returns. -/
def inpS (n m : Int) (e : Ex) : List (List Int) × Int :=
  if sizesS n [m] ≠ 0 then ([], sizesS n [m]) else if givenS e 1 ≠ 0 then ([], givenS e 1) else ((vecs m.toNat n.toNat).filter (holdIn n.toNat e), 0)
/-- So few vectors that all may be returned. -/
def fewV (n m : Int) : Prop := 1 ≤ n → n ≤ 5 → 1 ≤ m → m ≤ 8 → m.toNat ^ n.toNat ≤ 1024
theorem dig_ok {n m : Nat} (hn1 : 1 ≤ n) (hn5 : n ≤ 5) (hm1 : 1 ≤ m) (hm8 : m ≤ 8) (i : Nat) : Sc.ok ⟨n, dig m n i, [], gz⟩ := by
  refine ⟨hn1, hn5, fun x hx => ?_, fun x hx => (by cases hx), fun k hk => ?_⟩
  · have := dig_bd m (by omega) n i x hx; omega
  · obtain rfl | rfl | rfl | rfl | rfl : k = 0 ∨ k = 1 ∨ k = 2 ∨ k = 3 ∨ k = 4 := by omega
    all_goals simp [Gr.h]
theorem row_one (w : World) (x : Int) : Row icells 1 (w.alloc (.cells #[.int .i64 x] 3)) (.slice (some ⟨w.heap.size, 0, none⟩) 1 1) [x] := by
  refine ⟨_, _, rfl, Nat.le_refl _, by simp, fun _ => ⟨w.heap.size, 0, rfl, by simp, fun i y hy j u hu => ?_⟩⟩
  cases i with
  | zero =>
    simp only [List.getElem?_cons_zero, Option.some.injEq] at hy
    subst hy
    simp only [Nat.zero_mul, Nat.zero_add]
    exact cell_new1 w (.int .i64 x) _ j u hu
  | succ i => simp at hy
theorem sizes_zero {n m : Int} (h : sizesS n [m] = 0) : 1 ≤ n ∧ n ≤ 5 ∧ 1 ≤ m ∧ m ≤ 8 := by
  rw [sizesS_one] at h
  by_cases h1 : n < 1 ∨ 5 < n ∨ m < 1 ∨ 8 < m
  · rw [if_pos h1] at h; omega
  · omega
set_option maxHeartbeats 2000000 in
theorem pinputs_any (n m : Int) (e : Ex) (v : Value) (w : World) (hT : Tab w) (hv : ExAt w v e) (hno : e.nodes ≤ 100000) (hfew : fewV n m) :
    Calls Tryz.prog 29 #[.int .i64 n, .int .i64 m, v] w (RetV2 (fun u w' => Coll 45 3 icells 1 w' w.heap.size u (inpS n m e).1) (inpS n m e).2 w) := by
  have HSZ := hide (fun W u (hl : Row icells 1 W u [m]) => sizes_any n [m] u W hl)
  have HGI := hide (fun W (hW : Ext w W) => cinputs_any e v W (hT.ext hW) (hv.ext hW) hno)
  have HOK := hide (fun (N : Nat) l bc bn u W (hW : Ext w W) => inok_any N e l bc bn u W (hT.ext hW))
  obtain ⟨p, c, rfl, hc, hl⟩ := hv.form
  have HV := hide hv
  clear hv hT
  obtain ⟨w2, hw2⟩ : ∃ w2, (w.alloc (.cells #[.int .i64 n] 3)).alloc (.cells #[.int .i64 e.op, .int .i64 e.num, .slice p e.args.length c] 25) = w2 := ⟨_, rfl⟩
  have hE2 : Ext w w2 := by rw [← hw2]; exact ((Ext.refl w).alloc _).alloc _
  have hbn : Box w2 w.heap.size 3 (.int .i64 n) := by rw [← hw2]; exact (Box.new w _ _).alloc _
  have hbc : w2.heap[w.heap.size + 1]? = some (.cells #[.int .i64 e.op, .int .i64 e.num, .slice p e.args.length c] 25 (0, 0)) := by
    rw [← hw2]; have := heap_alloc_new (w.alloc (.cells #[.int .i64 n] 3)) (.cells #[.int .i64 e.op, .int .i64 e.num, .slice p e.args.length c] 25)
    rwa [World.size_alloc] at this
  have HW2 := hide hw2
  have HBN := hide hbn
  have HBC := hide hbc
  have hcn := hbn.cell
  clear hw2 hbc hbn
  have HROW : Hid (Row icells 1 (w2.alloc (.cells #[.int .i64 m] 3)) (.slice (some ⟨w.heap.size + 1 + 1, 0, none⟩) 1 1) [m]) := by
    have := row_one w2 m
    rw [show w2.heap.size = w.heap.size + 1 + 1 by rw [← HW2.out]; simp] at this
    exact this
  have HE3 : Hid (Ext w2 (w2.alloc (.cells #[.int .i64 m] 3))) := (Ext.refl _).alloc _
  unfold inpS
  by_cases h1 : sizesS n [m] ≠ 0
  · rw [if_pos h1]
    have hd : (sizesS n [m] != 0) = true := by simp [h1]
    clear h1
    generalize sizesS n [m] = sz at HSZ hd ⊢
    go_enter Tryz.func29, Tryz.ntmps29
    go_wp2_with fail
    rw [HW2.out]
    refine (HSZ.out _ _ HROW.out).mono ?_
    rintro e' w4 ⟨rfl, hE4⟩
    go_wp2_with fail
    go_ret2
    exact ⟨_, rfl, Coll.nil _ _, (hE2.trans HE3.out).trans hE4⟩
  rw [if_neg h1]
  have h10 : sizesS n [m] = 0 := by simpa using h1
  have HSB := hide (sizes_zero h10)
  rw [h10] at HSZ
  clear h1 h10
  by_cases h2 : givenS e 1 ≠ 0
  · rw [if_pos h2]
    have hd : (givenS e 1 != 0) = true := by simp [h2]
    clear h2
    generalize givenS e 1 = ge at HGI hd ⊢
    go_enter Tryz.func29, Tryz.ntmps29
    go_wp2_with fail
    rw [HW2.out]
    refine (HSZ.out _ _ HROW.out).mono ?_
    rintro e' w4 ⟨rfl, hE4⟩
    have hE24 := HE3.out.trans hE4
    obtain ⟨c0, c1, c2, hz⟩ := xbox3 HBC.out hE24
    go_wp2_with fail
    refine (HGI.out _ (hE2.trans hE24)).mono ?_
    rintro e' w5 ⟨rfl, hE5⟩
    go_wp2_with fail
    go_ret2
    exact ⟨_, rfl, Coll.nil _ _, (hE2.trans hE24).trans hE5⟩
  rw [if_neg h2]
  have h20 : givenS e 1 = 0 := by simpa using h2
  rw [h20] at HGI
  clear h2 h20
  have hfew := hfew HSB.out.1 HSB.out.2.1 HSB.out.2.2.1 HSB.out.2.2.2
  obtain ⟨N, rfl⟩ := Int.eq_ofNat_of_zero_le (show 0 ≤ n by have := HSB.out.1; omega)
  obtain ⟨M, rfl⟩ := Int.eq_ofNat_of_zero_le (show 0 ≤ m by have := HSB.out.2.2.1; omega)
  rw [Int.toNat_natCast, Int.toNat_natCast] at hfew
  rw [Int.toNat_natCast, Int.toNat_natCast]
  have HB : Hid (1 ≤ N ∧ N ≤ 5 ∧ 1 ≤ M ∧ M ≤ 8) := by have := HSB.out; show _ ∧ _; omega
  have HF := hide hfew
  clear hfew
  have HCH := hide (fun W (hW : Ext w W) hbc hbn => choose_in N M 1024 (holdIn N e) (w.heap.size + 1) w.heap.size W HB.out.1 HB.out.2.1 HB.out.2.2.1 HB.out.2.2.2 HF.out (by decide)
    (fun V u i hV hi hr => HOK.out N _ _ _ u V (hW.trans hV) (ExBox.ext hbc hV) (Box.ext hbn hV) hr (dig_ok HB.out.1 HB.out.2.1 HB.out.2.2.1 HB.out.2.2.2 i) hno))
  clear HOK HSB HF HB
  go_enter Tryz.func29, Tryz.ntmps29
  go_wp2_with fail
  rw [HW2.out]
  refine (HSZ.out _ _ HROW.out).mono ?_
  rintro e' w4 ⟨rfl, hE4⟩
  have hE24 := HE3.out.trans hE4
  obtain ⟨c0, c1, c2, hz⟩ := xbox3 HBC.out hE24
  go_wp2_with fail
  refine (HGI.out _ (hE2.trans hE24)).mono ?_
  rintro e' w5 ⟨rfl, hE5⟩
  have hE25 := hE24.trans hE5
  have hcn5 := (HBN.out.ext hE25).cell
  have hzn5 := (HBN.out.ext hE25).lt
  clear c0 c1 c2 hz hE24 hE4 hE5 hcn
  go_wp2_with fail
  refine (HCH.out w5 (hE2.trans hE25) ⟨p, c, (hE25.b.block _ (lt_of_heap HBC.out)).trans HBC.out, HV.out.ext (hE2.trans hE25)⟩ (HBN.out.ext hE25)).mono ?_
  rintro e' w6 ⟨u, rfl, hu, hE6⟩
  obtain ⟨q, k, rfl⟩ : ∃ q k, u = .slice q ((vecs M N).filter (holdIn N e)).length k := by
    rcases hu.form with ⟨h, hn⟩ | ⟨g, c, h, _⟩
    · exact ⟨none, 0, by rw [h, hn]; rfl⟩
    · exact ⟨_, _, h⟩
  have HU := hide hu
  clear hu hcn5 hzn5
  go_wp2_with fail
  go_ret2
  exact ⟨_, rfl, HU.out.mono (hE2.trans hE25).size, (hE2.trans hE25).trans hE6⟩
end Go.Proofs.YthkididgbaamcaaGreatDoor

namespace Go.Proofs.YthkididgbaamcaaGreatDoor
open Go.RowKit

def outBad (v : Int) : Bool := decide (v < 0) || decide (8 ≤ v)
theorem outbad_any (x : Int) (W : World) : Calls Tryz.prog 67 #[.int .i64 x] W fun e w' => e = .returned (.bool (outBad x)) ∧ w' = W := by
  unfold outBad
  by_cases h1 : x < 0 <;> by_cases h2 : 8 ≤ x
  all_goals
    go_enter Tryz.func67, Tryz.ntmps67
    go_wp2
    go_ret
    simp [h1, h2]
/-- What Outputs returns. -/
def outS (n m : Int) (li : List Int) (e : Ex) : List (List Int) × Int :=
  if sizesS n [m] ≠ 0 then ([], sizesS n [m]) else if (li.length : Int) ≠ n then ([], 15) else if li.any outBad = true then ([], 2) else if givenS e 3 ≠ 0 then ([], givenS e 3) else ((vecs m.toNat n.toNat).filter (holdOut n.toNat li e), 0)
theorem dig_ok2 {n m : Nat} {li : List Int} (hn1 : 1 ≤ n) (hn5 : n ≤ 5) (hm1 : 1 ≤ m) (hm8 : m ≤ 8) (hli : li.any outBad = false) (i : Nat) : Sc.ok ⟨n, li, dig m n i, gz⟩ := by
  refine ⟨hn1, hn5, fun x hx => ?_, fun x hx => ?_, fun k hk => ?_⟩
  · have := (List.any_eq_false.1 hli) x hx
    unfold outBad at this
    simp only [Bool.or_eq_true, decide_eq_true_eq, not_or] at this
    omega
  · have := dig_bd m (by omega) n i x hx; omega
  · obtain rfl | rfl | rfl | rfl | rfl : k = 0 ∨ k = 1 ∨ k = 2 ∨ k = 3 ∨ k = 4 := by omega
    all_goals simp [Gr.h]
set_option maxHeartbeats 2000000 in
theorem poutputs_any (n m : Int) (li : List Int) (e : Ex) (vi v : Value) (w : World) (hT : Tab w) (hi : Row icells 1 w vi li) (hv : ExAt w v e) (hno : e.nodes ≤ 100000) (hfew : fewV n m) :
    Calls Tryz.prog 30 #[.int .i64 n, .int .i64 m, vi, v] w (RetV2 (fun u w' => Coll 45 3 icells 1 w' w.heap.size u (outS n m li e).1) (outS n m li e).2 w) := by
  have HSZ := hide (fun W u (hl : Row icells 1 W u [m]) => sizes_any n [m] u W hl)
  have HCO := hide (fun W (hW : Ext w W) => contains_value outBad outbad_any li vi W (hi.ext hW))
  have HGI := hide (fun W (hW : Ext w W) => coutputs_any e v W (hT.ext hW) (hv.ext hW) hno)
  have HOK := hide (fun (N : Nat) l bc bn bi u W (hW : Ext w W) => outok_any N e li l bc bn bi u vi W (hT.ext hW))
  have HI := hide hi
  obtain ⟨p, c, rfl, hc, hl⟩ := hv.form
  have HV := hide hv
  obtain ⟨pi, ci, rfl, -⟩ := hi.int_all
  clear hv hT hi
  obtain ⟨w2, hw2⟩ : ∃ w2, ((w.alloc (.cells #[.int .i64 n] 3)).alloc (.cells #[.slice pi li.length ci] 45)).alloc (.cells #[.int .i64 e.op, .int .i64 e.num, .slice p e.args.length c] 25) = w2 := ⟨_, rfl⟩
  have hE2 : Ext w w2 := by rw [← hw2]; exact (((Ext.refl w).alloc _).alloc _).alloc _
  have hbn : Box w2 w.heap.size 3 (.int .i64 n) := by rw [← hw2]; exact ((Box.new w _ _).alloc _).alloc _
  have hbi : Box w2 (w.heap.size + 1) 45 (.slice pi li.length ci) := by
    rw [← hw2]; have := (Box.new (w.alloc (.cells #[.int .i64 n] 3)) 45 (.slice pi li.length ci)).alloc (.cells #[.int .i64 e.op, .int .i64 e.num, .slice p e.args.length c] 25)
    simpa only [World.size_alloc] using this
  have hbc : w2.heap[w.heap.size + 1 + 1]? = some (.cells #[.int .i64 e.op, .int .i64 e.num, .slice p e.args.length c] 25 (0, 0)) := by
    rw [← hw2]; have := heap_alloc_new ((w.alloc (.cells #[.int .i64 n] 3)).alloc (.cells #[.slice pi li.length ci] 45)) (.cells #[.int .i64 e.op, .int .i64 e.num, .slice p e.args.length c] 25)
    simpa only [World.size_alloc] using this
  have HW2 := hide hw2
  have HBN := hide hbn
  have HBI := hide hbi
  have HBC := hide hbc
  have hcn := hbn.cell
  clear hw2 hbc hbn hbi
  have HROW : Hid (Row icells 1 (w2.alloc (.cells #[.int .i64 m] 3)) (.slice (some ⟨w.heap.size + 1 + 1 + 1, 0, none⟩) 1 1) [m]) := by
    have := row_one w2 m
    rw [show w2.heap.size = w.heap.size + 1 + 1 + 1 by rw [← HW2.out]; simp] at this
    exact this
  have HE3 : Hid (Ext w2 (w2.alloc (.cells #[.int .i64 m] 3))) := (Ext.refl _).alloc _
  unfold outS
  by_cases h1 : sizesS n [m] ≠ 0
  · rw [if_pos h1]
    have hd : (sizesS n [m] != 0) = true := by simp [h1]
    clear h1
    generalize sizesS n [m] = sz at HSZ hd ⊢
    go_enter Tryz.func30, Tryz.ntmps30
    go_wp2_with fail
    rw [HW2.out]
    refine (HSZ.out _ _ HROW.out).mono ?_
    rintro e' w4 ⟨rfl, hE4⟩
    go_wp2_with fail
    go_ret2
    exact ⟨_, rfl, Coll.nil _ _, (hE2.trans HE3.out).trans hE4⟩
  rw [if_neg h1]
  have h10 : sizesS n [m] = 0 := by simpa using h1
  have HSB := hide (sizes_zero h10)
  rw [h10] at HSZ
  clear h1 h10
  by_cases h3 : (li.length : Int) ≠ n
  · rw [if_pos h3]
    have hd : ((li.length : Int) != n) = true := by simp [h3]
    clear h3
    go_enter Tryz.func30, Tryz.ntmps30
    go_wp2_with fail
    rw [HW2.out]
    refine (HSZ.out _ _ HROW.out).mono ?_
    rintro e' w4 ⟨rfl, hE4⟩
    have hE24 := HE3.out.trans hE4
    have hci := (HBI.out.ext hE24).cell
    have hcn4 := (HBN.out.ext hE24).cell
    clear hcn
    go_wp2_with fail
    go_ret2
    exact ⟨_, rfl, Coll.nil _ _, (hE2.trans HE3.out).trans hE4⟩
  rw [if_neg h3]
  have HLN := hide (show (li.length : Int) = n by simpa using h3)
  clear h3
  cases hout : li.any outBad with
  | true =>
    rw [if_pos rfl]
    rw [hout] at HCO
    clear hout
    have hd : ((li.length : Int) != n) = false := by have := HLN.out; simp [this]
    go_enter Tryz.func30, Tryz.ntmps30
    go_wp2_with fail
    rw [HW2.out]
    refine (HSZ.out _ _ HROW.out).mono ?_
    rintro e' w4 ⟨rfl, hE4⟩
    have hE24 := HE3.out.trans hE4
    have hci := (HBI.out.ext hE24).cell
    have hcn4 := (HBN.out.ext hE24).cell
    clear hcn
    go_wp2_with fail
    refine (HCO.out _ (hE2.trans hE24)).mono ?_
    rintro e' w5 ⟨rfl, hE5⟩
    clear hci hcn4
    go_wp2_with fail
    go_ret2
    exact ⟨_, rfl, Coll.nil _ _, (hE2.trans hE24).trans hE5⟩
  | false =>
  rw [if_neg (by decide)]
  rw [hout] at HCO
  have HBAD := hide hout
  clear hout
  have hd : ((li.length : Int) != n) = false := by have := HLN.out; simp [this]
  by_cases h2 : givenS e 3 ≠ 0
  · rw [if_pos h2]
    have hd2 : (givenS e 3 != 0) = true := by simp [h2]
    clear h2
    generalize givenS e 3 = ge at HGI hd2 ⊢
    go_enter Tryz.func30, Tryz.ntmps30
    go_wp2_with fail
    rw [HW2.out]
    refine (HSZ.out _ _ HROW.out).mono ?_
    rintro e' w4 ⟨rfl, hE4⟩
    have hE24 := HE3.out.trans hE4
    have hci := (HBI.out.ext hE24).cell
    have hcn4 := (HBN.out.ext hE24).cell
    clear hcn
    go_wp2_with fail
    refine (HCO.out _ (hE2.trans hE24)).mono ?_
    rintro e' w5 ⟨rfl, hE5⟩
    have hE25 := hE24.trans hE5
    obtain ⟨c0, c1, c2, hz⟩ := xbox3 HBC.out hE25
    clear hci hcn4
    go_wp2_with fail
    refine (HGI.out _ (hE2.trans hE25)).mono ?_
    rintro e' w6 ⟨rfl, hE6⟩
    go_wp2_with fail
    go_ret2
    exact ⟨_, rfl, Coll.nil _ _, (hE2.trans hE25).trans hE6⟩
  rw [if_neg h2]
  have h20 : givenS e 3 = 0 := by simpa using h2
  rw [h20] at HGI
  clear h2 h20
  have hfew := hfew HSB.out.1 HSB.out.2.1 HSB.out.2.2.1 HSB.out.2.2.2
  obtain ⟨N, rfl⟩ := Int.eq_ofNat_of_zero_le (show 0 ≤ n by have := HSB.out.1; omega)
  obtain ⟨M, rfl⟩ := Int.eq_ofNat_of_zero_le (show 0 ≤ m by have := HSB.out.2.2.1; omega)
  rw [Int.toNat_natCast, Int.toNat_natCast] at hfew
  rw [Int.toNat_natCast, Int.toNat_natCast]
  have HB : Hid (1 ≤ N ∧ N ≤ 5 ∧ 1 ≤ M ∧ M ≤ 8) := by have := HSB.out; show _ ∧ _; omega
  have HF := hide hfew
  clear hfew
  have HCH := hide (fun W (hW : Ext w W) hbc hbn hbi => choose_out N M 1024 (holdOut N li e) (w.heap.size + 1 + 1) w.heap.size (w.heap.size + 1) W HB.out.1 HB.out.2.1 HB.out.2.2.1 HB.out.2.2.2 HF.out (by decide)
    (fun V u i hV hi hr => HOK.out N _ _ _ _ u V (hW.trans hV) (ExBox.ext hbc hV) (Box.ext hbn hV) (Box.ext hbi hV) (HI.out.ext (hW.trans hV)) hr (dig_ok2 HB.out.1 HB.out.2.1 HB.out.2.2.1 HB.out.2.2.2 HBAD.out i) hno))
  clear HOK HSB HF HB
  go_enter Tryz.func30, Tryz.ntmps30
  go_wp2_with fail
  rw [HW2.out]
  refine (HSZ.out _ _ HROW.out).mono ?_
  rintro e' w4 ⟨rfl, hE4⟩
  have hE24 := HE3.out.trans hE4
  have hci := (HBI.out.ext hE24).cell
  have hcn4 := (HBN.out.ext hE24).cell
  clear hcn
  go_wp2_with fail
  refine (HCO.out _ (hE2.trans hE24)).mono ?_
  rintro e' w5 ⟨rfl, hE5⟩
  have hE25 := hE24.trans hE5
  obtain ⟨c0, c1, c2, hz⟩ := xbox3 HBC.out hE25
  clear hci hcn4
  go_wp2_with fail
  refine (HGI.out _ (hE2.trans hE25)).mono ?_
  rintro e' w6 ⟨rfl, hE6⟩
  have hE26 := hE25.trans hE6
  have hcn5 := (HBN.out.ext hE26).cell
  have hzn5 := (HBN.out.ext hE26).lt
  clear c0 c1 c2 hz hE24 hE4 hE5 hE6 hE25
  go_wp2_with fail
  refine (HCH.out w6 (hE2.trans hE26) ⟨p, c, (hE26.b.block _ (lt_of_heap HBC.out)).trans HBC.out, HV.out.ext (hE2.trans hE26)⟩ (HBN.out.ext hE26) (HBI.out.ext hE26)).mono ?_
  rintro e' w7 ⟨u, rfl, hu, hE7⟩
  obtain ⟨q, k, rfl⟩ : ∃ q k, u = .slice q ((vecs M N).filter (holdOut N li e)).length k := by
    rcases hu.form with ⟨h, hn⟩ | ⟨g, c, h, _⟩
    · exact ⟨none, 0, by rw [h, hn]; rfl⟩
    · exact ⟨_, _, h⟩
  have HU := hide hu
  clear hu hcn5 hzn5
  go_wp2_with fail
  go_ret2
  exact ⟨_, rfl, HU.out.mono (hE2.trans hE26).size, (hE2.trans hE26).trans hE7⟩
end Go.Proofs.YthkididgbaamcaaGreatDoor
