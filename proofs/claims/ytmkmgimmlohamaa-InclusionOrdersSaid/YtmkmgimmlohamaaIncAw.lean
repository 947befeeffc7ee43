/-
  The law's examples hold (awake of law 20).
  Conditions: none.
-/
import Derived.Test.YtmkmgimmlohamaaIncB
import Derived.Test.YtmkmgimmlohamaaSame
import Derived.Test.YtmkmgimmlohamaaSamePr
namespace Go.Proofs.Ytmkmgimmlohamaa
open Go.RowKit
attribute [local go_sem] Oper.semAt_some

theorem add_zero_i : IntKind.i64.wrap ((0 : Int) + 0) = 0 := by decide
set_option maxRecDepth 100000 in
set_option maxHeartbeats 4000000 in
theorem awake20 (w : World) : Calls Try.prog 11 #[] w fun e w' => e = .returned (.bool true) ∧ Ext w w' := by
  go_enter Try.func11, Try.ntmps11
  go_wp2_with fail
  refine (examples_any w).mono ?_
  rintro e w1 ⟨u, v, rfl, hA, hB, hE1⟩
  have HA := hide hA
  have HB := hide hB
  obtain ⟨p, c, rfl, -⟩ := hA.all_
  obtain ⟨q, d, rfl, -⟩ := hB.all_
  have HE := hide hE1
  have HN := hide (TwoBox.new AA BB p c q d w1)
  have hEN := ((Ext.refl w1).alloc (.cells #[.int .i64 AA.n, .slice p AA.L c] 24)).alloc (.cells #[.int .i64 BB.n, .slice q BB.L d] 24)
  have HEN := hide hEN
  clear hA hB hE1 hEN
  go_upto_region 2 with fail
  generalize (w1.alloc (.cells #[.int .i64 AA.n, .slice p AA.L c] 24)).alloc (.cells #[.int .i64 BB.n, .slice q BB.L d] 24) = W at HN HEN ⊢
  obtain ⟨z, hz⟩ : ∃ z, w1.heap.size = z := ⟨_, rfl⟩
  rw [hz] at HN
  rw [hz]
  replace HA := hide (HA.out.ext HEN.out)
  replace HB := hide (HB.out.ext HEN.out)
  replace HE := hide (HE.out.trans HEN.out)
  clear hz HEN w1
  obtain ⟨z0, a0, a1, z1, b0, b1⟩ := HN.out.cells
  go_wp2_with fail
  refine ((pincludes_any AA BB _ _ W HA.out HB.out a_moves b_moves).mono (fun _ _ h => inc_ab h)).mono ?_
  rintro e W1 ⟨rfl, hX⟩
  replace HN := hide (HN.out.ext hX)
  replace HA := hide (HA.out.ext hX)
  replace HB := hide (HB.out.ext hX)
  replace HE := hide (HE.out.trans hX)
  clear hX z0 a0 a1 z1 b0 b1
  clear W
  obtain ⟨z0, a0, a1, z1, b0, b1⟩ := HN.out.cells
  go_wp2_with fail
  refine ((pincludes_any BB AA _ _ W1 HB.out HA.out b_moves a_moves).mono (fun _ _ h => inc_ba h)).mono ?_
  rintro e W2 ⟨x, rfl, hX, hx⟩
  replace HN := hide (HN.out.ext hX)
  replace HA := hide (HA.out.ext hX)
  replace HB := hide (HB.out.ext hX)
  replace HE := hide (HE.out.trans hX)
  have HX := hide hx
  clear hx
  clear hX z0 a0 a1 z1 b0 b1
  clear W1
  obtain ⟨z0, a0, a1, z1, b0, b1⟩ := HN.out.cells
  go_wp2_with fail
  refine ((psim_any AA BB _ _ W2 HA.out HB.out a_moves b_moves).mono (fun _ _ h => sim_ab h)).mono ?_
  rintro e W3 ⟨y, rfl, hX, hy⟩
  replace HN := hide (HN.out.ext hX)
  replace HA := hide (HA.out.ext hX)
  replace HB := hide (HB.out.ext hX)
  replace HE := hide (HE.out.trans hX)
  replace HX := hide (HX.out.ext hX)
  have HY := hide hy
  clear hy
  clear hX z0 a0 a1 z1 b0 b1
  clear W2
  obtain ⟨z0, a0, a1, z1, b0, b1⟩ := HN.out.cells
  go_wp2_with fail
  refine (extra_any BB AA 2 _ _ W3 HB.out HA.out b_moves a_moves).mono ?_
  rintro e W4 ⟨he, hX⟩
  rw [ba_two] at he
  subst he
  replace HN := hide (HN.out.ext hX)
  replace HA := hide (HA.out.ext hX)
  replace HB := hide (HB.out.ext hX)
  replace HE := hide (HE.out.trans hX)
  replace HX := hide (HX.out.ext hX)
  replace HY := hide (HY.out.ext hX)
  clear hX z0 a0 a1 z1 b0 b1
  clear W3
  obtain ⟨z0, a0, a1, z1, b0, b1⟩ := HN.out.cells
  go_wp2_with fail
  refine (extra_any BB AA 1 _ _ W4 HB.out HA.out b_moves a_moves).mono ?_
  rintro e W5 ⟨he, hX⟩
  rw [ba_one] at he
  subst he
  replace HN := hide (HN.out.ext hX)
  replace HA := hide (HA.out.ext hX)
  replace HB := hide (HB.out.ext hX)
  replace HE := hide (HE.out.trans hX)
  replace HX := hide (HX.out.ext hX)
  replace HY := hide (HY.out.ext hX)
  clear hX z0 a0 a1 z1 b0 b1
  clear W4
  go_wp2_with fail
  refine (letter_any 3 2 W5).mono ?_
  rintro e W6 ⟨rfl, hX⟩
  replace HN := hide (HN.out.ext hX)
  replace HA := hide (HA.out.ext hX)
  replace HB := hide (HB.out.ext hX)
  replace HE := hide (HE.out.trans hX)
  replace HX := hide (HX.out.ext hX)
  replace HY := hide (HY.out.ext hX)
  clear hX
  clear W5
  have hX6 := (Ext.refl W6).alloc (.cells (([lx] : List Rd).flatMap Rd.cells).toArray 43)
  have hr6 := row_of_cells (enc := Rd.cells) (size := 7) (l := ([lx] : List Rd)) (fun _ => rfl) (heap_alloc_new W6 (.cells (([lx] : List Rd).flatMap Rd.cells).toArray 43)) (by decide)
  have HC6 := hide (sequal_rd [lx] [lx] x _ _ (HX.out.ext hX6) hr6)
  rw [show decide (([lx] : List Rd) = [lx]) = true from decide_eq_true rfl] at HC6
  have HX6 := hide hX6
  clear hX6 hr6
  go_wp2_with fail
  refine HC6.out.mono ?_
  rintro e W7 ⟨rfl, hX⟩
  replace hX := HX6.out.trans hX
  replace HN := hide (HN.out.ext hX)
  replace HA := hide (HA.out.ext hX)
  replace HB := hide (HB.out.ext hX)
  replace HE := hide (HE.out.trans hX)
  replace HX := hide (HX.out.ext hX)
  replace HY := hide (HY.out.ext hX)
  clear hX HC6 HX6
  have hX7 := (Ext.refl W7).alloc (.cells (([(0, 0), (1, 0)] : List (Int × Int)).flatMap pcells).toArray 45)
  have hr7 := row_of_cells (enc := pcells) (size := 2) (l := ([(0, 0), (1, 0)] : List (Int × Int))) (fun _ => rfl) (heap_alloc_new W7 (.cells (([(0, 0), (1, 0)] : List (Int × Int)).flatMap pcells).toArray 45)) (by decide)
  have HC7 := hide (sequal_pr [(0, 0), (1, 0)] [(0, 0), (1, 0)] y _ _ (HY.out.ext hX7) hr7)
  rw [show decide (([(0, 0), (1, 0)] : List (Int × Int)) = [(0, 0), (1, 0)]) = true from decide_eq_true rfl] at HC7
  have HX7 := hide hX7
  clear hX7 hr7
  go_wp2_with fail
  refine HC7.out.mono ?_
  rintro e W8 ⟨rfl, hX⟩
  replace hX := HX7.out.trans hX
  replace HN := hide (HN.out.ext hX)
  replace HA := hide (HA.out.ext hX)
  replace HB := hide (HB.out.ext hX)
  replace HE := hide (HE.out.trans hX)
  replace HX := hide (HX.out.ext hX)
  replace HY := hide (HY.out.ext hX)
  clear hX HC7 HX7
  obtain ⟨z0, a0, a1, z1, b0, b1⟩ := HN.out.cells
  go_wp2_with fail
  refine ((pequiv_any AA BB _ _ W8 HA.out HB.out a_moves b_moves).mono (fun _ _ h => eq_ab h)).mono ?_
  rintro e W9 ⟨o, rfl, hX, ho⟩
  replace HN := hide (HN.out.ext hX)
  replace HA := hide (HA.out.ext hX)
  replace HB := hide (HB.out.ext hX)
  replace HE := hide (HE.out.trans hX)
  replace HX := hide (HX.out.ext hX)
  replace HY := hide (HY.out.ext hX)
  have HO := hide ho
  clear ho hX z0 a0 a1 z1 b0 b1
  clear W8
  go_upto_region 10 with fail
  have ca : ∀ V, Ext W9 V → V.cell? ⟨z, 0, none⟩ = some (.int .i64 AA.n) ∧ V.cell? ⟨z, 1, none⟩ = some (.slice p AA.L c) ∧ z < V.heap.size ∧ V.cell? ⟨z + 1, 0, none⟩ = some (.int .i64 BB.n) ∧ V.cell? ⟨z + 1, 1, none⟩ = some (.slice q BB.L d) ∧ z + 1 < V.heap.size := fun V hV => by
    obtain ⟨z0, a0, a1, z1, b0, b1⟩ := (HN.out.ext hV).cells
    exact ⟨a0, a1, z0, b0, b1, z1⟩
  obtain ⟨yb, yo, yc, rfl, hy1, hy2, hy3⟩ := HY.out.take1
  have HC1 := hide (fun V (hV : Ext W9 V) => sequal_rd [lx] [lx] o x V (HO.out.ext hV) (HX.out.ext hV))
  have HC2 := hide (fun V (hV : Ext W9 V) => verify_any AA BB [(0, 0), (1, 0)] _ _ (.slice (some ⟨yb, yo, none⟩) 2 yc) V (HA.out.ext hV) (HB.out.ext hV) (HY.out.ext hV) a_moves b_moves)
  have HC3 := hide (fun V (hV : Ext W9 V) => verify_any AA BB [(0, 0)] _ _ (.slice (some ⟨yb, yo, none⟩) 1 yc) V (HA.out.ext hV) (HB.out.ext hV) (hy3.ext hV) a_moves b_moves)
  rw [show decide (([lx] : List Rd) = [lx]) = true from decide_eq_true rfl] at HC1
  rw [ab_ver] at HC2
  rw [ab_ver1] at HC3
  have h1 := fun V hV => (ca V hV).1
  have h2 := fun V hV => (ca V hV).2.1
  have h3 := fun V hV => (ca V hV).2.2.1
  have h4 := fun V hV => (ca V hV).2.2.2.1
  have h5 := fun V hV => (ca V hV).2.2.2.2.1
  have h6 := fun V hV => (ca V hV).2.2.2.2.2
  clear hy3 ca
  refine wp_region_ext (by kernel_rfl) (by kernel_rfl) ?_
  repeat (go_big_quiet_step ((first | (go_at_call 16; exact Calls.ext_of (HC1.out _ (ExtOf.h _))) | (go_at_call 20; first | with_reducible exact Calls.ext_of (HC2.out _ (ExtOf.h _)) | with_reducible exact Calls.ext_of (HC3.out _ (ExtOf.h _))))))
  refine wpQuiet_nil ?_
  rintro w9 ⟨⟨_, hE9⟩, rfl⟩
  have HF := hide (HE.out.trans hE9)
  clear h1 h2 h3 h4 h5 h6 hE9
  go_wp2_with fail
  go_ret
  exact ⟨rfl, HF.out⟩
end Go.Proofs.Ytmkmgimmlohamaa
