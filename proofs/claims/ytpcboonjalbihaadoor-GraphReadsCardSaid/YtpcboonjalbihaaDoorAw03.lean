/-
  The law's examples hold (awake).
  Conditions: the tables lie in the heap (Tz, Ml).
-/
import Derived.Test.YtpcboonjalbihaaDoorParse
import Derived.Test.YtpcboonjalbihaaDoorGMeasR
import Derived.Test.YtpcboonjalbihaaDoorPermQ
import Derived.Deep.CutRange
namespace Go.Proofs.YtpcboonjalbihaaDoor
open Go.RowKit
attribute [local go_sem] Oper.semAt_some

abbrev exG1 : Gr := ⟨3, 7, 3, 6, 0, 0⟩
abbrev exG2 : Gr := ⟨3, 7, 7, 7, 0, 0⟩
abbrev exG3 : Gr := ⟨3, 3, 7, 5, 0, 0⟩
abbrev exG4 : Gr := ⟨3, 5, 7, 6, 0, 0⟩
theorem ev_p1 : parseS [48, 49, 50, 32, 48, 49, 32, 49, 50] = (exG1, 0) := by decide +kernel
theorem ev_p2 : (parseS [48, 49, 32, 48]).2 = 4 := by decide +kernel
theorem ev_ed : edgesS exG1 = (4, 0) := by decide +kernel
theorem ev_ke : kernelS exG1 = (2, 0) := by decide +kernel
theorem ev_ro : rootsS exG1 = (7, 0) := by decide +kernel
theorem ev_co : composeS exG1 exG1 = (exG2, 0) := by decide +kernel
theorem ev_re : reverseS exG1 = (exG3, 0) := by decide +kernel
theorem ev_pe : permuteS exG1 [1, 2, 0] = (exG4, 0) := by decide +kernel
theorem ev_t2 : wrt exG2 = [48, 49, 50, 32, 48, 49, 50, 32, 48, 49, 50] := by decide +kernel
theorem ev_t3 : wrt exG3 = [48, 49, 32, 48, 49, 50, 32, 48, 50] := by decide +kernel
theorem ev_t4 : wrt exG4 = [48, 50, 32, 48, 49, 50, 32, 49, 50] := by decide +kernel
theorem ev_c2 : gchk exG2 = 0 := by decide +kernel
theorem ev_c3 : gchk exG3 = 0 := by decide +kernel
theorem ev_c4 : gchk exG4 = 0 := by decide +kernel
theorem neq_arr (W : World) : (binOp .neq 22 (.agg #[.int .i64 7, .int .i64 3, .int .i64 6, .int .i64 0, .int .i64 0]) (.agg #[.int .i64 7, .int .i64 3, .int .i64 6, .int .i64 0, .int .i64 0])).run Tryd.prog W = .ok (.bool false) W := by kernel_rfl
theorem format_at (g : Gr) (h : gchk g = 0) (l : List UInt8) (hl : wrt g = l) (w : World) (hT : Tz w) : Calls Tryd.prog 26 #[g.v] w (RetV1 (.string ⟨l.toArray⟩, 0) w) := by
  obtain ⟨n, hn⟩ := wf_of h
  rw [← hl]
  exact format_ok g hn w hT
theorem row_three (w : World) (t : TypeId) : Row icells 1 (w.alloc (.cells #[.int .i64 1, .int .i64 2, .int .i64 0] t)) (.slice (some ⟨w.heap.size, 0, none⟩) 3 3) [1, 2, 0] := by
  refine ⟨_, _, rfl, Nat.le_refl _, by simp, fun _ => ⟨w.heap.size, 0, rfl, by simp, fun i x hx j u hu => ?_⟩⟩
  cases j with
  | succ j => simp at hu
  | zero =>
    simp only [List.getElem?_cons_zero, Option.some.injEq] at hu
    subst hu
    rw [Nat.mul_one, Nat.zero_add, Nat.add_zero, cell_new]
    match i, hx with
    | 0, hx => simp at hx; subst hx; rfl
    | 1, hx => simp at hx; subst hx; rfl
    | 2, hx => simp at hx; subst hx; rfl
    | i + 3, hx => simp at hx
set_option maxRecDepth 100000 in
set_option maxHeartbeats 4000000 in
theorem awake_any (w : World) (hT : Tz w) (hM : Ml w) : Calls Tryd.prog 12 #[] w fun e w' => e = .returned (.bool true) ∧ Ext w w' := by
  have HP1 := hide (fun W (hE : Ext w W) => parse_any ⟨#[48, 49, 50, 32, 48, 49, 32, 49, 50]⟩ (by decide) W (hT.ext hE) (hM.ext hE))
  have HP2 := hide (fun W (hE : Ext w W) => parse_any ⟨#[48, 49, 32, 48]⟩ (by decide) W (hT.ext hE) (hM.ext hE))
  rw [show (⟨#[48, 49, 50, 32, 48, 49, 32, 49, 50]⟩ : ByteArray).data.toList = [48, 49, 50, 32, 48, 49, 32, 49, 50] from rfl, ev_p1] at HP1
  have hp2 := ev_p2
  rw [show (⟨#[48, 49, 32, 48]⟩ : ByteArray).data.toList = [48, 49, 32, 48] from rfl] at HP2
  generalize parseS [48, 49, 32, 48] = r2 at hp2 HP2
  obtain ⟨gx, ex⟩ := r2
  have hp2 : ex = 4 := hp2
  subst hp2
  have HED := hide (fun W => edges_any exG1 W)
  rw [ev_ed] at HED
  have HKE := hide (fun W => kernel_any exG1 W)
  rw [ev_ke] at HKE
  have HRO := hide (fun W (hE : Ext w W) => roots_any exG1 W (hT.ext hE))
  rw [ev_ro] at HRO
  have HCO := hide (fun W (hE : Ext w W) => compose_any exG1 exG1 W (hT.ext hE))
  rw [ev_co] at HCO
  have HRE := hide (fun W => reverse_any exG1 W)
  rw [ev_re] at HRE
  have HPE := hide (fun u W hu => permute_any exG1 [1, 2, 0] u W hu)
  rw [ev_pe] at HPE
  have HF2 := hide (fun W (hE : Ext w W) => format_at exG2 ev_c2 _ ev_t2 W (hT.ext hE))
  have HF3 := hide (fun W (hE : Ext w W) => format_at exG3 ev_c3 _ ev_t3 W (hT.ext hE))
  have HF4 := hide (fun W (hE : Ext w W) => format_at exG4 ev_c4 _ ev_t4 W (hT.ext hE))
  clear hT hM
  have hne := neq_arr
  go_enter Tryd.func12, Tryd.ntmps12
  go_wp2_with fail
  refine (HP1.out _ (Ext.refl _)).mono ?_
  rintro e w1 ⟨rfl, hE⟩
  go_wp2_with fail
  have HE := hide (hE.alloc (gobj exG1))
  have HB1 : Hid (GrBox (w1.alloc (gobj exG1)) w1.heap.size exG1) := gr_new w1 exG1
  generalize w1.alloc (gobj exG1) = W1 at HE HB1 ⊢
  generalize w1.heap.size = b1 at HB1 ⊢
  clear hE
  obtain ⟨c10, c11, c12, c13, c14, c15, z1⟩ := HB1.out.cells
  go_wp2_with fail
  clear c10 c11 c12 c13 c14 c15 z1
  refine (HED.out _).mono ?_
  rintro e w2 ⟨rfl, hE⟩
  have HE := hide (HE.out.trans hE)
  have HB1 := hide (HB1.out.ext hE)
  clear hE
  obtain ⟨c10, c11, c12, c13, c14, c15, z1⟩ := HB1.out.cells
  go_wp2_with fail
  clear c10 c11 c12 c13 c14 c15 z1
  refine (HKE.out _).mono ?_
  rintro e w2 ⟨rfl, hE⟩
  have HE := hide (HE.out.trans hE)
  have HB1 := hide (HB1.out.ext hE)
  clear hE
  obtain ⟨c10, c11, c12, c13, c14, c15, z1⟩ := HB1.out.cells
  go_wp2_with fail
  clear c10 c11 c12 c13 c14 c15 z1
  refine (HRO.out _ HE.out).mono ?_
  rintro e w2 ⟨rfl, hE⟩
  have HE := hide (HE.out.trans hE)
  have HB1 := hide (HB1.out.ext hE)
  clear hE
  obtain ⟨c10, c11, c12, c13, c14, c15, z1⟩ := HB1.out.cells
  go_wp2_with fail
  clear c10 c11 c12 c13 c14 c15 z1
  refine (HCO.out _ HE.out).mono ?_
  rintro e w2 ⟨rfl, hE⟩
  have HE := hide (HE.out.trans hE)
  have HB1 := hide (HB1.out.ext hE)
  clear hE
  go_upto_region 10 with fail
  have HB1 := hide (HB1.out.alloc (gobj exG2))
  have HE := hide (HE.out.alloc (gobj exG2))
  have HB2 : Hid (GrBox (w2.alloc (gobj exG2)) w2.heap.size exG2) := gr_new w2 exG2
  generalize w2.alloc (gobj exG2) = W2 at HE HB1 HB2 ⊢
  generalize w2.heap.size = b2 at HB2 ⊢
  obtain ⟨c10, c11, c12, c13, c14, c15, z1⟩ := HB1.out.cells
  obtain ⟨c20, c21, c22, c23, c24, c25, z2⟩ := HB2.out.cells
  go_wp2_with fail
  clear c10 c11 c12 c13 c14 c15 c20 c21 c22 c23 c24 c25 z1 z2
  refine (HRE.out _).mono ?_
  rintro e w2 ⟨rfl, hE⟩
  have HE := hide (HE.out.trans hE)
  have HB1 := hide (HB1.out.ext hE)
  have HB2 := hide (HB2.out.ext hE)
  clear hE
  go_upto_region 11 with fail
  have HB1 := hide (HB1.out.alloc (gobj exG3))
  have HB2 := hide (HB2.out.alloc (gobj exG3))
  have HE := hide (HE.out.alloc (gobj exG3))
  have HB3 : Hid (GrBox (w2.alloc (gobj exG3)) w2.heap.size exG3) := gr_new w2 exG3
  generalize w2.alloc (gobj exG3) = W2 at HE HB1 HB2 HB3 ⊢
  generalize w2.heap.size = b3 at HB3 ⊢
  obtain ⟨c10, c11, c12, c13, c14, c15, z1⟩ := HB1.out.cells
  go_wp2_with fail
  clear c10 c11 c12 c13 c14 c15 z1
  have HB1 := hide (HB1.out.alloc (.cells #[.int .i64 1, .int .i64 2, .int .i64 0] 3))
  have HB2 := hide (HB2.out.alloc (.cells #[.int .i64 1, .int .i64 2, .int .i64 0] 3))
  have HB3 := hide (HB3.out.alloc (.cells #[.int .i64 1, .int .i64 2, .int .i64 0] 3))
  have HE := hide (HE.out.alloc (.cells #[.int .i64 1, .int .i64 2, .int .i64 0] 3))
  have HROW := hide (row_three W2 3)
  refine (HPE.out _ _ HROW.out).mono ?_
  rintro e w2 ⟨rfl, hE⟩
  have HE := hide (HE.out.trans hE)
  have HB1 := hide (HB1.out.ext hE)
  have HB2 := hide (HB2.out.ext hE)
  have HB3 := hide (HB3.out.ext hE)
  clear hE HROW
  go_upto_region 12 with fail
  have HB1 := hide (HB1.out.alloc (gobj exG4))
  have HB2 := hide (HB2.out.alloc (gobj exG4))
  have HB3 := hide (HB3.out.alloc (gobj exG4))
  have HE := hide (HE.out.alloc (gobj exG4))
  have HB4 : Hid (GrBox (w2.alloc (gobj exG4)) w2.heap.size exG4) := gr_new w2 exG4
  generalize w2.alloc (gobj exG4) = W3 at HE HB1 HB2 HB3 HB4 ⊢
  generalize w2.heap.size = b4 at HB4 ⊢
  obtain ⟨c20, c21, c22, c23, c24, c25, z2⟩ := HB2.out.cells
  go_wp2_with fail
  clear c20 c21 c22 c23 c24 c25 z2
  refine (HF2.out _ HE.out).mono ?_
  rintro e w2 ⟨rfl, hE⟩
  have HE := hide (HE.out.trans hE)
  have HB1 := hide (HB1.out.ext hE)
  have HB2 := hide (HB2.out.ext hE)
  have HB3 := hide (HB3.out.ext hE)
  have HB4 := hide (HB4.out.ext hE)
  clear hE
  obtain ⟨c30, c31, c32, c33, c34, c35, z3⟩ := HB3.out.cells
  go_wp2_with fail
  clear c30 c31 c32 c33 c34 c35 z3
  refine (HF3.out _ HE.out).mono ?_
  rintro e w2 ⟨rfl, hE⟩
  have HE := hide (HE.out.trans hE)
  have HB1 := hide (HB1.out.ext hE)
  have HB2 := hide (HB2.out.ext hE)
  have HB3 := hide (HB3.out.ext hE)
  have HB4 := hide (HB4.out.ext hE)
  clear hE
  obtain ⟨c40, c41, c42, c43, c44, c45, z4⟩ := HB4.out.cells
  go_wp2_with fail
  clear c40 c41 c42 c43 c44 c45 z4
  refine (HF4.out _ HE.out).mono ?_
  rintro e w2 ⟨rfl, hE⟩
  have HE := hide (HE.out.trans hE)
  have HB1 := hide (HB1.out.ext hE)
  have HB2 := hide (HB2.out.ext hE)
  have HB3 := hide (HB3.out.ext hE)
  have HB4 := hide (HB4.out.ext hE)
  clear hE
  go_wp2_with fail
  refine (HP2.out _ HE.out).mono ?_
  rintro e w2 ⟨rfl, hE⟩
  have HE := hide ((HE.out.trans hE).alloc (gobj gx))
  clear hE
  go_wp2_with fail
  trace_state
  go_ret
  exact ⟨rfl, HE.out⟩
end Go.Proofs.YtpcboonjalbihaaDoor
