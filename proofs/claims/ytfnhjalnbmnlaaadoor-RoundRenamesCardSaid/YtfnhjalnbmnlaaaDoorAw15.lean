/-
  The law's examples hold (awake).
  Conditions: the tables lie in the heap (Tz, Ml).
-/
import Derived.Test.YtfnhjalnbmnlaaaDoorRdPars
import Derived.Test.YtfnhjalnbmnlaaaDoorRdEnds
import Derived.Test.YtfnhjalnbmnlaaaDoorRdProd
import Derived.Test.YtfnhjalnbmnlaaaDoorRdPrm
import Derived.Test.YtfnhjalnbmnlaaaDoorRevR
import Derived.Test.YtfnhjalnbmnlaaaDoorSameR
import Derived.Deep.CutRange
namespace Go.Proofs.YtfnhjalnbmnlaaaDoor
open Go.RowKit
attribute [local go_sem] Oper.semAt_some

abbrev exR0 : Rd := ⟨⟨3, 7, 7, 7, 0, 0⟩, 0⟩
abbrev exR1 : Rd := ⟨⟨3, 3, 3, 4, 0, 0⟩, 4⟩
abbrev exR2 : Rd := ⟨⟨3, 1, 6, 6, 0, 0⟩, 1⟩
abbrev exW : List Rd := [exR0, exR1]
abbrev exT : List UInt8 := [48, 49, 50, 32, 48, 49, 50, 32, 48, 49, 50, 32, 47, 32, 48, 49, 32, 48, 49, 32, 50, 32, 33, 50]
abbrev exO : Obj := .cells #[.int .i64 3, .int .i64 7, .int .i64 7, .int .i64 7, .int .i64 0, .int .i64 0, .int .i64 0, .int .i64 3, .int .i64 3, .int .i64 3, .int .i64 4, .int .i64 0, .int .i64 0, .int .i64 4] 26
theorem ev_f : formatS 3 exW = (exT, 0) := by decide +kernel
theorem ev_o : obligedS 3 exW = (3, 0) := by decide +kernel
theorem ev_fa : faultyS 3 exW = (4, 0) := by decide +kernel
theorem ev_p : productS 3 exW = (exR0.g, 0) := by decide +kernel
theorem ev_r : rpermS exR1 [1, 2, 0] = (exR2, 0) := by decide +kernel
theorem ev_pa : parseW 3 exT = (exW, 0) := by decide +kernel
theorem ev_w : wordE 3 exW.reverse = 14 := by decide +kernel
open Go.Sort in
theorem holds_ex {V : World} {b : Nat} (h : V.heap[b]? = some exO) : HoldsK Rd.cells 7 V b 0 exW.toArray := by
  intro j hj
  have hj : j < 14 := by simpa using hj
  refine ⟨?_, frozen_of h⟩
  rw [Nat.zero_add, cell_of_row _ _ _ _ _ _ h, get_flatK Rd.cells 7 _ j (by simpa using hj)]
  match j, hj with
  | 0, _ => rfl
  | 1, _ => rfl
  | 2, _ => rfl
  | 3, _ => rfl
  | 4, _ => rfl
  | 5, _ => rfl
  | 6, _ => rfl
  | 7, _ => rfl
  | 8, _ => rfl
  | 9, _ => rfl
  | 10, _ => rfl
  | 11, _ => rfl
  | 12, _ => rfl
  | 13, _ => rfl
  | j + 14, h => omega
theorem row_ex {V : World} {b : Nat} (h : V.heap[b]? = some exO) : Row Rd.cells 7 V (.slice (some ⟨b, 0, none⟩) 2 2) exW := row_of_holds (holds_ex h) (by decide) (lt_of_heap h)
theorem example_any (w : World) : Calls Tryd.prog 40 #[] w fun e w' => e = .returned (.slice (some ⟨w.heap.size, 0, none⟩) 2 2) ∧ w' = w.alloc exO := by
  go_enter Tryd.func40, Tryd.ntmps40
  go_wp2_with fail
  go_ret
  exact ⟨rfl, rfl⟩
theorem row_three (w : World) (t : TypeId) : Row icells 1 (w.alloc (.cells #[.int .i64 1, .int .i64 2, .int .i64 0] t)) (.slice (some ⟨w.heap.size, 0, none⟩) 3 3) [1, 2, 0] := by
  refine ⟨_, _, rfl, Nat.le_refl _, by simp, fun _ => ⟨w.heap.size, 0, rfl, by simp, fun i x hx j u hu => ?_⟩⟩
  cases j with
  | succ j => simp at hu
  | zero =>
    simp only [List.getElem?_cons_zero, Option.some.injEq] at hu
    subst hu
    rw [Nat.mul_one, Nat.zero_add, Nat.add_zero, cell_new]
    match i, hx with
    | 0, hx => simp at hx; subst hx; rfl
    | 1, hx => simp at hx; subst hx; rfl
    | 2, hx => simp at hx; subst hx; rfl
    | i + 3, hx => simp at hx
theorem neq_ex (W : World) : (binOp .neq 24 (.agg #[.int .i64 3, .int .i64 7, .int .i64 7, .int .i64 7, .int .i64 0, .int .i64 0]) (.agg #[.int .i64 3, .int .i64 7, .int .i64 7, .int .i64 7, .int .i64 0, .int .i64 0])).run Tryd.prog W = .ok (.bool false) W := by kernel_rfl
theorem eql_ex (W : World) : (binOp .eql 26 (.agg #[.int .i64 3, .int .i64 1, .int .i64 6, .int .i64 6, .int .i64 0, .int .i64 0, .int .i64 1]) (.agg #[.int .i64 3, .int .i64 1, .int .i64 6, .int .i64 6, .int .i64 0, .int .i64 0, .int .i64 1])).run Tryd.prog W = .ok (.bool true) W := by kernel_rfl
theorem blk_ext {V W : World} {b : Nat} {o : Obj} (h : V.heap[b]? = some o) (hE : Ext V W) : W.heap[b]? = some o := (hE.b.block _ (lt_of_heap h)).trans h
set_option maxRecDepth 100000 in
set_option maxHeartbeats 4000000 in
theorem awake_any (w : World) (hT : Tz w) (hM : Ml w) : Calls Tryd.prog 11 #[] w fun e w' => e = .returned (.bool true) ∧ Ext w w' := by
  have HEX := hide (fun W => example_any W)
  have HF := hide (fun u W (hE : Ext w W) hu => rdformat_any 3 exW u W (hT.ext hE) hu)
  rw [ev_f] at HF
  have HOB := hide (fun u W hu => rdobliged_any 3 exW u W hu)
  rw [ev_o] at HOB
  have HFA := hide (fun u W hu => rdfaulty_any 3 exW u W hu)
  rw [ev_fa] at HFA
  have HPR := hide (fun u W (hE : Ext w W) hu => rdproduct_any 3 exW u W (hT.ext hE) hu)
  rw [ev_p] at HPR
  have HPE := hide (fun u W hu => rdpermute_any exR1 [1, 2, 0] u W hu)
  rw [ev_r] at HPE
  have HPA : Hid (∀ W, Ext w W → Calls Tryd.prog 25 #[.int .i64 3, .string ⟨#[48, 49, 50, 32, 48, 49, 50, 32, 48, 49, 50, 32, 47, 32, 48, 49, 32, 48, 49, 32, 50, 32, 33, 50]⟩] W (RetPs (exW, 0) W)) := fun W hE => by
    have h := rdparse_any 3 ⟨#[48, 49, 50, 32, 48, 49, 50, 32, 48, 49, 50, 32, 47, 32, 48, 49, 32, 48, 49, 32, 50, 32, 33, 50]⟩ (by decide) W (hT.ext hE) (Ml.ext hM hE)
    rw [show (⟨#[48, 49, 50, 32, 48, 49, 50, 32, 48, 49, 50, 32, 47, 32, 48, 49, 32, 48, 49, 32, 50, 32, 33, 50]⟩ : ByteArray).data.toList = exT from rfl, ev_pa] at h
    exact h
  have HWD := hide (fun u W hu => rword_any 3 exW.reverse u W hu)
  rw [ev_w] at HWD
  clear hT hM
  go_enter Tryd.func11, Tryd.ntmps11
  go_wp2_with fail
  refine (HEX.out _).mono ?_
  rintro e w1 ⟨rfl, rfl⟩
  have HE : Hid (Ext w (w.alloc exO)) := (Ext.refl w).alloc _
  have HX : Hid ((w.alloc exO).heap[w.heap.size]? = some exO) := heap_alloc_new w _
  have HZ : Hid (w.heap.size ≤ w.heap.size) := Nat.le_refl _
  generalize w.alloc exO = W1 at HE HX ⊢
  obtain ⟨b, hb⟩ : ∃ b, b = w.heap.size := ⟨_, rfl⟩
  have HB := hide hb
  rw [← hb] at HX ⊢
  clear hb HZ
  go_wp2_with fail
  refine (HF.out _ _ HE.out (row_ex HX.out)).mono ?_
  rintro e w2 ⟨rfl, hE⟩
  have HE := hide (HE.out.trans hE)
  have HX := hide (blk_ext HX.out hE)
  clear hE
  go_wp2_with fail
  refine (HOB.out _ _ (row_ex HX.out)).mono ?_
  rintro e w3 ⟨rfl, hE⟩
  have HE := hide (HE.out.trans hE)
  have HX := hide (blk_ext HX.out hE)
  clear hE
  go_wp2_with fail
  refine (HFA.out _ _ (row_ex HX.out)).mono ?_
  rintro e w4 ⟨rfl, hE⟩
  have HE := hide (HE.out.trans hE)
  have HX := hide (blk_ext HX.out hE)
  clear hE
  go_wp2_with fail
  refine (HPR.out _ _ HE.out (row_ex HX.out)).mono ?_
  rintro e w5 ⟨rfl, hE⟩
  have HE := hide (HE.out.trans hE)
  have HX := hide (blk_ext HX.out hE)
  clear hE
  go_upto_region 6 with fail
  have HG : Hid (GrBox (w5.alloc (gobj exR0.g)) w5.heap.size exR0.g) := gr_new w5 exR0.g
  have HE := hide (HE.out.alloc (gobj exR0.g))
  have HGB : Hid (b < w5.heap.size) := lt_of_heap HX.out
  have HX : Hid ((w5.alloc (gobj exR0.g)).heap[b]? = some exO) := blk_ext HX.out ((Ext.refl _).alloc _)
  change Code.wp _ _ _ _ (w5.alloc (gobj exR0.g))
  generalize w5.alloc (gobj exR0.g) = W6 at HG HE HX ⊢
  generalize w5.heap.size = gb at HG HGB ⊢
  have hz := lt_of_heap HX.out
  have x7 : W6.cell? ⟨b, 7, none⟩ = some (.int .i64 3) := by rw [cell_of_row _ _ _ _ _ _ HX.out]; rfl
  have x8 : W6.cell? ⟨b, 8, none⟩ = some (.int .i64 3) := by rw [cell_of_row _ _ _ _ _ _ HX.out]; rfl
  have x9 : W6.cell? ⟨b, 9, none⟩ = some (.int .i64 3) := by rw [cell_of_row _ _ _ _ _ _ HX.out]; rfl
  have x10 : W6.cell? ⟨b, 10, none⟩ = some (.int .i64 4) := by rw [cell_of_row _ _ _ _ _ _ HX.out]; rfl
  have x11 : W6.cell? ⟨b, 11, none⟩ = some (.int .i64 0) := by rw [cell_of_row _ _ _ _ _ _ HX.out]; rfl
  have x12 : W6.cell? ⟨b, 12, none⟩ = some (.int .i64 0) := by rw [cell_of_row _ _ _ _ _ _ HX.out]; rfl
  have x13 : W6.cell? ⟨b, 13, none⟩ = some (.int .i64 4) := by rw [cell_of_row _ _ _ _ _ _ HX.out]; rfl
  go_wp2_with fail
  clear x7 x8 x9 x10 x11 x12 x13 hz
  refine (HPE.out _ _ (row_three W6 3)).mono ?_
  rintro e w7 ⟨rfl, hE⟩
  have hE := ((Ext.refl W6).alloc (.cells #[.int .i64 1, .int .i64 2, .int .i64 0] 3)).trans hE
  have HE := hide (HE.out.trans hE)
  have HX := hide (blk_ext HX.out hE)
  have HG := hide (HG.out.ext hE)
  clear hE
  go_upto_region 7 with fail
  have HR : Hid (RdBox (w7.alloc (robj exR2)) w7.heap.size exR2) := rd_new w7 exR2
  have HE := hide (HE.out.alloc (robj exR2))
  have HRB : Hid (b < w7.heap.size) := lt_of_heap HX.out
  have HX : Hid ((w7.alloc (robj exR2)).heap[b]? = some exO) := blk_ext HX.out ((Ext.refl _).alloc _)
  have HG := hide (HG.out.ext ((Ext.refl w7).alloc (robj exR2)))
  change Code.wp _ _ _ _ (w7.alloc (robj exR2))
  generalize w7.alloc (robj exR2) = W8 at HG HE HX HR ⊢
  generalize w7.heap.size = rb at HR HRB ⊢
  go_wp2_with fail
  refine (HPA.out _ HE.out).mono ?_
  rintro e w9 ⟨m, rfl, hO, hE⟩
  have HE := hide (HE.out.trans hE)
  have HX := hide (blk_ext HX.out hE)
  have HG := hide (HG.out.ext hE)
  have HR := hide (HR.out.ext hE)
  have HM := hide (hO.row (by decide))
  clear hE hO
  have HSA := hide (fun W (hE : Ext w9 W) => rsame_rd exW exW (.slice (some ⟨b, 0, none⟩) 2 2) m W ((row_ex HX.out).ext hE) (HM.out.ext hE))
  rw [decide_eq_true (rfl : exW = exW)] at HSA
  go_upto_region 8 with fail
  have hne := neq_ex
  refine wp_region_ext (by kernel_rfl) (by kernel_rfl) ?_
  obtain ⟨c0, c1, c2, c3, c4, c5, cz⟩ := HG.out.cells
  have hz := lt_of_heap HX.out
  have x0 : w9.cell? ⟨b, 0, none⟩ = some (.int .i64 3) := by rw [cell_of_row _ _ _ _ _ _ HX.out]; rfl
  have x1 : w9.cell? ⟨b, 1, none⟩ = some (.int .i64 7) := by rw [cell_of_row _ _ _ _ _ _ HX.out]; rfl
  have x2 : w9.cell? ⟨b, 2, none⟩ = some (.int .i64 7) := by rw [cell_of_row _ _ _ _ _ _ HX.out]; rfl
  have x3 : w9.cell? ⟨b, 3, none⟩ = some (.int .i64 7) := by rw [cell_of_row _ _ _ _ _ _ HX.out]; rfl
  have x4 : w9.cell? ⟨b, 4, none⟩ = some (.int .i64 0) := by rw [cell_of_row _ _ _ _ _ _ HX.out]; rfl
  have x5 : w9.cell? ⟨b, 5, none⟩ = some (.int .i64 0) := by rw [cell_of_row _ _ _ _ _ _ HX.out]; rfl
  repeat (go_big_quiet_step ((go_at_call 27; exact Calls.ext_of (HSA.out _ (ExtOf.h _)))))
  refine wpQuiet_nil ?_
  rintro w10 ⟨⟨_, hE9⟩, rfl⟩
  have HE := hide (HE.out.trans hE9)
  have HX := hide (blk_ext HX.out hE9)
  have HR := hide (HR.out.ext hE9)
  clear c0 c1 c2 c3 c4 c5 cz hz x0 x1 x2 x3 x4 x5 hE9 HSA HM HG
  clear hne
  have HREV := hide (rvs_any w b 2 exW w10 (by decide) (by have := HB.out; omega) (lt_of_heap HX.out) HE.out (holds_ex HX.out))
  go_wp2_with fail
  refine HREV.out.mono ?_
  rintro e w11 ⟨rfl, hE11, hrow, hk⟩
  have HE := hide hE11
  have hrb := lt_of_heap HR.out
  have HR : Hid (RdBox w11 rb exR2) := (hk rb (by have := HRB.out; omega)).trans HR.out
  have HWD2 := hide (fun W (hE : Ext w11 W) => HWD.out _ W (hrow.ext hE))
  clear hE11 hrow hk hrb HREV HWD
  obtain ⟨d0, d1, d2, d3, d4, d5, d6, dz⟩ := HR.out.cells
  have hee := eql_ex
  go_wp2_with fail
  refine (HWD2.out _ (Ext.refl _)).mono ?_
  rintro e w12 ⟨rfl, hE⟩
  have HE := hide (HE.out.trans hE)
  clear hE
  go_wp2_with fail
  go_ret
  exact ⟨rfl, HE.out⟩
end Go.Proofs.YtfnhjalnbmnlaaaDoor
