/-
  The examples of the task layers (roundtabletop.runAwake07).
  Conditions: the table expr.rows lies in the heap.
-/
import Derived.Test.YthkididgbaamcaaGreatDoorTop07A
import Derived.Test.YthkididgbaamcaaGreatDoorTop07B
import Derived.Test.YthkididgbaamcaaGreatDoorStrongW
namespace Go.Proofs.YthkididgbaamcaaGreatDoor
open Go.RowKit
attribute [local go_sem] Oper.semAt_some

def zeroEx : Ex := .mk 0 0 []
/-- All decisions are permitted. -/
def allD : Dc := ⟨2, 2, zeroEx, .mk 7 0 [.mk 0 0 [], .mk 0 0 []], zeroEx⟩
def allT : Tk := (taskS 2 allD).1
theorem ev_all : (taskS 2 allD).2 = 0 := by kernel_rfl
theorem ev_str1 : strR (consT 2 2) allT = ([], 0, [], true, 0) := by kernel_rfl
theorem ev_str2 : strR allT (consT 2 2) = ([0, 0], 0, [0, 1], false, 0) := by kernel_rfl
def shortB (T : Tk) : Bool := T.cs.all fun c => decide (c.out.length ≤ 17592186044416) && decide (c.calm.length ≤ 17592186044416)
theorem TkAt.rep_ {w : World} {v : Value} {T : Tk} (h : TkAt w v T) (hs : shortB T = true) : TkRep w v T := h.rep fun c hc => by
  have := List.all_eq_true.1 hs c hc
  simpa using this
theorem ev_short1 : shortB (consT 2 2) = true := by kernel_rfl
theorem ev_short2 : shortB allT = true := by kernel_rfl
set_option maxRecDepth 16000 in
set_option maxHeartbeats 4000000 in
theorem awake07_any (w : World) (hT : Tab w) : Calls Tryz.prog 4 #[] w fun e w' => e = .returned (.bool true) ∧ Ext w w' := by
  have HT := hide hT
  have HCO := hide (fun W => consensus_any 2 2 W (by decide) (by decide) (by decide) (by decide) (by decide))
  have HST := hide (fun S T v u W (hv : TkRep W v S) (hu : TkRep W u T) => pstronger_any S T v u W hv hu)
  clear hT
  go_enter Tryz.func4, Tryz.ntmps4
  go_wp2_with fail
  refine (HCO.out _).mono ?_
  rintro e w1 ⟨u, rfl, hu, hE1⟩
  have HU1 := hide (hu.rep_ ev_short1)
  obtain ⟨p1, c1, rfl, -⟩ := hu.outs_
  have HE1 := hide hE1
  clear hu hE1
  go_wp2_with fail
  obtain ⟨W1, hW1⟩ : ∃ W1, w1.alloc (.cells #[.int .i64 (consT 2 2).n, .int .i64 (consT 2 2).ins, .int .i64 (consT 2 2).outs, .slice p1 (consT 2 2).cs.length c1] 33) = W1 := ⟨_, rfl⟩
  have HB1 : Hid (TBox W1 w1.heap.size (.int .i64 (consT 2 2).n) (.int .i64 (consT 2 2).ins) (.int .i64 (consT 2 2).outs) (.slice p1 (consT 2 2).cs.length c1)) := by show _ = _; rw [← hW1]; exact heap_alloc_new w1 _
  have HE2 : Hid (Ext w W1) := by show Ext _ _; rw [← hW1]; exact HE1.out.alloc _
  have HU1 : Hid (TkRep W1 _ (consT 2 2)) := HU1.out.ext (by rw [← hW1]; exact (Ext.refl w1).alloc _)
  rw [hW1]
  clear hW1
  generalize w1.heap.size = b1 at HB1 ⊢
  refine (mknum_any (fun _ => False) 0 W1).mono ?_
  rintro e w2 ⟨u, rfl, hu, hE2⟩
  have HN1 := hide hu
  obtain ⟨q2, k2, rfl, -⟩ := hu.at_.form
  have HEA := hide hE2
  clear hu hE2
  go_wp2_with fail
  refine (mknum_any (fun _ => False) 0 w2).mono ?_
  rintro e w3 ⟨u, rfl, hu, hE2⟩
  have HN2 := hide hu
  have HN1 := hide (HN1.out.ext hE2)
  obtain ⟨q3, k3, rfl, -⟩ := hu.at_.form
  have HEA := hide (HEA.out.trans hE2)
  clear hu hE2
  go_wp2_with fail
  refine (mktwo_any (fun _ => False) 7 _ _ _ _ w3 (fun _ h => h.elim) HN1.out HN2.out).mono ?_
  rintro e w4 ⟨u, rfl, hu, hE2⟩
  have HN3 := hide hu
  obtain ⟨q4, k4, rfl, -⟩ := hu.at_.form
  have HEA := hide (HEA.out.trans hE2)
  clear hu hE2 HN1 HN2
  go_wp2_with fail
  refine (ptask_any 2 allD _ w4 (HT.out.ext (HE2.out.trans HEA.out)) ⟨_, none, 0, q4, k4, none, 0, rfl, exAt_zero _ _ _, HN3.out.at_, exAt_zero _ _ _⟩ (by decide) (by decide) (by decide) (fun _ _ _ _ => by decide) (fun _ _ _ _ => by decide)).mono ?_
  rintro e w5 ⟨u, rfl, hu, hE2⟩
  replace hu : TkAt w5 u allT := hu
  have HU2 := hide (hu.rep_ ev_short2)
  obtain ⟨p2, c2, rfl, -⟩ := hu.outs_
  have HEA := hide (HEA.out.trans hE2)
  rw [ev_all]
  clear hu hE2 HN3
  have HBX := hide (HB1.out.ext HEA.out)
  obtain ⟨W5, hW5⟩ : ∃ W5, w5.alloc (.cells #[.int .i64 allT.n, .int .i64 allT.ins, .int .i64 allT.outs, .slice p2 allT.cs.length c2] 33) = W5 := ⟨_, rfl⟩
  have HB2 : Hid (TBox W5 w5.heap.size (.int .i64 allT.n) (.int .i64 allT.ins) (.int .i64 allT.outs) (.slice p2 allT.cs.length c2)) := by show _ = _; rw [← hW5]; exact heap_alloc_new w5 _
  have HE5 : Hid (Ext w5 W5) := by show Ext _ _; rw [← hW5]; exact (Ext.refl w5).alloc _
  have HU2 := hide (HU2.out.ext HE5.out)
  have HU1 := hide (HU1.out.ext (HEA.out.trans HE5.out))
  have HEB := hide (HE2.out.trans (HEA.out.trans HE5.out))
  have HW5 := hide hW5
  obtain ⟨x0, x1, x2, x3⟩ := HBX.out.cells
  have xz := lt_of_heap HBX.out
  clear hW5
  go_wp2_with fail
  rw [HW5.out]
  have h1 := HST.out _ _ _ _ W5 HU1.out HU2.out
  rw [ev_str1] at h1
  refine h1.mono ?_
  clear h1
  rintro e w6 ⟨i1, i2, rfl, hr1, hr2, hE6⟩
  obtain ⟨a1, a2, rfl, -⟩ := hr1.int_all
  obtain ⟨a3, a4, rfl, -⟩ := hr2.int_all
  have HB1 := hide (HBX.out.ext (HE5.out.trans hE6))
  have HB2 := hide (HB2.out.ext hE6)
  have HU1 := hide (HU1.out.ext hE6)
  have HU2 := hide (HU2.out.ext hE6)
  have HE6 := hide (HEB.out.trans hE6)
  clear hr1 hr2 hE6 x0 x1 x2 x3 xz HBX HT HCO HE1
  obtain ⟨x0, x1, x2, x3⟩ := HB1.out.cells
  have xz := lt_of_heap HB1.out
  obtain ⟨y0, y1, y2, y3⟩ := HB2.out.cells
  have yz := lt_of_heap HB2.out
  go_wp2_with fail
  have h1 := HST.out _ _ _ _ w6 HU2.out HU1.out
  rw [ev_str2] at h1
  refine h1.mono ?_
  clear h1
  rintro e w7 ⟨i1, i2, rfl, hr1, hr2, hE7⟩
  have HR1 := hide hr1
  have HR2 := hide hr2
  obtain ⟨a5, a6, rfl, -⟩ := hr1.int_all
  obtain ⟨a7, a8, rfl, -⟩ := hr2.int_all
  have HE7 := hide (HE6.out.trans hE7)
  clear hr1 hr2 hE7 x0 x1 x2 x3 xz y0 y1 y2 y3 yz HU1 HU2 HB1 HB2
  have hs1 := (seq_any [0, 0] [0, 0] _ _ _ (HR1.out.ext ((Ext.refl w7).alloc (.cells #[.int .i64 0, .int .i64 0] 3))) (row_two w7 0 0))
  rw [decide_eq_true (rfl : ([0, 0] : List Int) = [0, 0])] at hs1
  have HS1 := hide hs1
  clear hs1
  go_wp2_with fail
  refine HS1.out.mono ?_
  rintro e w8 ⟨rfl, hE8⟩
  have HE8 := hide ((HE7.out.alloc _).trans hE8)
  have hs2 := (seq_any [0, 1] [0, 1] _ _ _ (HR2.out.ext ((((Ext.refl w7).alloc _).trans hE8).alloc (.cells #[.int .i64 0, .int .i64 1] 3))) (row_two w8 0 1))
  rw [decide_eq_true (rfl : ([0, 1] : List Int) = [0, 1])] at hs2
  have HS2 := hide hs2
  clear hs2
  clear hE8
  go_wp2_with fail
  refine HS2.out.mono ?_
  rintro e w9 ⟨rfl, hE9⟩
  go_wp2_with fail
  go_ret
  exact ⟨rfl, (HE8.out.alloc _).trans hE9⟩
end Go.Proofs.YthkididgbaamcaaGreatDoor
