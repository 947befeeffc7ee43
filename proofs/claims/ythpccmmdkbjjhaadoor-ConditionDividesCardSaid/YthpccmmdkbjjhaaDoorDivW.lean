/-
  'ConditionDivides': its plain laws (a condition and its negation divide all graphs; the graphs with an edge, reversed, are those with the reversed edge), and its walk.
  Conditions: as each theorem states.
-/
import Derived.Test.YthpccmmdkbjjhaaDoorComb13
import Derived.Test.YthpccmmdkbjjhaaDoorGraphsR
import Derived.Test.YthpccmmdkbjjhaaDoorGSpec
import Derived.Test.YthpccmmdkbjjhaaDoorOpen13
import Derived.Test.YthpccmmdkbjjhaaDoorFindG
import Derived.Test.YthpccmmdkbjjhaaDoorGOps
import Derived.Deep.CutRange
namespace Go.Proofs.YthpccmmdkbjjhaaDoor
open Go.RowKit

theorem graphsS_ok {n : Int} {e : Ex} (h : (graphsS n e).2 = 0) : condS e 4 = 0 ∧ (allS n).2 = 0 ∧ graphsS n e = ((allS n).1.filter (holdG n.toNat e), 0) := by
  unfold graphsS at h ⊢
  by_cases h1 : condS e 4 = 0
  · rw [if_neg (fun k => k h1)] at h ⊢
    by_cases h2 : (allS n).2 = 0
    · rw [if_neg (fun k => k h2)]
      exact ⟨h1, h2, rfl⟩
    · rw [if_pos h2] at h
      exact absurd h h2
  · rw [if_pos h1] at h
    exact absurd h h1
theorem exchk_not3 {a : Ex} {u : Nat} (ha : condS a u = 0) : exchk (notE a) 0 = 0 ∨ exchk (notE a) 0 = 5 ∨ exchk (notE a) 0 = 12 := by
  obtain ⟨ha, ka, _⟩ := condS_parts ha
  have h1 := nodesE_not (exchk_parts ha).2.2 ka
  unfold exchk
  rw [if_neg (by omega), h1]
  split
  · exact .inr (.inl rfl)
  · split
    · exact .inr (.inr rfl)
    · exact .inl rfl
/-- The graphs of the negation: the others, or the error 5 or 12. -/
theorem graphsS_not {n : Int} {e : Ex} (h : (graphsS n e).2 = 0) :
    graphsS n (notE e) = ([], 5) ∨ graphsS n (notE e) = ([], 12) ∨ (condS (notE e) 4 = 0 ∧ graphsS n (notE e) = ((allS n).1.filter (holdG n.toNat (notE e)), 0)) := by
  obtain ⟨h1, h2, _⟩ := graphsS_ok h
  have key : exchk (notE e) 0 ≠ 0 → condS (notE e) 4 = exchk (notE e) 0 := fun h => by unfold condS; rw [if_pos h]
  rcases exchk_not3 h1 with h4 | h4 | h4
  · have h3 : condS (notE e) 4 = 0 := by
      obtain ⟨_, _, ua⟩ := condS_parts h1
      unfold condS
      have e3 : usesE (notE e) = usesE e := by simp [usesE, usesL, useOf]
      rw [h4, e3, ua]; simp [kindOf, Ex.op]
    refine .inr (.inr ⟨h3, ?_⟩)
    unfold graphsS
    rw [if_neg (fun k => k h3), if_neg (fun k => k h2)]
  · have h3 := key (by rw [h4]; decide)
    rw [h4] at h3
    refine .inl ?_
    unfold graphsS
    rw [if_pos (by rw [h3]; decide), h3]
  · have h3 := key (by rw [h4]; decide)
    rw [h4] at h3
    refine .inr (.inl ?_)
    unfold graphsS
    rw [if_pos (by rw [h3]; decide), h3]
theorem hold_not {n : Int} {e : Ex} (h : (graphsS n e).2 = 0) (hn : condS (notE e) 4 = 0) {g : Gr} (hg : g ∈ (allS n).1) : holdG n.toNat (notE e) g = !holdG n.toNat e g := by
  obtain ⟨h1, h2, _⟩ := graphsS_ok h
  obtain ⟨k1, k4, hall⟩ := allS_zero h2
  rw [hall] at hg
  exact truth_not (sc_gr (by omega) (by omega) (allG_bd (by omega) _ g hg)) h1 hn
abbrev hearE (p q : Nat) : Ex := .mk 4 0 [.mk 0 p [], .mk 0 q []]
def divT (n p q : Nat) : Bool :=
  decide ((graphsS n (hearE p q)).2 = 0) && decide ((graphsS n (hearE p q)).1.length = (graphsS n (hearE q p)).1.length) &&
  (graphsS n (hearE p q)).1.all fun x => decide ((reverseS x).2 = 0) && decide ((reverseS x).1 ∈ (graphsS n (hearE q p)).1) && decide (0 ≤ x.h p) && decide (x.h p < 32) && has (x.h p) q
theorem div_table : ((List.range 3).all fun m => (List.range (m + 1)).all fun p => (List.range (m + 1)).all fun q => divT (m + 1) p q) = true := by decide +kernel
structure DivOk (n p q : Nat) (A B : List Gr) : Prop where
  len : A.length = B.length
  at_ : ∀ x ∈ A, (reverseS x).2 = 0 ∧ (reverseS x).1 ∈ B ∧ 0 ≤ x.h p ∧ x.h p < 32 ∧ has (x.h p) q = true
theorem div_ok {n p q : Nat} (h1 : 1 ≤ n) (h3 : n ≤ 3) (hp : p < n) (hq : q < n) : (graphsS n (hearE p q)).2 = 0 ∧ DivOk n p q (graphsS n (hearE p q)).1 (graphsS n (hearE q p)).1 := by
  obtain ⟨m, rfl⟩ : ∃ m, n = m + 1 := ⟨n - 1, by omega⟩
  have h := div_table
  rw [List.all_eq_true] at h
  have h := h m (List.mem_range.2 (by omega))
  rw [List.all_eq_true] at h
  have h := h p (List.mem_range.2 hp)
  rw [List.all_eq_true] at h
  have h := h q (List.mem_range.2 hq)
  unfold divT at h
  simp only [Bool.and_eq_true, decide_eq_true_eq, List.all_eq_true] at h
  obtain ⟨⟨a, b⟩, c⟩ := h
  exact ⟨a, b, fun x hx => by obtain ⟨⟨⟨⟨c1, c2⟩, c3⟩, c4⟩, c5⟩ := c x hx; exact ⟨c1, c2, c3, c4, c5⟩⟩
/-- All graphs, those of a condition and those of its negation. -/
structure HalfOk (A B all : List Gr) : Prop where
  sum : A.length + B.length = all.length
  at_ : ∀ x ∈ all, decide (x ∈ B) = !decide (x ∈ A)
theorem half_ok {n : Int} {e : Ex} (h : (graphsS n e).2 = 0) (hn : condS (notE e) 4 = 0) : HalfOk (graphsS n e).1 ((allS n).1.filter (holdG n.toNat (notE e))) (allS n).1 := by
  have hh := fun g (hg : g ∈ (allS n).1) => hold_not h hn hg
  obtain ⟨_, _, h3⟩ := graphsS_ok h
  rw [h3]
  refine ⟨filter_not_len _ _ _ hh, fun x hx => ?_⟩
  rw [mem_filter_dec hx, mem_filter_dec hx, hh x hx]
end Go.Proofs.YthpccmmdkbjjhaaDoor

namespace Go.Proofs.YthpccmmdkbjjhaaDoor
open Go.RowKit
attribute [local go_sem] Oper.semAt_some

theorem exBut_ofD {w : World} {v : Value} {e : Ex} (h : ExAt w v e) : ExBut (fun _ => False) w v e := by
  intro W hz hk
  induction h with
  | mk op num xs p c ss b o hc hl hp hcell hsub ih =>
    refine .mk op num xs p c ss b o hc hl (fun h => ⟨(hp h).1, Nat.lt_of_lt_of_le (hp h).2 hz⟩) (fun i hi => ?_) ih
    obtain ⟨h1, h2, h3⟩ := hcell i hi
    have hb := (hp (by omega)).2
    have hB := hk b (fun h => h) hb
    exact ⟨(World.cell?_of_block (a := ⟨b, _, none⟩) hB).trans h1, (World.cell?_of_block (a := ⟨b, _, none⟩) hB).trans h2, (World.cell?_of_block (a := ⟨b, _, none⟩) hB).trans h3⟩
theorem few_nodes2 {e : Ex} (h : efew e = true) : e.nodes ≤ 1000 := by
  unfold efew at h
  simp only [Bool.and_eq_true, decide_eq_true_eq] at h
  have := cntE_nodes e 140 (by omega) h.1
  omega
set_option maxRecDepth 16000 in
set_option maxHeartbeats 4000000 in
theorem divides_law (n : Int) (e : Ex) (v : Value) (a b : Nat) (w : World) (hT : Tab w) (hv : ExAt w v e) (ha : a < 256) (hb : b < 256) :
    Calls Tryd.prog 8 #[.int .i64 n, v, .agg #[.int .u8 a, .int .u8 b]] w fun r w' => r = .returned (.bool true) ∧ Ext w w' := by
  have HAW := hide (fun W (hW : Ext w W) => awake_any W (hT.ext hW))
  have HFE := hide (fun W (hW : Ext w W) => rfew_ex e v W (hv.ext hW))
  have HAA := hide (fun W (hW : Ext w W) => rabsent_any e v W (hv.ext hW))
  have HPG := hide (fun n e v hn W (hW : Ext w W) (hv : ExAt W v e) => pgraphs_any n e v W (hT.ext hW) hv hn)
  have HXA := hide hv
  obtain ⟨p, c, rfl, hc, hl⟩ := hv.form
  clear hv hT
  obtain ⟨w2, hw2⟩ : ∃ w2, (w.alloc (.cells #[.int .i64 e.op, .int .i64 e.num, .slice p e.args.length c] 26)).alloc (.cells #[.int .u8 a, .int .u8 b] 66) = w2 := ⟨_, rfl⟩
  have hE2 : Ext w w2 := by rw [← hw2]; exact ((Ext.refl w).alloc _).alloc _
  have HBE : Hid (w2.heap[w.heap.size]? = some (.cells #[.int .i64 e.op, .int .i64 e.num, .slice p e.args.length c] 26 (0, 0))) := by show _ = _; rw [← hw2]; exact (Below.heap_alloc _ _ _ (by simp)).trans (heap_alloc_new w _)
  have HBP : Hid (w2.heap[w.heap.size + 1]? = some (.cells #[.int .u8 a, .int .u8 b] 66 (0, 0))) := by
    show _ = _
    rw [← hw2]; have := heap_alloc_new (w.alloc (.cells #[.int .i64 e.op, .int .i64 e.num, .slice p e.args.length c] 26)) (.cells #[.int .u8 a, .int .u8 b] 66)
    rwa [World.size_alloc] at this
  have HW2 := hide hw2
  clear hw2
  by_cases hn1 : n < 1
  · go_enter Tryd.func8, Tryd.ntmps8
    go_wp2_with fail
    rw [HW2.out]
    refine (HAW.out w2 hE2).mono ?_
    rintro r w3 ⟨rfl, hE3⟩
    go_wp2_with fail
    go_ret
    exact ⟨rfl, hE2.trans hE3⟩
  by_cases hn3 : 3 < n
  · go_enter Tryd.func8, Tryd.ntmps8
    go_wp2_with fail
    rw [HW2.out]
    refine (HAW.out w2 hE2).mono ?_
    rintro r w3 ⟨rfl, hE3⟩
    go_wp2_with fail
    go_ret
    exact ⟨rfl, hE2.trans hE3⟩
  obtain ⟨N, rfl⟩ : ∃ N : Nat, n = (N : Int) := ⟨n.toNat, by omega⟩
  have h1 : 1 ≤ N := by omega
  have h3 : N ≤ 3 := by omega
  clear hn1 hn3
  have hd1 : decide ((N : Int) < 1) = false := by simp; omega
  have hd3 : decide ((3 : Int) < (N : Int)) = false := by simp; omega
  have hd1' : decide (N < 1) = false := by simp; omega
  have hd3' : decide (3 < N) = false := by simp; omega
  obtain ⟨c0, c1, c2, hz⟩ := xbox3 HBE.out (Ext.refl _)
  go_enter Tryd.func8, Tryd.ntmps8
  go_wp2_with fail
  rw [HW2.out]
  refine (HFE.out w2 hE2).mono ?_
  rintro r w3 ⟨rfl, hE23⟩
  clear c0 c1 c2 hz
  cases hf : efew e with
  | false =>
    clear HXA
    go_wp2_with fail
    refine (HAW.out w3 (hE2.trans hE23)).mono ?_
    rintro r w99 ⟨rfl, hE99⟩
    go_wp2_with fail
    go_ret
    exact ⟨rfl, (hE2.trans hE23).trans hE99⟩
  | true =>
  have HFA := hide hf
  clear hf
  obtain ⟨c0, c1, c2, hz⟩ := xbox3 HBE.out hE23
  go_wp2_with fail
  refine (HAA.out w3 (hE2.trans hE23)).mono ?_
  rintro r w4 ⟨rfl, hE4⟩
  have hE24 := hE23.trans hE4
  clear c0 c1 c2 hz hE4 hE23
  cases hf : absentE e with
  | true =>
    clear HXA
    go_wp2_with fail
    refine (HAW.out w4 (hE2.trans hE24)).mono ?_
    rintro r w99 ⟨rfl, hE99⟩
    go_wp2_with fail
    go_ret
    exact ⟨rfl, (hE2.trans hE24).trans hE99⟩
  | false =>
  clear hf
  obtain ⟨c0, c1, c2, hz⟩ := xbox3 HBE.out hE24
  go_wp2_with fail
  have hPA := HPG.out N e _ (few_nodes HFA.out) w4 (hE2.trans hE24) (HXA.out.ext (hE2.trans hE24))
  have HNOT := hide (fun (h : (graphsS N e).2 = 0) => graphsS_not h)
  have HHALF := hide (fun (h : (graphsS N e).2 = 0) hn => half_ok h hn)
  have HGOK := hide (fun (h : (graphsS N e).2 = 0) => graphsS_ok h)
  generalize graphsS N e = ra at hPA HNOT HHALF HGOK
  obtain ⟨X, kx⟩ := ra
  refine hPA.mono ?_
  clear hPA
  rintro r w5 ⟨u, rfl, hu, hE5⟩
  have HX : Hid (Row Gr.cells 6 w5 u X) := hu
  obtain ⟨qx, lx, rfl, -⟩ := (show Row Gr.cells 6 w5 u X from hu).gr_all
  have hE25 := hE24.trans hE5
  clear c0 c1 c2 hz hE5 hE24 hu
  by_cases hkx : kx = 0
  case neg =>
    have hd : (kx != 0) = true := by simp [hkx]
    clear hkx HXA
    go_wp2_with fail
    refine (HAW.out w5 (hE2.trans hE25)).mono ?_
    rintro r w99 ⟨rfl, hE99⟩
    go_wp2_with fail
    go_ret
    exact ⟨rfl, (hE2.trans hE25).trans hE99⟩
  case pos =>
  subst hkx
  replace HNOT := hide (HNOT.out rfl)
  replace HHALF := hide (HHALF.out rfl)
  replace HGOK := hide (HGOK.out rfl)
  obtain ⟨c0, c1, c2, hz⟩ := xbox3 HBE.out hE25
  go_wp2_with fail
  refine (mkone_any (fun _ => False) 12 e _ w5 (fun _ h => h.elim) (exBut_ofD (HXA.out.ext (hE2.trans hE25)))).mono ?_
  rintro r w6 ⟨u, rfl, hu, hE6⟩
  have HCND := hide hu.at_
  obtain ⟨qa, la, rfl, -⟩ := hu.at_.form
  have hE26 := hE25.trans hE6
  have HX := hide (HX.out.ext hE6)
  clear hu hE6 hE25 c0 c1 c2 hz
  go_wp2_with fail
  have hPB := HPG.out N (notE e) _ (by have := few_nodes2 HFA.out; simp only [Ex.nodes, Ex.nodesL]; omega) w6 (hE2.trans hE26) HCND.out
  generalize graphsS N (notE e) = rb at hPB HNOT
  obtain ⟨Y, ky⟩ := rb
  refine hPB.mono ?_
  clear hPB
  rintro r w7 ⟨u, rfl, hu, hE7⟩
  have HY : Hid (Row Gr.cells 6 w7 u Y) := hu
  obtain ⟨qy, ly, rfl, -⟩ := (show Row Gr.cells 6 w7 u Y from hu).gr_all
  have hE27 := hE26.trans hE7
  have HX := hide (HX.out.ext hE7)
  clear hE7 hE26 hu
  go_wp2_with fail
  have hPL := all_any N w7
  have HVL : Hid ((allS (N : Int)).1.length ≤ 4096) := by
    obtain ⟨k1, k4, hall⟩ := allS_zero HGOK.out.2.1
    show _ ≤ _
    rw [hall, Int.toNat_natCast]
    exact allG_short (by omega) (by omega)
  rw [HGOK.out.2.1] at hPL
  generalize (allS (N : Int)).1 = V at hPL HNOT HHALF HVL
  refine hPL.mono ?_
  clear hPL
  rintro r w8 ⟨u, rfl, hu, hE8⟩
  have HV : Hid (Row Gr.cells 6 w8 u V) := (show Own Gr.cells 6 w8 _ _ u V from hu).row (by have := HVL.out; omega)
  obtain ⟨qv, lv, rfl, -, -, hvat⟩ := HV.out.gr_all
  have HVAT := hide hvat
  have hE28 := hE27.trans hE8
  have HX := hide (HX.out.ext hE8)
  have HY := hide (HY.out.ext hE8)
  clear hE8 hE27 hu hvat
  have HNOT : Hid (ky = 5 ∨ ky = 12 ∨ (ky = 0 ∧ HalfOk X Y V)) := by
    rcases HNOT.out with h | h | ⟨hc, h⟩
    · injection h with _ h; exact .inl h
    · injection h with _ h; exact .inr (.inl h)
    · injection h with h1 h2
      subst h1
      exact .inr (.inr ⟨h2, HHALF.out hc⟩)
  clear HHALF HGOK HCND
  rcases HNOT.out with h5 | h5 | ⟨h5, hhalf⟩
  · subst h5
    go_wp2_with fail
    refine (HAW.out w8 (hE2.trans hE28)).mono ?_
    rintro r w99 ⟨rfl, hE99⟩
    go_wp2_with fail
    go_ret
    exact ⟨rfl, (hE2.trans hE28).trans hE99⟩
  · subst h5
    go_wp2_with fail
    refine (HAW.out w8 (hE2.trans hE28)).mono ?_
    rintro r w99 ⟨rfl, hE99⟩
    go_wp2_with fail
    go_ret
    exact ⟨rfl, (hE2.trans hE28).trans hE99⟩
  subst h5
  have HH := hide hhalf
  clear hhalf HNOT
  have hsum : ((X.length : Int) + (Y.length : Int) != (V.length : Int)) = false := by have := HH.out.sum; rw [bne_eq_false_iff_eq]; omega
  have hxl : X.length ≤ 4096 := by have := HH.out.sum; have := HVL.out; omega
  have hyl : Y.length ≤ 4096 := by have := HH.out.sum; have := HVL.out; omega
  have hsum2 : (X.length + Y.length != V.length) = false := by have := HH.out.sum; rw [bne_eq_false_iff_eq]; omega
  go_wp2_with fail
  clear hsum hsum2
  have HAT := hide (fun i (hi : i < V.length) => HH.out.at_ (V.getD i default) (getD_mem_gr hi))
  clear HH
  go_loopw [83] (fun x wr => ∃ i : Nat, i ≤ V.length ∧ x = .int .i64 i ∧ Ext w8 wr) (fun x _ => V.length - (intOf x).toNat)
  case atStart => exact ⟨0, by omega, rfl, Ext.refl _⟩
  case round =>
    obtain ⟨i, hi, rfl, hE⟩ := hrel
    have hVL := HVL.out
    by_cases hlt : i < V.length
    · obtain ⟨b1, o1, rfl, hb1, hat⟩ := HVAT.out (by omega)
      obtain ⟨x0, x1, x2, x3, x4, x5⟩ := hat i hlt
      replace x0 := x0 _ hE
      replace x1 := x1 _ hE
      replace x2 := x2 _ hE
      replace x3 := x3 _ hE
      replace x4 := x4 _ hE
      replace x5 := x5 _ hE
      have hb2 := Nat.lt_of_lt_of_le hb1 hE.size
      have hAT := HAT.out i hlt
      have HCX := hide (fun W (hW : Ext w8 W) => contains_gr X (V.getD i default) _ W (HX.out.ext hW))
      have HCY := hide (fun W (hW : Ext w8 W) => contains_gr Y (V.getD i default) _ W (HY.out.ext hW))
      rw [hAT] at HCY
      clear hat hAT
      generalize decide (V.getD i default ∈ X) = bx at HCX HCY
      generalize V.getD i default = x at x0 x1 x2 x3 x4 x5 HCX HCY
      have HE := hide hE
      clear hE
      go_upto_region 15 with fail
      have HB : Hid (GrBox (wr.alloc (gobj x)) wr.heap.size x) := gr_new wr x
      have HEA : Hid (Ext wr (wr.alloc (gobj x))) := (Ext.refl wr).alloc _
      have HE := hide (HE.out.trans HEA.out)
      generalize wr.alloc (gobj x) = W at HB HE HEA ⊢
      generalize wr.heap.size = yb at HB ⊢
      obtain ⟨c0, c1, c2, c3, c4, c5, cz⟩ := HB.out.cells
      clear x0 x1 x2 x3 x4 x5 HEA
      refine wp_region_ext (by kernel_rfl) (by kernel_rfl) ?_
      repeat (go_big_quiet_step ((go_at_call 31; first | with_reducible exact Calls.ext_of (HCX.out _ (by simp [go_sem, HE.out])) | with_reducible exact Calls.ext_of (HCY.out _ (by simp [go_sem, HE.out])))))
      refine wpQuiet_nil ?_
      rintro w9 ⟨⟨_, hE9⟩, rfl⟩
      have HE := hide (HE.out.trans hE9)
      clear c0 c1 c2 c3 c4 c5 cz hE9
      cases bx
      all_goals
        go_wp2
        go_roundw
        case rel => exact ⟨i + 1, by omega, by go_num, HE.out⟩
        case measure => simp [intOf]; omega
    · obtain rfl : i = V.length := by omega
      obtain ⟨W, rfl⟩ : ∃ W : World, W = wr := ⟨_, rfl⟩
      have HE := hide (hE28.trans hE)
      have HPB := hide ((HE.out.b.block _ (lt_of_heap HBP.out)).trans HBP.out)
      have HD1 := hide (div_ok (p := a % N) (q := b % N) h1 h3 (Nat.mod_lt _ h1) (Nat.mod_lt _ h1))
      have HD2 := hide (div_ok (p := b % N) (q := a % N) h1 h3 (Nat.mod_lt _ h1) (Nat.mod_lt _ h1))
      have k0 : W.cell? ⟨w.heap.size + 1, 0, none⟩ = some (.int .u8 a) := decl_cells HPB.out 0
      have k1 : W.cell? ⟨w.heap.size + 1, 1, none⟩ = some (.int .u8 b) := decl_cells HPB.out 1
      have hz1 := lt_of_heap HPB.out
      clear hE
      go_upto_region 18 with fail
      refine wp_region_ext (by kernel_rfl) (by kernel_rfl) ?_
      repeat (go_big_quiet_step (fail))
      refine wpQuiet_nil ?_
      rintro w9 ⟨⟨_, hE9⟩, rfl⟩
      have HE := hide (HE.out.trans hE9)
      clear k0 k1 hz1 hE9 HPB HAT HVAT HX HY HVL hxl hyl
      rw [show ((a : Int) % (N : Int)) = ((a % N : Nat) : Int) from (Int.natCast_emod ..).symm, show ((b : Int) % (N : Int)) = ((b % N : Nat) : Int) from (Int.natCast_emod ..).symm]
      have HPN : Hid (a % N < N ∧ b % N < N) := ⟨Nat.mod_lt _ h1, Nat.mod_lt _ h1⟩
      generalize a % N = P at HD1 HD2 HPN ⊢
      generalize b % N = R at HD1 HD2 HPN ⊢
      go_wp2_with fail
      refine (mknum_any (fun _ => False) P w9).mono ?_
      rintro r wa1 ⟨ua, rfl, hua, hEa⟩
      have HA := hide hua
      obtain ⟨q1, l1, rfl, -⟩ := hua.at_.form
      have HE := hide (HE.out.trans hEa)
      have HF := hide hEa
      clear hua hEa
      go_wp2_with fail
      refine (mknum_any (fun _ => False) R wa1).mono ?_
      rintro r wb1 ⟨ub, rfl, hub, hEb⟩
      have HA := hide (HA.out.ext hEb)
      have HB := hide hub
      obtain ⟨q2, l2, rfl, -⟩ := hub.at_.form
      have HE := hide (HE.out.trans hEb)
      have HF := hide (HF.out.trans hEb)
      clear hub hEb
      go_wp2_with fail
      refine (mktwo_any (fun _ => False) 4 _ _ _ _ wb1 (fun _ h => h.elim) HA.out HB.out).mono ?_
      rintro r wc1 ⟨uc, rfl, huc, hEc⟩
      have HC := hide huc.at_
      obtain ⟨q3, l3, rfl, -⟩ := huc.at_.form
      have HE := hide (HE.out.trans hEc)
      have HF := hide (HF.out.trans hEc)
      clear huc hEc HA HB
      go_wp2_with fail
      have hP1 := HPG.out N (hearE P R) _ (by simp [Ex.nodes, Ex.nodesL]) wc1 (hE2.trans HE.out) HC.out
      rw [HD1.out.1] at hP1
      clear HC
      refine hP1.mono ?_
      clear hP1
      rintro r wd1 ⟨ud, rfl, hud, hEd⟩
      have HG1 : Hid (Row Gr.cells 6 wd1 ud (graphsS N (hearE P R)).1) := hud
      obtain ⟨q41, l41, rfl, -, hlc1, hat1⟩ := (show Row Gr.cells 6 wd1 ud (graphsS N (hearE P R)).1 from hud).gr_all
      have HE := hide (HE.out.trans hEd)
      have HF1 := hide (HF.out.trans hEd)
      clear hud hEd HF
      go_wp2_with fail
      refine (mknum_any (fun _ => False) R wd1).mono ?_
      rintro r wa2 ⟨ua, rfl, hua, hEa⟩
      have HA := hide hua
      obtain ⟨q1, l1, rfl, -⟩ := hua.at_.form
      have HE := hide (HE.out.trans hEa)
      have HF := hide hEa
      clear hua hEa
      go_wp2_with fail
      refine (mknum_any (fun _ => False) P wa2).mono ?_
      rintro r wb2 ⟨ub, rfl, hub, hEb⟩
      have HA := hide (HA.out.ext hEb)
      have HB := hide hub
      obtain ⟨q2, l2, rfl, -⟩ := hub.at_.form
      have HE := hide (HE.out.trans hEb)
      have HF := hide (HF.out.trans hEb)
      clear hub hEb
      go_wp2_with fail
      refine (mktwo_any (fun _ => False) 4 _ _ _ _ wb2 (fun _ h => h.elim) HA.out HB.out).mono ?_
      rintro r wc2 ⟨uc, rfl, huc, hEc⟩
      have HC := hide huc.at_
      obtain ⟨q3, l3, rfl, -⟩ := huc.at_.form
      have HE := hide (HE.out.trans hEc)
      have HF := hide (HF.out.trans hEc)
      clear huc hEc HA HB
      go_wp2_with fail
      have hP2 := HPG.out N (hearE R P) _ (by simp [Ex.nodes, Ex.nodesL]) wc2 (hE2.trans HE.out) HC.out
      rw [HD2.out.1] at hP2
      clear HC
      refine hP2.mono ?_
      clear hP2
      rintro r wd2 ⟨ud, rfl, hud, hEd⟩
      have HG2 : Hid (Row Gr.cells 6 wd2 ud (graphsS N (hearE R P)).1) := hud
      obtain ⟨q42, l42, rfl, -, hlc2, hat2⟩ := (show Row Gr.cells 6 wd2 ud (graphsS N (hearE R P)).1 from hud).gr_all
      have HE := hide (HE.out.trans hEd)
      have HF2 := hide (HF.out.trans hEd)
      clear hud hEd HF
      have HDO := hide HD1.out.2
      have HG1 := hide (HG1.out.ext HF2.out)
      have HAT1 := hide hat1
      clear hat1 hat2
      generalize (graphsS (N : Int) (hearE P R)).1 = C at *
      generalize (graphsS (N : Int) (hearE R P)).1 = D at *
      have hcd : ((C.length : Int) != (D.length : Int)) = false := by rw [bne_eq_false_iff_eq, HDO.out.len]
      have hcd2 : (C.length != D.length) = false := by rw [bne_eq_false_iff_eq, HDO.out.len]
      go_wp2_with fail
      clear hcd hcd2
      have HMEM := hide (fun i (hi : i < C.length) => HDO.out.at_ (C.getD i default) (getD_mem_gr hi))
      clear HDO HD1 HD2 hlc2
      go_loopw [138] (fun x wr => ∃ i : Nat, i ≤ C.length ∧ x = .int .i64 i ∧ Ext wd2 wr) (fun x _ => C.length - (intOf x).toNat)
      case atStart => exact ⟨0, by omega, rfl, Ext.refl _⟩
      case round =>
        obtain ⟨i, hi, rfl, hE⟩ := hrel
        by_cases hlt : i < C.length
        · obtain ⟨b1, o1, rfl, hb1, hat⟩ := HAT1.out (by omega)
          have hE1 := HF2.out.trans hE
          obtain ⟨x0, x1, x2, x3, x4, x5⟩ := hat i hlt
          replace x0 := x0 _ hE1
          replace x1 := x1 _ hE1
          replace x2 := x2 _ hE1
          replace x3 := x3 _ hE1
          replace x4 := x4 _ hE1
          replace x5 := x5 _ hE1
          have hb2 := Nat.lt_of_lt_of_le hb1 hE1.size
          obtain ⟨m1, m2, m3, m4, m5⟩ := HMEM.out i hlt
          generalize C.getD i default = x at x0 x1 x2 x3 x4 x5 m1 m2 m3 m4 m5
          have HCR := hide (fun W => reverse_any x W)
          generalize reverseS x = rv at HCR m1 m2
          obtain ⟨y, kr⟩ := rv
          dsimp only at m1 m2
          subst m1
          have HCD := hide (fun W (hW : Ext wd2 W) => contains_gr D y _ W (HG2.out.ext hW))
          rw [show decide (y ∈ D) = true from decide_eq_true m2] at HCD
          have HM3 := hide m3
          have HM4 := hide m4
          have HM5 := hide m5
          have HE := hide hE
          clear hE hE1 m2 m3 m4 m5 hat
          go_upto_region 26 with fail
          have HB : Hid (GrBox (wr.alloc (gobj x)) wr.heap.size x) := gr_new wr x
          have HEA : Hid (Ext wr (wr.alloc (gobj x))) := (Ext.refl wr).alloc _
          have HE := hide (HE.out.trans HEA.out)
          generalize wr.alloc (gobj x) = W at HB HE HEA ⊢
          generalize wr.heap.size = yb at HB ⊢
          obtain ⟨c0, c1, c2, c3, c4, c5, cz⟩ := HB.out.cells
          clear x0 x1 x2 x3 x4 x5 HEA
          go_wp2_with fail
          refine (HCR.out W).mono ?_
          rintro r W2 ⟨rfl, hE3⟩
          have HE := hide (HE.out.trans hE3)
          have HB := hide (HB.out.ext hE3)
          clear hE3 c0 c1 c2 c3 c4 c5 cz
          go_upto_region 27 with fail
          have HBY : Hid (GrBox (W2.alloc (gobj y)) W2.heap.size y) := gr_new W2 y
          have HEA : Hid (Ext W2 (W2.alloc (gobj y))) := (Ext.refl W2).alloc _
          have HE := hide (HE.out.trans HEA.out)
          have HB := hide (HB.out.ext HEA.out)
          generalize W2.alloc (gobj y) = W3 at HBY HB HE HEA ⊢
          generalize W2.heap.size = zb at HBY ⊢
          obtain ⟨c0, c1, c2, c3, c4, c5, cz⟩ := HBY.out.cells
          clear HEA
          go_wp2_with fail
          refine (HCD.out W3 HE.out).mono ?_
          rintro r W4 ⟨rfl, hE4⟩
          have HE := hide (HE.out.trans hE4)
          have HB := hide (HB.out.ext hE4)
          clear hE4 c0 c1 c2 c3 c4 c5 cz
          have hP5 : (P : Int) < 5 := by have := HPN.out.1; omega
          have hP5' : P < 5 := by have := HPN.out.1; omega
          have hR5 : (R : Int) < 64 := by have := HPN.out.2; omega
          have hrow := (HB.out.row hP5').1
          obtain ⟨s, hs⟩ := Int.eq_ofNat_of_zero_le HM3.out
          have hbit : (bits .and .i64 ((s : Int) / 2 ^ R) 1 != 1) = false := by
            have h1 := bit_has (s := s) (p := R) (by have := HM4.out; omega)
            rw [← hs, HM5.out, hs, beq_iff_eq] at h1
            rw [h1]; rfl
          rw [hs] at hrow
          have hs32 : s < 32 := by have := HM4.out; omega
          have hsz := (lt_of_heap HB.out)
          clear HM3 HM4 HM5 hs
          go_wp2_with fail
          go_roundw
          case rel => exact ⟨i + 1, by omega, by go_num, HE.out⟩
          case measure => simp [intOf]; omega
        · obtain rfl : i = C.length := by omega
          have HE := hide (HE.out.trans hE)
          clear hE
          go_wp2_with fail
          refine (HAW.out _ (hE2.trans HE.out)).mono ?_
          rintro r w99 ⟨rfl, hE99⟩
          go_wp2_with fail
          go_ret
          exact ⟨rfl, (hE2.trans HE.out).trans hE99⟩
end Go.Proofs.YthpccmmdkbjjhaaDoor
