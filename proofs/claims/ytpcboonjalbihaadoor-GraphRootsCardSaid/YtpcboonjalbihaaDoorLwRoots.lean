/-
  The walk of 'GraphRoots'.
  Conditions: the tables lie in the heap (Tz, Ml).
-/
import Derived.Test.YtpcboonjalbihaaDoorAw03
import Derived.Test.YtpcboonjalbihaaDoorRootLaw
import Derived.Test.YtpcboonjalbihaaDoorNews
import Derived.Test.YtpcboonjalbihaaDoorFindG
import Derived.Deep.CutRange
namespace Go.Proofs.YtpcboonjalbihaaDoor
open Go.RowKit
attribute [local go_sem] Oper.semAt_some

abbrev a4v (a b c d : Gr) : Value := .agg #[.int .i64 a.n, .int .i64 a.h0, .int .i64 a.h1, .int .i64 a.h2, .int .i64 a.h3, .int .i64 a.h4, .int .i64 b.n, .int .i64 b.h0, .int .i64 b.h1, .int .i64 b.h2, .int .i64 b.h3, .int .i64 b.h4, .int .i64 c.n, .int .i64 c.h0, .int .i64 c.h1, .int .i64 c.h2, .int .i64 c.h3, .int .i64 c.h4, .int .i64 d.n, .int .i64 d.h0, .int .i64 d.h1, .int .i64 d.h2, .int .i64 d.h3, .int .i64 d.h4]
abbrev a4obj (a b c d : Gr) : Obj := .cells #[.int .i64 a.n, .int .i64 a.h0, .int .i64 a.h1, .int .i64 a.h2, .int .i64 a.h3, .int .i64 a.h4, .int .i64 b.n, .int .i64 b.h0, .int .i64 b.h1, .int .i64 b.h2, .int .i64 b.h3, .int .i64 b.h4, .int .i64 c.n, .int .i64 c.h0, .int .i64 c.h1, .int .i64 c.h2, .int .i64 c.h3, .int .i64 c.h4, .int .i64 d.n, .int .i64 d.h0, .int .i64 d.h1, .int .i64 d.h2, .int .i64 d.h3, .int .i64 d.h4] 59
def sel4 (a b c d : Gr) : Nat → Gr
  | 0 => a
  | 1 => b
  | 2 => c
  | _ => d
def A4Box (W : World) (p : Nat) (a b c d : Gr) : Prop := W.heap[p]? = some (a4obj a b c d)
theorem A4Box.alloc {W : World} {p : Nat} {a b c d : Gr} (h : A4Box W p a b c d) (o : Obj) : A4Box (W.alloc o) p a b c d := (Below.heap_alloc _ _ _ (lt_of_heap h)).trans h
theorem A4Box.ext {W V : World} {p : Nat} {a b c d : Gr} (h : A4Box W p a b c d) (hE : Ext W V) : A4Box V p a b c d := (hE.b.block _ (lt_of_heap h)).trans h
theorem A4Box.new (w : World) (a b c d : Gr) : A4Box (w.alloc (a4obj a b c d)) w.heap.size a b c d := heap_alloc_new w _
theorem A4Box.gstore_other {V : World} {p b' : Nat} {a b c d : Gr} (h : A4Box V p a b c d) (hne : p ≠ b') (r : Gr) : A4Box (gstore V b' r) p a b c d := by
  show (gstore V b' r).heap[p]? = _
  rw [Below.heap_setCell _ _ _ _ hne, Below.heap_setCell _ _ _ _ hne, Below.heap_setCell _ _ _ _ hne, Below.heap_setCell _ _ _ _ hne, Below.heap_setCell _ _ _ _ hne, Below.heap_setCell _ _ _ _ hne]
  exact h
theorem A4Box.cells {W : World} {p : Nat} {a b c d : Gr} (h : A4Box W p a b c d) {i : Nat} (hi : i < 4) :
    (W.cell? ⟨p, i * 6, none⟩ = some (.int .i64 (sel4 a b c d i).n) ∧ W.cell? ⟨p, i * 6 + 1, none⟩ = some (.int .i64 (sel4 a b c d i).h0) ∧ W.cell? ⟨p, i * 6 + 2, none⟩ = some (.int .i64 (sel4 a b c d i).h1) ∧
    W.cell? ⟨p, i * 6 + 3, none⟩ = some (.int .i64 (sel4 a b c d i).h2) ∧ W.cell? ⟨p, i * 6 + 4, none⟩ = some (.int .i64 (sel4 a b c d i).h3) ∧ W.cell? ⟨p, i * 6 + 5, none⟩ = some (.int .i64 (sel4 a b c d i).h4)) ∧ p < W.heap.size := by
  have hh : W.heap[p]? = some (a4obj a b c d) := h
  obtain rfl | rfl | rfl | rfl : i = 0 ∨ i = 1 ∨ i = 2 ∨ i = 3 := by omega
  all_goals (refine ⟨⟨?_, ?_, ?_, ?_, ?_, ?_⟩, lt_of_heap hh⟩ <;> (rw [cell_of_row _ _ _ _ _ _ hh]; rfl))
theorem A4Box.cells0 {W : World} {p : Nat} {a b c d : Gr} (h : A4Box W p a b c d) :
    (W.cell? ⟨p, 0, none⟩ = some (.int .i64 a.n) ∧ W.cell? ⟨p, 1, none⟩ = some (.int .i64 a.h0) ∧ W.cell? ⟨p, 2, none⟩ = some (.int .i64 a.h1) ∧
    W.cell? ⟨p, 3, none⟩ = some (.int .i64 a.h2) ∧ W.cell? ⟨p, 4, none⟩ = some (.int .i64 a.h3) ∧ W.cell? ⟨p, 5, none⟩ = some (.int .i64 a.h4)) ∧ p < W.heap.size := by
  have hh : W.heap[p]? = some (a4obj a b c d) := h
  refine ⟨⟨?_, ?_, ?_, ?_, ?_, ?_⟩, lt_of_heap hh⟩ <;> (rw [cell_of_row _ _ _ _ _ _ hh]; rfl)
theorem a4idx (a b c d : Gr) {i : Nat} (hi : i < 4) (w : World) : (Instr.index 59 (a4v a b c d) (.int .i64 (i : Int))).run Tryd.prog w = .ok (sel4 a b c d i).v w := by
  obtain rfl | rfl | rfl | rfl : i = 0 ∨ i = 1 ∨ i = 2 ∨ i = 3 := by omega
  all_goals kernel_rfl
/-- Are the first k graphs rooted? -/
def rootedB (l : Nat → Gr) : Nat → Bool
  | 0 => true
  | k + 1 => rootedB l k && (((rootsG (l k) : Nat) : Int) != 0)
theorem rootedB_all {l : Nat → Gr} : ∀ {k : Nat}, rootedB l k = true → ∀ i, i < k → rootsG (l i) ≠ 0
  | 0, _, i, hi => by omega
  | k + 1, h, i, hi => by
    rw [rootedB, Bool.and_eq_true, bne_iff_ne] at h
    by_cases e : i = k
    · subst e; exact fun h0 => h.2 (by rw [h0]; rfl)
    · exact rootedB_all h.1 i (by omega)
theorem roots_wf {g : Gr} {n : Nat} (h : Wf g n) : rootsS g = (((rootsG g : Nat) : Int), 0) := by
  unfold rootsS; rw [wf_chk h]; rfl

set_option maxRecDepth 100000 in
set_option maxHeartbeats 8000000 in
theorem roots_law (a b c d : Gr) (w : World) (hT : Tz w) (hM : Ml w) : Calls Tryd.prog 8 #[a4v a b c d] w fun e w' => e = .returned (.bool true) ∧ Ext w w' := by
  have HAW := hide (fun W (hE : Ext w W) => awake_any W (hT.ext hE) (hM.ext hE))
  have HCK := hide (fun g W => rgcheck_any g W)
  have HTT := hide hT
  clear hT hM
  go_enter Tryd.func8, Tryd.ntmps8
  go_upto_region 1 with fail
  have HBl := hide (A4Box.new w a b c d)
  have HE : Hid (Ext w (w.alloc (a4obj a b c d))) := hide ((Ext.refl w).alloc _)
  generalize w.alloc (a4obj a b c d) = W at HBl HE ⊢
  generalize hpl : w.heap.size = pl at HBl ⊢
  clear hpl
  obtain ⟨⟨c0, -⟩, z0⟩ := HBl.out.cells0
  go_upto_region 2 with fail
  clear c0 z0
  refine wp_region_list ?_
  refine wpList_load_row (g := pl) rfl 59 (.tmp 1) rfl rfl 59 _ (0, 0) (.array 4 24) HBl.out Tryd.underlying59 rfl (by kernel_rfl) ?_
  go_wp2_with fail
  go_loopw [26, 5] (fun x _ V => ∃ i : Nat, i ≤ 4 ∧ x = .int .i64 i ∧ Hid (∀ j, j < i → gchk (sel4 a b c d j) = 0 ∧ (sel4 a b c d j).n = a.n) ∧ Hid (Ext w V) ∧ Hid (A4Box V pl a b c d)) (fun x _ _ => 4 - (intOf x).toNat)
  case atStart => exact ⟨0, by omega, rfl, fun j hj => by omega, HE, HBl⟩
  case round =>
    clear HE HBl
    obtain ⟨i, hi, rfl, HJ, HE, HBl⟩ := hrel
    by_cases hlt : i < 4
    · have hix := fun W => a4idx a b c d hlt W
      have hi4 : (i : Int) < 4 := by omega
      have HN : Hid (gchk (sel4 a b c d i) = 0 ∧ (sel4 a b c d i).n = a.n → ∀ j, j < i + 1 → gchk (sel4 a b c d j) = 0 ∧ (sel4 a b c d j).n = a.n) := fun h j hj => by
        by_cases e : j = i
        · subst e; exact h
        · exact HJ.out j (by omega)
      generalize sel4 a b c d i = g at hix HN
      go_upto_region 5 with fail
      clear hix
      have HBl := hide (HBl.out.alloc (gobj g))
      have HE := hide (HE.out.alloc (gobj g))
      have HBg : Hid (GrBox (wr.alloc (gobj g)) wr.heap.size g) := gr_new wr g
      generalize wr.alloc (gobj g) = W2 at HE HBl HBg ⊢
      generalize wr.heap.size = bg at HBg ⊢
      obtain ⟨c0, c1, c2, c3, c4, c5, z⟩ := HBg.out.cells
      go_wp2_with fail
      clear c0 c1 c2 c3 c4 c5 z
      refine (HCK.out g _).mono ?_
      rintro e w3 ⟨rfl, hE⟩
      have HE := hide (HE.out.trans hE)
      have HBl := hide (HBl.out.ext hE)
      have HBg := hide (HBg.out.ext hE)
      clear hE
      by_cases h1 : gchk g = 0
      case neg =>
        have hd : (gchk g != 0) = true := by simp [h1]
        have HH := hide h1
        clear h1
        generalize gchk g = cg at hd HH HN
        go_wp2_with fail
        refine (HAW.out _ HE.out).mono ?_
        rintro e w4 ⟨rfl, hE⟩
        have HE := hide (HE.out.trans hE)
        clear hE
        go_wp2_with fail
        go_ret
        exact ⟨rfl, HE.out⟩
      case pos =>
      have HH := hide h1
      rw [h1]
      clear h1
      obtain ⟨c0, c1, c2, c3, c4, c5, z⟩ := HBg.out.cells
      by_cases h2 : g.n = a.n
      case neg =>
        have hd : (g.n != a.n) = true := by simp [h2]
        have h2 := hide h2
        go_wp2_with fail
        clear c0 c1 c2 c3 c4 c5 z
        refine (HAW.out _ HE.out).mono ?_
        rintro e w4 ⟨rfl, hE⟩
        have HE := hide (HE.out.trans hE)
        clear hE
        go_wp2_with fail
        go_ret
        exact ⟨rfl, HE.out⟩
      case pos =>
      have hd : (g.n != a.n) = false := by simp [h2]
      have HN2 := hide (HN.out ⟨HH.out, h2⟩)
      have h2 := hide h2
      go_wp2_with fail
      go_roundw
      case rel => exact ⟨i + 1, by omega, by go_num, HN2, HE, HBl⟩
      case measure => simp [intOf]; omega
    · obtain rfl : i = 4 := by omega
      obtain ⟨n, ha⟩ := wf_of (HJ.out 0 (by decide)).1
      have ha : Wf a n := ha
      have hw : ∀ i, i < 4 → Wf (sel4 a b c d i) n := fun i hi => by
        obtain ⟨m, hm⟩ := wf_of (HJ.out i hi).1
        have := (HJ.out i hi).2
        have h1 := hm.n_eq
        have h2 := ha.n_eq
        obtain rfl : m = n := by omega
        exact hm
      have HAN := hide ha.n_eq
      have h1 := ha.n1
      have h5 := ha.n5
      have HRK := hide (roots_ker ha)
      have HNS : Hid (rootedB (sel4 a b c d) (n - 1) = true → nsG (prodN n (sel4 a b c d) (n - 1)) = true) := fun h => prod_ns h1 h5 (fun i hi => hw i (by omega)) (rootedB_all h)
      have HSI := hide (sil_ok (silS_wf ha))
      have HQ := hide (fun i => cmp_ok HTT.out (compS_wf (qw_wf ha i) ha))
      have HPW := hide (fun i (hi : i ≤ n - 1) => prod_wf (l := sel4 a b c d) h1 h5 i fun j hj => hw j (by omega))
      have HP := hide (fun i (hi : i < n - 1) => cmp_ok HTT.out (compS_wf (HPW.out i (by omega)) (hw i (by omega))))
      have HRO := hide (fun i (hi : i < 4) W (hE : Ext w W) => roots_wf (hw i hi) ▸ roots_any (sel4 a b c d i) W (HTT.out.ext hE))
      have HRA := hide (fun W (hE : Ext w W) => roots_wf ha ▸ roots_any a W (HTT.out.ext hE))
      have HKE := hide (fun W => kernel_ok (qwG n a (n - 1)) (qw_wf ha _) W)
      have HNO := hide (fun W => nonsplit_ok (prodN n (sel4 a b c d) (n - 1)) (HPW.out _ (Nat.le_refl _)) W)
      clear ha hw HJ HTT HPW
      go_wp2_with fail
      refine (HSI.out _).mono ?_
      rintro e w2 ⟨rfl, hE⟩
      have HE := hide (HE.out.trans hE)
      have HBl := hide (HBl.out.ext hE)
      clear hE
      have hw6 := HE.out.size
      have hp6 := lt_of_heap HBl.out
      go_upto_region 9 with fail
      have HBl := hide (HBl.out.alloc (gobj (silG n)))
      have HE := hide (HE.out.alloc (gobj (silG n)))
      have HB6 : Hid (GrBox (w2.alloc (gobj (silG n))) w2.heap.size (silG n)) := gr_new w2 _
      generalize w2.alloc (gobj (silG n)) = W2 at HE HBl HB6 ⊢
      generalize w2.heap.size = b6 at HB6 hw6 hp6 ⊢
      have z6 := lt_of_heap HB6.out
      go_upto_region 11 with fail
      obtain ⟨c0, c1, c2, c3, c4, c5, z⟩ := HB6.out.cells
      go_upto_region 12 with fail
      clear c0 c1 c2 c3 c4 c5 z
      have HBl := hide (HBl.out.alloc (gobj (silG n)))
      have HE := hide (HE.out.alloc (gobj (silG n)))
      have HB6 := hide (HB6.out.alloc (gobj (silG n)))
      have HB8 : Hid (GrBox (W2.alloc (gobj (silG n))) W2.heap.size (silG n)) := gr_new W2 _
      generalize W2.alloc (gobj (silG n)) = W3 at HE HBl HB6 HB8 ⊢
      generalize W2.heap.size = b8 at HB8 z6 ⊢
      rw [HAN.out]
      go_wp2_with fail
      go_loopw [50, 9] (fun x r V => ∃ i : Nat, i ≤ n - 1 ∧ x = .int .i64 i ∧ r = .bool (rootedB (sel4 a b c d) i) ∧ Hid (Ext w V) ∧ Hid (A4Box V pl a b c d) ∧ Hid (GrBox V b6 (qwG n a i)) ∧ Hid (GrBox V b8 (prodN n (sel4 a b c d) i))) (fun x _ _ => n - (intOf x).toNat)
      case atStart => exact ⟨0, by omega, rfl, rfl, HE, HBl, HB6, HB8⟩
      case round =>
        clear HE HBl HB6 HB8
        obtain ⟨i, hi, rfl, rfl, HE, HBl, HB6, HB8⟩ := hrel
        by_cases hlt : i < n - 1
        · have hi4 : i < 4 := by omega
          have hiI : (i : Int) < (n : Int) - 1 := by omega
          have hi4I : (i : Int) < 4 := by omega
          have H1 := hide (HQ.out i)
          have H2 := hide (HP.out i hlt)
          have H3 := hide (HRO.out i hi4)
          have HCI := hide (fun V (hV : A4Box V pl a b c d) => hV.cells hi4)
          have HRS : Hid (rootedB (sel4 a b c d) (i + 1) = (rootedB (sel4 a b c d) i && (((rootsG (sel4 a b c d i) : Nat) : Int) != 0))) := rfl
          have HQ1 : Hid (qwG n a (i + 1) = compG (qwG n a i) a) := rfl
          have HP1 : Hid (prodN n (sel4 a b c d) (i + 1) = compG (prodN n (sel4 a b c d) i) (sel4 a b c d i)) := rfl
          generalize compG (qwG n a i) a = x at H1 HQ1
          generalize compG (prodN n (sel4 a b c d) i) (sel4 a b c d i) = y at H2 HP1
          generalize qwG n a i = q at H1 HB6
          generalize prodN n (sel4 a b c d) i = p at H2 HB8
          generalize sel4 a b c d i = g at H2 H3 HCI HRS
          generalize rootsG g = rg at H3 HRS
          generalize rootedB (sel4 a b c d) i = rb at HRS ⊢
          obtain ⟨c0, c1, c2, c3, c4, c5, z⟩ := HB6.out.cells
          obtain ⟨⟨d0, d1, d2, d3, d4, d5⟩, zl⟩ := HBl.out.cells0
          go_wp2_with fail
          clear c0 c1 c2 c3 c4 c5 z d0 d1 d2 d3 d4 d5 zl
          refine (H1.out _ HE.out).mono ?_
          rintro e w4 ⟨rfl, hE⟩
          have HE := hide (HE.out.trans hE)
          have HBl := hide (HBl.out.ext hE)
          have HB6 := hide (HB6.out.ext hE)
          have HB8 := hide (HB8.out.ext hE)
          clear hE
          have z8 := lt_of_heap HB8.out
          go_upto_region 16 with fail
          have HBl := hide (HBl.out.alloc (gobj x))
          have HE := hide (HE.out.alloc (gobj x))
          have HB6 := hide (HB6.out.alloc (gobj x))
          have HB8 := hide (HB8.out.alloc (gobj x))
          have HB11 : Hid (GrBox (w4.alloc (gobj x)) w4.heap.size x) := gr_new w4 _
          generalize w4.alloc (gobj x) = W4 at HE HBl HB6 HB8 HB11 ⊢
          generalize w4.heap.size = b11 at HB11 z8 ⊢
          go_cut [13, 14] from 60 to 67 (fun u v V => ∃ g : Nat, u = .pointer (some ⟨g, 0, none⟩) ∧ v = .int .i64 0 ∧ Hid (Ext W4 V) ∧ Hid (GrBox V g y) ∧ Hid (b11 < g))
          case first =>
            refine wp_region_heldAll (fun V => Ext W4 V) (by kernel_rfl) ?_
            intro W5 hW5
            have hR5 : Ext W4 W5 := by rw [hW5]; exact (Ext.refl W4).drew
            clear hW5
            refine wpAnyT_take (i := 0) (.agg #[.int .i64 p.n, .int .i64 p.h0, .int .i64 p.h1, .int .i64 p.h2, .int .i64 p.h3, .int .i64 p.h4]) rfl (by kernel_rfl) (by kernel_rfl) (by kernel_rfl) (by simp [Region.wanted]) (fun V hV => by
              obtain ⟨c0, c1, c2, c3, c4, c5, z⟩ := (HB8.out.ext hV).cells
              go_simp) hR5 ?_
            try simp only [Act.put, List.getElem_toArray, List.getElem_cons_zero, List.setIfInBounds_toArray, List.set_cons_zero, List.set_cons_succ]
            refine wpAnyT_take (i := 1) (.int .i64 (i : Int)) rfl (by kernel_rfl) (by kernel_rfl) (by kernel_rfl) (by simp [Region.wanted]) (fun V hV => by go_simp) hR5 ?_
            try simp only [Act.put, List.getElem_toArray, List.getElem_cons_zero, List.getElem_cons_succ, List.setIfInBounds_toArray, List.set_cons_zero, List.set_cons_succ]
            refine wpAnyT_take (i := 2) (.pointer (some ⟨pl, i * 6, none⟩)) rfl (by kernel_rfl) (by kernel_rfl) (by kernel_rfl) (by simp [Region.wanted]) (fun V hV => by go_simp) hR5 ?_
            try simp only [Act.put, List.getElem_toArray, List.getElem_cons_zero, List.getElem_cons_succ, List.setIfInBounds_toArray, List.set_cons_zero, List.set_cons_succ]
            refine wpAnyT_take (i := 3) (.agg #[.int .i64 g.n, .int .i64 g.h0, .int .i64 g.h1, .int .i64 g.h2, .int .i64 g.h3, .int .i64 g.h4]) rfl (by kernel_rfl) (by kernel_rfl) (by kernel_rfl) (by simp [Region.wanted]) (fun V hV => by
              obtain ⟨⟨c0, c1, c2, c3, c4, c5⟩, z⟩ := HCI.out _ (HBl.out.ext hV)
              go_simp) hR5 ?_
            try simp only [Act.put, List.getElem_toArray, List.getElem_cons_zero, List.getElem_cons_succ, List.setIfInBounds_toArray, List.set_cons_zero, List.set_cons_succ]
            refine wpAnyT_two (i := 4) (j := 8) rfl rfl (by kernel_rfl) (fun K hK => ?_) (fun K hK => ?_)
            · skip
              go_wp2_with fail
              refine (H2.out _ (HE.out.trans hR5)).mono ?_
              rintro e w6 ⟨rfl, hE⟩
              have hR6 := hR5.trans hE
              go_wp2_with fail
              refine ⟨rfl, hK _ _ hR6 ?_⟩
              clear hK K
              try simp only [Act.put, List.getElem_toArray, List.getElem_cons_zero, List.getElem_cons_succ, List.setIfInBounds_toArray, List.set_cons_zero, List.set_cons_succ]
              refine wpAnyT_take (i := 5) (.tuple #[y.v, .int .i64 0]) rfl (by kernel_rfl) (by kernel_rfl) (by kernel_rfl) (by simp [Region.wanted]) (fun V hV => by go_simp) hR6 ?_
              try simp only [Act.put, List.getElem_toArray, List.getElem_cons_zero, List.getElem_cons_succ, List.setIfInBounds_toArray, List.set_cons_zero, List.set_cons_succ]
              refine wpAnyT_take (i := 6) (.agg #[.int .i64 y.n, .int .i64 y.h0, .int .i64 y.h1, .int .i64 y.h2, .int .i64 y.h3, .int .i64 y.h4]) rfl (by kernel_rfl) (by kernel_rfl) (by kernel_rfl) (by simp [Region.wanted]) (fun V hV => by go_simp) hR6 ?_
              try simp only [Act.put, List.getElem_toArray, List.getElem_cons_zero, List.getElem_cons_succ, List.setIfInBounds_toArray, List.set_cons_zero, List.set_cons_succ]
              refine wpAnyT_take (i := 7) (.int .i64 0) rfl (by kernel_rfl) (by kernel_rfl) (by kernel_rfl) (by simp [Region.wanted]) (fun V hV => by go_simp) hR6 ?_
              try simp only [Act.put, List.getElem_toArray, List.getElem_cons_zero, List.getElem_cons_succ, List.setIfInBounds_toArray, List.set_cons_zero, List.set_cons_succ]
              refine wpAnyT_one (i := 8) rfl (by kernel_rfl) (fun K hK => ?_)
              go_wp2_with fail
              refine ⟨rfl, hK _ _ (hR6.alloc _) ?_⟩
              clear hK K
              have hR7 : Ext W4 (w6.alloc gobj0) := hR6.alloc _
              have HB13 : GrBox (w6.alloc gobj0) w6.heap.size gz0 := gr_new w6 gz0
              have hw7 : W4.heap.size ≤ w6.heap.size := hR6.size
              change wpAnyT _ _ _ _ _ _ _ _ _ (w6.alloc gobj0)
              generalize w6.alloc gobj0 = w7 at hR7 HB13 ⊢
              generalize w6.heap.size = b13 at HB13 hw7 ⊢
              try simp only [Act.put, List.getElem_toArray, List.getElem_cons_zero, List.getElem_cons_succ, List.setIfInBounds_toArray, List.set_cons_zero, List.set_cons_succ]
              obtain ⟨c0, c1, c2, c3, c4, c5, z⟩ := HB13.cells
              obtain ⟨f0, f1, f2, f3, f4, f5⟩ := HB13.frozen
              refine wpAnyT_one (i := 9) rfl (by kernel_rfl) (fun K hK => ?_)
              go_wp2_with fail
              change _ ∧ K _ (gstore w7 b13 y)
              have hR8 := hR7.gstore (b := b13) hw7 y
              refine ⟨rfl, hK _ _ hR8 ?_⟩
              clear hK K c0 c1 c2 c3 c4 c5 z f0 f1 f2 f3 f4 f5
              refine wpAnyT_take (i := 10) (.int .i64 0) rfl (by kernel_rfl) (by kernel_rfl) (by kernel_rfl) (by simp [Region.wanted]) (fun V hV => by go_simp) hR8 ?_
              try simp only [Act.put, List.getElem_toArray, List.getElem_cons_zero, List.getElem_cons_succ, List.setIfInBounds_toArray, List.set_cons_zero, List.set_cons_succ]
              refine wpAnyT_done (by kernel_rfl) ?_ _
              have HFIN := hide (And.intro hR8 (And.intro (HB13.store y) (Nat.lt_of_lt_of_le (lt_of_heap HB11.out) hw7)))
              clear hR8 hR7 HB13 hw7
              go_wp2_with fail
              go_meet
              exact ⟨b13, rfl, rfl, HFIN.out.1, HFIN.out.2.1, HFIN.out.2.2⟩
            · skip
              go_wp2_with fail
              refine ⟨rfl, hK _ _ (hR5.alloc _) ?_⟩
              clear hK K
              have hR6 : Ext W4 (W5.alloc gobj0) := hR5.alloc _
              have HB13 : GrBox (W5.alloc gobj0) W5.heap.size gz0 := gr_new W5 gz0
              have hw7 : W4.heap.size ≤ W5.heap.size := hR5.size
              change wpAnyT _ _ _ _ _ _ _ _ _ (W5.alloc gobj0)
              generalize W5.alloc gobj0 = w6 at hR6 HB13 ⊢
              generalize W5.heap.size = b13 at HB13 hw7 ⊢
              try simp only [Act.put, List.getElem_toArray, List.getElem_cons_zero, List.getElem_cons_succ, List.setIfInBounds_toArray, List.set_cons_zero, List.set_cons_succ]
              refine wpAnyT_one (i := 4) rfl (by kernel_rfl) (fun K hK => ?_)
              go_wp2_with fail
              refine (H2.out _ (HE.out.trans hR6)).mono ?_
              rintro e w7 ⟨rfl, hE⟩
              have hR7 := hR6.trans hE
              replace HB13 := HB13.ext hE
              go_wp2_with fail
              refine ⟨rfl, hK _ _ hR7 ?_⟩
              clear hK K
              try simp only [Act.put, List.getElem_toArray, List.getElem_cons_zero, List.getElem_cons_succ, List.setIfInBounds_toArray, List.set_cons_zero, List.set_cons_succ]
              refine wpAnyT_take (i := 5) (.tuple #[y.v, .int .i64 0]) rfl (by kernel_rfl) (by kernel_rfl) (by kernel_rfl) (by simp [Region.wanted]) (fun V hV => by go_simp) hR7 ?_
              try simp only [Act.put, List.getElem_toArray, List.getElem_cons_zero, List.getElem_cons_succ, List.setIfInBounds_toArray, List.set_cons_zero, List.set_cons_succ]
              refine wpAnyT_take (i := 6) (.agg #[.int .i64 y.n, .int .i64 y.h0, .int .i64 y.h1, .int .i64 y.h2, .int .i64 y.h3, .int .i64 y.h4]) rfl (by kernel_rfl) (by kernel_rfl) (by kernel_rfl) (by simp [Region.wanted]) (fun V hV => by go_simp) hR7 ?_
              try simp only [Act.put, List.getElem_toArray, List.getElem_cons_zero, List.getElem_cons_succ, List.setIfInBounds_toArray, List.set_cons_zero, List.set_cons_succ]
              refine wpAnyT_take (i := 7) (.int .i64 0) rfl (by kernel_rfl) (by kernel_rfl) (by kernel_rfl) (by simp [Region.wanted]) (fun V hV => by go_simp) hR7 ?_
              try simp only [Act.put, List.getElem_toArray, List.getElem_cons_zero, List.getElem_cons_succ, List.setIfInBounds_toArray, List.set_cons_zero, List.set_cons_succ]
              obtain ⟨c0, c1, c2, c3, c4, c5, z⟩ := HB13.cells
              obtain ⟨f0, f1, f2, f3, f4, f5⟩ := HB13.frozen
              refine wpAnyT_one (i := 9) rfl (by kernel_rfl) (fun K hK => ?_)
              go_wp2_with fail
              change _ ∧ K _ (gstore w7 b13 y)
              have hR8 := hR7.gstore (b := b13) hw7 y
              refine ⟨rfl, hK _ _ hR8 ?_⟩
              clear hK K c0 c1 c2 c3 c4 c5 z f0 f1 f2 f3 f4 f5
              refine wpAnyT_take (i := 10) (.int .i64 0) rfl (by kernel_rfl) (by kernel_rfl) (by kernel_rfl) (by simp [Region.wanted]) (fun V hV => by go_simp) hR8 ?_
              try simp only [Act.put, List.getElem_toArray, List.getElem_cons_zero, List.getElem_cons_succ, List.setIfInBounds_toArray, List.set_cons_zero, List.set_cons_succ]
              refine wpAnyT_done (by kernel_rfl) ?_ _
              have HFIN := hide (And.intro hR8 (And.intro (HB13.store y) (Nat.lt_of_lt_of_le (lt_of_heap HB11.out) hw7)))
              clear hR8 hR7 HB13 hw7
              go_wp2_with fail
              go_meet
              exact ⟨b13, rfl, rfl, HFIN.out.1, HFIN.out.2.1, HFIN.out.2.2⟩
          case rest =>
            obtain ⟨b13, rfl, rfl, HR, HB13, HBL⟩ := hcut
            have HE := hide (HE.out.trans HR.out)
            have HBl := hide (HBl.out.ext HR.out)
            have HB6 := hide (HB6.out.ext HR.out)
            have HB8 := hide (HB8.out.ext HR.out)
            have HB11 := hide (HB11.out.ext HR.out)
            clear HR
            obtain ⟨⟨c0, c1, c2, c3, c4, c5⟩, z⟩ := HCI.out _ HBl.out
            go_wp2_with fail
            clear c0 c1 c2 c3 c4 c5 z
            refine (H3.out _ HE.out).mono ?_
            rintro e w8 ⟨rfl, hE⟩
            have HE := hide (HE.out.trans hE)
            have HBl := hide (HBl.out.ext hE)
            have HB6 := hide (HB6.out.ext hE)
            have HB8 := hide (HB8.out.ext hE)
            have HB11 := hide (HB11.out.ext hE)
            have HB13 := hide (HB13.out.ext hE)
            clear hE
            go_upto_region 20 with fail
            refine wp_region_heldAll (fun V => GrBox V b11 x ∧ GrBox V b13 y) (by kernel_rfl) ?_
            intro W9 hW9
            have hED : Ext w8 W9 := by rw [hW9]; exact (Ext.refl w8).drew
            clear hW9
            have hS : GrBox W9 b11 x ∧ GrBox W9 b13 y := ⟨HB11.out.ext hED, HB13.out.ext hED⟩
            have HE := hide (HE.out.trans hED)
            have HBl := hide (HBl.out.ext hED)
            have HB6 := hide (HB6.out.ext hED)
            have HB8 := hide (HB8.out.ext hED)
            have hb13 := HBL.out
            clear hED HB11 HB13
            refine wpAnyT_take (i := 0) (.agg #[.int .i64 x.n, .int .i64 x.h0, .int .i64 x.h1, .int .i64 x.h2, .int .i64 x.h3, .int .i64 x.h4]) rfl (by kernel_rfl) (by kernel_rfl) (by kernel_rfl) (by simp [Region.wanted]) (fun V hV => by 
              obtain ⟨c0, c1, c2, c3, c4, c5, z⟩ := hV.1.cells
              go_simp) hS ?_
            try simp only [Act.put, List.getElem_toArray, List.getElem_cons_zero, List.setIfInBounds_toArray, List.set_cons_zero, List.set_cons_succ]
            refine wpAnyT_take (i := 1) (.agg #[.int .i64 y.n, .int .i64 y.h0, .int .i64 y.h1, .int .i64 y.h2, .int .i64 y.h3, .int .i64 y.h4]) rfl (by kernel_rfl) (by kernel_rfl) (by kernel_rfl) (by simp [Region.wanted]) (fun V hV => by 
              obtain ⟨c0, c1, c2, c3, c4, c5, z⟩ := hV.2.cells
              go_simp) hS ?_
            try simp only [Act.put, List.getElem_toArray, List.getElem_cons_zero, List.getElem_cons_succ, List.setIfInBounds_toArray, List.set_cons_zero, List.set_cons_succ]
            cases rb
            case false =>
              refine wpAnyT_take (i := 2) (.bool false) rfl (by kernel_rfl) (by kernel_rfl) (by kernel_rfl) (by simp [Region.wanted]) (fun V hV => by go_simp) hS ?_
              try simp only [Act.put, List.getElem_toArray, List.getElem_cons_zero, List.getElem_cons_succ, List.setIfInBounds_toArray, List.set_cons_zero, List.set_cons_succ]
              refine wpAnyT_take (i := 3) (.bool false) rfl (by kernel_rfl) (by kernel_rfl) (by kernel_rfl) (by simp [Region.wanted]) (fun V hV => by go_simp) hS ?_
              try simp only [Act.put, List.getElem_toArray, List.getElem_cons_zero, List.getElem_cons_succ, List.setIfInBounds_toArray, List.set_cons_zero, List.set_cons_succ]
              refine wpAnyT_skip (i := 4) rfl (by kernel_rfl) (by kernel_rfl) (by kernel_rfl) (by rfl) hS ?_
              try simp only [Act.put, List.getElem_toArray, List.getElem_cons_zero, List.getElem_cons_succ, List.setIfInBounds_toArray, List.set_cons_zero, List.set_cons_succ]
              refine wpAnyT_skip (i := 5) rfl (by kernel_rfl) (by kernel_rfl) (by kernel_rfl) (by rfl) hS ?_
              try simp only [Act.put, List.getElem_toArray, List.getElem_cons_zero, List.getElem_cons_succ, List.setIfInBounds_toArray, List.set_cons_zero, List.set_cons_succ]
              refine wpAnyT_take (i := 6) (.bool false) rfl (by kernel_rfl) (by kernel_rfl) (by kernel_rfl) (by simp [Region.wanted]) (fun V hV => by go_simp) hS ?_
              try simp only [Act.put, List.getElem_toArray, List.getElem_cons_zero, List.getElem_cons_succ, List.setIfInBounds_toArray, List.set_cons_zero, List.set_cons_succ]
              obtain ⟨c0, c1, c2, c3, c4, c5, z⟩ := HB6.out.cells
              obtain ⟨f0, f1, f2, f3, f4, f5⟩ := HB6.out.frozen
              refine wpAnyT_one (i := 7) rfl (by kernel_rfl) (fun K hK => ?_)
              go_wp2_with fail
              change _ ∧ K _ (gstore W9 b6 x)
              have hS2 : GrBox (gstore W9 b6 x) b11 x ∧ GrBox (gstore W9 b6 x) b13 y := ⟨hS.1.gstore_other (by omega), hS.2.gstore_other (by omega)⟩
              refine ⟨rfl, hK _ _ hS2 ?_⟩
              clear hK K c0 c1 c2 c3 c4 c5 z f0 f1 f2 f3 f4 f5
              have HE := hide (HE.out.gstore (b := b6) hw6 x)
              have HBl := hide (HBl.out.gstore_other (b' := b6) (by omega) x)
              have HB6 := hide (HB6.out.store x)
              have HB8 := hide (HB8.out.gstore_other (r := x) (b' := b6) (by omega))
              generalize gstore W9 b6 x = W10 at HE HBl HB6 HB8 hS2 ⊢
              obtain ⟨c0, c1, c2, c3, c4, c5, z⟩ := HB8.out.cells
              obtain ⟨f0, f1, f2, f3, f4, f5⟩ := HB8.out.frozen
              refine wpAnyT_one (i := 8) rfl (by kernel_rfl) (fun K hK => ?_)
              go_wp2_with fail
              change _ ∧ K _ (gstore W10 b8 y)
              have hS3 : GrBox (gstore W10 b8 y) b11 x ∧ GrBox (gstore W10 b8 y) b13 y := ⟨hS2.1.gstore_other (by omega), hS2.2.gstore_other (by omega)⟩
              refine ⟨rfl, hK _ _ hS3 ?_⟩
              clear hK K c0 c1 c2 c3 c4 c5 z f0 f1 f2 f3 f4 f5
              have HE := hide (HE.out.gstore (b := b8) (by omega) y)
              have HBl := hide (HBl.out.gstore_other (b' := b8) (by omega) y)
              have HB8 := hide (HB8.out.store y)
              have HB6 := hide (HB6.out.gstore_other (r := y) (b' := b8) (by omega))
              refine wpAnyT_take (i := 9) (.bool false) rfl (by kernel_rfl) (by kernel_rfl) (by kernel_rfl) (by simp [Region.wanted]) (fun V hV => by go_simp) hS3 ?_
              try simp only [Act.put, List.getElem_toArray, List.getElem_cons_zero, List.getElem_cons_succ, List.setIfInBounds_toArray, List.set_cons_zero, List.set_cons_succ]
              refine wpAnyT_done (by kernel_rfl) ?_ _
              clear hS hS2 hS3
              have HRT := hide HRS.out.symm
              clear HRS
              go_wp2_with fail
              go_roundw
              case rel => exact ⟨i + 1, by omega, by go_num, by rw [← HRT.out]; simp, HE, HBl, by rw [HQ1.out]; exact HB6, by rw [HP1.out]; exact HB8⟩
              case measure => simp [intOf]; omega
            case true =>
              refine wpAnyT_take (i := 2) (.bool true) rfl (by kernel_rfl) (by kernel_rfl) (by kernel_rfl) (by simp [Region.wanted]) (fun V hV => by go_simp) hS ?_
              try simp only [Act.put, List.getElem_toArray, List.getElem_cons_zero, List.getElem_cons_succ, List.setIfInBounds_toArray, List.set_cons_zero, List.set_cons_succ]
              refine wpAnyT_take (i := 3) (.bool true) rfl (by kernel_rfl) (by kernel_rfl) (by kernel_rfl) (by simp [Region.wanted]) (fun V hV => by go_simp) hS ?_
              try simp only [Act.put, List.getElem_toArray, List.getElem_cons_zero, List.getElem_cons_succ, List.setIfInBounds_toArray, List.set_cons_zero, List.set_cons_succ]
              refine wpAnyT_take (i := 4) (.int .i64 (rg : Nat)) rfl (by kernel_rfl) (by kernel_rfl) (by kernel_rfl) (by rfl) (fun V hV => by go_simp) hS ?_
              try simp only [Act.put, List.getElem_toArray, List.getElem_cons_zero, List.getElem_cons_succ, List.setIfInBounds_toArray, List.set_cons_zero, List.set_cons_succ]
              refine wpAnyT_take (i := 5) (.bool (((rg : Nat) : Int) != 0)) rfl (by kernel_rfl) (by kernel_rfl) (by kernel_rfl) (by rfl) (fun V hV => by go_simp) hS ?_
              try simp only [Act.put, List.getElem_toArray, List.getElem_cons_zero, List.getElem_cons_succ, List.setIfInBounds_toArray, List.set_cons_zero, List.set_cons_succ]
              refine wpAnyT_take (i := 6) (.bool (((rg : Nat) : Int) != 0)) rfl (by kernel_rfl) (by kernel_rfl) (by kernel_rfl) (by simp [Region.wanted]) (fun V hV => by go_simp) hS ?_
              try simp only [Act.put, List.getElem_toArray, List.getElem_cons_zero, List.getElem_cons_succ, List.setIfInBounds_toArray, List.set_cons_zero, List.set_cons_succ]
              obtain ⟨c0, c1, c2, c3, c4, c5, z⟩ := HB6.out.cells
              obtain ⟨f0, f1, f2, f3, f4, f5⟩ := HB6.out.frozen
              refine wpAnyT_one (i := 7) rfl (by kernel_rfl) (fun K hK => ?_)
              go_wp2_with fail
              change _ ∧ K _ (gstore W9 b6 x)
              have hS2 : GrBox (gstore W9 b6 x) b11 x ∧ GrBox (gstore W9 b6 x) b13 y := ⟨hS.1.gstore_other (by omega), hS.2.gstore_other (by omega)⟩
              refine ⟨rfl, hK _ _ hS2 ?_⟩
              clear hK K c0 c1 c2 c3 c4 c5 z f0 f1 f2 f3 f4 f5
              have HE := hide (HE.out.gstore (b := b6) hw6 x)
              have HBl := hide (HBl.out.gstore_other (b' := b6) (by omega) x)
              have HB6 := hide (HB6.out.store x)
              have HB8 := hide (HB8.out.gstore_other (r := x) (b' := b6) (by omega))
              generalize gstore W9 b6 x = W10 at HE HBl HB6 HB8 hS2 ⊢
              obtain ⟨c0, c1, c2, c3, c4, c5, z⟩ := HB8.out.cells
              obtain ⟨f0, f1, f2, f3, f4, f5⟩ := HB8.out.frozen
              refine wpAnyT_one (i := 8) rfl (by kernel_rfl) (fun K hK => ?_)
              go_wp2_with fail
              change _ ∧ K _ (gstore W10 b8 y)
              have hS3 : GrBox (gstore W10 b8 y) b11 x ∧ GrBox (gstore W10 b8 y) b13 y := ⟨hS2.1.gstore_other (by omega), hS2.2.gstore_other (by omega)⟩
              refine ⟨rfl, hK _ _ hS3 ?_⟩
              clear hK K c0 c1 c2 c3 c4 c5 z f0 f1 f2 f3 f4 f5
              have HE := hide (HE.out.gstore (b := b8) (by omega) y)
              have HBl := hide (HBl.out.gstore_other (b' := b8) (by omega) y)
              have HB8 := hide (HB8.out.store y)
              have HB6 := hide (HB6.out.gstore_other (r := y) (b' := b8) (by omega))
              refine wpAnyT_take (i := 9) (.bool (((rg : Nat) : Int) != 0)) rfl (by kernel_rfl) (by kernel_rfl) (by kernel_rfl) (by simp [Region.wanted]) (fun V hV => by go_simp) hS3 ?_
              try simp only [Act.put, List.getElem_toArray, List.getElem_cons_zero, List.getElem_cons_succ, List.setIfInBounds_toArray, List.set_cons_zero, List.set_cons_succ]
              refine wpAnyT_done (by kernel_rfl) ?_ _
              clear hS hS2 hS3
              have HRT := hide HRS.out.symm
              clear HRS
              go_wp2_with fail
              go_roundw
              case rel => exact ⟨i + 1, by omega, by go_num, by rw [← HRT.out]; simp, HE, HBl, by rw [HQ1.out]; exact HB6, by rw [HP1.out]; exact HB8⟩
              case measure => simp [intOf]; omega
        · obtain rfl : i = n - 1 := by omega
          have hnI : ¬ ((n - 1 : Nat) : Int) < (n : Int) - 1 := by omega
          generalize hkk : kerG (qwG n a (n - 1)) = kk at HRK HKE
          generalize hrr : rootsG a = rr at HRK HRA
          have hrk : rr = kk := HRK.out
          subst hrk
          clear hkk hrr HRK
          generalize qwG n a (n - 1) = q at HB6 HKE HQ
          generalize prodN n (sel4 a b c d) (n - 1) = p at HB8 HNO HNS HP
          generalize nsG p = ns at HNO HNS
          generalize rootedB (sel4 a b c d) (n - 1) = rb at HNS ⊢
          clear HQ HP HRO HSI HCK
          generalize n - 1 = m at hnI ⊢
          obtain ⟨⟨d0, d1, d2, d3, d4, d5⟩, zl⟩ := HBl.out.cells0
          go_wp2_with fail
          clear d0 d1 d2 d3 d4 d5 zl
          refine (HRA.out _ HE.out).mono ?_
          rintro e w8 ⟨rfl, hE⟩
          have HE := hide (HE.out.trans hE)
          have HB6 := hide (HB6.out.ext hE)
          have HB8 := hide (HB8.out.ext hE)
          clear hE HBl
          obtain ⟨c0, c1, c2, c3, c4, c5, z⟩ := HB6.out.cells
          go_wp2_with fail
          clear c0 c1 c2 c3 c4 c5 z
          refine (HKE.out _).mono ?_
          rintro e w9 ⟨rfl, hE⟩
          have HE := hide (HE.out.trans hE)
          have HB8 := hide (HB8.out.ext hE)
          clear hE HB6
          obtain ⟨c0, c1, c2, c3, c4, c5, z⟩ := HB8.out.cells
          go_wp2_with fail
          clear c0 c1 c2 c3 c4 c5 z
          refine (HNO.out _).mono ?_
          rintro e w10 ⟨rfl, hE⟩
          have HE := hide (HE.out.trans hE)
          clear hE HB8
          cases rb
          case false =>
            go_wp2_with fail
            refine (HAW.out _ HE.out).mono ?_
            rintro e w11 ⟨rfl, hE⟩
            have HE := hide (HE.out.trans hE)
            clear hE
            go_wp2_with fail
            go_ret
            exact ⟨rfl, HE.out⟩
          case true =>
            have hns : ns = true := HNS.out rfl
            subst hns
            clear HNS
            go_wp2_with fail
            refine (HAW.out _ HE.out).mono ?_
            rintro e w11 ⟨rfl, hE⟩
            have HE := hide (HE.out.trans hE)
            clear hE
            go_wp2_with fail
            go_ret
            exact ⟨rfl, HE.out⟩
end Go.Proofs.YtpcboonjalbihaaDoor
