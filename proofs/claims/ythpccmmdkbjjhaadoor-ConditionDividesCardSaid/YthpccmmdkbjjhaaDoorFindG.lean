/-
  Graphs searched in a list (slices.Index, Contains), and lists found sorted (slices.IsSortedFunc with graph.Compare).
  Conditions: as each theorem states.
-/
import Derived.Test.YthpccmmdkbjjhaaDoorGrAll
import Derived.Test.YthpccmmdkbjjhaaDoorGBoth
import Derived.Test.YthpccmmdkbjjhaaDoorIdxInt
import Derived.Test.YthpccmmdkbjjhaaDoorCmp
namespace Go.Proofs.YthpccmmdkbjjhaaDoor
open Go.RowKit
attribute [local go_sem] Oper.semAt_some

theorem eql_gr (x y : Gr) (W : World) : (binOp .eql 70 x.v y.v).run Tryd.prog W = .ok (.bool (decide (x = y))) W := by
  have h := eql_graph x.n x.h0 x.h1 x.h2 x.h3 x.h4 y.n y.h0 y.h1 y.h2 y.h3 y.h4 W
  rw [show geq ⟨x.n, x.h0, x.h1, x.h2, x.h3, x.h4⟩ ⟨y.n, y.h0, y.h1, y.h2, y.h3, y.h4⟩ = decide (x = y) from by rw [Bool.eq_iff_iff, geq_iff, decide_eq_true_iff]] at h
  exact h
theorem neq_gr (x y : Gr) (W : World) : (binOp .neq 70 x.v y.v).run Tryd.prog W = .ok (.bool (!decide (x = y))) W := by
  have h := neq_graph x.n x.h0 x.h1 x.h2 x.h3 x.h4 y.n y.h0 y.h1 y.h2 y.h3 y.h4 W
  rw [show geq ⟨x.n, x.h0, x.h1, x.h2, x.h3, x.h4⟩ ⟨y.n, y.h0, y.h1, y.h2, y.h3, y.h4⟩ = decide (x = y) from by rw [Bool.eq_iff_iff, geq_iff, decide_eq_true_iff]] at h
  exact h
set_option maxHeartbeats 1000000 in
theorem sindex_gr (L : List Gr) (y : Gr) (u : Value) (w : World) (hl : Row Gr.cells 6 w u L) :
    Calls Tryd.prog 70 #[u, y.v] w fun e w' => e = .returned (.int .i64 (firstAt (fun i => decide (y = L.getD i default)) L.length)) ∧ Ext w w' := by
  obtain ⟨p, c, rfl, hc, hlen, hat⟩ := hl.gr_all
  have HA := hide hat
  clear hl hat
  have H1 := hide (fun k hk => firstAt_at (P := fun i => decide (y = L.getD i default)) (n := L.length) (k := k) hk)
  have H2 := hide (firstAt_none (P := fun i => decide (y = L.getD i default)) (n := L.length))
  generalize firstAt (fun i => decide (y = L.getD i default)) L.length = res at H1 H2 ⊢
  generalize L.length = n at *
  generalize hf : L.getD = f at *
  clear hf
  go_enter Tryd.func70, Tryd.ntmps70
  go_wp2_with fail
  have HB : Hid (GrBox (w.alloc (gobj y)) w.heap.size y) := gr_new w y
  have HE0 : Hid (Ext w (w.alloc (gobj y))) := (Ext.refl w).alloc _
  generalize w.alloc (gobj y) = W at HB HE0 ⊢
  generalize w.heap.size = yb at HB ⊢
  go_loopw [8, 5] (fun x _ wr => ∃ i : Nat, i ≤ n ∧ x = .int .i64 i ∧ Hid (∀ j, j < i → decide (y = f j default) = false) ∧ Hid (Ext w wr) ∧ Hid (GrBox wr yb y)) (fun x _ _ => n - (intOf x).toNat)
  case atStart => exact ⟨0, by omega, rfl, fun j hj => by omega, HE0, HB⟩
  case round =>
    clear HB HE0
    obtain ⟨i, hi, rfl, HJ, HE, HB⟩ := hrel
    by_cases hlt : i < n
    · obtain ⟨b, o, rfl, hb, hat⟩ := HA.out (by omega)
      obtain ⟨x0, x1, x2, x3, x4, x5⟩ := hat i hlt
      replace x0 := x0 _ HE.out
      replace x1 := x1 _ HE.out
      replace x2 := x2 _ HE.out
      replace x3 := x3 _ HE.out
      replace x4 := x4 _ HE.out
      replace x5 := x5 _ HE.out
      clear hat
      have hb := Nat.lt_of_lt_of_le hb HE.out.size
      obtain ⟨c0, c1, c2, c3, c4, c5, cz⟩ := HB.out.cells
      have HF := hide (H1.out i hlt HJ.out)
      have HN : Hid (decide (y = f i default) = false → ∀ j, j < i + 1 → decide (y = f j default) = false) := fun h j hj => by
        by_cases e : j = i
        · subst e; exact h
        · exact HJ.out j (by omega)
      have heq := eql_gr y (f i default)
      generalize decide (y = f i default) = r at HF HN heq
      generalize f i default = x at x0 x1 x2 x3 x4 x5 heq
      go_wp2_with fail
      refine wp_region_ext (by kernel_rfl) (by kernel_rfl) ?_
      repeat (go_big_quiet_step (fail))
      refine wpQuiet_nil ?_
      rintro w9 ⟨⟨_, hE9⟩, rfl⟩
      have HE := hide (HE.out.trans hE9)
      have HB := hide (HB.out.ext hE9)
      clear heq x0 x1 x2 x3 x4 x5 c0 c1 c2 c3 c4 c5 cz hE9
      cases r
      · have HR := hide (HN.out rfl)
        go_wp2
        go_roundw
        case rel => exact ⟨i + 1, by omega, by go_num, HR.out, HE, HB⟩
        case measure => simp [intOf]; omega
      · have HR := hide (HF.out rfl)
        go_wp2
        go_ret
        exact ⟨ret_int HR.out.symm, HE.out⟩
    · obtain rfl : i = n := by omega
      have HR := hide (H2.out HJ.out)
      go_wp2_with fail
      go_ret
      exact ⟨ret_int HR.out.symm, HE.out⟩
theorem firstAt_ge {P : Nat → Bool} : ∀ n, -1 ≤ firstAt P n
  | 0 => by simp [firstAt]
  | n + 1 => by simp only [firstAt]; have := firstAt_ge (P := P) n; split <;> (try split) <;> omega
theorem firstAt_neg {P : Nat → Bool} : ∀ n, firstAt P n = -1 → ∀ i, i < n → P i = false
  | 0, _, i, hi => by omega
  | n + 1, h, i, hi => by
    simp only [firstAt] at h
    by_cases h1 : firstAt P n = -1
    · rw [if_pos h1] at h
      by_cases e : i = n
      · subst e
        by_cases h2 : P i = true
        · rw [if_pos h2] at h; omega
        · simpa using h2
      · exact firstAt_neg n h1 i (by omega)
    · rw [if_neg h1] at h; exact absurd h h1
theorem first_mem (L : List Gr) (y : Gr) : decide (0 ≤ firstAt (fun i => decide (y = L.getD i default)) L.length) = decide (y ∈ L) := by
  rw [Bool.eq_iff_iff, decide_eq_true_iff, decide_eq_true_iff]
  have hge := firstAt_ge (P := fun i => decide (y = L.getD i default)) L.length
  constructor
  · intro h
    refine Classical.byContradiction fun hn => ?_
    have : firstAt (fun i => decide (y = L.getD i default)) L.length = -1 := firstAt_none fun i hi => decide_eq_false fun he => hn (by
      rw [he, List.getD_eq_getElem?_getD, List.getElem?_eq_getElem hi]; exact List.getElem_mem hi)
    omega
  · intro h
    obtain ⟨i, hi, he⟩ := List.getElem_of_mem h
    refine Classical.byContradiction fun hn => ?_
    have h2 := firstAt_neg _ (show firstAt (fun i => decide (y = L.getD i default)) L.length = -1 by omega) i hi
    rw [decide_eq_false_iff_not, List.getD_eq_getElem?_getD, List.getElem?_eq_getElem hi] at h2
    exact h2 he.symm
theorem contains_gr (L : List Gr) (y : Gr) (u : Value) (w : World) (hl : Row Gr.cells 6 w u L) :
    Calls Tryd.prog 31 #[u, y.v] w fun e w' => e = .returned (.bool (decide (y ∈ L))) ∧ Ext w w' := by
  have HI := hide (fun W (hE : Ext w W) => sindex_gr L y u W (hl.ext hE))
  have HD := hide (first_mem L y)
  obtain ⟨p, c, rfl, -⟩ := hl.gr_all
  clear hl
  generalize decide (y ∈ L) = res at HD ⊢
  generalize firstAt (fun i => decide (y = L.getD i default)) L.length = k at HI HD
  go_enter Tryd.func31, Tryd.ntmps31
  go_upto_region 1 with fail
  have HB : Hid (GrBox (w.alloc (gobj y)) w.heap.size y) := gr_new w y
  have HE : Hid (Ext w (w.alloc (gobj y))) := (Ext.refl w).alloc _
  generalize w.alloc (gobj y) = W at HB HE ⊢
  generalize w.heap.size = yb at HB ⊢
  obtain ⟨c0, c1, c2, c3, c4, c5, cz⟩ := HB.out.cells
  go_wp2_with fail
  refine (HI.out _ HE.out).mono ?_
  rintro e w2 ⟨rfl, hE2⟩
  have HE := hide (HE.out.trans hE2)
  have hd := HD.out
  clear hE2 c0 c1 c2 c3 c4 c5 cz
  go_wp2_with fail
  go_ret
  exact ⟨rfl, HE.out⟩
end Go.Proofs.YthpccmmdkbjjhaaDoor
