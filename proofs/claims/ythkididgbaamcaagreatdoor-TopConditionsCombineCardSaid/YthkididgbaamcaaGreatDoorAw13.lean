/-
  The examples of the chapter (roundtablelaw13.awake).
  Conditions: as each theorem states.
-/
import Derived.Test.YthkididgbaamcaaGreatDoorTaskC
import Derived.Test.YthkididgbaamcaaGreatDoorOwned
import Derived.Test.YthkididgbaamcaaGreatDoorTaskP
import Derived.Test.YthkididgbaamcaaGreatDoorGraphsR
namespace Go.Proofs.YthkididgbaamcaaGreatDoor
open Go.RowKit
attribute [local go_sem] Oper.semAt_some

theorem results_agg3 {fn : Func} {a : Tmp} (h : fn.results = #[.cell a 25]) (tmps : Array Value) (w : World) {g : Nat} {u0 u1 u2 : Value} (ha : tmps.getD a undef = .pointer (some ⟨g, 0, none⟩))
    (h0 : w.cell? ⟨g, 0, none⟩ = some u0) (h1 : w.cell? ⟨g, 1, none⟩ = some u1) (h2 : w.cell? ⟨g, 2, none⟩ = some u2) : (results fn tmps).run Tryz.prog w = .ok (.agg #[u0, u1, u2]) w := by
  rw [Array.getD_eq_getD_getElem?] at ha
  simp [results, h, ha, go_sem, h0, h1, h2]
theorem exAt_zero (W : World) (op num : Int) : ExAt W (.agg #[.int .i64 op, .int .i64 num, .slice none 0 0]) (.mk op num []) :=
  .mk op num [] none 0 (fun _ => .slice none 0 0) 0 0 (Nat.le_refl _) (by simp) (fun h => absurd h (by simp)) (fun i hi => absurd hi (Nat.not_lt_zero _)) (fun i hi => absurd hi (Nat.not_lt_zero _))
theorem exAt_one {W : World} {g : Nat} {ea : Ex} {sa : Value} (op num : Int) (hb : W.heap[g]? = some (.cells #[.int .i64 ea.op, .int .i64 ea.num, sa] 25 (0, 0))) (ha : ExAt W (.agg #[.int .i64 ea.op, .int .i64 ea.num, sa]) ea) :
    ExAt W (.agg #[.int .i64 op, .int .i64 num, .slice (some ⟨g, 0, none⟩) 1 1]) (.mk op num [ea]) :=
  .mk op num [ea] (some ⟨g, 0, none⟩) 1 (fun _ => sa) g 0 (by simp) (by simp) (fun _ => ⟨rfl, lt_of_heap hb⟩) (fun i hi => by
    have hi : i < 1 := hi
    obtain rfl : i = 0 := by omega
    exact ⟨decl_cells hb 0, decl_cells hb 1, decl_cells hb 2⟩) (fun i hi => by
    have hi : i < 1 := hi
    obtain rfl : i = 0 := by omega
    exact ha)
theorem exAt_two {W : World} {g : Nat} {ea eb : Ex} {sa sb : Value} (op num : Int) (hb : W.heap[g]? = some (.cells #[.int .i64 ea.op, .int .i64 ea.num, sa, .int .i64 eb.op, .int .i64 eb.num, sb] 25 (0, 0))) (ha : ExAt W (.agg #[.int .i64 ea.op, .int .i64 ea.num, sa]) ea) (hc : ExAt W (.agg #[.int .i64 eb.op, .int .i64 eb.num, sb]) eb) :
    ExAt W (.agg #[.int .i64 op, .int .i64 num, .slice (some ⟨g, 0, none⟩) 2 2]) (.mk op num [ea, eb]) :=
  .mk op num [ea, eb] (some ⟨g, 0, none⟩) 2 (fun i => if i = 0 then sa else sb) g 0 (by simp) (by simp) (fun _ => ⟨rfl, lt_of_heap hb⟩) (fun i hi => by
    have hi : i < 2 := hi
    obtain rfl | rfl : i = 0 ∨ i = 1 := by omega
    · exact ⟨decl_cells hb 0, decl_cells hb 1, decl_cells hb 2⟩
    · exact ⟨decl_cells hb 3, decl_cells hb 4, decl_cells hb 5⟩) (fun i hi => by
    have hi : i < 2 := hi
    obtain rfl | rfl : i = 0 ∨ i = 1 := by omega
    · exact ha
    · exact hc)
theorem ExAt.agree {w W : World} {v : Value} {e : Ex} (h : ExAt w v e) (hz : w.heap.size ≤ W.heap.size) (hE : ∀ k, k < w.heap.size → W.heap[k]? = w.heap[k]?) : ExAt W v e := by
  induction h with
  | mk op num xs p c ss b o hc hl hp hcell hsub ih =>
    refine .mk op num xs p c ss b o hc hl (fun h => ⟨(hp h).1, Nat.lt_of_lt_of_le (hp h).2 hz⟩) (fun i hi => ?_) ih
    obtain ⟨h1, h2, h3⟩ := hcell i hi
    have hb := hE b (hp (by omega)).2
    have k : ∀ j, W.cell? ⟨b, j, none⟩ = w.cell? ⟨b, j, none⟩ := fun j => World.cell?_of_block (a := ⟨b, j, none⟩) hb
    exact ⟨(k _).trans h1, (k _).trans h2, (k _).trans h3⟩
/-- An expression that lies so whatever the blocks of S hold. -/
def ExBut (S : Nat → Prop) (w : World) (v : Value) (e : Ex) : Prop := ∀ W, w.heap.size ≤ W.heap.size → (∀ k, ¬ S k → k < w.heap.size → W.heap[k]? = w.heap[k]?) → ExAt W v e
theorem ExBut.at_ {S : Nat → Prop} {w : World} {v : Value} {e : Ex} (h : ExBut S w v e) : ExAt w v e := h w (Nat.le_refl _) fun _ _ _ => rfl
theorem ExBut.ext {S : Nat → Prop} {w W : World} {v : Value} {e : Ex} (h : ExBut S w v e) (hE : Ext w W) : ExBut S W v e := fun V hV hk => h V (Nat.le_trans hE.size hV) fun k h1 h2 => (hk k h1 (Nat.lt_of_lt_of_le h2 hE.size)).trans (hE.b.block k h2)
theorem ExBut.of {S S0 : Nat → Prop} {w0 w : World} {v : Value} {e : Ex} (h : ExBut S0 w0 v e) (hE : Ext w0 w) (hs : ∀ k, S k → S0 k ∨ w0.heap.size ≤ k) : ExBut S w v e := fun V hV hk => h V (Nat.le_trans hE.size hV) fun k hS hk0 => (hk k (fun hk' => (hs k hk').elim (fun h1 => hS h1) (fun h1 => by omega)) (Nat.lt_of_lt_of_le hk0 hE.size)).trans (hE.b.block k hk0)
/-- An expression is returned. -/
def RetE (S : Nat → Prop) (e : Ex) (w : World) (r : Ending) (w' : World) : Prop := ∃ u, r = .returned u ∧ ExBut S w' u e ∧ Ext w w'
theorem mknum_any (S : Nat → Prop) (n : Int) (w : World) : Calls Tryz.prog 14 #[.int .i64 n] w (RetE S (.mk 0 n []) w) := by
  go_enter Tryz.func14, Tryz.ntmps14
  go_wp2_with fail
  exact bodyPost_ret (results_agg3 rfl _ _ rfl (by rw [cell_new]; rfl) (by rw [cell_new]; rfl) (by rw [cell_new]; rfl)) rfl ⟨_, rfl, fun _ _ _ => exAt_zero _ _ _, (Ext.refl w).alloc _⟩
section
variable (w : World) (c1 c2 c3 c4 : Array Value) (t1 t2 t3 t4 : TypeId)
theorem at3_1 : (((w.alloc (.cells c1 t1)).alloc (.cells c2 t2)).alloc (.cells c3 t3)).heap[w.heap.size + 1]? = some (.cells c2 t2 (0, 0)) := by
  rw [Below.heap_alloc _ _ _ (by simp)]
  have := heap_alloc_new (w.alloc (.cells c1 t1)) (.cells c2 t2)
  rwa [World.size_alloc] at this
theorem at3_2 : (((w.alloc (.cells c1 t1)).alloc (.cells c2 t2)).alloc (.cells c3 t3)).heap[w.heap.size + 1 + 1]? = some (.cells c3 t3 (0, 0)) := by
  have := heap_alloc_new ((w.alloc (.cells c1 t1)).alloc (.cells c2 t2)) (.cells c3 t3)
  simpa only [World.size_alloc] using this
theorem at4_2 : ((((w.alloc (.cells c1 t1)).alloc (.cells c2 t2)).alloc (.cells c3 t3)).alloc (.cells c4 t4)).heap[w.heap.size + 1 + 1]? = some (.cells c3 t3 (0, 0)) := by
  rw [Below.heap_alloc _ _ _ (by simp)]
  exact at3_2 w c1 c2 c3 t1 t2 t3
theorem at4_3 : ((((w.alloc (.cells c1 t1)).alloc (.cells c2 t2)).alloc (.cells c3 t3)).alloc (.cells c4 t4)).heap[w.heap.size + 1 + 1 + 1]? = some (.cells c4 t4 (0, 0)) := by
  have := heap_alloc_new (((w.alloc (.cells c1 t1)).alloc (.cells c2 t2)).alloc (.cells c3 t3)) (.cells c4 t4)
  simpa only [World.size_alloc] using this
end
theorem mktwo_any (S : Nat → Prop) (op : Int) (ea eb : Ex) (a b : Value) (w : World) (hs : ∀ k, S k → k < w.heap.size) (ha : ExBut S w a ea) (hb : ExBut S w b eb) : Calls Tryz.prog 7 #[.int .i64 op, a, b] w (RetE S (.mk op 0 [ea, eb]) w) := by
  obtain ⟨p, c, rfl, hc, hl⟩ := ha.at_.form
  obtain ⟨q, d, rfl, hd, hm⟩ := hb.at_.form
  have HA := hide ha
  have HB := hide hb
  clear ha hb
  go_enter Tryz.func7, Tryz.ntmps7
  go_wp2_with fail
  obtain ⟨W, hW⟩ : ∃ W, (((w.alloc (.cells #[.int .i64 ea.op, .int .i64 ea.num, .slice p ea.args.length c] 25)).alloc (.cells #[.int .i64 eb.op, .int .i64 eb.num, .slice q eb.args.length d] 25)).alloc (.cells #[.int .i64 op, .int .i64 0, .slice (some ⟨w.heap.size + 1 + 1 + 1, 0, none⟩) 2 2] 25)).alloc (.cells #[.int .i64 ea.op, .int .i64 ea.num, .slice p ea.args.length c, .int .i64 eb.op, .int .i64 eb.num, .slice q eb.args.length d] 25) = W := ⟨_, rfl⟩
  have hE : Ext w W := by rw [← hW]; exact ((((Ext.refl w).alloc _).alloc _).alloc _).alloc _
  have hb : W.heap[w.heap.size + 1 + 1]? = some (.cells #[.int .i64 op, .int .i64 0, .slice (some ⟨w.heap.size + 1 + 1 + 1, 0, none⟩) 2 2] 25 (0, 0)) := by rw [← hW]; exact at4_2 _ _ _ _ _ _ _ _ _
  have hc : W.heap[w.heap.size + 1 + 1 + 1]? = some (.cells #[.int .i64 ea.op, .int .i64 ea.num, .slice p ea.args.length c, .int .i64 eb.op, .int .i64 eb.num, .slice q eb.args.length d] 25 (0, 0)) := by rw [← hW]; exact at4_3 _ _ _ _ _ _ _ _ _
  rw [hW]
  exact bodyPost_ret (results_agg3 rfl _ _ rfl (decl_cells hb 0) (decl_cells hb 1) (decl_cells hb 2)) rfl ⟨_, rfl, fun V hV hk => exAt_two op 0 ((hk _ (fun h => by have := hs _ h; omega) (lt_of_heap hc)).trans hc) (HA.out.ext hE V hV hk) (HB.out.ext hE V hV hk), hE⟩
/-- The end of a function that keeps its result in an expression's cells. -/
theorem ebox_end {W : World} {g : Nat} {u0 u1 u2 v0 v1 v2 : Value} (h : W.heap[g]? = some (.cells #[u0, u1, u2] 25 (0, 0))) :
    (((W.setCell ⟨g, 0, none⟩ v0).setCell ⟨g, 1, none⟩ v1).setCell ⟨g, 2, none⟩ v2).heap[g]? = some (.cells #[v0, v1, v2] 25 (0, 0)) := heap_set (heap_set (heap_set h v0) v1) v2
theorem ebox_but {S : Nat → Prop} {s : Nat} {W : World} {v : Value} {e : Ex} (h : ExBut (fun k => S k ∨ k = s) W v e) (v0 v1 v2 : Value) : ExBut S (((W.setCell ⟨s, 0, none⟩ v0).setCell ⟨s, 1, none⟩ v1).setCell ⟨s, 2, none⟩ v2) v e :=
  fun V hV hk => h V (by simpa using hV) fun k hS hkz => by
    have hne : k ≠ s := fun h => hS (.inr h)
    rw [hk k (fun h => hS (.inl h)) (by simpa using hkz), Below.heap_setCell _ _ _ _ hne, Below.heap_setCell _ _ _ _ hne, Below.heap_setCell _ _ _ _ hne]
theorem ebox_ext {w W : World} (h : Ext w W) {g : Nat} (hg : w.heap.size ≤ g) (v0 v1 v2 : Value) : Ext w (((W.setCell ⟨g, 0, none⟩ v0).setCell ⟨g, 1, none⟩ v1).setCell ⟨g, 2, none⟩ v2) := ((h.setCell hg v0).setCell hg v1).setCell hg v2
theorem results_agg12 {fn : Func} {a : Tmp} (h : fn.results = #[.cell a 38]) (tmps : Array Value) (w : World) {g : Nat} {u0 u1 u2 u3 u4 u5 u6 u7 u8 u9 u10 u11 : Value} (ha : tmps.getD a undef = .pointer (some ⟨g, 0, none⟩))
    (hb : w.heap[g]? = some (.cells #[u0, u1, u2, u3, u4, u5, u6, u7, u8, u9, u10, u11] 38 (0, 0))) : (results fn tmps).run Tryz.prog w = .ok (.agg #[u0, u1, u2, u3, u4, u5, u6, u7, u8, u9, u10, u11]) w := by
  have h0 : w.cell? ⟨g, 0, none⟩ = some u0 := decl_cells hb 0
  have h1 : w.cell? ⟨g, 1, none⟩ = some u1 := decl_cells hb 1
  have h2 : w.cell? ⟨g, 2, none⟩ = some u2 := decl_cells hb 2
  have h3 : w.cell? ⟨g, 3, none⟩ = some u3 := decl_cells hb 3
  have h4 : w.cell? ⟨g, 4, none⟩ = some u4 := decl_cells hb 4
  have h5 : w.cell? ⟨g, 5, none⟩ = some u5 := decl_cells hb 5
  have h6 : w.cell? ⟨g, 6, none⟩ = some u6 := decl_cells hb 6
  have h7 : w.cell? ⟨g, 7, none⟩ = some u7 := decl_cells hb 7
  have h8 : w.cell? ⟨g, 8, none⟩ = some u8 := decl_cells hb 8
  have h9 : w.cell? ⟨g, 9, none⟩ = some u9 := decl_cells hb 9
  have h10 : w.cell? ⟨g, 10, none⟩ = some u10 := decl_cells hb 10
  have h11 : w.cell? ⟨g, 11, none⟩ = some u11 := decl_cells hb 11
  rw [Array.getD_eq_getD_getElem?] at ha
  simp [results, h, ha, go_sem, h0, h1, h2, h3, h4, h5, h6, h7, h8, h9, h10, h11]
/-- The chapter's declaration. -/
def consD : Dc := ⟨2, 2, .mk 0 0 [], .mk 13 0 [.mk 13 0 [.mk 10 0 [.mk 7 0 [.mk 3 0 [.mk 1 0 []], .mk 3 0 [.mk 1 1 []]], .mk 14 0 [.mk 14 0 [.mk 7 0 [.mk 3 0 [.mk 1 2 []], .mk 2 0 [.mk 1 3 []]]]]]]], .mk 0 0 []⟩
def RetD (d : Dc) (w : World) (r : Ending) (w' : World) : Prop := ∃ u, r = .returned u ∧ DcAt w' u d ∧ Ext w w'
end Go.Proofs.YthkididgbaamcaaGreatDoor

namespace Go.Proofs.YthkididgbaamcaaGreatDoor
open Go.RowKit

/-- The order of two vectors. -/
def ordL : List Int → List Int → Int
  | [], [] => 0
  | [], _ :: _ => -1
  | _ :: _, [] => 1
  | a :: x, b :: y => if a < b then -1 else if b < a then 1 else ordL x y
theorem ordL_zero : ∀ {a b : List Int}, ordL a b = 0 ↔ a = b
  | [], [] => by simp [ordL]
  | [], _ :: _ => by simp [ordL]
  | _ :: _, [] => by simp [ordL]
  | a :: x, b :: y => by
    simp only [ordL]
    by_cases h1 : a < b
    · rw [if_pos h1]; simp; omega
    rw [if_neg h1]
    by_cases h2 : b < a
    · rw [if_pos h2]; simp; omega
    rw [if_neg h2, ordL_zero]
    have : a = b := by omega
    simp [this]
theorem ordL_cases : ∀ (a b : List Int), ordL a b = -1 ∨ ordL a b = 0 ∨ ordL a b = 1
  | [], [] => by simp [ordL]
  | [], _ :: _ => by simp [ordL]
  | _ :: _, [] => by simp [ordL]
  | a :: x, b :: y => by
    simp only [ordL]
    split
    · simp
    · split
      · simp
      · exact ordL_cases x y
theorem drop_getI {l : List Int} {i : Nat} (h : i < l.length) : l.drop i = l.getD i 0 :: l.drop (i + 1) := by
  rw [List.drop_eq_getElem_cons h, List.getD_eq_getElem?_getD, List.getElem?_eq_getElem h]; rfl
theorem ordL_step {a b : List Int} {i : Nat} (h1 : i < a.length) (h2 : i < b.length) : ordL (a.drop i) (b.drop i) = if a.getD i 0 < b.getD i 0 then -1 else if b.getD i 0 < a.getD i 0 then 1 else ordL (a.drop (i + 1)) (b.drop (i + 1)) := by
  rw [drop_getI h1, drop_getI h2]; rfl
theorem ordL_end {a b : List Int} {i : Nat} (h : a.length ≤ i ∨ b.length ≤ i) (h1 : i ≤ a.length) (h2 : i ≤ b.length) : ordL (a.drop i) (b.drop i) = if a.length < b.length then -1 else if b.length < a.length then 1 else 0 := by
  rcases Nat.lt_trichotomy a.length b.length with h3 | h3 | h3
  · rw [if_pos h3, List.drop_eq_nil_of_le (show a.length ≤ i by omega), drop_getI (show i < b.length by omega)]; rfl
  · rw [if_neg (by omega), if_neg (by omega), List.drop_eq_nil_of_le (show a.length ≤ i by omega), List.drop_eq_nil_of_le (show b.length ≤ i by omega)]; rfl
  · rw [if_neg (by omega), if_pos h3, List.drop_eq_nil_of_le (show b.length ≤ i by omega), drop_getI (show i < a.length by omega)]; rfl

set_option maxHeartbeats 1000000 in
theorem rorder_any (a b : List Int) (u v : Value) (w : World) (ha : Row icells 1 w u a) (hb : Row icells 1 w v b) :
    Calls Tryz.prog 50 #[u, v] w fun e w' => e = .returned (.int .i64 (ordL a b)) ∧ Ext w w' := by
  obtain ⟨p, c, rfl, hc, hl, hat⟩ := ha.int_all
  obtain ⟨q, d, rfl, hd, hm, hat2⟩ := hb.int_all
  have HA := hide hat
  have HB := hide hat2
  have HS := hide (fun i => ordL_step (a := a) (b := b) (i := i))
  have HD := hide (fun i => ordL_end (a := a) (b := b) (i := i))
  have H0 : Hid (ordL a b = ordL (a.drop 0) (b.drop 0)) := rfl
  clear ha hb hat hat2
  generalize ordL a b = res at H0 ⊢
  generalize hf : (fun i => ordL (a.drop i) (b.drop i)) = f
  have hf' : ∀ i, ordL (a.drop i) (b.drop i) = f i := fun i => by rw [← hf]
  simp only [hf'] at HS HD H0
  clear hf hf'
  generalize b.length = lb at *
  generalize a.length = la at *
  generalize hfa : a.getD = fa at *
  generalize hfb : b.getD = fb at *
  clear hfa hfb
  go_enter Tryz.func50, Tryz.ntmps50
  go_wp2_with fail
  go_loopw [5] (fun x wr => ∃ i : Nat, i ≤ la ∧ i ≤ lb ∧ x = .int .i64 i ∧ Hid (res = f i) ∧ Ext w wr) (fun x _ => la - (intOf x).toNat)
  case atStart => exact ⟨0, by omega, by omega, rfl, H0, Ext.refl _⟩
  case round =>
    obtain ⟨i, hi, hi2, rfl, HF, hE⟩ := hrel
    by_cases h1 : i < la
    · by_cases h2 : i < lb
      · obtain ⟨b1, o1, rfl, hb1, hat⟩ := HA.out (by omega)
        obtain ⟨b2, o2, rfl, hb2, hat2⟩ := HB.out (by omega)
        have hca := hat i h1
        have hcb := hat2 i h2
        have HSI := hide (HF.out.trans (HS.out i h1 h2))
        have hz1 := hE.size
        have hb1' : b1 < wr.heap.size := by omega
        have hb2' : b2 < wr.heap.size := by omega
        have hx := hca wr hE
        have hy := hcb wr hE
        clear hat hat2 hca hcb hz1
        generalize fa i 0 = x at hx HSI
        generalize fb i 0 = y at hy HSI
        have tail : Hid (∀ w9, Ext wr w9 → w9.cell? ⟨b1, o1 + i, none⟩ = some (.int .i64 x) ∧ w9.cell? ⟨b2, o2 + i, none⟩ = some (.int .i64 y) ∧ b1 < w9.heap.size ∧ b2 < w9.heap.size) := fun w9 h9 =>
          ⟨(h9.cell hb1').trans hx, (h9.cell hb2').trans hy, Nat.lt_of_lt_of_le hb1' h9.size, Nat.lt_of_lt_of_le hb2' h9.size⟩
        by_cases hlt : x < y
        · have HR := hide (HSI.out.trans (if_pos hlt))
          have hd : decide (x < y) = true := by simp [hlt]
          clear hlt
          go_wp2_with fail
          refine wp_region_ext (by kernel_rfl) (by kernel_rfl) ?_
          repeat (go_big_quiet_step (fail))
          refine wpQuiet_nil ?_
          rintro w9 ⟨⟨_, hE9⟩, rfl⟩
          go_wp2_with fail
          go_ret
          exact ⟨ret_int HR.out.symm, hE.trans hE9⟩
        · have hd : decide (x < y) = false := by simp; omega
          by_cases hgt : y < x
          · have HR := hide ((HSI.out.trans (if_neg hlt)).trans (if_pos hgt))
            have hd2 : decide (y < x) = true := by simp [hgt]
            clear hlt hgt
            go_wp2_with fail
            refine wp_region_ext (by kernel_rfl) (by kernel_rfl) ?_
            repeat (go_big_quiet_step (fail))
            refine wpQuiet_nil ?_
            rintro w9 ⟨⟨_, hE9⟩, rfl⟩
            obtain ⟨hx9, hy9, hz9, hz99⟩ := tail.out _ hE9
            clear hx hy
            go_wp2_with fail
            refine wp_region_ext (by kernel_rfl) (by kernel_rfl) ?_
            repeat (go_big_quiet_step (fail))
            refine wpQuiet_nil ?_
            rintro w10 ⟨⟨_, hE10⟩, rfl⟩
            clear hx9 hy9
            go_wp2_with fail
            go_ret
            exact ⟨ret_int HR.out.symm, (hE.trans hE9).trans hE10⟩
          · have HR := hide ((HSI.out.trans (if_neg hlt)).trans (if_neg hgt))
            have hd2 : decide (y < x) = false := by simp; omega
            clear hlt hgt
            go_wp2_with fail
            refine wp_region_ext (by kernel_rfl) (by kernel_rfl) ?_
            repeat (go_big_quiet_step (fail))
            refine wpQuiet_nil ?_
            rintro w9 ⟨⟨_, hE9⟩, rfl⟩
            obtain ⟨hx9, hy9, hz9, hz99⟩ := tail.out _ hE9
            clear hx hy
            go_wp2_with fail
            refine wp_region_ext (by kernel_rfl) (by kernel_rfl) ?_
            repeat (go_big_quiet_step (fail))
            refine wpQuiet_nil ?_
            rintro w10 ⟨⟨_, hE10⟩, rfl⟩
            clear hx9 hy9
            go_wp2_with fail
            go_roundw
            case rel => exact ⟨i + 1, by omega, by omega, by go_num, HR.out, (hE.trans hE9).trans hE10⟩
            case measure => simp [intOf]; omega
      · have HR := hide (HF.out.trans (HD.out i (.inr (by omega)) hi hi2))
        obtain rfl : i = lb := by omega
        have hd1 : decide (i < la) = true := by simp [h1]
        have hd3 : decide (la < i) = false := by simp; omega
        rw [if_neg (by omega), if_pos h1] at HR
        go_wp2_with fail
        go_ret
        exact ⟨ret_int HR.out.symm, hE⟩
    · obtain rfl : i = la := by omega
      have HR := hide (HF.out.trans (HD.out i (.inl (Nat.le_refl _)) hi hi2))
      by_cases h2 : i < lb
      · rw [if_pos h2] at HR
        go_wp2_with fail
        go_ret
        exact ⟨ret_int HR.out.symm, hE⟩
      · obtain rfl : i = lb := by omega
        rw [if_neg h2, if_neg h2] at HR
        go_wp2_with fail
        go_ret
        exact ⟨ret_int HR.out.symm, hE⟩

theorem lists_ne_at {α : Type} [DecidableEq α] {a b : List (List α)} {i : Nat} (hi : i < b.length) (h : a.getD i [] ≠ b.getD i []) : decide (a = b) = false := by
  rw [decide_eq_false_iff_not]
  rintro rfl
  exact h rfl
theorem lists_eq_of {α : Type} [DecidableEq α] {a b : List (List α)} (hl : a.length = b.length) (h : ∀ j, j < b.length → a.getD j [] = b.getD j []) : decide (a = b) = true := by
  rw [decide_eq_true_iff]
  apply List.ext_getElem hl
  intro i h1 h2
  have := h i h2
  rw [List.getD_eq_getElem?_getD, List.getD_eq_getElem?_getD, List.getElem?_eq_getElem h1, List.getElem?_eq_getElem h2] at this
  exact this
set_option maxHeartbeats 1000000 in
theorem rsamev_any (a b : List (List Int)) (u v : Value) (w : World) (ha : Rows2 icells 1 w u a) (hb : Rows2 icells 1 w v b) :
    Calls Tryz.prog 51 #[u, v] w fun e w' => e = .returned (.bool (decide (a = b))) ∧ Ext w w' := by
  obtain ⟨p, c, rfl, hc, hl, hat⟩ := ha.sl_all
  obtain ⟨q, d, rfl, hd, hm, hat2⟩ := hb.sl_all
  have HA := hide hat
  have HB := hide hat2
  clear ha hb hat hat2
  by_cases hlen : a.length = b.length
  · have H1 := hide (fun i => lists_ne_at (a := a) (b := b) (i := i))
    have H2 := hide (lists_eq_of (a := a) (b := b) hlen)
    have hlen' := hlen.symm
    clear hlen
    generalize decide (a = b) = res at H1 H2 ⊢
    generalize b.length = lb at *
    generalize a.length = la at *
    subst hlen'
    generalize hfa : a.getD = fa at *
    generalize hfb : b.getD = fb at *
    clear hfa hfb
    go_enter Tryz.func51, Tryz.ntmps51
    go_wp2_with fail
    go_loopw [5] (fun x wr => ∃ i : Nat, i ≤ lb ∧ x = .int .i64 i ∧ (∀ j, j < i → fa j [] = fb j []) ∧ Ext w wr) (fun x _ => lb - (intOf x).toNat)
    case atStart => exact ⟨0, by omega, rfl, fun j hj => by omega, Ext.refl _⟩
    case round =>
      obtain ⟨i, hi, rfl, hj, hE⟩ := hrel
      have HJ := hide hj
      clear hj
      by_cases hlt : i < lb
      · obtain ⟨b1, o1, rfl, hb1, hat⟩ := HA.out (by omega)
        obtain ⟨b2, o2, rfl, hb2, hat2⟩ := HB.out (by omega)
        obtain ⟨q1, d1, hca, hra, hla⟩ := hat i hlt
        obtain ⟨q2, d2, hcb, hrb, hlb⟩ := hat2 i hlt
        have hx := hca wr hE
        have hy := hcb wr hE
        have HF := hide (H1.out i hlt)
        have HN : Hid (fa i [] = fb i [] → ∀ j, j < i + 1 → fa j [] = fb j []) := fun h j hj => by
          by_cases e : j = i
          · subst e; exact h
          · exact HJ.out j (by omega)
        have HORD := hide (fun W (hW : Ext w W) => rorder_any _ _ _ _ W (hra.ext hW) (hrb.ext hW))
        clear hat hat2 hca hcb hra hrb
        generalize fa i [] = x at hx HF HN HORD hla
        generalize fb i [] = y at hy HF HN HORD hlb
        have HQ := hide (ordL_zero (a := x) (b := y))
        have hz1 := hE.size
        have hb1' : b1 < wr.heap.size := by omega
        have hb2' : b2 < wr.heap.size := by omega
        generalize ordL x y = g at HORD HQ
        clear hz1
        by_cases hg : g = 0
        · have HR := hide (HN.out (HQ.out.1 hg))
          have hd : (g != 0) = false := by simp [hg]
          clear hg
          go_wp2_with fail
          refine wp_region_ext (by kernel_rfl) (by kernel_rfl) ?_
          repeat (go_big_quiet_step ((go_at_call 50; exact Calls.ext_of (HORD.out _ (by simp [go_sem, hE])))))
          refine wpQuiet_nil ?_
          rintro w9 ⟨⟨_, hE9⟩, rfl⟩
          clear hx hy
          go_wp2_with fail
          go_roundw
          case rel => exact ⟨i + 1, by omega, by go_num, HR.out, hE.trans hE9⟩
          case measure => simp [intOf]; omega
        · have HR := hide (HF.out (fun h => hg (HQ.out.2 h)))
          have hd : (g != 0) = true := by simp [hg]
          clear hg
          go_wp2_with fail
          refine wp_region_ext (by kernel_rfl) (by kernel_rfl) ?_
          repeat (go_big_quiet_step ((go_at_call 50; exact Calls.ext_of (HORD.out _ (by simp [go_sem, hE])))))
          refine wpQuiet_nil ?_
          rintro w9 ⟨⟨_, hE9⟩, rfl⟩
          clear hx hy
          go_wp2_with fail
          go_ret
          exact ⟨ret_bool HR.out.symm, hE.trans hE9⟩
      · obtain rfl : i = lb := by omega
        have HR := hide (H2.out HJ.out)
        go_wp2_with fail
        go_ret
        exact ⟨ret_bool HR.out.symm, hE⟩
  · have hne : decide (a = b) = false := decide_eq_false (fun h => hlen (by rw [h]))
    rw [hne]
    have hb : ((a.length : Int) != (b.length : Int)) = true := by simp; omega
    clear hlen hne
    go_enter Tryz.func51, Tryz.ntmps51
    go_wp2_with fail
    go_ret
    exact ⟨rfl, Ext.refl _⟩
end Go.Proofs.YthkididgbaamcaaGreatDoor

namespace Go.Proofs.YthkididgbaamcaaGreatDoor
open Go.RowKit
attribute [local go_sem] Oper.semAt_some

def exA : Ex := .mk 8 0 [.mk 2 0 [.mk 0 0 []], .mk 2 0 [.mk 0 1 []]]
def exG : Ex := .mk 4 0 [.mk 0 0 [], .mk 0 1 []]
theorem ev_in : inpS 2 2 exA = ([[0, 1]], 0) := by kernel_rfl
theorem ev_gr : graphsS 2 exG = ([⟨2, 3, 2, 0, 0, 0⟩, ⟨2, 3, 3, 0, 0, 0⟩], 0) := by kernel_rfl
theorem ev_tk : (taskS 2 consD).2 = 0 ∧ (taskS 2 consD).1.cs.length = 4 ∧ ((taskS 2 consD).1.cs.map fun c => c.out.length) = [1, 2, 2, 1] := ⟨by kernel_rfl, by kernel_rfl, by kernel_rfl⟩
theorem TkAt.outs_ {w : World} {v : Value} {T : Tk} (h : TkAt w v T) : ∃ p c, v = .agg #[.int .i64 T.n, .int .i64 T.ins, .int .i64 T.outs, .slice p T.cs.length c] ∧ (0 < T.cs.length → ∃ b o, p = some ⟨b, o, none⟩ ∧ b < w.heap.size ∧
    ∀ i x, T.cs[i]? = some x → ∃ q k, ∀ W, Ext w W → W.cell? ⟨b, o + i * 3 + 1, none⟩ = some (.slice q x.out.length k)) := by
  obtain ⟨u, vs, rfl, hl, ⟨p, c, rfl, hc, hcm, hat⟩, hcs⟩ := h
  rw [hl] at hat ⊢
  refine ⟨p, c, rfl, fun h0 => ?_⟩
  obtain ⟨b, o, hp, hb, hat⟩ := hat h0
  refine ⟨b, o, hp, hb, fun i x hx => ?_⟩
  have hi : i < T.cs.length := by
    rcases Nat.lt_or_ge i T.cs.length with h | h
    · exact h
    · rw [List.getElem?_eq_none h] at hx; cases hx
  have hv : vs[i]? = some vs[i] := List.getElem?_eq_getElem (by omega)
  obtain ⟨q, k, hq⟩ := (hcs i _ _ hv hx).out.sl
  refine ⟨q, k, fun W hE => (hE.cell (p := ⟨b, o + i * 3 + 1, none⟩) hb).trans ?_⟩
  have := hat i _ hv 1 _ rfl
  rw [hq] at this
  exact this
theorem rows_one {w : World} {v : Value} {l : List Int} (h : Row icells 1 w v l) : Rows2 icells 1 (w.alloc (.cells #[v] 45)) (.slice (some ⟨w.heap.size, 0, none⟩) 1 1) [l] := by
  refine ⟨[v], rfl, ⟨_, _, rfl, Nat.le_refl _, by simp, fun _ => ⟨w.heap.size, 0, rfl, by simp, fun i x hx j u hu => ?_⟩⟩, fun i u xs hu hx => ?_⟩
  · match i, hx with
    | 0, hx =>
      simp only [List.getElem?_cons_zero, Option.some.injEq] at hx
      subst hx
      simp only [Nat.zero_mul, Nat.zero_add]
      exact cell_new1 w v _ j u hu
    | _ + 1, hx => simp at hx
  · match i, hu, hx with
    | 0, hu, hx =>
      simp only [List.getElem?_cons_zero, Option.some.injEq] at hu hx
      subst hu hx
      exact h.ext ((Ext.refl _).alloc _)
    | _ + 1, hu, _ => simp at hu
end Go.Proofs.YthkididgbaamcaaGreatDoor
