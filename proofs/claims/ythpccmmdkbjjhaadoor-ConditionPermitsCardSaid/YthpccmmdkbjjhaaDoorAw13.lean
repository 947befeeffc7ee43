/-
  The examples of the chapter (roundtablelaw13.awake).
  Conditions: as each theorem states.
-/
import Derived.Test.YthpccmmdkbjjhaaDoorTaskC
import Derived.Test.YthpccmmdkbjjhaaDoorOwned
import Derived.Test.YthpccmmdkbjjhaaDoorTaskP
import Derived.Test.YthpccmmdkbjjhaaDoorGraphsR
namespace Go.Proofs.YthpccmmdkbjjhaaDoor
open Go.RowKit
attribute [local go_sem] Oper.semAt_some

theorem results_agg3 {fn : Func} {a : Tmp} (h : fn.results = #[.cell a 26]) (tmps : Array Value) (w : World) {g : Nat} {u0 u1 u2 : Value} (ha : tmps.getD a undef = .pointer (some ⟨g, 0, none⟩))
    (h0 : w.cell? ⟨g, 0, none⟩ = some u0) (h1 : w.cell? ⟨g, 1, none⟩ = some u1) (h2 : w.cell? ⟨g, 2, none⟩ = some u2) : (results fn tmps).run Tryd.prog w = .ok (.agg #[u0, u1, u2]) w := by
  rw [Array.getD_eq_getD_getElem?] at ha
  simp [results, h, ha, go_sem, h0, h1, h2]
theorem exAt_zero (W : World) (op num : Int) : ExAt W (.agg #[.int .i64 op, .int .i64 num, .slice none 0 0]) (.mk op num []) :=
  .mk op num [] none 0 (fun _ => .slice none 0 0) 0 0 (Nat.le_refl _) (by simp) (fun h => absurd h (by simp)) (fun i hi => absurd hi (Nat.not_lt_zero _)) (fun i hi => absurd hi (Nat.not_lt_zero _))
theorem exAt_one {W : World} {g : Nat} {ea : Ex} {sa : Value} (op num : Int) (hb : W.heap[g]? = some (.cells #[.int .i64 ea.op, .int .i64 ea.num, sa] 26 (0, 0))) (ha : ExAt W (.agg #[.int .i64 ea.op, .int .i64 ea.num, sa]) ea) :
    ExAt W (.agg #[.int .i64 op, .int .i64 num, .slice (some ⟨g, 0, none⟩) 1 1]) (.mk op num [ea]) :=
  .mk op num [ea] (some ⟨g, 0, none⟩) 1 (fun _ => sa) g 0 (by simp) (by simp) (fun _ => ⟨rfl, lt_of_heap hb⟩) (fun i hi => by
    have hi : i < 1 := hi
    obtain rfl : i = 0 := by omega
    exact ⟨decl_cells hb 0, decl_cells hb 1, decl_cells hb 2⟩) (fun i hi => by
    have hi : i < 1 := hi
    obtain rfl : i = 0 := by omega
    exact ha)
theorem exAt_two {W : World} {g : Nat} {ea eb : Ex} {sa sb : Value} (op num : Int) (hb : W.heap[g]? = some (.cells #[.int .i64 ea.op, .int .i64 ea.num, sa, .int .i64 eb.op, .int .i64 eb.num, sb] 26 (0, 0))) (ha : ExAt W (.agg #[.int .i64 ea.op, .int .i64 ea.num, sa]) ea) (hc : ExAt W (.agg #[.int .i64 eb.op, .int .i64 eb.num, sb]) eb) :
    ExAt W (.agg #[.int .i64 op, .int .i64 num, .slice (some ⟨g, 0, none⟩) 2 2]) (.mk op num [ea, eb]) :=
  .mk op num [ea, eb] (some ⟨g, 0, none⟩) 2 (fun i => if i = 0 then sa else sb) g 0 (by simp) (by simp) (fun _ => ⟨rfl, lt_of_heap hb⟩) (fun i hi => by
    have hi : i < 2 := hi
    obtain rfl | rfl : i = 0 ∨ i = 1 := by omega
    · exact ⟨decl_cells hb 0, decl_cells hb 1, decl_cells hb 2⟩
    · exact ⟨decl_cells hb 3, decl_cells hb 4, decl_cells hb 5⟩) (fun i hi => by
    have hi : i < 2 := hi
    obtain rfl | rfl : i = 0 ∨ i = 1 := by omega
    · exact ha
    · exact hc)
theorem ExAt.agree {w W : World} {v : Value} {e : Ex} (h : ExAt w v e) (hz : w.heap.size ≤ W.heap.size) (hE : ∀ k, k < w.heap.size → W.heap[k]? = w.heap[k]?) : ExAt W v e := by
  induction h with
  | mk op num xs p c ss b o hc hl hp hcell hsub ih =>
    refine .mk op num xs p c ss b o hc hl (fun h => ⟨(hp h).1, Nat.lt_of_lt_of_le (hp h).2 hz⟩) (fun i hi => ?_) ih
    obtain ⟨h1, h2, h3⟩ := hcell i hi
    have hb := hE b (hp (by omega)).2
    have k : ∀ j, W.cell? ⟨b, j, none⟩ = w.cell? ⟨b, j, none⟩ := fun j => World.cell?_of_block (a := ⟨b, j, none⟩) hb
    exact ⟨(k _).trans h1, (k _).trans h2, (k _).trans h3⟩
/-- An expression that lies so whatever the blocks of S hold. -/
def ExBut (S : Nat → Prop) (w : World) (v : Value) (e : Ex) : Prop := ∀ W, w.heap.size ≤ W.heap.size → (∀ k, ¬ S k → k < w.heap.size → W.heap[k]? = w.heap[k]?) → ExAt W v e
theorem ExBut.at_ {S : Nat → Prop} {w : World} {v : Value} {e : Ex} (h : ExBut S w v e) : ExAt w v e := h w (Nat.le_refl _) fun _ _ _ => rfl
theorem ExBut.ext {S : Nat → Prop} {w W : World} {v : Value} {e : Ex} (h : ExBut S w v e) (hE : Ext w W) : ExBut S W v e := fun V hV hk => h V (Nat.le_trans hE.size hV) fun k h1 h2 => (hk k h1 (Nat.lt_of_lt_of_le h2 hE.size)).trans (hE.b.block k h2)
theorem ExBut.of {S S0 : Nat → Prop} {w0 w : World} {v : Value} {e : Ex} (h : ExBut S0 w0 v e) (hE : Ext w0 w) (hs : ∀ k, S k → S0 k ∨ w0.heap.size ≤ k) : ExBut S w v e := fun V hV hk => h V (Nat.le_trans hE.size hV) fun k hS hk0 => (hk k (fun hk' => (hs k hk').elim (fun h1 => hS h1) (fun h1 => by omega)) (Nat.lt_of_lt_of_le hk0 hE.size)).trans (hE.b.block k hk0)
/-- An expression is returned. -/
def RetE (S : Nat → Prop) (e : Ex) (w : World) (r : Ending) (w' : World) : Prop := ∃ u, r = .returned u ∧ ExBut S w' u e ∧ Ext w w'
theorem mknum_any (S : Nat → Prop) (n : Int) (w : World) : Calls Tryd.prog 33 #[.int .i64 n] w (RetE S (.mk 0 n []) w) := by
  go_enter Tryd.func33, Tryd.ntmps33
  go_wp2_with fail
  exact bodyPost_ret (results_agg3 rfl _ _ rfl (by rw [cell_new]; rfl) (by rw [cell_new]; rfl) (by rw [cell_new]; rfl)) rfl ⟨_, rfl, fun _ _ _ => exAt_zero _ _ _, (Ext.refl w).alloc _⟩
section
variable (w : World) (c1 c2 c3 c4 : Array Value) (t1 t2 t3 t4 : TypeId)
theorem at3_1 : (((w.alloc (.cells c1 t1)).alloc (.cells c2 t2)).alloc (.cells c3 t3)).heap[w.heap.size + 1]? = some (.cells c2 t2 (0, 0)) := by
  rw [Below.heap_alloc _ _ _ (by simp)]
  have := heap_alloc_new (w.alloc (.cells c1 t1)) (.cells c2 t2)
  rwa [World.size_alloc] at this
theorem at3_2 : (((w.alloc (.cells c1 t1)).alloc (.cells c2 t2)).alloc (.cells c3 t3)).heap[w.heap.size + 1 + 1]? = some (.cells c3 t3 (0, 0)) := by
  have := heap_alloc_new ((w.alloc (.cells c1 t1)).alloc (.cells c2 t2)) (.cells c3 t3)
  simpa only [World.size_alloc] using this
theorem at4_2 : ((((w.alloc (.cells c1 t1)).alloc (.cells c2 t2)).alloc (.cells c3 t3)).alloc (.cells c4 t4)).heap[w.heap.size + 1 + 1]? = some (.cells c3 t3 (0, 0)) := by
  rw [Below.heap_alloc _ _ _ (by simp)]
  exact at3_2 w c1 c2 c3 t1 t2 t3
theorem at4_3 : ((((w.alloc (.cells c1 t1)).alloc (.cells c2 t2)).alloc (.cells c3 t3)).alloc (.cells c4 t4)).heap[w.heap.size + 1 + 1 + 1]? = some (.cells c4 t4 (0, 0)) := by
  have := heap_alloc_new (((w.alloc (.cells c1 t1)).alloc (.cells c2 t2)).alloc (.cells c3 t3)) (.cells c4 t4)
  simpa only [World.size_alloc] using this
end
theorem mkone_any (S : Nat → Prop) (op : Int) (ea : Ex) (a : Value) (w : World) (hs : ∀ k, S k → k < w.heap.size) (ha : ExBut S w a ea) : Calls Tryd.prog 28 #[.int .i64 op, a] w (RetE S (.mk op 0 [ea]) w) := by
  obtain ⟨p, c, rfl, hc, hl⟩ := ha.at_.form
  have HA := hide ha
  clear ha
  go_enter Tryd.func28, Tryd.ntmps28
  go_wp2_with fail
  obtain ⟨W, hW⟩ : ∃ W, ((w.alloc (.cells #[.int .i64 ea.op, .int .i64 ea.num, .slice p ea.args.length c] 26)).alloc (.cells #[.int .i64 op, .int .i64 0, .slice (some ⟨w.heap.size + 1 + 1, 0, none⟩) 1 1] 26)).alloc (.cells #[.int .i64 ea.op, .int .i64 ea.num, .slice p ea.args.length c] 26) = W := ⟨_, rfl⟩
  have hE : Ext w W := by rw [← hW]; exact (((Ext.refl w).alloc _).alloc _).alloc _
  have hb : W.heap[w.heap.size + 1]? = some (.cells #[.int .i64 op, .int .i64 0, .slice (some ⟨w.heap.size + 1 + 1, 0, none⟩) 1 1] 26 (0, 0)) := by rw [← hW]; exact at3_1 _ _ _ _ _ _ _
  have hc : W.heap[w.heap.size + 1 + 1]? = some (.cells #[.int .i64 ea.op, .int .i64 ea.num, .slice p ea.args.length c] 26 (0, 0)) := by rw [← hW]; exact at3_2 _ _ _ _ _ _ _
  rw [hW]
  exact bodyPost_ret (results_agg3 rfl _ _ rfl (decl_cells hb 0) (decl_cells hb 1) (decl_cells hb 2)) rfl ⟨_, rfl, fun V hV hk => exAt_one op 0 ((hk _ (fun h => by have := hs _ h; omega) (lt_of_heap hc)).trans hc) (HA.out.ext hE V hV hk), hE⟩
theorem mktwo_any (S : Nat → Prop) (op : Int) (ea eb : Ex) (a b : Value) (w : World) (hs : ∀ k, S k → k < w.heap.size) (ha : ExBut S w a ea) (hb : ExBut S w b eb) : Calls Tryd.prog 32 #[.int .i64 op, a, b] w (RetE S (.mk op 0 [ea, eb]) w) := by
  obtain ⟨p, c, rfl, hc, hl⟩ := ha.at_.form
  obtain ⟨q, d, rfl, hd, hm⟩ := hb.at_.form
  have HA := hide ha
  have HB := hide hb
  clear ha hb
  go_enter Tryd.func32, Tryd.ntmps32
  go_wp2_with fail
  obtain ⟨W, hW⟩ : ∃ W, (((w.alloc (.cells #[.int .i64 ea.op, .int .i64 ea.num, .slice p ea.args.length c] 26)).alloc (.cells #[.int .i64 eb.op, .int .i64 eb.num, .slice q eb.args.length d] 26)).alloc (.cells #[.int .i64 op, .int .i64 0, .slice (some ⟨w.heap.size + 1 + 1 + 1, 0, none⟩) 2 2] 26)).alloc (.cells #[.int .i64 ea.op, .int .i64 ea.num, .slice p ea.args.length c, .int .i64 eb.op, .int .i64 eb.num, .slice q eb.args.length d] 26) = W := ⟨_, rfl⟩
  have hE : Ext w W := by rw [← hW]; exact ((((Ext.refl w).alloc _).alloc _).alloc _).alloc _
  have hb : W.heap[w.heap.size + 1 + 1]? = some (.cells #[.int .i64 op, .int .i64 0, .slice (some ⟨w.heap.size + 1 + 1 + 1, 0, none⟩) 2 2] 26 (0, 0)) := by rw [← hW]; exact at4_2 _ _ _ _ _ _ _ _ _
  have hc : W.heap[w.heap.size + 1 + 1 + 1]? = some (.cells #[.int .i64 ea.op, .int .i64 ea.num, .slice p ea.args.length c, .int .i64 eb.op, .int .i64 eb.num, .slice q eb.args.length d] 26 (0, 0)) := by rw [← hW]; exact at4_3 _ _ _ _ _ _ _ _ _
  rw [hW]
  exact bodyPost_ret (results_agg3 rfl _ _ rfl (decl_cells hb 0) (decl_cells hb 1) (decl_cells hb 2)) rfl ⟨_, rfl, fun V hV hk => exAt_two op 0 ((hk _ (fun h => by have := hs _ h; omega) (lt_of_heap hc)).trans hc) (HA.out.ext hE V hV hk) (HB.out.ext hE V hV hk), hE⟩
theorem mkvar_any (S : Nat → Prop) (n : Int) (w : World) : Calls Tryd.prog 88 #[.int .i64 n] w (RetE S (.mk 1 n []) w) := by
  go_enter Tryd.func88, Tryd.ntmps88
  go_wp2_with fail
  exact bodyPost_ret (results_agg3 rfl _ _ rfl (by rw [cell_new]; rfl) (by rw [cell_new]; rfl) (by rw [cell_new]; rfl)) rfl ⟨_, rfl, fun _ _ _ => exAt_zero _ _ _, (Ext.refl w).alloc _⟩
/-- The end of a function that keeps its result in an expression's cells. -/
theorem ebox_end {W : World} {g : Nat} {u0 u1 u2 v0 v1 v2 : Value} (h : W.heap[g]? = some (.cells #[u0, u1, u2] 26 (0, 0))) :
    (((W.setCell ⟨g, 0, none⟩ v0).setCell ⟨g, 1, none⟩ v1).setCell ⟨g, 2, none⟩ v2).heap[g]? = some (.cells #[v0, v1, v2] 26 (0, 0)) := heap_set (heap_set (heap_set h v0) v1) v2
theorem ebox_but {S : Nat → Prop} {s : Nat} {W : World} {v : Value} {e : Ex} (h : ExBut (fun k => S k ∨ k = s) W v e) (v0 v1 v2 : Value) : ExBut S (((W.setCell ⟨s, 0, none⟩ v0).setCell ⟨s, 1, none⟩ v1).setCell ⟨s, 2, none⟩ v2) v e :=
  fun V hV hk => h V (by simpa using hV) fun k hS hkz => by
    have hne : k ≠ s := fun h => hS (.inr h)
    rw [hk k (fun h => hS (.inl h)) (by simpa using hkz), Below.heap_setCell _ _ _ _ hne, Below.heap_setCell _ _ _ _ hne, Below.heap_setCell _ _ _ _ hne]
theorem ebox_ext {w W : World} (h : Ext w W) {g : Nat} (hg : w.heap.size ≤ g) (v0 v1 v2 : Value) : Ext w (((W.setCell ⟨g, 0, none⟩ v0).setCell ⟨g, 1, none⟩ v1).setCell ⟨g, 2, none⟩ v2) := ((h.setCell hg v0).setCell hg v1).setCell hg v2
theorem mkat_any (S : Nat → Prop) (op p : Int) (w : World) (hs : ∀ k, S k → k < w.heap.size) : Calls Tryd.prog 42 #[.int .i64 op, .int .i64 p] w (RetE S (.mk op 0 [.mk 0 p []]) w) := by
  have HN := hide (fun W => mknum_any (fun k => S k ∨ k = w.heap.size) p W)
  have HO := hide (fun a W (hs : ∀ k, (S k ∨ k = w.heap.size) → k < W.heap.size) (h : ExBut (fun k => S k ∨ k = w.heap.size) W a (.mk 0 p [])) => mkone_any (fun k => S k ∨ k = w.heap.size) op (.mk 0 p []) a W hs h)
  have hE0 : Ext w (w.alloc (.cells #[.int .i64 0, .int .i64 0, .slice none 0 0] 26)) := (Ext.refl w).alloc _
  have HB0 := hide (heap_alloc_new w (.cells #[.int .i64 0, .int .i64 0, .slice none 0 0] 26))
  go_enter Tryd.func42, Tryd.ntmps42
  go_wp2_with fail
  refine (HN.out _).mono ?_
  rintro e w1 ⟨u, rfl, hu, hE1⟩
  have HU := hide hu
  have HZ1 := hide (lt_of_heap ((hE1.b.block _ (lt_of_heap HB0.out)).trans HB0.out))
  obtain ⟨q, k, rfl, -⟩ := hu.at_.form
  clear hu
  go_wp2_with fail
  refine (HO.out _ w1 (fun k hk => hk.elim (fun h => by have := hs k h; have := HZ1.out; omega) (fun h => by have := HZ1.out; omega)) HU.out).mono ?_
  rintro e w2 ⟨u, rfl, hu, hE2⟩
  have HU2 := hide hu
  obtain ⟨q2, k2, rfl, -⟩ := hu.at_.form
  have hE02 := hE0.trans (hE1.trans hE2)
  have hb2 := ((hE1.trans hE2).b.block _ (lt_of_heap HB0.out)).trans HB0.out
  have e0 := decl_cells hb2 0
  have e1 := decl_cells hb2 1
  have e2 := decl_cells hb2 2
  have f0 := frozen_of (j := 0) hb2
  have f1 := frozen_of (j := 1) hb2
  have f2 := frozen_of (j := 2) hb2
  have HB2 := hide hb2
  have HE02 := hide hE02
  have hz := lt_of_heap hb2
  clear hu hb2 hE0 hE1 hE2 hE02
  go_wp2_with fail
  exact bodyPost_ret (results_agg3 rfl _ _ rfl (decl_cells (ebox_end HB2.out) 0) (decl_cells (ebox_end HB2.out) 1) (decl_cells (ebox_end HB2.out) 2)) rfl ⟨_, rfl, ebox_but HU2.out _ _ _, ebox_ext HE02.out (Nat.le_refl _) _ _ _⟩
theorem mkboth_any (S : Nat → Prop) (op : Int) (ea eb : Ex) (a b : Value) (w : World) (hs : ∀ k, S k → k < w.heap.size) (ha : ExBut S w a ea) (hb : ExBut S w b eb) : Calls Tryd.prog 27 #[.int .i64 op, a, b] w (RetE S (.mk op 0 [ea, eb]) w) := by
  obtain ⟨p, c, rfl, hc, hl⟩ := ha.at_.form
  obtain ⟨q, d, rfl, hd, hm⟩ := hb.at_.form
  have HO := hide (fun W (hz : w.heap.size + 1 + 1 < W.heap.size) (hW : Ext w W) => mktwo_any (fun k => S k ∨ k = w.heap.size + 1 + 1) op ea eb _ _ W (fun k hk => hk.elim (fun h => by have := hs k h; omega) (fun h => by omega)) (ExBut.of ha hW (fun k hk => hk.elim .inl (fun h => .inr (by omega)))) (ExBut.of hb hW (fun k hk => hk.elim .inl (fun h => .inr (by omega)))))
  clear ha hb
  obtain ⟨w0, hw0⟩ : ∃ w0, ((w.alloc (.cells #[.int .i64 ea.op, .int .i64 ea.num, .slice p ea.args.length c] 26)).alloc (.cells #[.int .i64 eb.op, .int .i64 eb.num, .slice q eb.args.length d] 26)).alloc (.cells #[.int .i64 0, .int .i64 0, .slice none 0 0] 26) = w0 := ⟨_, rfl⟩
  have hE0 : Ext w w0 := by rw [← hw0]; exact (((Ext.refl w).alloc _).alloc _).alloc _
  have HB0 : Hid (w0.heap[w.heap.size + 1 + 1]? = some (.cells #[.int .i64 0, .int .i64 0, .slice none 0 0] 26 (0, 0))) := by show _ = _; rw [← hw0]; exact at3_2 _ _ _ _ _ _ _
  have HW0 := hide hw0
  have HZ0 := hide (lt_of_heap HB0.out)
  clear hw0
  go_enter Tryd.func27, Tryd.ntmps27
  go_wp2_with fail
  rw [HW0.out]
  refine (HO.out w0 HZ0.out hE0).mono ?_
  rintro e w2 ⟨u, rfl, hu, hE2⟩
  have HU2 := hide hu
  obtain ⟨q2, k2, rfl, -⟩ := hu.at_.form
  have hb2 := (hE2.b.block _ (lt_of_heap HB0.out)).trans HB0.out
  have e0 := decl_cells hb2 0
  have e1 := decl_cells hb2 1
  have e2 := decl_cells hb2 2
  have f0 := frozen_of (j := 0) hb2
  have f1 := frozen_of (j := 1) hb2
  have f2 := frozen_of (j := 2) hb2
  have HB2 := hide hb2
  have HE02 := hide (hE0.trans hE2)
  have hz := lt_of_heap hb2
  clear hu hb2 hE0 hE2
  go_wp2_with fail
  exact bodyPost_ret (results_agg3 rfl _ _ rfl (decl_cells (ebox_end HB2.out) 0) (decl_cells (ebox_end HB2.out) 1) (decl_cells (ebox_end HB2.out) 2)) rfl ⟨_, rfl, ebox_but HU2.out _ _ _, ebox_ext HE02.out (by omega) _ _ _⟩
theorem results_agg12 {fn : Func} {a : Tmp} (h : fn.results = #[.cell a 43]) (tmps : Array Value) (w : World) {g : Nat} {u0 u1 u2 u3 u4 u5 u6 u7 u8 u9 u10 u11 : Value} (ha : tmps.getD a undef = .pointer (some ⟨g, 0, none⟩))
    (hb : w.heap[g]? = some (.cells #[u0, u1, u2, u3, u4, u5, u6, u7, u8, u9, u10, u11] 43 (0, 0))) : (results fn tmps).run Tryd.prog w = .ok (.agg #[u0, u1, u2, u3, u4, u5, u6, u7, u8, u9, u10, u11]) w := by
  have h0 : w.cell? ⟨g, 0, none⟩ = some u0 := decl_cells hb 0
  have h1 : w.cell? ⟨g, 1, none⟩ = some u1 := decl_cells hb 1
  have h2 : w.cell? ⟨g, 2, none⟩ = some u2 := decl_cells hb 2
  have h3 : w.cell? ⟨g, 3, none⟩ = some u3 := decl_cells hb 3
  have h4 : w.cell? ⟨g, 4, none⟩ = some u4 := decl_cells hb 4
  have h5 : w.cell? ⟨g, 5, none⟩ = some u5 := decl_cells hb 5
  have h6 : w.cell? ⟨g, 6, none⟩ = some u6 := decl_cells hb 6
  have h7 : w.cell? ⟨g, 7, none⟩ = some u7 := decl_cells hb 7
  have h8 : w.cell? ⟨g, 8, none⟩ = some u8 := decl_cells hb 8
  have h9 : w.cell? ⟨g, 9, none⟩ = some u9 := decl_cells hb 9
  have h10 : w.cell? ⟨g, 10, none⟩ = some u10 := decl_cells hb 10
  have h11 : w.cell? ⟨g, 11, none⟩ = some u11 := decl_cells hb 11
  rw [Array.getD_eq_getD_getElem?] at ha
  simp [results, h, ha, go_sem, h0, h1, h2, h3, h4, h5, h6, h7, h8, h9, h10, h11]
/-- The chapter's declaration. -/
def consD : Dc := ⟨2, 2, .mk 0 0 [], .mk 13 0 [.mk 13 0 [.mk 10 0 [.mk 7 0 [.mk 3 0 [.mk 1 0 []], .mk 3 0 [.mk 1 1 []]], .mk 14 0 [.mk 14 0 [.mk 7 0 [.mk 3 0 [.mk 1 2 []], .mk 2 0 [.mk 1 3 []]]]]]]], .mk 0 0 []⟩
def RetD (d : Dc) (w : World) (r : Ending) (w' : World) : Prop := ∃ u, r = .returned u ∧ DcAt w' u d ∧ Ext w w'
set_option maxRecDepth 16000 in
set_option maxHeartbeats 2000000 in
theorem mkcons_any (w : World) : Calls Tryd.prog 43 #[] w (RetD consD w) := by
  have hE0 : Ext w (w.alloc (.cells #[.string ⟨#[]⟩, .int .i64 0, .int .i64 0, .int .i64 0, .int .i64 0, .slice none 0 0, .int .i64 0, .int .i64 0, .slice none 0 0, .int .i64 0, .int .i64 0, .slice none 0 0] 43)) := (Ext.refl w).alloc _
  have HB0 := hide (heap_alloc_new w (.cells #[.string ⟨#[]⟩, .int .i64 0, .int .i64 0, .int .i64 0, .int .i64 0, .slice none 0 0, .int .i64 0, .int .i64 0, .slice none 0 0, .int .i64 0, .int .i64 0, .slice none 0 0] 43))
  go_enter Tryd.func43, Tryd.ntmps43
  go_wp2_with fail
  obtain ⟨w0, hw0⟩ : ∃ w0, (w.alloc (.cells #[.string ⟨#[]⟩, .int .i64 0, .int .i64 0, .int .i64 0, .int .i64 0, .slice none 0 0, .int .i64 0, .int .i64 0, .slice none 0 0, .int .i64 0, .int .i64 0, .slice none 0 0] 43)) = w0 := ⟨_, rfl⟩
  rw [hw0] at hE0 HB0 ⊢
  clear hw0
  have HE0 : Hid (Ext w0 w0) := Ext.refl _
  have HEW := hide hE0
  clear hE0
  refine (mkvar_any (fun k => k = w.heap.size) 0 w0).mono ?_
  rintro e w1 ⟨u, rfl, hu, hE1⟩
  have HE1 := hide (HE0.out.trans hE1)
  have HS1 : Hid (∀ k, k = w.heap.size → k < w1.heap.size) := fun k hk => by have := HE1.out.size; have := lt_of_heap HB0.out; omega
  have A1 := hide hu
  obtain ⟨q1, k1, rfl, -⟩ := hu.at_.form
  clear hu hE1
  go_wp2_with fail
  refine (mkone_any (fun k => k = w.heap.size) 3 _ _ w1 HS1.out A1.out).mono ?_
  rintro e w2 ⟨u, rfl, hu, hE2⟩
  have HE2 := hide (HE1.out.trans hE2)
  have HS2 : Hid (∀ k, k = w.heap.size → k < w2.heap.size) := fun k hk => by have := HE2.out.size; have := lt_of_heap HB0.out; omega
  have A2 := hide hu
  obtain ⟨q2, k2, rfl, -⟩ := hu.at_.form
  clear hu hE2
  go_wp2_with fail
  refine (mkvar_any (fun k => k = w.heap.size) 1 w2).mono ?_
  rintro e w3 ⟨u, rfl, hu, hE3⟩
  have HE3 := hide (HE2.out.trans hE3)
  have HS3 : Hid (∀ k, k = w.heap.size → k < w3.heap.size) := fun k hk => by have := HE3.out.size; have := lt_of_heap HB0.out; omega
  have A2 := hide (A2.out.ext hE3)
  have B1 := hide hu
  obtain ⟨q3, k3, rfl, -⟩ := hu.at_.form
  clear hu hE3
  go_wp2_with fail
  refine (mkone_any (fun k => k = w.heap.size) 3 _ _ w3 HS3.out B1.out).mono ?_
  rintro e w4 ⟨u, rfl, hu, hE4⟩
  have HE4 := hide (HE3.out.trans hE4)
  have HS4 : Hid (∀ k, k = w.heap.size → k < w4.heap.size) := fun k hk => by have := HE4.out.size; have := lt_of_heap HB0.out; omega
  have A2 := hide (A2.out.ext hE4)
  have B2 := hide hu
  obtain ⟨q4, k4, rfl, -⟩ := hu.at_.form
  clear hu hE4
  go_wp2_with fail
  refine (mktwo_any (fun k => k = w.heap.size) 7 _ _ _ _ w4 HS4.out A2.out B2.out).mono ?_
  rintro e w5 ⟨u, rfl, hu, hE5⟩
  have HE5 := hide (HE4.out.trans hE5)
  have HS5 : Hid (∀ k, k = w.heap.size → k < w5.heap.size) := fun k hk => by have := HE5.out.size; have := lt_of_heap HB0.out; omega
  have AG := hide hu
  obtain ⟨q5, k5, rfl, -⟩ := hu.at_.form
  clear hu hE5
  go_wp2_with fail
  obtain ⟨wa, hwa⟩ : ∃ wa, w5.alloc (.cells #[.int .i64 7, .int .i64 0, .slice q5 2 k5] 26) = wa := ⟨_, rfl⟩
  have HEa : Hid (Ext w0 wa) := by show Ext _ _; rw [← hwa]; exact HE5.out.alloc _
  have GA : Hid (wa.heap[w5.heap.size]? = some (.cells #[.int .i64 7, .int .i64 0, .slice q5 2 k5] 26 (0, 0))) := by show _ = _; rw [← hwa]; exact heap_alloc_new w5 _
  have AG := hide (AG.out.ext ((Ext.refl w5).alloc (.cells #[.int .i64 7, .int .i64 0, .slice q5 2 k5] 26)))
  rw [hwa] at AG
  show Calls _ _ _ (w5.alloc (.cells #[.int .i64 7, .int .i64 0, .slice q5 2 k5] 26)) _
  rw [hwa]
  clear hwa
  obtain ⟨gA, hgA⟩ : ∃ g, w5.heap.size = g := ⟨_, rfl⟩
  rw [hgA] at GA ⊢
  clear hgA
  refine (mkvar_any (fun k => k = w.heap.size) 2 wa).mono ?_
  rintro e w6 ⟨u, rfl, hu, hE6⟩
  have HE6 := hide (HEa.out.trans hE6)
  have HS6 : Hid (∀ k, k = w.heap.size → k < w6.heap.size) := fun k hk => by have := HE6.out.size; have := lt_of_heap HB0.out; omega
  have AG := hide (AG.out.ext hE6)
  have GA : Hid (w6.heap[gA]? = some (.cells #[.int .i64 7, .int .i64 0, .slice q5 2 k5] 26 (0, 0))) := (hE6.b.block _ (lt_of_heap GA.out)).trans GA.out
  have C1 := hide hu
  obtain ⟨q6, k6, rfl, -⟩ := hu.at_.form
  clear hu hE6
  go_wp2_with fail
  refine (mkone_any (fun k => k = w.heap.size) 3 _ _ w6 HS6.out C1.out).mono ?_
  rintro e w7 ⟨u, rfl, hu, hE7⟩
  have HE7 := hide (HE6.out.trans hE7)
  have HS7 : Hid (∀ k, k = w.heap.size → k < w7.heap.size) := fun k hk => by have := HE7.out.size; have := lt_of_heap HB0.out; omega
  have AG := hide (AG.out.ext hE7)
  have GA : Hid (w7.heap[gA]? = some (.cells #[.int .i64 7, .int .i64 0, .slice q5 2 k5] 26 (0, 0))) := (hE7.b.block _ (lt_of_heap GA.out)).trans GA.out
  have C2 := hide hu
  obtain ⟨q7, k7, rfl, -⟩ := hu.at_.form
  clear hu hE7
  go_wp2_with fail
  refine (mkvar_any (fun k => k = w.heap.size) 3 w7).mono ?_
  rintro e w8 ⟨u, rfl, hu, hE8⟩
  have HE8 := hide (HE7.out.trans hE8)
  have HS8 : Hid (∀ k, k = w.heap.size → k < w8.heap.size) := fun k hk => by have := HE8.out.size; have := lt_of_heap HB0.out; omega
  have AG := hide (AG.out.ext hE8)
  have GA : Hid (w8.heap[gA]? = some (.cells #[.int .i64 7, .int .i64 0, .slice q5 2 k5] 26 (0, 0))) := (hE8.b.block _ (lt_of_heap GA.out)).trans GA.out
  have C2 := hide (C2.out.ext hE8)
  have D1 := hide hu
  obtain ⟨q8, k8, rfl, -⟩ := hu.at_.form
  clear hu hE8
  go_wp2_with fail
  refine (mkone_any (fun k => k = w.heap.size) 2 _ _ w8 HS8.out D1.out).mono ?_
  rintro e w9 ⟨u, rfl, hu, hE9⟩
  have HE9 := hide (HE8.out.trans hE9)
  have HS9 : Hid (∀ k, k = w.heap.size → k < w9.heap.size) := fun k hk => by have := HE9.out.size; have := lt_of_heap HB0.out; omega
  have AG := hide (AG.out.ext hE9)
  have GA : Hid (w9.heap[gA]? = some (.cells #[.int .i64 7, .int .i64 0, .slice q5 2 k5] 26 (0, 0))) := (hE9.b.block _ (lt_of_heap GA.out)).trans GA.out
  have C2 := hide (C2.out.ext hE9)
  have D2 := hide hu
  obtain ⟨q9, k9, rfl, -⟩ := hu.at_.form
  clear hu hE9
  go_wp2_with fail
  refine (mktwo_any (fun k => k = w.heap.size) 7 _ _ _ _ w9 HS9.out C2.out D2.out).mono ?_
  rintro e w10 ⟨u, rfl, hu, hE10⟩
  have HE10 := hide (HE9.out.trans hE10)
  have HS10 : Hid (∀ k, k = w.heap.size → k < w10.heap.size) := fun k hk => by have := HE10.out.size; have := lt_of_heap HB0.out; omega
  have AG := hide (AG.out.ext hE10)
  have GA : Hid (w10.heap[gA]? = some (.cells #[.int .i64 7, .int .i64 0, .slice q5 2 k5] 26 (0, 0))) := (hE10.b.block _ (lt_of_heap GA.out)).trans GA.out
  have S1 := hide hu
  obtain ⟨q10, k10, rfl, -⟩ := hu.at_.form
  clear hu hE10
  go_wp2_with fail
  refine (mkone_any (fun k => k = w.heap.size) 14 _ _ w10 HS10.out S1.out).mono ?_
  rintro e w11 ⟨u, rfl, hu, hE11⟩
  have HE11 := hide (HE10.out.trans hE11)
  have HS11 : Hid (∀ k, k = w.heap.size → k < w11.heap.size) := fun k hk => by have := HE11.out.size; have := lt_of_heap HB0.out; omega
  have AG := hide (AG.out.ext hE11)
  have GA : Hid (w11.heap[gA]? = some (.cells #[.int .i64 7, .int .i64 0, .slice q5 2 k5] 26 (0, 0))) := (hE11.b.block _ (lt_of_heap GA.out)).trans GA.out
  have S2 := hide hu
  obtain ⟨q11, k11, rfl, -⟩ := hu.at_.form
  clear hu hE11
  go_wp2_with fail
  refine (mkone_any (fun k => k = w.heap.size) 14 _ _ w11 HS11.out S2.out).mono ?_
  rintro e w12 ⟨u, rfl, hu, hE12⟩
  have HE12 := hide (HE11.out.trans hE12)
  have HS12 : Hid (∀ k, k = w.heap.size → k < w12.heap.size) := fun k hk => by have := HE12.out.size; have := lt_of_heap HB0.out; omega
  have AG := hide (AG.out.ext hE12)
  have GA : Hid (w12.heap[gA]? = some (.cells #[.int .i64 7, .int .i64 0, .slice q5 2 k5] 26 (0, 0))) := (hE12.b.block _ (lt_of_heap GA.out)).trans GA.out
  have S3 := hide hu
  obtain ⟨q12, k12, rfl, -⟩ := hu.at_.form
  clear hu hE12
  have ga0 := decl_cells GA.out 0
  have ga1 := decl_cells GA.out 1
  have ga2 := decl_cells GA.out 2
  have gaz := lt_of_heap GA.out
  go_wp2_with fail
  obtain ⟨wb, hwb⟩ : ∃ wb, w12.alloc (.cells #[.int .i64 14, .int .i64 0, .slice q12 1 k12] 26) = wb := ⟨_, rfl⟩
  have hEb : Ext w12 wb := by rw [← hwb]; exact (Ext.refl w12).alloc _
  have HEb := hide (HE12.out.trans hEb)
  have AG := hide (AG.out.ext hEb)
  have S3 := hide (S3.out.ext hEb)
  have HSb : Hid (∀ k, k = w.heap.size → k < wb.heap.size) := fun k hk => by have := HEb.out.size; have := lt_of_heap HB0.out; omega
  show Calls _ _ _ (w12.alloc (.cells #[.int .i64 14, .int .i64 0, .slice q12 1 k12] 26)) _
  rw [hwb]
  clear hwb hEb ga0 ga1 ga2 gaz
  refine (mkboth_any (fun k => k = w.heap.size) 10 _ _ _ _ wb HSb.out AG.out S3.out).mono ?_
  rintro e w13 ⟨u, rfl, hu, hE13⟩
  have HE13 := hide (HEb.out.trans hE13)
  have HS13 : Hid (∀ k, k = w.heap.size → k < w13.heap.size) := fun k hk => by have := HE13.out.size; have := lt_of_heap HB0.out; omega
  have BB := hide hu
  obtain ⟨q13, k13, rfl, -⟩ := hu.at_.form
  clear hu hE13
  go_wp2_with fail
  refine (mkone_any (fun k => k = w.heap.size) 13 _ _ w13 HS13.out BB.out).mono ?_
  rintro e w14 ⟨u, rfl, hu, hE14⟩
  have HE14 := hide (HE13.out.trans hE14)
  have HS14 : Hid (∀ k, k = w.heap.size → k < w14.heap.size) := fun k hk => by have := HE14.out.size; have := lt_of_heap HB0.out; omega
  have F1 := hide hu
  obtain ⟨q14, k14, rfl, -⟩ := hu.at_.form
  clear hu hE14
  go_wp2_with fail
  refine (mkone_any (fun k => k = w.heap.size) 13 _ _ w14 HS14.out F1.out).mono ?_
  rintro e w15 ⟨u, rfl, hu, hE15⟩
  have HE15 := hide (HE14.out.trans hE15)
  have HS15 : Hid (∀ k, k = w.heap.size → k < w15.heap.size) := fun k hk => by have := HE15.out.size; have := lt_of_heap HB0.out; omega
  have F2 := hide hu
  obtain ⟨q15, k15, rfl, -⟩ := hu.at_.form
  clear hu hE15
  have hb15 := (HE15.out.b.block _ (lt_of_heap HB0.out)).trans HB0.out
  have e0 := decl_cells hb15 0
  have f0 := frozen_of (j := 0) hb15
  have e1 := decl_cells hb15 1
  have f1 := frozen_of (j := 1) hb15
  have e2 := decl_cells hb15 2
  have f2 := frozen_of (j := 2) hb15
  have e3 := decl_cells hb15 3
  have f3 := frozen_of (j := 3) hb15
  have e4 := decl_cells hb15 4
  have f4 := frozen_of (j := 4) hb15
  have e5 := decl_cells hb15 5
  have f5 := frozen_of (j := 5) hb15
  have e6 := decl_cells hb15 6
  have f6 := frozen_of (j := 6) hb15
  have e7 := decl_cells hb15 7
  have f7 := frozen_of (j := 7) hb15
  have e8 := decl_cells hb15 8
  have f8 := frozen_of (j := 8) hb15
  have e9 := decl_cells hb15 9
  have f9 := frozen_of (j := 9) hb15
  have e10 := decl_cells hb15 10
  have f10 := frozen_of (j := 10) hb15
  have e11 := decl_cells hb15 11
  have f11 := frozen_of (j := 11) hb15
  have hz15 := lt_of_heap hb15
  have HB15 := hide hb15
  clear hb15
  go_wp2_with fail
  obtain ⟨W, hW⟩ : ∃ W, ((((((((((((w15.setCell ⟨w.heap.size, 0, none⟩ (.string ⟨#[99]⟩)).setCell ⟨w.heap.size, 1, none⟩ (.int .i64 2)).setCell ⟨w.heap.size, 2, none⟩ (.int .i64 2)).setCell ⟨w.heap.size, 3, none⟩ (.int .i64 0)).setCell ⟨w.heap.size, 4, none⟩ (.int .i64 0)).setCell ⟨w.heap.size, 5, none⟩ (.slice none 0 0)).setCell ⟨w.heap.size, 6, none⟩ (.int .i64 13)).setCell ⟨w.heap.size, 7, none⟩ (.int .i64 0)).setCell ⟨w.heap.size, 8, none⟩ (.slice q15 1 k15)).setCell ⟨w.heap.size, 9, none⟩ (.int .i64 0)).setCell ⟨w.heap.size, 10, none⟩ (.int .i64 0)).setCell ⟨w.heap.size, 11, none⟩ (.slice none 0 0)) = W := ⟨_, rfl⟩
  have hbW : W.heap[w.heap.size]? = some (.cells #[.string ⟨#[99]⟩, .int .i64 2, .int .i64 2, .int .i64 0, .int .i64 0, .slice none 0 0, .int .i64 13, .int .i64 0, .slice q15 1 k15, .int .i64 0, .int .i64 0, .slice none 0 0] 43 (0, 0)) := by
    rw [← hW]
    exact heap_set (heap_set (heap_set (heap_set (heap_set (heap_set (heap_set (heap_set (heap_set (heap_set (heap_set (heap_set (HB15.out) (.string ⟨#[99]⟩)) (.int .i64 2)) (.int .i64 2)) (.int .i64 0)) (.int .i64 0)) (.slice none 0 0)) (.int .i64 13)) (.int .i64 0)) (.slice q15 1 k15)) (.int .i64 0)) (.int .i64 0)) (.slice none 0 0)
  have hag : ∀ k, ¬ (k = w.heap.size) → k < w15.heap.size → W.heap[k]? = w15.heap[k]? := fun k hk _ => by
    rw [← hW]
    repeat (rw [Below.heap_setCell _ _ _ _ (show k ≠ w.heap.size from hk)])
  have hzW : w15.heap.size ≤ W.heap.size := by rw [← hW]; simp
  have hEW : Ext w W := by
    rw [← hW]
    exact (((((((((((((HEW.out.trans HE15.out).setCell (Nat.le_refl _) _).setCell (Nat.le_refl _) _).setCell (Nat.le_refl _) _).setCell (Nat.le_refl _) _).setCell (Nat.le_refl _) _).setCell (Nat.le_refl _) _).setCell (Nat.le_refl _) _).setCell (Nat.le_refl _) _).setCell (Nat.le_refl _) _).setCell (Nat.le_refl _) _).setCell (Nat.le_refl _) _).setCell (Nat.le_refl _) _)
  have hxW := F2.out W hzW hag
  clear e0 e1 e2 e3 e4 e5 e6 e7 e8 e9 e10 e11 f0 f1 f2 f3 f4 f5 f6 f7 f8 f9 f10 f11
  show bodyPost _ _ _ _ _ ((((((((((((w15.setCell ⟨w.heap.size, 0, none⟩ (.string ⟨#[99]⟩)).setCell ⟨w.heap.size, 1, none⟩ (.int .i64 2)).setCell ⟨w.heap.size, 2, none⟩ (.int .i64 2)).setCell ⟨w.heap.size, 3, none⟩ (.int .i64 0)).setCell ⟨w.heap.size, 4, none⟩ (.int .i64 0)).setCell ⟨w.heap.size, 5, none⟩ (.slice none 0 0)).setCell ⟨w.heap.size, 6, none⟩ (.int .i64 13)).setCell ⟨w.heap.size, 7, none⟩ (.int .i64 0)).setCell ⟨w.heap.size, 8, none⟩ (.slice q15 1 k15)).setCell ⟨w.heap.size, 9, none⟩ (.int .i64 0)).setCell ⟨w.heap.size, 10, none⟩ (.int .i64 0)).setCell ⟨w.heap.size, 11, none⟩ (.slice none 0 0))
  rw [hW]
  exact bodyPost_ret (results_agg12 rfl _ _ rfl hbW) rfl ⟨_, rfl, ⟨⟨#[99]⟩, none, 0, q15, k15, none, 0, rfl, exAt_zero _ _ _, hxW, exAt_zero _ _ _⟩, hEW⟩
end Go.Proofs.YthpccmmdkbjjhaaDoor

namespace Go.Proofs.YthpccmmdkbjjhaaDoor
open Go.RowKit

/-- The order of two vectors. -/
def ordL : List Int → List Int → Int
  | [], [] => 0
  | [], _ :: _ => -1
  | _ :: _, [] => 1
  | a :: x, b :: y => if a < b then -1 else if b < a then 1 else ordL x y
theorem ordL_zero : ∀ {a b : List Int}, ordL a b = 0 ↔ a = b
  | [], [] => by simp [ordL]
  | [], _ :: _ => by simp [ordL]
  | _ :: _, [] => by simp [ordL]
  | a :: x, b :: y => by
    simp only [ordL]
    by_cases h1 : a < b
    · rw [if_pos h1]; simp; omega
    rw [if_neg h1]
    by_cases h2 : b < a
    · rw [if_pos h2]; simp; omega
    rw [if_neg h2, ordL_zero]
    have : a = b := by omega
    simp [this]
theorem ordL_cases : ∀ (a b : List Int), ordL a b = -1 ∨ ordL a b = 0 ∨ ordL a b = 1
  | [], [] => by simp [ordL]
  | [], _ :: _ => by simp [ordL]
  | _ :: _, [] => by simp [ordL]
  | a :: x, b :: y => by
    simp only [ordL]
    split
    · simp
    · split
      · simp
      · exact ordL_cases x y
theorem drop_getI {l : List Int} {i : Nat} (h : i < l.length) : l.drop i = l.getD i 0 :: l.drop (i + 1) := by
  rw [List.drop_eq_getElem_cons h, List.getD_eq_getElem?_getD, List.getElem?_eq_getElem h]; rfl
theorem ordL_step {a b : List Int} {i : Nat} (h1 : i < a.length) (h2 : i < b.length) : ordL (a.drop i) (b.drop i) = if a.getD i 0 < b.getD i 0 then -1 else if b.getD i 0 < a.getD i 0 then 1 else ordL (a.drop (i + 1)) (b.drop (i + 1)) := by
  rw [drop_getI h1, drop_getI h2]; rfl
theorem ordL_end {a b : List Int} {i : Nat} (h : a.length ≤ i ∨ b.length ≤ i) (h1 : i ≤ a.length) (h2 : i ≤ b.length) : ordL (a.drop i) (b.drop i) = if a.length < b.length then -1 else if b.length < a.length then 1 else 0 := by
  rcases Nat.lt_trichotomy a.length b.length with h3 | h3 | h3
  · rw [if_pos h3, List.drop_eq_nil_of_le (show a.length ≤ i by omega), drop_getI (show i < b.length by omega)]; rfl
  · rw [if_neg (by omega), if_neg (by omega), List.drop_eq_nil_of_le (show a.length ≤ i by omega), List.drop_eq_nil_of_le (show b.length ≤ i by omega)]; rfl
  · rw [if_neg (by omega), if_pos h3, List.drop_eq_nil_of_le (show b.length ≤ i by omega), drop_getI (show i < a.length by omega)]; rfl

set_option maxHeartbeats 1000000 in
theorem rorder_any (a b : List Int) (u v : Value) (w : World) (ha : Row icells 1 w u a) (hb : Row icells 1 w v b) :
    Calls Tryd.prog 52 #[u, v] w fun e w' => e = .returned (.int .i64 (ordL a b)) ∧ Ext w w' := by
  obtain ⟨p, c, rfl, hc, hl, hat⟩ := ha.int_all
  obtain ⟨q, d, rfl, hd, hm, hat2⟩ := hb.int_all
  have HA := hide hat
  have HB := hide hat2
  have HS := hide (fun i => ordL_step (a := a) (b := b) (i := i))
  have HD := hide (fun i => ordL_end (a := a) (b := b) (i := i))
  have H0 : Hid (ordL a b = ordL (a.drop 0) (b.drop 0)) := rfl
  clear ha hb hat hat2
  generalize ordL a b = res at H0 ⊢
  generalize hf : (fun i => ordL (a.drop i) (b.drop i)) = f
  have hf' : ∀ i, ordL (a.drop i) (b.drop i) = f i := fun i => by rw [← hf]
  simp only [hf'] at HS HD H0
  clear hf hf'
  generalize b.length = lb at *
  generalize a.length = la at *
  generalize hfa : a.getD = fa at *
  generalize hfb : b.getD = fb at *
  clear hfa hfb
  go_enter Tryd.func52, Tryd.ntmps52
  go_wp2_with fail
  go_loopw [5] (fun x wr => ∃ i : Nat, i ≤ la ∧ i ≤ lb ∧ x = .int .i64 i ∧ Hid (res = f i) ∧ Ext w wr) (fun x _ => la - (intOf x).toNat)
  case atStart => exact ⟨0, by omega, by omega, rfl, H0, Ext.refl _⟩
  case round =>
    obtain ⟨i, hi, hi2, rfl, HF, hE⟩ := hrel
    by_cases h1 : i < la
    · by_cases h2 : i < lb
      · obtain ⟨b1, o1, rfl, hb1, hat⟩ := HA.out (by omega)
        obtain ⟨b2, o2, rfl, hb2, hat2⟩ := HB.out (by omega)
        have hca := hat i h1
        have hcb := hat2 i h2
        have HSI := hide (HF.out.trans (HS.out i h1 h2))
        have hz1 := hE.size
        have hb1' : b1 < wr.heap.size := by omega
        have hb2' : b2 < wr.heap.size := by omega
        have hx := hca wr hE
        have hy := hcb wr hE
        clear hat hat2 hca hcb hz1
        generalize fa i 0 = x at hx HSI
        generalize fb i 0 = y at hy HSI
        have tail : Hid (∀ w9, Ext wr w9 → w9.cell? ⟨b1, o1 + i, none⟩ = some (.int .i64 x) ∧ w9.cell? ⟨b2, o2 + i, none⟩ = some (.int .i64 y) ∧ b1 < w9.heap.size ∧ b2 < w9.heap.size) := fun w9 h9 =>
          ⟨(h9.cell hb1').trans hx, (h9.cell hb2').trans hy, Nat.lt_of_lt_of_le hb1' h9.size, Nat.lt_of_lt_of_le hb2' h9.size⟩
        by_cases hlt : x < y
        · have HR := hide (HSI.out.trans (if_pos hlt))
          have hd : decide (x < y) = true := by simp [hlt]
          clear hlt
          go_wp2_with fail
          refine wp_region_ext (by kernel_rfl) (by kernel_rfl) ?_
          repeat (go_big_quiet_step (fail))
          refine wpQuiet_nil ?_
          rintro w9 ⟨⟨_, hE9⟩, rfl⟩
          go_wp2_with fail
          go_ret
          exact ⟨ret_int HR.out.symm, hE.trans hE9⟩
        · have hd : decide (x < y) = false := by simp; omega
          by_cases hgt : y < x
          · have HR := hide ((HSI.out.trans (if_neg hlt)).trans (if_pos hgt))
            have hd2 : decide (y < x) = true := by simp [hgt]
            clear hlt hgt
            go_wp2_with fail
            refine wp_region_ext (by kernel_rfl) (by kernel_rfl) ?_
            repeat (go_big_quiet_step (fail))
            refine wpQuiet_nil ?_
            rintro w9 ⟨⟨_, hE9⟩, rfl⟩
            obtain ⟨hx9, hy9, hz9, hz99⟩ := tail.out _ hE9
            clear hx hy
            go_wp2_with fail
            refine wp_region_ext (by kernel_rfl) (by kernel_rfl) ?_
            repeat (go_big_quiet_step (fail))
            refine wpQuiet_nil ?_
            rintro w10 ⟨⟨_, hE10⟩, rfl⟩
            clear hx9 hy9
            go_wp2_with fail
            go_ret
            exact ⟨ret_int HR.out.symm, (hE.trans hE9).trans hE10⟩
          · have HR := hide ((HSI.out.trans (if_neg hlt)).trans (if_neg hgt))
            have hd2 : decide (y < x) = false := by simp; omega
            clear hlt hgt
            go_wp2_with fail
            refine wp_region_ext (by kernel_rfl) (by kernel_rfl) ?_
            repeat (go_big_quiet_step (fail))
            refine wpQuiet_nil ?_
            rintro w9 ⟨⟨_, hE9⟩, rfl⟩
            obtain ⟨hx9, hy9, hz9, hz99⟩ := tail.out _ hE9
            clear hx hy
            go_wp2_with fail
            refine wp_region_ext (by kernel_rfl) (by kernel_rfl) ?_
            repeat (go_big_quiet_step (fail))
            refine wpQuiet_nil ?_
            rintro w10 ⟨⟨_, hE10⟩, rfl⟩
            clear hx9 hy9
            go_wp2_with fail
            go_roundw
            case rel => exact ⟨i + 1, by omega, by omega, by go_num, HR.out, (hE.trans hE9).trans hE10⟩
            case measure => simp [intOf]; omega
      · have HR := hide (HF.out.trans (HD.out i (.inr (by omega)) hi hi2))
        obtain rfl : i = lb := by omega
        have hd1 : decide (i < la) = true := by simp [h1]
        have hd3 : decide (la < i) = false := by simp; omega
        rw [if_neg (by omega), if_pos h1] at HR
        go_wp2_with fail
        go_ret
        exact ⟨ret_int HR.out.symm, hE⟩
    · obtain rfl : i = la := by omega
      have HR := hide (HF.out.trans (HD.out i (.inl (Nat.le_refl _)) hi hi2))
      by_cases h2 : i < lb
      · rw [if_pos h2] at HR
        go_wp2_with fail
        go_ret
        exact ⟨ret_int HR.out.symm, hE⟩
      · obtain rfl : i = lb := by omega
        rw [if_neg h2, if_neg h2] at HR
        go_wp2_with fail
        go_ret
        exact ⟨ret_int HR.out.symm, hE⟩

theorem lists_ne_at {α : Type} [DecidableEq α] {a b : List (List α)} {i : Nat} (hi : i < b.length) (h : a.getD i [] ≠ b.getD i []) : decide (a = b) = false := by
  rw [decide_eq_false_iff_not]
  rintro rfl
  exact h rfl
theorem lists_eq_of {α : Type} [DecidableEq α] {a b : List (List α)} (hl : a.length = b.length) (h : ∀ j, j < b.length → a.getD j [] = b.getD j []) : decide (a = b) = true := by
  rw [decide_eq_true_iff]
  apply List.ext_getElem hl
  intro i h1 h2
  have := h i h2
  rw [List.getD_eq_getElem?_getD, List.getD_eq_getElem?_getD, List.getElem?_eq_getElem h1, List.getElem?_eq_getElem h2] at this
  exact this
set_option maxHeartbeats 1000000 in
theorem rsamev_any (a b : List (List Int)) (u v : Value) (w : World) (ha : Rows2 icells 1 w u a) (hb : Rows2 icells 1 w v b) :
    Calls Tryd.prog 15 #[u, v] w fun e w' => e = .returned (.bool (decide (a = b))) ∧ Ext w w' := by
  obtain ⟨p, c, rfl, hc, hl, hat⟩ := ha.sl_all
  obtain ⟨q, d, rfl, hd, hm, hat2⟩ := hb.sl_all
  have HA := hide hat
  have HB := hide hat2
  clear ha hb hat hat2
  by_cases hlen : a.length = b.length
  · have H1 := hide (fun i => lists_ne_at (a := a) (b := b) (i := i))
    have H2 := hide (lists_eq_of (a := a) (b := b) hlen)
    have hlen' := hlen.symm
    clear hlen
    generalize decide (a = b) = res at H1 H2 ⊢
    generalize b.length = lb at *
    generalize a.length = la at *
    subst hlen'
    generalize hfa : a.getD = fa at *
    generalize hfb : b.getD = fb at *
    clear hfa hfb
    go_enter Tryd.func15, Tryd.ntmps15
    go_wp2_with fail
    go_loopw [5] (fun x wr => ∃ i : Nat, i ≤ lb ∧ x = .int .i64 i ∧ (∀ j, j < i → fa j [] = fb j []) ∧ Ext w wr) (fun x _ => lb - (intOf x).toNat)
    case atStart => exact ⟨0, by omega, rfl, fun j hj => by omega, Ext.refl _⟩
    case round =>
      obtain ⟨i, hi, rfl, hj, hE⟩ := hrel
      have HJ := hide hj
      clear hj
      by_cases hlt : i < lb
      · obtain ⟨b1, o1, rfl, hb1, hat⟩ := HA.out (by omega)
        obtain ⟨b2, o2, rfl, hb2, hat2⟩ := HB.out (by omega)
        obtain ⟨q1, d1, hca, hra, hla⟩ := hat i hlt
        obtain ⟨q2, d2, hcb, hrb, hlb⟩ := hat2 i hlt
        have hx := hca wr hE
        have hy := hcb wr hE
        have HF := hide (H1.out i hlt)
        have HN : Hid (fa i [] = fb i [] → ∀ j, j < i + 1 → fa j [] = fb j []) := fun h j hj => by
          by_cases e : j = i
          · subst e; exact h
          · exact HJ.out j (by omega)
        have HORD := hide (fun W (hW : Ext w W) => rorder_any _ _ _ _ W (hra.ext hW) (hrb.ext hW))
        clear hat hat2 hca hcb hra hrb
        generalize fa i [] = x at hx HF HN HORD hla
        generalize fb i [] = y at hy HF HN HORD hlb
        have HQ := hide (ordL_zero (a := x) (b := y))
        have hz1 := hE.size
        have hb1' : b1 < wr.heap.size := by omega
        have hb2' : b2 < wr.heap.size := by omega
        generalize ordL x y = g at HORD HQ
        clear hz1
        by_cases hg : g = 0
        · have HR := hide (HN.out (HQ.out.1 hg))
          have hd : (g != 0) = false := by simp [hg]
          clear hg
          go_wp2_with fail
          refine wp_region_ext (by kernel_rfl) (by kernel_rfl) ?_
          repeat (go_big_quiet_step ((go_at_call 52; exact Calls.ext_of (HORD.out _ (by simp [go_sem, hE])))))
          refine wpQuiet_nil ?_
          rintro w9 ⟨⟨_, hE9⟩, rfl⟩
          clear hx hy
          go_wp2_with fail
          go_roundw
          case rel => exact ⟨i + 1, by omega, by go_num, HR.out, hE.trans hE9⟩
          case measure => simp [intOf]; omega
        · have HR := hide (HF.out (fun h => hg (HQ.out.2 h)))
          have hd : (g != 0) = true := by simp [hg]
          clear hg
          go_wp2_with fail
          refine wp_region_ext (by kernel_rfl) (by kernel_rfl) ?_
          repeat (go_big_quiet_step ((go_at_call 52; exact Calls.ext_of (HORD.out _ (by simp [go_sem, hE])))))
          refine wpQuiet_nil ?_
          rintro w9 ⟨⟨_, hE9⟩, rfl⟩
          clear hx hy
          go_wp2_with fail
          go_ret
          exact ⟨ret_bool HR.out.symm, hE.trans hE9⟩
      · obtain rfl : i = lb := by omega
        have HR := hide (H2.out HJ.out)
        go_wp2_with fail
        go_ret
        exact ⟨ret_bool HR.out.symm, hE⟩
  · have hne : decide (a = b) = false := decide_eq_false (fun h => hlen (by rw [h]))
    rw [hne]
    have hb : ((a.length : Int) != (b.length : Int)) = true := by simp; omega
    clear hlen hne
    go_enter Tryd.func15, Tryd.ntmps15
    go_wp2_with fail
    go_ret
    exact ⟨rfl, Ext.refl _⟩
end Go.Proofs.YthpccmmdkbjjhaaDoor

namespace Go.Proofs.YthpccmmdkbjjhaaDoor
open Go.RowKit
attribute [local go_sem] Oper.semAt_some

def exA : Ex := .mk 8 0 [.mk 2 0 [.mk 0 0 []], .mk 2 0 [.mk 0 1 []]]
def exG : Ex := .mk 4 0 [.mk 0 0 [], .mk 0 1 []]
theorem ev_in : inpS 2 2 exA = ([[0, 1]], 0) := by kernel_rfl
theorem ev_gr : graphsS 2 exG = ([⟨2, 3, 2, 0, 0, 0⟩, ⟨2, 3, 3, 0, 0, 0⟩], 0) := by kernel_rfl
theorem ev_tk : (taskS 2 consD).2 = 0 ∧ (taskS 2 consD).1.cs.length = 4 ∧ ((taskS 2 consD).1.cs.map fun c => c.out.length) = [1, 2, 2, 1] := ⟨by kernel_rfl, by kernel_rfl, by kernel_rfl⟩
theorem TkAt.outs_ {w : World} {v : Value} {T : Tk} (h : TkAt w v T) : ∃ p c, v = .agg #[.int .i64 T.n, .int .i64 T.ins, .int .i64 T.outs, .slice p T.cs.length c] ∧ (0 < T.cs.length → ∃ b o, p = some ⟨b, o, none⟩ ∧ b < w.heap.size ∧
    ∀ i x, T.cs[i]? = some x → ∃ q k, ∀ W, Ext w W → W.cell? ⟨b, o + i * 3 + 1, none⟩ = some (.slice q x.out.length k)) := by
  obtain ⟨u, vs, rfl, hl, ⟨p, c, rfl, hc, hcm, hat⟩, hcs⟩ := h
  rw [hl] at hat ⊢
  refine ⟨p, c, rfl, fun h0 => ?_⟩
  obtain ⟨b, o, hp, hb, hat⟩ := hat h0
  refine ⟨b, o, hp, hb, fun i x hx => ?_⟩
  have hi : i < T.cs.length := by
    rcases Nat.lt_or_ge i T.cs.length with h | h
    · exact h
    · rw [List.getElem?_eq_none h] at hx; cases hx
  have hv : vs[i]? = some vs[i] := List.getElem?_eq_getElem (by omega)
  obtain ⟨q, k, hq⟩ := (hcs i _ _ hv hx).out.sl
  refine ⟨q, k, fun W hE => (hE.cell (p := ⟨b, o + i * 3 + 1, none⟩) hb).trans ?_⟩
  have := hat i _ hv 1 _ rfl
  rw [hq] at this
  exact this
theorem rows_one {w : World} {v : Value} {l : List Int} (h : Row icells 1 w v l) : Rows2 icells 1 (w.alloc (.cells #[v] 38)) (.slice (some ⟨w.heap.size, 0, none⟩) 1 1) [l] := by
  refine ⟨[v], rfl, ⟨_, _, rfl, Nat.le_refl _, by simp, fun _ => ⟨w.heap.size, 0, rfl, by simp, fun i x hx j u hu => ?_⟩⟩, fun i u xs hu hx => ?_⟩
  · match i, hx with
    | 0, hx =>
      simp only [List.getElem?_cons_zero, Option.some.injEq] at hx
      subst hx
      simp only [Nat.zero_mul, Nat.zero_add]
      exact cell_new1 w v _ j u hu
    | _ + 1, hx => simp at hx
  · match i, hu, hx with
    | 0, hu, hx =>
      simp only [List.getElem?_cons_zero, Option.some.injEq] at hu hx
      subst hu hx
      exact h.ext ((Ext.refl _).alloc _)
    | _ + 1, hu, _ => simp at hu
set_option maxRecDepth 16000 in
set_option maxHeartbeats 4000000 in
theorem awake_any (w : World) (hT : Tab w) : Calls Tryd.prog 12 #[] w fun e w' => e = .returned (.bool true) ∧ Ext w w' := by
  have HT := hide hT
  clear hT
  go_enter Tryd.func12, Tryd.ntmps12
  go_wp2_with fail
  refine (mkat_any (fun _ => False) 2 0 w (fun _ h => h.elim)).mono ?_
  rintro e w1 ⟨u, rfl, hu, hE1⟩
  have HA := hide hu
  have HE1 := hide hE1
  obtain ⟨q1, k1, rfl, -⟩ := hu.at_.form
  clear hu hE1
  go_wp2_with fail
  refine (mkat_any (fun _ => False) 2 1 w1 (fun _ h => h.elim)).mono ?_
  rintro e w2 ⟨u, rfl, hu, hE2⟩
  have HA := hide (HA.out.ext hE2)
  have HB := hide hu
  have HE2 := hide (HE1.out.trans hE2)
  obtain ⟨q2, k2, rfl, -⟩ := hu.at_.form
  clear hu hE2
  go_wp2_with fail
  refine (mktwo_any (fun _ => False) 8 _ _ _ _ w2 (fun _ h => h.elim) HA.out HB.out).mono ?_
  rintro e w3 ⟨u, rfl, hu, hE3⟩
  have HC := hide hu
  have HE3 := hide (HE2.out.trans hE3)
  obtain ⟨q3, k3, rfl, -⟩ := hu.at_.form
  clear hu hE3 HA HB
  go_wp2_with fail
  have HIN := hide (pinputs_any 2 2 exA _ w3 (HT.out.ext HE3.out) HC.out.at_ (by decide) (fun _ _ _ _ => by decide))
  rw [ev_in] at HIN
  refine HIN.out.mono ?_
  rintro e w4 ⟨u, rfl, hu, hE4⟩
  have HL := hide hu
  have HE4 := hide (HE3.out.trans hE4)
  obtain ⟨q4, k4, rfl⟩ := hu.sl
  clear hu hE4 HIN HC
  go_wp2_with fail
  refine (mkcons_any w4).mono ?_
  rintro e w5 ⟨u, rfl, hu, hE5⟩
  have HL := hide (HL.out.ext hE5)
  have HD := hide hu
  have HE5 := hide (HE4.out.trans hE5)
  obtain ⟨s5, p51, c51, p52, c52, p53, c53, rfl, -⟩ := hu
  clear hE5
  go_wp2_with fail
  refine (ptask_any 2 consD _ w5 (HT.out.ext HE5.out) HD.out (by decide) (by decide) (by decide) (fun _ _ _ _ => by decide) (fun _ _ _ _ => by decide)).mono ?_
  rintro e w6 ⟨u, rfl, hu, hE6⟩
  have hev := ev_tk
  generalize taskS 2 consD = tr at hu hev ⊢
  obtain ⟨T, te⟩ := tr
  obtain ⟨he0, hl4, hlen⟩ := hev
  dsimp only at he0 hl4 hlen hu ⊢
  subst he0
  have HL := hide (HL.out.ext hE6)
  have HE6 := hide (HE5.out.trans hE6)
  obtain ⟨p6, c6, rfl, hcs⟩ := hu.outs_
  rw [hl4] at hcs ⊢
  obtain ⟨b6, o6, rfl, hb6, hcs⟩ := hcs (by decide)
  have HCS := hide hcs
  have HLEN := hide hlen
  have HL4 := hide hl4
  clear hu hE6 HD hcs hlen hl4
  go_wp2_with fail
  obtain ⟨w7, hw7⟩ : ∃ w7, w6.alloc (.cells #[.int .i64 T.n, .int .i64 T.ins, .int .i64 T.outs, .slice (some ⟨b6, o6, none⟩) 4 c6] 47) = w7 := ⟨_, rfl⟩
  have hE67 : Ext w6 w7 := by rw [← hw7]; exact (Ext.refl _).alloc _
  have HBT : Hid (TBox w7 w6.heap.size (.int .i64 T.n) (.int .i64 T.ins) (.int .i64 T.outs) (.slice (some ⟨b6, o6, none⟩) 4 c6)) := by show TBox _ _ _ _ _ _; rw [← hw7]; exact heap_alloc_new w6 _
  have HL := hide (HL.out.ext hE67)
  have HE7 := hide (HE6.out.trans hE67)
  have HE67 := hide hE67
  rw [hw7]
  clear hw7 hE67
  obtain ⟨g7, hg7⟩ : ∃ g, w6.heap.size = g := ⟨_, rfl⟩
  have hb67 : b6 < g7 := by omega
  rw [hg7] at HBT ⊢
  clear hg7
  refine (mknum_any (fun _ => False) 0 w7).mono ?_
  rintro e w8 ⟨u, rfl, hu, hE8⟩
  have HA := hide hu
  have HE78 := hide hE8
  obtain ⟨q8, k8, rfl, -⟩ := hu.at_.form
  clear hu hE8
  go_wp2_with fail
  refine (mknum_any (fun _ => False) 1 w8).mono ?_
  rintro e w9 ⟨u, rfl, hu, hE9⟩
  have HA := hide (HA.out.ext hE9)
  have HB := hide hu
  have HE79 := hide (HE78.out.trans hE9)
  obtain ⟨q9, k9, rfl, -⟩ := hu.at_.form
  clear hu hE9
  go_wp2_with fail
  refine (mktwo_any (fun _ => False) 4 _ _ _ _ w9 (fun _ h => h.elim) HA.out HB.out).mono ?_
  rintro e wa ⟨u, rfl, hu, hEa⟩
  have HC := hide hu
  have HE7a := hide (HE79.out.trans hEa)
  obtain ⟨qa, ka, rfl, -⟩ := hu.at_.form
  clear hu hEa HA HB
  go_wp2_with fail
  have HGR := hide (pgraphs_any 2 exG _ wa (HT.out.ext (HE7.out.trans HE7a.out)) HC.out.at_ (by decide))
  rw [ev_gr] at HGR
  refine HGR.out.mono ?_
  rintro e wb ⟨u, rfl, hu, hEb⟩
  have HE7b := hide (HE7a.out.trans hEb)
  have HG := hide hu
  obtain ⟨pb, cb, rfl, -, -, hat⟩ := hu.gr_all
  obtain ⟨bb, ob, rfl, hbb, hat⟩ := hat (by decide)
  have HAT := hide hat
  have HL := hide (HL.out.ext HE7b.out)
  have HTB := hide (HBT.out.ext HE7b.out)
  clear hu hEb HGR HC hat
  have hd0 : (wrap64 (wrap64 0) != 0) = false := by kernel_rfl
  obtain ⟨t0, t1, t2, t3⟩ := HTB.out.cells
  have htz := lt_of_heap HTB.out
  clear t0 t1 t2
  go_wp2_with fail
  have hr1 := row_two wb 0 1
  have hr2 := rows_one hr1
  rw [World.size_alloc] at hr2
  have hEc : Ext wb ((wb.alloc (.cells #[.int .i64 0, .int .i64 1] 3)).alloc (.cells #[.slice (some ⟨wb.heap.size, 0, none⟩) 2 2] 38)) := ((Ext.refl _).alloc _).alloc _
  refine (rsamev_any [[0, 1]] [[0, 1]] _ _ _ ((HL.out.ext hEc).rows2 (by decide)) hr2).mono ?_
  rintro e wc ⟨rfl, hEc2⟩
  have hEbc := hEc.trans hEc2
  have HE7c := hide (HE7b.out.trans hEbc)
  have HEbc := hide hEbc
  have hdt : decide (([[0, 1]] : List (List Int)) = [[0, 1]]) = true := by decide
  rw [hdt]
  clear hr1 hr2 hEc hEc2 hEbc hdt t3 htz HL
  obtain ⟨t0, t1, t2, t3⟩ := (HTB.out.ext HEbc.out).cells
  have htz := lt_of_heap (HTB.out.ext HEbc.out)
  clear t0 t1 t2
  go_wp2_with fail
  obtain ⟨wd, hwd⟩ : ∃ wd, wc.alloc (.cells #[.int .i64 1, .int .i64 2, .int .i64 2, .int .i64 1] 3) = wd := ⟨_, rfl⟩
  have hEcd : Ext wc wd := by rw [← hwd]; exact (Ext.refl _).alloc _
  have HBL : Hid (wd.heap[wc.heap.size]? = some (.cells #[.int .i64 1, .int .i64 2, .int .i64 2, .int .i64 1] 3 (0, 0))) := by show _ = _; rw [← hwd]; exact heap_alloc_new wc _
  have HE7d := hide (HE7c.out.trans hEcd)
  have HEbd := hide (HEbc.out.trans hEcd)
  rw [hwd]
  clear hwd hEcd t3 htz hd0
  obtain ⟨gl, hgl⟩ : ∃ g, wc.heap.size = g := ⟨_, rfl⟩
  rw [hgl] at HBL ⊢
  clear hgl
  go_loopw [54] (fun x V => ∃ i : Nat, i ≤ 4 ∧ x = .int .i64 i ∧ Hid (Ext wd V)) (fun x _ => 4 - (intOf x).toNat)
  case atStart => exact ⟨0, by omega, rfl, Ext.refl _⟩
  case round =>
    obtain ⟨i, hi, rfl, HE⟩ := hrel
    have hblk := (HE.out.b.block _ (lt_of_heap HBL.out)).trans HBL.out
    have hE67V := HE67.out.trans (HE7d.out.trans HE.out)
    by_cases hlt : i < 4
    · obtain ⟨t0, t1, t2, t3⟩ := (HBT.out.ext (HE7d.out.trans HE.out)).cells
      have htz := lt_of_heap (HBT.out.ext (HE7d.out.trans HE.out))
      clear t0 t1 t2
      have hglz := lt_of_heap hblk
      have hbz : b6 < wr.heap.size := Nat.lt_of_lt_of_le hb6 hE67V.size
      have key : ∀ k, k < 4 → ∃ x, T.cs[k]? = some x ∧ (x.out.length : Int) = ([1, 2, 2, 1] : List Int).getD k 0 := fun k hk => by
        have hk' : k < T.cs.length := by rw [HL4.out]; exact hk
        refine ⟨T.cs[k], List.getElem?_eq_getElem hk', ?_⟩
        have h := congrArg (fun l => l[k]?) HLEN.out
        simp only [List.getElem?_map, List.getElem?_eq_getElem hk', Option.map_some] at h
        obtain rfl | rfl | rfl | rfl : k = 0 ∨ k = 1 ∨ k = 2 ∨ k = 3 := by omega
        all_goals (injection h with h; rw [h]; rfl)
      obtain ⟨x, hx, hxl⟩ := key i hlt
      obtain ⟨q, k, hcell⟩ := HCS.out i x hx
      have hcl := hcell wr hE67V
      clear key hcell hx hE67V
      generalize x.out.length = n at hcl hxl
      obtain rfl | rfl | rfl | rfl : i = 0 ∨ i = 1 ∨ i = 2 ∨ i = 3 := by omega
      · have hv : wr.cell? ⟨gl, 0, none⟩ = some (.int .i64 1) := decl_cells hblk 0
        have hd : ((n : Int) != 1) = false := by rw [hxl]; rfl
        clear hblk hxl
        go_wp2_with fail
        go_roundw
        case rel => exact ⟨1, by omega, rfl, HE.out⟩
        case measure => simp [intOf]
      · have hv : wr.cell? ⟨gl, 1, none⟩ = some (.int .i64 2) := decl_cells hblk 1
        have hd : ((n : Int) != 2) = false := by rw [hxl]; rfl
        clear hblk hxl
        go_wp2_with fail
        go_roundw
        case rel => exact ⟨2, by omega, rfl, HE.out⟩
        case measure => simp [intOf]
      · have hv : wr.cell? ⟨gl, 2, none⟩ = some (.int .i64 2) := decl_cells hblk 2
        have hd : ((n : Int) != 2) = false := by rw [hxl]; rfl
        clear hblk hxl
        go_wp2_with fail
        go_roundw
        case rel => exact ⟨3, by omega, rfl, HE.out⟩
        case measure => simp [intOf]
      · have hv : wr.cell? ⟨gl, 3, none⟩ = some (.int .i64 1) := decl_cells hblk 3
        have hd : ((n : Int) != 1) = false := by rw [hxl]; rfl
        clear hblk hxl
        go_wp2_with fail
        go_roundw
        case rel => exact ⟨4, by omega, rfl, HE.out⟩
        case measure => simp [intOf]
    · obtain rfl : i = 4 := by omega
      have hEbV := HEbd.out.trans HE.out
      obtain ⟨-, x1, x2, -⟩ := HAT.out 0 (by decide)
      obtain ⟨-, y1, y2, -⟩ := HAT.out 1 (by decide)
      replace x1 : wr.cell? ⟨bb, ob + 1, none⟩ = some (.int .i64 3) := x1 wr hEbV
      replace x2 : wr.cell? ⟨bb, ob + 2, none⟩ = some (.int .i64 2) := x2 wr hEbV
      replace y1 : wr.cell? ⟨bb, ob + 7, none⟩ = some (.int .i64 3) := y1 wr hEbV
      replace y2 : wr.cell? ⟨bb, ob + 8, none⟩ = some (.int .i64 3) := y2 wr hEbV
      have hbbz : bb < wr.heap.size := Nat.lt_of_lt_of_le hbb hEbV.size
      have HFIN := hide (HE7.out.trans (HE7d.out.trans HE.out))
      clear hblk hE67V hEbV
      go_wp2_with fail
      go_ret
      exact ⟨rfl, HFIN.out⟩
end Go.Proofs.YthpccmmdkbjjhaaDoor
