/-
  Graphs that are made row by row (graph.made).
  Conditions: as each theorem states.
-/
import Derived.Test.YtnhgdjiljjpgmaaGrAll
namespace Go.Proofs.Ytnhgdjiljjpgmaa
open Go.RowKit
attribute [local go_sem] Oper.semAt_some

/-- The graph of N processes whose first k rows are f's. -/
def mkG (N : Nat) (f : Nat → Int) (k : Nat) : Gr := ⟨N, if 0 < k then f 0 else 0, if 1 < k then f 1 else 0, if 2 < k then f 2 else 0, if 3 < k then f 3 else 0, if 4 < k then f 4 else 0⟩
theorem mkG_succ (N : Nat) (f : Nat → Int) (k : Nat) (hk : k < 5) : (mkG N f k).set k (f k) = mkG N f (k + 1) := by
  obtain rfl | rfl | rfl | rfl | rfl : k = 0 ∨ k = 1 ∨ k = 2 ∨ k = 3 ∨ k = 4 := by omega
  all_goals simp [mkG, Gr.set]
theorem mkG_zero (N : Nat) (f : Nat → Int) : mkG N f 0 = ⟨N, 0, 0, 0, 0, 0⟩ := by simp [mkG]
theorem mkG_h (N : Nat) (f : Nat → Int) (k p : Nat) (hp : p < 5) : (mkG N f k).h p = if p < k then f p else 0 := by
  obtain rfl | rfl | rfl | rfl | rfl : p = 0 ∨ p = 1 ∨ p = 2 ∨ p = 3 ∨ p = 4 := by omega
  all_goals rfl
theorem GrBox.frozen {W : World} {b : Nat} {g : Gr} (h : GrBox W b g) : W.frozen? ⟨b, 0, none⟩ = false ∧ W.frozen? ⟨b, 1, none⟩ = false ∧ W.frozen? ⟨b, 2, none⟩ = false ∧ W.frozen? ⟨b, 3, none⟩ = false ∧ W.frozen? ⟨b, 4, none⟩ = false ∧ W.frozen? ⟨b, 5, none⟩ = false :=
  ⟨frozen_of h, frozen_of h, frozen_of h, frozen_of h, frozen_of h, frozen_of h⟩
theorem GrBox.of_block {W V : World} {b : Nat} {g : Gr} (h : GrBox W b g) (hb : V.heap[b]? = W.heap[b]?) : GrBox V b g := hb.trans h
theorem GrBox.ext {W V : World} {b : Nat} {g : Gr} (h : GrBox W b g) (hE : Ext W V) : GrBox V b g := (hE.b.block _ (lt_of_heap h)).trans h
/-- A graph stored over another one, cell by cell. -/
abbrev gstore (W : World) (b : Nat) (r : Gr) : World :=
  (((((W.setCell ⟨b, 0, none⟩ (.int .i64 r.n)).setCell ⟨b, 1, none⟩ (.int .i64 r.h0)).setCell ⟨b, 2, none⟩ (.int .i64 r.h1)).setCell ⟨b, 3, none⟩ (.int .i64 r.h2)).setCell ⟨b, 4, none⟩ (.int .i64 r.h3)).setCell ⟨b, 5, none⟩ (.int .i64 r.h4)
theorem GrBox.store {W : World} {b : Nat} {g : Gr} (h : GrBox W b g) (r : Gr) : GrBox (gstore W b r) b r := by
  have h0 := heap_set (j := 0) h (.int .i64 r.n)
  have h1 := heap_set (j := 1) h0 (.int .i64 r.h0)
  have h2 := heap_set (j := 2) h1 (.int .i64 r.h1)
  have h3 := heap_set (j := 3) h2 (.int .i64 r.h2)
  have h4 := heap_set (j := 4) h3 (.int .i64 r.h3)
  exact heap_set (j := 5) h4 (.int .i64 r.h4)
theorem Ext.gstore {w W : World} (h : Ext w W) {b : Nat} (hb : w.heap.size ≤ b) (r : Gr) : Ext w (gstore W b r) :=
  (((((h.setCell hb _).setCell hb _).setCell hb _).setCell hb _).setCell hb _).setCell hb _
/-- A graph as a function's result. -/
theorem results_gr {fn : Func} {a : Tmp} (h : fn.results = #[.cell a 36]) (tmps : Array Value) {w : World} {b : Nat} {r : Gr} (ha : tmps.getD a undef = .pointer (some ⟨b, 0, none⟩)) (hb : GrBox w b r) :
    (results fn tmps).run Try.prog w = .ok r.v w := by
  obtain ⟨c0, c1, c2, c3, c4, c5, -⟩ := hb.cells
  rw [Array.getD_eq_getD_getElem?] at ha
  simp [results, h, ha, go_sem, c0, c1, c2, c3, c4, c5]
theorem results_gr2 {fn : Func} {a e : Tmp} (h : fn.results = #[.cell a 36, .tmp e]) (tmps : Array Value) {w : World} {b : Nat} {r : Gr} {x : Value} (ha : tmps.getD a undef = .pointer (some ⟨b, 0, none⟩)) (he : tmps.getD e undef = x) (hb : GrBox w b r) :
    (results fn tmps).run Try.prog w = .ok (.tuple #[r.v, x]) w := by
  obtain ⟨c0, c1, c2, c3, c4, c5, -⟩ := hb.cells
  rw [Array.getD_eq_getD_getElem?] at ha he
  simp [results, h, ha, he, go_sem, c0, c1, c2, c3, c4, c5]
set_option maxRecDepth 16000 in
set_option maxHeartbeats 1000000 in
theorem made_any (N : Nat) (hN : N ≤ 5) (fid : Nat) (lb : Array Value) (f : Nat → Int) (w : World)
    (ef : ∀ args w, (callFunc fid args).run Try.prog w = .ok (.enter fid args) w)
    (hrow : ∀ (p : Nat) W, p < N → Ext w W → Calls Try.prog fid (#[.int .i64 p] ++ lb) W fun e W' => e = .returned (.int .i64 (f p)) ∧ Ext W W') :
    Calls Try.prog 78 #[.int .i64 N, .func (.func fid) #[] lb] w fun e w' => e = .returned (mkG N f N).v ∧ Ext w w' := by
  have HROW := hide hrow
  clear hrow
  go_enter Try.func78, Try.ntmps78
  go_wp2_with fail
  obtain ⟨w1, hw1⟩ : ∃ w1, (w.alloc (.cells #[.int .i64 0, .int .i64 0, .int .i64 0, .int .i64 0, .int .i64 0, .int .i64 0] 36)).alloc (.cells #[.int .i64 N, .int .i64 0, .int .i64 0, .int .i64 0, .int .i64 0, .int .i64 0] 36) = w1 := ⟨_, rfl⟩
  have HE1 : Hid (Ext w w1) := by show Ext _ _; rw [← hw1]; exact ((Ext.refl w).alloc _).alloc _
  have HB1 : Hid (GrBox w1 (w.heap.size + 1) (mkG N f 0)) := by
    show GrBox _ _ _; rw [← hw1, mkG_zero]; have := heap_alloc_new (w.alloc (.cells #[.int .i64 0, .int .i64 0, .int .i64 0, .int .i64 0, .int .i64 0, .int .i64 0] 36)) (.cells #[.int .i64 N, .int .i64 0, .int .i64 0, .int .i64 0, .int .i64 0, .int .i64 0] 36); rwa [World.size_alloc] at this
  have HG1 : Hid (∃ g, GrBox w1 w.heap.size g) := ⟨⟨0, 0, 0, 0, 0, 0⟩, by
    rw [← hw1]; exact (Below.heap_alloc _ _ _ (by simp)).trans (heap_alloc_new w _)⟩
  rw [hw1]
  clear hw1
  go_loopw [10] (fun x wr => ∃ k : Nat, k ≤ N ∧ x = .int .i64 k ∧ Hid (GrBox wr (w.heap.size + 1) (mkG N f k)) ∧ Hid (∃ g, GrBox wr w.heap.size g) ∧ Hid (Ext w wr)) (fun x _ => N - (intOf x).toNat)
  case atStart => exact ⟨0, by omega, rfl, HB1, HG1, HE1⟩
  case round =>
    obtain ⟨k, hk, rfl, HB, HG, HE⟩ := hrel
    clear HB1 HG1 HE1
    by_cases hlt : k < N
    · have hkI : (k : Int) < 5 := by omega
      go_wp2_with fail
      refine (HROW.out k _ hlt HE.out).mono ?_
      rintro e W' ⟨rfl, hE2⟩
      have hb := HB.out.ext hE2
      obtain ⟨hcp, hfp⟩ := hb.row (p := k) (by omega)
      have HNEW := hide (hb.set (p := k) (by omega) (f k))
      rw [mkG_succ _ _ _ (by omega)] at HNEW
      have HO : Hid (∃ g, GrBox (W'.setCell ⟨w.heap.size + 1, 1 + k, none⟩ (.int .i64 (f k))) w.heap.size g) := by
        obtain ⟨g, hg⟩ := HG.out
        exact ⟨g, (Below.heap_setCell _ _ _ _ (by simp)).trans (hg.ext hE2)⟩
      have HE3 := hide ((HE.out.trans hE2).setCell (p := ⟨w.heap.size + 1, 1 + k, none⟩) (by simp) (.int .i64 (f k)))
      clear hb hE2 HB HG HE
      go_wp2_with fail
      go_roundw
      case rel => exact ⟨k + 1, by omega, by go_num, HNEW, HO, HE3⟩
      case measure => simp [intOf]; omega
    · obtain rfl : k = N := by omega
      obtain ⟨c0, c1, c2, c3, c4, c5, hz⟩ := HB.out.cells
      obtain ⟨g, hg⟩ := HG.out
      obtain ⟨d0, d1, d2, d3, d4, d5, dz⟩ := hg.cells
      obtain ⟨f0, f1, f2, f3, f4, f5⟩ := hg.frozen
      have HG' := hide hg
      clear hg
      obtain ⟨r, hr⟩ : ∃ r, r = mkG k f k := ⟨_, rfl⟩
      rw [← hr] at c0 c1 c2 c3 c4 c5
      have HR := hide hr
      clear hr
      go_wp2_with fail
      exact bodyPost_ret (v := r.v) (results_gr rfl _ rfl (HG'.out.store r)) rfl ⟨by rw [HR.out], HE.out.gstore (Nat.le_refl _) r⟩
end Go.Proofs.Ytnhgdjiljjpgmaa
