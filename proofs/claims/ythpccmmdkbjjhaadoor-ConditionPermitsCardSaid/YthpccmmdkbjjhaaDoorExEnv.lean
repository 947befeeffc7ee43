/-
  The program's evaluator of expressions: what it lays down, and its smaller closures (expr.evaluator, $1, $2; expr.compared).
  Conditions: as each theorem states.
-/
import Derived.Test.YthpccmmdkbjjhaaDoorExTruth
import Derived.Test.YthpccmmdkbjjhaaDoorHeld
import Derived.Laws.EntriesVeiled
namespace Go.Proofs.YthpccmmdkbjjhaaDoor
open Go.RowKit

abbrev P0 (g : Nat) : Value := .pointer (some ⟨g, 0, none⟩)
/-- The evaluator's variables, from block g on. -/
structure EvEnv (W : World) (g : Nat) (s : Sc) : Prop where
  sc : ∃ si so sv, W.heap[g]? = some (.cells #[.int .i64 s.n, si, so, .int .i64 s.h.h0, .int .i64 s.h.h1, .int .i64 s.h.h2, .int .i64 s.h.h3, .int .i64 s.h.h4, sv] 80 (0, 0)) ∧ Row icells 1 W si s.inp ∧ Row icells 1 W so s.out
  pr : W.heap[g + 1]? = some (.cells #[.func (.func 126) #[] #[P0 g]] 99 (0, 0))
  el : W.heap[g + 2]? = some (.cells #[.func (.func 127) #[] #[P0 (g + 1)]] 146 (0, 0))
  ev : W.heap[g + 3]? = some (.cells #[.func (.func 129) #[] #[P0 (g + 4), P0 g, P0 (g + 3), P0 (g + 2), P0 (g + 1)]] 139 (0, 0))
  cn : W.heap[g + 4]? = some (.cells #[.func (.func 128) #[] #[P0 g, P0 (g + 3)]] 139 (0, 0))
theorem EvEnv.ext {W V : World} {g : Nat} {s : Sc} (h : EvEnv W g s) (hE : Ext W V) : EvEnv V g s := by
  obtain ⟨⟨si, so, sv, h0, h1, h2⟩, h3, h4, h5, h6⟩ := h
  have f : ∀ {k : Nat} {o : Obj}, W.heap[k]? = some o → V.heap[k]? = some o := fun hk => (hE.b.block _ (lt_of_heap hk)).trans hk
  exact ⟨⟨si, so, sv, f h0, h1.ext hE, h2.ext hE⟩, f h3, f h4, f h5, f h6⟩
theorem cell0 {W : World} {b : Nat} {v : Value} {t : TypeId} (h : W.heap[b]? = some (.cells #[v] t (0, 0))) : W.cell? ⟨b, 0, none⟩ = some v := by rw [cell_of_row W b 0 _ _ _ h]; rfl
theorem EvEnv.cells {W : World} {g : Nat} {s : Sc} (h : EvEnv W g s) : W.cell? ⟨g + 1, 0, none⟩ = some (.func (.func 126) #[] #[P0 g]) ∧ W.cell? ⟨g + 2, 0, none⟩ = some (.func (.func 127) #[] #[P0 (g + 1)]) ∧
    W.cell? ⟨g + 3, 0, none⟩ = some (.func (.func 129) #[] #[P0 (g + 4), P0 g, P0 (g + 3), P0 (g + 2), P0 (g + 1)]) ∧ W.cell? ⟨g + 4, 0, none⟩ = some (.func (.func 128) #[] #[P0 g, P0 (g + 3)]) ∧ g + 4 < W.heap.size :=
  ⟨cell0 h.pr, cell0 h.el, cell0 h.ev, cell0 h.cn, lt_of_heap h.cn⟩
theorem EvEnv.scene {W : World} {g : Nat} {s : Sc} (h : EvEnv W g s) : ∃ si so : Value, Row icells 1 W si s.inp ∧ Row icells 1 W so s.out ∧ W.cell? ⟨g, 0, none⟩ = some (.int .i64 s.n) ∧ W.cell? ⟨g, 1, none⟩ = some si ∧ W.cell? ⟨g, 2, none⟩ = some so ∧
    (∀ k, k < 5 → W.cell? ⟨g, 3 + k, none⟩ = some (.int .i64 (s.h.h k))) := by
  obtain ⟨si, so, sv, h0, h1, h2⟩ := h.sc
  refine ⟨si, so, h1, h2, by rw [cell_of_row _ _ _ _ _ _ h0]; rfl, by rw [cell_of_row _ _ _ _ _ _ h0]; rfl, by rw [cell_of_row _ _ _ _ _ _ h0]; rfl, fun k hk => ?_⟩
  rw [cell_of_row _ _ _ _ _ _ h0]
  obtain rfl | rfl | rfl | rfl | rfl : k = 0 ∨ k = 1 ∨ k = 2 ∨ k = 3 ∨ k = 4 := by omega
  all_goals rfl

theorem proc_any (s : Sc) (g : Nat) (a : Int) (w : World) (h : EvEnv w g s) :
    Calls Tryd.prog 126 #[.int .i64 a, P0 g] w fun e' w' => e' = .returned (.bool (procS s.n a)) ∧ w' = w := by
  obtain ⟨si, so, -, -, c0, -⟩ := h.scene
  clear h
  unfold procS
  by_cases h1 : 0 ≤ a <;> by_cases h2 : a < (s.n : Int)
  all_goals
    go_enter Tryd.func126, Tryd.ntmps126
    go_wp2
    go_ret
    simp [h1, h2]
theorem elem_any (s : Sc) (g : Nat) (l : List Int) (v : Value) (p : Int) (w : World) (h : EvEnv w g s) (hl : Row icells 1 w v l) :
    Calls Tryd.prog 127 #[v, .int .i64 p, P0 (g + 1)] w fun e' w' => e' = .returned (.int .i64 (atS l p s.n)) ∧ w' = w := by
  have HP := hide (proc_any s g p w h)
  obtain ⟨c1, -⟩ := h.cells
  clear h
  obtain ⟨q, c, rfl, hc, hlen, hat⟩ := hl.int_all
  clear hl
  generalize hres : atS l p s.n = res
  unfold atS at hres
  by_cases hp : procS s.n p = true
  · rw [hp] at HP
    have hp' : 0 ≤ p ∧ p < s.n := by simpa only [procS, Bool.and_eq_true, decide_eq_true_eq] using hp
    clear hp
    obtain ⟨k, rfl⟩ := Int.eq_ofNat_of_zero_le hp'.1
    by_cases h3 : (l.length : Int) ≤ (k : Int)
    · rw [if_pos (.inr (.inr h3))] at hres
      have HR := hide hres
      clear hres hat hp'
      go_enter Tryd.func127, Tryd.ntmps127
      go_wp2_with fail
      refine HP.out.mono ?_
      rintro e' w1 ⟨rfl, rfl⟩
      go_wp2_with fail
      go_ret
      exact ⟨ret_int HR.out, rfl⟩
    · rw [if_neg (by omega), Int.toNat_natCast] at hres
      obtain ⟨b, o, rfl, hb, hcell⟩ := hat (by omega)
      have hc0 := hcell k (by omega) w (Ext.refl w)
      rw [hres] at hc0
      clear hres hat hcell hp'
      go_enter Tryd.func127, Tryd.ntmps127
      go_wp2_with fail
      refine HP.out.mono ?_
      rintro e' w1 ⟨rfl, rfl⟩
      go_wp2_with fail
      go_ret
      exact ⟨rfl, rfl⟩
  · have hp' : ¬ (0 ≤ p ∧ p < s.n) := by simpa only [procS, Bool.and_eq_true, decide_eq_true_eq] using hp
    rw [Bool.not_eq_true] at hp
    rw [hp] at HP
    rw [if_pos (by omega)] at hres
    have HR := hide hres
    clear hres hat hp' hp
    go_enter Tryd.func127, Tryd.ntmps127
    go_wp2_with fail
    refine HP.out.mono ?_
    rintro e' w1 ⟨rfl, rfl⟩
    go_wp2_with fail
    go_ret
    exact ⟨ret_int HR.out, rfl⟩
theorem compared_any (s : Sc) (op a b : Int) (w : World) (h0 : 5 ≤ op) (h1 : op ≤ 9) (ha : -1000000000 ≤ a ∧ a ≤ 1000000000) (hb : -1000000000 ≤ b ∧ b ≤ 1000000000) :
    Calls Tryd.prog 131 #[.int .i64 op, .int .i64 a, .int .i64 b] w fun e' w' => e' = .returned (.int .i64 (twoS s op a b)) ∧ w' = w := by
  obtain ⟨ha1, ha2⟩ := ha
  obtain ⟨hb1, hb2⟩ := hb
  generalize hres : twoS s op a b = res
  unfold twoS at hres
  rcases (show op = 5 ∨ op = 6 ∨ op = 7 ∨ op = 8 ∨ op = 9 by omega) with rfl | rfl | rfl | rfl | rfl
  · rw [if_neg (by decide), if_pos rfl] at hres
    have HR := hide hres
    clear hres
    go_enter Tryd.func131, Tryd.ntmps131
    go_wp2_with fail
    go_ret
    exact ⟨ret_int HR.out, rfl⟩
  · rw [if_neg (by decide), if_neg (by decide), if_pos rfl] at hres
    have HR := hide hres
    clear hres
    go_enter Tryd.func131, Tryd.ntmps131
    go_wp2_with fail
    go_ret
    exact ⟨ret_int HR.out, rfl⟩
  · rw [if_neg (by decide), if_neg (by decide), if_neg (by decide), if_pos rfl] at hres
    have HR := hide hres
    clear hres
    go_enter Tryd.func131, Tryd.ntmps131
    go_wp2_with fail
    refine (ptruth_any _ _).mono ?_
    rintro e' w1 ⟨rfl, rfl⟩
    go_wp2_with fail
    go_ret
    exact ⟨ret_int HR.out, rfl⟩
  · rw [if_neg (by decide), if_neg (by decide), if_neg (by decide), if_neg (by decide), if_pos rfl] at hres
    have HR := hide hres
    clear hres
    go_enter Tryd.func131, Tryd.ntmps131
    go_wp2_with fail
    refine (ptruth_any _ _).mono ?_
    rintro e' w1 ⟨rfl, rfl⟩
    go_wp2_with fail
    go_ret
    exact ⟨ret_int HR.out, rfl⟩
  · rw [if_neg (by decide), if_neg (by decide), if_neg (by decide), if_neg (by decide), if_neg (by decide), if_pos rfl] at hres
    have HR := hide hres
    clear hres
    go_enter Tryd.func131, Tryd.ntmps131
    go_wp2_with fail
    refine (ptruth_any _ _).mono ?_
    rintro e' w1 ⟨rfl, rfl⟩
    go_wp2_with fail
    go_ret
    exact ⟨ret_int HR.out, rfl⟩
theorem alloc_five (w : World) (o0 o1 o2 o3 o4 : Obj) : (((((w.alloc o0).alloc o1).alloc o2).alloc o3).alloc o4).heap[w.heap.size]? = some o0 ∧ (((((w.alloc o0).alloc o1).alloc o2).alloc o3).alloc o4).heap[w.heap.size + 1]? = some o1 ∧
    (((((w.alloc o0).alloc o1).alloc o2).alloc o3).alloc o4).heap[w.heap.size + 2]? = some o2 ∧ (((((w.alloc o0).alloc o1).alloc o2).alloc o3).alloc o4).heap[w.heap.size + 3]? = some o3 ∧ (((((w.alloc o0).alloc o1).alloc o2).alloc o3).alloc o4).heap[w.heap.size + 4]? = some o4 := by
  have p : ∀ (W : World) (o : Obj) (k : Nat), k < W.heap.size → (W.alloc o).heap[k]? = W.heap[k]? := fun W o k hk => Below.heap_alloc _ _ _ hk
  have b0 := World.alloc_heap_new w o0
  have b1 := World.alloc_heap_new (w.alloc o0) o1
  have b2 := World.alloc_heap_new ((w.alloc o0).alloc o1) o2
  have b3 := World.alloc_heap_new (((w.alloc o0).alloc o1).alloc o2) o3
  have b4 := World.alloc_heap_new ((((w.alloc o0).alloc o1).alloc o2).alloc o3) o4
  simp only [World.size_alloc] at b1 b2 b3 b4
  refine ⟨?_, ?_, ?_, ?_, b4⟩
  · rw [p _ _ _ (by simp only [World.size_alloc]; omega), p _ _ _ (by simp only [World.size_alloc]; omega), p _ _ _ (by simp only [World.size_alloc]; omega), p _ _ _ (by simp only [World.size_alloc]; omega)]; exact b0
  · rw [p _ _ _ (by simp only [World.size_alloc]; omega), p _ _ _ (by simp only [World.size_alloc]; omega), p _ _ _ (by simp only [World.size_alloc]; omega)]; exact b1
  · rw [p _ _ _ (by simp only [World.size_alloc]; omega), p _ _ _ (by simp only [World.size_alloc]; omega)]; exact b2
  · rw [p _ _ _ (by simp only [World.size_alloc]; omega)]; exact b3
set_option maxHeartbeats 1000000 in
theorem evaluator_any (s : Sc) (vars : List Int) (u : Value) (w : World) (hu : ScAt w u s vars) :
    Calls Tryd.prog 109 #[u] w fun e' w' => e' = .returned (.func (.func 129) #[] #[P0 (w.heap.size + 4), P0 w.heap.size, P0 (w.heap.size + 3), P0 (w.heap.size + 2), P0 (w.heap.size + 1)]) ∧ Ext w w' ∧ EvEnv w' w.heap.size s := by
  obtain ⟨si, so, sv, rfl, hi, ho, hvv⟩ := hu
  obtain ⟨qi, ci, rfl, -⟩ := hi.int_all
  obtain ⟨qo, co, rfl, -⟩ := ho.int_all
  obtain ⟨qv, cv, rfl, -⟩ := hvv.int_all
  clear hvv
  have HI := hide hi
  have HO := hide ho
  clear hi ho
  go_enter Tryd.func109, Tryd.ntmps109
  go_wp2_with fail
  go_ret
  refine ⟨rfl, ((((Ext.refl w).alloc _).alloc _).alloc _).alloc _ |>.alloc _, ?_⟩
  obtain ⟨a0, a1, a2, a3, a4⟩ := alloc_five w (.cells #[.int .i64 s.n, .slice qi s.inp.length ci, .slice qo s.out.length co, .int .i64 s.h.h0, .int .i64 s.h.h1, .int .i64 s.h.h2, .int .i64 s.h.h3, .int .i64 s.h.h4, .slice qv vars.length cv] 80)
    (.cells #[.func (.func 126) #[] #[P0 w.heap.size]] 99) (.cells #[.func (.func 127) #[] #[P0 (w.heap.size + 1)]] 146)
    (.cells #[.func (.func 129) #[] #[P0 (w.heap.size + 4), P0 w.heap.size, P0 (w.heap.size + 3), P0 (w.heap.size + 2), P0 (w.heap.size + 1)]] 139) (.cells #[.func (.func 128) #[] #[P0 w.heap.size, P0 (w.heap.size + 3)]] 139)
  have hE : ∀ o0 o1 o2 o3 o4, Ext w (((((w.alloc o0).alloc o1).alloc o2).alloc o3).alloc o4) := fun _ _ _ _ _ => ((((Ext.refl w).alloc _).alloc _).alloc _).alloc _ |>.alloc _
  exact ⟨⟨_, _, _, a0, HI.out.ext (hE _ _ _ _ _), HO.out.ext (hE _ _ _ _ _)⟩, a1, a2, a3, a4⟩
end Go.Proofs.YthpccmmdkbjjhaaDoor
