/-
  The program's truth of a condition (expr.Eval, Truth).
  Conditions: as each theorem states.
-/
import Derived.Test.YthkididgbaamcaaGreatDoorExR
import Derived.Test.YthkididgbaamcaaGreatDoorHeldA
import Derived.Test.YthkididgbaamcaaGreatDoorIdxInt
import Derived.Laws.EntriesVeiled
import Derived.ArgAppend
import Derived.IntWalk
namespace Go.Proofs.YthkididgbaamcaaGreatDoor
open Go.RowKit

abbrev P0 (g : Nat) : Value := .pointer (some ⟨g, 0, none⟩)
/-- The evaluator's variables, from block g on. -/
structure EvEnv (W : World) (g : Nat) (s : Sc) : Prop where
  sc : ∃ si so sv, W.heap[g]? = some (.cells #[.int .i64 s.n, si, so, .int .i64 s.h.h0, .int .i64 s.h.h1, .int .i64 s.h.h2, .int .i64 s.h.h3, .int .i64 s.h.h4, sv] 65 (0, 0)) ∧ Row icells 1 W si s.inp ∧ Row icells 1 W so s.out
  pr : W.heap[g + 1]? = some (.cells #[.func (.func 125) #[] #[P0 g]] 91 (0, 0))
  el : W.heap[g + 2]? = some (.cells #[.func (.func 126) #[] #[P0 (g + 1)]] 143 (0, 0))
  ev : W.heap[g + 3]? = some (.cells #[.func (.func 128) #[] #[P0 (g + 4), P0 g, P0 (g + 3), P0 (g + 2), P0 (g + 1)]] 123 (0, 0))
  cn : W.heap[g + 4]? = some (.cells #[.func (.func 127) #[] #[P0 g, P0 (g + 3)]] 123 (0, 0))
theorem EvEnv.ext {W V : World} {g : Nat} {s : Sc} (h : EvEnv W g s) (hE : Ext W V) : EvEnv V g s := by
  obtain ⟨⟨si, so, sv, h0, h1, h2⟩, h3, h4, h5, h6⟩ := h
  have f : ∀ {k : Nat} {o : Obj}, W.heap[k]? = some o → V.heap[k]? = some o := fun hk => (hE.b.block _ (lt_of_heap hk)).trans hk
  exact ⟨⟨si, so, sv, f h0, h1.ext hE, h2.ext hE⟩, f h3, f h4, f h5, f h6⟩
theorem cell0 {W : World} {b : Nat} {v : Value} {t : TypeId} (h : W.heap[b]? = some (.cells #[v] t (0, 0))) : W.cell? ⟨b, 0, none⟩ = some v := by rw [cell_of_row W b 0 _ _ _ h]; rfl
theorem EvEnv.cells {W : World} {g : Nat} {s : Sc} (h : EvEnv W g s) : W.cell? ⟨g + 1, 0, none⟩ = some (.func (.func 125) #[] #[P0 g]) ∧ W.cell? ⟨g + 2, 0, none⟩ = some (.func (.func 126) #[] #[P0 (g + 1)]) ∧
    W.cell? ⟨g + 3, 0, none⟩ = some (.func (.func 128) #[] #[P0 (g + 4), P0 g, P0 (g + 3), P0 (g + 2), P0 (g + 1)]) ∧ W.cell? ⟨g + 4, 0, none⟩ = some (.func (.func 127) #[] #[P0 g, P0 (g + 3)]) ∧ g + 4 < W.heap.size :=
  ⟨cell0 h.pr, cell0 h.el, cell0 h.ev, cell0 h.cn, lt_of_heap h.cn⟩
theorem EvEnv.scene {W : World} {g : Nat} {s : Sc} (h : EvEnv W g s) : ∃ si so : Value, Row icells 1 W si s.inp ∧ Row icells 1 W so s.out ∧ W.cell? ⟨g, 0, none⟩ = some (.int .i64 s.n) ∧ W.cell? ⟨g, 1, none⟩ = some si ∧ W.cell? ⟨g, 2, none⟩ = some so ∧
    (∀ k, k < 5 → W.cell? ⟨g, 3 + k, none⟩ = some (.int .i64 (s.h.h k))) := by
  obtain ⟨si, so, sv, h0, h1, h2⟩ := h.sc
  refine ⟨si, so, h1, h2, by rw [cell_of_row _ _ _ _ _ _ h0]; rfl, by rw [cell_of_row _ _ _ _ _ _ h0]; rfl, by rw [cell_of_row _ _ _ _ _ _ h0]; rfl, fun k hk => ?_⟩
  rw [cell_of_row _ _ _ _ _ _ h0]
  obtain rfl | rfl | rfl | rfl | rfl : k = 0 ∨ k = 1 ∨ k = 2 ∨ k = 3 ∨ k = 4 := by omega
  all_goals rfl

theorem proc_any (s : Sc) (g : Nat) (a : Int) (w : World) (h : EvEnv w g s) :
    Calls Tryz.prog 125 #[.int .i64 a, P0 g] w fun e' w' => e' = .returned (.bool (procS s.n a)) ∧ w' = w := by
  obtain ⟨si, so, -, -, c0, -⟩ := h.scene
  clear h
  unfold procS
  by_cases h1 : 0 ≤ a <;> by_cases h2 : a < (s.n : Int)
  all_goals
    go_enter Tryz.func125, Tryz.ntmps125
    go_wp2
    go_ret
    simp [h1, h2]
theorem elem_any (s : Sc) (g : Nat) (l : List Int) (v : Value) (p : Int) (w : World) (h : EvEnv w g s) (hl : Row icells 1 w v l) :
    Calls Tryz.prog 126 #[v, .int .i64 p, P0 (g + 1)] w fun e' w' => e' = .returned (.int .i64 (atS l p s.n)) ∧ w' = w := by
  have HP := hide (proc_any s g p w h)
  obtain ⟨c1, -⟩ := h.cells
  clear h
  obtain ⟨q, c, rfl, hc, hlen, hat⟩ := hl.int_all
  clear hl
  generalize hres : atS l p s.n = res
  unfold atS at hres
  by_cases hp : procS s.n p = true
  · rw [hp] at HP
    have hp' : 0 ≤ p ∧ p < s.n := by simpa only [procS, Bool.and_eq_true, decide_eq_true_eq] using hp
    clear hp
    obtain ⟨k, rfl⟩ := Int.eq_ofNat_of_zero_le hp'.1
    by_cases h3 : (l.length : Int) ≤ (k : Int)
    · rw [if_pos (.inr (.inr h3))] at hres
      have HR := hide hres
      clear hres hat hp'
      go_enter Tryz.func126, Tryz.ntmps126
      go_wp2_with fail
      refine HP.out.mono ?_
      rintro e' w1 ⟨rfl, rfl⟩
      go_wp2_with fail
      go_ret
      exact ⟨ret_int HR.out, rfl⟩
    · rw [if_neg (by omega), Int.toNat_natCast] at hres
      obtain ⟨b, o, rfl, hb, hcell⟩ := hat (by omega)
      have hc0 := hcell k (by omega) w (Ext.refl w)
      rw [hres] at hc0
      clear hres hat hcell hp'
      go_enter Tryz.func126, Tryz.ntmps126
      go_wp2_with fail
      refine HP.out.mono ?_
      rintro e' w1 ⟨rfl, rfl⟩
      go_wp2_with fail
      go_ret
      exact ⟨rfl, rfl⟩
  · have hp' : ¬ (0 ≤ p ∧ p < s.n) := by simpa only [procS, Bool.and_eq_true, decide_eq_true_eq] using hp
    rw [Bool.not_eq_true] at hp
    rw [hp] at HP
    rw [if_pos (by omega)] at hres
    have HR := hide hres
    clear hres hat hp' hp
    go_enter Tryz.func126, Tryz.ntmps126
    go_wp2_with fail
    refine HP.out.mono ?_
    rintro e' w1 ⟨rfl, rfl⟩
    go_wp2_with fail
    go_ret
    exact ⟨ret_int HR.out, rfl⟩
theorem compared_any (s : Sc) (op a b : Int) (w : World) (h0 : 5 ≤ op) (h1 : op ≤ 9) (ha : -1000000000 ≤ a ∧ a ≤ 1000000000) (hb : -1000000000 ≤ b ∧ b ≤ 1000000000) :
    Calls Tryz.prog 130 #[.int .i64 op, .int .i64 a, .int .i64 b] w fun e' w' => e' = .returned (.int .i64 (twoS s op a b)) ∧ w' = w := by
  obtain ⟨ha1, ha2⟩ := ha
  obtain ⟨hb1, hb2⟩ := hb
  generalize hres : twoS s op a b = res
  unfold twoS at hres
  rcases (show op = 5 ∨ op = 6 ∨ op = 7 ∨ op = 8 ∨ op = 9 by omega) with rfl | rfl | rfl | rfl | rfl
  · rw [if_neg (by decide), if_pos rfl] at hres
    have HR := hide hres
    clear hres
    go_enter Tryz.func130, Tryz.ntmps130
    go_wp2_with fail
    go_ret
    exact ⟨ret_int HR.out, rfl⟩
  · rw [if_neg (by decide), if_neg (by decide), if_pos rfl] at hres
    have HR := hide hres
    clear hres
    go_enter Tryz.func130, Tryz.ntmps130
    go_wp2_with fail
    go_ret
    exact ⟨ret_int HR.out, rfl⟩
  · rw [if_neg (by decide), if_neg (by decide), if_neg (by decide), if_pos rfl] at hres
    have HR := hide hres
    clear hres
    go_enter Tryz.func130, Tryz.ntmps130
    go_wp2_with fail
    refine (ptruth_any _ _).mono ?_
    rintro e' w1 ⟨rfl, rfl⟩
    go_wp2_with fail
    go_ret
    exact ⟨ret_int HR.out, rfl⟩
  · rw [if_neg (by decide), if_neg (by decide), if_neg (by decide), if_neg (by decide), if_pos rfl] at hres
    have HR := hide hres
    clear hres
    go_enter Tryz.func130, Tryz.ntmps130
    go_wp2_with fail
    refine (ptruth_any _ _).mono ?_
    rintro e' w1 ⟨rfl, rfl⟩
    go_wp2_with fail
    go_ret
    exact ⟨ret_int HR.out, rfl⟩
  · rw [if_neg (by decide), if_neg (by decide), if_neg (by decide), if_neg (by decide), if_neg (by decide), if_pos rfl] at hres
    have HR := hide hres
    clear hres
    go_enter Tryz.func130, Tryz.ntmps130
    go_wp2_with fail
    refine (ptruth_any _ _).mono ?_
    rintro e' w1 ⟨rfl, rfl⟩
    go_wp2_with fail
    go_ret
    exact ⟨ret_int HR.out, rfl⟩
theorem alloc_five (w : World) (o0 o1 o2 o3 o4 : Obj) : (((((w.alloc o0).alloc o1).alloc o2).alloc o3).alloc o4).heap[w.heap.size]? = some o0 ∧ (((((w.alloc o0).alloc o1).alloc o2).alloc o3).alloc o4).heap[w.heap.size + 1]? = some o1 ∧
    (((((w.alloc o0).alloc o1).alloc o2).alloc o3).alloc o4).heap[w.heap.size + 2]? = some o2 ∧ (((((w.alloc o0).alloc o1).alloc o2).alloc o3).alloc o4).heap[w.heap.size + 3]? = some o3 ∧ (((((w.alloc o0).alloc o1).alloc o2).alloc o3).alloc o4).heap[w.heap.size + 4]? = some o4 := by
  have p : ∀ (W : World) (o : Obj) (k : Nat), k < W.heap.size → (W.alloc o).heap[k]? = W.heap[k]? := fun W o k hk => Below.heap_alloc _ _ _ hk
  have b0 := World.alloc_heap_new w o0
  have b1 := World.alloc_heap_new (w.alloc o0) o1
  have b2 := World.alloc_heap_new ((w.alloc o0).alloc o1) o2
  have b3 := World.alloc_heap_new (((w.alloc o0).alloc o1).alloc o2) o3
  have b4 := World.alloc_heap_new ((((w.alloc o0).alloc o1).alloc o2).alloc o3) o4
  simp only [World.size_alloc] at b1 b2 b3 b4
  refine ⟨?_, ?_, ?_, ?_, b4⟩
  · rw [p _ _ _ (by simp only [World.size_alloc]; omega), p _ _ _ (by simp only [World.size_alloc]; omega), p _ _ _ (by simp only [World.size_alloc]; omega), p _ _ _ (by simp only [World.size_alloc]; omega)]; exact b0
  · rw [p _ _ _ (by simp only [World.size_alloc]; omega), p _ _ _ (by simp only [World.size_alloc]; omega), p _ _ _ (by simp only [World.size_alloc]; omega)]; exact b1
  · rw [p _ _ _ (by simp only [World.size_alloc]; omega), p _ _ _ (by simp only [World.size_alloc]; omega)]; exact b2
  · rw [p _ _ _ (by simp only [World.size_alloc]; omega)]; exact b3
set_option maxHeartbeats 1000000 in
theorem evaluator_any (s : Sc) (vars : List Int) (u : Value) (w : World) (hu : ScAt w u s vars) :
    Calls Tryz.prog 101 #[u] w fun e' w' => e' = .returned (.func (.func 128) #[] #[P0 (w.heap.size + 4), P0 w.heap.size, P0 (w.heap.size + 3), P0 (w.heap.size + 2), P0 (w.heap.size + 1)]) ∧ Ext w w' ∧ EvEnv w' w.heap.size s := by
  obtain ⟨si, so, sv, rfl, hi, ho, hvv⟩ := hu
  obtain ⟨qi, ci, rfl, -⟩ := hi.int_all
  obtain ⟨qo, co, rfl, -⟩ := ho.int_all
  obtain ⟨qv, cv, rfl, -⟩ := hvv.int_all
  clear hvv
  have HI := hide hi
  have HO := hide ho
  clear hi ho
  go_enter Tryz.func101, Tryz.ntmps101
  go_wp2_with fail
  go_ret
  refine ⟨rfl, ((((Ext.refl w).alloc _).alloc _).alloc _).alloc _ |>.alloc _, ?_⟩
  obtain ⟨a0, a1, a2, a3, a4⟩ := alloc_five w (.cells #[.int .i64 s.n, .slice qi s.inp.length ci, .slice qo s.out.length co, .int .i64 s.h.h0, .int .i64 s.h.h1, .int .i64 s.h.h2, .int .i64 s.h.h3, .int .i64 s.h.h4, .slice qv vars.length cv] 65)
    (.cells #[.func (.func 125) #[] #[P0 w.heap.size]] 91) (.cells #[.func (.func 126) #[] #[P0 (w.heap.size + 1)]] 143)
    (.cells #[.func (.func 128) #[] #[P0 (w.heap.size + 4), P0 w.heap.size, P0 (w.heap.size + 3), P0 (w.heap.size + 2), P0 (w.heap.size + 1)]] 123) (.cells #[.func (.func 127) #[] #[P0 w.heap.size, P0 (w.heap.size + 3)]] 123)
  have hE : ∀ o0 o1 o2 o3 o4, Ext w (((((w.alloc o0).alloc o1).alloc o2).alloc o3).alloc o4) := fun _ _ _ _ _ => ((((Ext.refl w).alloc _).alloc _).alloc _).alloc _ |>.alloc _
  exact ⟨⟨_, _, _, a0, HI.out.ext (hE _ _ _ _ _), HO.out.ext (hE _ _ _ _ _)⟩, a1, a2, a3, a4⟩
end Go.Proofs.YthkididgbaamcaaGreatDoor

namespace Go.Proofs.YthkididgbaamcaaGreatDoor
open Go.RowKit

theorem icells_flat (l : List Int) : (l.flatMap icells).length = l.length := by
  induction l with
  | nil => rfl
  | cons x l ih => rw [List.flatMap_cons, List.length_append, ih]; simp; omega
theorem icells_at (l : List Int) (j : Nat) (u : Value) (h : (l.flatMap icells)[j]? = some u) : j < l.length ∧ u = .int .i64 (l.getD j 0) := by
  have hj : j < l.length := by
    rcases Nat.lt_or_ge j (l.flatMap icells).length with h1 | h1
    · rwa [icells_flat] at h1
    · rw [List.getElem?_eq_none h1] at h; cases h
  have h2 := flat_get (enc := icells) (size := 1) (fun _ => rfl) l j 0 _ (List.getElem?_eq_getElem hj) (by omega)
  rw [Nat.mul_one, Nat.add_zero, h] at h2
  refine ⟨hj, ?_⟩
  rw [List.getD_eq_getElem?_getD, List.getElem?_eq_getElem hj]
  simpa using h2
/-- append of a number to a full slice of numbers. -/
theorem wpList_append_full {P : Program} (w : World) {ops : Array Oper} {rest : List Oper} {o : Oper} {a : Act} {Q : Exit → Act → World → Prop} (hg : o.guard = none) (s x : Operand) (t : TypeId)
    (hop : o.op = Op.call { callee := Callee.builtin Builtin.append, args := #[s, x], argTypes := #[t, t] }) (e : TypeId) (ht : P.underlying t = some (.slice e)) (hi : (P.info? e).map (fun i => (i.zero, i.size, i.bytes)) = some (some (.int .i64 0), 1, 8))
    (q : Option Addr) (l : List Int) (c : Nat) (y : Int) (g : Nat) (hs : a.eval s = .slice q l.length l.length) (hl : Row icells 1 w (.slice q l.length c) l) (hx : a.eval x = .slice (some ⟨g, 0, none⟩) 1 1)
    (hnew : w.cell? ⟨g, 0, none⟩ = some (.int .i64 y)) (hlen : l.length ≤ 100000)
    (hK : ∀ v' w', Own icells 1 w' w.heap.size e v' (l ++ [y]) → w.grownBy w' none → wpList P ops Q rest (a.put o.dst v') w') : wpList P ops Q (o :: rest) a w := by
  cases hq : P.info? e with
  | none => rw [hq] at hi; cases hi
  | some i =>
    rw [hq] at hi
    simp only [Option.map_some, Option.some.injEq, Prod.mk.injEq] at hi
    obtain ⟨hz, hsize, hby⟩ := hi
    obtain ⟨p', c', hv, hc, _, hat⟩ := hl.int_all
    injection hv with e1 e2 e3
    subst e1 e3
    refine wpList_append_grows w hg s x t hop e i (.int .i64 0) 1 8 ht hq hz hsize hby rfl (by decide) q l.length l.length (l.flatMap icells) hs (fun h => ?_) (by rw [icells_flat, Nat.mul_one]) (fun b hb j u hu => ?_) ⟨g, 0, none⟩ 1 1 [.int .i64 y] hx rfl (fun j u hu => ?_) (by simp [Value.oneCell']) (by omega) (by unfold maxLen; omega) (by omega) (fun v' w' h1 h2 => ?_)
    · rcases Nat.eq_zero_or_pos l.length with h0 | h0
      · exact ⟨h0, h0⟩
      · obtain ⟨b, o', h3, _⟩ := hat h0
        rw [h3] at h; cases h
    · obtain ⟨hj, rfl⟩ := icells_at l j u hu
      obtain ⟨b', o', h3, _, h5⟩ := hat (by omega)
      rw [h3] at hb
      cases hb
      have := h5 j hj w (Ext.refl w)
      have hadd : (⟨b', o', none⟩ : Addr).add j = ⟨b', o' + j, none⟩ := by unfold Addr.add; split <;> simp_all
      rw [hadd]
      exact this
    · cases j with
      | zero => simp only [List.getElem?_cons_zero, Option.some.injEq] at hu; subst hu; rw [add_lit]; exact hnew
      | succ j => simp at hu
    · refine hK v' w' ⟨fun _ => rfl, ?_⟩ h2
      rw [List.length_append, List.flatMap_append]
      simpa using h1

set_option maxRecDepth 8000 in
set_option maxHeartbeats 400000 in
theorem pcnt_any (s : Sc) (hs : s.ok) (g : Nat) (a : Ex) (vars : List Int) (f : Nat → Int) (v u : Value) (w : World) (hg : EvEnv w g s) (hv : ExAt w v a) (hu : Row icells 1 w u vars) (hvl : vars.length ≤ 1000) (hf : ∀ p, p < s.n → 0 ≤ f p ∧ f p ≤ 1)
    (H : ∀ p : Nat, p < s.n → ∀ W va vv, Ext w W → ExAt W va a → Row icells 1 W vv (vars ++ [(p : Int)]) → Calls Tryz.prog 128 #[va, vv, P0 (g + 4), P0 g, P0 (g + 3), P0 (g + 2), P0 (g + 1)] W fun e' w' => e' = .returned (.int .i64 (f p)) ∧ Ext W w') :
    Calls Tryz.prog 127 #[v, u, P0 g, P0 (g + 3)] w fun e' w' => e' = .returned (.int .i64 (cntTo f s.n)) ∧ Ext w w' := by
  have HA := hide hv
  have HU := hide hu
  obtain ⟨p, c, rfl, hc, hl⟩ := hv.form
  obtain ⟨qv, cv, rfl, hcv, -⟩ := hu.int_all
  obtain ⟨s1, s2, -, -, -⟩ := hs
  have HH := hide H
  have HF := hide hf
  have HEV := hide (fun V (hV : Ext w V) => (hg.ext hV).cells)
  obtain ⟨si, so, -, -, hn0, -⟩ := hg.scene
  have hgz : g + 4 < w.heap.size := hg.cells.2.2.2.2
  have hg0 : g < w.heap.size := by omega
  clear H hf hv hu hg
  generalize hsn : s.n = sn at *
  have HSN := hide hsn
  clear hsn
  have hE0 : Ext w (w.alloc (.cells #[.int .i64 a.op, .int .i64 a.num, .slice p a.args.length c] 25)) := (Ext.refl w).alloc _
  have HB := hide (fun w1 => xbox w a.op a.num (.slice p a.args.length c) (w1 := w1))
  go_enter Tryz.func127, Tryz.ntmps127
  go_wp2_with fail
  clear hn0
  obtain ⟨w2, hw2⟩ : ∃ w2, w.alloc (.cells #[.int .i64 a.op, .int .i64 a.num, .slice p a.args.length c] 25) = w2 := ⟨_, rfl⟩
  rw [hw2] at hE0 HB ⊢
  clear hw2
  go_loopw [7, 11] (fun n x V => ∃ (k : Nat), k ≤ sn ∧ x = .int .i64 k ∧ n = .int .i64 (cntTo f k) ∧ Ext w2 V) (fun _ x _ => sn - (intOf x).toNat)
  case atStart => exact ⟨0, by omega, rfl, rfl, Ext.refl _⟩
  case round =>
    obtain ⟨k, hk, rfl, rfl, hE⟩ := hrel
    have hEr := hE0.trans hE
    have hfb := cntTo_bd (f := f) (n := k) (fun p hp => HF.out p (by omega))
    by_cases hlt : k < sn
    · have hN := HF.out k hlt
      have HN := hide (show cntTo f (k + 1) = cntTo f k + f k from rfl)
      have HC := hide (fun W va vv hW h1 h2 => HH.out k hlt W va vv hW h1 h2)
      generalize cntTo f k = ck at hfb HN ⊢
      generalize f k = fk at HC HN hN
      go_wp2_with fail
      refine wp_region_heldAll (fun V => Ext wr V) (by kernel_rfl) ?_
      intro W2 hW2
      have hE2 : Ext wr W2 := by rw [hW2]; exact (Ext.refl wr).drew
      clear hW2
      refine wpAnyT_take (i := 0) (.int .i64 ck) rfl (by kernel_rfl) (by kernel_rfl) (by kernel_rfl) (by simp [Region.wanted]) (fun V hV => by go_simp) hE2 ?_
      refine wpAnyT_take (i := 1) (.func (.func 128) #[] #[P0 (g + 4), P0 g, P0 (g + 3), P0 (g + 2), P0 (g + 1)]) rfl (by kernel_rfl) (by kernel_rfl) (by kernel_rfl) (by simp [Region.wanted]) (fun V hV => by
        have hc := (HEV.out V (hEr.trans hV)).2.2.1
        go_simp) hE2 ?_
      refine wpAnyT_take (i := 2) (.agg #[.int .i64 a.op, .int .i64 a.num, .slice p a.args.length c]) rfl (by kernel_rfl) (by kernel_rfl) (by kernel_rfl) (by simp [Region.wanted]) (fun V hV => by
        obtain ⟨c0, c1, c2, -⟩ := HB.out V (hE.trans hV)
        go_simp) hE2 ?_
      refine wpAnyT_take (i := 3) (.slice qv vars.length cv) rfl (by kernel_rfl) (by kernel_rfl) (by kernel_rfl) (by simp [Region.wanted]) (fun V hV => by go_simp) hE2 ?_
      refine wpAnyT_take (i := 4) (.slice qv vars.length cv) rfl (by kernel_rfl) (by kernel_rfl) (by kernel_rfl) (by simp [Region.wanted]) (fun V hV => by go_simp) hE2 ?_
      refine wpAnyT_take (i := 5) (.int .i64 (vars.length : Nat)) rfl (by kernel_rfl) (by kernel_rfl) (by kernel_rfl) (by simp [Region.wanted]) (fun V hV => by go_simp) hE2 ?_
      refine wpAnyT_take (i := 6) (.slice qv vars.length cv) rfl (by kernel_rfl) (by kernel_rfl) (by kernel_rfl) (by simp [Region.wanted]) (fun V hV => by go_simp) hE2 ?_
      refine wpAnyT_take (i := 7) (.int .i64 (vars.length : Nat)) rfl (by kernel_rfl) (by kernel_rfl) (by kernel_rfl) (by simp [Region.wanted]) (fun V hV => by go_simp) hE2 ?_
      refine wpAnyT_take (i := 8) (.slice qv vars.length vars.length) rfl (by kernel_rfl) (by kernel_rfl) (by kernel_rfl) (by simp [Region.wanted]) (fun V hV => by go_simp) hE2 ?_
      refine wpAnyT_take (i := 9) (.int .i64 k) rfl (by kernel_rfl) (by kernel_rfl) (by kernel_rfl) (by simp [Region.wanted]) (fun V hV => by go_simp) hE2 ?_
      simp only [Act.put, List.setIfInBounds_toArray]
      refine wpAnyT_one (i := 10) rfl (by kernel_rfl) (fun K hK => ?_)
      go_wp2_with fail
      refine ⟨rfl, hK _ _ (hE2.alloc _) ?_⟩
      clear hK K
      have hE3 : Ext wr (W2.alloc (.cells #[.int .i64 k] 3)) := hE2.alloc _
      have hc3 : (W2.alloc (.cells #[.int .i64 k] 3)).cell? ⟨W2.heap.size, 0, none⟩ = some (.int .i64 k) := by simp [go_sem]
      generalize W2.alloc (.cells #[.int .i64 k] 3) = W3 at hE3 hc3 ⊢
      generalize W2.heap.size = gb at hc3 ⊢
      have HU3 := hide (HU.out.ext (hEr.trans hE3))
      refine wpAnyT_one (i := 11) rfl (by kernel_rfl) (fun K hK => ?_)
      refine wpList_append_full W3 rfl (.tmp 22) (.tmp 24) 45 rfl 3 Tryz.underlying45 int_info qv vars cv (k : Int) gb rfl HU3.out rfl hc3 (by omega) ?_
      intro v' w' hown hgrow
      have hE4 : Ext wr w' := hE3.grown hgrow (fun k hk => by cases hk)
      have hrow := hown.row (by simp; omega)
      obtain ⟨q4, c4, hv4, -⟩ := hrow.int_all
      rw [List.length_append, List.length_singleton] at hv4
      subst hv4
      have HRW := hide hrow
      clear hown hgrow hc3 hrow
      refine ⟨rfl, hK _ _ hE4 ?_⟩
      clear hK K HU3
      simp only [Act.put, List.setIfInBounds_toArray]
      refine wpAnyT_one (i := 12) rfl (by kernel_rfl) (fun K hK => ?_)
      go_wp2_with fail
      refine (HC.out w' _ _ (hEr.trans hE4) (HA.out.ext (hEr.trans hE4)) HRW.out).mono ?_
      rintro e' w5 ⟨rfl, hE5⟩
      have hE5 := hE4.trans hE5
      go_wp2_with fail
      refine ⟨rfl, hK _ _ hE5 ?_⟩
      clear hK K
      try simp only [Act.put, List.setIfInBounds_toArray, List.set_cons_zero, List.set_cons_succ]
      refine wpAnyT_take (i := 13) (.int .i64 (ck + fk)) rfl (by kernel_rfl) (by kernel_rfl) (by kernel_rfl) (by simp [Region.wanted]) (fun V hV => by
        go_simp
        exact IntWalk.i64_in _ (by omega)) hE5 ?_
      refine wpAnyT_take (i := 14) (.int .i64 (ck + fk)) rfl (by kernel_rfl) (by kernel_rfl) (by kernel_rfl) (by simp [Region.wanted]) (fun V hV => by go_simp) hE5 ?_
      simp only [Act.put, List.setIfInBounds_toArray]
      refine wpAnyT_done (by kernel_rfl) ?_ _
      go_wp2_with fail
      go_roundw
      case rel => exact ⟨k + 1, by omega, by go_num, by rw [HN.out], hE.trans hE5⟩
      case measure => simp [intOf]; omega
    · obtain rfl : k = sn := by omega
      generalize hck : cntTo f k = ck at hfb ⊢
      have HCK := hide hck
      clear hck
      go_wp2_with fail
      go_ret
      exact ⟨ret_int HCK.out.symm, hEr⟩
end Go.Proofs.YthkididgbaamcaaGreatDoor

namespace Go.Proofs.YthkididgbaamcaaGreatDoor
open Go.RowKit

theorem and01 {a b : Int} (ha : 0 ≤ a ∧ a ≤ 1) (hb : 0 ≤ b ∧ b ≤ 1) : bits .and .i64 a b = a * b ∧ bits .or .i64 a b = flag (decide (0 < a + b)) := by
  rcases (show a = 0 ∨ a = 1 by omega) with rfl | rfl <;> rcases (show b = 0 ∨ b = 1 by omega) with rfl | rfl <;> exact ⟨by kernel_rfl, by kernel_rfl⟩
set_option maxRecDepth 8000 in
set_option maxHeartbeats 1000000 in
theorem pvalue_any (s : Sc) (hs : s.ok) (g : Nat) : ∀ (e : Ex) (vars : List Int) (v u : Value) (w : World), EvEnv w g s → ExAt w v e → Row icells 1 w u vars → (∀ x ∈ vars, 0 ≤ x ∧ x ≤ 1048576) → vars.length + e.nodes ≤ 500 → nodesE e vars.length = 0 →
    Calls Tryz.prog 128 #[v, u, P0 (g + 4), P0 g, P0 (g + 3), P0 (g + 2), P0 (g + 1)] w fun e' w' => e' = .returned (.int .i64 (valE s e vars)) ∧ Ext w w' := by
  refine Ex.ind (P := fun e => ∀ (vars : List Int) (v u : Value) (w : World), EvEnv w g s → ExAt w v e → Row icells 1 w u vars → (∀ x ∈ vars, 0 ≤ x ∧ x ≤ 1048576) → vars.length + e.nodes ≤ 500 → nodesE e vars.length = 0 →
    Calls Tryz.prog 128 #[v, u, P0 (g + 4), P0 g, P0 (g + 3), P0 (g + 2), P0 (g + 1)] w fun e' w' => e' = .returned (.int .i64 (valE s e vars)) ∧ Ext w w') ?_
  intro op num xs ih vars v u w hg hv hu hvs hvl hnz
  obtain ⟨h0, h15, hl, hvar, hcon, hx⟩ := nodesE_zero hnz
  have HV := hide hv
  have HU := hide hu
  obtain ⟨p, c, rfl, hc, hlx, hat⟩ := hv.all_
  simp only [Ex.op, Ex.num, Ex.args] at HV hc hlx hat ⊢
  have HAT := hide hat
  clear hat hv
  obtain ⟨nx, hnx⟩ : ∃ nx, xs.length = nx := ⟨_, rfl⟩
  rw [hnx] at HV ⊢
  rw [hnx] at hc hlx
  obtain ⟨qv, cv, rfl, hcv, hlv, hatv⟩ := hu.int_all
  have HATV := hide hatv
  clear hu hatv
  have HOK := hide hs
  have HBD := hide (fun e vars hv h => val_bd s hs e vars hv h)
  obtain ⟨s1, s2, -, -, s5⟩ := hs
  have HS5 := hide s5
  clear s5
  obtain ⟨w2, hw2⟩ : ∃ w2, w.alloc (.cells #[.int .i64 op, .int .i64 num, .slice p nx c] 25) = w2 := ⟨_, rfl⟩
  have hE0 : Ext w w2 := by rw [← hw2]; exact (Ext.refl w).alloc _
  have HB := hide (fun w1 (hE : Ext w2 w1) => xbox w op num (.slice p nx c) (w1 := w1) (by rw [hw2]; exact hE))
  have HEV := hide (fun V (hV : Ext w2 V) => (hg.ext (hE0.trans hV)).cells)
  have HG := hide hg
  obtain ⟨si, so, hsi, hso, m0, m1, m2, mh⟩ := (hg.ext hE0).scene
  obtain ⟨q1, c1', rfl, -⟩ := hsi.int_all
  obtain ⟨q2, c2', rfl, -⟩ := hso.int_all
  have HSI := hide hsi
  have HSO := hide hso
  obtain ⟨e1, e2, e3, e4, hgz⟩ := HEV.out w2 (Ext.refl w2)
  have hg0 : g < w2.heap.size := by omega
  have hg1 : g + 1 < w2.heap.size := by omega
  have hg2 : g + 2 < w2.heap.size := by omega
  have hg3 : g + 3 < w2.heap.size := by omega
  have HM := hide (And.intro m0 (And.intro m1 (And.intro m2 mh)))
  clear hg hsi hso mh
  have HW2 := hide hw2
  clear hw2
  rcases arity_cases h0 h15 with ha | ha | ha
  · have hop := arity_zero h0 h15 ha
    obtain rfl : xs = [] := List.eq_nil_of_length_eq_zero (by omega)
    obtain rfl : nx = 0 := hnx.symm
    clear e1 e2 e3 e4 m0 m1 m2 hg0 hg1 hg2 hg3 hgz
    rcases hop with rfl | rfl
    · have HR := hide (show valE s (.mk 0 num []) vars = num from rfl)
      go_enter Tryz.func128, Tryz.ntmps128
      go_wp2_with fail
      go_ret
      exact ⟨ret_int HR.out.symm, by rw [HW2.out]; exact hE0⟩
    · have hb := hvar rfl
      obtain ⟨k, rfl⟩ := Int.eq_ofNat_of_zero_le hb.1
      have HR := hide (show valE s (.mk 1 k []) vars = vars.getD k 0 from rfl)
      obtain ⟨b, o, rfl, hbv, hcell⟩ := HATV.out (by omega)
      have HCV := hide (hcell k (by omega))
      have hcv0 := HCV.out w2 hE0
      have hk : (k : Int) < (vars.length : Int) := hb.2
      clear hcell hb
      rw [← HW2.out] at hcv0
      go_enter Tryz.func128, Tryz.ntmps128
      go_wp2_with fail
      go_ret
      exact ⟨ret_int HR.out.symm, by rw [HW2.out]; exact hE0⟩
  · obtain ⟨a, rfl⟩ : ∃ a, xs = [a] := List.length_eq_one_iff.1 (by omega)
    obtain ⟨hz, hka⟩ := hx a (by simp)
    have hop := arity_one h0 h15 ha
    have hna : vars.length + 1 + a.nodes ≤ 500 := by simp only [Ex.nodes, Ex.nodesL] at hvl; omega
    obtain rfl : nx = 1 := hnx.symm
    clear hx hnz hvl hvar hcon hl h0 h15 ha
    obtain ⟨b, o, rfl, hb, hat2⟩ := HAT.out (by simp)
    obtain ⟨q, d, hxc, hxa⟩ := hat2 0 (by simp)
    rw [Nat.zero_mul, Nat.add_zero] at hxc
    simp only [List.getD_cons_zero] at hxc hxa
    obtain ⟨x0, x1, x2⟩ := hxc
    have x0 := x0 _ hE0
    have x1 := x1 _ hE0
    have x2 := x2 _ hE0
    have hb2 : b < w2.heap.size := Nat.lt_of_lt_of_le hb hE0.size
    obtain ⟨c0, c1, c2, hzz⟩ := HB.out _ (Ext.refl w2)
    clear hat2
    rcases hop with rfl | rfl | rfl | rfl | rfl | rfl
    · have hi1 : innerV 2 (vars.length : Int) = vars.length := by unfold innerV; rw [if_neg (by decide)]
      rw [hi1] at hz
      have HC := hide (fun W (hW : Ext w W) => ih a (by simp) vars _ _ W (HG.out.ext hW) (hxa.ext hW) (HU.out.ext hW) hvs (by omega) hz)
      have hbd := HBD.out a vars hvs hz
      have HR := hide (show valE s (.mk 2 num [a]) vars = oneS s 2 (valE s a vars) from by rw [valE_one (by decide) (by decide)]; rfl)
      clear hi1 hz hka ih hxa
      generalize valE s a vars = av at HC HR hbd
      obtain ⟨hbd, -⟩ := hbd
      go_enter Tryz.func128, Tryz.ntmps128
      go_wp2_with fail
      rw [HW2.out]
      refine wp_region_ext (by kernel_rfl) (by kernel_rfl) ?_
      repeat (go_big_quiet_step ((go_at_call 128; exact Calls.ext_of (HC.out _ (by simp [go_sem, hE0])))))
      refine wpQuiet_nil ?_
      rintro w3 ⟨⟨_, hE3⟩, rfl⟩
      clear x0 x1 x2 c0 c1 c2 hzz e1 e2 e3 e4 m0 m1 m2 hg0 hg1 hg2 hg3 hgz
      obtain ⟨c0, c1, c2, hzz⟩ := HB.out _ hE3
      obtain ⟨e1, e2, e3, e4, hgz⟩ := HEV.out w3 hE3
      obtain ⟨m0, m1, m2, -⟩ := HM.out
      have m0 := (hE3.cell (by show g < _; have := (HEV.out w2 (Ext.refl w2)).2.2.2.2; omega)).trans m0
      have m1 := (hE3.cell (by show g < _; have := (HEV.out w2 (Ext.refl w2)).2.2.2.2; omega)).trans m1
      have m2 := (hE3.cell (by show g < _; have := (HEV.out w2 (Ext.refl w2)).2.2.2.2; omega)).trans m2
      go_wp2_with fail
      refine (elem_any s g _ _ av w3 ((HG.out.ext hE0).ext hE3) (HSI.out.ext hE3)).mono ?_
      rintro e' w4 ⟨rfl, hw4⟩
      have hE4 : Ext w w4 := by rw [hw4]; exact hE0.trans hE3
      clear hw4
      go_wp2_with fail
      go_ret
      exact ⟨ret_int HR.out.symm, hE4⟩
    · have hi1 : innerV 3 (vars.length : Int) = vars.length := by unfold innerV; rw [if_neg (by decide)]
      rw [hi1] at hz
      have HC := hide (fun W (hW : Ext w W) => ih a (by simp) vars _ _ W (HG.out.ext hW) (hxa.ext hW) (HU.out.ext hW) hvs (by omega) hz)
      have hbd := HBD.out a vars hvs hz
      have HR := hide (show valE s (.mk 3 num [a]) vars = oneS s 3 (valE s a vars) from by rw [valE_one (by decide) (by decide)]; rfl)
      clear hi1 hz hka ih hxa
      generalize valE s a vars = av at HC HR hbd
      obtain ⟨hbd, -⟩ := hbd
      go_enter Tryz.func128, Tryz.ntmps128
      go_wp2_with fail
      rw [HW2.out]
      refine wp_region_ext (by kernel_rfl) (by kernel_rfl) ?_
      repeat (go_big_quiet_step ((go_at_call 128; exact Calls.ext_of (HC.out _ (by simp [go_sem, hE0])))))
      refine wpQuiet_nil ?_
      rintro w3 ⟨⟨_, hE3⟩, rfl⟩
      clear x0 x1 x2 c0 c1 c2 hzz e1 e2 e3 e4 m0 m1 m2 hg0 hg1 hg2 hg3 hgz
      obtain ⟨c0, c1, c2, hzz⟩ := HB.out _ hE3
      obtain ⟨e1, e2, e3, e4, hgz⟩ := HEV.out w3 hE3
      obtain ⟨m0, m1, m2, -⟩ := HM.out
      have m0 := (hE3.cell (by show g < _; have := (HEV.out w2 (Ext.refl w2)).2.2.2.2; omega)).trans m0
      have m1 := (hE3.cell (by show g < _; have := (HEV.out w2 (Ext.refl w2)).2.2.2.2; omega)).trans m1
      have m2 := (hE3.cell (by show g < _; have := (HEV.out w2 (Ext.refl w2)).2.2.2.2; omega)).trans m2
      go_wp2_with fail
      refine (elem_any s g _ _ av w3 ((HG.out.ext hE0).ext hE3) (HSO.out.ext hE3)).mono ?_
      rintro e' w4 ⟨rfl, hw4⟩
      have hE4 : Ext w w4 := by rw [hw4]; exact hE0.trans hE3
      clear hw4
      go_wp2_with fail
      go_ret
      exact ⟨ret_int HR.out.symm, hE4⟩
    · have hi1 : innerV 12 (vars.length : Int) = vars.length := by unfold innerV; rw [if_neg (by decide)]
      rw [hi1] at hz
      have HC := hide (fun W (hW : Ext w W) => ih a (by simp) vars _ _ W (HG.out.ext hW) (hxa.ext hW) (HU.out.ext hW) hvs (by omega) hz)
      have hbd := HBD.out a vars hvs hz
      have HR := hide (show valE s (.mk 12 num [a]) vars = oneS s 12 (valE s a vars) from by rw [valE_one (by decide) (by decide)]; rfl)
      have hk01 := hbd.2 (by rw [hka]; rfl)
      clear hi1 hz hka ih hxa
      generalize valE s a vars = av at HC HR hbd hk01
      clear hbd
      obtain ⟨hk0, hk1⟩ := hk01
      go_enter Tryz.func128, Tryz.ntmps128
      go_wp2_with fail
      rw [HW2.out]
      refine wp_region_ext (by kernel_rfl) (by kernel_rfl) ?_
      repeat (go_big_quiet_step ((go_at_call 128; exact Calls.ext_of (HC.out _ (by simp [go_sem, hE0])))))
      refine wpQuiet_nil ?_
      rintro w3 ⟨⟨_, hE3⟩, rfl⟩
      clear x0 x1 x2 c0 c1 c2 hzz e1 e2 e3 e4 m0 m1 m2 hg0 hg1 hg2 hg3 hgz
      obtain ⟨c0, c1, c2, hzz⟩ := HB.out _ hE3
      obtain ⟨e1, e2, e3, e4, hgz⟩ := HEV.out w3 hE3
      obtain ⟨m0, m1, m2, -⟩ := HM.out
      have m0 := (hE3.cell (by show g < _; have := (HEV.out w2 (Ext.refl w2)).2.2.2.2; omega)).trans m0
      have m1 := (hE3.cell (by show g < _; have := (HEV.out w2 (Ext.refl w2)).2.2.2.2; omega)).trans m1
      have m2 := (hE3.cell (by show g < _; have := (HEV.out w2 (Ext.refl w2)).2.2.2.2; omega)).trans m2
      go_wp2_with fail
      go_ret
      exact ⟨ret_int HR.out.symm, hE0.trans hE3⟩
    · have hi1 : innerV 13 (vars.length : Int) = ((vars.length + 1 : Nat) : Int) := by unfold innerV; rw [if_pos (by rfl)]; omega
      rw [hi1] at hz
      have hfb : ∀ p, p < s.n → 0 ≤ valE s a (vars ++ [(p : Int)]) ∧ valE s a (vars ++ [(p : Int)]) ≤ 1 := fun p hp => by
        exact (HBD.out a (vars ++ [(p : Int)]) (fun x hx => by
          rcases List.mem_append.1 hx with h2 | h2
          · exact hvs x h2
          · simp only [List.mem_singleton] at h2; omega) (by rw [List.length_append]; exact hz)).2 (by rw [hka]; rfl)
      have HC := hide (fun W (hW : Ext w W) => pcnt_any s HOK.out g a vars (fun p => valE s a (vars ++ [(p : Int)])) _ _ W (HG.out.ext hW) (hxa.ext hW) (HU.out.ext hW) (by omega) hfb (fun p hp W' va vv hWW hva hvv => ih a (by simp) (vars ++ [(p : Int)]) va vv W' ((HG.out.ext hW).ext hWW) hva hvv (fun x hx => by
          rcases List.mem_append.1 hx with h2 | h2
          · exact hvs x h2
          · simp only [List.mem_singleton] at h2; omega) (by simp only [List.length_append, List.length_singleton]; omega) (by rw [List.length_append]; exact hz)))
      have hcb := cntTo_bd hfb
      have HR := hide (show valE s (.mk 13 num [a]) vars = quantS s.n 13 (cntTo (fun p => valE s a (vars ++ [(p : Int)])) s.n) from by rw [valE_one (by decide) (by decide)]; rfl)
      clear hfb hi1 hz hka ih hxa
      generalize cntTo (fun p => valE s a (vars ++ [(p : Int)])) s.n = kk at HC HR hcb
      go_enter Tryz.func128, Tryz.ntmps128
      go_wp2_with fail
      rw [HW2.out]
      refine wp_region_ext (by kernel_rfl) (by kernel_rfl) ?_
      repeat (go_big_quiet_step ((first | (go_at_call 127; exact Calls.ext_of (HC.out _ (by simp [go_sem, hE0]))) | (go_at_call 129; exact Calls.ext_same (ptruth_any _ _)))))
      refine wpQuiet_nil ?_
      rintro w3 ⟨⟨_, hE3⟩, rfl⟩
      go_wp2_with fail
      go_ret
      exact ⟨ret_int HR.out.symm, hE0.trans hE3⟩
    · have hi1 : innerV 14 (vars.length : Int) = ((vars.length + 1 : Nat) : Int) := by unfold innerV; rw [if_pos (by rfl)]; omega
      rw [hi1] at hz
      have hfb : ∀ p, p < s.n → 0 ≤ valE s a (vars ++ [(p : Int)]) ∧ valE s a (vars ++ [(p : Int)]) ≤ 1 := fun p hp => by
        exact (HBD.out a (vars ++ [(p : Int)]) (fun x hx => by
          rcases List.mem_append.1 hx with h2 | h2
          · exact hvs x h2
          · simp only [List.mem_singleton] at h2; omega) (by rw [List.length_append]; exact hz)).2 (by rw [hka]; rfl)
      have HC := hide (fun W (hW : Ext w W) => pcnt_any s HOK.out g a vars (fun p => valE s a (vars ++ [(p : Int)])) _ _ W (HG.out.ext hW) (hxa.ext hW) (HU.out.ext hW) (by omega) hfb (fun p hp W' va vv hWW hva hvv => ih a (by simp) (vars ++ [(p : Int)]) va vv W' ((HG.out.ext hW).ext hWW) hva hvv (fun x hx => by
          rcases List.mem_append.1 hx with h2 | h2
          · exact hvs x h2
          · simp only [List.mem_singleton] at h2; omega) (by simp only [List.length_append, List.length_singleton]; omega) (by rw [List.length_append]; exact hz)))
      have hcb := cntTo_bd hfb
      have HR := hide (show valE s (.mk 14 num [a]) vars = quantS s.n 14 (cntTo (fun p => valE s a (vars ++ [(p : Int)])) s.n) from by rw [valE_one (by decide) (by decide)]; rfl)
      clear hfb hi1 hz hka ih hxa
      generalize cntTo (fun p => valE s a (vars ++ [(p : Int)])) s.n = kk at HC HR hcb
      go_enter Tryz.func128, Tryz.ntmps128
      go_wp2_with fail
      rw [HW2.out]
      refine wp_region_ext (by kernel_rfl) (by kernel_rfl) ?_
      repeat (go_big_quiet_step ((first | (go_at_call 127; exact Calls.ext_of (HC.out _ (by simp [go_sem, hE0]))) | (go_at_call 129; exact Calls.ext_same (ptruth_any _ _)))))
      refine wpQuiet_nil ?_
      rintro w3 ⟨⟨_, hE3⟩, rfl⟩
      go_wp2_with fail
      go_ret
      exact ⟨ret_int HR.out.symm, hE0.trans hE3⟩
    · have hi1 : innerV 15 (vars.length : Int) = ((vars.length + 1 : Nat) : Int) := by unfold innerV; rw [if_pos (by rfl)]; omega
      rw [hi1] at hz
      have hfb : ∀ p, p < s.n → 0 ≤ valE s a (vars ++ [(p : Int)]) ∧ valE s a (vars ++ [(p : Int)]) ≤ 1 := fun p hp => by
        exact (HBD.out a (vars ++ [(p : Int)]) (fun x hx => by
          rcases List.mem_append.1 hx with h2 | h2
          · exact hvs x h2
          · simp only [List.mem_singleton] at h2; omega) (by rw [List.length_append]; exact hz)).2 (by rw [hka]; rfl)
      have HC := hide (fun W (hW : Ext w W) => pcnt_any s HOK.out g a vars (fun p => valE s a (vars ++ [(p : Int)])) _ _ W (HG.out.ext hW) (hxa.ext hW) (HU.out.ext hW) (by omega) hfb (fun p hp W' va vv hWW hva hvv => ih a (by simp) (vars ++ [(p : Int)]) va vv W' ((HG.out.ext hW).ext hWW) hva hvv (fun x hx => by
          rcases List.mem_append.1 hx with h2 | h2
          · exact hvs x h2
          · simp only [List.mem_singleton] at h2; omega) (by simp only [List.length_append, List.length_singleton]; omega) (by rw [List.length_append]; exact hz)))
      have hcb := cntTo_bd hfb
      have HR := hide (show valE s (.mk 15 num [a]) vars = quantS s.n 15 (cntTo (fun p => valE s a (vars ++ [(p : Int)])) s.n) from by rw [valE_one (by decide) (by decide)]; rfl)
      clear hfb hi1 hz hka ih hxa
      generalize cntTo (fun p => valE s a (vars ++ [(p : Int)])) s.n = kk at HC HR hcb
      go_enter Tryz.func128, Tryz.ntmps128
      go_wp2_with fail
      rw [HW2.out]
      refine wp_region_ext (by kernel_rfl) (by kernel_rfl) ?_
      repeat (go_big_quiet_step ((first | (go_at_call 127; exact Calls.ext_of (HC.out _ (by simp [go_sem, hE0]))) | (go_at_call 129; exact Calls.ext_same (ptruth_any _ _)))))
      refine wpQuiet_nil ?_
      rintro w3 ⟨⟨_, hE3⟩, rfl⟩
      go_wp2_with fail
      go_ret
      exact ⟨ret_int HR.out.symm, hE0.trans hE3⟩
  · obtain ⟨a, a2, rfl⟩ : ∃ a a2, xs = [a, a2] := by
      match xs, hl with
      | [], hl => rw [ha] at hl; simp at hl
      | [_], hl => rw [ha] at hl; simp at hl
      | [a, b], _ => exact ⟨a, b, rfl⟩
      | _ :: _ :: _ :: _, hl => rw [ha] at hl; simp at hl; omega
    obtain ⟨hz, hka⟩ := hx a (by simp)
    obtain ⟨hz2, hka2⟩ := hx a2 (by simp)
    obtain rfl : nx = 2 := hnx.symm
    have hop := arity_two h0 h15 ha
    have hna : vars.length + a.nodes ≤ 500 ∧ vars.length + a2.nodes ≤ 500 := by simp only [Ex.nodes, Ex.nodesL] at hvl; omega
    have hq : ¬ isQ op = true := by simp only [isQ, Bool.or_eq_true, beq_iff_eq]; omega
    have hi1 : innerV op (vars.length : Int) = vars.length := by unfold innerV; rw [if_neg hq]
    rw [hi1] at hz hz2
    obtain ⟨b, o, rfl, hb, hat2⟩ := HAT.out (by simp)
    obtain ⟨q, d, hxc, hxa⟩ := hat2 0 (by simp)
    obtain ⟨q2, d2', hyc, hya⟩ := hat2 1 (by simp)
    rw [Nat.zero_mul, Nat.add_zero] at hxc
    rw [Nat.one_mul] at hyc
    simp only [List.getD_cons_zero, List.getD_cons_succ] at hxc hxa hyc hya
    have HC := hide (fun W (hW : Ext w W) => ih a (by simp) vars _ _ W (HG.out.ext hW) (hxa.ext hW) (HU.out.ext hW) hvs (by omega) hz)
    have HC2 := hide (fun W (hW : Ext w W) => ih a2 (by simp) vars _ _ W (HG.out.ext hW) (hya.ext hW) (HU.out.ext hW) hvs (by omega) hz2)
    have hbd := HBD.out a vars hvs hz
    have hbd2 := HBD.out a2 vars hvs hz2
    have hb01 : op = 10 ∨ op = 11 → (0 ≤ valE s a vars ∧ valE s a vars ≤ 1) ∧ (0 ≤ valE s a2 vars ∧ valE s a2 vars ≤ 1) := fun h10 => by
      have hk : argKind op = 1 := by unfold argKind; rw [if_pos (by omega)]
      exact ⟨hbd.2 (by rw [hka, hk]), hbd2.2 (by rw [hka2, hk])⟩
    have HB01 := hide hb01
    obtain ⟨hbd, -⟩ := hbd
    obtain ⟨hbd2, -⟩ := hbd2
    have HR := hide (valE_two (s := s) (op := op) (num := num) (a := a) (b := a2) (vars := vars))
    obtain ⟨x0, x1, x2⟩ := hxc
    have x0 := x0 _ hE0
    have x1 := x1 _ hE0
    have x2 := x2 _ hE0
    have hb2 : b < w2.heap.size := Nat.lt_of_lt_of_le hb hE0.size
    have HYC := hide hyc
    obtain ⟨c0, c1, c2, hzz⟩ := HB.out _ (Ext.refl w2)
    have d0' : (op == 0) = false := by rw [beq_eq_false_iff_ne]; omega
    have d1' : (op == 1) = false := by rw [beq_eq_false_iff_ne]; omega
    have d13 : (op == 13) = false := by rw [beq_eq_false_iff_ne]; omega
    have d14 : (op == 14) = false := by rw [beq_eq_false_iff_ne]; omega
    have d15 : (op == 15) = false := by rw [beq_eq_false_iff_ne]; omega
    have d2'' : (op == 2) = false := by rw [beq_eq_false_iff_ne]; omega
    have d3' : (op == 3) = false := by rw [beq_eq_false_iff_ne]; omega
    have d12 : (op == 12) = false := by rw [beq_eq_false_iff_ne]; omega
    have hn1 : (a.nodes : Int) ≤ 500 := by omega
    have hn2 : (a2.nodes : Int) ≤ 500 := by omega
    clear hi1 hz hz2 hka hka2 ih hxa hya hat2 hx hnz hvl hvar hcon hl ha hq hb01 hyc
    generalize valE s a vars = av at HC HR hbd HB01
    generalize valE s a2 vars = bv at HC2 HR hbd2 HB01
    have ha1 : -1000000000 ≤ av ∧ av ≤ 1000000000 := by omega
    have hb1 : -1000000000 ≤ bv ∧ bv ≤ 1000000000 := by omega
    go_enter Tryz.func128, Tryz.ntmps128
    go_wp2_with fail
    rw [HW2.out]
    refine wp_region_ext (by kernel_rfl) (by kernel_rfl) ?_
    repeat (go_big_quiet_step ((go_at_call 128; exact Calls.ext_of (HC.out _ (by simp [go_sem, hE0])))))
    refine wpQuiet_nil ?_
    rintro w3 ⟨⟨_, hE3⟩, rfl⟩
    clear x0 x1 x2 c0 c1 c2 hzz e1 e2 e3 e4 m0 m1 m2 hg0 hg1 hg2 hg3 hgz
    obtain ⟨c0, c1, c2, hzz⟩ := HB.out _ hE3
    obtain ⟨e1, e2, e3, e4, hgz⟩ := HEV.out w3 hE3
    have hE03 := hE0.trans hE3
    obtain ⟨x0, x1, x2⟩ := HYC.out
    have x0 := x0 _ hE03
    have x1 := x1 _ hE03
    have x2 := x2 _ hE03
    have hb3 : b < w3.heap.size := Nat.lt_of_lt_of_le hb hE03.size
    have hg0 : g < w3.heap.size := by omega
    have hg1 : g + 1 < w3.heap.size := by omega
    have hg2 : g + 2 < w3.heap.size := by omega
    have hg3 : g + 3 < w3.heap.size := by omega
    go_wp2_with fail
    refine wp_region_ext (by kernel_rfl) (by kernel_rfl) ?_
    repeat (go_big_quiet_step ((go_at_call 128; exact Calls.ext_of (HC2.out _ (by simp [go_sem, hE03])))))
    refine wpQuiet_nil ?_
    rintro w4 ⟨⟨_, hE4'⟩, rfl⟩
    have hE4 := hE3.trans hE4'
    clear x0 x1 x2 c0 c1 c2 hzz e1 e2 e3 e4 hg0 hg1 hg2 hg3 hgz hE4'
    obtain ⟨c0, c1, c2, hzz⟩ := HB.out _ hE4
    obtain ⟨e1, e2, e3, e4, hgz⟩ := HEV.out w4 hE4
    by_cases o4 : op = 4
    · subst o4
      have HP := hide (fun x => proc_any s g x w4 ((HG.out.ext hE0).ext hE4))
      have hbs : bitS s av bv = (procS s.n av && procS s.n bv && has (s.h.h av.toNat) bv.toNat) := rfl
      have HBS := hide hbs
      have HRR := hide (show valE s (.mk 4 num [a, a2]) vars = flag (bitS s av bv) from HR.out)
      clear hbs
      cases hp1 : procS s.n av with
      | false =>
        have hb0 : bitS s av bv = false := by rw [HBS.out, hp1]; rfl
        have HP1 := hide (HP.out av)
        rw [hp1] at HP1
        rw [hb0] at HRR
        clear hp1 hb0
        go_wp2_with fail
        refine HP1.out.mono ?_
        rintro e' w5 ⟨rfl, hw5⟩
        rw [hw5]
        clear hw5
        go_wp2_with fail
        refine (ptruth_any _ _).mono ?_
        rintro e' w5 ⟨rfl, hw5⟩
        rw [hw5]
        clear hw5
        go_wp2_with fail
        go_ret
        exact ⟨ret_int HRR.out.symm, hE0.trans hE4⟩
      | true =>
        have HP1 := hide (HP.out av)
        rw [hp1] at HP1
        cases hp2 : procS s.n bv with
        | false =>
          have hb0 : bitS s av bv = false := by rw [HBS.out, hp1, hp2]; rfl
          have HP2 := hide (HP.out bv)
          rw [hp2] at HP2
          rw [hb0] at HRR
          clear hp1 hp2 hb0
          go_wp2_with fail
          refine HP1.out.mono ?_
          rintro e' w5 ⟨rfl, hw5⟩
          rw [hw5]
          clear hw5
          go_wp2_with fail
          refine HP2.out.mono ?_
          rintro e' w5 ⟨rfl, hw5⟩
          rw [hw5]
          clear hw5
          go_wp2_with fail
          refine (ptruth_any _ _).mono ?_
          rintro e' w5 ⟨rfl, hw5⟩
          rw [hw5]
          clear hw5
          go_wp2_with fail
          go_ret
          exact ⟨ret_int HRR.out.symm, hE0.trans hE4⟩
        | true =>
          have HP2 := hide (HP.out bv)
          rw [hp2] at HP2
          have hb0 : bitS s av bv = has (s.h.h av.toNat) bv.toNat := by rw [HBS.out, hp1, hp2]; rfl
          rw [hb0] at HRR
          have hp1' : 0 ≤ av ∧ av < s.n := by simpa only [procS, Bool.and_eq_true, decide_eq_true_eq] using hp1
          have hp2' : 0 ≤ bv ∧ bv < s.n := by simpa only [procS, Bool.and_eq_true, decide_eq_true_eq] using hp2
          obtain ⟨k, rfl⟩ := Int.eq_ofNat_of_zero_le hp1'.1
          obtain ⟨m, rfl⟩ := Int.eq_ofNat_of_zero_le hp2'.1
          rw [Int.toNat_natCast, Int.toNat_natCast] at HRR
          have hk5 : k < 5 := by omega
          have hm5 : m < 5 := by omega
          have hh := HS5.out k hk5
          have hsb := shr_bit (s.h.h k) m hh.1 hh.2 hm5
          have hcl := (hE4.cell (p := ⟨g, 3 + k, none⟩) (by show g < _; have := (HEV.out w2 (Ext.refl w2)).2.2.2.2; omega)).trans (HM.out.2.2.2 k hk5)
          clear hp1 hp2 hb0 hp1' hp2'
          generalize has (s.h.h k) m = bb at HRR hsb
          generalize s.h.h k = hk at hcl hsb hh
          obtain ⟨hh0, hh1⟩ := hh
          go_wp2_with fail
          refine HP1.out.mono ?_
          rintro e' w5 ⟨rfl, hw5⟩
          rw [hw5]
          clear hw5
          go_wp2_with fail
          refine HP2.out.mono ?_
          rintro e' w5 ⟨rfl, hw5⟩
          rw [hw5]
          clear hw5
          go_wp2_with fail
          refine (ptruth_any _ _).mono ?_
          rintro e' w5 ⟨rfl, hw5⟩
          rw [hw5]
          clear hw5
          go_wp2_with fail
          go_ret
          exact ⟨ret_int HRR.out.symm, hE0.trans hE4⟩
    have d4 : (op == 4) = false := by rw [beq_eq_false_iff_ne]; omega
    by_cases o10 : op = 10
    · subst o10
      have hab := HB01.out (.inl rfl)
      have h10 := (and01 hab.1 hab.2).1
      have HRR := hide (show valE s (.mk 10 num [a, a2]) vars = av * bv from HR.out)
      have H10 := hide h10
      clear h10 hab
      go_wp2_with fail
      go_ret
      exact ⟨ret_int (H10.out.trans HRR.out.symm), hE0.trans hE4⟩
    by_cases o11 : op = 11
    · subst o11
      have hab := HB01.out (.inr rfl)
      have h10 := (and01 hab.1 hab.2).2
      have HRR := hide (show valE s (.mk 11 num [a, a2]) vars = flag (decide (0 < av + bv)) from HR.out)
      have H10 := hide h10
      clear h10 hab
      go_wp2_with fail
      go_ret
      exact ⟨ret_int (H10.out.trans HRR.out.symm), hE0.trans hE4⟩
    have d10 : (op == 10) = false := by rw [beq_eq_false_iff_ne]; omega
    have d11 : (op == 11) = false := by rw [beq_eq_false_iff_ne]; omega
    have HCM := hide (fun W => compared_any s op av bv W (by omega) (by omega) ha1 hb1)
    go_wp2_with fail
    refine (HCM.out _).mono ?_
    rintro e' w5 ⟨rfl, hw5⟩
    rw [hw5]
    clear hw5
    go_wp2_with fail
    go_ret
    exact ⟨ret_int HR.out.symm, hE0.trans hE4⟩
end Go.Proofs.YthkididgbaamcaaGreatDoor

namespace Go.Proofs.YthkididgbaamcaaGreatDoor
open Go.RowKit

theorem wide_any (x : Int) (W : World) : Calls Tryz.prog 99 #[.int .i64 x] W fun e w' => e = .returned (.bool (!smallB x)) ∧ w' = W := by
  have HS := hide (small_any x)
  generalize smallB x = b at HS ⊢
  go_enter Tryz.func99, Tryz.ntmps99
  go_wp2_with fail
  refine (HS.out _).mono ?_
  rintro e w1 ⟨rfl, rfl⟩
  go_wp2_with fail
  go_ret
  exact ⟨rfl, rfl⟩
theorem nowide {l : List Int} (h : ∀ x ∈ l, -1048576 ≤ x ∧ x ≤ 1048576) : (l.any fun x => !smallB x) = false := by
  rw [List.any_eq_false]
  intro x hx
  have := h x hx
  unfold smallB
  rw [decide_eq_true this.1, decide_eq_true this.2]
  simp

set_option maxRecDepth 8000 in
set_option maxHeartbeats 1000000 in
theorem peval_any (s : Sc) (hs : s.ok) (e : Ex) (v u : Value) (w : World) (hT : Tab w) (hv : ExAt w v e) (hn : e.nodes ≤ 100000) (hu : ScAt w u s []) :
    Calls Tryz.prog 69 #[v, u] w fun e' w' => e' = .returned (.tuple #[.int .i64 (if exchk e 0 = 0 then valE s e [] else 0), .int .i64 (exchk e 0)]) ∧ Ext w w' := by
  have HC := hide (fun V (hV : Ext w V) => pexcheck_any e 0 v V (hT.ext hV) (hv.ext hV) hn)
  have HEE := hide (fun V (hV : Ext w V) => evaluator_any s [] u V (hu.ext hV))
  have HVA := hide (fun g V vv (hV : Ext w V) hg h1 h2 h3 => pvalue_any s hs g e [] v vv V hg (hv.ext hV) h1 (by simp) h2 h3)
  obtain ⟨p, c, rfl, hc, hl⟩ := hv.form
  obtain ⟨si, so, sv, rfl, hi, ho, hvv⟩ := hu
  have hnw1 := nowide hs.2.2.1
  have hnw2 := nowide hs.2.2.2.1
  have hi1 := fun V (hV : Ext w V) => contains_wide (fun x => !smallB x) wide_any _ _ V (hi.ext hV)
  have ho1 := fun V (hV : Ext w V) => contains_wide (fun x => !smallB x) wide_any _ _ V (ho.ext hV)
  have hv1 := fun V (hV : Ext w V) => contains_wide (fun x => !smallB x) wide_any _ _ V (hvv.ext hV)
  simp only [hnw1] at hi1
  simp only [hnw2] at ho1
  simp only [List.any_nil] at hv1
  have HI := hide hi1
  have HO := hide ho1
  have HVV := hide hv1
  have HVR := hide hvv
  obtain ⟨qi, ci, rfl, -⟩ := hi.int_all
  obtain ⟨qo, co, rfl, -⟩ := ho.int_all
  obtain ⟨qv, cv, rfl, -⟩ := hvv.int_all
  have s1 := hs.1
  have s2 := hs.2.1
  clear hv hi ho hvv hs hi1 ho1 hv1 hnw1 hnw2 hT
  obtain ⟨w2, hw2⟩ : ∃ w2, (w.alloc (.cells #[.int .i64 e.op, .int .i64 e.num, .slice p e.args.length c] 25)).alloc (.cells #[.int .i64 s.n, .slice qi s.inp.length ci, .slice qo s.out.length co, .int .i64 s.h.h0, .int .i64 s.h.h1, .int .i64 s.h.h2, .int .i64 s.h.h3, .int .i64 s.h.h4, .slice qv 0 cv] 65) = w2 := ⟨_, rfl⟩
  have hE0 : Ext w w2 := by rw [← hw2]; exact ((Ext.refl w).alloc _).alloc _
  have HBX := hide (fun V (hE : Ext w2 V) => xbox3 (g := w.heap.size) (V := V) (by rw [← hw2]; exact (Below.heap_alloc _ _ _ (by simp)).trans (heap_alloc_new w _)) hE)
  have HBS := hide (fun V (hE : Ext w2 V) => sbox9 (g := w.heap.size + 1) (V := V) (by rw [← hw2]; have := heap_alloc_new (w.alloc (.cells #[.int .i64 e.op, .int .i64 e.num, .slice p e.args.length c] 25)) (.cells #[.int .i64 s.n, .slice qi s.inp.length ci, .slice qo s.out.length co, .int .i64 s.h.h0, .int .i64 s.h.h1, .int .i64 s.h.h2, .int .i64 s.h.h3, .int .i64 s.h.h4, .slice qv 0 cv] 65); rwa [World.size_alloc] at this) hE)
  have HW2 := hide hw2
  clear hw2
  by_cases hz : exchk e 0 = 0
  · rw [if_pos hz]
    obtain ⟨hz1, hz2⟩ := exchk_zero (n := 0) hz
    have hva := fun g V vv hV hg h1 => HVA.out g V vv hV hg h1 (by simp; omega) hz2
    have HV2 := hide hva
    rw [hz] at HC ⊢
    clear hva HVA hz2 hz
    generalize valE s e [] = ev at HV2 ⊢
    go_enter Tryz.func69, Tryz.ntmps69
    go_wp2_with fail
    rw [HW2.out]
    refine (HC.out _ hE0).mono ?_
    rintro e' w3 ⟨rfl, hE3⟩
    obtain ⟨c0, c1, c2, hz⟩ := HBX.out _ hE3
    obtain ⟨d0, d1, d2, d3, d4, d5, d6, d7, d8, hzs⟩ := HBS.out _ hE3
    go_wp2_with fail
    refine (HI.out _ (hE0.trans hE3)).mono ?_
    rintro e' w4 ⟨rfl, hE4⟩
    have hE4 := hE3.trans hE4
    clear c0 c1 c2 hz d0 d1 d2 d3 d4 d5 d6 d7 d8 hzs
    obtain ⟨c0, c1, c2, hz⟩ := HBX.out _ hE4
    obtain ⟨d0, d1, d2, d3, d4, d5, d6, d7, d8, hzs⟩ := HBS.out _ hE4
    go_wp2_with fail
    refine (HO.out _ (hE0.trans hE4)).mono ?_
    rintro e' w5 ⟨rfl, hE5⟩
    have hE5 := hE4.trans hE5
    clear c0 c1 c2 hz d0 d1 d2 d3 d4 d5 d6 d7 d8 hzs
    obtain ⟨c0, c1, c2, hz⟩ := HBX.out _ hE5
    obtain ⟨d0, d1, d2, d3, d4, d5, d6, d7, d8, hzs⟩ := HBS.out _ hE5
    go_wp2_with fail
    refine (HVV.out _ (hE0.trans hE5)).mono ?_
    rintro e' w6 ⟨rfl, hE6⟩
    have hE6 := hE5.trans hE6
    clear c0 c1 c2 hz d0 d1 d2 d3 d4 d5 d6 d7 d8 hzs
    go_wp2_with fail
    refine wp_region_heldAll (fun V => Ext w6 V) (by kernel_rfl) ?_
    intro W2 hW2
    have hR2 : Ext w6 W2 := by rw [hW2]; exact (Ext.refl w6).drew
    clear hW2
    have HBX6 := hide (fun V (hV : Ext w6 V) => HBX.out V (hE6.trans hV))
    have HBS6 := hide (fun V (hV : Ext w6 V) => HBS.out V (hE6.trans hV))
    refine wpAnyT_take (i := 0) (.agg #[.int .i64 s.n, .slice qi s.inp.length ci, .slice qo s.out.length co, .int .i64 s.h.h0, .int .i64 s.h.h1, .int .i64 s.h.h2, .int .i64 s.h.h3, .int .i64 s.h.h4, .slice qv 0 cv]) rfl (by kernel_rfl) (by kernel_rfl) (by kernel_rfl) (by simp [Region.wanted]) (fun V hV => by
      obtain ⟨d0, d1, d2, d3, d4, d5, d6, d7, d8, -⟩ := HBS6.out V hV
      go_simp) hR2 ?_
    refine wpAnyT_take (i := 2) (.agg #[.int .i64 e.op, .int .i64 e.num, .slice p e.args.length c]) rfl (by kernel_rfl) (by kernel_rfl) (by kernel_rfl) (by simp [Region.wanted]) (fun V hV => by
      obtain ⟨c0, c1, c2, -⟩ := HBX6.out V hV
      go_simp) hR2 ?_
    refine wpAnyT_take (i := 3) (.pointer (some ⟨w.heap.size + 1, 8, none⟩)) rfl (by kernel_rfl) (by kernel_rfl) (by kernel_rfl) (by simp [Region.wanted]) (fun V hV => by go_simp) hR2 ?_
    refine wpAnyT_take (i := 4) (.slice qv 0 cv) rfl (by kernel_rfl) (by kernel_rfl) (by kernel_rfl) (by simp [Region.wanted]) (fun V hV => by
      obtain ⟨d0, d1, d2, d3, d4, d5, d6, d7, d8, -⟩ := HBS6.out V hV
      go_simp) hR2 ?_
    try simp only [Act.put, List.getElem_toArray, List.getElem_cons_zero, List.getElem_cons_succ, List.setIfInBounds_toArray, List.set_cons_zero, List.set_cons_succ]
    refine wpAnyT_one (i := 1) rfl (by kernel_rfl) (fun K hK => ?_)
    go_wp2_with fail
    refine (HEE.out W2 ((hE0.trans hE6).trans hR2)).mono ?_
    rintro e' w7 ⟨rfl, hE7, hEV⟩
    have hR7 := hR2.trans hE7
    go_wp2_with fail
    refine ⟨rfl, hK _ _ hR7 ?_⟩
    clear hK K
    generalize W2.heap.size = g at hEV ⊢
    try simp only [Act.put, List.getElem_toArray, List.getElem_cons_zero, List.getElem_cons_succ, List.setIfInBounds_toArray, List.set_cons_zero, List.set_cons_succ]
    refine wpAnyT_one (i := 5) rfl (by kernel_rfl) (fun K hK => ?_)
    go_wp2_with fail
    refine (HV2.out g w7 _ ((hE0.trans hE6).trans hR7) hEV (HVR.out.ext ((hE0.trans hE6).trans hR7))).mono ?_
    rintro e' w8 ⟨rfl, hE8⟩
    have hR8 := hR7.trans hE8
    go_wp2_with fail
    refine ⟨rfl, hK _ _ hR8 ?_⟩
    clear hK K
    refine wpAnyT_take (i := 6) (.int .i64 ev) rfl (by kernel_rfl) (by kernel_rfl) (by kernel_rfl) (by simp [Region.wanted]) (fun V hV => by go_simp) hR8 ?_
    refine wpAnyT_take (i := 7) (.int .i64 0) rfl (by kernel_rfl) (by kernel_rfl) (by kernel_rfl) (by simp [Region.wanted]) (fun V hV => by go_simp) hR8 ?_
    try simp only [Act.put, List.getElem_toArray, List.getElem_cons_zero, List.getElem_cons_succ, List.setIfInBounds_toArray, List.set_cons_zero, List.set_cons_succ]
    refine wpAnyT_done (by kernel_rfl) ?_ _
    go_wp2_with fail
    go_ret2
    exact ⟨rfl, (hE0.trans hE6).trans hR8⟩
  · rw [if_neg hz]
    have hd : (exchk e 0 != 0) = true := by simp [hz]
    clear hz HVA
    generalize exchk e 0 = k at HC hd ⊢
    go_enter Tryz.func69, Tryz.ntmps69
    go_wp2_with fail
    rw [HW2.out]
    refine (HC.out _ hE0).mono ?_
    rintro e' w3 ⟨rfl, hE3⟩
    go_wp2_with fail
    go_ret2
    exact ⟨rfl, hE0.trans hE3⟩

set_option maxHeartbeats 1000000 in
theorem ptruth_ex (s : Sc) (hs : s.ok) (e : Ex) (v u : Value) (w : World) (hT : Tab w) (hv : ExAt w v e) (hn : e.nodes ≤ 100000) (hu : ScAt w u s []) :
    Calls Tryz.prog 32 #[v, u] w fun e' w' => e' = .returned (.bool (truthB s e)) ∧ Ext w w' := by
  have HE := hide (fun W (hW : Ext w W) => peval_any s hs e v u W (hT.ext hW) (hv.ext hW) hn (hu.ext hW))
  have HTB := hide (fun W (hW : Ext w W) => hT.ext hW)
  obtain ⟨p, c, rfl, hc, hl⟩ := hv.form
  obtain ⟨si, so, sv, rfl, hi, ho, hvv⟩ := hu
  obtain ⟨qi, ci, rfl, -⟩ := hi.int_all
  obtain ⟨qo, co, rfl, -⟩ := ho.int_all
  obtain ⟨qv, cv, rfl, -⟩ := hvv.int_all
  clear hv hi ho hvv hs hn hT
  obtain ⟨w2, hw2⟩ : ∃ w2, (w.alloc (.cells #[.int .i64 e.op, .int .i64 e.num, .slice p e.args.length c] 25)).alloc (.cells #[.int .i64 s.n, .slice qi s.inp.length ci, .slice qo s.out.length co, .int .i64 s.h.h0, .int .i64 s.h.h1, .int .i64 s.h.h2, .int .i64 s.h.h3, .int .i64 s.h.h4, .slice qv 0 cv] 65) = w2 := ⟨_, rfl⟩
  have hE0 : Ext w w2 := by rw [← hw2]; exact ((Ext.refl w).alloc _).alloc _
  have HBX := hide (fun V (hE : Ext w2 V) => xbox3 (g := w.heap.size) (V := V) (by rw [← hw2]; exact (Below.heap_alloc _ _ _ (by simp)).trans (heap_alloc_new w _)) hE)
  have HW2 := hide hw2
  clear hw2
  unfold truthB
  by_cases hz : exchk e 0 = 0
  · have hop : 0 ≤ e.op ∧ e.op < 16 := by
      have h1 := (exchk_zero (n := 0) hz).2
      obtain ⟨o, n, xs⟩ := e
      have := nodesE_zero h1
      exact ⟨this.1, by have := this.2.1; show o < 16; omega⟩
    have HTG := hide (fun W (hW : Ext w W) => (HTB.out W hW).get hop.1 hop.2)
    have hz' := hz
    simp only [hz, if_true] at HE
    rw [decide_eq_true hz', Bool.true_and]
    clear hz hz'
    generalize valE s e [] = ev at HE ⊢
    generalize hke : kindOf e.op = kd at HTG ⊢
    have HKE := hide hke
    clear hke
    generalize hoe : e.op = op at *
    obtain ⟨m, hm, -, -⟩ := HTG.out w (Ext.refl w)
    subst hm
    by_cases hk : kd = 1
    · subst hk
      by_cases hv1 : ev = 1
      · subst hv1
        go_enter Tryz.func32, Tryz.ntmps32
        go_wp2_with fail
        rw [HW2.out]
        refine (HE.out _ hE0).mono ?_
        rintro e' w3 ⟨rfl, hE3⟩
        obtain ⟨c0, c1, c2, hz⟩ := HBX.out _ hE3
        obtain ⟨m', hm', hm16, t0, -, -⟩ := HTG.out w3 (hE0.trans hE3)
        obtain rfl : m' = m := by omega
        have hz0 := (HTB.out w3 (hE0.trans hE3)).1
        clear hm'
        go_wp2_with fail
        go_ret
        exact ⟨rfl, hE0.trans hE3⟩
      · have hd : (ev == 1) = false := by simp [hv1]
        rw [decide_eq_false hv1]
        clear hv1
        go_enter Tryz.func32, Tryz.ntmps32
        go_wp2_with fail
        rw [HW2.out]
        refine (HE.out _ hE0).mono ?_
        rintro e' w3 ⟨rfl, hE3⟩
        obtain ⟨c0, c1, c2, hz⟩ := HBX.out _ hE3
        obtain ⟨m', hm', hm16, t0, -, -⟩ := HTG.out w3 (hE0.trans hE3)
        obtain rfl : m' = m := by omega
        have hz0 := (HTB.out w3 (hE0.trans hE3)).1
        clear hm'
        go_wp2_with fail
        go_ret
        exact ⟨rfl, hE0.trans hE3⟩
    · have hd : (kd == 1) = false := by simp [hk]
      rw [decide_eq_false hk, Bool.false_and]
      clear hk
      go_enter Tryz.func32, Tryz.ntmps32
      go_wp2_with fail
      rw [HW2.out]
      refine (HE.out _ hE0).mono ?_
      rintro e' w3 ⟨rfl, hE3⟩
      obtain ⟨c0, c1, c2, hz⟩ := HBX.out _ hE3
      obtain ⟨m', hm', hm16, t0, -, -⟩ := HTG.out w3 (hE0.trans hE3)
      obtain rfl : m' = m := by omega
      have hz0 := (HTB.out w3 (hE0.trans hE3)).1
      clear hm'
      go_wp2_with fail
      go_ret
      exact ⟨rfl, hE0.trans hE3⟩
  · have hd : (exchk e 0 == 0) = false := by simp [hz]
    rw [decide_eq_false hz, Bool.false_and, Bool.false_and]
    simp only [hz, if_false] at HE
    clear hz
    generalize exchk e 0 = k at HE hd
    go_enter Tryz.func32, Tryz.ntmps32
    go_wp2_with fail
    rw [HW2.out]
    refine (HE.out _ hE0).mono ?_
    rintro e' w3 ⟨rfl, hE3⟩
    go_wp2_with fail
    go_ret
    exact ⟨rfl, hE0.trans hE3⟩
end Go.Proofs.YthkididgbaamcaaGreatDoor
