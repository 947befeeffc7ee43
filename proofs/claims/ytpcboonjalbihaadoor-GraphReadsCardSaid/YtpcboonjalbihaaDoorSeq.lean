/-
  A range over a function: the iterator's contract, the caller's law, the end of a function that holds such a loop.
  Conditions: none.
-/
import Derived.Test.YtpcboonjalbihaaDoorColl
import Derived.RangeFuncNested
import Derived.RangeFuncBound
import Derived.RangeFuncCalls
import Derived.RangeFuncLeaves
import Derived.RangeFuncRecord
import Derived.OwnWalkIn
import Derived.TacticsInMore
import Derived.LoopNIn
import Derived.LoopIn
namespace Go.Proofs.YtpcboonjalbihaaDoor
open Go.RowKit

/-- W' is W but for new blocks, and blocks from B on that are no cells. -/
structure Chg (B : Nat) (W W' : World) : Prop where
  os : W'.os = W.os
  tape : W'.tape = W.tape
  output : W'.output = W.output
  size : W.heap.size ≤ W'.heap.size
  low : ∀ k, k < B → k < W.heap.size → W'.heap[k]? = W.heap[k]?
  cells : ∀ (k : Nat) (c : Array Value) (e : TypeId) (fr : Nat × Nat), W.heap[k]? = some (Obj.cells c e fr) → W'.heap[k]? = some (Obj.cells c e fr)
theorem Chg.refl (B : Nat) (W : World) : Chg B W W := ⟨rfl, rfl, rfl, Nat.le_refl _, fun _ _ _ => rfl, fun _ _ _ _ h => h⟩
theorem Chg.trans {B : Nat} {W W' W'' : World} (h : Chg B W W') (k : Chg B W' W'') : Chg B W W'' :=
  ⟨k.os.trans h.os, k.tape.trans h.tape, k.output.trans h.output, Nat.le_trans h.size k.size, fun i h1 h2 => (k.low i h1 (Nat.lt_of_lt_of_le h2 h.size)).trans (h.low i h1 h2), fun i c e fr hh => k.cells i c e fr (h.cells i c e fr hh)⟩
theorem lt_of_heap {W : World} {k : Nat} {o : Obj} (h : W.heap[k]? = some o) : k < W.heap.size := by
  rcases Nat.lt_or_ge k W.heap.size with hlt | hge
  · exact hlt
  · rw [Array.getElem?_eq_none hge] at h; cases h
theorem Chg.of_ext {B : Nat} {W W' : World} (h : Ext W W') : Chg B W W' :=
  ⟨h.b.os, h.b.tape, h.b.output, h.b.size, fun k _ hk => h.b.block k hk, fun k _ _ _ hh => (h.b.block k (lt_of_heap hh)).trans hh⟩
theorem Chg.putObj {B l : Nat} {W : World} {o : Obj} (o' : Obj) (hl : W.heap[l]? = some o) (hc : o.isCells = false) (hB : B ≤ l) : Chg B W (W.putObj l o') :=
  ⟨rfl, rfl, rfl, by simp, fun k h1 _ => World.putObj_heap_other (by omega), fun k c e fr hh => by
    rw [World.putObj_heap_other (fun he => by subst he; rw [hl] at hh; cases hh; cases hc)]; exact hh⟩
theorem Ext.chg {w W W' : World} {B : Nat} (h : Ext w W) (hc : Chg B W W') (hB : w.heap.size ≤ B) : Ext w W' :=
  ⟨⟨hc.os.trans h.b.os, hc.tape.trans h.b.tape, hc.output.trans h.b.output, Nat.le_trans h.b.size hc.size, fun k hk => (hc.low k (by omega) (Nat.lt_of_lt_of_le hk h.b.size)).trans (h.b.block k hk)⟩⟩
theorem Own.chg {α : Type} {enc : α → List Value} {size : Nat} {w W : World} {base B : Nat} {e : TypeId} {v : Value} {l : List α} (h : Own enc size w base e v l) (hc : Chg B w W) : Own enc size W base e v l := by
  refine ⟨h.1, h.2.1, ?_⟩
  rcases h.2.2 with h2 | ⟨g, cap, cur, h1, h2, h3, h4⟩
  · exact .inl h2
  · exact .inr ⟨g, cap, cur, h1, h2, hc.cells _ _ _ _ h3, h4⟩

/-- An invariant of cells, or of blocks below B. -/
def QStable (B : Nat) (J : Nat → World → Prop) : Prop := ∀ i W W', J i W → Chg B W W' → J i W'
def QStable1 (B : Nat) (J : World → Prop) : Prop := ∀ W W', J W → Chg B W W' → J W'
/-- THE ITERATOR: called with the loop's yield it yields xs, one after the other, while it is told to go on. D: what it reads, in each world. -/
def Seq (P : Program) (f : Nat) (lb : Array Value) (D : World → Prop) (xs : List (Array Value)) : Prop :=
  ∀ (l : Nat) (J : Nat → World → Prop) (Jx : World → Prop) (W : World), (∀ i W, J i W → D W) → (∀ i W W', J i W → Ext W W' → J i W') → (∀ W W', Jx W → Ext W W' → Jx W') →
    (∀ i x W', xs[i]? = some x → J i W' → YieldAt Fence.wide 0 P l x W' fun e W'' => (e = .returned (.bool true) ∧ J (i + 1) W'') ∨ (e = .returned (.bool false) ∧ Jx W'')) →
    J 0 W → CallsIn Fence.wide 0 P f (#[.func (.yield l) #[] #[]] ++ lb) W fun e W' => (∃ v, e = .returned v) ∧ (J xs.length W' ∨ Jx W')
/-- What is no cells and lies at B or beyond lies as it lay. -/
def KF (B : Nat) (W W' : World) : Prop := W.heap.size ≤ W'.heap.size ∧ ∀ k o, B ≤ k → W.heap[k]? = some o → o.isCells = false → W'.heap[k]? = some o
theorem KF.refl (B : Nat) (W : World) : KF B W W := ⟨Nat.le_refl _, fun _ _ _ h _ => h⟩
theorem KF.trans {B : Nat} {W W' W'' : World} (h : KF B W W') (k : KF B W' W'') : KF B W W'' := ⟨Nat.le_trans h.1 k.1, fun i o h1 h2 h3 => k.2 i o h1 (h.2 i o h1 h2 h3) h3⟩
theorem KF.of_ext {B : Nat} {W W' : World} (h : Ext W W') : KF B W W' := ⟨h.size, fun k _ _ hh _ => (h.b.block k (lt_of_heap hh)).trans hh⟩
theorem KF.setCell {B : Nat} (W : World) (a : Addr) (v : Value) : KF B W (W.setCell a v) := by
  refine ⟨by simp [World.setCell], fun k o _ hh hc => ?_⟩
  by_cases hk : k = a.block
  · subst hk
    simp only [World.setCell, Array.getElem?_modify, hh]
    cases o <;> simp_all [Obj.isCells]
  · rw [Below.heap_setCell _ _ _ _ hk]; exact hh
theorem KF.grown {B : Nat} {W W' : World} {row : Option Nat} (hg : W.grownBy W' row) (hr : ∀ g, row = some g → g < B ∨ ∃ c e fr, W.heap[g]? = some (.cells c e fr)) : KF B W W' := by
  refine ⟨hg.size, fun k o hB hh hc => ?_⟩
  rw [hg.block k (lt_of_heap hh) (fun he => ?_)]
  · exact hh
  · rcases hr k he.symm with h1 | ⟨c, e, fr, h1⟩
    · omega
    · rw [hh] at h1; cases h1; cases hc
/-- What the body of a round must achieve: it goes on, or it leaves by a jump. -/
def rndPost (B : Nat) (W₂ : World) (J : World → Prop) (Jx : Code → World → Prop) : Exit → Act → World → Prop
  | .normal, _, W => KF B W₂ W ∧ J W
  | .ret, _, W => KF B W₂ W ∧ Jx .ret W
  | .exit id, _, W => KF B W₂ W ∧ Jx (.exit id) W
  | .goto t, _, W => KF B W₂ W ∧ Jx (.goto t) W
  | _, _, _ => False
/-- What the assignments to the loop variables must achieve: the body can be walked behind them. -/
def asgPost (P : Program) (l B : Nat) (W : World) (body : Code) (J : World → Prop) (Jx : Code → World → Prop) : Exit → Act → World → Prop :=
  Exit.then (fun a₁ W₁ => KF B W W₁ ∧ ∀ W₂, Chg B W₁ W₂ → body.wpIn (Fence.wide.inRound l) 0 P (rndPost B W₂ J Jx) a₁ W₂) (fun _ _ _ => False)

theorem wp_range {P : Program} {g : Operand} {ps : Array Tmp} {assign body : Code} {Q : Exit → Act → World → Prop} {a : Act} {w : World} {f : Nat} {lb : Array Value} {D : World → Prop} {xs : List (Array Value)}
    (hg : a.eval g = .func (.func f) #[] lb) (ef : ∀ args w, (callFunc f args).run P w = .ok (.enter f args) w) (hseq : Seq P f lb D xs) (hps : ∀ x ∈ xs, x.size = ps.size)
    (J : Nat → World → Prop) (Jx : Code → World → Prop) (hD : ∀ i W, J i W → D W) (hJ : QStable w.heap.size J) (hJx : ∀ c, QStable1 w.heap.size (Jx c)) (h0 : J 0 w)
    (round : ∀ l i x W, xs[i]? = some x → J i W → w.heap.size ≤ l → l < W.heap.size →
      assign.wpIn (Fence.wide.inRound l) 0 P (asgPost P l w.heap.size W body (J (i + 1)) Jx) { tmps := (ps.zip x).foldl (fun t (p, v) => t.setIfInBounds p v) a.tmps, defers := [] } W)
    (done : ∀ M W, J xs.length W → w.heap.size ≤ M → W.heap[M]? = some (.deferred (some [])) → Q .normal { a with defers := { target := .collected M, args := #[] } :: a.defers } W)
    (jump : ∀ M c W, Jx c W → w.heap.size ≤ M → W.heap[M]? = some (.deferred (some [])) → c.wp P Q { a with defers := { target := .collected M, args := #[] } :: a.defers } W) :
    (Code.rangeFunc g ps assign body).wp P Q a w := by
  refine (wpIn_wide (n := 0)).1 ?_
  refine wpIn_rangeFunc ?_
  intro fn hfn
  obtain ⟨rec, hrec⟩ : ∃ rec : LoopState → Option Code → Loop, rec = fun st pe => { state := st, pending := pe, fn, tmps := a.tmps, params := ps, assign, body, defers := w.heap.size } := ⟨_, rfl⟩
  obtain ⟨W1, hW1⟩ : ∃ W1, (w.alloc (.deferred (some []))).alloc (.loop (rec .ready none)) = W1 := ⟨_, rfl⟩
  have hL1 : W1.heap[w.heap.size + 1]? = some (.loop (rec .ready none)) := by
    rw [← hW1]; have := World.alloc_heap_new (w.alloc (.deferred (some []))) (.loop (rec .ready none)); rwa [World.size_alloc] at this
  have hK1 : W1.heap[w.heap.size]? = some (.deferred (some [])) := by
    rw [← hW1]; exact (Below.heap_alloc _ _ _ (by simp)).trans (World.alloc_heap_new w _)
  have hI1 : J 0 W1 := by rw [← hW1]; exact hJ _ _ _ h0 (Chg.of_ext (((Ext.refl w).alloc _).alloc _))
  refine ⟨w.heap.size + 1, [{ target := .collected w.heap.size, args := #[] }], W1, { target := .fn (.func f) lb, args := #[.func (.yield (w.heap.size + 1)) #[] #[]] }, W1, f,
    #[.func (.yield (w.heap.size + 1)) #[] #[]] ++ lb, W1, ?_, ?_, ?_, ?_, fun h => by simp [Fence.wide] at h, ?_⟩
  · rw [← hW1, hrec]; exact run_enterLoop_outer _ _ _ _ _
  · simp only [resolve, hg]
    simp [go_sem]
  · intro f' _; trivial
  · simp [invoke, go_sem, ef]
  · refine (hseq (w.heap.size + 1)
      (fun i W => J i W ∧ W.heap[w.heap.size + 1]? = some (.loop (rec .ready none)) ∧ W.heap[w.heap.size]? = some (.deferred (some [])))
      (fun W => ∃ c, Jx c W ∧ W.heap[w.heap.size + 1]? = some (.loop (rec .done (some c))) ∧ W.heap[w.heap.size]? = some (.deferred (some [])))
      W1 (fun i W h => hD i W h.1)
      (fun i W W' h hE => ⟨hJ i W W' h.1 (Chg.of_ext hE), (hE.b.block _ (lt_of_heap h.2.1)).trans h.2.1, (hE.b.block _ (lt_of_heap h.2.2)).trans h.2.2⟩)
      (fun W W' h hE => by
        obtain ⟨c, hc, hl, hk⟩ := h
        exact ⟨c, hJx c W W' hc (Chg.of_ext hE), (hE.b.block _ (lt_of_heap hl)).trans hl, (hE.b.block _ (lt_of_heap hk)).trans hk⟩)
      ?_ ⟨hI1, hL1, hK1⟩).mono ?_
    · rintro i x W hx ⟨hi, hl, hk⟩
      have hlt : w.heap.size + 1 < W.heap.size := lt_of_heap hl
      have hy := run_yield (P := P) (args := x) hl (by rw [hrec]; exact hps x (List.mem_iff_getElem?.2 ⟨i, hx⟩))
      rw [hrec] at hy
      refine ⟨fn, _, assign, body, hy, roundIn_of_wpIn hfn ?_⟩
      refine wpIn_mono (round (w.heap.size + 1) i x W hx hi (by omega) hlt) ?_
      rintro e a1 W1' hp
      cases e with
      | normal =>
        obtain ⟨hkf, hbody⟩ := hp
        have hl1 := hkf.2 _ _ (by omega) hl rfl
        have hk1 := hkf.2 _ _ (Nat.le_refl _) hk rfl
        have hlt1 : w.heap.size + 1 < W1'.heap.size := lt_of_heap hl1
        refine ⟨_, run_beginRound hl1 (by rw [hrec]), ?_⟩
        have hl2 : (W1'.putObj (w.heap.size + 1) (.loop { rec .ready none with state := .busy })).heap[w.heap.size + 1]? = some (.loop { rec .ready none with state := .busy }) := World.putObj_heap_same hlt1
        have hk2 : (W1'.putObj (w.heap.size + 1) (.loop { rec .ready none with state := .busy })).heap[w.heap.size]? = some (.deferred (some [])) := (World.putObj_heap_other (by omega)).trans hk1
        refine wpIn_mono (hbody _ (Chg.putObj _ hl1 rfl (by omega))) ?_
        have fin : ∀ (jump : Option Code) (W3 : World), KF w.heap.size (W1'.putObj (w.heap.size + 1) (.loop { rec .ready none with state := .busy })) W3 →
            (Instr.endRound (w.heap.size + 1) jump).run P W3 = .ok (.bool jump.isNone) (W3.putObj (w.heap.size + 1) (.loop (rec (if jump.isNone then .ready else .done) jump))) ∧
            W3.heap[w.heap.size + 1]? = some (.loop { rec .ready none with state := .busy }) ∧
            (W3.putObj (w.heap.size + 1) (.loop (rec (if jump.isNone then .ready else .done) jump))).heap[w.heap.size + 1]? = some (.loop (rec (if jump.isNone then .ready else .done) jump)) ∧
            (W3.putObj (w.heap.size + 1) (.loop (rec (if jump.isNone then .ready else .done) jump))).heap[w.heap.size]? = some (.deferred (some [])) := fun jump W3 hk3 => by
          have hl3 := hk3.2 _ _ (by omega) hl2 rfl
          have := run_endRound (P := P) jump hl3
          rw [hrec] at this ⊢
          exact ⟨this, by rw [hrec] at hl3; exact hl3, World.putObj_heap_same (lt_of_heap hl3), (World.putObj_heap_other (by omega)).trans (hk3.2 _ _ (Nat.le_refl _) hk2 rfl)⟩
        rintro e a3 W3 hp
        cases e with
        | normal =>
          obtain ⟨hk3, hi3⟩ := hp
          obtain ⟨hr, hl3, hl4, hk4⟩ := fin none W3 hk3
          exact ⟨_, _, hr, .inl ⟨rfl, hJ _ _ _ hi3 (Chg.putObj _ hl3 rfl (by omega)), hl4, hk4⟩⟩
        | ret =>
          obtain ⟨hk3, hi3⟩ := hp
          obtain ⟨hr, hl3, hl4, hk4⟩ := fin (some .ret) W3 hk3
          exact ⟨_, _, hr, .inr ⟨rfl, .ret, hJx _ _ _ hi3 (Chg.putObj _ hl3 rfl (by omega)), hl4, hk4⟩⟩
        | exit id =>
          obtain ⟨hk3, hi3⟩ := hp
          obtain ⟨hr, hl3, hl4, hk4⟩ := fin (some (.exit id)) W3 hk3
          exact ⟨_, _, hr, .inr ⟨rfl, .exit id, hJx _ _ _ hi3 (Chg.putObj _ hl3 rfl (by omega)), hl4, hk4⟩⟩
        | goto t =>
          obtain ⟨hk3, hi3⟩ := hp
          obtain ⟨hr, hl3, hl4, hk4⟩ := fin (some (.goto t)) W3 hk3
          exact ⟨_, _, hr, .inr ⟨rfl, .goto t, hJx _ _ _ hi3 (Chg.putObj _ hl3 rfl (by omega)), hl4, hk4⟩⟩
        | panic ch => exact hp.elim
        | outgrown => exact hp.elim
      | exit id => exact hp.elim
      | goto t => exact hp.elim
      | ret => exact hp.elim
      | panic ch => exact hp.elim
      | outgrown => exact hp.elim
    · rintro e W2 ⟨⟨v, rfl⟩, (⟨hi, hl, hk⟩ | ⟨c, hi, hl, hk⟩)⟩
      · have hc : Chg w.heap.size W2 (W2.putObj (w.heap.size + 1) (.loop { rec .ready none with state := .exhausted })) := Chg.putObj _ hl rfl (by omega)
        exact ⟨none, _, by have := run_endLoop (P := P) hl (by rw [hrec]; simp); rw [hrec] at this; exact this, done _ _ (hJ _ _ _ hi (by rw [hrec] at hc; exact hc)) (Nat.le_refl _) ((World.putObj_heap_other (by omega)).trans hk)⟩
      · have hc : Chg w.heap.size W2 (W2.putObj (w.heap.size + 1) (.loop { rec .done (some c) with state := .exhausted })) := Chg.putObj _ hl rfl (by omega)
        exact ⟨some c, _, by have := run_endLoop (P := P) hl (by rw [hrec]; simp); rw [hrec] at this; exact this, (wpIn_wide (n := 0)).2 (jump _ c _ (hJx c _ _ hi (by rw [hrec] at hc; exact hc)) (Nat.le_refl _) ((World.putObj_heap_other (by omega)).trans hk))⟩

/-- A function that holds such a loop: its contract out of its body's walk. -/
theorem calls_of_wp_m {P : Program} {f : FuncId} {fn : Func} {c : Code} {args : Array Value} {w : World} {R : Ending → World → Prop}
    (hf : P.funcs[f]? = some fn) (hb : fn.body = some c)
    (h : c.wp P (bodyPostM Fence.wide 0 P fn R) { tmps := args ++ Array.replicate (fn.ntmps - args.size) undef, defers := [] } w) : Calls P f args w R :=
  (callsIn_wide (n := 0)).1 (callsIn_of_wp_marks hf hb trivial ((wpIn_wide (n := 0)).2 h))
/-- Its end, no such loop having been entered. -/
theorem leave_plain {P : Program} {fn : Func} {R : Ending → World → Prop} {a : Act} {W : World} {v : Value} (hr : (results fn a.tmps).run P W = .ok v W) (hd : a.defers = []) (hR : R (.returned v) W) :
    bodyPostM Fence.wide 0 P fn R .ret a W := by
  show LeavesInM Fence.wide 0 P fn a.tmps R a.defers .returning W
  rw [hd]
  exact ⟨v, hr, hR⟩
/-- Its end behind one such loop. -/
theorem leave_mark {P : Program} {fn : Func} {R : Ending → World → Prop} {a : Act} {W : World} {M : Nat} {v : Value} (hd : a.defers = [{ target := .collected M, args := #[] }]) (hM : W.heap[M]? = some (.deferred (some [])))
    (hr : (results fn a.tmps).run P (W.putObj M (.deferred none)) = .ok v (W.putObj M (.deferred none))) (hR : R (.returned v) (W.putObj M (.deferred none))) :
    bodyPostM Fence.wide 0 P fn R .ret a W := by
  show LeavesInM Fence.wide 0 P fn a.tmps R a.defers .returning W
  rw [hd]
  exact ⟨by simp, .inl ⟨M, _, rfl, run_takeDeferred hM, v, hr, hR⟩⟩
theorem leave_mark2 {P : Program} {fn : Func} {R : Ending → World → Prop} {a : Act} {W : World} {M M' : Nat} {v : Value} (hd : a.defers = [{ target := .collected M, args := #[] }, { target := .collected M', args := #[] }]) (hM : W.heap[M]? = some (.deferred (some [])))
    (hM' : W.heap[M']? = some (.deferred (some []))) (hne : M ≠ M')
    (hr : (results fn a.tmps).run P ((W.putObj M (.deferred none)).putObj M' (.deferred none)) = .ok v ((W.putObj M (.deferred none)).putObj M' (.deferred none))) (hR : R (.returned v) ((W.putObj M (.deferred none)).putObj M' (.deferred none))) :
    bodyPostM Fence.wide 0 P fn R .ret a W := by
  show LeavesInM Fence.wide 0 P fn a.tmps R a.defers .returning W
  rw [hd]
  exact ⟨by simp, .inl ⟨M, _, rfl, run_takeDeferred hM, by simp, .inl ⟨M', _, rfl, run_takeDeferred (by rw [World.putObj_heap_other (Ne.symm hne)]; exact hM'), v, hr, hR⟩⟩⟩
theorem Ext.putObj {w W : World} (h : Ext w W) {M : Nat} (hM : w.heap.size ≤ M) (o : Obj) : Ext w (W.putObj M o) :=
  ⟨⟨h.b.os, h.b.tape, h.b.output, by simpa using h.b.size, fun k hk => (World.putObj_heap_other (by omega)).trans (h.b.block k hk)⟩⟩
theorem cell_putObj {W : World} {M : Nat} {o o' : Obj} (hM : W.heap[M]? = some o) (hc : o.isCells = false) (a : Addr) {u : Value} (h : W.cell? a = some u) : (W.putObj M o').cell? a = some u := by
  have hne : a.block ≠ M := fun he => by
    unfold World.cell? at h
    rw [he, hM] at h
    cases o <;> simp_all [Obj.isCells]
  rw [World.cell?_of_block (World.putObj_heap_other (w := W) hne)]; exact h
end Go.Proofs.YtpcboonjalbihaaDoor
