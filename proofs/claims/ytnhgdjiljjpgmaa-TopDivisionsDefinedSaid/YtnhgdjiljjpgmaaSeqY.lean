/-
  Iterators that are called within rounds of other loops: what is yielded to keeps the records of the loops that were entered after it.
  Conditions: none.
-/
import Derived.Test.YtnhgdjiljjpgmaaSeqA
namespace Go.Proofs.Ytnhgdjiljjpgmaa
open Go.RowKit

theorem KF.up {B B' : Nat} {W W' : World} (h : KF B W W') (hB : B ≤ B') : KF B' W W' := ⟨h.1, fun i o h1 h2 h3 => h.2 i o (Nat.le_trans hB h1) h2 h3⟩
theorem KF.putObj {B l : Nat} {W : World} (h : l < B) (o : Obj) : KF B W (W.putObj l o) := ⟨by simp, fun i o' h1 h2 _ => (World.putObj_heap_other (by omega)).trans h2⟩
/-- THE ITERATOR, as SeqX; what it yields to keeps the objects behind the loop's own record that are no cells. -/
def SeqY (P : Program) (f : Nat) (lb : Array Value) (Init : World → Prop) (O0 : Nat → Prop) (D : World → Prop) (n : Nat) (X : Nat → (Nat → Prop) → Array Value → World → Prop) : Prop :=
  ∀ (l : Nat) (J : Nat → (Nat → Prop) → World → Prop) (Jx : (Nat → Prop) → World → Prop) (W : World), (∀ i O W, J i O W → D W) → (∀ i, Rely (J i)) → Rely Jx →
    (∀ i x O W', i < n → X i O x W' → J i O W' → (∀ k, O k → k < W'.heap.size) → YieldAt Fence.wide 0 P l x W' fun e W'' => (KO O W' W'' ∧ W'.heap.size ≤ W''.heap.size ∧ KF (l + 1) W' W'') ∧ ((e = .returned (.bool true) ∧ J (i + 1) O W'') ∨ (e = .returned (.bool false) ∧ Jx O W''))) →
    l < W.heap.size → Init W → (∀ k, O0 k → k < W.heap.size) → J 0 O0 W → CallsIn Fence.wide 0 P f (#[.func (.yield l) #[] #[]] ++ lb) W fun e W' => (∃ v, e = .returned v) ∧ ∃ O', J n O' W' ∨ Jx O' W'
theorem SeqX.toY {P : Program} {f : Nat} {lb : Array Value} {Init : World → Prop} {O0 : Nat → Prop} {D : World → Prop} {n : Nat} {X : Nat → (Nat → Prop) → Array Value → World → Prop} (h : SeqX P f lb Init O0 D n X) : SeqY P f lb Init O0 D n X := by
  intro l J Jx W hD hJ hJx hY _ hI hO h0
  exact h l J Jx W hD hJ hJx (fun i x O W' hi hx hj hO => (hY i x O W' hi hx hj hO).mono fun e W'' ⟨⟨h1, h2, _⟩, h3⟩ => ⟨⟨h1, h2⟩, h3⟩) hI hO h0
/-- Stable against an iterator's doing, and the changes of a loop's own objects. -/
def RelyL (L : Nat → Prop) (J : (Nat → Prop) → World → Prop) : Prop := ∀ O O' W W', J O W → Off (fun k => O k ∨ L k) W W' → Grow O O' W W' → J O' W'
theorem Off.wide {O : Nat → Prop} {W W' : World} (h : Off O W W') (L : Nat → Prop) : Off (fun k => O k ∨ L k) W W' := ⟨h.os, h.tape, h.output, h.size, fun k h1 h2 => h.block k h1 fun h3 => h2 (.inl h3)⟩
theorem Off.putL {O L : Nat → Prop} {W : World} {l : Nat} (hl : L l) (o : Obj) : Off (fun k => O k ∨ L k) W (W.putObj l o) :=
  ⟨rfl, rfl, rfl, by simp, fun k _ hn => World.putObj_heap_other (fun e => hn (.inr (e ▸ hl)))⟩
theorem Off.putOne {W : World} (l : Nat) (o : Obj) : Off (fun k => k = l) W (W.putObj l o) := ⟨rfl, rfl, rfl, by simp, fun k _ hn => World.putObj_heap_other (fun e => hn e)⟩
def asgPostY (P : Program) (l B : Nat) (O : Nat → Prop) (W : World) (body : Code) (J : World → Prop) (Jx : Code → World → Prop) : Exit → Act → World → Prop :=
  Exit.then (fun a₁ W₁ => KFO B O W W₁ ∧ ∀ W₂, Off (fun k => k = l) W₁ W₂ → (∃ r, W₂.heap[l]? = some (.loop r)) → body.wpIn (Fence.wide.inRound l) 0 P (rndPostO B O W₂ J Jx) a₁ W₂) (fun _ _ _ => False)
theorem wp_rangeY {P : Program} {g : Operand} {ps : Array Tmp} {assign body : Code} {Q : Exit → Act → World → Prop} {a : Act} {w : World} {f : Nat} {lb : Array Value} {Init D : World → Prop} {O0 : Nat → Prop} {n : Nat} {X : Nat → (Nat → Prop) → Array Value → World → Prop}
    (hg : a.eval g = .func (.func f) #[] lb) (ef : ∀ args w, (callFunc f args).run P w = .ok (.enter f args) w) (hseq : SeqY P f lb Init O0 D n X) (hps : ∀ i O x W, i < n → X i O x W → x.size = ps.size)
    (J : Nat → (Nat → Prop) → World → Prop) (Jx : Code → (Nat → Prop) → World → Prop) (hD : ∀ i O W, J i O W → D W) (hJ : ∀ i, RelyL (fun k => k = w.heap.size ∨ k = w.heap.size + 1) (J i)) (hJx : ∀ c, RelyL (fun k => k = w.heap.size ∨ k = w.heap.size + 1) (Jx c))
    (hI : ∀ W, Ext w W → Init W) (hO0 : ∀ k, O0 k → k < w.heap.size) (h0 : J 0 O0 w)
    (round : ∀ l i x O W, i < n → X i O x W → J i O W → (∀ k, O k → k < W.heap.size) → l = w.heap.size + 1 → l < W.heap.size →
      assign.wpIn (Fence.wide.inRound l) 0 P (asgPostY P l w.heap.size O W body (J (i + 1) O) (fun c => Jx c O)) { tmps := (ps.zip x).foldl (fun t (p, v) => t.setIfInBounds p v) a.tmps, defers := [] } W)
    (done : ∀ M O W, J n O W → M = w.heap.size → W.heap[M]? = some (.deferred (some [])) → Q .normal { a with defers := { target := .collected M, args := #[] } :: a.defers } W)
    (jump : ∀ M c O W, Jx c O W → M = w.heap.size → W.heap[M]? = some (.deferred (some [])) → c.wp P Q { a with defers := { target := .collected M, args := #[] } :: a.defers } W) :
    (Code.rangeFunc g ps assign body).wp P Q a w := by
  refine (wpIn_wide (n := 0)).1 ?_
  refine wpIn_rangeFunc ?_
  intro fn hfn
  obtain ⟨rec, hrec⟩ : ∃ rec : LoopState → Option Code → Loop, rec = fun st pe => { state := st, pending := pe, fn, tmps := a.tmps, params := ps, assign, body, defers := w.heap.size } := ⟨_, rfl⟩
  obtain ⟨W1, hW1⟩ : ∃ W1, (w.alloc (.deferred (some []))).alloc (.loop (rec .ready none)) = W1 := ⟨_, rfl⟩
  have hL1 : W1.heap[w.heap.size + 1]? = some (.loop (rec .ready none)) := by
    rw [← hW1]; have := World.alloc_heap_new (w.alloc (.deferred (some []))) (.loop (rec .ready none)); rwa [World.size_alloc] at this
  have hK1 : W1.heap[w.heap.size]? = some (.deferred (some [])) := by
    rw [← hW1]; exact (Below.heap_alloc _ _ _ (by simp)).trans (World.alloc_heap_new w _)
  have hE1 : Ext w W1 := by rw [← hW1]; exact ((Ext.refl w).alloc _).alloc _
  have hI1 : J 0 O0 W1 := hJ 0 _ _ _ _ h0 (Off.of_ext hE1) (Grow.same hO0 hE1.size)
  have hn0 : ¬ O0 w.heap.size := fun h => Nat.lt_irrefl _ (hO0 _ h)
  have hn1 : ¬ O0 (w.heap.size + 1) := fun h => by have := hO0 _ h; omega
  refine ⟨w.heap.size + 1, [{ target := .collected w.heap.size, args := #[] }], W1, { target := .fn (.func f) lb, args := #[.func (.yield (w.heap.size + 1)) #[] #[]] }, W1, f,
    #[.func (.yield (w.heap.size + 1)) #[] #[]] ++ lb, W1, ?_, ?_, ?_, ?_, fun h => by simp [Fence.wide] at h, ?_⟩
  · rw [← hW1, hrec]; exact run_enterLoop_outer _ _ _ _ _
  · simp only [resolve, hg]
    simp [go_sem]
  · intro f' _; trivial
  · simp [invoke, go_sem, ef]
  · have grow : ∀ {O O' : Nat → Prop} {W W' : World} {k : Nat}, Grow O O' W W' → k < W.heap.size → ¬ O k → ¬ O' k := fun hG hk hn h => by
      rcases (hG _ h).1 with h1 | h1
      · exact hn h1
      · omega
    refine (hseq (w.heap.size + 1)
      (fun i O W => J i O W ∧ W.heap[w.heap.size + 1]? = some (.loop (rec .ready none)) ∧ W.heap[w.heap.size]? = some (.deferred (some [])) ∧ ¬ O (w.heap.size + 1) ∧ ¬ O w.heap.size)
      (fun O W => ∃ c, Jx c O W ∧ W.heap[w.heap.size + 1]? = some (.loop (rec .done (some c))) ∧ W.heap[w.heap.size]? = some (.deferred (some [])) ∧ ¬ O (w.heap.size + 1) ∧ ¬ O w.heap.size)
      W1 (fun i O W h => hD i O W h.1)
      (fun i O O' W W' h hE hG => ⟨hJ i _ _ _ _ h.1 (hE.wide _) hG, (hE.block _ (lt_of_heap h.2.1) h.2.2.2.1).trans h.2.1, (hE.block _ (lt_of_heap h.2.2.1) h.2.2.2.2).trans h.2.2.1, grow hG (lt_of_heap h.2.1) h.2.2.2.1, grow hG (lt_of_heap h.2.2.1) h.2.2.2.2⟩)
      (fun O O' W W' h hE hG => by
        obtain ⟨c, hc, hl, hk, hn1, hn2⟩ := h
        exact ⟨c, hJx c _ _ _ _ hc (hE.wide _) hG, (hE.block _ (lt_of_heap hl) hn1).trans hl, (hE.block _ (lt_of_heap hk) hn2).trans hk, grow hG (lt_of_heap hl) hn1, grow hG (lt_of_heap hk) hn2⟩)
      ?_ (lt_of_heap hL1) (hI _ hE1) (fun k hk => Nat.lt_of_lt_of_le (hO0 k hk) hE1.size) ⟨hI1, hL1, hK1, hn1, hn0⟩).mono ?_
    · rintro i x O W hin hx ⟨hi, hl, hk, hno1, hno0⟩ hOW
      have hlt : w.heap.size + 1 < W.heap.size := lt_of_heap hl
      have hy := run_yield (P := P) (args := x) hl (by rw [hrec]; exact hps i O x W hin hx)
      rw [hrec] at hy
      refine ⟨fn, _, assign, body, hy, roundIn_of_wpIn hfn ?_⟩
      refine wpIn_mono (round (w.heap.size + 1) i x O W hin hx hi hOW rfl hlt) ?_
      rintro e a1 W1' hp
      cases e with
      | normal =>
        obtain ⟨hkf, hbody⟩ := hp
        have hl1 := hkf.f.2 _ _ (by omega) hl rfl
        have hk1 := hkf.f.2 _ _ (Nat.le_refl _) hk rfl
        have hlt1 : w.heap.size + 1 < W1'.heap.size := lt_of_heap hl1
        refine ⟨_, run_beginRound hl1 (by rw [hrec]), ?_⟩
        have hl2 : (W1'.putObj (w.heap.size + 1) (.loop { rec .ready none with state := .busy })).heap[w.heap.size + 1]? = some (.loop { rec .ready none with state := .busy }) := World.putObj_heap_same hlt1
        have hk2 : (W1'.putObj (w.heap.size + 1) (.loop { rec .ready none with state := .busy })).heap[w.heap.size]? = some (.deferred (some [])) := (World.putObj_heap_other (by omega)).trans hk1
        refine wpIn_mono (hbody _ (Off.putOne _ _) ⟨_, hl2⟩) ?_
        have fin : ∀ (jump : Option Code) (W3 : World), KFO w.heap.size O (W1'.putObj (w.heap.size + 1) (.loop { rec .ready none with state := .busy })) W3 →
            (Instr.endRound (w.heap.size + 1) jump).run P W3 = .ok (.bool jump.isNone) (W3.putObj (w.heap.size + 1) (.loop (rec (if jump.isNone then .ready else .done) jump))) ∧
            W3.heap[w.heap.size + 1]? = some (.loop { rec .ready none with state := .busy }) ∧
            (W3.putObj (w.heap.size + 1) (.loop (rec (if jump.isNone then .ready else .done) jump))).heap[w.heap.size + 1]? = some (.loop (rec (if jump.isNone then .ready else .done) jump)) ∧
            (W3.putObj (w.heap.size + 1) (.loop (rec (if jump.isNone then .ready else .done) jump))).heap[w.heap.size]? = some (.deferred (some [])) ∧
            (KO O W (W3.putObj (w.heap.size + 1) (.loop (rec (if jump.isNone then .ready else .done) jump))) ∧ W.heap.size ≤ (W3.putObj (w.heap.size + 1) (.loop (rec (if jump.isNone then .ready else .done) jump))).heap.size ∧ KF (w.heap.size + 1 + 1) W (W3.putObj (w.heap.size + 1) (.loop (rec (if jump.isNone then .ready else .done) jump)))) := fun jump W3 hk3 => by
          have hl3 := hk3.f.2 _ _ (by omega) hl2 rfl
          have := run_endRound (P := P) jump hl3
          rw [hrec] at this ⊢
          refine ⟨this, by rw [hrec] at hl3; exact hl3, World.putObj_heap_same (lt_of_heap hl3), (World.putObj_heap_other (by omega)).trans (hk3.f.2 _ _ (Nat.le_refl _) hk2 rfl), fun k hk => ?_, ?_, ((hkf.f.up (by omega)).trans ((KF.putObj (by omega) _).trans (hk3.f.up (by omega)))).trans (KF.putObj (by omega) _)⟩
          · exact (((KO.putObj hno1 _) k hk).trans (hk3.o k hk)).trans (((KO.putObj hno1 _) k hk).trans (hkf.o k hk))
          · have h1 := hkf.f.1
            have h2 := hk3.f.1
            simp at h2 ⊢
            omega
        rintro e a3 W3 hp
        cases e with
        | normal =>
          obtain ⟨hk3, hi3⟩ := hp
          obtain ⟨hr, hl3, hl4, hk4, hko⟩ := fin none W3 hk3
          refine ⟨_, _, hr, hko, .inl ⟨rfl, hJ _ _ _ _ _ hi3 (Off.putL (L := fun k => k = w.heap.size ∨ k = w.heap.size + 1) (.inr rfl) _) (Grow.same (fun k hk => ?_) (by simp)), hl4, hk4, hno1, hno0⟩⟩
          have := hOW k hk; have h1 := hkf.f.1; have h2 := hk3.f.1; simp at h2; omega
        | ret =>
          obtain ⟨hk3, hi3⟩ := hp
          obtain ⟨hr, hl3, hl4, hk4, hko⟩ := fin (some .ret) W3 hk3
          refine ⟨_, _, hr, hko, .inr ⟨rfl, .ret, hJx _ _ _ _ _ hi3 (Off.putL (L := fun k => k = w.heap.size ∨ k = w.heap.size + 1) (.inr rfl) _) (Grow.same (fun k hk => ?_) (by simp)), hl4, hk4, hno1, hno0⟩⟩
          have := hOW k hk; have h1 := hkf.f.1; have h2 := hk3.f.1; simp at h2; omega
        | exit id =>
          obtain ⟨hk3, hi3⟩ := hp
          obtain ⟨hr, hl3, hl4, hk4, hko⟩ := fin (some (.exit id)) W3 hk3
          refine ⟨_, _, hr, hko, .inr ⟨rfl, .exit id, hJx _ _ _ _ _ hi3 (Off.putL (L := fun k => k = w.heap.size ∨ k = w.heap.size + 1) (.inr rfl) _) (Grow.same (fun k hk => ?_) (by simp)), hl4, hk4, hno1, hno0⟩⟩
          have := hOW k hk; have h1 := hkf.f.1; have h2 := hk3.f.1; simp at h2; omega
        | goto t =>
          obtain ⟨hk3, hi3⟩ := hp
          obtain ⟨hr, hl3, hl4, hk4, hko⟩ := fin (some (.goto t)) W3 hk3
          refine ⟨_, _, hr, hko, .inr ⟨rfl, .goto t, hJx _ _ _ _ _ hi3 (Off.putL (L := fun k => k = w.heap.size ∨ k = w.heap.size + 1) (.inr rfl) _) (Grow.same (fun k hk => ?_) (by simp)), hl4, hk4, hno1, hno0⟩⟩
          have := hOW k hk; have h1 := hkf.f.1; have h2 := hk3.f.1; simp at h2; omega
        | panic ch => exact hp.elim
        | outgrown => exact hp.elim
      | exit id => exact hp.elim
      | goto t => exact hp.elim
      | ret => exact hp.elim
      | panic ch => exact hp.elim
      | outgrown => exact hp.elim
    · rintro e W2 ⟨⟨v, rfl⟩, O', (⟨hi, hl, hk, hn1, hn0⟩ | ⟨c, hi, hl, hk, hn1, hn0⟩)⟩
      · exact ⟨none, _, by have := run_endLoop (P := P) hl (by rw [hrec]; simp); rw [hrec] at this; exact this, done _ (fun _ => False) _ (hJ _ _ _ _ _ hi (Off.putL (L := fun k => k = w.heap.size ∨ k = w.heap.size + 1) (.inr rfl) _) (fun k hk => hk.elim)) rfl ((World.putObj_heap_other (by omega)).trans hk)⟩
      · exact ⟨some c, _, by have := run_endLoop (P := P) hl (by rw [hrec]; simp); rw [hrec] at this; exact this, (wpIn_wide (n := 0)).2 (jump _ c (fun _ => False) _ (hJx c _ _ _ _ hi (Off.putL (L := fun k => k = w.heap.size ∨ k = w.heap.size + 1) (.inr rfl) _) (fun k hk => hk.elim)) rfl ((World.putObj_heap_other (by omega)).trans hk))⟩

theorem wpIn_rangeY {P : Program} {g : Operand} {ps : Array Tmp} {assign body : Code} {Q : Exit → Act → World → Prop} {a : Act} {w : World} {f : Nat} {lb : Array Value} {Init D : World → Prop} {O0 : Nat → Prop} {n : Nat} {l₀ : Nat} {X : Nat → (Nat → Prop) → Array Value → World → Prop}
    (hl₀ : ∃ r, w.heap[l₀]? = some (.loop r)) (hg : a.eval g = .func (.func f) #[] lb) (ef : ∀ args w, (callFunc f args).run P w = .ok (.enter f args) w) (hseq : SeqY P f lb Init O0 D n X) (hps : ∀ i O x W, i < n → X i O x W → x.size = ps.size)
    (J : Nat → (Nat → Prop) → World → Prop) (Jx : Code → (Nat → Prop) → World → Prop) (hD : ∀ i O W, J i O W → D W) (hJ : ∀ i, RelyL (fun k => k = w.heap.size) (J i)) (hJx : ∀ c, RelyL (fun k => k = w.heap.size) (Jx c))
    (hI : ∀ W, Ext w W → Init W) (hO0 : ∀ k, O0 k → k < w.heap.size) (h0 : J 0 O0 w)
    (round : ∀ l i x O W, i < n → X i O x W → J i O W → (∀ k, O k → k < W.heap.size) → l = w.heap.size → l < W.heap.size →
      assign.wpIn (Fence.wide.inRound l) 0 P (asgPostY P l w.heap.size O W body (J (i + 1) O) (fun c => Jx c O)) { tmps := (ps.zip x).foldl (fun t (p, v) => t.setIfInBounds p v) a.tmps, defers := [] } W)
    (done : ∀ O W, J n O W → Q .normal a W)
    (jump : ∀ c O W, Jx c O W → c.wpIn (Fence.wide.inRound l₀) 0 P Q a W) :
    (Code.rangeFunc g ps assign body).wpIn (Fence.wide.inRound l₀) 0 P Q a w := by
  obtain ⟨r₀, hr₀⟩ := hl₀
  refine wpIn_rangeFunc ?_
  intro fn hfn
  obtain ⟨rec, hrec⟩ : ∃ rec : LoopState → Option Code → Loop, rec = fun st pe => { state := st, pending := pe, fn, tmps := a.tmps, params := ps, assign, body, defers := r₀.defers } := ⟨_, rfl⟩
  obtain ⟨W1, hW1⟩ : ∃ W1, w.alloc (.loop (rec .ready none)) = W1 := ⟨_, rfl⟩
  have hL1 : W1.heap[w.heap.size]? = some (.loop (rec .ready none)) := by rw [← hW1]; exact World.alloc_heap_new w _
  have hE1 : Ext w W1 := by rw [← hW1]; exact (Ext.refl w).alloc _
  have hI1 : J 0 O0 W1 := hJ 0 _ _ _ _ h0 (Off.of_ext hE1) (Grow.same hO0 hE1.size)
  have hn0 : ¬ O0 w.heap.size := fun h => Nat.lt_irrefl _ (hO0 _ h)
  refine ⟨w.heap.size, [], W1, { target := .fn (.func f) lb, args := #[.func (.yield w.heap.size) #[] #[]] }, W1, f,
    #[.func (.yield w.heap.size) #[] #[]] ++ lb, W1, ?_, ?_, ?_, ?_, fun h => by simp [Fence.wide, Fence.inRound] at h, ?_⟩
  · rw [← hW1, hrec]; exact run_enterLoop_inner hr₀ _ _ _ _ _
  · simp only [resolve, hg]
    simp [go_sem]
  · intro f' _; trivial
  · simp [invoke, go_sem, ef]
  · have grow : ∀ {O O' : Nat → Prop} {W W' : World} {k : Nat}, Grow O O' W W' → k < W.heap.size → ¬ O k → ¬ O' k := fun hG hk hn h => by
      rcases (hG _ h).1 with h1 | h1
      · exact hn h1
      · omega
    refine (CallsIn.inRound l₀ (hseq (w.heap.size)
      (fun i O W => J i O W ∧ W.heap[w.heap.size]? = some (.loop (rec .ready none)) ∧ ¬ O (w.heap.size))
      (fun O W => ∃ c, Jx c O W ∧ W.heap[w.heap.size]? = some (.loop (rec .done (some c))) ∧ ¬ O (w.heap.size))
      W1 (fun i O W h => hD i O W h.1)
      (fun i O O' W W' h hE hG => ⟨hJ i _ _ _ _ h.1 (hE.wide _) hG, (hE.block _ (lt_of_heap h.2.1) h.2.2).trans h.2.1, grow hG (lt_of_heap h.2.1) h.2.2⟩)
      (fun O O' W W' h hE hG => by
        obtain ⟨c, hc, hl, hn1⟩ := h
        exact ⟨c, hJx c _ _ _ _ hc (hE.wide _) hG, (hE.block _ (lt_of_heap hl) hn1).trans hl, grow hG (lt_of_heap hl) hn1⟩)
      ?_ (lt_of_heap hL1) (hI _ hE1) (fun k hk => Nat.lt_of_lt_of_le (hO0 k hk) hE1.size) ⟨hI1, hL1, hn0⟩)).mono ?_
    · rintro i x O W hin hx ⟨hi, hl, hno1⟩ hOW
      have hlt : w.heap.size < W.heap.size := lt_of_heap hl
      have hy := run_yield (P := P) (args := x) hl (by rw [hrec]; exact hps i O x W hin hx)
      rw [hrec] at hy
      refine ⟨fn, _, assign, body, hy, roundIn_of_wpIn hfn ?_⟩
      refine wpIn_mono (round (w.heap.size) i x O W hin hx hi hOW rfl hlt) ?_
      rintro e a1 W1' hp
      cases e with
      | normal =>
        obtain ⟨hkf, hbody⟩ := hp
        have hl1 := hkf.f.2 _ _ (by omega) hl rfl
        have hlt1 : w.heap.size < W1'.heap.size := lt_of_heap hl1
        refine ⟨_, run_beginRound hl1 (by rw [hrec]), ?_⟩
        have hl2 : (W1'.putObj (w.heap.size) (.loop { rec .ready none with state := .busy })).heap[w.heap.size]? = some (.loop { rec .ready none with state := .busy }) := World.putObj_heap_same hlt1
        refine wpIn_mono (hbody _ (Off.putOne _ _) ⟨_, hl2⟩) ?_
        have fin : ∀ (jump : Option Code) (W3 : World), KFO w.heap.size O (W1'.putObj (w.heap.size) (.loop { rec .ready none with state := .busy })) W3 →
            (Instr.endRound (w.heap.size) jump).run P W3 = .ok (.bool jump.isNone) (W3.putObj (w.heap.size) (.loop (rec (if jump.isNone then .ready else .done) jump))) ∧
            W3.heap[w.heap.size]? = some (.loop { rec .ready none with state := .busy }) ∧
            (W3.putObj (w.heap.size) (.loop (rec (if jump.isNone then .ready else .done) jump))).heap[w.heap.size]? = some (.loop (rec (if jump.isNone then .ready else .done) jump)) ∧
            (KO O W (W3.putObj (w.heap.size) (.loop (rec (if jump.isNone then .ready else .done) jump))) ∧ W.heap.size ≤ (W3.putObj (w.heap.size) (.loop (rec (if jump.isNone then .ready else .done) jump))).heap.size ∧ KF (w.heap.size + 1) W (W3.putObj (w.heap.size) (.loop (rec (if jump.isNone then .ready else .done) jump)))) := fun jump W3 hk3 => by
          have hl3 := hk3.f.2 _ _ (by omega) hl2 rfl
          have := run_endRound (P := P) jump hl3
          rw [hrec] at this ⊢
          refine ⟨this, by rw [hrec] at hl3; exact hl3, World.putObj_heap_same (lt_of_heap hl3), fun k hk => ?_, ?_, ((hkf.f.up (by omega)).trans ((KF.putObj (by omega) _).trans (hk3.f.up (by omega)))).trans (KF.putObj (by omega) _)⟩
          · exact (((KO.putObj hno1 _) k hk).trans (hk3.o k hk)).trans (((KO.putObj hno1 _) k hk).trans (hkf.o k hk))
          · have h1 := hkf.f.1
            have h2 := hk3.f.1
            simp at h2 ⊢
            omega
        rintro e a3 W3 hp
        cases e with
        | normal =>
          obtain ⟨hk3, hi3⟩ := hp
          obtain ⟨hr, hl3, hl4, hko⟩ := fin none W3 hk3
          refine ⟨_, _, hr, hko, .inl ⟨rfl, hJ _ _ _ _ _ hi3 (Off.putL (L := fun k => k = w.heap.size) rfl _) (Grow.same (fun k hk => ?_) (by simp)), hl4, hno1⟩⟩
          have := hOW k hk; have h1 := hkf.f.1; have h2 := hk3.f.1; simp at h2; omega
        | ret =>
          obtain ⟨hk3, hi3⟩ := hp
          obtain ⟨hr, hl3, hl4, hko⟩ := fin (some .ret) W3 hk3
          refine ⟨_, _, hr, hko, .inr ⟨rfl, .ret, hJx _ _ _ _ _ hi3 (Off.putL (L := fun k => k = w.heap.size) rfl _) (Grow.same (fun k hk => ?_) (by simp)), hl4, hno1⟩⟩
          have := hOW k hk; have h1 := hkf.f.1; have h2 := hk3.f.1; simp at h2; omega
        | exit id =>
          obtain ⟨hk3, hi3⟩ := hp
          obtain ⟨hr, hl3, hl4, hko⟩ := fin (some (.exit id)) W3 hk3
          refine ⟨_, _, hr, hko, .inr ⟨rfl, .exit id, hJx _ _ _ _ _ hi3 (Off.putL (L := fun k => k = w.heap.size) rfl _) (Grow.same (fun k hk => ?_) (by simp)), hl4, hno1⟩⟩
          have := hOW k hk; have h1 := hkf.f.1; have h2 := hk3.f.1; simp at h2; omega
        | goto t =>
          obtain ⟨hk3, hi3⟩ := hp
          obtain ⟨hr, hl3, hl4, hko⟩ := fin (some (.goto t)) W3 hk3
          refine ⟨_, _, hr, hko, .inr ⟨rfl, .goto t, hJx _ _ _ _ _ hi3 (Off.putL (L := fun k => k = w.heap.size) rfl _) (Grow.same (fun k hk => ?_) (by simp)), hl4, hno1⟩⟩
          have := hOW k hk; have h1 := hkf.f.1; have h2 := hk3.f.1; simp at h2; omega
        | panic ch => exact hp.elim
        | outgrown => exact hp.elim
      | exit id => exact hp.elim
      | goto t => exact hp.elim
      | ret => exact hp.elim
      | panic ch => exact hp.elim
      | outgrown => exact hp.elim
    · rintro e W2 ⟨⟨v, rfl⟩, O', (⟨hi, hl, hn1⟩ | ⟨c, hi, hl, hn1⟩)⟩
      · exact ⟨none, _, by have := run_endLoop (P := P) hl (by rw [hrec]; simp); rw [hrec] at this; exact this, done (fun _ => False) _ (hJ _ _ _ _ _ hi (Off.putL (L := fun k => k = w.heap.size) rfl _) (fun k hk => hk.elim))⟩
      · exact ⟨some c, _, by have := run_endLoop (P := P) hl (by rw [hrec]; simp); rw [hrec] at this; exact this, jump c (fun _ => False) _ (hJx c _ _ _ _ hi (Off.putL (L := fun k => k = w.heap.size) rfl _) (fun k hk => hk.elim))⟩

/-- What abides an iterator's doing abides a loop's within it, whose objects are owned, too. -/
theorem rely_in {J : (Nat → Prop) → World → Prop} (hJ : Rely J) (OB L : Nat → Prop) : RelyL L fun O W => J (fun k => OB k ∨ O k ∨ (L k ∧ k < W.heap.size)) W ∧ ∀ k, OB k → k < W.heap.size := by
  intro O O' W W' ⟨h, h0⟩ hoff hG
  refine ⟨hJ _ _ _ _ h ⟨hoff.os, hoff.tape, hoff.output, hoff.size, fun k hk hn => hoff.block k hk fun h => hn (h.elim (fun h => .inr (.inl h)) fun h => .inr (.inr ⟨h, hk⟩))⟩ fun k hk => ?_, fun k hk => Nat.lt_of_lt_of_le (h0 k hk) hoff.size⟩
  rcases hk with hk | hk | ⟨hk, hlt⟩
  · exact ⟨.inl (.inl hk), Nat.lt_of_lt_of_le (h0 k hk) hoff.size⟩
  · obtain ⟨h1, h2⟩ := hG k hk
    exact ⟨h1.imp (fun h => .inr (.inl h)) id, h2⟩
  · refine ⟨?_, hlt⟩
    rcases Nat.lt_or_ge k W.heap.size with h1 | h1
    · exact .inl (.inr (.inr ⟨hk, h1⟩))
    · exact .inr h1
end Go.Proofs.Ytnhgdjiljjpgmaa
