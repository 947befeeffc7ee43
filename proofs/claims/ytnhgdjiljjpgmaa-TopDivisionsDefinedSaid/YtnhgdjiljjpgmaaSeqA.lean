/-
  A range over a function within a round of another one: the outer law tells the record of its loop, the inner law wants it.
  Conditions: none.
-/
import Derived.Test.YtnhgdjiljjpgmaaOwned
namespace Go.Proofs.Ytnhgdjiljjpgmaa
open Go.RowKit

/-- W' is W but for blocks of O, new blocks, and blocks from B on that are no cells. -/
structure OffC (B : Nat) (O : Nat → Prop) (W W' : World) : Prop where
  os : W'.os = W.os
  tape : W'.tape = W.tape
  output : W'.output = W.output
  size : W.heap.size ≤ W'.heap.size
  low : ∀ k, k < B → k < W.heap.size → ¬ O k → W'.heap[k]? = W.heap[k]?
  cells : ∀ (k : Nat) (c : Array Value) (e : TypeId) (fr : Nat × Nat), W.heap[k]? = some (Obj.cells c e fr) → ¬ O k → W'.heap[k]? = some (Obj.cells c e fr)
theorem OffC.of_chg {B : Nat} {O : Nat → Prop} {W W' : World} (h : Chg B W W') : OffC B O W W' := ⟨h.os, h.tape, h.output, h.size, fun k h1 h2 _ => h.low k h1 h2, fun k c e fr h1 _ => h.cells k c e fr h1⟩
/-- W' is W but for blocks of O and new blocks. -/
structure Off (O : Nat → Prop) (W W' : World) : Prop where
  os : W'.os = W.os
  tape : W'.tape = W.tape
  output : W'.output = W.output
  size : W.heap.size ≤ W'.heap.size
  block : ∀ k, k < W.heap.size → ¬ O k → W'.heap[k]? = W.heap[k]?
theorem Off.of_ext {O : Nat → Prop} {W W' : World} (h : Ext W W') : Off O W W' := ⟨h.b.os, h.b.tape, h.b.output, h.b.size, fun k hk _ => h.b.block k hk⟩
theorem Off.refl (O : Nat → Prop) (W : World) : Off O W W := ⟨rfl, rfl, rfl, Nat.le_refl _, fun _ _ _ => rfl⟩
theorem Off.trans {O : Nat → Prop} {W W' W'' : World} (h : Off O W W') (k : Off O W' W'') : Off O W W'' :=
  ⟨k.os.trans h.os, k.tape.trans h.tape, k.output.trans h.output, Nat.le_trans h.size k.size, fun i h1 h2 => (k.block i (Nat.lt_of_lt_of_le h1 h.size) h2).trans (h.block i h1 h2)⟩
theorem Off.mono {O O' : Nat → Prop} {W W' : World} (h : Off O W W') (hO : ∀ k, k < W.heap.size → O k → O' k) : Off O' W W' := ⟨h.os, h.tape, h.output, h.size, fun k h1 h2 => h.block k h1 fun h3 => h2 (hO k h1 h3)⟩
theorem Off.setCell {O : Nat → Prop} {W W' : World} (h : Off O W W') {a : Addr} (ha : O a.block) (v : Value) : Off O W (W'.setCell a v) :=
  ⟨h.os, h.tape, h.output, by simpa [World.setCell] using h.size, fun k hk hO => (Below.heap_setCell _ _ _ _ (fun he => hO (by rw [he]; exact ha))).trans (h.block k hk hO)⟩
theorem Off.alloc {O : Nat → Prop} {W W' : World} (h : Off O W W') (o : Obj) : Off O W (W'.alloc o) := h.trans (Off.of_ext ((Ext.refl _).alloc o))
theorem OffC.of_off {B : Nat} {O : Nat → Prop} {W W' : World} (h : Off O W W') : OffC B O W W' :=
  ⟨h.os, h.tape, h.output, h.size, fun k _ hk hO => h.block k hk hO, fun k _ _ _ hh hO => (h.block k (lt_of_heap hh) hO).trans hh⟩
/-- Owned blocks lie as they lay. -/
def KO (O : Nat → Prop) (W W' : World) : Prop := ∀ k, O k → W'.heap[k]? = W.heap[k]?
/-- The owned set grows by new blocks alone. -/
def Grow (O O' : Nat → Prop) (W W' : World) : Prop := ∀ k, O' k → (O k ∨ W.heap.size ≤ k) ∧ k < W'.heap.size
def Rely (J : (Nat → Prop) → World → Prop) : Prop := ∀ O O' W W', J O W → Off O W W' → Grow O O' W W' → J O' W'
def RelyC (B : Nat) (J : (Nat → Prop) → World → Prop) : Prop := ∀ O O' W W', J O W → OffC B O W W' → Grow O O' W W' → J O' W'
theorem Grow.same {O : Nat → Prop} {W W' : World} (h : ∀ k, O k → k < W.heap.size) (hs : W.heap.size ≤ W'.heap.size) : Grow O O W W' := fun k hk => ⟨.inl hk, Nat.lt_of_lt_of_le (h k hk) hs⟩
/-- THE ITERATOR: it yields n times, X at each; it owns O0, and what it makes. Init: its blocks when it is called; D: what it reads besides. -/
def SeqX (P : Program) (f : Nat) (lb : Array Value) (Init : World → Prop) (O0 : Nat → Prop) (D : World → Prop) (n : Nat) (X : Nat → (Nat → Prop) → Array Value → World → Prop) : Prop :=
  ∀ (l : Nat) (J : Nat → (Nat → Prop) → World → Prop) (Jx : (Nat → Prop) → World → Prop) (W : World), (∀ i O W, J i O W → D W) → (∀ i, Rely (J i)) → Rely Jx →
    (∀ i x O W', i < n → X i O x W' → J i O W' → (∀ k, O k → k < W'.heap.size) → YieldAt Fence.wide 0 P l x W' fun e W'' => (KO O W' W'' ∧ W'.heap.size ≤ W''.heap.size) ∧ ((e = .returned (.bool true) ∧ J (i + 1) O W'') ∨ (e = .returned (.bool false) ∧ Jx O W''))) →
    Init W → (∀ k, O0 k → k < W.heap.size) → J 0 O0 W → CallsIn Fence.wide 0 P f (#[.func (.yield l) #[] #[]] ++ lb) W fun e W' => (∃ v, e = .returned v) ∧ ∃ O', J n O' W' ∨ Jx O' W'
/-- It yields the list xs. -/
def SeqO (P : Program) (f : Nat) (lb : Array Value) (Init : World → Prop) (O0 : Nat → Prop) (D : World → Prop) (xs : List (Array Value)) : Prop := SeqX P f lb Init O0 D xs.length fun i _ x _ => xs[i]? = some x
/-- KF, and the owned blocks. -/
structure KFO (B : Nat) (O : Nat → Prop) (W W' : World) : Prop where
  f : KF B W W'
  o : KO O W W'
theorem KFO.of_ext {B : Nat} {O : Nat → Prop} {W W' : World} (h : Ext W W') (hO : ∀ k, O k → k < W.heap.size) : KFO B O W W' := ⟨KF.of_ext h, fun k hk => h.b.block k (hO k hk)⟩
theorem KFO.trans {B : Nat} {O : Nat → Prop} {W W' W'' : World} (h : KFO B O W W') (k : KFO B O W' W'') : KFO B O W W'' := ⟨h.f.trans k.f, fun i hi => (k.o i hi).trans (h.o i hi)⟩
theorem KFO.setCell {B : Nat} {O : Nat → Prop} (W : World) (a : Addr) (v : Value) (ha : ¬ O a.block) : KFO B O W (W.setCell a v) := ⟨KF.setCell W a v, fun k hk => Below.heap_setCell _ _ _ _ (fun he => ha (by rw [← he]; exact hk))⟩
def rndPostO (B : Nat) (O : Nat → Prop) (W₂ : World) (J : World → Prop) (Jx : Code → World → Prop) : Exit → Act → World → Prop
  | .normal, _, W => KFO B O W₂ W ∧ J W
  | .ret, _, W => KFO B O W₂ W ∧ Jx .ret W
  | .exit id, _, W => KFO B O W₂ W ∧ Jx (.exit id) W
  | .goto t, _, W => KFO B O W₂ W ∧ Jx (.goto t) W
  | _, _, _ => False
def asgPostO (P : Program) (l B : Nat) (O : Nat → Prop) (W : World) (body : Code) (J : World → Prop) (Jx : Code → World → Prop) : Exit → Act → World → Prop :=
  Exit.then (fun a₁ W₁ => KFO B O W W₁ ∧ ∀ W₂, Chg B W₁ W₂ → KO O W₁ W₂ → body.wpIn (Fence.wide.inRound l) 0 P (rndPostO B O W₂ J Jx) a₁ W₂) (fun _ _ _ => False)
theorem KO.putObj {O : Nat → Prop} {W : World} {l : Nat} (h : ¬ O l) (o : Obj) : KO O W (W.putObj l o) := fun _ hk => World.putObj_heap_other (fun he => h (he ▸ hk))

theorem wp_rangeX {P : Program} {g : Operand} {ps : Array Tmp} {assign body : Code} {Q : Exit → Act → World → Prop} {a : Act} {w : World} {f : Nat} {lb : Array Value} {Init D : World → Prop} {O0 : Nat → Prop} {n : Nat} {X : Nat → (Nat → Prop) → Array Value → World → Prop}
    (hg : a.eval g = .func (.func f) #[] lb) (ef : ∀ args w, (callFunc f args).run P w = .ok (.enter f args) w) (hseq : SeqX P f lb Init O0 D n X) (hps : ∀ i O x W, i < n → X i O x W → x.size = ps.size)
    (J : Nat → (Nat → Prop) → World → Prop) (Jx : Code → (Nat → Prop) → World → Prop) (hD : ∀ i O W, J i O W → D W) (hJ : ∀ i, RelyC w.heap.size (J i)) (hJx : ∀ c, RelyC w.heap.size (Jx c))
    (hI : ∀ W, Ext w W → Init W) (hO0 : ∀ k, O0 k → k < w.heap.size) (h0 : J 0 O0 w)
    (round : ∀ l i x O W, i < n → X i O x W → J i O W → (∀ k, O k → k < W.heap.size) → w.heap.size ≤ l → l < W.heap.size →
      assign.wpIn (Fence.wide.inRound l) 0 P (asgPostO P l w.heap.size O W body (J (i + 1) O) (fun c => Jx c O)) { tmps := (ps.zip x).foldl (fun t (p, v) => t.setIfInBounds p v) a.tmps, defers := [] } W)
    (done : ∀ M O W, J n O W → w.heap.size ≤ M → W.heap[M]? = some (.deferred (some [])) → Q .normal { a with defers := { target := .collected M, args := #[] } :: a.defers } W)
    (jump : ∀ M c O W, Jx c O W → w.heap.size ≤ M → W.heap[M]? = some (.deferred (some [])) → c.wp P Q { a with defers := { target := .collected M, args := #[] } :: a.defers } W) :
    (Code.rangeFunc g ps assign body).wp P Q a w := by
  refine (wpIn_wide (n := 0)).1 ?_
  refine wpIn_rangeFunc ?_
  intro fn hfn
  obtain ⟨rec, hrec⟩ : ∃ rec : LoopState → Option Code → Loop, rec = fun st pe => { state := st, pending := pe, fn, tmps := a.tmps, params := ps, assign, body, defers := w.heap.size } := ⟨_, rfl⟩
  obtain ⟨W1, hW1⟩ : ∃ W1, (w.alloc (.deferred (some []))).alloc (.loop (rec .ready none)) = W1 := ⟨_, rfl⟩
  have hL1 : W1.heap[w.heap.size + 1]? = some (.loop (rec .ready none)) := by
    rw [← hW1]; have := World.alloc_heap_new (w.alloc (.deferred (some []))) (.loop (rec .ready none)); rwa [World.size_alloc] at this
  have hK1 : W1.heap[w.heap.size]? = some (.deferred (some [])) := by
    rw [← hW1]; exact (Below.heap_alloc _ _ _ (by simp)).trans (World.alloc_heap_new w _)
  have hE1 : Ext w W1 := by rw [← hW1]; exact ((Ext.refl w).alloc _).alloc _
  have hI1 : J 0 O0 W1 := hJ 0 _ _ _ _ h0 (OffC.of_off (Off.of_ext hE1)) (Grow.same hO0 hE1.size)
  have hn0 : ¬ O0 w.heap.size := fun h => Nat.lt_irrefl _ (hO0 _ h)
  have hn1 : ¬ O0 (w.heap.size + 1) := fun h => by have := hO0 _ h; omega
  refine ⟨w.heap.size + 1, [{ target := .collected w.heap.size, args := #[] }], W1, { target := .fn (.func f) lb, args := #[.func (.yield (w.heap.size + 1)) #[] #[]] }, W1, f,
    #[.func (.yield (w.heap.size + 1)) #[] #[]] ++ lb, W1, ?_, ?_, ?_, ?_, fun h => by simp [Fence.wide] at h, ?_⟩
  · rw [← hW1, hrec]; exact run_enterLoop_outer _ _ _ _ _
  · simp only [resolve, hg]
    simp [go_sem]
  · intro f' _; trivial
  · simp [invoke, go_sem, ef]
  · have grow : ∀ {O O' : Nat → Prop} {W W' : World} {k : Nat}, Grow O O' W W' → k < W.heap.size → ¬ O k → ¬ O' k := fun hG hk hn h => by
      rcases (hG _ h).1 with h1 | h1
      · exact hn h1
      · omega
    refine (hseq (w.heap.size + 1)
      (fun i O W => J i O W ∧ W.heap[w.heap.size + 1]? = some (.loop (rec .ready none)) ∧ W.heap[w.heap.size]? = some (.deferred (some [])) ∧ ¬ O (w.heap.size + 1) ∧ ¬ O w.heap.size)
      (fun O W => ∃ c, Jx c O W ∧ W.heap[w.heap.size + 1]? = some (.loop (rec .done (some c))) ∧ W.heap[w.heap.size]? = some (.deferred (some [])) ∧ ¬ O (w.heap.size + 1) ∧ ¬ O w.heap.size)
      W1 (fun i O W h => hD i O W h.1)
      (fun i O O' W W' h hE hG => ⟨hJ i _ _ _ _ h.1 (OffC.of_off hE) hG, (hE.block _ (lt_of_heap h.2.1) h.2.2.2.1).trans h.2.1, (hE.block _ (lt_of_heap h.2.2.1) h.2.2.2.2).trans h.2.2.1, grow hG (lt_of_heap h.2.1) h.2.2.2.1, grow hG (lt_of_heap h.2.2.1) h.2.2.2.2⟩)
      (fun O O' W W' h hE hG => by
        obtain ⟨c, hc, hl, hk, hn1, hn2⟩ := h
        exact ⟨c, hJx c _ _ _ _ hc (OffC.of_off hE) hG, (hE.block _ (lt_of_heap hl) hn1).trans hl, (hE.block _ (lt_of_heap hk) hn2).trans hk, grow hG (lt_of_heap hl) hn1, grow hG (lt_of_heap hk) hn2⟩)
      ?_ (hI _ hE1) (fun k hk => Nat.lt_of_lt_of_le (hO0 k hk) hE1.size) ⟨hI1, hL1, hK1, hn1, hn0⟩).mono ?_
    · rintro i x O W hin hx ⟨hi, hl, hk, hno1, hno0⟩ hOW
      have hlt : w.heap.size + 1 < W.heap.size := lt_of_heap hl
      have hy := run_yield (P := P) (args := x) hl (by rw [hrec]; exact hps i O x W hin hx)
      rw [hrec] at hy
      refine ⟨fn, _, assign, body, hy, roundIn_of_wpIn hfn ?_⟩
      refine wpIn_mono (round (w.heap.size + 1) i x O W hin hx hi hOW (by omega) hlt) ?_
      rintro e a1 W1' hp
      cases e with
      | normal =>
        obtain ⟨hkf, hbody⟩ := hp
        have hl1 := hkf.f.2 _ _ (by omega) hl rfl
        have hk1 := hkf.f.2 _ _ (Nat.le_refl _) hk rfl
        have hlt1 : w.heap.size + 1 < W1'.heap.size := lt_of_heap hl1
        refine ⟨_, run_beginRound hl1 (by rw [hrec]), ?_⟩
        have hl2 : (W1'.putObj (w.heap.size + 1) (.loop { rec .ready none with state := .busy })).heap[w.heap.size + 1]? = some (.loop { rec .ready none with state := .busy }) := World.putObj_heap_same hlt1
        have hk2 : (W1'.putObj (w.heap.size + 1) (.loop { rec .ready none with state := .busy })).heap[w.heap.size]? = some (.deferred (some [])) := (World.putObj_heap_other (by omega)).trans hk1
        refine wpIn_mono (hbody _ (Chg.putObj _ hl1 rfl (by omega)) (KO.putObj hno1 _)) ?_
        have fin : ∀ (jump : Option Code) (W3 : World), KFO w.heap.size O (W1'.putObj (w.heap.size + 1) (.loop { rec .ready none with state := .busy })) W3 →
            (Instr.endRound (w.heap.size + 1) jump).run P W3 = .ok (.bool jump.isNone) (W3.putObj (w.heap.size + 1) (.loop (rec (if jump.isNone then .ready else .done) jump))) ∧
            W3.heap[w.heap.size + 1]? = some (.loop { rec .ready none with state := .busy }) ∧
            (W3.putObj (w.heap.size + 1) (.loop (rec (if jump.isNone then .ready else .done) jump))).heap[w.heap.size + 1]? = some (.loop (rec (if jump.isNone then .ready else .done) jump)) ∧
            (W3.putObj (w.heap.size + 1) (.loop (rec (if jump.isNone then .ready else .done) jump))).heap[w.heap.size]? = some (.deferred (some [])) ∧
            (KO O W (W3.putObj (w.heap.size + 1) (.loop (rec (if jump.isNone then .ready else .done) jump))) ∧ W.heap.size ≤ (W3.putObj (w.heap.size + 1) (.loop (rec (if jump.isNone then .ready else .done) jump))).heap.size) := fun jump W3 hk3 => by
          have hl3 := hk3.f.2 _ _ (by omega) hl2 rfl
          have := run_endRound (P := P) jump hl3
          rw [hrec] at this ⊢
          refine ⟨this, by rw [hrec] at hl3; exact hl3, World.putObj_heap_same (lt_of_heap hl3), (World.putObj_heap_other (by omega)).trans (hk3.f.2 _ _ (Nat.le_refl _) hk2 rfl), fun k hk => ?_, ?_⟩
          · exact (((KO.putObj hno1 _) k hk).trans (hk3.o k hk)).trans (((KO.putObj hno1 _) k hk).trans (hkf.o k hk))
          · have h1 := hkf.f.1
            have h2 := hk3.f.1
            simp at h2 ⊢
            omega
        rintro e a3 W3 hp
        cases e with
        | normal =>
          obtain ⟨hk3, hi3⟩ := hp
          obtain ⟨hr, hl3, hl4, hk4, hko⟩ := fin none W3 hk3
          refine ⟨_, _, hr, hko, .inl ⟨rfl, hJ _ _ _ _ _ hi3 (OffC.of_chg (Chg.putObj _ hl3 rfl (by omega))) (Grow.same (fun k hk => ?_) (by simp)), hl4, hk4, hno1, hno0⟩⟩
          have := hOW k hk; have h1 := hkf.f.1; have h2 := hk3.f.1; simp at h2; omega
        | ret =>
          obtain ⟨hk3, hi3⟩ := hp
          obtain ⟨hr, hl3, hl4, hk4, hko⟩ := fin (some .ret) W3 hk3
          refine ⟨_, _, hr, hko, .inr ⟨rfl, .ret, hJx _ _ _ _ _ hi3 (OffC.of_chg (Chg.putObj _ hl3 rfl (by omega))) (Grow.same (fun k hk => ?_) (by simp)), hl4, hk4, hno1, hno0⟩⟩
          have := hOW k hk; have h1 := hkf.f.1; have h2 := hk3.f.1; simp at h2; omega
        | exit id =>
          obtain ⟨hk3, hi3⟩ := hp
          obtain ⟨hr, hl3, hl4, hk4, hko⟩ := fin (some (.exit id)) W3 hk3
          refine ⟨_, _, hr, hko, .inr ⟨rfl, .exit id, hJx _ _ _ _ _ hi3 (OffC.of_chg (Chg.putObj _ hl3 rfl (by omega))) (Grow.same (fun k hk => ?_) (by simp)), hl4, hk4, hno1, hno0⟩⟩
          have := hOW k hk; have h1 := hkf.f.1; have h2 := hk3.f.1; simp at h2; omega
        | goto t =>
          obtain ⟨hk3, hi3⟩ := hp
          obtain ⟨hr, hl3, hl4, hk4, hko⟩ := fin (some (.goto t)) W3 hk3
          refine ⟨_, _, hr, hko, .inr ⟨rfl, .goto t, hJx _ _ _ _ _ hi3 (OffC.of_chg (Chg.putObj _ hl3 rfl (by omega))) (Grow.same (fun k hk => ?_) (by simp)), hl4, hk4, hno1, hno0⟩⟩
          have := hOW k hk; have h1 := hkf.f.1; have h2 := hk3.f.1; simp at h2; omega
        | panic ch => exact hp.elim
        | outgrown => exact hp.elim
      | exit id => exact hp.elim
      | goto t => exact hp.elim
      | ret => exact hp.elim
      | panic ch => exact hp.elim
      | outgrown => exact hp.elim
    · rintro e W2 ⟨⟨v, rfl⟩, O', (⟨hi, hl, hk, hn1, hn0⟩ | ⟨c, hi, hl, hk, hn1, hn0⟩)⟩
      · have hc : Chg w.heap.size W2 (W2.putObj (w.heap.size + 1) (.loop { rec .ready none with state := .exhausted })) := Chg.putObj _ hl rfl (by omega)
        exact ⟨none, _, by have := run_endLoop (P := P) hl (by rw [hrec]; simp); rw [hrec] at this; exact this, done _ (fun _ => False) _ (hJ _ _ _ _ _ hi (OffC.of_chg (by rw [hrec] at hc; exact hc)) (fun k hk => hk.elim)) (Nat.le_refl _) ((World.putObj_heap_other (by omega)).trans hk)⟩
      · have hc : Chg w.heap.size W2 (W2.putObj (w.heap.size + 1) (.loop { rec .done (some c) with state := .exhausted })) := Chg.putObj _ hl rfl (by omega)
        exact ⟨some c, _, by have := run_endLoop (P := P) hl (by rw [hrec]; simp); rw [hrec] at this; exact this, (wpIn_wide (n := 0)).2 (jump _ c (fun _ => False) _ (hJx c _ _ _ _ hi (OffC.of_chg (by rw [hrec] at hc; exact hc)) (fun k hk => hk.elim)) (Nat.le_refl _) ((World.putObj_heap_other (by omega)).trans hk))⟩

theorem wp_rangeO {P : Program} {g : Operand} {ps : Array Tmp} {assign body : Code} {Q : Exit → Act → World → Prop} {a : Act} {w : World} {f : Nat} {lb : Array Value} {Init D : World → Prop} {O0 : Nat → Prop} {xs : List (Array Value)}
    (hg : a.eval g = .func (.func f) #[] lb) (ef : ∀ args w, (callFunc f args).run P w = .ok (.enter f args) w) (hseq : SeqO P f lb Init O0 D xs) (hps : ∀ x ∈ xs, x.size = ps.size)
    (J : Nat → (Nat → Prop) → World → Prop) (Jx : Code → (Nat → Prop) → World → Prop) (hD : ∀ i O W, J i O W → D W) (hJ : ∀ i, RelyC w.heap.size (J i)) (hJx : ∀ c, RelyC w.heap.size (Jx c))
    (hI : ∀ W, Ext w W → Init W) (hO0 : ∀ k, O0 k → k < w.heap.size) (h0 : J 0 O0 w)
    (round : ∀ l i x O W, xs[i]? = some x → J i O W → (∀ k, O k → k < W.heap.size) → w.heap.size ≤ l → l < W.heap.size →
      assign.wpIn (Fence.wide.inRound l) 0 P (asgPostO P l w.heap.size O W body (J (i + 1) O) (fun c => Jx c O)) { tmps := (ps.zip x).foldl (fun t (p, v) => t.setIfInBounds p v) a.tmps, defers := [] } W)
    (done : ∀ M O W, J xs.length O W → w.heap.size ≤ M → W.heap[M]? = some (.deferred (some [])) → Q .normal { a with defers := { target := .collected M, args := #[] } :: a.defers } W)
    (jump : ∀ M c O W, Jx c O W → w.heap.size ≤ M → W.heap[M]? = some (.deferred (some [])) → c.wp P Q { a with defers := { target := .collected M, args := #[] } :: a.defers } W) :
    (Code.rangeFunc g ps assign body).wp P Q a w :=
  wp_rangeX hg ef hseq (fun i _ x _ _ hx => hps x (List.mem_iff_getElem?.2 ⟨i, hx⟩)) J Jx hD hJ hJx hI hO0 h0 (fun l i x O W _ hx => round l i x O W hx) done jump

theorem Ext.offc {w W W' : World} {B : Nat} {O : Nat → Prop} (h : Ext w W) (hc : OffC B O W W') (hB : w.heap.size ≤ B) (hO : ∀ k, O k → w.heap.size ≤ k) : Ext w W' :=
  ⟨⟨hc.os.trans h.b.os, hc.tape.trans h.b.tape, hc.output.trans h.b.output, Nat.le_trans h.b.size hc.size, fun k hk => (hc.low k (by omega) (Nat.lt_of_lt_of_le hk h.b.size) (fun h1 => by have := hO k h1; omega)).trans (h.b.block k hk)⟩⟩
theorem cell_offc {B : Nat} {O : Nat → Prop} {W W' : World} (hc : OffC B O W W') {a : Addr} {u : Value} (hO : ¬ O a.block) (h : W.cell? a = some u) : W'.cell? a = some u := by
  have hh := h
  unfold World.cell? at hh
  split at hh
  · rename_i cs t fr hb
    rw [World.cell?_of_block (show W'.heap[a.block]? = W.heap[a.block]? by rw [hc.cells _ _ _ _ hb hO, hb])]
    exact h
  all_goals cases hh
theorem Own.offc {α : Type} {enc : α → List Value} {size : Nat} {w W : World} {base B : Nat} {O : Nat → Prop} {e : TypeId} {v : Value} {l : List α} (h : Own enc size w base e v l) (hc : OffC B O w W) (hO : ∀ g cap, v = .slice (some ⟨g, 0, none⟩) l.length cap → ¬ O g) : Own enc size W base e v l := by
  refine ⟨h.1, h.2.1, ?_⟩
  rcases h.2.2 with h2 | ⟨g, cap, cur, h1, h2, h3, h4⟩
  · exact .inl h2
  · exact .inr ⟨g, cap, cur, h1, h2, hc.cells _ _ _ _ h3 (hO g cap h1), h4⟩
end Go.Proofs.Ytnhgdjiljjpgmaa

namespace Go.Proofs.Ytnhgdjiljjpgmaa
open Go.RowKit

/-- asgPostO, and the record of the loop. -/
def asgPostN (P : Program) (l B : Nat) (O : Nat → Prop) (W : World) (body : Code) (J : World → Prop) (Jx : Code → World → Prop) : Exit → Act → World → Prop :=
  Exit.then (fun a₁ W₁ => KFO B O W W₁ ∧ ∀ W₂, Chg B W₁ W₂ → KO O W₁ W₂ → (∃ r, W₂.heap[l]? = some (.loop r)) → body.wpIn (Fence.wide.inRound l) 0 P (rndPostO B O W₂ J Jx) a₁ W₂) (fun _ _ _ => False)

theorem wp_rangeN {P : Program} {g : Operand} {ps : Array Tmp} {assign body : Code} {Q : Exit → Act → World → Prop} {a : Act} {w : World} {f : Nat} {lb : Array Value} {Init D : World → Prop} {O0 : Nat → Prop} {n : Nat} {X : Nat → (Nat → Prop) → Array Value → World → Prop}
    (hg : a.eval g = .func (.func f) #[] lb) (ef : ∀ args w, (callFunc f args).run P w = .ok (.enter f args) w) (hseq : SeqX P f lb Init O0 D n X) (hps : ∀ i O x W, i < n → X i O x W → x.size = ps.size)
    (J : Nat → (Nat → Prop) → World → Prop) (Jx : Code → (Nat → Prop) → World → Prop) (hD : ∀ i O W, J i O W → D W) (hJ : ∀ i, RelyC w.heap.size (J i)) (hJx : ∀ c, RelyC w.heap.size (Jx c))
    (hI : ∀ W, Ext w W → Init W) (hO0 : ∀ k, O0 k → k < w.heap.size) (h0 : J 0 O0 w)
    (round : ∀ l i x O W, i < n → X i O x W → J i O W → (∀ k, O k → k < W.heap.size) → w.heap.size ≤ l → l < W.heap.size →
      assign.wpIn (Fence.wide.inRound l) 0 P (asgPostN P l w.heap.size O W body (J (i + 1) O) (fun c => Jx c O)) { tmps := (ps.zip x).foldl (fun t (p, v) => t.setIfInBounds p v) a.tmps, defers := [] } W)
    (done : ∀ M O W, J n O W → w.heap.size ≤ M → W.heap[M]? = some (.deferred (some [])) → Q .normal { a with defers := { target := .collected M, args := #[] } :: a.defers } W)
    (jump : ∀ M c O W, Jx c O W → w.heap.size ≤ M → W.heap[M]? = some (.deferred (some [])) → c.wp P Q { a with defers := { target := .collected M, args := #[] } :: a.defers } W) :
    (Code.rangeFunc g ps assign body).wp P Q a w := by
  refine (wpIn_wide (n := 0)).1 ?_
  refine wpIn_rangeFunc ?_
  intro fn hfn
  obtain ⟨rec, hrec⟩ : ∃ rec : LoopState → Option Code → Loop, rec = fun st pe => { state := st, pending := pe, fn, tmps := a.tmps, params := ps, assign, body, defers := w.heap.size } := ⟨_, rfl⟩
  obtain ⟨W1, hW1⟩ : ∃ W1, (w.alloc (.deferred (some []))).alloc (.loop (rec .ready none)) = W1 := ⟨_, rfl⟩
  have hL1 : W1.heap[w.heap.size + 1]? = some (.loop (rec .ready none)) := by
    rw [← hW1]; have := World.alloc_heap_new (w.alloc (.deferred (some []))) (.loop (rec .ready none)); rwa [World.size_alloc] at this
  have hK1 : W1.heap[w.heap.size]? = some (.deferred (some [])) := by
    rw [← hW1]; exact (Below.heap_alloc _ _ _ (by simp)).trans (World.alloc_heap_new w _)
  have hE1 : Ext w W1 := by rw [← hW1]; exact ((Ext.refl w).alloc _).alloc _
  have hI1 : J 0 O0 W1 := hJ 0 _ _ _ _ h0 (OffC.of_off (Off.of_ext hE1)) (Grow.same hO0 hE1.size)
  have hn0 : ¬ O0 w.heap.size := fun h => Nat.lt_irrefl _ (hO0 _ h)
  have hn1 : ¬ O0 (w.heap.size + 1) := fun h => by have := hO0 _ h; omega
  refine ⟨w.heap.size + 1, [{ target := .collected w.heap.size, args := #[] }], W1, { target := .fn (.func f) lb, args := #[.func (.yield (w.heap.size + 1)) #[] #[]] }, W1, f,
    #[.func (.yield (w.heap.size + 1)) #[] #[]] ++ lb, W1, ?_, ?_, ?_, ?_, fun h => by simp [Fence.wide] at h, ?_⟩
  · rw [← hW1, hrec]; exact run_enterLoop_outer _ _ _ _ _
  · simp only [resolve, hg]
    simp [go_sem]
  · intro f' _; trivial
  · simp [invoke, go_sem, ef]
  · have grow : ∀ {O O' : Nat → Prop} {W W' : World} {k : Nat}, Grow O O' W W' → k < W.heap.size → ¬ O k → ¬ O' k := fun hG hk hn h => by
      rcases (hG _ h).1 with h1 | h1
      · exact hn h1
      · omega
    refine (hseq (w.heap.size + 1)
      (fun i O W => J i O W ∧ W.heap[w.heap.size + 1]? = some (.loop (rec .ready none)) ∧ W.heap[w.heap.size]? = some (.deferred (some [])) ∧ ¬ O (w.heap.size + 1) ∧ ¬ O w.heap.size)
      (fun O W => ∃ c, Jx c O W ∧ W.heap[w.heap.size + 1]? = some (.loop (rec .done (some c))) ∧ W.heap[w.heap.size]? = some (.deferred (some [])) ∧ ¬ O (w.heap.size + 1) ∧ ¬ O w.heap.size)
      W1 (fun i O W h => hD i O W h.1)
      (fun i O O' W W' h hE hG => ⟨hJ i _ _ _ _ h.1 (OffC.of_off hE) hG, (hE.block _ (lt_of_heap h.2.1) h.2.2.2.1).trans h.2.1, (hE.block _ (lt_of_heap h.2.2.1) h.2.2.2.2).trans h.2.2.1, grow hG (lt_of_heap h.2.1) h.2.2.2.1, grow hG (lt_of_heap h.2.2.1) h.2.2.2.2⟩)
      (fun O O' W W' h hE hG => by
        obtain ⟨c, hc, hl, hk, hn1, hn2⟩ := h
        exact ⟨c, hJx c _ _ _ _ hc (OffC.of_off hE) hG, (hE.block _ (lt_of_heap hl) hn1).trans hl, (hE.block _ (lt_of_heap hk) hn2).trans hk, grow hG (lt_of_heap hl) hn1, grow hG (lt_of_heap hk) hn2⟩)
      ?_ (hI _ hE1) (fun k hk => Nat.lt_of_lt_of_le (hO0 k hk) hE1.size) ⟨hI1, hL1, hK1, hn1, hn0⟩).mono ?_
    · rintro i x O W hin hx ⟨hi, hl, hk, hno1, hno0⟩ hOW
      have hlt : w.heap.size + 1 < W.heap.size := lt_of_heap hl
      have hy := run_yield (P := P) (args := x) hl (by rw [hrec]; exact hps i O x W hin hx)
      rw [hrec] at hy
      refine ⟨fn, _, assign, body, hy, roundIn_of_wpIn hfn ?_⟩
      refine wpIn_mono (round (w.heap.size + 1) i x O W hin hx hi hOW (by omega) hlt) ?_
      rintro e a1 W1' hp
      cases e with
      | normal =>
        obtain ⟨hkf, hbody⟩ := hp
        have hl1 := hkf.f.2 _ _ (by omega) hl rfl
        have hk1 := hkf.f.2 _ _ (Nat.le_refl _) hk rfl
        have hlt1 : w.heap.size + 1 < W1'.heap.size := lt_of_heap hl1
        refine ⟨_, run_beginRound hl1 (by rw [hrec]), ?_⟩
        have hl2 : (W1'.putObj (w.heap.size + 1) (.loop { rec .ready none with state := .busy })).heap[w.heap.size + 1]? = some (.loop { rec .ready none with state := .busy }) := World.putObj_heap_same hlt1
        have hk2 : (W1'.putObj (w.heap.size + 1) (.loop { rec .ready none with state := .busy })).heap[w.heap.size]? = some (.deferred (some [])) := (World.putObj_heap_other (by omega)).trans hk1
        refine wpIn_mono (hbody _ (Chg.putObj _ hl1 rfl (by omega)) (KO.putObj hno1 _) ⟨_, hl2⟩) ?_
        have fin : ∀ (jump : Option Code) (W3 : World), KFO w.heap.size O (W1'.putObj (w.heap.size + 1) (.loop { rec .ready none with state := .busy })) W3 →
            (Instr.endRound (w.heap.size + 1) jump).run P W3 = .ok (.bool jump.isNone) (W3.putObj (w.heap.size + 1) (.loop (rec (if jump.isNone then .ready else .done) jump))) ∧
            W3.heap[w.heap.size + 1]? = some (.loop { rec .ready none with state := .busy }) ∧
            (W3.putObj (w.heap.size + 1) (.loop (rec (if jump.isNone then .ready else .done) jump))).heap[w.heap.size + 1]? = some (.loop (rec (if jump.isNone then .ready else .done) jump)) ∧
            (W3.putObj (w.heap.size + 1) (.loop (rec (if jump.isNone then .ready else .done) jump))).heap[w.heap.size]? = some (.deferred (some [])) ∧
            (KO O W (W3.putObj (w.heap.size + 1) (.loop (rec (if jump.isNone then .ready else .done) jump))) ∧ W.heap.size ≤ (W3.putObj (w.heap.size + 1) (.loop (rec (if jump.isNone then .ready else .done) jump))).heap.size) := fun jump W3 hk3 => by
          have hl3 := hk3.f.2 _ _ (by omega) hl2 rfl
          have := run_endRound (P := P) jump hl3
          rw [hrec] at this ⊢
          refine ⟨this, by rw [hrec] at hl3; exact hl3, World.putObj_heap_same (lt_of_heap hl3), (World.putObj_heap_other (by omega)).trans (hk3.f.2 _ _ (Nat.le_refl _) hk2 rfl), fun k hk => ?_, ?_⟩
          · exact (((KO.putObj hno1 _) k hk).trans (hk3.o k hk)).trans (((KO.putObj hno1 _) k hk).trans (hkf.o k hk))
          · have h1 := hkf.f.1
            have h2 := hk3.f.1
            simp at h2 ⊢
            omega
        rintro e a3 W3 hp
        cases e with
        | normal =>
          obtain ⟨hk3, hi3⟩ := hp
          obtain ⟨hr, hl3, hl4, hk4, hko⟩ := fin none W3 hk3
          refine ⟨_, _, hr, hko, .inl ⟨rfl, hJ _ _ _ _ _ hi3 (OffC.of_chg (Chg.putObj _ hl3 rfl (by omega))) (Grow.same (fun k hk => ?_) (by simp)), hl4, hk4, hno1, hno0⟩⟩
          have := hOW k hk; have h1 := hkf.f.1; have h2 := hk3.f.1; simp at h2; omega
        | ret =>
          obtain ⟨hk3, hi3⟩ := hp
          obtain ⟨hr, hl3, hl4, hk4, hko⟩ := fin (some .ret) W3 hk3
          refine ⟨_, _, hr, hko, .inr ⟨rfl, .ret, hJx _ _ _ _ _ hi3 (OffC.of_chg (Chg.putObj _ hl3 rfl (by omega))) (Grow.same (fun k hk => ?_) (by simp)), hl4, hk4, hno1, hno0⟩⟩
          have := hOW k hk; have h1 := hkf.f.1; have h2 := hk3.f.1; simp at h2; omega
        | exit id =>
          obtain ⟨hk3, hi3⟩ := hp
          obtain ⟨hr, hl3, hl4, hk4, hko⟩ := fin (some (.exit id)) W3 hk3
          refine ⟨_, _, hr, hko, .inr ⟨rfl, .exit id, hJx _ _ _ _ _ hi3 (OffC.of_chg (Chg.putObj _ hl3 rfl (by omega))) (Grow.same (fun k hk => ?_) (by simp)), hl4, hk4, hno1, hno0⟩⟩
          have := hOW k hk; have h1 := hkf.f.1; have h2 := hk3.f.1; simp at h2; omega
        | goto t =>
          obtain ⟨hk3, hi3⟩ := hp
          obtain ⟨hr, hl3, hl4, hk4, hko⟩ := fin (some (.goto t)) W3 hk3
          refine ⟨_, _, hr, hko, .inr ⟨rfl, .goto t, hJx _ _ _ _ _ hi3 (OffC.of_chg (Chg.putObj _ hl3 rfl (by omega))) (Grow.same (fun k hk => ?_) (by simp)), hl4, hk4, hno1, hno0⟩⟩
          have := hOW k hk; have h1 := hkf.f.1; have h2 := hk3.f.1; simp at h2; omega
        | panic ch => exact hp.elim
        | outgrown => exact hp.elim
      | exit id => exact hp.elim
      | goto t => exact hp.elim
      | ret => exact hp.elim
      | panic ch => exact hp.elim
      | outgrown => exact hp.elim
    · rintro e W2 ⟨⟨v, rfl⟩, O', (⟨hi, hl, hk, hn1, hn0⟩ | ⟨c, hi, hl, hk, hn1, hn0⟩)⟩
      · have hc : Chg w.heap.size W2 (W2.putObj (w.heap.size + 1) (.loop { rec .ready none with state := .exhausted })) := Chg.putObj _ hl rfl (by omega)
        exact ⟨none, _, by have := run_endLoop (P := P) hl (by rw [hrec]; simp); rw [hrec] at this; exact this, done _ (fun _ => False) _ (hJ _ _ _ _ _ hi (OffC.of_chg (by rw [hrec] at hc; exact hc)) (fun k hk => hk.elim)) (Nat.le_refl _) ((World.putObj_heap_other (by omega)).trans hk)⟩
      · have hc : Chg w.heap.size W2 (W2.putObj (w.heap.size + 1) (.loop { rec .done (some c) with state := .exhausted })) := Chg.putObj _ hl rfl (by omega)
        exact ⟨some c, _, by have := run_endLoop (P := P) hl (by rw [hrec]; simp); rw [hrec] at this; exact this, (wpIn_wide (n := 0)).2 (jump _ c (fun _ => False) _ (hJx c _ _ _ _ hi (OffC.of_chg (by rw [hrec] at hc; exact hc)) (fun k hk => hk.elim)) (Nat.le_refl _) ((World.putObj_heap_other (by omega)).trans hk))⟩

theorem wpIn_rangeN {P : Program} {g : Operand} {ps : Array Tmp} {assign body : Code} {Q : Exit → Act → World → Prop} {a : Act} {w : World} {f : Nat} {lb : Array Value} {Init D : World → Prop} {O0 : Nat → Prop} {n : Nat} {l₀ : Nat} {X : Nat → (Nat → Prop) → Array Value → World → Prop}
    (hl₀ : ∃ r, w.heap[l₀]? = some (.loop r)) (hg : a.eval g = .func (.func f) #[] lb) (ef : ∀ args w, (callFunc f args).run P w = .ok (.enter f args) w) (hseq : SeqX P f lb Init O0 D n X) (hps : ∀ i O x W, i < n → X i O x W → x.size = ps.size)
    (J : Nat → (Nat → Prop) → World → Prop) (Jx : Code → (Nat → Prop) → World → Prop) (hD : ∀ i O W, J i O W → D W) (hJ : ∀ i, RelyC w.heap.size (J i)) (hJx : ∀ c, RelyC w.heap.size (Jx c))
    (hI : ∀ W, Ext w W → Init W) (hO0 : ∀ k, O0 k → k < w.heap.size) (h0 : J 0 O0 w)
    (round : ∀ l i x O W, i < n → X i O x W → J i O W → (∀ k, O k → k < W.heap.size) → w.heap.size ≤ l → l < W.heap.size →
      assign.wpIn (Fence.wide.inRound l) 0 P (asgPostN P l w.heap.size O W body (J (i + 1) O) (fun c => Jx c O)) { tmps := (ps.zip x).foldl (fun t (p, v) => t.setIfInBounds p v) a.tmps, defers := [] } W)
    (done : ∀ O W, J n O W → Q .normal a W)
    (jump : ∀ c O W, Jx c O W → c.wpIn (Fence.wide.inRound l₀) 0 P Q a W) :
    (Code.rangeFunc g ps assign body).wpIn (Fence.wide.inRound l₀) 0 P Q a w := by
  obtain ⟨r₀, hr₀⟩ := hl₀
  refine wpIn_rangeFunc ?_
  intro fn hfn
  obtain ⟨rec, hrec⟩ : ∃ rec : LoopState → Option Code → Loop, rec = fun st pe => { state := st, pending := pe, fn, tmps := a.tmps, params := ps, assign, body, defers := r₀.defers } := ⟨_, rfl⟩
  obtain ⟨W1, hW1⟩ : ∃ W1, w.alloc (.loop (rec .ready none)) = W1 := ⟨_, rfl⟩
  have hL1 : W1.heap[w.heap.size]? = some (.loop (rec .ready none)) := by rw [← hW1]; exact World.alloc_heap_new w _
  have hE1 : Ext w W1 := by rw [← hW1]; exact (Ext.refl w).alloc _
  have hI1 : J 0 O0 W1 := hJ 0 _ _ _ _ h0 (OffC.of_off (Off.of_ext hE1)) (Grow.same hO0 hE1.size)
  have hn0 : ¬ O0 w.heap.size := fun h => Nat.lt_irrefl _ (hO0 _ h)
  refine ⟨w.heap.size, [], W1, { target := .fn (.func f) lb, args := #[.func (.yield w.heap.size) #[] #[]] }, W1, f,
    #[.func (.yield w.heap.size) #[] #[]] ++ lb, W1, ?_, ?_, ?_, ?_, fun h => by simp [Fence.wide, Fence.inRound] at h, ?_⟩
  · rw [← hW1, hrec]; exact run_enterLoop_inner hr₀ _ _ _ _ _
  · simp only [resolve, hg]
    simp [go_sem]
  · intro f' _; trivial
  · simp [invoke, go_sem, ef]
  · have grow : ∀ {O O' : Nat → Prop} {W W' : World} {k : Nat}, Grow O O' W W' → k < W.heap.size → ¬ O k → ¬ O' k := fun hG hk hn h => by
      rcases (hG _ h).1 with h1 | h1
      · exact hn h1
      · omega
    refine (CallsIn.inRound l₀ (hseq (w.heap.size)
      (fun i O W => J i O W ∧ W.heap[w.heap.size]? = some (.loop (rec .ready none)) ∧ ¬ O (w.heap.size))
      (fun O W => ∃ c, Jx c O W ∧ W.heap[w.heap.size]? = some (.loop (rec .done (some c))) ∧ ¬ O (w.heap.size))
      W1 (fun i O W h => hD i O W h.1)
      (fun i O O' W W' h hE hG => ⟨hJ i _ _ _ _ h.1 (OffC.of_off hE) hG, (hE.block _ (lt_of_heap h.2.1) h.2.2).trans h.2.1, grow hG (lt_of_heap h.2.1) h.2.2⟩)
      (fun O O' W W' h hE hG => by
        obtain ⟨c, hc, hl, hn1⟩ := h
        exact ⟨c, hJx c _ _ _ _ hc (OffC.of_off hE) hG, (hE.block _ (lt_of_heap hl) hn1).trans hl, grow hG (lt_of_heap hl) hn1⟩)
      ?_ (hI _ hE1) (fun k hk => Nat.lt_of_lt_of_le (hO0 k hk) hE1.size) ⟨hI1, hL1, hn0⟩)).mono ?_
    · rintro i x O W hin hx ⟨hi, hl, hno1⟩ hOW
      have hlt : w.heap.size < W.heap.size := lt_of_heap hl
      have hy := run_yield (P := P) (args := x) hl (by rw [hrec]; exact hps i O x W hin hx)
      rw [hrec] at hy
      refine ⟨fn, _, assign, body, hy, roundIn_of_wpIn hfn ?_⟩
      refine wpIn_mono (round (w.heap.size) i x O W hin hx hi hOW (by omega) hlt) ?_
      rintro e a1 W1' hp
      cases e with
      | normal =>
        obtain ⟨hkf, hbody⟩ := hp
        have hl1 := hkf.f.2 _ _ (by omega) hl rfl
        have hlt1 : w.heap.size < W1'.heap.size := lt_of_heap hl1
        refine ⟨_, run_beginRound hl1 (by rw [hrec]), ?_⟩
        have hl2 : (W1'.putObj (w.heap.size) (.loop { rec .ready none with state := .busy })).heap[w.heap.size]? = some (.loop { rec .ready none with state := .busy }) := World.putObj_heap_same hlt1
        refine wpIn_mono (hbody _ (Chg.putObj _ hl1 rfl (by omega)) (KO.putObj hno1 _) ⟨_, hl2⟩) ?_
        have fin : ∀ (jump : Option Code) (W3 : World), KFO w.heap.size O (W1'.putObj (w.heap.size) (.loop { rec .ready none with state := .busy })) W3 →
            (Instr.endRound (w.heap.size) jump).run P W3 = .ok (.bool jump.isNone) (W3.putObj (w.heap.size) (.loop (rec (if jump.isNone then .ready else .done) jump))) ∧
            W3.heap[w.heap.size]? = some (.loop { rec .ready none with state := .busy }) ∧
            (W3.putObj (w.heap.size) (.loop (rec (if jump.isNone then .ready else .done) jump))).heap[w.heap.size]? = some (.loop (rec (if jump.isNone then .ready else .done) jump)) ∧
            (KO O W (W3.putObj (w.heap.size) (.loop (rec (if jump.isNone then .ready else .done) jump))) ∧ W.heap.size ≤ (W3.putObj (w.heap.size) (.loop (rec (if jump.isNone then .ready else .done) jump))).heap.size) := fun jump W3 hk3 => by
          have hl3 := hk3.f.2 _ _ (by omega) hl2 rfl
          have := run_endRound (P := P) jump hl3
          rw [hrec] at this ⊢
          refine ⟨this, by rw [hrec] at hl3; exact hl3, World.putObj_heap_same (lt_of_heap hl3), fun k hk => ?_, ?_⟩
          · exact (((KO.putObj hno1 _) k hk).trans (hk3.o k hk)).trans (((KO.putObj hno1 _) k hk).trans (hkf.o k hk))
          · have h1 := hkf.f.1
            have h2 := hk3.f.1
            simp at h2 ⊢
            omega
        rintro e a3 W3 hp
        cases e with
        | normal =>
          obtain ⟨hk3, hi3⟩ := hp
          obtain ⟨hr, hl3, hl4, hko⟩ := fin none W3 hk3
          refine ⟨_, _, hr, hko, .inl ⟨rfl, hJ _ _ _ _ _ hi3 (OffC.of_chg (Chg.putObj _ hl3 rfl (by omega))) (Grow.same (fun k hk => ?_) (by simp)), hl4, hno1⟩⟩
          have := hOW k hk; have h1 := hkf.f.1; have h2 := hk3.f.1; simp at h2; omega
        | ret =>
          obtain ⟨hk3, hi3⟩ := hp
          obtain ⟨hr, hl3, hl4, hko⟩ := fin (some .ret) W3 hk3
          refine ⟨_, _, hr, hko, .inr ⟨rfl, .ret, hJx _ _ _ _ _ hi3 (OffC.of_chg (Chg.putObj _ hl3 rfl (by omega))) (Grow.same (fun k hk => ?_) (by simp)), hl4, hno1⟩⟩
          have := hOW k hk; have h1 := hkf.f.1; have h2 := hk3.f.1; simp at h2; omega
        | exit id =>
          obtain ⟨hk3, hi3⟩ := hp
          obtain ⟨hr, hl3, hl4, hko⟩ := fin (some (.exit id)) W3 hk3
          refine ⟨_, _, hr, hko, .inr ⟨rfl, .exit id, hJx _ _ _ _ _ hi3 (OffC.of_chg (Chg.putObj _ hl3 rfl (by omega))) (Grow.same (fun k hk => ?_) (by simp)), hl4, hno1⟩⟩
          have := hOW k hk; have h1 := hkf.f.1; have h2 := hk3.f.1; simp at h2; omega
        | goto t =>
          obtain ⟨hk3, hi3⟩ := hp
          obtain ⟨hr, hl3, hl4, hko⟩ := fin (some (.goto t)) W3 hk3
          refine ⟨_, _, hr, hko, .inr ⟨rfl, .goto t, hJx _ _ _ _ _ hi3 (OffC.of_chg (Chg.putObj _ hl3 rfl (by omega))) (Grow.same (fun k hk => ?_) (by simp)), hl4, hno1⟩⟩
          have := hOW k hk; have h1 := hkf.f.1; have h2 := hk3.f.1; simp at h2; omega
        | panic ch => exact hp.elim
        | outgrown => exact hp.elim
      | exit id => exact hp.elim
      | goto t => exact hp.elim
      | ret => exact hp.elim
      | panic ch => exact hp.elim
      | outgrown => exact hp.elim
    · rintro e W2 ⟨⟨v, rfl⟩, O', (⟨hi, hl, hn1⟩ | ⟨c, hi, hl, hn1⟩)⟩
      · have hc : Chg w.heap.size W2 (W2.putObj (w.heap.size) (.loop { rec .ready none with state := .exhausted })) := Chg.putObj _ hl rfl (by omega)
        exact ⟨none, _, by have := run_endLoop (P := P) hl (by rw [hrec]; simp); rw [hrec] at this; exact this, done (fun _ => False) _ (hJ _ _ _ _ _ hi (OffC.of_chg (by rw [hrec] at hc; exact hc)) (fun k hk => hk.elim))⟩
      · have hc : Chg w.heap.size W2 (W2.putObj (w.heap.size) (.loop { rec .done (some c) with state := .exhausted })) := Chg.putObj _ hl rfl (by omega)
        exact ⟨some c, _, by have := run_endLoop (P := P) hl (by rw [hrec]; simp); rw [hrec] at this; exact this, jump c (fun _ => False) _ (hJx c _ _ _ _ hi (OffC.of_chg (by rw [hrec] at hc; exact hc)) (fun k hk => hk.elim))⟩

end Go.Proofs.Ytnhgdjiljjpgmaa
