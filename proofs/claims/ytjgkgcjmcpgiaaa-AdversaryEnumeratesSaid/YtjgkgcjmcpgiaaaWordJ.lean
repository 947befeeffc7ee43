/-
  round.Word: the error of a word.
  Conditions: as each theorem states.
-/
import Derived.Test.YtjgkgcjmcpgiaaaSeq
import Derived.Test.YtjgkgcjmcpgiaaaCheck
namespace Go.Proofs.Ytjgkgcjmcpgiaaa
open Go.RowKit

/-- W' is W but for blocks of O, new blocks, and blocks from B on that are no cells. -/
structure OffC (B : Nat) (O : Nat → Prop) (W W' : World) : Prop where
  os : W'.os = W.os
  tape : W'.tape = W.tape
  output : W'.output = W.output
  size : W.heap.size ≤ W'.heap.size
  low : ∀ k, k < B → k < W.heap.size → ¬ O k → W'.heap[k]? = W.heap[k]?
  cells : ∀ (k : Nat) (c : Array Value) (e : TypeId) (fr : Nat × Nat), W.heap[k]? = some (Obj.cells c e fr) → ¬ O k → W'.heap[k]? = some (Obj.cells c e fr)
theorem OffC.of_chg {B : Nat} {O : Nat → Prop} {W W' : World} (h : Chg B W W') : OffC B O W W' := ⟨h.os, h.tape, h.output, h.size, fun k h1 h2 _ => h.low k h1 h2, fun k c e fr h1 _ => h.cells k c e fr h1⟩
/-- W' is W but for blocks of O and new blocks. -/
structure Off (O : Nat → Prop) (W W' : World) : Prop where
  os : W'.os = W.os
  tape : W'.tape = W.tape
  output : W'.output = W.output
  size : W.heap.size ≤ W'.heap.size
  block : ∀ k, k < W.heap.size → ¬ O k → W'.heap[k]? = W.heap[k]?
theorem Off.of_ext {O : Nat → Prop} {W W' : World} (h : Ext W W') : Off O W W' := ⟨h.b.os, h.b.tape, h.b.output, h.b.size, fun k hk _ => h.b.block k hk⟩
theorem Off.refl (O : Nat → Prop) (W : World) : Off O W W := ⟨rfl, rfl, rfl, Nat.le_refl _, fun _ _ _ => rfl⟩
theorem Off.trans {O : Nat → Prop} {W W' W'' : World} (h : Off O W W') (k : Off O W' W'') : Off O W W'' :=
  ⟨k.os.trans h.os, k.tape.trans h.tape, k.output.trans h.output, Nat.le_trans h.size k.size, fun i h1 h2 => (k.block i (Nat.lt_of_lt_of_le h1 h.size) h2).trans (h.block i h1 h2)⟩
theorem Off.mono {O O' : Nat → Prop} {W W' : World} (h : Off O W W') (hO : ∀ k, k < W.heap.size → O k → O' k) : Off O' W W' := ⟨h.os, h.tape, h.output, h.size, fun k h1 h2 => h.block k h1 fun h3 => h2 (hO k h1 h3)⟩
theorem Off.setCell {O : Nat → Prop} {W W' : World} (h : Off O W W') {a : Addr} (ha : O a.block) (v : Value) : Off O W (W'.setCell a v) :=
  ⟨h.os, h.tape, h.output, by simpa [World.setCell] using h.size, fun k hk hO => (Below.heap_setCell _ _ _ _ (fun he => hO (by rw [he]; exact ha))).trans (h.block k hk hO)⟩
theorem Off.alloc {O : Nat → Prop} {W W' : World} (h : Off O W W') (o : Obj) : Off O W (W'.alloc o) := h.trans (Off.of_ext ((Ext.refl _).alloc o))
theorem OffC.of_off {B : Nat} {O : Nat → Prop} {W W' : World} (h : Off O W W') : OffC B O W W' :=
  ⟨h.os, h.tape, h.output, h.size, fun k _ hk hO => h.block k hk hO, fun k c e fr hh hO => (h.block k (lt_of_heap hh) hO).trans hh⟩
/-- Owned blocks lie as they lay. -/
def KO (O : Nat → Prop) (W W' : World) : Prop := ∀ k, O k → W'.heap[k]? = W.heap[k]?
/-- The owned set grows by new blocks alone. -/
def Grow (O O' : Nat → Prop) (W W' : World) : Prop := ∀ k, O' k → (O k ∨ W.heap.size ≤ k) ∧ k < W'.heap.size
def Rely (J : (Nat → Prop) → World → Prop) : Prop := ∀ O O' W W', J O W → Off O W W' → Grow O O' W W' → J O' W'
def RelyC (B : Nat) (J : (Nat → Prop) → World → Prop) : Prop := ∀ O O' W W', J O W → OffC B O W W' → Grow O O' W W' → J O' W'
theorem Grow.same {O : Nat → Prop} {W W' : World} (h : ∀ k, O k → k < W.heap.size) (hs : W.heap.size ≤ W'.heap.size) : Grow O O W W' := fun k hk => ⟨.inl hk, Nat.lt_of_lt_of_le (h k hk) hs⟩
/-- THE ITERATOR: it yields xs; it owns O0, and what it makes. Init: its blocks when it is called; D: what it reads besides. -/
def SeqO (P : Program) (f : Nat) (lb : Array Value) (Init : World → Prop) (O0 : Nat → Prop) (D : World → Prop) (xs : List (Array Value)) : Prop :=
  ∀ (l : Nat) (J : Nat → (Nat → Prop) → World → Prop) (Jx : (Nat → Prop) → World → Prop) (W : World), (∀ i O W, J i O W → D W) → (∀ i, Rely (J i)) → Rely Jx →
    (∀ i x O W', xs[i]? = some x → J i O W' → (∀ k, O k → k < W'.heap.size) → YieldAt Fence.wide 0 P l x W' fun e W'' => (KO O W' W'' ∧ W'.heap.size ≤ W''.heap.size) ∧ ((e = .returned (.bool true) ∧ J (i + 1) O W'') ∨ (e = .returned (.bool false) ∧ Jx O W''))) →
    Init W → (∀ k, O0 k → k < W.heap.size) → J 0 O0 W → CallsIn Fence.wide 0 P f (#[.func (.yield l) #[] #[]] ++ lb) W fun e W' => (∃ v, e = .returned v) ∧ ∃ O', J xs.length O' W' ∨ Jx O' W'
/-- KF, and the owned blocks. -/
structure KFO (B : Nat) (O : Nat → Prop) (W W' : World) : Prop where
  f : KF B W W'
  o : KO O W W'
theorem KFO.of_ext {B : Nat} {O : Nat → Prop} {W W' : World} (h : Ext W W') (hO : ∀ k, O k → k < W.heap.size) : KFO B O W W' := ⟨KF.of_ext h, fun k hk => h.b.block k (hO k hk)⟩
theorem KFO.trans {B : Nat} {O : Nat → Prop} {W W' W'' : World} (h : KFO B O W W') (k : KFO B O W' W'') : KFO B O W W'' := ⟨h.f.trans k.f, fun i hi => (k.o i hi).trans (h.o i hi)⟩
theorem KFO.setCell {B : Nat} {O : Nat → Prop} (W : World) (a : Addr) (v : Value) (ha : ¬ O a.block) : KFO B O W (W.setCell a v) := ⟨KF.setCell W a v, fun k hk => Below.heap_setCell _ _ _ _ (fun he => ha (by rw [← he]; exact hk))⟩
def rndPostO (B : Nat) (O : Nat → Prop) (W₂ : World) (J : World → Prop) (Jx : Code → World → Prop) : Exit → Act → World → Prop
  | .normal, _, W => KFO B O W₂ W ∧ J W
  | .ret, _, W => KFO B O W₂ W ∧ Jx .ret W
  | .exit id, _, W => KFO B O W₂ W ∧ Jx (.exit id) W
  | .goto t, _, W => KFO B O W₂ W ∧ Jx (.goto t) W
  | _, _, _ => False
def asgPostO (P : Program) (l B : Nat) (O : Nat → Prop) (W : World) (body : Code) (J : World → Prop) (Jx : Code → World → Prop) : Exit → Act → World → Prop :=
  Exit.then (fun a₁ W₁ => KFO B O W W₁ ∧ ∀ W₂, Chg B W₁ W₂ → KO O W₁ W₂ → body.wpIn (Fence.wide.inRound l) 0 P (rndPostO B O W₂ J Jx) a₁ W₂) (fun _ _ _ => False)
theorem KO.putObj {O : Nat → Prop} {W : World} {l : Nat} (h : ¬ O l) (o : Obj) : KO O W (W.putObj l o) := fun _ hk => World.putObj_heap_other (fun he => h (he ▸ hk))

theorem wp_rangeO {P : Program} {g : Operand} {ps : Array Tmp} {assign body : Code} {Q : Exit → Act → World → Prop} {a : Act} {w : World} {f : Nat} {lb : Array Value} {Init D : World → Prop} {O0 : Nat → Prop} {xs : List (Array Value)}
    (hg : a.eval g = .func (.func f) #[] lb) (ef : ∀ args w, (callFunc f args).run P w = .ok (.enter f args) w) (hseq : SeqO P f lb Init O0 D xs) (hps : ∀ x ∈ xs, x.size = ps.size)
    (J : Nat → (Nat → Prop) → World → Prop) (Jx : Code → (Nat → Prop) → World → Prop) (hD : ∀ i O W, J i O W → D W) (hJ : ∀ i, RelyC w.heap.size (J i)) (hJx : ∀ c, RelyC w.heap.size (Jx c))
    (hI : ∀ W, Ext w W → Init W) (hO0 : ∀ k, O0 k → k < w.heap.size) (h0 : J 0 O0 w)
    (round : ∀ l i x O W, xs[i]? = some x → J i O W → (∀ k, O k → k < W.heap.size) → w.heap.size ≤ l → l < W.heap.size →
      assign.wpIn (Fence.wide.inRound l) 0 P (asgPostO P l w.heap.size O W body (J (i + 1) O) (fun c => Jx c O)) { tmps := (ps.zip x).foldl (fun t (p, v) => t.setIfInBounds p v) a.tmps, defers := [] } W)
    (done : ∀ M O W, J xs.length O W → w.heap.size ≤ M → W.heap[M]? = some (.deferred (some [])) → Q .normal { a with defers := { target := .collected M, args := #[] } :: a.defers } W)
    (jump : ∀ M c O W, Jx c O W → w.heap.size ≤ M → W.heap[M]? = some (.deferred (some [])) → c.wp P Q { a with defers := { target := .collected M, args := #[] } :: a.defers } W) :
    (Code.rangeFunc g ps assign body).wp P Q a w := by
  refine (wpIn_wide (n := 0)).1 ?_
  refine wpIn_rangeFunc ?_
  intro fn hfn
  obtain ⟨rec, hrec⟩ : ∃ rec : LoopState → Option Code → Loop, rec = fun st pe => { state := st, pending := pe, fn, tmps := a.tmps, params := ps, assign, body, defers := w.heap.size } := ⟨_, rfl⟩
  obtain ⟨W1, hW1⟩ : ∃ W1, (w.alloc (.deferred (some []))).alloc (.loop (rec .ready none)) = W1 := ⟨_, rfl⟩
  have hL1 : W1.heap[w.heap.size + 1]? = some (.loop (rec .ready none)) := by
    rw [← hW1]; have := World.alloc_heap_new (w.alloc (.deferred (some []))) (.loop (rec .ready none)); rwa [World.size_alloc] at this
  have hK1 : W1.heap[w.heap.size]? = some (.deferred (some [])) := by
    rw [← hW1]; exact (Below.heap_alloc _ _ _ (by simp)).trans (World.alloc_heap_new w _)
  have hE1 : Ext w W1 := by rw [← hW1]; exact ((Ext.refl w).alloc _).alloc _
  have hI1 : J 0 O0 W1 := hJ 0 _ _ _ _ h0 (OffC.of_off (Off.of_ext hE1)) (Grow.same hO0 hE1.size)
  have hn0 : ¬ O0 w.heap.size := fun h => Nat.lt_irrefl _ (hO0 _ h)
  have hn1 : ¬ O0 (w.heap.size + 1) := fun h => by have := hO0 _ h; omega
  refine ⟨w.heap.size + 1, [{ target := .collected w.heap.size, args := #[] }], W1, { target := .fn (.func f) lb, args := #[.func (.yield (w.heap.size + 1)) #[] #[]] }, W1, f,
    #[.func (.yield (w.heap.size + 1)) #[] #[]] ++ lb, W1, ?_, ?_, ?_, ?_, fun h => by simp [Fence.wide] at h, ?_⟩
  · rw [← hW1, hrec]; exact run_enterLoop_outer _ _ _ _ _
  · simp only [resolve, hg]
    simp [go_sem]
  · intro f' _; trivial
  · simp [invoke, go_sem, ef]
  · have grow : ∀ {O O' : Nat → Prop} {W W' : World} {k : Nat}, Grow O O' W W' → k < W.heap.size → ¬ O k → ¬ O' k := fun hG hk hn h => by
      rcases (hG _ h).1 with h1 | h1
      · exact hn h1
      · omega
    refine (hseq (w.heap.size + 1)
      (fun i O W => J i O W ∧ W.heap[w.heap.size + 1]? = some (.loop (rec .ready none)) ∧ W.heap[w.heap.size]? = some (.deferred (some [])) ∧ ¬ O (w.heap.size + 1) ∧ ¬ O w.heap.size)
      (fun O W => ∃ c, Jx c O W ∧ W.heap[w.heap.size + 1]? = some (.loop (rec .done (some c))) ∧ W.heap[w.heap.size]? = some (.deferred (some [])) ∧ ¬ O (w.heap.size + 1) ∧ ¬ O w.heap.size)
      W1 (fun i O W h => hD i O W h.1)
      (fun i O O' W W' h hE hG => ⟨hJ i _ _ _ _ h.1 (OffC.of_off hE) hG, (hE.block _ (lt_of_heap h.2.1) h.2.2.2.1).trans h.2.1, (hE.block _ (lt_of_heap h.2.2.1) h.2.2.2.2).trans h.2.2.1, grow hG (lt_of_heap h.2.1) h.2.2.2.1, grow hG (lt_of_heap h.2.2.1) h.2.2.2.2⟩)
      (fun O O' W W' h hE hG => by
        obtain ⟨c, hc, hl, hk, hn1, hn2⟩ := h
        exact ⟨c, hJx c _ _ _ _ hc (OffC.of_off hE) hG, (hE.block _ (lt_of_heap hl) hn1).trans hl, (hE.block _ (lt_of_heap hk) hn2).trans hk, grow hG (lt_of_heap hl) hn1, grow hG (lt_of_heap hk) hn2⟩)
      ?_ (hI _ hE1) (fun k hk => Nat.lt_of_lt_of_le (hO0 k hk) hE1.size) ⟨hI1, hL1, hK1, hn1, hn0⟩).mono ?_
    · rintro i x O W hx ⟨hi, hl, hk, hno1, hno0⟩ hOW
      have hlt : w.heap.size + 1 < W.heap.size := lt_of_heap hl
      have hy := run_yield (P := P) (args := x) hl (by rw [hrec]; exact hps x (List.mem_iff_getElem?.2 ⟨i, hx⟩))
      rw [hrec] at hy
      refine ⟨fn, _, assign, body, hy, roundIn_of_wpIn hfn ?_⟩
      refine wpIn_mono (round (w.heap.size + 1) i x O W hx hi hOW (by omega) hlt) ?_
      rintro e a1 W1' hp
      cases e with
      | normal =>
        obtain ⟨hkf, hbody⟩ := hp
        have hl1 := hkf.f.2 _ _ (by omega) hl rfl
        have hk1 := hkf.f.2 _ _ (Nat.le_refl _) hk rfl
        have hlt1 : w.heap.size + 1 < W1'.heap.size := lt_of_heap hl1
        refine ⟨_, run_beginRound hl1 (by rw [hrec]), ?_⟩
        have hl2 : (W1'.putObj (w.heap.size + 1) (.loop { rec .ready none with state := .busy })).heap[w.heap.size + 1]? = some (.loop { rec .ready none with state := .busy }) := World.putObj_heap_same hlt1
        have hk2 : (W1'.putObj (w.heap.size + 1) (.loop { rec .ready none with state := .busy })).heap[w.heap.size]? = some (.deferred (some [])) := (World.putObj_heap_other (by omega)).trans hk1
        refine wpIn_mono (hbody _ (Chg.putObj _ hl1 rfl (by omega)) (KO.putObj hno1 _)) ?_
        have fin : ∀ (jump : Option Code) (W3 : World), KFO w.heap.size O (W1'.putObj (w.heap.size + 1) (.loop { rec .ready none with state := .busy })) W3 →
            (Instr.endRound (w.heap.size + 1) jump).run P W3 = .ok (.bool jump.isNone) (W3.putObj (w.heap.size + 1) (.loop (rec (if jump.isNone then .ready else .done) jump))) ∧
            W3.heap[w.heap.size + 1]? = some (.loop { rec .ready none with state := .busy }) ∧
            (W3.putObj (w.heap.size + 1) (.loop (rec (if jump.isNone then .ready else .done) jump))).heap[w.heap.size + 1]? = some (.loop (rec (if jump.isNone then .ready else .done) jump)) ∧
            (W3.putObj (w.heap.size + 1) (.loop (rec (if jump.isNone then .ready else .done) jump))).heap[w.heap.size]? = some (.deferred (some [])) ∧
            (KO O W (W3.putObj (w.heap.size + 1) (.loop (rec (if jump.isNone then .ready else .done) jump))) ∧ W.heap.size ≤ (W3.putObj (w.heap.size + 1) (.loop (rec (if jump.isNone then .ready else .done) jump))).heap.size) := fun jump W3 hk3 => by
          have hl3 := hk3.f.2 _ _ (by omega) hl2 rfl
          have := run_endRound (P := P) jump hl3
          rw [hrec] at this ⊢
          refine ⟨this, by rw [hrec] at hl3; exact hl3, World.putObj_heap_same (lt_of_heap hl3), (World.putObj_heap_other (by omega)).trans (hk3.f.2 _ _ (Nat.le_refl _) hk2 rfl), fun k hk => ?_, ?_⟩
          · exact (((KO.putObj hno1 _) k hk).trans (hk3.o k hk)).trans (((KO.putObj hno1 _) k hk).trans (hkf.o k hk))
          · have h1 := hkf.f.1
            have h2 := hk3.f.1
            simp at h2 ⊢
            omega
        rintro e a3 W3 hp
        cases e with
        | normal =>
          obtain ⟨hk3, hi3⟩ := hp
          obtain ⟨hr, hl3, hl4, hk4, hko⟩ := fin none W3 hk3
          refine ⟨_, _, hr, hko, .inl ⟨rfl, hJ _ _ _ _ _ hi3 (OffC.of_chg (Chg.putObj _ hl3 rfl (by omega))) (Grow.same (fun k hk => ?_) (by simp)), hl4, hk4, hno1, hno0⟩⟩
          have := hOW k hk; have h1 := hkf.f.1; have h2 := hk3.f.1; simp at h2; omega
        | ret =>
          obtain ⟨hk3, hi3⟩ := hp
          obtain ⟨hr, hl3, hl4, hk4, hko⟩ := fin (some .ret) W3 hk3
          refine ⟨_, _, hr, hko, .inr ⟨rfl, .ret, hJx _ _ _ _ _ hi3 (OffC.of_chg (Chg.putObj _ hl3 rfl (by omega))) (Grow.same (fun k hk => ?_) (by simp)), hl4, hk4, hno1, hno0⟩⟩
          have := hOW k hk; have h1 := hkf.f.1; have h2 := hk3.f.1; simp at h2; omega
        | exit id =>
          obtain ⟨hk3, hi3⟩ := hp
          obtain ⟨hr, hl3, hl4, hk4, hko⟩ := fin (some (.exit id)) W3 hk3
          refine ⟨_, _, hr, hko, .inr ⟨rfl, .exit id, hJx _ _ _ _ _ hi3 (OffC.of_chg (Chg.putObj _ hl3 rfl (by omega))) (Grow.same (fun k hk => ?_) (by simp)), hl4, hk4, hno1, hno0⟩⟩
          have := hOW k hk; have h1 := hkf.f.1; have h2 := hk3.f.1; simp at h2; omega
        | goto t =>
          obtain ⟨hk3, hi3⟩ := hp
          obtain ⟨hr, hl3, hl4, hk4, hko⟩ := fin (some (.goto t)) W3 hk3
          refine ⟨_, _, hr, hko, .inr ⟨rfl, .goto t, hJx _ _ _ _ _ hi3 (OffC.of_chg (Chg.putObj _ hl3 rfl (by omega))) (Grow.same (fun k hk => ?_) (by simp)), hl4, hk4, hno1, hno0⟩⟩
          have := hOW k hk; have h1 := hkf.f.1; have h2 := hk3.f.1; simp at h2; omega
        | panic ch => exact hp.elim
        | outgrown => exact hp.elim
      | exit id => exact hp.elim
      | goto t => exact hp.elim
      | ret => exact hp.elim
      | panic ch => exact hp.elim
      | outgrown => exact hp.elim
    · rintro e W2 ⟨⟨v, rfl⟩, O', (⟨hi, hl, hk, hn1, hn0⟩ | ⟨c, hi, hl, hk, hn1, hn0⟩)⟩
      · have hc : Chg w.heap.size W2 (W2.putObj (w.heap.size + 1) (.loop { rec .ready none with state := .exhausted })) := Chg.putObj _ hl rfl (by omega)
        exact ⟨none, _, by have := run_endLoop (P := P) hl (by rw [hrec]; simp); rw [hrec] at this; exact this, done _ (fun _ => False) _ (hJ _ _ _ _ _ hi (OffC.of_chg (by rw [hrec] at hc; exact hc)) (fun k hk => hk.elim)) (Nat.le_refl _) ((World.putObj_heap_other (by omega)).trans hk)⟩
      · have hc : Chg w.heap.size W2 (W2.putObj (w.heap.size + 1) (.loop { rec .done (some c) with state := .exhausted })) := Chg.putObj _ hl rfl (by omega)
        exact ⟨some c, _, by have := run_endLoop (P := P) hl (by rw [hrec]; simp); rw [hrec] at this; exact this, (wpIn_wide (n := 0)).2 (jump _ c (fun _ => False) _ (hJx c _ _ _ _ hi (OffC.of_chg (by rw [hrec] at hc; exact hc)) (fun k hk => hk.elim)) (Nat.le_refl _) ((World.putObj_heap_other (by omega)).trans hk))⟩

theorem Ext.offc {w W W' : World} {B : Nat} {O : Nat → Prop} (h : Ext w W) (hc : OffC B O W W') (hB : w.heap.size ≤ B) (hO : ∀ k, O k → w.heap.size ≤ k) : Ext w W' :=
  ⟨⟨hc.os.trans h.b.os, hc.tape.trans h.b.tape, hc.output.trans h.b.output, Nat.le_trans h.b.size hc.size, fun k hk => (hc.low k (by omega) (Nat.lt_of_lt_of_le hk h.b.size) (fun h1 => by have := hO k h1; omega)).trans (h.b.block k hk)⟩⟩
theorem cell_offc {B : Nat} {O : Nat → Prop} {W W' : World} (hc : OffC B O W W') {a : Addr} {u : Value} (hO : ¬ O a.block) (h : W.cell? a = some u) : W'.cell? a = some u := by
  have hh := h
  unfold World.cell? at hh
  split at hh
  · rename_i cs t fr hb
    rw [World.cell?_of_block (show W'.heap[a.block]? = W.heap[a.block]? by rw [hc.cells _ _ _ _ hb hO, hb])]
    exact h
  all_goals cases hh
theorem Own.offc {α : Type} {enc : α → List Value} {size : Nat} {w W : World} {base B : Nat} {O : Nat → Prop} {e : TypeId} {v : Value} {l : List α} (h : Own enc size w base e v l) (hc : OffC B O w W) (hO : ∀ g cap, v = .slice (some ⟨g, 0, none⟩) l.length cap → ¬ O g) : Own enc size W base e v l := by
  refine ⟨h.1, h.2.1, ?_⟩
  rcases h.2.2 with h2 | ⟨g, cap, cur, h1, h2, h3, h4⟩
  · exact .inl h2
  · exact .inr ⟨g, cap, cur, h1, h2, hc.cells _ _ _ _ h3 (hO g cap h1), h4⟩
end Go.Proofs.Ytjgkgcjmcpgiaaa

namespace Go.Proofs.Ytjgkgcjmcpgiaaa
open Go.RowKit
attribute [local go_sem] Oper.semAt_some

theorem rdnumber_any (n : Int) (w : World) : Calls Try.prog 65 #[.int .i64 n] w fun e w' => e = .returned (.int .i64 (procs n)) ∧ w' = w := by
  unfold procs
  by_cases h1 : n < 1
  · go_enter Try.func65, Try.ntmps65
    go_wp2
    go_ret
    simp [h1]
  · by_cases h2 : 5 < n
    · go_enter Try.func65, Try.ntmps65
      go_wp2
      go_ret
      simp [h1, h2]
    · go_enter Try.func65, Try.ntmps65
      go_wp2
      go_ret
      simp [h1, h2]

/-- The faulty ones of the round before. -/
def prevF (l : List Rd) : Nat → Int
  | 0 => 0
  | i + 1 => (l.getD i default).f
def pairSeq (l : List Rd) : List (Array Value) := (List.range l.length).map fun i => #[.int .i64 (prevF l i), (l.getD i default).v]
theorem pairSeq_len (l : List Rd) : (pairSeq l).length = l.length := by simp [pairSeq]
theorem pairSeq_at (l : List Rd) {i : Nat} (hi : i < l.length) : (pairSeq l)[i]? = some #[.int .i64 (prevF l i), (l.getD i default).v] := by
  simp [pairSeq, List.getElem?_map, List.getElem?_range hi]
theorem pairSeq_inv (l : List Rd) {i : Nat} {x : Array Value} (h : (pairSeq l)[i]? = some x) : i < l.length ∧ x = #[.int .i64 (prevF l i), (l.getD i default).v] := by
  have hi : i < l.length := by
    rcases Nat.lt_or_ge i l.length with h1 | h1
    · exact h1
    · rw [List.getElem?_eq_none (by rw [pairSeq_len]; exact h1)] at h; cases h
  rw [pairSeq_at l hi] at h
  exact ⟨hi, by simpa using h.symm⟩
theorem pairSeq_two (l : List Rd) : ∀ x ∈ pairSeq l, x.size = 2 := by
  intro x hx
  unfold pairSeq at hx
  obtain ⟨i, _, rfl⟩ := List.mem_map.1 hx
  rfl

theorem pairs_any (s : Value) (w : World) (p : Option Addr) (m c : Nat) (hs : s = .slice p m c) : Calls Try.prog 66 #[s] w fun e w' =>
    e = .returned (.func (.func 75) #[] #[.pointer (some ⟨w.heap.size, 0, none⟩)]) ∧ w' = w.alloc (.cells #[s] 25) := by
  subst hs
  go_enter Try.func66, Try.ntmps66
  go_wp2
  go_ret
  exact ⟨rfl, rfl⟩

set_option maxHeartbeats 2000000 in
theorem pairs_seq (l : List Rd) (s : Value) (w0 : World) (g : Nat) (hl : Row Rd.cells 7 w0 s l) :
    SeqO Try.prog 75 #[.pointer (some ⟨g, 0, none⟩)] (fun W => W.cell? ⟨g, 0, none⟩ = some s) (fun k => k = g) (fun W => Ext w0 W) (pairSeq l) := by
  intro lp J Jx W hD hJ hJx hY hI hO0 h0
  obtain ⟨p, c, rfl, hc, hlen, hat⟩ := hl.rd_all
  clear hl
  have HAT := hide hat
  have HD := hide hD
  have HJ := hide hJ
  have HJX := hide hJx
  have HY := hide hY
  have HLEN := hide (pairSeq_len l)
  have HO0 := hide hO0
  clear hat hD hJ hJx hY hO0
  have H0 := hide h0
  clear h0
  refine callsIn_of_wp Try.func75 rfl trivial ?_ rfl
  simp only [Try.ntmps75, List.size_toArray, List.length_cons, List.length_nil, Nat.reduceAdd, Nat.reduceSub, Array.replicate_succ, Array.replicate_zero, List.push_toArray, List.append_toArray, List.nil_append, List.cons_append]
  gi_wp2
  gi_loopw [3, 8] (fun b x wr => ∃ (i : Nat) (O : Nat → Prop), i ≤ l.length ∧ x = .int .i64 i ∧ b = .int .i64 (prevF l i) ∧ Hid (∀ k, O k → k < wr.heap.size) ∧ Hid (J i O wr)) (fun _ x _ => l.length - (intOf x).toNat)
  case atStart => exact ⟨0, _, by omega, rfl, rfl, HO0, H0⟩
  case round =>
    obtain ⟨i, O, hi, rfl, rfl, hO, hj⟩ := hrel
    have hE := HD.out _ _ _ hj.out
    by_cases hlt : i < l.length
    · obtain ⟨b2, o2, rfl, hbb, hm⟩ := HAT.out (by omega)
      obtain ⟨m0, m1, m2, m3, m4, m5, m6⟩ := hm i hlt
      clear hm
      have HF := hide (show prevF l (i + 1) = (l.getD i default).f from rfl)
      have HAt := hide (pairSeq_at l hlt)
      generalize prevF l i = bf at HAt ⊢
      generalize l.getD i default = r at m0 m1 m2 m3 m4 m5 m6 HAt HF
      obtain ⟨⟨n1, a1, b1, c1, d1, e1⟩, f1⟩ := r
      dsimp only at m0 m1 m2 m3 m4 m5 m6 HF
      obtain ⟨nf, hnf⟩ : ∃ nf, nf = f1 := ⟨_, rfl⟩
      rw [← hnf] at m6 HAt HF
      clear hnf
      obtain ⟨O1, hO1⟩ : ∃ O1 : Nat → Prop, O1 = fun k => O k ∨ k = wr.heap.size := ⟨_, rfl⟩
      have hO1' : Hid (∀ k, O1 k → k < wr.heap.size + 1) := fun k hk => by
        rw [hO1] at hk
        rcases hk with h | h
        · have := hO.out k h; omega
        · omega
      have hin : Hid (O1 wr.heap.size) := by rw [hO1]; exact .inr rfl
      have hj2 := HJ.out _ _ O1 _ (wr.alloc (.cells #[.int .i64 n1, .int .i64 a1, .int .i64 b1, .int .i64 c1, .int .i64 d1, .int .i64 e1, .int .i64 nf] 67)) hj.out (Off.of_ext ((Ext.refl wr).alloc _)) (fun k hk => ⟨by rw [hO1] at hk; rcases hk with h | h; exact .inl h; exact .inr (by omega), by have := hO1'.out k hk; simp; omega⟩)
      have HO1 := hide hO1
      clear hO1
      obtain ⟨fn, tmps, assign, body, hy, hR⟩ := HY.out i _ _ _ HAt.out hj2 (by simpa using hO1'.out)
      replace hy : (Instr.yield lp #[.int .i64 bf, .agg #[.int .i64 n1, .int .i64 a1, .int .i64 b1, .int .i64 c1, .int .i64 d1, .int .i64 e1, .int .i64 nf]]).run Try.prog _ = _ := hy
      have HR := hide hR
      clear hR hj2 hj hI
      gi_wp2_with fail
      refine ⟨rfl, HR.out.mono ?_⟩
      rintro e W' ⟨⟨hko, hsz⟩, (⟨rfl, hJ'⟩ | ⟨rfl, hJx'⟩)⟩
      · have HJ3 := hide hJ'
        have hm := (hko _ hin.out).trans (heap_alloc_new wr _)
        have hf6 : W'.cell? ⟨wr.heap.size, 6, none⟩ = some (.int .i64 nf) := by rw [cell_of_row _ _ _ _ _ _ hm]; rfl
        have HSZ : Hid (∀ k, O1 k → k < W'.heap.size) := fun k hk => by have := hO1'.out k hk; simp at hsz; omega
        clear hJ' HR hko hm hsz m0 m1 m2 m3 m4 m5 m6
        gi_wp2_with fail
        exact ⟨⟨i + 1, O1, by omega, by simp, by rw [HF.out], HSZ, HJ3⟩, by simp [intOf]; omega⟩
      · have HJ3 := hide hJx'
        clear hJx' HR
        gi_wp2_with fail
        exact bodyPost_ret (results_none rfl _ _ _) rfl ⟨⟨_, rfl⟩, _, .inr HJ3.out⟩
    · gi_wp2_with fail
      have hs2 : i = l.length := by omega
      subst hs2
      exact bodyPost_end (results_none rfl _ _ _) rfl ⟨⟨_, rfl⟩, _, .inl (by rw [HLEN.out]; exact hj.out)⟩
end Go.Proofs.Ytjgkgcjmcpgiaaa

namespace Go.Proofs.Ytjgkgcjmcpgiaaa
open Go.RowKit
attribute [local go_sem] Oper.semAt_some

def wErr (n : Int) (l : List Rd) (i : Nat) : Int :=
  if rchk (l.getD i default) ≠ 0 then rchk (l.getD i default) else if (l.getD i default).g.n ≠ n then 22 else if inside (prevF l i) (l.getD i default).f then 0 else 14
def wordE (n : Int) (l : List Rd) : Int := if n < 1 ∨ 5 < n then 1 else if 1024 < l.length then 5 else firstErr (wErr n l) l.length
theorem rchk_f {r : Rd} (h : rchk r = 0) : 0 ≤ r.f ∧ r.f < 32 := by
  obtain ⟨h6, h7⟩ := rchk_zero h
  obtain ⟨h8, h9, h10, h11⟩ := pchk_zero h7
  have hp := (pow_le32 (n := r.g.n.toNat) (by omega)).1
  exact ⟨h10, by omega⟩
theorem prevF_small {n : Int} {l : List Rd} : ∀ {i : Nat}, (∀ j, j < i → wErr n l j = 0) → 0 ≤ prevF l i ∧ prevF l i < 32
  | 0, _ => by simp [prevF]
  | i + 1, h => by
    have h1 := h i (by omega)
    unfold wErr at h1
    by_cases h2 : rchk (l.getD i default) = 0
    · exact rchk_f h2
    · rw [if_pos h2] at h1; exact absurd h1 h2

set_option maxHeartbeats 400000 in
theorem rword_any (n : Int) (l : List Rd) (v : Value) (w : World) (hv : Row Rd.cells 7 w v l) :
    Calls Try.prog 37 #[.int .i64 n, v] w fun e w' => e = .returned (.int .i64 (wordE n l)) ∧ Ext w w' := by
  have HV := hide hv
  obtain ⟨p, c, rfl, hc, hlen, -⟩ := hv.rd_all
  clear hv
  unfold wordE
  generalize hres : (if n < 1 ∨ 5 < n then (1 : Int) else if 1024 < l.length then 5 else firstErr (wErr n l) l.length) = res
  have HR := hide hres
  clear hres
  refine calls_of_wp_m Try.func37 rfl ?_
  simp only [Try.ntmps37, List.size_toArray, List.length_cons, List.length_nil, Nat.reduceAdd, Nat.reduceSub, Array.replicate_succ, Array.replicate_zero, List.push_toArray, List.append_toArray, List.nil_append, List.cons_append]
  have HP := hide (rdnumber_any n)
  by_cases hn : n < 1 ∨ 5 < n
  · have HR0 := HR.out
    have hp : procs n = 1 := by unfold procs; rw [if_pos hn]
    rw [if_pos hn] at HR0
    rw [hp] at HP
    have HR := hide HR0
    clear HR0 hp hn
    go_wp2_with fail
    refine (HP.out _).mono ?_
    rintro e w1 ⟨rfl, hw1⟩
    rw [hw1]
    clear hw1
    go_wp2_with fail
    exact leave_plain_cell rfl rfl rfl (n := 1) (by simp [go_sem]) ⟨ret_int HR.out, (((Ext.refl w).alloc _).alloc _)⟩
  have HR0 := HR.out
  have hp : procs n = 0 := by unfold procs; rw [if_neg hn]
  rw [if_neg hn] at HR0
  rw [hp] at HP
  have HR := hide HR0
  clear HR0 hp hn
  go_wp2_with fail
  obtain ⟨w1, hw1⟩ : ∃ w1, ((w.alloc (.cells #[.int .i64 n] 3)).alloc (.cells #[.int .i64 0] 28)) = w1 := ⟨_, rfl⟩
  have hE1 : Ext w w1 := by rw [← hw1]; exact (((Ext.refl w).alloc _).alloc _)
  have hB1 : Box w1 (w.heap.size + 1) 28 (.int .i64 0) := by
    rw [← hw1]; have := Box.new (w.alloc (.cells #[.int .i64 n] 3)) 28 (.int .i64 0); rwa [World.size_alloc] at this
  have ha0 : w1.cell? ⟨w.heap.size, 0, none⟩ = some (.int .i64 n) := by rw [← hw1]; simp [go_sem]
  have hz1 : w.heap.size + 2 ≤ w1.heap.size := by rw [← hw1]; simp
  rw [hw1]
  clear hw1
  have hl1 : w.heap.size < w1.heap.size := by omega
  have hl2 : w.heap.size + 1 < w1.heap.size := by omega
  refine (HP.out _).mono ?_
  rintro e w1' ⟨rfl, rfl⟩
  have hfz := hB1.frozen
  have hcz := hB1.cell
  by_cases c1 : 1024 < l.length
  · have HR0 := HR.out
    rw [if_pos c1] at HR0
    have HR := hide HR0
    clear HR0
    go_wp2_with fail
    exact leave_plain_cell rfl rfl rfl (n := 5) hB1.set.cell ⟨ret_int HR.out, hE1.setCell (by simp) _⟩
  have HR0 := HR.out
  rw [if_neg c1] at HR0
  have HR := hide HR0
  clear HR0
  go_wp2_with fail
  obtain ⟨w3, hw3⟩ : ∃ w3, w1'.alloc (.cells #[.slice p l.length c] 25) = w3 := ⟨_, rfl⟩
  have hE3 : Ext w w3 := by rw [← hw3]; exact hE1.alloc _
  have hB3 : Box w3 (w.heap.size + 1) 28 (.int .i64 0) := by rw [← hw3]; exact hB1.alloc _
  have hS3 : w3.cell? ⟨w.heap.size, 0, none⟩ = some (.int .i64 n) := by rw [← hw3]; simp [go_sem, hl1, ha0]
  have hT3 : w3.cell? ⟨w1'.heap.size, 0, none⟩ = some (.slice p l.length c) := by rw [← hw3]; simp [go_sem]
  have hZ3 : w1'.heap.size < w3.heap.size := by rw [← hw3]; simp
  refine (pairs_any _ w1' p l.length c rfl).mono ?_
  rintro e W ⟨rfl, hW⟩
  rw [hw3] at hW
  subst hW
  clear hw3
  go_wp2_with fail
  have HB : Hid (∀ i, i < l.length → (∀ j, j < i → wErr n l j = 0) → wErr n l i ≠ 0 → wErr n l i = res) := fun i hi h1 h2 => by
    have h3 := firstErr_at (f := wErr n l) hi h1 h2
    rw [← h3]
    exact HR.out
  refine wp_rangeO rfl (fun _ _ => rfl) (pairs_seq l (.slice p l.length c) w w1'.heap.size HV.out) (pairSeq_two l)
    (fun i O V => Ext w V ∧ Box V (w.heap.size + 1) 28 (.int .i64 0) ∧ V.cell? ⟨w.heap.size, 0, none⟩ = some (.int .i64 n) ∧ (∀ k, O k → w.heap.size + 2 ≤ k) ∧ (∀ j, j < i → wErr n l j = 0))
    (fun c O V => c = .ret ∧ Ext w V ∧ (∀ k, O k → w.heap.size + 2 ≤ k) ∧ ∃ e, Box V (w.heap.size + 1) 28 (.int .i64 e) ∧ e = res) ?_ ?_ ?_ ?_ ?_ ?_ ?_ ?_ ?_
  · rintro i O V h; exact h.1
  · rintro i O O' V V' ⟨h1, h2, h3, h4, h5⟩ hC hG
    have n1 : ¬ O (w.heap.size + 1) := fun h => by have := h4 _ h; omega
    have n0 : ¬ O w.heap.size := fun h => by have := h4 _ h; omega
    refine ⟨h1.offc hC (by omega) (fun k hk => by have := h4 k hk; omega), hC.cells _ _ _ _ h2 n1, cell_offc hC n0 h3, fun k hk => ?_, h5⟩
    have hz := h2.lt
    rcases (hG k hk).1 with h | h
    · exact h4 k h
    · omega
  · rintro c O O' V V' ⟨h0, h1, h4, e, h2, h3⟩ hC hG
    have n1 : ¬ O (w.heap.size + 1) := fun h => by have := h4 _ h; omega
    refine ⟨h0, h1.offc hC (by omega) (fun k hk => by have := h4 k hk; omega), fun k hk => ?_, e, hC.cells _ _ _ _ h2 n1, h3⟩
    have hz := h2.lt
    rcases (hG k hk).1 with h | h
    · exact h4 k h
    · omega
  · rintro W hE; exact (hE.cell (by show w1'.heap.size < _; omega)).trans hT3
  · rintro k rfl; omega
  · exact ⟨hE3, hB3, hS3, fun k hk => by omega, fun j hj => by omega⟩
  · rintro lp i x O V hx ⟨h1, h2, h3, h4, h5⟩ hOV hlp hlV
    have H5 := hide h5
    obtain ⟨hi, rfl⟩ := pairSeq_inv l hx
    have hpf := prevF_small h5
    clear h5 hx
    have HE := hide (HB.out i hi H5.out)
    have HN : Hid (wErr n l i = 0 → ∀ j, j < i + 1 → wErr n l j = 0) := fun h j hj => by
      rcases Nat.lt_or_ge j i with h6 | h6
      · exact H5.out j h6
      · obtain rfl : j = i := by omega
        exact h
    clear H5
    generalize hwe : wErr n l i = we at HE HN
    have HW := hide hwe
    clear hwe
    unfold wErr at HW
    generalize prevF l i = pf at HW hpf ⊢
    have HC := hide (fun W => rcheck_any (l.getD i default) W)
    have HF := hide (fun h : rchk (l.getD i default) = 0 => rchk_f h)
    generalize l.getD i default = r at HW HC HF ⊢
    obtain ⟨⟨n1, a1, b1, c1', d1', e1⟩, f1⟩ := r
    dsimp only [Rd.v] at HW HC HF ⊢
    generalize rchk ⟨⟨n1, a1, b1, c1', d1', e1⟩, f1⟩ = rc at HW HC HF
    gi_wp2_with fail
    have hz1V : w.heap.size + 1 < V.heap.size := h2.lt
    refine ⟨KFO.of_ext ((Ext.refl _).alloc _) hOV, fun W2 hC hKO => ?_⟩
    have hm := hC.cells _ _ _ _ (heap_alloc_new V (.cells #[.int .i64 n1, .int .i64 a1, .int .i64 b1, .int .i64 c1', .int .i64 d1', .int .i64 e1, .int .i64 f1] 67))
    have h1' := (h1.alloc (.cells #[.int .i64 n1, .int .i64 a1, .int .i64 b1, .int .i64 c1', .int .i64 d1', .int .i64 e1, .int .i64 f1] 67)).chg hC (by omega)
    have h2' := (h2.alloc (.cells #[.int .i64 n1, .int .i64 a1, .int .i64 b1, .int .i64 c1', .int .i64 d1', .int .i64 e1, .int .i64 f1] 67)).chg hC
    have h3' := cell_chg hC (show (V.alloc (.cells #[.int .i64 n1, .int .i64 a1, .int .i64 b1, .int .i64 c1', .int .i64 d1', .int .i64 e1, .int .i64 f1] 67)).cell? ⟨w.heap.size, 0, none⟩ = some (.int .i64 n) by simp [go_sem, h3, show w.heap.size < V.heap.size by omega])
    have hOV2 : ∀ k, O k → k < W2.heap.size := fun k hk => by have := hOV k hk; have := hC.size; simp at this; omega
    have hmz : V.heap.size < W2.heap.size := lt_of_heap hm
    have hn1 : ¬ O (w.heap.size + 1) := fun h => by have := h4 _ h; omega
    clear h1 h2 h3
    have g0 : W2.cell? ⟨V.heap.size, 0, none⟩ = some (.int .i64 n1) := by rw [cell_of_row _ _ _ _ _ _ hm]; rfl
    have g1 : W2.cell? ⟨V.heap.size, 1, none⟩ = some (.int .i64 a1) := by rw [cell_of_row _ _ _ _ _ _ hm]; rfl
    have g2 : W2.cell? ⟨V.heap.size, 2, none⟩ = some (.int .i64 b1) := by rw [cell_of_row _ _ _ _ _ _ hm]; rfl
    have g3 : W2.cell? ⟨V.heap.size, 3, none⟩ = some (.int .i64 c1') := by rw [cell_of_row _ _ _ _ _ _ hm]; rfl
    have g4 : W2.cell? ⟨V.heap.size, 4, none⟩ = some (.int .i64 d1') := by rw [cell_of_row _ _ _ _ _ _ hm]; rfl
    have g5 : W2.cell? ⟨V.heap.size, 5, none⟩ = some (.int .i64 e1) := by rw [cell_of_row _ _ _ _ _ _ hm]; rfl
    have g6 : W2.cell? ⟨V.heap.size, 6, none⟩ = some (.int .i64 f1) := by rw [cell_of_row _ _ _ _ _ _ hm]; rfl
    clear hm hC hKO
    gi_wp2_with fail
    refine ⟨trivial, rfl, CallsIn.inRound lp ((callsIn_wide (n := 0)).2 ((HC.out W2).mono ?_))⟩
    rintro e W3 ⟨rfl, hE3⟩
    have h1 := h1'.trans hE3
    have h2 : Box W3 (w.heap.size + 1) 28 (.int .i64 0) := (hE3.b.block _ h2'.lt).trans h2'
    have h3 : W3.cell? ⟨w.heap.size, 0, none⟩ = some (.int .i64 n) := (hE3.cell (by have := h2'.lt; show w.heap.size < _; omega)).trans h3'
    have g0 : W3.cell? ⟨V.heap.size, 0, none⟩ = some (.int .i64 n1) := (hE3.cell hmz).trans g0
    have g6 : W3.cell? ⟨V.heap.size, 6, none⟩ = some (.int .i64 f1) := (hE3.cell hmz).trans g6
    have hK := KFO.of_ext (B := W.heap.size) hE3 hOV2
    clear h1' h2' h3' g1 g2 g3 g4 g5 hE3
    have hfz := h2.frozen
    have hcz := h2.cell
    by_cases hrc : rc = 0
    · have hf := HF.out hrc
      have hd : (rc != 0) = false := by simp [hrc]
      have HW1 := HW.out
      rw [if_neg (by simp [hrc])] at HW1
      have HW2 := hide HW1
      clear HW1 hrc HW
      by_cases hnn : n1 = n
      · have hd2 : (n1 != n) = false := by simp [hnn]
        have HW1 := HW2.out
        rw [if_neg (by simp [hnn])] at HW1
        have HW3 := hide HW1
        clear HW1 HW2 hnn
        have hand := andnot_inside hpf.1 hpf.2 hf.1 hf.2
        by_cases hins : inside pf f1 = true
        · have HW1 := HW3.out
          rw [if_pos hins] at HW1
          rw [hins] at hand
          have HN1 := hide (HN.out HW1.symm)
          clear HW1 HW3 HN HE hins
          gi_wp2_with fail
          exact ⟨hK, h1, h2, h3, h4, HN1.out⟩
        · have HW1 := HW3.out
          rw [if_neg hins] at HW1
          rw [Bool.not_eq_true] at hins
          rw [hins] at hand
          have HE1 := hide (HW1.trans (HE.out (by rw [← HW1]; decide)))
          clear HW1 HW3 HN HE hins
          gi_wp2_with fail
          exact ⟨hK.trans (KFO.setCell _ _ _ hn1), rfl, h1.setCell (by simp) _, h4, _, h2.set, HE1.out⟩
      · have hd2 : (n1 != n) = true := by simp [hnn]
        have HW1 := HW2.out
        rw [if_pos hnn] at HW1
        have HE1 := hide (HW1.trans (HE.out (by rw [← HW1]; decide)))
        clear HW1 HW2 HN HE hnn
        gi_wp2_with fail
        exact ⟨hK.trans (KFO.setCell _ _ _ hn1), rfl, h1.setCell (by simp) _, h4, _, h2.set, HE1.out⟩
    · have hd : (rc != 0) = true := by simp [hrc]
      have HW1 := HW.out
      rw [if_pos hrc] at HW1
      have HE1 := hide (HW1.trans (HE.out (by rw [← HW1]; exact hrc)))
      clear HW1 HW HN HE hrc
      gi_wp2_with fail
      exact ⟨hK.trans (KFO.setCell _ _ _ hn1), rfl, h1.setCell (by simp) _, h4, _, h2.set, HE1.out⟩
  · rintro M O V ⟨h1, h2, h3, h4, h5⟩ hMl hM
    have hr := HR.out
    rw [firstErr_end (fun i hi => h5 i (by rw [pairSeq_len]; exact hi))] at hr
    have HR := hide hr
    clear hr h5 h4
    have hf := h2.frozen
    have hc := h2.cell
    go_wp2_with fail
    refine leave_mark rfl (M := M) ?_ (results_cell1 rfl _ _ _ rfl (errno_load _ 0 _ (cell_putObj (o := .deferred (some [])) ?_ rfl _ h2.set.cell))) ⟨ret_int HR.out, (h1.setCell (by simp) _).putObj (by omega) _⟩
    · rw [Below.heap_setCell _ _ _ _ (by show M ≠ w.heap.size + 1; omega)]; exact hM
    · rw [Below.heap_setCell _ _ _ _ (by show M ≠ w.heap.size + 1; omega)]; exact hM
  · rintro M c O V ⟨rfl, h1, h4, e, h2, h3⟩ hMl hM
    have HR := hide h3
    clear h3 h4
    go_wp2_with fail
    exact leave_mark rfl hM (results_cell1 rfl _ _ _ rfl (errno_load _ e _ (cell_putObj hM rfl _ h2.cell))) ⟨ret_int HR.out, h1.putObj (by omega) _⟩
end Go.Proofs.Ytjgkgcjmcpgiaaa
