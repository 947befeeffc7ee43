/-
  Regions that draw their order: pure operations that yield one value wherever S holds, and behind them, in the text's order, a tail that keeps S as long as one of them may still be to come.
  Conditions: none.
-/
import Derived.Test.YtnhgdjiljjpgmaaOwned
import Derived.StillTailTactics
import Derived.OrdersIn
import Derived.MapKept
import Derived.Carry
import Derived.OrdersHeld
import Derived.Maps.OwnIn
namespace Go.Proofs.Ytnhgdjiljjpgmaa
open Go.RowKit

/-- Q at its plain end alone. -/
def Plainly (Q : Exit → Act → World → Prop) : Exit → Act → World → Prop := fun e a w => e = .normal ∧ Q .normal a w
def noDefer (l : List Oper) : Bool := l.all fun o => match o.op with | .defer _ => false | _ => true
theorem noDefer_at {l : List Oper} (h : noDefer l = true) {i : Nat} {o : Oper} (ho : l.toArray[i]? = some o) : ∀ c, o.op ≠ .defer c := by
  intro c
  unfold noDefer at h
  rw [List.all_eq_true] at h
  have hm : o ∈ l := by simpa using List.mem_iff_getElem?.2 ⟨i, by simpa using ho⟩
  have := h o hm
  intro he
  rw [he] at this
  cases this
theorem wpIn_of_plain {P : Program} {o : Oper} {l : Nat} {Q : Exit → Act → World → Prop} {K K' : Act → World → Prop} {a : Act} {w : World} (hd : ∀ c, o.op ≠ .defer c) (hK : ∀ a w, K a w → K' a w) (h : o.wp P a w K (Plainly Q)) :
    o.wpIn (Fence.wide.inRound l) 0 P a w K' Q := by
  refine ⟨fun _ _ => trivial, ?_⟩
  rw [Oper.semAt_eq _ _ _ hd]
  unfold Oper.wp at h
  generalize (execOp a.eval o).run P w = r at h ⊢
  cases r with
  | ok x w' =>
    cases x with
    | enter f args =>
      refine ⟨fun hh => by simp [Fence.wide] at hh, CallsIn.inRound l ((callsIn_wide (n := 0)).2 (Calls.mono h ?_))⟩
      intro e w2 he
      cases e with
      | returned v => exact hK _ _ he
      | panicked ch => exact absurd he.1 (by simp)
      | outgrown => obtain ⟨_, _, he, _⟩ := he; cases he
    | row row args =>
      refine ⟨fun hh => by simp [Fence.wide] at hh, fun c cs _ => ?_⟩
      obtain ⟨v, w2, hr, hs⟩ := h c cs
      exact ⟨v, w2, hK _ _ hr, stepsIn_wide.2 hs⟩
    | value v => exact hK _ _ h
    | skip => exact hK _ _ h
    | defer d => exact hK _ _ h
    | _ => exact h.elim
  | halt x w' =>
    cases x with
    | panic v => exact absurd h.1 (by simp)
    | _ => exact h.elim
theorem wpOpIn_of_plain {P : Program} {L : List Oper} {l i : Nat} {Q : Exit → Act → World → Prop} {K K' : Act → World → Prop} {a : Act} {w : World} (hd : noDefer L = true) (hK : ∀ a w, K a w → K' a w) (h : wpOp P L.toArray (Plainly Q) i K a w) :
    wpOpIn (Fence.wide.inRound l) 0 P L.toArray Q i K' a w := by
  unfold wpOp at h
  unfold wpOpIn
  split
  · rename_i ho
    simp only [ho] at h
    exact hK _ _ h
  · rename_i o ho
    simp only [ho] at h
    split
    · rename_i hw
      simp only [hw, if_true] at h
      rcases h with h | ⟨_, h⟩
      · exact wpIn_of_plain (noDefer_at hd ho) hK h
      · obtain ⟨_, _, he, _⟩ := h; cases he
    · rename_i hw
      simp only [hw] at h
      exact ⟨fun _ _ => trivial, hK _ _ h⟩
theorem wpAnyIn_of_plain {P : Program} {L : List Oper} {l : Nat} {md : Region.Mode} {Q : Exit → Act → World → Prop} (hd : noDefer L = true) : ∀ (fuel : Nat) (listed : Array Bool) (a : Act) (w : World),
    wpAny P md L.toArray (Plainly Q) fuel listed a w → wpAnyIn (Fence.wide.inRound l) 0 P md L.toArray Q fuel listed a w
  | 0, _, _, _, h => ⟨h.1, h.2.2⟩
  | fuel + 1, _, _, _, h => ⟨fun h0 => (h.1 h0).2, fun i hi => wpOpIn_of_plain hd (fun a' w' h' => wpAnyIn_of_plain hd fuel _ a' w' h') (h.2 i hi)⟩
/-- Reads in any order, and behind them a tail in the text's order. -/
theorem wpAny_tail {P : Program} {Q : Exit → Act → World → Prop} {a : Act} {w : World} {L : List Oper} (n : Nat) (hB : Region.lexTailB .any L.toArray n = true)
    (h : wpStill P L.toArray w (fun a' => wpList P L.toArray Q (L.drop n) a' w) (L.take n) a) : wpAny P .any L.toArray Q L.toArray.size (Array.replicate L.toArray.size false) a w := by
  simp only [Region.lexTailB, Bool.and_eq_true, decide_eq_true_eq] at hB
  obtain ⟨⟨⟨⟨hsel, hn⟩, hs⟩, hc⟩, hlex⟩ := hB
  have hn' : n < L.length := by simpa using hn
  have e1 : (L.take n).length = n := by simp; omega
  have e2 : (L.drop n).length = L.toArray.size - n := by simp
  have hd := wpAnyL_lex (md := .any) (g := L.toArray.size - n) hsel hs hc hn (L.take n) 0 (Array.replicate L.toArray.size false) a
    (fun j hj => by rw [e1] at hj; simp [hj]) (by simpa using e1)
    ⟨by simp, fun j oj _ hl => (by rw [getD_replicate_false] at hl; cases hl), fun t _ ht => getD_in (by simpa using ht) (getD_replicate_false _ _)⟩ (by rw [e1]; exact hlex) h
  have hx := wpAny_of_head (Q' := Q) (g := L.toArray.size - n) (fun listed a' hL => by
    have hy := wpAny_of_seq (md := .any) (Q' := Q) (L.drop n) n listed a' w (fun j => by simp [List.getElem?_drop]) (by rw [e2]; exact hL.1) hL.2
    rwa [e2] at hy) _ _ _ hd
  rw [e1, show n + (L.toArray.size - n) = L.toArray.size by omega] at hx
  exact hx
theorem wpIn_round_tail {P : Program} {l id : Nat} {Q : Exit → Act → World → Prop} {a : Act} {w : World} {L : List Oper} (n : Nat) (hm : P.follows .mixedOrders = true) (hB : Region.lexTailB .any L.toArray n = true) (hd : noDefer L = true)
    (h : ∀ W, W = w.drew → wpStill P L.toArray W (fun a' => wpList P L.toArray (Plainly Q) (L.drop n) a' W) (L.take n) a) : (Code.region id L.toArray true).wpIn (Fence.wide.inRound l) 0 P Q a w :=
  wpIn_region_any hm (wpAnyIn_of_plain hd _ _ _ _ (wpAny_tail n hB (h _ rfl)))
end Go.Proofs.Ytnhgdjiljjpgmaa

namespace Go.Proofs.Ytnhgdjiljjpgmaa
open Go.RowKit

section
variable {P : Program} {ops : Array Oper} {md : Region.Mode} {S : World → Prop} {B : Nat → Bool} {Q : Act → World → Prop}

/-- K at the plain end alone. -/
def Aft (K : Act → World → Prop) : Exit → Act → World → Prop := fun e a w => e = .normal ∧ K a w
theorem Aft.wp {o : Oper} {a : Act} {w : World} {K K' Q : Act → World → Prop} (hK : ∀ a w, K a w → K' a w) (h : o.wp P a w (fun a w => Aft K .normal a w) (Aft K)) : o.wp P a w K' (Aft Q) := by
  unfold Oper.wp at *
  generalize (execOp a.eval o).run P w = r at *
  cases r with
  | ok n w' =>
    cases n <;> simp only [Oper.upon] at h ⊢
    case value u => exact hK _ _ h.2
    case skip => exact hK _ _ h.2
    case defer d => exact hK _ _ h.2
    case enter f args =>
      refine Calls.mono h fun e w2 he => ?_
      cases e with
      | returned v => exact hK _ _ he.2
      | panicked ch => exact absurd he.1 (by simp)
      | outgrown => obtain ⟨_, _, he, _⟩ := he; cases he
    case row row args => exact Rows.mono h fun _ _ he => hK _ _ he.2
  | halt x w' =>
    cases x <;> simp only [Oper.upon] at h ⊢
    exact absurd h.1 (by simp)
theorem Aft.op {i : Nat} {o : Oper} {a : Act} {w : World} {K K' Q : Act → World → Prop} (hi : ops[i]? = some o) (hK : ∀ a w, K a w → K' a w) (h : wpList P ops (Aft K) [o] a w) : wpOp P ops (Aft Q) i K' a w := by
  unfold wpOp
  simp only [hi]
  simp only [wpList] at h
  split
  · rename_i hw
    simp only [hw, if_true] at h
    rcases h with h | ⟨_, h⟩
    · exact .inl (Aft.wp hK h)
    · obtain ⟨_, _, he, _⟩ := h; cases he
  · rename_i hw
    simp only [hw] at h
    exact hK _ _ h.2

/-- Whatever order is picked from here on, S behind each operation that B does not excuse. -/
def wpAnyT (P : Program) (md : Region.Mode) (ops : Array Oper) (S : World → Prop) (B : Nat → Bool) (Q : Act → World → Prop) : Nat → Array Bool → Act → World → Prop
  | 0, listed, a, w => Region.ready md ops listed = [] ∧ Q a w
  | fuel + 1, listed, a, w => (Region.ready md ops listed = [] → Q a w) ∧ ∀ j ∈ Region.ready md ops listed, wpOp P ops (Aft Q) j (fun a' w' => (B j = false → S w') ∧ wpAnyT P md ops S B Q fuel (listed.setIfInBounds j true) a' w') a w
theorem wpAny_of_T : ∀ (fuel : Nat) (listed : Array Bool) (a : Act) (w : World), wpAnyT P md ops S B Q fuel listed a w → wpAny P md ops (Aft Q) fuel listed a w
  | 0, _, _, _, h => ⟨h.1, rfl, h.2⟩
  | fuel + 1, _, _, _, h => ⟨fun h0 => ⟨rfl, h.1 h0⟩, fun i hi => wpOp_mono (fun a' w' h' => wpAny_of_T fuel _ a' w' h'.2) (h.2 i hi)⟩
theorem wpAnyT_first {i : Nat} {oi : Oper} {v : Value} (hi : ops[i]? = some oi) (hsel : ∀ (j : Nat) (o : Oper) cs b, ops[j]? = some o → o.op ≠ .select cs b) (hB : ∀ j, B j = true → Region.waitsFor md ops j i = true) :
    ∀ (fuel : Nat) (listed : Array Bool) (a : Act) (w : World),
      (∀ j oj, ops[j]? = some oj → j ≠ i → listed.getD j true = false → (∀ e ∈ oj.after, Region.binds md e = true → e.on ≠ i) → oi.apart ops oj = true) →
      i ∈ Region.ready md ops listed → YieldsIf P ops S oi v a → S w →
      wpAnyT P md ops S B Q fuel (listed.setIfInBounds i true) (a.put oi.dst v) w → wpAnyT P md ops S B Q (fuel + 1) listed a w := by
  intro fuel
  induction fuel with
  | zero =>
    intro listed a w _ hr hy hS H
    refine ⟨fun h => (by rw [h] at hr; cases hr), fun j hj => ?_⟩
    by_cases hji : j = i
    · subst hji; exact hy.wpOp hi hS ⟨fun _ => hS, H⟩
    · have h1 := ready_mono hj hji
      rw [H.1] at h1
      cases h1
  | succ fuel ih =>
    intro listed a w hfree hr hy hS H
    refine ⟨fun h => (by rw [h] at hr; cases hr), fun j hj => ?_⟩
    by_cases hji : j = i
    · subst hji; exact hy.wpOp hi hS ⟨fun _ => hS, H⟩
    · have h1 := H.2 j (ready_mono hj hji)
      obtain ⟨hjun, oj, hoj, hall⟩ := mem_ready.1 hj
      have hun := (mem_ready.1 hr).1
      have hnot : ∀ e ∈ oj.after, Region.binds md e = true → e.on ≠ i := fun e he hb heq => by
        have h3 := hall e he hb
        rw [heq, getD_both hun] at h3
        cases h3
      have hBj : B j = false := by
        cases hb : B j with
        | false => rfl
        | true =>
          obtain ⟨o', ho', e, he, hbd, hon⟩ := Region.waitsFor_spec (hB j hb)
          rw [hoj] at ho'
          injection ho' with ho'
          subst ho'
          exact absurd hon (hnot e he hbd)
      have h2 := wpOp_putIf hoj (hfree j oj hoj hji hjun hnot) (fun cs b => hsel i oi cs b hi) (fun cs b => hsel j oj cs b hoj) (fun _ _ _ h => absurd h.1 (by simp)) hy h1
      refine wpOp_mono (fun a' w' h3 => ?_) h2
      have hS' : S w' := h3.2.1 hBj
      refine ⟨fun _ => hS', ih (listed.setIfInBounds j true) a' w' (fun k ok hk hki hun' hno => ?_) (ready_mono hr (Ne.symm hji)) h3.1 hS' ?_⟩
      · refine hfree k ok hk hki ?_ hno
        by_cases hjk : j = k
        · subst hjk; exact hjun
        · rw [getD_set_ne true hjk] at hun'; exact hun'
      · rw [Array.setIfInBounds_comm _ _ hji]
        exact h3.2.2

/-- The head: each of its operations yields one value wherever S holds. -/
def wpHead (P : Program) (ops : Array Oper) (S : World → Prop) (Q : Act → Prop) : List Oper → Act → Prop
  | [], a => Q a
  | o :: rest, a => ∃ v, YieldsIf P ops S o v a ∧ wpHead P ops S Q rest (a.put o.dst v)
/-- The tail: in the text's order. -/
def wpTail (P : Program) (ops : Array Oper) (S : World → Prop) (B : Nat → Bool) (Q : Act → World → Prop) : Nat → List Oper → Act → World → Prop
  | _, [], a, w => Q a w
  | j, o :: rest, a, w => wpList P ops (Aft fun a' w' => (B j = false → S w') ∧ wpTail P ops S B Q (j + 1) rest a' w') [o] a w
theorem wpHead_step {Q : Act → Prop} {o : Oper} {rest : List Oper} {a : Act} (v : Value) (hw : Region.wanted o (yielded ops a.tmps) = true) (h : ∀ w, S w → (execOp a.eval o).run P w = .ok (.value v) w) (hn : wpHead P ops S Q rest (a.put o.dst v)) :
    wpHead P ops S Q (o :: rest) a := ⟨v, .inl ⟨hw, h⟩, hn⟩
theorem wpTail_keep {j : Nat} {o : Oper} {rest : List Oper} {a : Act} {w : World} (h : ∀ K : Act → World → Prop, (∀ a' w', S w' → wpTail P ops S B Q (j + 1) rest a' w' → K a' w') → wpList P ops (Aft K) [o] a w) : wpTail P ops S B Q j (o :: rest) a w :=
  h _ fun _ _ h1 h2 => ⟨fun _ => h1, h2⟩
theorem wpTail_free {j : Nat} {o : Oper} {rest : List Oper} {a : Act} {w : World} (hb : B j = true) (h : ∀ K : Act → World → Prop, (∀ a' w', wpTail P ops S B Q (j + 1) rest a' w' → K a' w') → wpList P ops (Aft K) [o] a w) : wpTail P ops S B Q j (o :: rest) a w :=
  h _ fun _ _ h2 => ⟨fun h1 => (by rw [hb] at h1; cases h1), h2⟩
theorem wpTail_nil {j : Nat} {a : Act} {w : World} (h : Q a w) : wpTail P ops S B Q j [] a w := h

theorem wpAnyT_tail : ∀ (l : List Oper) (k : Nat) (listed : Array Bool) (a : Act) (w : World), (∀ j, l[j]? = ops[k + j]?) →
    Region.seqB md ops l.length k listed = true → wpTail P ops S B Q k l a w → wpAnyT P md ops S B Q l.length listed a w
  | [], _, _, _, _, _, hB, h => ⟨by simpa [Region.seqB] using hB, h⟩
  | o :: l, k, listed, a, w, hl, hB, h => by
    have h0 : ops[k]? = some o := by simpa using (hl 0).symm
    simp only [List.length_cons, Region.seqB, Bool.and_eq_true, decide_eq_true_eq] at hB
    refine ⟨fun h1 => (by rw [hB.1] at h1; cases h1), fun i hi => ?_⟩
    rw [hB.1] at hi
    have hik : i = k := by simpa using hi
    subst hik
    exact Aft.op h0 (fun a' w' h' => ⟨h'.1, wpAnyT_tail l (i + 1) _ a' w' (fun j => by have := hl (j + 1); simpa [Nat.add_assoc, Nat.add_comm 1 j] using this) hB.2 h'.2⟩) h
theorem wpAnyT_head {t : List Oper} (hsel : Region.noSelect ops = true) : ∀ (l : List Oper) (k : Nat) (listed : Array Bool) (a : Act) (w : World), (∀ j, (l ++ t)[j]? = ops[k + j]?) → (∀ i, i < k + l.length → ∀ j, B j = true → Region.waitsFor md ops j i = true) →
    Region.lexHead md ops t.length l.length k listed = true → S w → wpHead P ops S (fun a' => wpTail P ops S B Q (k + l.length) t a' w) l a → wpAnyT P md ops S B Q (l.length + t.length) listed a w
  | [], k, listed, a, w, hl, _, hB, _, h => by
    have := wpAnyT_tail (md := md) t k listed a w (by simpa using hl) (by simpa [Region.lexHead] using hB) h
    simpa using this
  | o :: l, k, listed, a, w, hl, hw, hB, hS, h => by
    have h0 : ops[k]? = some o := by simpa using (hl 0).symm
    simp only [List.length_cons, Region.lexHead, Bool.and_eq_true] at hB
    obtain ⟨⟨hr, hf⟩, hB'⟩ := hB
    obtain ⟨v, hy, hn⟩ := h
    have e1 : (o :: l).length + t.length = l.length + t.length + 1 := by simp; omega
    rw [e1]
    refine wpAnyT_first h0 (Region.noSelect_spec hsel) (fun j hj => hw k (by simp) j hj) _ listed a w (Region.free_spec h0 hf) (by simpa using hr) hy hS ?_
    refine wpAnyT_head hsel l (k + 1) _ _ w (fun j => by have := hl (j + 1); simpa [Nat.add_assoc, Nat.add_comm 1 j] using this) (fun i hi => hw i (by simp only [List.length_cons]; omega)) hB' hS ?_
    rw [show k + 1 + l.length = k + (o :: l).length by simp; omega]
    exact hn

/-- Does operation j wait for each of the first n? -/
def waitsAll (ops : Array Oper) (n j : Nat) : Bool := (List.range n).all fun i => Region.waitsFor .any ops j i
def heldB (ops : Array Oper) (n : Nat) : Bool := Region.noSelect ops && decide (n ≤ ops.size) && Region.lexHead .any ops (ops.size - n) n 0 (Array.replicate ops.size false)
theorem wpAny_held {L : List Oper} {a : Act} {w : World} (n : Nat) (hB : heldB L.toArray n = true) (hS : S w)
    (h : wpHead P L.toArray S (fun a' => wpTail P L.toArray S (waitsAll L.toArray n) Q n (L.drop n) a' w) (L.take n) a) : wpAny P .any L.toArray (Aft Q) L.toArray.size (Array.replicate L.toArray.size false) a w := by
  simp only [heldB, Bool.and_eq_true, decide_eq_true_eq] at hB
  obtain ⟨⟨hsel, hn⟩, hlex⟩ := hB
  have hn' : n ≤ L.length := by simpa using hn
  have e1 : (L.take n).length = n := by simp; omega
  have e2 : (L.drop n).length = L.toArray.size - n := by simp
  have := wpAnyT_head (P := P) (md := .any) (S := S) (B := waitsAll L.toArray n) (Q := Q) (t := L.drop n) hsel (L.take n) 0 (Array.replicate L.toArray.size false) a w (fun j => by rw [List.take_append_drop]; simp)
    (fun i hi j hj => List.all_eq_true.1 hj i (List.mem_range.2 (by omega))) (by rw [e1, e2]; exact hlex) hS (by rw [e1, Nat.zero_add]; exact h)
  have h2 := wpAny_of_T _ _ _ _ this
  rw [e1, e2, show n + (L.toArray.size - n) = L.toArray.size by omega] at h2
  exact h2
end
section
variable {P : Program} {ops : Array Oper} {md : Region.Mode} {S : World → Prop} {Q : Act → World → Prop}
theorem wpAnyT_take {i : Nat} {oi : Oper} {fuel : Nat} {listed : Array Bool} {a : Act} {w : World} (v : Value) (hi : ops[i]? = some oi) (hs : Region.noSelect ops = true) (hf : Region.free md ops listed i = true)
    (hr : (Region.ready md ops listed).contains i = true) (hg : Region.wanted oi (yielded ops a.tmps) = true) (hy : ∀ w, S w → (execOp a.eval oi).run P w = .ok (.value v) w) (hS : S w)
    (h : wpAnyT P md ops S (fun _ => false) Q fuel (listed.setIfInBounds i true) (a.put oi.dst v) w) : wpAnyT P md ops S (fun _ => false) Q (fuel + 1) listed a w :=
  wpAnyT_first hi (Region.noSelect_spec hs) (fun _ h => by cases h) fuel listed a w (Region.free_spec hi hf) (by simpa using hr) (.inl ⟨hg, hy⟩) hS h
theorem wpAnyT_all {rs : List Nat} {fuel : Nat} {listed : Array Bool} {a : Act} {w : World} (hr : Region.ready md ops listed = rs) (hne : rs ≠ [])
    (h : ∀ i ∈ rs, wpOp P ops (Aft Q) i (fun a' w' => S w' ∧ wpAnyT P md ops S (fun _ => false) Q fuel (listed.setIfInBounds i true) a' w') a w) : wpAnyT P md ops S (fun _ => false) Q (fuel + 1) listed a w :=
  ⟨fun h0 => absurd (hr ▸ h0) hne, fun i hi => wpOp_mono (fun _ _ h => ⟨fun _ => h.1, h.2⟩) (h i (hr ▸ hi))⟩
/-- A new row. -/
theorem op_newRow {i : Nat} {o : Oper} {a : Act} {w : World} {K Q : Act → World → Prop} {n : Nat} {cs : Array Value} {e : TypeId} (hi : ops[i]? = some o) (hg : o.guard = none)
    (hrun : (execOp a.eval o).run P w = .ok (.value (.slice (some ⟨w.heap.size, 0, none⟩) n n)) (w.alloc (.cells cs e)))
    (h : ∀ V g, Ext w V → V.heap[g]? = some (.cells cs e (0, 0)) → g = w.heap.size → K (a.put o.dst (.slice (some ⟨g, 0, none⟩) n n)) V) : wpOp P ops (Aft Q) i K a w := by
  unfold wpOp
  simp only [hi]
  have hw : Region.wanted o (yielded ops a.tmps) = true := by simp [Region.wanted, hg]
  simp only [hw, if_true]
  refine .inl ?_
  unfold Oper.wp
  rw [hrun]
  exact h _ _ ((Ext.refl w).alloc _) (heap_alloc_new w _) rfl
theorem wpAnyT_rest {L : List Oper} {listed : Array Bool} {a : Act} {w : World} (n : Nat) (_hn : n ≤ L.length) (hB : Region.seqB .any L.toArray (L.drop n).length n listed = true) (h : wpTail P L.toArray S (fun _ => false) Q n (L.drop n) a w) :
    wpAnyT P .any L.toArray S (fun _ => false) Q (L.drop n).length listed a w := wpAnyT_tail (L.drop n) n listed a w (fun j => by simp [List.getElem?_drop]) hB h
theorem wpAnyT_mono {S' : World → Prop} {B : Nat → Bool} (hS : ∀ w, S' w → S w) : ∀ (fuel : Nat) (listed : Array Bool) (a : Act) (w : World), wpAnyT P md ops S' B Q fuel listed a w → wpAnyT P md ops S B Q fuel listed a w
  | 0, _, _, _, h => h
  | fuel + 1, _, _, _, h => ⟨h.1, fun i hi => wpOp_mono (fun a' w' h' => ⟨fun hb => hS _ (h'.1 hb), wpAnyT_mono hS fuel _ a' w' h'.2⟩) (h.2 i hi)⟩
theorem wpAnyT_done {B : Nat → Bool} {listed : Array Bool} {a : Act} {w : World} (hr : Region.ready md ops listed = []) (h : Q a w) : ∀ fuel, wpAnyT P md ops S B Q fuel listed a w
  | 0 => ⟨hr, h⟩
  | _ + 1 => ⟨fun _ => h, by rw [hr]; simp⟩
/-- A call, as the only operation that may come up. -/
theorem wpAnyT_one {i : Nat} {o : Oper} {fuel : Nat} {listed : Array Bool} {a : Act} {w : World} (ho : ops[i]? = some o) (hr : Region.ready md ops listed = [i])
    (h : ∀ K : Act → World → Prop, (∀ a' w', S w' → wpAnyT P md ops S (fun _ => false) Q fuel (listed.setIfInBounds i true) a' w' → K a' w') → wpList P ops (Aft K) [o] a w) : wpAnyT P md ops S (fun _ => false) Q (fuel + 1) listed a w := by
  refine wpAnyT_all hr (by simp) fun j hj => ?_
  obtain rfl : j = i := by simpa using hj
  exact Aft.op ho (fun _ _ h => h) (h (fun a' w' => S w' ∧ wpAnyT P md ops S (fun _ => false) Q fuel (listed.setIfInBounds j true) a' w') fun _ _ h1 h2 => ⟨h1, h2⟩)
theorem wpAny_heldAll {L : List Oper} {a : Act} {w : World} (h : wpAnyT P .any L.toArray S (fun _ => false) Q L.toArray.size (Array.replicate L.toArray.size false) a w) : wpAny P .any L.toArray (Aft Q) L.toArray.size (Array.replicate L.toArray.size false) a w := wpAny_of_T _ _ _ _ h
theorem wp_region_heldAll {id : Nat} {Q : Exit → Act → World → Prop} {a : Act} {w : World} {L : List Oper} (S : World → Prop) (hm : P.follows .mixedOrders = true)
    (h : ∀ W, W = w.drew → wpAnyT P .any L.toArray S (fun _ => false) (fun a w => Q .normal a w) L.toArray.size (Array.replicate L.toArray.size false) a W) : (Code.region id L.toArray true).wp P Q a w := by
  refine Code.wp_mono (Q := Aft fun a w => Q .normal a w) (fun e a w h => ?_) (wp_region_any hm (wpAny_heldAll (h _ rfl)))
  obtain ⟨rfl, h⟩ := h
  exact h
end
theorem wp_region_held {P : Program} {id : Nat} {Q : Exit → Act → World → Prop} {a : Act} {w : World} {L : List Oper} (n : Nat) (S : World → Prop) (hm : P.follows .mixedOrders = true) (hB : heldB L.toArray n = true)
    (h : ∀ W, W = w.drew → S W ∧ wpHead P L.toArray S (fun a' => wpTail P L.toArray S (waitsAll L.toArray n) (fun a w => Q .normal a w) n (L.drop n) a' W) (L.take n) a) : (Code.region id L.toArray true).wp P Q a w := by
  refine Code.wp_mono (Q := Aft fun a w => Q .normal a w) (fun e a w h => ?_) (wp_region_any hm (wpAny_held n hB (h _ rfl).1 (h _ rfl).2))
  obtain ⟨rfl, h⟩ := h
  exact h
theorem wpIn_region_held {P : Program} {l id : Nat} {Q : Exit → Act → World → Prop} {a : Act} {w : World} {L : List Oper} (n : Nat) (S : World → Prop) (hm : P.follows .mixedOrders = true) (hB : heldB L.toArray n = true) (hd : noDefer L = true)
    (h : ∀ W, W = w.drew → S W ∧ wpHead P L.toArray S (fun a' => wpTail P L.toArray S (waitsAll L.toArray n) (fun a w => Q .normal a w) n (L.drop n) a' W) (L.take n) a) : (Code.region id L.toArray true).wpIn (Fence.wide.inRound l) 0 P Q a w :=
  wpIn_region_any hm (wpAnyIn_of_plain hd _ _ _ _ (wpAny_held n hB (h _ rfl).1 (h _ rfl).2))
section
variable {P : Program} {ops : Array Oper} {md : Region.Mode} {S : World → Prop} {Q : Act → World → Prop} {B : Nat → Bool}
theorem wpAnyT_takeB {i : Nat} {oi : Oper} {fuel : Nat} {listed : Array Bool} {a : Act} {w : World} (v : Value) (hi : ops[i]? = some oi) (hs : Region.noSelect ops = true) (hB : ∀ j, B j = true → Region.waitsFor md ops j i = true) (hf : Region.free md ops listed i = true)
    (hr : (Region.ready md ops listed).contains i = true) (hg : Region.wanted oi (yielded ops a.tmps) = true) (hy : ∀ w, S w → (execOp a.eval oi).run P w = .ok (.value v) w) (hS : S w)
    (h : wpAnyT P md ops S B Q fuel (listed.setIfInBounds i true) (a.put oi.dst v) w) : wpAnyT P md ops S B Q (fuel + 1) listed a w :=
  wpAnyT_first hi (Region.noSelect_spec hs) hB fuel listed a w (Region.free_spec hi hf) (by simpa using hr) (.inl ⟨hg, hy⟩) hS h
theorem wpAnyT_oneB {i : Nat} {o : Oper} {fuel : Nat} {listed : Array Bool} {a : Act} {w : World} (ho : ops[i]? = some o) (hr : Region.ready md ops listed = [i])
    (h : ∀ K : Act → World → Prop, (∀ a' w', (B i = false → S w') → wpAnyT P md ops S B Q fuel (listed.setIfInBounds i true) a' w' → K a' w') → wpList P ops (Aft K) [o] a w) : wpAnyT P md ops S B Q (fuel + 1) listed a w := by
  refine ⟨fun h0 => (by rw [hr] at h0; cases h0), fun j hj => ?_⟩
  rw [hr] at hj
  obtain rfl : j = i := by simpa using hj
  exact Aft.op ho (fun _ _ h => h) (h (fun a' w' => (B j = false → S w') ∧ wpAnyT P md ops S B Q fuel (listed.setIfInBounds j true) a' w') fun _ _ h1 h2 => ⟨h1, h2⟩)
theorem wp_region_heldB {id : Nat} {Q : Exit → Act → World → Prop} {a : Act} {w : World} {L : List Oper} (S : World → Prop) (B : Nat → Bool) (hm : P.follows .mixedOrders = true)
    (h : ∀ W, W = w.drew → wpAnyT P .any L.toArray S B (fun a w => Q .normal a w) L.toArray.size (Array.replicate L.toArray.size false) a W) : (Code.region id L.toArray true).wp P Q a w := by
  refine Code.wp_mono (Q := Aft fun a w => Q .normal a w) (fun e a w h => ?_) (wp_region_any hm (wpAny_of_T _ _ _ _ (h _ rfl)))
  obtain ⟨rfl, h⟩ := h
  exact h
end
/-- append of one element that lies in a new block, in a round of a range over a function. -/
theorem wpListIn_append1 {F : Fence} {nF : Nat} {α : Type} {enc : α → List Value} {P : Program} {ops : Array Oper} {rest : List Oper} {o : Oper} {a : Act} {w : World} {Q : Exit → Act → World → Prop} (hgd : o.guard = none) (s x : Operand) (t : TypeId)
    (ho : o.op = .call { callee := .builtin .append, args := #[s, x], argTypes := #[t, t] })
    (base : Nat) (e : TypeId) (z : Value) (size bytes : Nat) (ht : P.underlying t = some (.slice e)) (hi : (P.info? e).map (fun i => (i.zero, i.size, i.bytes)) = some (some z, size, bytes)) (hzs : z.cells.size = size) (hsz : 0 < size)
    (v : Value) (l : List α) (y : α) (g : Nat) (hs : a.eval s = v) (hown : Own enc size w base e v l) (hx : a.eval x = .slice (some ⟨g, 0, none⟩) 1 1)
    (hnew : ∀ j u, (enc y)[j]? = some u → w.cell? ⟨g, j, none⟩ = some u) (h1 : ∀ u ∈ enc y, u.oneCell' = true) (hlen : (l.length + 1) * bytes ≤ 140737488355328) (hb : 0 < bytes) (hbase : base ≤ w.heap.size)
    (h : ∀ v' w', Own enc size w' base e v' (l ++ [y]) → w.grownBy w' v.ownBlock → (∃ g' c', v' = .slice (some ⟨g', 0, none⟩) (l.length + 1) c' ∧ (v.ownBlock = some g' ∨ g' = w.heap.size)) → wpListIn F nF P ops Q rest (a.put o.dst v') w') : wpListIn F nF P ops Q (o :: rest) a w := by
  cases hq : P.info? e with
  | none => rw [hq] at hi; cases hi
  | some i =>
    rw [hq] at hi
    simp only [Option.map_some, Option.some.injEq, Prod.mk.injEq] at hi
    obtain ⟨hz, hsize, hby⟩ := hi
    have hm : l.length + 1 ≤ maxLen := by
      have : (l.length + 1) * 1 ≤ (l.length + 1) * bytes := Nat.mul_le_mul_left _ hb
      unfold maxLen; omega
    refine wpListIn_append_own_at w hgd s x t ho base e i z size bytes ht hq hz hsize hby hzs hsz v l.length (l.flatMap enc) hs hown.2 ⟨g, 0, none⟩ 1 1 (enc y) hx (by rw [hown.1, Nat.one_mul]) (fun j u hu => ?_) h1 hm hlen hbase ?_
    · have := hnew j u hu
      rw [add_lit]
      exact this
    · intro v' w' h2 h3 h4 h6
      have ho' : Own enc size w' base e v' (l ++ [y]) := by
        refine ⟨hown.1, ?_⟩
        rw [List.length_append, List.flatMap_append]
        simpa using h2
      refine h v' w' ho' h3 ?_
      rcases ho'.form with ⟨_, h5⟩ | ⟨g', c', h5, _⟩
      · exact absurd h5 (by simp)
      · rw [List.length_append] at h5
        refine ⟨g', c', h5, ?_⟩
        rw [h5] at h6
        rcases h6 with h6 | h6
        · exact .inl h6.symm
        · exact .inr (by injection h6)
end Go.Proofs.Ytnhgdjiljjpgmaa
