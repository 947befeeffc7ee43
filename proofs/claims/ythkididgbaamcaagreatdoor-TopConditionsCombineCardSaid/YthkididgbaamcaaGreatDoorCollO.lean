/-
  Slices of slices of the call's own, apart from the blocks of an iterator.
  Conditions: none.
-/
import Derived.Test.YthkididgbaamcaaGreatDoorSeqA
import Derived.Test.YthkididgbaamcaaGreatDoorOwned
import Derived.Test.YthkididgbaamcaaGreatDoorHeldA
namespace Go.Proofs.YthkididgbaamcaaGreatDoor
open Go.RowKit

theorem wpIn_region_heldAll {P : Program} {l id : Nat} {Q : Exit → Act → World → Prop} {a : Act} {w : World} {L : List Oper} (S : World → Prop) (hm : P.follows .mixedOrders = true) (hd : noDefer L = true)
    (h : ∀ W, W = w.drew → wpAnyT P .any L.toArray S (fun _ => false) (fun a w => Q .normal a w) L.toArray.size (Array.replicate L.toArray.size false) a W) : (Code.region id L.toArray true).wpIn (Fence.wide.inRound l) 0 P Q a w :=
  wpIn_region_any hm (wpAnyIn_of_plain hd _ _ _ _ (wpAny_heldAll (h _ rfl)))

/-- A slice u of the slices vs, which read as ws; none of their blocks is one of O. -/
structure CV {α : Type} (O : Nat → Prop) (e1 e2 : TypeId) (enc : α → List Value) (size : Nat) (w : World) (base : Nat) (u : Value) (vs : List Value) (ws : List (List α)) : Prop where
  len : vs.length = ws.length
  own : Own one 1 w base e1 u vs
  row : ∀ (i : Nat) (v : Value) (xs : List α), vs[i]? = some v → ws[i]? = some xs → RowE e2 enc size w v xs
  no : ∀ g, u.ownBlock = some g → ¬ O g
  nos : ∀ (i : Nat) (v : Value) (xs : List α), vs[i]? = some v → ws[i]? = some xs → ∀ a n c, v = .slice (some a) n c → ¬ O a.block
section
variable {α : Type} {O O' : Nat → Prop} {e1 e2 : TypeId} {enc : α → List Value} {size : Nat} {W W' : World} {base : Nat} {u u' y : Value} {vs : List Value} {ws : List (List α)} {ys : List α}
theorem CV.coll (h : CV O e1 e2 enc size W base u vs ws) : Coll e1 e2 enc size W base u ws := ⟨vs, h.len, h.own, h.row⟩
theorem CV.nil (O : Nat → Prop) (W : World) (base : Nat) : CV O e1 e2 enc size W base (.slice none 0 0) [] ([] : List (List α)) :=
  ⟨rfl, Own.nil _ _ _ (fun _ => rfl), fun i v xs h => by simp at h, fun g h => (by cases h), fun i v xs h => by simp at h⟩
theorem CV.ext (h : CV O e1 e2 enc size W base u vs ws) (hE : Ext W W') : CV O e1 e2 enc size W' base u vs ws :=
  ⟨h.len, h.own.ext hE, fun i v xs hv hx => (h.row i v xs hv hx).ext hE, h.no, h.nos⟩
theorem CV.offc {B : Nat} (h : CV O e1 e2 enc size W base u vs ws) (hC : OffC B O W W') (hG : Grow O O' W W') : CV O' e1 e2 enc size W' base u vs ws := by
  refine ⟨h.len, h.own.offc hC (fun g cap hu => h.no g (by rw [hu]; rfl)), fun i v xs hv hx => ?_, fun g hg hO => ?_, fun i v xs hv hx a n c hva hO => ?_⟩
  · have hr := h.row i v xs hv hx
    have key : ∀ (a : Addr) (n c : Nat), v = .slice (some a) n c → W'.heap[a.block]? = W.heap[a.block]? := fun a n c hva => by
      obtain ⟨cs, fr, hh⟩ := hr.2 a n c hva
      rw [hC.cells _ _ _ _ hh (h.nos i v xs hv hx a n c hva), hh]
    refine ⟨hr.1.of_block hC.size key, fun a n c hva => ?_⟩
    obtain ⟨cs, fr, hh⟩ := hr.2 a n c hva
    exact ⟨cs, fr, (key a n c hva).trans hh⟩
  · rcases (hG g hO).1 with h1 | h1
    · exact h.no g hg h1
    · have := (h.own.2.lt g hg).2; omega
  · obtain ⟨cs, fr, hh⟩ := (h.row i v xs hv hx).2 a n c hva
    rcases (hG _ hO).1 with h1 | h1
    · exact h.nos i v xs hv hx a n c hva h1
    · have := lt_of_heap hh; omega
theorem CV.push (h : CV O e1 e2 enc size W base u vs ws) (hO : ∀ k, O k → k < W.heap.size) (hne : e2 ≠ e1) (hown : Own one 1 W' base e1 u' (vs ++ [y])) (hg : W.grownBy W' u.ownBlock)
    (hf : ∃ g' c', u' = .slice (some ⟨g', 0, none⟩) (vs.length + 1) c' ∧ (u.ownBlock = some g' ∨ g' = W.heap.size)) (hy : RowE e2 enc size W y ys) (hyO : ∀ a n c, y = .slice (some a) n c → ¬ O a.block) :
    CV O e1 e2 enc size W' base u' (vs ++ [y]) (ws ++ [ys]) := by
  have hl := h.len
  have hty := h.own.typed
  have cases_ : ∀ (i : Nat) (v : Value) (xs : List α), (vs ++ [y])[i]? = some v → (ws ++ [ys])[i]? = some xs → (vs[i]? = some v ∧ ws[i]? = some xs) ∨ (v = y ∧ xs = ys) := fun i v xs hv hx => by
    by_cases hlt : i < vs.length
    · rw [List.getElem?_append_left hlt] at hv
      rw [List.getElem?_append_left (by omega)] at hx
      exact .inl ⟨hv, hx⟩
    · rw [List.getElem?_append_right (by omega)] at hv
      rw [List.getElem?_append_right (by omega)] at hx
      rcases Nat.eq_zero_or_pos (i - vs.length) with h0 | h0
      · rw [h0] at hv
        rw [show i - ws.length = 0 by omega] at hx
        simp only [List.getElem?_cons_zero, Option.some.injEq] at hv hx
        exact .inr ⟨hv.symm, hx.symm⟩
      · rw [List.getElem?_eq_none (by simp; omega)] at hv; cases hv
  refine ⟨by simp [hl], hown, fun i v xs hv hx => ?_, fun g hg' hOg => ?_, fun i v xs hv hx a n c hva => ?_⟩
  · rcases cases_ i v xs hv hx with ⟨h1, h2⟩ | ⟨rfl, rfl⟩
    · exact (h.row i v xs h1 h2).grown hg hty hne
    · exact hy.grown hg hty hne
  · obtain ⟨g', c', rfl, h2⟩ := hf
    obtain rfl : g' = g := by injection hg'
    rcases h2 with h2 | h2
    · exact h.no _ h2 hOg
    · have := hO _ hOg; omega
  · rcases cases_ i v xs hv hx with ⟨h1, h2⟩ | ⟨rfl, rfl⟩
    · exact h.nos i v xs h1 h2 a n c hva
    · exact hyO a n c hva
end
theorem CV.setOther {α : Type} {O : Nat → Prop} {e1 e2 : TypeId} {enc : α → List Value} {size : Nat} {W : World} {base : Nat} {u : Value} {vs : List Value} {ws : List (List α)} (h : CV O e1 e2 enc size W base u vs ws) {b : Nat} {cs : Array Value} {e : TypeId} {fr : Nat × Nat}
    (hb : W.heap[b]? = some (.cells cs e fr)) (h1 : e ≠ e1) (h2 : e ≠ e2) (o : Nat) (x : Value) : CV O e1 e2 enc size (W.setCell ⟨b, o, none⟩ x) base u vs ws := by
  have key : ∀ (k : Nat) (cs' : Array Value) (e' : TypeId) (fr' : Nat × Nat), W.heap[k]? = some (.cells cs' e' fr') → e' = e1 ∨ e' = e2 → (W.setCell ⟨b, o, none⟩ x).heap[k]? = W.heap[k]? := fun k cs' e' fr' hh he =>
    Below.heap_setCell _ _ _ _ fun hk => by
      have hk : k = b := hk
      subst hk
      rw [hb] at hh
      injection hh with hh
      injection hh with _ hh
      subst hh
      rcases he with he | he
      · exact h1 he
      · exact h2 he
  refine ⟨h.len, ?_, fun i v xs hv hx => ?_, h.no, h.nos⟩
  · have ho := h.own
    refine ⟨ho.1, ho.2.1, ?_⟩
    rcases ho.2.2 with h3 | ⟨g, cap, cur, h3, h4, h5, h6⟩
    · exact .inl h3
    · exact .inr ⟨g, cap, cur, h3, h4, (key _ _ _ _ h5 (.inl rfl)).trans h5, h6⟩
  · have hr := h.row i v xs hv hx
    have kk : ∀ (a : Addr) (n c : Nat), v = .slice (some a) n c → (W.setCell ⟨b, o, none⟩ x).heap[a.block]? = W.heap[a.block]? := fun a n c hva => by
      obtain ⟨cs, fr, hh⟩ := hr.2 a n c hva
      exact key _ _ _ _ hh (.inr rfl)
    refine ⟨hr.1.of_block (by simp) kk, fun a n c hva => ?_⟩
    obtain ⟨cs, fr, hh⟩ := hr.2 a n c hva
    exact ⟨cs, fr, (kk a n c hva).trans hh⟩
theorem KFO.grown {B : Nat} {O : Nat → Prop} {W W' : World} {row : Option Nat} (hg : W.grownBy W' row) (hO : ∀ k, O k → k < W.heap.size) (hr : ∀ g, row = some g → (∃ c e fr, W.heap[g]? = some (.cells c e fr)) ∧ ¬ O g) : KFO B O W W' :=
  ⟨KF.grown hg (fun g h => .inr (hr g h).1), fun k hk => hg.block k (hO k hk) (fun he => (hr k he.symm).2 hk)⟩
theorem Coll.putObj {α : Type} {e1 e2 : TypeId} {enc : α → List Value} {size : Nat} {W : World} {base : Nat} {u : Value} {ws : List (List α)} (h : Coll e1 e2 enc size W base u ws) {M : Nat} {o o' : Obj} (hM : W.heap[M]? = some o) (hc : o.isCells = false) : Coll e1 e2 enc size (W.putObj M o') base u ws := by
  obtain ⟨vs, h1, h2, h3⟩ := h
  have hb : ∀ (k : Nat) (cs : Array Value) (e : TypeId) (fr : Nat × Nat), W.heap[k]? = some (.cells cs e fr) → (W.putObj M o').heap[k]? = W.heap[k]? := fun k cs e fr hh =>
    World.putObj_heap_other (fun he => by rw [he, hM] at hh; cases hh; cases hc)
  have hty := h2.typed
  refine ⟨vs, h1, h2.chg (B := 0) ⟨rfl, rfl, rfl, by simp, fun k h1 => absurd h1 (Nat.not_lt_zero _), fun k c e fr hh => (hb k c e fr hh).trans hh⟩, fun i v xs hv hx => ?_⟩
  have hr := h3 i v xs hv hx
  have key : ∀ (a : Addr) (n c : Nat), v = .slice (some a) n c → (W.putObj M o').heap[a.block]? = W.heap[a.block]? := fun a n c hva => by
    obtain ⟨cs, fr, hh⟩ := hr.2 a n c hva
    exact hb _ _ _ _ hh
  refine ⟨hr.1.of_block (by simp) key, fun a n c hva => ?_⟩
  obtain ⟨cs, fr, hh⟩ := hr.2 a n c hva
  exact ⟨cs, fr, (key a n c hva).trans hh⟩
end Go.Proofs.YthkididgbaamcaaGreatDoor
