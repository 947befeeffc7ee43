/-
  Variables in blocks of their own: one cell each; results that lie in cells.
  Conditions: none.
-/
import Derived.Test.YtnhgdjiljjpgmaaRep
import Derived.Maps.AppendAt
import Derived.RangeFuncNested
import Derived.RangeFuncBound
import Derived.RangeFuncCalls
import Derived.RangeFuncLeaves
import Derived.RangeFuncRecord
import Derived.OwnWalkIn
import Derived.TacticsInMore
import Derived.LoopNIn
import Derived.LoopIn
namespace Go.Proofs.Ytnhgdjiljjpgmaa
open Go.RowKit

theorem add_lit (g k : Nat) : (⟨g, 0, none⟩ : Addr).add k = ⟨g, k, none⟩ := by unfold Addr.add; split <;> simp_all
/-- The slice value v is the call's own (its block lies at 'base' or beyond), and holds the list l. -/
def Own {α : Type} (enc : α → List Value) (size : Nat) (w : World) (base : Nat) (e : TypeId) (v : Value) (l : List α) : Prop :=
  (∀ x, (enc x).length = size) ∧ w.ownsRow base e size v l.length (l.flatMap enc)
theorem flat_get {α : Type} {enc : α → List Value} {size : Nat} (hs : ∀ x, (enc x).length = size) : ∀ (l : List α) (i j : Nat) (x : α), l[i]? = some x → j < size → (l.flatMap enc)[i * size + j]? = (enc x)[j]? := by
  intro l
  induction l with
  | nil => intro i j x h; simp at h
  | cons y l ih =>
    intro i j x h hj
    rw [List.flatMap_cons]
    cases i with
    | zero =>
      simp only [List.getElem?_cons_zero, Option.some.injEq] at h
      subst h
      rw [Nat.zero_mul, Nat.zero_add, List.getElem?_append_left (by rw [hs]; exact hj)]
    | succ i =>
      rw [List.getElem?_cons_succ] at h
      rw [List.getElem?_append_right (by rw [hs, Nat.succ_mul]; omega), hs, show (i + 1) * size + j - size = i * size + j by rw [Nat.succ_mul]; omega]
      exact ih i j x h hj
section
variable {α : Type} {enc : α → List Value} {size : Nat} {w : World} {base : Nat} {e : TypeId} {v : Value} {l : List α}
theorem Own.nil (w : World) (base : Nat) (e : TypeId) (hs : ∀ x, (enc x).length = size) : Own enc size w base e (.slice none 0 0) [] := ⟨hs, World.ownsRow_nil w base e size⟩
theorem Own.form (h : Own enc size w base e v l) : (v = .slice none 0 0 ∧ l = []) ∨ ∃ g c, v = .slice (some ⟨g, 0, none⟩) l.length c ∧ base ≤ g ∧ g < w.heap.size ∧ l.length ≤ c ∧ c ≤ 9223372036854775807 := by
  obtain ⟨_, _, h | ⟨g, cap, cur, h1, h2, h3, h4, h5, _⟩⟩ := h
  · exact .inl ⟨h.1, List.eq_nil_of_length_eq_zero h.2⟩
  · refine .inr ⟨g, cap, h1, h2, ?_, h4, h5⟩
    rcases Nat.lt_or_ge g w.heap.size with hlt | hge
    · exact hlt
    · rw [Array.getElem?_eq_none hge] at h3; cases h3
theorem Own.row (h : Own enc size w base e v l) (hl : l.length ≤ 17592186044416) : Row enc size w v l := by
  rcases h.form with ⟨rfl, rfl⟩ | ⟨g, c, rfl, hg, hlt, hc, hm⟩
  · exact Row.nil _ _ _
  · refine ⟨some ⟨g, 0, none⟩, c, rfl, hc, ⟨hm, hl⟩, fun hpos => ⟨g, 0, rfl, hlt, fun i x hx j u hu => ?_⟩⟩
    have hj : j < size := by
      have := h.1 x
      rcases Nat.lt_or_ge j (enc x).length with hh | hh
      · omega
      · rw [List.getElem?_eq_none hh] at hu; cases hu
    have := h.2.cells (g := g) rfl (i * size + j) u (by rw [flat_get h.1 l i j x hx hj]; exact hu)
    rw [add_lit] at this
    rw [Nat.zero_add]
    exact this
theorem Own.alloc (h : Own enc size w base e v l) (o : Obj) : Own enc size (w.alloc o) base e v l := ⟨h.1, h.2.alloc o⟩
theorem Own.ext {W : World} (h : Own enc size w base e v l) (hE : Ext w W) : Own enc size W base e v l := by
  refine ⟨h.1, h.2.1, ?_⟩
  rcases h.2.2 with h2 | ⟨g, cap, cur, h1, h2, h3, h4⟩
  · exact .inl h2
  · refine .inr ⟨g, cap, cur, h1, h2, ?_, h4⟩
    have hlt : g < w.heap.size := by
      rcases Nat.lt_or_ge g w.heap.size with hlt | hge
      · exact hlt
      · rw [Array.getElem?_eq_none hge] at h3; cases h3
    rw [hE.b.block g hlt]; exact h3
theorem Own.kept {w' : World} {row : Option Nat} (h : Own enc size w base e v l) (hg : w.grownBy w' row) (hne : v.ownBlock = none ∨ v.ownBlock ≠ row) : Own enc size w' base e v l := ⟨h.1, h.2.kept hg hne⟩
theorem Own.mono {base' : Nat} (h : Own enc size w base e v l) (hb : base' ≤ base) : Own enc size w base' e v l := by
  refine ⟨h.1, h.2.1, ?_⟩
  rcases h.2.2 with h2 | ⟨g, cap, cur, h1, h2, h3⟩
  · exact .inl h2
  · exact .inr ⟨g, cap, cur, h1, by omega, h3⟩
end
theorem Own.block_ge {α : Type} {enc : α → List Value} {size : Nat} {w : World} {base : Nat} {e : TypeId} {v : Value} {l : List α} (h : Own enc size w base e v l) : ∀ k, v.ownBlock = some k → base ≤ k := fun k hk => (h.2.lt k hk).1
/-- Behind an append to a slice of the call's own (its element in a new block), the elder world lies as it lay. -/
theorem Ext.appended {α : Type} {enc : α → List Value} {size : Nat} {w W W' : World} {e : TypeId} {v : Value} {l : List α} {o : Obj} (hE : Ext w W) (h : Own enc size W w.heap.size e v l) (hg : (W.alloc o).grownBy W' v.ownBlock) : Ext w W' :=
  (hE.alloc o).grown hg h.block_ge
/-- append of one element that lies in a new block. -/
theorem wpList_append1 {α : Type} {enc : α → List Value} {P : Program} {ops : Array Oper} {rest : List Oper} {o : Oper} {a : Act} {w : World} {Q : Exit → Act → World → Prop} (hgd : o.guard = none) (s x : Operand) (t : TypeId)
    (ho : o.op = .call { callee := .builtin .append, args := #[s, x], argTypes := #[t, t] })
    (base : Nat) (e : TypeId) (z : Value) (size bytes : Nat) (ht : P.underlying t = some (.slice e)) (hi : (P.info? e).map (fun i => (i.zero, i.size, i.bytes)) = some (some z, size, bytes)) (hzs : z.cells.size = size) (hsz : 0 < size)
    (v : Value) (l : List α) (y : α) (g : Nat) (hs : a.eval s = v) (hown : Own enc size w base e v l) (hx : a.eval x = .slice (some ⟨g, 0, none⟩) 1 1)
    (hnew : ∀ j u, (enc y)[j]? = some u → w.cell? ⟨g, j, none⟩ = some u) (h1 : ∀ u ∈ enc y, u.oneCell' = true) (hlen : (l.length + 1) * bytes ≤ 140737488355328) (hb : 0 < bytes) (hbase : base ≤ w.heap.size)
    (h : ∀ v' w', Own enc size w' base e v' (l ++ [y]) → w.grownBy w' v.ownBlock → (∃ g' c', v' = .slice (some ⟨g', 0, none⟩) (l.length + 1) c' ∧ (v.ownBlock = some g' ∨ g' = w.heap.size)) → wpList P ops Q rest (a.put o.dst v') w') : wpList P ops Q (o :: rest) a w := by
  cases hq : P.info? e with
  | none => rw [hq] at hi; cases hi
  | some i =>
    rw [hq] at hi
    simp only [Option.map_some, Option.some.injEq, Prod.mk.injEq] at hi
    obtain ⟨hz, hsize, hby⟩ := hi
    have hm : l.length + 1 ≤ maxLen := by
      have : (l.length + 1) * 1 ≤ (l.length + 1) * bytes := Nat.mul_le_mul_left _ hb
      unfold maxLen; omega
    refine wpList_append_own_at w hgd s x t ho base e i z size bytes ht hq hz hsize hby hzs hsz v l.length (l.flatMap enc) hs hown.2 ⟨g, 0, none⟩ 1 1 (enc y) hx (by rw [hown.1, Nat.one_mul]) (fun j u hu => ?_) h1 hm hlen hbase ?_
    · have := hnew j u hu
      rw [add_lit]
      exact this
    · intro v' w' h2 h3 h4 h6
      have ho' : Own enc size w' base e v' (l ++ [y]) := by
        refine ⟨hown.1, ?_⟩
        rw [List.length_append, List.flatMap_append]
        simpa using h2
      refine h v' w' ho' h3 ?_
      rcases ho'.form with ⟨_, h5⟩ | ⟨g', c', h5, _⟩
      · exact absurd h5 (by simp)
      · rw [List.length_append] at h5
        refine ⟨g', c', h5, ?_⟩
        rw [h5] at h6
        rcases h6 with h6 | h6
        · exact .inl h6.symm
        · exact .inr (by injection h6)
theorem int_info : (Try.prog.info? 3).map (fun i => (i.zero, i.size, i.bytes)) = some (some (.int .i64 0), 1, 8) := by kernel_rfl
theorem cell_new1 (w : World) (x : Value) (t : TypeId) : ∀ j u, (one x)[j]? = some u → (w.alloc (.cells #[x] t)).cell? ⟨w.heap.size, j, none⟩ = some u := by
  intro j u h
  rw [cell_new]
  cases j with
  | zero => simpa using h
  | succ j => simp at h

theorem int_one (x : Int) : ∀ u ∈ icells x, u.oneCell' = true := by simp [Value.oneCell']
theorem Own.empty {α : Type} {enc : α → List Value} {size : Nat} {w : World} {base g : Nat} {e : TypeId} (hs : ∀ x, (enc x).length = size) (hb : base ≤ g) (h : w.heap[g]? = some (.cells #[] e (0, 0))) : Own enc size w base e (.slice (some ⟨g, 0, none⟩) 0 0) [] :=
  ⟨hs, by simp, .inr ⟨g, 0, #[], rfl, hb, h, Nat.le_refl _, by simp [maxLen], by simp, by simp⟩⟩
theorem Own.set_other {α : Type} {enc : α → List Value} {size : Nat} {w : World} {base : Nat} {e : TypeId} {v : Value} {l : List α} (h : Own enc size w base e v l) {a : Addr} (ha : a.block < base) (u : Value) : Own enc size (w.setCell a u) base e v l := by
  refine ⟨h.1, h.2.1, ?_⟩
  rcases h.2.2 with h2 | ⟨g, cap, cur, h1, h2, h3, h4⟩
  · exact .inl h2
  · exact .inr ⟨g, cap, cur, h1, h2, (Below.heap_setCell _ _ _ _ (by omega)).trans h3, h4⟩
theorem frozen_of {W : World} {b j : Nat} {c : Array Value} {t : TypeId} (h : W.heap[b]? = some (.cells c t (0, 0))) : W.frozen? ⟨b, j, none⟩ = false := by
  unfold World.frozen?; show (match W.heap[b]? with | some (Obj.cells c elem (lo, hi)) => decide (lo ≤ j) && decide (j < hi) | x => false) = false; rw [h]; simp
theorem heap_set {W : World} {b j : Nat} {c : Array Value} {t : TypeId} (h : W.heap[b]? = some (.cells c t (0, 0))) (u : Value) : (W.setCell ⟨b, j, none⟩ u).heap[b]? = some (.cells (c.setIfInBounds j u) t (0, 0)) := by
  simp only [World.setCell, Array.getElem?_modify, if_true]
  rw [h]; rfl
end Go.Proofs.Ytnhgdjiljjpgmaa

namespace Go.Proofs.Ytnhgdjiljjpgmaa
open Go.RowKit

/-- A slice that reads as a list, in a block of elements of type e. -/
def RowE {α : Type} (e : TypeId) (enc : α → List Value) (size : Nat) (w : World) (v : Value) (xs : List α) : Prop :=
  Row enc size w v xs ∧ ∀ (a : Addr) (n c : Nat), v = .slice (some a) n c → ∃ cur fr, w.heap[a.block]? = some (.cells cur e fr)
theorem RowE.ext {α : Type} {e : TypeId} {enc : α → List Value} {size : Nat} {w W : World} {v : Value} {xs : List α} (h : RowE e enc size w v xs) (hE : Ext w W) : RowE e enc size W v xs := by
  refine ⟨h.1.ext hE, fun a n c hv => ?_⟩
  obtain ⟨cur, fr, hh⟩ := h.2 a n c hv
  refine ⟨cur, fr, ?_⟩
  have hlt : a.block < w.heap.size := by
    rcases Nat.lt_or_ge a.block w.heap.size with hlt | hge
    · exact hlt
    · rw [Array.getElem?_eq_none hge] at hh; cases hh
  rw [hE.b.block _ hlt]; exact hh
theorem Row.of_block {α : Type} {enc : α → List Value} {size : Nat} {w W : World} {v : Value} {xs : List α} (h : Row enc size w v xs) (hs : w.heap.size ≤ W.heap.size)
    (hb : ∀ (a : Addr) (n c : Nat), v = .slice (some a) n c → W.heap[a.block]? = w.heap[a.block]?) : Row enc size W v xs := by
  obtain ⟨p, c, rfl, h1, h2, h3⟩ := h
  refine ⟨p, c, rfl, h1, h2, fun hl => ?_⟩
  obtain ⟨b, o, rfl, hlt, hc⟩ := h3 hl
  exact ⟨b, o, rfl, by omega, fun i x hx j u hu => (World.cell?_of_block (w := w) (a := ⟨b, o + i * size + j, none⟩) (hb ⟨b, o, none⟩ _ _ rfl)).trans (hc i x hx j u hu)⟩
/-- Another block of another type of element may have been written. -/
theorem RowE.grown {α : Type} {e e' : TypeId} {enc : α → List Value} {size : Nat} {w W : World} {v : Value} {xs : List α} {row : Option Nat} (h : RowE e enc size w v xs) (hg : w.grownBy W row)
    (hr : ∀ g, row = some g → ∃ cur fr, w.heap[g]? = some (.cells cur e' fr)) (hne : e ≠ e') : RowE e enc size W v xs := by
  have hb : ∀ (a : Addr) (n c : Nat), v = .slice (some a) n c → W.heap[a.block]? = w.heap[a.block]? := fun a n c hv => by
    obtain ⟨cur, fr, hh⟩ := h.2 a n c hv
    have hlt : a.block < w.heap.size := by
      rcases Nat.lt_or_ge a.block w.heap.size with hlt | hge
      · exact hlt
      · rw [Array.getElem?_eq_none hge] at hh; cases hh
    refine hg.block _ hlt (fun he => ?_)
    obtain ⟨cur', fr', hh'⟩ := hr _ he.symm
    rw [hh] at hh'
    injection hh' with h1
    injection h1 with _ h2
    exact hne h2
  refine ⟨h.1.of_block hg.size hb, fun a n c hv => ?_⟩
  obtain ⟨cur, fr, hh⟩ := h.2 a n c hv
  exact ⟨cur, fr, by rw [hb a n c hv]; exact hh⟩
theorem RowE.nil {α : Type} (e : TypeId) (enc : α → List Value) (size : Nat) (w : World) : RowE e enc size w (.slice none 0 0) ([] : List α) := ⟨Row.nil _ _ _, fun a n c hv => by cases hv⟩
section
variable {α : Type} {enc : α → List Value} {size : Nat} {w : World} {base : Nat} {e : TypeId} {v : Value} {l : List α}
theorem Own.typed (h : Own enc size w base e v l) : ∀ g, v.ownBlock = some g → ∃ cur fr, w.heap[g]? = some (.cells cur e fr) := by
  intro g hg
  rcases h.2.2 with ⟨rfl, _⟩ | ⟨g', cap, cur, rfl, _, hh, _⟩
  · cases hg
  · injection hg with hg; subst hg; exact ⟨cur, _, hh⟩
theorem Own.rowE (h : Own enc size w base e v l) (hl : l.length ≤ 17592186044416) : RowE e enc size w v l :=
  ⟨h.row hl, fun a n c hv => h.typed a.block (by rw [hv]; rfl)⟩
end
/-- A slice of slices, its own block and those of its elements of different types of element. -/
def Coll {α : Type} (e1 e2 : TypeId) (enc : α → List Value) (size : Nat) (w : World) (base : Nat) (u : Value) (ws : List (List α)) : Prop :=
  ∃ vs : List Value, vs.length = ws.length ∧ Own one 1 w base e1 u vs ∧ ∀ (i : Nat) (v : Value) (xs : List α), vs[i]? = some v → ws[i]? = some xs → RowE e2 enc size w v xs
section
variable {α : Type} {e1 e2 : TypeId} {enc : α → List Value} {size : Nat} {w : World} {base : Nat} {u : Value} {ws : List (List α)}
theorem Coll.nil (w : World) (base : Nat) : Coll e1 e2 enc size w base (.slice none 0 0) ([] : List (List α)) := ⟨[], rfl, Own.nil _ _ _ (fun _ => rfl), fun i v xs h => by simp at h⟩
theorem Coll.ext {W : World} (h : Coll e1 e2 enc size w base u ws) (hE : Ext w W) : Coll e1 e2 enc size W base u ws := by
  obtain ⟨vs, h1, h2, h3⟩ := h
  exact ⟨vs, h1, h2.ext hE, fun i v xs hv hx => (h3 i v xs hv hx).ext hE⟩
/-- An append to another slice of the call's own, of whatever type of element. -/
theorem Coll.kept {W : World} {row : Option Nat} {e' : TypeId} (h : Coll e1 e2 enc size w base u ws) (hg : w.grownBy W row) (hne : u.ownBlock = none ∨ u.ownBlock ≠ row)
    (hr : ∀ g, row = some g → ∃ cur fr, w.heap[g]? = some (.cells cur e' fr)) (he : e2 ≠ e') : Coll e1 e2 enc size W base u ws := by
  obtain ⟨vs, h1, h2, h3⟩ := h
  exact ⟨vs, h1, h2.kept hg hne, fun i v xs hv hx => (h3 i v xs hv hx).grown hg hr he⟩
theorem Coll.typed (h : Coll e1 e2 enc size w base u ws) : ∀ g, u.ownBlock = some g → ∃ cur fr, w.heap[g]? = some (.cells cur e1 fr) := by
  obtain ⟨vs, h1, h2, h3⟩ := h
  exact h2.typed
theorem Coll.lt (h : Coll e1 e2 enc size w base u ws) : ∀ g, u.ownBlock = some g → base ≤ g ∧ g < w.heap.size := by
  obtain ⟨vs, h1, h2, h3⟩ := h
  exact h2.2.lt
theorem Coll.at_ (h : Coll e1 e2 enc size w base u ws) {i : Nat} (hi : i < ws.length) : ∃ g c v, u = .slice (some ⟨g, 0, none⟩) ws.length c ∧ g < w.heap.size ∧ w.cell? ⟨g, i, none⟩ = some v ∧ RowE e2 enc size w v (ws.getD i []) := by
  obtain ⟨vs, h1, h2, h3⟩ := h
  rcases h2.form with ⟨_, hb⟩ | ⟨g, c, rfl, hb, hlt, _⟩
  · subst hb; simp at h1; omega
  · have hvi : vs[i]? = some vs[i] := List.getElem?_eq_getElem (by omega)
    have hf := flat_get (enc := one) (size := 1) (fun _ => rfl) vs i 0 _ hvi (by omega)
    have := h2.2.cells (g := g) rfl (i * 1 + 0) vs[i] (by rw [hf]; rfl)
    rw [add_lit, Nat.mul_one, Nat.add_zero] at this
    refine ⟨g, c, vs[i], by rw [h1], hlt, this, h3 i _ _ hvi ?_⟩
    rw [List.getD_eq_getElem?_getD, List.getElem?_eq_getElem hi]; rfl
theorem Coll.mono {base' : Nat} (h : Coll e1 e2 enc size w base u ws) (hb : base' ≤ base) : Coll e1 e2 enc size w base' u ws := by
  obtain ⟨vs, h1, h2, h3⟩ := h
  exact ⟨vs, h1, h2.mono hb, h3⟩
theorem Coll.rows2 (h : Coll e1 e2 enc size w base u ws) (hl : ws.length ≤ 17592186044416) : Rows2 enc size w u ws := by
  obtain ⟨vs, h1, h2, h3⟩ := h
  exact ⟨vs, h1, h2.row (by omega), fun i v xs hv hx => (h3 i v xs hv hx).1⟩
theorem Coll.block_ge (h : Coll e1 e2 enc size w base u ws) : ∀ k, u.ownBlock = some k → base ≤ k := by
  obtain ⟨vs, h1, h2, h3⟩ := h
  exact h2.block_ge
theorem Coll.form (h : Coll e1 e2 enc size w base u ws) : (u = .slice none 0 0 ∧ ws = []) ∨ ∃ g c, u = .slice (some ⟨g, 0, none⟩) ws.length c ∧ base ≤ g ∧ g < w.heap.size ∧ ws.length ≤ c ∧ c ≤ 9223372036854775807 := by
  obtain ⟨vs, h1, h2, h3⟩ := h
  rcases h2.form with ⟨ha, hb⟩ | hb
  · subst hb; exact .inl ⟨ha, List.eq_nil_of_length_eq_zero h1.symm⟩
  · rw [h1] at hb; exact .inr hb
end
theorem slice_info_one {P : Program} {e : TypeId} (h : (P.info? e).map (fun i => (i.zero, i.size, i.bytes)) = some (some (.slice none 0 0), 1, 24)) : (P.info? e).map (fun i => (i.zero, i.size, i.bytes)) = some (some (.slice none 0 0), 1, 24) := h
/-- append of one slice to a slice of slices. -/
theorem wpList_push {α : Type} {enc : α → List Value} {P : Program} {ops : Array Oper} {rest : List Oper} {o : Oper} {a : Act} {w : World} {Q : Exit → Act → World → Prop} (hgd : o.guard = none) (s x : Operand) (t : TypeId)
    (ho : o.op = .call { callee := .builtin .append, args := #[s, x], argTypes := #[t, t] })
    (base : Nat) (e1 e2 : TypeId) (size : Nat) (hne : e2 ≠ e1) (ht : P.underlying t = some (.slice e1)) (hi : (P.info? e1).map (fun i => (i.zero, i.size, i.bytes)) = some (some (.slice none 0 0), 1, 24))
    (u : Value) (ws : List (List α)) (y : Value) (ys : List α) (g : Nat) (hs : a.eval s = u) (hown : Coll e1 e2 enc size w base u ws) (hx : a.eval x = .slice (some ⟨g, 0, none⟩) 1 1)
    (hnew : ∀ j v, (one y)[j]? = some v → w.cell? ⟨g, j, none⟩ = some v) (hy : RowE e2 enc size w y ys) (hlen : ws.length ≤ 1000000000000) (hbase : base ≤ w.heap.size)
    (h : ∀ v' w', Coll e1 e2 enc size w' base v' (ws ++ [ys]) → w.grownBy w' u.ownBlock → (∃ g' c', v' = .slice (some ⟨g', 0, none⟩) (ws.length + 1) c' ∧ (u.ownBlock = some g' ∨ g' = w.heap.size)) → wpList P ops Q rest (a.put o.dst v') w') : wpList P ops Q (o :: rest) a w := by
  obtain ⟨vs, h1, h2, h3⟩ := hown
  have hyc : y.oneCell' = true := by obtain ⟨⟨p, c, rfl, _⟩, _⟩ := hy; rfl
  refine wpList_append1 hgd s x t ho base e1 (.slice none 0 0) 1 24 ht hi rfl (by decide) u vs y g hs h2 hx hnew (by simpa using hyc) (by omega) (by decide) hbase ?_
  intro v' w' hown' hg hform
  refine h v' w' ⟨vs ++ [y], by simp [h1], hown', fun i v xs hv hx => ?_⟩ hg (by rw [← h1]; exact hform)
  have hty := h2.typed
  by_cases hlt : i < vs.length
  · rw [List.getElem?_append_left hlt] at hv
    rw [List.getElem?_append_left (by omega)] at hx
    exact (h3 i v xs hv hx).grown hg hty hne
  · rw [List.getElem?_append_right (by omega)] at hv
    rw [List.getElem?_append_right (by omega)] at hx
    rcases Nat.eq_zero_or_pos (i - vs.length) with h0 | h0
    · rw [h0] at hv
      rw [show i - ws.length = 0 by omega] at hx
      simp only [List.getElem?_cons_zero, Option.some.injEq] at hv hx
      subst hv hx
      exact hy.grown hg hty hne
    · rw [List.getElem?_eq_none (by simp; omega)] at hv; cases hv

theorem run_append_of_nil {P : Program} (w : World) (base : Nat) (t ty e : TypeId) (i : TypeInfo) (size : Nat) (ht : P.underlying t = some (.slice e)) (hi : P.info? e = some i)
    (v : Value) (n : Nat) (xs : List Value) (hown : w.ownsRow base e size v n xs) (c : Nat) : (Builtin.append_ #[t, t] ty #[v, .slice none 0 c]).run P w = .ok v w := by
  rcases hown.2 with ⟨rfl, rfl⟩ | ⟨g, cap, cur, rfl, _, _, hnc, _⟩
  · simp [Builtin.append_, run_underlying ht, sizeOf, typeInfo, hi, Builtin.lenOf, Builtin.firstCells]
  · simp [Builtin.append_, run_underlying ht, sizeOf, typeInfo, hi, Builtin.lenOf, Builtin.firstCells, hnc, storeCells]
/-- append of a whole slice. -/
theorem wpList_appendN {α : Type} {enc : α → List Value} {P : Program} {ops : Array Oper} {rest : List Oper} {o : Oper} {a : Act} {w : World} {Q : Exit → Act → World → Prop} (hgd : o.guard = none) (s x : Operand) (t : TypeId)
    (ho : o.op = .call { callee := .builtin .append, args := #[s, x], argTypes := #[t, t] })
    (base : Nat) (e : TypeId) (z : Value) (size bytes : Nat) (ht : P.underlying t = some (.slice e)) (hi : (P.info? e).map (fun i => (i.zero, i.size, i.bytes)) = some (some z, size, bytes)) (hzs : z.cells.size = size) (hsz : 0 < size)
    (v : Value) (l : List α) (y : Value) (ys : List α) (hs : a.eval s = v) (hown : Own enc size w base e v l) (hx : a.eval x = y) (hy : Row enc size w y ys)
    (h1 : ∀ x, ∀ u ∈ enc x, u.oneCell' = true) (hlen : (l.length + ys.length) * bytes ≤ 140737488355328) (hb : 0 < bytes) (hbase : base ≤ w.heap.size)
    (h : ∀ v' w', Own enc size w' base e v' (l ++ ys) → w.grownBy w' v.ownBlock → wpList P ops Q rest (a.put o.dst v') w') : wpList P ops Q (o :: rest) a w := by
  cases hq : P.info? e with
  | none => rw [hq] at hi; cases hi
  | some i =>
    rw [hq] at hi
    simp only [Option.map_some, Option.some.injEq, Prod.mk.injEq] at hi
    obtain ⟨hz, hsize, hby⟩ := hi
    obtain ⟨p, c, rfl, hc, _, hat⟩ := hy
    have hm : l.length + ys.length ≤ maxLen := by
      have : (l.length + ys.length) * 1 ≤ (l.length + ys.length) * bytes := Nat.mul_le_mul_left _ hb
      unfold maxLen; omega
    have hflat : ∀ zs : List α, (zs.flatMap enc).length = zs.length * size := fun zs => by
      induction zs with
      | nil => simp
      | cons z zs ih => rw [List.flatMap_cons, List.length_append, ih, hown.1, List.length_cons, Nat.succ_mul]; omega
    have hone : ∀ u ∈ ys.flatMap enc, u.oneCell' = true := fun u hu => by
      rw [List.mem_flatMap] at hu
      obtain ⟨x, _, hu⟩ := hu
      exact h1 x u hu
    have fin : ∀ v' w', w'.ownsRow base e size v' (l.length + ys.length) (l.flatMap enc ++ ys.flatMap enc) → Own enc size w' base e v' (l ++ ys) := fun v' w' h2 => by
      refine ⟨hown.1, ?_⟩
      rw [List.length_append, List.flatMap_append]
      exact h2
    rcases p with _ | ad
    · have hn : ys = [] := by
        apply Classical.byContradiction
        intro hne
        obtain ⟨b, o, h0, _⟩ := hat (List.length_pos_iff.2 hne)
        cases h0
      subst hn
      refine wpList_plain hgd fun K hK => ?_
      have hrun := run_append_of_nil (P := P) w base t o.type e i size ht hq v l.length (l.flatMap enc) hown.2 c
      unfold Oper.wp
      simp only [List.length_nil] at hx
      simp [execOp, ho, resolve, invoke, builtin, hs, hx, hrun, Result.andThen]
      exact hK _ _ (h v w (by simpa using hown) (World.grownBy.refl w _))
    · by_cases hpos : 0 < ys.length
      · obtain ⟨b, of, h0, hlt, hc2⟩ := hat hpos
        injection h0 with h0
        subst h0
        refine wpList_append_own w hgd s x t ho base e i z size bytes ht hq hz hsize hby hzs hsz v l.length (l.flatMap enc) hs hown.2 ⟨b, of, none⟩ ys.length c (ys.flatMap enc) hx (hflat ys) (fun j u hu => ?_) hone hm hlen hbase fun v' w' h2 h3 _ => h v' w' (fin v' w' h2) h3
        have hadd : (⟨b, of, none⟩ : Addr).add j = ⟨b, of + j, none⟩ := by unfold Addr.add; split <;> simp_all
        rw [hadd]
        have hjl : j < ys.length * size := by
          rcases Nat.lt_or_ge j (ys.flatMap enc).length with hh | hh
          · rw [← hflat]; exact hh
          · rw [List.getElem?_eq_none hh] at hu; cases hu
        have hdm := Nat.div_add_mod j size
        have hml := Nat.mod_lt j hsz
        have hdl : j / size < ys.length := by
          apply Classical.byContradiction
          intro hge
          have : ys.length * size ≤ j / size * size := Nat.mul_le_mul_right _ (by omega)
          rw [Nat.mul_comm] at hdm
          omega
        have hxe : ys[j / size]? = some ys[j / size] := List.getElem?_eq_getElem hdl
        have hf := flat_get hown.1 ys (j / size) (j % size) _ hxe hml
        have e1 : j / size * size + j % size = j := by rw [Nat.mul_comm]; exact hdm
        rw [e1, hu] at hf
        have := hc2 (j / size) _ hxe (j % size) u hf.symm
        rw [Nat.add_assoc, e1] at this
        exact this
      · have hn : ys = [] := List.eq_nil_of_length_eq_zero (by omega)
        subst hn
        refine wpList_append_own w hgd s x t ho base e i z size bytes ht hq hz hsize hby hzs hsz v l.length (l.flatMap enc) hs hown.2 ad 0 c [] hx (by simp) (fun j u hu => by simp at hu) (by simp) hm hlen hbase fun v' w' h2 h3 _ => h v' w' (fin v' w' h2) h3
end Go.Proofs.Ytnhgdjiljjpgmaa

namespace Go.Proofs.Ytnhgdjiljjpgmaa
open Go.RowKit

/-- W' is W but for new blocks, and blocks from B on that are no cells. -/
structure Chg (B : Nat) (W W' : World) : Prop where
  os : W'.os = W.os
  tape : W'.tape = W.tape
  output : W'.output = W.output
  size : W.heap.size ≤ W'.heap.size
  low : ∀ k, k < B → k < W.heap.size → W'.heap[k]? = W.heap[k]?
  cells : ∀ (k : Nat) (c : Array Value) (e : TypeId) (fr : Nat × Nat), W.heap[k]? = some (Obj.cells c e fr) → W'.heap[k]? = some (Obj.cells c e fr)
theorem Chg.refl (B : Nat) (W : World) : Chg B W W := ⟨rfl, rfl, rfl, Nat.le_refl _, fun _ _ _ => rfl, fun _ _ _ _ h => h⟩
theorem Chg.trans {B : Nat} {W W' W'' : World} (h : Chg B W W') (k : Chg B W' W'') : Chg B W W'' :=
  ⟨k.os.trans h.os, k.tape.trans h.tape, k.output.trans h.output, Nat.le_trans h.size k.size, fun i h1 h2 => (k.low i h1 (Nat.lt_of_lt_of_le h2 h.size)).trans (h.low i h1 h2), fun i c e fr hh => k.cells i c e fr (h.cells i c e fr hh)⟩
theorem lt_of_heap {W : World} {k : Nat} {o : Obj} (h : W.heap[k]? = some o) : k < W.heap.size := by
  rcases Nat.lt_or_ge k W.heap.size with hlt | hge
  · exact hlt
  · rw [Array.getElem?_eq_none hge] at h; cases h
theorem Chg.of_ext {B : Nat} {W W' : World} (h : Ext W W') : Chg B W W' :=
  ⟨h.b.os, h.b.tape, h.b.output, h.b.size, fun k _ hk => h.b.block k hk, fun k _ _ _ hh => (h.b.block k (lt_of_heap hh)).trans hh⟩
theorem Chg.putObj {B l : Nat} {W : World} {o : Obj} (o' : Obj) (hl : W.heap[l]? = some o) (hc : o.isCells = false) (hB : B ≤ l) : Chg B W (W.putObj l o') :=
  ⟨rfl, rfl, rfl, by simp, fun k h1 _ => World.putObj_heap_other (by omega), fun k c e fr hh => by
    rw [World.putObj_heap_other (fun he => by subst he; rw [hl] at hh; cases hh; cases hc)]; exact hh⟩
theorem Ext.chg {w W W' : World} {B : Nat} (h : Ext w W) (hc : Chg B W W') (hB : w.heap.size ≤ B) : Ext w W' :=
  ⟨⟨hc.os.trans h.b.os, hc.tape.trans h.b.tape, hc.output.trans h.b.output, Nat.le_trans h.b.size hc.size, fun k hk => (hc.low k (by omega) (Nat.lt_of_lt_of_le hk h.b.size)).trans (h.b.block k hk)⟩⟩
theorem Own.chg {α : Type} {enc : α → List Value} {size : Nat} {w W : World} {base B : Nat} {e : TypeId} {v : Value} {l : List α} (h : Own enc size w base e v l) (hc : Chg B w W) : Own enc size W base e v l := by
  refine ⟨h.1, h.2.1, ?_⟩
  rcases h.2.2 with h2 | ⟨g, cap, cur, h1, h2, h3, h4⟩
  · exact .inl h2
  · exact .inr ⟨g, cap, cur, h1, h2, hc.cells _ _ _ _ h3, h4⟩

/-- An invariant of cells, or of blocks below B. -/
def QStable (B : Nat) (J : Nat → World → Prop) : Prop := ∀ i W W', J i W → Chg B W W' → J i W'
def QStable1 (B : Nat) (J : World → Prop) : Prop := ∀ W W', J W → Chg B W W' → J W'
/-- THE ITERATOR: called with the loop's yield it yields xs, one after the other, while it is told to go on. D: what it reads, in each world. -/
def Seq (P : Program) (f : Nat) (lb : Array Value) (D : World → Prop) (xs : List (Array Value)) : Prop :=
  ∀ (l : Nat) (J : Nat → World → Prop) (Jx : World → Prop) (W : World), (∀ i W, J i W → D W) → (∀ i W W', J i W → Ext W W' → J i W') → (∀ W W', Jx W → Ext W W' → Jx W') →
    (∀ i x W', xs[i]? = some x → J i W' → YieldAt Fence.wide 0 P l x W' fun e W'' => (e = .returned (.bool true) ∧ J (i + 1) W'') ∨ (e = .returned (.bool false) ∧ Jx W'')) →
    J 0 W → CallsIn Fence.wide 0 P f (#[.func (.yield l) #[] #[]] ++ lb) W fun e W' => (∃ v, e = .returned v) ∧ (J xs.length W' ∨ Jx W')
/-- What is no cells and lies at B or beyond lies as it lay. -/
def KF (B : Nat) (W W' : World) : Prop := W.heap.size ≤ W'.heap.size ∧ ∀ k o, B ≤ k → W.heap[k]? = some o → o.isCells = false → W'.heap[k]? = some o
theorem KF.refl (B : Nat) (W : World) : KF B W W := ⟨Nat.le_refl _, fun _ _ _ h _ => h⟩
theorem KF.trans {B : Nat} {W W' W'' : World} (h : KF B W W') (k : KF B W' W'') : KF B W W'' := ⟨Nat.le_trans h.1 k.1, fun i o h1 h2 h3 => k.2 i o h1 (h.2 i o h1 h2 h3) h3⟩
theorem KF.of_ext {B : Nat} {W W' : World} (h : Ext W W') : KF B W W' := ⟨h.size, fun k _ _ hh _ => (h.b.block k (lt_of_heap hh)).trans hh⟩
theorem KF.setCell {B : Nat} (W : World) (a : Addr) (v : Value) : KF B W (W.setCell a v) := by
  refine ⟨by simp [World.setCell], fun k o _ hh hc => ?_⟩
  by_cases hk : k = a.block
  · subst hk
    simp only [World.setCell, Array.getElem?_modify, hh]
    cases o <;> simp_all [Obj.isCells]
  · rw [Below.heap_setCell _ _ _ _ hk]; exact hh
theorem KF.grown {B : Nat} {W W' : World} {row : Option Nat} (hg : W.grownBy W' row) (hr : ∀ g, row = some g → g < B ∨ ∃ c e fr, W.heap[g]? = some (.cells c e fr)) : KF B W W' := by
  refine ⟨hg.size, fun k o hB hh hc => ?_⟩
  rw [hg.block k (lt_of_heap hh) (fun he => ?_)]
  · exact hh
  · rcases hr k he.symm with h1 | ⟨c, e, fr, h1⟩
    · omega
    · rw [hh] at h1; cases h1; cases hc
/-- What the body of a round must achieve: it goes on, or it leaves by a jump. -/
def rndPost (B : Nat) (W₂ : World) (J : World → Prop) (Jx : Code → World → Prop) : Exit → Act → World → Prop
  | .normal, _, W => KF B W₂ W ∧ J W
  | .ret, _, W => KF B W₂ W ∧ Jx .ret W
  | .exit id, _, W => KF B W₂ W ∧ Jx (.exit id) W
  | .goto t, _, W => KF B W₂ W ∧ Jx (.goto t) W
  | _, _, _ => False
/-- What the assignments to the loop variables must achieve: the body can be walked behind them. -/
def asgPost (P : Program) (l B : Nat) (W : World) (body : Code) (J : World → Prop) (Jx : Code → World → Prop) : Exit → Act → World → Prop :=
  Exit.then (fun a₁ W₁ => KF B W W₁ ∧ ∀ W₂, Chg B W₁ W₂ → body.wpIn (Fence.wide.inRound l) 0 P (rndPost B W₂ J Jx) a₁ W₂) (fun _ _ _ => False)

theorem wp_range {P : Program} {g : Operand} {ps : Array Tmp} {assign body : Code} {Q : Exit → Act → World → Prop} {a : Act} {w : World} {f : Nat} {lb : Array Value} {D : World → Prop} {xs : List (Array Value)}
    (hg : a.eval g = .func (.func f) #[] lb) (ef : ∀ args w, (callFunc f args).run P w = .ok (.enter f args) w) (hseq : Seq P f lb D xs) (hps : ∀ x ∈ xs, x.size = ps.size)
    (J : Nat → World → Prop) (Jx : Code → World → Prop) (hD : ∀ i W, J i W → D W) (hJ : QStable w.heap.size J) (hJx : ∀ c, QStable1 w.heap.size (Jx c)) (h0 : J 0 w)
    (round : ∀ l i x W, xs[i]? = some x → J i W → w.heap.size ≤ l → l < W.heap.size →
      assign.wpIn (Fence.wide.inRound l) 0 P (asgPost P l w.heap.size W body (J (i + 1)) Jx) { tmps := (ps.zip x).foldl (fun t (p, v) => t.setIfInBounds p v) a.tmps, defers := [] } W)
    (done : ∀ M W, J xs.length W → w.heap.size ≤ M → W.heap[M]? = some (.deferred (some [])) → Q .normal { a with defers := { target := .collected M, args := #[] } :: a.defers } W)
    (jump : ∀ M c W, Jx c W → w.heap.size ≤ M → W.heap[M]? = some (.deferred (some [])) → c.wp P Q { a with defers := { target := .collected M, args := #[] } :: a.defers } W) :
    (Code.rangeFunc g ps assign body).wp P Q a w := by
  refine (wpIn_wide (n := 0)).1 ?_
  refine wpIn_rangeFunc ?_
  intro fn hfn
  obtain ⟨rec, hrec⟩ : ∃ rec : LoopState → Option Code → Loop, rec = fun st pe => { state := st, pending := pe, fn, tmps := a.tmps, params := ps, assign, body, defers := w.heap.size } := ⟨_, rfl⟩
  obtain ⟨W1, hW1⟩ : ∃ W1, (w.alloc (.deferred (some []))).alloc (.loop (rec .ready none)) = W1 := ⟨_, rfl⟩
  have hL1 : W1.heap[w.heap.size + 1]? = some (.loop (rec .ready none)) := by
    rw [← hW1]; have := World.alloc_heap_new (w.alloc (.deferred (some []))) (.loop (rec .ready none)); rwa [World.size_alloc] at this
  have hK1 : W1.heap[w.heap.size]? = some (.deferred (some [])) := by
    rw [← hW1]; exact (Below.heap_alloc _ _ _ (by simp)).trans (World.alloc_heap_new w _)
  have hI1 : J 0 W1 := by rw [← hW1]; exact hJ _ _ _ h0 (Chg.of_ext (((Ext.refl w).alloc _).alloc _))
  refine ⟨w.heap.size + 1, [{ target := .collected w.heap.size, args := #[] }], W1, { target := .fn (.func f) lb, args := #[.func (.yield (w.heap.size + 1)) #[] #[]] }, W1, f,
    #[.func (.yield (w.heap.size + 1)) #[] #[]] ++ lb, W1, ?_, ?_, ?_, ?_, fun h => by simp [Fence.wide] at h, ?_⟩
  · rw [← hW1, hrec]; exact run_enterLoop_outer _ _ _ _ _
  · simp only [resolve, hg]
    simp [go_sem]
  · intro f' _; trivial
  · simp [invoke, go_sem, ef]
  · refine (hseq (w.heap.size + 1)
      (fun i W => J i W ∧ W.heap[w.heap.size + 1]? = some (.loop (rec .ready none)) ∧ W.heap[w.heap.size]? = some (.deferred (some [])))
      (fun W => ∃ c, Jx c W ∧ W.heap[w.heap.size + 1]? = some (.loop (rec .done (some c))) ∧ W.heap[w.heap.size]? = some (.deferred (some [])))
      W1 (fun i W h => hD i W h.1)
      (fun i W W' h hE => ⟨hJ i W W' h.1 (Chg.of_ext hE), (hE.b.block _ (lt_of_heap h.2.1)).trans h.2.1, (hE.b.block _ (lt_of_heap h.2.2)).trans h.2.2⟩)
      (fun W W' h hE => by
        obtain ⟨c, hc, hl, hk⟩ := h
        exact ⟨c, hJx c W W' hc (Chg.of_ext hE), (hE.b.block _ (lt_of_heap hl)).trans hl, (hE.b.block _ (lt_of_heap hk)).trans hk⟩)
      ?_ ⟨hI1, hL1, hK1⟩).mono ?_
    · rintro i x W hx ⟨hi, hl, hk⟩
      have hlt : w.heap.size + 1 < W.heap.size := lt_of_heap hl
      have hy := run_yield (P := P) (args := x) hl (by rw [hrec]; exact hps x (List.mem_iff_getElem?.2 ⟨i, hx⟩))
      rw [hrec] at hy
      refine ⟨fn, _, assign, body, hy, roundIn_of_wpIn hfn ?_⟩
      refine wpIn_mono (round (w.heap.size + 1) i x W hx hi (by omega) hlt) ?_
      rintro e a1 W1' hp
      cases e with
      | normal =>
        obtain ⟨hkf, hbody⟩ := hp
        have hl1 := hkf.2 _ _ (by omega) hl rfl
        have hk1 := hkf.2 _ _ (Nat.le_refl _) hk rfl
        have hlt1 : w.heap.size + 1 < W1'.heap.size := lt_of_heap hl1
        refine ⟨_, run_beginRound hl1 (by rw [hrec]), ?_⟩
        have hl2 : (W1'.putObj (w.heap.size + 1) (.loop { rec .ready none with state := .busy })).heap[w.heap.size + 1]? = some (.loop { rec .ready none with state := .busy }) := World.putObj_heap_same hlt1
        have hk2 : (W1'.putObj (w.heap.size + 1) (.loop { rec .ready none with state := .busy })).heap[w.heap.size]? = some (.deferred (some [])) := (World.putObj_heap_other (by omega)).trans hk1
        refine wpIn_mono (hbody _ (Chg.putObj _ hl1 rfl (by omega))) ?_
        have fin : ∀ (jump : Option Code) (W3 : World), KF w.heap.size (W1'.putObj (w.heap.size + 1) (.loop { rec .ready none with state := .busy })) W3 →
            (Instr.endRound (w.heap.size + 1) jump).run P W3 = .ok (.bool jump.isNone) (W3.putObj (w.heap.size + 1) (.loop (rec (if jump.isNone then .ready else .done) jump))) ∧
            W3.heap[w.heap.size + 1]? = some (.loop { rec .ready none with state := .busy }) ∧
            (W3.putObj (w.heap.size + 1) (.loop (rec (if jump.isNone then .ready else .done) jump))).heap[w.heap.size + 1]? = some (.loop (rec (if jump.isNone then .ready else .done) jump)) ∧
            (W3.putObj (w.heap.size + 1) (.loop (rec (if jump.isNone then .ready else .done) jump))).heap[w.heap.size]? = some (.deferred (some [])) := fun jump W3 hk3 => by
          have hl3 := hk3.2 _ _ (by omega) hl2 rfl
          have := run_endRound (P := P) jump hl3
          rw [hrec] at this ⊢
          exact ⟨this, by rw [hrec] at hl3; exact hl3, World.putObj_heap_same (lt_of_heap hl3), (World.putObj_heap_other (by omega)).trans (hk3.2 _ _ (Nat.le_refl _) hk2 rfl)⟩
        rintro e a3 W3 hp
        cases e with
        | normal =>
          obtain ⟨hk3, hi3⟩ := hp
          obtain ⟨hr, hl3, hl4, hk4⟩ := fin none W3 hk3
          exact ⟨_, _, hr, .inl ⟨rfl, hJ _ _ _ hi3 (Chg.putObj _ hl3 rfl (by omega)), hl4, hk4⟩⟩
        | ret =>
          obtain ⟨hk3, hi3⟩ := hp
          obtain ⟨hr, hl3, hl4, hk4⟩ := fin (some .ret) W3 hk3
          exact ⟨_, _, hr, .inr ⟨rfl, .ret, hJx _ _ _ hi3 (Chg.putObj _ hl3 rfl (by omega)), hl4, hk4⟩⟩
        | exit id =>
          obtain ⟨hk3, hi3⟩ := hp
          obtain ⟨hr, hl3, hl4, hk4⟩ := fin (some (.exit id)) W3 hk3
          exact ⟨_, _, hr, .inr ⟨rfl, .exit id, hJx _ _ _ hi3 (Chg.putObj _ hl3 rfl (by omega)), hl4, hk4⟩⟩
        | goto t =>
          obtain ⟨hk3, hi3⟩ := hp
          obtain ⟨hr, hl3, hl4, hk4⟩ := fin (some (.goto t)) W3 hk3
          exact ⟨_, _, hr, .inr ⟨rfl, .goto t, hJx _ _ _ hi3 (Chg.putObj _ hl3 rfl (by omega)), hl4, hk4⟩⟩
        | panic ch => exact hp.elim
        | outgrown => exact hp.elim
      | exit id => exact hp.elim
      | goto t => exact hp.elim
      | ret => exact hp.elim
      | panic ch => exact hp.elim
      | outgrown => exact hp.elim
    · rintro e W2 ⟨⟨v, rfl⟩, (⟨hi, hl, hk⟩ | ⟨c, hi, hl, hk⟩)⟩
      · have hc : Chg w.heap.size W2 (W2.putObj (w.heap.size + 1) (.loop { rec .ready none with state := .exhausted })) := Chg.putObj _ hl rfl (by omega)
        exact ⟨none, _, by have := run_endLoop (P := P) hl (by rw [hrec]; simp); rw [hrec] at this; exact this, done _ _ (hJ _ _ _ hi (by rw [hrec] at hc; exact hc)) (Nat.le_refl _) ((World.putObj_heap_other (by omega)).trans hk)⟩
      · have hc : Chg w.heap.size W2 (W2.putObj (w.heap.size + 1) (.loop { rec .done (some c) with state := .exhausted })) := Chg.putObj _ hl rfl (by omega)
        exact ⟨some c, _, by have := run_endLoop (P := P) hl (by rw [hrec]; simp); rw [hrec] at this; exact this, (wpIn_wide (n := 0)).2 (jump _ c _ (hJx c _ _ hi (by rw [hrec] at hc; exact hc)) (Nat.le_refl _) ((World.putObj_heap_other (by omega)).trans hk))⟩

/-- A function that holds such a loop: its contract out of its body's walk. -/
theorem calls_of_wp_m {P : Program} {f : FuncId} {fn : Func} {c : Code} {args : Array Value} {w : World} {R : Ending → World → Prop}
    (hf : P.funcs[f]? = some fn) (hb : fn.body = some c)
    (h : c.wp P (bodyPostM Fence.wide 0 P fn R) { tmps := args ++ Array.replicate (fn.ntmps - args.size) undef, defers := [] } w) : Calls P f args w R :=
  (callsIn_wide (n := 0)).1 (callsIn_of_wp_marks hf hb trivial ((wpIn_wide (n := 0)).2 h))
/-- Its end, no such loop having been entered. -/
theorem leave_plain {P : Program} {fn : Func} {R : Ending → World → Prop} {a : Act} {W : World} {v : Value} (hr : (results fn a.tmps).run P W = .ok v W) (hd : a.defers = []) (hR : R (.returned v) W) :
    bodyPostM Fence.wide 0 P fn R .ret a W := by
  show LeavesInM Fence.wide 0 P fn a.tmps R a.defers .returning W
  rw [hd]
  exact ⟨v, hr, hR⟩
/-- Its end behind one such loop. -/
theorem leave_mark {P : Program} {fn : Func} {R : Ending → World → Prop} {a : Act} {W : World} {M : Nat} {v : Value} (hd : a.defers = [{ target := .collected M, args := #[] }]) (hM : W.heap[M]? = some (.deferred (some [])))
    (hr : (results fn a.tmps).run P (W.putObj M (.deferred none)) = .ok v (W.putObj M (.deferred none))) (hR : R (.returned v) (W.putObj M (.deferred none))) :
    bodyPostM Fence.wide 0 P fn R .ret a W := by
  show LeavesInM Fence.wide 0 P fn a.tmps R a.defers .returning W
  rw [hd]
  exact ⟨by simp, .inl ⟨M, _, rfl, run_takeDeferred hM, v, hr, hR⟩⟩
theorem leave_mark2 {P : Program} {fn : Func} {R : Ending → World → Prop} {a : Act} {W : World} {M M' : Nat} {v : Value} (hd : a.defers = [{ target := .collected M, args := #[] }, { target := .collected M', args := #[] }]) (hM : W.heap[M]? = some (.deferred (some [])))
    (hM' : W.heap[M']? = some (.deferred (some []))) (hne : M ≠ M')
    (hr : (results fn a.tmps).run P ((W.putObj M (.deferred none)).putObj M' (.deferred none)) = .ok v ((W.putObj M (.deferred none)).putObj M' (.deferred none))) (hR : R (.returned v) ((W.putObj M (.deferred none)).putObj M' (.deferred none))) :
    bodyPostM Fence.wide 0 P fn R .ret a W := by
  show LeavesInM Fence.wide 0 P fn a.tmps R a.defers .returning W
  rw [hd]
  exact ⟨by simp, .inl ⟨M, _, rfl, run_takeDeferred hM, by simp, .inl ⟨M', _, rfl, run_takeDeferred (by rw [World.putObj_heap_other (Ne.symm hne)]; exact hM'), v, hr, hR⟩⟩⟩
theorem Ext.putObj {w W : World} (h : Ext w W) {M : Nat} (hM : w.heap.size ≤ M) (o : Obj) : Ext w (W.putObj M o) :=
  ⟨⟨h.b.os, h.b.tape, h.b.output, by simpa using h.b.size, fun k hk => (World.putObj_heap_other (by omega)).trans (h.b.block k hk)⟩⟩
theorem cell_putObj {W : World} {M : Nat} {o o' : Obj} (hM : W.heap[M]? = some o) (hc : o.isCells = false) (a : Addr) {u : Value} (h : W.cell? a = some u) : (W.putObj M o').cell? a = some u := by
  have hne : a.block ≠ M := fun he => by
    unfold World.cell? at h
    rw [he, hM] at h
    cases o <;> simp_all [Obj.isCells]
  rw [World.cell?_of_block (World.putObj_heap_other (w := W) hne)]; exact h
end Go.Proofs.Ytnhgdjiljjpgmaa

namespace Go.Proofs.Ytnhgdjiljjpgmaa
open Go.RowKit

/-- A variable of one cell in a block of its own. -/
def Box (W : World) (b : Nat) (e : TypeId) (v : Value) : Prop := W.heap[b]? = some (.cells #[v] e (0, 0))
theorem cell_chg {B : Nat} {W W' : World} (h : Chg B W W') {a : Addr} {v : Value} (hc : W.cell? a = some v) : W'.cell? a = some v := by
  unfold World.cell? at hc
  cases hh : W.heap[a.block]? with
  | none => rw [hh] at hc; cases hc
  | some o =>
    cases o <;> rw [hh] at hc <;> first | (cases hc; done) | skip
    rename_i c e fr
    have := h.cells _ _ _ _ hh
    rw [World.cell?_of_block (this.trans hh.symm)]
    unfold World.cell?; rw [hh]; exact hc
theorem Box.chg {B : Nat} {W W' : World} {b : Nat} {e : TypeId} {v : Value} (h : Box W b e v) (hc : Chg B W W') : Box W' b e v := hc.cells _ _ _ _ h
theorem Box.cell {W : World} {b : Nat} {e : TypeId} {v : Value} (h : Box W b e v) : W.cell? ⟨b, 0, none⟩ = some v := by rw [cell_of_row W b 0 _ _ _ h]; rfl
theorem Box.frozen {W : World} {b : Nat} {e : TypeId} {v : Value} (h : Box W b e v) : W.frozen? ⟨b, 0, none⟩ = false := by
  unfold World.frozen?; show (match W.heap[b]? with | some (Obj.cells c elem (lo, hi)) => decide (lo ≤ 0) && decide (0 < hi) | x => false) = false; rw [h]; rfl
theorem Box.lt {W : World} {b : Nat} {e : TypeId} {v : Value} (h : Box W b e v) : b < W.heap.size := lt_of_heap h
theorem Box.set {W : World} {b : Nat} {e : TypeId} {v u : Value} (h : Box W b e v) : Box (W.setCell ⟨b, 0, none⟩ u) b e u := by
  unfold Box
  simp only [World.setCell, Array.getElem?_modify, if_true]
  rw [h]; rfl
theorem Box.other {W : World} {b : Nat} {e : TypeId} {v u : Value} (h : Box W b e v) {a : Addr} (hne : b ≠ a.block) : Box (W.setCell a u) b e v := (Below.heap_setCell _ _ _ _ hne).trans h
theorem Box.alloc {W : World} {b : Nat} {e : TypeId} {v : Value} (h : Box W b e v) (o : Obj) : Box (W.alloc o) b e v := (Below.heap_alloc _ _ _ h.lt).trans h
theorem Box.new (W : World) (e : TypeId) (v : Value) : Box (W.alloc (.cells #[v] e)) W.heap.size e v := heap_alloc_new W _

theorem Box.grown {W W' : World} {b : Nat} {e : TypeId} {v : Value} {row : Option Nat} (h : Box W b e v) (hg : W.grownBy W' row) (hr : ∀ k, row = some k → b < k) : Box W' b e v :=
  (hg.block _ h.lt (fun he => by have := hr b he.symm; omega)).trans h
theorem Box.ext {W W' : World} {b : Nat} {e : TypeId} {v : Value} (h : Box W b e v) (hE : Ext W W') : Box W' b e v := (hE.b.block _ h.lt).trans h
theorem Own.of_block {α : Type} {enc : α → List Value} {size : Nat} {w W : World} {base : Nat} {e : TypeId} {v : Value} {l : List α} (h : Own enc size w base e v l) (hb : ∀ k, v.ownBlock = some k → W.heap[k]? = w.heap[k]?) : Own enc size W base e v l := by
  refine ⟨h.1, h.2.1, ?_⟩
  rcases h.2.2 with h2 | ⟨g, cap, cur, h1, h2, h3, h4⟩
  · exact .inl h2
  · exact .inr ⟨g, cap, cur, h1, h2, (hb g (by rw [h1]; rfl)).trans h3, h4⟩
theorem Own.setNe {α : Type} {enc : α → List Value} {size : Nat} {w : World} {base : Nat} {e : TypeId} {v : Value} {l : List α} (h : Own enc size w base e v l) {a : Addr} (ha : ∀ k, v.ownBlock = some k → k ≠ a.block) (u : Value) : Own enc size (w.setCell a u) base e v l := by
  refine ⟨h.1, h.2.1, ?_⟩
  rcases h.2.2 with h2 | ⟨g, cap, cur, h1, h2, h3, h4⟩
  · exact .inl h2
  · exact .inr ⟨g, cap, cur, h1, h2, (Below.heap_setCell _ _ _ _ (ha g (by rw [h1]; rfl))).trans h3, h4⟩
theorem ne_of_form {u : Value} {g k size : Nat} (h : u.ownBlock = some k ∨ k = size) (hu : ∀ j, u.ownBlock = some j → g < j) (hs : g < size) : g ≠ k := by
  rcases h with h | h
  · have := hu k h; omega
  · omega
theorem results_cell2 {fn : Func} {a b : Tmp} {t s : TypeId} (h : fn.results = #[.cell a t, .cell b s]) (tmps : Array Value) (P : Program) (w : World) {p q : Addr} {u v : Value} (ha : tmps.getD a undef = .pointer (some p)) (hb : tmps.getD b undef = .pointer (some q))
    (ht : (isAgg t).run P w = .ok false w) (hs : (isAgg s).run P w = .ok false w) (hp : w.cell? p = some u) (hq : w.cell? q = some v) : (results fn tmps).run P w = .ok (.tuple #[u, v]) w := by
  rw [Array.getD_eq_getD_getElem?] at ha hb
  have ht' : _ = _ := ht
  have hs' : _ = _ := hs
  simp [results, h, ha, hb, go_sem, ht', hs', hp, hq]
theorem Own.sl {α : Type} {enc : α → List Value} {size : Nat} {w : World} {base : Nat} {e : TypeId} {v : Value} {l : List α} (h : Own enc size w base e v l) : ∃ q c, v = .slice q l.length c := by
  rcases h.form with ⟨h, hn⟩ | ⟨g, c, h, _⟩
  · exact ⟨none, 0, by rw [h, hn]; rfl⟩
  · exact ⟨_, _, h⟩
theorem Coll.sl {α : Type} {e1 e2 : TypeId} {enc : α → List Value} {size : Nat} {W : World} {base : Nat} {u : Value} {ws : List (List α)} (h : Coll e1 e2 enc size W base u ws) : ∃ q c, u = .slice q ws.length c := by
  rcases h.form with ⟨h, hn⟩ | ⟨g, c, h, _⟩
  · exact ⟨none, 0, by rw [h, hn]; rfl⟩
  · exact ⟨_, _, h⟩
/-- A value is returned of which R holds; the world has grown. -/
def RetV (R : Value → World → Prop) (w : World) (e : Ending) (w' : World) : Prop := ∃ u, e = .returned u ∧ R u w' ∧ Ext w w'
/-- Two values are returned, the second a number. -/
def RetV2 (R : Value → World → Prop) (n : Int) (w : World) (e : Ending) (w' : World) : Prop := ∃ u, e = .returned (.tuple #[u, .int .i64 n]) ∧ R u w' ∧ Ext w w'
end Go.Proofs.Ytnhgdjiljjpgmaa
