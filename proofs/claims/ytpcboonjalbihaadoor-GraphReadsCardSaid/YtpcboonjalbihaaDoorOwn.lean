/-
  Slices that the call itself makes and appends to.
  Conditions: none.
-/
import Derived.Test.YtpcboonjalbihaaDoorRep
import Derived.Maps.AppendAt
namespace Go.Proofs.YtpcboonjalbihaaDoor
open Go.RowKit

theorem add_lit (g k : Nat) : (⟨g, 0, none⟩ : Addr).add k = ⟨g, k, none⟩ := by unfold Addr.add; split <;> simp_all
/-- The slice value v is the call's own (its block lies at 'base' or beyond), and holds the list l. -/
def Own {α : Type} (enc : α → List Value) (size : Nat) (w : World) (base : Nat) (e : TypeId) (v : Value) (l : List α) : Prop :=
  (∀ x, (enc x).length = size) ∧ w.ownsRow base e size v l.length (l.flatMap enc)
theorem flat_get {α : Type} {enc : α → List Value} {size : Nat} (hs : ∀ x, (enc x).length = size) : ∀ (l : List α) (i j : Nat) (x : α), l[i]? = some x → j < size → (l.flatMap enc)[i * size + j]? = (enc x)[j]? := by
  intro l
  induction l with
  | nil => intro i j x h; simp at h
  | cons y l ih =>
    intro i j x h hj
    rw [List.flatMap_cons]
    cases i with
    | zero =>
      simp only [List.getElem?_cons_zero, Option.some.injEq] at h
      subst h
      rw [Nat.zero_mul, Nat.zero_add, List.getElem?_append_left (by rw [hs]; exact hj)]
    | succ i =>
      rw [List.getElem?_cons_succ] at h
      rw [List.getElem?_append_right (by rw [hs, Nat.succ_mul]; omega), hs, show (i + 1) * size + j - size = i * size + j by rw [Nat.succ_mul]; omega]
      exact ih i j x h hj
section
variable {α : Type} {enc : α → List Value} {size : Nat} {w : World} {base : Nat} {e : TypeId} {v : Value} {l : List α}
theorem Own.nil (w : World) (base : Nat) (e : TypeId) (hs : ∀ x, (enc x).length = size) : Own enc size w base e (.slice none 0 0) [] := ⟨hs, World.ownsRow_nil w base e size⟩
theorem Own.form (h : Own enc size w base e v l) : (v = .slice none 0 0 ∧ l = []) ∨ ∃ g c, v = .slice (some ⟨g, 0, none⟩) l.length c ∧ base ≤ g ∧ g < w.heap.size ∧ l.length ≤ c ∧ c ≤ 9223372036854775807 := by
  obtain ⟨_, _, h | ⟨g, cap, cur, h1, h2, h3, h4, h5, _⟩⟩ := h
  · exact .inl ⟨h.1, List.eq_nil_of_length_eq_zero h.2⟩
  · refine .inr ⟨g, cap, h1, h2, ?_, h4, h5⟩
    rcases Nat.lt_or_ge g w.heap.size with hlt | hge
    · exact hlt
    · rw [Array.getElem?_eq_none hge] at h3; cases h3
theorem Own.row (h : Own enc size w base e v l) (hl : l.length ≤ 17592186044416) : Row enc size w v l := by
  rcases h.form with ⟨rfl, rfl⟩ | ⟨g, c, rfl, hg, hlt, hc, hm⟩
  · exact Row.nil _ _ _
  · refine ⟨some ⟨g, 0, none⟩, c, rfl, hc, ⟨hm, hl⟩, fun hpos => ⟨g, 0, rfl, hlt, fun i x hx j u hu => ?_⟩⟩
    have hj : j < size := by
      have := h.1 x
      rcases Nat.lt_or_ge j (enc x).length with hh | hh
      · omega
      · rw [List.getElem?_eq_none hh] at hu; cases hu
    have := h.2.cells (g := g) rfl (i * size + j) u (by rw [flat_get h.1 l i j x hx hj]; exact hu)
    rw [add_lit] at this
    rw [Nat.zero_add]
    exact this
theorem Own.alloc (h : Own enc size w base e v l) (o : Obj) : Own enc size (w.alloc o) base e v l := ⟨h.1, h.2.alloc o⟩
theorem Own.ext {W : World} (h : Own enc size w base e v l) (hE : Ext w W) : Own enc size W base e v l := by
  refine ⟨h.1, h.2.1, ?_⟩
  rcases h.2.2 with h2 | ⟨g, cap, cur, h1, h2, h3, h4⟩
  · exact .inl h2
  · refine .inr ⟨g, cap, cur, h1, h2, ?_, h4⟩
    have hlt : g < w.heap.size := by
      rcases Nat.lt_or_ge g w.heap.size with hlt | hge
      · exact hlt
      · rw [Array.getElem?_eq_none hge] at h3; cases h3
    rw [hE.b.block g hlt]; exact h3
theorem Own.kept {w' : World} {row : Option Nat} (h : Own enc size w base e v l) (hg : w.grownBy w' row) (hne : v.ownBlock = none ∨ v.ownBlock ≠ row) : Own enc size w' base e v l := ⟨h.1, h.2.kept hg hne⟩
theorem Own.mono {base' : Nat} (h : Own enc size w base e v l) (hb : base' ≤ base) : Own enc size w base' e v l := by
  refine ⟨h.1, h.2.1, ?_⟩
  rcases h.2.2 with h2 | ⟨g, cap, cur, h1, h2, h3⟩
  · exact .inl h2
  · exact .inr ⟨g, cap, cur, h1, by omega, h3⟩
end
theorem Own.block_ge {α : Type} {enc : α → List Value} {size : Nat} {w : World} {base : Nat} {e : TypeId} {v : Value} {l : List α} (h : Own enc size w base e v l) : ∀ k, v.ownBlock = some k → base ≤ k := fun k hk => (h.2.lt k hk).1
/-- Behind an append to a slice of the call's own (its element in a new block), the elder world lies as it lay. -/
theorem Ext.appended {α : Type} {enc : α → List Value} {size : Nat} {w W W' : World} {e : TypeId} {v : Value} {l : List α} {o : Obj} (hE : Ext w W) (h : Own enc size W w.heap.size e v l) (hg : (W.alloc o).grownBy W' v.ownBlock) : Ext w W' :=
  (hE.alloc o).grown hg h.block_ge
/-- append of one element that lies in a new block. -/
theorem wpList_append1 {α : Type} {enc : α → List Value} {P : Program} {ops : Array Oper} {rest : List Oper} {o : Oper} {a : Act} {w : World} {Q : Exit → Act → World → Prop} (hgd : o.guard = none) (s x : Operand) (t : TypeId)
    (ho : o.op = .call { callee := .builtin .append, args := #[s, x], argTypes := #[t, t] })
    (base : Nat) (e : TypeId) (z : Value) (size bytes : Nat) (ht : P.underlying t = some (.slice e)) (hi : (P.info? e).map (fun i => (i.zero, i.size, i.bytes)) = some (some z, size, bytes)) (hzs : z.cells.size = size) (hsz : 0 < size)
    (v : Value) (l : List α) (y : α) (g : Nat) (hs : a.eval s = v) (hown : Own enc size w base e v l) (hx : a.eval x = .slice (some ⟨g, 0, none⟩) 1 1)
    (hnew : ∀ j u, (enc y)[j]? = some u → w.cell? ⟨g, j, none⟩ = some u) (h1 : ∀ u ∈ enc y, u.oneCell' = true) (hlen : (l.length + 1) * bytes ≤ 140737488355328) (hb : 0 < bytes) (hbase : base ≤ w.heap.size)
    (h : ∀ v' w', Own enc size w' base e v' (l ++ [y]) → w.grownBy w' v.ownBlock → (∃ g' c', v' = .slice (some ⟨g', 0, none⟩) (l.length + 1) c' ∧ (v.ownBlock = some g' ∨ g' = w.heap.size)) → wpList P ops Q rest (a.put o.dst v') w') : wpList P ops Q (o :: rest) a w := by
  cases hq : P.info? e with
  | none => rw [hq] at hi; cases hi
  | some i =>
    rw [hq] at hi
    simp only [Option.map_some, Option.some.injEq, Prod.mk.injEq] at hi
    obtain ⟨hz, hsize, hby⟩ := hi
    have hm : l.length + 1 ≤ maxLen := by
      have : (l.length + 1) * 1 ≤ (l.length + 1) * bytes := Nat.mul_le_mul_left _ hb
      unfold maxLen; omega
    refine wpList_append_own_at w hgd s x t ho base e i z size bytes ht hq hz hsize hby hzs hsz v l.length (l.flatMap enc) hs hown.2 ⟨g, 0, none⟩ 1 1 (enc y) hx (by rw [hown.1, Nat.one_mul]) (fun j u hu => ?_) h1 hm hlen hbase ?_
    · have := hnew j u hu
      rw [add_lit]
      exact this
    · intro v' w' h2 h3 h4 h6
      have ho' : Own enc size w' base e v' (l ++ [y]) := by
        refine ⟨hown.1, ?_⟩
        rw [List.length_append, List.flatMap_append]
        simpa using h2
      refine h v' w' ho' h3 ?_
      rcases ho'.form with ⟨_, h5⟩ | ⟨g', c', h5, _⟩
      · exact absurd h5 (by simp)
      · rw [List.length_append] at h5
        refine ⟨g', c', h5, ?_⟩
        rw [h5] at h6
        rcases h6 with h6 | h6
        · exact .inl h6.symm
        · exact .inr (by injection h6)
theorem int_info : (Tryd.prog.info? 3).map (fun i => (i.zero, i.size, i.bytes)) = some (some (.int .i64 0), 1, 8) := by kernel_rfl
theorem cell_new1 (w : World) (x : Value) (t : TypeId) : ∀ j u, (one x)[j]? = some u → (w.alloc (.cells #[x] t)).cell? ⟨w.heap.size, j, none⟩ = some u := by
  intro j u h
  rw [cell_new]
  cases j with
  | zero => simpa using h
  | succ j => simp at h

theorem int_one (x : Int) : ∀ u ∈ icells x, u.oneCell' = true := by simp [Value.oneCell']
theorem Own.empty {α : Type} {enc : α → List Value} {size : Nat} {w : World} {base g : Nat} {e : TypeId} (hs : ∀ x, (enc x).length = size) (hb : base ≤ g) (h : w.heap[g]? = some (.cells #[] e (0, 0))) : Own enc size w base e (.slice (some ⟨g, 0, none⟩) 0 0) [] :=
  ⟨hs, by simp, .inr ⟨g, 0, #[], rfl, hb, h, Nat.le_refl _, by simp [maxLen], by simp, by simp⟩⟩
theorem Own.set_other {α : Type} {enc : α → List Value} {size : Nat} {w : World} {base : Nat} {e : TypeId} {v : Value} {l : List α} (h : Own enc size w base e v l) {a : Addr} (ha : a.block < base) (u : Value) : Own enc size (w.setCell a u) base e v l := by
  refine ⟨h.1, h.2.1, ?_⟩
  rcases h.2.2 with h2 | ⟨g, cap, cur, h1, h2, h3, h4⟩
  · exact .inl h2
  · exact .inr ⟨g, cap, cur, h1, h2, (Below.heap_setCell _ _ _ _ (by omega)).trans h3, h4⟩
theorem frozen_of {W : World} {b j : Nat} {c : Array Value} {t : TypeId} (h : W.heap[b]? = some (.cells c t (0, 0))) : W.frozen? ⟨b, j, none⟩ = false := by
  unfold World.frozen?; show (match W.heap[b]? with | some (Obj.cells c elem (lo, hi)) => decide (lo ≤ j) && decide (j < hi) | x => false) = false; rw [h]; simp
theorem heap_set {W : World} {b j : Nat} {c : Array Value} {t : TypeId} (h : W.heap[b]? = some (.cells c t (0, 0))) (u : Value) : (W.setCell ⟨b, j, none⟩ u).heap[b]? = some (.cells (c.setIfInBounds j u) t (0, 0)) := by
  simp only [World.setCell, Array.getElem?_modify, if_true]
  rw [h]; rfl
end Go.Proofs.YtpcboonjalbihaaDoor
