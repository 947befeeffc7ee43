/-
  Slices of slices that the call itself makes; append of a whole slice.
  Conditions: none.
-/
import Derived.Test.YtpcboonjalbihaaDoorOwn
namespace Go.Proofs.YtpcboonjalbihaaDoor
open Go.RowKit

/-- A slice that reads as a list, in a block of elements of type e. -/
def RowE {α : Type} (e : TypeId) (enc : α → List Value) (size : Nat) (w : World) (v : Value) (xs : List α) : Prop :=
  Row enc size w v xs ∧ ∀ (a : Addr) (n c : Nat), v = .slice (some a) n c → ∃ cur fr, w.heap[a.block]? = some (.cells cur e fr)
theorem RowE.ext {α : Type} {e : TypeId} {enc : α → List Value} {size : Nat} {w W : World} {v : Value} {xs : List α} (h : RowE e enc size w v xs) (hE : Ext w W) : RowE e enc size W v xs := by
  refine ⟨h.1.ext hE, fun a n c hv => ?_⟩
  obtain ⟨cur, fr, hh⟩ := h.2 a n c hv
  refine ⟨cur, fr, ?_⟩
  have hlt : a.block < w.heap.size := by
    rcases Nat.lt_or_ge a.block w.heap.size with hlt | hge
    · exact hlt
    · rw [Array.getElem?_eq_none hge] at hh; cases hh
  rw [hE.b.block _ hlt]; exact hh
theorem Row.of_block {α : Type} {enc : α → List Value} {size : Nat} {w W : World} {v : Value} {xs : List α} (h : Row enc size w v xs) (hs : w.heap.size ≤ W.heap.size)
    (hb : ∀ (a : Addr) (n c : Nat), v = .slice (some a) n c → W.heap[a.block]? = w.heap[a.block]?) : Row enc size W v xs := by
  obtain ⟨p, c, rfl, h1, h2, h3⟩ := h
  refine ⟨p, c, rfl, h1, h2, fun hl => ?_⟩
  obtain ⟨b, o, rfl, hlt, hc⟩ := h3 hl
  exact ⟨b, o, rfl, by omega, fun i x hx j u hu => (World.cell?_of_block (w := w) (a := ⟨b, o + i * size + j, none⟩) (hb ⟨b, o, none⟩ _ _ rfl)).trans (hc i x hx j u hu)⟩
/-- Another block of another type of element may have been written. -/
theorem RowE.grown {α : Type} {e e' : TypeId} {enc : α → List Value} {size : Nat} {w W : World} {v : Value} {xs : List α} {row : Option Nat} (h : RowE e enc size w v xs) (hg : w.grownBy W row)
    (hr : ∀ g, row = some g → ∃ cur fr, w.heap[g]? = some (.cells cur e' fr)) (hne : e ≠ e') : RowE e enc size W v xs := by
  have hb : ∀ (a : Addr) (n c : Nat), v = .slice (some a) n c → W.heap[a.block]? = w.heap[a.block]? := fun a n c hv => by
    obtain ⟨cur, fr, hh⟩ := h.2 a n c hv
    have hlt : a.block < w.heap.size := by
      rcases Nat.lt_or_ge a.block w.heap.size with hlt | hge
      · exact hlt
      · rw [Array.getElem?_eq_none hge] at hh; cases hh
    refine hg.block _ hlt (fun he => ?_)
    obtain ⟨cur', fr', hh'⟩ := hr _ he.symm
    rw [hh] at hh'
    injection hh' with h1
    injection h1 with _ h2
    exact hne h2
  refine ⟨h.1.of_block hg.size hb, fun a n c hv => ?_⟩
  obtain ⟨cur, fr, hh⟩ := h.2 a n c hv
  exact ⟨cur, fr, by rw [hb a n c hv]; exact hh⟩
theorem RowE.nil {α : Type} (e : TypeId) (enc : α → List Value) (size : Nat) (w : World) : RowE e enc size w (.slice none 0 0) ([] : List α) := ⟨Row.nil _ _ _, fun a n c hv => by cases hv⟩
section
variable {α : Type} {enc : α → List Value} {size : Nat} {w : World} {base : Nat} {e : TypeId} {v : Value} {l : List α}
theorem Own.typed (h : Own enc size w base e v l) : ∀ g, v.ownBlock = some g → ∃ cur fr, w.heap[g]? = some (.cells cur e fr) := by
  intro g hg
  rcases h.2.2 with ⟨rfl, _⟩ | ⟨g', cap, cur, rfl, _, hh, _⟩
  · cases hg
  · injection hg with hg; subst hg; exact ⟨cur, _, hh⟩
theorem Own.rowE (h : Own enc size w base e v l) (hl : l.length ≤ 17592186044416) : RowE e enc size w v l :=
  ⟨h.row hl, fun a n c hv => h.typed a.block (by rw [hv]; rfl)⟩
end
/-- A slice of slices, its own block and those of its elements of different types of element. -/
def Coll {α : Type} (e1 e2 : TypeId) (enc : α → List Value) (size : Nat) (w : World) (base : Nat) (u : Value) (ws : List (List α)) : Prop :=
  ∃ vs : List Value, vs.length = ws.length ∧ Own one 1 w base e1 u vs ∧ ∀ (i : Nat) (v : Value) (xs : List α), vs[i]? = some v → ws[i]? = some xs → RowE e2 enc size w v xs
section
variable {α : Type} {e1 e2 : TypeId} {enc : α → List Value} {size : Nat} {w : World} {base : Nat} {u : Value} {ws : List (List α)}
theorem Coll.nil (w : World) (base : Nat) : Coll e1 e2 enc size w base (.slice none 0 0) ([] : List (List α)) := ⟨[], rfl, Own.nil _ _ _ (fun _ => rfl), fun i v xs h => by simp at h⟩
theorem Coll.ext {W : World} (h : Coll e1 e2 enc size w base u ws) (hE : Ext w W) : Coll e1 e2 enc size W base u ws := by
  obtain ⟨vs, h1, h2, h3⟩ := h
  exact ⟨vs, h1, h2.ext hE, fun i v xs hv hx => (h3 i v xs hv hx).ext hE⟩
/-- An append to another slice of the call's own, of whatever type of element. -/
theorem Coll.kept {W : World} {row : Option Nat} {e' : TypeId} (h : Coll e1 e2 enc size w base u ws) (hg : w.grownBy W row) (hne : u.ownBlock = none ∨ u.ownBlock ≠ row)
    (hr : ∀ g, row = some g → ∃ cur fr, w.heap[g]? = some (.cells cur e' fr)) (he : e2 ≠ e') : Coll e1 e2 enc size W base u ws := by
  obtain ⟨vs, h1, h2, h3⟩ := h
  exact ⟨vs, h1, h2.kept hg hne, fun i v xs hv hx => (h3 i v xs hv hx).grown hg hr he⟩
theorem Coll.typed (h : Coll e1 e2 enc size w base u ws) : ∀ g, u.ownBlock = some g → ∃ cur fr, w.heap[g]? = some (.cells cur e1 fr) := by
  obtain ⟨vs, h1, h2, h3⟩ := h
  exact h2.typed
theorem Coll.lt (h : Coll e1 e2 enc size w base u ws) : ∀ g, u.ownBlock = some g → base ≤ g ∧ g < w.heap.size := by
  obtain ⟨vs, h1, h2, h3⟩ := h
  exact h2.2.lt
theorem Coll.at_ (h : Coll e1 e2 enc size w base u ws) {i : Nat} (hi : i < ws.length) : ∃ g c v, u = .slice (some ⟨g, 0, none⟩) ws.length c ∧ g < w.heap.size ∧ w.cell? ⟨g, i, none⟩ = some v ∧ RowE e2 enc size w v (ws.getD i []) := by
  obtain ⟨vs, h1, h2, h3⟩ := h
  rcases h2.form with ⟨_, hb⟩ | ⟨g, c, rfl, hb, hlt, _⟩
  · subst hb; simp at h1; omega
  · have hvi : vs[i]? = some vs[i] := List.getElem?_eq_getElem (by omega)
    have hf := flat_get (enc := one) (size := 1) (fun _ => rfl) vs i 0 _ hvi (by omega)
    have := h2.2.cells (g := g) rfl (i * 1 + 0) vs[i] (by rw [hf]; rfl)
    rw [add_lit, Nat.mul_one, Nat.add_zero] at this
    refine ⟨g, c, vs[i], by rw [h1], hlt, this, h3 i _ _ hvi ?_⟩
    rw [List.getD_eq_getElem?_getD, List.getElem?_eq_getElem hi]; rfl
theorem Coll.mono {base' : Nat} (h : Coll e1 e2 enc size w base u ws) (hb : base' ≤ base) : Coll e1 e2 enc size w base' u ws := by
  obtain ⟨vs, h1, h2, h3⟩ := h
  exact ⟨vs, h1, h2.mono hb, h3⟩
theorem Coll.rows2 (h : Coll e1 e2 enc size w base u ws) (hl : ws.length ≤ 17592186044416) : Rows2 enc size w u ws := by
  obtain ⟨vs, h1, h2, h3⟩ := h
  exact ⟨vs, h1, h2.row (by omega), fun i v xs hv hx => (h3 i v xs hv hx).1⟩
theorem Coll.block_ge (h : Coll e1 e2 enc size w base u ws) : ∀ k, u.ownBlock = some k → base ≤ k := by
  obtain ⟨vs, h1, h2, h3⟩ := h
  exact h2.block_ge
theorem Coll.form (h : Coll e1 e2 enc size w base u ws) : (u = .slice none 0 0 ∧ ws = []) ∨ ∃ g c, u = .slice (some ⟨g, 0, none⟩) ws.length c ∧ base ≤ g ∧ g < w.heap.size ∧ ws.length ≤ c ∧ c ≤ 9223372036854775807 := by
  obtain ⟨vs, h1, h2, h3⟩ := h
  rcases h2.form with ⟨ha, hb⟩ | hb
  · subst hb; exact .inl ⟨ha, List.eq_nil_of_length_eq_zero h1.symm⟩
  · rw [h1] at hb; exact .inr hb
end
theorem slice_info_one {P : Program} {e : TypeId} (h : (P.info? e).map (fun i => (i.zero, i.size, i.bytes)) = some (some (.slice none 0 0), 1, 24)) : (P.info? e).map (fun i => (i.zero, i.size, i.bytes)) = some (some (.slice none 0 0), 1, 24) := h
/-- append of one slice to a slice of slices. -/
theorem wpList_push {α : Type} {enc : α → List Value} {P : Program} {ops : Array Oper} {rest : List Oper} {o : Oper} {a : Act} {w : World} {Q : Exit → Act → World → Prop} (hgd : o.guard = none) (s x : Operand) (t : TypeId)
    (ho : o.op = .call { callee := .builtin .append, args := #[s, x], argTypes := #[t, t] })
    (base : Nat) (e1 e2 : TypeId) (size : Nat) (hne : e2 ≠ e1) (ht : P.underlying t = some (.slice e1)) (hi : (P.info? e1).map (fun i => (i.zero, i.size, i.bytes)) = some (some (.slice none 0 0), 1, 24))
    (u : Value) (ws : List (List α)) (y : Value) (ys : List α) (g : Nat) (hs : a.eval s = u) (hown : Coll e1 e2 enc size w base u ws) (hx : a.eval x = .slice (some ⟨g, 0, none⟩) 1 1)
    (hnew : ∀ j v, (one y)[j]? = some v → w.cell? ⟨g, j, none⟩ = some v) (hy : RowE e2 enc size w y ys) (hlen : ws.length ≤ 1000000000000) (hbase : base ≤ w.heap.size)
    (h : ∀ v' w', Coll e1 e2 enc size w' base v' (ws ++ [ys]) → w.grownBy w' u.ownBlock → (∃ g' c', v' = .slice (some ⟨g', 0, none⟩) (ws.length + 1) c' ∧ (u.ownBlock = some g' ∨ g' = w.heap.size)) → wpList P ops Q rest (a.put o.dst v') w') : wpList P ops Q (o :: rest) a w := by
  obtain ⟨vs, h1, h2, h3⟩ := hown
  have hyc : y.oneCell' = true := by obtain ⟨⟨p, c, rfl, _⟩, _⟩ := hy; rfl
  refine wpList_append1 hgd s x t ho base e1 (.slice none 0 0) 1 24 ht hi rfl (by decide) u vs y g hs h2 hx hnew (by simpa using hyc) (by omega) (by decide) hbase ?_
  intro v' w' hown' hg hform
  refine h v' w' ⟨vs ++ [y], by simp [h1], hown', fun i v xs hv hx => ?_⟩ hg (by rw [← h1]; exact hform)
  have hty := h2.typed
  by_cases hlt : i < vs.length
  · rw [List.getElem?_append_left hlt] at hv
    rw [List.getElem?_append_left (by omega)] at hx
    exact (h3 i v xs hv hx).grown hg hty hne
  · rw [List.getElem?_append_right (by omega)] at hv
    rw [List.getElem?_append_right (by omega)] at hx
    rcases Nat.eq_zero_or_pos (i - vs.length) with h0 | h0
    · rw [h0] at hv
      rw [show i - ws.length = 0 by omega] at hx
      simp only [List.getElem?_cons_zero, Option.some.injEq] at hv hx
      subst hv hx
      exact hy.grown hg hty hne
    · rw [List.getElem?_eq_none (by simp; omega)] at hv; cases hv

theorem run_append_of_nil {P : Program} (w : World) (base : Nat) (t ty e : TypeId) (i : TypeInfo) (size : Nat) (ht : P.underlying t = some (.slice e)) (hi : P.info? e = some i)
    (v : Value) (n : Nat) (xs : List Value) (hown : w.ownsRow base e size v n xs) (c : Nat) : (Builtin.append_ #[t, t] ty #[v, .slice none 0 c]).run P w = .ok v w := by
  rcases hown.2 with ⟨rfl, rfl⟩ | ⟨g, cap, cur, rfl, _, _, hnc, _⟩
  · simp [Builtin.append_, run_underlying ht, sizeOf, typeInfo, hi, Builtin.lenOf, Builtin.firstCells]
  · simp [Builtin.append_, run_underlying ht, sizeOf, typeInfo, hi, Builtin.lenOf, Builtin.firstCells, hnc, storeCells]
/-- append of a whole slice. -/
theorem wpList_appendN {α : Type} {enc : α → List Value} {P : Program} {ops : Array Oper} {rest : List Oper} {o : Oper} {a : Act} {w : World} {Q : Exit → Act → World → Prop} (hgd : o.guard = none) (s x : Operand) (t : TypeId)
    (ho : o.op = .call { callee := .builtin .append, args := #[s, x], argTypes := #[t, t] })
    (base : Nat) (e : TypeId) (z : Value) (size bytes : Nat) (ht : P.underlying t = some (.slice e)) (hi : (P.info? e).map (fun i => (i.zero, i.size, i.bytes)) = some (some z, size, bytes)) (hzs : z.cells.size = size) (hsz : 0 < size)
    (v : Value) (l : List α) (y : Value) (ys : List α) (hs : a.eval s = v) (hown : Own enc size w base e v l) (hx : a.eval x = y) (hy : Row enc size w y ys)
    (h1 : ∀ x, ∀ u ∈ enc x, u.oneCell' = true) (hlen : (l.length + ys.length) * bytes ≤ 140737488355328) (hb : 0 < bytes) (hbase : base ≤ w.heap.size)
    (h : ∀ v' w', Own enc size w' base e v' (l ++ ys) → w.grownBy w' v.ownBlock → wpList P ops Q rest (a.put o.dst v') w') : wpList P ops Q (o :: rest) a w := by
  cases hq : P.info? e with
  | none => rw [hq] at hi; cases hi
  | some i =>
    rw [hq] at hi
    simp only [Option.map_some, Option.some.injEq, Prod.mk.injEq] at hi
    obtain ⟨hz, hsize, hby⟩ := hi
    obtain ⟨p, c, rfl, hc, _, hat⟩ := hy
    have hm : l.length + ys.length ≤ maxLen := by
      have : (l.length + ys.length) * 1 ≤ (l.length + ys.length) * bytes := Nat.mul_le_mul_left _ hb
      unfold maxLen; omega
    have hflat : ∀ zs : List α, (zs.flatMap enc).length = zs.length * size := fun zs => by
      induction zs with
      | nil => simp
      | cons z zs ih => rw [List.flatMap_cons, List.length_append, ih, hown.1, List.length_cons, Nat.succ_mul]; omega
    have hone : ∀ u ∈ ys.flatMap enc, u.oneCell' = true := fun u hu => by
      rw [List.mem_flatMap] at hu
      obtain ⟨x, _, hu⟩ := hu
      exact h1 x u hu
    have fin : ∀ v' w', w'.ownsRow base e size v' (l.length + ys.length) (l.flatMap enc ++ ys.flatMap enc) → Own enc size w' base e v' (l ++ ys) := fun v' w' h2 => by
      refine ⟨hown.1, ?_⟩
      rw [List.length_append, List.flatMap_append]
      exact h2
    rcases p with _ | ad
    · have hn : ys = [] := by
        apply Classical.byContradiction
        intro hne
        obtain ⟨b, o, h0, _⟩ := hat (List.length_pos_iff.2 hne)
        cases h0
      subst hn
      refine wpList_plain hgd fun K hK => ?_
      have hrun := run_append_of_nil (P := P) w base t o.type e i size ht hq v l.length (l.flatMap enc) hown.2 c
      unfold Oper.wp
      simp only [List.length_nil] at hx
      simp [execOp, ho, resolve, invoke, builtin, hs, hx, hrun, Result.andThen]
      exact hK _ _ (h v w (by simpa using hown) (World.grownBy.refl w _))
    · by_cases hpos : 0 < ys.length
      · obtain ⟨b, of, h0, hlt, hc2⟩ := hat hpos
        injection h0 with h0
        subst h0
        refine wpList_append_own w hgd s x t ho base e i z size bytes ht hq hz hsize hby hzs hsz v l.length (l.flatMap enc) hs hown.2 ⟨b, of, none⟩ ys.length c (ys.flatMap enc) hx (hflat ys) (fun j u hu => ?_) hone hm hlen hbase fun v' w' h2 h3 _ => h v' w' (fin v' w' h2) h3
        have hadd : (⟨b, of, none⟩ : Addr).add j = ⟨b, of + j, none⟩ := by unfold Addr.add; split <;> simp_all
        rw [hadd]
        have hjl : j < ys.length * size := by
          rcases Nat.lt_or_ge j (ys.flatMap enc).length with hh | hh
          · rw [← hflat]; exact hh
          · rw [List.getElem?_eq_none hh] at hu; cases hu
        have hdm := Nat.div_add_mod j size
        have hml := Nat.mod_lt j hsz
        have hdl : j / size < ys.length := by
          apply Classical.byContradiction
          intro hge
          have : ys.length * size ≤ j / size * size := Nat.mul_le_mul_right _ (by omega)
          rw [Nat.mul_comm] at hdm
          omega
        have hxe : ys[j / size]? = some ys[j / size] := List.getElem?_eq_getElem hdl
        have hf := flat_get hown.1 ys (j / size) (j % size) _ hxe hml
        have e1 : j / size * size + j % size = j := by rw [Nat.mul_comm]; exact hdm
        rw [e1, hu] at hf
        have := hc2 (j / size) _ hxe (j % size) u hf.symm
        rw [Nat.add_assoc, e1] at this
        exact this
      · have hn : ys = [] := List.eq_nil_of_length_eq_zero (by omega)
        subst hn
        refine wpList_append_own w hgd s x t ho base e i z size bytes ht hq hz hsize hby hzs hsz v l.length (l.flatMap enc) hs hown.2 ad 0 c [] hx (by simp) (fun j u hu => by simp at hu) (by simp) hm hlen hbase fun v' w' h2 h3 _ => h v' w' (fin v' w' h2) h3
end Go.Proofs.YtpcboonjalbihaaDoor
