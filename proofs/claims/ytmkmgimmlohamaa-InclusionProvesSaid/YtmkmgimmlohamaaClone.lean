/-
  Rounds in a block with room; copies of them (slices.Clone).
  Conditions: as each theorem states.
-/
import Derived.Test.YtmkmgimmlohamaaHeldA
import Derived.Test.YtmkmgimmlohamaaCount
import Derived.ArgAppend
import Derived.Deep.Upon
namespace Go.Proofs.Ytmkmgimmlohamaa
open Go.RowKit
attribute [local go_sem] Oper.semAt_some

/-- vs laid into a row from o on. -/
def setAll : Array Value → Nat → List Value → Array Value
  | cur, _, [] => cur
  | cur, o, v :: vs => setAll (cur.setIfInBounds o v) (o + 1) vs
theorem setAll_size : ∀ (vs : List Value) (o : Nat) (cur : Array Value), (setAll cur o vs).size = cur.size
  | [], _, _ => rfl
  | _ :: vs, o, cur => by rw [setAll, setAll_size vs]; simp
theorem setAll_low : ∀ (vs : List Value) (o : Nat) (cur : Array Value) (i : Nat), i < o → (setAll cur o vs)[i]? = cur[i]?
  | [], _, _, _, _ => rfl
  | _ :: vs, o, cur, i, h => by rw [setAll, setAll_low vs _ _ _ (by omega), Array.getElem?_setIfInBounds_ne (by omega)]
theorem setAll_in : ∀ (vs : List Value) (o : Nat) (cur : Array Value) (j : Nat), o + vs.length ≤ cur.size → j < vs.length → (setAll cur o vs)[o + j]? = vs[j]?
  | [], _, _, _, _, h => by simp at h
  | v :: vs, o, cur, j, h, hj => by
    simp only [List.length_cons] at h hj
    rw [setAll]
    cases j with
    | zero => rw [setAll_low _ _ _ _ (by omega), Nat.add_zero, Array.getElem?_setIfInBounds_self_of_lt (by omega)]; rfl
    | succ j =>
      have := setAll_in vs (o + 1) (cur.setIfInBounds o v) j (by simp; omega) (by omega)
      rw [show o + (j + 1) = o + 1 + j by omega, this]; rfl
theorem heap_setCells_same {b : Nat} {e : TypeId} : ∀ (vs : List Value) (o : Nat) {w : World} {cur : Array Value}, w.heap[b]? = some (.cells cur e (0, 0)) → (w.setCells b o vs).heap[b]? = some (.cells (setAll cur o vs) e (0, 0))
  | [], _, _, _, h => h
  | v :: vs, o, w, cur, h => by
    rw [World.setCells, setAll]
    exact heap_setCells_same vs (o + 1) (row_set h o v)
theorem size_setCells' (b : Nat) : ∀ (vs : List Value) (o : Nat) (w : World), (w.setCells b o vs).heap.size = w.heap.size
  | [], _, _ => rfl
  | v :: vs, o, w => by rw [World.setCells, size_setCells' b vs]; simp

/-- A block with room for K rounds, in which pre lies. -/
def Buf (W : World) (g K : Nat) (pre : List Rd) : Prop := ∃ cur : Array Value, W.heap[g]? = some (.cells cur 43 (0, 0)) ∧ cur.size = K * 7 ∧ ∀ (i : Nat) (x : Value), (pre.flatMap Rd.cells)[i]? = some x → cur[i]? = some x
theorem Buf.of_block {W W' : World} {g K : Nat} {pre : List Rd} (h : Buf W g K pre) (hb : W'.heap[g]? = W.heap[g]?) : Buf W' g K pre := by
  obtain ⟨cur, h1, h2, h3⟩ := h
  exact ⟨cur, hb.trans h1, h2, h3⟩
theorem Buf.lt {W : World} {g K : Nat} {pre : List Rd} (h : Buf W g K pre) : g < W.heap.size := by obtain ⟨cur, h1, _⟩ := h; exact lt_of_heap h1
theorem rd_flat_len (l : List Rd) : (l.flatMap Rd.cells).length = l.length * 7 := by
  induction l with
  | nil => rfl
  | cons x l ih => rw [List.flatMap_cons, List.length_append, ih]; simp; omega
theorem Buf.front {W : World} {g K : Nat} {pre suf : List Rd} (h : Buf W g K (pre ++ suf)) : Buf W g K pre := by
  obtain ⟨cur, h1, h2, h3⟩ := h
  refine ⟨cur, h1, h2, fun i x hx => h3 i x ?_⟩
  rw [List.flatMap_append, List.getElem?_append_left (by
    rcases Nat.lt_or_ge i (pre.flatMap Rd.cells).length with h | h
    · exact h
    · rw [List.getElem?_eq_none h] at hx; cases hx)]
  exact hx
theorem Buf.row {W : World} {g K : Nat} {pre : List Rd} (h : Buf W g K pre) (hK : K ≤ 100) (hp : pre.length ≤ K) : Row Rd.cells 7 W (.slice (some ⟨g, 0, none⟩) pre.length K) pre := by
  obtain ⟨cur, h1, h2, h3⟩ := h
  refine ⟨_, _, rfl, hp, by omega, fun _ => ⟨g, 0, rfl, lt_of_heap h1, fun i x hx j u hu => ?_⟩⟩
  have hj : j < 7 := by
    rcases Nat.lt_or_ge j 7 with h | h
    · exact h
    · rw [List.getElem?_eq_none (by simpa using h)] at hu; cases hu
  have := flat_get (enc := Rd.cells) (size := 7) (fun _ => rfl) pre i j x hx hj
  rw [hu] at this
  rw [Nat.zero_add, cell_of_row _ _ _ _ _ _ h1]
  exact h3 _ _ this
/-- One round more. -/
theorem Buf.push {W : World} {g K : Nat} {pre : List Rd} (h : Buf W g K pre) (r : Rd) (hp : pre.length < K) : Buf (W.setCells g (pre.length * 7) r.cells) g K (pre ++ [r]) := by
  obtain ⟨cur, h1, h2, h3⟩ := h
  have hlen : r.cells.length = 7 := rfl
  refine ⟨_, heap_setCells_same _ _ h1, by rw [setAll_size]; exact h2, fun i x hx => ?_⟩
  rw [List.flatMap_append] at hx
  rcases Nat.lt_or_ge i (pre.length * 7) with hi | hi
  · rw [List.getElem?_append_left (by rw [rd_flat_len]; exact hi)] at hx
    rw [setAll_low _ _ _ _ hi]; exact h3 _ _ hx
  · rw [List.getElem?_append_right (by rw [rd_flat_len]; exact hi), rd_flat_len] at hx
    obtain ⟨j, rfl⟩ := Nat.exists_eq_add_of_le hi
    rw [Nat.add_sub_cancel_left] at hx
    have hx' : r.cells[j]? = some x := by simpa using hx
    have hj : j < r.cells.length := by
      rcases Nat.lt_or_ge j r.cells.length with h | h
      · exact h
      · rw [List.getElem?_eq_none h] at hx'; cases hx'
    rw [setAll_in _ _ _ _ (by rw [hlen, h2]; omega) hj]; exact hx'
theorem Buf.cells_there {W : World} {g K : Nat} {pre : List Rd} (h : Buf W g K pre) (hp : pre.length < K) : ∀ j, j < 7 → (W.cell? ⟨g, 0 + pre.length * 7 + j, none⟩).isSome = true ∧ W.frozen? ⟨g, 0 + pre.length * 7 + j, none⟩ = false := by
  obtain ⟨cur, h1, h2, h3⟩ := h
  intro j hj
  refine ⟨?_, frozen_row h1 _⟩
  rw [cell_of_row _ _ _ _ _ _ h1, Array.getElem?_eq_getElem (by omega)]; rfl

/-- append where there is room. -/
theorem wpList_append_room {P : Program} {ops : Array Oper} {rest : List Oper} {o : Oper} {a : Act} {w : World} {Q : Exit → Act → World → Prop} (hgd : o.guard = none) (s x : Operand) (t : TypeId)
    (ho : o.op = .call { callee := .builtin .append, args := #[s, x], argTypes := #[t, t] }) (e : TypeId) (size : Nat) (ht : P.underlying t = some (.slice e)) (hi : (P.info? e).map (·.size) = some size)
    (b off n cap : Nat) (hs : a.eval s = .slice (some ⟨b, off, none⟩) n cap) (ad : Addr) (m c : Nat) (news : List Value) (hx : a.eval x = .slice (some ad) m c) (hn : news.length = m * size)
    (hc : ∀ j u, news[j]? = some u → w.cell? (ad.add j) = some u) (h1 : ∀ u ∈ news, u.oneCell' = true) (hroom : n + m ≤ cap)
    (hspare : ∀ j, j < news.length → (w.cell? ⟨b, off + n * size + j, none⟩).isSome = true ∧ w.frozen? ⟨b, off + n * size + j, none⟩ = false)
    (h : wpList P ops Q rest (a.put o.dst (.slice (some ⟨b, off, none⟩) (n + m) cap)) (w.setCells b (off + n * size) news)) : wpList P ops Q (o :: rest) a w := by
  cases hq : P.info? e with
  | none => rw [hq] at hi; cases hi
  | some i =>
    rw [hq] at hi
    simp only [Option.map_some, Option.some.injEq] at hi
    subst hi
    refine wpList_plain hgd fun K hK => ?_
    have hrun := run_append_room_cells (P := P) w t o.type e i ht hq b off n cap ad m c news hn hc h1 hroom (fun j hj => (hspare j hj).1) (fun j hj => (hspare j hj).2)
    unfold Oper.wp
    simp [execOp, ho, resolve, invoke, builtin, hs, hx, hrun, Result.andThen]
    exact hK _ _ h

set_option maxHeartbeats 1000000 in
theorem clone_any (l : List Rd) (g c : Nat) (w : World) (hl : Row Rd.cells 7 w (.slice (some ⟨g, 0, none⟩) l.length c) l) (hlen : l.length ≤ 1000) :
    Calls Try.prog 52 #[.slice (some ⟨g, 0, none⟩) l.length c] w (RetV (fun u w' => Own Rd.cells 7 w' w.heap.size 43 u l) w) := by
  have HL := hide hl
  have qT := fun (w : World) (a : Option Addr) (n c n' c' : Nat) => Lib.run_eql_slice_nil (P := Try.prog) w 27 43 a n c n' c' Try.underlying27
  clear hl
  go_enter Try.func52, Try.ntmps52
  have HO : Hid (Own Rd.cells 7 (w.alloc (.cells #[] 43)) w.heap.size 43 (.slice (some ⟨w.heap.size, 0, none⟩) 0 0) ([] : List Rd)) :=
    ⟨fun _ => rfl, rfl, .inr ⟨w.heap.size, 0, #[], rfl, Nat.le_refl _, heap_alloc_new w _, Nat.le_refl _, by unfold maxLen; omega, rfl, rfl⟩⟩
  have HE : Hid (Ext w (w.alloc (.cells #[] 43))) := (Ext.refl w).alloc _
  have HR := hide (HL.out.ext HE.out)
  go_wp2_with (at_builtin; refine wpList_appendN rfl (.tmp 5) (.tmp 6) 27 rfl w.heap.size 43 (Rd.v default) 7 56 Try.underlying27 round_info rfl (by decide) _ ([] : List Rd) _ l rfl HO.out rfl HR.out rd_one (by simp; omega) (by decide) (by simp) ?_; intro v' w' hown' hg)
  go_ret
  exact ⟨_, rfl, hown', HE.out.grown hg (fun k hk => by injection hk with hk; rw [← hk]; exact Nat.le_refl _)⟩
end Go.Proofs.Ytmkmgimmlohamaa
