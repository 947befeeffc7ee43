/-
  A queue of integers: a slice of the call's own that is cut at its head and appended to.
  Conditions: none.
-/
import Derived.Test.YtjgkgcjmcpgiaaaReach2
namespace Go.Proofs.Ytjgkgcjmcpgiaaa
open Go.RowKit
attribute [local go_sem] Oper.semAt_some

/-- v is a queue of the call's own. -/
def Que (W : World) (base : Nat) (v : Value) (q : List Int) : Prop :=
  ∃ g off cs cap, v = .slice (some ⟨g, off, none⟩) q.length cap ∧ base ≤ g ∧ W.heap[g]? = some (.cells cs 3 (0, 0)) ∧ off + cap ≤ cs.size ∧ q.length ≤ cap ∧ cap ≤ maxLen ∧ ∀ i x, q[i]? = some x → cs[off + i]? = some (.int .i64 x)
theorem que_room (W : World) (ty : TypeId) (g off n cap h : Nat) (cs : Array Value) (x : Int) (hg : W.heap[g]? = some (.cells cs 3 (0, 0))) (hx : W.cell? ⟨h, 0, none⟩ = some (.int .i64 x)) (hroom : n + 1 ≤ cap) (hsz : off + cap ≤ cs.size) :
    (Builtin.append_ #[47, 47] ty #[.slice (some ⟨g, off, none⟩) n cap, .slice (some ⟨h, 0, none⟩) 1 1]).run Try.prog W = .ok (.slice (some ⟨g, off, none⟩) (n + 1) cap) (W.setRow g (cs.setIfInBounds (off + n) (.int .i64 x))) := by
  have hi : (sizeOf 3).run Try.prog W = .ok 1 W := by kernel_rfl
  have hu := run_underlying (P := Try.prog) Try.underlying47 W
  have hf := run_firstCells_some (P := Try.prog) W 1 1 ⟨h, 0, none⟩ 1 1 [.int .i64 x] rfl (fun j u hj => by
    cases j with
    | zero => simp at hj; subst hj; exact hx
    | succ j => simp at hj)
  have hst := run_storeCells_at Try.prog g (off + n) 3 [.int .i64 x] 0 cs W hg (by simp; omega) (by simp [Value.oneCell'])
  simp [Builtin.append_, hu, hi, Builtin.lenOf, hroom, hf, Addr.add_lit]
  rw [hst]
  have e : (cs.toList.take (off + n + 0) ++ [Value.int .i64 x] ++ cs.toList.drop (off + n + 0 + [Value.int .i64 x].length)).toArray = cs.setIfInBounds (off + n) (.int .i64 x) := by
    apply Array.ext'
    rw [Array.toList_setIfInBounds, List.set_eq_take_append_cons_drop, if_pos (by simp; omega)]
    simp
  rw [e]
  rfl
theorem Que.block {W W' : World} {base : Nat} {v : Value} {q : List Int} (h : Que W base v q) (hb : ∀ k, base ≤ k → k < W.heap.size → W'.heap[k]? = W.heap[k]?) : Que W' base v q := by
  obtain ⟨g, off, cs, cap, h1, h2, h3, h4⟩ := h
  exact ⟨g, off, cs, cap, h1, h2, (hb g h2 (lt_of_heap h3)).trans h3, h4⟩
/-- All below B lies as it lay. -/
structure Low (B : Nat) (W W' : World) : Prop where
  os : W'.os = W.os
  tape : W'.tape = W.tape
  output : W'.output = W.output
  size : W.heap.size ≤ W'.heap.size
  low : ∀ k, k < B → k < W.heap.size → W'.heap[k]? = W.heap[k]?
theorem Ext.low {w W W' : World} {B : Nat} (h : Ext w W) (hl : Low B W W') (hB : w.heap.size ≤ B) : Ext w W' :=
  ⟨⟨hl.os.trans h.b.os, hl.tape.trans h.b.tape, hl.output.trans h.b.output, Nat.le_trans h.b.size hl.size, fun k hk => (hl.low k (by omega) (Nat.lt_of_lt_of_le hk h.b.size)).trans (h.b.block k hk)⟩⟩
theorem que_append {W : World} {base : Nat} {v : Value} {q : List Int} (h : Que W base v q) (hw : Nat) (x : Int) (hx : W.cell? ⟨hw, 0, none⟩ = some (.int .i64 x)) (hlen : (q.length + 1) * 8 ≤ 140737488355328) (hbase : base ≤ W.heap.size) :
    ∃ g off cap W', (∀ ty, (Builtin.append_ #[47, 47] ty #[v, .slice (some ⟨hw, 0, none⟩) 1 1]).run Try.prog W = .ok (.slice (some ⟨g, off, none⟩) (q.length + 1) cap) W') ∧
      Que W' base (.slice (some ⟨g, off, none⟩) (q.length + 1) cap) (q ++ [x]) ∧ Low base W W' := by
  obtain ⟨g, off, cs, cap, rfl, hg, hrow, hsz, hcap, hmax, hat⟩ := h
  by_cases hroom : q.length + 1 ≤ cap
  · refine ⟨g, off, cap, W.setRow g (cs.setIfInBounds (off + q.length) (.int .i64 x)), fun ty => que_room W ty g off _ cap hw cs x hrow hx hroom hsz, ?_, ⟨rfl, rfl, rfl, by simp, fun k hk _ => setRow_other _ _ _ _ (by omega)⟩⟩
    refine ⟨g, off, _, cap, by simp, hg, setRow_heap _ _ _ _ _ _ hrow, by simpa using hsz, by simpa using hroom, hmax, fun i y hy => ?_⟩
    rw [Array.getElem?_setIfInBounds]
    by_cases e : off + q.length = off + i
    · have e2 : i = q.length := by omega
      subst e2
      simp at hy
      subst hy
      rw [if_pos rfl, if_pos (by omega)]
    · rw [if_neg e]
      refine hat i y ?_
      rcases Nat.lt_or_ge i q.length with h7 | h7
      · rwa [List.getElem?_append_left h7] at hy
      · rw [List.getElem?_append_right h7] at hy
        have : i - q.length = 0 := by
          rcases Nat.eq_zero_or_pos (i - q.length) with h8 | h8
          · exact h8
          · rw [List.getElem?_eq_none (by simp; omega)] at hy; cases hy
        omega
  · obtain ⟨i, hi, hzz⟩ := Option.map_eq_some_iff.1 int_info
    simp only [Prod.mk.injEq] at hzz
    obtain ⟨hz, hs1, hb8⟩ := hzz
    have holds : ∀ j u, (q.map (Value.int .i64 ·))[j]? = some u → W.cell? ((⟨g, off, none⟩ : Addr).add j) = some u := fun j u hj => by
      rw [List.getElem?_map] at hj
      cases hq : q[j]? with
      | none => rw [hq] at hj; cases hj
      | some y =>
        rw [hq] at hj
        simp only [Option.map_some, Option.some.injEq] at hj
        subst hj
        have e : (⟨g, off, none⟩ : Addr).add j = ⟨g, off + j, none⟩ := by unfold Addr.add; split <;> simp_all
        rw [e, cell_of_row _ _ _ _ _ _ hrow]
        exact hat j y hq
    have hr := fun ty => run_append_grow (P := Try.prog) W 47 ty 3 i (.int .i64 0) Try.underlying47 hi hz ⟨g, off, none⟩ q.length cap (q.map (Value.int .i64 ·)) (by rw [List.length_map, hs1, Nat.mul_one]) holds
      ⟨hw, 0, none⟩ 1 1 [.int .i64 x] (by rw [hs1]; rfl) (fun j u hj => by
        cases j with
        | zero => simp at hj; subst hj; exact hx
        | succ j => simp at hj) (by omega) (by omega) (growslice_fits (by omega) (by rw [hb8]; exact hlen))
    refine ⟨W.heap.size, 0, _, _, hr, ?_, ⟨rfl, rfl, rfl, by simp, fun k _ hk => Below.heap_alloc W.drew _ k hk⟩⟩
    have hge := grownCap_ge W (q.length + 1) cap 3
    refine ⟨W.heap.size, 0, _, grownCap W (q.length + 1) cap 3, by simp, hbase, heap_alloc_new W.drew _, ?_, by simpa using hge, grownCap_le_maxLen W _ _ _ (by unfold maxLen; omega), fun j y hy => ?_⟩
    · simp [Builtin.zeroCells, Value.cells]
      omega
    · rw [Nat.zero_add]
      have hj : j < (q ++ [x]).length := by
        rcases Nat.lt_or_ge j (q ++ [x]).length with h7 | h7
        · exact h7
        · rw [List.getElem?_eq_none h7] at hy; cases hy
      have e : ((q.map (Value.int .i64 ·)).toArray ++ [Value.int .i64 x].toArray) = ((q ++ [x]).map (Value.int .i64 ·)).toArray := by simp
      rw [e, Array.getElem?_append_left (by simpa using hj)]
      rw [List.getElem?_toArray, List.getElem?_map, hy]
      rfl
end Go.Proofs.Ytjgkgcjmcpgiaaa
