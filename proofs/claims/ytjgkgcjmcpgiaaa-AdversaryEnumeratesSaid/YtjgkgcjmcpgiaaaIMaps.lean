/-
  Maps keyed by integers.
  Conditions: none.
-/
import Derived.Test.YtjgkgcjmcpgiaaaQue
namespace Go.Proofs.Ytjgkgcjmcpgiaaa
open Go.RowKit
attribute [local go_sem] Oper.semAt_some

/-- Block b is a map with these entries. -/
def IMap (W : World) (b : Nat) (l : List (Int × Value)) : Prop :=
  ∃ es clock, W.heap[b]? = some (.map es clock) ∧ es.toList.map (fun e => (e.key, e.val)) = l.map fun x => (Value.int .i64 x.1, x.2)
def ilook : List (Int × Value) → Int → Option Value
  | [], _ => none
  | (x, t) :: l, r => if r = x then some t else ilook l r
theorem IMap.lt {W : World} {b : Nat} {l : List (Int × Value)} (h : IMap W b l) : b < W.heap.size := by obtain ⟨_, _, h, _⟩ := h; exact lt_of_heap h
theorem IMap.of_block {W W' : World} {b : Nat} {l : List (Int × Value)} (h : IMap W b l) (hb : W'.heap[b]? = W.heap[b]?) : IMap W' b l := by
  obtain ⟨es, c, h1, h2⟩ := h; exact ⟨es, c, hb.trans h1, h2⟩
theorem IMap.new (W : World) : IMap (W.alloc (.map #[] 0)) W.heap.size [] := ⟨#[], 0, World.alloc_heap_new _ _, rfl⟩
theorem check_int (em : Bool) (n : Int) (w : World) : (Instr.checkKey em 10000 3 (.int .i64 n)).run Try.prog w = .ok () w := by kernel_rfl
theorem now_int (r : Int) : ∀ (es : List MapEntry) (l : List (Int × Value)) (i : Nat), es.map (fun e => (e.key, e.val)) = l.map (fun x => (Value.int .i64 x.1, x.2)) →
    ∃ res : Option (Nat × Value), Instr.findNow (.int .i64) (.int .i64 r) es i = some res ∧ res.map (·.2) = ilook l r
  | [], [], i, _ => ⟨none, rfl, rfl⟩
  | [], _ :: _, i, h => by simp at h
  | _ :: _, [], i, h => by simp at h
  | e :: es, (x, t) :: l, i, h => by
    simp only [List.map_cons, List.cons.injEq, Prod.mk.injEq] at h
    obtain ⟨⟨h1, h2⟩, h3⟩ := h
    simp only [Instr.findNow, h1, Instr.sameNow, ilook, if_true]
    by_cases hr : r = x
    · subst hr
      simp only [beq_self_eq_true, if_true]
      exact ⟨some (i, e.val), rfl, by rw [← h2]; rfl⟩
    · have hq : (r == x) = false := by simp [hr]
      rw [hq, if_neg hr]
      exact now_int r es l (i + 1) h3
theorem under_int (w : World) : (underlying 3).run Try.prog w = .ok (.int .i64) w := by kernel_rfl
theorem find_int (r : Int) (w : World) (es : List MapEntry) (l : List (Int × Value)) (h : es.map (fun e => (e.key, e.val)) = l.map (fun x => (Value.int .i64 x.1, x.2))) :
    ∃ res : Option (Nat × Value), (Instr.findKey 3 (.int .i64 r) es).run Try.prog w = .ok res w ∧ res.map (·.2) = ilook l r := by
  obtain ⟨res, h1, h2⟩ := now_int r es l 0 h
  exact ⟨res, by simp [Instr.findKey, under_int w, h1, Result.andThen], h2⟩
theorem look_int (mt et : TypeId) (z : Value) (hu : ∀ W, (underlying mt).run Try.prog W = .ok (.map 3 et) W) (hz : ∀ W, (zeroValue et).run Try.prog W = .ok z W) (r : Int) (W : World) (b : Nat) (l : List (Int × Value)) (h : IMap W b l) :
    (Instr.lookup mt (.map (some b)) (.int .i64 r) false).run Try.prog W = .ok ((ilook l r).getD z) W := by
  obtain ⟨es, clock, hb, hl⟩ := h
  obtain ⟨res, h1, h2⟩ := find_int r W es.toList l hl
  have hk := fun em => check_int em r W
  cases hr : ilook l r with
  | none =>
    rw [hr] at h2
    cases res with
    | some x => simp at h2
    | none => simp [Instr.lookup, hu, hk, h1, MapKept.run_getObj_map hb, Result.andThen, hz]
  | some t =>
    rw [hr] at h2
    cases res with
    | none => simp at h2
    | some x =>
      obtain ⟨j, v⟩ := x
      simp only [Option.map_some, Option.some.injEq] at h2
      subst h2
      simp [Instr.lookup, hu, hk, h1, MapKept.run_getObj_map hb, Result.andThen]
theorem put_int (mt et : TypeId) (hu : ∀ W, (underlying mt).run Try.prog W = .ok (.map 3 et) W) (r : Int) (t : Value) (W : World) (b : Nat) (l : List (Int × Value)) (h : IMap W b l) (hn : ilook l r = none) :
    ∃ o, (Instr.mapUpdate mt (.map (some b)) (.int .i64 r) t).run Try.prog W = .ok () (W.putObj b o) ∧ IMap (W.putObj b o) b (l ++ [(r, t)]) := by
  obtain ⟨es, clock, hb, hl⟩ := h
  obtain ⟨res, h1, h2⟩ := find_int r W es.toList l hl
  have hk := fun em => check_int em r W
  rw [hn] at h2
  cases res with
  | some x => simp at h2
  | none =>
    refine ⟨.map (es.push { key := .int .i64 r, val := t, born := clock }) (clock + 1), ?_, ?_⟩
    · simp [Instr.mapUpdate, hu, hk, h1, MapKept.run_getObj_map hb, MapKept.run_setObj_map _ hb, Result.andThen]
      rfl
    · refine ⟨_, _, World.putObj_heap_same (lt_of_heap hb), ?_⟩
      simp [hl]
theorem ilook_append (l : List (Int × Value)) (x : Int) (t : Value) (r : Int) : ilook (l ++ [(x, t)]) r = match ilook l r with | some v => some v | none => if r = x then some t else none := by
  induction l with
  | nil => rfl
  | cons y l ih =>
    obtain ⟨k, v⟩ := y
    simp only [List.cons_append, ilook]
    split
    · rfl
    · exact ih
theorem Low.refl (B : Nat) (W : World) : Low B W W := ⟨rfl, rfl, rfl, Nat.le_refl _, fun _ _ _ => rfl⟩
theorem under_ib (W : World) : (underlying 114).run Try.prog W = .ok (.map 3 4) W := by kernel_rfl
theorem under_ii (W : World) : (underlying 97).run Try.prog W = .ok (.map 3 3) W := by kernel_rfl
theorem zero_b (W : World) : (zeroValue 4).run Try.prog W = .ok (.bool false) W := by kernel_rfl
theorem zero_i (W : World) : (zeroValue 3).run Try.prog W = .ok (.int .i64 0) W := by kernel_rfl
end Go.Proofs.Ytjgkgcjmcpgiaaa
