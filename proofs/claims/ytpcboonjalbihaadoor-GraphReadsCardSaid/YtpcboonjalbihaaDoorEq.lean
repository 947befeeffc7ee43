/-
  '==' of graphs, rounds and moves: as their cells are.
  Conditions: none.
-/
import Derived.Test.YtpcboonjalbihaaDoorBase
namespace Go.Proofs.YtpcboonjalbihaaDoor
open Go.RowKit

def geq (g g' : Gr) : Bool := g.n == g'.n && (g.h0 == g'.h0 && (g.h1 == g'.h1 && (g.h2 == g'.h2 && (g.h3 == g'.h3 && g.h4 == g'.h4))))
theorem geq_iff {g g' : Gr} : geq g g' = true ↔ g = g' := by
  obtain ⟨n, a, b, c, d, e⟩ := g
  obtain ⟨n', a', b', c', d', e'⟩ := g'
  simp [geq]
theorem run_ite_ok (b c : Bool) (w : World) (P : Program) (k : Sem Bool) (h : k.run P w = .ok c w) : (if (!b) = true then (pure false : Sem Bool) else k).run P w = .ok (b && c) w := by
  cases b <;> simp [h]

theorem part_int (w : World) (cs : Array Value) (off : Nat) (v : Value) (h : cs[off]? = some v) : (part 3 cs off).run Tryd.prog w = .ok v w := by
  have h1 : (isAgg 3).run Tryd.prog w = .ok false w := by kernel_rfl
  simp [part, h1, h]
theorem eq_int (d : Nat) (a b : Int) (w : World) : (Op.equalIn (d + 1) 3 (.int .i64 a) (.int .i64 b)).run Tryd.prog w = .ok (a == b) w :=
  run_equalIn_int w d 3 .i64 .i64 a b Tryd.underlying3

theorem eq_arr5 (dd : Nat) (a b c d e a' b' c' d' e' : Int) (w : World) :
    (Op.equalIn (dd + 1 + 1) 22 (.agg #[.int .i64 a, .int .i64 b, .int .i64 c, .int .i64 d, .int .i64 e]) (.agg #[.int .i64 a', .int .i64 b', .int .i64 c', .int .i64 d', .int .i64 e'])).run Tryd.prog w =
      .ok (a == a' && (b == b' && (c == c' && (d == d' && e == e')))) w := by
  have hs : (sizeOf 3).run Tryd.prog w = .ok 1 w := by kernel_rfl
  rw [Op.equalIn]
  simp only [Sem.run_bind, run_underlying Tryd.underlying22, Result.andThen_ok, hs]
  rw [Std.Legacy.Range.forIn_eq_forIn_range']
  simp only [Std.Legacy.Range.size, Nat.sub_zero, Nat.add_one_sub_one, Nat.div_one, Nat.reduceAdd, List.range', List.forIn_cons, List.forIn_nil, Sem.run_bind, Nat.mul_one]
  rw [part_int w _ 0 (.int .i64 a) rfl, Result.andThen_ok, part_int w _ 0 (.int .i64 a') rfl, Result.andThen_ok, eq_int, Result.andThen_ok]
  cases ha : a == a'
  · simp
  simp only [Bool.not_true, Bool.false_eq_true, if_false, Sem.run_pure, Result.andThen_ok, Sem.run_bind, Bool.true_and]
  rw [part_int w _ 1 (.int .i64 b) rfl, Result.andThen_ok, part_int w _ 1 (.int .i64 b') rfl, Result.andThen_ok, eq_int, Result.andThen_ok]
  cases hb : b == b'
  · simp
  simp only [Bool.not_true, Bool.false_eq_true, if_false, Sem.run_pure, Result.andThen_ok, Sem.run_bind, Bool.true_and]
  rw [part_int w _ 2 (.int .i64 c) rfl, Result.andThen_ok, part_int w _ 2 (.int .i64 c') rfl, Result.andThen_ok, eq_int, Result.andThen_ok]
  cases hc : c == c'
  · simp
  simp only [Bool.not_true, Bool.false_eq_true, if_false, Sem.run_pure, Result.andThen_ok, Sem.run_bind, Bool.true_and]
  rw [part_int w _ 3 (.int .i64 d) rfl, Result.andThen_ok, part_int w _ 3 (.int .i64 d') rfl, Result.andThen_ok, eq_int, Result.andThen_ok]
  cases hd : d == d'
  · simp
  simp only [Bool.not_true, Bool.false_eq_true, if_false, Sem.run_pure, Result.andThen_ok, Sem.run_bind, Bool.true_and]
  rw [part_int w _ 4 (.int .i64 e) rfl, Result.andThen_ok, part_int w _ 4 (.int .i64 e') rfl, Result.andThen_ok, eq_int, Result.andThen_ok]
  cases he : e == e'
  · simp
  simp only [Bool.not_true, Bool.false_eq_true, if_false, Sem.run_pure, Result.andThen_ok]
  done

theorem part_agg (w : World) (t : TypeId) (k : Nat) (cs : Array Value) (off : Nat) (h1 : (isAgg t).run Tryd.prog w = .ok true w) (h2 : (sizeOf t).run Tryd.prog w = .ok k w) : (part t cs off).run Tryd.prog w = .ok (.agg (cs.extract off (off + k))) w := by
  simp [part, h1, h2]
/-- '==' of graphs. -/
theorem eq_graph (dd : Nat) (n a b c d e n' a' b' c' d' e' : Int) (w : World) :
    (Op.equalIn (dd + 1 + 1 + 1) 24 (.agg #[.int .i64 n, .int .i64 a, .int .i64 b, .int .i64 c, .int .i64 d, .int .i64 e]) (.agg #[.int .i64 n', .int .i64 a', .int .i64 b', .int .i64 c', .int .i64 d', .int .i64 e'])).run Tryd.prog w =
      .ok (geq ⟨n, a, b, c, d, e⟩ ⟨n', a', b', c', d', e'⟩) w := by
  rw [run_equalIn_struct w _ _ _ _ (by kernel_rfl) (by kernel_rfl)]
  have h1 := part_agg w 22 5 #[.int .i64 n, .int .i64 a, .int .i64 b, .int .i64 c, .int .i64 d, .int .i64 e] 1 (by kernel_rfl) (by kernel_rfl)
  have h2 := part_agg w 22 5 #[.int .i64 n', .int .i64 a', .int .i64 b', .int .i64 c', .int .i64 d', .int .i64 e'] 1 (by kernel_rfl) (by kernel_rfl)
  have e1 : (#[.int .i64 n, .int .i64 a, .int .i64 b, .int .i64 c, .int .i64 d, .int .i64 e] : Array Value).extract 1 (1 + 5) = #[.int .i64 a, .int .i64 b, .int .i64 c, .int .i64 d, .int .i64 e] := rfl
  have e2 : (#[.int .i64 n', .int .i64 a', .int .i64 b', .int .i64 c', .int .i64 d', .int .i64 e'] : Array Value).extract 1 (1 + 5) = #[.int .i64 a', .int .i64 b', .int .i64 c', .int .i64 d', .int .i64 e'] := rfl
  rw [e1] at h1
  rw [e2] at h2
  simp only [Program.fieldsOf, Tryd.underlying24, Op.eqFields]
  simp only [ne_eq, String.reduceEq, not_false_eq_true, if_true, Sem.run_bind]
  rw [part_int w _ 0 (.int .i64 n) rfl, Result.andThen_ok, part_int w _ 0 (.int .i64 n') rfl, Result.andThen_ok, eq_int, Result.andThen_ok]
  cases hn : n == n'
  · simp [geq, hn]
  simp only [Bool.not_true, Bool.false_eq_true, if_false, Sem.run_bind, h1, h2, Result.andThen_ok, eq_arr5]
  cases ha : (a == a' && (b == b' && (c == c' && (d == d' && e == e')))) <;> simp [geq, hn, ha]
theorem eql_graph (n a b c d e n' a' b' c' d' e' : Int) (w : World) :
    (binOp .eql 24 (.agg #[.int .i64 n, .int .i64 a, .int .i64 b, .int .i64 c, .int .i64 d, .int .i64 e]) (.agg #[.int .i64 n', .int .i64 a', .int .i64 b', .int .i64 c', .int .i64 d', .int .i64 e'])).run Tryd.prog w =
      .ok (.bool (geq ⟨n, a, b, c, d, e⟩ ⟨n', a', b', c', d', e'⟩)) w := by
  rw [run_eql_struct, eq_graph 9997]; rfl
theorem neq_graph (n a b c d e n' a' b' c' d' e' : Int) (w : World) :
    (binOp .neq 24 (.agg #[.int .i64 n, .int .i64 a, .int .i64 b, .int .i64 c, .int .i64 d, .int .i64 e]) (.agg #[.int .i64 n', .int .i64 a', .int .i64 b', .int .i64 c', .int .i64 d', .int .i64 e'])).run Tryd.prog w =
      .ok (.bool (!geq ⟨n, a, b, c, d, e⟩ ⟨n', a', b', c', d', e'⟩)) w := by
  rw [run_neq_struct, eq_graph 9997]; rfl
end Go.Proofs.YtpcboonjalbihaaDoor
