/-
  Maps keyed by rounds.
  Conditions: none.
-/
import Derived.Test.YtdlhnpogddpmpaaGreatHeldA
namespace Go.Proofs.YtdlhnpogddpmpaaGreat
open Go.RowKit
attribute [local go_sem] Oper.semAt_some

/-- Block b is a map with these entries. -/
def RMap (W : World) (b : Nat) (l : List (Rd × Int)) : Prop :=
  ∃ es clock, W.heap[b]? = some (.map es clock) ∧ es.toList.map (fun e => (e.key, e.val)) = l.map fun x => (Rd.v x.1, Value.int .i64 x.2)
def alook : List (Rd × Int) → Rd → Option Int
  | [], _ => none
  | (x, t) :: l, r => if r = x then some t else alook l r
theorem RMap.lt {W : World} {b : Nat} {l : List (Rd × Int)} (h : RMap W b l) : b < W.heap.size := by obtain ⟨_, _, h, _⟩ := h; exact lt_of_heap h
theorem RMap.of_block {W W' : World} {b : Nat} {l : List (Rd × Int)} (h : RMap W b l) (hb : W'.heap[b]? = W.heap[b]?) : RMap W' b l := by
  obtain ⟨es, c, h1, h2⟩ := h; exact ⟨es, c, hb.trans h1, h2⟩
theorem RMap.new (W : World) : RMap (W.alloc (.map #[] 0)) W.heap.size [] := ⟨#[], 0, World.alloc_heap_new _ _, rfl⟩
theorem check_round (em : Bool) (n a b c d e f : Int) (w : World) : (Instr.checkKey em 10000 39 (.agg #[.int .i64 n, .int .i64 a, .int .i64 b, .int .i64 c, .int .i64 d, .int .i64 e, .int .i64 f])).run Tryz.prog w = .ok () w := by kernel_rfl
theorem under_round (w : World) : ∃ fs, (underlying 39).run Tryz.prog w = .ok (.struct fs) w := by
  have h : (match Tryz.prog.underlying 39 with | some (.struct _) => true | _ => false) = true := by kernel_rfl
  cases hu : Tryz.prog.underlying 39 with
  | none => rw [hu] at h; cases h
  | some d =>
    rw [hu] at h
    cases d with
    | struct fs => exact ⟨fs, run_underlying hu w⟩
    | _ => cases h
theorem asking_round (r : Rd) (w : World) : ∀ (es : List MapEntry) (l : List (Rd × Int)) (i : Nat), es.map (fun e => (e.key, e.val)) = l.map (fun x => (Rd.v x.1, Value.int .i64 x.2)) →
    ∃ res : Option (Nat × Value), (Instr.findAsking 39 r.v es i).run Tryz.prog w = .ok res w ∧ res.map (·.2) = (alook l r).map (Value.int .i64 ·)
  | [], [], i, _ => ⟨none, rfl, rfl⟩
  | [], _ :: _, i, h => by simp at h
  | _ :: _, [], i, h => by simp at h
  | e :: es, (x, t) :: l, i, h => by
    simp only [List.map_cons, List.cons.injEq, Prod.mk.injEq] at h
    obtain ⟨⟨h1, h2⟩, h3⟩ := h
    have he : (Op.equal 39 r.v e.key).run Tryz.prog w = .ok (req r x) w := by
      rw [h1]
      obtain ⟨⟨n, a, b, c, d, e⟩, f⟩ := r
      obtain ⟨⟨n', a', b', c', d', e'⟩, f'⟩ := x
      exact eq_round 9996 _ _ _ _ _ _ _ _ _ _ _ _ _ _ _
    simp only [Instr.findAsking, Sem.run_bind, he, Result.andThen, alook]
    by_cases hr : r = x
    · rw [if_pos hr, req_iff.2 hr]
      exact ⟨some (i, e.val), rfl, by rw [h2]; rfl⟩
    · rw [if_neg hr]
      have hq : req r x = false := by cases hh : req r x; rfl; exact absurd (req_iff.1 hh) hr
      rw [hq]
      exact asking_round r w es l (i + 1) h3
theorem find_round (r : Rd) (w : World) (es : List MapEntry) (l : List (Rd × Int)) (h : es.map (fun e => (e.key, e.val)) = l.map (fun x => (Rd.v x.1, Value.int .i64 x.2))) :
    ∃ res : Option (Nat × Value), (Instr.findKey 39 r.v es).run Tryz.prog w = .ok res w ∧ res.map (·.2) = (alook l r).map (Value.int .i64 ·) := by
  obtain ⟨fs, hu⟩ := under_round w
  cases es with
  | nil =>
    cases l with
    | nil => exact ⟨none, by simp [Instr.findKey, hu, Instr.findNow, Result.andThen], rfl⟩
    | cons x l => simp at h
  | cons e es =>
    obtain ⟨res, h1, h2⟩ := asking_round r w (e :: es) l 0 h
    refine ⟨res, ?_, h2⟩
    simp only [Instr.findKey, Sem.run_bind, hu, Result.andThen, Instr.findNow, Instr.sameNow]
    exact h1
theorem look_round (r : Rd) (W : World) (b : Nat) (l : List (Rd × Int)) (h : RMap W b l) :
    (Instr.lookup 107 (.map (some b)) r.v true).run Tryz.prog W = .ok (.tuple #[.int .i64 ((alook l r).getD 0), .bool (alook l r).isSome]) W := by
  obtain ⟨es, clock, hb, hl⟩ := h
  obtain ⟨res, h1, h2⟩ := find_round r W es.toList l hl
  have hu : (underlying 107).run Tryz.prog W = .ok (.map 39 3) W := by kernel_rfl
  have hz : (zeroValue 3).run Tryz.prog W = .ok (.int .i64 0) W := by kernel_rfl
  have hk := fun em => check_round em r.g.n r.g.h0 r.g.h1 r.g.h2 r.g.h3 r.g.h4 r.f W
  cases hr : alook l r with
  | none =>
    rw [hr] at h2
    cases res with
    | some x => simp at h2
    | none => simp [Instr.lookup, hu, hk, h1, MapKept.run_getObj_map hb, Result.andThen, hz]
  | some t =>
    rw [hr] at h2
    cases res with
    | none => simp at h2
    | some x =>
      obtain ⟨j, v⟩ := x
      simp only [Option.map_some, Option.some.injEq] at h2
      subst h2
      simp [Instr.lookup, hu, hk, h1, MapKept.run_getObj_map hb, Result.andThen]
theorem put_round (r : Rd) (t : Int) (W : World) (b : Nat) (l : List (Rd × Int)) (h : RMap W b l) (hn : alook l r = none) :
    ∃ o, (Instr.mapUpdate 107 (.map (some b)) r.v (.int .i64 t)).run Tryz.prog W = .ok () (W.putObj b o) ∧ RMap (W.putObj b o) b (l ++ [(r, t)]) := by
  obtain ⟨es, clock, hb, hl⟩ := h
  obtain ⟨res, h1, h2⟩ := find_round r W es.toList l hl
  have hu : (underlying 107).run Tryz.prog W = .ok (.map 39 3) W := by kernel_rfl
  have hk := fun em => check_round em r.g.n r.g.h0 r.g.h1 r.g.h2 r.g.h3 r.g.h4 r.f W
  rw [hn] at h2
  cases res with
  | some x => simp at h2
  | none =>
    refine ⟨.map (es.push { key := r.v, val := .int .i64 t, born := clock }) (clock + 1), ?_, ?_⟩
    · simp [Instr.mapUpdate, hu, hk, h1, MapKept.run_getObj_map hb, MapKept.run_setObj_map _ hb, Result.andThen]
      rfl
    · refine ⟨_, _, World.putObj_heap_same (lt_of_heap hb), ?_⟩
      simp [hl]
end Go.Proofs.YtdlhnpogddpmpaaGreat
