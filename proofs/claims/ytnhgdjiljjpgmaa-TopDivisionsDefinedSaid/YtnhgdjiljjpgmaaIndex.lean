/-
  The program's table of moves (adversary.index).
  Conditions: as each theorem states.
-/
import Derived.Test.YtnhgdjiljjpgmaaHeldA
import Derived.Test.YtnhgdjiljjpgmaaChkA
import Derived.Test.YtnhgdjiljjpgmaaAdvRef3
import Derived.Deep.OwnRows
namespace Go.Proofs.Ytnhgdjiljjpgmaa
open Go.RowKit
attribute [local go_sem] Oper.semAt_some

/-- Block b is a map with these entries. -/
def RMap (W : World) (b : Nat) (l : List (Rd × Int)) : Prop :=
  ∃ es clock, W.heap[b]? = some (.map es clock) ∧ es.toList.map (fun e => (e.key, e.val)) = l.map fun x => (Rd.v x.1, Value.int .i64 x.2)
def alook : List (Rd × Int) → Rd → Option Int
  | [], _ => none
  | (x, t) :: l, r => if r = x then some t else alook l r
theorem RMap.lt {W : World} {b : Nat} {l : List (Rd × Int)} (h : RMap W b l) : b < W.heap.size := by obtain ⟨_, _, h, _⟩ := h; exact lt_of_heap h
theorem RMap.of_block {W W' : World} {b : Nat} {l : List (Rd × Int)} (h : RMap W b l) (hb : W'.heap[b]? = W.heap[b]?) : RMap W' b l := by
  obtain ⟨es, c, h1, h2⟩ := h; exact ⟨es, c, hb.trans h1, h2⟩
theorem RMap.new (W : World) : RMap (W.alloc (.map #[] 0)) W.heap.size [] := ⟨#[], 0, World.alloc_heap_new _ _, rfl⟩
theorem check_round (em : Bool) (n a b c d e f : Int) (w : World) : (Instr.checkKey em 10000 38 (.agg #[.int .i64 n, .int .i64 a, .int .i64 b, .int .i64 c, .int .i64 d, .int .i64 e, .int .i64 f])).run Try.prog w = .ok () w := by kernel_rfl
theorem under_round (w : World) : ∃ fs, (underlying 38).run Try.prog w = .ok (.struct fs) w := by
  have h : (match Try.prog.underlying 38 with | some (.struct _) => true | _ => false) = true := by kernel_rfl
  cases hu : Try.prog.underlying 38 with
  | none => rw [hu] at h; cases h
  | some d =>
    rw [hu] at h
    cases d with
    | struct fs => exact ⟨fs, run_underlying hu w⟩
    | _ => cases h
theorem asking_round (r : Rd) (w : World) : ∀ (es : List MapEntry) (l : List (Rd × Int)) (i : Nat), es.map (fun e => (e.key, e.val)) = l.map (fun x => (Rd.v x.1, Value.int .i64 x.2)) →
    ∃ res : Option (Nat × Value), (Instr.findAsking 38 r.v es i).run Try.prog w = .ok res w ∧ res.map (·.2) = (alook l r).map (Value.int .i64 ·)
  | [], [], i, _ => ⟨none, rfl, rfl⟩
  | [], _ :: _, i, h => by simp at h
  | _ :: _, [], i, h => by simp at h
  | e :: es, (x, t) :: l, i, h => by
    simp only [List.map_cons, List.cons.injEq, Prod.mk.injEq] at h
    obtain ⟨⟨h1, h2⟩, h3⟩ := h
    have he : (Op.equal 38 r.v e.key).run Try.prog w = .ok (req r x) w := by
      rw [h1]
      obtain ⟨⟨n, a, b, c, d, e⟩, f⟩ := r
      obtain ⟨⟨n', a', b', c', d', e'⟩, f'⟩ := x
      exact eq_round 9996 _ _ _ _ _ _ _ _ _ _ _ _ _ _ _
    simp only [Instr.findAsking, Sem.run_bind, he, Result.andThen, alook]
    by_cases hr : r = x
    · rw [if_pos hr, req_iff.2 hr]
      exact ⟨some (i, e.val), rfl, by rw [h2]; rfl⟩
    · rw [if_neg hr]
      have hq : req r x = false := by cases hh : req r x; rfl; exact absurd (req_iff.1 hh) hr
      rw [hq]
      exact asking_round r w es l (i + 1) h3
theorem find_round (r : Rd) (w : World) (es : List MapEntry) (l : List (Rd × Int)) (h : es.map (fun e => (e.key, e.val)) = l.map (fun x => (Rd.v x.1, Value.int .i64 x.2))) :
    ∃ res : Option (Nat × Value), (Instr.findKey 38 r.v es).run Try.prog w = .ok res w ∧ res.map (·.2) = (alook l r).map (Value.int .i64 ·) := by
  obtain ⟨fs, hu⟩ := under_round w
  cases es with
  | nil =>
    cases l with
    | nil => exact ⟨none, by simp [Instr.findKey, hu, Instr.findNow, Result.andThen], rfl⟩
    | cons x l => simp at h
  | cons e es =>
    obtain ⟨res, h1, h2⟩ := asking_round r w (e :: es) l 0 h
    refine ⟨res, ?_, h2⟩
    simp only [Instr.findKey, Sem.run_bind, hu, Result.andThen, Instr.findNow, Instr.sameNow]
    exact h1
theorem look_round (r : Rd) (W : World) (b : Nat) (l : List (Rd × Int)) (h : RMap W b l) :
    (Instr.lookup 83 (.map (some b)) r.v true).run Try.prog W = .ok (.tuple #[.int .i64 ((alook l r).getD 0), .bool (alook l r).isSome]) W := by
  obtain ⟨es, clock, hb, hl⟩ := h
  obtain ⟨res, h1, h2⟩ := find_round r W es.toList l hl
  have hu : (underlying 83).run Try.prog W = .ok (.map 38 3) W := by kernel_rfl
  have hz : (zeroValue 3).run Try.prog W = .ok (.int .i64 0) W := by kernel_rfl
  have hk := fun em => check_round em r.g.n r.g.h0 r.g.h1 r.g.h2 r.g.h3 r.g.h4 r.f W
  cases hr : alook l r with
  | none =>
    rw [hr] at h2
    cases res with
    | some x => simp at h2
    | none => simp [Instr.lookup, hu, hk, h1, MapKept.run_getObj_map hb, Result.andThen, hz]
  | some t =>
    rw [hr] at h2
    cases res with
    | none => simp at h2
    | some x =>
      obtain ⟨j, v⟩ := x
      simp only [Option.map_some, Option.some.injEq] at h2
      subst h2
      simp [Instr.lookup, hu, hk, h1, MapKept.run_getObj_map hb, Result.andThen]
theorem put_round (r : Rd) (t : Int) (W : World) (b : Nat) (l : List (Rd × Int)) (h : RMap W b l) (hn : alook l r = none) :
    ∃ o, (Instr.mapUpdate 83 (.map (some b)) r.v (.int .i64 t)).run Try.prog W = .ok () (W.putObj b o) ∧ RMap (W.putObj b o) b (l ++ [(r, t)]) := by
  obtain ⟨es, clock, hb, hl⟩ := h
  obtain ⟨res, h1, h2⟩ := find_round r W es.toList l hl
  have hu : (underlying 83).run Try.prog W = .ok (.map 38 3) W := by kernel_rfl
  have hk := fun em => check_round em r.g.n r.g.h0 r.g.h1 r.g.h2 r.g.h3 r.g.h4 r.f W
  rw [hn] at h2
  cases res with
  | some x => simp at h2
  | none =>
    refine ⟨.map (es.push { key := r.v, val := .int .i64 t, born := clock }) (clock + 1), ?_, ?_⟩
    · simp [Instr.mapUpdate, hu, hk, h1, MapKept.run_getObj_map hb, MapKept.run_setObj_map _ hb, Result.andThen]
      rfl
    · refine ⟨_, _, World.putObj_heap_same (lt_of_heap hb), ?_⟩
      simp [hl]
end Go.Proofs.Ytnhgdjiljjpgmaa

namespace Go.Proofs.Ytnhgdjiljjpgmaa
open Go.RowKit
attribute [local go_sem] Oper.semAt_some

def lexlt : List Int → List Int → Prop
  | a :: l, b :: m => a < b ∨ (a = b ∧ lexlt l m)
  | _, _ => False
theorem lexlt_trans : ∀ {l m k : List Int}, lexlt l m → lexlt m k → lexlt l k
  | [], _, _, h, _ => h.elim
  | _ :: _, [], _, h, _ => h.elim
  | _ :: _, _ :: _, [], _, h => h.elim
  | a :: l, b :: m, c :: k, h, h' => by
    rcases h with h | ⟨h, h2⟩ <;> rcases h' with h' | ⟨h', h3⟩
    · exact .inl (by omega)
    · exact .inl (by omega)
    · exact .inl (by omega)
    · exact .inr ⟨by omega, lexlt_trans h2 h3⟩
theorem lexlt_irrefl : ∀ (l : List Int), ¬ lexlt l l
  | [], h => h
  | a :: l, h => by rcases h with h | ⟨_, h⟩; omega; exact lexlt_irrefl l h
def Rd.l (r : Rd) : List Int := [r.g.n, r.g.h0, r.g.h1, r.g.h2, r.g.h3, r.g.h4, r.f]
theorem firstNZ_icmp (a b : Int) (l : List Int) : firstNZ (icmp a b :: l) < 0 ↔ a < b ∨ (a = b ∧ firstNZ l < 0) := by
  rcases Int.lt_trichotomy a b with h | h | h
  · rw [icmp_lt h]; simp [firstNZ]; omega
  · subst h; rw [icmp_self]; simp [firstNZ]
  · rw [icmp_gt h]; simp [firstNZ]; omega
theorem firstNZ_two (l : List Int) (x : Int) : firstNZ [firstNZ l, x] = firstNZ (l ++ [x]) := by
  induction l with
  | nil => simp [firstNZ]
  | cons a l ih =>
    by_cases h : a = 0
    · subst h; simpa [firstNZ] using ih
    · simp [firstNZ, h]
theorem rcmp_lt {a b : Rd} : rcmp a b < 0 ↔ lexlt a.l b.l := by
  unfold rcmp gcmp Rd.l
  rw [firstNZ_two]
  simp only [List.cons_append, List.nil_append]
  rw [firstNZ_icmp, firstNZ_icmp, firstNZ_icmp, firstNZ_icmp, firstNZ_icmp, firstNZ_icmp, firstNZ_icmp]
  simp [firstNZ, lexlt]
theorem rcmp_lt_trans {a b c : Rd} (h : rcmp a b < 0) (h' : rcmp b c < 0) : rcmp a c < 0 := rcmp_lt.2 (lexlt_trans (rcmp_lt.1 h) (rcmp_lt.1 h'))
theorem rcmp_lt_ne {a b : Rd} (h : rcmp a b < 0) : a ≠ b := fun e => by subst e; exact lexlt_irrefl _ (rcmp_lt.1 h)
/-- A state's rounds ascend. -/
theorem asc_of {A : Adv} (h : achk A = 0) {s : Nat} (hs : s < A.L) : ∀ j, j < A.len s → ∀ i, i < j → rcmp (A.mv s i).r (A.mv s j).r < 0 := by
  have hz := (stErr_zero ((achk_zero h).2.2.2.2.2.1 s hs)).2
  intro j
  induction j with
  | zero => intro _ i hi; omega
  | succ j ih =>
    intro hj i hi
    have h1 := (mvErrAt_zero (hz (j + 1) hj)).2.2.1 (by omega)
    rw [Nat.add_sub_cancel] at h1
    rcases Nat.lt_or_ge i j with h2 | h2
    · exact rcmp_lt_trans (ih (by omega) i h2) h1
    · obtain rfl : i = j := by omega
      exact h1
/-- The first j entries of state s. -/
def ents (A : Adv) (s j : Nat) : List (Rd × Int) := (List.range j).map fun i => ((A.mv s i).r, (A.mv s i).to)
theorem ents_succ (A : Adv) (s j : Nat) : ents A s (j + 1) = ents A s j ++ [((A.mv s j).r, (A.mv s j).to)] := by simp [ents, List.range_succ]
theorem alook_none {l : List (Rd × Int)} {r : Rd} (h : ∀ x ∈ l, r ≠ x.1) : alook l r = none := by
  induction l with
  | nil => rfl
  | cons x l ih =>
    obtain ⟨y, t⟩ := x
    simp only [alook]
    rw [if_neg (h (y, t) (by simp))]
    exact ih fun z hz => h z (by simp [hz])
theorem ents_none {A : Adv} (h : achk A = 0) {s : Nat} (hs : s < A.L) {j : Nat} (hj : j < A.len s) : alook (ents A s j) (A.mv s j).r = none := by
  refine alook_none fun x hx => ?_
  simp only [ents, List.mem_map, List.mem_range] at hx
  obtain ⟨i, hi, rfl⟩ := hx
  exact (rcmp_lt_ne (asc_of h hs j hj i hi)).symm
/-- The table's cells, k maps having been made. -/
def tcells (B L k : Nat) : Array Value := ((List.range L).map fun s => if s < k then Value.map (some (B + s)) else .map none).toArray
theorem tcells_at {B L k s : Nat} (hs : s < L) : (tcells B L k)[s]? = some (if s < k then Value.map (some (B + s)) else .map none) := by
  simp [tcells, hs]
theorem tcells_set {B L k : Nat} (_hk : k < L) : (tcells B L k).setIfInBounds k (.map (some (B + k))) = tcells B L (k + 1) := by
  apply Array.ext
  · simp [tcells]
  · intro i h1 h2
    have hi : i < L := by simpa [tcells] using h2
    simp only [tcells, List.getElem_toArray, List.getElem_map, List.getElem_range]
    by_cases e : k = i
    · subst e; simp
    · simp [e]
      by_cases h3 : i < k
      · simp [h3, show i < k + 1 by omega]
      · simp [h3, show ¬ i < k + 1 by omega]
theorem tcells_zero (B L : Nat) : tcells B L 0 = Array.replicate L (.map none) := by
  apply Array.ext <;> simp [tcells]
theorem putsize (W : World) (b : Nat) (o : Obj) : (W.putObj b o).heap.size = W.heap.size := by simp
theorem made_rep (z : Value) (n : Nat) : madeCells #[z] n = Array.replicate n z := by
  apply Array.ext'; rw [toList_madeCells_one, Array.toList_replicate]
theorem frozen_row {W : World} {b : Nat} {cs : Array Value} {e : TypeId} (h : W.heap[b]? = some (.cells cs e (0, 0))) (o : Nat) : W.frozen? ⟨b, o, none⟩ = false := by
  unfold World.frozen?; show (match W.heap[b]? with | some (Obj.cells c elem (lo, hi)) => decide (lo ≤ o) && decide (o < hi) | x => false) = false; rw [h]; simp
theorem cell_alloc_old {W : World} (o : Obj) {a : Addr} (h : a.block < W.heap.size) : (W.alloc o).cell? a = W.cell? a := World.cell?_of_block (Below.heap_alloc _ _ _ h)
theorem cell_set_other {W : World} {a b : Addr} (u : Value) (h : a.block ≠ b.block) : (W.setCell b u).cell? a = W.cell? a := World.cell?_of_block (Below.heap_setCell _ _ _ _ h)
theorem row_set {W : World} {b : Nat} {cs : Array Value} {e : TypeId} (h : W.heap[b]? = some (.cells cs e (0, 0))) (o : Nat) (u : Value) : (W.setCell ⟨b, o, none⟩ u).heap[b]? = some (.cells (cs.setIfInBounds o u) e (0, 0)) := by
  simp only [World.setCell, Array.getElem?_modify, if_true]
  rw [h]; rfl
/-- The table lies at g; its maps are blocks B, B + 1, .. -/
def Tab (W : World) (g B : Nat) (A : Adv) : Prop := W.heap[g]? = some (.cells (tcells B A.L A.L) 83 (0, 0)) ∧ ∀ s, s < A.L → RMap W (B + s) (ents A s (A.len s))

set_option maxRecDepth 8000 in
set_option maxHeartbeats 4000000 in
theorem index_any (A : Adv) (v : Value) (w : World) (hA : AdvRep w v A) (h0 : achk A = 0) :
    Calls Try.prog 52 #[v] w fun e w' => (∃ g B, e = .returned (.slice (some ⟨g, 0, none⟩) A.L A.L) ∧ Tab w' g B A) ∧ Ext w w' := by
  obtain ⟨p, c, rfl, hc, hl, hat⟩ := hA.all_
  have HA := hide hA
  have HAT := hide hat
  clear hA hat
  obtain ⟨hn1, hn2, hL1, hL2, hmv, hst, _⟩ := achk_zero h0
  have HST := hide hst
  have H0 := hide h0
  clear hst h0
  have hmk := fun W => run_make_row' (P := Try.prog) 80 83 (.map none) 8 (by kernel_rfl) (by kernel_rfl) rfl .i64 .i64 A.L (by omega) (by omega) W
  have hmm := @run_makeMap Try.prog
  refine calls_of_wp_m Try.func52 rfl ?_
  simp only [Try.ntmps52, List.size_toArray, List.length_cons, List.length_nil, Nat.reduceAdd, Nat.reduceSub, Array.replicate_succ, Array.replicate_zero, List.push_toArray, List.append_toArray, List.nil_append, List.cons_append]
  go_wp2_with fail
  obtain ⟨W1, hW1⟩ : ∃ W1, (((w.alloc (.cells #[.int .i64 A.n, .slice p A.L c] 29)).alloc (.cells (madeCells #[.map none] A.L) 83)).alloc (.cells #[.slice (some ⟨w.heap.size + 1, 0, none⟩) A.L A.L] 80)) = W1 := ⟨_, rfl⟩
  have hE1 : Ext w W1 := by rw [← hW1]; exact (((Ext.refl w).alloc _).alloc _).alloc _
  have hz1 : W1.heap.size = w.heap.size + 3 := by rw [← hW1]; simp
  have ha0 : W1.cell? ⟨w.heap.size, 0, none⟩ = some (.int .i64 A.n) := by rw [← hW1]; simp [go_sem]
  have ha1 : W1.cell? ⟨w.heap.size, 1, none⟩ = some (.slice p A.L c) := by rw [← hW1]; simp [go_sem]
  have hB1 : Box W1 (w.heap.size + 2) 80 (.slice (some ⟨w.heap.size + 1, 0, none⟩) A.L A.L) := by
    rw [← hW1]
    have := Box.new ((w.alloc (.cells #[.int .i64 A.n, .slice p A.L c] 29)).alloc (.cells (madeCells #[.map none] A.L) 83)) 80 (.slice (some ⟨w.heap.size + 1, 0, none⟩) A.L A.L)
    rwa [World.size_alloc, World.size_alloc] at this
  have hT1 : W1.heap[w.heap.size + 1]? = some (.cells (tcells (w.heap.size + 3) A.L 0) 83 (0, 0)) := by
    rw [← hW1, Below.heap_alloc _ _ _ (by simp), tcells_zero, ← made_rep]
    have := heap_alloc_new (w.alloc (.cells #[.int .i64 A.n, .slice p A.L c] 29)) (.cells (madeCells #[.map none] A.L) 83)
    rwa [World.size_alloc] at this
  rw [hW1]
  clear hW1
  simp only [Nat.add_assoc, Nat.reduceAdd]
  go_loopw [13] (fun x wr => ∃ s : Nat, s ≤ A.L ∧ x = .int .i64 s ∧ Ext w wr ∧ wr.heap.size = w.heap.size + 3 + s ∧ wr.cell? ⟨w.heap.size, 0, none⟩ = some (.int .i64 A.n) ∧ wr.cell? ⟨w.heap.size, 1, none⟩ = some (.slice p A.L c) ∧
      Box wr (w.heap.size + 2) 80 (.slice (some ⟨w.heap.size + 1, 0, none⟩) A.L A.L) ∧ wr.heap[w.heap.size + 1]? = some (.cells (tcells (w.heap.size + 3) A.L s) 83 (0, 0)) ∧
      ∀ s', s' < s → RMap wr (w.heap.size + 3 + s') []) (fun x _ => A.L - (intOf x).toNat)
  case atStart => exact ⟨0, by omega, rfl, hE1, hz1, ha0, ha1, hB1, hT1, fun s' hs' => by omega⟩
  case round =>
    clear hE1 hz1 ha0 ha1 hB1 hT1 W1
    obtain ⟨s, hs, rfl, hE, hz, ha0, ha1, hB, hT, hmaps⟩ := hrel
    have HM := hide hmaps
    have hl1 : w.heap.size + 1 < wr.heap.size := by omega
    have HZ := hide hz
    clear hmaps hz
    have hcB := hB.cell
    by_cases hlt : s < A.L
    · have hcT : wr.cell? ⟨w.heap.size + 1, s, none⟩ = some (.map none) := by rw [cell_of_row _ _ _ _ _ _ hT, tcells_at hlt]; simp
      have hfT : wr.frozen? ⟨w.heap.size + 1, s, none⟩ = false := frozen_row hT _
      go_wp2_with fail
      have hz := HZ.out
      have hmv' : ∀ s', s' < s + 1 → RMap ((wr.setCell ⟨w.heap.size + 1, s, none⟩ (.map (some wr.heap.size))).alloc (.map #[] 0)) (w.heap.size + 3 + s') [] := fun s' hs' => by
        rcases Nat.lt_or_ge s' s with h7 | h7
        · refine (HM.out s' h7).of_block ?_
          rw [Below.heap_alloc _ _ _ (by simp; omega), Below.heap_setCell _ _ _ _ (by show w.heap.size + 3 + s' ≠ w.heap.size + 1; omega)]
        · have := RMap.new (wr.setCell ⟨w.heap.size + 1, s, none⟩ (.map (some wr.heap.size)))
          rw [World.size_setCell, hz] at this
          rw [show s' = s by omega, hz]
          exact this
      refine ⟨⟨s + 1, by omega, by simp, (hE.setCell (by simp) _).alloc _, by simp; omega, ?_, ?_, (hB.other (by simp)).alloc _, ?_, hmv'⟩, by simp [intOf]; omega⟩
      · rw [cell_alloc_old _ (by simp; omega), cell_set_other _ (by simp)]; exact ha0
      · rw [cell_alloc_old _ (by simp; omega), cell_set_other _ (by simp)]; exact ha1
      · rw [Below.heap_alloc _ _ _ (by simpa using hl1), row_set hT, ← tcells_set hlt, hz]
    · obtain rfl : s = A.L := by omega
      go_wp2_with fail
      have hz := HZ.out
      obtain ⟨w3, hw3⟩ : ∃ w3, wr.alloc (.cells #[.int .i64 A.n, .slice p A.L c] 29) = w3 := ⟨_, rfl⟩
      have hE3 : Ext w w3 := by rw [← hw3]; exact hE.alloc _
      have hB3 : Box w3 (w.heap.size + 2) 80 (.slice (some ⟨w.heap.size + 1, 0, none⟩) A.L A.L) := by rw [← hw3]; exact hB.alloc _
      have hX3 : w3.heap[w.heap.size + 1]? = some (.cells (tcells (w.heap.size + 3) A.L A.L) 83 (0, 0)) := by rw [← hw3, Below.heap_alloc _ _ _ hl1]; exact hT
      have hT3 : w3.cell? ⟨wr.heap.size, 1, none⟩ = some (.slice p A.L c) := by rw [← hw3]; simp [go_sem]
      have hZ3 : w3.heap.size = wr.heap.size + 1 := by rw [← hw3]; simp
      have hM3 : ∀ s', s' < A.L → RMap w3 (w.heap.size + 3 + s') [] := fun s' hs' => (HM.out s' hs').of_block (by rw [← hw3, Below.heap_alloc _ _ _ (by omega)])
      have HM3 := hide hM3
      clear hM3 HM hz
      refine (moves_any A.n _ _ p A.L c rfl).mono ?_
      rintro e W ⟨rfl, hW⟩
      rw [hw3] at hW
      subst hW
      clear hw3
      go_wp2_with fail
      have hz := HZ.out
      refine wp_range rfl (fun _ _ => rfl) (moves_seq A (.slice p A.L c) w wr.heap.size HA.out) (moveSeq_two A)
        (fun i V => Ext w V ∧ Box V (w.heap.size + 2) 80 (.slice (some ⟨w.heap.size + 1, 0, none⟩) A.L A.L) ∧ V.heap[w.heap.size + 1]? = some (.cells (tcells (w.heap.size + 3) A.L A.L) 83 (0, 0)) ∧ V.cell? ⟨wr.heap.size, 1, none⟩ = some (.slice p A.L c) ∧
          W.heap.size ≤ V.heap.size ∧ ∀ s, s < A.L → RMap V (w.heap.size + 3 + s) (ents A s (min (A.len s) (i - A.pre s 0))))
        (fun c V => False) ?_ ?_ ?_ ?_ ?_ ?_ ?_
      · rintro i V ⟨h1, _, _, h4, _⟩; exact ⟨h1, h4⟩
      · rintro i V V' ⟨h1, h2, h3, h4, h5, h6⟩ hC
        exact ⟨h1.chg hC (by omega), h2.chg hC, hC.cells _ _ _ _ h3, cell_chg hC h4, Nat.le_trans h5 hC.size, fun s hs => (h6 s hs).of_block (hC.low _ (by omega) (h6 s hs).lt)⟩
      · exact fun _ _ _ h => h.elim
      · exact ⟨hE3, hB3, hX3, hT3, Nat.le_refl _, fun s hs => by rw [Nat.zero_sub, Nat.min_zero]; exact HM3.out s hs⟩
      · rintro l i x V hx ⟨h1, h2, h3, h4, h5, h6⟩ hl hlV
        have H6 := hide h6
        clear h6
        obtain ⟨s, j, hs, hj, hi, rfl⟩ := moveSeq_inv A hx
        clear hx
        have HI := hide hi
        clear hi hz
        obtain ⟨⟨⟨⟨n1, a1, b1, c1, d1, e1⟩, f1⟩, t1⟩, hm⟩ : ∃ m, A.mv s j = m := ⟨_, rfl⟩
        have HMV := hide hm
        rw [hm]
        clear hm
        dsimp only [Mv.v]
        gi_wp2_with fail
        refine ⟨KF.of_ext ((Ext.refl _).alloc _), fun W2 hC => ?_⟩
        have hm := hC.cells _ _ _ _ (heap_alloc_new V (.cells #[.int .i64 n1, .int .i64 a1, .int .i64 b1, .int .i64 c1, .int .i64 d1, .int .i64 e1, .int .i64 f1, .int .i64 t1] 97))
        have hz := HZ.out
        have g1 := (h1.alloc (.cells #[.int .i64 n1, .int .i64 a1, .int .i64 b1, .int .i64 c1, .int .i64 d1, .int .i64 e1, .int .i64 f1, .int .i64 t1] 97)).chg hC (by omega)
        have g2 := (h2.alloc (.cells #[.int .i64 n1, .int .i64 a1, .int .i64 b1, .int .i64 c1, .int .i64 d1, .int .i64 e1, .int .i64 f1, .int .i64 t1] 97)).chg hC
        have g3 := hC.cells _ _ _ _ ((Below.heap_alloc V (.cells #[.int .i64 n1, .int .i64 a1, .int .i64 b1, .int .i64 c1, .int .i64 d1, .int .i64 e1, .int .i64 f1, .int .i64 t1] 97) _ (lt_of_heap h3)).trans h3)
        have g4 := cell_chg hC ((cell_alloc_old (.cells #[.int .i64 n1, .int .i64 a1, .int .i64 b1, .int .i64 c1, .int .i64 d1, .int .i64 e1, .int .i64 f1, .int .i64 t1] 97) (by show wr.heap.size < V.heap.size; omega)).trans h4)
        have g5 : W.heap.size ≤ W2.heap.size := by have := hC.size; simp at this; omega
        have g6 : ∀ s, s < A.L → RMap W2 (w.heap.size + 3 + s) (ents A s (min (A.len s) (i - A.pre s 0))) := fun s hs => (H6.out s hs).of_block (by
          rw [hC.low _ (by omega) (by simp; omega), Below.heap_alloc _ _ _ (by omega)])
        have hms : W2.cell? ⟨w.heap.size + 1, s, none⟩ = some (.map (some (w.heap.size + 3 + s))) := by rw [cell_of_row _ _ _ _ _ _ g3, tcells_at hs]; simp [hs]
        have hc2 := g2.cell
        have m0 : W2.cell? ⟨V.heap.size, 0, none⟩ = some (.int .i64 n1) := by rw [cell_of_row _ _ _ _ _ _ hm]; rfl
        have m1 : W2.cell? ⟨V.heap.size, 1, none⟩ = some (.int .i64 a1) := by rw [cell_of_row _ _ _ _ _ _ hm]; rfl
        have m2 : W2.cell? ⟨V.heap.size, 2, none⟩ = some (.int .i64 b1) := by rw [cell_of_row _ _ _ _ _ _ hm]; rfl
        have m3 : W2.cell? ⟨V.heap.size, 3, none⟩ = some (.int .i64 c1) := by rw [cell_of_row _ _ _ _ _ _ hm]; rfl
        have m4 : W2.cell? ⟨V.heap.size, 4, none⟩ = some (.int .i64 d1) := by rw [cell_of_row _ _ _ _ _ _ hm]; rfl
        have m5 : W2.cell? ⟨V.heap.size, 5, none⟩ = some (.int .i64 e1) := by rw [cell_of_row _ _ _ _ _ _ hm]; rfl
        have m6 : W2.cell? ⟨V.heap.size, 6, none⟩ = some (.int .i64 f1) := by rw [cell_of_row _ _ _ _ _ _ hm]; rfl
        have m7 : W2.cell? ⟨V.heap.size, 7, none⟩ = some (.int .i64 t1) := by rw [cell_of_row _ _ _ _ _ _ hm]; rfl
        have hent : min (A.len s) (i - A.pre s 0) = j := by
          have e1 : A.pre s j = A.pre s 0 + j := rfl
          have := HI.out
          omega
        have hgm := g6 s hs
        rw [hent] at hgm
        have hno := ents_none H0.out hs hj
        rw [HMV.out] at hno
        obtain ⟨o, hrun, hmap⟩ := put_round ⟨⟨n1, a1, b1, c1, d1, e1⟩, f1⟩ t1 W2.drew (w.heap.size + 3 + s) (ents A s j) hgm hno
        have HG := hide g6
        have HMAP := hide hmap
        have G := hide (And.intro g1 (And.intro g2 (And.intro g3 (And.intro g4 g5))))
        have HC := hide hC
        have HL := hide (And.intro hl hlV)
        clear g6 hmap hgm h1 h2 h3 h4 h5 H6 hz hent hno g1 g2 g3 g4 g5 hm hC hl hlV hE3 hB3 hX3 hT3
        dsimp only [Rd.v] at hrun
        gi_wp2_with fail
        refine wpIn_round_tail 8 (by kernel_rfl) (by kernel_rfl) (by kernel_rfl) ?_
        intro W4 hW4
        rw [← hW4] at hrun
        have HMAP2 := HMAP.out
        rw [← hW4] at HMAP2
        have HMAP3 := hide HMAP2
        have HW4 := hide hW4
        have hcc : ∀ a, W4.cell? a = W2.cell? a := fun a => by rw [hW4]; rfl
        clear hW4 HMAP2 HMAP
        simp only [List.take_succ_cons, List.take_zero, List.drop_succ_cons, List.drop_zero]
        repeat still_step
        refine wpStill_nil ?_
        go_wp2_with fail
        obtain ⟨g1, g2, g3, g4, g5⟩ := G.out
        have hz := HZ.out
        have hw4 := HW4.out
        have hmap := HMAP3.out
        subst hw4
        have hb4 : ∀ k, k ≠ w.heap.size + 3 + s → (W2.drew.putObj (w.heap.size + 3 + s) o).heap[k]? = W2.heap[k]? := fun k hk => World.putObj_heap_other hk
        have hpre : ∀ s', s' < A.L → s' ≠ s → min (A.len s') (i + 1 - A.pre s' 0) = min (A.len s') (i - A.pre s' 0) := fun s' hs' hne => by
          have hi := HI.out
          rcases Nat.lt_or_gt_of_ne hne with h7 | h7
          · rcases Nat.eq_zero_or_pos (A.len s') with h8 | h8
            · simp [h8]
            · have h9 := pre_step A (s := s') (j := A.len s' - 1) (by omega) (s' := s) (j' := j) h7
              have e1 : A.pre s' (A.len s' - 1) = A.pre s' 0 + (A.len s' - 1) := rfl
              omega
          · have h9 := pre_step A hj (s' := s') (j' := 0) h7
            omega
        have hown : min (A.len s) (i + 1 - A.pre s 0) = j + 1 := by
          have hi := HI.out
          have e1 : A.pre s j = A.pre s 0 + j := rfl
          omega
        have key : KF W.heap.size W2 (W2.drew.putObj (w.heap.size + 3 + s) o) ∧ Ext w (W2.drew.putObj (w.heap.size + 3 + s) o) ∧ Box (W2.drew.putObj (w.heap.size + 3 + s) o) (w.heap.size + 2) 80 (.slice (some ⟨w.heap.size + 1, 0, none⟩) A.L A.L) ∧
            (W2.drew.putObj (w.heap.size + 3 + s) o).heap[w.heap.size + 1]? = some (.cells (tcells (w.heap.size + 3) A.L A.L) 83 (0, 0)) ∧ (W2.drew.putObj (w.heap.size + 3 + s) o).cell? ⟨wr.heap.size, 1, none⟩ = some (.slice p A.L c) ∧
            W.heap.size ≤ (W2.drew.putObj (w.heap.size + 3 + s) o).heap.size ∧ ∀ s', s' < A.L → RMap (W2.drew.putObj (w.heap.size + 3 + s) o) (w.heap.size + 3 + s') (ents A s' (min (A.len s') (i + 1 - A.pre s' 0))) := by
          refine ⟨⟨by rw [putsize]; exact Nat.le_refl _, fun k ob hk hh _ => (hb4 k (by omega)).trans hh⟩, (g1.drew).putObj (by omega) o, (hb4 _ (by omega)).trans g2, (hb4 _ (by omega)).trans g3, ?_, by rw [putsize]; exact g5, fun s' hs' => ?_⟩
          · rw [World.cell?_of_block (hb4 _ (by show wr.heap.size ≠ _; omega))]; exact g4
          · by_cases e : s' = s
            · subst e
              rw [hown, ents_succ, HMV.out]
              exact hmap
            · rw [hpre s' hs' e]
              exact (HG.out s' hs').of_block (hb4 _ (by omega))
        exact ⟨rfl, key⟩
      · rintro M V ⟨h1, h2, h3, h4, h5, h6⟩ hMl hM
        have hc2 := h2.cell
        have h2s := h2.lt
        have H6 := hide h6
        have HZ3 := hide hZ3
        clear h6 hz hZ3
        go_wp2_with fail
        have hz := HZ.out
        have hZ3 := HZ3.out
        refine leave_mark rfl hM (results_tmp rfl _ _ _) ⟨⟨w.heap.size + 1, w.heap.size + 3, rfl, (World.putObj_heap_other (by omega)).trans h3, fun s hs => ?_⟩, h1.putObj (by omega) _⟩
        have hm := H6.out s hs
        rw [moveSeq_len] at hm
        have e : min (A.len s) (A.pre A.L 0 - A.pre s 0) = A.len s := by
          rcases Nat.eq_zero_or_pos (A.len s) with h8 | h8
          · simp [h8]
          · have h9 := pre_step A (s := s) (j := A.len s - 1) (by omega) (s' := A.L) (j' := 0) hs
            have e1 : A.pre s (A.len s - 1) = A.pre s 0 + (A.len s - 1) := rfl
            omega
        rw [e] at hm
        exact hm.of_block (World.putObj_heap_other (by omega))
      · exact fun _ _ _ h => h.elim
end Go.Proofs.Ytnhgdjiljjpgmaa
