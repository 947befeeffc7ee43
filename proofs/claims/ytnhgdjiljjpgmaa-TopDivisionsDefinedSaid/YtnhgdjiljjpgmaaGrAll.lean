/-
  All graphs (roundtableref03.All).
  Conditions: as each theorem states.
-/
import Derived.Test.YtnhgdjiljjpgmaaOwned
import Derived.Test.YtnhgdjiljjpgmaaFound
import Derived.Deep.CutRange
namespace Go.Proofs.Ytnhgdjiljjpgmaa
open Go.RowKit

/-- The six cells of a graph at an address, in every later world. -/
def GrAt (w : World) (b k : Nat) (m : Gr) : Prop :=
  (∀ W, Ext w W → W.cell? ⟨b, k, none⟩ = some (.int .i64 m.n)) ∧ (∀ W, Ext w W → W.cell? ⟨b, k + 1, none⟩ = some (.int .i64 m.h0)) ∧
  (∀ W, Ext w W → W.cell? ⟨b, k + 2, none⟩ = some (.int .i64 m.h1)) ∧ (∀ W, Ext w W → W.cell? ⟨b, k + 3, none⟩ = some (.int .i64 m.h2)) ∧
  (∀ W, Ext w W → W.cell? ⟨b, k + 4, none⟩ = some (.int .i64 m.h3)) ∧ (∀ W, Ext w W → W.cell? ⟨b, k + 5, none⟩ = some (.int .i64 m.h4))
theorem Row.gr_all {w : World} {v : Value} {ms : List Gr} (h : Row Gr.cells 6 w v ms) :
    ∃ (p : Option Addr) (c : Nat), v = .slice p ms.length c ∧ ms.length ≤ c ∧ ms.length ≤ 17592186044416 ∧
      (0 < ms.length → ∃ b o, p = some ⟨b, o, none⟩ ∧ b < w.heap.size ∧ ∀ i, i < ms.length → GrAt w b (o + i * 6) (ms.getD i default)) := by
  obtain ⟨p, c, hv, h2, h3, h4⟩ := h
  refine ⟨p, c, hv, h2, by omega, fun hl => ?_⟩
  obtain ⟨b, o, hp, hb, hc⟩ := h4 hl
  refine ⟨b, o, hp, hb, fun i hi => ?_⟩
  have hx : ms[i]? = some (ms.getD i default) := by rw [List.getD_eq_getElem?_getD, List.getElem?_eq_getElem hi]; rfl
  have hj := fun j u hu W (hE : Ext w W) => (hE.cell (p := ⟨b, o + i * 6 + j, none⟩) hb).trans (hc i _ hx j u hu)
  exact ⟨hj 0 _ rfl, hj 1 _ rfl, hj 2 _ rfl, hj 3 _ rfl, hj 4 _ rfl, hj 5 _ rfl⟩
theorem graph_info : (Try.prog.info? 36).map (fun i => (i.zero, i.size, i.bytes)) = some (some (Gr.v default), 6, 48) := by kernel_rfl
theorem gr_one (x : Gr) : ∀ u ∈ Gr.cells x, u.oneCell' = true := by intro u hu; simp only [List.mem_cons, List.not_mem_nil, or_false] at hu; rcases hu with rfl | rfl | rfl | rfl | rfl | rfl <;> rfl
theorem own_new_gr (w : World) (r : Gr) : Own Gr.cells 6 (w.alloc (.cells r.cells.toArray 36)) w.heap.size 36 (.slice (some ⟨w.heap.size, 0, none⟩) 1 1) [r] :=
  ⟨fun _ => rfl, rfl, .inr ⟨w.heap.size, 1, r.cells.toArray, rfl, Nat.le_refl _, heap_alloc_new w _, Nat.le_refl _, by unfold maxLen; omega, rfl, rfl⟩⟩
theorem cell_new_gr (w : World) (r : Gr) : ∀ j u, (Gr.cells r)[j]? = some u → (w.alloc (.cells r.cells.toArray 36)).cell? ⟨w.heap.size, j, none⟩ = some u := by
  intro j u h
  rw [cell_new]
  rw [List.getElem?_toArray]; exact h

/-- A graph in a block of its own. -/
def GrBox (W : World) (b : Nat) (g : Gr) : Prop := W.heap[b]? = some (.cells (Gr.cells g).toArray 36 (0, 0))
theorem GrBox.cells {W : World} {b : Nat} {g : Gr} (h : GrBox W b g) : W.cell? ⟨b, 0, none⟩ = some (.int .i64 g.n) ∧ W.cell? ⟨b, 1, none⟩ = some (.int .i64 g.h0) ∧ W.cell? ⟨b, 2, none⟩ = some (.int .i64 g.h1) ∧ W.cell? ⟨b, 3, none⟩ = some (.int .i64 g.h2) ∧
    W.cell? ⟨b, 4, none⟩ = some (.int .i64 g.h3) ∧ W.cell? ⟨b, 5, none⟩ = some (.int .i64 g.h4) ∧ b < W.heap.size := by
  refine ⟨?_, ?_, ?_, ?_, ?_, ?_, lt_of_heap h⟩ <;> (rw [cell_of_row _ _ _ _ _ _ h]; rfl)
theorem GrBox.row {W : World} {b : Nat} {g : Gr} (h : GrBox W b g) {p : Nat} (hp : p < 5) : W.cell? ⟨b, 1 + p, none⟩ = some (.int .i64 (g.h p)) ∧ W.frozen? ⟨b, 1 + p, none⟩ = false :=
  ⟨by rw [cell_of_row _ _ _ _ _ _ h]; exact Gr.row_at _ _ _ _ _ _ _ hp, frozen_of h⟩
/-- Row p replaced. -/
def Gr.set (g : Gr) (p : Nat) (x : Int) : Gr :=
  match p with
  | 0 => { g with h0 := x }
  | 1 => { g with h1 := x }
  | 2 => { g with h2 := x }
  | 3 => { g with h3 := x }
  | 4 => { g with h4 := x }
  | _ => g
theorem Gr.set_set (g : Gr) (p : Nat) (x y : Int) : (g.set p x).set p y = g.set p y := by
  match p with
  | 0 => rfl
  | 1 => rfl
  | 2 => rfl
  | 3 => rfl
  | 4 => rfl
  | _ + 5 => rfl
theorem Gr.set_own (g : Gr) (p : Nat) (hp : p < 5) : g.set p (g.h p) = g := by
  obtain rfl | rfl | rfl | rfl | rfl : p = 0 ∨ p = 1 ∨ p = 2 ∨ p = 3 ∨ p = 4 := by omega
  all_goals rfl
theorem Gr.set_arr (g : Gr) (p : Nat) (x : Int) (hp : p < 5) : (Gr.cells g).toArray.setIfInBounds (1 + p) (.int .i64 x) = (Gr.cells (g.set p x)).toArray := by
  obtain rfl | rfl | rfl | rfl | rfl : p = 0 ∨ p = 1 ∨ p = 2 ∨ p = 3 ∨ p = 4 := by omega
  all_goals rfl
theorem GrBox.set {W : World} {b : Nat} {g : Gr} (h : GrBox W b g) {p : Nat} (hp : p < 5) (x : Int) : GrBox (W.setCell ⟨b, 1 + p, none⟩ (.int .i64 x)) b (g.set p x) := by
  have := heap_set (j := 1 + p) h (.int .i64 x)
  rw [Gr.set_arr _ _ _ hp] at this
  exact this
theorem bit_has {s p : Nat} (hs : s < 9223372036854775808) : (bits .and .i64 ((s : Int) / 2 ^ p) 1 == 1) = has (s : Int) p := by
  unfold has
  have hp := pow_pos' p
  have h0 : 0 ≤ (s : Int) / 2 ^ p := Int.ediv_nonneg (by omega) (by omega)
  have h1 : (s : Int) / 2 ^ p ≤ s := Int.ediv_le_self _ (by omega)
  rw [and_one h0 (by omega)]
theorem Gr.set_list (g : Gr) (p : Nat) (x : Int) (hp : p < 5) : ([.int .i64 g.n, .int .i64 g.h0, .int .i64 g.h1, .int .i64 g.h2, .int .i64 g.h3, .int .i64 g.h4] : List Value).set (1 + p) (.int .i64 x) = Gr.cells (g.set p x) := by
  obtain rfl | rfl | rfl | rfl | rfl : p = 0 ∨ p = 1 ∨ p = 2 ∨ p = 3 ∨ p = 4 := by omega
  all_goals rfl
/-- The sets that hold p, up to s. -/
def setsP (p s : Nat) : List Nat := (List.range s).filter fun i => has (i : Int) p
theorem setsP_yes {p s : Nat} (h : has (s : Int) p = true) : setsP p (s + 1) = setsP p s ++ [s] := by unfold setsP; rw [List.range_succ, List.filter_append]; simp [h]
theorem setsP_no {p s : Nat} (h : has (s : Int) p = false) : setsP p (s + 1) = setsP p s := by unfold setsP; rw [List.range_succ, List.filter_append]; simp [h]
def rowsP (g : Gr) (p s : Nat) : List Gr := (setsP p s).map fun i : Nat => g.set p (i : Int)
theorem rowsP_yes {g : Gr} {p s : Nat} (h : has (s : Int) p = true) : rowsP g p (s + 1) = rowsP g p s ++ [g.set p (s : Int)] := by unfold rowsP; rw [setsP_yes h, List.map_append]; rfl
theorem rowsP_no {g : Gr} {p s : Nat} (h : has (s : Int) p = false) : rowsP g p (s + 1) = rowsP g p s := by unfold rowsP; rw [setsP_no h]
theorem rowsP_len (g : Gr) (p s : Nat) : (rowsP g p s).length ≤ s := by
  unfold rowsP setsP
  rw [List.length_map]
  have := List.length_filter_le (fun i : Nat => has (i : Int) p) (List.range s)
  simpa using this
/-- The first i of the list, with all sets for row p. -/
def flatG (n p : Nat) (L : List Gr) (i : Nat) : List Gr := (L.take i).flatMap fun g => rowsP g p (2 ^ n)
theorem flatG_succ {n p : Nat} {L : List Gr} {i : Nat} (h : i < L.length) : flatG n p L (i + 1) = flatG n p L i ++ rowsP (L.getD i default) p (2 ^ n) := by
  unfold flatG
  rw [List.take_succ_eq_append_getElem h, List.flatMap_append, List.getD_eq_getElem?_getD, List.getElem?_eq_getElem h]
  simp
theorem flatG_len (n p : Nat) (hn : n ≤ 5) (L : List Gr) : ∀ i, (flatG n p L i).length ≤ i * 32 := by
  have h2 : 2 ^ n ≤ 2 ^ 5 := Nat.pow_le_pow_right (by decide) hn
  intro i
  induction i with
  | zero => simp [flatG]
  | succ i ih =>
    rcases Nat.lt_or_ge i L.length with h | h
    · rw [flatG_succ h, List.length_append]
      have := rowsP_len (L.getD i default) p (2 ^ n)
      omega
    · have : flatG n p L (i + 1) = flatG n p L i := by unfold flatG; rw [List.take_of_length_le h, List.take_of_length_le (by omega)]
      rw [this]; omega
/-- The graphs whose first p rows are chosen. -/
def allG (n : Nat) : Nat → List Gr
  | 0 => [⟨n, 0, 0, 0, 0, 0⟩]
  | p + 1 => flatG n p (allG n p) (allG n p).length
theorem sets_table : ((List.range 6).all fun n => (List.range n).all fun p => (setsP p (2 ^ n)).length == 2 ^ (n - 1)) = true := by decide +kernel
theorem setsP_len {n p : Nat} (hn : n ≤ 5) (hp : p < n) : (setsP p (2 ^ n)).length = 2 ^ (n - 1) := by
  have h := sets_table
  rw [List.all_eq_true] at h
  have h := h n (List.mem_range.2 (by omega))
  rw [List.all_eq_true] at h
  have h := h p (List.mem_range.2 hp)
  simpa using h
theorem flatG_full {n p : Nat} (hn : n ≤ 5) (hp : p < n) (L : List Gr) : (flatG n p L L.length).length = L.length * 2 ^ (n - 1) := by
  unfold flatG
  rw [List.take_of_length_le (Nat.le_refl _)]
  induction L with
  | nil => simp
  | cons g L ih =>
    rw [List.flatMap_cons, List.length_append, ih, List.length_cons, Nat.succ_mul]
    unfold rowsP
    rw [List.length_map, setsP_len hn hp]
    omega
theorem allG_len {n : Nat} (hn : n ≤ 5) : ∀ p, p ≤ n → (allG n p).length = (2 ^ (n - 1)) ^ p
  | 0, _ => rfl
  | p + 1, h => by
    show (flatG n p (allG n p) (allG n p).length).length = _
    rw [flatG_full hn (by omega), allG_len hn p (by omega), Nat.pow_succ]
/-- What All returns. -/
def allS (n : Int) : List Gr × Int := if n < 1 ∨ 5 < n then ([], 2) else if n = 5 then ([], 17) else (allG n.toNat n.toNat, 0)
end Go.Proofs.Ytnhgdjiljjpgmaa

namespace Go.Proofs.Ytnhgdjiljjpgmaa
open Go.RowKit
attribute [local go_sem] Oper.semAt_some

end Go.Proofs.Ytnhgdjiljjpgmaa

namespace Go.Proofs.Ytnhgdjiljjpgmaa
open Go.RowKit
attribute [local go_sem] Oper.semAt_some

end Go.Proofs.Ytnhgdjiljjpgmaa
