/-
  round.Word: the error of a word.
  Conditions: as each theorem states.
-/
import Derived.Test.YtnhgdjiljjpgmaaCmp
import Derived.Test.YtnhgdjiljjpgmaaOwned
import Derived.Test.YtnhgdjiljjpgmaaRep
import Derived.Test.YtnhgdjiljjpgmaaSeqA
namespace Go.Proofs.Ytnhgdjiljjpgmaa
open Go.RowKit
attribute [local go_sem] Oper.semAt_some

theorem results_cell1 {fn : Func} {a : Tmp} {t : TypeId} (h : fn.results = #[.cell a t]) (tmps : Array Value) (P : Program) (w : World) {b : Addr} {v : Value} (ha : tmps.getD a undef = .pointer (some b)) (hl : (loadVar t b).run P w = .ok v w) :
    (results fn tmps).run P w = .ok v w := by
  rw [Array.getD_eq_getD_getElem?] at ha
  have hl' : _ = _ := hl
  simp [go_sem] at hl'
  simp [results, h, ha, go_sem]
  generalize Sem.run P (isAgg t) w = r at hl' ⊢
  rw [hl']
theorem errno_load (b : Addr) (n : Int) (w : World) (h : w.cell? b = some (.int .i64 n)) : (loadVar 30 b).run Try.prog w = .ok (.int .i64 n) w := by
  simp [go_sem, h]
/-- The end of this function, with its result in the cell. -/
theorem leave_plain_cell {fn : Func} {R : Ending → World → Prop} {a : Act} {W : World} {b : Nat} {n : Int} {t : Tmp} (h : fn.results = #[.cell t 30]) (hd : a.defers = []) (ha : a.tmps.getD t undef = .pointer (some ⟨b, 0, none⟩)) (hc : W.cell? ⟨b, 0, none⟩ = some (.int .i64 n)) (hR : R (.returned (.int .i64 n)) W) :
    bodyPostM Fence.wide 0 Try.prog fn R .ret a W := leave_plain (results_cell1 h _ _ _ ha (errno_load _ _ _ hc)) hd hR

theorem rchk_zero {r : Rd} (h : rchk r = 0) : gchk r.g = 0 ∧ pchk r.g.n r.f = 0 := by
  unfold rchk at h
  by_cases h1 : gchk r.g = 0
  · rw [if_pos h1] at h; exact ⟨h1, h⟩
  · rw [if_neg h1] at h; exact absurd h h1
theorem pchk_zero {n s : Int} (h : pchk n s = 0) : 1 ≤ n ∧ n ≤ 5 ∧ 0 ≤ s ∧ s < 2 ^ n.toNat := by
  unfold pchk at h
  by_cases h1 : n < 1 ∨ 5 < n
  · rw [if_pos h1] at h; exact absurd h (by decide)
  · rw [if_neg h1] at h
    by_cases h2 : s < 0 ∨ 2 ^ n.toNat ≤ s
    · rw [if_pos h2] at h; exact absurd h (by decide)
    · omega
theorem andnot_table : ((List.range 32).all fun a => (List.range 32).all fun b => (bits .andNot .i64 ((a : Nat) : Int) ((b : Nat) : Int) != 0) == !(inside (a : Nat) (b : Nat))) = true := by kernel_rfl
theorem andnot_inside {a b : Int} (h0 : 0 ≤ a) (h1 : a < 32) (h2 : 0 ≤ b) (h3 : b < 32) : (bits .andNot .i64 a b != 0) = !(inside a b) := by
  obtain ⟨x, rfl⟩ := Int.eq_ofNat_of_zero_le h0
  obtain ⟨y, rfl⟩ := Int.eq_ofNat_of_zero_le h2
  have h := andnot_table
  rw [List.all_eq_true] at h
  have h := h x (List.mem_range.2 (by omega))
  rw [List.all_eq_true] at h
  have h := h y (List.mem_range.2 (by omega))
  simpa using h
end Go.Proofs.Ytnhgdjiljjpgmaa

namespace Go.Proofs.Ytnhgdjiljjpgmaa
open Go.RowKit
attribute [local go_sem] Oper.semAt_some

/-- The faulty ones of the round before. -/
def prevF (l : List Rd) : Nat → Int
  | 0 => 0
  | i + 1 => (l.getD i default).f
def pairSeq (l : List Rd) : List (Array Value) := (List.range l.length).map fun i => #[.int .i64 (prevF l i), (l.getD i default).v]
theorem pairSeq_len (l : List Rd) : (pairSeq l).length = l.length := by simp [pairSeq]
theorem pairSeq_at (l : List Rd) {i : Nat} (hi : i < l.length) : (pairSeq l)[i]? = some #[.int .i64 (prevF l i), (l.getD i default).v] := by
  simp [pairSeq, List.getElem?_map, List.getElem?_range hi]
theorem pairSeq_inv (l : List Rd) {i : Nat} {x : Array Value} (h : (pairSeq l)[i]? = some x) : i < l.length ∧ x = #[.int .i64 (prevF l i), (l.getD i default).v] := by
  have hi : i < l.length := by
    rcases Nat.lt_or_ge i l.length with h1 | h1
    · exact h1
    · rw [List.getElem?_eq_none (by rw [pairSeq_len]; exact h1)] at h; cases h
  rw [pairSeq_at l hi] at h
  exact ⟨hi, by simpa using h.symm⟩
theorem pairSeq_two (l : List Rd) : ∀ x ∈ pairSeq l, x.size = 2 := by
  intro x hx
  unfold pairSeq at hx
  obtain ⟨i, _, rfl⟩ := List.mem_map.1 hx
  rfl

end Go.Proofs.Ytnhgdjiljjpgmaa

namespace Go.Proofs.Ytnhgdjiljjpgmaa
open Go.RowKit
attribute [local go_sem] Oper.semAt_some

def wErr (n : Int) (l : List Rd) (i : Nat) : Int :=
  if rchk (l.getD i default) ≠ 0 then rchk (l.getD i default) else if (l.getD i default).g.n ≠ n then 22 else if inside (prevF l i) (l.getD i default).f then 0 else 14
def wordE (n : Int) (l : List Rd) : Int := if n < 1 ∨ 5 < n then 1 else if 1024 < l.length then 5 else firstErr (wErr n l) l.length
theorem rchk_f {r : Rd} (h : rchk r = 0) : 0 ≤ r.f ∧ r.f < 32 := by
  obtain ⟨h6, h7⟩ := rchk_zero h
  obtain ⟨h8, h9, h10, h11⟩ := pchk_zero h7
  have hp := (pow_le32 (n := r.g.n.toNat) (by omega)).1
  exact ⟨h10, by omega⟩
theorem prevF_small {n : Int} {l : List Rd} : ∀ {i : Nat}, (∀ j, j < i → wErr n l j = 0) → 0 ≤ prevF l i ∧ prevF l i < 32
  | 0, _ => by simp [prevF]
  | i + 1, h => by
    have h1 := h i (by omega)
    unfold wErr at h1
    by_cases h2 : rchk (l.getD i default) = 0
    · exact rchk_f h2
    · rw [if_pos h2] at h1; exact absurd h1 h2

end Go.Proofs.Ytnhgdjiljjpgmaa
