/-
  The operations of expressions: arity, kinds (roundtableref07.Arity, KindOf, ArgKind; expr.known, quantifies, small); what they are in the program's table (expr.rows).
  Conditions: as each theorem states.
-/
import Derived.Test.YthpccmmdkbjjhaaDoorExCnt
namespace Go.Proofs.YthpccmmdkbjjhaaDoor
open Go.RowKit

theorem rarity_any (op : Int) (w : World) : Calls Tryd.prog 117 #[.int .i64 op] w fun e' w' => e' = .returned (.int .i64 (arity op)) ∧ w' = w := by
  have h : ∀ k, (if op < 0 ∨ 15 < op then (-1 : Int) else if op = 0 ∨ op = 1 then 0 else if op = 2 ∨ op = 3 ∨ op = 12 ∨ 13 ≤ op then 1 else 2) = k → arity op = k := fun k hk => hk
  have H := hide h
  clear h
  go_enter Tryd.func117, Tryd.ntmps117
  go_wp2
  all_goals
    go_ret
    refine ⟨ret_int (H.out _ ?_).symm, rfl⟩
    simp_all
    try omega
theorem rkindof_any (op : Int) (w : World) : Calls Tryd.prog 100 #[.int .i64 op] w fun e' w' => e' = .returned (.int .i64 (kindOf op)) ∧ w' = w := by
  have H := hide (show ∀ k, (if op = 0 ∨ op = 1 ∨ op = 2 ∨ op = 3 ∨ op = 5 ∨ op = 6 ∨ op = 15 then (0 : Int) else 1) = k → kindOf op = k from fun k hk => hk)
  go_enter Tryd.func100, Tryd.ntmps100
  go_wp2
  all_goals
    go_ret
    refine ⟨ret_int (H.out _ ?_).symm, rfl⟩
    simp_all
theorem rargkind_any (op : Int) (w : World) : Calls Tryd.prog 141 #[.int .i64 op] w fun e' w' => e' = .returned (.int .i64 (argKind op)) ∧ w' = w := by
  have H := hide (show ∀ k, (if 10 ≤ op then (1 : Int) else 0) = k → argKind op = k from fun k hk => hk)
  go_enter Tryd.func141, Tryd.ntmps141
  go_wp2
  all_goals
    go_ret
    refine ⟨ret_int (H.out _ ?_).symm, rfl⟩
    simp_all
    try omega
def knownB (op : Int) : Bool := decide (0 ≤ op) && decide (op < 16)
theorem knownB_arity (op : Int) : knownB op = decide (0 ≤ arity op) := by
  unfold knownB
  rw [Bool.eq_iff_iff]
  simp only [Bool.and_eq_true, decide_eq_true_eq]
  unfold arity
  constructor
  · intro h; split <;> (try split) <;> (try split) <;> omega
  · intro h
    by_cases h1 : op < 0 ∨ 15 < op
    · rw [if_pos h1] at h; omega
    · omega
theorem known_any (op : Int) (w : World) : Calls Tryd.prog 132 #[.int .i64 op] w fun e' w' => e' = .returned (.bool (knownB op)) ∧ w' = w := by
  unfold knownB
  by_cases h1 : 0 ≤ op <;> by_cases h2 : op < 16
  all_goals
    go_enter Tryd.func132, Tryd.ntmps132
    go_wp2
    go_ret
    simp [h1, h2]
theorem quantifies_any (op : Int) (w : World) : Calls Tryd.prog 140 #[.int .i64 op] w fun e' w' => e' = .returned (.bool (isQ op)) ∧ w' = w := by
  have h : isQ op = (decide (13 ≤ op) && decide (op ≤ 15)) := by
    unfold isQ
    rw [Bool.eq_iff_iff]; simp; omega
  rw [h]
  clear h
  by_cases h1 : 13 ≤ op <;> by_cases h2 : op ≤ 15
  all_goals
    go_enter Tryd.func140, Tryd.ntmps140
    go_wp2
    go_ret
    simp [h1, h2]
def smallB (n : Int) : Bool := decide (-1048576 ≤ n) && decide (n ≤ 1048576)
theorem small_any (n : Int) (w : World) : Calls Tryd.prog 108 #[.int .i64 n] w fun e' w' => e' = .returned (.bool (smallB n)) ∧ w' = w := by
  unfold smallB
  by_cases h1 : -1048576 ≤ n <;> by_cases h2 : n ≤ 1048576
  all_goals
    go_enter Tryd.func108, Tryd.ntmps108
    go_wp2
    go_ret
    simp [h1, h2]
/-- The program's table of operations lies in the package's variable. -/
def rowAt (op : Int) : Nat → Int
  | 0 => kindOf op
  | 1 => arity op
  | _ => if arity op = 0 then 0 else argKind op
def Tab (w : World) : Prop := (0 < w.heap.size) ∧ ∀ k : Nat, k < 16 → ∀ j : Nat, j < 3 → w.cell? ⟨0, k * 3 + j, none⟩ = some (.int .i64 (rowAt k j))
theorem Tab.ext {w W : World} (h : Tab w) (hE : Ext w W) : Tab W := ⟨Nat.lt_of_lt_of_le h.1 hE.size, fun k hk j hj => (hE.cell (p := ⟨0, k * 3 + j, none⟩) h.1).trans (h.2 k hk j hj)⟩
end Go.Proofs.YthpccmmdkbjjhaaDoor
