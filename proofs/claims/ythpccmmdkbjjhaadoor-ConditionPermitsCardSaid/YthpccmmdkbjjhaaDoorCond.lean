/-
  The checks of conditions (condition.sizes, checker, inputs, allow, outputs, graphs; roundtableref13.Sizes, Cond, given).
  Conditions: as each theorem states.
-/
import Derived.Test.YthpccmmdkbjjhaaDoorExTruP
namespace Go.Proofs.YthpccmmdkbjjhaaDoor
open Go.RowKit

def sizeB (v : Int) : Bool := decide (v < 1) || decide (8 < v)
theorem sizefn_any (x : Int) (W : World) : Calls Tryd.prog 89 #[.int .i64 x] W fun e w' => e = .returned (.bool (sizeB x)) ∧ w' = W := by
  unfold sizeB
  by_cases h1 : x < 1 <;> by_cases h2 : 8 < x
  all_goals
    go_enter Tryd.func89, Tryd.ntmps89
    go_wp2
    go_ret
    simp [h1, h2]
def sizesS (n : Int) (l : List Int) : Int := if n < 1 ∨ 5 < n ∨ l.any sizeB = true then 2 else 0
theorem sizes_any (n : Int) (l : List Int) (v : Value) (w : World) (hl : Row icells 1 w v l) :
    Calls Tryd.prog 44 #[.int .i64 n, v] w fun e w' => e = .returned (.int .i64 (sizesS n l)) ∧ Ext w w' := by
  have HC := hide (contains_size sizeB sizefn_any l v w hl)
  obtain ⟨p, c, rfl, -⟩ := hl.int_all
  clear hl
  generalize hres : sizesS n l = res
  unfold sizesS at hres
  generalize l.any sizeB = b at HC hres
  by_cases h1 : n < 1
  · rw [if_pos (.inl h1)] at hres
    have HR := hide hres
    clear hres
    go_enter Tryd.func44, Tryd.ntmps44
    go_wp2_with fail
    go_ret
    exact ⟨ret_int HR.out, Ext.refl _⟩
  by_cases h2 : 5 < n
  · rw [if_pos (.inr (.inl h2))] at hres
    have HR := hide hres
    clear hres
    go_enter Tryd.func44, Tryd.ntmps44
    go_wp2_with fail
    go_ret
    exact ⟨ret_int HR.out, Ext.refl _⟩
  cases b
  · rw [if_neg (by simp [h1, h2])] at hres
    have HR := hide hres
    clear hres
    go_enter Tryd.func44, Tryd.ntmps44
    go_wp2_with fail
    refine HC.out.mono ?_
    rintro e w1 ⟨rfl, hE⟩
    go_wp2_with fail
    go_ret
    exact ⟨ret_int HR.out, hE⟩
  · rw [if_pos (by simp)] at hres
    have HR := hide hres
    clear hres
    go_enter Tryd.func44, Tryd.ntmps44
    go_wp2_with fail
    refine HC.out.mono ?_
    rintro e w1 ⟨rfl, hE⟩
    go_wp2_with fail
    go_ret
    exact ⟨ret_int HR.out, hE⟩
theorem sizesS_one (n v : Int) : sizesS n [v] = if n < 1 ∨ 5 < n ∨ v < 1 ∨ 8 < v then 2 else 0 := by
  unfold sizesS sizeB
  simp only [List.any_cons, List.any_nil, Bool.or_false, Bool.or_eq_true, decide_eq_true_eq]
theorem rsizes_any (n v : Int) (w : World) : Calls Tryd.prog 49 #[.int .i64 n, .int .i64 v] w fun e w' => e = .returned (.int .i64 (sizesS n [v])) ∧ w' = w := by
  rw [sizesS_one]
  have H := hide (show ∀ k, (if n < 1 ∨ 5 < n ∨ v < 1 ∨ 8 < v then (2 : Int) else 0) = k → (if n < 1 ∨ 5 < n ∨ v < 1 ∨ 8 < v then (2 : Int) else 0) = k from fun k hk => hk)
  by_cases h1 : n < 1
  · rw [if_pos (.inl h1)]
    go_enter Tryd.func49, Tryd.ntmps49
    go_wp2
    go_ret
    exact ⟨rfl, rfl⟩
  by_cases h2 : 5 < n
  · rw [if_pos (.inr (.inl h2))]
    go_enter Tryd.func49, Tryd.ntmps49
    go_wp2
    go_ret
    exact ⟨rfl, rfl⟩
  by_cases h3 : v < 1
  · rw [if_pos (.inr (.inr (.inl h3)))]
    go_enter Tryd.func49, Tryd.ntmps49
    go_wp2
    go_ret
    exact ⟨rfl, rfl⟩
  by_cases h4 : 8 < v
  · rw [if_pos (.inr (.inr (.inr h4)))]
    go_enter Tryd.func49, Tryd.ntmps49
    go_wp2
    go_ret
    exact ⟨rfl, rfl⟩
  · rw [if_neg (by omega)]
    go_enter Tryd.func49, Tryd.ntmps49
    go_wp2
    go_ret
    exact ⟨rfl, rfl⟩

/-- The error of a condition that may use what a mask says. -/
def condS (e : Ex) (uses : Nat) : Int := if exchk e 0 ≠ 0 then exchk e 0 else if kindOf e.op ≠ 1 then 9 else if usesE e &&& uses ≠ usesE e then 11 else 0
def givenS (e : Ex) (uses : Nat) : Int := if absentE e = true then 0 else condS e uses
theorem mask_table : ((List.range 8).all fun a => (List.range 8).all fun u => (bits .andNot .i64 ((a : Nat) : Int) ((u : Nat) : Int) != 0) == !(decide (a &&& u = a))) = true := by kernel_rfl
theorem mask_eq {a u : Nat} (ha : a < 8) (hu : u < 8) : (bits .andNot .i64 (a : Int) (u : Int) != 0) = !(decide (a &&& u = a)) := by
  have h := mask_table
  rw [List.all_eq_true] at h
  have h := h a (List.mem_range.2 ha)
  rw [List.all_eq_true] at h
  have h := h u (List.mem_range.2 hu)
  simpa using h
theorem exchk_kind {e : Ex} (h : exchk e 0 = 0) : kindE e.op = (kindOf e.op, 0) := by
  have h1 := (exchk_zero (n := 0) h).2
  obtain ⟨o, n, xs⟩ := e
  have h2 := nodesE_zero h1
  unfold kindE
  rw [if_neg]
  show ¬ arity o < 0
  have := h2.2.2.1
  omega
end Go.Proofs.YthpccmmdkbjjhaaDoor
