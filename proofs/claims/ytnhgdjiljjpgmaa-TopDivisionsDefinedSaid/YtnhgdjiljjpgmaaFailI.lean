/-
  The program's layer 17 (failure): full, size and what they call.
  Conditions: as each theorem states.
-/
import Derived.Test.YtnhgdjiljjpgmaaFailS
import Derived.Test.YtnhgdjiljjpgmaaHeldA
import Derived.BigQuiet
import Derived.Deep.QuietTactic
namespace Go.Proofs.Ytnhgdjiljjpgmaa
open Go.RowKit
attribute [local go_sem] Oper.semAt_some

theorem pfull_any (n : Nat) (hn : n ≤ 5) (w : World) : Calls Try.prog 22 #[.int .i64 n] w fun e w' => e = .returned (.int .i64 (fullN n : Nat)) ∧ w' = w := by
  obtain rfl | rfl | rfl | rfl | rfl | rfl : n = 0 ∨ n = 1 ∨ n = 2 ∨ n = 3 ∨ n = 4 ∨ n = 5 := by omega
  all_goals (go_enter Try.func22, Try.ntmps22; go_wp2; go_ret; exact ⟨by kernel_rfl, rfl⟩)
theorem sones64_lo (x : Nat) (hx : x < 16) (w : World) : Calls Try.prog 54 #[.int .u64 x] w fun e w' => e = .returned (.int .i64 (sizeN x : Nat)) ∧ w' = w := by
  obtain rfl | rfl | rfl | rfl | rfl | rfl | rfl | rfl | rfl | rfl | rfl | rfl | rfl | rfl | rfl | rfl : x = 0 ∨ x = 1 ∨ x = 2 ∨ x = 3 ∨ x = 4 ∨ x = 5 ∨ x = 6 ∨ x = 7 ∨ x = 8 ∨ x = 9 ∨ x = 10 ∨ x = 11 ∨ x = 12 ∨ x = 13 ∨ x = 14 ∨ x = 15 := by omega
  all_goals (go_enter Try.func54, Try.ntmps54; go_wp2; go_ret; exact ⟨by kernel_rfl, rfl⟩)
theorem sones64_hi (x : Nat) (hx : 16 ≤ x) (hx' : x < 32) (w : World) : Calls Try.prog 54 #[.int .u64 x] w fun e w' => e = .returned (.int .i64 (sizeN x : Nat)) ∧ w' = w := by
  obtain rfl | rfl | rfl | rfl | rfl | rfl | rfl | rfl | rfl | rfl | rfl | rfl | rfl | rfl | rfl | rfl : x = 16 ∨ x = 17 ∨ x = 18 ∨ x = 19 ∨ x = 20 ∨ x = 21 ∨ x = 22 ∨ x = 23 ∨ x = 24 ∨ x = 25 ∨ x = 26 ∨ x = 27 ∨ x = 28 ∨ x = 29 ∨ x = 30 ∨ x = 31 := by omega
  all_goals (go_enter Try.func54, Try.ntmps54; go_wp2; go_ret; exact ⟨by kernel_rfl, rfl⟩)
theorem sones64_any (x : Nat) (hx : x < 32) (w : World) : Calls Try.prog 54 #[.int .u64 x] w fun e w' => e = .returned (.int .i64 (sizeN x : Nat)) ∧ w' = w := by
  rcases Nat.lt_or_ge x 16 with h | h
  · exact sones64_lo x h w
  · exact sones64_hi x h hx w
theorem sones_any (x : Nat) (hx : x < 32) (w : World) : Calls Try.prog 36 #[.int .u64 x] w fun e w' => e = .returned (.int .i64 (sizeN x : Nat)) ∧ w' = w := by
  have HC : Hid (∀ V : World, Calls Try.prog 54 #[.int .u64 x] V fun e w' => e = .returned (.int .i64 (sizeN x : Nat)) ∧ w' = V) := fun V => sones64_any x hx V
  clear hx
  go_enter Try.func36, Try.ntmps36
  go_wp2_with (go_at_call 54; refine (HC.out _).mono ?_; rintro e w' ⟨rfl, rfl⟩)
  go_ret
  exact ⟨rfl, rfl⟩
theorem sprocs_any (n : Nat) (h1 : 1 ≤ n) (h5 : n ≤ 5) (w : World) : Calls Try.prog 112 #[.int .i64 n] w fun e w' => e = .returned (.int .i64 0) ∧ w' = w := by
  obtain rfl | rfl | rfl | rfl | rfl : n = 1 ∨ n = 2 ∨ n = 3 ∨ n = 4 ∨ n = 5 := by omega
  all_goals (go_enter Try.func112, Try.ntmps112; go_wp2; go_ret; exact ⟨rfl, rfl⟩)
theorem scheck_any (n : Nat) (h1 : 1 ≤ n) (h5 : n ≤ 5) (x : Nat) (hx : x < 2 ^ n) (w : World) : Calls Try.prog 103 #[.int .i64 n, .int .i64 x] w fun e w' => e = .returned (.int .i64 0) ∧ w' = w := by
  have HC : Hid (∀ V : World, Calls Try.prog 112 #[.int .i64 n] V fun e w' => e = .returned (.int .i64 0) ∧ w' = V) := fun V => sprocs_any n h1 h5 V
  obtain rfl | rfl | rfl | rfl | rfl : n = 1 ∨ n = 2 ∨ n = 3 ∨ n = 4 ∨ n = 5 := by omega
  all_goals
    have hz := Nat.div_eq_of_lt hx
    go_enter Try.func103, Try.ntmps103
    go_wp2_with (go_at_call 112; refine (HC.out _).mono ?_; rintro e w' ⟨rfl, rfl⟩)
  all_goals first
    | (go_ret; exact ⟨rfl, rfl⟩)
    | (exfalso; rename_i h; rcases h with h | h <;> first | omega | (simp at h; omega))
theorem ssize_any (n : Nat) (h1 : 1 ≤ n) (h5 : n ≤ 5) (x : Nat) (hx : x < 2 ^ n) (w : World) : Calls Try.prog 86 #[.int .i64 n, .int .i64 x] w fun e w' => e = .returned (.tuple #[.int .i64 (sizeN x : Nat), .int .i64 0]) ∧ w' = w := by
  have hx5 : x < 32 := Nat.lt_of_lt_of_le hx (Nat.pow_le_pow_right (n := 2) (by omega) h5)
  have hw : IntKind.u64.wrap (x : Int) = (x : Int) := by rw [IntKind.wrap_u64]; omega
  have HC : Hid (∀ V : World, Calls Try.prog 103 #[.int .i64 n, .int .i64 x] V fun e w' => e = .returned (.int .i64 0) ∧ w' = V) := fun V => scheck_any n h1 h5 x hx V
  have HC1 : Hid (∀ V : World, Calls Try.prog 36 #[.int .u64 x] V fun e w' => e = .returned (.int .i64 (sizeN x : Nat)) ∧ w' = V) := fun V => sones_any x hx5 V
  clear hx h1 h5 hx5
  go_enter Try.func86, Try.ntmps86
  go_wp2_with (first
    | (go_at_call 103; refine (HC.out _).mono ?_; rintro e w' ⟨rfl, rfl⟩)
    | (go_at_call 36; refine (HC1.out _).mono ?_; rintro e w' ⟨rfl, rfl⟩))
  go_ret2
  exact ⟨rfl, rfl⟩
theorem psize_any (n : Nat) (h1 : 1 ≤ n) (h5 : n ≤ 5) (x : Nat) (hx : x < 2 ^ n) (w : World) : Calls Try.prog 72 #[.int .i64 n, .int .i64 x] w fun e w' => e = .returned (.int .i64 (sizeN x : Nat)) ∧ w' = w := by
  have HC : Hid (∀ V : World, Calls Try.prog 86 #[.int .i64 n, .int .i64 x] V fun e w' => e = .returned (.tuple #[.int .i64 (sizeN x : Nat), .int .i64 0]) ∧ w' = V) := fun V => ssize_any n h1 h5 x hx V
  clear hx h1 h5
  go_enter Try.func72, Try.ntmps72
  go_wp2_with (go_at_call 86; refine (HC.out _).mono ?_; rintro e w' ⟨rfl, rfl⟩)
  go_ret
  exact ⟨rfl, rfl⟩
end Go.Proofs.Ytnhgdjiljjpgmaa
