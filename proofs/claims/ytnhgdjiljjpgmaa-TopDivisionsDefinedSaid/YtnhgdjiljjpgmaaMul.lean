/-
  The product of one and a small number (math/bits.Mul).
  Conditions: as each theorem states.
-/
import Derived.Test.YtnhgdjiljjpgmaaIndex
namespace Go.Proofs.Ytnhgdjiljjpgmaa
open Go.RowKit
attribute [local go_sem] Oper.semAt_some

theorem and_mask (n : Nat) (hn : n < 4294967296) : bits .and .u64 (n : Int) 4294967295 = n := by
  have hx : n &&& 4294967295 = n := by
    have := Nat.and_two_pow_sub_one_eq_mod n 32
    rw [show (2 : Nat) ^ 32 - 1 = 4294967295 from rfl] at this
    rw [this]; exact Nat.mod_eq_of_lt hn
  show IntKind.u64.wrap ((BitVec.ofInt 64 (n : Int) &&& BitVec.ofInt 64 (4294967295 : Int)).toNat : Int) = _
  have e1 : (BitVec.ofInt 64 (n : Int)).toNat = n := by simp; omega
  have e2 : (BitVec.ofInt 64 (4294967295 : Int)).toNat = 4294967295 := by decide
  rw [BitVec.toNat_and, e1, e2, hx]
  simp [IntKind.wrap, IntKind.bits, IntKind.signed]
  try omega
theorem mul64_one (n : Nat) (w : World) (hn : n < 4294967296) : Calls Try.prog 111 #[.int .u64 1, .int .u64 n] w fun e w' => e = .returned (.tuple #[.int .u64 0, .int .u64 n]) ∧ w' = w := by
  go_enter Try.func111, Try.ntmps111
  have h1 : bits .and .u64 1 4294967295 = 1 := by kernel_rfl
  have hn1 := and_mask n hn
  have hd : (n : Int) / 4294967296 = 0 := by omega
  have hz : bits .and .u64 0 4294967295 = 0 := by kernel_rfl
  go_wp2_with fail
  go_ret2
  exact ⟨rfl, rfl⟩
theorem mul_one (n : Nat) (w : World) (hn : n < 4294967296) : Calls Try.prog 102 #[.int .u64 1, .int .u64 n] w fun e w' => e = .returned (.tuple #[.int .u64 0, .int .u64 n]) ∧ w' = w := by
  go_enter Try.func102, Try.ntmps102
  go_wp2_with fail
  refine (mul64_one n w hn).mono ?_
  rintro e w1 ⟨rfl, rfl⟩
  go_wp2_with fail
  go_ret2
  exact ⟨rfl, rfl⟩
end Go.Proofs.Ytnhgdjiljjpgmaa
