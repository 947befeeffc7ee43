/-
  Contracts of the small functions on sets of processes (procset, roundtableref01).
  Conditions: as each theorem states.
-/
import Derived.Test.YtpcboonjalbihaaDoorBase
namespace Go.Proofs.YtpcboonjalbihaaDoor
open Go.RowKit

def procs (n : Int) : Int := if n < 1 ∨ 5 < n then 1 else 0
def pchk (n s : Int) : Int := if n < 1 ∨ 5 < n then 1 else if s < 0 ∨ 2 ^ n.toNat ≤ s then 2 else 0
def has (s : Int) (p : Nat) : Bool := s / 2 ^ p % 2 == 1

theorem pow_le32 {n : Nat} (h : n ≤ 5) : (2 : Int) ^ n ≤ 32 ∧ (1 : Int) ≤ 2 ^ n := by
  obtain rfl | rfl | rfl | rfl | rfl | rfl : n = 0 ∨ n = 1 ∨ n = 2 ∨ n = 3 ∨ n = 4 ∨ n = 5 := by omega
  all_goals decide
theorem pow_pos' (n : Nat) : (1 : Int) ≤ 2 ^ n := by
  have : (0 : Int) < 2 ^ n := Int.pow_pos (by decide)
  omega
theorem pow_mono {a b : Nat} (h : a ≤ b) : (2 : Int) ^ a ≤ 2 ^ b := by
  obtain ⟨k, rfl⟩ := Nat.exists_eq_add_of_le h
  rw [Int.pow_add]
  have h1 := pow_pos' a
  have h2 := pow_pos' k
  calc (2 : Int) ^ a = 2 ^ a * 1 := by omega
    _ ≤ 2 ^ a * 2 ^ k := Int.mul_le_mul_of_nonneg_left h2 (by omega)
theorem pow_le_big {a : Nat} (h : a ≤ 60) : (2 : Int) ^ a ≤ 1152921504606846976 := pow_mono h
theorem div_pow_eq_zero {s : Int} {n : Nat} (h : 0 ≤ s) : s / 2 ^ n = 0 ↔ s < 2 ^ n := by
  have := pow_pos' n
  constructor
  · intro h0
    have := Int.lt_ediv_add_one_mul_self s (show (0 : Int) < 2 ^ n by omega)
    rw [h0] at this; omega
  · intro h0
    exact Int.ediv_eq_zero_of_lt h h0

theorem procs_any (n : Int) (w : World) : Calls Tryd.prog 113 #[.int .i64 n] w fun e w' => e = .returned (.int .i64 (procs n)) ∧ w' = w := by
  unfold procs
  by_cases h1 : n < 1
  · go_enter Tryd.func113, Tryd.ntmps113; go_wp2; go_ret; exact ⟨by simp, rfl⟩
  by_cases h2 : 5 < n
  all_goals (go_enter Tryd.func113, Tryd.ntmps113; go_wp2; go_ret; exact ⟨by simp, rfl⟩)


theorem power_any (n : Int) (w : World) (h0 : 0 ≤ n) (h1 : n ≤ 60) : Calls Tryd.prog 80 #[.int .i64 n] w fun e w' => e = .returned (.int .i64 (2 ^ n.toNat)) ∧ w' = w := by
  obtain ⟨m, rfl⟩ := Int.eq_ofNat_of_zero_le h0
  go_enter Tryd.func80, Tryd.ntmps80
  go_wp2
  go_loop [3, 4] (fun o i => ∃ k : Nat, k ≤ m ∧ i = .int .i64 k ∧ o = .int .i64 (2 ^ k)) (fun _ i => m - (intOf i).toNat)
  case atStart => exact ⟨0, Nat.zero_le _, rfl, rfl⟩
  case round =>
    obtain ⟨k, hk, rfl, rfl⟩ := hrel
    have hp := pow_pos' k
    have hb := pow_le_big (a := k) (by omega)
    by_cases hlt : k < m
    · go_wp2
      go_round
      case rel => exact ⟨k + 1, by omega, by go_num, by rw [Int.pow_succ]⟩
      case measure => simp [intOf]; omega
    · go_wp2
      go_ret
      obtain rfl : k = m := by omega
      exact ⟨by simp, rfl⟩

theorem rhas_any (s p : Int) (w : World) (h0 : 0 ≤ p) (h1 : p ≤ 60) (hs : 0 ≤ s) (hs' : s ≤ 9223372036854775807) : Calls Tryd.prog 63 #[.int .i64 s, .int .i64 p] w fun e w' => e = .returned (.bool (has s p.toNat)) ∧ w' = w := by
  have hp := pow_pos' p.toNat
  have hq : 0 ≤ s / 2 ^ p.toNat := Int.ediv_nonneg hs (by omega)
  have hr : s / 2 ^ p.toNat ≤ s := Int.ediv_le_self _ hs
  have c := power_any p w h0 h1
  unfold has
  generalize (2 : Int) ^ p.toNat = P at c hp hq hr ⊢
  generalize hd : s / P = d at hq hr ⊢
  have c' := hide c; clear c
  have hd' : s.tdiv P = d := by rw [Int.tdiv_eq_ediv_of_nonneg hs]; exact hd
  have hd1 := hide hd; clear hd
  have hu : d ≤ 9223372036854775807 := by omega
  go_enter Tryd.func63, Tryd.ntmps63
  go_wp2_with (go_at_call 80; refine c'.out.mono ?_; rintro e w1 ⟨rfl, rfl⟩)
  go_ret
  exact ⟨rfl, rfl⟩

theorem ofInt_i64 (a : Nat) (ha : a < 9223372036854775808) : (BitVec.ofInt 64 (a : Int)).toNat = a := by
  rw [BitVec.ofInt_natCast, BitVec.toNat_ofNat]; exact Nat.mod_eq_of_lt (by omega)
theorem i64_and_nat (a b : Nat) (ha : a < 9223372036854775808) (hb : b < 9223372036854775808) : bits .and .i64 (a : Int) (b : Int) = ((a &&& b : Nat) : Int) := by
  have hx : a &&& b < 2 ^ 63 := Nat.and_lt_two_pow _ (by omega)
  show IntKind.i64.wrap ((BitVec.ofInt 64 (a : Int) &&& BitVec.ofInt 64 (b : Int)).toNat : Int) = _
  rw [BitVec.toNat_and, ofInt_i64 a ha, ofInt_i64 b hb, IntKind.wrap_i64]
  omega
theorem i64_or_nat (a b : Nat) (ha : a < 9223372036854775808) (hb : b < 9223372036854775808) : bits .or .i64 (a : Int) (b : Int) = ((a ||| b : Nat) : Int) := by
  have hx : a ||| b < 2 ^ 63 := Nat.or_lt_two_pow (by omega) (by omega)
  show IntKind.i64.wrap ((BitVec.ofInt 64 (a : Int) ||| BitVec.ofInt 64 (b : Int)).toNat : Int) = _
  rw [BitVec.toNat_or, ofInt_i64 a ha, ofInt_i64 b hb, IntKind.wrap_i64]
  omega
theorem and_one {x : Int} (h : 0 ≤ x) (h' : x ≤ 9223372036854775807) : bits .and .i64 x 1 = x % 2 := by
  obtain ⟨a, rfl⟩ := Int.eq_ofNat_of_zero_le h
  have := i64_and_nat a 1 (by omega) (by omega)
  rw [show ((1 : Nat) : Int) = 1 from rfl] at this
  rw [this, Nat.and_one_is_mod]
  omega

theorem rfull_any (n : Int) (w : World) (h0 : 0 ≤ n) (h1 : n ≤ 60) : Calls Tryd.prog 69 #[.int .i64 n] w fun e w' => e = .returned (.int .i64 (2 ^ n.toNat - 1)) ∧ w' = w := by
  have hp := pow_pos' n.toNat
  have hq := pow_le_big (a := n.toNat) (by omega)
  have c := power_any n w h0 h1
  generalize (2 : Int) ^ n.toNat = P at c hp hq ⊢
  have c' := hide c; clear c
  go_enter Tryd.func69, Tryd.ntmps69
  go_wp2_with (go_at_call 80; refine c'.out.mono ?_; rintro e w1 ⟨rfl, rfl⟩)
  go_ret
  exact ⟨rfl, rfl⟩

theorem pchk_neg {n s : Int} (h1 : ¬ (n < 1 ∨ 5 < n)) (h : s < 0) : pchk n s = 2 := by unfold pchk; rw [if_neg h1, if_pos (.inl h)]
theorem pchk_big {n s : Int} (h1 : ¬ (n < 1 ∨ 5 < n)) (h : 2 ^ n.toNat ≤ s) : pchk n s = 2 := by unfold pchk; rw [if_neg h1, if_pos (.inr h)]
theorem pchk_ok {n s : Int} (h1 : ¬ (n < 1 ∨ 5 < n)) (h : 0 ≤ s) (h2 : s < 2 ^ n.toNat) : pchk n s = 0 := by unfold pchk; rw [if_neg h1, if_neg (by omega)]
theorem pchk_bad {n s : Int} (h1 : n < 1 ∨ 5 < n) : pchk n s = 1 := by unfold pchk; rw [if_pos h1]

theorem pcheck_any (n s : Int) (w : World) : Calls Tryd.prog 102 #[.int .i64 n, .int .i64 s] w fun e w' => e = .returned (.int .i64 (pchk n s)) ∧ w' = w := by
  by_cases h : n < 1 ∨ 5 < n
  · have c := procs_any n w
    rw [show procs n = 1 by unfold procs; rw [if_pos h]] at c
    have hp := hide (pchk_bad (s := s) h)
    clear h
    go_enter Tryd.func102, Tryd.ntmps102
    go_wp2_with (go_at_call 113; refine c.mono ?_; rintro e w1 ⟨rfl, rfl⟩)
    go_ret
    exact ⟨ret_int hp.out.symm, rfl⟩
  · have c := procs_any n w
    rw [show procs n = 0 by unfold procs; rw [if_neg h]] at c
    have hn0 : 1 ≤ n := by omega
    have hn1 : n ≤ 5 := by omega
    by_cases hs : s < 0
    · have hp := hide (pchk_neg h hs)
      clear h
      go_enter Tryd.func102, Tryd.ntmps102
      go_wp2_with (go_at_call 113; refine c.mono ?_; rintro e w1 ⟨rfl, rfl⟩)
      go_ret
      exact ⟨ret_int hp.out.symm, rfl⟩
    · have hs0 : 0 ≤ s := by omega
      by_cases hz : s / 2 ^ n.toNat = 0
      · have hp := hide (pchk_ok h hs0 ((div_pow_eq_zero hs0).1 hz))
        have hb : (s / 2 ^ n.toNat != 0) = false := by simp [hz]
        clear h hz
        go_enter Tryd.func102, Tryd.ntmps102
        go_wp2_with (go_at_call 113; refine c.mono ?_; rintro e w1 ⟨rfl, rfl⟩)
        go_ret
        exact ⟨ret_int hp.out.symm, rfl⟩
      · have hp := hide (pchk_big (s := s) h (by have := mt (div_pow_eq_zero (s := s) (n := n.toNat) hs0).2 hz; omega))
        have hb : (s / 2 ^ n.toNat != 0) = true := by simp [hz]
        clear h hz
        go_enter Tryd.func102, Tryd.ntmps102
        go_wp2_with (go_at_call 113; refine c.mono ?_; rintro e w1 ⟨rfl, rfl⟩)
        go_ret
        exact ⟨ret_int hp.out.symm, rfl⟩

end Go.Proofs.YtpcboonjalbihaaDoor
