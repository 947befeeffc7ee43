/-
  math/bits.TrailingZeros over its table.
  Conditions: the table lies in the heap (Tz).
-/
import Derived.Test.YtpcboonjalbihaaDoorBase
import Derived.Laws.Bits64b
import Derived.Lib.TrailingZeros
namespace Go.Proofs.YtpcboonjalbihaaDoor
open Go.RowKit

/-- The table of math/bits lies in its variable. -/
def Tz (W : World) : Prop := 4 < W.heap.size ∧ ∀ j, j < 64 → W.cell? ⟨4, j, none⟩ = some (.int .u8 (Lib.deBruijn64tab.getD j 0))
theorem Tz.ext {w W : World} (h : Tz w) (hE : Ext w W) : Tz W := ⟨Nat.lt_of_lt_of_le h.1 hE.size, fun j hj => (hE.cell (p := ⟨4, j, none⟩) h.1).trans (h.2 j hj)⟩
theorem tz_key (x a : Nat) (hx : x < 18446744073709551616) (hx0 : x ≠ 0) (hlow : x &&& (18446744073709551616 - x) = a) :
    IntKind.u64.wrap (bits BinOp.and IntKind.u64 (x : Int) (IntKind.u64.wrap (-(x : Int))) * 285870213051353865) / 288230376151711744 = ((a * 285870213051353865 % 18446744073709551616 / 288230376151711744 : Nat) : Int) := by
  have e1 : IntKind.u64.wrap (-(x : Int)) = ((18446744073709551616 - x : Nat) : Int) := by rw [IntKind.wrap_u64]; omega
  rw [e1, bits_and_u64_nat x _ hx (by omega), hlow, IntKind.wrap_u64]
  omega
set_option maxHeartbeats 1000000 in
theorem tz64_core (x k idx : Nat) (w : World) (hx0 : ((x : Int) == 0) = false)
    (key : IntKind.u64.wrap (bits BinOp.and IntKind.u64 (x : Int) (IntKind.u64.wrap (-(x : Int))) * 285870213051353865) / 288230376151711744 = (idx : Int))
    (hi : idx < 64) (hk : k < 64) (hcell : w.cell? ⟨4, idx, none⟩ = some (.int .u8 k)) :
    Calls Tryd.prog 119 #[.int .u64 x] w fun e w' => e = .returned (.int .i64 k) ∧ w' = w := by
  go_enter Tryd.func119, Tryd.ntmps119
  go_wp2_with (simp only [key])
  go_ret
  exact ⟨rfl, rfl⟩
theorem tz64_zero (w : World) : Calls Tryd.prog 119 #[.int .u64 0] w fun e w' => e = .returned (.int .i64 64) ∧ w' = w := by
  go_enter Tryd.func119, Tryd.ntmps119
  go_wp2
  go_ret
  exact ⟨rfl, rfl⟩
theorem tz64_any (x : Nat) (hx : x < 18446744073709551616) (w : World) (hT : Tz w) :
    Calls Tryd.prog 119 #[.int .u64 x] w fun e w' => e = .returned (.int .i64 (Lib.ctz 64 x)) ∧ w' = w := by
  by_cases hx0 : x = 0
  · subst hx0
    exact tz64_zero w
  · obtain ⟨hlow, hk⟩ := Lib.lowest_bit 64 x hx0 hx
    obtain ⟨hi, htab⟩ := Lib.deBruijn64_at _ hk
    have hcell := hT.2 _ hi
    rw [htab] at hcell
    exact tz64_core x _ _ w (by simp; omega) (tz_key x _ hx hx0 hlow) hi hk hcell
theorem tz_any (x : Nat) (hx : x < 18446744073709551616) (w : World) (hT : Tz w) :
    Calls Tryd.prog 115 #[.int .u64 x] w fun e w' => e = .returned (.int .i64 (Lib.ctz 64 x)) ∧ w' = w := by
  have c64 := tz64_any x hx w hT
  have hw : IntKind.u64.wrap (x : Int) = (x : Int) := by rw [IntKind.wrap_u64]; omega
  go_enter Tryd.func115, Tryd.ntmps115
  go_wp2_with (go_at_call 119; refine c64.mono ?_; rintro e w' ⟨rfl, rfl⟩)
  go_ret
  exact ⟨rfl, rfl⟩
end Go.Proofs.YtpcboonjalbihaaDoor
