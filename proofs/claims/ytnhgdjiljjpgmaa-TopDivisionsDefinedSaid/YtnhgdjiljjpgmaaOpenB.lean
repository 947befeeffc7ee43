/-
  Opening of a law's argument that is a byte.
  Conditions: as the theorem states.
-/
import Derived.Test.YtnhgdjiljjpgmaaOpen
namespace Go.Proofs.Ytnhgdjiljjpgmaa
open Go.ChangeShapes Go.WideShapes Go.ChangeAt Go.RowKit

set_option maxRecDepth 100000
section
variable {H : Type} {enc : TypeId × Value → H} {w : World} {base : Nat} {spare : Nat → Bool} {held : Bool}
theorem open_u8 {v : Value} {d : DataW H} {p : List MemPlace} {r : Reach} {b0 : Nat} (hv : Value.okWide Try.prog w r b0 5 v) (h : DataW.Trod enc Try.prog w base spare held 5 v d p) : ∃ a : Nat, v = .int .u8 a ∧ a < 256 := by
  obtain ⟨n, rfl, -, -, hw⟩ := open_int Try.underlying5 hv h
  simp [Lit.wf, IntKind.min, IntKind.max, IntKind.signed, IntKind.bits] at hw
  exact ⟨n.toNat, by rw [Int.toNat_of_nonneg (by omega)], by omega⟩
theorem cells_int : Try.prog.cellsOf 3 = 1 := by kernel_rfl
theorem bytes_int : 8 ≤ Try.prog.bytesOf 3 := of_decide_eq_true (by kernel_rfl)
theorem open_ints_ {v : Value} {d : DataW H} {p : List MemPlace} {r : Reach} {b0 : Nat} (hv : Value.okWide Try.prog w r b0 90 v) (h : DataW.Trod enc Try.prog w base spare held 90 v d p) (hl : Light 90 d) : ∃ l, Row icells 1 w v l := by
  obtain ⟨n, h⟩ := h
  obtain ⟨a, len, cap, rfl⟩ := okWide_slice Try.underlying90 hv
  obtain ⟨v', xs, hv', hr, _⟩ := open_row (en := icells) (size := 1) Try.underlying90 cells_int (by decide) bytes_int (fun _ => rfl) (fun _ _ _ h => open_i h) h hl
  have e : [Value.slice a len cap] = [v'] := hv'
  injection e with e
  subst e
  exact ⟨xs, hr⟩
end
end Go.Proofs.Ytnhgdjiljjpgmaa
