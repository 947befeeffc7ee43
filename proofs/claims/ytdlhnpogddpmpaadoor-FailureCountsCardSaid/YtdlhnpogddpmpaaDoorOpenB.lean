/-
  Opening of a law's argument that is a byte.
  Conditions: as the theorem states.
-/
import Derived.Test.YtdlhnpogddpmpaaDoorOpen
namespace Go.Proofs.YtdlhnpogddpmpaaDoor
open Go.ChangeShapes Go.WideShapes Go.ChangeAt Go.RowKit

set_option maxRecDepth 100000
section
variable {H : Type} {enc : TypeId × Value → H} {w : World} {base : Nat} {spare : Nat → Bool} {held : Bool}
theorem open_u8 {v : Value} {d : DataW H} {p : List MemPlace} {r : Reach} {b0 : Nat} (hv : Value.okWide Tryd.prog w r b0 5 v) (h : DataW.Trod enc Tryd.prog w base spare held 5 v d p) : ∃ a : Nat, v = .int .u8 a ∧ a < 256 := by
  obtain ⟨n, rfl, -, -, hw⟩ := open_int Tryd.underlying5 hv h
  simp [Lit.wf, IntKind.min, IntKind.max, IntKind.signed, IntKind.bits] at hw
  exact ⟨n.toNat, by rw [Int.toNat_of_nonneg (by omega)], by omega⟩
theorem cells_int : Tryd.prog.cellsOf 3 = 1 := by kernel_rfl
theorem bytes_int : 8 ≤ Tryd.prog.bytesOf 3 := of_decide_eq_true (by kernel_rfl)
theorem open_ints_ {v : Value} {d : DataW H} {p : List MemPlace} {r : Reach} {b0 : Nat} (hv : Value.okWide Tryd.prog w r b0 70 v) (h : DataW.Trod enc Tryd.prog w base spare held 70 v d p) (hl : Light 70 d) : ∃ l, Row icells 1 w v l := by
  obtain ⟨n, h⟩ := h
  obtain ⟨a, len, cap, rfl⟩ := okWide_slice Tryd.underlying70 hv
  obtain ⟨v', xs, hv', hr, _⟩ := open_row (en := icells) (size := 1) Tryd.underlying70 cells_int (by decide) bytes_int (fun _ => rfl) (fun _ _ _ h => open_i h) h hl
  have e : [Value.slice a len cap] = [v'] := hv'
  injection e with e
  subst e
  exact ⟨xs, hr⟩
end
end Go.Proofs.YtdlhnpogddpmpaaDoor
