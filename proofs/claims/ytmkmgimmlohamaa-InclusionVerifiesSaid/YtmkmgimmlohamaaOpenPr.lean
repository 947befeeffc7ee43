/-
  A slice of pairs of numbers, opened.
  Conditions: none.
-/
import Derived.Test.YtmkmgimmlohamaaOpen
import Derived.Test.YtmkmgimmlohamaaIncV
namespace Go.Proofs.Ytmkmgimmlohamaa
open Go.ChangeShapes Go.WideShapes Go.ChangeAt Go.RowKit

theorem cells_pr : Try.prog.cellsOf 45 = 2 := by kernel_rfl
theorem bytes_pr : 8 ≤ Try.prog.bytesOf 45 := of_decide_eq_true (by kernel_rfl)
section
variable {H : Type} {enc : TypeId × Value → H} {w : World} {base : Nat} {spare : Nat → Bool} {held : Bool}
set_option maxRecDepth 16000 in
theorem open_pr {n : Nat} {cs : List Value} {x : DataW H × List MemPlace} (h : DataW.trod enc Try.prog w base spare held n 45 cs = some x) : ∃ r : Int × Int, cs = pcells r := by
  obtain ⟨ys, m2, _, _, hlen2, hyl, ha⟩ := DataW.trod_array Try.underlying45 h
  have key : ∀ i, i < 2 → ∃ z : Int, cs[i]? = some (.int .i64 z) := fun i hi => by
    have h2 := ha i hi
    rw [List.getElem?_eq_getElem (by rw [hyl]; exact hi)] at h2
    obtain ⟨z, hz⟩ := open_i h2
    have e1 : ((cs.drop (i * 1)).take 1) = [.int .i64 z] := hz
    rw [Nat.mul_one] at e1
    exact ⟨z, take_one e1⟩
  obtain ⟨z0, e1⟩ := key 0 (by omega)
  obtain ⟨z1, e2⟩ := key 1 (by omega)
  have hl : cs.length = 2 := hlen2.trans (by rfl)
  obtain ⟨c0, c1, rfl⟩ : ∃ c0 c1, cs = [c0, c1] := by
    match cs, hl with
    | [c0, c1], _ => exact ⟨_, _, rfl⟩
  have f0 : c0 = .int .i64 z0 := by simpa using e1
  have f1 : c1 = .int .i64 z1 := by simpa using e2
  rw [f0, f1]
  exact ⟨(z0, z1), rfl⟩
theorem open_prs {v : Value} {d : DataW H} {p : List MemPlace} (h : DataW.Trod enc Try.prog w base spare held 33 v d p) (hc : v.cells.toList = [v]) (hl : Light 33 d) : ∃ l, Row pcells 2 w v l := by
  obtain ⟨n, h⟩ := h
  obtain ⟨v', xs, hv, hr, _⟩ := open_row (en := pcells) (size := 2) Try.underlying33 cells_pr (by decide) bytes_pr (fun _ => rfl) (fun _ _ _ h => open_pr h) h hl
  rw [hc] at hv
  injection hv with hv
  subst hv
  exact ⟨xs, hr⟩
end
end Go.Proofs.Ytmkmgimmlohamaa
