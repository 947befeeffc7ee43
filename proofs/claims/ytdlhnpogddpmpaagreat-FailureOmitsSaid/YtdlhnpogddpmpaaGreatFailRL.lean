/-
  The reference's layer 17: One, Snapshot.
  Conditions: none.
-/
import Derived.Test.YtdlhnpogddpmpaaGreatFailRk
namespace Go.Proofs.YtdlhnpogddpmpaaGreat
open Go.RowKit
attribute [local go_sem] Oper.semAt_some

def snpQ (g : Gr) (p q : Nat) : Bool := (!insd (g.h p).toNat (g.h q).toNat && !insd (g.h q).toNat (g.h p).toNat) || (bit (g.h p).toNat q && !insd (g.h q).toNat (g.h p).toNat)
theorem snapB_eq (n : Nat) (g : Gr) : ((∀ p, p < n → ∀ q, q < n → snpQ g p q = false) → snapB n g = true) ∧ (∀ p q, p < n → q < n → snpQ g p q = true → snapB n g = false) := by
  refine ⟨fun h => ?_, fun p q hp hq h => ?_⟩
  · unfold snapB
    rw [List.all_eq_true]
    intro p hp
    rw [List.all_eq_true]
    intro q hq
    have := h p (List.mem_range.1 hp) q (List.mem_range.1 hq)
    unfold snpQ at this
    rw [this]; rfl
  · cases hj : snapB n g with
    | false => rfl
    | true =>
      unfold snapB at hj
      rw [List.all_eq_true] at hj
      have := hj p (List.mem_range.2 hp)
      rw [List.all_eq_true] at this
      have := this q (List.mem_range.2 hq)
      unfold snpQ at h
      rw [h] at this
      cases this
end Go.Proofs.YtdlhnpogddpmpaaGreat

namespace Go.Proofs.YtdlhnpogddpmpaaGreat
open Go.RowKit
attribute [local go_sem] Oper.semAt_some

def mvG (g : Gr) : Mv := ⟨⟨g, 0⟩, 0⟩
theorem results_adv0 {fn : Func} {a : Tmp} (h : fn.results = #[.cell a 26]) {tmps : Array Value} {w : World} {p : Nat} {n : Int} {sv : Value} (ha : tmps.getD a undef = .pointer (some ⟨p, 0, none⟩))
    (hp : w.heap[p]? = some (.cells #[.int .i64 n, sv] 26 (0, 0))) : (results fn tmps).run Tryz.prog w = .ok (.agg #[.int .i64 n, sv]) w := by
  rw [Array.getD_eq_getD_getElem?] at ha
  have p0 : w.cell? ⟨p, 0, none⟩ = some (.int .i64 n) := by rw [cell_of_row _ _ _ _ _ _ hp]; rfl
  have p1 : w.cell? ⟨p, 1, none⟩ = some sv := by rw [cell_of_row _ _ _ _ _ _ hp]; rfl
  simp [results, h, ha, go_sem, p0, p1]
def refSA (n : Int) : Adv × Int := if n < 1 ∨ 5 < n then (⟨0, []⟩, 2) else (⟨n, [((everyB n.toNat 6).filter (snapB n.toNat)).map mvG]⟩, 0)
end Go.Proofs.YtdlhnpogddpmpaaGreat
