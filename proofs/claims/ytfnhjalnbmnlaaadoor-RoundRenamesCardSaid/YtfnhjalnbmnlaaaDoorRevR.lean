/-
  slices.Reverse on rounds, by the kit's contract laid at this program.
  Conditions: none.
-/
import Derived.Shelf.SlicesQ.Reverse
import Derived.Test.YtfnhjalnbmnlaaaDoorRdA
namespace Go.Proofs.YtfnhjalnbmnlaaaDoor
open Go.RowKit

def revRen : Go.Shelf.Ren := ⟨fun | 35 => 41 | n => n, fun | 0 => 0 | 3 => 3 | 4 => 4 | 22 => 35 | 23 => 26 | n => n, fun | n => n⟩
theorem revLays : Go.Proofs.SlLaysE0.n35 Tryd.prog revRen := {
  mixed := by kernel_rfl
  f35 := ⟨"slices.Reverse[[]roundtable/api.Round,roundtable/api.Round]", by kernel_rfl, Tryd.func41.trans (congrArg some (by kernel_rfl))⟩
  t0 := Tryd.underlying0
  a0 := Tryd.isAgg0
  z0 := Tryd.sizeOf0
  v0 := Tryd.zeroValue0
  t3 := Tryd.underlying3
  a3 := Tryd.isAgg3
  z3 := Tryd.sizeOf3
  v3 := Tryd.zeroValue3
  t4 := Tryd.underlying4
  a4 := Tryd.isAgg4
  z4 := Tryd.sizeOf4
  v4 := Tryd.zeroValue4
  t22 := Tryd.underlying35
  a22 := Tryd.isAgg35
  z22 := Tryd.sizeOf35
  v22 := Tryd.zeroValue35 }
theorem add_lit2 (g m k : Nat) : (⟨g, m, none⟩ : Addr).add k = ⟨g, m + k, none⟩ := by unfold Addr.add; split <;> simp_all
open Go.Sort in
theorem row_of_holds {w : World} {b : Nat} {l : List Rd} (h : HoldsK Rd.cells 7 w b 0 l.toArray) (hl : l.length ≤ 1000) (hb : b < w.heap.size) : Row Rd.cells 7 w (.slice (some ⟨b, 0, none⟩) l.length l.length) l := by
  refine ⟨_, _, rfl, Nat.le_refl _, by constructor <;> omega, fun _ => ⟨b, 0, rfl, hb, fun i x hx j u hu => ?_⟩⟩
  have hi : i < l.length := by
    rcases Nat.lt_or_ge i l.length with h | h
    · exact h
    · rw [List.getElem?_eq_none h] at hx; cases hx
  have h1 := HoldsK.cells h (fun _ => rfl) (i := i) (by simpa using hi) j u (by
    have e : l.toArray[i]! = x := by rw [getElem!_pos l.toArray i (by simpa using hi)]; rw [List.getElem_toArray]; exact (List.getElem?_eq_some_iff.1 hx).2
    rw [e]; exact hu)
  rw [add_lit2] at h1
  rw [Nat.zero_add] at h1 ⊢
  exact h1
open Go.Sort in
theorem ext_putRow {B w : World} (h : Ext B w) {b : Nat} (hb : B.heap.size ≤ b) (n : Nat) (d : Array Rd) : Ext B (putRowK Rd.cells 7 (Go.Sort.ahead w n) b 0 d) := by
  refine ⟨⟨h.b.os, h.b.tape, h.b.output, ?_, fun k hk => ?_⟩⟩
  · have := h.b.size
    simp [putRowK, putRow, mapBlock, Go.Sort.ahead]
    exact this
  · rw [← h.b.block k hk]
    simp only [putRowK, putRow, mapBlock, Go.Sort.ahead, Array.getElem?_modify]
    rw [if_neg (by omega)]
open Go.Sort in
theorem rvs_any (B : World) (b cap : Nat) (l : List Rd) (w : World) (hl : l.length ≤ 1000) (hb : B.heap.size ≤ b) (hw : b < w.heap.size) (hE : Ext B w) (hH : HoldsK Rd.cells 7 w b 0 l.toArray) :
    Calls Tryd.prog 41 #[.slice (some ⟨b, 0, none⟩) l.length cap] w fun e w' => e = .returned (.tuple #[]) ∧ Ext B w' ∧ Row Rd.cells 7 w' (.slice (some ⟨b, 0, none⟩) l.length l.length) l.reverse ∧ ∀ k, k ≠ b → w'.heap[k]? = w.heap[k]? := by
  have h := AnyQ.slices_Reverse revLays 7 Tryd.isAgg26 Tryd.sizeOf26 Rd.cells (fun _ => rfl) rd_ones b 0 cap l.toArray w hH (by simp; omega)
  rw [List.size_toArray] at h
  refine Calls.mono (f := 41) h ?_
  rintro e w' ⟨rfl, n, rfl⟩
  refine ⟨rfl, ext_putRow hE hb n _, ?_, fun k hk => ?_⟩
  · have h2 := holdsK_putRowK Rd.cells 7 _ b 0 l.toArray l.toArray.reverse (holdsK_ahead Rd.cells 7 w n b 0 _ hH) (by simp)
    rw [show l.toArray.reverse = l.reverse.toArray by simp] at h2
    have h3 := row_of_holds h2 (by simpa using hl) (by simp [putRowK, putRow, mapBlock, Go.Sort.ahead]; exact hw)
    simpa using h3
  · simp only [putRowK, putRow, mapBlock, Go.Sort.ahead, Array.getElem?_modify]
    rw [if_neg (by omega)]
end Go.Proofs.YtfnhjalnbmnlaaaDoor
