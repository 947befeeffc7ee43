/-
  slices.Reverse on rounds, by the kit's contract laid at this program (law 20's own copy, for long words).
  Conditions: none.
-/
import Derived.Shelf.SlicesQ.Reverse
import Derived.Test.YtmkmgimmlohamaaIncP
namespace Go.Proofs.Ytmkmgimmlohamaa
open Go.RowKit

abbrev robj (r : Rd) : Obj := .cells #[.int .i64 r.g.n, .int .i64 r.g.h0, .int .i64 r.g.h1, .int .i64 r.g.h2, .int .i64 r.g.h3, .int .i64 r.g.h4, .int .i64 r.f] 43
theorem rd_info : (Try.prog.info? 43).map (fun i => (i.zero, i.size, i.bytes)) = some (some (Rd.v default), 7, 56) := by kernel_rfl
theorem rd_ones (x : Rd) : ∀ u ∈ Rd.cells x, u.oneCell' = true := by intro u hu; simp only [List.mem_cons, List.not_mem_nil, or_false] at hu; rcases hu with rfl | rfl | rfl | rfl | rfl | rfl | rfl <;> rfl
theorem rd_new_cells (w : World) (r : Rd) : ∀ j u, (Rd.cells r)[j]? = some u → (w.alloc (robj r)).cell? ⟨w.heap.size, j, none⟩ = some u := fun j u h => by
  rw [cell_of_row _ _ _ _ _ _ (heap_alloc_new w (robj r))]
  rw [← h, ← List.getElem?_toArray]
def revRen : Go.Shelf.Ren := ⟨fun | 35 => 71 | n => n, fun | 0 => 0 | 3 => 3 | 4 => 4 | 22 => 27 | 23 => 43 | n => n, fun | n => n⟩
theorem revLays : Go.Proofs.SlLaysE0.n35 Try.prog revRen := {
  mixed := by kernel_rfl
  f35 := ⟨"slices.Reverse[[]roundtable/api.Round,roundtable/api.Round]", by kernel_rfl, Try.func71.trans (congrArg some (by kernel_rfl))⟩
  t0 := Try.underlying0
  a0 := Try.isAgg0
  z0 := Try.sizeOf0
  v0 := Try.zeroValue0
  t3 := Try.underlying3
  a3 := Try.isAgg3
  z3 := Try.sizeOf3
  v3 := Try.zeroValue3
  t4 := Try.underlying4
  a4 := Try.isAgg4
  z4 := Try.sizeOf4
  v4 := Try.zeroValue4
  t22 := Try.underlying27
  a22 := Try.isAgg27
  z22 := Try.sizeOf27
  v22 := Try.zeroValue27 }
theorem add_lit2 (g m k : Nat) : (⟨g, m, none⟩ : Addr).add k = ⟨g, m + k, none⟩ := by unfold Addr.add; split <;> simp_all
open Go.Sort in
theorem row_of_holds {w : World} {b : Nat} {l : List Rd} (h : HoldsK Rd.cells 7 w b 0 l.toArray) (hl : l.length ≤ 1000000) (hb : b < w.heap.size) : Row Rd.cells 7 w (.slice (some ⟨b, 0, none⟩) l.length l.length) l := by
  refine ⟨_, _, rfl, Nat.le_refl _, by constructor <;> omega, fun _ => ⟨b, 0, rfl, hb, fun i x hx j u hu => ?_⟩⟩
  have hi : i < l.length := by
    rcases Nat.lt_or_ge i l.length with h | h
    · exact h
    · rw [List.getElem?_eq_none h] at hx; cases hx
  have h1 := HoldsK.cells h (fun _ => rfl) (i := i) (by simpa using hi) j u (by
    have e : l.toArray[i]! = x := by rw [getElem!_pos l.toArray i (by simpa using hi)]; rw [List.getElem_toArray]; exact (List.getElem?_eq_some_iff.1 hx).2
    rw [e]; exact hu)
  rw [add_lit2] at h1
  rw [Nat.zero_add] at h1 ⊢
  exact h1
open Go.Sort in
theorem ext_putRow {B w : World} (h : Ext B w) {b : Nat} (hb : B.heap.size ≤ b) (n : Nat) (d : Array Rd) : Ext B (putRowK Rd.cells 7 (Go.Sort.ahead w n) b 0 d) := by
  refine ⟨⟨h.b.os, h.b.tape, h.b.output, ?_, fun k hk => ?_⟩⟩
  · have := h.b.size
    simp [putRowK, putRow, mapBlock, Go.Sort.ahead]
    exact this
  · rw [← h.b.block k hk]
    simp only [putRowK, putRow, mapBlock, Go.Sort.ahead, Array.getElem?_modify]
    rw [if_neg (by omega)]
open Go.Sort in
theorem rvs_any (B : World) (b cap : Nat) (l : List Rd) (w : World) (hl : l.length ≤ 1000000) (hb : B.heap.size ≤ b) (hw : b < w.heap.size) (hE : Ext B w) (hH : HoldsK Rd.cells 7 w b 0 l.toArray) :
    Calls Try.prog 71 #[.slice (some ⟨b, 0, none⟩) l.length cap] w fun e w' => e = .returned (.tuple #[]) ∧ Ext B w' ∧ Row Rd.cells 7 w' (.slice (some ⟨b, 0, none⟩) l.length l.length) l.reverse ∧ ∀ k, k ≠ b → w'.heap[k]? = w.heap[k]? := by
  have h := AnyQ.slices_Reverse revLays 7 Try.isAgg43 Try.sizeOf43 Rd.cells (fun _ => rfl) rd_ones b 0 cap l.toArray w hH (by simp; omega)
  rw [List.size_toArray] at h
  refine Calls.mono (f := 71) h ?_
  rintro e w' ⟨rfl, n, rfl⟩
  refine ⟨rfl, ext_putRow hE hb n _, ?_, fun k hk => ?_⟩
  · have h2 := holdsK_putRowK Rd.cells 7 _ b 0 l.toArray l.toArray.reverse (holdsK_ahead Rd.cells 7 w n b 0 _ hH) (by simp)
    rw [show l.toArray.reverse = l.reverse.toArray by simp] at h2
    have h3 := row_of_holds h2 (by simpa using hl) (by simp [putRowK, putRow, mapBlock, Go.Sort.ahead]; exact hw)
    simpa using h3
  · simp only [putRowK, putRow, mapBlock, Go.Sort.ahead, Array.getElem?_modify]
    rw [if_neg (by omega)]
end Go.Proofs.Ytmkmgimmlohamaa
