/-
  Slices that read as lists: of flat data, and of slices; adversaries.
  Conditions: none.
-/
import Derived.Test.YtnhgdjiljjpgmaaCmp
namespace Go.Proofs.Ytnhgdjiljjpgmaa
open Go.RowKit

instance : Inhabited Gr := ⟨⟨0, 0, 0, 0, 0, 0⟩⟩
instance : Inhabited Rd := ⟨⟨default, 0⟩⟩
instance : Inhabited Mv := ⟨⟨default, 0⟩⟩

/-- The slice value v reads as the list xs: each element's cells, 'size' of them, one element after the other. -/
def Row {α : Type} (enc : α → List Value) (size : Nat) (w : World) (v : Value) (xs : List α) : Prop :=
  ∃ (p : Option Addr) (c : Nat), v = .slice p xs.length c ∧ xs.length ≤ c ∧ (c ≤ 9223372036854775807 ∧ xs.length ≤ 17592186044416) ∧
    (0 < xs.length → ∃ b o, p = some ⟨b, o, none⟩ ∧ b < w.heap.size ∧ ∀ i x, xs[i]? = some x → ∀ j u, (enc x)[j]? = some u → w.cell? ⟨b, o + i * size + j, none⟩ = some u)
theorem Row.ext {α : Type} {enc : α → List Value} {size : Nat} {w W : World} {v : Value} {xs : List α} (h : Row enc size w v xs) (hE : Ext w W) : Row enc size W v xs := by
  obtain ⟨p, c, hv, h1, h2, h3⟩ := h
  refine ⟨p, c, hv, h1, h2, fun hl => ?_⟩
  obtain ⟨b, o, hp, hb, hc⟩ := h3 hl
  exact ⟨b, o, hp, Nat.lt_of_lt_of_le hb hE.size, fun i x hx j u hu => (hE.cell hb).trans (hc i x hx j u hu)⟩
theorem Row.nil {α : Type} (enc : α → List Value) (size : Nat) (w : World) : Row enc size w (.slice none 0 0) ([] : List α) := ⟨none, 0, rfl, Nat.le_refl _, by simp, fun h => absurd h (by simp)⟩
/-- One cell each: the slices of a slice of slices. -/
abbrev one (v : Value) : List Value := [v]
/-- A slice of slices of flat data. -/
def Rows2 {α : Type} (enc : α → List Value) (size : Nat) (w : World) (v : Value) (xss : List (List α)) : Prop :=
  ∃ vs : List Value, vs.length = xss.length ∧ Row one 1 w v vs ∧ ∀ (i : Nat) (u : Value) (xs : List α), vs[i]? = some u → xss[i]? = some xs → Row enc size w u xs
theorem Rows2.ext {α : Type} {enc : α → List Value} {size : Nat} {w W : World} {v : Value} {xss : List (List α)} (h : Rows2 enc size w v xss) (hE : Ext w W) : Rows2 enc size W v xss := by
  obtain ⟨vs, h1, h2, h3⟩ := h
  exact ⟨vs, h1, h2.ext hE, fun i u xs hu hx => (h3 i u xs hu hx).ext hE⟩
theorem Row.len {α : Type} {enc : α → List Value} {size : Nat} {w : World} {v : Value} {xs : List α} (h : Row enc size w v xs) : xs.length ≤ 17592186044416 := by
  obtain ⟨p, c, hv, h1, h2, h3⟩ := h; omega
/-- Element i of a slice of slices. -/
theorem Rows2.at_ {α : Type} {enc : α → List Value} {size : Nat} {w : World} {v : Value} {xss : List (List α)} (h : Rows2 enc size w v xss) :
    ∃ (p : Option Addr) (c : Nat), v = .slice p xss.length c ∧ xss.length ≤ c ∧ xss.length ≤ 17592186044416 ∧
      ∀ i, i < xss.length → ∃ b o u, p = some ⟨b, o, none⟩ ∧ b < w.heap.size ∧ (∀ W, Ext w W → W.cell? ⟨b, o + i, none⟩ = some u) ∧ ∀ xs, xss[i]? = some xs → Row enc size w u xs := by
  obtain ⟨vs, h1, ⟨p, c, hv, h2, h3, h4⟩, h5⟩ := h
  rw [h1] at hv h2 h4
  refine ⟨p, c, hv, h2, by omega, fun i hi => ?_⟩
  obtain ⟨b, o, hp, hb, hc⟩ := h4 (by omega)
  have hvi : vs[i]? = some vs[i] := List.getElem?_eq_getElem (by omega)
  refine ⟨b, o, vs[i], hp, hb, fun W hE => ?_, fun xs hx => h5 i _ xs hvi hx⟩
  have := hc i _ hvi 0 vs[i] rfl
  simp only [Nat.mul_one, Nat.add_zero] at this
  exact (hE.cell hb).trans this
theorem Rows2.sl_at {α : Type} {enc : α → List Value} {size : Nat} {w : World} {v : Value} {xss : List (List α)} (h : Rows2 enc size w v xss) :
    ∃ (p : Option Addr) (c : Nat), v = .slice p xss.length c ∧ xss.length ≤ c ∧ xss.length ≤ 17592186044416 ∧
      ∀ i, i < xss.length → ∃ b o q d, p = some ⟨b, o, none⟩ ∧ b < w.heap.size ∧ (∀ W, Ext w W → W.cell? ⟨b, o + i, none⟩ = some (.slice q (xss.getD i []).length d)) ∧ Row enc size w (.slice q (xss.getD i []).length d) (xss.getD i []) ∧ (xss.getD i []).length ≤ 17592186044416 := by
  obtain ⟨p, c, hv, h1, h2, h3⟩ := h.at_
  refine ⟨p, c, hv, h1, h2, fun i hi => ?_⟩
  obtain ⟨b, o, u, hp, hb, hc, hr⟩ := h3 i hi
  have hx : xss[i]? = some (xss.getD i []) := by rw [List.getD_eq_getElem?_getD, List.getElem?_eq_getElem hi]; rfl
  have hr := hr _ hx
  obtain ⟨q, d, rfl, h5⟩ := hr
  exact ⟨b, o, q, d, hp, hb, hc, ⟨q, d, rfl, h5⟩, by omega⟩
/-- Element i of a slice of moves: its eight cells, in every later world. -/
theorem Row.mv_at {w : World} {v : Value} {ms : List Mv} (h : Row Mv.cells 8 w v ms) :
    ∃ (p : Option Addr) (c : Nat), v = .slice p ms.length c ∧ ms.length ≤ c ∧ ms.length ≤ 17592186044416 ∧
      ∀ i, i < ms.length → ∃ b o, p = some ⟨b, o, none⟩ ∧ b < w.heap.size ∧
        (∀ W, Ext w W → W.cell? ⟨b, o + i * 8, none⟩ = some (.int .i64 (ms.getD i default).r.g.n)) ∧ (∀ W, Ext w W → W.cell? ⟨b, o + i * 8 + 1, none⟩ = some (.int .i64 (ms.getD i default).r.g.h0)) ∧
        (∀ W, Ext w W → W.cell? ⟨b, o + i * 8 + 2, none⟩ = some (.int .i64 (ms.getD i default).r.g.h1)) ∧ (∀ W, Ext w W → W.cell? ⟨b, o + i * 8 + 3, none⟩ = some (.int .i64 (ms.getD i default).r.g.h2)) ∧
        (∀ W, Ext w W → W.cell? ⟨b, o + i * 8 + 4, none⟩ = some (.int .i64 (ms.getD i default).r.g.h3)) ∧ (∀ W, Ext w W → W.cell? ⟨b, o + i * 8 + 5, none⟩ = some (.int .i64 (ms.getD i default).r.g.h4)) ∧
        (∀ W, Ext w W → W.cell? ⟨b, o + i * 8 + 6, none⟩ = some (.int .i64 (ms.getD i default).r.f)) ∧ (∀ W, Ext w W → W.cell? ⟨b, o + i * 8 + 7, none⟩ = some (.int .i64 (ms.getD i default).to)) := by
  obtain ⟨p, c, hv, h2, h3, h4⟩ := h
  refine ⟨p, c, hv, h2, by omega, fun i hi => ?_⟩
  obtain ⟨b, o, hp, hb, hc⟩ := h4 (by omega)
  have hx : ms[i]? = some (ms.getD i default) := by rw [List.getD_eq_getElem?_getD, List.getElem?_eq_getElem hi]; rfl
  have hj := fun j u hu W (hE : Ext w W) => (hE.cell (p := ⟨b, o + i * 8 + j, none⟩) hb).trans (hc i _ hx j u hu)
  exact ⟨b, o, hp, hb, hj 0 _ rfl, hj 1 _ rfl, hj 2 _ rfl, hj 3 _ rfl, hj 4 _ rfl, hj 5 _ rfl, hj 6 _ rfl, hj 7 _ rfl⟩
/-- Element i of a slice of rounds. -/
theorem Row.rd_at {w : World} {v : Value} {ms : List Rd} (h : Row Rd.cells 7 w v ms) :
    ∃ (p : Option Addr) (c : Nat), v = .slice p ms.length c ∧ ms.length ≤ c ∧ ms.length ≤ 17592186044416 ∧
      ∀ i, i < ms.length → ∃ b o, p = some ⟨b, o, none⟩ ∧ b < w.heap.size ∧
        (∀ W, Ext w W → W.cell? ⟨b, o + i * 7, none⟩ = some (.int .i64 (ms.getD i default).g.n)) ∧ (∀ W, Ext w W → W.cell? ⟨b, o + i * 7 + 1, none⟩ = some (.int .i64 (ms.getD i default).g.h0)) ∧
        (∀ W, Ext w W → W.cell? ⟨b, o + i * 7 + 2, none⟩ = some (.int .i64 (ms.getD i default).g.h1)) ∧ (∀ W, Ext w W → W.cell? ⟨b, o + i * 7 + 3, none⟩ = some (.int .i64 (ms.getD i default).g.h2)) ∧
        (∀ W, Ext w W → W.cell? ⟨b, o + i * 7 + 4, none⟩ = some (.int .i64 (ms.getD i default).g.h3)) ∧ (∀ W, Ext w W → W.cell? ⟨b, o + i * 7 + 5, none⟩ = some (.int .i64 (ms.getD i default).g.h4)) ∧
        (∀ W, Ext w W → W.cell? ⟨b, o + i * 7 + 6, none⟩ = some (.int .i64 (ms.getD i default).f)) := by
  obtain ⟨p, c, hv, h2, h3, h4⟩ := h
  refine ⟨p, c, hv, h2, by omega, fun i hi => ?_⟩
  obtain ⟨b, o, hp, hb, hc⟩ := h4 (by omega)
  have hx : ms[i]? = some (ms.getD i default) := by rw [List.getD_eq_getElem?_getD, List.getElem?_eq_getElem hi]; rfl
  have hj := fun j u hu W (hE : Ext w W) => (hE.cell (p := ⟨b, o + i * 7 + j, none⟩) hb).trans (hc i _ hx j u hu)
  exact ⟨b, o, hp, hb, hj 0 _ rfl, hj 1 _ rfl, hj 2 _ rfl, hj 3 _ rfl, hj 4 _ rfl, hj 5 _ rfl, hj 6 _ rfl⟩
/-- Element i of a slice of numbers. -/
abbrev icells (n : Int) : List Value := [.int .i64 n]
theorem Row.int_at {w : World} {v : Value} {ms : List Int} (h : Row icells 1 w v ms) :
    ∃ (p : Option Addr) (c : Nat), v = .slice p ms.length c ∧ ms.length ≤ c ∧ ms.length ≤ 17592186044416 ∧
      ∀ i, i < ms.length → ∃ b o, p = some ⟨b, o, none⟩ ∧ b < w.heap.size ∧ (∀ W, Ext w W → W.cell? ⟨b, o + i, none⟩ = some (.int .i64 (ms.getD i 0))) := by
  obtain ⟨p, c, hv, h2, h3, h4⟩ := h
  refine ⟨p, c, hv, h2, by omega, fun i hi => ?_⟩
  obtain ⟨b, o, hp, hb, hc⟩ := h4 (by omega)
  have hx : ms[i]? = some (ms.getD i 0) := by rw [List.getD_eq_getElem?_getD, List.getElem?_eq_getElem hi]; rfl
  refine ⟨b, o, hp, hb, fun W hE => ?_⟩
  have := hc i _ hx 0 _ rfl
  simp only [Nat.mul_one, Nat.add_zero] at this
  exact (hE.cell hb).trans this

theorem Rows2.sl_all {α : Type} {enc : α → List Value} {size : Nat} {w : World} {v : Value} {xss : List (List α)} (h : Rows2 enc size w v xss) :
    ∃ (p : Option Addr) (c : Nat), v = .slice p xss.length c ∧ xss.length ≤ c ∧ xss.length ≤ 17592186044416 ∧
      (0 < xss.length → ∃ b o, p = some ⟨b, o, none⟩ ∧ b < w.heap.size ∧ ∀ i, i < xss.length → ∃ q d, (∀ W, Ext w W → W.cell? ⟨b, o + i, none⟩ = some (.slice q (xss.getD i []).length d)) ∧ Row enc size w (.slice q (xss.getD i []).length d) (xss.getD i []) ∧ (xss.getD i []).length ≤ 17592186044416) := by
  obtain ⟨p, c, hv, h1, h2, h3⟩ := h.sl_at
  refine ⟨p, c, hv, h1, h2, fun hl => ?_⟩
  obtain ⟨b, o, q, d, hp, hb, _⟩ := h3 0 hl
  refine ⟨b, o, hp, hb, fun i hi => ?_⟩
  obtain ⟨b', o', q', d', hp', hb', hc, hr⟩ := h3 i hi
  rw [hp] at hp'
  injection hp' with hp'
  injection hp' with e1 e2
  subst e1 e2
  exact ⟨q', d', hc, hr⟩
/-- The eight cells of a move at an address, in every later world. -/
def MvAt (w : World) (b k : Nat) (m : Mv) : Prop :=
  (∀ W, Ext w W → W.cell? ⟨b, k, none⟩ = some (.int .i64 m.r.g.n)) ∧ (∀ W, Ext w W → W.cell? ⟨b, k + 1, none⟩ = some (.int .i64 m.r.g.h0)) ∧
  (∀ W, Ext w W → W.cell? ⟨b, k + 2, none⟩ = some (.int .i64 m.r.g.h1)) ∧ (∀ W, Ext w W → W.cell? ⟨b, k + 3, none⟩ = some (.int .i64 m.r.g.h2)) ∧
  (∀ W, Ext w W → W.cell? ⟨b, k + 4, none⟩ = some (.int .i64 m.r.g.h3)) ∧ (∀ W, Ext w W → W.cell? ⟨b, k + 5, none⟩ = some (.int .i64 m.r.g.h4)) ∧
  (∀ W, Ext w W → W.cell? ⟨b, k + 6, none⟩ = some (.int .i64 m.r.f)) ∧ (∀ W, Ext w W → W.cell? ⟨b, k + 7, none⟩ = some (.int .i64 m.to))
theorem Row.mv_all {w : World} {v : Value} {ms : List Mv} (h : Row Mv.cells 8 w v ms) :
    ∃ (p : Option Addr) (c : Nat), v = .slice p ms.length c ∧ ms.length ≤ c ∧ ms.length ≤ 17592186044416 ∧
      (0 < ms.length → ∃ b o, p = some ⟨b, o, none⟩ ∧ b < w.heap.size ∧ ∀ i, i < ms.length → MvAt w b (o + i * 8) (ms.getD i default)) := by
  obtain ⟨p, c, hv, h2, h3, h4⟩ := h
  refine ⟨p, c, hv, h2, by omega, fun hl => ?_⟩
  obtain ⟨b, o, hp, hb, hc⟩ := h4 hl
  refine ⟨b, o, hp, hb, fun i hi => ?_⟩
  have hx : ms[i]? = some (ms.getD i default) := by rw [List.getD_eq_getElem?_getD, List.getElem?_eq_getElem hi]; rfl
  have hj := fun j u hu W (hE : Ext w W) => (hE.cell (p := ⟨b, o + i * 8 + j, none⟩) hb).trans (hc i _ hx j u hu)
  exact ⟨hj 0 _ rfl, hj 1 _ rfl, hj 2 _ rfl, hj 3 _ rfl, hj 4 _ rfl, hj 5 _ rfl, hj 6 _ rfl, hj 7 _ rfl⟩
/-- The seven cells of a round at an address, in every later world. -/
def RdAt (w : World) (b k : Nat) (m : Rd) : Prop :=
  (∀ W, Ext w W → W.cell? ⟨b, k, none⟩ = some (.int .i64 m.g.n)) ∧ (∀ W, Ext w W → W.cell? ⟨b, k + 1, none⟩ = some (.int .i64 m.g.h0)) ∧
  (∀ W, Ext w W → W.cell? ⟨b, k + 2, none⟩ = some (.int .i64 m.g.h1)) ∧ (∀ W, Ext w W → W.cell? ⟨b, k + 3, none⟩ = some (.int .i64 m.g.h2)) ∧
  (∀ W, Ext w W → W.cell? ⟨b, k + 4, none⟩ = some (.int .i64 m.g.h3)) ∧ (∀ W, Ext w W → W.cell? ⟨b, k + 5, none⟩ = some (.int .i64 m.g.h4)) ∧
  (∀ W, Ext w W → W.cell? ⟨b, k + 6, none⟩ = some (.int .i64 m.f))
theorem Row.rd_all {w : World} {v : Value} {ms : List Rd} (h : Row Rd.cells 7 w v ms) :
    ∃ (p : Option Addr) (c : Nat), v = .slice p ms.length c ∧ ms.length ≤ c ∧ ms.length ≤ 17592186044416 ∧
      (0 < ms.length → ∃ b o, p = some ⟨b, o, none⟩ ∧ b < w.heap.size ∧ ∀ i, i < ms.length → RdAt w b (o + i * 7) (ms.getD i default)) := by
  obtain ⟨p, c, hv, h2, h3, h4⟩ := h
  refine ⟨p, c, hv, h2, by omega, fun hl => ?_⟩
  obtain ⟨b, o, hp, hb, hc⟩ := h4 hl
  refine ⟨b, o, hp, hb, fun i hi => ?_⟩
  have hx : ms[i]? = some (ms.getD i default) := by rw [List.getD_eq_getElem?_getD, List.getElem?_eq_getElem hi]; rfl
  have hj := fun j u hu W (hE : Ext w W) => (hE.cell (p := ⟨b, o + i * 7 + j, none⟩) hb).trans (hc i _ hx j u hu)
  exact ⟨hj 0 _ rfl, hj 1 _ rfl, hj 2 _ rfl, hj 3 _ rfl, hj 4 _ rfl, hj 5 _ rfl, hj 6 _ rfl⟩
theorem Row.int_all {w : World} {v : Value} {ms : List Int} (h : Row icells 1 w v ms) :
    ∃ (p : Option Addr) (c : Nat), v = .slice p ms.length c ∧ ms.length ≤ c ∧ ms.length ≤ 17592186044416 ∧
      (0 < ms.length → ∃ b o, p = some ⟨b, o, none⟩ ∧ b < w.heap.size ∧ ∀ i, i < ms.length → ∀ W, Ext w W → W.cell? ⟨b, o + i, none⟩ = some (.int .i64 (ms.getD i 0))) := by
  obtain ⟨p, c, hv, h2, h3, h4⟩ := h
  refine ⟨p, c, hv, h2, by omega, fun hl => ?_⟩
  obtain ⟨b, o, hp, hb, hc⟩ := h4 hl
  refine ⟨b, o, hp, hb, fun i hi W hE => ?_⟩
  have hx : ms[i]? = some (ms.getD i 0) := by rw [List.getD_eq_getElem?_getD, List.getElem?_eq_getElem hi]; rfl
  have := hc i _ hx 0 _ rfl
  simp only [Nat.mul_one, Nat.add_zero] at this
  exact (hE.cell hb).trans this

/-- An adversary. -/
structure Adv where
  n : Int
  st : List (List Mv)
def AdvRep (w : World) (v : Value) (A : Adv) : Prop := ∃ s, v = .agg #[.int .i64 A.n, s] ∧ Rows2 Mv.cells 8 w s A.st
theorem AdvRep.ext {w W : World} {v : Value} {A : Adv} (h : AdvRep w v A) (hE : Ext w W) : AdvRep W v A := by
  obtain ⟨s, h1, h2⟩ := h
  exact ⟨s, h1, h2.ext hE⟩

/-- The numbers of states, of a state's moves; move i of state s. -/
def Adv.L (A : Adv) : Nat := A.st.length
def Adv.len (A : Adv) (s : Nat) : Nat := (A.st.getD s []).length
def Adv.mv (A : Adv) (s i : Nat) : Mv := (A.st.getD s []).getD i default
theorem AdvRep.all_ {w : World} {v : Value} {A : Adv} (h : AdvRep w v A) :
    ∃ (p : Option Addr) (c : Nat), v = .agg #[.int .i64 A.n, .slice p A.L c] ∧ A.L ≤ c ∧ A.L ≤ 17592186044416 ∧
      (0 < A.L → ∃ b o, p = some ⟨b, o, none⟩ ∧ b < w.heap.size ∧ ∀ s, s < A.L → ∃ q d, (∀ W, Ext w W → W.cell? ⟨b, o + s, none⟩ = some (.slice q (A.len s) d)) ∧ A.len s ≤ d ∧ A.len s ≤ 17592186044416 ∧
        Row Mv.cells 8 w (.slice q (A.len s) d) (A.st.getD s []) ∧ (0 < A.len s → ∃ b2 o2, q = some ⟨b2, o2, none⟩ ∧ b2 < w.heap.size ∧ ∀ i, i < A.len s → MvAt w b2 (o2 + i * 8) (A.mv s i))) := by
  obtain ⟨sv, rfl, hs⟩ := h
  obtain ⟨p, c, rfl, h1, h2, h3⟩ := hs.sl_all
  refine ⟨p, c, rfl, h1, h2, fun hl => ?_⟩
  obtain ⟨b, o, hp, hb, hc⟩ := h3 hl
  refine ⟨b, o, hp, hb, fun s hs => ?_⟩
  obtain ⟨q, d, hcl, hr, hm⟩ := hc s hs
  obtain ⟨q', d', he, h5, h6, h7⟩ := hr.mv_all
  injection he with e1 _ e2
  subst e1 e2
  exact ⟨q, d, hcl, h5, h6, hr, h7⟩
/-- The first of n errors. -/
def firstErr (f : Nat → Int) : Nat → Int
  | 0 => 0
  | n + 1 => if firstErr f n = 0 then f n else firstErr f n
theorem firstErr_end {f : Nat → Int} {n : Nat} (h : ∀ i, i < n → f i = 0) : firstErr f n = 0 := by
  induction n with
  | zero => rfl
  | succ n ih => simp only [firstErr]; rw [if_pos (ih fun i hi => h i (by omega))]; exact h n (by omega)
theorem firstErr_at {f : Nat → Int} {n k : Nat} (hk : k < n) (h : ∀ i, i < k → f i = 0) (he : f k ≠ 0) : firstErr f n = f k := by
  induction n with
  | zero => omega
  | succ n ih =>
    simp only [firstErr]
    by_cases e : k = n
    · subst e; rw [if_pos (firstErr_end h)]
    · rw [ih (by omega), if_neg he]
theorem firstErr_zero {f : Nat → Int} {n : Nat} : firstErr f n = 0 ↔ ∀ i, i < n → f i = 0 := by
  constructor
  · induction n with
    | zero => intro _ i hi; omega
    | succ n ih =>
      intro h i hi
      simp only [firstErr] at h
      split at h
      · rename_i h0
        by_cases e : i = n
        · subst e; exact h
        · exact ih h0 i (by omega)
      · rename_i h0; exact absurd h h0
  · exact firstErr_end
/-- The place of the first of n that P holds for, or -1. -/
def firstAt (P : Nat → Bool) : Nat → Int
  | 0 => -1
  | n + 1 => if firstAt P n = -1 then (if P n then (n : Int) else -1) else firstAt P n
theorem firstAt_none {P : Nat → Bool} {n : Nat} (h : ∀ i, i < n → P i = false) : firstAt P n = -1 := by
  induction n with
  | zero => rfl
  | succ n ih => simp only [firstAt]; rw [if_pos (ih fun i hi => h i (by omega)), h n (by omega)]; rfl
theorem firstAt_at {P : Nat → Bool} {n k : Nat} (hk : k < n) (h : ∀ i, i < k → P i = false) (hp : P k = true) : firstAt P n = k := by
  induction n with
  | zero => omega
  | succ n ih =>
    simp only [firstAt]
    by_cases e : k = n
    · subst e; rw [if_pos (firstAt_none h), if_pos hp]
    · rw [ih (by omega), if_neg (by omega)]
theorem firstAt_lb (P : Nat → Bool) (n : Nat) : -1 ≤ firstAt P n := by
  induction n with
  | zero => simp [firstAt]
  | succ n ih => simp only [firstAt]; split <;> (try split) <;> omega
theorem firstAt_any (P : Nat → Bool) (n : Nat) : decide (0 ≤ firstAt P n) = (List.range n).any P := by
  induction n with
  | zero => rfl
  | succ n ih =>
    rw [List.range_succ, List.any_append, ← ih]
    have := firstAt_lb P n
    have e : firstAt P (n + 1) = if firstAt P n = -1 then (if P n then (n : Int) else -1) else firstAt P n := rfl
    rw [e, Bool.eq_iff_iff]
    simp only [decide_eq_true_eq, Bool.or_eq_true, List.any_cons, List.any_nil, Bool.or_false]
    by_cases h : firstAt P n = -1
    · rw [if_pos h, h]
      cases hp : P n
      · simp
      · simp
    · rw [if_neg h]
      omega
theorem range_any {α : Type} (l : List α) (d : α) (P : α → Bool) : (List.range l.length).any (fun i => P (l.getD i d)) = l.any P := by
  rw [Bool.eq_iff_iff]
  simp only [List.any_eq_true, List.mem_range]
  constructor
  · rintro ⟨i, hi, h⟩
    rw [List.getD_eq_getElem?_getD, List.getElem?_eq_getElem hi] at h
    exact ⟨_, List.getElem_mem hi, h⟩
  · rintro ⟨x, hx, h⟩
    obtain ⟨i, hi, rfl⟩ := List.getElem_of_mem hx
    exact ⟨i, hi, by rw [List.getD_eq_getElem?_getD, List.getElem?_eq_getElem hi]; exact h⟩
end Go.Proofs.Ytnhgdjiljjpgmaa
