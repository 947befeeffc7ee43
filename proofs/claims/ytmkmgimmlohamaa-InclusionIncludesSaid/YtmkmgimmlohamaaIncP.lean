/-
  The iterator over the rounds of two states (inclusion.steps).
  Conditions: as each theorem states.
-/
import Derived.Test.YtmkmgimmlohamaaIncS
import Derived.Test.YtmkmgimmlohamaaSeqA
import Derived.Test.YtmkmgimmlohamaaHeldA
import Derived.Sort.CutIn
namespace Go.Proofs.Ytmkmgimmlohamaa
open Go.RowKit
attribute [local go_sem] Oper.semAt_some

theorem dcell {w : World} {b : Nat} {cs : Array Value} {t : TypeId} (h : w.heap[b]? = some (.cells cs t (0, 0))) : ∀ j, w.cell? ⟨b, j, none⟩ = cs[j]? := fun j => cell_of_row w b j _ _ _ h
/-- A slice without its first element. -/
def tailV (size : Nat) : Value → Value
  | .slice (some a) (n + 1) c => .slice (some (if c = 1 then a else ⟨a.block, a.off + size, a.spot⟩)) n (c - 1)
  | v => v
theorem Row.tail {α : Type} {enc : α → List Value} {size : Nat} {w : World} {v : Value} {x : α} {xs : List α} (h : Row enc size w v (x :: xs)) : Row enc size w (tailV size v) xs := by
  obtain ⟨p, c, rfl, h1, h2, h3⟩ := h
  obtain ⟨b, o, rfl, hb, hc⟩ := h3 (by simp)
  rw [List.length_cons] at h1 h2
  show Row enc size w (.slice (some (if c = 1 then (⟨b, o, none⟩ : Addr) else ⟨b, o + size, none⟩)) xs.length (c - 1)) xs
  refine ⟨_, _, rfl, by omega, by omega, fun hl => ?_⟩
  rw [if_neg (by omega)]
  refine ⟨b, o + size, rfl, hb, fun i y hy j u hu => ?_⟩
  have := hc (i + 1) y (by simpa using hy) j u hu
  rw [show o + size + i * size + j = o + (i + 1) * size + j by rw [Nat.add_mul]; omega]
  exact this
theorem Row.form_ {α : Type} {enc : α → List Value} {size : Nat} {w : World} {v : Value} {xs : List α} (h : Row enc size w v xs) : ∃ p c, v = .slice p xs.length c ∧ xs.length ≤ c := by
  obtain ⟨p, c, h1, h2, _⟩ := h
  exact ⟨p, c, h1, h2⟩
/-- A slice of moves in a box. -/
def MBox (W : World) (b : Nat) (v : Value) : Prop := W.heap[b]? = some (.cells #[v] 89 (0, 0))
theorem MBox.ext {W W' : World} {b : Nat} {v : Value} (h : MBox W b v) (hE : Ext W W') : MBox W' b v := (hE.b.block _ (lt_of_heap h)).trans h
theorem MBox.set {W : World} {b : Nat} {v : Value} (h : MBox W b v) (u : Value) : MBox (W.setCell ⟨b, 0, none⟩ u) b u := heap_set h u
/-- The value of a step. -/
abbrev St.cells (e : St) : List Value := [.int .i64 e.r.g.n, .int .i64 e.r.g.h0, .int .i64 e.r.g.h1, .int .i64 e.r.g.h2, .int .i64 e.r.g.h3, .int .i64 e.r.g.h4, .int .i64 e.r.f, .int .i64 e.x, .int .i64 e.y]
abbrev St.v (e : St) : Value := .agg #[.int .i64 e.r.g.n, .int .i64 e.r.g.h0, .int .i64 e.r.g.h1, .int .i64 e.r.g.h2, .int .i64 e.r.g.h3, .int .i64 e.r.g.h4, .int .i64 e.r.f, .int .i64 e.x, .int .i64 e.y]
theorem steps_any (u v : Value) (hu : ∃ p n c, u = .slice p n c) (hv : ∃ p n c, v = .slice p n c) (w : World) : Calls Try.prog 42 #[u, v] w fun e w' =>
    e = .returned (.func (.func 61) #[] #[.pointer (some ⟨w.heap.size, 0, none⟩), .pointer (some ⟨w.heap.size + 1, 0, none⟩)]) ∧ w' = (w.alloc (.cells #[u] 89)).alloc (.cells #[v] 89) := by
  obtain ⟨p, n, c, rfl⟩ := hu
  obtain ⟨q, m, d, rfl⟩ := hv
  go_enter Try.func42, Try.ntmps42
  go_wp2
  go_ret
  exact ⟨rfl, rfl⟩
/-- How much is left in a box. -/
def sliceN : Value → Nat
  | .slice _ n _ => n
  | _ => 0
def boxLen (W : World) (g : Nat) : Nat := match W.heap[g]? with | some (.cells cs _ _) => sliceN (cs.getD 0 undef) | _ => 0
theorem MBox.len {W : World} {b : Nat} {p : Option Addr} {n c : Nat} (h : MBox W b (.slice p n c)) : boxLen W b = n := by unfold boxLen; rw [h]; rfl
/-- Without the first elements. -/
def itT : Nat → Value → Value
  | 0, v => v
  | n + 1, v => tailV 8 (itT n v)
theorem row_it {w : World} {v : Value} {xs : List Mv} (h : Row Mv.cells 8 w v xs) : ∀ i, i ≤ xs.length → Row Mv.cells 8 w (itT i v) (xs.drop i)
  | 0, _ => h
  | i + 1, hi => by
    have ih := row_it h i (by omega)
    rw [List.drop_eq_getElem_cons (show i < xs.length by omega)] at ih
    exact ih.tail
/-- Where the iterator stands: i, j elements are taken, k steps. -/
structure SAt (g : Nat) (u0 v0 : Value) (xs0 ys0 : List Mv) (J : Nat → (Nat → Prop) → World → Prop) (O1 : Nat → Prop) (i j k : Nat) (W : World) : Prop where
  left : (mergeS xs0 ys0).drop k = mergeS (xs0.drop i) (ys0.drop j)
  kl : k ≤ (mergeS xs0 ys0).length
  ix : i ≤ xs0.length
  jy : j ≤ ys0.length
  xb : MBox W g (itT i u0)
  yb : MBox W (g + 1) (itT j v0)
  j : J k O1 W
/-- The first move's cells. -/
theorem Row.mv0 {w : World} {v : Value} {x : Mv} {xs : List Mv} (h : Row Mv.cells 8 w v (x :: xs)) : ∃ b o c, v = .slice (some ⟨b, o, none⟩) (xs.length + 1) c ∧ xs.length + 1 ≤ c ∧ c ≤ 9223372036854775807 ∧ b < w.heap.size ∧
    w.cell? ⟨b, o, none⟩ = some (.int .i64 x.r.g.n) ∧ w.cell? ⟨b, o + 1, none⟩ = some (.int .i64 x.r.g.h0) ∧ w.cell? ⟨b, o + 2, none⟩ = some (.int .i64 x.r.g.h1) ∧ w.cell? ⟨b, o + 3, none⟩ = some (.int .i64 x.r.g.h2) ∧
    w.cell? ⟨b, o + 4, none⟩ = some (.int .i64 x.r.g.h3) ∧ w.cell? ⟨b, o + 5, none⟩ = some (.int .i64 x.r.g.h4) ∧ w.cell? ⟨b, o + 6, none⟩ = some (.int .i64 x.r.f) ∧ w.cell? ⟨b, o + 7, none⟩ = some (.int .i64 x.to) := by
  obtain ⟨p, c, rfl, h1, h2, h3⟩ := h
  obtain ⟨b, o, rfl, hb, hc⟩ := h3 (by simp)
  have key : ∀ j u, (Mv.cells x)[j]? = some u → w.cell? ⟨b, o + j, none⟩ = some u := fun j u hu => by
    have := hc 0 x rfl j u hu
    rwa [Nat.zero_mul, Nat.add_zero] at this
  exact ⟨b, o, c, rfl, h1, h2.1, hb, key 0 _ rfl, key 1 _ rfl, key 2 _ rfl, key 3 _ rfl, key 4 _ rfl, key 5 _ rfl, key 6 _ rfl, key 7 _ rfl⟩
/-- The order of two heads, and the step that it makes. -/
def OrdIs (o : Int) (xs ys : List Mv) : Prop :=
  (o = -1 ∧ ∃ x xs', xs = x :: xs' ∧ mergeS xs ys = ⟨x.r, x.to, -1⟩ :: mergeS xs' ys) ∨ (o = 1 ∧ ∃ y ys', ys = y :: ys' ∧ mergeS xs ys = ⟨y.r, -1, y.to⟩ :: mergeS xs ys') ∨
    (o = 0 ∧ ∃ x xs' y ys', xs = x :: xs' ∧ ys = y :: ys' ∧ mergeS xs ys = ⟨y.r, x.to, y.to⟩ :: mergeS xs' ys')
theorem ordIs_x (x : Mv) (xs : List Mv) : OrdIs (-1) (x :: xs) [] := .inl ⟨rfl, x, xs, rfl, by rw [mergeS]⟩
theorem ordIs_y (y : Mv) (ys : List Mv) : OrdIs 1 [] (y :: ys) := .inr (.inl ⟨rfl, y, ys, rfl, by rw [mergeS]⟩)
theorem ordIs_c (x : Mv) (xs : List Mv) (y : Mv) (ys : List Mv) : OrdIs (rcmp x.r y.r) (x :: xs) (y :: ys) := by
  have o := (rcmp_ord x.r y.r x.r).x1
  unfold OrdIs
  by_cases h1 : rcmp x.r y.r < 0
  · exact .inl ⟨by omega, x, xs, rfl, by rw [mergeS, if_pos h1]⟩
  · by_cases h2 : 0 < rcmp x.r y.r
    · exact .inr (.inl ⟨by omega, y, ys, rfl, by rw [mergeS, if_neg h1, if_pos h2]⟩)
    · exact .inr (.inr ⟨by omega, x, xs, y, ys, rfl, rfl, by rw [mergeS, if_neg h1, if_neg h2]⟩)
theorem drop_cons {α : Type} {L l : List α} {k : Nat} {e : α} (h : L.drop k = e :: l) : k < L.length ∧ L[k]? = some e ∧ L.drop (k + 1) = l := by
  have hk : k < L.length := by
    rcases Nat.lt_or_ge k L.length with h1 | h1
    · exact h1
    · rw [List.drop_eq_nil_of_le h1] at h; cases h
  rw [List.drop_eq_getElem_cons hk] at h
  injection h with h1 h2
  exact ⟨hk, by rw [List.getElem?_eq_getElem hk, h1], h2⟩
theorem seven (V : World) (b : Nat) (v0 v1 v2 v3 v4 v5 v6 : Value) :
    (∀ k, k ≠ b → (((((((V.setCell ⟨b, 0, none⟩ v0).setCell ⟨b, 1, none⟩ v1).setCell ⟨b, 2, none⟩ v2).setCell ⟨b, 3, none⟩ v3).setCell ⟨b, 4, none⟩ v4).setCell ⟨b, 5, none⟩ v5).setCell ⟨b, 6, none⟩ v6).heap[k]? = V.heap[k]?) ∧
    (((((((V.setCell ⟨b, 0, none⟩ v0).setCell ⟨b, 1, none⟩ v1).setCell ⟨b, 2, none⟩ v2).setCell ⟨b, 3, none⟩ v3).setCell ⟨b, 4, none⟩ v4).setCell ⟨b, 5, none⟩ v5).setCell ⟨b, 6, none⟩ v6).heap.size = V.heap.size ∧
    (∀ (O : Nat → Prop) (w0 : World), Off O w0 V → O b → Off O w0 (((((((V.setCell ⟨b, 0, none⟩ v0).setCell ⟨b, 1, none⟩ v1).setCell ⟨b, 2, none⟩ v2).setCell ⟨b, 3, none⟩ v3).setCell ⟨b, 4, none⟩ v4).setCell ⟨b, 5, none⟩ v5).setCell ⟨b, 6, none⟩ v6)) ∧
    (∀ (c0 c1 c2 c3 c4 c5 c6 c7 c8 : Value) (t : TypeId), V.heap[b]? = some (.cells #[c0, c1, c2, c3, c4, c5, c6, c7, c8] t (0, 0)) →
      (((((((V.setCell ⟨b, 0, none⟩ v0).setCell ⟨b, 1, none⟩ v1).setCell ⟨b, 2, none⟩ v2).setCell ⟨b, 3, none⟩ v3).setCell ⟨b, 4, none⟩ v4).setCell ⟨b, 5, none⟩ v5).setCell ⟨b, 6, none⟩ v6).heap[b]? = some (.cells #[v0, v1, v2, v3, v4, v5, v6, c7, c8] t (0, 0))) := by
  refine ⟨fun k hk => ?_, by simp [World.setCell], fun O w0 h hO => ((((((h.setCell hO _).setCell hO _).setCell hO _).setCell hO _).setCell hO _).setCell hO _).setCell hO _, fun c0 c1 c2 c3 c4 c5 c6 c7 c8 t h => ?_⟩
  · iterate 7 (rw [Below.heap_setCell _ _ _ _ (by exact hk)])
  · have h0 : (V.setCell ⟨b, 0, none⟩ v0).heap[b]? = some (.cells #[v0, c1, c2, c3, c4, c5, c6, c7, c8] t (0, 0)) := heap_set h v0
    have h1 : ((V.setCell ⟨b, 0, none⟩ v0).setCell ⟨b, 1, none⟩ v1).heap[b]? = some (.cells #[v0, v1, c2, c3, c4, c5, c6, c7, c8] t (0, 0)) := heap_set h0 v1
    have h2 : (((V.setCell ⟨b, 0, none⟩ v0).setCell ⟨b, 1, none⟩ v1).setCell ⟨b, 2, none⟩ v2).heap[b]? = some (.cells #[v0, v1, v2, c3, c4, c5, c6, c7, c8] t (0, 0)) := heap_set h1 v2
    have h3 : ((((V.setCell ⟨b, 0, none⟩ v0).setCell ⟨b, 1, none⟩ v1).setCell ⟨b, 2, none⟩ v2).setCell ⟨b, 3, none⟩ v3).heap[b]? = some (.cells #[v0, v1, v2, v3, c4, c5, c6, c7, c8] t (0, 0)) := heap_set h2 v3
    have h4 : (((((V.setCell ⟨b, 0, none⟩ v0).setCell ⟨b, 1, none⟩ v1).setCell ⟨b, 2, none⟩ v2).setCell ⟨b, 3, none⟩ v3).setCell ⟨b, 4, none⟩ v4).heap[b]? = some (.cells #[v0, v1, v2, v3, v4, c5, c6, c7, c8] t (0, 0)) := heap_set h3 v4
    have h5 : ((((((V.setCell ⟨b, 0, none⟩ v0).setCell ⟨b, 1, none⟩ v1).setCell ⟨b, 2, none⟩ v2).setCell ⟨b, 3, none⟩ v3).setCell ⟨b, 4, none⟩ v4).setCell ⟨b, 5, none⟩ v5).heap[b]? = some (.cells #[v0, v1, v2, v3, v4, v5, c6, c7, c8] t (0, 0)) := heap_set h4 v5
    have h6 : (((((((V.setCell ⟨b, 0, none⟩ v0).setCell ⟨b, 1, none⟩ v1).setCell ⟨b, 2, none⟩ v2).setCell ⟨b, 3, none⟩ v3).setCell ⟨b, 4, none⟩ v4).setCell ⟨b, 5, none⟩ v5).setCell ⟨b, 6, none⟩ v6).heap[b]? = some (.cells #[v0, v1, v2, v3, v4, v5, v6, c7, c8] t (0, 0)) := heap_set h5 v6
    exact h6
/-- Ahead of a yield: the step is laid in its box, its heads are taken. -/
structure PreY (g sb : Nat) (u0 v0 : Value) (xs0 ys0 : List Mv) (J : Nat → (Nat → Prop) → World → Prop) (O1 : Nat → Prop) (i j i' j' k : Nat) (e : St) (W : World) : Prop where
  sbc : W.heap[sb]? = some (.cells #[.int .i64 e.r.g.n, .int .i64 e.r.g.h0, .int .i64 e.r.g.h1, .int .i64 e.r.g.h2, .int .i64 e.r.g.h3, .int .i64 e.r.g.h4, .int .i64 e.r.f, .int .i64 e.x, .int .i64 e.y] 83 (0, 0))
  left : (mergeS xs0 ys0).drop k = e :: mergeS (xs0.drop i') (ys0.drop j')
  ix : i' ≤ xs0.length
  jy : j' ≤ ys0.length
  more : i + j < i' + j'
  xb : MBox W g (itT i' u0)
  yb : MBox W (g + 1) (itT j' v0)
  j : J k O1 W
theorem clash {w : World} {g b o : Nat} {v : Value} {n : Int} (h : MBox w g v) (hv : ∃ p n c, v = .slice p n c) (hc : w.cell? ⟨b, o, none⟩ = some (.int .i64 n)) : b ≠ g := by
  rintro rfl
  rw [cell_of_row w b o _ _ _ h] at hc
  obtain ⟨p, n', c, rfl⟩ := hv
  cases o with
  | zero => cases hc
  | succ k => cases hc
set_option maxRecDepth 16000 in
set_option maxHeartbeats 4000000 in
theorem steps_seq (xs0 ys0 : List Mv) (g : Nat) (u0 v0 : Value) :
    SeqX Try.prog 61 #[.pointer (some ⟨g, 0, none⟩), .pointer (some ⟨g + 1, 0, none⟩)] (fun W => MBox W g u0 ∧ MBox W (g + 1) v0) (fun k => k = g ∨ k = g + 1)
      (fun W => Row Mv.cells 8 W u0 xs0 ∧ Row Mv.cells 8 W v0 ys0) (mergeS xs0 ys0).length (fun i _O x _W => ∃ e, (mergeS xs0 ys0)[i]? = some e ∧ x = #[e.v]) := by
  intro lp J Jx W hD hJ hJx hY hI hO0 h0
  obtain ⟨O1, hO1⟩ : ∃ O1 : Nat → Prop, O1 = fun k => k = g ∨ k = g + 1 := ⟨_, rfl⟩
  rw [← hO1] at h0
  have HST : Hid (∃ i j k, SAt g u0 v0 xs0 ys0 J O1 i j k W) := ⟨0, 0, 0, rfl, by omega, by omega, by omega, hI.1, hI.2, h0⟩
  have HD := hide hD
  have HJ := hide hJ
  have HJX := hide hJx
  have HY := hide hY
  have HO1 := hide hO1
  have HGZ : Hid (g + 1 < W.heap.size) := hO0 _ (.inr rfl)
  clear hD hJ hJx hY h0 hO0 hI hO1
  refine callsIn_of_wp Try.func61 rfl trivial ?_ rfl
  simp only [Try.ntmps61, List.size_toArray, List.length_cons, List.length_nil, Nat.reduceAdd, Nat.reduceSub, Array.replicate_succ, Array.replicate_zero, List.push_toArray, List.append_toArray, List.nil_append, List.cons_append]
  gi_wp2_with fail
  gi_loopw [4] (fun _ wr => Hid (g + 1 < wr.heap.size ∧ ∃ i j k, SAt g u0 v0 xs0 ys0 J O1 i j k wr)) (fun _ wr => boxLen wr g + boxLen wr (g + 1))
  case atStart => exact ⟨HGZ.out, HST.out⟩
  case round =>
    clear HST HGZ
    obtain ⟨hgz, i, j, k, hS⟩ := hrel.out
    clear hrel
    obtain ⟨hDx, hDy⟩ := HD.out k O1 wr hS.j
    have HRX := hide (row_it hDx i hS.ix)
    have HRY := hide (row_it hDy j hS.jy)
    have HS := hide hS
    obtain ⟨xs, hxs⟩ : ∃ xs, xs0.drop i = xs := ⟨_, rfl⟩
    obtain ⟨ys, hys⟩ : ∃ ys, ys0.drop j = ys := ⟨_, rfl⟩
    rw [hxs] at HRX
    rw [hys] at HRY
    have hleft := hS.left
    rw [hxs, hys] at hleft
    have HLF := hide hleft
    have HXB := hide hS.xb
    have HYB := hide hS.yb
    obtain ⟨px, cx, hux, -⟩ := HRX.out.form_
    obtain ⟨py, cy, huy, -⟩ := HRY.out.form_
    rw [hux] at HRX HXB
    rw [huy] at HRY HYB
    have HUX := hide hux
    have HUY := hide huy
    have HXS := hide hxs
    have HYS := hide hys
    have cxc : wr.cell? ⟨g, 0, none⟩ = some (.slice px xs.length cx) := cell_of_row wr g 0 _ _ _ HXB.out
    have cyc : wr.cell? ⟨g + 1, 0, none⟩ = some (.slice py ys.length cy) := cell_of_row wr (g + 1) 0 _ _ _ HYB.out
    have hgz0 : g < wr.heap.size := by omega
    have HDX := hide hDx
    have HDY := hide hDy
    clear hDx hDy hS hxs hys hleft hux huy
    by_cases hend : xs.length = 0 ∧ ys.length = 0
    · obtain ⟨hx0, hy0⟩ := hend
      have hk : k = (mergeS xs0 ys0).length := by
        have h1 := HLF.out
        rw [List.length_eq_zero_iff.1 hx0, List.length_eq_zero_iff.1 hy0, show mergeS [] [] = [] by rw [mergeS]] at h1
        have := congrArg List.length h1
        rw [List.length_drop] at this
        have := HS.out.kl
        simp at *; omega
      have hj := HS.out.j
      rw [hk] at hj
      have HJN := hide hj
      rw [hx0] at cxc
      rw [hy0] at cyc
      clear hx0 hy0 hk hj
      gi_wp2_with fail
      exact bodyPost_end (results_none rfl _ _ _) rfl ⟨⟨_, rfl⟩, _, .inl HJN.out⟩
    have HEND := hide hend
    clear hend
    gi_upto_region 0 with fail
    gi_cut [13] from 6 (fun x V => x = .bool true ∧ wr = V)
    case first =>
      by_cases hx0 : xs.length = 0
      · have hy0 : 0 < ys.length := by have := HEND.out; omega
        rw [hx0] at cxc
        have hd : decide ((0 : Int) < (ys.length : Int)) = true := by rw [decide_eq_true_iff]; omega
        have hd' : decide (0 < ys.length) = true := by rw [decide_eq_true_iff]; omega
        clear hx0 hy0
        gi_wp2_with fail
        gi_meet
        exact ⟨rfl, rfl⟩
      · have hd : decide ((0 : Int) < (xs.length : Int)) = true := by rw [decide_eq_true_iff]; omega
        have hd' : decide (0 < xs.length) = true := by rw [decide_eq_true_iff]; omega
        clear hx0
        gi_wp2_with fail
        gi_meet
        exact ⟨rfl, rfl⟩
    case rest =>
    obtain ⟨rfl, rfl⟩ := hcut
    gi_upto_region 1 with fail
    iterate 8 gi_step
    gi_cut [4] from 14 (fun x V => ∃ od : Int, x = .int .i64 od ∧ Hid (OrdIs od xs ys) ∧ Hid (Ext wr V))
    case first =>
      cases hx : xs with
      | nil =>
        cases hy : ys with
        | nil => exact absurd ⟨by rw [hx]; rfl, by rw [hy]; rfl⟩ HEND.out
        | cons y ys' =>
          rw [hx] at cxc
          rw [hy] at cyc
          have hd : (((y :: ys').length : Int) == 0) = false := by rw [beq_eq_false_iff_ne, List.length_cons]; omega
          have hd2 : ((([] : List Mv).length : Int) == 0) = true := rfl
          generalize (y :: ys').length = ly at cyc hd
          generalize ([] : List Mv).length = lx at cxc hd2
          have HXE := hide hx
          have HYE := hide hy
          clear hx hy
          gi_wp2_with fail
          gi_meet
          exact ⟨1, rfl, by show OrdIs _ _ _; rw [HXE.out, HYE.out]; exact ordIs_y _ _, Ext.refl _⟩
      | cons x xs' =>
        cases hy : ys with
        | nil =>
          rw [hx] at cxc
          rw [hy] at cyc
          have hd2 : ((([] : List Mv).length : Int) == 0) = true := rfl
          generalize (x :: xs').length = lx at cxc
          generalize ([] : List Mv).length = ly at cyc hd2
          have HXE := hide hx
          have HYE := hide hy
          clear hx hy
          gi_wp2_with fail
          gi_meet
          exact ⟨-1, rfl, by show OrdIs _ _ _; rw [HXE.out, HYE.out]; exact ordIs_x _ _, Ext.refl _⟩
        | cons y ys' =>
          rw [hx] at cxc HRX
          rw [hy] at cyc HRY
          obtain ⟨b1, o1, c1, e1, -, -, hb1, x0, x1, x2, x3, x4, x5, x6, x7⟩ := HRX.out.mv0
          obtain ⟨b2, o2, c2, e2, -, -, hb2, y0, y1, y2, y3, y4, y5, y6, y7⟩ := HRY.out.mv0
          rw [e1] at cxc
          rw [e2] at cyc
          have hd : (((xs'.length + 1 : Nat) : Int) == 0) = false := by rw [beq_eq_false_iff_ne]; omega
          have hd2 : (((ys'.length + 1 : Nat) : Int) == 0) = false := by rw [beq_eq_false_iff_ne]; omega
          have hl1 : (0 : Int) < ((xs'.length + 1 : Nat) : Int) := by omega
          have hl2 : (0 : Int) < ((ys'.length + 1 : Nat) : Int) := by omega
          have HCM := hide (fun W => rcompare_any x.r y.r W)
          have HOI := hide (ordIs_c x xs' y ys')
          generalize rcmp x.r y.r = od at HCM HOI
          generalize xs'.length + 1 = lx at cxc hd hl1
          generalize ys'.length + 1 = ly at cyc hd2 hl2
          have HXE := hide hx
          have HYE := hide hy
          clear hx hy e1 e2
          gi_wp2_with fail
          refine (wpIn_wide (n := 0)).2 ?_
          refine wp_region_ext (by kernel_rfl) (by kernel_rfl) ?_
          repeat (go_big_quiet_step ((go_at_call 62; exact Calls.ext_of (HCM.out _))))
          refine wpQuiet_nil ?_
          rintro w9 ⟨⟨_, hE9⟩, rfl⟩
          gi_wp2_with fail
          gi_meet
          exact ⟨od, rfl, by show OrdIs _ _ _; rw [HXE.out, HYE.out]; exact HOI.out, hE9⟩
    case rest =>
    obtain ⟨od, rfl, HOI, HEV⟩ := hcut
    obtain ⟨V, rfl⟩ : ∃ V, V = wc := ⟨_, rfl⟩
    clear cxc cyc
    have HXB := hide (HXB.out.ext HEV.out)
    have HYB := hide (HYB.out.ext HEV.out)
    have HRX := hide (HRX.out.ext HEV.out)
    have HRY := hide (HRY.out.ext HEV.out)
    obtain ⟨V7, hV7⟩ : ∃ V7, V.alloc (.cells #[.int .i64 0, .int .i64 0, .int .i64 0, .int .i64 0, .int .i64 0, .int .i64 0, .int .i64 0, .int .i64 (-1), .int .i64 (-1)] 83) = V7 := ⟨_, rfl⟩
    have HE7 : Hid (Ext V V7) := by show Ext _ _; rw [← hV7]; exact (Ext.refl V).alloc _
    obtain ⟨s0, hs0⟩ : ∃ s0 : Int, s0 = 0 := ⟨_, rfl⟩
    have HSB : Hid (V7.heap[V.heap.size]? = some (.cells #[.int .i64 s0, .int .i64 s0, .int .i64 s0, .int .i64 s0, .int .i64 s0, .int .i64 s0, .int .i64 s0, .int .i64 (-1), .int .i64 (-1)] 83 (0, 0))) := by show _ = _; rw [← hV7, hs0]; exact heap_alloc_new V _
    clear hs0
    have HV7 := hide hV7
    obtain ⟨sb, hsb⟩ : ∃ sb, V.heap.size = sb := ⟨_, rfl⟩
    have HGS : Hid (g + 1 < sb) := by
      show _ < _
      rw [← hsb]
      exact lt_of_heap HYB.out
    have HXB := hide (HXB.out.ext HE7.out)
    have HYB := hide (HYB.out.ext HE7.out)
    have HEA := hide HE7.out
    have HE7 := hide (HEV.out.trans HE7.out)
    have HSZ := hide hsb
    have HWZ : Hid (wr.heap.size ≤ sb) := by show _ ≤ _; rw [← hsb]; exact HEV.out.size
    rw [hsb] at HSB
    have HVZ := hide (show sb < V7.heap.size from lt_of_heap HSB.out)
    clear hsb hV7
    rcases HOI.out with ⟨rfl, x0, x', hx, hm⟩ | ⟨rfl, y0, y', hy, hm⟩ | ⟨rfl, x0, x', y0, y', hx, hy, hm⟩
    · have HM := hide hm
      clear hm
      rw [hx] at HRX HXB
      obtain ⟨bqx, ox, cx', e1x, -, -, hbx, q0, q1, q2, q3, q4, q5, q6, q7⟩ := HRX.out.mv0
      rw [e1x] at HXB
      have hct : x'.length + 1 ≤ cx' ∧ cx' ≤ 9223372036854775807 := by
        obtain ⟨_, _, e2, h1, h2, _⟩ := HRX.out
        rw [e1x] at e2
        injection e2 with _ e3 e4
        rw [← e4] at h1 h2
        rw [List.length_cons] at h1
        exact ⟨h1, h2.1⟩
      have q0 := (HEA.out.cell hbx).trans q0
      have q1 := (HEA.out.cell hbx).trans q1
      have q2 := (HEA.out.cell hbx).trans q2
      have q3 := (HEA.out.cell hbx).trans q3
      have q4 := (HEA.out.cell hbx).trans q4
      have q5 := (HEA.out.cell hbx).trans q5
      have q6 := (HEA.out.cell hbx).trans q6
      have q7 := (HEA.out.cell hbx).trans q7
      have hn : bqx ≠ sb := by have := HSZ.out; omega
      have hz : bqx < V7.heap.size := by have := HSZ.out; have := HVZ.out; omega
      have HCLX := hide hct
      have HXC := hide (And.intro q0 (And.intro q1 (And.intro q2 (And.intro q3 (And.intro q4 (And.intro q5 (And.intro q6 q7)))))))
      have HBXZ := hide hz
      have HXN := hide hn
      have HTLX : Hid (itT (i + 1) u0 = tailV 8 (.slice (some ⟨bqx, ox, none⟩) (x'.length + 1) cx')) := by
        show tailV 8 (itT i u0) = _
        rw [HUX.out, hx, e1x]
      obtain ⟨hd1, -, hd2⟩ := drop_cons (HXS.out.trans hx)
      have HDRX := hide (And.intro hd1 hd2)
      clear e1x hbx hn hz hct q0 q1 q2 q3 q4 q5 q6 q7 hd1 hd2
      clear hx
      gi_upto_region 9 with fail
      rw [HV7.out, HSZ.out]
      have hc1 := HCLX.out.1
      have hc2 := HCLX.out.2
      refine (wpIn_wide (n := 0)).2 ?_
      refine wp_region_heldB (fun Z : World => Z.heap[g]? = V7.heap[g]? ∧ Z.heap[bqx]? = V7.heap[bqx]?) (fun j => decide (j = 15)) (by kernel_rfl) ?_
      intro V7d hV7d
      have hEd : Ext V7 V7d := by rw [hV7d]; exact (Ext.refl _).drew
      have hSd : V7d.heap[g]? = V7.heap[g]? ∧ V7d.heap[bqx]? = V7.heap[bqx]? := ⟨hEd.b.block _ (lt_of_heap HXB.out), hEd.b.block _ HBXZ.out⟩
      clear hV7d
      obtain ⟨q0, q1, q2, q3, q4, q5, q6, q7⟩ := HXC.out
      have hbx : V7.cell? ⟨g, 0, none⟩ = some (.slice (some ⟨bqx, ox, none⟩) (x'.length + 1) cx') := cell_of_row V7 (g) 0 _ _ _ HXB.out
      have hGB : ∀ Z : World, Z.heap[g]? = V7.heap[g]? → Z.cell? ⟨g, 0, none⟩ = some (.slice (some ⟨bqx, ox, none⟩) (x'.length + 1) cx') := fun Z hZ => (World.cell?_of_block (a := ⟨g, 0, none⟩) hZ).trans hbx
      have hXR : ∀ (Z : World) (j : Nat) (v : Value), Z.heap[bqx]? = V7.heap[bqx]? → V7.cell? ⟨bqx, j, none⟩ = some v → Z.cell? ⟨bqx, j, none⟩ = some v := fun Z j v hZ h => (World.cell?_of_block (a := ⟨bqx, j, none⟩) hZ).trans h
      have HGB := hide hGB
      have HXR := hide hXR
      have HQ := hide (And.intro q0 (And.intro q1 (And.intro q2 (And.intro q3 (And.intro q4 (And.intro q5 (And.intro q6 q7)))))))
      have hl0 : (0 : Int) < ((x'.length + 1 : Nat) : Int) := by omega
      have hl1 : (1 : Int) ≤ ((x'.length + 1 : Nat) : Int) := by omega
      clear hGB hXR q0 q1 q2 q3 q4 q5 q6 q7 hbx
      refine wpAnyT_takeB (i := 0) (.slice (some ⟨bqx, ox, none⟩) (x'.length + 1) cx') rfl (by kernel_rfl) (fun j hj => by obtain rfl := of_decide_eq_true hj; kernel_rfl) (by kernel_rfl) (by kernel_rfl) (by simp [Region.wanted]) (fun Z hZ => by
        have := HGB.out Z hZ.1
        go_simp) hSd ?_
      try simp only [Act.put, List.getElem_toArray, List.getElem_cons_zero, List.setIfInBounds_toArray, List.set_cons_zero, List.set_cons_succ]
      refine wpAnyT_takeB (i := 1) (.pointer (some ⟨bqx, ox, none⟩)) rfl (by kernel_rfl) (fun j hj => by obtain rfl := of_decide_eq_true hj; kernel_rfl) (by kernel_rfl) (by kernel_rfl) (by simp [Region.wanted]) (fun Z hZ => by
        go_simp) hSd ?_
      try simp only [Act.put, List.getElem_toArray, List.setIfInBounds_toArray]
      refine wpAnyT_takeB (i := 2) (.pointer (some ⟨bqx, ox, none⟩)) rfl (by kernel_rfl) (fun j hj => by obtain rfl := of_decide_eq_true hj; kernel_rfl) (by kernel_rfl) (by kernel_rfl) (by simp [Region.wanted]) (fun Z hZ => by
        go_simp) hSd ?_
      try simp only [Act.put, List.getElem_toArray]
      refine wpAnyT_takeB (i := 3) (.agg #[.int .i64 x0.r.g.n, .int .i64 x0.r.g.h0, .int .i64 x0.r.g.h1, .int .i64 x0.r.g.h2, .int .i64 x0.r.g.h3, .int .i64 x0.r.g.h4, .int .i64 x0.r.f]) rfl (by kernel_rfl) (fun j hj => by obtain rfl := of_decide_eq_true hj; kernel_rfl) (by kernel_rfl) (by kernel_rfl) (by simp [Region.wanted]) (fun Z hZ => by
        obtain ⟨q0, q1, q2, q3, q4, q5, q6, q7⟩ := HQ.out
        have r0 := HXR.out Z _ _ hZ.2 q0
        have r1 := HXR.out Z _ _ hZ.2 q1
        have r2 := HXR.out Z _ _ hZ.2 q2
        have r3 := HXR.out Z _ _ hZ.2 q3
        have r4 := HXR.out Z _ _ hZ.2 q4
        have r5 := HXR.out Z _ _ hZ.2 q5
        have r6 := HXR.out Z _ _ hZ.2 q6
        go_simp) hSd ?_
      try simp only [Act.put, List.getElem_toArray]
      refine wpAnyT_takeB (i := 4) (.slice (some ⟨bqx, ox, none⟩) (x'.length + 1) cx') rfl (by kernel_rfl) (fun j hj => by obtain rfl := of_decide_eq_true hj; kernel_rfl) (by kernel_rfl) (by kernel_rfl) (by simp [Region.wanted]) (fun Z hZ => by
        have := HGB.out Z hZ.1
        go_simp) hSd ?_
      try simp only [Act.put, List.getElem_toArray]
      refine wpAnyT_takeB (i := 5) (.pointer (some ⟨bqx, ox, none⟩)) rfl (by kernel_rfl) (fun j hj => by obtain rfl := of_decide_eq_true hj; kernel_rfl) (by kernel_rfl) (by kernel_rfl) (by simp [Region.wanted]) (fun Z hZ => by
        go_simp) hSd ?_
      try simp only [Act.put, List.getElem_toArray]
      refine wpAnyT_takeB (i := 6) (.pointer (some ⟨bqx, ox + 7, none⟩)) rfl (by kernel_rfl) (fun j hj => by obtain rfl := of_decide_eq_true hj; kernel_rfl) (by kernel_rfl) (by kernel_rfl) (by simp [Region.wanted]) (fun Z hZ => by
        go_simp) hSd ?_
      try simp only [Act.put, List.getElem_toArray]
      refine wpAnyT_takeB (i := 7) (.int .i64 x0.to) rfl (by kernel_rfl) (fun j hj => by obtain rfl := of_decide_eq_true hj; kernel_rfl) (by kernel_rfl) (by kernel_rfl) (by simp [Region.wanted]) (fun Z hZ => by
        obtain ⟨q0, q1, q2, q3, q4, q5, q6, q7⟩ := HQ.out
        have r7 := HXR.out Z _ _ hZ.2 q7
        go_simp) hSd ?_
      try simp only [Act.put, List.getElem_toArray]
      refine wpAnyT_takeB (i := 8) (.slice (some ⟨bqx, ox, none⟩) (x'.length + 1) cx') rfl (by kernel_rfl) (fun j hj => by obtain rfl := of_decide_eq_true hj; kernel_rfl) (by kernel_rfl) (by kernel_rfl) (by simp [Region.wanted]) (fun Z hZ => by
        have := HGB.out Z hZ.1
        go_simp) hSd ?_
      try simp only [Act.put, List.getElem_toArray]
      refine wpAnyT_takeB (i := 9) (tailV 8 (.slice (some ⟨bqx, ox, none⟩) (x'.length + 1) cx')) rfl (by kernel_rfl) (fun j hj => by obtain rfl := of_decide_eq_true hj; kernel_rfl) (by kernel_rfl) (by kernel_rfl) (by simp [Region.wanted]) (fun Z hZ => by
        by_cases hc9 : cx' = 1
        · subst hc9
          obtain rfl : x' = [] := List.length_eq_zero_iff.1 (by omega)
          go_simp
          rfl
        · go_simp
          simp [tailV]
          rw [if_pos (by omega), if_neg hc9]) hSd ?_
      try simp only [Act.put, List.getElem_toArray]
      refine wpAnyT_takeB (i := 10) (.pointer (some ⟨sb, 0, none⟩)) rfl (by kernel_rfl) (fun j hj => by obtain rfl := of_decide_eq_true hj; kernel_rfl) (by kernel_rfl) (by kernel_rfl) (by simp [Region.wanted]) (fun Z hZ => by
        go_simp) hSd ?_
      try simp only [Act.put, List.getElem_toArray]
      refine wpAnyT_takeB (i := 12) (.pointer (some ⟨sb, 7, none⟩)) rfl (by kernel_rfl) (fun j hj => by obtain rfl := of_decide_eq_true hj; kernel_rfl) (by kernel_rfl) (by kernel_rfl) (by simp [Region.wanted]) (fun Z hZ => by
        go_simp) hSd ?_
      try simp only [Act.put, List.getElem_toArray]
      have hSBd : V7d.heap[sb]? = some (.cells #[.int .i64 s0, .int .i64 s0, .int .i64 s0, .int .i64 s0, .int .i64 s0, .int .i64 s0, .int .i64 s0, .int .i64 (-1), .int .i64 (-1)] 83 (0, 0)) := (hEd.b.block _ (lt_of_heap HSB.out)).trans HSB.out
      have hsbz := lt_of_heap hSBd
      have k0 := dcell hSBd 0
      have k1 := dcell hSBd 1
      have k2 := dcell hSBd 2
      have k3 := dcell hSBd 3
      have k4 := dcell hSBd 4
      have k5 := dcell hSBd 5
      have k6 := dcell hSBd 6
      have f0 := frozen_of (j := 0) hSBd
      have f1 := frozen_of (j := 1) hSBd
      have f2 := frozen_of (j := 2) hSBd
      have f3 := frozen_of (j := 3) hSBd
      have f4 := frozen_of (j := 4) hSBd
      have f5 := frozen_of (j := 5) hSBd
      have f6 := frozen_of (j := 6) hSBd
      have HSBD := hide hSBd
      clear hSBd
      refine wpAnyT_oneB (i := 11) rfl (by kernel_rfl) (fun KK hKK => ?_)
      go_wp2_with fail
      have HN7 := hide (seven V7d sb (.int .i64 x0.r.g.n) (.int .i64 x0.r.g.h0) (.int .i64 x0.r.g.h1) (.int .i64 x0.r.g.h2) (.int .i64 x0.r.g.h3) (.int .i64 x0.r.g.h4) (.int .i64 x0.r.f))
      obtain ⟨V9a, hw⟩ : ∃ V, V = (((((((V7d.setCell ⟨sb, 0, none⟩ (.int .i64 x0.r.g.n)).setCell ⟨sb, 1, none⟩ (.int .i64 x0.r.g.h0)).setCell ⟨sb, 2, none⟩ (.int .i64 x0.r.g.h1)).setCell ⟨sb, 3, none⟩ (.int .i64 x0.r.g.h2)).setCell ⟨sb, 4, none⟩ (.int .i64 x0.r.g.h3)).setCell ⟨sb, 5, none⟩ (.int .i64 x0.r.g.h4)).setCell ⟨sb, 6, none⟩ (.int .i64 x0.r.f)) := ⟨_, rfl⟩
      rw [← hw] at HN7 ⊢
      clear hw k0 k1 k2 k3 k4 k5 k6 f0 f1 f2 f3 f4 f5 f6
      obtain ⟨n1, n2, n3, n4⟩ := HN7.out
      have hT7 : V9a.heap[g]? = V7.heap[g]? ∧ V9a.heap[bqx]? = V7.heap[bqx]? := ⟨(n1 _ (by have := HGS.out; omega)).trans hSd.1, (n1 _ HXN.out).trans hSd.2⟩
      have HSB7 := hide (n4 _ _ _ _ _ _ _ _ _ _ HSBD.out)
      have HOT : Hid (∀ k, k ≠ sb → k < V7.heap.size → V9a.heap[k]? = V7.heap[k]?) := fun k hk hz => (n1 k hk).trans (hEd.b.block _ hz)
      have HOF : Hid (Off (fun k => k = sb ∨ k = g) V7 V9a) := n3 (fun k => k = sb ∨ k = g) _ (Off.of_ext hEd) (.inl rfl)
      clear n1 n2 n3 n4 HN7 HSBD hEd
      refine ⟨rfl, hKK _ _ (fun _ => hT7) ?_⟩
      clear hKK KK hSd hsbz
      try simp only [Act.put, List.getElem_toArray, List.getElem_cons_zero, List.setIfInBounds_toArray, List.set_cons_zero, List.set_cons_succ]
      refine wpAnyT_takeB (i := 13) (.pointer (some ⟨sb, 7, none⟩)) rfl (by kernel_rfl) (fun j hj => by obtain rfl := of_decide_eq_true hj; kernel_rfl) (by kernel_rfl) (by kernel_rfl) (by simp [Region.wanted]) (fun Z hZ => by
        go_simp) hT7 ?_
      try simp only [Act.put, List.getElem_toArray, List.setIfInBounds_toArray]
      have k7 := dcell HSB7.out 7
      have f7 := frozen_of (j := 7) HSB7.out
      have hsbz := lt_of_heap HSB7.out
      refine wpAnyT_oneB (i := 14) rfl (by kernel_rfl) (fun KK hKK => ?_)
      go_wp2_with fail
      refine ⟨rfl, hKK _ _ (fun _ => ⟨(Below.heap_setCell _ _ _ _ (by show g ≠ sb; have := HGS.out; omega)).trans hT7.1, (Below.heap_setCell _ _ _ _ HXN.out).trans hT7.2⟩) ?_⟩
      clear hKK KK k7 f7 hsbz
      try simp only [Act.put, List.getElem_toArray, List.getElem_cons_zero, List.setIfInBounds_toArray, List.set_cons_zero, List.set_cons_succ]
      have HSB8 : Hid ((V9a.setCell ⟨sb, 7, none⟩ (.int .i64 x0.to)).heap[sb]? = some (.cells #[.int .i64 x0.r.g.n, .int .i64 x0.r.g.h0, .int .i64 x0.r.g.h1, .int .i64 x0.r.g.h2, .int .i64 x0.r.g.h3, .int .i64 x0.r.g.h4, .int .i64 x0.r.f, .int .i64 x0.to, .int .i64 (-1)] 83 (0, 0))) := heap_set HSB7.out _
      have HMB8 : Hid (MBox (V9a.setCell ⟨sb, 7, none⟩ (.int .i64 x0.to)) (g) (.slice (some ⟨bqx, ox, none⟩) (x'.length + 1) cx')) := (Below.heap_setCell _ _ _ _ (by show g ≠ sb; have := HGS.out; omega)).trans (hT7.1.trans HXB.out)
      have HOT8 : Hid (∀ k, k ≠ sb → k < V7.heap.size → (V9a.setCell ⟨sb, 7, none⟩ (.int .i64 x0.to)).heap[k]? = V7.heap[k]?) := fun k hk hz => (Below.heap_setCell _ _ _ _ hk).trans (HOT.out k hk hz)
      have HOF8 : Hid (Off (fun k => k = sb ∨ k = g) V7 (V9a.setCell ⟨sb, 7, none⟩ (.int .i64 x0.to))) := HOF.out.setCell (.inl rfl) _
      generalize V9a.setCell ⟨sb, 7, none⟩ (.int .i64 x0.to) = V9b at HSB8 HMB8 HOT8 HOF8 ⊢
      clear HSB7 HOT HOF hT7
      obtain ⟨tp, tn, tc, htl⟩ : ∃ p n c, tailV 8 (.slice (some ⟨bqx, ox, none⟩) (x'.length + 1) cx') = Value.slice p n c := ⟨_, _, _, rfl⟩
      rw [htl]
      have HTV := hide htl
      clear htl
      have kg := dcell HMB8.out 0
      have fg := frozen_of (j := 0) HMB8.out
      have gz := lt_of_heap HMB8.out
      refine wpAnyT_oneB (i := 15) rfl (by kernel_rfl) (fun KK hKK => ?_)
      go_wp2_with fail
      refine ⟨rfl, hKK _ _ (fun h => by cases h) ?_⟩
      clear hKK KK kg fg gz hl0 hl1
      have HSB : Hid ((V9b.setCell ⟨g, 0, none⟩ (.slice tp tn tc)).heap[sb]? = some (.cells #[.int .i64 x0.r.g.n, .int .i64 x0.r.g.h0, .int .i64 x0.r.g.h1, .int .i64 x0.r.g.h2, .int .i64 x0.r.g.h3, .int .i64 x0.r.g.h4, .int .i64 x0.r.f, .int .i64 x0.to, .int .i64 (-1)] 83 (0, 0))) := (Below.heap_setCell _ _ _ _ (by show sb ≠ g; have := HGS.out; omega)).trans HSB8.out
      have HXB : Hid (MBox (V9b.setCell ⟨g, 0, none⟩ (.slice tp tn tc)) (g) (.slice tp tn tc)) := HMB8.out.set _
      have HOT : Hid (∀ k, k ≠ sb → k ≠ g → k < V7.heap.size → (V9b.setCell ⟨g, 0, none⟩ (.slice tp tn tc)).heap[k]? = V7.heap[k]?) := fun k hk hk2 hz => (Below.heap_setCell _ _ _ _ hk2).trans (HOT8.out k hk hz)
      have HOF : Hid (Off (fun k => k = sb ∨ k = g) V7 (V9b.setCell ⟨g, 0, none⟩ (.slice tp tn tc))) := HOF8.out.setCell (.inr rfl) _
      refine wpAnyT_done (by kernel_rfl) ?_ _
      generalize V9b.setCell ⟨g, 0, none⟩ (.slice tp tn tc) = V9 at HSB HXB HOT HOF ⊢
      have HXB : Hid (MBox V9 (g) (tailV 8 (.slice (some ⟨bqx, ox, none⟩) (x'.length + 1) cx'))) := by
        show MBox _ _ _
        rw [HTV.out]
        exact HXB.out
      clear HSB8 HMB8 HOT8 HOF8 HGB HXR HQ HTV
      clear hc1 hc2
      obtain ⟨e, i', j', hP⟩ : ∃ e i' j', PreY g sb u0 v0 xs0 ys0 J O1 i j i' j' k e V9 := by
        refine ⟨⟨x0.r, x0.to, -1⟩, i + 1, j, ⟨HSB.out, ?_, by have := HDRX.out.1; omega, HS.out.jy, by omega, ?_, ?_, ?_⟩⟩
        · rw [HLF.out, HM.out, HDRX.out.2, HYS.out]
        · rw [HTLX.out]; exact HXB.out
        · rw [HUY.out]
          exact (HOT.out (g + 1) (by have := HGS.out; omega) (by omega) (lt_of_heap HYB.out)).trans HYB.out
        · exact HJ.out k O1 O1 _ _ HS.out.j (((Off.of_ext HE7.out).trans HOF.out).mono (fun b hb h => by
            rcases h with rfl | rfl
            · exact absurd hb (by have := HWZ.out; omega)
            · rw [HO1.out]; exact .inl rfl)) (Grow.same (fun b hb => by rw [HO1.out] at hb; rcases hb with rfl | rfl <;> omega) (Nat.le_trans HE7.out.size HOF.out.size))
      have HPP := hide hP
      have hpp := HPP.out
      have hpk := (drop_cons hpp.left)
      have HRE : Hid _ := hide hpk
      have c0 := dcell hpp.sbc 0
      have c1 := dcell hpp.sbc 1
      have c2 := dcell hpp.sbc 2
      have c3 := dcell hpp.sbc 3
      have c4 := dcell hpp.sbc 4
      have c5 := dcell hpp.sbc 5
      have c6 := dcell hpp.sbc 6
      have c7 := dcell hpp.sbc 7
      have c8 := dcell hpp.sbc 8
      have sz := lt_of_heap hpp.sbc
      have hg0 := lt_of_heap hpp.xb
      have hg1 := lt_of_heap hpp.yb
      have hOz : ∀ k, O1 k → k < V9.heap.size := fun k hk => by
        rw [HO1.out] at hk
        rcases hk with rfl | rfl <;> assumption
      obtain ⟨fn, tmps, assign, body, hy, hR⟩ := HY.out k #[e.v] O1 V9 hpk.1 ⟨e, hpk.2.1, rfl⟩ hpp.j hOz
      have HR := hide hR
      have HOZ := hide hOz
      clear hR hOz hpp hpk
      gi_wp2_with fail
      refine ⟨rfl, HR.out.mono ?_⟩
      rintro e9 W' ⟨⟨hko, hsz⟩, (⟨rfl, hJ'⟩ | ⟨rfl, hJx'⟩)⟩
      · have HJ9 := hide hJ'
        have HX9 : Hid (MBox W' g (itT i' u0)) := (hko g (by rw [HO1.out]; exact .inl rfl)).trans HPP.out.xb
        have HY9 : Hid (MBox W' (g + 1) (itT j' v0)) := (hko (g + 1) (by rw [HO1.out]; exact .inr rfl)).trans HPP.out.yb
        have HMS : Hid (boxLen W' g + boxLen W' (g + 1) < boxLen wr g + boxLen wr (g + 1)) := by
          have bl : ∀ (W : World) (b n : Nat) (v : Value) (zs : List Mv), MBox W b (itT n v) → Row Mv.cells 8 wr v zs → n ≤ zs.length → boxLen W b = zs.length - n := fun W b n v zs h hr hn => by
            obtain ⟨_, _, hu, _⟩ := (row_it hr n hn).form_
            rw [hu] at h
            rw [h.len, List.length_drop]
          show _ < _
          rw [bl _ _ _ _ _ HX9.out HDX.out HPP.out.ix, bl _ _ _ _ _ HY9.out HDY.out HPP.out.jy, bl _ _ _ _ _ HS.out.xb HDX.out HS.out.ix, bl _ _ _ _ _ HS.out.yb HDY.out HS.out.jy]
          have := HPP.out.more
          have := HPP.out.ix
          have := HPP.out.jy
          omega
        clear hJ' hko hsz
        gi_wp2_with fail
        exact ⟨⟨lt_of_heap HY9.out, i', j', k + 1, ⟨HRE.out.2.2, HRE.out.1, HPP.out.ix, HPP.out.jy, HX9.out, HY9.out, HJ9.out⟩⟩, HMS.out⟩
      · have HJ3 := hide hJx'
        clear hJx' hko hsz
        gi_wp2_with fail
        exact bodyPost_ret (results_none rfl _ _ _) rfl ⟨⟨_, rfl⟩, _, .inr HJ3.out⟩
    · have HM := hide hm
      clear hm
      rw [hy] at HRY HYB
      obtain ⟨bqy, oy, cy', e1y, -, -, hby, q0, q1, q2, q3, q4, q5, q6, q7⟩ := HRY.out.mv0
      rw [e1y] at HYB
      have hct : y'.length + 1 ≤ cy' ∧ cy' ≤ 9223372036854775807 := by
        obtain ⟨_, _, e2, h1, h2, _⟩ := HRY.out
        rw [e1y] at e2
        injection e2 with _ e3 e4
        rw [← e4] at h1 h2
        rw [List.length_cons] at h1
        exact ⟨h1, h2.1⟩
      have q0 := (HEA.out.cell hby).trans q0
      have q1 := (HEA.out.cell hby).trans q1
      have q2 := (HEA.out.cell hby).trans q2
      have q3 := (HEA.out.cell hby).trans q3
      have q4 := (HEA.out.cell hby).trans q4
      have q5 := (HEA.out.cell hby).trans q5
      have q6 := (HEA.out.cell hby).trans q6
      have q7 := (HEA.out.cell hby).trans q7
      have hn : bqy ≠ sb := by have := HSZ.out; omega
      have hz : bqy < V7.heap.size := by have := HSZ.out; have := HVZ.out; omega
      have HCLY := hide hct
      have HYC := hide (And.intro q0 (And.intro q1 (And.intro q2 (And.intro q3 (And.intro q4 (And.intro q5 (And.intro q6 q7)))))))
      have HBYZ := hide hz
      have HYN := hide hn
      have HTLY : Hid (itT (j + 1) v0 = tailV 8 (.slice (some ⟨bqy, oy, none⟩) (y'.length + 1) cy')) := by
        show tailV 8 (itT j v0) = _
        rw [HUY.out, hy, e1y]
      obtain ⟨hd1, -, hd2⟩ := drop_cons (HYS.out.trans hy)
      have HDRY := hide (And.intro hd1 hd2)
      clear e1y hby hn hz hct q0 q1 q2 q3 q4 q5 q6 q7 hd1 hd2
      clear hy
      gi_upto_region 11 with fail
      rw [HV7.out, HSZ.out]
      have hc1 := HCLY.out.1
      have hc2 := HCLY.out.2
      refine (wpIn_wide (n := 0)).2 ?_
      refine wp_region_heldB (fun Z : World => Z.heap[g + 1]? = V7.heap[g + 1]? ∧ Z.heap[bqy]? = V7.heap[bqy]?) (fun j => decide (j = 15)) (by kernel_rfl) ?_
      intro V7d hV7d
      have hEd : Ext V7 V7d := by rw [hV7d]; exact (Ext.refl _).drew
      have hSd : V7d.heap[g + 1]? = V7.heap[g + 1]? ∧ V7d.heap[bqy]? = V7.heap[bqy]? := ⟨hEd.b.block _ (lt_of_heap HYB.out), hEd.b.block _ HBYZ.out⟩
      clear hV7d
      obtain ⟨q0, q1, q2, q3, q4, q5, q6, q7⟩ := HYC.out
      have hbx : V7.cell? ⟨g + 1, 0, none⟩ = some (.slice (some ⟨bqy, oy, none⟩) (y'.length + 1) cy') := cell_of_row V7 (g + 1) 0 _ _ _ HYB.out
      have hGB : ∀ Z : World, Z.heap[g + 1]? = V7.heap[g + 1]? → Z.cell? ⟨g + 1, 0, none⟩ = some (.slice (some ⟨bqy, oy, none⟩) (y'.length + 1) cy') := fun Z hZ => (World.cell?_of_block (a := ⟨g + 1, 0, none⟩) hZ).trans hbx
      have hXR : ∀ (Z : World) (j : Nat) (v : Value), Z.heap[bqy]? = V7.heap[bqy]? → V7.cell? ⟨bqy, j, none⟩ = some v → Z.cell? ⟨bqy, j, none⟩ = some v := fun Z j v hZ h => (World.cell?_of_block (a := ⟨bqy, j, none⟩) hZ).trans h
      have HGB := hide hGB
      have HXR := hide hXR
      have HQ := hide (And.intro q0 (And.intro q1 (And.intro q2 (And.intro q3 (And.intro q4 (And.intro q5 (And.intro q6 q7)))))))
      have hl0 : (0 : Int) < ((y'.length + 1 : Nat) : Int) := by omega
      have hl1 : (1 : Int) ≤ ((y'.length + 1 : Nat) : Int) := by omega
      clear hGB hXR q0 q1 q2 q3 q4 q5 q6 q7 hbx
      refine wpAnyT_takeB (i := 0) (.slice (some ⟨bqy, oy, none⟩) (y'.length + 1) cy') rfl (by kernel_rfl) (fun j hj => by obtain rfl := of_decide_eq_true hj; kernel_rfl) (by kernel_rfl) (by kernel_rfl) (by simp [Region.wanted]) (fun Z hZ => by
        have := HGB.out Z hZ.1
        go_simp) hSd ?_
      try simp only [Act.put, List.getElem_toArray, List.getElem_cons_zero, List.setIfInBounds_toArray, List.set_cons_zero, List.set_cons_succ]
      refine wpAnyT_takeB (i := 1) (.pointer (some ⟨bqy, oy, none⟩)) rfl (by kernel_rfl) (fun j hj => by obtain rfl := of_decide_eq_true hj; kernel_rfl) (by kernel_rfl) (by kernel_rfl) (by simp [Region.wanted]) (fun Z hZ => by
        go_simp) hSd ?_
      try simp only [Act.put, List.getElem_toArray, List.setIfInBounds_toArray]
      refine wpAnyT_takeB (i := 2) (.pointer (some ⟨bqy, oy, none⟩)) rfl (by kernel_rfl) (fun j hj => by obtain rfl := of_decide_eq_true hj; kernel_rfl) (by kernel_rfl) (by kernel_rfl) (by simp [Region.wanted]) (fun Z hZ => by
        go_simp) hSd ?_
      try simp only [Act.put, List.getElem_toArray]
      refine wpAnyT_takeB (i := 3) (.agg #[.int .i64 y0.r.g.n, .int .i64 y0.r.g.h0, .int .i64 y0.r.g.h1, .int .i64 y0.r.g.h2, .int .i64 y0.r.g.h3, .int .i64 y0.r.g.h4, .int .i64 y0.r.f]) rfl (by kernel_rfl) (fun j hj => by obtain rfl := of_decide_eq_true hj; kernel_rfl) (by kernel_rfl) (by kernel_rfl) (by simp [Region.wanted]) (fun Z hZ => by
        obtain ⟨q0, q1, q2, q3, q4, q5, q6, q7⟩ := HQ.out
        have r0 := HXR.out Z _ _ hZ.2 q0
        have r1 := HXR.out Z _ _ hZ.2 q1
        have r2 := HXR.out Z _ _ hZ.2 q2
        have r3 := HXR.out Z _ _ hZ.2 q3
        have r4 := HXR.out Z _ _ hZ.2 q4
        have r5 := HXR.out Z _ _ hZ.2 q5
        have r6 := HXR.out Z _ _ hZ.2 q6
        go_simp) hSd ?_
      try simp only [Act.put, List.getElem_toArray]
      refine wpAnyT_takeB (i := 4) (.slice (some ⟨bqy, oy, none⟩) (y'.length + 1) cy') rfl (by kernel_rfl) (fun j hj => by obtain rfl := of_decide_eq_true hj; kernel_rfl) (by kernel_rfl) (by kernel_rfl) (by simp [Region.wanted]) (fun Z hZ => by
        have := HGB.out Z hZ.1
        go_simp) hSd ?_
      try simp only [Act.put, List.getElem_toArray]
      refine wpAnyT_takeB (i := 5) (.pointer (some ⟨bqy, oy, none⟩)) rfl (by kernel_rfl) (fun j hj => by obtain rfl := of_decide_eq_true hj; kernel_rfl) (by kernel_rfl) (by kernel_rfl) (by simp [Region.wanted]) (fun Z hZ => by
        go_simp) hSd ?_
      try simp only [Act.put, List.getElem_toArray]
      refine wpAnyT_takeB (i := 6) (.pointer (some ⟨bqy, oy + 7, none⟩)) rfl (by kernel_rfl) (fun j hj => by obtain rfl := of_decide_eq_true hj; kernel_rfl) (by kernel_rfl) (by kernel_rfl) (by simp [Region.wanted]) (fun Z hZ => by
        go_simp) hSd ?_
      try simp only [Act.put, List.getElem_toArray]
      refine wpAnyT_takeB (i := 7) (.int .i64 y0.to) rfl (by kernel_rfl) (fun j hj => by obtain rfl := of_decide_eq_true hj; kernel_rfl) (by kernel_rfl) (by kernel_rfl) (by simp [Region.wanted]) (fun Z hZ => by
        obtain ⟨q0, q1, q2, q3, q4, q5, q6, q7⟩ := HQ.out
        have r7 := HXR.out Z _ _ hZ.2 q7
        go_simp) hSd ?_
      try simp only [Act.put, List.getElem_toArray]
      refine wpAnyT_takeB (i := 8) (.slice (some ⟨bqy, oy, none⟩) (y'.length + 1) cy') rfl (by kernel_rfl) (fun j hj => by obtain rfl := of_decide_eq_true hj; kernel_rfl) (by kernel_rfl) (by kernel_rfl) (by simp [Region.wanted]) (fun Z hZ => by
        have := HGB.out Z hZ.1
        go_simp) hSd ?_
      try simp only [Act.put, List.getElem_toArray]
      refine wpAnyT_takeB (i := 9) (tailV 8 (.slice (some ⟨bqy, oy, none⟩) (y'.length + 1) cy')) rfl (by kernel_rfl) (fun j hj => by obtain rfl := of_decide_eq_true hj; kernel_rfl) (by kernel_rfl) (by kernel_rfl) (by simp [Region.wanted]) (fun Z hZ => by
        by_cases hc9 : cy' = 1
        · subst hc9
          obtain rfl : y' = [] := List.length_eq_zero_iff.1 (by omega)
          go_simp
          rfl
        · go_simp
          simp [tailV]
          rw [if_pos (by omega), if_neg hc9]) hSd ?_
      try simp only [Act.put, List.getElem_toArray]
      refine wpAnyT_takeB (i := 10) (.pointer (some ⟨sb, 0, none⟩)) rfl (by kernel_rfl) (fun j hj => by obtain rfl := of_decide_eq_true hj; kernel_rfl) (by kernel_rfl) (by kernel_rfl) (by simp [Region.wanted]) (fun Z hZ => by
        go_simp) hSd ?_
      try simp only [Act.put, List.getElem_toArray]
      refine wpAnyT_takeB (i := 12) (.pointer (some ⟨sb, 7, none⟩)) rfl (by kernel_rfl) (fun j hj => by obtain rfl := of_decide_eq_true hj; kernel_rfl) (by kernel_rfl) (by kernel_rfl) (by simp [Region.wanted]) (fun Z hZ => by
        go_simp) hSd ?_
      try simp only [Act.put, List.getElem_toArray]
      have hSBd : V7d.heap[sb]? = some (.cells #[.int .i64 s0, .int .i64 s0, .int .i64 s0, .int .i64 s0, .int .i64 s0, .int .i64 s0, .int .i64 s0, .int .i64 (-1), .int .i64 (-1)] 83 (0, 0)) := (hEd.b.block _ (lt_of_heap HSB.out)).trans HSB.out
      have hsbz := lt_of_heap hSBd
      have k0 := dcell hSBd 0
      have k1 := dcell hSBd 1
      have k2 := dcell hSBd 2
      have k3 := dcell hSBd 3
      have k4 := dcell hSBd 4
      have k5 := dcell hSBd 5
      have k6 := dcell hSBd 6
      have f0 := frozen_of (j := 0) hSBd
      have f1 := frozen_of (j := 1) hSBd
      have f2 := frozen_of (j := 2) hSBd
      have f3 := frozen_of (j := 3) hSBd
      have f4 := frozen_of (j := 4) hSBd
      have f5 := frozen_of (j := 5) hSBd
      have f6 := frozen_of (j := 6) hSBd
      have HSBD := hide hSBd
      clear hSBd
      refine wpAnyT_oneB (i := 11) rfl (by kernel_rfl) (fun KK hKK => ?_)
      go_wp2_with fail
      have HN7 := hide (seven V7d sb (.int .i64 y0.r.g.n) (.int .i64 y0.r.g.h0) (.int .i64 y0.r.g.h1) (.int .i64 y0.r.g.h2) (.int .i64 y0.r.g.h3) (.int .i64 y0.r.g.h4) (.int .i64 y0.r.f))
      obtain ⟨V9a, hw⟩ : ∃ V, V = (((((((V7d.setCell ⟨sb, 0, none⟩ (.int .i64 y0.r.g.n)).setCell ⟨sb, 1, none⟩ (.int .i64 y0.r.g.h0)).setCell ⟨sb, 2, none⟩ (.int .i64 y0.r.g.h1)).setCell ⟨sb, 3, none⟩ (.int .i64 y0.r.g.h2)).setCell ⟨sb, 4, none⟩ (.int .i64 y0.r.g.h3)).setCell ⟨sb, 5, none⟩ (.int .i64 y0.r.g.h4)).setCell ⟨sb, 6, none⟩ (.int .i64 y0.r.f)) := ⟨_, rfl⟩
      rw [← hw] at HN7 ⊢
      clear hw k0 k1 k2 k3 k4 k5 k6 f0 f1 f2 f3 f4 f5 f6
      obtain ⟨n1, n2, n3, n4⟩ := HN7.out
      have hT7 : V9a.heap[g + 1]? = V7.heap[g + 1]? ∧ V9a.heap[bqy]? = V7.heap[bqy]? := ⟨(n1 _ (by have := HGS.out; omega)).trans hSd.1, (n1 _ HYN.out).trans hSd.2⟩
      have HSB7 := hide (n4 _ _ _ _ _ _ _ _ _ _ HSBD.out)
      have HOT : Hid (∀ k, k ≠ sb → k < V7.heap.size → V9a.heap[k]? = V7.heap[k]?) := fun k hk hz => (n1 k hk).trans (hEd.b.block _ hz)
      have HOF : Hid (Off (fun k => k = sb ∨ k = g + 1) V7 V9a) := n3 (fun k => k = sb ∨ k = g + 1) _ (Off.of_ext hEd) (.inl rfl)
      clear n1 n2 n3 n4 HN7 HSBD hEd
      refine ⟨rfl, hKK _ _ (fun _ => hT7) ?_⟩
      clear hKK KK hSd hsbz
      try simp only [Act.put, List.getElem_toArray, List.getElem_cons_zero, List.setIfInBounds_toArray, List.set_cons_zero, List.set_cons_succ]
      refine wpAnyT_takeB (i := 13) (.pointer (some ⟨sb, 8, none⟩)) rfl (by kernel_rfl) (fun j hj => by obtain rfl := of_decide_eq_true hj; kernel_rfl) (by kernel_rfl) (by kernel_rfl) (by simp [Region.wanted]) (fun Z hZ => by
        go_simp) hT7 ?_
      try simp only [Act.put, List.getElem_toArray, List.setIfInBounds_toArray]
      have k7 := dcell HSB7.out 8
      have f7 := frozen_of (j := 8) HSB7.out
      have hsbz := lt_of_heap HSB7.out
      refine wpAnyT_oneB (i := 14) rfl (by kernel_rfl) (fun KK hKK => ?_)
      go_wp2_with fail
      refine ⟨rfl, hKK _ _ (fun _ => ⟨(Below.heap_setCell _ _ _ _ (by show g + 1 ≠ sb; have := HGS.out; omega)).trans hT7.1, (Below.heap_setCell _ _ _ _ HYN.out).trans hT7.2⟩) ?_⟩
      clear hKK KK k7 f7 hsbz
      try simp only [Act.put, List.getElem_toArray, List.getElem_cons_zero, List.setIfInBounds_toArray, List.set_cons_zero, List.set_cons_succ]
      have HSB8 : Hid ((V9a.setCell ⟨sb, 8, none⟩ (.int .i64 y0.to)).heap[sb]? = some (.cells #[.int .i64 y0.r.g.n, .int .i64 y0.r.g.h0, .int .i64 y0.r.g.h1, .int .i64 y0.r.g.h2, .int .i64 y0.r.g.h3, .int .i64 y0.r.g.h4, .int .i64 y0.r.f, .int .i64 (-1), .int .i64 y0.to] 83 (0, 0))) := heap_set HSB7.out _
      have HMB8 : Hid (MBox (V9a.setCell ⟨sb, 8, none⟩ (.int .i64 y0.to)) (g + 1) (.slice (some ⟨bqy, oy, none⟩) (y'.length + 1) cy')) := (Below.heap_setCell _ _ _ _ (by show g + 1 ≠ sb; have := HGS.out; omega)).trans (hT7.1.trans HYB.out)
      have HOT8 : Hid (∀ k, k ≠ sb → k < V7.heap.size → (V9a.setCell ⟨sb, 8, none⟩ (.int .i64 y0.to)).heap[k]? = V7.heap[k]?) := fun k hk hz => (Below.heap_setCell _ _ _ _ hk).trans (HOT.out k hk hz)
      have HOF8 : Hid (Off (fun k => k = sb ∨ k = g + 1) V7 (V9a.setCell ⟨sb, 8, none⟩ (.int .i64 y0.to))) := HOF.out.setCell (.inl rfl) _
      generalize V9a.setCell ⟨sb, 8, none⟩ (.int .i64 y0.to) = V9b at HSB8 HMB8 HOT8 HOF8 ⊢
      clear HSB7 HOT HOF hT7
      obtain ⟨tp, tn, tc, htl⟩ : ∃ p n c, tailV 8 (.slice (some ⟨bqy, oy, none⟩) (y'.length + 1) cy') = Value.slice p n c := ⟨_, _, _, rfl⟩
      rw [htl]
      have HTV := hide htl
      clear htl
      have kg := dcell HMB8.out 0
      have fg := frozen_of (j := 0) HMB8.out
      have gz := lt_of_heap HMB8.out
      refine wpAnyT_oneB (i := 15) rfl (by kernel_rfl) (fun KK hKK => ?_)
      go_wp2_with fail
      refine ⟨rfl, hKK _ _ (fun h => by cases h) ?_⟩
      clear hKK KK kg fg gz hl0 hl1
      have HSB : Hid ((V9b.setCell ⟨g + 1, 0, none⟩ (.slice tp tn tc)).heap[sb]? = some (.cells #[.int .i64 y0.r.g.n, .int .i64 y0.r.g.h0, .int .i64 y0.r.g.h1, .int .i64 y0.r.g.h2, .int .i64 y0.r.g.h3, .int .i64 y0.r.g.h4, .int .i64 y0.r.f, .int .i64 (-1), .int .i64 y0.to] 83 (0, 0))) := (Below.heap_setCell _ _ _ _ (by show sb ≠ g + 1; have := HGS.out; omega)).trans HSB8.out
      have HYB : Hid (MBox (V9b.setCell ⟨g + 1, 0, none⟩ (.slice tp tn tc)) (g + 1) (.slice tp tn tc)) := HMB8.out.set _
      have HOT : Hid (∀ k, k ≠ sb → k ≠ g + 1 → k < V7.heap.size → (V9b.setCell ⟨g + 1, 0, none⟩ (.slice tp tn tc)).heap[k]? = V7.heap[k]?) := fun k hk hk2 hz => (Below.heap_setCell _ _ _ _ hk2).trans (HOT8.out k hk hz)
      have HOF : Hid (Off (fun k => k = sb ∨ k = g + 1) V7 (V9b.setCell ⟨g + 1, 0, none⟩ (.slice tp tn tc))) := HOF8.out.setCell (.inr rfl) _
      refine wpAnyT_done (by kernel_rfl) ?_ _
      generalize V9b.setCell ⟨g + 1, 0, none⟩ (.slice tp tn tc) = V9 at HSB HYB HOT HOF ⊢
      have HYB : Hid (MBox V9 (g + 1) (tailV 8 (.slice (some ⟨bqy, oy, none⟩) (y'.length + 1) cy'))) := by
        show MBox _ _ _
        rw [HTV.out]
        exact HYB.out
      clear HSB8 HMB8 HOT8 HOF8 HGB HXR HQ HTV
      clear hc1 hc2
      obtain ⟨e, i', j', hP⟩ : ∃ e i' j', PreY g sb u0 v0 xs0 ys0 J O1 i j i' j' k e V9 := by
        refine ⟨⟨y0.r, -1, y0.to⟩, i, j + 1, ⟨HSB.out, ?_, HS.out.ix, by have := HDRY.out.1; omega, by omega, ?_, ?_, ?_⟩⟩
        · rw [HLF.out, HM.out, HDRY.out.2, HXS.out]
        · rw [HUX.out]
          exact (HOT.out g (by have := HGS.out; omega) (by omega) (lt_of_heap HXB.out)).trans HXB.out
        · rw [HTLY.out]; exact HYB.out
        · exact HJ.out k O1 O1 _ _ HS.out.j (((Off.of_ext HE7.out).trans HOF.out).mono (fun b hb h => by
            rcases h with rfl | rfl
            · exact absurd hb (by have := HWZ.out; omega)
            · rw [HO1.out]; exact .inr rfl)) (Grow.same (fun b hb => by rw [HO1.out] at hb; rcases hb with rfl | rfl <;> omega) (Nat.le_trans HE7.out.size HOF.out.size))
      have HPP := hide hP
      have hpp := HPP.out
      have hpk := (drop_cons hpp.left)
      have HRE : Hid _ := hide hpk
      have c0 := dcell hpp.sbc 0
      have c1 := dcell hpp.sbc 1
      have c2 := dcell hpp.sbc 2
      have c3 := dcell hpp.sbc 3
      have c4 := dcell hpp.sbc 4
      have c5 := dcell hpp.sbc 5
      have c6 := dcell hpp.sbc 6
      have c7 := dcell hpp.sbc 7
      have c8 := dcell hpp.sbc 8
      have sz := lt_of_heap hpp.sbc
      have hg0 := lt_of_heap hpp.xb
      have hg1 := lt_of_heap hpp.yb
      have hOz : ∀ k, O1 k → k < V9.heap.size := fun k hk => by
        rw [HO1.out] at hk
        rcases hk with rfl | rfl <;> assumption
      obtain ⟨fn, tmps, assign, body, hy, hR⟩ := HY.out k #[e.v] O1 V9 hpk.1 ⟨e, hpk.2.1, rfl⟩ hpp.j hOz
      have HR := hide hR
      have HOZ := hide hOz
      clear hR hOz hpp hpk
      gi_wp2_with fail
      refine ⟨rfl, HR.out.mono ?_⟩
      rintro e9 W' ⟨⟨hko, hsz⟩, (⟨rfl, hJ'⟩ | ⟨rfl, hJx'⟩)⟩
      · have HJ9 := hide hJ'
        have HX9 : Hid (MBox W' g (itT i' u0)) := (hko g (by rw [HO1.out]; exact .inl rfl)).trans HPP.out.xb
        have HY9 : Hid (MBox W' (g + 1) (itT j' v0)) := (hko (g + 1) (by rw [HO1.out]; exact .inr rfl)).trans HPP.out.yb
        have HMS : Hid (boxLen W' g + boxLen W' (g + 1) < boxLen wr g + boxLen wr (g + 1)) := by
          have bl : ∀ (W : World) (b n : Nat) (v : Value) (zs : List Mv), MBox W b (itT n v) → Row Mv.cells 8 wr v zs → n ≤ zs.length → boxLen W b = zs.length - n := fun W b n v zs h hr hn => by
            obtain ⟨_, _, hu, _⟩ := (row_it hr n hn).form_
            rw [hu] at h
            rw [h.len, List.length_drop]
          show _ < _
          rw [bl _ _ _ _ _ HX9.out HDX.out HPP.out.ix, bl _ _ _ _ _ HY9.out HDY.out HPP.out.jy, bl _ _ _ _ _ HS.out.xb HDX.out HS.out.ix, bl _ _ _ _ _ HS.out.yb HDY.out HS.out.jy]
          have := HPP.out.more
          have := HPP.out.ix
          have := HPP.out.jy
          omega
        clear hJ' hko hsz
        gi_wp2_with fail
        exact ⟨⟨lt_of_heap HY9.out, i', j', k + 1, ⟨HRE.out.2.2, HRE.out.1, HPP.out.ix, HPP.out.jy, HX9.out, HY9.out, HJ9.out⟩⟩, HMS.out⟩
      · have HJ3 := hide hJx'
        clear hJx' hko hsz
        gi_wp2_with fail
        exact bodyPost_ret (results_none rfl _ _ _) rfl ⟨⟨_, rfl⟩, _, .inr HJ3.out⟩
    · have HM := hide hm
      clear hm
      rw [hx] at HRX HXB
      obtain ⟨bqx, ox, cx', e1x, -, -, hbx, q0, q1, q2, q3, q4, q5, q6, q7⟩ := HRX.out.mv0
      rw [e1x] at HXB
      have hct : x'.length + 1 ≤ cx' ∧ cx' ≤ 9223372036854775807 := by
        obtain ⟨_, _, e2, h1, h2, _⟩ := HRX.out
        rw [e1x] at e2
        injection e2 with _ e3 e4
        rw [← e4] at h1 h2
        rw [List.length_cons] at h1
        exact ⟨h1, h2.1⟩
      have q0 := (HEA.out.cell hbx).trans q0
      have q1 := (HEA.out.cell hbx).trans q1
      have q2 := (HEA.out.cell hbx).trans q2
      have q3 := (HEA.out.cell hbx).trans q3
      have q4 := (HEA.out.cell hbx).trans q4
      have q5 := (HEA.out.cell hbx).trans q5
      have q6 := (HEA.out.cell hbx).trans q6
      have q7 := (HEA.out.cell hbx).trans q7
      have hn : bqx ≠ sb := by have := HSZ.out; omega
      have hz : bqx < V7.heap.size := by have := HSZ.out; have := HVZ.out; omega
      have HCLX := hide hct
      have HXC := hide (And.intro q0 (And.intro q1 (And.intro q2 (And.intro q3 (And.intro q4 (And.intro q5 (And.intro q6 q7)))))))
      have HBXZ := hide hz
      have HXN := hide hn
      have HTLX : Hid (itT (i + 1) u0 = tailV 8 (.slice (some ⟨bqx, ox, none⟩) (x'.length + 1) cx')) := by
        show tailV 8 (itT i u0) = _
        rw [HUX.out, hx, e1x]
      obtain ⟨hd1, -, hd2⟩ := drop_cons (HXS.out.trans hx)
      have HDRX := hide (And.intro hd1 hd2)
      clear e1x hbx hn hz hct q0 q1 q2 q3 q4 q5 q6 q7 hd1 hd2
      rw [hy] at HRY HYB
      obtain ⟨bqy, oy, cy', e1y, -, -, hby, q0, q1, q2, q3, q4, q5, q6, q7⟩ := HRY.out.mv0
      rw [e1y] at HYB
      have hct : y'.length + 1 ≤ cy' ∧ cy' ≤ 9223372036854775807 := by
        obtain ⟨_, _, e2, h1, h2, _⟩ := HRY.out
        rw [e1y] at e2
        injection e2 with _ e3 e4
        rw [← e4] at h1 h2
        rw [List.length_cons] at h1
        exact ⟨h1, h2.1⟩
      have q0 := (HEA.out.cell hby).trans q0
      have q1 := (HEA.out.cell hby).trans q1
      have q2 := (HEA.out.cell hby).trans q2
      have q3 := (HEA.out.cell hby).trans q3
      have q4 := (HEA.out.cell hby).trans q4
      have q5 := (HEA.out.cell hby).trans q5
      have q6 := (HEA.out.cell hby).trans q6
      have q7 := (HEA.out.cell hby).trans q7
      have hn : bqy ≠ sb := by have := HSZ.out; omega
      have hz : bqy < V7.heap.size := by have := HSZ.out; have := HVZ.out; omega
      have HCLY := hide hct
      have HYC := hide (And.intro q0 (And.intro q1 (And.intro q2 (And.intro q3 (And.intro q4 (And.intro q5 (And.intro q6 q7)))))))
      have HBYZ := hide hz
      have HYN := hide hn
      have HTLY : Hid (itT (j + 1) v0 = tailV 8 (.slice (some ⟨bqy, oy, none⟩) (y'.length + 1) cy')) := by
        show tailV 8 (itT j v0) = _
        rw [HUY.out, hy, e1y]
      obtain ⟨hd1, -, hd2⟩ := drop_cons (HYS.out.trans hy)
      have HDRY := hide (And.intro hd1 hd2)
      clear e1y hby hn hz hct q0 q1 q2 q3 q4 q5 q6 q7 hd1 hd2
      clear hx hy
      have HXB7 := hide HXB.out
      gi_upto_region 9 with fail
      rw [HV7.out, HSZ.out]
      have hc1 := HCLX.out.1
      have hc2 := HCLX.out.2
      refine (wpIn_wide (n := 0)).2 ?_
      refine wp_region_heldB (fun Z : World => Z.heap[g]? = V7.heap[g]? ∧ Z.heap[bqx]? = V7.heap[bqx]?) (fun j => decide (j = 15)) (by kernel_rfl) ?_
      intro V7d hV7d
      have hEd : Ext V7 V7d := by rw [hV7d]; exact (Ext.refl _).drew
      have hSd : V7d.heap[g]? = V7.heap[g]? ∧ V7d.heap[bqx]? = V7.heap[bqx]? := ⟨hEd.b.block _ (lt_of_heap HXB.out), hEd.b.block _ HBXZ.out⟩
      clear hV7d
      obtain ⟨q0, q1, q2, q3, q4, q5, q6, q7⟩ := HXC.out
      have hbx : V7.cell? ⟨g, 0, none⟩ = some (.slice (some ⟨bqx, ox, none⟩) (x'.length + 1) cx') := cell_of_row V7 (g) 0 _ _ _ HXB.out
      have hGB : ∀ Z : World, Z.heap[g]? = V7.heap[g]? → Z.cell? ⟨g, 0, none⟩ = some (.slice (some ⟨bqx, ox, none⟩) (x'.length + 1) cx') := fun Z hZ => (World.cell?_of_block (a := ⟨g, 0, none⟩) hZ).trans hbx
      have hXR : ∀ (Z : World) (j : Nat) (v : Value), Z.heap[bqx]? = V7.heap[bqx]? → V7.cell? ⟨bqx, j, none⟩ = some v → Z.cell? ⟨bqx, j, none⟩ = some v := fun Z j v hZ h => (World.cell?_of_block (a := ⟨bqx, j, none⟩) hZ).trans h
      have HGB := hide hGB
      have HXR := hide hXR
      have HQ := hide (And.intro q0 (And.intro q1 (And.intro q2 (And.intro q3 (And.intro q4 (And.intro q5 (And.intro q6 q7)))))))
      have hl0 : (0 : Int) < ((x'.length + 1 : Nat) : Int) := by omega
      have hl1 : (1 : Int) ≤ ((x'.length + 1 : Nat) : Int) := by omega
      clear hGB hXR q0 q1 q2 q3 q4 q5 q6 q7 hbx
      refine wpAnyT_takeB (i := 0) (.slice (some ⟨bqx, ox, none⟩) (x'.length + 1) cx') rfl (by kernel_rfl) (fun j hj => by obtain rfl := of_decide_eq_true hj; kernel_rfl) (by kernel_rfl) (by kernel_rfl) (by simp [Region.wanted]) (fun Z hZ => by
        have := HGB.out Z hZ.1
        go_simp) hSd ?_
      try simp only [Act.put, List.getElem_toArray, List.getElem_cons_zero, List.setIfInBounds_toArray, List.set_cons_zero, List.set_cons_succ]
      refine wpAnyT_takeB (i := 1) (.pointer (some ⟨bqx, ox, none⟩)) rfl (by kernel_rfl) (fun j hj => by obtain rfl := of_decide_eq_true hj; kernel_rfl) (by kernel_rfl) (by kernel_rfl) (by simp [Region.wanted]) (fun Z hZ => by
        go_simp) hSd ?_
      try simp only [Act.put, List.getElem_toArray, List.setIfInBounds_toArray]
      refine wpAnyT_takeB (i := 2) (.pointer (some ⟨bqx, ox, none⟩)) rfl (by kernel_rfl) (fun j hj => by obtain rfl := of_decide_eq_true hj; kernel_rfl) (by kernel_rfl) (by kernel_rfl) (by simp [Region.wanted]) (fun Z hZ => by
        go_simp) hSd ?_
      try simp only [Act.put, List.getElem_toArray]
      refine wpAnyT_takeB (i := 3) (.agg #[.int .i64 x0.r.g.n, .int .i64 x0.r.g.h0, .int .i64 x0.r.g.h1, .int .i64 x0.r.g.h2, .int .i64 x0.r.g.h3, .int .i64 x0.r.g.h4, .int .i64 x0.r.f]) rfl (by kernel_rfl) (fun j hj => by obtain rfl := of_decide_eq_true hj; kernel_rfl) (by kernel_rfl) (by kernel_rfl) (by simp [Region.wanted]) (fun Z hZ => by
        obtain ⟨q0, q1, q2, q3, q4, q5, q6, q7⟩ := HQ.out
        have r0 := HXR.out Z _ _ hZ.2 q0
        have r1 := HXR.out Z _ _ hZ.2 q1
        have r2 := HXR.out Z _ _ hZ.2 q2
        have r3 := HXR.out Z _ _ hZ.2 q3
        have r4 := HXR.out Z _ _ hZ.2 q4
        have r5 := HXR.out Z _ _ hZ.2 q5
        have r6 := HXR.out Z _ _ hZ.2 q6
        go_simp) hSd ?_
      try simp only [Act.put, List.getElem_toArray]
      refine wpAnyT_takeB (i := 4) (.slice (some ⟨bqx, ox, none⟩) (x'.length + 1) cx') rfl (by kernel_rfl) (fun j hj => by obtain rfl := of_decide_eq_true hj; kernel_rfl) (by kernel_rfl) (by kernel_rfl) (by simp [Region.wanted]) (fun Z hZ => by
        have := HGB.out Z hZ.1
        go_simp) hSd ?_
      try simp only [Act.put, List.getElem_toArray]
      refine wpAnyT_takeB (i := 5) (.pointer (some ⟨bqx, ox, none⟩)) rfl (by kernel_rfl) (fun j hj => by obtain rfl := of_decide_eq_true hj; kernel_rfl) (by kernel_rfl) (by kernel_rfl) (by simp [Region.wanted]) (fun Z hZ => by
        go_simp) hSd ?_
      try simp only [Act.put, List.getElem_toArray]
      refine wpAnyT_takeB (i := 6) (.pointer (some ⟨bqx, ox + 7, none⟩)) rfl (by kernel_rfl) (fun j hj => by obtain rfl := of_decide_eq_true hj; kernel_rfl) (by kernel_rfl) (by kernel_rfl) (by simp [Region.wanted]) (fun Z hZ => by
        go_simp) hSd ?_
      try simp only [Act.put, List.getElem_toArray]
      refine wpAnyT_takeB (i := 7) (.int .i64 x0.to) rfl (by kernel_rfl) (fun j hj => by obtain rfl := of_decide_eq_true hj; kernel_rfl) (by kernel_rfl) (by kernel_rfl) (by simp [Region.wanted]) (fun Z hZ => by
        obtain ⟨q0, q1, q2, q3, q4, q5, q6, q7⟩ := HQ.out
        have r7 := HXR.out Z _ _ hZ.2 q7
        go_simp) hSd ?_
      try simp only [Act.put, List.getElem_toArray]
      refine wpAnyT_takeB (i := 8) (.slice (some ⟨bqx, ox, none⟩) (x'.length + 1) cx') rfl (by kernel_rfl) (fun j hj => by obtain rfl := of_decide_eq_true hj; kernel_rfl) (by kernel_rfl) (by kernel_rfl) (by simp [Region.wanted]) (fun Z hZ => by
        have := HGB.out Z hZ.1
        go_simp) hSd ?_
      try simp only [Act.put, List.getElem_toArray]
      refine wpAnyT_takeB (i := 9) (tailV 8 (.slice (some ⟨bqx, ox, none⟩) (x'.length + 1) cx')) rfl (by kernel_rfl) (fun j hj => by obtain rfl := of_decide_eq_true hj; kernel_rfl) (by kernel_rfl) (by kernel_rfl) (by simp [Region.wanted]) (fun Z hZ => by
        by_cases hc9 : cx' = 1
        · subst hc9
          obtain rfl : x' = [] := List.length_eq_zero_iff.1 (by omega)
          go_simp
          rfl
        · go_simp
          simp [tailV]
          rw [if_pos (by omega), if_neg hc9]) hSd ?_
      try simp only [Act.put, List.getElem_toArray]
      refine wpAnyT_takeB (i := 10) (.pointer (some ⟨sb, 0, none⟩)) rfl (by kernel_rfl) (fun j hj => by obtain rfl := of_decide_eq_true hj; kernel_rfl) (by kernel_rfl) (by kernel_rfl) (by simp [Region.wanted]) (fun Z hZ => by
        go_simp) hSd ?_
      try simp only [Act.put, List.getElem_toArray]
      refine wpAnyT_takeB (i := 12) (.pointer (some ⟨sb, 7, none⟩)) rfl (by kernel_rfl) (fun j hj => by obtain rfl := of_decide_eq_true hj; kernel_rfl) (by kernel_rfl) (by kernel_rfl) (by simp [Region.wanted]) (fun Z hZ => by
        go_simp) hSd ?_
      try simp only [Act.put, List.getElem_toArray]
      have hSBd : V7d.heap[sb]? = some (.cells #[.int .i64 s0, .int .i64 s0, .int .i64 s0, .int .i64 s0, .int .i64 s0, .int .i64 s0, .int .i64 s0, .int .i64 (-1), .int .i64 (-1)] 83 (0, 0)) := (hEd.b.block _ (lt_of_heap HSB.out)).trans HSB.out
      have hsbz := lt_of_heap hSBd
      have k0 := dcell hSBd 0
      have k1 := dcell hSBd 1
      have k2 := dcell hSBd 2
      have k3 := dcell hSBd 3
      have k4 := dcell hSBd 4
      have k5 := dcell hSBd 5
      have k6 := dcell hSBd 6
      have f0 := frozen_of (j := 0) hSBd
      have f1 := frozen_of (j := 1) hSBd
      have f2 := frozen_of (j := 2) hSBd
      have f3 := frozen_of (j := 3) hSBd
      have f4 := frozen_of (j := 4) hSBd
      have f5 := frozen_of (j := 5) hSBd
      have f6 := frozen_of (j := 6) hSBd
      have HSBD := hide hSBd
      clear hSBd
      refine wpAnyT_oneB (i := 11) rfl (by kernel_rfl) (fun KK hKK => ?_)
      go_wp2_with fail
      have HN7 := hide (seven V7d sb (.int .i64 x0.r.g.n) (.int .i64 x0.r.g.h0) (.int .i64 x0.r.g.h1) (.int .i64 x0.r.g.h2) (.int .i64 x0.r.g.h3) (.int .i64 x0.r.g.h4) (.int .i64 x0.r.f))
      obtain ⟨V8a, hw⟩ : ∃ V, V = (((((((V7d.setCell ⟨sb, 0, none⟩ (.int .i64 x0.r.g.n)).setCell ⟨sb, 1, none⟩ (.int .i64 x0.r.g.h0)).setCell ⟨sb, 2, none⟩ (.int .i64 x0.r.g.h1)).setCell ⟨sb, 3, none⟩ (.int .i64 x0.r.g.h2)).setCell ⟨sb, 4, none⟩ (.int .i64 x0.r.g.h3)).setCell ⟨sb, 5, none⟩ (.int .i64 x0.r.g.h4)).setCell ⟨sb, 6, none⟩ (.int .i64 x0.r.f)) := ⟨_, rfl⟩
      rw [← hw] at HN7 ⊢
      clear hw k0 k1 k2 k3 k4 k5 k6 f0 f1 f2 f3 f4 f5 f6
      obtain ⟨n1, n2, n3, n4⟩ := HN7.out
      have hT7 : V8a.heap[g]? = V7.heap[g]? ∧ V8a.heap[bqx]? = V7.heap[bqx]? := ⟨(n1 _ (by have := HGS.out; omega)).trans hSd.1, (n1 _ HXN.out).trans hSd.2⟩
      have HSB7 := hide (n4 _ _ _ _ _ _ _ _ _ _ HSBD.out)
      have HOT : Hid (∀ k, k ≠ sb → k < V7.heap.size → V8a.heap[k]? = V7.heap[k]?) := fun k hk hz => (n1 k hk).trans (hEd.b.block _ hz)
      have HOF : Hid (Off (fun k => k = sb ∨ k = g) V7 V8a) := n3 (fun k => k = sb ∨ k = g) _ (Off.of_ext hEd) (.inl rfl)
      clear n1 n2 n3 n4 HN7 HSBD hEd
      refine ⟨rfl, hKK _ _ (fun _ => hT7) ?_⟩
      clear hKK KK hSd hsbz
      try simp only [Act.put, List.getElem_toArray, List.getElem_cons_zero, List.setIfInBounds_toArray, List.set_cons_zero, List.set_cons_succ]
      refine wpAnyT_takeB (i := 13) (.pointer (some ⟨sb, 7, none⟩)) rfl (by kernel_rfl) (fun j hj => by obtain rfl := of_decide_eq_true hj; kernel_rfl) (by kernel_rfl) (by kernel_rfl) (by simp [Region.wanted]) (fun Z hZ => by
        go_simp) hT7 ?_
      try simp only [Act.put, List.getElem_toArray, List.setIfInBounds_toArray]
      have k7 := dcell HSB7.out 7
      have f7 := frozen_of (j := 7) HSB7.out
      have hsbz := lt_of_heap HSB7.out
      refine wpAnyT_oneB (i := 14) rfl (by kernel_rfl) (fun KK hKK => ?_)
      go_wp2_with fail
      refine ⟨rfl, hKK _ _ (fun _ => ⟨(Below.heap_setCell _ _ _ _ (by show g ≠ sb; have := HGS.out; omega)).trans hT7.1, (Below.heap_setCell _ _ _ _ HXN.out).trans hT7.2⟩) ?_⟩
      clear hKK KK k7 f7 hsbz
      try simp only [Act.put, List.getElem_toArray, List.getElem_cons_zero, List.setIfInBounds_toArray, List.set_cons_zero, List.set_cons_succ]
      have HSB8 : Hid ((V8a.setCell ⟨sb, 7, none⟩ (.int .i64 x0.to)).heap[sb]? = some (.cells #[.int .i64 x0.r.g.n, .int .i64 x0.r.g.h0, .int .i64 x0.r.g.h1, .int .i64 x0.r.g.h2, .int .i64 x0.r.g.h3, .int .i64 x0.r.g.h4, .int .i64 x0.r.f, .int .i64 x0.to, .int .i64 (-1)] 83 (0, 0))) := heap_set HSB7.out _
      have HMB8 : Hid (MBox (V8a.setCell ⟨sb, 7, none⟩ (.int .i64 x0.to)) (g) (.slice (some ⟨bqx, ox, none⟩) (x'.length + 1) cx')) := (Below.heap_setCell _ _ _ _ (by show g ≠ sb; have := HGS.out; omega)).trans (hT7.1.trans HXB.out)
      have HOT8 : Hid (∀ k, k ≠ sb → k < V7.heap.size → (V8a.setCell ⟨sb, 7, none⟩ (.int .i64 x0.to)).heap[k]? = V7.heap[k]?) := fun k hk hz => (Below.heap_setCell _ _ _ _ hk).trans (HOT.out k hk hz)
      have HOF8 : Hid (Off (fun k => k = sb ∨ k = g) V7 (V8a.setCell ⟨sb, 7, none⟩ (.int .i64 x0.to))) := HOF.out.setCell (.inl rfl) _
      generalize V8a.setCell ⟨sb, 7, none⟩ (.int .i64 x0.to) = V8b at HSB8 HMB8 HOT8 HOF8 ⊢
      clear HSB7 HOT HOF hT7
      obtain ⟨tp, tn, tc, htl⟩ : ∃ p n c, tailV 8 (.slice (some ⟨bqx, ox, none⟩) (x'.length + 1) cx') = Value.slice p n c := ⟨_, _, _, rfl⟩
      rw [htl]
      have HTV := hide htl
      clear htl
      have kg := dcell HMB8.out 0
      have fg := frozen_of (j := 0) HMB8.out
      have gz := lt_of_heap HMB8.out
      refine wpAnyT_oneB (i := 15) rfl (by kernel_rfl) (fun KK hKK => ?_)
      go_wp2_with fail
      refine ⟨rfl, hKK _ _ (fun h => by cases h) ?_⟩
      clear hKK KK kg fg gz hl0 hl1
      have HSB : Hid ((V8b.setCell ⟨g, 0, none⟩ (.slice tp tn tc)).heap[sb]? = some (.cells #[.int .i64 x0.r.g.n, .int .i64 x0.r.g.h0, .int .i64 x0.r.g.h1, .int .i64 x0.r.g.h2, .int .i64 x0.r.g.h3, .int .i64 x0.r.g.h4, .int .i64 x0.r.f, .int .i64 x0.to, .int .i64 (-1)] 83 (0, 0))) := (Below.heap_setCell _ _ _ _ (by show sb ≠ g; have := HGS.out; omega)).trans HSB8.out
      have HXB : Hid (MBox (V8b.setCell ⟨g, 0, none⟩ (.slice tp tn tc)) (g) (.slice tp tn tc)) := HMB8.out.set _
      have HOT : Hid (∀ k, k ≠ sb → k ≠ g → k < V7.heap.size → (V8b.setCell ⟨g, 0, none⟩ (.slice tp tn tc)).heap[k]? = V7.heap[k]?) := fun k hk hk2 hz => (Below.heap_setCell _ _ _ _ hk2).trans (HOT8.out k hk hz)
      have HOF : Hid (Off (fun k => k = sb ∨ k = g) V7 (V8b.setCell ⟨g, 0, none⟩ (.slice tp tn tc))) := HOF8.out.setCell (.inr rfl) _
      refine wpAnyT_done (by kernel_rfl) ?_ _
      generalize V8b.setCell ⟨g, 0, none⟩ (.slice tp tn tc) = V8 at HSB HXB HOT HOF ⊢
      have HXB : Hid (MBox V8 (g) (tailV 8 (.slice (some ⟨bqx, ox, none⟩) (x'.length + 1) cx'))) := by
        show MBox _ _ _
        rw [HTV.out]
        exact HXB.out
      clear HSB8 HMB8 HOT8 HOF8 HGB HXR HQ HTV
      have HYB := hide ((HOT.out (g + 1) (by have := HGS.out; omega) (by omega) (lt_of_heap HYB.out)).trans HYB.out : MBox V8 (g + 1) _)
      have hyg : bqy ≠ g := clash HXB7.out ⟨_, _, _, rfl⟩ HYC.out.1
      have HYK := hide (fun (o : Nat) (v : Value) (h : V7.cell? ⟨bqy, o, none⟩ = some v) => (World.cell?_of_block (a := ⟨bqy, o, none⟩) (HOT.out bqy HYN.out hyg HBYZ.out)).trans h)
      have HYC := hide (And.intro (HYK.out _ _ HYC.out.1) (And.intro (HYK.out _ _ HYC.out.2.1) (And.intro (HYK.out _ _ HYC.out.2.2.1) (And.intro (HYK.out _ _ HYC.out.2.2.2.1) (And.intro (HYK.out _ _ HYC.out.2.2.2.2.1) (And.intro (HYK.out _ _ HYC.out.2.2.2.2.2.1) (And.intro (HYK.out _ _ HYC.out.2.2.2.2.2.2.1) (HYK.out _ _ HYC.out.2.2.2.2.2.2.2))))))))
      have HBYZ := hide (Nat.lt_of_lt_of_le HBYZ.out HOF.out.size)
      have HOF8 := hide HOF.out
      clear HYK hyg HOT HOF hc1 hc2
      gi_upto_region 11 with fail
      have hc1 := HCLY.out.1
      have hc2 := HCLY.out.2
      refine (wpIn_wide (n := 0)).2 ?_
      refine wp_region_heldB (fun Z : World => Z.heap[g + 1]? = V8.heap[g + 1]? ∧ Z.heap[bqy]? = V8.heap[bqy]?) (fun j => decide (j = 15)) (by kernel_rfl) ?_
      intro V8d hV8d
      have hEd : Ext V8 V8d := by rw [hV8d]; exact (Ext.refl _).drew
      have hSd : V8d.heap[g + 1]? = V8.heap[g + 1]? ∧ V8d.heap[bqy]? = V8.heap[bqy]? := ⟨hEd.b.block _ (lt_of_heap HYB.out), hEd.b.block _ HBYZ.out⟩
      clear hV8d
      obtain ⟨q0, q1, q2, q3, q4, q5, q6, q7⟩ := HYC.out
      have hbx : V8.cell? ⟨g + 1, 0, none⟩ = some (.slice (some ⟨bqy, oy, none⟩) (y'.length + 1) cy') := cell_of_row V8 (g + 1) 0 _ _ _ HYB.out
      have hGB : ∀ Z : World, Z.heap[g + 1]? = V8.heap[g + 1]? → Z.cell? ⟨g + 1, 0, none⟩ = some (.slice (some ⟨bqy, oy, none⟩) (y'.length + 1) cy') := fun Z hZ => (World.cell?_of_block (a := ⟨g + 1, 0, none⟩) hZ).trans hbx
      have hXR : ∀ (Z : World) (j : Nat) (v : Value), Z.heap[bqy]? = V8.heap[bqy]? → V8.cell? ⟨bqy, j, none⟩ = some v → Z.cell? ⟨bqy, j, none⟩ = some v := fun Z j v hZ h => (World.cell?_of_block (a := ⟨bqy, j, none⟩) hZ).trans h
      have HGB := hide hGB
      have HXR := hide hXR
      have HQ := hide (And.intro q0 (And.intro q1 (And.intro q2 (And.intro q3 (And.intro q4 (And.intro q5 (And.intro q6 q7)))))))
      have hl0 : (0 : Int) < ((y'.length + 1 : Nat) : Int) := by omega
      have hl1 : (1 : Int) ≤ ((y'.length + 1 : Nat) : Int) := by omega
      clear hGB hXR q0 q1 q2 q3 q4 q5 q6 q7 hbx
      refine wpAnyT_takeB (i := 0) (.slice (some ⟨bqy, oy, none⟩) (y'.length + 1) cy') rfl (by kernel_rfl) (fun j hj => by obtain rfl := of_decide_eq_true hj; kernel_rfl) (by kernel_rfl) (by kernel_rfl) (by simp [Region.wanted]) (fun Z hZ => by
        have := HGB.out Z hZ.1
        go_simp) hSd ?_
      try simp only [Act.put, List.getElem_toArray, List.getElem_cons_zero, List.setIfInBounds_toArray, List.set_cons_zero, List.set_cons_succ]
      refine wpAnyT_takeB (i := 1) (.pointer (some ⟨bqy, oy, none⟩)) rfl (by kernel_rfl) (fun j hj => by obtain rfl := of_decide_eq_true hj; kernel_rfl) (by kernel_rfl) (by kernel_rfl) (by simp [Region.wanted]) (fun Z hZ => by
        go_simp) hSd ?_
      try simp only [Act.put, List.getElem_toArray, List.setIfInBounds_toArray]
      refine wpAnyT_takeB (i := 2) (.pointer (some ⟨bqy, oy, none⟩)) rfl (by kernel_rfl) (fun j hj => by obtain rfl := of_decide_eq_true hj; kernel_rfl) (by kernel_rfl) (by kernel_rfl) (by simp [Region.wanted]) (fun Z hZ => by
        go_simp) hSd ?_
      try simp only [Act.put, List.getElem_toArray]
      refine wpAnyT_takeB (i := 3) (.agg #[.int .i64 y0.r.g.n, .int .i64 y0.r.g.h0, .int .i64 y0.r.g.h1, .int .i64 y0.r.g.h2, .int .i64 y0.r.g.h3, .int .i64 y0.r.g.h4, .int .i64 y0.r.f]) rfl (by kernel_rfl) (fun j hj => by obtain rfl := of_decide_eq_true hj; kernel_rfl) (by kernel_rfl) (by kernel_rfl) (by simp [Region.wanted]) (fun Z hZ => by
        obtain ⟨q0, q1, q2, q3, q4, q5, q6, q7⟩ := HQ.out
        have r0 := HXR.out Z _ _ hZ.2 q0
        have r1 := HXR.out Z _ _ hZ.2 q1
        have r2 := HXR.out Z _ _ hZ.2 q2
        have r3 := HXR.out Z _ _ hZ.2 q3
        have r4 := HXR.out Z _ _ hZ.2 q4
        have r5 := HXR.out Z _ _ hZ.2 q5
        have r6 := HXR.out Z _ _ hZ.2 q6
        go_simp) hSd ?_
      try simp only [Act.put, List.getElem_toArray]
      refine wpAnyT_takeB (i := 4) (.slice (some ⟨bqy, oy, none⟩) (y'.length + 1) cy') rfl (by kernel_rfl) (fun j hj => by obtain rfl := of_decide_eq_true hj; kernel_rfl) (by kernel_rfl) (by kernel_rfl) (by simp [Region.wanted]) (fun Z hZ => by
        have := HGB.out Z hZ.1
        go_simp) hSd ?_
      try simp only [Act.put, List.getElem_toArray]
      refine wpAnyT_takeB (i := 5) (.pointer (some ⟨bqy, oy, none⟩)) rfl (by kernel_rfl) (fun j hj => by obtain rfl := of_decide_eq_true hj; kernel_rfl) (by kernel_rfl) (by kernel_rfl) (by simp [Region.wanted]) (fun Z hZ => by
        go_simp) hSd ?_
      try simp only [Act.put, List.getElem_toArray]
      refine wpAnyT_takeB (i := 6) (.pointer (some ⟨bqy, oy + 7, none⟩)) rfl (by kernel_rfl) (fun j hj => by obtain rfl := of_decide_eq_true hj; kernel_rfl) (by kernel_rfl) (by kernel_rfl) (by simp [Region.wanted]) (fun Z hZ => by
        go_simp) hSd ?_
      try simp only [Act.put, List.getElem_toArray]
      refine wpAnyT_takeB (i := 7) (.int .i64 y0.to) rfl (by kernel_rfl) (fun j hj => by obtain rfl := of_decide_eq_true hj; kernel_rfl) (by kernel_rfl) (by kernel_rfl) (by simp [Region.wanted]) (fun Z hZ => by
        obtain ⟨q0, q1, q2, q3, q4, q5, q6, q7⟩ := HQ.out
        have r7 := HXR.out Z _ _ hZ.2 q7
        go_simp) hSd ?_
      try simp only [Act.put, List.getElem_toArray]
      refine wpAnyT_takeB (i := 8) (.slice (some ⟨bqy, oy, none⟩) (y'.length + 1) cy') rfl (by kernel_rfl) (fun j hj => by obtain rfl := of_decide_eq_true hj; kernel_rfl) (by kernel_rfl) (by kernel_rfl) (by simp [Region.wanted]) (fun Z hZ => by
        have := HGB.out Z hZ.1
        go_simp) hSd ?_
      try simp only [Act.put, List.getElem_toArray]
      refine wpAnyT_takeB (i := 9) (tailV 8 (.slice (some ⟨bqy, oy, none⟩) (y'.length + 1) cy')) rfl (by kernel_rfl) (fun j hj => by obtain rfl := of_decide_eq_true hj; kernel_rfl) (by kernel_rfl) (by kernel_rfl) (by simp [Region.wanted]) (fun Z hZ => by
        by_cases hc9 : cy' = 1
        · subst hc9
          obtain rfl : y' = [] := List.length_eq_zero_iff.1 (by omega)
          go_simp
          rfl
        · go_simp
          simp [tailV]
          rw [if_pos (by omega), if_neg hc9]) hSd ?_
      try simp only [Act.put, List.getElem_toArray]
      refine wpAnyT_takeB (i := 10) (.pointer (some ⟨sb, 0, none⟩)) rfl (by kernel_rfl) (fun j hj => by obtain rfl := of_decide_eq_true hj; kernel_rfl) (by kernel_rfl) (by kernel_rfl) (by simp [Region.wanted]) (fun Z hZ => by
        go_simp) hSd ?_
      try simp only [Act.put, List.getElem_toArray]
      refine wpAnyT_takeB (i := 12) (.pointer (some ⟨sb, 7, none⟩)) rfl (by kernel_rfl) (fun j hj => by obtain rfl := of_decide_eq_true hj; kernel_rfl) (by kernel_rfl) (by kernel_rfl) (by simp [Region.wanted]) (fun Z hZ => by
        go_simp) hSd ?_
      try simp only [Act.put, List.getElem_toArray]
      have hSBd : V8d.heap[sb]? = some (.cells #[.int .i64 x0.r.g.n, .int .i64 x0.r.g.h0, .int .i64 x0.r.g.h1, .int .i64 x0.r.g.h2, .int .i64 x0.r.g.h3, .int .i64 x0.r.g.h4, .int .i64 x0.r.f, .int .i64 x0.to, .int .i64 (-1)] 83 (0, 0)) := (hEd.b.block _ (lt_of_heap HSB.out)).trans HSB.out
      have hsbz := lt_of_heap hSBd
      have k0 := dcell hSBd 0
      have k1 := dcell hSBd 1
      have k2 := dcell hSBd 2
      have k3 := dcell hSBd 3
      have k4 := dcell hSBd 4
      have k5 := dcell hSBd 5
      have k6 := dcell hSBd 6
      have f0 := frozen_of (j := 0) hSBd
      have f1 := frozen_of (j := 1) hSBd
      have f2 := frozen_of (j := 2) hSBd
      have f3 := frozen_of (j := 3) hSBd
      have f4 := frozen_of (j := 4) hSBd
      have f5 := frozen_of (j := 5) hSBd
      have f6 := frozen_of (j := 6) hSBd
      have HSBD := hide hSBd
      clear hSBd
      refine wpAnyT_oneB (i := 11) rfl (by kernel_rfl) (fun KK hKK => ?_)
      go_wp2_with fail
      have HN7 := hide (seven V8d sb (.int .i64 y0.r.g.n) (.int .i64 y0.r.g.h0) (.int .i64 y0.r.g.h1) (.int .i64 y0.r.g.h2) (.int .i64 y0.r.g.h3) (.int .i64 y0.r.g.h4) (.int .i64 y0.r.f))
      obtain ⟨V9a, hw⟩ : ∃ V, V = (((((((V8d.setCell ⟨sb, 0, none⟩ (.int .i64 y0.r.g.n)).setCell ⟨sb, 1, none⟩ (.int .i64 y0.r.g.h0)).setCell ⟨sb, 2, none⟩ (.int .i64 y0.r.g.h1)).setCell ⟨sb, 3, none⟩ (.int .i64 y0.r.g.h2)).setCell ⟨sb, 4, none⟩ (.int .i64 y0.r.g.h3)).setCell ⟨sb, 5, none⟩ (.int .i64 y0.r.g.h4)).setCell ⟨sb, 6, none⟩ (.int .i64 y0.r.f)) := ⟨_, rfl⟩
      rw [← hw] at HN7 ⊢
      clear hw k0 k1 k2 k3 k4 k5 k6 f0 f1 f2 f3 f4 f5 f6
      obtain ⟨n1, n2, n3, n4⟩ := HN7.out
      have hT7 : V9a.heap[g + 1]? = V8.heap[g + 1]? ∧ V9a.heap[bqy]? = V8.heap[bqy]? := ⟨(n1 _ (by have := HGS.out; omega)).trans hSd.1, (n1 _ HYN.out).trans hSd.2⟩
      have HSB7 := hide (n4 _ _ _ _ _ _ _ _ _ _ HSBD.out)
      have HOT : Hid (∀ k, k ≠ sb → k < V8.heap.size → V9a.heap[k]? = V8.heap[k]?) := fun k hk hz => (n1 k hk).trans (hEd.b.block _ hz)
      have HOF : Hid (Off (fun k => k = sb ∨ k = g + 1) V8 V9a) := n3 (fun k => k = sb ∨ k = g + 1) _ (Off.of_ext hEd) (.inl rfl)
      clear n1 n2 n3 n4 HN7 HSBD hEd
      refine ⟨rfl, hKK _ _ (fun _ => hT7) ?_⟩
      clear hKK KK hSd hsbz
      try simp only [Act.put, List.getElem_toArray, List.getElem_cons_zero, List.setIfInBounds_toArray, List.set_cons_zero, List.set_cons_succ]
      refine wpAnyT_takeB (i := 13) (.pointer (some ⟨sb, 8, none⟩)) rfl (by kernel_rfl) (fun j hj => by obtain rfl := of_decide_eq_true hj; kernel_rfl) (by kernel_rfl) (by kernel_rfl) (by simp [Region.wanted]) (fun Z hZ => by
        go_simp) hT7 ?_
      try simp only [Act.put, List.getElem_toArray, List.setIfInBounds_toArray]
      have k7 := dcell HSB7.out 8
      have f7 := frozen_of (j := 8) HSB7.out
      have hsbz := lt_of_heap HSB7.out
      refine wpAnyT_oneB (i := 14) rfl (by kernel_rfl) (fun KK hKK => ?_)
      go_wp2_with fail
      refine ⟨rfl, hKK _ _ (fun _ => ⟨(Below.heap_setCell _ _ _ _ (by show g + 1 ≠ sb; have := HGS.out; omega)).trans hT7.1, (Below.heap_setCell _ _ _ _ HYN.out).trans hT7.2⟩) ?_⟩
      clear hKK KK k7 f7 hsbz
      try simp only [Act.put, List.getElem_toArray, List.getElem_cons_zero, List.setIfInBounds_toArray, List.set_cons_zero, List.set_cons_succ]
      have HSB8 : Hid ((V9a.setCell ⟨sb, 8, none⟩ (.int .i64 y0.to)).heap[sb]? = some (.cells #[.int .i64 y0.r.g.n, .int .i64 y0.r.g.h0, .int .i64 y0.r.g.h1, .int .i64 y0.r.g.h2, .int .i64 y0.r.g.h3, .int .i64 y0.r.g.h4, .int .i64 y0.r.f, .int .i64 x0.to, .int .i64 y0.to] 83 (0, 0))) := heap_set HSB7.out _
      have HMB8 : Hid (MBox (V9a.setCell ⟨sb, 8, none⟩ (.int .i64 y0.to)) (g + 1) (.slice (some ⟨bqy, oy, none⟩) (y'.length + 1) cy')) := (Below.heap_setCell _ _ _ _ (by show g + 1 ≠ sb; have := HGS.out; omega)).trans (hT7.1.trans HYB.out)
      have HOT8 : Hid (∀ k, k ≠ sb → k < V8.heap.size → (V9a.setCell ⟨sb, 8, none⟩ (.int .i64 y0.to)).heap[k]? = V8.heap[k]?) := fun k hk hz => (Below.heap_setCell _ _ _ _ hk).trans (HOT.out k hk hz)
      have HOF8 : Hid (Off (fun k => k = sb ∨ k = g + 1) V8 (V9a.setCell ⟨sb, 8, none⟩ (.int .i64 y0.to))) := HOF.out.setCell (.inl rfl) _
      generalize V9a.setCell ⟨sb, 8, none⟩ (.int .i64 y0.to) = V9b at HSB8 HMB8 HOT8 HOF8 ⊢
      clear HSB7 HOT HOF hT7
      obtain ⟨tp, tn, tc, htl⟩ : ∃ p n c, tailV 8 (.slice (some ⟨bqy, oy, none⟩) (y'.length + 1) cy') = Value.slice p n c := ⟨_, _, _, rfl⟩
      rw [htl]
      have HTV := hide htl
      clear htl
      have kg := dcell HMB8.out 0
      have fg := frozen_of (j := 0) HMB8.out
      have gz := lt_of_heap HMB8.out
      refine wpAnyT_oneB (i := 15) rfl (by kernel_rfl) (fun KK hKK => ?_)
      go_wp2_with fail
      refine ⟨rfl, hKK _ _ (fun h => by cases h) ?_⟩
      clear hKK KK kg fg gz hl0 hl1
      have HSB : Hid ((V9b.setCell ⟨g + 1, 0, none⟩ (.slice tp tn tc)).heap[sb]? = some (.cells #[.int .i64 y0.r.g.n, .int .i64 y0.r.g.h0, .int .i64 y0.r.g.h1, .int .i64 y0.r.g.h2, .int .i64 y0.r.g.h3, .int .i64 y0.r.g.h4, .int .i64 y0.r.f, .int .i64 x0.to, .int .i64 y0.to] 83 (0, 0))) := (Below.heap_setCell _ _ _ _ (by show sb ≠ g + 1; have := HGS.out; omega)).trans HSB8.out
      have HYB : Hid (MBox (V9b.setCell ⟨g + 1, 0, none⟩ (.slice tp tn tc)) (g + 1) (.slice tp tn tc)) := HMB8.out.set _
      have HOT : Hid (∀ k, k ≠ sb → k ≠ g + 1 → k < V8.heap.size → (V9b.setCell ⟨g + 1, 0, none⟩ (.slice tp tn tc)).heap[k]? = V8.heap[k]?) := fun k hk hk2 hz => (Below.heap_setCell _ _ _ _ hk2).trans (HOT8.out k hk hz)
      have HOF : Hid (Off (fun k => k = sb ∨ k = g + 1) V8 (V9b.setCell ⟨g + 1, 0, none⟩ (.slice tp tn tc))) := HOF8.out.setCell (.inr rfl) _
      refine wpAnyT_done (by kernel_rfl) ?_ _
      generalize V9b.setCell ⟨g + 1, 0, none⟩ (.slice tp tn tc) = V9 at HSB HYB HOT HOF ⊢
      have HYB : Hid (MBox V9 (g + 1) (tailV 8 (.slice (some ⟨bqy, oy, none⟩) (y'.length + 1) cy'))) := by
        show MBox _ _ _
        rw [HTV.out]
        exact HYB.out
      clear HSB8 HMB8 HOT8 HOF8 HGB HXR HQ HTV
      clear hc1 hc2
      obtain ⟨e, i', j', hP⟩ : ∃ e i' j', PreY g sb u0 v0 xs0 ys0 J O1 i j i' j' k e V9 := by
        refine ⟨⟨y0.r, x0.to, y0.to⟩, i + 1, j + 1, ⟨HSB.out, ?_, by have := HDRX.out.1; omega, by have := HDRY.out.1; omega, by omega, ?_, ?_, ?_⟩⟩
        · rw [HLF.out, HM.out, HDRX.out.2, HDRY.out.2]
        · rw [HTLX.out]
          exact (HOT.out g (by have := HGS.out; omega) (by omega) (lt_of_heap HXB.out)).trans HXB.out
        · rw [HTLY.out]; exact HYB.out
        · exact HJ.out k O1 O1 _ _ HS.out.j ((((Off.of_ext HE7.out).trans (HOF8.out.mono fun b _ h => (by rcases h with h | h <;> simp [h] : b = sb ∨ b = g ∨ b = g + 1))).trans (HOF.out.mono fun b _ h => (by rcases h with h | h <;> simp [h] : b = sb ∨ b = g ∨ b = g + 1))).mono (fun b hb h => by
            rcases h with rfl | rfl | rfl
            · exact absurd hb (by have := HWZ.out; omega)
            · rw [HO1.out]; exact .inl rfl
            · rw [HO1.out]; exact .inr rfl)) (Grow.same (fun b hb => by rw [HO1.out] at hb; rcases hb with rfl | rfl <;> omega) (Nat.le_trans (Nat.le_trans HE7.out.size HOF8.out.size) HOF.out.size))
      have HPP := hide hP
      have hpp := HPP.out
      have hpk := (drop_cons hpp.left)
      have HRE : Hid _ := hide hpk
      have c0 := dcell hpp.sbc 0
      have c1 := dcell hpp.sbc 1
      have c2 := dcell hpp.sbc 2
      have c3 := dcell hpp.sbc 3
      have c4 := dcell hpp.sbc 4
      have c5 := dcell hpp.sbc 5
      have c6 := dcell hpp.sbc 6
      have c7 := dcell hpp.sbc 7
      have c8 := dcell hpp.sbc 8
      have sz := lt_of_heap hpp.sbc
      have hg0 := lt_of_heap hpp.xb
      have hg1 := lt_of_heap hpp.yb
      have hOz : ∀ k, O1 k → k < V9.heap.size := fun k hk => by
        rw [HO1.out] at hk
        rcases hk with rfl | rfl <;> assumption
      obtain ⟨fn, tmps, assign, body, hy, hR⟩ := HY.out k #[e.v] O1 V9 hpk.1 ⟨e, hpk.2.1, rfl⟩ hpp.j hOz
      have HR := hide hR
      have HOZ := hide hOz
      clear hR hOz hpp hpk
      gi_wp2_with fail
      refine ⟨rfl, HR.out.mono ?_⟩
      rintro e9 W' ⟨⟨hko, hsz⟩, (⟨rfl, hJ'⟩ | ⟨rfl, hJx'⟩)⟩
      · have HJ9 := hide hJ'
        have HX9 : Hid (MBox W' g (itT i' u0)) := (hko g (by rw [HO1.out]; exact .inl rfl)).trans HPP.out.xb
        have HY9 : Hid (MBox W' (g + 1) (itT j' v0)) := (hko (g + 1) (by rw [HO1.out]; exact .inr rfl)).trans HPP.out.yb
        have HMS : Hid (boxLen W' g + boxLen W' (g + 1) < boxLen wr g + boxLen wr (g + 1)) := by
          have bl : ∀ (W : World) (b n : Nat) (v : Value) (zs : List Mv), MBox W b (itT n v) → Row Mv.cells 8 wr v zs → n ≤ zs.length → boxLen W b = zs.length - n := fun W b n v zs h hr hn => by
            obtain ⟨_, _, hu, _⟩ := (row_it hr n hn).form_
            rw [hu] at h
            rw [h.len, List.length_drop]
          show _ < _
          rw [bl _ _ _ _ _ HX9.out HDX.out HPP.out.ix, bl _ _ _ _ _ HY9.out HDY.out HPP.out.jy, bl _ _ _ _ _ HS.out.xb HDX.out HS.out.ix, bl _ _ _ _ _ HS.out.yb HDY.out HS.out.jy]
          have := HPP.out.more
          have := HPP.out.ix
          have := HPP.out.jy
          omega
        clear hJ' hko hsz
        gi_wp2_with fail
        exact ⟨⟨lt_of_heap HY9.out, i', j', k + 1, ⟨HRE.out.2.2, HRE.out.1, HPP.out.ix, HPP.out.jy, HX9.out, HY9.out, HJ9.out⟩⟩, HMS.out⟩
      · have HJ3 := hide hJx'
        clear hJx' hko hsz
        gi_wp2_with fail
        exact bodyPost_ret (results_none rfl _ _ _) rfl ⟨⟨_, rfl⟩, _, .inr HJ3.out⟩
end Go.Proofs.Ytmkmgimmlohamaa
