/-
  Words of layer 15: what they are, and what is computed of them; plain functions.
  Conditions: none.
-/
import Derived.Test.YtfnhjalnbmnlaaaDoorGBoth
import Derived.Test.YtfnhjalnbmnlaaaDoorRep
import Derived.Test.YtfnhjalnbmnlaaaDoorRPermA
import Derived.Test.YtfnhjalnbmnlaaaDoorWordA
namespace Go.Proofs.YtfnhjalnbmnlaaaDoor
open Go.RowKit
attribute [local go_sem] Oper.semAt_some

abbrev robj (r : Rd) : Obj := .cells #[.int .i64 r.g.n, .int .i64 r.g.h0, .int .i64 r.g.h1, .int .i64 r.g.h2, .int .i64 r.g.h3, .int .i64 r.g.h4, .int .i64 r.f] 26
abbrev robj0 : Obj := .cells #[.int .i64 0, .int .i64 0, .int .i64 0, .int .i64 0, .int .i64 0, .int .i64 0, .int .i64 0] 26
abbrev rz0 : Rd := ⟨⟨0, 0, 0, 0, 0, 0⟩, 0⟩
def RdBox (W : World) (b : Nat) (r : Rd) : Prop := W.heap[b]? = some (robj r)
theorem rd_new (w : World) (r : Rd) : RdBox (w.alloc (robj r)) w.heap.size r := heap_alloc_new w _
theorem RdBox.alloc {W : World} {b : Nat} {r : Rd} (h : RdBox W b r) (o : Obj) : RdBox (W.alloc o) b r := (Below.heap_alloc _ _ _ (lt_of_heap h)).trans h
theorem RdBox.ext {W V : World} {b : Nat} {r : Rd} (h : RdBox W b r) (hE : Ext W V) : RdBox V b r := (hE.b.block _ (lt_of_heap h)).trans h
theorem RdBox.cells {W : World} {b : Nat} {r : Rd} (h : RdBox W b r) : W.cell? ⟨b, 0, none⟩ = some (.int .i64 r.g.n) ∧ W.cell? ⟨b, 1, none⟩ = some (.int .i64 r.g.h0) ∧ W.cell? ⟨b, 2, none⟩ = some (.int .i64 r.g.h1) ∧ W.cell? ⟨b, 3, none⟩ = some (.int .i64 r.g.h2) ∧ W.cell? ⟨b, 4, none⟩ = some (.int .i64 r.g.h3) ∧ W.cell? ⟨b, 5, none⟩ = some (.int .i64 r.g.h4) ∧ W.cell? ⟨b, 6, none⟩ = some (.int .i64 r.f) ∧ b < W.heap.size := by
  have hh : W.heap[b]? = some (robj r) := h
  refine ⟨?_, ?_, ?_, ?_, ?_, ?_, ?_, lt_of_heap hh⟩ <;> (rw [cell_of_row _ _ _ _ _ _ hh]; rfl)
theorem RdBox.frozen {W : World} {b : Nat} {r : Rd} (h : RdBox W b r) : W.frozen? ⟨b, 0, none⟩ = false ∧ W.frozen? ⟨b, 1, none⟩ = false ∧ W.frozen? ⟨b, 2, none⟩ = false ∧ W.frozen? ⟨b, 3, none⟩ = false ∧ W.frozen? ⟨b, 4, none⟩ = false ∧ W.frozen? ⟨b, 5, none⟩ = false ∧ W.frozen? ⟨b, 6, none⟩ = false :=
  ⟨frozen_of h, frozen_of h, frozen_of h, frozen_of h, frozen_of h, frozen_of h, frozen_of h⟩
/-- A round stored over another one, cell by cell. -/
abbrev rstore (W : World) (b : Nat) (r : Rd) : World :=
  ((((((W.setCell ⟨b, 0, none⟩ (.int .i64 r.g.n)).setCell ⟨b, 1, none⟩ (.int .i64 r.g.h0)).setCell ⟨b, 2, none⟩ (.int .i64 r.g.h1)).setCell ⟨b, 3, none⟩ (.int .i64 r.g.h2)).setCell ⟨b, 4, none⟩ (.int .i64 r.g.h3)).setCell ⟨b, 5, none⟩ (.int .i64 r.g.h4)).setCell ⟨b, 6, none⟩ (.int .i64 r.f)
theorem RdBox.store {W : World} {b : Nat} {q : Rd} (h : RdBox W b q) (r : Rd) : RdBox (rstore W b r) b r := by
  have hh : W.heap[b]? = some (robj q) := h
  have h0 : (W.setCell ⟨b, 0, none⟩ (.int .i64 r.g.n)).heap[b]? = some (.cells #[.int .i64 r.g.n, .int .i64 q.g.h0, .int .i64 q.g.h1, .int .i64 q.g.h2, .int .i64 q.g.h3, .int .i64 q.g.h4, .int .i64 q.f] 26) := heap_set (j := 0) hh (.int .i64 r.g.n)
  have h1 : ((W.setCell ⟨b, 0, none⟩ (.int .i64 r.g.n)).setCell ⟨b, 1, none⟩ (.int .i64 r.g.h0)).heap[b]? = some (.cells #[.int .i64 r.g.n, .int .i64 r.g.h0, .int .i64 q.g.h1, .int .i64 q.g.h2, .int .i64 q.g.h3, .int .i64 q.g.h4, .int .i64 q.f] 26) := heap_set (j := 1) h0 (.int .i64 r.g.h0)
  have h2 : (((W.setCell ⟨b, 0, none⟩ (.int .i64 r.g.n)).setCell ⟨b, 1, none⟩ (.int .i64 r.g.h0)).setCell ⟨b, 2, none⟩ (.int .i64 r.g.h1)).heap[b]? = some (.cells #[.int .i64 r.g.n, .int .i64 r.g.h0, .int .i64 r.g.h1, .int .i64 q.g.h2, .int .i64 q.g.h3, .int .i64 q.g.h4, .int .i64 q.f] 26) := heap_set (j := 2) h1 (.int .i64 r.g.h1)
  have h3 : ((((W.setCell ⟨b, 0, none⟩ (.int .i64 r.g.n)).setCell ⟨b, 1, none⟩ (.int .i64 r.g.h0)).setCell ⟨b, 2, none⟩ (.int .i64 r.g.h1)).setCell ⟨b, 3, none⟩ (.int .i64 r.g.h2)).heap[b]? = some (.cells #[.int .i64 r.g.n, .int .i64 r.g.h0, .int .i64 r.g.h1, .int .i64 r.g.h2, .int .i64 q.g.h3, .int .i64 q.g.h4, .int .i64 q.f] 26) := heap_set (j := 3) h2 (.int .i64 r.g.h2)
  have h4 : (((((W.setCell ⟨b, 0, none⟩ (.int .i64 r.g.n)).setCell ⟨b, 1, none⟩ (.int .i64 r.g.h0)).setCell ⟨b, 2, none⟩ (.int .i64 r.g.h1)).setCell ⟨b, 3, none⟩ (.int .i64 r.g.h2)).setCell ⟨b, 4, none⟩ (.int .i64 r.g.h3)).heap[b]? = some (.cells #[.int .i64 r.g.n, .int .i64 r.g.h0, .int .i64 r.g.h1, .int .i64 r.g.h2, .int .i64 r.g.h3, .int .i64 q.g.h4, .int .i64 q.f] 26) := heap_set (j := 4) h3 (.int .i64 r.g.h3)
  have h5 : ((((((W.setCell ⟨b, 0, none⟩ (.int .i64 r.g.n)).setCell ⟨b, 1, none⟩ (.int .i64 r.g.h0)).setCell ⟨b, 2, none⟩ (.int .i64 r.g.h1)).setCell ⟨b, 3, none⟩ (.int .i64 r.g.h2)).setCell ⟨b, 4, none⟩ (.int .i64 r.g.h3)).setCell ⟨b, 5, none⟩ (.int .i64 r.g.h4)).heap[b]? = some (.cells #[.int .i64 r.g.n, .int .i64 r.g.h0, .int .i64 r.g.h1, .int .i64 r.g.h2, .int .i64 r.g.h3, .int .i64 r.g.h4, .int .i64 q.f] 26) := heap_set (j := 5) h4 (.int .i64 r.g.h4)
  have h6 : (((((((W.setCell ⟨b, 0, none⟩ (.int .i64 r.g.n)).setCell ⟨b, 1, none⟩ (.int .i64 r.g.h0)).setCell ⟨b, 2, none⟩ (.int .i64 r.g.h1)).setCell ⟨b, 3, none⟩ (.int .i64 r.g.h2)).setCell ⟨b, 4, none⟩ (.int .i64 r.g.h3)).setCell ⟨b, 5, none⟩ (.int .i64 r.g.h4)).setCell ⟨b, 6, none⟩ (.int .i64 r.f)).heap[b]? = some (.cells #[.int .i64 r.g.n, .int .i64 r.g.h0, .int .i64 r.g.h1, .int .i64 r.g.h2, .int .i64 r.g.h3, .int .i64 r.g.h4, .int .i64 r.f] 26) := heap_set (j := 6) h5 (.int .i64 r.f)
  exact h6
theorem Ext.rstore {w W : World} (h : Ext w W) {b : Nat} (hb : w.heap.size ≤ b) (r : Rd) : Ext w (rstore W b r) :=
  ((((((h.setCell hb _).setCell hb _).setCell hb _).setCell hb _).setCell hb _).setCell hb _).setCell hb _
theorem heap_gstore {V : World} {p b : Nat} (hne : p ≠ b) (r : Gr) : (gstore V b r).heap[p]? = V.heap[p]? := by
  rw [Below.heap_setCell _ _ _ _ hne, Below.heap_setCell _ _ _ _ hne, Below.heap_setCell _ _ _ _ hne, Below.heap_setCell _ _ _ _ hne, Below.heap_setCell _ _ _ _ hne, Below.heap_setCell _ _ _ _ hne]
theorem heap_rstore {V : World} {p b : Nat} (hne : p ≠ b) (r : Rd) : (rstore V b r).heap[p]? = V.heap[p]? := by
  rw [Below.heap_setCell _ _ _ _ hne, Below.heap_setCell _ _ _ _ hne, Below.heap_setCell _ _ _ _ hne, Below.heap_setCell _ _ _ _ hne, Below.heap_setCell _ _ _ _ hne, Below.heap_setCell _ _ _ _ hne, Below.heap_setCell _ _ _ _ hne]
/-- A round as a function's result. -/
theorem results_rd {fn : Func} {a : Tmp} (h : fn.results = #[.cell a 26]) (tmps : Array Value) {w : World} {b : Nat} {r : Rd} (ha : tmps.getD a undef = .pointer (some ⟨b, 0, none⟩)) (hb : RdBox w b r) :
    (results fn tmps).run Tryd.prog w = .ok r.v w := by
  obtain ⟨c0, c1, c2, c3, c4, c5, c6, -⟩ := hb.cells
  rw [Array.getD_eq_getD_getElem?] at ha
  simp [results, h, ha, go_sem, c0, c1, c2, c3, c4, c5, c6]
theorem results_rd2 {fn : Func} {a e : Tmp} (h : fn.results = #[.cell a 26, .tmp e]) (tmps : Array Value) {w : World} {b : Nat} {r : Rd} {x : Value} (ha : tmps.getD a undef = .pointer (some ⟨b, 0, none⟩)) (he : tmps.getD e undef = x) (hb : RdBox w b r) :
    (results fn tmps).run Tryd.prog w = .ok (.tuple #[r.v, x]) w := by
  obtain ⟨c0, c1, c2, c3, c4, c5, c6, -⟩ := hb.cells
  rw [Array.getD_eq_getD_getElem?] at ha he
  simp [results, h, ha, he, go_sem, c0, c1, c2, c3, c4, c5, c6]
theorem rd_info : (Tryd.prog.info? 26).map (fun i => (i.zero, i.size, i.bytes)) = some (some (Rd.v default), 7, 56) := by kernel_rfl
theorem rd_ones (x : Rd) : ∀ u ∈ Rd.cells x, u.oneCell' = true := by intro u hu; simp only [List.mem_cons, List.not_mem_nil, or_false] at hu; rcases hu with rfl | rfl | rfl | rfl | rfl | rfl | rfl <;> rfl
theorem rd_new_cells (w : World) (r : Rd) : ∀ j u, (Rd.cells r)[j]? = some u → (w.alloc (robj r)).cell? ⟨w.heap.size, j, none⟩ = some u := fun j u h => by
  rw [cell_of_row _ _ _ _ _ _ (heap_alloc_new w (robj r))]
  rw [← h, ← List.getElem?_toArray]
def RetR (x : Rd × Int) (w : World) (e : Ending) (w' : World) : Prop := e = .returned (.tuple #[x.1.v, .int .i64 x.2]) ∧ Ext w w'
end Go.Proofs.YtfnhjalnbmnlaaaDoor

namespace Go.Proofs.YtfnhjalnbmnlaaaDoor

/-- A well-formed round of n processes. -/
structure RWf (r : Rd) (n : Nat) : Prop where
  g : Wf r.g n
  f_eq : r.f = (r.f.toNat : Int)
  f_lt : r.f.toNat < 2 ^ n
theorem pow2_int (n : Nat) : ((2 : Int) ^ n) = ((2 ^ n : Nat) : Int) := by simp
theorem rwf_of {r : Rd} (h : rchk r = 0) : ∃ n, RWf r n := by
  obtain ⟨h1, h2⟩ := rchk_zero h
  obtain ⟨n, hn⟩ := wf_of h1
  obtain ⟨-, -, h3, h4⟩ := pchk_zero h2
  rw [hn.toNat, pow2_int] at h4
  exact ⟨n, hn, by omega, by omega⟩
theorem rwf_chk {r : Rd} {n : Nat} (h : RWf r n) : rchk r = 0 := by
  unfold rchk
  rw [if_pos (wf_chk h.g)]
  have h1 := h.g.n1; have h5 := h.g.n5; have hn := h.g.n_eq
  refine pchk_ok (by omega) (by have := h.f_eq; omega) ?_
  rw [h.g.toNat, pow2_int]
  have := h.f_eq; have := h.f_lt; omega
theorem rwf_n {r : Rd} {n m : Nat} (h : RWf r n) (h2 : RWf r m) : n = m := h.g.toNat.symm.trans h2.g.toNat
theorem inside_iff {a b : Nat} (ha : a < 32) (_hb : b < 32) : inside (a : Int) (b : Int) = true ↔ ∀ q, a.testBit q = true → b.testBit q = true := by
  unfold inside
  simp only [List.all_eq_true, List.mem_range, Bool.or_eq_true, Bool.not_eq_true', has_nat]
  constructor
  · intro h q hq
    have hq5 : q < 5 := bit_ltn ha hq
    rcases h q hq5 with h1 | h1
    · rw [hq] at h1; cases h1
    · exact h1
  · intro h q _
    cases hq : a.testBit q with
    | false => exact .inl rfl
    | true => exact .inr (h q hq)
theorem inside_zero (b : Int) : inside 0 b = true := by
  unfold inside
  simp only [List.all_eq_true, List.mem_range, Bool.or_eq_true, Bool.not_eq_true']
  intro p _
  left
  unfold has
  simp
/-- The last set of a word. -/
def lastF (l : List Rd) : Int := prevF l l.length
/-- A word of n processes. -/
structure WordOk (n : Nat) (l : List Rd) : Prop where
  n1 : 1 ≤ n
  n5 : n ≤ 5
  len : l.length ≤ 1024
  wf : ∀ i, i < l.length → RWf (l.getD i default) n
  asc : ∀ i, i < l.length → inside (prevF l i) (l.getD i default).f = true
theorem wErr_zero {n : Int} {l : List Rd} {i : Nat} (h : wErr n l i = 0) : rchk (l.getD i default) = 0 ∧ (l.getD i default).g.n = n ∧ inside (prevF l i) (l.getD i default).f = true := by
  unfold wErr at h
  by_cases h1 : rchk (l.getD i default) = 0
  · rw [if_neg (fun k => k h1)] at h
    by_cases h2 : (l.getD i default).g.n = n
    · rw [if_neg (fun k => k h2)] at h
      by_cases h3 : inside (prevF l i) (l.getD i default).f = true
      · exact ⟨h1, h2, h3⟩
      · rw [if_neg h3] at h; omega
    · rw [if_pos h2] at h; omega
  · rw [if_pos h1] at h; exact absurd h h1
theorem word_of {n : Int} {l : List Rd} (h : wordE n l = 0) : ∃ m : Nat, n = m ∧ WordOk m l := by
  unfold wordE at h
  by_cases h1 : n < 1 ∨ 5 < n
  · rw [if_pos h1] at h; omega
  · rw [if_neg h1] at h
    by_cases h2 : 1024 < l.length
    · rw [if_pos h2] at h; omega
    · rw [if_neg h2] at h
      have h3 := firstErr_zero.1 h
      obtain ⟨m, rfl⟩ := Int.eq_ofNat_of_zero_le (show 0 ≤ n by omega)
      refine ⟨m, rfl, by omega, by omega, by omega, fun i hi => ?_, fun i hi => (wErr_zero (h3 i hi)).2.2⟩
      obtain ⟨k1, k2, -⟩ := wErr_zero (h3 i hi)
      obtain ⟨k, hk⟩ := rwf_of k1
      have := hk.g.n_eq
      obtain rfl : k = m := by omega
      exact hk
theorem word_ok {n : Nat} {l : List Rd} (h : WordOk n l) : wordE n l = 0 := by
  have h1 := h.n1; have h5 := h.n5; have hl := h.len
  unfold wordE
  rw [if_neg (by omega), if_neg (by omega)]
  refine firstErr_end fun i hi => ?_
  unfold wErr
  rw [if_neg (by rw [rwf_chk (h.wf i hi)]; decide), if_neg (by rw [(h.wf i hi).g.n_eq]; simp), if_pos (h.asc i hi)]
theorem prevF_bd {n : Nat} {l : List Rd} (h : WordOk n l) : ∀ i, i ≤ l.length → prevF l i = ((prevF l i).toNat : Int) ∧ (prevF l i).toNat < 2 ^ n
  | 0, _ => by simp [prevF]; exact Nat.two_pow_pos n
  | i + 1, hi => ⟨(h.wf i (by omega)).f_eq, (h.wf i (by omega)).f_lt⟩
/-- The product of a word. -/
def prodL (n : Nat) (l : List Rd) : Gr := l.foldl (fun a r => compG a r.g) (silG n)
theorem foldl_wf {n : Nat} : ∀ (l : List Rd) (a : Gr), Wf a n → (∀ r ∈ l, Wf r.g n) → Wf (l.foldl (fun a r => compG a r.g) a) n
  | [], _, h, _ => h
  | r :: l, a, h, hl => foldl_wf l _ (comp_wf h (hl r (by simp))) fun x hx => hl x (by simp [hx])
theorem foldl_comp {n : Nat} : ∀ (l : List Rd) (a b : Gr), Wf a n → Wf b n → (∀ r ∈ l, Wf r.g n) → l.foldl (fun a r => compG a r.g) (compG a b) = compG a (l.foldl (fun a r => compG a r.g) b)
  | [], _, _, _, _, _ => rfl
  | r :: l, a, b, ha, hb, hl => by
    have hr := hl r (by simp)
    rw [List.foldl_cons, List.foldl_cons, comp_assoc ha hb hr]
    exact foldl_comp l a _ ha (comp_wf hb hr) fun x hx => hl x (by simp [hx])
theorem word_mem {n : Nat} {l : List Rd} (h : WordOk n l) : ∀ r ∈ l, RWf r n := fun r hr => by
  obtain ⟨i, hi, rfl⟩ := List.getElem_of_mem hr
  have := h.wf i hi
  rwa [List.getD_eq_getElem?_getD, List.getElem?_eq_getElem hi] at this
theorem prod_wfL {n : Nat} {l : List Rd} (h : WordOk n l) : Wf (prodL n l) n := foldl_wf l _ (sil_wf h.n1 h.n5) fun r hr => (word_mem h r hr).g
theorem prod_app {n : Nat} {a b : List Rd} (h1 : 1 ≤ n) (h5 : n ≤ 5) (ha : ∀ r ∈ a, Wf r.g n) (hb : ∀ r ∈ b, Wf r.g n) : prodL n (a ++ b) = compG (prodL n a) (prodL n b) := by
  have hs := sil_wf h1 h5
  have hA : Wf (prodL n a) n := foldl_wf a _ hs ha
  unfold prodL at hA ⊢
  rw [List.foldl_append, ← foldl_comp b _ _ hA hs hb, comp_sil hA]
/-- What the functions of the layer return. -/
def faultyS (n : Int) (l : List Rd) : Int × Int := if wordE n l ≠ 0 then (0, wordE n l) else (lastF l, 0)
def oblN (n : Nat) (l : List Rd) : Nat := (2 ^ n - 1) - (lastF l).toNat
def obligedS (n : Int) (l : List Rd) : Int × Int := if wordE n l ≠ 0 then (0, wordE n l) else ((oblN n.toNat l : Nat), 0)
def productS (n : Int) (l : List Rd) : Gr × Int := if wordE n l ≠ 0 then (gz0, wordE n l) else (prodL n.toNat l, 0)
def permR (r : Rd) (l : List Int) : Rd := ⟨permG r.g l, (imgN l r.f.toNat l.length : Nat)⟩
def rpermS (r : Rd) (l : List Int) : Rd × Int := if rchk r ≠ 0 then (rz0, rchk r) else if permE l ≠ 0 then (rz0, permE l) else if (l.length : Int) ≠ r.g.n then (rz0, 22) else (permR r l, 0)
theorem obl_bit {n : Nat} {s : Nat} (hs : s < 2 ^ n) (q : Nat) : ((2 ^ n - 1) - s).testBit q = (decide (q < n) && !s.testBit q) := by
  rw [show (2 ^ n - 1) - s = 2 ^ n - (s + 1) by omega, Nat.testBit_two_pow_sub_succ hs]
theorem permR_wf {r : Rd} {l : List Int} (hr : RWf r l.length) (h : PermOk l) : RWf (permR r l) l.length :=
  ⟨perm_wf hr.g h, by simp [permR], by simp only [permR, Int.toNat_natCast]; exact imgN_lt h _ _ (Nat.le_refl _)⟩
theorem rpermS_ok {r : Rd} {l : List Int} (hr : RWf r l.length) (h : PermOk l) : rpermS r l = (permR r l, 0) := by
  unfold rpermS
  rw [if_neg (by rw [rwf_chk hr]; decide), if_neg (by rw [permE_of h]; decide), if_neg (by rw [hr.g.n_eq]; simp)]
end Go.Proofs.YtfnhjalnbmnlaaaDoor
