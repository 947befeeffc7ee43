/-
  Inclusion, plain: reflexive, transitive, and what Includes and Equivalent say of it.
  Conditions: none.
-/
import Derived.Test.YtmkmgimmlohamaaIncAw
import Derived.Test.YtmkmgimmlohamaaIncRA
namespace Go.Proofs.Ytmkmgimmlohamaa
open Go.RowKit

/-- Each word of B is one of A. -/
def Inc (A B : Adv) : Prop := ∀ u, 0 ≤ after B 0 u → 0 ≤ after A 0 u
theorem inc_lack {A B : Adv} : Inc A B ↔ ∀ u, ¬ lackW A B u := by
  constructor
  · rintro h u ⟨v, r, rfl, _, h2, h3⟩
    have := h _ h3
    omega
  · intro h
    have key : ∀ (n : Nat) (u : List Rd), u.length = n → 0 ≤ after B 0 u → 0 ≤ after A 0 u := by
      intro n
      induction n with
      | zero =>
        intro u hu _
        rw [List.length_eq_zero_iff.1 hu]; simp [after]
      | succ n ih =>
        intro u hu hb
        have hne : u ≠ [] := fun e => by rw [e] at hu; simp at hu
        have huu := (List.dropLast_concat_getLast hne).symm
        generalize u.dropLast = v at huu
        generalize u.getLast hne = r at huu
        subst huu
        have h1 := ih v (by simpa using hu) (after_snoc_ge hb)
        refine Classical.byContradiction fun hn => ?_
        exact h _ ⟨v, r, rfl, h1, by omega, hb⟩
    exact fun u => key _ u rfl
theorem Inc.refl (A : Adv) : Inc A A := fun _ h => h
theorem Inc.trans {A B C : Adv} (h : Inc A B) (k : Inc B C) : Inc A C := fun u hu => h u (k u hu)
open Classical in
/-- Includes, told by inclusion. -/
theorem inc_told {A B : Adv} (h0 : bothI A B = 0) {w : World} {en : Ending} {w' : World} (h : RetIn dI A B w en w') :
    ∃ x word, en = .returned (.tuple #[x, .bool (decide (Inc A B)), .int .i64 0]) ∧ Ext w w' ∧ Row Rd.cells 7 w' x word ∧ ((Inc A B ∧ word = [] ∧ x = .slice none 0 0) ∨ (¬ Inc A B ∧ lackW A B word ∧ ∀ u, lackW A B u → Wle word u)) := by
  have hA := (bothI_zero h0).1
  have hB := (bothI_zero h0).2.1
  obtain ⟨x, b, rfl, hE, (⟨h, _⟩ | ⟨_, rfl, word, hr, _, hm, hle⟩ | ⟨_, rfl, rfl, hn⟩)⟩ := h
  · exact absurd h0 h
  · have hl := (markI hA hB word).1 hm
    have hi : ¬ Inc A B := fun k => inc_lack.1 k word hl
    exact ⟨x, word, by rw [h0, decide_eq_false hi], hE, hr, .inr ⟨hi, hl, fun u hu => hle u ((markI hA hB u).2 hu)⟩⟩
  · have hi : Inc A B := inc_lack.2 fun u hu => hn u ((markI hA hB u).2 hu)
    exact ⟨.slice none 0 0, [], by rw [h0, decide_eq_true hi], hE, ⟨none, 0, rfl, Nat.le_refl _, ⟨by omega, by simp⟩, fun h => by simp at h⟩, .inl ⟨hi, rfl, rfl⟩⟩
open Classical in
/-- Equivalent, told by inclusion. -/
theorem eqv_told {A B : Adv} (h0 : bothI A B = 0) {w : World} {en : Ending} {w' : World} (h : RetIn dE A B w en w') :
    ∃ x word, en = .returned (.tuple #[x, .bool (decide (Inc A B) && decide (Inc B A)), .int .i64 0]) ∧ Ext w w' ∧ Row Rd.cells 7 w' x word ∧ ((Inc A B ∧ Inc B A ∧ word = []) ∨ (¬ (Inc A B ∧ Inc B A) ∧ (lackW A B word ∨ lackW B A word) ∧ ∀ u, lackW A B u ∨ lackW B A u → Wle word u)) := by
  have hA := (bothI_zero h0).1
  have hB := (bothI_zero h0).2.1
  obtain ⟨x, b, rfl, hE, (⟨h, _⟩ | ⟨_, rfl, word, hr, _, hm, hle⟩ | ⟨_, rfl, rfl, hn⟩)⟩ := h
  · exact absurd h0 h
  · have hl := (markE hA hB word).1 hm
    have hi : ¬ (Inc A B ∧ Inc B A) := fun k => hl.elim (inc_lack.1 k.1 word) (inc_lack.1 k.2 word)
    refine ⟨x, word, ?_, hE, hr, .inr ⟨hi, hl, fun u hu => hle u ((markE hA hB u).2 hu)⟩⟩
    rw [h0]
    by_cases h1 : Inc A B
    · rw [decide_eq_true h1, decide_eq_false (fun h2 => hi ⟨h1, h2⟩)]; rfl
    · rw [decide_eq_false h1]; rfl
  · have h1 : Inc A B := inc_lack.2 fun u hu => hn u ((markE hA hB u).2 (.inl hu))
    have h2 : Inc B A := inc_lack.2 fun u hu => hn u ((markE hA hB u).2 (.inr hu))
    exact ⟨.slice none 0 0, [], by rw [h0, decide_eq_true h1, decide_eq_true h2]; rfl, hE, ⟨none, 0, rfl, Nat.le_refl _, ⟨by omega, by simp⟩, fun h => by simp at h⟩, .inl ⟨h1, h2, rfl⟩⟩
/-- Words that both ways tell a difference are one. -/
theorem eqv_same {A B : Adv} {x y : List Rd} (hx : (Inc A B ∧ Inc B A ∧ x = []) ∨ (¬ (Inc A B ∧ Inc B A) ∧ (lackW A B x ∨ lackW B A x) ∧ ∀ u, lackW A B u ∨ lackW B A u → Wle x u))
    (hy : (Inc B A ∧ Inc A B ∧ y = []) ∨ (¬ (Inc B A ∧ Inc A B) ∧ (lackW B A y ∨ lackW A B y) ∧ ∀ u, lackW B A u ∨ lackW A B u → Wle y u)) : x = y := by
  rcases hx with ⟨h1, h2, rfl⟩ | ⟨h1, h2, h3⟩ <;> rcases hy with ⟨k1, k2, rfl⟩ | ⟨k1, k2, k3⟩
  · rfl
  · exact absurd ⟨h2, h1⟩ k1
  · exact absurd ⟨k2, k1⟩ h1
  · exact least_eq (P := fun u => lackW A B u ∨ lackW B A u) h2 h3 k2.symm fun u hu => k3 u hu.symm
theorem bothI_of {A B : Adv} (h1 : achk A = 0) (h2 : achk B = 0) (h3 : A.n = B.n) : bothI A B = 0 := by
  unfold bothI
  rw [if_neg (fun k => k h1), if_neg (fun k => k h2), if_neg (fun k => k h3)]
theorem afew_moves {A : Adv} (h : afew A = true) : movesN A ≤ 4611686018427387904 := by
  unfold afew at h
  simp only [Bool.and_eq_true, decide_eq_true_eq] at h
  omega
/-- Three adversaries in boxes of their own. -/
structure TriBox (A B C : Adv) (z : Nat) (p : Option Addr) (c : Nat) (q : Option Addr) (d : Nat) (r : Option Addr) (k : Nat) (W : World) : Prop where
  ab : TwoBox A B z p c q d W
  c : W.heap[z + 1 + 1]? = some (.cells #[.int .i64 C.n, .slice r C.L k] 24 (0, 0))
theorem TriBox.ext {A B C : Adv} {z : Nat} {p : Option Addr} {c : Nat} {q : Option Addr} {d : Nat} {r : Option Addr} {k : Nat} {W W' : World} (h : TriBox A B C z p c q d r k W) (hE : Ext W W') : TriBox A B C z p c q d r k W' := ⟨h.ab.ext hE, (hE.b.block _ (lt_of_heap h.c)).trans h.c⟩
theorem TriBox.new (A B C : Adv) (p : Option Addr) (c : Nat) (q : Option Addr) (d : Nat) (r : Option Addr) (k : Nat) (w : World) : TriBox A B C w.heap.size p c q d r k (((w.alloc (.cells #[.int .i64 A.n, .slice p A.L c] 24)).alloc (.cells #[.int .i64 B.n, .slice q B.L d] 24)).alloc (.cells #[.int .i64 C.n, .slice r C.L k] 24)) := by
  have h := heap_alloc_new ((w.alloc (.cells #[.int .i64 A.n, .slice p A.L c] 24)).alloc (.cells #[.int .i64 B.n, .slice q B.L d] 24)) (.cells #[.int .i64 C.n, .slice r C.L k] 24)
  rw [World.size_alloc, World.size_alloc] at h
  exact ⟨(TwoBox.new A B p c q d w).ext ((Ext.refl _).alloc _), h⟩
theorem TriBox.cells {A B C : Adv} {z : Nat} {p : Option Addr} {c : Nat} {q : Option Addr} {d : Nat} {r : Option Addr} {k : Nat} {W : World} (h : TriBox A B C z p c q d r k W) : z < W.heap.size ∧ W.cell? ⟨z, 0, none⟩ = some (.int .i64 A.n) ∧ W.cell? ⟨z, 1, none⟩ = some (.slice p A.L c) ∧ z + 1 < W.heap.size ∧ W.cell? ⟨z + 1, 0, none⟩ = some (.int .i64 B.n) ∧ W.cell? ⟨z + 1, 1, none⟩ = some (.slice q B.L d) ∧ z + 1 + 1 < W.heap.size ∧ W.cell? ⟨z + 1 + 1, 0, none⟩ = some (.int .i64 C.n) ∧ W.cell? ⟨z + 1 + 1, 1, none⟩ = some (.slice r C.L k) := by
  obtain ⟨h1, h2, h3, h4, h5, h6⟩ := h.ab.cells
  exact ⟨h1, h2, h3, h4, h5, h6, lt_of_heap h.c, dcell h.c 0, dcell h.c 1⟩
end Go.Proofs.Ytmkmgimmlohamaa
