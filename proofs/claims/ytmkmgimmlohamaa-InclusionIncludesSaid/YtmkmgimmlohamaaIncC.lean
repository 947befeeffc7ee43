/-
  Inclusion, plain: the least simulation is one; extra words; how long a word that tells a difference is.
  Conditions: none.
-/
import Derived.Test.YtmkmgimmlohamaaIncR
import Derived.Test.YtmkmgimmlohamaaAdvRef3
import Derived.Test.YtmkmgimmlohamaaIncAw
namespace Go.Proofs.Ytmkmgimmlohamaa
open Go.RowKit
attribute [local go_sem] Oper.semAt_some

set_option maxRecDepth 16000 in
theorem rfew2_any (A B : Adv) (u v : Value) (w : World) (hA : AdvRep w u A) (hB : AdvRep w v B) :
    Calls Try.prog 10 #[u, v] w fun e w' => e = .returned (.bool (afew A && afew B)) ∧ Ext w w' := by
  have HA := hide hA
  have HB := hide hB
  obtain ⟨p, c, rfl, -⟩ := hA.all_
  obtain ⟨q, d, rfl, -⟩ := hB.all_
  clear hA hB
  have HN := hide (TwoBox.new A B p c q d w)
  have HE1 := hide (((Ext.refl w).alloc (.cells #[.int .i64 A.n, .slice p A.L c] 24)).alloc (.cells #[.int .i64 B.n, .slice q B.L d] 24))
  obtain ⟨W1, hW1⟩ : ∃ W1, (w.alloc (.cells #[.int .i64 A.n, .slice p A.L c] 24)).alloc (.cells #[.int .i64 B.n, .slice q B.L d] 24) = W1 := ⟨_, rfl⟩
  rw [hW1] at HN HE1
  have HW1 := hide hW1
  clear hW1
  go_enter Try.func10, Try.ntmps10
  go_wp2_with fail
  rw [HW1.out]
  refine (rfew_any A _ W1 (HA.out.ext HE1.out)).mono ?_
  rintro e w2 ⟨rfl, hE2⟩
  have HN2 := hide (HN.out.ext hE2)
  have HE2 := hide (HE1.out.trans hE2)
  clear hE2 HN HE1 HW1
  cases hb : afew A with
  | false =>
    go_wp2_with fail
    go_ret
    exact ⟨by rw [hb]; rfl, HE2.out⟩
  | true =>
    obtain ⟨z0, a0, a1, z1, b0, b1⟩ := HN2.out.cells
    go_wp2_with fail
    refine (rfew_any B _ w2 (HB.out.ext HE2.out)).mono ?_
    rintro e w3 ⟨rfl, hE3⟩
    have HE3 := hide (HE2.out.trans hE3)
    clear z0 a0 a1 z1 b0 b1 hE3
    go_wp2_with fail
    go_ret
    exact ⟨by rw [hb]; rfl, HE3.out⟩
set_option maxRecDepth 16000 in
theorem rboth_any (A B : Adv) (u v : Value) (w : World) (hA : AdvRep w u A) (hB : AdvRep w v B) :
    Calls Try.prog 26 #[u, v] w fun e w' => e = .returned (.int .i64 (bothI A B)) ∧ Ext w w' := by
  have HA := hide hA
  have HB := hide hB
  obtain ⟨p, c, rfl, -⟩ := hA.all_
  obtain ⟨q, d, rfl, -⟩ := hB.all_
  clear hA hB
  have HN := hide (TwoBox.new A B p c q d w)
  have HE1 := hide (((Ext.refl w).alloc (.cells #[.int .i64 A.n, .slice p A.L c] 24)).alloc (.cells #[.int .i64 B.n, .slice q B.L d] 24))
  obtain ⟨W1, hW1⟩ : ∃ W1, (w.alloc (.cells #[.int .i64 A.n, .slice p A.L c] 24)).alloc (.cells #[.int .i64 B.n, .slice q B.L d] 24) = W1 := ⟨_, rfl⟩
  rw [hW1] at HN HE1
  have HW1 := hide hW1
  clear hW1
  have H1 : Hid (achk A ≠ 0 → bothI A B = achk A) := fun h => if_pos h
  have H2 : Hid (achk A = 0 → achk B ≠ 0 → bothI A B = achk B) := fun h h2 => (if_neg (fun k => k h)).trans (if_pos h2)
  have H3 : Hid (achk A = 0 → achk B = 0 → A.n ≠ B.n → bothI A B = 22) := fun h h2 h3 => (if_neg (fun k => k h)).trans ((if_neg (fun k => k h2)).trans (if_pos h3))
  have H4 : Hid (achk A = 0 → achk B = 0 → A.n = B.n → bothI A B = 0) := fun h h2 h3 => (if_neg (fun k => k h)).trans ((if_neg (fun k => k h2)).trans (if_neg (fun k => k h3)))
  generalize bothI A B = res at H1 H2 H3 H4 ⊢
  go_enter Try.func26, Try.ntmps26
  go_wp2_with fail
  rw [HW1.out]
  refine (racheck_any A _ W1 (HA.out.ext HE1.out)).mono ?_
  rintro e w2 ⟨rfl, hE2⟩
  have HN2 := hide (HN.out.ext hE2)
  have HE2 := hide (HE1.out.trans hE2)
  clear hE2 HN HE1 HW1
  by_cases ha0 : achk A = 0
  case neg =>
    have hd : (achk A != 0) = true := by simp [ha0]
    obtain rfl := H1.out ha0
    clear ha0 H1 H2 H3 H4
    go_wp2_with fail
    go_ret
    exact ⟨rfl, HE2.out⟩
  case pos =>
  have HZ1 := hide ha0
  rw [ha0]
  clear ha0
  obtain ⟨z0, a0, a1, z1, b0, b1⟩ := HN2.out.cells
  go_wp2_with fail
  refine (racheck_any B _ w2 (HB.out.ext HE2.out)).mono ?_
  rintro e w3 ⟨rfl, hE3⟩
  have HN3 := hide (HN2.out.ext hE3)
  have HE3 := hide (HE2.out.trans hE3)
  clear hE3 HN2 HE2 z0 a0 a1 z1 b0 b1
  by_cases hb0 : achk B = 0
  case neg =>
    have hd : (achk B != 0) = true := by simp [hb0]
    obtain rfl := H2.out HZ1.out hb0
    clear hb0 H1 H2 H3 H4
    go_wp2_with fail
    go_ret
    exact ⟨rfl, HE3.out⟩
  case pos =>
  have HZ2 := hide hb0
  rw [hb0]
  clear hb0
  obtain ⟨z0, a0, a1, z1, b0, b1⟩ := HN3.out.cells
  by_cases hn : A.n = B.n
  · have hd : (A.n != B.n) = false := by simp [hn]
    obtain rfl := H4.out HZ1.out HZ2.out hn
    clear hn H1 H2 H3 H4
    go_wp2_with fail
    go_ret
    exact ⟨rfl, HE3.out⟩
  · have hd : (A.n != B.n) = true := by simp [hn]
    obtain rfl := H3.out HZ1.out HZ2.out hn
    clear hn H1 H2 H3 H4
    go_wp2_with fail
    go_ret
    exact ⟨rfl, HE3.out⟩
end Go.Proofs.Ytmkmgimmlohamaa

namespace Go.Proofs.Ytmkmgimmlohamaa
open Go.RowKit

/-- Each word of B is one of A. -/
def Inc (A B : Adv) : Prop := ∀ u, 0 ≤ after B 0 u → 0 ≤ after A 0 u
theorem inc_lack {A B : Adv} : Inc A B ↔ ∀ u, ¬ lackW A B u := by
  constructor
  · rintro h u ⟨v, r, rfl, _, h2, h3⟩
    have := h _ h3
    omega
  · intro h
    have key : ∀ (n : Nat) (u : List Rd), u.length = n → 0 ≤ after B 0 u → 0 ≤ after A 0 u := by
      intro n
      induction n with
      | zero =>
        intro u hu _
        rw [List.length_eq_zero_iff.1 hu]; simp [after]
      | succ n ih =>
        intro u hu hb
        have hne : u ≠ [] := fun e => by rw [e] at hu; simp at hu
        have huu := (List.dropLast_concat_getLast hne).symm
        generalize u.dropLast = v at huu
        generalize u.getLast hne = r at huu
        subst huu
        have h1 := ih v (by simpa using hu) (after_snoc_ge hb)
        refine Classical.byContradiction fun hn => ?_
        exact h _ ⟨v, r, rfl, h1, by omega, hb⟩
    exact fun u => key _ u rfl
theorem Inc.refl (A : Adv) : Inc A A := fun _ h => h
theorem Inc.trans {A B C : Adv} (h : Inc A B) (k : Inc B C) : Inc A C := fun u hu => h u (k u hu)
open Classical in
/-- Includes, told by inclusion. -/
theorem inc_told {A B : Adv} (h0 : bothI A B = 0) {w : World} {en : Ending} {w' : World} (h : RetIn dI A B w en w') :
    ∃ x word, en = .returned (.tuple #[x, .bool (decide (Inc A B)), .int .i64 0]) ∧ Ext w w' ∧ Row Rd.cells 7 w' x word ∧ ((Inc A B ∧ word = [] ∧ x = .slice none 0 0) ∨ (¬ Inc A B ∧ lackW A B word ∧ ∀ u, lackW A B u → Wle word u)) := by
  have hA := (bothI_zero h0).1
  have hB := (bothI_zero h0).2.1
  obtain ⟨x, b, rfl, hE, (⟨h, _⟩ | ⟨_, rfl, word, hr, _, hm, hle⟩ | ⟨_, rfl, rfl, hn⟩)⟩ := h
  · exact absurd h0 h
  · have hl := (markI hA hB word).1 hm
    have hi : ¬ Inc A B := fun k => inc_lack.1 k word hl
    exact ⟨x, word, by rw [h0, decide_eq_false hi], hE, hr, .inr ⟨hi, hl, fun u hu => hle u ((markI hA hB u).2 hu)⟩⟩
  · have hi : Inc A B := inc_lack.2 fun u hu => hn u ((markI hA hB u).2 hu)
    exact ⟨.slice none 0 0, [], by rw [h0, decide_eq_true hi], hE, ⟨none, 0, rfl, Nat.le_refl _, ⟨by omega, by simp⟩, fun h => by simp at h⟩, .inl ⟨hi, rfl, rfl⟩⟩
open Classical in
/-- Equivalent, told by inclusion. -/
theorem eqv_told {A B : Adv} (h0 : bothI A B = 0) {w : World} {en : Ending} {w' : World} (h : RetIn dE A B w en w') :
    ∃ x word, en = .returned (.tuple #[x, .bool (decide (Inc A B) && decide (Inc B A)), .int .i64 0]) ∧ Ext w w' ∧ Row Rd.cells 7 w' x word ∧ ((Inc A B ∧ Inc B A ∧ word = []) ∨ (¬ (Inc A B ∧ Inc B A) ∧ (lackW A B word ∨ lackW B A word) ∧ ∀ u, lackW A B u ∨ lackW B A u → Wle word u)) := by
  have hA := (bothI_zero h0).1
  have hB := (bothI_zero h0).2.1
  obtain ⟨x, b, rfl, hE, (⟨h, _⟩ | ⟨_, rfl, word, hr, _, hm, hle⟩ | ⟨_, rfl, rfl, hn⟩)⟩ := h
  · exact absurd h0 h
  · have hl := (markE hA hB word).1 hm
    have hi : ¬ (Inc A B ∧ Inc B A) := fun k => hl.elim (inc_lack.1 k.1 word) (inc_lack.1 k.2 word)
    refine ⟨x, word, ?_, hE, hr, .inr ⟨hi, hl, fun u hu => hle u ((markE hA hB u).2 hu)⟩⟩
    rw [h0]
    by_cases h1 : Inc A B
    · rw [decide_eq_true h1, decide_eq_false (fun h2 => hi ⟨h1, h2⟩)]; rfl
    · rw [decide_eq_false h1]; rfl
  · have h1 : Inc A B := inc_lack.2 fun u hu => hn u ((markE hA hB u).2 (.inl hu))
    have h2 : Inc B A := inc_lack.2 fun u hu => hn u ((markE hA hB u).2 (.inr hu))
    exact ⟨.slice none 0 0, [], by rw [h0, decide_eq_true h1, decide_eq_true h2]; rfl, hE, ⟨none, 0, rfl, Nat.le_refl _, ⟨by omega, by simp⟩, fun h => by simp at h⟩, .inl ⟨h1, h2, rfl⟩⟩
/-- Words that both ways tell a difference are one. -/
theorem eqv_same {A B : Adv} {x y : List Rd} (hx : (Inc A B ∧ Inc B A ∧ x = []) ∨ (¬ (Inc A B ∧ Inc B A) ∧ (lackW A B x ∨ lackW B A x) ∧ ∀ u, lackW A B u ∨ lackW B A u → Wle x u))
    (hy : (Inc B A ∧ Inc A B ∧ y = []) ∨ (¬ (Inc B A ∧ Inc A B) ∧ (lackW B A y ∨ lackW A B y) ∧ ∀ u, lackW B A u ∨ lackW A B u → Wle y u)) : x = y := by
  rcases hx with ⟨h1, h2, rfl⟩ | ⟨h1, h2, h3⟩ <;> rcases hy with ⟨k1, k2, rfl⟩ | ⟨k1, k2, k3⟩
  · rfl
  · exact absurd ⟨h2, h1⟩ k1
  · exact absurd ⟨k2, k1⟩ h1
  · exact least_eq (P := fun u => lackW A B u ∨ lackW B A u) h2 h3 k2.symm fun u hu => k3 u hu.symm
theorem bothI_of {A B : Adv} (h1 : achk A = 0) (h2 : achk B = 0) (h3 : A.n = B.n) : bothI A B = 0 := by
  unfold bothI
  rw [if_neg (fun k => k h1), if_neg (fun k => k h2), if_neg (fun k => k h3)]
theorem afew_moves {A : Adv} (h : afew A = true) : movesN A ≤ 4611686018427387904 := by
  unfold afew at h
  simp only [Bool.and_eq_true, decide_eq_true_eq] at h
  omega
/-- Three adversaries in boxes of their own. -/
structure TriBox (A B C : Adv) (z : Nat) (p : Option Addr) (c : Nat) (q : Option Addr) (d : Nat) (r : Option Addr) (k : Nat) (W : World) : Prop where
  ab : TwoBox A B z p c q d W
  c : W.heap[z + 1 + 1]? = some (.cells #[.int .i64 C.n, .slice r C.L k] 24 (0, 0))
theorem TriBox.ext {A B C : Adv} {z : Nat} {p : Option Addr} {c : Nat} {q : Option Addr} {d : Nat} {r : Option Addr} {k : Nat} {W W' : World} (h : TriBox A B C z p c q d r k W) (hE : Ext W W') : TriBox A B C z p c q d r k W' := ⟨h.ab.ext hE, (hE.b.block _ (lt_of_heap h.c)).trans h.c⟩
theorem TriBox.new (A B C : Adv) (p : Option Addr) (c : Nat) (q : Option Addr) (d : Nat) (r : Option Addr) (k : Nat) (w : World) : TriBox A B C w.heap.size p c q d r k (((w.alloc (.cells #[.int .i64 A.n, .slice p A.L c] 24)).alloc (.cells #[.int .i64 B.n, .slice q B.L d] 24)).alloc (.cells #[.int .i64 C.n, .slice r C.L k] 24)) := by
  have h := heap_alloc_new ((w.alloc (.cells #[.int .i64 A.n, .slice p A.L c] 24)).alloc (.cells #[.int .i64 B.n, .slice q B.L d] 24)) (.cells #[.int .i64 C.n, .slice r C.L k] 24)
  rw [World.size_alloc, World.size_alloc] at h
  exact ⟨(TwoBox.new A B p c q d w).ext ((Ext.refl _).alloc _), h⟩
theorem TriBox.cells {A B C : Adv} {z : Nat} {p : Option Addr} {c : Nat} {q : Option Addr} {d : Nat} {r : Option Addr} {k : Nat} {W : World} (h : TriBox A B C z p c q d r k W) : z < W.heap.size ∧ W.cell? ⟨z, 0, none⟩ = some (.int .i64 A.n) ∧ W.cell? ⟨z, 1, none⟩ = some (.slice p A.L c) ∧ z + 1 < W.heap.size ∧ W.cell? ⟨z + 1, 0, none⟩ = some (.int .i64 B.n) ∧ W.cell? ⟨z + 1, 1, none⟩ = some (.slice q B.L d) ∧ z + 1 + 1 < W.heap.size ∧ W.cell? ⟨z + 1 + 1, 0, none⟩ = some (.int .i64 C.n) ∧ W.cell? ⟨z + 1 + 1, 1, none⟩ = some (.slice r C.L k) := by
  obtain ⟨h1, h2, h3, h4, h5, h6⟩ := h.ab.cells
  exact ⟨h1, h2, h3, h4, h5, h6, lt_of_heap h.c, dcell h.c 0, dcell h.c 1⟩
end Go.Proofs.Ytmkmgimmlohamaa

namespace Go.Proofs.Ytmkmgimmlohamaa
open Go.RowKit

theorem after_app0 (A : Adv) (x y : List Rd) : after A 0 (x ++ y) = after A (after A 0 x) y := after_app A y x 0
/-- The pairs that words lead to are a simulation, if B's words are A's. -/
theorem sim_least {A B : Adv} (h0 : bothI A B = 0) (hI : Inc A B) {l : List (Int × Int)} (hp : l.Pairwise plt) (hm : ∀ p, p ∈ l ↔ rchP A B p) : verS A B l = 0 := by
  have hA := (bothI_zero h0).1
  have hB := (bothI_zero h0).2.1
  have a2 := (achk_zero hA).2.2.2.1
  have b2 := (achk_zero hB).2.2.2.1
  have hin : ∀ p ∈ l, 0 ≤ p.1 ∧ p.1 < B.L ∧ 0 ≤ p.2 ∧ p.2 < A.L := fun p h => by
    obtain ⟨u, h1, h2, rfl⟩ := (hm p).1 h
    exact ⟨h2, after_bd hB u 0 (by have := (achk_zero hB).2.2.1; omega), h1, after_bd hA u 0 (by have := (achk_zero hA).2.2.1; omega)⟩
  refine verS_ok h0 ?_ (fun p h => decide_eq_true (hin p h)) ((hm _).2 ⟨[], by simp [after], by simp [after], rfl⟩) fun p h => ?_
  · have hd : (l.map fun x => (x.1 * 256 + x.2).toNat).Pairwise (· ≠ ·) := by
      rw [List.pairwise_map]
      refine List.Pairwise.imp_of_mem (fun {x y} hx hy hxy heq => ?_) hp
      obtain ⟨x1, x2, x3, x4⟩ := hin x hx
      obtain ⟨y1, y2, y3, y4⟩ := hin y hy
      unfold plt at hxy
      omega
    have := few_nats 65536 _ hd fun n hn => by
      obtain ⟨x, hx, rfl⟩ := List.mem_map.1 hn
      obtain ⟨x1, x2, x3, x4⟩ := hin x hx
      omega
    rw [List.length_map] at this
    omega
  · obtain ⟨u, h1, h2, rfl⟩ := (hm p).1 h
    unfold folB
    rw [List.all_eq_true]
    intro m hmm
    have e1 : after B 0 (u ++ [m.r]) = m.to := by rw [after_snoc h2, toL_in (okM_of hB _) hmm]
    have e2 : after A 0 (u ++ [m.r]) = toL (A.st.getD (after A 0 u).toNat []) m.r := after_snoc h1 _
    have h3 : 0 ≤ after B 0 (u ++ [m.r]) := by rw [e1]; exact (okM_of hB _).to m hmm
    have h4 := hI _ h3
    rw [Bool.and_eq_true, decide_eq_true_eq, decide_eq_true_eq]
    exact ⟨by rw [← e2]; exact h4, (hm _).2 ⟨u ++ [m.r], h4, h3, by rw [e1, e2]⟩⟩
theorem own_step {A : Adv} (x : Int) (r : Rd) (u : List Rd) : after A x (r :: u) < 0 ↔ after A (toL (ownS A x) r) u < 0 := by
  unfold ownS
  simp only [after]
  by_cases h : x < 0
  · rw [if_pos h, if_pos h, toL_nil, after_neg (by decide)]
    omega
  · rw [if_neg h, if_neg h]
/-- No word of this length is extra. -/
theorem exN_zero {A B : Adv} (hB : achk B = 0) : ∀ (k : Nat) (p : Int × Int), 0 ≤ p.2 → (exN A B k p = 0 ↔ ∀ u : List Rd, u.length = k → 0 ≤ after B p.2 u → ¬ after A p.1 u < 0)
  | 0, p, h => by
    simp only [exN]
    constructor
    · intro h0 u hu _ hn
      rw [List.length_eq_zero_iff.1 hu] at hn
      simp only [after] at hn
      rw [if_pos hn] at h0
      exact absurd h0 (by decide)
    · intro h0
      have h1 := h0 [] rfl (by simpa [after] using h)
      simp only [after] at h1
      rw [if_neg h1]
  | k + 1, p, h => by
    have e : exN A B (k + 1) p = ((stepX A B p).map (exN A B k)).sum := rfl
    have hz : ((stepX A B p).map (exN A B k)).sum = 0 ↔ ∀ q ∈ stepX A B p, exN A B k q = 0 := by
      generalize stepX A B p = l
      induction l with
      | nil => simp
      | cons y l ih => rw [List.map_cons, List.sum_cons, Nat.add_eq_zero_iff, ih]; simp
    rw [e, hz]
    unfold stepX
    constructor
    · intro h0 u hu hb
      cases u with
      | nil => simp at hu
      | cons r u =>
        rw [own_step]
        have eB : after B p.2 (r :: u) = after B (toL (B.st.getD p.2.toNat []) r) u := by simp only [after]; rw [if_neg (by omega)]
        rw [eB] at hb
        have hx : 0 ≤ toL (B.st.getD p.2.toNat []) r := by
          refine Classical.byContradiction fun hn => ?_
          rw [after_neg (by omega)] at hb
          exact hn hb
        obtain ⟨m, hm, rfl⟩ := (toL_ge (okM_of hB _) r).1 hx
        rw [toL_in (okM_of hB _) hm] at hb hx
        exact (exN_zero hB k (toL (ownS A p.1) m.r, m.to) hx).1 (h0 _ (List.mem_map.2 ⟨m, hm, rfl⟩)) u (by simpa using hu) hb
    · intro h0 q hq
      obtain ⟨m, hm, rfl⟩ := List.mem_map.1 hq
      have hmt := (okM_of hB _).to m hm
      refine (exN_zero hB k _ hmt).2 fun u hu hb => ?_
      have eB : after B p.2 (m.r :: u) = after B (toL (B.st.getD p.2.toNat []) m.r) u := by simp only [after]; rw [if_neg (by omega)]
      have := h0 (m.r :: u) (by simp [hu]) (by rw [eB, toL_in (okM_of hB _) hm]; exact hb)
      rw [own_step] at this
      exact this
theorem sum_le {α : Type} (f : α → Nat) (M : Nat) : ∀ l : List α, (∀ x ∈ l, f x ≤ M) → (l.map f).sum ≤ l.length * M
  | [], _ => by simp
  | x :: l, h => by
    rw [List.map_cons, List.sum_cons, List.length_cons, Nat.add_mul, Nat.one_mul]
    have h1 := h x (List.mem_cons_self ..)
    have h2 := sum_le f M l fun y hy => h y (List.mem_cons_of_mem _ hy)
    omega
theorem len_moves (B : Adv) (s : Nat) : (B.st.getD s []).length ≤ movesN B := by
  have key : ∀ (l : List (List Mv)) (s : Nat), (l.getD s []).length ≤ (l.map List.length).sum := by
    intro l
    induction l with
    | nil => intro s; simp
    | cons x l ih =>
      intro s
      cases s with
      | zero => simp
      | succ s =>
        have := ih s
        simp only [List.getD_cons_succ, List.map_cons, List.sum_cons] at this ⊢
        omega
  exact key B.st s
theorem exN_le {A B : Adv} {M : Nat} (hM : movesN B ≤ M) : ∀ (k : Nat) (p : Int × Int), exN A B k p ≤ M ^ k
  | 0, p => by simp only [exN]; split <;> simp
  | k + 1, p => by
    have h1 := sum_le (exN A B k) (M ^ k) (stepX A B p) fun q _ => exN_le hM k q
    have h2 : (stepX A B p).length ≤ M := by
      unfold stepX
      rw [List.length_map]
      exact Nat.le_trans (len_moves B _) hM
    have h3 : (stepX A B p).length * M ^ k ≤ M * M ^ k := Nat.mul_le_mul_right _ h2
    rw [Nat.pow_succ, Nat.mul_comm]
    exact Nat.le_trans h1 h3
theorem extra_few {A B : Adv} (h0 : bothI A B = 0) (hm : movesN B ≤ 40) {k : Nat} (hk : k ≤ 3) : extraS A B k = (((exN A B k (0, 0) : Nat) : Int), 0) := by
  unfold extraS
  have h1 := exN_le (A := A) hm k (0, 0)
  have h2 : (40 : Nat) ^ k ≤ 40 ^ 3 := Nat.pow_le_pow_right (by decide) hk
  have h3 : (40 : Nat) ^ 3 = 64000 := by decide
  rw [if_neg (fun h => h h0), if_neg (by omega), Int.toNat_natCast, if_neg (by unfold bigM; omega)]
theorem inc_extra {A B : Adv} (h0 : bothI A B = 0) (hI : Inc A B) (k : Nat) : exN A B k (0, 0) = 0 :=
  (exN_zero (bothI_zero h0).2.1 k (0, 0) (by decide)).2 fun u _ hb => by
    have h1 : 0 ≤ after A 0 u := hI u hb
    show ¬ after A 0 u < 0
    omega
/-- A word of B that A lacks begins with one that tells the difference at its end. -/
theorem lack_begin {A B : Adv} : ∀ (n : Nat) (u : List Rd), u.length = n → 0 ≤ after B 0 u → after A 0 u < 0 → ∃ v, lackW A B v ∧ v.length ≤ n := by
  intro n
  induction n with
  | zero =>
    intro u hu _ hA
    rw [List.length_eq_zero_iff.1 hu] at hA
    exact absurd hA (by simp [after])
  | succ n ih =>
    intro u hu hB hA
    have hne : u ≠ [] := fun e => by rw [e] at hu; simp at hu
    have huu := (List.dropLast_concat_getLast hne).symm
    generalize u.dropLast = v at huu
    generalize u.getLast hne = r at huu
    subst huu
    by_cases h : after A 0 v < 0
    · obtain ⟨v', h1, h2⟩ := ih v (by simpa using hu) (after_snoc_ge hB) h
      exact ⟨v', h1, by omega⟩
    · exact ⟨v ++ [r], ⟨v, r, rfl, by omega, hA, hB⟩, by omega⟩
theorem wle_len {u v : List Rd} (h : Wle u v) : u.length ≤ v.length := by
  rcases h with (h | h) | h
  · omega
  · exact Nat.le_of_eq h.len
  · rw [h]; exact Nat.le_refl _
/-- Numbers of extra words, below and at the length of the least word that tells the difference. -/
theorem extra_least {A B : Adv} (h0 : bothI A B = 0) {word : List Rd} (hw : lackW A B word) (hle : ∀ u, lackW A B u → Wle word u) (k : Nat) : (k < word.length → exN A B k (0, 0) = 0) ∧ (k = word.length → 0 < exN A B k (0, 0)) := by
  have hz := exN_zero (A := A) (bothI_zero h0).2.1 k (0, 0) (by decide)
  constructor
  · intro hk
    refine hz.2 fun u hu hb hn => ?_
    obtain ⟨v, h1, h2⟩ := lack_begin k u hu hb hn
    have := wle_len (hle v h1)
    omega
  · rintro rfl
    refine Nat.pos_of_ne_zero fun hn => ?_
    obtain ⟨v, r, rfl, _, h2, h3⟩ := hw
    exact hz.1 hn _ rfl h3 h2
theorem lack_len {A B : Adv} (h0 : bothI A B = 0) (hLA : A.L ≤ 8) (hLB : B.L ≤ 8) {word : List Rd} (hw : lackW A B word) (hle : ∀ u, lackW A B u → Wle word u) : 0 < word.length ∧ word.length ≤ 64 := by
  have hA := (bothI_zero h0).1
  have hB := (bothI_zero h0).2.1
  obtain ⟨v, r, rfl, h1, h2, h3⟩ := hw
  have hBv := after_snoc_ge h3
  refine ⟨by simp, ?_⟩
  have pre : ∀ (C : Adv), 0 ≤ after C 0 v → ∀ i, 0 ≤ after C 0 (v.take i) := fun C hC i => by
    rw [← List.take_append_drop i v, after_app0] at hC
    refine Classical.byContradiction fun hn => ?_
    rw [after_neg (by omega)] at hC
    exact hn hC
  have hd : ((List.range (v.length + 1)).map fun i => (after A 0 (v.take i)).toNat * 8 + (after B 0 (v.take i)).toNat).Pairwise (· ≠ ·) := by
    rw [List.pairwise_map]
    refine List.Pairwise.imp_of_mem (fun {i j} hi hj hij heq => ?_) List.pairwise_lt_range
    have hj' : j ≤ v.length := by have := List.mem_range.1 hj; omega
    have ai := pre A h1 i
    have aj := pre A h1 j
    have bi := pre B hBv i
    have bj := pre B hBv j
    have aib := after_bd hA (v.take i) 0 (by have := (achk_zero hA).2.2.1; omega)
    have ajb := after_bd hA (v.take j) 0 (by have := (achk_zero hA).2.2.1; omega)
    have bib := after_bd hB (v.take i) 0 (by have := (achk_zero hB).2.2.1; omega)
    have bjb := after_bd hB (v.take j) 0 (by have := (achk_zero hB).2.2.1; omega)
    have ea : after A 0 (v.take i) = after A 0 (v.take j) := by omega
    have eb : after B 0 (v.take i) = after B 0 (v.take j) := by omega
    have cut : ∀ (C : Adv), after C 0 (v.take i) = after C 0 (v.take j) → ∀ x, after C 0 ((v.take i ++ v.drop j) ++ x) = after C 0 (v ++ x) := fun C e x => by
      rw [List.append_assoc, after_app0, e, ← after_app0, ← List.append_assoc, List.take_append_drop]
    have hl : lackW A B ((v.take i ++ v.drop j) ++ [r]) := by
      refine ⟨_, r, rfl, ?_, by rw [cut A ea]; exact h2, by rw [cut B eb]; exact h3⟩
      have := cut A ea []
      rw [List.append_nil, List.append_nil] at this
      rw [this]; exact h1
    have := wle_len (hle _ hl)
    simp at this
    omega
  have := few_nats 64 _ hd fun n hn => by
    obtain ⟨i, _, rfl⟩ := List.mem_map.1 hn
    have ai := pre A h1 i
    have bi := pre B hBv i
    have aib := after_bd hA (v.take i) 0 (by have := (achk_zero hA).2.2.1; omega)
    have bib := after_bd hB (v.take i) 0 (by have := (achk_zero hB).2.2.1; omega)
    omega
  simpa using this
theorem lack_begins {A B : Adv} {word : List Rd} (hw : lackW A B word) : 0 ≤ after B 0 word ∧ after A 0 word < 0 ∧ 0 ≤ after A 0 (word.take (word.length - 1)) := by
  obtain ⟨v, r, rfl, h1, h2, h3⟩ := hw
  refine ⟨h3, h2, ?_⟩
  have : (v ++ [r]).take ((v ++ [r]).length - 1) = v := by simp
  rw [this]; exact h1
theorem afew_parts {A : Adv} (h : afew A = true) : A.L ≤ 8 ∧ movesN A ≤ 40 := by
  unfold afew at h
  simp only [Bool.and_eq_true, decide_eq_true_eq] at h
  exact h
end Go.Proofs.Ytmkmgimmlohamaa
