/-
  The program's Includes and Equivalent, walked.
  Conditions: as each theorem states.
-/
import Derived.OwnWalk
import Derived.Test.YtmkmgimmlohamaaIncT
namespace Go.Proofs.Ytmkmgimmlohamaa
open Go.RowKit
attribute [local go_sem] Oper.semAt_some

theorem row_ne {α : Type} {enc : α → List Value} {size : Nat} {W : World} {x : Value} {l : List α} (h : Row enc size W x l) (hl : l ≠ []) : ∃ b o c, x = .slice (some ⟨b, o, none⟩) l.length c := by
  obtain ⟨p, c, rfl, _, _, h1⟩ := h
  have : 0 < l.length := List.length_pos_iff.2 hl
  obtain ⟨b, o, rfl, _⟩ := h1 this
  exact ⟨b, o, c, rfl⟩
/-- The two adversaries in boxes of their own. -/
structure TwoBox (A B : Adv) (z : Nat) (p : Option Addr) (c : Nat) (q : Option Addr) (d : Nat) (W : World) : Prop where
  a : W.heap[z]? = some (.cells #[.int .i64 A.n, .slice p A.L c] 24 (0, 0))
  b : W.heap[z + 1]? = some (.cells #[.int .i64 B.n, .slice q B.L d] 24 (0, 0))
theorem TwoBox.ext {A B : Adv} {z : Nat} {p : Option Addr} {c : Nat} {q : Option Addr} {d : Nat} {W W' : World} (h : TwoBox A B z p c q d W) (hE : Ext W W') : TwoBox A B z p c q d W' := ⟨(hE.b.block _ (lt_of_heap h.a)).trans h.a, (hE.b.block _ (lt_of_heap h.b)).trans h.b⟩
theorem TwoBox.new (A B : Adv) (p : Option Addr) (c : Nat) (q : Option Addr) (d : Nat) (w : World) : TwoBox A B w.heap.size p c q d ((w.alloc (.cells #[.int .i64 A.n, .slice p A.L c] 24)).alloc (.cells #[.int .i64 B.n, .slice q B.L d] 24)) := by
  have h1 := heap_alloc_new w (.cells #[.int .i64 A.n, .slice p A.L c] 24)
  have h2 := heap_alloc_new (w.alloc (.cells #[.int .i64 A.n, .slice p A.L c] 24)) (.cells #[.int .i64 B.n, .slice q B.L d] 24)
  rw [World.size_alloc] at h2
  exact ⟨(Below.heap_alloc _ _ _ (lt_of_heap h1)).trans h1, h2⟩
theorem TwoBox.cells {A B : Adv} {z : Nat} {p : Option Addr} {c : Nat} {q : Option Addr} {d : Nat} {W : World} (h : TwoBox A B z p c q d W) : z < W.heap.size ∧ W.cell? ⟨z, 0, none⟩ = some (.int .i64 A.n) ∧ W.cell? ⟨z, 1, none⟩ = some (.slice p A.L c) ∧ z + 1 < W.heap.size ∧ W.cell? ⟨z + 1, 0, none⟩ = some (.int .i64 B.n) ∧ W.cell? ⟨z + 1, 1, none⟩ = some (.slice q B.L d) :=
  ⟨lt_of_heap h.a, dcell h.a 0, dcell h.a 1, lt_of_heap h.b, dcell h.b 0, dcell h.b 1⟩
set_option maxRecDepth 16000 in
set_option maxHeartbeats 1000000 in
theorem pincludes_any (A B : Adv) (u v : Value) (w : World) (hA : AdvRep w u A) (hB : AdvRep w v B) (hmA : movesN A ≤ 4611686018427387904) (hmB : movesN B ≤ 4611686018427387904) :
    Calls Try.prog 12 #[u, v] w (RetIn dI A B w) := by
  have HA := hide hA
  have HB := hide hB
  obtain ⟨p, c, rfl, -⟩ := hA.all_
  obtain ⟨q, d, rfl, -⟩ := hB.all_
  clear hA hB
  have HN := hide (TwoBox.new A B p c q d w)
  have HE1 := hide (((Ext.refl w).alloc (.cells #[.int .i64 A.n, .slice p A.L c] 24)).alloc (.cells #[.int .i64 B.n, .slice q B.L d] 24))
  obtain ⟨W1, hW1⟩ : ∃ W1, (w.alloc (.cells #[.int .i64 A.n, .slice p A.L c] 24)).alloc (.cells #[.int .i64 B.n, .slice q B.L d] 24) = W1 := ⟨_, rfl⟩
  rw [hW1] at HN HE1
  have HW1 := hide hW1
  clear hW1
  go_enter Try.func12, Try.ntmps12
  go_wp2_with fail
  rw [HW1.out]
  refine (both_any A B _ _ W1 (HA.out.ext HE1.out) (HB.out.ext HE1.out) hmA hmB).mono ?_
  rintro e w2 ⟨rfl, hE2⟩
  have HN2 := hide (HN.out.ext hE2)
  have HE2 := hide (HE1.out.trans hE2)
  clear hE2 HN HE1 HW1
  by_cases hb : bothI A B = 0
  case neg =>
    have hd : (bothI A B != 0) = true := by simp [hb]
    have HR : Hid (RetIn dI A B w (.returned (.tuple #[.slice none 0 0, .bool false, .int .i64 (bothI A B)])) w2) := ⟨_, _, rfl, HE2.out, .inl ⟨hb, rfl, rfl⟩⟩
    clear hb
    generalize bothI A B = res at hd HR ⊢
    go_wp2_with fail
    go_ret3 -- r1
    exact HR.out
  case pos =>
  have HZ := hide hb
  rw [hb]
  clear hb
  obtain ⟨z0, a0, a1, z1, b0, b1⟩ := HN2.out.cells
  go_wp2_with fail
  refine (search_lack A B _ _ w2 (HA.out.ext HE2.out) (HB.out.ext HE2.out) (bothI_zero HZ.out).1 (bothI_zero HZ.out).2.1).mono ?_
  rintro e w3 ⟨vs, uv, x, rfl, hE3, -, (⟨word, hrow, hne, hmk, hle⟩ | ⟨rfl, ws, hlen, hfull⟩)⟩
  · have HR : Hid (RetIn dI A B w (.returned (.tuple #[x, .bool false, .int .i64 0])) w3) := ⟨_, _, by rw [HZ.out], HE2.out.trans hE3, .inr (.inl ⟨HZ.out, rfl, word, hrow, hne, hmk, hle⟩)⟩
    obtain ⟨b, o, k, rfl⟩ := row_ne hrow hne
    have hnil : ∀ V, (binOp BinOp.eql 27 (.slice (some ⟨b, o, none⟩) word.length k) (.slice none 0 0)).run Try.prog V = .ok (.bool false) V := fun V => by kernel_rfl
    clear hrow hne hmk hle hE3 z0 a0 a1 z1 b0 b1
    go_wp2_with fail
    go_ret3 -- r2
    exact HR.out
  · have HR : Hid (RetIn dI A B w (.returned (.tuple #[.slice none 0 0, .bool true, .int .i64 0])) w3) := ⟨_, _, by rw [HZ.out], HE2.out.trans hE3, .inr (.inr ⟨HZ.out, rfl, rfl, hfull.none_⟩)⟩
    have hnil : ∀ V, (binOp BinOp.eql 27 (.slice none 0 0) (.slice none 0 0)).run Try.prog V = .ok (.bool true) V := fun V => by kernel_rfl
    clear hlen hfull hE3 z0 a0 a1 z1 b0 b1
    go_wp2_with fail
    go_ret3 -- r3
    exact HR.out
set_option maxRecDepth 16000 in
set_option maxHeartbeats 1000000 in
theorem pequiv_any (A B : Adv) (u v : Value) (w : World) (hA : AdvRep w u A) (hB : AdvRep w v B) (hmA : movesN A ≤ 4611686018427387904) (hmB : movesN B ≤ 4611686018427387904) :
    Calls Try.prog 18 #[u, v] w (RetIn dE A B w) := by
  have HA := hide hA
  have HB := hide hB
  obtain ⟨p, c, rfl, -⟩ := hA.all_
  obtain ⟨q, d, rfl, -⟩ := hB.all_
  clear hA hB
  have HN := hide (TwoBox.new A B p c q d w)
  have HE1 := hide (((Ext.refl w).alloc (.cells #[.int .i64 A.n, .slice p A.L c] 24)).alloc (.cells #[.int .i64 B.n, .slice q B.L d] 24))
  obtain ⟨W1, hW1⟩ : ∃ W1, (w.alloc (.cells #[.int .i64 A.n, .slice p A.L c] 24)).alloc (.cells #[.int .i64 B.n, .slice q B.L d] 24) = W1 := ⟨_, rfl⟩
  rw [hW1] at HN HE1
  have HW1 := hide hW1
  clear hW1
  go_enter Try.func18, Try.ntmps18
  go_wp2_with fail
  rw [HW1.out]
  refine (both_any A B _ _ W1 (HA.out.ext HE1.out) (HB.out.ext HE1.out) hmA hmB).mono ?_
  rintro e w2 ⟨rfl, hE2⟩
  have HN2 := hide (HN.out.ext hE2)
  have HE2 := hide (HE1.out.trans hE2)
  clear hE2 HN HE1 HW1
  by_cases hb : bothI A B = 0
  case neg =>
    have hd : (bothI A B != 0) = true := by simp [hb]
    have HR : Hid (RetIn dE A B w (.returned (.tuple #[.slice none 0 0, .bool false, .int .i64 (bothI A B)])) w2) := ⟨_, _, rfl, HE2.out, .inl ⟨hb, rfl, rfl⟩⟩
    clear hb
    generalize bothI A B = res at hd HR ⊢
    go_wp2_with fail
    go_ret3 -- r4
    exact HR.out
  case pos =>
  have HZ := hide hb
  rw [hb]
  clear hb
  obtain ⟨z0, a0, a1, z1, b0, b1⟩ := HN2.out.cells
  go_wp2_with fail
  refine (search_diff A B _ _ w2 (HA.out.ext HE2.out) (HB.out.ext HE2.out) (bothI_zero HZ.out).1 (bothI_zero HZ.out).2.1).mono ?_
  rintro e w3 ⟨vs, uv, x, rfl, hE3, -, (⟨word, hrow, hne, hmk, hle⟩ | ⟨rfl, ws, hlen, hfull⟩)⟩
  · have HR : Hid (RetIn dE A B w (.returned (.tuple #[x, .bool false, .int .i64 0])) w3) := ⟨_, _, by rw [HZ.out], HE2.out.trans hE3, .inr (.inl ⟨HZ.out, rfl, word, hrow, hne, hmk, hle⟩)⟩
    obtain ⟨b, o, k, rfl⟩ := row_ne hrow hne
    have hnil : ∀ V, (binOp BinOp.eql 27 (.slice (some ⟨b, o, none⟩) word.length k) (.slice none 0 0)).run Try.prog V = .ok (.bool false) V := fun V => by kernel_rfl
    clear hrow hne hmk hle hE3 z0 a0 a1 z1 b0 b1
    go_wp2_with fail
    go_ret3 -- r5
    exact HR.out
  · have HR : Hid (RetIn dE A B w (.returned (.tuple #[.slice none 0 0, .bool true, .int .i64 0])) w3) := ⟨_, _, by rw [HZ.out], HE2.out.trans hE3, .inr (.inr ⟨HZ.out, rfl, rfl, hfull.none_⟩)⟩
    have hnil : ∀ V, (binOp BinOp.eql 27 (.slice none 0 0) (.slice none 0 0)).run Try.prog V = .ok (.bool true) V := fun V => by kernel_rfl
    clear hlen hfull hE3 z0 a0 a1 z1 b0 b1
    go_wp2_with fail
    go_ret3 -- r6
    exact HR.out
end Go.Proofs.Ytmkmgimmlohamaa
