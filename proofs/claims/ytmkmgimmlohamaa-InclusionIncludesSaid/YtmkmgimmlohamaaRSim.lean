/-
  The reference's Simulation of law 20; what both sides' Simulation tells.
  Conditions: as each theorem states.
-/
import Derived.Test.YtmkmgimmlohamaaRLeast
namespace Go.Proofs.Ytmkmgimmlohamaa
open Go.RowKit
attribute [local go_sem] Oper.semAt_some

/-- What Simulation tells. -/
def SmT (A B : Adv) (w : World) (en : Ending) (w' : World) : Prop :=
  ∃ x b l, en = .returned (.tuple #[x, .bool b, .int .i64 (bothI A B)]) ∧ Ext w w' ∧ Row pcells 2 w' x l ∧
    ((bothI A B ≠ 0 ∧ b = false ∧ l = []) ∨ (bothI A B = 0 ∧ b = false ∧ l = [] ∧ ∃ u, lackW A B u) ∨
      (bothI A B = 0 ∧ b = true ∧ (∀ u, ¬ lackW A B u) ∧ l.Pairwise plt ∧ ∀ p, p ∈ l ↔ rchP A B p))
/-- One list and one answer. -/
theorem smT_same {A B : Adv} {b c : Bool} {x y : List (Int × Int)}
    (h : (bothI A B ≠ 0 ∧ b = false ∧ x = []) ∨ (bothI A B = 0 ∧ b = false ∧ x = [] ∧ ∃ u, lackW A B u) ∨ (bothI A B = 0 ∧ b = true ∧ (∀ u, ¬ lackW A B u) ∧ x.Pairwise plt ∧ ∀ p, p ∈ x ↔ rchP A B p))
    (k : (bothI A B ≠ 0 ∧ c = false ∧ y = []) ∨ (bothI A B = 0 ∧ c = false ∧ y = [] ∧ ∃ u, lackW A B u) ∨ (bothI A B = 0 ∧ c = true ∧ (∀ u, ¬ lackW A B u) ∧ y.Pairwise plt ∧ ∀ p, p ∈ y ↔ rchP A B p)) : b = c ∧ x = y := by
  rcases h with ⟨h0, rfl, rfl⟩ | ⟨h0, rfl, rfl, u, h1⟩ | ⟨h0, rfl, h1, h2, h3⟩ <;> rcases k with ⟨k0, rfl, rfl⟩ | ⟨k0, rfl, rfl, v, k1⟩ | ⟨k0, rfl, k1, k2, k3⟩
  · exact ⟨rfl, rfl⟩
  · exact absurd k0 h0
  · exact absurd k0 h0
  · exact absurd h0 k0
  · exact ⟨rfl, rfl⟩
  · exact absurd h1 (k1 u)
  · exact absurd h0 k0
  · exact absurd k1 (h1 v)
  · exact ⟨rfl, plt_unique h2 k2 fun p => (h3 p).trans (k3 p).symm⟩
/-- The program's Simulation. -/
theorem smT_of {A B : Adv} {w : World} {en : Ending} {w' : World} (h : RetSm A B w en w') : SmT A B w en w' := by
  obtain ⟨x, b, rfl, hE, (⟨h0, rfl, rfl⟩ | ⟨h0, rfl, rfl, hu⟩ | ⟨h0, rfl, hn, l, hr, _, hp, hm⟩)⟩ := h
  · exact ⟨_, false, [], rfl, hE, Row.nil _ _ _, .inl ⟨h0, rfl, rfl⟩⟩
  · exact ⟨_, false, [], rfl, hE, Row.nil _ _ _, .inr (.inl ⟨h0, rfl, rfl, hu⟩)⟩
  · exact ⟨x, true, l, rfl, hE, hr, .inr (.inr ⟨h0, rfl, hn, hp, hm⟩)⟩
set_option maxRecDepth 16000 in
set_option maxHeartbeats 4000000 in
theorem rsim_any (A B : Adv) (u v : Value) (w : World) (hA : AdvRep w u A) (hB : AdvRep w v B) :
    Calls Try.prog 15 #[u, v] w (SmT A B w) := by
  have HBO := hide (fun W (hE : Ext w W) => rboth_any A B u v W (hA.ext hE) (hB.ext hE))
  have HFI := hide (fun W (hE : Ext w W) (h : bothI A B = 0) => rleast_any A B u v W (hA.ext hE) (hB.ext hE) (bothI_zero h).1 (bothI_zero h).2.1)
  obtain ⟨p, c, rfl, -⟩ := hA.all_
  obtain ⟨q, d, rfl, -⟩ := hB.all_
  clear hA hB
  obtain ⟨bo, hbo⟩ : ∃ bo, bothI A B = bo := ⟨_, rfl⟩
  rw [hbo] at HBO
  have HBOE := hide hbo
  clear hbo
  have HN := hide (TwoBox.new A B p c q d w)
  have HE1 := hide (((Ext.refl w).alloc (.cells #[.int .i64 A.n, .slice p A.L c] 24)).alloc (.cells #[.int .i64 B.n, .slice q B.L d] 24))
  obtain ⟨W1, hW1⟩ : ∃ W1, (w.alloc (.cells #[.int .i64 A.n, .slice p A.L c] 24)).alloc (.cells #[.int .i64 B.n, .slice q B.L d] 24) = W1 := ⟨_, rfl⟩
  rw [hW1] at HN HE1
  have HW1 := hide hW1
  clear hW1
  go_enter Try.func15, Try.ntmps15
  obtain ⟨z, hz⟩ : ∃ z, w.heap.size = z := ⟨_, rfl⟩
  rw [hz] at HN
  go_wp2_with fail
  rw [HW1.out]
  refine (HBO.out W1 HE1.out).mono ?_
  rintro e w2 ⟨rfl, hE2⟩
  have HN2 := hide (HN.out.ext hE2)
  have HE2 := hide (HE1.out.trans hE2)
  clear hE2 HN HE1 HW1 hz
  by_cases hbo : bo = 0
  case neg =>
    have d1 : decide (bo = 0) = false := decide_eq_false hbo
    have hne : (bo != 0) = true := by simpa using hbo
    go_wp2_with fail
    go_ret3
    exact ⟨_, false, [], by rw [HBOE.out]; rfl, HE2.out, Row.nil _ _ _, .inl ⟨by rw [HBOE.out]; exact hbo, rfl, rfl⟩⟩
  subst hbo
  obtain ⟨z0, a0, a1, z1, b0, b1⟩ := HN2.out.cells
  go_wp2_with fail
  refine (HFI.out w2 HE2.out HBOE.out).mono ?_
  rintro e w3 ⟨x, bx, rfl, hE3, hx⟩
  have HE3 := hide (HE2.out.trans hE3)
  have HG : Hid (SmT A B w (.returned (.tuple #[x, .bool bx, .int .i64 0])) w3) := by
    rcases hx with ⟨rfl, rfl, hu⟩ | ⟨rfl, hn, l, hr, hp, hm⟩
    · exact ⟨_, false, [], by rw [HBOE.out], HE3.out, Row.nil _ _ _, .inr (.inl ⟨HBOE.out, rfl, rfl, hu⟩)⟩
    · exact ⟨_, true, l, by rw [HBOE.out], HE3.out, hr, .inr (.inr ⟨HBOE.out, rfl, hn, hp, hm⟩)⟩
  clear hE3 hx z0 a0 a1 z1 b0 b1
  go_wp2_with fail
  go_ret3
  exact HG.out
end Go.Proofs.Ytmkmgimmlohamaa
