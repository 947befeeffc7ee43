/-
  Simulations are sound, plain; what the functions answer for the examples of law 20.
  Conditions: none.
-/
import Derived.Test.YtmkmgimmlohamaaIncA
namespace Go.Proofs.Ytmkmgimmlohamaa
open Go.RowKit

theorem verS_zero {A B : Adv} {prs : List (Int × Int)} (h : verS A B prs = 0) : bothI A B = 0 ∧ ¬ 65536 < prs.length ∧ (∀ p ∈ prs, inbB A B p = true) ∧ ((0 : Int), (0 : Int)) ∈ prs ∧ ∀ p ∈ prs, folB A B prs p = true := by
  unfold verS at h
  by_cases h1 : bothI A B ≠ 0
  · rw [if_pos h1] at h; exact absurd h h1
  rw [if_neg h1] at h
  by_cases h2 : 65536 < prs.length
  · rw [if_pos h2] at h; exact absurd h (by decide)
  rw [if_neg h2] at h
  by_cases h3 : prs.all (inbB A B) = false
  · rw [if_pos h3] at h; exact absurd h (by decide)
  rw [if_neg h3] at h
  by_cases h4 : ((0 : Int), (0 : Int)) ∉ prs
  · rw [if_pos h4] at h; exact absurd h (by decide)
  rw [if_neg h4] at h
  by_cases h5 : prs.all (folB A B prs) = false
  · rw [if_pos h5] at h; exact absurd h (by decide)
  exact ⟨by simpa using h1, h2, List.all_eq_true.1 (by simpa using h3), by simpa using h4, List.all_eq_true.1 (by simpa using h5)⟩
theorem inb_of {A B : Adv} {p : Int × Int} (h : inbB A B p = true) : 0 ≤ p.1 ∧ p.1 < B.L ∧ 0 ≤ p.2 ∧ p.2 < A.L := of_decide_eq_true h
theorem sim_from {A B : Adv} (hB : achk B = 0) {prs : List (Int × Int)} (hi : ∀ p ∈ prs, inbB A B p = true) (hf : ∀ p ∈ prs, folB A B prs p = true) :
    ∀ (u : List Rd) (p : Int × Int), p ∈ prs → 0 ≤ after B p.1 u → 0 ≤ after A p.2 u ∧ (after B p.1 u, after A p.2 u) ∈ prs
  | [], p, hp, h => ⟨(inb_of (hi p hp)).2.2.1, hp⟩
  | r :: u, p, hp, h => by
    obtain ⟨h1, h2, h3, h4⟩ := inb_of (hi p hp)
    have eB : after B p.1 (r :: u) = after B (toL (B.st.getD p.1.toNat []) r) u := by simp only [after]; rw [if_neg (by omega)]
    have eA : after A p.2 (r :: u) = after A (toL (A.st.getD p.2.toNat []) r) u := by simp only [after]; rw [if_neg (by omega)]
    rw [eB] at h ⊢
    rw [eA]
    have hx : 0 ≤ toL (B.st.getD p.1.toNat []) r := by
      refine Classical.byContradiction fun hn => ?_
      rw [after_neg (by omega)] at h
      exact hn h
    obtain ⟨m, hm, rfl⟩ := (toL_ge (okM_of hB _) r).1 hx
    have := List.all_eq_true.1 (hf p hp) m hm
    rw [Bool.and_eq_true, decide_eq_true_eq, decide_eq_true_eq] at this
    rw [toL_in (okM_of hB _) hm] at h ⊢
    exact sim_from hB hi hf u _ this.2 h
/-- If a list of pairs is a simulation, the words of B are words of A, and lead to its pairs. -/
theorem sim_sound {A B : Adv} {prs : List (Int × Int)} (h : verS A B prs = 0) (u : List Rd) (hu : 0 ≤ after B 0 u) : 0 ≤ after A 0 u ∧ (after B 0 u, after A 0 u) ∈ prs := by
  obtain ⟨h1, _, h2, h3, h4⟩ := verS_zero h
  exact sim_from (bothI_zero h1).2.1 h2 h4 u (0, 0) h3 hu
theorem sim_lack {A B : Adv} {prs : List (Int × Int)} (h : verS A B prs = 0) (u : List Rd) : ¬ lackW A B u := by
  rintro ⟨v, r, rfl, _, h2, h3⟩
  have := (sim_sound h _ h3).1
  omega
theorem sim_reach {A B : Adv} {prs : List (Int × Int)} (h : verS A B prs = 0) (p : Int × Int) (hp : reachS A B p) : p ∈ prs := by
  obtain ⟨u, _, h2, rfl⟩ := hp
  exact (sim_sound h u h2).2
theorem ab_both : bothI AA BB = 0 := by decide +kernel
theorem ba_both : bothI BB AA = 0 := by decide +kernel
theorem a_moves : movesN AA ≤ 4611686018427387904 := by decide
theorem b_moves : movesN BB ≤ 4611686018427387904 := by decide
theorem ab_ver : verS AA BB [(0, 0), (1, 0)] = 0 := by decide +kernel
theorem ab_ver1 : verS AA BB [(0, 0)] = 18 := by decide +kernel
theorem ba_two : extraS BB AA 2 = (2, 0) := by decide +kernel
theorem ba_one : extraS BB AA 1 = (1, 0) := by decide +kernel
theorem ab_lack (u : List Rd) : ¬ lackW AA BB u := sim_lack ab_ver u
theorem ba_lack : lackW BB AA [lx] := ⟨[], lx, rfl, by decide +kernel, by decide +kernel, by decide +kernel⟩
theorem ba_least (u : List Rd) (h : lackW BB AA u) : Wle [lx] u := by
  obtain ⟨v, r, rfl, h1, h2, h3⟩ := h
  cases v with
  | nil =>
    have h4 : 0 ≤ toL (AA.st.getD 0 []) r := h3
    obtain ⟨m, hm, rfl⟩ := (toL_ge (okM_of (bothI_zero ba_both).2.1 0) r).1 h4
    have hm' : m ∈ [(⟨lx, 0⟩ : Mv), ⟨ly, 0⟩] := hm
    simp only [List.mem_cons, List.not_mem_nil, or_false] at hm'
    rcases hm' with rfl | rfl
    · exact .inr rfl
    · exact absurd h2 (by decide +kernel)
  | cons x v => exact .inl (.inl (by simp))
theorem ab_reach (p : Int × Int) : reachS AA BB p ↔ p ∈ [((0 : Int), (0 : Int)), (1, 0)] := by
  constructor
  · exact sim_reach ab_ver p
  · intro hp
    simp only [List.mem_cons, List.not_mem_nil, or_false] at hp
    rcases hp with rfl | rfl
    · exact ⟨[], by decide, by decide, rfl⟩
    · exact ⟨[ly], by decide +kernel, by decide +kernel, by decide +kernel⟩
theorem ab_pw : [((0 : Int), (0 : Int)), (1, 0)].Pairwise plt := by
  refine List.pairwise_cons.2 ⟨fun x hx => ?_, List.pairwise_cons.2 ⟨fun x hx => (by cases hx), List.Pairwise.nil⟩⟩
  rw [List.mem_singleton.1 hx]
  exact .inl (by decide)
/-- What is returned for the examples. -/
theorem inc_ab {w : World} {en : Ending} {w' : World} (h : RetIn dI AA BB w en w') : en = .returned (.tuple #[.slice none 0 0, .bool true, .int .i64 0]) ∧ Ext w w' := by
  obtain ⟨x, b, rfl, hE, (⟨h, _⟩ | ⟨_, _, word, _, _, hm, _⟩ | ⟨_, rfl, rfl, _⟩)⟩ := h
  · exact absurd ab_both h
  · exact absurd ((markI (bothI_zero ab_both).1 (bothI_zero ab_both).2.1 word).1 hm) (ab_lack word)
  · exact ⟨by rw [ab_both], hE⟩
theorem inc_ba {w : World} {en : Ending} {w' : World} (h : RetIn dI BB AA w en w') : ∃ x, en = .returned (.tuple #[x, .bool false, .int .i64 0]) ∧ Ext w w' ∧ Row Rd.cells 7 w' x [lx] := by
  obtain ⟨x, b, rfl, hE, (⟨h, _⟩ | ⟨_, rfl, word, hr, _, hm, hle⟩ | ⟨_, rfl, rfl, hn⟩)⟩ := h
  · exact absurd ba_both h
  · have e := least_eq (P := markA (actP dI BB AA) (0, 0)) hm hle ((markI (bothI_zero ba_both).1 (bothI_zero ba_both).2.1 _).2 ba_lack) fun u hu => ba_least u ((markI (bothI_zero ba_both).1 (bothI_zero ba_both).2.1 u).1 hu)
    rw [e] at hr
    exact ⟨x, by rw [ba_both], hE, hr⟩
  · exact absurd ((markI (bothI_zero ba_both).1 (bothI_zero ba_both).2.1 _).2 ba_lack) (hn _)
theorem eq_ab {w : World} {en : Ending} {w' : World} (h : RetIn dE AA BB w en w') : ∃ x, en = .returned (.tuple #[x, .bool false, .int .i64 0]) ∧ Ext w w' ∧ Row Rd.cells 7 w' x [lx] := by
  have hm0 : markA (actP dE AA BB) (0, 0) [lx] := (markE (bothI_zero ab_both).1 (bothI_zero ab_both).2.1 _).2 (.inr ba_lack)
  obtain ⟨x, b, rfl, hE, (⟨h, _⟩ | ⟨_, rfl, word, hr, _, hm, hle⟩ | ⟨_, rfl, rfl, hn⟩)⟩ := h
  · exact absurd ab_both h
  · have e := least_eq (P := markA (actP dE AA BB) (0, 0)) hm hle hm0 fun u hu => by
      rcases (markE (bothI_zero ab_both).1 (bothI_zero ab_both).2.1 u).1 hu with k | k
      · exact absurd k (ab_lack u)
      · exact ba_least u k
    rw [e] at hr
    exact ⟨x, by rw [ab_both], hE, hr⟩
  · exact absurd hm0 (hn _)
theorem sim_ab {w : World} {en : Ending} {w' : World} (h : RetSm AA BB w en w') : ∃ x, en = .returned (.tuple #[x, .bool true, .int .i64 0]) ∧ Ext w w' ∧ Row pcells 2 w' x [(0, 0), (1, 0)] := by
  obtain ⟨x, b, rfl, hE, (⟨h, _⟩ | ⟨_, _, _, u, hu⟩ | ⟨_, rfl, _, l, hr, _, hp, hm⟩)⟩ := h
  · exact absurd ab_both h
  · exact absurd hu (ab_lack u)
  · have e : l = [(0, 0), (1, 0)] := plt_unique hp ab_pw fun p => (hm p).trans (ab_reach p)
    rw [e] at hr
    exact ⟨x, by rw [ab_both], hE, hr⟩
theorem Row.take1 {w : World} {x : Value} (h : Row pcells 2 w x [(0, 0), (1, 0)]) : ∃ b o c, x = .slice (some ⟨b, o, none⟩) 2 c ∧ 2 ≤ c ∧ c ≤ 9223372036854775807 ∧ Row pcells 2 w (.slice (some ⟨b, o, none⟩) 1 c) [(0, 0)] := by
  obtain ⟨p, c, rfl, h1, h2, h3⟩ := h
  obtain ⟨b, o, rfl, hb, hc⟩ := h3 (by decide)
  refine ⟨b, o, c, rfl, h1, h2.1, _, _, rfl, by show 1 ≤ c; have : 2 ≤ c := h1; omega, ⟨h2.1, by show 1 ≤ _; omega⟩, fun _ => ⟨b, o, rfl, hb, fun i y hy j u hu => ?_⟩⟩
  obtain rfl | hi : i = 0 ∨ 1 ≤ i := by omega
  · exact hc 0 y hy j u hu
  · rw [List.getElem?_eq_none (by show 1 ≤ i; exact hi)] at hy; cases hy
end Go.Proofs.Ytmkmgimmlohamaa
