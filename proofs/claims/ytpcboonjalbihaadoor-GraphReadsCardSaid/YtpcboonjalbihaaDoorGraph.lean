/-
  Contracts of the checks and orders of graphs and rounds (graph, round, roundtableref03, roundtableref15).
  Conditions: as each theorem states.
-/
import Derived.Test.YtpcboonjalbihaaDoorSets
namespace Go.Proofs.YtpcboonjalbihaaDoor
open Go.RowKit

def firstNZ : List Int → Int
  | [] => 0
  | x :: l => if x = 0 then firstNZ l else x
/-- The error of row p. -/
def gchkAt (g : Gr) (p : Nat) : Int :=
  if g.n ≤ p then (if g.h p = 0 then 0 else 3)
  else if g.h p < 0 ∨ 2 ^ g.n.toNat - 1 < g.h p then 2
  else if has (g.h p) p = true then 0 else 3
def gchk (g : Gr) : Int := if g.n < 1 ∨ 5 < g.n then 2 else firstNZ [gchkAt g 0, gchkAt g 1, gchkAt g 2, gchkAt g 3, gchkAt g 4]

theorem gchk_bad {g : Gr} (h : g.n < 1 ∨ 5 < g.n) : gchk g = 2 := by unfold gchk; rw [if_pos h]
theorem gchk_ok {g : Gr} (h : ¬ (g.n < 1 ∨ 5 < g.n)) (hk : ∀ i, i < 5 → gchkAt g i = 0) : gchk g = 0 := by
  unfold gchk
  rw [if_neg h]
  simp [firstNZ, hk]
theorem gchk_err {g : Gr} {k : Nat} {e : Int} (h : ¬ (g.n < 1 ∨ 5 < g.n)) (hk : k < 5) (hb : ∀ i, i < k → gchkAt g i = 0) (he : gchkAt g k = e) (hne : e ≠ 0) : gchk g = e := by
  unfold gchk
  rw [if_neg h]
  obtain rfl | rfl | rfl | rfl | rfl : k = 0 ∨ k = 1 ∨ k = 2 ∨ k = 3 ∨ k = 4 := by omega
  all_goals simp [firstNZ, hb, he, hne]
theorem gchkAt_out_ok {g : Gr} {k : Nat} (h : g.n ≤ k) (hz : g.h k = 0) : gchkAt g k = 0 := by unfold gchkAt; rw [if_pos h, if_pos hz]
theorem gchkAt_out_bad {g : Gr} {k : Nat} (h : g.n ≤ k) (hz : g.h k ≠ 0) : gchkAt g k = 3 := by unfold gchkAt; rw [if_pos h, if_neg hz]
theorem gchkAt_range {g : Gr} {k : Nat} (h : ¬ g.n ≤ k) (hz : g.h k < 0 ∨ 2 ^ g.n.toNat - 1 < g.h k) : gchkAt g k = 2 := by unfold gchkAt; rw [if_neg h, if_pos hz]
theorem gchkAt_own {g : Gr} {k : Nat} (h : ¬ g.n ≤ k) (hz : ¬ (g.h k < 0 ∨ 2 ^ g.n.toNat - 1 < g.h k)) (hh : has (g.h k) k = false) : gchkAt g k = 3 := by
  unfold gchkAt; rw [if_neg h, if_neg hz, hh]; rfl
theorem gchkAt_ok {g : Gr} {k : Nat} (h : ¬ g.n ≤ k) (hz : ¬ (g.h k < 0 ∨ 2 ^ g.n.toNat - 1 < g.h k)) (hh : has (g.h k) k = true) : gchkAt g k = 0 := by
  unfold gchkAt; rw [if_neg h, if_neg hz, hh]; rfl

theorem idx5 (a b c d e : Int) (n : Int) (k : Nat) (hk : k < 5) (w : World) :
    (Instr.index 22 (.agg #[.int .i64 a, .int .i64 b, .int .i64 c, .int .i64 d, .int .i64 e]) (.int .i64 (k : Int))).run Tryd.prog w = .ok (.int .i64 (Gr.h ⟨n, a, b, c, d, e⟩ k)) w := by
  obtain rfl | rfl | rfl | rfl | rfl : k = 0 ∨ k = 1 ∨ k = 2 ∨ k = 3 ∨ k = 4 := by omega
  all_goals kernel_rfl

theorem full_any (n : Int) (w : World) (h0 : 0 ≤ n) (h1 : n ≤ 60) : Calls Tryd.prog 75 #[.int .i64 n] w fun e w' => e = .returned (.int .i64 (2 ^ n.toNat - 1)) ∧ w' = w := by
  have hp := pow_pos' n.toNat
  have hq := pow_le_big (a := n.toNat) (by omega)
  have he : wrap64 (wrap64 (2 ^ n.toNat) - 1) = 2 ^ n.toNat - 1 := by
    rw [IntWalk.wrap64_in (2 ^ n.toNat) ⟨by omega, by omega⟩, IntWalk.wrap64_in _ ⟨by omega, by omega⟩]
  have h2 := hide he
  clear he hp hq
  go_enter Tryd.func75, Tryd.ntmps75
  go_wp2
  go_ret
  exact ⟨ret_int h2.out, rfl⟩

theorem gchk_cases (g : Gr) (k : Nat) (hn : g.n ≤ 5) :
    (g.n ≤ k ∧ (g.h k != 0) = false ∧ gchkAt g k = 0) ∨ (g.n ≤ k ∧ (g.h k != 0) = true ∧ gchkAt g k = 3) ∨ (k < g.n ∧ g.h k < 0 ∧ gchkAt g k = 2) ∨ (k < g.n ∧ 0 ≤ g.h k ∧ 2 ^ g.n.toNat - 1 < g.h k ∧ gchkAt g k = 2) ∨
    (k < g.n ∧ 0 ≤ g.h k ∧ g.h k ≤ 2 ^ g.n.toNat - 1 ∧ (bits BinOp.and IntKind.i64 (g.h k / 2 ^ k) 1 == 0) = true ∧ gchkAt g k = 3) ∨
    (k < g.n ∧ 0 ≤ g.h k ∧ g.h k ≤ 2 ^ g.n.toNat - 1 ∧ (bits BinOp.and IntKind.i64 (g.h k / 2 ^ k) 1 == 0) = false ∧ gchkAt g k = 0) := by
  by_cases h1 : g.n ≤ k
  · by_cases h2 : g.h k = 0
    · exact .inl ⟨h1, by simp [h2], gchkAt_out_ok h1 h2⟩
    · exact .inr (.inl ⟨h1, by simp [h2], gchkAt_out_bad h1 h2⟩)
  · by_cases h2 : g.h k < 0
    · exact .inr (.inr (.inl ⟨by omega, h2, gchkAt_range h1 (.inl h2)⟩))
    · by_cases h3 : 2 ^ g.n.toNat - 1 < g.h k
      · exact .inr (.inr (.inr (.inl ⟨by omega, by omega, h3, gchkAt_range h1 (.inr h3)⟩)))
      · have hp := pow_le32 (n := g.n.toNat) (by omega)
        have hq : 0 ≤ g.h k / 2 ^ k := Int.ediv_nonneg (by omega) (by have := pow_pos' k; omega)
        have hr : g.h k / 2 ^ k ≤ g.h k := Int.ediv_le_self _ (by omega)
        have hb : bits BinOp.and IntKind.i64 (g.h k / 2 ^ k) 1 = g.h k / 2 ^ k % 2 := and_one hq (by omega)
        cases h4 : has (g.h k) k
        · refine .inr (.inr (.inr (.inr (.inl ⟨by omega, by omega, by omega, ?_, gchkAt_own h1 (by omega) h4⟩))))
          rw [hb]; unfold has at h4; rw [beq_eq_false_iff_ne] at h4; rw [beq_iff_eq]; omega
        · refine .inr (.inr (.inr (.inr (.inr ⟨by omega, by omega, by omega, ?_, gchkAt_ok h1 (by omega) h4⟩))))
          rw [hb]; unfold has at h4; rw [beq_iff_eq] at h4; rw [beq_eq_false_iff_ne]; omega

set_option maxHeartbeats 1000000 in
theorem gcheck_any (g : Gr) (w : World) : Calls Tryd.prog 47 #[g.v] w fun e w' => e = .returned (.int .i64 (gchk g)) ∧ Ext w w' := by
  obtain ⟨n, a, b, c, d, e⟩ := g
  dsimp only [Gr.v]
  by_cases h : n < 1 ∨ 5 < n
  · rw [gchk_bad (g := ⟨n, a, b, c, d, e⟩) h]
    go_enter Tryd.func47, Tryd.ntmps47
    go_wp2
    all_goals (go_ret; exact ⟨rfl, (Ext.refl w).alloc _⟩)
  · have hn0 : 1 ≤ n := by omega
    have hn1 : n ≤ 5 := by omega
    have hc := fun k => gchk_cases ⟨n, a, b, c, d, e⟩ k hn1
    generalize hres : gchk ⟨n, a, b, c, d, e⟩ = res
    have E : ∀ k e', k < 5 → (∀ i, i < k → gchkAt ⟨n, a, b, c, d, e⟩ i = 0) → gchkAt ⟨n, a, b, c, d, e⟩ k = e' → e' ≠ 0 → e' = res := fun k e' h1 h2 h3 h4 => (gchk_err h h1 h2 h3 h4).symm.trans hres
    have E0 : (∀ i, i < 5 → gchkAt ⟨n, a, b, c, d, e⟩ i = 0) → 0 = res := fun h1 => (gchk_ok h h1).symm.trans hres
    have hix := fun k hk => idx5 a b c d e n k hk
    have hbd := pow_le32 (n := n.toNat) (by omega)
    have hfull := fun w => full_any n w (by omega) (by omega)
    dsimp only at hc
    generalize (2 : Int) ^ n.toNat = P at hc hbd hfull
    generalize gchkAt ⟨n, a, b, c, d, e⟩ = at_ at hc E E0
    generalize Gr.h ⟨n, a, b, c, d, e⟩ = q at hc hix
    have HE := hide E
    have HE0 := hide E0
    have HC := hide hc
    have HX := hide hix
    have HF := hide hfull
    clear h E E0 hres hc hix hfull
    go_enter Tryd.func47, Tryd.ntmps47
    go_wp2
    go_loop [15] (fun i => ∃ k : Nat, k ≤ 5 ∧ i = .int .i64 k ∧ ∀ j, j < k → at_ j = 0) (fun i => 5 - (intOf i).toNat)
    case atStart => exact ⟨0, by omega, rfl, fun j hj => by omega⟩
    case round =>
      obtain ⟨k, hk, rfl, hj⟩ := hrel
      have HJ := hide hj
      clear hj
      by_cases hlt : k < 5
      · have hix := HX.out k hlt
        have hc := HC.out k
        have next : at_ k = 0 → ∀ j, j < k + 1 → at_ j = 0 := fun h0 j hj => by
          by_cases e : j = k
          · subst e; exact h0
          · exact HJ.out j (by omega)
        have HN := hide next
        have HEk := hide (HE.out k)
        have hp2 := pow_pos' k
        generalize q k = x at hix hc
        clear next
        rcases hc with ⟨h1, h2, h3⟩ | ⟨h1, h2, h3⟩ | ⟨h1, h2, h3⟩ | ⟨h1, h2, h4, h3⟩ | ⟨h1, h2, h4, h5, h3⟩ | ⟨h1, h2, h4, h5, h3⟩
        all_goals
          have H3 := hide h3
          clear h3
          go_wp2_with (go_at_call 75; refine (HF.out _).mono ?_; rintro e w1 ⟨rfl, rfl⟩)
          first
            | (go_ret; exact ⟨ret_int (HEk.out _ hlt HJ.out H3.out (by decide)), (Ext.refl w).alloc _⟩)
            | (go_round
               case rel => exact ⟨k + 1, by omega, by go_num, HN.out H3.out⟩
               case measure => simp [intOf]; omega)
      · obtain rfl : k = 5 := by omega
        go_wp2
        go_ret
        exact ⟨ret_int (HE0.out HJ.out), (Ext.refl w).alloc _⟩

theorem gchk_cases2 (g : Gr) (k : Nat) :
    (g.n ≤ k ∧ (g.h k != 0) = false ∧ gchkAt g k = 0) ∨ (g.n ≤ k ∧ (g.h k != 0) = true ∧ gchkAt g k = 3) ∨ (k < g.n ∧ g.h k < 0 ∧ gchkAt g k = 2) ∨ (k < g.n ∧ 0 ≤ g.h k ∧ 2 ^ g.n.toNat - 1 < g.h k ∧ gchkAt g k = 2) ∨
    (k < g.n ∧ 0 ≤ g.h k ∧ g.h k ≤ 2 ^ g.n.toNat - 1 ∧ has (g.h k) k = false ∧ gchkAt g k = 3) ∨
    (k < g.n ∧ 0 ≤ g.h k ∧ g.h k ≤ 2 ^ g.n.toNat - 1 ∧ has (g.h k) k = true ∧ gchkAt g k = 0) := by
  by_cases h1 : g.n ≤ k
  · by_cases h2 : g.h k = 0
    · exact .inl ⟨h1, by simp [h2], gchkAt_out_ok h1 h2⟩
    · exact .inr (.inl ⟨h1, by simp [h2], gchkAt_out_bad h1 h2⟩)
  · by_cases h2 : g.h k < 0
    · exact .inr (.inr (.inl ⟨by omega, h2, gchkAt_range h1 (.inl h2)⟩))
    · by_cases h3 : 2 ^ g.n.toNat - 1 < g.h k
      · exact .inr (.inr (.inr (.inl ⟨by omega, by omega, h3, gchkAt_range h1 (.inr h3)⟩)))
      · cases h4 : has (g.h k) k
        · exact .inr (.inr (.inr (.inr (.inl ⟨by omega, by omega, by omega, rfl, gchkAt_own h1 (by omega) h4⟩))))
        · exact .inr (.inr (.inr (.inr (.inr ⟨by omega, by omega, by omega, rfl, gchkAt_ok h1 (by omega) h4⟩))))

set_option maxHeartbeats 1000000 in
theorem rgcheck_any (g : Gr) (w : World) : Calls Tryd.prog 33 #[g.v] w fun e w' => e = .returned (.int .i64 (gchk g)) ∧ Ext w w' := by
  obtain ⟨n, a, b, c, d, e⟩ := g
  dsimp only [Gr.v]
  by_cases h : n < 1 ∨ 5 < n
  · rw [gchk_bad (g := ⟨n, a, b, c, d, e⟩) h]
    go_enter Tryd.func33, Tryd.ntmps33
    go_wp2
    all_goals (go_ret; exact ⟨rfl, (Ext.refl w).alloc _⟩)
  · have hn0 : 1 ≤ n := by omega
    have hn1 : n ≤ 5 := by omega
    have hc := fun k => gchk_cases2 ⟨n, a, b, c, d, e⟩ k
    generalize hres : gchk ⟨n, a, b, c, d, e⟩ = res
    have E : ∀ k e', k < 5 → (∀ i, i < k → gchkAt ⟨n, a, b, c, d, e⟩ i = 0) → gchkAt ⟨n, a, b, c, d, e⟩ k = e' → e' ≠ 0 → e' = res := fun k e' h1 h2 h3 h4 => (gchk_err h h1 h2 h3 h4).symm.trans hres
    have E0 : (∀ i, i < 5 → gchkAt ⟨n, a, b, c, d, e⟩ i = 0) → 0 = res := fun h1 => (gchk_ok h h1).symm.trans hres
    have hix := fun k hk => Gr.box_at w n a b c d e 24 k hk
    have hbd := pow_le32 (n := n.toNat) (by omega)
    have hfull := fun w => rfull_any n w (by omega) (by omega)
    dsimp only at hc
    generalize (2 : Int) ^ n.toNat = P at hc hbd hfull
    generalize gchkAt ⟨n, a, b, c, d, e⟩ = at_ at hc E E0
    generalize Gr.h ⟨n, a, b, c, d, e⟩ = q at hc hix
    have HE := hide E
    have HE0 := hide E0
    have HC := hide hc
    have HX := hide hix
    have HF := hide hfull
    clear h E E0 hres hc hix hfull
    go_enter Tryd.func33, Tryd.ntmps33
    go_wp2
    go_loop [3] (fun i => ∃ k : Nat, k ≤ 5 ∧ i = .int .i64 k ∧ ∀ j, j < k → at_ j = 0) (fun i => 5 - (intOf i).toNat)
    case atStart => exact ⟨0, by omega, rfl, fun j hj => by omega⟩
    case round =>
      obtain ⟨k, hk, rfl, hj⟩ := hrel
      have HJ := hide hj
      clear hj
      by_cases hlt : k < 5
      · have hix := HX.out k hlt
        have hc := HC.out k
        have next : at_ k = 0 → ∀ j, j < k + 1 → at_ j = 0 := fun h0 j hj => by
          by_cases e : j = k
          · subst e; exact h0
          · exact HJ.out j (by omega)
        have HN := hide next
        have HEk := hide (HE.out k)
        generalize q k = x at hix hc
        have ch := fun hs hs' w => rhas_any x k w (by omega) (by omega) hs hs'
        rw [Int.toNat_natCast] at ch
        have CH := hide ch
        clear next ch
        rcases hc with ⟨h1, h2, h3⟩ | ⟨h1, h2, h3⟩ | ⟨h1, h2, h3⟩ | ⟨h1, h2, h4, h3⟩ | ⟨h1, h2, h4, h5, h3⟩ | ⟨h1, h2, h4, h5, h3⟩
        all_goals
          have H3 := hide h3
          clear h3
          go_wp2_with (first | (go_at_call 69; refine (HF.out _).mono ?_; rintro e w1 ⟨rfl, rfl⟩) | (go_at_call 63; refine (CH.out (by omega) (by omega) _).mono ?_; rintro e w1 ⟨rfl, rfl⟩))
          first
            | (go_ret; exact ⟨ret_int (HEk.out _ hlt HJ.out H3.out (by decide)), (Ext.refl w).alloc _⟩)
            | (go_round
               case rel => exact ⟨k + 1, by omega, by go_num, HN.out H3.out⟩
               case measure => simp [intOf]; omega)
      · obtain rfl : k = 5 := by omega
        go_wp2
        go_ret
        exact ⟨ret_int (HE0.out HJ.out), (Ext.refl w).alloc _⟩
end Go.Proofs.YtpcboonjalbihaaDoor
