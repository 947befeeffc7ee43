/-
  The program's sized (adversary.sized).
  Conditions: as each theorem states.
-/
import Derived.Test.YtdlhnpogddpmpaaGreatMoves
import Derived.Test.YtdlhnpogddpmpaaGreatOwned
namespace Go.Proofs.YtdlhnpogddpmpaaGreat
open Go.RowKit
attribute [local go_sem] Oper.semAt_some


theorem pre_moves (A : Adv) : A.pre A.L 0 = movesN A := by
  unfold Adv.pre movesN
  rw [Nat.add_zero]
  congr 1
  apply List.ext_getElem
  · simp [Adv.L]
  · intro i h1 h2
    have hi : i < A.st.length := by simpa using h2
    simp [Adv.len, List.getElem?_eq_getElem hi]

theorem pre_inv (A : Adv) (i : Nat) : ∀ n, i < A.pre n 0 → ∃ s j, s < n ∧ j < A.len s ∧ i = A.pre s j := by
  intro n
  induction n with
  | zero => intro h; simp [Adv.pre] at h
  | succ n ih =>
    intro h
    rcases Nat.lt_or_ge i (A.pre n 0) with h1 | h1
    · obtain ⟨s, j, h2, h3, h4⟩ := ih h1; exact ⟨s, j, by omega, h3, h4⟩
    · rw [← pre_next] at h
      have e : ∀ k, A.pre n k = A.pre n 0 + k := fun k => rfl
      rw [e] at h
      exact ⟨n, i - A.pre n 0, by omega, by omega, by rw [e]; omega⟩
theorem moveSeq_inv (A : Adv) {i : Nat} {x : Array Value} (h : (moveSeq A)[i]? = some x) : ∃ s j, s < A.L ∧ j < A.len s ∧ i = A.pre s j ∧ x = #[.int .i64 s, (A.mv s j).v] := by
  have hlt : i < (moveSeq A).length := by
    rcases Nat.lt_or_ge i (moveSeq A).length with h1 | h1
    · exact h1
    · rw [List.getElem?_eq_none h1] at h; cases h
  rw [moveSeq_len] at hlt
  obtain ⟨s, j, h1, h2, rfl⟩ := pre_inv A i A.L hlt
  rw [moveSeq_at A h1 h2] at h
  exact ⟨s, j, h1, h2, rfl, (Option.some.inj h).symm⟩
theorem moveSeq_two (A : Adv) : ∀ x ∈ moveSeq A, x.size = 2 := by
  intro x hx
  obtain ⟨i, hi⟩ := List.mem_iff_getElem?.1 hx
  obtain ⟨_, _, _, _, _, rfl⟩ := moveSeq_inv A hi
  rfl

set_option maxRecDepth 16000 in
set_option maxHeartbeats 2000000 in
theorem sized_any (A : Adv) (v : Value) (w : World) (hA : AdvRep w v A) (hM : movesN A ≤ 4611686018427387904) :
    Calls Tryz.prog 48 #[v] w fun e w' => e = .returned (.int .i64 (if A.L < 1 ∨ 256 < A.L ∨ 4096 < movesN A then 5 else 0)) ∧ Ext w w' := by
  obtain ⟨p, c, rfl, hc, hl, hat⟩ := hA.all_
  have HA := hide hA
  clear hA hat
  generalize hres : (if A.L < 1 ∨ 256 < A.L ∨ 4096 < movesN A then (5 : Int) else 0) = res
  have HRES := hide hres
  clear hres
  refine calls_of_wp_m Tryz.func48 rfl ?_
  simp only [Tryz.ntmps48, List.size_toArray, List.length_cons, List.length_nil, Nat.reduceAdd, Nat.reduceSub, Array.replicate_succ, Array.replicate_zero, List.push_toArray, List.append_toArray, List.nil_append, List.cons_append]
  go_wp2_with fail
  obtain ⟨w3, hw3⟩ : ∃ w3, (((w.alloc (.cells #[.int .i64 A.n, .slice p A.L c] 26)).alloc (.cells #[.int .i64 0] 3)).alloc (.cells #[.int .i64 A.n, .slice p A.L c] 26)) = w3 := ⟨_, rfl⟩
  have hE3 : Ext w w3 := by rw [← hw3]; exact (((Ext.refl w).alloc _).alloc _).alloc _
  have hB3 : Box w3 (w.heap.size + 1) 3 (.int .i64 0) := by
    rw [← hw3]; have := (Box.new (w.alloc (.cells #[.int .i64 A.n, .slice p A.L c] 26)) 3 (.int .i64 0)).alloc (.cells #[.int .i64 A.n, .slice p A.L c] 26); rwa [World.size_alloc] at this
  have hS3 : w3.cell? ⟨w.heap.size, 1, none⟩ = some (.slice p A.L c) := by rw [← hw3]; simp [go_sem]
  have hT3 : w3.cell? ⟨w.heap.size + 2, 1, none⟩ = some (.slice p A.L c) := by rw [← hw3]; simp [go_sem]
  have hZ3 : w3.heap.size = w.heap.size + 3 := by rw [← hw3]; simp
  refine (moves_any A.n _ _ p A.L c rfl).mono ?_
  rintro e W ⟨rfl, hW⟩
  rw [hw3] at hW
  subst hW
  simp only [World.size_alloc]
  clear hw3
  go_wp2_with fail
  refine wp_range rfl (fun _ _ => rfl) (moves_seq A (.slice p A.L c) w (w.heap.size + 1 + 1) HA.out) (moveSeq_two A)
    (fun i V => Ext w V ∧ Box V (w.heap.size + 1) 3 (.int .i64 i) ∧ V.cell? ⟨w.heap.size, 1, none⟩ = some (.slice p A.L c) ∧ V.cell? ⟨w.heap.size + 2, 1, none⟩ = some (.slice p A.L c)) (fun _ _ => False) ?_ ?_ ?_ ?_ ?_ ?_ ?_
  · rintro i V ⟨h1, _, _, h4⟩; exact ⟨h1, h4⟩
  · rintro i V V' ⟨h1, h2, h3, h4⟩ hC; exact ⟨h1.chg hC (by omega), h2.chg hC, cell_chg hC h3, cell_chg hC h4⟩
  · exact fun _ _ _ h => h.elim
  · exact ⟨hE3, hB3, hS3, hT3⟩
  · rintro l i x V hx ⟨h1, h2, h3, h4⟩ hl hlV
    have hiM : i < movesN A := by
      rw [← pre_moves, ← moveSeq_len]
      rcases Nat.lt_or_ge i (moveSeq A).length with h5 | h5
      · exact h5
      · rw [List.getElem?_eq_none h5] at hx; cases hx
    obtain ⟨s, j, hs, hj, -, rfl⟩ := moveSeq_inv A hx
    clear hx
    refine wpIn_skip ?_
    refine ⟨KF.refl _ _, fun W2 hC => ?_⟩
    have h2' := h2.chg hC
    have hc2 := h2'.cell
    have hf2 := h2'.frozen
    have h3' := cell_chg hC h3
    have h4' := cell_chg hC h4
    have h1' := h1.chg hC (by omega)
    gi_wp2_with fail
    refine ⟨KF.setCell _ _ _, h1'.setCell (by simp) _, h2'.set, ?_, ?_⟩
    · simp [go_sem, h3']
    · simp [go_sem, h4']
  · rintro M V ⟨h1, h2, h3, h4⟩ hMl hM
    rw [moveSeq_len, pre_moves] at h2
    have hc2 := h2.cell
    have h2' := hide h2
    clear h2
    have hfin : ∀ r, r = res → (Ending.returned (.int .i64 r) = .returned (.int .i64 res) ∧ Ext w (V.putObj M (.deferred none))) := fun r hr => ⟨by rw [hr], h1.putObj (by omega) _⟩
    have HFIN := hide hfin
    clear hfin
    have HR := HRES.out
    by_cases c1 : A.L < 1
    · rw [if_pos (.inl c1)] at HR
      have HR := hide HR
      have d1 : decide ((A.L : Int) < 1) = true := by simp; omega
      go_wp2_with fail
      refine leave_mark rfl hM (results_tmp rfl _ _ _) ?_; exact HFIN.out _ HR.out
    · by_cases c2 : 256 < A.L
      · rw [if_pos (.inr (.inl c2))] at HR
        have HR := hide HR
        have d1 : decide ((A.L : Int) < 1) = false := by simp; omega
        have d2 : decide ((256 : Int) < A.L) = true := by simp; omega
        go_wp2_with fail
        refine leave_mark rfl hM (results_tmp rfl _ _ _) ?_; exact HFIN.out _ HR.out
      · have d1 : decide ((A.L : Int) < 1) = false := by simp; omega
        have d2 : decide ((256 : Int) < A.L) = false := by simp; omega
        by_cases c3 : 4096 < movesN A
        · rw [if_pos (.inr (.inr c3))] at HR
          have HR := hide HR
          have d3 : decide ((4096 : Int) < movesN A) = true := by simp; omega
          go_wp2_with fail
          refine leave_mark rfl hM (results_tmp rfl _ _ _) ?_; exact HFIN.out _ HR.out
        · rw [if_neg (by omega)] at HR
          have HR := hide HR
          have d3 : decide ((4096 : Int) < movesN A) = false := by simp; omega
          go_wp2_with fail
          refine leave_mark rfl hM (results_tmp rfl _ _ _) ?_; exact HFIN.out _ HR.out
  · exact fun _ _ _ h => h.elim
end Go.Proofs.YtdlhnpogddpmpaaGreat
