/-
  Which states are reachable; the reference's Reached.
  Conditions: as each theorem states.
-/
import Derived.Test.YtjgkgcjmcpgiaaaStateP
namespace Go.Proofs.Ytjgkgcjmcpgiaaa
open Go.RowKit
attribute [local go_sem] Oper.semAt_some

inductive Reach (A : Adv) : Nat → Prop
  | zero : Reach A 0
  | step {s i : Nat} : Reach A s → s < A.L → i < A.len s → Reach A (A.mv s i).to.toNat
open Classical in
noncomputable def reachB (A : Adv) (s : Nat) : Bool := decide (Reach A s)
open Classical in
theorem reachB_iff {A : Adv} {s : Nat} : reachB A s = true ↔ Reach A s := by unfold reachB; exact decide_eq_true_iff
def cntM (m : Nat → Bool) : Nat → Nat
  | 0 => 0
  | n + 1 => cntM m n + if m n = true then 1 else 0
theorem cntM_le (m : Nat → Bool) : ∀ n, cntM m n ≤ n
  | 0 => Nat.le_refl _
  | n + 1 => by have := cntM_le m n; simp only [cntM]; split <;> omega
theorem cntM_mono {m m' : Nat → Bool} (h : ∀ s, m s = true → m' s = true) : ∀ n, cntM m n ≤ cntM m' n
  | 0 => Nat.le_refl _
  | n + 1 => by
    have := cntM_mono h n
    simp only [cntM]
    by_cases h1 : m n = true
    · rw [if_pos h1, if_pos (h n h1)]; omega
    · rw [if_neg h1]; omega
theorem cntM_lt {m m' : Nat → Bool} (h : ∀ s, m s = true → m' s = true) {t : Nat} (h1 : m' t = true) (h2 : m t = false) : ∀ n, t < n → cntM m n < cntM m' n
  | 0, hn => by omega
  | n + 1, hn => by
    simp only [cntM]
    by_cases e : t = n
    · subst e
      have := cntM_mono h t
      rw [if_pos h1, if_neg (by rw [h2]; decide)]; omega
    · have := cntM_lt h h1 h2 n (by omega)
      by_cases h3 : m n = true
      · rw [if_pos h3, if_pos (h n h3)]; omega
      · rw [if_neg h3]; omega
def setM (m : Nat → Bool) (t : Nat) : Nat → Bool := fun s => if s = t then true else m s
theorem setM_mono (m : Nat → Bool) (t s : Nat) (h : m s = true) : setM m t s = true := by unfold setM; split; rfl; exact h
theorem setM_same {m : Nat → Bool} {t : Nat} (h : m t = true) : setM m t = m := by
  funext s; unfold setM; split
  · rename_i e; rw [e, h]
  · rfl
/-- The marks are sound, and hold 0. -/
structure Mark (A : Adv) (m : Nat → Bool) : Prop where
  zero : m 0 = true
  sound : ∀ s, m s = true → Reach A s
def ClosedM (A : Adv) (m : Nat → Bool) : Prop := ∀ s, s < A.L → m s = true → ∀ i, i < A.len s → m (A.mv s i).to.toNat = true
theorem Mark.all {A : Adv} {m : Nat → Bool} (h : Mark A m) (hc : ClosedM A m) : m = reachB A := by
  funext s
  have h1 : Reach A s → m s = true := fun hr => by
    induction hr with
    | zero => exact h.zero
    | step _ hs hi ih => exact hc _ hs ih _ hi
  cases hm : m s with
  | false =>
    cases hr : reachB A s with
    | false => rfl
    | true => rw [h1 (reachB_iff.1 hr)] at hm; cases hm
  | true => exact (reachB_iff.2 (h.sound s hm)).symm
theorem Mark.set {A : Adv} {m : Nat → Bool} (h : Mark A m) {s i : Nat} (hs : s < A.L) (hi : i < A.len s) (hm : m s = true) : Mark A (setM m (A.mv s i).to.toNat) := by
  refine ⟨setM_mono _ _ _ h.zero, fun x hx => ?_⟩
  unfold setM at hx
  split at hx
  · rename_i e; rw [e]; exact .step (h.sound s hm) hs hi
  · exact h.sound x hx
/-- A pass: either more is marked than at its beginning, or nothing new was found so far. -/
structure Pass (A : Adv) (m0 m : Nat → Bool) (done : Nat → Nat → Prop) : Prop where
  mark : Mark A m
  mono : ∀ s, m0 s = true → m s = true
  more : cntM m0 A.L < cntM m A.L ∨ (m = m0 ∧ ∀ s i, s < A.L → i < A.len s → done s i → m0 s = true → m0 (A.mv s i).to.toNat = true)
theorem Pass.start {A : Adv} {m : Nat → Bool} (h : Mark A m) : Pass A m m (fun s _ => s < 0) := ⟨h, fun _ h => h, .inr ⟨rfl, fun _ _ _ _ h => by omega⟩⟩
theorem Pass.weaken {A : Adv} {m0 m : Nat → Bool} {d d' : Nat → Nat → Prop} (h : Pass A m0 m d) (hd : ∀ s i, s < A.L → i < A.len s → d' s i → d s i) : Pass A m0 m d' :=
  ⟨h.mark, h.mono, h.more.imp id fun ⟨h1, h2⟩ => ⟨h1, fun s i hs hi hh => h2 s i hs hi (hd s i hs hi hh)⟩⟩
theorem Pass.take {A : Adv} {m0 m : Nat → Bool} {s i : Nat} (h : Pass A m0 m (fun s' i' => s' < s ∨ (s' = s ∧ i' < i))) (hs : s < A.L) (hi : i < A.len s) (hm : m s = true) (ht : (A.mv s i).to.toNat < A.L) :
    Pass A m0 (setM m (A.mv s i).to.toNat) (fun s' i' => s' < s ∨ (s' = s ∧ i' < i + 1)) := by
  refine ⟨h.mark.set hs hi hm, fun x hx => setM_mono _ _ _ (h.mono x hx), ?_⟩
  rcases h.more with h1 | ⟨h1, h2⟩
  · exact .inl (Nat.lt_of_lt_of_le h1 (cntM_mono (setM_mono m _) _))
  · cases hh : m (A.mv s i).to.toNat with
    | false => exact .inl (by rw [← h1]; exact cntM_lt (setM_mono m _) (by simp [setM]) hh _ ht)
    | true =>
      refine .inr ⟨by rw [setM_same hh]; exact h1, fun s' i' hs' hi' hd hm' => ?_⟩
      by_cases e : s' = s ∧ i' = i
      · obtain ⟨rfl, rfl⟩ := e; rw [← h1]; exact hh
      · exact h2 s' i' hs' hi' (by omega) hm'
theorem Pass.pass {A : Adv} {m0 m : Nat → Bool} {s i : Nat} (h : Pass A m0 m (fun s' i' => s' < s ∨ (s' = s ∧ i' < i))) (hm : m s = false) :
    Pass A m0 m (fun s' i' => s' < s ∨ (s' = s ∧ i' < i + 1)) := by
  refine ⟨h.mark, h.mono, h.more.imp id fun ⟨h1, h2⟩ => ⟨h1, fun s' i' hs' hi' hd hm' => ?_⟩⟩
  by_cases e : s' = s
  · subst e; rw [← h1] at hm'; rw [hm] at hm'; cases hm'
  · exact h2 s' i' hs' hi' (by omega) hm'
/-- After n passes: so much is marked, or all. -/
def Passed (A : Adv) (m : Nat → Bool) (n : Nat) : Prop := Mark A m ∧ (n + 1 ≤ cntM m A.L ∨ ClosedM A m)
theorem Passed.next {A : Adv} {m0 m : Nat → Bool} {n : Nat} (h0 : Passed A m0 n) (h : Pass A m0 m (fun s _ => s < A.L)) : Passed A m (n + 1) := by
  refine ⟨h.mark, ?_⟩
  rcases h.more with h1 | ⟨h1, h2⟩
  · rcases h0.2 with h3 | h3
    · exact .inl (by omega)
    · exfalso
      have e1 := h0.1.all h3
      have e2 : ∀ s, m s = true → m0 s = true := fun s hs => by rw [e1]; exact reachB_iff.2 (h.mark.sound s hs)
      have := cntM_mono e2 A.L
      omega
  · exact .inr (by rw [h1]; exact fun s hs hm i hi => h2 s i hs hi hs hm)
theorem Passed.all {A : Adv} {m : Nat → Bool} (h : Passed A m A.L) : m = reachB A := by
  rcases h.2 with h1 | h1
  · have := cntM_le m A.L; omega
  · exact h.1.all h1
def bcells (L : Nat) (m : Nat → Bool) : Array Value := ((List.range L).map fun s => Value.bool (m s)).toArray
theorem bcells_at {L s : Nat} (m : Nat → Bool) (hs : s < L) : (bcells L m)[s]? = some (.bool (m s)) := by simp [bcells, hs]
theorem bcells_set {L t : Nat} (m : Nat → Bool) (ht : t < L) : (bcells L m).setIfInBounds t (.bool true) = bcells L (setM m t) := by
  apply Array.ext
  · simp [bcells]
  · intro i h1 h2
    have hi : i < L := by simpa [bcells] using h2
    simp only [bcells, Array.getElem_setIfInBounds, List.getElem_toArray, List.getElem_map, List.getElem_range, setM]
    by_cases e : t = i
    · subst e; simp
    · simp [e, Ne.symm e]
theorem bcells_zero (L : Nat) : bcells L (fun _ => false) = Array.replicate L (.bool false) := by
  apply Array.ext <;> simp [bcells]

set_option maxHeartbeats 4000000 in
theorem rreached_any (A : Adv) (v : Value) (w : World) (hA : AdvRep w v A) (h0 : achk A = 0) :
    Calls Try.prog 55 #[v] w fun e w' => (∃ g, e = .returned (.slice (some ⟨g, 0, none⟩) A.L A.L) ∧ w.heap.size ≤ g ∧ w'.heap[g]? = some (.cells (bcells A.L (reachB A)) 4 (0, 0))) ∧ Ext w w' := by
  obtain ⟨p, c, rfl, hc, hl, hat⟩ := hA.all_
  have HAT := hide hat
  clear hA hat
  obtain ⟨hn1, hn2, hL1, hL2, hmv, hst, _⟩ := achk_zero h0
  have HS := hide (sound_of hst)
  clear hst h0
  have hmk := fun W => run_make_row' (P := Try.prog) 95 4 (.bool false) 1 (by kernel_rfl) (by kernel_rfl) rfl .i64 .i64 A.L (by omega) (by omega) W
  have hrow : ((w.alloc (.cells #[.int .i64 A.n, .slice p A.L c] 24)).alloc (.cells (madeCells #[.bool false] A.L) 4)).heap[w.heap.size + 1]? = some (.cells (bcells A.L (fun _ => false)) 4 (0, 0)) := by
    rw [bcells_zero, ← made_rep]
    have := heap_alloc_new (w.alloc (.cells #[.int .i64 A.n, .slice p A.L c] 24)) (.cells (madeCells #[.bool false] A.L) 4)
    rwa [World.size_alloc] at this
  have hb0 : ((w.alloc (.cells #[.int .i64 A.n, .slice p A.L c] 24)).alloc (.cells (madeCells #[.bool false] A.L) 4)).cell? ⟨w.heap.size + 1, 0, none⟩ = some (.bool false) := by
    rw [cell_of_row _ _ _ _ _ _ hrow, bcells_at _ (by omega)]
  have hbf : ((w.alloc (.cells #[.int .i64 A.n, .slice p A.L c] 24)).alloc (.cells (madeCells #[.bool false] A.L) 4)).frozen? ⟨w.heap.size + 1, 0, none⟩ = false := frozen_row hrow _
  have HROW := hide hrow
  clear hrow
  go_enter Try.func55, Try.ntmps55
  go_wp2_with fail
  obtain ⟨w1, hw1⟩ : ∃ w1, ((w.alloc (.cells #[.int .i64 A.n, .slice p A.L c] 24)).alloc (.cells ((madeCells #[.bool false] A.L).setIfInBounds 0 (.bool true)) 4)) = w1 := ⟨_, rfl⟩
  have hE1 : Ext w w1 := by rw [← hw1]; exact ((Ext.refl w).alloc _).alloc _
  have hm1 : w1.heap[w.heap.size + 1]? = some (.cells (bcells A.L (setM (fun _ => false) 0)) 4 (0, 0)) := by
    rw [← hw1, ← bcells_set _ (by omega), bcells_zero, ← made_rep]
    have := heap_alloc_new (w.alloc (.cells #[.int .i64 A.n, .slice p A.L c] 24)) (.cells ((madeCells #[.bool false] A.L).setIfInBounds 0 (.bool true)) 4)
    rwa [World.size_alloc] at this
  have ha1 : w1.cell? ⟨w.heap.size, 1, none⟩ = some (.slice p A.L c) := by
    rw [← hw1, cell_alloc_old _ (by simp), cell_new]; rfl
  have hM1 : Passed A (setM (fun _ => false) 0) 0 := by
    have hk : Mark A (setM (fun _ => false) 0) := ⟨rfl, fun s hs => by
      unfold setM at hs; split at hs
      · rename_i e; rw [e]; exact .zero
      · cases hs⟩
    refine ⟨hk, .inl ?_⟩
    have := cntM_lt (m := fun _ => false) (m' := setM (fun _ => false) 0) (fun _ h => by cases h) (t := 0) rfl rfl A.L (by omega)
    omega
  rw [hw1]
  clear hw1 hb0 hbf HROW
  go_loopw [4, 5, 6] (fun x y z wr => ∃ n : Nat, ∃ m, n ≤ A.L ∧ x = .int .i64 n ∧ Passed A m n ∧ Ext w wr ∧ wr.cell? ⟨w.heap.size, 1, none⟩ = some (.slice p A.L c) ∧ wr.heap[w.heap.size + 1]? = some (.cells (bcells A.L m) 4 (0, 0))) (fun x _ _ _ => A.L - (intOf x).toNat)
  case atStart => exact ⟨0, _, by omega, rfl, hM1, hE1, ha1, hm1⟩
  case round =>
    clear hE1 hm1 ha1 hM1 w1
    obtain ⟨n, m, hn, rfl, hP, hE, ha, hm⟩ := hrel
    have HP := hide hP
    have HM := hide hm
    clear hP hm
    by_cases hlt : n < A.L
    · obtain ⟨b, o, rfl, hb, hat⟩ := HAT.out (by omega)
      have HA := hide hat
      clear hat
      go_wp2_with fail
      obtain ⟨wo, rfl⟩ : ∃ wo : World, wo = wr := ⟨_, rfl⟩
      go_loopw [5, 6] (fun x y wr => ∃ s : Nat, ∃ m', s ≤ A.L ∧ x = .int .i64 s ∧ Pass A m m' (fun s' _ => s' < s) ∧ Ext w wr ∧ wr.cell? ⟨w.heap.size, 1, none⟩ = some (.slice (some ⟨b, o, none⟩) A.L c) ∧ wr.heap[w.heap.size + 1]? = some (.cells (bcells A.L m') 4 (0, 0))) (fun x _ _ => A.L - (intOf x).toNat)
      case atStart => exact ⟨0, m, by omega, rfl, .start HP.out.1, hE, ha, HM.out⟩
      case round =>
        clear hE ha
        obtain ⟨s, m', hs, rfl, hP, hE, ha, hm⟩ := hrel
        have HP2 := hide hP
        have HM2 := hide hm
        clear hP hm
        by_cases hls : s < A.L
        · obtain ⟨q, d, hcl, hld, hml, _, hmv⟩ := HA.out s hls
          have HMV := hide hmv
          clear hmv
          go_wp2_with fail
          obtain ⟨wo2, rfl⟩ : ∃ wo2 : World, wo2 = wr := ⟨_, rfl⟩
          go_loopw [6] (fun x wr => ∃ i : Nat, ∃ m2, i ≤ A.len s ∧ x = .int .i64 i ∧ Pass A m m2 (fun s' i' => s' < s ∨ (s' = s ∧ i' < i)) ∧ Ext w wr ∧ wr.cell? ⟨w.heap.size, 1, none⟩ = some (.slice (some ⟨b, o, none⟩) A.L c) ∧ wr.heap[w.heap.size + 1]? = some (.cells (bcells A.L m2) 4 (0, 0))) (fun x _ => A.len s - (intOf x).toNat)
          case atStart => exact ⟨0, m', by omega, rfl, HP2.out.weaken (fun s' i' _ _ h => by omega), hE, ha, HM2.out⟩
          case round =>
            clear hE ha
            obtain ⟨i, m2, hi, rfl, hP, hE, ha, hm⟩ := hrel
            have HP3 := hide hP
            have HM3 := hide hm
            clear hP hm
            by_cases hli : i < A.len s
            · obtain ⟨b2, o2, rfl, hb2, hat⟩ := HMV.out (by omega)
              obtain ⟨_, _, _, _, _, _, _, x7⟩ := hat i hli
              clear hat
              obtain ⟨ht0, ht1, _, _⟩ := HS.out s hls i hli
              obtain ⟨t, ht⟩ := Int.eq_ofNat_of_zero_le ht0
              have htt : (A.mv s i).to.toNat = t := by rw [ht]; rfl
              have HTK := hide (fun hm => HP3.out.take hls hli hm (by rw [htt]; omega))
              have HPS := hide (fun hm => HP3.out.pass hm)
              rw [htt] at HTK
              rw [ht] at x7 ht1
              clear htt ht ht0
              have hcs : wr.cell? ⟨w.heap.size + 1, s, none⟩ = some (.bool (m2 s)) := by rw [cell_of_row _ _ _ _ _ _ HM3.out, bcells_at _ hls]
              have hct : wr.cell? ⟨w.heap.size + 1, t, none⟩ = some (.bool (m2 t)) := by rw [cell_of_row _ _ _ _ _ _ HM3.out, bcells_at _ (by omega)]
              have hft : wr.frozen? ⟨w.heap.size + 1, t, none⟩ = false := frozen_row HM3.out _
              have htL : t < A.L := by omega
              cases hms : m2 s with
              | true =>
                rw [hms] at hcs
                have HMS := hide hms
                clear hms
                go_wp2_with fail
                refine ⟨⟨i + 1, _, by omega, by simp, HTK.out HMS.out, hE.setCell (by simp) _, ?_, ?_⟩, by simp [intOf]; try omega⟩
                · rw [cell_set_other _ (by simp)]; exact ha
                · rw [row_set HM3.out, bcells_set _ htL]
              | false =>
                rw [hms] at hcs
                have HMS := hide hms
                clear hms
                go_wp2_with fail
                exact ⟨⟨i + 1, _, by omega, by simp, HPS.out HMS.out, hE, ha, HM3.out⟩, by simp [intOf]; try omega⟩
            · obtain rfl : i = A.len s := by omega
              go_wp2_with fail
              have hw : ∀ s' i', s' < A.L → i' < A.len s' → s' < s + 1 → s' < s ∨ (s' = s ∧ i' < A.len s) := fun s' i' _ hi' h => by
                rcases Nat.lt_or_ge s' s with h7 | h7
                · exact .inl h7
                · have e : s' = s := by omega
                  subst e; exact .inr ⟨rfl, hi'⟩
              exact ⟨⟨s + 1, m2, by omega, by simp, HP3.out.weaken hw, hE, ha, HM3.out⟩, by simp [intOf]; try omega⟩
        · obtain rfl : s = A.L := by omega
          go_wp2_with fail
          exact ⟨⟨n + 1, m', by omega, by simp, HP.out.next HP2.out, hE, ha, HM2.out⟩, by simp [intOf]; try omega⟩
    · obtain rfl : n = A.L := by omega
      go_wp2_with fail
      go_ret
      have := HM.out
      rw [HP.out.all] at this
      exact ⟨⟨w.heap.size + 1, rfl, by omega, this⟩, hE⟩
end Go.Proofs.Ytjgkgcjmcpgiaaa
