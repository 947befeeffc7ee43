/-
  Plain: what the law TopDivisionsDefined counts.
  Conditions: as each theorem states.
-/
import Derived.Test.YtnhgdjiljjpgmaaPlayL
import Derived.Test.YtnhgdjiljjpgmaaSnapLaw
namespace Go.Proofs.Ytnhgdjiljjpgmaa

/-- What the law asks of two processes in a round: for groups, and for chains. -/
def grpB (r : Rd) (a b : Nat) : Bool := ((!hb r.g a b) == (r.g.h a != r.g.h b)) && r.f == 0
def chnB (r : Rd) (a b : Nat) : Bool := (insd (r.g.h a).toNat (r.g.h b).toNat || insd (r.g.h b).toNat (r.g.h a).toNat) && ((!hb r.g a b || insd (r.g.h b).toNat (r.g.h a).toNat) && r.f == 0)
def allP (n : Nat) (f : Nat → Nat → Bool) : Bool := (List.range n).all fun a => (List.range n).all fun b => f a b
def splB (n : Nat) (r : Rd) : Bool := (List.range n).any fun a => (List.range n).any fun b => !hb r.g a b
theorem allP_iff {n : Nat} {f : Nat → Nat → Bool} : allP n f = true ↔ ∀ a, a < n → ∀ b, b < n → f a b = true := by
  unfold allP
  simp only [List.all_eq_true, List.mem_range]
theorem grp_iff {n : Nat} {r : Rd} (hr : RdN n r) (h1 : 1 ≤ n) : allP n (grpB r) = true ↔ r.f = 0 ∧ Dvd n r.g := by
  rw [allP_iff]
  have hown : ∀ p, p < n → hb r.g p p = true := fun p hp => by
    unfold hb bit
    rw [hr.wf.row p, Int.toNat_natCast]
    exact hr.wf.own p hp
  constructor
  · intro h
    have hf : r.f = 0 := by
      have := h 0 h1 0 h1
      unfold grpB at this
      rw [Bool.and_eq_true, beq_iff_eq (a := r.f)] at this
      exact this.2
    refine ⟨hf, fun p q hp hq hpq => ?_⟩
    have := h p hp q hq
    unfold grpB at this
    rw [Bool.and_eq_true, hpq] at this
    have h2 := this.1
    simp only [Bool.not_true] at h2
    by_cases e : r.g.h p = r.g.h q
    · exact e
    · rw [show (r.g.h p != r.g.h q) = true by simpa using e] at h2
      cases h2
  · rintro ⟨hf, hd⟩ a ha b hb'
    unfold grpB
    rw [Bool.and_eq_true, beq_iff_eq, beq_iff_eq]
    refine ⟨?_, hf⟩
    cases hab : hb r.g a b with
    | true =>
      rw [hd a b ha hb' hab]
      simp
    | false =>
      have : r.g.h a ≠ r.g.h b := fun e => by
        have := hown b hb'
        unfold hb at this hab
        rw [← e, hab] at this
        cases this
      simp [this]
theorem chn_iff {n : Nat} {r : Rd} (h1 : 1 ≤ n) : allP n (chnB r) = true ↔ r.f = 0 ∧ Snp n r.g := by
  rw [allP_iff]
  unfold Snp snapB
  simp only [List.all_eq_true, List.mem_range]
  constructor
  · intro h
    refine ⟨?_, fun a ha b hb' => ?_⟩
    · have := h 0 h1 0 h1
      unfold chnB at this
      simp only [Bool.and_eq_true, beq_iff_eq] at this
      exact this.2.2
    · have := h a ha b hb'
      unfold chnB hb at this
      revert this
      cases insd (r.g.h a).toNat (r.g.h b).toNat <;> cases insd (r.g.h b).toNat (r.g.h a).toNat <;> cases bit (r.g.h a).toNat b <;> simp
  · rintro ⟨hf, h⟩ a ha b hb'
    have := h a ha b hb'
    unfold chnB hb
    rw [hf]
    revert this
    cases insd (r.g.h a).toNat (r.g.h b).toNat <;> cases insd (r.g.h b).toNat (r.g.h a).toNat <;> cases bit (r.g.h a).toNat b <;> simp
theorem spl_iff {n : Nat} {r : Rd} (hr : RdN n r) (h1 : 1 ≤ n) (hd : Dvd n r.g) : splB n r = !decide (Whole n r.g) := by
  rw [Bool.eq_iff_iff, Bool.not_eq_true', decide_eq_false_iff_not, whole_iff h1 hr.wf hd]
  unfold splB
  simp only [List.any_eq_true, List.mem_range, Bool.not_eq_true']
  constructor
  · rintro ⟨a, ha, b, hb', h⟩ k
    rw [k a b ha hb'] at h
    cases h
  · intro h
    refine Classical.byContradiction fun hn => h fun p q hp hq => ?_
    cases hpq : hb r.g p q with
    | true => rfl
    | false => exact absurd ⟨p, hp, q, hq, hpq⟩ hn
/-- What the law has found behind all rounds. -/
def allGrp (n : Nat) (l : List Rd) : Bool := l.all fun r => allP n (grpB r)
def allChn (n : Nat) (l : List Rd) : Bool := l.all fun r => allP n (chnB r)
theorem div_found {n k : Nat} {A : Adv} (h1 : 1 ≤ n) (h5 : n ≤ 5) (FA : DivA n k A) {l : List Rd} (hl : ∀ r ∈ l, RdN n r) : allowsS A l = (allGrp n l && decide (l.countP (splB n) ≤ k), 0) := by
  unfold allowsS
  rw [if_pos FA.chk]
  refine Prod.ext ?_ rfl
  show decide (0 ≤ after A 0 l) = _
  rw [Bool.eq_iff_iff, decide_eq_true_eq, FA.allows, chain_parts h1 h5 l 0 (Nat.zero_le _) hl, Bool.and_eq_true, decide_eq_true_eq]
  have hG : allGrp n l = true ↔ ∀ r ∈ l, r.f = 0 ∧ Dvd n r.g := by
    unfold allGrp
    rw [List.all_eq_true]
    exact ⟨fun h r hr => (grp_iff (hl r hr) h1).1 (h r hr), fun h r hr => (grp_iff (hl r hr) h1).2 (h r hr)⟩
  rw [hG]
  refine and_congr_right fun h => ?_
  have : l.countP (fun r => !decide (Whole n r.g)) = l.countP (splB n) := List.countP_congr fun r hr => by rw [spl_iff (hl r hr) h1 (h r hr).2]
  rw [this, Nat.zero_add]
theorem snp_found {n : Nat} {A : Adv} (h1 : 1 ≤ n) (FA : SnpA n A) {l : List Rd} (hl : ∀ r ∈ l, RdN n r) : allowsS A l = (allChn n l, 0) := by
  unfold allowsS
  rw [if_pos FA.chk]
  refine Prod.ext ?_ rfl
  show decide (0 ≤ after A 0 l) = _
  rw [Bool.eq_iff_iff, decide_eq_true_eq, FA.allows l hl]
  unfold allChn
  rw [List.all_eq_true]
  exact ⟨fun h r hr => (chn_iff h1).2 (h r hr), fun h r hr => (chn_iff h1).1 (h r hr)⟩
end Go.Proofs.Ytnhgdjiljjpgmaa
