/-
  Contracts of the reference's counts of words (roundtableref16): Number, Count; State, Allows, rounds.
  Conditions: as each theorem states.
-/
import Derived.Test.YtnhgdjiljjpgmaaAdvRef
import Derived.Test.YtnhgdjiljjpgmaaWordA
import Derived.Test.YtnhgdjiljjpgmaaOwned
namespace Go.Proofs.Ytnhgdjiljjpgmaa
open Go.RowKit

def all3 (L : Nat) (M : Nat → Nat) (K : Nat → Nat → Nat) (P : Nat → Nat → Nat → Bool) : Bool :=
  (List.range L).all fun s => (List.range (M s)).all fun i => (List.range (K s i)).all fun k => P s i k
theorem all3_true {L : Nat} {M : Nat → Nat} {K : Nat → Nat → Nat} {P : Nat → Nat → Nat → Bool} (h : ∀ s, s < L → ∀ i, i < M s → ∀ k, k < K s i → P s i k = true) : all3 L M K P = true := by
  simp only [all3, List.all_eq_true, List.mem_range]; exact h
theorem all3_false {L : Nat} {M : Nat → Nat} {K : Nat → Nat → Nat} {P : Nat → Nat → Nat → Bool} {s i k : Nat} (h1 : s < L) (h2 : i < M s) (h3 : k < K s i) (h : P s i k = false) : all3 L M K P = false := by
  cases hh : all3 L M K P
  · rfl
  · simp only [all3, List.all_eq_true, List.mem_range] at hh
    rw [hh s h1 i h2 k h3] at h
    cases h
def growsB (A : Adv) : Bool := all3 A.L A.len (fun s i => A.len (A.mv s i).to.toNat) (fun s i k => inside (A.mv s i).r.f (A.mv (A.mv s i).to.toNat k).r.f)
/-- Each move leads to a state, and bears a set. -/
def Adv.sound (A : Adv) : Prop := ∀ s, s < A.L → ∀ i, i < A.len s → 0 ≤ (A.mv s i).to ∧ (A.mv s i).to < A.L ∧ 0 ≤ (A.mv s i).r.f ∧ (A.mv s i).r.f ≤ 9223372036854775807

/-- The error of a state. -/
def stErr (A : Adv) (s : Nat) : Int := if A.len s = 0 then 19 else firstErr (mvErrAt A.n A.L (A.st.getD s [])) (A.len s)
/-- The error of an adversary. -/
def achk (A : Adv) : Int :=
  if A.n < 1 ∨ 5 < A.n then 2 else if A.L < 1 ∨ 256 < A.L ∨ 4096 < movesN A then 5
  else if firstErr (stErr A) A.L = 0 then (if growsB A = true then 0 else 21) else firstErr (stErr A) A.L
theorem mvErrAt_zero {n : Int} {L : Nat} {ms : List Mv} {i : Nat} (h : mvErrAt n L ms i = 0) :
    rchk (ms.getD i default).r = 0 ∧ (ms.getD i default).r.g.n = n ∧ (0 < i → rcmp (ms.getD (i - 1) default).r (ms.getD i default).r < 0) ∧ 0 ≤ (ms.getD i default).to ∧ (ms.getD i default).to < L := by
  unfold mvErrAt at h
  by_cases h1 : rchk (ms.getD i default).r = 0
  · rw [if_pos h1] at h
    by_cases h2 : (ms.getD i default).r.g.n = n
    · rw [if_pos h2] at h
      by_cases h3 : 0 < i ∧ 0 ≤ rcmp (ms.getD (i - 1) default).r (ms.getD i default).r
      · rw [if_pos h3] at h; exact absurd h (by decide)
      · rw [if_neg h3] at h
        by_cases h4 : (ms.getD i default).to < 0 ∨ (L : Int) ≤ (ms.getD i default).to
        · rw [if_pos h4] at h; exact absurd h (by decide)
        · exact ⟨h1, h2, fun h0 => by omega, by omega, by omega⟩
    · rw [if_neg h2] at h; exact absurd h (by decide)
  · rw [if_neg h1] at h; exact absurd h h1
theorem stErr_zero {A : Adv} {s : Nat} (h : stErr A s = 0) : A.len s ≠ 0 ∧ ∀ i, i < A.len s → mvErrAt A.n A.L (A.st.getD s []) i = 0 := by
  unfold stErr at h
  by_cases h1 : A.len s = 0
  · rw [if_pos h1] at h; exact absurd h (by decide)
  · rw [if_neg h1] at h; exact ⟨h1, firstErr_zero.1 h⟩
theorem sound_of {A : Adv} (h : ∀ s, s < A.L → stErr A s = 0) : A.sound := by
  intro s hs i hi
  obtain ⟨h1, _, _, h4, h5⟩ := mvErrAt_zero ((stErr_zero (h s hs)).2 i hi)
  obtain ⟨h6, h7⟩ := rchk_zero h1
  obtain ⟨h8, h9, h10, h11⟩ := pchk_zero h7
  have hp := (pow_le32 (n := ((A.st.getD s []).getD i default).r.g.n.toNat) (by omega)).1
  exact ⟨h4, h5, h10, by show ((A.st.getD s []).getD i default).r.f ≤ _; omega⟩

end Go.Proofs.Ytnhgdjiljjpgmaa

namespace Go.Proofs.Ytnhgdjiljjpgmaa
open Go.RowKit

/-- To where a round leads among some moves, or -1. -/
def toL (ms : List Mv) (r : Rd) : Int := match ms.find? (fun m => req m.r r) with | some m => m.to | none => -1
theorem toL_at {ms : List Mv} {r : Rd} {i : Nat} (hi : i < ms.length) (hb : ∀ j, j < i → req (ms.getD j default).r r = false) (h : req (ms.getD i default).r r = true) : toL ms r = (ms.getD i default).to := by
  unfold toL
  have hx : ∀ j, j < ms.length → ms[j]? = some (ms.getD j default) := fun j hj => by rw [List.getD_eq_getElem?_getD, List.getElem?_eq_getElem hj]; rfl
  have : ms.find? (fun m => req m.r r) = some (ms.getD i default) := by
    rw [List.find?_eq_some_iff_getElem]
    refine ⟨h, i, hi, ?_, fun j hj => ?_⟩
    · have := hx i hi; rw [List.getElem?_eq_getElem hi] at this; exact Option.some.inj this
    · have h1 := hx j (by omega); rw [List.getElem?_eq_getElem (by omega)] at h1
      rw [Option.some.inj h1, hb j hj]; rfl
  rw [this]
theorem toL_end {ms : List Mv} {r : Rd} (hb : ∀ j, j < ms.length → req (ms.getD j default).r r = false) : toL ms r = -1 := by
  unfold toL
  have : ms.find? (fun m => req m.r r) = none := by
    rw [List.find?_eq_none]
    intro m hm
    obtain ⟨j, hj, rfl⟩ := List.mem_iff_getElem.1 hm
    have := hb j hj
    rw [List.getD_eq_getElem?_getD, List.getElem?_eq_getElem hj] at this
    simpa using this
  rw [this]
theorem toL_mem {ms : List Mv} {r : Rd} : toL ms r = -1 ∨ ∃ i, i < ms.length ∧ (ms.getD i default).r = r ∧ toL ms r = (ms.getD i default).to := by
  by_cases h : ∀ j, j < ms.length → req (ms.getD j default).r r = false
  · exact .inl (toL_end h)
  · obtain ⟨i, h1, h2⟩ : ∃ i, i < ms.length ∧ req (ms.getD i default).r r = true := by
      apply Classical.byContradiction
      intro hc
      exact h fun j hj => by
        cases hq : req (ms.getD j default).r r
        · rfl
        · exact absurd ⟨j, hj, hq⟩ hc
    have : ∃ k, k ≤ i ∧ req (ms.getD k default).r r = true ∧ ∀ j, j < k → req (ms.getD j default).r r = false := by
      clear h
      induction i using Nat.strongRecOn with
      | _ i ih =>
        by_cases hall : ∀ j, j < i → req (ms.getD j default).r r = false
        · exact ⟨i, Nat.le_refl _, h2, hall⟩
        · obtain ⟨j, hj, hq⟩ : ∃ j, j < i ∧ req (ms.getD j default).r r = true := by
            apply Classical.byContradiction
            intro hc
            exact hall fun j hj => by
              cases hq : req (ms.getD j default).r r
              · rfl
              · exact absurd ⟨j, hj, hq⟩ hc
          obtain ⟨k, h3, h4, h5⟩ := ih j hj (by omega) hq
          exact ⟨k, by omega, h4, h5⟩
    obtain ⟨k, h3, h4, h5⟩ := this
    exact .inr ⟨k, by omega, req_iff.1 h4, toL_at (by omega) h5 h4⟩

theorem achk_zero {A : Adv} (h : achk A = 0) : 1 ≤ A.n ∧ A.n ≤ 5 ∧ 1 ≤ A.L ∧ A.L ≤ 256 ∧ movesN A ≤ 4096 ∧ (∀ s, s < A.L → stErr A s = 0) ∧ growsB A = true := by
  unfold achk at h
  by_cases h1 : A.n < 1 ∨ 5 < A.n
  · rw [if_pos h1] at h; exact absurd h (by decide)
  rw [if_neg h1] at h
  by_cases h2 : A.L < 1 ∨ 256 < A.L ∨ 4096 < movesN A
  · rw [if_pos h2] at h; exact absurd h (by decide)
  rw [if_neg h2] at h
  by_cases h3 : firstErr (stErr A) A.L = 0
  · rw [if_pos h3] at h
    cases h4 : growsB A
    · rw [h4] at h; exact absurd h (by decide)
    · exact ⟨by omega, by omega, by omega, by omega, by omega, firstErr_zero.1 h3, rfl⟩
  · rw [if_neg h3] at h; exact absurd h h3
theorem to_range {A : Adv} (h : achk A = 0) {s : Nat} (hs : s < A.L) (r : Rd) : toL (A.st.getD s []) r = -1 ∨ (0 ≤ toL (A.st.getD s []) r ∧ toL (A.st.getD s []) r < A.L) := by
  rcases toL_mem (ms := A.st.getD s []) (r := r) with h1 | ⟨i, h1, _, h3⟩
  · exact .inl h1
  · have := sound_of (achk_zero h).2.2.2.2.2.1 s hs i h1
    rw [h3]
    exact .inr ⟨this.1, this.2.1⟩

/-- What Step returns. -/
def stepS (A : Adv) (s : Int) (r : Rd) : Int × Int :=
  if achk A = 0 then (if s < 0 ∨ (A.L : Int) ≤ s then (0, 6) else if 0 ≤ toL (A.st.getD s.toNat []) r then (toL (A.st.getD s.toNat []) r, 0) else (0, 25)) else (0, achk A)
theorem ret_tup {a b c d : Int} {k l : IntKind} (h : (a, b) = (c, d)) : Ending.returned (.tuple #[.int k a, .int l b]) = .returned (.tuple #[.int k c, .int l d]) := by
  injection h with h1 h2; rw [h1, h2]
theorem ret_tupb {a c : Bool} {b d : Int} {l : IntKind} (h : (a, b) = (c, d)) : Ending.returned (.tuple #[.bool a, .int l b]) = .returned (.tuple #[.bool c, .int l d]) := by
  injection h with h1 h2; rw [h1, h2]


/-- The state behind a word, from a state on; or something negative. -/
def after (A : Adv) (s : Int) : List Rd → Int
  | [] => s
  | r :: l => if s < 0 then s else after A (toL (A.st.getD s.toNat []) r) l
theorem after_neg {A : Adv} {s : Int} (h : s < 0) (l : List Rd) : after A s l = s := by
  cases l with
  | nil => rfl
  | cons r l => simp only [after]; rw [if_pos h]
theorem after_step {A : Adv} {s : Int} (h : ¬ s < 0) {l : List Rd} {k : Nat} (hk : k < l.length) : after A s (l.drop k) = after A (toL (A.st.getD s.toNat []) (l.getD k default)) (l.drop (k + 1)) := by
  have e : l.getD k default = l[k] := by rw [List.getD_eq_getElem?_getD, List.getElem?_eq_getElem hk]; rfl
  rw [List.drop_eq_getElem_cons hk, e]
  show (if s < 0 then s else after A (toL (A.st.getD s.toNat []) l[k]) (l.drop (k + 1))) = _
  rw [if_neg h]
theorem after_range {A : Adv} (h : achk A = 0) (l : List Rd) : ∀ s : Int, (s = -1 ∨ (0 ≤ s ∧ s < A.L)) → (after A s l = -1 ∨ (0 ≤ after A s l ∧ after A s l < A.L)) := by
  induction l with
  | nil => intro s hs; exact hs
  | cons r l ih =>
    intro s hs
    simp only [after]
    by_cases h0 : s < 0
    · rw [if_pos h0]; exact hs
    · rw [if_neg h0]
      exact ih _ (to_range h (s := s.toNat) (by omega) r)

end Go.Proofs.Ytnhgdjiljjpgmaa

namespace Go.Proofs.Ytnhgdjiljjpgmaa
open Go.RowKit

/-- The number of words with k rounds from state s on, cut at lim + 1. -/
def cntStep (A : Adv) (lim : Int) (f : Nat → Int) (s i : Nat) : Int := (List.range i).foldl (fun n j => min (n + f (A.mv s j).to.toNat) (lim + 1)) 0
def cnt (A : Adv) (lim : Int) : Nat → Nat → Int
  | 0, _ => 1
  | k + 1, s => cntStep A lim (cnt A lim k) s (A.len s)
theorem cntStep_succ (A : Adv) (lim : Int) (f : Nat → Int) (s i : Nat) : cntStep A lim f s (i + 1) = min (cntStep A lim f s i + f (A.mv s i).to.toNat) (lim + 1) := by
  unfold cntStep
  rw [List.range_succ, List.foldl_append]
  rfl
theorem cntStep_range {A : Adv} {lim : Int} {f : Nat → Int} {s : Nat} (hl : 0 ≤ lim) (hf : ∀ t, 0 ≤ f t) : ∀ i, 0 ≤ cntStep A lim f s i ∧ cntStep A lim f s i ≤ lim + 1 := by
  intro i
  induction i with
  | zero => simp [cntStep]; omega
  | succ i ih => rw [cntStep_succ]; have := hf (A.mv s i).to.toNat; omega
theorem cnt_range {A : Adv} {lim : Int} (hl : 0 ≤ lim) : ∀ k s, 0 ≤ cnt A lim k s ∧ cnt A lim k s ≤ lim + 1 := by
  intro k
  induction k with
  | zero => intro s; simp only [cnt]; omega
  | succ k ih => intro s; simp only [cnt]; exact cntStep_range hl (fun t => (ih t).1) _
theorem map_range_getD (f : Nat → Int) (n i : Nat) (h : i < n) : ((List.range n).map f).getD i 0 = f i := by
  rw [List.getD_eq_getElem?_getD, List.getElem?_map, List.getElem?_range h]; rfl

def rdsErr (k : Int) : Int := if k < 0 ∨ 6 < k then 2 else 0
/-- What Count returns, at a limit. -/
def countS (A : Adv) (k lim : Int) : Int × Int :=
  if achk A = 0 then (if rdsErr k = 0 then (if lim < cnt A lim k.toNat 0 then (0, 17) else (cnt A lim k.toNat 0, 0)) else (0, rdsErr k)) else (0, achk A)
theorem rdsErr_zero {k : Int} (h : rdsErr k = 0) : 0 ≤ k ∧ k ≤ 6 := by
  unfold rdsErr at h
  by_cases h1 : k < 0 ∨ 6 < k
  · rw [if_pos h1] at h; exact absurd h (by decide)
  · omega

/-- What State and Allows return. -/
def stateS (A : Adv) (l : List Rd) : Int × Int := if achk A = 0 then (if 0 ≤ after A 0 l then (after A 0 l, 0) else (0, 25)) else (0, achk A)
def allowsS (A : Adv) (l : List Rd) : Bool × Int := if achk A = 0 then (decide (0 ≤ after A 0 l), 0) else (false, achk A)
end Go.Proofs.Ytnhgdjiljjpgmaa
