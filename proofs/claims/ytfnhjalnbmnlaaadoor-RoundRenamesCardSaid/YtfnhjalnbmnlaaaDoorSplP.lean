/-
  Texts cut at blanks, byte by byte.
  Conditions: none.
-/
import Derived.Test.YtfnhjalnbmnlaaaDoorSpl
import Derived.Test.YtfnhjalnbmnlaaaDoorGRefQ
namespace Go.Proofs.YtfnhjalnbmnlaaaDoor

theorem spl_len : ∀ l, (spl l).length = l.count 32 + 1
  | [] => rfl
  | c :: r => by
    have ih := spl_len r
    unfold spl
    by_cases hc : c = 32
    · subst hc; rw [if_pos rfl, List.count_cons_self, List.length_cons, ih]
    · rw [if_neg hc, List.count_cons_of_ne hc, List.length_cons, List.length_tail, ih]; omega
theorem spl_snoc_sp : ∀ l, spl (l ++ [32]) = spl l ++ [[]]
  | [] => rfl
  | c :: r => by
    have ih := spl_snoc_sp r
    rw [List.cons_append]
    unfold spl
    by_cases hc : c = 32
    · rw [if_pos hc, if_pos hc, ih]; rfl
    · rw [if_neg hc, if_neg hc, ih, spl_cons r]; rfl
theorem spl_snoc_ch {c : UInt8} (hc : c ≠ 32) : ∀ l, ∃ I x, spl l = I ++ [x] ∧ spl (l ++ [c]) = I ++ [x ++ [c]]
  | [] => ⟨[], [], rfl, by simp [spl, hc]⟩
  | d :: r => by
    obtain ⟨I, x, h1, h2⟩ := spl_snoc_ch hc r
    rw [List.cons_append]
    unfold spl
    by_cases hd : d = 32
    · rw [if_pos hd, if_pos hd, h1, h2]; exact ⟨[] :: I, x, rfl, rfl⟩
    · rw [if_neg hd, if_neg hd, h1, h2]
      cases I with
      | nil => exact ⟨[], d :: x, rfl, rfl⟩
      | cons y I => exact ⟨(d :: y) :: I, x, rfl, rfl⟩
theorem spl_has {c : UInt8} (hc : c ≠ 32) : ∀ {l : List UInt8}, c ∈ l → ∃ x ∈ spl l, c ∈ x
  | d :: r, h => by
    unfold spl
    by_cases hd : d = 32
    · rw [if_pos hd]
      have hr : c ∈ r := by
        rcases List.mem_cons.1 h with h | h
        · exact absurd (h.trans hd) hc
        · exact h
      obtain ⟨x, hx, hcx⟩ := spl_has hc hr
      exact ⟨x, by simp [hx], hcx⟩
    · rw [if_neg hd]
      rcases List.mem_cons.1 h with h | h
      · exact ⟨_, List.mem_cons_self, by rw [h]; simp⟩
      · obtain ⟨x, hx, hcx⟩ := spl_has hc h
        rw [spl_cons r] at hx
        rcases List.mem_cons.1 hx with h1 | h1
        · exact ⟨_, List.mem_cons_self, by rw [← h1]; simp [hcx]⟩
        · exact ⟨x, by simp [h1], hcx⟩
theorem spl_in : ∀ {l : List UInt8} {x : List UInt8} {c : UInt8}, x ∈ spl l → c ∈ x → c ∈ l ∧ c ≠ 32
  | [], x, c, hx, hc => by simp [spl] at hx; subst hx; simp at hc
  | d :: r, x, c, hx, hc => by
    unfold spl at hx
    by_cases hd : d = 32
    · rw [if_pos hd] at hx
      rcases List.mem_cons.1 hx with h | h
      · subst h; simp at hc
      · have := spl_in h hc; exact ⟨by simp [this.1], this.2⟩
    · rw [if_neg hd] at hx
      rcases List.mem_cons.1 hx with h | h
      · subst h
        rcases List.mem_cons.1 hc with h1 | h1
        · subst h1; exact ⟨by simp, hd⟩
        · have := spl_in (l := r) (by rw [spl_cons r]; exact List.mem_cons_self) h1; exact ⟨by simp [this.1], this.2⟩
      · have := spl_in (l := r) (by rw [spl_cons r]; exact List.mem_cons_of_mem _ h) hc; exact ⟨by simp [this.1], this.2⟩
/-- The bytes that a graph's text may hold. -/
def okS (c : UInt8) : Bool := c == 32 || okC c
theorem all_ok {l : List UInt8} (h : ∀ c ∈ l, okS c = true) : (splitS l).all (fun x => x.all okC) = true := by
  rw [split_eq, List.all_eq_true]
  intro x hx
  rw [List.all_eq_true]
  intro c hc
  obtain ⟨h1, h2⟩ := spl_in hx hc
  have := h c h1
  unfold okS at this
  rw [Bool.or_eq_true, beq_iff_eq] at this
  exact this.resolve_left h2
theorem all_bad {l : List UInt8} {c : UInt8} (hc : c ∈ l) (h : okS c = false) : (splitS l).all (fun x => x.all okC) = false := by
  unfold okS at h
  rw [Bool.or_eq_false_iff, beq_eq_false_iff_ne] at h
  obtain ⟨x, hx, hcx⟩ := spl_has h.1 hc
  rw [split_eq, List.all_eq_false]
  refine ⟨x, hx, ?_⟩
  rw [Bool.not_eq_true, List.all_eq_false]
  exact ⟨c, hcx, by rw [h.2]; decide⟩
theorem parse_bad {l : List UInt8} {c : UInt8} (hc : c ∈ l) (h : okS c = false) : parseS l = (gz0, 4) := by
  by_cases h5 : 5 < (splitS l).length
  · exact parseS_long h5
  · exact parseS_bad h5 (all_bad hc h)
theorem parse_long {l : List UInt8} {i : Nat} (h : 5 < (spl (l.take i)).length) : parseS l = (gz0, 4) := by
  refine parseS_long ?_
  rw [split_eq, spl_len]
  rw [spl_len] at h
  have : (l.take i).count 32 ≤ l.count 32 := (List.take_sublist i l).count_le _
  omega
/-- The graph of the parts so far. -/
theorem cand_nil : candG (spl []) = ⟨1, 0, 0, 0, 0, 0⟩ := by decide
def Gr.setN (g : Gr) (m : Int) : Gr := ⟨m, g.h0, g.h1, g.h2, g.h3, g.h4⟩
theorem Gr.setN_h (g : Gr) (m : Int) {p : Nat} (hp : p < 5) : (g.setN m).h p = g.h p := by
  obtain rfl | rfl | rfl | rfl | rfl : p = 0 ∨ p = 1 ∨ p = 2 ∨ p = 3 ∨ p = 4 := by omega
  all_goals rfl
theorem mkG_more (N M : Nat) (f : Nat → Int) (k : Nat) (hk : k < 5) (h0 : f k = 0) : mkG M f (k + 1) = (mkG N f k).setN M := by
  refine Gr.ext_h rfl fun p hp => ?_
  rw [Gr.setN_h _ _ hp, mkG_h _ _ _ _ hp, mkG_h _ _ _ _ hp]
  by_cases h1 : p < k
  · rw [if_pos h1, if_pos (by omega)]
  · by_cases h2 : p = k
    · subst h2; rw [if_pos (by omega), if_neg (by omega), h0]
    · rw [if_neg (by omega), if_neg (by omega)]
theorem cand_sp {l : List UInt8} (h : (spl l).length < 5) : candG (spl (l ++ [32])) = (candG (spl l)).setN ((spl l).length + 1) := by
  rw [spl_snoc_sp]
  unfold candG
  have e : ∀ p, (spl l ++ [[]]).getD p [] = (spl l).getD p [] := fun p => by
    rw [List.getD_eq_getElem?_getD, List.getD_eq_getElem?_getD]
    rcases Nat.lt_or_ge p (spl l).length with h1 | h1
    · rw [List.getElem?_append_left h1]
    · rw [List.getElem?_append_right h1, List.getElem?_eq_none h1]
      cases p - (spl l).length with
      | zero => rfl
      | succ n => rfl
  simp only [e]
  rw [List.length_append, List.length_singleton]
  have := mkG_more (spl l).length ((spl l).length + 1) (fun p => ((rowB ((spl l).getD p []) : Nat) : Int)) (spl l).length h (by
    show ((rowB ((spl l).getD (spl l).length []) : Nat) : Int) = 0
    rw [List.getD_eq_getElem?_getD, List.getElem?_eq_none (Nat.le_refl _)]; rfl)
  rw [this]
  rfl
theorem cand_ch {l : List UInt8} {c : UInt8} (hc : c ≠ 32) (h : (spl l).length ≤ 5) :
    candG (spl (l ++ [c])) = (candG (spl l)).set ((spl l).length - 1) ((rowB ((spl l).getD ((spl l).length - 1) []) ||| 2 ^ (c.toNat - 48) : Nat) : Int) ∧ (spl (l ++ [c])).length = (spl l).length ∧
    (candG (spl l)).h ((spl l).length - 1) = (rowB ((spl l).getD ((spl l).length - 1) []) : Nat) := by
  obtain ⟨I, x, h1, h2⟩ := spl_snoc_ch hc l
  rw [h1] at h ⊢
  rw [h2]
  simp only [List.length_append, List.length_singleton] at h ⊢
  have hx : ∀ y : List UInt8, (I ++ [y]).getD (I.length + 1 - 1) [] = y := fun y => by
    rw [List.getD_eq_getElem?_getD, Nat.add_sub_cancel, List.getElem?_append_right (Nat.le_refl _), Nat.sub_self]; rfl
  have ho : ∀ (y : List UInt8) p, p < I.length → (I ++ [y]).getD p [] = I.getD p [] := fun y p hp => by
    rw [List.getD_eq_getElem?_getD, List.getD_eq_getElem?_getD, List.getElem?_append_left hp]
  refine ⟨?_, by trivial, ?_⟩
  · rw [hx, Nat.add_sub_cancel, ← rowB_snoc]
    unfold candG
    simp only [List.length_append, List.length_singleton]
    refine Gr.ext_h ?_ fun p hp => ?_
    · rw [Gr.set_n]; rfl
    · by_cases hpi : p = I.length
      · subst hpi
        rw [Gr.set_h _ _ _ hp, mkG_h _ _ _ _ hp, if_pos (by omega)]
        have := hx (x ++ [c])
        rw [Nat.add_sub_cancel] at this
        rw [this]
      · rw [Gr.set_other _ _ (by omega) hp hpi, mkG_h _ _ _ _ hp, mkG_h _ _ _ _ hp]
        by_cases hlt : p < I.length
        · rw [if_pos (by omega), if_pos (by omega), ho _ _ hlt, ho _ _ hlt]
        · rw [if_neg (by omega), if_neg (by omega)]
  · unfold candG
    simp only [List.length_append, List.length_singleton]
    rw [Nat.add_sub_cancel, mkG_h _ _ _ _ (by omega), if_pos (by omega)]
theorem cand_n (P : List (List UInt8)) : (candG P).n = (P.length : Int) := rfl
end Go.Proofs.YtfnhjalnbmnlaaaDoor
