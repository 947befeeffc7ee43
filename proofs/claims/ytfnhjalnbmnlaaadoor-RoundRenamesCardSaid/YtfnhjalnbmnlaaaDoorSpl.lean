/-
  Texts cut at blanks, by recursion; the text of a graph is parsed as the graph.
  Conditions: none.
-/
import Derived.Test.YtfnhjalnbmnlaaaDoorParse
namespace Go.Proofs.YtfnhjalnbmnlaaaDoor
open Go.RowKit

/-- A text cut at its blanks. -/
def spl : List UInt8 → List (List UInt8)
  | [] => [[]]
  | c :: r => if c = 32 then [] :: spl r else (c :: (spl r).headD []) :: (spl r).tail
theorem spl_ne : ∀ l, spl l ≠ []
  | [] => by simp [spl]
  | c :: r => by unfold spl; split <;> simp
theorem spl_cons (l : List UInt8) : spl l = (spl l).headD [] :: (spl l).tail := by
  cases h : spl l with
  | nil => exact absurd h (spl_ne l)
  | cons x t => rfl
theorem index_neg : ∀ (l : List UInt8), Lib.index l [32] = -1 → l.count 32 = 0
  | [], _ => rfl
  | b :: l, h => by
    unfold Lib.index at h
    split at h
    · omega
    · rename_i hp
      have hb : b ≠ 32 := fun e => hp (by subst e; rfl)
      split at h
      · rename_i h2
        rw [List.count_cons_of_ne hb, index_neg l (by simpa using h2)]
      · have := Lib.index_ge l [32]
        omega
theorem split_eq : ∀ l, splitS l = spl l
  | [] => by unfold splitS Lib.split; rw [Lib.count_one]; rfl
  | c :: r => by
    have ih := split_eq r
    unfold splitS Lib.split at ih ⊢
    rw [Lib.count_one] at ih ⊢
    unfold spl
    by_cases hc : c = 32
    · subst hc
      rw [if_pos rfl, List.count_cons_self, ← ih]
      rfl
    · rw [if_neg hc, List.count_cons_of_ne hc, ← ih]
      cases hk : r.count 32 with
      | zero => rfl
      | succ m =>
        have hn : Lib.index r [32] ≠ -1 := fun h => by rw [index_neg r h] at hk; omega
        have hi : Lib.index (c :: r) [32] = Lib.index r [32] + 1 := by
          rw [Lib.index, if_neg, if_neg]
          · simpa using hn
          · intro h
            simp only [List.isPrefixOf, Bool.and_true, beq_iff_eq] at h
            exact hc h.symm
        have hge := Lib.index_ge r [32]
        obtain ⟨i, hi'⟩ : ∃ i : Nat, Lib.index r [32] = i := ⟨(Lib.index r [32]).toNat, by omega⟩
        unfold Lib.splitK
        rw [hi, hi', if_neg (by simp; omega), if_neg (by simp)]
        rw [show ((i : Int) + 1).toNat = i + 1 by omega, show ((i : Int)).toNat = i by omega]
        rfl
/-- A text without a blank. -/
abbrev noSp (l : List UInt8) : Prop := ∀ c ∈ l, c ≠ 32
theorem spl_join : ∀ (P : List (List UInt8)) (x : List UInt8), noSp x → (∀ y ∈ P, noSp y) → spl (x ++ Lib.joinTail [32] P) = x :: P
  | [], [], _, _ => rfl
  | y :: P, [], _, hP => by
    show spl (32 :: (y ++ Lib.joinTail [32] P)) = _
    unfold spl
    rw [if_pos rfl, spl_join P y (hP y (by simp)) fun z hz => hP z (by simp [hz])]
  | P, c :: x, hx, hP => by
    show spl (c :: (x ++ Lib.joinTail [32] P)) = _
    unfold spl
    rw [if_neg (hx c (by simp)), spl_join P x (fun d hd => hx d (by simp [hd])) hP]
    rfl
theorem txt_ok : ∀ s, s < 32 → (txt s).all okC = true ∧ rowB (txt s) = s := by decide +kernel
theorem ok_noSp {l : List UInt8} (h : l.all okC = true) : noSp l := fun c hc e => by
  rw [List.all_eq_true] at h
  have := h c hc
  subst e
  exact absurd this (by decide)
theorem partsG_getD (g : Gr) {n p : Nat} (hp : p < n) : (partsG g n).getD p [] = txt (g.r p) := by
  unfold partsG
  rw [List.getD_eq_getElem?_getD, List.getElem?_map, List.getElem?_range hp]; rfl
theorem partsG_cons (g : Gr) (n : Nat) : ∃ P, partsG g (n + 1) = txt (g.r 0) :: P ∧ ∀ y ∈ P, ∃ i, y = txt (g.r i) := by
  unfold partsG
  rw [List.range_succ_eq_map, List.map_cons]
  refine ⟨_, rfl, fun y hy => ?_⟩
  rw [List.map_map] at hy
  obtain ⟨i, _, rfl⟩ := List.mem_map.1 hy
  exact ⟨_, rfl⟩
theorem split_wrt {g : Gr} {n : Nat} (hg : Wf g n) : splitS (wrt g) = partsG g n := by
  have h1 := hg.n1
  obtain ⟨m, rfl⟩ : ∃ m, n = m + 1 := ⟨n - 1, by omega⟩
  unfold wrt
  rw [hg.toNat]
  obtain ⟨P, hP, hall⟩ := partsG_cons g m
  rw [hP, Lib.join_cons, split_eq, spl_join P _ (ok_noSp (txt_ok _ (hg.lt32 0)).1)]
  intro y hy
  obtain ⟨i, rfl⟩ := hall y hy
  exact ok_noSp (txt_ok _ (hg.lt32 i)).1
theorem mkG_congr (N : Nat) {f f' : Nat → Int} {k : Nat} (h : ∀ p, p < k → f p = f' p) : mkG N f k = mkG N f' k := by
  unfold mkG
  have e : ∀ p, (if p < k then f p else 0) = if p < k then f' p else 0 := fun p => by
    split
    · rw [h p ‹_›]
    · rfl
  rw [e 0, e 1, e 2, e 3, e 4]
theorem cand_wrt {g : Gr} {n : Nat} (hg : Wf g n) : candG (partsG g n) = g := by
  unfold candG
  rw [partsG_len]
  refine Eq.trans ?_ (wf_natG hg).symm
  unfold natG
  exact mkG_congr n fun p hp => by rw [partsG_getD g hp, (txt_ok _ (hg.lt32 p)).2]
/-- The text of a well-formed graph is parsed as it. -/
theorem parse_wrt {g : Gr} {n : Nat} (hg : Wf g n) : parseS (wrt g) = (g, 0) := by
  have hs := split_wrt hg
  have hl : ¬ 5 < (splitS (wrt g)).length := by rw [hs, partsG_len]; have := hg.n5; omega
  have ha : (splitS (wrt g)).all (fun x => x.all okC) = true := by
    rw [hs, List.all_eq_true]
    intro x hx
    unfold partsG at hx
    obtain ⟨i, _, rfl⟩ := List.mem_map.1 hx
    exact (txt_ok _ (hg.lt32 i)).1
  have hc : candG (splitS (wrt g)) = g := by rw [hs, cand_wrt hg]
  have := parseS_ok hl ha (by rw [hc]; exact wf_chk hg) (by rw [hc])
  rw [this, hc]
theorem wrt_inj {a b : Gr} {n m : Nat} (ha : Wf a n) (hb : Wf b m) (h : wrt a = wrt b) : a = b := by
  have h1 := parse_wrt ha
  rw [h, parse_wrt hb] at h1
  exact (Prod.mk.inj h1).1.symm
theorem wrt_len {g : Gr} {n : Nat} (hg : Wf g n) : (wrt g).length ≤ 30 := by
  unfold wrt
  rw [hg.toNat]
  have := join_len [32] (partsG g n) (fun x hx => by obtain ⟨i, _, rfl⟩ := List.mem_map.1 hx; exact txt_len _)
  rw [partsG_len] at this
  have h5 := hg.n5
  have h6 : n * (5 + ([32] : List UInt8).length) ≤ 5 * 6 := Nat.mul_le_mul h5 (by decide)
  omega
end Go.Proofs.YtfnhjalnbmnlaaaDoor
