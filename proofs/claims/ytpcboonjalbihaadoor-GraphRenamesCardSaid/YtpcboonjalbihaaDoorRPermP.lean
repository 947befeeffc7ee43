/-
  What the reference's renaming builds, round by round.
  Conditions: none.
-/
import Derived.Test.YtpcboonjalbihaaDoorRPerm
namespace Go.Proofs.YtpcboonjalbihaaDoor
open Go.RowKit

/-- Row q of the renamed graph, the first k processes renamed. -/
def rnR (g : Gr) (l : List Int) (k q : Nat) : Int := if q < l.length ∧ bkN l q < k then ((imgN l (g.r (bkN l q)) l.length : Nat) : Int) else 0
def rnG (g : Gr) (l : List Int) (k : Nat) : Gr := ⟨l.length, rnR g l k 0, rnR g l k 1, rnR g l k 2, rnR g l k 3, rnR g l k 4⟩
theorem rnG_h (g : Gr) (l : List Int) (k q : Nat) (hq : q < 5) : (rnG g l k).h q = rnR g l k q := by
  obtain rfl | rfl | rfl | rfl | rfl : q = 0 ∨ q = 1 ∨ q = 2 ∨ q = 3 ∨ q = 4 := by omega
  all_goals rfl
theorem gr_eq {a b : Gr} (hn : a.n = b.n) (h : ∀ q, q < 5 → a.h q = b.h q) : a = b :=
  Gr.ext_ hn (h 0 (by omega)) (h 1 (by omega)) (h 2 (by omega)) (h 3 (by omega)) (h 4 (by omega))
theorem Gr.set_h_if (g : Gr) (p q : Nat) (x : Int) (hp : p < 5) (hq : q < 5) : (g.set p x).h q = if q = p then x else g.h q := by
  obtain rfl | rfl | rfl | rfl | rfl : p = 0 ∨ p = 1 ∨ p = 2 ∨ p = 3 ∨ p = 4 := by omega
  all_goals
    obtain rfl | rfl | rfl | rfl | rfl : q = 0 ∨ q = 1 ∨ q = 2 ∨ q = 3 ∨ q = 4 := by omega
    all_goals rfl
theorem Gr.set_n_ (g : Gr) (p : Nat) (x : Int) (hp : p < 5) : (g.set p x).n = g.n := by
  obtain rfl | rfl | rfl | rfl | rfl : p = 0 ∨ p = 1 ∨ p = 2 ∨ p = 3 ∨ p = 4 := by omega
  all_goals rfl
theorem rnG_zero (g : Gr) (l : List Int) : rnG g l 0 = ⟨l.length, 0, 0, 0, 0, 0⟩ := by simp [rnG, rnR]
theorem rnG_succ {g : Gr} {l : List Int} (h : PermOk l) {p : Nat} (hp : p < l.length) : (rnG g l p).set (piN l p) ((imgN l (g.r p) l.length : Nat) : Int) = rnG g l (p + 1) := by
  have hpp : piN l p < l.length := (h.nat hp).2
  have h5 := h.n5
  refine gr_eq (Gr.set_n_ _ _ _ (by omega)) fun q hq => ?_
  rw [Gr.set_h_if _ _ _ _ (by omega) hq, rnG_h _ _ _ _ hq, rnG_h _ _ _ _ hq]
  unfold rnR
  by_cases e : q = piN l p
  · subst e
    rw [if_pos rfl, bk_pi h hp, if_pos ⟨hpp, by omega⟩]
  · rw [if_neg e]
    by_cases hql : q < l.length
    · have hne : bkN l q ≠ p := fun e2 => e (by rw [← e2]; exact (pi_bk h hql).1.symm)
      by_cases h3 : bkN l q < p
      · rw [if_pos ⟨hql, h3⟩, if_pos ⟨hql, by omega⟩]
      · rw [if_neg (by omega), if_neg (by omega)]
    · rw [if_neg (by omega), if_neg (by omega)]
theorem rnG_set0 {g : Gr} {l : List Int} (h : PermOk l) {p : Nat} (hp : p < l.length) : (rnG g l p).set (piN l p) 0 = rnG g l p := by
  have hpp : piN l p < l.length := (h.nat hp).2
  have h5 := h.n5
  refine gr_eq (Gr.set_n_ _ _ _ (by omega)) fun q hq => ?_
  rw [Gr.set_h_if _ _ _ _ (by omega) hq, rnG_h _ _ _ _ hq]
  by_cases e : q = piN l p
  · subst e
    unfold rnR
    rw [if_pos rfl, bk_pi h hp, if_neg (by omega)]
  · rw [if_neg e]
theorem rnG_all {g : Gr} {l : List Int} (hg : Wf g l.length) (h : PermOk l) : rnG g l l.length = permG g l := by
  have hw := perm_wf hg h
  have h5 := h.n5
  refine gr_eq hw.n_eq.symm fun q hq => ?_
  rw [rnG_h _ _ _ _ hq, hw.row q]
  unfold rnR
  by_cases hql : q < l.length
  · rw [if_pos ⟨hql, (pi_bk h hql).2⟩]
    unfold permG
    rw [natG_r _ _ h5, if_pos hql]
  · rw [if_neg (by omega), hw.out q (by omega)]; rfl
end Go.Proofs.YtpcboonjalbihaaDoor
