/-
  Every well-formed graph is in the list of all; the list ascends, up to three processes.
  Conditions: none.
-/
import Derived.Test.YtpcboonjalbihaaDoorGSpec
import Derived.Test.YtpcboonjalbihaaDoorGrAll
import Derived.Test.YtpcboonjalbihaaDoorCmp
namespace Go.Proofs.YtpcboonjalbihaaDoor

theorem flatG_all (n p : Nat) (L : List Gr) : flatG n p L L.length = L.flatMap fun g => rowsP g p (2 ^ n) := by unfold flatG; rw [List.take_length]
theorem mem_rows {g : Gr} {p s i : Nat} (hi : i < s) (hp : i.testBit p = true) : g.set p (i : Int) ∈ rowsP g p s := by
  unfold rowsP setsP
  exact List.mem_map.2 ⟨i, List.mem_filter.2 ⟨List.mem_range.2 hi, by rw [has_nat]; exact hp⟩, rfl⟩
theorem mem_cut {g : Gr} {n : Nat} (h : Wf g n) : ∀ p, p ≤ n → mkG n (fun i => (g.r i : Int)) p ∈ allG n p
  | 0, _ => by rw [mkG_zero]; simp [allG]
  | p + 1, hp => by
    show _ ∈ flatG n p (allG n p) (allG n p).length
    have h5 := h.n5
    rw [flatG_all, ← mkG_succ _ _ _ (by omega)]
    exact List.mem_flatMap.2 ⟨_, mem_cut h p (by omega), mem_rows (h.lt p (by omega)) (h.own p (by omega))⟩
theorem mem_all {g : Gr} {n : Nat} (h : Wf g n) : g ∈ allG n n := by
  have := mem_cut h n (Nat.le_refl _)
  rw [show mkG n (fun i => (g.r i : Int)) n = g from (wf_natG h).symm] at this
  exact this
def ascB : List Gr → Bool
  | [] => true
  | [_] => true
  | a :: b :: l => decide (0 ≤ gcmp b a) && ascB (b :: l)
theorem asc_tab : ascB (allG 1 1) = true ∧ ascB (allG 2 2) = true ∧ ascB (allG 3 3) = true := by decide +kernel
theorem asc_at : ∀ (L : List Gr), ascB L = true → ∀ i, i + 1 < L.length → 0 ≤ gcmp (L.getD (i + 1) default) (L.getD i default)
  | [], _, i, hi => by simp at hi
  | [_], _, i, hi => by simp at hi
  | a :: b :: l, h, 0, _ => by
    rw [ascB, Bool.and_eq_true, decide_eq_true_iff] at h
    exact h.1
  | a :: b :: l, h, i + 1, hi => by
    rw [ascB, Bool.and_eq_true] at h
    exact asc_at (b :: l) h.2 i (by simpa using hi)
theorem sorted_all {n : Nat} (h1 : 1 ≤ n) (h : n ≤ 3) (i : Nat) (hi : i + 1 < (allG n n).length) : 0 ≤ gcmp ((allG n n).getD (i + 1) default) ((allG n n).getD i default) := by
  obtain rfl | rfl | rfl : n = 1 ∨ n = 2 ∨ n = 3 := by omega
  · exact asc_at _ asc_tab.1 i hi
  · exact asc_at _ asc_tab.2.1 i hi
  · exact asc_at _ asc_tab.2.2 i hi
end Go.Proofs.YtpcboonjalbihaaDoor
