/-
  Plain: the adversaries that failure's build finds are trimmed.
  Conditions: none.
-/
import Derived.Test.YtdlhnpogddpmpaaGreatPartLaw
import Derived.Test.YtdlhnpogddpmpaaGreatTrimL
namespace Go.Proofs.YtdlhnpogddpmpaaGreat

theorem Built.reach {E : Nat → List Stp17} {K : Nat → Prop} {n : Nat} {A : Adv} {ks : List Nat} (H : Built E K n A ks) : ∀ j, j < ks.length → Reach A j := by
  intro j
  induction j using Nat.strongRecOn with
  | ind j ih =>
    intro hj
    by_cases h0 : j = 0
    · subst h0; exact Reach.zero
    · obtain ⟨h, h1, h2, s, hs, e⟩ := H.inv.reach j (by omega) hj
      have hr := ih h h1 h2
      have hst := H.inv.at_ h h2
      obtain ⟨i, hi, hsi⟩ := List.mem_iff_getElem.1 hs
      have hlen : A.len h = (E (ks.getD h 0)).length := by
        show (A.st.getD h []).length = _
        rw [hst, List.length_map]
      have hmv : (A.mv h i).to = ((j : Nat) : Int) := by
        show ((A.st.getD h []).getD i default).to = _
        rw [hst, List.getD_eq_getElem?_getD, List.getElem?_map, List.getElem?_eq_getElem hi, hsi]
        show ((ks.idxOf s.2 : Nat) : Int) = _
        rw [e, List.getD_eq_getElem?_getD, List.getElem?_eq_getElem hj]
        congr 1
        exact H.inv.nd.idxOf_getElem j hj
      have := Reach.step (i := i) hr (show h < A.L by show h < A.st.length; rw [H.inv.sl]; exact h2) (by rw [hlen]; exact hi)
      rwa [hmv, Int.toNat_natCast] at this
theorem Built.trim {E : Nat → List Stp17} {K : Nat → Prop} {n : Nat} {A : Adv} {ks : List Nat} (H : Built E K n A ks) (hc : achk A = 0) : trimA A = A := by
  refine trim_same hc fun k hk => reachB_iff.2 (H.reach k ?_)
  have hLk : A.L = ks.length := H.inv.sl
  rw [← hLk]; exact hk
end Go.Proofs.YtdlhnpogddpmpaaGreat
