/-
  The plain law of renaming and reversing.
  Conditions: none.
-/
import Derived.Test.YtpcboonjalbihaaDoorLwAssoc
import Derived.Test.YtpcboonjalbihaaDoorRPm
namespace Go.Proofs.YtpcboonjalbihaaDoor
open Go.RowKit

theorem perm_comp {a b : Gr} {l : List Int} (ha : Wf a l.length) (hb : Wf b l.length) (h : PermOk l) : permG (compG a b) l = compG (permG a l) (permG b l) := by
  have hpa := perm_wf ha h
  have hpb := perm_wf hb h
  have hc := comp_wf ha hb
  refine wf_ext (perm_wf hc h) (comp_wf hpa hpb) fun p q hp hq => ?_
  obtain ⟨p, hp', rfl⟩ := pi_surj h hp
  obtain ⟨q, hq', rfl⟩ := pi_surj h hq
  rw [perm_bit hc h hp' hq', Bool.eq_iff_iff, comp_bit ha hb hp', comp_bit hpa hpb hp]
  constructor
  · rintro ⟨m, h1, h2⟩
    have hm := (hb.bit_lt h1).1
    exact ⟨piN l m, by rw [perm_bit hb h hp' hm]; exact h1, by rw [perm_bit ha h hm hq']; exact h2⟩
  · rintro ⟨M, h1, h2⟩
    obtain ⟨m, hm, rfl⟩ := pi_surj h (hpb.bit_lt h1).1
    rw [perm_bit hb h hp' hm] at h1
    rw [perm_bit ha h hm hq'] at h2
    exact ⟨m, h1, h2⟩
theorem rev_comp {a b : Gr} {n : Nat} (ha : Wf a n) (hb : Wf b n) : revG (compG a b) = compG (revG b) (revG a) := by
  have hra := rev_wf ha
  have hrb := rev_wf hb
  have hc := comp_wf ha hb
  refine wf_ext (rev_wf hc) (comp_wf hrb hra) fun p q hp hq => ?_
  rw [rev_bit hc hp, Bool.eq_iff_iff, comp_bit ha hb hq, comp_bit hrb hra hp]
  constructor
  · rintro ⟨m, h1, h2⟩
    exact ⟨m, by rw [rev_bit ha hp]; exact h2, by rw [rev_bit hb (hb.bit_lt h1).1]; exact h1⟩
  · rintro ⟨m, h1, h2⟩
    have hm := (hra.bit_lt h1).1
    rw [rev_bit ha hp] at h1
    rw [rev_bit hb hm] at h2
    exact ⟨m, h2, h1⟩
theorem rev_rev {a : Gr} {n : Nat} (ha : Wf a n) : revG (revG a) = a := by
  have hr := rev_wf ha
  refine wf_ext (rev_wf hr) ha fun p q hp hq => ?_
  rw [rev_bit hr hp, rev_bit ha hq]
theorem inv_at {l : List Int} (h : PermOk l) {k : Nat} (hk : k < l.length) : (invL l l.length).getD (piN l k) 0 = k := invL_at h _ (Nat.le_refl _) k hk
theorem inv_ok {l : List Int} (h : PermOk l) : PermOk (invL l l.length) := by
  have hlen := invL_len l l.length
  refine ⟨by rw [hlen]; exact h.n1, by rw [hlen]; exact h.n5, fun i hi => ?_, fun i j hi hj => ?_⟩
  · rw [hlen] at hi ⊢
    obtain ⟨k, hk, rfl⟩ := pi_surj h hi
    rw [inv_at h hk]; omega
  · rw [hlen] at hi
    obtain ⟨k, hk, rfl⟩ := pi_surj h hi
    obtain ⟨m, hm, rfl⟩ := pi_surj h (show j < l.length by omega)
    rw [inv_at h hk, inv_at h hm]
    intro e
    have : m = k := by omega
    subst this; omega
theorem perm_back {a : Gr} {l : List Int} (ha : Wf a l.length) (h : PermOk l) : permG (permG a l) (invL l l.length) = a := by
  have hlen := invL_len l l.length
  have hpa := perm_wf ha h
  have hi := inv_ok h
  have hpa' : Wf (permG a l) (invL l l.length).length := by rw [hlen]; exact hpa
  have hw := perm_wf hpa' hi
  rw [hlen] at hw
  refine wf_ext hw ha fun p q hp hq => ?_
  have e1 : piN (invL l l.length) (piN l p) = p := by unfold piN; rw [show (invL l l.length).getD (l.getD p 0).toNat 0 = p from inv_at h hp]; rfl
  have e2 : piN (invL l l.length) (piN l q) = q := by unfold piN; rw [show (invL l l.length).getD (l.getD q 0).toNat 0 = q from inv_at h hq]; rfl
  have := perm_bit hpa' hi (p := piN l p) (q := piN l q) (by rw [hlen]; exact (h.nat hp).2) (by rw [hlen]; exact (h.nat hq).2)
  rw [e1, e2, perm_bit ha h hp hq] at this
  exact this
/-- What the products and renamings of the law are. -/
structure RenOk (a b : Gr) (l L : List Int) (ab x pa pb r ra rb : Gr) : Prop where
  e1 : composeS a b = (ab, 0)
  e2 : permuteS ab l = (x, 0)
  e3 : permuteS a l = (pa, 0)
  e4 : permuteS b l = (pb, 0)
  e5 : composeS pa pb = (x, 0)
  e7 : permuteS pa L = (a, 0)
  f1 : reverseS ab = (r, 0)
  f2 : reverseS a = (ra, 0)
  f3 : reverseS b = (rb, 0)
  f4 : composeS rb ra = (r, 0)
  f5 : reverseS r = (ab, 0)
theorem permE_of {l : List Int} (h : PermOk l) : permE l = 0 := by
  have := h.n1; have := h.n5
  refine permE_end (by omega) fun i hi => ?_
  unfold permAt
  have hb := h.bd i hi
  rw [if_neg (by omega)]
  cases hs : seenB l i (l.getD i 0) with
  | false => rfl
  | true =>
    obtain ⟨k, hk, he⟩ := List.any_eq_true.1 (show (List.range i).any _ = true from hs)
    exact absurd (by simpa using he) (h.inj i k hi (List.mem_range.1 hk))
theorem permS_wf {g : Gr} {l : List Int} (hg : Wf g l.length) (h : PermOk l) : permuteS g l = (permG g l, 0) := permuteS_0 (chk_of_wf hg) (permE_of h) hg.n_eq.symm
theorem revS_wf {g : Gr} {n : Nat} (hg : Wf g n) : reverseS g = (revG g, 0) := by unfold reverseS; rw [chk_of_wf hg]; rfl
theorem ren_ok {a b : Gr} {l : List Int} (h1 : bothS a b = 0) (h2 : (l.length : Int) = a.n) (h3 : permE l = 0) : ∃ ab x pa pb r ra rb, RenOk a b l (invL l l.length) ab x pa pb r ra rb := by
  obtain ⟨n, ha, hb⟩ := bothS_ok h1
  have h := permE_ok h3
  have hn : n = l.length := by have := ha.n_eq; omega
  subst hn
  have hab := comp_wf ha hb
  have hpa := perm_wf ha h
  have hpb := perm_wf hb h
  have hlen := invL_len l l.length
  have hpa' : Wf (permG a l) (invL l l.length).length := by rw [hlen]; exact hpa
  exact ⟨_, _, _, _, _, _, _, compS_wf ha hb, permS_wf hab h, permS_wf ha h, permS_wf hb h, (compS_wf hpa hpb).trans (by rw [perm_comp ha hb h]), (permS_wf hpa' (inv_ok h)).trans (by rw [perm_back ha h]),
    revS_wf hab, revS_wf ha, revS_wf hb, (compS_wf (rev_wf hb) (rev_wf ha)).trans (by rw [rev_comp ha hb]), (revS_wf (rev_wf hab)).trans (by rw [rev_rev hab])⟩
end Go.Proofs.YtpcboonjalbihaaDoor
