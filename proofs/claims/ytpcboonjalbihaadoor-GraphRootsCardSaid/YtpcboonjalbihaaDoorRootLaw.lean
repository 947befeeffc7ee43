/-
  The plain law of GraphRoots: powers of a graph end at n - 1, and products of n - 1 rooted graphs are nonsplit.
  Conditions: none.
-/
import Derived.Test.YtpcboonjalbihaaDoorLwAssoc
import Derived.Test.YtpcboonjalbihaaDoorGMeasQ
namespace Go.Proofs.YtpcboonjalbihaaDoor

/-- The k-th power, beginning with the silent graph. -/
def qwG (n : Nat) (g : Gr) : Nat → Gr
  | 0 => silG n
  | k + 1 => compG (qwG n g k) g
theorem qw_wf {g : Gr} {n : Nat} (h : Wf g n) : ∀ k, Wf (qwG n g k) n
  | 0 => sil_wf h.n1 h.n5
  | k + 1 => comp_wf (qw_wf h k) h
theorem qw_pw {g : Gr} {n : Nat} (h : Wf g n) : ∀ k, qwG n g (k + 1) = pwG g k
  | 0 => sil_comp h
  | k + 1 => by show compG (qwG n g (k + 1)) g = compG (pwG g k) g; rw [qw_pw h k]
theorem qw_left {g : Gr} {n : Nat} (h : Wf g n) : ∀ k, qwG n g (k + 1) = compG g (qwG n g k)
  | 0 => by show compG (silG n) g = compG g (silG n); rw [sil_comp h, comp_sil h]
  | k + 1 => by
    calc compG (qwG n g (k + 1)) g = compG (compG g (qwG n g k)) g := by rw [qw_left h k]
      _ = compG g (compG (qwG n g k) g) := comp_assoc h (qw_wf h k) h
theorem qw_row {g : Gr} {n : Nat} (h : Wf g n) {p : Nat} (hp : p < n) (k : Nat) : (qwG n g (k + 1)).r p = unionR g.r ((qwG n g k).r p) 5 := by
  rw [qw_left h k]
  unfold compG
  rw [h.toNat, natG_r _ _ h.n5, if_pos hp]
theorem grow_mono {f : Nat → Nat} {s n : Nat} (hs : s < 2 ^ n) (h5 : n ≤ 5) (hf : ∀ p, p < n → (f p).testBit p = true) : s &&& unionR f s 5 = s := by
  refine Nat.eq_of_testBit_eq fun q => ?_
  rw [Nat.testBit_and]
  cases hb : s.testBit q with
  | false => rfl
  | true =>
    have hq : q < n := by
      rcases Nat.lt_or_ge q n with h1 | h1
      · exact h1
      · rw [Nat.testBit_lt_two_pow (Nat.lt_of_lt_of_le hs (Nat.pow_le_pow_right (by decide) h1))] at hb; cases hb
    have : (unionR f s 5).testBit q = true := by
      rw [unionR_bit]
      exact ⟨q, by omega, hb, hf q hq⟩
    rw [this]; rfl
theorem qw_stable {g : Gr} {n : Nat} (h : Wf g n) {p : Nat} (hp : p < n) : ∀ k, k + 1 ≤ cardN ((qwG n g k).r p) ∨ (qwG n g (k + 1)).r p = (qwG n g k).r p
  | 0 => by
    refine .inl (card_pos _ ((qw_wf h 0).lt32 p) fun h0 => ?_)
    have := (qw_wf h 0).own p hp
    rw [h0] at this
    simp at this
  | k + 1 => by
    rcases qw_stable h hp k with h1 | h1
    · by_cases he : (qwG n g (k + 1)).r p = (qwG n g k).r p
      · exact .inr ((qw_row h hp (k + 1)).trans ((congrArg (unionR g.r · 5) he).trans (qw_row h hp k).symm))
      · left
        have hm : (qwG n g k).r p &&& (qwG n g (k + 1)).r p = (qwG n g k).r p := by rw [qw_row h hp k]; exact grow_mono ((qw_wf h k).ltn p) h.n5 h.own
        have := card_lt _ ((qw_wf h k).lt32 p) _ ((qw_wf h (k + 1)).lt32 p) hm (fun e => he e.symm)
        omega
    · exact .inr ((qw_row h hp (k + 1)).trans ((congrArg (unionR g.r · 5) h1).trans (qw_row h hp k).symm))
theorem qw_end1 {g : Gr} {n : Nat} (h : Wf g n) {k : Nat} (hk : n ≤ k + 1) : qwG n g (k + 1) = qwG n g k := by
  refine wf_ext (qw_wf h _) (qw_wf h _) fun p q hp _ => ?_
  rcases qw_stable h hp k with h1 | h1
  · have hm : (qwG n g k).r p &&& (qwG n g (k + 1)).r p = (qwG n g k).r p := by rw [qw_row h hp k]; exact grow_mono ((qw_wf h k).ltn p) h.n5 h.own
    by_cases he : (qwG n g k).r p = (qwG n g (k + 1)).r p
    · rw [he]
    · have h2 := card_lt _ ((qw_wf h k).lt32 p) _ ((qw_wf h (k + 1)).lt32 p) hm he
      have := card_le_all n h.n5 _ ((qw_wf h (k + 1)).ltn p)
      omega
  · rw [h1]
theorem qw_end {g : Gr} {n : Nat} (h : Wf g n) {k : Nat} (hk : n ≤ k + 1) : ∀ j, qwG n g (k + j) = qwG n g k
  | 0 => rfl
  | j + 1 => (qw_end1 h (k := k + j) (by omega)).trans (qw_end h hk j)
/-- The roots are the kernel of the power n - 1. -/
theorem roots_ker {g : Gr} {n : Nat} (h : Wf g n) : rootsG g = kerG (qwG n g (n - 1)) := by
  unfold rootsG
  rw [h.toNat, ← qw_pw h n]
  have h1 := h.n1
  rw [show n + 1 = (n - 1) + 2 by omega, qw_end h (by omega) 2]
theorem root_of {g : Gr} {n : Nat} (h : Wf g n) (hr : rootsG g ≠ 0) : ∃ q, q < n ∧ ∀ p, p < n → ((pwG g n).r p).testBit q = true := by
  unfold rootsG kerG at hr
  rw [h.toNat, (pw_wf h n).toNat] at hr
  obtain ⟨q, hq⟩ := Nat.exists_testBit_of_ne_zero hr
  exact ⟨q, (interG_bit _ _ _ _).1 hq⟩
/-- A set that hears none but its own stays so. -/
theorem closed_pw {g : Gr} {n : Nat} (h : Wf g n) {s : Nat} (hc : unionR g.r s 5 = s) {p : Nat} (hp : s.testBit p = true) (hpn : p < n) : ∀ k q, ((pwG g k).r p).testBit q = true → s.testBit q = true
  | 0, q, hq => by
    rw [← hc, unionR_bit]
    have := h.n5
    exact ⟨p, by omega, hp, hq⟩
  | k + 1, q, hq => by
    rw [pw_row h hpn k, unionR_bit] at hq
    obtain ⟨m, hm, h1, h2⟩ := hq
    have h3 := closed_pw h hc hp hpn k m h1
    rw [← hc, unionR_bit]
    exact ⟨m, hm, h3, h2⟩
/-- The product of the first k graphs. -/
def prodN (n : Nat) (l : Nat → Gr) : Nat → Gr
  | 0 => silG n
  | k + 1 => compG (prodN n l k) (l k)
theorem prod_wf {n : Nat} {l : Nat → Gr} (h1 : 1 ≤ n) (h5 : n ≤ 5) (k : Nat) (h : ∀ i, i < k → Wf (l i) n) : Wf (prodN n l k) n := by
  induction k with
  | zero => exact sil_wf h1 h5
  | succ k ih => exact comp_wf (ih fun i hi => h i (by omega)) (h k (by omega))
theorem bit_ltn {s n q : Nat} (hs : s < 2 ^ n) (hb : s.testBit q = true) : q < n := by
  rcases Nat.lt_or_ge q n with h1 | h1
  · exact h1
  · rw [Nat.testBit_lt_two_pow (Nat.lt_of_lt_of_le hs (Nat.pow_le_pow_right (by decide) h1))] at hb; cases hb
theorem card_two : ∀ n, n ≤ 5 → ∀ a, a < 2 ^ n → ∀ b, b < 2 ^ n → n + 1 ≤ cardN a + cardN b → a &&& b ≠ 0 := by decide +kernel
theorem meet_bit {a b : Nat} (h : a &&& b ≠ 0) : ∃ q, a.testBit q = true ∧ b.testBit q = true := by
  obtain ⟨q, hq⟩ := Nat.exists_testBit_of_ne_zero h
  rw [Nat.testBit_and, Bool.and_eq_true] at hq
  exact ⟨q, hq⟩
theorem meet_of {a b q : Nat} (h1 : a.testBit q = true) (h2 : b.testBit q = true) : a &&& b ≠ 0 := fun h => by
  have : (a &&& b).testBit q = true := by rw [Nat.testBit_and, h1, h2]; rfl
  rw [h] at this; simp at this
/-- Two sets that are together great enough meet behind k rooted graphs. -/
theorem meets {n : Nat} {l : Nat → Gr} (h1 : 1 ≤ n) (h5 : n ≤ 5) : ∀ (k : Nat) (_ : ∀ i, i < k → Wf (l i) n) (_ : ∀ i, i < k → rootsG (l i) ≠ 0) (a b : Nat), a < 2 ^ n → b < 2 ^ n → a ≠ 0 → b ≠ 0 → n + 1 ≤ cardN a + cardN b + k →
    unionR (prodN n l k).r a 5 &&& unionR (prodN n l k).r b 5 ≠ 0
  | 0, _, _, a, b, ha, hb, _, _, hc => by
    obtain ⟨q, h3, h4⟩ := meet_bit (card_two n h5 a ha b hb hc)
    have hq := bit_ltn ha h3
    have ho : ((prodN n l 0).r q).testBit q = true := (sil_wf h1 h5).own q hq
    exact meet_of ((unionR_bit _ _ _ _).2 ⟨q, by omega, h3, ho⟩) ((unionR_bit _ _ _ _).2 ⟨q, by omega, h4, ho⟩)
  | k + 1, hw, hr, a, b, ha, hb, ha0, hb0, hc => by
    have hg := hw k (by omega)
    have hP := prod_wf (l := l) h1 h5 k fun i hi => hw i (by omega)
    have hP1 := prod_wf (l := l) h1 h5 (k + 1) hw
    by_cases hm : a &&& b = 0
    · have key : ∀ s, s < 2 ^ n → unionR (prodN n l (k + 1)).r s 5 = unionR (prodN n l k).r (unionR (l k).r s 5) 5 := fun s hs => by
        refine Nat.eq_of_testBit_eq fun q => ?_
        rw [Bool.eq_iff_iff, unionR_bit, unionR_bit]
        constructor
        · rintro ⟨m, hm, h2, h3⟩
          obtain ⟨j, h4, h5'⟩ := (comp_bit hP hg (bit_ltn hs h2) q).1 h3
          exact ⟨j, by have := (hg.bit_lt h4).1; omega, (unionR_bit _ _ _ _).2 ⟨m, hm, h2, h4⟩, h5'⟩
        · rintro ⟨j, hj, h2, h3⟩
          obtain ⟨m, hm, h4, h5'⟩ := (unionR_bit _ _ _ _).1 h2
          exact ⟨m, hm, h4, (comp_bit hP hg (bit_ltn hs h4) q).2 ⟨j, h5', h3⟩⟩
      rw [key a ha, key b hb]
      have ga := grow_mono ha h5 hg.own
      have gb := grow_mono hb h5 hg.own
      have la : unionR (l k).r a 5 < 2 ^ n := unionR_lt (fun m => hg.ltn m) 5
      have lb : unionR (l k).r b 5 < 2 ^ n := unionR_lt (fun m => hg.ltn m) 5
      have l32 : ∀ s, s < 2 ^ n → s < 32 := fun s hs => Nat.lt_of_lt_of_le hs (pow2_32 h5)
      have ca := card_mono a (l32 _ ha) _ (l32 _ la) ga
      have cb := card_mono b (l32 _ hb) _ (l32 _ lb) gb
      refine meets h1 h5 k (fun i hi => hw i (by omega)) (fun i hi => hr i (by omega)) _ _ la lb (fun e => ?_) (fun e => ?_) ?_
      · rw [e, Nat.and_zero] at ga; exact ha0 ga.symm
      · rw [e, Nat.and_zero] at gb; exact hb0 gb.symm
      · by_cases e1 : cardN a = cardN (unionR (l k).r a 5)
        · by_cases e2 : cardN b = cardN (unionR (l k).r b 5)
          · exfalso
            obtain ⟨q, hq, hall⟩ := root_of hg (hr k (by omega))
            obtain ⟨x, hx⟩ := Nat.exists_testBit_of_ne_zero ha0
            obtain ⟨y, hy⟩ := Nat.exists_testBit_of_ne_zero hb0
            have hxn := bit_ltn ha hx
            have hyn := bit_ltn hb hy
            have h6 := closed_pw hg (ca.2 e1).symm hx hxn n q (hall x hxn)
            have h7 := closed_pw hg (cb.2 e2).symm hy hyn n q (hall y hyn)
            exact meet_of h6 h7 hm
          · have := ca.1; have := cb.1; omega
        · have := ca.1; have := cb.1; omega
    · obtain ⟨q, h3, h4⟩ := meet_bit hm
      have hq := bit_ltn ha h3
      have ho := hP1.own q hq
      exact meet_of ((unionR_bit _ _ _ _).2 ⟨q, by omega, h3, ho⟩) ((unionR_bit _ _ _ _).2 ⟨q, by omega, h4, ho⟩)
theorem unionR_one {f : Nat → Nat} {p : Nat} (hp : p < 5) : unionR f (2 ^ p) 5 = f p := by
  refine Nat.eq_of_testBit_eq fun q => ?_
  rw [Bool.eq_iff_iff, unionR_bit]
  constructor
  · rintro ⟨m, _, h1, h2⟩
    rw [Nat.testBit_two_pow] at h1
    have : p = m := by simpa using h1
    subst this; exact h2
  · exact fun h => ⟨p, hp, by simp, h⟩
theorem card_one : ∀ p, p < 5 → cardN (2 ^ p) = 1 := by decide +kernel
/-- A product of n - 1 rooted graphs is nonsplit. -/
theorem prod_ns {n : Nat} {l : Nat → Gr} (h1 : 1 ≤ n) (h5 : n ≤ 5) (hw : ∀ i, i < n - 1 → Wf (l i) n) (hr : ∀ i, i < n - 1 → rootsG (l i) ≠ 0) : nsG (prodN n l (n - 1)) = true := by
  have hP := prod_wf (l := l) h1 h5 (n - 1) hw
  refine nsG_end hP fun p hp q hq => ?_
  have hm := meets h1 h5 (n - 1) hw hr (2 ^ p) (2 ^ q) (Nat.pow_lt_pow_right (by decide) hp) (Nat.pow_lt_pow_right (by decide) (by omega)) (Nat.ne_of_gt (Nat.two_pow_pos p)) (Nat.ne_of_gt (Nat.two_pow_pos q)) (by rw [card_one p (by omega), card_one q (by omega)]; omega)
  rwa [unionR_one (by omega), unionR_one (by omega)] at hm
end Go.Proofs.YtpcboonjalbihaaDoor
