/-
  What layer 3 computes: plain functions on graphs.
  Conditions: none.
-/
import Derived.Test.YtnhgdjiljjpgmaaMade
import Derived.Test.YtnhgdjiljjpgmaaCmp
namespace Go.Proofs.Ytnhgdjiljjpgmaa

theorem has_nat (x p : Nat) : has (x : Int) p = x.testBit p := by
  unfold has
  rw [Nat.testBit_eq_decide_div_mod_eq, Bool.eq_iff_iff]
  simp only [beq_iff_eq, decide_eq_true_eq]
  rw [show ((2 : Int) ^ p) = ((2 ^ p : Nat) : Int) by simp]
  omega
/-- Row p as a number. -/
def Gr.r (g : Gr) (p : Nat) : Nat := (g.h p).toNat
def gz0 : Gr := ⟨0, 0, 0, 0, 0, 0⟩
/-- What a well-formed graph is. -/
structure Wf (g : Gr) (n : Nat) : Prop where
  n_eq : g.n = n
  n1 : 1 ≤ n
  n5 : n ≤ 5
  row : ∀ p, g.h p = (g.r p : Int)
  lt : ∀ p, p < n → g.r p < 2 ^ n
  own : ∀ p, p < n → (g.r p).testBit p = true
  out : ∀ p, n ≤ p → g.r p = 0
theorem Wf.toNat {g : Gr} {n : Nat} (h : Wf g n) : g.n.toNat = n := by rw [h.n_eq]; rfl
theorem pow2_32 {n : Nat} (h : n ≤ 5) : 2 ^ n ≤ 32 := Nat.pow_le_pow_right (by decide) h
theorem Wf.lt32 {g : Gr} {n : Nat} (h : Wf g n) (p : Nat) : g.r p < 32 := by
  by_cases hp : p < n
  · exact Nat.lt_of_lt_of_le (h.lt p hp) (pow2_32 h.n5)
  · rw [h.out p (by omega)]; decide
theorem Wf.ltn {g : Gr} {n : Nat} (h : Wf g n) (p : Nat) : g.r p < 2 ^ n := by
  by_cases hp : p < n
  · exact h.lt p hp
  · rw [h.out p (by omega)]; exact Nat.two_pow_pos n
theorem Wf.bit_lt {g : Gr} {n : Nat} (h : Wf g n) {p q : Nat} (hb : (g.r p).testBit q = true) : q < n ∧ p < n := by
  constructor
  · rcases Nat.lt_or_ge q n with h1 | h1
    · exact h1
    · rw [Nat.testBit_lt_two_pow (Nat.lt_of_lt_of_le (h.ltn p) (Nat.pow_le_pow_right (by decide) h1))] at hb; cases hb
  · rcases Nat.lt_or_ge p n with h1 | h1
    · exact h1
    · rw [h.out p h1] at hb; simp at hb
theorem gchkAt_zero {g : Gr} {p : Nat} (h : gchkAt g p = 0) : (g.n ≤ p → g.h p = 0) ∧ (p < g.n → 0 ≤ g.h p ∧ g.h p < 2 ^ g.n.toNat ∧ has (g.h p) p = true) := by
  unfold gchkAt at h
  by_cases h1 : g.n ≤ p
  · rw [if_pos h1] at h
    refine ⟨fun _ => ?_, fun h2 => by omega⟩
    by_cases h2 : g.h p = 0
    · exact h2
    · rw [if_neg h2] at h; omega
  · rw [if_neg h1] at h
    refine ⟨fun h2 => absurd h2 h1, fun _ => ?_⟩
    by_cases h2 : g.h p < 0 ∨ 2 ^ g.n.toNat - 1 < g.h p
    · rw [if_pos h2] at h; omega
    · rw [if_neg h2] at h
      cases h3 : has (g.h p) p with
      | true => exact ⟨by omega, by omega, rfl⟩
      | false => rw [h3] at h; simp at h
theorem wf_of {g : Gr} (h : gchk g = 0) : ∃ n, Wf g n := by
  unfold gchk at h
  by_cases h1 : g.n < 1 ∨ 5 < g.n
  · rw [if_pos h1] at h; omega
  rw [if_neg h1] at h
  obtain ⟨n, hn⟩ := Int.eq_ofNat_of_zero_le (show 0 ≤ g.n by omega)
  have h0 : ∀ p, p < 5 → gchkAt g p = 0 := by
    simp only [firstNZ] at h
    split at h
    · split at h
      · split at h
        · split at h
          · split at h
            · intro p hp
              obtain rfl | rfl | rfl | rfl | rfl : p = 0 ∨ p = 1 ∨ p = 2 ∨ p = 3 ∨ p = 4 := by omega
              all_goals assumption
            · exact absurd h ‹_›
          · exact absurd h ‹_›
        · exact absurd h ‹_›
      · exact absurd h ‹_›
    · exact absurd h ‹_›
  have hh : ∀ p, 5 ≤ p → g.h p = 0 := fun p hp => by
    obtain ⟨k, rfl⟩ := Nat.exists_eq_add_of_le hp
    rw [Nat.add_comm]; rfl
  have hz : ∀ p, n ≤ p → g.h p = 0 := fun p hp => by
    rcases Nat.lt_or_ge p 5 with h5 | h5
    · exact (gchkAt_zero (h0 p h5)).1 (by omega)
    · exact hh p h5
  have hy : ∀ p, p < n → 0 ≤ g.h p ∧ g.h p < 2 ^ n ∧ has (g.h p) p = true := fun p hp => by
    have := (gchkAt_zero (h0 p (by omega))).2 (by omega)
    rwa [show g.n.toNat = n by omega] at this
  have hr : ∀ p, g.h p = (g.r p : Int) := fun p => by
    unfold Gr.r
    rcases Nat.lt_or_ge p n with h5 | h5
    · have := (hy p h5).1; omega
    · rw [hz p h5]; rfl
  refine ⟨n, hn, by omega, by omega, hr, fun p hp => ?_, fun p hp => ?_, fun p hp => ?_⟩
  · have := (hy p hp).2.1; rw [hr p, show ((2 : Int) ^ n) = ((2 ^ n : Nat) : Int) by simp] at this; omega
  · have := (hy p hp).2.2; rwa [hr p, has_nat] at this
  · unfold Gr.r; rw [hz p hp]; rfl
theorem wf_chk {g : Gr} {n : Nat} (h : Wf g n) : gchk g = 0 := by
  have h1 := h.n1; have h5 := h.n5; have hn := h.n_eq
  refine gchk_ok (by omega) fun p hp => ?_
  rcases Nat.lt_or_ge p n with hlt | hge
  · refine gchkAt_ok (by omega) ?_ ?_
    · rw [h.row p, h.toNat]
      have := h.lt p hlt
      rw [show ((2 : Int) ^ n) = ((2 ^ n : Nat) : Int) by simp]
      omega
    · rw [h.row p, has_nat]; exact h.own p hlt
  · exact gchkAt_out_ok (by omega) (by rw [h.row p, h.out p hge]; rfl)
/-- The graph of n processes with these rows. -/
def natG (n : Nat) (f : Nat → Nat) : Gr := mkG n (fun p => (f p : Int)) n
theorem natG_n (n : Nat) (f : Nat → Nat) : (natG n f).n = n := rfl
theorem natG_r (n : Nat) (f : Nat → Nat) (hn : n ≤ 5) (p : Nat) : (natG n f).r p = if p < n then f p else 0 := by
  unfold Gr.r natG
  rcases Nat.lt_or_ge p 5 with h | h
  · rw [mkG_h _ _ _ _ h]; split <;> simp
  · obtain ⟨k, rfl⟩ := Nat.exists_eq_add_of_le h
    rw [if_neg (by omega), Nat.add_comm]; rfl
theorem natG_wf {n : Nat} {f : Nat → Nat} (h1 : 1 ≤ n) (h5 : n ≤ 5) (hlt : ∀ p, p < n → f p < 2 ^ n) (hown : ∀ p, p < n → (f p).testBit p = true) : Wf (natG n f) n := by
  refine ⟨rfl, h1, h5, fun p => ?_, fun p hp => ?_, fun p hp => ?_, fun p hp => ?_⟩
  · unfold Gr.r natG
    rcases Nat.lt_or_ge p 5 with h | h
    · rw [mkG_h _ _ _ _ h]; split <;> simp
    · obtain ⟨k, rfl⟩ := Nat.exists_eq_add_of_le h
      rw [Nat.add_comm]; rfl
  · rw [natG_r _ _ h5, if_pos hp]; exact hlt p hp
  · rw [natG_r _ _ h5, if_pos hp]; exact hown p hp
  · rw [natG_r _ _ h5, if_neg (by omega)]
theorem Gr.ext_ : ∀ {x y : Gr}, x.n = y.n → x.h0 = y.h0 → x.h1 = y.h1 → x.h2 = y.h2 → x.h3 = y.h3 → x.h4 = y.h4 → x = y
  | ⟨_, _, _, _, _, _⟩, ⟨_, _, _, _, _, _⟩, rfl, rfl, rfl, rfl, rfl, rfl => rfl
theorem wf_natG {g : Gr} {n : Nat} (h : Wf g n) : g = natG n g.r := by
  have hr := h.row; have ho := h.out; have hn := h.n_eq; have h5 := h.n5
  have key : ∀ p, p < 5 → g.h p = (natG n g.r).h p := fun p hp => by
    unfold natG
    rw [mkG_h _ _ _ _ hp]
    split
    · exact hr p
    · rw [hr p, ho p (by omega)]; rfl
  have k0 : g.h0 = (natG n g.r).h0 := key 0 (by decide)
  have k1 : g.h1 = (natG n g.r).h1 := key 1 (by decide)
  have k2 : g.h2 = (natG n g.r).h2 := key 2 (by decide)
  have k3 : g.h3 = (natG n g.r).h3 := key 3 (by decide)
  have k4 : g.h4 = (natG n g.r).h4 := key 4 (by decide)
  have kn : g.n = (natG n g.r).n := hn
  exact Gr.ext_ kn k0 k1 k2 k3 k4
/-- Well-formed graphs with the same bits are one. -/
theorem wf_ext {a b : Gr} {n : Nat} (ha : Wf a n) (hb : Wf b n) (h : ∀ p q, p < n → q < n → (a.r p).testBit q = (b.r p).testBit q) : a = b := by
  rw [wf_natG ha, wf_natG hb]
  unfold natG
  have : ∀ p, p < n → a.r p = b.r p := fun p hp => Nat.eq_of_testBit_eq fun q => by
    rcases Nat.lt_or_ge q n with hq | hq
    · exact h p q hp hq
    · rw [Nat.testBit_lt_two_pow (Nat.lt_of_lt_of_le (ha.ltn p) (Nat.pow_le_pow_right (by decide) hq)), Nat.testBit_lt_two_pow (Nat.lt_of_lt_of_le (hb.ltn p) (Nat.pow_le_pow_right (by decide) hq))]
  unfold mkG
  have e : ∀ p, (if p < n then ((a.r p : Nat) : Int) else 0) = if p < n then ((b.r p : Nat) : Int) else 0 := fun p => by
    split
    · rw [this p ‹_›]
    · rfl
  rw [e 0, e 1, e 2, e 3, e 4]

/-- The union of the rows of the elements below k of a set. -/
def unionR (f : Nat → Nat) (s : Nat) : Nat → Nat
  | 0 => 0
  | k + 1 => unionR f s k ||| (if s.testBit k then f k else 0)
theorem unionR_bit (f : Nat → Nat) (s : Nat) (q : Nat) : ∀ k, (unionR f s k).testBit q = true ↔ ∃ m, m < k ∧ s.testBit m = true ∧ (f m).testBit q = true
  | 0 => by simp [unionR]
  | k + 1 => by
    rw [unionR, Nat.testBit_or, Bool.or_eq_true, unionR_bit f s q k]
    constructor
    · rintro (⟨m, h1, h2, h3⟩ | h)
      · exact ⟨m, by omega, h2, h3⟩
      · by_cases hs : s.testBit k = true
        · rw [if_pos hs] at h; exact ⟨k, by omega, hs, h⟩
        · rw [if_neg hs] at h; simp at h
    · rintro ⟨m, h1, h2, h3⟩
      by_cases hm : m = k
      · subst hm; rw [if_pos h2]; exact .inr h3
      · exact .inl ⟨m, by omega, h2, h3⟩
theorem unionR_lt {f : Nat → Nat} {s b : Nat} (h : ∀ m, f m < 2 ^ b) : ∀ k, unionR f s k < 2 ^ b
  | 0 => Nat.two_pow_pos b
  | k + 1 => by
    rw [unionR]
    refine Nat.or_lt_two_pow (unionR_lt h k) ?_
    split
    · exact h k
    · exact Nat.two_pow_pos b
/-- The set of the elements below k that P holds for. -/
def setOf (P : Nat → Bool) : Nat → Nat
  | 0 => 0
  | k + 1 => setOf P k ||| (if P k then 2 ^ k else 0)
theorem setOf_bit (P : Nat → Bool) (q : Nat) : ∀ k, (setOf P k).testBit q = (decide (q < k) && P q)
  | 0 => by simp [setOf]
  | k + 1 => by
    rw [setOf, Nat.testBit_or, setOf_bit P q k, Bool.eq_iff_iff]
    simp only [Bool.or_eq_true, Bool.and_eq_true, decide_eq_true_eq]
    constructor
    · rintro (⟨h1, h2⟩ | h)
      · exact ⟨by omega, h2⟩
      · by_cases hp : P k = true
        · rw [if_pos hp, Nat.testBit_two_pow] at h
          have : k = q := by simpa using h
          subst this; exact ⟨by omega, hp⟩
        · rw [if_neg hp] at h; simp at h
    · rintro ⟨h1, h2⟩
      by_cases hq : q = k
      · subst hq; rw [if_pos h2]; exact .inr (by simp)
      · exact .inl ⟨by omega, h2⟩
theorem setOf_lt (P : Nat → Bool) : ∀ k b, k ≤ b → setOf P k < 2 ^ b
  | 0, b, _ => Nat.two_pow_pos b
  | k + 1, b, h => by
    rw [setOf]
    refine Nat.or_lt_two_pow (setOf_lt P k b (by omega)) ?_
    split
    · exact Nat.pow_lt_pow_right (by decide) (by omega)
    · exact Nat.two_pow_pos b

/-- The error of two graphs. -/
def bothS (a b : Gr) : Int := if gchk a ≠ 0 then gchk a else if gchk b ≠ 0 then gchk b else if a.n ≠ b.n then 22 else 0
def compG (a b : Gr) : Gr := natG a.n.toNat fun p => unionR a.r (b.r p) 5
def uniG (a b : Gr) : Gr := natG a.n.toNat fun p => a.r p ||| b.r p
def revG (g : Gr) : Gr := natG g.n.toNat fun p => setOf (fun q => (g.r q).testBit p) g.n.toNat
def fullG (n : Nat) : Gr := natG n fun _ => 2 ^ n - 1
def silG (n : Nat) : Gr := natG n fun p => 2 ^ p
def withE (e : Int) (g : Gr) : Gr × Int := if e ≠ 0 then (gz0, e) else (g, 0)
def composeS (a b : Gr) : Gr × Int := withE (bothS a b) (compG a b)
def unionS (a b : Gr) : Gr × Int := withE (bothS a b) (uniG a b)
def reverseS (g : Gr) : Gr × Int := withE (gchk g) (revG g)
def sizedE (n : Int) : Int := if n < 1 ∨ 5 < n then 2 else 0
def completeS (n : Int) : Gr × Int := withE (sizedE n) (fullG n.toNat)
def silentS (n : Int) : Gr × Int := withE (sizedE n) (silG n.toNat)
theorem bothS_ok {a b : Gr} (h : bothS a b = 0) : ∃ n, Wf a n ∧ Wf b n := by
  unfold bothS at h
  split at h
  · exact absurd h ‹_›
  split at h
  · exact absurd h ‹_›
  split at h
  · omega
  rename_i h1 h2 h3
  obtain ⟨n, hn⟩ := wf_of (g := a) (by omega)
  obtain ⟨m, hm⟩ := wf_of (g := b) (by omega)
  have : n = m := by have := hn.n_eq; have := hm.n_eq; omega
  subst this
  exact ⟨n, hn, hm⟩
theorem comp_wf {a b : Gr} {n : Nat} (ha : Wf a n) (hb : Wf b n) : Wf (compG a b) n := by
  unfold compG
  rw [ha.toNat]
  refine natG_wf ha.n1 ha.n5 (fun p _ => unionR_lt (fun m => ha.ltn m) 5) fun p hp => ?_
  rw [unionR_bit]
  have := ha.n5
  exact ⟨p, by omega, hb.own p hp, ha.own p hp⟩
theorem comp_bit {a b : Gr} {n : Nat} (ha : Wf a n) (hb : Wf b n) {p : Nat} (hp : p < n) (q : Nat) : ((compG a b).r p).testBit q = true ↔ ∃ m, (b.r p).testBit m = true ∧ (a.r m).testBit q = true := by
  unfold compG
  rw [ha.toNat, natG_r _ _ ha.n5, if_pos hp, unionR_bit]
  have := ha.n5
  exact ⟨fun ⟨m, _, h1, h2⟩ => ⟨m, h1, h2⟩, fun ⟨m, h1, h2⟩ => ⟨m, by have := (hb.bit_lt h1).1; omega, h1, h2⟩⟩
theorem uni_wf {a b : Gr} {n : Nat} (ha : Wf a n) (hb : Wf b n) : Wf (uniG a b) n := by
  unfold uniG
  rw [ha.toNat]
  refine natG_wf ha.n1 ha.n5 (fun p _ => Nat.or_lt_two_pow (ha.ltn p) (hb.ltn p)) fun p hp => ?_
  rw [Nat.testBit_or, ha.own p hp]; rfl
theorem uni_bit {a b : Gr} {n : Nat} (ha : Wf a n) {p : Nat} (hp : p < n) (q : Nat) : ((uniG a b).r p).testBit q = ((a.r p).testBit q || (b.r p).testBit q) := by
  unfold uniG
  rw [ha.toNat, natG_r _ _ ha.n5, if_pos hp, Nat.testBit_or]
theorem rev_wf {g : Gr} {n : Nat} (h : Wf g n) : Wf (revG g) n := by
  unfold revG
  rw [h.toNat]
  refine natG_wf h.n1 h.n5 (fun p _ => setOf_lt _ _ _ (Nat.le_refl _)) fun p hp => ?_
  rw [setOf_bit, h.own p hp]; simpa using hp
theorem rev_bit {g : Gr} {n : Nat} (h : Wf g n) {p : Nat} (hp : p < n) (q : Nat) : ((revG g).r p).testBit q = (g.r q).testBit p := by
  unfold revG
  rw [h.toNat, natG_r _ _ h.n5, if_pos hp, setOf_bit]
  rcases Nat.lt_or_ge q n with h1 | h1
  · simp [h1]
  · rw [h.out q h1]; simp
theorem full_wf {n : Nat} (h1 : 1 ≤ n) (h5 : n ≤ 5) : Wf (fullG n) n := by
  refine natG_wf h1 h5 (fun p _ => by have := Nat.two_pow_pos n; omega) fun p hp => ?_
  rw [Nat.testBit_two_pow_sub_one]; simpa using hp
theorem sil_wf {n : Nat} (h1 : 1 ≤ n) (h5 : n ≤ 5) : Wf (silG n) n :=
  natG_wf h1 h5 (fun p hp => Nat.pow_lt_pow_right (by decide) hp) fun p _ => by simp
theorem sil_bit {n p : Nat} (h5 : n ≤ 5) (hp : p < n) (q : Nat) : ((silG n).r p).testBit q = decide (p = q) := by
  unfold silG
  rw [natG_r _ _ h5, if_pos hp, Nat.testBit_two_pow]
end Go.Proofs.Ytnhgdjiljjpgmaa
