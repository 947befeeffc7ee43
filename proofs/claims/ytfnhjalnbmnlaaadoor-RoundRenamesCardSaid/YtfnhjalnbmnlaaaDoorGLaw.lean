/-
  Plain laws of graphs: products, unions, the silent graph.
  Conditions: none.
-/
import Derived.Test.YtfnhjalnbmnlaaaDoorGMeas
import Derived.Test.YtfnhjalnbmnlaaaDoorGRefQ
import Derived.Test.YtfnhjalnbmnlaaaDoorGRefR
import Derived.Test.YtfnhjalnbmnlaaaDoorGOps
namespace Go.Proofs.YtfnhjalnbmnlaaaDoor

theorem bit_ltn {s n q : Nat} (hs : s < 2 ^ n) (hb : s.testBit q = true) : q < n := by
  rcases Nat.lt_or_ge q n with h1 | h1
  · exact h1
  · rw [Nat.testBit_lt_two_pow (Nat.lt_of_lt_of_le hs (Nat.pow_le_pow_right (by decide) h1))] at hb; cases hb
theorem chk_of_wf {g : Gr} {n : Nat} (h : Wf g n) : gchk g = 0 := by
  have := h.n1; have := h.n5; have := h.n_eq
  refine gchk_ok (by omega) fun p _ => ?_
  unfold gchkAt
  rw [h.row p, h.n_eq, has_nat, show (n : Int).toNat = n from rfl]
  rcases Nat.lt_or_ge p n with h1 | h1
  · have h2 := h.lt p h1
    rw [if_neg (by omega), if_neg, if_pos (h.own p h1)]
    rw [show ((2 : Int) ^ n) = ((2 ^ n : Nat) : Int) by simp]
    generalize 2 ^ n = m at h2 ⊢
    omega
  · rw [if_pos (by omega), h.out p h1]; rfl
theorem both_of_wf {a b : Gr} {n : Nat} (ha : Wf a n) (hb : Wf b n) : bothS a b = 0 := bothS_0 (chk_of_wf ha) (chk_of_wf hb) (ha.n_eq.trans hb.n_eq.symm)
theorem compS_wf {a b : Gr} {n : Nat} (ha : Wf a n) (hb : Wf b n) : composeS a b = (compG a b, 0) := by unfold composeS; rw [both_of_wf ha hb]; rfl
theorem uniS_wf {a b : Gr} {n : Nat} (ha : Wf a n) (hb : Wf b n) : unionS a b = (uniG a b, 0) := by unfold unionS; rw [both_of_wf ha hb]; rfl
theorem silS_wf {a : Gr} {n : Nat} (ha : Wf a n) : silentS a.n = (silG n, 0) := by
  have := ha.n1; have := ha.n5
  unfold silentS sizedE; rw [ha.toNat, ha.n_eq, if_neg (by omega)]; rfl
theorem comp_uni {a b c : Gr} {n : Nat} (ha : Wf a n) (hb : Wf b n) (hc : Wf c n) : compG a (uniG b c) = uniG (compG a b) (compG a c) := by
  have hu := uni_wf hb hc
  refine wf_ext (comp_wf ha hu) (uni_wf (comp_wf ha hb) (comp_wf ha hc)) fun p q hp _ => ?_
  rw [uni_bit (comp_wf ha hb) hp, Bool.eq_iff_iff, comp_bit ha hu hp, Bool.or_eq_true, comp_bit ha hb hp, comp_bit ha hc hp]
  simp only [uni_bit hb hp, Bool.or_eq_true]
  constructor
  · rintro ⟨m, h1 | h1, h2⟩
    · exact .inl ⟨m, h1, h2⟩
    · exact .inr ⟨m, h1, h2⟩
  · rintro (⟨m, h1, h2⟩ | ⟨m, h1, h2⟩)
    · exact ⟨m, .inl h1, h2⟩
    · exact ⟨m, .inr h1, h2⟩
theorem uni_comp {a b c : Gr} {n : Nat} (ha : Wf a n) (hb : Wf b n) (hc : Wf c n) : compG (uniG b c) a = uniG (compG b a) (compG c a) := by
  have hu := uni_wf hb hc
  refine wf_ext (comp_wf hu ha) (uni_wf (comp_wf hb ha) (comp_wf hc ha)) fun p q hp _ => ?_
  rw [uni_bit (comp_wf hb ha) hp, Bool.eq_iff_iff, comp_bit hu ha hp, Bool.or_eq_true, comp_bit hb ha hp, comp_bit hc ha hp]
  constructor
  · rintro ⟨m, h1, h2⟩
    rw [uni_bit hb (ha.bit_lt h1).1, Bool.or_eq_true] at h2
    exact h2.elim (fun h => .inl ⟨m, h1, h⟩) fun h => .inr ⟨m, h1, h⟩
  · rintro (⟨m, h1, h2⟩ | ⟨m, h1, h2⟩)
    · exact ⟨m, h1, by rw [uni_bit hb (ha.bit_lt h1).1, h2]; rfl⟩
    · exact ⟨m, h1, by rw [uni_bit hb (ha.bit_lt h1).1, h2, Bool.or_true]⟩
theorem comp_sil {a : Gr} {n : Nat} (ha : Wf a n) : compG a (silG n) = a := by
  have hs := sil_wf ha.n1 ha.n5
  refine wf_ext (comp_wf ha hs) ha fun p q hp _ => ?_
  rw [Bool.eq_iff_iff, comp_bit ha hs hp]
  simp only [sil_bit ha.n5 hp, decide_eq_true_eq]
  exact ⟨fun ⟨_, h1, h2⟩ => h1 ▸ h2, fun h => ⟨p, rfl, h⟩⟩
theorem sil_comp {a : Gr} {n : Nat} (ha : Wf a n) : compG (silG n) a = a := by
  have hs := sil_wf ha.n1 ha.n5
  refine wf_ext (comp_wf hs ha) ha fun p q hp _ => ?_
  rw [Bool.eq_iff_iff, comp_bit hs ha hp]
  constructor
  · rintro ⟨m, h1, h2⟩
    rw [sil_bit ha.n5 (ha.bit_lt h1).1, decide_eq_true_eq] at h2
    exact h2 ▸ h1
  · exact fun h => ⟨q, h, by rw [sil_bit ha.n5 (ha.bit_lt h).1]; simp⟩
abbrev CmpOK (w : World) (a b r : Gr) : Prop := ∀ W, Ext w W → Calls Tryd.prog 29 #[a.v, b.v] W (RetG (r, 0) W)
abbrev SilOK (n : Int) (r : Gr) : Prop := ∀ W, Calls Tryd.prog 47 #[.int .i64 n] W (RetG (r, 0) W)
theorem cmp_ok {w : World} (hT : Tz w) {a b r : Gr} (h : composeS a b = (r, 0)) : CmpOK w a b r := fun W hE => h ▸ compose_any a b W (hT.ext hE)
theorem sil_ok {n : Int} {r : Gr} (h : silentS n = (r, 0)) : SilOK n r := fun W => h ▸ silent_any n W
end Go.Proofs.YtfnhjalnbmnlaaaDoor
