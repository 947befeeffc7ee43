/-
  The plain laws of layer 15: parts of words, renamed words.
  Conditions: none.
-/
import Derived.Test.YtfnhjalnbmnlaaaDoorRdA
namespace Go.Proofs.YtfnhjalnbmnlaaaDoor

theorem getD_take {l : List Rd} {k i : Nat} (h : i < k) : (l.take k).getD i default = l.getD i default := by
  rw [List.getD_eq_getElem?_getD, List.getD_eq_getElem?_getD, List.getElem?_take_of_lt h]
theorem getD_drop {l : List Rd} {k i : Nat} : (l.drop k).getD i default = l.getD (k + i) default := by
  rw [List.getD_eq_getElem?_getD, List.getD_eq_getElem?_getD, List.getElem?_drop]
theorem prevF_take {l : List Rd} {k i : Nat} (h : i ≤ k) : prevF (l.take k) i = prevF l i := by
  cases i with
  | zero => rfl
  | succ i => show ((l.take k).getD i default).f = _; rw [getD_take (by omega)]; rfl
theorem word_take {n : Nat} {l : List Rd} (h : WordOk n l) {k : Nat} (hk : k ≤ l.length) : WordOk n (l.take k) := by
  have e : (l.take k).length = k := by rw [List.length_take]; omega
  refine ⟨h.n1, h.n5, by have := h.len; omega, fun i hi => ?_, fun i hi => ?_⟩
  · rw [e] at hi; rw [getD_take hi]; exact h.wf i (by omega)
  · rw [e] at hi; rw [getD_take hi, prevF_take (by omega)]; exact h.asc i (by omega)
theorem word_drop {n : Nat} {l : List Rd} (h : WordOk n l) (k : Nat) : WordOk n (l.drop k) := by
  have e : (l.drop k).length = l.length - k := List.length_drop
  refine ⟨h.n1, h.n5, by have := h.len; omega, fun i hi => ?_, fun i hi => ?_⟩
  · rw [e] at hi; rw [getD_drop]; exact h.wf _ (by omega)
  · rw [e] at hi; rw [getD_drop]
    cases i with
    | zero => exact inside_zero _
    | succ i =>
      show inside ((l.drop k).getD i default).f _ = true
      rw [getD_drop]
      exact h.asc (k + (i + 1)) (by omega)
theorem lastF_take {l : List Rd} {k : Nat} (hk : k ≤ l.length) : lastF (l.take k) = prevF l k := by
  unfold lastF
  rw [show (l.take k).length = k by rw [List.length_take]; omega, prevF_take (Nat.le_refl _)]
theorem n32 {n : Nat} (h : n ≤ 5) {s : Nat} (hs : s < 2 ^ n) : s < 32 := Nat.lt_of_lt_of_le hs (pow2_32 h)
theorem chain {n : Nat} {l : List Rd} (h : WordOk n l) {i : Nat} : ∀ (j : Nat), i + j ≤ l.length → ∀ q, (prevF l i).toNat.testBit q = true → (prevF l (i + j)).toNat.testBit q = true
  | 0, _, _, hq => hq
  | j + 1, hj, q, hq => by
    have h1 := chain h j (by omega) q hq
    have h2 := h.asc (i + j) (by omega)
    obtain ⟨k1, k2⟩ := prevF_bd h (i + j) (by omega)
    obtain ⟨k3, k4⟩ := prevF_bd h (i + j + 1) (by omega)
    have e : (l.getD (i + j) default).f = prevF l (i + j + 1) := rfl
    rw [e, k1, k3, inside_iff (n32 h.n5 k2) (n32 h.n5 k4)] at h2
    exact h2 q h1
/-- What the law of parts says of the sets. -/
theorem obl_law {n : Nat} {l : List Rd} (h : WordOk n l) {k : Nat} (hk : k ≤ l.length) :
    oblN n l &&& oblN n (l.take k) = oblN n l ∧ oblN n l &&& (lastF l).toNat = 0 ∧ oblN n l ||| (lastF l).toNat = 2 ^ n - 1 ∧ oblN n l < 2 ^ n ∧ oblN n (l.take k) < 2 ^ n ∧ (lastF l).toNat < 2 ^ n ∧ lastF l = ((lastF l).toNat : Int) := by
  obtain ⟨k1, k2⟩ := prevF_bd h l.length (Nat.le_refl _)
  obtain ⟨k3, k4⟩ := prevF_bd h k hk
  have k2 : (lastF l).toNat < 2 ^ n := k2
  have hp := Nat.two_pow_pos n
  have hlt : ∀ s, (2 ^ n - 1) - s < 2 ^ n := fun s => by omega
  refine ⟨?_, ?_, ?_, hlt _, hlt _, k2, k1⟩
  · refine Nat.eq_of_testBit_eq fun q => ?_
    unfold oblN
    rw [lastF_take hk, Nat.testBit_and, obl_bit k2, obl_bit k4]
    cases hq : decide (q < n) with
    | false => rfl
    | true =>
      simp only [Bool.true_and]
      cases h1 : (prevF l k).toNat.testBit q with
      | false => simp
      | true =>
        have := chain h (i := k) (l.length - k) (by omega) q h1
        rw [show k + (l.length - k) = l.length by omega] at this
        show (!(lastF l).toNat.testBit q && _) = _
        rw [show (lastF l).toNat.testBit q = true from this]; rfl
  · refine Nat.eq_of_testBit_eq fun q => ?_
    unfold oblN
    rw [Nat.testBit_and, obl_bit k2]
    cases h1 : (lastF l).toNat.testBit q <;> simp
  · refine Nat.eq_of_testBit_eq fun q => ?_
    unfold oblN
    rw [Nat.testBit_or, obl_bit k2, Nat.testBit_two_pow_sub_one]
    cases h1 : (lastF l).toNat.testBit q with
    | false => simp
    | true =>
      have := bit_ltn k2 h1
      simp [this]
theorem prod_parts {n : Nat} {l : List Rd} (h : WordOk n l) (k : Nat) : compG (prodL n (l.take k)) (prodL n (l.drop k)) = prodL n l := by
  have hm := word_mem h
  rw [← prod_app h.n1 h.n5 (fun r hr => (hm r (List.mem_of_mem_take hr)).g) (fun r hr => (hm r (List.mem_of_mem_drop hr)).g), List.take_append_drop]

/-- A renamed word. -/
def renL (l : List Rd) (a : List Int) : List Rd := l.map fun r => permR r a
theorem renL_len (l : List Rd) (a : List Int) : (renL l a).length = l.length := List.length_map _
theorem renL_getD {l : List Rd} {a : List Int} {i : Nat} (hi : i < l.length) : (renL l a).getD i default = permR (l.getD i default) a := by
  unfold renL
  rw [List.getD_eq_getElem?_getD, List.getElem?_map, List.getD_eq_getElem?_getD, List.getElem?_eq_getElem hi]; rfl
theorem img_mono {a : List Int} {s t : Nat} (h : ∀ q, s.testBit q = true → t.testBit q = true) (q : Nat) (hq : (imgN a s a.length).testBit q = true) : (imgN a t a.length).testBit q = true := by
  rw [img_bit] at hq ⊢
  obtain ⟨k, h1, h2, h3⟩ := hq
  exact ⟨k, h1, h k h2, h3⟩
theorem prevF_ren {l : List Rd} {a : List Int} {i : Nat} (hi : i ≤ l.length) : prevF (renL l a) i = ((imgN a (prevF l i).toNat a.length : Nat) : Int) := by
  cases i with
  | zero =>
    show (0 : Int) = ((imgN a 0 a.length : Nat) : Int)
    have : imgN a 0 a.length = 0 := Nat.eq_of_testBit_eq fun q => by
      rw [Bool.eq_iff_iff, img_bit]; simp
    rw [this]; rfl
  | succ i => show ((renL l a).getD i default).f = _; rw [renL_getD (by omega)]; rfl
theorem ren_word {l : List Rd} {a : List Int} (h : WordOk a.length l) (hp : PermOk a) : WordOk a.length (renL l a) := by
  refine ⟨h.n1, h.n5, by rw [renL_len]; exact h.len, fun i hi => ?_, fun i hi => ?_⟩
  · rw [renL_len] at hi; rw [renL_getD hi]; exact permR_wf (h.wf i hi) hp
  · rw [renL_len] at hi
    rw [renL_getD hi, prevF_ren (by omega)]
    show inside _ ((imgN a (l.getD i default).f.toNat a.length : Nat) : Int) = true
    have l1 := n32 h.n5 (imgN_lt hp (prevF l i).toNat _ (Nat.le_refl _))
    have l2 := n32 h.n5 (imgN_lt hp (l.getD i default).f.toNat _ (Nat.le_refl _))
    rw [inside_iff l1 l2]
    have h2 := h.asc i hi
    obtain ⟨k1, k2⟩ := prevF_bd h i (by omega)
    have k3 := h.wf i hi
    rw [k1, k3.f_eq, inside_iff (n32 h.n5 k2) (n32 h.n5 k3.f_lt)] at h2
    exact fun q hq => img_mono h2 q hq
theorem perm_sil {a : List Int} (h : PermOk a) : permG (silG a.length) a = silG a.length := by
  have hs := sil_wf h.n1 h.n5
  refine wf_ext (perm_wf hs h) hs fun p q hp hq => ?_
  obtain ⟨p', hp', rfl⟩ := pi_surj h hp
  obtain ⟨q', hq', rfl⟩ := pi_surj h hq
  rw [perm_bit hs h hp' hq', sil_bit h.n5 hp', sil_bit h.n5 hp, Bool.eq_iff_iff, decide_eq_true_iff, decide_eq_true_iff]
  constructor
  · rintro rfl; rfl
  · intro he; rw [← bk_pi h hp', ← bk_pi h hq', he]
theorem ren_fold {a : List Int} (hp : PermOk a) : ∀ (l : List Rd) (g : Gr), Wf g a.length → (∀ r ∈ l, RWf r a.length) → (renL l a).foldl (fun x r => compG x r.g) (permG g a) = permG (l.foldl (fun x r => compG x r.g) g) a
  | [], _, _, _ => rfl
  | r :: l, g, hg, hl => by
    have hr := (hl r (by simp)).g
    show (renL l a).foldl _ (compG (permG g a) (permG r.g a)) = _
    rw [← perm_comp hg hr hp]
    exact ren_fold hp l _ (comp_wf hg hr) fun x hx => hl x (by simp [hx])
theorem ren_prod {l : List Rd} {a : List Int} (h : WordOk a.length l) (hp : PermOk a) : prodL a.length (renL l a) = permG (prodL a.length l) a := by
  have := ren_fold hp l (silG a.length) (sil_wf hp.n1 hp.n5) (word_mem h)
  rw [perm_sil hp] at this
  exact this
theorem ren_obl {l : List Rd} {a : List Int} (h : WordOk a.length l) (hp : PermOk a) : imgN a (oblN a.length l) a.length = oblN a.length (renL l a) := by
  obtain ⟨k1, k2⟩ := prevF_bd h l.length (Nat.le_refl _)
  have k2 : (lastF l).toNat < 2 ^ a.length := k2
  have e : (lastF (renL l a)).toNat = imgN a (lastF l).toNat a.length := by
    unfold lastF; rw [renL_len, prevF_ren (Nat.le_refl _), Int.toNat_natCast]
  have hlt := imgN_lt hp (lastF l).toNat _ (Nat.le_refl _)
  refine Nat.eq_of_testBit_eq fun q => ?_
  unfold oblN
  rw [e, obl_bit hlt, Bool.eq_iff_iff, img_bit]
  constructor
  · rintro ⟨k, hk, h1, rfl⟩
    rw [obl_bit k2] at h1
    have hpk : piN a k < a.length := (hp.nat hk).2
    rw [decide_eq_true hpk, Bool.true_and, Bool.not_eq_true', ← Bool.not_eq_true]
    intro hx
    rw [img_bit] at hx
    revert hx
    rintro ⟨j, hj, h2, h3⟩
    have : j = k := by rw [← bk_pi hp hj, ← bk_pi hp hk, h3]
    subst this
    rw [show (lastF l).toNat.testBit j = true from h2] at h1
    simp at h1
  · intro h1
    rw [Bool.and_eq_true, decide_eq_true_iff, Bool.not_eq_true', ← Bool.not_eq_true, img_bit] at h1
    obtain ⟨hq, h2⟩ := h1
    obtain ⟨k, hk, rfl⟩ := pi_surj hp hq
    refine ⟨k, hk, ?_, rfl⟩
    rw [obl_bit k2, decide_eq_true hk, Bool.true_and, Bool.not_eq_true', ← Bool.not_eq_true]
    exact fun h3 => h2 ⟨k, hk, h3, rfl⟩
/-- First a, then b. -/
def tmL (b a : List Int) : List Int := a.map fun q => b.getD q.toNat 0
theorem tmL_len (b a : List Int) : (tmL b a).length = a.length := List.length_map _
theorem tmL_at {b a : List Int} {k : Nat} (hk : k < a.length) : piN (tmL b a) k = piN b (piN a k) := by
  unfold piN tmL
  rw [List.getD_eq_getElem?_getD, List.getElem?_map, List.getD_eq_getElem?_getD (l := a), List.getElem?_eq_getElem hk]; rfl
theorem tmL_val {b a : List Int} {k : Nat} (hk : k < a.length) : (tmL b a).getD k 0 = b.getD (piN a k) 0 := by
  unfold piN tmL
  rw [List.getD_eq_getElem?_getD, List.getElem?_map, List.getD_eq_getElem?_getD (l := a), List.getElem?_eq_getElem hk]; rfl
theorem tmL_ok {b a : List Int} (ha : PermOk a) (hb : PermOk b) (hl : b.length = a.length) : PermOk (tmL b a) := by
  have hlt : ∀ i, i < a.length → piN a i < b.length := fun i hi => by have := (ha.nat hi).2; unfold piN; omega
  refine ⟨by rw [tmL_len]; exact ha.n1, by rw [tmL_len]; exact ha.n5, fun i hi => ?_, fun i j hi hj => ?_⟩
  · rw [tmL_len] at hi ⊢
    rw [tmL_val hi]
    have := hb.bd _ (hlt i hi)
    omega
  · rw [tmL_len] at hi
    rw [tmL_val hi, tmL_val (by omega)]
    intro he
    have h1 := bk_pi hb (hlt i hi)
    have h2 := bk_pi hb (hlt j (by omega))
    have h3 : piN b (piN a i) = piN b (piN a j) := by
      unfold piN at he ⊢; rw [he]
    rw [h3, h2] at h1
    have h4 := bk_pi ha hi
    have h5 := bk_pi ha (show j < a.length by omega)
    rw [← h1, h5] at h4
    omega
theorem img_img {b a : List Int} (ha : PermOk a) (hl : b.length = a.length) (s : Nat) : imgN b (imgN a s a.length) b.length = imgN (tmL b a) s (tmL b a).length := by
  refine Nat.eq_of_testBit_eq fun q => ?_
  rw [Bool.eq_iff_iff, img_bit, img_bit, tmL_len]
  constructor
  · rintro ⟨k, hk, h1, h2⟩
    rw [img_bit] at h1
    obtain ⟨j, hj, h3, rfl⟩ := h1
    exact ⟨j, hj, h3, by rw [tmL_at hj, h2]⟩
  · rintro ⟨j, hj, h1, h2⟩
    rw [tmL_at hj] at h2
    refine ⟨piN a j, by have := (ha.nat hj).2; unfold piN; omega, ?_, h2⟩
    rw [img_bit]
    exact ⟨j, hj, h1, rfl⟩
theorem perm_perm {g : Gr} {b a : List Int} (hg : Wf g a.length) (ha : PermOk a) (hb : PermOk b) (hl : b.length = a.length) : permG (permG g a) b = permG g (tmL b a) := by
  have ht := tmL_ok ha hb hl
  have hga := perm_wf hg ha
  have hgb : Wf (permG (permG g a) b) a.length := by rw [← hl] at hga ⊢; exact perm_wf hga hb
  have hgt : Wf (permG g (tmL b a)) a.length := by
    have := perm_wf (g := g) (l := tmL b a) (by rw [tmL_len]; exact hg) ht
    rwa [tmL_len] at this
  refine wf_ext hgb hgt fun p q hp hq => ?_
  obtain ⟨p', hp', rfl⟩ := pi_surj ht (by rw [tmL_len]; exact hp)
  obtain ⟨q', hq', rfl⟩ := pi_surj ht (by rw [tmL_len]; exact hq)
  rw [tmL_len] at hp' hq'
  rw [perm_bit (l := tmL b a) (by rw [tmL_len]; exact hg) ht (by rw [tmL_len]; exact hp') (by rw [tmL_len]; exact hq'), tmL_at hp', tmL_at hq']
  have k1 : piN a p' < b.length := by have := (ha.nat hp').2; unfold piN; omega
  have k2 : piN a q' < b.length := by have := (ha.nat hq').2; unfold piN; omega
  rw [perm_bit (by rw [hl]; exact hga) hb k1 k2, perm_bit hg ha hp' hq']
theorem permR_permR {r : Rd} {b a : List Int} (hr : RWf r a.length) (ha : PermOk a) (hb : PermOk b) (hl : b.length = a.length) : permR (permR r a) b = permR r (tmL b a) := by
  unfold permR
  simp only [Int.toNat_natCast]
  rw [perm_perm hr.g ha hb hl, img_img ha hl]
theorem ren_ren {l : List Rd} {b a : List Int} (h : ∀ r ∈ l, RWf r a.length) (ha : PermOk a) (hb : PermOk b) (hl : b.length = a.length) : renL (renL l a) b = renL l (tmL b a) := by
  unfold renL
  rw [List.map_map]
  apply List.map_congr_left
  intro r hr
  exact permR_permR (h r hr) ha hb hl
end Go.Proofs.YtfnhjalnbmnlaaaDoor
