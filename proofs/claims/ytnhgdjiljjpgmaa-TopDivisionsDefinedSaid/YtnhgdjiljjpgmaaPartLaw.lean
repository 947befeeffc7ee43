/-
  Plain: the rounds of Partition: the adversaries are well-formed; their words; renaming.
  Conditions: as each theorem states.
-/
import Derived.Test.YtnhgdjiljjpgmaaFailOb
import Derived.Test.YtnhgdjiljjpgmaaAdvRef3
import Derived.Test.YtnhgdjiljjpgmaaGSpec
namespace Go.Proofs.Ytnhgdjiljjpgmaa

/-! ### What a build has found -/
theorem keyStep_from (o : List Nat) (s : Stp17) {k : Nat} (h : k ∈ keyStep o s) : k ∈ o ∨ s.2 = k := by
  unfold keyStep at h
  split at h
  · exact .inl h
  · rcases List.mem_append.1 h with h | h
    · exact .inl h
    · simp at h; exact .inr h.symm
theorem keysR_from (l : List Stp17) : ∀ (o : List Nat) {k : Nat}, k ∈ keysR o l → k ∈ o ∨ ∃ s ∈ l, s.2 = k := by
  induction l with
  | nil => exact fun o k h => .inl h
  | cons s l ih =>
    intro o k h
    rcases ih (keyStep o s) h with h | ⟨x, hx, e⟩
    · rcases keyStep_from o s h with h | h
      · exact .inl h
      · exact .inr ⟨s, List.mem_cons_self .., h⟩
    · exact .inr ⟨x, List.mem_cons_of_mem _ hx, e⟩
theorem keysR_has (l : List Stp17) : ∀ (o : List Nat), (∀ k ∈ o, k ∈ keysR o l) ∧ ∀ s ∈ l, s.2 ∈ keysR o l := by
  induction l with
  | nil => exact fun o => ⟨fun k h => h, fun s h => nomatch h⟩
  | cons s l ih =>
    intro o
    obtain ⟨h1, h2⟩ := ih (keyStep o s)
    obtain ⟨t, ht⟩ := keyStep_pre o s
    refine ⟨fun k hk => h1 k (by rw [ht]; exact List.mem_append_left _ hk), fun x hx => ?_⟩
    rcases List.mem_cons.1 hx with rfl | hx
    · exact h1 _ (keyStep_mem o x)
    · exact h2 x hx
/-- What a build knows of the states that it has found, behind i of them. -/
structure BInv (E : Nat → List Stp17) (K : Nat → Prop) (i : Nat) (order : List Nat) (count : Nat) (out : List (List Mv)) : Prop where
  le : i ≤ order.length
  sl : out.length = i
  first : order.head? = some 0
  nd : order.Nodup
  all : ∀ k ∈ order, K k
  cnt : (out.map List.length).sum = count
  few : count ≤ 4096
  at_ : ∀ j, j < i → out.getD j [] = (E (order.getD j 0)).map fun s => ⟨s.1, (order.idxOf s.2 : Nat)⟩
  mem : ∀ j, j < i → ∀ s ∈ E (order.getD j 0), s.2 ∈ order
  reach : ∀ j, 0 < j → j < order.length → ∃ h, h < j ∧ h < i ∧ ∃ s ∈ E (order.getD h 0), s.2 = order.getD j 0
theorem getD_app {α : Type} (l t : List α) (d : α) {j : Nat} (h : j < l.length) : (l ++ t).getD j d = l.getD j d := by
  rw [List.getD_eq_getElem?_getD, List.getD_eq_getElem?_getD, List.getElem?_append_left h]
theorem BInv.start {E : Nat → List Stp17} {K : Nat → Prop} (h0 : K 0) : BInv E K 0 [0] 0 [] :=
  ⟨by decide, rfl, rfl, by simp, by simpa using h0, rfl, by decide, fun j h => absurd h (Nat.not_lt_zero j), fun j h => absurd h (Nat.not_lt_zero j), fun j h1 h2 => by simp at h2; omega⟩
theorem BInv.next {E : Nat → List Stp17} {K : Nat → Prop} {i count : Nat} {order : List Nat} {out : List (List Mv)} (H : BInv E K i order count out) (hN : ∀ k, K k → ∀ s ∈ E k, K s.2) (hi : i < order.length) (hc : count + (E order[i]).length ≤ 4096) :
    BInv E K (i + 1) (keysR order (E order[i])) (count + (E order[i]).length) (out ++ [movesR order (E order[i])]) := by
  obtain ⟨t, ht⟩ := keysR_pre (E order[i]) order
  have hk := H.all _ (List.getElem_mem hi)
  have hi0 : order.getD i 0 = order[i] := by rw [List.getD_eq_getElem?_getD, List.getElem?_eq_getElem hi]; rfl
  have hsub := keysR_has (E order[i]) order
  refine ⟨?_, by rw [List.length_append, H.sl]; rfl, ?_, keysR_nodup _ _ H.nd, keysR_all _ _ H.all (hN _ hk), ?_, hc, ?_, ?_, ?_⟩
  · rw [ht, List.length_append]; omega
  · rw [ht]
    have := H.first
    cases ho : order with
    | nil => rw [ho] at this; cases this
    | cons a l => rw [ho] at this; exact this
  · rw [List.map_append, List.sum_append, H.cnt]; simp [movesR_len]
  · intro j hj
    rcases Nat.lt_succ_iff_lt_or_eq.1 hj with h | rfl
    · rw [getD_app _ _ _ (by rw [H.sl]; exact h), H.at_ j h, ht, getD_app _ _ _ (by omega)]
      refine List.map_congr_left fun s hs => ?_
      rw [List.idxOf_append, if_pos (H.mem j h s hs)]
    · have e1 : (out ++ [movesR order (E order[j])]).getD j [] = movesR order (E order[j]) := by
        rw [List.getD_eq_getElem?_getD, List.getElem?_append_right (by rw [H.sl]; exact Nat.le_refl _), H.sl, Nat.sub_self]; rfl
      have e2 : (keysR order (E order[j])).getD j 0 = order[j] := by rw [ht, getD_app _ _ _ hi, hi0]
      rw [e1, e2]; rfl
  · intro j hj s hs
    rcases Nat.lt_succ_iff_lt_or_eq.1 hj with h | rfl
    · rw [ht, getD_app _ _ _ (by omega)] at hs
      exact hsub.1 _ (H.mem j h s hs)
    · rw [ht, getD_app _ _ _ hi, hi0] at hs
      exact hsub.2 s hs
  · intro j h0 hj
    by_cases hjo : j < order.length
    · obtain ⟨h, h1, h2, s, hs, e⟩ := H.reach j h0 hjo
      refine ⟨h, h1, by omega, s, ?_, ?_⟩
      · rw [ht, getD_app _ _ _ (by omega)]; exact hs
      · rw [ht, getD_app _ _ _ hjo]; exact e
    · have hm : (keysR order (E order[i])).getD j 0 ∈ keysR order (E order[i]) := by
        rw [List.getD_eq_getElem?_getD, List.getElem?_eq_getElem hj]; exact List.getElem_mem hj
      rcases keysR_from _ _ hm with h | ⟨s, hs, e⟩
      · exfalso
        obtain ⟨q, hq, eq⟩ := List.mem_iff_getElem.1 h
        have hnd := keysR_nodup (E order[i]) _ H.nd
        have hlen : order.length ≤ (keysR order (E order[i])).length := by rw [ht, List.length_append]; omega
        have h3 := List.pairwise_iff_getElem.1 hnd q j (by omega) hj (by omega)
        apply h3
        rw [show (keysR order (E order[i]))[j] = (keysR order (E order[i])).getD j 0 by rw [List.getD_eq_getElem?_getD, List.getElem?_eq_getElem hj]; rfl, ← eq]
        simp only [ht]
        rw [List.getElem_append_left hq]
      · refine ⟨i, by omega, by omega, s, ?_, e⟩
        rw [ht, getD_app _ _ _ hi, hi0]
        exact hs
/-- An adversary that a build has found, with its states' keys. -/
structure Built (E : Nat → List Stp17) (K : Nat → Prop) (n : Nat) (A : Adv) (ks : List Nat) : Prop where
  n : A.n = n
  inv : BInv E K ks.length ks (movesN A) A.st
theorem buildR_inv {E : Nat → List Stp17} {K : Nat → Prop} {n : Nat} (hN : ∀ k, K k → ∀ s ∈ E k, K s.2) : ∀ (fuel i : Nat) (order : List Nat) (count : Nat) (out st : List (List Mv)), BInv E K i order count out → buildR E n fuel i order count out = some st →
    ∃ ks, BInv E K ks.length ks (st.map List.length).sum st
  | 0, _, _, _, _, _, _, h => by cases h
  | fuel + 1, i, order, count, out, st, H, h => by
    unfold buildR at h
    by_cases hi : i < order.length
    · rw [dif_pos hi] at h
      split at h
      · cases h
      · next hc => exact buildR_inv hN fuel _ _ _ _ _ (H.next hN hi (by omega)) h
    · rw [dif_neg hi] at h
      injection h with h
      subst h
      have : i = order.length := by have := H.le; omega
      subst this
      refine ⟨order, ?_⟩
      rw [H.cnt]
      exact H
theorem buildA_built {E : Nat → List Stp17} {K : Nat → Prop} {n : Nat} (h0 : K 0) (hN : ∀ k, K k → ∀ s ∈ E k, K s.2) (h : (buildA E n).2 = 0) : ∃ ks, Built E K n (buildA E n).1 ks := by
  unfold buildA at h ⊢
  cases hb : buildR E n 64 0 [0] 0 [] with
  | none => rw [hb] at h; cases h
  | some st =>
    obtain ⟨ks, hk⟩ := buildR_inv hN _ _ _ _ _ _ (BInv.start h0) hb
    exact ⟨ks, rfl, hk⟩
/-- A build that finds few moves ends in an adversary. -/
theorem buildR_some {E : Nat → List Stp17} {K : Nat → Prop} {n M : Nat} (hN : ∀ k, K k → ∀ s ∈ E k, K s.2) (hF : ∀ l : List Nat, l.Nodup → (∀ k ∈ l, K k) → l.length ≤ 33) (hM : ∀ k, K k → (E k).length ≤ M) {L : Nat} (hL : ∀ l : List Nat, l.Nodup → (∀ k ∈ l, K k) → l.length ≤ L) (hLM : L * M ≤ 4096) :
    ∀ (fuel i : Nat) (order : List Nat) (count : Nat) (out : List (List Mv)), BInv E K i order count out → count ≤ i * M → 34 ≤ fuel + i → buildR E n fuel i order count out ≠ none
  | 0, i, order, count, out, H, _, hf => by have := hF order H.nd H.all; have := H.le; omega
  | fuel + 1, i, order, count, out, H, hc, hf => by
    unfold buildR
    by_cases hi : i < order.length
    · have hl := hL order H.nd H.all
      have hm := hM _ (H.all _ (List.getElem_mem hi))
      have h1 : count + (E order[i]).length ≤ (i + 1) * M := by rw [Nat.succ_mul]; omega
      have h2 : (i + 1) * M ≤ L * M := Nat.mul_le_mul_right _ (by omega)
      rw [dif_pos hi, if_neg (by omega)]
      exact buildR_some hN hF hM hL hLM fuel (i + 1) _ _ _ (H.next hN hi (by omega)) h1 (by omega)
    · rw [dif_neg hi]; simp
theorem buildA_zero {E : Nat → List Stp17} {K : Nat → Prop} {n M L : Nat} (h0 : K 0) (hN : ∀ k, K k → ∀ s ∈ E k, K s.2) (hM : ∀ k, K k → (E k).length ≤ M) (hL : ∀ l : List Nat, l.Nodup → (∀ k ∈ l, K k) → l.length ≤ L) (h33 : L ≤ 33) (hLM : L * M ≤ 4096) : (buildA E n).2 = 0 := by
  have h := buildR_some (n := n) hN (fun l h1 h2 => Nat.le_trans (hL l h1 h2) h33) hM hL hLM 64 0 [0] 0 [] (BInv.start h0) (Nat.zero_le _) (by omega)
  unfold buildA
  cases hb : buildR E n 64 0 [0] 0 [] with
  | none => exact absurd hb h
  | some st => rfl

/-! ### Words -/
/-- Rounds that follow one another from a key on. -/
def Chain (E : Nat → List Stp17) : Nat → List Rd → Prop
  | _, [] => True
  | k, r :: l => ∃ s ∈ E k, s.1 = r ∧ Chain E s.2 l
theorem Chain.mono {E E' : Nat → List Stp17} {K : Nat → Prop} (hN : ∀ k, K k → ∀ s ∈ E k, K s.2) (h : ∀ k, K k → ∀ s ∈ E k, s ∈ E' k) : ∀ (l : List Rd) (k : Nat), K k → Chain E k l → Chain E' k l
  | [], _, _, _ => trivial
  | _ :: l, k, hk, ⟨s, hs, e, hc⟩ => ⟨s, h k hk s hs, e, Chain.mono hN h l s.2 (hN k hk s hs) hc⟩
theorem toL_map {l : List Stp17} {f : Stp17 → Int} (_hf : ∀ s ∈ l, 0 ≤ f s) (ho : ∀ x ∈ l, ∀ y ∈ l, x.1 = y.1 → x = y) (r : Rd) :
    (∀ s ∈ l, s.1 = r → toL (l.map fun s => ⟨s.1, f s⟩) r = f s) ∧ ((∀ s ∈ l, s.1 ≠ r) → toL (l.map fun s => ⟨s.1, f s⟩) r = -1) := by
  refine ⟨fun s hs e => ?_, fun h => ?_⟩
  · unfold toL
    cases hfi : (l.map fun s => (⟨s.1, f s⟩ : Mv)).find? (fun m => req m.r r) with
    | none =>
      have := List.find?_eq_none.1 hfi ⟨s.1, f s⟩ (List.mem_map_of_mem hs)
      exact absurd (req_iff.2 e) this
    | some m =>
      have hm := List.mem_of_find?_eq_some hfi
      have hr := List.find?_some hfi
      obtain ⟨x, hx, rfl⟩ := List.mem_map.1 hm
      have := ho x hx s hs ((req_iff.1 hr).trans e.symm)
      rw [this]
  · unfold toL
    rw [List.find?_eq_none.2 ?_]
    intro m hm
    obtain ⟨x, hx, rfl⟩ := List.mem_map.1 hm
    intro hr
    exact h x hx (req_iff.1 hr)
theorem idx_getD {ks : List Nat} {k : Nat} (h : k ∈ ks) : ks.idxOf k < ks.length ∧ ks.getD (ks.idxOf k) 0 = k := by
  have hl := List.idxOf_lt_length_of_mem h
  exact ⟨hl, by rw [List.getD_eq_getElem?_getD, List.getElem?_eq_getElem hl]; exact List.getElem_idxOf hl⟩
theorem Built.state {E : Nat → List Stp17} {K : Nat → Prop} {n : Nat} {A : Adv} {ks : List Nat} (H : Built E K n A ks) {k : Nat} (hk : k ∈ ks) : A.st.getD (ks.idxOf k) [] = (E k).map fun s => ⟨s.1, (ks.idxOf s.2 : Nat)⟩ := by
  obtain ⟨h1, h2⟩ := idx_getD hk
  have := H.inv.at_ _ h1
  rwa [h2] at this
theorem Built.zero {E : Nat → List Stp17} {K : Nat → Prop} {n : Nat} {A : Adv} {ks : List Nat} (H : Built E K n A ks) : 0 ∈ ks ∧ ks.idxOf 0 = 0 := by
  have := H.inv.first
  cases ho : ks with
  | nil => rw [ho] at this; cases this
  | cons a l =>
    rw [ho] at this
    injection this with this
    subst this
    exact ⟨List.mem_cons_self .., List.idxOf_cons_self⟩
theorem Built.to {E : Nat → List Stp17} {K : Nat → Prop} {n : Nat} {A : Adv} {ks : List Nat} (H : Built E K n A ks) {k : Nat} (hk : k ∈ ks) {s : Stp17} (hs : s ∈ E k) : s.2 ∈ ks := by
  obtain ⟨h1, h2⟩ := idx_getD hk
  exact H.inv.mem _ h1 s (by rw [h2]; exact hs)
/-- A word is permitted exactly if its rounds follow one another. -/
theorem Built.permits {E : Nat → List Stp17} {K : Nat → Prop} {n : Nat} {A : Adv} {ks : List Nat} (H : Built E K n A ks) (ho : ∀ k, K k → ∀ x ∈ E k, ∀ y ∈ E k, x.1 = y.1 → x = y) : ∀ (l : List Rd) (k : Nat), k ∈ ks → (0 ≤ after A (ks.idxOf k : Nat) l ↔ Chain E k l)
  | [], k, hk => ⟨fun _ => trivial, fun _ => by show (0 : Int) ≤ ((ks.idxOf k : Nat) : Int); omega⟩
  | r :: l, k, hk => by
    have hst := H.state hk
    have ht := toL_map (l := E k) (f := fun s => ((ks.idxOf s.2 : Nat) : Int)) (fun s _ => by show (0 : Int) ≤ ((ks.idxOf s.2 : Nat) : Int); omega) (ho k (H.inv.all k hk)) r
    have e : after A (ks.idxOf k : Nat) (r :: l) = after A (toL ((E k).map fun s => ⟨s.1, (ks.idxOf s.2 : Nat)⟩) r) l := by
      show (if ((ks.idxOf k : Nat) : Int) < 0 then _ else _) = _
      rw [if_neg (by omega), Int.toNat_natCast, hst]
    rw [e]
    by_cases hex : ∃ s ∈ E k, s.1 = r
    · obtain ⟨s, hs, hr⟩ := hex
      rw [ht.1 s hs hr, Built.permits H ho l s.2 (H.to hk hs)]
      refine ⟨fun h => ⟨s, hs, hr, h⟩, ?_⟩
      rintro ⟨x, hx, hxr, hc⟩
      rw [ho k (H.inv.all k hk) s hs x hx (hr.trans hxr.symm)]
      exact hc
    · rw [ht.2 fun s hs e => hex ⟨s, hs, e⟩, after_neg (by decide)]
      refine ⟨fun h => absurd h (by decide), ?_⟩
      rintro ⟨x, hx, hxr, _⟩
      exact absurd ⟨x, hx, hxr⟩ hex
theorem Built.allows {E : Nat → List Stp17} {K : Nat → Prop} {n : Nat} {A : Adv} {ks : List Nat} (H : Built E K n A ks) (ho : ∀ k, K k → ∀ x ∈ E k, ∀ y ∈ E k, x.1 = y.1 → x = y) (l : List Rd) : (0 ≤ after A 0 l ↔ Chain E 0 l) := by
  have := H.permits ho l 0 H.zero.1
  rwa [H.zero.2] at this

/-! ### Well-formed and trimmed -/
/-- What makes a found adversary well-formed. -/
structure GoodE (E : Nat → List Stp17) (K : Nat → Prop) (n : Nat) : Prop where
  ne : ∀ k, K k → E k ≠ []
  chk : ∀ k, K k → ∀ s ∈ E k, rchk s.1 = 0 ∧ s.1.g.n = n
  asc : ∀ k, K k → (E k).Pairwise fun x y => rcmp x.1 y.1 < 0
  grow : ∀ k, K k → ∀ s ∈ E k, ∀ t ∈ E s.2, inside s.1.f t.1.f = true
theorem GoodE.one {E : Nat → List Stp17} {K : Nat → Prop} {n : Nat} (h : GoodE E K n) : ∀ k, K k → ∀ x ∈ E k, ∀ y ∈ E k, x.1 = y.1 → x = y := by
  intro k hk x hx y hy e
  obtain ⟨i, hi, rfl⟩ := List.mem_iff_getElem.1 hx
  obtain ⟨j, hj, rfl⟩ := List.mem_iff_getElem.1 hy
  have hp := List.pairwise_iff_getElem.1 (h.asc k hk)
  rcases Nat.lt_trichotomy i j with h | h | h
  · have h1 := hp i j hi hj h
    rw [e, rcmp_zero'.2 rfl] at h1
    omega
  · subst h; rfl
  · have h1 := hp j i hj hi h
    rw [e, rcmp_zero'.2 rfl] at h1
    omega
theorem Built.mv {E : Nat → List Stp17} {K : Nat → Prop} {n : Nat} {A : Adv} {ks : List Nat} (H : Built E K n A ks) {h i : Nat} (hh : h < ks.length) (hi : i < A.len h) : ∃ (k : Nat) (s : Stp17), k = ks.getD h 0 ∧ k ∈ ks ∧ K k ∧ (E k)[i]? = some s ∧ A.mv h i = ⟨s.1, (ks.idxOf s.2 : Nat)⟩ ∧ s.2 ∈ ks := by
  have hst := H.inv.at_ h hh
  have hi' : i < (E (ks.getD h 0)).length := by
    have : A.len h = (E (ks.getD h 0)).length := by
      show (A.st.getD h []).length = _
      rw [hst, List.length_map]
    omega
  have hkm : ks.getD h 0 ∈ ks := by rw [List.getD_eq_getElem?_getD, List.getElem?_eq_getElem hh]; exact List.getElem_mem hh
  refine ⟨_, (E (ks.getD h 0))[i], rfl, hkm, H.inv.all _ hkm, List.getElem?_eq_getElem hi', ?_, H.to hkm (List.getElem_mem hi')⟩
  show (A.st.getD h []).getD i default = _
  rw [hst, List.getD_eq_getElem?_getD, List.getElem?_map, List.getElem?_eq_getElem hi']
  rfl
theorem mvErrAt_okB {n : Int} {L : Nat} {ms : List Mv} {i : Nat} (h1 : rchk (ms.getD i default).r = 0) (h2 : (ms.getD i default).r.g.n = n) (h3 : 0 < i → rcmp (ms.getD (i - 1) default).r (ms.getD i default).r < 0) (h4 : 0 ≤ (ms.getD i default).to) (h5 : (ms.getD i default).to < L) : mvErrAt n L ms i = 0 := by
  unfold mvErrAt
  rw [if_pos h1, if_pos h2, if_neg (fun h => by have := h3 h.1; omega), if_neg (by omega)]
theorem Built.chk {E : Nat → List Stp17} {K : Nat → Prop} {n : Nat} {A : Adv} {ks : List Nat} (H : Built E K n A ks) (G : GoodE E K n) (h1 : 1 ≤ n) (h5 : n ≤ 5) (hL : ks.length ≤ 256) : achk A = 0 := by
  have hn := H.n
  have hLk : A.L = ks.length := H.inv.sl
  have hpos : 1 ≤ ks.length := by
    have := H.zero.1
    cases ks with
    | nil => cases this
    | cons a l => simp
  have hfe : firstErr (stErr A) A.L = 0 := by
    refine firstErr_zero.2 fun h hh => ?_
    rw [hLk] at hh
    have hst := H.inv.at_ h hh
    have hkm : ks.getD h 0 ∈ ks := by rw [List.getD_eq_getElem?_getD, List.getElem?_eq_getElem hh]; exact List.getElem_mem hh
    have hlen : A.len h = (E (ks.getD h 0)).length := by
      show (A.st.getD h []).length = _
      rw [hst, List.length_map]
    unfold stErr
    rw [if_neg (by rw [hlen]; intro h0; exact G.ne _ (H.inv.all _ hkm) (List.length_eq_zero_iff.1 h0))]
    refine firstErr_zero.2 fun i hi => ?_
    obtain ⟨k, s, rfl, _, hK, hs, hmv, hto⟩ := H.mv hh hi
    have hmem : s ∈ E (ks.getD h 0) := List.mem_of_getElem? hs
    obtain ⟨c1, c2⟩ := G.chk _ hK s hmem
    have hmv' : (A.st.getD h []).getD i default = ⟨s.1, (ks.idxOf s.2 : Nat)⟩ := hmv
    refine mvErrAt_okB (by rw [hmv']; exact c1) (by rw [hmv', hn]; exact c2) (fun h0 => ?_) (by rw [hmv']; show (0 : Int) ≤ ((ks.idxOf s.2 : Nat) : Int); omega) (by
      rw [hmv', hLk]
      show ((ks.idxOf s.2 : Nat) : Int) < _
      have := List.idxOf_lt_length_of_mem hto
      omega)
    obtain ⟨k', s', e', _, _, hs', hmv2, _⟩ := H.mv hh (i := i - 1) (by omega)
    subst e'
    have hmv2' : (A.st.getD h []).getD (i - 1) default = ⟨s'.1, (ks.idxOf s'.2 : Nat)⟩ := hmv2
    rw [hmv', hmv2']
    have hp := List.pairwise_iff_getElem.1 (G.asc _ hK)
    obtain ⟨q1, q2⟩ := List.getElem?_eq_some_iff.1 hs
    obtain ⟨q3, q4⟩ := List.getElem?_eq_some_iff.1 hs'
    have := hp (i - 1) i q3 q1 (by omega)
    rw [q2, q4] at this
    exact this
  have hgr : growsB A = true := by
    refine all3_true fun h hh i hi k hk => ?_
    rw [hLk] at hh
    obtain ⟨key, s, rfl, _, hK, hs, hmv, hto⟩ := H.mv hh hi
    have hmem : s ∈ E (ks.getD h 0) := List.mem_of_getElem? hs
    rw [hmv] at hk ⊢
    have hk' : k < A.len (ks.idxOf s.2) := by rw [Int.toNat_natCast] at hk; exact hk
    obtain ⟨g1, g2⟩ := idx_getD hto
    obtain ⟨key2, t, e2, _, _, ht, hmt, _⟩ := H.mv g1 hk'
    rw [g2] at e2
    subst e2
    rw [Int.toNat_natCast, hmt]
    exact G.grow _ hK s hmem t (List.mem_of_getElem? ht)
  unfold achk
  rw [if_neg (by rw [hn]; omega), if_neg (by rw [hLk]; have := H.inv.few; omega), if_pos hfe, if_pos hgr]
end Go.Proofs.Ytnhgdjiljjpgmaa

namespace Go.Proofs.Ytnhgdjiljjpgmaa

/-! ### Graphs by their rows -/
theorem set_n (g : Gr) (p : Nat) (x : Int) : (g.set p x).n = g.n := by
  match p with
  | 0 => rfl
  | 1 => rfl
  | 2 => rfl
  | 3 => rfl
  | 4 => rfl
  | _ + 5 => rfl
theorem gr_ext5 {a b : Gr} (hn : a.n = b.n) (h : ∀ p, p < 5 → a.h p = b.h p) : a = b := by
  have h0 := h 0 (by decide); have h1 := h 1 (by decide); have h2 := h 2 (by decide); have h3 := h 3 (by decide); have h4 := h 4 (by decide)
  obtain ⟨n, a0, a1, a2, a3, a4⟩ := a
  obtain ⟨m, b0, b1, b2, b3, b4⟩ := b
  cases hn; cases h0; cases h1; cases h2; cases h3; cases h4
  rfl
theorem grow_mem {n p : Nat} {ok : Gr → Nat → Nat → Bool} {l : List Gr} {g : Gr} : g ∈ growG n ok p l ↔ ∃ g0 ∈ l, ∃ s : Nat, s < 2 ^ n ∧ ok g0 p s = true ∧ g = g0.set p (s : Int) := by
  unfold growG
  rw [List.mem_flatMap]
  constructor
  · rintro ⟨g0, h0, h⟩
    obtain ⟨s, hs, rfl⟩ := List.mem_map.1 h
    obtain ⟨h1, h2⟩ := List.mem_filter.1 hs
    exact ⟨g0, h0, s, List.mem_range.1 h1, h2, rfl⟩
  · rintro ⟨g0, h0, s, h1, h2, rfl⟩
    exact ⟨g0, h0, List.mem_map.2 ⟨s, List.mem_filter.2 ⟨List.mem_range.2 h1, h2⟩, rfl⟩⟩
def rowsK (n : Nat) (ok : Gr → Nat → Nat → Bool) (k : Nat) : List Gr := (List.range k).foldl (fun l p => growG n ok p l) [gzn n]
theorem rowsK_succ (n : Nat) (ok : Gr → Nat → Nat → Bool) (k : Nat) : rowsK n ok (k + 1) = growG n ok k (rowsK n ok k) := by
  unfold rowsK; rw [List.range_succ, List.foldl_append]; rfl
theorem gzn_h (n p : Nat) (hp : p < 5) : (gzn n).h p = 0 := by
  obtain rfl | rfl | rfl | rfl | rfl : p = 0 ∨ p = 1 ∨ p = 2 ∨ p = 3 ∨ p = 4 := by omega
  all_goals rfl
/-- The graphs whose rows are permitted by a rule that looks at earlier rows alone. -/
theorem rowsK_mem {n : Nat} {ok : Gr → Nat → Nat → Bool} (hok : ∀ (g g' : Gr) (q s : Nat), q < 5 → (∀ r, r < q → g.h r = g'.h r) → ok g q s = ok g' q s) : ∀ k, k ≤ 5 → ∀ g : Gr,
    (g ∈ rowsK n ok k ↔ g.n = n ∧ (∀ q, q < k → ∃ s : Nat, s < 2 ^ n ∧ g.h q = (s : Int) ∧ ok g q s = true) ∧ ∀ q, k ≤ q → q < 5 → g.h q = 0)
  | 0, _, g => by
    show g ∈ [gzn n] ↔ _
    rw [List.mem_singleton]
    constructor
    · rintro rfl
      exact ⟨rfl, fun q h => absurd h (Nat.not_lt_zero q), fun q _ h => gzn_h n q h⟩
    · rintro ⟨h1, _, h2⟩
      exact gr_ext5 h1 fun p hp => by rw [h2 p (Nat.zero_le _) hp, gzn_h n p hp]
  | k + 1, hk, g => by
    rw [rowsK_succ, grow_mem]
    constructor
    · rintro ⟨g0, h0, s, hs, hks, rfl⟩
      obtain ⟨h1, h2, h3⟩ := (rowsK_mem hok k (by omega) g0).1 h0
      refine ⟨by rw [set_n, h1], fun q hq => ?_, fun q hq h5 => ?_⟩
      · by_cases e : q = k
        · subst e
          refine ⟨s, hs, by rw [set_h _ (by omega) _ _ (by omega), if_pos rfl], ?_⟩
          rw [hok _ g0 q s (by omega) fun r hr => by rw [set_h _ (by omega) _ _ (by omega), if_neg (by omega)]]
          exact hks
        · obtain ⟨t, ht, e1, e2⟩ := h2 q (by omega)
          refine ⟨t, ht, by rw [set_h _ (by omega) _ _ (by omega), if_neg e]; exact e1, ?_⟩
          rw [hok _ g0 q t (by omega) fun r hr => by rw [set_h _ (by omega) _ _ (by omega), if_neg (by omega)]]
          exact e2
      · rw [set_h _ (by omega) _ _ h5, if_neg (by omega)]; exact h3 q (by omega) h5
    · rintro ⟨h1, h2, h3⟩
      obtain ⟨s, hs, e1, e2⟩ := h2 k (by omega)
      refine ⟨g.set k 0, (rowsK_mem hok k (by omega) _).2 ⟨by rw [set_n, h1], fun q hq => ?_, fun q hq h5 => ?_⟩, s, hs, ?_, ?_⟩
      · obtain ⟨t, ht, e3, e4⟩ := h2 q (by omega)
        refine ⟨t, ht, by rw [set_h _ (by omega) _ _ (by omega), if_neg (by omega)]; exact e3, ?_⟩
        rw [hok _ g q t (by omega) fun r hr => by rw [set_h _ (by omega) _ _ (by omega), if_neg (by omega)]]
        exact e4
      · rw [set_h _ (by omega) _ _ h5]
        by_cases e : q = k
        · rw [if_pos e]
        · rw [if_neg e]; exact h3 q (by omega) h5
      · rw [hok _ g k s (by omega) fun r hr => by rw [set_h _ (by omega) _ _ (by omega), if_neg (by omega)]]
        exact e2
      · rw [Gr.set_set, ← e1, Gr.set_own g k (by omega)]
theorem rowsK_nodup {n : Nat} {ok : Gr → Nat → Nat → Bool} (hok : ∀ (g g' : Gr) (q s : Nat), q < 5 → (∀ r, r < q → g.h r = g'.h r) → ok g q s = ok g' q s) : ∀ k, k ≤ 5 → (rowsK n ok k).Nodup
  | 0, _ => by show [gzn n].Nodup; simp
  | k + 1, hk => by
    rw [rowsK_succ]
    unfold growG
    have ih := rowsK_nodup (n := n) hok k (by omega)
    refine List.pairwise_flatMap.2 ⟨fun g hg => ?_, ?_⟩
    · refine List.Pairwise.map _ ?_ (List.Pairwise.filter _ List.nodup_range)
      intro a b hab e
      have := congrArg (fun g => Gr.h g k) e
      simp only [set_h _ (show k < 5 by omega) _ k (by omega), if_pos] at this
      exact hab (by exact_mod_cast this)
    · refine List.Pairwise.imp_of_mem ?_ ih
      intro a b ha hb hab x hx y hy e
      obtain ⟨s, _, rfl⟩ := List.mem_map.1 hx
      obtain ⟨t, _, rfl⟩ := List.mem_map.1 hy
      obtain ⟨a1, _, a3⟩ := (rowsK_mem hok k (by omega) a).1 ha
      obtain ⟨b1, _, b3⟩ := (rowsK_mem hok k (by omega) b).1 hb
      refine hab (gr_ext5 (a1.trans b1.symm) fun p hp => ?_)
      by_cases e1 : p = k
      · subst e1; rw [a3 p (Nat.le_refl _) hp, b3 p (Nat.le_refl _) hp]
      · have := congrArg (fun g => Gr.h g p) e
        simp only [set_h _ (show k < 5 by omega) _ p hp, if_neg e1] at this
        exact this
theorem rowsK_len {n M : Nat} {ok : Gr → Nat → Nat → Bool} (h : ∀ g p, p < n → ((List.range (2 ^ n)).filter (ok g p)).length ≤ M) : ∀ k, k ≤ n → (rowsK n ok k).length ≤ M ^ k
  | 0, _ => by show [gzn n].length ≤ _; simp
  | k + 1, hk => by
    rw [rowsK_succ]
    have ih := rowsK_len h k (by omega)
    have : ∀ l : List Gr, (growG n ok k l).length ≤ l.length * M := by
      intro l
      induction l with
      | nil => simp [growG]
      | cons g l ihl =>
        unfold growG at ihl ⊢
        rw [List.flatMap_cons, List.length_append, List.length_map, List.length_cons, Nat.succ_mul]
        have := h g k (by omega)
        omega
    exact Nat.le_trans (this _) (by rw [Nat.pow_succ]; exact Nat.mul_le_mul_right _ ih)
theorem rowsG_K (n : Nat) (ok : Gr → Nat → Nat → Bool) : rowsG n ok = rowsK n ok n := rfl

/-! ### The models of faulty processes -/
/-- The graphs of a round. -/
structure RowG (n : Nat) (P : Nat → Nat → Bool) (g : Gr) : Prop where
  sz : g.n = n
  row : ∀ q, q < n → ∃ s : Nat, s < 2 ^ n ∧ g.h q = (s : Int) ∧ P q s = true
  out : ∀ q, n ≤ q → q < 5 → g.h q = 0
theorem graphsB_mem {r : Rul} {b o : Nat} (h5 : r.n ≤ 5) {g : Gr} : g ∈ graphsB r b o ↔ RowG r.n (rowB r b o) g ∧ fitsB r b o g = true := by
  unfold graphsB
  rw [List.mem_filter, rowsG_K, rowsK_mem (fun _ _ _ _ _ _ => rfl) r.n h5]
  exact ⟨fun ⟨⟨h1, h2, h3⟩, h4⟩ => ⟨⟨h1, h2, h3⟩, h4⟩, fun ⟨⟨h1, h2, h3⟩, h4⟩ => ⟨⟨h1, h2, h3⟩, h4⟩⟩
/-- The steps of a key. -/
theorem edgesF_mem {op n f k : Nat} (hop : 1 ≤ op ∧ op ≤ 4) (h5 : n ≤ 5) {s : Stp17} : s ∈ edgesB ⟨op, n, f⟩ k ↔ ∃ (g : Gr) (o : Nat), s = (⟨g, (o : Nat)⟩, o) ∧ o < 2 ^ n ∧ k &&& o = k ∧ sizeN o ≤ f ∧ RowG n (rowB ⟨op, n, f⟩ k o) g ∧ fitsB ⟨op, n, f⟩ k o g = true := by
  unfold edgesB
  rw [if_neg (show ¬ op = 5 by omega), sortR_mem]
  unfold faultsB
  rw [List.mem_flatMap]
  constructor
  · rintro ⟨o, ho, hs⟩
    split at hs
    · next hc =>
      rw [Bool.and_eq_true, beq_iff_eq, decide_eq_true_eq] at hc
      obtain ⟨g, hg, rfl⟩ := List.mem_map.1 hs
      exact ⟨g, o, rfl, List.mem_range.1 ho, hc.1, hc.2, ((graphsB_mem (r := ⟨op, n, f⟩) h5).1 hg).1, ((graphsB_mem (r := ⟨op, n, f⟩) h5).1 hg).2⟩
    · cases hs
  · rintro ⟨g, o, rfl, h1, h2, h3, h4, h6⟩
    refine ⟨o, List.mem_range.2 h1, ?_⟩
    rw [if_pos (by rw [Bool.and_eq_true, beq_iff_eq, decide_eq_true_eq]; exact ⟨h2, h3⟩)]
    exact List.mem_map.2 ⟨g, (graphsB_mem (r := ⟨op, n, f⟩) h5).2 ⟨h4, h6⟩, rfl⟩
theorem faults_nodup {r : Rul} {b : Nat} (h5 : r.n ≤ 5) : (faultsB r b).Nodup := by
  unfold faultsB
  refine List.pairwise_flatMap.2 ⟨fun o _ => ?_, ?_⟩
  · split
    · refine List.Pairwise.map _ ?_ (List.Pairwise.filter _ (rowsK_nodup (fun _ _ _ _ _ _ => rfl) r.n h5))
      intro a b hab e
      injection e with e _
      injection e with e _
      exact hab e
    · exact List.Pairwise.nil
  · refine List.Pairwise.imp ?_ List.nodup_range
    intro a b hab x hx y hy e
    split at hx
    · split at hy
      · obtain ⟨g, _, rfl⟩ := List.mem_map.1 hx
        obtain ⟨g', _, rfl⟩ := List.mem_map.1 hy
        injection e with _ e
        exact hab e
      · cases hy
    · cases hx
theorem asc_ofR {l : List Stp17} (hn : l.Nodup) (ho : ∀ x ∈ l, ∀ y ∈ l, x.1 = y.1 → x = y) : (sortR l).Pairwise fun x y => rcmp x.1 y.1 < 0 := by
  have h1 := sortR_pw l
  have h2 : (sortR l).Pairwise (· ≠ ·) := (sortR_perm l).nodup_iff.2 hn
  refine List.Pairwise.imp_of_mem ?_ (h1.and h2)
  intro a b ha hb ⟨hab, hne⟩
  have : rcmp a.1 b.1 ≠ 0 := fun e => hne (ho a (sortR_mem.1 ha) b (sortR_mem.1 hb) (rcmp_zero'.1 e))
  unfold Le17 at hab
  omega
theorem has_own {s p : Nat} (_hp : p < 5) (h : bit s p = true) : has (s : Int) p = true := by rw [has_nat]; exact h
theorem rowG_chk {n : Nat} {P : Nat → Nat → Bool} (h1 : 1 ≤ n) (h5 : n ≤ 5) (hP : ∀ q s, P q s = true → bit s q = true) {g : Gr} (hg : RowG n P g) : gchk g = 0 := by
  have hn := hg.sz
  refine gchk_ok (by omega) fun p hp => ?_
  unfold gchkAt
  rw [hn, show (n : Int).toNat = n from rfl]
  rcases Nat.lt_or_ge p n with h | h
  · obtain ⟨s, hs, e1, e2⟩ := hg.row p h
    rw [if_neg (by omega), e1, if_neg, if_pos (has_own hp (hP p s e2))]
    rw [show ((2 : Int) ^ n) = ((2 ^ n : Nat) : Int) by simp]
    generalize 2 ^ n = m at hs ⊢
    omega
  · rw [if_pos (by omega), hg.out p h hp]; rfl
theorem rowB_own {r : Rul} {b o q s : Nat} (h : rowB r b o q s = true) : bit s q = true := by
  unfold rowB at h
  rw [Bool.and_eq_true] at h
  exact h.1
theorem pchk_okN {n o : Nat} (h1 : 1 ≤ n) (h5 : n ≤ 5) (ho : o < 2 ^ n) : pchk n (o : Int) = 0 := by
  unfold pchk
  rw [if_neg (by omega), if_neg]
  rw [show (n : Int).toNat = n from rfl, show ((2 : Int) ^ n) = ((2 ^ n : Nat) : Int) by simp]
  generalize 2 ^ n = m at ho ⊢
  omega
/-- What keys the models have. -/
def KeyF (n f k : Nat) : Prop := k < 2 ^ n ∧ sizeN k ≤ f
theorem keyF_next {op n f : Nat} (hop : 1 ≤ op ∧ op ≤ 4) : ∀ k, KeyF n f k → ∀ s ∈ edgesB ⟨op, n, f⟩ k, KeyF n f s.2 := fun _ _ _ hs => edges_mem hop hs
theorem keyF_zero (n f : Nat) : KeyF n f 0 := ⟨Nat.two_pow_pos _, by have : sizeN 0 = 0 := by decide
                                                                     omega⟩
theorem edges_ne {op n f k : Nat} (hop : 1 ≤ op ∧ op ≤ 4) (h1 : 1 ≤ n) (h4 : n ≤ 4) (hk : KeyF n f k) : edgesB ⟨op, n, f⟩ k ≠ [] := by
  rw [← edges_eq hop h1 h4 hk.1]
  have hne : graphsM (mdlOf ⟨op, n, f⟩) k k ≠ [] := by
    obtain rfl | rfl | rfl | rfl : op = 1 ∨ op = 2 ∨ op = 3 ∨ op = 4 := by omega
    · exact crash_ne n f k
    · exact send_ne n f k
    · exact recv_ne n f k
    · exact omit_ne n f k
  obtain ⟨g, l, hg⟩ := List.exists_cons_of_ne_nil hne
  have : ((⟨g, (k ||| 0 : Nat)⟩, k ||| 0) : Stp17) ∈ stepsM (mdlOf ⟨op, n, f⟩) k := by
    refine List.mem_flatMap.2 ⟨0, zero_sub _, ?_⟩
    rw [Nat.or_zero, if_neg (by rw [(mdlOf_nf (n := n) (f := f) hop).2]; have := hk.2; omega), hg]
    simp
  intro h
  have h2 := sortR_mem.2 this
  rw [h] at h2
  cases h2
theorem inside_table17 : ((List.range 32).all fun a => (List.range 32).all fun b => decide (inside ((a : Nat) : Int) ((b : Nat) : Int) = (a &&& b == a))) = true := by decide +kernel
theorem inside_n17 {a b : Nat} (ha : a < 32) (hb : b < 32) : inside (a : Int) (b : Int) = (a &&& b == a) := by
  have h := inside_table17
  rw [List.all_eq_true] at h
  have h := h a (List.mem_range.2 ha)
  rw [List.all_eq_true] at h
  exact of_decide_eq_true (h b (List.mem_range.2 hb))
theorem faults_good {op n f : Nat} (hop : 1 ≤ op ∧ op ≤ 4) (h1 : 1 ≤ n) (h4 : n ≤ 4) : GoodE (edgesB ⟨op, n, f⟩) (KeyF n f) n where
  ne := fun k hk => edges_ne hop h1 h4 hk
  chk := fun k _ s hs => by
    obtain ⟨g, o, rfl, ho, _, _, hg, _⟩ := (edgesF_mem hop (by omega)).1 hs
    have hc := rowG_chk h1 (by omega) (fun q s h => rowB_own h) hg
    refine ⟨?_, hg.sz⟩
    unfold rchk
    rw [if_pos hc]
    show pchk g.n (o : Int) = 0
    rw [hg.sz]
    exact pchk_okN h1 (by omega) ho
  asc := fun k _ => by
    unfold edgesB
    rw [if_neg (show ¬ op = 5 by omega)]
    refine asc_ofR (faults_nodup (r := ⟨op, n, f⟩) (show n ≤ 5 by omega)) fun x hx y hy e => ?_
    have key : ∀ s ∈ faultsB ⟨op, n, f⟩ k, s.1.f = (s.2 : Int) := fun s hs => by
      have : s ∈ edgesB ⟨op, n, f⟩ k := by
        unfold edgesB
        rw [if_neg (show ¬ op = 5 by omega), sortR_mem]; exact hs
      obtain ⟨g, o, rfl, _⟩ := (edgesF_mem hop (by omega)).1 this
      rfl
    have h1 := key x hx
    have h2 := key y hy
    rw [e] at h1
    exact Prod.ext e (by omega)
  grow := fun k _ s hs t ht => by
    obtain ⟨g, o, rfl, ho, _, _, _, _⟩ := (edgesF_mem hop (by omega)).1 hs
    obtain ⟨g', o', rfl, ho', hoo, _, _, _⟩ := (edgesF_mem hop (by omega)).1 ht
    have := pow32_le (show n ≤ 5 by omega)
    show inside (o : Int) (o' : Int) = true
    rw [inside_n17 (by omega) (by omega), beq_iff_eq]
    exact hoo
theorem keyF_few {n f : Nat} (l : List Nat) (h1 : l.Nodup) (h2 : ∀ k ∈ l, KeyF n f k) : l.length ≤ 2 ^ n := nodup_few (2 ^ n) l h1 fun k hk => (h2 k hk).1
theorem own_few : ((List.range 3).all fun n => (List.range (n + 1)).all fun p => decide (((List.range (2 ^ (n + 1))).filter fun s => s.testBit p).length ≤ 4)) = true := by decide +kernel
theorem filter_le {α : Type} {p q : α → Bool} (h : ∀ a, p a = true → q a = true) : ∀ l : List α, (l.filter p).length ≤ (l.filter q).length
  | [] => by simp
  | a :: l => by
    have ih := filter_le h l
    rw [List.filter_cons, List.filter_cons]
    by_cases hp : p a = true
    · rw [if_pos hp, if_pos (h a hp)]; simpa using ih
    · rw [if_neg hp]
      split
      · rw [List.length_cons]; omega
      · exact ih
theorem edges_len {op n f k : Nat} (hop : 1 ≤ op ∧ op ≤ 4) (h1 : 1 ≤ n) (h3 : n ≤ 3) : (edgesB ⟨op, n, f⟩ k).length ≤ 512 := by
  unfold edgesB
  rw [if_neg (show ¬ op = 5 by omega), (sortR_perm _).length_eq]
  have hg : ∀ o, (graphsB ⟨op, n, f⟩ k o).length ≤ 64 := fun o => by
    refine Nat.le_trans (List.length_filter_le _ _) ?_
    refine Nat.le_trans (rowsK_len (M := 4) (fun g p hp => ?_) n (Nat.le_refl _)) (Nat.pow_le_pow_right (n := 4) (by decide) h3)
    refine Nat.le_trans (filter_le (q := fun s => s.testBit p) (fun s h => rowB_own h) _) ?_
    have t := own_few
    rw [List.all_eq_true] at t
    have t := t (n - 1) (List.mem_range.2 (by omega))
    rw [List.all_eq_true, show n - 1 + 1 = n by omega] at t
    exact of_decide_eq_true (t p (List.mem_range.2 hp))
  have hp : 2 ^ n ≤ 8 := Nat.pow_le_pow_right (n := 2) (by decide) h3
  have : ∀ l : List Nat, (l.flatMap fun o => if (k &&& o == k) && decide (sizeN o ≤ f) then (graphsB ⟨op, n, f⟩ k o).map fun g => ((⟨g, (o : Nat)⟩ : Rd), o) else []).length ≤ l.length * 64 := by
    intro l
    induction l with
    | nil => simp
    | cons o l ih =>
      rw [List.flatMap_cons, List.length_append, List.length_cons, Nat.succ_mul]
      have h2 : (if (k &&& o == k) && decide (sizeN o ≤ f) then (graphsB ⟨op, n, f⟩ k o).map fun g => ((⟨g, (o : Nat)⟩ : Rd), o) else []).length ≤ 64 := by
        split
        · rw [List.length_map]; exact hg o
        · simp
      omega
  refine Nat.le_trans (this _) ?_
  rw [List.length_range]
  show 2 ^ n * 64 ≤ 512
  omega
/-- The adversaries of few processes are found whole. -/
theorem faults_zero {op n f : Nat} (hop : 1 ≤ op ∧ op ≤ 4) (h1 : 1 ≤ n) (h3 : n ≤ 3) : (buildA (edgesB ⟨op, n, f⟩) n).2 = 0 := by
  have hp : 2 ^ n ≤ 8 := Nat.pow_le_pow_right (n := 2) (by decide) h3
  refine buildA_zero (K := KeyF n f) (M := 512) (L := 8) (keyF_zero n f) (keyF_next hop) (fun k _ => edges_len hop h1 h3) (fun l a b => Nat.le_trans (keyF_few l a b) hp) (by decide) (by decide)
/-- What is known of such an adversary. -/
structure FaultA (op n f : Nat) (A : Adv) : Prop where
  eq : mdlA op n f = (A, 0)
  sz : A.n = n
  chk : achk A = 0
  found : ∃ ks, Built (edgesB ⟨op, n, f⟩) (KeyF n f) n A ks
  mv : movesN A ≤ 4096
  allows : ∀ l, (0 ≤ after A 0 l ↔ Chain (edgesB ⟨op, n, f⟩) 0 l)
theorem faultA {op n f : Nat} (hop : 1 ≤ op ∧ op ≤ 4) (h1 : 1 ≤ n) (h3 : n ≤ 3) (hf : f ≤ n) : ∃ A, FaultA op n f A := by
  have hz := faults_zero (f := f) hop h1 h3
  obtain ⟨ks, hb⟩ := buildA_built (keyF_zero n f) (keyF_next hop) hz
  have hG := faults_good (f := f) hop h1 (show n ≤ 4 by omega)
  have hp : 2 ^ n ≤ 8 := Nat.pow_le_pow_right (n := 2) (by decide) h3
  have hL : ks.length ≤ 256 := Nat.le_trans (keyF_few ks hb.inv.nd hb.inv.all) (by omega)
  have hc := hb.chk hG h1 (by omega) hL
  refine ⟨(buildA (edgesB ⟨op, n, f⟩) n).1, ?_, hb.n, hc, ⟨ks, hb⟩, hb.inv.few, fun l => hb.allows hG.one l⟩
  rw [mdlA_eq hop (by omega)]
  unfold refA
  rw [if_neg (by omega), Int.toNat_natCast, Int.toNat_natCast]
  exact Prod.ext rfl hz
/-- A greater number permits more. -/
theorem chain_more {op n f f' : Nat} (hop : 1 ≤ op ∧ op ≤ 4) (h5 : n ≤ 5) (hf : f ≤ f') (l : List Rd) (h : Chain (edgesB ⟨op, n, f⟩) 0 l) : Chain (edgesB ⟨op, n, f'⟩) 0 l := by
  refine Chain.mono (K := KeyF n f) (keyF_next hop) (fun k hk s hs => ?_) l 0 (keyF_zero n f) h
  obtain ⟨g, o, rfl, h1, h2, h3, h4, h6⟩ := (edgesF_mem hop h5).1 hs
  exact (edgesF_mem hop h5).2 ⟨g, o, rfl, h1, h2, Nat.le_trans h3 hf, h4, h6⟩
end Go.Proofs.Ytnhgdjiljjpgmaa

namespace Go.Proofs.Ytnhgdjiljjpgmaa

/-- Process p hears process q. -/
def hb (g : Gr) (p q : Nat) : Bool := bit (g.h p).toNat q
/-- A round of a model, bit by bit: k are the processes that were faulty before. -/
structure StepF (op n f k : Nat) (r : Rd) : Prop where
  sub : ∀ q, q < n → bit k q = true → bit r.f.toNat q = true
  few : sizeN r.f.toNat ≤ f
  row : ∀ p, p < n → ∀ q, q < n → q ≠ p → badQ ⟨op, n, f⟩ k r.f.toNat p q (hb r.g p q) = false
  fit : ∀ x, x < n → bit r.f.toNat x = true → bit k x = false → showsB ⟨op, n, f⟩ k r.g x = true
/-- What a well-formed round of n processes is. -/
structure RdN (n : Nat) (r : Rd) : Prop where
  wf : Wf r.g n
  f : ∃ o : Nat, r.f = (o : Int) ∧ o < 2 ^ n
theorem rdN_of {n : Nat} {r : Rd} (h : rchk r = 0) (hn : r.g.n = n) : RdN n r := by
  obtain ⟨h1, h2⟩ := rchk_zero h
  obtain ⟨m, hm⟩ := wf_of h1
  have : m = n := by have := hm.n_eq; omega
  subst this
  obtain ⟨_, _, h3, h4⟩ := pchk_zero h2
  refine ⟨hm, r.f.toNat, by omega, ?_⟩
  rw [hm.toNat, show ((2 : Int) ^ m) = ((2 ^ m : Nat) : Int) by simp] at h4
  generalize 2 ^ m = M at h4 ⊢
  omega
theorem bit_big {n s q : Nat} (hs : s < 2 ^ n) (hq : n ≤ q) : bit s q = false := Nat.testBit_lt_two_pow (Nat.lt_of_lt_of_le hs (Nat.pow_le_pow_right (by decide) hq))
theorem and_iff {n k o : Nat} (hk : k < 2 ^ n) : k &&& o = k ↔ ∀ q, q < n → bit k q = true → bit o q = true := by
  constructor
  · intro h q _ hb
    have : (k &&& o).testBit q = true := by rw [h]; exact hb
    rw [Nat.testBit_and, Bool.and_eq_true] at this
    exact this.2
  · intro h
    refine Nat.eq_of_testBit_eq fun q => ?_
    rw [Nat.testBit_and]
    by_cases hq : q < n
    · cases hb : k.testBit q with
      | false => rfl
      | true => rw [show o.testBit q = true from h q hq hb]; rfl
    · rw [show k.testBit q = false from bit_big hk (by omega)]; rfl
theorem edgesF_key {op n f k : Nat} (hop : 1 ≤ op ∧ op ≤ 4) (h5 : n ≤ 5) {s : Stp17} (hs : s ∈ edgesB ⟨op, n, f⟩ k) : s.2 = s.1.f.toNat := by
  obtain ⟨g, o, rfl, _⟩ := (edgesF_mem hop h5).1 hs
  rfl
theorem step_iff {op n f k : Nat} (hop : 1 ≤ op ∧ op ≤ 4) (h5 : n ≤ 5) (hk : k < 2 ^ n) {r : Rd} (hr : RdN n r) : (∃ s ∈ edgesB ⟨op, n, f⟩ k, s.1 = r) ↔ StepF op n f k r := by
  obtain ⟨o, ho, ho2⟩ := hr.f
  have hoN : r.f.toNat = o := by rw [ho]; rfl
  constructor
  · rintro ⟨s, hs, rfl⟩
    obtain ⟨g, o', rfl, h1, h2, h3, h4, h6⟩ := (edgesF_mem hop h5).1 hs
    have e : ((o' : Nat) : Int).toNat = o' := rfl
    refine ⟨fun q hq hb => ?_, ?_, fun p hp q hq hne => ?_, fun x hx hox hkx => ?_⟩
    · show bit ((o' : Nat) : Int).toNat q = true
      rw [e]; exact (and_iff hk).1 h2 q hq hb
    · exact h3
    · obtain ⟨t, _, e1, e2⟩ := h4.row p hp
      unfold rowB at e2
      rw [Bool.and_eq_true, List.all_eq_true] at e2
      have := e2.2 q (List.mem_range.2 hq)
      rw [show (q == p) = false by simpa using hne, Bool.false_or, Bool.not_eq_true'] at this
      show badQ ⟨op, n, f⟩ k o' p q (bit (g.h p).toNat q) = false
      rw [e1]; exact this
    · unfold fitsB at h6
      rw [List.all_eq_true] at h6
      have := h6 x (List.mem_range.2 hx)
      have hox : bit o' x = true := hox
      rw [hox, hkx] at this
      simpa using this
  · intro h
    obtain ⟨g, fo⟩ := r
    have hfo : fo = (o : Int) := ho
    subst hfo
    refine ⟨(⟨g, (o : Nat)⟩, o), (edgesF_mem hop h5).2 ⟨g, o, rfl, ho2, (and_iff hk).2 h.sub, h.few, ⟨hr.wf.n_eq, fun q hq => ⟨g.r q, hr.wf.lt q hq, hr.wf.row q, ?_⟩, fun q hq _ => by rw [hr.wf.row q, hr.wf.out q hq]; rfl⟩, ?_⟩, rfl⟩
    · unfold rowB
      rw [Bool.and_eq_true, List.all_eq_true]
      refine ⟨hr.wf.own q hq, fun y hy => ?_⟩
      by_cases e : y = q
      · subst e; simp
      · rw [show (y == q) = false by simpa using e, Bool.false_or, Bool.not_eq_true']
        exact h.row q hq y (List.mem_range.1 hy) e
    · unfold fitsB
      rw [List.all_eq_true]
      intro x hx
      have := h.fit x (List.mem_range.1 hx)
      cases h1 : bit o x with
      | false => rfl
      | true =>
        cases h2 : bit k x with
        | true => rfl
        | false => rw [this h1 h2]; rfl
/-- Rounds that follow one another, bit by bit. -/
def ChainF (op n f : Nat) : Nat → List Rd → Prop
  | _, [] => True
  | k, r :: l => StepF op n f k r ∧ ChainF op n f r.f.toNat l
theorem chain_iff {op n f : Nat} (hop : 1 ≤ op ∧ op ≤ 4) (h5 : n ≤ 5) : ∀ (l : List Rd) (k : Nat), k < 2 ^ n → (∀ r ∈ l, RdN n r) → (Chain (edgesB ⟨op, n, f⟩) k l ↔ ChainF op n f k l)
  | [], _, _, _ => Iff.rfl
  | r :: l, k, hk, hl => by
    have hr := hl r (List.mem_cons_self ..)
    obtain ⟨o, ho, ho2⟩ := hr.f
    have hlt : r.f.toNat < 2 ^ n := by rw [ho]; exact ho2
    have ih := chain_iff (f := f) hop h5 l r.f.toNat hlt fun x hx => hl x (List.mem_cons_of_mem _ hx)
    show (∃ s ∈ edgesB ⟨op, n, f⟩ k, s.1 = r ∧ Chain (edgesB ⟨op, n, f⟩) s.2 l) ↔ _ ∧ _
    rw [← ih, ← step_iff hop h5 hk hr]
    constructor
    · rintro ⟨s, hs, rfl, hc⟩
      rw [edgesF_key hop h5 hs] at hc
      exact ⟨⟨s, hs, rfl⟩, hc⟩
    · rintro ⟨⟨s, hs, rfl⟩, hc⟩
      exact ⟨s, hs, rfl, by rw [edgesF_key hop h5 hs]; exact hc⟩
theorem ChainF.imp {op op' n f f' : Nat} (h : ∀ k r, RdN n r → k < 2 ^ n → StepF op n f k r → StepF op' n f' k r) : ∀ (l : List Rd) (k : Nat), k < 2 ^ n → (∀ r ∈ l, RdN n r) → ChainF op n f k l → ChainF op' n f' k l
  | [], _, _, _, _ => trivial
  | r :: l, k, hk, hl, ⟨h1, h2⟩ => by
    have hr := hl r (List.mem_cons_self ..)
    obtain ⟨o, ho, ho2⟩ := hr.f
    exact ⟨h k r hr hk h1, ChainF.imp h l _ (by rw [ho]; exact ho2) (fun x hx => hl x (List.mem_cons_of_mem _ hx)) h2⟩
/-! Which models permit the rounds of others -/
theorem size_few : ((List.range 32).all fun o => (List.range 6).all fun n => decide (n ≤ sizeN o) || (List.range n).any fun y => !o.testBit y) = true := by decide +kernel
theorem size_free {o n : Nat} (ho : o < 32) (hn : n ≤ 5) (h : sizeN o < n) : ∃ y, y < n ∧ bit o y = false := by
  have t := size_few
  rw [List.all_eq_true] at t
  have t := t o (List.mem_range.2 ho)
  rw [List.all_eq_true] at t
  have t := t n (List.mem_range.2 (by omega))
  rw [show decide (n ≤ sizeN o) = false from decide_eq_false (by omega), Bool.false_or, List.any_eq_true] at t
  obtain ⟨y, hy, e⟩ := t
  exact ⟨y, List.mem_range.1 hy, by simpa [bit] using e⟩
theorem size_one_table : ((List.range 32).all fun o => (List.range 5).all fun x => (List.range 5).all fun y => decide (1 < sizeN o) || !o.testBit x || !o.testBit y || x == y) = true := by decide +kernel
theorem size_one {o x y : Nat} (ho : o < 32) (hx : x < 5) (hy : y < 5) (h : sizeN o ≤ 1) (h1 : bit o x = true) (h2 : bit o y = true) : x = y := by
  have t := size_one_table
  rw [List.all_eq_true] at t
  have t := t o (List.mem_range.2 ho)
  rw [List.all_eq_true] at t
  have t := t x (List.mem_range.2 hx)
  rw [List.all_eq_true] at t
  have t := t y (List.mem_range.2 hy)
  rw [show decide (1 < sizeN o) = false from decide_eq_false (by omega), show o.testBit x = true from h1, show o.testBit y = true from h2] at t
  simpa using t
theorem shows_omit {n f k : Nat} {g : Gr} {x : Nat} : showsB ⟨4, n, f⟩ k g x = true ↔ ∃ y, y < n ∧ y ≠ x ∧ (hb g y x = false ∨ hb g x y = false) ∧ bit k y = false := by
  unfold showsB
  simp only [show ((4 : Nat) == 2) = false from rfl, show ((4 : Nat) == 3) = false from rfl, show ((4 : Nat) == 4) = true from rfl, show ((4 : Nat) == 1) = false from rfl, Bool.false_and, Bool.false_or, Bool.true_and, Bool.or_false, List.any_eq_true, Bool.and_eq_true, Bool.or_eq_true, Bool.not_eq_true', bne_iff_ne]
  constructor
  · rintro ⟨y, hy, h1, h2, h3⟩
    exact ⟨y, List.mem_range.1 hy, h1, h2, h3⟩
  · rintro ⟨y, hy, h1, h2, h3⟩
    exact ⟨y, List.mem_range.2 hy, h1, h2, h3⟩
theorem shows_send {n f k : Nat} {g : Gr} {x : Nat} : showsB ⟨2, n, f⟩ k g x = true ↔ ∃ y, y < n ∧ y ≠ x ∧ hb g y x = false := by
  unfold showsB
  simp only [show ((2 : Nat) == 2) = true from rfl, show ((2 : Nat) == 3) = false from rfl, show ((2 : Nat) == 4) = false from rfl, show ((2 : Nat) == 1) = false from rfl, Bool.false_and, Bool.true_and, Bool.or_false, List.any_eq_true, Bool.and_eq_true, Bool.not_eq_true', bne_iff_ne]
  constructor
  · rintro ⟨y, hy, h1, h2⟩
    exact ⟨y, List.mem_range.1 hy, h1, h2⟩
  · rintro ⟨y, hy, h1, h2⟩
    exact ⟨y, List.mem_range.2 hy, h1, h2⟩
theorem shows_recv {n f k : Nat} {g : Gr} {x : Nat} : showsB ⟨3, n, f⟩ k g x = true ↔ ∃ y, y < n ∧ y ≠ x ∧ hb g x y = false := by
  unfold showsB
  simp only [show ((3 : Nat) == 2) = false from rfl, show ((3 : Nat) == 3) = true from rfl, show ((3 : Nat) == 4) = false from rfl, show ((3 : Nat) == 1) = false from rfl, Bool.false_and, Bool.false_or, Bool.true_and, Bool.or_false, List.any_eq_true, Bool.and_eq_true, Bool.not_eq_true', bne_iff_ne]
  constructor
  · rintro ⟨y, hy, h1, h2⟩
    exact ⟨y, List.mem_range.1 hy, h1, h2⟩
  · rintro ⟨y, hy, h1, h2⟩
    exact ⟨y, List.mem_range.2 hy, h1, h2⟩
theorem crash_omit {n f k : Nat} {r : Rd} (h5 : n ≤ 5) (hf : f < n) (hr : RdN n r) (h : StepF 1 n f k r) : StepF 4 n f k r := by
  obtain ⟨o, ho, ho2⟩ := hr.f
  have h32 := pow32_le h5
  have hoN : r.f.toNat = o := by rw [ho]; rfl
  refine ⟨h.sub, h.few, fun p hp q hq hne => ?_, fun x hx hox hkx => ?_⟩
  · have := h.row p hp q hq hne
    revert this
    simp only [badQ]
    simp only [show ((4 : Nat) = 1) = False by simp, show ((4 : Nat) = 2) = False by simp, show ((4 : Nat) = 3) = False by simp, if_true, if_false]
    cases bit r.f.toNat p <;> cases bit r.f.toNat q <;> cases bit k q <;> cases hb r.g p q <;> decide
  · have hfew := h.few
    rw [hoN] at hfew
    obtain ⟨y, hy, hyo⟩ := size_free (o := o) (by omega) h5 (by omega)
    rw [← hoN] at hyo
    have hne : y ≠ x := fun e => by rw [e, hox] at hyo; cases hyo
    refine shows_omit.2 ⟨y, hy, hne, .inr ?_, ?_⟩
    · have := h.row x hx y hy hne
      revert this
      simp only [badQ, if_true, hox]
      cases hb r.g x y <;> simp
    · cases hky : bit k y with
      | false => rfl
      | true => rw [h.sub y hy hky] at hyo; cases hyo
theorem single_omit {op n k : Nat} {r : Rd} (hop : op = 2 ∨ op = 3) (h5 : n ≤ 5) (hr : RdN n r) (h : StepF op n 1 k r) : StepF 4 n 1 k r := by
  obtain ⟨o, ho, ho2⟩ := hr.f
  have h32 := pow32_le h5
  have hoN : r.f.toNat = o := by rw [ho]; rfl
  refine ⟨h.sub, h.few, fun p hp q hq hne => ?_, fun x hx hox hkx => ?_⟩
  · have := h.row p hp q hq hne
    revert this
    simp only [badQ]
    rcases hop with rfl | rfl
    all_goals
      simp only [show ((2 : Nat) = 1) = False by simp, show ((3 : Nat) = 1) = False by simp, show ((3 : Nat) = 2) = False by simp, show ((4 : Nat) = 1) = False by simp, show ((4 : Nat) = 2) = False by simp, show ((4 : Nat) = 3) = False by simp, if_true, if_false]
      cases bit r.f.toNat p <;> cases bit r.f.toNat q <;> cases hb r.g p q <;> decide
  · have hky : ∀ y, y < n → y ≠ x → bit k y = false := fun y hy hne => by
      cases hb : bit k y with
      | false => rfl
      | true =>
        exfalso
        have h1 := h.sub y hy hb
        have h2 := h.few
        rw [hoN] at h1 h2 hox
        exact hne (size_one (by omega) (by omega) (by omega) h2 h1 hox)
    have hs := h.fit x hx hox hkx
    rcases hop with rfl | rfl
    · obtain ⟨y, hy, hne, hm⟩ := shows_send.1 hs
      exact shows_omit.2 ⟨y, hy, hne, .inl hm, hky y hy hne⟩
    · obtain ⟨y, hy, hne, hm⟩ := shows_recv.1 hs
      exact shows_omit.2 ⟨y, hy, hne, .inr hm, hky y hy hne⟩
/-! Renaming -/
/-- A renaming of n processes. -/
structure Ren (n : Nat) (π : Nat → Nat) : Prop where
  lt : ∀ q, q < n → π q < n
  inj : ∀ p q, p < n → q < n → π p = π q → p = q
  sur : ∀ q, q < n → ∃ p, p < n ∧ π p = q
/-- Renamed sets and rounds. -/
structure RenR (n : Nat) (π : Nat → Nat) (k k' : Nat) (r r' : Rd) : Prop where
  k : ∀ q, q < n → bit k' (π q) = bit k q
  f : ∀ q, q < n → bit r'.f.toNat (π q) = bit r.f.toNat q
  g : ∀ p q, p < n → q < n → hb r'.g (π p) (π q) = hb r.g p q
theorem size_range {n o : Nat} (h5 : n ≤ 5) (ho : o < 2 ^ n) : sizeN o = (List.range n).countP fun q => bit o q := by
  unfold sizeN
  have e : List.range 5 = List.range n ++ (List.range (5 - n)).map (n + ·) := by
    rw [← List.range_add, show n + (5 - n) = 5 by omega]
  rw [e, List.countP_append]
  have h0 : ((List.range (5 - n)).map (n + ·)).countP (fun p => o.testBit p) = 0 := by
    rw [List.countP_eq_zero]
    intro q hq
    obtain ⟨j, _, rfl⟩ := List.mem_map.1 hq
    have := bit_big ho (show n ≤ n + j by omega)
    unfold bit at this
    simp [this]
  rw [h0]; rfl
theorem ren_perm {n : Nat} {π : Nat → Nat} (h : Ren n π) : ((List.range n).map π).Perm (List.range n) := by
  refine (List.perm_ext_iff_of_nodup ?_ List.nodup_range).2 fun q => ?_
  · refine List.pairwise_map.2 (List.Pairwise.imp_of_mem ?_ List.nodup_range)
    intro a b ha hb hab e
    exact hab (h.inj a b (List.mem_range.1 ha) (List.mem_range.1 hb) e)
  · rw [List.mem_map, List.mem_range]
    constructor
    · rintro ⟨p, hp, rfl⟩
      exact h.lt p (List.mem_range.1 hp)
    · intro hq
      obtain ⟨p, hp, e⟩ := h.sur q hq
      exact ⟨p, List.mem_range.2 hp, e⟩
theorem size_ren {n o o' : Nat} {π : Nat → Nat} (h5 : n ≤ 5) (h : Ren n π) (ho : o < 2 ^ n) (ho' : o' < 2 ^ n) (hb : ∀ q, q < n → bit o' (π q) = bit o q) : sizeN o' = sizeN o := by
  rw [size_range h5 ho, size_range h5 ho', ← (ren_perm h).countP_eq, List.countP_map]
  refine List.countP_congr fun q hq => ?_
  show bit o' (π q) = true ↔ bit o q = true
  rw [hb q (List.mem_range.1 hq)]
theorem shows_any {op n f k : Nat} {g : Gr} {x : Nat} : showsB ⟨op, n, f⟩ k g x = true ↔ op = 1 ∨ ∃ y, y < n ∧ y ≠ x ∧ ((op = 2 ∧ hb g y x = false ∨ op = 3 ∧ hb g x y = false) ∨ (op = 4 ∧ (hb g y x = false ∨ hb g x y = false)) ∧ bit k y = false) := by
  unfold showsB hb
  simp only [Bool.or_eq_true, List.any_eq_true, Bool.and_eq_true, Bool.not_eq_true', bne_iff_ne, beq_iff_eq, List.mem_range]
  constructor
  · rintro (⟨y, h1, h2, h3⟩ | h)
    · exact .inr ⟨y, h1, h2, h3⟩
    · exact .inl h
  · rintro (h | ⟨y, h1, h2, h3⟩)
    · exact .inr h
    · exact .inl ⟨y, h1, h2, h3⟩
theorem badQ_congr {op n f b b' o o' p p' q q' : Nat} {h : Bool} (h1 : bit o' p' = bit o p) (h2 : bit o' q' = bit o q) (h3 : bit b' q' = bit b q) : badQ ⟨op, n, f⟩ b' o' p' q' h = badQ ⟨op, n, f⟩ b o p q h := by
  unfold badQ
  rw [h1, h2, h3]
theorem step_ren {op n f k k' : Nat} {π : Nat → Nat} {r r' : Rd} (h5 : n ≤ 5) (h : Ren n π) (hr : RdN n r) (hr' : RdN n r') (H : RenR n π k k' r r') : StepF op n f k' r' ↔ StepF op n f k r := by
  obtain ⟨o, ho, ho2⟩ := hr.f
  obtain ⟨o', ho', ho2'⟩ := hr'.f
  have hsz : sizeN r'.f.toNat = sizeN r.f.toNat := size_ren h5 h (by rw [ho]; exact ho2) (by rw [ho']; exact ho2') H.f
  constructor
  · intro S
    refine ⟨fun q hq hb => ?_, by rw [← hsz]; exact S.few, fun p hp q hq hne => ?_, fun x hx hox hkx => ?_⟩
    · rw [← H.f q hq]
      exact S.sub _ (h.lt q hq) (by rw [H.k q hq]; exact hb)
    · have := S.row (π p) (h.lt p hp) (π q) (h.lt q hq) fun e => hne (h.inj q p hq hp e)
      rw [H.g p q hp hq, badQ_congr (H.f p hp) (H.f q hq) (H.k q hq)] at this
      exact this
    · have := shows_any.1 (S.fit (π x) (h.lt x hx) (by rw [H.f x hx]; exact hox) (by rw [H.k x hx]; exact hkx))
      refine shows_any.2 (this.imp id ?_)
      rintro ⟨y', hy', hne, hc⟩
      obtain ⟨y, hy, rfl⟩ := h.sur y' hy'
      rw [H.g y x hy hx, H.g x y hx hy, H.k y hy] at hc
      exact ⟨y, hy, fun e => hne (by rw [e]), hc⟩
  · intro S
    refine ⟨fun q' hq' hb => ?_, by rw [hsz]; exact S.few, fun p' hp' q' hq' hne => ?_, fun x' hx' hox hkx => ?_⟩
    · obtain ⟨q, hq, rfl⟩ := h.sur q' hq'
      rw [H.f q hq]
      exact S.sub q hq (by rw [← H.k q hq]; exact hb)
    · obtain ⟨p, hp, rfl⟩ := h.sur p' hp'
      obtain ⟨q, hq, rfl⟩ := h.sur q' hq'
      have := S.row p hp q hq fun e => hne (by rw [e])
      rw [H.g p q hp hq, badQ_congr (H.f p hp) (H.f q hq) (H.k q hq)]
      exact this
    · obtain ⟨x, hx, rfl⟩ := h.sur x' hx'
      have := shows_any.1 (S.fit x hx (by rw [← H.f x hx]; exact hox) (by rw [← H.k x hx]; exact hkx))
      refine shows_any.2 (this.imp id ?_)
      rintro ⟨y, hy, hne, hc⟩
      refine ⟨π y, h.lt y hy, fun e => hne (h.inj y x hy hx e), ?_⟩
      rw [H.g y x hy hx, H.g x y hx hy, H.k y hy]
      exact hc
end Go.Proofs.Ytnhgdjiljjpgmaa

namespace Go.Proofs.Ytnhgdjiljjpgmaa

theorem joins_low (op : Nat) (g g' : Gr) (q s : Nat) (h : ∀ r, r < q → g.h r = g'.h r) : joinsB op g q s = joinsB op g' q s := by
  unfold joinsB
  refine all_congr' fun r hr => ?_
  rw [h r (List.mem_range.1 hr)]
theorem every_mem {n op : Nat} (h5 : n ≤ 5) {g : Gr} : g ∈ everyB n op ↔ g.n = n ∧ (∀ q, q < n → ∃ s : Nat, s < 2 ^ n ∧ g.h q = (s : Int) ∧ (bit s q && joinsB op g q s) = true) ∧ ∀ q, n ≤ q → q < 5 → g.h q = 0 :=
  rowsK_mem (ok := fun g p s => bit s p && joinsB op g p s) (fun g g' q s _ h => by show (bit s q && _) = (bit s q && _); rw [joins_low op g g' q s h]) n h5 g
theorem every_nodup {n op : Nat} (h5 : n ≤ 5) : (everyB n op).Nodup :=
  rowsK_nodup (ok := fun g p s => bit s p && joinsB op g p s) (fun g g' q s _ h => by show (bit s q && _) = (bit s q && _); rw [joins_low op g g' q s h]) n h5
/-- Processes that hear each other hear the same ones. -/
def Dvd (n : Nat) (g : Gr) : Prop := ∀ p q, p < n → q < n → hb g p q = true → g.h p = g.h q
def Whole (n : Nat) (g : Gr) : Prop := g.h 0 = (fullN n : Nat)
instance (n : Nat) (g : Gr) : Decidable (Whole n g) := inferInstanceAs (Decidable (_ = _))
theorem divided_iff {n : Nat} {g : Gr} : dividedB n g = true ↔ Dvd n g := by
  unfold dividedB Dvd hb
  simp only [List.all_eq_true, List.mem_range, Bool.not_eq_true', Bool.and_eq_false_iff, bne_eq_false_iff_eq]
  constructor
  · intro h p q hp hq hb
    rcases h p hp q hq with h | h
    · rw [hb] at h; cases h
    · exact h
  · intro h p hp q hq
    cases hb : bit (g.h p).toNat q with
    | false => exact .inl rfl
    | true => exact .inr (h p q hp hq hb)
/-- The graphs that are drawn, and that are divided, are the divided ones. -/
theorem every_div {n : Nat} (h1 : 1 ≤ n) (h5 : n ≤ 5) {g : Gr} : (g ∈ everyB n 5 ∧ dividedB n g = true) ↔ Wf g n ∧ Dvd n g := by
  rw [every_mem h5, divided_iff]
  constructor
  · rintro ⟨⟨h2, h3, h4⟩, hd⟩
    refine ⟨?_, hd⟩
    have hc : gchk g = 0 := rowG_chk (P := fun q s => bit s q) h1 h5 (fun _ _ h => h) ⟨h2, fun q hq => by
      obtain ⟨s, e1, e2, e3⟩ := h3 q hq
      rw [Bool.and_eq_true] at e3
      exact ⟨s, e1, e2, e3.1⟩, h4⟩
    obtain ⟨m, hm⟩ := wf_of hc
    have : m = n := by have := hm.n_eq; omega
    subst this
    exact hm
  · rintro ⟨hw, hd⟩
    refine ⟨⟨hw.n_eq, fun q hq => ⟨g.r q, hw.lt q hq, hw.row q, ?_⟩, fun q hq _ => by rw [hw.row q, hw.out q hq]; rfl⟩, hd⟩
    rw [Bool.and_eq_true]
    refine ⟨hw.own q hq, ?_⟩
    unfold joinsB
    rw [List.all_eq_true]
    intro p hp
    have hp := List.mem_range.1 hp
    have e6 : ((5 : Nat) == 6) = false := rfl
    have e5 : ((5 : Nat) == 5) = true := rfl
    rw [e6, e5, Bool.true_and, Bool.false_and, Bool.false_and, Bool.or_false, Bool.not_eq_true']
    have hrow : (g.h p).toNat = g.r p := by rw [hw.row p]; rfl
    rw [hrow]
    cases hne : g.r q != g.r p with
    | false => rfl
    | true =>
      rw [Bool.true_and, bne_eq_false_iff_eq]
      refine Nat.eq_of_testBit_eq fun x => ?_
      rw [Nat.testBit_and, Nat.zero_testBit]
      cases h1 : (g.r q).testBit x with
      | false => rfl
      | true =>
        cases h2 : (g.r p).testBit x with
        | false => rfl
        | true =>
          exfalso
          have hx : x < n := by
            rcases Nat.lt_or_ge x n with h | h
            · exact h
            · have := bit_big (hw.lt q hq) h
              unfold bit at this
              rw [h1] at this; cases this
          have a1 := hd q x hq hx (by unfold hb; rw [hw.row q]; exact h1)
          have a2 := hd p x (by omega) hx (by unfold hb; rw [hw.row p]; exact h2)
          have : (g.r q : Int) = g.r p := by rw [← hw.row q, ← hw.row p, a1, a2]
          rw [bne_iff_ne] at hne
          exact hne (by exact_mod_cast this)
/-- The steps of a partition. -/
theorem partS_mem {n k key : Nat} (h1 : 1 ≤ n) (h5 : n ≤ 5) {s : Stp17} : s ∈ edgesB ⟨5, n, k⟩ key ↔ ∃ g : Gr, s = (⟨g, 0⟩, if Whole n g then key else key + 1) ∧ Wf g n ∧ Dvd n g ∧ (Whole n g ∨ key ≠ k) := by
  unfold edgesB
  rw [if_pos rfl, sortR_mem]
  unfold divsB
  rw [List.mem_flatMap]
  have hw : ∀ g : Gr, (g.h 0 == ((fullN n : Nat) : Int)) = decide (Whole n g) := fun g => by
    by_cases e : Whole n g
    · rw [decide_eq_true e]; exact beq_iff_eq.2 e
    · rw [decide_eq_false e]; exact beq_eq_false_iff_ne.2 e
  constructor
  · rintro ⟨g, hg, hs⟩
    simp only [hw] at hs
    split at hs
    · cases hs
    · next hc =>
      simp only [Bool.or_eq_true, Bool.not_eq_true', Bool.and_eq_true, not_or, Bool.not_eq_false, not_and, decide_eq_false_iff_not, beq_iff_eq] at hc
      rw [List.mem_singleton] at hs
      obtain ⟨w, d⟩ := (every_div h1 h5).1 ⟨hg, hc.1⟩
      refine ⟨g, by rw [hs]; congr 1; simp, w, d, ?_⟩
      by_cases hW : Whole n g
      · exact .inl hW
      · exact .inr (hc.2 hW)
  · rintro ⟨g, rfl, w, d, hk⟩
    obtain ⟨e1, e2⟩ := (every_div h1 h5).2 ⟨w, d⟩
    refine ⟨g, e1, ?_⟩
    simp only [hw]
    rw [if_neg]
    · rw [List.mem_singleton]; congr 1; simp
    · simp only [Bool.or_eq_true, Bool.not_eq_true', Bool.and_eq_true, not_or, Bool.not_eq_false, not_and, decide_eq_false_iff_not, beq_iff_eq]
      exact ⟨e2, fun hn => hk.resolve_left hn⟩
theorem whole_table : ((List.range 5).all fun n => (everyB (n + 1) 5).any fun g => dividedB (n + 1) g && (g.h 0 == (fullN (n + 1) : Nat))) = true := by decide +kernel
theorem whole_ex {n : Nat} (h1 : 1 ≤ n) (h5 : n ≤ 5) : ∃ g, Wf g n ∧ Dvd n g ∧ Whole n g := by
  have t := whole_table
  rw [List.all_eq_true] at t
  have t := t (n - 1) (List.mem_range.2 (by omega))
  rw [show n - 1 + 1 = n by omega, List.any_eq_true] at t
  obtain ⟨g, hg, h⟩ := t
  rw [Bool.and_eq_true, beq_iff_eq] at h
  obtain ⟨w, d⟩ := (every_div h1 h5).1 ⟨hg, h.1⟩
  exact ⟨g, w, d, h.2⟩
theorem divs_nodup {n k key : Nat} (h5 : n ≤ 5) : (divsB ⟨5, n, k⟩ key).Nodup := by
  unfold divsB
  refine List.pairwise_flatMap.2 ⟨fun g _ => ?_, ?_⟩
  · split
    · exact List.Pairwise.nil
    · exact List.pairwise_singleton _ _
  · refine List.Pairwise.imp ?_ (every_nodup h5)
    intro a b hab x hx y hy e
    split at hx
    · cases hx
    · split at hy
      · cases hy
      · rw [List.mem_singleton] at hx hy
        subst hx hy
        injection e with e _
        injection e with e _
        exact hab e
def KeyD (k key : Nat) : Prop := key ≤ k
theorem keyD_next {n k : Nat} (h1 : 1 ≤ n) (h5 : n ≤ 5) : ∀ key, KeyD k key → ∀ s ∈ edgesB ⟨5, n, k⟩ key, KeyD k s.2 := fun key hk s hs => by
  obtain ⟨g, rfl, _, _, h⟩ := (partS_mem h1 h5).1 hs
  unfold KeyD at hk ⊢
  show (if Whole n g then key else key + 1) ≤ k
  split
  · exact hk
  · next hW => have := h.resolve_left hW; omega
theorem divs_good {n k : Nat} (h1 : 1 ≤ n) (h5 : n ≤ 5) : GoodE (edgesB ⟨5, n, k⟩) (KeyD k) n where
  ne := fun key hk h => by
    obtain ⟨g, w, d, hW⟩ := whole_ex h1 h5
    have := (partS_mem (k := k) (key := key) h1 h5).2 ⟨g, rfl, w, d, .inl hW⟩
    rw [h] at this
    cases this
  chk := fun key _ s hs => by
    obtain ⟨g, rfl, w, _, _⟩ := (partS_mem h1 h5).1 hs
    refine ⟨?_, w.n_eq⟩
    unfold rchk
    rw [if_pos (wf_chk w)]
    show pchk g.n ((0 : Nat) : Int) = 0
    rw [w.n_eq]
    exact pchk_okN h1 h5 (Nat.two_pow_pos _)
  asc := fun key _ => by
    have key1 : ∀ s ∈ divsB ⟨5, n, k⟩ key, s.2 = if Whole n s.1.g then key else key + 1 := fun s hs => by
      have : s ∈ edgesB ⟨5, n, k⟩ key := by
        unfold edgesB
        rw [if_pos rfl, sortR_mem]; exact hs
      obtain ⟨g, rfl, _⟩ := (partS_mem h1 h5).1 this
      rfl
    unfold edgesB
    rw [if_pos rfl]
    refine asc_ofR (divs_nodup h5) fun x hx y hy e => Prod.ext e ?_
    rw [key1 x hx, key1 y hy, e]
  grow := fun key _ s hs t ht => by
    obtain ⟨g, rfl, _⟩ := (partS_mem h1 h5).1 hs
    obtain ⟨g', rfl, _⟩ := (partS_mem h1 h5).1 ht
    show inside ((0 : Nat) : Int) ((0 : Nat) : Int) = true
    rw [inside_n17 (by decide) (by decide)]
    rfl
theorem partS_len {n k key : Nat} (h1 : 1 ≤ n) (h3 : n ≤ 3) : (edgesB ⟨5, n, k⟩ key).length ≤ 64 := by
  unfold edgesB
  rw [if_pos rfl, (sortR_perm _).length_eq]
  have he : (everyB n 5).length ≤ 64 := by
    refine Nat.le_trans (rowsK_len (M := 4) (fun g p hp => ?_) n (Nat.le_refl _)) (Nat.pow_le_pow_right (n := 4) (by decide) h3)
    refine Nat.le_trans (filter_le (q := fun s => s.testBit p) (fun s h => ?_) _) ?_
    · rw [Bool.and_eq_true] at h; exact h.1
    · have t := own_few
      rw [List.all_eq_true] at t
      have t := t (n - 1) (List.mem_range.2 (by omega))
      rw [List.all_eq_true, show n - 1 + 1 = n by omega] at t
      exact of_decide_eq_true (t p (List.mem_range.2 hp))
  refine Nat.le_trans ?_ he
  unfold divsB
  show ((everyB n 5).flatMap _).length ≤ _
  generalize everyB n 5 = l
  induction l with
  | nil => simp
  | cons g l ih =>
    rw [List.flatMap_cons, List.length_append, List.length_cons]
    have : (if (!dividedB n g || !g.h 0 == ((fullN n : Nat) : Int) && key == k) = true then ([] : List Stp17) else [((⟨g, 0⟩ : Rd), if (g.h 0 == ((fullN n : Nat) : Int)) = true then key else key + 1)]).length ≤ 1 := by split <;> simp
    exact Nat.le_trans (Nat.add_le_add this ih) (by omega)
/-- What is known of a partition. -/
structure DivA (n k : Nat) (A : Adv) : Prop where
  eq : partA n k = (A, 0)
  sz : A.n = n
  chk : achk A = 0
  found : ∃ ks, Built (edgesB ⟨5, n, k⟩) (KeyD k) n A ks
  mv : movesN A ≤ 4096
  allows : ∀ l, (0 ≤ after A 0 l ↔ Chain (edgesB ⟨5, n, k⟩) 0 l)
theorem divA {n k : Nat} (h1 : 1 ≤ n) (h3 : n ≤ 3) (hk : k ≤ 6) : ∃ A, DivA n k A := by
  have h5 : n ≤ 5 := by omega
  have hkey : ∀ l : List Nat, l.Nodup → (∀ x ∈ l, KeyD k x) → l.length ≤ 7 := fun l a b => nodup_few 7 l a fun x hx => by have := b x hx; unfold KeyD at this; omega
  have hz : (buildA (edgesB ⟨5, n, k⟩) n).2 = 0 := buildA_zero (K := KeyD k) (M := 64) (L := 7) (Nat.zero_le _) (keyD_next h1 h5) (fun _ _ => partS_len h1 h3) hkey (by decide) (by decide)
  obtain ⟨ks, hb⟩ := buildA_built (K := KeyD k) (Nat.zero_le _) (keyD_next h1 h5) hz
  have hG := divs_good (k := k) h1 h5
  have hL : ks.length ≤ 256 := Nat.le_trans (hkey ks hb.inv.nd hb.inv.all) (by decide)
  have hc := hb.chk hG h1 h5 hL
  refine ⟨(buildA (edgesB ⟨5, n, k⟩) n).1, ?_, hb.n, hc, ⟨ks, hb⟩, hb.inv.few, fun l => hb.allows hG.one l⟩
  rw [partA_eq]
  unfold refPA
  rw [if_neg (by omega), Int.toNat_natCast, Int.toNat_natCast]
  exact Prod.ext rfl hz
theorem chain_div {n k k' : Nat} (h1 : 1 ≤ n) (h5 : n ≤ 5) (hk : k ≤ k') (l : List Rd) (h : Chain (edgesB ⟨5, n, k⟩) 0 l) : Chain (edgesB ⟨5, n, k'⟩) 0 l := by
  refine Chain.mono (K := KeyD k) (keyD_next h1 h5) (fun key hkey s hs => ?_) l 0 (Nat.zero_le _) h
  have hn := keyD_next h1 h5 key hkey s hs
  obtain ⟨g, rfl, w, d, hw⟩ := (partS_mem h1 h5).1 hs
  refine (partS_mem h1 h5).2 ⟨g, rfl, w, d, ?_⟩
  by_cases hW : Whole n g
  · exact .inl hW
  · right
    have hn : (if Whole n g then key else key + 1) ≤ k := hn
    rw [if_neg hW] at hn
    omega
/-- The words of a partition. -/
theorem chain_parts {n k : Nat} (h1 : 1 ≤ n) (h5 : n ≤ 5) : ∀ (l : List Rd) (key : Nat), key ≤ k → (∀ r ∈ l, RdN n r) → (Chain (edgesB ⟨5, n, k⟩) key l ↔ (∀ r ∈ l, r.f = 0 ∧ Dvd n r.g) ∧ key + l.countP (fun r => !decide (Whole n r.g)) ≤ k)
  | [], key, hk, _ => ⟨fun _ => ⟨fun r h => (nomatch h), by simpa using hk⟩, fun _ => trivial⟩
  | r :: l, key, hk, hl => by
    have hr := hl r (List.mem_cons_self ..)
    have hl' := fun x hx => hl x (List.mem_cons_of_mem _ hx)
    show (∃ s ∈ edgesB ⟨5, n, k⟩ key, s.1 = r ∧ Chain (edgesB ⟨5, n, k⟩) s.2 l) ↔ _
    constructor
    · rintro ⟨s, hs, rfl, hc⟩
      have hn := keyD_next h1 h5 key hk s hs
      obtain ⟨h3, h4⟩ := (chain_parts h1 h5 l s.2 hn hl').1 hc
      obtain ⟨g, rfl, w, d, _⟩ := (partS_mem h1 h5).1 hs
      refine ⟨fun x hx => ?_, ?_⟩
      · rcases List.mem_cons.1 hx with rfl | hx
        · exact ⟨rfl, d⟩
        · exact h3 x hx
      · rw [List.countP_cons]
        show key + (_ + if (!decide (Whole n g)) = true then 1 else 0) ≤ k
        have h4 : (if Whole n g then key else key + 1) + _ ≤ k := h4
        by_cases hW : Whole n g
        · rw [if_pos hW] at h4
          rw [decide_eq_true hW]
          simpa using h4
        · rw [if_neg hW] at h4
          rw [decide_eq_false hW]
          simp only [Bool.not_false, if_true]
          omega
    · rintro ⟨h3, h4⟩
      obtain ⟨hf, hd⟩ := h3 r (List.mem_cons_self ..)
      obtain ⟨g, fo⟩ := r
      have hf : fo = 0 := hf
      subst hf
      rw [List.countP_cons] at h4
      have h4 : key + (l.countP (fun r => !decide (Whole n r.g)) + if (!decide (Whole n g)) = true then 1 else 0) ≤ k := h4
      have hn : (if Whole n g then key else key + 1) + l.countP (fun r => !decide (Whole n r.g)) ≤ k := by
        by_cases hW : Whole n g
        · rw [if_pos hW]
          rw [decide_eq_true hW] at h4
          simpa using h4
        · rw [if_neg hW]
          rw [decide_eq_false hW] at h4
          simp only [Bool.not_false, if_true] at h4
          omega
      refine ⟨(⟨g, 0⟩, if Whole n g then key else key + 1), (partS_mem h1 h5).2 ⟨g, rfl, hr.wf, hd, ?_⟩, rfl, ?_⟩
      · by_cases hW : Whole n g
        · exact .inl hW
        · rw [if_neg hW] at hn
          exact .inr (by omega)
      · exact (chain_parts h1 h5 l _ (by omega) hl').2 ⟨fun x hx => h3 x (List.mem_cons_of_mem _ hx), hn⟩
/-! Renaming -/
theorem row_ext {n : Nat} {g : Gr} (hw : Wf g n) {p q : Nat} (h : ∀ x, x < n → hb g p x = hb g q x) (hp : p < n) (hq : q < n) : g.h p = g.h q := by
  rw [hw.row p, hw.row q]
  congr 1
  refine Nat.eq_of_testBit_eq fun x => ?_
  by_cases hx : x < n
  · have := h x hx
    unfold hb bit at this
    rw [hw.row p, hw.row q] at this
    exact this
  · rw [show (g.r p).testBit x = false from bit_big (hw.lt p hp) (by omega), show (g.r q).testBit x = false from bit_big (hw.lt q hq) (by omega)]
theorem dvd_ren {n : Nat} {π : Nat → Nat} {g g' : Gr} (h : Ren n π) (hw : Wf g n) (hw' : Wf g' n) (H : ∀ p q, p < n → q < n → hb g' (π p) (π q) = hb g p q) : Dvd n g' ↔ Dvd n g := by
  constructor
  · intro d p q hp hq hpq
    refine row_ext hw (fun x hx => ?_) hp hq
    have := d (π p) (π q) (h.lt p hp) (h.lt q hq) (by rw [H p q hp hq]; exact hpq)
    rw [← H p x hp hx, ← H q x hq hx]
    unfold hb
    rw [this]
  · intro d p' q' hp' hq' hpq
    obtain ⟨p, hp, rfl⟩ := h.sur p' hp'
    obtain ⟨q, hq, rfl⟩ := h.sur q' hq'
    rw [H p q hp hq] at hpq
    refine row_ext hw' (fun x' hx' => ?_) hp' hq'
    obtain ⟨x, hx, rfl⟩ := h.sur x' hx'
    rw [H p x hp hx, H q x hq hx]
    have := d p q hp hq hpq
    unfold hb
    rw [this]
theorem whole_iff {n : Nat} {g : Gr} (h1 : 1 ≤ n) (hw : Wf g n) (hd : Dvd n g) : Whole n g ↔ ∀ p q, p < n → q < n → hb g p q = true := by
  have h5 := hw.n5
  constructor
  · intro h p q hp hq
    have h0 : ∀ x, x < n → hb g 0 x = true := fun x hx => by
      unfold hb
      rw [show g.h 0 = ((fullN n : Nat) : Int) from h]
      show bit (fullN n) x = true
      rw [fullN_bit h5 (by omega)]
      exact decide_eq_true hx
    have := hd 0 p h1 hp (h0 p hp)
    have h2 := h0 q hq
    unfold hb at h2 ⊢
    rw [← this]
    exact h2
  · intro h
    unfold Whole
    rw [hw.row 0]
    congr 1
    refine Nat.eq_of_testBit_eq fun x => ?_
    by_cases hx : x < n
    · have h2 := h 0 x h1 hx
      unfold hb at h2
      rw [hw.row 0] at h2
      rw [show (g.r 0).testBit x = true from h2]
      have := fullN_bit (n := n) (i := x) h5 (by omega)
      unfold bit at this
      rw [this, decide_eq_true hx]
    · have hlt : fullN n < 2 ^ n := by unfold fullN; have := Nat.two_pow_pos n; omega
      rw [show (g.r 0).testBit x = false from bit_big (hw.lt 0 h1) (by omega), show (fullN n).testBit x = false from bit_big hlt (by omega)]
theorem whole_ren {n : Nat} {π : Nat → Nat} {g g' : Gr} (h1 : 1 ≤ n) (h : Ren n π) (hw : Wf g n) (hw' : Wf g' n) (hd : Dvd n g) (hd' : Dvd n g') (H : ∀ p q, p < n → q < n → hb g' (π p) (π q) = hb g p q) : Whole n g' ↔ Whole n g := by
  rw [whole_iff h1 hw hd, whole_iff h1 hw' hd']
  constructor
  · intro k p q hp hq
    rw [← H p q hp hq]; exact k _ _ (h.lt p hp) (h.lt q hq)
  · intro k p' q' hp' hq'
    obtain ⟨p, hp, rfl⟩ := h.sur p' hp'
    obtain ⟨q, hq, rfl⟩ := h.sur q' hq'
    rw [H p q hp hq]; exact k p q hp hq
end Go.Proofs.Ytnhgdjiljjpgmaa
