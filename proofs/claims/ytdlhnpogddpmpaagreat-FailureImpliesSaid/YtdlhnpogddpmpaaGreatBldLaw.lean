/-
  Plain: the adversaries that failure's build finds: their words, that they are well-formed and trimmed.
  Conditions: as each theorem states.
-/
import Derived.Test.YtdlhnpogddpmpaaGreatFailOb
import Derived.Test.YtdlhnpogddpmpaaGreatAdvRef3
namespace Go.Proofs.YtdlhnpogddpmpaaGreat

/-! ### What a build has found -/
theorem keyStep_from (o : List Nat) (s : Stp17) {k : Nat} (h : k ∈ keyStep o s) : k ∈ o ∨ s.2 = k := by
  unfold keyStep at h
  split at h
  · exact .inl h
  · rcases List.mem_append.1 h with h | h
    · exact .inl h
    · simp at h; exact .inr h.symm
theorem keysR_from (l : List Stp17) : ∀ (o : List Nat) {k : Nat}, k ∈ keysR o l → k ∈ o ∨ ∃ s ∈ l, s.2 = k := by
  induction l with
  | nil => exact fun o k h => .inl h
  | cons s l ih =>
    intro o k h
    rcases ih (keyStep o s) h with h | ⟨x, hx, e⟩
    · rcases keyStep_from o s h with h | h
      · exact .inl h
      · exact .inr ⟨s, List.mem_cons_self .., h⟩
    · exact .inr ⟨x, List.mem_cons_of_mem _ hx, e⟩
theorem keysR_has (l : List Stp17) : ∀ (o : List Nat), (∀ k ∈ o, k ∈ keysR o l) ∧ ∀ s ∈ l, s.2 ∈ keysR o l := by
  induction l with
  | nil => exact fun o => ⟨fun k h => h, fun s h => nomatch h⟩
  | cons s l ih =>
    intro o
    obtain ⟨h1, h2⟩ := ih (keyStep o s)
    obtain ⟨t, ht⟩ := keyStep_pre o s
    refine ⟨fun k hk => h1 k (by rw [ht]; exact List.mem_append_left _ hk), fun x hx => ?_⟩
    rcases List.mem_cons.1 hx with rfl | hx
    · exact h1 _ (keyStep_mem o x)
    · exact h2 x hx
/-- What a build knows of the states that it has found, behind i of them. -/
structure BInv (E : Nat → List Stp17) (K : Nat → Prop) (i : Nat) (order : List Nat) (count : Nat) (out : List (List Mv)) : Prop where
  le : i ≤ order.length
  sl : out.length = i
  first : order.head? = some 0
  nd : order.Nodup
  all : ∀ k ∈ order, K k
  cnt : (out.map List.length).sum = count
  few : count ≤ 4096
  at_ : ∀ j, j < i → out.getD j [] = (E (order.getD j 0)).map fun s => ⟨s.1, (order.idxOf s.2 : Nat)⟩
  mem : ∀ j, j < i → ∀ s ∈ E (order.getD j 0), s.2 ∈ order
  reach : ∀ j, 0 < j → j < order.length → ∃ h, h < j ∧ h < i ∧ ∃ s ∈ E (order.getD h 0), s.2 = order.getD j 0
theorem getD_app {α : Type} (l t : List α) (d : α) {j : Nat} (h : j < l.length) : (l ++ t).getD j d = l.getD j d := by
  rw [List.getD_eq_getElem?_getD, List.getD_eq_getElem?_getD, List.getElem?_append_left h]
theorem BInv.start {E : Nat → List Stp17} {K : Nat → Prop} (h0 : K 0) : BInv E K 0 [0] 0 [] :=
  ⟨by decide, rfl, rfl, by simp, by simpa using h0, rfl, by decide, fun j h => absurd h (Nat.not_lt_zero j), fun j h => absurd h (Nat.not_lt_zero j), fun j h1 h2 => by simp at h2; omega⟩
theorem BInv.next {E : Nat → List Stp17} {K : Nat → Prop} {i count : Nat} {order : List Nat} {out : List (List Mv)} (H : BInv E K i order count out) (hN : ∀ k, K k → ∀ s ∈ E k, K s.2) (hi : i < order.length) (hc : count + (E order[i]).length ≤ 4096) :
    BInv E K (i + 1) (keysR order (E order[i])) (count + (E order[i]).length) (out ++ [movesR order (E order[i])]) := by
  obtain ⟨t, ht⟩ := keysR_pre (E order[i]) order
  have hk := H.all _ (List.getElem_mem hi)
  have hi0 : order.getD i 0 = order[i] := by rw [List.getD_eq_getElem?_getD, List.getElem?_eq_getElem hi]; rfl
  have hsub := keysR_has (E order[i]) order
  refine ⟨?_, by rw [List.length_append, H.sl]; rfl, ?_, keysR_nodup _ _ H.nd, keysR_all _ _ H.all (hN _ hk), ?_, hc, ?_, ?_, ?_⟩
  · rw [ht, List.length_append]; omega
  · rw [ht]
    have := H.first
    cases ho : order with
    | nil => rw [ho] at this; cases this
    | cons a l => rw [ho] at this; exact this
  · rw [List.map_append, List.sum_append, H.cnt]; simp [movesR_len]
  · intro j hj
    rcases Nat.lt_succ_iff_lt_or_eq.1 hj with h | rfl
    · rw [getD_app _ _ _ (by rw [H.sl]; exact h), H.at_ j h, ht, getD_app _ _ _ (by omega)]
      refine List.map_congr_left fun s hs => ?_
      rw [List.idxOf_append, if_pos (H.mem j h s hs)]
    · have e1 : (out ++ [movesR order (E order[j])]).getD j [] = movesR order (E order[j]) := by
        rw [List.getD_eq_getElem?_getD, List.getElem?_append_right (by rw [H.sl]; exact Nat.le_refl _), H.sl, Nat.sub_self]; rfl
      have e2 : (keysR order (E order[j])).getD j 0 = order[j] := by rw [ht, getD_app _ _ _ hi, hi0]
      rw [e1, e2]; rfl
  · intro j hj s hs
    rcases Nat.lt_succ_iff_lt_or_eq.1 hj with h | rfl
    · rw [ht, getD_app _ _ _ (by omega)] at hs
      exact hsub.1 _ (H.mem j h s hs)
    · rw [ht, getD_app _ _ _ hi, hi0] at hs
      exact hsub.2 s hs
  · intro j h0 hj
    by_cases hjo : j < order.length
    · obtain ⟨h, h1, h2, s, hs, e⟩ := H.reach j h0 hjo
      refine ⟨h, h1, by omega, s, ?_, ?_⟩
      · rw [ht, getD_app _ _ _ (by omega)]; exact hs
      · rw [ht, getD_app _ _ _ hjo]; exact e
    · have hm : (keysR order (E order[i])).getD j 0 ∈ keysR order (E order[i]) := by
        rw [List.getD_eq_getElem?_getD, List.getElem?_eq_getElem hj]; exact List.getElem_mem hj
      rcases keysR_from _ _ hm with h | ⟨s, hs, e⟩
      · exfalso
        obtain ⟨q, hq, eq⟩ := List.mem_iff_getElem.1 h
        have hnd := keysR_nodup (E order[i]) _ H.nd
        have hlen : order.length ≤ (keysR order (E order[i])).length := by rw [ht, List.length_append]; omega
        have h3 := List.pairwise_iff_getElem.1 hnd q j (by omega) hj (by omega)
        apply h3
        rw [show (keysR order (E order[i]))[j] = (keysR order (E order[i])).getD j 0 by rw [List.getD_eq_getElem?_getD, List.getElem?_eq_getElem hj]; rfl, ← eq]
        simp only [ht]
        rw [List.getElem_append_left hq]
      · refine ⟨i, by omega, by omega, s, ?_, e⟩
        rw [ht, getD_app _ _ _ hi, hi0]
        exact hs
/-- An adversary that a build has found, with its states' keys. -/
structure Built (E : Nat → List Stp17) (K : Nat → Prop) (n : Nat) (A : Adv) (ks : List Nat) : Prop where
  n : A.n = n
  inv : BInv E K ks.length ks (movesN A) A.st
theorem buildR_inv {E : Nat → List Stp17} {K : Nat → Prop} {n : Nat} (hN : ∀ k, K k → ∀ s ∈ E k, K s.2) : ∀ (fuel i : Nat) (order : List Nat) (count : Nat) (out st : List (List Mv)), BInv E K i order count out → buildR E n fuel i order count out = some st →
    ∃ ks, BInv E K ks.length ks (st.map List.length).sum st
  | 0, _, _, _, _, _, _, h => by cases h
  | fuel + 1, i, order, count, out, st, H, h => by
    unfold buildR at h
    by_cases hi : i < order.length
    · rw [dif_pos hi] at h
      split at h
      · cases h
      · next hc => exact buildR_inv hN fuel _ _ _ _ _ (H.next hN hi (by omega)) h
    · rw [dif_neg hi] at h
      injection h with h
      subst h
      have : i = order.length := by have := H.le; omega
      subst this
      refine ⟨order, ?_⟩
      rw [H.cnt]
      exact H
theorem buildA_built {E : Nat → List Stp17} {K : Nat → Prop} {n : Nat} (h0 : K 0) (hN : ∀ k, K k → ∀ s ∈ E k, K s.2) (h : (buildA E n).2 = 0) : ∃ ks, Built E K n (buildA E n).1 ks := by
  unfold buildA at h ⊢
  cases hb : buildR E n 64 0 [0] 0 [] with
  | none => rw [hb] at h; cases h
  | some st =>
    obtain ⟨ks, hk⟩ := buildR_inv hN _ _ _ _ _ _ (BInv.start h0) hb
    exact ⟨ks, rfl, hk⟩
/-- A build that finds few moves ends in an adversary. -/
theorem buildR_some {E : Nat → List Stp17} {K : Nat → Prop} {n M : Nat} (hN : ∀ k, K k → ∀ s ∈ E k, K s.2) (hF : ∀ l : List Nat, l.Nodup → (∀ k ∈ l, K k) → l.length ≤ 33) (hM : ∀ k, K k → (E k).length ≤ M) {L : Nat} (hL : ∀ l : List Nat, l.Nodup → (∀ k ∈ l, K k) → l.length ≤ L) (hLM : L * M ≤ 4096) :
    ∀ (fuel i : Nat) (order : List Nat) (count : Nat) (out : List (List Mv)), BInv E K i order count out → count ≤ i * M → 34 ≤ fuel + i → buildR E n fuel i order count out ≠ none
  | 0, i, order, count, out, H, _, hf => by have := hF order H.nd H.all; have := H.le; omega
  | fuel + 1, i, order, count, out, H, hc, hf => by
    unfold buildR
    by_cases hi : i < order.length
    · have hl := hL order H.nd H.all
      have hm := hM _ (H.all _ (List.getElem_mem hi))
      have h1 : count + (E order[i]).length ≤ (i + 1) * M := by rw [Nat.succ_mul]; omega
      have h2 : (i + 1) * M ≤ L * M := Nat.mul_le_mul_right _ (by omega)
      rw [dif_pos hi, if_neg (by omega)]
      exact buildR_some hN hF hM hL hLM fuel (i + 1) _ _ _ (H.next hN hi (by omega)) h1 (by omega)
    · rw [dif_neg hi]; simp
theorem buildA_zero {E : Nat → List Stp17} {K : Nat → Prop} {n M L : Nat} (h0 : K 0) (hN : ∀ k, K k → ∀ s ∈ E k, K s.2) (hM : ∀ k, K k → (E k).length ≤ M) (hL : ∀ l : List Nat, l.Nodup → (∀ k ∈ l, K k) → l.length ≤ L) (h33 : L ≤ 33) (hLM : L * M ≤ 4096) : (buildA E n).2 = 0 := by
  have h := buildR_some (n := n) hN (fun l h1 h2 => Nat.le_trans (hL l h1 h2) h33) hM hL hLM 64 0 [0] 0 [] (BInv.start h0) (Nat.zero_le _) (by omega)
  unfold buildA
  cases hb : buildR E n 64 0 [0] 0 [] with
  | none => exact absurd hb h
  | some st => rfl

/-! ### Words -/
/-- Rounds that follow one another from a key on. -/
def Chain (E : Nat → List Stp17) : Nat → List Rd → Prop
  | _, [] => True
  | k, r :: l => ∃ s ∈ E k, s.1 = r ∧ Chain E s.2 l
theorem Chain.mono {E E' : Nat → List Stp17} {K : Nat → Prop} (hN : ∀ k, K k → ∀ s ∈ E k, K s.2) (h : ∀ k, K k → ∀ s ∈ E k, s ∈ E' k) : ∀ (l : List Rd) (k : Nat), K k → Chain E k l → Chain E' k l
  | [], _, _, _ => trivial
  | _ :: l, k, hk, ⟨s, hs, e, hc⟩ => ⟨s, h k hk s hs, e, Chain.mono hN h l s.2 (hN k hk s hs) hc⟩
theorem toL_map {l : List Stp17} {f : Stp17 → Int} (_hf : ∀ s ∈ l, 0 ≤ f s) (ho : ∀ x ∈ l, ∀ y ∈ l, x.1 = y.1 → x = y) (r : Rd) :
    (∀ s ∈ l, s.1 = r → toL (l.map fun s => ⟨s.1, f s⟩) r = f s) ∧ ((∀ s ∈ l, s.1 ≠ r) → toL (l.map fun s => ⟨s.1, f s⟩) r = -1) := by
  refine ⟨fun s hs e => ?_, fun h => ?_⟩
  · unfold toL
    cases hfi : (l.map fun s => (⟨s.1, f s⟩ : Mv)).find? (fun m => req m.r r) with
    | none =>
      have := List.find?_eq_none.1 hfi ⟨s.1, f s⟩ (List.mem_map_of_mem hs)
      exact absurd (req_iff.2 e) this
    | some m =>
      have hm := List.mem_of_find?_eq_some hfi
      have hr := List.find?_some hfi
      obtain ⟨x, hx, rfl⟩ := List.mem_map.1 hm
      have := ho x hx s hs ((req_iff.1 hr).trans e.symm)
      rw [this]
  · unfold toL
    rw [List.find?_eq_none.2 ?_]
    intro m hm
    obtain ⟨x, hx, rfl⟩ := List.mem_map.1 hm
    intro hr
    exact h x hx (req_iff.1 hr)
theorem idx_getD {ks : List Nat} {k : Nat} (h : k ∈ ks) : ks.idxOf k < ks.length ∧ ks.getD (ks.idxOf k) 0 = k := by
  have hl := List.idxOf_lt_length_of_mem h
  exact ⟨hl, by rw [List.getD_eq_getElem?_getD, List.getElem?_eq_getElem hl]; exact List.getElem_idxOf hl⟩
theorem Built.state {E : Nat → List Stp17} {K : Nat → Prop} {n : Nat} {A : Adv} {ks : List Nat} (H : Built E K n A ks) {k : Nat} (hk : k ∈ ks) : A.st.getD (ks.idxOf k) [] = (E k).map fun s => ⟨s.1, (ks.idxOf s.2 : Nat)⟩ := by
  obtain ⟨h1, h2⟩ := idx_getD hk
  have := H.inv.at_ _ h1
  rwa [h2] at this
theorem Built.zero {E : Nat → List Stp17} {K : Nat → Prop} {n : Nat} {A : Adv} {ks : List Nat} (H : Built E K n A ks) : 0 ∈ ks ∧ ks.idxOf 0 = 0 := by
  have := H.inv.first
  cases ho : ks with
  | nil => rw [ho] at this; cases this
  | cons a l =>
    rw [ho] at this
    injection this with this
    subst this
    exact ⟨List.mem_cons_self .., List.idxOf_cons_self⟩
theorem Built.to {E : Nat → List Stp17} {K : Nat → Prop} {n : Nat} {A : Adv} {ks : List Nat} (H : Built E K n A ks) {k : Nat} (hk : k ∈ ks) {s : Stp17} (hs : s ∈ E k) : s.2 ∈ ks := by
  obtain ⟨h1, h2⟩ := idx_getD hk
  exact H.inv.mem _ h1 s (by rw [h2]; exact hs)
/-- A word is permitted exactly if its rounds follow one another. -/
theorem Built.permits {E : Nat → List Stp17} {K : Nat → Prop} {n : Nat} {A : Adv} {ks : List Nat} (H : Built E K n A ks) (ho : ∀ k, K k → ∀ x ∈ E k, ∀ y ∈ E k, x.1 = y.1 → x = y) : ∀ (l : List Rd) (k : Nat), k ∈ ks → (0 ≤ after A (ks.idxOf k : Nat) l ↔ Chain E k l)
  | [], k, hk => ⟨fun _ => trivial, fun _ => by show (0 : Int) ≤ ((ks.idxOf k : Nat) : Int); omega⟩
  | r :: l, k, hk => by
    have hst := H.state hk
    have ht := toL_map (l := E k) (f := fun s => ((ks.idxOf s.2 : Nat) : Int)) (fun s _ => by show (0 : Int) ≤ ((ks.idxOf s.2 : Nat) : Int); omega) (ho k (H.inv.all k hk)) r
    have e : after A (ks.idxOf k : Nat) (r :: l) = after A (toL ((E k).map fun s => ⟨s.1, (ks.idxOf s.2 : Nat)⟩) r) l := by
      show (if ((ks.idxOf k : Nat) : Int) < 0 then _ else _) = _
      rw [if_neg (by omega), Int.toNat_natCast, hst]
    rw [e]
    by_cases hex : ∃ s ∈ E k, s.1 = r
    · obtain ⟨s, hs, hr⟩ := hex
      rw [ht.1 s hs hr, Built.permits H ho l s.2 (H.to hk hs)]
      refine ⟨fun h => ⟨s, hs, hr, h⟩, ?_⟩
      rintro ⟨x, hx, hxr, hc⟩
      rw [ho k (H.inv.all k hk) s hs x hx (hr.trans hxr.symm)]
      exact hc
    · rw [ht.2 fun s hs e => hex ⟨s, hs, e⟩, after_neg (by decide)]
      refine ⟨fun h => absurd h (by decide), ?_⟩
      rintro ⟨x, hx, hxr, _⟩
      exact absurd ⟨x, hx, hxr⟩ hex
theorem Built.allows {E : Nat → List Stp17} {K : Nat → Prop} {n : Nat} {A : Adv} {ks : List Nat} (H : Built E K n A ks) (ho : ∀ k, K k → ∀ x ∈ E k, ∀ y ∈ E k, x.1 = y.1 → x = y) (l : List Rd) : (0 ≤ after A 0 l ↔ Chain E 0 l) := by
  have := H.permits ho l 0 H.zero.1
  rwa [H.zero.2] at this

/-! ### Well-formed and trimmed -/
/-- What makes a found adversary well-formed. -/
structure GoodE (E : Nat → List Stp17) (K : Nat → Prop) (n : Nat) : Prop where
  ne : ∀ k, K k → E k ≠ []
  chk : ∀ k, K k → ∀ s ∈ E k, rchk s.1 = 0 ∧ s.1.g.n = n
  asc : ∀ k, K k → (E k).Pairwise fun x y => rcmp x.1 y.1 < 0
  grow : ∀ k, K k → ∀ s ∈ E k, ∀ t ∈ E s.2, inside s.1.f t.1.f = true
theorem GoodE.one {E : Nat → List Stp17} {K : Nat → Prop} {n : Nat} (h : GoodE E K n) : ∀ k, K k → ∀ x ∈ E k, ∀ y ∈ E k, x.1 = y.1 → x = y := by
  intro k hk x hx y hy e
  obtain ⟨i, hi, rfl⟩ := List.mem_iff_getElem.1 hx
  obtain ⟨j, hj, rfl⟩ := List.mem_iff_getElem.1 hy
  have hp := List.pairwise_iff_getElem.1 (h.asc k hk)
  rcases Nat.lt_trichotomy i j with h | h | h
  · have h1 := hp i j hi hj h
    rw [e, rcmp_zero'.2 rfl] at h1
    omega
  · subst h; rfl
  · have h1 := hp j i hj hi h
    rw [e, rcmp_zero'.2 rfl] at h1
    omega
theorem Built.mv {E : Nat → List Stp17} {K : Nat → Prop} {n : Nat} {A : Adv} {ks : List Nat} (H : Built E K n A ks) {h i : Nat} (hh : h < ks.length) (hi : i < A.len h) : ∃ (k : Nat) (s : Stp17), k = ks.getD h 0 ∧ k ∈ ks ∧ K k ∧ (E k)[i]? = some s ∧ A.mv h i = ⟨s.1, (ks.idxOf s.2 : Nat)⟩ ∧ s.2 ∈ ks := by
  have hst := H.inv.at_ h hh
  have hi' : i < (E (ks.getD h 0)).length := by
    have : A.len h = (E (ks.getD h 0)).length := by
      show (A.st.getD h []).length = _
      rw [hst, List.length_map]
    omega
  have hkm : ks.getD h 0 ∈ ks := by rw [List.getD_eq_getElem?_getD, List.getElem?_eq_getElem hh]; exact List.getElem_mem hh
  refine ⟨_, (E (ks.getD h 0))[i], rfl, hkm, H.inv.all _ hkm, List.getElem?_eq_getElem hi', ?_, H.to hkm (List.getElem_mem hi')⟩
  show (A.st.getD h []).getD i default = _
  rw [hst, List.getD_eq_getElem?_getD, List.getElem?_map, List.getElem?_eq_getElem hi']
  rfl
theorem mvErrAt_okB {n : Int} {L : Nat} {ms : List Mv} {i : Nat} (h1 : rchk (ms.getD i default).r = 0) (h2 : (ms.getD i default).r.g.n = n) (h3 : 0 < i → rcmp (ms.getD (i - 1) default).r (ms.getD i default).r < 0) (h4 : 0 ≤ (ms.getD i default).to) (h5 : (ms.getD i default).to < L) : mvErrAt n L ms i = 0 := by
  unfold mvErrAt
  rw [if_pos h1, if_pos h2, if_neg (fun h => by have := h3 h.1; omega), if_neg (by omega)]
theorem Built.chk {E : Nat → List Stp17} {K : Nat → Prop} {n : Nat} {A : Adv} {ks : List Nat} (H : Built E K n A ks) (G : GoodE E K n) (h1 : 1 ≤ n) (h5 : n ≤ 5) (hL : ks.length ≤ 256) : achk A = 0 := by
  have hn := H.n
  have hLk : A.L = ks.length := H.inv.sl
  have hpos : 1 ≤ ks.length := by
    have := H.zero.1
    cases ks with
    | nil => cases this
    | cons a l => simp
  have hfe : firstErr (stErr A) A.L = 0 := by
    refine firstErr_zero.2 fun h hh => ?_
    rw [hLk] at hh
    have hst := H.inv.at_ h hh
    have hkm : ks.getD h 0 ∈ ks := by rw [List.getD_eq_getElem?_getD, List.getElem?_eq_getElem hh]; exact List.getElem_mem hh
    have hlen : A.len h = (E (ks.getD h 0)).length := by
      show (A.st.getD h []).length = _
      rw [hst, List.length_map]
    unfold stErr
    rw [if_neg (by rw [hlen]; intro h0; exact G.ne _ (H.inv.all _ hkm) (List.length_eq_zero_iff.1 h0))]
    refine firstErr_zero.2 fun i hi => ?_
    obtain ⟨k, s, rfl, _, hK, hs, hmv, hto⟩ := H.mv hh hi
    have hmem : s ∈ E (ks.getD h 0) := List.mem_of_getElem? hs
    obtain ⟨c1, c2⟩ := G.chk _ hK s hmem
    have hmv' : (A.st.getD h []).getD i default = ⟨s.1, (ks.idxOf s.2 : Nat)⟩ := hmv
    refine mvErrAt_okB (by rw [hmv']; exact c1) (by rw [hmv', hn]; exact c2) (fun h0 => ?_) (by rw [hmv']; show (0 : Int) ≤ ((ks.idxOf s.2 : Nat) : Int); omega) (by
      rw [hmv', hLk]
      show ((ks.idxOf s.2 : Nat) : Int) < _
      have := List.idxOf_lt_length_of_mem hto
      omega)
    obtain ⟨k', s', e', _, _, hs', hmv2, _⟩ := H.mv hh (i := i - 1) (by omega)
    subst e'
    have hmv2' : (A.st.getD h []).getD (i - 1) default = ⟨s'.1, (ks.idxOf s'.2 : Nat)⟩ := hmv2
    rw [hmv', hmv2']
    have hp := List.pairwise_iff_getElem.1 (G.asc _ hK)
    obtain ⟨q1, q2⟩ := List.getElem?_eq_some_iff.1 hs
    obtain ⟨q3, q4⟩ := List.getElem?_eq_some_iff.1 hs'
    have := hp (i - 1) i q3 q1 (by omega)
    rw [q2, q4] at this
    exact this
  have hgr : growsB A = true := by
    refine all3_true fun h hh i hi k hk => ?_
    rw [hLk] at hh
    obtain ⟨key, s, rfl, _, hK, hs, hmv, hto⟩ := H.mv hh hi
    have hmem : s ∈ E (ks.getD h 0) := List.mem_of_getElem? hs
    rw [hmv] at hk ⊢
    have hk' : k < A.len (ks.idxOf s.2) := by rw [Int.toNat_natCast] at hk; exact hk
    obtain ⟨g1, g2⟩ := idx_getD hto
    obtain ⟨key2, t, e2, _, _, ht, hmt, _⟩ := H.mv g1 hk'
    rw [g2] at e2
    subst e2
    rw [Int.toNat_natCast, hmt]
    exact G.grow _ hK s hmem t (List.mem_of_getElem? ht)
  unfold achk
  rw [if_neg (by rw [hn]; omega), if_neg (by rw [hLk]; have := H.inv.few; omega), if_pos hfe, if_pos hgr]
end Go.Proofs.YtdlhnpogddpmpaaGreat
