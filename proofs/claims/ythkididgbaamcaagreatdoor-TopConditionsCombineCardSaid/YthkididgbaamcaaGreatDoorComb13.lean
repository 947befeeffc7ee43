/-
  Plain law of conditions that are combined: what Inputs returns for a conjunction, a disjunction, a negation, and an absent condition.
  Conditions: none.
-/
import Derived.Test.YthkididgbaamcaaGreatDoorOutP
namespace Go.Proofs.YthkididgbaamcaaGreatDoor

abbrev andE (a b : Ex) : Ex := .mk 10 0 [a, b]
abbrev orE (a b : Ex) : Ex := .mk 11 0 [a, b]
abbrev notE (a : Ex) : Ex := .mk 12 0 [a]
abbrev noE : Ex := .mk 0 0 []

theorem arity_known {e : Ex} {v : Int} (h : nodesE e v = 0) : 0 ≤ arity e.op := by
  obtain ⟨op, num, xs⟩ := e
  simp only [nodesE] at h
  have h1 : nodeErr (.mk op num xs) v = 0 := by
    by_cases h1 : nodeErr (.mk op num xs) v = 0
    · exact h1
    · rw [if_pos h1] at h; exact h
  unfold nodeErr at h1
  show 0 ≤ arity op
  by_cases h2 : arity (Ex.mk op num xs).op < 0
  · rw [if_pos h2] at h1; omega
  · have h2 : ¬ arity op < 0 := h2
    omega
theorem badArg_ok {op : Int} {a : Ex} (ho : 10 ≤ op) (h : kindOf a.op = 1) : badArg op a = false := by
  unfold badArg argKind
  rw [if_pos ho, h]; simp
theorem exchk_parts {e : Ex} (h : exchk e 0 = 0) : e.nodes ≤ 128 ∧ e.depth ≤ 24 ∧ nodesE e 0 = 0 := by
  unfold exchk at h
  rw [if_neg (by omega)] at h
  by_cases h1 : 128 < e.nodes
  · rw [if_pos h1] at h; omega
  rw [if_neg h1] at h
  by_cases h2 : 24 < e.depth
  · rw [if_pos h2] at h; omega
  rw [if_neg h2] at h
  exact ⟨by omega, by omega, h⟩
theorem condS_parts {e : Ex} {u : Nat} (h : condS e u = 0) : exchk e 0 = 0 ∧ kindOf e.op = 1 ∧ usesE e &&& u = usesE e := by
  unfold condS at h
  by_cases h1 : exchk e 0 ≠ 0
  · rw [if_pos h1] at h; exact absurd h h1
  rw [if_neg h1] at h
  by_cases h2 : kindOf e.op ≠ 1
  · rw [if_pos h2] at h; omega
  rw [if_neg h2] at h
  by_cases h3 : usesE e &&& u ≠ usesE e
  · rw [if_pos h3] at h; omega
  exact ⟨by omega, by omega, by simpa using h3⟩
theorem nodesE_two {op : Int} {a b : Ex} (ho : op = 10 ∨ op = 11) (ha : nodesE a 0 = 0) (hb : nodesE b 0 = 0) (ka : kindOf a.op = 1) (kb : kindOf b.op = 1) : nodesE (.mk op 0 [a, b]) 0 = 0 := by
  have h1 : nodeErr (.mk op 0 [a, b]) 0 = 0 := by
    have e1 : badArg op a = false := badArg_ok (by omega) ka
    have e2 : badArg op b = false := badArg_ok (by omega) kb
    rcases ho with rfl | rfl <;> simp [nodeErr, Ex.op, Ex.args, Ex.num, arity, e1, e2]
  have h2 : isQ op = false := by rcases ho with rfl | rfl <;> rfl
  simp only [nodesE, nodesEL, h1, innerV, h2]
  simp [ha, hb]
theorem nodesE_not {a : Ex} (ha : nodesE a 0 = 0) (ka : kindOf a.op = 1) : nodesE (notE a) 0 = 0 := by
  have h1 : nodeErr (notE a) 0 = 0 := by
    have e1 : badArg 12 a = false := badArg_ok (by omega) ka
    simp [nodeErr, Ex.op, Ex.args, Ex.num, arity, e1]
  have h2 : isQ 12 = false := rfl
  simp only [nodesE, nodesEL, h1, innerV, h2]
  simp [ha]
theorem exchk_two {op : Int} {a b : Ex} (ho : op = 10 ∨ op = 11) (ha : condS a 1 = 0) (hb : condS b 1 = 0) (na : a.nodes < 50) (nb : b.nodes < 50) : exchk (.mk op 0 [a, b]) 0 = 0 ∨ exchk (.mk op 0 [a, b]) 0 = 12 := by
  obtain ⟨ha, ka, _⟩ := condS_parts ha
  obtain ⟨hb, kb, _⟩ := condS_parts hb
  have h1 := nodesE_two ho (exchk_parts ha).2.2 (exchk_parts hb).2.2 ka kb
  unfold exchk
  rw [if_neg (by omega), if_neg (by simp only [Ex.nodes, Ex.nodesL]; omega), h1]
  split
  · exact .inr rfl
  · exact .inl rfl
theorem exchk_not {a : Ex} {u : Nat} (ha : condS a u = 0) (na : a.nodes < 50) : exchk (notE a) 0 = 0 ∨ exchk (notE a) 0 = 12 := by
  obtain ⟨ha, ka, _⟩ := condS_parts ha
  have h1 := nodesE_not (exchk_parts ha).2.2 ka
  unfold exchk
  rw [if_neg (by omega), if_neg (by simp only [Ex.nodes, Ex.nodesL]; omega), h1]
  split
  · exact .inr rfl
  · exact .inl rfl
theorem uses_or {a b : Nat} (ha : a &&& 1 = a) (hb : b &&& 1 = b) : (a ||| b) &&& 1 = a ||| b := by
  rw [Nat.and_or_distrib_right, ha, hb]
theorem condS_two {op : Int} {a b : Ex} (ho : op = 10 ∨ op = 11) (ha : condS a 1 = 0) (hb : condS b 1 = 0) (na : a.nodes < 50) (nb : b.nodes < 50) : condS (.mk op 0 [a, b]) 1 = exchk (.mk op 0 [a, b]) 0 := by
  have h0 := exchk_two ho ha hb na nb
  obtain ⟨_, _, ua⟩ := condS_parts ha
  obtain ⟨_, _, ub⟩ := condS_parts hb
  unfold condS
  rcases h0 with h0 | h0
  · have e1 : kindOf (Ex.mk op 0 [a, b]).op = 1 := by rcases ho with rfl | rfl <;> rfl
    have e2 : useOf op = 0 := by rcases ho with rfl | rfl <;> rfl
    have e3 : usesE (.mk op 0 [a, b]) = usesE a ||| usesE b := by simp [usesE, usesL, e2]
    rw [h0, e3, uses_or ua ub, e1]; simp
  · rw [h0]; rfl
theorem condS_not {a : Ex} {u : Nat} (ha : condS a u = 0) (na : a.nodes < 50) : condS (notE a) u = exchk (notE a) 0 := by
  have h0 := exchk_not ha na
  obtain ⟨_, _, ua⟩ := condS_parts ha
  unfold condS
  rcases h0 with h0 | h0
  · have e3 : usesE (notE a) = usesE a := by simp [usesE, usesL, useOf]
    rw [h0, e3, ua]; simp [kindOf, Ex.op]
  · rw [h0]; rfl
/-- A condition's value is 0 or 1. -/
theorem truth_val {s : Sc} {e : Ex} {u : Nat} (h : condS e u = 0) : truthB s e = decide (valE s e [] = 1) := by
  obtain ⟨h1, h2, _⟩ := condS_parts h
  unfold truthB
  simp [h1, h2]
theorem valE_and (s : Sc) (a b : Ex) : valE s (andE a b) [] = valE s a [] * valE s b [] := by simp [valE, twoS]
theorem valE_or (s : Sc) (a b : Ex) : valE s (orE a b) [] = flag (decide (0 < valE s a [] + valE s b [])) := by simp [valE, twoS]
theorem valE_not (s : Sc) (a : Ex) : valE s (notE a) [] = 1 - valE s a [] := by
  have h : isQ 12 = false := rfl
  simp [valE, h, oneS]
theorem cond_01 {s : Sc} (hs : s.ok) {e : Ex} {u : Nat} (h : condS e u = 0) : valE s e [] = 0 ∨ valE s e [] = 1 := by
  obtain ⟨h1, h2, _⟩ := condS_parts h
  have := (val_bd s hs e [] (fun x hx => nomatch hx) (exchk_parts h1).2.2).2 h2
  omega
theorem truth_and {s : Sc} (hs : s.ok) {a b : Ex} (ha : condS a 1 = 0) (hb : condS b 1 = 0) (h : condS (andE a b) 1 = 0) : truthB s (andE a b) = (truthB s a && truthB s b) := by
  rw [truth_val h, truth_val ha, truth_val hb, valE_and]
  rcases cond_01 hs ha with h1 | h1 <;> rcases cond_01 hs hb with h2 | h2 <;> rw [h1, h2] <;> rfl
theorem truth_or {s : Sc} (hs : s.ok) {a b : Ex} (ha : condS a 1 = 0) (hb : condS b 1 = 0) (h : condS (orE a b) 1 = 0) : truthB s (orE a b) = (truthB s a || truthB s b) := by
  rw [truth_val h, truth_val ha, truth_val hb, valE_or]
  rcases cond_01 hs ha with h1 | h1 <;> rcases cond_01 hs hb with h2 | h2 <;> rw [h1, h2] <;> rfl
theorem truth_not {s : Sc} (hs : s.ok) {a : Ex} {u : Nat} (ha : condS a u = 0) (h : condS (notE a) u = 0) : truthB s (notE a) = !truthB s a := by
  rw [truth_val h, truth_val ha, valE_not]
  rcases cond_01 hs ha with h1 | h1 <;> rw [h1] <;> rfl

/-- What Inputs returns for a condition that is not absent and not wrong. -/
theorem inpS_here {n m : Int} {e : Ex} (hs : sizesS n [m] = 0) (h : condS e 1 = 0) (hab : absentE e = false) : inpS n m e = ((vecs m.toNat n.toNat).filter fun l => truthB ⟨n.toNat, l, [], gz⟩ e, 0) := by
  unfold inpS givenS holdIn holdsB
  simp [hs, h, hab]
theorem inpS_bad {n m : Int} {e : Ex} (hs : sizesS n [m] = 0) (h : condS e 1 ≠ 0) (hab : absentE e = false) : inpS n m e = ([], condS e 1) := by
  unfold inpS givenS
  simp [hs, h, hab]
theorem inpS_none {n m : Int} (hs : sizesS n [m] = 0) : inpS n m noE = (vecs m.toNat n.toNat, 0) := by
  have h : absentE noE = true := rfl
  unfold inpS givenS holdIn holdsB
  simp [hs, h]
theorem inpS_ok {n m : Int} {e : Ex} (h : (inpS n m e).2 = 0) (hab : absentE e = false) : sizesS n [m] = 0 ∧ condS e 1 = 0 := by
  by_cases hs : sizesS n [m] = 0
  · refine ⟨hs, ?_⟩
    by_cases hc : condS e 1 = 0
    · exact hc
    · rw [inpS_bad hs hc hab] at h; exact absurd h hc
  · unfold inpS at h
    rw [if_pos hs] at h
    exact absurd h hs
theorem mem_filter_dec {α : Type} {f : α → Bool} {L : List α} {v : α} [Decidable (v ∈ L.filter f)] (h : v ∈ L) : decide (v ∈ L.filter f) = f v := by
  cases hf : f v with
  | true => simp [List.mem_filter, h, hf]
  | false => simp [List.mem_filter, hf]
theorem filter_not_len {α : Type} (f g : α → Bool) : ∀ (L : List α), (∀ v ∈ L, g v = !f v) → (L.filter f).length + (L.filter g).length = L.length
  | [], _ => rfl
  | a :: L, h => by
    have ih := filter_not_len f g L fun v hv => h v (by simp [hv])
    have h0 := h a (by simp)
    cases hf : f a with
    | true => rw [hf] at h0; rw [List.filter_cons_of_pos hf, List.filter_cons_of_neg (by simp [h0])]; simp only [List.length_cons]; omega
    | false => rw [hf] at h0; rw [List.filter_cons_of_neg (by simp [hf]), List.filter_cons_of_pos (by simpa using h0)]; simp only [List.length_cons]; omega
theorem filter_le_len {α : Type} (f g : α → Bool) : ∀ (L : List α), (∀ v ∈ L, g v = true → f v = true) → (L.filter g).length ≤ (L.filter f).length
  | [], _ => Nat.le_refl _
  | a :: L, h => by
    have ih := filter_le_len f g L fun v hv => h v (by simp [hv])
    have h0 := h a (by simp)
    cases hg : g a with
    | true => rw [List.filter_cons_of_pos hg, List.filter_cons_of_pos (h0 hg)]; simp only [List.length_cons]; omega
    | false =>
      rw [List.filter_cons_of_neg (by simp [hg])]
      cases hf : f a with
      | true => rw [List.filter_cons_of_pos hf]; simp only [List.length_cons]; omega
      | false => rw [List.filter_cons_of_neg (by simp [hf])]; exact ih
theorem sizes_bd {n m : Int} (hs : sizesS n [m] = 0) : 1 ≤ n ∧ n ≤ 5 ∧ 1 ≤ m ∧ m ≤ 8 := by
  unfold sizesS at hs
  by_cases h : n < 1 ∨ 5 < n ∨ [m].any sizeB = true
  · rw [if_pos h] at hs; omega
  · have h1 : ¬ n < 1 := fun k => h (.inl k)
    have h2 : ¬ 5 < n := fun k => h (.inr (.inl k))
    have h3 : ¬ sizeB m = true := fun k => h (.inr (.inr (by simpa using k)))
    unfold sizeB at h3
    simp at h3
    omega
/-- What the law asks of the vectors. -/
structure CombOk (x y an o nt V : List (List Int)) : Prop where
  le : an.length ≤ x.length
  ne : V.length ≠ 0
  sum : x.length + nt.length = V.length
  and_ : ∀ v ∈ V, decide (v ∈ an) = (decide (v ∈ x) && decide (v ∈ y))
  or_ : ∀ v ∈ V, decide (v ∈ o) = (decide (v ∈ x) || decide (v ∈ y))
  not_ : ∀ v ∈ V, decide (v ∈ nt) = !decide (v ∈ x)
theorem comb_ok {n m : Int} {a b : Ex} (hs : sizesS n [m] = 0) (ha : condS a 1 = 0) (hb : condS b 1 = 0) (na : absentE a = false) (nb : absentE b = false)
    (h1 : condS (andE a b) 1 = 0) (h2 : condS (orE a b) 1 = 0) (h3 : condS (notE a) 1 = 0) :
    CombOk (inpS n m a).1 (inpS n m b).1 (inpS n m (andE a b)).1 (inpS n m (orE a b)).1 (inpS n m (notE a)).1 (inpS n m noE).1 := by
  obtain ⟨b1, b2, b3, b4⟩ := sizes_bd hs
  have hok : ∀ v ∈ vecs m.toNat n.toNat, Sc.ok ⟨n.toNat, v, [], gz⟩ := by
    intro v hv
    rw [vecs_map] at hv
    obtain ⟨i, _, rfl⟩ := List.mem_map.1 hv
    exact dig_ok (by omega) (by omega) (by omega) (by omega) i
  rw [inpS_here hs ha na, inpS_here hs hb nb, inpS_here hs h1 rfl, inpS_here hs h2 rfl, inpS_here hs h3 rfl, inpS_none hs]
  refine ⟨filter_le_len _ _ _ fun v hv h => ?_, ?_, filter_not_len _ _ _ fun v hv => truth_not (hok v hv) ha h3, fun v hv => ?_, fun v hv => ?_, fun v hv => ?_⟩
  · rw [truth_and (hok v hv) ha hb h1] at h; simp only [Bool.and_eq_true] at h; exact h.1
  · rw [vecs_len]
    have : 0 < m.toNat ^ n.toNat := Nat.pow_pos (by omega)
    omega
  · dsimp only
    rw [mem_filter_dec hv, mem_filter_dec hv, mem_filter_dec hv, truth_and (hok v hv) ha hb h1]
  · dsimp only
    rw [mem_filter_dec hv, mem_filter_dec hv, mem_filter_dec hv, truth_or (hok v hv) ha hb h2]
  · dsimp only
    rw [mem_filter_dec hv, mem_filter_dec hv, truth_not (hok v hv) ha h3]
theorem comb_err {n m : Int} {e : Ex} {L : List (List Int)} {k : Int} (hs : sizesS n [m] = 0) (hab : absentE e = false) (h1 : condS e 1 = exchk e 0) (h2 : exchk e 0 = 0 ∨ exchk e 0 = 12) (h : inpS n m e = (L, k)) : (k = 0 ∧ condS e 1 = 0) ∨ k = 12 := by
  rcases h2 with h2 | h2
  · rw [h2] at h1
    rw [inpS_here hs h1 hab] at h
    injection h with _ h
    exact .inl ⟨h.symm, h1⟩
  · rw [h2] at h1
    rw [inpS_bad hs (by omega) hab] at h
    injection h with _ h
    exact .inr (by omega)
end Go.Proofs.YthkididgbaamcaaGreatDoor
