/-
  Plain law: the task of a conjunction is the meet of the tasks, that of a disjunction their join, where all inputs are permitted and no other decisions are asked without faults.
  Conditions: as each theorem states.
-/
import Derived.Test.YthkididgbaamcaaGreatDoorPermLaw
import Derived.Test.YthkididgbaamcaaGreatDoorComb13
namespace Go.Proofs.YthkididgbaamcaaGreatDoor

/-! ### Conditions that are combined -/
theorem exchk_of {e : Ex} (h1 : e.nodes ≤ 128) (h2 : e.depth ≤ 24) (h3 : nodesE e 0 = 0) : exchk e 0 = 0 := by
  unfold exchk
  rw [if_neg (by omega), if_neg (by omega), if_neg (by omega)]; exact h3
theorem nodes_parts {op : Int} {a b : Ex} (ho : op = 10 ∨ op = 11) (h : nodesE (.mk op 0 [a, b]) 0 = 0) : nodesE a 0 = 0 ∧ nodesE b 0 = 0 ∧ kindOf a.op = 1 ∧ kindOf b.op = 1 := by
  have hq : isQ op = false := by rcases ho with rfl | rfl <;> rfl
  have hz : nodeErr (.mk op 0 [a, b]) 0 = 0 := by
    by_cases h1 : nodeErr (.mk op 0 [a, b]) 0 = 0
    · exact h1
    · simp only [nodesE] at h; rw [if_pos h1] at h; exact absurd h h1
  have hL : nodesEL [a, b] 0 = 0 := by
    simp only [nodesE] at h
    rw [if_neg (fun k => k hz), show innerV op 0 = 0 by unfold innerV; rw [hq]; rfl] at h; exact h
  have ha : nodesE a 0 = 0 := by
    by_cases h1 : nodesE a 0 = 0
    · exact h1
    · simp only [nodesEL] at hL; rw [if_pos h1] at hL; exact absurd hL h1
  have hb : nodesE b 0 = 0 := by
    by_cases h1 : nodesE b 0 = 0
    · exact h1
    · simp only [nodesEL] at hL; rw [if_neg (fun k => k ha), if_pos h1] at hL; exact absurd hL h1
  have hbad : ([a, b].any (badArg op)) = false := by
    have he : nodeErr (.mk op 0 [a, b]) 0 = if [a, b].any (badArg op) = true then 9 else 0 := by
      rcases ho with rfl | rfl <;> simp [nodeErr, Ex.op, Ex.args, Ex.num, arity]
    rw [he] at hz
    cases hx : ([a, b].any (badArg op))
    · rfl
    · rw [hx, if_pos rfl] at hz; exact absurd hz (by decide)
  have hk : argKind op = 1 := by rcases ho with rfl | rfl <;> rfl
  simp only [List.any_cons, List.any_nil, Bool.or_false, Bool.or_eq_false_iff] at hbad
  have key : ∀ x : Ex, nodesE x 0 = 0 → badArg op x = false → kindOf x.op = 1 := fun x hx hb => by
    have := arity_known hx
    unfold badArg at hb
    rw [hk] at hb
    simpa [this] using hb
  exact ⟨ha, hb, key a ha hbad.1, key b hb hbad.2⟩
theorem uses_table : ((List.range 8).all fun a => (List.range 8).all fun b => decide (((a ||| b) &&& 3 = a ||| b) ↔ (a &&& 3 = a ∧ b &&& 3 = b))) = true := by decide
theorem uses_parts {a b : Nat} (ha : a < 8) (hb : b < 8) : ((a ||| b) &&& 3 = a ||| b) ↔ (a &&& 3 = a ∧ b &&& 3 = b) := by
  have h := uses_table
  rw [List.all_eq_true] at h
  have h := h a (List.mem_range.2 ha)
  rw [List.all_eq_true] at h
  exact of_decide_eq_true (h b (List.mem_range.2 hb))
theorem cond_split {op : Int} {a b : Ex} (ho : op = 10 ∨ op = 11) (h : condS (.mk op 0 [a, b]) 3 = 0) : condS a 3 = 0 ∧ condS b 3 = 0 := by
  obtain ⟨h1, _, h3⟩ := condS_parts h
  obtain ⟨n1, n2, n3⟩ := exchk_parts h1
  obtain ⟨ha, hb, ka, kb⟩ := nodes_parts ho n3
  have hu : useOf op = 0 := by rcases ho with rfl | rfl <;> rfl
  have e3 : usesE (.mk op 0 [a, b]) = usesE a ||| usesE b := by simp [usesE, usesL, hu]
  rw [e3] at h3
  obtain ⟨ua, ub⟩ := (uses_parts (usesE_lt a) (usesE_lt b)).1 h3
  have d1 : a.nodes ≤ 128 ∧ b.nodes ≤ 128 := by simp only [Ex.nodes, Ex.nodesL] at n1; omega
  have d2 : a.depth ≤ 24 ∧ b.depth ≤ 24 := by simp only [Ex.depth, Ex.depthL] at n2; omega
  have key : ∀ x : Ex, x.nodes ≤ 128 → x.depth ≤ 24 → nodesE x 0 = 0 → kindOf x.op = 1 → usesE x &&& 3 = usesE x → condS x 3 = 0 := fun x x1 x2 x3 x4 x5 => by
    unfold condS
    rw [if_neg (fun k => k (exchk_of x1 x2 x3)), if_neg (fun k => k x4), if_neg (fun k => k x5)]
  exact ⟨key a d1.1 d2.1 ha ka ua, key b d1.2 d2.2 hb kb ub⟩
theorem cond_or {a b : Ex} (h : condS (andE a b) 3 = 0) : condS (orE a b) 3 = 0 := by
  obtain ⟨h1, _, h3⟩ := condS_parts h
  obtain ⟨n1, n2, n3⟩ := exchk_parts h1
  obtain ⟨ha, hb, ka, kb⟩ := nodes_parts (.inl rfl) n3
  have x3 := nodesE_two (op := 11) (.inr rfl) ha hb ka kb
  have x1 : (orE a b).nodes ≤ 128 := by simpa only [Ex.nodes] using n1
  have x2 : (orE a b).depth ≤ 24 := by simpa only [Ex.depth] using n2
  have e3 : usesE (orE a b) = usesE (andE a b) := by simp [usesE, useOf]
  unfold condS
  rw [if_neg (fun k => k (exchk_of x1 x2 x3)), if_neg (fun k => k rfl), if_neg (by rw [e3]; exact fun k => k h3)]
theorem cond_here {e : Ex} {u : Nat} (h : condS e u = 0) : absentE e = false := by
  obtain ⟨_, h2, _⟩ := condS_parts h
  unfold absentE
  cases hx : (e.op == 0)
  · rfl
  · rw [beq_iff_eq] at hx; rw [hx] at h2; exact absurd h2 (by decide)
theorem truth_and3 {s : Sc} (hs : s.ok) {a b : Ex} (ha : condS a 3 = 0) (hb : condS b 3 = 0) (h : condS (andE a b) 3 = 0) : truthB s (andE a b) = (truthB s a && truthB s b) := by
  rw [truth_val h, truth_val ha, truth_val hb, valE_and]
  rcases cond_01 hs ha with h1 | h1 <;> rcases cond_01 hs hb with h2 | h2 <;> rw [h1, h2] <;> rfl
theorem truth_or3 {s : Sc} (hs : s.ok) {a b : Ex} (ha : condS a 3 = 0) (hb : condS b 3 = 0) (h : condS (orE a b) 3 = 0) : truthB s (orE a b) = (truthB s a || truthB s b) := by
  rw [truth_val h, truth_val ha, truth_val hb, valE_or]
  rcases cond_01 hs ha with h1 | h1 <;> rcases cond_01 hs hb with h2 | h2 <;> rw [h1, h2] <;> rfl

/-! ### Lists of vectors that ascend -/
abbrev Asc (l : List (List Int)) : Prop := l.Pairwise fun a b => ordL a b = -1
theorem pw_unique {α : Type} {R : α → α → Prop} (irr : ∀ x, ¬ R x x) (tr : ∀ {x y z}, R x y → R y z → R x z) : ∀ {l m : List α}, l.Pairwise R → m.Pairwise R → (∀ p, p ∈ l ↔ p ∈ m) → l = m
  | [], [], _, _, _ => rfl
  | [], b :: m, _, _, h => by have := (h b).2 (by simp); simp at this
  | a :: l, [], _, _, h => by have := (h a).1 (by simp); simp at this
  | a :: l, b :: m, hl, hm, h => by
    rw [List.pairwise_cons] at hl hm
    have e : a = b := by
      rcases List.mem_cons.1 ((h a).1 (by simp)) with e | h1
      · exact e
      · rcases List.mem_cons.1 ((h b).2 (by simp)) with e | h2
        · exact e.symm
        · exact absurd (tr (hl.1 _ h2) (hm.1 _ h1)) (irr a)
    subst e
    congr 1
    refine pw_unique irr tr hl.2 hm.2 fun p => ⟨fun hp => ?_, fun hp => ?_⟩
    · rcases List.mem_cons.1 ((h p).1 (List.mem_cons_of_mem _ hp)) with e | h1
      · subst e; exact absurd (hl.1 _ hp) (irr p)
      · exact h1
    · rcases List.mem_cons.1 ((h p).2 (List.mem_cons_of_mem _ hp)) with e | h1
      · subst e; exact absurd (hm.1 _ hp) (irr p)
      · exact h1
theorem asc_irr (x : List Int) : ¬ ordL x x = -1 := by rw [ordL_zero.2 rfl]; decide
theorem asc_unique {l m : List (List Int)} (hl : Asc l) (hm : Asc m) (h : ∀ p, p ∈ l ↔ p ∈ m) : l = m := pw_unique (R := fun a b => ordL a b = -1) asc_irr (fun h k => ordL_trans h k) hl hm h
/-- A vector into an ascending list. -/
def insV (v : List Int) : List (List Int) → List (List Int)
  | [] => [v]
  | x :: l => if ordL v x = -1 then v :: x :: l else if v = x then x :: l else x :: insV v l
theorem mem_insV (v : List Int) : ∀ (l : List (List Int)) (p : List Int), p ∈ insV v l ↔ p = v ∨ p ∈ l
  | [], p => by simp [insV]
  | x :: l, p => by
    unfold insV
    split
    · simp
    · split
      · next h => subst h; simp
      · rw [List.mem_cons, mem_insV v l p, List.mem_cons]
        constructor
        · rintro (h | h | h)
          · exact .inr (.inl h)
          · exact .inl h
          · exact .inr (.inr h)
        · rintro (h | h | h)
          · exact .inr (.inl h)
          · exact .inl h
          · exact .inr (.inr h)
theorem asc_insV (v : List Int) : ∀ (l : List (List Int)), Asc l → Asc (insV v l)
  | [], _ => List.pairwise_singleton _ _
  | x :: l, h => by
    have hl := List.pairwise_cons.1 h
    unfold insV
    split
    · next h1 => exact List.pairwise_cons.2 ⟨fun p hp => by
        rcases List.mem_cons.1 hp with e | h2
        · rw [e]; exact h1
        · exact ordL_trans h1 (hl.1 _ h2), h⟩
    · next h1 =>
      split
      · exact h
      · next h2 =>
        refine List.pairwise_cons.2 ⟨fun p hp => ?_, asc_insV v l hl.2⟩
        rcases (mem_insV v l p).1 hp with e | h3
        · subst e
          rcases ordL_cases p x with h4 | h4 | h4
          · exact absurd h4 h1
          · exact absurd (ordL_zero.1 h4) h2
          · rw [ordL_swap p x, h4]
        · exact hl.1 _ h3
/-- The vectors of both lists, in ascending order. -/
def joinL (x y : List (List Int)) : List (List Int) := (x ++ y).foldr insV []
theorem foldr_ins (l : List (List Int)) : Asc (l.foldr insV []) ∧ ∀ p, p ∈ l.foldr insV [] ↔ p ∈ l := by
  induction l with
  | nil => exact ⟨List.Pairwise.nil, fun p => Iff.rfl⟩
  | cons v l ih =>
    refine ⟨asc_insV v _ ih.1, fun p => ?_⟩
    rw [List.foldr_cons, mem_insV, ih.2, List.mem_cons]
theorem joinL_asc (x y : List (List Int)) : Asc (joinL x y) := (foldr_ins _).1
theorem mem_joinL (x y : List (List Int)) (p : List Int) : p ∈ joinL x y ↔ p ∈ x ∨ p ∈ y := by unfold joinL; rw [(foldr_ins _).2, List.mem_append]
/-- The vectors of x that y has, too. -/
def meetL (x y : List (List Int)) : List (List Int) := x.filter fun v => decide (v ∈ y)

/-! ### Tasks -/
/-- A task that has a case for each input, without vectors of its own for no faulty processes. -/
def tkOf (N Mi Mo : Nat) (f : List Int → List (List Int)) : Tk := ⟨N, Mi, Mo, (vecs Mi N).map fun x => ⟨x, f x, []⟩⟩
def outL (N Mo : Nat) (e : Ex) (x : List Int) : List (List Int) := (vecs Mo N).filter (holdOut N x e)
/-- A declaration that has a condition on decisions only. -/
def dcOf (Mi Mo : Nat) (e : Ex) : Dc := ⟨Mi, Mo, noE, e, noE⟩
/-- Some input has no outputs. -/
def emptyB (N Mi : Nat) (f : List Int → List (List Int)) : Bool := (vecs Mi N).any fun x => (f x).isEmpty
def meetS (N Mi Mo : Nat) (f g : List Int → List (List Int)) : Tk × Int := if emptyB N Mi (fun x => meetL (f x) (g x)) = true then (.zero, 16) else (tkOf N Mi Mo fun x => meetL (f x) (g x), 0)
def joinS (N Mi Mo : Nat) (f g : List Int → List (List Int)) : Tk × Int := (tkOf N Mi Mo fun x => joinL (f x) (g x), 0)
theorem vecs_ne {M N : Nat} (h : 1 ≤ M) : vecs M N ≠ [] := by
  intro e
  have h1 : (vecs M N).length = 0 := by rw [e]; rfl
  rw [vecs_len] at h1
  have : 0 < M ^ N := Nat.pow_pos (by omega)
  omega
structure Small (N Mi Mo : Nat) : Prop where
  n1 : 1 ≤ N
  n2 : N ≤ 2
  i1 : 1 ≤ Mi
  i2 : Mi ≤ 2
  o1 : 1 ≤ Mo
  o3 : Mo ≤ 3
theorem Small.fewI {N Mi Mo : Nat} (h : Small N Mi Mo) : Mi ^ N ≤ 4 :=
  Nat.le_trans (Nat.pow_le_pow_left h.i2 N) (Nat.le_trans (Nat.pow_le_pow_right (by omega) h.n2) (by decide))
theorem Small.fewO {N Mi Mo : Nat} (h : Small N Mi Mo) : Mo ^ N ≤ 9 :=
  Nat.le_trans (Nat.pow_le_pow_left h.o3 N) (Nat.le_trans (Nat.pow_le_pow_right (by omega) h.n2) (by decide))
theorem Small.v1 {N Mi Mo : Nat} (h : Small N Mi Mo) : fewV (N : Int) (Mi : Int) := fun _ _ _ _ => by
  rw [Int.toNat_natCast, Int.toNat_natCast]; have := h.fewI; omega
theorem Small.v2 {N Mi Mo : Nat} (h : Small N Mi Mo) : fewV (N : Int) (Mo : Int) := fun _ _ _ _ => by
  rw [Int.toNat_natCast, Int.toNat_natCast]; have := h.fewO; omega
theorem inp_all {N Mi Mo : Nat} (h : Small N Mi Mo) : inpS (N : Int) (Mi : Int) noE = (vecs Mi N, 0) := by
  have a1 := h.n1; have a2 := h.n2; have a3 := h.i1; have a4 := h.i2
  rw [inpS_none (sizes_ok (by omega) (by omega) (by omega) (by omega)), Int.toNat_natCast, Int.toNat_natCast]
theorem sizes_small {N Mi Mo : Nat} (h : Small N Mi Mo) : sizesS (N : Int) [(Mi : Int), (Mo : Int)] = 0 := by
  have a1 := h.n1; have a2 := h.n2; have a3 := h.i1; have a4 := h.i2; have a5 := h.o1; have a6 := h.o3
  unfold sizesS sizeB
  rw [if_neg]
  simp only [List.any_cons, List.any_nil, Bool.or_false, Bool.or_eq_true, decide_eq_true_eq]
  omega
theorem task_plain {N Mi Mo : Nat} (h : Small N Mi Mo) {e : Ex} (hc : condS e 3 = 0) :
    taskS N (dcOf Mi Mo e) = if emptyB N Mi (outL N Mo e) = true then (.zero, 16) else (tkOf N Mi Mo (outL N Mo e), 0) := by
  have hab : absentE noE = true := rfl
  have hg : ∀ u, givenS noE u = 0 := fun u => by unfold givenS; rw [if_pos hab]
  have hcase : ∀ x, caseS N Mo (dcOf Mi Mo e) x = ⟨x, outL N Mo e x, []⟩ := fun x => by
    show (⟨x, outL N Mo e x, if absentE noE = true then [] else _⟩ : Cs) = _
    rw [if_pos hab]
  have hbad : ∀ x, caseBad (dcOf Mi Mo e) (caseS N Mo (dcOf Mi Mo e) x) = (outL N Mo e x).isEmpty := fun x => by
    rw [hcase]
    show ((outL N Mo e x).isEmpty || (!absentE noE && (([] : List (List Int)).isEmpty))) = _
    rw [hab]; simp
  unfold taskS
  rw [if_neg (fun k => k (sizes_small h)), if_neg (fun k => k (hg 1)), if_neg (fun k => k hc), if_neg (fun k => k (hg 3))]
  show (if (inpS (N : Int) (Mi : Int) noE).1 = [] then _ else _) = _
  rw [show (inpS (N : Int) (dcOf Mi Mo e).ins (dcOf Mi Mo e).wh) = (vecs Mi N, 0) from inp_all h, inp_all h, if_neg (vecs_ne h.i1)]
  show (if ((vecs Mi N).any fun x => caseBad (dcOf Mi Mo e) (caseS (N : Int).toNat (Mo : Int).toNat (dcOf Mi Mo e) x)) = true then _ else ((⟨N, Mi, Mo, (vecs Mi N).map (caseS (N : Int).toNat (Mo : Int).toNat (dcOf Mi Mo e))⟩ : Tk), (0 : Int))) = _
  rw [Int.toNat_natCast, Int.toNat_natCast, funext hbad, show (caseS N Mo (dcOf Mi Mo e)) = fun x => ⟨x, outL N Mo e x, []⟩ from funext hcase]
  rfl
theorem scene_ok {N Mi Mo : Nat} (h : Small N Mi Mo) {x y : List Int} (hx : x ∈ vecs Mi N) (hy : y ∈ vecs Mo N) : Sc.ok ⟨N, x, y, gz⟩ := by
  have a1 := h.n1; have a2 := h.n2; have a3 := h.i1; have a4 := h.i2; have a5 := h.o1; have a6 := h.o3
  rw [vecs_map] at hy
  obtain ⟨i, _, rfl⟩ := List.mem_map.1 hy
  refine dig_ok2 (by omega) (by omega) (by omega) (by omega) ?_ i
  rw [List.any_eq_false]
  intro v hv
  have := vecs_bd h.i1 hx v hv
  unfold outBad
  simp only [Bool.or_eq_true, decide_eq_true_eq]
  omega
theorem holdOut_here {N : Nat} {x y : List Int} {e : Ex} (h : condS e 3 = 0) : holdOut N x e y = truthB ⟨N, x, y, gz⟩ e := by
  unfold holdOut holdsB
  rw [cond_here h, Bool.false_or]
theorem out_meet {N Mi Mo : Nat} (h : Small N Mi Mo) {a b : Ex} (hc : condS (andE a b) 3 = 0) {x : List Int} (hx : x ∈ vecs Mi N) : meetL (outL N Mo a x) (outL N Mo b x) = outL N Mo (andE a b) x := by
  obtain ⟨ha, hb⟩ := cond_split (.inl rfl) hc
  unfold meetL outL
  rw [List.filter_filter]
  refine List.filter_congr fun y hy => ?_
  rw [holdOut_here hc, truth_and3 (scene_ok h hx hy) ha hb hc, mem_filter_dec hy, holdOut_here ha, holdOut_here hb, Bool.and_comm]
theorem outL_asc (N Mo : Nat) (e : Ex) (x : List Int) : Asc (outL N Mo e x) := (vecs_asc Mo N).filter _
theorem out_join {N Mi Mo : Nat} (h : Small N Mi Mo) {a b : Ex} (hc : condS (andE a b) 3 = 0) {x : List Int} (hx : x ∈ vecs Mi N) : joinL (outL N Mo a x) (outL N Mo b x) = outL N Mo (orE a b) x := by
  obtain ⟨ha, hb⟩ := cond_split (.inl rfl) hc
  have ho := cond_or hc
  refine asc_unique (joinL_asc _ _) (outL_asc _ _ _ _) fun y => ?_
  rw [mem_joinL]
  unfold outL
  simp only [List.mem_filter]
  constructor
  · rintro (⟨hy, h1⟩ | ⟨hy, h1⟩)
    · refine ⟨hy, ?_⟩
      rw [holdOut_here ha] at h1
      rw [holdOut_here ho, truth_or3 (scene_ok h hx hy) ha hb ho, h1, Bool.true_or]
    · refine ⟨hy, ?_⟩
      rw [holdOut_here hb] at h1
      rw [holdOut_here ho, truth_or3 (scene_ok h hx hy) ha hb ho, h1, Bool.or_true]
  · rintro ⟨hy, h1⟩
    rw [holdOut_here ho, truth_or3 (scene_ok h hx hy) ha hb ho, Bool.or_eq_true] at h1
    rcases h1 with h1 | h1
    · exact .inl ⟨hy, by rw [holdOut_here ha]; exact h1⟩
    · exact .inr ⟨hy, by rw [holdOut_here hb]; exact h1⟩
theorem tkOf_congr {N Mi Mo : Nat} {f g : List Int → List (List Int)} (h : ∀ x ∈ vecs Mi N, f x = g x) : tkOf N Mi Mo f = tkOf N Mi Mo g := by
  unfold tkOf
  congr 1
  exact List.map_congr_left fun x hx => by rw [h x hx]
theorem emptyB_congr {N Mi : Nat} {f g : List Int → List (List Int)} (h : ∀ x ∈ vecs Mi N, f x = g x) : emptyB N Mi f = emptyB N Mi g := by
  unfold emptyB
  rw [Bool.eq_iff_iff, List.any_eq_true, List.any_eq_true]
  exact ⟨fun ⟨x, hx, k⟩ => ⟨x, hx, by rw [← h x hx]; exact k⟩, fun ⟨x, hx, k⟩ => ⟨x, hx, by rw [h x hx]; exact k⟩⟩
/-- The task of a conjunction is the meet. -/
theorem task_meet {N Mi Mo : Nat} (h : Small N Mi Mo) {a b : Ex} (hc : condS (andE a b) 3 = 0) : taskS N (dcOf Mi Mo (andE a b)) = meetS N Mi Mo (outL N Mo a) (outL N Mo b) := by
  have e : ∀ x ∈ vecs Mi N, outL N Mo (andE a b) x = meetL (outL N Mo a x) (outL N Mo b x) := fun x hx => (out_meet h hc hx).symm
  rw [task_plain h hc, emptyB_congr e, tkOf_congr e]; rfl
/-- The task of a disjunction is the join. -/
theorem task_join {N Mi Mo : Nat} (h : Small N Mi Mo) {a b : Ex} (hc : condS (andE a b) 3 = 0) (hne : emptyB N Mi (outL N Mo a) = false) : taskS N (dcOf Mi Mo (orE a b)) = joinS N Mi Mo (outL N Mo a) (outL N Mo b) := by
  have e : ∀ x ∈ vecs Mi N, outL N Mo (orE a b) x = joinL (outL N Mo a x) (outL N Mo b x) := fun x hx => (out_join h hc hx).symm
  rw [task_plain h (cond_or hc), emptyB_congr e, tkOf_congr e, if_neg]
  · rfl
  · intro k
    unfold emptyB at k hne
    rw [List.any_eq_true] at k
    obtain ⟨x, hx, k⟩ := k
    rw [List.any_eq_false] at hne
    have := hne x hx
    rw [List.isEmpty_iff] at this k
    apply this
    rw [List.eq_nil_iff_forall_not_mem] at k ⊢
    exact fun y hy => k y ((mem_joinL _ _ _).2 (.inl hy))
/-- What is known of a task that is made of a condition on decisions. -/
structure PlainTk (N Mi Mo : Nat) (f : List Int → List (List Int)) : Prop where
  sm : Small N Mi Mo
  ok : tkE (tkOf N Mi Mo f) = 0
  asc : ∀ x, Asc (f x)
  ne : ∀ x ∈ vecs Mi N, f x ≠ []
  len : ∀ x, (f x).length ≤ 9
  row : ∀ x, ∀ y ∈ f x, y.length = N
theorem plain_tk {N Mi Mo : Nat} (h : Small N Mi Mo) {e : Ex} (hc : condS e 3 = 0) (hz : (taskS N (dcOf Mi Mo e)).2 = 0) :
    taskS N (dcOf Mi Mo e) = (tkOf N Mi Mo (outL N Mo e), 0) ∧ emptyB N Mi (outL N Mo e) = false ∧ PlainTk N Mi Mo (outL N Mo e) := by
  have e1 := task_plain h hc
  have hne : emptyB N Mi (outL N Mo e) = false := by
    cases hx : emptyB N Mi (outL N Mo e)
    · rfl
    · rw [e1, hx, if_pos rfl] at hz; exact absurd hz (by decide)
  rw [hne, if_neg (by decide)] at e1
  refine ⟨e1, hne, h, ?_, fun x => outL_asc _ _ _ _, fun x hx k => ?_, fun x => ?_, fun x y hy => vecs_all_len (mem_filt hy)⟩
  · obtain ⟨N', Mi', Mo', _, _, _, hm⟩ := made_of hz h.v1 h.v2
    have := hm.ok
    rw [e1] at this
    exact this
  · unfold emptyB at hne
    rw [List.any_eq_false] at hne
    exact hne x hx (by rw [k]; rfl)
  · refine Nat.le_trans (List.length_filter_le _ _) ?_
    rw [vecs_len]; exact h.fewO
theorem task_err {N Mi Mo : Nat} (h : Small N Mi Mo) {e : Ex} (hc : condS e 3 = 0) (hz : (taskS N (dcOf Mi Mo e)).2 ≠ 0) : (taskS N (dcOf Mi Mo e)).2 = 16 := by
  rw [task_plain h hc] at hz ⊢
  split
  · rfl
  · next k => rw [if_neg k] at hz; exact absurd rfl hz
end Go.Proofs.YthkididgbaamcaaGreatDoor
