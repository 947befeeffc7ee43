/-
  Numbers of words that are extra, plain: what the program and the reference count.
  Conditions: none.
-/
import Derived.Test.YtmkmgimmlohamaaIncV
namespace Go.Proofs.Ytmkmgimmlohamaa
open Go.RowKit

/-- The moves of the first adversary's state; none without a state. -/
def ownS (A : Adv) (x : Int) : List Mv := if x < 0 then [] else A.st.getD x.toNat []
/-- The pairs to which the moves of the second adversary lead. -/
def stepX (A B : Adv) (p : Int × Int) : List (Int × Int) := (B.st.getD p.2.toNat []).map fun m => (toL (ownS A p.1) m.r, m.to)
/-- How many words with k rounds from a pair are words of the second and not of the first. -/
def exN (A B : Adv) : Nat → Int × Int → Nat
  | 0, p => if p.1 < 0 then 1 else 0
  | k + 1, p => ((stepX A B p).map (exN A B k)).sum
/-- More than this are too many. -/
def bigM : Nat := 1048577
def extraS (A B : Adv) (rounds : Int) : Int × Int :=
  if bothI A B ≠ 0 then (0, bothI A B) else if rounds < 0 ∨ 6 < rounds then (0, 2) else if bigM ≤ exN A B rounds.toNat (0, 0) then (0, 17) else (exN A B rounds.toNat (0, 0), 0)
/-- The rounds of both that are rounds of the second. -/
theorem merge_right : ∀ (xs ys : List Mv), OkM xs → OkM ys → ((mergeS xs ys).filter fun s => decide (0 ≤ s.y)).map (fun s => (s.x, s.y)) = ys.map fun m => (toL xs m.r, m.to) := by
  intro xs ys
  induction xs, ys using mergeS.induct with
  | case1 => intro _ _; simp [mergeS]
  | case2 x xs ih =>
    intro hx hy
    rw [mergeS, List.filter_cons, if_neg (by simp), ih hx.tail hy]
    rfl
  | case3 y ys ih =>
    intro hx hy
    have h0 := hy.head.1
    rw [mergeS, List.filter_cons, if_pos (by simpa using h0), List.map_cons, ih hx hy.tail]
    rfl
  | case4 x xs y ys h1 ih =>
    intro hx hy
    rw [mergeS, if_pos h1, List.filter_cons, if_neg (by simp), ih hx.tail hy]
    refine List.map_congr_left fun m hm => ?_
    have hne : x.r ≠ m.r := by
      rcases List.mem_cons.1 hm with rfl | hm
      · exact rlt_ne (rlt_of h1)
      · exact rlt_ne (rlt_trans (rlt_of h1) (hy.head.2 m hm))
    rw [toL_cons, if_neg hne]
  | case5 x xs y ys h1 h2 ih =>
    intro hx hy
    have h0 := hy.head.1
    have hlt : rlt y.r x.r := rlt_of (by have := rcmp_anti x.r y.r; omega)
    have hxy : ∀ m ∈ x :: xs, m.r ≠ y.r := fun m hm => by
      rcases List.mem_cons.1 hm with rfl | hm
      · exact (rlt_ne hlt).symm
      · exact (rlt_ne (rlt_trans hlt (hx.head.2 m hm))).symm
    rw [mergeS, if_neg h1, if_pos h2, List.filter_cons, if_pos (by simpa using h0), List.map_cons, ih hx hy.tail, List.map_cons, toL_out hxy]
  | case6 x xs y ys h1 h2 ih =>
    intro hx hy
    have he : x.r = y.r := rcmp_zero'.1 (by omega)
    have h0 := hy.head.1
    rw [mergeS, if_neg h1, if_neg h2, List.filter_cons, if_pos (by simpa using h0), List.map_cons, ih hx.tail hy.tail, List.map_cons, toL_cons, if_pos he]
    congr 1
    refine List.map_congr_left fun m hm => ?_
    have hne : x.r ≠ m.r := by rw [he]; exact rlt_ne (hy.head.2 m hm)
    rw [toL_cons, if_neg hne]
theorem okM_own {A : Adv} (hA : achk A = 0) (x : Int) : OkM (ownS A x) := by
  unfold ownS
  by_cases h : x < 0
  · rw [if_pos h]; exact OkM.nil
  · rw [if_neg h]; exact okM_of hA _
theorem stepX_merge {A B : Adv} (hA : achk A = 0) (hB : achk B = 0) (p : Int × Int) : stepX A B p = ((mergeS (ownS A p.1) (B.st.getD p.2.toNat [])).filter fun s => decide (0 ≤ s.y)).map (fun s => (s.x, s.y)) := (merge_right _ _ (okM_own hA _) (okM_of hB _)).symm
/-- A map of pairs to numbers, weighed. -/
def wgt (f : Int × Int → Nat) (l : List ((Int × Int) × Nat)) : Nat := (l.map fun x => x.2 * f x.1).sum
def kv (l : List ((Int × Int) × Nat)) : List ((Int × Int) × Value) := l.map fun x => (x.1, .int .i64 x.2)
def nlook (l : List ((Int × Int) × Nat)) (q : Int × Int) : Nat := ((l.find? fun x => decide (x.1 = q)).map (·.2)).getD 0
def nput : List ((Int × Int) × Nat) → Int × Int → Nat → List ((Int × Int) × Nat)
  | [], q, v => [(q, v)]
  | x :: l, q, v => if q = x.1 then (q, v) :: l else x :: nput l q v
theorem kv_look (q : Int × Int) : ∀ l, (klook (kv l) q).getD (.int .i64 0) = .int .i64 (nlook l q)
  | [] => rfl
  | x :: l => by
    have ih := kv_look q l
    show (if q = x.1 then some (Value.int .i64 x.2) else klook (kv l) q).getD (.int .i64 0) = _
    unfold nlook
    rw [List.find?_cons]
    by_cases h : q = x.1
    · rw [if_pos h, decide_eq_true h.symm]; rfl
    · rw [if_neg h, decide_eq_false (Ne.symm h)]; exact ih
theorem kv_put (q : Int × Int) (v : Nat) : ∀ l, kput (kv l) q (.int .i64 v) = kv (nput l q v)
  | [] => rfl
  | x :: l => by
    have ih := kv_put q v l
    show kput ((x.1, Value.int .i64 x.2) :: kv l) q _ = _
    simp only [kput, nput]
    by_cases h : q = x.1
    · rw [if_pos h, if_pos h]; rfl
    · rw [if_neg h, if_neg h, ih]; rfl
theorem wgt_put (f : Int × Int → Nat) (q : Int × Int) (v : Nat) : ∀ l, wgt f (nput l q v) + nlook l q * f q = wgt f l + v * f q
  | [] => by simp [nput, wgt, nlook]
  | x :: l => by
    have ih := wgt_put f q v l
    unfold nlook at ih ⊢
    rw [List.find?_cons]
    simp only [nput]
    by_cases h : q = x.1
    · rw [if_pos h, decide_eq_true h.symm]
      simp only [wgt, List.map_cons, List.sum_cons, Option.map_some, Option.getD_some]
      rw [← h]
      omega
    · rw [if_neg h, decide_eq_false (Ne.symm h)]
      simp only [wgt, List.map_cons, List.sum_cons] at ih ⊢
      omega
/-- A number is added, up to the bound: what the weights say is the same up to the bound. -/
theorem wgt_add (f : Int × Int → Nat) (l : List ((Int × Int) × Nat)) (q : Int × Int) (n c : Nat) (hn : nlook l q ≤ bigM) : min (wgt f (nput l q (min (nlook l q + n) bigM)) + c) bigM = min (wgt f l + n * f q + c) bigM := by
  have h := wgt_put f q (min (nlook l q + n) bigM) l
  rcases Nat.lt_or_ge (nlook l q + n) bigM with h1 | h1
  · rw [Nat.min_eq_left (Nat.le_of_lt h1), Nat.add_mul] at h
    rw [Nat.min_eq_left (Nat.le_of_lt h1)]
    have e : wgt f (nput l q (nlook l q + n)) = wgt f l + n * f q := by omega
    rw [e]
  · rw [Nat.min_eq_right h1] at h ⊢
    rcases Nat.eq_zero_or_pos (f q) with h0 | h0
    · rw [h0] at h ⊢
      have e : wgt f (nput l q bigM) = wgt f l + n * 0 := by omega
      rw [e]
    · have h2 : bigM * 1 ≤ bigM * f q := Nat.mul_le_mul_left _ h0
      have h3 : nlook l q * f q ≤ bigM * f q := Nat.mul_le_mul_right _ hn
      have h4 : bigM * f q ≤ (nlook l q + n) * f q := Nat.mul_le_mul_right _ h1
      rw [Nat.add_mul] at h4
      have h5 : nlook l q * f q ≤ wgt f l := by
        clear h h1 hn h2 h3 h4
        unfold nlook
        induction l with
        | nil => simp
        | cons x l ih =>
          rw [List.find?_cons]
          by_cases hx : x.1 = q
          · rw [decide_eq_true hx]
            simp only [wgt, List.map_cons, List.sum_cons, Option.map_some, Option.getD_some]
            rw [hx]
            omega
          · rw [decide_eq_false hx]
            simp only [wgt, List.map_cons, List.sum_cons] at ih ⊢
            exact Nat.le_trans ih (Nat.le_add_left ..)
      rw [Nat.min_eq_right (by omega), Nat.min_eq_right (by omega)]
theorem nlook_put (l : List ((Int × Int) × Nat)) (q : Int × Int) (v : Nat) (h : ∀ x ∈ l, x.2 ≤ bigM) (hv : v ≤ bigM) : ∀ x ∈ nput l q v, x.2 ≤ bigM := by
  induction l with
  | nil => intro x hx; simp only [nput, List.mem_singleton] at hx; rw [hx]; exact hv
  | cons y l ih =>
    intro x hx
    simp only [nput] at hx
    by_cases hq : q = y.1
    · rw [if_pos hq] at hx
      rcases List.mem_cons.1 hx with rfl | hx
      · exact hv
      · exact h x (List.mem_cons_of_mem _ hx)
    · rw [if_neg hq] at hx
      rcases List.mem_cons.1 hx with rfl | hx
      · exact h _ (List.mem_cons_self ..)
      · exact ih (fun z hz => h z (List.mem_cons_of_mem _ hz)) x hx
theorem nput_mem (l : List ((Int × Int) × Nat)) (q : Int × Int) (v : Nat) : ∀ x ∈ nput l q v, x.1 = q ∨ x ∈ l := by
  induction l with
  | nil => intro x hx; simp only [nput, List.mem_singleton] at hx; rw [hx]; exact .inl rfl
  | cons y l ih =>
    intro x hx
    simp only [nput] at hx
    by_cases hq : q = y.1
    · rw [if_pos hq] at hx
      rcases List.mem_cons.1 hx with rfl | hx
      · exact .inl rfl
      · exact .inr (List.mem_cons_of_mem _ hx)
    · rw [if_neg hq] at hx
      rcases List.mem_cons.1 hx with rfl | hx
      · exact .inr (List.mem_cons_self ..)
      · rcases ih x hx with h | h
        · exact .inl h
        · exact .inr (List.mem_cons_of_mem _ h)
theorem nlook_le {l : List ((Int × Int) × Nat)} (h : ∀ x ∈ l, x.2 ≤ bigM) (q : Int × Int) : nlook l q ≤ bigM := by
  unfold nlook
  cases hf : l.find? fun x => decide (x.1 = q) with
  | none => simp
  | some x => exact h x (List.mem_of_find?_eq_some hf)
theorem wgt_app (f : Int × Int → Nat) (l m : List ((Int × Int) × Nat)) : wgt f (l ++ m) = wgt f l + wgt f m := by unfold wgt; rw [List.map_append, List.sum_append]
theorem wgt_cons (f : Int × Int → Nat) (x : (Int × Int) × Nat) (m : List ((Int × Int) × Nat)) : wgt f (x :: m) = x.2 * f x.1 + wgt f m := rfl
/-- The pairs are states. -/
def okX (A B : Adv) (p : Int × Int) : Prop := p.1 < A.L ∧ 0 ≤ p.2 ∧ p.2 < B.L
theorem ownS_bd {A : Adv} (hA : achk A = 0) {x : Int} (hx : x < A.L) (r : Rd) : toL (ownS A x) r < A.L := by
  unfold ownS
  by_cases h : x < 0
  · rw [if_pos h, toL_nil]; have := (achk_zero hA).2.2.1; omega
  · rw [if_neg h]; exact (toL_bd hA (s := x.toNat) (by omega) r).2
theorem okX_step {A B : Adv} (hA : achk A = 0) (hB : achk B = 0) {p : Int × Int} (h : okX A B p) {e : St} (he : e ∈ mergeS (ownS A p.1) (B.st.getD p.2.toNat [])) (hy : 0 ≤ e.y) : okX A B (e.x, e.y) := by
  obtain ⟨h1, h2, h3⟩ := h
  obtain ⟨_, k2, k3⟩ := (merge_mem _ _ (okM_own hA _) (okM_of hB _) e).1 he
  refine ⟨?_, hy, ?_⟩
  · show e.x < _
    rw [k2]; exact ownS_bd hA h1 _
  · show e.y < _
    rw [k3]; exact (toL_bd hB (s := p.2.toNat) (by omega) _).2
/-- What is left of a pair's rounds, weighed. -/
def wst (f : Int × Int → Nat) (L : List St) : Nat := ((L.filter fun s => decide (0 ≤ s.y)).map fun s => f (s.x, s.y)).sum
theorem wst_cons (f : Int × Int → Nat) (e : St) (L : List St) : wst f (e :: L) = (if 0 ≤ e.y then f (e.x, e.y) else 0) + wst f L := by
  unfold wst
  rw [List.filter_cons]
  by_cases h : 0 ≤ e.y
  · rw [if_pos (by simpa using h), if_pos h]; rfl
  · rw [if_neg (by simpa using h), if_neg h]; simp
theorem exN_succ {A B : Adv} (hA : achk A = 0) (hB : achk B = 0) (k : Nat) (p : Int × Int) : exN A B (k + 1) p = wst (exN A B k) (mergeS (ownS A p.1) (B.st.getD p.2.toNat [])) := by
  show ((stepX A B p).map (exN A B k)).sum = _
  rw [stepX_merge hA hB, List.map_map]
  rfl
end Go.Proofs.Ytmkmgimmlohamaa
