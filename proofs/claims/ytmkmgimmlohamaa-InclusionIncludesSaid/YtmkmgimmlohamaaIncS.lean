/-
  Inclusion of adversaries, plain: the rounds of two states, and what a search of the pairs of states finds.
  Conditions: none.
-/
import Derived.Test.YtmkmgimmlohamaaBfs
import Derived.Test.YtmkmgimmlohamaaIndex
import Derived.Test.YtmkmgimmlohamaaAdvRef5
namespace Go.Proofs.Ytmkmgimmlohamaa

/-- A round, with the states to which it leads in two adversaries, or -1. -/
structure St where
  r : Rd
  x : Int
  y : Int
  deriving DecidableEq
instance : Inhabited St := ⟨⟨default, -1, -1⟩⟩
/-- The rounds of two states in ascending order. -/
def mergeS : List Mv → List Mv → List St
  | [], [] => []
  | x :: xs, [] => ⟨x.r, x.to, -1⟩ :: mergeS xs []
  | [], y :: ys => ⟨y.r, -1, y.to⟩ :: mergeS [] ys
  | x :: xs, y :: ys => if rcmp x.r y.r < 0 then ⟨x.r, x.to, -1⟩ :: mergeS xs (y :: ys) else if 0 < rcmp x.r y.r then ⟨y.r, -1, y.to⟩ :: mergeS (x :: xs) ys else ⟨y.r, x.to, y.to⟩ :: mergeS xs ys
termination_by xs ys => xs.length + ys.length

/-- Moves in ascending order, to states. -/
structure OkM (ms : List Mv) : Prop where
  asc : ms.Pairwise fun a b => rlt a.r b.r
  to : ∀ m ∈ ms, 0 ≤ m.to
theorem OkM.nil : OkM [] := ⟨List.Pairwise.nil, fun m h => by cases h⟩
theorem OkM.tail {m : Mv} {ms : List Mv} (h : OkM (m :: ms)) : OkM ms := ⟨(List.pairwise_cons.1 h.asc).2, fun x hx => h.to x (List.mem_cons_of_mem _ hx)⟩
theorem OkM.head {m : Mv} {ms : List Mv} (h : OkM (m :: ms)) : 0 ≤ m.to ∧ ∀ x ∈ ms, rlt m.r x.r := ⟨h.to m (List.mem_cons_self ..), (List.pairwise_cons.1 h.asc).1⟩
theorem rlt_ne {x y : Rd} (h : rlt x y) : x ≠ y := fun e => rlt_irrefl y (e ▸ h)
theorem rlt_of {x y : Rd} (h : rcmp x y < 0) : rlt x y := by
  have o := (rcmp_ord x y x).x1
  unfold rlt
  omega
theorem toL_cons (m : Mv) (ms : List Mv) (r : Rd) : toL (m :: ms) r = if m.r = r then m.to else toL ms r := by
  unfold toL
  rw [List.find?_cons]
  by_cases h : m.r = r
  · rw [if_pos h, req_iff.2 h]
  · rw [if_neg h]
    cases hq : req m.r r
    · rfl
    · exact absurd (req_iff.1 hq) h
theorem toL_nil (r : Rd) : toL [] r = -1 := rfl
theorem toL_out {ms : List Mv} {r : Rd} (h : ∀ m ∈ ms, m.r ≠ r) : toL ms r = -1 := by
  induction ms with
  | nil => rfl
  | cons m ms ih => rw [toL_cons, if_neg (h m (List.mem_cons_self ..))]; exact ih fun x hx => h x (List.mem_cons_of_mem _ hx)
theorem toL_in {ms : List Mv} (h : OkM ms) {m : Mv} (hm : m ∈ ms) : toL ms m.r = m.to := by
  induction ms with
  | nil => cases hm
  | cons x ms ih =>
    rw [toL_cons]
    rcases List.mem_cons.1 hm with rfl | hm
    · rw [if_pos rfl]
    · rw [if_neg (rlt_ne (h.head.2 m hm))]; exact ih h.tail hm
theorem toL_ge {ms : List Mv} (h : OkM ms) (r : Rd) : 0 ≤ toL ms r ↔ ∃ m ∈ ms, m.r = r := by
  constructor
  · intro h0
    refine Classical.byContradiction fun hn => ?_
    rw [toL_out fun m hm hr => hn ⟨m, hm, hr⟩] at h0
    exact absurd h0 (by decide)
  · rintro ⟨m, hm, rfl⟩
    rw [toL_in h hm]; exact h.to m hm
theorem toL_lt {ms : List Mv} (h : OkM ms) (r : Rd) : toL ms r < 0 ↔ toL ms r = -1 := by
  constructor
  · intro h0
    exact toL_out fun m hm hr => by
      have := (toL_ge h r).2 ⟨m, hm, hr⟩
      omega
  · intro h0; omega
/-- The rounds of two states are those of the one or the other, each with where it leads. -/
theorem merge_mem : ∀ (xs ys : List Mv), OkM xs → OkM ys → ∀ s, s ∈ mergeS xs ys ↔ ((∃ m ∈ xs, m.r = s.r) ∨ (∃ m ∈ ys, m.r = s.r)) ∧ s.x = toL xs s.r ∧ s.y = toL ys s.r
  | [], [], _, _, s => by simp [mergeS]
  | x :: xs, [], hx, hy, s => by
    rw [mergeS, List.mem_cons, merge_mem xs [] hx.tail hy s, toL_nil, toL_cons]
    constructor
    · rintro (rfl | ⟨h1, h2, h3⟩)
      · exact ⟨.inl ⟨x, List.mem_cons_self .., rfl⟩, by rw [if_pos rfl], rfl⟩
      · rcases h1 with ⟨m, hm, hr⟩ | ⟨m, hm, _⟩
        · refine ⟨.inl ⟨m, List.mem_cons_of_mem _ hm, hr⟩, ?_, h3⟩
          rw [if_neg (by rw [← hr]; exact rlt_ne (hx.head.2 m hm))]; exact h2
        · cases hm
    · rintro ⟨h1, h2, h3⟩
      by_cases hr : x.r = s.r
      · rw [if_pos hr] at h2
        left
        obtain ⟨r, a, b⟩ := s
        simp only at hr h2 h3
        subst hr h2 h3; rfl
      · rw [if_neg hr] at h2
        right
        refine ⟨?_, h2, h3⟩
        rcases h1 with ⟨m, hm, hr'⟩ | ⟨m, hm, _⟩
        · rcases List.mem_cons.1 hm with rfl | hm
          · exact absurd hr' hr
          · exact .inl ⟨m, hm, hr'⟩
        · cases hm
  | [], y :: ys, hx, hy, s => by
    rw [mergeS, List.mem_cons, merge_mem [] ys hx hy.tail s, toL_nil, toL_cons]
    constructor
    · rintro (rfl | ⟨h1, h2, h3⟩)
      · exact ⟨.inr ⟨y, List.mem_cons_self .., rfl⟩, rfl, by rw [if_pos rfl]⟩
      · rcases h1 with ⟨m, hm, _⟩ | ⟨m, hm, hr⟩
        · cases hm
        · refine ⟨.inr ⟨m, List.mem_cons_of_mem _ hm, hr⟩, h2, ?_⟩
          rw [if_neg (by rw [← hr]; exact rlt_ne (hy.head.2 m hm))]; exact h3
    · rintro ⟨h1, h2, h3⟩
      by_cases hr : y.r = s.r
      · rw [if_pos hr] at h3
        left
        obtain ⟨r, a, b⟩ := s
        simp only at hr h2 h3
        subst hr h2 h3; rfl
      · rw [if_neg hr] at h3
        right
        refine ⟨?_, h2, h3⟩
        rcases h1 with ⟨m, hm, _⟩ | ⟨m, hm, hr'⟩
        · cases hm
        · rcases List.mem_cons.1 hm with rfl | hm
          · exact absurd hr' hr
          · exact .inr ⟨m, hm, hr'⟩
  | x :: xs, y :: ys, hx, hy, s => by
    rw [mergeS]
    by_cases h1 : rcmp x.r y.r < 0
    · have hlt := rlt_of h1
      have hyx : ∀ m ∈ y :: ys, m.r ≠ x.r := fun m hm => by
        rcases List.mem_cons.1 hm with rfl | hm
        · exact (rlt_ne hlt).symm
        · exact (rlt_ne (rlt_trans hlt (hy.head.2 m hm))).symm
      rw [if_pos h1, List.mem_cons, merge_mem xs (y :: ys) hx.tail hy s, toL_cons x]
      constructor
      · rintro (rfl | ⟨h1, h2, h3⟩)
        · exact ⟨.inl ⟨x, List.mem_cons_self .., rfl⟩, by rw [if_pos rfl], (toL_out hyx).symm⟩
        · have hne : x.r ≠ s.r := by
            rcases h1 with ⟨m, hm, hr⟩ | ⟨m, hm, hr⟩
            · rw [← hr]; exact rlt_ne (hx.head.2 m hm)
            · rw [← hr]; exact (hyx m hm).symm
          refine ⟨?_, by rw [if_neg hne]; exact h2, h3⟩
          rcases h1 with ⟨m, hm, hr⟩ | h1
          · exact .inl ⟨m, List.mem_cons_of_mem _ hm, hr⟩
          · exact .inr h1
      · rintro ⟨h1, h2, h3⟩
        by_cases hr : x.r = s.r
        · rw [if_pos hr] at h2
          left
          rw [← hr, toL_out hyx] at h3
          obtain ⟨r, a, b⟩ := s
          simp only at hr h2 h3
          subst hr h2 h3; rfl
        · rw [if_neg hr] at h2
          right
          refine ⟨?_, h2, h3⟩
          rcases h1 with ⟨m, hm, hr'⟩ | h1
          · rcases List.mem_cons.1 hm with rfl | hm
            · exact absurd hr' hr
            · exact .inl ⟨m, hm, hr'⟩
          · exact .inr h1
    · rw [if_neg h1]
      by_cases h2 : 0 < rcmp x.r y.r
      · have hlt : rlt y.r x.r := rlt_of (by have := rcmp_anti x.r y.r; omega)
        have hxy : ∀ m ∈ x :: xs, m.r ≠ y.r := fun m hm => by
          rcases List.mem_cons.1 hm with rfl | hm
          · exact (rlt_ne hlt).symm
          · exact (rlt_ne (rlt_trans hlt (hx.head.2 m hm))).symm
        rw [if_pos h2, List.mem_cons, merge_mem (x :: xs) ys hx hy.tail s, toL_cons y]
        constructor
        · rintro (rfl | ⟨h1, h2, h3⟩)
          · exact ⟨.inr ⟨y, List.mem_cons_self .., rfl⟩, (toL_out hxy).symm, by rw [if_pos rfl]⟩
          · have hne : y.r ≠ s.r := by
              rcases h1 with ⟨m, hm, hr⟩ | ⟨m, hm, hr⟩
              · rw [← hr]; exact (hxy m hm).symm
              · rw [← hr]; exact rlt_ne (hy.head.2 m hm)
            refine ⟨?_, h2, by rw [if_neg hne]; exact h3⟩
            rcases h1 with h1 | ⟨m, hm, hr⟩
            · exact .inl h1
            · exact .inr ⟨m, List.mem_cons_of_mem _ hm, hr⟩
        · rintro ⟨h1, h2, h3⟩
          by_cases hr : y.r = s.r
          · rw [if_pos hr] at h3
            left
            rw [← hr, toL_out hxy] at h2
            obtain ⟨r, a, b⟩ := s
            simp only at hr h2 h3
            subst hr h2 h3; rfl
          · rw [if_neg hr] at h3
            right
            refine ⟨?_, h2, h3⟩
            rcases h1 with h1 | ⟨m, hm, hr'⟩
            · exact .inl h1
            · rcases List.mem_cons.1 hm with rfl | hm
              · exact absurd hr' hr
              · exact .inr ⟨m, hm, hr'⟩
      · have he : x.r = y.r := rcmp_zero'.1 (by omega)
        have h1y : ∀ m ∈ ys, m.r ≠ y.r := fun m hm => (rlt_ne (hy.head.2 m hm)).symm
        have h1x : ∀ m ∈ xs, m.r ≠ y.r := fun m hm => by rw [← he]; exact (rlt_ne (hx.head.2 m hm)).symm
        rw [if_neg h2, List.mem_cons, merge_mem xs ys hx.tail hy.tail s, toL_cons x, toL_cons y, he]
        constructor
        · rintro (rfl | ⟨h1, h2, h3⟩)
          · exact ⟨.inl ⟨x, List.mem_cons_self .., he⟩, by rw [if_pos rfl], by rw [if_pos rfl]⟩
          · have hne : y.r ≠ s.r := by
              rcases h1 with ⟨m, hm, hr⟩ | ⟨m, hm, hr⟩
              · rw [← hr]; exact (h1x m hm).symm
              · rw [← hr]; exact (h1y m hm).symm
            refine ⟨?_, by rw [if_neg hne]; exact h2, by rw [if_neg hne]; exact h3⟩
            rcases h1 with ⟨m, hm, hr⟩ | ⟨m, hm, hr⟩
            · exact .inl ⟨m, List.mem_cons_of_mem _ hm, hr⟩
            · exact .inr ⟨m, List.mem_cons_of_mem _ hm, hr⟩
        · rintro ⟨h1, h2, h3⟩
          by_cases hr : y.r = s.r
          · rw [if_pos hr] at h2 h3
            left
            obtain ⟨r, a, b⟩ := s
            simp only at hr h2 h3
            subst hr h2 h3; rfl
          · rw [if_neg hr] at h2 h3
            right
            refine ⟨?_, h2, h3⟩
            rcases h1 with ⟨m, hm, hr'⟩ | ⟨m, hm, hr'⟩
            · rcases List.mem_cons.1 hm with rfl | hm
              · exact absurd (he.symm.trans hr') hr
              · exact .inl ⟨m, hm, hr'⟩
            · rcases List.mem_cons.1 hm with rfl | hm
              · exact absurd hr' hr
              · exact .inr ⟨m, hm, hr'⟩
termination_by xs ys => xs.length + ys.length
/-- They ascend. -/
theorem merge_asc : ∀ (xs ys : List Mv), OkM xs → OkM ys → (mergeS xs ys).Pairwise fun a b => rlt a.r b.r
  | [], [], _, _ => by rw [mergeS]; exact List.Pairwise.nil
  | x :: xs, [], hx, hy => by
    rw [mergeS, List.pairwise_cons]
    refine ⟨fun s hs => ?_, merge_asc xs [] hx.tail hy⟩
    rcases ((merge_mem xs [] hx.tail hy s).1 hs).1 with ⟨m, hm, hr⟩ | ⟨m, hm, _⟩
    · rw [← hr]; exact hx.head.2 m hm
    · cases hm
  | [], y :: ys, hx, hy => by
    rw [mergeS, List.pairwise_cons]
    refine ⟨fun s hs => ?_, merge_asc [] ys hx hy.tail⟩
    rcases ((merge_mem [] ys hx hy.tail s).1 hs).1 with ⟨m, hm, _⟩ | ⟨m, hm, hr⟩
    · cases hm
    · rw [← hr]; exact hy.head.2 m hm
  | x :: xs, y :: ys, hx, hy => by
    rw [mergeS]
    by_cases h1 : rcmp x.r y.r < 0
    · have hlt := rlt_of h1
      rw [if_pos h1, List.pairwise_cons]
      refine ⟨fun s hs => ?_, merge_asc xs (y :: ys) hx.tail hy⟩
      rcases ((merge_mem xs (y :: ys) hx.tail hy s).1 hs).1 with ⟨m, hm, hr⟩ | ⟨m, hm, hr⟩
      · rw [← hr]; exact hx.head.2 m hm
      · rw [← hr]
        rcases List.mem_cons.1 hm with rfl | hm
        · exact hlt
        · exact rlt_trans hlt (hy.head.2 m hm)
    · rw [if_neg h1]
      by_cases h2 : 0 < rcmp x.r y.r
      · have hlt : rlt y.r x.r := rlt_of (by have := rcmp_anti x.r y.r; omega)
        rw [if_pos h2, List.pairwise_cons]
        refine ⟨fun s hs => ?_, merge_asc (x :: xs) ys hx hy.tail⟩
        rcases ((merge_mem (x :: xs) ys hx hy.tail s).1 hs).1 with ⟨m, hm, hr⟩ | ⟨m, hm, hr⟩
        · rw [← hr]
          rcases List.mem_cons.1 hm with rfl | hm
          · exact hlt
          · exact rlt_trans hlt (hx.head.2 m hm)
        · rw [← hr]; exact hy.head.2 m hm
      · have he : x.r = y.r := rcmp_zero'.1 (by omega)
        rw [if_neg h2, List.pairwise_cons]
        refine ⟨fun s hs => ?_, merge_asc xs ys hx.tail hy.tail⟩
        rcases ((merge_mem xs ys hx.tail hy.tail s).1 hs).1 with ⟨m, hm, hr⟩ | ⟨m, hm, hr⟩
        · rw [← hr]; show rlt y.r m.r; rw [← he]; exact hx.head.2 m hm
        · rw [← hr]; exact hy.head.2 m hm
termination_by xs ys => xs.length + ys.length
theorem okM_of {A : Adv} (h : achk A = 0) (s : Nat) : OkM (A.st.getD s []) := by
  by_cases hs : s < A.L
  · refine ⟨List.pairwise_iff_getElem.2 fun i j hi hj hij => ?_, fun m hm => ?_⟩
    · have e : ∀ k (hk : k < (A.st.getD s []).length), A.mv s k = (A.st.getD s [])[k] := fun k hk => by
        show (A.st.getD s []).getD k default = _
        rw [List.getD_eq_getElem?_getD, List.getElem?_eq_getElem hk]; rfl
      have := asc_of h hs j hj i hij
      rw [e i hi, e j hj] at this
      exact rlt_of this
    · obtain ⟨i, hi, rfl⟩ := List.getElem_of_mem hm
      have := (sound_of (achk_zero h).2.2.2.2.2.1 s hs i hi).1
      have e : A.mv s i = (A.st.getD s [])[i] := by
        show (A.st.getD s []).getD i default = _
        rw [List.getD_eq_getElem?_getD, List.getElem?_eq_getElem hi]; rfl
      rw [e] at this
      exact this
  · rw [List.getD_eq_getElem?_getD, List.getElem?_eq_none (by unfold Adv.L at hs; omega)]
    exact OkM.nil
/-- The rounds at a pair of states as actions: those that are called different are marks. -/
def actOf (d : St → Bool) (l : List St) : List (Rd × Option (Nat × Nat)) := l.filterMap fun e => if d e = true then some (e.r, none) else if 0 ≤ e.x ∧ 0 ≤ e.y then some (e.r, some (e.x.toNat, e.y.toNat)) else none
def actP (d : St → Bool) (A B : Adv) (p : Nat × Nat) : List (Rd × Option (Nat × Nat)) := actOf d (mergeS (A.st.getD p.1 []) (B.st.getD p.2 []))
theorem actOf_cons (d : St → Bool) (e : St) (l : List St) : actOf d (e :: l) = (if d e = true then [(e.r, none)] else if 0 ≤ e.x ∧ 0 ≤ e.y then [(e.r, some (e.x.toNat, e.y.toNat))] else []) ++ actOf d l := by
  unfold actOf
  rw [List.filterMap_cons]
  by_cases h : d e = true
  · simp only [h, if_true]; rfl
  · by_cases h2 : 0 ≤ e.x ∧ 0 ≤ e.y
    · simp only [h, h2, and_self, if_true]; rfl
    · rw [if_neg h, if_neg h2, if_neg h, if_neg h2]; rfl
theorem actOf_mem {d : St → Bool} {l : List St} {r : Rd} {o : Option (Nat × Nat)} : (r, o) ∈ actOf d l ↔ ∃ e ∈ l, e.r = r ∧ ((d e = true ∧ o = none) ∨ (d e = false ∧ 0 ≤ e.x ∧ 0 ≤ e.y ∧ o = some (e.x.toNat, e.y.toNat))) := by
  unfold actOf
  rw [List.mem_filterMap]
  constructor
  · rintro ⟨e, he, h⟩
    refine ⟨e, he, ?_⟩
    cases hd : d e
    · rw [hd, if_neg (by decide)] at h
      split at h
      · rename_i hxy
        simp only [Option.some.injEq, Prod.mk.injEq] at h
        exact ⟨h.1, .inr ⟨rfl, hxy.1, hxy.2, h.2.symm⟩⟩
      · cases h
    · rw [hd, if_pos rfl] at h
      simp only [Option.some.injEq, Prod.mk.injEq] at h
      exact ⟨h.1, .inl ⟨rfl, h.2.symm⟩⟩
  · rintro ⟨e, he, rfl, h⟩
    refine ⟨e, he, ?_⟩
    rcases h with ⟨h1, rfl⟩ | ⟨h1, h2, h3, rfl⟩
    · rw [h1, if_pos rfl]
    · rw [h1, if_neg (by decide), if_pos ⟨h2, h3⟩]
theorem actP_asc (d : St → Bool) {A B : Adv} (hA : achk A = 0) (hB : achk B = 0) (p : Nat × Nat) : Asc (actP d A B p) := by
  have h := merge_asc _ _ (okM_of hA p.1) (okM_of hB p.2)
  unfold Asc actP actOf
  rw [List.pairwise_filterMap]
  refine h.imp fun {a b} hab x hx y hy => ?_
  have key : ∀ {e : St} {z : Rd × Option (Nat × Nat)}, (if d e = true then some (e.r, none) else if 0 ≤ e.x ∧ 0 ≤ e.y then some (e.r, some (e.x.toNat, e.y.toNat)) else none) = some z → z.1 = e.r := fun {e z} hz => by
    split at hz
    · cases hz; rfl
    · split at hz
      · cases hz; rfl
      · cases hz
  rw [key hx, key hy]; exact hab
def dI (e : St) : Bool := decide (e.x < 0)
def dE (e : St) : Bool := decide (e.x < 0) || decide (e.y < 0)
/-- Where a round leads in the search of both. -/
theorem stepP (d : St → Bool) {A B : Adv} (hA : achk A = 0) (hB : achk B = 0) (s t : Nat) (r : Rd) (o : Option (Nat × Nat)) :
    stepA (actP d A B) (s, t) r = some o ↔ (0 ≤ toL (A.st.getD s []) r ∨ 0 ≤ toL (B.st.getD t []) r) ∧ ((d ⟨r, toL (A.st.getD s []) r, toL (B.st.getD t []) r⟩ = true ∧ o = none) ∨ (d ⟨r, toL (A.st.getD s []) r, toL (B.st.getD t []) r⟩ = false ∧ 0 ≤ toL (A.st.getD s []) r ∧ 0 ≤ toL (B.st.getD t []) r ∧ o = some ((toL (A.st.getD s []) r).toNat, (toL (B.st.getD t []) r).toNat))) := by
  have key : ∀ o, (r, o) ∈ actP d A B (s, t) ↔ (0 ≤ toL (A.st.getD s []) r ∨ 0 ≤ toL (B.st.getD t []) r) ∧ ((d ⟨r, toL (A.st.getD s []) r, toL (B.st.getD t []) r⟩ = true ∧ o = none) ∨ (d ⟨r, toL (A.st.getD s []) r, toL (B.st.getD t []) r⟩ = false ∧ 0 ≤ toL (A.st.getD s []) r ∧ 0 ≤ toL (B.st.getD t []) r ∧ o = some ((toL (A.st.getD s []) r).toNat, (toL (B.st.getD t []) r).toNat))) := fun o => by
    unfold actP
    rw [actOf_mem]
    constructor
    · rintro ⟨e, he, rfl, h⟩
      obtain ⟨h1, h2, h3⟩ := (merge_mem _ _ (okM_of hA s) (okM_of hB t) e).1 he
      rw [← toL_ge (okM_of hA s), ← toL_ge (okM_of hB t)] at h1
      obtain ⟨r, a, b⟩ := e
      simp only at h2 h3
      subst h2 h3
      exact ⟨h1, h⟩
    · rintro ⟨h1, h⟩
      refine ⟨⟨r, toL (A.st.getD s []) r, toL (B.st.getD t []) r⟩, (merge_mem _ _ (okM_of hA s) (okM_of hB t) _).2 ⟨?_, rfl, rfl⟩, rfl, h⟩
      rw [← toL_ge (okM_of hA s), ← toL_ge (okM_of hB t)]
      exact h1
  rw [← key o]
  exact ⟨stepA_mem, stepA_of (actP_asc d hA hB _)⟩
/-- A difference is told wherever a round leads nowhere in the first, or only there; and nowhere else. -/
structure Tells (d : St → Bool) : Prop where
  both : ∀ r x y, 0 ≤ x → 0 ≤ y → d ⟨r, x, y⟩ = false
theorem tells_I : Tells dI := ⟨fun r x y h _ => decide_eq_false (by simp only; omega)⟩
theorem tells_E : Tells dE := ⟨fun r x y h h' => by unfold dE; rw [decide_eq_false (by simp only; omega), decide_eq_false (by simp only; omega)]; rfl⟩
theorem after_cons {A : Adv} (s : Nat) (r : Rd) (l : List Rd) : after A s (r :: l) = after A (toL (A.st.getD s []) r) l := by
  simp only [after]; rw [if_neg (by omega), Int.toNat_natCast]
theorem after_app (A : Adv) (y : List Rd) : ∀ (x : List Rd) (s : Int), after A s (x ++ y) = after A (after A s x) y
  | [], _ => rfl
  | r :: x, s => by
    rw [List.cons_append]
    simp only [after]
    by_cases hs : s < 0
    · rw [if_pos hs, if_pos hs, after_neg hs]
    · rw [if_neg hs, if_neg hs]; exact after_app A y x _
/-- The search follows a word as long as both do. -/
theorem pathP {d : St → Bool} (hd : Tells d) {A B : Adv} (hA : achk A = 0) (hB : achk B = 0) : ∀ (w : List Rd) (s t : Nat) (q : Nat × Nat), pathA (actP d A B) (s, t) w = some q ↔ 0 ≤ after A s w ∧ 0 ≤ after B t w ∧ q = ((after A s w).toNat, (after B t w).toNat)
  | [], s, t, q => by
    simp only [pathA, after, Option.some.injEq, Int.toNat_natCast]
    constructor
    · rintro rfl; exact ⟨by omega, by omega, rfl⟩
    · rintro ⟨_, _, rfl⟩; rfl
  | r :: w, s, t, q => by
    rw [after_cons, after_cons]
    simp only [pathA]
    cases hs : stepA (actP d A B) (s, t) r with
    | none =>
      constructor
      · intro h; cases h
      · rintro ⟨h1, h2, _⟩
        have hx : 0 ≤ toL (A.st.getD s []) r := by
          refine Classical.byContradiction fun h => ?_
          rw [after_neg (by omega)] at h1; omega
        have hy : 0 ≤ toL (B.st.getD t []) r := by
          refine Classical.byContradiction fun h => ?_
          rw [after_neg (by omega)] at h2; omega
        have := (stepP d hA hB s t r _).2 ⟨.inl hx, .inr ⟨hd.both r _ _ hx hy, hx, hy, rfl⟩⟩
        rw [hs] at this; cases this
    | some o =>
      obtain ⟨h0, h⟩ := (stepP d hA hB s t r o).1 hs
      rcases h with ⟨h1, rfl⟩ | ⟨h1, hx, hy, rfl⟩
      · constructor
        · intro h; cases h
        · rintro ⟨h2, h3, _⟩
          have hx : 0 ≤ toL (A.st.getD s []) r := by
            refine Classical.byContradiction fun h => ?_
            rw [after_neg (by omega)] at h2; omega
          have hy : 0 ≤ toL (B.st.getD t []) r := by
            refine Classical.byContradiction fun h => ?_
            rw [after_neg (by omega)] at h3; omega
          rw [hd.both r _ _ hx hy] at h1; cases h1
      · have ih := pathP hd hA hB w (toL (A.st.getD s []) r).toNat (toL (B.st.getD t []) r).toNat q
        rw [Int.toNat_of_nonneg hx, Int.toNat_of_nonneg hy] at ih
        exact ih
theorem pathP0 {d : St → Bool} (hd : Tells d) {A B : Adv} (hA : achk A = 0) (hB : achk B = 0) (w : List Rd) (q : Nat × Nat) : pathA (actP d A B) (0, 0) w = some q ↔ 0 ≤ after A 0 w ∧ 0 ≤ after B 0 w ∧ q = ((after A 0 w).toNat, (after B 0 w).toNat) := pathP hd hA hB w 0 0 q
/-- The word is one of the second adversary, not of the first, and without its last round one of both. -/
def lackW (A B : Adv) (u : List Rd) : Prop := ∃ v r, u = v ++ [r] ∧ 0 ≤ after A 0 v ∧ after A 0 u < 0 ∧ 0 ≤ after B 0 u
theorem after_snoc {A : Adv} {v : List Rd} (h : 0 ≤ after A 0 v) (r : Rd) : after A 0 (v ++ [r]) = toL (A.st.getD (after A 0 v).toNat []) r := by
  rw [after_app]
  obtain ⟨k, hk⟩ : ∃ k : Nat, after A 0 v = k := ⟨(after A 0 v).toNat, by omega⟩
  rw [hk, Int.toNat_natCast, after_cons]; rfl
theorem after_snoc_ge {A : Adv} {v : List Rd} {r : Rd} (h : 0 ≤ after A 0 (v ++ [r])) : 0 ≤ after A 0 v := by
  rw [after_app] at h
  refine Classical.byContradiction fun hn => ?_
  rw [after_neg (by omega)] at h
  omega
theorem markI {A B : Adv} (hA : achk A = 0) (hB : achk B = 0) (u : List Rd) : markA (actP dI A B) (0, 0) u ↔ lackW A B u := by
  unfold markA lackW
  constructor
  · rintro ⟨v, r, q, rfl, hp, hs⟩
    obtain ⟨h1, h2, rfl⟩ := (pathP0 tells_I hA hB v q).1 hp
    obtain ⟨h3, h4⟩ := (stepP dI hA hB _ _ r none).1 hs
    rcases h4 with ⟨h4, _⟩ | ⟨_, _, _, h4⟩
    · unfold dI at h4
      simp only [decide_eq_true_eq] at h4
      exact ⟨v, r, rfl, h1, by rw [after_snoc h1]; exact h4, by rw [after_snoc h2]; exact h3.resolve_left (by omega)⟩
    · cases h4
  · rintro ⟨v, r, rfl, h1, h2, h3⟩
    have h4 := after_snoc_ge h3
    refine ⟨v, r, _, rfl, (pathP0 tells_I hA hB v _).2 ⟨h1, h4, rfl⟩, (stepP dI hA hB _ _ r none).2 ⟨.inr ?_, .inl ⟨?_, rfl⟩⟩⟩
    · rw [← after_snoc h4]; exact h3
    · unfold dI
      rw [decide_eq_true_eq, ← after_snoc h1]; exact h2
theorem markE {A B : Adv} (hA : achk A = 0) (hB : achk B = 0) (u : List Rd) : markA (actP dE A B) (0, 0) u ↔ lackW A B u ∨ lackW B A u := by
  unfold markA lackW
  constructor
  · rintro ⟨v, r, q, rfl, hp, hs⟩
    obtain ⟨h1, h2, rfl⟩ := (pathP0 tells_E hA hB v q).1 hp
    obtain ⟨h3, h4⟩ := (stepP dE hA hB _ _ r none).1 hs
    rcases h4 with ⟨h4, _⟩ | ⟨_, _, _, h4⟩
    · unfold dE at h4
      simp only [Bool.or_eq_true, decide_eq_true_eq] at h4
      rcases h3 with h3 | h3
      · right
        exact ⟨v, r, rfl, h2, by rw [after_snoc h2]; exact h4.resolve_left (by omega), by rw [after_snoc h1]; exact h3⟩
      · left
        exact ⟨v, r, rfl, h1, by rw [after_snoc h1]; exact h4.resolve_right (by omega), by rw [after_snoc h2]; exact h3⟩
    · cases h4
  · rintro (⟨v, r, rfl, h1, h2, h3⟩ | ⟨v, r, rfl, h1, h2, h3⟩)
    · have h4 := after_snoc_ge h3
      refine ⟨v, r, _, rfl, (pathP0 tells_E hA hB v _).2 ⟨h1, h4, rfl⟩, (stepP dE hA hB _ _ r none).2 ⟨.inr ?_, .inl ⟨?_, rfl⟩⟩⟩
      · rw [← after_snoc h4]; exact h3
      · unfold dE
        rw [Bool.or_eq_true, decide_eq_true_eq, ← after_snoc h1]; exact .inl h2
    · have h4 := after_snoc_ge h3
      refine ⟨v, r, _, rfl, (pathP0 tells_E hA hB v _).2 ⟨h4, h1, rfl⟩, (stepP dE hA hB _ _ r none).2 ⟨.inl ?_, .inl ⟨?_, rfl⟩⟩⟩
      · rw [← after_snoc h4]; exact h3
      · unfold dE
        rw [Bool.or_eq_true, decide_eq_true_eq, decide_eq_true_eq]
        right
        rw [← after_snoc h1]; exact h2
/-- The moves of the second adversary, as the reference searches. -/
theorem actP_ref {A B : Adv} (hA : achk A = 0) (hB : achk B = 0) (p : Nat × Nat) : actP dI A B p = (B.st.getD p.2 []).map fun m => (m.r, if toL (A.st.getD p.1 []) m.r < 0 then none else some ((toL (A.st.getD p.1 []) m.r).toNat, m.to.toNat)) := by
  have key : ∀ (xs ys : List Mv), OkM xs → OkM ys → actOf dI (mergeS xs ys) = ys.map fun m => (m.r, if toL xs m.r < 0 then none else some ((toL xs m.r).toNat, m.to.toNat)) := by
    intro xs ys
    induction xs, ys using mergeS.induct with
    | case1 => intro _ _; simp [mergeS, actOf]
    | case2 x xs ih =>
      intro hx hy
      rw [mergeS, actOf_cons, ih hx.tail hy, if_neg (by have := hx.head.1; unfold dI; simp only [decide_eq_true_eq]; omega), if_neg (fun h => by have := h.2; simp only at this; omega)]
      rfl
    | case3 y ys ih =>
      intro hx hy
      rw [mergeS, actOf_cons, ih hx hy.tail, if_pos (show dI ⟨y.r, -1, y.to⟩ = true from rfl)]
      rfl
    | case4 x xs y ys h1 ih =>
      intro hx hy
      rw [mergeS, if_pos h1, actOf_cons, ih hx.tail hy, if_neg (by have := hx.head.1; unfold dI; simp only [decide_eq_true_eq]; omega), if_neg (fun h => by have := h.2; simp only at this; omega), List.nil_append]
      refine List.map_congr_left fun m hm => ?_
      have hne : x.r ≠ m.r := by
        rcases List.mem_cons.1 hm with rfl | hm
        · exact rlt_ne (rlt_of h1)
        · exact rlt_ne (rlt_trans (rlt_of h1) (hy.head.2 m hm))
      rw [toL_cons, if_neg hne]
    | case5 x xs y ys h1 h2 ih =>
      intro hx hy
      have hlt : rlt y.r x.r := rlt_of (by have := rcmp_anti x.r y.r; omega)
      have hxy : ∀ m ∈ x :: xs, m.r ≠ y.r := fun m hm => by
        rcases List.mem_cons.1 hm with rfl | hm
        · exact (rlt_ne hlt).symm
        · exact (rlt_ne (rlt_trans hlt (hx.head.2 m hm))).symm
      rw [mergeS, if_neg h1, if_pos h2, actOf_cons, ih hx hy.tail, if_pos (show dI ⟨y.r, -1, y.to⟩ = true from rfl), List.map_cons, toL_out hxy]
      rfl
    | case6 x xs y ys h1 h2 ih =>
      intro hx hy
      have he : x.r = y.r := rcmp_zero'.1 (by omega)
      have h0 : ¬ x.to < 0 := by have := hx.head.1; omega
      rw [mergeS, if_neg h1, if_neg h2, actOf_cons, ih hx.tail hy.tail, if_neg (by unfold dI; simp only [decide_eq_true_eq]; exact h0), if_pos ⟨hx.head.1, hy.head.1⟩, List.map_cons, toL_cons, if_pos he, if_neg h0, List.cons_append, List.nil_append]
      congr 1
      refine List.map_congr_left fun m hm => ?_
      have hne : x.r ≠ m.r := by rw [he]; exact rlt_ne (hy.head.2 m hm)
      rw [toL_cons, if_neg hne]
  exact key _ _ (okM_of hA p.1) (okM_of hB p.2)
/-- Least words are one. -/
theorem least_eq {P : List Rd → Prop} {u v : List Rd} (h1 : P u) (h2 : ∀ x, P x → Wle u x) (h3 : P v) (h4 : ∀ x, P x → Wle v x) : u = v := by
  rcases h2 v h3 with h | h
  · rcases h4 u h1 with k | k
    · exact absurd (h.trans k) (Wlt.irrefl _)
    · exact k.symm
  · exact h
end Go.Proofs.Ytmkmgimmlohamaa
