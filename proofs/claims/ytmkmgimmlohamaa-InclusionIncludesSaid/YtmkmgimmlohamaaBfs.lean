/-
  A breadth first search finds the least word (by length, then round by round) that ends in a mark; and the states that words lead to.
  Conditions: none.
-/
import Derived.Test.YtmkmgimmlohamaaOrdLaw
namespace Go.Proofs.Ytmkmgimmlohamaa

/-- A round before another one. -/
def rlt (x y : Rd) : Prop := rcmp x y = -1
theorem rlt_trans {x y z : Rd} (h : rlt x y) (k : rlt y z) : rlt x z := by
  have o := rcmp_ord x y z
  unfold rlt at *
  have := o.t (by omega) (by omega)
  omega
theorem rlt_irrefl (x : Rd) : ¬ rlt x x := by unfold rlt; rw [rcmp_zero'.2 rfl]; decide
theorem rlt_total (x y : Rd) : rlt x y ∨ x = y ∨ rlt y x := by
  have o := (rcmp_ord x y x).x1
  have a := rcmp_anti x y
  unfold rlt
  by_cases h : rcmp x y = 0
  · exact .inr (.inl (rcmp_zero'.1 h))
  · omega
/-- Words of one length, round by round. -/
inductive Llt : List Rd → List Rd → Prop
  | head {x y : Rd} {u v : List Rd} (h : rlt x y) (hl : u.length = v.length) : Llt (x :: u) (y :: v)
  | tail {x : Rd} {u v : List Rd} (h : Llt u v) : Llt (x :: u) (x :: v)
theorem Llt.len {u v : List Rd} (h : Llt u v) : u.length = v.length := by
  induction h with
  | head _ hl => simp [hl]
  | tail _ ih => simp [ih]
theorem Llt.trans {u v w : List Rd} (h : Llt u v) (k : Llt v w) : Llt u w := by
  induction h generalizing w with
  | head h hl => cases k with
    | head k kl => exact .head (rlt_trans h k) (hl.trans kl)
    | tail k => exact .head h (hl.trans k.len)
  | tail h ih => cases k with
    | head k kl => exact .head k (h.len.trans kl)
    | tail k => exact .tail (ih k)
theorem Llt.irrefl : ∀ u, ¬ Llt u u
  | [], h => by cases h
  | x :: u, h => by
    cases h with
    | head h _ => exact rlt_irrefl _ h
    | tail h => exact Llt.irrefl u h
theorem Llt.total : ∀ {u v : List Rd}, u.length = v.length → Llt u v ∨ u = v ∨ Llt v u
  | [], [], _ => .inr (.inl rfl)
  | x :: u, y :: v, hl => by
    have hl' : u.length = v.length := by simpa using hl
    rcases rlt_total x y with h | rfl | h
    · exact .inl (.head h hl')
    · rcases Llt.total hl' with h | rfl | h
      · exact .inl (.tail h)
      · exact .inr (.inl rfl)
      · exact .inr (.inr (.tail h))
    · exact .inr (.inr (.head h hl'.symm))
theorem Llt.snoc {u v : List Rd} (h : Llt u v) (x y : Rd) : Llt (u ++ [x]) (v ++ [y]) := by
  induction h with
  | head h hl => exact .head h (by simp [hl])
  | tail _ ih => exact .tail ih
theorem Llt.last (u : List Rd) {x y : Rd} (h : rlt x y) : Llt (u ++ [x]) (u ++ [y]) := by
  induction u with
  | nil => exact .head h rfl
  | cons z u ih => exact .tail ih
/-- A word before another one: shorter, or of one length and before it. -/
def Wlt (u v : List Rd) : Prop := u.length < v.length ∨ Llt u v
theorem Wlt.trans {u v w : List Rd} (h : Wlt u v) (k : Wlt v w) : Wlt u w := by
  rcases h with h | h <;> rcases k with k | k
  · exact .inl (by omega)
  · exact .inl (by have := k.len; omega)
  · exact .inl (by have := h.len; omega)
  · exact .inr (h.trans k)
theorem Wlt.irrefl (u : List Rd) : ¬ Wlt u u := fun h => h.elim (fun h => by omega) (Llt.irrefl u)
theorem Wlt.total (u v : List Rd) : Wlt u v ∨ u = v ∨ Wlt v u := by
  rcases Nat.lt_trichotomy u.length v.length with h | h | h
  · exact .inl (.inl h)
  · rcases Llt.total h with h | h | h
    · exact .inl (.inr h)
    · exact .inr (.inl h)
    · exact .inr (.inr (.inr h))
  · exact .inr (.inr (.inl h))
def Wle (u v : List Rd) : Prop := Wlt u v ∨ u = v
theorem Wle.trans_lt {u v w : List Rd} (h : Wle u v) (k : Wlt v w) : Wlt u w := by
  rcases h with h | rfl
  · exact h.trans k
  · exact k
theorem Wlt.trans_le {u v w : List Rd} (h : Wlt u v) (k : Wle v w) : Wlt u w := by
  rcases k with k | rfl
  · exact h.trans k
  · exact h
theorem Wle.refl (u : List Rd) : Wle u u := .inr rfl
theorem Wle.trans {u v w : List Rd} (h : Wle u v) (k : Wle v w) : Wle u w := by
  rcases h with h | rfl
  · exact .inl (h.trans_le k)
  · exact k
theorem Wlt.snoc {u v : List Rd} (h : Wlt u v) (x y : Rd) : Wlt (u ++ [x]) (v ++ [y]) := by
  rcases h with h | h
  · exact .inl (by simp; omega)
  · exact .inr (h.snoc x y)
theorem Wlt.last (u : List Rd) {x y : Rd} (h : rlt x y) : Wlt (u ++ [x]) (u ++ [y]) := .inr (Llt.last u h)
theorem Wlt.end_ (u : List Rd) (x : Rd) : Wlt u (u ++ [x]) := .inl (by simp)
theorem Wle.snoc {u v : List Rd} (h : Wle u v) (x : Rd) : Wle (u ++ [x]) (v ++ [x]) := by
  rcases h with h | rfl
  · exact .inl (h.snoc x x)
  · exact .inr rfl
theorem Wlt.not_le {u v : List Rd} (h : Wlt u v) : ¬ Wle v u := fun k => Wlt.irrefl u (h.trans_le k)
theorem Wle.of_not {u v : List Rd} (h : ¬ Wlt v u) : Wle u v := by
  rcases Wlt.total u v with k | k | k
  · exact .inl k
  · exact .inr k
  · exact absurd k h

section
variable {σ : Type} (act : σ → List (Rd × Option σ))
/-- Actions in ascending order. -/
def Asc (l : List (Rd × Option σ)) : Prop := l.Pairwise fun a b => rlt a.1 b.1
def stepA (s : σ) (r : Rd) : Option (Option σ) := ((act s).find? fun x => decide (x.1 = r)).map (·.2)
/-- Where a word leads to, from a state. -/
def pathA : σ → List Rd → Option σ
  | s, [] => some s
  | s, r :: w => match stepA act s r with
    | some (some t) => pathA t w
    | _ => none
/-- A word that ends in a mark. -/
def markA (s : σ) (w : List Rd) : Prop := ∃ v r t, w = v ++ [r] ∧ pathA act s v = some t ∧ stepA act t r = some none
variable {act}
theorem pathA_snoc (s : σ) (r : Rd) : ∀ w, pathA act s (w ++ [r]) = match pathA act s w with
    | some t => (match stepA act t r with | some (some u) => some u | _ => none)
    | none => none := by
  intro w
  induction w generalizing s with
  | nil => simp only [List.nil_append, pathA]
  | cons x w ih =>
    simp only [List.cons_append, pathA]
    cases h : stepA act s x with
    | none => rfl
    | some o => cases o with
      | none => rfl
      | some t => exact ih t
theorem stepA_mem {s : σ} {r : Rd} {o : Option σ} (h : stepA act s r = some o) : (r, o) ∈ act s := by
  unfold stepA at h
  obtain ⟨x, hx, he⟩ := Option.map_eq_some_iff.1 h
  have h1 := List.find?_some hx
  have h2 := List.mem_of_find?_eq_some hx
  rw [decide_eq_true_iff] at h1
  obtain ⟨a, b⟩ := x
  dsimp only at h1 he
  subst h1 he
  exact h2
theorem stepA_of {s : σ} (ha : Asc (act s)) {r : Rd} {o : Option σ} (h : (r, o) ∈ act s) : stepA act s r = some o := by
  unfold stepA
  have key : ∀ l : List (Rd × Option σ), Asc l → (r, o) ∈ l → (l.find? fun x => decide (x.1 = r)) = some (r, o) := by
    intro l
    induction l with
    | nil => intro _ h; simp at h
    | cons x l ih =>
      intro hp hm
      rw [List.find?_cons]
      obtain ⟨h1, h2⟩ := List.pairwise_cons.1 hp
      rcases List.mem_cons.1 hm with rfl | hm
      · simp
      · have hlt := h1 _ hm
        have hne : x.1 ≠ r := fun e => by rw [e] at hlt; exact rlt_irrefl r hlt
        simp only [hne, decide_false]
        exact ih h2 hm
  rw [key _ ha h]; rfl
/-- The search: the nodes that were found, in order, each with its word; the node that is visited, and what is left of its actions. -/
structure Bfs (s0 : σ) (l : List (σ × List Rd)) (i : Nat) (done rest : List (Rd × Option σ)) : Prop where
  here : i < l.length
  act_ : ∀ p, l[i]? = some p → act p.1 = done ++ rest
  head : l[0]? = some (s0, [])
  path : ∀ p ∈ l, pathA act s0 p.2 = some p.1
  asc : l.Pairwise fun p q => Wlt p.2 q.2
  diff : l.Pairwise fun p q => p.1 ≠ q.1
  old : ∀ j p r o, j < i → l[j]? = some p → (r, o) ∈ act p.1 → ∃ t q, o = some t ∧ q ∈ l ∧ q.1 = t ∧ Wle q.2 (p.2 ++ [r])
  now : ∀ p r o, l[i]? = some p → (r, o) ∈ done → ∃ t q, o = some t ∧ q ∈ l ∧ q.1 = t ∧ Wle q.2 (p.2 ++ [r])
  lt : ∀ p q r o, l[i]? = some p → q ∈ l → (r, o) ∈ rest → Wlt q.2 (p.2 ++ [r])
  born : ∀ q ∈ l, q.2 = [] ∨ ∃ j p r, j ≤ i ∧ l[j]? = some p ∧ q.2 = p.2 ++ [r]
theorem Bfs.start (s0 : σ) : Bfs (act := act) s0 [(s0, [])] 0 [] (act s0) where
  here := by simp
  act_ := fun p h => by simp at h; subst h; rfl
  head := rfl
  path := fun p h => by simp at h; subst h; rfl
  asc := List.pairwise_singleton _ _
  diff := List.pairwise_singleton _ _
  old := fun j p r o h => by omega
  now := fun p r o _ h => by simp at h
  lt := fun p q r o h hq _ => by simp at h hq; subst h hq; exact Wlt.end_ _ _
  born := fun q h => by simp at h; subst h; exact .inl rfl
/-- An action to a state that is known. -/
theorem Bfs.skip {s0 : σ} {l : List (σ × List Rd)} {i : Nat} {done rest : List (Rd × Option σ)} {r : Rd} {t : σ} (h : Bfs (act := act) s0 l i done ((r, some t) :: rest)) (hk : ∃ q ∈ l, q.1 = t) : Bfs (act := act) s0 l i (done ++ [(r, some t)]) rest where
  here := h.here
  act_ := fun p hp => by rw [h.act_ p hp]; simp
  head := h.head
  path := h.path
  asc := h.asc
  diff := h.diff
  old := h.old
  now := fun p r' o hp hm => by
    rcases List.mem_append.1 hm with hm | hm
    · exact h.now p r' o hp hm
    · simp only [List.mem_singleton, Prod.mk.injEq] at hm
      obtain ⟨rfl, rfl⟩ := hm
      obtain ⟨q, hq, rfl⟩ := hk
      exact ⟨q.1, q, rfl, hq, rfl, .inl (h.lt p q r' (some q.1) hp hq (by simp))⟩
  lt := fun p q r' o hp hq hm => h.lt p q r' o hp hq (List.mem_cons_of_mem _ hm)
  born := h.born
/-- An action to a new state. -/
theorem Bfs.add {s0 : σ} {l : List (σ × List Rd)} {i : Nat} {done rest : List (Rd × Option σ)} {r : Rd} {t : σ} (hA : ∀ s, Asc (act s)) (h : Bfs (act := act) s0 l i done ((r, some t) :: rest)) {p : σ × List Rd} (hp : l[i]? = some p) (hk : ∀ q ∈ l, q.1 ≠ t) :
    Bfs (act := act) s0 (l ++ [(t, p.2 ++ [r])]) i (done ++ [(r, some t)]) rest := by
  have hi : (l ++ [(t, p.2 ++ [r])])[i]? = some p := by rw [List.getElem?_append_left h.here]; exact hp
  have hasc : Asc (done ++ (r, some t) :: rest) := by rw [← h.act_ p hp]; exact hA p.1
  have hpm : p ∈ l := List.mem_of_getElem? hp
  have hst : stepA act p.1 r = some (some t) := stepA_of (hA p.1) (by rw [h.act_ p hp]; simp)
  refine ⟨by rw [List.length_append]; have := h.here; omega, ?_, ?_, ?_, ?_, ?_, ?_, ?_, ?_, ?_⟩
  · intro p' hp'
    rw [hi] at hp'
    obtain rfl := Option.some.inj hp'
    rw [h.act_ p hp]; simp
  · rw [List.getElem?_append_left (by have := h.here; omega)]; exact h.head
  · intro q hq
    rcases List.mem_append.1 hq with hq | hq
    · exact h.path q hq
    · simp only [List.mem_singleton] at hq
      subst hq
      rw [pathA_snoc, h.path p hpm]
      simp only [hst]
  · rw [List.pairwise_append]
    refine ⟨h.asc, List.pairwise_singleton _ _, fun a ha b hb => ?_⟩
    simp only [List.mem_singleton] at hb
    subst hb
    exact h.lt p a r (some t) hp ha (by simp)
  · rw [List.pairwise_append]
    refine ⟨h.diff, List.pairwise_singleton _ _, fun a ha b hb => ?_⟩
    simp only [List.mem_singleton] at hb
    subst hb
    exact hk a ha
  · intro j p' r' o hj hp' hm
    rw [List.getElem?_append_left (by have := h.here; omega)] at hp'
    obtain ⟨t', q, h1, h2, h3, h4⟩ := h.old j p' r' o hj hp' hm
    exact ⟨t', q, h1, List.mem_append_left _ h2, h3, h4⟩
  · intro p' r' o hp' hm
    rw [hi] at hp'
    obtain rfl := Option.some.inj hp'
    rcases List.mem_append.1 hm with hm | hm
    · obtain ⟨t', q, h1, h2, h3, h4⟩ := h.now p r' o hp hm
      exact ⟨t', q, h1, List.mem_append_left _ h2, h3, h4⟩
    · simp only [List.mem_singleton, Prod.mk.injEq] at hm
      obtain ⟨rfl, rfl⟩ := hm
      exact ⟨t, (t, p.2 ++ [r']), rfl, by simp, rfl, Wle.refl _⟩
  · intro p' q r' o hp' hq hm
    rw [hi] at hp'
    obtain rfl := Option.some.inj hp'
    rcases List.mem_append.1 hq with hq | hq
    · exact h.lt p q r' o hp hq (List.mem_cons_of_mem _ hm)
    · simp only [List.mem_singleton] at hq
      subst hq
      have h1 := (List.pairwise_append.1 hasc).2.1
      exact Wlt.last _ ((List.pairwise_cons.1 h1).1 (r', o) hm)
  · intro q hq
    rcases List.mem_append.1 hq with hq | hq
    · rcases h.born q hq with h1 | ⟨j, p', r', h1, h2, h3⟩
      · exact .inl h1
      · exact .inr ⟨j, p', r', h1, by rw [List.getElem?_append_left (by have := h.here; omega)]; exact h2, h3⟩
    · simp only [List.mem_singleton] at hq
      subst hq
      exact .inr ⟨i, p, r, Nat.le_refl _, hi, rfl⟩
/-- On to the next node. -/
theorem Bfs.next {s0 : σ} {l : List (σ × List Rd)} {i : Nat} {done : List (Rd × Option σ)} (h : Bfs (act := act) s0 l i done []) {p : σ × List Rd} (hp : l[i + 1]? = some p) : Bfs (act := act) s0 l (i + 1) [] (act p.1) := by
  have hl : i + 1 < l.length := by
    rcases Nat.lt_or_ge (i + 1) l.length with h | h
    · exact h
    · rw [List.getElem?_eq_none h] at hp; cases hp
  refine ⟨hl, ?_, h.head, h.path, h.asc, h.diff, ?_, ?_, ?_, ?_⟩
  · intro p' hp'
    rw [hp] at hp'
    obtain rfl := Option.some.inj hp'
    rfl
  · intro j p' r o hj hp' hm
    by_cases e : j = i
    · subst e
      exact h.now p' r o hp' (by rw [h.act_ p' hp', List.append_nil] at hm; exact hm)
    · exact h.old j p' r o (by omega) hp' hm
  · intro p' r o _ hm; simp at hm
  · intro p' q r o hp' hq hm
    rw [hp] at hp'
    obtain rfl := Option.some.inj hp'
    rcases h.born q hq with h1 | ⟨j, p', r', h1, h2, h3⟩
    · rw [h1]; exact .inl (by simp)
    · rw [h3]
      have hlt : Wlt p'.2 p.2 := by
        have hj : j < l.length := by have := h.here; omega
        have e1 := List.getElem?_eq_getElem hj
        have e2 := List.getElem?_eq_getElem hl
        rw [h2] at e1
        rw [hp] at e2
        rw [Option.some.inj e1, Option.some.inj e2]
        exact List.pairwise_iff_getElem.1 h.asc j (i + 1) hj hl (by omega)
      exact hlt.snoc r' r
  · intro q hq
    rcases h.born q hq with h1 | ⟨j, p', r', h1, h2, h3⟩
    · exact .inl h1
    · exact .inr ⟨j, p', r', by omega, h2, h3⟩
theorem asc_mid {l1 l2 : List (Rd × Option σ)} {x : Rd × Option σ} (h : Asc (l1 ++ x :: l2)) {y : Rd × Option σ} (hy : y ∈ l1 ++ x :: l2) (hlt : rlt y.1 x.1) : y ∈ l1 := by
  rcases List.mem_append.1 hy with h1 | h1
  · exact h1
  · rcases List.mem_cons.1 h1 with rfl | h1
    · exact absurd hlt (rlt_irrefl _)
    · have h2 := (List.pairwise_append.1 h).2.1
      have := (List.pairwise_cons.1 h2).1 y h1
      exact absurd (rlt_trans hlt this) (rlt_irrefl _)
theorem Wlt.last_inv {u : List Rd} {x y : Rd} (h : Wlt (u ++ [x]) (u ++ [y])) : rlt x y := by
  rcases rlt_total x y with k | k | k
  · exact k
  · subst k; exact absurd h (Wlt.irrefl _)
  · exact absurd (h.trans (Wlt.last u k)) (Wlt.irrefl _)
/-- An action of a node before the place where the search stands was taken. -/
theorem Bfs.took {s0 : σ} {l : List (σ × List Rd)} {i : Nat} {done rest : List (Rd × Option σ)} (h : Bfs (act := act) s0 l i done rest) (hA : ∀ s, Asc (act s)) {p : σ × List Rd} (hp : l[i]? = some p) {r : Rd} {o : Option σ} {rest' : List (Rd × Option σ)} (hr : rest = (r, o) :: rest')
    {q : σ × List Rd} (hq : q ∈ l) {s : Rd} {o' : Option σ} (hm : (s, o') ∈ act q.1) (hlt : Wlt (q.2 ++ [s]) (p.2 ++ [r])) : ∃ t k, o' = some t ∧ k ∈ l ∧ k.1 = t ∧ Wle k.2 (q.2 ++ [s]) := by
  obtain ⟨j, hj, hjq⟩ := List.getElem_of_mem hq
  have hjq' : l[j]? = some q := by rw [List.getElem?_eq_getElem hj, hjq]
  rcases Nat.lt_trichotomy j i with hji | hji | hji
  · exact h.old j q s o' hji hjq' hm
  · subst hji
    rw [hp] at hjq'
    obtain rfl := Option.some.inj hjq'
    have hlt' := Wlt.last_inv hlt
    have hasc := hA p.1
    rw [h.act_ p hp, hr] at hasc hm
    exact h.now p s o' hp (asc_mid hasc hm hlt')
  · have e1 := List.getElem?_eq_getElem h.here
    rw [hp] at e1
    have hlt2 : Wlt p.2 q.2 := by
      rw [← hjq, Option.some.inj e1]
      exact List.pairwise_iff_getElem.1 h.asc i j h.here hj hji
    exact absurd (hlt.trans (hlt2.snoc r s)) (Wlt.irrefl _)
theorem Bfs.cover {s0 : σ} {l : List (σ × List Rd)} {i : Nat} {done rest : List (Rd × Option σ)} (h : Bfs (act := act) s0 l i done rest) (hA : ∀ s, Asc (act s)) {p : σ × List Rd} (hp : l[i]? = some p) {r : Rd} {o : Option σ} {rest' : List (Rd × Option σ)} (hr : rest = (r, o) :: rest') :
    ∀ n v t, v.length = n → Wlt v (p.2 ++ [r]) → pathA act s0 v = some t → ∃ q ∈ l, q.1 = t ∧ Wle q.2 v := by
  intro n
  induction n with
  | zero =>
    intro v t hl _ hv
    obtain rfl : v = [] := List.length_eq_zero_iff.1 hl
    simp only [pathA, Option.some.injEq] at hv
    exact ⟨(s0, []), List.mem_of_getElem? h.head, hv, Wle.refl _⟩
  | succ n ih =>
    intro v t hl hlt hv
    have hne : v ≠ [] := fun e => by rw [e] at hl; simp at hl
    have hvv := (List.dropLast_concat_getLast hne).symm
    generalize v.dropLast = v' at hvv
    generalize v.getLast hne = s at hvv
    subst hvv
    rw [pathA_snoc] at hv
    cases hp' : pathA act s0 v' with
    | none => rw [hp'] at hv; simp at hv
    | some t' =>
      rw [hp'] at hv
      cases hs : stepA act t' s with
      | none => simp [hs] at hv
      | some o2 => cases o2 with
        | none => simp [hs] at hv
        | some t2 =>
          simp only [hs, Option.some.injEq] at hv
          subst hv
          obtain ⟨q, hq, rfl, hle⟩ := ih v' t' (by simpa using hl) ((Wlt.end_ v' s).trans hlt) hp'
          obtain ⟨t3, k, h1, h2, h3, h4⟩ := h.took hA hp hr hq (stepA_mem hs) ((hle.snoc s).trans_lt hlt)
          obtain rfl := Option.some.inj h1
          exact ⟨k, h2, h3, h4.trans (hle.snoc s)⟩
/-- WHERE THE SEARCH MEETS A MARK, it has found the least word that ends in one. -/
theorem Bfs.found {s0 : σ} {l : List (σ × List Rd)} {i : Nat} {done rest : List (Rd × Option σ)} {r : Rd} (h : Bfs (act := act) s0 l i done ((r, none) :: rest)) (hA : ∀ s, Asc (act s)) {p : σ × List Rd} (hp : l[i]? = some p) :
    markA act s0 (p.2 ++ [r]) ∧ ∀ u, markA act s0 u → Wle (p.2 ++ [r]) u := by
  constructor
  · exact ⟨p.2, r, p.1, rfl, h.path p (List.mem_of_getElem? hp), stepA_of (hA p.1) (by rw [h.act_ p hp]; simp)⟩
  · rintro u ⟨v, s, t, rfl, hv, hs⟩
    refine Wle.of_not fun hlt => ?_
    obtain ⟨q, hq, rfl, hle⟩ := h.cover hA hp rfl _ v t rfl ((Wlt.end_ v s).trans hlt) hv
    obtain ⟨t2, k, h1, _⟩ := h.took hA hp rfl hq (stepA_mem hs) ((hle.snoc s).trans_lt hlt)
    cases h1
/-- All nodes are visited, and no mark was met. -/
structure Full (s0 : σ) (l : List (σ × List Rd)) : Prop where
  head : (s0, []) ∈ l
  path : ∀ p ∈ l, pathA act s0 p.2 = some p.1
  diff : l.Pairwise fun p q => p.1 ≠ q.1
  all : ∀ p ∈ l, ∀ r o, (r, o) ∈ act p.1 → ∃ t q, o = some t ∧ q ∈ l ∧ q.1 = t
theorem Bfs.full {s0 : σ} {l : List (σ × List Rd)} {i : Nat} {done : List (Rd × Option σ)} (h : Bfs (act := act) s0 l i done []) (hi : i + 1 = l.length) : Full (act := act) s0 l := by
  refine ⟨List.mem_of_getElem? h.head, h.path, h.diff, fun p hp r o hm => ?_⟩
  obtain ⟨j, hj, hjp⟩ := List.getElem_of_mem hp
  have hjp' : l[j]? = some p := by rw [List.getElem?_eq_getElem hj, hjp]
  by_cases e : j = i
  · subst e
    obtain ⟨t, q, h1, h2, h3, _⟩ := h.now p r o hjp' (by rw [h.act_ p hjp', List.append_nil] at hm; exact hm)
    exact ⟨t, q, h1, h2, h3⟩
  · obtain ⟨t, q, h1, h2, h3, _⟩ := h.old j p r o (by omega) hjp' hm
    exact ⟨t, q, h1, h2, h3⟩
theorem Full.reach {s0 : σ} {l : List (σ × List Rd)} (h : Full (act := act) s0 l) : ∀ (n : Nat) (v : List Rd) t, v.length = n → pathA act s0 v = some t → ∃ q ∈ l, q.1 = t := by
  intro n
  induction n with
  | zero =>
    intro v t hl hv
    obtain rfl : v = [] := List.length_eq_zero_iff.1 hl
    simp only [pathA, Option.some.injEq] at hv
    exact ⟨_, h.head, hv⟩
  | succ n ih =>
    intro v t hl hv
    have hne : v ≠ [] := fun e => by rw [e] at hl; simp at hl
    have hvv := (List.dropLast_concat_getLast hne).symm
    generalize v.dropLast = v' at hvv
    generalize v.getLast hne = s at hvv
    subst hvv
    rw [pathA_snoc] at hv
    cases hp' : pathA act s0 v' with
    | none => rw [hp'] at hv; simp at hv
    | some t' =>
      rw [hp'] at hv
      cases hs : stepA act t' s with
      | none => simp [hs] at hv
      | some o2 => cases o2 with
        | none => simp [hs] at hv
        | some t2 =>
          simp only [hs, Option.some.injEq] at hv
          subst hv
          obtain ⟨q, hq, rfl⟩ := ih v' t' (by simpa using hl) hp'
          obtain ⟨t3, k, h1, h2, h3⟩ := h.all q hq s (some t2) (stepA_mem hs)
          obtain rfl := Option.some.inj h1
          exact ⟨k, h2, h3⟩
theorem Full.none_ {s0 : σ} {l : List (σ × List Rd)} (h : Full (act := act) s0 l) (u : List Rd) : ¬ markA act s0 u := by
  rintro ⟨v, s, t, rfl, hv, hs⟩
  obtain ⟨q, hq, rfl⟩ := h.reach _ v t rfl hv
  obtain ⟨t2, k, h1, _⟩ := h.all q hq s none (stepA_mem hs)
  cases h1
end
end Go.Proofs.Ytmkmgimmlohamaa
