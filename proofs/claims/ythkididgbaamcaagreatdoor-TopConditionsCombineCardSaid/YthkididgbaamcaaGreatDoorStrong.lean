/-
  What relate.Stronger returns; a stronger task permits no more.
  Conditions: none.
-/
import Derived.Test.YthkididgbaamcaaGreatDoorTaskB
namespace Go.Proofs.YthkididgbaamcaaGreatDoor
open Go.RowKit

/-- The first vector of a case that the other case does not have, for a set of faulty processes. -/
def stV (x c : Cs) (f : Nat) : Option (List Int) := (allowedL x f).find? fun v => !((allowedL c f).any fun w => agreesB v w f)
def stF (x c : Cs) (m : Nat) : Option (Nat × List Int) := (List.range m).findSome? fun f => (stV x c f).map fun v => (f, v)
def stC (S : Tk) (c : Cs) : Option (List Int × Nat × List Int) := if fnd S c.inp < 0 then some (c.inp, 0, []) else (stF (S.cs.getD (fnd S c.inp).toNat default) c (2 ^ S.n.toNat)).map fun p => (c.inp, p.1, p.2)
/-- The witness that S is not stronger than T. -/
def strS (S T : Tk) : Option (List Int × Nat × List Int) := T.cs.findSome? (stC S)
theorem findSome_at {α β : Type} [Inhabited α] {g : α → Option β} : ∀ {l : List α} {k : Nat} {b : β}, k < l.length → (∀ j, j < k → g (l.getD j default) = none) → g (l.getD k default) = some b → l.findSome? g = some b
  | [], _, _, h, _, _ => by simp at h
  | x :: l, 0, b, _, _, h => by
    rw [List.findSome?_cons]
    have : g x = some b := h
    rw [this]
  | x :: l, k + 1, b, hk, hj, h => by
    rw [List.findSome?_cons]
    have : g x = none := hj 0 (by omega)
    rw [this]
    exact findSome_at (l := l) (k := k) (by simpa using hk) (fun j h1 => hj (j + 1) (by omega)) h
theorem findSome_none {α β : Type} [Inhabited α] {g : α → Option β} {l : List α} (h : ∀ j, j < l.length → g (l.getD j default) = none) : l.findSome? g = none := by
  rw [List.findSome?_eq_none_iff]
  intro x hx
  obtain ⟨j, hj, rfl⟩ := List.getElem_of_mem hx
  have := h j hj
  rwa [List.getD_eq_getElem?_getD, List.getElem?_eq_getElem hj] at this
theorem find_at_ {α : Type} {p : α → Bool} {d : α} : ∀ {l : List α} {k : Nat}, k < l.length → (∀ j, j < k → p (l.getD j d) = false) → p (l.getD k d) = true → l.find? p = some (l.getD k d)
  | [], _, h, _, _ => by simp at h
  | x :: l, 0, _, _, h => by
    have : p x = true := h
    rw [List.find?_cons, this]; rfl
  | x :: l, k + 1, hk, hj, h => by
    have : p x = false := hj 0 (by omega)
    rw [List.find?_cons, this]
    exact find_at_ (l := l) (k := k) (by simpa using hk) (fun j h1 => hj (j + 1) (by omega)) h
theorem find_none_ {α : Type} {p : α → Bool} {d : α} {l : List α} (h : ∀ j, j < l.length → p (l.getD j d) = false) : l.find? p = none := by
  rw [List.find?_eq_none]
  intro x hx
  obtain ⟨j, hj, rfl⟩ := List.getElem_of_mem hx
  have := h j hj
  rw [List.getD_eq_getElem?_getD, List.getElem?_eq_getElem hj] at this
  simpa using this
theorem range_getD {m j : Nat} (h : j < m) : (List.range m).getD j default = j := by
  rw [List.getD_eq_getElem?_getD, List.getElem?_eq_getElem (by simpa using h)]; simp
theorem stF_at {x c : Cs} {m f : Nat} {v : List Int} (hf : f < m) (h : ∀ j, j < f → stV x c j = none) (hv : stV x c f = some v) : stF x c m = some (f, v) := by
  unfold stF
  refine findSome_at (k := f) (by simpa using hf) (fun j hj => ?_) ?_
  · rw [range_getD (by omega), h j hj]; rfl
  · rw [range_getD hf, hv]; rfl
theorem stF_none {x c : Cs} {m : Nat} (h : ∀ j, j < m → stV x c j = none) : stF x c m = none := by
  unfold stF
  refine findSome_none fun j hj => ?_
  have hj : j < m := by simpa using hj
  rw [range_getD hj, h j hj]; rfl
theorem stC_no {S : Tk} {c : Cs} (h : fnd S c.inp < 0) : stC S c = some (c.inp, 0, []) := by unfold stC; rw [if_pos h]
theorem stC_some {S : Tk} {c : Cs} {f : Nat} {v : List Int} (h : ¬ fnd S c.inp < 0) (hs : stF (S.cs.getD (fnd S c.inp).toNat default) c (2 ^ S.n.toNat) = some (f, v)) : stC S c = some (c.inp, f, v) := by
  unfold stC; rw [if_neg h, hs]; rfl
theorem stC_none {S : Tk} {c : Cs} (h : ¬ fnd S c.inp < 0) (hs : stF (S.cs.getD (fnd S c.inp).toNat default) c (2 ^ S.n.toNat) = none) : stC S c = none := by
  unfold stC; rw [if_neg h, hs]; rfl
/-- All allowed vectors of a well-formed case are vectors. -/
theorem allowed_vec {n m : Int} {c : Cs} (h : csE n m c = 0) (f : Int) : ∀ v ∈ allowedL c f, vecE v n m = 0 := by
  obtain ⟨-, h2, h3⟩ := csE_zero h
  have key : ∀ y ∈ c.out, vecE y n m = 0 := fun y hy => by
    obtain ⟨i, hi, rfl⟩ := List.getElem_of_mem hy
    have := (h2 i hi).1
    rwa [List.getD_eq_getElem?_getD, List.getElem?_eq_getElem hi] at this
  intro v hv
  unfold allowedL at hv
  split at hv
  · obtain ⟨i, hi, rfl⟩ := List.getElem_of_mem hv
    have := (h3 i hi).1
    rw [List.getD_eq_getElem?_getD, List.getElem?_eq_getElem hi] at this
    exact key _ this
  · exact key v hv
theorem agreesB_iff {v o : List Int} {s : Nat} : agreesB v o s = true ↔ ∀ p, p < v.length → has (s : Int) p = true ∨ o.getD p 0 = v.getD p 0 := by
  unfold agreesB
  rw [List.all_eq_true]
  constructor
  · intro h p hp
    have := h p (List.mem_range.2 hp)
    simpa using this
  · intro h p hp
    have := h p (List.mem_range.1 hp)
    simpa using this
theorem agreesB_symm {v o : List Int} {s : Nat} (hl : v.length = o.length) : agreesB v o s = agreesB o v s := by
  rw [Bool.eq_iff_iff, agreesB_iff, agreesB_iff]
  constructor
  · intro h p hp
    rcases h p (by omega) with h | h
    · exact .inl h
    · exact .inr h.symm
  · intro h p hp
    rcases h p (by omega) with h | h
    · exact .inl h
    · exact .inr h.symm
theorem agreesB_trans {u v o : List Int} {s : Nat} (hl : u.length = v.length) (h : agreesB u v s = true) (k : agreesB v o s = true) : agreesB u o s = true := by
  rw [agreesB_iff] at *
  intro p hp
  rcases h p hp with h1 | h1
  · exact .inl h1
  · rcases k p (by omega) with h2 | h2
    · exact .inl h2
    · exact .inr (h2.trans h1)
theorem agreesB_self (v : List Int) (s : Nat) : agreesB v v s = true := agreesB_iff.2 fun _ _ => .inr rfl
theorem fnd_ok {T : Tk} (h : tkE T = 0) {x : List Int} (hx : 0 ≤ fnd T x) : (fnd T x).toNat < T.cs.length ∧ (T.cs.getD (fnd T x).toNat default).inp = x := by
  by_cases e : ∃ i, i < T.cs.length ∧ (T.cs.getD i default).inp = x
  · obtain ⟨i, hi, hx⟩ := e
    rw [fnd_at (tk_ok h) hi hx, Int.toNat_natCast]
    exact ⟨hi, hx⟩
  · have := fnd_none (T := T) (x := x) fun i hi he => e ⟨i, hi, he⟩
    omega
/-- What the search for a witness has found. -/
theorem strS_some {S T : Tk} {x : List Int} {f : Nat} {o : List Int} (h : strS S T = some (x, f, o)) :
    ∃ k, k < T.cs.length ∧ (T.cs.getD k default).inp = x ∧ ((fnd S x < 0 ∧ f = 0 ∧ o = []) ∨
      (0 ≤ fnd S x ∧ f < 2 ^ S.n.toNat ∧ o ∈ allowedL (S.cs.getD (fnd S x).toNat default) f ∧ ((allowedL (T.cs.getD k default) f).any fun w => agreesB o w f) = false)) := by
  unfold strS at h
  obtain ⟨c, hc, h⟩ := List.exists_of_findSome?_eq_some h
  obtain ⟨k, hk, rfl⟩ := List.getElem_of_mem hc
  have e : T.cs.getD k default = T.cs[k] := by rw [List.getD_eq_getElem?_getD, List.getElem?_eq_getElem hk]; rfl
  refine ⟨k, hk, ?_⟩
  rw [e]
  unfold stC at h
  split at h
  · rename_i hn
    simp only [Option.some.injEq, Prod.mk.injEq] at h
    obtain ⟨rfl, rfl, rfl⟩ := h
    exact ⟨rfl, .inl ⟨hn, rfl, rfl⟩⟩
  · rename_i hn
    obtain ⟨⟨f', o'⟩, h1, h2⟩ := Option.map_eq_some_iff.1 h
    simp only [Prod.mk.injEq] at h2
    obtain ⟨rfl, rfl, rfl⟩ := h2
    refine ⟨rfl, .inr ⟨by omega, ?_⟩⟩
    unfold stF at h1
    obtain ⟨f2, hf2, h1⟩ := List.exists_of_findSome?_eq_some h1
    obtain ⟨v, h3, h4⟩ := Option.map_eq_some_iff.1 h1
    simp only [Prod.mk.injEq] at h4
    obtain ⟨rfl, rfl⟩ := h4
    refine ⟨by simpa using hf2, ?_⟩
    unfold stV at h3
    have h5 := List.find?_some h3
    exact ⟨List.mem_of_find?_eq_some h3, by simpa using h5⟩
theorem strS_none {S T : Tk} (h : strS S T = none) {k : Nat} (hk : k < T.cs.length) :
    0 ≤ fnd S (T.cs.getD k default).inp ∧ ∀ f : Nat, f < 2 ^ S.n.toNat → ∀ v ∈ allowedL (S.cs.getD (fnd S (T.cs.getD k default).inp).toNat default) f, ((allowedL (T.cs.getD k default) f).any fun w => agreesB v w f) = true := by
  unfold strS at h
  rw [List.findSome?_eq_none_iff] at h
  have hm : T.cs.getD k default ∈ T.cs := by
    rw [List.getD_eq_getElem?_getD, List.getElem?_eq_getElem hk]; exact List.getElem_mem hk
  have h := h _ hm
  unfold stC at h
  split at h
  · cases h
  · rename_i hn
    refine ⟨by omega, fun f hf v hv => ?_⟩
    rw [Option.map_eq_none_iff] at h
    unfold stF at h
    rw [List.findSome?_eq_none_iff] at h
    have h := h f (List.mem_range.2 hf)
    rw [Option.map_eq_none_iff] at h
    unfold stV at h
    have := List.find?_eq_none.1 h v hv
    simpa using this
theorem place_of {T : Tk} (h : tkE T = 0) {k f : Nat} (hk : k < T.cs.length) (hf : f < 2 ^ T.n.toNat) : placeE T k f = 0 := by
  unfold placeE
  rw [if_neg (fun j => j h), if_neg (by omega), if_neg]
  have : ((f : Nat) : Int) < ((2 ^ T.n.toNat : Nat) : Int) := by omega
  rw [Int.natCast_pow] at this
  have e : ((2 : Nat) : Int) = 2 := rfl
  rw [e] at this
  omega
theorem permS_of {T : Tk} (h : tkE T = 0) {k f : Nat} (hk : k < T.cs.length) (hf : f < 2 ^ T.n.toNat) {o : List Int} (hl : (o.length : Int) = T.n) (hb : ∀ x ∈ o, 0 ≤ x ∧ x < T.outs) :
    permS T k f o = ((allowedL (T.cs.getD k default) f).any fun v => agreesB v o f, 0) := by
  unfold permS
  rw [place_of h hk hf, if_neg (fun j => j rfl), if_neg (fun j => j hl), if_neg]
  · simp
  · intro h1
    obtain ⟨x, hx, h2⟩ := List.any_eq_true.1 h1
    have := hb x hx
    unfold decBad at h2
    simp at h2
    omega
/-- A witness is permitted by the one task. -/
theorem wit_may {S : Tk} (hS : tkE S = 0) {k f : Nat} (hk : k < S.cs.length) (hf : f < 2 ^ S.n.toNat) {o : List Int} (ho : o ∈ allowedL (S.cs.getD k default) f) :
    permS S k f o = (true, 0) ∧ (o.length : Int) = S.n ∧ ∀ x ∈ o, 0 ≤ x ∧ x < S.outs := by
  have hv := vecE_zero (allowed_vec ((tk_ok hS).at_ k hk).2 f o ho)
  refine ⟨?_, hv⟩
  rw [permS_of hS hk hf hv.1 hv.2]
  rw [List.any_eq_true.2 ⟨o, ho, agreesB_self o f⟩]
/-- And not by the other one. -/
theorem wit_not {T : Tk} (hT : tkE T = 0) {k f : Nat} (hk : k < T.cs.length) (hf : f < 2 ^ T.n.toNat) {o : List Int} (hl : (o.length : Int) = T.n) (hb : ∀ x ∈ o, 0 ≤ x ∧ x < T.outs)
    (hn : ((allowedL (T.cs.getD k default) f).any fun w => agreesB o w f) = false) : permS T k f o = (false, 0) := by
  rw [permS_of hT hk hf hl hb]
  have : ((allowedL (T.cs.getD k default) f).any fun v => agreesB v o f) = false := by
    rw [List.any_eq_false] at hn ⊢
    intro w hw
    have := hn w hw
    have hlw := (vecE_zero (allowed_vec ((tk_ok hT).at_ k hk).2 f w hw)).1
    rwa [agreesB_symm (by omega)]
  rw [this]
/-- What the stronger task permits, the weaker one permits. -/
theorem str_may {S T : Tk} (hS : tkE S = 0) (hT : tkE T = 0) (hn : S.n = T.n) {k f : Nat} (hk : k < T.cs.length) (hf : f < 2 ^ S.n.toNat) {o : List Int} (hl : (o.length : Int) = S.n) (hb : ∀ x ∈ o, 0 ≤ x ∧ x < S.outs ∧ x < T.outs) (h : strS S T = none) :
    (permS S (fnd S (T.cs.getD k default).inp) f o).2 = 0 ∧ (permS T k f o).2 = 0 ∧ ((permS S (fnd S (T.cs.getD k default).inp) f o).1 = true → (permS T k f o).1 = true) := by
  obtain ⟨h0, h1⟩ := strS_none h hk
  obtain ⟨h2, h3⟩ := fnd_ok hS h0
  have e : fnd S (T.cs.getD k default).inp = (((fnd S (T.cs.getD k default).inp).toNat : Nat) : Int) := by omega
  have h1 := h1 f hf
  generalize (fnd S (T.cs.getD k default).inp).toNat = i at *
  rw [e, permS_of hS h2 hf hl (fun x hx => ⟨(hb x hx).1, (hb x hx).2.1⟩), permS_of hT hk (by rw [← hn]; exact hf) (by rw [← hn]; exact hl) (fun x hx => ⟨(hb x hx).1, (hb x hx).2.2⟩)]
  refine ⟨rfl, rfl, fun h4 => ?_⟩
  obtain ⟨v, hv, h5⟩ := List.any_eq_true.1 h4
  obtain ⟨w, hw, h6⟩ := List.any_eq_true.1 (h1 v hv)
  have l1 := (vecE_zero (allowed_vec ((tk_ok hS).at_ i h2).2 f v hv)).1
  have l2 := (vecE_zero (allowed_vec ((tk_ok hT).at_ k hk).2 f w hw)).1
  refine List.any_eq_true.2 ⟨w, hw, ?_⟩
  rw [agreesB_symm (by omega)] at h6
  exact agreesB_trans (by omega) h6 h5
end Go.Proofs.YthkididgbaamcaaGreatDoor
