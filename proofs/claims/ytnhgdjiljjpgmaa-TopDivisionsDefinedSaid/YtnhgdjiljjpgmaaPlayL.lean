/-
  Plain: the definitions of the failure models in the top law, and that they are the models' rounds.
  Conditions: as each theorem states.
-/
import Derived.Test.YtnhgdjiljjpgmaaPartLaw
import Derived.Test.YtnhgdjiljjpgmaaWordA
namespace Go.Proofs.Ytnhgdjiljjpgmaa

/-- The row of a process in a round of crashes, as the law says it. -/
def crashRow (n o b p h : Nat) : Bool := !((bit o p && h != 2 ^ p) || (!bit o p && ((h &&& b != 0) || (andNot (andNot (fullN n) o) h != 0))))
def playC (n : Nat) (r : Rd) (b f : Nat) : Bool := decide (sizeN r.f.toNat ≤ f) && (List.range n).all fun p => crashRow n r.f.toNat b p (r.g.h p).toNat
theorem crash_table : ((List.range 2).all fun m => (List.range (2 ^ (m + 2))).all fun b => (List.range (2 ^ (m + 2))).all fun o => (b &&& o != b) || (List.range (m + 2)).all fun p => (List.range (2 ^ (m + 2))).all fun h => !h.testBit p ||
    (crashRow (m + 2) o b p h == (List.range (m + 2)).all fun q => q == p || !badQ ⟨1, m + 2, 0⟩ b o p q (bit h q))) = true := by decide +kernel
theorem crash_row {n b o p h : Nat} (hn : n = 2 ∨ n = 3) (hb : b < 2 ^ n) (ho : o < 2 ^ n) (hbo : b &&& o = b) (hp : p < n) (hh : h < 2 ^ n) (hown : bit h p = true) : crashRow n o b p h = (List.range n).all fun q => q == p || !badQ ⟨1, n, 0⟩ b o p q (bit h q) := by
  have t := crash_table
  obtain ⟨m, rfl, hm⟩ : ∃ m, n = m + 2 ∧ m < 2 := ⟨n - 2, by omega, by omega⟩
  rw [List.all_eq_true] at t
  have t := t m (List.mem_range.2 hm)
  rw [List.all_eq_true] at t
  have t := t b (List.mem_range.2 hb)
  rw [List.all_eq_true] at t
  have t := t o (List.mem_range.2 ho)
  rw [show (b &&& o != b) = false by simpa using hbo, Bool.false_or, List.all_eq_true] at t
  have t := t p (List.mem_range.2 hp)
  rw [List.all_eq_true] at t
  have t := t h (List.mem_range.2 hh)
  rw [show h.testBit p = true from hown, Bool.not_true, Bool.false_or, beq_iff_eq] at t
  exact t
theorem playC_iff {n f b : Nat} {r : Rd} (hn : n = 2 ∨ n = 3) (hr : RdN n r) (hbn : b < 2 ^ n) (hs : ∀ q, q < n → bit b q = true → bit r.f.toNat q = true) : playC n r b f = true ↔ StepF 1 n f b r := by
  obtain ⟨o, ho, ho2⟩ := hr.f
  have hoN : r.f.toNat = o := by rw [ho]; rfl
  have hbo : b &&& o = b := (and_iff hbn).2 (by rw [← hoN]; exact hs)
  unfold playC
  rw [Bool.and_eq_true, decide_eq_true_eq, List.all_eq_true]
  constructor
  · rintro ⟨h1, h2⟩
    refine ⟨hs, h1, fun p hp q hq hne => ?_, fun x _ _ _ => by unfold showsB; simp⟩
    have h3 := h2 p (List.mem_range.2 hp)
    rw [hoN, hr.wf.row p, Int.toNat_natCast, crash_row hn hbn ho2 hbo hp (hr.wf.lt p hp) (hr.wf.own p hp), List.all_eq_true] at h3
    have h4 := h3 q (List.mem_range.2 hq)
    rw [show (q == p) = false by simpa using hne, Bool.false_or, Bool.not_eq_true'] at h4
    rw [hoN]
    unfold hb
    rw [hr.wf.row p, Int.toNat_natCast]
    exact h4
  · intro h
    refine ⟨h.few, fun p hp => ?_⟩
    have hp := List.mem_range.1 hp
    rw [hoN, hr.wf.row p, Int.toNat_natCast, crash_row hn hbn ho2 hbo hp (hr.wf.lt p hp) (hr.wf.own p hp), List.all_eq_true]
    intro q hq
    have hq := List.mem_range.1 hq
    by_cases e : q = p
    · subst e; simp
    · have := h.row p hp q hq e
      rw [hoN] at this
      unfold hb at this
      rw [hr.wf.row p, Int.toNat_natCast] at this
      have this : badQ ⟨1, n, 0⟩ b o p q (bit (r.g.r p) q) = false := this
      rw [this]; simp
/-! Omissions -/
def omOk (_n : Nat) (r : Rd) (sd rc : Bool) (p q : Nat) : Bool := hb r.g p q || ((sd && bit r.f.toNat q) || (rc && bit r.f.toNat p))
/-- What a missing message shows. -/
def omAdd (r : Rd) (b : Nat) (sd rc : Bool) (p q x : Nat) : Bool := !hb r.g p q && ((sd && bit r.f.toNat q && (!rc || !bit b p) && q == x) || (rc && bit r.f.toNat p && (!sd || !bit b q) && p == x))
def playO (n : Nat) (r : Rd) (b f : Nat) (sd rc : Bool) : Bool := decide (sizeN r.f.toNat ≤ f) && (((List.range n).all fun p => (List.range n).all fun q => omOk n r sd rc p q) &&
  (List.range n).all fun x => !bit r.f.toNat x || (bit b x || (List.range n).any fun p => (List.range n).any fun q => omAdd r b sd rc p q x))
theorem playO_iff {op n f b : Nat} {r : Rd} {sd rc : Bool} (hop : (op = 2 ∧ sd = true ∧ rc = false) ∨ (op = 3 ∧ sd = false ∧ rc = true) ∨ (op = 4 ∧ sd = true ∧ rc = true)) (hr : RdN n r) (hs : ∀ q, q < n → bit b q = true → bit r.f.toNat q = true) : playO n r b f sd rc = true ↔ StepF op n f b r := by
  have hown : ∀ p, p < n → hb r.g p p = true := fun p hp => by
    unfold hb bit
    rw [hr.wf.row p, Int.toNat_natCast]
    exact hr.wf.own p hp
  unfold playO
  simp only [Bool.and_eq_true, decide_eq_true_eq, List.all_eq_true, List.mem_range, Bool.or_eq_true, Bool.not_eq_true', List.any_eq_true]
  constructor
  · rintro ⟨h1, h2, h3⟩
    refine ⟨hs, h1, fun p hp q hq hne => ?_, fun x hx hox hkx => ?_⟩
    · have := h2 p hp q hq
      revert this
      unfold omOk badQ
      rcases hop with ⟨rfl, rfl, rfl⟩ | ⟨rfl, rfl, rfl⟩ | ⟨rfl, rfl, rfl⟩
      all_goals
        simp only [show ((2 : Nat) = 1) = False by simp, show ((3 : Nat) = 1) = False by simp, show ((3 : Nat) = 2) = False by simp, show ((4 : Nat) = 1) = False by simp, show ((4 : Nat) = 2) = False by simp, show ((4 : Nat) = 3) = False by simp, if_true, if_false]
        cases bit r.f.toNat p <;> cases bit r.f.toNat q <;> cases hb r.g p q <;> decide
    · rcases h3 x hx with h | h | ⟨p, hp, q, hq, h⟩
      · rw [hox] at h; cases h
      · rw [hkx] at h; cases h
      · refine shows_any.2 (.inr ?_)
        unfold omAdd at h
        simp only [Bool.and_eq_true, Bool.or_eq_true, Bool.not_eq_true', beq_iff_eq] at h
        obtain ⟨hm, h⟩ := h
        have hne : p ≠ q := fun e => by subst e; rw [hown p hp] at hm; cases hm
        rcases hop with ⟨rfl, rfl, rfl⟩ | ⟨rfl, rfl, rfl⟩ | ⟨rfl, rfl, rfl⟩
        · rcases h with ⟨_, rfl⟩ | ⟨⟨⟨h, _⟩, _⟩, _⟩
          · exact ⟨p, hp, hne, .inl (.inl ⟨rfl, hm⟩)⟩
          · cases h
        · rcases h with ⟨⟨⟨h, _⟩, _⟩, _⟩ | ⟨_, rfl⟩
          · cases h
          · exact ⟨q, hq, fun e => hne e.symm, .inl (.inr ⟨rfl, hm⟩)⟩
        · rcases h with ⟨⟨_, h⟩, rfl⟩ | ⟨⟨_, h⟩, rfl⟩
          · rcases h with h | h
            · cases h
            · exact ⟨p, hp, hne, .inr ⟨⟨rfl, .inl hm⟩, h⟩⟩
          · rcases h with h | h
            · cases h
            · exact ⟨q, hq, fun e => hne e.symm, .inr ⟨⟨rfl, .inr hm⟩, h⟩⟩
  · intro h
    refine ⟨h.few, fun p hp q hq => ?_, fun x hx => ?_⟩
    · by_cases e : q = p
      · subst e; unfold omOk; rw [hown q hq]; rfl
      · have := h.row p hp q hq e
        revert this
        unfold omOk badQ
        rcases hop with ⟨rfl, rfl, rfl⟩ | ⟨rfl, rfl, rfl⟩ | ⟨rfl, rfl, rfl⟩
        all_goals
          simp only [show ((2 : Nat) = 1) = False by simp, show ((3 : Nat) = 1) = False by simp, show ((3 : Nat) = 2) = False by simp, show ((4 : Nat) = 1) = False by simp, show ((4 : Nat) = 2) = False by simp, show ((4 : Nat) = 3) = False by simp, if_true, if_false]
          cases bit r.f.toNat p <;> cases bit r.f.toNat q <;> cases hb r.g p q <;> decide
    · cases hox : bit r.f.toNat x with
      | false => exact .inl rfl
      | true =>
        right
        cases hkx : bit b x with
        | true => exact .inl rfl
        | false =>
          right
          rcases shows_any.1 (h.fit x hx hox hkx) with e | ⟨y, hy, hne, hc⟩
          · rcases hop with ⟨rfl, _⟩ | ⟨rfl, _⟩ | ⟨rfl, _⟩ <;> cases e
          · rcases hop with ⟨rfl, rfl, rfl⟩ | ⟨rfl, rfl, rfl⟩ | ⟨rfl, rfl, rfl⟩
            · have hm : hb r.g y x = false := by
                rcases hc with (⟨_, h⟩ | ⟨e, _⟩) | ⟨⟨e, _⟩, _⟩
                · exact h
                · cases e
                · cases e
              exact ⟨y, hy, x, hx, by unfold omAdd; simp [hm, hox]⟩
            · have hm : hb r.g x y = false := by
                rcases hc with (⟨e, _⟩ | ⟨_, h⟩) | ⟨⟨e, _⟩, _⟩
                · cases e
                · exact h
                · cases e
              exact ⟨x, hx, y, hy, by unfold omAdd; simp [hm, hox]⟩
            · have hm : (hb r.g y x = false ∨ hb r.g x y = false) ∧ bit b y = false := by
                rcases hc with (⟨e, _⟩ | ⟨e, _⟩) | ⟨⟨_, h⟩, h2⟩
                · cases e
                · cases e
                · exact ⟨h, h2⟩
              obtain ⟨hm | hm, hby⟩ := hm
              · exact ⟨y, hy, x, hx, by unfold omAdd; simp [hm, hox, hby]⟩
              · exact ⟨x, hx, y, hy, by unfold omAdd; simp [hm, hox, hby]⟩
/-! Words -/
/-- Who was faulty before round j. -/
def befN (l : List Rd) : Nat → Nat
  | 0 => 0
  | j + 1 => (l.getD j default).f.toNat
/-- A round as the definition of kind i says it. -/
def playK (i n : Nat) (r : Rd) (b f : Nat) : Bool := if i = 0 then playC n r b f else playO n r b f (decide (i ≠ 2)) (decide (i ≠ 1))
def wantB (i n f : Nat) (l : List Rd) (j : Nat) : Bool := (List.range j).all fun t => playK i n (l.getD t default) (befN l t) f
theorem wantB_succ (i n f : Nat) (l : List Rd) (j : Nat) : wantB i n f l (j + 1) = (wantB i n f l j && playK i n (l.getD j default) (befN l j) f) := by
  unfold wantB
  rw [List.range_succ, List.all_append]
  simp
/-- What a word of n processes is. -/
structure WdN (n : Nat) (l : List Rd) : Prop where
  rd : ∀ r ∈ l, RdN n r
  up : ∀ j, j < l.length → ∀ q, q < n → bit (befN l j) q = true → bit (l.getD j default).f.toNat q = true
theorem playK_iff {i n f b : Nat} {r : Rd} (hi : i < 4) (hn : n = 2 ∨ n = 3) (hr : RdN n r) (hbn : b < 2 ^ n) (hs : ∀ q, q < n → bit b q = true → bit r.f.toNat q = true) : playK i n r b f = true ↔ StepF (i + 1) n f b r := by
  obtain rfl | rfl | rfl | rfl : i = 0 ∨ i = 1 ∨ i = 2 ∨ i = 3 := by omega
  · exact playC_iff hn hr hbn hs
  · exact playO_iff (.inl ⟨rfl, rfl, rfl⟩) hr hs
  · exact playO_iff (.inr (.inl ⟨rfl, rfl, rfl⟩)) hr hs
  · exact playO_iff (.inr (.inr ⟨rfl, rfl, rfl⟩)) hr hs
theorem bef_lt {n : Nat} {l : List Rd} (h : ∀ r ∈ l, RdN n r) : ∀ j, j ≤ l.length → befN l j < 2 ^ n
  | 0, _ => Nat.two_pow_pos n
  | j + 1, hj => by
    have hm : l.getD j default ∈ l := by rw [List.getD_eq_getElem?_getD, List.getElem?_eq_getElem (show j < l.length by omega)]; exact List.getElem_mem _
    obtain ⟨o, ho, ho2⟩ := (h _ hm).f
    show (l.getD j default).f.toNat < 2 ^ n
    rw [ho]; exact ho2
theorem chain_from {op n f : Nat} {l : List Rd} : ∀ (m j : Nat), j + m = l.length → (ChainF op n f (befN l j) (l.drop j) ↔ ∀ t, j ≤ t → t < l.length → StepF op n f (befN l t) (l.getD t default))
  | 0, j, hj => by
    rw [List.drop_eq_nil_of_le (by omega)]
    exact ⟨fun _ t h1 h2 => absurd h2 (by omega), fun _ => trivial⟩
  | m + 1, j, hj => by
    have hlt : j < l.length := by omega
    have e : l.getD j default = l[j] := by rw [List.getD_eq_getElem?_getD, List.getElem?_eq_getElem hlt]; rfl
    rw [List.drop_eq_getElem_cons hlt]
    have ih := chain_from (op := op) (n := n) (f := f) (l := l) m (j + 1) (by omega)
    have hb : befN l (j + 1) = l[j].f.toNat := by show (l.getD j default).f.toNat = _; rw [e]
    rw [hb] at ih
    show StepF op n f (befN l j) l[j] ∧ ChainF op n f l[j].f.toNat (l.drop (j + 1)) ↔ _
    rw [ih]
    constructor
    · rintro ⟨h1, h2⟩ t ht1 ht2
      by_cases et : t = j
      · subst et; rw [e]; exact h1
      · exact h2 t (by omega) ht2
    · intro h
      exact ⟨by have := h j (Nat.le_refl _) hlt; rwa [e] at this, fun t h1 h2 => h t (by omega) h2⟩
theorem want_iff {i n f : Nat} {l : List Rd} (hi : i < 4) (hn : n = 2 ∨ n = 3) (h : WdN n l) : wantB i n f l l.length = true ↔ ChainF (i + 1) n f 0 l := by
  have hc := chain_from (op := i + 1) (n := n) (f := f) (l := l) l.length 0 (by omega)
  rw [List.drop_zero] at hc
  rw [show befN l 0 = 0 from rfl] at hc
  rw [hc]
  unfold wantB
  rw [List.all_eq_true]
  constructor
  · intro k t _ ht
    have hm : l.getD t default ∈ l := by rw [List.getD_eq_getElem?_getD, List.getElem?_eq_getElem ht]; exact List.getElem_mem _
    exact (playK_iff hi hn (h.rd _ hm) (bef_lt h.rd t (by omega)) (h.up t ht)).1 (k t (List.mem_range.2 ht))
  · intro k t ht
    have ht := List.mem_range.1 ht
    have hm : l.getD t default ∈ l := by rw [List.getD_eq_getElem?_getD, List.getElem?_eq_getElem ht]; exact List.getElem_mem _
    exact (playK_iff hi hn (h.rd _ hm) (bef_lt h.rd t (by omega)) (h.up t ht)).2 (k t (Nat.zero_le _) ht)
theorem wdN_of {n : Nat} {l : List Rd} (h : wordE n l = 0) : WdN n l := by
  have hf : ∀ i, i < l.length → wErr n l i = 0 := by
    unfold wordE at h
    split at h
    · cases h
    · split at h
      · cases h
      · exact firstErr_zero.1 h
  have key : ∀ i, i < l.length → rchk (l.getD i default) = 0 ∧ (l.getD i default).g.n = n ∧ inside (prevF l i) (l.getD i default).f = true := fun i hi => by
    have hw := hf i hi
    unfold wErr at hw
    by_cases h1 : rchk (l.getD i default) = 0
    · rw [if_neg (fun k => k h1)] at hw
      by_cases h2 : (l.getD i default).g.n = n
      · rw [if_neg (fun k => k h2)] at hw
        refine ⟨h1, h2, ?_⟩
        cases hin : inside (prevF l i) (l.getD i default).f with
        | true => rfl
        | false => rw [hin] at hw; cases hw
      · rw [if_pos h2] at hw; cases hw
    · rw [if_pos h1] at hw; exact absurd hw h1
  have hrd : ∀ i, i < l.length → RdN n (l.getD i default) := fun i hi => rdN_of (key i hi).1 (key i hi).2.1
  refine ⟨fun r hr => ?_, fun j hj q hq hb => ?_⟩
  · obtain ⟨i, hi, rfl⟩ := List.mem_iff_getElem.1 hr
    have := hrd i hi
    rwa [show l.getD i default = l[i] by rw [List.getD_eq_getElem?_getD, List.getElem?_eq_getElem hi]; rfl] at this
  · match j, hj, hb with
    | 0, _, hb => unfold befN bit at hb; rw [Nat.zero_testBit] at hb; cases hb
    | j + 1, hj, hb =>
      have h1 := (hrd (j + 1) hj)
      obtain ⟨o, ho, ho2⟩ := h1.f
      obtain ⟨o', ho', ho2'⟩ := (hrd j (by omega)).f
      have h5 := h1.wf.n5
      have h32 := pow32_le h5
      have hin := (key (j + 1) hj).2.2
      rw [show prevF l (j + 1) = (l.getD j default).f from rfl, ho, ho', inside_n17 (by omega) (by omega), beq_iff_eq] at hin
      have hb : bit (l.getD j default).f.toNat q = true := hb
      rw [ho'] at hb
      rw [ho]
      exact (and_iff ho2').1 hin q hq hb
end Go.Proofs.Ytnhgdjiljjpgmaa
