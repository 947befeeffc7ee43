/-
  Plain: the rounds of the failure models, bit by bit; which models permit the rounds of others; renaming.
  Conditions: as each theorem states.
-/
import Derived.Test.YtdlhnpogddpmpaaGreatFaultLaw
namespace Go.Proofs.YtdlhnpogddpmpaaGreat

/-- Process p hears process q. -/
def hb (g : Gr) (p q : Nat) : Bool := bit (g.h p).toNat q
/-- A round of a model, bit by bit: k are the processes that were faulty before. -/
structure StepF (op n f k : Nat) (r : Rd) : Prop where
  sub : ∀ q, q < n → bit k q = true → bit r.f.toNat q = true
  few : sizeN r.f.toNat ≤ f
  row : ∀ p, p < n → ∀ q, q < n → q ≠ p → badQ ⟨op, n, f⟩ k r.f.toNat p q (hb r.g p q) = false
  fit : ∀ x, x < n → bit r.f.toNat x = true → bit k x = false → showsB ⟨op, n, f⟩ k r.g x = true
/-- What a well-formed round of n processes is. -/
structure RdN (n : Nat) (r : Rd) : Prop where
  wf : Wf r.g n
  f : ∃ o : Nat, r.f = (o : Int) ∧ o < 2 ^ n
theorem rdN_of {n : Nat} {r : Rd} (h : rchk r = 0) (hn : r.g.n = n) : RdN n r := by
  obtain ⟨h1, h2⟩ := rchk_zero h
  obtain ⟨m, hm⟩ := wf_of h1
  have : m = n := by have := hm.n_eq; omega
  subst this
  obtain ⟨_, _, h3, h4⟩ := pchk_zero h2
  refine ⟨hm, r.f.toNat, by omega, ?_⟩
  rw [hm.toNat, show ((2 : Int) ^ m) = ((2 ^ m : Nat) : Int) by simp] at h4
  generalize 2 ^ m = M at h4 ⊢
  omega
theorem bit_big {n s q : Nat} (hs : s < 2 ^ n) (hq : n ≤ q) : bit s q = false := Nat.testBit_lt_two_pow (Nat.lt_of_lt_of_le hs (Nat.pow_le_pow_right (by decide) hq))
theorem and_iff {n k o : Nat} (hk : k < 2 ^ n) : k &&& o = k ↔ ∀ q, q < n → bit k q = true → bit o q = true := by
  constructor
  · intro h q _ hb
    have : (k &&& o).testBit q = true := by rw [h]; exact hb
    rw [Nat.testBit_and, Bool.and_eq_true] at this
    exact this.2
  · intro h
    refine Nat.eq_of_testBit_eq fun q => ?_
    rw [Nat.testBit_and]
    by_cases hq : q < n
    · cases hb : k.testBit q with
      | false => rfl
      | true => rw [show o.testBit q = true from h q hq hb]; rfl
    · rw [show k.testBit q = false from bit_big hk (by omega)]; rfl
theorem edgesF_key {op n f k : Nat} (hop : 1 ≤ op ∧ op ≤ 4) (h5 : n ≤ 5) {s : Stp17} (hs : s ∈ edgesB ⟨op, n, f⟩ k) : s.2 = s.1.f.toNat := by
  obtain ⟨g, o, rfl, _⟩ := (edgesF_mem hop h5).1 hs
  rfl
theorem step_iff {op n f k : Nat} (hop : 1 ≤ op ∧ op ≤ 4) (h5 : n ≤ 5) (hk : k < 2 ^ n) {r : Rd} (hr : RdN n r) : (∃ s ∈ edgesB ⟨op, n, f⟩ k, s.1 = r) ↔ StepF op n f k r := by
  obtain ⟨o, ho, ho2⟩ := hr.f
  have hoN : r.f.toNat = o := by rw [ho]; rfl
  constructor
  · rintro ⟨s, hs, rfl⟩
    obtain ⟨g, o', rfl, h1, h2, h3, h4, h6⟩ := (edgesF_mem hop h5).1 hs
    have e : ((o' : Nat) : Int).toNat = o' := rfl
    refine ⟨fun q hq hb => ?_, ?_, fun p hp q hq hne => ?_, fun x hx hox hkx => ?_⟩
    · show bit ((o' : Nat) : Int).toNat q = true
      rw [e]; exact (and_iff hk).1 h2 q hq hb
    · exact h3
    · obtain ⟨t, _, e1, e2⟩ := h4.row p hp
      unfold rowB at e2
      rw [Bool.and_eq_true, List.all_eq_true] at e2
      have := e2.2 q (List.mem_range.2 hq)
      rw [show (q == p) = false by simpa using hne, Bool.false_or, Bool.not_eq_true'] at this
      show badQ ⟨op, n, f⟩ k o' p q (bit (g.h p).toNat q) = false
      rw [e1]; exact this
    · unfold fitsB at h6
      rw [List.all_eq_true] at h6
      have := h6 x (List.mem_range.2 hx)
      have hox : bit o' x = true := hox
      rw [hox, hkx] at this
      simpa using this
  · intro h
    obtain ⟨g, fo⟩ := r
    have hfo : fo = (o : Int) := ho
    subst hfo
    refine ⟨(⟨g, (o : Nat)⟩, o), (edgesF_mem hop h5).2 ⟨g, o, rfl, ho2, (and_iff hk).2 h.sub, h.few, ⟨hr.wf.n_eq, fun q hq => ⟨g.r q, hr.wf.lt q hq, hr.wf.row q, ?_⟩, fun q hq _ => by rw [hr.wf.row q, hr.wf.out q hq]; rfl⟩, ?_⟩, rfl⟩
    · unfold rowB
      rw [Bool.and_eq_true, List.all_eq_true]
      refine ⟨hr.wf.own q hq, fun y hy => ?_⟩
      by_cases e : y = q
      · subst e; simp
      · rw [show (y == q) = false by simpa using e, Bool.false_or, Bool.not_eq_true']
        exact h.row q hq y (List.mem_range.1 hy) e
    · unfold fitsB
      rw [List.all_eq_true]
      intro x hx
      have := h.fit x (List.mem_range.1 hx)
      cases h1 : bit o x with
      | false => rfl
      | true =>
        cases h2 : bit k x with
        | true => rfl
        | false => rw [this h1 h2]; rfl
/-- Rounds that follow one another, bit by bit. -/
def ChainF (op n f : Nat) : Nat → List Rd → Prop
  | _, [] => True
  | k, r :: l => StepF op n f k r ∧ ChainF op n f r.f.toNat l
theorem chain_iff {op n f : Nat} (hop : 1 ≤ op ∧ op ≤ 4) (h5 : n ≤ 5) : ∀ (l : List Rd) (k : Nat), k < 2 ^ n → (∀ r ∈ l, RdN n r) → (Chain (edgesB ⟨op, n, f⟩) k l ↔ ChainF op n f k l)
  | [], _, _, _ => Iff.rfl
  | r :: l, k, hk, hl => by
    have hr := hl r (List.mem_cons_self ..)
    obtain ⟨o, ho, ho2⟩ := hr.f
    have hlt : r.f.toNat < 2 ^ n := by rw [ho]; exact ho2
    have ih := chain_iff (f := f) hop h5 l r.f.toNat hlt fun x hx => hl x (List.mem_cons_of_mem _ hx)
    show (∃ s ∈ edgesB ⟨op, n, f⟩ k, s.1 = r ∧ Chain (edgesB ⟨op, n, f⟩) s.2 l) ↔ _ ∧ _
    rw [← ih, ← step_iff hop h5 hk hr]
    constructor
    · rintro ⟨s, hs, rfl, hc⟩
      rw [edgesF_key hop h5 hs] at hc
      exact ⟨⟨s, hs, rfl⟩, hc⟩
    · rintro ⟨⟨s, hs, rfl⟩, hc⟩
      exact ⟨s, hs, rfl, by rw [edgesF_key hop h5 hs]; exact hc⟩
theorem ChainF.imp {op op' n f f' : Nat} (h : ∀ k r, RdN n r → k < 2 ^ n → StepF op n f k r → StepF op' n f' k r) : ∀ (l : List Rd) (k : Nat), k < 2 ^ n → (∀ r ∈ l, RdN n r) → ChainF op n f k l → ChainF op' n f' k l
  | [], _, _, _, _ => trivial
  | r :: l, k, hk, hl, ⟨h1, h2⟩ => by
    have hr := hl r (List.mem_cons_self ..)
    obtain ⟨o, ho, ho2⟩ := hr.f
    exact ⟨h k r hr hk h1, ChainF.imp h l _ (by rw [ho]; exact ho2) (fun x hx => hl x (List.mem_cons_of_mem _ hx)) h2⟩
/-! Which models permit the rounds of others -/
theorem size_few : ((List.range 32).all fun o => (List.range 6).all fun n => decide (n ≤ sizeN o) || (List.range n).any fun y => !o.testBit y) = true := by decide +kernel
theorem size_free {o n : Nat} (ho : o < 32) (hn : n ≤ 5) (h : sizeN o < n) : ∃ y, y < n ∧ bit o y = false := by
  have t := size_few
  rw [List.all_eq_true] at t
  have t := t o (List.mem_range.2 ho)
  rw [List.all_eq_true] at t
  have t := t n (List.mem_range.2 (by omega))
  rw [show decide (n ≤ sizeN o) = false from decide_eq_false (by omega), Bool.false_or, List.any_eq_true] at t
  obtain ⟨y, hy, e⟩ := t
  exact ⟨y, List.mem_range.1 hy, by simpa [bit] using e⟩
theorem size_one_table : ((List.range 32).all fun o => (List.range 5).all fun x => (List.range 5).all fun y => decide (1 < sizeN o) || !o.testBit x || !o.testBit y || x == y) = true := by decide +kernel
theorem size_one {o x y : Nat} (ho : o < 32) (hx : x < 5) (hy : y < 5) (h : sizeN o ≤ 1) (h1 : bit o x = true) (h2 : bit o y = true) : x = y := by
  have t := size_one_table
  rw [List.all_eq_true] at t
  have t := t o (List.mem_range.2 ho)
  rw [List.all_eq_true] at t
  have t := t x (List.mem_range.2 hx)
  rw [List.all_eq_true] at t
  have t := t y (List.mem_range.2 hy)
  rw [show decide (1 < sizeN o) = false from decide_eq_false (by omega), show o.testBit x = true from h1, show o.testBit y = true from h2] at t
  simpa using t
theorem shows_omit {n f k : Nat} {g : Gr} {x : Nat} : showsB ⟨4, n, f⟩ k g x = true ↔ ∃ y, y < n ∧ y ≠ x ∧ (hb g y x = false ∨ hb g x y = false) ∧ bit k y = false := by
  unfold showsB
  simp only [show ((4 : Nat) == 2) = false from rfl, show ((4 : Nat) == 3) = false from rfl, show ((4 : Nat) == 4) = true from rfl, show ((4 : Nat) == 1) = false from rfl, Bool.false_and, Bool.false_or, Bool.true_and, Bool.or_false, List.any_eq_true, Bool.and_eq_true, Bool.or_eq_true, Bool.not_eq_true', bne_iff_ne]
  constructor
  · rintro ⟨y, hy, h1, h2, h3⟩
    exact ⟨y, List.mem_range.1 hy, h1, h2, h3⟩
  · rintro ⟨y, hy, h1, h2, h3⟩
    exact ⟨y, List.mem_range.2 hy, h1, h2, h3⟩
theorem shows_send {n f k : Nat} {g : Gr} {x : Nat} : showsB ⟨2, n, f⟩ k g x = true ↔ ∃ y, y < n ∧ y ≠ x ∧ hb g y x = false := by
  unfold showsB
  simp only [show ((2 : Nat) == 2) = true from rfl, show ((2 : Nat) == 3) = false from rfl, show ((2 : Nat) == 4) = false from rfl, show ((2 : Nat) == 1) = false from rfl, Bool.false_and, Bool.true_and, Bool.or_false, List.any_eq_true, Bool.and_eq_true, Bool.not_eq_true', bne_iff_ne]
  constructor
  · rintro ⟨y, hy, h1, h2⟩
    exact ⟨y, List.mem_range.1 hy, h1, h2⟩
  · rintro ⟨y, hy, h1, h2⟩
    exact ⟨y, List.mem_range.2 hy, h1, h2⟩
theorem shows_recv {n f k : Nat} {g : Gr} {x : Nat} : showsB ⟨3, n, f⟩ k g x = true ↔ ∃ y, y < n ∧ y ≠ x ∧ hb g x y = false := by
  unfold showsB
  simp only [show ((3 : Nat) == 2) = false from rfl, show ((3 : Nat) == 3) = true from rfl, show ((3 : Nat) == 4) = false from rfl, show ((3 : Nat) == 1) = false from rfl, Bool.false_and, Bool.false_or, Bool.true_and, Bool.or_false, List.any_eq_true, Bool.and_eq_true, Bool.not_eq_true', bne_iff_ne]
  constructor
  · rintro ⟨y, hy, h1, h2⟩
    exact ⟨y, List.mem_range.1 hy, h1, h2⟩
  · rintro ⟨y, hy, h1, h2⟩
    exact ⟨y, List.mem_range.2 hy, h1, h2⟩
theorem crash_omit {n f k : Nat} {r : Rd} (h5 : n ≤ 5) (hf : f < n) (hr : RdN n r) (h : StepF 1 n f k r) : StepF 4 n f k r := by
  obtain ⟨o, ho, ho2⟩ := hr.f
  have h32 := pow32_le h5
  have hoN : r.f.toNat = o := by rw [ho]; rfl
  refine ⟨h.sub, h.few, fun p hp q hq hne => ?_, fun x hx hox hkx => ?_⟩
  · have := h.row p hp q hq hne
    revert this
    simp only [badQ]
    simp only [show ((4 : Nat) = 1) = False by simp, show ((4 : Nat) = 2) = False by simp, show ((4 : Nat) = 3) = False by simp, if_true, if_false]
    cases bit r.f.toNat p <;> cases bit r.f.toNat q <;> cases bit k q <;> cases hb r.g p q <;> decide
  · have hfew := h.few
    rw [hoN] at hfew
    obtain ⟨y, hy, hyo⟩ := size_free (o := o) (by omega) h5 (by omega)
    rw [← hoN] at hyo
    have hne : y ≠ x := fun e => by rw [e, hox] at hyo; cases hyo
    refine shows_omit.2 ⟨y, hy, hne, .inr ?_, ?_⟩
    · have := h.row x hx y hy hne
      revert this
      simp only [badQ, if_true, hox]
      cases hb r.g x y <;> simp
    · cases hky : bit k y with
      | false => rfl
      | true => rw [h.sub y hy hky] at hyo; cases hyo
theorem single_omit {op n k : Nat} {r : Rd} (hop : op = 2 ∨ op = 3) (h5 : n ≤ 5) (hr : RdN n r) (h : StepF op n 1 k r) : StepF 4 n 1 k r := by
  obtain ⟨o, ho, ho2⟩ := hr.f
  have h32 := pow32_le h5
  have hoN : r.f.toNat = o := by rw [ho]; rfl
  refine ⟨h.sub, h.few, fun p hp q hq hne => ?_, fun x hx hox hkx => ?_⟩
  · have := h.row p hp q hq hne
    revert this
    simp only [badQ]
    rcases hop with rfl | rfl
    all_goals
      simp only [show ((2 : Nat) = 1) = False by simp, show ((3 : Nat) = 1) = False by simp, show ((3 : Nat) = 2) = False by simp, show ((4 : Nat) = 1) = False by simp, show ((4 : Nat) = 2) = False by simp, show ((4 : Nat) = 3) = False by simp, if_true, if_false]
      cases bit r.f.toNat p <;> cases bit r.f.toNat q <;> cases hb r.g p q <;> decide
  · have hky : ∀ y, y < n → y ≠ x → bit k y = false := fun y hy hne => by
      cases hb : bit k y with
      | false => rfl
      | true =>
        exfalso
        have h1 := h.sub y hy hb
        have h2 := h.few
        rw [hoN] at h1 h2 hox
        exact hne (size_one (by omega) (by omega) (by omega) h2 h1 hox)
    have hs := h.fit x hx hox hkx
    rcases hop with rfl | rfl
    · obtain ⟨y, hy, hne, hm⟩ := shows_send.1 hs
      exact shows_omit.2 ⟨y, hy, hne, .inl hm, hky y hy hne⟩
    · obtain ⟨y, hy, hne, hm⟩ := shows_recv.1 hs
      exact shows_omit.2 ⟨y, hy, hne, .inr hm, hky y hy hne⟩
/-! Renaming -/
/-- A renaming of n processes. -/
structure Ren (n : Nat) (π : Nat → Nat) : Prop where
  lt : ∀ q, q < n → π q < n
  inj : ∀ p q, p < n → q < n → π p = π q → p = q
  sur : ∀ q, q < n → ∃ p, p < n ∧ π p = q
/-- Renamed sets and rounds. -/
structure RenR (n : Nat) (π : Nat → Nat) (k k' : Nat) (r r' : Rd) : Prop where
  k : ∀ q, q < n → bit k' (π q) = bit k q
  f : ∀ q, q < n → bit r'.f.toNat (π q) = bit r.f.toNat q
  g : ∀ p q, p < n → q < n → hb r'.g (π p) (π q) = hb r.g p q
theorem size_range {n o : Nat} (h5 : n ≤ 5) (ho : o < 2 ^ n) : sizeN o = (List.range n).countP fun q => bit o q := by
  unfold sizeN
  have e : List.range 5 = List.range n ++ (List.range (5 - n)).map (n + ·) := by
    rw [← List.range_add, show n + (5 - n) = 5 by omega]
  rw [e, List.countP_append]
  have h0 : ((List.range (5 - n)).map (n + ·)).countP (fun p => o.testBit p) = 0 := by
    rw [List.countP_eq_zero]
    intro q hq
    obtain ⟨j, _, rfl⟩ := List.mem_map.1 hq
    have := bit_big ho (show n ≤ n + j by omega)
    unfold bit at this
    simp [this]
  rw [h0]; rfl
theorem ren_perm {n : Nat} {π : Nat → Nat} (h : Ren n π) : ((List.range n).map π).Perm (List.range n) := by
  refine (List.perm_ext_iff_of_nodup ?_ List.nodup_range).2 fun q => ?_
  · refine List.pairwise_map.2 (List.Pairwise.imp_of_mem ?_ List.nodup_range)
    intro a b ha hb hab e
    exact hab (h.inj a b (List.mem_range.1 ha) (List.mem_range.1 hb) e)
  · rw [List.mem_map, List.mem_range]
    constructor
    · rintro ⟨p, hp, rfl⟩
      exact h.lt p (List.mem_range.1 hp)
    · intro hq
      obtain ⟨p, hp, e⟩ := h.sur q hq
      exact ⟨p, List.mem_range.2 hp, e⟩
theorem size_ren {n o o' : Nat} {π : Nat → Nat} (h5 : n ≤ 5) (h : Ren n π) (ho : o < 2 ^ n) (ho' : o' < 2 ^ n) (hb : ∀ q, q < n → bit o' (π q) = bit o q) : sizeN o' = sizeN o := by
  rw [size_range h5 ho, size_range h5 ho', ← (ren_perm h).countP_eq, List.countP_map]
  refine List.countP_congr fun q hq => ?_
  show bit o' (π q) = true ↔ bit o q = true
  rw [hb q (List.mem_range.1 hq)]
theorem shows_any {op n f k : Nat} {g : Gr} {x : Nat} : showsB ⟨op, n, f⟩ k g x = true ↔ op = 1 ∨ ∃ y, y < n ∧ y ≠ x ∧ ((op = 2 ∧ hb g y x = false ∨ op = 3 ∧ hb g x y = false) ∨ (op = 4 ∧ (hb g y x = false ∨ hb g x y = false)) ∧ bit k y = false) := by
  unfold showsB hb
  simp only [Bool.or_eq_true, List.any_eq_true, Bool.and_eq_true, Bool.not_eq_true', bne_iff_ne, beq_iff_eq, List.mem_range]
  constructor
  · rintro (⟨y, h1, h2, h3⟩ | h)
    · exact .inr ⟨y, h1, h2, h3⟩
    · exact .inl h
  · rintro (h | ⟨y, h1, h2, h3⟩)
    · exact .inr h
    · exact .inl ⟨y, h1, h2, h3⟩
theorem badQ_congr {op n f b b' o o' p p' q q' : Nat} {h : Bool} (h1 : bit o' p' = bit o p) (h2 : bit o' q' = bit o q) (h3 : bit b' q' = bit b q) : badQ ⟨op, n, f⟩ b' o' p' q' h = badQ ⟨op, n, f⟩ b o p q h := by
  unfold badQ
  rw [h1, h2, h3]
theorem step_ren {op n f k k' : Nat} {π : Nat → Nat} {r r' : Rd} (h5 : n ≤ 5) (h : Ren n π) (hr : RdN n r) (hr' : RdN n r') (H : RenR n π k k' r r') : StepF op n f k' r' ↔ StepF op n f k r := by
  obtain ⟨o, ho, ho2⟩ := hr.f
  obtain ⟨o', ho', ho2'⟩ := hr'.f
  have hsz : sizeN r'.f.toNat = sizeN r.f.toNat := size_ren h5 h (by rw [ho]; exact ho2) (by rw [ho']; exact ho2') H.f
  constructor
  · intro S
    refine ⟨fun q hq hb => ?_, by rw [← hsz]; exact S.few, fun p hp q hq hne => ?_, fun x hx hox hkx => ?_⟩
    · rw [← H.f q hq]
      exact S.sub _ (h.lt q hq) (by rw [H.k q hq]; exact hb)
    · have := S.row (π p) (h.lt p hp) (π q) (h.lt q hq) fun e => hne (h.inj q p hq hp e)
      rw [H.g p q hp hq, badQ_congr (H.f p hp) (H.f q hq) (H.k q hq)] at this
      exact this
    · have := shows_any.1 (S.fit (π x) (h.lt x hx) (by rw [H.f x hx]; exact hox) (by rw [H.k x hx]; exact hkx))
      refine shows_any.2 (this.imp id ?_)
      rintro ⟨y', hy', hne, hc⟩
      obtain ⟨y, hy, rfl⟩ := h.sur y' hy'
      rw [H.g y x hy hx, H.g x y hx hy, H.k y hy] at hc
      exact ⟨y, hy, fun e => hne (by rw [e]), hc⟩
  · intro S
    refine ⟨fun q' hq' hb => ?_, by rw [hsz]; exact S.few, fun p' hp' q' hq' hne => ?_, fun x' hx' hox hkx => ?_⟩
    · obtain ⟨q, hq, rfl⟩ := h.sur q' hq'
      rw [H.f q hq]
      exact S.sub q hq (by rw [← H.k q hq]; exact hb)
    · obtain ⟨p, hp, rfl⟩ := h.sur p' hp'
      obtain ⟨q, hq, rfl⟩ := h.sur q' hq'
      have := S.row p hp q hq fun e => hne (by rw [e])
      rw [H.g p q hp hq, badQ_congr (H.f p hp) (H.f q hq) (H.k q hq)]
      exact this
    · obtain ⟨x, hx, rfl⟩ := h.sur x' hx'
      have := shows_any.1 (S.fit x hx (by rw [← H.f x hx]; exact hox) (by rw [← H.k x hx]; exact hkx))
      refine shows_any.2 (this.imp id ?_)
      rintro ⟨y, hy, hne, hc⟩
      refine ⟨π y, h.lt y hy, fun e => hne (h.inj y x hy hx e), ?_⟩
      rw [H.g y x hy hx, H.g x y hx hy, H.k y hy]
      exact hc
end Go.Proofs.YtdlhnpogddpmpaaGreat
