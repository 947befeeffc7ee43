/-
  Plain: what the program and the reference of chapter 17 compute, and that both are the same for few processes.
  Conditions: as each theorem states.
-/
import Derived.Test.YtnhgdjiljjpgmaaGrAll
namespace Go.Proofs.Ytnhgdjiljjpgmaa

/-! ### The program -/
/-- The subsets of a set, in ascending order. -/
def subsL (set : Nat) : List Nat := (List.range (set + 1)).filter fun x => x &&& set == x
def andNot (a b : Nat) : Nat := a - (a &&& b)
def betwL (low high : Nat) : List Nat := (subsL (andNot high low)).map (low ||| ·)
def fullN (n : Nat) : Nat := 2 ^ n - 1
def sizeN (set : Nat) : Nat := (List.range 5).countP fun p => set.testBit p
/-- A step: a round, and the key of the state behind it. -/
abbrev Stp17 := Rd × Nat
/-- The graphs whose rows from p on are drawn from lists. -/
def eachG (rows : Nat → List Nat) (fits : Gr → Bool) : Nat → Nat → Gr → List Gr
  | 0, _, g => if fits g = true then [g] else []
  | k + 1, p, g => (rows p).flatMap fun (row : Nat) => eachG rows fits k (p + 1) (g.set p (row : Nat))
def gzn (n : Nat) : Gr := ⟨n, 0, 0, 0, 0, 0⟩
structure Mdl where
  n : Nat
  f : Nat
  rows : Nat → Nat → Nat → List Nat
  fits : Gr → Nat → Nat → Bool
def graphsM (m : Mdl) (b o : Nat) : List Gr := eachG (fun p => m.rows p b o) (fun g => m.fits g b o) m.n 0 (gzn m.n)
def stepsM (m : Mdl) (b : Nat) : List Stp17 := (subsL (andNot (fullN m.n) b)).flatMap fun more =>
  if m.f < sizeN (b ||| more) then [] else (graphsM m b (b ||| more)).map fun g => (⟨g, (b ||| more : Nat)⟩, b ||| more)
def insR (e : Stp17) : List Stp17 → List Stp17
  | [] => [e]
  | x :: l => if 0 < rcmp x.1 e.1 then e :: x :: l else x :: insR e l
def sortR (l : List Stp17) : List Stp17 := l.foldl (fun out e => insR e out) []
/-- The keys behind a state's steps, with new ones at the end. -/
def keysR (order : List Nat) (l : List Stp17) : List Nat := l.foldl (fun o s => if s.2 ∈ o then o else o ++ [s.2]) order
def movesR (order : List Nat) (l : List Stp17) : List Mv := l.map fun s => ⟨s.1, ((keysR order l).idxOf s.2 : Nat)⟩
/-- The states that are found, from number i on. -/
def buildR (E : Nat → List Stp17) (n : Nat) : Nat → Nat → List Nat → Nat → List (List Mv) → Option (List (List Mv))
  | 0, _, _, _, _ => none
  | fuel + 1, i, order, count, out =>
    if h : i < order.length then
      if 4096 < count + (E order[i]).length then none
      else buildR E n fuel (i + 1) (keysR order (E order[i])) (count + (E order[i]).length) (out ++ [movesR order (E order[i])])
    else some out
/-- The adversary, or the error. -/
def buildA (E : Nat → List Stp17) (n : Nat) : Adv × Int := match buildR E n 64 0 [0] 0 [] with
  | none => (⟨0, []⟩, 17)
  | some st => (⟨n, st⟩, 0)
/-! The models -/
def bit (s p : Nat) : Bool := s.testBit p
def crashM (n f : Nat) : Mdl := ⟨n, f, fun p b o => if bit o p = true then betwL (2 ^ p) (2 ^ p) else betwL (andNot (fullN n) o) (andNot (fullN n) b), fun _ _ _ => true⟩
def eachN (n b o : Nat) (ok : Nat → Bool) : Bool := (List.range n).all fun x => !bit (andNot o b) x || ok x
def unheardN (g : Gr) (n x : Nat) : Nat := (List.range n).foldl (fun out p => if bit (g.h p).toNat x = true then out else out ||| 2 ^ p) 0
def sendM (n f : Nat) : Mdl := ⟨n, f, fun p _ o => betwL (andNot (fullN n) o ||| 2 ^ p) (fullN n), fun g b o => eachN n b o fun x => decide (unheardN g n x ≠ 0)⟩
def recvM (n f : Nat) : Mdl := ⟨n, f, fun p _ o => if bit o p = true then betwL (2 ^ p) (fullN n) else betwL (fullN n) (fullN n), fun g b o => eachN n b o fun x => decide ((g.h x).toNat ≠ fullN n)⟩
def omitM (n f : Nat) : Mdl := ⟨n, f, fun p _ o => if bit o p = true then betwL (2 ^ p) (fullN n) else betwL (andNot (fullN n) o ||| 2 ^ p) (fullN n),
  fun g b o => eachN n b o fun x => decide (andNot (andNot (unheardN g n x ||| andNot (fullN n) (g.h x).toNat) b) (2 ^ x) ≠ 0)⟩
/-- The graphs of the groups that the rest is divided into. -/
def divG (n : Nat) : Nat → Nat → Gr → List Gr
  | 0, _, g => [g]
  | k + 1, rest, g => if rest = 0 then [g] else
    (betwL (rest &&& (32 - rest % 32)) rest).flatMap fun x => divG n k (andNot rest x) ((List.range n).foldl (fun h p => if bit x p = true then h.set p x else h) g)
def groupsL (n : Nat) : List Gr := divG n n (fullN n) (gzn n)
def wholeG (n : Nat) : Gr := (List.range n).foldl (fun g p => g.set p (fullN n)) (gzn n)
def partE (n k key : Nat) : List Stp17 := (groupsL n).flatMap fun g =>
  if (if g = wholeG n then key else key + 1) ≤ k then [(⟨g, 0⟩, if g = wholeG n then key else key + 1)] else []
def nextG (n : Nat) : Nat → Nat → Gr → List Gr
  | 0, _, g => [g]
  | k + 1, seen, g => if andNot (fullN n) seen = 0 then [g] else
    (subsL (andNot (fullN n) seen)).flatMap fun x => if x = 0 then [] else nextG n k (seen ||| x) ((List.range n).foldl (fun h p => if bit x p = true then h.set p (seen ||| x : Nat) else h) g)
def snapL (n : Nat) : List Gr := nextG n n 0 (gzn n)
def snapE (n : Nat) : List Stp17 := (snapL n).map fun g => (⟨g, 0⟩, 0)

/-! ### The reference -/
structure Rul where
  op : Nat
  n : Nat
  num : Nat
def badQ (r : Rul) (b o p q : Nat) (heard : Bool) : Bool :=
  if r.op = 1 then (bit o p && heard) || (!bit o p && ((bit b q && heard) || (!bit o q && !heard)))
  else if r.op = 2 then !heard && !bit o q
  else if r.op = 3 then !heard && !bit o p
  else !heard && !bit o p && !bit o q
def rowB (r : Rul) (b o p set : Nat) : Bool := bit set p && (List.range r.n).all fun q => q == p || !badQ r b o p q (bit set q)
def showsB (r : Rul) (b : Nat) (g : Gr) (x : Nat) : Bool :=
  ((List.range r.n).any fun y => y != x &&
    ((r.op == 2 && !bit (g.h y).toNat x || r.op == 3 && !bit (g.h x).toNat y) || (r.op == 4 && (!bit (g.h y).toNat x || !bit (g.h x).toNat y) && !bit b y))) || r.op == 1
def fitsB (r : Rul) (b o : Nat) (g : Gr) : Bool := (List.range r.n).all fun x => !(bit o x && !bit b x && !showsB r b g x)
def growG (n : Nat) (ok : Gr → Nat → Nat → Bool) (p : Nat) (l : List Gr) : List Gr := l.flatMap fun g => ((List.range (2 ^ n)).filter (ok g p)).map fun (s : Nat) => g.set p (s : Int)
def rowsG (n : Nat) (ok : Gr → Nat → Nat → Bool) : List Gr := (List.range n).foldl (fun l p => growG n ok p l) [gzn n]
def graphsB (r : Rul) (b o : Nat) : List Gr := (rowsG r.n fun _ p s => rowB r b o p s).filter (fitsB r b o)
def faultsB (r : Rul) (b : Nat) : List Stp17 := (List.range (2 ^ r.n)).flatMap fun o =>
  if (b &&& o == b) && decide (sizeN o ≤ r.num) then (graphsB r b o).map fun g => (⟨g, (o : Nat)⟩, o) else []
def dividedB (n : Nat) (g : Gr) : Bool := (List.range n).all fun p => (List.range n).all fun q => !(bit (g.h p).toNat q && g.h p != g.h q)
def insd (a b : Nat) : Bool := a &&& b == a
def snapB (n : Nat) (g : Gr) : Bool := (List.range n).all fun p => (List.range n).all fun q =>
  !((!insd (g.h p).toNat (g.h q).toNat && !insd (g.h q).toNat (g.h p).toNat) || (bit (g.h p).toNat q && !insd (g.h q).toNat (g.h p).toNat))
def joinsB (op : Nat) (g : Gr) (p set : Nat) : Bool := (List.range p).all fun q =>
  !((op == 5 && set != (g.h q).toNat && (set &&& (g.h q).toNat) != 0) || (op == 6 && !insd set (g.h q).toNat && !insd (g.h q).toNat set))
def everyB (n op : Nat) : List Gr := rowsG n fun g p s => bit s p && joinsB op g p s
def divsB (r : Rul) (used : Nat) : List Stp17 := (everyB r.n 5).flatMap fun g =>
  if !dividedB r.n g || (!(g.h 0 == (fullN r.n : Nat)) && used == r.num) then []
  else [(⟨g, 0⟩, if g.h 0 == (fullN r.n : Nat) then used else used + 1)]
def edgesB (r : Rul) (key : Nat) : List Stp17 := sortR (if r.op = 5 then divsB r key else faultsB r key)
def mdlOf (r : Rul) : Mdl := if r.op = 1 then crashM r.n r.num else if r.op = 2 then sendM r.n r.num else if r.op = 3 then recvM r.n r.num else omitM r.n r.num

/-! ### Both are the same -/
def sameFault (op n f : Nat) : Bool := (List.range (2 ^ n)).all fun key => decide (sortR (stepsM (mdlOf ⟨op, n, f⟩) key) = edgesB ⟨op, n, f⟩ key)
/-- One row more, drawn from a list. -/
def stepG (R : Nat → List Nat) (p : Nat) (l : List Gr) : List Gr := l.flatMap fun g => (R p).map fun (s : Nat) => g.set p (s : Int)
theorem filter_flat (fits : Gr → Bool) : ∀ l : List Gr, l.filter fits = l.flatMap fun g => if fits g = true then [g] else []
  | [] => rfl
  | g :: l => by
    rw [List.flatMap_cons, ← filter_flat fits l]
    by_cases h : fits g = true
    · rw [List.filter_cons_of_pos h, if_pos h]; rfl
    · rw [List.filter_cons_of_neg h, if_neg h]; rfl
theorem each_rows (R : Nat → List Nat) (fits : Gr → Bool) : ∀ (k p : Nat) (l : List Gr), ((List.range' p k).foldl (fun l p => stepG R p l) l).filter fits = l.flatMap (eachG R fits k p)
  | 0, p, l => by
    show l.filter fits = _
    rw [filter_flat]; rfl
  | k + 1, p, l => by
    rw [List.range'_succ, List.foldl_cons, each_rows R fits k (p + 1)]
    unfold stepG
    rw [List.flatMap_assoc]
    congr 1
    funext g
    rw [List.flatMap_map]; rfl
theorem grow_step (n : Nat) (R : Nat → List Nat) (ok : Nat → Nat → Bool) (hR : ∀ p, p < n → R p = (List.range (2 ^ n)).filter (ok p)) : rowsG n (fun _ p s => ok p s) = (List.range' 0 n).foldl (fun l p => stepG R p l) [gzn n] := by
  unfold rowsG
  rw [List.range_eq_range']
  have : ∀ (k p : Nat) (l : List Gr), p + k ≤ n → (List.range' p k).foldl (fun l p => growG n (fun _ p s => ok p s) p l) l = (List.range' p k).foldl (fun l p => stepG R p l) l := fun k => by
    induction k with
    | zero => intro p l _; rfl
    | succ k ih =>
      intro p l h
      rw [List.range'_succ, List.foldl_cons, List.foldl_cons, ih (p + 1) _ (by omega)]
      congr 1
      unfold growG stepG
      rw [hR p (by omega)]
  exact this n 0 _ (by omega)
theorem set_h (g : Gr) {p : Nat} (hp : p < 5) (x : Int) (q : Nat) : q < 5 → (g.set p x).h q = if q = p then x else g.h q := by
  intro hq
  obtain rfl | rfl | rfl | rfl | rfl : p = 0 ∨ p = 1 ∨ p = 2 ∨ p = 3 ∨ p = 4 := by omega
  all_goals
    obtain rfl | rfl | rfl | rfl | rfl : q = 0 ∨ q = 1 ∨ q = 2 ∨ q = 3 ∨ q = 4 := by omega
    all_goals rfl
/-- The rows of such graphs are drawn from the lists. -/
theorem mem_step (R : Nat → List Nat) : ∀ (k p : Nat) (l : List Gr), p + k ≤ 5 → ∀ g ∈ (List.range' p k).foldl (fun l p => stepG R p l) l, (∃ g0 ∈ l, ∀ q, q < p → g.h q = g0.h q) ∧ ∀ q, p ≤ q → q < p + k → ∃ s : Nat, s ∈ R q ∧ g.h q = (s : Int)
  | 0, p, l, _, g, hg => ⟨⟨g, hg, fun _ _ => rfl⟩, fun q h1 h2 => absurd h2 (by omega)⟩
  | k + 1, p, l, hk, g, hg => by
    rw [List.range'_succ, List.foldl_cons] at hg
    obtain ⟨⟨g1, hg1, h1⟩, h2⟩ := mem_step R k (p + 1) _ (by omega) g hg
    unfold stepG at hg1
    obtain ⟨g0, hg0, hg1⟩ := List.mem_flatMap.1 hg1
    obtain ⟨s, hs, rfl⟩ := List.mem_map.1 hg1
    refine ⟨⟨g0, hg0, fun q hq => ?_⟩, fun q hq1 hq2 => ?_⟩
    · rw [h1 q (by omega), set_h g0 (by omega) _ q (by omega), if_neg (by omega)]
    · by_cases e : q = p
      · subst e
        exact ⟨s, hs, by rw [h1 q (by omega), set_h g0 (by omega) _ q (by omega), if_pos rfl]⟩
      · exact h2 q (by omega) (by omega)
/-! Sets of at most five processes -/
theorem andNot_table : ((List.range 32).all fun a => (List.range 32).all fun b => decide (andNot a b < 32) && (List.range 5).all fun i => (andNot a b).testBit i == (a.testBit i && !b.testBit i)) = true := by decide +kernel
theorem andNot_bit {a b i : Nat} (ha : a < 32) (hb : b < 32) (hi : i < 5) : bit (andNot a b) i = (bit a i && !bit b i) := by
  have h := andNot_table
  rw [List.all_eq_true] at h
  have h := h a (List.mem_range.2 ha)
  rw [List.all_eq_true] at h
  have h := h b (List.mem_range.2 hb)
  rw [Bool.and_eq_true, List.all_eq_true] at h
  have := h.2 i (List.mem_range.2 hi)
  rw [beq_iff_eq] at this
  exact this
theorem andNot_lt {a b : Nat} (ha : a < 32) (hb : b < 32) : andNot a b < 32 := by
  have h := andNot_table
  rw [List.all_eq_true] at h
  have h := h a (List.mem_range.2 ha)
  rw [List.all_eq_true] at h
  have h := h b (List.mem_range.2 hb)
  rw [Bool.and_eq_true] at h
  exact of_decide_eq_true h.1
theorem zero_table : ((List.range 32).all fun a => (a == 0) == (List.range 5).all fun i => !a.testBit i) = true := by decide +kernel
theorem ne_zero_bit {a : Nat} (ha : a < 32) : decide (a ≠ 0) = (List.range 5).any fun i => bit a i := by
  have h := zero_table
  rw [List.all_eq_true] at h
  have h := h a (List.mem_range.2 ha)
  rw [beq_iff_eq] at h
  have e : ((List.range 5).any fun i => bit a i) = !((List.range 5).all fun i => !a.testBit i) := by
    rw [List.not_all_eq_any_not]; simp [bit]
  rw [e, ← h]
  by_cases hz : a = 0 <;> simp [hz]
theorem full_table : ((List.range 5).all fun n => (List.range (2 ^ (n + 1))).all fun s => (decide (s ≠ fullN (n + 1))) == (List.range (n + 1)).any fun y => !s.testBit y) = true := by decide +kernel
theorem ne_full {n s : Nat} (h1 : 1 ≤ n) (h5 : n ≤ 5) (hs : s < 2 ^ n) : decide (s ≠ fullN n) = (List.range n).any fun y => !bit s y := by
  obtain ⟨k, rfl⟩ : ∃ k, n = k + 1 := ⟨n - 1, by omega⟩
  have h := full_table
  rw [List.all_eq_true] at h
  have h := h k (List.mem_range.2 (by omega))
  rw [List.all_eq_true] at h
  have h := h s (List.mem_range.2 hs)
  rw [beq_iff_eq] at h
  exact h
theorem fullN_bit {n i : Nat} (h5 : n ≤ 5) (hi : i < 5) : bit (fullN n) i = decide (i < n) := by
  obtain rfl | rfl | rfl | rfl | rfl | rfl : n = 0 ∨ n = 1 ∨ n = 2 ∨ n = 3 ∨ n = 4 ∨ n = 5 := by omega
  all_goals
    obtain rfl | rfl | rfl | rfl | rfl : i = 0 ∨ i = 1 ∨ i = 2 ∨ i = 3 ∨ i = 4 := by omega
    all_goals rfl
theorem pow_bit {x i : Nat} (hx : x < 5) (hi : i < 5) : bit (2 ^ x) i = decide (i = x) := by
  obtain rfl | rfl | rfl | rfl | rfl : x = 0 ∨ x = 1 ∨ x = 2 ∨ x = 3 ∨ x = 4 := by omega
  all_goals
    obtain rfl | rfl | rfl | rfl | rfl : i = 0 ∨ i = 1 ∨ i = 2 ∨ i = 3 ∨ i = 4 := by omega
    all_goals rfl
theorem or_fold (c : Nat → Bool) : ∀ (l : List Nat) (acc i : Nat), (∀ p ∈ l, p < 5) → i < 5 → acc < 32 → (l.foldl (fun out p => if c p = true then out else out ||| 2 ^ p) acc) < 32 ∧
    bit (l.foldl (fun out p => if c p = true then out else out ||| 2 ^ p) acc) i = (bit acc i || (l.any fun p => decide (i = p) && !c p))
  | [], acc, i, _, _, ha => ⟨ha, by simp⟩
  | p :: l, acc, i, hl, hi, ha => by
    have hp := hl p (by simp)
    have h2 : 2 ^ p < 32 := by
      obtain rfl | rfl | rfl | rfl | rfl : p = 0 ∨ p = 1 ∨ p = 2 ∨ p = 3 ∨ p = 4 := by omega
      all_goals decide
    have ho : acc ||| 2 ^ p < 32 := Nat.or_lt_two_pow (n := 5) ha h2
    rw [List.foldl_cons, List.any_cons]
    by_cases hc : c p = true
    · rw [if_pos hc]
      obtain ⟨k1, k2⟩ := or_fold c l acc i (fun q hq => hl q (by simp [hq])) hi ha
      exact ⟨k1, by rw [k2, hc]; simp⟩
    · rw [if_neg hc]
      obtain ⟨k1, k2⟩ := or_fold c l (acc ||| 2 ^ p) i (fun q hq => hl q (by simp [hq])) hi ho
      refine ⟨k1, ?_⟩
      have hc' : c p = false := by simpa using hc
      rw [k2, hc']
      have e : bit (acc ||| 2 ^ p) i = (bit acc i || decide (i = p)) := by
        show (acc ||| 2 ^ p).testBit i = _
        rw [Nat.testBit_or]
        show (bit acc i || bit (2 ^ p) i) = _
        rw [pow_bit hp hi]
      rw [e]
      simp [Bool.or_assoc]
theorem unheard_bit {g : Gr} {n x i : Nat} (h5 : n ≤ 5) (hi : i < 5) : unheardN g n x < 32 ∧ bit (unheardN g n x) i = (decide (i < n) && !bit (g.h i).toNat x) := by
  obtain ⟨h1, h2⟩ := or_fold (fun p => bit (g.h p).toNat x) (List.range n) 0 i (fun p hp => by have := List.mem_range.1 hp; omega) hi (by decide)
  refine ⟨h1, ?_⟩
  show bit ((List.range n).foldl _ 0) i = _
  rw [h2]
  have e0 : bit 0 i = false := by unfold bit; simp
  rw [e0, Bool.false_or, Bool.eq_iff_iff, List.any_eq_true]
  constructor
  · rintro ⟨p, hp, h⟩
    simp only [Bool.and_eq_true, decide_eq_true_eq] at h ⊢
    obtain ⟨rfl, h⟩ := h
    exact ⟨List.mem_range.1 hp, h⟩
  · intro h
    simp only [Bool.and_eq_true, decide_eq_true_eq] at h
    exact ⟨i, List.mem_range.2 h.1, by simp [h.2]⟩
theorem any5 {n : Nat} (h5 : n ≤ 5) (c : Nat → Bool) : ((List.range 5).any fun i => decide (i < n) && c i) = (List.range n).any c := by
  rw [Bool.eq_iff_iff, List.any_eq_true, List.any_eq_true]
  constructor
  · rintro ⟨i, _, h⟩
    rw [Bool.and_eq_true, decide_eq_true_eq] at h
    exact ⟨i, List.mem_range.2 h.1, h.2⟩
  · rintro ⟨i, hi, h⟩
    have := List.mem_range.1 hi
    exact ⟨i, List.mem_range.2 (by omega), by simp [this, h]⟩
theorem any_congr {l : List Nat} {c d : Nat → Bool} (h : ∀ i ∈ l, c i = d i) : l.any c = l.any d := by
  rw [Bool.eq_iff_iff, List.any_eq_true, List.any_eq_true]
  exact ⟨fun ⟨i, hi, k⟩ => ⟨i, hi, by rw [← h i hi]; exact k⟩, fun ⟨i, hi, k⟩ => ⟨i, hi, by rw [h i hi]; exact k⟩⟩
theorem all_congr' {l : List Nat} {c d : Nat → Bool} (h : ∀ i ∈ l, c i = d i) : l.all c = l.all d := by
  rw [Bool.eq_iff_iff, List.all_eq_true, List.all_eq_true]
  exact ⟨fun k i hi => by rw [← h i hi]; exact k i hi, fun k i hi => by rw [h i hi]; exact k i hi⟩
theorem pow32_le {n : Nat} (h : n ≤ 5) : 2 ^ n ≤ 32 := Nat.pow_le_pow_right (by decide) h
/-- A graph whose rows are sets, each with its own process. -/
def OwnG (n : Nat) (g : Gr) : Prop := ∀ p, p < n → ∃ s : Nat, g.h p = (s : Int) ∧ s < 2 ^ n ∧ bit s p = true
theorem fits_eq {op n f b o : Nat} (hop : 1 ≤ op ∧ op ≤ 4) (h1 : 1 ≤ n) (h5 : n ≤ 5) (hb : b < 2 ^ n) (ho : o < 2 ^ n) {g : Gr} (hg : OwnG n g) : (mdlOf ⟨op, n, f⟩).fits g b o = fitsB ⟨op, n, f⟩ b o g := by
  have h32 := pow32_le h5
  have hself : ∀ x, x < n → bit (g.h x).toNat x = true := fun x hx => by
    obtain ⟨s, e, _, h⟩ := hg x hx
    rw [e, Int.toNat_natCast]; exact h
  have hlt : ∀ x, x < n → (g.h x).toNat < 2 ^ n := fun x hx => by
    obtain ⟨s, e, h, _⟩ := hg x hx
    rw [e, Int.toNat_natCast]; exact h
  have key : ∀ ok : Nat → Bool, (∀ x, x < n → ok x = showsB ⟨op, n, f⟩ b g x) → eachN n b o ok = fitsB ⟨op, n, f⟩ b o g := fun ok hok => by
    unfold eachN fitsB
    refine all_congr' fun x hx => ?_
    have hx := List.mem_range.1 hx
    rw [andNot_bit (by omega) (by omega) (by omega), hok x hx]
    cases bit o x <;> cases bit b x <;> cases showsB ⟨op, n, f⟩ b g x <;> rfl
  obtain rfl | rfl | rfl | rfl : op = 1 ∨ op = 2 ∨ op = 3 ∨ op = 4 := by omega
  · show true = _
    symm
    unfold fitsB
    rw [List.all_eq_true]
    intro x _
    have : showsB ⟨1, n, f⟩ b g x = true := by unfold showsB; simp
    rw [this]; simp
  · refine key _ fun x hx => ?_
    rw [ne_zero_bit (unheard_bit (i := 0) h5 (by decide)).1, any_congr (d := fun i => decide (i < n) && !bit (g.h i).toNat x) (fun i hi => (unheard_bit h5 (List.mem_range.1 hi)).2), any5 h5]
    unfold showsB
    simp only [Bool.or_false, show ((2 : Nat) == 3) = false from rfl, show ((2 : Nat) == 4) = false from rfl, show ((2 : Nat) == 1) = false from rfl, show ((2 : Nat) == 2) = true from rfl, Bool.true_and, Bool.false_and]
    refine any_congr fun y _ => ?_
    by_cases e : y = x
    · subst e; rw [hself y hx]; simp
    · rw [show (y != x) = true by simpa using e, Bool.true_and]
  · refine key _ fun x hx => ?_
    rw [ne_full h1 h5 (hlt x hx)]
    unfold showsB
    simp only [Bool.or_false, show ((3 : Nat) == 3) = true from rfl, show ((3 : Nat) == 4) = false from rfl, show ((3 : Nat) == 1) = false from rfl, show ((3 : Nat) == 2) = false from rfl, Bool.true_and, Bool.false_and, Bool.false_or]
    refine any_congr fun y _ => ?_
    by_cases e : y = x
    · subst e; rw [hself y hx]; simp
    · rw [show (y != x) = true by simpa using e, Bool.true_and]
  · refine key _ fun x hx => ?_
    have hU := (unheard_bit (g := g) (x := x) (i := 0) h5 (by decide)).1
    have hf : fullN n < 32 := by unfold fullN; have : 0 < 2 ^ n := Nat.pow_pos (by decide); omega
    have hV := andNot_lt hf (show (g.h x).toNat < 32 by have := hlt x hx; omega)
    have hO : unheardN g n x ||| andNot (fullN n) (g.h x).toNat < 32 := Nat.or_lt_two_pow (n := 5) hU hV
    have hA := andNot_lt hO (show b < 32 by omega)
    have hx2 : 2 ^ x < 32 := by
      obtain rfl | rfl | rfl | rfl | rfl : x = 0 ∨ x = 1 ∨ x = 2 ∨ x = 3 ∨ x = 4 := by omega
      all_goals decide
    rw [ne_zero_bit (andNot_lt hA hx2)]
    unfold showsB
    simp only [Bool.or_false, show ((4 : Nat) == 3) = false from rfl, show ((4 : Nat) == 4) = true from rfl, show ((4 : Nat) == 1) = false from rfl, show ((4 : Nat) == 2) = false from rfl, Bool.true_and, Bool.false_and, Bool.false_or]
    rw [← any5 h5]
    refine any_congr fun y hy => ?_
    have hy := List.mem_range.1 hy
    rw [andNot_bit hA hx2 hy, andNot_bit hO (show b < 32 by omega) hy, pow_bit (by omega) hy]
    have e : bit (unheardN g n x ||| andNot (fullN n) (g.h x).toNat) y = (decide (y < n) && !bit (g.h y).toNat x || decide (y < n) && !bit (g.h x).toNat y) := by
      show (unheardN g n x ||| andNot (fullN n) (g.h x).toNat).testBit y = _
      rw [Nat.testBit_or]
      show (bit (unheardN g n x) y || bit (andNot (fullN n) (g.h x).toNat) y) = _
      rw [(unheard_bit h5 hy).2, andNot_bit hf (by have := hlt x hx; omega) hy, fullN_bit h5 hy]
    rw [e]
    have e2 : (y != x) = !decide (y = x) := by by_cases h : y = x <;> simp [h]
    rw [e2]
    cases decide (y < n) <;> cases bit (g.h y).toNat x <;> cases bit (g.h x).toNat y <;> cases bit b y <;> cases decide (y = x) <;> rfl
/-! The rows -/
theorem rows_table : ((List.range 4).all fun o4 => (List.range 4).all fun n4 => (List.range (2 ^ (n4 + 1))).all fun b => (List.range (2 ^ (n4 + 1))).all fun o => (b &&& o != b) || (List.range (n4 + 1)).all fun p =>
    decide ((mdlOf ⟨o4 + 1, n4 + 1, 0⟩).rows p b o = (List.range (2 ^ (n4 + 1))).filter (rowB ⟨o4 + 1, n4 + 1, 0⟩ b o p))) = true := by decide +kernel
theorem rows_eq {op n f b o p : Nat} (hop : 1 ≤ op ∧ op ≤ 4) (h1 : 1 ≤ n) (h4 : n ≤ 4) (hb : b < 2 ^ n) (ho : o < 2 ^ n) (hbo : b &&& o = b) (hp : p < n) : (mdlOf ⟨op, n, f⟩).rows p b o = (List.range (2 ^ n)).filter (rowB ⟨op, n, f⟩ b o p) := by
  have h := rows_table
  obtain ⟨k, rfl⟩ : ∃ k, n = k + 1 := ⟨n - 1, by omega⟩
  obtain ⟨j, rfl⟩ : ∃ j, op = j + 1 := ⟨op - 1, by omega⟩
  rw [List.all_eq_true] at h
  have h := h j (List.mem_range.2 (by omega))
  rw [List.all_eq_true] at h
  have h := h k (List.mem_range.2 (by omega))
  rw [List.all_eq_true] at h
  have h := h b (List.mem_range.2 hb)
  rw [List.all_eq_true] at h
  have h := h o (List.mem_range.2 ho)
  rw [show (b &&& o != b) = false by simpa using hbo, Bool.false_or, List.all_eq_true] at h
  have h := of_decide_eq_true (h p (List.mem_range.2 hp))
  obtain rfl | rfl | rfl | rfl : j = 0 ∨ j = 1 ∨ j = 2 ∨ j = 3 := by omega
  all_goals exact h
theorem over_table : ((List.range 4).all fun n4 => (List.range (2 ^ (n4 + 1))).all fun b => decide ((List.range (2 ^ (n4 + 1))).filter (fun o => b &&& o == b) = (subsL (andNot (fullN (n4 + 1)) b)).map (b ||| ·))) = true := by decide +kernel
theorem over_eq {n b : Nat} (h1 : 1 ≤ n) (h4 : n ≤ 4) (hb : b < 2 ^ n) : (List.range (2 ^ n)).filter (fun o => b &&& o == b) = (subsL (andNot (fullN n) b)).map (b ||| ·) := by
  have h := over_table
  obtain ⟨k, rfl⟩ : ∃ k, n = k + 1 := ⟨n - 1, by omega⟩
  rw [List.all_eq_true] at h
  have h := h k (List.mem_range.2 (by omega))
  rw [List.all_eq_true] at h
  exact of_decide_eq_true (h b (List.mem_range.2 hb))
theorem flat_filter {α β : Type} (c : α → Bool) (F : α → List β) : ∀ l : List α, (l.filter c).flatMap F = l.flatMap fun a => if c a = true then F a else []
  | [] => rfl
  | a :: l => by
    rw [List.flatMap_cons, ← flat_filter c F l]
    by_cases h : c a = true
    · rw [List.filter_cons_of_pos h, List.flatMap_cons, if_pos h]
    · rw [List.filter_cons_of_neg h, if_neg h, List.nil_append]
theorem flat_congr {α β : Type} {F G : α → List β} : ∀ {l : List α}, (∀ a ∈ l, F a = G a) → l.flatMap F = l.flatMap G
  | [], _ => rfl
  | a :: l, h => by rw [List.flatMap_cons, List.flatMap_cons, h a (by simp), flat_congr fun b hb => h b (by simp [hb])]
/-- Both have the same graphs, in the same order. -/
theorem graphs_eq {op n f b o : Nat} (hop : 1 ≤ op ∧ op ≤ 4) (h1 : 1 ≤ n) (h4 : n ≤ 4) (hb : b < 2 ^ n) (ho : o < 2 ^ n) (hbo : b &&& o = b) : graphsM (mdlOf ⟨op, n, f⟩) b o = graphsB ⟨op, n, f⟩ b o := by
  have hn : (mdlOf ⟨op, n, f⟩).n = n := by
    obtain rfl | rfl | rfl | rfl : op = 1 ∨ op = 2 ∨ op = 3 ∨ op = 4 := by omega
    all_goals rfl
  unfold graphsM graphsB
  rw [hn]
  show _ = (rowsG n fun _ p s => rowB ⟨op, n, f⟩ b o p s).filter _
  rw [grow_step n (fun p => (mdlOf ⟨op, n, f⟩).rows p b o) (rowB ⟨op, n, f⟩ b o) fun p hp => rows_eq hop h1 h4 hb ho hbo hp]
  have e := each_rows (fun p => (mdlOf ⟨op, n, f⟩).rows p b o) (fun g => (mdlOf ⟨op, n, f⟩).fits g b o) n 0 [gzn n]
  rw [List.flatMap_cons, List.flatMap_nil, List.append_nil] at e
  rw [← e]
  refine List.filter_congr fun g hg => ?_
  obtain ⟨-, h2⟩ := mem_step _ n 0 [gzn n] (by omega) g hg
  refine fits_eq hop h1 (by omega) hb ho fun p hp => ?_
  obtain ⟨s, hs, e⟩ := h2 p (by omega) (by omega)
  rw [rows_eq hop h1 h4 hb ho hbo hp] at hs
  obtain ⟨hs1, hs2⟩ := List.mem_filter.1 hs
  unfold rowB at hs2
  rw [Bool.and_eq_true] at hs2
  exact ⟨s, e, List.mem_range.1 hs1, hs2.1⟩
/-- Both have the same steps, in the same order. -/
theorem steps_eq {op n f b : Nat} (hop : 1 ≤ op ∧ op ≤ 4) (h1 : 1 ≤ n) (h4 : n ≤ 4) (hb : b < 2 ^ n) : stepsM (mdlOf ⟨op, n, f⟩) b = faultsB ⟨op, n, f⟩ b := by
  have hn : (mdlOf ⟨op, n, f⟩).n = n ∧ (mdlOf ⟨op, n, f⟩).f = f := by
    obtain rfl | rfl | rfl | rfl : op = 1 ∨ op = 2 ∨ op = 3 ∨ op = 4 := by omega
    all_goals exact ⟨rfl, rfl⟩
  unfold stepsM faultsB
  rw [hn.1, hn.2]
  have e : ((List.range (2 ^ n)).flatMap fun o => if (b &&& o == b && decide (sizeN o ≤ f)) = true then (graphsB ⟨op, n, f⟩ b o).map fun g => ((⟨g, (o : Nat)⟩ : Rd), o) else []) =
      ((List.range (2 ^ n)).filter fun o => b &&& o == b).flatMap fun o => if f < sizeN o then [] else (graphsB ⟨op, n, f⟩ b o).map fun g => ((⟨g, (o : Nat)⟩ : Rd), o) := by
    rw [flat_filter]
    refine flat_congr fun o _ => ?_
    by_cases h1 : (b &&& o == b) = true
    · rw [if_pos h1]
      by_cases h2 : f < sizeN o
      · rw [if_pos h2, if_neg]; simp; omega
      · rw [if_neg h2, if_pos]; simp only [h1, Bool.true_and, decide_eq_true_eq]; omega
    · rw [if_neg h1, if_neg]; simp only [Bool.and_eq_true]; exact fun h => h1 h.1
  show _ = ((List.range (2 ^ n)).flatMap fun o => if (b &&& o == b && decide (sizeN o ≤ f)) = true then (graphsB ⟨op, n, f⟩ b o).map fun g => ((⟨g, (o : Nat)⟩ : Rd), o) else [])
  rw [e, over_eq h1 h4 hb, List.flatMap_map]
  refine flat_congr fun more hm => ?_
  have hmem : (b ||| more) ∈ (List.range (2 ^ n)).filter fun o => b &&& o == b := by
    rw [over_eq h1 h4 hb]; exact List.mem_map_of_mem hm
  obtain ⟨ho, hbo⟩ := List.mem_filter.1 hmem
  rw [graphs_eq hop h1 h4 hb (List.mem_range.1 ho) (by simpa using hbo)]
theorem edges_eq {op n f b : Nat} (hop : 1 ≤ op ∧ op ≤ 4) (h1 : 1 ≤ n) (h4 : n ≤ 4) (hb : b < 2 ^ n) : sortR (stepsM (mdlOf ⟨op, n, f⟩) b) = edgesB ⟨op, n, f⟩ b := by
  unfold edgesB
  rw [if_neg (show op ≠ 5 by omega), steps_eq hop h1 h4 hb]
end Go.Proofs.Ytnhgdjiljjpgmaa
