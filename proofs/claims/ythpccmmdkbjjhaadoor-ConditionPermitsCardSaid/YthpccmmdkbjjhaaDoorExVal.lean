/-
  The value of an expression in a scene, and its bounds.
  Conditions: none.
-/
import Derived.Test.YthpccmmdkbjjhaaDoorExNode
namespace Go.Proofs.YthpccmmdkbjjhaaDoor

/-- A scene without variables. -/
structure Sc where
  n : Nat
  inp : List Int
  out : List Int
  h : Gr
def flag (b : Bool) : Int := if b = true then 1 else 0
def atS (l : List Int) (p n : Int) : Int := if p < 0 ∨ n ≤ p ∨ (l.length : Int) ≤ p then -1 else l.getD p.toNat 0
def procS (n : Nat) (a : Int) : Bool := decide (0 ≤ a) && decide (a < n)
def bitS (s : Sc) (a b : Int) : Bool := procS s.n a && procS s.n b && has (s.h.h a.toNat) b.toNat
def twoS (s : Sc) (op a b : Int) : Int :=
  if op = 4 then flag (bitS s a b) else if op = 5 then a + b else if op = 6 then a - b else if op = 7 then flag (a == b) else if op = 8 then flag (decide (a < b))
  else if op = 9 then flag (decide (a ≤ b)) else if op = 10 then a * b else flag (decide (0 < a + b))
def oneS (s : Sc) (op a : Int) : Int := if op = 2 then atS s.inp a s.n else if op = 3 then atS s.out a s.n else 1 - a
def quantS (n : Nat) (op k : Int) : Int := if op = 13 then flag (k == (n : Int)) else if op = 14 then flag (decide (0 < k)) else k
def cntTo (f : Nat → Int) : Nat → Int
  | 0 => 0
  | p + 1 => cntTo f p + f p
def valE (s : Sc) : Ex → List Int → Int
  | .mk op num [], vars => if op = 0 then num else if op = 1 then vars.getD num.toNat 0 else 0
  | .mk op num [a], vars => if op = 0 then num else if op = 1 then vars.getD num.toNat 0 else
      if isQ op = true then quantS s.n op (cntTo (fun p => valE s a (vars ++ [(p : Int)])) s.n) else oneS s op (valE s a vars)
  | .mk op _ (a :: b :: _), vars => twoS s op (valE s a vars) (valE s b vars)

theorem nodesEL_mem : ∀ {xs : List Ex} {v : Int}, nodesEL xs v = 0 → ∀ x ∈ xs, nodesE x v = 0
  | [], _, _, x, hx => by cases hx
  | y :: xs, v, h, x, hx => by
    simp only [nodesEL] at h
    by_cases h1 : nodesE y v = 0
    · rw [if_neg (fun h2 => h2 h1)] at h
      rcases List.mem_cons.1 hx with rfl | hx
      · exact h1
      · exact nodesEL_mem h x hx
    · rw [if_pos h1] at h; exact absurd h h1
theorem nodesE_zero {op num : Int} {xs : List Ex} {v : Int} (h : nodesE (.mk op num xs) v = 0) :
    0 ≤ op ∧ op ≤ 15 ∧ (xs.length : Int) = arity op ∧ (op = 1 → 0 ≤ num ∧ num < v) ∧ (op = 0 → -1048576 ≤ num ∧ num ≤ 1048576) ∧ (∀ x ∈ xs, nodesE x (innerV op v) = 0 ∧ kindOf x.op = argKind op) := by
  have hm : nodesE (.mk op num xs) v = if nodeErr (.mk op num xs) v ≠ 0 then nodeErr (.mk op num xs) v else nodesEL xs (innerV op v) := rfl
  rw [hm] at h
  by_cases h1 : nodeErr (.mk op num xs) v ≠ 0
  · rw [if_pos h1] at h; exact absurd h h1
  rw [if_neg h1] at h
  have hn : nodeErr (.mk op num xs) v = 0 := by simpa using h1
  rw [nodeErr_mk] at hn
  by_cases a1 : arity op < 0
  · rw [if_pos a1] at hn; omega
  rw [if_neg a1] at hn
  by_cases a2 : (xs.length : Int) ≠ arity op
  · rw [if_pos a2] at hn; omega
  rw [if_neg a2] at hn
  by_cases a3 : op = 1 ∧ (num < 0 ∨ v ≤ num)
  · rw [if_pos a3] at hn; omega
  rw [if_neg a3] at hn
  by_cases a4 : op = 0 ∧ (num < -1048576 ∨ 1048576 < num)
  · rw [if_pos a4] at hn; omega
  rw [if_neg a4] at hn
  by_cases a5 : 1 < op ∧ num ≠ 0
  · rw [if_pos a5] at hn; omega
  rw [if_neg a5] at hn
  by_cases a6 : xs.any (badArg op) = true
  · rw [if_pos a6] at hn; omega
  have hkn := knownB_arity op
  rw [decide_eq_true (by omega)] at hkn
  have hop : 0 ≤ op ∧ op < 16 := by simpa only [knownB, Bool.and_eq_true, decide_eq_true_eq] using hkn
  refine ⟨hop.1, by omega, by omega, by omega, by omega, fun x hx => ⟨nodesEL_mem h x hx, ?_⟩⟩
  have hb : badArg op x = false := by
    cases hb : badArg op x
    · rfl
    · exact absurd (List.any_eq_true.2 ⟨x, hx, hb⟩) a6
  have hz := nodesEL_mem h x hx
  have ha : 0 ≤ arity x.op := by
    obtain ⟨o, n, ys⟩ := x
    show 0 ≤ arity o
    rcases Int.lt_or_le (arity o) 0 with h7 | h7
    · have hm2 : nodesE (.mk o n ys) (innerV op v) = if nodeErr (.mk o n ys) (innerV op v) ≠ 0 then nodeErr (.mk o n ys) (innerV op v) else nodesEL ys (innerV o (innerV op v)) := rfl
      have hn2 : nodeErr (.mk o n ys) (innerV op v) = 1 := by rw [nodeErr_mk, if_pos h7]
      rw [hm2, hn2, if_pos (by decide)] at hz
      omega
    · exact h7
  unfold badArg at hb
  rw [decide_eq_true ha, Bool.true_and, decide_eq_false_iff_not] at hb
  exact Decidable.byContradiction hb
theorem flag_bd (b : Bool) : 0 ≤ flag b ∧ flag b ≤ 1 := by cases b <;> simp [flag]
theorem arity_one {op : Int} (h0 : 0 ≤ op) (h1 : op ≤ 15) (h : arity op = 1) : op = 2 ∨ op = 3 ∨ op = 12 ∨ op = 13 ∨ op = 14 ∨ op = 15 := by
  unfold arity at h
  rw [if_neg (by omega)] at h
  by_cases h2 : op = 0 ∨ op = 1
  · rw [if_pos h2] at h; omega
  rw [if_neg h2] at h
  by_cases h3 : op = 2 ∨ op = 3 ∨ op = 12 ∨ 13 ≤ op
  · omega
  · rw [if_neg h3] at h; omega
theorem arity_two {op : Int} (h0 : 0 ≤ op) (h1 : op ≤ 15) (h : arity op = 2) : 4 ≤ op ∧ op ≤ 11 := by
  unfold arity at h
  rw [if_neg (by omega)] at h
  by_cases h2 : op = 0 ∨ op = 1
  · rw [if_pos h2] at h; omega
  rw [if_neg h2] at h
  by_cases h3 : op = 2 ∨ op = 3 ∨ op = 12 ∨ 13 ≤ op
  · rw [if_pos h3] at h; omega
  · omega
theorem arity_zero {op : Int} (h0 : 0 ≤ op) (h1 : op ≤ 15) (h : arity op = 0) : op = 0 ∨ op = 1 := by
  unfold arity at h
  rw [if_neg (by omega)] at h
  by_cases h2 : op = 0 ∨ op = 1
  · exact h2
  rw [if_neg h2] at h
  split at h <;> omega
theorem arity_cases {op : Int} (h0 : 0 ≤ op) (h1 : op ≤ 15) : arity op = 0 ∨ arity op = 1 ∨ arity op = 2 := by
  unfold arity
  rw [if_neg (by omega)]
  split
  · exact .inl rfl
  · split
    · exact .inr (.inl rfl)
    · exact .inr (.inr rfl)
def Sc.ok (s : Sc) : Prop := 1 ≤ s.n ∧ s.n ≤ 5 ∧ (∀ x ∈ s.inp, -1048576 ≤ x ∧ x ≤ 1048576) ∧ (∀ x ∈ s.out, -1048576 ≤ x ∧ x ≤ 1048576) ∧ (∀ k, k < 5 → 0 ≤ s.h.h k ∧ s.h.h k ≤ 1048576)
theorem atS_bd {l : List Int} (h : ∀ x ∈ l, -1048576 ≤ x ∧ x ≤ 1048576) (p n : Int) : -1048576 ≤ atS l p n ∧ atS l p n ≤ 1048576 := by
  unfold atS
  split
  · omega
  · rename_i h1
    have hlt : p.toNat < l.length := by omega
    rw [List.getD_eq_getElem?_getD, List.getElem?_eq_getElem hlt]
    exact h _ (List.getElem_mem hlt)
theorem cntTo_bd {f : Nat → Int} {n : Nat} (h : ∀ p, p < n → 0 ≤ f p ∧ f p ≤ 1) : 0 ≤ cntTo f n ∧ cntTo f n ≤ n := by
  induction n with
  | zero => simp [cntTo]
  | succ n ih =>
    have h1 := ih fun p hp => h p (by omega)
    have h2 := h n (by omega)
    simp only [cntTo]
    omega
theorem mul01 {a b : Int} (ha : 0 ≤ a ∧ a ≤ 1) (hb : 0 ≤ b ∧ b ≤ 1) : 0 ≤ a * b ∧ a * b ≤ 1 := by
  rcases (show a = 0 ∨ a = 1 by omega) with rfl | rfl
  · simp
  · simpa using hb
/-- The value of a well-formed expression: small; a truth value, if it is a condition. -/
theorem val_bd (s : Sc) (hs : s.ok) : ∀ (e : Ex) (vars : List Int), (∀ x ∈ vars, 0 ≤ x ∧ x ≤ 1048576) → nodesE e vars.length = 0 →
    (-(e.nodes * 1048576 : Int) ≤ valE s e vars ∧ valE s e vars ≤ e.nodes * 1048576) ∧ (kindOf e.op = 1 → 0 ≤ valE s e vars ∧ valE s e vars ≤ 1) := by
  refine Ex.ind (P := fun e => ∀ (vars : List Int), (∀ x ∈ vars, 0 ≤ x ∧ x ≤ 1048576) → nodesE e vars.length = 0 →
    (-(e.nodes * 1048576 : Int) ≤ valE s e vars ∧ valE s e vars ≤ e.nodes * 1048576) ∧ (kindOf e.op = 1 → 0 ≤ valE s e vars ∧ valE s e vars ≤ 1)) ?_
  intro op num xs ih vars hv h
  obtain ⟨h0, h1, hl, hvar, hcon, hx⟩ := nodesE_zero h
  obtain ⟨s1, s2, s3, s4, s5⟩ := hs
  show _ ∧ (kindOf op = 1 → _)
  rcases arity_cases h0 h1 with ha | ha | ha
  · have hop := arity_zero h0 h1 ha
    obtain rfl : xs = [] := List.eq_nil_of_length_eq_zero (by omega)
    simp only [valE, Ex.nodes, Ex.nodesL]
    rcases hop with rfl | rfl
    · rw [if_pos rfl]
      have := hcon rfl
      exact ⟨by omega, fun hk => by simp [kindOf] at hk⟩
    · rw [if_neg (by decide), if_pos rfl]
      have hb := hvar rfl
      have hlt : num.toNat < vars.length := by omega
      rw [List.getD_eq_getElem?_getD, List.getElem?_eq_getElem hlt]
      have := hv _ (List.getElem_mem hlt)
      exact ⟨by simp only [Option.getD_some]; omega, fun hk => by simp [kindOf] at hk⟩
  · obtain ⟨a, rfl⟩ : ∃ a, xs = [a] := List.length_eq_one_iff.1 (by omega)
    obtain ⟨hz, hka⟩ := hx a (by simp)
    have hop := arity_one h0 h1 ha
    simp only [valE, Ex.nodes, Ex.nodesL]
    rw [if_neg (by omega), if_neg (by omega)]
    by_cases hq : isQ op = true
    · rw [if_pos hq]
      have hq' : op = 13 ∨ op = 14 ∨ op = 15 := by simp only [isQ, Bool.or_eq_true, beq_iff_eq] at hq; omega
      have hi : innerV op (vars.length : Int) = ((vars.length + 1 : Nat) : Int) := by unfold innerV; rw [if_pos hq]; omega
      rw [hi] at hz
      have hc := cntTo_bd (f := fun p => valE s a (vars ++ [(p : Int)])) (n := s.n) (fun p hp => by
        have := ih a (by simp) (vars ++ [(p : Int)]) (fun x hx => by
          rcases List.mem_append.1 hx with h2 | h2
          · exact hv x h2
          · simp only [List.mem_singleton] at h2; omega) (by rw [List.length_append]; exact hz)
        exact this.2 (by rw [hka]; unfold argKind; rw [if_pos (by omega)]))
      unfold quantS
      rcases hq' with rfl | rfl | rfl
      · rw [if_pos rfl]
        have := flag_bd (cntTo (fun p => valE s a (vars ++ [(p : Int)])) s.n == (s.n : Int))
        exact ⟨by omega, fun _ => this⟩
      · rw [if_neg (by decide), if_pos rfl]
        have := flag_bd (decide (0 < cntTo (fun p => valE s a (vars ++ [(p : Int)])) s.n))
        exact ⟨by omega, fun _ => this⟩
      · rw [if_neg (by decide), if_neg (by decide)]
        exact ⟨by omega, fun hk => by simp [kindOf] at hk⟩
    · rw [if_neg hq]
      have hi : innerV op (vars.length : Int) = vars.length := by unfold innerV; rw [if_neg hq]
      rw [hi] at hz
      have hv1 := ih a (by simp) vars hv hz
      unfold oneS
      rcases hop with rfl | rfl | rfl | rfl | rfl | rfl
      · rw [if_pos rfl]
        have := atS_bd s3 (valE s a vars) s.n
        exact ⟨by omega, fun hk => by simp [kindOf] at hk⟩
      · rw [if_neg (by decide), if_pos rfl]
        have := atS_bd s4 (valE s a vars) s.n
        exact ⟨by omega, fun hk => by simp [kindOf] at hk⟩
      · rw [if_neg (by decide), if_neg (by decide)]
        have := hv1.2 (by rw [hka]; rfl)
        exact ⟨by omega, fun _ => by omega⟩
      all_goals exact absurd rfl hq
  · obtain ⟨a, b, rfl⟩ : ∃ a b, xs = [a, b] := by
      match xs, hl with
      | [], hl => rw [ha] at hl; simp at hl
      | [_], hl => rw [ha] at hl; simp at hl
      | [a, b], _ => exact ⟨a, b, rfl⟩
      | _ :: _ :: _ :: _, hl => rw [ha] at hl; simp at hl; omega
    obtain ⟨hz, hka⟩ := hx a (by simp)
    obtain ⟨hz2, hkb⟩ := hx b (by simp)
    have hop := arity_two h0 h1 ha
    have hq : ¬ isQ op = true := by simp only [isQ, Bool.or_eq_true, beq_iff_eq]; omega
    have hi : innerV op (vars.length : Int) = vars.length := by unfold innerV; rw [if_neg hq]
    rw [hi] at hz hz2
    have hv1 := ih a (by simp) vars hv hz
    have hv2 := ih b (by simp) vars hv hz2
    simp only [valE, Ex.nodes, Ex.nodesL]
    have hp1 := a.nodes_pos
    have hp2 := b.nodes_pos
    generalize valE s a vars = x at *
    generalize valE s b vars = y at *
    unfold twoS
    rcases (show op = 4 ∨ op = 5 ∨ op = 6 ∨ op = 7 ∨ op = 8 ∨ op = 9 ∨ op = 10 ∨ op = 11 by omega) with rfl | rfl | rfl | rfl | rfl | rfl | rfl | rfl
    · rw [if_pos rfl]; have := flag_bd (bitS s x y); exact ⟨by omega, fun _ => this⟩
    · rw [if_neg (by decide), if_pos rfl]; exact ⟨by omega, fun hk => by simp [kindOf] at hk⟩
    · rw [if_neg (by decide), if_neg (by decide), if_pos rfl]; exact ⟨by omega, fun hk => by simp [kindOf] at hk⟩
    · rw [if_neg (by decide), if_neg (by decide), if_neg (by decide), if_pos rfl]; have := flag_bd (x == y); exact ⟨by omega, fun _ => this⟩
    · rw [if_neg (by decide), if_neg (by decide), if_neg (by decide), if_neg (by decide), if_pos rfl]; have := flag_bd (decide (x < y)); exact ⟨by omega, fun _ => this⟩
    · rw [if_neg (by decide), if_neg (by decide), if_neg (by decide), if_neg (by decide), if_neg (by decide), if_pos rfl]; have := flag_bd (decide (x ≤ y)); exact ⟨by omega, fun _ => this⟩
    · rw [if_neg (by decide), if_neg (by decide), if_neg (by decide), if_neg (by decide), if_neg (by decide), if_neg (by decide), if_pos rfl]
      have := mul01 (hv1.2 (by rw [hka]; rfl)) (hv2.2 (by rw [hkb]; rfl))
      exact ⟨by omega, fun _ => this⟩
    · rw [if_neg (by decide), if_neg (by decide), if_neg (by decide), if_neg (by decide), if_neg (by decide), if_neg (by decide), if_neg (by decide)]; have := flag_bd (decide (0 < x + y)); exact ⟨by omega, fun _ => this⟩
end Go.Proofs.YthpccmmdkbjjhaaDoor
