/-
  The operations of expressions: arity, kinds (roundtableref07.Arity, KindOf, ArgKind; expr.known, quantifies, small); what they are in the program's table (expr.rows).
  Conditions: as each theorem states.
-/
import Derived.Test.YthkididgbaamcaaGreatDoorFound
import Derived.Test.YthkididgbaamcaaGreatDoorRep
namespace Go.Proofs.YthkididgbaamcaaGreatDoor

inductive Ex where
  | mk (op num : Int) (args : List Ex)
instance : Inhabited Ex := ⟨.mk 0 0 []⟩
def Ex.op : Ex → Int | .mk o _ _ => o
def Ex.num : Ex → Int | .mk _ n _ => n
def Ex.args : Ex → List Ex | .mk _ _ xs => xs
mutual
theorem Ex.ind {P : Ex → Prop} (h : ∀ op num args, (∀ e ∈ args, P e) → P (.mk op num args)) : ∀ e, P e
  | .mk o n xs => h o n xs (Ex.indL h xs)
theorem Ex.indL {P : Ex → Prop} (h : ∀ op num args, (∀ e ∈ args, P e) → P (.mk op num args)) : ∀ (xs : List Ex), ∀ e ∈ xs, P e
  | [], _, he => nomatch he
  | a :: xs, e, he => (List.mem_cons.1 he).elim (fun h1 => h1 ▸ Ex.ind h a) (fun h1 => Ex.indL h xs e h1)
end

mutual
/-- How many nodes, and how deep. -/
def Ex.nodes : Ex → Nat
  | .mk _ _ xs => 1 + Ex.nodesL xs
def Ex.nodesL : List Ex → Nat
  | [] => 0
  | e :: es => e.nodes + Ex.nodesL es
end
mutual
def Ex.depth : Ex → Nat
  | .mk _ _ xs => Ex.depthL xs + 1
def Ex.depthL : List Ex → Nat
  | [] => 0
  | e :: es => max e.depth (Ex.depthL es)
end
theorem Ex.nodes_pos (e : Ex) : 1 ≤ e.nodes := by cases e; simp only [Ex.nodes]; omega
theorem Ex.nodes_mem {e : Ex} : ∀ {xs : List Ex}, e ∈ xs → e.nodes ≤ Ex.nodesL xs
  | [], h => nomatch h
  | a :: xs, h => by
    simp only [Ex.nodesL]
    rcases List.mem_cons.1 h with rfl | h
    · omega
    · have := Ex.nodes_mem h; omega
theorem Ex.len_nodes : ∀ (xs : List Ex), xs.length ≤ Ex.nodesL xs
  | [] => Nat.le_refl _
  | a :: xs => by
    have := Ex.len_nodes xs
    have := a.nodes_pos
    simp only [Ex.nodesL, List.length_cons]; omega
theorem Ex.nodesL_append : ∀ (xs bs : List Ex), Ex.nodesL (xs ++ bs) = Ex.nodesL xs + Ex.nodesL bs
  | [], bs => by simp [Ex.nodesL]
  | a :: xs, bs => by simp only [List.cons_append, Ex.nodesL, Ex.nodesL_append xs bs]; omega
theorem Ex.depthL_append : ∀ (xs bs : List Ex), Ex.depthL (xs ++ bs) = max (Ex.depthL xs) (Ex.depthL bs)
  | [], bs => by simp [Ex.depthL]
  | a :: xs, bs => by simp only [List.cons_append, Ex.depthL, Ex.depthL_append xs bs]; omega
theorem Ex.nodesL_take (xs : List Ex) {i : Nat} (h : i < xs.length) : Ex.nodesL (xs.take (i + 1)) = Ex.nodesL (xs.take i) + xs[i].nodes := by
  rw [List.take_succ_eq_append_getElem h, Ex.nodesL_append]; simp [Ex.nodesL]
theorem Ex.depthL_take (xs : List Ex) {i : Nat} (h : i < xs.length) : Ex.depthL (xs.take (i + 1)) = max (Ex.depthL (xs.take i)) xs[i].depth := by
  rw [List.take_succ_eq_append_getElem h, Ex.depthL_append]; simp [Ex.depthL]
theorem Ex.nodesL_take_le (xs : List Ex) (i : Nat) : Ex.nodesL (xs.take i) ≤ Ex.nodesL xs := by
  have := Ex.nodesL_append (xs.take i) (xs.drop i)
  rw [List.take_append_drop] at this; omega
theorem Ex.depth_le : ∀ e : Ex, e.depth ≤ e.nodes :=
  Ex.ind fun op num args ih => by
    simp only [Ex.nodes, Ex.depth]
    have key : ∀ xs : List Ex, (∀ e ∈ xs, e.depth ≤ e.nodes) → Ex.depthL xs ≤ Ex.nodesL xs := by
      intro xs
      induction xs with
      | nil => intro _; simp [Ex.depthL]
      | cons a xs ih2 =>
        intro h
        have h1 := h a (by simp)
        have h2 := ih2 fun e he => h e (by simp [he])
        simp only [Ex.depthL, Ex.nodesL]; omega
    have := key args ih
    omega

mutual
/-- roundtableref07.Count. -/
def cntE : Ex → Int → Int
  | .mk _ _ xs, lim => cntL xs 1 lim
def cntL : List Ex → Int → Int → Int
  | [], n, _ => n
  | e :: es, n, lim => if n < lim then cntL es (n + cntE e (lim - n)) lim else n
end
theorem cntL_bd : ∀ {xs : List Ex} {n lim : Int}, (∀ e ∈ xs, ∀ l, 1 ≤ l → 1 ≤ cntE e l ∧ cntE e l ≤ l) → 1 ≤ n → n ≤ max lim 1 → n ≤ cntL xs n lim ∧ cntL xs n lim ≤ max lim 1
  | [], n, lim, _, h1, h2 => by simp only [cntL]; omega
  | e :: es, n, lim, he, h1, h2 => by
    simp only [cntL]
    by_cases h : n < lim
    · rw [if_pos h]
      have h3 := he e (by simp) (lim - n) (by omega)
      have h4 := cntL_bd (xs := es) (n := n + cntE e (lim - n)) (lim := lim) (fun e' he' => he e' (by simp [he'])) (by omega) (by omega)
      omega
    · rw [if_neg h]; omega
theorem cntE_bd : ∀ (e : Ex) (l : Int), 1 ≤ l → 1 ≤ cntE e l ∧ cntE e l ≤ l :=
  Ex.ind fun op num args ih l hl => by
    simp only [cntE]
    have := cntL_bd (xs := args) (n := 1) (lim := l) ih (by omega) (by omega)
    omega
theorem cntL_nodes : ∀ {xs : List Ex} {n lim : Int}, (∀ e ∈ xs, ∀ l, 1 ≤ l → cntE e l < l → cntE e l = e.nodes) → 1 ≤ n → cntL xs n lim < lim → cntL xs n lim = n + Ex.nodesL xs
  | [], n, lim, _, _, _ => by simp [cntL, Ex.nodesL]
  | e :: es, n, lim, he, h1, h2 => by
    simp only [cntL] at h2 ⊢
    by_cases h : n < lim
    · rw [if_pos h] at h2 ⊢
      have hb := cntE_bd e (lim - n) (by omega)
      have h3 := cntL_bd (xs := es) (n := n + cntE e (lim - n)) (lim := lim) (fun e' _ => cntE_bd e') (by omega) (by omega)
      have h4 := he e (by simp) (lim - n) (by omega) (by omega)
      have h5 := cntL_nodes (xs := es) (n := n + cntE e (lim - n)) (lim := lim) (fun e' he' => he e' (by simp [he'])) (by omega) h2
      rw [h5]
      simp only [Ex.nodesL]; omega
    · rw [if_neg h] at h2; omega
theorem cntE_nodes : ∀ (e : Ex) (l : Int), 1 ≤ l → cntE e l < l → cntE e l = e.nodes :=
  Ex.ind fun op num args ih l hl h => by
    simp only [cntE] at h ⊢
    have := cntL_nodes (xs := args) (n := 1) (lim := l) ih (by omega) h
    rw [this]; simp only [Ex.nodes]; omega
theorem cntL_stop {xs : List Ex} {n lim : Int} (h : ¬ n < lim) : cntL xs n lim = n := by
  cases xs with
  | nil => rfl
  | cons e es => simp only [cntL]; rw [if_neg h]
/-- roundtableref07.Quantors. -/
def isQ (op : Int) : Bool := op == 13 || op == 14 || op == 15
mutual
def quE : Ex → Nat
  | .mk op _ xs => quL xs + (if isQ op = true then 1 else 0)
def quL : List Ex → Nat
  | [] => 0
  | e :: es => max (quE e) (quL es)
end
theorem quL_append : ∀ (xs bs : List Ex), quL (xs ++ bs) = max (quL xs) (quL bs)
  | [], bs => by simp [quL]
  | a :: xs, bs => by simp only [List.cons_append, quL, quL_append xs bs]; omega
theorem quL_take (xs : List Ex) {i : Nat} (h : i < xs.length) : quL (xs.take (i + 1)) = max (quL (xs.take i)) (quE xs[i]) := by
  rw [List.take_succ_eq_append_getElem h, quL_append]; simp [quL]
theorem quE_le : ∀ e : Ex, quE e ≤ e.depth :=
  Ex.ind fun op num args ih => by
    simp only [quE, Ex.depth]
    have key : ∀ xs : List Ex, (∀ e ∈ xs, quE e ≤ e.depth) → quL xs ≤ Ex.depthL xs := by
      intro xs
      induction xs with
      | nil => intro _; simp [quL]
      | cons a xs ih2 =>
        intro h
        have h1 := h a (by simp)
        have h2 := ih2 fun e he => h e (by simp [he])
        simp only [quL, Ex.depthL]; omega
    have := key args ih
    split <;> omega
def efew (e : Ex) : Bool := decide (cntE e 140 < 140) && decide (quE e ≤ 4)
theorem efew_nodes {e : Ex} (h : efew e = true) : e.nodes < 140 := by
  simp only [efew, Bool.and_eq_true, decide_eq_true_eq] at h
  have := cntE_nodes e 140 (by omega) h.1
  omega

/-- Arity, kinds. -/
def arity (op : Int) : Int := if op < 0 ∨ 15 < op then -1 else if op = 0 ∨ op = 1 then 0 else if op = 2 ∨ op = 3 ∨ op = 12 ∨ 13 ≤ op then 1 else 2
def kindOf (op : Int) : Int := if op = 0 ∨ op = 1 ∨ op = 2 ∨ op = 3 ∨ op = 5 ∨ op = 6 ∨ op = 15 then 0 else 1
def argKind (op : Int) : Int := if 10 ≤ op then 1 else 0
def innerV (op vars : Int) : Int := if isQ op = true then vars + 1 else vars
def badArg (op : Int) (a : Ex) : Bool := decide (0 ≤ arity a.op) && decide (kindOf a.op ≠ argKind op)
def nodeErr (e : Ex) (vars : Int) : Int :=
  if arity e.op < 0 then 1 else if (e.args.length : Int) ≠ arity e.op then 15
  else if e.op = 1 ∧ (e.num < 0 ∨ vars ≤ e.num) then 10 else if e.op = 0 ∧ (e.num < -1048576 ∨ 1048576 < e.num) then 2
  else if 1 < e.op ∧ e.num ≠ 0 then 3 else if e.args.any (badArg e.op) then 9 else 0
mutual
def nodesE : Ex → Int → Int
  | .mk op num xs, vars => if nodeErr (.mk op num xs) vars ≠ 0 then nodeErr (.mk op num xs) vars else nodesEL xs (innerV op vars)
def nodesEL : List Ex → Int → Int
  | [], _ => 0
  | e :: es, vars => if nodesE e vars ≠ 0 then nodesE e vars else nodesEL es vars
end
def exchk (e : Ex) (vars : Int) : Int := if vars < 0 ∨ 24 < vars then 2 else if 128 < e.nodes then 5 else if 24 < e.depth then 12 else nodesE e vars
/-- What it uses. -/
def useOf (op : Int) : Nat := if op = 2 then 1 else if op = 3 then 2 else if op = 4 then 4 else 0
mutual
def usesE : Ex → Nat
  | .mk op _ xs => usesL xs ||| useOf op
def usesL : List Ex → Nat
  | [] => 0
  | e :: es => usesE e ||| usesL es
end
theorem usesL_append : ∀ (xs bs : List Ex), usesL (xs ++ bs) = usesL xs ||| usesL bs
  | [], bs => by simp [usesL]
  | a :: xs, bs => by simp only [List.cons_append, usesL, usesL_append xs bs, Nat.or_assoc]
theorem usesL_take (xs : List Ex) {i : Nat} (h : i < xs.length) : usesL (xs.take (i + 1)) = usesL (xs.take i) ||| usesE xs[i] := by
  rw [List.take_succ_eq_append_getElem h, usesL_append]; simp [usesL]
theorem or_lt8 {a b : Nat} (ha : a < 8) (hb : b < 8) : a ||| b < 8 := Nat.or_lt_two_pow (n := 3) ha hb
theorem usesL_lt {xs : List Ex} (h : ∀ e ∈ xs, usesE e < 8) : usesL xs < 8 := by
  induction xs with
  | nil => simp [usesL]
  | cons a xs ih => simp only [usesL]; exact or_lt8 (h a (by simp)) (ih fun e he => h e (by simp [he]))
theorem usesE_lt : ∀ e : Ex, usesE e < 8 :=
  Ex.ind fun op num args ih => by
    simp only [usesE]
    exact or_lt8 (usesL_lt ih) (by unfold useOf; split <;> (try split) <;> (try split) <;> omega)
def absentE (e : Ex) : Bool := e.op == 0 && e.num == 0 && e.args.length == 0
end Go.Proofs.YthkididgbaamcaaGreatDoor

namespace Go.Proofs.YthkididgbaamcaaGreatDoor

inductive ExAt (w : World) : Value → Ex → Prop
  | mk (op num : Int) (xs : List Ex) (p : Option Addr) (c : Nat) (ss : Nat → Value) (b o : Nat) (hc : xs.length ≤ c) (hl : xs.length ≤ 17592186044416)
    (hp : 0 < xs.length → p = some ⟨b, o, none⟩ ∧ b < w.heap.size)
    (hcell : ∀ i, i < xs.length → w.cell? ⟨b, o + i * 3, none⟩ = some (.int .i64 (xs.getD i default).op) ∧ w.cell? ⟨b, o + i * 3 + 1, none⟩ = some (.int .i64 (xs.getD i default).num) ∧ w.cell? ⟨b, o + i * 3 + 2, none⟩ = some (ss i))
    (hsub : ∀ i, i < xs.length → ExAt w (.agg #[.int .i64 (xs.getD i default).op, .int .i64 (xs.getD i default).num, ss i]) (xs.getD i default)) :
    ExAt w (.agg #[.int .i64 op, .int .i64 num, .slice p xs.length c]) (.mk op num xs)
theorem ExAt.ext {w W : World} {v : Value} {e : Ex} (h : ExAt w v e) (hE : Ext w W) : ExAt W v e := by
  induction h with
  | mk op num xs p c ss b o hc hl hp hcell hsub ih =>
    refine .mk op num xs p c ss b o hc hl (fun h => ⟨(hp h).1, Nat.lt_of_lt_of_le (hp h).2 hE.size⟩) (fun i hi => ?_) ih
    obtain ⟨h1, h2, h3⟩ := hcell i hi
    have hb := (hp (by omega)).2
    exact ⟨(hE.cell hb).trans h1, (hE.cell hb).trans h2, (hE.cell hb).trans h3⟩
theorem ExAt.form {w : World} {v : Value} {e : Ex} (h : ExAt w v e) : ∃ p c, v = .agg #[.int .i64 e.op, .int .i64 e.num, .slice p e.args.length c] ∧ e.args.length ≤ c ∧ e.args.length ≤ 17592186044416 := by
  cases h with
  | mk op num xs p c ss b o hc hl hp hcell hsub => exact ⟨p, c, rfl, hc, hl⟩
/-- The three cells of an expression at an address, in every later world. -/
def ExCell (w : World) (b k : Nat) (e : Ex) (q : Option Addr) (d : Nat) : Prop :=
  (∀ W, Ext w W → W.cell? ⟨b, k, none⟩ = some (.int .i64 e.op)) ∧ (∀ W, Ext w W → W.cell? ⟨b, k + 1, none⟩ = some (.int .i64 e.num)) ∧ (∀ W, Ext w W → W.cell? ⟨b, k + 2, none⟩ = some (.slice q e.args.length d))
theorem ExAt.all_ {w : World} {v : Value} {e : Ex} (h : ExAt w v e) : ∃ p c, v = .agg #[.int .i64 e.op, .int .i64 e.num, .slice p e.args.length c] ∧ e.args.length ≤ c ∧ e.args.length ≤ 17592186044416 ∧
    (0 < e.args.length → ∃ b o, p = some ⟨b, o, none⟩ ∧ b < w.heap.size ∧ ∀ i, i < e.args.length → ∃ q d, ExCell w b (o + i * 3) (e.args.getD i default) q d ∧
      ExAt w (.agg #[.int .i64 (e.args.getD i default).op, .int .i64 (e.args.getD i default).num, .slice q (e.args.getD i default).args.length d]) (e.args.getD i default)) := by
  cases h with
  | mk op num xs p c ss b o hc hl hp hcell hsub =>
    refine ⟨p, c, rfl, hc, hl, fun h0 => ⟨b, o, (hp h0).1, (hp h0).2, fun i hi => ?_⟩⟩
    obtain ⟨h1, h2, h3⟩ := hcell i hi
    have hb := (hp h0).2
    have hs := hsub i hi
    obtain ⟨q, d, hv, -⟩ := hs.form
    have hv2 : ss i = .slice q (xs.getD i default).args.length d := by injection hv with hv; injection hv with hv; injection hv with _ hv; injection hv with _ hv; injection hv with hv _
    rw [hv2] at hs h3
    exact ⟨q, d, ⟨fun W hE => (hE.cell hb).trans h1, fun W hE => (hE.cell hb).trans h2, fun W hE => (hE.cell hb).trans h3⟩, hs⟩
end Go.Proofs.YthkididgbaamcaaGreatDoor

namespace Go.Proofs.YthkididgbaamcaaGreatDoor
open Go.RowKit

/-- The box of an expression, in a later world. -/
theorem xbox (w : World) (o n : Int) (s : Value) {w1 : World} (hE : Ext (w.alloc (.cells #[.int .i64 o, .int .i64 n, s] 25)) w1) :
    w1.cell? ⟨w.heap.size, 0, none⟩ = some (.int .i64 o) ∧ w1.cell? ⟨w.heap.size, 1, none⟩ = some (.int .i64 n) ∧ w1.cell? ⟨w.heap.size, 2, none⟩ = some s ∧ w.heap.size < w1.heap.size := by
  refine ⟨by rw [hE.cell (by simp), cell_new]; rfl, by rw [hE.cell (by simp), cell_new]; rfl, by rw [hE.cell (by simp), cell_new]; rfl, by have := hE.size; simp at this; omega⟩
theorem drop_getD {α : Type} [Inhabited α] {xs : List α} {i : Nat} (h : i < xs.length) : xs.drop i = xs.getD i default :: xs.drop (i + 1) := by
  rw [List.drop_eq_getElem_cons h, List.getD_eq_getElem?_getD, List.getElem?_eq_getElem h]; rfl
theorem mem_getD {α : Type} [Inhabited α] {xs : List α} {i : Nat} (h : i < xs.length) : xs.getD i default ∈ xs := by
  rw [List.getD_eq_getElem?_getD, List.getElem?_eq_getElem h]; exact List.getElem_mem h

set_option maxHeartbeats 1000000 in
theorem rcount_any : ∀ (e : Ex) (lim : Int) (v : Value) (w : World), ExAt w v e → 1 ≤ lim → lim ≤ 1000000 →
    Calls Tryz.prog 17 #[v, .int .i64 lim] w fun e' w' => e' = .returned (.int .i64 (cntE e lim)) ∧ Ext w w' := by
  refine Ex.ind (P := fun e => ∀ (lim : Int) (v : Value) (w : World), ExAt w v e → 1 ≤ lim → lim ≤ 1000000 →
    Calls Tryz.prog 17 #[v, .int .i64 lim] w fun e' w' => e' = .returned (.int .i64 (cntE e lim)) ∧ Ext w w') ?_
  intro op num xs ih lim v w hv h1 h2
  have HI := hide ih
  obtain ⟨p, c, rfl, hc, hl, hat⟩ := hv.all_
  simp only [Ex.op, Ex.num, Ex.args] at hc hl hat ⊢
  have HAT := hide hat
  clear ih hv hat
  simp only [cntE]
  generalize hres : cntL xs 1 lim = res
  have HR := hide hres
  clear hres
  have hE0 : Ext w (w.alloc (.cells #[.int .i64 op, .int .i64 num, .slice p xs.length c] 25)) := (Ext.refl w).alloc _
  have HB := hide (fun w1 => xbox w op num (.slice p xs.length c) (w1 := w1))
  go_enter Tryz.func17, Tryz.ntmps17
  go_wp2_with fail
  obtain ⟨w1, hw1⟩ : ∃ w1, w.alloc (.cells #[.int .i64 op, .int .i64 num, .slice p xs.length c] 25) = w1 := ⟨_, rfl⟩
  rw [hw1] at hE0 HB
  rw [hw1]
  clear hw1
  go_loopw [5, 6] (fun n x V => ∃ (i : Nat) (k : Int), i ≤ xs.length ∧ x = .int .i64 i ∧ n = .int .i64 k ∧ 1 ≤ k ∧ k ≤ lim ∧ Hid (cntL (xs.drop i) k lim = res) ∧ Ext w1 V) (fun _ x _ => xs.length - (intOf x).toNat)
  case atStart => exact ⟨0, 1, by omega, rfl, rfl, by omega, by omega, HR, Ext.refl _⟩
  case round =>
    obtain ⟨i, k, hi, rfl, rfl, hk1, hk2, hr, hE⟩ := hrel
    obtain ⟨c0, c1, c2, hz⟩ := HB.out _ hE
    by_cases hlt : i < xs.length
    · by_cases hkl : k < lim
      · obtain ⟨b, o, rfl, hb, hat⟩ := HAT.out (by omega)
        obtain ⟨q, d, ⟨x0, x1, x2⟩, hx⟩ := hat i hlt
        replace x0 := x0 _ (hE0.trans hE)
        replace x1 := x1 _ (hE0.trans hE)
        replace x2 := x2 _ (hE0.trans hE)
        have HC := hide (fun W hW => HI.out _ (mem_getD hlt) (lim - k) _ W (hx.ext hW) (by omega) (by omega))
        have hbd := cntE_bd (xs.getD i default) (lim - k) (by omega)
        have HN : Hid (cntL (xs.drop (i + 1)) (k + cntE (xs.getD i default) (lim - k)) lim = res) := by
          have := hr.out
          rw [drop_getD hlt] at this
          simp only [cntL] at this
          rw [if_pos hkl] at this
          exact this
        clear hat hx hr
        generalize cntE (xs.getD i default) (lim - k) = m at HC hbd HN
        generalize xs.getD i default = y at x0 x1 x2 HC
        go_wp2_with fail
        refine (HC.out _ (hE0.trans hE)).mono ?_
        rintro e' w3 ⟨rfl, hE3⟩
        clear c0 c1 c2 x0 x1 x2
        go_wp2_with fail
        go_roundw
        case rel => exact ⟨i + 1, k + m, by omega, by go_num, rfl, by omega, by omega, HN, hE.trans hE3⟩
        case measure => simp [intOf]; omega
      · have hrr := hr.out
        rw [cntL_stop hkl] at hrr
        have HRR := hide hrr
        clear hrr hr
        go_wp2_with fail
        go_ret
        exact ⟨ret_int HRR.out, hE0.trans hE⟩
    · have hrr := hr.out
      rw [List.drop_of_length_le (by omega)] at hrr
      have HRR := hide (show k = res from hrr)
      clear hrr hr
      obtain rfl : i = xs.length := by omega
      go_wp2_with fail
      go_ret
      exact ⟨ret_int HRR.out, hE0.trans hE⟩

theorem quant_any (op : Int) (w : World) : Calls Tryz.prog 56 #[.int .i64 op] w fun e' w' => e' = .returned (.bool (isQ op)) ∧ w' = w := by
  unfold isQ
  go_enter Tryz.func56, Tryz.ntmps56
  go_wp2
  all_goals (go_ret; simp_all)

set_option maxHeartbeats 1000000 in
theorem rquantors_any : ∀ (e : Ex) (v : Value) (w : World), ExAt w v e → e.nodes ≤ 1000000 →
    Calls Tryz.prog 18 #[v] w fun e' w' => e' = .returned (.int .i64 (quE e : Nat)) ∧ Ext w w' := by
  refine Ex.ind (P := fun e => ∀ (v : Value) (w : World), ExAt w v e → e.nodes ≤ 1000000 →
    Calls Tryz.prog 18 #[v] w fun e' w' => e' = .returned (.int .i64 (quE e : Nat)) ∧ Ext w w') ?_
  intro op num xs ih v w hv h1
  have HI := hide ih
  obtain ⟨p, c, rfl, hc, hl, hat⟩ := hv.all_
  simp only [Ex.op, Ex.num, Ex.args] at hc hl hat ⊢
  have HAT := hide hat
  clear ih hv hat
  have hnl : Ex.nodesL xs ≤ 1000000 := by simp only [Ex.nodes] at h1; omega
  have HQ := hide (fun i (hi : i < xs.length) => quL_take xs hi)
  have HQL := hide (fun i => Nat.le_trans (quE_le (.mk op num (xs.take i))) (Ex.depth_le (.mk op num (xs.take i))))
  have HNT := hide (fun i => Ex.nodesL_take_le xs i)
  clear h1
  have hE0 : Ext w (w.alloc (.cells #[.int .i64 op, .int .i64 num, .slice p xs.length c] 25)) := (Ext.refl w).alloc _
  have HB := hide (fun w1 => xbox w op num (.slice p xs.length c) (w1 := w1))
  have hbd : ∀ i, quL (xs.take i) ≤ 1000001 := fun i => by
    have h1 := HQL.out i
    have h2 := HNT.out i
    simp only [quE, Ex.nodes] at h1
    omega
  have HBD := hide hbd
  clear hbd
  go_enter Tryz.func18, Tryz.ntmps18
  go_wp2_with fail
  obtain ⟨w1, hw1⟩ : ∃ w1, w.alloc (.cells #[.int .i64 op, .int .i64 num, .slice p xs.length c] 25) = w1 := ⟨_, rfl⟩
  rw [hw1] at hE0 HB
  rw [hw1]
  clear hw1
  go_loopw [3, 4] (fun n x V => ∃ (i : Nat), i ≤ xs.length ∧ x = .int .i64 i ∧ n = .int .i64 ((quL (xs.take i) : Nat) : Int) ∧ Ext w1 V) (fun _ x _ => xs.length - (intOf x).toNat)
  case atStart => exact ⟨0, by omega, rfl, rfl, Ext.refl _⟩
  case round =>
    obtain ⟨i, hi, rfl, rfl, hE⟩ := hrel
    obtain ⟨c0, c1, c2, hz⟩ := HB.out _ hE
    have hb0 := HBD.out i
    by_cases hlt : i < xs.length
    · obtain ⟨b, o, rfl, hb, hat⟩ := HAT.out (by omega)
      obtain ⟨q, d, ⟨x0, x1, x2⟩, hx⟩ := hat i hlt
      replace x0 := x0 _ (hE0.trans hE)
      replace x1 := x1 _ (hE0.trans hE)
      replace x2 := x2 _ (hE0.trans hE)
      have hnm := Ex.nodes_mem (mem_getD hlt)
      have HC := hide (fun W hW => HI.out _ (mem_getD hlt) _ W (hx.ext hW) (by omega))
      have hb1 := HBD.out (i + 1)
      have HN := hide (HQ.out i hlt)
      have hg : xs[i] = xs.getD i default := by rw [List.getD_eq_getElem?_getD, List.getElem?_eq_getElem hlt]; rfl
      rw [hg] at HN
      clear hat hx hg hnm
      generalize xs.getD i default = y at x0 x1 x2 HC HN
      generalize quE y = m at HC HN
      generalize hq' : quL (xs.take (i + 1)) = m' at HN hb1
      have HQ' := hide hq'
      clear hq'
      generalize quL (xs.take i) = k at HN hb0 ⊢
      have hm : m ≤ 1000001 := by have := HN.out; omega
      go_wp2_with fail
      refine (HC.out _ (hE0.trans hE)).mono ?_
      rintro e' w3 ⟨rfl, hE3⟩
      clear c0 c1 c2 x0 x1 x2
      by_cases hkm : k < m
      · have hmm : m' = m := by have := HN.out; omega
        have HM := hide hmm
        clear hmm HN
        go_wp2_with fail
        go_roundw
        case rel => exact ⟨i + 1, by omega, by go_num, by rw [HQ'.out, HM.out], hE.trans hE3⟩
        case measure => simp [intOf]; omega
      · have hmm : m' = k := by have := HN.out; omega
        have HM := hide hmm
        clear hmm HN
        go_wp2_with fail
        go_roundw
        case rel => exact ⟨i + 1, by omega, by go_num, by rw [HQ'.out, HM.out], hE.trans hE3⟩
        case measure => simp [intOf]; omega
    · obtain rfl : i = xs.length := by omega
      rw [List.take_length] at hb0 ⊢
      have HE := hide (show quE (.mk op num xs) = quL xs + (if isQ op = true then 1 else 0) from rfl)
      have HQO := hide (quant_any op)
      generalize hr : quE (.mk op num xs) = r at HE
      have HRR := hide hr
      clear hr
      generalize quL xs = k at hb0 HE ⊢
      generalize isQ op = b at HE HQO
      go_wp2_with fail
      refine (HQO.out _).mono ?_
      rintro e' w3 ⟨rfl, rfl⟩
      cases b
      · have HR := hide (show r = k from HE.out)
        clear HE
        go_wp2_with fail
        go_ret
        exact ⟨ret_int (by rw [HRR.out, HR.out]), hE0.trans hE⟩
      · have HR := hide (show r = k + 1 from HE.out)
        clear HE
        go_wp2_with fail
        go_ret
        exact ⟨ret_int (by rw [HRR.out, HR.out]; rfl), hE0.trans hE⟩

theorem rfew_ex (e : Ex) (v : Value) (w : World) (hv : ExAt w v e) :
    Calls Tryz.prog 5 #[v] w fun e' w' => e' = .returned (.bool (efew e)) ∧ Ext w w' := by
  have HC := hide (fun W (hW : Ext w W) => rcount_any e 140 v W (hv.ext hW) (by omega) (by omega))
  have HQ := hide (fun W (hW : Ext w W) h => rquantors_any e v W (hv.ext hW) h)
  obtain ⟨p, c, rfl, hc, hl, hat⟩ := hv.all_
  clear hv hat
  have hE0 : Ext w (w.alloc (.cells #[.int .i64 e.op, .int .i64 e.num, .slice p e.args.length c] 25)) := (Ext.refl w).alloc _
  have HB := hide (fun w1 => xbox w e.op e.num (.slice p e.args.length c) (w1 := w1))
  unfold efew
  by_cases h : cntE e 140 < 140
  · have hn : e.nodes ≤ 1000000 := by have := cntE_nodes e 140 (by omega) h; omega
    have hq := fun W hW => HQ.out W hW hn
    have HQ := hide hq
    rw [decide_eq_true h, Bool.true_and]
    have hk : quE e ≤ 1000001 := Nat.le_trans (Nat.le_trans (quE_le e) (Ex.depth_le e)) (by omega)
    clear hq hn
    generalize cntE e 140 = k at HC h
    generalize quE e = m at HQ hk ⊢
    go_enter Tryz.func5, Tryz.ntmps5
    go_wp2_with fail
    refine (HC.out _ hE0).mono ?_
    rintro e' w1 ⟨rfl, hE⟩
    obtain ⟨c0, c1, c2, hz⟩ := HB.out _ hE
    go_wp2_with fail
    refine (HQ.out _ (hE0.trans hE)).mono ?_
    rintro e' w2 ⟨rfl, hE2⟩
    clear c0 c1 c2
    go_wp2_with fail
    go_ret
    exact ⟨ret_bool (by rw [decide_eq_decide]; omega), (hE0.trans hE).trans hE2⟩
  · rw [decide_eq_false h, Bool.false_and]
    have hd : decide (cntE e 140 < 140) = false := decide_eq_false h
    clear HQ
    generalize cntE e 140 = k at HC hd
    go_enter Tryz.func5, Tryz.ntmps5
    go_wp2_with fail
    refine (HC.out _ hE0).mono ?_
    rintro e' w1 ⟨rfl, hE⟩
    go_wp2_with fail
    go_ret
    exact ⟨rfl, hE0.trans hE⟩

theorem absent_any (e : Ex) (v : Value) (w : World) (hv : ExAt w v e) :
    Calls Tryz.prog 31 #[v] w fun e' w' => e' = .returned (.bool (absentE e)) ∧ Ext w w' := by
  obtain ⟨p, c, rfl, hc, hl, hat⟩ := hv.all_
  clear hv hat
  unfold absentE
  generalize e.op = o
  generalize e.num = n
  generalize e.args.length = k at *
  have hk : ((k : Int) == 0) = (k == 0) := by rw [Bool.eq_iff_iff]; simp
  rw [← hk]
  cases h1 : (o == 0)
  · clear hk
    go_enter Tryz.func31, Tryz.ntmps31
    go_wp2
    go_ret
    exact ⟨by simp, (Ext.refl w).alloc _⟩
  · cases h2 : (n == 0)
    · clear hk
      go_enter Tryz.func31, Tryz.ntmps31
      go_wp2
      go_ret
      exact ⟨by simp, (Ext.refl w).alloc _⟩
    · clear hk
      go_enter Tryz.func31, Tryz.ntmps31
      go_wp2
      go_ret
      exact ⟨by simp, (Ext.refl w).alloc _⟩

end Go.Proofs.YthkididgbaamcaaGreatDoor

namespace Go.Proofs.YthkididgbaamcaaGreatDoor
open Go.RowKit

theorem rarity_any (op : Int) (w : World) : Calls Tryz.prog 59 #[.int .i64 op] w fun e' w' => e' = .returned (.int .i64 (arity op)) ∧ w' = w := by
  have h : ∀ k, (if op < 0 ∨ 15 < op then (-1 : Int) else if op = 0 ∨ op = 1 then 0 else if op = 2 ∨ op = 3 ∨ op = 12 ∨ 13 ≤ op then 1 else 2) = k → arity op = k := fun k hk => hk
  have H := hide h
  clear h
  go_enter Tryz.func59, Tryz.ntmps59
  go_wp2
  all_goals
    go_ret
    refine ⟨ret_int (H.out _ ?_).symm, rfl⟩
    simp_all
    try omega
theorem rkindof_any (op : Int) (w : World) : Calls Tryz.prog 60 #[.int .i64 op] w fun e' w' => e' = .returned (.int .i64 (kindOf op)) ∧ w' = w := by
  have H := hide (show ∀ k, (if op = 0 ∨ op = 1 ∨ op = 2 ∨ op = 3 ∨ op = 5 ∨ op = 6 ∨ op = 15 then (0 : Int) else 1) = k → kindOf op = k from fun k hk => hk)
  go_enter Tryz.func60, Tryz.ntmps60
  go_wp2
  all_goals
    go_ret
    refine ⟨ret_int (H.out _ ?_).symm, rfl⟩
    simp_all
theorem rargkind_any (op : Int) (w : World) : Calls Tryz.prog 120 #[.int .i64 op] w fun e' w' => e' = .returned (.int .i64 (argKind op)) ∧ w' = w := by
  have H := hide (show ∀ k, (if 10 ≤ op then (1 : Int) else 0) = k → argKind op = k from fun k hk => hk)
  go_enter Tryz.func120, Tryz.ntmps120
  go_wp2
  all_goals
    go_ret
    refine ⟨ret_int (H.out _ ?_).symm, rfl⟩
    simp_all
    try omega
def knownB (op : Int) : Bool := decide (0 ≤ op) && decide (op < 16)
theorem knownB_arity (op : Int) : knownB op = decide (0 ≤ arity op) := by
  unfold knownB
  rw [Bool.eq_iff_iff]
  simp only [Bool.and_eq_true, decide_eq_true_eq]
  unfold arity
  constructor
  · intro h; split <;> (try split) <;> (try split) <;> omega
  · intro h
    by_cases h1 : op < 0 ∨ 15 < op
    · rw [if_pos h1] at h; omega
    · omega
theorem known_any (op : Int) (w : World) : Calls Tryz.prog 123 #[.int .i64 op] w fun e' w' => e' = .returned (.bool (knownB op)) ∧ w' = w := by
  unfold knownB
  by_cases h1 : 0 ≤ op <;> by_cases h2 : op < 16
  all_goals
    go_enter Tryz.func123, Tryz.ntmps123
    go_wp2
    go_ret
    simp [h1, h2]
theorem quantifies_any (op : Int) (w : World) : Calls Tryz.prog 149 #[.int .i64 op] w fun e' w' => e' = .returned (.bool (isQ op)) ∧ w' = w := by
  have h : isQ op = (decide (13 ≤ op) && decide (op ≤ 15)) := by
    unfold isQ
    rw [Bool.eq_iff_iff]; simp; omega
  rw [h]
  clear h
  by_cases h1 : 13 ≤ op <;> by_cases h2 : op ≤ 15
  all_goals
    go_enter Tryz.func149, Tryz.ntmps149
    go_wp2
    go_ret
    simp [h1, h2]
def smallB (n : Int) : Bool := decide (-1048576 ≤ n) && decide (n ≤ 1048576)
theorem small_any (n : Int) (w : World) : Calls Tryz.prog 100 #[.int .i64 n] w fun e' w' => e' = .returned (.bool (smallB n)) ∧ w' = w := by
  unfold smallB
  by_cases h1 : -1048576 ≤ n <;> by_cases h2 : n ≤ 1048576
  all_goals
    go_enter Tryz.func100, Tryz.ntmps100
    go_wp2
    go_ret
    simp [h1, h2]
/-- The program's table of operations lies in the package's variable. -/
def rowAt (op : Int) : Nat → Int
  | 0 => kindOf op
  | 1 => arity op
  | _ => if arity op = 0 then 0 else argKind op
def Tab (w : World) : Prop := (0 < w.heap.size) ∧ ∀ k : Nat, k < 16 → ∀ j : Nat, j < 3 → w.cell? ⟨0, k * 3 + j, none⟩ = some (.int .i64 (rowAt k j))
theorem Tab.ext {w W : World} (h : Tab w) (hE : Ext w W) : Tab W := ⟨Nat.lt_of_lt_of_le h.1 hE.size, fun k hk j hj => (hE.cell (p := ⟨0, k * 3 + j, none⟩) h.1).trans (h.2 k hk j hj)⟩
end Go.Proofs.YthkididgbaamcaaGreatDoor
