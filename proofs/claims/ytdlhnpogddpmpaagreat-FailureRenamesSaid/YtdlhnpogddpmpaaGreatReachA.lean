/-
  The program's Reachable.
  Conditions: as each theorem states.
-/
import Derived.Test.YtdlhnpogddpmpaaGreatStateP
import Derived.Test.YtdlhnpogddpmpaaGreatWordsRef
namespace Go.Proofs.YtdlhnpogddpmpaaGreat
open Go.RowKit
attribute [local go_sem] Oper.semAt_some

inductive Reach (A : Adv) : Nat → Prop
  | zero : Reach A 0
  | step {s i : Nat} : Reach A s → s < A.L → i < A.len s → Reach A (A.mv s i).to.toNat
open Classical in
noncomputable def reachB (A : Adv) (s : Nat) : Bool := decide (Reach A s)
open Classical in
theorem reachB_iff {A : Adv} {s : Nat} : reachB A s = true ↔ Reach A s := by unfold reachB; exact decide_eq_true_iff
def cntM (m : Nat → Bool) : Nat → Nat
  | 0 => 0
  | n + 1 => cntM m n + if m n = true then 1 else 0
theorem cntM_le (m : Nat → Bool) : ∀ n, cntM m n ≤ n
  | 0 => Nat.le_refl _
  | n + 1 => by have := cntM_le m n; simp only [cntM]; split <;> omega
theorem cntM_mono {m m' : Nat → Bool} (h : ∀ s, m s = true → m' s = true) : ∀ n, cntM m n ≤ cntM m' n
  | 0 => Nat.le_refl _
  | n + 1 => by
    have := cntM_mono h n
    simp only [cntM]
    by_cases h1 : m n = true
    · rw [if_pos h1, if_pos (h n h1)]; omega
    · rw [if_neg h1]; omega
theorem cntM_lt {m m' : Nat → Bool} (h : ∀ s, m s = true → m' s = true) {t : Nat} (h1 : m' t = true) (h2 : m t = false) : ∀ n, t < n → cntM m n < cntM m' n
  | 0, hn => by omega
  | n + 1, hn => by
    simp only [cntM]
    by_cases e : t = n
    · subst e
      have := cntM_mono h t
      rw [if_pos h1, if_neg (by rw [h2]; decide)]; omega
    · have := cntM_lt h h1 h2 n (by omega)
      by_cases h3 : m n = true
      · rw [if_pos h3, if_pos (h n h3)]; omega
      · rw [if_neg h3]; omega
def setM (m : Nat → Bool) (t : Nat) : Nat → Bool := fun s => if s = t then true else m s
theorem setM_mono (m : Nat → Bool) (t s : Nat) (h : m s = true) : setM m t s = true := by unfold setM; split; rfl; exact h
theorem setM_same {m : Nat → Bool} {t : Nat} (h : m t = true) : setM m t = m := by
  funext s; unfold setM; split
  · rename_i e; rw [e, h]
  · rfl
/-- The marks are sound, and hold 0. -/
structure Mark (A : Adv) (m : Nat → Bool) : Prop where
  zero : m 0 = true
  sound : ∀ s, m s = true → Reach A s
def ClosedM (A : Adv) (m : Nat → Bool) : Prop := ∀ s, s < A.L → m s = true → ∀ i, i < A.len s → m (A.mv s i).to.toNat = true
theorem Mark.all {A : Adv} {m : Nat → Bool} (h : Mark A m) (hc : ClosedM A m) : m = reachB A := by
  funext s
  have h1 : Reach A s → m s = true := fun hr => by
    induction hr with
    | zero => exact h.zero
    | step _ hs hi ih => exact hc _ hs ih _ hi
  cases hm : m s with
  | false =>
    cases hr : reachB A s with
    | false => rfl
    | true => rw [h1 (reachB_iff.1 hr)] at hm; cases hm
  | true => exact (reachB_iff.2 (h.sound s hm)).symm
theorem Mark.set {A : Adv} {m : Nat → Bool} (h : Mark A m) {s i : Nat} (hs : s < A.L) (hi : i < A.len s) (hm : m s = true) : Mark A (setM m (A.mv s i).to.toNat) := by
  refine ⟨setM_mono _ _ _ h.zero, fun x hx => ?_⟩
  unfold setM at hx
  split at hx
  · rename_i e; rw [e]; exact .step (h.sound s hm) hs hi
  · exact h.sound x hx
/-- A pass: either more is marked than at its beginning, or nothing new was found so far. -/
structure Pass (A : Adv) (m0 m : Nat → Bool) (done : Nat → Nat → Prop) : Prop where
  mark : Mark A m
  mono : ∀ s, m0 s = true → m s = true
  more : cntM m0 A.L < cntM m A.L ∨ (m = m0 ∧ ∀ s i, s < A.L → i < A.len s → done s i → m0 s = true → m0 (A.mv s i).to.toNat = true)
theorem Pass.start {A : Adv} {m : Nat → Bool} (h : Mark A m) : Pass A m m (fun s _ => s < 0) := ⟨h, fun _ h => h, .inr ⟨rfl, fun _ _ _ _ h => by omega⟩⟩
theorem Pass.weaken {A : Adv} {m0 m : Nat → Bool} {d d' : Nat → Nat → Prop} (h : Pass A m0 m d) (hd : ∀ s i, s < A.L → i < A.len s → d' s i → d s i) : Pass A m0 m d' :=
  ⟨h.mark, h.mono, h.more.imp id fun ⟨h1, h2⟩ => ⟨h1, fun s i hs hi hh => h2 s i hs hi (hd s i hs hi hh)⟩⟩
theorem Pass.take {A : Adv} {m0 m : Nat → Bool} {s i : Nat} (h : Pass A m0 m (fun s' i' => s' < s ∨ (s' = s ∧ i' < i))) (hs : s < A.L) (hi : i < A.len s) (hm : m s = true) (ht : (A.mv s i).to.toNat < A.L) :
    Pass A m0 (setM m (A.mv s i).to.toNat) (fun s' i' => s' < s ∨ (s' = s ∧ i' < i + 1)) := by
  refine ⟨h.mark.set hs hi hm, fun x hx => setM_mono _ _ _ (h.mono x hx), ?_⟩
  rcases h.more with h1 | ⟨h1, h2⟩
  · exact .inl (Nat.lt_of_lt_of_le h1 (cntM_mono (setM_mono m _) _))
  · cases hh : m (A.mv s i).to.toNat with
    | false => exact .inl (by rw [← h1]; exact cntM_lt (setM_mono m _) (by simp [setM]) hh _ ht)
    | true =>
      refine .inr ⟨by rw [setM_same hh]; exact h1, fun s' i' hs' hi' hd hm' => ?_⟩
      by_cases e : s' = s ∧ i' = i
      · obtain ⟨rfl, rfl⟩ := e; rw [← h1]; exact hh
      · exact h2 s' i' hs' hi' (by omega) hm'
theorem Pass.pass {A : Adv} {m0 m : Nat → Bool} {s i : Nat} (h : Pass A m0 m (fun s' i' => s' < s ∨ (s' = s ∧ i' < i))) (hm : m s = false) :
    Pass A m0 m (fun s' i' => s' < s ∨ (s' = s ∧ i' < i + 1)) := by
  refine ⟨h.mark, h.mono, h.more.imp id fun ⟨h1, h2⟩ => ⟨h1, fun s' i' hs' hi' hd hm' => ?_⟩⟩
  by_cases e : s' = s
  · subst e; rw [← h1] at hm'; rw [hm] at hm'; cases hm'
  · exact h2 s' i' hs' hi' (by omega) hm'
/-- After n passes: so much is marked, or all. -/
def Passed (A : Adv) (m : Nat → Bool) (n : Nat) : Prop := Mark A m ∧ (n + 1 ≤ cntM m A.L ∨ ClosedM A m)
theorem Passed.next {A : Adv} {m0 m : Nat → Bool} {n : Nat} (h0 : Passed A m0 n) (h : Pass A m0 m (fun s _ => s < A.L)) : Passed A m (n + 1) := by
  refine ⟨h.mark, ?_⟩
  rcases h.more with h1 | ⟨h1, h2⟩
  · rcases h0.2 with h3 | h3
    · exact .inl (by omega)
    · exfalso
      have e1 := h0.1.all h3
      have e2 : ∀ s, m s = true → m0 s = true := fun s hs => by rw [e1]; exact reachB_iff.2 (h.mark.sound s hs)
      have := cntM_mono e2 A.L
      omega
  · exact .inr (by rw [h1]; exact fun s hs hm i hi => h2 s i hs hi hs hm)
theorem Passed.all {A : Adv} {m : Nat → Bool} (h : Passed A m A.L) : m = reachB A := by
  rcases h.2 with h1 | h1
  · have := cntM_le m A.L; omega
  · exact h.1.all h1
def bcells (L : Nat) (m : Nat → Bool) : Array Value := ((List.range L).map fun s => Value.bool (m s)).toArray
theorem bcells_at {L s : Nat} (m : Nat → Bool) (hs : s < L) : (bcells L m)[s]? = some (.bool (m s)) := by simp [bcells, hs]
theorem bcells_set {L t : Nat} (m : Nat → Bool) (_ht : t < L) : (bcells L m).setIfInBounds t (.bool true) = bcells L (setM m t) := by
  apply Array.ext
  · simp [bcells]
  · intro i h1 h2
    have hi : i < L := by simpa [bcells] using h2
    simp only [bcells, List.getElem_toArray, List.getElem_map, List.getElem_range, setM]
    by_cases e : t = i
    · subst e; simp
    · simp [e, Ne.symm e]
theorem bcells_zero (L : Nat) : bcells L (fun _ => false) = Array.replicate L (.bool false) := by
  apply Array.ext <;> simp [bcells]

end Go.Proofs.YtdlhnpogddpmpaaGreat

namespace Go.Proofs.YtdlhnpogddpmpaaGreat
open Go.RowKit
attribute [local go_sem] Oper.semAt_some

/-- The reachable ones of the first n states. -/
noncomputable def reachP (A : Adv) (n : Nat) : List Int := ((List.range n).filter (reachB A)).map fun k : Nat => (k : Int)
theorem reachP_yes {A : Adv} {n : Nat} (h : reachB A n = true) : reachP A (n + 1) = reachP A n ++ [(n : Int)] := by
  unfold reachP; rw [List.range_succ, List.filter_append, List.map_append]; simp [h]
theorem reachP_no {A : Adv} {n : Nat} (h : reachB A n = false) : reachP A (n + 1) = reachP A n := by
  unfold reachP; rw [List.range_succ, List.filter_append, List.map_append]; simp [h]
theorem reachP_len (A : Adv) (n : Nat) : (reachP A n).length ≤ n := by
  unfold reachP; rw [List.length_map]; have := List.length_filter_le (reachB A) (List.range n); simpa using this
/-- The list of an adversary, and its error. -/
noncomputable def reachS (A : Adv) : List Int := if achk A = 0 then reachP A A.L else []

end Go.Proofs.YtdlhnpogddpmpaaGreat

namespace Go.Proofs.YtdlhnpogddpmpaaGreat
open Go.RowKit
attribute [local go_sem] Oper.semAt_some

/-- v is a queue of the call's own. -/
def Que (W : World) (base : Nat) (v : Value) (q : List Int) : Prop :=
  ∃ g off cs cap, v = .slice (some ⟨g, off, none⟩) q.length cap ∧ base ≤ g ∧ W.heap[g]? = some (.cells cs 3 (0, 0)) ∧ off + cap ≤ cs.size ∧ q.length ≤ cap ∧ cap ≤ maxLen ∧ ∀ i x, q[i]? = some x → cs[off + i]? = some (.int .i64 x)
theorem que_room (W : World) (ty : TypeId) (g off n cap h : Nat) (cs : Array Value) (x : Int) (hg : W.heap[g]? = some (.cells cs 3 (0, 0))) (hx : W.cell? ⟨h, 0, none⟩ = some (.int .i64 x)) (hroom : n + 1 ≤ cap) (hsz : off + cap ≤ cs.size) :
    (Builtin.append_ #[48, 48] ty #[.slice (some ⟨g, off, none⟩) n cap, .slice (some ⟨h, 0, none⟩) 1 1]).run Tryz.prog W = .ok (.slice (some ⟨g, off, none⟩) (n + 1) cap) (W.setRow g (cs.setIfInBounds (off + n) (.int .i64 x))) := by
  have hi : (sizeOf 3).run Tryz.prog W = .ok 1 W := by kernel_rfl
  have hu := run_underlying (P := Tryz.prog) Tryz.underlying48 W
  have hf := run_firstCells_some (P := Tryz.prog) W 1 1 ⟨h, 0, none⟩ 1 1 [.int .i64 x] rfl (fun j u hj => by
    cases j with
    | zero => simp at hj; subst hj; exact hx
    | succ j => simp at hj)
  have hst := run_storeCells_at Tryz.prog g (off + n) 3 [.int .i64 x] 0 cs W hg (by simp; omega) (by simp [Value.oneCell'])
  simp [Builtin.append_, hu, hi, Builtin.lenOf, hroom, hf, Addr.add_lit]
  rw [hst]
  have e : (cs.toList.take (off + n + 0) ++ [Value.int .i64 x] ++ cs.toList.drop (off + n + 0 + [Value.int .i64 x].length)).toArray = cs.setIfInBounds (off + n) (.int .i64 x) := by
    apply Array.ext'
    rw [Array.toList_setIfInBounds, List.set_eq_take_append_cons_drop, if_pos (by simp; omega)]
    simp
  rw [e]
  rfl
theorem Que.block {W W' : World} {base : Nat} {v : Value} {q : List Int} (h : Que W base v q) (hb : ∀ k, base ≤ k → k < W.heap.size → W'.heap[k]? = W.heap[k]?) : Que W' base v q := by
  obtain ⟨g, off, cs, cap, h1, h2, h3, h4⟩ := h
  exact ⟨g, off, cs, cap, h1, h2, (hb g h2 (lt_of_heap h3)).trans h3, h4⟩
/-- All below B lies as it lay. -/
structure Low (B : Nat) (W W' : World) : Prop where
  os : W'.os = W.os
  tape : W'.tape = W.tape
  output : W'.output = W.output
  size : W.heap.size ≤ W'.heap.size
  low : ∀ k, k < B → k < W.heap.size → W'.heap[k]? = W.heap[k]?
theorem Ext.low {w W W' : World} {B : Nat} (h : Ext w W) (hl : Low B W W') (hB : w.heap.size ≤ B) : Ext w W' :=
  ⟨⟨hl.os.trans h.b.os, hl.tape.trans h.b.tape, hl.output.trans h.b.output, Nat.le_trans h.b.size hl.size, fun k hk => (hl.low k (by omega) (Nat.lt_of_lt_of_le hk h.b.size)).trans (h.b.block k hk)⟩⟩
theorem que_append {W : World} {base : Nat} {v : Value} {q : List Int} (h : Que W base v q) (hw : Nat) (x : Int) (hx : W.cell? ⟨hw, 0, none⟩ = some (.int .i64 x)) (hlen : (q.length + 1) * 8 ≤ 140737488355328) (hbase : base ≤ W.heap.size) :
    ∃ g off cap W', (∀ ty, (Builtin.append_ #[48, 48] ty #[v, .slice (some ⟨hw, 0, none⟩) 1 1]).run Tryz.prog W = .ok (.slice (some ⟨g, off, none⟩) (q.length + 1) cap) W') ∧
      Que W' base (.slice (some ⟨g, off, none⟩) (q.length + 1) cap) (q ++ [x]) ∧ Low base W W' := by
  obtain ⟨g, off, cs, cap, rfl, hg, hrow, hsz, hcap, hmax, hat⟩ := h
  by_cases hroom : q.length + 1 ≤ cap
  · refine ⟨g, off, cap, W.setRow g (cs.setIfInBounds (off + q.length) (.int .i64 x)), fun ty => que_room W ty g off _ cap hw cs x hrow hx hroom hsz, ?_, ⟨rfl, rfl, rfl, by simp, fun k hk _ => setRow_other _ _ _ _ (by omega)⟩⟩
    refine ⟨g, off, _, cap, by simp, hg, setRow_heap _ _ _ _ _ _ hrow, by simpa using hsz, by simpa using hroom, hmax, fun i y hy => ?_⟩
    rw [Array.getElem?_setIfInBounds]
    by_cases e : off + q.length = off + i
    · have e2 : i = q.length := by omega
      subst e2
      simp at hy
      subst hy
      rw [if_pos rfl, if_pos (by omega)]
    · rw [if_neg e]
      refine hat i y ?_
      rcases Nat.lt_or_ge i q.length with h7 | h7
      · rwa [List.getElem?_append_left h7] at hy
      · rw [List.getElem?_append_right h7] at hy
        have : i - q.length = 0 := by
          rcases Nat.eq_zero_or_pos (i - q.length) with h8 | h8
          · exact h8
          · rw [List.getElem?_eq_none (by simp; omega)] at hy; cases hy
        omega
  · obtain ⟨i, hi, hzz⟩ := Option.map_eq_some_iff.1 int_info
    simp only [Prod.mk.injEq] at hzz
    obtain ⟨hz, hs1, hb8⟩ := hzz
    have holds : ∀ j u, (q.map (Value.int .i64 ·))[j]? = some u → W.cell? ((⟨g, off, none⟩ : Addr).add j) = some u := fun j u hj => by
      rw [List.getElem?_map] at hj
      cases hq : q[j]? with
      | none => rw [hq] at hj; cases hj
      | some y =>
        rw [hq] at hj
        simp only [Option.map_some, Option.some.injEq] at hj
        subst hj
        have e : (⟨g, off, none⟩ : Addr).add j = ⟨g, off + j, none⟩ := by unfold Addr.add; split <;> simp_all
        rw [e, cell_of_row _ _ _ _ _ _ hrow]
        exact hat j y hq
    have hr := fun ty => run_append_grow (P := Tryz.prog) W 48 ty 3 i (.int .i64 0) Tryz.underlying48 hi hz ⟨g, off, none⟩ q.length cap (q.map (Value.int .i64 ·)) (by rw [List.length_map, hs1, Nat.mul_one]) holds
      ⟨hw, 0, none⟩ 1 1 [.int .i64 x] (by rw [hs1]; rfl) (fun j u hj => by
        cases j with
        | zero => simp at hj; subst hj; exact hx
        | succ j => simp at hj) (by omega) (by omega) (growslice_fits (by omega) (by rw [hb8]; exact hlen))
    refine ⟨W.heap.size, 0, _, _, hr, ?_, ⟨rfl, rfl, rfl, by simp, fun k _ hk => Below.heap_alloc W.drew _ k hk⟩⟩
    have hge := grownCap_ge W (q.length + 1) cap 3
    refine ⟨W.heap.size, 0, _, grownCap W (q.length + 1) cap 3, by simp, hbase, heap_alloc_new W.drew _, ?_, by simpa using hge, grownCap_le_maxLen W _ _ _ (by unfold maxLen; omega), fun j y hy => ?_⟩
    · simp [Builtin.zeroCells, Value.cells]
      omega
    · rw [Nat.zero_add]
      have hj : j < (q ++ [x]).length := by
        rcases Nat.lt_or_ge j (q ++ [x]).length with h7 | h7
        · exact h7
        · rw [List.getElem?_eq_none h7] at hy; cases hy
      have e : ((q.map (Value.int .i64 ·)).toArray ++ [Value.int .i64 x].toArray) = ((q ++ [x]).map (Value.int .i64 ·)).toArray := by simp
      rw [e, Array.getElem?_append_left (by simpa using hj)]
      rw [List.getElem?_toArray, List.getElem?_map, hy]
      rfl
end Go.Proofs.YtdlhnpogddpmpaaGreat

namespace Go.Proofs.YtdlhnpogddpmpaaGreat
open Go.RowKit
attribute [local go_sem] Oper.semAt_some

/-- Block b is a map with these entries. -/
def IMap (W : World) (b : Nat) (l : List (Int × Value)) : Prop :=
  ∃ es clock, W.heap[b]? = some (.map es clock) ∧ es.toList.map (fun e => (e.key, e.val)) = l.map fun x => (Value.int .i64 x.1, x.2)
def ilook : List (Int × Value) → Int → Option Value
  | [], _ => none
  | (x, t) :: l, r => if r = x then some t else ilook l r
theorem IMap.lt {W : World} {b : Nat} {l : List (Int × Value)} (h : IMap W b l) : b < W.heap.size := by obtain ⟨_, _, h, _⟩ := h; exact lt_of_heap h
theorem IMap.of_block {W W' : World} {b : Nat} {l : List (Int × Value)} (h : IMap W b l) (hb : W'.heap[b]? = W.heap[b]?) : IMap W' b l := by
  obtain ⟨es, c, h1, h2⟩ := h; exact ⟨es, c, hb.trans h1, h2⟩
theorem IMap.new (W : World) : IMap (W.alloc (.map #[] 0)) W.heap.size [] := ⟨#[], 0, World.alloc_heap_new _ _, rfl⟩
theorem check_int (em : Bool) (n : Int) (w : World) : (Instr.checkKey em 10000 3 (.int .i64 n)).run Tryz.prog w = .ok () w := by kernel_rfl
theorem now_int (r : Int) : ∀ (es : List MapEntry) (l : List (Int × Value)) (i : Nat), es.map (fun e => (e.key, e.val)) = l.map (fun x => (Value.int .i64 x.1, x.2)) →
    ∃ res : Option (Nat × Value), Instr.findNow (.int .i64) (.int .i64 r) es i = some res ∧ res.map (·.2) = ilook l r
  | [], [], i, _ => ⟨none, rfl, rfl⟩
  | [], _ :: _, i, h => by simp at h
  | _ :: _, [], i, h => by simp at h
  | e :: es, (x, t) :: l, i, h => by
    simp only [List.map_cons, List.cons.injEq, Prod.mk.injEq] at h
    obtain ⟨⟨h1, h2⟩, h3⟩ := h
    simp only [Instr.findNow, h1, Instr.sameNow, ilook, if_true]
    by_cases hr : r = x
    · subst hr
      simp only [beq_self_eq_true, if_true]
      exact ⟨some (i, e.val), rfl, by rw [← h2]; rfl⟩
    · have hq : (r == x) = false := by simp [hr]
      rw [hq, if_neg hr]
      exact now_int r es l (i + 1) h3
theorem under_int (w : World) : (underlying 3).run Tryz.prog w = .ok (.int .i64) w := by kernel_rfl
theorem find_int (r : Int) (w : World) (es : List MapEntry) (l : List (Int × Value)) (h : es.map (fun e => (e.key, e.val)) = l.map (fun x => (Value.int .i64 x.1, x.2))) :
    ∃ res : Option (Nat × Value), (Instr.findKey 3 (.int .i64 r) es).run Tryz.prog w = .ok res w ∧ res.map (·.2) = ilook l r := by
  obtain ⟨res, h1, h2⟩ := now_int r es l 0 h
  exact ⟨res, by simp [Instr.findKey, under_int w, h1, Result.andThen], h2⟩
theorem look_int (mt et : TypeId) (z : Value) (hu : ∀ W, (underlying mt).run Tryz.prog W = .ok (.map 3 et) W) (hz : ∀ W, (zeroValue et).run Tryz.prog W = .ok z W) (r : Int) (W : World) (b : Nat) (l : List (Int × Value)) (h : IMap W b l) :
    (Instr.lookup mt (.map (some b)) (.int .i64 r) false).run Tryz.prog W = .ok ((ilook l r).getD z) W := by
  obtain ⟨es, clock, hb, hl⟩ := h
  obtain ⟨res, h1, h2⟩ := find_int r W es.toList l hl
  have hk := fun em => check_int em r W
  cases hr : ilook l r with
  | none =>
    rw [hr] at h2
    cases res with
    | some x => simp at h2
    | none => simp [Instr.lookup, hu, hk, h1, MapKept.run_getObj_map hb, Result.andThen, hz]
  | some t =>
    rw [hr] at h2
    cases res with
    | none => simp at h2
    | some x =>
      obtain ⟨j, v⟩ := x
      simp only [Option.map_some, Option.some.injEq] at h2
      subst h2
      simp [Instr.lookup, hu, hk, h1, MapKept.run_getObj_map hb, Result.andThen]
theorem put_int (mt et : TypeId) (hu : ∀ W, (underlying mt).run Tryz.prog W = .ok (.map 3 et) W) (r : Int) (t : Value) (W : World) (b : Nat) (l : List (Int × Value)) (h : IMap W b l) (hn : ilook l r = none) :
    ∃ o, (Instr.mapUpdate mt (.map (some b)) (.int .i64 r) t).run Tryz.prog W = .ok () (W.putObj b o) ∧ IMap (W.putObj b o) b (l ++ [(r, t)]) := by
  obtain ⟨es, clock, hb, hl⟩ := h
  obtain ⟨res, h1, h2⟩ := find_int r W es.toList l hl
  have hk := fun em => check_int em r W
  rw [hn] at h2
  cases res with
  | some x => simp at h2
  | none =>
    refine ⟨.map (es.push { key := .int .i64 r, val := t, born := clock }) (clock + 1), ?_, ?_⟩
    · simp [Instr.mapUpdate, hu, hk, h1, MapKept.run_getObj_map hb, MapKept.run_setObj_map _ hb, Result.andThen]
      rfl
    · refine ⟨_, _, World.putObj_heap_same (lt_of_heap hb), ?_⟩
      simp [hl]
theorem ilook_append (l : List (Int × Value)) (x : Int) (t : Value) (r : Int) : ilook (l ++ [(x, t)]) r = match ilook l r with | some v => some v | none => if r = x then some t else none := by
  induction l with
  | nil => rfl
  | cons y l ih =>
    obtain ⟨k, v⟩ := y
    simp only [List.cons_append, ilook]
    split
    · rfl
    · exact ih
theorem Low.refl (B : Nat) (W : World) : Low B W W := ⟨rfl, rfl, rfl, Nat.le_refl _, fun _ _ _ => rfl⟩
theorem under_ib (W : World) : (underlying 108).run Tryz.prog W = .ok (.map 3 4) W := by kernel_rfl
theorem under_ii (W : World) : (underlying 76).run Tryz.prog W = .ok (.map 3 3) W := by kernel_rfl
theorem zero_b (W : World) : (zeroValue 4).run Tryz.prog W = .ok (.bool false) W := by kernel_rfl
theorem zero_i (W : World) : (zeroValue 3).run Tryz.prog W = .ok (.int .i64 0) W := by kernel_rfl
end Go.Proofs.YtdlhnpogddpmpaaGreat

namespace Go.Proofs.YtdlhnpogddpmpaaGreat
open Go.RowKit
attribute [local go_sem] Oper.semAt_some

/-- The map's entries are the marked ones. -/
def ISet (l : List (Int × Value)) (m : Nat → Bool) : Prop := ∀ k : Nat, ilook l k = if m k = true then some (.bool true) else none
def mapSize (W : World) (b : Nat) : Nat := match W.heap[b]? with | some (.map es _) => es.size | _ => 0
theorem IMap.size {W : World} {b : Nat} {l : List (Int × Value)} (h : IMap W b l) : mapSize W b = l.length := by
  obtain ⟨es, c, h1, h2⟩ := h
  unfold mapSize; rw [h1]
  have := congrArg List.length h2
  simpa using this
def sliceLen : Value → Nat
  | .slice _ n _ => n
  | _ => 0
theorem ISet.add {l : List (Int × Value)} {m : Nat → Bool} (h : ISet l m) {t : Nat} (ht : m t = false) : ISet (l ++ [((t : Int), .bool true)]) (setM m t) := by
  intro k
  rw [ilook_append, h k]
  unfold setM
  by_cases e : k = t
  · subst e; simp [ht]
  · have e2 : ¬ ((k : Int) = (t : Int)) := by omega
    simp only [e, e2, if_false]
    cases m k <;> simp
theorem cntM_add {m : Nat → Bool} {t : Nat} (h : m t = false) : ∀ n, t < n → cntM (setM m t) n = cntM m n + 1
  | 0, hn => by omega
  | n + 1, hn => by
    simp only [cntM]
    by_cases e : t = n
    · subst e
      have : ∀ k, k ≤ t → cntM (setM m t) k = cntM m k := by
        intro k
        induction k with
        | zero => intro _; rfl
        | succ k ih => intro hk; simp only [cntM]; rw [ih (by omega)]; simp [setM, show k ≠ t by omega]
      rw [this t (Nat.le_refl _)]
      simp [setM, h]
    · rw [cntM_add h n (by omega)]
      simp [setM, Ne.symm e]
      omega
/-- The search's state: marked m, waiting q, all others done. -/
structure Bfs (A : Adv) (m : Nat → Bool) (q : List Int) (l : List (Int × Value)) : Prop where
  mark : Mark A m
  set : ISet l m
  len : l.length = cntM m A.L
  qlen : q.length ≤ cntM m A.L
  mem : ∀ x ∈ q, ∃ s : Nat, x = s ∧ s < A.L ∧ m s = true
  done : ∀ s, s < A.L → m s = true → (s : Int) ∉ q → ∀ i, i < A.len s → m (A.mv s i).to.toNat = true
theorem Bfs.start {A : Adv} (hL : 0 < A.L) : Bfs A (setM (fun _ => false) 0) [0] [((0 : Nat), .bool true)] := by
  have hc : ∀ n, cntM (fun _ => false) n = 0 := by intro n; induction n with | zero => rfl | succ n ih => simp [cntM, ih]
  have hk : cntM (setM (fun _ => false) 0) A.L = 1 := by rw [cntM_add rfl _ hL, hc]
  refine ⟨⟨rfl, fun s hs => ?_⟩, ?_, by rw [hk]; rfl, by rw [hk]; exact Nat.le_refl _, fun x hx => ?_, fun s hs hm hn => ?_⟩
  · unfold setM at hs; split at hs
    · rename_i e; rw [e]; exact .zero
    · cases hs
  · have := ISet.add (l := []) (m := fun _ => false) (t := 0) (fun _ => by simp [ilook]) rfl
    simpa using this
  · simp at hx; exact ⟨0, by simpa using hx, hL, rfl⟩
  · unfold setM at hm; split at hm
    · rename_i e; subst e; simp at hn
    · cases hm
theorem Bfs.push {A : Adv} {m : Nat → Bool} {q : List Int} {l : List (Int × Value)} (h : Bfs A m q l) {s i t : Nat} (hs : s < A.L) (hi : i < A.len s) (hm : m s = true) (ht : (A.mv s i).to.toNat = t) (htL : t < A.L) (hn : m t = false) :
    Bfs A (setM m t) (q ++ [(t : Int)]) (l ++ [((t : Int), .bool true)]) := by
  have hc := cntM_add hn A.L htL
  refine ⟨by rw [← ht]; exact h.mark.set hs hi hm, h.set.add hn, by rw [hc, List.length_append, h.len]; rfl, by rw [hc, List.length_append]; have := h.qlen; simp; omega, fun x hx => ?_, fun s' hs' hm' hn' j hj => ?_⟩
  · rcases List.mem_append.1 hx with hx | hx
    · obtain ⟨k, h1, h2, h3⟩ := h.mem x hx; exact ⟨k, h1, h2, setM_mono _ _ _ h3⟩
    · simp at hx; exact ⟨t, hx, htL, by simp [setM]⟩
  · simp only [List.mem_append, List.mem_singleton, not_or] at hn'
    have hne : s' ≠ t := fun e => hn'.2 (by rw [e])
    have hm2 : m s' = true := by simpa [setM, hne] using hm'
    exact setM_mono _ _ _ (h.done s' hs' hm2 hn'.1 j hj)
theorem Bfs.pop {A : Adv} {m : Nat → Bool} {s : Nat} {q : List Int} {l : List (Int × Value)} (h : Bfs A m ((s : Int) :: q) l) (hd : ∀ i, i < A.len s → m (A.mv s i).to.toNat = true) : Bfs A m q l := by
  refine ⟨h.mark, h.set, h.len, by have := h.qlen; simp at this; omega, fun x hx => h.mem x (List.mem_cons_of_mem _ hx), fun s' hs' hm' hn' => ?_⟩
  by_cases e : s' = s
  · subst e; exact hd
  · exact h.done s' hs' hm' (by simp only [List.mem_cons, not_or]; exact ⟨fun h => e (by omega), hn'⟩)
theorem Bfs.all {A : Adv} {m : Nat → Bool} {l : List (Int × Value)} (h : Bfs A m [] l) : m = reachB A := h.mark.all fun s hs hm i hi => h.done s hs hm (by simp) i hi

/-- append, its run being known. -/
theorem wpList_append_run {P : Program} {ops : Array Oper} {rest : List Oper} {o : Oper} {a : Act} {w w' : World} {Q : Exit → Act → World → Prop} (hgd : o.guard = none) (s x : Operand) (t : TypeId)
    (ho : o.op = .call { callee := .builtin .append, args := #[s, x], argTypes := #[t, t] }) (v xs v' : Value) (hs : a.eval s = v) (hx : a.eval x = xs) (hr : ∀ ty, (Builtin.append_ #[t, t] ty #[v, xs]).run P w = .ok v' w')
    (h : wpList P ops Q rest (a.put o.dst v') w') : wpList P ops Q (o :: rest) a w := by
  refine wpList_plain hgd fun K hK => ?_
  unfold Oper.wp execOp
  simp only [ho, resolve, invoke, builtin, Sem.run_bind, Sem.run_pure, Result.andThen_ok, List.map_toArray, List.map_cons, List.map_nil, hs, hx, hr]
  exact hK _ _ h
theorem Que.tail {W : World} {base g off n cap : Nat} {x : Int} {q : List Int} (h : Que W base (.slice (some ⟨g, off, none⟩) n cap) (x :: q)) :
    Que W base (.slice (if cap = 1 then some ⟨g, off, none⟩ else some ⟨g, off + 1, none⟩) q.length (cap - 1)) q := by
  obtain ⟨g', off', cs, cap', h1, h2, h3, h4, h5, h6, h7⟩ := h
  simp only [Value.slice.injEq, Option.some.injEq, Addr.mk.injEq] at h1
  obtain ⟨⟨rfl, rfl, _⟩, _, rfl⟩ := h1
  simp only [List.length_cons] at h5
  by_cases e : cap = 1
  · subst e
    rw [if_pos rfl]
    have hq : q = [] := List.eq_nil_of_length_eq_zero (by omega)
    subst hq
    exact ⟨g, off, cs, 0, rfl, h2, h3, by omega, by simp, by unfold maxLen; omega, fun i y hy => by simp at hy⟩
  · rw [if_neg e]
    exact ⟨g, off + 1, cs, cap - 1, rfl, h2, h3, by omega, by omega, by omega, fun i y hy => by have := h7 (i + 1) y (by simpa using hy); rw [show off + 1 + i = off + (i + 1) by omega]; exact this⟩

set_option maxRecDepth 8000 in
set_option maxHeartbeats 4000000 in
theorem reached_any (A : Adv) (v : Value) (w : World) (hA : AdvRep w v A) (h0 : achk A = 0) :
    Calls Tryz.prog 47 #[v] w (RetV (fun u w' => Own icells 1 w' w.heap.size 3 u (reachP A A.L)) w) := by
  obtain ⟨p, c, rfl, hc, hl, hat⟩ := hA.all_
  have HAT := hide hat
  clear hA hat
  obtain ⟨hn1, hn2, hL1, hL2, hmv, hst, _⟩ := achk_zero h0
  have HS := hide (sound_of hst)
  clear hst h0
  have hmm := @run_makeMap Tryz.prog
  obtain ⟨wm, hwm⟩ : ∃ wm, (w.alloc (.cells #[.int .i64 A.n, .slice p A.L c] 26)).alloc (.map #[] 0) = wm := ⟨_, rfl⟩
  have himm : IMap wm (w.heap.size + 1) [] := by
    rw [← hwm]; have := IMap.new (w.alloc (.cells #[.int .i64 A.n, .slice p A.L c] 26)); rwa [World.size_alloc] at this
  obtain ⟨o1, hput1, him1⟩ := put_int 108 4 under_ib 0 (.bool true) wm (w.heap.size + 1) [] himm rfl
  have hE1 : Ext w (wm.putObj (w.heap.size + 1) o1) := by rw [← hwm]; exact (((Ext.refl w).alloc _).alloc _).putObj (by omega) _
  have ha1 : (wm.putObj (w.heap.size + 1) o1).cell? ⟨w.heap.size, 1, none⟩ = some (.slice p A.L c) := by
    rw [World.cell?_of_block (World.putObj_heap_other (by show w.heap.size ≠ w.heap.size + 1; omega)), ← hwm, cell_alloc_old _ (by simp), cell_new]; rfl
  have hz1 : (wm.putObj (w.heap.size + 1) o1).heap.size = w.heap.size + 2 := by rw [putsize, ← hwm]; simp
  go_enter Tryz.func47, Tryz.ntmps47
  go_wp2_with fail
  obtain ⟨w2, hw2⟩ : ∃ w2, wm.putObj (w.heap.size + 1) o1 = w2 := ⟨_, rfl⟩
  rw [hw2] at hE1 ha1 hz1 him1
  simp only [hw2]
  clear hw2 hput1 himm
  obtain ⟨W0, hW0⟩ : ∃ W0, w2.alloc (.cells #[.int .i64 0] 3) = W0 := ⟨_, rfl⟩
  have hE0 : Ext w W0 := by rw [← hW0]; exact hE1.alloc _
  have ha0 : W0.cell? ⟨w.heap.size, 1, none⟩ = some (.slice p A.L c) := by rw [← hW0, cell_alloc_old _ (by rw [hz1]; show w.heap.size < _; omega)]; exact ha1
  have hm0 : IMap W0 (w.heap.size + 1) [(((0 : Nat) : Int), .bool true)] := him1.of_block (by rw [← hW0, Below.heap_alloc _ _ _ (by omega)])
  have hq0 : Que W0 (w.heap.size + 2) (.slice (some ⟨w.heap.size + 2, 0, none⟩) 1 1) [0] := by
    refine ⟨w.heap.size + 2, 0, #[.int .i64 0], 1, rfl, Nat.le_refl _, ?_, by simp, by simp, by unfold maxLen; omega, fun i x hx => ?_⟩
    · rw [← hW0, ← hz1]; exact heap_alloc_new w2 _
    · cases i with
      | zero => simp at hx; subst hx; rfl
      | succ i => simp at hx
  have hs0 : w.heap.size + 2 ≤ W0.heap.size := by rw [← hW0]; simp; omega
  rw [hW0]
  clear hW0 hE1 ha1 him1 hz1 w2
  go_loopw [4] (fun u wr => ∃ m q l, Bfs A m q l ∧ Ext w wr ∧ wr.cell? ⟨w.heap.size, 1, none⟩ = some (.slice p A.L c) ∧ IMap wr (w.heap.size + 1) l ∧ Que wr (w.heap.size + 2) u q ∧ w.heap.size + 2 ≤ wr.heap.size) (fun u wr => 2 * (A.L - mapSize wr (w.heap.size + 1)) + sliceLen u)
  case atStart => exact ⟨_, _, _, Bfs.start (by omega), hE0, ha0, hm0, hq0, hs0⟩
  case round =>
    clear hE0 ha0 hm0 hq0 hs0 W0
    obtain ⟨m, q, l, hB, hE, ha, hm, hq, hsz⟩ := hrel
    have hmsz := hm.size
    obtain ⟨g, off, cs, cap, rfl, hg, hrow, hcs, hcap, hmax, hat⟩ := hq
    have HB := hide hB
    have HM := hide hm
    have HSZ := hide hmsz
    clear hB hm hmsz
    cases q with
    | nil =>
      dsimp only [List.length_nil]
      have HROW := hide (And.intro hg hrow)
      clear hrow hat hg
      have hmB : m = reachB A := HB.out.all
      have hlk : ∀ W, Ext wr W → ∀ k : Nat, (Instr.lookup 108 (.map (some (w.heap.size + 1))) (.int .i64 k) false).run Tryz.prog W = .ok (.bool (reachB A k)) W := fun W hE k => by
        have h1 := look_int 108 4 (.bool false) under_ib zero_b k W _ _ (HM.out.of_block (hE.b.block _ HM.out.lt))
        rw [HB.out.set k, hmB] at h1
        rw [h1]; cases reachB A k <;> rfl
      have HLK := hide hlk
      clear hmB hlk
      go_wp2_with fail
      obtain ⟨wo, rfl⟩ : ∃ wo : World, wo = wr := ⟨_, rfl⟩
      go_loopw [7, 46] (fun u x wr => ∃ k : Nat, k ≤ A.L ∧ x = .int .i64 k ∧ Own icells 1 wr wo.heap.size 3 u (reachP A k) ∧ Ext wo wr) (fun _ x _ => A.L - (intOf x).toNat)
      case atStart => exact ⟨0, by omega, rfl, Own.nil _ _ _ (fun _ => rfl), Ext.refl _⟩
      case round =>
        obtain ⟨k, hk, rfl, hown, hEk⟩ := hrel
        have hzr := hEk.size
        by_cases hlt : k < A.L
        · have hcs := fun W (hE : Ext wr W) => HLK.out W (hEk.trans hE) k
          have hlen := reachP_len A k
          cases hb : reachB A k with
          | true =>
            rw [hb] at hcs
            have HB := hide hb
            clear hb
            go_wp2_with (at_builtin; refine wpList_append1 rfl (.tmp 52) (.tmp 54) 48 rfl wo.heap.size 3 (.int .i64 0) 1 8 Tryz.underlying48 int_info rfl (by decide) _ (reachP A k) (k : Int) wr.heap.size rfl (hown.alloc _) rfl (cell_new1 _ _ _) (by simp [Value.oneCell']) (by omega) (by decide) (by simp; omega) ?_; intro v' w' hown' hg hform)
            have hE2 := hEk.appended hown hg
            go_roundw
            case rel => exact ⟨k + 1, by omega, by go_num, by rw [reachP_yes HB.out]; exact hown', hE2⟩
            case measure => simp [intOf]; omega
          | false =>
            rw [hb] at hcs
            have HB := hide hb
            have HO := hide hown
            clear hb hown
            go_wp2_with fail
            go_roundw
            case rel => exact ⟨k + 1, by omega, by go_num, by rw [reachP_no HB.out]; exact HO.out, hEk⟩
            case measure => simp [intOf]; omega
        · obtain rfl : k = A.L := by omega
          have HO := hide hown
          clear hown
          go_wp2_with fail
          go_ret
          exact ⟨_, rfl, HO.out.mono hE.size, hE.trans hEk⟩
    | cons x q =>
      obtain ⟨s, rfl, hsL, hms⟩ := HB.out.mem x (by simp)
      obtain ⟨b, o, rfl, hb, hAt⟩ := HAT.out (by omega)
      obtain ⟨qa, d, hcl, hld, hml, _, hmv⟩ := hAt s hsL
      have HMV := hide hmv
      have hc0 : ∀ W, Ext wr W → W.cell? ⟨g, off, none⟩ = some (.int .i64 s) := fun W hE => by
        rw [hE.cell (lt_of_heap hrow), cell_of_row _ _ _ _ _ _ hrow]; exact hat 0 _ rfl
      have hca : ∀ W, Ext wr W → W.cell? ⟨w.heap.size, 1, none⟩ = some (.slice (some ⟨b, o, none⟩) A.L c) := fun W hE => (hE.cell (by show w.heap.size < _; omega)).trans ha
      have HQ := hide (show Que wr (w.heap.size + 2) (.slice (some ⟨g, off, none⟩) ((s : Int) :: q).length cap) ((s : Int) :: q) from ⟨g, off, cs, cap, rfl, hg, hrow, hcs, hcap, hmax, hat⟩)
      have hql : ((s : Int) :: q).length = q.length + 1 := rfl
      have hqb : q.length + 1 ≤ 256 := by have h1 := HB.out.qlen; have h2 := cntM_le m A.L; simp at h1; omega
      clear hAt hmv hat hrow hg hcs
      have HA := hide ha
      clear ha
      rw [List.length_cons] at hcap ⊢
      go_wp2_with fail
      refine wp_region_ext (by kernel_rfl) (by kernel_rfl) ?_
      repeat (go_big_quiet_step (fail))
      refine wpQuiet_nil ?_
      rintro w9 ⟨⟨_, hE9⟩, rfl⟩
      have hE9w := hE.trans hE9
      have ha9 := hca w9 hE9
      have hm9 : IMap w9 (w.heap.size + 1) l := HM.out.of_block (hE9.b.block _ HM.out.lt)
      have hq9 := HQ.out.block (W' := w9) (fun k _ hk => hE9.b.block k hk)
      have hs9 : w.heap.size + 2 ≤ w9.heap.size := by have := hE9.size; omega
      clear hc0 hca hcl
      go_wp2_with fail
      obtain ⟨wo, rfl⟩ : ∃ wo : World, wo = wr := ⟨_, rfl⟩
      go_loopw [4, 25] (fun u y wr => ∃ (i : Nat) (m' : Nat → Bool) (q' : List Int) (l' : List (Int × Value)), i ≤ A.len s ∧ y = .int .i64 i ∧ Bfs A m' ((s : Int) :: q') l' ∧ m' s = true ∧ 2 * (A.L - cntM m' A.L) + q'.length ≤ 2 * (A.L - cntM m A.L) + q.length ∧ (∀ i', i' < i → m' (A.mv s i').to.toNat = true) ∧
          Ext w wr ∧ wr.cell? ⟨w.heap.size, 1, none⟩ = some (.slice (some ⟨b, o, none⟩) A.L c) ∧ IMap wr (w.heap.size + 1) l' ∧ Que wr (w.heap.size + 2) u ((s : Int) :: q') ∧ w.heap.size + 2 ≤ wr.heap.size) (fun _ y _ => A.len s - (intOf y).toNat)
      case atStart => exact ⟨0, m, q, l, by omega, rfl, HB.out, hms, Nat.le_refl _, fun i' hi' => by omega, hE9w, ha9, hm9, hq9, hs9⟩
      case round =>
        clear hE9w ha9 hm9 hq9 hs9 hE9 w9 hE hsz hcap
        obtain ⟨i, m', q', l', hi, rfl, hB, hms', hme, hds, hE, ha, hm, hq, hsz⟩ := hrel
        have HB2 := hide hB
        have HM2 := hide hm
        have HQ2 := hide hq
        have HME := hide hme
        have HDS := hide hds
        have HMS := hide hms'
        clear hB hm hme hds hms'
        obtain ⟨g2, off2, cs2, cap2, rfl, _, _, _, hcap2, _, _⟩ := hq
        have hqb2 : q'.length + 1 ≤ 256 := by have h1 := HB2.out.qlen; have h2 := cntM_le m' A.L; simp at h1; omega
        by_cases hli : i < A.len s
        · obtain ⟨b2, o2, rfl, hb2, hmat⟩ := HMV.out (by omega)
          have hx := hmat i hli
          obtain ⟨ht0, ht1, _, _⟩ := HS.out s hsL i hli
          obtain ⟨mvv, hmvv⟩ : ∃ mm, A.mv s i = mm := ⟨_, rfl⟩
          have HMVV := hide hmvv
          rw [hmvv] at hx ht0 ht1
          clear hmat hmvv
          obtain ⟨⟨⟨n1, a1, b1, c1, d1, e1⟩, f1⟩, t1⟩ := mvv
          obtain ⟨t, ht⟩ := Int.eq_ofNat_of_zero_le ht0
          dsimp only at ht ht1
          subst ht
          obtain ⟨x0, x1, x2, x3, x4, x5, x6, x7⟩ := hx
          dsimp only at x0 x1 x2 x3 x4 x5 x6 x7
          have htL : t < A.L := by omega
          have htt : (A.mv s i).to.toNat = t := by rw [HMVV.out]; rfl
          have HTT := hide htt
          clear htt ht0 ht1
          have hlk : ∀ W, Ext wr W → (Instr.lookup 108 (.map (some (w.heap.size + 1))) (.int .i64 t) false).run Tryz.prog W = .ok (.bool (m' t)) W := fun W hE => by
            have h1 := look_int 108 4 (.bool false) under_ib zero_b t W _ _ (HM2.out.of_block (hE.b.block _ HM2.out.lt))
            rw [HB2.out.set t] at h1
            rw [h1]; cases m' t <;> rfl
          have hEm : Ext wr (wr.alloc (.cells #[.int .i64 n1, .int .i64 a1, .int .i64 b1, .int .i64 c1, .int .i64 d1, .int .i64 e1, .int .i64 f1, .int .i64 t] 56)) := (Ext.refl _).alloc _
          cases hmt : m' t with
          | true =>
            rw [hmt] at hlk
            have HMT := hide hmt
            clear hmt
            go_wp2_with fail
            refine ⟨⟨i + 1, m', q', l', by omega, by simp, HB2.out, HMS.out, HME.out, fun i' hi' => ?_, hE.alloc _, ?_, HM2.out.of_block (Below.heap_alloc _ _ _ HM2.out.lt), HQ2.out.block (fun k _ hk => Below.heap_alloc _ _ _ hk), by simp; omega⟩, by simp [intOf]; try omega⟩
            · rcases Nat.lt_or_ge i' i with h7 | h7
              · exact HDS.out i' h7
              · obtain rfl : i' = i := by omega
                rw [HTT.out]; exact HMT.out
            · rw [cell_alloc_old _ (by show w.heap.size < _; omega)]; exact ha
          | false =>
            rw [hmt] at hlk
            have HMT := hide hmt
            clear hmt
            obtain ⟨o5, hput, him5⟩ := put_int 108 4 under_ib t (.bool true) (wr.alloc (.cells #[.int .i64 n1, .int .i64 a1, .int .i64 b1, .int .i64 c1, .int .i64 d1, .int .i64 e1, .int .i64 f1, .int .i64 t] 56)) (w.heap.size + 1) l' (HM2.out.of_block (Below.heap_alloc _ _ _ HM2.out.lt)) (by rw [HB2.out.set t, HMT.out]; rfl)
            obtain ⟨W6, hW6⟩ : ∃ W6, (wr.alloc (.cells #[.int .i64 n1, .int .i64 a1, .int .i64 b1, .int .i64 c1, .int .i64 d1, .int .i64 e1, .int .i64 f1, .int .i64 t] 56)).putObj (w.heap.size + 1) o5 = W6 := ⟨_, rfl⟩
            have hb6 : ∀ k, k ≠ w.heap.size + 1 → k < wr.heap.size → W6.heap[k]? = wr.heap[k]? := fun k h1 h2 => by rw [← hW6, World.putObj_heap_other h1, Below.heap_alloc _ _ _ h2]
            have hz6 : W6.heap.size = wr.heap.size + 1 := by rw [← hW6, putsize]; simp
            have hE6 : Ext w W6 := by rw [← hW6]; exact (hE.alloc _).putObj (by omega) _
            have hto : W6.cell? ⟨wr.heap.size, 7, none⟩ = some (.int .i64 t) := by
              rw [← hW6, World.cell?_of_block (World.putObj_heap_other (by show wr.heap.size ≠ _; omega)), cell_new]; rfl
            rw [hW6] at hput him5
            have HZ6 := hide hz6
            have HB6 := hide hb6
            have HM6 := hide him5
            have HE6 := hide hE6
            have hq7 : Que (W6.alloc (.cells #[.int .i64 t] 3)) (w.heap.size + 2) (.slice (some ⟨g2, off2, none⟩) ((s : Int) :: q').length cap2) ((s : Int) :: q') :=
              HQ2.out.block (fun k h1 h2 => by rw [Below.heap_alloc _ _ _ (by omega)]; exact hb6 k (by omega) h2)
            obtain ⟨g3, off3, cap3, W8, hrun, hq8, hlow⟩ := que_append hq7 W6.heap.size t (by rw [cell_new]; rfl) (by simp; omega) (by simp; omega)
            have HQ8 := hide hq8
            have HL8 := hide hlow
            clear hW6 hz6 hb6 him5 hE6 hq7 hq8 hlow
            rw [List.length_cons] at hrun hcap2 ⊢
            have HRUN := hide hrun
            clear hrun
            go_wp2_with (at_builtin; refine wpList_append_run rfl (.tmp 37) (.tmp 40) 48 rfl _ _ _ rfl rfl HRUN.out ?_)
            have hq8 := HQ8.out
            have hlow := HL8.out
            have hz6 := HZ6.out
            have hz8 : w.heap.size + 2 ≤ W8.heap.size := by have := hlow.size; simp at this; omega
            have hb8 : ∀ k, k < w.heap.size + 2 → W8.heap[k]? = W6.heap[k]? := fun k hk => by rw [hlow.low k hk (by simp; omega), Below.heap_alloc _ _ _ (by omega)]
            have hBp := HB2.out.push hsL hli HMS.out HTT.out htL HMT.out
            have hcnt := cntM_add HMT.out A.L htL
            have hcle := cntM_le (setM m' t) A.L
            have hme := HME.out
            refine ⟨⟨i + 1, setM m' t, q' ++ [(t : Int)], _, by omega, by simp, hBp, setM_mono _ _ _ HMS.out, by rw [hcnt, List.length_append]; simp; omega, fun i' hi' => ?_, (HE6.out.alloc _).low hlow (by omega), ?_, HM6.out.of_block (hb8 _ (by omega)), hq8, hz8⟩, by simp [intOf]; try omega⟩
            · rcases Nat.lt_or_ge i' i with h7 | h7
              · exact setM_mono _ _ _ (HDS.out i' h7)
              · obtain rfl : i' = i := by omega
                rw [HTT.out]; simp [setM]
            · rw [World.cell?_of_block (hb8 _ (by show w.heap.size < _; omega)), World.cell?_of_block (HB6.out _ (by show w.heap.size ≠ _; omega) (by show w.heap.size < _; omega))]; exact ha
        · obtain rfl : i = A.len s := by omega
          rw [List.length_cons] at hcap2 ⊢
          go_wp2_with fail
          have h1 := HSZ.out
          have h2 := HM2.out.size
          have h3 := HB2.out.len
          have h4 := HB.out.len
          have h5 := HME.out
          exact ⟨⟨m', q', l', HB2.out.pop HDS.out, hE, ha, HM2.out, HQ2.out.tail, hsz⟩, by rw [h1, h2, h3, h4]; simp only [sliceLen]; omega⟩
end Go.Proofs.YtdlhnpogddpmpaaGreat

namespace Go.Proofs.YtdlhnpogddpmpaaGreat
open Go.RowKit
attribute [local go_sem] Oper.semAt_some

end Go.Proofs.YtdlhnpogddpmpaaGreat
