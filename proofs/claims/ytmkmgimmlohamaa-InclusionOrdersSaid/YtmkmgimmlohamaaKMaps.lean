/-
  Maps by keys of any kind: look up, put (a new key or an old one), length.
  Conditions: none.
-/
import Derived.Test.YtmkmgimmlohamaaOwned
import Derived.Maps.OwnSet
namespace Go.Proofs.Ytmkmgimmlohamaa
open Go.RowKit
attribute [local go_sem] Oper.semAt_some

def kfind {κ : Type} [DecidableEq κ] : List (κ × Value) → κ → Nat → Option (Nat × Value)
  | [], _, _ => none
  | (x, t) :: l, r, i => if r = x then some (i, t) else kfind l r (i + 1)
def klook {κ : Type} [DecidableEq κ] : List (κ × Value) → κ → Option Value
  | [], _ => none
  | (x, t) :: l, r => if r = x then some t else klook l r
def kput {κ : Type} [DecidableEq κ] : List (κ × Value) → κ → Value → List (κ × Value)
  | [], r, t => [(r, t)]
  | (x, u) :: l, r, t => if r = x then (r, t) :: l else (x, u) :: kput l r t
theorem kfind_look {κ : Type} [DecidableEq κ] : ∀ (l : List (κ × Value)) (r : κ) (i : Nat), (kfind l r i).map (·.2) = klook l r
  | [], _, _ => rfl
  | (x, t) :: l, r, i => by
    simp only [kfind, klook]
    split
    · rfl
    · exact kfind_look l r (i + 1)
theorem kput_new {κ : Type} [DecidableEq κ] : ∀ (l : List (κ × Value)) (r : κ) (t : Value), klook l r = none → kput l r t = l ++ [(r, t)]
  | [], _, _, _ => rfl
  | (x, u) :: l, r, t, h => by
    simp only [klook, kput] at h ⊢
    split at h
    · cases h
    · rename_i hr
      rw [if_neg hr, kput_new l r t h]; rfl
theorem kfind_some {κ : Type} [DecidableEq κ] : ∀ (l : List (κ × Value)) (r : κ) (i j : Nat) (v : Value), kfind l r i = some (j, v) → i ≤ j ∧ l[j - i]? = some (r, v) ∧ ∀ t, kput l r t = l.set (j - i) (r, t)
  | [], _, _, _, _, h => by cases h
  | (x, u) :: l, r, i, j, v, h => by
    simp only [kfind] at h
    split at h
    · rename_i hr
      cases h
      subst hr
      simp [kput]
    · rename_i hr
      obtain ⟨h1, h2, h3⟩ := kfind_some l r (i + 1) j v h
      have e : j - i = (j - (i + 1)) + 1 := by omega
      refine ⟨by omega, by rw [e]; simpa using h2, fun t => ?_⟩
      rw [e, kput, if_neg hr, h3 t]
      rfl
theorem klook_put {κ : Type} [DecidableEq κ] : ∀ (l : List (κ × Value)) (r : κ) (t : Value) (q : κ), klook (kput l r t) q = if q = r then some t else klook l q
  | [], r, t, q => by simp only [kput, klook]
  | (x, u) :: l, r, t, q => by
    simp only [kput]
    split
    · rename_i hr
      subst hr
      simp only [klook]
      split <;> rfl
    · rename_i hr
      simp only [klook, klook_put l r t q]
      split
      · rename_i hq
        rw [if_neg (by rw [hq]; exact fun h => hr h.symm)]
      · rfl
/-- Keys of a type. -/
structure KeyOk (kt : TypeId) {κ : Type} [DecidableEq κ] (enc : κ → Value) : Prop where
  check : ∀ em r (w : World), (Instr.checkKey em 10000 kt (enc r)).run Try.prog w = .ok () w
  find : ∀ (r : κ) (w : World) (es : List MapEntry) (l : List (κ × Value)), es.map (fun e => (e.key, e.val)) = l.map (fun x => (enc x.1, x.2)) →
    (Instr.findKey kt (enc r) es).run Try.prog w = .ok (kfind l r 0) w
  bits : ∀ r, Instr.sameBits 10000 (enc r) (enc r) = true
/-- Block b is a map with these entries. -/
def KM {κ : Type} (enc : κ → Value) (W : World) (b : Nat) (l : List (κ × Value)) : Prop :=
  ∃ es clock, W.heap[b]? = some (.map es clock) ∧ es.toList.map (fun e => (e.key, e.val)) = l.map fun x => (enc x.1, x.2)
theorem KM.lt {κ : Type} {enc : κ → Value} {W : World} {b : Nat} {l : List (κ × Value)} (h : KM enc W b l) : b < W.heap.size := by obtain ⟨_, _, h, _⟩ := h; exact lt_of_heap h
theorem KM.of_block {κ : Type} {enc : κ → Value} {W W' : World} {b : Nat} {l : List (κ × Value)} (h : KM enc W b l) (hb : W'.heap[b]? = W.heap[b]?) : KM enc W' b l := by
  obtain ⟨es, c, h1, h2⟩ := h; exact ⟨es, c, hb.trans h1, h2⟩
theorem KM.new {κ : Type} (enc : κ → Value) (W : World) : KM enc (W.alloc (.map #[] 0)) W.heap.size [] := ⟨#[], 0, World.alloc_heap_new _ _, rfl⟩
theorem KM.ext {κ : Type} {enc : κ → Value} {W W' : World} {b : Nat} {l : List (κ × Value)} (h : KM enc W b l) (hE : Ext W W') : KM enc W' b l := h.of_block (hE.b.block _ h.lt)
theorem KM.setCell {κ : Type} {enc : κ → Value} {W : World} {b : Nat} {l : List (κ × Value)} (h : KM enc W b l) (a : Addr) (v : Value) : KM enc (W.setCell a v) b l := by
  obtain ⟨es, c, h1, h2⟩ := h
  refine ⟨es, c, ?_, h2⟩
  by_cases hk : b = a.block
  · subst hk
    simp only [World.setCell, Array.getElem?_modify, h1]
    simp
  · rw [Below.heap_setCell _ _ _ _ hk]; exact h1
theorem KM.look {κ : Type} [DecidableEq κ] {enc : κ → Value} {kt mt et : TypeId} (K : KeyOk kt enc) {z : Value} (hu : ∀ W, (underlying mt).run Try.prog W = .ok (.map kt et) W) (hz : ∀ W, (zeroValue et).run Try.prog W = .ok z W)
    {W : World} {b : Nat} {l : List (κ × Value)} (h : KM enc W b l) (r : κ) :
    (Instr.lookup mt (.map (some b)) (enc r) false).run Try.prog W = .ok ((klook l r).getD z) W := by
  obtain ⟨es, clock, hb, hl⟩ := h
  have h1 := K.find r W es.toList l hl
  have h2 := kfind_look l r 0
  have hk := fun em => K.check em r W
  cases hr : kfind l r 0 with
  | none =>
    rw [hr] at h1 h2
    rw [← h2]
    simp [Instr.lookup, hu, hk, h1, MapKept.run_getObj_map hb, Result.andThen, hz]
  | some x =>
    obtain ⟨j, v⟩ := x
    rw [hr] at h1 h2
    rw [← h2]
    simp [Instr.lookup, hu, hk, h1, MapKept.run_getObj_map hb, Result.andThen]
theorem KM.put {κ : Type} [DecidableEq κ] {enc : κ → Value} {kt mt et : TypeId} (K : KeyOk kt enc) (hu : ∀ W, (underlying mt).run Try.prog W = .ok (.map kt et) W) {W : World} {b : Nat} {l : List (κ × Value)} (h : KM enc W b l) (r : κ) (t : Value) :
    ∃ o, (∃ es c, o = .map es c) ∧ (Instr.mapUpdate mt (.map (some b)) (enc r) t).run Try.prog W = .ok () (W.putObj b o) ∧ KM enc (W.putObj b o) b (kput l r t) := by
  obtain ⟨es, clock, hb, hl⟩ := h
  have h1 := K.find r W es.toList l hl
  have h2 := kfind_look l r 0
  have hk := fun em => K.check em r W
  cases hr : kfind l r 0 with
  | none =>
    rw [hr] at h1 h2
    refine ⟨.map (es.push { key := enc r, val := t, born := clock }) (clock + 1), ⟨_, _, rfl⟩, ?_, ?_⟩
    · simp [Instr.mapUpdate, hu, hk, h1, MapKept.run_getObj_map hb, MapKept.run_setObj_map _ hb, Result.andThen]
      rfl
    · refine ⟨_, _, World.putObj_heap_same (lt_of_heap hb), ?_⟩
      rw [kput_new l r t h2.symm]
      simp [hl]
  | some x =>
    obtain ⟨j, v⟩ := x
    rw [hr] at h1
    obtain ⟨_, h4, h5⟩ := kfind_some l r 0 j v hr
    rw [Nat.sub_zero] at h4 h5
    have hj : (es.toList.map (fun e => (e.key, e.val)))[j]? = some (enc r, v) := by rw [hl, List.getElem?_map, h4]; rfl
    rw [List.getElem?_map] at hj
    obtain ⟨e, he, hev⟩ := Option.map_eq_some_iff.1 hj
    have hkey : e.key = enc r := congrArg Prod.fst hev
    have heA : es[j]? = some e := by rw [← Array.getElem?_toList]; exact he
    have hstay : (Instr.keyThatStays (((es[j]?).map (·.key)).getD (enc r)) (enc r)).run Try.prog W = .ok (enc r) W := by
      rw [heA]
      simp only [Option.map_some, Option.getD_some, hkey, Instr.keyThatStays, K.bits r, if_true]
      rfl
    refine ⟨.map (es.modify j fun e => { e with key := enc r, val := t }) clock, ⟨_, _, rfl⟩, ?_, ?_⟩
    · simp [Instr.mapUpdate, hu, hk, h1, MapKept.run_getObj_map hb, MapKept.run_setObj_map _ hb, Result.andThen, hstay]
      rfl
    · refine ⟨_, _, World.putObj_heap_same (lt_of_heap hb), ?_⟩
      rw [h5 t]
      apply List.ext_getElem?
      intro i
      have hi : (es.toList.map (fun e => (e.key, e.val)))[i]? = (l.map fun x => (enc x.1, x.2))[i]? := by rw [hl]
      rw [List.getElem?_map, List.getElem?_map] at hi ⊢
      rw [Array.getElem?_toList, Array.getElem?_modify, List.getElem?_set]
      rw [Array.getElem?_toList] at hi
      by_cases hij : j = i
      · subst hij
        rw [heA] at hi
        have hlt : j < l.length := by
          rcases Nat.lt_or_ge j l.length with h | h
          · exact h
          · rw [List.getElem?_eq_none h] at h4; cases h4
        simp [heA, hlt]
      · simp [hij, hi]
theorem KM.len {κ : Type} {enc : κ → Value} {mt kt et : TypeId} (hu : ∀ W, (underlying mt).run Try.prog W = .ok (.map kt et) W) {W : World} {b : Nat} {l : List (κ × Value)} (h : KM enc W b l) (ty : TypeId) :
    (Builtin.len_ #[mt] ty #[.map (some b)]).run Try.prog W = .ok (.int .i64 l.length) W := by
  obtain ⟨es, clock, hb, hl⟩ := h
  have e : es.size = l.length := by
    have := congrArg List.length hl
    simpa using this
  simp [Builtin.len_, hu, MapKept.run_getObj_map hb, goInt, Result.andThen, e]
def ienc (x : Int) : Value := .int .i64 x
theorem ikey_now (r : Int) : ∀ (es : List MapEntry) (l : List (Int × Value)) (i : Nat), es.map (fun e => (e.key, e.val)) = l.map (fun x => (ienc x.1, x.2)) →
    Instr.findNow (.int .i64) (ienc r) es i = some (kfind l r i)
  | [], [], i, _ => rfl
  | [], _ :: _, i, h => by simp at h
  | _ :: _, [], i, h => by simp at h
  | e :: es, (x, t) :: l, i, h => by
    simp only [List.map_cons, List.cons.injEq, Prod.mk.injEq] at h
    obtain ⟨⟨h1, h2⟩, h3⟩ := h
    have h1' : e.key = Value.int .i64 x := h1
    have ih := ikey_now r es l (i + 1) h3
    unfold ienc at ih ⊢
    simp only [Instr.findNow, h1', Instr.sameNow, if_true, kfind]
    by_cases hr : r = x
    · subst hr
      simp [h2]
    · have : (r == x) = false := by simpa using hr
      rw [this, if_neg hr]
      exact ih
theorem ikey_ok : KeyOk 3 ienc where
  check em r w := by unfold ienc; kernel_rfl
  find r w es l h := by
    have h1 := ikey_now r es l 0 h
    have h2 : (underlying 3).run Try.prog w = .ok (.int .i64) w := by kernel_rfl
    simp [Instr.findKey, h2, h1, Result.andThen]
  bits r := by unfold ienc Instr.sameBits; simp
def penc (x : Int × Int) : Value := .agg #[.int .i64 x.1, .int .i64 x.2]
theorem eq_arr2 (dd : Nat) (a b a' b' : Int) (w : World) :
    (Op.equalIn (dd + 1 + 1) 45 (.agg #[.int .i64 a, .int .i64 b]) (.agg #[.int .i64 a', .int .i64 b'])).run Try.prog w = .ok (a == a' && b == b') w := by
  have hs : (sizeOf 3).run Try.prog w = .ok 1 w := by kernel_rfl
  rw [Op.equalIn]
  simp only [Sem.run_bind, run_underlying Try.underlying45, Result.andThen_ok, hs]
  rw [Std.Legacy.Range.forIn_eq_forIn_range']
  simp only [Std.Legacy.Range.size, Nat.sub_zero, Nat.add_one_sub_one, Nat.div_one, Nat.reduceAdd, List.range', List.forIn_cons, List.forIn_nil, Sem.run_bind, Nat.mul_one]
  rw [part_int w _ 0 (.int .i64 a) rfl, Result.andThen_ok, part_int w _ 0 (.int .i64 a') rfl, Result.andThen_ok, eq_int, Result.andThen_ok]
  cases ha : a == a'
  · simp
  simp only [Bool.not_true, Bool.false_eq_true, if_false, Sem.run_pure, Result.andThen_ok, Sem.run_bind, Bool.true_and]
  rw [part_int w _ 1 (.int .i64 b) rfl, Result.andThen_ok, part_int w _ 1 (.int .i64 b') rfl, Result.andThen_ok, eq_int, Result.andThen_ok]
  cases hb : b == b'
  · simp
  simp
theorem pkey_ask (r : Int × Int) (w : World) : ∀ (es : List MapEntry) (l : List ((Int × Int) × Value)) (i : Nat), es.map (fun e => (e.key, e.val)) = l.map (fun x => (penc x.1, x.2)) →
    (Instr.findAsking 45 (penc r) es i).run Try.prog w = .ok (kfind l r i) w
  | [], [], i, _ => rfl
  | [], _ :: _, i, h => by simp at h
  | _ :: _, [], i, h => by simp at h
  | e :: es, (x, t) :: l, i, h => by
    simp only [List.map_cons, List.cons.injEq, Prod.mk.injEq] at h
    obtain ⟨⟨h1, h2⟩, h3⟩ := h
    have he : (Op.equal 45 (penc r) e.key).run Try.prog w = .ok (decide (r.1 = x.1) && decide (r.2 = x.2)) w := by
      rw [h1]
      obtain ⟨r1, r2⟩ := r
      obtain ⟨x1, x2⟩ := x
      have hk : (Op.equal 45 (penc (r1, r2)) (penc (x1, x2))).run Try.prog w = .ok (r1 == x1 && r2 == x2) w := eq_arr2 9998 _ _ _ _ w
      rw [hk]
      by_cases ha : r1 = x1 <;> by_cases hb : r2 = x2 <;> simp [ha, hb]
    have ih := pkey_ask r w es l (i + 1) h3
    simp only [Instr.findAsking, Sem.run_bind, he, Result.andThen, kfind]
    by_cases hr : r = x
    · subst hr
      simp [h2]
    · rw [if_neg hr]
      have : (decide (r.1 = x.1) && decide (r.2 = x.2)) = false := by
        rw [Bool.and_eq_false_iff, decide_eq_false_iff_not, decide_eq_false_iff_not]
        by_cases ha : r.1 = x.1
        · exact .inr fun hb => hr (Prod.ext ha hb)
        · exact .inl ha
      rw [this]
      exact ih
theorem pkey_ok : KeyOk 45 penc where
  check em r w := by unfold penc; kernel_rfl
  find r w es l h := by
    have h2 : (underlying 45).run Try.prog w = .ok (.array 2 3) w := by kernel_rfl
    cases es with
    | nil =>
      cases l with
      | nil => simp [Instr.findKey, h2, Instr.findNow, Result.andThen, kfind]
      | cons x l => simp at h
    | cons e es =>
      have h1 := pkey_ask r w (e :: es) l 0 h
      simp only [Instr.findKey, Sem.run_bind, h2, Result.andThen, Instr.findNow, Instr.sameNow]
      exact h1
  bits r := by unfold penc; simp [Instr.sameBits]
end Go.Proofs.Ytmkmgimmlohamaa
