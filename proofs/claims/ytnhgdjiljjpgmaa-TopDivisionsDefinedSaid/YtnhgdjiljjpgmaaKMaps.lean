/-
  A range over a map by any key: whichever entry comes next, it is one of those that are left.
  Conditions: none.
-/
import Derived.Test.YtnhgdjiljjpgmaaOwned
import Derived.Maps.OwnSet
import Derived.Maps.RangeWalk
namespace Go.Proofs.Ytnhgdjiljjpgmaa
open Go.RowKit
attribute [local go_sem] Oper.semAt_some

def kfind {κ : Type} [DecidableEq κ] : List (κ × Value) → κ → Nat → Option (Nat × Value)
  | [], _, _ => none
  | (x, t) :: l, r, i => if r = x then some (i, t) else kfind l r (i + 1)
def klook {κ : Type} [DecidableEq κ] : List (κ × Value) → κ → Option Value
  | [], _ => none
  | (x, t) :: l, r => if r = x then some t else klook l r
def kput {κ : Type} [DecidableEq κ] : List (κ × Value) → κ → Value → List (κ × Value)
  | [], r, t => [(r, t)]
  | (x, u) :: l, r, t => if r = x then (r, t) :: l else (x, u) :: kput l r t
theorem kfind_look {κ : Type} [DecidableEq κ] : ∀ (l : List (κ × Value)) (r : κ) (i : Nat), (kfind l r i).map (·.2) = klook l r
  | [], _, _ => rfl
  | (x, t) :: l, r, i => by
    simp only [kfind, klook]
    split
    · rfl
    · exact kfind_look l r (i + 1)
theorem kput_new {κ : Type} [DecidableEq κ] : ∀ (l : List (κ × Value)) (r : κ) (t : Value), klook l r = none → kput l r t = l ++ [(r, t)]
  | [], _, _, _ => rfl
  | (x, u) :: l, r, t, h => by
    simp only [klook, kput] at h ⊢
    split at h
    · cases h
    · rename_i hr
      rw [if_neg hr, kput_new l r t h]; rfl
theorem kfind_some {κ : Type} [DecidableEq κ] : ∀ (l : List (κ × Value)) (r : κ) (i j : Nat) (v : Value), kfind l r i = some (j, v) → i ≤ j ∧ l[j - i]? = some (r, v) ∧ ∀ t, kput l r t = l.set (j - i) (r, t)
  | [], _, _, _, _, h => by cases h
  | (x, u) :: l, r, i, j, v, h => by
    simp only [kfind] at h
    split at h
    · rename_i hr
      cases h
      subst hr
      simp [kput]
    · rename_i hr
      obtain ⟨h1, h2, h3⟩ := kfind_some l r (i + 1) j v h
      have e : j - i = (j - (i + 1)) + 1 := by omega
      refine ⟨by omega, by rw [e]; simpa using h2, fun t => ?_⟩
      rw [e, kput, if_neg hr, h3 t]
      rfl
theorem klook_put {κ : Type} [DecidableEq κ] : ∀ (l : List (κ × Value)) (r : κ) (t : Value) (q : κ), klook (kput l r t) q = if q = r then some t else klook l q
  | [], r, t, q => by simp only [kput, klook]
  | (x, u) :: l, r, t, q => by
    simp only [kput]
    split
    · rename_i hr
      subst hr
      simp only [klook]
      split <;> rfl
    · rename_i hr
      simp only [klook, klook_put l r t q]
      split
      · rename_i hq
        rw [if_neg (by rw [hq]; exact fun h => hr h.symm)]
      · rfl
/-- Keys of a type. -/
structure KeyOk (kt : TypeId) {κ : Type} [DecidableEq κ] (enc : κ → Value) : Prop where
  check : ∀ em r (w : World), (Instr.checkKey em 10000 kt (enc r)).run Try.prog w = .ok () w
  find : ∀ (r : κ) (w : World) (es : List MapEntry) (l : List (κ × Value)), es.map (fun e => (e.key, e.val)) = l.map (fun x => (enc x.1, x.2)) →
    (Instr.findKey kt (enc r) es).run Try.prog w = .ok (kfind l r 0) w
  bits : ∀ r, Instr.sameBits 10000 (enc r) (enc r) = true
/-- Block b is a map with these entries. -/
def KM {κ : Type} (enc : κ → Value) (W : World) (b : Nat) (l : List (κ × Value)) : Prop :=
  ∃ es clock, W.heap[b]? = some (.map es clock) ∧ es.toList.map (fun e => (e.key, e.val)) = l.map fun x => (enc x.1, x.2)
theorem KM.lt {κ : Type} {enc : κ → Value} {W : World} {b : Nat} {l : List (κ × Value)} (h : KM enc W b l) : b < W.heap.size := by obtain ⟨_, _, h, _⟩ := h; exact lt_of_heap h
theorem KM.of_block {κ : Type} {enc : κ → Value} {W W' : World} {b : Nat} {l : List (κ × Value)} (h : KM enc W b l) (hb : W'.heap[b]? = W.heap[b]?) : KM enc W' b l := by
  obtain ⟨es, c, h1, h2⟩ := h; exact ⟨es, c, hb.trans h1, h2⟩
theorem KM.new {κ : Type} (enc : κ → Value) (W : World) : KM enc (W.alloc (.map #[] 0)) W.heap.size [] := ⟨#[], 0, World.alloc_heap_new _ _, rfl⟩
theorem KM.ext {κ : Type} {enc : κ → Value} {W W' : World} {b : Nat} {l : List (κ × Value)} (h : KM enc W b l) (hE : Ext W W') : KM enc W' b l := h.of_block (hE.b.block _ h.lt)
theorem KM.setCell {κ : Type} {enc : κ → Value} {W : World} {b : Nat} {l : List (κ × Value)} (h : KM enc W b l) (a : Addr) (v : Value) : KM enc (W.setCell a v) b l := by
  obtain ⟨es, c, h1, h2⟩ := h
  refine ⟨es, c, ?_, h2⟩
  by_cases hk : b = a.block
  · subst hk
    simp only [World.setCell, Array.getElem?_modify, h1]
    simp
  · rw [Below.heap_setCell _ _ _ _ hk]; exact h1
theorem KM.look {κ : Type} [DecidableEq κ] {enc : κ → Value} {kt mt et : TypeId} (K : KeyOk kt enc) {z : Value} (hu : ∀ W, (underlying mt).run Try.prog W = .ok (.map kt et) W) (hz : ∀ W, (zeroValue et).run Try.prog W = .ok z W)
    {W : World} {b : Nat} {l : List (κ × Value)} (h : KM enc W b l) (r : κ) :
    (Instr.lookup mt (.map (some b)) (enc r) false).run Try.prog W = .ok ((klook l r).getD z) W := by
  obtain ⟨es, clock, hb, hl⟩ := h
  have h1 := K.find r W es.toList l hl
  have h2 := kfind_look l r 0
  have hk := fun em => K.check em r W
  cases hr : kfind l r 0 with
  | none =>
    rw [hr] at h1 h2
    rw [← h2]
    simp [Instr.lookup, hu, hk, h1, MapKept.run_getObj_map hb, Result.andThen, hz]
  | some x =>
    obtain ⟨j, v⟩ := x
    rw [hr] at h1 h2
    rw [← h2]
    simp [Instr.lookup, hu, hk, h1, MapKept.run_getObj_map hb, Result.andThen]
theorem KM.put {κ : Type} [DecidableEq κ] {enc : κ → Value} {kt mt et : TypeId} (K : KeyOk kt enc) (hu : ∀ W, (underlying mt).run Try.prog W = .ok (.map kt et) W) {W : World} {b : Nat} {l : List (κ × Value)} (h : KM enc W b l) (r : κ) (t : Value) :
    ∃ o, (∃ es c, o = .map es c) ∧ (Instr.mapUpdate mt (.map (some b)) (enc r) t).run Try.prog W = .ok () (W.putObj b o) ∧ KM enc (W.putObj b o) b (kput l r t) := by
  obtain ⟨es, clock, hb, hl⟩ := h
  have h1 := K.find r W es.toList l hl
  have h2 := kfind_look l r 0
  have hk := fun em => K.check em r W
  cases hr : kfind l r 0 with
  | none =>
    rw [hr] at h1 h2
    refine ⟨.map (es.push { key := enc r, val := t, born := clock }) (clock + 1), ⟨_, _, rfl⟩, ?_, ?_⟩
    · simp [Instr.mapUpdate, hu, hk, h1, MapKept.run_getObj_map hb, MapKept.run_setObj_map _ hb, Result.andThen]
      rfl
    · refine ⟨_, _, World.putObj_heap_same (lt_of_heap hb), ?_⟩
      rw [kput_new l r t h2.symm]
      simp [hl]
  | some x =>
    obtain ⟨j, v⟩ := x
    rw [hr] at h1
    obtain ⟨_, h4, h5⟩ := kfind_some l r 0 j v hr
    rw [Nat.sub_zero] at h4 h5
    have hj : (es.toList.map (fun e => (e.key, e.val)))[j]? = some (enc r, v) := by rw [hl, List.getElem?_map, h4]; rfl
    rw [List.getElem?_map] at hj
    obtain ⟨e, he, hev⟩ := Option.map_eq_some_iff.1 hj
    have hkey : e.key = enc r := congrArg Prod.fst hev
    have heA : es[j]? = some e := by rw [← Array.getElem?_toList]; exact he
    have hstay : (Instr.keyThatStays (((es[j]?).map (·.key)).getD (enc r)) (enc r)).run Try.prog W = .ok (enc r) W := by
      rw [heA]
      simp only [Option.map_some, Option.getD_some, hkey, Instr.keyThatStays, K.bits r, if_true]
      rfl
    refine ⟨.map (es.modify j fun e => { e with key := enc r, val := t }) clock, ⟨_, _, rfl⟩, ?_, ?_⟩
    · simp [Instr.mapUpdate, hu, hk, h1, MapKept.run_getObj_map hb, MapKept.run_setObj_map _ hb, Result.andThen, hstay]
      rfl
    · refine ⟨_, _, World.putObj_heap_same (lt_of_heap hb), ?_⟩
      rw [h5 t]
      apply List.ext_getElem?
      intro i
      have hi : (es.toList.map (fun e => (e.key, e.val)))[i]? = (l.map fun x => (enc x.1, x.2))[i]? := by rw [hl]
      rw [List.getElem?_map, List.getElem?_map] at hi ⊢
      rw [Array.getElem?_toList, Array.getElem?_modify, List.getElem?_set]
      rw [Array.getElem?_toList] at hi
      by_cases hij : j = i
      · subst hij
        rw [heA] at hi
        have hlt : j < l.length := by
          rcases Nat.lt_or_ge j l.length with h | h
          · exact h
          · rw [List.getElem?_eq_none h] at h4; cases h4
        simp [heA, hlt]
      · simp [hij, hi]
theorem KM.len {κ : Type} {enc : κ → Value} {mt kt et : TypeId} (hu : ∀ W, (underlying mt).run Try.prog W = .ok (.map kt et) W) {W : World} {b : Nat} {l : List (κ × Value)} (h : KM enc W b l) (ty : TypeId) :
    (Builtin.len_ #[mt] ty #[.map (some b)]).run Try.prog W = .ok (.int .i64 l.length) W := by
  obtain ⟨es, clock, hb, hl⟩ := h
  have e : es.size = l.length := by
    have := congrArg List.length hl
    simpa using this
  simp [Builtin.len_, hu, MapKept.run_getObj_map hb, goInt, Result.andThen, e]
def ienc (x : Int) : Value := .int .i64 x
theorem ikey_now (r : Int) : ∀ (es : List MapEntry) (l : List (Int × Value)) (i : Nat), es.map (fun e => (e.key, e.val)) = l.map (fun x => (ienc x.1, x.2)) →
    Instr.findNow (.int .i64) (ienc r) es i = some (kfind l r i)
  | [], [], i, _ => rfl
  | [], _ :: _, i, h => by simp at h
  | _ :: _, [], i, h => by simp at h
  | e :: es, (x, t) :: l, i, h => by
    simp only [List.map_cons, List.cons.injEq, Prod.mk.injEq] at h
    obtain ⟨⟨h1, h2⟩, h3⟩ := h
    have h1' : e.key = Value.int .i64 x := h1
    have ih := ikey_now r es l (i + 1) h3
    unfold ienc at ih ⊢
    simp only [Instr.findNow, h1', Instr.sameNow, if_true, kfind]
    by_cases hr : r = x
    · subst hr
      simp [h2]
    · have : (r == x) = false := by simpa using hr
      rw [this, if_neg hr]
      exact ih
theorem ikey_ok : KeyOk 3 ienc where
  check em r w := by unfold ienc; kernel_rfl
  find r w es l h := by
    have h1 := ikey_now r es l 0 h
    have h2 : (underlying 3).run Try.prog w = .ok (.int .i64) w := by kernel_rfl
    simp [Instr.findKey, h2, h1, Result.andThen]
  bits r := by unfold ienc Instr.sameBits; simp
def penc (x : Int × Int) : Value := .agg #[.int .i64 x.1, .int .i64 x.2]
end Go.Proofs.Ytnhgdjiljjpgmaa

namespace Go.Proofs.Ytnhgdjiljjpgmaa
open Go.RowKit

section
variable {κ : Type} {enc : κ → Value}
/-- An entry as the map's list has it. -/
def ekv (e : MapEntry) : Value × Value := (e.key, e.val)
def xkv (enc : κ → Value) (x : κ × Value) : Value × Value := (enc x.1, x.2)
/-- Block b is a map with these entries, each with a stamp of its own. -/
def KS (enc : κ → Value) (W : World) (b : Nat) (l : List (κ × Value)) : Prop :=
  ∃ es clock, W.heap[b]? = some (.map es clock) ∧ es.toList.map ekv = l.map (xkv enc) ∧ (∀ x ∈ es.toList, x.born < clock) ∧ (es.toList.map (·.born)).Nodup
theorem KS.km {W : World} {b : Nat} {l : List (κ × Value)} (h : KS enc W b l) : KM enc W b l := by
  obtain ⟨es, c, h1, h2, _⟩ := h
  exact ⟨es, c, h1, h2⟩
theorem KS.lt {W : World} {b : Nat} {l : List (κ × Value)} (h : KS enc W b l) : b < W.heap.size := h.km.lt
theorem KS.of_block {W W' : World} {b : Nat} {l : List (κ × Value)} (h : KS enc W b l) (hb : W'.heap[b]? = W.heap[b]?) : KS enc W' b l := by
  obtain ⟨es, c, h1, h2⟩ := h; exact ⟨es, c, hb.trans h1, h2⟩
theorem KS.ext {W W' : World} {b : Nat} {l : List (κ × Value)} (h : KS enc W b l) (hE : Ext W W') : KS enc W' b l := h.of_block (hE.b.block _ h.lt)
theorem KS.new (enc : κ → Value) (W : World) : KS enc (W.alloc (.map #[] 0)) W.heap.size [] := ⟨#[], 0, World.alloc_heap_new _ _, rfl, by simp, by simp⟩
theorem KS.map {W : World} {b : Nat} {l : List (κ × Value)} (h : KS enc W b l) : ∃ es c, W.heap[b]? = some (.map es c) := by
  obtain ⟨es, c, h1, _⟩ := h; exact ⟨es, c, h1⟩
theorem KS.put [DecidableEq κ] {kt mt et : TypeId} (K : KeyOk kt enc) (hu : ∀ W, (underlying mt).run Try.prog W = .ok (.map kt et) W) {W : World} {b : Nat} {l : List (κ × Value)} (h : KS enc W b l) (r : κ) (t : Value) :
    ∃ o, (∃ es c, o = .map es c) ∧ (Instr.mapUpdate mt (.map (some b)) (enc r) t).run Try.prog W = .ok () (W.putObj b o) ∧ KS enc (W.putObj b o) b (kput l r t) := by
  obtain ⟨es, clock, hb, hl, hlt, hnd⟩ := h
  have h1 := K.find r W es.toList l hl
  have h2 := kfind_look l r 0
  have hk := fun em => K.check em r W
  cases hr : kfind l r 0 with
  | none =>
    rw [hr] at h1 h2
    refine ⟨.map (es.push { key := enc r, val := t, born := clock }) (clock + 1), ⟨_, _, rfl⟩, ?_, ?_⟩
    · simp [Instr.mapUpdate, hu, hk, h1, MapKept.run_getObj_map hb, MapKept.run_setObj_map _ hb, Result.andThen]
      rfl
    · refine ⟨_, _, World.putObj_heap_same (lt_of_heap hb), ?_, fun x hx => ?_, ?_⟩
      · rw [kput_new l r t h2.symm]
        simp [hl, ekv, xkv]
      · simp only [Array.toList_push, List.mem_append, List.mem_singleton] at hx
        rcases hx with hx | rfl
        · exact Nat.lt_succ_of_lt (hlt x hx)
        · exact Nat.lt_succ_self _
      · simp only [Array.toList_push, List.map_append, List.map_cons, List.map_nil]
        refine List.nodup_append.2 ⟨hnd, by simp, ?_⟩
        intro a ha b hb
        simp only [List.mem_singleton] at hb
        subst hb
        obtain ⟨x, hx, rfl⟩ := List.mem_map.1 ha
        exact Nat.ne_of_lt (hlt x hx)
  | some x =>
    obtain ⟨j, v⟩ := x
    rw [hr] at h1
    obtain ⟨_, h4, h5⟩ := kfind_some l r 0 j v hr
    rw [Nat.sub_zero] at h4 h5
    have hj : (es.toList.map ekv)[j]? = some (enc r, v) := by rw [hl, List.getElem?_map, h4]; rfl
    rw [List.getElem?_map] at hj
    obtain ⟨e, he, hev⟩ := Option.map_eq_some_iff.1 hj
    have hkey : e.key = enc r := congrArg Prod.fst hev
    have heA : es[j]? = some e := by rw [← Array.getElem?_toList]; exact he
    have hstay : (Instr.keyThatStays (((es[j]?).map (·.key)).getD (enc r)) (enc r)).run Try.prog W = .ok (enc r) W := by
      rw [heA]
      simp only [Option.map_some, Option.getD_some, hkey, Instr.keyThatStays, K.bits r, if_true]
      rfl
    refine ⟨.map (es.modify j fun e => { e with key := enc r, val := t }) clock, ⟨_, _, rfl⟩, ?_, ?_⟩
    · simp [Instr.mapUpdate, hu, hk, h1, MapKept.run_getObj_map hb, MapKept.run_setObj_map _ hb, Result.andThen, hstay]
      rfl
    · have hborn : (es.modify j fun e => { e with key := enc r, val := t }).toList.map (·.born) = es.toList.map (·.born) := by
        apply List.ext_getElem?
        intro i
        simp only [List.getElem?_map, Array.getElem?_toList, Array.getElem?_modify]
        split
        · cases es[i]? <;> rfl
        · rfl
      refine ⟨_, _, World.putObj_heap_same (lt_of_heap hb), ?_, fun x hx => ?_, by rw [hborn]; exact hnd⟩
      · rw [h5 t]
        apply List.ext_getElem?
        intro i
        have hi : (es.toList.map ekv)[i]? = (l.map (xkv enc))[i]? := by rw [hl]
        rw [List.getElem?_map, List.getElem?_map] at hi ⊢
        rw [Array.getElem?_toList, Array.getElem?_modify, List.getElem?_set]
        rw [Array.getElem?_toList] at hi
        by_cases hij : j = i
        · subst hij
          rw [heA] at hi
          have hlt : j < l.length := by
            rcases Nat.lt_or_ge j l.length with h | h
            · exact h
            · rw [List.getElem?_eq_none h] at h4; cases h4
          simp [heA, hlt, ekv, xkv]
        · simp [hij, hi]
      · have hm : x.born ∈ (es.modify j fun e => { e with key := enc r, val := t }).toList.map (·.born) := List.mem_map.2 ⟨x, hx, rfl⟩
        rw [hborn] at hm
        obtain ⟨y, hy, hyx⟩ := List.mem_map.1 hm
        rw [← hyx]; exact hlt y hy
/-- 'for k, v := range m' under way: block b is the map with the entries l, block r its iterator; left: the entries that are still to come, in the map's own order. -/
def KR (enc : κ → Value) (W : World) (b r : Nat) (l left : List (κ × Value)) : Prop :=
  ∃ es clock since seen c0, W.heap[b]? = some (.map es clock) ∧ es.toList.map ekv = l.map (xkv enc) ∧ (es.toList.map (·.born)).Nodup ∧
    W.heap[r]? = some (.mapIter (some b) since seen c0) ∧ (∀ x ∈ es.toList, x.born < since) ∧ since ≤ c0 ∧ since ≤ clock ∧ ((leftOf es seen).toList.map ekv) = left.map (xkv enc)
theorem KR.ne {W : World} {b r : Nat} {l left : List (κ × Value)} (h : KR enc W b r l left) : r ≠ b := by
  obtain ⟨es, clock, since, seen, c0, hb, _, _, hr, _⟩ := h
  intro e
  rw [e, hb] at hr
  cases hr
theorem KR.ltm {W : World} {b r : Nat} {l left : List (κ × Value)} (h : KR enc W b r l left) : b < W.heap.size := by
  obtain ⟨es, clock, since, seen, c0, hb, _⟩ := h
  exact lt_of_heap hb
theorem KR.lt {W : World} {b r : Nat} {l left : List (κ × Value)} (h : KR enc W b r l left) : r < W.heap.size := by
  obtain ⟨es, clock, since, seen, c0, _, _, _, hr, _⟩ := h
  exact lt_of_heap hr
theorem KR.of_block {W W' : World} {b r : Nat} {l left : List (κ × Value)} (h : KR enc W b r l left) (hb : W'.heap[b]? = W.heap[b]?) (hr : W'.heap[r]? = W.heap[r]?) : KR enc W' b r l left := by
  obtain ⟨es, clock, since, seen, c0, h1, h2, h3, h4, h5⟩ := h
  exact ⟨es, clock, since, seen, c0, hb.trans h1, h2, h3, hr.trans h4, h5⟩
theorem KR.ext {W W' : World} {b r : Nat} {l left : List (κ × Value)} (h : KR enc W b r l left) (hE : Ext W W') : KR enc W' b r l left := h.of_block (hE.b.block _ h.ltm) (hE.b.block _ h.lt)
theorem KR.km {W : World} {b r : Nat} {l left : List (κ × Value)} (h : KR enc W b r l left) : KM enc W b l := by
  obtain ⟨es, clock, since, seen, c0, h1, h2, _⟩ := h
  exact ⟨es, clock, h1, h2⟩
/-- 'range m'. -/
theorem KS.range {mt kt et : TypeId} (hu : Try.prog.underlying mt = some (.map kt et)) {W : World} {b : Nat} {l : List (κ × Value)} (h : KS enc W b l) :
    ∃ W', (Instr.range mt (.map (some b))).run Try.prog W = .ok (.pointer (some ⟨W.heap.size, 0, none⟩)) W' ∧ KR enc W' b W.heap.size l l ∧ Ext W W' ∧ W'.heap.size = W.heap.size + 1 := by
  have hlt := h.lt
  obtain ⟨es, clock, hb, hl, h1, h2⟩ := h
  refine ⟨_, run_range_map W mt kt et b es clock hu hb, ⟨es, clock, clock, #[], clock, (Below.heap_alloc W _ _ hlt).trans hb, hl, h2, World.alloc_heap_new _ _, h1, Nat.le_refl _, Nat.le_refl _, ?_⟩, (Ext.refl W).alloc _, by simp⟩
  rw [show leftOf es #[] = es by unfold leftOf; simp]
  exact hl
theorem filter_split {α : Type} {p q : α → Bool} {L : List α} {e : α} (he : e ∈ L.filter p) (hqe : q e = false) (hq : ∀ x ∈ L, x ≠ e → q x = p x) (hn : L.Nodup) : ∃ a c, L.filter p = a ++ e :: c ∧ L.filter q = a ++ c := by
  obtain ⟨he1, he2⟩ := List.mem_filter.1 he
  obtain ⟨u, v, rfl⟩ := List.append_of_mem he1
  have hu : ∀ x ∈ u, x ≠ e := fun x hx hxe => by
    subst hxe
    exact (List.nodup_append.1 hn).2.2 x hx x (List.mem_cons_self ..) rfl
  have hv : ∀ x ∈ v, x ≠ e := fun x hx hxe => by
    subst hxe
    exact (List.nodup_cons.1 (List.nodup_append.1 hn).2.1).1 hx
  refine ⟨u.filter p, v.filter p, by rw [List.filter_append, List.filter_cons, if_pos he2], ?_⟩
  rw [List.filter_append, List.filter_cons, if_neg (by rw [hqe]; decide)]
  congr 1
  · exact List.filter_congr fun x hx => hq x (by simp [hx]) (hu x hx)
  · exact List.filter_congr fun x hx => hq x (by simp [hx]) (hv x hx)
/-- THE STEP: nothing is left, or some entry that is left comes. -/
theorem KR.next (ty : TypeId) {W : World} {b r : Nat} {l left : List (κ × Value)} (h : KR enc W b r l left) :
    (left = [] ∧ (Instr.next (.pointer (some ⟨r, 0, none⟩)) false ty).run Try.prog W = .ok (.tuple #[.bool false]) W) ∨
    ∃ a x c W', left = a ++ x :: c ∧ (Instr.next (.pointer (some ⟨r, 0, none⟩)) false ty).run Try.prog W = .ok (.tuple #[.bool true, enc x.1, x.2]) W' ∧ KR enc W' b r l (a ++ c) ∧
      W.grownBy W' (some r) ∧ W'.heap.size = W.heap.size ∧ (Instr.entry (.pointer (some ⟨r, 0, none⟩))).run Try.prog W' = .ok (.tuple #[enc x.1, x.2]) W' := by
  have hne := h.ne
  obtain ⟨es, clock, since, seen, c0, hb, hl, hnd, hr, hold, hsc, hsk, hleft⟩ := h
  rcases run_next_at (P := Try.prog) W ty r b since c0 seen es clock hr hb hold hsc with ⟨h0, hrun⟩ | ⟨e, he, w1, hal, hrun⟩
  · refine .inl ⟨?_, hrun⟩
    have hz : (leftOf es seen).toList = [] := by
      have := Array.eq_empty_of_size_eq_zero h0
      rw [this]
    rw [hz] at hleft
    cases left with
    | nil => rfl
    | cons => simp at hleft
  · obtain ⟨hem, hes⟩ := mem_left he
    have hr1 : w1.heap[r]? = some (.mapIter (some b) since seen c0) := by rcases hal with rfl | rfl <;> exact hr
    have hb1 : w1.heap[b]? = some (.map es clock) := by rcases hal with rfl | rfl <;> exact hb
    have hset := Go.MapKept.heap_set (o' := .mapIter (some b) since (seen.push e.born) clock) hr1
    have hb' : (Go.ChangeMaps.setBlock w1 r (.mapIter (some b) since (seen.push e.born) clock)).heap[b]? = some (.map es clock) := (hset.2 b (fun e1 => hne e1.symm)).trans hb1
    have hnl : es.toList.Nodup := (List.pairwise_map.1 hnd).imp fun {x y} (hxy : x.born ≠ y.born) (e : x = y) => hxy (congrArg MapEntry.born e)
    have hinj : ∀ x ∈ es.toList, x.born = e.born → x = e := fun x hx hxe => born_inj hnd hx hem hxe
    have e1 : (leftOf es seen).toList = es.toList.filter fun x => !seen.contains x.born := by unfold leftOf; simp
    have e2 : (leftOf es (seen.push e.born)).toList = es.toList.filter fun x => !(seen.push e.born).contains x.born := by unfold leftOf; simp
    obtain ⟨a, c, h1, h2⟩ := filter_split (p := fun x => !seen.contains x.born) (q := fun x => !(seen.push e.born).contains x.born) (e := e) (by rw [← e1]; exact he) (by simp) (fun x hx hxe => by
      have : (x.born == e.born) = false := by
        rw [beq_eq_false_iff_ne]
        exact fun k => hxe (hinj x hx k)
      simp only [contains_push, this, Bool.or_false]) hnl
    rw [e1, h1, List.map_append, List.map_cons] at hleft
    obtain ⟨la, lr, rfl, ha, hr2⟩ := List.map_eq_append_iff.1 hleft.symm
    obtain ⟨x, lc, rfl, hx, hc⟩ := List.map_eq_cons_iff.1 hr2
    have hxk : e.key = enc x.1 := (congrArg Prod.fst hx).symm
    have hxv : e.val = x.2 := (congrArg Prod.snd hx).symm
    rw [hxk, hxv] at hrun
    have hent := run_entry_at (P := Try.prog) _ r b since seen es clock e hset.1 hb' hem hnd
    rw [hxk, hxv] at hent
    refine .inr ⟨la, x, lc, _, rfl, hrun, ⟨es, clock, since, seen.push e.born, clock, hb', hl, hnd, hset.1, hold, hsk, hsk, ?_⟩, ?_, ?_, hent⟩
    · rw [e2, h2, List.map_append, List.map_append, ha, hc]
    · rcases hal with rfl | rfl <;> exact ⟨rfl, rfl, rfl, by simp [Go.ChangeMaps.setBlock], fun i _ hi => hset.2 i (fun e1 => hi (by rw [e1]))⟩
    · rcases hal with rfl | rfl <;> simp [Go.ChangeMaps.setBlock]
end
section
variable {κ : Type} {enc : κ → Value} (w : World) {ops : Array Oper} {rest : List Oper} {o : Oper} {a : Act} {Q : Exit → Act → World → Prop}
/-- 'range m' in the walk. -/
theorem wpList_range_k (hg : o.guard = none) (m : Operand) (t : TypeId) (hop : o.op = Op.range t m) (kt et : TypeId) (ht : Try.prog.underlying t = some (.map kt et)) (b : Nat) (l : List (κ × Value))
    (hm : a.eval m = .map (some b)) (h : KS enc w b l)
    (hK : ∀ w', KR enc w' b w.heap.size l l → Ext w w' → w'.heap.size = w.heap.size + 1 → wpList Try.prog ops Q rest (a.put o.dst (.pointer (some ⟨w.heap.size, 0, none⟩))) w') :
    wpList Try.prog ops Q (o :: rest) a w := by
  refine wpList_plain hg fun K' hK' => ?_
  obtain ⟨w', hrun, r1, r2, r3⟩ := h.range ht
  unfold Oper.wp
  simp [execOp, hop, hm, hrun, Result.andThen]
  exact hK' _ _ (hK w' r1 r2 r3)
/-- The step in the walk. -/
theorem wpList_next_k (hg : o.guard = none) (it : Operand) (hop : o.op = Op.next it false) (b r : Nat) (l left : List (κ × Value))
    (hit : a.eval it = .pointer (some ⟨r, 0, none⟩)) (h : KR enc w b r l left)
    (hDone : left = [] → wpList Try.prog ops Q rest (a.put o.dst (.tuple #[.bool false])) w)
    (hMore : ∀ (u : List (κ × Value)) (x : κ × Value) (c : List (κ × Value)) (w' : World), left = u ++ x :: c → KR enc w' b r l (u ++ c) → w.grownBy w' (some r) → w'.heap.size = w.heap.size →
      (Instr.entry (.pointer (some ⟨r, 0, none⟩))).run Try.prog w' = .ok (.tuple #[enc x.1, x.2]) w' → wpList Try.prog ops Q rest (a.put o.dst (.tuple #[.bool true, enc x.1, x.2])) w') :
    wpList Try.prog ops Q (o :: rest) a w := by
  refine wpList_plain hg fun K' hK' => ?_
  unfold Oper.wp
  rcases h.next o.type with ⟨h0, hrun⟩ | ⟨u, x, c, w', hl, hrun, hkr, hgr, hsz, hen⟩
  · simp [execOp, hop, hit, hrun, Result.andThen]
    exact hK' _ _ (hDone h0)
  · simp [execOp, hop, hit, hrun, Result.andThen]
    exact hK' _ _ (hMore u x c w' hl hkr hgr hsz hen)
end
end Go.Proofs.Ytnhgdjiljjpgmaa
