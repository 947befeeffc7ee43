/-
  What failure.build holds while it lays a state's moves.
  Conditions: as each theorem states.
-/
import Derived.Test.YtnhgdjiljjpgmaaFailK
import Derived.Test.YtnhgdjiljjpgmaaFailJ
import Derived.Test.YtnhgdjiljjpgmaaKMaps
namespace Go.Proofs.Ytnhgdjiljjpgmaa
open Go.RowKit

/-! ### Plain -/
def keyStep (o : List Nat) (s : Stp17) : List Nat := if s.2 ∈ o then o else o ++ [s.2]
theorem keysR_nil (o : List Nat) : keysR o [] = o := rfl
theorem keysR_snoc (o : List Nat) (l : List Stp17) (s : Stp17) : keysR o (l ++ [s]) = keyStep (keysR o l) s := by
  unfold keysR
  rw [List.foldl_append]; rfl
theorem keyStep_pre (o : List Nat) (s : Stp17) : ∃ t, keyStep o s = o ++ t := by
  unfold keyStep
  split
  · exact ⟨[], by simp⟩
  · exact ⟨_, rfl⟩
theorem keyStep_mem (o : List Nat) (s : Stp17) : s.2 ∈ keyStep o s := by
  unfold keyStep
  split
  · assumption
  · simp
theorem keyStep_nodup {o : List Nat} (h : o.Nodup) (s : Stp17) : (keyStep o s).Nodup := by
  unfold keyStep
  split
  · exact h
  · next hn => exact List.nodup_append.2 ⟨h, by simp, fun a ha b hb e => by simp at hb; subst hb; exact hn (e ▸ ha)⟩
theorem keysR_pre (l : List Stp17) : ∀ o, ∃ t, keysR o l = o ++ t := by
  induction l with
  | nil => exact fun o => ⟨[], by rw [keysR_nil, List.append_nil]⟩
  | cons s l ih =>
    intro o
    obtain ⟨t, ht⟩ := keyStep_pre o s
    obtain ⟨t', ht'⟩ := ih (keyStep o s)
    exact ⟨t ++ t', by rw [← List.append_assoc, ← ht]; exact ht'⟩
theorem keysR_nodup (l : List Stp17) : ∀ o : List Nat, o.Nodup → (keysR o l).Nodup := by
  induction l with
  | nil => exact fun o h => h
  | cons s l ih => exact fun o h => ih _ (keyStep_nodup h s)
theorem keysR_all {K : Nat → Prop} (l : List Stp17) : ∀ o : List Nat, (∀ k ∈ o, K k) → (∀ s ∈ l, K s.2) → ∀ k ∈ keysR o l, K k := by
  induction l with
  | nil => exact fun o h _ => h
  | cons s l ih =>
    intro o h1 h2
    refine ih (keyStep o s) (fun k hk => ?_) fun s hs => h2 s (List.mem_cons_of_mem _ hs)
    unfold keyStep at hk
    split at hk
    · exact h1 k hk
    · rcases List.mem_append.1 hk with hk | hk
      · exact h1 k hk
      · simp at hk; subst hk; exact h2 s (List.mem_cons_self ..)
theorem keysR_take {o : List Nat} {l : List Stp17} {j : Nat} {s : Stp17} (h : l[j]? = some s) : keysR o (l.take (j + 1)) = keyStep (keysR o (l.take j)) s := by
  rw [List.take_add_one, h, Option.toList_some, keysR_snoc]
theorem keysR_split (o : List Nat) (l m : List Stp17) : keysR o (l ++ m) = keysR (keysR o l) m := by
  unfold keysR
  rw [List.foldl_append]
/-- The number that a step's key has when it is laid. -/
theorem movesR_take {o : List Nat} {l : List Stp17} {j : Nat} {s : Stp17} (h : l[j]? = some s) : (movesR o l).take (j + 1) = (movesR o l).take j ++ [⟨s.1, ((keysR o (l.take (j + 1))).idxOf s.2 : Nat)⟩] := by
  have hm : s.2 ∈ keysR o (l.take (j + 1)) := by rw [keysR_take h]; exact keyStep_mem _ _
  have e : keysR o l = keysR (keysR o (l.take (j + 1))) (l.drop (j + 1)) := by rw [← keysR_split, List.take_append_drop]
  obtain ⟨t, ht⟩ := keysR_pre (l.drop (j + 1)) (keysR o (l.take (j + 1)))
  unfold movesR
  rw [List.take_add_one, List.getElem?_map, h]
  congr 1
  show [_] = _
  rw [e, ht]
  show [(⟨s.1, ((List.idxOf s.2 (keysR o (l.take (j + 1)) ++ t) : Nat) : Int)⟩ : Mv)] = _
  rw [List.idxOf_append, if_pos hm]
theorem movesR_len (o : List Nat) (l : List Stp17) : (movesR o l).length = l.length := List.length_map _
theorem nodup_few (n : Nat) : ∀ l : List Nat, l.Nodup → (∀ k ∈ l, k < n) → l.length ≤ n := by
  induction n with
  | zero =>
    intro l _ h
    cases l with
    | nil => simp
    | cons a l => exact absurd (h a (List.mem_cons_self ..)) (by omega)
  | succ n ih =>
    intro l hn h
    have h1 := ih (l.erase n) (hn.erase n) fun k hk => by
      have h2 := (List.Nodup.mem_erase_iff hn).1 hk
      have h3 := h k h2.2
      have := h2.1
      omega
    by_cases hm : n ∈ l
    · rw [List.length_erase_of_mem hm] at h1; omega
    · rw [List.erase_of_not_mem hm] at h1; omega
def entsF : List Nat → Nat → List (Int × Value)
  | [], _ => []
  | k :: l, i => ((k : Int), .int .i64 i) :: entsF l (i + 1)
theorem entsF_snoc : ∀ (l : List Nat) (i k : Nat), entsF (l ++ [k]) i = entsF l i ++ [((k : Int), .int .i64 (i + l.length : Nat))]
  | [], i, k => rfl
  | x :: l, i, k => by
    simp only [List.cons_append, entsF, entsF_snoc l (i + 1) k, List.length_cons]
    rw [show i + 1 + l.length = i + (l.length + 1) by omega]
theorem klook_ents (k : Nat) : ∀ (l : List Nat) (i : Nat), klook (entsF l i) (k : Int) = if k ∈ l then some (.int .i64 (i + l.idxOf k : Nat)) else none
  | [], i => rfl
  | x :: l, i => by
    simp only [entsF, klook]
    by_cases h : k = x
    · subst h; simp
    · rw [if_neg (by omega), klook_ents k l (i + 1)]
      simp only [List.mem_cons, h, false_or]
      split
      · rw [List.idxOf_cons, show (x == k) = false from beq_eq_false_iff_ne.2 fun e => h e.symm, cond_false]
        rw [show i + 1 + l.idxOf k = i + (l.idxOf k + 1) by omega]
      · rfl
/-! ### What lies in the heap -/
theorem Coll.keep {α : Type} {e1 e2 : TypeId} {enc : α → List Value} {size : Nat} {W W' : World} {base : Nat} {u : Value} {ws : List (List α)} (h : Coll e1 e2 enc size W base u ws) (hs : W.heap.size ≤ W'.heap.size)
    (hb : ∀ (k : Nat) (cs : Array Value) (e : TypeId) (fr : Nat × Nat), W.heap[k]? = some (.cells cs e fr) → (e = e1 ∨ e = e2) → W'.heap[k]? = W.heap[k]?) : Coll e1 e2 enc size W' base u ws := by
  have hty := h.typed
  obtain ⟨vs, h1, h2, h3⟩ := h
  refine ⟨vs, h1, h2.of_block fun k hk => ?_, fun i v xs hv hx => ?_⟩
  · obtain ⟨_, _, hh⟩ := hty k hk
    exact hb _ _ _ _ hh (.inl rfl)
  · have hr := h3 i v xs hv hx
    have key : ∀ (a : Addr) (n c : Nat), v = .slice (some a) n c → W'.heap[a.block]? = W.heap[a.block]? := fun a n c hv => by
      obtain ⟨cs, fr, hh⟩ := hr.2 a n c hv
      exact hb _ _ _ _ hh (.inr rfl)
    refine ⟨hr.1.of_block hs key, fun a n c hv => ?_⟩
    obtain ⟨cs, fr, hh⟩ := hr.2 a n c hv
    exact ⟨cs, fr, (key a n c hv).trans hh⟩
theorem KM.lookOk {κ : Type} [DecidableEq κ] {enc : κ → Value} {kt mt et : TypeId} (K : KeyOk kt enc) {z : Value} (hu : ∀ W, (underlying mt).run Try.prog W = .ok (.map kt et) W) (hz : ∀ W, (zeroValue et).run Try.prog W = .ok z W)
    {W : World} {b : Nat} {l : List (κ × Value)} (h : KM enc W b l) (r : κ) :
    (Instr.lookup mt (.map (some b)) (enc r) true).run Try.prog W = .ok (.tuple #[(klook l r).getD z, .bool (klook l r).isSome]) W := by
  obtain ⟨es, clock, hb, hl⟩ := h
  have h1 := K.find r W es.toList l hl
  have h2 := kfind_look l r 0
  have hk := fun em => K.check em r W
  cases hr : kfind l r 0 with
  | none =>
    rw [hr] at h1 h2
    rw [← h2]
    simp [Instr.lookup, hu, hk, h1, MapKept.run_getObj_map hb, Result.andThen, hz]
  | some x =>
    obtain ⟨j, v⟩ := x
    rw [hr] at h1 h2
    rw [← h2]
    simp [Instr.lookup, hu, hk, h1, MapKept.run_getObj_map hb, Result.andThen]
def KBox (W : World) (b : Nat) (x : Value) : Prop := W.heap[b]? = some (.cells #[x] 3 (0, 0))
/-- What build holds, apart from its count. -/
structure BF (w V : World) (n r4 r5 ob cb mb : Nat) (uo sv : Value) (order : List Nat) (st : List (List Mv)) : Prop where
  ext : Ext w V
  b4 : V.heap[r4]? = some (.cells #[.int .i64 0, .slice none 0 0] 29 (0, 0))
  b5 : V.heap[r5]? = some (.cells #[.int .i64 0] 30 (0, 0))
  bo : V.heap[ob]? = some (.cells #[.int .i64 n, sv] 29 (0, 0))
  mp : KM ienc V mb (entsF order 0)
  od : Own icells 1 V w.heap.size 3 uo (order.map fun k : Nat => (k : Int))
  nc : ∀ g, uo.ownBlock = some g → g ≠ cb
  co : Coll 95 97 Mv.cells 8 V w.heap.size sv st
  lo : w.heap.size ≤ r4 ∧ w.heap.size ≤ r5 ∧ w.heap.size ≤ ob ∧ w.heap.size ≤ cb ∧ w.heap.size ≤ mb
  ne : r4 ≠ ob
theorem BF.off {w V V' : World} {n r4 r5 ob cb mb : Nat} {uo sv : Value} {order : List Nat} {st : List (List Mv)} (h : BF w V n r4 r5 ob cb mb uo sv order st) {x : Value} (hc : KBox V cb x) (ho : Off (fun k => k = cb) V V') : BF w V' n r4 r5 ob cb mb uo sv order st := by
  have keep : ∀ k o, V.heap[k]? = some o → k ≠ cb → V'.heap[k]? = some o := fun k o hk hn => (ho.block k (lt_of_heap hk) hn).trans hk
  have ne : ∀ {k cs e fr}, V.heap[k]? = some (.cells cs e fr) → e ≠ 3 → k ≠ cb := fun hk he e => by
    subst e
    have hc : _ = _ := hc
    rw [hk] at hc
    injection hc with hc
    injection hc with _ hc
    exact he hc
  refine ⟨⟨ho.os.trans h.ext.b.os, ho.tape.trans h.ext.b.tape, ho.output.trans h.ext.b.output, Nat.le_trans h.ext.size ho.size, fun k hk => ?_⟩, keep _ _ h.b4 (ne h.b4 (by decide)), keep _ _ h.b5 (ne h.b5 (by decide)), keep _ _ h.bo (ne h.bo (by decide)), ?_, ?_, h.nc, ?_, h.lo, h.ne⟩
  · have hlo := h.lo.2.2.2.1
    have hs := h.ext.size
    exact (ho.block k (by omega) (by omega)).trans (h.ext.b.block k hk)
  · obtain ⟨es, c, h1, h2⟩ := h.mp
    refine ⟨es, c, keep _ _ h1 fun e => ?_, h2⟩
    subst e
    have hc : _ = _ := hc
    rw [h1] at hc; cases hc
  · exact h.od.of_block fun k hk => ho.block k (h.od.2.lt k hk).2 (h.nc k hk)
  · exact h.co.keep ho.size fun k cs e fr hk he => by
      rw [keep _ _ hk (ne hk (by rcases he with rfl | rfl <;> decide)), hk]
theorem BF.ext' {w V V' : World} {n r4 r5 ob cb mb : Nat} {uo sv : Value} {order : List Nat} {st : List (List Mv)} (h : BF w V n r4 r5 ob cb mb uo sv order st) (hE : Ext V V') : BF w V' n r4 r5 ob cb mb uo sv order st :=
  ⟨h.ext.trans hE, (hE.b.block _ (lt_of_heap h.b4)).trans h.b4, (hE.b.block _ (lt_of_heap h.b5)).trans h.b5, (hE.b.block _ (lt_of_heap h.bo)).trans h.bo, h.mp.ext hE, h.od.ext hE, h.nc, h.co.ext hE, h.lo, h.ne⟩
/-- A key more: the map has it, its place behind the others in the order. -/
theorem BF.put {w V : World} {n r4 r5 ob cb mb : Nat} {uo sv : Value} {order : List Nat} {st : List (List Mv)} (h : BF w V n r4 r5 ob cb mb uo sv order st) (k : Nat) (hk : k ∉ order) :
    ∃ o, (∃ es c, o = .map es c) ∧ (Instr.mapUpdate 89 (.map (some mb)) (.int .i64 k) (.int .i64 order.length)).run Try.prog V = .ok () (V.putObj mb o) ∧
      KM ienc (V.putObj mb o) mb (entsF (order ++ [k]) 0) ∧ ∀ (b : Nat) (cs : Array Value) (e : TypeId) (fr : Nat × Nat), V.heap[b]? = some (Obj.cells cs e fr) → (V.putObj mb o).heap[b]? = some (Obj.cells cs e fr) := by
  obtain ⟨o, h1, h2, h3⟩ := h.mp.put ikey_ok (mt := 89) (et := 3) (fun W => by kernel_rfl) (k : Int) (.int .i64 order.length)
  refine ⟨o, h1, h2, ?_, fun b cs e fr hb => (World.putObj_heap_other fun e => ?_).trans hb⟩
  · rw [entsF_snoc, Nat.zero_add, ← kput_new _ _ _ (by rw [klook_ents, if_neg hk])]
    exact h3
  · subst e
    obtain ⟨es, c, h4, _⟩ := h.mp
    rw [h4] at hb; cases hb
theorem BF.putted {w V V' : World} {n r4 r5 ob cb mb : Nat} {uo u' sv : Value} {order : List Nat} {st : List (List Mv)} (h : BF w V n r4 r5 ob cb mb uo sv order st) (k : Nat) (hE : Ext w V') (hs : V.heap.size ≤ V'.heap.size) (hm : KM ienc V' mb (entsF (order ++ [k]) 0))
    (hb : ∀ (b : Nat) (cs : Array Value) (e : TypeId) (fr : Nat × Nat), V.heap[b]? = some (Obj.cells cs e fr) → e ≠ 3 → V'.heap[b]? = some (Obj.cells cs e fr)) (ho : Own icells 1 V' w.heap.size 3 u' ((order.map fun k : Nat => (k : Int)) ++ [(k : Int)])) (hc : ∀ g, u'.ownBlock = some g → g ≠ cb) :
    BF w V' n r4 r5 ob cb mb u' sv (order ++ [k]) st :=
  ⟨hE, hb _ _ _ _ h.b4 (by decide), hb _ _ _ _ h.b5 (by decide), hb _ _ _ _ h.bo (by decide), hm, by rw [List.map_append]; exact ho, hc, h.co.keep hs fun b cs e fr hk he => by rw [hb _ _ _ _ hk (by rcases he with rfl | rfl <;> decide), hk], h.lo, h.ne⟩
/-- A closure that tells the steps of each state. -/
structure BAsk (w : World) (fs : Nat) (fi fb : Array Value) (E : Nat → List Stp17) (K : Nat → Prop) : Prop where
  ef : ∀ args w, (callFunc fs args).run Try.prog w = .ok (.enter fs args) w
  call : ∀ key V, K key → Ext w V → Calls Try.prog fs (fi.push (.int .i64 (key : Nat)) ++ fb) V fun e V' => ∃ (ff : Nat) (ib : Array Value) (O0 : Nat → Prop) (Init : World → Prop), e = .returned (.func (.func ff) #[] ib) ∧ (∀ args w, (callFunc ff args).run Try.prog w = .ok (.enter ff args) w) ∧
    SeqY Try.prog ff ib Init O0 (fun W => Ext w W) (E key).length (fun i _ x _ => ∃ s, (E key)[i]? = some s ∧ x = #[stpV s]) ∧ (∀ W, Ext V' W → Init W) ∧ (∀ k, O0 k → V.heap.size ≤ k ∧ k < V'.heap.size) ∧ Ext V V'
  zero : K 0
  next : ∀ key, K key → ∀ s ∈ E key, K s.2
  few : ∀ key, K key → key < 33
  ne : ∀ key, K key → E key ≠ []
  one : ∀ key, K key → ∀ x ∈ E key, ∀ y ∈ E key, x.1 = y.1 → x = y
theorem own_at {α : Type} {enc : α → List Value} {k : Nat} {w : World} {base g n c : Nat} {e : TypeId} {l : List α} (h : Own enc k w base e (.slice (some ⟨g, 0, none⟩) n c) l) {i j : Nat} {x : α} {v : Value} (hi : l[i]? = some x) (hv : (enc x)[j]? = some v) : w.cell? ⟨g, i * k + j, none⟩ = some v := by
  obtain ⟨cur, h3, h2, h9, h4, h5, h6, h7⟩ := own_parts h
  have hk := h.1
  have hj : j < k := by rw [← hk x]; exact (List.getElem?_eq_some_iff.1 hv).1
  have hil : i < l.length := (List.getElem?_eq_some_iff.1 hi).1
  have e2 := flat_get (enc := enc) (size := k) hk l i j x hi hj
  have hlt : i * k + j < n * k := by
    rw [← h9]
    calc i * k + j < i * k + k := by omega
      _ = (i + 1) * k := by rw [Nat.succ_mul]
      _ ≤ l.length * k := Nat.mul_le_mul_right k hil
  rw [cell_of_row _ _ _ _ _ _ h3, ← Array.getElem?_toList]
  rw [← h7, List.getElem?_take, if_pos hlt] at e2
  rw [e2, hv]
/-- What the loops of build know of their lists. -/
structure BL (E : Nat → List Stp17) (K : Nat → Prop) (n i cnt : Nat) (order : List Nat) (st : List (List Mv)) : Prop where
  le : i ≤ order.length
  cn : cnt ≤ 4096
  sl : st.length = i
  all : ∀ k ∈ order, K k
  nd : order.Nodup
  res : buildR E n (64 - i) i order cnt st = buildR E n 64 0 [0] 0 []
theorem BL.few {E : Nat → List Stp17} {K : Nat → Prop} {n i cnt : Nat} {order : List Nat} {st : List (List Mv)} (h : BL E K n i cnt order st) (hK : ∀ key, K key → key < 33) : order.length ≤ 33 := nodup_few 33 order h.nd fun k hk => hK k (h.all k hk)
theorem BL.next {E : Nat → List Stp17} {K : Nat → Prop} {n i cnt : Nat} {order : List Nat} {st : List (List Mv)} (h : BL E K n i cnt order st) (hK : ∀ key, K key → key < 33) (hN : ∀ key, K key → ∀ s ∈ E key, K s.2) (hi : i < order.length) (hc : cnt + (E order[i]).length ≤ 4096) :
    BL E K n (i + 1) (cnt + (E order[i]).length) (keysR order (E order[i])) (st ++ [movesR order (E order[i])]) := by
  have hf := h.few hK
  have hk := h.all _ (List.getElem_mem hi)
  refine ⟨?_, hc, by rw [List.length_append, h.sl]; rfl, keysR_all _ _ h.all (hN _ hk), keysR_nodup _ _ h.nd, ?_⟩
  · obtain ⟨t, ht⟩ := keysR_pre (E order[i]) order
    rw [ht, List.length_append]; omega
  · rw [← h.res, show 64 - i = (64 - (i + 1)) + 1 by omega, buildR, dif_pos hi, if_neg (by omega)]
theorem BL.stop {E : Nat → List Stp17} {K : Nat → Prop} {n i cnt : Nat} {order : List Nat} {st : List (List Mv)} (h : BL E K n i cnt order st) (hK : ∀ key, K key → key < 33) (hi : i < order.length) (hc : 4096 < cnt + (E order[i]).length) : buildA E n = (⟨0, []⟩, 17) := by
  have hf := h.few hK
  unfold buildA
  rw [← h.res, show 64 - i = (64 - (i + 1)) + 1 by omega, buildR, dif_pos hi, if_pos hc]
theorem BL.done {E : Nat → List Stp17} {K : Nat → Prop} {n i cnt : Nat} {order : List Nat} {st : List (List Mv)} (h : BL E K n i cnt order st) (hK : ∀ key, K key → key < 33) (hi : ¬ i < order.length) : buildA E n = (⟨n, st⟩, 0) := by
  have hf := h.few hK
  have := h.le
  unfold buildA
  rw [← h.res, show 64 - i = (64 - (i + 1)) + 1 by omega, buildR, dif_neg hi]
theorem BL.start {E : Nat → List Stp17} {K : Nat → Prop} {n : Nat} (h0 : K 0) : BL E K n 0 0 [0] [] := ⟨by decide, by decide, rfl, by simpa using h0, by simp, rfl⟩
/-- What the range over a state's steps keeps. -/
def LJ (V : World) (lb cb B cnt : Nat) (L : List Stp17) (j : Nat) (O : Nat → Prop) (W : World) : Prop :=
  ∃ u, Off (fun k => k = cb) V W ∧ W.heap[lb]? = some (.cells #[u] 91 (0, 0)) ∧ KBox W cb (.int .i64 (cnt + j : Nat)) ∧ Own stpC 8 W (B + 2) 71 u (L.take j) ∧ (∀ g, u.ownBlock = some g → ¬ O g) ∧ (∀ k, O k → V.heap.size < k) ∧ cnt + j ≤ 4096 ∧ B ≤ W.heap.size
theorem LJ.rely {V : World} {lb cb B cnt : Nat} {L : List Stp17} (hlb : lb = V.heap.size) (hcb : cb < V.heap.size) (hB : V.heap.size < B) (j : Nat) : RelyL (fun k => k = B ∨ k = B + 1) (LJ V lb cb B cnt L j) := by
  rintro O O' W W' ⟨u, h1, h2, h3, h4, h5, h6, h7, h8⟩ ho hG
  have low : ∀ k, k ≤ V.heap.size → k < W.heap.size → W'.heap[k]? = W.heap[k]? := fun k hk hw => ho.block k hw fun h => by
    rcases h with h | h
    · have := h6 k h; omega
    · omega
  refine ⟨u, ⟨ho.os.trans h1.os, ho.tape.trans h1.tape, ho.output.trans h1.output, Nat.le_trans h1.size ho.size, fun k hk hn => (low k (by omega) (by have := h1.size; omega)).trans (h1.block k hk hn)⟩, (low lb (by omega) (lt_of_heap h2)).trans h2, (low cb (by omega) (lt_of_heap h3)).trans h3, ?_, fun g hg hO => ?_, fun k hk => ?_, h7, Nat.le_trans h8 ho.size⟩
  · refine h4.of_block fun k hk => ho.block k (h4.2.lt k hk).2 fun h => ?_
    rcases h with h | h
    · exact h5 k hk h
    · have := (h4.2.lt k hk).1; omega
  · rcases (hG g hO).1 with h | h
    · exact h5 g hg h
    · have := (h4.2.lt g hg).2; omega
  · rcases (hG k hk).1 with h | h
    · exact h6 k h
    · omega
/-- What it leaves with: too many steps. -/
def LX (V : World) (cb r4 r5 B cnt : Nat) (L : List Stp17) (c : Code) (O : Nat → Prop) (W : World) : Prop :=
  c = .ret ∧ Off (fun k => k = cb ∨ k = r4 ∨ k = r5) V W ∧ W.heap[r4]? = some (.cells #[.int .i64 0, .slice none 0 0] 29 (0, 0)) ∧ W.heap[r5]? = some (.cells #[.int .i64 17] 30 (0, 0)) ∧ (∀ k, O k → V.heap.size < k) ∧ 4096 < cnt + L.length ∧ B ≤ W.heap.size
theorem LX.rely {V : World} {cb r4 r5 B cnt : Nat} {L : List Stp17} (h4 : r4 < V.heap.size) (h5 : r5 < V.heap.size) (hB : V.heap.size < B) (c : Code) : RelyL (fun k => k = B ∨ k = B + 1) (LX V cb r4 r5 B cnt L c) := by
  rintro O O' W W' ⟨h0, h1, h2, h3, h6, h7, h8⟩ ho hG
  have low : ∀ k, k ≤ V.heap.size → k < W.heap.size → W'.heap[k]? = W.heap[k]? := fun k hk hw => ho.block k hw fun h => by
    rcases h with h | h
    · have := h6 k h; omega
    · omega
  refine ⟨h0, ⟨ho.os.trans h1.os, ho.tape.trans h1.tape, ho.output.trans h1.output, Nat.le_trans h1.size ho.size, fun k hk hn => (low k (by omega) (by have := h1.size; omega)).trans (h1.block k hk hn)⟩, (low r4 (by omega) (lt_of_heap h2)).trans h2, (low r5 (by omega) (lt_of_heap h3)).trans h3, fun k hk => ?_, h7, Nat.le_trans h8 ho.size⟩
  rcases (hG k hk).1 with h | h
  · exact h6 k h
  · omega
end Go.Proofs.Ytnhgdjiljjpgmaa

namespace Go.Proofs.Ytnhgdjiljjpgmaa
open Go.RowKit

theorem move_info17 : (Try.prog.info? 97).map (fun i => (i.zero, i.size, i.bytes)) = some (some (Mv.v default), 8, 64) := by kernel_rfl
theorem mslice_info17 : (Try.prog.info? 95).map (fun i => (i.zero, i.size, i.bytes)) = some (some (.slice none 0 0), 1, 24) := by kernel_rfl
theorem mv_one17 (x : Mv) : ∀ u ∈ Mv.cells x, u.oneCell' = true := by
  intro u hu
  simp only [List.mem_cons, List.not_mem_nil, or_false] at hu
  rcases hu with rfl | rfl | rfl | rfl | rfl | rfl | rfl | rfl <;> rfl
/-- What is held while a state's moves are laid, from the world S on. -/
structure BJ (w S V : World) (mb cb : Nat) (x : Value) (mo ord : List Nat) (uo um : Value) (mvs : List Mv) : Prop where
  ext : Ext w V
  ks : ∀ (b : Nat) (cs : Array Value) (e : TypeId) (fr : Nat × Nat), S.heap[b]? = some (.cells cs e fr) → e ≠ 3 → V.heap[b]? = some (.cells cs e fr)
  md : ∀ b : Nat, S.heap[b]? = some (.deferred (some [])) → V.heap[b]? = some (.deferred (some []))
  sz : w.heap.size ≤ S.heap.size ∧ S.heap.size ≤ V.heap.size ∧ w.heap.size ≤ mb
  mp : KM ienc V mb (entsF mo 0)
  od : Own icells 1 V w.heap.size 3 uo (ord.map fun k : Nat => (k : Int))
  nc : ∀ g, uo.ownBlock = some g → g ≠ cb
  cb : KBox V cb x
  mv : Own Mv.cells 8 V S.heap.size 97 um mvs
theorem BJ.ext' {w S V V' : World} {mb cb : Nat} {x : Value} {mo ord : List Nat} {uo um : Value} {mvs : List Mv} (h : BJ w S V mb cb x mo ord uo um mvs) (hE : Ext V V') : BJ w S V' mb cb x mo ord uo um mvs :=
  have up : ∀ {b : Nat} {o : Obj}, V.heap[b]? = some o → V'.heap[b]? = some o := fun h => (hE.b.block _ (lt_of_heap h)).trans h
  ⟨h.ext.trans hE, fun b cs e fr h1 h2 => up (h.ks b cs e fr h1 h2), fun b h1 => up (h.md b h1), ⟨h.sz.1, Nat.le_trans h.sz.2.1 hE.size, h.sz.2.2⟩, h.mp.ext hE, h.od.ext hE, h.nc, up h.cb, h.mv.ext hE⟩
theorem BJ.put {w S V : World} {mb cb : Nat} {x : Value} {mo ord : List Nat} {uo um : Value} {mvs : List Mv} (h : BJ w S V mb cb x mo ord uo um mvs) (k : Nat) (hk : k ∉ mo) :
    ∃ o, (Instr.mapUpdate 89 (.map (some mb)) (.int .i64 k) (.int .i64 mo.length)).run Try.prog V = .ok () (V.putObj mb o) ∧ BJ w S (V.putObj mb o) mb cb x (mo ++ [k]) ord uo um mvs := by
  obtain ⟨o, -, h2, h3⟩ := h.mp.put ikey_ok (mt := 89) (et := 3) (fun W => by kernel_rfl) (k : Int) (.int .i64 mo.length)
  have up : ∀ {b : Nat} {o2 : Obj}, V.heap[b]? = some o2 → (∀ es c, o2 ≠ .map es c) → (V.putObj mb o).heap[b]? = some o2 := fun {b o2} hb hn => (World.putObj_heap_other fun e => by
    subst e
    obtain ⟨es, c, h4, _⟩ := h.mp
    rw [h4] at hb
    exact hn es c (Option.some.inj hb).symm).trans hb
  have keep : ∀ g, (∃ (cs : Array Value) (e : TypeId) (fr : Nat × Nat), V.heap[g]? = some (Obj.cells cs e fr)) → (V.putObj mb o).heap[g]? = V.heap[g]? := fun g hx => by
    obtain ⟨cs, e, fr, hg⟩ := hx
    rw [up hg (by simp), hg]
  refine ⟨o, h2, ⟨h.ext.putObj h.sz.2.2 o, fun b cs e fr h4 h5 => up (h.ks b cs e fr h4 h5) (by simp), fun b h4 => up (h.md b h4) (by simp), ⟨h.sz.1, by simpa using h.sz.2.1, h.sz.2.2⟩, ?_, ?_, h.nc, up h.cb (by simp), ?_⟩⟩
  · rw [entsF_snoc, Nat.zero_add, ← kput_new _ _ _ (by rw [klook_ents, if_neg hk])]
    exact h3
  · exact h.od.of_block fun g hg => by
      obtain ⟨cs, fr, hh⟩ := h.od.typed g hg
      exact keep g ⟨cs, _, fr, hh⟩
  · exact h.mv.of_block fun g hg => by
      obtain ⟨cs, fr, hh⟩ := h.mv.typed g hg
      exact keep g ⟨cs, _, fr, hh⟩
theorem BJ.order {w S V V' : World} {mb cb : Nat} {x : Value} {mo ord : List Nat} {uo um u' : Value} {mvs : List Mv} {g' c' len : Nat} {k : Nat} (h : BJ w S V mb cb x mo ord uo um mvs) (hg : V.grownBy V' uo.ownBlock) (ho : Own icells 1 V' w.heap.size 3 u' ((ord.map fun k : Nat => (k : Int)) ++ [(k : Int)]))
    (hu : u' = .slice (some ⟨g', 0, none⟩) len c') (hf : uo.ownBlock = some g' ∨ g' = V.heap.size) : BJ w S V' mb cb x mo (ord ++ [k]) u' um mvs := by
  have up : ∀ {b : Nat} {o2 : Obj}, V.heap[b]? = some o2 → (∀ cs fr, o2 ≠ .cells cs 3 fr) → V'.heap[b]? = some o2 := fun {b o2} hb hn => (hg.block b (lt_of_heap hb) fun e => by
    obtain ⟨cs, fr, hh⟩ := h.od.typed b e.symm
    rw [hh] at hb
    exact hn cs fr (Option.some.inj hb).symm).trans hb
  refine ⟨h.ext.grown hg fun g hk => h.od.block_ge g hk, fun b cs e fr h4 h5 => up (h.ks b cs e fr h4 h5) fun cs2 fr2 he => h5 (by injection he), fun b h4 => up (h.md b h4) (by simp), ⟨h.sz.1, Nat.le_trans h.sz.2.1 hg.size, h.sz.2.2⟩, ?_, by rw [List.map_append]; exact ho, fun g hgg => ?_, ?_, ?_⟩
  · obtain ⟨es, c, h4, h5⟩ := h.mp
    exact ⟨es, c, up h4 (by simp), h5⟩
  · subst hu
    have hgg : g' = g := Option.some.inj hgg
    subst hgg
    rcases hf with h1 | h1
    · exact h.nc _ h1
    · intro e
      have := lt_of_heap h.cb
      omega
  · exact (hg.block cb (lt_of_heap h.cb) fun e => h.nc cb e.symm rfl).trans h.cb
  · exact h.mv.of_block fun g hk => by
      obtain ⟨cs, fr, hh⟩ := h.mv.typed g hk
      rw [up hh (fun cs2 fr2 he => by injection he with _ he; exact absurd he (by decide)), hh]
theorem BJ.moves {w S V V' : World} {mb cb : Nat} {x : Value} {mo ord : List Nat} {uo um u' : Value} {mvs : List Mv} {y : Mv} (h : BJ w S V mb cb x mo ord uo um mvs) (hg : V.grownBy V' um.ownBlock) (ho : Own Mv.cells 8 V' S.heap.size 97 u' (mvs ++ [y])) :
    BJ w S V' mb cb x mo ord uo u' (mvs ++ [y]) := by
  have up : ∀ {b : Nat} {o2 : Obj}, V.heap[b]? = some o2 → (∀ cs fr, o2 ≠ .cells cs 97 fr) → V'.heap[b]? = some o2 := fun {b o2} hb hn => (hg.block b (lt_of_heap hb) fun e => by
    obtain ⟨cs, fr, hh⟩ := h.mv.typed b e.symm
    rw [hh] at hb
    exact hn cs fr (Option.some.inj hb).symm).trans hb
  have low : ∀ {b : Nat} {o2 : Obj}, V.heap[b]? = some o2 → b < S.heap.size → V'.heap[b]? = some o2 := fun {b o2} hb hlt => (hg.block b (lt_of_heap hb) fun e => by have := h.mv.block_ge b e.symm; omega).trans hb
  refine ⟨h.ext.grown hg fun g hk => Nat.le_trans h.sz.1 (h.mv.block_ge g hk), fun b cs e fr h4 h5 => low (h.ks b cs e fr h4 h5) (lt_of_heap h4), fun b h4 => low (h.md b h4) (lt_of_heap h4), ⟨h.sz.1, Nat.le_trans h.sz.2.1 hg.size, h.sz.2.2⟩, ?_, ?_, h.nc, up h.cb (fun cs fr he => by injection he with _ he; exact absurd he (by decide)), ho⟩
  · obtain ⟨es, c, h4, h5⟩ := h.mp
    exact ⟨es, c, up h4 (by simp), h5⟩
  · exact h.od.of_block fun g hk => by
      obtain ⟨cs, fr, hh⟩ := h.od.typed g hk
      rw [up hh (fun cs2 fr2 he => by injection he with _ he; exact absurd he (by decide)), hh]
theorem BF.of_BJ {w S V : World} {n r4 r5 ob cb mb : Nat} {uS uo sv um x : Value} {oS o' : List Nat} {st : List (List Mv)} {mvs : List Mv} (hS : BF w S n r4 r5 ob cb mb uS sv oS st) (h : BJ w S V mb cb x o' o' uo um mvs) : BF w V n r4 r5 ob cb mb uo sv o' st :=
  ⟨h.ext, h.ks _ _ _ _ hS.b4 (by decide), h.ks _ _ _ _ hS.b5 (by decide), h.ks _ _ _ _ hS.bo (by decide), h.mp, h.od, h.nc, hS.co.keep h.sz.2.1 fun b cs e fr hk he => by rw [h.ks b cs e fr hk (by rcases he with rfl | rfl <;> decide), hk], hS.lo, hS.ne⟩
theorem BJ.start {w S : World} {n r4 r5 ob cb mb : Nat} {uo sv x : Value} {o : List Nat} {st : List (List Mv)} (hS : BF w S n r4 r5 ob cb mb uo sv o st) (hc : KBox S cb x) : BJ w S S mb cb x o o uo (.slice none 0 0) [] :=
  ⟨hS.ext, fun _ _ _ _ h _ => h, fun _ h => h, ⟨hS.ext.size, Nat.le_refl _, hS.lo.2.2.2.2⟩, hS.mp, hS.od, hS.nc, hc, Own.nil _ _ _ fun _ => rfl⟩
theorem states_up {V V1 V2 : World} {ob base : Nat} {sv sv' : Value} {vs : List Value} (hv : Own one 1 V base 95 sv vs) (hE : Ext V V1) (hg : V1.grownBy V2 sv.ownBlock) {b : Nat} {o2 : Obj} (hb : V.heap[b]? = some o2) (hn : b ≠ ob)
    (h2 : ∀ cs fr, o2 ≠ .cells cs 95 fr) : (V2.setCell ⟨ob, 1, none⟩ sv').heap[b]? = some o2 :=
  (Below.heap_setCell _ _ _ _ hn).trans ((hg.block b (Nat.lt_of_lt_of_le (lt_of_heap hb) hE.size) fun e => by
    obtain ⟨cs, fr, hh⟩ := hv.typed b e.symm
    rw [hh] at hb
    exact h2 cs fr (Option.some.inj hb).symm).trans ((hE.b.block b (lt_of_heap hb)).trans hb))
/-- A state more. -/
theorem BF.states {w V V1 V2 : World} {n r4 r5 ob cb mb : Nat} {uo sv sv' um : Value} {o : List Nat} {st : List (List Mv)} {mvs : List Mv} {vs : List Value} (h : BF w V n r4 r5 ob cb mb uo sv o st) (hl : vs.length = st.length)
    (hrows : ∀ (i : Nat) (v : Value) (xs : List Mv), vs[i]? = some v → st[i]? = some xs → RowE 97 Mv.cells 8 V v xs) (hv : Own one 1 V w.heap.size 95 sv vs) (hum : RowE 97 Mv.cells 8 V um mvs)
    (hE : Ext V V1) (hg : V1.grownBy V2 sv.ownBlock) (ho : Own one 1 V2 w.heap.size 95 sv' (vs ++ [um])) (hob : ∀ g, sv'.ownBlock = some g → g ≠ ob) : BF w (V2.setCell ⟨ob, 1, none⟩ sv') n r4 r5 ob cb mb uo sv' o (st ++ [mvs]) := by
  have up2 : ∀ {b : Nat} {o2 : Obj}, V.heap[b]? = some o2 → (∀ cs fr, o2 ≠ .cells cs 95 fr) → V2.heap[b]? = some o2 := fun {b o2} hb hn => (hg.block b (Nat.lt_of_lt_of_le (lt_of_heap hb) hE.size) fun e => by
    obtain ⟨cs, fr, hh⟩ := hv.typed b e.symm
    rw [hh] at hb
    exact hn cs fr (Option.some.inj hb).symm).trans ((hE.b.block b (lt_of_heap hb)).trans hb)
  have up : ∀ {b : Nat} {o2 : Obj}, V.heap[b]? = some o2 → b ≠ ob → (∀ cs fr, o2 ≠ .cells cs 95 fr) → (V2.setCell ⟨ob, 1, none⟩ sv').heap[b]? = some o2 := fun hb hn h2 => (Below.heap_setCell _ _ _ _ hn).trans (up2 hb h2)
  have hbo := up2 h.bo (fun cs fr he => by injection he with _ he; exact absurd he (by decide))
  have ne : ∀ {b cs e fr}, V.heap[b]? = some (Obj.cells cs e fr) → e ≠ 29 → b ≠ ob := fun hb he e => by
    subst e
    rw [h.bo] at hb
    injection hb with hb
    injection hb with _ hb
    exact he hb.symm
  have hsz : V.heap.size ≤ V2.heap.size := Nat.le_trans hE.size hg.size
  refine ⟨((h.ext.trans hE).grown hg fun g hk => hv.block_ge g hk).setCell (p := ⟨ob, 1, none⟩) h.lo.2.2.1 _, up h.b4 h.ne (fun cs fr he => by injection he with _ he; exact absurd he (by decide)), up h.b5 (ne h.b5 (by decide)) (fun cs fr he => by injection he with _ he; exact absurd he (by decide)), ?_, ?_, ?_, h.nc, ?_, h.lo, h.ne⟩
  · exact heap_set hbo _
  · obtain ⟨es, c, h4, h5⟩ := h.mp
    exact ⟨es, c, up h4 (fun e => by subst e; rw [h.bo] at h4; cases h4) (by simp), h5⟩
  · exact h.od.of_block fun g hk => by
      obtain ⟨cs, fr, hh⟩ := h.od.typed g hk
      rw [up hh (ne hh (by decide)) (fun cs2 fr2 he => by injection he with _ he; exact absurd he (by decide)), hh]
  · have hrow : ∀ (v : Value) (xs : List Mv), RowE 97 Mv.cells 8 V v xs → RowE 97 Mv.cells 8 (V2.setCell ⟨ob, 1, none⟩ sv') v xs := fun v xs hr => by
      have key : ∀ (a : Addr) (n c : Nat), v = .slice (some a) n c → (V2.setCell ⟨ob, 1, none⟩ sv').heap[a.block]? = V.heap[a.block]? := fun a n c hv => by
        obtain ⟨cs, fr, hh⟩ := hr.2 a n c hv
        rw [up hh (ne hh (by decide)) (fun cs2 fr2 he => by injection he with _ he; exact absurd he (by decide)), hh]
      refine ⟨hr.1.of_block (by simpa using hsz) key, fun a n c hv => ?_⟩
      obtain ⟨cs, fr, hh⟩ := hr.2 a n c hv
      exact ⟨cs, fr, (key a n c hv).trans hh⟩
    refine ⟨vs ++ [um], by simp [hl], ho.setNe (a := ⟨ob, 1, none⟩) (fun g hk => hob g hk) _, fun i v xs h1 h2 => ?_⟩
    rcases Nat.lt_or_ge i st.length with hi | hi
    · rw [List.getElem?_append_left (by omega)] at h1 h2
      exact hrow v xs (hrows i v xs h1 h2)
    · rw [List.getElem?_append_right (by omega)] at h1 h2
      have hz : i - st.length = 0 := by
        rcases Nat.eq_zero_or_pos (i - st.length) with h | h
        · exact h
        · rw [List.getElem?_eq_none (by simp only [List.length_cons, List.length_nil]; omega)] at h2; cases h2
      rw [hl, hz] at h1
      rw [hz] at h2
      cases h1; cases h2
      exact hrow um mvs hum
/-- An adversary whose slices lie in blocks of their own, from base on. -/
def AdvC (base : Nat) (W : World) (v : Value) (A : Adv) : Prop := ∃ sv, v = .agg #[.int .i64 A.n, sv] ∧ Coll 95 97 Mv.cells 8 W base sv A.st ∧ A.st.length ≤ 64
theorem AdvC.rep {base : Nat} {W : World} {v : Value} {A : Adv} (h : AdvC base W v A) : AdvRep W v A := by
  obtain ⟨sv, rfl, h1, h2⟩ := h
  exact ⟨sv, rfl, h1.rows2 (by omega)⟩
theorem AdvC.mono {base base' : Nat} {W : World} {v : Value} {A : Adv} (h : AdvC base W v A) (hb : base' ≤ base) : AdvC base' W v A := by
  obtain ⟨sv, rfl, h1, h2⟩ := h
  exact ⟨sv, rfl, h1.mono hb, h2⟩
theorem AdvC.ext {base : Nat} {W W' : World} {v : Value} {A : Adv} (h : AdvC base W v A) (hE : Ext W W') : AdvC base W' v A := by
  obtain ⟨sv, rfl, h1, h2⟩ := h
  exact ⟨sv, rfl, h1.ext hE, h2⟩
theorem AdvC.keep {base : Nat} {W W' : World} {v : Value} {A : Adv} (h : AdvC base W v A) (hs : W.heap.size ≤ W'.heap.size)
    (hb : ∀ (k : Nat) (cs : Array Value) (e : TypeId) (fr : Nat × Nat), W.heap[k]? = some (.cells cs e fr) → (e = 95 ∨ e = 97) → W'.heap[k]? = W.heap[k]?) : AdvC base W' v A := by
  obtain ⟨sv, rfl, h1, h2⟩ := h
  exact ⟨sv, rfl, h1.keep hs hb, h2⟩
/-- It survives a store into a result's box. -/
theorem AdvC.stored {base : Nat} {W : World} {v u : Value} {A : Adv} {b j : Nat} {cs : Array Value} {fr : Nat × Nat} (h : AdvC base W v A) (hb : W.heap[b]? = some (.cells cs 29 fr)) : AdvC base (W.setCell ⟨b, j, none⟩ u) v A :=
  h.keep (by simp) fun k cs2 e fr2 hk he => Below.heap_setCell _ _ _ _ fun e2 => by
    subst e2
    rw [hb] at hk
    injection hk with hk
    injection hk with _ hk
    rcases he with he | he <;> exact absurd (hk.trans he) (by decide)
theorem AdvC.stored2 {base : Nat} {W : World} {v u u' : Value} {A : Adv} {b : Nat} {cs : Array Value} (h : AdvC base W v A) (hb : W.heap[b]? = some (.cells cs 29 (0, 0))) : AdvC base ((W.setCell ⟨b, 0, none⟩ u).setCell ⟨b, 1, none⟩ u') v A :=
  (h.stored hb).stored (heap_set hb _)
/-- An adversary and an error in boxes. -/
theorem results_adv {fn : Func} {a b : Tmp} (h : fn.results = #[.cell a 29, .cell b 30]) {tmps : Array Value} {w : World} {p q : Nat} {n e : Int} {sv : Value} (ha : tmps.getD a undef = .pointer (some ⟨p, 0, none⟩)) (hb : tmps.getD b undef = .pointer (some ⟨q, 0, none⟩))
    (hp : w.heap[p]? = some (.cells #[.int .i64 n, sv] 29 (0, 0))) (hq : w.heap[q]? = some (.cells #[.int .i64 e] 30 (0, 0))) : (results fn tmps).run Try.prog w = .ok (.tuple #[.agg #[.int .i64 n, sv], .int .i64 e]) w := by
  rw [Array.getD_eq_getD_getElem?] at ha hb
  have p0 : w.cell? ⟨p, 0, none⟩ = some (.int .i64 n) := by rw [cell_of_row _ _ _ _ _ _ hp]; rfl
  have p1 : w.cell? ⟨p, 1, none⟩ = some sv := by rw [cell_of_row _ _ _ _ _ _ hp]; rfl
  have q0 : w.cell? ⟨q, 0, none⟩ = some (.int .i64 e) := by rw [cell_of_row _ _ _ _ _ _ hq]; rfl
  simp [results, h, ha, hb, go_sem, p0, p1, q0]
end Go.Proofs.Ytnhgdjiljjpgmaa
