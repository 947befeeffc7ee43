/-
  The reference of layer 17 (failure): number, faulty, Crash, Send.
  Conditions: none.
-/
import Derived.Test.YtdlhnpogddpmpaaGreatFailRE
import Derived.Test.YtdlhnpogddpmpaaGreatFailD
import Derived.Test.YtdlhnpogddpmpaaGreatFailT
namespace Go.Proofs.YtdlhnpogddpmpaaGreat
open Go.RowKit
attribute [local go_sem] Oper.semAt_some

/-- What the reference's build holds at the head of its loop. -/
structure RF (w V : World) (n ob : Nat) (uo sv : Value) (order : List Nat) (st : List (List Mv)) : Prop where
  ext : Ext w V
  bo : V.heap[ob]? = some (.cells #[.int .i64 n, sv] 26 (0, 0))
  od : Own icells 1 V w.heap.size 3 uo (order.map fun k : Nat => (k : Int))
  co : Coll 54 56 Mv.cells 8 V w.heap.size sv st
  lo : w.heap.size ≤ ob
theorem RF.ext' {w V V' : World} {n ob : Nat} {uo sv : Value} {order : List Nat} {st : List (List Mv)} (h : RF w V n ob uo sv order st) (hE : Ext V V') : RF w V' n ob uo sv order st :=
  ⟨h.ext.trans hE, (hE.b.block _ (lt_of_heap h.bo)).trans h.bo, h.od.ext hE, h.co.ext hE, h.lo⟩
/-- What it holds while a state's moves are laid, from the world S on. -/
structure RJ (w S V : World) (ord : List Nat) (uo um : Value) (mvs : List Mv) : Prop where
  ext : Ext w V
  ks : ∀ (b : Nat) (cs : Array Value) (e : TypeId) (fr : Nat × Nat), S.heap[b]? = some (.cells cs e fr) → e ≠ 3 → V.heap[b]? = some (.cells cs e fr)
  sz : w.heap.size ≤ S.heap.size ∧ S.heap.size ≤ V.heap.size
  od : Own icells 1 V w.heap.size 3 uo (ord.map fun k : Nat => (k : Int))
  mv : Own Mv.cells 8 V S.heap.size 56 um mvs
theorem RJ.ext' {w S V V' : World} {ord : List Nat} {uo um : Value} {mvs : List Mv} (h : RJ w S V ord uo um mvs) (hE : Ext V V') : RJ w S V' ord uo um mvs :=
  ⟨h.ext.trans hE, fun b cs e fr h1 h2 => (hE.b.block _ (lt_of_heap (h.ks b cs e fr h1 h2))).trans (h.ks b cs e fr h1 h2), ⟨h.sz.1, Nat.le_trans h.sz.2 hE.size⟩, h.od.ext hE, h.mv.ext hE⟩
theorem RJ.start {w S : World} {n ob : Nat} {uo sv : Value} {o : List Nat} {st : List (List Mv)} (hS : RF w S n ob uo sv o st) : RJ w S S o uo (.slice none 0 0) [] :=
  ⟨hS.ext, fun _ _ _ _ h _ => h, ⟨hS.ext.size, Nat.le_refl _⟩, hS.od, Own.nil _ _ _ fun _ => rfl⟩
theorem RJ.order {w S V V' : World} {ord : List Nat} {uo um u' : Value} {mvs : List Mv} {k : Nat} (h : RJ w S V ord uo um mvs) (hg : V.grownBy V' uo.ownBlock) (ho : Own icells 1 V' w.heap.size 3 u' ((ord.map fun k : Nat => (k : Int)) ++ [(k : Int)])) : RJ w S V' (ord ++ [k]) u' um mvs := by
  have up : ∀ {b : Nat} {o2 : Obj}, V.heap[b]? = some o2 → (∀ cs fr, o2 ≠ .cells cs 3 fr) → V'.heap[b]? = some o2 := fun {b o2} hb hn => (hg.block b (lt_of_heap hb) fun e => by
    obtain ⟨cs, fr, hh⟩ := h.od.typed b e.symm
    rw [hh] at hb
    exact hn cs fr (Option.some.inj hb).symm).trans hb
  refine ⟨h.ext.grown hg fun g hk => h.od.block_ge g hk, fun b cs e fr h4 h5 => up (h.ks b cs e fr h4 h5) fun cs2 fr2 he => h5 (by injection he), ⟨h.sz.1, Nat.le_trans h.sz.2 hg.size⟩, by rw [List.map_append]; exact ho, ?_⟩
  exact h.mv.of_block fun g hk => by
    obtain ⟨cs, fr, hh⟩ := h.mv.typed g hk
    rw [up hh (fun cs2 fr2 he => by injection he with _ he; exact absurd he (by decide)), hh]
theorem RJ.moves {w S V V' : World} {ord : List Nat} {uo um u' : Value} {mvs : List Mv} {y : Mv} (h : RJ w S V ord uo um mvs) (hg : V.grownBy V' um.ownBlock) (ho : Own Mv.cells 8 V' S.heap.size 56 u' (mvs ++ [y])) : RJ w S V' ord uo u' (mvs ++ [y]) := by
  have up : ∀ {b : Nat} {o2 : Obj}, V.heap[b]? = some o2 → (∀ cs fr, o2 ≠ .cells cs 56 fr) → V'.heap[b]? = some o2 := fun {b o2} hb hn => (hg.block b (lt_of_heap hb) fun e => by
    obtain ⟨cs, fr, hh⟩ := h.mv.typed b e.symm
    rw [hh] at hb
    exact hn cs fr (Option.some.inj hb).symm).trans hb
  have low : ∀ {b : Nat} {o2 : Obj}, V.heap[b]? = some o2 → b < S.heap.size → V'.heap[b]? = some o2 := fun {b o2} hb hlt => (hg.block b (lt_of_heap hb) fun e => by have := h.mv.block_ge b e.symm; omega).trans hb
  refine ⟨h.ext.grown hg fun g hk => Nat.le_trans h.sz.1 (h.mv.block_ge g hk), fun b cs e fr h4 h5 => low (h.ks b cs e fr h4 h5) (lt_of_heap h4), ⟨h.sz.1, Nat.le_trans h.sz.2 hg.size⟩, ?_, ho⟩
  exact h.od.of_block fun g hk => by
    obtain ⟨cs, fr, hh⟩ := h.od.typed g hk
    rw [up hh (fun cs2 fr2 he => by injection he with _ he; exact absurd he (by decide)), hh]
theorem RF.of_RJ {w S V : World} {n ob : Nat} {uS uo sv um : Value} {oS o' : List Nat} {st : List (List Mv)} {mvs : List Mv} (hS : RF w S n ob uS sv oS st) (h : RJ w S V o' uo um mvs) : RF w V n ob uo sv o' st :=
  ⟨h.ext, h.ks _ _ _ _ hS.bo (by decide), h.od, hS.co.keep h.sz.2 fun b cs e fr hk he => by rw [h.ks b cs e fr hk (by rcases he with rfl | rfl <;> decide), hk], hS.lo⟩
theorem RF.states {w V V1 V2 : World} {n ob : Nat} {uo sv sv' um : Value} {o : List Nat} {st : List (List Mv)} {mvs : List Mv} {vs : List Value} (h : RF w V n ob uo sv o st) (hl : vs.length = st.length)
    (hrows : ∀ (i : Nat) (v : Value) (xs : List Mv), vs[i]? = some v → st[i]? = some xs → RowE 56 Mv.cells 8 V v xs) (hv : Own one 1 V w.heap.size 54 sv vs) (hum : RowE 56 Mv.cells 8 V um mvs)
    (hE : Ext V V1) (hg : V1.grownBy V2 sv.ownBlock) (ho : Own one 1 V2 w.heap.size 54 sv' (vs ++ [um])) (hob : ∀ g, sv'.ownBlock = some g → g ≠ ob) : RF w (V2.setCell ⟨ob, 1, none⟩ sv') n ob uo sv' o (st ++ [mvs]) := by
  have up2 : ∀ {b : Nat} {o2 : Obj}, V.heap[b]? = some o2 → (∀ cs fr, o2 ≠ .cells cs 54 fr) → V2.heap[b]? = some o2 := fun {b o2} hb hn => (hg.block b (Nat.lt_of_lt_of_le (lt_of_heap hb) hE.size) fun e => by
    obtain ⟨cs, fr, hh⟩ := hv.typed b e.symm
    rw [hh] at hb
    exact hn cs fr (Option.some.inj hb).symm).trans ((hE.b.block b (lt_of_heap hb)).trans hb)
  have up : ∀ {b : Nat} {o2 : Obj}, V.heap[b]? = some o2 → b ≠ ob → (∀ cs fr, o2 ≠ .cells cs 54 fr) → (V2.setCell ⟨ob, 1, none⟩ sv').heap[b]? = some o2 := fun hb hn h2 => (Below.heap_setCell _ _ _ _ hn).trans (up2 hb h2)
  have hbo := up2 h.bo (fun cs fr he => by injection he with _ he; exact absurd he (by decide))
  have ne : ∀ {b cs e fr}, V.heap[b]? = some (Obj.cells cs e fr) → e ≠ 26 → b ≠ ob := fun hb he e => by
    subst e
    rw [h.bo] at hb
    injection hb with hb
    injection hb with _ hb
    exact he hb.symm
  have hsz : V.heap.size ≤ V2.heap.size := Nat.le_trans hE.size hg.size
  refine ⟨((h.ext.trans hE).grown hg fun g hk => hv.block_ge g hk).setCell (p := ⟨ob, 1, none⟩) h.lo _, heap_set hbo _, ?_, ?_, h.lo⟩
  · exact h.od.of_block fun g hk => by
      obtain ⟨cs, fr, hh⟩ := h.od.typed g hk
      rw [up hh (ne hh (by decide)) (fun cs2 fr2 he => by injection he with _ he; exact absurd he (by decide)), hh]
  · have hrow : ∀ (v : Value) (xs : List Mv), RowE 56 Mv.cells 8 V v xs → RowE 56 Mv.cells 8 (V2.setCell ⟨ob, 1, none⟩ sv') v xs := fun v xs hr => by
      have key : ∀ (a : Addr) (n c : Nat), v = .slice (some a) n c → (V2.setCell ⟨ob, 1, none⟩ sv').heap[a.block]? = V.heap[a.block]? := fun a n c hv => by
        obtain ⟨cs, fr, hh⟩ := hr.2 a n c hv
        rw [up hh (ne hh (by decide)) (fun cs2 fr2 he => by injection he with _ he; exact absurd he (by decide)), hh]
      refine ⟨hr.1.of_block (by simpa using hsz) key, fun a n c hv => ?_⟩
      obtain ⟨cs, fr, hh⟩ := hr.2 a n c hv
      exact ⟨cs, fr, (key a n c hv).trans hh⟩
    refine ⟨vs ++ [um], by simp [hl], ho.setNe (a := ⟨ob, 1, none⟩) (fun g hk => hob g hk) _, fun i v xs h1 h2 => ?_⟩
    rcases Nat.lt_or_ge i st.length with hi | hi
    · rw [List.getElem?_append_left (by omega)] at h1 h2
      exact hrow v xs (hrows i v xs h1 h2)
    · rw [List.getElem?_append_right (by omega)] at h1 h2
      have hz : i - st.length = 0 := by
        rcases Nat.eq_zero_or_pos (i - st.length) with h | h
        · exact h
        · rw [List.getElem?_eq_none (by simp only [List.length_cons, List.length_nil]; omega)] at h2; cases h2
      rw [hl, hz] at h1
      rw [hz] at h2
      cases h1; cases h2
      exact hrow um mvs hum
def findN (l : List Nat) (k : Nat) : Int := if k ∈ l then (l.idxOf k : Nat) else -1
theorem idxOf_at {l : List Nat} {k i : Nat} (h : l[i]? = some k) (hn : ∀ j, j < i → l[j]? ≠ some k) : l.idxOf k = i ∧ k ∈ l := by
  have hm := List.mem_of_getElem? h
  refine ⟨?_, hm⟩
  have hi : i < l.length := (List.getElem?_eq_some_iff.1 h).1
  have h1 : l.idxOf k < l.length := List.idxOf_lt_length_iff.2 hm
  have h2 : l[l.idxOf k]? = some k := by rw [List.getElem?_eq_getElem h1, List.getElem_idxOf]
  rcases Nat.lt_trichotomy (l.idxOf k) i with h3 | h3 | h3
  · exact absurd h2 (hn _ h3)
  · exact h3
  · have := List.not_of_lt_findIdx (p := (· == k)) (xs := l) (i := i) h3
    rw [List.getElem?_eq_getElem hi] at h
    injection h with h
    rw [h] at this
    simp at this
set_option maxRecDepth 16000 in
set_option maxHeartbeats 1000000 in
theorem rfind_any {l : List Nat} {k base : Nat} {u : Value} (w : World) (ho : Own icells 1 w base 3 u (l.map fun k : Nat => (k : Int))) (hl : l.length ≤ 100) :
    Calls Tryz.prog 94 #[u, .int .i64 k] w fun e w' => e = .returned (.int .i64 (findN l k)) ∧ w' = w := by
  obtain ⟨q, c, rfl⟩ := ho.sl
  rw [List.length_map] at ho ⊢
  have HO := hide ho
  generalize hln : l.length = ln at HO hl ⊢
  have HLN := hide hln
  clear ho hln
  have hnb : ln ≤ 100 := hl
  have hnb : ln ≤ 100 := hl
  have hnb : ln ≤ 100 := hl
  have hnb : ln ≤ 100 := hl
  have hnb : ln ≤ 100 := hl
  go_enter Tryz.func94, Tryz.ntmps94
  go_wp2_with fail
  go_loopw [5] (fun v V => ∃ i : Nat, i ≤ ln ∧ v = .int .i64 i ∧ V = w ∧ Hid (∀ j, j < i → l[j]? ≠ some k)) (fun v _ => ln - (intOf v).toNat)
  case atStart => exact ⟨0, Nat.zero_le _, rfl, rfl, fun j hj => absurd hj (Nat.not_lt_zero j)⟩
  case round =>
    obtain ⟨i, hi, rfl, rfl, HN⟩ := hrel
    by_cases hlt : i < ln
    · obtain ⟨x, hx⟩ : ∃ x, l[i]? = some x := ⟨_, List.getElem?_eq_getElem (by rw [HLN.out]; exact hlt)⟩
      obtain ⟨g, rfl⟩ : ∃ g, q = some ⟨g, 0, none⟩ := by
        rcases HO.out.form with ⟨-, h0⟩ | ⟨g, c', h, -⟩
        · rw [List.map_eq_nil_iff] at h0
          have := HLN.out
          rw [h0] at this; simp at this; omega
        · injection h with h1; exact ⟨g, h1⟩
      have gz : g < wr.heap.size := (HO.out.2.lt g rfl).2
      have g0 : wr.cell? ⟨g, i, none⟩ = some (.int .i64 x) := by
        have := own_at (w := wr) HO.out (i := i) (j := 0) (x := (x : Int)) (v := .int .i64 x) (by rw [List.getElem?_map, hx]; rfl) rfl
        simpa using this
      have hli : (i : Int) < (ln : Int) := by omega
      have HX := hide hx
      clear hx
      by_cases hxk : x = k
      · subst hxk
        have HR : Hid (findN l x = (i : Nat)) := by
          obtain ⟨h1, h2⟩ := idxOf_at HX.out HN.out
          show findN l x = _
          unfold findN; rw [if_pos h2, h1]
        go_wp2_with fail
        go_ret
        exact ⟨by rw [HR.out]; rfl, rfl⟩
      · have hd : ((x : Int) == (k : Int)) = false := by rw [beq_eq_false_iff_ne]; omega
        have hd2 : (x == k) = false := by rw [beq_eq_false_iff_ne]; exact hxk
        have HN2 : Hid (∀ j, j < i + 1 → l[j]? ≠ some k) := fun j hj => by
          rcases Nat.lt_succ_iff_lt_or_eq.1 hj with h | rfl
          · exact HN.out j h
          · rw [HX.out]; intro e; exact hxk (Option.some.inj e)
        clear hxk
        go_wp2_with fail
        go_roundw
        case rel => first
          | exact ⟨i + 1, by omega, by go_num, trivial, HN2⟩
          | ((repeat apply Exists.intro); exact ⟨⟨i + 1, by omega, by go_num, rfl, HN2⟩, rfl⟩)
        case measure => simp [intOf]; omega
    · have hil : i = ln := by omega
      subst hil
      have HR : Hid (findN l k = -1) := by
        show findN l k = _
        unfold findN
        rw [if_neg]
        intro hm
        obtain ⟨j, hj, e⟩ := List.mem_iff_getElem.1 hm
        exact HN.out j (by rw [← HLN.out]; exact hj) (by rw [List.getElem?_eq_getElem hj, e])
      go_wp2_with fail
      go_ret
      exact ⟨by rw [HR.out]; rfl, rfl⟩
/-- What edges tells of each state. -/
structure RAsk (op n num : Nat) (E : Nat → List Stp17) (K : Nat → Prop) : Prop where
  call : ∀ key W, K key → Calls Tryz.prog 93 #[.agg #[.int .i64 op, .int .i64 n, .int .i64 num], .int .i64 key] W fun e W' => ∃ v, e = .returned v ∧ Own stpC 8 W' W.heap.size 129 v (E key) ∧ Ext W W'
  zero : K 0
  next : ∀ key, K key → ∀ s ∈ E key, K s.2
  few : ∀ key, K key → key < 33
  len : ∀ key, K key → (E key).length ≤ 1073741824
set_option maxRecDepth 16000 in
set_option maxHeartbeats 8000000 in
theorem rbuild_any {op n num : Nat} {E : Nat → List Stp17} {K : Nat → Prop} (w : World) (H : RAsk op n num E K) :
    Calls Tryz.prog 65 #[.agg #[.int .i64 op, .int .i64 n, .int .i64 num]] w fun e w' => ∃ v, e = .returned (.tuple #[v, .int .i64 (buildA E n).2]) ∧ AdvC w.heap.size w' v (buildA E n).1 ∧ Ext w w' := by
  have HH := hide H
  clear H
  obtain ⟨w2, hw2⟩ : ∃ w2, (w.alloc (.cells #[.int .i64 op, .int .i64 n, .int .i64 num] 101)).alloc (.cells #[.int .i64 0, .slice none 0 0] 26) = w2 := ⟨_, rfl⟩
  have HE2 : Hid (Ext w w2) := by show Ext _ _; rw [← hw2]; exact ((Ext.refl w).alloc _).alloc _
  have HR : Hid (w2.heap[w.heap.size]? = some (.cells #[.int .i64 op, .int .i64 n, .int .i64 num] 101 (0, 0))) := by show _ = _; rw [← hw2]; exact (Below.heap_alloc _ _ _ (by simp)).trans (heap_alloc_new w _)
  have HZB : Hid (w2.heap[w.heap.size + 1]? = some (.cells #[.int .i64 0, .slice none 0 0] 26 (0, 0))) := by
    show _ = _
    rw [← hw2]
    have := heap_alloc_new (w.alloc (.cells #[.int .i64 op, .int .i64 n, .int .i64 num] 101)) (.cells #[.int .i64 0, .slice none 0 0] 26)
    rwa [World.size_alloc] at this
  have HS2 : Hid (w2.heap.size = w.heap.size + 1 + 1) := by show _ = _; rw [← hw2]; simp
  have HW2 := hide hw2
  clear hw2
  obtain ⟨resA, hresA⟩ : ∃ res, buildA E n = res := ⟨_, rfl⟩
  rw [hresA]
  have HRA := hide hresA
  clear hresA
  go_enter Tryz.func65, Tryz.ntmps65
  go_wp2_with fail
  rw [HW2.out]
  obtain ⟨W4, hW4⟩ : ∃ W4, (w2.alloc (.cells #[.int .i64 n, .slice none 0 0] 26)).alloc (.cells #[.int .i64 0] 3) = W4 := ⟨_, rfl⟩
  have HRF : Hid (RF w2 W4 n (w.heap.size + 1 + 1) (.slice (some ⟨w.heap.size + 1 + 1 + 1, 0, none⟩) 1 1) (.slice none 0 0) [0] []) := by
    have hs2 := HS2.out
    refine ⟨by rw [← hW4]; exact ((Ext.refl _).alloc _).alloc _, ?_, ⟨fun _ => rfl, rfl, .inr ⟨w.heap.size + 1 + 1 + 1, 1, #[.int .i64 0], rfl, by omega, ?_, by simp, by unfold maxLen; omega, rfl, rfl⟩⟩, Coll.nil _ _, by omega⟩
    · rw [← hW4, Below.heap_alloc _ _ _ (by simp; omega), ← hs2]
      exact heap_alloc_new _ _
    · rw [← hW4]
      have := heap_alloc_new (w2.alloc (.cells #[.int .i64 n, .slice none 0 0] 26)) (.cells #[.int .i64 0] 3)
      rwa [World.size_alloc, hs2] at this
  rw [hW4]
  clear hW4
  obtain ⟨ob, hob⟩ : ∃ ob, w.heap.size + 1 + 1 = ob := ⟨_, rfl⟩
  rw [hob] at HRF ⊢
  have HOB := hide hob
  clear hob
  go_loopw [5, 6, 7] (fun uk vt vs V => ∃ (i cnt : Nat) (order : List Nat) (st : List (List Mv)) (q : Option Addr) (c : Nat) (sv : Value), vs = .int .i64 i ∧ vt = .int .i64 cnt ∧ uk = .slice q order.length c ∧ Hid (RF w2 V n ob uk sv order st) ∧ Hid (BL E K n i cnt order st)) (fun _ _ vs _ => 64 - (intOf vs).toNat)
  case atStart => exact ⟨0, 0, [0], [], some ⟨ob + 1, 0, none⟩, 1, .slice none 0 0, rfl, rfl, rfl, HRF.out, BL.start HH.out.zero⟩
  case round =>
    clear HRF W4
    obtain ⟨i, cnt, order, st, uq, uc, sv, rfl, rfl, rfl, HRF, HBL⟩ := hrel
    obtain ⟨wq, hwq⟩ : ∃ wq, wq = wr := ⟨_, rfl⟩
    subst hwq
    have hfew := HBL.out.few HH.out.few
    have hrb : wq.heap[w.heap.size]? = some (.cells #[.int .i64 op, .int .i64 n, .int .i64 num] 101 (0, 0)) := (HRF.out.ext.b.block _ (lt_of_heap HR.out)).trans HR.out
    by_cases hlt : i < order.length
    · have hli : (i : Int) < (order.length : Int) := by omega
      obtain ⟨gu, rfl⟩ : ∃ gu, uq = some ⟨gu, 0, none⟩ := by
        rcases HRF.out.od.form with ⟨h, h0⟩ | ⟨g, c', h, -⟩
        · rw [List.map_eq_nil_iff] at h0
          rw [h0] at hlt; exact absurd hlt (Nat.not_lt_zero _)
        · injection h with h1; exact ⟨g, h1⟩
      have gz : gu < wq.heap.size := (HRF.out.od.2.lt gu rfl).2
      obtain ⟨key, hkey⟩ : ∃ key, order[i]? = some key := ⟨_, List.getElem?_eq_getElem hlt⟩
      have g0 : wq.cell? ⟨gu, i, none⟩ = some (.int .i64 key) := by
        have := own_at (w := wq) HRF.out.od (i := i) (j := 0) (x := (key : Int)) (v := .int .i64 key) (by rw [List.getElem?_map, hkey]; rfl) rfl
        simpa using this
      have HKEY := hide hkey
      obtain ⟨r0, r1, rz⟩ := cells_rule hrb
      have r2 : wq.cell? ⟨w.heap.size, 2, none⟩ = some (.int .i64 num) := cells_at hrb 2
      have HKK := hide (HBL.out.all key (List.mem_of_getElem? hkey))
      clear hkey hrb
      go_upto_region 7 with fail
      go_still_tail 5, (by kernel_rfl)
      change wpList _ _ _ _ _ wq.drew
      have HED : Hid (Ext wq wq.drew) := (Ext.refl wq).drew
      clear g0 gz r0 r1 r2 rz
      generalize wq.drew = w9 at HED ⊢
      go_wp2_with fail
      refine (HH.out.call key w9 HKK.out).mono ?_
      rintro e S ⟨v, rfl, hL, hES⟩
      obtain ⟨lq, lc, rfl⟩ := hL.sl
      have HL := hide hL
      have HES := hide (HED.out.trans hES)
      have HLB := hide (HH.out.len key HKK.out)
      obtain ⟨L, hLL⟩ : ∃ L, E key = L := ⟨_, rfl⟩
      rw [hLL] at HL HLB ⊢
      have HLL := hide hLL
      obtain ⟨ln, hln⟩ : ∃ ln, L.length = ln := ⟨_, rfl⟩
      rw [hln] at HL HLB ⊢
      have HLN := hide hln
      have HRS := hide (HRF.out.ext' HES.out)
      have hcnt := HBL.out.cn
      have hlb : ln ≤ 1073741824 := HLB.out
      have HOI : Hid (E order[i] = L) := by
        show _ = _
        have h1 := HKEY.out
        rw [List.getElem?_eq_getElem hlt] at h1
        rw [Option.some.inj h1, HLL.out]
      clear hL hES hLL hln HED
      by_cases hmany : 4096 < cnt + ln
      · have HRES : Hid (resA = (⟨0, []⟩, 17)) := by
          show _ = _
          rw [← HRA.out]
          exact HBL.out.stop HH.out.few hlt (by rw [HOI.out, HLN.out]; exact hmany)
        have hzb : S.heap[w.heap.size + 1]? = some (.cells #[.int .i64 0, .slice none 0 0] 26 (0, 0)) := (HRS.out.ext.b.block _ (lt_of_heap HZB.out)).trans HZB.out
        have a0 : S.cell? ⟨w.heap.size + 1, 0, none⟩ = some (.int .i64 0) := cells_at hzb 0
        have a1 : S.cell? ⟨w.heap.size + 1, 1, none⟩ = some (.slice none 0 0) := cells_at hzb 1
        have af : S.frozen? ⟨w.heap.size + 1, 0, none⟩ = false := frozen_of hzb
        have af1 : S.frozen? ⟨w.heap.size + 1, 1, none⟩ = false := frozen_of hzb
        have az := lt_of_heap hzb
        have HZS := hide hzb
        have hm3 : (4096 : Int) < (cnt : Int) + (ln : Int) := by omega
        have HEW := hide (HE2.out.trans HRS.out.ext)
        clear hzb
        go_wp2_with fail
        refine bodyPost_ret (results_adv1 rfl rfl rfl (heap_set (heap_set HZS.out _) _)) rfl ⟨_, by rw [HRES.out]; rfl, by rw [HRES.out]; exact AdvC.zero _ _, (HEW.out.setCell (p := ⟨w.heap.size + 1, 0, none⟩) (by show w.heap.size ≤ w.heap.size + 1; omega) _).setCell (p := ⟨w.heap.size + 1, 1, none⟩) (by show w.heap.size ≤ w.heap.size + 1; omega) _⟩
      · have HIN0 : Hid (∀ j, j ≤ ln → (keysR order (L.take j)).length ≤ 33) := fun j _ => nodup_few 33 _ (keysR_nodup _ _ HBL.out.nd) (keysR_all _ _ (fun k hk => HH.out.few k (HBL.out.all k hk)) fun s hs => HH.out.few _ (HH.out.next key HKK.out s (by rw [HLL.out]; exact List.mem_of_mem_take hs)))
        have hm3 : ¬ (4096 : Int) < (cnt : Int) + (ln : Int) := by omega
        have hlc : ln ≤ 4096 := by omega
        go_upto_region 13 with fail
        have HRJ0 := hide (RJ.start HRS.out)
        go_loopw [5, 9, 10, 11] (fun uk um vi _ V => ∃ (j : Nat) (mq : Option Addr) (mc go oc : Nat), j ≤ ln ∧ vi = .int .i64 j ∧ um = .slice mq j mc ∧ uk = .slice (some ⟨go, 0, none⟩) (keysR order (L.take j)).length oc ∧
            Hid (RJ w2 S V (keysR order (L.take j)) uk um ((movesR order L).take j))) (fun _ _ vi _ _ => ln - (intOf vi).toNat)
        case atStart => exact ⟨0, none, 0, gu, uc, Nat.zero_le _, rfl, rfl, rfl, HRJ0.out⟩
        case round =>
          obtain ⟨j, mq, mc, go, oc, hj, rfl, rfl, rfl, HI⟩ := hrel
          by_cases hltj : j < ln
          · obtain ⟨s, hs⟩ : ∃ s, L[j]? = some s := ⟨_, List.getElem?_eq_getElem (by rw [HLN.out]; exact hltj)⟩
            obtain ⟨gl, rfl, -, -⟩ := own_eaddr HL.out (i := j) (by rw [HLN.out]; exact hltj)
            have HLV : Hid (Own stpC 8 wr w9.heap.size 129 (.slice (some ⟨gl, 0, none⟩) ln lc) L) := HL.out.of_block fun g hg => by
              obtain ⟨c2, fr, hh⟩ := HL.out.typed g hg
              rw [HI.out.ks g _ _ _ hh (by decide), hh]
            obtain ⟨y0, y1, y2, y3, y4, y5, y6, y7, yz⟩ := own_edge HLV.out hs
            have hlj : (j : Int) < (ln : Int) := by omega
            have HSJ := hide hs
            have HKS : Hid (keysR order (L.take (j + 1)) = keyStep (keysR order (L.take j)) s) := keysR_take hs
            have HIN : Hid (s.2 ∈ keysR order (L.take (j + 1))) := by show _ ∈ _; rw [keysR_take hs]; exact keyStep_mem _ _
            obtain ⟨oj, hoj⟩ : ∃ oj, keysR order (L.take j) = oj := ⟨_, rfl⟩
            have HLJ : Hid (oj.length ≤ 33) := by show _ ≤ _; rw [← hoj]; exact HIN0.out j (by omega)
            rw [hoj] at HI HKS ⊢
            have HOJ := hide hoj
            have HFD := hide (rfind_any (k := s.2) wr HI.out.od (by have := HLJ.out; omega))
            clear hs hoj
            go_wp2_with fail
            refine HFD.out.mono ?_
            rintro e w' ⟨rfl, hw'⟩
            rw [hw']
            clear hw' w'
            by_cases hin : s.2 ∈ oj
            · have HK1 : Hid (keysR order (L.take (j + 1)) = oj) := by show _ = _; rw [HKS.out]; unfold keyStep; rw [if_pos hin]
              have HKV : Hid (findN oj s.2 = ((keysR order (L.take (j + 1))).idxOf s.2 : Nat)) := by show _ = _; rw [HK1.out]; unfold findN; rw [if_pos hin]
              have HB2 : Hid (RJ w2 S wr (keysR order (L.take (j + 1))) (.slice (some ⟨go, 0, none⟩) oj.length oc) (.slice mq j mc) ((movesR order L).take j)) := by rw [HK1.out]; exact HI.out
              have HLV2 := HLV
              obtain ⟨fv, hfv⟩ : ∃ fv, findN oj s.2 = fv := ⟨_, rfl⟩
              rw [hfv] at HKV ⊢
              have hpos : ¬ fv < 0 := by have := HKV.out; omega
              have hdn : decide (fv < 0) = false := decide_eq_false hpos
              clear hin hfv y0 y1 y2 y3 y4 y5 y6 y7 yz
              go_upto_region 19 with fail
              have hkk := HKV.out
              subst hkk
              obtain ⟨idx, hidx⟩ : ∃ idx, (keysR order (L.take (j + 1))).idxOf s.2 = idx := ⟨_, rfl⟩
              have HIDX := hide hidx
              rw [hidx]
              clear hidx
              obtain ⟨y0, y1, y2, y3, y4, y5, y6, y7, yz⟩ := own_edge HLV2.out HSJ.out
              have HNEW : Hid (∀ t u, (Mv.cells ⟨s.1, (idx : Int)⟩)[t]? = some u → (wr.alloc (.cells #[.int .i64 s.1.g.n, .int .i64 s.1.g.h0, .int .i64 s.1.g.h1, .int .i64 s.1.g.h2, .int .i64 s.1.g.h3, .int .i64 s.1.g.h4, .int .i64 s.1.f, .int .i64 (idx : Nat)] 56)).cell? ⟨wr.heap.size, t, none⟩ = some u) := fun t u h => by
                rw [cell_of_row _ _ _ _ _ _ (heap_alloc_new wr _), ← h, ← List.getElem?_toArray]
              have HLM : Hid (((movesR order L).take j).length = j) := by show _ = _; rw [List.length_take, movesR_len]; have h1 := HLN.out; omega
              have HMT : Hid ((movesR order L).take (j + 1) = (movesR order L).take j ++ [⟨s.1, (idx : Int)⟩]) := by show _ = _; rw [movesR_take HSJ.out, HIDX.out]
              go_wp2_with (at_builtin; refine wpList_append1 rfl (.tmp 60) (.tmp 68) 54 rfl S.heap.size 56 (Mv.v default) 8 64 Tryz.underlying54 move_info17 rfl (by decide) _ ((movesR order L).take j) ⟨s.1, (idx : Int)⟩ wr.heap.size rfl (HB2.out.mv.alloc _) rfl HNEW.out (mv_one17 _) (by rw [HLM.out]; omega) (by decide) (by simp only [World.size_alloc]; have h1 := HB2.out.sz.2; omega) ?_; intro v' V4 hO4 hg4 hf4; rw [HLM.out] at hf4; obtain ⟨g4, c4, rfl, hgf4⟩ := hf4; have HB4 := hide ((HB2.out.ext' ((Ext.refl wr).alloc _)).moves hg4 hO4); clear hO4 hg4 hgf4 y0 y1 y2 y3 y4 y5 y6 y7 yz)
              go_roundw
              case rel => first
                | exact ⟨j + 1, some ⟨g4, 0, none⟩, c4, go, oc, by omega, by go_num, rfl, by rw [HK1.out], by rw [HMT.out]; exact HB4.out⟩
                | ((repeat apply Exists.intro); exact ⟨⟨j + 1, some ⟨g4, 0, none⟩, c4, go, oc, by omega, by go_num, rfl, by rw [HK1.out], by rw [HMT.out]; exact HB4.out⟩, rfl⟩)
              case measure => simp [intOf]; omega
            · have HK1 : Hid (keysR order (L.take (j + 1)) = oj ++ [s.2]) := by show _ = _; rw [HKS.out]; unfold keyStep; rw [if_neg hin]
              have HKV : Hid (((keysR order (L.take (j + 1))).idxOf s.2) = oj.length) := by
                show _ = _
                rw [HK1.out, List.idxOf_append, if_neg hin]; simp
              have HFV : Hid (findN oj s.2 = -1) := by show findN oj s.2 = _; unfold findN; rw [if_neg hin]
              have hlj33 := HLJ.out
              rw [HFV.out]
              clear hin
              go_upto_region 19 with (at_builtin; refine wpList_append1 rfl (.tmp 52) (.tmp 58) 48 rfl w2.heap.size 3 (.int .i64 0) 1 8 Tryz.underlying48 int_info rfl (by decide) _ (oj.map fun k : Nat => (k : Int)) (s.2 : Int) wr.heap.size rfl (HI.out.od.alloc _) rfl (cell_new1 _ _ _) (int_one _) (by rw [List.length_map]; have h1 := HLJ.out; omega) (by decide) (by simp only [World.size_alloc]; have h1 := HI.out.ext.size; omega) ?_; intro v' V2 hO5 hg5 hf5; rw [List.length_map] at hf5; obtain ⟨g5, c5, rfl, hgf5⟩ := hf5; have HB5 := hide ((HI.out.ext' ((Ext.refl wr).alloc _)).order hg5 hO5); clear hO5 hg5 hgf5 y0 y1 y2 y3 y4 y5 y6 y7 yz)
              have HB2 : Hid (RJ w2 S V2 (keysR order (L.take (j + 1))) (.slice (some ⟨g5, 0, none⟩) (oj.length + 1) c5) (.slice mq j mc) ((movesR order L).take j)) := by rw [HK1.out]; exact HB5.out
              have HLV2 : Hid (Own stpC 8 V2 w9.heap.size 129 (.slice (some ⟨gl, 0, none⟩) ln lc) L) := HL.out.of_block fun g hg => by
                obtain ⟨c2, fr, hh⟩ := HL.out.typed g hg
                rw [HB5.out.ks g _ _ _ hh (by decide), hh]
              have HOL : Hid (oj.length + 1 = (keysR order (L.take (j + 1))).length) := by show _ = _; rw [HK1.out, List.length_append]; rfl
              clear HB5
              obtain ⟨idx, hidx⟩ : ∃ idx, oj.length = idx := ⟨_, rfl⟩
              rw [hidx] at HKV HB2 HOL ⊢
              have HIDX := HKV
              clear hidx hlj33
              obtain ⟨y0, y1, y2, y3, y4, y5, y6, y7, yz⟩ := own_edge HLV2.out HSJ.out
              have HNEW : Hid (∀ t u, (Mv.cells ⟨s.1, (idx : Int)⟩)[t]? = some u → (V2.alloc (.cells #[.int .i64 s.1.g.n, .int .i64 s.1.g.h0, .int .i64 s.1.g.h1, .int .i64 s.1.g.h2, .int .i64 s.1.g.h3, .int .i64 s.1.g.h4, .int .i64 s.1.f, .int .i64 (idx : Nat)] 56)).cell? ⟨V2.heap.size, t, none⟩ = some u) := fun t u h => by
                rw [cell_of_row _ _ _ _ _ _ (heap_alloc_new V2 _), ← h, ← List.getElem?_toArray]
              have HLM : Hid (((movesR order L).take j).length = j) := by show _ = _; rw [List.length_take, movesR_len]; have h1 := HLN.out; omega
              have HMT : Hid ((movesR order L).take (j + 1) = (movesR order L).take j ++ [⟨s.1, (idx : Int)⟩]) := by show _ = _; rw [movesR_take HSJ.out, HIDX.out]
              go_wp2_with (at_builtin; refine wpList_append1 rfl (.tmp 60) (.tmp 68) 54 rfl S.heap.size 56 (Mv.v default) 8 64 Tryz.underlying54 move_info17 rfl (by decide) _ ((movesR order L).take j) ⟨s.1, (idx : Int)⟩ V2.heap.size rfl (HB2.out.mv.alloc _) rfl HNEW.out (mv_one17 _) (by rw [HLM.out]; omega) (by decide) (by simp only [World.size_alloc]; have h1 := HB2.out.sz.2; omega) ?_; intro v' V4 hO4 hg4 hf4; rw [HLM.out] at hf4; obtain ⟨g4, c4, rfl, hgf4⟩ := hf4; have HB4 := hide ((HB2.out.ext' ((Ext.refl V2).alloc _)).moves hg4 hO4); clear hO4 hg4 hgf4 y0 y1 y2 y3 y4 y5 y6 y7 yz)
              go_roundw
              case rel => first
                | exact ⟨j + 1, some ⟨g4, 0, none⟩, c4, g5, c5, by omega, by go_num, rfl, by rw [← HOL.out], by rw [HMT.out]; exact HB4.out⟩
                | ((repeat apply Exists.intro); exact ⟨⟨j + 1, some ⟨g4, 0, none⟩, c4, g5, c5, by omega, by go_num, rfl, by rw [← HOL.out], by rw [HMT.out]; exact HB4.out⟩, rfl⟩)
              case measure => simp [intOf]; omega
          · have hjl : j = ln := by omega
            subst hjl
            rw [show L.take j = L from List.take_of_length_le (by rw [HLN.out]; exact Nat.le_refl _)] at HI ⊢
            rw [show (movesR order L).take j = movesR order L from List.take_of_length_le (by rw [movesR_len, HLN.out]; exact Nat.le_refl _)] at HI
            have HBV := hide (RF.of_RJ HRS.out HI.out)
            have HMO := hide HI.out.mv
            obtain ⟨vs, hvl, hvo, hvr⟩ := HBV.out.co
            have HVL := hide hvl
            have HVO := hide hvo
            have HVR := hide hvr
            obtain ⟨svq, svc, hsv⟩ := hvo.sl
            rw [hvl] at hsv
            have HSV := hide hsv
            have hst : st.length = i := HBL.out.sl
            clear hvl hvo hvr hsv HI
            have b0 : wr.cell? ⟨ob, 0, none⟩ = some (.int .i64 n) := cells_at HBV.out.bo 0
            have b1 : wr.cell? ⟨ob, 1, none⟩ = some (.slice svq st.length svc) := by rw [← HSV.out]; exact cells_at HBV.out.bo 1
            have bz := lt_of_heap HBV.out.bo
            have bf : wr.frozen? ⟨ob, 1, none⟩ = false := frozen_of HBV.out.bo
            have hsl : (st.length : Nat) ≤ 33 := by omega
            go_wp2_with (at_builtin; refine wpList_append1 (enc := one) rfl (.tmp 71) (.tmp 73) 24 rfl w2.heap.size 54 (.slice none 0 0) 1 24 Tryz.underlying24 mslice_info17 rfl (by decide) sv vs (.slice mq j mc) wr.heap.size (by rw [HSV.out, hst]; rfl) (HVO.out.alloc _) rfl (cell_new1 _ _ _) (fun u hu => by simp only [one, List.mem_singleton] at hu; subst hu; rfl) (by rw [HVL.out]; omega) (by decide) (by simp only [World.size_alloc]; have h1 := HBV.out.ext.size; omega) ?_; intro v' V5 hO5 hg5 hf5; rw [HVL.out] at hf5; obtain ⟨g5, c5, rfl, hgf5⟩ := hf5; have hb5 : V5.heap[ob]? = some (.cells #[.int .i64 n, sv] 26 (0, 0)) := (hg5.block ob (by simp only [World.size_alloc]; omega) (fun e => by obtain ⟨cs2, fr2, hh⟩ := HVO.out.typed ob e.symm; rw [HBV.out.bo] at hh; injection hh with hh; injection hh with _ hh; exact absurd hh (by decide))).trans ((Below.heap_alloc _ _ _ bz).trans HBV.out.bo); have b50 : V5.cell? ⟨ob, 0, none⟩ = some (.int .i64 n) := cells_at hb5 0; have b51 : V5.cell? ⟨ob, 1, none⟩ = some sv := cells_at hb5 1; have b5f : V5.frozen? ⟨ob, 1, none⟩ = false := frozen_of hb5; have b5z := lt_of_heap hb5; have HO5 := hide hO5; have HG5 := hide hg5; have HGF5 := hide hgf5; rw [HSV.out] at b51; clear hO5 hg5 hgf5 hb5 b0 b1 bz bf)
            have hE5 : Ext wr (wr.alloc (.cells #[.slice mq j mc] 54)) := (Ext.refl wr).alloc _
            have hg5 : (wr.alloc (.cells #[.slice mq j mc] 54)).grownBy V5 sv.ownBlock := HG5.out
            have hu5 : (wr.alloc (.cells #[.slice mq j mc] 54)).heap.size = wr.heap.size + 1 := by simp
            have hgf5 : sv.ownBlock = some g5 ∨ g5 = (wr.alloc (.cells #[.slice mq j mc] 54)).heap.size := HGF5.out
            generalize wr.alloc (.cells #[.slice mq j mc] 54) = Va at hE5 hg5 hu5 hgf5
            have ho5 : Own one 1 V5 w2.heap.size 54 (.slice (some ⟨g5, 0, none⟩) (i + 1) c5) (vs ++ [.slice mq j mc]) := by
              have := HO5.out
              rw [hst] at this
              exact this
            have hg5ne : g5 ≠ ob := by
              rcases hgf5 with h | h
              · intro e
                obtain ⟨cs2, fr2, hh⟩ := HVO.out.typed g5 h
                rw [e, HBV.out.bo] at hh
                injection hh with hh
                injection hh with _ hh
                exact absurd hh (by decide)
              · have := lt_of_heap HBV.out.bo
                omega
            have hmv := HMO.out
            have HRF2 := hide (HBV.out.states HVL.out HVR.out HVO.out (hmv.rowE (by rw [movesR_len, HLN.out]; omega)) hE5 hg5 ho5 (fun g hg => by
              have hg : g5 = g := Option.some.inj hg
              rw [← hg]; exact hg5ne))
            have HNX : Hid (BL E K n (i + 1) (cnt + j) (keysR order L) (st ++ [movesR order L])) := by
              have hnext := HBL.out.next HH.out.few HH.out.next hlt (by rw [HOI.out, HLN.out]; omega)
              rw [HOI.out, HLN.out] at hnext
              exact hnext
            clear hE5 hg5 hu5 hgf5 ho5 hg5ne hmv b50 b51 b5f b5z
            go_roundw
            case rel => first
              | exact ⟨i + 1, cnt + j, keysR order L, st ++ [movesR order L], some ⟨go, 0, none⟩, oc, .slice (some ⟨g5, 0, none⟩) (i + 1) c5, by go_num, by go_num, rfl, HRF2.out, HNX.out⟩
              | ((repeat apply Exists.intro); exact ⟨⟨i + 1, cnt + j, keysR order L, st ++ [movesR order L], some ⟨go, 0, none⟩, oc, .slice (some ⟨g5, 0, none⟩) (i + 1) c5, by go_num, by go_num, rfl, HRF2.out, HNX.out⟩, rfl⟩)
            case measure => simp [intOf]; omega
    · have hli : ¬ ((i : Int) < (order.length : Int)) := by omega
      have HRES : Hid (resA = (⟨n, st⟩, 0)) := by show _ = _; rw [← HRA.out]; exact HBL.out.done HH.out.few hlt
      have HSL := hide HBL.out.sl
      have hle := HBL.out.le
      obtain ⟨svq, svc, hsv⟩ := HRF.out.co.sl
      have hzb : wq.heap[w.heap.size + 1]? = some (.cells #[.int .i64 0, .slice none 0 0] 26 (0, 0)) := (HRF.out.ext.b.block _ (lt_of_heap HZB.out)).trans HZB.out
      have a0 : wq.cell? ⟨w.heap.size + 1, 0, none⟩ = some (.int .i64 0) := cells_at hzb 0
      have a1 : wq.cell? ⟨w.heap.size + 1, 1, none⟩ = some (.slice none 0 0) := cells_at hzb 1
      have af : wq.frozen? ⟨w.heap.size + 1, 0, none⟩ = false := frozen_of hzb
      have af1 : wq.frozen? ⟨w.heap.size + 1, 1, none⟩ = false := frozen_of hzb
      have az := lt_of_heap hzb
      have b0 : wq.cell? ⟨ob, 0, none⟩ = some (.int .i64 n) := cells_at HRF.out.bo 0
      have b1 : wq.cell? ⟨ob, 1, none⟩ = some (.slice svq st.length svc) := by rw [← hsv]; exact cells_at HRF.out.bo 1
      have bz := lt_of_heap HRF.out.bo
      have HZS := hide hzb
      have HAD : Hid (AdvC w2.heap.size wq (.agg #[.int .i64 n, .slice svq st.length svc]) ⟨n, st⟩) := ⟨_, rfl, hsv ▸ HRF.out.co, by show st.length ≤ 64; have := HSL.out; omega⟩
      have HEW := hide (HE2.out.trans HRF.out.ext)
      have HZL : Hid (w.heap.size ≤ w2.heap.size) := HE2.out.size
      clear hzb hsv hrb hle hlt
      go_wp2_with fail
      exact bodyPost_ret (results_adv1 rfl rfl rfl (heap_set (heap_set HZS.out _) _)) rfl ⟨_, by rw [HRES.out]; rfl, by rw [HRES.out]; exact (HAD.out.stored2 HZS.out).mono HZL.out, (HEW.out.setCell (p := ⟨w.heap.size + 1, 0, none⟩) (by show w.heap.size ≤ w.heap.size + 1; omega) _).setCell (p := ⟨w.heap.size + 1, 1, none⟩) (by show w.heap.size ≤ w.heap.size + 1; omega) _⟩
end Go.Proofs.YtdlhnpogddpmpaaGreat

namespace Go.Proofs.YtdlhnpogddpmpaaGreat
open Go.RowKit
attribute [local go_sem] Oper.semAt_some

theorem ref_ask {op n num : Nat} (hop : 1 ≤ op ∧ op ≤ 4) (hn : n ≤ 5) (hnum : num ≤ n) : RAsk op n num (edgesB ⟨op, n, num⟩) (fun key => key < 2 ^ n ∧ sizeN key ≤ num) where
  call := fun key W hk => by
    have h := redgesF_any (num := num) hop hn (show key < 32 by have := pow32_le hn; omega) (by omega) W
    have e : edgesB ⟨op, n, num⟩ key = sortR (faultsB ⟨op, n, num⟩ key) := by unfold edgesB; rw [if_neg (show ¬ op = 5 by omega)]
    rw [e]
    exact h
  zero := ⟨Nat.two_pow_pos _, by have : sizeN 0 = 0 := by decide
                                 omega⟩
  next := fun key _ s hs => edges_mem hop hs
  few := fun key hk => by have := pow32_le hn; omega
  len := fun key hk => by
    unfold edgesB
    rw [if_neg (show ¬ op = 5 by omega), (sortR_perm _).length_eq]
    exact faults_len hn
def numE (n num most : Int) : Int := if n < 1 ∨ 5 < n ∨ num < 0 ∨ most < num then 2 else 0
theorem rnum17_any (n num most : Int) (w : World) : Calls Tryz.prog 64 #[.int .i64 n, .int .i64 num, .int .i64 most] w fun e w' => e = .returned (.int .i64 (numE n num most)) ∧ w' = w := by
  obtain ⟨r, hr⟩ : ∃ r, numE n num most = r := ⟨_, rfl⟩
  rw [hr]
  by_cases hb : n < 1 ∨ 5 < n ∨ num < 0 ∨ most < num
  · have hr2 : r = 2 := hr.symm.trans (if_pos hb)
    subst hr2
    clear hr
    go_enter Tryz.func64, Tryz.ntmps64
    go_wp2_with fail
    all_goals first
      | (go_ret; exact ⟨rfl, rfl⟩)
      | (exfalso; omega)
  · have hr2 : r = 0 := hr.symm.trans (if_neg hb)
    subst hr2
    have h1 : ¬ n < 1 := by omega
    have h2 : ¬ 5 < n := by omega
    have h3 : ¬ num < 0 := by omega
    have h4 : ¬ most < num := by omega
    clear hr hb
    go_enter Tryz.func64, Tryz.ntmps64
    go_wp2_with fail
    go_ret
    exact ⟨rfl, rfl⟩
set_option maxHeartbeats 1000000 in
theorem rfaulty_any {op : Nat} (hop : 1 ≤ op ∧ op ≤ 4) (n f : Int) (w : World) : Calls Tryz.prog 35 #[.int .i64 op, .int .i64 n, .int .i64 f] w (RetF (refA op n f) w) := by
  have HNU := hide (fun W => rnum17_any n f n W)
  obtain ⟨w2, hw2⟩ : ∃ w2, w.alloc (.cells #[.int .i64 0, .slice none 0 0] 26) = w2 := ⟨_, rfl⟩
  have HE : Hid (Ext w w2) := by show Ext _ _; rw [← hw2]; exact (Ext.refl w).alloc _
  have HP : Hid (w2.heap[w.heap.size]? = some (.cells #[.int .i64 0, .slice none 0 0] 26 (0, 0))) := by show _ = _; rw [← hw2]; exact heap_alloc_new w _
  have HW := hide hw2
  clear hw2
  by_cases hb : n < 1 ∨ 5 < n ∨ f < 0 ∨ n < f
  · rw [show numE n f n = 2 from if_pos hb] at HNU
    rw [show refA op n f = (⟨0, []⟩, 2) from if_pos hb]
    clear hb
    go_enter Tryz.func35, Tryz.ntmps35
    go_wp2_with (go_at_call 64; refine (HNU.out _).mono ?_; rintro e w3 ⟨rfl, rfl⟩)
    rw [HW.out]
    exact bodyPost_ret (results_adv1 rfl rfl rfl HP.out) rfl ⟨_, rfl, AdvC.zero _ _, HE.out⟩
  · obtain ⟨m, rfl⟩ : ∃ m : Nat, n = m := ⟨n.toNat, by omega⟩
    obtain ⟨k, rfl⟩ : ∃ k : Nat, f = k := ⟨f.toNat, by omega⟩
    rw [show numE (m : Int) (k : Int) (m : Int) = 0 from if_neg hb] at HNU
    have e : refA op (m : Int) (k : Int) = buildA (edgesB ⟨op, m, k⟩) m := by unfold refA; rw [if_neg hb, Int.toNat_natCast, Int.toNat_natCast]
    rw [e]
    have HB := hide (fun W => rbuild_any W (ref_ask (op := op) (n := m) (num := k) hop (by omega) (by omega)))
    generalize buildA (edgesB ⟨op, m, k⟩) m = res at HB ⊢
    clear e hb
    go_enter Tryz.func35, Tryz.ntmps35
    go_wp2_with (go_at_call 64; refine (HNU.out _).mono ?_; rintro e w3 ⟨rfl, rfl⟩)
    rw [HW.out]
    refine (HB.out w2).mono ?_
    rintro e w3 ⟨v, rfl, hv, hE3⟩
    obtain ⟨sv, rfl, hco, -⟩ := id hv
    obtain ⟨sq, sc, rfl⟩ := hco.sl
    clear hco
    have hp3 := (hE3.b.block _ (lt_of_heap HP.out)).trans HP.out
    have a0 : w3.cell? ⟨w.heap.size, 0, none⟩ = some (.int .i64 0) := cells_at hp3 0
    have a1 : w3.cell? ⟨w.heap.size, 1, none⟩ = some (.slice none 0 0) := cells_at hp3 1
    have af : w3.frozen? ⟨w.heap.size, 0, none⟩ = false := frozen_of hp3
    have af1 : w3.frozen? ⟨w.heap.size, 1, none⟩ = false := frozen_of hp3
    have az := lt_of_heap hp3
    have HP3 := hide hp3
    have HV := hide hv
    have HE3 := hide (HE.out.trans hE3)
    have HZ2 : Hid (w.heap.size ≤ w2.heap.size) := HE.out.size
    clear hp3 hv hE3
    go_wp2_with fail
    exact bodyPost_ret (results_adv1 rfl rfl rfl (heap_set (heap_set HP3.out _) _)) rfl ⟨_, rfl, (HV.out.stored2 HP3.out).mono HZ2.out, (HE3.out.setCell (p := ⟨w.heap.size, 0, none⟩) (Nat.le_refl _) _).setCell (p := ⟨w.heap.size, 1, none⟩) (Nat.le_refl _) _⟩
end Go.Proofs.YtdlhnpogddpmpaaGreat
