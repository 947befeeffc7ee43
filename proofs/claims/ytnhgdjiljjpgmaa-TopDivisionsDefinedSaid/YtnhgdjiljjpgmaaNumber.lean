/-
  The program's number of words (adversary.number).
  Conditions: as each theorem states.
-/
import Derived.Test.YtnhgdjiljjpgmaaRepeat
import Derived.Test.YtnhgdjiljjpgmaaAdvRef3
import Derived.Test.YtnhgdjiljjpgmaaMarks
import Derived.Test.YtnhgdjiljjpgmaaWordA
namespace Go.Proofs.Ytnhgdjiljjpgmaa
open Go.RowKit
attribute [local go_sem] Oper.semAt_some

/-- A row of counts. -/
def crow (f : Nat → Int) (L : Nat) : Array Value := ((List.range L).map fun s => Value.int .i64 (f s)).toArray
theorem crow_at {f : Nat → Int} {L s : Nat} (h : s < L) : (crow f L)[s]? = some (.int .i64 (f s)) := by simp [crow, h]
theorem crow_size (f : Nat → Int) (L : Nat) : (crow f L).size = L := by simp [crow]
theorem crow_set {f g : Nat → Int} {L s : Nat} (hs : s < L) (h : ∀ t, t < L → t ≠ s → g t = f t) : (crow f L).setIfInBounds s (.int .i64 (g s)) = crow g L := by
  apply Array.ext_getElem?
  intro i
  rw [Array.getElem?_setIfInBounds]
  by_cases hi : i < L
  · by_cases e : s = i
    · subst e; rw [if_pos rfl, if_pos (by rw [crow_size]; exact hs), crow_at hi]
    · rw [if_neg e, crow_at hi, crow_at hi, h i hi (Ne.symm e)]
  · rw [if_neg (show ¬ s = i by omega), Array.getElem?_eq_none (show (crow f L).size ≤ i by rw [crow_size]; omega), Array.getElem?_eq_none (show (crow g L).size ≤ i by rw [crow_size]; omega)]
theorem crow_zero (L : Nat) : crow (fun _ => 0) L = Array.replicate L (.int .i64 0) := by
  apply Array.ext_getElem?
  intro i
  by_cases hi : i < L
  · rw [crow_at hi]; simp [hi]
  · rw [Array.getElem?_eq_none (show (crow _ L).size ≤ i by rw [crow_size]; omega), Array.getElem?_eq_none (show (Array.replicate L (Value.int .i64 0)).size ≤ i by simp; omega)]
theorem crow_ones (L : Nat) : (onesTo L L).toArray = crow (fun _ => 1) L := by
  apply Array.ext_getElem?
  intro i
  by_cases hi : i < L
  · rw [crow_at hi, List.getElem?_toArray, onesTo_at hi]
  · rw [Array.getElem?_eq_none (show (onesTo L L).toArray.size ≤ i by simp [onesTo]; omega), Array.getElem?_eq_none (show (crow _ L).size ≤ i by rw [crow_size]; omega)]
theorem crow_congr {f g : Nat → Int} {L : Nat} (h : ∀ t, t < L → f t = g t) : crow f L = crow g L := by
  unfold crow; congr 1; exact List.map_congr_left fun t ht => by rw [h t (List.mem_range.1 ht)]
/-- The frame at the head of the loop over the rounds. -/
def numF (B bc K k : Nat) (us : Nat → Value) (ds : List Deferred) : Act := { tmps := #[us 0, us 1, us 2, .pointer (some ⟨B, 0, none⟩), us 4, .pointer (some ⟨B + 1, 0, none⟩), .int .i64 0, .pointer (some ⟨bc, 0, none⟩), us 8, us 9, us 10, us 11, us 12, us 13, us 14, us 15, .int .i64 K, .int .i64 k, us 18, us 19, us 20, us 21, us 22, us 23, us 24, us 25, us 26, us 27, us 28, us 29, us 30, us 31, us 32, us 33, us 34, us 35, us 36, us 37, us 38, us 39, us 40, us 41, us 42, us 43, us 44, us 45, us 46], defers := ds }
def NumI (A : Adv) (lim : Int) (w : World) (c : Nat) (p : Option Addr) (bc K : Nat) (n : Nat) (a : Act) (W : World) : Prop :=
  ∃ (ds : List Deferred) (us : Nat → Value) (k g : Nat), a = numF w.heap.size bc K k us ds ∧ k ≤ K ∧ n = K - k ∧ Ext w W ∧ W.heap[w.heap.size]? = some (.cells #[.int .i64 A.n, .slice p A.L c] 29 (0, 0)) ∧
    Box W (w.heap.size + 1) 3 (.int .i64 lim) ∧ Box W bc 90 (.slice (some ⟨g, 0, none⟩) A.L A.L) ∧ W.heap[g]? = some (.cells (crow (cnt A lim k) A.L) 3 (0, 0)) ∧ Marks w.heap.size W W.heap.size ds
theorem NumI.intro {A : Adv} {lim : Int} {w : World} {c : Nat} {p : Option Addr} {bc K n k : Nat} {a : Act} {W : World} {ds : List Deferred} {g : Nat} (h1 : a = numF w.heap.size bc K k (fun i => a.tmps.getD i undef) ds) (h2 : k ≤ K) (h3 : n = K - k) (h4 : Ext w W)
    (h5 : W.heap[w.heap.size]? = some (.cells #[.int .i64 A.n, .slice p A.L c] 29 (0, 0))) (h6 : Box W (w.heap.size + 1) 3 (.int .i64 lim)) (h7 : Box W bc 90 (.slice (some ⟨g, 0, none⟩) A.L A.L))
    (h8 : W.heap[g]? = some (.cells (crow (cnt A lim k) A.L) 3 (0, 0))) (h9 : Marks w.heap.size W W.heap.size ds) : NumI A lim w c p bc K n a W := ⟨ds, _, k, g, h1, h2, h3, h4, h5, h6, h7, h8, h9⟩

set_option maxRecDepth 8000 in
set_option maxHeartbeats 4000000 in
theorem number_any (A : Adv) (v : Value) (K : Nat) (lim : Int) (w : World) (hA : AdvRep w v A) (h0 : achk A = 0) (hK : K ≤ 100) (hl0 : 0 ≤ lim) (hl1 : lim ≤ 1000000000) :
    Calls Try.prog 67 #[v, .int .i64 K, .int .i64 lim] w fun e w' => e = .returned (.int .i64 (cnt A lim K 0)) ∧ Ext w w' := by
  obtain ⟨p, c, rfl, hc, hl, hat⟩ := hA.all_
  have HA := hide hA
  have HAT := hide hat
  clear hA hat
  obtain ⟨hn1, hn2, hL1, hL2, hmv, hst, _⟩ := achk_zero h0
  have HS := hide (sound_of hst)
  have H0 := hide h0
  have HCR := hide (fun k s => cnt_range (A := A) hl0 k s)
  clear hst h0
  have hmk := fun W => run_make_row' (P := Try.prog) 90 3 (.int .i64 0) 8 Try.underlying90 int_info rfl .i64 .i64 A.L (by omega) (by omega) W
  have HREP := hide (fun g W h1 h2 => repeat_any g A.L W h1 h2 (by omega) (by omega))
  refine calls_of_wp_m Try.func67 rfl ?_
  simp only [Try.ntmps67, List.size_toArray, List.length_cons, List.length_nil, Nat.reduceAdd, Nat.reduceSub, Array.replicate_succ, Array.replicate_zero, List.push_toArray, List.append_toArray, List.nil_append, List.cons_append]
  go_wp2_with fail
  obtain ⟨W1, hW1⟩ : ∃ W1, ((w.alloc (.cells #[.int .i64 A.n, .slice p A.L c] 29)).alloc (.cells #[.int .i64 lim] 3)).alloc (.cells #[.int .i64 1] 3) = W1 := ⟨_, rfl⟩
  have hE1 : Ext w W1 := by rw [← hW1]; exact (((Ext.refl w).alloc _).alloc _).alloc _
  have hz1 : W1.heap.size = w.heap.size + 3 := by rw [← hW1]; simp
  have ha1 : W1.heap[w.heap.size]? = some (.cells #[.int .i64 A.n, .slice p A.L c] 29 (0, 0)) := by
    rw [← hW1, Below.heap_alloc _ _ _ (by simp; omega), Below.heap_alloc _ _ _ (by simp)]; exact heap_alloc_new _ _
  have hb1 : Box W1 (w.heap.size + 1) 3 (.int .i64 lim) := by
    rw [← hW1]
    have := Box.new (w.alloc (.cells #[.int .i64 A.n, .slice p A.L c] 29)) 3 (.int .i64 lim)
    rw [World.size_alloc] at this
    exact this.alloc _
  have hc1 : W1.cell? ⟨w.heap.size + 2, 0, none⟩ = some (.int .i64 1) := by rw [← hW1]; simp [go_sem]
  refine (HREP.out (w.heap.size + 2) _ (by simp) (by simp [go_sem])).mono ?_
  rw [hW1]
  clear hW1
  rintro e W ⟨rfl, hrow, hE⟩
  rw [crow_ones] at hrow
  go_wp2_with fail
  have hz := hE.size
  have hzW : w.heap.size + 3 ≤ W.heap.size := by omega
  refine wp_loop_ghost_k (NumI A lim w c p W.heap.size K) K ?_ ?_
  · refine NumI.intro (k := 0) rfl (by omega) rfl ((hE1.trans hE).alloc _) ?_ ?_ (Box.new W _ _) ?_ trivial
    · rw [Below.heap_alloc _ _ _ (by omega), hE.b.block _ (by omega)]; exact ha1
    · exact Box.alloc ((hE.b.block _ (by omega)).trans hb1) _
    · rw [Below.heap_alloc _ _ _ (by have := lt_of_heap hrow; omega), ← hz1]; exact hrow
  · rintro n a wr ⟨ds, us, k, g, rfl, hk, hn, hEr, ha, hb, hc, hg, hmk2⟩ J KK hJ hKK
    have HJ := hide hJ
    have HN := hide hn
    have HM := hide hmk2
    clear hJ hn hmk2 hz hE hrow ha1 hb1 hc1 hE1 hz1 W1
    dsimp only [numF]
    generalize us 0 = u0
    generalize us 1 = u1
    generalize us 2 = u2
    have ha1 : wr.cell? ⟨w.heap.size, 1, none⟩ = some (.slice p A.L c) := by rw [cell_of_row _ _ _ _ _ _ ha]; rfl
    have ha0 : wr.cell? ⟨w.heap.size, 0, none⟩ = some (.int .i64 A.n) := by rw [cell_of_row _ _ _ _ _ _ ha]; rfl
    have hb0 := hb.cell
    have hc0 := hc.cell
    have hcf := hc.frozen
    by_cases hlt : k < K
    · have hzr := hb.lt
      obtain ⟨w5, hw5⟩ : ∃ w5, (wr.alloc (.cells (madeCells #[.int .i64 0] A.L) 3)).alloc (.cells #[.slice (some ⟨wr.heap.size, 0, none⟩) A.L A.L] 90) = w5 := ⟨_, rfl⟩
      have hE5 : Ext wr w5 := by rw [← hw5]; exact ((Ext.refl wr).alloc _).alloc _
      have hz5 : w5.heap.size = wr.heap.size + 2 := by rw [← hw5]; simp
      have hn5 : w5.heap[wr.heap.size]? = some (.cells (crow (fun _ => 0) A.L) 3 (0, 0)) := by
        rw [← hw5, Below.heap_alloc _ _ _ (by simp), crow_zero, ← made_rep]; exact heap_alloc_new _ _
      have hx5 : Box w5 (wr.heap.size + 1) 90 (.slice (some ⟨wr.heap.size, 0, none⟩) A.L A.L) := by
        rw [← hw5]
        have := Box.new (wr.alloc (.cells (madeCells #[.int .i64 0] A.L) 3)) 90 (.slice (some ⟨wr.heap.size, 0, none⟩) A.L A.L)
        rwa [World.size_alloc] at this
      have h50 : w5.cell? ⟨w.heap.size, 0, none⟩ = some (.int .i64 A.n) := (hE5.cell (by show w.heap.size < _; omega)).trans ha0
      have h51 : w5.cell? ⟨w.heap.size, 1, none⟩ = some (.slice p A.L c) := (hE5.cell (by show w.heap.size < _; omega)).trans ha1
      go_wp2_with fail
      refine (moves_any A.n _ _ p A.L c rfl).mono ?_
      rintro e W6 ⟨rfl, hW⟩
      have hE6 : Ext w5 W6 := by rw [hW]; exact (Ext.refl _).alloc _
      have hz6 : W6.heap.size = wr.heap.size + 3 := by rw [hW]; simp [hz5]
      have h61 : W6.cell? ⟨w5.heap.size, 1, none⟩ = some (.slice p A.L c) := by rw [hW]; simp [go_sem]
      have h62 : W6.cell? ⟨w5.heap.size, 0, none⟩ = some (.int .i64 A.n) := by rw [hW]; simp [go_sem]
      have hE56 := hE5.trans hE6
      have hEw6 := hEr.trans hE56
      have g6 : W6.heap[g]? = some (.cells (crow (cnt A lim k) A.L) 3 (0, 0)) := (hE56.b.block _ (lt_of_heap hg)).trans hg
      have c6 : Box W6 W.heap.size 90 (.slice (some ⟨g, 0, none⟩) A.L A.L) := (hE56.b.block _ hc.lt).trans hc
      have b6 : Box W6 (w.heap.size + 1) 3 (.int .i64 lim) := (hE56.b.block _ hb.lt).trans hb
      have x6 : Box W6 (wr.heap.size + 1) 90 (.slice (some ⟨wr.heap.size, 0, none⟩) A.L A.L) := (hE6.b.block _ hx5.lt).trans hx5
      have n6 : W6.heap[wr.heap.size]? = some (.cells (crow (fun _ => 0) A.L) 3 (0, 0)) := (hE6.b.block _ (by omega)).trans hn5
      have a6 : W6.heap[w.heap.size]? = some (.cells #[.int .i64 A.n, .slice p A.L c] 29 (0, 0)) := (hE56.b.block _ (lt_of_heap ha)).trans ha
      have hgr : g < wr.heap.size := lt_of_heap hg
      have hcr : W.heap.size < wr.heap.size := hc.lt
      have HM6 := hide (HM.out.of_heap (W' := W6) (fun k _ hk _ => hE56.b.block k hk))
      have HZ5 := hide hz5
      have HZ6 := hide hz6
      rw [hz5] at h61 h62 ⊢
      clear hw5 hW hE5 hE6 hE56 h50 h51 hn5 hx5 h62 ha hb hc hg hb0 hc0 ha0 ha1 hcf hz5 hz6 HZ5 HM hmk w5
      go_wp2_with fail
      have hz6 := HZ6.out
      refine wp_range rfl (fun _ _ => rfl) (moves_seq A (.slice p A.L c) w (wr.heap.size + 2) HA.out) (moveSeq_two A)
        (fun i V => Ext w V ∧ W6.heap.size ≤ V.heap.size ∧ (∀ k, k < W6.heap.size → k ≠ wr.heap.size → V.heap[k]? = W6.heap[k]?) ∧
          V.heap[wr.heap.size]? = some (.cells (crow (fun s => cntStep A lim (cnt A lim k) s (min (A.len s) (i - A.pre s 0))) A.L) 3 (0, 0)))
        (fun c V => False) ?_ ?_ ?_ ?_ ?_ ?_ ?_
      · rintro i V ⟨h1, h2, h3, h4⟩
        exact ⟨h1, (World.cell?_of_block (a := ⟨wr.heap.size + 2, 1, none⟩) (h3 _ (by show wr.heap.size + 2 < _; omega) (by show wr.heap.size + 2 ≠ _; omega))).trans h61⟩
      · rintro i V V' ⟨h1, h2, h3, h4⟩ hC
        exact ⟨h1.chg hC (by omega), Nat.le_trans h2 hC.size, fun k hk hne => (hC.low k hk (by omega)).trans (h3 k hk hne), hC.cells _ _ _ _ h4⟩
      · exact fun _ _ _ h => h.elim
      · refine ⟨hEw6, Nat.le_refl _, fun _ _ _ => rfl, ?_⟩
        rw [n6]
        congr 2
        exact crow_congr fun t _ => by rw [Nat.zero_sub, Nat.min_zero]; rfl
      · rintro l i x V hx ⟨h1, h2, h3, h4⟩ hl hlV
        obtain ⟨s, j, hs, hj, hi, rfl⟩ := moveSeq_inv A hx
        clear hx
        have HI := hide hi
        have H3 := hide h3
        clear hi h3
        obtain ⟨ht0, ht1, _, _⟩ := HS.out s hs j hj
        obtain ⟨⟨⟨⟨n1, a1, b1, c1, d1, e1⟩, f1⟩, t1⟩, hm⟩ : ∃ m, A.mv s j = m := ⟨_, rfl⟩
        have HMV := hide hm
        rw [hm] at ht0 ht1 ⊢
        clear hm
        dsimp only [Mv.v] at ht0 ht1 ⊢
        obtain ⟨tn, rfl⟩ := Int.eq_ofNat_of_zero_le ht0
        gi_wp2_with fail
        refine ⟨KF.of_ext ((Ext.refl _).alloc _), fun W2 hC => ?_⟩
        have hm := hC.cells _ _ _ _ (heap_alloc_new V (.cells #[.int .i64 n1, .int .i64 a1, .int .i64 b1, .int .i64 c1, .int .i64 d1, .int .i64 e1, .int .i64 f1, .int .i64 tn] 97))
        have m7 : W2.cell? ⟨V.heap.size, 7, none⟩ = some (.int .i64 tn) := by rw [cell_of_row _ _ _ _ _ _ hm]; rfl
        have hz6 := HZ6.out
        have low2 : ∀ k, k < W6.heap.size → k ≠ wr.heap.size → W2.heap[k]? = W6.heap[k]? := fun k hk hne => by
          rw [hC.low _ hk (by simp; omega), Below.heap_alloc _ _ _ (by omega)]; exact H3.out k hk hne
        have g2 : W2.heap[g]? = some (.cells (crow (cnt A lim k) A.L) 3 (0, 0)) := (low2 _ (by omega) (by omega)).trans g6
        have c2 : Box W2 W.heap.size 90 (.slice (some ⟨g, 0, none⟩) A.L A.L) := (low2 _ (by omega) (by omega)).trans c6
        have b2 : Box W2 (w.heap.size + 1) 3 (.int .i64 lim) := (low2 _ (by omega) (by omega)).trans b6
        have x2 : Box W2 (wr.heap.size + 1) 90 (.slice (some ⟨wr.heap.size, 0, none⟩) A.L A.L) := (low2 _ (by omega) (by omega)).trans x6
        have n2 := hC.cells _ _ _ _ ((Below.heap_alloc V (.cells #[.int .i64 n1, .int .i64 a1, .int .i64 b1, .int .i64 c1, .int .i64 d1, .int .i64 e1, .int .i64 f1, .int .i64 tn] 97) _ (lt_of_heap h4)).trans h4)
        have hEW2 := (h1.alloc (.cells #[.int .i64 n1, .int .i64 a1, .int .i64 b1, .int .i64 c1, .int .i64 d1, .int .i64 e1, .int .i64 f1, .int .i64 tn] 97)).chg hC (by omega)
        have hsz2 : W6.heap.size ≤ W2.heap.size := by have := hC.size; simp at this; omega
        have hent : min (A.len s) (i - A.pre s 0) = j := by
          have e1 : A.pre s j = A.pre s 0 + j := rfl
          have := HI.out
          omega
        have htn : tn < A.L := by omega
        have qc := c2.cell
        have qb := b2.cell
        have qx := x2.cell
        have qg : W2.cell? ⟨g, tn, none⟩ = some (.int .i64 (cnt A lim k tn)) := by rw [cell_of_row _ _ _ _ _ _ g2, crow_at htn]
        have qn : W2.cell? ⟨wr.heap.size, s, none⟩ = some (.int .i64 (cntStep A lim (cnt A lim k) s j)) := by rw [cell_of_row _ _ _ _ _ _ n2, crow_at hs, hent]
        have qf : W2.frozen? ⟨wr.heap.size, s, none⟩ = false := frozen_row n2 _
        have HST := hide (cntStep_succ A lim (cnt A lim k) s j)
        rw [HMV.out] at HST
        obtain ⟨hr0, hr1⟩ := cntStep_range (A := A) (f := cnt A lim k) (s := s) hl0 (fun t => (HCR.out k t).1) j
        obtain ⟨hs0, hs1⟩ := HCR.out k tn
        have HN2 := hide n2
        have HLOW := hide low2
        have HENT := hide hent
        have G := hide (And.intro hEW2 hsz2)
        have HSTT : Hid (cntStep A lim (cnt A lim k) s (j + 1) = min (cntStep A lim (cnt A lim k) s j + cnt A lim k tn) (lim + 1)) := HST
        clear HST
        obtain ⟨x, hx⟩ : ∃ x, cntStep A lim (cnt A lim k) s j = x := ⟨_, rfl⟩
        obtain ⟨z, hz⟩ : ∃ z, cnt A lim k tn = z := ⟨_, rfl⟩
        rw [hx, hz] at HSTT
        rw [hx] at qn hr0 hr1
        rw [hz] at qg hs0 hs1
        clear hm hz6 low2 g2 c2 b2 x2 n2 hEW2 hsz2 hent h1 h4 hC g6 c6 b6 x6 n6 a6 hx hz hmv h61 h2
        gi_wp2_with fail
        refine wpIn_round_tail 15 (by kernel_rfl) (by kernel_rfl) (by kernel_rfl) ?_
        intro W4 hW4
        have HW4 := hide hW4
        have hcc : ∀ a, W4.cell? a = W2.cell? a := fun a => by rw [hW4]; rfl
        have hff : ∀ a, W4.frozen? a = W2.frozen? a := fun a => by rw [hW4]; rfl
        clear hW4
        simp only [List.take_succ_cons, List.take_zero, List.drop_succ_cons, List.drop_zero]
        repeat still_step
        refine wpStill_nil ?_
        obtain ⟨y, hy⟩ : ∃ y, (if IntKind.i64.wrap (lim + 1) < IntKind.i64.wrap (x + z) then IntKind.i64.wrap (lim + 1) else IntKind.i64.wrap (x + z)) = y := ⟨_, rfl⟩
        rw [hy]
        have HY : Hid (cntStep A lim (cnt A lim k) s (j + 1) = y) := by
          show _ = _
          rw [HSTT.out, ← hy, Go.IntWalk.i64_in (lim + 1) (by omega), Go.IntWalk.i64_in (x + z) (by omega), Int.min_def]
          split <;> split <;> omega
        clear hy
        go_wp2_with fail
        have hw4 := HW4.out
        obtain ⟨hEW2, hsz2⟩ := G.out
        have n4 : W4.heap[wr.heap.size]? = some (.cells (crow (fun s => cntStep A lim (cnt A lim k) s (min (A.len s) (i - A.pre s 0))) A.L) 3 (0, 0)) := by rw [hw4]; exact HN2.out
        have hpre : ∀ s', s' < A.L → s' ≠ s → min (A.len s') (i + 1 - A.pre s' 0) = min (A.len s') (i - A.pre s' 0) := fun s' hs' hne => by
          have hi := HI.out
          rcases Nat.lt_or_gt_of_ne hne with h7 | h7
          · rcases Nat.eq_zero_or_pos (A.len s') with h8 | h8
            · simp [h8]
            · have h9 := pre_step A (s := s') (j := A.len s' - 1) (by omega) (s' := s) (j' := j) h7
              have e1 : A.pre s' (A.len s' - 1) = A.pre s' 0 + (A.len s' - 1) := rfl
              omega
          · have h9 := pre_step A hj (s' := s') (j' := 0) h7
            omega
        have hown : min (A.len s) (i + 1 - A.pre s 0) = j + 1 := by
          have hi := HI.out
          have e1 : A.pre s j = A.pre s 0 + j := rfl
          omega
        have hrow : (W4.setCell ⟨wr.heap.size, s, none⟩ (.int .i64 y)).heap[wr.heap.size]? = some (.cells (crow (fun s => cntStep A lim (cnt A lim k) s (min (A.len s) (i + 1 - A.pre s 0))) A.L) 3 (0, 0)) := by
          rw [row_set n4, ← HY.out]
          have := crow_set (f := fun s => cntStep A lim (cnt A lim k) s (min (A.len s) (i - A.pre s 0))) (g := fun s => cntStep A lim (cnt A lim k) s (min (A.len s) (i + 1 - A.pre s 0))) hs (fun t ht hne => by rw [hpre t ht hne])
          rw [hown] at this
          rw [this]
        have hzr6 := HZ6.out
        refine ⟨rfl, ?_, ?_, ?_, ?_, hrow⟩
        · exact KF.trans (by rw [hw4]; exact KF.of_ext (Ext.refl _).drew) (KF.setCell _ _ _)
        · rw [hw4]; exact (hEW2.drew).setCell (by show w.heap.size ≤ wr.heap.size; omega) _
        · rw [World.size_setCell, hw4]; exact hsz2
        · exact fun k hk hne => (Below.heap_setCell _ _ _ _ hne).trans ((by rw [hw4]; rfl : W4.heap[k]? = W2.heap[k]?).trans (HLOW.out k hk hne))
      · rintro M V ⟨h1, h2, h3, h4⟩ hMl hM
        have e9 : (crow (fun s => cntStep A lim (cnt A lim k) s (min (A.len s) ((moveSeq A).length - A.pre s 0))) A.L) = crow (cnt A lim (k + 1)) A.L := crow_congr fun s hs => by
          rw [moveSeq_len]
          have e : min (A.len s) (A.pre A.L 0 - A.pre s 0) = A.len s := by
            rcases Nat.eq_zero_or_pos (A.len s) with h8 | h8
            · simp [h8]
            · have h9 := pre_step A (s := s) (j := A.len s - 1) (by omega) (s' := A.L) (j' := 0) hs
              have e1 : A.pre s (A.len s - 1) = A.pre s 0 + (A.len s - 1) := rfl
              omega
          rw [e]; rfl
        rw [e9] at h4
        have c2 : Box V W.heap.size 90 (.slice (some ⟨g, 0, none⟩) A.L A.L) := (h3 _ (by omega) (by omega)).trans c6
        have b2 : Box V (w.heap.size + 1) 3 (.int .i64 lim) := (h3 _ (by omega) (by omega)).trans b6
        have x2 : Box V (wr.heap.size + 1) 90 (.slice (some ⟨wr.heap.size, 0, none⟩) A.L A.L) := (h3 _ (by omega) (by omega)).trans x6
        have a2 : V.heap[w.heap.size]? = some (.cells #[.int .i64 A.n, .slice p A.L c] 29 (0, 0)) := (h3 _ (by omega) (by omega)).trans a6
        have qc := c2.cell
        have qcf := c2.frozen
        have qx := x2.cell
        have HA2 := hide a2
        have HB2 := hide b2
        have HC2 := hide c2
        have HH4 := hide h4
        have HH3 := hide h3
        have HMM := hide hM
        have c6' := hide c6
        have hn := HN.out
        have HNN := hide hn
        clear e9 c2 b2 x2 a2 h4 h3 hM hz6 hn g6 c6 b6 x6 n6 a6 h61
        go_wp2_with fail
        have hn := HNN.out
        have hz6 := HZ6.out
        have HL3 := HH3.out
        refine Handed.intro (n - 1) (by omega) (HJ.out _ _ _ (NumI.intro (k := k + 1) (g := wr.heap.size) rfl (by omega) (by omega) (h1.setCell (by show w.heap.size ≤ W.heap.size; omega) _) ?_ (HB2.out.other (by show w.heap.size + 1 ≠ W.heap.size; omega)) HC2.out.set ?_ ?_))
        · rw [Below.heap_setCell _ _ _ _ (by show w.heap.size ≠ W.heap.size; omega)]; exact HA2.out
        · rw [Below.heap_setCell _ _ _ _ (by show wr.heap.size ≠ W.heap.size; omega)]; exact HH4.out
        · have hlV := lt_of_heap HMM.out
          refine ⟨M, rfl, by omega, by rw [World.size_setCell]; exact hlV, ?_, ?_⟩
          · rw [Below.heap_setCell _ _ _ _ (by show M ≠ W.heap.size; omega)]; exact HMM.out
          · refine (HM6.out.of_heap (W' := V.setCell ⟨W.heap.size, 0, none⟩ (.slice (some ⟨wr.heap.size, 0, none⟩) A.L A.L)) (fun k' h1 h2 h3 => ?_)).top (by omega)
            have hne : k' ≠ W.heap.size := fun e => by
              subst e
              have := c6'.out
              unfold Box at this
              rw [this] at h3; cases h3
            rw [Below.heap_setCell _ _ _ _ hne]
            exact HL3 k' (by omega) (by omega)
      · exact fun _ _ _ h => h.elim
    · obtain rfl : k = K := by omega
      have hg0 : wr.cell? ⟨g, 0, none⟩ = some (.int .i64 (cnt A lim k 0)) := by rw [cell_of_row _ _ _ _ _ _ hg, crow_at (by omega)]
      have hL0 : (0 : Int) < (A.L : Int) := by omega
      obtain ⟨res, hres⟩ : ∃ res, cnt A lim k 0 = res := ⟨_, rfl⟩
      rw [hres] at hg0
      have HRES := hide hres
      clear hres
      go_wp2_with fail
      refine leave_marks_ret (v := .int .i64 res) HM.out (fun W' => results_tmp (t := 6) rfl _ _ W') fun W' hc => ⟨ret_int HRES.out.symm, hEr.chg hc (Nat.le_refl _)⟩
end Go.Proofs.Ytnhgdjiljjpgmaa
