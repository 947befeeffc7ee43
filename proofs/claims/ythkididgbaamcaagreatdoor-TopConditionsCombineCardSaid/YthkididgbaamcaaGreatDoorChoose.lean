/-
  The vectors for which a condition holds (condition.choose).
  Conditions: as each theorem states.
-/
import Derived.Test.YthkididgbaamcaaGreatDoorCollO
import Derived.Test.YthkididgbaamcaaGreatDoorCondA
import Derived.Test.YthkididgbaamcaaGreatDoorVecA
import Derived.Test.YthkididgbaamcaaGreatDoorCloneI
namespace Go.Proofs.YthkididgbaamcaaGreatDoor
open Go.RowKit
attribute [local go_sem] Oper.semAt_some

theorem islice_info : (Tryz.prog.info? 45).map (fun i => (i.zero, i.size, i.bytes)) = some (some (.slice none 0 0), 1, 24) := by kernel_rfl
/-- The first i vectors, those that P holds for. -/
def selV (m n : Nat) (P : List Int → Bool) (i : Nat) : List (List Int) := ((vecs m n).take i).filter P
theorem selV_yes {m n : Nat} {P : List Int → Bool} {i : Nat} (h : i < m ^ n) (hp : P (dig m n i) = true) : selV m n P (i + 1) = selV m n P i ++ [dig m n i] := by
  unfold selV; rw [List.take_add_one, vecs_at m n h, List.filter_append]; simp [hp]
theorem selV_no {m n : Nat} {P : List Int → Bool} {i : Nat} (h : i < m ^ n) (hp : P (dig m n i) = false) : selV m n P (i + 1) = selV m n P i := by
  unfold selV; rw [List.take_add_one, vecs_at m n h, List.filter_append]; simp [hp]
theorem selV_len (m n : Nat) (P : List Int → Bool) (i : Nat) : (selV m n P i).length ≤ i := by
  unfold selV; exact Nat.le_trans (List.length_filter_le _ _) (List.length_take_le _ _)
theorem selV_all (m n : Nat) (P : List Int → Bool) : selV m n P (m ^ n) = (vecs m n).filter P := by
  unfold selV; rw [List.take_of_length_le (by rw [vecs_len]; exact Nat.le_refl _)]
theorem isAgg30 (w : World) : (isAgg 56).run Tryz.prog w = .ok false w := by kernel_rfl
theorem isAgg31 (w : World) : (isAgg 34).run Tryz.prog w = .ok false w := by kernel_rfl

set_option maxRecDepth 8000 in
set_option maxHeartbeats 2000000 in
theorem choose_in (n m most : Nat) (P : List Int → Bool) (bc bn : Nat) (w : World) (hn1 : 1 ≤ n) (hn5 : n ≤ 5) (hm1 : 1 ≤ m) (hm8 : m ≤ 8) (hmost : m ^ n ≤ most) (hmost2 : most ≤ 1000000)
    (HOK : Hid (∀ W u i, Ext w W → i < m ^ n → Row icells 1 W u (dig m n i) → Calls Tryz.prog 65 #[u, P0 bc, P0 bn] W fun e W' => e = .returned (.bool (P (dig m n i))) ∧ Ext W W')) :
    Calls Tryz.prog 64 #[.int .i64 n, .int .i64 m, .int .i64 most, .func (.func 65) #[] #[P0 bc, P0 bn]] w (RetV2 (fun u w' => Coll 45 3 icells 1 w' w.heap.size u ((vecs m n).filter P)) 0 w) := by
  have HFIN := hide (selV_all m n P)
  have HMOST := hide hmost
  have HLEN := hide (selV_len m n P)
  have HYES := hide (fun i => selV_yes (m := m) (n := n) (P := P) (i := i))
  have HNO := hide (fun i => selV_no (m := m) (n := n) (P := P) (i := i))
  have HSEQ := hide (vectors_seq n m hm1 hm8 hn5 hn1)
  clear hmost hm1 hm8 hn1
  refine calls_of_wp_m Tryz.func64 rfl ?_
  simp only [Tryz.ntmps64, List.size_toArray, List.length_cons, List.length_nil, Nat.reduceAdd, Nat.reduceSub, Array.replicate_succ, Array.replicate_zero, List.push_toArray, List.append_toArray, List.nil_append, List.cons_append]
  go_wp2_with fail
  obtain ⟨w1, hw1⟩ : ∃ w1, ((((w.alloc (.cells #[.int .i64 most] 3)).alloc (.cells #[.func (.func 65) #[] #[P0 bc, P0 bn]] 72)).alloc (.cells #[.slice none 0 0] 56)).alloc (.cells #[.int .i64 0] 34)).alloc (.cells #[.slice none 0 0] 56) = w1 := ⟨_, rfl⟩
  have hE1 : Ext w w1 := by rw [← hw1]; exact (((((Ext.refl w).alloc _).alloc _).alloc _).alloc _).alloc _
  have hz1 : w1.heap.size = w.heap.size + 5 := by rw [← hw1]; simp
  have hb0 : Box w1 w.heap.size 3 (.int .i64 most) := by rw [← hw1]; exact ((((Box.new w _ _).alloc _).alloc _).alloc _).alloc _
  have hb1 : Box w1 (w.heap.size + 1) 72 (.func (.func 65) #[] #[P0 bc, P0 bn]) := by
    rw [← hw1]; have := (((Box.new (w.alloc (.cells #[.int .i64 most] 3)) 72 (.func (.func 65) #[] #[P0 bc, P0 bn])).alloc (.cells #[.slice none 0 0] 56)).alloc (.cells #[.int .i64 0] 34)).alloc (.cells #[.slice none 0 0] 56)
    simpa only [World.size_alloc] using this
  have hb2 : Box w1 (w.heap.size + 1 + 1) 56 (.slice none 0 0) := by
    rw [← hw1]; have := ((Box.new ((w.alloc (.cells #[.int .i64 most] 3)).alloc (.cells #[.func (.func 65) #[] #[P0 bc, P0 bn]] 72)) 56 (.slice none 0 0)).alloc (.cells #[.int .i64 0] 34)).alloc (.cells #[.slice none 0 0] 56)
    simpa only [World.size_alloc] using this
  have hb3 : Box w1 (w.heap.size + 1 + 1 + 1) 34 (.int .i64 0) := by
    rw [← hw1]; have := (Box.new (((w.alloc (.cells #[.int .i64 most] 3)).alloc (.cells #[.func (.func 65) #[] #[P0 bc, P0 bn]] 72)).alloc (.cells #[.slice none 0 0] 56)) 34 (.int .i64 0)).alloc (.cells #[.slice none 0 0] 56)
    simpa only [World.size_alloc] using this
  have hb4 : Box w1 (w.heap.size + 1 + 1 + 1 + 1) 56 (.slice none 0 0) := by
    rw [← hw1]; have := Box.new ((((w.alloc (.cells #[.int .i64 most] 3)).alloc (.cells #[.func (.func 65) #[] #[P0 bc, P0 bn]] 72)).alloc (.cells #[.slice none 0 0] 56)).alloc (.cells #[.int .i64 0] 34)) 56 (.slice none 0 0)
    simpa only [World.size_alloc] using this
  rw [hw1]
  clear hw1
  obtain ⟨g, hg⟩ : ∃ g, w.heap.size = g := ⟨_, rfl⟩
  have HG := hide hg
  rw [hg] at hz1 hb0 hb1 hb2 hb3 hb4 ⊢
  clear hg
  obtain ⟨s, hs⟩ : ∃ s, w1.heap.size = s := ⟨_, rfl⟩
  refine (vectors_any n m w1).mono ?_
  rw [hs]
  rw [hs] at hz1
  rintro e W ⟨rfl, hW⟩
  have hEW : Ext w1 W := by rw [hW]; exact ((Ext.refl w1).alloc _).alloc _
  have hWz : W.heap.size = s + 2 := by rw [hW]; simp [hs]
  have hi1 : W.cell? ⟨s, 0, none⟩ = some (.int .i64 n) := by rw [hW, ← hs]; simp [go_sem]
  have hi2 : W.cell? ⟨s + 1, 0, none⟩ = some (.int .i64 m) := by
    rw [hW, ← hs]
    have := (Box.new (w1.alloc (.cells #[.int .i64 n] 3)) 3 (.int .i64 m)).cell
    simpa only [World.size_alloc] using this
  have HI := hide (And.intro hi1 hi2)
  have HWZ := hide hWz
  have HZ1 := hide hz1
  have HE : Hid (Ext w W) := hE1.trans hEW
  have HB : Hid (Box W g 3 (.int .i64 most) ∧ Box W (g + 1) 72 (.func (.func 65) #[] #[P0 bc, P0 bn]) ∧ Box W (g + 1 + 1) 56 (.slice none 0 0) ∧ Box W (g + 1 + 1 + 1) 34 (.int .i64 0) ∧ Box W (g + 1 + 1 + 1 + 1) 56 (.slice none 0 0)) :=
    ⟨(hEW.b.block _ hb0.lt).trans hb0, (hEW.b.block _ hb1.lt).trans hb1, (hEW.b.block _ hb2.lt).trans hb2, (hEW.b.block _ hb3.lt).trans hb3, (hEW.b.block _ hb4.lt).trans hb4⟩
  clear hE1 hb0 hb1 hb2 hb3 hb4 hW hi1 hi2 hs hEW hWz hz1
  go_wp2_with fail
  have hWz := HWZ.out
  have hz1 := HZ1.out
  have hgw := HG.out
  refine wp_rangeX (n := m ^ n) rfl (fun _ _ => rfl) (HSEQ.out s) (fun i O x V hi hX => by obtain ⟨b, rfl, _⟩ := hX; rfl)
    (fun i O V => Ext w V ∧ (Box V g 3 (.int .i64 most) ∧ Box V (g + 1) 72 (.func (.func 65) #[] #[P0 bc, P0 bn]) ∧ Box V (g + 1 + 1) 56 (.slice none 0 0) ∧ Box V (g + 1 + 1 + 1) 34 (.int .i64 0)) ∧
      (∀ k, O k → g + 5 ≤ k) ∧ ∃ u vs, Box V (g + 1 + 1 + 1 + 1) 56 u ∧ CV O 45 3 icells 1 V (g + 5) u vs (selV m n P i))
    (fun c O V => False) ?_ ?_ ?_ ?_ ?_ ?_ ?_ ?_ ?_
  · exact fun _ _ _ _ => trivial
  · rintro i O O' V V' ⟨h1, ⟨h2, h3, h4, h5⟩, h6, u, vs, h7, h8⟩ hC hG
    have no : ∀ k, k < g + 5 → ¬ O k := fun k hk h => by have := h6 k h; omega
    refine ⟨h1.offc hC (by omega) (fun k hk => by have := h6 k hk; omega), ⟨hC.cells _ _ _ _ h2 (no _ (by omega)), hC.cells _ _ _ _ h3 (no _ (by omega)), hC.cells _ _ _ _ h4 (no _ (by omega)), hC.cells _ _ _ _ h5 (no _ (by omega))⟩, fun k hk => ?_, u, vs, hC.cells _ _ _ _ h7 (no _ (by omega)), h8.offc hC hG⟩
    have hz := h7.lt
    rcases (hG k hk).1 with h | h
    · exact h6 k h
    · omega
  · rintro c O O' V V' h; exact h.elim
  · rintro V hE; exact ⟨(hE.cell (by show s < _; omega)).trans HI.out.1, (hE.cell (by show s + 1 < _; omega)).trans HI.out.2⟩
  · rintro k (rfl | rfl) <;> omega
  · obtain ⟨h1, h2, h3, h4, h5⟩ := HB.out
    exact ⟨HE.out, ⟨h1, h2, h3, h4⟩, fun k hk => by rcases hk with rfl | rfl <;> omega, _, [], h5, CV.nil _ _ _⟩
  · rintro lp i x O V hi ⟨b, rfl, hOb, hN⟩ ⟨h1, ⟨h2, h3, h4, h5⟩, h6, u, vs, h7, h8⟩ hOV hlp hlV
    have HP1 := hide (HYES.out i hi)
    have HP0 := hide (HNO.out i hi)
    have HL := hide (HLEN.out i)
    gi_wp2_with fail
    refine ⟨KFO.of_ext (Ext.refl _) hOV, fun W2 hC hKO => ?_⟩
    have hN2 : Nums W2 b (dig m n i) := (hKO b hOb).trans hN
    have hOV2 : ∀ k, O k → k < W2.heap.size := fun k hk => by have := hOV k hk; have := hC.size; omega
    have h1 : Ext w W2 := h1.chg hC (by omega)
    have h2 := h2.chg hC
    have h3 := h3.chg hC
    have h4 := h4.chg hC
    have h5 := h5.chg hC
    have h7 := h7.chg hC
    have h8 : CV O 45 3 icells 1 W2 (g + 5) u vs (selV m n P i) := h8.offc (OffC.of_chg hC) (Grow.same hOV hC.size)
    clear hN hC hKO hOV
    have hc1 := h3.cell
    have hRow : Row icells 1 W2 (.slice (some ⟨b, 0, none⟩) n n) (dig m n i) := by
      have := hN2.row (by rw [dig_len]; omega)
      rwa [dig_len] at this
    have HCALL := hide (HOK.out W2 _ i h1 hi hRow)
    have HNUM := hide hN2
    have HOV2 := hide hOV2
    have H1 := hide h1
    have HBX := hide (show (Box W2 g 3 (.int .i64 most) ∧ Box W2 (g + 1) 72 (.func (.func 65) #[] #[P0 bc, P0 bn]) ∧ Box W2 (g + 1 + 1) 56 (.slice none 0 0) ∧ Box W2 (g + 1 + 1 + 1) 34 (.int .i64 0)) ∧ Box W2 (g + 1 + 1 + 1 + 1) 56 u from ⟨⟨h2, h3, h4, h5⟩, h7⟩)
    have HCV := hide h8
    have H6 := hide h6
    clear h1 h2 h3 h4 h5 h7 h8 h6 hN2 hRow hOV2
    gi_wp2_with fail
    refine ⟨trivial, rfl, CallsIn.inRound lp ((callsIn_wide (n := 0)).2 (HCALL.out.mono ?_))⟩
    rintro e W3 ⟨rfl, hE3⟩
    clear hc1 HCALL
    have hK3 : Hid (KFO (B := W.heap.size) O W2 W3) := KFO.of_ext hE3 HOV2.out
    have H1' := hide (H1.out.trans hE3)
    have hb : ∀ {k : Nat} {t : TypeId} {x : Value}, Box W2 k t x → Box W3 k t x := fun h => (hE3.b.block _ (lt_of_heap h)).trans h
    have HBX' := hide (show (Box W3 g 3 (.int .i64 most) ∧ Box W3 (g + 1) 72 (.func (.func 65) #[] #[P0 bc, P0 bn]) ∧ Box W3 (g + 1 + 1) 56 (.slice none 0 0) ∧ Box W3 (g + 1 + 1 + 1) 34 (.int .i64 0)) ∧ Box W3 (g + 1 + 1 + 1 + 1) 56 u from
      ⟨⟨hb HBX.out.1.1, hb HBX.out.1.2.1, hb HBX.out.1.2.2.1, hb HBX.out.1.2.2.2⟩, hb HBX.out.2⟩)
    have HCV' := hide (HCV.out.ext hE3)
    have HOV3 : Hid (∀ k, O k → k < W3.heap.size) := fun k hk => by have := HOV2.out k hk; have := hE3.size; omega
    have HNUM' := hide (show Nums W3 b (dig m n i) from (hE3.b.block _ (lt_of_heap HNUM.out)).trans HNUM.out)
    clear HBX HCV H1 HOV2 HNUM hb hE3
    cases hp : P (dig m n i) with
    | false =>
      have HS := hide (HP0.out hp)
      clear hp HP1 HP0
      gi_wp2_with fail
      obtain ⟨⟨h2, h3, h4, h5⟩, h7⟩ := HBX'.out
      refine ⟨hK3.out, H1'.out, ⟨h2, h3, h4, h5⟩, H6.out, u, vs, h7, ?_⟩
      rw [HS.out]
      exact HCV'.out
    | true =>
      have HS := hide (HP1.out hp)
      clear hp HP1 HP0
      have hc4 := HBX'.out.2.cell
      have hc0 := HBX'.out.1.1.cell
      have hlen := HCV'.out.len
      obtain ⟨q, c, hu⟩ : ∃ q c, u = .slice q (selV m n P i).length c := by
        rcases HCV'.out.coll.form with ⟨h, hn⟩ | ⟨g, c, h, _⟩
        · exact ⟨none, 0, by rw [h, hn]; rfl⟩
        · exact ⟨_, _, h⟩
      have hd : (((selV m n P i).length : Int) == (most : Int)) = false := by
        have := HMOST.out; have := HL.out
        rw [beq_eq_false_iff_ne]; omega
      subst hu
      have HLENV := hide hlen
      clear hlen
      gi_wp2_with fail
      have HC4 := hide hc4
      clear hc4 hc0 hd
      refine wpIn_region_held 2 (fun V => V.heap[g + 1 + 1 + 1 + 1]? = W3.heap[g + 1 + 1 + 1 + 1]?) (by kernel_rfl) (by kernel_rfl) (by kernel_rfl) ?_
      intro W4 hW4
      have hE4 : Ext W3 W4 := by rw [hW4]; exact (Ext.refl W3).drew
      clear hW4
      have hg4 := HBX'.out.2.lt
      refine ⟨hE4.b.block _ hg4, ?_⟩
      simp only [List.take_succ_cons, List.take_zero, List.drop_succ_cons, List.drop_zero]
      refine wpHead_step (.slice q (selV m n P i).length c) (by simp [Region.wanted]) (fun V hV => by
        have hx := (World.cell?_of_block (a := ⟨g + 1 + 1 + 1 + 1, 0, none⟩) hV).trans HC4.out
        go_simp) ?_
      refine wpHead_step (.slice (some ⟨b, 0, none⟩) n n) (by simp [Region.wanted]) (fun V _ => by go_simp) ?_
      simp only [Act.put, List.setIfInBounds_toArray, List.set_cons_zero, List.set_cons_succ]
      show wpTail _ _ _ _ _ _ _ _ _
      refine wpTail_keep (fun KK hKK => ?_)
      go_wp2_with fail
      have hcl := cloneI_any (dig m n i) b 0 (dig m n i).length W4 ((HNUM'.out.row (by rw [dig_len]; omega)).ext hE4) (by rw [dig_len]; omega)
      rw [dig_len] at hcl
      refine hcl.mono ?_
      clear hcl
      rintro e W5 ⟨⟨y, rfl, hy⟩, hE5⟩
      have hE45 := hE4.trans hE5
      have hg5 : g + 1 + 1 + 1 + 1 < W5.heap.size := Nat.lt_of_lt_of_le hg4 hE45.size
      have hS5 := hE45.b.block _ hg4
      have hyl := dig_len m n i
      have HY := hide (hy.rowE (by rw [hyl]; omega))
      have HYO : Hid (∀ a n c, y = .slice (some a) n c → ¬ O a.block) := fun a n' c' hya hOa => by
        have h1 := HOV3.out _ hOa
        have h2 := hy.block_ge a.block (by rw [hya]; rfl)
        have h3 := hE4.size
        omega
      obtain ⟨py, cy, hye⟩ : ∃ py cy, y = .slice py n cy := by obtain ⟨⟨p, c, h, _⟩, _⟩ := HY.out; exact ⟨p, c, by rw [h, hyl]⟩
      clear hy hyl
      subst hye
      have HE45 := hide hE45
      have HCV5 := hide (HCV'.out.ext hE45)
      have hlen5 : vs.length ≤ 1000000 := by have := HLENV.out; have := HL.out; have := HMOST.out; omega
      have hbase5 : g + 5 ≤ W5.heap.size + 1 := by omega
      clear hE4 hE5 hE45
      go_wp2_with fail
      refine ⟨rfl, hKK _ _ hS5 ?_⟩
      clear hKK KK
      refine wpTail_keep (fun KK hKK => ?_)
      go_wp2_with fail
      refine ⟨rfl, hKK _ _ ((Below.heap_alloc _ _ _ hg5).trans hS5) ?_⟩
      clear hKK KK
      refine wpTail_keep (fun KK hKK => ?_)
      go_wp2_with (at_builtin; refine wpList_append1 rfl (.tmp 24) (.tmp 27) 56 rfl (g + 5) 45 (.slice none 0 0) 1 24 Tryz.underlying56 islice_info rfl (by decide) _ vs (.slice py n cy) W5.heap.size rfl (HCV5.out.own.alloc _) rfl (cell_new1 _ _ _) (by intro x hx; simp only [List.mem_singleton] at hx; rw [hx]; rfl) (by omega) (by decide) (by simp only [World.size_alloc]; exact hbase5) ?_; intro v' W6 hown' hg6 hf6)
      have hcv6 : CV O 45 3 icells 1 W6 (g + 5) v' (vs ++ [.slice py n cy]) (selV m n P i ++ [dig m n i]) :=
        CV.push (HCV5.out.ext ((Ext.refl W5).alloc _)) (fun k hk => by have := HOV3.out k hk; have := HE45.out.size; simp only [World.size_alloc]; omega) (by decide) hown' hg6 hf6 (HY.out.ext ((Ext.refl W5).alloc _)) HYO.out
      have hge : ∀ k, (Value.slice q (selV m n P i).length c).ownBlock = some k → g + 5 ≤ k := HCV5.out.own.block_ge
      have hbx : ∀ {k : Nat} {t : TypeId} {x : Value}, k < g + 5 → Box W3 k t x → Box W6 k t x := fun hk h => ((h.ext HE45.out).alloc _).grown hg6 (fun k' h' => by have := hge k' h'; omega)
      obtain ⟨⟨h2, h3, h4, h5⟩, h7⟩ := HBX'.out
      have h2 := hbx (by omega) h2
      have h3 := hbx (by omega) h3
      have h4 := hbx (by omega) h4
      have h5 := hbx (by omega) h5
      have h7 := hbx (by omega) h7
      have hS6 : W6.heap[g + 1 + 1 + 1 + 1]? = W3.heap[g + 1 + 1 + 1 + 1]? := h7.trans HBX'.out.2.symm
      have hE6 : Ext w W6 := ((H1'.out.trans HE45.out).alloc _).grown hg6 (fun k hk => by have := hge k hk; omega)
      have hK6 : KFO (B := W.heap.size) O W2 W6 := (hK3.out.trans (KFO.of_ext (HE45.out.alloc _) HOV3.out)).trans (KFO.grown hg6 (fun k hk => by have := HOV3.out k hk; have := HE45.out.size; simp only [World.size_alloc]; omega) (fun k hk => ⟨by
        obtain ⟨cs, fr, hh⟩ := (HCV5.out.ext ((Ext.refl W5).alloc _)).own.typed k hk
        exact ⟨cs, _, fr, hh⟩, HCV5.out.no k hk⟩))
      have HALL := hide (And.intro hcv6 (And.intro hE6 (And.intro hK6 (And.intro h2 (And.intro h3 (And.intro h4 h5))))))
      have hf7 := h7.frozen
      have hc7 := h7.cell
      have H7 := hide h7
      obtain ⟨g7, c7, rfl, -⟩ := hf6
      clear hcv6 hge hbx h2 h3 h4 h5 h7 hE6 hK6 hown' hg6
      refine ⟨rfl, hKK _ _ hS6 ?_⟩
      clear hKK KK
      refine wpTail_free (by kernel_rfl) (fun KK hKK => ?_)
      go_wp2_with fail
      refine ⟨rfl, hKK _ _ ?_⟩
      clear hKK KK
      refine wpTail_nil ?_
      go_wp2_with fail
      obtain ⟨hcv6, hE6, hK6, h2, h3, h4, h5⟩ := HALL.out
      refine ⟨hK6.trans (KFO.setCell _ _ _ (fun h => by have : g + 5 ≤ g + 1 + 1 + 1 + 1 := H6.out _ h; omega)), hE6.setCell (by show w.heap.size ≤ g + 1 + 1 + 1 + 1; omega) _, ⟨h2.other (by show g ≠ g + 1 + 1 + 1 + 1; omega), h3.other (by show g + 1 ≠ g + 1 + 1 + 1 + 1; omega), h4.other (by show g + 1 + 1 ≠ g + 1 + 1 + 1 + 1; omega), h5.other (by show g + 1 + 1 + 1 ≠ g + 1 + 1 + 1 + 1; omega)⟩, H6.out, .slice (some ⟨g7, 0, none⟩) (vs.length + 1) c7, vs ++ [.slice py n cy], H7.out.set, ?_⟩
      rw [HS.out]
      exact hcv6.setOther H7.out (by decide) (by decide) _ _
  · rintro M O V ⟨h1, ⟨h2, h3, h4, h5⟩, h6, u, vs, h7, h8⟩ hMl hM
    rw [HFIN.out] at h8
    have hE := h1
    obtain ⟨q, k, rfl⟩ : ∃ q k, u = .slice q ((vecs m n).filter P).length k := by
      rcases h8.coll.form with ⟨h, hn⟩ | ⟨g, c, h, _⟩
      · exact ⟨none, 0, by rw [h, hn]; rfl⟩
      · exact ⟨_, _, h⟩
    have hc4 := h7.cell
    have hc2 := h4.cell
    have hc3 := h5.cell
    have hf2 := h4.frozen
    have hf3 := h5.frozen
    have HC := hide h8
    have HU := hide (show Box V (g + 1 + 1) 56 (.slice none 0 0) ∧ Box V (g + 1 + 1 + 1) 34 (.int .i64 0) from ⟨h4, h5⟩)
    have HM := hide hM
    have HE := hide hE
    clear h1 h2 h3 h4 h5 h6 h7 h8 hM hE
    go_wp2_with fail
    have hb2 := (HU.out.1.set (u := .slice q ((vecs m n).filter P).length k)).other (a := ⟨g + 1 + 1 + 1, 0, none⟩) (u := .int .i64 0) (show g + 1 + 1 ≠ g + 1 + 1 + 1 by omega)
    have hb3' := HU.out.2.other (a := ⟨g + 1 + 1, 0, none⟩) (u := .slice q ((vecs m n).filter P).length k) (show g + 1 + 1 + 1 ≠ g + 1 + 1 by omega)
    have hb3 := hb3'.set (u := .int .i64 0)
    have hM' : ((V.setCell ⟨g + 1 + 1, 0, none⟩ (.slice q ((vecs m n).filter P).length k)).setCell ⟨g + 1 + 1 + 1, 0, none⟩ (.int .i64 0)).heap[M]? = some (.deferred (some [])) := by
      rw [Below.heap_setCell _ _ _ _ (by show M ≠ g + 1 + 1 + 1; omega), Below.heap_setCell _ _ _ _ (by show M ≠ g + 1 + 1; omega)]; exact HM.out
    have hcv := ((HC.out.setOther HU.out.1 (by decide) (by decide) 0 (.slice q ((vecs m n).filter P).length k)).setOther hb3' (by decide) (by decide) 0 (.int .i64 0)).coll
    refine leave_mark rfl hM' (results_cell2 rfl _ _ _ rfl rfl (isAgg30 _) (isAgg31 _) (cell_putObj hM' rfl _ hb2.cell) (cell_putObj hM' rfl _ hb3.cell)) ⟨_, rfl, (hcv.putObj hM' rfl).mono (by omega), ?_⟩
    exact ((HE.out.setCell (by show w.heap.size ≤ g + 1 + 1; omega) _).setCell (by show w.heap.size ≤ g + 1 + 1 + 1; omega) _).putObj (by omega) _
  · exact fun _ _ _ _ h => h.elim
set_option maxRecDepth 8000 in
set_option maxHeartbeats 2000000 in
theorem choose_out (n m most : Nat) (P : List Int → Bool) (bc bn bi : Nat) (w : World) (hn1 : 1 ≤ n) (hn5 : n ≤ 5) (hm1 : 1 ≤ m) (hm8 : m ≤ 8) (hmost : m ^ n ≤ most) (hmost2 : most ≤ 1000000)
    (HOK : Hid (∀ W u i, Ext w W → i < m ^ n → Row icells 1 W u (dig m n i) → Calls Tryz.prog 68 #[u, P0 bc, P0 bn, P0 bi] W fun e W' => e = .returned (.bool (P (dig m n i))) ∧ Ext W W')) :
    Calls Tryz.prog 64 #[.int .i64 n, .int .i64 m, .int .i64 most, .func (.func 68) #[] #[P0 bc, P0 bn, P0 bi]] w (RetV2 (fun u w' => Coll 45 3 icells 1 w' w.heap.size u ((vecs m n).filter P)) 0 w) := by
  have HFIN := hide (selV_all m n P)
  have HMOST := hide hmost
  have HLEN := hide (selV_len m n P)
  have HYES := hide (fun i => selV_yes (m := m) (n := n) (P := P) (i := i))
  have HNO := hide (fun i => selV_no (m := m) (n := n) (P := P) (i := i))
  have HSEQ := hide (vectors_seq n m hm1 hm8 hn5 hn1)
  clear hmost hm1 hm8 hn1
  refine calls_of_wp_m Tryz.func64 rfl ?_
  simp only [Tryz.ntmps64, List.size_toArray, List.length_cons, List.length_nil, Nat.reduceAdd, Nat.reduceSub, Array.replicate_succ, Array.replicate_zero, List.push_toArray, List.append_toArray, List.nil_append, List.cons_append]
  go_wp2_with fail
  obtain ⟨w1, hw1⟩ : ∃ w1, ((((w.alloc (.cells #[.int .i64 most] 3)).alloc (.cells #[.func (.func 68) #[] #[P0 bc, P0 bn, P0 bi]] 72)).alloc (.cells #[.slice none 0 0] 56)).alloc (.cells #[.int .i64 0] 34)).alloc (.cells #[.slice none 0 0] 56) = w1 := ⟨_, rfl⟩
  have hE1 : Ext w w1 := by rw [← hw1]; exact (((((Ext.refl w).alloc _).alloc _).alloc _).alloc _).alloc _
  have hz1 : w1.heap.size = w.heap.size + 5 := by rw [← hw1]; simp
  have hb0 : Box w1 w.heap.size 3 (.int .i64 most) := by rw [← hw1]; exact ((((Box.new w _ _).alloc _).alloc _).alloc _).alloc _
  have hb1 : Box w1 (w.heap.size + 1) 72 (.func (.func 68) #[] #[P0 bc, P0 bn, P0 bi]) := by
    rw [← hw1]; have := (((Box.new (w.alloc (.cells #[.int .i64 most] 3)) 72 (.func (.func 68) #[] #[P0 bc, P0 bn, P0 bi])).alloc (.cells #[.slice none 0 0] 56)).alloc (.cells #[.int .i64 0] 34)).alloc (.cells #[.slice none 0 0] 56)
    simpa only [World.size_alloc] using this
  have hb2 : Box w1 (w.heap.size + 1 + 1) 56 (.slice none 0 0) := by
    rw [← hw1]; have := ((Box.new ((w.alloc (.cells #[.int .i64 most] 3)).alloc (.cells #[.func (.func 68) #[] #[P0 bc, P0 bn, P0 bi]] 72)) 56 (.slice none 0 0)).alloc (.cells #[.int .i64 0] 34)).alloc (.cells #[.slice none 0 0] 56)
    simpa only [World.size_alloc] using this
  have hb3 : Box w1 (w.heap.size + 1 + 1 + 1) 34 (.int .i64 0) := by
    rw [← hw1]; have := (Box.new (((w.alloc (.cells #[.int .i64 most] 3)).alloc (.cells #[.func (.func 68) #[] #[P0 bc, P0 bn, P0 bi]] 72)).alloc (.cells #[.slice none 0 0] 56)) 34 (.int .i64 0)).alloc (.cells #[.slice none 0 0] 56)
    simpa only [World.size_alloc] using this
  have hb4 : Box w1 (w.heap.size + 1 + 1 + 1 + 1) 56 (.slice none 0 0) := by
    rw [← hw1]; have := Box.new ((((w.alloc (.cells #[.int .i64 most] 3)).alloc (.cells #[.func (.func 68) #[] #[P0 bc, P0 bn, P0 bi]] 72)).alloc (.cells #[.slice none 0 0] 56)).alloc (.cells #[.int .i64 0] 34)) 56 (.slice none 0 0)
    simpa only [World.size_alloc] using this
  rw [hw1]
  clear hw1
  obtain ⟨g, hg⟩ : ∃ g, w.heap.size = g := ⟨_, rfl⟩
  have HG := hide hg
  rw [hg] at hz1 hb0 hb1 hb2 hb3 hb4 ⊢
  clear hg
  obtain ⟨s, hs⟩ : ∃ s, w1.heap.size = s := ⟨_, rfl⟩
  refine (vectors_any n m w1).mono ?_
  rw [hs]
  rw [hs] at hz1
  rintro e W ⟨rfl, hW⟩
  have hEW : Ext w1 W := by rw [hW]; exact ((Ext.refl w1).alloc _).alloc _
  have hWz : W.heap.size = s + 2 := by rw [hW]; simp [hs]
  have hi1 : W.cell? ⟨s, 0, none⟩ = some (.int .i64 n) := by rw [hW, ← hs]; simp [go_sem]
  have hi2 : W.cell? ⟨s + 1, 0, none⟩ = some (.int .i64 m) := by
    rw [hW, ← hs]
    have := (Box.new (w1.alloc (.cells #[.int .i64 n] 3)) 3 (.int .i64 m)).cell
    simpa only [World.size_alloc] using this
  have HI := hide (And.intro hi1 hi2)
  have HWZ := hide hWz
  have HZ1 := hide hz1
  have HE : Hid (Ext w W) := hE1.trans hEW
  have HB : Hid (Box W g 3 (.int .i64 most) ∧ Box W (g + 1) 72 (.func (.func 68) #[] #[P0 bc, P0 bn, P0 bi]) ∧ Box W (g + 1 + 1) 56 (.slice none 0 0) ∧ Box W (g + 1 + 1 + 1) 34 (.int .i64 0) ∧ Box W (g + 1 + 1 + 1 + 1) 56 (.slice none 0 0)) :=
    ⟨(hEW.b.block _ hb0.lt).trans hb0, (hEW.b.block _ hb1.lt).trans hb1, (hEW.b.block _ hb2.lt).trans hb2, (hEW.b.block _ hb3.lt).trans hb3, (hEW.b.block _ hb4.lt).trans hb4⟩
  clear hE1 hb0 hb1 hb2 hb3 hb4 hW hi1 hi2 hs hEW hWz hz1
  go_wp2_with fail
  have hWz := HWZ.out
  have hz1 := HZ1.out
  have hgw := HG.out
  refine wp_rangeX (n := m ^ n) rfl (fun _ _ => rfl) (HSEQ.out s) (fun i O x V hi hX => by obtain ⟨b, rfl, _⟩ := hX; rfl)
    (fun i O V => Ext w V ∧ (Box V g 3 (.int .i64 most) ∧ Box V (g + 1) 72 (.func (.func 68) #[] #[P0 bc, P0 bn, P0 bi]) ∧ Box V (g + 1 + 1) 56 (.slice none 0 0) ∧ Box V (g + 1 + 1 + 1) 34 (.int .i64 0)) ∧
      (∀ k, O k → g + 5 ≤ k) ∧ ∃ u vs, Box V (g + 1 + 1 + 1 + 1) 56 u ∧ CV O 45 3 icells 1 V (g + 5) u vs (selV m n P i))
    (fun c O V => False) ?_ ?_ ?_ ?_ ?_ ?_ ?_ ?_ ?_
  · exact fun _ _ _ _ => trivial
  · rintro i O O' V V' ⟨h1, ⟨h2, h3, h4, h5⟩, h6, u, vs, h7, h8⟩ hC hG
    have no : ∀ k, k < g + 5 → ¬ O k := fun k hk h => by have := h6 k h; omega
    refine ⟨h1.offc hC (by omega) (fun k hk => by have := h6 k hk; omega), ⟨hC.cells _ _ _ _ h2 (no _ (by omega)), hC.cells _ _ _ _ h3 (no _ (by omega)), hC.cells _ _ _ _ h4 (no _ (by omega)), hC.cells _ _ _ _ h5 (no _ (by omega))⟩, fun k hk => ?_, u, vs, hC.cells _ _ _ _ h7 (no _ (by omega)), h8.offc hC hG⟩
    have hz := h7.lt
    rcases (hG k hk).1 with h | h
    · exact h6 k h
    · omega
  · rintro c O O' V V' h; exact h.elim
  · rintro V hE; exact ⟨(hE.cell (by show s < _; omega)).trans HI.out.1, (hE.cell (by show s + 1 < _; omega)).trans HI.out.2⟩
  · rintro k (rfl | rfl) <;> omega
  · obtain ⟨h1, h2, h3, h4, h5⟩ := HB.out
    exact ⟨HE.out, ⟨h1, h2, h3, h4⟩, fun k hk => by rcases hk with rfl | rfl <;> omega, _, [], h5, CV.nil _ _ _⟩
  · rintro lp i x O V hi ⟨b, rfl, hOb, hN⟩ ⟨h1, ⟨h2, h3, h4, h5⟩, h6, u, vs, h7, h8⟩ hOV hlp hlV
    have HP1 := hide (HYES.out i hi)
    have HP0 := hide (HNO.out i hi)
    have HL := hide (HLEN.out i)
    gi_wp2_with fail
    refine ⟨KFO.of_ext (Ext.refl _) hOV, fun W2 hC hKO => ?_⟩
    have hN2 : Nums W2 b (dig m n i) := (hKO b hOb).trans hN
    have hOV2 : ∀ k, O k → k < W2.heap.size := fun k hk => by have := hOV k hk; have := hC.size; omega
    have h1 : Ext w W2 := h1.chg hC (by omega)
    have h2 := h2.chg hC
    have h3 := h3.chg hC
    have h4 := h4.chg hC
    have h5 := h5.chg hC
    have h7 := h7.chg hC
    have h8 : CV O 45 3 icells 1 W2 (g + 5) u vs (selV m n P i) := h8.offc (OffC.of_chg hC) (Grow.same hOV hC.size)
    clear hN hC hKO hOV
    have hc1 := h3.cell
    have hRow : Row icells 1 W2 (.slice (some ⟨b, 0, none⟩) n n) (dig m n i) := by
      have := hN2.row (by rw [dig_len]; omega)
      rwa [dig_len] at this
    have HCALL := hide (HOK.out W2 _ i h1 hi hRow)
    have HNUM := hide hN2
    have HOV2 := hide hOV2
    have H1 := hide h1
    have HBX := hide (show (Box W2 g 3 (.int .i64 most) ∧ Box W2 (g + 1) 72 (.func (.func 68) #[] #[P0 bc, P0 bn, P0 bi]) ∧ Box W2 (g + 1 + 1) 56 (.slice none 0 0) ∧ Box W2 (g + 1 + 1 + 1) 34 (.int .i64 0)) ∧ Box W2 (g + 1 + 1 + 1 + 1) 56 u from ⟨⟨h2, h3, h4, h5⟩, h7⟩)
    have HCV := hide h8
    have H6 := hide h6
    clear h1 h2 h3 h4 h5 h7 h8 h6 hN2 hRow hOV2
    gi_wp2_with fail
    refine ⟨trivial, rfl, CallsIn.inRound lp ((callsIn_wide (n := 0)).2 (HCALL.out.mono ?_))⟩
    rintro e W3 ⟨rfl, hE3⟩
    clear hc1 HCALL
    have hK3 : Hid (KFO (B := W.heap.size) O W2 W3) := KFO.of_ext hE3 HOV2.out
    have H1' := hide (H1.out.trans hE3)
    have hb : ∀ {k : Nat} {t : TypeId} {x : Value}, Box W2 k t x → Box W3 k t x := fun h => (hE3.b.block _ (lt_of_heap h)).trans h
    have HBX' := hide (show (Box W3 g 3 (.int .i64 most) ∧ Box W3 (g + 1) 72 (.func (.func 68) #[] #[P0 bc, P0 bn, P0 bi]) ∧ Box W3 (g + 1 + 1) 56 (.slice none 0 0) ∧ Box W3 (g + 1 + 1 + 1) 34 (.int .i64 0)) ∧ Box W3 (g + 1 + 1 + 1 + 1) 56 u from
      ⟨⟨hb HBX.out.1.1, hb HBX.out.1.2.1, hb HBX.out.1.2.2.1, hb HBX.out.1.2.2.2⟩, hb HBX.out.2⟩)
    have HCV' := hide (HCV.out.ext hE3)
    have HOV3 : Hid (∀ k, O k → k < W3.heap.size) := fun k hk => by have := HOV2.out k hk; have := hE3.size; omega
    have HNUM' := hide (show Nums W3 b (dig m n i) from (hE3.b.block _ (lt_of_heap HNUM.out)).trans HNUM.out)
    clear HBX HCV H1 HOV2 HNUM hb hE3
    cases hp : P (dig m n i) with
    | false =>
      have HS := hide (HP0.out hp)
      clear hp HP1 HP0
      gi_wp2_with fail
      obtain ⟨⟨h2, h3, h4, h5⟩, h7⟩ := HBX'.out
      refine ⟨hK3.out, H1'.out, ⟨h2, h3, h4, h5⟩, H6.out, u, vs, h7, ?_⟩
      rw [HS.out]
      exact HCV'.out
    | true =>
      have HS := hide (HP1.out hp)
      clear hp HP1 HP0
      have hc4 := HBX'.out.2.cell
      have hc0 := HBX'.out.1.1.cell
      have hlen := HCV'.out.len
      obtain ⟨q, c, hu⟩ : ∃ q c, u = .slice q (selV m n P i).length c := by
        rcases HCV'.out.coll.form with ⟨h, hn⟩ | ⟨g, c, h, _⟩
        · exact ⟨none, 0, by rw [h, hn]; rfl⟩
        · exact ⟨_, _, h⟩
      have hd : (((selV m n P i).length : Int) == (most : Int)) = false := by
        have := HMOST.out; have := HL.out
        rw [beq_eq_false_iff_ne]; omega
      subst hu
      have HLENV := hide hlen
      clear hlen
      gi_wp2_with fail
      have HC4 := hide hc4
      clear hc4 hc0 hd
      refine wpIn_region_held 2 (fun V => V.heap[g + 1 + 1 + 1 + 1]? = W3.heap[g + 1 + 1 + 1 + 1]?) (by kernel_rfl) (by kernel_rfl) (by kernel_rfl) ?_
      intro W4 hW4
      have hE4 : Ext W3 W4 := by rw [hW4]; exact (Ext.refl W3).drew
      clear hW4
      have hg4 := HBX'.out.2.lt
      refine ⟨hE4.b.block _ hg4, ?_⟩
      simp only [List.take_succ_cons, List.take_zero, List.drop_succ_cons, List.drop_zero]
      refine wpHead_step (.slice q (selV m n P i).length c) (by simp [Region.wanted]) (fun V hV => by
        have hx := (World.cell?_of_block (a := ⟨g + 1 + 1 + 1 + 1, 0, none⟩) hV).trans HC4.out
        go_simp) ?_
      refine wpHead_step (.slice (some ⟨b, 0, none⟩) n n) (by simp [Region.wanted]) (fun V _ => by go_simp) ?_
      simp only [Act.put, List.setIfInBounds_toArray, List.set_cons_zero, List.set_cons_succ]
      show wpTail _ _ _ _ _ _ _ _ _
      refine wpTail_keep (fun KK hKK => ?_)
      go_wp2_with fail
      have hcl := cloneI_any (dig m n i) b 0 (dig m n i).length W4 ((HNUM'.out.row (by rw [dig_len]; omega)).ext hE4) (by rw [dig_len]; omega)
      rw [dig_len] at hcl
      refine hcl.mono ?_
      clear hcl
      rintro e W5 ⟨⟨y, rfl, hy⟩, hE5⟩
      have hE45 := hE4.trans hE5
      have hg5 : g + 1 + 1 + 1 + 1 < W5.heap.size := Nat.lt_of_lt_of_le hg4 hE45.size
      have hS5 := hE45.b.block _ hg4
      have hyl := dig_len m n i
      have HY := hide (hy.rowE (by rw [hyl]; omega))
      have HYO : Hid (∀ a n c, y = .slice (some a) n c → ¬ O a.block) := fun a n' c' hya hOa => by
        have h1 := HOV3.out _ hOa
        have h2 := hy.block_ge a.block (by rw [hya]; rfl)
        have h3 := hE4.size
        omega
      obtain ⟨py, cy, hye⟩ : ∃ py cy, y = .slice py n cy := by obtain ⟨⟨p, c, h, _⟩, _⟩ := HY.out; exact ⟨p, c, by rw [h, hyl]⟩
      clear hy hyl
      subst hye
      have HE45 := hide hE45
      have HCV5 := hide (HCV'.out.ext hE45)
      have hlen5 : vs.length ≤ 1000000 := by have := HLENV.out; have := HL.out; have := HMOST.out; omega
      have hbase5 : g + 5 ≤ W5.heap.size + 1 := by omega
      clear hE4 hE5 hE45
      go_wp2_with fail
      refine ⟨rfl, hKK _ _ hS5 ?_⟩
      clear hKK KK
      refine wpTail_keep (fun KK hKK => ?_)
      go_wp2_with fail
      refine ⟨rfl, hKK _ _ ((Below.heap_alloc _ _ _ hg5).trans hS5) ?_⟩
      clear hKK KK
      refine wpTail_keep (fun KK hKK => ?_)
      go_wp2_with (at_builtin; refine wpList_append1 rfl (.tmp 24) (.tmp 27) 56 rfl (g + 5) 45 (.slice none 0 0) 1 24 Tryz.underlying56 islice_info rfl (by decide) _ vs (.slice py n cy) W5.heap.size rfl (HCV5.out.own.alloc _) rfl (cell_new1 _ _ _) (by intro x hx; simp only [List.mem_singleton] at hx; rw [hx]; rfl) (by omega) (by decide) (by simp only [World.size_alloc]; exact hbase5) ?_; intro v' W6 hown' hg6 hf6)
      have hcv6 : CV O 45 3 icells 1 W6 (g + 5) v' (vs ++ [.slice py n cy]) (selV m n P i ++ [dig m n i]) :=
        CV.push (HCV5.out.ext ((Ext.refl W5).alloc _)) (fun k hk => by have := HOV3.out k hk; have := HE45.out.size; simp only [World.size_alloc]; omega) (by decide) hown' hg6 hf6 (HY.out.ext ((Ext.refl W5).alloc _)) HYO.out
      have hge : ∀ k, (Value.slice q (selV m n P i).length c).ownBlock = some k → g + 5 ≤ k := HCV5.out.own.block_ge
      have hbx : ∀ {k : Nat} {t : TypeId} {x : Value}, k < g + 5 → Box W3 k t x → Box W6 k t x := fun hk h => ((h.ext HE45.out).alloc _).grown hg6 (fun k' h' => by have := hge k' h'; omega)
      obtain ⟨⟨h2, h3, h4, h5⟩, h7⟩ := HBX'.out
      have h2 := hbx (by omega) h2
      have h3 := hbx (by omega) h3
      have h4 := hbx (by omega) h4
      have h5 := hbx (by omega) h5
      have h7 := hbx (by omega) h7
      have hS6 : W6.heap[g + 1 + 1 + 1 + 1]? = W3.heap[g + 1 + 1 + 1 + 1]? := h7.trans HBX'.out.2.symm
      have hE6 : Ext w W6 := ((H1'.out.trans HE45.out).alloc _).grown hg6 (fun k hk => by have := hge k hk; omega)
      have hK6 : KFO (B := W.heap.size) O W2 W6 := (hK3.out.trans (KFO.of_ext (HE45.out.alloc _) HOV3.out)).trans (KFO.grown hg6 (fun k hk => by have := HOV3.out k hk; have := HE45.out.size; simp only [World.size_alloc]; omega) (fun k hk => ⟨by
        obtain ⟨cs, fr, hh⟩ := (HCV5.out.ext ((Ext.refl W5).alloc _)).own.typed k hk
        exact ⟨cs, _, fr, hh⟩, HCV5.out.no k hk⟩))
      have HALL := hide (And.intro hcv6 (And.intro hE6 (And.intro hK6 (And.intro h2 (And.intro h3 (And.intro h4 h5))))))
      have hf7 := h7.frozen
      have hc7 := h7.cell
      have H7 := hide h7
      obtain ⟨g7, c7, rfl, -⟩ := hf6
      clear hcv6 hge hbx h2 h3 h4 h5 h7 hE6 hK6 hown' hg6
      refine ⟨rfl, hKK _ _ hS6 ?_⟩
      clear hKK KK
      refine wpTail_free (by kernel_rfl) (fun KK hKK => ?_)
      go_wp2_with fail
      refine ⟨rfl, hKK _ _ ?_⟩
      clear hKK KK
      refine wpTail_nil ?_
      go_wp2_with fail
      obtain ⟨hcv6, hE6, hK6, h2, h3, h4, h5⟩ := HALL.out
      refine ⟨hK6.trans (KFO.setCell _ _ _ (fun h => by have : g + 5 ≤ g + 1 + 1 + 1 + 1 := H6.out _ h; omega)), hE6.setCell (by show w.heap.size ≤ g + 1 + 1 + 1 + 1; omega) _, ⟨h2.other (by show g ≠ g + 1 + 1 + 1 + 1; omega), h3.other (by show g + 1 ≠ g + 1 + 1 + 1 + 1; omega), h4.other (by show g + 1 + 1 ≠ g + 1 + 1 + 1 + 1; omega), h5.other (by show g + 1 + 1 + 1 ≠ g + 1 + 1 + 1 + 1; omega)⟩, H6.out, .slice (some ⟨g7, 0, none⟩) (vs.length + 1) c7, vs ++ [.slice py n cy], H7.out.set, ?_⟩
      rw [HS.out]
      exact hcv6.setOther H7.out (by decide) (by decide) _ _
  · rintro M O V ⟨h1, ⟨h2, h3, h4, h5⟩, h6, u, vs, h7, h8⟩ hMl hM
    rw [HFIN.out] at h8
    have hE := h1
    obtain ⟨q, k, rfl⟩ : ∃ q k, u = .slice q ((vecs m n).filter P).length k := by
      rcases h8.coll.form with ⟨h, hn⟩ | ⟨g, c, h, _⟩
      · exact ⟨none, 0, by rw [h, hn]; rfl⟩
      · exact ⟨_, _, h⟩
    have hc4 := h7.cell
    have hc2 := h4.cell
    have hc3 := h5.cell
    have hf2 := h4.frozen
    have hf3 := h5.frozen
    have HC := hide h8
    have HU := hide (show Box V (g + 1 + 1) 56 (.slice none 0 0) ∧ Box V (g + 1 + 1 + 1) 34 (.int .i64 0) from ⟨h4, h5⟩)
    have HM := hide hM
    have HE := hide hE
    clear h1 h2 h3 h4 h5 h6 h7 h8 hM hE
    go_wp2_with fail
    have hb2 := (HU.out.1.set (u := .slice q ((vecs m n).filter P).length k)).other (a := ⟨g + 1 + 1 + 1, 0, none⟩) (u := .int .i64 0) (show g + 1 + 1 ≠ g + 1 + 1 + 1 by omega)
    have hb3' := HU.out.2.other (a := ⟨g + 1 + 1, 0, none⟩) (u := .slice q ((vecs m n).filter P).length k) (show g + 1 + 1 + 1 ≠ g + 1 + 1 by omega)
    have hb3 := hb3'.set (u := .int .i64 0)
    have hM' : ((V.setCell ⟨g + 1 + 1, 0, none⟩ (.slice q ((vecs m n).filter P).length k)).setCell ⟨g + 1 + 1 + 1, 0, none⟩ (.int .i64 0)).heap[M]? = some (.deferred (some [])) := by
      rw [Below.heap_setCell _ _ _ _ (by show M ≠ g + 1 + 1 + 1; omega), Below.heap_setCell _ _ _ _ (by show M ≠ g + 1 + 1; omega)]; exact HM.out
    have hcv := ((HC.out.setOther HU.out.1 (by decide) (by decide) 0 (.slice q ((vecs m n).filter P).length k)).setOther hb3' (by decide) (by decide) 0 (.int .i64 0)).coll
    refine leave_mark rfl hM' (results_cell2 rfl _ _ _ rfl rfl (isAgg30 _) (isAgg31 _) (cell_putObj hM' rfl _ hb2.cell) (cell_putObj hM' rfl _ hb3.cell)) ⟨_, rfl, (hcv.putObj hM' rfl).mono (by omega), ?_⟩
    exact ((HE.out.setCell (by show w.heap.size ≤ g + 1 + 1; omega) _).setCell (by show w.heap.size ≤ g + 1 + 1 + 1; omega) _).putObj (by omega) _
  · exact fun _ _ _ _ h => h.elim
end Go.Proofs.YthkididgbaamcaaGreatDoor
