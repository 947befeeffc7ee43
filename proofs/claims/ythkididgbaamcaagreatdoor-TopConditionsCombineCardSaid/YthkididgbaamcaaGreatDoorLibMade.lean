/-
  The library: the task of an agreement (library.made).
  Conditions: as each theorem states.
-/
import Derived.Test.YthkididgbaamcaaGreatDoorLibCl
namespace Go.Proofs.YthkididgbaamcaaGreatDoor
open Go.RowKit
attribute [local go_sem] Oper.semAt_some

/-- The kind of consensus. -/
def kindV (n m : Int) (bk : Nat) : Array Value := #[.int .i64 n, .int .i64 m, .int .i64 m, .int .i64 (-1), .nilFunc, .func (.func 84) #[] #[.pointer (some ⟨bk, 0, none⟩)], .nilFunc]

theorem results_task2 {fn : Func} {a b : Tmp} (h : fn.results = #[.cell a 33, .cell b 34]) (tmps : Array Value) (w : World) {g k : Nat} {u0 u1 u2 u3 v : Value} (ha : tmps.getD a undef = .pointer (some ⟨g, 0, none⟩)) (hb : tmps.getD b undef = .pointer (some ⟨k, 0, none⟩))
    (h0 : w.cell? ⟨g, 0, none⟩ = some u0) (h1 : w.cell? ⟨g, 1, none⟩ = some u1) (h2 : w.cell? ⟨g, 2, none⟩ = some u2) (h3 : w.cell? ⟨g, 3, none⟩ = some u3) (h4 : w.cell? ⟨k, 0, none⟩ = some v) : (results fn tmps).run Tryz.prog w = .ok (.tuple #[.agg #[u0, u1, u2, u3], v]) w := by
  rw [Array.getD_eq_getD_getElem?] at ha hb
  simp [results, h, ha, hb, go_sem, h0, h1, h2, h3, h4]

theorem Stay.off {O : Nat → Prop} {W W' : World} (h : Off O W W') (hO : ∀ k, O k → ∃ cs e fr, W.heap[k]? = some (.cells cs e fr) ∧ e ≠ 45 ∧ e ≠ 3) : Stay W W' :=
  ⟨h.size, fun k cs e fr hh he => h.block k (lt_of_heap hh) fun hk => by
    obtain ⟨cs', e', fr', h1, h2, h3⟩ := hO k hk
    rw [hh] at h1
    injection h1 with h1
    injection h1 with _ h1
    subst h1
    rcases he with he | he
    · exact h2 he
    · exact h3 he⟩
theorem CV.weak {α : Type} {O O' : Nat → Prop} {e1 e2 : TypeId} {enc : α → List Value} {size : Nat} {w : World} {base : Nat} {u : Value} {vs : List Value} {ws : List (List α)} (h : CV O e1 e2 enc size w base u vs ws) (hO : ∀ k, O' k → O k) : CV O' e1 e2 enc size w 0 u vs ws :=
  ⟨h.len, h.own.mono (Nat.zero_le _), h.row, fun g hg hk => h.no g hg (hO g hk), fun i v xs a b p n c e hk => h.nos i v xs a b p n c e (hO _ hk)⟩
/-- The inner loop of a case: its outputs so far. s2: where the inner loop's own memory begins. -/
structure MJ (bc s2 : Nat) (W6 : World) (inp : Value) (m n : Nat) (P : List Int → Bool) (j : Nat) (O2 : Nat → Prop) (U : World) : Prop where
  off : Off (fun k => k = bc) W6 U
  low : ∀ k, O2 k → s2 ≤ k
  cs : ∃ uo vo, CBox U bc inp uo (.slice none 0 0) ∧ CV (fun k => k < s2 ∨ O2 k) 45 3 icells 1 U s2 uo vo (selV m n P j)
section
variable {bc s2 : Nat} {W2 W6 U U' : World} {inp : Value} {m n : Nat} {P : List Int → Bool} {j : Nat} {O2 O2' : Nat → Prop}
theorem MJ.rely (h : MJ bc s2 W6 inp m n P j O2 U) (hs : W6.heap.size = s2) (hbc : bc < s2) {B : Nat} (hB : s2 ≤ B) (hC : OffC B O2 U U') (hG : Grow O2 O2' U U') : MJ bc s2 W6 inp m n P j O2' U' := by
  have hz : s2 ≤ U.heap.size := by have := h.off.size; omega
  have hlow : ∀ k, k < s2 → U'.heap[k]? = U.heap[k]? := fun k hk => hC.low k (by omega) (by omega) (fun h1 => by have := h.low k h1; omega)
  refine ⟨⟨hC.os.trans h.off.os, hC.tape.trans h.off.tape, hC.output.trans h.off.output, Nat.le_trans h.off.size hC.size, fun k hk hO => (hlow k (by omega)).trans (h.off.block k hk hO)⟩, fun k hk => ?_, ?_⟩
  · rcases (hG k hk).1 with h1 | h1
    · exact h.low k h1
    · omega
  · obtain ⟨uo, vo, h1, h2⟩ := h.cs
    refine ⟨uo, vo, (hlow bc hbc).trans h1, h2.offc (B := B) (hC.mono fun k hk => .inr hk) (fun k hk => ?_)⟩
    rcases hk with hk | hk
    · exact ⟨.inl (.inl hk), by have := hC.size; omega⟩
    · obtain ⟨h3, h4⟩ := hG k hk
      refine ⟨?_, h4⟩
      rcases h3 with h3 | h3
      · exact .inl (.inr h3)
      · exact .inr h3
theorem MJ.ext (h : MJ bc s2 W6 inp m n P j O2 U) (hs : W6.heap.size = s2) (hbc : bc < s2) (hO : ∀ k, O2 k → k < U.heap.size) (hE : Ext U U') : MJ bc s2 W6 inp m n P j O2 U' :=
  h.rely hs hbc (Nat.le_refl _) (OffC.of_off (Off.of_ext hE)) (Grow.same hO hE.size)
theorem Off.grown {O : Nat → Prop} {w W W' : World} {row : Option Nat} (h : Off O w W) (hg : W.grownBy W' row) (hr : ∀ k, row = some k → w.heap.size ≤ k) : Off O w W' :=
  ⟨hg.os.trans h.os, hg.tape.trans h.tape, hg.output.trans h.output, Nat.le_trans h.size hg.size, fun k hk hO => (hg.block k (Nat.lt_of_lt_of_le hk h.size) (fun he => by have := hr k he.symm; omega)).trans (h.block k hk hO)⟩
theorem MJ.ext2 (h : MJ bc s2 W6 inp m n P j O2 U) (hE : Ext W2 W6) (hb : W2.heap.size ≤ bc) : Ext W2 U :=
  ⟨⟨h.off.os.trans hE.b.os, h.off.tape.trans hE.b.tape, h.off.output.trans hE.b.output, Nat.le_trans hE.size h.off.size, fun k hk => (h.off.block k (Nat.lt_of_lt_of_le hk hE.size) (by omega)).trans (hE.b.block k hk)⟩⟩
end

set_option maxRecDepth 16000 in
set_option maxHeartbeats 4000000 in
theorem made_any (n m bk : Nat) (w : World) (hb : Box w bk 3 (.int .i64 1)) (hn1 : 1 ≤ n) (hn5 : n ≤ 5) (hm1 : 1 ≤ m) (hm8 : m ≤ 8) (hmn : m ^ n ≤ 1024) :
    Calls Tryz.prog 53 #[.agg (kindV n m bk)] w (RetV2 (fun u w' => TkNew w.heap.size w' u (consT n m)) 0 w) := by
  have HSEQ := hide (each_seq n m hm1 hm8 hn5 hn1)
  obtain ⟨q, hq⟩ : ∃ q, m ^ n = q := ⟨_, rfl⟩
  have hmany := fun W => many_any n m 1024 W hn1 hn5 hm1 hm8 hmn (by omega)
  rw [hq] at hmany
  have HMANY := hide hmany
  have hq1 : 1 ≤ q := by rw [← hq]; exact Nat.pow_pos (by omega)
  have hq2 : q ≤ 1024 := by rw [← hq]; exact hmn
  have dq1 : ((q : Int) == 0) = false := by rw [beq_eq_false_iff_ne]; omega
  have dq2 : decide ((1024 : Int) < (q : Int)) = false := by rw [decide_eq_false_iff_not]; omega
  have HQ := hide hq
  clear hmany hq hq1 hq2
  have HB := hide hb
  have HMN := hide hmn
  have d1 : decide ((1 : Int) ≤ (n : Int)) = true := by rw [decide_eq_true_eq]; omega
  have d2 : decide ((n : Int) ≤ 5) = true := by rw [decide_eq_true_eq]; omega
  have d3 : decide ((1 : Int) ≤ (m : Int)) = true := by rw [decide_eq_true_eq]; omega
  have d4 : decide ((m : Int) ≤ 8) = true := by rw [decide_eq_true_eq]; omega
  have HBN : Hid (∀ W, Calls Tryz.prog 87 #[.int .i64 n, .int .i64 1, .int .i64 5] W fun e w' => e = .returned (.bool true) ∧ w' = W) := fun W => by
    have := between_any n 1 5 W
    rwa [d1, d2] at this
  have HBM : Hid (∀ W, Calls Tryz.prog 87 #[.int .i64 m, .int .i64 1, .int .i64 8] W fun e w' => e = .returned (.bool true) ∧ w' = W) := fun W => by
    have := between_any m 1 8 W
    rwa [d3, d4] at this
  clear d1 d2 d3 d4 hb hmn hn1 hm1 hm8
  obtain ⟨w1, hw1⟩ : ∃ w1, ((w.alloc (.cells (kindV n m bk) 86)).alloc (.cells #[.int .i64 0, .int .i64 0, .int .i64 0, .slice none 0 0] 33)).alloc (.cells #[.int .i64 0] 34) = w1 := ⟨_, rfl⟩
  have HW1 := hide hw1
  have hE1 : Ext w w1 := by rw [← hw1]; exact (((Ext.refl w).alloc _).alloc _).alloc _
  have hk1 : w1.heap[w.heap.size]? = some (.cells (kindV n m bk) 86 (0, 0)) := by
    rw [← hw1, Below.heap_alloc _ _ _ (by simp; omega), Below.heap_alloc _ _ _ (by simp)]; exact heap_alloc_new w _
  have ht1 : TBox w1 (w.heap.size + 1) (.int .i64 0) (.int .i64 0) (.int .i64 0) (.slice none 0 0) := by
    rw [← hw1]
    have := heap_alloc_new (w.alloc (.cells (kindV n m bk) 86)) (.cells #[.int .i64 0, .int .i64 0, .int .i64 0, .slice none 0 0] 33)
    rw [World.size_alloc] at this
    exact (Below.heap_alloc _ _ _ (by simp)).trans this
  have he1 : Box w1 (w.heap.size + 1 + 1) 34 (.int .i64 0) := by
    rw [← hw1]; have := Box.new ((w.alloc (.cells (kindV n m bk) 86)).alloc (.cells #[.int .i64 0, .int .i64 0, .int .i64 0, .slice none 0 0] 33)) 34 (.int .i64 0)
    simpa only [World.size_alloc] using this
  have hz1 : w1.heap.size = w.heap.size + 3 := by rw [← hw1]; simp
  have c0 : w1.cell? ⟨w.heap.size, 0, none⟩ = some (.int .i64 n) := decl_cells hk1 0
  have c1 : w1.cell? ⟨w.heap.size, 1, none⟩ = some (.int .i64 m) := decl_cells hk1 1
  have c2 : w1.cell? ⟨w.heap.size, 2, none⟩ = some (.int .i64 m) := decl_cells hk1 2
  have c3 : w1.cell? ⟨w.heap.size, 3, none⟩ = some (.int .i64 (-1)) := decl_cells hk1 3
  have c4 : w1.cell? ⟨w.heap.size, 4, none⟩ = some .nilFunc := decl_cells hk1 4
  have HK1 := hide hk1
  have HT1 := hide ht1
  have HE1 := hide he1
  have HX1 := hide hE1
  have HZ1 := hide hz1
  clear hw1 hk1 ht1 he1 hE1
  refine calls_of_wp_m Tryz.func53 rfl ?_
  simp only [Tryz.ntmps53, List.size_toArray, List.length_cons, List.length_nil, Nat.reduceAdd, Nat.reduceSub, Array.replicate_succ, Array.replicate_zero, List.push_toArray, List.append_toArray, List.nil_append, List.cons_append]
  unfold kindV at HW1
  unfold kindV
  go_wp2_with fail
  rw [HW1.out]
  refine (HBN.out _).mono ?_
  rintro e V ⟨rfl, hV⟩
  subst hV
  go_wp2_with fail
  refine (HBM.out _).mono ?_
  rintro e V ⟨rfl, hV⟩
  subst hV
  go_wp2_with fail
  refine (HBM.out _).mono ?_
  rintro e V ⟨rfl, hV⟩
  subst hV
  go_wp2_with fail
  refine (HMANY.out _).mono ?_
  rintro e W2 ⟨rfl, hE2⟩
  have hk2 := (hE2.b.block _ (lt_of_heap HK1.out)).trans HK1.out
  have hc0 : W2.cell? ⟨w.heap.size, 0, none⟩ = some (.int .i64 n) := decl_cells hk2 0
  have hc1 : W2.cell? ⟨w.heap.size, 1, none⟩ = some (.int .i64 m) := decl_cells hk2 1
  have hc2 : W2.cell? ⟨w.heap.size, 2, none⟩ = some (.int .i64 m) := decl_cells hk2 2
  have hc4 : W2.cell? ⟨w.heap.size, 4, none⟩ = some .nilFunc := decl_cells hk2 4
  have HK2 := hide hk2
  have HE2 := hide hE2
  have hz2 : w.heap.size + 3 ≤ W2.heap.size := by have := hE2.size; have := HZ1.out; omega
  have hnf : ∀ V, (binOp BinOp.neq 72 .nilFunc .nilFunc).run Tryz.prog V = .ok (.bool false) V := fun V => by kernel_rfl
  clear c0 c1 c2 c3 c4 hk2 hE2
  have hzs : w.heap.size < W2.heap.size := by omega
  go_upto_region 13 with fail
  obtain ⟨W3, hW3⟩ : ∃ W3, W2.alloc (.cells #[.int .i64 n, .int .i64 m, .int .i64 m, .slice none 0 0] 33) = W3 := ⟨_, rfl⟩
  have HE3 : Hid (Ext W2 W3) := by show Ext _ _; rw [← hW3]; exact (Ext.refl _).alloc _
  have HT3 : Hid (TBox W3 W2.heap.size (.int .i64 n) (.int .i64 m) (.int .i64 m) (.slice none 0 0)) := by show TBox _ _ _ _ _ _; rw [← hW3]; exact heap_alloc_new W2 _
  have hz3 : W3.heap.size = W2.heap.size + 1 := by rw [← hW3]; simp
  rw [hW3]
  have hk3 := (HE3.out.b.block _ (lt_of_heap HK2.out)).trans HK2.out
  have hc0 : W3.cell? ⟨w.heap.size, 0, none⟩ = some (.int .i64 n) := decl_cells hk3 0
  have hc1 : W3.cell? ⟨w.heap.size, 1, none⟩ = some (.int .i64 m) := decl_cells hk3 1
  clear hW3 hc2 hc4 hnf
  obtain ⟨bt, hbt⟩ : ∃ bt, W2.heap.size = bt := ⟨_, rfl⟩
  rw [hbt] at HT3 hz3 hz2 ⊢
  have HK3 := hide hk3
  clear hk3 hbt
  go_wp2_with fail
  obtain ⟨s, hs⟩ : ∃ s, W3.heap.size = s := ⟨_, rfl⟩
  refine (each_any n m W3).mono ?_
  rw [hs]
  rw [hs] at hz3
  rintro e W ⟨rfl, hW⟩
  have hEW : Ext W3 W := by rw [hW]; exact ((Ext.refl W3).alloc _).alloc _
  have hWz : W.heap.size = s + 2 := by rw [hW]; simp [hs]
  have hi1 : W.cell? ⟨s, 0, none⟩ = some (.int .i64 n) := by rw [hW, ← hs]; simp [go_sem]
  have hi2 : W.cell? ⟨s + 1, 0, none⟩ = some (.int .i64 m) := by
    rw [hW, ← hs]
    have := (Box.new (W3.alloc (.cells #[.int .i64 n] 3)) 3 (.int .i64 m)).cell
    simpa only [World.size_alloc] using this
  have HI := hide (And.intro hi1 hi2)
  have HWZ := hide hWz
  have HZ3 := hide hz3
  have HZ2 := hide hz2
  have HEW : Hid (Ext w W) := HX1.out.trans (HE2.out.trans (HE3.out.trans hEW))
  have HBX : Hid (W.heap[w.heap.size]? = some (.cells (kindV n m bk) 86 (0, 0)) ∧ TBox W (w.heap.size + 1) (.int .i64 0) (.int .i64 0) (.int .i64 0) (.slice none 0 0) ∧ Box W (w.heap.size + 1 + 1) 34 (.int .i64 0) ∧ TBox W bt (.int .i64 n) (.int .i64 m) (.int .i64 m) (.slice none 0 0)) :=
    ⟨(hEW.b.block _ (lt_of_heap HK3.out)).trans HK3.out, HT1.out.ext (HE2.out.trans (HE3.out.trans hEW)), HE1.out.ext (HE2.out.trans (HE3.out.trans hEW)), HT3.out.ext hEW⟩
  clear hW hEW hWz hi1 hi2 hs hz3 hc0 hc1 hz2 hzs HE2 HE3 HK2 HK3 HT3 HT1 HE1
  go_wp2_with fail
  obtain ⟨g, hg⟩ : ∃ g, w.heap.size = g := ⟨_, rfl⟩
  have hWz := HWZ.out
  have hz3 := HZ3.out
  have hz2 := HZ2.out
  have HGW := hide hg
  rw [hg] at hz2 HBX ⊢
  refine wp_rangeN (n := m ^ n) rfl (fun _ _ => rfl) (HSEQ.out s) (fun i O x V hi hX => by obtain ⟨b, rfl, _⟩ := hX; rfl)
    (fun i O V => Ext w V ∧ (V.heap[g]? = some (.cells (kindV n m bk) 86 (0, 0)) ∧ TBox V (g + 1) (.int .i64 0) (.int .i64 0) (.int .i64 0) (.slice none 0 0) ∧ Box V (g + 1 + 1) 34 (.int .i64 0)) ∧
      (∀ k, O k → bt < k) ∧ ∃ u vs, TBox V bt (.int .i64 n) (.int .i64 m) (.int .i64 m) u ∧ CL O V (bt + 1) u vs (consL n m i))
    (fun c O V => False) ?_ ?_ ?_ ?_ ?_ ?_ ?_ ?_ ?_
  · exact fun _ _ _ _ => trivial
  · rintro i O O' V V' ⟨h1, ⟨h2, h3, h4⟩, h6, u, vs, h7, h8⟩ hC hG
    have no : ∀ k, k ≤ bt → ¬ O k := fun k hk h => by have := h6 k h; omega
    refine ⟨h1.offc hC (by omega) (fun k hk => by have := h6 k hk; omega), ⟨hC.cells _ _ _ _ h2 (no _ (by omega)), hC.cells _ _ _ _ h3 (no _ (by omega)), hC.cells _ _ _ _ h4 (no _ (by omega))⟩, fun k hk => ?_, u, vs, hC.cells _ _ _ _ h7 (no _ (by omega)), h8.offc hC hG⟩
    have hz := lt_of_heap h7
    rcases (hG k hk).1 with h | h
    · exact h6 k h
    · omega
  · rintro c O O' V V' h; exact h.elim
  · rintro V hE; exact ⟨(hE.cell (by show s < _; omega)).trans HI.out.1, (hE.cell (by show s + 1 < _; omega)).trans HI.out.2⟩
  · rintro k (rfl | rfl) <;> omega
  · obtain ⟨h1, h2, h3, h4⟩ := HBX.out
    exact ⟨HEW.out, ⟨h1, h2, h3⟩, fun k hk => by rcases hk with rfl | rfl <;> omega, _, [], h4, by simpa [consL] using CL.nil _ _ _⟩
  · rintro lp i x O V hi ⟨b, rfl, hOb, hN⟩ ⟨h1, ⟨h2, h3, h4⟩, h6, u, vs, h7, h8⟩ hOV hlp hlV
    gi_wp2_with fail
    obtain ⟨bi, hbi⟩ : ∃ bi, V.heap.size = bi := ⟨_, rfl⟩
    have hEA : Ext V (V.alloc (.cells #[.slice (some ⟨b, 0, none⟩) n n] 45)) := (Ext.refl V).alloc _
    have hbx : Box (V.alloc (.cells #[.slice (some ⟨b, 0, none⟩) n n] 45)) bi 45 (.slice (some ⟨b, 0, none⟩) n n) := by rw [← hbi]; exact Box.new V _ _
    refine ⟨KFO.of_ext hEA hOV, fun W2 hC hKO hLp => ?_⟩
    have hOV2 : ∀ k, O k → k < W2.heap.size := fun k hk => by have := hOV k hk; have := hC.size; have := hEA.size; omega
    have hN2 : Nums W2 b (dig m n i) := (hKO b hOb).trans ((hEA.b.block _ (hOV b hOb)).trans hN)
    have HIN := hide (And.intro hN2 hOb)
    have hkb : W2.heap[g]? = some (.cells (kindV n m bk) 86 (0, 0)) := hC.cells _ _ _ _ ((hEA.b.block _ (lt_of_heap h2)).trans h2)
    have HW := hide (show Ext w W2 ∧ W2.heap[g]? = some (.cells (kindV n m bk) 86 (0, 0)) ∧ TBox W2 (g + 1) (.int .i64 0) (.int .i64 0) (.int .i64 0) (.slice none 0 0) ∧ Box W2 (g + 1 + 1) 34 (.int .i64 0) ∧ TBox W2 bt (.int .i64 n) (.int .i64 m) (.int .i64 m) u ∧ Box W2 bi 45 (.slice (some ⟨b, 0, none⟩) n n) from
      ⟨(h1.trans hEA).chg hC (by omega), hkb, hC.cells _ _ _ _ (h3.ext hEA), (h4.ext hEA).chg hC, hC.cells _ _ _ _ (h7.ext hEA), hbx.chg hC⟩)
    have HCL : Hid (CL O W2 (bt + 1) u vs (consL n m i)) := (h8.ext hOV hEA).offc (OffC.of_chg hC) (Grow.same (fun k hk => by have := hOV k hk; have := hEA.size; omega) hC.size)
    have HOV := hide hOV2
    have HO6 := hide h6
    have HLP := hide hLp
    have hbiW : w.heap.size + 3 ≤ bi := by have := lt_of_heap h7; omega
    have HBI := hide (show bt < bi from by have := lt_of_heap h7; omega)
    have hc4 : W2.cell? ⟨g, 4, none⟩ = some .nilFunc := decl_cells hkb 4
    have hcb := HW.out.2.2.2.2.2.cell
    have hlt := lt_of_heap hkb
    have hltb := HW.out.2.2.2.2.2.lt
    have hnf : ∀ V, (binOp BinOp.neq 72 .nilFunc .nilFunc).run Tryz.prog V = .ok (.bool false) V := fun V => by kernel_rfl
    rw [hbi]
    clear h1 h2 h3 h4 h6 h7 h8 hN hOb hC hKO hOV hOV2 hEA hbx hLp hN2 hkb
    gi_wp2_with fail
    rename_i hKK _ _ _ _
    refine ⟨fun _ h => (nomatch h), hKK _ _ ?_⟩
    gi_wp2_with fail
    have hrow : Row icells 1 W2 (.slice (some ⟨b, 0, none⟩) n n) (dig m n i) := by
      have := HIN.out.1.row (by rw [dig_len]; omega)
      rwa [dig_len] at this
    have hcl := cloneI_any (dig m n i) b 0 (dig m n i).length W2 (by rw [dig_len]; exact hrow) (by rw [dig_len]; omega)
    rw [dig_len] at hcl
    refine ⟨trivial, rfl, CallsIn.inRound lp ((callsIn_wide (n := 0)).2 (hcl.mono ?_))⟩
    clear hcl
    rintro e W5 ⟨⟨y, rfl, hy⟩, hE5⟩
    clear hc4 hcb hnf
    obtain ⟨py, cy, rfl⟩ : ∃ py cy, y = .slice py n cy := by
      obtain ⟨q1, c1, h⟩ := hy.sl
      rw [dig_len] at h
      exact ⟨q1, c1, h⟩
    have hk5 : W5.heap[g]? = some (.cells (kindV n m bk) 86 (0, 0)) := (hE5.b.block _ hlt).trans HW.out.2.1
    have hc0 : W5.cell? ⟨g, 0, none⟩ = some (.int .i64 n) := decl_cells hk5 0
    have hc2 : W5.cell? ⟨g, 2, none⟩ = some (.int .i64 m) := decl_cells hk5 2
    have hlt5 : g < W5.heap.size := lt_of_heap hk5
    clear hk5 hlt
    gi_wp2_with fail
    obtain ⟨W6, hW6⟩ : ∃ W6, W5.alloc (.cells #[.slice py n cy, .slice none 0 0, .slice none 0 0] 60) = W6 := ⟨_, rfl⟩
    have HE6 : Hid (Ext W2 W6) := by show Ext _ _; rw [← hW6]; exact hE5.alloc _
    have HC6 : Hid (CBox W6 W5.heap.size (.slice py n cy) (.slice none 0 0) (.slice none 0 0)) := by show CBox _ _ _ _ _; rw [← hW6]; exact heap_alloc_new W5 _
    have HY6 : Hid (Own icells 1 W6 W2.heap.size 3 (.slice py n cy) (dig m n i)) := by show Own _ _ _ _ _ _ _; rw [← hW6]; exact hy.alloc _
    have hz6 : W6.heap.size = W5.heap.size + 1 := by rw [← hW6]; simp
    have hz52 : W2.heap.size ≤ W5.heap.size := hE5.size
    rw [hW6]
    have HZ6 := hide hz6
    have HZ52 := hide hz52
    clear hW6 hy hE5 hc0 hc2 hz6 hz52
    refine ⟨trivial, rfl, CallsIn.inRound lp ((callsIn_wide (n := 0)).2 ((each_any n m W6).mono ?_))⟩
    rintro e W7 ⟨rfl, hW7⟩
    have HW7 := hide hW7
    clear hW7
    gi_wp2_with fail
    have hW7 := HW7.out
    have hz6 := HZ6.out
    have hz52 := HZ52.out
    have hE67 : Ext W6 W7 := by rw [hW7]; exact ((Ext.refl W6).alloc _).alloc _
    obtain ⟨s2, hs2⟩ : ∃ s2, W6.heap.size = s2 := ⟨_, rfl⟩
    have hz7 : W7.heap.size = s2 + 2 := by rw [hW7]; simp [hs2]
    have hj1 : W7.cell? ⟨s2, 0, none⟩ = some (.int .i64 n) := by rw [hW7, ← hs2]; simp [go_sem]
    have hj2 : W7.cell? ⟨s2 + 1, 0, none⟩ = some (.int .i64 m) := by
      rw [hW7, ← hs2]
      have := (Box.new (W6.alloc (.cells #[.int .i64 n] 3)) 3 (.int .i64 m)).cell
      simpa only [World.size_alloc] using this
    have HI2 := hide (And.intro hj1 hj2)
    have HE67 := hide hE67
    obtain ⟨bc, hbc⟩ : ∃ bc, W5.heap.size = bc := ⟨_, rfl⟩
    rw [hbc] at HC6 hz6 hz52
    rw [hs2] at hz6
    have HS2 := hide hs2
    have HLP7 : Hid (∃ r, W7.heap[lp]? = some (.loop r)) := by
      obtain ⟨r, hr⟩ := HLP.out
      exact ⟨r, ((HE6.out.trans hE67).b.block _ (lt_of_heap hr)).trans hr⟩
    rw [hs2, hbc]
    clear HW7 hW7 hj1 hj2 hbc hs2
    refine wpIn_rangeN (n := m ^ n) HLP7.out rfl (fun _ _ => rfl) (HSEQ.out s2) (fun i O x V hi hX => by obtain ⟨b, rfl, _⟩ := hX; rfl)
      (fun j O2 U => MJ bc s2 W6 (.slice py n cy) m n (agreeB 1 (dig m n i)) j O2 U) (fun c O2 U => False) ?_ ?_ ?_ ?_ ?_ ?_ ?_ ?_ ?_
    · exact fun _ _ _ _ => trivial
    · intro j O2 O2' U U' h1 hC hG
      exact h1.rely HS2.out (by omega) (by omega) hC hG
    · rintro c O O' V V' h; exact h.elim
    · rintro V hE; exact ⟨(hE.cell (by show s2 < _; omega)).trans HI2.out.1, (hE.cell (by show s2 + 1 < _; omega)).trans HI2.out.2⟩
    · rintro k (rfl | rfl) <;> omega
    · refine ⟨Off.of_ext HE67.out, fun k hk => by rcases hk with rfl | rfl <;> omega, _, [], HC6.out.ext HE67.out, by simpa [selV] using CV.nil _ _ _⟩
    · rintro lp2 j x O2 U hj ⟨b2, rfl, hOb2, hN2⟩ hMJ hOU hlp2 hlU
      have HP1 := hide (selV_yes (P := agreeB 1 (dig m n i)) hj)
      have HP0 := hide (selV_no (P := agreeB 1 (dig m n i)) hj)
      have HLN := hide (selV_len m n (agreeB 1 (dig m n i)) j)
      have HJ := hide (show j < 1024 by have := HMN.out; omega)
      clear hj
      gi_wp2_with fail
      refine ⟨KFO.of_ext (Ext.refl _) hOU, fun U2 hC2 hKO2 hLp2 => ?_⟩
      have hN := (hKO2 b2 hOb2).trans hN2
      have hOU2 : ∀ k, O2 k → k < U2.heap.size := fun k hk => by have := hOU k hk; have := hC2.size; omega
      have hM2 : MJ bc s2 W6 (.slice py n cy) m n (agreeB 1 (dig m n i)) j O2 U2 := hMJ.rely HS2.out (by omega) (B := W7.heap.size) (by omega) (OffC.of_chg hC2) (Grow.same hOU hC2.size)
      have hE2U : Ext W2 U2 := hM2.ext2 HE6.out (by omega)
      have hk2 := (hE2U.b.block _ (lt_of_heap HW.out.2.1)).trans HW.out.2.1
      have hc5 : U2.cell? ⟨g, 5, none⟩ = some (.func (.func 84) #[] #[.pointer (some ⟨bk, 0, none⟩)]) := decl_cells hk2 5
      have hbx := HW.out.2.2.2.2.2.ext hE2U
      have hcb := hbx.cell
      have hri : Row icells 1 U2 (.slice (some ⟨b, 0, none⟩) n n) (dig m n i) := by
        have := (show Nums U2 b (dig m n i) from (hE2U.b.block _ (lt_of_heap HIN.out.1)).trans HIN.out.1).row (by rw [dig_len]; omega)
        rwa [dig_len] at this
      have hro : Row icells 1 U2 (.slice (some ⟨b2, 0, none⟩) n n) (dig m n j) := by
        have := (show Nums U2 b2 (dig m n j) from hN).row (by rw [dig_len]; omega)
        rwa [dig_len] at this
      have HCALL := hide (agree1_any 1 _ _ _ _ bk U2 (HB.out.ext (HW.out.1.trans hE2U)) hri hro)
      have HN := hide (And.intro hN hOb2)
      have HOU2 := hide hOU2
      have HM2 := hide hM2
      have HE2U := hide hE2U
      have hgz : g < U2.heap.size := lt_of_heap hk2
      have hbz : bi < U2.heap.size := hbx.lt
      have HLP2 := hide hLp2
      clear hN hN2 hOb2 hMJ hOU hKO2 hOU2 hM2 hE2U hk2 hbx hri hro hLp2 hC2
      gi_wp2_with fail
      refine ⟨trivial, rfl, CallsIn.inRound lp2 ((callsIn_wide (n := 0)).2 (HCALL.out.mono ?_))⟩
      rintro e U3 ⟨rfl, hE3⟩
      have HM3 := hide (HM2.out.ext HS2.out (by omega) HOU2.out hE3)
      have HK3 : Hid (KFO W7.heap.size O2 U2 U3) := KFO.of_ext hE3 HOU2.out
      have HOU3 : Hid (∀ k, O2 k → k < U3.heap.size) := fun k hk => by have := HOU2.out k hk; have := hE3.size; omega
      have HN3 := hide (show Nums U3 b2 (dig m n j) from (hE3.b.block _ (lt_of_heap HN.out.1)).trans HN.out.1)
      have HE3 := hide (HE2U.out.trans hE3)
      clear hc5 hcb hgz hbz HCALL HM2 hE3
      cases hp : agreeB 1 (dig m n i) (dig m n j) with
      | false =>
        have HS := hide (HP0.out hp)
        clear hp HP1 HP0
        gi_wp2_with fail
        refine ⟨HK3.out, HM3.out.off, HM3.out.low, ?_⟩
        obtain ⟨uo, vo, h1, h2⟩ := HM3.out.cs
        exact ⟨uo, vo, h1, by rw [HS.out]; exact h2⟩
      | true =>
        have HS := hide (HP1.out hp)
        clear hp HP1 HP0
        obtain ⟨uo, vo, hcx, hcv⟩ := HM3.out.cs
        obtain ⟨q1, c1, hu⟩ : ∃ q c, uo = .slice q (selV m n (agreeB 1 (dig m n i)) j).length c := hcv.coll.sl
        subst hu
        have hlen := hcv.len
        have hd : (((selV m n (agreeB 1 (dig m n i)) j).length : Int) == 1024) = false := by
          have := HLN.out; have := HJ.out
          rw [beq_eq_false_iff_ne]; omega
        obtain ⟨-, x1, -, -, -, xz⟩ := hcx.cells
        have HCX := hide hcx
        have HCV := hide hcv
        have HLENV := hide hlen
        clear hcx hcv hlen
        gi_wp2_with fail
        have HX1 := hide x1
        clear x1 hd
        refine wpIn_region_held 3 (fun V => V.heap[bc]? = U3.heap[bc]?) (by kernel_rfl) (by kernel_rfl) (by kernel_rfl) ?_
        intro U4 hU4
        have hE4 : Ext U3 U4 := by rw [hU4]; exact (Ext.refl U3).drew
        clear hU4
        refine ⟨hE4.b.block _ xz, ?_⟩
        simp only [List.take_succ_cons, List.take_zero, List.drop_succ_cons, List.drop_zero]
        refine wpHead_step (.pointer (some ⟨bc, 1, none⟩)) (by simp [Region.wanted]) (fun V hV => by go_simp) ?_
        refine wpHead_step (.slice q1 (selV m n (agreeB 1 (dig m n i)) j).length c1) (by simp [Region.wanted]) (fun V hV => by
          have hx := (World.cell?_of_block (a := ⟨bc, 1, none⟩) hV).trans HX1.out
          go_simp) ?_
        refine wpHead_step (.slice (some ⟨b2, 0, none⟩) n n) (by simp [Region.wanted]) (fun V _ => by go_simp) ?_
        simp only [Act.put, List.setIfInBounds_toArray, List.set_cons_zero, List.set_cons_succ]
        show wpTail _ _ _ _ _ _ _ _ _
        refine wpTail_keep (fun KK hKK => ?_)
        go_wp2_with fail
        have hcl := cloneI_any (dig m n j) b2 0 (dig m n j).length U4 ((HN3.out.row (by rw [dig_len]; omega)).ext hE4) (by rw [dig_len]; omega)
        rw [dig_len] at hcl
        refine hcl.mono ?_
        clear hcl
        rintro e U5 ⟨⟨y, rfl, hy⟩, hE5⟩
        have hE45 := hE4.trans hE5
        have hb5 : bc < U5.heap.size := Nat.lt_of_lt_of_le xz hE45.size
        have hS5 := hE45.b.block _ xz
        have hyl := dig_len m n j
        have HY := hide (hy.rowE (by rw [hyl]; omega))
        have hs23 : s2 ≤ U3.heap.size := by have := HM3.out.off.size; have := HS2.out; omega
        have HYO : Hid (∀ a n c, y = .slice (some a) n c → ¬ (a.block < s2 ∨ O2 a.block)) := fun a n' c' hya hOa => by
          have h2 := hy.block_ge a.block (by rw [hya]; rfl)
          have h3 := hE4.size
          rcases hOa with hOa | hOa
          · omega
          · have h1 := HOU3.out _ hOa; omega
        obtain ⟨py2, cy2, hye⟩ : ∃ py cy, y = .slice py n cy := by obtain ⟨⟨p, c, h, _⟩, _⟩ := HY.out; exact ⟨p, c, by rw [h, hyl]⟩
        clear hy hyl
        subst hye
        have HE45 := hide hE45
        have HCV5 := hide (HCV.out.ext hE45)
        have hlen5 : vo.length ≤ 1000000 := by have := HLENV.out; have := HLN.out; have := HJ.out; omega
        have hbase5 : s2 ≤ U5.heap.size + 1 := by have := hE45.size; omega
        clear hE4 hE5 hE45
        go_wp2_with fail
        refine ⟨rfl, hKK _ _ hS5 ?_⟩
        clear hKK KK
        refine wpTail_keep (fun KK hKK => ?_)
        go_wp2_with fail
        refine ⟨rfl, hKK _ _ ((Below.heap_alloc _ _ _ hb5).trans hS5) ?_⟩
        clear hKK KK
        refine wpTail_keep (fun KK hKK => ?_)
        go_wp2_with (at_builtin; refine wpList_append1 rfl (.tmp 111) (.tmp 114) 56 rfl s2 45 (.slice none 0 0) 1 24 Tryz.underlying56 islice_info rfl (by decide) _ vo (.slice py2 n cy2) U5.heap.size rfl (HCV5.out.own.alloc _) rfl (cell_new1 _ _ _) (by intro x hx; simp only [List.mem_singleton] at hx; rw [hx]; rfl) (by omega) (by decide) (by simp only [World.size_alloc]; exact hbase5) ?_; intro v' U6 hown' hg6 hf6)
        have hcv6 : CV (fun k => k < s2 ∨ O2 k) 45 3 icells 1 U6 s2 v' (vo ++ [.slice py2 n cy2]) (selV m n (agreeB 1 (dig m n i)) j ++ [dig m n j]) :=
          CV.push (HCV5.out.ext ((Ext.refl U5).alloc _)) (fun k hk => by
            have := HE45.out.size
            simp only [World.size_alloc]
            rcases hk with hk | hk
            · omega
            · have := HOU3.out k hk; omega) (by decide) hown' hg6 hf6 (HY.out.ext ((Ext.refl U5).alloc _)) HYO.out
        have hge : ∀ k, (Value.slice q1 (selV m n (agreeB 1 (dig m n i)) j).length c1).ownBlock = some k → s2 ≤ k := HCV5.out.own.block_ge
        have hcx6 : CBox U6 bc (.slice py n cy) (.slice q1 (selV m n (agreeB 1 (dig m n i)) j).length c1) (.slice none 0 0) :=
          (hg6.block _ (by simp only [World.size_alloc]; omega) (fun he => by have := hge bc he.symm; omega)).trans ((Below.heap_alloc _ _ _ hb5).trans (hS5.trans HCX.out))
        have hS6 : U6.heap[bc]? = U3.heap[bc]? := hcx6.trans HCX.out.symm
        have hoff6 : Off (fun k => k = bc) W6 U6 := (HM3.out.off.trans (Off.of_ext (HE45.out.alloc _))).grown hg6 (fun k hk => by have := hge k hk; have := HS2.out; omega)
        have hK6 : KFO W7.heap.size O2 U2 U6 := (HK3.out.trans (KFO.of_ext (HE45.out.alloc _) HOU3.out)).trans (KFO.grown hg6 (fun k hk => by have := HOU3.out k hk; have := HE45.out.size; simp only [World.size_alloc]; omega) (fun k hk => ⟨by
          obtain ⟨cs, fr, hh⟩ := (HCV5.out.ext ((Ext.refl U5).alloc _)).own.typed k hk
          exact ⟨cs, _, fr, hh⟩, fun hO => HCV5.out.no k hk (.inr hO)⟩))
        have HALL := hide (And.intro hcv6 (And.intro hcx6 (And.intro hoff6 hK6)))
        obtain ⟨-, y1, -, f1, -, z6⟩ := hcx6.cells
        obtain ⟨g7, c7, rfl, -⟩ := hf6
        clear hcv6 hge hcx6 hoff6 hK6 hown' hg6
        refine ⟨rfl, hKK _ _ hS6 ?_⟩
        clear hKK KK
        refine wpTail_keep (fun KK hKK => ?_)
        go_wp2_with fail
        refine ⟨rfl, hKK _ _ hS6 ?_⟩
        clear hKK KK
        refine wpTail_free (by kernel_rfl) (fun KK hKK => ?_)
        go_wp2_with fail
        refine ⟨rfl, hKK _ _ ?_⟩
        clear hKK KK
        refine wpTail_nil ?_
        obtain ⟨U7, hU7⟩ : ∃ U7, U6.setCell ⟨bc, 1, none⟩ (.slice (some ⟨g7, 0, none⟩) (vo.length + 1) c7) = U7 := ⟨_, rfl⟩
        have hM7 : MJ bc s2 W6 (.slice py n cy) m n (agreeB 1 (dig m n i)) (j + 1) O2 U7 := by
          obtain ⟨hcv6, hcx6, hoff6, -⟩ := HALL.out
          rw [← hU7]
          rw [← HS.out] at hcv6
          exact ⟨hoff6.setCell (a := ⟨bc, 1, none⟩) rfl _, HM3.out.low, _, _, hcx6.set1 _, hcv6.setOther hcx6 (by decide) (by decide) 1 _⟩
        have hK7 : KFO W7.heap.size O2 U2 U7 := by
          rw [← hU7]
          exact HALL.out.2.2.2.trans (KFO.setCell _ _ _ (fun h => by have : s2 ≤ bc := HM3.out.low _ h; omega))
        rw [hU7]
        have HMK := hide (And.intro hM7 hK7)
        have hE27 : Ext W2 U7 := hM7.ext2 HE6.out (by omega)
        have hk7 := (hE27.b.block _ (lt_of_heap HW.out.2.1)).trans HW.out.2.1
        have hc6 : U7.cell? ⟨g, 6, none⟩ = some .nilFunc := decl_cells hk7 6
        have hgz7 : g < U7.heap.size := lt_of_heap hk7
        have hnf2 : ∀ V, (binOp BinOp.neq 48 .nilFunc .nilFunc).run Tryz.prog V = .ok (.bool false) V := fun V => by kernel_rfl
        clear hU7 hM7 hK7 hE27 hk7 y1 f1
        gi_wp2_with fail
        rename_i hKK _ _ _ _
        refine ⟨fun _ h => (nomatch h), hKK _ _ ?_⟩
        gi_wp2_with fail
        exact ⟨HMK.out.2, HMK.out.1⟩
    · intro O2 U hM
      obtain ⟨uo, vo, hcx, hcv⟩ := hM.cs
      have hE2U : Ext W2 U := hM.ext2 HE6.out (by omega)
      have hs6 := HS2.out
      have hsU : s2 ≤ U.heap.size := by have := hM.off.size; omega
      have hst : Stay W6 U := Stay.off hM.off (fun k hk => by rw [hk]; exact ⟨_, _, _, HC6.out, by decide, by decide⟩)
      have hW2s : W2.heap.size ≤ s2 := by have := HE6.out.size; omega
      obtain ⟨qo, ko, hue⟩ := hcv.coll.sl
      subst hue
      have HCS : Hid (CaseN O U (.slice py n cy, .slice qo (selV m n (agreeB 1 (dig m n i)) (m ^ n)).length ko, .slice none 0 0) (consC n m (dig m n i))) := by
        refine ⟨(HY6.out.rowE (by rw [dig_len]; omega)).stay hst, fun a n' c' h hO => ?_, ⟨vo, ?_⟩, rfl, rfl⟩
        · have h2 := HY6.out.block_ge a.block (by
            replace h : Value.slice py n cy = .slice (some a) n' c' := h
            rw [h]; rfl)
          have := HOV.out _ hO
          omega
        · have := hcv.weak (O' := O) (fun k hk => .inl (by have := HOV.out k hk; omega))
          rwa [show (consC n m (dig m n i)).out = selV m n (agreeB 1 (dig m n i)) (m ^ n) from (selV_all m n _).symm]
      have HT := hide (HW.out.2.2.2.2.1.ext hE2U)
      have HCL2 := hide (HCL.out.ext HOV.out hE2U)
      have HEU := hide hE2U
      have hvl : vs.length ≤ 1024 := by rw [HCL.out.len, consL_len (by omega)]; have := HMN.out; omega
      generalize (selV m n (agreeB 1 (dig m n i)) (m ^ n)).length = lo at hcx HCS
      obtain ⟨x0, x1, x2, -, -, x15⟩ := hcx.cells
      obtain ⟨y0, y1, y2, y3⟩ := HT.out.cells
      obtain ⟨qu, ku, hue⟩ := HCL2.out.own.sl
      subst hue
      have hbase : bt + 1 ≤ U.heap.size + 1 := by have := lt_of_heap HT.out; omega
      have hbtz := lt_of_heap HT.out
      clear hM hcx hcv hE2U hst hs6
      gi_wp2_with (gi_at_builtin; refine wpListIn_append1 rfl (.tmp 135) (.tmp 137) 31 rfl (bt + 1) 60 (.agg #[.slice none 0 0, .slice none 0 0, .slice none 0 0]) 3 72 Tryz.underlying31 case_info rfl (by decide) _ vs (.slice py n cy, .slice qo lo ko, .slice none 0 0) U.heap.size rfl (HCL2.out.own.alloc _) rfl (cell_new_t U (.slice py n cy, .slice qo lo ko, .slice none 0 0)) (by intro z hz; simp only [List.mem_cons, List.not_mem_nil, or_false] at hz; rcases hz with rfl | rfl | rfl <;> rfl) (by omega) (by decide) (by simp only [World.size_alloc]; exact hbase) ?_; intro v' X3 hown3 hg3 hf3; obtain ⟨g3, c3', rfl, hf3⟩ := hf3; have hne3 : bt ≠ g3 := ne_of_form hf3 (fun j hj => by have := (HCL2.out.own.2.lt _ hj).1; omega) (by simp only [World.size_alloc]; omega); have HT3 : Hid (TBox X3 bt (.int .i64 n) (.int .i64 m) (.int .i64 m) (.slice qu vs.length ku)) := (hg3.block _ (by simp only [World.size_alloc]; omega) (fun he => by have := (HCL2.out.own.2.lt bt he.symm).1; omega)).trans ((Below.heap_alloc _ _ _ hbtz).trans HT.out); obtain ⟨-, -, -, w3⟩ := HT3.out.cells; obtain ⟨-, -, -, f3⟩ := HT3.out.frozen; have HG3 := hide hg3; have HO3 := hide hown3; have HF3 := hide hf3; clear hg3 hown3 hf3)
      have HGA := hide (HG3.out)
      have hlow : ∀ k, k < bt → (X3.setCell ⟨bt, 3, none⟩ (.slice (some ⟨g3, 0, none⟩) (vs.length + 1) c3')).heap[k]? = W2.heap[k]? := fun k hk => by
        rw [Below.heap_setCell _ _ _ _ (show k ≠ bt by omega), HG3.out.block _ (by simp only [World.size_alloc]; omega) (fun he => by have := (HCL2.out.own.2.lt k he.symm).1; omega), Below.heap_alloc _ _ _ (by omega)]
        exact HEU.out.b.block _ (Nat.lt_of_lt_of_le hk (by have := HT.out; have := lt_of_heap HW.out.2.2.2.2.1; omega))
      have hOA : ∀ k, O k → k < (U.alloc (.cells #[.slice py n cy, .slice qo lo ko, .slice none 0 0] 60)).heap.size := fun k hk => by
        have := HOV.out k hk; have := HEU.out.size; simp only [World.size_alloc]; omega
      have hK6 : KFO W.heap.size O W2 (X3.setCell ⟨bt, 3, none⟩ (.slice (some ⟨g3, 0, none⟩) (vs.length + 1) c3')) :=
        ((KFO.of_ext (HEU.out.alloc _) HOV.out).trans (KFO.grown HG3.out hOA (fun k hk => ⟨by
          obtain ⟨cs, fr, hh⟩ := (HCL2.out.own.alloc (.cells #[.slice py n cy, .slice qo lo ko, .slice none 0 0] 60)).typed k hk
          exact ⟨cs, _, fr, hh⟩, HCL2.out.no k hk⟩))).trans (KFO.setCell _ _ _ (fun h => by have : bt < bt := HO6.out _ h; omega))
      have hst3 : Stay (U.alloc (.cells #[.slice py n cy, .slice qo lo ko, .slice none 0 0] 60)) (X3.setCell ⟨bt, 3, none⟩ (.slice (some ⟨g3, 0, none⟩) (vs.length + 1) c3')) :=
        (Stay.grown HG3.out (HCL2.out.own.alloc _).typed (by decide) (by decide)).trans (HT3.out.stay3 _)
      refine ⟨hK6, (((HW.out.1.trans HEU.out).alloc _).grown HG3.out (fun k hk => by have := (HCL2.out.own.2.lt k hk).1; omega)).setCell (by show w.heap.size ≤ bt; omega) _,
        ⟨(hlow g (by omega)).trans HW.out.2.1, (hlow (g + 1) (by omega)).trans HW.out.2.2.1, (hlow (g + 1 + 1) (by omega)).trans HW.out.2.2.2.1⟩, HO6.out, _, vs ++ [(.slice py n cy, .slice qo lo ko, .slice none 0 0)], HT3.out.set3 _, ?_⟩
      rw [consL_succ (by have := HI2.out; omega)]
      exact (HCL2.out.ext (fun k hk => by have := HOV.out k hk; have := HEU.out.size; omega) ((Ext.refl U).alloc _)).push hOA (HO3.out.setNe (fun k hk => by
        have : g3 = k := by injection hk
        subst this
        exact fun h => hne3 h.symm) _) ⟨g3, c3', rfl, HF3.out⟩ hst3 (HCS.out.stay (Stay.of_ext ((Ext.refl U).alloc _)))
    · exact fun _ _ _ h => h.elim
  · rintro M O V ⟨h1, ⟨h2, h3, h4⟩, h6, u, vs, h7, h8⟩ hMl hM
    obtain ⟨k0, k1, k2, k3⟩ := h7.cells
    obtain ⟨f0, f1, f2, f3⟩ := h3.frozen
    obtain ⟨l0, l1, l2, l3⟩ := h3.cells
    have he := h4.cell
    have hef := h4.frozen
    have HT := hide h3
    have HE := hide h4
    have HM := hide hM
    have HV := hide h1
    have HQQ := HQ.out
    have HCL : Hid (CL O V (bt + 1) u vs (consT n m).cs) := by show CL _ _ _ _ _ _; rw [← consL_all]; exact h8
    have HU := hide h7
    have hvl : vs.length ≤ 1024 := by rw [h8.len, consL_len (Nat.le_refl _)]; exact HMN.out
    have HVL := hide hvl
    obtain ⟨qu, cu, rfl⟩ := h8.own.sl
    clear h1 h2 h3 h4 h6 h7 h8 hM hvl HQQ
    go_wp2_with fail
    obtain ⟨X4, hX4⟩ : ∃ X4, ((((V.setCell ⟨g + 1, 0, none⟩ (.int .i64 n)).setCell ⟨g + 1, 1, none⟩ (.int .i64 m)).setCell ⟨g + 1, 2, none⟩ (.int .i64 m)).setCell ⟨g + 1, 3, none⟩ (.slice qu vs.length cu)) = X4 := ⟨_, rfl⟩
    have ho4 : ∀ k, k ≠ g + 1 → X4.heap[k]? = V.heap[k]? := fun k hk => by
      rw [← hX4, Below.heap_setCell _ _ _ _ hk, Below.heap_setCell _ _ _ _ hk, Below.heap_setCell _ _ _ _ hk, Below.heap_setCell _ _ _ _ hk]
    have ht4 : TBox X4 (g + 1) (.int .i64 n) (.int .i64 m) (.int .i64 m) (.slice qu vs.length cu) := by rw [← hX4]; exact HT.out.store _ _ _ _
    have hs4 : Stay V X4 := by rw [← hX4]; exact HT.out.stay4 _ _ _ _
    have hx4 : Ext w X4 := by rw [← hX4]; exact ext_store4 HV.out (by omega) _ _ _ _
    rw [hX4]
    have he4 : Box X4 (g + 1 + 1) 34 (.int .i64 0) := (ho4 _ (by omega)).trans HE.out
    have ht5 : TBox (X4.setCell ⟨g + 1 + 1, 0, none⟩ (.int .i64 0)) (g + 1) (.int .i64 n) (.int .i64 m) (.int .i64 m) (.slice qu vs.length cu) := (Below.heap_setCell _ _ _ _ (by show g + 1 ≠ g + 1 + 1; omega)).trans ht4
    have he5 := he4.set (u := .int .i64 0)
    have hM5 : (X4.setCell ⟨g + 1 + 1, 0, none⟩ (.int .i64 0)).heap[M]? = some (.deferred (some [])) := by
      rw [Below.heap_setCell _ _ _ _ (by show M ≠ g + 1 + 1; omega), ho4 _ (by omega)]; exact HM.out
    have hcl := (HCL.out.stay (hs4.trans (Stay.set he4 (by decide) (by decide) 0 (.int .i64 0))) (fun k hk => by
      have := HCL.out.own.block_ge k hk
      rw [Below.heap_setCell _ _ _ _ (by show k ≠ g + 1 + 1; omega), ho4 _ (by omega)])).offc (O' := fun _ => False) (OffC.of_chg (Chg.putObj (B := 0) (.deferred none) hM5 rfl (Nat.zero_le _))) (fun k hk => hk.elim)
    obtain ⟨a0, a1, a2, a3⟩ := ht5.cells
    refine leave_mark rfl hM5 (results_task2 rfl _ _ rfl rfl (cell_putObj hM5 rfl _ a0) (cell_putObj hM5 rfl _ a1) (cell_putObj hM5 rfl _ a2) (cell_putObj hM5 rfl _ a3) (cell_putObj hM5 rfl _ he5.cell)) ⟨_, rfl, ⟨_, vs, rfl, hcl.mono (by omega), by rw [← hcl.len]; have := HVL.out; omega⟩, ?_⟩
    exact (hx4.setCell (by show w.heap.size ≤ g + 1 + 1; omega) _).putObj (by omega) _
  · exact fun _ _ _ _ h => h.elim
end Go.Proofs.YthkididgbaamcaaGreatDoor
