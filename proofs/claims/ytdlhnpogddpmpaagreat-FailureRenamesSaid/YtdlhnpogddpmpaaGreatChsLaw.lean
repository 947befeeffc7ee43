/-
  What is known of the adversaries that the law's chosen returns.
  Conditions: none.
-/
import Derived.Test.YtdlhnpogddpmpaaGreatImpLaw
import Derived.Test.YtdlhnpogddpmpaaGreatPartLaw
import Derived.Test.YtdlhnpogddpmpaaGreatBldTrim
import Derived.Deep.CutRange
namespace Go.Proofs.YtdlhnpogddpmpaaGreat
open Go.RowKit
attribute [local go_sem] Oper.semAt_some

/-- A box of an adversary. -/
def BX (W : World) (b : Nat) (n : Int) (s : Value) : Prop := W.heap[b]? = some (.cells #[.int .i64 n, s] 26 (0, 0))
theorem BX.facts {W : World} {b : Nat} {n : Int} {s : Value} (h : BX W b n s) : W.cell? ⟨b, 0, none⟩ = some (.int .i64 n) ∧ W.cell? ⟨b, 1, none⟩ = some s ∧ W.frozen? ⟨b, 0, none⟩ = false ∧ W.frozen? ⟨b, 1, none⟩ = false ∧ b < W.heap.size := ⟨cells_at h 0, cells_at h 1, frozen_of h, frozen_of h, lt_of_heap h⟩
theorem BX.ext {W W' : World} {b : Nat} {n : Int} {s : Value} (h : BX W b n s) (hE : Ext W W') : BX W' b n s := (hE.b.block _ (lt_of_heap h)).trans h
theorem BX.set {W : World} {b : Nat} {n m : Int} {s t : Value} (h : BX W b n s) : BX ((W.setCell ⟨b, 0, none⟩ (.int .i64 m)).setCell ⟨b, 1, none⟩ t) b m t := heap_set (heap_set h _) _
theorem BX.other {W : World} {b b' : Nat} {n m : Int} {s t : Value} (h : BX W b n s) (hne : b ≠ b') : BX ((W.setCell ⟨b', 0, none⟩ (.int .i64 m)).setCell ⟨b', 1, none⟩ t) b n s := by
  show _ = _
  rw [Below.heap_setCell _ _ _ _ (by simpa using hne), Below.heap_setCell _ _ _ _ (by simpa using hne)]
  exact h
theorem BX.new (W : World) (n : Int) (s : Value) : BX (W.alloc (.cells #[.int .i64 n, s] 26)) W.heap.size n s := heap_alloc_new W _
theorem BX.old {W : World} {b : Nat} {n : Int} {s : Value} (h : BX W b n s) (o : Obj) : BX (W.alloc o) b n s := (Below.heap_alloc _ _ _ (lt_of_heap h)).trans h
theorem results_adv2 {fn : Func} {a b c : Tmp} (h : fn.results = #[.cell a 26, .cell b 26, .tmp c]) {tmps : Array Value} {w : World} {p q : Nat} {n m : Int} {sv tv e : Value}
    (ha : tmps.getD a undef = .pointer (some ⟨p, 0, none⟩)) (hb : tmps.getD b undef = .pointer (some ⟨q, 0, none⟩)) (hc : tmps.getD c undef = e) (hp : BX w p n sv) (hq : BX w q m tv) :
    (results fn tmps).run Tryz.prog w = .ok (.tuple #[.agg #[.int .i64 n, sv], .agg #[.int .i64 m, tv], e]) w := by
  rw [Array.getD_eq_getD_getElem?] at ha hb hc
  obtain ⟨p0, p1, -, -, -⟩ := hp.facts
  obtain ⟨q0, q1, -, -, -⟩ := hq.facts
  simp [results, h, ha, hb, hc, go_sem, p0, p1, q0, q1]
/-- An adversary that is returned, in memory of the call's own. -/
def RetC (A : Adv) (W : World) (e : Ending) (W' : World) : Prop := ∃ (q : Option Addr) (c : Nat), e = .returned (.tuple #[.agg #[.int .i64 A.n, .slice q A.st.length c], .int .i64 0]) ∧ AdvC W.heap.size W' (.agg #[.int .i64 A.n, .slice q A.st.length c]) A ∧ Ext W W'
theorem RetF.okC {A : Adv} {W : World} {e : Ending} {W' : World} (h : RetF (A, 0) W e W') : RetC A W e W' := by
  obtain ⟨v, rfl, hv, hE⟩ := h
  obtain ⟨sv, rfl, hco, -⟩ := id hv
  obtain ⟨q, c, rfl⟩ := hco.sl
  exact ⟨q, c, rfl, hv, hE⟩
theorem AdvC.storeB {base : Nat} {W : World} {v u u' : Value} {A : Adv} {b : Nat} {n : Int} {s : Value} (h : AdvC base W v A) (hb : BX W b n s) : AdvC base ((W.setCell ⟨b, 0, none⟩ u).setCell ⟨b, 1, none⟩ u') v A := h.stored2 hb
/-- What the stores of the results keep. -/
structure ChS (w : World) (Z ba bb : Nat) (A B : Adv) (s t : Value) (V : World) : Prop where
  b0 : ∃ n u, BX V Z n u
  b1 : ∃ n u, BX V (Z + 1) n u
  b2 : BX V (Z + 1 + 1) A.n s
  b3 : BX V (Z + 1 + 1 + 1) B.n t
  a : AdvC ba V (.agg #[.int .i64 A.n, s]) A
  bb : AdvC bb V (.agg #[.int .i64 B.n, t]) B
  e : Ext w V
  z : w.heap.size ≤ Z
theorem ChS.ext {w : World} {Z ba bb : Nat} {A B : Adv} {s t : Value} {V V' : World} (h : ChS w Z ba bb A B s t V) (hE : Ext V V') : ChS w Z ba bb A B s t V' := by
  obtain ⟨⟨n, u, h0⟩, ⟨m, v, h1⟩, h2, h3, h4, h5, h6, h7⟩ := h
  exact ⟨⟨n, u, h0.ext hE⟩, ⟨m, v, h1.ext hE⟩, h2.ext hE, h3.ext hE, h4.ext hE, h5.ext hE, h6.trans hE, h7⟩
theorem ChS.st0 {w : World} {Z ba bb : Nat} {A B : Adv} {s0 t : Value} {V : World} {n : Int} {s : Value} (h : ChS w Z ba bb A B s0 t V) : ChS w Z ba bb A B s0 t ((V.setCell ⟨Z, 0, none⟩ (.int .i64 n)).setCell ⟨Z, 1, none⟩ s) := by
  obtain ⟨⟨n, u, h0⟩, ⟨m, v, h1⟩, h2, h3, h4, h5, h6, h7⟩ := h
  exact ⟨⟨_, _, h0.set⟩, ⟨m, v, h1.other (by omega)⟩, h2.other (by omega), h3.other (by omega), h4.stored2 h0, h5.stored2 h0, (h6.setCell (p := ⟨Z, 0, none⟩) h7 _).setCell (p := ⟨Z, 1, none⟩) h7 _, h7⟩
theorem ChS.st1 {w : World} {Z ba bb : Nat} {A B : Adv} {s0 t : Value} {V : World} {n : Int} {s : Value} (h : ChS w Z ba bb A B s0 t V) : ChS w Z ba bb A B s0 t ((V.setCell ⟨Z + 1, 0, none⟩ (.int .i64 n)).setCell ⟨Z + 1, 1, none⟩ s) := by
  obtain ⟨⟨n, u, h0⟩, ⟨m, v, h1⟩, h2, h3, h4, h5, h6, h7⟩ := h
  have h8 : w.heap.size ≤ Z + 1 := by omega
  exact ⟨⟨n, u, h0.other (by omega)⟩, ⟨_, _, h1.set⟩, h2.other (by omega), h3.other (by omega), h4.stored2 h1, h5.stored2 h1, (h6.setCell (p := ⟨Z + 1, 0, none⟩) h8 _).setCell (p := ⟨Z + 1, 1, none⟩) h8 _, h7⟩
theorem AdvC.rep' {base : Nat} {W : World} {v : Value} {A : Adv} (h : AdvC base W v A) : AdvRep W v A := h.rep

set_option maxRecDepth 16000 in
set_option maxHeartbeats 4000000 in
theorem chosen0_any (k : Nat) (hk : k < 256) (hc : (k : Int) / 6 % 5 = 0) (m : Nat) (hm : min ((k : Int) / 2 % 3 + 1) (2 + (k : Int) % 2) = m) (A B : Adv) (w : World)
    (C1 : Hid (∀ W, Calls Tryz.prog 14 #[.int .i64 (2 + (k : Int) % 2), .int .i64 ((k : Int) / 2 % 3)] W (RetC A W)))
    (C2 : Hid (∀ W, Calls Tryz.prog 14 #[.int .i64 (2 + (k : Int) % 2), .int .i64 (m : Int)] W (RetC B W))) :
    Calls Tryz.prog 18 #[.int .u8 k] w fun e w' => ∃ q c q' c', e = .returned (.tuple #[.agg #[.int .i64 A.n, .slice q A.st.length c], .agg #[.int .i64 B.n, .slice q' B.st.length c'], .bool true]) ∧
      AdvRep w' (.agg #[.int .i64 A.n, .slice q A.st.length c]) A ∧ AdvRep w' (.agg #[.int .i64 B.n, .slice q' B.st.length c']) B ∧ Ext w w' := by
  have HM := hide hm
  obtain ⟨Z, hZ⟩ : ∃ Z, w.heap.size = Z := ⟨_, rfl⟩
  obtain ⟨w4, hw4⟩ : ∃ w4, (((w.alloc (.cells #[.int .i64 0, .slice none 0 0] 26)).alloc (.cells #[.int .i64 0, .slice none 0 0] 26)).alloc (.cells #[.int .i64 0, .slice none 0 0] 26)).alloc (.cells #[.int .i64 0, .slice none 0 0] 26) = w4 := ⟨_, rfl⟩
  have HE : Hid (Ext w w4) := by show Ext _ _; rw [← hw4]; exact ((((Ext.refl w).alloc _).alloc _).alloc _).alloc _
  have b0 : BX w4 Z 0 (.slice none 0 0) := by rw [← hw4, ← hZ]; exact (((BX.new w _ _).old _).old _).old _
  have b1 : BX w4 (Z + 1) 0 (.slice none 0 0) := by
    rw [← hw4, ← hZ]
    have := BX.new (w.alloc (.cells #[.int .i64 0, .slice none 0 0] 26)) 0 (.slice none 0 0)
    rw [World.size_alloc] at this
    exact (this.old _).old _
  have b2 : BX w4 (Z + 1 + 1) 0 (.slice none 0 0) := by
    rw [← hw4, ← hZ]
    have := BX.new ((w.alloc (.cells #[.int .i64 0, .slice none 0 0] 26)).alloc (.cells #[.int .i64 0, .slice none 0 0] 26)) 0 (.slice none 0 0)
    rw [World.size_alloc, World.size_alloc] at this
    exact this.old _
  have b3 : BX w4 (Z + 1 + 1 + 1) 0 (.slice none 0 0) := by
    rw [← hw4, ← hZ]
    have := BX.new (((w.alloc (.cells #[.int .i64 0, .slice none 0 0] 26)).alloc (.cells #[.int .i64 0, .slice none 0 0] 26)).alloc (.cells #[.int .i64 0, .slice none 0 0] 26)) 0 (.slice none 0 0)
    rw [World.size_alloc, World.size_alloc, World.size_alloc] at this
    exact this
  have HW := hide hw4
  have HZ := hide hZ
  have B0 := hide b0
  have B1 := hide b1
  have B2 := hide b2
  have B3 := hide b3
  clear hw4 hZ b0 b1 b2 b3 hm
  go_enter Tryz.func18, Tryz.ntmps18
  go_wp2_with fail
  rw [HW.out, HZ.out]
  refine (C1.out _).mono ?_
  rintro e w5 ⟨q, c, rfl, hA, hE5⟩
  have HE5 := hide (HE.out.trans hE5)
  have HA := hide hA
  have B0 := hide (B0.out.ext hE5)
  have B1 := hide (B1.out.ext hE5)
  have B2 := hide (B2.out.ext hE5)
  have B3 := hide (B3.out.ext hE5)
  clear hA hE5
  obtain ⟨s0, s1, s2, s3, s4⟩ := B2.out.facts
  go_wp2_with fail
  rw [HM.out]
  obtain ⟨w6, hw6⟩ : ∃ w6, (w5.setCell ⟨Z + 1 + 1, 0, none⟩ (.int .i64 A.n)).setCell ⟨Z + 1 + 1, 1, none⟩ (.slice q A.st.length c) = w6 := ⟨_, rfl⟩
  have hzz : w.heap.size ≤ Z + 1 + 1 := by rw [← HZ.out]; omega
  have HE6 : Hid (Ext w w6) := by show Ext _ _; rw [← hw6]; exact (HE5.out.setCell (p := ⟨Z + 1 + 1, 0, none⟩) hzz _).setCell (p := ⟨Z + 1 + 1, 1, none⟩) hzz _
  have HA6 : Hid (AdvC w4.heap.size w6 (.agg #[.int .i64 A.n, .slice q A.st.length c]) A) := by show AdvC _ _ _ _; rw [← hw6]; exact HA.out.storeB B2.out
  have B0 : Hid (BX w6 Z 0 (.slice none 0 0)) := by show BX _ _ _ _; rw [← hw6]; exact B0.out.other (by omega)
  have B1 : Hid (BX w6 (Z + 1) 0 (.slice none 0 0)) := by show BX _ _ _ _; rw [← hw6]; exact B1.out.other (by omega)
  have B3 : Hid (BX w6 (Z + 1 + 1 + 1) 0 (.slice none 0 0)) := by show BX _ _ _ _; rw [← hw6]; exact B3.out.other (by omega)
  have B2 : Hid (BX w6 (Z + 1 + 1) A.n (.slice q A.st.length c)) := by show BX _ _ _ _; rw [← hw6]; exact B2.out.set
  rw [hw6]
  clear hw6 s0 s1 s2 s3 s4 HE5 HA
  refine (C2.out _).mono ?_
  rintro e w7 ⟨q', c', rfl, hB, hE7⟩
  have HE7 := hide (HE6.out.trans hE7)
  have HA7 := hide (HA6.out.ext hE7)
  have HB := hide hB
  have B0 := hide (B0.out.ext hE7)
  have B1 := hide (B1.out.ext hE7)
  have B2 := hide (B2.out.ext hE7)
  have B3 := hide (B3.out.ext hE7)
  clear hB hE7
  obtain ⟨s0, s1, s2, s3, s4⟩ := B3.out.facts
  go_upto_region 19 with fail
  obtain ⟨w8, hw8⟩ : ∃ w8, (w7.setCell ⟨Z + 1 + 1 + 1, 0, none⟩ (.int .i64 B.n)).setCell ⟨Z + 1 + 1 + 1, 1, none⟩ (.slice q' B.st.length c') = w8 := ⟨_, rfl⟩
  have hz3 : w.heap.size ≤ Z + 1 + 1 + 1 := by rw [← HZ.out]; omega
  have HE8 : Ext w w8 := by rw [← hw8]; exact (HE7.out.setCell (p := ⟨Z + 1 + 1 + 1, 0, none⟩) hz3 _).setCell (p := ⟨Z + 1 + 1 + 1, 1, none⟩) hz3 _
  have HA8 : AdvC w4.heap.size w8 (.agg #[.int .i64 A.n, .slice q A.st.length c]) A := by rw [← hw8]; exact HA7.out.storeB B3.out
  have HB8 : AdvC w6.heap.size w8 (.agg #[.int .i64 B.n, .slice q' B.st.length c']) B := by rw [← hw8]; exact HB.out.storeB B3.out
  have B0 : BX w8 Z 0 (.slice none 0 0) := by rw [← hw8]; exact B0.out.other (by omega)
  have B1 : BX w8 (Z + 1) 0 (.slice none 0 0) := by rw [← hw8]; exact B1.out.other (by omega)
  have B2 : BX w8 (Z + 1 + 1) A.n (.slice q A.st.length c) := by rw [← hw8]; exact B2.out.other (by omega)
  have B3 : BX w8 (Z + 1 + 1 + 1) B.n (.slice q' B.st.length c') := by rw [← hw8]; exact B3.out.set
  rw [hw8]
  have HS8 := hide (show ChS w Z w4.heap.size w6.heap.size A B (.slice q A.st.length c) (.slice q' B.st.length c') w8 from ⟨⟨_, _, B0⟩, ⟨_, _, B1⟩, B2, B3, HA8, HB8, HE8, by rw [← HZ.out]; exact Nat.le_refl _⟩)
  clear hw8 hz3 hzz s0 s1 s2 s3 s4 HE8 HA8 HB8 B0 B1 B2 B3 HE7 HA7 HB HE6 HA6 HM
  have hZw := HZ.out
  obtain ⟨S, hS⟩ : ∃ S, S = ChS w Z w4.heap.size w6.heap.size A B (.slice q A.st.length c) (.slice q' B.st.length c') := ⟨_, rfl⟩
  refine wp_region_heldB (ChS w Z w4.heap.size w6.heap.size A B (.slice q A.st.length c) (.slice q' B.st.length c')) (fun _ => false) (by kernel_rfl) ?_
  intro V0 hV0
  have hSV := HS8.out.ext (show Ext w8 V0 by rw [hV0]; exact (Ext.refl w8).drew)
  clear hV0 hS S
  refine wpAnyT_takeB (i := 0) (.agg #[.int .i64 A.n, .slice q A.st.length c]) rfl (by kernel_rfl) (fun j hj => by cases hj) (by kernel_rfl) (by kernel_rfl) (by simp [Region.wanted]) (fun V hV => by obtain ⟨c0, c1, -, -, c4⟩ := hV.b2.facts; go_simp) hSV ?_
  try simp only [Act.put, List.getElem_toArray, List.getElem_cons_zero, List.setIfInBounds_toArray, List.set_cons_zero, List.set_cons_succ]
  refine wpAnyT_takeB (i := 1) (.agg #[.int .i64 B.n, .slice q' B.st.length c']) rfl (by kernel_rfl) (fun j hj => by cases hj) (by kernel_rfl) (by kernel_rfl) (by simp [Region.wanted]) (fun V hV => by obtain ⟨c0, c1, -, -, c4⟩ := hV.b3.facts; go_simp) hSV ?_
  try simp only [Act.put, List.getElem_toArray, List.getElem_cons_zero, List.getElem_cons_succ, List.setIfInBounds_toArray, List.set_cons_zero, List.set_cons_succ]
  refine wpAnyT_takeB (i := 2) (.int .i64 0) rfl (by kernel_rfl) (fun j hj => by cases hj) (by kernel_rfl) (by kernel_rfl) (by simp [Region.wanted]) (fun V hV => by go_simp) hSV ?_
  try simp only [Act.put, List.getElem_toArray, List.getElem_cons_zero, List.getElem_cons_succ, List.setIfInBounds_toArray, List.set_cons_zero, List.set_cons_succ]
  refine wpAnyT_takeB (i := 3) (.bool true) rfl (by kernel_rfl) (fun j hj => by cases hj) (by kernel_rfl) (by kernel_rfl) (by simp [Region.wanted]) (fun V hV => by go_simp) hSV ?_
  try simp only [Act.put, List.getElem_toArray, List.getElem_cons_zero, List.getElem_cons_succ, List.setIfInBounds_toArray, List.set_cons_zero, List.set_cons_succ]
  refine wpAnyT_takeB (i := 4) (.bool true) rfl (by kernel_rfl) (fun j hj => by cases hj) (by kernel_rfl) (by kernel_rfl) (by simp [Region.wanted]) (fun V hV => by go_simp) hSV ?_
  try simp only [Act.put, List.getElem_toArray, List.getElem_cons_zero, List.getElem_cons_succ, List.setIfInBounds_toArray, List.set_cons_zero, List.set_cons_succ]
  refine wpAnyT_takeB (i := 5) (.int .i64 0) rfl (by kernel_rfl) (fun j hj => by cases hj) (by kernel_rfl) (by kernel_rfl) (by simp [Region.wanted, yielded]) (fun V hV => by go_simp) hSV ?_
  try simp only [Act.put, List.getElem_toArray, List.getElem_cons_zero, List.getElem_cons_succ, List.setIfInBounds_toArray, List.set_cons_zero, List.set_cons_succ]
  refine wpAnyT_takeB (i := 6) (.bool true) rfl (by kernel_rfl) (fun j hj => by cases hj) (by kernel_rfl) (by kernel_rfl) (by simp [Region.wanted, yielded]) (fun V hV => by go_simp) hSV ?_
  try simp only [Act.put, List.getElem_toArray, List.getElem_cons_zero, List.getElem_cons_succ, List.setIfInBounds_toArray, List.set_cons_zero, List.set_cons_succ]
  refine wpAnyT_takeB (i := 7) (.bool true) rfl (by kernel_rfl) (fun j hj => by cases hj) (by kernel_rfl) (by kernel_rfl) (by simp [Region.wanted]) (fun V hV => by go_simp) hSV ?_
  try simp only [Act.put, List.getElem_toArray, List.getElem_cons_zero, List.getElem_cons_succ, List.setIfInBounds_toArray, List.set_cons_zero, List.set_cons_succ]
  refine wpAnyT_oneB (i := 8) rfl (by kernel_rfl) (fun KK hKK => ?_)
  obtain ⟨n0, t0, hb0⟩ := hSV.b0
  obtain ⟨s0, s1, s2, s3, s4⟩ := hb0.facts
  go_wp2_with fail
  have hSV1 := hSV.st0 (n := A.n) (s := .slice q A.st.length c)
  have hX0 : BX ((V0.setCell ⟨Z, 0, none⟩ (.int .i64 A.n)).setCell ⟨Z, 1, none⟩ (.slice q A.st.length c)) Z A.n (.slice q A.st.length c) := hb0.set
  clear hb0 s0 s1 s2 s3 s4 hSV
  generalize (V0.setCell ⟨Z, 0, none⟩ (.int .i64 A.n)).setCell ⟨Z, 1, none⟩ (.slice q A.st.length c) = V1 at hSV1 hX0 ⊢
  refine ⟨rfl, hKK _ _ (fun _ => hSV1) ?_⟩
  clear hKK KK
  try simp only [Act.put, List.getElem_toArray, List.getElem_cons_zero, List.getElem_cons_succ, List.setIfInBounds_toArray, List.set_cons_zero, List.set_cons_succ]
  refine wpAnyT_oneB (i := 9) rfl (by kernel_rfl) (fun KK hKK => ?_)
  obtain ⟨n1, t1, hb1⟩ := hSV1.b1
  obtain ⟨s0, s1, s2, s3, s4⟩ := hb1.facts
  go_wp2_with fail
  have hSV2 := hSV1.st1 (n := B.n) (s := .slice q' B.st.length c')
  have hX1 : BX ((V1.setCell ⟨Z + 1, 0, none⟩ (.int .i64 B.n)).setCell ⟨Z + 1, 1, none⟩ (.slice q' B.st.length c')) (Z + 1) B.n (.slice q' B.st.length c') := hb1.set
  have hX2 : BX ((V1.setCell ⟨Z + 1, 0, none⟩ (.int .i64 B.n)).setCell ⟨Z + 1, 1, none⟩ (.slice q' B.st.length c')) Z A.n (.slice q A.st.length c) := hX0.other (by omega)
  clear hb1 s0 s1 s2 s3 s4 hSV1 hX0
  generalize (V1.setCell ⟨Z + 1, 0, none⟩ (.int .i64 B.n)).setCell ⟨Z + 1, 1, none⟩ (.slice q' B.st.length c') = V2 at hSV2 hX1 hX2 ⊢
  refine ⟨rfl, hKK _ _ (fun _ => hSV2) ?_⟩
  clear hKK KK
  try simp only [Act.put, List.getElem_toArray, List.getElem_cons_zero, List.getElem_cons_succ, List.setIfInBounds_toArray, List.set_cons_zero, List.set_cons_succ]
  refine wpAnyT_oneB (i := 10) rfl (by kernel_rfl) (fun KK hKK => ?_)
  go_wp2_with fail
  refine ⟨rfl, hKK _ _ (fun _ => hSV2) ?_⟩
  clear hKK KK
  try simp only [Act.put, List.getElem_toArray, List.getElem_cons_zero, List.getElem_cons_succ, List.setIfInBounds_toArray, List.set_cons_zero, List.set_cons_succ]
  refine ⟨by kernel_rfl, ?_⟩
  go_wp2_with fail
  exact bodyPost_ret (results_adv2 rfl rfl rfl rfl hX2 hX1) rfl ⟨_, _, _, _, rfl, hSV2.a.rep', hSV2.bb.rep', hSV2.e⟩

set_option maxRecDepth 16000 in
set_option maxHeartbeats 4000000 in
theorem chosen1_any (k : Nat) (hk : k < 256) (hc : (k : Int) / 6 % 5 = 1) (m : Nat) (hm : min ((k : Int) / 2 % 3 + 1) (2 + (k : Int) % 2) = m) (A B : Adv) (w : World)
    (C1 : Hid (∀ W, Calls Tryz.prog 15 #[.int .i64 (2 + (k : Int) % 2), .int .i64 ((k : Int) / 2 % 3)] W (RetC A W)))
    (C2 : Hid (∀ W, Calls Tryz.prog 15 #[.int .i64 (2 + (k : Int) % 2), .int .i64 (m : Int)] W (RetC B W))) :
    Calls Tryz.prog 18 #[.int .u8 k] w fun e w' => ∃ q c q' c', e = .returned (.tuple #[.agg #[.int .i64 A.n, .slice q A.st.length c], .agg #[.int .i64 B.n, .slice q' B.st.length c'], .bool true]) ∧
      AdvRep w' (.agg #[.int .i64 A.n, .slice q A.st.length c]) A ∧ AdvRep w' (.agg #[.int .i64 B.n, .slice q' B.st.length c']) B ∧ Ext w w' := by
  have HM := hide hm
  obtain ⟨Z, hZ⟩ : ∃ Z, w.heap.size = Z := ⟨_, rfl⟩
  obtain ⟨w4, hw4⟩ : ∃ w4, (((w.alloc (.cells #[.int .i64 0, .slice none 0 0] 26)).alloc (.cells #[.int .i64 0, .slice none 0 0] 26)).alloc (.cells #[.int .i64 0, .slice none 0 0] 26)).alloc (.cells #[.int .i64 0, .slice none 0 0] 26) = w4 := ⟨_, rfl⟩
  have HE : Hid (Ext w w4) := by show Ext _ _; rw [← hw4]; exact ((((Ext.refl w).alloc _).alloc _).alloc _).alloc _
  have b0 : BX w4 Z 0 (.slice none 0 0) := by rw [← hw4, ← hZ]; exact (((BX.new w _ _).old _).old _).old _
  have b1 : BX w4 (Z + 1) 0 (.slice none 0 0) := by
    rw [← hw4, ← hZ]
    have := BX.new (w.alloc (.cells #[.int .i64 0, .slice none 0 0] 26)) 0 (.slice none 0 0)
    rw [World.size_alloc] at this
    exact (this.old _).old _
  have b2 : BX w4 (Z + 1 + 1) 0 (.slice none 0 0) := by
    rw [← hw4, ← hZ]
    have := BX.new ((w.alloc (.cells #[.int .i64 0, .slice none 0 0] 26)).alloc (.cells #[.int .i64 0, .slice none 0 0] 26)) 0 (.slice none 0 0)
    rw [World.size_alloc, World.size_alloc] at this
    exact this.old _
  have b3 : BX w4 (Z + 1 + 1 + 1) 0 (.slice none 0 0) := by
    rw [← hw4, ← hZ]
    have := BX.new (((w.alloc (.cells #[.int .i64 0, .slice none 0 0] 26)).alloc (.cells #[.int .i64 0, .slice none 0 0] 26)).alloc (.cells #[.int .i64 0, .slice none 0 0] 26)) 0 (.slice none 0 0)
    rw [World.size_alloc, World.size_alloc, World.size_alloc] at this
    exact this
  have HW := hide hw4
  have HZ := hide hZ
  have B0 := hide b0
  have B1 := hide b1
  have B2 := hide b2
  have B3 := hide b3
  clear hw4 hZ b0 b1 b2 b3 hm
  go_enter Tryz.func18, Tryz.ntmps18
  go_wp2_with fail
  rw [HW.out, HZ.out]
  refine (C1.out _).mono ?_
  rintro e w5 ⟨q, c, rfl, hA, hE5⟩
  have HE5 := hide (HE.out.trans hE5)
  have HA := hide hA
  have B0 := hide (B0.out.ext hE5)
  have B1 := hide (B1.out.ext hE5)
  have B2 := hide (B2.out.ext hE5)
  have B3 := hide (B3.out.ext hE5)
  clear hA hE5
  obtain ⟨s0, s1, s2, s3, s4⟩ := B2.out.facts
  go_wp2_with fail
  rw [HM.out]
  obtain ⟨w6, hw6⟩ : ∃ w6, (w5.setCell ⟨Z + 1 + 1, 0, none⟩ (.int .i64 A.n)).setCell ⟨Z + 1 + 1, 1, none⟩ (.slice q A.st.length c) = w6 := ⟨_, rfl⟩
  have hzz : w.heap.size ≤ Z + 1 + 1 := by rw [← HZ.out]; omega
  have HE6 : Hid (Ext w w6) := by show Ext _ _; rw [← hw6]; exact (HE5.out.setCell (p := ⟨Z + 1 + 1, 0, none⟩) hzz _).setCell (p := ⟨Z + 1 + 1, 1, none⟩) hzz _
  have HA6 : Hid (AdvC w4.heap.size w6 (.agg #[.int .i64 A.n, .slice q A.st.length c]) A) := by show AdvC _ _ _ _; rw [← hw6]; exact HA.out.storeB B2.out
  have B0 : Hid (BX w6 Z 0 (.slice none 0 0)) := by show BX _ _ _ _; rw [← hw6]; exact B0.out.other (by omega)
  have B1 : Hid (BX w6 (Z + 1) 0 (.slice none 0 0)) := by show BX _ _ _ _; rw [← hw6]; exact B1.out.other (by omega)
  have B3 : Hid (BX w6 (Z + 1 + 1 + 1) 0 (.slice none 0 0)) := by show BX _ _ _ _; rw [← hw6]; exact B3.out.other (by omega)
  have B2 : Hid (BX w6 (Z + 1 + 1) A.n (.slice q A.st.length c)) := by show BX _ _ _ _; rw [← hw6]; exact B2.out.set
  rw [hw6]
  clear hw6 s0 s1 s2 s3 s4 HE5 HA
  refine (C2.out _).mono ?_
  rintro e w7 ⟨q', c', rfl, hB, hE7⟩
  have HE7 := hide (HE6.out.trans hE7)
  have HA7 := hide (HA6.out.ext hE7)
  have HB := hide hB
  have B0 := hide (B0.out.ext hE7)
  have B1 := hide (B1.out.ext hE7)
  have B2 := hide (B2.out.ext hE7)
  have B3 := hide (B3.out.ext hE7)
  clear hB hE7
  obtain ⟨s0, s1, s2, s3, s4⟩ := B3.out.facts
  go_upto_region 19 with fail
  obtain ⟨w8, hw8⟩ : ∃ w8, (w7.setCell ⟨Z + 1 + 1 + 1, 0, none⟩ (.int .i64 B.n)).setCell ⟨Z + 1 + 1 + 1, 1, none⟩ (.slice q' B.st.length c') = w8 := ⟨_, rfl⟩
  have hz3 : w.heap.size ≤ Z + 1 + 1 + 1 := by rw [← HZ.out]; omega
  have HE8 : Ext w w8 := by rw [← hw8]; exact (HE7.out.setCell (p := ⟨Z + 1 + 1 + 1, 0, none⟩) hz3 _).setCell (p := ⟨Z + 1 + 1 + 1, 1, none⟩) hz3 _
  have HA8 : AdvC w4.heap.size w8 (.agg #[.int .i64 A.n, .slice q A.st.length c]) A := by rw [← hw8]; exact HA7.out.storeB B3.out
  have HB8 : AdvC w6.heap.size w8 (.agg #[.int .i64 B.n, .slice q' B.st.length c']) B := by rw [← hw8]; exact HB.out.storeB B3.out
  have B0 : BX w8 Z 0 (.slice none 0 0) := by rw [← hw8]; exact B0.out.other (by omega)
  have B1 : BX w8 (Z + 1) 0 (.slice none 0 0) := by rw [← hw8]; exact B1.out.other (by omega)
  have B2 : BX w8 (Z + 1 + 1) A.n (.slice q A.st.length c) := by rw [← hw8]; exact B2.out.other (by omega)
  have B3 : BX w8 (Z + 1 + 1 + 1) B.n (.slice q' B.st.length c') := by rw [← hw8]; exact B3.out.set
  rw [hw8]
  have HS8 := hide (show ChS w Z w4.heap.size w6.heap.size A B (.slice q A.st.length c) (.slice q' B.st.length c') w8 from ⟨⟨_, _, B0⟩, ⟨_, _, B1⟩, B2, B3, HA8, HB8, HE8, by rw [← HZ.out]; exact Nat.le_refl _⟩)
  clear hw8 hz3 hzz s0 s1 s2 s3 s4 HE8 HA8 HB8 B0 B1 B2 B3 HE7 HA7 HB HE6 HA6 HM
  have hZw := HZ.out
  obtain ⟨S, hS⟩ : ∃ S, S = ChS w Z w4.heap.size w6.heap.size A B (.slice q A.st.length c) (.slice q' B.st.length c') := ⟨_, rfl⟩
  refine wp_region_heldB (ChS w Z w4.heap.size w6.heap.size A B (.slice q A.st.length c) (.slice q' B.st.length c')) (fun _ => false) (by kernel_rfl) ?_
  intro V0 hV0
  have hSV := HS8.out.ext (show Ext w8 V0 by rw [hV0]; exact (Ext.refl w8).drew)
  clear hV0 hS S
  refine wpAnyT_takeB (i := 0) (.agg #[.int .i64 A.n, .slice q A.st.length c]) rfl (by kernel_rfl) (fun j hj => by cases hj) (by kernel_rfl) (by kernel_rfl) (by simp [Region.wanted]) (fun V hV => by obtain ⟨c0, c1, -, -, c4⟩ := hV.b2.facts; go_simp) hSV ?_
  try simp only [Act.put, List.getElem_toArray, List.getElem_cons_zero, List.setIfInBounds_toArray, List.set_cons_zero, List.set_cons_succ]
  refine wpAnyT_takeB (i := 1) (.agg #[.int .i64 B.n, .slice q' B.st.length c']) rfl (by kernel_rfl) (fun j hj => by cases hj) (by kernel_rfl) (by kernel_rfl) (by simp [Region.wanted]) (fun V hV => by obtain ⟨c0, c1, -, -, c4⟩ := hV.b3.facts; go_simp) hSV ?_
  try simp only [Act.put, List.getElem_toArray, List.getElem_cons_zero, List.getElem_cons_succ, List.setIfInBounds_toArray, List.set_cons_zero, List.set_cons_succ]
  refine wpAnyT_takeB (i := 2) (.int .i64 0) rfl (by kernel_rfl) (fun j hj => by cases hj) (by kernel_rfl) (by kernel_rfl) (by simp [Region.wanted]) (fun V hV => by go_simp) hSV ?_
  try simp only [Act.put, List.getElem_toArray, List.getElem_cons_zero, List.getElem_cons_succ, List.setIfInBounds_toArray, List.set_cons_zero, List.set_cons_succ]
  refine wpAnyT_takeB (i := 3) (.bool true) rfl (by kernel_rfl) (fun j hj => by cases hj) (by kernel_rfl) (by kernel_rfl) (by simp [Region.wanted]) (fun V hV => by go_simp) hSV ?_
  try simp only [Act.put, List.getElem_toArray, List.getElem_cons_zero, List.getElem_cons_succ, List.setIfInBounds_toArray, List.set_cons_zero, List.set_cons_succ]
  refine wpAnyT_takeB (i := 4) (.bool true) rfl (by kernel_rfl) (fun j hj => by cases hj) (by kernel_rfl) (by kernel_rfl) (by simp [Region.wanted]) (fun V hV => by go_simp) hSV ?_
  try simp only [Act.put, List.getElem_toArray, List.getElem_cons_zero, List.getElem_cons_succ, List.setIfInBounds_toArray, List.set_cons_zero, List.set_cons_succ]
  refine wpAnyT_takeB (i := 5) (.int .i64 0) rfl (by kernel_rfl) (fun j hj => by cases hj) (by kernel_rfl) (by kernel_rfl) (by simp [Region.wanted, yielded]) (fun V hV => by go_simp) hSV ?_
  try simp only [Act.put, List.getElem_toArray, List.getElem_cons_zero, List.getElem_cons_succ, List.setIfInBounds_toArray, List.set_cons_zero, List.set_cons_succ]
  refine wpAnyT_takeB (i := 6) (.bool true) rfl (by kernel_rfl) (fun j hj => by cases hj) (by kernel_rfl) (by kernel_rfl) (by simp [Region.wanted, yielded]) (fun V hV => by go_simp) hSV ?_
  try simp only [Act.put, List.getElem_toArray, List.getElem_cons_zero, List.getElem_cons_succ, List.setIfInBounds_toArray, List.set_cons_zero, List.set_cons_succ]
  refine wpAnyT_takeB (i := 7) (.bool true) rfl (by kernel_rfl) (fun j hj => by cases hj) (by kernel_rfl) (by kernel_rfl) (by simp [Region.wanted]) (fun V hV => by go_simp) hSV ?_
  try simp only [Act.put, List.getElem_toArray, List.getElem_cons_zero, List.getElem_cons_succ, List.setIfInBounds_toArray, List.set_cons_zero, List.set_cons_succ]
  refine wpAnyT_oneB (i := 8) rfl (by kernel_rfl) (fun KK hKK => ?_)
  obtain ⟨n0, t0, hb0⟩ := hSV.b0
  obtain ⟨s0, s1, s2, s3, s4⟩ := hb0.facts
  go_wp2_with fail
  have hSV1 := hSV.st0 (n := A.n) (s := .slice q A.st.length c)
  have hX0 : BX ((V0.setCell ⟨Z, 0, none⟩ (.int .i64 A.n)).setCell ⟨Z, 1, none⟩ (.slice q A.st.length c)) Z A.n (.slice q A.st.length c) := hb0.set
  clear hb0 s0 s1 s2 s3 s4 hSV
  generalize (V0.setCell ⟨Z, 0, none⟩ (.int .i64 A.n)).setCell ⟨Z, 1, none⟩ (.slice q A.st.length c) = V1 at hSV1 hX0 ⊢
  refine ⟨rfl, hKK _ _ (fun _ => hSV1) ?_⟩
  clear hKK KK
  try simp only [Act.put, List.getElem_toArray, List.getElem_cons_zero, List.getElem_cons_succ, List.setIfInBounds_toArray, List.set_cons_zero, List.set_cons_succ]
  refine wpAnyT_oneB (i := 9) rfl (by kernel_rfl) (fun KK hKK => ?_)
  obtain ⟨n1, t1, hb1⟩ := hSV1.b1
  obtain ⟨s0, s1, s2, s3, s4⟩ := hb1.facts
  go_wp2_with fail
  have hSV2 := hSV1.st1 (n := B.n) (s := .slice q' B.st.length c')
  have hX1 : BX ((V1.setCell ⟨Z + 1, 0, none⟩ (.int .i64 B.n)).setCell ⟨Z + 1, 1, none⟩ (.slice q' B.st.length c')) (Z + 1) B.n (.slice q' B.st.length c') := hb1.set
  have hX2 : BX ((V1.setCell ⟨Z + 1, 0, none⟩ (.int .i64 B.n)).setCell ⟨Z + 1, 1, none⟩ (.slice q' B.st.length c')) Z A.n (.slice q A.st.length c) := hX0.other (by omega)
  clear hb1 s0 s1 s2 s3 s4 hSV1 hX0
  generalize (V1.setCell ⟨Z + 1, 0, none⟩ (.int .i64 B.n)).setCell ⟨Z + 1, 1, none⟩ (.slice q' B.st.length c') = V2 at hSV2 hX1 hX2 ⊢
  refine ⟨rfl, hKK _ _ (fun _ => hSV2) ?_⟩
  clear hKK KK
  try simp only [Act.put, List.getElem_toArray, List.getElem_cons_zero, List.getElem_cons_succ, List.setIfInBounds_toArray, List.set_cons_zero, List.set_cons_succ]
  refine wpAnyT_oneB (i := 10) rfl (by kernel_rfl) (fun KK hKK => ?_)
  go_wp2_with fail
  refine ⟨rfl, hKK _ _ (fun _ => hSV2) ?_⟩
  clear hKK KK
  try simp only [Act.put, List.getElem_toArray, List.getElem_cons_zero, List.getElem_cons_succ, List.setIfInBounds_toArray, List.set_cons_zero, List.set_cons_succ]
  refine ⟨by kernel_rfl, ?_⟩
  go_wp2_with fail
  exact bodyPost_ret (results_adv2 rfl rfl rfl rfl hX2 hX1) rfl ⟨_, _, _, _, rfl, hSV2.a.rep', hSV2.bb.rep', hSV2.e⟩

set_option maxRecDepth 16000 in
set_option maxHeartbeats 4000000 in
theorem chosen2_any (k : Nat) (hk : k < 256) (hc : (k : Int) / 6 % 5 = 2) (m : Nat) (hm : min ((k : Int) / 2 % 3 + 1) (2 + (k : Int) % 2) = m) (A B : Adv) (w : World)
    (C1 : Hid (∀ W, Calls Tryz.prog 9 #[.int .i64 (2 + (k : Int) % 2), .int .i64 ((k : Int) / 2 % 3)] W (RetC A W)))
    (C2 : Hid (∀ W, Calls Tryz.prog 9 #[.int .i64 (2 + (k : Int) % 2), .int .i64 (m : Int)] W (RetC B W))) :
    Calls Tryz.prog 18 #[.int .u8 k] w fun e w' => ∃ q c q' c', e = .returned (.tuple #[.agg #[.int .i64 A.n, .slice q A.st.length c], .agg #[.int .i64 B.n, .slice q' B.st.length c'], .bool true]) ∧
      AdvRep w' (.agg #[.int .i64 A.n, .slice q A.st.length c]) A ∧ AdvRep w' (.agg #[.int .i64 B.n, .slice q' B.st.length c']) B ∧ Ext w w' := by
  have HM := hide hm
  obtain ⟨Z, hZ⟩ : ∃ Z, w.heap.size = Z := ⟨_, rfl⟩
  obtain ⟨w4, hw4⟩ : ∃ w4, (((w.alloc (.cells #[.int .i64 0, .slice none 0 0] 26)).alloc (.cells #[.int .i64 0, .slice none 0 0] 26)).alloc (.cells #[.int .i64 0, .slice none 0 0] 26)).alloc (.cells #[.int .i64 0, .slice none 0 0] 26) = w4 := ⟨_, rfl⟩
  have HE : Hid (Ext w w4) := by show Ext _ _; rw [← hw4]; exact ((((Ext.refl w).alloc _).alloc _).alloc _).alloc _
  have b0 : BX w4 Z 0 (.slice none 0 0) := by rw [← hw4, ← hZ]; exact (((BX.new w _ _).old _).old _).old _
  have b1 : BX w4 (Z + 1) 0 (.slice none 0 0) := by
    rw [← hw4, ← hZ]
    have := BX.new (w.alloc (.cells #[.int .i64 0, .slice none 0 0] 26)) 0 (.slice none 0 0)
    rw [World.size_alloc] at this
    exact (this.old _).old _
  have b2 : BX w4 (Z + 1 + 1) 0 (.slice none 0 0) := by
    rw [← hw4, ← hZ]
    have := BX.new ((w.alloc (.cells #[.int .i64 0, .slice none 0 0] 26)).alloc (.cells #[.int .i64 0, .slice none 0 0] 26)) 0 (.slice none 0 0)
    rw [World.size_alloc, World.size_alloc] at this
    exact this.old _
  have b3 : BX w4 (Z + 1 + 1 + 1) 0 (.slice none 0 0) := by
    rw [← hw4, ← hZ]
    have := BX.new (((w.alloc (.cells #[.int .i64 0, .slice none 0 0] 26)).alloc (.cells #[.int .i64 0, .slice none 0 0] 26)).alloc (.cells #[.int .i64 0, .slice none 0 0] 26)) 0 (.slice none 0 0)
    rw [World.size_alloc, World.size_alloc, World.size_alloc] at this
    exact this
  have HW := hide hw4
  have HZ := hide hZ
  have B0 := hide b0
  have B1 := hide b1
  have B2 := hide b2
  have B3 := hide b3
  clear hw4 hZ b0 b1 b2 b3 hm
  go_enter Tryz.func18, Tryz.ntmps18
  go_wp2_with fail
  rw [HW.out, HZ.out]
  refine (C1.out _).mono ?_
  rintro e w5 ⟨q, c, rfl, hA, hE5⟩
  have HE5 := hide (HE.out.trans hE5)
  have HA := hide hA
  have B0 := hide (B0.out.ext hE5)
  have B1 := hide (B1.out.ext hE5)
  have B2 := hide (B2.out.ext hE5)
  have B3 := hide (B3.out.ext hE5)
  clear hA hE5
  obtain ⟨s0, s1, s2, s3, s4⟩ := B2.out.facts
  go_wp2_with fail
  rw [HM.out]
  obtain ⟨w6, hw6⟩ : ∃ w6, (w5.setCell ⟨Z + 1 + 1, 0, none⟩ (.int .i64 A.n)).setCell ⟨Z + 1 + 1, 1, none⟩ (.slice q A.st.length c) = w6 := ⟨_, rfl⟩
  have hzz : w.heap.size ≤ Z + 1 + 1 := by rw [← HZ.out]; omega
  have HE6 : Hid (Ext w w6) := by show Ext _ _; rw [← hw6]; exact (HE5.out.setCell (p := ⟨Z + 1 + 1, 0, none⟩) hzz _).setCell (p := ⟨Z + 1 + 1, 1, none⟩) hzz _
  have HA6 : Hid (AdvC w4.heap.size w6 (.agg #[.int .i64 A.n, .slice q A.st.length c]) A) := by show AdvC _ _ _ _; rw [← hw6]; exact HA.out.storeB B2.out
  have B0 : Hid (BX w6 Z 0 (.slice none 0 0)) := by show BX _ _ _ _; rw [← hw6]; exact B0.out.other (by omega)
  have B1 : Hid (BX w6 (Z + 1) 0 (.slice none 0 0)) := by show BX _ _ _ _; rw [← hw6]; exact B1.out.other (by omega)
  have B3 : Hid (BX w6 (Z + 1 + 1 + 1) 0 (.slice none 0 0)) := by show BX _ _ _ _; rw [← hw6]; exact B3.out.other (by omega)
  have B2 : Hid (BX w6 (Z + 1 + 1) A.n (.slice q A.st.length c)) := by show BX _ _ _ _; rw [← hw6]; exact B2.out.set
  rw [hw6]
  clear hw6 s0 s1 s2 s3 s4 HE5 HA
  refine (C2.out _).mono ?_
  rintro e w7 ⟨q', c', rfl, hB, hE7⟩
  have HE7 := hide (HE6.out.trans hE7)
  have HA7 := hide (HA6.out.ext hE7)
  have HB := hide hB
  have B0 := hide (B0.out.ext hE7)
  have B1 := hide (B1.out.ext hE7)
  have B2 := hide (B2.out.ext hE7)
  have B3 := hide (B3.out.ext hE7)
  clear hB hE7
  obtain ⟨s0, s1, s2, s3, s4⟩ := B3.out.facts
  go_upto_region 19 with fail
  obtain ⟨w8, hw8⟩ : ∃ w8, (w7.setCell ⟨Z + 1 + 1 + 1, 0, none⟩ (.int .i64 B.n)).setCell ⟨Z + 1 + 1 + 1, 1, none⟩ (.slice q' B.st.length c') = w8 := ⟨_, rfl⟩
  have hz3 : w.heap.size ≤ Z + 1 + 1 + 1 := by rw [← HZ.out]; omega
  have HE8 : Ext w w8 := by rw [← hw8]; exact (HE7.out.setCell (p := ⟨Z + 1 + 1 + 1, 0, none⟩) hz3 _).setCell (p := ⟨Z + 1 + 1 + 1, 1, none⟩) hz3 _
  have HA8 : AdvC w4.heap.size w8 (.agg #[.int .i64 A.n, .slice q A.st.length c]) A := by rw [← hw8]; exact HA7.out.storeB B3.out
  have HB8 : AdvC w6.heap.size w8 (.agg #[.int .i64 B.n, .slice q' B.st.length c']) B := by rw [← hw8]; exact HB.out.storeB B3.out
  have B0 : BX w8 Z 0 (.slice none 0 0) := by rw [← hw8]; exact B0.out.other (by omega)
  have B1 : BX w8 (Z + 1) 0 (.slice none 0 0) := by rw [← hw8]; exact B1.out.other (by omega)
  have B2 : BX w8 (Z + 1 + 1) A.n (.slice q A.st.length c) := by rw [← hw8]; exact B2.out.other (by omega)
  have B3 : BX w8 (Z + 1 + 1 + 1) B.n (.slice q' B.st.length c') := by rw [← hw8]; exact B3.out.set
  rw [hw8]
  have HS8 := hide (show ChS w Z w4.heap.size w6.heap.size A B (.slice q A.st.length c) (.slice q' B.st.length c') w8 from ⟨⟨_, _, B0⟩, ⟨_, _, B1⟩, B2, B3, HA8, HB8, HE8, by rw [← HZ.out]; exact Nat.le_refl _⟩)
  clear hw8 hz3 hzz s0 s1 s2 s3 s4 HE8 HA8 HB8 B0 B1 B2 B3 HE7 HA7 HB HE6 HA6 HM
  have hZw := HZ.out
  obtain ⟨S, hS⟩ : ∃ S, S = ChS w Z w4.heap.size w6.heap.size A B (.slice q A.st.length c) (.slice q' B.st.length c') := ⟨_, rfl⟩
  refine wp_region_heldB (ChS w Z w4.heap.size w6.heap.size A B (.slice q A.st.length c) (.slice q' B.st.length c')) (fun _ => false) (by kernel_rfl) ?_
  intro V0 hV0
  have hSV := HS8.out.ext (show Ext w8 V0 by rw [hV0]; exact (Ext.refl w8).drew)
  clear hV0 hS S
  refine wpAnyT_takeB (i := 0) (.agg #[.int .i64 A.n, .slice q A.st.length c]) rfl (by kernel_rfl) (fun j hj => by cases hj) (by kernel_rfl) (by kernel_rfl) (by simp [Region.wanted]) (fun V hV => by obtain ⟨c0, c1, -, -, c4⟩ := hV.b2.facts; go_simp) hSV ?_
  try simp only [Act.put, List.getElem_toArray, List.getElem_cons_zero, List.setIfInBounds_toArray, List.set_cons_zero, List.set_cons_succ]
  refine wpAnyT_takeB (i := 1) (.agg #[.int .i64 B.n, .slice q' B.st.length c']) rfl (by kernel_rfl) (fun j hj => by cases hj) (by kernel_rfl) (by kernel_rfl) (by simp [Region.wanted]) (fun V hV => by obtain ⟨c0, c1, -, -, c4⟩ := hV.b3.facts; go_simp) hSV ?_
  try simp only [Act.put, List.getElem_toArray, List.getElem_cons_zero, List.getElem_cons_succ, List.setIfInBounds_toArray, List.set_cons_zero, List.set_cons_succ]
  refine wpAnyT_takeB (i := 2) (.int .i64 0) rfl (by kernel_rfl) (fun j hj => by cases hj) (by kernel_rfl) (by kernel_rfl) (by simp [Region.wanted]) (fun V hV => by go_simp) hSV ?_
  try simp only [Act.put, List.getElem_toArray, List.getElem_cons_zero, List.getElem_cons_succ, List.setIfInBounds_toArray, List.set_cons_zero, List.set_cons_succ]
  refine wpAnyT_takeB (i := 3) (.bool true) rfl (by kernel_rfl) (fun j hj => by cases hj) (by kernel_rfl) (by kernel_rfl) (by simp [Region.wanted]) (fun V hV => by go_simp) hSV ?_
  try simp only [Act.put, List.getElem_toArray, List.getElem_cons_zero, List.getElem_cons_succ, List.setIfInBounds_toArray, List.set_cons_zero, List.set_cons_succ]
  refine wpAnyT_takeB (i := 4) (.bool true) rfl (by kernel_rfl) (fun j hj => by cases hj) (by kernel_rfl) (by kernel_rfl) (by simp [Region.wanted]) (fun V hV => by go_simp) hSV ?_
  try simp only [Act.put, List.getElem_toArray, List.getElem_cons_zero, List.getElem_cons_succ, List.setIfInBounds_toArray, List.set_cons_zero, List.set_cons_succ]
  refine wpAnyT_takeB (i := 5) (.int .i64 0) rfl (by kernel_rfl) (fun j hj => by cases hj) (by kernel_rfl) (by kernel_rfl) (by simp [Region.wanted, yielded]) (fun V hV => by go_simp) hSV ?_
  try simp only [Act.put, List.getElem_toArray, List.getElem_cons_zero, List.getElem_cons_succ, List.setIfInBounds_toArray, List.set_cons_zero, List.set_cons_succ]
  refine wpAnyT_takeB (i := 6) (.bool true) rfl (by kernel_rfl) (fun j hj => by cases hj) (by kernel_rfl) (by kernel_rfl) (by simp [Region.wanted, yielded]) (fun V hV => by go_simp) hSV ?_
  try simp only [Act.put, List.getElem_toArray, List.getElem_cons_zero, List.getElem_cons_succ, List.setIfInBounds_toArray, List.set_cons_zero, List.set_cons_succ]
  refine wpAnyT_takeB (i := 7) (.bool true) rfl (by kernel_rfl) (fun j hj => by cases hj) (by kernel_rfl) (by kernel_rfl) (by simp [Region.wanted]) (fun V hV => by go_simp) hSV ?_
  try simp only [Act.put, List.getElem_toArray, List.getElem_cons_zero, List.getElem_cons_succ, List.setIfInBounds_toArray, List.set_cons_zero, List.set_cons_succ]
  refine wpAnyT_oneB (i := 8) rfl (by kernel_rfl) (fun KK hKK => ?_)
  obtain ⟨n0, t0, hb0⟩ := hSV.b0
  obtain ⟨s0, s1, s2, s3, s4⟩ := hb0.facts
  go_wp2_with fail
  have hSV1 := hSV.st0 (n := A.n) (s := .slice q A.st.length c)
  have hX0 : BX ((V0.setCell ⟨Z, 0, none⟩ (.int .i64 A.n)).setCell ⟨Z, 1, none⟩ (.slice q A.st.length c)) Z A.n (.slice q A.st.length c) := hb0.set
  clear hb0 s0 s1 s2 s3 s4 hSV
  generalize (V0.setCell ⟨Z, 0, none⟩ (.int .i64 A.n)).setCell ⟨Z, 1, none⟩ (.slice q A.st.length c) = V1 at hSV1 hX0 ⊢
  refine ⟨rfl, hKK _ _ (fun _ => hSV1) ?_⟩
  clear hKK KK
  try simp only [Act.put, List.getElem_toArray, List.getElem_cons_zero, List.getElem_cons_succ, List.setIfInBounds_toArray, List.set_cons_zero, List.set_cons_succ]
  refine wpAnyT_oneB (i := 9) rfl (by kernel_rfl) (fun KK hKK => ?_)
  obtain ⟨n1, t1, hb1⟩ := hSV1.b1
  obtain ⟨s0, s1, s2, s3, s4⟩ := hb1.facts
  go_wp2_with fail
  have hSV2 := hSV1.st1 (n := B.n) (s := .slice q' B.st.length c')
  have hX1 : BX ((V1.setCell ⟨Z + 1, 0, none⟩ (.int .i64 B.n)).setCell ⟨Z + 1, 1, none⟩ (.slice q' B.st.length c')) (Z + 1) B.n (.slice q' B.st.length c') := hb1.set
  have hX2 : BX ((V1.setCell ⟨Z + 1, 0, none⟩ (.int .i64 B.n)).setCell ⟨Z + 1, 1, none⟩ (.slice q' B.st.length c')) Z A.n (.slice q A.st.length c) := hX0.other (by omega)
  clear hb1 s0 s1 s2 s3 s4 hSV1 hX0
  generalize (V1.setCell ⟨Z + 1, 0, none⟩ (.int .i64 B.n)).setCell ⟨Z + 1, 1, none⟩ (.slice q' B.st.length c') = V2 at hSV2 hX1 hX2 ⊢
  refine ⟨rfl, hKK _ _ (fun _ => hSV2) ?_⟩
  clear hKK KK
  try simp only [Act.put, List.getElem_toArray, List.getElem_cons_zero, List.getElem_cons_succ, List.setIfInBounds_toArray, List.set_cons_zero, List.set_cons_succ]
  refine wpAnyT_oneB (i := 10) rfl (by kernel_rfl) (fun KK hKK => ?_)
  go_wp2_with fail
  refine ⟨rfl, hKK _ _ (fun _ => hSV2) ?_⟩
  clear hKK KK
  try simp only [Act.put, List.getElem_toArray, List.getElem_cons_zero, List.getElem_cons_succ, List.setIfInBounds_toArray, List.set_cons_zero, List.set_cons_succ]
  refine ⟨by kernel_rfl, ?_⟩
  go_wp2_with fail
  exact bodyPost_ret (results_adv2 rfl rfl rfl rfl hX2 hX1) rfl ⟨_, _, _, _, rfl, hSV2.a.rep', hSV2.bb.rep', hSV2.e⟩

set_option maxRecDepth 16000 in
set_option maxHeartbeats 4000000 in
theorem chosen3_any (k : Nat) (hk : k < 256) (hc : (k : Int) / 6 % 5 = 3) (m : Nat) (hm : min ((k : Int) / 2 % 3 + 1) (2 + (k : Int) % 2) = m) (A B : Adv) (w : World)
    (C1 : Hid (∀ W, Calls Tryz.prog 11 #[.int .i64 (2 + (k : Int) % 2), .int .i64 ((k : Int) / 2 % 3)] W (RetC A W)))
    (C2 : Hid (∀ W, Calls Tryz.prog 11 #[.int .i64 (2 + (k : Int) % 2), .int .i64 (m : Int)] W (RetC B W))) :
    Calls Tryz.prog 18 #[.int .u8 k] w fun e w' => ∃ q c q' c', e = .returned (.tuple #[.agg #[.int .i64 A.n, .slice q A.st.length c], .agg #[.int .i64 B.n, .slice q' B.st.length c'], .bool true]) ∧
      AdvRep w' (.agg #[.int .i64 A.n, .slice q A.st.length c]) A ∧ AdvRep w' (.agg #[.int .i64 B.n, .slice q' B.st.length c']) B ∧ Ext w w' := by
  have HM := hide hm
  obtain ⟨Z, hZ⟩ : ∃ Z, w.heap.size = Z := ⟨_, rfl⟩
  obtain ⟨w4, hw4⟩ : ∃ w4, (((w.alloc (.cells #[.int .i64 0, .slice none 0 0] 26)).alloc (.cells #[.int .i64 0, .slice none 0 0] 26)).alloc (.cells #[.int .i64 0, .slice none 0 0] 26)).alloc (.cells #[.int .i64 0, .slice none 0 0] 26) = w4 := ⟨_, rfl⟩
  have HE : Hid (Ext w w4) := by show Ext _ _; rw [← hw4]; exact ((((Ext.refl w).alloc _).alloc _).alloc _).alloc _
  have b0 : BX w4 Z 0 (.slice none 0 0) := by rw [← hw4, ← hZ]; exact (((BX.new w _ _).old _).old _).old _
  have b1 : BX w4 (Z + 1) 0 (.slice none 0 0) := by
    rw [← hw4, ← hZ]
    have := BX.new (w.alloc (.cells #[.int .i64 0, .slice none 0 0] 26)) 0 (.slice none 0 0)
    rw [World.size_alloc] at this
    exact (this.old _).old _
  have b2 : BX w4 (Z + 1 + 1) 0 (.slice none 0 0) := by
    rw [← hw4, ← hZ]
    have := BX.new ((w.alloc (.cells #[.int .i64 0, .slice none 0 0] 26)).alloc (.cells #[.int .i64 0, .slice none 0 0] 26)) 0 (.slice none 0 0)
    rw [World.size_alloc, World.size_alloc] at this
    exact this.old _
  have b3 : BX w4 (Z + 1 + 1 + 1) 0 (.slice none 0 0) := by
    rw [← hw4, ← hZ]
    have := BX.new (((w.alloc (.cells #[.int .i64 0, .slice none 0 0] 26)).alloc (.cells #[.int .i64 0, .slice none 0 0] 26)).alloc (.cells #[.int .i64 0, .slice none 0 0] 26)) 0 (.slice none 0 0)
    rw [World.size_alloc, World.size_alloc, World.size_alloc] at this
    exact this
  have HW := hide hw4
  have HZ := hide hZ
  have B0 := hide b0
  have B1 := hide b1
  have B2 := hide b2
  have B3 := hide b3
  clear hw4 hZ b0 b1 b2 b3 hm
  go_enter Tryz.func18, Tryz.ntmps18
  go_wp2_with fail
  rw [HW.out, HZ.out]
  refine (C1.out _).mono ?_
  rintro e w5 ⟨q, c, rfl, hA, hE5⟩
  have HE5 := hide (HE.out.trans hE5)
  have HA := hide hA
  have B0 := hide (B0.out.ext hE5)
  have B1 := hide (B1.out.ext hE5)
  have B2 := hide (B2.out.ext hE5)
  have B3 := hide (B3.out.ext hE5)
  clear hA hE5
  obtain ⟨s0, s1, s2, s3, s4⟩ := B2.out.facts
  go_wp2_with fail
  rw [HM.out]
  obtain ⟨w6, hw6⟩ : ∃ w6, (w5.setCell ⟨Z + 1 + 1, 0, none⟩ (.int .i64 A.n)).setCell ⟨Z + 1 + 1, 1, none⟩ (.slice q A.st.length c) = w6 := ⟨_, rfl⟩
  have hzz : w.heap.size ≤ Z + 1 + 1 := by rw [← HZ.out]; omega
  have HE6 : Hid (Ext w w6) := by show Ext _ _; rw [← hw6]; exact (HE5.out.setCell (p := ⟨Z + 1 + 1, 0, none⟩) hzz _).setCell (p := ⟨Z + 1 + 1, 1, none⟩) hzz _
  have HA6 : Hid (AdvC w4.heap.size w6 (.agg #[.int .i64 A.n, .slice q A.st.length c]) A) := by show AdvC _ _ _ _; rw [← hw6]; exact HA.out.storeB B2.out
  have B0 : Hid (BX w6 Z 0 (.slice none 0 0)) := by show BX _ _ _ _; rw [← hw6]; exact B0.out.other (by omega)
  have B1 : Hid (BX w6 (Z + 1) 0 (.slice none 0 0)) := by show BX _ _ _ _; rw [← hw6]; exact B1.out.other (by omega)
  have B3 : Hid (BX w6 (Z + 1 + 1 + 1) 0 (.slice none 0 0)) := by show BX _ _ _ _; rw [← hw6]; exact B3.out.other (by omega)
  have B2 : Hid (BX w6 (Z + 1 + 1) A.n (.slice q A.st.length c)) := by show BX _ _ _ _; rw [← hw6]; exact B2.out.set
  rw [hw6]
  clear hw6 s0 s1 s2 s3 s4 HE5 HA
  refine (C2.out _).mono ?_
  rintro e w7 ⟨q', c', rfl, hB, hE7⟩
  have HE7 := hide (HE6.out.trans hE7)
  have HA7 := hide (HA6.out.ext hE7)
  have HB := hide hB
  have B0 := hide (B0.out.ext hE7)
  have B1 := hide (B1.out.ext hE7)
  have B2 := hide (B2.out.ext hE7)
  have B3 := hide (B3.out.ext hE7)
  clear hB hE7
  obtain ⟨s0, s1, s2, s3, s4⟩ := B3.out.facts
  go_upto_region 19 with fail
  obtain ⟨w8, hw8⟩ : ∃ w8, (w7.setCell ⟨Z + 1 + 1 + 1, 0, none⟩ (.int .i64 B.n)).setCell ⟨Z + 1 + 1 + 1, 1, none⟩ (.slice q' B.st.length c') = w8 := ⟨_, rfl⟩
  have hz3 : w.heap.size ≤ Z + 1 + 1 + 1 := by rw [← HZ.out]; omega
  have HE8 : Ext w w8 := by rw [← hw8]; exact (HE7.out.setCell (p := ⟨Z + 1 + 1 + 1, 0, none⟩) hz3 _).setCell (p := ⟨Z + 1 + 1 + 1, 1, none⟩) hz3 _
  have HA8 : AdvC w4.heap.size w8 (.agg #[.int .i64 A.n, .slice q A.st.length c]) A := by rw [← hw8]; exact HA7.out.storeB B3.out
  have HB8 : AdvC w6.heap.size w8 (.agg #[.int .i64 B.n, .slice q' B.st.length c']) B := by rw [← hw8]; exact HB.out.storeB B3.out
  have B0 : BX w8 Z 0 (.slice none 0 0) := by rw [← hw8]; exact B0.out.other (by omega)
  have B1 : BX w8 (Z + 1) 0 (.slice none 0 0) := by rw [← hw8]; exact B1.out.other (by omega)
  have B2 : BX w8 (Z + 1 + 1) A.n (.slice q A.st.length c) := by rw [← hw8]; exact B2.out.other (by omega)
  have B3 : BX w8 (Z + 1 + 1 + 1) B.n (.slice q' B.st.length c') := by rw [← hw8]; exact B3.out.set
  rw [hw8]
  have HS8 := hide (show ChS w Z w4.heap.size w6.heap.size A B (.slice q A.st.length c) (.slice q' B.st.length c') w8 from ⟨⟨_, _, B0⟩, ⟨_, _, B1⟩, B2, B3, HA8, HB8, HE8, by rw [← HZ.out]; exact Nat.le_refl _⟩)
  clear hw8 hz3 hzz s0 s1 s2 s3 s4 HE8 HA8 HB8 B0 B1 B2 B3 HE7 HA7 HB HE6 HA6 HM
  have hZw := HZ.out
  obtain ⟨S, hS⟩ : ∃ S, S = ChS w Z w4.heap.size w6.heap.size A B (.slice q A.st.length c) (.slice q' B.st.length c') := ⟨_, rfl⟩
  refine wp_region_heldB (ChS w Z w4.heap.size w6.heap.size A B (.slice q A.st.length c) (.slice q' B.st.length c')) (fun _ => false) (by kernel_rfl) ?_
  intro V0 hV0
  have hSV := HS8.out.ext (show Ext w8 V0 by rw [hV0]; exact (Ext.refl w8).drew)
  clear hV0 hS S
  refine wpAnyT_takeB (i := 0) (.agg #[.int .i64 A.n, .slice q A.st.length c]) rfl (by kernel_rfl) (fun j hj => by cases hj) (by kernel_rfl) (by kernel_rfl) (by simp [Region.wanted]) (fun V hV => by obtain ⟨c0, c1, -, -, c4⟩ := hV.b2.facts; go_simp) hSV ?_
  try simp only [Act.put, List.getElem_toArray, List.getElem_cons_zero, List.setIfInBounds_toArray, List.set_cons_zero, List.set_cons_succ]
  refine wpAnyT_takeB (i := 1) (.agg #[.int .i64 B.n, .slice q' B.st.length c']) rfl (by kernel_rfl) (fun j hj => by cases hj) (by kernel_rfl) (by kernel_rfl) (by simp [Region.wanted]) (fun V hV => by obtain ⟨c0, c1, -, -, c4⟩ := hV.b3.facts; go_simp) hSV ?_
  try simp only [Act.put, List.getElem_toArray, List.getElem_cons_zero, List.getElem_cons_succ, List.setIfInBounds_toArray, List.set_cons_zero, List.set_cons_succ]
  refine wpAnyT_takeB (i := 2) (.int .i64 0) rfl (by kernel_rfl) (fun j hj => by cases hj) (by kernel_rfl) (by kernel_rfl) (by simp [Region.wanted]) (fun V hV => by go_simp) hSV ?_
  try simp only [Act.put, List.getElem_toArray, List.getElem_cons_zero, List.getElem_cons_succ, List.setIfInBounds_toArray, List.set_cons_zero, List.set_cons_succ]
  refine wpAnyT_takeB (i := 3) (.bool true) rfl (by kernel_rfl) (fun j hj => by cases hj) (by kernel_rfl) (by kernel_rfl) (by simp [Region.wanted]) (fun V hV => by go_simp) hSV ?_
  try simp only [Act.put, List.getElem_toArray, List.getElem_cons_zero, List.getElem_cons_succ, List.setIfInBounds_toArray, List.set_cons_zero, List.set_cons_succ]
  refine wpAnyT_takeB (i := 4) (.bool true) rfl (by kernel_rfl) (fun j hj => by cases hj) (by kernel_rfl) (by kernel_rfl) (by simp [Region.wanted]) (fun V hV => by go_simp) hSV ?_
  try simp only [Act.put, List.getElem_toArray, List.getElem_cons_zero, List.getElem_cons_succ, List.setIfInBounds_toArray, List.set_cons_zero, List.set_cons_succ]
  refine wpAnyT_takeB (i := 5) (.int .i64 0) rfl (by kernel_rfl) (fun j hj => by cases hj) (by kernel_rfl) (by kernel_rfl) (by simp [Region.wanted, yielded]) (fun V hV => by go_simp) hSV ?_
  try simp only [Act.put, List.getElem_toArray, List.getElem_cons_zero, List.getElem_cons_succ, List.setIfInBounds_toArray, List.set_cons_zero, List.set_cons_succ]
  refine wpAnyT_takeB (i := 6) (.bool true) rfl (by kernel_rfl) (fun j hj => by cases hj) (by kernel_rfl) (by kernel_rfl) (by simp [Region.wanted, yielded]) (fun V hV => by go_simp) hSV ?_
  try simp only [Act.put, List.getElem_toArray, List.getElem_cons_zero, List.getElem_cons_succ, List.setIfInBounds_toArray, List.set_cons_zero, List.set_cons_succ]
  refine wpAnyT_takeB (i := 7) (.bool true) rfl (by kernel_rfl) (fun j hj => by cases hj) (by kernel_rfl) (by kernel_rfl) (by simp [Region.wanted]) (fun V hV => by go_simp) hSV ?_
  try simp only [Act.put, List.getElem_toArray, List.getElem_cons_zero, List.getElem_cons_succ, List.setIfInBounds_toArray, List.set_cons_zero, List.set_cons_succ]
  refine wpAnyT_oneB (i := 8) rfl (by kernel_rfl) (fun KK hKK => ?_)
  obtain ⟨n0, t0, hb0⟩ := hSV.b0
  obtain ⟨s0, s1, s2, s3, s4⟩ := hb0.facts
  go_wp2_with fail
  have hSV1 := hSV.st0 (n := A.n) (s := .slice q A.st.length c)
  have hX0 : BX ((V0.setCell ⟨Z, 0, none⟩ (.int .i64 A.n)).setCell ⟨Z, 1, none⟩ (.slice q A.st.length c)) Z A.n (.slice q A.st.length c) := hb0.set
  clear hb0 s0 s1 s2 s3 s4 hSV
  generalize (V0.setCell ⟨Z, 0, none⟩ (.int .i64 A.n)).setCell ⟨Z, 1, none⟩ (.slice q A.st.length c) = V1 at hSV1 hX0 ⊢
  refine ⟨rfl, hKK _ _ (fun _ => hSV1) ?_⟩
  clear hKK KK
  try simp only [Act.put, List.getElem_toArray, List.getElem_cons_zero, List.getElem_cons_succ, List.setIfInBounds_toArray, List.set_cons_zero, List.set_cons_succ]
  refine wpAnyT_oneB (i := 9) rfl (by kernel_rfl) (fun KK hKK => ?_)
  obtain ⟨n1, t1, hb1⟩ := hSV1.b1
  obtain ⟨s0, s1, s2, s3, s4⟩ := hb1.facts
  go_wp2_with fail
  have hSV2 := hSV1.st1 (n := B.n) (s := .slice q' B.st.length c')
  have hX1 : BX ((V1.setCell ⟨Z + 1, 0, none⟩ (.int .i64 B.n)).setCell ⟨Z + 1, 1, none⟩ (.slice q' B.st.length c')) (Z + 1) B.n (.slice q' B.st.length c') := hb1.set
  have hX2 : BX ((V1.setCell ⟨Z + 1, 0, none⟩ (.int .i64 B.n)).setCell ⟨Z + 1, 1, none⟩ (.slice q' B.st.length c')) Z A.n (.slice q A.st.length c) := hX0.other (by omega)
  clear hb1 s0 s1 s2 s3 s4 hSV1 hX0
  generalize (V1.setCell ⟨Z + 1, 0, none⟩ (.int .i64 B.n)).setCell ⟨Z + 1, 1, none⟩ (.slice q' B.st.length c') = V2 at hSV2 hX1 hX2 ⊢
  refine ⟨rfl, hKK _ _ (fun _ => hSV2) ?_⟩
  clear hKK KK
  try simp only [Act.put, List.getElem_toArray, List.getElem_cons_zero, List.getElem_cons_succ, List.setIfInBounds_toArray, List.set_cons_zero, List.set_cons_succ]
  refine wpAnyT_oneB (i := 10) rfl (by kernel_rfl) (fun KK hKK => ?_)
  go_wp2_with fail
  refine ⟨rfl, hKK _ _ (fun _ => hSV2) ?_⟩
  clear hKK KK
  try simp only [Act.put, List.getElem_toArray, List.getElem_cons_zero, List.getElem_cons_succ, List.setIfInBounds_toArray, List.set_cons_zero, List.set_cons_succ]
  refine ⟨by kernel_rfl, ?_⟩
  go_wp2_with fail
  exact bodyPost_ret (results_adv2 rfl rfl rfl rfl hX2 hX1) rfl ⟨_, _, _, _, rfl, hSV2.a.rep', hSV2.bb.rep', hSV2.e⟩

set_option maxRecDepth 16000 in
set_option maxHeartbeats 4000000 in
theorem chosen4_any (k : Nat) (hk : k < 256) (hc : (k : Int) / 6 % 5 = 4) (m : Nat) (hm : min ((k : Int) / 2 % 3 + 1) (2 + (k : Int) % 2) = m) (A B : Adv) (w : World)
    (C1 : Hid (∀ W, Calls Tryz.prog 23 #[.int .i64 (2 + (k : Int) % 2), .int .i64 ((k : Int) / 2 % 3)] W (RetC A W)))
    (C2 : Hid (∀ W, Calls Tryz.prog 23 #[.int .i64 (2 + (k : Int) % 2), .int .i64 ((k : Int) / 2 % 3 + 1)] W (RetC B W))) :
    Calls Tryz.prog 18 #[.int .u8 k] w fun e w' => ∃ q c q' c', e = .returned (.tuple #[.agg #[.int .i64 A.n, .slice q A.st.length c], .agg #[.int .i64 B.n, .slice q' B.st.length c'], .bool true]) ∧
      AdvRep w' (.agg #[.int .i64 A.n, .slice q A.st.length c]) A ∧ AdvRep w' (.agg #[.int .i64 B.n, .slice q' B.st.length c']) B ∧ Ext w w' := by
  have HM := hide hm
  obtain ⟨Z, hZ⟩ : ∃ Z, w.heap.size = Z := ⟨_, rfl⟩
  obtain ⟨w4, hw4⟩ : ∃ w4, (((w.alloc (.cells #[.int .i64 0, .slice none 0 0] 26)).alloc (.cells #[.int .i64 0, .slice none 0 0] 26)).alloc (.cells #[.int .i64 0, .slice none 0 0] 26)).alloc (.cells #[.int .i64 0, .slice none 0 0] 26) = w4 := ⟨_, rfl⟩
  have HE : Hid (Ext w w4) := by show Ext _ _; rw [← hw4]; exact ((((Ext.refl w).alloc _).alloc _).alloc _).alloc _
  have b0 : BX w4 Z 0 (.slice none 0 0) := by rw [← hw4, ← hZ]; exact (((BX.new w _ _).old _).old _).old _
  have b1 : BX w4 (Z + 1) 0 (.slice none 0 0) := by
    rw [← hw4, ← hZ]
    have := BX.new (w.alloc (.cells #[.int .i64 0, .slice none 0 0] 26)) 0 (.slice none 0 0)
    rw [World.size_alloc] at this
    exact (this.old _).old _
  have b2 : BX w4 (Z + 1 + 1) 0 (.slice none 0 0) := by
    rw [← hw4, ← hZ]
    have := BX.new ((w.alloc (.cells #[.int .i64 0, .slice none 0 0] 26)).alloc (.cells #[.int .i64 0, .slice none 0 0] 26)) 0 (.slice none 0 0)
    rw [World.size_alloc, World.size_alloc] at this
    exact this.old _
  have b3 : BX w4 (Z + 1 + 1 + 1) 0 (.slice none 0 0) := by
    rw [← hw4, ← hZ]
    have := BX.new (((w.alloc (.cells #[.int .i64 0, .slice none 0 0] 26)).alloc (.cells #[.int .i64 0, .slice none 0 0] 26)).alloc (.cells #[.int .i64 0, .slice none 0 0] 26)) 0 (.slice none 0 0)
    rw [World.size_alloc, World.size_alloc, World.size_alloc] at this
    exact this
  have HW := hide hw4
  have HZ := hide hZ
  have B0 := hide b0
  have B1 := hide b1
  have B2 := hide b2
  have B3 := hide b3
  clear hw4 hZ b0 b1 b2 b3 hm
  go_enter Tryz.func18, Tryz.ntmps18
  go_wp2_with fail
  rw [HW.out, HZ.out]
  refine (C1.out _).mono ?_
  rintro e w5 ⟨q, c, rfl, hA, hE5⟩
  have HE5 := hide (HE.out.trans hE5)
  have HA := hide hA
  have B0 := hide (B0.out.ext hE5)
  have B1 := hide (B1.out.ext hE5)
  have B2 := hide (B2.out.ext hE5)
  have B3 := hide (B3.out.ext hE5)
  clear hA hE5
  obtain ⟨s0, s1, s2, s3, s4⟩ := B2.out.facts
  go_wp2_with fail
  obtain ⟨w6, hw6⟩ : ∃ w6, (w5.setCell ⟨Z + 1 + 1, 0, none⟩ (.int .i64 A.n)).setCell ⟨Z + 1 + 1, 1, none⟩ (.slice q A.st.length c) = w6 := ⟨_, rfl⟩
  have hzz : w.heap.size ≤ Z + 1 + 1 := by rw [← HZ.out]; omega
  have HE6 : Hid (Ext w w6) := by show Ext _ _; rw [← hw6]; exact (HE5.out.setCell (p := ⟨Z + 1 + 1, 0, none⟩) hzz _).setCell (p := ⟨Z + 1 + 1, 1, none⟩) hzz _
  have HA6 : Hid (AdvC w4.heap.size w6 (.agg #[.int .i64 A.n, .slice q A.st.length c]) A) := by show AdvC _ _ _ _; rw [← hw6]; exact HA.out.storeB B2.out
  have B0 : Hid (BX w6 Z 0 (.slice none 0 0)) := by show BX _ _ _ _; rw [← hw6]; exact B0.out.other (by omega)
  have B1 : Hid (BX w6 (Z + 1) 0 (.slice none 0 0)) := by show BX _ _ _ _; rw [← hw6]; exact B1.out.other (by omega)
  have B3 : Hid (BX w6 (Z + 1 + 1 + 1) 0 (.slice none 0 0)) := by show BX _ _ _ _; rw [← hw6]; exact B3.out.other (by omega)
  have B2 : Hid (BX w6 (Z + 1 + 1) A.n (.slice q A.st.length c)) := by show BX _ _ _ _; rw [← hw6]; exact B2.out.set
  rw [hw6]
  clear hw6 s0 s1 s2 s3 s4 HE5 HA
  refine (C2.out _).mono ?_
  rintro e w7 ⟨q', c', rfl, hB, hE7⟩
  have HE7 := hide (HE6.out.trans hE7)
  have HA7 := hide (HA6.out.ext hE7)
  have HB := hide hB
  have B0 := hide (B0.out.ext hE7)
  have B1 := hide (B1.out.ext hE7)
  have B2 := hide (B2.out.ext hE7)
  have B3 := hide (B3.out.ext hE7)
  clear hB hE7
  obtain ⟨s0, s1, s2, s3, s4⟩ := B3.out.facts
  go_upto_region 19 with fail
  obtain ⟨w8, hw8⟩ : ∃ w8, (w7.setCell ⟨Z + 1 + 1 + 1, 0, none⟩ (.int .i64 B.n)).setCell ⟨Z + 1 + 1 + 1, 1, none⟩ (.slice q' B.st.length c') = w8 := ⟨_, rfl⟩
  have hz3 : w.heap.size ≤ Z + 1 + 1 + 1 := by rw [← HZ.out]; omega
  have HE8 : Ext w w8 := by rw [← hw8]; exact (HE7.out.setCell (p := ⟨Z + 1 + 1 + 1, 0, none⟩) hz3 _).setCell (p := ⟨Z + 1 + 1 + 1, 1, none⟩) hz3 _
  have HA8 : AdvC w4.heap.size w8 (.agg #[.int .i64 A.n, .slice q A.st.length c]) A := by rw [← hw8]; exact HA7.out.storeB B3.out
  have HB8 : AdvC w6.heap.size w8 (.agg #[.int .i64 B.n, .slice q' B.st.length c']) B := by rw [← hw8]; exact HB.out.storeB B3.out
  have B0 : BX w8 Z 0 (.slice none 0 0) := by rw [← hw8]; exact B0.out.other (by omega)
  have B1 : BX w8 (Z + 1) 0 (.slice none 0 0) := by rw [← hw8]; exact B1.out.other (by omega)
  have B2 : BX w8 (Z + 1 + 1) A.n (.slice q A.st.length c) := by rw [← hw8]; exact B2.out.other (by omega)
  have B3 : BX w8 (Z + 1 + 1 + 1) B.n (.slice q' B.st.length c') := by rw [← hw8]; exact B3.out.set
  rw [hw8]
  have HS8 := hide (show ChS w Z w4.heap.size w6.heap.size A B (.slice q A.st.length c) (.slice q' B.st.length c') w8 from ⟨⟨_, _, B0⟩, ⟨_, _, B1⟩, B2, B3, HA8, HB8, HE8, by rw [← HZ.out]; exact Nat.le_refl _⟩)
  clear hw8 hz3 hzz s0 s1 s2 s3 s4 HE8 HA8 HB8 B0 B1 B2 B3 HE7 HA7 HB HE6 HA6 HM
  have hZw := HZ.out
  obtain ⟨S, hS⟩ : ∃ S, S = ChS w Z w4.heap.size w6.heap.size A B (.slice q A.st.length c) (.slice q' B.st.length c') := ⟨_, rfl⟩
  refine wp_region_heldB (ChS w Z w4.heap.size w6.heap.size A B (.slice q A.st.length c) (.slice q' B.st.length c')) (fun _ => false) (by kernel_rfl) ?_
  intro V0 hV0
  have hSV := HS8.out.ext (show Ext w8 V0 by rw [hV0]; exact (Ext.refl w8).drew)
  clear hV0 hS S
  refine wpAnyT_takeB (i := 0) (.agg #[.int .i64 A.n, .slice q A.st.length c]) rfl (by kernel_rfl) (fun j hj => by cases hj) (by kernel_rfl) (by kernel_rfl) (by simp [Region.wanted]) (fun V hV => by obtain ⟨c0, c1, -, -, c4⟩ := hV.b2.facts; go_simp) hSV ?_
  try simp only [Act.put, List.getElem_toArray, List.getElem_cons_zero, List.setIfInBounds_toArray, List.set_cons_zero, List.set_cons_succ]
  refine wpAnyT_takeB (i := 1) (.agg #[.int .i64 B.n, .slice q' B.st.length c']) rfl (by kernel_rfl) (fun j hj => by cases hj) (by kernel_rfl) (by kernel_rfl) (by simp [Region.wanted]) (fun V hV => by obtain ⟨c0, c1, -, -, c4⟩ := hV.b3.facts; go_simp) hSV ?_
  try simp only [Act.put, List.getElem_toArray, List.getElem_cons_zero, List.getElem_cons_succ, List.setIfInBounds_toArray, List.set_cons_zero, List.set_cons_succ]
  refine wpAnyT_takeB (i := 2) (.int .i64 0) rfl (by kernel_rfl) (fun j hj => by cases hj) (by kernel_rfl) (by kernel_rfl) (by simp [Region.wanted]) (fun V hV => by go_simp) hSV ?_
  try simp only [Act.put, List.getElem_toArray, List.getElem_cons_zero, List.getElem_cons_succ, List.setIfInBounds_toArray, List.set_cons_zero, List.set_cons_succ]
  refine wpAnyT_takeB (i := 3) (.bool true) rfl (by kernel_rfl) (fun j hj => by cases hj) (by kernel_rfl) (by kernel_rfl) (by simp [Region.wanted]) (fun V hV => by go_simp) hSV ?_
  try simp only [Act.put, List.getElem_toArray, List.getElem_cons_zero, List.getElem_cons_succ, List.setIfInBounds_toArray, List.set_cons_zero, List.set_cons_succ]
  refine wpAnyT_takeB (i := 4) (.bool true) rfl (by kernel_rfl) (fun j hj => by cases hj) (by kernel_rfl) (by kernel_rfl) (by simp [Region.wanted]) (fun V hV => by go_simp) hSV ?_
  try simp only [Act.put, List.getElem_toArray, List.getElem_cons_zero, List.getElem_cons_succ, List.setIfInBounds_toArray, List.set_cons_zero, List.set_cons_succ]
  refine wpAnyT_takeB (i := 5) (.int .i64 0) rfl (by kernel_rfl) (fun j hj => by cases hj) (by kernel_rfl) (by kernel_rfl) (by simp [Region.wanted, yielded]) (fun V hV => by go_simp) hSV ?_
  try simp only [Act.put, List.getElem_toArray, List.getElem_cons_zero, List.getElem_cons_succ, List.setIfInBounds_toArray, List.set_cons_zero, List.set_cons_succ]
  refine wpAnyT_takeB (i := 6) (.bool true) rfl (by kernel_rfl) (fun j hj => by cases hj) (by kernel_rfl) (by kernel_rfl) (by simp [Region.wanted, yielded]) (fun V hV => by go_simp) hSV ?_
  try simp only [Act.put, List.getElem_toArray, List.getElem_cons_zero, List.getElem_cons_succ, List.setIfInBounds_toArray, List.set_cons_zero, List.set_cons_succ]
  refine wpAnyT_takeB (i := 7) (.bool true) rfl (by kernel_rfl) (fun j hj => by cases hj) (by kernel_rfl) (by kernel_rfl) (by simp [Region.wanted]) (fun V hV => by go_simp) hSV ?_
  try simp only [Act.put, List.getElem_toArray, List.getElem_cons_zero, List.getElem_cons_succ, List.setIfInBounds_toArray, List.set_cons_zero, List.set_cons_succ]
  refine wpAnyT_oneB (i := 8) rfl (by kernel_rfl) (fun KK hKK => ?_)
  obtain ⟨n0, t0, hb0⟩ := hSV.b0
  obtain ⟨s0, s1, s2, s3, s4⟩ := hb0.facts
  go_wp2_with fail
  have hSV1 := hSV.st0 (n := A.n) (s := .slice q A.st.length c)
  have hX0 : BX ((V0.setCell ⟨Z, 0, none⟩ (.int .i64 A.n)).setCell ⟨Z, 1, none⟩ (.slice q A.st.length c)) Z A.n (.slice q A.st.length c) := hb0.set
  clear hb0 s0 s1 s2 s3 s4 hSV
  generalize (V0.setCell ⟨Z, 0, none⟩ (.int .i64 A.n)).setCell ⟨Z, 1, none⟩ (.slice q A.st.length c) = V1 at hSV1 hX0 ⊢
  refine ⟨rfl, hKK _ _ (fun _ => hSV1) ?_⟩
  clear hKK KK
  try simp only [Act.put, List.getElem_toArray, List.getElem_cons_zero, List.getElem_cons_succ, List.setIfInBounds_toArray, List.set_cons_zero, List.set_cons_succ]
  refine wpAnyT_oneB (i := 9) rfl (by kernel_rfl) (fun KK hKK => ?_)
  obtain ⟨n1, t1, hb1⟩ := hSV1.b1
  obtain ⟨s0, s1, s2, s3, s4⟩ := hb1.facts
  go_wp2_with fail
  have hSV2 := hSV1.st1 (n := B.n) (s := .slice q' B.st.length c')
  have hX1 : BX ((V1.setCell ⟨Z + 1, 0, none⟩ (.int .i64 B.n)).setCell ⟨Z + 1, 1, none⟩ (.slice q' B.st.length c')) (Z + 1) B.n (.slice q' B.st.length c') := hb1.set
  have hX2 : BX ((V1.setCell ⟨Z + 1, 0, none⟩ (.int .i64 B.n)).setCell ⟨Z + 1, 1, none⟩ (.slice q' B.st.length c')) Z A.n (.slice q A.st.length c) := hX0.other (by omega)
  clear hb1 s0 s1 s2 s3 s4 hSV1 hX0
  generalize (V1.setCell ⟨Z + 1, 0, none⟩ (.int .i64 B.n)).setCell ⟨Z + 1, 1, none⟩ (.slice q' B.st.length c') = V2 at hSV2 hX1 hX2 ⊢
  refine ⟨rfl, hKK _ _ (fun _ => hSV2) ?_⟩
  clear hKK KK
  try simp only [Act.put, List.getElem_toArray, List.getElem_cons_zero, List.getElem_cons_succ, List.setIfInBounds_toArray, List.set_cons_zero, List.set_cons_succ]
  refine wpAnyT_oneB (i := 10) rfl (by kernel_rfl) (fun KK hKK => ?_)
  go_wp2_with fail
  refine ⟨rfl, hKK _ _ (fun _ => hSV2) ?_⟩
  clear hKK KK
  try simp only [Act.put, List.getElem_toArray, List.getElem_cons_zero, List.getElem_cons_succ, List.setIfInBounds_toArray, List.set_cons_zero, List.set_cons_succ]
  refine ⟨by kernel_rfl, ?_⟩
  go_wp2_with fail
  exact bodyPost_ret (results_adv2 rfl rfl rfl rfl hX2 hX1) rfl ⟨_, _, _, _, rfl, hSV2.a.rep', hSV2.bb.rep', hSV2.e⟩
end Go.Proofs.YtdlhnpogddpmpaaGreat

namespace Go.Proofs.YtdlhnpogddpmpaaGreat
open Go.RowKit
attribute [local go_sem] Oper.semAt_some

/-! ### Renamed words -/
/-- Renamed rounds. -/
structure RenP (n : Nat) (π : Nat → Nat) (r r' : Rd) : Prop where
  f : ∀ q, q < n → bit r'.f.toNat (π q) = bit r.f.toNat q
  g : ∀ p q, p < n → q < n → hb r'.g (π p) (π q) = hb r.g p q
inductive RenW (n : Nat) (π : Nat → Nat) : List Rd → List Rd → Prop
  | nil : RenW n π [] []
  | cons {r r' : Rd} {l l' : List Rd} : RenP n π r r' → RenW n π l l' → RenW n π (r :: l) (r' :: l')
theorem chainF_ren {op n f : Nat} {π : Nat → Nat} (h5 : n ≤ 5) (h : Ren n π) : ∀ {l l' : List Rd}, RenW n π l l' → (∀ r ∈ l, RdN n r) → (∀ r ∈ l', RdN n r) → ∀ k k', (∀ q, q < n → bit k' (π q) = bit k q) → (ChainF op n f k' l' ↔ ChainF op n f k l)
  | _, _, .nil, _, _, _, _, _ => Iff.rfl
  | r :: l, r' :: l', .cons hr hl, h1, h2, k, k', hk => by
    have hs := step_ren (op := op) (f := f) h5 h (h1 r (List.mem_cons_self ..)) (h2 r' (List.mem_cons_self ..)) (k := k) (k' := k') ⟨hk, hr.f, hr.g⟩
    have ih := chainF_ren (op := op) (f := f) h5 h hl (fun x hx => h1 x (List.mem_cons_of_mem _ hx)) (fun x hx => h2 x (List.mem_cons_of_mem _ hx)) r.f.toNat r'.f.toNat hr.f
    exact and_congr hs ih
theorem zero_ren {n : Nat} {π : Nat → Nat} {r r' : Rd} (h : Ren n π) (hr : RdN n r) (hr' : RdN n r') (H : RenP n π r r') : r'.f = 0 ↔ r.f = 0 := by
  obtain ⟨o, ho, ho2⟩ := hr.f
  obtain ⟨o', ho', ho2'⟩ := hr'.f
  have e := H.f
  rw [ho, ho'] at e
  simp only [Int.toNat_natCast] at e
  have zero : ∀ {s : Nat}, s < 2 ^ n → (((s : Nat) : Int) = 0 ↔ ∀ q, q < n → bit s q = false) := fun {s} hs => by
    constructor
    · intro h0 q _
      have : s = 0 := by omega
      subst this
      unfold bit
      exact Nat.zero_testBit q
    · intro h0
      have : s = 0 := Nat.eq_of_testBit_eq fun q => by
        rw [Nat.zero_testBit]
        by_cases hq : q < n
        · exact h0 q hq
        · exact bit_big hs (by omega)
      omega
  rw [ho, ho', zero ho2, zero ho2']
  constructor
  · intro k q hq
    have := e q hq
    rw [k _ (h.lt q hq)] at this
    exact this.symm
  · intro k q' hq'
    obtain ⟨q, hq, rfl⟩ := h.sur q' hq'
    exact (e q hq).trans (k q hq)
theorem parts_ren {n : Nat} {π : Nat → Nat} (h1 : 1 ≤ n) (h : Ren n π) : ∀ {l l' : List Rd}, RenW n π l l' → (∀ r ∈ l, RdN n r) → (∀ r ∈ l', RdN n r) →
    (((∀ r ∈ l', r.f = 0 ∧ Dvd n r.g) ↔ ∀ r ∈ l, r.f = 0 ∧ Dvd n r.g) ∧ ((∀ r ∈ l, r.f = 0 ∧ Dvd n r.g) → l'.countP (fun r => !decide (Whole n r.g)) = l.countP (fun r => !decide (Whole n r.g))))
  | _, _, .nil, _, _ => ⟨Iff.rfl, fun _ => rfl⟩
  | r :: l, r' :: l', .cons hr hl, a, b => by
    have ha := a r (List.mem_cons_self ..)
    have hb := b r' (List.mem_cons_self ..)
    have ih := parts_ren h1 h hl (fun x hx => a x (List.mem_cons_of_mem _ hx)) (fun x hx => b x (List.mem_cons_of_mem _ hx))
    have e1 := zero_ren h ha hb hr
    have e2 := dvd_ren h ha.wf hb.wf hr.g
    refine ⟨?_, fun H => ?_⟩
    · rw [List.forall_mem_cons, List.forall_mem_cons, e1, e2, ih.1]
    · rw [List.forall_mem_cons] at H
      have e3 := whole_ren h1 h ha.wf hb.wf H.1.2 (e2.2 H.1.2) hr.g
      rw [List.countP_cons, List.countP_cons, ih.2 H.2, show decide (Whole n r'.g) = decide (Whole n r.g) from decide_eq_decide.2 e3]
/-! ### The adversaries -/
/-- What the law's chosen returns. -/
structure ChsR (k N : Nat) (A B : Adv) : Prop where
  call : ∀ w, Calls Tryz.prog 18 #[.int .u8 k] w fun e w' => ∃ q c q' c', e = .returned (.tuple #[.agg #[.int .i64 A.n, .slice q A.st.length c], .agg #[.int .i64 B.n, .slice q' B.st.length c'], .bool true]) ∧
      AdvRep w' (.agg #[.int .i64 A.n, .slice q A.st.length c]) A ∧ AdvRep w' (.agg #[.int .i64 B.n, .slice q' B.st.length c']) B ∧ Ext w w'
  n1 : 1 ≤ N
  n3 : N ≤ 3
  sz : A.n = N
  ca : achk A = 0
  cb : achk B = 0
  trim : trimA A = A
  ma : movesN A ≤ 4096
  mb : movesN B ≤ 4096
  more : ∀ l, 0 ≤ after A 0 l → 0 ≤ after B 0 l
  ren : ∀ π l l', Ren N π → RenW N π l l' → (∀ r ∈ l, RdN N r) → (∀ r ∈ l', RdN N r) → (0 ≤ after A 0 l' ↔ 0 ≤ after A 0 l)
theorem chosen_fault {k op : Nat} (_hk : k < 256) (hop : 1 ≤ op ∧ op ≤ 4) {F : FuncId} (pF : ∀ n f w, Calls Tryz.prog F #[.int .i64 n, .int .i64 f] w (RetF (mdlA op n f) w))
    (hcall : ∀ (m : Nat) (_ : min ((k : Int) / 2 % 3 + 1) (2 + (k : Int) % 2) = m) (A B : Adv) (w : World), Hid (∀ W, Calls Tryz.prog F #[.int .i64 (2 + (k : Int) % 2), .int .i64 ((k : Int) / 2 % 3)] W (RetC A W)) → Hid (∀ W, Calls Tryz.prog F #[.int .i64 (2 + (k : Int) % 2), .int .i64 (m : Int)] W (RetC B W)) →
      Calls Tryz.prog 18 #[.int .u8 k] w fun e w' => ∃ q c q' c', e = .returned (.tuple #[.agg #[.int .i64 A.n, .slice q A.st.length c], .agg #[.int .i64 B.n, .slice q' B.st.length c'], .bool true]) ∧
      AdvRep w' (.agg #[.int .i64 A.n, .slice q A.st.length c]) A ∧ AdvRep w' (.agg #[.int .i64 B.n, .slice q' B.st.length c']) B ∧ Ext w w') : ∃ N A B, ChsR k N A B := by
  obtain ⟨N, hN, h2, h3⟩ : ∃ N : Nat, 2 + (k : Int) % 2 = N ∧ 2 ≤ N ∧ N ≤ 3 := ⟨2 + k % 2, by omega, by omega, by omega⟩
  obtain ⟨f, hf, hf2⟩ : ∃ f : Nat, (k : Int) / 2 % 3 = f ∧ f ≤ 2 := ⟨k / 2 % 3, by omega, by omega⟩
  obtain ⟨m, hm, hmN, hfm⟩ : ∃ m : Nat, min ((f : Int) + 1) (N : Int) = m ∧ m ≤ N ∧ f ≤ m := ⟨min (f + 1) N, by omega, by omega, by omega⟩
  obtain ⟨A, FA⟩ := faultA (f := f) hop (show 1 ≤ N by omega) h3 (by omega)
  obtain ⟨B, FB⟩ := faultA (f := m) hop (show 1 ≤ N by omega) h3 hmN
  rw [hN, hf] at hcall
  refine ⟨N, A, B, fun w => hcall m hm A B w (fun W => (pF N f W).mono fun e W' h => RetF.okC (by rw [FA.eq] at h; exact h)) (fun W => (pF N m W).mono fun e W' h => RetF.okC (by rw [FB.eq] at h; exact h)), by omega, h3, FA.sz, FA.chk, FB.chk, ?_, FA.mv, FB.mv, fun l h => (FB.allows l).2 (chain_more hop (by omega) hfm l ((FA.allows l).1 h)), fun π l l' hR hF h1 h2 => ?_⟩
  · obtain ⟨ks, hb⟩ := FA.found
    exact hb.trim FA.chk
  · rw [FA.allows, FA.allows, chain_iff hop (by omega) l 0 (Nat.two_pow_pos _) h1, chain_iff hop (by omega) l' 0 (Nat.two_pow_pos _) h2]
    exact chainF_ren (by omega) hR hF h1 h2 0 0 fun q _ => by unfold bit; rw [Nat.zero_testBit, Nat.zero_testBit]
theorem chosen_ok (k : Nat) (hk : k < 256) : ∃ N A B, ChsR k N A B := by
  have hc5 : (k : Int) / 6 % 5 = 0 ∨ (k : Int) / 6 % 5 = 1 ∨ (k : Int) / 6 % 5 = 2 ∨ (k : Int) / 6 % 5 = 3 ∨ (k : Int) / 6 % 5 = 4 := by omega
  rcases hc5 with h | h | h | h | h
  · exact chosen_fault hk (op := 1) (by omega) pcrash_any fun m hm A B w => chosen0_any k hk h m hm A B w
  · exact chosen_fault hk (op := 2) (by omega) psend_any fun m hm A B w => chosen1_any k hk h m hm A B w
  · exact chosen_fault hk (op := 3) (by omega) precv_any fun m hm A B w => chosen2_any k hk h m hm A B w
  · exact chosen_fault hk (op := 4) (by omega) pomit_any fun m hm A B w => chosen3_any k hk h m hm A B w
  · obtain ⟨N, hN, h2, h3⟩ : ∃ N : Nat, 2 + (k : Int) % 2 = N ∧ 2 ≤ N ∧ N ≤ 3 := ⟨2 + k % 2, by omega, by omega, by omega⟩
    obtain ⟨f, hf, hf2⟩ : ∃ f : Nat, (k : Int) / 2 % 3 = f ∧ f ≤ 2 := ⟨k / 2 % 3, by omega, by omega⟩
    obtain ⟨m, hm⟩ : ∃ m : Nat, min ((k : Int) / 2 % 3 + 1) (2 + (k : Int) % 2) = m := ⟨(min ((k : Int) / 2 % 3 + 1) (2 + (k : Int) % 2)).toNat, by omega⟩
    obtain ⟨A, FA⟩ := divA (k := f) (show 1 ≤ N by omega) h3 (by omega)
    obtain ⟨B, FB⟩ := divA (k := f + 1) (show 1 ≤ N by omega) h3 (by omega)
    have hcall := fun w => chosen4_any k hk h m hm A B w
    rw [hN, hf] at hcall
    refine ⟨N, A, B, fun w => hcall w (fun W => (ppartition_any N f W).mono fun e W' h => RetF.okC (by rw [FA.eq] at h; exact h)) (fun W => (ppartition_any N (f + 1 : Nat) W).mono fun e W' h => RetF.okC (by rw [FB.eq] at h; exact h)), by omega, h3, FA.sz, FA.chk, FB.chk, ?_, FA.mv, FB.mv, fun l h => (FB.allows l).2 (chain_div (by omega) (by omega) (Nat.le_succ f) l ((FA.allows l).1 h)), fun π l l' hR hF h1 h2 => ?_⟩
    · obtain ⟨ks, hb⟩ := FA.found
      exact hb.trim FA.chk
    · rw [FA.allows, FA.allows, chain_parts (by omega) (by omega) l 0 (Nat.zero_le _) h1, chain_parts (by omega) (by omega) l' 0 (Nat.zero_le _) h2]
      obtain ⟨e1, e2⟩ := parts_ren (show 1 ≤ N by omega) hR hF h1 h2
      constructor
      · rintro ⟨a, b⟩
        have a' := e1.1 a
        exact ⟨a', by rw [← e2 a']; exact b⟩
      · rintro ⟨a, b⟩
        exact ⟨e1.2 a, by rw [e2 a]; exact b⟩
end Go.Proofs.YtdlhnpogddpmpaaGreat
