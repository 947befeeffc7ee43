/-
  How a task lies in the heap (slices of any kind), two new boxes in any order, '==' of tasks by the reference.
  Conditions: as each theorem states.
-/
import Derived.Test.YthkididgbaamcaaGreatDoorTaskC
import Derived.Test.YthkididgbaamcaaGreatDoorAw13
import Derived.Test.YthkididgbaamcaaGreatDoorHeldA
import Derived.Test.YthkididgbaamcaaGreatDoorNews
import Derived.Deep.CutRange
namespace Go.Proofs.YthkididgbaamcaaGreatDoor
open Go.RowKit
attribute [local go_sem] Oper.semAt_some

instance : Inhabited Cs := ⟨⟨[], [], []⟩⟩
structure CaseR (w : World) (t : Value × Value × Value) (c : Cs) : Prop where
  inp : Row icells 1 w t.1 c.inp
  out : Rows2 icells 1 w t.2.1 c.out
  calm : Rows2 icells 1 w t.2.2 c.calm
theorem CaseR.ext {w W : World} {t : Value × Value × Value} {c : Cs} (h : CaseR w t c) (hE : Ext w W) : CaseR W t c := ⟨h.inp.ext hE, h.out.ext hE, h.calm.ext hE⟩
/-- A task lies at a value. -/
def TkRep (w : World) (v : Value) (T : Tk) : Prop := ∃ u vs, v = .agg #[.int .i64 T.n, .int .i64 T.ins, .int .i64 T.outs, u] ∧ vs.length = T.cs.length ∧ Row tenc 3 w u vs ∧ ∀ (i : Nat) t c, vs[i]? = some t → T.cs[i]? = some c → CaseR w t c
theorem TkRep.ext {w W : World} {v : Value} {T : Tk} (h : TkRep w v T) (hE : Ext w W) : TkRep W v T := by
  obtain ⟨u, vs, h1, h2, h3, h4⟩ := h
  exact ⟨u, vs, h1, h2, h3.ext hE, fun i t c a b => (h4 i t c a b).ext hE⟩
theorem TkAt.rep {w : World} {v : Value} {T : Tk} (h : TkAt w v T) (hl : ∀ c ∈ T.cs, c.out.length ≤ 17592186044416 ∧ c.calm.length ≤ 17592186044416) : TkRep w v T := by
  obtain ⟨u, vs, h1, h2, h3, h4⟩ := h
  refine ⟨u, vs, h1, h2, h3, fun i t c a b => ?_⟩
  obtain ⟨k1, k2⟩ := hl c (List.mem_of_getElem? b)
  have := h4 i t c a b
  exact ⟨this.inp.1, this.out.rows2 k1, this.calm.rows2 k2⟩
/-- The cells of a case, where it lies. -/
structure CsAt (w : World) (b k : Nat) (c : Cs) (q0 : Option Addr) (k0 : Nat) (q1 : Option Addr) (k1 : Nat) (q2 : Option Addr) (k2 : Nat) : Prop where
  c0 : ∀ W, Ext w W → W.cell? ⟨b, k, none⟩ = some (.slice q0 c.inp.length k0)
  c1 : ∀ W, Ext w W → W.cell? ⟨b, k + 1, none⟩ = some (.slice q1 c.out.length k1)
  c2 : ∀ W, Ext w W → W.cell? ⟨b, k + 2, none⟩ = some (.slice q2 c.calm.length k2)
  r0 : Row icells 1 w (.slice q0 c.inp.length k0) c.inp
  r1 : Rows2 icells 1 w (.slice q1 c.out.length k1) c.out
  r2 : Rows2 icells 1 w (.slice q2 c.calm.length k2) c.calm
  l0 : c.inp.length ≤ 17592186044416
  l1 : c.out.length ≤ 17592186044416
  l2 : c.calm.length ≤ 17592186044416
theorem Rows2.slv {α : Type} {enc : α → List Value} {size : Nat} {w : World} {v : Value} {xs : List (List α)} (h : Rows2 enc size w v xs) : ∃ q k, v = .slice q xs.length k ∧ xs.length ≤ 17592186044416 := by
  obtain ⟨p, c, e, -, hl, -⟩ := h.sl_all
  exact ⟨p, c, e, hl⟩
theorem TkRep.all_ {w : World} {v : Value} {T : Tk} (h : TkRep w v T) :
    ∃ (p : Option Addr) (c : Nat), v = .agg #[.int .i64 T.n, .int .i64 T.ins, .int .i64 T.outs, .slice p T.cs.length c] ∧ T.cs.length ≤ c ∧ T.cs.length ≤ 17592186044416 ∧
      (0 < T.cs.length → ∃ b o, p = some ⟨b, o, none⟩ ∧ b < w.heap.size ∧ ∀ i, i < T.cs.length → ∃ q0 k0 q1 k1 q2 k2, CsAt w b (o + i * 3) (T.cs.getD i default) q0 k0 q1 k1 q2 k2) := by
  obtain ⟨u, vs, rfl, hl, ⟨p, c, rfl, hc, hcm, hp⟩, hcs⟩ := h
  rw [hl] at hc hcm hp ⊢
  refine ⟨p, c, rfl, hc, hcm.2, fun h0 => ?_⟩
  obtain ⟨b, o, rfl, hb, hat⟩ := hp h0
  refine ⟨b, o, rfl, hb, fun i hi => ?_⟩
  have hv : vs[i]? = some (vs[i]'(by omega)) := List.getElem?_eq_getElem _
  have hT : T.cs[i]? = some (T.cs[i]) := List.getElem?_eq_getElem hi
  have hg : T.cs.getD i default = T.cs[i] := by rw [List.getD_eq_getElem?_getD, hT]; rfl
  have hC := hcs i _ _ hv hT
  have hx := hat i _ hv
  rw [hg]
  generalize vs[i]'(by omega) = t at hC hx
  obtain ⟨t0, t1, t2⟩ := t
  obtain ⟨q0, k0, e0, -, hl0, -⟩ := hC.inp.int_all
  obtain ⟨q1, k1, e1, hl1⟩ := hC.out.slv
  obtain ⟨q2, k2, e2, hl2⟩ := hC.calm.slv
  dsimp only at e0 e1 e2
  subst e0 e1 e2
  have key : ∀ j u, (tenc (Value.slice q0 T.cs[i].inp.length k0, Value.slice q1 T.cs[i].out.length k1, Value.slice q2 T.cs[i].calm.length k2))[j]? = some u → ∀ W, Ext w W → W.cell? ⟨b, o + i * 3 + j, none⟩ = some u := fun j u hu W hE => (hE.cell (p := ⟨b, _, none⟩) hb).trans (hx j u hu)
  exact ⟨q0, k0, q1, k1, q2, k2, key 0 _ rfl, key 1 _ rfl, key 2 _ rfl, hC.inp, hC.out, hC.calm, hl0, hl1, hl2⟩
section
variable {P : Program} {ops : Array Oper} {S : World → Prop} {Q : Act → World → Prop}
structure News2 (w V : World) (ob : Obj) (g1 g2 : Nat) : Prop where
  ext : Ext w V
  b1 : V.heap[g1]? = some ob
  b2 : V.heap[g2]? = some ob
  n12 : g1 ≠ g2
  l1 : w.heap.size ≤ g1
  l2 : w.heap.size ≤ g2
theorem news2 (w : World) (ob : Obj) : News2 w ((w.alloc ob).alloc ob) ob w.heap.size (w.heap.size + 1) := by
  refine ⟨((Ext.refl w).alloc _).alloc _, ?_, ?_, by omega, by omega, by omega⟩
  · rw [Below.heap_alloc _ _ _ (by simp)]
    exact heap_alloc_new w _
  · have := heap_alloc_new (w.alloc ob) ob
    rwa [World.size_alloc] at this
theorem News2.swap {w V : World} {ob : Obj} {g1 g2 : Nat} (h : News2 w V ob g1 g2) : News2 w V ob g2 g1 := ⟨h.ext, h.b2, h.b1, h.n12.symm, h.l2, h.l1⟩
theorem wpAnyT_news2 {i j d1 d2 : Nat} {o1 o2 : Oper} {ob : Obj} {listed : Array Bool} {fuel : Nat} {a : Act} {w : World}
    (hi : ops[i]? = some o1) (hj : ops[j]? = some o2) (gi : o1.guard = none) (gj : o2.guard = none) (di : o1.dst = some d1) (dj : o2.dst = some d2)
    (d12 : d1 ≠ d2) (n12 : i ≠ j)
    (r0 : Region.ready .any ops listed = [i, j]) (r1 : Region.ready .any ops (listed.setIfInBounds i true) = [j]) (r2 : Region.ready .any ops (listed.setIfInBounds j true) = [i])
    (e1 : ∀ (a : Act) (w : World), (execOp a.eval o1).run P w = .ok (.value (.pointer (some ⟨w.heap.size, 0, none⟩))) (w.alloc ob))
    (e2 : ∀ (a : Act) (w : World), (execOp a.eval o2).run P w = .ok (.value (.pointer (some ⟨w.heap.size, 0, none⟩))) (w.alloc ob))
    (hS : ∀ V, Ext w V → S V)
    (h : ∀ V g1 g2, News2 w V ob g1 g2 → wpAnyT P .any ops S (fun _ => false) Q fuel ((listed.setIfInBounds i true).setIfInBounds j true)
      { a with tmps := (a.tmps.setIfInBounds d1 (.pointer (some ⟨g1, 0, none⟩))).setIfInBounds d2 (.pointer (some ⟨g2, 0, none⟩)) } V) :
    wpAnyT P .any ops S (fun _ => false) Q (fuel + 1 + 1) listed a w := by
  have E1 : Ext w (w.alloc ob) := (Ext.refl w).alloc _
  have N := news2 w ob
  have s1 : (w.alloc ob).heap.size = w.heap.size + 1 := World.size_alloc _ _
  refine wpAnyT_all r0 (by simp) fun x hx => ?_
  simp only [List.mem_cons, List.not_mem_nil, or_false] at hx
  rcases hx with rfl | rfl
  · refine op_newBox hi gi di (e1 _ _) ⟨hS _ E1, wpAnyT_all r1 (by simp) fun x hx => ?_⟩
    simp only [List.mem_cons, List.not_mem_nil, or_false] at hx
    subst hx
    refine op_newBox hj gj dj (e2 _ _) ⟨hS _ N.ext, ?_⟩
    rw [s1]
    exact h _ _ _ N
  · refine op_newBox hj gj dj (e2 _ _) ⟨hS _ E1, wpAnyT_all r2 (by simp) fun x hx => ?_⟩
    simp only [List.mem_cons, List.not_mem_nil, or_false] at hx
    subst hx
    refine op_newBox hi gi di (e1 _ _) ⟨hS _ N.ext, ?_⟩
    rw [s1]
    have := h _ _ _ N.swap
    rw [Array.setIfInBounds_comm _ _ n12, Array.setIfInBounds_comm _ _ d12] at this
    exact this
end
def cobj0 : Obj := .cells #[.slice none 0 0, .slice none 0 0, .slice none 0 0] 60
theorem CBox.store {W : World} {g : Nat} {u0 u1 u2 : Value} (h : CBox W g u0 u1 u2) (v0 v1 v2 : Value) : CBox (((W.setCell ⟨g, 0, none⟩ v0).setCell ⟨g, 1, none⟩ v1).setCell ⟨g, 2, none⟩ v2) g v0 v1 v2 := heap_set (heap_set (heap_set h v0) v1) v2
theorem CBox.other {W : World} {g : Nat} {u0 u1 u2 : Value} (h : CBox W g u0 u1 u2) {g' : Nat} (hne : g ≠ g') (v0 v1 v2 : Value) : CBox (((W.setCell ⟨g', 0, none⟩ v0).setCell ⟨g', 1, none⟩ v1).setCell ⟨g', 2, none⟩ v2) g u0 u1 u2 :=
  (Below.heap_setCell _ _ _ _ hne).trans ((Below.heap_setCell _ _ _ _ hne).trans ((Below.heap_setCell _ _ _ _ hne).trans h))
theorem ext_store3 {w W : World} (h : Ext w W) {g : Nat} (hg : w.heap.size ≤ g) (v0 v1 v2 : Value) : Ext w (((W.setCell ⟨g, 0, none⟩ v0).setCell ⟨g, 1, none⟩ v1).setCell ⟨g, 2, none⟩ v2) := ((h.setCell hg v0).setCell hg v1).setCell hg v2
theorem cases_ne_at {a b : List Cs} {i : Nat} (hi : i < b.length) (h : a.getD i default ≠ b.getD i default) : decide (a = b) = false := by
  rw [decide_eq_false_iff_not]; intro e; subst e; exact h rfl
theorem cases_eq_of {a b : List Cs} (hl : a.length = b.length) (h : ∀ j, j < b.length → a.getD j default = b.getD j default) : a = b := by
  refine List.ext_getElem hl fun j h1 h2 => ?_
  have := h j h2
  rw [List.getD_eq_getElem?_getD, List.getD_eq_getElem?_getD, List.getElem?_eq_getElem h1, List.getElem?_eq_getElem h2] at this
  exact this
theorem cs_ext {a b : Cs} (h0 : a.inp = b.inp) (h1 : a.out = b.out) (h2 : a.calm = b.calm) : a = b := by
  obtain ⟨x, y, z⟩ := a
  obtain ⟨x', y', z'⟩ := b
  dsimp only at *
  rw [h0, h1, h2]
set_option maxRecDepth 16000 in
set_option maxHeartbeats 2000000 in
theorem rsame_tk (S T : Tk) (u v : Value) (w : World) (hu : TkRep w u S) (hv : TkRep w v T) :
    Calls Tryz.prog 12 #[u, v] w fun e w' => e = .returned (.bool (decide (S = T))) ∧ Ext w w' := by
  obtain ⟨p, c, rfl, hc, hl, hat⟩ := hu.all_
  obtain ⟨q, d, rfl, hd, hm, hbt⟩ := hv.all_
  have HA := hide hat
  have HB := hide hbt
  clear hu hv hat hbt hc hd
  obtain ⟨w2, hw2⟩ : ∃ w2, (w.alloc (.cells #[.int .i64 S.n, .int .i64 S.ins, .int .i64 S.outs, .slice p S.cs.length c] 33)).alloc (.cells #[.int .i64 T.n, .int .i64 T.ins, .int .i64 T.outs, .slice q T.cs.length d] 33) = w2 := ⟨_, rfl⟩
  have hE2 : Ext w w2 := by rw [← hw2]; exact ((Ext.refl w).alloc _).alloc _
  have hb0 : TBox w2 w.heap.size (.int .i64 S.n) (.int .i64 S.ins) (.int .i64 S.outs) (.slice p S.cs.length c) := by
    show _ = _
    rw [← hw2]; exact (Below.heap_alloc _ _ _ (by simp)).trans (heap_alloc_new w _)
  have hb1 : TBox w2 (w.heap.size + 1) (.int .i64 T.n) (.int .i64 T.ins) (.int .i64 T.outs) (.slice q T.cs.length d) := by
    show _ = _
    rw [← hw2]; have := heap_alloc_new (w.alloc (.cells #[.int .i64 S.n, .int .i64 S.ins, .int .i64 S.outs, .slice p S.cs.length c] 33)) (.cells #[.int .i64 T.n, .int .i64 T.ins, .int .i64 T.outs, .slice q T.cs.length d] 33)
    rwa [World.size_alloc] at this
  have HW2 := hide hw2
  have HB0 := hide hb0
  have HB1 := hide hb1
  clear hw2
  have HE2 := hide hE2
  obtain ⟨a0, a1, a2, a3⟩ := hb0.cells
  obtain ⟨b0, b1, b2, b3⟩ := hb1.cells
  have z0 := lt_of_heap hb0
  have z1 := lt_of_heap hb1
  obtain ⟨n, ins, outs, cs⟩ := S
  obtain ⟨n', ins', outs', cs'⟩ := T
  dsimp only at *
  clear hb0 hb1 hE2
  by_cases hn : n = n'
  case neg =>
    have hd0 : (n != n') = true := by simp [hn]
    have HR : Hid (decide ((⟨n, ins, outs, cs⟩ : Tk) = ⟨n', ins', outs', cs'⟩) = false) := by rw [decide_eq_false_iff_not]; intro e; injection e with e; exact hn e
    clear hn
    go_enter Tryz.func12, Tryz.ntmps12
    go_wp2_with fail
    rw [HW2.out]
    go_wp2_with fail
    go_ret
    exact ⟨ret_bool HR.out.symm, HE2.out⟩
  case pos =>
  by_cases hi : ins = ins'
  case neg =>
    have hd0 : (ins != ins') = true := by simp [hi]
    have HR : Hid (decide ((⟨n, ins, outs, cs⟩ : Tk) = ⟨n', ins', outs', cs'⟩) = false) := by rw [decide_eq_false_iff_not]; intro e; injection e with _ e; exact hi e
    have hd1 : (n != n') = false := by simp [hn]
    clear hn hi
    go_enter Tryz.func12, Tryz.ntmps12
    go_wp2_with fail
    rw [HW2.out]
    go_wp2_with fail
    go_ret
    exact ⟨ret_bool HR.out.symm, HE2.out⟩
  case pos =>
  by_cases ho : outs = outs'
  case neg =>
    have hd0 : (outs != outs') = true := by simp [ho]
    have HR : Hid (decide ((⟨n, ins, outs, cs⟩ : Tk) = ⟨n', ins', outs', cs'⟩) = false) := by rw [decide_eq_false_iff_not]; intro e; injection e with _ _ e; exact ho e
    have hd1 : (n != n') = false := by simp [hn]
    have hd2 : (ins != ins') = false := by simp [hi]
    clear hn hi ho
    go_enter Tryz.func12, Tryz.ntmps12
    go_wp2_with fail
    rw [HW2.out]
    go_wp2_with fail
    go_ret
    exact ⟨ret_bool HR.out.symm, HE2.out⟩
  case pos =>
  by_cases hk : cs.length = cs'.length
  case neg =>
    have hd0 : ((cs.length : Int) != (cs'.length : Int)) = true := by rw [bne_iff_ne]; omega
    have hd00 : (cs.length != cs'.length) = true := by rw [bne_iff_ne]; omega
    have HR : Hid (decide ((⟨n, ins, outs, cs⟩ : Tk) = ⟨n', ins', outs', cs'⟩) = false) := by rw [decide_eq_false_iff_not]; intro e; injection e with _ _ _ e; exact hk (by rw [e])
    have hd1 : (n != n') = false := by simp [hn]
    have hd2 : (ins != ins') = false := by simp [hi]
    have hd3 : (outs != outs') = false := by simp [ho]
    clear hn hi ho hk
    go_enter Tryz.func12, Tryz.ntmps12
    go_wp2_with fail
    rw [HW2.out]
    go_wp2_with fail
    go_ret
    exact ⟨ret_bool HR.out.symm, HE2.out⟩
  case pos =>
  have hd1 : (n != n') = false := by simp [hn]
  have hd2 : (ins != ins') = false := by simp [hi]
  have hd3 : (outs != outs') = false := by simp [ho]
  have hd4 : ((cs.length : Int) != (cs'.length : Int)) = false := by rw [bne_eq_false_iff_eq]; omega
  have hd5 : (cs.length != cs'.length) = false := by rw [bne_eq_false_iff_eq]; omega
  have HK := hide hk
  have HNE : Hid (∀ i, i < cs.length → cs.getD i default ≠ cs'.getD i default → decide ((⟨n, ins, outs, cs⟩ : Tk) = ⟨n', ins', outs', cs'⟩) = false) := fun i hil hne => by
    rw [decide_eq_false_iff_not]; intro e; injection e with _ _ _ e; exact hne (by rw [e])
  have HEQ : Hid ((∀ j, j < cs.length → cs.getD j default = cs'.getD j default) → decide ((⟨n, ins, outs, cs⟩ : Tk) = ⟨n', ins', outs', cs'⟩) = true) := fun h => by
    rw [decide_eq_true_iff, cases_eq_of hk (fun j hj => h j (by omega)), hn, hi, ho]
  generalize decide ((⟨n, ins, outs, cs⟩ : Tk) = ⟨n', ins', outs', cs'⟩) = res at HNE HEQ ⊢
  clear hn hi ho hk
  go_enter Tryz.func12, Tryz.ntmps12
  go_wp2_with fail
  rw [HW2.out]
  go_wp2_with fail
  clear a0 a1 a2 a3 b0 b1 b2 b3 z0 z1 hd1 hd2 hd3 hd4 hd5
  go_loopw [5] (fun x wr => ∃ i : Nat, i ≤ cs.length ∧ x = .int .i64 i ∧ Hid (∀ j, j < i → cs.getD j default = cs'.getD j default) ∧ Hid (Ext w2 wr)) (fun x _ => cs.length - (intOf x).toNat)
  case atStart => exact ⟨0, by omega, rfl, fun j hj => by omega, Ext.refl _⟩
  case round =>
    obtain ⟨i, hi, rfl, HJ, HE⟩ := hrel
    have HT0 := hide (HB0.out.ext HE.out)
    have HT1 := hide (HB1.out.ext HE.out)
    obtain ⟨a0, a1, a2, a3⟩ := HT0.out.cells
    obtain ⟨b0, b1, b2, b3⟩ := HT1.out.cells
    have z0 := lt_of_heap HT0.out
    have z1 := lt_of_heap HT1.out
    by_cases hlt : i < cs.length
    · have hlt' : i < cs'.length := by have := HK.out; omega
      obtain ⟨bA, oA, rfl, hbA, hatA⟩ := HA.out (by omega)
      obtain ⟨q0, k0, q1, k1, q2, k2, hC⟩ := hatA i hlt
      obtain ⟨bB, oB, rfl, hbB, hatB⟩ := HB.out (by omega)
      obtain ⟨r0, l0, r1, l1, r2, l2, hD⟩ := hatB i hlt'
      have HN : Hid (cs.getD i default = cs'.getD i default → ∀ j, j < i + 1 → cs.getD j default = cs'.getD j default) := fun h j hj => by
        by_cases e : j = i
        · subst e; exact h
        · exact HJ.out j (by omega)
      have HX := hide (HNE.out i hlt)
      have HE3 := hide (HE2.out.trans HE.out)
      generalize cs.getD i default = x at hC HN HX
      generalize cs'.getD i default = y at hD HN HX
      have HC := hide hC
      have HD := hide hD
      clear hC hD hatA hatB
      go_upto_region 6 with fail
      clear a0 a1 a2 a3 b0 b1 b2 b3 z0 z1
      refine wp_region_heldAll (fun V => Ext w2 V) (by kernel_rfl) ?_
      intro W hW
      have hS : Ext w2 W := by rw [hW]; exact HE.out.drew
      clear hW
      refine wpAnyT_take (i := 0) (.pointer (some ⟨w.heap.size, 3, none⟩)) rfl (by kernel_rfl) (by kernel_rfl) (by kernel_rfl) (by simp [Region.wanted]) (fun V hV => by
        obtain ⟨a0, a1, a2, a3⟩ := (HB0.out.ext hV).cells
        have z0 := lt_of_heap (HB0.out.ext hV)
        go_simp) hS ?_
      try simp only [Act.put, List.getElem_toArray, List.setIfInBounds_toArray]
      refine wpAnyT_take (i := 1) (.slice (some ⟨bA, oA, none⟩) cs.length c) rfl (by kernel_rfl) (by kernel_rfl) (by kernel_rfl) (by simp [Region.wanted]) (fun V hV => by
        obtain ⟨a0, a1, a2, a3⟩ := (HB0.out.ext hV).cells
        have z0 := lt_of_heap (HB0.out.ext hV)
        go_simp) hS ?_
      try simp only [Act.put, List.getElem_toArray, List.setIfInBounds_toArray]
      refine wpAnyT_take (i := 2) (.int .i64 i) rfl (by kernel_rfl) (by kernel_rfl) (by kernel_rfl) (by simp [Region.wanted]) (fun V hV => by
        go_simp) hS ?_
      try simp only [Act.put, List.getElem_toArray, List.setIfInBounds_toArray]
      refine wpAnyT_take (i := 3) (.pointer (some ⟨bA, oA + i * 3, none⟩)) rfl (by kernel_rfl) (by kernel_rfl) (by kernel_rfl) (by simp [Region.wanted]) (fun V hV => by
        go_simp) hS ?_
      try simp only [Act.put, List.getElem_toArray, List.setIfInBounds_toArray]
      refine wpAnyT_take (i := 4) (.agg #[.slice q0 x.inp.length k0, .slice q1 x.out.length k1, .slice q2 x.calm.length k2]) rfl (by kernel_rfl) (by kernel_rfl) (by kernel_rfl) (by simp [Region.wanted]) (fun V hV => by
        have e0 := HC.out.c0 V (HE2.out.trans hV)
        have e1 := HC.out.c1 V (HE2.out.trans hV)
        have e2 := HC.out.c2 V (HE2.out.trans hV)
        have z0 := Nat.lt_of_lt_of_le hbA (HE2.out.trans hV).size
        go_simp) hS ?_
      try simp only [Act.put, List.getElem_toArray, List.setIfInBounds_toArray]
      refine wpAnyT_take (i := 5) (.pointer (some ⟨w.heap.size + 1, 3, none⟩)) rfl (by kernel_rfl) (by kernel_rfl) (by kernel_rfl) (by simp [Region.wanted]) (fun V hV => by
        obtain ⟨a0, a1, a2, a3⟩ := (HB1.out.ext hV).cells
        have z0 := lt_of_heap (HB1.out.ext hV)
        go_simp) hS ?_
      try simp only [Act.put, List.getElem_toArray, List.setIfInBounds_toArray]
      refine wpAnyT_take (i := 6) (.slice (some ⟨bB, oB, none⟩) cs'.length d) rfl (by kernel_rfl) (by kernel_rfl) (by kernel_rfl) (by simp [Region.wanted]) (fun V hV => by
        obtain ⟨a0, a1, a2, a3⟩ := (HB1.out.ext hV).cells
        have z0 := lt_of_heap (HB1.out.ext hV)
        go_simp) hS ?_
      try simp only [Act.put, List.getElem_toArray, List.setIfInBounds_toArray]
      refine wpAnyT_take (i := 7) (.int .i64 i) rfl (by kernel_rfl) (by kernel_rfl) (by kernel_rfl) (by simp [Region.wanted]) (fun V hV => by
        go_simp) hS ?_
      try simp only [Act.put, List.getElem_toArray, List.setIfInBounds_toArray]
      refine wpAnyT_take (i := 8) (.pointer (some ⟨bB, oB + i * 3, none⟩)) rfl (by kernel_rfl) (by kernel_rfl) (by kernel_rfl) (by simp [Region.wanted]) (fun V hV => by
        go_simp) hS ?_
      try simp only [Act.put, List.getElem_toArray, List.setIfInBounds_toArray]
      refine wpAnyT_take (i := 9) (.agg #[.slice r0 y.inp.length l0, .slice r1 y.out.length l1, .slice r2 y.calm.length l2]) rfl (by kernel_rfl) (by kernel_rfl) (by kernel_rfl) (by simp [Region.wanted]) (fun V hV => by
        have e0 := HD.out.c0 V (HE2.out.trans hV)
        have e1 := HD.out.c1 V (HE2.out.trans hV)
        have e2 := HD.out.c2 V (HE2.out.trans hV)
        have z0 := Nat.lt_of_lt_of_le hbB (HE2.out.trans hV).size
        go_simp) hS ?_
      try simp only [Act.put, List.getElem_toArray, List.setIfInBounds_toArray]
      refine wpAnyT_news2 (i := 10) (j := 11) (d1 := 6) (d2 := 7) (ob := cobj0) rfl rfl rfl rfl rfl rfl (by decide) (by decide) (by kernel_rfl) (by kernel_rfl) (by kernel_rfl) (fun _ _ => by unfold cobj0; go_simp) (fun _ _ => by unfold cobj0; go_simp) (fun _ hE => hS.trans hE) (fun V ga gb hN => ?_)
      try simp only [Act.put, List.getElem_toArray, List.setIfInBounds_toArray]
      have HN12 := hide hN.n12
      have hga : w2.heap.size ≤ ga := Nat.le_trans hS.size hN.l1
      have hgb : w2.heap.size ≤ gb := Nat.le_trans hS.size hN.l2
      have HBa : Hid (CBox V ga (.slice none 0 0) (.slice none 0 0) (.slice none 0 0)) := hide hN.b1
      have HBb : Hid (CBox V gb (.slice none 0 0) (.slice none 0 0) (.slice none 0 0)) := hide hN.b2
      have hS2 := hS.trans hN.ext
      clear hN hS
      obtain ⟨c0, c1, c2, f1, f2, z0⟩ := HBa.out.cells
      have f0 : V.frozen? ⟨ga, 0, none⟩ = false := frozen_of HBa.out
      refine wpAnyT_one (i := 12) rfl (by kernel_rfl) (fun K hK => ?_)
      go_wp2_with fail
      refine ⟨rfl, hK _ _ (ext_store3 hS2 hga _ _ _) ?_⟩
      clear hK K c0 c1 c2 f0 f1 f2 z0
      have hS3 := ext_store3 hS2 hga (.slice q0 x.inp.length k0) (.slice q1 x.out.length k1) (.slice q2 x.calm.length k2)
      have HBb := hide (HBb.out.other (Ne.symm HN12.out) (.slice q0 x.inp.length k0) (.slice q1 x.out.length k1) (.slice q2 x.calm.length k2))
      have HBa := hide (HBa.out.store (.slice q0 x.inp.length k0) (.slice q1 x.out.length k1) (.slice q2 x.calm.length k2))
      clear hS2
      generalize ((V.setCell ⟨ga, 0, none⟩ (.slice q0 x.inp.length k0)).setCell ⟨ga, 1, none⟩ (.slice q1 x.out.length k1)).setCell ⟨ga, 2, none⟩ (.slice q2 x.calm.length k2) = V3 at hS3 HBa HBb ⊢
      obtain ⟨c0, c1, c2, f1, f2, z0⟩ := HBb.out.cells
      have f0 : V3.frozen? ⟨gb, 0, none⟩ = false := frozen_of HBb.out
      refine wpAnyT_one (i := 13) rfl (by kernel_rfl) (fun K hK => ?_)
      go_wp2_with fail
      refine ⟨rfl, hK _ _ (ext_store3 hS3 hgb _ _ _) ?_⟩
      clear hK K c0 c1 c2 f0 f1 f2 z0
      have hS4 := ext_store3 hS3 hgb (.slice r0 y.inp.length l0) (.slice r1 y.out.length l1) (.slice r2 y.calm.length l2)
      have HBa := hide (HBa.out.other HN12.out (.slice r0 y.inp.length l0) (.slice r1 y.out.length l1) (.slice r2 y.calm.length l2))
      have HBb := hide (HBb.out.store (.slice r0 y.inp.length l0) (.slice r1 y.out.length l1) (.slice r2 y.calm.length l2))
      clear hS3
      generalize ((V3.setCell ⟨gb, 0, none⟩ (.slice r0 y.inp.length l0)).setCell ⟨gb, 1, none⟩ (.slice r1 y.out.length l1)).setCell ⟨gb, 2, none⟩ (.slice r2 y.calm.length l2) = V4 at hS4 HBa HBb ⊢
      refine wpAnyT_done (by kernel_rfl) ?_ _
      have HO := hide (fun W (hW : Ext w2 W) => rorder_any x.inp y.inp _ _ W (HC.out.r0.ext (HE2.out.trans hW)) (HD.out.r0.ext (HE2.out.trans hW)))
      have HV1 := hide (fun W (hW : Ext w2 W) => rsamev_any x.out y.out _ _ W (HC.out.r1.ext (HE2.out.trans hW)) (HD.out.r1.ext (HE2.out.trans hW)))
      have HV2 := hide (fun W (hW : Ext w2 W) => rsamev_any x.calm y.calm _ _ W (HC.out.r2.ext (HE2.out.trans hW)) (HD.out.r2.ext (HE2.out.trans hW)))
      have HE := hide hS4
      clear hS4 HC HD
      obtain ⟨c0, c1, c2, -, -, z0⟩ := HBa.out.cells
      obtain ⟨d0, d1, d2, -, -, z1⟩ := HBb.out.cells
      go_wp2_with fail
      refine (HO.out V4 HE.out).mono ?_
      rintro r W5 ⟨rfl, hE5⟩
      have HE := hide (HE.out.trans hE5)
      have HBa := hide (HBa.out.ext hE5)
      have HBb := hide (HBb.out.ext hE5)
      clear hE5 c0 c1 c2 d0 d1 d2 z0 z1
      by_cases h0 : x.inp = y.inp
      case neg =>
        have hd : (ordL x.inp y.inp != 0) = true := by rw [bne_iff_ne]; exact fun e => h0 (ordL_zero.1 e)
        have HR := hide (HX.out (fun e => h0 (by rw [e])))
        clear h0
        go_wp2_with fail
        go_ret
        exact ⟨ret_bool HR.out.symm, HE2.out.trans HE.out⟩
      case pos =>
      have hd : (ordL x.inp y.inp != 0) = false := by rw [bne_eq_false_iff_eq]; exact ordL_zero.2 h0
      have H0 := hide h0
      clear h0
      obtain ⟨c0, c1, c2, -, -, z0⟩ := HBa.out.cells
      obtain ⟨d0, d1, d2, -, -, z1⟩ := HBb.out.cells
      go_wp2_with fail
      refine (HV1.out W5 HE.out).mono ?_
      rintro r W6 ⟨rfl, hE6⟩
      have HE := hide (HE.out.trans hE6)
      have HBa := hide (HBa.out.ext hE6)
      have HBb := hide (HBb.out.ext hE6)
      clear hE6 c0 c1 c2 d0 d1 d2 z0 z1 hd
      by_cases h1 : x.out = y.out
      case neg =>
        rw [show decide (x.out = y.out) = false from decide_eq_false h1]
        have HR := hide (HX.out (fun e => h1 (by rw [e])))
        clear h1
        go_wp2_with fail
        go_ret
        exact ⟨ret_bool HR.out.symm, HE2.out.trans HE.out⟩
      case pos =>
      rw [show decide (x.out = y.out) = true from decide_eq_true h1]
      have H1 := hide h1
      clear h1
      obtain ⟨c0, c1, c2, -, -, z0⟩ := HBa.out.cells
      obtain ⟨d0, d1, d2, -, -, z1⟩ := HBb.out.cells
      go_wp2_with fail
      refine (HV2.out W6 HE.out).mono ?_
      rintro r W7 ⟨rfl, hE7⟩
      have HE := hide (HE.out.trans hE7)
      clear hE7 c0 c1 c2 d0 d1 d2 z0 z1 HBa HBb
      by_cases h2 : x.calm = y.calm
      case neg =>
        rw [show decide (x.calm = y.calm) = false from decide_eq_false h2]
        have HR := hide (HX.out (fun e => h2 (by rw [e])))
        clear h2
        go_wp2_with fail
        go_ret
        exact ⟨ret_bool HR.out.symm, HE2.out.trans HE.out⟩
      case pos =>
      rw [show decide (x.calm = y.calm) = true from decide_eq_true h2]
      have HR := hide (HN.out (cs_ext H0.out H1.out h2))
      clear h2
      go_wp2_with fail
      go_roundw
      case rel => exact ⟨i + 1, by omega, by go_num, HR.out, HE.out⟩
      case measure => simp [intOf]; omega
    · obtain rfl : i = cs.length := by omega
      have HR := hide (HEQ.out HJ.out)
      go_wp2_with fail
      go_ret
      exact ⟨ret_bool HR.out.symm, HE2.out.trans HE.out⟩
end Go.Proofs.YthkididgbaamcaaGreatDoor
