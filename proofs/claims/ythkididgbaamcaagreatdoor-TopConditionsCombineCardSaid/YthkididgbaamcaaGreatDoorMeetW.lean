/-
  The walk of TopConditionsCombine.
  Conditions: the table expr.rows lies in the heap.
-/
import Derived.Test.YthkididgbaamcaaGreatDoorMeetP
import Derived.Test.YthkididgbaamcaaGreatDoorTop07C
namespace Go.Proofs.YthkididgbaamcaaGreatDoor
open Go.RowKit
attribute [local go_sem] Oper.semAt_some

theorem exBut_of' {w : World} {v : Value} {e : Ex} (h : ExAt w v e) : ExBut (fun _ => False) w v e := by
  intro W hz hk
  induction h with
  | mk op num xs p c ss b o hc hl hp hcell hsub ih =>
    refine .mk op num xs p c ss b o hc hl (fun h => ⟨(hp h).1, Nat.lt_of_lt_of_le (hp h).2 hz⟩) (fun i hi => ?_) ih
    obtain ⟨h1, h2, h3⟩ := hcell i hi
    have hb := (hp (by omega)).2
    have hB := hk b (fun h => h) hb
    exact ⟨(World.cell?_of_block (a := ⟨b, _, none⟩) hB).trans h1, (World.cell?_of_block (a := ⟨b, _, none⟩) hB).trans h2, (World.cell?_of_block (a := ⟨b, _, none⟩) hB).trans h3⟩
/-- A store into a result's cells leaves a task that lay before it as it lay. -/
theorem tk_store {W : World} {g : Nat} {a b c : Int} {q : Option Addr} {m k : Nat} {v : Value} {T : Tk} (hB : TBox W g (.int .i64 a) (.int .i64 b) (.int .i64 c) (.slice q m k)) (hu : TkAt W v T) (v0 v1 v2 v3 : Value) :
    TkAt ((((W.setCell ⟨g, 0, none⟩ v0).setCell ⟨g, 1, none⟩ v1).setCell ⟨g, 2, none⟩ v2).setCell ⟨g, 3, none⟩ v3) v T := by
  obtain ⟨u, vs, rfl, hl, ⟨p, cc, rfl, hc, hm, hp⟩, hcs⟩ := hu
  refine ⟨_, vs, rfl, hl, ⟨p, cc, rfl, hc, hm, fun h0 => ?_⟩, fun i t c ht hc => (hcs i t c ht hc).stay (hB.stay4 _ _ _ _)⟩
  obtain ⟨bb, o, rfl, hb, hat⟩ := hp h0
  have hne : bb ≠ g := by
    rintro rfl
    have ht : vs[0]? = some vs[0] := List.getElem?_eq_getElem h0
    have hd : T.cs[0]? = some (T.cs[0]'(by omega)) := List.getElem?_eq_getElem _
    obtain ⟨q0, k0, e0, -⟩ := (hcs 0 _ _ ht hd).inp.1.int_all
    have h1 := hat 0 _ ht 0 _ rfl
    have h2 := hat 0 _ ht 1 _ rfl
    rw [decl_cells hB] at h1 h2
    rw [e0] at h1
    simp only [Nat.zero_mul, Nat.add_zero] at h1 h2
    match o, h1, h2 with
    | 0, h1, _ => simp at h1
    | 1, h1, _ => simp at h1
    | 2, h1, _ => simp at h1
    | 3, _, h2 => simp at h2
    | o + 4, h1, _ => simp at h1
  refine ⟨bb, o, rfl, by simpa using hb, fun i x hx j u hu => ?_⟩
  have hh : ((((W.setCell ⟨g, 0, none⟩ v0).setCell ⟨g, 1, none⟩ v1).setCell ⟨g, 2, none⟩ v2).setCell ⟨g, 3, none⟩ v3).heap[bb]? = W.heap[bb]? :=
    (Below.heap_setCell _ _ _ _ hne).trans ((Below.heap_setCell _ _ _ _ hne).trans ((Below.heap_setCell _ _ _ _ hne).trans (Below.heap_setCell _ _ _ _ hne)))
  exact (World.cell?_of_block (a := ⟨bb, _, none⟩) hh).trans (hat i x hx j u hu)
def tobj0 : Obj := .cells #[.int .i64 0, .int .i64 0, .int .i64 0, .slice none 0 0] 33
set_option maxRecDepth 16000 in
set_option maxHeartbeats 2000000 in
/-- The law's own closure: the task of a condition on decisions. -/
theorem pmk_any (N Mi Mo : Nat) (sm : Small N Mi Mo) (e : Ex) (v : Value) (bm bi bo : Nat) (w : World) (hT : Tab w) (hv : ExAt w v e) (hno : e.nodes ≤ 100000) (hm : IBox w bm N) (hi : IBox w bi Mi) (ho : IBox w bo Mo) :
    Calls Tryz.prog 8 #[v, .pointer (some ⟨bm, 0, none⟩), .pointer (some ⟨bi, 0, none⟩), .pointer (some ⟨bo, 0, none⟩)] w
      (RetV2 (fun u w' => TkAt w' u (taskS N (dcOf Mi Mo e)).1) (taskS N (dcOf Mi Mo e)).2 w) := by
  obtain ⟨p, c, rfl, hc, hl⟩ := hv.form
  have HPT : Hid (∀ W, Ext w W → Calls Tryz.prog 9 #[.int .i64 N, .agg #[.string { data := #[] }, .int .i64 Mi, .int .i64 Mo, .int .i64 0, .int .i64 0, .slice none 0 0, .int .i64 e.op, .int .i64 e.num, .slice p e.args.length c, .int .i64 0, .int .i64 0, .slice none 0 0]] W
      (RetV2 (fun u w' => TkAt w' u (taskS N (dcOf Mi Mo e)).1) (taskS N (dcOf Mi Mo e)).2 W)) := fun W hW =>
    ptask_any N (dcOf Mi Mo e) _ W (hT.ext hW) ⟨_, none, 0, p, c, none, 0, rfl, exAt_zero _ _ _, hv.ext hW, exAt_zero _ _ _⟩ (show noE.nodes ≤ 100000 by decide) hno (show noE.nodes ≤ 100000 by decide) sm.v1 sm.v2
  obtain ⟨w2, hw2⟩ : ∃ w2, (w.alloc (.cells #[.int .i64 e.op, .int .i64 e.num, .slice p e.args.length c] 25)).alloc (.cells #[.int .i64 0, .int .i64 0, .int .i64 0, .slice none 0 0] 33) = w2 := ⟨_, rfl⟩
  have HE : Hid (Ext w w2) := by show Ext _ _; rw [← hw2]; exact ((Ext.refl w).alloc _).alloc _
  have HB : Hid (TBox w2 (w.heap.size + 1) (.int .i64 0) (.int .i64 0) (.int .i64 0) (.slice none 0 0)) := by
    show _ = _
    rw [← hw2]
    have := heap_alloc_new (w.alloc (.cells #[.int .i64 e.op, .int .i64 e.num, .slice p e.args.length c] 25)) (.cells #[.int .i64 0, .int .i64 0, .int .i64 0, .slice none 0 0] 33)
    rwa [World.size_alloc] at this
  have HX : Hid (w2.heap[w.heap.size]? = some (.cells #[.int .i64 e.op, .int .i64 e.num, .slice p e.args.length c] 25 (0, 0))) := by
    show _ = _
    rw [← hw2, Below.heap_alloc _ _ _ (by simp)]
    exact heap_alloc_new w _
  have HW2 := hide hw2
  have hbm := hide (HE.out.b.block _ (lt_of_heap hm) |>.trans hm)
  have hbi := hide (HE.out.b.block _ (lt_of_heap hi) |>.trans hi)
  have hbo := hide (HE.out.b.block _ (lt_of_heap ho) |>.trans ho)
  have m0 : w2.cell? ⟨bm, 0, none⟩ = some (.int .i64 N) := decl_cells hbm.out 0
  have m1 : w2.cell? ⟨bi, 0, none⟩ = some (.int .i64 Mi) := decl_cells hbi.out 0
  have m2 : w2.cell? ⟨bo, 0, none⟩ = some (.int .i64 Mo) := decl_cells hbo.out 0
  have z0 := lt_of_heap hbm.out
  have z1 := lt_of_heap hbi.out
  have z2 := lt_of_heap hbo.out
  obtain ⟨x0, x1, x2, xz⟩ := xbox3 HX.out (Ext.refl _)
  clear hv hm hi ho hw2 hT hno hc hl
  generalize taskS N (dcOf Mi Mo e) = res at HPT ⊢
  go_enter Tryz.func8, Tryz.ntmps8
  rw [← HW2.out] at m0 m1 m2 z0 z1 z2 x0 x1 x2 xz
  go_wp2_with fail
  rw [HW2.out]
  refine (HPT.out _ HE.out).mono ?_
  rintro e' w3 ⟨u, rfl, hu, hE3⟩
  have HB3 := hide (HB.out.ext hE3)
  have HE3 := hide (HE.out.trans hE3)
  have HU := hide hu
  obtain ⟨su, vs, rfl, -, ⟨ps, cc, rfl, -⟩, -⟩ := hu
  obtain ⟨b0, b1, b2, b3⟩ := HB3.out.cells
  obtain ⟨f0, f1, f2, f3⟩ := HB3.out.frozen
  have hz := lt_of_heap HB3.out
  clear hE3 m0 m1 m2 z0 z1 z2 x0 x1 x2 xz
  go_wp2_with fail
  refine leave_task rfl rfl rfl rfl (HB3.out.store _ _ _ _) ?_
  refine ⟨_, rfl, ?_, ext_store4 HE3.out (by omega) _ _ _ _⟩
  exact tk_store HB3.out HU.out _ _ _ _
theorem tkOf_lens {N Mi Mo : Nat} {f : List Int → List (List Int)} (h : ∀ x, (f x).length ≤ 100) : ∀ c ∈ (tkOf N Mi Mo f).cs, c.out.length ≤ 17592186044416 ∧ c.calm.length ≤ 17592186044416 := by
  intro c hc
  obtain ⟨x, _, rfl⟩ := List.mem_map.1 (show c ∈ (vecs Mi N).map _ from hc)
  have := h x
  exact ⟨by show (f x).length ≤ _; omega, Nat.zero_le _⟩
theorem meet_lens {N Mi Mo : Nat} {f g : List Int → List (List Int)} (hf : PlainTk N Mi Mo f) : ∀ c ∈ (meetS N Mi Mo f g).1.cs, c.out.length ≤ 17592186044416 ∧ c.calm.length ≤ 17592186044416 := by
  unfold meetS
  split
  · intro c hc; cases hc
  · exact tkOf_lens fun x => (meetL_row hf x).1
def SzBox (W : World) (b : Nat) (x y : Int) : Prop := W.heap[b]? = some (.cells #[.int .u8 x, .int .u8 y] 22 (0, 0))
theorem SzBox.ext {W W' : World} {b : Nat} {x y : Int} (h : SzBox W b x y) (hE : Ext W W') : SzBox W' b x y := (hE.b.block _ (lt_of_heap h)).trans h
def ELBox (W : World) (b : Nat) (e0 e1 : Ex) (p0 : Option Addr) (c0 : Nat) (p1 : Option Addr) (c1 : Nat) : Prop :=
  W.heap[b]? = some (.cells #[.int .i64 e0.op, .int .i64 e0.num, .slice p0 e0.args.length c0, .int .i64 e1.op, .int .i64 e1.num, .slice p1 e1.args.length c1] 26 (0, 0))
theorem ELBox.ext {W W' : World} {b : Nat} {e0 e1 : Ex} {p0 : Option Addr} {c0 : Nat} {p1 : Option Addr} {c1 : Nat} (h : ELBox W b e0 e1 p0 c0 p1 c1) (hE : Ext W W') : ELBox W' b e0 e1 p0 c0 p1 c1 := (hE.b.block _ (lt_of_heap h)).trans h
theorem SzBox.other {W : World} {b g : Nat} {x y : Int} (h : SzBox W b x y) (hne : b ≠ g) (v : Value) : SzBox (W.setCell ⟨g, 0, none⟩ v) b x y := (Below.heap_setCell _ _ _ _ hne).trans h
theorem ELBox.other {W : World} {b g : Nat} {e0 e1 : Ex} {p0 : Option Addr} {c0 : Nat} {p1 : Option Addr} {c1 : Nat} (h : ELBox W b e0 e1 p0 c0 p1 c1) (hne : b ≠ g) (v : Value) : ELBox (W.setCell ⟨g, 0, none⟩ v) b e0 e1 p0 c0 p1 c1 := (Below.heap_setCell _ _ _ _ hne).trans h
theorem IBox.put {W : World} {b : Nat} {m : Int} (h : IBox W b m) (v : Int) : IBox (W.setCell ⟨b, 0, none⟩ (.int .i64 v)) b v := heap_set h _
theorem IBox.otherB {W : World} {b g : Nat} {m : Int} (h : IBox W b m) (hne : b ≠ g) (v : Value) : IBox (W.setCell ⟨g, 0, none⟩ v) b m := (Below.heap_setCell _ _ _ _ hne).trans h
theorem IBox.extB {W W' : World} {b : Nat} {m : Int} (h : IBox W b m) (hE : Ext W W') : IBox W' b m := (hE.b.block _ (lt_of_heap h)).trans h
theorem ELBox.cells {W : World} {b : Nat} {e0 e1 : Ex} {p0 : Option Addr} {c0 : Nat} {p1 : Option Addr} {c1 : Nat} (h : ELBox W b e0 e1 p0 c0 p1 c1) : (W.cell? ⟨b, 0, none⟩ = some (.int .i64 e0.op) ∧ W.cell? ⟨b, 1, none⟩ = some (.int .i64 e0.num) ∧ W.cell? ⟨b, 2, none⟩ = some (.slice p0 e0.args.length c0)) ∧
    (W.cell? ⟨b, 3, none⟩ = some (.int .i64 e1.op) ∧ W.cell? ⟨b, 4, none⟩ = some (.int .i64 e1.num) ∧ W.cell? ⟨b, 5, none⟩ = some (.slice p1 e1.args.length c1)) ∧ b < W.heap.size :=
  ⟨⟨decl_cells h 0, decl_cells h 1, decl_cells h 2⟩, ⟨decl_cells h 3, decl_cells h 4, decl_cells h 5⟩, lt_of_heap h⟩
set_option maxRecDepth 16000 in
set_option maxHeartbeats 4000000 in
theorem combine_law (a x y : Nat) (ha : a < 256) (hx : x < 256) (hy : y < 256) (e0 e1 : Ex) (p0 : Option Addr) (c0 : Nat) (p1 : Option Addr) (c1 : Nat) (w : World) (hT : Tab w)
    (h0 : ExAt w (.agg #[.int .i64 e0.op, .int .i64 e0.num, .slice p0 e0.args.length c0]) e0) (h1 : ExAt w (.agg #[.int .i64 e1.op, .int .i64 e1.num, .slice p1 e1.args.length c1]) e1) :
    Calls Tryz.prog 3 #[.int .u8 a, .agg #[.int .u8 x, .int .u8 y], .agg #[.int .i64 e0.op, .int .i64 e0.num, .slice p0 e0.args.length c0, .int .i64 e1.op, .int .i64 e1.num, .slice p1 e1.args.length c1]] w
      fun r w' => r = .returned (.bool true) ∧ Ext w w' := by
  have HT := hide hT
  have HXA := hide h0
  have HXB := hide h1
  have HFA := hide (fun W (hW : Ext w W) => rfew_ex e0 _ W (h0.ext hW))
  have HFB := hide (fun W (hW : Ext w W) => rfew_ex e1 _ W (h1.ext hW))
  have HTW := hide (fun op W (hW : Ext w W) => mktwo_any (fun _ => False) op e0 e1 _ _ W (fun _ h => h.elim) (exBut_of' (h0.ext hW)) (exBut_of' (h1.ext hW)))
  have ha0 : (0 : Int) ≤ (a : Int) := by omega
  have ha1 : (a : Int) ≤ 255 := by omega
  have hx0 : (0 : Int) ≤ (x : Int) := by omega
  have hx1 : (x : Int) ≤ 255 := by omega
  have hy0 : (0 : Int) ≤ (y : Int) := by omega
  have hy1 : (y : Int) ≤ 255 := by omega
  clear hT h0 h1
  obtain ⟨w2, hw2⟩ : ∃ w2, (w.alloc (.cells #[.int .u8 x, .int .u8 y] 22)).alloc (.cells #[.int .i64 e0.op, .int .i64 e0.num, .slice p0 e0.args.length c0, .int .i64 e1.op, .int .i64 e1.num, .slice p1 e1.args.length c1] 26) = w2 := ⟨_, rfl⟩
  have HE : Hid (Ext w w2) := by show Ext _ _; rw [← hw2]; exact ((Ext.refl w).alloc _).alloc _
  have HSZ : Hid (SzBox w2 w.heap.size x y) := by
    show _ = _
    rw [← hw2, Below.heap_alloc _ _ _ (by simp)]
    exact heap_alloc_new w _
  have HEL : Hid (ELBox w2 (w.heap.size + 1) e0 e1 p0 c0 p1 c1) := by
    show _ = _
    rw [← hw2]
    have := heap_alloc_new (w.alloc (.cells #[.int .u8 x, .int .u8 y] 22)) (.cells #[.int .i64 e0.op, .int .i64 e0.num, .slice p0 e0.args.length c0, .int .i64 e1.op, .int .i64 e1.num, .slice p1 e1.args.length c1] 26)
    rwa [World.size_alloc] at this
  have HW2 := hide hw2
  clear hw2
  go_enter Tryz.func3, Tryz.ntmps3
  go_wp2_with fail
  rw [HW2.out]
  refine (awake07_any w2 (HT.out.ext HE.out)).mono ?_
  rintro e w3 ⟨rfl, hE3⟩
  have HSZ := hide (HSZ.out.ext hE3)
  have HEL := hide (HEL.out.ext hE3)
  have HE := hide (HE.out.trans hE3)
  clear hE3 HW2
  go_wp2_with fail
  refine wp_region_heldAll (fun V => SzBox V w.heap.size x y) (by kernel_rfl) ?_
  intro W4 hW4
  have HE := hide (show Ext w W4 by rw [hW4]; exact HE.out.drew)
  have hS : SzBox W4 w.heap.size x y := by rw [hW4]; exact HSZ.out.ext (Ext.refl _).drew
  have HEL := hide (show ELBox W4 (w.heap.size + 1) e0 e1 p0 c0 p1 c1 by rw [hW4]; exact HEL.out.ext (Ext.refl _).drew)
  clear hW4 HSZ
  refine wpAnyT_take (i := 0) (.int .u8 a) rfl (by kernel_rfl) (by kernel_rfl) (by kernel_rfl) (by simp [Region.wanted]) (fun V hV => by
    have s0 : V.cell? ⟨w.heap.size, 0, none⟩ = some (.int .u8 x) := decl_cells hV 0
    have s1 : V.cell? ⟨w.heap.size, 1, none⟩ = some (.int .u8 y) := decl_cells hV 1
    have sz := lt_of_heap hV
    go_simp) hS ?_
  try simp only [Act.put, List.getElem_toArray, List.getElem_cons_zero, List.setIfInBounds_toArray, List.set_cons_zero, List.set_cons_succ]
  refine wpAnyT_take (i := 1) (.int .u8 ((a : Int) % 2)) rfl (by kernel_rfl) (by kernel_rfl) (by kernel_rfl) (by simp [Region.wanted]) (fun V hV => by
    have s0 : V.cell? ⟨w.heap.size, 0, none⟩ = some (.int .u8 x) := decl_cells hV 0
    have s1 : V.cell? ⟨w.heap.size, 1, none⟩ = some (.int .u8 y) := decl_cells hV 1
    have sz := lt_of_heap hV
    go_simp
    all_goals first | exact Int.tmod_eq_emod_of_nonneg (by omega) | (simp [IntKind.wrap, IntKind.bits, IntKind.signed]; omega)) hS ?_
  try simp only [Act.put, List.getElem_toArray, List.getElem_cons_zero, List.getElem_cons_succ, List.setIfInBounds_toArray, List.set_cons_zero, List.set_cons_succ]
  refine wpAnyT_take (i := 2) (.int .i64 ((a : Int) % 2)) rfl (by kernel_rfl) (by kernel_rfl) (by kernel_rfl) (by simp [Region.wanted]) (fun V hV => by
    have s0 : V.cell? ⟨w.heap.size, 0, none⟩ = some (.int .u8 x) := decl_cells hV 0
    have s1 : V.cell? ⟨w.heap.size, 1, none⟩ = some (.int .u8 y) := decl_cells hV 1
    have sz := lt_of_heap hV
    go_simp
    all_goals first | exact Int.tmod_eq_emod_of_nonneg (by omega) | (simp [IntKind.wrap, IntKind.bits, IntKind.signed]; omega)) hS ?_
  try simp only [Act.put, List.getElem_toArray, List.getElem_cons_zero, List.getElem_cons_succ, List.setIfInBounds_toArray, List.set_cons_zero, List.set_cons_succ]
  refine wpAnyT_take (i := 3) (.int .i64 (1 + (a : Int) % 2)) rfl (by kernel_rfl) (by kernel_rfl) (by kernel_rfl) (by simp [Region.wanted]) (fun V hV => by
    have s0 : V.cell? ⟨w.heap.size, 0, none⟩ = some (.int .u8 x) := decl_cells hV 0
    have s1 : V.cell? ⟨w.heap.size, 1, none⟩ = some (.int .u8 y) := decl_cells hV 1
    have sz := lt_of_heap hV
    go_simp
    all_goals first | exact Int.tmod_eq_emod_of_nonneg (by omega) | (simp [IntKind.wrap, IntKind.bits, IntKind.signed]; omega)) hS ?_
  try simp only [Act.put, List.getElem_toArray, List.getElem_cons_zero, List.getElem_cons_succ, List.setIfInBounds_toArray, List.set_cons_zero, List.set_cons_succ]
  refine wpAnyT_take (i := 4) (.pointer (some ⟨w.heap.size, 0, none⟩)) rfl (by kernel_rfl) (by kernel_rfl) (by kernel_rfl) (by simp [Region.wanted]) (fun V hV => by
    have s0 : V.cell? ⟨w.heap.size, 0, none⟩ = some (.int .u8 x) := decl_cells hV 0
    have s1 : V.cell? ⟨w.heap.size, 1, none⟩ = some (.int .u8 y) := decl_cells hV 1
    have sz := lt_of_heap hV
    go_simp) hS ?_
  try simp only [Act.put, List.getElem_toArray, List.getElem_cons_zero, List.getElem_cons_succ, List.setIfInBounds_toArray, List.set_cons_zero, List.set_cons_succ]
  refine wpAnyT_take (i := 5) (.int .u8 x) rfl (by kernel_rfl) (by kernel_rfl) (by kernel_rfl) (by simp [Region.wanted]) (fun V hV => by
    have s0 : V.cell? ⟨w.heap.size, 0, none⟩ = some (.int .u8 x) := decl_cells hV 0
    have s1 : V.cell? ⟨w.heap.size, 1, none⟩ = some (.int .u8 y) := decl_cells hV 1
    have sz := lt_of_heap hV
    go_simp) hS ?_
  try simp only [Act.put, List.getElem_toArray, List.getElem_cons_zero, List.getElem_cons_succ, List.setIfInBounds_toArray, List.set_cons_zero, List.set_cons_succ]
  refine wpAnyT_take (i := 6) (.int .u8 ((x : Int) % 2)) rfl (by kernel_rfl) (by kernel_rfl) (by kernel_rfl) (by simp [Region.wanted]) (fun V hV => by
    have s0 : V.cell? ⟨w.heap.size, 0, none⟩ = some (.int .u8 x) := decl_cells hV 0
    have s1 : V.cell? ⟨w.heap.size, 1, none⟩ = some (.int .u8 y) := decl_cells hV 1
    have sz := lt_of_heap hV
    go_simp
    all_goals first | exact Int.tmod_eq_emod_of_nonneg (by omega) | (simp [IntKind.wrap, IntKind.bits, IntKind.signed]; omega)) hS ?_
  try simp only [Act.put, List.getElem_toArray, List.getElem_cons_zero, List.getElem_cons_succ, List.setIfInBounds_toArray, List.set_cons_zero, List.set_cons_succ]
  refine wpAnyT_take (i := 7) (.int .i64 ((x : Int) % 2)) rfl (by kernel_rfl) (by kernel_rfl) (by kernel_rfl) (by simp [Region.wanted]) (fun V hV => by
    have s0 : V.cell? ⟨w.heap.size, 0, none⟩ = some (.int .u8 x) := decl_cells hV 0
    have s1 : V.cell? ⟨w.heap.size, 1, none⟩ = some (.int .u8 y) := decl_cells hV 1
    have sz := lt_of_heap hV
    go_simp
    all_goals first | exact Int.tmod_eq_emod_of_nonneg (by omega) | (simp [IntKind.wrap, IntKind.bits, IntKind.signed]; omega)) hS ?_
  try simp only [Act.put, List.getElem_toArray, List.getElem_cons_zero, List.getElem_cons_succ, List.setIfInBounds_toArray, List.set_cons_zero, List.set_cons_succ]
  refine wpAnyT_take (i := 8) (.int .i64 (1 + (x : Int) % 2)) rfl (by kernel_rfl) (by kernel_rfl) (by kernel_rfl) (by simp [Region.wanted]) (fun V hV => by
    have s0 : V.cell? ⟨w.heap.size, 0, none⟩ = some (.int .u8 x) := decl_cells hV 0
    have s1 : V.cell? ⟨w.heap.size, 1, none⟩ = some (.int .u8 y) := decl_cells hV 1
    have sz := lt_of_heap hV
    go_simp
    all_goals first | exact Int.tmod_eq_emod_of_nonneg (by omega) | (simp [IntKind.wrap, IntKind.bits, IntKind.signed]; omega)) hS ?_
  try simp only [Act.put, List.getElem_toArray, List.getElem_cons_zero, List.getElem_cons_succ, List.setIfInBounds_toArray, List.set_cons_zero, List.set_cons_succ]
  refine wpAnyT_take (i := 9) (.pointer (some ⟨w.heap.size, 1, none⟩)) rfl (by kernel_rfl) (by kernel_rfl) (by kernel_rfl) (by simp [Region.wanted]) (fun V hV => by
    have s0 : V.cell? ⟨w.heap.size, 0, none⟩ = some (.int .u8 x) := decl_cells hV 0
    have s1 : V.cell? ⟨w.heap.size, 1, none⟩ = some (.int .u8 y) := decl_cells hV 1
    have sz := lt_of_heap hV
    go_simp) hS ?_
  try simp only [Act.put, List.getElem_toArray, List.getElem_cons_zero, List.getElem_cons_succ, List.setIfInBounds_toArray, List.set_cons_zero, List.set_cons_succ]
  refine wpAnyT_take (i := 10) (.int .u8 y) rfl (by kernel_rfl) (by kernel_rfl) (by kernel_rfl) (by simp [Region.wanted]) (fun V hV => by
    have s0 : V.cell? ⟨w.heap.size, 0, none⟩ = some (.int .u8 x) := decl_cells hV 0
    have s1 : V.cell? ⟨w.heap.size, 1, none⟩ = some (.int .u8 y) := decl_cells hV 1
    have sz := lt_of_heap hV
    go_simp) hS ?_
  try simp only [Act.put, List.getElem_toArray, List.getElem_cons_zero, List.getElem_cons_succ, List.setIfInBounds_toArray, List.set_cons_zero, List.set_cons_succ]
  refine wpAnyT_take (i := 11) (.int .u8 ((y : Int) % 3)) rfl (by kernel_rfl) (by kernel_rfl) (by kernel_rfl) (by simp [Region.wanted]) (fun V hV => by
    have s0 : V.cell? ⟨w.heap.size, 0, none⟩ = some (.int .u8 x) := decl_cells hV 0
    have s1 : V.cell? ⟨w.heap.size, 1, none⟩ = some (.int .u8 y) := decl_cells hV 1
    have sz := lt_of_heap hV
    go_simp
    all_goals first | exact Int.tmod_eq_emod_of_nonneg (by omega) | (simp [IntKind.wrap, IntKind.bits, IntKind.signed]; omega)) hS ?_
  try simp only [Act.put, List.getElem_toArray, List.getElem_cons_zero, List.getElem_cons_succ, List.setIfInBounds_toArray, List.set_cons_zero, List.set_cons_succ]
  refine wpAnyT_take (i := 12) (.int .i64 ((y : Int) % 3)) rfl (by kernel_rfl) (by kernel_rfl) (by kernel_rfl) (by simp [Region.wanted]) (fun V hV => by
    have s0 : V.cell? ⟨w.heap.size, 0, none⟩ = some (.int .u8 x) := decl_cells hV 0
    have s1 : V.cell? ⟨w.heap.size, 1, none⟩ = some (.int .u8 y) := decl_cells hV 1
    have sz := lt_of_heap hV
    go_simp
    all_goals first | exact Int.tmod_eq_emod_of_nonneg (by omega) | (simp [IntKind.wrap, IntKind.bits, IntKind.signed]; omega)) hS ?_
  try simp only [Act.put, List.getElem_toArray, List.getElem_cons_zero, List.getElem_cons_succ, List.setIfInBounds_toArray, List.set_cons_zero, List.set_cons_succ]
  refine wpAnyT_take (i := 13) (.int .i64 (1 + (y : Int) % 3)) rfl (by kernel_rfl) (by kernel_rfl) (by kernel_rfl) (by simp [Region.wanted]) (fun V hV => by
    have s0 : V.cell? ⟨w.heap.size, 0, none⟩ = some (.int .u8 x) := decl_cells hV 0
    have s1 : V.cell? ⟨w.heap.size, 1, none⟩ = some (.int .u8 y) := decl_cells hV 1
    have sz := lt_of_heap hV
    go_simp
    all_goals first | exact Int.tmod_eq_emod_of_nonneg (by omega) | (simp [IntKind.wrap, IntKind.bits, IntKind.signed]; omega)) hS ?_
  try simp only [Act.put, List.getElem_toArray, List.getElem_cons_zero, List.getElem_cons_succ, List.setIfInBounds_toArray, List.set_cons_zero, List.set_cons_succ]
  refine wpAnyT_news3 (i := 14) (j := 15) (k := 16) (d1 := 7) (d2 := 8) (d3 := 9) (ob := .cells #[.int .i64 0] 3) rfl rfl rfl rfl rfl rfl rfl rfl rfl (by decide) (by decide) (by kernel_rfl) (by kernel_rfl) (by kernel_rfl) (by kernel_rfl) (by kernel_rfl) (by kernel_rfl) (by kernel_rfl)
    (fun _ _ => by go_simp) (fun _ _ => by go_simp) (fun _ _ => by go_simp) (fun _ hE => hS.ext hE) (fun V ga gb gc hN => ?_)
  try simp only [List.setIfInBounds_toArray, List.set_cons_zero, List.set_cons_succ]
  obtain ⟨N, hN'⟩ : ∃ N : Nat, 1 + (a : Int) % 2 = (N : Int) := ⟨1 + a % 2, by omega⟩
  obtain ⟨Mi, hMi⟩ : ∃ M : Nat, 1 + (x : Int) % 2 = (M : Int) := ⟨1 + x % 2, by omega⟩
  obtain ⟨Mo, hMo⟩ : ∃ M : Nat, 1 + (y : Int) % 3 = (M : Int) := ⟨1 + y % 3, by omega⟩
  have SM : Hid (Small N Mi Mo) := ⟨by omega, by omega, by omega, by omega, by omega, by omega⟩
  rw [hN', hMi, hMo]
  clear hN' hMi hMo ha0 ha1 hx0 hx1 hy0 hy1 ha hx hy
  have HN := hide (And.intro hN.n12 (And.intro hN.n13 hN.n23))
  have hwW := HE.out.size
  have HL := hide (show w.heap.size ≤ ga ∧ w.heap.size ≤ gb ∧ w.heap.size ≤ gc from ⟨by have := hN.l1; omega, by have := hN.l2; omega, by have := hN.l3; omega⟩)
  have HE := hide (HE.out.trans hN.ext)
  have HLE : Hid (w.heap.size + 1 < ga ∧ w.heap.size + 1 < gb ∧ w.heap.size + 1 < gc) := by
    have := lt_of_heap HEL.out
    exact ⟨Nat.lt_of_lt_of_le this hN.l1, Nat.lt_of_lt_of_le this hN.l2, Nat.lt_of_lt_of_le this hN.l3⟩
  have HEL := hide (HEL.out.ext hN.ext)
  have HBa : Hid (IBox V ga 0) := hN.b1
  have HBb : Hid (IBox V gb 0) := hN.b2
  have HBc : Hid (IBox V gc 0) := hN.b3
  have HS := hide (hS.ext hN.ext)
  clear hN hwW hS
  have b0 : V.cell? ⟨ga, 0, none⟩ = some (.int .i64 0) := decl_cells HBa.out 0
  have f0 : V.frozen? ⟨ga, 0, none⟩ = false := frozen_of HBa.out
  have z0 := lt_of_heap HBa.out
  refine wpAnyT_one (i := 17) rfl (by kernel_rfl) (fun K hK => ?_)
  go_wp2_with fail
  refine ⟨rfl, hK _ _ (HS.out.other (by have := HLE.out; omega) _) ?_⟩
  clear hK K b0 f0 z0
  have HS := hide (HS.out.other (g := ga) (by have := HLE.out; omega) (.int .i64 (N : Int)))
  have HEL := hide (HEL.out.other (g := ga) (by have := HLE.out; omega) (.int .i64 (N : Int)))
  have HE := hide (HE.out.setCell (p := ⟨ga, 0, none⟩) (show w.heap.size ≤ ga by have := HL.out; omega) (.int .i64 (N : Int)))
  have HBa := hide (HBa.out.put (N : Int))
  have HBb := hide (HBb.out.otherB (g := ga) HN.out.1.symm (.int .i64 (N : Int)))
  have HBc := hide (HBc.out.otherB (g := ga) HN.out.2.1.symm (.int .i64 (N : Int)))
  generalize V.setCell ⟨ga, 0, none⟩ (.int .i64 (N : Int)) = V0 at HS HEL HE HBa HBb HBc ⊢
  try simp only [Act.put, List.getElem_toArray, List.getElem_cons_zero, List.getElem_cons_succ, List.setIfInBounds_toArray, List.set_cons_zero, List.set_cons_succ]
  have b0 : V0.cell? ⟨gb, 0, none⟩ = some (.int .i64 0) := decl_cells HBb.out 0
  have f0 : V0.frozen? ⟨gb, 0, none⟩ = false := frozen_of HBb.out
  have z0 := lt_of_heap HBb.out
  refine wpAnyT_one (i := 18) rfl (by kernel_rfl) (fun K hK => ?_)
  go_wp2_with fail
  refine ⟨rfl, hK _ _ (HS.out.other (by have := HLE.out; omega) _) ?_⟩
  clear hK K b0 f0 z0
  have HS := hide (HS.out.other (g := gb) (by have := HLE.out; omega) (.int .i64 (Mi : Int)))
  have HEL := hide (HEL.out.other (g := gb) (by have := HLE.out; omega) (.int .i64 (Mi : Int)))
  have HE := hide (HE.out.setCell (p := ⟨gb, 0, none⟩) (show w.heap.size ≤ gb by have := HL.out; omega) (.int .i64 (Mi : Int)))
  have HBb := hide (HBb.out.put (Mi : Int))
  have HBa := hide (HBa.out.otherB (g := gb) HN.out.1 (.int .i64 (Mi : Int)))
  have HBc := hide (HBc.out.otherB (g := gb) HN.out.2.2.symm (.int .i64 (Mi : Int)))
  generalize V0.setCell ⟨gb, 0, none⟩ (.int .i64 (Mi : Int)) = V1 at HS HEL HE HBa HBb HBc ⊢
  try simp only [Act.put, List.getElem_toArray, List.getElem_cons_zero, List.getElem_cons_succ, List.setIfInBounds_toArray, List.set_cons_zero, List.set_cons_succ]
  have b0 : V1.cell? ⟨gc, 0, none⟩ = some (.int .i64 0) := decl_cells HBc.out 0
  have f0 : V1.frozen? ⟨gc, 0, none⟩ = false := frozen_of HBc.out
  have z0 := lt_of_heap HBc.out
  refine wpAnyT_one (i := 19) rfl (by kernel_rfl) (fun K hK => ?_)
  go_wp2_with fail
  refine ⟨rfl, hK _ _ (HS.out.other (by have := HLE.out; omega) _) ?_⟩
  clear hK K b0 f0 z0
  have HS := hide (HS.out.other (g := gc) (by have := HLE.out; omega) (.int .i64 (Mo : Int)))
  have HEL := hide (HEL.out.other (g := gc) (by have := HLE.out; omega) (.int .i64 (Mo : Int)))
  have HE := hide (HE.out.setCell (p := ⟨gc, 0, none⟩) (show w.heap.size ≤ gc by have := HL.out; omega) (.int .i64 (Mo : Int)))
  have HBc := hide (HBc.out.put (Mo : Int))
  have HBa := hide (HBa.out.otherB (g := gc) HN.out.2.1 (.int .i64 (Mo : Int)))
  have HBb := hide (HBb.out.otherB (g := gc) HN.out.2.2 (.int .i64 (Mo : Int)))
  generalize V1.setCell ⟨gc, 0, none⟩ (.int .i64 (Mo : Int)) = V2 at HS HEL HE HBa HBb HBc ⊢
  try simp only [Act.put, List.getElem_toArray, List.getElem_cons_zero, List.getElem_cons_succ, List.setIfInBounds_toArray, List.set_cons_zero, List.set_cons_succ]
  refine wpAnyT_done (by kernel_rfl) ?_ _
  clear HS HL HLE HSZ HN
  obtain ⟨⟨c0', c1', c2'⟩, ⟨d0', d1', d2'⟩, ez⟩ := HEL.out.cells
  go_wp2_with fail
  refine (HFA.out _ HE.out).mono ?_
  rintro e w5 ⟨rfl, hE5⟩
  have HEL := hide (HEL.out.ext hE5)
  have HE := hide (HE.out.trans hE5)
  have HBa := hide (HBa.out.extB hE5)
  have HBb := hide (HBb.out.extB hE5)
  have HBc := hide (HBc.out.extB hE5)
  clear hE5 c0' c1' c2' d0' d1' d2' ez
  cases hf0 : efew e0 with
  | false =>
    go_wp2_with fail
    go_ret
    exact ⟨rfl, HE.out⟩
  | true =>
  have HN0 := hide (efew_nodes hf0)
  clear hf0
  obtain ⟨⟨c0', c1', c2'⟩, ⟨d0', d1', d2'⟩, ez⟩ := HEL.out.cells
  go_wp2_with fail
  refine (HFB.out _ HE.out).mono ?_
  rintro e w6 ⟨rfl, hE6⟩
  have HEL := hide (HEL.out.ext hE6)
  have HE := hide (HE.out.trans hE6)
  have HBa := hide (HBa.out.extB hE6)
  have HBb := hide (HBb.out.extB hE6)
  have HBc := hide (HBc.out.extB hE6)
  clear hE6 c0' c1' c2' d0' d1' d2' ez
  cases hf1 : efew e1 with
  | false =>
    go_wp2_with fail
    go_ret
    exact ⟨rfl, HE.out⟩
  | true =>
  have HN1 := hide (efew_nodes hf1)
  clear hf1
  have HNT : Hid (∀ op, (Ex.mk op 0 [e0, e1]).nodes ≤ 100000) := fun op => by
    have h1 := HN0.out
    have h2 := HN1.out
    simp only [Ex.nodes, Ex.nodesL]; omega
  obtain ⟨⟨c0', c1', c2'⟩, ⟨d0', d1', d2'⟩, ez⟩ := HEL.out.cells
  go_wp2_with fail
  refine (HTW.out 10 _ HE.out).mono ?_
  rintro e w7 ⟨ut, rfl, hut, hE7⟩
  have HEL := hide (HEL.out.ext hE7)
  have HE := hide (HE.out.trans hE7)
  have HBa := hide (HBa.out.extB hE7)
  have HBb := hide (HBb.out.extB hE7)
  have HBc := hide (HBc.out.extB hE7)
  have HCD := hide (rcond_any (.mk 10 0 [e0, e1]) 3 ut w7 hut.at_ (HNT.out 10) (by decide))
  obtain ⟨qt, kt, rfl, -⟩ := hut.at_.form
  clear hE7 c0' c1' c2' d0' d1' d2' ez hut
  go_wp2_with fail
  refine HCD.out.mono ?_
  rintro e w8 ⟨rfl, hE8⟩
  have HEL := hide (HEL.out.ext hE8)
  have HE := hide (HE.out.trans hE8)
  have HBa := hide (HBa.out.extB hE8)
  have HBb := hide (HBb.out.extB hE8)
  have HBc := hide (HBc.out.extB hE8)
  clear hE8 HCD
  by_cases hcd : condS (.mk 10 0 [e0, e1]) 3 = 0
  case neg =>
    have hd : (condS (.mk 10 0 [e0, e1]) 3 != 0) = true := by simp [hcd]
    clear hcd
    generalize condS (.mk 10 0 [e0, e1]) 3 = cd at *
    go_wp2_with fail
    go_ret
    exact ⟨rfl, HE.out⟩
  case pos =>
  have HCD := hide hcd
  rw [hcd]
  clear hcd
  obtain ⟨⟨c0', c1', c2'⟩, ⟨d0', d1', d2'⟩, ez⟩ := HEL.out.cells
  have ef8 : ∀ args w, (callFunc 8 args).run Tryz.prog w = .ok (.enter 8 args) w := fun _ _ => by kernel_rfl
  go_wp2_with fail
  obtain ⟨hA, hB⟩ := cond_split (.inl rfl) HCD.out
  have HMK := hide (fun e v W (hW : Ext w W) (hv : ExAt W v e) (hn : e.nodes ≤ 100000) (g1 : IBox W ga N) (g2 : IBox W gb Mi) (g3 : IBox W gc Mo) => pmk_any N Mi Mo SM.out e v ga gb gc W (HT.out.ext hW) hv hn g1 g2 g3)
  have HA0 := hide (fun h => (plain_tk SM.out hA h))
  have HB0 := hide (fun h => (plain_tk SM.out hB h))
  have HA1 := hide (fun h => (task_err SM.out hA h))
  have HB1 := hide (fun h => (task_err SM.out hB h))
  have HMT := hide (task_meet SM.out HCD.out)
  have HJN := hide (fun h => task_join SM.out HCD.out h)
  have HM0 := hide (HMK.out e0 _ w8 HE.out (HXA.out.ext HE.out) (by have := HN0.out; omega) HBa.out HBb.out HBc.out)
  clear c0' c1' c2' d0' d1' d2' ez hA hB
  generalize taskS N (dcOf Mi Mo e0) = T0 at HM0 HA0 HA1
  obtain ⟨t0, k0⟩ := T0
  refine HM0.out.mono ?_
  rintro e w9 ⟨u0, rfl, hu, hE⟩
  have HU0 := hide hu
  obtain ⟨su, vs, rfl, hvl, ⟨ps0, cc0, rfl, -⟩, -⟩ := hu
  have HE := hide (HE.out.trans hE)
  have HEL := hide (HEL.out.ext hE)
  have HBa := hide (HBa.out.extB hE)
  have HBb := hide (HBb.out.extB hE)
  have HBc := hide (HBc.out.extB hE)
  clear hE HM0 hvl
  generalize vs.length = n0 at *
  clear vs
  obtain ⟨⟨c0', c1', c2'⟩, ⟨d0', d1', d2'⟩, ez⟩ := HEL.out.cells
  go_wp2_with fail
  clear c0' c1' c2' d0' d1' d2' ez
  obtain ⟨w10, hwn⟩ : ∃ w10, w9.alloc (.cells #[.int .i64 t0.n, .int .i64 t0.ins, .int .i64 t0.outs, .slice ps0 n0 cc0] 33) = w10 := ⟨_, rfl⟩
  have HX0 : Hid (TBox w10 w9.heap.size (.int .i64 t0.n) (.int .i64 t0.ins) (.int .i64 t0.outs) (.slice ps0 n0 cc0)) := by show _ = _; rw [← hwn]; exact heap_alloc_new _ _
  have hE : Ext w9 w10 := by rw [← hwn]; exact (Ext.refl _).alloc _
  rw [hwn]
  have HE := hide (HE.out.trans hE)
  have HEL := hide (HEL.out.ext hE)
  have HBa := hide (HBa.out.extB hE)
  have HBb := hide (HBb.out.extB hE)
  have HBc := hide (HBc.out.extB hE)
  have HU0 := hide (HU0.out.ext hE)
  clear hE hwn
  have HM1 := hide (HMK.out e1 _ w10 HE.out (HXB.out.ext HE.out) (by have := HN1.out; omega) HBa.out HBb.out HBc.out)
  generalize taskS N (dcOf Mi Mo e1) = T1 at HM1 HB0 HB1
  obtain ⟨t1, k1⟩ := T1
  refine (HM1.out).mono ?_
  rintro e w11 ⟨u1, rfl, hu, hE⟩
  have HE := hide (HE.out.trans hE)
  have HEL := hide (HEL.out.ext hE)
  have HBa := hide (HBa.out.extB hE)
  have HBb := hide (HBb.out.extB hE)
  have HBc := hide (HBc.out.extB hE)
  have HX0 := hide (HX0.out.ext hE)
  have HU0 := hide (HU0.out.ext hE)
  have HU1 := hide hu
  obtain ⟨su, vs, rfl, hvl, ⟨ps1, cc1, rfl, -⟩, -⟩ := hu
  clear hE hvl
  generalize vs.length = n1 at *
  clear vs
  clear HM1
  by_cases hk0 : k0 = 0
  case neg =>
    obtain rfl : k0 = 16 := HA1.out hk0
    clear hk0
    go_wp2_with fail
    go_ret
    exact ⟨rfl, HE.out.alloc _⟩
  case pos =>
  subst hk0
  by_cases hk1 : k1 = 0
  case neg =>
    obtain rfl : k1 = 16 := HB1.out hk1
    clear hk1
    go_wp2_with fail
    go_ret
    exact ⟨rfl, HE.out.alloc _⟩
  case pos =>
  subst hk1
  obtain ⟨ea, hea, hpa⟩ := HA0.out rfl
  obtain ⟨eb, heb, hpb⟩ := HB0.out rfl
  injection ea with ea
  injection eb with eb
  have HTA := hide ea
  have HTB := hide eb
  have HPA := hide hpa
  have HPB := hide hpb
  have HJN := hide (HJN.out hea)
  clear ea eb hpa hpb hea heb HA0 HB0 HA1 HB1
  have HML := hide (meet_lens (g := outL N Mo e1) HPA.out)
  have HJL := hide (tkOf_lens (N := N) (Mi := Mi) (Mo := Mo) fun x => (joinL_row HPA.out HPB.out x).1)
  have HPM := hide (fun v u W (h1 : TkAt W v t0) (h2 : TkAt W u t1) => pmeet_any HPA.out HPB.out v u W (HTA.out ▸ h1) (HTB.out ▸ h2))
  have HPJ := hide (fun v u W (h1 : TkAt W v t0) (h2 : TkAt W u t1) => pjoin_any HPA.out HPB.out v u W (HTA.out ▸ h1) (HTB.out ▸ h2))
  have HJE : Hid (joinS N Mi Mo (outL N Mo e0) (outL N Mo e1) = (tkOf N Mi Mo fun x => joinL (outL N Mo e0 x) (outL N Mo e1 x), 0)) := rfl
  rw [HJE.out] at HJN HPJ
  generalize meetS N Mi Mo (outL N Mo e0) (outL N Mo e1) = RM at HMT HPM HML
  obtain ⟨tm, km⟩ := RM
  generalize (tkOf N Mi Mo fun x => joinL (outL N Mo e0 x) (outL N Mo e1 x)) = tj at HJN HPJ HJL
  clear HJE HPA HPB HTA HTB
  obtain ⟨⟨c0', c1', c2'⟩, ⟨d0', d1', d2'⟩, ez⟩ := HEL.out.cells
  go_wp2_with fail
  clear c0' c1' c2' d0' d1' d2' ez
  obtain ⟨w12, hwn⟩ : ∃ w12, w11.alloc (.cells #[.int .i64 t1.n, .int .i64 t1.ins, .int .i64 t1.outs, .slice ps1 n1 cc1] 33) = w12 := ⟨_, rfl⟩
  have HX1 : Hid (TBox w12 w11.heap.size (.int .i64 t1.n) (.int .i64 t1.ins) (.int .i64 t1.outs) (.slice ps1 n1 cc1)) := by show _ = _; rw [← hwn]; exact heap_alloc_new _ _
  have hE : Ext w11 w12 := by rw [← hwn]; exact (Ext.refl _).alloc _
  rw [hwn]
  have HE := hide (HE.out.trans hE)
  have HEL := hide (HEL.out.ext hE)
  have HBa := hide (HBa.out.extB hE)
  have HBb := hide (HBb.out.extB hE)
  have HBc := hide (HBc.out.extB hE)
  have HX0 := hide (HX0.out.ext hE)
  have HU0 := hide (HU0.out.ext hE)
  have HU1 := hide (HU1.out.ext hE)
  clear hE hwn
  refine (HTW.out 10 _ HE.out).mono ?_
  rintro e w13 ⟨ut, rfl, hut, hE⟩
  have HE := hide (HE.out.trans hE)
  have HEL := hide (HEL.out.ext hE)
  have HBa := hide (HBa.out.extB hE)
  have HBb := hide (HBb.out.extB hE)
  have HBc := hide (HBc.out.extB hE)
  have HX0 := hide (HX0.out.ext hE)
  have HX1 := hide (HX1.out.ext hE)
  have HU0 := hide (HU0.out.ext hE)
  have HU1 := hide (HU1.out.ext hE)
  have HUT := hide hut.at_
  obtain ⟨qt, kt, rfl, -⟩ := hut.at_.form
  clear hE hut
  have HM2 := hide (HMK.out (.mk 10 0 [e0, e1]) _ w13 HE.out HUT.out (HNT.out 10) HBa.out HBb.out HBc.out)
  rw [HMT.out] at HM2
  go_wp2_with fail
  refine (HM2.out).mono ?_
  rintro e w14 ⟨u2, rfl, hu, hE⟩
  have HE := hide (HE.out.trans hE)
  have HEL := hide (HEL.out.ext hE)
  have HBa := hide (HBa.out.extB hE)
  have HBb := hide (HBb.out.extB hE)
  have HBc := hide (HBc.out.extB hE)
  have HX0 := hide (HX0.out.ext hE)
  have HX1 := hide (HX1.out.ext hE)
  have HU0 := hide (HU0.out.ext hE)
  have HU1 := hide (HU1.out.ext hE)
  have HU2 := hide hu
  obtain ⟨su, vs, rfl, hvl, ⟨ps2, cc2, rfl, -⟩, -⟩ := hu
  clear hE hvl
  generalize vs.length = n2 at *
  clear vs
  clear HM2 HUT
  obtain ⟨⟨c0', c1', c2'⟩, ⟨d0', d1', d2'⟩, ez⟩ := HEL.out.cells
  go_wp2_with fail
  clear c0' c1' c2' d0' d1' d2' ez
  obtain ⟨w15, hwn⟩ : ∃ w15, w14.alloc (.cells #[.int .i64 tm.n, .int .i64 tm.ins, .int .i64 tm.outs, .slice ps2 n2 cc2] 33) = w15 := ⟨_, rfl⟩
  have HX2 : Hid (TBox w15 w14.heap.size (.int .i64 tm.n) (.int .i64 tm.ins) (.int .i64 tm.outs) (.slice ps2 n2 cc2)) := by show _ = _; rw [← hwn]; exact heap_alloc_new _ _
  have hE : Ext w14 w15 := by rw [← hwn]; exact (Ext.refl _).alloc _
  rw [hwn]
  have HE := hide (HE.out.trans hE)
  have HEL := hide (HEL.out.ext hE)
  have HBa := hide (HBa.out.extB hE)
  have HBb := hide (HBb.out.extB hE)
  have HBc := hide (HBc.out.extB hE)
  have HX0 := hide (HX0.out.ext hE)
  have HX1 := hide (HX1.out.ext hE)
  have HU0 := hide (HU0.out.ext hE)
  have HU1 := hide (HU1.out.ext hE)
  have HU2 := hide (HU2.out.ext hE)
  clear hE hwn
  refine (HTW.out 11 _ HE.out).mono ?_
  rintro e w16 ⟨ut, rfl, hut, hE⟩
  have HE := hide (HE.out.trans hE)
  have HEL := hide (HEL.out.ext hE)
  have HBa := hide (HBa.out.extB hE)
  have HBb := hide (HBb.out.extB hE)
  have HBc := hide (HBc.out.extB hE)
  have HX0 := hide (HX0.out.ext hE)
  have HX1 := hide (HX1.out.ext hE)
  have HX2 := hide (HX2.out.ext hE)
  have HU0 := hide (HU0.out.ext hE)
  have HU1 := hide (HU1.out.ext hE)
  have HU2 := hide (HU2.out.ext hE)
  have HUT := hide hut.at_
  obtain ⟨qt, kt, rfl, -⟩ := hut.at_.form
  clear hE hut
  have HM3 := hide (HMK.out (.mk 11 0 [e0, e1]) _ w16 HE.out HUT.out (HNT.out 11) HBa.out HBb.out HBc.out)
  rw [HJN.out] at HM3
  go_wp2_with fail
  refine (HM3.out).mono ?_
  rintro e w17 ⟨u3, rfl, hu, hE⟩
  have HE := hide (HE.out.trans hE)
  have HEL := hide (HEL.out.ext hE)
  have HBa := hide (HBa.out.extB hE)
  have HBb := hide (HBb.out.extB hE)
  have HBc := hide (HBc.out.extB hE)
  have HX0 := hide (HX0.out.ext hE)
  have HX1 := hide (HX1.out.ext hE)
  have HX2 := hide (HX2.out.ext hE)
  have HU0 := hide (HU0.out.ext hE)
  have HU1 := hide (HU1.out.ext hE)
  have HU2 := hide (HU2.out.ext hE)
  have HU3 := hide hu
  obtain ⟨su, vs, rfl, hvl, ⟨ps3, cc3, rfl, -⟩, -⟩ := hu
  clear hE hvl
  generalize vs.length = n3 at *
  clear vs
  clear HM3 HUT
  obtain ⟨ta0, ta1, ta2, ta3⟩ := HX0.out.cells
  have taz := lt_of_heap HX0.out
  obtain ⟨tb0, tb1, tb2, tb3⟩ := HX1.out.cells
  have tbz := lt_of_heap HX1.out
  go_wp2_with fail
  clear ta0 ta1 ta2 ta3 taz
  clear tb0 tb1 tb2 tb3 tbz
  obtain ⟨w18, hwn⟩ : ∃ w18, w17.alloc (.cells #[.int .i64 tj.n, .int .i64 tj.ins, .int .i64 tj.outs, .slice ps3 n3 cc3] 33) = w18 := ⟨_, rfl⟩
  have HX3 : Hid (TBox w18 w17.heap.size (.int .i64 tj.n) (.int .i64 tj.ins) (.int .i64 tj.outs) (.slice ps3 n3 cc3)) := by show _ = _; rw [← hwn]; exact heap_alloc_new _ _
  have hE : Ext w17 w18 := by rw [← hwn]; exact (Ext.refl _).alloc _
  rw [hwn]
  have HE := hide (HE.out.trans hE)
  have HEL := hide (HEL.out.ext hE)
  have HBa := hide (HBa.out.extB hE)
  have HBb := hide (HBb.out.extB hE)
  have HBc := hide (HBc.out.extB hE)
  have HX0 := hide (HX0.out.ext hE)
  have HX1 := hide (HX1.out.ext hE)
  have HX2 := hide (HX2.out.ext hE)
  have HU0 := hide (HU0.out.ext hE)
  have HU1 := hide (HU1.out.ext hE)
  have HU2 := hide (HU2.out.ext hE)
  have HU3 := hide (HU3.out.ext hE)
  clear hE hwn
  refine (HPM.out _ _ w18 HU0.out HU1.out).mono ?_
  rintro e w19 ⟨u4, rfl, hu, hE⟩
  have HE := hide (HE.out.trans hE)
  have HEL := hide (HEL.out.ext hE)
  have HBa := hide (HBa.out.extB hE)
  have HBb := hide (HBb.out.extB hE)
  have HBc := hide (HBc.out.extB hE)
  have HX0 := hide (HX0.out.ext hE)
  have HX1 := hide (HX1.out.ext hE)
  have HX2 := hide (HX2.out.ext hE)
  have HX3 := hide (HX3.out.ext hE)
  have HU0 := hide (HU0.out.ext hE)
  have HU1 := hide (HU1.out.ext hE)
  have HU2 := hide (HU2.out.ext hE)
  have HU3 := hide (HU3.out.ext hE)
  have HU4 := hide hu
  obtain ⟨su, vs, rfl, hvl, ⟨ps4, cc4, rfl, -⟩, -⟩ := hu
  clear hE hvl
  generalize vs.length = n4 at *
  clear vs
  obtain ⟨ta0, ta1, ta2, ta3⟩ := HX0.out.cells
  have taz := lt_of_heap HX0.out
  obtain ⟨tb0, tb1, tb2, tb3⟩ := HX1.out.cells
  have tbz := lt_of_heap HX1.out
  go_wp2_with fail
  clear ta0 ta1 ta2 ta3 taz
  clear tb0 tb1 tb2 tb3 tbz
  obtain ⟨w20, hwn⟩ : ∃ w20, w19.alloc (.cells #[.int .i64 tm.n, .int .i64 tm.ins, .int .i64 tm.outs, .slice ps4 n4 cc4] 33) = w20 := ⟨_, rfl⟩
  have HX4 : Hid (TBox w20 w19.heap.size (.int .i64 tm.n) (.int .i64 tm.ins) (.int .i64 tm.outs) (.slice ps4 n4 cc4)) := by show _ = _; rw [← hwn]; exact heap_alloc_new _ _
  have hE : Ext w19 w20 := by rw [← hwn]; exact (Ext.refl _).alloc _
  rw [hwn]
  have HE := hide (HE.out.trans hE)
  have HEL := hide (HEL.out.ext hE)
  have HBa := hide (HBa.out.extB hE)
  have HBb := hide (HBb.out.extB hE)
  have HBc := hide (HBc.out.extB hE)
  have HX0 := hide (HX0.out.ext hE)
  have HX1 := hide (HX1.out.ext hE)
  have HX2 := hide (HX2.out.ext hE)
  have HX3 := hide (HX3.out.ext hE)
  have HU0 := hide (HU0.out.ext hE)
  have HU1 := hide (HU1.out.ext hE)
  have HU2 := hide (HU2.out.ext hE)
  have HU3 := hide (HU3.out.ext hE)
  have HU4 := hide (HU4.out.ext hE)
  clear hE hwn
  refine (HPJ.out _ _ w20 HU0.out HU1.out).mono ?_
  rintro e w21 ⟨u5, rfl, hu, hE⟩
  have HE := hide (HE.out.trans hE)
  have HEL := hide (HEL.out.ext hE)
  have HBa := hide (HBa.out.extB hE)
  have HBb := hide (HBb.out.extB hE)
  have HBc := hide (HBc.out.extB hE)
  have HX0 := hide (HX0.out.ext hE)
  have HX1 := hide (HX1.out.ext hE)
  have HX2 := hide (HX2.out.ext hE)
  have HX3 := hide (HX3.out.ext hE)
  have HX4 := hide (HX4.out.ext hE)
  have HU0 := hide (HU0.out.ext hE)
  have HU1 := hide (HU1.out.ext hE)
  have HU2 := hide (HU2.out.ext hE)
  have HU3 := hide (HU3.out.ext hE)
  have HU4 := hide (HU4.out.ext hE)
  have HU5 := hide hu
  obtain ⟨su, vs, rfl, hvl, ⟨ps5, cc5, rfl, -⟩, -⟩ := hu
  clear hE hvl
  generalize vs.length = n5 at *
  clear vs
  obtain ⟨ta0, ta1, ta2, ta3⟩ := HX2.out.cells
  have taz := lt_of_heap HX2.out
  obtain ⟨tb0, tb1, tb2, tb3⟩ := HX4.out.cells
  have tbz := lt_of_heap HX4.out
  go_wp2_with fail
  clear ta0 ta1 ta2 ta3 taz
  clear tb0 tb1 tb2 tb3 tbz
  obtain ⟨w22, hwn⟩ : ∃ w22, w21.alloc (.cells #[.int .i64 tj.n, .int .i64 tj.ins, .int .i64 tj.outs, .slice ps5 n5 cc5] 33) = w22 := ⟨_, rfl⟩
  have HX5 : Hid (TBox w22 w21.heap.size (.int .i64 tj.n) (.int .i64 tj.ins) (.int .i64 tj.outs) (.slice ps5 n5 cc5)) := by show _ = _; rw [← hwn]; exact heap_alloc_new _ _
  have hE : Ext w21 w22 := by rw [← hwn]; exact (Ext.refl _).alloc _
  rw [hwn]
  have HE := hide (HE.out.trans hE)
  have HEL := hide (HEL.out.ext hE)
  have HBa := hide (HBa.out.extB hE)
  have HBb := hide (HBb.out.extB hE)
  have HBc := hide (HBc.out.extB hE)
  have HX0 := hide (HX0.out.ext hE)
  have HX1 := hide (HX1.out.ext hE)
  have HX2 := hide (HX2.out.ext hE)
  have HX3 := hide (HX3.out.ext hE)
  have HX4 := hide (HX4.out.ext hE)
  have HU0 := hide (HU0.out.ext hE)
  have HU1 := hide (HU1.out.ext hE)
  have HU2 := hide (HU2.out.ext hE)
  have HU3 := hide (HU3.out.ext hE)
  have HU4 := hide (HU4.out.ext hE)
  have HU5 := hide (HU5.out.ext hE)
  clear hE hwn
  have HSM := hide (rsame_tk tm tm _ _ w22 (HU2.out.rep HML.out) (HU4.out.rep HML.out))
  rw [decide_eq_true rfl] at HSM
  refine HSM.out.mono ?_
  rintro e w23 ⟨rfl, hE⟩
  have HE := hide (HE.out.trans hE)
  have HEL := hide (HEL.out.ext hE)
  have HBa := hide (HBa.out.extB hE)
  have HBb := hide (HBb.out.extB hE)
  have HBc := hide (HBc.out.extB hE)
  have HX0 := hide (HX0.out.ext hE)
  have HX1 := hide (HX1.out.ext hE)
  have HX2 := hide (HX2.out.ext hE)
  have HX3 := hide (HX3.out.ext hE)
  have HX4 := hide (HX4.out.ext hE)
  have HX5 := hide (HX5.out.ext hE)
  have HU0 := hide (HU0.out.ext hE)
  have HU1 := hide (HU1.out.ext hE)
  have HU2 := hide (HU2.out.ext hE)
  have HU3 := hide (HU3.out.ext hE)
  have HU4 := hide (HU4.out.ext hE)
  have HU5 := hide (HU5.out.ext hE)
  clear hE HSM
  obtain ⟨ta0, ta1, ta2, ta3⟩ := HX3.out.cells
  have taz := lt_of_heap HX3.out
  obtain ⟨tb0, tb1, tb2, tb3⟩ := HX5.out.cells
  have tbz := lt_of_heap HX5.out
  go_wp2_with fail
  have HSJ := hide (rsame_tk tj tj _ _ w23 (HU3.out.rep HJL.out) (HU5.out.rep HJL.out))
  rw [decide_eq_true rfl] at HSJ
  refine HSJ.out.mono ?_
  rintro e w24 ⟨rfl, hE⟩
  have HE := hide (HE.out.trans hE)
  clear hE HSJ
  go_wp2_with fail
  go_ret
  exact ⟨rfl, HE.out⟩
end Go.Proofs.YthkididgbaamcaaGreatDoor
