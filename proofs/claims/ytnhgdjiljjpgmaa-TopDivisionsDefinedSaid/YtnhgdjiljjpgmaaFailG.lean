/-
  The program's layer 17 (failure): model.graphs and model.steps as iterators.
  Conditions: as each theorem states.
-/
import Derived.Test.YtnhgdjiljjpgmaaFailP
import Derived.Test.YtnhgdjiljjpgmaaGrAll
namespace Go.Proofs.Ytnhgdjiljjpgmaa
open Go.RowKit
attribute [local go_sem] Oper.semAt_some

/-- The boxes that the recursion captures. -/
structure GEnv (V : World) (bm bf bt bz be n f b o lp rid : Nat) (rlb : Array Value) (fid : Nat) (flb : Array Value) : Prop where
  m : V.heap[bm]? = some (.cells #[.int .i64 n, .int .i64 f, .func (.func rid) #[] rlb, .func (.func fid) #[] flb] 54 (0, 0))
  fr : NBox V bf b
  oo : NBox V bt o
  y : V.heap[bz]? = some (.cells #[.func (.yield lp) #[] #[]] 98 (0, 0))
  e : V.heap[be]? = some (.cells #[.func (.func 88) #[] #[.pointer (some ⟨bm, 0, none⟩), .pointer (some ⟨bf, 0, none⟩), .pointer (some ⟨bt, 0, none⟩), .pointer (some ⟨bz, 0, none⟩), .pointer (some ⟨be, 0, none⟩)]] 99 (0, 0))
theorem GEnv.of {V V' : World} {bm bf bt bz be n f b o lp rid : Nat} {rlb : Array Value} {fid : Nat} {flb : Array Value} (h : GEnv V bm bf bt bz be n f b o lp rid rlb fid flb) {OB : Nat → Prop} (hOB : OB bm ∧ OB bf ∧ OB bt ∧ OB bz ∧ OB be) (hk : ∀ k, OB k → V'.heap[k]? = V.heap[k]?) :
    GEnv V' bm bf bt bz be n f b o lp rid rlb fid flb :=
  ⟨(hk _ hOB.1).trans h.m, h.fr.of (hk _ hOB.2.1), h.oo.of (hk _ hOB.2.2.1), (hk _ hOB.2.2.2.1).trans h.y, (hk _ hOB.2.2.2.2).trans h.e⟩
theorem cells_at {W : World} {b : Nat} {cs : Array Value} {t : TypeId} (h : W.heap[b]? = some (.cells cs t (0, 0))) (j : Nat) : W.cell? ⟨b, j, none⟩ = cs[j]? := cell_of_row W b j _ _ _ h
def BBox (W : World) (b : Nat) (v : Bool) : Prop := W.heap[b]? = some (.cells #[.bool v] 4 (0, 0))
theorem BBox.of {W W' : World} {b : Nat} {v : Bool} (h : BBox W b v) (hb : W'.heap[b]? = W.heap[b]?) : BBox W' b v := hb.trans h
theorem BBox.put {W : World} {b : Nat} {v : Bool} (h : BBox W b v) (u : Bool) : BBox (W.setCell ⟨b, 0, none⟩ (.bool u)) b u := heap_set h _
theorem results_one17 {fn : Func} {a : Tmp} {t : TypeId} (h : fn.results = #[.cell a t]) (tmps : Array Value) (P : Program) (w : World) {p : Addr} {u : Value} (ha : tmps.getD a undef = .pointer (some p))
    (ht : (isAgg t).run P w = .ok false w) (hp : w.cell? p = some u) : (results fn tmps).run P w = .ok u w := by
  rw [Array.getD_eq_getD_getElem?] at ha
  have ht' : _ = _ := ht
  simp [results, h, ha, go_sem, ht', hp]
/-- A graph whose rows are sets. -/
def GS (n : Nat) (g : Gr) : Prop := g.n = n ∧ ∀ p, p < 5 → ∃ s : Nat, g.h p = (s : Int) ∧ s < 32
theorem GS.set {n : Nat} {g : Gr} (h : GS n g) {p s : Nat} (hp : p < 5) (hs : s < 32) : GS n (g.set p (s : Int)) := by
  refine ⟨?_, fun q hq => ?_⟩
  · obtain rfl | rfl | rfl | rfl | rfl : p = 0 ∨ p = 1 ∨ p = 2 ∨ p = 3 ∨ p = 4 := by omega
    all_goals exact h.1
  · rw [set_h g hp _ q hq]
    split
    · exact ⟨s, rfl, hs⟩
    · exact h.2 q hq
theorem GS.zero (n : Nat) : GS n (gzn n) := ⟨rfl, fun p hp => ⟨0, by obtain rfl | rfl | rfl | rfl | rfl : p = 0 ∨ p = 1 ∨ p = 2 ∨ p = 3 ∨ p = 4 := by omega
                                                                     all_goals rfl, by decide⟩⟩
theorem betw_lt {low high x : Nat} (hl : low < 32) (hh : high < 32) (h : x ∈ betwL low high) : x < 32 := by
  obtain ⟨y, hy, rfl⟩ := List.mem_map.1 h
  have h1 := List.mem_range.1 (List.mem_filter.1 hy).1
  have h2 := andNot_lt hh hl
  exact Nat.or_lt_two_pow (n := 5) hl (by omega)
section
variable {n f b o lp rid fid bm bf bt bz be : Nat} {rlb flb : Array Value} {R : Nat → List Nat} {fits : Gr → Bool} {OB : Nat → Prop} {DD : World → Prop} {L : List Gr} {J : Nat → (Nat → Prop) → World → Prop} {Jx : (Nat → Prop) → World → Prop}
/-- What the recursion is told. -/
structure GAsk (n f b o lp rid fid bm bf bt bz be : Nat) (rlb flb : Array Value) (R : Nat → List Nat) (fits : Gr → Bool) (OB : Nat → Prop) (DD : World → Prop) (L : List Gr) (J : Nat → (Nat → Prop) → World → Prop) (Jx : (Nat → Prop) → World → Prop) : Prop where
  n5 : n ≤ 5
  own : OB bm ∧ OB bf ∧ OB bt ∧ OB bz ∧ OB be
  told : ∀ i O V, J i O V → DD V
  er : ∀ args w, (callFunc rid args).run Try.prog w = .ok (.enter rid args) w
  ef : ∀ args w, (callFunc fid args).run Try.prog w = .ok (.enter fid args) w
  rows : ∀ p V, p < n → DD V → Calls Try.prog rid (#[.int .i64 p, .int .i64 b, .int .i64 o] ++ rlb) V fun e V' => ∃ gl gh low high, e = .returned (.func (.func 49) #[] #[.pointer (some ⟨gh, 0, none⟩), .pointer (some ⟨gl, 0, none⟩)]) ∧
    NBox V' gl (low : Nat) ∧ NBox V' gh (high : Nat) ∧ V.heap.size ≤ gl ∧ V.heap.size ≤ gh ∧ betwL low high = R p ∧ low < 32 ∧ high < 32 ∧ Ext V V'
  fit : ∀ g V, GS n g → DD V → Calls Try.prog fid (#[Gr.v g, .int .i64 b, .int .i64 o] ++ flb) V fun e V' => e = .returned (.bool (fits g)) ∧ Ext V V'
  rely : ∀ i, Rely (J i)
  relyx : Rely Jx
  yield : ∀ i g O W', L[i]? = some g → J i O W' → (∀ k, O k → k < W'.heap.size) → YieldAt Fence.wide 0 Try.prog lp #[Gr.v g] W' fun e W'' => (KO O W' W'' ∧ W'.heap.size ≤ W''.heap.size ∧ KF (lp + 1) W' W'') ∧ ((e = .returned (.bool true) ∧ J (i + 1) O W'') ∨ (e = .returned (.bool false) ∧ Jx O W''))
def EachGoal (n f b o lp rid fid bm bf bt bz be : Nat) (rlb flb : Array Value) (R : Nat → List Nat) (fits : Gr → Bool) (OB : Nat → Prop) (_DD : World → Prop) (L : List Gr) (J : Nat → (Nat → Prop) → World → Prop) (Jx : (Nat → Prop) → World → Prop) (k p : Nat) : Prop :=
  ∀ (g : Gr) (idx : Nat) (O : Nat → Prop) (W : World), GS n g → (∀ j x, (eachG R fits k p g)[j]? = some x → L[idx + j]? = some x) → J idx O W → (∀ k, O k → k < W.heap.size) → (∀ k, OB k → O k) → GEnv W bm bf bt bz be n f b o lp rid rlb fid flb → lp < W.heap.size →
    Calls Try.prog 88 #[.int .i64 p, Gr.v g, .pointer (some ⟨bm, 0, none⟩), .pointer (some ⟨bf, 0, none⟩), .pointer (some ⟨bt, 0, none⟩), .pointer (some ⟨bz, 0, none⟩), .pointer (some ⟨be, 0, none⟩)] W fun e W' =>
      (KO O W W' ∧ W.heap.size ≤ W'.heap.size ∧ KF (lp + 1) W W') ∧ ((e = .returned (.bool true) ∧ J (idx + (eachG R fits k p g).length) O W') ∨ (e = .returned (.bool false) ∧ Jx O W'))
set_option maxRecDepth 16000 in
set_option maxHeartbeats 2000000 in
theorem each_zero (H : GAsk n f b o lp rid fid bm bf bt bz be rlb flb R fits OB DD L J Jx) : EachGoal n f b o lp rid fid bm bf bt bz be rlb flb R fits OB DD L J Jx 0 n := by
  intro g idx O W hgS hal hj hO hOB hG hlp
  have HGS0 := hide hgS
  clear hgS
  have HH := hide H
  have HAL := hide hal
  have HJ := hide hj
  have HO := hide hO
  have HOB := hide hOB
  have HG := hide hG
  have her := H.er
  have hef := H.ef
  obtain ⟨w2, hw2⟩ : ∃ w2, ((W.alloc (.cells #[.int .i64 n] 3)).alloc (.cells #[.int .i64 g.n, .int .i64 g.h0, .int .i64 g.h1, .int .i64 g.h2, .int .i64 g.h3, .int .i64 g.h4] 36)).alloc (.cells #[.bool false] 4) = w2 := ⟨_, rfl⟩
  have HE : Hid (Ext W w2) := by show Ext _ _; rw [← hw2]; exact (((Ext.refl W).alloc _).alloc _).alloc _
  have HP : Hid (NBox w2 W.heap.size n) := by
    show _ = _
    rw [← hw2, Below.heap_alloc _ _ _ (by simp; omega), Below.heap_alloc _ _ _ (by simp)]
    exact heap_alloc_new W _
  have HGB : Hid (GrBox w2 (W.heap.size + 1) g) := by
    show _ = _
    rw [← hw2, Below.heap_alloc _ _ _ (by simp)]
    have := heap_alloc_new (W.alloc (.cells #[.int .i64 n] 3)) (.cells #[.int .i64 g.n, .int .i64 g.h0, .int .i64 g.h1, .int .i64 g.h2, .int .i64 g.h3, .int .i64 g.h4] 36)
    rwa [World.size_alloc] at this
  have HR : Hid (BBox w2 (W.heap.size + 1 + 1) false) := by
    show _ = _
    rw [← hw2]
    have := heap_alloc_new ((W.alloc (.cells #[.int .i64 n] 3)).alloc (.cells #[.int .i64 g.n, .int .i64 g.h0, .int .i64 g.h1, .int .i64 g.h2, .int .i64 g.h3, .int .i64 g.h4] 36)) (.cells #[.bool false] 4)
    simpa only [World.size_alloc] using this
  have hext : ∀ {c : Nat} {ob : Obj}, W.heap[c]? = some ob → w2.heap[c]? = some ob := fun h => (HE.out.b.block _ (lt_of_heap h)).trans h
  have em := hext hG.m
  have efr := hext hG.fr
  have eto := hext hG.oo
  have ey := hext hG.y
  have m0 : w2.cell? ⟨bm, 0, none⟩ = some (.int .i64 n) := cells_at em 0
  have m3 : w2.cell? ⟨bm, 3, none⟩ = some (.func (.func fid) #[] flb) := cells_at em 3
  have f0 : w2.cell? ⟨bf, 0, none⟩ = some (.int .i64 b) := cells_at efr 0
  have o0 : w2.cell? ⟨bt, 0, none⟩ = some (.int .i64 o) := cells_at eto 0
  have y0 : w2.cell? ⟨bz, 0, none⟩ = some (.func (.yield lp) #[] #[]) := cells_at ey 0
  have zm := lt_of_heap em
  have zf := lt_of_heap efr
  have zo := lt_of_heap eto
  have zy := lt_of_heap ey
  have p0 := HP.out.cell
  have zp := lt_of_heap HP.out
  obtain ⟨g0, g1, g2, g3, g4, g5, zg⟩ := HGB.out.cells
  have HW2 := hide hw2
  have HDE : Hid (DD w2) := H.told idx O w2 (H.rely idx O O W w2 hj (Off.of_ext HE.out) (Grow.same hO HE.out.size))
  clear hal hj hO hOB hG hext em efr eto ey
  refine (callsIn_wide (n := 0)).1 ?_
  refine callsIn_of_wp Try.func88 rfl trivial ?_ rfl
  simp only [Try.ntmps88, List.size_toArray, List.length_cons, List.length_nil, Nat.reduceAdd, Nat.reduceSub, Array.replicate_succ, Array.replicate_zero, List.push_toArray, List.append_toArray, List.nil_append, List.cons_append]
  rw [← hw2] at m0 m3 f0 o0 y0 zm zf zo zy p0 zp g0 g1 g2 g3 g4 g5 zg
  clear hw2 H
  gi_wp2_with fail
  rw [HW2.out]
  refine ⟨trivial, rfl, (callsIn_wide (n := 0)).2 ((HH.out.fit g w2 HGS0.out HDE.out).mono ?_)⟩
  rintro e w3 ⟨rfl, hE3⟩
  have HE3 := hide (HE.out.trans hE3)
  have HR3 := hide (HR.out.of (hE3.b.block _ (lt_of_heap HR.out)))
  have hext : ∀ {c : Nat} {ob : Obj}, W.heap[c]? = some ob → w3.heap[c]? = some ob := fun h => (HE3.out.b.block _ (lt_of_heap h)).trans h
  have ey := hext HG.out.y
  have y0' : w3.cell? ⟨bz, 0, none⟩ = some (.func (.yield lp) #[] #[]) := cells_at ey 0
  have zy' := lt_of_heap ey
  obtain ⟨g0', g1', g2', g3', g4', g5', zg'⟩ := (show GrBox w3 (W.heap.size + 1) g from (hE3.b.block _ (lt_of_heap HGB.out)).trans HGB.out).cells
  have r0 : w3.cell? ⟨W.heap.size + 1 + 1, 0, none⟩ = some (.bool false) := cells_at HR3.out 0
  have rf : w3.frozen? ⟨W.heap.size + 1 + 1, 0, none⟩ = false := frozen_of HR3.out
  have rz := lt_of_heap HR3.out
  clear m0 m3 f0 o0 y0 zm zf zo zy p0 zp g0 g1 g2 g3 g4 g5 zg hE3 hext ey HW2
  cases hfg : fits g with
  | false =>
    have HLN : Hid ((eachG R fits 0 n g).length = 0) := by show (if fits g = true then [g] else []).length = 0; rw [hfg]; rfl
    have HX := hide (HE3.out.setCell (p := ⟨W.heap.size + 1 + 1, 0, none⟩) (show W.heap.size ≤ W.heap.size + 1 + 1 by omega) (.bool true))
    have HRS := hide (HR3.out.put true)
    clear hfg
    gi_wp2_with fail
    rename_i hKK _ _ _ _
    refine ⟨fun _ h => (nomatch h), hKK _ _ ?_⟩
    gi_wp2_with fail
    refine bodyPost_ret (results_one17 rfl _ _ _ rfl (Try.isAgg4 _) (cells_at HRS.out 0)) rfl ⟨⟨fun k hk => HX.out.b.block k (HO.out k hk), HX.out.size, KF.of_ext HX.out⟩, .inl ⟨rfl, ?_⟩⟩
    rw [HLN.out]
    exact HH.out.rely idx O O _ _ HJ.out (Off.of_ext HX.out) (Grow.same HO.out HX.out.size)
  | true =>
    have HLN : Hid ((eachG R fits 0 n g).length = 1) := by show (if fits g = true then [g] else []).length = 1; rw [hfg]; rfl
    have hLg : L[idx]? = some g := HAL.out 0 g (by show (if fits g = true then [g] else [])[0]? = _; rw [hfg]; rfl)
    obtain ⟨OC, hOC⟩ : ∃ OC : Nat → Prop, OC = fun k => O k ∨ k = W.heap.size + 1 + 1 := ⟨_, rfl⟩
    have hz3 := HE3.out.size
    have hOCz : ∀ k, OC k → k < w3.heap.size := fun k hk => by
      rw [hOC] at hk
      rcases hk with hk | rfl
      · have := HO.out k hk; omega
      · exact rz
    have hj3 : J idx OC w3 := HH.out.rely idx O OC _ _ HJ.out (Off.of_ext HE3.out) fun k hk => by
      refine ⟨?_, hOCz k hk⟩
      rw [hOC] at hk
      rcases hk with hk | rfl
      · exact .inl hk
      · exact .inr (by omega)
    obtain ⟨fn, tmps, assign, body, hy, hR⟩ := HH.out.yield idx g OC w3 hLg hj3 hOCz
    have HRR := hide hR
    have HOC := hide hOC
    have HCZ := hide hOCz
    clear hR hj3 hOC hOCz hLg hfg hz3
    gi_wp2_with fail
    refine ⟨rfl, HRR.out.mono ?_⟩
    rintro e w4 ⟨⟨hko, hsz, hkf⟩, hres⟩
    have HR4 := hide (HR3.out.of (hko _ (by rw [HOC.out]; exact .inr rfl)))
    have r0 : w4.cell? ⟨W.heap.size + 1 + 1, 0, none⟩ = some (.bool false) := cells_at HR4.out 0
    have rf : w4.frozen? ⟨W.heap.size + 1 + 1, 0, none⟩ = false := frozen_of HR4.out
    have rz := lt_of_heap HR4.out
    have HKO : Hid (∀ u, KO O W (w4.setCell ⟨W.heap.size + 1 + 1, 0, none⟩ u) ∧ W.heap.size ≤ (w4.setCell ⟨W.heap.size + 1 + 1, 0, none⟩ u).heap.size ∧ KF (lp + 1) W (w4.setCell ⟨W.heap.size + 1 + 1, 0, none⟩ u)) := fun u => by
      refine ⟨fun k hk => ?_, ?_, ((KF.of_ext HE3.out).trans hkf).trans (KF.setCell _ _ _)⟩
      · have h1 := HO.out k hk
        exact (Below.heap_setCell _ _ _ _ (show k ≠ W.heap.size + 1 + 1 by omega)).trans ((hko k (by rw [HOC.out]; exact .inl hk)).trans (HE3.out.b.block k h1))
      · have := HE3.out.size
        simp; omega
    have HPUT := hide (fun u => HR4.out.put u)
    have HOFF : Hid (∀ u, Off OC w4 (w4.setCell ⟨W.heap.size + 1 + 1, 0, none⟩ u)) := fun u => (Off.refl OC w4).setCell (by rw [HOC.out]; exact .inr rfl) u
    have HGR : Hid (∀ u, Grow OC O w4 (w4.setCell ⟨W.heap.size + 1 + 1, 0, none⟩ u)) := fun u k hk => ⟨.inl (by rw [HOC.out]; exact .inl hk), by have := HO.out k hk; have := HE3.out.size; simp; omega⟩
    clear hko hsz hkf hy HRR y0' zy' g0' g1' g2' g3' g4' g5' zg'
    rcases hres with ⟨rfl, hJ'⟩ | ⟨rfl, hJx'⟩
    · have HJ4 := hide hJ'
      clear hJ'
      gi_wp2_with fail
      refine bodyPost_ret (results_one17 rfl _ _ _ rfl (Try.isAgg4 _) (cells_at (HPUT.out true) 0)) rfl ⟨HKO.out _, .inl ⟨rfl, ?_⟩⟩
      rw [HLN.out]
      exact HH.out.rely _ _ _ _ _ HJ4.out (HOFF.out _) (HGR.out _)
    · have HJ4 := hide hJx'
      clear hJx'
      gi_wp2_with fail
      refine bodyPost_ret (results_one17 rfl _ _ _ rfl (Try.isAgg4 _) (cells_at (HPUT.out false) 0)) rfl ⟨HKO.out _, .inr ⟨rfl, ?_⟩⟩
      exact HH.out.relyx _ _ _ _ HJ4.out (HOFF.out _) (HGR.out _)
theorem flat_at {α β : Type} (F : α → List β) : ∀ (l : List α) (i : Nat) (a : α) (j : Nat) (x : β), l[i]? = some a → (F a)[j]? = some x → (l.flatMap F)[((l.take i).flatMap F).length + j]? = some x
  | [], i, a, j, x, h, _ => by cases i <;> cases h
  | y :: l, 0, a, j, x, h, hx => by
    cases h
    rw [List.flatMap_cons, List.getElem?_append_left (by simpa using (List.getElem?_eq_some_iff.1 hx).1)]
    simpa using hx
  | y :: l, i + 1, a, j, x, h, hx => by
    have := flat_at F l i a j x h hx
    rw [List.flatMap_cons, List.take_succ_cons, List.flatMap_cons, List.length_append, Nat.add_assoc, List.getElem?_append_right (by omega), Nat.add_sub_cancel_left]
    exact this
theorem flat_off {α β : Type} (F : α → List β) (l : List α) (i : Nat) (a : α) (h : l[i]? = some a) : ((l.take (i + 1)).flatMap F).length = ((l.take i).flatMap F).length + (F a).length := by
  rw [List.take_add_one, h, Option.toList_some, List.flatMap_append, List.length_append]; simp
/-- What a recursion's loop keeps. -/
theorem rely_rec {J : (Nat → Prop) → World → Prop} (hJ : Rely J) {OA O : Nat → Prop} {B Z lp : Nat} {W : World} {S : World → Prop} (hAB : ∀ k, OA k → k < B) (hOA : ∀ k, O k → OA k) (hS : ∀ V V', S V → (∀ k, OA k → V'.heap[k]? = V.heap[k]?) → S V') (hZ : W.heap.size = Z) (hZB : Z ≤ B) :
    RelyL (fun k => k = B ∨ k = B + 1) fun O' V => (J (fun k => OA k ∨ O' k ∨ ((k = B ∨ k = B + 1) ∧ k < V.heap.size)) V ∧ ∀ k, OA k → k < V.heap.size) ∧ S V ∧ (KO O W V ∧ KF (lp + 1) W V) ∧ ∀ k, O' k → Z ≤ k ∧ ¬ OA k := by
  rintro O1 O2 V V' ⟨h1, h2, ⟨h3, h4⟩, h5⟩ hoff hG
  have keep : ∀ k, OA k → V'.heap[k]? = V.heap[k]? := fun k hk => hoff.block k (h1.2 k hk) fun h => h.elim (fun h => (h5 k h).2 hk) fun h => by have := hAB k hk; omega
  refine ⟨rely_in hJ OA (fun k => k = B ∨ k = B + 1) O1 O2 V V' h1 hoff hG, hS V V' h2 keep, ⟨fun k hk => (keep k (hOA k hk)).trans (h3 k hk), Nat.le_trans h4.1 hoff.size, fun k o hk ho hc => ?_⟩, fun k hk => ?_⟩
  · have hV := h4.2 k o hk ho hc
    have hlt := lt_of_heap ho
    refine (hoff.block k (lt_of_heap hV) fun h => ?_).trans hV
    rcases h with h | h
    · have := (h5 k h).1; omega
    · omega
  · rcases (hG k hk).1 with h | h
    · exact h5 k h
    · exact ⟨by have := h4.1; omega, fun ha => by have := h1.2 k ha; omega⟩
set_option maxRecDepth 16000 in
set_option maxHeartbeats 4000000 in
theorem each_succ (H : GAsk n f b o lp rid fid bm bf bt bz be rlb flb R fits OB DD L J Jx) (k p : Nat) (hp : p < n) (IH : EachGoal n f b o lp rid fid bm bf bt bz be rlb flb R fits OB DD L J Jx k (p + 1)) :
    EachGoal n f b o lp rid fid bm bf bt bz be rlb flb R fits OB DD L J Jx (k + 1) p := by
  intro g idx O W hgS hal hj hO hOB hG hlp
  have HGS0 := hide hgS
  clear hgS
  have HH := hide H
  have HIH := hide IH
  have HAL := hide hal
  have HJ := hide hj
  have HO := hide hO
  have HOB := hide hOB
  have HG := hide hG
  have HLP := hide hlp
  have her := H.er
  have hp5 : p < 5 := Nat.lt_of_lt_of_le hp H.n5
  have hd : ((p : Int) == (n : Int)) = false := by rw [beq_eq_false_iff_ne]; omega
  have hdn : (p == n) = false := by rw [beq_eq_false_iff_ne]; omega
  obtain ⟨w2, hw2⟩ : ∃ w2, ((W.alloc (.cells #[.int .i64 p] 3)).alloc (.cells #[.int .i64 g.n, .int .i64 g.h0, .int .i64 g.h1, .int .i64 g.h2, .int .i64 g.h3, .int .i64 g.h4] 36)).alloc (.cells #[.bool false] 4) = w2 := ⟨_, rfl⟩
  have HE : Hid (Ext W w2) := by show Ext _ _; rw [← hw2]; exact (((Ext.refl W).alloc _).alloc _).alloc _
  have HP : Hid (NBox w2 W.heap.size p) := by
    show _ = _
    rw [← hw2, Below.heap_alloc _ _ _ (by simp; omega), Below.heap_alloc _ _ _ (by simp)]
    exact heap_alloc_new W _
  have HGB : Hid (GrBox w2 (W.heap.size + 1) g) := by
    show _ = _
    rw [← hw2, Below.heap_alloc _ _ _ (by simp)]
    have := heap_alloc_new (W.alloc (.cells #[.int .i64 p] 3)) (.cells #[.int .i64 g.n, .int .i64 g.h0, .int .i64 g.h1, .int .i64 g.h2, .int .i64 g.h3, .int .i64 g.h4] 36)
    rwa [World.size_alloc] at this
  have HR : Hid (BBox w2 (W.heap.size + 1 + 1) false) := by
    show _ = _
    rw [← hw2]
    have := heap_alloc_new ((W.alloc (.cells #[.int .i64 p] 3)).alloc (.cells #[.int .i64 g.n, .int .i64 g.h0, .int .i64 g.h1, .int .i64 g.h2, .int .i64 g.h3, .int .i64 g.h4] 36)) (.cells #[.bool false] 4)
    simpa only [World.size_alloc] using this
  have hext : ∀ {c : Nat} {ob : Obj}, W.heap[c]? = some ob → w2.heap[c]? = some ob := fun h => (HE.out.b.block _ (lt_of_heap h)).trans h
  have em := hext hG.m
  have efr := hext hG.fr
  have eto := hext hG.oo
  have m0 : w2.cell? ⟨bm, 0, none⟩ = some (.int .i64 n) := cells_at em 0
  have m2 : w2.cell? ⟨bm, 2, none⟩ = some (.func (.func rid) #[] rlb) := cells_at em 2
  have f0 : w2.cell? ⟨bf, 0, none⟩ = some (.int .i64 b) := cells_at efr 0
  have o0 : w2.cell? ⟨bt, 0, none⟩ = some (.int .i64 o) := cells_at eto 0
  have zm := lt_of_heap em
  have zf := lt_of_heap efr
  have zo := lt_of_heap eto
  have p0 := HP.out.cell
  have zp := lt_of_heap HP.out
  have HDE : Hid (DD w2) := H.told idx O w2 (H.rely idx O O W w2 hj (Off.of_ext HE.out) (Grow.same hO HE.out.size))
  have HPN := hide hp
  clear hal hj hO hOB hG hext em efr eto hlp IH hp
  refine calls_of_wp_m Try.func88 rfl ?_
  simp only [Try.ntmps88, List.size_toArray, List.length_cons, List.length_nil, Nat.reduceAdd, Nat.reduceSub, Array.replicate_succ, Array.replicate_zero, List.push_toArray, List.append_toArray, List.nil_append, List.cons_append]
  have HW2 := hide hw2
  rw [← hw2] at m0 m2 f0 o0 zm zf zo p0 zp
  clear hw2 H
  go_wp2_with fail
  rw [HW2.out]
  refine (HH.out.rows p w2 HPN.out HDE.out).mono ?_
  rintro e w3 ⟨gl, gh, low, high, rfl, hlow, hhigh, hgl, hgh, hbet, hl32, hh32, hE3⟩
  have HE3 := hide (HE.out.trans hE3)
  have hz2 : W.heap.size + 1 + 1 < w2.heap.size := lt_of_heap HR.out
  have HP3 := hide (HP.out.ext hE3)
  have HG3 : Hid (GrBox w3 (W.heap.size + 1) g) := (hE3.b.block _ (lt_of_heap HGB.out)).trans HGB.out
  have HR3 := hide (HR.out.of (hE3.b.block _ (lt_of_heap HR.out)))
  have HLO := hide hlow
  have HHI := hide hhigh
  have HLH := hide (And.intro hl32 hh32)
  have HW3 : Hid (w2.heap.size ≤ w3.heap.size) := hE3.size
  clear m0 m2 f0 o0 zm zf zo p0 zp HW2 hlow hhigh hl32 hh32 hE3 hd hdn HGB HR HP HE HDE
  go_wp2_with fail
  obtain ⟨Z, hZ⟩ : ∃ Z, W.heap.size = Z := ⟨_, rfl⟩
  obtain ⟨B, hB⟩ : ∃ B, w3.heap.size = B := ⟨_, rfl⟩
  obtain ⟨OA, hOA⟩ : ∃ OA : Nat → Prop, OA = fun k => O k ∨ k = Z ∨ k = Z + 1 ∨ k = Z + 1 + 1 := ⟨_, rfl⟩
  obtain ⟨F, hF⟩ : ∃ F : Nat → List Gr, F = fun row : Nat => eachG R fits k (p + 1) (g.set p (row : Nat)) := ⟨_, rfl⟩
  have hz3 := HW3.out
  have hzB : Z + 1 + 1 < B := by omega
  have hglz := lt_of_heap HLO.out
  have hghz := lt_of_heap HHI.out
  have HGLH : Hid (Z + 1 + 1 < gl ∧ Z + 1 + 1 < gh ∧ gl < B ∧ gh < B) := ⟨by omega, by omega, by omega, by omega⟩
  have HOAO : Hid (∀ k, O k → OA k) := fun k hk => by rw [hOA]; exact .inl hk
  have HOAB : Hid (OA Z ∧ OA (Z + 1) ∧ OA (Z + 1 + 1)) := by rw [hOA]; exact ⟨.inr (.inl rfl), .inr (.inr (.inl rfl)), .inr (.inr (.inr rfl))⟩
  have HOAZ : Hid (∀ k, OA k → k < Z + 1 + 1 + 1) := fun k hk => by
    rw [hOA] at hk
    rcases hk with hk | rfl | rfl | rfl
    · have := HO.out k hk; omega
    · omega
    · omega
    · omega
  have HJ3 : Hid (J idx (fun k => OA k ∨ (k = gl ∨ k = gh) ∨ ((k = B ∨ k = B + 1) ∧ k < w3.heap.size)) w3) := by
    refine HH.out.rely idx O _ _ _ HJ.out (Off.of_ext HE3.out) fun k hk => ?_
    have hg4 := HGLH.out
    rcases hk with hk | hk | ⟨hk, hlt⟩
    · have hk2 := HOAZ.out k hk
      rw [hOA] at hk
      rcases hk with hk | hk | hk | hk
      · exact ⟨.inl hk, by have := HO.out k hk; omega⟩
      · exact ⟨.inr (by omega), by omega⟩
      · exact ⟨.inr (by omega), by omega⟩
      · exact ⟨.inr (by omega), by omega⟩
    · exact ⟨.inr (by omega), by omega⟩
    · exfalso; omega
  have HRP : Hid (betwL low high = R p) := hbet
  have HEG : Hid (eachG R fits (k + 1) p g = (R p).flatMap F) := by rw [hF]; rfl
  rw [hZ] at HP3 HG3 HR3 HO HLP
  have HZZ := hide hZ
  have HBB := hide hB
  have hlpB : lp + 1 ≤ B := by have := HLP.out; omega
  have HFF := hide hF
  have her2 := enters_pbetween1
  clear hOA hF HJ hbet hgl hgh hglz hghz hz2 hz3 HW3
  rw [hZ]
  refine wp_rangeY (n := (betwL low high).length) rfl enters_pbetween1 (pbetween_seq low high HLH.out.1 HLH.out.2 gh gl) (fun i O x V hi hX => by rw [hX]; rfl)
    (fun i O' V => (J (idx + (((R p).take i).flatMap F).length) (fun k => OA k ∨ O' k ∨ ((k = B ∨ k = B + 1) ∧ k < V.heap.size)) V ∧ ∀ k, OA k → k < V.heap.size) ∧
      (NBox V Z p ∧ (∃ g', GrBox V (Z + 1) g' ∧ ∀ x, g'.set p x = g.set p x) ∧ BBox V (Z + 1 + 1) false) ∧ (KO O W V ∧ KF (lp + 1) W V) ∧ ∀ k, O' k → Z ≤ k ∧ ¬ OA k)
    (fun c O' V => c = .ret ∧ (Jx (fun k => OA k ∨ O' k ∨ ((k = B ∨ k = B + 1) ∧ k < V.heap.size)) V ∧ ∀ k, OA k → k < V.heap.size) ∧ BBox V (Z + 1 + 1) false ∧ (KO O W V ∧ KF (lp + 1) W V) ∧ ∀ k, O' k → Z ≤ k ∧ ¬ OA k) ?_ ?_ ?_ ?_ ?_ ?_ ?_ ?_ ?_
  · exact fun _ _ _ _ => trivial
  · intro i
    rw [HBB.out]
    refine rely_rec (HH.out.rely _) (fun k hk => by have := HOAZ.out k hk; omega) HOAO.out ?_ HZZ.out (by omega)
    rintro V V' ⟨h1, ⟨g', h2, h3⟩, h4⟩ keep
    exact ⟨h1.of (keep _ HOAB.out.1), ⟨g', (keep _ HOAB.out.2.1).trans h2, h3⟩, h4.of (keep _ HOAB.out.2.2)⟩
  · rintro c O1 O2 V V' ⟨hc, h⟩ hoff hG
    rw [HBB.out] at hoff
    exact ⟨hc, rely_rec (S := fun V => BBox V (Z + 1 + 1) false) HH.out.relyx (fun k hk => by have := HOAZ.out k hk; omega) HOAO.out (fun V V' h1 keep => h1.of (keep _ HOAB.out.2.2)) HZZ.out (by omega) O1 O2 V V' h hoff hG⟩
  · exact fun V hE => ⟨HLO.out.ext hE, HHI.out.ext hE⟩
  · rintro k hk
    have := HGLH.out
    rcases hk with rfl | rfl <;> omega
  · have hz := HZZ.out
    have hg4 := HGLH.out
    refine ⟨⟨by simpa using HJ3.out, fun k hk => by have := HOAZ.out k hk; omega⟩, ⟨HP3.out, ⟨g, HG3.out, fun _ => rfl⟩, HR3.out⟩, ⟨fun k hk => HE3.out.b.block k (by have := HO.out k hk; omega), KF.of_ext HE3.out⟩, fun k hk => ⟨?_, fun ha => ?_⟩⟩
    · rcases hk with rfl | rfl <;> omega
    · have := HOAZ.out k ha
      rcases hk with rfl | rfl <;> omega
  · rintro l i x O' V hi rfl ⟨⟨hj, hjz⟩, ⟨h2, ⟨g', h3, hg'⟩, h4⟩, ⟨hko, hkf⟩, h5⟩ hOV hl hlV
    rw [HBB.out] at hl ⊢
    obtain ⟨row, hrow⟩ : ∃ row, (betwL low high).getD i 0 = row := ⟨_, rfl⟩
    have hRi : (R p)[i]? = some row := by rw [← HRP.out, ← hrow, List.getD_eq_getElem?_getD, List.getElem?_eq_getElem hi]; rfl
    obtain ⟨OC, hOC⟩ : ∃ OC : Nat → Prop, OC = fun k => OA k ∨ O' k ∨ ((k = B ∨ k = B + 1) ∧ k < V.heap.size) := ⟨_, rfl⟩
    rw [← hOC] at hj
    rw [hrow]
    gi_wp2_with fail
    refine ⟨⟨KF.refl _ _, fun _ _ => rfl⟩, fun V2 hC hrec => ?_⟩
    have hz := HZZ.out
    have keep : ∀ k, OA k → V2.heap[k]? = V.heap[k]? := fun k hk => hC.block k (hjz k hk) fun e => by have := HOAZ.out k hk; omega
    have hOCz : ∀ k, OC k → k < V2.heap.size := fun k hk => by
      have := hC.size
      rw [hOC] at hk
      rcases hk with hk | hk | ⟨_, hk⟩
      · have := hjz k hk; omega
      · have := hOV k hk; omega
      · omega
    have hOCl : OC l := by rw [hOC, hl]; exact .inr (.inr ⟨.inr rfl, by omega⟩)
    have hj2 := HH.out.rely _ OC OC V V2 hj ⟨hC.os, hC.tape, hC.output, hC.size, fun k hk hn => hC.block k hk fun e => hn (by rw [e]; exact hOCl)⟩ (fun k hk => ⟨.inl hk, hOCz k hk⟩)
    have hko2 : KO O W V2 := fun k hk => (keep k (HOAO.out k hk)).trans (hko k hk)
    have hkf2 : KF (lp + 1) W V2 := ⟨Nat.le_trans hkf.1 hC.size, fun k o hk ho hc => by
      have hV := hkf.2 k o hk ho hc
      have hlt := lt_of_heap ho
      exact (hC.block k (lt_of_heap hV) fun e => by omega).trans hV⟩
    have HJ2 := hide hj2
    have HKO2 := hide hko2
    have HKF2 := hide hkf2
    have HG2 : Hid (GEnv V2 bm bf bt bz be n f b o lp rid rlb fid flb) := HG.out.of HH.out.own fun k hk => hko2 k (HOB.out k hk)
    have H2 : Hid (NBox V2 Z p ∧ GrBox V2 (Z + 1) g' ∧ BBox V2 (Z + 1 + 1) false) := ⟨h2.of (keep _ HOAB.out.1), (keep _ HOAB.out.2.1).trans h3, h4.of (keep _ HOAB.out.2.2)⟩
    have p0 := H2.out.1.cell
    have zp := lt_of_heap H2.out.1
    obtain ⟨r0, rf⟩ := H2.out.2.1.row hp5
    have zg := lt_of_heap H2.out.2.1
    obtain ⟨V3, hV3⟩ : ∃ V3, V2.setCell ⟨Z + 1, 1 + p, none⟩ (.int .i64 row) = V3 := ⟨_, rfl⟩
    obtain ⟨gs, hgs⟩ : ∃ gs, g.set p row = gs := ⟨_, rfl⟩
    have hC3 : ∀ k, k ≠ Z + 1 → V3.heap[k]? = V2.heap[k]? := fun k hk => by rw [← hV3]; exact Below.heap_setCell _ _ _ _ hk
    have hz3 : V3.heap.size = V2.heap.size := by rw [← hV3]; simp
    have HG3' : Hid (GrBox V3 (Z + 1) gs) := by
      have := H2.out.2.1.set hp5 row
      rw [hg', hgs, hV3] at this
      exact this
    have HP3' := hide (H2.out.1.of (hC3 Z (by omega)))
    have HR3' := hide (H2.out.2.2.of (hC3 (Z + 1 + 1) (by omega)))
    have hko3 : KO O W V3 := fun k hk => (hC3 k (by have := HO.out k hk; omega)).trans (hko2 k hk)
    have HKO3 := hide hko3
    have HKF3 : Hid (KF (lp + 1) W V3) := ⟨Nat.le_trans hkf2.1 (by omega), fun k o hk ho hc => by
      have hlt := lt_of_heap ho
      exact (hC3 k (by omega)).trans (hkf2.2 k o hk ho hc)⟩
    have HE3' : Hid (GEnv V3 bm bf bt bz be n f b o lp rid rlb fid flb) := HG.out.of HH.out.own fun k hk => hko3 k (HOB.out k hk)
    have hj3 : J (idx + (((R p).take i).flatMap F).length) OC V3 := HH.out.rely _ OC OC V2 V3 hj2 (by rw [← hV3]; exact (Off.refl _ _).setCell (by rw [hOC]; exact .inl HOAB.out.2.1) _) (fun k hk => ⟨.inl hk, by have := hOCz k hk; omega⟩)
    have HJ3' := hide hj3
    have HCZ : Hid (∀ k, OC k → k < V3.heap.size) := fun k hk => by have := hOCz k hk; omega
    have HOC := hide hOC
    have HV2 : Hid (V.heap.size ≤ V2.heap.size ∧ V3.heap.size = V2.heap.size) := ⟨hC.size, hz3⟩
    have HV3 := hide hV3
    have HRI := hide hRi
    have HGS := hide hgs
    have HC3 := hide hC3
    have HH5 := hide h5
    have HOV := hide hOV
    have e0 : V3.cell? ⟨be, 0, none⟩ = some _ := cells_at HE3'.out.e 0
    have ze := lt_of_heap HE3'.out.e
    have q0 := HP3'.out.cell
    have zq := lt_of_heap HP3'.out
    obtain ⟨g0, g1, g2, g3, g4, g5, zg'⟩ := HG3'.out.cells
    rw [← hV3] at e0 ze q0 zq g0 g1 g2 g3 g4 g5 zg'
    clear hj hj2 hj3 hko hko2 hko3 hkf hkf2 h2 h3 h4 h5 hOV hjz hC keep hOCz hOCl hV3 hgs hC3 hRi hOC hg' hrow hz3
    gi_wp2_with fail
    rw [HV3.out]
    refine ⟨trivial, rfl, CallsIn.inRound _ ((callsIn_wide (n := 0)).2 ((HIH.out gs _ OC V3 ?_ ?_ HJ3'.out HCZ.out ?_ HE3'.out ?_).mono ?_))⟩
    · rw [← HGS.out]
      exact HGS0.out.set hp5 (betw_lt HLH.out.1 HLH.out.2 (by rw [HRP.out]; exact List.mem_of_getElem? HRI.out))
    · intro j x hx
      rw [Nat.add_assoc]
      exact HAL.out _ x (by rw [HEG.out]; exact flat_at F (R p) i row j x HRI.out (by rw [HFF.out]; show (eachG R fits k (p + 1) (g.set p row))[j]? = _; rw [HGS.out]; exact hx))
    · intro k hk
      rw [HOC.out]
      exact .inl (HOAO.out k (HOB.out k hk))
    · have := HLP.out
      have := HV2.out
      omega
    rintro e V4 ⟨⟨hko4, hsz4, hkf4⟩, hres⟩
    have hOCA : ∀ k, OA k → OC k := fun k hk => by rw [HOC.out]; exact .inl hk
    have HO4 : Hid (KO O' V2 V4 ∧ ¬ O' (Z + 1 + 1)) := ⟨fun k hk => (hko4 k (by rw [HOC.out]; exact .inr (.inl hk))).trans (HC3.out k fun e => (HH5.out k hk).2 (by rw [e]; exact HOAB.out.2.1)), fun h => (HH5.out _ h).2 HOAB.out.2.2⟩
    have hv2 := HV2.out
    have HKF4 : Hid (KF B V2 V4) := KF.trans (by rw [← HV3.out]; exact KF.setCell _ _ _) (hkf4.up hlpB)
    have HK4 : Hid (KO O W V4 ∧ KF (lp + 1) W V4) := ⟨fun k hk => (hko4 k (hOCA k (HOAO.out k hk))).trans (HKO3.out k hk), HKF3.out.trans hkf4⟩
    have HB4 : Hid (NBox V4 Z p ∧ (∃ g', GrBox V4 (Z + 1) g' ∧ ∀ x, g'.set p x = g.set p x) ∧ BBox V4 (Z + 1 + 1) false) := ⟨HP3'.out.of (hko4 _ (hOCA _ HOAB.out.1)), ⟨gs, (hko4 _ (hOCA _ HOAB.out.2.1)).trans HG3'.out, fun x => by rw [← HGS.out, Gr.set_set]⟩, HR3'.out.of (hko4 _ (hOCA _ HOAB.out.2.2))⟩
    have HGW : Hid (∀ V5 : World, V5.heap.size = V4.heap.size → Grow OC (fun k => OA k ∨ O' k ∨ ((k = B ∨ k = B + 1) ∧ k < V5.heap.size)) V4 V5) := fun V5 h5 k hk => by
      rcases hk with hk | hk | ⟨hk, h3⟩
      · exact ⟨.inl (hOCA k hk), by have := HCZ.out k (hOCA k hk); omega⟩
      · have h1 : OC k := by rw [HOC.out]; exact .inr (.inl hk)
        exact ⟨.inl h1, by have := HCZ.out k h1; omega⟩
      · exact ⟨.inl (by rw [HOC.out]; exact .inr (.inr ⟨hk, by rcases hk with rfl | rfl <;> omega⟩)), h3⟩
    have HBD : Hid (∀ k, OA k → k < V4.heap.size) := fun k hk => by have := HCZ.out k (hOCA k hk); omega
    have HOCR : Hid (OC (Z + 1 + 1)) := hOCA _ HOAB.out.2.2
    clear hko4 hkf4 hsz4 e0 ze q0 zq g0 g1 g2 g3 g4 g5 zg' hOCA p0 zp r0 rf zg
    rcases hres with ⟨rfl, hJ'⟩ | ⟨rfl, hJx'⟩
    · have HJ' := hide (HH.out.rely _ _ _ _ _ hJ' (Off.refl _ _) (HGW.out V4 rfl))
      clear hJ'
      gi_wp2_with fail
      refine ⟨⟨HKF4.out, HO4.out.1⟩, ⟨?_, HBD.out⟩, HB4.out, HK4.out, HH5.out⟩
      rw [flat_off F (R p) i row HRI.out, show F row = eachG R fits k (p + 1) gs by rw [HFF.out, ← HGS.out], ← Nat.add_assoc]
      exact HJ'.out
    · have HJ' := hide (HH.out.relyx OC _ V4 _ hJx' ((Off.refl OC V4).setCell (a := ⟨Z + 1 + 1, 0, none⟩) HOCR.out (.bool false)) (HGW.out _ (by simp)))
      have HKS := hide (KFO.trans (B := B) (O := O') ⟨HKF4.out, HO4.out.1⟩ (KFO.setCell V4 ⟨Z + 1 + 1, 0, none⟩ (.bool false) HO4.out.2))
      have HBS := hide (HB4.out.2.2.put false)
      have r0 : V4.cell? ⟨Z + 1 + 1, 0, none⟩ = some (.bool false) := cells_at HB4.out.2.2 0
      have rf : V4.frozen? ⟨Z + 1 + 1, 0, none⟩ = false := frozen_of HB4.out.2.2
      have rz := lt_of_heap HB4.out.2.2
      have HKK : Hid (KO O W (V4.setCell ⟨Z + 1 + 1, 0, none⟩ (.bool false)) ∧ KF (lp + 1) W (V4.setCell ⟨Z + 1 + 1, 0, none⟩ (.bool false))) :=
        ⟨fun k hk => (Below.heap_setCell _ _ _ _ (show k ≠ Z + 1 + 1 by have := HO.out k hk; omega)).trans (HK4.out.1 k hk), HK4.out.2.trans (KF.setCell _ _ _)⟩
      have HBD5 : Hid (∀ k, OA k → k < (V4.setCell ⟨Z + 1 + 1, 0, none⟩ (.bool false)).heap.size) := fun k hk => by have := HBD.out k hk; simpa using this
      clear hJx'
      gi_wp2_with fail
      exact ⟨HKS.out, rfl, ⟨HJ'.out, HBD5.out⟩, HBS.out, HKK.out, HH5.out⟩
  · rintro M O' V ⟨⟨hj, hjz⟩, ⟨-, -, h4⟩, ⟨hko, hkf⟩, h5⟩ hM hMM
    rw [HBB.out] at hM
    have hz := lt_of_heap hMM
    rw [show (betwL low high).length = (R p).length by rw [HRP.out], List.take_length, ← HEG.out] at hj
    obtain ⟨V5, hV5⟩ : ∃ V5, V.setCell ⟨Z + 1 + 1, 0, none⟩ (.bool true) = V5 := ⟨_, rfl⟩
    have h5z : V5.heap.size = V.heap.size := by rw [← hV5]; simp
    have hC5 : ∀ k, k ≠ Z + 1 + 1 → V5.heap[k]? = V.heap[k]? := fun k hk => by rw [← hV5]; exact Below.heap_setCell _ _ _ _ hk
    have hM5 : V5.heap[M]? = some (.deferred (some [])) := (hC5 M (by omega)).trans hMM
    have hB5 : BBox V5 (Z + 1 + 1) true := by rw [← hV5]; exact h4.put true
    have hB6 : BBox (V5.putObj M (.deferred none)) (Z + 1 + 1) true := hB5.of (World.putObj_heap_other (by omega))
    have hj2 := HH.out.rely _ _ O _ (V5.putObj M (.deferred none)) hj ⟨by rw [← hV5]; rfl, by rw [← hV5]; rfl, by rw [← hV5]; rfl, by simp [h5z], fun k hk hn => (World.putObj_heap_other fun e => hn (.inr (.inr ⟨.inl (e.trans hM), hk⟩))).trans (hC5 k fun e => hn (.inl (by rw [e]; exact HOAB.out.2.2)))⟩
      (fun k hk => ⟨.inl (.inl (HOAO.out k hk)), by have := HO.out k hk; simp; omega⟩)
    have hfin : (KO O W (V5.putObj M (.deferred none)) ∧ W.heap.size ≤ (V5.putObj M (.deferred none)).heap.size ∧ KF (lp + 1) W (V5.putObj M (.deferred none))) := by
      have hz1 := HZZ.out
      have he : ∀ k, k < Z → (V5.putObj M (.deferred none)).heap[k]? = V.heap[k]? := fun k hk => (World.putObj_heap_other (by omega)).trans (hC5 k (by omega))
      refine ⟨fun k hk => (he k (HO.out k hk)).trans (hko k hk), by simp; omega, by simp; omega, fun k o hk ho hc => ?_⟩
      have := lt_of_heap ho
      exact (he k (by omega)).trans (hkf.2 k o hk ho hc)
    have r0 : V.cell? ⟨Z + 1 + 1, 0, none⟩ = some (.bool false) := cells_at h4 0
    have rf : V.frozen? ⟨Z + 1 + 1, 0, none⟩ = false := frozen_of h4
    have rz := lt_of_heap h4
    have HFIN := hide hfin
    have HJ2 := hide hj2
    have HB6 := hide hB6
    have HM5 := hide hM5
    have HV5 := hide hV5
    clear hj hjz h4 hko hkf h5 hfin hj2 hB5 hB6 hM5 hC5 hV5 h5z
    go_wp2_with fail
    rw [HV5.out]
    exact leave_mark rfl HM5.out (results_one17 rfl _ _ _ rfl (Try.isAgg4 _) (cells_at HB6.out 0)) ⟨HFIN.out, .inl ⟨rfl, HJ2.out⟩⟩
  · rintro M c O' V ⟨rfl, ⟨hj, hjz⟩, h4, ⟨hko, hkf⟩, h5⟩ hM hMM
    rw [HBB.out] at hM
    have hz := lt_of_heap hMM
    have hB6 : BBox (V.putObj M (.deferred none)) (Z + 1 + 1) false := h4.of (World.putObj_heap_other (by omega))
    have hj2 := HH.out.relyx _ O _ (V.putObj M (.deferred none)) hj ⟨rfl, rfl, rfl, by simp, fun k hk hn => World.putObj_heap_other fun e => hn (.inr (.inr ⟨.inl (e.trans hM), hk⟩))⟩
      (fun k hk => ⟨.inl (.inl (HOAO.out k hk)), by have := HO.out k hk; simp; omega⟩)
    have hfin : (KO O W (V.putObj M (.deferred none)) ∧ W.heap.size ≤ (V.putObj M (.deferred none)).heap.size ∧ KF (lp + 1) W (V.putObj M (.deferred none))) := by
      have hz1 := HZZ.out
      have he : ∀ k, k < Z → (V.putObj M (.deferred none)).heap[k]? = V.heap[k]? := fun k hk => World.putObj_heap_other (by omega)
      refine ⟨fun k hk => (he k (HO.out k hk)).trans (hko k hk), by simp; omega, by simp; omega, fun k o hk ho hc => ?_⟩
      have := lt_of_heap ho
      exact (he k (by omega)).trans (hkf.2 k o hk ho hc)
    have HFIN := hide hfin
    have HJ2 := hide hj2
    have HB6 := hide hB6
    clear hj hjz h4 hko hkf h5 hfin hj2 hB6
    go_wp2_with fail
    exact leave_mark rfl hMM (results_one17 rfl _ _ _ rfl (Try.isAgg4 _) (cells_at HB6.out 0)) ⟨HFIN.out, .inr ⟨rfl, HJ2.out⟩⟩
end
end Go.Proofs.Ytnhgdjiljjpgmaa

namespace Go.Proofs.Ytnhgdjiljjpgmaa
open Go.RowKit
attribute [local go_sem] Oper.semAt_some
theorem run_store_func (P : Program) (w : World) (a : Addr) (f : Fn) (i c : Array Value) (m : Mode) : (store a (.func f i c) m).run P w = stored P w a (.func f i c) m := run_store P w a _ m rfl
attribute [local go_sem] run_store_func

section
variable {n f b o lp rid fid bm bf bt bz be : Nat} {rlb flb : Array Value} {R : Nat → List Nat} {fits : Gr → Bool} {OB : Nat → Prop} {DD : World → Prop} {L : List Gr} {J : Nat → (Nat → Prop) → World → Prop} {Jx : (Nat → Prop) → World → Prop}
theorem each_all (H : GAsk n f b o lp rid fid bm bf bt bz be rlb flb R fits OB DD L J Jx) : ∀ k p, p + k = n → EachGoal n f b o lp rid fid bm bf bt bz be rlb flb R fits OB DD L J Jx k p
  | 0, p, h => by
    obtain rfl : p = n := h
    exact each_zero H
  | k + 1, p, h => each_succ H k p (by omega) (each_all H k (p + 1) (by omega))
end
/-- The boxes of model.graphs. -/
structure MEnv (V : World) (bm bf bt n f b o rid : Nat) (rlb : Array Value) (fid : Nat) (flb : Array Value) : Prop where
  m : V.heap[bm]? = some (.cells #[.int .i64 n, .int .i64 f, .func (.func rid) #[] rlb, .func (.func fid) #[] flb] 54 (0, 0))
  fr : NBox V bf b
  oo : NBox V bt o
theorem MEnv.of {V V' : World} {bm bf bt n f b o rid : Nat} {rlb : Array Value} {fid : Nat} {flb : Array Value} (h : MEnv V bm bf bt n f b o rid rlb fid flb) (hk : V'.heap[bm]? = V.heap[bm]? ∧ V'.heap[bf]? = V.heap[bf]? ∧ V'.heap[bt]? = V.heap[bt]?) : MEnv V' bm bf bt n f b o rid rlb fid flb :=
  ⟨hk.1.trans h.m, h.fr.of hk.2.1, h.oo.of hk.2.2⟩
theorem MEnv.ext {V V' : World} {bm bf bt n f b o rid : Nat} {rlb : Array Value} {fid : Nat} {flb : Array Value} (h : MEnv V bm bf bt n f b o rid rlb fid flb) (hE : Ext V V') : MEnv V' bm bf bt n f b o rid rlb fid flb :=
  h.of ⟨hE.b.block _ (lt_of_heap h.m), hE.b.block _ (lt_of_heap h.fr), hE.b.block _ (lt_of_heap h.oo)⟩
abbrev mdlV (n f rid : Nat) (rlb : Array Value) (fid : Nat) (flb : Array Value) : Value := .agg #[.int .i64 n, .int .i64 f, .func (.func rid) #[] rlb, .func (.func fid) #[] flb]
theorem mgraphs_any (n f b o rid fid : Nat) (rlb flb : Array Value) (w : World) : Calls Try.prog 73 #[mdlV n f rid rlb fid flb, .int .i64 b, .int .i64 o] w fun e w' =>
    e = .returned (.func (.func 87) #[] #[.pointer (some ⟨w.heap.size, 0, none⟩), .pointer (some ⟨w.heap.size + 1, 0, none⟩), .pointer (some ⟨w.heap.size + 1 + 1, 0, none⟩)]) ∧
      MEnv w' w.heap.size (w.heap.size + 1) (w.heap.size + 1 + 1) n f b o rid rlb fid flb ∧ Ext w w' := by
  go_enter Try.func73, Try.ntmps73
  go_wp2_with fail
  go_ret
  refine ⟨rfl, ⟨?_, ?_, ?_⟩, (((Ext.refl w).alloc _).alloc _).alloc _⟩
  · rw [Below.heap_alloc _ _ _ (by simp; omega), Below.heap_alloc _ _ _ (by simp)]
    exact heap_alloc_new w _
  · show _ = _
    rw [Below.heap_alloc _ _ _ (by simp)]
    have := heap_alloc_new (w.alloc (.cells #[.int .i64 n, .int .i64 f, .func (.func rid) #[] rlb, .func (.func fid) #[] flb] 54)) (.cells #[.int .i64 b] 3)
    rwa [World.size_alloc] at this
  · show _ = _
    have := heap_alloc_new ((w.alloc (.cells #[.int .i64 n, .int .i64 f, .func (.func rid) #[] rlb, .func (.func fid) #[] flb] 54)).alloc (.cells #[.int .i64 b] 3)) (.cells #[.int .i64 o] 3)
    simpa only [World.size_alloc] using this
theorem enters_mgraphs1 : ∀ args w, (callFunc 87 args).run Try.prog w = .ok (.enter 87 args) w := fun _ _ => by kernel_rfl
/-- What the closures of a model answer. -/
structure MAsk (n f b o rid fid : Nat) (rlb flb : Array Value) (R : Nat → List Nat) (fits : Gr → Bool) (DD : World → Prop) : Prop where
  n5 : n ≤ 5
  er : ∀ args w, (callFunc rid args).run Try.prog w = .ok (.enter rid args) w
  ef : ∀ args w, (callFunc fid args).run Try.prog w = .ok (.enter fid args) w
  rows : ∀ p V, p < n → DD V → Calls Try.prog rid (#[.int .i64 p, .int .i64 b, .int .i64 o] ++ rlb) V fun e V' => ∃ gl gh low high, e = .returned (.func (.func 49) #[] #[.pointer (some ⟨gh, 0, none⟩), .pointer (some ⟨gl, 0, none⟩)]) ∧
    NBox V' gl (low : Nat) ∧ NBox V' gh (high : Nat) ∧ V.heap.size ≤ gl ∧ V.heap.size ≤ gh ∧ betwL low high = R p ∧ low < 32 ∧ high < 32 ∧ Ext V V'
  fit : ∀ g V, GS n g → DD V → Calls Try.prog fid (#[Gr.v g, .int .i64 b, .int .i64 o] ++ flb) V fun e V' => e = .returned (.bool (fits g)) ∧ Ext V V'
set_option maxHeartbeats 2000000 in
/-- The graphs of a model. -/
theorem mgraphs_seq {n f b o rid fid : Nat} {rlb flb : Array Value} {R : Nat → List Nat} {fits : Gr → Bool} {DD : World → Prop} (H : MAsk n f b o rid fid rlb flb R fits DD) (bm bf bt : Nat) :
    SeqY Try.prog 87 #[.pointer (some ⟨bm, 0, none⟩), .pointer (some ⟨bf, 0, none⟩), .pointer (some ⟨bt, 0, none⟩)] (fun W => MEnv W bm bf bt n f b o rid rlb fid flb) (fun k => k = bm ∨ k = bf ∨ k = bt) DD
      (eachG R fits n 0 (gzn n)).length (fun i _ x _ => ∃ g, (eachG R fits n 0 (gzn n))[i]? = some g ∧ x = #[Gr.v g]) := by
  intro lp J Jx W hD hJ hJx hY hlp hI hO0 h0
  obtain ⟨w2, hw2⟩ : ∃ w2, (W.alloc (.cells #[.func (.yield lp) #[] #[]] 98)).alloc (.cells #[.func (.func 88) #[] #[.pointer (some ⟨bm, 0, none⟩), .pointer (some ⟨bf, 0, none⟩), .pointer (some ⟨bt, 0, none⟩), .pointer (some ⟨W.heap.size, 0, none⟩), .pointer (some ⟨W.heap.size + 1, 0, none⟩)]] 99) = w2 := ⟨_, rfl⟩
  have hE2 : Ext W w2 := by rw [← hw2]; exact ((Ext.refl W).alloc _).alloc _
  have hz2 : w2.heap.size = W.heap.size + 1 + 1 := by rw [← hw2]; simp
  have hG : GEnv w2 bm bf bt W.heap.size (W.heap.size + 1) n f b o lp rid rlb fid flb := by
    have hI2 := hI.ext hE2
    refine ⟨hI2.m, hI2.fr, hI2.oo, ?_, ?_⟩
    · rw [← hw2]
      exact (Below.heap_alloc _ _ _ (by simp)).trans (heap_alloc_new W _)
    · rw [← hw2]
      have := heap_alloc_new (W.alloc (.cells #[.func (.yield lp) #[] #[]] 98)) (.cells #[.func (.func 88) #[] #[.pointer (some ⟨bm, 0, none⟩), .pointer (some ⟨bf, 0, none⟩), .pointer (some ⟨bt, 0, none⟩), .pointer (some ⟨W.heap.size, 0, none⟩), .pointer (some ⟨W.heap.size + 1, 0, none⟩)]] 99)
      rwa [World.size_alloc] at this
  have m0w : W.cell? ⟨bm, 0, none⟩ = some (.int .i64 n) := cells_at hI.m 0
  have zmw := lt_of_heap hI.m
  have HG := hide hG
  have HE2 := hide hE2
  have HZ2 := hide hz2
  have HH := hide H
  have HD := hide hD
  have HJ := hide hJ
  have HJX := hide hJx
  have HY := hide hY
  have HO0 := hide hO0
  have H0 := hide h0
  have HLP := hide hlp
  have HW2 := hide hw2
  clear hG hE2 hz2 hD hJ hJx hY hO0 h0 hlp hw2 hI H
  refine (callsIn_wide (n := 0)).2 ?_
  refine calls_of_wp Try.func87 rfl ?_
  simp only [Try.ntmps87, List.size_toArray, List.length_cons, List.length_nil, Nat.reduceAdd, Nat.reduceSub, Array.replicate_succ, Array.replicate_zero, List.push_toArray, List.append_toArray, List.nil_append, List.cons_append]
  go_wp2_with fail
  rw [HW2.out]
  obtain ⟨OB, hOB⟩ : ∃ OB : Nat → Prop, OB = fun k => (k = bm ∨ k = bf ∨ k = bt) ∨ k = W.heap.size ∨ k = W.heap.size + 1 := ⟨_, rfl⟩
  have hOBz : ∀ k, OB k → k < w2.heap.size := fun k hk => by
    have := HZ2.out
    rw [hOB] at hk
    rcases hk with hk | rfl | rfl
    · have := HO0.out k hk; omega
    · omega
    · omega
  have hj2 : J 0 OB w2 := HJ.out 0 _ OB _ _ H0.out (Off.of_ext HE2.out) fun k hk => ⟨by
    rw [hOB] at hk
    rcases hk with hk | rfl | rfl
    · exact .inl hk
    · exact .inr (Nat.le_refl _)
    · exact .inr (by omega), hOBz k hk⟩
  have ask : GAsk n f b o lp rid fid bm bf bt W.heap.size (W.heap.size + 1) rlb flb R fits OB DD (eachG R fits n 0 (gzn n)) J Jx :=
    ⟨HH.out.n5, by rw [hOB]; exact ⟨.inl (.inl rfl), .inl (.inr (.inl rfl)), .inl (.inr (.inr rfl)), .inr (.inl rfl), .inr (.inr rfl)⟩, HD.out, HH.out.er, HH.out.ef, HH.out.rows, HH.out.fit, HJ.out, HJX.out,
      fun i g O W' hg hj hO => HY.out i #[Gr.v g] O W' (List.getElem?_eq_some_iff.1 hg).1 ⟨g, hg, rfl⟩ hj hO⟩
  refine ((each_all ask n 0 (by omega)) (gzn n) 0 OB w2 (GS.zero n) (fun j x h => by rw [Nat.zero_add]; exact h) hj2 hOBz (fun _ h => h) HG.out (by have := HLP.out; have := HZ2.out; omega)).mono ?_
  rintro e V ⟨-, ⟨rfl, h⟩ | ⟨rfl, h⟩⟩
  · go_wp2_with fail
    refine bodyPost_end (results_none rfl _ _ _) rfl ⟨⟨_, rfl⟩, OB, .inl ?_⟩
    rwa [Nat.zero_add] at h
  · go_wp2_with fail
    exact bodyPost_end (results_none rfl _ _ _) rfl ⟨⟨_, rfl⟩, OB, .inr h⟩
end Go.Proofs.Ytnhgdjiljjpgmaa
