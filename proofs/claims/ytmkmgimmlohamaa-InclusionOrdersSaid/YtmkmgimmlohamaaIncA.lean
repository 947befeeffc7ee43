/-
  The examples of law 20.
  Conditions: none.
-/
import Derived.RegionTactic
import Derived.ChangeAlike
import Derived.Test.YtmkmgimmlohamaaIncSimP
import Derived.Test.YtmkmgimmlohamaaIncVP
import Derived.Test.YtmkmgimmlohamaaIncXP
namespace Go.Proofs.Ytmkmgimmlohamaa
open Go.RowKit
attribute [local go_sem] Oper.semAt_some

abbrev lx : Rd := ⟨⟨2, 3, 2, 0, 0, 0⟩, 0⟩
abbrev ly : Rd := ⟨⟨2, 3, 3, 0, 0, 0⟩, 0⟩
def AA : Adv := ⟨2, [[⟨lx, 0⟩, ⟨ly, 0⟩]]⟩
def BB : Adv := ⟨2, [[⟨ly, 1⟩], [⟨lx, 1⟩, ⟨ly, 1⟩]]⟩
theorem letter_any (a b : Int) (w : World) : Calls Try.prog 31 #[.int .i64 a, .int .i64 b] w fun e w' => e = .returned (Rd.v ⟨⟨2, a, b, 0, 0, 0⟩, 0⟩) ∧ Ext w w' := by
  have hb := heap_alloc_new w (.cells #[.int .i64 2, .int .i64 a, .int .i64 b, .int .i64 0, .int .i64 0, .int .i64 0, .int .i64 0] 43)
  have HB := hide hb
  clear hb
  go_enter Try.func31, Try.ntmps31
  go_wp2_with fail
  have hE := (Ext.refl w).alloc (.cells #[.int .i64 2, .int .i64 a, .int .i64 b, .int .i64 0, .int .i64 0, .int .i64 0, .int .i64 0] 43)
  generalize w.alloc (.cells #[.int .i64 2, .int .i64 a, .int .i64 b, .int .i64 0, .int .i64 0, .int .i64 0, .int .i64 0] 43) = W at HB hE ⊢
  have c0 := dcell HB.out 0
  have c1 := dcell HB.out 1
  have c2 := dcell HB.out 2
  have c3 := dcell HB.out 3
  have c4 := dcell HB.out 4
  have c5 := dcell HB.out 5
  have c6 := dcell HB.out 6
  exact bodyPost_ret (v := Rd.v ⟨⟨2, a, b, 0, 0, 0⟩, 0⟩) (by simp [results, Try.f31, go_sem, c0, c1, c2, c3, c4, c5, c6]) rfl ⟨rfl, hE⟩
/-- The blocks of the examples, from b on. -/
structure ExBl (b : Nat) (W : World) : Prop where
  a0 : W.heap[b + 2]? = some (.cells #[.int .i64 2, .int .i64 3, .int .i64 2, .int .i64 0, .int .i64 0, .int .i64 0, .int .i64 0, .int .i64 0, .int .i64 2, .int .i64 3, .int .i64 3, .int .i64 0, .int .i64 0, .int .i64 0, .int .i64 0, .int .i64 0] 101 (0, 0))
  ao : W.heap[b + 3]? = some (.cells #[.slice (some ⟨b + 2, 0, none⟩) 2 2] 89 (0, 0))
  ab : W.heap[b + 4]? = some (.cells #[.int .i64 2, .slice (some ⟨b + 3, 0, none⟩) 1 1] 24 (0, 0))
  b0 : W.heap[b + 5]? = some (.cells #[.int .i64 2, .int .i64 3, .int .i64 3, .int .i64 0, .int .i64 0, .int .i64 0, .int .i64 0, .int .i64 1] 101 (0, 0))
  b1 : W.heap[b + 6]? = some (.cells #[.int .i64 2, .int .i64 3, .int .i64 2, .int .i64 0, .int .i64 0, .int .i64 0, .int .i64 0, .int .i64 1, .int .i64 2, .int .i64 3, .int .i64 3, .int .i64 0, .int .i64 0, .int .i64 0, .int .i64 0, .int .i64 1] 101 (0, 0))
  bo : W.heap[b + 7]? = some (.cells #[.slice (some ⟨b + 5, 0, none⟩) 1 1, .slice (some ⟨b + 6, 0, none⟩) 2 2] 89 (0, 0))
  bb : W.heap[b + 8]? = some (.cells #[.int .i64 2, .slice (some ⟨b + 7, 0, none⟩) 2 2] 24 (0, 0))
theorem ExBl.of {b : Nat} {W W' : World} (h : ExBl b W) (hh : ∀ k, b ≤ k → k ≤ b + 8 → W'.heap[k]? = W.heap[k]?) : ExBl b W' :=
  ⟨(hh _ (by omega) (by omega)).trans h.a0, (hh _ (by omega) (by omega)).trans h.ao, (hh _ (by omega) (by omega)).trans h.ab, (hh _ (by omega) (by omega)).trans h.b0, (hh _ (by omega) (by omega)).trans h.b1, (hh _ (by omega) (by omega)).trans h.bo, (hh _ (by omega) (by omega)).trans h.bb⟩
theorem row_of_cells {α : Type} {enc : α → List Value} {size : Nat} (hs : ∀ x, (enc x).length = size) {W : World} {g : Nat} {e : TypeId} {l : List α} (hg : W.heap[g]? = some (.cells (l.flatMap enc).toArray e (0, 0))) (hl : l.length ≤ 100000) :
    Row enc size W (.slice (some ⟨g, 0, none⟩) l.length l.length) l := by
  refine ⟨_, _, rfl, Nat.le_refl _, by omega, fun _ => ⟨g, 0, rfl, lt_of_heap hg, fun i x hx j u hu => ?_⟩⟩
  have hj : j < size := by
    rcases Nat.lt_or_ge j size with h | h
    · exact h
    · rw [List.getElem?_eq_none (by rw [hs]; exact h)] at hu; cases hu
  rw [Nat.zero_add, cell_of_row _ _ _ _ _ _ hg, List.getElem?_toArray, flat_get hs l i j x hx hj]
  exact hu
theorem rows2_of {α : Type} {enc : α → List Value} {size : Nat} {W : World} {g : Nat} {e : TypeId} {vs : List Value} {xss : List (List α)} (hg : W.heap[g]? = some (.cells vs.toArray e (0, 0))) (hl : vs.length = xss.length) (hl2 : xss.length ≤ 100000)
    (h : ∀ (i : Nat) (v : Value) (xs : List α), vs[i]? = some v → xss[i]? = some xs → Row enc size W v xs) : Rows2 enc size W (.slice (some ⟨g, 0, none⟩) xss.length xss.length) xss := by
  refine ⟨vs, hl, ?_, h⟩
  rw [← hl]
  exact row_of_cells (enc := one) (size := 1) (fun _ => rfl) (by simpa using hg) (by omega)
theorem ExBl.advA {b : Nat} {W : World} (h : ExBl b W) : AdvRep W (.agg #[.int .i64 2, .slice (some ⟨b + 3, 0, none⟩) 1 1]) AA := by
  refine ⟨_, rfl, rows2_of (xss := AA.st) (vs := [.slice (some ⟨b + 2, 0, none⟩) 2 2]) h.ao rfl (by decide) fun i v xs hv hx => ?_⟩
  obtain rfl | hi : i = 0 ∨ 1 ≤ i := by omega
  · simp only [AA, List.getElem?_cons_zero, Option.some.injEq] at hv hx
    subst hv hx
    exact row_of_cells (enc := Mv.cells) (size := 8) (l := [⟨lx, 0⟩, ⟨ly, 0⟩]) (fun _ => rfl) h.a0 (by decide)
  · rw [List.getElem?_eq_none (by show 1 ≤ i; exact hi)] at hx; cases hx
theorem ExBl.advB {b : Nat} {W : World} (h : ExBl b W) : AdvRep W (.agg #[.int .i64 2, .slice (some ⟨b + 7, 0, none⟩) 2 2]) BB := by
  refine ⟨_, rfl, rows2_of (xss := BB.st) (vs := [.slice (some ⟨b + 5, 0, none⟩) 1 1, .slice (some ⟨b + 6, 0, none⟩) 2 2]) h.bo rfl (by decide) fun i v xs hv hx => ?_⟩
  obtain rfl | rfl | hi : i = 0 ∨ i = 1 ∨ 2 ≤ i := by omega
  · simp only [BB, List.getElem?_cons_zero, Option.some.injEq] at hv hx
    subst hv hx
    exact row_of_cells (enc := Mv.cells) (size := 8) (l := [⟨ly, 1⟩]) (fun _ => rfl) h.b0 (by decide)
  · simp only [BB, List.getElem?_cons_zero, List.getElem?_cons_succ, Option.some.injEq] at hv hx
    subst hv hx
    exact row_of_cells (enc := Mv.cells) (size := 8) (l := [⟨lx, 1⟩, ⟨ly, 1⟩]) (fun _ => rfl) h.b1 (by decide)
  · rw [List.getElem?_eq_none (by show 2 ≤ i; exact hi)] at hx; cases hx
theorem exbl_new {w2 : World} {b : Nat} (hb : w2.heap.size = b) : ExBl b ((((((((((w2).alloc (.cells #[.int .i64 2, .int .i64 3, .int .i64 2, .int .i64 0, .int .i64 0, .int .i64 0, .int .i64 0] 43)).alloc (.cells #[.int .i64 2, .int .i64 3, .int .i64 3, .int .i64 0, .int .i64 0, .int .i64 0, .int .i64 0] 43)).alloc (.cells #[.int .i64 2, .int .i64 3, .int .i64 2, .int .i64 0, .int .i64 0, .int .i64 0, .int .i64 0, .int .i64 0, .int .i64 2, .int .i64 3, .int .i64 3, .int .i64 0, .int .i64 0, .int .i64 0, .int .i64 0, .int .i64 0] 101)).alloc (.cells #[.slice (some ⟨b + 2, 0, none⟩) 2 2] 89)).alloc (.cells #[.int .i64 2, .slice (some ⟨b + 3, 0, none⟩) 1 1] 24)).alloc (.cells #[.int .i64 2, .int .i64 3, .int .i64 3, .int .i64 0, .int .i64 0, .int .i64 0, .int .i64 0, .int .i64 1] 101)).alloc (.cells #[.int .i64 2, .int .i64 3, .int .i64 2, .int .i64 0, .int .i64 0, .int .i64 0, .int .i64 0, .int .i64 1, .int .i64 2, .int .i64 3, .int .i64 3, .int .i64 0, .int .i64 0, .int .i64 0, .int .i64 0, .int .i64 1] 101)).alloc (.cells #[.slice (some ⟨b + 5, 0, none⟩) 1 1, .slice (some ⟨b + 6, 0, none⟩) 2 2] 89)).alloc (.cells #[.int .i64 2, .slice (some ⟨b + 7, 0, none⟩) 2 2] 24)) ∧ ((((((((((w2).alloc (.cells #[.int .i64 2, .int .i64 3, .int .i64 2, .int .i64 0, .int .i64 0, .int .i64 0, .int .i64 0] 43)).alloc (.cells #[.int .i64 2, .int .i64 3, .int .i64 3, .int .i64 0, .int .i64 0, .int .i64 0, .int .i64 0] 43)).alloc (.cells #[.int .i64 2, .int .i64 3, .int .i64 2, .int .i64 0, .int .i64 0, .int .i64 0, .int .i64 0, .int .i64 0, .int .i64 2, .int .i64 3, .int .i64 3, .int .i64 0, .int .i64 0, .int .i64 0, .int .i64 0, .int .i64 0] 101)).alloc (.cells #[.slice (some ⟨b + 2, 0, none⟩) 2 2] 89)).alloc (.cells #[.int .i64 2, .slice (some ⟨b + 3, 0, none⟩) 1 1] 24)).alloc (.cells #[.int .i64 2, .int .i64 3, .int .i64 3, .int .i64 0, .int .i64 0, .int .i64 0, .int .i64 0, .int .i64 1] 101)).alloc (.cells #[.int .i64 2, .int .i64 3, .int .i64 2, .int .i64 0, .int .i64 0, .int .i64 0, .int .i64 0, .int .i64 1, .int .i64 2, .int .i64 3, .int .i64 3, .int .i64 0, .int .i64 0, .int .i64 0, .int .i64 0, .int .i64 1] 101)).alloc (.cells #[.slice (some ⟨b + 5, 0, none⟩) 1 1, .slice (some ⟨b + 6, 0, none⟩) 2 2] 89)).alloc (.cells #[.int .i64 2, .slice (some ⟨b + 7, 0, none⟩) 2 2] 24)).heap.size = b + 9 := by
  subst hb
  refine ⟨⟨?_, ?_, ?_, ?_, ?_, ?_, ?_⟩, by simp⟩
  all_goals
    simp only [show ∀ (V : World) o, (V.alloc o).heap = V.heap.push o from fun _ _ => rfl, Array.getElem?_push, Array.size_push]
    repeat (first | rw [if_pos (by omega)] | rw [if_neg (by omega)])
    try simp
set_option maxRecDepth 16000 in
set_option maxHeartbeats 1000000 in
theorem examples_any (w : World) : Calls Try.prog 30 #[] w fun e w' => ∃ u v, e = .returned (.tuple #[u, v]) ∧ AdvRep w' u AA ∧ AdvRep w' v BB ∧ Ext w w' := by
  go_enter Try.func30, Try.ntmps30
  go_wp2_with fail
  have hz := heap_alloc_new w (.cells #[.int .i64 0, .slice none 0 0] 24)
  have hz1 := heap_alloc_new (w.alloc (.cells #[.int .i64 0, .slice none 0 0] 24)) (.cells #[.int .i64 0, .slice none 0 0] 24)
  rw [World.size_alloc] at hz1
  have hz0 := (Below.heap_alloc _ (.cells #[.int .i64 0, .slice none 0 0] 24) _ (lt_of_heap hz)).trans hz
  have hEE := ((Ext.refl w).alloc (.cells #[.int .i64 0, .slice none 0 0] 24)).alloc (.cells #[.int .i64 0, .slice none 0 0] 24)
  have HZ0 := hide hz0
  have HZ1 := hide hz1
  have HEE := hide hEE
  clear hz hz0 hz1 hEE
  refine (letter_any 3 2 _).mono ?_
  rintro e w1 ⟨rfl, hE1⟩
  have HZ0 := hide ((hE1.b.block _ (lt_of_heap HZ0.out)).trans HZ0.out)
  have HZ1 := hide ((hE1.b.block _ (lt_of_heap HZ1.out)).trans HZ1.out)
  have HEE := hide (HEE.out.trans hE1)
  clear hE1
  go_wp2_with fail
  refine (letter_any 3 3 _).mono ?_
  rintro e w2 ⟨rfl, hE2⟩
  have HZ0 := hide ((hE2.b.block _ (lt_of_heap HZ0.out)).trans HZ0.out)
  have HZ1 := hide ((hE2.b.block _ (lt_of_heap HZ1.out)).trans HZ1.out)
  have HEE := hide (HEE.out.trans hE2)
  clear hE2
  go_upto_region 4 with fail
  simp only [Nat.add_assoc, Nat.reduceAdd]
  obtain ⟨b, hb⟩ : ∃ b, w2.heap.size = b := ⟨_, rfl⟩
  rw [hb]
  have HWB : Hid (w.heap.size + 1 < b) := by
    have := lt_of_heap HZ1.out
    show _ < _
    omega
  have hE3 : Ext w2 ((((((((((w2).alloc (.cells #[.int .i64 2, .int .i64 3, .int .i64 2, .int .i64 0, .int .i64 0, .int .i64 0, .int .i64 0] 43)).alloc (.cells #[.int .i64 2, .int .i64 3, .int .i64 3, .int .i64 0, .int .i64 0, .int .i64 0, .int .i64 0] 43)).alloc (.cells #[.int .i64 2, .int .i64 3, .int .i64 2, .int .i64 0, .int .i64 0, .int .i64 0, .int .i64 0, .int .i64 0, .int .i64 2, .int .i64 3, .int .i64 3, .int .i64 0, .int .i64 0, .int .i64 0, .int .i64 0, .int .i64 0] 101)).alloc (.cells #[.slice (some ⟨b + 2, 0, none⟩) 2 2] 89)).alloc (.cells #[.int .i64 2, .slice (some ⟨b + 3, 0, none⟩) 1 1] 24)).alloc (.cells #[.int .i64 2, .int .i64 3, .int .i64 3, .int .i64 0, .int .i64 0, .int .i64 0, .int .i64 0, .int .i64 1] 101)).alloc (.cells #[.int .i64 2, .int .i64 3, .int .i64 2, .int .i64 0, .int .i64 0, .int .i64 0, .int .i64 0, .int .i64 1, .int .i64 2, .int .i64 3, .int .i64 3, .int .i64 0, .int .i64 0, .int .i64 0, .int .i64 0, .int .i64 1] 101)).alloc (.cells #[.slice (some ⟨b + 5, 0, none⟩) 1 1, .slice (some ⟨b + 6, 0, none⟩) 2 2] 89)).alloc (.cells #[.int .i64 2, .slice (some ⟨b + 7, 0, none⟩) 2 2] 24)) := ((((((((((Ext.refl w2)).alloc _).alloc _).alloc _).alloc _).alloc _).alloc _).alloc _).alloc _).alloc _
  have HBL := hide (exbl_new hb)
  have HZ0 := hide ((hE3.b.block _ (lt_of_heap HZ0.out)).trans HZ0.out)
  have HZ1 := hide ((hE3.b.block _ (lt_of_heap HZ1.out)).trans HZ1.out)
  have HEE := hide (HEE.out.trans hE3)
  clear hE3 hb
  generalize (((((((((w2).alloc (.cells #[.int .i64 2, .int .i64 3, .int .i64 2, .int .i64 0, .int .i64 0, .int .i64 0, .int .i64 0] 43)).alloc (.cells #[.int .i64 2, .int .i64 3, .int .i64 3, .int .i64 0, .int .i64 0, .int .i64 0, .int .i64 0] 43)).alloc (.cells #[.int .i64 2, .int .i64 3, .int .i64 2, .int .i64 0, .int .i64 0, .int .i64 0, .int .i64 0, .int .i64 0, .int .i64 2, .int .i64 3, .int .i64 3, .int .i64 0, .int .i64 0, .int .i64 0, .int .i64 0, .int .i64 0] 101)).alloc (.cells #[.slice (some ⟨b + 2, 0, none⟩) 2 2] 89)).alloc (.cells #[.int .i64 2, .slice (some ⟨b + 3, 0, none⟩) 1 1] 24)).alloc (.cells #[.int .i64 2, .int .i64 3, .int .i64 3, .int .i64 0, .int .i64 0, .int .i64 0, .int .i64 0, .int .i64 1] 101)).alloc (.cells #[.int .i64 2, .int .i64 3, .int .i64 2, .int .i64 0, .int .i64 0, .int .i64 0, .int .i64 0, .int .i64 1, .int .i64 2, .int .i64 3, .int .i64 3, .int .i64 0, .int .i64 0, .int .i64 0, .int .i64 0, .int .i64 1] 101)).alloc (.cells #[.slice (some ⟨b + 5, 0, none⟩) 1 1, .slice (some ⟨b + 6, 0, none⟩) 2 2] 89)).alloc (.cells #[.int .i64 2, .slice (some ⟨b + 7, 0, none⟩) 2 2] 24) = V0 at HBL HZ0 HZ1 HEE ⊢
  have hba := HBL.out.1.ab
  have hbb := HBL.out.1.bb
  refine wp_region_heldB (fun Z : World => Z.heap[b + 4]? = V0.heap[b + 4]? ∧ Z.heap[b + 8]? = V0.heap[b + 8]?) (fun j => decide (j = 3)) (by kernel_rfl) ?_
  intro V1 hV1
  have hE1 : Ext V0 V1 := by rw [hV1]; exact (Ext.refl _).drew
  have hSd : V1.heap[b + 4]? = V0.heap[b + 4]? ∧ V1.heap[b + 8]? = V0.heap[b + 8]? := ⟨hE1.b.block _ (lt_of_heap hba), hE1.b.block _ (lt_of_heap hbb)⟩
  have HE1 := hide hE1
  clear hE1 hV1
  refine wpAnyT_takeB (i := 0) (.agg #[.int .i64 2, .slice (some ⟨b + 3, 0, none⟩) 1 1]) rfl (by kernel_rfl) (fun j hj => by obtain rfl := of_decide_eq_true hj; kernel_rfl) (by kernel_rfl) (by kernel_rfl) (by simp [Region.wanted]) (fun Z hZ => by
    have x0 := dcell (hZ.1.trans hba) 0
    have x1 := dcell (hZ.1.trans hba) 1
    have xz := lt_of_heap (hZ.1.trans hba)
    go_simp) hSd ?_
  try simp only [Act.put, List.getElem_toArray, List.getElem_cons_zero, List.setIfInBounds_toArray, List.set_cons_zero, List.set_cons_succ]
  refine wpAnyT_takeB (i := 1) (.agg #[.int .i64 2, .slice (some ⟨b + 7, 0, none⟩) 2 2]) rfl (by kernel_rfl) (fun j hj => by obtain rfl := of_decide_eq_true hj; kernel_rfl) (by kernel_rfl) (by kernel_rfl) (by simp [Region.wanted]) (fun Z hZ => by
    have x0 := dcell (hZ.2.trans hbb) 0
    have x1 := dcell (hZ.2.trans hbb) 1
    have xz := lt_of_heap (hZ.2.trans hbb)
    go_simp) hSd ?_
  try simp only [Act.put, List.getElem_toArray, List.getElem_cons_zero, List.getElem_cons_succ, List.setIfInBounds_toArray, List.set_cons_zero, List.set_cons_succ]
  have hz0 := (HE1.out.b.block _ (lt_of_heap HZ0.out)).trans HZ0.out
  have hz1 := (HE1.out.b.block _ (lt_of_heap HZ1.out)).trans HZ1.out
  have HZ0 := hide hz0
  have HZ1 := hide hz1
  have HEE := hide (HEE.out.trans HE1.out)
  have HX : Hid (ExBl b V1) := HBL.out.1.of fun k _ hk => HE1.out.b.block k (by have := HBL.out.2; omega)
  have HS := hide hSd
  clear hSd hz0 hz1 HBL hba hbb
  have c0 := dcell HZ0.out 0
  have c1 := dcell HZ0.out 1
  have f0 := frozen_row HZ0.out 0
  have f1 := frozen_row HZ0.out 1
  have cz := lt_of_heap HZ0.out
  refine wpAnyT_oneB (i := 2) rfl (by kernel_rfl) (fun KK' hKK' => ?_)
  go_wp2_with fail
  obtain ⟨V2, hV2⟩ : ∃ V, V = ((V1.setCell ⟨w.heap.size, 0, none⟩ (.int .i64 2)).setCell ⟨w.heap.size, 1, none⟩ (.slice (some ⟨b + 3, 0, none⟩) 1 1)) := ⟨_, rfl⟩
  rw [← hV2]
  have hk : ∀ k, k ≠ w.heap.size → V2.heap[k]? = V1.heap[k]? := fun k hk => by rw [hV2, Below.heap_setCell _ _ _ _ hk, Below.heap_setCell _ _ _ _ hk]
  have h20 : V2.heap[w.heap.size]? = some (.cells #[.int .i64 2, .slice (some ⟨b + 3, 0, none⟩) 1 1] 24 (0, 0)) := by
    rw [hV2]
    exact heap_set (heap_set HZ0.out _) _
  have HK2 := hide hk
  have H20 := hide h20
  have HEE2 : Hid (Ext w V2) := by
    show Ext _ _
    rw [hV2]
    exact (HEE.out.setCell (p := ⟨w.heap.size, 0, none⟩) (Nat.le_refl _) _).setCell (p := ⟨w.heap.size, 1, none⟩) (Nat.le_refl _) _
  have HZ12 := hide ((hk (w.heap.size + 1) (by omega)).trans HZ1.out)
  clear hV2 h20 hk c0 c1 f0 f1 cz HEE HZ0
  refine ⟨rfl, hKK' _ _ (fun _ => ⟨(HK2.out _ (by have := HWB.out; omega)).trans HS.out.1, (HK2.out _ (by have := HWB.out; omega)).trans HS.out.2⟩) ?_⟩
  clear hKK' KK'
  try simp only [Act.put, List.getElem_toArray, List.getElem_cons_zero, List.getElem_cons_succ, List.setIfInBounds_toArray, List.set_cons_zero, List.set_cons_succ]
  have c0 := dcell HZ12.out 0
  have c1 := dcell HZ12.out 1
  have f0 := frozen_row HZ12.out 0
  have f1 := frozen_row HZ12.out 1
  have cz := lt_of_heap HZ12.out
  refine wpAnyT_oneB (i := 3) rfl (by kernel_rfl) (fun KK' hKK' => ?_)
  go_wp2_with fail
  obtain ⟨V3, hV3⟩ : ∃ V, V = ((V2.setCell ⟨w.heap.size + 1, 0, none⟩ (.int .i64 2)).setCell ⟨w.heap.size + 1, 1, none⟩ (.slice (some ⟨b + 7, 0, none⟩) 2 2)) := ⟨_, rfl⟩
  rw [← hV3]
  have hk : ∀ k, k ≠ w.heap.size + 1 → V3.heap[k]? = V2.heap[k]? := fun k hk => by rw [hV3, Below.heap_setCell _ _ _ _ hk, Below.heap_setCell _ _ _ _ hk]
  have h31 : V3.heap[w.heap.size + 1]? = some (.cells #[.int .i64 2, .slice (some ⟨b + 7, 0, none⟩) 2 2] 24 (0, 0)) := by
    rw [hV3]
    exact heap_set (heap_set HZ12.out _) _
  have h30 := (hk w.heap.size (by omega)).trans H20.out
  have HEE3 : Hid (Ext w V3) := by
    show Ext _ _
    rw [hV3]
    exact (HEE2.out.setCell (p := ⟨w.heap.size + 1, 0, none⟩) (by show w.heap.size ≤ w.heap.size + 1; omega) _).setCell (p := ⟨w.heap.size + 1, 1, none⟩) (by show w.heap.size ≤ w.heap.size + 1; omega) _
  have HX3 : Hid (ExBl b V3) := HX.out.of fun k hb _ => (hk k (by have := HWB.out; omega)).trans (HK2.out k (by have := HWB.out; omega))
  have H30 := hide h30
  have H31 := hide h31
  clear hV3 h30 h31 hk c0 c1 f0 f1 cz HEE2 HZ12
  refine ⟨rfl, hKK' _ _ (fun h => by cases h) ?_⟩
  clear hKK' KK'
  refine wpAnyT_done (by kernel_rfl) ?_ _
  have c00 := dcell H30.out 0
  have c01 := dcell H30.out 1
  have c10 := dcell H31.out 0
  have c11 := dcell H31.out 1
  go_wp2_with fail
  exact bodyPost_ret (v := .tuple #[.agg #[.int .i64 2, .slice (some ⟨b + 3, 0, none⟩) 1 1], .agg #[.int .i64 2, .slice (some ⟨b + 7, 0, none⟩) 2 2]]) (by simp [results, Try.f30, go_sem, c00, c01, c10, c11]) rfl ⟨_, _, rfl, HX3.out.advA, HX3.out.advB, HEE3.out⟩
end Go.Proofs.Ytmkmgimmlohamaa
