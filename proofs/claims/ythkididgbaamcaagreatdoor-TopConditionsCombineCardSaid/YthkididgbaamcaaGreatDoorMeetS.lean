/-
  slices.CompactFunc, SortFunc, Clone, Grow, Concat on vectors; relate.sorted and the closure of Join.
  Conditions: as each theorem states.
-/
import Derived.Test.YthkididgbaamcaaGreatDoorTaskA
import Derived.Test.YthkididgbaamcaaGreatDoorMeetL
import Derived.Lib.SliceRun
import Derived.Shelf.SlSortCmp.Whole1
import Derived.Shelf.Spec.SlicesGrow
namespace Go.Proofs.YthkididgbaamcaaGreatDoor
open Go.RowKit
attribute [local go_sem] Oper.semAt_some

section
variable {w : World} {base : Nat} {e : TypeId} {g n c : Nat} {vs : List Value}
theorem Own.cell1 (h : Own one 1 w base e (.slice (some ⟨g, 0, none⟩) n c) vs) {j : Nat} {v : Value} (hj : vs[j]? = some v) : w.cell? ⟨g, j, none⟩ = some v := by
  have := h.2.cells (g := g) rfl (j * 1 + 0) v (by rw [flat_get h.1 vs j 0 v hj (by decide)]; rfl)
  rw [add_lit, Nat.mul_one, Nat.add_zero] at this
  exact this
theorem Own.frozen1 (h : Own one 1 w base e (.slice (some ⟨g, 0, none⟩) n c) vs) (j : Nat) : w.frozen? ⟨g, j, none⟩ = false := by
  obtain ⟨cur, fr, hh⟩ := h.typed g rfl
  rcases h.2.2 with ⟨h1, _⟩ | ⟨g', cap, cur', h1, _, h3, _⟩
  · cases h1
  · injection h1 with h1
    injection h1 with h1
    injection h1 with h1
    subst h1
    exact frozen_of h3
theorem Own.parts (h : Own one 1 w base e (.slice (some ⟨g, 0, none⟩) n c) vs) : ∃ cur, w.heap[g]? = some (.cells cur e (0, 0)) ∧ base ≤ g ∧ vs.length = n ∧ n ≤ c ∧ c ≤ maxLen ∧ cur.size = c ∧ cur.toList.take n = vs := by
  have hfl : vs.flatMap one = vs := by
    have : ∀ l : List Value, l.flatMap one = l := fun l => by
      induction l with
      | nil => rfl
      | cons a l ih => rw [List.flatMap_cons, ih]; rfl
    exact this vs
  rcases h.2.2 with ⟨h1, _⟩ | ⟨g', cap, cur, h1, h2, h3, h4, h5, h6, h7⟩
  · cases h1
  · injection h1 with h1 e2 e3
    injection h1 with h1
    injection h1 with h1
    subst h1
    subst e3
    rw [hfl, Nat.mul_one] at h7
    rw [Nat.mul_one] at h6
    exact ⟨cur, h3, h2, e2.symm, by omega, h5, h6, by rw [e2]; exact h7⟩
theorem Own.ofParts {cur : Array Value} (h1 : w.heap[g]? = some (.cells cur e (0, 0))) (h2 : base ≤ g) (h3 : vs.length = n) (h4 : n ≤ c) (h5 : c ≤ maxLen) (h6 : cur.size = c) (h7 : cur.toList.take n = vs) : Own one 1 w base e (.slice (some ⟨g, 0, none⟩) n c) vs := by
  have hfl : vs.flatMap one = vs := by
    have : ∀ l : List Value, l.flatMap one = l := fun l => by
      induction l with
      | nil => rfl
      | cons a l ih => rw [List.flatMap_cons, ih]; rfl
    exact this vs
  refine ⟨fun _ => rfl, by rw [hfl]; omega, .inr ⟨g, c, cur, by rw [h3], h2, h1, by omega, h5, by omega, by rw [hfl, Nat.mul_one, h3]; exact h7⟩⟩
/-- A store into one's own slice. -/
theorem Own.put1 (h : Own one 1 w base e (.slice (some ⟨g, 0, none⟩) n c) vs) (k : Nat) (v : Value) : Own one 1 (w.setCell ⟨g, k, none⟩ v) base e (.slice (some ⟨g, 0, none⟩) n c) (vs.set k v) := by
  obtain ⟨cur, h1, h2, h3, h4, h5, h6, h7⟩ := h.parts
  refine Own.ofParts (heap_set h1 v) h2 (by rw [List.length_set]; exact h3) h4 h5 (by rw [Array.size_setIfInBounds]; exact h6) ?_
  rw [Array.toList_setIfInBounds, ← h7, List.take_set]
/-- The beginning of one's own slice. -/
theorem Own.cut (h : Own one 1 w base e (.slice (some ⟨g, 0, none⟩) n c) vs) (k : Nat) (hk : k ≤ n) : Own one 1 w base e (.slice (some ⟨g, 0, none⟩) k c) (vs.take k) := by
  obtain ⟨cur, h1, h2, h3, h4, h5, h6, h7⟩ := h.parts
  refine Own.ofParts h1 h2 (by rw [List.length_take]; omega) (by omega) h5 h6 ?_
  rw [← h7, List.take_take, Nat.min_eq_left hk]
theorem Own.beyond (_h : Own one 1 w base e (.slice (some ⟨g, 0, none⟩) n c) vs) (zs : List Value) : ∀ (W : World) (k : Nat), Own one 1 W base e (.slice (some ⟨g, 0, none⟩) n c) vs → n ≤ k → Own one 1 (W.setCells g k zs) base e (.slice (some ⟨g, 0, none⟩) n c) vs := by
  induction zs with
  | nil => intro W k hW _; exact hW
  | cons z zs ih =>
    intro W k hW hk
    show Own one 1 ((W.setCell ⟨g, k, none⟩ z).setCells g (k + 1) zs) _ _ _ _
    refine ih _ _ ?_ (by omega)
    have := hW.put1 k z
    rwa [List.set_eq_of_length_le (by have := hW.parts; obtain ⟨_, _, _, h3, _⟩ := this; omega)] at this
theorem grown_set (w : World) (g k : Nat) (v : Value) : w.grownBy (w.setCell ⟨g, k, none⟩ v) (some g) :=
  ⟨rfl, rfl, rfl, by simp, fun i _ hne => Below.heap_setCell _ _ _ _ (fun h => hne (by rw [show i = g from h]))⟩
theorem grown_sets (g : Nat) : ∀ (zs : List Value) (w : World) (k : Nat), w.grownBy (w.setCells g k zs) (some g)
  | [], _w, _ => ⟨rfl, rfl, rfl, Nat.le_refl _, fun _ _ _ => rfl⟩
  | z :: zs, w, k => (grown_set w g k z).trans (grown_sets g zs _ _)
theorem grown_ext {w W : World} (h : Ext w W) (r : Option Nat) : w.grownBy W r := ⟨h.b.os, h.b.tape, h.b.output, h.b.size, fun k hk _ => h.b.block k hk⟩
theorem grown_refl (w : World) (r : Option Nat) : w.grownBy w r := ⟨rfl, rfl, rfl, Nat.le_refl _, fun _ _ _ => rfl⟩
end
/-- A vector's value, and what it reads as. -/
abbrev VL := Value × List Int
def kpV (zs : List VL) (i : Nat) : Bool := decide (i = 0 ∨ (zs.getD i default).2 ≠ (zs.getD (i - 1) default).2)
/-- Of the first n vectors those that differ from the one before. -/
def cmpN (zs : List VL) (n : Nat) : List VL := ((List.range n).filter (kpV zs)).map fun i => zs.getD i default
theorem cmpN_succ (zs : List VL) (n : Nat) : cmpN zs (n + 1) = cmpN zs n ++ if kpV zs n = true then [zs.getD n default] else [] := by
  unfold cmpN
  rw [List.range_succ, List.filter_append, List.map_append]
  congr 1
  show List.map _ (List.filter _ [n]) = _
  cases h : kpV zs n <;> simp [h]
theorem cmpN_len (zs : List VL) (n : Nat) : (cmpN zs n).length ≤ n := by
  unfold cmpN
  rw [List.length_map]
  exact Nat.le_trans (List.length_filter_le _ _) (by simp)
theorem cmpN_all (zs : List VL) : ∀ n, n ≤ zs.length → (∀ i, i < n → kpV zs i = true) → cmpN zs n = zs.take n
  | 0, _, _ => by simp [cmpN]
  | n + 1, hn, h => by
    rw [cmpN_succ, cmpN_all zs n (by omega) fun i hi => h i (by omega), h n (by omega), if_pos rfl, List.take_succ_eq_append_getElem (by omega), List.getD_eq_getElem?_getD, List.getElem?_eq_getElem (by omega)]; rfl
/-- What the inner loop keeps: the kept ones lie in front, those to come where they lay. -/
structure CIv (zs : List VL) (m k : Nat) (cur : List Value) : Prop where
  size : cur.length = zs.length
  len : (cmpN zs m).length = k
  lt : k < m
  low : cur.take k = (cmpN zs m).map (·.1)
  high : ∀ j, m - 1 ≤ j → j < zs.length → cur[j]? = some (zs.getD j default).1
theorem vl_at {zs : List VL} {j : Nat} (hj : j < zs.length) : (zs.map (·.1))[j]? = some (zs.getD j default).1 := by
  rw [List.getElem?_map, List.getD_eq_getElem?_getD, List.getElem?_eq_getElem hj]; rfl
theorem CIv.start {zs : List VL} {k0 : Nat} (hk0 : k0 ≤ zs.length) (hall : ∀ i, i < k0 → kpV zs i = true) (hd : kpV zs k0 = false) : CIv zs (k0 + 1) k0 (zs.map (·.1)) := by
  have e : cmpN zs (k0 + 1) = zs.take k0 := by rw [cmpN_succ, hd, if_neg (by decide), List.append_nil, cmpN_all zs k0 hk0 hall]
  exact ⟨by simp, by rw [e]; simp; omega, by omega, by rw [e, List.map_take], fun j _ hj => vl_at hj⟩
theorem CIv.skip {zs : List VL} {m k : Nat} {cur : List Value} (h : CIv zs m k cur) (hk : kpV zs m = false) : CIv zs (m + 1) k cur := by
  have e : cmpN zs (m + 1) = cmpN zs m := by rw [cmpN_succ, hk, if_neg (by decide), List.append_nil]
  exact ⟨h.size, by rw [e]; exact h.len, by have := h.lt; omega, by rw [e]; exact h.low, fun j hj => h.high j (by omega)⟩
theorem CIv.keep {zs : List VL} {m k : Nat} {cur : List Value} (h : CIv zs m k cur) (hm : m < zs.length) (hk : kpV zs m = true) : CIv zs (m + 1) (k + 1) (cur.set k (zs.getD m default).1) := by
  have e : cmpN zs (m + 1) = cmpN zs m ++ [zs.getD m default] := by rw [cmpN_succ, hk, if_pos rfl]
  have hlt := h.lt
  refine ⟨by rw [List.length_set]; exact h.size, by rw [e, List.length_append, h.len]; rfl, by omega, ?_, fun j hj hl => ?_⟩
  · rw [e, List.map_append, ← h.low, List.take_succ_eq_append_getElem (by rw [List.length_set, h.size]; omega), List.take_set, List.set_eq_of_length_le (by simp; omega)]
    simp
  · rw [List.getElem?_set_ne (by omega)]
    exact h.high j (by omega) hl
set_option maxRecDepth 16000 in
set_option maxHeartbeats 4000000 in
theorem pcompact_any (zs : List VL) (g c : Nat) (w : World) (base : Nat) (hown : Own one 1 w base 45 (.slice (some ⟨g, 0, none⟩) zs.length c) (zs.map (·.1)))
    (hrow : ∀ i, i < zs.length → RowE 3 icells 1 w (zs.getD i default).1 (zs.getD i default).2) (hl : zs.length ≤ 100000) :
    Calls Tryz.prog 75 #[.slice (some ⟨g, 0, none⟩) zs.length c, .func (.func 16) #[] #[]] w fun e w' =>
      e = .returned (.slice (some ⟨g, 0, none⟩) (cmpN zs zs.length).length c) ∧ Own one 1 w' base 45 (.slice (some ⟨g, 0, none⟩) (cmpN zs zs.length).length c) ((cmpN zs zs.length).map (·.1)) ∧ w.grownBy w' (some g) := by
  obtain ⟨cur0, p1, p2, p3, p4, p5, p6, p7⟩ := hown.parts
  have hc63 : c ≤ 9223372036854775807 := p5
  have ef : ∀ args w, (callFunc 16 args).run Tryz.prog w = .ok (.enter 16 args) w := fun _ _ => by kernel_rfl
  have HO := hide hown
  have HG : Hid (∃ cur fr, w.heap[g]? = some (.cells cur 45 fr)) := ⟨cur0, _, p1⟩
  have HR : Hid (∀ i W, i < zs.length → w.grownBy W (some g) → RowE 3 icells 1 W (zs.getD i default).1 (zs.getD i default).2) := fun i W hi hW =>
    (hrow i hi).grown hW (fun k hk => by injection hk with hk; subst hk; exact ⟨_, _, p1⟩) (by decide)
  have HK : Hid (∀ i, i < zs.length → ∃ q m d, (zs.getD i default).1 = .slice q m d) := fun i hi => by
    obtain ⟨q, d, h, -⟩ := (hrow i hi).1.int_all
    exact ⟨q, _, d, h⟩
  have HKP : Hid (∀ i, 0 < i → kpV zs i = !decide ((zs.getD i default).2 = (zs.getD (i - 1) default).2)) := fun i hi => by
    unfold kpV
    rw [Bool.eq_iff_iff]
    simp only [decide_eq_true_eq, Bool.not_eq_true', decide_eq_false_iff_not]
    exact ⟨fun h => h.resolve_left (by omega), fun h => .inr h⟩
  have HEQ : Hid (∀ i j W, i < zs.length → j < zs.length → w.grownBy W (some g) → Calls Tryz.prog 16 #[(zs.getD i default).1, (zs.getD j default).1] W fun e w' => e = .returned (.bool (decide ((zs.getD i default).2 = (zs.getD j default).2))) ∧ Ext W w') := fun i j W hi hj hW =>
    seq_any _ _ _ _ W (HR.out i W hi hW).1 (HR.out j W hj hW).1
  have HAT : Hid (∀ i, i < zs.length → (zs.map (·.1))[i]? = some (zs.getD i default).1) := fun i hi => vl_at hi
  have HALL : Hid (∀ W, Own one 1 W base 45 (.slice (some ⟨g, 0, none⟩) zs.length c) (zs.map (·.1)) → (∀ i, i < zs.length → kpV zs i = true) → (cmpN zs zs.length).length = zs.length ∧ Own one 1 W base 45 (.slice (some ⟨g, 0, none⟩) (cmpN zs zs.length).length c) ((cmpN zs zs.length).map (·.1))) := fun W hW h => by
    have e := cmpN_all zs zs.length (Nat.le_refl _) h
    rw [List.take_length] at e
    rw [e]
    exact ⟨rfl, hW⟩
  clear hown hrow p1 p2 p3 p5 p6 p7
  by_cases h2 : zs.length < 2
  · have HX := hide (HALL.out w HO.out fun i hi => by unfold kpV; rw [decide_eq_true_iff]; exact .inl (by omega))
    have hd : decide ((zs.length : Int) < 2) = true := by rw [decide_eq_true_iff]; omega
    go_enter Tryz.func75, Tryz.ntmps75
    go_wp2_with fail
    go_ret
    exact ⟨by rw [HX.out.1]; rfl, HX.out.2, grown_refl _ _⟩
  · have hd : decide ((zs.length : Int) < 2) = false := by rw [decide_eq_false_iff_not]; omega
    generalize hN : zs.length = N at *
    go_enter Tryz.func75, Tryz.ntmps75
    go_wp2_with fail
    clear hd
    go_loopw [5] (fun x wr => ∃ k : Nat, 1 ≤ k ∧ k ≤ N ∧ x = .int .i64 k ∧ Hid (∀ j, j < k → kpV zs j = true) ∧ Hid (Ext w wr)) (fun x _ => N - (intOf x).toNat)
    case atStart => exact ⟨1, Nat.le_refl _, by omega, rfl, fun j hj => by unfold kpV; rw [decide_eq_true_iff]; exact .inl (by omega), Ext.refl _⟩
    case round =>
      obtain ⟨k, hk1, hk, rfl, HJ, HE⟩ := hrel
      by_cases hlt : k < N
      · have c1 : wr.cell? ⟨g, k, none⟩ = some (zs.getD k default).1 := (HO.out.ext HE.out).cell1 (HAT.out k hlt)
        have c0 : wr.cell? ⟨g, k - 1, none⟩ = some (zs.getD (k - 1) default).1 := (HO.out.ext HE.out).cell1 (HAT.out (k - 1) (by omega))
        have hgz := lt_of_heap (HO.out.ext HE.out).parts.choose_spec.1
        obtain ⟨q1, m1, d1, e1⟩ := HK.out k hlt
        obtain ⟨q0, m0, d0, e0⟩ := HK.out (k - 1) (by omega)
        have HQ := hide (fun W (hW : Ext wr W) => HEQ.out k (k - 1) W hlt (by omega) (grown_ext (HE.out.trans hW) _))
        have HKK := hide (HKP.out k (by omega))
        have HQ2 : Hid (∀ W, Ext wr W → Calls Tryz.prog 16 #[.slice q1 m1 d1, .slice q0 m0 d0] W fun e w' => e = .returned (.bool (decide ((zs.getD k default).2 = (zs.getD (k - 1) default).2))) ∧ Ext W w') := by
          have h := HQ.out
          rw [e1, e0] at h
          exact h
        rw [e1] at c1
        rw [e0] at c0
        have HE1 := hide e1
        clear HQ e1 e0
        have hsub : ((k : Int) - 1) = ((k - 1 : Nat) : Int) := by omega
        generalize hb : decide ((zs.getD k default).2 = (zs.getD (k - 1) default).2) = b at HQ2 HKK
        clear hb
        go_wp2_with fail
        refine wp_region_ext (by kernel_rfl) (by kernel_rfl) ?_
        repeat (go_big_quiet_step ((go_at_call 16; exact Calls.ext_of (HQ2.out _ (by simp [go_sem])))))
        refine wpQuiet_nil ?_
        rintro w9 ⟨⟨_, hE9⟩, rfl⟩
        have HE9 := hide (HE.out.trans hE9)
        clear c1 c0 hgz HQ2
        cases b
        · go_wp2_with fail
          go_roundw
          case rel => exact ⟨k + 1, by omega, by omega, by go_num, fun j hj => by
            by_cases e : j = k
            · subst e; exact HKK.out
            · exact HJ.out j (by omega), HE9.out⟩
          case measure => simp [intOf]; omega
        · have HST : Hid (CIv zs (k + 1) k (zs.map (·.1))) := CIv.start (by omega) HJ.out HKK.out
          go_wp2_with fail
          go_loopw [5, 7] (fun x y w7 => ∃ (kk k2 : Nat) (cur : List Value), x = .int .i64 kk ∧ y = .int .i64 k2 ∧ 1 ≤ k2 ∧ k + k2 ≤ N ∧ kk < k + k2 ∧ Hid (CIv zs (k + k2) kk cur) ∧ Hid (Own one 1 w7 base 45 (.slice (some ⟨g, 0, none⟩) N c) cur) ∧ Hid (w.grownBy w7 (some g))) (fun _ y _ => N - (intOf y).toNat)
          case atStart => exact ⟨k, 1, zs.map fun z => z.1, rfl, rfl, Nat.le_refl _, by omega, by omega, HST, hide (HO.out.ext HE9.out), hide (grown_ext HE9.out _)⟩
          case round =>
            obtain ⟨kk, k2, cur, rfl, rfl, h1, hle, hkk, HI, HO7, HG7⟩ := hrel
            by_cases hlt2 : k + k2 < N
            · have cm : wr.cell? ⟨g, k + k2, none⟩ = some (zs.getD (k + k2) default).1 := HO7.out.cell1 (HI.out.high _ (by omega) (by omega))
              have cp : wr.cell? ⟨g, k + (k2 - 1), none⟩ = some (zs.getD (k + k2 - 1) default).1 := HO7.out.cell1 (by rw [show k + (k2 - 1) = k + k2 - 1 by omega]; exact HI.out.high _ (by omega) (by omega))
              have hgz := lt_of_heap HO7.out.parts.choose_spec.1
              obtain ⟨old, ck⟩ : ∃ old, wr.cell? ⟨g, kk, none⟩ = some old := ⟨_, HO7.out.cell1 (List.getElem?_eq_getElem (by have := HI.out.size; omega))⟩
              have fk := HO7.out.frozen1 kk
              obtain ⟨q1, m1, d1, e1⟩ := HK.out (k + k2) hlt2
              obtain ⟨q0, m0, d0, e0⟩ := HK.out (k + k2 - 1) (by omega)
              have HQ := hide (fun W (hW : Ext wr W) => HEQ.out (k + k2) (k + k2 - 1) W hlt2 (by omega) (HG7.out.trans (grown_ext hW _)))
              have HKK := hide (HKP.out (k + k2) (by omega))
              have HQ2 : Hid (∀ W, Ext wr W → Calls Tryz.prog 16 #[.slice q1 m1 d1, .slice q0 m0 d0] W fun e w' => e = .returned (.bool (decide ((zs.getD (k + k2) default).2 = (zs.getD (k + k2 - 1) default).2))) ∧ Ext W w') := by
                have h := HQ.out
                rw [e1, e0] at h
                exact h
              rw [e1] at cm
              rw [e0] at cp
              have HE1 := hide e1
              clear HQ e1 e0
              have hsub : ((k2 : Int) - 1) = ((k2 - 1 : Nat) : Int) := by omega
              generalize hb : decide ((zs.getD (k + k2) default).2 = (zs.getD (k + k2 - 1) default).2) = b at HQ2 HKK
              clear hb
              go_wp2_with fail
              refine wp_region_ext (by kernel_rfl) (by kernel_rfl) ?_
              repeat (go_big_quiet_step ((go_at_call 16; exact Calls.ext_of (HQ2.out _ (by simp [go_sem])))))
              refine wpQuiet_nil ?_
              rintro w9 ⟨⟨_, hE9⟩, rfl⟩
              have HG9 := hide (HG7.out.trans (grown_ext hE9 (some g)))
              have HO9 := hide (HO7.out.ext hE9)
              have cm : w9.cell? ⟨g, k + k2, none⟩ = some (.slice q1 m1 d1) := (hE9.cell hgz).trans cm
              have ck : w9.cell? ⟨g, kk, none⟩ = some old := (hE9.cell hgz).trans ck
              have fk := HO9.out.frozen1 kk
              have hgz := lt_of_heap HO9.out.parts.choose_spec.1
              clear cp HQ2 hE9
              cases b
              · have HR := hide (HI.out.keep (by rw [hN]; exact hlt2) HKK.out)
                rw [HE1.out] at HR
                have HOS := hide (HO9.out.put1 kk (.slice q1 m1 d1))
                have HGS := hide (HG9.out.trans (grown_set w9 g kk (.slice q1 m1 d1)))
                go_wp2_with fail
                go_roundw
                case rel => exact ⟨kk + 1, k2 + 1, _, by go_num, by go_num, by omega, by omega, by omega, HR, HOS, HGS⟩
                case measure => simp [intOf]; omega
              · have HR := hide (HI.out.skip HKK.out)
                go_wp2_with fail
                go_roundw
                case rel => exact ⟨kk, k2 + 1, cur, rfl, by go_num, by omega, by omega, by omega, HR, HO9, HG9⟩
                case measure => simp [intOf]; omega
            · have hend : k + k2 = N := by omega
              have hcl : ∀ ty, (Builtin.clear_ #[56] ty #[.slice (some ⟨g, kk, none⟩) (N - kk) (c - kk)]).run Tryz.prog wr = .ok (.tuple #[]) (wr.setCells g kk (List.replicate (N - kk) (.slice none 0 0))) :=
                fun ty => Lib.run_clear_slice wr _ _ ty _ Tryz.underlying56 Tryz.zeroValue45 rfl rfl g kk _ _ (by omega) (fun j hj => by rw [HO7.out.cell1 (List.getElem?_eq_getElem (by have := HI.out.size; omega))]; rfl) (fun j hj => HO7.out.frozen1 _)
              go_wp2_with fail
              go_ret
              have hI := HI.out
              rw [hend] at hI
              have hO : Own one 1 (wr.setCells g kk (List.replicate (N - kk) (.slice none 0 0))) base 45 (.slice (some ⟨g, 0, none⟩) kk c) (cur.take kk) :=
                (HO7.out.cut kk (by omega)).beyond _ _ _ (HO7.out.cut kk (by omega)) (Nat.le_refl _)
              rw [hI.low] at hO
              rw [hI.len]
              exact ⟨rfl, hO, HG7.out.trans (grown_sets g _ _ _)⟩
      · obtain rfl : k = N := by omega
        have HX := hide (HALL.out wr (HO.out.ext HE.out) HJ.out)
        go_wp2_with fail
        go_ret
        exact ⟨by rw [HX.out.1]; rfl, HX.out.2, grown_ext HE.out _⟩
end Go.Proofs.YthkididgbaamcaaGreatDoor

namespace Go.Proofs.YthkididgbaamcaaGreatDoor
open Go.RowKit
attribute [local go_sem] Oper.semAt_some

set_option maxHeartbeats 1000000 in
/-- slices.Compare of vectors; the world stays as it is. -/
theorem scmpE_any (a b : List Int) (u v : Value) (w : World) (ha : Row icells 1 w u a) (hb : Row icells 1 w v b) :
    Calls Tryz.prog 49 #[u, v] w fun e w' => e = .returned (.int .i64 (ordL a b)) ∧ w' = w := by
  obtain ⟨p, c, rfl, hc, hl, hat⟩ := ha.int_all
  obtain ⟨q, d, rfl, hd, hm, hat2⟩ := hb.int_all
  have HA := hide hat
  have HB := hide hat2
  have HS := hide (fun i => ordL_cmp (a := a) (b := b) (i := i))
  have HD := hide (fun i => ordL_end (a := a) (b := b) (i := i))
  have H0 : Hid (ordL a b = ordL (a.drop 0) (b.drop 0)) := rfl
  clear ha hb hat hat2
  generalize ordL a b = res at H0 ⊢
  generalize hf : (fun i => ordL (a.drop i) (b.drop i)) = f
  have hf' : ∀ i, ordL (a.drop i) (b.drop i) = f i := fun i => by rw [← hf]
  simp only [hf'] at HS HD H0
  clear hf hf'
  generalize b.length = lb at *
  generalize a.length = la at *
  generalize hfa : a.getD = fa at *
  generalize hfb : b.getD = fb at *
  clear hfa hfb
  go_enter Tryz.func49, Tryz.ntmps49
  go_wp2_with fail
  go_loopw [11] (fun x wr => ∃ i : Nat, i ≤ la ∧ i ≤ lb ∧ x = .int .i64 i ∧ Hid (res = f i) ∧ Hid (wr = w)) (fun x _ => la - (intOf x).toNat)
  case atStart => exact ⟨0, by omega, by omega, rfl, H0, rfl⟩
  case round =>
    obtain ⟨i, hi, hi2, rfl, HF, HEQ⟩ := hrel
    have HE : Hid (Ext w wr) := by show Ext _ _; rw [HEQ.out]; exact Ext.refl _
    by_cases h1 : i < la
    · obtain ⟨b1, o1, rfl, hb1, hat⟩ := HA.out (by omega)
      have hx := hat i h1 wr HE.out
      have hb1' : b1 < wr.heap.size := Nat.lt_of_lt_of_le hb1 HE.out.size
      clear hat
      by_cases h2 : i < lb
      · obtain ⟨b2, o2, rfl, hb2, hat2⟩ := HB.out (by omega)
        have hy := hat2 i h2 wr HE.out
        have hb2' : b2 < wr.heap.size := Nat.lt_of_lt_of_le hb2 HE.out.size
        clear hat2
        have HSI := hide (HF.out.trans (HS.out i h1 h2))
        have HC := hide (fun W => cmpI_any (fa i 0) (fb i 0) W)
        generalize cmpI (fa i 0) (fb i 0) = cc at HSI HC
        generalize fa i 0 = x at hx HC
        generalize fb i 0 = y at hy HC
        go_wp2_with fail
        refine (HC.out _).mono ?_
        rintro e w1 ⟨rfl, hw⟩
        have HE1 : Hid (w1 = w) := hw.trans HEQ.out
        clear hw
        by_cases h0 : cc = 0
        · have hd : (cc != 0) = false := by simp [h0]
          have HR := hide (HSI.out.trans (if_neg (fun k => k h0)))
          clear h0
          go_wp2_with fail
          go_roundw
          case rel => exact ⟨i + 1, by omega, by omega, by go_num, HR.out, HE1.out⟩
          case measure => simp [intOf]; omega
        · have hd : (cc != 0) = true := by simp [h0]
          have HR := hide (HSI.out.trans (if_pos h0))
          clear h0
          go_wp2_with fail
          go_ret
          exact ⟨ret_int HR.out.symm, HE1.out⟩
      · have HR := hide (HF.out.trans ((HD.out i (.inr (by omega)) (by omega) (by omega)).trans ((if_neg (by omega)).trans (if_pos (by omega)))))
        go_wp2_with fail
        go_ret
        exact ⟨ret_int HR.out.symm, HEQ.out⟩
    · obtain rfl : i = la := by omega
      have HR := hide (HF.out.trans (HD.out i (.inl (by omega)) (by omega) (by omega)))
      by_cases h2 : i < lb
      · have HR2 := hide (HR.out.trans (if_pos h2))
        go_wp2_with fail
        go_ret
        exact ⟨ret_int HR2.out.symm, HEQ.out⟩
      · have HR2 := hide (HR.out.trans ((if_neg h2).trans (if_neg (by omega))))
        go_wp2_with fail
        go_ret
        exact ⟨ret_int HR2.out.symm, HEQ.out⟩
def srtVRen : Go.Shelf.Ren := ⟨fun | 6 => 74 | 14 => 105 | 15 => 82 | 20 => 134 | 21 => 135 | 22 => 136 | 23 => 137 | 24 => 138 | 25 => 139 | 26 => 140 | 27 => 141 | 28 => 114 | 29 => 115 | 46 => 151 | 47 => 143 | 48 => 144 | 49 => 152 | 50 => 153 | 57 => 155 | n => n, fun | 0 => 0 | 3 => 3 | 4 => 4 | 5 => 5 | 9 => 9 | 22 => 56 | 24 => 45 | 25 => 82 | 39 => 112 | 45 => 130 | 46 => 131 | 50 => 135 | 53 => 138 | 55 => 140 | 66 => 152 | 70 => 156 | 76 => 160 | 77 => 50 | n => n, fun | n => n⟩
set_option maxRecDepth 100000 in
theorem srtVLays : Go.Proofs.SlLaysF.n6 Tryz.prog srtVRen := {
  mixed := by kernel_rfl
  f6 := ⟨"slices.SortFunc[[][]int,[]int]", by kernel_rfl, Tryz.func74.trans (congrArg some (by kernel_rfl))⟩
  f14 := ⟨"slices.pdqsortCmpFunc[[]int]", by kernel_rfl, Tryz.func105.trans (congrArg some (by kernel_rfl))⟩
  f15 := Tryz.func82.trans (congrArg some (by kernel_rfl))
  f20 := ⟨"slices.insertionSortCmpFunc[[]int]", by kernel_rfl, Tryz.func134.trans (congrArg some (by kernel_rfl))⟩
  f21 := ⟨"slices.heapSortCmpFunc[[]int]", by kernel_rfl, Tryz.func135.trans (congrArg some (by kernel_rfl))⟩
  f22 := ⟨"slices.breakPatternsCmpFunc[[]int]", by kernel_rfl, Tryz.func136.trans (congrArg some (by kernel_rfl))⟩
  f23 := ⟨"slices.choosePivotCmpFunc[[]int]", by kernel_rfl, Tryz.func137.trans (congrArg some (by kernel_rfl))⟩
  f24 := ⟨"slices.reverseRangeCmpFunc[[]int]", by kernel_rfl, Tryz.func138.trans (congrArg some (by kernel_rfl))⟩
  f25 := ⟨"slices.partialInsertionSortCmpFunc[[]int]", by kernel_rfl, Tryz.func139.trans (congrArg some (by kernel_rfl))⟩
  f26 := ⟨"slices.partitionEqualCmpFunc[[]int]", by kernel_rfl, Tryz.func140.trans (congrArg some (by kernel_rfl))⟩
  f27 := ⟨"slices.partitionCmpFunc[[]int]", by kernel_rfl, Tryz.func141.trans (congrArg some (by kernel_rfl))⟩
  f28 := Tryz.func114.trans (congrArg some (by kernel_rfl))
  f29 := Tryz.func115.trans (congrArg some (by kernel_rfl))
  f46 := ⟨"slices.siftDownCmpFunc[[]int]", by kernel_rfl, Tryz.func151.trans (congrArg some (by kernel_rfl))⟩
  f47 := Tryz.func143.trans (congrArg some (by kernel_rfl))
  f48 := Tryz.func144.trans (congrArg some (by kernel_rfl))
  f49 := ⟨"slices.medianAdjacentCmpFunc[[]int]", by kernel_rfl, Tryz.func152.trans (congrArg some (by kernel_rfl))⟩
  f50 := ⟨"slices.medianCmpFunc[[]int]", by kernel_rfl, Tryz.func153.trans (congrArg some (by kernel_rfl))⟩
  f57 := ⟨"slices.order2CmpFunc[[]int]", by kernel_rfl, Tryz.func155.trans (congrArg some (by kernel_rfl))⟩
  t0 := Tryz.underlying0
  a0 := Tryz.isAgg0
  z0 := Tryz.sizeOf0
  v0 := Tryz.zeroValue0
  t3 := Tryz.underlying3
  a3 := Tryz.isAgg3
  z3 := Tryz.sizeOf3
  v3 := Tryz.zeroValue3
  t4 := Tryz.underlying4
  a4 := Tryz.isAgg4
  z4 := Tryz.sizeOf4
  v4 := Tryz.zeroValue4
  t5 := Tryz.underlying5
  a5 := Tryz.isAgg5
  z5 := Tryz.sizeOf5
  v5 := Tryz.zeroValue5
  t9 := Tryz.underlying9
  a9 := Tryz.isAgg9
  z9 := Tryz.sizeOf9
  v9 := Tryz.zeroValue9
  t22 := Tryz.underlying56
  a22 := Tryz.isAgg56
  z22 := Tryz.sizeOf56
  v22 := Tryz.zeroValue56
  a24 := Tryz.isAgg45
  z24 := Tryz.sizeOf45
  t25 := Tryz.underlying82
  a25 := Tryz.isAgg82
  z25 := Tryz.sizeOf82
  v25 := Tryz.zeroValue82
  t39 := Tryz.underlying112
  a39 := Tryz.isAgg112
  z39 := Tryz.sizeOf112
  v39 := Tryz.zeroValue112
  t45 := Tryz.underlying130
  a45 := Tryz.isAgg130
  z45 := Tryz.sizeOf130
  v45 := Tryz.zeroValue130
  t46 := Tryz.underlying131
  a46 := Tryz.isAgg131
  z46 := Tryz.sizeOf131
  v46 := Tryz.zeroValue131
  t50 := Tryz.underlying135
  a50 := Tryz.isAgg135
  z50 := Tryz.sizeOf135
  v50 := Tryz.zeroValue135
  t53 := Tryz.underlying138
  a53 := Tryz.isAgg138
  z53 := Tryz.sizeOf138
  v53 := Tryz.zeroValue138
  t55 := Tryz.underlying140
  a55 := Tryz.isAgg140
  z55 := Tryz.sizeOf140
  v55 := Tryz.zeroValue140
  t66 := Tryz.underlying152
  a66 := Tryz.isAgg152
  z66 := Tryz.sizeOf152
  v66 := Tryz.zeroValue152
  t70 := Tryz.underlying156
  a70 := Tryz.isAgg156
  z70 := Tryz.sizeOf156
  v70 := Tryz.zeroValue156
  t76 := Tryz.underlying160
  a76 := Tryz.isAgg160
  z76 := Tryz.sizeOf160
  v76 := Tryz.zeroValue160
  t77 := Tryz.underlying50
  a77 := Tryz.isAgg50
  z77 := Tryz.sizeOf50
  v77 := Tryz.zeroValue50 }


open Go.Proofs Go.Sort in
theorem sw_grown {α : Type} [Inhabited α] (enc : α → Value) (w : World) (blk off m : Nat) (dk : Array α) (os : Array Obj) : w.grownBy (sortWorld enc w blk off m dk os) (some blk) := by
  refine ⟨rfl, rfl, rfl, ?_, fun k hk hne => ?_⟩
  · show w.heap.size ≤ ((w.heap.modify blk _) ++ os).size
    rw [Array.size_append, Array.size_modify]; omega
  · show ((w.heap.modify blk _) ++ os)[k]? = _
    rw [Array.getElem?_append_left (by rw [Array.size_modify]; exact hk), Array.getElem?_modify, if_neg (fun h => hne (by rw [h]))]
open Go.Proofs Go.Sort in
theorem sw_block {α : Type} [Inhabited α] (enc : α → Value) (w : World) (blk off m : Nat) (dk : Array α) (os : Array Obj) {cur : Array Value} {e : TypeId} {fr : Nat × Nat} (h : w.heap[blk]? = some (.cells cur e fr)) :
    (sortWorld enc w blk off m dk os).heap[blk]? = some (.cells (putCells enc off dk cur) e fr) := by
  show ((w.heap.modify blk _) ++ os)[blk]? = _
  rw [Array.getElem?_append_left (by rw [Array.size_modify]; exact lt_of_heap h), Array.getElem?_modify, if_pos rfl, h]; rfl
abbrev VLr (w : World) : Type := { z : VL // RowE 3 icells 1 w z.1 z.2 }
instance (w : World) : Inhabited (VLr w) := ⟨⟨(.slice none 0 0, []), RowE.nil _ _ _ _⟩⟩
def venc {w : World} (x : VLr w) : Value := x.1.1
def vcf {w : World} (x y : VLr w) : Int := ordL x.1.2 y.1.2
theorem ordL_le_trans {a b c : List Int} (h1 : 0 ≤ ordL a b) (h2 : 0 ≤ ordL b c) : 0 ≤ ordL a c := by
  rcases ordL_cases a b with h | h | h
  · omega
  · rw [ordL_zero.1 h]; exact h2
  · rcases ordL_cases b c with k | k | k
    · omega
    · rw [← ordL_zero.1 k]; exact h1
    · have e1 := ordL_swap a b
      have e2 := ordL_swap b c
      have := ordL_trans (a := c) (b := b) (c := a) (by omega) (by omega)
      have e3 := ordL_swap a c
      omega
theorem vcf_swo (w : World) : Go.Sort.SWO (Go.Proofs.ltOf (vcf (w := w))) where
  irrefl x := by
    unfold Go.Proofs.ltOf vcf
    rw [ordL_zero.2 rfl]; rfl
  trans x y z h1 h2 := by
    unfold Go.Proofs.ltOf vcf at *
    rw [decide_eq_true_iff] at *
    have := ordL_trans (a := x.1.2) (b := y.1.2) (c := z.1.2) (by rcases ordL_cases x.1.2 y.1.2 with h | h | h <;> omega) (by rcases ordL_cases y.1.2 z.1.2 with h | h | h <;> omega)
    omega
  ntrans x y z h1 h2 := by
    unfold Go.Proofs.ltOf vcf at *
    rw [decide_eq_false_iff_not] at *
    have := ordL_le_trans (a := x.1.2) (b := y.1.2) (c := z.1.2) (by omega) (by omega)
    omega
open Go.Proofs Go.Sort in
theorem srtV_any (zs : List VL) (g c : Nat) (w : World) (base : Nat) (hown : Own one 1 w base 45 (.slice (some ⟨g, 0, none⟩) zs.length c) (zs.map (·.1)))
    (hrow : ∀ z ∈ zs, RowE 3 icells 1 w z.1 z.2) (hl : zs.length ≤ 100000) :
    Calls Tryz.prog 74 #[.slice (some ⟨g, 0, none⟩) zs.length c, .func (.func 49) #[] #[]] w fun e w' => e = .returned (.tuple #[]) ∧
      ∃ ys : List VL, ys.Perm zs ∧ (∀ i j, i < j → j < ys.length → 0 ≤ ordL (ys.getD j default).2 (ys.getD i default).2) ∧ Own one 1 w' base 45 (.slice (some ⟨g, 0, none⟩) zs.length c) (ys.map (·.1)) ∧ w.grownBy w' (some g) := by
  obtain ⟨cur, p1, p2, p3, p4, p5, p6, p7⟩ := hown.parts
  obtain ⟨L, hL⟩ : ∃ L : List (VLr w), L.map (·.1) = zs := ⟨zs.attach.map fun z => ⟨z.1, hrow z.1 z.2⟩, by rw [List.map_map]; exact List.attach_map_subtype_val zs⟩
  have hLl : L.length = zs.length := by rw [← hL, List.length_map]
  have hcell : ∀ j, (hj : j < L.length) → w.cell? ⟨g, j, none⟩ = some (venc L[j]) := fun j hj => by
    refine hown.cell1 ?_
    rw [← hL, List.map_map, List.getElem?_map, List.getElem?_eq_getElem hj]; rfl
  have hH : Holds venc w g 0 L.toArray := fun j hj => by
    have hj' : j < L.length := by simpa using hj
    rw [Nat.zero_add]
    refine ⟨?_, hown.frozen1 j⟩
    rw [hcell j hj', getElem!_pos L.toArray j hj]; rfl
  have h1 : OneCell (venc (w := w)) := fun x => by
    obtain ⟨⟨p, c, h, _⟩, _⟩ := x.2
    show x.1.1.oneCell' = true
    rw [h]; rfl
  have h := Go.Proofs.Any.slices_SortFunc srtVLays (venc (w := w)) h1 vcf (vcf_swo w) 49 #[] g 0 c L.toArray w (fun _ _ => by kernel_rfl)
    (fun m os dk _ x y => by
      have hg := sw_grown (venc (w := w)) w g 0 m dk os
      have hr : ∀ z : VLr w, Row icells 1 (sortWorld venc w g 0 m dk os) z.1.1 z.1.2 := fun z => (z.2.grown hg (fun k hk => by injection hk with hk; subst hk; exact ⟨_, _, p1⟩) (by decide)).1
      refine (scmpE_any x.1.2 y.1.2 x.1.1 y.1.1 _ (hr x) (hr y)).mono ?_
      rintro e w' ⟨he, hw⟩
      exact ⟨he, 0, #[], by rw [hw, grow_empty]; rfl⟩) hH (lt_of_heap p1) (by simp; omega)
  rw [List.size_toArray, hLl] at h
  refine h.mono ?_
  rintro e w' ⟨he, d', n, os, hp, hs, rfl⟩
  obtain ⟨q1, -, q3⟩ := hp
  have hsz : d'.size = zs.length := by rw [q1]; simpa using hLl
  have e1 : (d'.extract 0 zs.length).toList = d'.toList := by rw [← hsz]; simp
  have e2 : (L.toArray.extract 0 zs.length).toList = L := by rw [← hLl]; simp
  rw [e1, e2] at q3
  refine ⟨he, d'.toList.map (·.1), by rw [← hL]; exact q3.map _, fun i j hij hj => ?_, ?_, sw_grown _ _ _ _ _ _ _⟩
  · rw [List.length_map, Array.length_toList] at hj
    have hi' : i < d'.size := by omega
    have := hs i j (Nat.zero_le _) hij (by omega)
    unfold ltOf vcf at this
    rw [decide_eq_false_iff_not, getElem!_pos d' i hi', getElem!_pos d' j hj] at this
    rw [List.getD_eq_getElem?_getD, List.getD_eq_getElem?_getD, List.getElem?_map, List.getElem?_map, List.getElem?_eq_getElem (show j < d'.toList.length by simpa using hj), List.getElem?_eq_getElem (show i < d'.toList.length by simpa using hi')]
    show 0 ≤ ordL (d'.toList[j]).1.2 (d'.toList[i]).1.2
    rw [Array.getElem_toList, Array.getElem_toList]; omega
  · refine Own.ofParts (sw_block _ _ _ _ _ _ _ p1) p2 (by rw [List.length_map, List.length_map, Array.length_toList]; exact hsz) p4 p5 (by unfold putCells; rw [Array.size_mapIdx]; exact p6) ?_
    refine List.ext_getElem? fun k => ?_
    rw [List.getElem?_take]
    by_cases hk : k < zs.length
    · have hk' : k < d'.size := by omega
      have e3 : ((d'.toList.map (·.1)).map (·.1))[k]? = some (venc d'[k]) := by
        rw [List.map_map, List.getElem?_map, List.getElem?_eq_getElem (show k < d'.toList.length by simpa using hk'), Array.getElem_toList]; rfl
      rw [if_pos hk, e3, Array.getElem?_toList]
      unfold putCells
      rw [Array.getElem?_mapIdx, Array.getElem?_eq_getElem (show k < cur.size by omega)]
      simp only [Option.map_some, Nat.zero_le, Nat.zero_add, Nat.sub_zero, true_and]
      rw [if_pos hk', getElem!_pos d' k hk']
    · rw [if_neg hk, List.getElem?_eq_none (by simp; omega)]
def growRen : Go.Shelf.Ren := ⟨fun | 4 => 76 | n => n, fun | 0 => 0 | 3 => 3 | 4 => 4 | 9 => 9 | 20 => 20 | 22 => 56 | 25 => 45 | n => n, fun | n => n⟩
set_option maxRecDepth 100000 in
theorem growLays : Go.Proofs.Lays8.n4 Tryz.prog growRen := {
  mixed := by kernel_rfl
  f4 := ⟨"slices.Grow[[][]int,[]int]", by kernel_rfl, Tryz.func76.trans (congrArg some (by kernel_rfl))⟩
  t0 := Tryz.underlying0
  a0 := Tryz.isAgg0
  z0 := Tryz.sizeOf0
  v0 := Tryz.zeroValue0
  t3 := Tryz.underlying3
  a3 := Tryz.isAgg3
  z3 := Tryz.sizeOf3
  v3 := Tryz.zeroValue3
  t4 := Tryz.underlying4
  a4 := Tryz.isAgg4
  z4 := Tryz.sizeOf4
  v4 := Tryz.zeroValue4
  t9 := Tryz.underlying9
  a9 := Tryz.isAgg9
  z9 := Tryz.sizeOf9
  v9 := Tryz.zeroValue9
  t20 := Tryz.underlying20
  a20 := Tryz.isAgg20
  z20 := Tryz.sizeOf20
  v20 := Tryz.zeroValue20
  t22 := Tryz.underlying56
  a22 := Tryz.isAgg56
  z22 := Tryz.sizeOf56
  v22 := Tryz.zeroValue56 }
/-- A slice as a value. -/
abbrev SV := Option Addr × Nat × Nat
abbrev scell (s : SV) : List Value := [.slice s.1 s.2.1 s.2.2]
def sval (s : SV) : Value := .slice s.1 s.2.1 s.2.2
theorem sc_ones (x : SV) : ∀ u ∈ scell x, u.oneCell' = true := by
  intro u hu
  simp only [scell, List.mem_singleton] at hu
  rw [hu]; rfl
theorem flat_one (l : List SV) : (l.map sval).flatMap one = l.flatMap scell := by
  induction l with
  | nil => rfl
  | cons a l ih => rw [List.map_cons, List.flatMap_cons, List.flatMap_cons, ih]; rfl
theorem Own.ofSV {w : World} {base : Nat} {e : TypeId} {v : Value} {l : List SV} (h : Own scell 1 w base e v l) : Own one 1 w base e v (l.map sval) := by
  refine ⟨fun _ => rfl, ?_⟩
  rw [flat_one, List.length_map]; exact h.2
theorem Own.toSV {w : World} {base : Nat} {e : TypeId} {v : Value} {l : List SV} (h : Own one 1 w base e v (l.map sval)) : Own scell 1 w base e v l := by
  refine ⟨fun _ => rfl, ?_⟩
  have := h.2
  rwa [flat_one, List.length_map] at this
theorem Row.toSV {w : World} {v : Value} {l : List SV} (h : Row one 1 w v (l.map sval)) : Row scell 1 w v l := by
  obtain ⟨p, c, h1, h2, h3, h4⟩ := h
  rw [List.length_map] at h1 h2 h3 h4
  refine ⟨p, c, h1, h2, h3, fun h0 => ?_⟩
  obtain ⟨b, o, h5, h6, h7⟩ := h4 h0
  refine ⟨b, o, h5, h6, fun i x hx j u hu => ?_⟩
  refine h7 i (sval x) (by rw [List.getElem?_map, hx]; rfl) j u hu
theorem pgrow_any (n : Nat) (w : World) (h0 : 0 < n) (hn : n ≤ 100000) :
    Calls Tryz.prog 76 #[.slice none 0 0, .int .i64 n] w fun e w' => ∃ c, e = .returned (.slice (some ⟨w.heap.size, 0, none⟩) 0 c) ∧ Own scell 1 w' w.heap.size 45 (.slice (some ⟨w.heap.size, 0, none⟩) 0 c) ([] : List SV) ∧ Ext w w' := by
  have hi := islice_info
  cases hq : Tryz.prog.info? 45 with
  | none => rw [hq] at hi; cases hi
  | some i0 =>
    rw [hq] at hi
    simp only [Option.map_some, Option.some.injEq, Prod.mk.injEq] at hi
    obtain ⟨hz, hs, hb⟩ := hi
    have h := Go.Proofs.Any8.slices_Grow_grow growLays i0 (.slice none 0 0) hq hz (by omega) none 0 0 n [] w (Nat.le_refl _) (by omega) (by rw [hb]; omega) (by omega) (by simp) (fun _ => rfl) (fun a ha => by cases ha)
    refine h.mono ?_
    rintro e w' ⟨rfl, rfl⟩
    have hge := grownCap_ge w (0 + n) 0 45
    have hle := grownCap_le_maxLen w (0 + n) 0 45 (by unfold maxLen; omega)
    refine ⟨_, rfl, ?_, (Ext.refl w).drew.alloc _⟩
    have ho : Own one 1 (w.drew.alloc (.cells (([] : List Value).toArray ++ Builtin.zeroCells (Value.slice none 0 0).cells (0 + n - 0) ++ Builtin.zeroCells (Value.slice none 0 0).cells (grownCap w (0 + n) 0 45 - (0 + n))) 45)) w.heap.size 45 (.slice (some ⟨w.heap.size, 0, none⟩) 0 (grownCap w (0 + n) 0 45)) ([] : List Value) :=
      Own.ofParts (heap_alloc_new w.drew _) (Nat.le_refl _) rfl (Nat.zero_le _) hle (by
        rw [Array.size_append, Array.size_append, size_zeroCells, size_zeroCells]
        show 0 + (0 + n - 0) * 1 + (grownCap w (0 + n) 0 45 - (0 + n)) * 1 = _
        omega) rfl
    exact Own.toSV (l := []) ho
set_option maxRecDepth 8000 in
set_option maxHeartbeats 1000000 in
theorem pcloneV_any (l : List SV) (b o c : Nat) (w : World) (hl : Row scell 1 w (.slice (some ⟨b, o, none⟩) l.length c) l) (hlen : l.length ≤ 100000) :
    Calls Tryz.prog 73 #[.slice (some ⟨b, o, none⟩) l.length c] w fun e w' => (∃ u, e = .returned u ∧ Own scell 1 w' w.heap.size 45 u l) ∧ Ext w w' := by
  have HL := hide hl
  have qT := fun (w : World) (a : Option Addr) (n c n' c' : Nat) => Lib.run_eql_slice_nil (P := Tryz.prog) w 56 45 a n c n' c' Tryz.underlying56
  clear hl
  go_enter Tryz.func73, Tryz.ntmps73
  have HO : Hid (Own scell 1 (w.alloc (.cells #[] 45)) w.heap.size 45 (.slice (some ⟨w.heap.size, 0, none⟩) 0 0) ([] : List SV)) := Own.empty (fun _ => rfl) (Nat.le_refl _) (heap_alloc_new w _)
  have HE : Hid (Ext w (w.alloc (.cells #[] 45))) := (Ext.refl w).alloc _
  have HR := hide (HL.out.ext HE.out)
  go_wp2_with (at_builtin; refine wpList_appendN rfl (.tmp 5) (.tmp 6) 56 rfl w.heap.size 45 (.slice none 0 0) 1 24 Tryz.underlying56 islice_info rfl (by decide) _ ([] : List SV) _ l rfl HO.out rfl HR.out sc_ones (by simp; omega) (by decide) (by simp) ?_; intro v' w' hown' hg)
  go_ret
  exact ⟨⟨_, rfl, hown'⟩, HE.out.grown hg (fun k hk => by injection hk with hk; rw [← hk]; exact Nat.le_refl _)⟩
def uptoL (L : Nat → List SV) : Nat → List SV
  | 0 => []
  | i + 1 => uptoL L i ++ L i
def uptoN (m : Nat → Nat) : Nat → Nat
  | 0 => 0
  | i + 1 => uptoN m i + m i
set_option maxRecDepth 16000 in
set_option maxHeartbeats 2000000 in
theorem pconcat_any (g : Nat) (p : Nat → Option Addr) (m cp : Nat → Nat) (L : Nat → List SV) (w : World) (hcell : ∀ i, i < 2 → w.cell? ⟨g, i, none⟩ = some (.slice (p i) (m i) (cp i))) (hg : g < w.heap.size)
    (hL : ∀ i, i < 2 → (L i).length = m i) (hrow : ∀ i, i < 2 → Row scell 1 w (.slice (p i) (m i) (cp i)) (L i)) (hpos : 0 < m 0) (hm : ∀ i, m i ≤ 10000) :
    Calls Tryz.prog 42 #[.slice (some ⟨g, 0, none⟩) 2 2] w fun e w' => (∃ u, e = .returned u ∧ Own scell 1 w' w.heap.size 45 u (L 0 ++ L 1)) ∧ Ext w w' := by
  have HC : Hid (∀ W, Ext w W → ∀ i, i < 2 → W.cell? ⟨g, i, none⟩ = some (.slice (p i) (m i) (cp i))) := fun W hW i hi => (hW.cell (p := ⟨g, i, none⟩) hg).trans (hcell i hi)
  have HRW := hide hrow
  have HLL := hide hL
  have HM := hide hm
  have HS0 : Hid (uptoN m 0 = 0) := rfl
  have HSS : Hid (∀ i, uptoN m (i + 1) = uptoN m i + m i) := fun i => rfl
  have HSB : Hid (∀ i, i ≤ 2 → uptoN m i ≤ i * 10000) := fun i _ => by
    induction i with
    | zero => exact Nat.le_refl _
    | succ i ih => unfold uptoN; have := hm i; have := ih (by omega); omega
  have HSP : Hid (0 < uptoN m 2) := by show 0 < 0 + m 0 + m 1; omega
  have HU0 : Hid (uptoL L 0 = []) := rfl
  have HUS : Hid (∀ i, uptoL L (i + 1) = uptoL L i ++ L i) := fun i => rfl
  have HU2 : Hid (uptoL L 2 = L 0 ++ L 1) := rfl
  have HUL : Hid (∀ i, i ≤ 2 → (uptoL L i).length = uptoN m i) := fun i hi => by
    induction i with
    | zero => rfl
    | succ i ih => unfold uptoL uptoN; rw [List.length_append, ih (by omega), hL i (by omega)]
  have HGR := hide (fun n W h0 hn => pgrow_any n W h0 hn)
  clear hcell hL hrow hpos hm
  generalize uptoN m = sz at HS0 HSS HSB HSP HUL
  generalize uptoL L = us at HU0 HUS HU2 HUL
  go_enter Tryz.func42, Tryz.ntmps42
  go_wp2_with fail
  go_loopw [11, 3] (fun x y wr => ∃ i s : Nat, i ≤ 2 ∧ s ≤ 100000 ∧ x = .int .i64 i ∧ y = .int .i64 s ∧ Hid (s = sz i) ∧ Hid (Ext w wr)) (fun x _ _ => 2 - (intOf x).toNat)
  case atStart => exact ⟨0, 0, by omega, by omega, rfl, rfl, HS0.out.symm, Ext.refl _⟩
  case round =>
    obtain ⟨i, s, hi, hs, rfl, rfl, HS, HE⟩ := hrel
    by_cases hlt : i < 2
    · have hx := HC.out wr HE.out i hlt
      have hgz := Nat.lt_of_lt_of_le hg HE.out.size
      have hmi := HM.out i
      have hsi : s + m i ≤ 100000 := by have h1 := HSB.out (i + 1) (by omega); have h2 := HSS.out i; have h3 := HS.out; omega
      have HN : Hid (s + m i = sz (i + 1)) := by show _ = _; rw [HSS.out, ← HS.out]
      generalize m i = mi at hx hmi hsi HN
      generalize cp i = ci at hx
      generalize p i = pi at hx
      have hd : decide ((s : Int) + (mi : Int) < 0) = false := by rw [decide_eq_false_iff_not]; omega
      go_wp2_with fail
      go_roundw
      case rel => exact ⟨i + 1, s + mi, by omega, hsi, by go_num, by go_num, HN.out, HE.out⟩
      case measure => simp [intOf]; omega
    · obtain rfl : i = 2 := by omega
      have hs0 : 0 < s := by have := HSP.out; have := HS.out; omega
      have HG := hide (HGR.out s wr hs0 hs)
      go_wp2_with fail
      refine HG.out.mono ?_
      rintro e W1 ⟨c1, rfl, hown1, hE1⟩
      have HE1 := hide (HE.out.trans hE1)
      have HO1 := hide (hown1.mono HE.out.size)
      clear hown1 hE1
      go_wp2_with fail
      go_loopw [27, 6] (fun x y w7 => ∃ i : Nat, i ≤ 2 ∧ x = .int .i64 i ∧ Hid (Own scell 1 w7 w.heap.size 45 y (us i)) ∧ Hid (Ext w w7)) (fun x _ _ => 2 - (intOf x).toNat)
      case atStart => exact ⟨0, by omega, rfl, by rw [HU0.out]; exact HO1, HE1⟩
      case round =>
        obtain ⟨i, hi, rfl, HO, HE⟩ := hrel
        obtain ⟨qy, ky, hye⟩ := HO.out.sl
        by_cases hlt : i < 2
        · have hx := HC.out wr HE.out i hlt
          have hgz := Nat.lt_of_lt_of_le hg HE.out.size
          have HR := hide ((HRW.out i hlt).ext HE.out)
          have hui : (us i).length + (L i).length ≤ 100000 := by have h1 := HSB.out (i + 1) (by omega); have h2 := HSS.out i; have h3 := HUL.out i hi; have h4 := HLL.out i hlt; omega
          have hbs := HE.out.size
          generalize m i = mi at hx HR
          generalize cp i = ci at hx HR
          generalize p i = pi at hx HR
          subst hye
          go_wp2_with (at_builtin; refine wpList_appendN rfl (.tmp 31) (.tmp 32) 56 rfl w.heap.size 45 (.slice none 0 0) 1 24 Tryz.underlying56 islice_info rfl (by decide) _ (us i) _ (L i) rfl HO.out rfl HR.out sc_ones (by omega) (by decide) hbs ?_; intro v3 w3 hown3 hg3)
          have HO3 : Hid (Own scell 1 w3 w.heap.size 45 v3 (us (i + 1))) := by show Own _ _ _ _ _ _ _; rw [HUS.out]; exact hown3
          have HE3 : Hid (Ext w w3) := HE.out.grown hg3 (fun k hk => HO.out.block_ge k hk)
          obtain ⟨q3, k3, hv3⟩ := hown3.sl
          subst hv3
          clear hown3 hg3
          go_wp2_with fail
          go_roundw
          case rel => exact ⟨i + 1, by omega, by go_num, HO3, HE3⟩
          case measure => simp [intOf]; omega
        · obtain rfl : i = 2 := by omega
          subst hye
          go_wp2_with fail
          go_ret
          refine ⟨⟨_, rfl, ?_⟩, HE.out⟩
          show Own _ _ _ _ _ (.slice qy (us 2).length ky) _
          have h := HO.out
          rw [HU2.out] at h ⊢
          exact h
/-! ### The different vectors of a list, in ascending order -/
theorem cmpN_facts (zs : List VL) (hs : ∀ i j, i < j → j < zs.length → 0 ≤ ordL (zs.getD j default).2 (zs.getD i default).2) : ∀ n, n ≤ zs.length →
    (Asc ((cmpN zs n).map (·.2)) ∧ (∀ p, p ∈ (cmpN zs n).map (·.2) ↔ p ∈ (zs.take n).map (·.2)) ∧ ∀ p ∈ (cmpN zs n).map (·.2), ∀ j, n - 1 ≤ j → j < zs.length → 0 ≤ ordL (zs.getD j default).2 p)
  | 0, _ => ⟨by simp [cmpN], fun p => by simp [cmpN], fun p hp => by simp [cmpN] at hp⟩
  | n + 1, hn => by
    obtain ⟨h1, h2, h3⟩ := cmpN_facts zs hs n (by omega)
    have hx : zs[n]? = some (zs.getD n default) := by rw [List.getD_eq_getElem?_getD, List.getElem?_eq_getElem (by omega)]; rfl
    have ht : (zs.take (n + 1)).map (·.2) = (zs.take n).map (·.2) ++ [(zs.getD n default).2] := by
      rw [List.take_succ_eq_append_getElem (by omega), List.map_append]
      congr 1
      rw [List.getElem?_eq_getElem (by omega)] at hx
      injection hx with hx
      rw [hx]; rfl
    have hle : ∀ p ∈ (cmpN zs n).map (·.2), ∀ j, n ≤ j → j < zs.length → 0 ≤ ordL (zs.getD j default).2 p := fun p hp j hj hl => h3 p hp j (by omega) hl
    rw [cmpN_succ]
    cases hk : kpV zs n
    · have hn0 : n ≠ 0 := by
        rintro rfl
        unfold kpV at hk
        simp at hk
      have he : (zs.getD n default).2 = (zs.getD (n - 1) default).2 := by
        unfold kpV at hk
        rw [decide_eq_false_iff_not] at hk
        exact Classical.not_not.1 fun h => hk (.inr h)
      rw [if_neg (by decide), List.append_nil]
      refine ⟨h1, fun p => ?_, fun p hp j hj hl => h3 p hp j (by omega) hl⟩
      rw [h2, ht, List.mem_append, List.mem_singleton]
      refine ⟨.inl, fun h => h.elim id fun h => ?_⟩
      rw [h, he]
      refine List.mem_map.2 ⟨zs.getD (n - 1) default, ?_, rfl⟩
      rw [List.getD_eq_getElem?_getD, List.getElem?_eq_getElem (by omega)]
      show zs[n - 1] ∈ zs.take n
      rw [List.mem_take_iff_getElem]
      exact ⟨n - 1, by omega, rfl⟩
    · rw [if_pos rfl, List.map_append]
      have hlt : ∀ p ∈ (cmpN zs n).map (·.2), ordL p (zs.getD n default).2 = -1 := fun p hp => by
        have ha := hle p hp n (Nat.le_refl _) (by omega)
        have hn0 : n ≠ 0 := by
          rintro rfl
          simp [cmpN] at hp
        have hne : (zs.getD n default).2 ≠ (zs.getD (n - 1) default).2 := by
          unfold kpV at hk
          rw [decide_eq_true_iff] at hk
          exact hk.resolve_left hn0
        have hb := h3 p hp (n - 1) (by omega) (by omega)
        have hc := hs (n - 1) n (by omega) (by omega)
        have e1 := ordL_swap (zs.getD n default).2 p
        have e2 := ordL_swap (zs.getD (n - 1) default).2 p
        have e3 := ordL_swap (zs.getD n default).2 (zs.getD (n - 1) default).2
        rcases ordL_cases p (zs.getD n default).2 with h | h | h
        · exact h
        · exfalso
          apply hne
          rw [ordL_zero.1 h] at hb e2
          rcases ordL_cases (zs.getD n default).2 (zs.getD (n - 1) default).2 with k | k | k
          · omega
          · exact ordL_zero.1 k
          · have e4 := ordL_swap (zs.getD (n - 1) default).2 (zs.getD n default).2
            omega
        · omega
      refine ⟨List.pairwise_append.2 ⟨h1, List.pairwise_singleton _ _, fun a ha b hb => ?_⟩, fun p => ?_, fun p hp j hj hl => ?_⟩
      · simp only [List.map_cons, List.map_nil, List.mem_singleton] at hb
        rw [hb]; exact hlt a ha
      · rw [List.mem_append, h2, ht, List.mem_append]; rfl
      · rw [List.mem_append] at hp
        rcases hp with hp | hp
        · exact hle p hp j (by omega) hl
        · simp only [List.map_cons, List.map_nil, List.mem_singleton] at hp
          rw [hp]
          by_cases e : j = n
          · subst e; rw [ordL_zero.2 rfl]; exact Int.le_refl _
          · exact hs n j (by omega) hl
/-- What sorted makes of two lists' values. -/
theorem cmp_join {zs ys : List VL} {x y : List (List Int)} (hp : ys.Perm zs) (hz : zs.map (·.2) = x ++ y) (hs : ∀ i j, i < j → j < ys.length → 0 ≤ ordL (ys.getD j default).2 (ys.getD i default).2) : (cmpN ys ys.length).map (·.2) = joinL x y := by
  obtain ⟨h1, h2, -⟩ := cmpN_facts ys hs ys.length (Nat.le_refl _)
  refine asc_unique h1 (joinL_asc _ _) fun p => ?_
  rw [h2, List.take_length, (hp.map _).mem_iff, hz, mem_joinL, List.mem_append]
/-- Values and what they read as. -/
theorem vl_of {w : World} {vs : List SV} {l : List (List Int)} (hlen : vs.length = l.length) (hr : ∀ (i : Nat) (s : SV) (x : List Int), vs[i]? = some s → l[i]? = some x → RowE 3 icells 1 w (sval s) x) :
    ∃ zs : List VL, zs.map (·.1) = vs.map sval ∧ zs.map (·.2) = l ∧ zs.length = l.length ∧ ∀ z ∈ zs, RowE 3 icells 1 w z.1 z.2 := by
  induction l generalizing vs with
  | nil =>
    have : vs = [] := List.eq_nil_of_length_eq_zero hlen
    exact ⟨[], by rw [this]; rfl, rfl, rfl, fun z hz => nomatch hz⟩
  | cons x l ih =>
    match vs, hlen with
    | s :: vs, hlen =>
      obtain ⟨zs, h1, h2, h3, h4⟩ := ih (vs := vs) (by simpa using hlen) fun i s x hs hx => hr (i + 1) s x (by simpa using hs) (by simpa using hx)
      refine ⟨(sval s, x) :: zs, by rw [List.map_cons, List.map_cons, h1], by rw [List.map_cons, h2], by simp [h3], fun z hz => ?_⟩
      rcases List.mem_cons.1 hz with rfl | hz
      · exact hr 0 s x rfl rfl
      · exact h4 z hz
set_option maxRecDepth 16000 in
set_option maxHeartbeats 2000000 in
theorem psorted_any (vs : List SV) (x y : List (List Int)) (b o c : Nat) (w : World) (hv : Row scell 1 w (.slice (some ⟨b, o, none⟩) vs.length c) vs) (hlen : vs.length = (x ++ y).length) (hl : vs.length ≤ 100000)
    (hr : ∀ (i : Nat) (s : SV) (l : List Int), vs[i]? = some s → (x ++ y)[i]? = some l → RowE 3 icells 1 w (sval s) l) (h0 : 0 < vs.length) :
    Calls Tryz.prog 41 #[.slice (some ⟨b, o, none⟩) vs.length c] w (RetV (fun u' w' => Rows2 icells 1 w' u' (joinL x y)) w) := by
  have HCL := hide (pcloneV_any vs b o c w hv hl)
  obtain ⟨zs, z1, z2, z3, z4⟩ := vl_of hlen hr
  have HZ1 := hide z1
  have HZ2 := hide z2
  have hzl : zs.length = vs.length := by rw [z3, hlen]
  have HZL := hide hzl
  have HZ4 := hide z4
  clear hv hr hlen z1 z2 z3 z4 hzl
  go_enter Tryz.func41, Tryz.ntmps41
  go_wp2_with fail
  refine HCL.out.mono ?_
  rintro e W1 ⟨⟨u1, rfl, hown1⟩, hE1⟩
  rcases hown1.form with ⟨rfl, hn⟩ | ⟨g, k, rfl, hbg, hgl, hck, -⟩
  · exfalso; rw [hn] at h0; exact absurd h0 (by decide)
  have HE1 := hide hE1
  have ho := hown1.ofSV
  rw [← HZ1.out] at ho
  rw [← HZL.out] at ho h0 hl ⊢
  have HB := hide hbg
  have HS := hide (srtV_any zs g k W1 w.heap.size ho (fun z hz => (HZ4.out z hz).ext hE1) hl)
  have HT := hide ho.typed
  clear hown1 hE1 ho hbg hgl hck HCL
  go_wp2_with fail
  refine HS.out.mono ?_
  rintro e W2 ⟨rfl, ys, hperm, hsort, hown2, hg2⟩
  have hyl : ys.length = zs.length := hperm.length_eq
  have HG2 := hide hg2
  have HY := hide (cmp_join hperm HZ2.out hsort)
  have HRY : Hid (∀ z ∈ ys, RowE 3 icells 1 W2 z.1 z.2) := fun z hz => (((HZ4.out z (hperm.mem_iff.1 hz)).ext HE1.out).grown hg2 (fun k hk => by injection hk with hk; subst hk; exact HT.out _ rfl) (by decide))
  rw [← hyl] at hown2 hl
  have HC := hide (pcompact_any ys g k W2 w.heap.size hown2 (fun i hi => HRY.out _ (by rw [List.getD_eq_getElem?_getD, List.getElem?_eq_getElem hi]; exact List.getElem_mem _)) hl)
  rw [hyl] at HC
  have HT2 := hide hown2.typed
  clear hperm hsort hown2 hg2 HS
  have HYL := hide hyl
  clear hyl
  go_wp2_with fail
  refine HC.out.mono ?_
  rintro e W3 ⟨rfl, hown3, hg3⟩
  have HO3 := hide hown3
  have HG3 := hide hg3
  clear hown3 hg3 HC
  go_wp2_with fail
  go_ret
  have hEE : Ext w W3 := (HE1.out.grown HG2.out (fun k hk => by injection hk with hk; rw [← hk]; exact HB.out)).grown HG3.out (fun k hk => by injection hk with hk; rw [← hk]; exact HB.out)
  refine ⟨_, rfl, ?_, hEE⟩
  rw [← HY.out, ← HYL.out]
  have hb := cmpN_len ys ys.length
  have ho3 := HO3.out
  rw [← HYL.out] at ho3
  show Rows2 icells 1 W3 (.slice (some ⟨g, 0, none⟩) (cmpN ys ys.length).length k) _
  have ho3 : Own one 1 W3 w.heap.size 45 (.slice (some ⟨g, 0, none⟩) (cmpN ys ys.length).length k) ((cmpN ys ys.length).map (·.1)) := ho3
  refine ⟨(cmpN ys ys.length).map (·.1), by rw [List.length_map, List.length_map], ho3.row (by rw [List.length_map]; omega), fun i u xs hu hx => ?_⟩
  rw [List.getElem?_map] at hu hx
  cases hz : (cmpN ys ys.length)[i]? with
  | none => rw [hz] at hu; cases hu
  | some z =>
    rw [hz] at hu hx
    simp only [Option.map_some, Option.some.injEq] at hu hx
    subst hu hx
    have hm : z ∈ ys := by
      have := List.mem_of_getElem? hz
      unfold cmpN at this
      obtain ⟨j, hj, rfl⟩ := List.mem_map.1 this
      have hj := List.mem_range.1 (List.mem_filter.1 hj).1
      rw [List.getD_eq_getElem?_getD, List.getElem?_eq_getElem hj]
      exact List.getElem_mem _
    exact ((HRY.out z hm).grown HG3.out (fun k hk => by injection hk with hk; subst hk; exact HT2.out _ rfl) (by decide)).1
theorem svs_of {vs : List Value} (h : ∀ v ∈ vs, ∃ s, v = sval s) : ∃ sv : List SV, vs = sv.map sval := by
  induction vs with
  | nil => exact ⟨[], rfl⟩
  | cons v vs ih =>
    obtain ⟨s, rfl⟩ := h v (by simp)
    obtain ⟨sv, rfl⟩ := ih fun v hv => h v (by simp [hv])
    exact ⟨s :: sv, rfl⟩
/-- A collection as slices. -/
theorem Coll.svs {w : World} {base : Nat} {u : Value} {x : List (List Int)} (h : Coll 45 3 icells 1 w base u x) (hl : x.length ≤ 100000) :
    ∃ (sv : List SV) (p : Option Addr) (c : Nat), u = .slice p x.length c ∧ sv.length = x.length ∧ Row scell 1 w u sv ∧ ∀ (i : Nat) (s : SV) (l : List Int), sv[i]? = some s → x[i]? = some l → RowE 3 icells 1 w (sval s) l := by
  obtain ⟨vs, h1, h2, h3⟩ := h
  obtain ⟨sv, rfl⟩ := svs_of (vs := vs) fun v hv => by
    obtain ⟨i, hi, rfl⟩ := List.getElem_of_mem hv
    obtain ⟨p, c, e, -⟩ := (h3 i _ (x[i]'(by omega)) (List.getElem?_eq_getElem hi) (List.getElem?_eq_getElem (by omega))).1.int_all
    exact ⟨(p, _, c), e⟩
  rw [List.length_map] at h1
  have hrow := h2.row (by rw [List.length_map]; omega)
  obtain ⟨p, c, e⟩ := h2.sl
  refine ⟨sv, p, c, by rw [e, List.length_map, h1], h1, hrow.toSV, fun i s l hs hl => h3 i _ l (by rw [List.getElem?_map, hs]; rfl) hl⟩
theorem enters_pjoin1 : ∀ args w, (callFunc 40 args).run Tryz.prog w = .ok (.enter 40 args) w := fun _ _ => by kernel_rfl
set_option maxRecDepth 16000 in
set_option maxHeartbeats 1000000 in
/-- The vectors of both, in ascending order. -/
theorem pjoin1_any (x y : List (List Int)) (u t : Value) (w : World) (hx : Coll 45 3 icells 1 w 0 u x) (hy : Coll 45 3 icells 1 w 0 t y) (h0 : 0 < x.length) (hl : x.length ≤ 10000) (hl2 : y.length ≤ 10000) :
    Calls Tryz.prog 40 #[u, t] w (RetV (fun u' w' => Rows2 icells 1 w' u' (joinL x y)) w) := by
  obtain ⟨sx, p, c, rfl, ex, rx, tx⟩ := hx.svs (by omega)
  obtain ⟨sy, q, d, rfl, ey, ry, ty⟩ := hy.svs (by omega)
  obtain ⟨w2, hw2⟩ : ∃ w2, w.alloc (.cells #[.slice p x.length c, .slice q y.length d] 56) = w2 := ⟨_, rfl⟩
  have HE : Hid (Ext w w2) := by show Ext _ _; rw [← hw2]; exact (Ext.refl w).alloc _
  have hb : w2.heap[w.heap.size]? = some (.cells #[.slice p x.length c, .slice q y.length d] 56 (0, 0)) := by rw [← hw2]; exact heap_alloc_new w _
  have hC := pconcat_any w.heap.size (fun i => if i = 0 then p else q) (fun i => if i = 0 then x.length else y.length) (fun i => if i = 0 then c else d) (fun i => if i = 0 then sx else sy) w2
    (fun i hi => by
      rcases (by omega : i = 0 ∨ i = 1) with rfl | rfl
      · exact decl_cells hb 0
      · exact decl_cells hb 1) (lt_of_heap hb)
    (fun i hi => by
      rcases (by omega : i = 0 ∨ i = 1) with rfl | rfl
      · exact ex
      · exact ey)
    (fun i hi => by
      rcases (by omega : i = 0 ∨ i = 1) with rfl | rfl
      · exact rx.ext HE.out
      · exact ry.ext HE.out) h0 (fun i => by split <;> omega)
  have HC := hide hC
  have HXY : Hid (∀ (i : Nat) (s : SV) (l : List Int), (sx ++ sy)[i]? = some s → (x ++ y)[i]? = some l → RowE 3 icells 1 w (sval s) l) := fun i s l hs hl => by
    by_cases hi : i < sx.length
    · rw [List.getElem?_append_left hi] at hs
      rw [List.getElem?_append_left (by omega)] at hl
      exact tx i s l hs hl
    · rw [List.getElem?_append_right (by omega)] at hs
      rw [List.getElem?_append_right (by omega), ← ex] at hl
      exact ty _ s l hs hl
  have hxl : (sx ++ sy).length = (x ++ y).length := by rw [List.length_append, List.length_append, ex, ey]
  have hsl : (sx ++ sy).length ≤ 20000 := by rw [hxl, List.length_append]; omega
  have hs0 : 0 < (sx ++ sy).length := by rw [List.length_append, ex]; omega
  have HX := hide hxl
  have HS0 := hide hs0
  have HSL := hide hsl
  have HW2 := hide hw2
  clear hx hy rx ry tx ty hC hb hxl hsl hs0 hw2 ex ey
  replace HC : Hid (Calls Tryz.prog 42 #[.slice (some ⟨w.heap.size, 0, none⟩) 2 2] w2 fun e w' => (∃ u, e = .returned u ∧ Own scell 1 w' w2.heap.size 45 u (sx ++ sy)) ∧ Ext w2 w') := HC
  generalize sx ++ sy = S at HC HXY HX HS0 HSL
  generalize x.length = lx at *
  generalize y.length = ly at *
  go_enter Tryz.func40, Tryz.ntmps40
  go_wp2_with fail
  rw [HW2.out]
  refine HC.out.mono ?_
  rintro e W1 ⟨⟨u1, rfl, hown1⟩, hE1⟩
  rcases hown1.form with ⟨rfl, hn⟩ | ⟨g, k, rfl, hbg, hgl, hck, -⟩
  · exfalso; have := HS0.out; rw [hn] at this; exact absurd this (by decide)
  have HSO := hide (psorted_any S x y g 0 k W1 (hown1.row (by have := HSL.out; omega)) HX.out (by have := HSL.out; omega) (fun i s l hs hl => (HXY.out i s l hs hl).ext (HE.out.trans hE1)) HS0.out)
  have HE1 := hide (HE.out.trans hE1)
  clear hown1 hE1 hbg hgl hck HC
  generalize S.length = ns at HSO ⊢
  go_wp2_with fail
  refine HSO.out.mono ?_
  rintro e W2 ⟨v, rfl, hv, hE2⟩
  obtain ⟨_, _, e2, -⟩ := hv.sl_all
  subst e2
  have HV := hide hv
  clear hv
  go_wp2_with fail
  go_ret
  exact ⟨_, rfl, HV.out, HE1.out.trans hE2⟩
end Go.Proofs.YthkididgbaamcaaGreatDoor
