/-
  The program's iterator over all vectors (condition.vectors).
  Conditions: as each theorem states.
-/
import Derived.Test.YthkididgbaamcaaGreatDoorFound
import Derived.Test.YthkididgbaamcaaGreatDoorHeldA
import Derived.Test.YthkididgbaamcaaGreatDoorSeqA
import Derived.Laws.MakeOwn
import Derived.IntWalk
namespace Go.Proofs.YthkididgbaamcaaGreatDoor

def dig (m : Nat) : Nat → Nat → List Int
  | 0, _ => []
  | n + 1, i => dig m n (i / m) ++ [((i % m : Nat) : Int)]
def vecs (m : Nat) : Nat → List (List Int)
  | 0 => [[]]
  | n + 1 => (vecs m n).flatMap fun x => (List.range m).map fun v : Nat => x ++ [(v : Int)]
theorem dig_len (m : Nat) : ∀ n i, (dig m n i).length = n
  | 0, _ => rfl
  | n + 1, i => by simp only [dig, List.length_append, dig_len m n]; rfl
theorem vecs_map (m : Nat) : ∀ n, vecs m n = (List.range (m ^ n)).map (dig m n)
  | 0 => rfl
  | n + 1 => by
    simp only [vecs]
    rw [vecs_map m n]
    have key : ∀ k, ((List.range k).map (dig m n)).flatMap (fun x => (List.range m).map fun v : Nat => x ++ [(v : Int)]) = (List.range (k * m)).map (dig m (n + 1)) := by
      intro k
      induction k with
      | zero => simp
      | succ k ih =>
        rw [List.range_succ, List.map_append, List.flatMap_append, ih, Nat.succ_mul, List.range_add, List.map_append]
        congr 1
        simp only [List.map_cons, List.map_nil, List.flatMap_cons, List.flatMap_nil, List.append_nil, List.map_map]
        apply List.map_congr_left
        intro v hv
        have hv' : v < m := List.mem_range.1 hv
        simp only [Function.comp, dig]
        rw [Nat.mul_comm k m, Nat.mul_add_div (by omega), Nat.div_eq_of_lt hv', Nat.add_zero, Nat.mul_add_mod, Nat.mod_eq_of_lt hv']
    rw [key, Nat.pow_succ]
theorem vecs_len (m n : Nat) : (vecs m n).length = m ^ n := by rw [vecs_map]; simp
theorem vecs_at (m n : Nat) {i : Nat} (h : i < m ^ n) : (vecs m n)[i]? = some (dig m n i) := by
  rw [vecs_map, List.getElem?_map, List.getElem?_range h]; rfl
theorem dig_bd (m : Nat) (hm : 0 < m) : ∀ n i, ∀ x ∈ dig m n i, 0 ≤ x ∧ x < m
  | 0, _, x, h => by simp [dig] at h
  | n + 1, i, x, h => by
    simp only [dig, List.mem_append, List.mem_singleton] at h
    rcases h with h | h
    · exact dig_bd m hm n _ x h
    · have := Nat.mod_lt i hm
      omega
theorem dig_full {m n q : Nat} (h : q % m = m - 1) (hm : 0 < m) : dig m (n + 1) (q + 1) = dig m n (q / m + 1) ++ [0] := by
  have h1 := Nat.div_add_mod q m
  have h2 : q + 1 = m * (q / m + 1) := by rw [Nat.mul_add, Nat.mul_one]; omega
  simp only [dig]
  rw [h2, Nat.mul_div_cancel_left _ hm, Nat.mul_mod_right]
  rfl
theorem dig_next {m n q : Nat} (h : q % m ≠ m - 1) (hm : 0 < m) : dig m (n + 1) (q + 1) = dig m n (q / m) ++ [((q % m + 1 : Nat) : Int)] := by
  have h1 := Nat.div_add_mod q m
  have h3 := Nat.mod_lt q hm
  have h2 : q + 1 = m * (q / m) + (q % m + 1) := by omega
  simp only [dig]
  have e1 : (q + 1) / m = q / m := by rw [h2, Nat.mul_add_div hm, Nat.div_eq_of_lt (show q % m + 1 < m by omega), Nat.add_zero]
  have e2 : (q + 1) % m = q % m + 1 := by
    have := Nat.mul_add_mod m (q / m) (q % m + 1)
    rw [← h2, Nat.mod_eq_of_lt (show q % m + 1 < m by omega)] at this
    exact this
  rw [e1, e2]
theorem dig_zero (m : Nat) : ∀ n, dig m n 0 = List.replicate n 0
  | 0 => rfl
  | n + 1 => by simp only [dig, Nat.zero_div, Nat.zero_mod, dig_zero m n]; rw [List.replicate_succ']; rfl
theorem dig_last (m n q : Nat) : (dig m (n + 1) q).getD n 0 = ((q % m : Nat) : Int) := by
  simp only [dig]
  rw [List.getD_eq_getElem?_getD, List.getElem?_append_right (by rw [dig_len]; exact Nat.le_refl _), dig_len]
  simp
end Go.Proofs.YthkididgbaamcaaGreatDoor

namespace Go.Proofs.YthkididgbaamcaaGreatDoor
open Go.RowKit
attribute [local go_sem] Oper.semAt_some

def vals (l : List Int) : Array Value := (l.map fun x => Value.int .i64 x).toArray
theorem vals_at {l : List Int} {j : Nat} (h : j < l.length) : (vals l)[j]? = some (.int .i64 (l.getD j 0)) := by
  unfold vals
  rw [List.getElem?_toArray, List.getElem?_map, List.getElem?_eq_getElem h, List.getD_eq_getElem?_getD, List.getElem?_eq_getElem h]; rfl
theorem vals_set (l : List Int) (j : Nat) (x : Int) : (vals l).setIfInBounds j (.int .i64 x) = vals (l.set j x) := by
  unfold vals
  rw [List.setIfInBounds_toArray, List.map_set]
/-- Block b holds the numbers l. -/
def Nums (W : World) (b : Nat) (l : List Int) : Prop := W.heap[b]? = some (.cells (vals l) 3 (0, 0))
theorem Nums.at_ {W : World} {b : Nat} {l : List Int} (h : Nums W b l) {j : Nat} (hj : j < l.length) : W.cell? ⟨b, j, none⟩ = some (.int .i64 (l.getD j 0)) := by rw [cell_of_row W b j _ _ _ h]; exact vals_at hj
theorem Nums.set {W : World} {b : Nat} {l : List Int} (h : Nums W b l) (j : Nat) (x : Int) : Nums (W.setCell ⟨b, j, none⟩ (.int .i64 x)) b (l.set j x) := by
  have := heap_set (j := j) h (.int .i64 x)
  rw [vals_set] at this
  exact this
theorem Nums.row {W : World} {b : Nat} {l : List Int} (h : Nums W b l) (hl : l.length ≤ 1000) : Row icells 1 W (.slice (some ⟨b, 0, none⟩) l.length l.length) l := by
  refine ⟨_, _, rfl, Nat.le_refl _, by omega, fun _ => ⟨b, 0, rfl, lt_of_heap h, fun i x hx j u hu => ?_⟩⟩
  cases j with
  | zero =>
    simp only [List.getElem?_cons_zero, Option.some.injEq] at hu
    subst hu
    have hi : i < l.length := by
      rcases Nat.lt_or_ge i l.length with h1 | h1
      · exact h1
      · rw [List.getElem?_eq_none h1] at hx; cases hx
    have := h.at_ hi
    rw [List.getD_eq_getElem?_getD, hx] at this
    simpa using this
  | succ j => simp at hu
theorem set_dig (m j q r : Nat) (x : Int) : (dig m (j + 1) q ++ List.replicate r 0).set j x = dig m j (q / m) ++ (x :: List.replicate r 0) := by
  simp only [dig, List.append_assoc, List.singleton_append]
  rw [List.set_append_right _ _ (by rw [dig_len]; exact Nat.le_refl _), dig_len, Nat.sub_self]
  rfl
theorem getD_dig (m j q r : Nat) : (dig m (j + 1) q ++ List.replicate r 0).getD j 0 = ((q % m : Nat) : Int) := by
  simp only [dig, List.append_assoc, List.singleton_append]
  rw [List.getD_eq_getElem?_getD, List.getElem?_append_right (by rw [dig_len]; exact Nat.le_refl _), dig_len, Nat.sub_self]
  rfl
def decode (m : Nat) (l : List Int) : Nat := l.foldl (fun a x => a * m + x.toNat) 0
theorem decode_dig (m : Nat) (hm : 0 < m) : ∀ n i, i < m ^ n → decode m (dig m n i) = i
  | 0, i, h => by simp at h; subst h; rfl
  | n + 1, i, h => by
    have h1 : i / m < m ^ n := by rw [Nat.div_lt_iff_lt_mul hm]; rwa [Nat.pow_succ] at h
    have := decode_dig m hm n (i / m) h1
    unfold decode at this ⊢
    simp only [dig, List.foldl_append, this, List.foldl_cons, List.foldl_nil, Int.toNat_natCast]
    rw [Nat.mul_comm]; exact Nat.div_add_mod i m
def intsOf : Option Obj → List Int
  | some (.cells c _ _) => c.toList.map intOf
  | _ => []
theorem Nums.ints {W : World} {b : Nat} {l : List Int} (h : Nums W b l) : intsOf W.heap[b]? = l := by
  unfold Nums at h
  rw [h]
  show (List.map intOf (vals l).toList) = l
  unfold vals
  rw [show ((l.map fun x => Value.int .i64 x).toArray).toList = l.map fun x => Value.int .i64 x from rfl, List.map_map]
  exact List.map_id' l

theorem make_ints {P : Program} (t e : TypeId) (ht : P.underlying t = some (.slice e)) (hi : (P.info? e).map (fun i => (i.zero, i.size, i.bytes)) = some (some (.int .i64 0), 1, 8)) (n : Nat) (hn : n ≤ 5) (w : World) :
    (Instr.makeSlice t (.int .i64 (n : Int)) (.int .i64 (n : Int))).run P w = .ok (.slice (some ⟨w.heap.size, 0, none⟩) n n) (w.alloc (.cells (vals (List.replicate n 0)) e)) := by
  cases hq : P.info? e with
  | none => rw [hq] at hi; cases hi
  | some i =>
    rw [hq] at hi
    simp only [Option.map_some, Option.some.injEq, Prod.mk.injEq] at hi
    obtain ⟨hz, h1, h8⟩ := hi
    have hr := run_make (P := P) w t e i (.int .i64 0) ht hq hz .i64 .i64 n n (by omega) (by omega) (by rw [h8]; omega) (by omega)
    simp only [Int.toNat_natCast] at hr
    rw [hr, h1, Nat.mul_one]
    have : madeCells (Value.int .i64 0).cells n = vals (List.replicate n 0) := by
      obtain rfl | rfl | rfl | rfl | rfl | rfl : n = 0 ∨ n = 1 ∨ n = 2 ∨ n = 3 ∨ n = 4 ∨ n = 5 := by omega
      all_goals kernel_rfl
    rw [this]
theorem vectors_any (n m : Int) (w : World) : Calls Tryz.prog 98 #[.int .i64 n, .int .i64 m] w fun e w' =>
    e = .returned (.func (.func 124) #[] #[.pointer (some ⟨w.heap.size, 0, none⟩), .pointer (some ⟨w.heap.size + 1, 0, none⟩)]) ∧ w' = (w.alloc (.cells #[.int .i64 n] 3)).alloc (.cells #[.int .i64 m] 3) := by
  go_enter Tryz.func98, Tryz.ntmps98
  go_wp2
  go_ret
  exact ⟨rfl, rfl⟩

set_option maxRecDepth 8000 in
set_option maxHeartbeats 1000000 in
theorem vectors_seq (n m : Nat) (hm : 1 ≤ m) (hm8 : m ≤ 8) (hn5 : n ≤ 5) (hn1 : 1 ≤ n) (g : Nat) :
    SeqX Tryz.prog 124 #[.pointer (some ⟨g, 0, none⟩), .pointer (some ⟨g + 1, 0, none⟩)] (fun W => W.cell? ⟨g, 0, none⟩ = some (.int .i64 n) ∧ W.cell? ⟨g + 1, 0, none⟩ = some (.int .i64 m)) (fun k => k = g ∨ k = g + 1) (fun _ => True) (m ^ n)
      (fun i O x W => ∃ b, x = #[.slice (some ⟨b, 0, none⟩) n n] ∧ O b ∧ Nums W b (dig m n i)) := by
  intro lp J Jx W hD hJ hJx hY hI hO0 h0
  have HJ := hide hJ
  have HJX := hide hJx
  have HY := hide hY
  have HO0 := hide hO0
  have H0 := hide h0
  obtain ⟨hi1, hi2⟩ := hI
  have hgz : g < W.heap.size := hO0 g (.inl rfl)
  have hgz1 : g + 1 < W.heap.size := hO0 (g + 1) (.inr rfl)
  clear hD hJ hJx hY h0 hO0
  refine callsIn_of_wp Tryz.func124 rfl trivial ?_ rfl
  simp only [Tryz.ntmps124, List.size_toArray, List.length_cons, List.length_nil, Nat.reduceAdd, Nat.reduceSub, Array.replicate_succ, Array.replicate_zero, List.push_toArray, List.append_toArray, List.nil_append, List.cons_append]
  have hmk := make_ints 45 3 Tryz.underlying45 int_info n hn5 W
  gi_wp2_with fail
  clear hmk
  obtain ⟨b, hb⟩ : ∃ b, W.heap.size = b := ⟨_, rfl⟩
  have hE1 : Ext W (W.alloc (.cells (vals (List.replicate n 0)) 3)) := (Ext.refl W).alloc _
  have hN1 : Nums (W.alloc (.cells (vals (List.replicate n 0)) 3)) b (dig m n 0) := by rw [dig_zero, ← hb]; exact heap_alloc_new W _
  have hc1 : (W.alloc (.cells (vals (List.replicate n 0)) 3)).cell? ⟨g, 0, none⟩ = some (.int .i64 n) := (hE1.cell hgz).trans hi1
  have hc2 : (W.alloc (.cells (vals (List.replicate n 0)) 3)).cell? ⟨g + 1, 0, none⟩ = some (.int .i64 m) := (hE1.cell hgz1).trans hi2
  obtain ⟨O1, hO1⟩ : ∃ O1 : Nat → Prop, O1 = fun k => k = g ∨ k = g + 1 ∨ k = b := ⟨_, rfl⟩
  have hj1 := HJ.out 0 _ O1 _ (W.alloc (.cells (vals (List.replicate n 0)) 3)) H0.out (Off.of_ext hE1) (fun k hk => by
    rw [hO1] at hk
    simp only [World.size_alloc]
    rcases hk with rfl | rfl | rfl
    · exact ⟨.inl (.inl rfl), by omega⟩
    · exact ⟨.inl (.inr rfl), by omega⟩
    · exact ⟨.inr (by omega), by omega⟩)
  have hz1 : b < (W.alloc (.cells (vals (List.replicate n 0)) 3)).heap.size := by simp; omega
  have hgb : g < b := by omega
  have hgb1 : g + 1 < b := by omega
  have HO1 := hide hO1
  rw [hb]
  generalize W.alloc (.cells (vals (List.replicate n 0)) 3) = W1 at hN1 hc1 hc2 hj1 hz1 ⊢
  clear hO1 hi1 hi2 hE1 H0 hgz hgz1 hb
  have HST : Hid (∃ i, i < m ^ n ∧ Nums W1 b (dig m n i) ∧ W1.cell? ⟨g, 0, none⟩ = some (.int .i64 n) ∧ W1.cell? ⟨g + 1, 0, none⟩ = some (.int .i64 m) ∧ J i O1 W1 ∧ b < W1.heap.size) := ⟨0, Nat.pow_pos (by omega), hN1, hc1, hc2, hj1, hz1⟩
  clear hN1 hc1 hc2 hj1 hz1
  gi_loopw [5] (fun _ wr => Hid (∃ i, i < m ^ n ∧ Nums wr b (dig m n i) ∧ wr.cell? ⟨g, 0, none⟩ = some (.int .i64 n) ∧ wr.cell? ⟨g + 1, 0, none⟩ = some (.int .i64 m) ∧ J i O1 wr ∧ b < wr.heap.size)) (fun _ wr => m ^ n - decode m (intsOf wr.heap[b]?))
  case atStart => exact HST
  case round =>
    clear HST
    obtain ⟨i, hi, hN, hc1, hc2, hj, hz⟩ := hrel.out
    have HN := hide hN
    have hOz : ∀ k, O1 k → k < wr.heap.size := fun k hk => by
      rw [HO1.out] at hk
      rcases hk with rfl | rfl | rfl <;> omega
    obtain ⟨fn, tmps, assign, body, hy, hR⟩ := HY.out i #[.slice (some ⟨b, 0, none⟩) n n] O1 wr hi ⟨b, rfl, by rw [HO1.out]; exact .inr (.inr rfl), hN⟩ hj hOz
    have HR := hide hR
    have HZ := hide hOz
    clear hR hj hN hOz hrel
    gi_wp2_with fail
    refine ⟨rfl, HR.out.mono ?_⟩
    rintro e W' ⟨⟨hko, hsz⟩, (⟨rfl, hJ'⟩ | ⟨rfl, hJx'⟩)⟩
    · have hN' : Nums W' b (dig m n i) := (hko b (by rw [HO1.out]; exact .inr (.inr rfl))).trans HN.out
      have hk1 : ∀ {a : Addr} {u : Value}, O1 a.block → wr.cell? a = some u → W'.cell? a = some u := fun ha h => by rw [World.cell?_of_block (hko _ ha)]; exact h
      have hc1' : W'.cell? ⟨g, 0, none⟩ = some (.int .i64 n) := hk1 (by rw [HO1.out]; exact .inl rfl) hc1
      have hc2' : W'.cell? ⟨g + 1, 0, none⟩ = some (.int .i64 m) := hk1 (by rw [HO1.out]; exact .inr (.inl rfl)) hc2
      have hz' : b < W'.heap.size := by omega
      have HJ3 := hide hJ'
      have HIN : Hid (∃ k q, k ≤ n ∧ ((n : Int) - 1 = (k : Int) - 1) ∧ q < m ^ k ∧ i + 1 = (q + 1) * m ^ (n - k) ∧ dig m n (i + 1) = dig m k (q + 1) ++ List.replicate (n - k) 0 ∧ Nums W' b (dig m k q ++ List.replicate (n - k) 0) ∧ J (i + 1) O1 W') :=
        ⟨n, i, Nat.le_refl _, rfl, hi, by simp, by simp, by simpa using hN', hJ'⟩
      clear hc1 hc2 hz hko hsz hJ' HR hk1 hN'
      gi_wp2_with fail
      have hE0 : Ext W' W' := Ext.refl _
      have HCC : Hid (W'.cell? ⟨g, 0, none⟩ = some (.int .i64 n) ∧ W'.cell? ⟨g + 1, 0, none⟩ = some (.int .i64 m) ∧ b < W'.heap.size) := ⟨hc1', hc2', hz'⟩
      clear hc1' hc2' hz' hE0 HJ3
      gi_loopw [5] (fun x V => Hid (∃ k q, k ≤ n ∧ x = .int .i64 ((k : Int) - 1) ∧ q < m ^ k ∧ i + 1 = (q + 1) * m ^ (n - k) ∧ dig m n (i + 1) = dig m k (q + 1) ++ List.replicate (n - k) 0 ∧ Nums V b (dig m k q ++ List.replicate (n - k) 0) ∧ J (i + 1) O1 V ∧
        V.cell? ⟨g, 0, none⟩ = some (.int .i64 n) ∧ V.cell? ⟨g + 1, 0, none⟩ = some (.int .i64 m) ∧ b < V.heap.size)) (fun x _ => (intOf x + 1).toNat)
      case atStart =>
        obtain ⟨k, q, h1, h2, h3, h4, h5, h6, h7⟩ := HIN.out
        exact ⟨k, q, h1, by rw [h2], h3, h4, h5, h6, h7, HCC.out⟩
      case round =>
        clear HIN HCC
        obtain ⟨k, q, hk, rfl, hq, h4, h5, hN, hj, hc1, hc2, hz⟩ := hrel.out
        clear hrel
        have H4 := hide h4
        have H5 := hide h5
        have HN2 := hide hN
        have HJ4 := hide hj
        have HQ := hide hq
        clear h4 h5 hj hq
        cases k with
        | zero =>
          clear hN
          have hd : decide ((0 : Int) ≤ ((0 : Nat) : Int) - 1) = false := by decide
          gi_wp2_with fail
          refine (wpIn_wide (n := 0)).2 ?_
          refine wp_region_ext (by kernel_rfl) (by kernel_rfl) ?_
          repeat (go_big_quiet_step (fail))
          refine wpQuiet_nil ?_
          rintro w9 ⟨⟨_, hE9⟩, rfl⟩
          gi_wp2_with fail
          have hfin : i + 1 = m ^ n := by
            have h1 := H4.out
            have h2 := HQ.out
            have h3 : q = 0 := by simpa using h2
            rw [h3, Nat.sub_zero] at h1
            omega
          have hJ9 := HJ.out (i + 1) O1 O1 _ w9 HJ4.out (Off.of_ext hE9) (Grow.same (fun k hk => by rw [HO1.out] at hk; rcases hk with rfl | rfl | rfl <;> omega) hE9.size)
          rw [hfin] at hJ9
          exact bodyPost_ret (results_none rfl _ _ _) rfl ⟨⟨_, rfl⟩, _, .inl hJ9⟩
        | succ j =>
          have hlen : (dig m (j + 1) q ++ List.replicate (n - (j + 1)) 0).length = n := by rw [List.length_append, dig_len, List.length_replicate]; omega
          have hcj := hN.at_ (j := j) (by rw [hlen]; omega)
          rw [getD_dig] at hcj
          have hjn : (j : Int) < (n : Int) := by omega
          have hj1 : IntKind.i64.wrap (((j + 1 : Nat) : Int) - 1) = (j : Int) := by rw [IntWalk.i64_in _ (by omega)]; omega
          have hjj : (((j + 1 : Nat) : Int) - 1) = (j : Int) := by omega
          rw [hjj]
          have hqm := Nat.mod_lt q (show 0 < m by omega)
          have hfz := frozen_of (j := j) hN
          have hgw0 : g < wr.heap.size := by omega
          have hgw1 : g + 1 < wr.heap.size := by omega
          clear hN hjj hj1
          by_cases hlast : q % m = m - 1
          · have hd : (((q % m : Nat) : Int) == (m : Int) - 1) = true := by rw [beq_iff_eq, hlast]; omega
            have HL := hide hlast
            clear hlast
            gi_wp2_with fail
            refine (wpIn_wide (n := 0)).2 ?_
            refine wp_region_ext (by kernel_rfl) (by kernel_rfl) ?_
            repeat (go_big_quiet_step (fail))
            refine wpQuiet_nil ?_
            rintro w9 ⟨⟨_, hE9⟩, rfl⟩
            have hN9 : Nums w9 b (dig m (j + 1) q ++ List.replicate (n - (j + 1)) 0) := (hE9.b.block _ hz).trans HN2.out
            have hcj9 := hN9.at_ (j := j) (by rw [hlen]; omega)
            rw [getD_dig] at hcj9
            have hfz9 := frozen_of (j := j) hN9
            have hz9 : b < w9.heap.size := Nat.lt_of_lt_of_le hz hE9.size
            have hc19 := (hE9.cell (p := ⟨g, 0, none⟩) (show g < _ by omega)).trans hc1
            have hc29 := (hE9.cell (p := ⟨g + 1, 0, none⟩) (show g + 1 < _ by omega)).trans hc2
            have HS := hide (fun x => hN9.set j x)
            have HJS := hide (fun x : Value => HJ.out (i + 1) O1 O1 _ (w9.setCell ⟨b, j, none⟩ x) HJ4.out ((Off.of_ext hE9).setCell (by rw [HO1.out]; exact .inr (.inr rfl)) x) (Grow.same (fun k hk => by rw [HO1.out] at hk; rcases hk with rfl | rfl | rfl <;> omega) (by have := hE9.size; simpa [World.setCell] using this)))
            have HC1 := hide (fun x : Value => (World.cell?_of_block (a := ⟨g, 0, none⟩) (w := w9) (w' := w9.setCell ⟨b, j, none⟩ x) (Below.heap_setCell _ _ _ _ (show g ≠ b by omega))).trans hc19)
            have HC2 := hide (fun x : Value => (World.cell?_of_block (a := ⟨g + 1, 0, none⟩) (w := w9) (w' := w9.setCell ⟨b, j, none⟩ x) (Below.heap_setCell _ _ _ _ (show g + 1 ≠ b by omega))).trans hc29)
            have HZ9 := hide (fun x : Value => show b < (w9.setCell ⟨b, j, none⟩ x).heap.size by simpa [World.setCell] using hz9)
            clear hcj hfz hc1 hc2
            clear hN9
            gi_wp2_with fail
            have hrr : n - j = n - (j + 1) + 1 := by omega
            have hq1 : q + 1 = m * (q / m + 1) := by
              have h1 := Nat.div_add_mod q m
              have h2 := HL.out
              rw [Nat.mul_add, Nat.mul_one]; omega
            refine ⟨⟨j, q / m, by omega, rfl, ?_, ?_, ?_, ?_, HJS.out _, HC1.out _, HC2.out _, HZ9.out _⟩, by simp [intOf]; try omega⟩
            · have := HQ.out
              rw [Nat.div_lt_iff_lt_mul (by omega)]
              rwa [Nat.pow_succ] at this
            · have h4 := H4.out
              rw [h4, hq1, hrr, Nat.pow_succ, Nat.mul_comm m (q / m + 1), Nat.mul_assoc, Nat.mul_comm m]
            · rw [H5.out, dig_full HL.out (by omega), List.append_assoc, hrr, List.replicate_succ]
              rfl
            · have := HS.out 0
              rw [set_dig] at this
              rw [hrr, List.replicate_succ]
              exact this
          · have hd : (((q % m : Nat) : Int) == (m : Int) - 1) = false := by rw [beq_eq_false_iff_ne]; omega
            have HL := hide hlast
            clear hlast
            gi_wp2_with fail
            refine (wpIn_wide (n := 0)).2 ?_
            refine wp_region_ext (by kernel_rfl) (by kernel_rfl) ?_
            repeat (go_big_quiet_step (fail))
            refine wpQuiet_nil ?_
            rintro w9 ⟨⟨_, hE9⟩, rfl⟩
            have hN9 : Nums w9 b (dig m (j + 1) q ++ List.replicate (n - (j + 1)) 0) := (hE9.b.block _ hz).trans HN2.out
            have hcj9 := hN9.at_ (j := j) (by rw [hlen]; omega)
            rw [getD_dig] at hcj9
            have hfz9 := frozen_of (j := j) hN9
            have hz9 : b < w9.heap.size := Nat.lt_of_lt_of_le hz hE9.size
            have hc19 := (hE9.cell (p := ⟨g, 0, none⟩) (show g < _ by omega)).trans hc1
            have hc29 := (hE9.cell (p := ⟨g + 1, 0, none⟩) (show g + 1 < _ by omega)).trans hc2
            have HS := hide (fun x => hN9.set j x)
            have HJS := hide (fun x : Value => HJ.out (i + 1) O1 O1 _ (w9.setCell ⟨b, j, none⟩ x) HJ4.out ((Off.of_ext hE9).setCell (by rw [HO1.out]; exact .inr (.inr rfl)) x) (Grow.same (fun k hk => by rw [HO1.out] at hk; rcases hk with rfl | rfl | rfl <;> omega) (by have := hE9.size; simpa [World.setCell] using this)))
            have HC1 := hide (fun x : Value => (World.cell?_of_block (a := ⟨g, 0, none⟩) (w := w9) (w' := w9.setCell ⟨b, j, none⟩ x) (Below.heap_setCell _ _ _ _ (show g ≠ b by omega))).trans hc19)
            have HC2 := hide (fun x : Value => (World.cell?_of_block (a := ⟨g + 1, 0, none⟩) (w := w9) (w' := w9.setCell ⟨b, j, none⟩ x) (Below.heap_setCell _ _ _ _ (show g + 1 ≠ b by omega))).trans hc29)
            have HZ9 := hide (fun x : Value => show b < (w9.setCell ⟨b, j, none⟩ x).heap.size by simpa [World.setCell] using hz9)
            clear hcj hfz hc1 hc2
            clear hN9
            gi_wp2_with fail
            have hrr : n = j + 1 + (n - (j + 1)) := by omega
            have hlt : i + 1 < m ^ n := by
              have h2 := HQ.out
              have h3 : q + 1 ≠ m ^ (j + 1) := fun h => by
                have h5 : q = m ^ j * m - 1 := by rw [Nat.pow_succ] at h; omega
                have h6 : 1 ≤ m ^ j := Nat.pow_pos (by omega)
                obtain ⟨z, hz⟩ := Nat.exists_eq_add_of_lt (show 0 < m ^ j by omega)
                have h7 : q = m * z + (m - 1) := by
                  rw [h5, hz, Nat.zero_add, Nat.add_mul, Nat.one_mul, Nat.mul_comm z m]; omega
                exact HL.out (by rw [h7, Nat.mul_add_mod, Nat.mod_eq_of_lt (by omega)])
              have h8 : q + 1 < m ^ (j + 1) := by omega
              have h9 : 0 < m ^ (n - (j + 1)) := Nat.pow_pos (by omega)
              have h10 : m ^ n = m ^ (j + 1) * m ^ (n - (j + 1)) := by rw [← Nat.pow_add, ← hrr]
              rw [H4.out, h10]
              exact Nat.mul_lt_mul_of_pos_right h8 h9
            have hNN : Nums (w9.setCell ⟨b, j, none⟩ (.int .i64 ((q : Int) % m + 1))) b (dig m n (i + 1)) := by
              have := HS.out ((q : Int) % m + 1)
              rw [set_dig] at this
              rw [H5.out, dig_next HL.out (by omega), List.append_assoc]
              simpa using this
            refine ⟨⟨i + 1, hlt, hNN, HC1.out _, HC2.out _, HJS.out _, HZ9.out _⟩, ?_⟩
            rw [hNN.ints, HN.out.ints, decode_dig m (by omega) n _ hlt, decode_dig m (by omega) n _ hi]
            omega
    · have HJ3 := hide hJx'
      clear hJx' HR
      gi_wp2_with fail
      exact bodyPost_end (results_none rfl _ _ _) rfl ⟨⟨_, rfl⟩, _, .inr HJ3.out⟩
end Go.Proofs.YthkididgbaamcaaGreatDoor
