/-
  The library's iterator over all vectors (library.each).
  Conditions: as each theorem states.
-/
import Derived.Test.YthkididgbaamcaaGreatDoorVecA
namespace Go.Proofs.YthkididgbaamcaaGreatDoor
open Go.RowKit
attribute [local go_sem] Oper.semAt_some

theorem each_any (n m : Int) (w : World) : Calls Tryz.prog 89 #[.int .i64 n, .int .i64 m] w fun e w' =>
    e = .returned (.func (.func 119) #[] #[.pointer (some ⟨w.heap.size, 0, none⟩), .pointer (some ⟨w.heap.size + 1, 0, none⟩)]) ∧ w' = (w.alloc (.cells #[.int .i64 n] 3)).alloc (.cells #[.int .i64 m] 3) := by
  go_enter Tryz.func89, Tryz.ntmps89
  go_wp2
  go_ret
  exact ⟨rfl, rfl⟩

set_option maxRecDepth 8000 in
set_option maxHeartbeats 1000000 in
theorem each_seq (n m : Nat) (hm : 1 ≤ m) (hm8 : m ≤ 8) (hn5 : n ≤ 5) (hn1 : 1 ≤ n) (g : Nat) :
    SeqX Tryz.prog 119 #[.pointer (some ⟨g, 0, none⟩), .pointer (some ⟨g + 1, 0, none⟩)] (fun W => W.cell? ⟨g, 0, none⟩ = some (.int .i64 n) ∧ W.cell? ⟨g + 1, 0, none⟩ = some (.int .i64 m)) (fun k => k = g ∨ k = g + 1) (fun _ => True) (m ^ n)
      (fun i O x W => ∃ b, x = #[.slice (some ⟨b, 0, none⟩) n n] ∧ O b ∧ Nums W b (dig m n i)) := by
  intro lp J Jx W hD hJ hJx hY hI hO0 h0
  have HJ := hide hJ
  have HJX := hide hJx
  have HY := hide hY
  have HO0 := hide hO0
  have H0 := hide h0
  obtain ⟨hi1, hi2⟩ := hI
  have hgz : g < W.heap.size := hO0 g (.inl rfl)
  have hgz1 : g + 1 < W.heap.size := hO0 (g + 1) (.inr rfl)
  clear hD hJ hJx hY h0 hO0
  refine callsIn_of_wp Tryz.func119 rfl trivial ?_ rfl
  simp only [Tryz.ntmps119, List.size_toArray, List.length_cons, List.length_nil, Nat.reduceAdd, Nat.reduceSub, Array.replicate_succ, Array.replicate_zero, List.push_toArray, List.append_toArray, List.nil_append, List.cons_append]
  have hmk := make_ints 45 3 Tryz.underlying45 int_info n hn5 W
  gi_wp2_with fail
  clear hmk
  obtain ⟨b, hb⟩ : ∃ b, W.heap.size = b := ⟨_, rfl⟩
  have hE1 : Ext W (W.alloc (.cells (vals (List.replicate n 0)) 3)) := (Ext.refl W).alloc _
  have hN1 : Nums (W.alloc (.cells (vals (List.replicate n 0)) 3)) b (dig m n 0) := by rw [dig_zero, ← hb]; exact heap_alloc_new W _
  have hc1 : (W.alloc (.cells (vals (List.replicate n 0)) 3)).cell? ⟨g, 0, none⟩ = some (.int .i64 n) := (hE1.cell hgz).trans hi1
  have hc2 : (W.alloc (.cells (vals (List.replicate n 0)) 3)).cell? ⟨g + 1, 0, none⟩ = some (.int .i64 m) := (hE1.cell hgz1).trans hi2
  obtain ⟨O1, hO1⟩ : ∃ O1 : Nat → Prop, O1 = fun k => k = g ∨ k = g + 1 ∨ k = b := ⟨_, rfl⟩
  have hj1 := HJ.out 0 _ O1 _ (W.alloc (.cells (vals (List.replicate n 0)) 3)) H0.out (Off.of_ext hE1) (fun k hk => by
    rw [hO1] at hk
    simp only [World.size_alloc]
    rcases hk with rfl | rfl | rfl
    · exact ⟨.inl (.inl rfl), by omega⟩
    · exact ⟨.inl (.inr rfl), by omega⟩
    · exact ⟨.inr (by omega), by omega⟩)
  have hz1 : b < (W.alloc (.cells (vals (List.replicate n 0)) 3)).heap.size := by simp; omega
  have hgb : g < b := by omega
  have hgb1 : g + 1 < b := by omega
  have HO1 := hide hO1
  rw [hb]
  generalize W.alloc (.cells (vals (List.replicate n 0)) 3) = W1 at hN1 hc1 hc2 hj1 hz1 ⊢
  clear hO1 hi1 hi2 hE1 H0 hgz hgz1 hb
  have HST : Hid (∃ i, i < m ^ n ∧ Nums W1 b (dig m n i) ∧ W1.cell? ⟨g, 0, none⟩ = some (.int .i64 n) ∧ W1.cell? ⟨g + 1, 0, none⟩ = some (.int .i64 m) ∧ J i O1 W1 ∧ b < W1.heap.size) := ⟨0, Nat.pow_pos (by omega), hN1, hc1, hc2, hj1, hz1⟩
  clear hN1 hc1 hc2 hj1 hz1
  gi_loopw [5] (fun _ wr => Hid (∃ i, i < m ^ n ∧ Nums wr b (dig m n i) ∧ wr.cell? ⟨g, 0, none⟩ = some (.int .i64 n) ∧ wr.cell? ⟨g + 1, 0, none⟩ = some (.int .i64 m) ∧ J i O1 wr ∧ b < wr.heap.size)) (fun _ wr => m ^ n - decode m (intsOf wr.heap[b]?))
  case atStart => exact HST
  case round =>
    clear HST
    obtain ⟨i, hi, hN, hc1, hc2, hj, hz⟩ := hrel.out
    have HN := hide hN
    have hOz : ∀ k, O1 k → k < wr.heap.size := fun k hk => by
      rw [HO1.out] at hk
      rcases hk with rfl | rfl | rfl <;> omega
    obtain ⟨fn, tmps, assign, body, hy, hR⟩ := HY.out i #[.slice (some ⟨b, 0, none⟩) n n] O1 wr hi ⟨b, rfl, by rw [HO1.out]; exact .inr (.inr rfl), hN⟩ hj hOz
    have HR := hide hR
    have HZ := hide hOz
    clear hR hj hN hOz hrel
    gi_wp2_with fail
    refine ⟨rfl, HR.out.mono ?_⟩
    rintro e W' ⟨⟨hko, hsz⟩, (⟨rfl, hJ'⟩ | ⟨rfl, hJx'⟩)⟩
    · have hN' : Nums W' b (dig m n i) := (hko b (by rw [HO1.out]; exact .inr (.inr rfl))).trans HN.out
      have hk1 : ∀ {a : Addr} {u : Value}, O1 a.block → wr.cell? a = some u → W'.cell? a = some u := fun ha h => by rw [World.cell?_of_block (hko _ ha)]; exact h
      have hc1' : W'.cell? ⟨g, 0, none⟩ = some (.int .i64 n) := hk1 (by rw [HO1.out]; exact .inl rfl) hc1
      have hc2' : W'.cell? ⟨g + 1, 0, none⟩ = some (.int .i64 m) := hk1 (by rw [HO1.out]; exact .inr (.inl rfl)) hc2
      have hz' : b < W'.heap.size := by omega
      have HJ3 := hide hJ'
      have HIN : Hid (∃ k q, k ≤ n ∧ ((n : Int) - 1 = (k : Int) - 1) ∧ q < m ^ k ∧ i + 1 = (q + 1) * m ^ (n - k) ∧ dig m n (i + 1) = dig m k (q + 1) ++ List.replicate (n - k) 0 ∧ Nums W' b (dig m k q ++ List.replicate (n - k) 0) ∧ J (i + 1) O1 W') :=
        ⟨n, i, Nat.le_refl _, rfl, hi, by simp, by simp, by simpa using hN', hJ'⟩
      clear hc1 hc2 hz hko hsz hJ' HR hk1 hN'
      gi_wp2_with fail
      have hE0 : Ext W' W' := Ext.refl _
      have HCC : Hid (W'.cell? ⟨g, 0, none⟩ = some (.int .i64 n) ∧ W'.cell? ⟨g + 1, 0, none⟩ = some (.int .i64 m) ∧ b < W'.heap.size) := ⟨hc1', hc2', hz'⟩
      clear hc1' hc2' hz' hE0 HJ3
      gi_loopw [5] (fun x V => Hid (∃ k q, k ≤ n ∧ x = .int .i64 ((k : Int) - 1) ∧ q < m ^ k ∧ i + 1 = (q + 1) * m ^ (n - k) ∧ dig m n (i + 1) = dig m k (q + 1) ++ List.replicate (n - k) 0 ∧ Nums V b (dig m k q ++ List.replicate (n - k) 0) ∧ J (i + 1) O1 V ∧
        V.cell? ⟨g, 0, none⟩ = some (.int .i64 n) ∧ V.cell? ⟨g + 1, 0, none⟩ = some (.int .i64 m) ∧ b < V.heap.size)) (fun x _ => (intOf x + 1).toNat)
      case atStart =>
        obtain ⟨k, q, h1, h2, h3, h4, h5, h6, h7⟩ := HIN.out
        exact ⟨k, q, h1, by rw [h2], h3, h4, h5, h6, h7, HCC.out⟩
      case round =>
        clear HIN HCC
        obtain ⟨k, q, hk, rfl, hq, h4, h5, hN, hj, hc1, hc2, hz⟩ := hrel.out
        clear hrel
        have H4 := hide h4
        have H5 := hide h5
        have HN2 := hide hN
        have HJ4 := hide hj
        have HQ := hide hq
        clear h4 h5 hj hq
        cases k with
        | zero =>
          clear hN
          have hd : decide ((0 : Int) ≤ ((0 : Nat) : Int) - 1) = false := by decide
          gi_wp2_with fail
          refine (wpIn_wide (n := 0)).2 ?_
          refine wp_region_ext (by kernel_rfl) (by kernel_rfl) ?_
          repeat (go_big_quiet_step (fail))
          refine wpQuiet_nil ?_
          rintro w9 ⟨⟨_, hE9⟩, rfl⟩
          gi_wp2_with fail
          have hfin : i + 1 = m ^ n := by
            have h1 := H4.out
            have h2 := HQ.out
            have h3 : q = 0 := by simpa using h2
            rw [h3, Nat.sub_zero] at h1
            omega
          have hJ9 := HJ.out (i + 1) O1 O1 _ w9 HJ4.out (Off.of_ext hE9) (Grow.same (fun k hk => by rw [HO1.out] at hk; rcases hk with rfl | rfl | rfl <;> omega) hE9.size)
          rw [hfin] at hJ9
          exact bodyPost_ret (results_none rfl _ _ _) rfl ⟨⟨_, rfl⟩, _, .inl hJ9⟩
        | succ j =>
          have hlen : (dig m (j + 1) q ++ List.replicate (n - (j + 1)) 0).length = n := by rw [List.length_append, dig_len, List.length_replicate]; omega
          have hcj := hN.at_ (j := j) (by rw [hlen]; omega)
          rw [getD_dig] at hcj
          have hjn : (j : Int) < (n : Int) := by omega
          have hj1 : IntKind.i64.wrap (((j + 1 : Nat) : Int) - 1) = (j : Int) := by rw [IntWalk.i64_in _ (by omega)]; omega
          have hjj : (((j + 1 : Nat) : Int) - 1) = (j : Int) := by omega
          rw [hjj]
          have hqm := Nat.mod_lt q (show 0 < m by omega)
          have hfz := frozen_of (j := j) hN
          have hgw0 : g < wr.heap.size := by omega
          have hgw1 : g + 1 < wr.heap.size := by omega
          clear hN hjj hj1
          by_cases hlast : q % m = m - 1
          · have hd : (((q % m : Nat) : Int) == (m : Int) - 1) = true := by rw [beq_iff_eq, hlast]; omega
            have HL := hide hlast
            clear hlast
            gi_wp2_with fail
            refine (wpIn_wide (n := 0)).2 ?_
            refine wp_region_ext (by kernel_rfl) (by kernel_rfl) ?_
            repeat (go_big_quiet_step (fail))
            refine wpQuiet_nil ?_
            rintro w9 ⟨⟨_, hE9⟩, rfl⟩
            have hN9 : Nums w9 b (dig m (j + 1) q ++ List.replicate (n - (j + 1)) 0) := (hE9.b.block _ hz).trans HN2.out
            have hcj9 := hN9.at_ (j := j) (by rw [hlen]; omega)
            rw [getD_dig] at hcj9
            have hfz9 := frozen_of (j := j) hN9
            have hz9 : b < w9.heap.size := Nat.lt_of_lt_of_le hz hE9.size
            have hc19 := (hE9.cell (p := ⟨g, 0, none⟩) (show g < _ by omega)).trans hc1
            have hc29 := (hE9.cell (p := ⟨g + 1, 0, none⟩) (show g + 1 < _ by omega)).trans hc2
            have HS := hide (fun x => hN9.set j x)
            have HJS := hide (fun x : Value => HJ.out (i + 1) O1 O1 _ (w9.setCell ⟨b, j, none⟩ x) HJ4.out ((Off.of_ext hE9).setCell (by rw [HO1.out]; exact .inr (.inr rfl)) x) (Grow.same (fun k hk => by rw [HO1.out] at hk; rcases hk with rfl | rfl | rfl <;> omega) (by have := hE9.size; simpa [World.setCell] using this)))
            have HC1 := hide (fun x : Value => (World.cell?_of_block (a := ⟨g, 0, none⟩) (w := w9) (w' := w9.setCell ⟨b, j, none⟩ x) (Below.heap_setCell _ _ _ _ (show g ≠ b by omega))).trans hc19)
            have HC2 := hide (fun x : Value => (World.cell?_of_block (a := ⟨g + 1, 0, none⟩) (w := w9) (w' := w9.setCell ⟨b, j, none⟩ x) (Below.heap_setCell _ _ _ _ (show g + 1 ≠ b by omega))).trans hc29)
            have HZ9 := hide (fun x : Value => show b < (w9.setCell ⟨b, j, none⟩ x).heap.size by simpa [World.setCell] using hz9)
            clear hcj hfz hc1 hc2
            clear hN9
            gi_wp2_with fail
            have hrr : n - j = n - (j + 1) + 1 := by omega
            have hq1 : q + 1 = m * (q / m + 1) := by
              have h1 := Nat.div_add_mod q m
              have h2 := HL.out
              rw [Nat.mul_add, Nat.mul_one]; omega
            refine ⟨⟨j, q / m, by omega, rfl, ?_, ?_, ?_, ?_, HJS.out _, HC1.out _, HC2.out _, HZ9.out _⟩, by simp [intOf]; try omega⟩
            · have := HQ.out
              rw [Nat.div_lt_iff_lt_mul (by omega)]
              rwa [Nat.pow_succ] at this
            · have h4 := H4.out
              rw [h4, hq1, hrr, Nat.pow_succ, Nat.mul_comm m (q / m + 1), Nat.mul_assoc, Nat.mul_comm m]
            · rw [H5.out, dig_full HL.out (by omega), List.append_assoc, hrr, List.replicate_succ]
              rfl
            · have := HS.out 0
              rw [set_dig] at this
              rw [hrr, List.replicate_succ]
              exact this
          · have hd : (((q % m : Nat) : Int) == (m : Int) - 1) = false := by rw [beq_eq_false_iff_ne]; omega
            have HL := hide hlast
            clear hlast
            gi_wp2_with fail
            refine (wpIn_wide (n := 0)).2 ?_
            refine wp_region_ext (by kernel_rfl) (by kernel_rfl) ?_
            repeat (go_big_quiet_step (fail))
            refine wpQuiet_nil ?_
            rintro w9 ⟨⟨_, hE9⟩, rfl⟩
            have hN9 : Nums w9 b (dig m (j + 1) q ++ List.replicate (n - (j + 1)) 0) := (hE9.b.block _ hz).trans HN2.out
            have hcj9 := hN9.at_ (j := j) (by rw [hlen]; omega)
            rw [getD_dig] at hcj9
            have hfz9 := frozen_of (j := j) hN9
            have hz9 : b < w9.heap.size := Nat.lt_of_lt_of_le hz hE9.size
            have hc19 := (hE9.cell (p := ⟨g, 0, none⟩) (show g < _ by omega)).trans hc1
            have hc29 := (hE9.cell (p := ⟨g + 1, 0, none⟩) (show g + 1 < _ by omega)).trans hc2
            have HS := hide (fun x => hN9.set j x)
            have HJS := hide (fun x : Value => HJ.out (i + 1) O1 O1 _ (w9.setCell ⟨b, j, none⟩ x) HJ4.out ((Off.of_ext hE9).setCell (by rw [HO1.out]; exact .inr (.inr rfl)) x) (Grow.same (fun k hk => by rw [HO1.out] at hk; rcases hk with rfl | rfl | rfl <;> omega) (by have := hE9.size; simpa [World.setCell] using this)))
            have HC1 := hide (fun x : Value => (World.cell?_of_block (a := ⟨g, 0, none⟩) (w := w9) (w' := w9.setCell ⟨b, j, none⟩ x) (Below.heap_setCell _ _ _ _ (show g ≠ b by omega))).trans hc19)
            have HC2 := hide (fun x : Value => (World.cell?_of_block (a := ⟨g + 1, 0, none⟩) (w := w9) (w' := w9.setCell ⟨b, j, none⟩ x) (Below.heap_setCell _ _ _ _ (show g + 1 ≠ b by omega))).trans hc29)
            have HZ9 := hide (fun x : Value => show b < (w9.setCell ⟨b, j, none⟩ x).heap.size by simpa [World.setCell] using hz9)
            clear hcj hfz hc1 hc2
            clear hN9
            gi_wp2_with fail
            have hrr : n = j + 1 + (n - (j + 1)) := by omega
            have hlt : i + 1 < m ^ n := by
              have h2 := HQ.out
              have h3 : q + 1 ≠ m ^ (j + 1) := fun h => by
                have h5 : q = m ^ j * m - 1 := by rw [Nat.pow_succ] at h; omega
                have h6 : 1 ≤ m ^ j := Nat.pow_pos (by omega)
                obtain ⟨z, hz⟩ := Nat.exists_eq_add_of_lt (show 0 < m ^ j by omega)
                have h7 : q = m * z + (m - 1) := by
                  rw [h5, hz, Nat.zero_add, Nat.add_mul, Nat.one_mul, Nat.mul_comm z m]; omega
                exact HL.out (by rw [h7, Nat.mul_add_mod, Nat.mod_eq_of_lt (by omega)])
              have h8 : q + 1 < m ^ (j + 1) := by omega
              have h9 : 0 < m ^ (n - (j + 1)) := Nat.pow_pos (by omega)
              have h10 : m ^ n = m ^ (j + 1) * m ^ (n - (j + 1)) := by rw [← Nat.pow_add, ← hrr]
              rw [H4.out, h10]
              exact Nat.mul_lt_mul_of_pos_right h8 h9
            have hNN : Nums (w9.setCell ⟨b, j, none⟩ (.int .i64 ((q : Int) % m + 1))) b (dig m n (i + 1)) := by
              have := HS.out ((q : Int) % m + 1)
              rw [set_dig] at this
              rw [H5.out, dig_next HL.out (by omega), List.append_assoc]
              simpa using this
            refine ⟨⟨i + 1, hlt, hNN, HC1.out _, HC2.out _, HJS.out _, HZ9.out _⟩, ?_⟩
            rw [hNN.ints, HN.out.ints, decode_dig m (by omega) n _ hlt, decode_dig m (by omega) n _ hi]
            omega
    · have HJ3 := hide hJx'
      clear hJx' HR
      gi_wp2_with fail
      exact bodyPost_ret (results_none rfl _ _ _) rfl ⟨⟨_, rfl⟩, _, .inr HJ3.out⟩
end Go.Proofs.YthkididgbaamcaaGreatDoor
