/-
  The program's layer 17 (failure): oblivious and Snapshot.
  Conditions: none.
-/
import Derived.Test.YtnhgdjiljjpgmaaFailW
import Derived.Test.YtnhgdjiljjpgmaaFailD
import Derived.Test.YtnhgdjiljjpgmaaFailT
import Derived.Test.YtnhgdjiljjpgmaaMade
namespace Go.Proofs.Ytnhgdjiljjpgmaa
open Go.RowKit
attribute [local go_sem] Oper.semAt_some

/-! ### graph.Complete -/
def compC (n : Int) : Gr × Int := if n < 1 ∨ 5 < n then (⟨0, 0, 0, 0, 0, 0⟩, 2) else (wholeG n.toNat, 0)
theorem whole_mk {n : Nat} (hn : n ≤ 5) : wholeG n = mkG n (fun _ => (2 ^ n - 1 : Nat)) n := by
  obtain rfl | rfl | rfl | rfl | rfl | rfl : n = 0 ∨ n = 1 ∨ n = 2 ∨ n = 3 ∨ n = 4 ∨ n = 5 := by omega
  all_goals rfl
theorem gr_fresh (w : World) (g : Gr) : GrBox (w.alloc (.cells #[.int .i64 g.n, .int .i64 g.h0, .int .i64 g.h1, .int .i64 g.h2, .int .i64 g.h3, .int .i64 g.h4] 36)) w.heap.size g := heap_alloc_new w _
theorem enters_comp1 : ∀ args w, (callFunc 56 args).run Try.prog w = .ok (.enter 56 args) w := fun _ _ => by kernel_rfl
theorem pcomp1_any (n : Nat) (hn : n ≤ 5) (p : Int) (b : Nat) (w : World) (hb : NBox w b n) : Calls Try.prog 56 #[.int .i64 p, .pointer (some ⟨b, 0, none⟩)] w fun e w' => e = .returned (.int .i64 (2 ^ n - 1 : Nat)) ∧ Ext w w' := by
  have hc := hb.cell
  have hz := lt_of_heap hb
  have HF := hide (full_any (n : Int) w (by omega) (by omega))
  have he : ((2 : Int) ^ ((n : Int)).toNat - 1) = ((2 ^ n - 1 : Nat) : Int) := by
    have := Nat.two_pow_pos n
    rw [Int.toNat_natCast, Int.natCast_sub (by omega)]; simp
  rw [he] at HF
  clear hb he
  go_enter Try.func56, Try.ntmps56
  go_wp2_with (go_at_call 57; refine HF.out.mono ?_; rintro e w' ⟨rfl, rfl⟩)
  go_ret
  exact ⟨rfl, Ext.refl _⟩
set_option maxHeartbeats 1000000 in
theorem psized_any (n : Int) (bn : Nat) (w : World) (hb : NBox w bn n) :
    Calls Try.prog 55 #[.int .i64 n, .func (.func 56) #[] #[.pointer (some ⟨bn, 0, none⟩)]] w fun e w' => e = .returned (.tuple #[(compC n).1.v, .int .i64 (compC n).2]) ∧ Ext w w' := by
  have HG0 : Hid (GrBox (w.alloc (.cells #[.int .i64 0, .int .i64 0, .int .i64 0, .int .i64 0, .int .i64 0, .int .i64 0] 36)) w.heap.size ⟨0, 0, 0, 0, 0, 0⟩) := gr_fresh w ⟨0, 0, 0, 0, 0, 0⟩
  by_cases h : n < 1 ∨ 5 < n
  · have HR : Hid (compC n = (⟨0, 0, 0, 0, 0, 0⟩, 2)) := if_pos h
    rw [HR.out]
    clear HR hb
    by_cases h1 : n < 1
    · go_enter Try.func55, Try.ntmps55
      go_wp2_with fail
      exact bodyPost_ret (v := .tuple #[Gr.v ⟨0, 0, 0, 0, 0, 0⟩, .int .i64 2]) (results_gr2 rfl _ rfl rfl HG0.out) rfl ⟨rfl, (Ext.refl w).alloc _⟩
    · have h2 : 5 < n := by omega
      go_enter Try.func55, Try.ntmps55
      go_wp2_with fail
      exact bodyPost_ret (v := .tuple #[Gr.v ⟨0, 0, 0, 0, 0, 0⟩, .int .i64 2]) (results_gr2 rfl _ rfl rfl HG0.out) rfl ⟨rfl, (Ext.refl w).alloc _⟩
  · have h1 : ¬ n < 1 := by omega
    have h2 : ¬ 5 < n := by omega
    obtain ⟨N, rfl⟩ := Int.eq_ofNat_of_zero_le (show 0 ≤ n by omega)
    have HR : Hid (compC (N : Int) = (mkG N (fun _ => (2 ^ N - 1 : Nat)) N, 0)) := by
      show _ = _
      unfold compC
      rw [if_neg h, Int.toNat_natCast, whole_mk (by omega)]
    rw [HR.out]
    have HM := hide (made_any N (by omega) 56 #[.pointer (some ⟨bn, 0, none⟩)] (fun _ => (2 ^ N - 1 : Nat)) (w.alloc (.cells #[.int .i64 0, .int .i64 0, .int .i64 0, .int .i64 0, .int .i64 0, .int .i64 0] 36)) enters_comp1 (fun p W hp hE => pcomp1_any N (by omega) p bn W (hb.ext (((Ext.refl w).alloc _).trans hE))))
    obtain ⟨r, hr⟩ : ∃ r, mkG N (fun _ => ((2 ^ N - 1 : Nat) : Int)) N = r := ⟨_, rfl⟩
    rw [hr] at HM ⊢
    have HRR := hide hr
    clear hb HR h hr
    go_enter Try.func55, Try.ntmps55
    go_wp2_with fail
    refine HM.out.mono ?_
    rintro e w2 ⟨rfl, hE⟩
    have hg := HG0.out.ext hE
    have HE := hide (((Ext.refl w).alloc _).trans hE)
    obtain ⟨d0, d1, d2, d3, d4, d5, dz⟩ := hg.cells
    obtain ⟨f0, f1, f2, f3, f4, f5⟩ := hg.frozen
    have HG := hide hg
    clear hg hE
    go_wp2_with fail
    exact bodyPost_ret (v := .tuple #[r.v, .int .i64 0]) (results_gr2 rfl _ rfl rfl (HG.out.store r)) rfl ⟨rfl, HE.out.gstore (by omega) r⟩
set_option maxHeartbeats 1000000 in
theorem pcomp_any (n : Int) (w : World) : Calls Try.prog 37 #[.int .i64 n] w fun e w' => e = .returned (.tuple #[(compC n).1.v, .int .i64 (compC n).2]) ∧ Ext w w' := by
  obtain ⟨w2, hw2⟩ : ∃ w2, (w.alloc (.cells #[.int .i64 n] 3)).alloc (.cells #[.int .i64 0, .int .i64 0, .int .i64 0, .int .i64 0, .int .i64 0, .int .i64 0] 36) = w2 := ⟨_, rfl⟩
  have HN : Hid (NBox w2 w.heap.size n) := by show _ = _; rw [← hw2, Below.heap_alloc _ _ _ (by simp)]; exact heap_alloc_new w _
  have HGX : Hid (GrBox w2 (w.heap.size + 1) ⟨0, 0, 0, 0, 0, 0⟩) := by
    show GrBox _ _ _; rw [← hw2]; have := gr_fresh (w.alloc (.cells #[.int .i64 n] 3)) ⟨0, 0, 0, 0, 0, 0⟩; rwa [World.size_alloc] at this
  have HE1 : Hid (Ext w w2) := by show Ext _ _; rw [← hw2]; exact ((Ext.refl w).alloc _).alloc _
  have HS := hide (psized_any n w.heap.size w2 HN.out)
  generalize compC n = r at HS ⊢
  have HW := hide hw2
  clear hw2
  go_enter Try.func37, Try.ntmps37
  go_wp2_with fail
  rw [HW.out]
  refine HS.out.mono ?_
  rintro e w3 ⟨rfl, hE⟩
  have hg := HGX.out.ext hE
  have HE := hide (HE1.out.trans hE)
  obtain ⟨d0, d1, d2, d3, d4, d5, dz⟩ := hg.cells
  obtain ⟨f0, f1, f2, f3, f4, f5⟩ := hg.frozen
  have HG := hide hg
  clear hg hE
  go_wp2_with fail
  exact bodyPost_ret (v := .tuple #[r.1.v, .int .i64 r.2]) (results_gr2 rfl _ rfl rfl (HG.out.store r.1)) rfl ⟨rfl, HE.out.gstore (by omega) r.1⟩

/-! ### Partition -/
theorem whole_in : ((List.range 5).all fun n => (groupsL (n + 1)).contains (wholeG (n + 1))) = true := by decide +kernel
theorem part_ne {n k key : Nat} (h1 : 1 ≤ n) (h5 : n ≤ 5) (hk : key ≤ k) : partE n k key ≠ [] := fun h => by
  have t := whole_in
  rw [List.all_eq_true] at t
  have t := t (n - 1) (List.mem_range.2 (by omega))
  rw [show n - 1 + 1 = n by omega] at t
  have hm : wholeG n ∈ groupsL n := List.contains_iff_mem.1 t
  have : ((⟨wholeG n, 0⟩, key) : Stp17) ∈ partE n k key := List.mem_flatMap.2 ⟨wholeG n, hm, by rw [if_pos rfl, if_pos hk]; simp⟩
  rw [h] at this
  cases this
theorem parF_mem {n k key : Nat} {s : Stp17} (h : s ∈ partE n k key) : ∃ g, s = (⟨g, 0⟩, if g = wholeG n then key else key + 1) ∧ s.2 ≤ k := by
  obtain ⟨g, -, hs⟩ := List.mem_flatMap.1 h
  by_cases hc : (if g = wholeG n then key else key + 1) ≤ k
  · rw [if_pos hc, List.mem_singleton] at hs
    subst hs
    exact ⟨g, rfl, hc⟩
  · rw [if_neg hc] at hs
    cases hs
theorem enters_part1 : ∀ args w, (callFunc 39 args).run Try.prog w = .ok (.enter 39 args) w := fun _ _ => by kernel_rfl
theorem enters_part11 : ∀ args w, (callFunc 40 args).run Try.prog w = .ok (.enter 40 args) w := fun _ _ => by kernel_rfl
theorem ppart1_any (key bn bw bk : Nat) (w : World) : Calls Try.prog 39 #[.int .i64 key, .pointer (some ⟨bn, 0, none⟩), .pointer (some ⟨bw, 0, none⟩), .pointer (some ⟨bk, 0, none⟩)] w fun e w' =>
    e = .returned (.func (.func 40) #[] #[.pointer (some ⟨bn, 0, none⟩), .pointer (some ⟨w.heap.size, 0, none⟩), .pointer (some ⟨bw, 0, none⟩), .pointer (some ⟨bk, 0, none⟩)]) ∧ NBox w' w.heap.size key ∧ Ext w w' := by
  go_enter Try.func39, Try.ntmps39
  go_wp2_with fail
  go_ret
  exact ⟨rfl, heap_alloc_new w _, (Ext.refl w).alloc _⟩
theorem part_bask {n k bn bw bk : Nat} {w : World} (h1 : 1 ≤ n) (hn5 : n ≤ 5) (hk6 : k ≤ 6) (hbn : NBox w bn n) (hbw : GrBox w bw (wholeG n)) (hbk : NBox w bk k) :
    BAsk w 39 #[] #[.pointer (some ⟨bn, 0, none⟩), .pointer (some ⟨bw, 0, none⟩), .pointer (some ⟨bk, 0, none⟩)] (partE n k) (fun key => key ≤ k) where
  ef := enters_part1
  call := fun key V hk hE => (ppart1_any key bn bw bk V).mono (by
    rintro e V' ⟨rfl, hq, hE'⟩
    refine ⟨_, _, _, _, rfl, enters_part11, ppart_seq hn5 hk hk6 hbn hbw hbk, fun W hW => hq.ext hW, ?_, hE'⟩
    rintro k rfl
    exact ⟨Nat.le_refl _, lt_of_heap hq⟩)
  zero := Nat.zero_le _
  next := fun key hk s hs => by
    obtain ⟨g, -, h⟩ := parF_mem hs
    exact h
  few := fun key hk => by omega
  ne := fun key hk => part_ne h1 hn5 hk
  one := fun key hk x hx y hy h => by
    obtain ⟨g, rfl, -⟩ := parF_mem hx
    obtain ⟨g', rfl, -⟩ := parF_mem hy
    injection h with hg
    rw [hg]
/-- What the program returns for a partition. -/
def partA (n k : Int) : Adv × Int := if n < 1 ∨ 5 < n ∨ k < 0 ∨ 6 < k then (⟨0, []⟩, 2) else buildA (fun key => sortR (partE n.toNat k.toNat key)) n.toNat
set_option maxHeartbeats 2000000 in
theorem ppartition_any (n k : Int) (w : World) : Calls Try.prog 14 #[.int .i64 n, .int .i64 k] w (RetF (partA n k) w) := by
  obtain ⟨w2, hw2⟩ : ∃ w2, (((w.alloc (.cells #[.int .i64 n] 3)).alloc (.cells #[.int .i64 k] 3)).alloc (.cells #[.int .i64 0, .slice none 0 0] 29)) = w2 := ⟨_, rfl⟩
  have HE : Hid (Ext w w2) := by show Ext _ _; rw [← hw2]; exact (((Ext.refl w).alloc _).alloc _).alloc _
  have HN : Hid (NBox w2 w.heap.size n) := by show _ = _; rw [← hw2, Below.heap_alloc _ _ _ (by simp; omega), Below.heap_alloc _ _ _ (by simp)]; exact heap_alloc_new w _
  have HK : Hid (NBox w2 (w.heap.size + 1) k) := by
    show _ = _
    rw [← hw2, Below.heap_alloc _ _ _ (by simp)]
    have := heap_alloc_new (w.alloc (.cells #[.int .i64 n] 3)) (.cells #[.int .i64 k] 3)
    rwa [World.size_alloc] at this
  have HP : Hid (w2.heap[w.heap.size + 1 + 1]? = some (.cells #[.int .i64 0, .slice none 0 0] 29 (0, 0))) := by
    show _ = _
    rw [← hw2]
    have := heap_alloc_new ((w.alloc (.cells #[.int .i64 n] 3)).alloc (.cells #[.int .i64 k] 3)) (.cells #[.int .i64 0, .slice none 0 0] 29)
    simpa only [World.size_alloc] using this
  have HW := hide hw2
  have n0 := HN.out.cell
  have nz := lt_of_heap HN.out
  rw [← hw2] at n0 nz
  have HC := hide (pcomp_any n w2)
  clear hw2
  by_cases hn : n < 1 ∨ 5 < n
  · rw [show compC n = (⟨0, 0, 0, 0, 0, 0⟩, 2) from if_pos hn] at HC
    have HR : Hid (partA n k = (⟨0, []⟩, 2)) := if_pos (by omega)
    rw [HR.out]
    clear HR hn
    go_enter Try.func14, Try.ntmps14
    go_wp2_with fail
    rw [HW.out]
    refine HC.out.mono ?_
    rintro e w3 ⟨rfl, hE3⟩
    have HE3 := hide (HE.out.trans hE3)
    have HP3 := hide ((hE3.b.block _ (lt_of_heap HP.out)).trans HP.out)
    have hz3 : w.heap.size + 1 + 1 < w3.heap.size := lt_of_heap HP3.out
    have a0 : w3.cell? ⟨w.heap.size + 1 + 1, 0, none⟩ = some (.int .i64 0) := cells_at HP3.out 0
    have a1 : w3.cell? ⟨w.heap.size + 1 + 1, 1, none⟩ = some (.slice none 0 0) := cells_at HP3.out 1
    have af : w3.frozen? ⟨w.heap.size + 1 + 1, 0, none⟩ = false := frozen_of HP3.out
    have af1 : w3.frozen? ⟨w.heap.size + 1 + 1, 1, none⟩ = false := frozen_of HP3.out
    clear hE3 n0 nz
    go_wp2_with fail
    exact bodyPost_ret (results_adv1 rfl rfl rfl ((Below.heap_alloc _ _ _ (by simpa using hz3)).trans (heap_set (heap_set HP3.out _) _))) rfl ⟨_, rfl, AdvC.zero _ _, ((HE3.out.setCell (p := ⟨w.heap.size + 1 + 1, 0, none⟩) (by show w.heap.size ≤ w.heap.size + 1 + 1; omega) _).setCell (p := ⟨w.heap.size + 1 + 1, 1, none⟩) (by show w.heap.size ≤ w.heap.size + 1 + 1; omega) _).alloc _⟩
  · have hn1 : 1 ≤ n := by omega
    obtain ⟨N, rfl⟩ := Int.eq_ofNat_of_zero_le (show 0 ≤ n by omega)
    have hn5 : N ≤ 5 := by omega
    rw [show compC (N : Int) = (wholeG N, 0) from if_neg hn] at HC
    clear hn
    by_cases hk : k < 0 ∨ 6 < k
    · have HR : Hid (partA N k = (⟨0, []⟩, 2)) := if_pos (by omega)
      rw [HR.out]
      clear HR
      go_enter Try.func14, Try.ntmps14
      go_wp2_with fail
      rw [HW.out]
      refine HC.out.mono ?_
      rintro e w3 ⟨rfl, hE3⟩
      have HE3 := hide (HE.out.trans hE3)
      have HP3 := hide ((hE3.b.block _ (lt_of_heap HP.out)).trans HP.out)
      have hz3 : w.heap.size + 1 + 1 < w3.heap.size := lt_of_heap HP3.out
      have k0 := (HK.out.ext hE3).cell
      have kz := lt_of_heap (HK.out.ext hE3)
      have a0 : w3.cell? ⟨w.heap.size + 1 + 1, 0, none⟩ = some (.int .i64 0) := cells_at HP3.out 0
      have a1 : w3.cell? ⟨w.heap.size + 1 + 1, 1, none⟩ = some (.slice none 0 0) := cells_at HP3.out 1
      have af : w3.frozen? ⟨w.heap.size + 1 + 1, 0, none⟩ = false := frozen_of HP3.out
      have af1 : w3.frozen? ⟨w.heap.size + 1 + 1, 1, none⟩ = false := frozen_of HP3.out
      clear n0 nz
      obtain ⟨gw, hgw⟩ : ∃ gw, wholeG N = gw := ⟨_, rfl⟩
      rw [hgw] at HC ⊢
      clear hE3
      by_cases hk0 : k < 0
      · have hd : decide (k < 0) = true := decide_eq_true hk0
        go_wp2_with fail
        exact bodyPost_ret (results_adv1 rfl rfl rfl ((Below.heap_alloc _ _ _ (by simpa using hz3)).trans (heap_set (heap_set HP3.out _) _))) rfl ⟨_, rfl, AdvC.zero _ _, ((HE3.out.setCell (p := ⟨w.heap.size + 1 + 1, 0, none⟩) (by show w.heap.size ≤ w.heap.size + 1 + 1; omega) _).setCell (p := ⟨w.heap.size + 1 + 1, 1, none⟩) (by show w.heap.size ≤ w.heap.size + 1 + 1; omega) _).alloc _⟩
      · have hd : decide (k < 0) = false := decide_eq_false hk0
        have hd2 : decide (6 < k) = true := decide_eq_true (by omega)
        have hk6 : 6 < k := by omega
        go_wp2_with fail
        exact bodyPost_ret (results_adv1 rfl rfl rfl ((Below.heap_alloc _ _ _ (by simpa using hz3)).trans (heap_set (heap_set HP3.out _) _))) rfl ⟨_, rfl, AdvC.zero _ _, ((HE3.out.setCell (p := ⟨w.heap.size + 1 + 1, 0, none⟩) (by show w.heap.size ≤ w.heap.size + 1 + 1; omega) _).setCell (p := ⟨w.heap.size + 1 + 1, 1, none⟩) (by show w.heap.size ≤ w.heap.size + 1 + 1; omega) _).alloc _⟩
    · obtain ⟨K, rfl⟩ := Int.eq_ofNat_of_zero_le (show 0 ≤ k by omega)
      have hk6 : K ≤ 6 := by omega
      have HR : Hid (partA (N : Int) (K : Int) = buildA (fun key => sortR (partE N K key)) N) := by
        show _ = _
        unfold partA
        rw [if_neg (by omega), Int.toNat_natCast, Int.toNat_natCast]
      rw [HR.out]
      have HB := hide (fun (W : World) (b : Nat) (h1 : NBox W w.heap.size (N : Nat)) (h2 : GrBox W b (wholeG N)) (h3 : NBox W (w.heap.size + 1) (K : Nat)) => pbuild_any (n := N) W (part_bask (by omega) hn5 hk6 h1 h2 h3))
      generalize buildA (fun key => sortR (partE N K key)) N = res at HB ⊢
      have hd : decide ((K : Int) < 0) = false := decide_eq_false (by omega)
      have hd2 : decide (6 < (K : Int)) = false := decide_eq_false (by omega)
      have hd3 : ¬ (K : Int) < 0 := by omega
      have hd4 : ¬ 6 < (K : Int) := by omega
      clear HR hk
      obtain ⟨gw, hgw⟩ : ∃ gw, wholeG N = gw := ⟨_, rfl⟩
      rw [hgw] at HC HB
      clear hgw
      go_enter Try.func14, Try.ntmps14
      go_wp2_with fail
      rw [HW.out]
      refine HC.out.mono ?_
      rintro e w3 ⟨rfl, hE3⟩
      have k0 := (HK.out.ext hE3).cell
      have kz := lt_of_heap (HK.out.ext hE3)
      have HX3 := hide hE3
      clear n0 nz
      have n0 := (HN.out.ext hE3).cell
      have nz := lt_of_heap (HN.out.ext hE3)
      clear hE3
      go_wp2_with fail
      obtain ⟨w4, hw4⟩ : ∃ w4, w3.alloc (.cells #[.int .i64 gw.n, .int .i64 gw.h0, .int .i64 gw.h1, .int .i64 gw.h2, .int .i64 gw.h3, .int .i64 gw.h4] 36) = w4 := ⟨_, rfl⟩
      have HX4 : Hid (Ext w2 w4) := by show Ext _ _; rw [← hw4]; exact HX3.out.alloc _
      have HG4 : Hid (GrBox w4 w3.heap.size gw) := by show _ = _; rw [← hw4]; exact heap_alloc_new w3 _
      rw [hw4]
      clear hw4 k0 kz n0 nz hd hd2 hd3 hd4
      refine (HB.out w4 w3.heap.size (HN.out.ext HX4.out) HG4.out (HK.out.ext HX4.out)).mono ?_
      rintro e w5 ⟨v, rfl, hv, hE5⟩
      obtain ⟨sv, rfl, hco, -⟩ := id hv
      obtain ⟨sq, sc, rfl⟩ := hco.sl
      clear hco
      have hX5 := HX4.out.trans hE5
      have hp5 := (hX5.b.block _ (lt_of_heap HP.out)).trans HP.out
      have a0 : w5.cell? ⟨w.heap.size + 1 + 1, 0, none⟩ = some (.int .i64 0) := cells_at hp5 0
      have a1 : w5.cell? ⟨w.heap.size + 1 + 1, 1, none⟩ = some (.slice none 0 0) := cells_at hp5 1
      have af : w5.frozen? ⟨w.heap.size + 1 + 1, 0, none⟩ = false := frozen_of hp5
      have af1 : w5.frozen? ⟨w.heap.size + 1 + 1, 1, none⟩ = false := frozen_of hp5
      have az := lt_of_heap hp5
      have HP5 := hide hp5
      have HV := hide hv
      have HE5 := hide (HE.out.trans hX5)
      have HZ4 : Hid (w.heap.size ≤ w4.heap.size) := (HE.out.trans HX4.out).size
      clear hp5 hv hX5 hE5
      go_wp2_with fail
      exact bodyPost_ret (results_adv1 rfl rfl rfl (heap_set (heap_set HP5.out _) _)) rfl ⟨_, rfl, (HV.out.stored2 HP5.out).mono HZ4.out, (HE5.out.setCell (p := ⟨w.heap.size + 1 + 1, 0, none⟩) (by show w.heap.size ≤ w.heap.size + 1 + 1; omega) _).setCell (p := ⟨w.heap.size + 1 + 1, 1, none⟩) (by show w.heap.size ≤ w.heap.size + 1 + 1; omega) _⟩

end Go.Proofs.Ytnhgdjiljjpgmaa

namespace Go.Proofs.Ytnhgdjiljjpgmaa
open Go.RowKit
attribute [local go_sem] Oper.semAt_some

theorem enters_obl1 : ∀ args w, (callFunc 63 args).run Try.prog w = .ok (.enter 63 args) w := fun _ _ => by kernel_rfl
theorem enters_obl11 : ∀ args w, (callFunc 64 args).run Try.prog w = .ok (.enter 64 args) w := fun _ _ => by kernel_rfl
theorem pobl1_any (key : Int) (bg : Nat) (w : World) : Calls Try.prog 63 #[.int .i64 key, .pointer (some ⟨bg, 0, none⟩)] w fun e w' =>
    e = .returned (.func (.func 64) #[] #[.pointer (some ⟨bg, 0, none⟩)]) ∧ Ext w w' := by
  go_enter Try.func63, Try.ntmps63
  go_wp2_with fail
  go_ret
  exact ⟨rfl, Ext.refl _⟩
theorem obF_mem {L : List Gr} {s : Stp17} (h : s ∈ L.flatMap obF) : s.2 = 0 := by
  obtain ⟨g, -, hs⟩ := List.mem_flatMap.1 h
  unfold obF at hs
  rw [List.mem_singleton] at hs
  rw [hs]
theorem obl_bask {L : List Gr} {fg bg : Nat} {ib : Array Value} {w : World} (eg : ∀ args w, (callFunc fg args).run Try.prog w = .ok (.enter fg args) w) (hseq : SeqY Try.prog fg ib (fun _ => True) (fun _ => False) (fun W => Ext w W) L.length (fun i _ x _ => ∃ g, L[i]? = some g ∧ x = #[Gr.v g])) (hbg : w.heap[bg]? = some (.cells #[.func (.func fg) #[] ib] 68 (0, 0))) (hL : L ≠ []) :
    BAsk w 63 #[] #[.pointer (some ⟨bg, 0, none⟩)] (fun _ => L.flatMap obF) (fun key => key = 0) where
  ef := enters_obl1
  call := fun key V hk hE => (pobl1_any key bg V).mono (by
    rintro e V' ⟨rfl, hE'⟩
    exact ⟨_, _, _, _, rfl, enters_obl11, pobl_seq eg hseq hbg, fun W hW => trivial, fun k h => h.elim, hE'⟩)
  zero := rfl
  next := fun key hk s hs => obF_mem hs
  few := fun key hk => by omega
  ne := fun key hk h => by
    obtain ⟨g, l, rfl⟩ := List.exists_cons_of_ne_nil hL
    rw [List.flatMap_cons] at h
    cases h
  one := fun key hk x hx y hy h => Prod.ext h ((obF_mem hx).trans (obF_mem hy).symm)
set_option maxHeartbeats 1000000 in
theorem poblivious_any {n : Nat} {L : List Gr} {fg : Nat} {ib : Array Value} (w : World) (eg : ∀ args w, (callFunc fg args).run Try.prog w = .ok (.enter fg args) w) (hseq : ∀ W, Ext w W → SeqY Try.prog fg ib (fun _ => True) (fun _ => False) (fun V => Ext W V) L.length (fun i _ x _ => ∃ g, L[i]? = some g ∧ x = #[Gr.v g])) (hL : L ≠ []) :
    Calls Try.prog 42 #[.int .i64 n, .func (.func fg) #[] ib] w (RetF (buildA (fun _ => sortR (L.flatMap obF)) n) w) := by
  obtain ⟨w2, hw2⟩ : ∃ w2, (w.alloc (.cells #[.func (.func fg) #[] ib] 68)).alloc (.cells #[.int .i64 0, .slice none 0 0] 29) = w2 := ⟨_, rfl⟩
  have hE : Ext w w2 := by rw [← hw2]; exact ((Ext.refl w).alloc _).alloc _
  have hb : w2.heap[w.heap.size]? = some (.cells #[.func (.func fg) #[] ib] 68 (0, 0)) := by
    rw [← hw2]
    exact (Below.heap_alloc _ _ _ (by simp)).trans (heap_alloc_new w _)
  have HP : Hid (w2.heap[w.heap.size + 1]? = some (.cells #[.int .i64 0, .slice none 0 0] 29 (0, 0))) := by
    show _ = _
    rw [← hw2]
    have := heap_alloc_new (w.alloc (.cells #[.func (.func fg) #[] ib] 68)) (.cells #[.int .i64 0, .slice none 0 0] 29)
    rwa [World.size_alloc] at this
  have HC := hide (pbuild_any (n := n) w2 (obl_bask eg (hseq w2 hE) hb hL))
  have HE := hide hE
  have HW := hide hw2
  clear hE hb hw2 hseq hL eg
  generalize buildA (fun _ => sortR (L.flatMap obF)) n = res at HC ⊢
  go_enter Try.func42, Try.ntmps42
  go_wp2_with fail
  rw [HW.out]
  refine HC.out.mono ?_
  rintro e w3 ⟨v, rfl, hv, hE3⟩
  obtain ⟨sv, rfl, hco, -⟩ := id hv
  obtain ⟨sq, sc, rfl⟩ := hco.sl
  clear hco
  have hp3 := (hE3.b.block _ (lt_of_heap HP.out)).trans HP.out
  have a0 : w3.cell? ⟨w.heap.size + 1, 0, none⟩ = some (.int .i64 0) := cells_at hp3 0
  have a1 : w3.cell? ⟨w.heap.size + 1, 1, none⟩ = some (.slice none 0 0) := cells_at hp3 1
  have af : w3.frozen? ⟨w.heap.size + 1, 0, none⟩ = false := frozen_of hp3
  have af1 : w3.frozen? ⟨w.heap.size + 1, 1, none⟩ = false := frozen_of hp3
  have az := lt_of_heap hp3
  have HP3 := hide hp3
  have HV := hide hv
  have HE3 := hide (HE.out.trans hE3)
  have HZ2 : Hid (w.heap.size ≤ w2.heap.size) := HE.out.size
  clear hp3 hv hE3
  go_wp2_with fail
  exact bodyPost_ret (results_adv1 rfl rfl rfl (heap_set (heap_set HP3.out _) _)) rfl ⟨_, rfl, (HV.out.stored2 HP3.out).mono HZ2.out, (HE3.out.setCell (p := ⟨w.heap.size + 1, 0, none⟩) (by show w.heap.size ≤ w.heap.size + 1; omega) _).setCell (p := ⟨w.heap.size + 1, 1, none⟩) (by show w.heap.size ≤ w.heap.size + 1; omega) _⟩
theorem snap_ne : ((List.range 5).all fun n => !(snapL (n + 1)).isEmpty) = true := by decide +kernel
theorem snapL_ne {n : Nat} (h1 : 1 ≤ n) (h5 : n ≤ 5) : snapL n ≠ [] := fun h => by
  have t := snap_ne
  rw [List.all_eq_true] at t
  have t := t (n - 1) (List.mem_range.2 (by omega))
  rw [show n - 1 + 1 = n by omega, h] at t
  cases t
/-- What the program returns for snapshots. -/
def snapA (n : Int) : Adv × Int := if n < 1 ∨ 5 < n then (⟨0, []⟩, 2) else buildA (fun _ => sortR (snapE n.toNat)) n.toNat
set_option maxHeartbeats 1000000 in
theorem psnapshot_any (n : Int) (w : World) : Calls Try.prog 15 #[.int .i64 n] w (RetF (snapA n) w) := by
  obtain ⟨w2, hw2⟩ : ∃ w2, w.alloc (.cells #[.int .i64 0, .slice none 0 0] 29) = w2 := ⟨_, rfl⟩
  have HE : Hid (Ext w w2) := by show Ext _ _; rw [← hw2]; exact (Ext.refl w).alloc _
  have HP : Hid (w2.heap[w.heap.size]? = some (.cells #[.int .i64 0, .slice none 0 0] 29 (0, 0))) := by show _ = _; rw [← hw2]; exact heap_alloc_new w _
  have HW := hide hw2
  clear hw2
  by_cases hb : n < 1 ∨ 5 < n
  · rw [show snapA n = (⟨0, []⟩, 2) from if_pos hb]
    by_cases h1 : n < 1
    · clear hb
      go_enter Try.func15, Try.ntmps15
      go_wp2_with fail
      rw [HW.out]
      exact bodyPost_ret (results_adv1 rfl rfl rfl HP.out) rfl ⟨_, rfl, AdvC.zero _ _, HE.out⟩
    · have h2 : 5 < n := by omega
      clear hb
      go_enter Try.func15, Try.ntmps15
      go_wp2_with fail
      rw [HW.out]
      exact bodyPost_ret (results_adv1 rfl rfl rfl HP.out) rfl ⟨_, rfl, AdvC.zero _ _, HE.out⟩
  · obtain ⟨N, rfl⟩ := Int.eq_ofNat_of_zero_le (show 0 ≤ n by omega)
    have h1 : ¬ (N : Int) < 1 := by omega
    have h2 : ¬ 5 < (N : Int) := by omega
    have hR : snapA (N : Int) = buildA (fun _ => sortR ((snapL N).flatMap obF)) N := by
      unfold snapA
      rw [if_neg hb, Int.toNat_natCast, snapE_obF]
    rw [hR]
    have HO := hide (fun (W : World) (bn : Nat) (hN : NBox W bn (N : Nat)) => poblivious_any (n := N) W enters_psnapshots1 (fun V hV => (psnapshots_seq N (by omega) bn).weaken fun V2 hV2 => hN.ext (hV.trans hV2)) (snapL_ne (n := N) (by omega) (by omega)))
    generalize buildA (fun _ => sortR ((snapL N).flatMap obF)) N = res at HO ⊢
    clear hR hb
    go_enter Try.func15, Try.ntmps15
    go_wp2_with fail
    rw [HW.out]
    refine (psnapshots_any N w2).mono ?_
    rintro e w4 ⟨rfl, hN4, hE4⟩
    have HN4 := hide hN4
    have HE4 := hide hE4
    clear hN4 hE4
    go_wp2_with fail
    refine (HO.out w4 w2.heap.size HN4.out).mono ?_
    rintro e w3 ⟨v, rfl, hv, hE43⟩
    have hE3 : Ext w2 w3 := HE4.out.trans hE43
    have hv := hv.mono HE4.out.size
    obtain ⟨sv, rfl, hco, -⟩ := id hv
    obtain ⟨sq, sc, rfl⟩ := hco.sl
    clear hco
    have hp3 := (hE3.b.block _ (lt_of_heap HP.out)).trans HP.out
    have a0 : w3.cell? ⟨w.heap.size, 0, none⟩ = some (.int .i64 0) := cells_at hp3 0
    have a1 : w3.cell? ⟨w.heap.size, 1, none⟩ = some (.slice none 0 0) := cells_at hp3 1
    have af : w3.frozen? ⟨w.heap.size, 0, none⟩ = false := frozen_of hp3
    have af1 : w3.frozen? ⟨w.heap.size, 1, none⟩ = false := frozen_of hp3
    have az := lt_of_heap hp3
    have HP3 := hide hp3
    have HV := hide hv
    have HE3 := hide (HE.out.trans hE3)
    have HZ2 : Hid (w.heap.size ≤ w2.heap.size) := HE.out.size
    clear hp3 hv hE3
    go_wp2_with fail
    exact bodyPost_ret (results_adv1 rfl rfl rfl (heap_set (heap_set HP3.out _) _)) rfl ⟨_, rfl, (HV.out.stored2 HP3.out).mono HZ2.out, (HE3.out.setCell (p := ⟨w.heap.size, 0, none⟩) (by show w.heap.size ≤ w.heap.size; omega) _).setCell (p := ⟨w.heap.size, 1, none⟩) (by show w.heap.size ≤ w.heap.size; omega) _⟩
end Go.Proofs.Ytnhgdjiljjpgmaa
