/-
  slices.SortFunc on pairs of numbers, by the kit's contract laid at this program.
  Conditions: none.
-/
import Derived.Shelf.SlSortCmp.WholeK
import Derived.Test.YtmkmgimmlohamaaCmp
import Derived.Test.YtmkmgimmlohamaaIncV
namespace Go.Proofs.Ytmkmgimmlohamaa
open Go.RowKit
attribute [local go_sem] Oper.semAt_some


/-- The order of pairs. -/
def pcmp (x y : Int × Int) : Int := if icmp x.1 y.1 ≠ 0 then icmp x.1 y.1 else icmp x.2 y.2
set_option maxHeartbeats 1000000 in
/-- slices.Compare of two pairs. -/
theorem scmp2_any (g h : Nat) (x y : Int × Int) (w : World) (hg : w.heap[g]? = some (.cells #[.int .i64 x.1, .int .i64 x.2] 45 (0, 0))) (hh : w.heap[h]? = some (.cells #[.int .i64 y.1, .int .i64 y.2] 45 (0, 0))) :
    Calls Try.prog 38 #[.slice (some ⟨g, 0, none⟩) 2 2, .slice (some ⟨h, 0, none⟩) 2 2] w fun e w' => e = .returned (.int .i64 (pcmp x y)) ∧ w' = w := by
  obtain ⟨x1, x2⟩ := x
  obtain ⟨y1, y2⟩ := y
  have g0 := dcell hg 0
  have g1 := dcell hg 1
  have gz := lt_of_heap hg
  have h0 := dcell hh 0
  have h1 := dcell hh 1
  have hz := lt_of_heap hh
  have HC1 := hide (fun W => ccmp_any x1 y1 W)
  have HC2 := hide (fun W => ccmp_any x2 y2 W)
  have HA : Hid (icmp x1 y1 ≠ 0 → pcmp (x1, x2) (y1, y2) = icmp x1 y1) := fun k => if_pos k
  have HB : Hid (icmp x1 y1 = 0 → pcmp (x1, x2) (y1, y2) = icmp x2 y2) := fun k => if_neg (fun n => n k)
  clear hg hh
  generalize pcmp (x1, x2) (y1, y2) = res at HA HB ⊢
  generalize icmp x1 y1 = c1 at HA HB HC1
  generalize icmp x2 y2 = c2 at HB HC2
  go_enter Try.func38, Try.ntmps38
  go_wp2_with fail
  go_loopw [11] (fun v wr => wr = w ∧ ∃ i : Nat, i ≤ 2 ∧ v = .int .i64 i ∧ Hid ((0 < i → c1 = 0) ∧ (1 < i → c2 = 0))) (fun v _ => 2 - (intOf v).toNat)
  case atStart => exact ⟨rfl, 0, by omega, rfl, ⟨fun h => absurd h (by decide), fun h => absurd h (by decide)⟩⟩
  case round =>
    obtain ⟨rfl, i, hi, rfl, HI⟩ := hrel
    obtain rfl | rfl | rfl : i = 0 ∨ i = 1 ∨ i = 2 := by omega
    · go_wp2_with fail
      refine (HC1.out _).mono ?_
      rintro e w1 ⟨rfl, rfl⟩
      by_cases hc : c1 = 0
      · have hd : (c1 != 0) = false := by simp [hc]
        have HCC := hide hc
        clear hc
        go_wp2_with fail
        go_roundw
        case rel => exact ⟨by trivial, 1, by omega, rfl, ⟨fun _ => HCC.out, fun h => absurd h (by decide)⟩⟩
        case measure => simp [intOf]
      · have hd : (c1 != 0) = true := by simp [hc]
        have HR := hide (HA.out hc)
        clear hc
        go_wp2_with fail
        go_ret
        exact ⟨ret_int HR.out.symm, rfl⟩
    · have HR := hide (HB.out (HI.out.1 (by decide)))
      go_wp2_with fail
      refine (HC2.out _).mono ?_
      rintro e w1 ⟨rfl, rfl⟩
      by_cases hc : c2 = 0
      · have hd : (c2 != 0) = false := by simp [hc]
        have HCC := hide hc
        clear hc
        go_wp2_with fail
        go_roundw
        case rel => exact ⟨by trivial, 2, by omega, rfl, ⟨fun _ => HI.out.1 (by decide), fun _ => HCC.out⟩⟩
        case measure => simp [intOf]
      · have hd : (c2 != 0) = true := by simp [hc]
        clear hc
        go_wp2_with fail
        go_ret
        exact ⟨ret_int HR.out.symm, rfl⟩
    · have HR := hide ((HB.out (HI.out.1 (by decide))).trans (HI.out.2 (by decide)))
      go_wp2_with fail
      go_ret
      exact ⟨ret_int HR.out.symm, rfl⟩
open Go.Sort in
set_option maxHeartbeats 1000000 in
/-- The closure that Simulation sorts by. -/
theorem clos_any (x y : Int × Int) (W : World) : Calls Try.prog 37 #[.agg (pcells x).toArray, .agg (pcells y).toArray] W fun e w' => e = .returned (.int .i64 (pcmp x y)) ∧ ∃ q os', w' = grow (W.drewN q) os' := by
  have hg := heap_alloc_new W (.cells #[.int .i64 x.1, .int .i64 x.2] 45)
  have hh := heap_alloc_new (W.alloc (.cells #[.int .i64 x.1, .int .i64 x.2] 45)) (.cells #[.int .i64 y.1, .int .i64 y.2] 45)
  have hg2 := (Below.heap_alloc (W.alloc (.cells #[.int .i64 x.1, .int .i64 x.2] 45)) (.cells #[.int .i64 y.1, .int .i64 y.2] 45) _ (lt_of_heap hg)).trans hg
  rw [World.size_alloc] at hh
  have hgr : (W.alloc (.cells #[.int .i64 x.1, .int .i64 x.2] 45)).alloc (.cells #[.int .i64 y.1, .int .i64 y.2] 45) = grow W (#[.cells #[.int .i64 x.1, .int .i64 x.2] 45 (0, 0)] ++ #[.cells #[.int .i64 y.1, .int .i64 y.2] 45 (0, 0)]) := by
    rw [alloc_eq_grow, alloc_eq_grow, grow_grow]
  have HGR := hide hgr
  obtain ⟨W2, hW2⟩ : ∃ W2, (W.alloc (.cells #[.int .i64 x.1, .int .i64 x.2] 45)).alloc (.cells #[.int .i64 y.1, .int .i64 y.2] 45) = W2 := ⟨_, rfl⟩
  rw [hW2] at hh hg2 HGR
  have HW2 := hide hW2
  have HC : Hid (∀ n os, Calls Try.prog 38 #[.slice (some ⟨W.heap.size, 0, none⟩) 2 2, .slice (some ⟨W.heap.size + 1, 0, none⟩) 2 2] (grow (W2.drewN n) os) fun e w' => e = .returned (.int .i64 (pcmp x y)) ∧ w' = grow (W2.drewN n) os) := fun n os => by
    have k : ∀ {b : Nat} {o : Obj}, W2.heap[b]? = some o → (grow (W2.drewN n) os).heap[b]? = some o := fun {b o} hb => by
      show (W2.heap ++ os)[b]? = some o
      rw [Array.getElem?_append_left (lt_of_heap hb)]; exact hb
    exact scmp2_any _ _ x y _ (k hg2) (k hh)
  have gz := lt_of_heap hg2
  have hz := lt_of_heap hh
  clear hg hh hg2 hgr hW2
  generalize pcmp x y = res at HC ⊢
  unfold pcells
  obtain ⟨x1, x2⟩ := x
  obtain ⟨y1, y2⟩ := y
  go_enter Try.func37, Try.ntmps37
  go_wp2_with fail
  rw [HW2.out]
  have hmo : Try.prog.follows .mixedOrders = true := by kernel_rfl
  go_quiet_grown ((go_at_call 38; exact (HC.out _ _).mono fun _ _ ⟨he, hw⟩ => ⟨he, ⟨_, _⟩, hw⟩))
  go_wp2_with fail
  go_ret
  exact ⟨rfl, nq, _, by rw [HGR.out]; show grow (grow (W.drewN nq) _) osq = _; rw [grow_grow]⟩
def srtRen : Go.Shelf.Ren := ⟨fun | 6 => 36 | 14 => 56 | 15 => 57 | 20 => 74 | 21 => 75 | 22 => 76 | 23 => 77 | 24 => 78 | 25 => 79 | 26 => 80 | 27 => 81 | 28 => 82 | 29 => 83 | 46 => 92 | 47 => 93 | 48 => 94 | 49 => 95 | 50 => 96 | 57 => 103 | n => n, fun | 0 => 0 | 3 => 3 | 4 => 4 | 5 => 5 | 9 => 9 | 22 => 33 | 24 => 45 | 25 => 79 | 39 => 109 | 45 => 130 | 46 => 131 | 50 => 120 | 53 => 137 | 55 => 139 | 66 => 147 | 70 => 151 | 76 => 158 | 77 => 52 | n => n, fun | n => n⟩
set_option maxRecDepth 100000 in
theorem srtLays : Go.Proofs.SlLaysF0.n6 Try.prog srtRen := {
  mixed := by kernel_rfl
  f6 := ⟨"slices.SortFunc[[][2]int,[2]int]", by kernel_rfl, Try.func36.trans (congrArg some (by kernel_rfl))⟩
  f14 := ⟨"slices.pdqsortCmpFunc[[2]int]", by kernel_rfl, Try.func56.trans (congrArg some (by kernel_rfl))⟩
  f15 := Try.func57.trans (congrArg some (by kernel_rfl))
  f20 := ⟨"slices.insertionSortCmpFunc[[2]int]", by kernel_rfl, Try.func74.trans (congrArg some (by kernel_rfl))⟩
  f21 := ⟨"slices.heapSortCmpFunc[[2]int]", by kernel_rfl, Try.func75.trans (congrArg some (by kernel_rfl))⟩
  f22 := ⟨"slices.breakPatternsCmpFunc[[2]int]", by kernel_rfl, Try.func76.trans (congrArg some (by kernel_rfl))⟩
  f23 := ⟨"slices.choosePivotCmpFunc[[2]int]", by kernel_rfl, Try.func77.trans (congrArg some (by kernel_rfl))⟩
  f24 := ⟨"slices.reverseRangeCmpFunc[[2]int]", by kernel_rfl, Try.func78.trans (congrArg some (by kernel_rfl))⟩
  f25 := ⟨"slices.partialInsertionSortCmpFunc[[2]int]", by kernel_rfl, Try.func79.trans (congrArg some (by kernel_rfl))⟩
  f26 := ⟨"slices.partitionEqualCmpFunc[[2]int]", by kernel_rfl, Try.func80.trans (congrArg some (by kernel_rfl))⟩
  f27 := ⟨"slices.partitionCmpFunc[[2]int]", by kernel_rfl, Try.func81.trans (congrArg some (by kernel_rfl))⟩
  f28 := Try.func82.trans (congrArg some (by kernel_rfl))
  f29 := Try.func83.trans (congrArg some (by kernel_rfl))
  f46 := ⟨"slices.siftDownCmpFunc[[2]int]", by kernel_rfl, Try.func92.trans (congrArg some (by kernel_rfl))⟩
  f47 := Try.func93.trans (congrArg some (by kernel_rfl))
  f48 := Try.func94.trans (congrArg some (by kernel_rfl))
  f49 := ⟨"slices.medianAdjacentCmpFunc[[2]int]", by kernel_rfl, Try.func95.trans (congrArg some (by kernel_rfl))⟩
  f50 := ⟨"slices.medianCmpFunc[[2]int]", by kernel_rfl, Try.func96.trans (congrArg some (by kernel_rfl))⟩
  f57 := ⟨"slices.order2CmpFunc[[2]int]", by kernel_rfl, Try.func103.trans (congrArg some (by kernel_rfl))⟩
  t0 := Try.underlying0
  a0 := Try.isAgg0
  z0 := Try.sizeOf0
  v0 := Try.zeroValue0
  t3 := Try.underlying3
  a3 := Try.isAgg3
  z3 := Try.sizeOf3
  v3 := Try.zeroValue3
  t4 := Try.underlying4
  a4 := Try.isAgg4
  z4 := Try.sizeOf4
  v4 := Try.zeroValue4
  t5 := Try.underlying5
  a5 := Try.isAgg5
  z5 := Try.sizeOf5
  v5 := Try.zeroValue5
  t9 := Try.underlying9
  a9 := Try.isAgg9
  z9 := Try.sizeOf9
  v9 := Try.zeroValue9
  t22 := Try.underlying33
  a22 := Try.isAgg33
  z22 := Try.sizeOf33
  v22 := Try.zeroValue33
  t25 := Try.underlying79
  a25 := Try.isAgg79
  z25 := Try.sizeOf79
  v25 := Try.zeroValue79
  t39 := Try.underlying109
  a39 := Try.isAgg109
  z39 := Try.sizeOf109
  v39 := Try.zeroValue109
  t45 := Try.underlying130
  a45 := Try.isAgg130
  z45 := Try.sizeOf130
  v45 := Try.zeroValue130
  t46 := Try.underlying131
  a46 := Try.isAgg131
  z46 := Try.sizeOf131
  v46 := Try.zeroValue131
  t50 := Try.underlying120
  a50 := Try.isAgg120
  z50 := Try.sizeOf120
  v50 := Try.zeroValue120
  t53 := Try.underlying137
  a53 := Try.isAgg137
  z53 := Try.sizeOf137
  v53 := Try.zeroValue137
  t55 := Try.underlying139
  a55 := Try.isAgg139
  z55 := Try.sizeOf139
  v55 := Try.zeroValue139
  t66 := Try.underlying147
  a66 := Try.isAgg147
  z66 := Try.sizeOf147
  v66 := Try.zeroValue147
  t70 := Try.underlying151
  a70 := Try.isAgg151
  z70 := Try.sizeOf151
  v70 := Try.zeroValue151
  t76 := Try.underlying158
  a76 := Try.isAgg158
  z76 := Try.sizeOf158
  v76 := Try.zeroValue158
  t77 := Try.underlying52
  a77 := Try.isAgg52
  z77 := Try.sizeOf52
  v77 := Try.zeroValue52 }
/-- A pair before another one. -/
def plt (x y : Int × Int) : Prop := x.1 < y.1 ∨ x.1 = y.1 ∧ x.2 < y.2
theorem pcmp_lt (x y : Int × Int) : Go.Proofs.ltOf pcmp x y = true ↔ plt x y := by
  unfold Go.Proofs.ltOf plt
  rw [decide_eq_true_eq]
  unfold pcmp
  rcases (by omega : x.1 < y.1 ∨ y.1 < x.1 ∨ x.1 = y.1) with h | h | h
  · rw [icmp_lt h, if_pos (by decide)]; omega
  · rw [icmp_gt h, if_pos (by decide)]; omega
  · rw [h, icmp_self, if_neg (by decide)]
    rcases (by omega : x.2 < y.2 ∨ y.2 < x.2 ∨ x.2 = y.2) with h2 | h2 | h2
    · rw [icmp_lt h2]; omega
    · rw [icmp_gt h2]; omega
    · rw [h2, icmp_self]; omega
theorem pcmp_nlt (x y : Int × Int) : Go.Proofs.ltOf pcmp x y = false ↔ ¬ plt x y := by
  rw [← pcmp_lt]; simp
open Go.Sort in
theorem pcmp_swo : SWO (Go.Proofs.ltOf pcmp) where
  irrefl x := by rw [pcmp_nlt]; unfold plt; omega
  trans x y z h1 h2 := by
    rw [pcmp_lt] at *
    unfold plt at *
    omega
  ntrans x y z h1 h2 := by
    rw [pcmp_nlt] at *
    unfold plt at *
    omega
theorem pc_ones (x : Int × Int) : ∀ u ∈ pcells x, u.oneCell' = true := by
  intro u hu
  simp only [pcells, List.mem_cons, List.not_mem_nil, or_false] at hu
  rcases hu with rfl | rfl <;> rfl
open Go.Sort in
theorem srt_any (b cap : Nat) (l : List (Int × Int)) (w : World) (hl : l.length ≤ 1000000) (hb : b < w.heap.size) (hH : HoldsK pcells 2 w b 0 l.toArray) :
    Calls Try.prog 36 #[.slice (some ⟨b, 0, none⟩) l.length cap, .func (.func 37) #[] #[]] w fun e w' => e = .returned (.tuple #[]) ∧ ∃ d' n os, PermIn 0 l.length l.toArray d' ∧ SortedIn (Go.Proofs.ltOf pcmp) 0 l.length d' ∧ w' = sortWorldK pcells 2 w b 0 n d' os := by
  have h := Go.Proofs.AnyQ.slices_SortFunc srtLays 2 Try.isAgg45 Try.sizeOf45 pcells (fun _ => rfl) pc_ones pcmp pcmp_swo 37 #[] b 0 cap l.toArray w (fun _ _ => by kernel_rfl) (fun _ _ _ _ x y => clos_any x y _) hH hb (by simp; omega)
  rw [List.size_toArray] at h
  exact h
end Go.Proofs.Ytmkmgimmlohamaa
