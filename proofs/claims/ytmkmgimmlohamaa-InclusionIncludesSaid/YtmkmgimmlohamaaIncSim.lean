/-
  The program's Simulation, walked.
  Conditions: as each theorem states.
-/
import Derived.Test.YtmkmgimmlohamaaCmp
import Derived.Test.YtmkmgimmlohamaaIncV
import Derived.Test.YtmkmgimmlohamaaIncR
import Derived.Shelf.SlSortCmp.WholeK
namespace Go.Proofs.Ytmkmgimmlohamaa
open Go.RowKit
attribute [local go_sem] Oper.semAt_some


/-- The order of pairs. -/
def pcmp (x y : Int × Int) : Int := if icmp x.1 y.1 ≠ 0 then icmp x.1 y.1 else icmp x.2 y.2
set_option maxHeartbeats 1000000 in
/-- slices.Compare of two pairs. -/
theorem scmp2_any (g h : Nat) (x y : Int × Int) (w : World) (hg : w.heap[g]? = some (.cells #[.int .i64 x.1, .int .i64 x.2] 45 (0, 0))) (hh : w.heap[h]? = some (.cells #[.int .i64 y.1, .int .i64 y.2] 45 (0, 0))) :
    Calls Try.prog 38 #[.slice (some ⟨g, 0, none⟩) 2 2, .slice (some ⟨h, 0, none⟩) 2 2] w fun e w' => e = .returned (.int .i64 (pcmp x y)) ∧ w' = w := by
  obtain ⟨x1, x2⟩ := x
  obtain ⟨y1, y2⟩ := y
  have g0 := dcell hg 0
  have g1 := dcell hg 1
  have gz := lt_of_heap hg
  have h0 := dcell hh 0
  have h1 := dcell hh 1
  have hz := lt_of_heap hh
  have HC1 := hide (fun W => ccmp_any x1 y1 W)
  have HC2 := hide (fun W => ccmp_any x2 y2 W)
  have HA : Hid (icmp x1 y1 ≠ 0 → pcmp (x1, x2) (y1, y2) = icmp x1 y1) := fun k => if_pos k
  have HB : Hid (icmp x1 y1 = 0 → pcmp (x1, x2) (y1, y2) = icmp x2 y2) := fun k => if_neg (fun n => n k)
  clear hg hh
  generalize pcmp (x1, x2) (y1, y2) = res at HA HB ⊢
  generalize icmp x1 y1 = c1 at HA HB HC1
  generalize icmp x2 y2 = c2 at HB HC2
  go_enter Try.func38, Try.ntmps38
  go_wp2_with fail
  go_loopw [11] (fun v wr => wr = w ∧ ∃ i : Nat, i ≤ 2 ∧ v = .int .i64 i ∧ Hid ((0 < i → c1 = 0) ∧ (1 < i → c2 = 0))) (fun v _ => 2 - (intOf v).toNat)
  case atStart => exact ⟨rfl, 0, by omega, rfl, ⟨fun h => absurd h (by decide), fun h => absurd h (by decide)⟩⟩
  case round =>
    obtain ⟨rfl, i, hi, rfl, HI⟩ := hrel
    obtain rfl | rfl | rfl : i = 0 ∨ i = 1 ∨ i = 2 := by omega
    · go_wp2_with fail
      refine (HC1.out _).mono ?_
      rintro e w1 ⟨rfl, rfl⟩
      by_cases hc : c1 = 0
      · have hd : (c1 != 0) = false := by simp [hc]
        have HCC := hide hc
        clear hc
        go_wp2_with fail
        go_roundw
        case rel => exact ⟨by trivial, 1, by omega, rfl, ⟨fun _ => HCC.out, fun h => absurd h (by decide)⟩⟩
        case measure => simp [intOf]
      · have hd : (c1 != 0) = true := by simp [hc]
        have HR := hide (HA.out hc)
        clear hc
        go_wp2_with fail
        go_ret
        exact ⟨ret_int HR.out.symm, rfl⟩
    · have HR := hide (HB.out (HI.out.1 (by decide)))
      go_wp2_with fail
      refine (HC2.out _).mono ?_
      rintro e w1 ⟨rfl, rfl⟩
      by_cases hc : c2 = 0
      · have hd : (c2 != 0) = false := by simp [hc]
        have HCC := hide hc
        clear hc
        go_wp2_with fail
        go_roundw
        case rel => exact ⟨by trivial, 2, by omega, rfl, ⟨fun _ => HI.out.1 (by decide), fun _ => HCC.out⟩⟩
        case measure => simp [intOf]
      · have hd : (c2 != 0) = true := by simp [hc]
        clear hc
        go_wp2_with fail
        go_ret
        exact ⟨ret_int HR.out.symm, rfl⟩
    · have HR := hide ((HB.out (HI.out.1 (by decide))).trans (HI.out.2 (by decide)))
      go_wp2_with fail
      go_ret
      exact ⟨ret_int HR.out.symm, rfl⟩
open Go.Sort in
set_option maxHeartbeats 1000000 in
/-- The closure that Simulation sorts by. -/
theorem clos_any (x y : Int × Int) (W : World) : Calls Try.prog 37 #[.agg (pcells x).toArray, .agg (pcells y).toArray] W fun e w' => e = .returned (.int .i64 (pcmp x y)) ∧ ∃ q os', w' = grow (W.drewN q) os' := by
  have hg := heap_alloc_new W (.cells #[.int .i64 x.1, .int .i64 x.2] 45)
  have hh := heap_alloc_new (W.alloc (.cells #[.int .i64 x.1, .int .i64 x.2] 45)) (.cells #[.int .i64 y.1, .int .i64 y.2] 45)
  have hg2 := (Below.heap_alloc (W.alloc (.cells #[.int .i64 x.1, .int .i64 x.2] 45)) (.cells #[.int .i64 y.1, .int .i64 y.2] 45) _ (lt_of_heap hg)).trans hg
  rw [World.size_alloc] at hh
  have hgr : (W.alloc (.cells #[.int .i64 x.1, .int .i64 x.2] 45)).alloc (.cells #[.int .i64 y.1, .int .i64 y.2] 45) = grow W (#[.cells #[.int .i64 x.1, .int .i64 x.2] 45 (0, 0)] ++ #[.cells #[.int .i64 y.1, .int .i64 y.2] 45 (0, 0)]) := by
    rw [alloc_eq_grow, alloc_eq_grow, grow_grow]
  have HGR := hide hgr
  obtain ⟨W2, hW2⟩ : ∃ W2, (W.alloc (.cells #[.int .i64 x.1, .int .i64 x.2] 45)).alloc (.cells #[.int .i64 y.1, .int .i64 y.2] 45) = W2 := ⟨_, rfl⟩
  rw [hW2] at hh hg2 HGR
  have HW2 := hide hW2
  have HC : Hid (∀ n os, Calls Try.prog 38 #[.slice (some ⟨W.heap.size, 0, none⟩) 2 2, .slice (some ⟨W.heap.size + 1, 0, none⟩) 2 2] (grow (W2.drewN n) os) fun e w' => e = .returned (.int .i64 (pcmp x y)) ∧ w' = grow (W2.drewN n) os) := fun n os => by
    have k : ∀ {b : Nat} {o : Obj}, W2.heap[b]? = some o → (grow (W2.drewN n) os).heap[b]? = some o := fun {b o} hb => by
      show (W2.heap ++ os)[b]? = some o
      rw [Array.getElem?_append_left (lt_of_heap hb)]; exact hb
    exact scmp2_any _ _ x y _ (k hg2) (k hh)
  have gz := lt_of_heap hg2
  have hz := lt_of_heap hh
  clear hg hh hg2 hgr hW2
  generalize pcmp x y = res at HC ⊢
  unfold pcells
  obtain ⟨x1, x2⟩ := x
  obtain ⟨y1, y2⟩ := y
  go_enter Try.func37, Try.ntmps37
  go_wp2_with fail
  rw [HW2.out]
  have hmo : Try.prog.follows .mixedOrders = true := by kernel_rfl
  go_quiet_grown ((go_at_call 38; exact (HC.out _ _).mono fun _ _ ⟨he, hw⟩ => ⟨he, ⟨_, _⟩, hw⟩))
  go_wp2_with fail
  go_ret
  exact ⟨rfl, nq, _, by rw [HGR.out]; show grow (grow (W.drewN nq) _) osq = _; rw [grow_grow]⟩
def srtRen : Go.Shelf.Ren := ⟨fun | 6 => 36 | 14 => 56 | 15 => 57 | 20 => 74 | 21 => 75 | 22 => 76 | 23 => 77 | 24 => 78 | 25 => 79 | 26 => 80 | 27 => 81 | 28 => 82 | 29 => 83 | 46 => 92 | 47 => 93 | 48 => 94 | 49 => 95 | 50 => 96 | 57 => 103 | n => n, fun | 0 => 0 | 3 => 3 | 4 => 4 | 5 => 5 | 9 => 9 | 22 => 33 | 24 => 45 | 25 => 79 | 39 => 109 | 45 => 130 | 46 => 131 | 50 => 120 | 53 => 137 | 55 => 139 | 66 => 147 | 70 => 151 | 76 => 158 | 77 => 52 | n => n, fun | n => n⟩
set_option maxRecDepth 100000 in
theorem srtLays : Go.Proofs.SlLaysF0.n6 Try.prog srtRen := {
  mixed := by kernel_rfl
  f6 := ⟨"slices.SortFunc[[][2]int,[2]int]", by kernel_rfl, Try.func36.trans (congrArg some (by kernel_rfl))⟩
  f14 := ⟨"slices.pdqsortCmpFunc[[2]int]", by kernel_rfl, Try.func56.trans (congrArg some (by kernel_rfl))⟩
  f15 := Try.func57.trans (congrArg some (by kernel_rfl))
  f20 := ⟨"slices.insertionSortCmpFunc[[2]int]", by kernel_rfl, Try.func74.trans (congrArg some (by kernel_rfl))⟩
  f21 := ⟨"slices.heapSortCmpFunc[[2]int]", by kernel_rfl, Try.func75.trans (congrArg some (by kernel_rfl))⟩
  f22 := ⟨"slices.breakPatternsCmpFunc[[2]int]", by kernel_rfl, Try.func76.trans (congrArg some (by kernel_rfl))⟩
  f23 := ⟨"slices.choosePivotCmpFunc[[2]int]", by kernel_rfl, Try.func77.trans (congrArg some (by kernel_rfl))⟩
  f24 := ⟨"slices.reverseRangeCmpFunc[[2]int]", by kernel_rfl, Try.func78.trans (congrArg some (by kernel_rfl))⟩
  f25 := ⟨"slices.partialInsertionSortCmpFunc[[2]int]", by kernel_rfl, Try.func79.trans (congrArg some (by kernel_rfl))⟩
  f26 := ⟨"slices.partitionEqualCmpFunc[[2]int]", by kernel_rfl, Try.func80.trans (congrArg some (by kernel_rfl))⟩
  f27 := ⟨"slices.partitionCmpFunc[[2]int]", by kernel_rfl, Try.func81.trans (congrArg some (by kernel_rfl))⟩
  f28 := Try.func82.trans (congrArg some (by kernel_rfl))
  f29 := Try.func83.trans (congrArg some (by kernel_rfl))
  f46 := ⟨"slices.siftDownCmpFunc[[2]int]", by kernel_rfl, Try.func92.trans (congrArg some (by kernel_rfl))⟩
  f47 := Try.func93.trans (congrArg some (by kernel_rfl))
  f48 := Try.func94.trans (congrArg some (by kernel_rfl))
  f49 := ⟨"slices.medianAdjacentCmpFunc[[2]int]", by kernel_rfl, Try.func95.trans (congrArg some (by kernel_rfl))⟩
  f50 := ⟨"slices.medianCmpFunc[[2]int]", by kernel_rfl, Try.func96.trans (congrArg some (by kernel_rfl))⟩
  f57 := ⟨"slices.order2CmpFunc[[2]int]", by kernel_rfl, Try.func103.trans (congrArg some (by kernel_rfl))⟩
  t0 := Try.underlying0
  a0 := Try.isAgg0
  z0 := Try.sizeOf0
  v0 := Try.zeroValue0
  t3 := Try.underlying3
  a3 := Try.isAgg3
  z3 := Try.sizeOf3
  v3 := Try.zeroValue3
  t4 := Try.underlying4
  a4 := Try.isAgg4
  z4 := Try.sizeOf4
  v4 := Try.zeroValue4
  t5 := Try.underlying5
  a5 := Try.isAgg5
  z5 := Try.sizeOf5
  v5 := Try.zeroValue5
  t9 := Try.underlying9
  a9 := Try.isAgg9
  z9 := Try.sizeOf9
  v9 := Try.zeroValue9
  t22 := Try.underlying33
  a22 := Try.isAgg33
  z22 := Try.sizeOf33
  v22 := Try.zeroValue33
  t25 := Try.underlying79
  a25 := Try.isAgg79
  z25 := Try.sizeOf79
  v25 := Try.zeroValue79
  t39 := Try.underlying109
  a39 := Try.isAgg109
  z39 := Try.sizeOf109
  v39 := Try.zeroValue109
  t45 := Try.underlying130
  a45 := Try.isAgg130
  z45 := Try.sizeOf130
  v45 := Try.zeroValue130
  t46 := Try.underlying131
  a46 := Try.isAgg131
  z46 := Try.sizeOf131
  v46 := Try.zeroValue131
  t50 := Try.underlying120
  a50 := Try.isAgg120
  z50 := Try.sizeOf120
  v50 := Try.zeroValue120
  t53 := Try.underlying137
  a53 := Try.isAgg137
  z53 := Try.sizeOf137
  v53 := Try.zeroValue137
  t55 := Try.underlying139
  a55 := Try.isAgg139
  z55 := Try.sizeOf139
  v55 := Try.zeroValue139
  t66 := Try.underlying147
  a66 := Try.isAgg147
  z66 := Try.sizeOf147
  v66 := Try.zeroValue147
  t70 := Try.underlying151
  a70 := Try.isAgg151
  z70 := Try.sizeOf151
  v70 := Try.zeroValue151
  t76 := Try.underlying158
  a76 := Try.isAgg158
  z76 := Try.sizeOf158
  v76 := Try.zeroValue158
  t77 := Try.underlying52
  a77 := Try.isAgg52
  z77 := Try.sizeOf52
  v77 := Try.zeroValue52 }
/-- A pair before another one. -/
def plt (x y : Int × Int) : Prop := x.1 < y.1 ∨ x.1 = y.1 ∧ x.2 < y.2
theorem pcmp_lt (x y : Int × Int) : Go.Proofs.ltOf pcmp x y = true ↔ plt x y := by
  unfold Go.Proofs.ltOf plt
  rw [decide_eq_true_eq]
  unfold pcmp
  rcases (by omega : x.1 < y.1 ∨ y.1 < x.1 ∨ x.1 = y.1) with h | h | h
  · rw [icmp_lt h, if_pos (by decide)]; omega
  · rw [icmp_gt h, if_pos (by decide)]; omega
  · rw [h, icmp_self, if_neg (by decide)]
    rcases (by omega : x.2 < y.2 ∨ y.2 < x.2 ∨ x.2 = y.2) with h2 | h2 | h2
    · rw [icmp_lt h2]; omega
    · rw [icmp_gt h2]; omega
    · rw [h2, icmp_self]; omega
theorem pcmp_nlt (x y : Int × Int) : Go.Proofs.ltOf pcmp x y = false ↔ ¬ plt x y := by
  rw [← pcmp_lt]; simp
open Go.Sort in
theorem pcmp_swo : SWO (Go.Proofs.ltOf pcmp) where
  irrefl x := by rw [pcmp_nlt]; unfold plt; omega
  trans x y z h1 h2 := by
    rw [pcmp_lt] at *
    unfold plt at *
    omega
  ntrans x y z h1 h2 := by
    rw [pcmp_nlt] at *
    unfold plt at *
    omega
theorem pc_ones (x : Int × Int) : ∀ u ∈ pcells x, u.oneCell' = true := by
  intro u hu
  simp only [pcells, List.mem_cons, List.not_mem_nil, or_false] at hu
  rcases hu with rfl | rfl <;> rfl
open Go.Sort in
theorem srt_any (b cap : Nat) (l : List (Int × Int)) (w : World) (hl : l.length ≤ 1000000) (hb : b < w.heap.size) (hH : HoldsK pcells 2 w b 0 l.toArray) :
    Calls Try.prog 36 #[.slice (some ⟨b, 0, none⟩) l.length cap, .func (.func 37) #[] #[]] w fun e w' => e = .returned (.tuple #[]) ∧ ∃ d' n os, PermIn 0 l.length l.toArray d' ∧ SortedIn (Go.Proofs.ltOf pcmp) 0 l.length d' ∧ w' = sortWorldK pcells 2 w b 0 n d' os := by
  have h := Go.Proofs.AnyQ.slices_SortFunc srtLays 2 Try.isAgg45 Try.sizeOf45 pcells (fun _ => rfl) pc_ones pcmp pcmp_swo 37 #[] b 0 cap l.toArray w (fun _ _ => by kernel_rfl) (fun _ _ _ _ x y => clos_any x y _) hH hb (by simp; omega)
  rw [List.size_toArray] at h
  exact h
end Go.Proofs.Ytmkmgimmlohamaa

namespace Go.Proofs.Ytmkmgimmlohamaa
open Go.RowKit
attribute [local go_sem] Oper.semAt_some

theorem plt_irrefl (x : Int × Int) : ¬ plt x x := by unfold plt; omega
theorem plt_trans {x y z : Int × Int} (h : plt x y) (k : plt y z) : plt x z := by unfold plt at *; omega
theorem plt_total (x y : Int × Int) : plt x y ∨ x = y ∨ plt y x := by
  obtain ⟨a, b⟩ := x
  obtain ⟨c, d⟩ := y
  unfold plt
  rw [Prod.mk.injEq]
  simp only
  omega
/-- Ascending lists with the same members are one. -/
theorem plt_unique : ∀ {l m : List (Int × Int)}, l.Pairwise plt → m.Pairwise plt → (∀ p, p ∈ l ↔ p ∈ m) → l = m
  | [], [], _, _, _ => rfl
  | [], y :: m, _, _, h => absurd ((h y).2 (List.mem_cons_self ..)) (by simp)
  | x :: l, [], _, _, h => absurd ((h x).1 (List.mem_cons_self ..)) (by simp)
  | x :: l, y :: m, hl, hm, h => by
    obtain ⟨hl1, hl2⟩ := List.pairwise_cons.1 hl
    obtain ⟨hm1, hm2⟩ := List.pairwise_cons.1 hm
    have hxy : x = y := by
      rcases List.mem_cons.1 ((h x).1 (List.mem_cons_self ..)) with e | e
      · exact e
      · rcases List.mem_cons.1 ((h y).2 (List.mem_cons_self ..)) with e' | e'
        · exact e'.symm
        · exact absurd (plt_trans (hm1 x e) (hl1 y e')) (plt_irrefl _)
    subst hxy
    congr 1
    refine plt_unique hl2 hm2 fun p => ?_
    constructor
    · intro hp
      rcases List.mem_cons.1 ((h p).1 (List.mem_cons_of_mem _ hp)) with rfl | e
      · exact absurd (hl1 _ hp) (plt_irrefl _)
      · exact e
    · intro hp
      rcases List.mem_cons.1 ((h p).2 (List.mem_cons_of_mem _ hp)) with rfl | e
      · exact absurd (hm1 _ hp) (plt_irrefl _)
      · exact e
/-- A word leads to the pair. -/
def rchP (A B : Adv) (p : Int × Int) : Prop := ∃ u, 0 ≤ after A 0 u ∧ 0 ≤ after B 0 u ∧ p = (after B 0 u, after A 0 u)
def simL (vs : List Vs) : List (Int × Int) := vs.map fun v => ((v.q : Int), (v.p : Int))
theorem simL_reach {A B : Adv} (hA : achk A = 0) (hB : achk B = 0) {vs : List Vs} {ws : List (List Rd)} (hlen : ws.length = vs.length) (h : Full (act := actP dI A B) (0, 0) (zipv vs ws)) (p : Int × Int) : p ∈ simL vs ↔ rchP A B p := by
  have hz := zipv_fst hlen
  unfold simL rchP
  rw [List.mem_map]
  constructor
  · rintro ⟨v, hv, rfl⟩
    have hm : v.pr ∈ (zipv vs ws).map (·.1) := by rw [hz]; exact List.mem_map.2 ⟨v, hv, rfl⟩
    obtain ⟨e, he, hev⟩ := List.mem_map.1 hm
    have := h.path e he
    obtain ⟨h1, h2, h3⟩ := (pathP0 tells_I hA hB e.2 e.1).1 this
    rw [hev] at h3
    have e1 : v.p = (after A 0 e.2).toNat := congrArg Prod.fst h3
    have e2 : v.q = (after B 0 e.2).toNat := congrArg Prod.snd h3
    exact ⟨e.2, h1, h2, by rw [e1, e2, Int.toNat_of_nonneg h1, Int.toNat_of_nonneg h2]⟩
  · rintro ⟨u, h1, h2, rfl⟩
    obtain ⟨e, he, hev⟩ := h.reach _ u _ rfl ((pathP0 tells_I hA hB u _).2 ⟨h1, h2, rfl⟩)
    have hm : e.1 ∈ vs.map Vs.pr := by rw [← hz]; exact List.mem_map.2 ⟨e, he, rfl⟩
    obtain ⟨v, hv, hve⟩ := List.mem_map.1 hm
    rw [hev] at hve
    have e1 : v.p = (after A 0 u).toNat := congrArg Prod.fst hve
    have e2 : v.q = (after B 0 u).toNat := congrArg Prod.snd hve
    exact ⟨v, hv, by rw [e1, e2, Int.toNat_of_nonneg h1, Int.toNat_of_nonneg h2]⟩
theorem simL_diff {d : St → Bool} {A B : Adv} {vs : List Vs} {ws : List (List Rd)} (hlen : ws.length = vs.length) (h : Full (act := actP d A B) (0, 0) (zipv vs ws)) : (simL vs).Pairwise (· ≠ ·) := by
  have hd : (vs.map Vs.pr).Pairwise (· ≠ ·) := by
    rw [← zipv_fst hlen, List.pairwise_map]
    exact h.diff
  unfold simL
  rw [List.pairwise_map] at hd ⊢
  refine hd.imp fun {v u} hne he => hne ?_
  have e1 : (v.q : Int) = u.q := congrArg Prod.fst he
  have e2 : (v.p : Int) = u.p := congrArg Prod.snd he
  exact Prod.ext (by show v.p = u.p; omega) (by show v.q = u.q; omega)
theorem full_pos {d : St → Bool} {A B : Adv} {vs : List Vs} {ws : List (List Rd)} (hlen : ws.length = vs.length) (h : Full (act := actP d A B) (0, 0) (zipv vs ws)) : 0 < vs.length := by
  have := List.length_pos_of_mem h.head
  rwa [zipv_len hlen] at this
theorem after_bd {A : Adv} (hA : achk A = 0) : ∀ (u : List Rd) (s : Int), s < A.L → after A s u < A.L
  | [], s, hs => by simp only [after]; exact hs
  | r :: u, s, hs => by
    simp only [after]
    by_cases h : s < 0
    · rw [if_pos h]; have := (achk_zero hA).2.2.1; omega
    · rw [if_neg h]
      exact after_bd hA u _ (toL_bd hA (s := s.toNat) (by omega) r).2
theorem full_few {A B : Adv} (hA : achk A = 0) (hB : achk B = 0) {vs : List Vs} {ws : List (List Rd)} (hlen : ws.length = vs.length) (h : Full (act := actP dI A B) (0, 0) (zipv vs ws)) : vs.length ≤ 65536 := by
  have hin : ∀ x ∈ simL vs, 0 ≤ x.1 ∧ x.1 < 256 ∧ 0 ≤ x.2 ∧ x.2 < 256 := fun x hx => by
    obtain ⟨u, h1, h2, rfl⟩ := (simL_reach hA hB hlen h x).1 hx
    have a1 := after_bd hA u 0 (by have := (achk_zero hA).2.2.1; omega)
    have b1 := after_bd hB u 0 (by have := (achk_zero hB).2.2.1; omega)
    have a2 := (achk_zero hA).2.2.2.1
    have b2 := (achk_zero hB).2.2.2.1
    exact ⟨h2, by show after B 0 u < _; omega, h1, by show after A 0 u < _; omega⟩
  have hd := simL_diff hlen h
  have hp : ((simL vs).map fun x => (x.1 * 256 + x.2).toNat).Pairwise (· ≠ ·) := by
    rw [List.pairwise_map]
    refine List.Pairwise.imp_of_mem (fun {x y} hx hy hne heq => hne ?_) hd
    obtain ⟨x1, x2, x3, x4⟩ := hin x hx
    obtain ⟨y1, y2, y3, y4⟩ := hin y hy
    exact Prod.ext (by omega) (by omega)
  have := few_nats 65536 _ hp fun n hn => by
    obtain ⟨x, hx, rfl⟩ := List.mem_map.1 hn
    obtain ⟨x1, x2, x3, x4⟩ := hin x hx
    omega
  simpa [simL] using this
open Go.Sort in
/-- What a sort leaves of different pairs. -/
theorem sorted_pw {l : List (Int × Int)} {d' : Array (Int × Int)} (hn : l.Pairwise (· ≠ ·)) (hp : PermIn 0 l.length l.toArray d') (hs : SortedIn (Go.Proofs.ltOf pcmp) 0 l.length d') : d'.size = l.length ∧ d'.toList.Pairwise plt ∧ ∀ p, p ∈ d'.toList ↔ p ∈ l := by
  obtain ⟨h1, -, h3⟩ := hp
  have hsz : d'.size = l.length := by simpa using h1
  have e1 : (d'.extract 0 l.length).toList = d'.toList := by rw [← hsz]; simp
  have e2 : (l.toArray.extract 0 l.length).toList = l := by simp
  rw [e1, e2] at h3
  have hnd : d'.toList.Pairwise (· ≠ ·) := (h3.pairwise_iff (fun {_ _} h => Ne.symm h)).2 hn
  refine ⟨hsz, List.pairwise_iff_getElem.2 fun i j hi hj hij => ?_, fun p => h3.mem_iff⟩
  have hne := List.pairwise_iff_getElem.1 hnd i j hi hj hij
  have hi' : i < d'.size := by simpa using hi
  have hj' : j < d'.size := by simpa using hj
  have := (pcmp_nlt _ _).1 (hs i j (Nat.zero_le _) hij (by omega))
  rw [getElem!_pos d' i hi', getElem!_pos d' j hj'] at this
  rw [Array.getElem_toList, Array.getElem_toList] at hne ⊢
  rcases plt_total d'[i] d'[j] with h | h | h
  · exact h
  · exact absurd h hne
  · exact absurd h this
open Go.Sort in
theorem row_of_holds2 {w : World} {b c : Nat} {l : List (Int × Int)} (h : HoldsK pcells 2 w b 0 l.toArray) (hl : l.length ≤ 1000000) (hc : l.length ≤ c) (hc2 : c ≤ 9223372036854775807) (hb : b < w.heap.size) : Row pcells 2 w (.slice (some ⟨b, 0, none⟩) l.length c) l := by
  refine ⟨_, _, rfl, hc, by constructor <;> omega, fun _ => ⟨b, 0, rfl, hb, fun i x hx j u hu => ?_⟩⟩
  have hi : i < l.length := by
    rcases Nat.lt_or_ge i l.length with h | h
    · exact h
    · rw [List.getElem?_eq_none h] at hx; cases hx
  have hj : j < 2 := by
    rcases Nat.lt_or_ge j 2 with h | h
    · exact h
    · rw [List.getElem?_eq_none (by show 2 ≤ j; exact h)] at hu; cases hu
  have h1 := (HoldsK.cell h (i := i) (c := j) (by simpa using hi) hj).1
  have e : l.toArray[i]! = x := by rw [getElem!_pos l.toArray i (by simpa using hi)]; rw [List.getElem_toArray]; exact (List.getElem?_eq_some_iff.1 hx).2
  rw [e] at h1
  rw [h1]
  have hjl : j < (pcells x).length := by show j < 2; exact hj
  rw [List.getElem?_eq_getElem hjl] at hu
  rw [getElem!_pos (pcells x) j hjl]
  exact hu
/-- What Simulation returns. -/
def RetSm (A B : Adv) (w : World) (en : Ending) (w' : World) : Prop :=
  ∃ x b, en = .returned (.tuple #[x, .bool b, .int .i64 (bothI A B)]) ∧ Ext w w' ∧
    ((bothI A B ≠ 0 ∧ x = .slice none 0 0 ∧ b = false) ∨
      (bothI A B = 0 ∧ b = false ∧ x = .slice none 0 0 ∧ ∃ u, lackW A B u) ∨
      (bothI A B = 0 ∧ b = true ∧ (∀ u, ¬ lackW A B u) ∧ ∃ l, Row pcells 2 w' x l ∧ 0 < l.length ∧ l.Pairwise plt ∧ ∀ p, p ∈ l ↔ rchP A B p))
end Go.Proofs.Ytmkmgimmlohamaa

namespace Go.Proofs.Ytmkmgimmlohamaa
open Go.RowKit
attribute [local go_sem] Oper.semAt_some

theorem pr_info : (Try.prog.info? 45).map (fun i => (i.zero, i.size, i.bytes)) = some (some (.agg #[.int .i64 0, .int .i64 0]), 2, 16) := by kernel_rfl
theorem holds_own2 {w : World} {base g n c : Nat} {e : TypeId} {l : List (Int × Int)} (h : Own pcells 2 w base e (.slice (some ⟨g, 0, none⟩) n c) l) : Go.Sort.HoldsK pcells 2 w g 0 l.toArray := by
  intro j hj
  have hj : j < l.length * 2 := by simpa using hj
  obtain ⟨_, hl, h1 | ⟨g', cap, cur, h1, h2, h3, h4, h5, h6, h7⟩⟩ := h
  · exact absurd h1.1 (by intro k; cases k)
  injection h1 with h8 h9 h10
  injection h8 with h8
  injection h8 with h8
  subst h8
  refine ⟨?_, frozen_of h3⟩
  rw [Nat.zero_add, cell_of_row _ _ _ _ _ _ h3, Go.Sort.get_flatK pcells 2 _ j (by simpa using hj)]
  have hi : j / 2 < l.length := by omega
  have e1 : l.toArray[j / 2]! = l[j / 2] := by rw [getElem!_pos l.toArray _ (by simpa using hi), List.getElem_toArray]
  have e2 : (l.flatMap pcells)[j / 2 * 2 + j % 2]? = (pcells l[j / 2])[j % 2]? := flat_get (enc := pcells) (size := 2) (fun _ => rfl) l (j / 2) (j % 2) l[j / 2] (List.getElem?_eq_getElem hi) (by omega)
  rw [show j / 2 * 2 + j % 2 = j by omega, ← h7, List.getElem?_take, if_pos (by omega)] at e2
  rw [e1, ← Array.getElem?_toList, e2, getElem!_def]
  have : j % 2 < (pcells l[j / 2]).length := by show j % 2 < 2; omega
  rw [List.getElem?_eq_getElem this]
  rfl
theorem pr_new_cells (w : World) (x : Int × Int) : ∀ j u, (pcells x)[j]? = some u → (w.alloc (.cells #[.int .i64 x.1, .int .i64 x.2] 45)).cell? ⟨w.heap.size, j, none⟩ = some u := fun j u h => by
  rw [cell_of_row _ _ _ _ _ _ (heap_alloc_new w _)]
  rw [← h, ← List.getElem?_toArray]
  rfl
open Go.Sort in
theorem ext_sorted {B w : World} (h : Ext B w) {b : Nat} (hb : B.heap.size ≤ b) (n : Nat) (d : Array (Int × Int)) (os : Array Obj) : Ext B (sortWorldK pcells 2 w b 0 n d os) := by
  have h1 : Ext B (putRowK pcells 2 (Go.Sort.ahead w n) b 0 d) := by
    refine ⟨⟨h.b.os, h.b.tape, h.b.output, ?_, fun k hk => ?_⟩⟩
    · have := h.b.size
      simp [putRowK, putRow, mapBlock, Go.Sort.ahead]
      exact this
    · rw [← h.b.block k hk]
      simp only [putRowK, putRow, mapBlock, Go.Sort.ahead, Array.getElem?_modify]
      rw [if_neg (by omega)]
  unfold sortWorldK
  refine ⟨⟨h1.b.os, h1.b.tape, h1.b.output, ?_, fun k hk => ?_⟩⟩
  · have := h1.b.size
    simp [grow]
    omega
  · rw [← h1.b.block k hk]
    simp only [grow]
    rw [Array.getElem?_append_left (by have := h1.b.size; omega)]
set_option maxRecDepth 16000 in
set_option maxHeartbeats 4000000 in
theorem psim_any (A B : Adv) (u v : Value) (w : World) (hA : AdvRep w u A) (hB : AdvRep w v B) (hmA : movesN A ≤ 4611686018427387904) (hmB : movesN B ≤ 4611686018427387904) :
    Calls Try.prog 14 #[u, v] w (RetSm A B w) := by
  have HA := hide hA
  have HB := hide hB
  obtain ⟨p, c, rfl, -⟩ := hA.all_
  obtain ⟨q, d, rfl, -⟩ := hB.all_
  clear hA hB
  have HN := hide (TwoBox.new A B p c q d w)
  have HE1 := hide (((Ext.refl w).alloc (.cells #[.int .i64 A.n, .slice p A.L c] 24)).alloc (.cells #[.int .i64 B.n, .slice q B.L d] 24))
  obtain ⟨W1, hW1⟩ : ∃ W1, (w.alloc (.cells #[.int .i64 A.n, .slice p A.L c] 24)).alloc (.cells #[.int .i64 B.n, .slice q B.L d] 24) = W1 := ⟨_, rfl⟩
  rw [hW1] at HN HE1
  have HW1 := hide hW1
  clear hW1
  go_enter Try.func14, Try.ntmps14
  go_wp2_with fail
  rw [HW1.out]
  refine (both_any A B _ _ W1 (HA.out.ext HE1.out) (HB.out.ext HE1.out) hmA hmB).mono ?_
  rintro e w2 ⟨rfl, hE2⟩
  have HN2 := hide (HN.out.ext hE2)
  have HE2 := hide (HE1.out.trans hE2)
  clear hE2 HN HE1 HW1
  by_cases hb : bothI A B = 0
  case neg =>
    have hd : (bothI A B != 0) = true := by simp [hb]
    have HR : Hid (RetSm A B w (.returned (.tuple #[.slice none 0 0, .bool false, .int .i64 (bothI A B)])) w2) := ⟨_, _, rfl, HE2.out, .inl ⟨hb, rfl, rfl⟩⟩
    clear hb
    generalize bothI A B = res at hd HR ⊢
    go_wp2_with fail
    go_ret3
    exact HR.out
  case pos =>
  have HZ := hide hb
  rw [hb]
  clear hb
  obtain ⟨z0, a0, a1, z1, b0, b1⟩ := HN2.out.cells
  have HKA := hide (bothI_zero HZ.out).1
  have HKB := hide (bothI_zero HZ.out).2.1
  go_wp2_with fail
  refine (search_lack A B _ _ w2 (HA.out.ext HE2.out) (HB.out.ext HE2.out) HKA.out HKB.out).mono ?_
  rintro e w3 ⟨vs, uv, x, rfl, hE3, hrow, (⟨word, hword, hne, hmk, hle⟩ | ⟨rfl, ws, hlen, hfull⟩)⟩
  · have HR : Hid (RetSm A B w (.returned (.tuple #[.slice none 0 0, .bool false, .int .i64 0])) w3) := ⟨_, _, by rw [HZ.out], HE2.out.trans hE3, .inr (.inl ⟨HZ.out, rfl, rfl, word, (markI HKA.out HKB.out word).1 hmk⟩)⟩
    obtain ⟨b, o, k, rfl⟩ := row_ne hword hne
    have hnil : ∀ V, (binOp BinOp.neq 27 (.slice (some ⟨b, o, none⟩) word.length k) (.slice none 0 0)).run Try.prog V = .ok (.bool true) V := fun V => by kernel_rfl
    clear hword hne hmk hle hE3 hrow z0 a0 a1 z1 b0 b1
    go_wp2_with fail
    go_ret3
    exact HR.out
  have hnil : ∀ V, (binOp BinOp.neq 27 (.slice none 0 0) (.slice none 0 0)).run Try.prog V = .ok (.bool false) V := fun V => by kernel_rfl
  have hpos := full_pos hlen hfull
  have HFL := hide hfull
  have HLN := hide hlen
  obtain ⟨pv, cv, rfl, hcv, hcv2, hat⟩ := hrow.vs_all
  obtain ⟨bv, ov, rfl, hbv, hat⟩ := hat hpos
  have HAT := hide (fun (V : World) (hV : Ext w3 V) (i : Nat) (hi : i < vs.length) j u h => (hV.cell (p := ⟨bv, ov + i * 10 + j, none⟩) hbv).trans (hat i hi j u h))
  have HE3 := hide (HE2.out.trans hE3)
  have HPOS := hide hpos
  have hln : vs.length ≤ 65536 := full_few HKA.out HKB.out hlen hfull
  clear hfull hlen hat hrow hE3 z0 a0 a1 z1 b0 b1 HE2 HN2 hpos
  go_wp2_with fail
  go_loopw [10, 29] (fun x y wr => ∃ i : Nat, i ≤ vs.length ∧ y = .int .i64 i ∧ Hid (Own pcells 2 wr w3.heap.size 45 x ((simL vs).take i)) ∧ Hid (Ext w3 wr)) (fun _ y _ => vs.length - (intOf y).toNat)
  case atStart => exact ⟨0, by omega, rfl, Own.nil _ _ _ (fun _ => rfl), Ext.refl _⟩
  case round =>
    obtain ⟨i, hi, rfl, HO, HE⟩ := hrel
    by_cases hlt : i < vs.length
    · have hx := HAT.out wr HE.out i hlt
      have hbz : bv < wr.heap.size := Nat.lt_of_lt_of_le hbv HE.out.size
      have HTK : Hid ((simL vs).take (i + 1) = (simL vs).take i ++ [(((vs.getD i default).q : Int), ((vs.getD i default).p : Int))]) := by
        show _ = _
        unfold simL
        rw [List.take_add_one, List.getElem?_map, List.getElem?_eq_getElem hlt, List.getD_eq_getElem?_getD, List.getElem?_eq_getElem hlt]; rfl
      have HTL : Hid (((simL vs).take i).length = i) := by
        show _ = _
        unfold simL
        simp; omega
      generalize vs.getD i default = e at hx HTK
      have q0 := hx 0 _ rfl
      have q1 := hx 1 _ rfl
      have q2 := hx 2 _ rfl
      have q3 := hx 3 _ rfl
      have q4 := hx 4 _ rfl
      have q5 := hx 5 _ rfl
      have q6 := hx 6 _ rfl
      have q7 := hx 7 _ rfl
      have q8 := hx 8 _ rfl
      have q9 := hx 9 _ rfl
      rw [Nat.add_zero] at q0
      clear hx
      obtain ⟨ep, eq, ef, er⟩ := e
      dsimp only at q0 q1 q2 q3 q4 q5 q6 q7 q8 q9 HTK
      have hvb := heap_alloc_new wr (.cells #[.int .i64 ep, .int .i64 eq, .int .i64 ef, .int .i64 er.g.n, .int .i64 er.g.h0, .int .i64 er.g.h1, .int .i64 er.g.h2, .int .i64 er.g.h3, .int .i64 er.g.h4, .int .i64 er.f] 75)
      have HVB := hide hvb
      have HOU := hide (HO.out.ext ((Ext.refl wr).alloc (.cells #[.int .i64 ep, .int .i64 eq, .int .i64 ef, .int .i64 er.g.n, .int .i64 er.g.h0, .int .i64 er.g.h1, .int .i64 er.g.h2, .int .i64 er.g.h3, .int .i64 er.g.h4, .int .i64 er.f] 75)))
      have HEU := hide (HE.out.alloc (.cells #[.int .i64 ep, .int .i64 eq, .int .i64 ef, .int .i64 er.g.n, .int .i64 er.g.h0, .int .i64 er.g.h1, .int .i64 er.g.h2, .int .i64 er.g.h3, .int .i64 er.g.h4, .int .i64 er.f] 75))
      have hsu := World.size_alloc wr (.cells #[.int .i64 ep, .int .i64 eq, .int .i64 ef, .int .i64 er.g.n, .int .i64 er.g.h0, .int .i64 er.g.h1, .int .i64 er.g.h2, .int .i64 er.g.h3, .int .i64 er.g.h4, .int .i64 er.f] 75)
      have HSU := hide hsu
      clear hvb hsu
      go_upto_region 11 with fail
      generalize wr.alloc (.cells #[.int .i64 ep, .int .i64 eq, .int .i64 ef, .int .i64 er.g.n, .int .i64 er.g.h0, .int .i64 er.g.h1, .int .i64 er.g.h2, .int .i64 er.g.h3, .int .i64 er.g.h4, .int .i64 er.f] 75) = U at HVB HOU HEU HSU ⊢
      clear q0 q1 q2 q3 q4 q5 q6 q7 q8 q9
      have c0 := dcell HVB.out 0
      have c1 := dcell HVB.out 1
      have cz := lt_of_heap HVB.out
      go_wp2_with (at_builtin; refine wpList_append1 rfl (.tmp 33) (.tmp 41) 33 rfl w3.heap.size 45 (.agg #[.int .i64 0, .int .i64 0]) 2 16 Try.underlying33 pr_info rfl (by decide) _ ((simL vs).take i) ((eq : Int), (ep : Int)) U.heap.size rfl (HOU.out.alloc _) rfl (pr_new_cells U _) (pc_ones _) (by rw [HTL.out]; omega) (by decide) (by simp only [World.size_alloc]; have := HEU.out.size; omega) ?_; intro v' W6 hown' hg6 hform; have HG6 := hide hg6; have HO6 := hide hown'; clear hg6 hown' hform)
      have HE6 : Hid (Ext w3 W6) := (HEU.out.alloc _).grown HG6.out (fun k hk => HO.out.block_ge k hk)
      go_roundw
      case rel => exact ⟨i + 1, by omega, by go_num, by rw [HTK.out]; exact HO6.out, HE6.out⟩
      case measure => simp [intOf]; omega
    · obtain rfl : i = vs.length := by omega
      have htk : (simL vs).take vs.length = simL vs := by
        unfold simL
        rw [List.take_of_length_le (by simp)]
      have hsl : (simL vs).length = vs.length := by unfold simL; simp
      rw [htk] at HO
      rcases HO.out.form with ⟨_, h0⟩ | ⟨g, cg, rfl, hg1, hg2, hg3, hg4⟩
      · rw [h0] at hsl
        have := HPOS.out
        simp at hsl
        omega
      rw [hsl] at HO hg3 ⊢
      have HS := hide (srt_any g cg (simL vs) wr (by rw [hsl]; omega) hg2 (holds_own2 HO.out))
      rw [hsl] at HS
      have HSL := hide hsl
      have HG := hide (And.intro hg1 (And.intro hg2 (And.intro hg3 hg4)))
      clear htk hsl hg1 hg2 hg3 hg4 hi hlt
      go_wp2_with fail
      refine HS.out.mono ?_
      rintro e w5 ⟨rfl, d', n, os, hp, hs, hw5⟩
      have hfl := HFL.out
      rw [← HSL.out] at hp hs
      obtain ⟨hd1, hd2, hd3⟩ := sorted_pw (simL_diff HLN.out hfl) hp hs
      obtain ⟨hg1, hg2, hg3, hg4⟩ := HG.out
      have hE5 : Ext w w5 := by rw [hw5]; exact ext_sorted (HE3.out.trans HE.out) (by have := HE3.out.size; omega) n d' os
      have hh : Go.Sort.HoldsK pcells 2 w5 g 0 d'.toList.toArray := by
        rw [hw5, Array.toArray_toList]
        unfold Go.Proofs.sortWorldK
        refine Go.Sort.holdsK_grow _ _ _ _ _ _ _ ?_ (Go.Sort.holdsK_putRowK pcells 2 _ g 0 (simL vs).toArray d' (Go.Sort.holdsK_ahead pcells 2 wr n g 0 _ (holds_own2 HO.out)) (by simpa using hd1))
        simp [Go.Sort.putRowK, Go.Sort.putRow, Go.Sort.mapBlock, Go.Sort.ahead]; exact hg2
      have hgz : g < w5.heap.size := by rw [hw5]; simp [Go.Proofs.sortWorldK, Go.Sort.grow, Go.Sort.putRowK, Go.Sort.putRow, Go.Sort.mapBlock, Go.Sort.ahead]; omega
      have hdl : d'.toList.length = vs.length := by rw [Array.length_toList, hd1, HSL.out]
      have hrw := row_of_holds2 hh (c := cg) (by omega) (by omega) hg4 hgz
      rw [hdl] at hrw
      have HR : Hid (RetSm A B w (.returned (.tuple #[.slice (some ⟨g, 0, none⟩) vs.length cg, .bool true, .int .i64 0])) w5) :=
        ⟨_, _, by rw [HZ.out], hE5, .inr (.inr ⟨HZ.out, rfl, fun u hu => hfl.none_ u ((markI HKA.out HKB.out u).2 hu), d'.toList, hrw, by have := HPOS.out; omega, hd2, fun p => (hd3 p).trans (simL_reach HKA.out HKB.out HLN.out hfl p)⟩)⟩
      clear hw5 hp hs hfl hd1 hd2 hd3 hg1 hg2 hg3 hg4 hE5 hh hgz hdl hrw
      go_wp2_with fail
      go_ret3
      exact HR.out
end Go.Proofs.Ytmkmgimmlohamaa
