/-
  slices.SortFunc on the steps of failure.build.
  Conditions: none.
-/
import Derived.Test.YtnhgdjiljjpgmaaFailI
import Derived.Test.YtnhgdjiljjpgmaaCmp
import Derived.Test.YtnhgdjiljjpgmaaFailT
import Derived.Test.YtnhgdjiljjpgmaaSeqA
import Derived.Shelf.SlSortCmp.WholeK
namespace Go.Proofs.Ytnhgdjiljjpgmaa
open Go.RowKit Go.Sort
attribute [local go_sem] Oper.semAt_some

/-- w' is w with new blocks behind it, and some draws later. -/
def Grw (w w' : World) : Prop := ∃ q os, w' = grow (w.drewN q) os
theorem Grw.refl (w : World) : Grw w w := ⟨0, #[], by rw [grow_empty]; rfl⟩
theorem Grw.drewN {w W : World} (h : Grw w W) (n : Nat) : Grw w (W.drewN n) := by
  obtain ⟨q, os, rfl⟩ := h
  exact ⟨q + n, os, by rw [← World.drewN_drewN]; rfl⟩
theorem Grw.trans {w W V : World} (h : Grw w W) (k : Grw W V) : Grw w V := by
  obtain ⟨q, os, rfl⟩ := h
  obtain ⟨q', os', rfl⟩ := k
  exact ⟨q + q', os ++ os', by rw [← grow_grow, ← World.drewN_drewN]; rfl⟩
theorem Grw.alloc {w W : World} (h : Grw w W) (o : Obj) : Grw w (W.alloc o) := h.trans ⟨0, #[o], by rw [alloc_eq_grow]; rfl⟩
theorem Grw.ext {w W : World} (h : Grw w W) : Ext w W := by
  obtain ⟨q, os, rfl⟩ := h
  refine ⟨⟨rfl, rfl, rfl, by rw [size_grow]; exact Nat.le_add_right _ _, fun k hk => ?_⟩⟩
  show (w.heap ++ os)[k]? = _
  rw [Array.getElem?_append_left hk]
set_option maxHeartbeats 1000000 in
theorem gcompareG_any (g g' : Gr) (w : World) : Calls Try.prog 81 #[g.v, g'.v] w fun e w' => e = .returned (.int .i64 (gcmp g g')) ∧ Grw w w' := by
  by_cases he : g = g'
  · subst he
    rw [gcmp_self]
    obtain ⟨n, a, b, c, d, e⟩ := g
    dsimp only [Gr.v]
    have heq := eql_graph n a b c d e n a b c d e
    rw [show geq ⟨n, a, b, c, d, e⟩ ⟨n, a, b, c, d, e⟩ = true from geq_iff.2 rfl] at heq
    go_enter Try.func81, Try.ntmps81
    go_wp2
    go_ret
    exact ⟨rfl, ((Grw.refl w).alloc _).alloc _⟩
  · have hg : geq g g' = false := by
      cases h : geq g g'
      · rfl
      · exact absurd (geq_iff.1 h) he
    clear he
    obtain ⟨n, a, b, c, d, e⟩ := g
    obtain ⟨n', a', b', c', d', e'⟩ := g'
    dsimp only [Gr.v]
    have heq := eql_graph n a b c d e n' a' b' c' d' e'
    rw [hg] at heq
    clear hg
    by_cases hn : n = n'
    · have H1 := hide (fun k h1 h2 h3 => gcmp_at (g := ⟨n, a, b, c, d, e⟩) (g' := ⟨n', a', b', c', d', e'⟩) (k := k) hn h1 h2 h3)
      have H2 := hide (gcmp_end (g := ⟨n, a, b, c, d, e⟩) (g' := ⟨n', a', b', c', d', e'⟩) hn)
      have hx := fun k hk => Gr.box_at w n a b c d e 36 k hk
      have hy := fun k hk => Gr.box_at (w.alloc (.cells #[.int .i64 n, .int .i64 a, .int .i64 b, .int .i64 c, .int .i64 d, .int .i64 e] 36)) n' a' b' c' d' e' 36 k hk
      generalize gcmp ⟨n, a, b, c, d, e⟩ ⟨n', a', b', c', d', e'⟩ = res at H1 H2 ⊢
      generalize Gr.h ⟨n, a, b, c, d, e⟩ = p at H1 H2 hx
      generalize Gr.h ⟨n', a', b', c', d', e'⟩ = q at H1 H2 hy
      have hN : (n != n') = false := by simp [hn]
      have HX := hide hx
      have HY := hide hy
      clear hn hx hy
      go_enter Try.func81, Try.ntmps81
      go_wp2
      go_loopw [20, 5, 6] (fun i _ _ wr => ∃ k : Nat, k ≤ 5 ∧ i = .int .i64 k ∧ (∀ j, j < k → icmp (p j) (q j) = 0) ∧ Grw ((w.alloc (.cells #[.int .i64 n, .int .i64 a, .int .i64 b, .int .i64 c, .int .i64 d, .int .i64 e] 36)).alloc (.cells #[.int .i64 n', .int .i64 a', .int .i64 b', .int .i64 c', .int .i64 d', .int .i64 e'] 36)) wr) (fun i _ _ _ => 5 - (intOf i).toNat)
      case atStart => exact ⟨0, by omega, rfl, fun j hj => by omega, Grw.refl _⟩
      case round =>
        obtain ⟨k, hk, rfl, hj, hE⟩ := hrel
        have HJ := hide hj
        clear hj
        have hsz := hE.ext.size
        rw [World.size_alloc, World.size_alloc] at hsz
        have hz1 : w.heap.size < wr.heap.size := by omega
        have hz2 : w.heap.size + 1 < wr.heap.size := by omega
        by_cases hlt : k < 5
        · have hx1 : wr.cell? ⟨w.heap.size, 1 + k, none⟩ = some (.int .i64 (p k)) := by
            rw [hE.ext.cell (by simp; omega), World.cell?_alloc_lt _ _ _ (by simp)]
            exact HX.out k hlt
          have hy1 : wr.cell? ⟨w.heap.size + 1, 1 + k, none⟩ = some (.int .i64 (q k)) := by
            rw [hE.ext.cell (by simp)]
            have := HY.out k hlt
            rw [World.size_alloc] at this
            exact this
          have HH := hide (H1.out k hlt HJ.out)
          have HN : Hid (icmp (p k) (q k) = 0 → ∀ j, j < k + 1 → icmp (p j) (q j) = 0) := fun h0 j hj => by
            by_cases e : j = k
            · subst e; exact h0
            · exact HJ.out j (by omega)
          generalize p k = x at hx1 HH HN
          generalize q k = y at hy1 HH HN
          go_wp2_with fail
          have hmo : Try.prog.follows .mixedOrders = true := by kernel_rfl
          go_quiet ((go_at_call 82; exact Calls.quiet_of_same (ccmp_any x y _)))
          have hE3 := hE.drewN nq
          clear hE hx1 hy1
          by_cases h0 : icmp x y = 0
          · have hb : (icmp x y != 0) = false := by simp [h0]
            have H0 := hide h0
            clear h0
            go_wp2
            go_roundw
            case rel => exact ⟨k + 1, by omega, by go_num, HN.out H0.out, hE3⟩
            case measure => simp [intOf]; omega
          · have hb : (icmp x y != 0) = true := by simp [h0]
            have H0 := hide (HH.out h0)
            clear h0
            go_wp2
            go_ret
            exact ⟨ret_int H0.out.symm, (((Grw.refl w).alloc _).alloc _).trans hE3⟩
        · obtain rfl : k = 5 := by omega
          have HR := hide (H2.out HJ.out)
          go_wp2
          go_ret
          exact ⟨ret_int HR.out.symm, (((Grw.refl w).alloc _).alloc _).trans hE⟩
    · rw [gcmp_first hn]
      have hN : (n != n') = true := by simp [hn]
      clear hn
      go_enter Try.func81, Try.ntmps81
      go_wp2_with (go_at_call 82; refine (ccmp_any _ _ _).mono ?_; rintro e w1 ⟨rfl, rfl⟩)
      go_ret
      exact ⟨rfl, ((Grw.refl w).alloc _).alloc _⟩
theorem rcompareG_any (r r' : Rd) (w : World) : Calls Try.prog 60 #[r.v, r'.v] w fun e w' => e = .returned (.int .i64 (rcmp r r')) ∧ Grw w w' := by
  by_cases he : r = r'
  · subst he
    rw [rcmp_self]
    obtain ⟨⟨n, a, b, c, d, e⟩, f⟩ := r
    dsimp only [Rd.v]
    have heq := eql_round n a b c d e f n a b c d e f
    rw [req_iff.2 rfl] at heq
    go_enter Try.func60, Try.ntmps60
    go_wp2
    go_ret
    exact ⟨rfl, ((Grw.refl w).alloc _).alloc _⟩
  · have hr : req r r' = false := by
      cases h : req r r'
      · rfl
      · exact absurd (req_iff.1 h) he
    by_cases hg : r.g = r'.g
    · rw [rcmp_second (gcmp_zero.2 hg)]
      obtain ⟨⟨n, a, b, c, d, e⟩, f⟩ := r
      obtain ⟨⟨n', a', b', c', d', e'⟩, f'⟩ := r'
      dsimp only at hg
      dsimp only [Rd.v]
      have heq := eql_round n a b c d e f n' a' b' c' d' e' f'
      have hgq := neq_graph n a b c d e n' a' b' c' d' e'
      rw [hr] at heq
      rw [geq_iff.2 hg] at hgq
      clear he hr hg
      go_enter Try.func60, Try.ntmps60
      go_wp2_with (go_at_call 82; refine (ccmp_any _ _ _).mono ?_; rintro e w1 ⟨rfl, rfl⟩)
      go_ret
      exact ⟨rfl, ((Grw.refl w).alloc _).alloc _⟩
    · rw [rcmp_first (mt gcmp_zero.1 hg)]
      have hgf : geq r.g r'.g = false := by
        cases h : geq r.g r'.g
        · rfl
        · exact absurd (geq_iff.1 h) hg
      obtain ⟨⟨n, a, b, c, d, e⟩, f⟩ := r
      obtain ⟨⟨n', a', b', c', d', e'⟩, f'⟩ := r'
      dsimp only at hgf
      dsimp only [Rd.v]
      have heq := eql_round n a b c d e f n' a' b' c' d' e' f'
      have hgq := neq_graph n a b c d e n' a' b' c' d' e'
      rw [hr] at heq
      rw [hgf] at hgq
      clear he hr hg hgf
      have HC := hide (fun W => gcompareG_any ⟨n, a, b, c, d, e⟩ ⟨n', a', b', c', d', e'⟩ W)
      generalize gcmp ⟨n, a, b, c, d, e⟩ ⟨n', a', b', c', d', e'⟩ = res at HC ⊢
      go_enter Try.func60, Try.ntmps60
      go_wp2_with (go_at_call 81; refine (HC.out _).mono ?_; rintro e w1 ⟨rfl, hE⟩)
      go_ret
      exact ⟨rfl, (((Grw.refl w).alloc _).alloc _).trans hE⟩

set_option maxHeartbeats 1000000 in
/-- The closure that build sorts by. -/
theorem clos17_any (x y : Mv) (w : World) : Calls Try.prog 59 #[x.v, y.v] w fun e w' => e = .returned (.int .i64 (rcmp x.r y.r)) ∧ Grw w w' := by
  have HC := hide (fun W => rcompareG_any x.r y.r W)
  generalize rcmp x.r y.r = res at HC ⊢
  go_enter Try.func59, Try.ntmps59
  go_wp2_with (go_at_call 60; refine (HC.out _).mono ?_; rintro e w1 ⟨rfl, hE⟩)
  go_ret
  exact ⟨rfl, (((Grw.refl w).alloc _).alloc _).trans hE⟩
def srtSRen : Go.Shelf.Ren := ⟨fun | 6 => 58 | 14 => 79 | 15 => 80 | 20 => 91 | 21 => 92 | 22 => 93 | 23 => 94 | 24 => 95 | 25 => 96 | 26 => 97 | 27 => 98 | 28 => 99 | 29 => 100 | 46 => 105 | 47 => 106 | 48 => 107 | 49 => 108 | 50 => 109 | 57 => 113 | n => n, fun | 0 => 0 | 3 => 3 | 4 => 4 | 5 => 5 | 9 => 9 | 22 => 91 | 24 => 71 | 25 => 94 | 39 => 60 | 45 => 116 | 46 => 117 | 50 => 82 | 53 => 85 | 55 => 87 | 66 => 126 | 70 => 130 | 76 => 137 | 77 => 138 | n => n, fun | n => n⟩
set_option maxRecDepth 100000 in
theorem srtSLays : Go.Proofs.SlLaysF0.n6 Try.prog srtSRen := {
  mixed := by kernel_rfl
  f6 := ⟨"slices.SortFunc[[]roundtable/failure.step,roundtable/failure.step]", by kernel_rfl, Try.func58.trans (congrArg some (by kernel_rfl))⟩
  f14 := ⟨"slices.pdqsortCmpFunc[roundtable/failure.step]", by kernel_rfl, Try.func79.trans (congrArg some (by kernel_rfl))⟩
  f15 := Try.func80.trans (congrArg some (by kernel_rfl))
  f20 := ⟨"slices.insertionSortCmpFunc[roundtable/failure.step]", by kernel_rfl, Try.func91.trans (congrArg some (by kernel_rfl))⟩
  f21 := ⟨"slices.heapSortCmpFunc[roundtable/failure.step]", by kernel_rfl, Try.func92.trans (congrArg some (by kernel_rfl))⟩
  f22 := ⟨"slices.breakPatternsCmpFunc[roundtable/failure.step]", by kernel_rfl, Try.func93.trans (congrArg some (by kernel_rfl))⟩
  f23 := ⟨"slices.choosePivotCmpFunc[roundtable/failure.step]", by kernel_rfl, Try.func94.trans (congrArg some (by kernel_rfl))⟩
  f24 := ⟨"slices.reverseRangeCmpFunc[roundtable/failure.step]", by kernel_rfl, Try.func95.trans (congrArg some (by kernel_rfl))⟩
  f25 := ⟨"slices.partialInsertionSortCmpFunc[roundtable/failure.step]", by kernel_rfl, Try.func96.trans (congrArg some (by kernel_rfl))⟩
  f26 := ⟨"slices.partitionEqualCmpFunc[roundtable/failure.step]", by kernel_rfl, Try.func97.trans (congrArg some (by kernel_rfl))⟩
  f27 := ⟨"slices.partitionCmpFunc[roundtable/failure.step]", by kernel_rfl, Try.func98.trans (congrArg some (by kernel_rfl))⟩
  f28 := Try.func99.trans (congrArg some (by kernel_rfl))
  f29 := Try.func100.trans (congrArg some (by kernel_rfl))
  f46 := ⟨"slices.siftDownCmpFunc[roundtable/failure.step]", by kernel_rfl, Try.func105.trans (congrArg some (by kernel_rfl))⟩
  f47 := Try.func106.trans (congrArg some (by kernel_rfl))
  f48 := Try.func107.trans (congrArg some (by kernel_rfl))
  f49 := ⟨"slices.medianAdjacentCmpFunc[roundtable/failure.step]", by kernel_rfl, Try.func108.trans (congrArg some (by kernel_rfl))⟩
  f50 := ⟨"slices.medianCmpFunc[roundtable/failure.step]", by kernel_rfl, Try.func109.trans (congrArg some (by kernel_rfl))⟩
  f57 := ⟨"slices.order2CmpFunc[roundtable/failure.step]", by kernel_rfl, Try.func113.trans (congrArg some (by kernel_rfl))⟩
  t0 := Try.underlying0
  a0 := Try.isAgg0
  z0 := Try.sizeOf0
  v0 := Try.zeroValue0
  t3 := Try.underlying3
  a3 := Try.isAgg3
  z3 := Try.sizeOf3
  v3 := Try.zeroValue3
  t4 := Try.underlying4
  a4 := Try.isAgg4
  z4 := Try.sizeOf4
  v4 := Try.zeroValue4
  t5 := Try.underlying5
  a5 := Try.isAgg5
  z5 := Try.sizeOf5
  v5 := Try.zeroValue5
  t9 := Try.underlying9
  a9 := Try.isAgg9
  z9 := Try.sizeOf9
  v9 := Try.zeroValue9
  t22 := Try.underlying91
  a22 := Try.isAgg91
  z22 := Try.sizeOf91
  v22 := Try.zeroValue91
  t25 := Try.underlying94
  a25 := Try.isAgg94
  z25 := Try.sizeOf94
  v25 := Try.zeroValue94
  t39 := Try.underlying60
  a39 := Try.isAgg60
  z39 := Try.sizeOf60
  v39 := Try.zeroValue60
  t45 := Try.underlying116
  a45 := Try.isAgg116
  z45 := Try.sizeOf116
  v45 := Try.zeroValue116
  t46 := Try.underlying117
  a46 := Try.isAgg117
  z46 := Try.sizeOf117
  v46 := Try.zeroValue117
  t50 := Try.underlying82
  a50 := Try.isAgg82
  z50 := Try.sizeOf82
  v50 := Try.zeroValue82
  t53 := Try.underlying85
  a53 := Try.isAgg85
  z53 := Try.sizeOf85
  v53 := Try.zeroValue85
  t55 := Try.underlying87
  a55 := Try.isAgg87
  z55 := Try.sizeOf87
  v55 := Try.zeroValue87
  t66 := Try.underlying126
  a66 := Try.isAgg126
  z66 := Try.sizeOf126
  v66 := Try.zeroValue126
  t70 := Try.underlying130
  a70 := Try.isAgg130
  z70 := Try.sizeOf130
  v70 := Try.zeroValue130
  t76 := Try.underlying137
  a76 := Try.isAgg137
  z76 := Try.sizeOf137
  v76 := Try.zeroValue137
  t77 := Try.underlying138
  a77 := Try.isAgg138
  z77 := Try.sizeOf138
  v77 := Try.zeroValue138 }


end Go.Proofs.Ytnhgdjiljjpgmaa

namespace Go.Proofs.Ytnhgdjiljjpgmaa
open Go.RowKit Go.Sort Go.Proofs
attribute [local go_sem] Oper.semAt_some

theorem sw_grown {α : Type} [Inhabited α] (enc : α → Value) (w : World) (blk off m : Nat) (dk : Array α) (os : Array Obj) : w.grownBy (sortWorld enc w blk off m dk os) (some blk) := by
  refine ⟨rfl, rfl, rfl, ?_, fun k hk hne => ?_⟩
  · show w.heap.size ≤ ((w.heap.modify blk _) ++ os).size
    rw [Array.size_append, Array.size_modify]; omega
  · show ((w.heap.modify blk _) ++ os)[k]? = _
    rw [Array.getElem?_append_left (by rw [Array.size_modify]; exact hk), Array.getElem?_modify, if_neg (fun h => hne (by rw [h]))]
theorem sw_block {α : Type} [Inhabited α] (enc : α → Value) (w : World) (blk off m : Nat) (dk : Array α) (os : Array Obj) {cur : Array Value} {e : TypeId} {fr : Nat × Nat} (h : w.heap[blk]? = some (.cells cur e fr)) :
    (sortWorld enc w blk off m dk os).heap[blk]? = some (.cells (putCells enc off dk cur) e fr) := by
  show ((w.heap.modify blk _) ++ os)[blk]? = _
  rw [Array.getElem?_append_left (by rw [Array.size_modify]; exact lt_of_heap h), Array.getElem?_modify, if_pos rfl, h]; rfl
section
variable {α : Type} [Inhabited α] {enc : α → List Value} {k : Nat} {w : World} {base g n c : Nat} {e : TypeId} {l : List α}
omit [Inhabited α] in
theorem flat_len (hk : ∀ x, (enc x).length = k) : ∀ l : List α, (l.flatMap enc).length = l.length * k
  | [] => by simp
  | a :: l => by rw [List.flatMap_cons, List.length_append, hk, flat_len hk l, List.length_cons, Nat.succ_mul]; omega
omit [Inhabited α] in
theorem own_parts (h : Own enc k w base e (.slice (some ⟨g, 0, none⟩) n c) l) : ∃ cur, w.heap[g]? = some (.cells cur e (0, 0)) ∧ base ≤ g ∧ l.length = n ∧ n ≤ c ∧ c ≤ maxLen ∧ cur.size = c * k ∧ cur.toList.take (n * k) = l.flatMap enc := by
  obtain ⟨_, hl, h1 | ⟨g', cap, cur, h1, h2, h3, h4, h5, h6, h7⟩⟩ := h
  · exact absurd h1.1 (by intro k; cases k)
  injection h1 with h8 h9 h10
  injection h8 with h8
  injection h8 with h8
  subst h8
  subst h10
  rw [← h9] at h4 h7
  exact ⟨cur, h3, h2, h9.symm, h4, h5, h6, h7⟩
theorem holds_own (hk : ∀ x, (enc x).length = k) (k0 : 0 < k) (h : Own enc k w base e (.slice (some ⟨g, 0, none⟩) n c) l) : HoldsK enc k w g 0 l.toArray := by
  intro j hj
  have hj : j < l.length * k := by simpa using hj
  obtain ⟨cur, h3, h2, h9, h4, h5, h6, h7⟩ := own_parts h
  refine ⟨?_, frozen_of h3⟩
  rw [Nat.zero_add, cell_of_row _ _ _ _ _ _ h3, get_flatK enc k _ j (by simpa using hj)]
  have hi : j / k < l.length := Nat.div_lt_of_lt_mul (by rw [Nat.mul_comm]; exact hj)
  have hm : j % k < k := Nat.mod_lt _ k0
  have e1 : l.toArray[j / k]! = l[j / k] := by rw [getElem!_pos l.toArray _ (by simpa using hi), List.getElem_toArray]
  have e2 : (l.flatMap enc)[j / k * k + j % k]? = (enc l[j / k])[j % k]? := flat_get (enc := enc) (size := k) hk l (j / k) (j % k) l[j / k] (List.getElem?_eq_getElem hi) hm
  rw [Nat.div_add_mod' j k, ← h7, List.getElem?_take, if_pos (by rw [← h9]; exact hj)] at e2
  rw [e1, ← Array.getElem?_toList, e2, getElem!_def]
  have : j % k < (enc l[j / k]).length := by rw [hk]; exact hm
  rw [List.getElem?_eq_getElem this]
  rfl
theorem own_sorted (hk : ∀ x, (enc x).length = k) (k0 : 0 < k) (h : Own enc k w base e (.slice (some ⟨g, 0, none⟩) n c) l) (m : Nat) (d : Array α) (hd : d.size = n) (os : Array Obj) :
    Own enc k (sortWorldK enc k w g 0 m d os) base e (.slice (some ⟨g, 0, none⟩) n c) d.toList ∧ w.grownBy (sortWorldK enc k w g 0 m d os) (some g) := by
  obtain ⟨cur, h3, h2, h9, h4, h5, h6, h7⟩ := own_parts h
  have hb : (sortWorldK enc k w g 0 m d os).heap[g]? = _ := sw_block (α := Value) id w g 0 m (flatK enc k d) os h3
  refine ⟨⟨hk, by rw [flat_len hk], .inr ⟨g, c, _, by rw [Array.length_toList, hd], h2, hb, by rw [Array.length_toList]; omega, h5, by unfold putCells; rw [Array.size_mapIdx]; exact h6, ?_⟩⟩, sw_grown (α := Value) id w g 0 m (flatK enc k d) os⟩
  rw [Array.length_toList, hd]
  have hcn : n * k ≤ c * k := Nat.mul_le_mul_right k h4
  refine List.ext_getElem? fun j => ?_
  rw [List.getElem?_take]
  by_cases hj : j < n * k
  · have hi : j / k < d.toList.length := by rw [Array.length_toList, hd]; exact Nat.div_lt_of_lt_mul (by rw [Nat.mul_comm]; exact hj)
    have hm : j % k < k := Nat.mod_lt _ k0
    have e2 : (d.toList.flatMap enc)[j / k * k + j % k]? = (enc d.toList[j / k])[j % k]? := flat_get (enc := enc) (size := k) hk d.toList (j / k) (j % k) d.toList[j / k] (List.getElem?_eq_getElem hi) hm
    rw [Nat.div_add_mod' j k] at e2
    rw [if_pos hj, e2, Array.getElem?_toList]
    unfold putCells
    rw [Array.getElem?_mapIdx, Array.getElem?_eq_getElem (show j < cur.size by omega)]
    simp only [Option.map_some, Nat.zero_le, Nat.zero_add, Nat.sub_zero, true_and]
    rw [if_pos (by rw [size_flatK, hd]; exact hj), get_flatK enc k d j (by rw [hd]; exact hj), getElem!_pos d (j / k) (by simpa using hi)]
    rw [Array.getElem_toList]
    have hlt : j % k < (enc d[j / k]).length := by rw [hk]; exact hm
    rw [List.getElem?_eq_getElem hlt, getElem!_pos (enc d[j / k]) (j % k) hlt]; rfl
  · rw [if_neg hj, List.getElem?_eq_none]
    rw [flat_len hk, Array.length_toList, hd]; omega
end
def stpC (s : Stp17) : List Value := [.int .i64 s.1.g.n, .int .i64 s.1.g.h0, .int .i64 s.1.g.h1, .int .i64 s.1.g.h2, .int .i64 s.1.g.h3, .int .i64 s.1.g.h4, .int .i64 s.1.f, .int .i64 (s.2 : Nat)]
instance : Inhabited Stp17 := ⟨(⟨⟨0, 0, 0, 0, 0, 0⟩, 0⟩, 0)⟩
def cf17 (x y : Stp17) : Int := rcmp x.1 y.1
theorem cf17_swo : SWO (ltOf cf17) where
  irrefl x := by
    unfold ltOf cf17
    rw [rcmp_zero'.2 rfl]; rfl
  trans x y z h1 h2 := by
    unfold ltOf cf17 at *
    rw [decide_eq_true_iff] at *
    have := (rcmp_ord x.1 y.1 z.1).t (by omega) (by omega)
    omega
  ntrans x y z h1 h2 := by
    unfold ltOf cf17 at *
    rw [decide_eq_false_iff_not] at *
    have e1 := rcmp_anti x.1 y.1
    have e2 := rcmp_anti y.1 z.1
    have e3 := rcmp_anti x.1 z.1
    have := (rcmp_ord z.1 y.1 x.1).t (by omega) (by omega)
    omega
/-- slices.SortFunc on steps of which no two have one round. -/
theorem srtS_any (l : List Stp17) (g c : Nat) (w : World) (base : Nat) (ho : Own stpC 8 w base 71 (.slice (some ⟨g, 0, none⟩) l.length c) l) (hl : l.length ≤ 100000) (hk : ∀ x ∈ l, ∀ y ∈ l, x.1 = y.1 → x = y) :
    Calls Try.prog 58 #[.slice (some ⟨g, 0, none⟩) l.length c, .func (.func 59) #[] #[]] w fun e w' => e = .returned (.tuple #[]) ∧
      Own stpC 8 w' base 71 (.slice (some ⟨g, 0, none⟩) l.length c) (sortR l) ∧ w.grownBy w' (some g) := by
  obtain ⟨cur, p1, -⟩ := own_parts ho
  have h := AnyQ.slices_SortFunc srtSLays 8 Try.isAgg71 Try.sizeOf71 stpC (fun _ => rfl) (fun x u hu => by
      simp only [stpC, List.mem_cons, List.not_mem_nil, or_false] at hu
      rcases hu with rfl | rfl | rfl | rfl | rfl | rfl | rfl | rfl <;> rfl) cf17 cf17_swo 59 #[] g 0 c l.toArray w (fun _ _ => by kernel_rfl)
    (fun m os dk _ x y => (clos17_any ⟨x.1, (x.2 : Nat)⟩ ⟨y.1, (y.2 : Nat)⟩ _).mono fun e w' ⟨h1, h2⟩ => ⟨h1, h2⟩) (holds_own (k := 8) (fun _ => rfl) (by decide) ho) (lt_of_heap p1) (Nat.lt_of_le_of_lt (show l.toArray.size ≤ 100000 from hl) (by decide))
  rw [List.size_toArray] at h
  refine h.mono ?_
  rintro e w' ⟨he, d', m, os, hp, hs, rfl⟩
  obtain ⟨q1, -, q3⟩ := hp
  have hsz : d'.size = l.length := by rw [q1]; simp
  have e1 : (d'.extract 0 l.length).toList = d'.toList := by rw [← hsz]; simp
  have e2 : (l.toArray.extract 0 l.length).toList = l := by simp
  rw [e1, e2] at q3
  have hpw : d'.toList.Pairwise Le17 := by
    refine List.pairwise_iff_getElem.2 fun i j hi hj hij => ?_
    have hi' : i < d'.size := by simpa using hi
    have hj' : j < d'.size := by simpa using hj
    have h2 := hs i j (Nat.zero_le _) hij (by rw [← hsz]; exact hj')
    unfold ltOf cf17 at h2
    rw [decide_eq_false_iff_not, getElem!_pos d' i hi', getElem!_pos d' j hj'] at h2
    rw [Array.getElem_toList, Array.getElem_toList]
    unfold Le17
    have := rcmp_anti d'[i].1 d'[j].1
    omega
  have heq : d'.toList = sortR l := perm_sorted (q3.trans (sortR_perm l).symm) hpw (sortR_pw l) fun x hx y hy => hk x (q3.mem_iff.1 hx) y (q3.mem_iff.1 hy)
  obtain ⟨r1, r2⟩ := own_sorted (k := 8) (fun _ => rfl) (by decide) ho m d' hsz os
  exact ⟨he, heq ▸ r1, r2⟩
end Go.Proofs.Ytnhgdjiljjpgmaa
