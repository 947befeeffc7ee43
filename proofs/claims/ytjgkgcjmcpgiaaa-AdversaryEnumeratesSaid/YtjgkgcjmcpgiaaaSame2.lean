/-
  Contracts of the comparisons of lists of words, and of adversaries (roundtableref16).
  Conditions: none.
-/
import Derived.Test.YtjgkgcjmcpgiaaaSame
namespace Go.Proofs.Ytjgkgcjmcpgiaaa
open Go.RowKit

set_option maxHeartbeats 1000000 in
theorem rsamewords_any (a b : List (List Rd)) (u v : Value) (w : World) (ha : Rows2 Rd.cells 7 w u a) (hb : Rows2 Rd.cells 7 w v b) :
    Calls Try.prog 22 #[u, v] w fun e w' => e = .returned (.bool (decide (a = b))) ∧ Ext w w' := by
  obtain ⟨p, c, rfl, hc, hl, hat⟩ := ha.sl_all
  obtain ⟨q, d, rfl, hd, hm, hat2⟩ := hb.sl_all
  have HA := hide hat
  have HB := hide hat2
  clear ha hb hat hat2
  by_cases hlen : a.length = b.length
  · have H1 := hide (fun i => list_ne_at (a := a) (b := b) (i := i) (d := []))
    have H2 := hide (list_eq_of (a := a) (b := b) (d := []) hlen)
    have hlen' := hlen.symm
    clear hlen
    generalize decide (a = b) = res at H1 H2 ⊢
    generalize b.length = lb at *
    generalize a.length = la at *
    subst hlen'
    generalize hfa : a.getD = fa at *
    generalize hfb : b.getD = fb at *
    clear hfa hfb
    go_enter Try.func22, Try.ntmps22
    go_wp2_with fail
    go_loopw [5] (fun x wr => ∃ i : Nat, i ≤ lb ∧ x = .int .i64 i ∧ (∀ j, j < i → fa j [] = fb j []) ∧ Ext w wr) (fun x _ => lb - (intOf x).toNat)
    case atStart => exact ⟨0, by omega, rfl, fun j hj => by omega, Ext.refl _⟩
    case round =>
      obtain ⟨i, hi, rfl, hj, hE⟩ := hrel
      have HJ := hide hj
      clear hj
      by_cases hlt : i < lb
      · obtain ⟨b1, o1, rfl, hb1, hat⟩ := HA.out (by omega)
        obtain ⟨b2, o2, rfl, hb2, hat2⟩ := HB.out (by omega)
        obtain ⟨q1, d1, hx, hrx, _⟩ := hat i hlt
        obtain ⟨q2, d2, hy, hry, _⟩ := hat2 i hlt
        clear hat hat2
        have HF := hide (H1.out i)
        have HN : Hid (fa i [] = fb i [] → ∀ j, j < i + 1 → fa j [] = fb j []) := fun h j hj => by
          by_cases e : j = i
          · subst e; exact h
          · exact HJ.out j (by omega)
        have HC := hide (fun W (hE : Ext w W) => rsame_rd _ _ _ _ W (hrx.ext hE) (hry.ext hE))
        clear hrx hry
        generalize fa i [] = m at hx HF HN HC
        generalize fb i [] = m' at hy HF HN HC
        have HQ : Hid (decide (m = m') = true ↔ m = m') := decide_eq_true_iff
        generalize decide (m = m') = g at HC HQ
        go_wp2_with fail
        refine wp_region_ext (by kernel_rfl) (by kernel_rfl) ?_
        repeat (go_big_quiet_step ((go_at_call 53; exact Calls.ext_of (HC.out _ (by simp [go_sem, hE])))))
        refine wpQuiet_nil ?_
        rintro w9 ⟨⟨_, hE9⟩, rfl⟩
        cases g
        · have HR := hide (HF.out hlt (fun h => by have := HQ.out.2 h; cases this))
          go_wp2
          go_ret
          exact ⟨ret_bool HR.out.symm, hE.trans hE9⟩
        · have HR := hide (HN.out (HQ.out.1 rfl))
          go_wp2
          go_roundw
          case rel => exact ⟨i + 1, by omega, by go_num, HR.out, hE.trans hE9⟩
          case measure => simp [intOf]; omega
      · obtain rfl : i = lb := by omega
        have HR := hide (H2.out HJ.out)
        go_wp2_with fail
        go_ret
        exact ⟨ret_bool HR.out.symm, hE⟩
  · have hne : decide (a = b) = false := decide_eq_false (fun h => hlen (by rw [h]))
    rw [hne]
    have hb : ((a.length : Int) != (b.length : Int)) = true := by simp; omega
    clear hlen hne
    go_enter Try.func22, Try.ntmps22
    go_wp2_with fail
    go_ret
    exact ⟨rfl, Ext.refl _⟩
set_option maxHeartbeats 1000000 in
theorem rsame_ints (a b : List Int) (u v : Value) (w : World) (ha : Row icells 1 w u a) (hb : Row icells 1 w v b) :
    Calls Try.prog 29 #[u, v] w fun e w' => e = .returned (.bool (decide (a = b))) ∧ Ext w w' := by
  obtain ⟨p, c, rfl, hc, hl, hat⟩ := ha.int_all
  obtain ⟨q, d, rfl, hd, hm, hat2⟩ := hb.int_all
  have HA := hide hat
  have HB := hide hat2
  clear ha hb hat hat2
  by_cases hlen : a.length = b.length
  · have H1 := hide (fun i => list_ne_at (a := a) (b := b) (i := i) (d := 0))
    have H2 := hide (list_eq_of (a := a) (b := b) (d := 0) hlen)
    have hlen' := hlen.symm
    clear hlen
    generalize decide (a = b) = res at H1 H2 ⊢
    generalize b.length = lb at *
    generalize a.length = la at *
    subst hlen'
    generalize hfa : a.getD = fa at *
    generalize hfb : b.getD = fb at *
    clear hfa hfb
    go_enter Try.func29, Try.ntmps29
    go_wp2_with fail
    go_loopw [5] (fun x wr => ∃ i : Nat, i ≤ lb ∧ x = .int .i64 i ∧ (∀ j, j < i → fa j 0 = fb j 0) ∧ Ext w wr) (fun x _ => lb - (intOf x).toNat)
    case atStart => exact ⟨0, by omega, rfl, fun j hj => by omega, Ext.refl _⟩
    case round =>
      obtain ⟨i, hi, rfl, hj, hE⟩ := hrel
      have HJ := hide hj
      clear hj
      by_cases hlt : i < lb
      · obtain ⟨b1, o1, rfl, hb1, hat⟩ := HA.out (by omega)
        obtain ⟨b2, o2, rfl, hb2, hat2⟩ := HB.out (by omega)
        have hx := hat i hlt
        have hy := hat2 i hlt
        clear hat hat2
        have HF := hide (H1.out i)
        have HN : Hid (fa i 0 = fb i 0 → ∀ j, j < i + 1 → fa j 0 = fb j 0) := fun h j hj => by
          by_cases e : j = i
          · subst e; exact h
          · exact HJ.out j (by omega)
        generalize fa i 0 = m at hx HF HN
        generalize fb i 0 = m' at hy HF HN
        go_wp2_with fail
        refine wp_region_ext (by kernel_rfl) (by kernel_rfl) ?_
        repeat (go_big_quiet_step (fail))
        refine wpQuiet_nil ?_
        rintro w9 ⟨⟨_, hE9⟩, rfl⟩
        by_cases hq : m = m'
        · have hb : (m != m') = false := by simp [hq]
          have HR := hide (HN.out hq)
          clear hq hx hy
          go_wp2
          go_roundw
          case rel => exact ⟨i + 1, by omega, by go_num, HR.out, hE.trans hE9⟩
          case measure => simp [intOf]; omega
        · have hb : (m != m') = true := by simp [hq]
          have HR := hide (HF.out hlt hq)
          clear hq hx hy
          go_wp2
          go_ret
          exact ⟨ret_bool HR.out.symm, hE.trans hE9⟩
      · obtain rfl : i = lb := by omega
        have HR := hide (H2.out HJ.out)
        go_wp2_with fail
        go_ret
        exact ⟨ret_bool HR.out.symm, hE⟩
  · have hne : decide (a = b) = false := decide_eq_false (fun h => hlen (by rw [h]))
    rw [hne]
    have hb : ((a.length : Int) != (b.length : Int)) = true := by simp; omega
    clear hlen hne
    go_enter Try.func29, Try.ntmps29
    go_wp2_with fail
    go_ret
    exact ⟨rfl, Ext.refl _⟩
set_option maxHeartbeats 1000000 in
theorem sequal_ints (a b : List Int) (u v : Value) (w : World) (ha : Row icells 1 w u a) (hb : Row icells 1 w v b) :
    Calls Try.prog 44 #[u, v] w fun e w' => e = .returned (.bool (decide (a = b))) ∧ Ext w w' := by
  obtain ⟨p, c, rfl, hc, hl, hat⟩ := ha.int_all
  obtain ⟨q, d, rfl, hd, hm, hat2⟩ := hb.int_all
  have HA := hide hat
  have HB := hide hat2
  clear ha hb hat hat2
  by_cases hlen : a.length = b.length
  · have H1 := hide (fun i => list_ne_at (a := a) (b := b) (i := i) (d := 0))
    have H2 := hide (list_eq_of (a := a) (b := b) (d := 0) hlen)
    have hlen' := hlen.symm
    clear hlen
    generalize decide (a = b) = res at H1 H2 ⊢
    generalize b.length = lb at *
    generalize a.length = la at *
    subst hlen'
    generalize hfa : a.getD = fa at *
    generalize hfb : b.getD = fb at *
    clear hfa hfb
    go_enter Try.func44, Try.ntmps44
    go_wp2_with fail
    go_loopw [13, 5] (fun x _ wr => ∃ i : Nat, i ≤ lb ∧ x = .int .i64 i ∧ (∀ j, j < i → fa j 0 = fb j 0) ∧ Ext w wr) (fun x _ _ => lb - (intOf x).toNat)
    case atStart => exact ⟨0, by omega, rfl, fun j hj => by omega, Ext.refl _⟩
    case round =>
      obtain ⟨i, hi, rfl, hj, hE⟩ := hrel
      have HJ := hide hj
      clear hj
      by_cases hlt : i < lb
      · obtain ⟨b1, o1, rfl, hb1, hat⟩ := HA.out (by omega)
        obtain ⟨b2, o2, rfl, hb2, hat2⟩ := HB.out (by omega)
        have hx := hat i hlt
        have hy := hat2 i hlt
        clear hat hat2
        have HF := hide (H1.out i)
        have HN : Hid (fa i 0 = fb i 0 → ∀ j, j < i + 1 → fa j 0 = fb j 0) := fun h j hj => by
          by_cases e : j = i
          · subst e; exact h
          · exact HJ.out j (by omega)
        generalize fa i 0 = m at hx HF HN
        generalize fb i 0 = m' at hy HF HN
        go_wp2_with fail
        refine wp_region_ext (by kernel_rfl) (by kernel_rfl) ?_
        repeat (go_big_quiet_step (fail))
        refine wpQuiet_nil ?_
        rintro w9 ⟨⟨_, hE9⟩, rfl⟩
        by_cases hq : m = m'
        · have hb : (m != m') = false := by simp [hq]
          have HR := hide (HN.out hq)
          clear hq hx hy
          go_wp2
          go_roundw
          case rel => exact ⟨i + 1, by omega, by go_num, HR.out, hE.trans hE9⟩
          case measure => simp [intOf]; omega
        · have hb : (m != m') = true := by simp [hq]
          have HR := hide (HF.out hlt hq)
          clear hq hx hy
          go_wp2
          go_ret
          exact ⟨ret_bool HR.out.symm, hE.trans hE9⟩
      · obtain rfl : i = lb := by omega
        have HR := hide (H2.out HJ.out)
        go_wp2_with fail
        go_ret
        exact ⟨ret_bool HR.out.symm, hE⟩
  · have hne : decide (a = b) = false := decide_eq_false (fun h => hlen (by rw [h]))
    rw [hne]
    have hb : ((a.length : Int) != (b.length : Int)) = true := by simp; omega
    clear hlen hne
    go_enter Try.func44, Try.ntmps44
    go_wp2_with fail
    go_ret
    exact ⟨rfl, Ext.refl _⟩

/-- Equal adversaries. -/
def advEq (A B : Adv) : Bool := decide (A.n = B.n ∧ A.st = B.st)
theorem advEq_n {A B : Adv} (h : A.n ≠ B.n) : advEq A B = false := decide_eq_false (fun h' => h h'.1)
theorem advEq_L {A B : Adv} (h : A.L ≠ B.L) : advEq A B = false := decide_eq_false (fun h' => h (by unfold Adv.L; rw [h'.2]))
theorem advEq_len {A B : Adv} {s : Nat} (h : A.len s ≠ B.len s) : advEq A B = false := decide_eq_false (fun h' => h (by unfold Adv.len; rw [h'.2]))
theorem advEq_mv {A B : Adv} {s i : Nat} (h : A.mv s i ≠ B.mv s i) : advEq A B = false := decide_eq_false (fun h' => h (by unfold Adv.mv; rw [h'.2]))
theorem getElem_getD' {α : Type} {l : List α} {i : Nat} {d : α} (h : i < l.length) : l.getD i d = l[i] := by rw [List.getD_eq_getElem?_getD, List.getElem?_eq_getElem h]; rfl
theorem advEq_true {A B : Adv} (hn : A.n = B.n) (hL : A.L = B.L) (h : ∀ s, s < A.L → A.len s = B.len s ∧ ∀ i, i < A.len s → A.mv s i = B.mv s i) : advEq A B = true := by
  refine decide_eq_true ⟨hn, ?_⟩
  apply List.ext_getElem hL
  intro s h1 h2
  obtain ⟨h3, h4⟩ := h s h1
  unfold Adv.len at h3 h4
  unfold Adv.mv at h4
  rw [getElem_getD' h1] at h3 h4
  rw [getElem_getD' h2] at h3 h4
  apply List.ext_getElem h3
  intro i h5 h6
  have := h4 i h5
  rw [getElem_getD' h5, getElem_getD' h6] at this
  exact this

set_option maxHeartbeats 2000000 in
theorem rsame_adv (A B : Adv) (u v : Value) (w : World) (hA : AdvRep w u A) (hB : AdvRep w v B) :
    Calls Try.prog 30 #[u, v] w fun e w' => e = .returned (.bool (advEq A B)) ∧ Ext w w' := by
  obtain ⟨p, c, rfl, hc, hl, hat⟩ := hA.all_
  obtain ⟨q, d, rfl, hd, hm, hat2⟩ := hB.all_
  clear hA hB
  have HAT := hide hat
  have HBT := hide hat2
  clear hat hat2
  by_cases hn : A.n = B.n
  · by_cases hL : A.L = B.L
    · have H1 := hide (fun s => advEq_len (A := A) (B := B) (s := s))
      have H2 := hide (fun s i => advEq_mv (A := A) (B := B) (s := s) (i := i))
      have H3 := hide (advEq_true hn hL)
      generalize advEq A B = res at H1 H2 H3 ⊢
      generalize A.n = N at *
      generalize B.n = N' at *
      generalize A.L = L at *
      generalize B.L = L' at *
      subst hn hL
      go_enter Try.func30, Try.ntmps30
      go_wp2_with fail
      have hE1 : Ext w ((w.alloc (.cells #[.int .i64 N, .slice p L c] 24)).alloc (.cells #[.int .i64 N, .slice q L d] 24)) := ((Ext.refl w).alloc _).alloc _
      have hb1 : ∀ W, Ext ((w.alloc (.cells #[.int .i64 N, .slice p L c] 24)).alloc (.cells #[.int .i64 N, .slice q L d] 24)) W → W.cell? ⟨w.heap.size, 1, none⟩ = some (.slice p L c) ∧ W.cell? ⟨w.heap.size + 1, 1, none⟩ = some (.slice q L d) := fun W h => by
        constructor
        · rw [h.cell (by simp; omega), World.cell?_alloc_lt _ _ _ (by simp), cell_new]; rfl
        · rw [h.cell (by simp)]
          have := cell_new (w.alloc (.cells #[.int .i64 N, .slice p L c] 24)) #[.int .i64 N, .slice q L d] 24 1
          rw [World.size_alloc] at this
          exact this
      have HB1 := hide hb1
      clear hb1
      have hz0 : w.heap.size + 1 < ((w.alloc (.cells #[.int .i64 N, .slice p L c] 24)).alloc (.cells #[.int .i64 N, .slice q L d] 24)).heap.size := by simp
      generalize (w.alloc (.cells #[.int .i64 N, .slice p L c] 24)).alloc (.cells #[.int .i64 N, .slice q L d] 24) = w1 at hE1 HB1 hz0 ⊢
      go_loopw [5, 6] (fun x _ wr => ∃ s : Nat, s ≤ L ∧ x = .int .i64 s ∧ (∀ s', s' < s → A.len s' = B.len s' ∧ ∀ i, i < A.len s' → A.mv s' i = B.mv s' i) ∧ Ext w1 wr) (fun x _ _ => L - (intOf x).toNat)
      case atStart => exact ⟨0, by omega, rfl, fun s' hs' => by omega, Ext.refl _⟩
      case round =>
        obtain ⟨s, hs, rfl, hj, hE⟩ := hrel
        have HJ := hide hj
        clear hj
        obtain ⟨hr1, hr2⟩ := HB1.out wr hE
        have hEr := hE1.trans hE
        have hz1 : w.heap.size < wr.heap.size := by have := hE.size; omega
        have hz2 : w.heap.size + 1 < wr.heap.size := by have := hE.size; omega
        by_cases hlt : s < L
        · obtain ⟨b, o, rfl, hb, hat⟩ := HAT.out (by omega)
          obtain ⟨b', o', rfl, hb', hat2⟩ := HBT.out (by omega)
          obtain ⟨q1, d1, hx, hld, hml, _, hmv⟩ := hat s hlt
          obtain ⟨q2, d2, hy, hld2, hml2, _, hmv2⟩ := hat2 s hlt
          have HM1 := hide hmv
          have HM2 := hide hmv2
          clear hat hat2 hmv hmv2
          by_cases hlen : A.len s = B.len s
          · have HN : Hid ((∀ i, i < A.len s → A.mv s i = B.mv s i) → ∀ s', s' < s + 1 → A.len s' = B.len s' ∧ ∀ i, i < A.len s' → A.mv s' i = B.mv s' i) := fun h s' hs' => by
              by_cases e : s' = s
              · subst e; exact ⟨hlen, h⟩
              · exact HJ.out s' (by omega)
            have HF := hide (fun i => H2.out s i)
            clear H1 H2
            generalize A.mv s = f1 at *
            generalize B.mv s = f2 at *
            generalize A.len s = l1 at *
            generalize B.len s = l2 at *
            subst hlen
            go_wp2_with fail
            refine wp_region_ext (by kernel_rfl) (by kernel_rfl) ?_
            repeat (go_big_quiet_step (fail))
            refine wpQuiet_nil ?_
            rintro w9 ⟨⟨_, hE9⟩, rfl⟩
            have hE8 := hE.trans hE9
            clear hr1 hr2 hE9 hE hz1 hz2
            go_wp2_with fail
            go_loopw [6] (fun x wr => ∃ i : Nat, i ≤ l1 ∧ x = .int .i64 i ∧ (∀ i', i' < i → f1 i' = f2 i') ∧ Ext w1 wr) (fun x _ => l1 - (intOf x).toNat)
            case atStart => exact ⟨0, by omega, rfl, fun s' hs' => by omega, hE8⟩
            case round =>
              obtain ⟨i, hi, rfl, hj, hE⟩ := hrel
              have HJ2 := hide hj
              clear hj
              obtain ⟨hr1, hr2⟩ := HB1.out wr hE
              have hEr := hE1.trans hE
              have hz1 : w.heap.size < wr.heap.size := by have := hE.size; omega
              have hz2 : w.heap.size + 1 < wr.heap.size := by have := hE.size; omega
              by_cases hlt2 : i < l1
              · obtain ⟨b3, o3, rfl, hb3, hat⟩ := HM1.out (by omega)
                obtain ⟨b4, o4, rfl, hb4, hat2⟩ := HM2.out (by omega)
                obtain ⟨x0, x1, x2, x3, x4, x5, x6, x7⟩ := hat i hlt2
                obtain ⟨y0, y1, y2, y3, y4, y5, y6, y7⟩ := hat2 i hlt2
                clear hat hat2
                have HF2 := hide (HF.out i)
                have HN2 : Hid (f1 i = f2 i → ∀ i', i' < i + 1 → f1 i' = f2 i') := fun h j hj => by
                  by_cases e : j = i
                  · subst e; exact h
                  · exact HJ2.out j (by omega)
                generalize f1 i = m at x0 x1 x2 x3 x4 x5 x6 x7 HF2 HN2
                generalize f2 i = m' at y0 y1 y2 y3 y4 y5 y6 y7 HF2 HN2
                have hq : meq m m' = true ↔ m = m' := meq_iff
                have HQ := hide hq
                clear hq
                obtain ⟨⟨⟨n, a0, b0, c0, d0, e0⟩, f⟩, t⟩ := m
                obtain ⟨⟨⟨n', a0', b0', c0', d0', e0'⟩, f'⟩, t'⟩ := m'
                have heq := neq_move n a0 b0 c0 d0 e0 f t n' a0' b0' c0' d0' e0' f' t'
                dsimp only at x0 x1 x2 x3 x4 x5 x6 x7 y0 y1 y2 y3 y4 y5 y6 y7
                generalize meq ⟨⟨⟨n, a0, b0, c0, d0, e0⟩, f⟩, t⟩ ⟨⟨⟨n', a0', b0', c0', d0', e0'⟩, f'⟩, t'⟩ = g at heq HQ
                go_wp2_with fail
                refine wp_region_ext (by kernel_rfl) (by kernel_rfl) ?_
                repeat (go_big_quiet_step (fail))
                refine wpQuiet_nil ?_
                rintro w9 ⟨⟨_, hE9⟩, rfl⟩
                clear heq
                cases g
                · have HR := hide (HF2.out (fun h => by have := HQ.out.2 h; cases this))
                  go_wp2
                  go_ret
                  exact ⟨ret_bool HR.out.symm, hEr.trans hE9⟩
                · have HR := hide (HN2.out (HQ.out.1 rfl))
                  go_wp2
                  go_roundw
                  case rel => exact ⟨i + 1, by omega, by go_num, HR.out, hE.trans hE9⟩
                  case measure => simp [intOf]; omega
              · obtain rfl : i = l1 := by omega
                have HR := hide (HN.out HJ2.out)
                go_wp2_with fail
                go_roundw
                case rel => exact ⟨s + 1, by omega, by go_num, HR.out, hE⟩
                case measure => simp [intOf]; omega
          · have HR := hide (H1.out s hlen)
            have hb9 : ((A.len s : Int) != (B.len s : Int)) = true := by simp; omega
            clear hlen
            go_wp2_with fail
            refine wp_region_ext (by kernel_rfl) (by kernel_rfl) ?_
            repeat (go_big_quiet_step (fail))
            refine wpQuiet_nil ?_
            rintro w9 ⟨⟨_, hE9⟩, rfl⟩
            go_wp2
            go_ret
            exact ⟨ret_bool HR.out.symm, hEr.trans hE9⟩
        · obtain rfl : s = L := by omega
          have HR := hide (H3.out HJ.out)
          go_wp2_with fail
          go_ret
          exact ⟨ret_bool HR.out.symm, hEr⟩
    · rw [advEq_L hL]
      have hb : ((A.L : Int) != (B.L : Int)) = true := by simp; omega
      have hb2 : (A.n != B.n) = false := by simp [hn]
      clear hL hn
      go_enter Try.func30, Try.ntmps30
      go_wp2_with fail
      go_ret
      exact ⟨rfl, ((Ext.refl _).alloc _).alloc _⟩
  · rw [advEq_n hn]
    have hb : (A.n != B.n) = true := by simp [hn]
    clear hn
    go_enter Try.func30, Try.ntmps30
    go_wp2_with fail
    go_ret
    exact ⟨rfl, ((Ext.refl _).alloc _).alloc _⟩
end Go.Proofs.Ytjgkgcjmcpgiaaa
