/-
  Contracts of the comparisons of lists of words, and of adversaries (roundtableref16).
  Conditions: none.
-/
import Derived.Test.YtdlhnpogddpmpaaGreatAdvRef3
import Derived.Test.YtdlhnpogddpmpaaGreatSameR
namespace Go.Proofs.YtdlhnpogddpmpaaGreat
open Go.RowKit

end Go.Proofs.YtdlhnpogddpmpaaGreat

namespace Go.Proofs.YtdlhnpogddpmpaaGreat
open Go.RowKit


/-- Equal adversaries. -/
def advEq (A B : Adv) : Bool := decide (A.n = B.n ∧ A.st = B.st)
theorem advEq_n {A B : Adv} (h : A.n ≠ B.n) : advEq A B = false := decide_eq_false (fun h' => h h'.1)
theorem advEq_L {A B : Adv} (h : A.L ≠ B.L) : advEq A B = false := decide_eq_false (fun h' => h (by unfold Adv.L; rw [h'.2]))
theorem advEq_len {A B : Adv} {s : Nat} (h : A.len s ≠ B.len s) : advEq A B = false := decide_eq_false (fun h' => h (by unfold Adv.len; rw [h'.2]))
theorem advEq_mv {A B : Adv} {s i : Nat} (h : A.mv s i ≠ B.mv s i) : advEq A B = false := decide_eq_false (fun h' => h (by unfold Adv.mv; rw [h'.2]))
theorem getElem_getD' {α : Type} {l : List α} {i : Nat} {d : α} (h : i < l.length) : l.getD i d = l[i] := by rw [List.getD_eq_getElem?_getD, List.getElem?_eq_getElem h]; rfl
theorem advEq_true {A B : Adv} (hn : A.n = B.n) (hL : A.L = B.L) (h : ∀ s, s < A.L → A.len s = B.len s ∧ ∀ i, i < A.len s → A.mv s i = B.mv s i) : advEq A B = true := by
  refine decide_eq_true ⟨hn, ?_⟩
  apply List.ext_getElem hL
  intro s h1 h2
  obtain ⟨h3, h4⟩ := h s h1
  unfold Adv.len at h3 h4
  unfold Adv.mv at h4
  rw [getElem_getD' h1] at h3 h4
  rw [getElem_getD' h2] at h3 h4
  apply List.ext_getElem h3
  intro i h5 h6
  have := h4 i h5
  rw [getElem_getD' h5, getElem_getD' h6] at this
  exact this

set_option maxHeartbeats 2000000 in
theorem rsame_adv (A B : Adv) (u v : Value) (w : World) (hA : AdvRep w u A) (hB : AdvRep w v B) :
    Calls Tryz.prog 13 #[u, v] w fun e w' => e = .returned (.bool (advEq A B)) ∧ Ext w w' := by
  obtain ⟨p, c, rfl, hc, hl, hat⟩ := hA.all_
  obtain ⟨q, d, rfl, hd, hm, hat2⟩ := hB.all_
  clear hA hB
  have HAT := hide hat
  have HBT := hide hat2
  clear hat hat2
  by_cases hn : A.n = B.n
  · by_cases hL : A.L = B.L
    · have H1 := hide (fun s => advEq_len (A := A) (B := B) (s := s))
      have H2 := hide (fun s i => advEq_mv (A := A) (B := B) (s := s) (i := i))
      have H3 := hide (advEq_true hn hL)
      generalize advEq A B = res at H1 H2 H3 ⊢
      generalize A.n = N at *
      generalize B.n = N' at *
      generalize A.L = L at *
      generalize B.L = L' at *
      subst hn hL
      go_enter Tryz.func13, Tryz.ntmps13
      go_wp2_with fail
      have hE1 : Ext w ((w.alloc (.cells #[.int .i64 N, .slice p L c] 26)).alloc (.cells #[.int .i64 N, .slice q L d] 26)) := ((Ext.refl w).alloc _).alloc _
      have hb1 : ∀ W, Ext ((w.alloc (.cells #[.int .i64 N, .slice p L c] 26)).alloc (.cells #[.int .i64 N, .slice q L d] 26)) W → W.cell? ⟨w.heap.size, 1, none⟩ = some (.slice p L c) ∧ W.cell? ⟨w.heap.size + 1, 1, none⟩ = some (.slice q L d) := fun W h => by
        constructor
        · rw [h.cell (by simp; omega), World.cell?_alloc_lt _ _ _ (by simp), cell_new]; rfl
        · rw [h.cell (by simp)]
          have := cell_new (w.alloc (.cells #[.int .i64 N, .slice p L c] 26)) #[.int .i64 N, .slice q L d] 26 1
          rw [World.size_alloc] at this
          exact this
      have HB1 := hide hb1
      clear hb1
      have hz0 : w.heap.size + 1 < ((w.alloc (.cells #[.int .i64 N, .slice p L c] 26)).alloc (.cells #[.int .i64 N, .slice q L d] 26)).heap.size := by simp
      generalize (w.alloc (.cells #[.int .i64 N, .slice p L c] 26)).alloc (.cells #[.int .i64 N, .slice q L d] 26) = w1 at hE1 HB1 hz0 ⊢
      go_loopw [5, 6] (fun x _ wr => ∃ s : Nat, s ≤ L ∧ x = .int .i64 s ∧ (∀ s', s' < s → A.len s' = B.len s' ∧ ∀ i, i < A.len s' → A.mv s' i = B.mv s' i) ∧ Ext w1 wr) (fun x _ _ => L - (intOf x).toNat)
      case atStart => exact ⟨0, by omega, rfl, fun s' hs' => by omega, Ext.refl _⟩
      case round =>
        obtain ⟨s, hs, rfl, hj, hE⟩ := hrel
        have HJ := hide hj
        clear hj
        obtain ⟨hr1, hr2⟩ := HB1.out wr hE
        have hEr := hE1.trans hE
        have hz1 : w.heap.size < wr.heap.size := by have := hE.size; omega
        have hz2 : w.heap.size + 1 < wr.heap.size := by have := hE.size; omega
        by_cases hlt : s < L
        · obtain ⟨b, o, rfl, hb, hat⟩ := HAT.out (by omega)
          obtain ⟨b', o', rfl, hb', hat2⟩ := HBT.out (by omega)
          obtain ⟨q1, d1, hx, hld, hml, _, hmv⟩ := hat s hlt
          obtain ⟨q2, d2, hy, hld2, hml2, _, hmv2⟩ := hat2 s hlt
          have HM1 := hide hmv
          have HM2 := hide hmv2
          clear hat hat2 hmv hmv2
          by_cases hlen : A.len s = B.len s
          · have HN : Hid ((∀ i, i < A.len s → A.mv s i = B.mv s i) → ∀ s', s' < s + 1 → A.len s' = B.len s' ∧ ∀ i, i < A.len s' → A.mv s' i = B.mv s' i) := fun h s' hs' => by
              by_cases e : s' = s
              · subst e; exact ⟨hlen, h⟩
              · exact HJ.out s' (by omega)
            have HF := hide (fun i => H2.out s i)
            clear H1 H2
            generalize A.mv s = f1 at *
            generalize B.mv s = f2 at *
            generalize A.len s = l1 at *
            generalize B.len s = l2 at *
            subst hlen
            go_wp2_with fail
            refine wp_region_ext (by kernel_rfl) (by kernel_rfl) ?_
            repeat (go_big_quiet_step (fail))
            refine wpQuiet_nil ?_
            rintro w9 ⟨⟨_, hE9⟩, rfl⟩
            have hE8 := hE.trans hE9
            clear hr1 hr2 hE9 hE hz1 hz2
            go_wp2_with fail
            go_loopw [6] (fun x wr => ∃ i : Nat, i ≤ l1 ∧ x = .int .i64 i ∧ (∀ i', i' < i → f1 i' = f2 i') ∧ Ext w1 wr) (fun x _ => l1 - (intOf x).toNat)
            case atStart => exact ⟨0, by omega, rfl, fun s' hs' => by omega, hE8⟩
            case round =>
              obtain ⟨i, hi, rfl, hj, hE⟩ := hrel
              have HJ2 := hide hj
              clear hj
              obtain ⟨hr1, hr2⟩ := HB1.out wr hE
              have hEr := hE1.trans hE
              have hz1 : w.heap.size < wr.heap.size := by have := hE.size; omega
              have hz2 : w.heap.size + 1 < wr.heap.size := by have := hE.size; omega
              by_cases hlt2 : i < l1
              · obtain ⟨b3, o3, rfl, hb3, hat⟩ := HM1.out (by omega)
                obtain ⟨b4, o4, rfl, hb4, hat2⟩ := HM2.out (by omega)
                obtain ⟨x0, x1, x2, x3, x4, x5, x6, x7⟩ := hat i hlt2
                obtain ⟨y0, y1, y2, y3, y4, y5, y6, y7⟩ := hat2 i hlt2
                clear hat hat2
                have HF2 := hide (HF.out i)
                have HN2 : Hid (f1 i = f2 i → ∀ i', i' < i + 1 → f1 i' = f2 i') := fun h j hj => by
                  by_cases e : j = i
                  · subst e; exact h
                  · exact HJ2.out j (by omega)
                generalize f1 i = m at x0 x1 x2 x3 x4 x5 x6 x7 HF2 HN2
                generalize f2 i = m' at y0 y1 y2 y3 y4 y5 y6 y7 HF2 HN2
                have hq : meq m m' = true ↔ m = m' := meq_iff
                have HQ := hide hq
                clear hq
                obtain ⟨⟨⟨n, a0, b0, c0, d0, e0⟩, f⟩, t⟩ := m
                obtain ⟨⟨⟨n', a0', b0', c0', d0', e0'⟩, f'⟩, t'⟩ := m'
                have heq := neq_move n a0 b0 c0 d0 e0 f t n' a0' b0' c0' d0' e0' f' t'
                dsimp only at x0 x1 x2 x3 x4 x5 x6 x7 y0 y1 y2 y3 y4 y5 y6 y7
                generalize meq ⟨⟨⟨n, a0, b0, c0, d0, e0⟩, f⟩, t⟩ ⟨⟨⟨n', a0', b0', c0', d0', e0'⟩, f'⟩, t'⟩ = g at heq HQ
                go_wp2_with fail
                refine wp_region_ext (by kernel_rfl) (by kernel_rfl) ?_
                repeat (go_big_quiet_step (fail))
                refine wpQuiet_nil ?_
                rintro w9 ⟨⟨_, hE9⟩, rfl⟩
                clear heq
                cases g
                · have HR := hide (HF2.out (fun h => by have := HQ.out.2 h; cases this))
                  go_wp2
                  go_ret
                  exact ⟨ret_bool HR.out.symm, hEr.trans hE9⟩
                · have HR := hide (HN2.out (HQ.out.1 rfl))
                  go_wp2
                  go_roundw
                  case rel => exact ⟨i + 1, by omega, by go_num, HR.out, hE.trans hE9⟩
                  case measure => simp [intOf]; omega
              · obtain rfl : i = l1 := by omega
                have HR := hide (HN.out HJ2.out)
                go_wp2_with fail
                go_roundw
                case rel => exact ⟨s + 1, by omega, by go_num, HR.out, hE⟩
                case measure => simp [intOf]; omega
          · have HR := hide (H1.out s hlen)
            have hb9 : ((A.len s : Int) != (B.len s : Int)) = true := by simp; omega
            clear hlen
            go_wp2_with fail
            refine wp_region_ext (by kernel_rfl) (by kernel_rfl) ?_
            repeat (go_big_quiet_step (fail))
            refine wpQuiet_nil ?_
            rintro w9 ⟨⟨_, hE9⟩, rfl⟩
            go_wp2
            go_ret
            exact ⟨ret_bool HR.out.symm, hEr.trans hE9⟩
        · obtain rfl : s = L := by omega
          have HR := hide (H3.out HJ.out)
          go_wp2_with fail
          go_ret
          exact ⟨ret_bool HR.out.symm, hEr⟩
    · rw [advEq_L hL]
      have hb : ((A.L : Int) != (B.L : Int)) = true := by simp; omega
      have hb2 : (A.n != B.n) = false := by simp [hn]
      clear hL hn
      go_enter Tryz.func13, Tryz.ntmps13
      go_wp2_with fail
      go_ret
      exact ⟨rfl, ((Ext.refl _).alloc _).alloc _⟩
  · rw [advEq_n hn]
    have hb : (A.n != B.n) = true := by simp [hn]
    clear hn
    go_enter Tryz.func13, Tryz.ntmps13
    go_wp2_with fail
    go_ret
    exact ⟨rfl, ((Ext.refl _).alloc _).alloc _⟩
end Go.Proofs.YtdlhnpogddpmpaaGreat
