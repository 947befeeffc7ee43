/-
  The order of words: roundtableref15.Order.
  Conditions: as each theorem states.
-/
import Derived.Test.YtmkmgimmlohamaaAdvRef2
import Derived.Test.YtmkmgimmlohamaaBfs
namespace Go.Proofs.Ytmkmgimmlohamaa
open Go.RowKit
attribute [local go_sem] Oper.semAt_some

/-- The order of words. -/
def ordL : List Rd → List Rd → Int
  | [], [] => 0
  | [], _ :: _ => -1
  | _ :: _, [] => 1
  | a :: x, b :: y => if rcmp a b = 0 then ordL x y else rcmp a b
theorem ordL_self : ∀ x : List Rd, ordL x x = 0
  | [] => rfl
  | a :: x => by simp only [ordL]; rw [if_pos (rcmp_self a)]; exact ordL_self x
theorem ordL_range : ∀ x y : List Rd, -1 ≤ ordL x y ∧ ordL x y ≤ 1
  | [], [] => by simp [ordL]
  | [], _ :: _ => by simp [ordL]
  | _ :: _, [] => by simp [ordL]
  | a :: x, b :: y => by
    simp only [ordL]
    by_cases h : rcmp a b = 0
    · rw [if_pos h]; exact ordL_range x y
    · rw [if_neg h]; exact ⟨(rcmp_ord a b a).x1.1, (rcmp_ord a b a).x1.2⟩
/-- The order of words of one length. -/
theorem ordL_llt : ∀ x y : List Rd, x.length = y.length → (ordL x y < 0 ↔ Llt x y)
  | [], [], _ => ⟨fun h => by simp [ordL] at h, fun h => by cases h⟩
  | [], _ :: _, h => by simp at h
  | _ :: _, [], h => by simp at h
  | a :: x, b :: y, hl => by
    have hl' : x.length = y.length := by simpa using hl
    simp only [ordL]
    by_cases h : rcmp a b = 0
    · rw [if_pos h]
      obtain rfl := rcmp_zero'.1 h
      rw [ordL_llt x y hl']
      exact ⟨.tail, fun k => by
        cases k with
        | head k _ => exact absurd k (rlt_irrefl _)
        | tail k => exact k⟩
    · rw [if_neg h]
      have hr := (rcmp_ord a b a).x1
      constructor
      · intro k
        exact .head (by unfold rlt; omega) hl'
      · intro k
        cases k with
        | head k _ => unfold rlt at k; omega
        | tail k => exact absurd (rcmp_zero'.2 rfl) h
/-- The order of words, by their lengths first. -/
theorem wlt_iff (x y : List Rd) : Wlt x y ↔ x.length < y.length ∨ (x.length = y.length ∧ ordL x y < 0) := by
  unfold Wlt
  constructor
  · rintro (h | h)
    · exact .inl h
    · exact .inr ⟨h.len, (ordL_llt x y h.len).2 h⟩
  · rintro (h | ⟨h, k⟩)
    · exact .inl h
    · exact .inr ((ordL_llt x y h).1 k)
theorem ordL_at : ∀ {a b : List Rd} {k : Nat}, k < a.length → k < b.length → (∀ j, j < k → rcmp (a.getD j default) (b.getD j default) = 0) → rcmp (a.getD k default) (b.getD k default) ≠ 0 →
    ordL a b = rcmp (a.getD k default) (b.getD k default)
  | [], _, _, h, _, _, _ => by simp at h
  | _ :: _, [], _, _, h, _, _ => by simp at h
  | x :: a, y :: b, 0, _, _, _, h => by
    simp only [List.getD_cons_zero] at h ⊢
    simp only [ordL]
    rw [if_neg h]
  | x :: a, y :: b, k + 1, h1, h2, h3, h4 => by
    have h5 := h3 0 (by omega)
    simp only [List.getD_cons_zero] at h5
    simp only [List.getD_cons_succ] at h4 ⊢
    simp only [ordL]
    rw [if_pos h5]
    exact ordL_at (by simpa using h1) (by simpa using h2) (fun j hj => by have := h3 (j + 1) (by omega); simpa only [List.getD_cons_succ] using this) h4
theorem ordL_end : ∀ {a b : List Rd}, (∀ j, j < a.length → j < b.length → rcmp (a.getD j default) (b.getD j default) = 0) → ordL a b = if a.length < b.length then -1 else if b.length < a.length then 1 else 0
  | [], [], _ => by simp [ordL]
  | [], _ :: _, _ => by simp [ordL]
  | _ :: _, [], _ => by simp [ordL]
  | x :: a, y :: b, h => by
    have h5 := h 0 (by simp) (by simp)
    simp only [List.getD_cons_zero] at h5
    simp only [ordL]
    rw [if_pos h5, ordL_end (fun j h1 h2 => by have := h (j + 1) (by simpa using h1) (by simpa using h2); simpa only [List.getD_cons_succ] using this)]
    simp only [List.length_cons, Nat.add_lt_add_iff_right]

set_option maxHeartbeats 1000000 in
theorem rorder_any (a b : List Rd) (u v : Value) (w : World) (ha : Row Rd.cells 7 w u a) (hb : Row Rd.cells 7 w v b) :
    Calls Try.prog 41 #[u, v] w fun e w' => e = .returned (.int .i64 (ordL a b)) ∧ Ext w w' := by
  obtain ⟨p, c, rfl, hc, hl, hat⟩ := ha.rd_all
  obtain ⟨q, d, rfl, hd, hm, hat2⟩ := hb.rd_all
  have HA := hide hat
  have HB := hide hat2
  clear ha hb hat hat2
  have H1 := hide (fun k => ordL_at (a := a) (b := b) (k := k))
  have H2 := hide (ordL_end (a := a) (b := b))
  generalize ordL a b = res at H1 H2 ⊢
  generalize b.length = lb at *
  generalize a.length = la at *
  generalize hfa : a.getD = fa at *
  generalize hfb : b.getD = fb at *
  clear hfa hfb
  go_enter Try.func41, Try.ntmps41
  go_wp2_with fail
  go_loopw [5] (fun x wr => ∃ i : Nat, i ≤ la ∧ i ≤ lb ∧ x = .int .i64 i ∧ (∀ j, j < i → rcmp (fa j default) (fb j default) = 0) ∧ Ext w wr) (fun x _ => lb - (intOf x).toNat)
  case atStart => exact ⟨0, by omega, by omega, rfl, fun j hj => by omega, Ext.refl _⟩
  case round =>
    obtain ⟨i, hi, hi2, rfl, hj, hE⟩ := hrel
    have HJ := hide hj
    clear hj
    by_cases hlt : i < la
    · by_cases hlt2 : i < lb
      · obtain ⟨b1, o1, rfl, hb1, hat⟩ := HA.out (by omega)
        obtain ⟨b2, o2, rfl, hb2, hat2⟩ := HB.out (by omega)
        obtain ⟨x0, x1, x2, x3, x4, x5, x6⟩ := hat i hlt
        obtain ⟨y0, y1, y2, y3, y4, y5, y6⟩ := hat2 i hlt2
        clear hat hat2
        have HF := hide (H1.out i hlt hlt2 HJ.out)
        have HN : Hid (rcmp (fa i default) (fb i default) = 0 → ∀ j, j < i + 1 → rcmp (fa j default) (fb j default) = 0) := fun h j hj => by
          by_cases e : j = i
          · subst e; exact h
          · exact HJ.out j (by omega)
        have HC := hide (fun W => rrcompare_any (fa i default) (fb i default) W)
        generalize rcmp (fa i default) (fb i default) = cc at HF HN HC
        generalize fa i default = m at x0 x1 x2 x3 x4 x5 x6 HC
        generalize fb i default = m' at y0 y1 y2 y3 y4 y5 y6 HC
        obtain ⟨⟨n, a0, b0, c0, d0, e0⟩, f⟩ := m
        obtain ⟨⟨n', a0', b0', c0', d0', e0'⟩, f'⟩ := m'
        dsimp only at x0 x1 x2 x3 x4 x5 x6 y0 y1 y2 y3 y4 y5 y6
        go_wp2_with fail
        refine wp_region_ext (by kernel_rfl) (by kernel_rfl) ?_
        repeat (go_big_quiet_step ((go_at_call 60; exact Calls.ext_of (HC.out _))))
        refine wpQuiet_nil ?_
        rintro w9 ⟨⟨_, hE9⟩, rfl⟩
        by_cases hcc : cc = 0
        · have hd : (cc != 0) = false := by simp [hcc]
          have HR := hide (HN.out hcc)
          clear hcc
          go_wp2
          go_roundw
          case rel => exact ⟨i + 1, by omega, by omega, by go_num, HR.out, hE.trans hE9⟩
          case measure => simp [intOf]; omega
        · have hd : (cc != 0) = true := by simp [hcc]
          have HR := hide (HF.out hcc)
          clear hcc
          go_wp2
          go_ret
          exact ⟨ret_int HR.out.symm, hE.trans hE9⟩
      · obtain rfl : i = lb := by omega
        have HR := hide (H2.out (fun j h1 h2 => HJ.out j h2))
        have h1 : decide (la < i) = false := decide_eq_false (by omega)
        go_wp2_with fail
        go_ret
        exact ⟨ret_int (by rw [HR.out, if_neg (by omega), if_pos hlt]), hE⟩
    · obtain rfl : i = la := by omega
      have HR := hide (H2.out (fun j h1 h2 => HJ.out j h1))
      by_cases h1 : i < lb
      · go_wp2_with fail
        go_ret
        exact ⟨ret_int (by rw [HR.out, if_pos h1]), hE⟩
      · obtain rfl : i = lb := by omega
        go_wp2_with fail
        go_ret
        exact ⟨ret_int (by rw [HR.out, if_neg (by omega), if_neg (by omega)]), hE⟩
end Go.Proofs.Ytmkmgimmlohamaa
