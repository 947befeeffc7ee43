/-
  The reference's equality of lists of graphs.
  Conditions: none.
-/
import Derived.Test.YtpcboonjalbihaaDoorGrAll
import Derived.Test.YtpcboonjalbihaaDoorEq
namespace Go.Proofs.YtpcboonjalbihaaDoor
open Go.RowKit

set_option maxHeartbeats 1000000 in
theorem rsameall_any (a b : List Gr) (u v : Value) (w : World) (ha : Row Gr.cells 6 w u a) (hb : Row Gr.cells 6 w v b) :
    Calls Tryd.prog 32 #[u, v] w fun e w' => e = .returned (.bool (decide (a = b))) ∧ Ext w w' := by
  obtain ⟨p, c, rfl, hc, hl, hat⟩ := ha.gr_all
  obtain ⟨q, d, rfl, hd, hm, hat2⟩ := hb.gr_all
  have HA := hide hat
  have HB := hide hat2
  clear ha hb hat hat2
  have list_ne : ∀ i, i < b.length → a.getD i default ≠ b.getD i default → decide (a = b) = false := fun i hi h => by
    rw [decide_eq_false_iff_not]
    rintro rfl
    exact h rfl
  by_cases hlen : a.length = b.length
  · have H1 := hide list_ne
    have H2 : Hid ((∀ j, j < b.length → a.getD j default = b.getD j default) → decide (a = b) = true) := fun h => by
      rw [decide_eq_true_iff]
      apply List.ext_getElem hlen
      intro i h1 h2
      have := h i h2
      rw [List.getD_eq_getElem?_getD, List.getD_eq_getElem?_getD, List.getElem?_eq_getElem h1, List.getElem?_eq_getElem h2] at this
      exact this
    have hlen' := hlen.symm
    clear hlen list_ne
    generalize decide (a = b) = res at H1 H2 ⊢
    generalize b.length = lb at *
    generalize a.length = la at *
    subst hlen'
    generalize hfa : a.getD = fa at *
    generalize hfb : b.getD = fb at *
    clear hfa hfb
    go_enter Tryd.func32, Tryd.ntmps32
    go_wp2_with fail
    go_loopw [5] (fun x wr => ∃ i : Nat, i ≤ lb ∧ x = .int .i64 i ∧ (∀ j, j < i → fa j default = fb j default) ∧ Ext w wr) (fun x _ => lb - (intOf x).toNat)
    case atStart => exact ⟨0, by omega, rfl, fun j hj => by omega, Ext.refl _⟩
    case round =>
      obtain ⟨i, hi, rfl, hj, hE⟩ := hrel
      have HJ := hide hj
      clear hj
      by_cases hlt : i < lb
      · obtain ⟨b1, o1, rfl, hb1, hat⟩ := HA.out (by omega)
        obtain ⟨b2, o2, rfl, hb2, hat2⟩ := HB.out (by omega)
        obtain ⟨x0, x1, x2, x3, x4, x5⟩ := hat i hlt
        obtain ⟨y0, y1, y2, y3, y4, y5⟩ := hat2 i hlt
        clear hat hat2
        have HF := hide (H1.out i hlt)
        have HN : Hid (fa i default = fb i default → ∀ j, j < i + 1 → fa j default = fb j default) := fun h j hj => by
          by_cases e : j = i
          · subst e; exact h
          · exact HJ.out j (by omega)
        generalize fa i default = m at x0 x1 x2 x3 x4 x5 HF HN
        generalize fb i default = m' at y0 y1 y2 y3 y4 y5 HF HN
        have hq : geq m m' = true ↔ m = m' := geq_iff
        have HQ := hide hq
        clear hq
        obtain ⟨n, a0, b0, c0, d0, e0⟩ := m
        obtain ⟨n', a0', b0', c0', d0', e0'⟩ := m'
        have heq := neq_graph n a0 b0 c0 d0 e0 n' a0' b0' c0' d0' e0'
        dsimp only at x0 x1 x2 x3 x4 x5 y0 y1 y2 y3 y4 y5
        generalize geq ⟨n, a0, b0, c0, d0, e0⟩ ⟨n', a0', b0', c0', d0', e0'⟩ = g at heq HQ
        go_wp2_with fail
        refine wp_region_ext (by kernel_rfl) (by kernel_rfl) ?_
        repeat (go_big_quiet_step (fail))
        refine wpQuiet_nil ?_
        rintro w9 ⟨⟨_, hE9⟩, rfl⟩
        clear heq
        cases g
        · have HR := hide (HF.out (fun h => by have := HQ.out.2 h; cases this))
          go_wp2
          go_ret
          exact ⟨ret_bool HR.out.symm, hE.trans hE9⟩
        · have HR := hide (HN.out (HQ.out.1 rfl))
          go_wp2
          go_roundw
          case rel => exact ⟨i + 1, by omega, by go_num, HR.out, hE.trans hE9⟩
          case measure => simp [intOf]; omega
      · obtain rfl : i = lb := by omega
        have HR := hide (H2.out HJ.out)
        go_wp2_with fail
        go_ret
        exact ⟨ret_bool HR.out.symm, hE⟩
  · have hne : decide (a = b) = false := decide_eq_false (fun h => hlen (by rw [h]))
    rw [hne]
    have hb : ((a.length : Int) != (b.length : Int)) = true := by simp; omega
    clear hlen hne list_ne
    go_enter Tryd.func32, Tryd.ntmps32
    go_wp2_with fail
    go_ret
    exact ⟨rfl, Ext.refl _⟩
end Go.Proofs.YtpcboonjalbihaaDoor
