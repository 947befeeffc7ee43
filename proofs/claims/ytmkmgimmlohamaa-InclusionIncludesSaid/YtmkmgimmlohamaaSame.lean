/-
  Contracts of the comparisons of lists (slices.Equal, roundtableref15, roundtableref16, roundtableref04).
  Conditions: none.
-/
import Derived.Test.YtmkmgimmlohamaaAdvRef5
import Derived.Test.YtmkmgimmlohamaaSameR
namespace Go.Proofs.Ytmkmgimmlohamaa
open Go.RowKit

set_option maxHeartbeats 1000000 in
theorem sequal_rd (a b : List Rd) (u v : Value) (w : World) (ha : Row Rd.cells 7 w u a) (hb : Row Rd.cells 7 w v b) :
    Calls Try.prog 16 #[u, v] w fun e w' => e = .returned (.bool (decide (a = b))) ∧ Ext w w' := by
  obtain ⟨p, c, rfl, hc, hl, hat⟩ := ha.rd_all
  obtain ⟨q, d, rfl, hd, hm, hat2⟩ := hb.rd_all
  have HA := hide hat
  have HB := hide hat2
  clear ha hb hat hat2
  by_cases hlen : a.length = b.length
  · have H1 := hide (fun i => list_ne_at (a := a) (b := b) (i := i) (d := default))
    have H2 := hide (list_eq_of (a := a) (b := b) (d := default) hlen)
    have hlen' := hlen.symm
    clear hlen
    generalize decide (a = b) = res at H1 H2 ⊢
    generalize b.length = lb at *
    generalize a.length = la at *
    subst hlen'
    generalize hfa : a.getD = fa at *
    generalize hfb : b.getD = fb at *
    clear hfa hfb
    go_enter Try.func16, Try.ntmps16
    go_wp2_with fail
    go_loopw [13, 5] (fun x _ wr => ∃ i : Nat, i ≤ lb ∧ x = .int .i64 i ∧ (∀ j, j < i → fa j default = fb j default) ∧ Ext w wr) (fun x _ _ => lb - (intOf x).toNat)
    case atStart => exact ⟨0, by omega, rfl, fun j hj => by omega, Ext.refl _⟩
    case round =>
      obtain ⟨i, hi, rfl, hj, hE⟩ := hrel
      have HJ := hide hj
      clear hj
      by_cases hlt : i < lb
      · obtain ⟨b1, o1, rfl, hb1, hat⟩ := HA.out (by omega)
        obtain ⟨b2, o2, rfl, hb2, hat2⟩ := HB.out (by omega)
        obtain ⟨x0, x1, x2, x3, x4, x5, x6⟩ := hat i hlt
        obtain ⟨y0, y1, y2, y3, y4, y5, y6⟩ := hat2 i hlt
        clear hat hat2
        have HF := hide (H1.out i)
        have HN : Hid (fa i default = fb i default → ∀ j, j < i + 1 → fa j default = fb j default) := fun h j hj => by
          by_cases e : j = i
          · subst e; exact h
          · exact HJ.out j (by omega)
        generalize fa i default = m at x0 x1 x2 x3 x4 x5 x6 HF HN
        generalize fb i default = m' at y0 y1 y2 y3 y4 y5 y6 HF HN
        have hq : req m m' = true ↔ m = m' := req_iff
        have HQ := hide hq
        clear hq
        obtain ⟨⟨n, a0, b0, c0, d0, e0⟩, f⟩ := m
        obtain ⟨⟨n', a0', b0', c0', d0', e0'⟩, f'⟩ := m'
        have heq := neq_round n a0 b0 c0 d0 e0 f n' a0' b0' c0' d0' e0' f'
        dsimp only at x0 x1 x2 x3 x4 x5 x6 y0 y1 y2 y3 y4 y5 y6
        generalize req ⟨⟨n, a0, b0, c0, d0, e0⟩, f⟩ ⟨⟨n', a0', b0', c0', d0', e0'⟩, f'⟩ = g at heq HQ
        go_wp2_with fail
        refine wp_region_ext (by kernel_rfl) (by kernel_rfl) ?_
        repeat (go_big_quiet_step (fail))
        refine wpQuiet_nil ?_
        rintro w9 ⟨⟨_, hE9⟩, rfl⟩
        clear heq
        cases g
        · have HR := hide (HF.out hlt (fun h => by have := HQ.out.2 h; cases this))
          go_wp2
          go_ret
          exact ⟨ret_bool HR.out.symm, hE.trans hE9⟩
        · have HR := hide (HN.out (HQ.out.1 rfl))
          go_wp2
          go_roundw
          case rel => exact ⟨i + 1, by omega, by go_num, HR.out, hE.trans hE9⟩
          case measure => simp [intOf]; omega
      · obtain rfl : i = lb := by omega
        have HR := hide (H2.out HJ.out)
        go_wp2_with fail
        go_ret
        exact ⟨ret_bool HR.out.symm, hE⟩
  · have hne : decide (a = b) = false := decide_eq_false (fun h => hlen (by rw [h]))
    rw [hne]
    have hb : ((a.length : Int) != (b.length : Int)) = true := by simp; omega
    clear hlen hne
    go_enter Try.func16, Try.ntmps16
    go_wp2_with fail
    go_ret
    exact ⟨rfl, Ext.refl _⟩
end Go.Proofs.Ytmkmgimmlohamaa
