/-
  slices.Equal on pairs of numbers.
  Conditions: none.
-/
import Derived.Test.YtmkmgimmlohamaaIncV
import Derived.Test.YtmkmgimmlohamaaSameR
namespace Go.Proofs.Ytmkmgimmlohamaa
open Go.RowKit
attribute [local go_sem] Oper.semAt_some

theorem neq_pair (a b a' b' : Int) (w : World) : (binOp .neq 45 (.agg #[.int .i64 a, .int .i64 b]) (.agg #[.int .i64 a', .int .i64 b'])).run Try.prog w = .ok (.bool (!(a == a' && b == b'))) w := by
  rw [run_neq_struct, eq_arr2 9998]; rfl
theorem peq_pair (a b a' b' : Int) (w : World) : (binOp .eql 45 (.agg #[.int .i64 a, .int .i64 b]) (.agg #[.int .i64 a', .int .i64 b'])).run Try.prog w = .ok (.bool (a == a' && b == b')) w := by
  rw [run_eql_struct, eq_arr2 9998]; rfl
set_option maxHeartbeats 1000000 in
theorem sequal_pr (a b : List (Int × Int)) (u v : Value) (w : World) (ha : Row pcells 2 w u a) (hb : Row pcells 2 w v b) :
    Calls Try.prog 17 #[u, v] w fun e w' => e = .returned (.bool (decide (a = b))) ∧ Ext w w' := by
  obtain ⟨p, c, rfl, hc, hl, hat⟩ := ha.pr_all
  obtain ⟨q, d, rfl, hd, hm, hat2⟩ := hb.pr_all
  have HA := hide hat
  have HB := hide hat2
  clear ha hb hat hat2
  by_cases hlen : a.length = b.length
  · have H1 := hide (fun i => list_ne_at (a := a) (b := b) (i := i) (d := default))
    have H2 := hide (list_eq_of (a := a) (b := b) (d := default) hlen)
    have hlen' := hlen.symm
    clear hlen
    generalize decide (a = b) = res at H1 H2 ⊢
    generalize b.length = lb at *
    generalize a.length = la at *
    subst hlen'
    generalize hfa : a.getD = fa at *
    generalize hfb : b.getD = fb at *
    clear hfa hfb
    go_enter Try.func17, Try.ntmps17
    go_wp2_with fail
    go_loopw [13, 5] (fun x _ wr => ∃ i : Nat, i ≤ lb ∧ x = .int .i64 i ∧ (∀ j, j < i → fa j default = fb j default) ∧ Ext w wr) (fun x _ _ => lb - (intOf x).toNat)
    case atStart => exact ⟨0, by omega, rfl, fun j hj => by omega, Ext.refl _⟩
    case round =>
      obtain ⟨i, hi, rfl, hj, hE⟩ := hrel
      have HJ := hide hj
      clear hj
      by_cases hlt : i < lb
      · obtain ⟨b1, o1, rfl, hb1, hat⟩ := HA.out (by omega)
        obtain ⟨b2, o2, rfl, hb2, hat2⟩ := HB.out (by omega)
        have HX := hide (hat i hlt)
        have HY := hide (hat2 i hlt)
        clear hat hat2
        have HF := hide (H1.out i)
        have HN : Hid (fa i default = fb i default → ∀ j, j < i + 1 → fa j default = fb j default) := fun h j hj => by
          by_cases e : j = i
          · subst e; exact h
          · exact HJ.out j (by omega)
        generalize fa i default = m at HX HF HN
        generalize fb i default = m' at HY HF HN
        obtain ⟨m1, m2⟩ := m
        obtain ⟨n1, n2⟩ := m'
        have HQ : Hid ((m1 == n1 && m2 == n2) = true ↔ ((m1, m2) : Int × Int) = (n1, n2)) := by
          show _ ↔ _
          rw [Bool.and_eq_true, beq_iff_eq, beq_iff_eq, Prod.mk.injEq]
        have heq := neq_pair m1 m2 n1 n2
        have hX : ∀ W, Ext w W → W.cell? ⟨b1, o1 + i * 2, none⟩ = some (.int .i64 m1) ∧ W.cell? ⟨b1, o1 + i * 2 + 1, none⟩ = some (.int .i64 m2) := HX.out
        have hY : ∀ W, Ext w W → W.cell? ⟨b2, o2 + i * 2, none⟩ = some (.int .i64 n1) ∧ W.cell? ⟨b2, o2 + i * 2 + 1, none⟩ = some (.int .i64 n2) := HY.out
        have x0 := fun W hW => (hX W hW).1
        have x1 := fun W hW => (hX W hW).2
        have y0 := fun W hW => (hY W hW).1
        have y1 := fun W hW => (hY W hW).2
        clear hX hY HX HY
        generalize (m1 == n1 && m2 == n2) = g at heq HQ
        go_wp2_with fail
        refine wp_region_ext (by kernel_rfl) (by kernel_rfl) ?_
        repeat (go_big_quiet_step (fail))
        refine wpQuiet_nil ?_
        rintro w9 ⟨⟨_, hE9⟩, rfl⟩
        clear heq
        cases g
        · have HR := hide (HF.out hlt (fun h => by have := HQ.out.2 h; cases this))
          go_wp2
          go_ret
          exact ⟨ret_bool HR.out.symm, hE.trans hE9⟩
        · have HR := hide (HN.out (HQ.out.1 rfl))
          go_wp2
          go_roundw
          case rel => exact ⟨i + 1, by omega, by go_num, HR.out, hE.trans hE9⟩
          case measure => simp [intOf]; omega
      · obtain rfl : i = lb := by omega
        have HR := hide (H2.out HJ.out)
        go_wp2_with fail
        go_ret
        exact ⟨ret_bool HR.out.symm, hE⟩
  · have hne : decide (a = b) = false := decide_eq_false (fun h => hlen (by rw [h]))
    rw [hne]
    have hb : ((a.length : Int) != (b.length : Int)) = true := by simp; omega
    clear hlen hne
    go_enter Try.func17, Try.ntmps17
    go_wp2_with fail
    go_ret
    exact ⟨rfl, Ext.refl _⟩
end Go.Proofs.Ytmkmgimmlohamaa
