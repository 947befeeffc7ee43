/-
  The reference's Reachable.
  Conditions: as each theorem states.
-/
import Derived.Test.YtjgkgcjmcpgiaaaReach
import Derived.Test.YtjgkgcjmcpgiaaaWordsRef
namespace Go.Proofs.Ytjgkgcjmcpgiaaa
open Go.RowKit
attribute [local go_sem] Oper.semAt_some

/-- The reachable ones of the first n states. -/
noncomputable def reachP (A : Adv) (n : Nat) : List Int := ((List.range n).filter (reachB A)).map fun k : Nat => (k : Int)
theorem reachP_yes {A : Adv} {n : Nat} (h : reachB A n = true) : reachP A (n + 1) = reachP A n ++ [(n : Int)] := by
  unfold reachP; rw [List.range_succ, List.filter_append, List.map_append]; simp [h]
theorem reachP_no {A : Adv} {n : Nat} (h : reachB A n = false) : reachP A (n + 1) = reachP A n := by
  unfold reachP; rw [List.range_succ, List.filter_append, List.map_append]; simp [h]
theorem reachP_len (A : Adv) (n : Nat) : (reachP A n).length ≤ n := by
  unfold reachP; rw [List.length_map]; have := List.length_filter_le (reachB A) (List.range n); simpa using this
/-- The list of an adversary, and its error. -/
noncomputable def reachS (A : Adv) : List Int := if achk A = 0 then reachP A A.L else []

set_option maxHeartbeats 2000000 in
theorem rreachable_any (A : Adv) (v : Value) (w : World) (hA : AdvRep w v A) :
    Calls Try.prog 24 #[v] w (RetV2 (fun u w' => Own icells 1 w' w.heap.size 3 u (reachS A)) (achk A) w) := by
  have HC := hide (fun W (hE : Ext w W) => racheck_any A v W (hA.ext hE))
  have HX := hide (fun W (hE : Ext w W) h0 => rreached_any A v W (hA.ext hE) h0)
  obtain ⟨p, c, rfl, hc, hl, hat⟩ := hA.all_
  clear hA hat
  have hE0 : Ext w (w.alloc (.cells #[.int .i64 A.n, .slice p A.L c] 24)) := (Ext.refl w).alloc _
  unfold reachS
  by_cases h0 : achk A = 0
  · rw [if_pos h0, h0]
    have hHC := HC.out
    rw [h0] at hHC
    have HC := hide hHC
    have HX := hide (fun W hE => HX.out W hE h0)
    have hL2 := (achk_zero h0).2.2.2.1
    clear hHC h0
    go_enter Try.func24, Try.ntmps24
    go_wp2_with fail
    refine (HC.out _ hE0).mono ?_
    rintro e w1 ⟨rfl, hE⟩
    have hE1 := hE0.trans hE
    obtain ⟨hc1, hf1⟩ := hE.rules
    go_wp2_with fail
    refine (HX.out _ hE1).mono ?_
    rintro e w2 ⟨⟨g, rfl, hg, hrow⟩, hE2⟩
    have hE2w := hE1.trans hE2
    have HROW := hide (fun W (hE : Ext w2 W) s (hs : s < A.L) => (show W.cell? ⟨g, s, none⟩ = some (.bool (reachB A s)) by rw [hE.cell (lt_of_heap hrow), cell_of_row _ _ _ _ _ _ hrow, bcells_at _ hs]))
    clear hrow hc1 hf1 hE hE1 hE2 hg
    go_wp2_with fail
    go_loopw [5, 7] (fun u x wr => ∃ s : Nat, s ≤ A.L ∧ x = .int .i64 s ∧ Own icells 1 wr w2.heap.size 3 u (reachP A s) ∧ Ext w2 wr) (fun _ x _ => A.L - (intOf x).toNat)
    case atStart => exact ⟨0, by omega, rfl, Own.nil _ _ _ (fun _ => rfl), Ext.refl _⟩
    case round =>
      obtain ⟨s, hs, rfl, hown, hE⟩ := hrel
      have hzr := hE.size
      by_cases hlt : s < A.L
      · have hcs := HROW.out wr hE s hlt
        have hlen := reachP_len A s
        cases hb : reachB A s with
        | true =>
          rw [hb] at hcs
          have HB := hide hb
          clear hb
          go_wp2_with (at_builtin; refine wpList_append1 rfl (.tmp 25) (.tmp 27) 47 rfl w2.heap.size 3 (.int .i64 0) 1 8 Try.underlying47 int_info rfl (by decide) _ (reachP A s) (s : Int) wr.heap.size rfl (hown.alloc _) rfl (cell_new1 _ _ _) (by simp [Value.oneCell']) (by omega) (by decide) (by simp; omega) ?_; intro v' w' hown' hg hform)
          have hE2 := hE.appended hown hg
          go_roundw
          case rel => exact ⟨s + 1, by omega, by go_num, by rw [reachP_yes HB.out]; exact hown', hE2⟩
          case measure => simp [intOf]; omega
        | false =>
          rw [hb] at hcs
          have HB := hide hb
          have HO := hide hown
          clear hb hown
          go_wp2_with fail
          go_roundw
          case rel => exact ⟨s + 1, by omega, by go_num, by rw [reachP_no HB.out]; exact HO.out, hE⟩
          case measure => simp [intOf]; omega
      · obtain rfl : s = A.L := by omega
        have HO := hide hown
        clear hown
        go_wp2_with fail
        go_ret2
        exact ⟨_, rfl, HO.out.mono hE2w.size, hE2w.trans hE⟩
  · rw [if_neg h0]
    have hb : (achk A != 0) = true := by simp [h0]
    clear h0 HX
    generalize achk A = ck at *
    go_enter Try.func24, Try.ntmps24
    go_wp2_with fail
    refine (HC.out _ hE0).mono ?_
    rintro e w1 ⟨rfl, hE⟩
    go_wp2_with fail
    go_ret2
    exact ⟨_, rfl, Own.nil _ _ _ (fun _ => rfl), hE0.trans hE⟩
end Go.Proofs.Ytjgkgcjmcpgiaaa
