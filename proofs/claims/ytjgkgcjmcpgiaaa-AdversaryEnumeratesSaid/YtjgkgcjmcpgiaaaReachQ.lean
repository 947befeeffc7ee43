/-
  The program's Reachable.
  Conditions: as each theorem states.
-/
import Derived.Test.YtjgkgcjmcpgiaaaReachP
namespace Go.Proofs.Ytjgkgcjmcpgiaaa
open Go.RowKit
attribute [local go_sem] Oper.semAt_some

set_option maxHeartbeats 2000000 in
theorem reachable_any (A : Adv) (v : Value) (w : World) (hA : AdvRep w v A) (hM : movesN A ≤ 4611686018427387904) :
    Calls Try.prog 23 #[v] w (RetV2 (fun u w' => Own icells 1 w' w.heap.size 3 u (reachS A)) (achk A) w) := by
  have HC := hide (fun W (hE : Ext w W) => check_any A v W (hA.ext hE) hM)
  have HX := hide (fun W (hE : Ext w W) h0 => reached_any A v W (hA.ext hE) h0)
  obtain ⟨p, c, rfl, hc, hl, hat⟩ := hA.all_
  clear hA hat
  have hE0 : Ext w (w.alloc (.cells #[.int .i64 A.n, .slice p A.L c] 24)) := (Ext.refl w).alloc _
  unfold reachS
  by_cases h0 : achk A = 0
  · rw [if_pos h0, h0]
    have hHC := HC.out
    rw [h0] at hHC
    have HC := hide hHC
    have HX := hide (fun W hE => HX.out W hE h0)
    clear hHC h0
    go_enter Try.func23, Try.ntmps23
    go_wp2_with fail
    refine (HC.out _ hE0).mono ?_
    rintro e w1 ⟨rfl, hE⟩
    have hE1 := hE0.trans hE
    obtain ⟨hc1, hf1⟩ := hE.rules
    go_wp2_with fail
    refine (HX.out _ hE1).mono ?_
    rintro e w2 ⟨u, rfl, hown, hE2⟩
    have HO := hide hown
    clear hown hc1 hf1
    go_wp2_with fail
    go_ret2
    exact ⟨_, rfl, HO.out.mono hE1.size, hE1.trans hE2⟩
  · rw [if_neg h0]
    have hb : (achk A != 0) = true := by simp [h0]
    clear h0 HX
    generalize achk A = ck at *
    go_enter Try.func23, Try.ntmps23
    go_wp2_with fail
    refine (HC.out _ hE0).mono ?_
    rintro e w1 ⟨rfl, hE⟩
    go_wp2_with fail
    go_ret2
    exact ⟨_, rfl, Own.nil _ _ _ (fun _ => rfl), hE0.trans hE⟩
end Go.Proofs.Ytjgkgcjmcpgiaaa
