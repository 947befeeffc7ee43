/-
  Contracts of the reference's checks of adversaries (roundtableref16): move, grows, Check.
  Conditions: as each theorem states.
-/
import Derived.Test.YtmkmgimmlohamaaAdvRef
namespace Go.Proofs.Ytmkmgimmlohamaa
open Go.RowKit

/-- The error of move i of a state. -/
def mvErrAt (n : Int) (L : Nat) (ms : List Mv) (i : Nat) : Int :=
  if rchk (ms.getD i default).r = 0 then
    if (ms.getD i default).r.g.n = n then
      if 0 < i ∧ 0 ≤ rcmp (ms.getD (i - 1) default).r (ms.getD i default).r then 14
      else if (ms.getD i default).to < 0 ∨ (L : Int) ≤ (ms.getD i default).to then 2 else 0
    else 22
  else rchk (ms.getD i default).r

set_option maxHeartbeats 2000000 in
theorem rmove_any (A : Adv) (v u : Value) (ms : List Mv) (i : Nat) (w : World) (hA : AdvRep w v A) (hM : Row Mv.cells 8 w u ms) (hi : i < ms.length) :
    Calls Try.prog 64 #[v, u, .int .i64 i] w fun e w' => e = .returned (.int .i64 (mvErrAt A.n A.L ms i)) ∧ Ext w w' := by
  obtain ⟨p, c, rfl, hc, hl, hat⟩ := hA.all_
  clear hat hA
  obtain ⟨q, d, rfl, hd, hml, hat⟩ := hM.mv_at
  clear hM
  obtain ⟨b, o, rfl, hb, x0, x1, x2, x3, x4, x5, x6, x7⟩ := hat i hi
  have hpre : ∀ j, j < ms.length → ∃ b' o', (some (⟨b, o, none⟩ : Addr)) = some ⟨b', o', none⟩ ∧ b' < w.heap.size ∧ _ := hat
  unfold mvErrAt
  have hprev : 0 < i → _ := fun h0 => hat (i - 1) (by omega)
  clear hpre hat
  generalize ms.getD (i - 1) default = pv at hprev ⊢
  generalize ms.getD i default = m at x0 x1 x2 x3 x4 x5 x6 x7 ⊢
  obtain ⟨⟨⟨n1, a1, b1, c1, d1, e1⟩, f1⟩, t1⟩ := m
  obtain ⟨⟨⟨n2, a2, b2, c2, d2, e2⟩, f2⟩, t2⟩ := pv
  dsimp only at x0 x1 x2 x3 x4 x5 x6 x7 hprev ⊢
  have hck := fun W => rrcheck_any ⟨⟨n1, a1, b1, c1, d1, e1⟩, f1⟩ W
  have hcm := fun W => rrcompare_any ⟨⟨n2, a2, b2, c2, d2, e2⟩, f2⟩ ⟨⟨n1, a1, b1, c1, d1, e1⟩, f1⟩ W
  generalize rchk ⟨⟨n1, a1, b1, c1, d1, e1⟩, f1⟩ = ck at hck ⊢
  generalize rcmp ⟨⟨n2, a2, b2, c2, d2, e2⟩, f2⟩ ⟨⟨n1, a1, b1, c1, d1, e1⟩, f1⟩ = cm at hcm ⊢
  have HCK := hide hck
  have HCM := hide hcm
  have HP := hide hprev
  clear hck hcm hprev
  generalize ms.length = ml at *
  generalize A.L = L at *
  generalize A.n = N at *
  generalize hres : (if ck = 0 then if n1 = N then if 0 < i ∧ 0 ≤ cm then 14 else if t1 < 0 ∨ (L : Int) ≤ t1 then 2 else 0 else 22 else ck : Int) = res
  by_cases h1 : ck = 0
  · subst h1
    rw [if_pos rfl] at hres
    by_cases h2 : n1 = N
    · rw [if_pos h2] at hres
      have hN : (n1 != N) = false := by simp [h2]
      clear h2
      by_cases h3 : 0 < i
      · have HR : Hid (0 ≤ cm → (14 : Int) = res) := fun h4 => by rw [if_pos ⟨h3, h4⟩] at hres; exact hres
        have HQ : Hid (¬ 0 ≤ cm → (if t1 < 0 ∨ (L : Int) ≤ t1 then 2 else 0) = res) := fun h4 => by rw [if_neg (fun h => h4 h.2)] at hres; exact hres
        clear hres
        obtain ⟨b', o', he, _, y0, y1, y2, y3, y4, y5, y6, y7⟩ := HP.out h3
        obtain ⟨rfl, rfl⟩ : b = b' ∧ o = o' := by simpa using he
        clear he y7
        have h1i : (1 : Int) ≤ i := by omega
        have h1d : decide (0 < i) = true := by simp [h3]
        have hsub : IntKind.i64.wrap ((i : Int) - 1) = (i : Int) - 1 := IntWalk.i64_in _ (by omega)
        go_enter Try.func64, Try.ntmps64
        go_wp2_with fail
        refine (HCK.out _).mono ?_
        rintro e w1 ⟨rfl, hE⟩
        have hE1 : Ext w w1 := (((Ext.refl w).alloc _).alloc _).trans hE
        obtain ⟨hc1, hf1⟩ := hE.rules
        have hz1 : w.heap.size < w1.heap.size := by have := hE.size; simp at this; omega
        have hz2 : w.heap.size + 1 < w1.heap.size := by have := hE.size; simp at this; omega
        go_wp2_with fail
        refine wp_region_ext (by kernel_rfl) (by kernel_rfl) ?_
        repeat (go_big_quiet_step ((go_at_call 60; exact Calls.ext_of (HCM.out _))))
        refine wpQuiet_nil ?_
        rintro w2 ⟨⟨_, hE2⟩, rfl⟩
        have hE3 := hE1.trans hE2
        have hbox : w2.cell? ⟨w.heap.size, 1, none⟩ = some (.slice p L c) := by
          rw [hE2.cell hz1]
          go_simp
        have hz3 : w.heap.size < w2.heap.size := by have := hE2.size; omega
        clear hc1 hf1 hz1 hz2 hE hE1 hE2 y0 y1 y2 y3 y4 y5 y6 hsub
        by_cases h4 : 0 ≤ cm
        · have HR := hide (HR.out h4)
          go_wp2
          go_ret
          exact ⟨ret_int HR.out, hE3⟩
        · have HR := hide (HQ.out (by omega))
          rcases (by omega : t1 < 0 ∨ (0 ≤ t1 ∧ (L : Int) ≤ t1) ∨ (0 ≤ t1 ∧ t1 < (L : Int))) with h5 | ⟨h5, h6⟩ | ⟨h5, h6⟩
          · have HR0 := HR.out
            rw [if_pos (.inl h5)] at HR0
            have HR := hide HR0
            clear HR0
            go_wp2_with fail
            refine wp_region_ext (by kernel_rfl) (by kernel_rfl) ?_
            repeat (go_big_quiet_step (fail))
            refine wpQuiet_nil ?_
            rintro w9 ⟨⟨_, hE9⟩, rfl⟩
            go_wp2
            go_ret
            exact ⟨ret_int HR.out, hE3.trans hE9⟩
          · have HR0 := HR.out
            rw [if_pos (.inr h6)] at HR0
            have HR := hide HR0
            clear HR0
            have hd5 : decide (t1 < 0) = false := decide_eq_false (by omega)
            go_wp2_with fail
            refine wp_region_ext (by kernel_rfl) (by kernel_rfl) ?_
            repeat (go_big_quiet_step (fail))
            refine wpQuiet_nil ?_
            rintro w9 ⟨⟨_, hE9⟩, rfl⟩
            go_wp2
            go_ret
            exact ⟨ret_int HR.out, hE3.trans hE9⟩
          · have HR0 := HR.out
            rw [if_neg (by omega)] at HR0
            have HR := hide HR0
            clear HR0
            have hd5 : decide (t1 < 0) = false := decide_eq_false (by omega)
            go_wp2_with fail
            refine wp_region_ext (by kernel_rfl) (by kernel_rfl) ?_
            repeat (go_big_quiet_step (fail))
            refine wpQuiet_nil ?_
            rintro w9 ⟨⟨_, hE9⟩, rfl⟩
            go_wp2
            go_ret
            exact ⟨ret_int HR.out, hE3.trans hE9⟩
      · rw [if_neg (fun h => h3 h.1)] at hres
        have HR := hide hres
        clear hres
        simp only [Nat.eq_zero_of_not_pos h3, Nat.zero_mul, Nat.add_zero] at x0 x1 x2 x3 x4 x5 x6 x7
        obtain rfl : i = 0 := by omega
        go_enter Try.func64, Try.ntmps64
        go_wp2_with fail
        refine (HCK.out _).mono ?_
        rintro e w1 ⟨rfl, hE⟩
        have hE1 : Ext w w1 := (((Ext.refl w).alloc _).alloc _).trans hE
        obtain ⟨hc1, hf1⟩ := hE.rules
        have hz1 : w.heap.size < w1.heap.size := by have := hE.size; simp at this; omega
        go_wp2_with fail
        refine wp_region_ext (by kernel_rfl) (by kernel_rfl) ?_
        repeat (go_big_quiet_step (fail))
        refine wpQuiet_nil ?_
        rintro w2 ⟨⟨_, hE2⟩, rfl⟩
        have hE3 := hE1.trans hE2
        have hbox : w2.cell? ⟨w.heap.size, 1, none⟩ = some (.slice p L c) := by
          rw [hE2.cell hz1]
          go_simp
        have hz3 : w.heap.size < w2.heap.size := by have := hE2.size; omega
        clear hc1 hf1 hz1 hE hE1 hE2
        rcases (by omega : t1 < 0 ∨ (0 ≤ t1 ∧ (L : Int) ≤ t1) ∨ (0 ≤ t1 ∧ t1 < (L : Int))) with h5 | ⟨h5, h6⟩ | ⟨h5, h6⟩
        · have HR0 := HR.out
          rw [if_pos (.inl h5)] at HR0
          have HR := hide HR0
          clear HR0
          go_wp2_with fail
          refine wp_region_ext (by kernel_rfl) (by kernel_rfl) ?_
          repeat (go_big_quiet_step (fail))
          refine wpQuiet_nil ?_
          rintro w9 ⟨⟨_, hE9⟩, rfl⟩
          go_wp2
          go_ret
          exact ⟨ret_int HR.out, hE3.trans hE9⟩
        · have HR0 := HR.out
          rw [if_pos (.inr h6)] at HR0
          have HR := hide HR0
          clear HR0
          have hd5 : decide (t1 < 0) = false := decide_eq_false (by omega)
          go_wp2_with fail
          refine wp_region_ext (by kernel_rfl) (by kernel_rfl) ?_
          repeat (go_big_quiet_step (fail))
          refine wpQuiet_nil ?_
          rintro w9 ⟨⟨_, hE9⟩, rfl⟩
          go_wp2
          go_ret
          exact ⟨ret_int HR.out, hE3.trans hE9⟩
        · have HR0 := HR.out
          rw [if_neg (by omega)] at HR0
          have HR := hide HR0
          clear HR0
          have hd5 : decide (t1 < 0) = false := decide_eq_false (by omega)
          go_wp2_with fail
          refine wp_region_ext (by kernel_rfl) (by kernel_rfl) ?_
          repeat (go_big_quiet_step (fail))
          refine wpQuiet_nil ?_
          rintro w9 ⟨⟨_, hE9⟩, rfl⟩
          go_wp2
          go_ret
          exact ⟨ret_int HR.out, hE3.trans hE9⟩
    · rw [if_neg h2] at hres
      have HR := hide hres
      clear hres
      have hN : (n1 != N) = true := by simp [h2]
      clear h2
      go_enter Try.func64, Try.ntmps64
      go_wp2_with fail
      refine (HCK.out _).mono ?_
      rintro e w1 ⟨rfl, hE⟩
      have hE1 : Ext w w1 := (((Ext.refl w).alloc _).alloc _).trans hE
      obtain ⟨hc1, hf1⟩ := hE.rules
      go_wp2
      go_ret
      exact ⟨ret_int HR.out, hE1⟩
  · rw [if_neg h1] at hres
    have HR := hide hres
    clear hres
    have hN : (ck != 0) = true := by simp [h1]
    clear h1
    go_enter Try.func64, Try.ntmps64
    go_wp2_with fail
    refine (HCK.out _).mono ?_
    rintro e w1 ⟨rfl, hE⟩
    go_wp2
    go_ret
    exact ⟨ret_int HR.out, (((Ext.refl w).alloc _).alloc _).trans hE⟩
end Go.Proofs.Ytmkmgimmlohamaa
