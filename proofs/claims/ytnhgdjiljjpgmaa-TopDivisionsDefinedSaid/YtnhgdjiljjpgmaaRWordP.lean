/-
  The reference's Word (roundtableref15).
  Conditions: as the theorem states.
-/
import Derived.Test.YtnhgdjiljjpgmaaWordA
import Derived.Deep.CutRange
namespace Go.Proofs.Ytnhgdjiljjpgmaa
open Go.RowKit
attribute [local go_sem] Oper.semAt_some

theorem inside_zeroW (b : Int) : inside 0 b = true := inside_all fun k _ => by simp [has]
theorem wordE_bad {n : Int} {l : List Rd} (h : n < 1 ∨ 5 < n) : wordE n l = 1 := if_pos h
theorem wordE_many {n : Int} {l : List Rd} (h : ¬ (n < 1 ∨ 5 < n)) (h2 : 1024 < l.length) : wordE n l = 5 := by unfold wordE; rw [if_neg h, if_pos h2]
theorem wordE_at {n : Int} {l : List Rd} {k : Nat} (h : ¬ (n < 1 ∨ 5 < n)) (h2 : ¬ 1024 < l.length) (hk : k < l.length) (hi : ∀ i, i < k → wErr n l i = 0) (he : wErr n l k ≠ 0) : wordE n l = wErr n l k := by
  unfold wordE; rw [if_neg h, if_neg h2]; exact firstErr_at hk hi he
theorem wordE_end {n : Int} {l : List Rd} (h : ¬ (n < 1 ∨ 5 < n)) (h2 : ¬ 1024 < l.length) (hi : ∀ i, i < l.length → wErr n l i = 0) : wordE n l = 0 := by
  unfold wordE; rw [if_neg h, if_neg h2]; exact firstErr_end hi
theorem wErr_r {n : Int} {l : List Rd} {i : Nat} (h : rchk (l.getD i default) ≠ 0) : wErr n l i = rchk (l.getD i default) := if_pos h
theorem wErr_n {n : Int} {l : List Rd} {i : Nat} (h : rchk (l.getD i default) = 0) (h2 : (l.getD i default).g.n ≠ n) : wErr n l i = 22 := by unfold wErr; rw [if_neg (fun k => k h), if_pos h2]
theorem wErr_i {n : Int} {l : List Rd} {i : Nat} (h : rchk (l.getD i default) = 0) (h2 : (l.getD i default).g.n = n) : wErr n l i = if inside (prevF l i) (l.getD i default).f then 0 else 14 := by unfold wErr; rw [if_neg (fun k => k h), if_neg (fun k => k h2)]

set_option maxRecDepth 16000 in
set_option maxHeartbeats 2000000 in
theorem rrword_any (n : Int) (l : List Rd) (v : Value) (w : World) (hv : Row Rd.cells 7 w v l) :
    Calls Try.prog 18 #[.int .i64 n, v] w fun e w' => e = .returned (.int .i64 (wordE n l)) ∧ Ext w w' := by
  have HP := hide (rprocs_any n)
  obtain ⟨p, c, rfl, hc, hlen, hat⟩ := hv.rd_all
  have HA := hide hat
  clear hv hat
  by_cases h1 : n < 1 ∨ 5 < n
  · have HR := hide (wordE_bad (l := l) h1)
    have hp : procs n = 1 := by unfold procs; rw [if_pos h1]
    rw [hp] at HP
    generalize wordE n l = res at HR ⊢
    clear h1 hp
    go_enter Try.func18, Try.ntmps18
    go_wp2_with fail
    refine (HP.out _).mono ?_
    rintro e w1 ⟨rfl, rfl⟩
    go_wp2_with fail
    go_ret
    exact ⟨ret_int HR.out.symm, Ext.refl _⟩
  have hp : procs n = 0 := by unfold procs; rw [if_neg h1]
  rw [hp] at HP
  by_cases h2 : 1024 < l.length
  · have HR := hide (wordE_many h1 h2)
    generalize wordE n l = res at HR ⊢
    have h2I : (1024 : Int) < l.length := by omega
    clear h1 hp
    go_enter Try.func18, Try.ntmps18
    go_wp2_with fail
    refine (HP.out _).mono ?_
    rintro e w1 ⟨rfl, rfl⟩
    go_wp2_with fail
    go_ret
    exact ⟨ret_int HR.out.symm, Ext.refl _⟩
  have HK := hide (fun k hk hi he => wordE_at (k := k) h1 h2 hk hi he)
  have HEN := hide (wordE_end h1 h2)
  have h2I : ¬ (1024 : Int) < l.length := by omega
  have hL : l.length ≤ 1024 := by omega
  generalize wordE n l = res at HK HEN ⊢
  have HPB := hide (fun i (h : ∀ j, j < i → wErr n l j = 0) => prevF_small (i := i) h)
  clear h1 h2 hp
  go_enter Try.func18, Try.ntmps18
  go_wp2_with fail
  refine (HP.out _).mono ?_
  rintro e w1 ⟨rfl, rfl⟩
  go_wp2_with fail
  go_loopw [6, 7] (fun x _ V => ∃ i : Nat, i ≤ l.length ∧ x = .int .i64 i ∧ Hid (Ext w1 V) ∧ Hid (∀ j, j < i → wErr n l j = 0)) (fun x _ _ => l.length - (intOf x).toNat)
  case atStart => exact ⟨0, by omega, rfl, Ext.refl _, fun j hj => by omega⟩
  case round =>
    obtain ⟨i, hi, rfl, HE, HJ⟩ := hrel
    by_cases hlt : i < l.length
    · obtain ⟨b, o, rfl, hb, hat⟩ := HA.out (by omega)
      have HX := hide (hat i hlt)
      have HXP := hide (fun k (hk : i = k + 1) => hat k (by omega))
      have HRC := hide (fun W => rrcheck_any (l.getD i default) W)
      have HF := hide (fun h : rchk (l.getD i default) = 0 => rchk_f h)
      have HW1 := hide (fun h => wErr_r (n := n) (l := l) (i := i) h)
      have HW2 := hide (fun h h2 => wErr_n (n := n) (l := l) (i := i) h h2)
      have HW3 := hide (fun h h2 => wErr_i (n := n) (l := l) (i := i) h h2)
      have HPS := hide (HPB.out i HJ.out)
      have HPK := hide (fun k (hk : i = k + 1) => show prevF l i = (l.getD k default).f by rw [hk]; rfl)
      have HPZ := hide (fun (hk : i = 0) => show prevF l i = 0 by rw [hk]; rfl)
      have HKI := hide (fun he => HK.out i hlt HJ.out he)
      have HN : Hid (wErr n l i = 0 → ∀ j, j < i + 1 → wErr n l j = 0) := fun h j hj => by
        by_cases e : j = i
        · subst e; exact h
        · exact HJ.out j (by omega)
      generalize wErr n l i = we at HW1 HW2 HW3 HKI HN
      generalize l.getD i default = r at HX HRC HF HW1 HW2 HW3
      obtain ⟨x0, x1, x2, x3, x4, x5, x6⟩ := HX.out
      replace x0 := x0 _ HE.out
      replace x1 := x1 _ HE.out
      replace x2 := x2 _ HE.out
      replace x3 := x3 _ HE.out
      replace x4 := x4 _ HE.out
      replace x5 := x5 _ HE.out
      replace x6 := x6 _ HE.out
      clear hat
      go_wp2_with fail
      clear x0 x1 x2 x3 x4 x5 x6
      refine (HRC.out _).mono ?_
      rintro e w2 ⟨rfl, hE⟩
      have HE := hide (HE.out.trans hE)
      clear hE
      by_cases h1 : rchk r = 0
      case neg =>
        have hw := HW1.out h1
        have HR := hide (HKI.out (by rw [hw]; exact h1))
        rw [hw] at HR
        have hd : (rchk r != 0) = true := by simp [h1]
        have H1 := hide h1
        clear h1 hw HW1 HW2 HW3 HF HN HKI
        generalize rchk r = rc at hd HR H1
        go_wp2_with fail
        go_ret
        exact ⟨ret_int HR.out.symm, HE.out⟩
      case pos =>
      rw [h1]
      obtain ⟨hf0, hf1⟩ := HF.out h1
      obtain ⟨x0, -, -, -, -, -, x6⟩ := HX.out
      replace x0 := x0 _ HE.out
      have hbz : b < w2.heap.size := Nat.lt_of_lt_of_le hb HE.out.size
      by_cases h2 : r.g.n = n
      case neg =>
        have hw := HW2.out h1 h2
        have HR := hide (HKI.out (by rw [hw]; decide))
        rw [hw] at HR
        have hd : (r.g.n != n) = true := by simp [h2]
        have H2 := hide h2
        have H1 := hide h1
        clear h1 h2 hw HW1 HW2 HW3 HF HN HKI x6
        go_wp2_with fail
        go_ret
        exact ⟨ret_int HR.out.symm, HE.out⟩
      case pos =>
      have hd : (r.g.n != n) = false := by simp [h2]
      have hw := HW3.out h1 h2
      have H1 := hide h1
      have H2 := hide h2
      have HWI := hide hw
      clear h1 h2 hw HW1 HW2 HW3 HF
      have HXR := hide x6
      clear x6
      go_upto_region 14 with fail
      clear x0 hd
      by_cases hi0 : i = 0
      · have hp0 := HPZ.out hi0
        have hg0 : decide (0 < i) = false := by simp [hi0]
        have hw0 := HWI.out
        rw [hp0, if_pos (inside_zeroW _)] at hw0
        have HN2 := hide (HN.out hw0)
        clear hw0 hp0 HWI HN HKI HPS HPK HPZ
        have HI0 := hide hi0
        clear hi0
        refine wp_region_ext (by kernel_rfl) (by kernel_rfl) ?_
        repeat (go_big_quiet_step (fail))
        refine wpQuiet_nil ?_
        rintro w9 ⟨⟨_, hE9⟩, rfl⟩
        have HE := hide (HE.out.trans hE9)
        clear hE9
        go_wp2
        go_roundw
        case rel => exact ⟨i + 1, by omega, by go_num, HE, HN2⟩
        case measure => simp [intOf]; omega
      · obtain ⟨k, hik⟩ : ∃ k, i = k + 1 := ⟨i - 1, by omega⟩
        have hg0 : decide (0 < i) = true := by simp; omega
        have hpk := HPK.out k hik
        obtain ⟨-, -, -, -, -, -, y6⟩ := HXP.out k hik
        replace y6 := y6 _ HE.out
        have x6 := HXR.out _ HE.out
        have hpb := HPS.out
        have hwi := HWI.out
        rw [hpk] at hpb hwi
        clear HPS HPK HPZ HXP HXR HX HWI hpk
        generalize (l.getD k default).f = pf at y6 hpb hwi
        have HIN := hide (fun W => rinside_any pf r.f W (by omega) (by omega) (by omega) (by omega))
        have hk1 : IntKind.i64.wrap ((i : Int) - 1) = (k : Int) := by rw [show (i : Int) - 1 = (k : Int) by omega]; exact IntWalk.i64_in _ (by omega)
        have hkk : (k : Int) < (l.length : Int) := by omega
        have hkn : k < l.length := by omega
        have HIK := hide hik
        have HI0 := hide hi0
        clear hik hi0 hpb
        cases hins : inside pf r.f with
        | false =>
          rw [hins, if_neg (by decide)] at hwi
          have HR := hide (HKI.out (by rw [hwi]; decide))
          rw [hwi] at HR
          rw [hins] at HIN
          clear hwi hins HN HKI
          refine wp_region_ext (by kernel_rfl) (by kernel_rfl) ?_
          repeat (go_big_quiet_step ((go_at_call 47; exact Calls.ext_same (HIN.out _))))
          refine wpQuiet_nil ?_
          rintro w9 ⟨⟨_, hE9⟩, rfl⟩
          have HE := hide (HE.out.trans hE9)
          clear hE9 hk1 y6 x6
          go_wp2
          go_ret
          exact ⟨ret_int HR.out.symm, HE.out⟩
        | true =>
          rw [hins, if_pos rfl] at hwi
          have HN2 := hide (HN.out hwi)
          rw [hins] at HIN
          clear hwi hins HN HKI
          refine wp_region_ext (by kernel_rfl) (by kernel_rfl) ?_
          repeat (go_big_quiet_step ((go_at_call 47; exact Calls.ext_same (HIN.out _))))
          refine wpQuiet_nil ?_
          rintro w9 ⟨⟨_, hE9⟩, rfl⟩
          have HE := hide (HE.out.trans hE9)
          clear hE9 hk1 y6 x6
          go_wp2
          go_roundw
          case rel => exact ⟨i + 1, by omega, by go_num, HE, HN2⟩
          case measure => simp [intOf]; omega
    · obtain rfl : i = l.length := by omega
      have HR := hide (HEN.out HJ.out)
      go_wp2_with fail
      go_ret
      exact ⟨ret_int HR.out.symm, HE.out⟩
end Go.Proofs.Ytnhgdjiljjpgmaa
