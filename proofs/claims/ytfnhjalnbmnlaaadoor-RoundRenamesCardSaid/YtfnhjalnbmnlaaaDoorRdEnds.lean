/-
  The ends of words: the reference's Word; last, Faulty, Obliged, Product of both.
  Conditions: the table of math/bits lies in the heap (Tz), where a product is made.
-/
import Derived.Test.YtfnhjalnbmnlaaaDoorRdPrm
namespace Go.Proofs.YtfnhjalnbmnlaaaDoor
open Go.RowKit
attribute [local go_sem] Oper.semAt_some

theorem wordE_bad {n : Int} {l : List Rd} (h : n < 1 ∨ 5 < n) : wordE n l = 1 := if_pos h
theorem wordE_many {n : Int} {l : List Rd} (h : ¬ (n < 1 ∨ 5 < n)) (h2 : 1024 < l.length) : wordE n l = 5 := by unfold wordE; rw [if_neg h, if_pos h2]
theorem wordE_at {n : Int} {l : List Rd} {k : Nat} (h : ¬ (n < 1 ∨ 5 < n)) (h2 : ¬ 1024 < l.length) (hk : k < l.length) (hi : ∀ i, i < k → wErr n l i = 0) (he : wErr n l k ≠ 0) : wordE n l = wErr n l k := by
  unfold wordE; rw [if_neg h, if_neg h2]; exact firstErr_at hk hi he
theorem wordE_end {n : Int} {l : List Rd} (h : ¬ (n < 1 ∨ 5 < n)) (h2 : ¬ 1024 < l.length) (hi : ∀ i, i < l.length → wErr n l i = 0) : wordE n l = 0 := by
  unfold wordE; rw [if_neg h, if_neg h2]; exact firstErr_end hi
theorem wErr_r {n : Int} {l : List Rd} {i : Nat} (h : rchk (l.getD i default) ≠ 0) : wErr n l i = rchk (l.getD i default) := if_pos h
theorem wErr_n {n : Int} {l : List Rd} {i : Nat} (h : rchk (l.getD i default) = 0) (h2 : (l.getD i default).g.n ≠ n) : wErr n l i = 22 := by unfold wErr; rw [if_neg (fun k => k h), if_pos h2]
theorem wErr_i {n : Int} {l : List Rd} {i : Nat} (h : rchk (l.getD i default) = 0) (h2 : (l.getD i default).g.n = n) : wErr n l i = if inside (prevF l i) (l.getD i default).f then 0 else 14 := by unfold wErr; rw [if_neg (fun k => k h), if_neg (fun k => k h2)]

set_option maxRecDepth 16000 in
set_option maxHeartbeats 2000000 in
theorem rrword_any (n : Int) (l : List Rd) (v : Value) (w : World) (hv : Row Rd.cells 7 w v l) :
    Calls Tryd.prog 22 #[.int .i64 n, v] w fun e w' => e = .returned (.int .i64 (wordE n l)) ∧ Ext w w' := by
  have HP := hide (rprocs_any n)
  obtain ⟨p, c, rfl, hc, hlen, hat⟩ := hv.rd_all
  have HA := hide hat
  clear hv hat
  by_cases h1 : n < 1 ∨ 5 < n
  · have HR := hide (wordE_bad (l := l) h1)
    have hp : procs n = 1 := by unfold procs; rw [if_pos h1]
    rw [hp] at HP
    generalize wordE n l = res at HR ⊢
    clear h1 hp
    go_enter Tryd.func22, Tryd.ntmps22
    go_wp2_with fail
    refine (HP.out _).mono ?_
    rintro e w1 ⟨rfl, rfl⟩
    go_wp2_with fail
    go_ret
    exact ⟨ret_int HR.out.symm, Ext.refl _⟩
  have hp : procs n = 0 := by unfold procs; rw [if_neg h1]
  rw [hp] at HP
  by_cases h2 : 1024 < l.length
  · have HR := hide (wordE_many h1 h2)
    generalize wordE n l = res at HR ⊢
    have h2I : (1024 : Int) < l.length := by omega
    clear h1 hp
    go_enter Tryd.func22, Tryd.ntmps22
    go_wp2_with fail
    refine (HP.out _).mono ?_
    rintro e w1 ⟨rfl, rfl⟩
    go_wp2_with fail
    go_ret
    exact ⟨ret_int HR.out.symm, Ext.refl _⟩
  have HK := hide (fun k hk hi he => wordE_at (k := k) h1 h2 hk hi he)
  have HEN := hide (wordE_end h1 h2)
  have h2I : ¬ (1024 : Int) < l.length := by omega
  have hL : l.length ≤ 1024 := by omega
  generalize wordE n l = res at HK HEN ⊢
  have HPB := hide (fun i (h : ∀ j, j < i → wErr n l j = 0) => prevF_small (i := i) h)
  clear h1 h2 hp
  go_enter Tryd.func22, Tryd.ntmps22
  go_wp2_with fail
  refine (HP.out _).mono ?_
  rintro e w1 ⟨rfl, rfl⟩
  go_wp2_with fail
  go_loopw [6, 7] (fun x _ V => ∃ i : Nat, i ≤ l.length ∧ x = .int .i64 i ∧ Hid (Ext w1 V) ∧ Hid (∀ j, j < i → wErr n l j = 0)) (fun x _ _ => l.length - (intOf x).toNat)
  case atStart => exact ⟨0, by omega, rfl, Ext.refl _, fun j hj => by omega⟩
  case round =>
    obtain ⟨i, hi, rfl, HE, HJ⟩ := hrel
    by_cases hlt : i < l.length
    · obtain ⟨b, o, rfl, hb, hat⟩ := HA.out (by omega)
      have HX := hide (hat i hlt)
      have HXP := hide (fun k (hk : i = k + 1) => hat k (by omega))
      have HRC := hide (fun W => rrcheck_any (l.getD i default) W)
      have HF := hide (fun h : rchk (l.getD i default) = 0 => rchk_f h)
      have HW1 := hide (fun h => wErr_r (n := n) (l := l) (i := i) h)
      have HW2 := hide (fun h h2 => wErr_n (n := n) (l := l) (i := i) h h2)
      have HW3 := hide (fun h h2 => wErr_i (n := n) (l := l) (i := i) h h2)
      have HPS := hide (HPB.out i HJ.out)
      have HPK := hide (fun k (hk : i = k + 1) => show prevF l i = (l.getD k default).f by rw [hk]; rfl)
      have HPZ := hide (fun (hk : i = 0) => show prevF l i = 0 by rw [hk]; rfl)
      have HKI := hide (fun he => HK.out i hlt HJ.out he)
      have HN : Hid (wErr n l i = 0 → ∀ j, j < i + 1 → wErr n l j = 0) := fun h j hj => by
        by_cases e : j = i
        · subst e; exact h
        · exact HJ.out j (by omega)
      generalize wErr n l i = we at HW1 HW2 HW3 HKI HN
      generalize l.getD i default = r at HX HRC HF HW1 HW2 HW3
      obtain ⟨x0, x1, x2, x3, x4, x5, x6⟩ := HX.out
      replace x0 := x0 _ HE.out
      replace x1 := x1 _ HE.out
      replace x2 := x2 _ HE.out
      replace x3 := x3 _ HE.out
      replace x4 := x4 _ HE.out
      replace x5 := x5 _ HE.out
      replace x6 := x6 _ HE.out
      clear hat
      go_wp2_with fail
      clear x0 x1 x2 x3 x4 x5 x6
      refine (HRC.out _).mono ?_
      rintro e w2 ⟨rfl, hE⟩
      have HE := hide (HE.out.trans hE)
      clear hE
      by_cases h1 : rchk r = 0
      case neg =>
        have hw := HW1.out h1
        have HR := hide (HKI.out (by rw [hw]; exact h1))
        rw [hw] at HR
        have hd : (rchk r != 0) = true := by simp [h1]
        have H1 := hide h1
        clear h1 hw HW1 HW2 HW3 HF HN HKI
        generalize rchk r = rc at hd HR H1
        go_wp2_with fail
        go_ret
        exact ⟨ret_int HR.out.symm, HE.out⟩
      case pos =>
      rw [h1]
      obtain ⟨hf0, hf1⟩ := HF.out h1
      obtain ⟨x0, -, -, -, -, -, x6⟩ := HX.out
      replace x0 := x0 _ HE.out
      have hbz : b < w2.heap.size := Nat.lt_of_lt_of_le hb HE.out.size
      by_cases h2 : r.g.n = n
      case neg =>
        have hw := HW2.out h1 h2
        have HR := hide (HKI.out (by rw [hw]; decide))
        rw [hw] at HR
        have hd : (r.g.n != n) = true := by simp [h2]
        have H2 := hide h2
        have H1 := hide h1
        clear h1 h2 hw HW1 HW2 HW3 HF HN HKI x6
        go_wp2_with fail
        go_ret
        exact ⟨ret_int HR.out.symm, HE.out⟩
      case pos =>
      have hd : (r.g.n != n) = false := by simp [h2]
      have hw := HW3.out h1 h2
      have H1 := hide h1
      have H2 := hide h2
      have HWI := hide hw
      clear h1 h2 hw HW1 HW2 HW3 HF
      have HXR := hide x6
      clear x6
      go_upto_region 14 with fail
      clear x0 hd
      by_cases hi0 : i = 0
      · have hp0 := HPZ.out hi0
        have hg0 : decide (0 < i) = false := by simp [hi0]
        have hw0 := HWI.out
        rw [hp0, if_pos (inside_zero _)] at hw0
        have HN2 := hide (HN.out hw0)
        clear hw0 hp0 HWI HN HKI HPS HPK HPZ
        have HI0 := hide hi0
        clear hi0
        refine wp_region_ext (by kernel_rfl) (by kernel_rfl) ?_
        repeat (go_big_quiet_step (fail))
        refine wpQuiet_nil ?_
        rintro w9 ⟨⟨_, hE9⟩, rfl⟩
        have HE := hide (HE.out.trans hE9)
        clear hE9
        go_wp2
        go_roundw
        case rel => exact ⟨i + 1, by omega, by go_num, HE, HN2⟩
        case measure => simp [intOf]; omega
      · obtain ⟨k, hik⟩ : ∃ k, i = k + 1 := ⟨i - 1, by omega⟩
        have hg0 : decide (0 < i) = true := by simp; omega
        have hpk := HPK.out k hik
        obtain ⟨-, -, -, -, -, -, y6⟩ := HXP.out k hik
        replace y6 := y6 _ HE.out
        have x6 := HXR.out _ HE.out
        have hpb := HPS.out
        have hwi := HWI.out
        rw [hpk] at hpb hwi
        clear HPS HPK HPZ HXP HXR HX HWI hpk
        generalize (l.getD k default).f = pf at y6 hpb hwi
        have HIN := hide (fun W => rinside_any pf r.f W (by omega) (by omega) (by omega) (by omega))
        have hk1 : IntKind.i64.wrap ((i : Int) - 1) = (k : Int) := by rw [show (i : Int) - 1 = (k : Int) by omega]; exact IntWalk.i64_in _ (by omega)
        have hkk : (k : Int) < (l.length : Int) := by omega
        have hkn : k < l.length := by omega
        have HIK := hide hik
        have HI0 := hide hi0
        clear hik hi0 hpb
        cases hins : inside pf r.f with
        | false =>
          rw [hins, if_neg (by decide)] at hwi
          have HR := hide (HKI.out (by rw [hwi]; decide))
          rw [hwi] at HR
          rw [hins] at HIN
          clear hwi hins HN HKI
          refine wp_region_ext (by kernel_rfl) (by kernel_rfl) ?_
          repeat (go_big_quiet_step ((go_at_call 52; exact Calls.ext_same (HIN.out _))))
          refine wpQuiet_nil ?_
          rintro w9 ⟨⟨_, hE9⟩, rfl⟩
          have HE := hide (HE.out.trans hE9)
          clear hE9 hk1 y6 x6
          go_wp2
          go_ret
          exact ⟨ret_int HR.out.symm, HE.out⟩
        | true =>
          rw [hins, if_pos rfl] at hwi
          have HN2 := hide (HN.out hwi)
          rw [hins] at HIN
          clear hwi hins HN HKI
          refine wp_region_ext (by kernel_rfl) (by kernel_rfl) ?_
          repeat (go_big_quiet_step ((go_at_call 52; exact Calls.ext_same (HIN.out _))))
          refine wpQuiet_nil ?_
          rintro w9 ⟨⟨_, hE9⟩, rfl⟩
          have HE := hide (HE.out.trans hE9)
          clear hE9 hk1 y6 x6
          go_wp2
          go_roundw
          case rel => exact ⟨i + 1, by omega, by go_num, HE, HN2⟩
          case measure => simp [intOf]; omega
    · obtain rfl : i = l.length := by omega
      have HR := hide (HEN.out HJ.out)
      go_wp2_with fail
      go_ret
      exact ⟨ret_int HR.out.symm, HE.out⟩
theorem rdlast_any (l : List Rd) (v : Value) (w : World) (hv : Row Rd.cells 7 w v l) : Calls Tryd.prog 44 #[v] w fun e w' => e = .returned (.int .i64 (lastF l)) ∧ w' = w := by
  obtain ⟨p, c, rfl, hc, hlen, hat⟩ := hv.rd_all
  have HA := hide hat
  clear hv hat
  by_cases h0 : l.length = 0
  · have HR : Hid (lastF l = 0) := by show _ = _; unfold lastF; rw [h0]; rfl
    have hd : ((l.length : Int) == 0) = true := by rw [h0]; rfl
    have H0 := hide h0
    clear h0
    go_enter Tryd.func44, Tryd.ntmps44
    go_wp2_with fail
    go_ret
    exact ⟨ret_int HR.out.symm, rfl⟩
  · obtain ⟨b, o, rfl, hb, hat⟩ := HA.out (by omega)
    obtain ⟨k, hk⟩ : ∃ k, l.length = k + 1 := ⟨l.length - 1, by omega⟩
    have HR : Hid (lastF l = (l.getD k default).f) := by show _ = _; unfold lastF; rw [hk]; rfl
    obtain ⟨-, -, -, -, -, -, y6⟩ := hat k (by omega)
    replace y6 := y6 _ (Ext.refl _)
    have hd : ((l.length : Int) == 0) = false := by rw [beq_eq_false_iff_ne]; omega
    have hk1 : IntKind.i64.wrap ((l.length : Int) - 1) = (k : Int) := by rw [show (l.length : Int) - 1 = (k : Int) by omega]; exact IntWalk.i64_in _ (by omega)
    have hk2 : wrap64 ((l.length : Int) - 1) = (k : Int) := by unfold wrap64; omega
    have hkk : (k : Int) < (l.length : Int) := by omega
    have hkn : k < l.length := by omega
    generalize (l.getD k default).f = x at y6 HR
    generalize lastF l = res at HR ⊢
    have HK := hide hk
    have H0 := hide h0
    clear hk h0 HA hat
    generalize l.length = n at *
    go_enter Tryd.func44, Tryd.ntmps44
    go_wp2_with fail
    go_ret
    exact ⟨ret_int HR.out.symm, rfl⟩
theorem rrdlast_any (l : List Rd) (v : Value) (w : World) (hv : Row Rd.cells 7 w v l) : Calls Tryd.prog 45 #[v] w fun e w' => e = .returned (.int .i64 (lastF l)) ∧ w' = w := by
  obtain ⟨p, c, rfl, hc, hlen, hat⟩ := hv.rd_all
  have HA := hide hat
  clear hv hat
  by_cases h0 : l.length = 0
  · have HR : Hid (lastF l = 0) := by show _ = _; unfold lastF; rw [h0]; rfl
    have hd : ((l.length : Int) == 0) = true := by rw [h0]; rfl
    have H0 := hide h0
    clear h0
    go_enter Tryd.func45, Tryd.ntmps45
    go_wp2_with fail
    go_ret
    exact ⟨ret_int HR.out.symm, rfl⟩
  · obtain ⟨b, o, rfl, hb, hat⟩ := HA.out (by omega)
    obtain ⟨k, hk⟩ : ∃ k, l.length = k + 1 := ⟨l.length - 1, by omega⟩
    have HR : Hid (lastF l = (l.getD k default).f) := by show _ = _; unfold lastF; rw [hk]; rfl
    obtain ⟨-, -, -, -, -, -, y6⟩ := hat k (by omega)
    replace y6 := y6 _ (Ext.refl _)
    have hd : ((l.length : Int) == 0) = false := by rw [beq_eq_false_iff_ne]; omega
    have hk1 : IntKind.i64.wrap ((l.length : Int) - 1) = (k : Int) := by rw [show (l.length : Int) - 1 = (k : Int) by omega]; exact IntWalk.i64_in _ (by omega)
    have hk2 : wrap64 ((l.length : Int) - 1) = (k : Int) := by unfold wrap64; omega
    have hkk : (k : Int) < (l.length : Int) := by omega
    have hkn : k < l.length := by omega
    generalize (l.getD k default).f = x at y6 HR
    generalize lastF l = res at HR ⊢
    have HK := hide hk
    have H0 := hide h0
    clear hk h0 HA hat
    generalize l.length = n at *
    go_enter Tryd.func45, Tryd.ntmps45
    go_wp2_with fail
    go_ret
    exact ⟨ret_int HR.out.symm, rfl⟩
set_option maxHeartbeats 1000000 in
theorem rdfaulty_any (n : Int) (l : List Rd) (v : Value) (w : World) (hv : Row Rd.cells 7 w v l) : Calls Tryd.prog 15 #[.int .i64 n, v] w (RetV1 (.int .i64 (faultyS n l).1, (faultyS n l).2) w) := by
  have HW := hide (fun W (hE : Ext w W) => rword_any n l v W (hv.ext hE))
  have HL := hide (fun W (hE : Ext w W) => rdlast_any l v W (hv.ext hE))
  obtain ⟨p, c, rfl, -⟩ := hv.rd_all
  clear hv
  unfold faultyS
  by_cases h0 : wordE n l = 0
  · rw [if_neg (fun k => k h0)]
    rw [h0] at HW
    clear h0
    generalize lastF l = x at HL ⊢
    go_enter Tryd.func15, Tryd.ntmps15
    go_wp2_with fail
    refine (HW.out _ (Ext.refl _)).mono ?_
    rintro e w1 ⟨rfl, hE⟩
    have HE := hide hE
    clear hE
    go_wp2_with fail
    refine (HL.out _ HE.out).mono ?_
    rintro e w2 ⟨rfl, rfl⟩
    go_wp2_with fail
    go_ret2
    exact ⟨rfl, HE.out⟩
  · rw [if_pos h0]
    have hd : (wordE n l != 0) = true := by simp [h0]
    have H0 := hide h0
    clear h0
    generalize wordE n l = x at *
    go_enter Tryd.func15, Tryd.ntmps15
    go_wp2_with fail
    refine (HW.out _ (Ext.refl _)).mono ?_
    rintro e w1 ⟨rfl, hE⟩
    have HE := hide hE
    clear hE
    go_wp2_with fail
    go_ret2
    exact ⟨rfl, HE.out⟩
set_option maxHeartbeats 1000000 in
theorem rrdfaulty_any (n : Int) (l : List Rd) (v : Value) (w : World) (hv : Row Rd.cells 7 w v l) : Calls Tryd.prog 16 #[.int .i64 n, v] w (RetV1 (.int .i64 (faultyS n l).1, (faultyS n l).2) w) := by
  have HW := hide (fun W (hE : Ext w W) => rrword_any n l v W (hv.ext hE))
  have HL := hide (fun W (hE : Ext w W) => rrdlast_any l v W (hv.ext hE))
  obtain ⟨p, c, rfl, -⟩ := hv.rd_all
  clear hv
  unfold faultyS
  by_cases h0 : wordE n l = 0
  · rw [if_neg (fun k => k h0)]
    rw [h0] at HW
    clear h0
    generalize lastF l = x at HL ⊢
    go_enter Tryd.func16, Tryd.ntmps16
    go_wp2_with fail
    refine (HW.out _ (Ext.refl _)).mono ?_
    rintro e w1 ⟨rfl, hE⟩
    have HE := hide hE
    clear hE
    go_wp2_with fail
    refine (HL.out _ HE.out).mono ?_
    rintro e w2 ⟨rfl, rfl⟩
    go_wp2_with fail
    go_ret2
    exact ⟨rfl, HE.out⟩
  · rw [if_pos h0]
    have hd : (wordE n l != 0) = true := by simp [h0]
    have H0 := hide h0
    clear h0
    generalize wordE n l = x at *
    go_enter Tryd.func16, Tryd.ntmps16
    go_wp2_with fail
    refine (HW.out _ (Ext.refl _)).mono ?_
    rintro e w1 ⟨rfl, hE⟩
    have HE := hide hE
    clear hE
    go_wp2_with fail
    go_ret2
    exact ⟨rfl, HE.out⟩
theorem rwith_any (s p : Nat) (hs : s < 32) (hp : p < 5) (w : World) : Calls Tryd.prog 76 #[.int .i64 s, .int .i64 p] w fun e w' => e = .returned (.int .i64 (s ||| 2 ^ p : Nat)) ∧ w' = w := by
  have HH : Hid (∀ W, Calls Tryd.prog 75 #[.int .i64 s, .int .i64 p] W fun e w' => e = .returned (.bool (s.testBit p)) ∧ w' = W) := fun W => by
    have h := rhas_any (s : Int) (p : Int) W (by omega) (by omega) (by omega) (by omega)
    rwa [Int.toNat_natCast, has_nat] at h
  have HP : Hid (∀ W, Calls Tryd.prog 102 #[.int .i64 p] W fun e w' => e = .returned (.int .i64 (2 ^ p : Nat)) ∧ w' = W) := fun W => by
    have h := power_any (p : Int) W (by omega) (by omega)
    rwa [Int.toNat_natCast, pow2_int] at h
  have key : ∀ s, s < 32 → ∀ p, p < 5 → (s.testBit p = true → s ||| 2 ^ p = s) ∧ (s.testBit p = false → s ||| 2 ^ p = s + 2 ^ p) := by decide +kernel
  obtain ⟨k1, k2⟩ := key s hs p hp
  have hp2 : 2 ^ p ≤ 32 := pow2_32 (show p ≤ 5 by omega)
  cases hb : s.testBit p with
  | true =>
    rw [hb] at HH
    rw [k1 hb]
    clear k1 k2 hb
    go_enter Tryd.func76, Tryd.ntmps76
    go_wp2_with fail
    refine (HH.out _).mono ?_
    rintro e w1 ⟨rfl, rfl⟩
    go_wp2_with fail
    go_ret
    exact ⟨rfl, rfl⟩
  | false =>
    rw [hb] at HH
    rw [k2 hb]
    clear k1 k2 hb key
    generalize 2 ^ p = y at HP hp2 ⊢
    have hw : wrap64 ((s : Int) + (y : Int)) = ((s + y : Nat) : Int) := by rw [Int.natCast_add]; unfold wrap64; omega
    go_enter Tryd.func76, Tryd.ntmps76
    go_wp2_with fail
    refine (HH.out _).mono ?_
    rintro e w1 ⟨rfl, rfl⟩
    go_wp2_with fail
    refine (HP.out _).mono ?_
    rintro e w2 ⟨rfl, rfl⟩
    go_wp2_with fail
    go_ret
    exact ⟨by first | rfl | (congr 2), rfl⟩
set_option maxRecDepth 16000 in
theorem rrest_any (n s : Nat) (hn : n ≤ 5) (hs : s < 2 ^ n) (w : World) : Calls Tryd.prog 46 #[.int .i64 n, .int .i64 s] w fun e w' => e = .returned (.int .i64 ((2 ^ n - 1) - s : Nat)) ∧ w' = w := by
  have hs32 := n32' hn hs
  have HH : Hid (∀ p W, p < 5 → Calls Tryd.prog 75 #[.int .i64 s, .int .i64 (p : Nat)] W fun e w' => e = .returned (.bool (s.testBit p)) ∧ w' = W) := fun p W hp => by
    have h := rhas_any (s : Int) (p : Int) W (by omega) (by omega) (by omega) (by omega)
    rwa [Int.toNat_natCast, has_nat] at h
  have HW := hide (fun s p hs hp W => rwith_any s p hs hp W)
  have HS := hide (fun p => show setOf (fun q => !s.testBit q) (p + 1) = setOf (fun q => !s.testBit q) p ||| (if (!s.testBit p) = true then 2 ^ p else 0) from rfl)
  have HL := hide (fun p (hp : p ≤ 5) => setOf_lt (fun q => !s.testBit q) p 5 hp)
  have HE : Hid (setOf (fun q => !s.testBit q) n = (2 ^ n - 1) - s) := by
    show _ = _
    refine Nat.eq_of_testBit_eq fun q => ?_
    rw [setOf_bit, obl_bit hs]
  have H0 : Hid (setOf (fun q => !s.testBit q) 0 = 0) := rfl
  generalize setOf (fun q => !s.testBit q) = so at HS HL HE H0
  generalize (2 ^ n - 1) - s = res at HE ⊢
  clear hs
  go_enter Tryd.func46, Tryd.ntmps46
  go_wp2_with fail
  go_loop [5, 6] (fun o x => ∃ p : Nat, p ≤ n ∧ x = .int .i64 p ∧ o = .int .i64 (so p : Nat)) (fun _ x => n - (intOf x).toNat)
  case atStart => exact ⟨0, by omega, rfl, by rw [H0.out]; rfl⟩
  case round =>
    obtain ⟨p, hp, rfl, rfl⟩ := hrel
    by_cases hlt : p < n
    · have HC := hide (fun W => HH.out p W (by omega))
      have HS2 := hide (HS.out p)
      have hl := HL.out p (by omega)
      cases hb : s.testBit p with
      | true =>
        rw [hb] at HC
        have HS3 : Hid (so (p + 1) = so p) := by show _ = _; rw [HS2.out, hb]; simp
        clear HS2 hb
        go_wp2_with fail
        refine (HC.out _).mono ?_
        rintro e w1 ⟨rfl, rfl⟩
        go_wp2_with fail
        go_round
        case rel => exact ⟨p + 1, by omega, by go_num, by rw [HS3.out]⟩
        case measure => simp [intOf]; omega
      | false =>
        rw [hb] at HC
        have HS3 : Hid (so (p + 1) = so p ||| 2 ^ p) := by show _ = _; rw [HS2.out, hb]; simp
        have HD := hide (fun W => HW.out (so p) p (Nat.lt_of_lt_of_le hl (by decide)) (by omega) W)
        clear HS2 hb
        go_wp2_with fail
        refine (HC.out _).mono ?_
        rintro e w1 ⟨rfl, rfl⟩
        go_wp2_with fail
        refine (HD.out _).mono ?_
        rintro e w1 ⟨rfl, rfl⟩
        go_wp2_with fail
        go_round
        case rel => exact ⟨p + 1, by omega, by go_num, by rw [HS3.out]⟩
        case measure => simp [intOf]; omega
    · obtain rfl : p = n := by omega
      go_wp2_with fail
      go_ret
      exact ⟨by rw [← HE.out]; rfl, rfl⟩
theorem andnot_full : ∀ n, n ≤ 5 → ∀ s, s < 2 ^ n → bits .andNot .i64 ((2 ^ n - 1 : Nat) : Int) ((s : Nat) : Int) = (((2 ^ n - 1) - s : Nat) : Int) := by decide +kernel
set_option maxRecDepth 16000 in
set_option maxHeartbeats 1000000 in
theorem rdobliged_any (n : Int) (l : List Rd) (v : Value) (w : World) (hv : Row Rd.cells 7 w v l) : Calls Tryd.prog 17 #[.int .i64 n, v] w (RetV1 (.int .i64 (obligedS n l).1, (obligedS n l).2) w) := by
  have HW := hide (fun W (hE : Ext w W) => rword_any n l v W (hv.ext hE))
  have HL := hide (fun W (hE : Ext w W) => rdlast_any l v W (hv.ext hE))
  obtain ⟨p, c, rfl, -⟩ := hv.rd_all
  clear hv
  unfold obligedS
  by_cases h0 : wordE n l = 0
  · obtain ⟨m, rfl, ho⟩ := word_of h0
    rw [if_neg (fun k => k h0)]
    rw [h0] at HW
    have h1 := ho.n1
    have h5 := ho.n5
    obtain ⟨k1, k2⟩ := prevF_bd ho l.length (Nat.le_refl _)
    have k1 : lastF l = ((lastF l).toNat : Int) := k1
    have k2 : (lastF l).toNat < 2 ^ m := k2
    have hpl := pow_len m h1 h5
    have han := andnot_full m h5 _ k2
    have hm1 : wrap64 (((2 ^ m : Nat) : Int) - 1) = ((2 ^ m - 1 : Nat) : Int) := by have := pow2_32 h5; have := Nat.two_pow_pos m; unfold wrap64; omega
    have hpl2 : IntKind.i64.wrap ((2 : Int) ^ m) = ((2 ^ m : Nat) : Int) := by rw [pow2_int]; have := pow2_32 h5; exact IntWalk.i64_in _ (by omega)
    have hm2 : IntKind.i64.wrap (((2 ^ m : Nat) : Int) - 1) = ((2 ^ m - 1 : Nat) : Int) := by have := pow2_32 h5; have := Nat.two_pow_pos m; rw [IntWalk.i64_in _ (by omega)]; omega
    rw [Int.toNat_natCast]
    unfold oblN
    rw [k1] at HL
    generalize (lastF l).toNat = x at HL han ⊢
    have HX : Hid (2 ^ m - 1 - x = 2 ^ m - 1 - x) := rfl
    generalize 2 ^ m - 1 - x = y at han ⊢
    generalize 2 ^ m - 1 = M at hm1 hm2 han
    generalize 2 ^ m = P at hpl hpl2 hm1 hm2
    clear h0 ho k1 k2 HX
    go_enter Tryd.func17, Tryd.ntmps17
    go_wp2_with fail
    refine (HW.out _ (Ext.refl _)).mono ?_
    rintro e w1 ⟨rfl, hE⟩
    have HE := hide hE
    clear hE
    go_upto_region 4 with fail
    refine wp_region_heldAll (fun V => Ext w1 V) (by kernel_rfl) ?_
    intro W5 hW_
    have hR5 : Ext w1 W5 := by rw [hW_]; exact (Ext.refl w1).drew
    clear hW_
    refine wpAnyT_take (i := 0) (.int .i64 (m : Nat)) rfl (by kernel_rfl) (by kernel_rfl) (by kernel_rfl) (by simp [Region.wanted]) (fun V hV => by go_simp) hR5 ?_
    try simp only [Act.put, List.getElem_toArray, List.getElem_cons_zero, List.setIfInBounds_toArray, List.set_cons_zero, List.set_cons_succ]
    refine wpAnyT_take (i := 1) (.int .i64 (P : Nat)) rfl (by kernel_rfl) (by kernel_rfl) (by kernel_rfl) (by simp [Region.wanted]) (fun V hV => by go_simp) hR5 ?_
    try simp only [Act.put, List.getElem_toArray, List.getElem_cons_zero, List.getElem_cons_succ, List.setIfInBounds_toArray, List.set_cons_zero, List.set_cons_succ]
    refine wpAnyT_take (i := 2) (.int .i64 (M : Nat)) rfl (by kernel_rfl) (by kernel_rfl) (by kernel_rfl) (by simp [Region.wanted]) (fun V hV => by go_simp) hR5 ?_
    try simp only [Act.put, List.getElem_toArray, List.getElem_cons_zero, List.getElem_cons_succ, List.setIfInBounds_toArray, List.set_cons_zero, List.set_cons_succ]
    refine wpAnyT_take (i := 3) (.slice p l.length c) rfl (by kernel_rfl) (by kernel_rfl) (by kernel_rfl) (by simp [Region.wanted]) (fun V hV => by go_simp) hR5 ?_
    try simp only [Act.put, List.getElem_toArray, List.getElem_cons_zero, List.getElem_cons_succ, List.setIfInBounds_toArray, List.set_cons_zero, List.set_cons_succ]
    refine wpAnyT_one (i := 4) rfl (by kernel_rfl) (fun K hK => ?_)
    go_wp2_with fail
    refine (HL.out _ (HE.out.trans hR5)).mono ?_
    rintro e w6 ⟨rfl, rfl⟩
    go_wp2_with fail
    refine ⟨rfl, hK _ _ hR5 ?_⟩
    clear hK K
    try simp only [Act.put, List.getElem_toArray, List.getElem_cons_zero, List.getElem_cons_succ, List.setIfInBounds_toArray, List.set_cons_zero, List.set_cons_succ]
    refine wpAnyT_take (i := 5) (.int .i64 (y : Nat)) rfl (by kernel_rfl) (by kernel_rfl) (by kernel_rfl) (by simp [Region.wanted]) (fun V hV => by go_simp) hR5 ?_
    try simp only [Act.put, List.getElem_toArray, List.getElem_cons_zero, List.getElem_cons_succ, List.setIfInBounds_toArray, List.set_cons_zero, List.set_cons_succ]
    refine wpAnyT_take (i := 6) (.int .i64 (y : Nat)) rfl (by kernel_rfl) (by kernel_rfl) (by kernel_rfl) (by simp [Region.wanted]) (fun V hV => by go_simp) hR5 ?_
    try simp only [Act.put, List.getElem_toArray, List.getElem_cons_zero, List.getElem_cons_succ, List.setIfInBounds_toArray, List.set_cons_zero, List.set_cons_succ]
    refine wpAnyT_take (i := 7) (.int .i64 0) rfl (by kernel_rfl) (by kernel_rfl) (by kernel_rfl) (by simp [Region.wanted]) (fun V hV => by go_simp) hR5 ?_
    try simp only [Act.put, List.getElem_toArray, List.getElem_cons_zero, List.getElem_cons_succ, List.setIfInBounds_toArray, List.set_cons_zero, List.set_cons_succ]
    refine wpAnyT_done (by kernel_rfl) ?_ _
    go_wp2_with fail
    go_ret2
    exact ⟨rfl, HE.out.trans hR5⟩
  · rw [if_pos h0]
    have hd : (wordE n l != 0) = true := by simp [h0]
    have H0 := hide h0
    clear h0
    generalize wordE n l = x at *
    go_enter Tryd.func17, Tryd.ntmps17
    go_wp2_with fail
    refine (HW.out _ (Ext.refl _)).mono ?_
    rintro e w1 ⟨rfl, hE⟩
    have HE := hide hE
    clear hE
    go_wp2_with fail
    go_ret2
    exact ⟨rfl, HE.out⟩
set_option maxHeartbeats 1000000 in
theorem rrdobliged_any (n : Int) (l : List Rd) (v : Value) (w : World) (hv : Row Rd.cells 7 w v l) : Calls Tryd.prog 18 #[.int .i64 n, v] w (RetV1 (.int .i64 (obligedS n l).1, (obligedS n l).2) w) := by
  have HW := hide (fun W (hE : Ext w W) => rrword_any n l v W (hv.ext hE))
  have HL := hide (fun W (hE : Ext w W) => rrdlast_any l v W (hv.ext hE))
  obtain ⟨p, c, rfl, -⟩ := hv.rd_all
  clear hv
  unfold obligedS
  by_cases h0 : wordE n l = 0
  · obtain ⟨m, rfl, ho⟩ := word_of h0
    rw [if_neg (fun k => k h0)]
    rw [h0] at HW
    obtain ⟨k1, k2⟩ := prevF_bd ho l.length (Nat.le_refl _)
    have k1 : lastF l = ((lastF l).toNat : Int) := k1
    have k2 : (lastF l).toNat < 2 ^ m := k2
    have HR := hide (fun W => rrest_any m (lastF l).toNat ho.n5 k2 W)
    rw [Int.toNat_natCast]
    unfold oblN
    rw [k1] at HL
    generalize (lastF l).toNat = x at HL HR ⊢
    generalize 2 ^ m - 1 - x = y at HR ⊢
    clear h0 ho k1 k2
    go_enter Tryd.func18, Tryd.ntmps18
    go_wp2_with fail
    refine (HW.out _ (Ext.refl _)).mono ?_
    rintro e w1 ⟨rfl, hE⟩
    have HE := hide hE
    clear hE
    go_wp2_with fail
    refine (HL.out _ HE.out).mono ?_
    rintro e w2 ⟨rfl, rfl⟩
    go_wp2_with fail
    refine (HR.out _).mono ?_
    rintro e w3 ⟨rfl, rfl⟩
    go_wp2_with fail
    go_ret2
    exact ⟨rfl, HE.out⟩
  · rw [if_pos h0]
    have hd : (wordE n l != 0) = true := by simp [h0]
    have H0 := hide h0
    clear h0
    generalize wordE n l = x at *
    go_enter Tryd.func18, Tryd.ntmps18
    go_wp2_with fail
    refine (HW.out _ (Ext.refl _)).mono ?_
    rintro e w1 ⟨rfl, hE⟩
    have HE := hide hE
    clear hE
    go_wp2_with fail
    go_ret2
    exact ⟨rfl, HE.out⟩
end Go.Proofs.YtfnhjalnbmnlaaaDoor
