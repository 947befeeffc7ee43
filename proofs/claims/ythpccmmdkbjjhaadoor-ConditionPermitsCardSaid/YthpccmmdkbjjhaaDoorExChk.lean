/-
  The check and the kind of an expression, of the reference and of the program.
  Conditions: as each theorem states.
-/
import Derived.Test.YthpccmmdkbjjhaaDoorExNodeP
import Derived.Test.YthpccmmdkbjjhaaDoorExSize
namespace Go.Proofs.YthpccmmdkbjjhaaDoor
open Go.RowKit

theorem rinner_any (e : Ex) (vars : Int) (v : Value) (w : World) (hv : ExAt w v e) (h : -1000000 ≤ vars) (h' : vars ≤ 1000000) :
    Calls Tryd.prog 134 #[v, .int .i64 vars] w fun e' w' => e' = .returned (.int .i64 (innerV e.op vars)) ∧ Ext w w' := by
  obtain ⟨p, c, rfl, hc, hl⟩ := hv.form
  clear hv
  unfold innerV
  have HQ := hide (quant_any e.op)
  have hE0 : Ext w (w.alloc (.cells #[.int .i64 e.op, .int .i64 e.num, .slice p e.args.length c] 26)) := (Ext.refl w).alloc _
  cases hq : isQ e.op
  all_goals
    rw [hq] at HQ
    clear hq
    go_enter Tryd.func134, Tryd.ntmps134
    go_wp2_with fail
    refine (HQ.out _).mono ?_
    rintro e' w1 ⟨rfl, rfl⟩
    go_wp2_with fail
    go_ret
    exact ⟨by simp, hE0⟩
theorem innerV_bd (op vars : Int) : vars ≤ innerV op vars ∧ innerV op vars ≤ vars + 1 := by unfold innerV; split <;> omega
theorem nodesE_mk (op num : Int) (xs : List Ex) (vars : Int) : nodesE (.mk op num xs) vars = if nodeErr (.mk op num xs) vars ≠ 0 then nodeErr (.mk op num xs) vars else nodesEL xs (innerV op vars) := rfl

set_option maxHeartbeats 1000000 in
theorem rnodes_any : ∀ (e : Ex) (vars : Int) (v : Value) (w : World), ExAt w v e → 0 ≤ vars → vars + e.nodes ≤ 1000000 →
    Calls Tryd.prog 116 #[v, .int .i64 vars] w fun e' w' => e' = .returned (.int .i64 (nodesE e vars)) ∧ Ext w w' := by
  refine Ex.ind (P := fun e => ∀ (vars : Int) (v : Value) (w : World), ExAt w v e → 0 ≤ vars → vars + e.nodes ≤ 1000000 →
    Calls Tryd.prog 116 #[v, .int .i64 vars] w fun e' w' => e' = .returned (.int .i64 (nodesE e vars)) ∧ Ext w w') ?_
  intro op num xs ih vars v w hv h0 h1
  have HI := hide ih
  have HNO := hide (fun W (hW : Ext w W) => rnode_any (.mk op num xs) vars v W (hv.ext hW))
  have HIN := hide (fun W (hW : Ext w W) => rinner_any (.mk op num xs) vars v W (hv.ext hW) (by omega) (by omega))
  obtain ⟨p, c, rfl, hc, hl, hat⟩ := hv.all_
  simp only [Ex.op, Ex.num, Ex.args] at hc hl hat ⊢
  have HAT := hide hat
  clear ih hv hat
  have hnl : vars + 1 + Ex.nodesL xs ≤ 1000000 := by simp only [Ex.nodes] at h1; omega
  have hib := innerV_bd op vars
  generalize hres : nodesE (.mk op num xs) vars = res
  rw [nodesE_mk] at hres
  clear h1
  have hE0 : Ext w (w.alloc (.cells #[.int .i64 op, .int .i64 num, .slice p xs.length c] 26)) := (Ext.refl w).alloc _
  have HB := hide (fun w1 => xbox w op num (.slice p xs.length c) (w1 := w1))
  generalize nodeErr (.mk op num xs) vars = ne at HNO hres
  by_cases hne : ne ≠ 0
  · rw [if_pos hne] at hres
    have HR := hide hres
    have hd : (ne != 0) = true := by simp [hne]
    clear hres hne
    go_enter Tryd.func116, Tryd.ntmps116
    go_wp2_with fail
    refine (HNO.out _ hE0).mono ?_
    rintro e' w1 ⟨rfl, hE1⟩
    obtain ⟨c0, c1, c2, hz⟩ := HB.out _ hE1
    go_wp2_with fail
    go_ret
    exact ⟨ret_int HR.out, hE0.trans hE1⟩
  rw [if_neg hne] at hres
  have HR := hide hres
  have hd : (ne != 0) = false := by simpa using hne
  clear hres hne
  simp only [Ex.op] at HIN
  generalize innerV op vars = iv at HIN HR hib
  go_enter Tryd.func116, Tryd.ntmps116
  go_wp2_with fail
  refine (HNO.out _ hE0).mono ?_
  rintro e' w1 ⟨rfl, hE1⟩
  obtain ⟨c0, c1, c2, hz⟩ := HB.out _ hE1
  go_wp2_with fail
  clear c0 c1 c2 hz
  obtain ⟨wa, hwa⟩ : ∃ wa : World, wa = w1 := ⟨_, rfl⟩
  have hEa : Ext wa w1 := by rw [hwa]; exact Ext.refl _
  rw [← hwa] at hE1
  clear hwa
  go_loopw [6] (fun x V => ∃ (i : Nat), i ≤ xs.length ∧ x = .int .i64 i ∧ Hid (nodesEL (xs.drop i) iv = res) ∧ Ext wa V) (fun x _ => xs.length - (intOf x).toNat)
  case atStart => exact ⟨0, by omega, rfl, HR, hEa⟩
  case round =>
    clear hEa
    obtain ⟨i, hi, rfl, hr, hE⟩ := hrel
    have hE1r := hE1.trans hE
    have hEr := hE0.trans hE1r
    obtain ⟨c0, c1, c2, hz⟩ := HB.out _ hE1r
    by_cases hlt : i < xs.length
    · obtain ⟨b, o, rfl, hb, hat⟩ := HAT.out (by omega)
      obtain ⟨q, d, ⟨x0, x1, x2⟩, hx⟩ := hat i hlt
      have hbr : b < wr.heap.size := Nat.lt_of_lt_of_le hb hEr.size
      replace x0 := x0 _ hEr
      replace x1 := x1 _ hEr
      replace x2 := x2 _ hEr
      have hnm := Ex.nodes_mem (mem_getD hlt)
      have HC := hide (fun W hW => HI.out _ (mem_getD hlt) iv _ W (hx.ext hW) (by omega) (by omega))
      have hr2 := hr.out
      rw [drop_getD hlt] at hr2
      simp only [nodesEL] at hr2
      have HN := hide (fun h : nodesE (xs.getD i default) iv = 0 => (if_neg (fun h2 => h2 h)).symm.trans hr2)
      have HX := hide (fun h : nodesE (xs.getD i default) iv ≠ 0 => (if_pos h).symm.trans hr2)
      clear hat hx hr hr2 hnm
      generalize nodesE (xs.getD i default) iv = m at HC HN HX
      generalize xs.getD i default = y at x0 x1 x2 HC
      go_wp2_with fail
      refine wp_region_ext (by kernel_rfl) (by kernel_rfl) ?_
      repeat (go_big_quiet_step ((first | (go_at_call 134; exact Calls.ext_of (HIN.out _ (by simp [go_sem, hEr]))) | (go_at_call 116; exact Calls.ext_of (HC.out _ (by simp [go_sem, hEr]))))))
      refine wpQuiet_nil ?_
      rintro w9 ⟨⟨_, hE9⟩, rfl⟩
      clear c0 c1 c2 x0 x1 x2
      by_cases hm : m = 0
      · have hd2 : (m != 0) = false := by simp [hm]
        have HR2 := hide (HN.out hm)
        clear hm
        go_wp2_with fail
        go_roundw
        case rel => exact ⟨i + 1, by omega, by go_num, HR2, hE.trans hE9⟩
        case measure => simp [intOf]; omega
      · have hd2 : (m != 0) = true := by simp [hm]
        have HR2 := hide (HX.out hm)
        clear hm
        go_wp2_with fail
        go_ret
        exact ⟨ret_int HR2.out, (hE0.trans hE1).trans (hE.trans hE9)⟩
    · have hr2 := hr.out
      rw [List.drop_of_length_le (by omega)] at hr2
      have HR2 := hide (show 0 = res from hr2)
      clear hr hr2
      obtain rfl : i = xs.length := by omega
      go_wp2_with fail
      go_ret
      exact ⟨ret_int HR2.out, hEr⟩

set_option maxHeartbeats 1000000 in
theorem pnodes_any : ∀ (e : Ex) (vars : Int) (v : Value) (w : World), Tab w → ExAt w v e → 0 ≤ vars → vars + e.nodes ≤ 1000000 →
    Calls Tryd.prog 125 #[v, .int .i64 vars] w fun e' w' => e' = .returned (.int .i64 (nodesE e vars)) ∧ Ext w w' := by
  refine Ex.ind (P := fun e => ∀ (vars : Int) (v : Value) (w : World), Tab w → ExAt w v e → 0 ≤ vars → vars + e.nodes ≤ 1000000 →
    Calls Tryd.prog 125 #[v, .int .i64 vars] w fun e' w' => e' = .returned (.int .i64 (nodesE e vars)) ∧ Ext w w') ?_
  intro op num xs ih vars v w hT hv h0 h1
  have HI := hide ih
  have HNO := hide (fun W (hW : Ext w W) => pnode_any (.mk op num xs) vars v W (hT.ext hW) (hv.ext hW))
  have HTB := hide (fun W (hW : Ext w W) => hT.ext hW)
  have HQ := hide (quantifies_any op)
  clear hT
  obtain ⟨p, c, rfl, hc, hl, hat⟩ := hv.all_
  simp only [Ex.op, Ex.num, Ex.args] at hc hl hat ⊢
  have HAT := hide hat
  clear ih hv hat
  have hnl : vars + 1 + Ex.nodesL xs ≤ 1000000 := by simp only [Ex.nodes] at h1; omega
  have hib := innerV_bd op vars
  generalize hres : nodesE (.mk op num xs) vars = res
  rw [nodesE_mk] at hres
  clear h1
  have hE0 : Ext w (w.alloc (.cells #[.int .i64 op, .int .i64 num, .slice p xs.length c] 26)) := (Ext.refl w).alloc _
  have HB := hide (fun w1 => xbox w op num (.slice p xs.length c) (w1 := w1))
  generalize nodeErr (.mk op num xs) vars = ne at HNO hres
  by_cases hne : ne ≠ 0
  · rw [if_pos hne] at hres
    have HR := hide hres
    have hd : (ne != 0) = true := by simp [hne]
    clear hres hne
    go_enter Tryd.func125, Tryd.ntmps125
    go_wp2_with fail
    refine (HNO.out _ hE0).mono ?_
    rintro e' w1 ⟨rfl, hE1⟩
    obtain ⟨c0, c1, c2, hz⟩ := HB.out _ hE1
    go_wp2_with fail
    go_ret
    exact ⟨ret_int HR.out, hE0.trans hE1⟩
  rw [if_neg hne] at hres
  have HR := hide hres
  have hd : (ne != 0) = false := by simpa using hne
  clear hres hne
  have HIV := hide (show innerV op vars = (if isQ op = true then vars + 1 else vars) from rfl)
  generalize hq : isQ op = b at HQ HIV
  clear hq
  generalize innerV op vars = iv at HR hib HIV
  cases b with
  | false =>
    obtain rfl : iv = vars := HIV.out
    clear HIV
    go_enter Tryd.func125, Tryd.ntmps125
    go_wp2_with fail
    refine (HNO.out _ hE0).mono ?_
    rintro e' w0 ⟨rfl, hE1⟩
    obtain ⟨c0, c1, c2, hz⟩ := HB.out _ hE1
    go_wp2_with fail
    refine (HQ.out _).mono ?_
    rintro e' w1 ⟨rfl, hw1⟩
    have hE1 := hE1.trans (show Ext w0 w1 by rw [hw1]; exact Ext.refl _)
    clear hw1 c0 c1 c2 hz
    obtain ⟨c0, c1, c2, hz⟩ := HB.out _ hE1
    go_wp2_with fail
    clear c0 c1 c2 hz
    obtain ⟨wa, hwa⟩ : ∃ wa : World, wa = w1 := ⟨_, rfl⟩
    have hEa : Ext wa w1 := by rw [hwa]; exact Ext.refl _
    rw [← hwa] at hE1
    clear hwa
    go_loopw [23] (fun x V => ∃ (i : Nat), i ≤ xs.length ∧ x = .int .i64 i ∧ Hid (nodesEL (xs.drop i) iv = res) ∧ Ext wa V) (fun x _ => xs.length - (intOf x).toNat)
    case atStart => exact ⟨0, by omega, rfl, HR, hEa⟩
    case round =>
      clear hEa
      obtain ⟨i, hi, rfl, hr, hE⟩ := hrel
      have hE1r := hE1.trans hE
      have hEr := hE0.trans hE1r
      obtain ⟨c0, c1, c2, hz⟩ := HB.out _ hE1r
      by_cases hlt : i < xs.length
      · obtain ⟨b, o, rfl, hb, hat⟩ := HAT.out (by omega)
        obtain ⟨q, d, ⟨x0, x1, x2⟩, hx⟩ := hat i hlt
        have hbr : b < wr.heap.size := Nat.lt_of_lt_of_le hb hEr.size
        replace x0 := x0 _ hEr
        replace x1 := x1 _ hEr
        replace x2 := x2 _ hEr
        have hnm := Ex.nodes_mem (mem_getD hlt)
        have HC := hide (fun W hW => HI.out _ (mem_getD hlt) iv _ W (HTB.out W hW) (hx.ext hW) (by omega) (by omega))
        have hr2 := hr.out
        rw [drop_getD hlt] at hr2
        simp only [nodesEL] at hr2
        have HN := hide (fun h : nodesE (xs.getD i default) iv = 0 => (if_neg (fun h2 => h2 h)).symm.trans hr2)
        have HX := hide (fun h : nodesE (xs.getD i default) iv ≠ 0 => (if_pos h).symm.trans hr2)
        clear hat hx hr hr2 hnm
        generalize nodesE (xs.getD i default) iv = m at HC HN HX
        generalize xs.getD i default = y at x0 x1 x2 HC
        go_wp2_with fail
        refine (HC.out _ (hEr.alloc _)).mono ?_
        rintro e' w9 ⟨rfl, hE9⟩
        clear c0 c1 c2 x0 x1 x2
        by_cases hm : m = 0
        · have hd2 : (m != 0) = false := by simp [hm]
          have HR2 := hide (HN.out hm)
          clear hm
          go_wp2_with fail
          go_roundw
          case rel => exact ⟨i + 1, by omega, by go_num, HR2, (hE.alloc _).trans hE9⟩
          case measure => simp [intOf]; omega
        · have hd2 : (m != 0) = true := by simp [hm]
          have HR2 := hide (HX.out hm)
          clear hm
          go_wp2_with fail
          go_ret
          exact ⟨ret_int HR2.out, (hE0.trans hE1).trans ((hE.alloc _).trans hE9)⟩
      · have hr2 := hr.out
        rw [List.drop_of_length_le (by omega)] at hr2
        have HR2 := hide (show 0 = res from hr2)
        clear hr hr2
        obtain rfl : i = xs.length := by omega
        go_wp2_with fail
        go_ret
        exact ⟨ret_int HR2.out, hEr⟩
  | true =>
    obtain rfl : iv = vars + 1 := HIV.out
    clear HIV
    go_enter Tryd.func125, Tryd.ntmps125
    go_wp2_with fail
    refine (HNO.out _ hE0).mono ?_
    rintro e' w0 ⟨rfl, hE1⟩
    obtain ⟨c0, c1, c2, hz⟩ := HB.out _ hE1
    go_wp2_with fail
    refine (HQ.out _).mono ?_
    rintro e' w1 ⟨rfl, hw1⟩
    have hE1 := hE1.trans (show Ext w0 w1 by rw [hw1]; exact Ext.refl _)
    clear hw1 c0 c1 c2 hz
    obtain ⟨c0, c1, c2, hz⟩ := HB.out _ hE1
    go_wp2_with fail
    clear c0 c1 c2 hz
    obtain ⟨wa, hwa⟩ : ∃ wa : World, wa = w1 := ⟨_, rfl⟩
    have hEa : Ext wa w1 := by rw [hwa]; exact Ext.refl _
    rw [← hwa] at hE1
    clear hwa
    go_loopw [23] (fun x V => ∃ (i : Nat), i ≤ xs.length ∧ x = .int .i64 i ∧ Hid (nodesEL (xs.drop i) (vars + 1) = res) ∧ Ext wa V) (fun x _ => xs.length - (intOf x).toNat)
    case atStart => exact ⟨0, by omega, rfl, HR, hEa⟩
    case round =>
      clear hEa
      obtain ⟨i, hi, rfl, hr, hE⟩ := hrel
      have hE1r := hE1.trans hE
      have hEr := hE0.trans hE1r
      obtain ⟨c0, c1, c2, hz⟩ := HB.out _ hE1r
      by_cases hlt : i < xs.length
      · obtain ⟨b, o, rfl, hb, hat⟩ := HAT.out (by omega)
        obtain ⟨q, d, ⟨x0, x1, x2⟩, hx⟩ := hat i hlt
        have hbr : b < wr.heap.size := Nat.lt_of_lt_of_le hb hEr.size
        replace x0 := x0 _ hEr
        replace x1 := x1 _ hEr
        replace x2 := x2 _ hEr
        have hnm := Ex.nodes_mem (mem_getD hlt)
        have HC := hide (fun W hW => HI.out _ (mem_getD hlt) (vars + 1) _ W (HTB.out W hW) (hx.ext hW) (by omega) (by omega))
        have hr2 := hr.out
        rw [drop_getD hlt] at hr2
        simp only [nodesEL] at hr2
        have HN := hide (fun h : nodesE (xs.getD i default) (vars + 1) = 0 => (if_neg (fun h2 => h2 h)).symm.trans hr2)
        have HX := hide (fun h : nodesE (xs.getD i default) (vars + 1) ≠ 0 => (if_pos h).symm.trans hr2)
        clear hat hx hr hr2 hnm
        generalize nodesE (xs.getD i default) (vars + 1) = m at HC HN HX
        generalize xs.getD i default = y at x0 x1 x2 HC
        go_wp2_with fail
        refine (HC.out _ (hEr.alloc _)).mono ?_
        rintro e' w9 ⟨rfl, hE9⟩
        clear c0 c1 c2 x0 x1 x2
        by_cases hm : m = 0
        · have hd2 : (m != 0) = false := by simp [hm]
          have HR2 := hide (HN.out hm)
          clear hm
          go_wp2_with fail
          go_roundw
          case rel => exact ⟨i + 1, by omega, by go_num, HR2, (hE.alloc _).trans hE9⟩
          case measure => simp [intOf]; omega
        · have hd2 : (m != 0) = true := by simp [hm]
          have HR2 := hide (HX.out hm)
          clear hm
          go_wp2_with fail
          go_ret
          exact ⟨ret_int HR2.out, (hE0.trans hE1).trans ((hE.alloc _).trans hE9)⟩
      · have hr2 := hr.out
        rw [List.drop_of_length_le (by omega)] at hr2
        have HR2 := hide (show 0 = res from hr2)
        clear hr hr2
        obtain rfl : i = xs.length := by omega
        go_wp2_with fail
        go_ret
        exact ⟨ret_int HR2.out, hEr⟩

set_option maxHeartbeats 1000000 in
theorem rexcheck_any (e : Ex) (vars : Int) (v : Value) (w : World) (hv : ExAt w v e) (hn : e.nodes ≤ 100000) :
    Calls Tryd.prog 93 #[v, .int .i64 vars] w fun e' w' => e' = .returned (.int .i64 (exchk e vars)) ∧ Ext w w' := by
  have HS := hide (fun W (hW : Ext w W) => rsize_any e v W (hv.ext hW) (by omega))
  have HNO := hide (fun W (hW : Ext w W) h0 h1 => rnodes_any e vars v W (hv.ext hW) h0 h1)
  have hd := Ex.depth_le e
  obtain ⟨p, c, rfl, hc, hl⟩ := hv.form
  clear hv
  have hE0 : Ext w (w.alloc (.cells #[.int .i64 e.op, .int .i64 e.num, .slice p e.args.length c] 26)) := (Ext.refl w).alloc _
  have HB := hide (fun w1 => xbox w e.op e.num (.slice p e.args.length c) (w1 := w1))
  generalize hres : exchk e vars = res
  unfold exchk at hres
  by_cases h1 : vars < 0 ∨ 24 < vars
  · rw [if_pos h1] at hres
    have HR := hide hres
    clear hres
    rcases h1 with h1 | h1
    · go_enter Tryd.func93, Tryd.ntmps93
      go_wp2_with fail
      go_ret
      exact ⟨ret_int HR.out, hE0⟩
    · have h2 : ¬ vars < 0 := by omega
      go_enter Tryd.func93, Tryd.ntmps93
      go_wp2_with fail
      go_ret
      exact ⟨ret_int HR.out, hE0⟩
  rw [if_neg h1] at hres
  have d1 : ¬ vars < 0 := by omega
  have d2 : ¬ 24 < vars := by omega
  have hno := fun W hW => HNO.out W hW (by omega) (by omega)
  have HNP := hide hno
  clear hno h1 HNO
  generalize e.nodes = n at *
  generalize e.depth = dd at *
  generalize nodesE e vars = m at *
  by_cases h3 : 128 < n
  · rw [if_pos h3] at hres
    have HR := hide hres
    clear hres
    go_enter Tryd.func93, Tryd.ntmps93
    go_wp2_with fail
    refine (HS.out _ hE0).mono ?_
    rintro e' w1 ⟨rfl, hE⟩
    go_wp2_with fail
    go_ret
    exact ⟨ret_int HR.out, hE0.trans hE⟩
  rw [if_neg h3] at hres
  by_cases h4 : 24 < dd
  · rw [if_pos h4] at hres
    have HR := hide hres
    clear hres
    go_enter Tryd.func93, Tryd.ntmps93
    go_wp2_with fail
    refine (HS.out _ hE0).mono ?_
    rintro e' w1 ⟨rfl, hE⟩
    go_wp2_with fail
    go_ret
    exact ⟨ret_int HR.out, hE0.trans hE⟩
  rw [if_neg h4] at hres
  have HR := hide hres
  clear hres
  go_enter Tryd.func93, Tryd.ntmps93
  go_wp2_with fail
  refine (HS.out _ hE0).mono ?_
  rintro e' w1 ⟨rfl, hE⟩
  obtain ⟨c0, c1, c2, hz⟩ := HB.out _ hE
  go_wp2_with fail
  refine (HNP.out _ (hE0.trans hE)).mono ?_
  rintro e' w2 ⟨rfl, hE2⟩
  go_wp2_with fail
  go_ret
  exact ⟨ret_int HR.out, (hE0.trans hE).trans hE2⟩

set_option maxHeartbeats 1000000 in
theorem pexcheck_any (e : Ex) (vars : Int) (v : Value) (w : World) (hT : Tab w) (hv : ExAt w v e) (hn : e.nodes ≤ 100000) :
    Calls Tryd.prog 106 #[v, .int .i64 vars] w fun e' w' => e' = .returned (.int .i64 (exchk e vars)) ∧ Ext w w' := by
  have HS := hide (fun W (hW : Ext w W) => psize_any e v W (hv.ext hW) (by omega))
  have HNO := hide (fun W (hW : Ext w W) h0 h1 => pnodes_any e vars v W (hT.ext hW) (hv.ext hW) h0 h1)
  have hd := Ex.depth_le e
  obtain ⟨p, c, rfl, hc, hl⟩ := hv.form
  clear hv hT
  have hE0 : Ext w (w.alloc (.cells #[.int .i64 e.op, .int .i64 e.num, .slice p e.args.length c] 26)) := (Ext.refl w).alloc _
  have HB := hide (fun w1 => xbox w e.op e.num (.slice p e.args.length c) (w1 := w1))
  generalize hres : exchk e vars = res
  unfold exchk at hres
  by_cases h1 : vars < 0 ∨ 24 < vars
  · rw [if_pos h1] at hres
    have HR := hide hres
    clear hres
    rcases h1 with h1 | h1
    · go_enter Tryd.func106, Tryd.ntmps106
      go_wp2_with fail
      go_ret
      exact ⟨ret_int HR.out, hE0⟩
    · have h2 : ¬ vars < 0 := by omega
      go_enter Tryd.func106, Tryd.ntmps106
      go_wp2_with fail
      go_ret
      exact ⟨ret_int HR.out, hE0⟩
  rw [if_neg h1] at hres
  have d1 : ¬ vars < 0 := by omega
  have d2 : ¬ 24 < vars := by omega
  have hno := fun W hW => HNO.out W hW (by omega) (by omega)
  have HNP := hide hno
  clear hno h1 HNO
  generalize e.nodes = n at *
  generalize e.depth = dd at *
  generalize nodesE e vars = m at *
  by_cases h3 : 128 < n
  · rw [if_pos h3] at hres
    have HR := hide hres
    clear hres
    go_enter Tryd.func106, Tryd.ntmps106
    go_wp2_with fail
    refine (HS.out _ hE0).mono ?_
    rintro e' w1 ⟨rfl, hE⟩
    go_wp2_with fail
    go_ret
    exact ⟨ret_int HR.out, hE0.trans hE⟩
  rw [if_neg h3] at hres
  by_cases h4 : 24 < dd
  · rw [if_pos h4] at hres
    have HR := hide hres
    clear hres
    go_enter Tryd.func106, Tryd.ntmps106
    go_wp2_with fail
    refine (HS.out _ hE0).mono ?_
    rintro e' w1 ⟨rfl, hE⟩
    go_wp2_with fail
    go_ret
    exact ⟨ret_int HR.out, hE0.trans hE⟩
  rw [if_neg h4] at hres
  have HR := hide hres
  clear hres
  go_enter Tryd.func106, Tryd.ntmps106
  go_wp2_with fail
  refine (HS.out _ hE0).mono ?_
  rintro e' w1 ⟨rfl, hE⟩
  obtain ⟨c0, c1, c2, hz⟩ := HB.out _ hE
  go_wp2_with fail
  refine (HNP.out _ (hE0.trans hE)).mono ?_
  rintro e' w2 ⟨rfl, hE2⟩
  go_wp2_with fail
  go_ret
  exact ⟨ret_int HR.out, (hE0.trans hE).trans hE2⟩

/-- The kind, or an error. -/
def kindE (op : Int) : Int × Int := if arity op < 0 then (0, 1) else (kindOf op, 0)
theorem rkind_any (e : Ex) (v : Value) (w : World) (hv : ExAt w v e) :
    Calls Tryd.prog 94 #[v] w fun e' w' => e' = .returned (.tuple #[.int .i64 (kindE e.op).1, .int .i64 (kindE e.op).2]) ∧ Ext w w' := by
  obtain ⟨p, c, rfl, hc, hl⟩ := hv.form
  clear hv
  have hE0 : Ext w (w.alloc (.cells #[.int .i64 e.op, .int .i64 e.num, .slice p e.args.length c] 26)) := (Ext.refl w).alloc _
  have HA := hide (rarity_any e.op)
  have HK := hide (rkindof_any e.op)
  unfold kindE
  by_cases h : arity e.op < 0
  · rw [if_pos h]
    generalize arity e.op = a at *
    go_enter Tryd.func94, Tryd.ntmps94
    go_wp2_with fail
    refine (HA.out _).mono ?_
    rintro e' w1 ⟨rfl, rfl⟩
    go_wp2_with fail
    go_ret2
    exact ⟨rfl, hE0⟩
  · rw [if_neg h]
    generalize arity e.op = a at *
    generalize kindOf e.op = k at *
    go_enter Tryd.func94, Tryd.ntmps94
    go_wp2_with fail
    refine (HA.out _).mono ?_
    rintro e' w1 ⟨rfl, rfl⟩
    go_wp2_with fail
    refine (HK.out _).mono ?_
    rintro e' w1 ⟨rfl, rfl⟩
    go_wp2_with fail
    go_ret2
    exact ⟨rfl, hE0⟩
theorem pkind_any (e : Ex) (v : Value) (w : World) (hT : Tab w) (hv : ExAt w v e) :
    Calls Tryd.prog 112 #[v] w fun e' w' => e' = .returned (.tuple #[.int .i64 (kindE e.op).1, .int .i64 (kindE e.op).2]) ∧ Ext w w' := by
  obtain ⟨p, c, rfl, hc, hl⟩ := hv.form
  clear hv
  generalize e.op = op
  generalize e.num = num
  have hE0 : Ext w (w.alloc (.cells #[.int .i64 op, .int .i64 num, .slice p e.args.length c] 26)) := (Ext.refl w).alloc _
  have HA := hide (known_any op)
  unfold kindE
  cases hk : knownB op with
  | false =>
    have h1 : arity op < 0 := by have := knownB_arity op; rw [hk] at this; have := of_decide_eq_false this.symm; omega
    rw [if_pos h1]
    rw [hk] at HA
    clear h1 hk
    go_enter Tryd.func112, Tryd.ntmps112
    go_wp2_with fail
    refine (HA.out _).mono ?_
    rintro e' w1 ⟨rfl, rfl⟩
    go_wp2_with fail
    go_ret2
    exact ⟨rfl, hE0⟩
  | true =>
    have h1 : 0 ≤ arity op := by have := knownB_arity op; rw [hk] at this; exact of_decide_eq_true this.symm
    have hop : 0 ≤ op ∧ op < 16 := by simpa only [knownB, Bool.and_eq_true, decide_eq_true_eq] using hk
    rw [if_neg (by omega)]
    rw [hk] at HA
    obtain ⟨m, hm, hm16, s0, -, -⟩ := (hT.ext hE0).get hop.1 hop.2
    have hz0 := (hT.ext hE0).1
    generalize kindOf op = k at s0 ⊢
    subst hm
    clear h1 hk hT hop
    go_enter Tryd.func112, Tryd.ntmps112
    go_wp2_with fail
    refine (HA.out _).mono ?_
    rintro e' w1 ⟨rfl, hw1⟩
    go_wp2_with fail
    go_ret2
    exact ⟨rfl, by first | exact hE0 | (rw [hw1]; exact hE0)⟩
end Go.Proofs.YthpccmmdkbjjhaaDoor
