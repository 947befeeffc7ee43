/-
  Small expressions (roundtableref07.Count, Quantors, Few); absent ones (roundtableref07.Same at the empty expression, roundtableref13.Absent, condition.absent).
  Conditions: as each theorem states.
-/
import Derived.Test.YthpccmmdkbjjhaaDoorExRep
namespace Go.Proofs.YthpccmmdkbjjhaaDoor
open Go.RowKit

/-- The box of an expression, in a later world. -/
theorem xbox (w : World) (o n : Int) (s : Value) {w1 : World} (hE : Ext (w.alloc (.cells #[.int .i64 o, .int .i64 n, s] 26)) w1) :
    w1.cell? ⟨w.heap.size, 0, none⟩ = some (.int .i64 o) ∧ w1.cell? ⟨w.heap.size, 1, none⟩ = some (.int .i64 n) ∧ w1.cell? ⟨w.heap.size, 2, none⟩ = some s ∧ w.heap.size < w1.heap.size := by
  refine ⟨by rw [hE.cell (by simp), cell_new]; rfl, by rw [hE.cell (by simp), cell_new]; rfl, by rw [hE.cell (by simp), cell_new]; rfl, by have := hE.size; simp at this; omega⟩
theorem drop_getD {α : Type} [Inhabited α] {xs : List α} {i : Nat} (h : i < xs.length) : xs.drop i = xs.getD i default :: xs.drop (i + 1) := by
  rw [List.drop_eq_getElem_cons h, List.getD_eq_getElem?_getD, List.getElem?_eq_getElem h]; rfl
theorem mem_getD {α : Type} [Inhabited α] {xs : List α} {i : Nat} (h : i < xs.length) : xs.getD i default ∈ xs := by
  rw [List.getD_eq_getElem?_getD, List.getElem?_eq_getElem h]; exact List.getElem_mem h

set_option maxHeartbeats 1000000 in
theorem rcount_any : ∀ (e : Ex) (lim : Int) (v : Value) (w : World), ExAt w v e → 1 ≤ lim → lim ≤ 1000000 →
    Calls Tryd.prog 25 #[v, .int .i64 lim] w fun e' w' => e' = .returned (.int .i64 (cntE e lim)) ∧ Ext w w' := by
  refine Ex.ind (P := fun e => ∀ (lim : Int) (v : Value) (w : World), ExAt w v e → 1 ≤ lim → lim ≤ 1000000 →
    Calls Tryd.prog 25 #[v, .int .i64 lim] w fun e' w' => e' = .returned (.int .i64 (cntE e lim)) ∧ Ext w w') ?_
  intro op num xs ih lim v w hv h1 h2
  have HI := hide ih
  obtain ⟨p, c, rfl, hc, hl, hat⟩ := hv.all_
  simp only [Ex.op, Ex.num, Ex.args] at hc hl hat ⊢
  have HAT := hide hat
  clear ih hv hat
  simp only [cntE]
  generalize hres : cntL xs 1 lim = res
  have HR := hide hres
  clear hres
  have hE0 : Ext w (w.alloc (.cells #[.int .i64 op, .int .i64 num, .slice p xs.length c] 26)) := (Ext.refl w).alloc _
  have HB := hide (fun w1 => xbox w op num (.slice p xs.length c) (w1 := w1))
  go_enter Tryd.func25, Tryd.ntmps25
  go_wp2_with fail
  obtain ⟨w1, hw1⟩ : ∃ w1, w.alloc (.cells #[.int .i64 op, .int .i64 num, .slice p xs.length c] 26) = w1 := ⟨_, rfl⟩
  rw [hw1] at hE0 HB
  rw [hw1]
  clear hw1
  go_loopw [5, 6] (fun n x V => ∃ (i : Nat) (k : Int), i ≤ xs.length ∧ x = .int .i64 i ∧ n = .int .i64 k ∧ 1 ≤ k ∧ k ≤ lim ∧ Hid (cntL (xs.drop i) k lim = res) ∧ Ext w1 V) (fun _ x _ => xs.length - (intOf x).toNat)
  case atStart => exact ⟨0, 1, by omega, rfl, rfl, by omega, by omega, HR, Ext.refl _⟩
  case round =>
    obtain ⟨i, k, hi, rfl, rfl, hk1, hk2, hr, hE⟩ := hrel
    obtain ⟨c0, c1, c2, hz⟩ := HB.out _ hE
    by_cases hlt : i < xs.length
    · by_cases hkl : k < lim
      · obtain ⟨b, o, rfl, hb, hat⟩ := HAT.out (by omega)
        obtain ⟨q, d, ⟨x0, x1, x2⟩, hx⟩ := hat i hlt
        replace x0 := x0 _ (hE0.trans hE)
        replace x1 := x1 _ (hE0.trans hE)
        replace x2 := x2 _ (hE0.trans hE)
        have HC := hide (fun W hW => HI.out _ (mem_getD hlt) (lim - k) _ W (hx.ext hW) (by omega) (by omega))
        have hbd := cntE_bd (xs.getD i default) (lim - k) (by omega)
        have HN : Hid (cntL (xs.drop (i + 1)) (k + cntE (xs.getD i default) (lim - k)) lim = res) := by
          have := hr.out
          rw [drop_getD hlt] at this
          simp only [cntL] at this
          rw [if_pos hkl] at this
          exact this
        clear hat hx hr
        generalize cntE (xs.getD i default) (lim - k) = m at HC hbd HN
        generalize xs.getD i default = y at x0 x1 x2 HC
        go_wp2_with fail
        refine (HC.out _ (hE0.trans hE)).mono ?_
        rintro e' w3 ⟨rfl, hE3⟩
        clear c0 c1 c2 x0 x1 x2
        go_wp2_with fail
        go_roundw
        case rel => exact ⟨i + 1, k + m, by omega, by go_num, rfl, by omega, by omega, HN, hE.trans hE3⟩
        case measure => simp [intOf]; omega
      · have hrr := hr.out
        rw [cntL_stop hkl] at hrr
        have HRR := hide hrr
        clear hrr hr
        go_wp2_with fail
        go_ret
        exact ⟨ret_int HRR.out, hE0.trans hE⟩
    · have hrr := hr.out
      rw [List.drop_of_length_le (by omega)] at hrr
      have HRR := hide (show k = res from hrr)
      clear hrr hr
      obtain rfl : i = xs.length := by omega
      go_wp2_with fail
      go_ret
      exact ⟨ret_int HRR.out, hE0.trans hE⟩

theorem quant_any (op : Int) (w : World) : Calls Tryd.prog 87 #[.int .i64 op] w fun e' w' => e' = .returned (.bool (isQ op)) ∧ w' = w := by
  unfold isQ
  go_enter Tryd.func87, Tryd.ntmps87
  go_wp2
  all_goals (go_ret; simp_all)

set_option maxHeartbeats 1000000 in
theorem rquantors_any : ∀ (e : Ex) (v : Value) (w : World), ExAt w v e → e.nodes ≤ 1000000 →
    Calls Tryd.prog 41 #[v] w fun e' w' => e' = .returned (.int .i64 (quE e : Nat)) ∧ Ext w w' := by
  refine Ex.ind (P := fun e => ∀ (v : Value) (w : World), ExAt w v e → e.nodes ≤ 1000000 →
    Calls Tryd.prog 41 #[v] w fun e' w' => e' = .returned (.int .i64 (quE e : Nat)) ∧ Ext w w') ?_
  intro op num xs ih v w hv h1
  have HI := hide ih
  obtain ⟨p, c, rfl, hc, hl, hat⟩ := hv.all_
  simp only [Ex.op, Ex.num, Ex.args] at hc hl hat ⊢
  have HAT := hide hat
  clear ih hv hat
  have hnl : Ex.nodesL xs ≤ 1000000 := by simp only [Ex.nodes] at h1; omega
  have HQ := hide (fun i (hi : i < xs.length) => quL_take xs hi)
  have HQL := hide (fun i => Nat.le_trans (quE_le (.mk op num (xs.take i))) (Ex.depth_le (.mk op num (xs.take i))))
  have HNT := hide (fun i => Ex.nodesL_take_le xs i)
  clear h1
  have hE0 : Ext w (w.alloc (.cells #[.int .i64 op, .int .i64 num, .slice p xs.length c] 26)) := (Ext.refl w).alloc _
  have HB := hide (fun w1 => xbox w op num (.slice p xs.length c) (w1 := w1))
  have hbd : ∀ i, quL (xs.take i) ≤ 1000001 := fun i => by
    have h1 := HQL.out i
    have h2 := HNT.out i
    simp only [quE, Ex.nodes] at h1
    omega
  have HBD := hide hbd
  clear hbd
  go_enter Tryd.func41, Tryd.ntmps41
  go_wp2_with fail
  obtain ⟨w1, hw1⟩ : ∃ w1, w.alloc (.cells #[.int .i64 op, .int .i64 num, .slice p xs.length c] 26) = w1 := ⟨_, rfl⟩
  rw [hw1] at hE0 HB
  rw [hw1]
  clear hw1
  go_loopw [3, 4] (fun n x V => ∃ (i : Nat), i ≤ xs.length ∧ x = .int .i64 i ∧ n = .int .i64 ((quL (xs.take i) : Nat) : Int) ∧ Ext w1 V) (fun _ x _ => xs.length - (intOf x).toNat)
  case atStart => exact ⟨0, by omega, rfl, rfl, Ext.refl _⟩
  case round =>
    obtain ⟨i, hi, rfl, rfl, hE⟩ := hrel
    obtain ⟨c0, c1, c2, hz⟩ := HB.out _ hE
    have hb0 := HBD.out i
    by_cases hlt : i < xs.length
    · obtain ⟨b, o, rfl, hb, hat⟩ := HAT.out (by omega)
      obtain ⟨q, d, ⟨x0, x1, x2⟩, hx⟩ := hat i hlt
      replace x0 := x0 _ (hE0.trans hE)
      replace x1 := x1 _ (hE0.trans hE)
      replace x2 := x2 _ (hE0.trans hE)
      have hnm := Ex.nodes_mem (mem_getD hlt)
      have HC := hide (fun W hW => HI.out _ (mem_getD hlt) _ W (hx.ext hW) (by omega))
      have hb1 := HBD.out (i + 1)
      have HN := hide (HQ.out i hlt)
      have hg : xs[i] = xs.getD i default := by rw [List.getD_eq_getElem?_getD, List.getElem?_eq_getElem hlt]; rfl
      rw [hg] at HN
      clear hat hx hg hnm
      generalize xs.getD i default = y at x0 x1 x2 HC HN
      generalize quE y = m at HC HN
      generalize hq' : quL (xs.take (i + 1)) = m' at HN hb1
      have HQ' := hide hq'
      clear hq'
      generalize quL (xs.take i) = k at HN hb0 ⊢
      have hm : m ≤ 1000001 := by have := HN.out; omega
      go_wp2_with fail
      refine (HC.out _ (hE0.trans hE)).mono ?_
      rintro e' w3 ⟨rfl, hE3⟩
      clear c0 c1 c2 x0 x1 x2
      by_cases hkm : k < m
      · have hmm : m' = m := by have := HN.out; omega
        have HM := hide hmm
        clear hmm HN
        go_wp2_with fail
        go_roundw
        case rel => exact ⟨i + 1, by omega, by go_num, by rw [HQ'.out, HM.out], hE.trans hE3⟩
        case measure => simp [intOf]; omega
      · have hmm : m' = k := by have := HN.out; omega
        have HM := hide hmm
        clear hmm HN
        go_wp2_with fail
        go_roundw
        case rel => exact ⟨i + 1, by omega, by go_num, by rw [HQ'.out, HM.out], hE.trans hE3⟩
        case measure => simp [intOf]; omega
    · obtain rfl : i = xs.length := by omega
      rw [List.take_length] at hb0 ⊢
      have HE := hide (show quE (.mk op num xs) = quL xs + (if isQ op = true then 1 else 0) from rfl)
      have HQO := hide (quant_any op)
      generalize hr : quE (.mk op num xs) = r at HE
      have HRR := hide hr
      clear hr
      generalize quL xs = k at hb0 HE ⊢
      generalize isQ op = b at HE HQO
      go_wp2_with fail
      refine (HQO.out _).mono ?_
      rintro e' w3 ⟨rfl, rfl⟩
      cases b
      · have HR := hide (show r = k from HE.out)
        clear HE
        go_wp2_with fail
        go_ret
        exact ⟨ret_int (by rw [HRR.out, HR.out]), hE0.trans hE⟩
      · have HR := hide (show r = k + 1 from HE.out)
        clear HE
        go_wp2_with fail
        go_ret
        exact ⟨ret_int (by rw [HRR.out, HR.out]; rfl), hE0.trans hE⟩

theorem rfew_ex (e : Ex) (v : Value) (w : World) (hv : ExAt w v e) :
    Calls Tryd.prog 11 #[v] w fun e' w' => e' = .returned (.bool (efew e)) ∧ Ext w w' := by
  have HC := hide (fun W (hW : Ext w W) => rcount_any e 140 v W (hv.ext hW) (by omega) (by omega))
  have HQ := hide (fun W (hW : Ext w W) h => rquantors_any e v W (hv.ext hW) h)
  obtain ⟨p, c, rfl, hc, hl, hat⟩ := hv.all_
  clear hv hat
  have hE0 : Ext w (w.alloc (.cells #[.int .i64 e.op, .int .i64 e.num, .slice p e.args.length c] 26)) := (Ext.refl w).alloc _
  have HB := hide (fun w1 => xbox w e.op e.num (.slice p e.args.length c) (w1 := w1))
  unfold efew
  by_cases h : cntE e 140 < 140
  · have hn : e.nodes ≤ 1000000 := by have := cntE_nodes e 140 (by omega) h; omega
    have hq := fun W hW => HQ.out W hW hn
    have HQ := hide hq
    rw [decide_eq_true h, Bool.true_and]
    have hk : quE e ≤ 1000001 := Nat.le_trans (Nat.le_trans (quE_le e) (Ex.depth_le e)) (by omega)
    clear hq hn
    generalize cntE e 140 = k at HC h
    generalize quE e = m at HQ hk ⊢
    go_enter Tryd.func11, Tryd.ntmps11
    go_wp2_with fail
    refine (HC.out _ hE0).mono ?_
    rintro e' w1 ⟨rfl, hE⟩
    obtain ⟨c0, c1, c2, hz⟩ := HB.out _ hE
    go_wp2_with fail
    refine (HQ.out _ (hE0.trans hE)).mono ?_
    rintro e' w2 ⟨rfl, hE2⟩
    clear c0 c1 c2
    go_wp2_with fail
    go_ret
    exact ⟨ret_bool (by rw [decide_eq_decide]; omega), (hE0.trans hE).trans hE2⟩
  · rw [decide_eq_false h, Bool.false_and]
    have hd : decide (cntE e 140 < 140) = false := decide_eq_false h
    clear HQ
    generalize cntE e 140 = k at HC hd
    go_enter Tryd.func11, Tryd.ntmps11
    go_wp2_with fail
    refine (HC.out _ hE0).mono ?_
    rintro e' w1 ⟨rfl, hE⟩
    go_wp2_with fail
    go_ret
    exact ⟨rfl, hE0.trans hE⟩

theorem absent_any (e : Ex) (v : Value) (w : World) (hv : ExAt w v e) :
    Calls Tryd.prog 61 #[v] w fun e' w' => e' = .returned (.bool (absentE e)) ∧ Ext w w' := by
  obtain ⟨p, c, rfl, hc, hl, hat⟩ := hv.all_
  clear hv hat
  unfold absentE
  generalize e.op = o
  generalize e.num = n
  generalize e.args.length = k at *
  have hk : ((k : Int) == 0) = (k == 0) := by rw [Bool.eq_iff_iff]; simp
  rw [← hk]
  cases h1 : (o == 0)
  · clear hk
    go_enter Tryd.func61, Tryd.ntmps61
    go_wp2
    go_ret
    exact ⟨by simp, (Ext.refl w).alloc _⟩
  · cases h2 : (n == 0)
    · clear hk
      go_enter Tryd.func61, Tryd.ntmps61
      go_wp2
      go_ret
      exact ⟨by simp, (Ext.refl w).alloc _⟩
    · clear hk
      go_enter Tryd.func61, Tryd.ntmps61
      go_wp2
      go_ret
      exact ⟨by simp, (Ext.refl w).alloc _⟩

theorem rsame_zero (e : Ex) (v : Value) (w : World) (hv : ExAt w v e) :
    Calls Tryd.prog 69 #[v, .agg #[.int .i64 0, .int .i64 0, .slice none 0 0]] w fun e' w' => e' = .returned (.bool (absentE e)) ∧ Ext w w' := by
  obtain ⟨p, c, rfl, hc, hl, hat⟩ := hv.all_
  clear hv hat
  unfold absentE
  generalize e.op = o
  generalize e.num = n
  generalize e.args.length = k at *
  have hk : ((k : Int) == 0) = (k == 0) := by rw [Bool.eq_iff_iff]; simp
  rw [← hk]
  clear hk
  cases h1 : (o == 0)
  · have h1' : (o != 0) = true := by simpa using h1
    go_enter Tryd.func69, Tryd.ntmps69
    go_wp2
    go_ret
    exact ⟨by simp, ((Ext.refl w).alloc _).alloc _⟩
  · have h1' : (o != 0) = false := by simpa using h1
    cases h2 : (n == 0)
    · have h2' : (n != 0) = true := by simpa using h2
      go_enter Tryd.func69, Tryd.ntmps69
      go_wp2
      go_ret
      exact ⟨by simp, ((Ext.refl w).alloc _).alloc _⟩
    · have h2' : (n != 0) = false := by simpa using h2
      cases h3 : ((k : Int) == 0)
      · have h3' : ((k : Int) != 0) = true := by rw [bne, h3]; rfl
        clear h3
        go_enter Tryd.func69, Tryd.ntmps69
        go_wp2
        go_ret
        exact ⟨by simp, ((Ext.refl w).alloc _).alloc _⟩
      · have hk0 : k = 0 := by rw [beq_iff_eq] at h3; omega
        subst hk0
        clear h3
        go_enter Tryd.func69, Tryd.ntmps69
        go_wp2
        go_loopw [5] (fun x V => x = .int .i64 0 ∧ Ext w V ∧ V.cell? ⟨w.heap.size, 2, none⟩ = some (.slice p 0 c) ∧ w.heap.size < V.heap.size) (fun _ _ => 0)
        case atStart => exact ⟨rfl, ((Ext.refl w).alloc _).alloc _, by simp [go_sem], by simp; omega⟩
        case round =>
          obtain ⟨rfl, hE, hc2, hz⟩ := hrel
          go_wp2
          go_ret
          exact ⟨by simp, hE⟩
theorem rabsent_any (e : Ex) (v : Value) (w : World) (hv : ExAt w v e) :
    Calls Tryd.prog 26 #[v] w fun e' w' => e' = .returned (.bool (absentE e)) ∧ Ext w w' := by
  have HS := hide (fun W (hW : Ext w W) => rsame_zero e v W (hv.ext hW))
  obtain ⟨p, c, rfl, hc, hl, hat⟩ := hv.all_
  clear hv hat
  have hE0 : Ext w (w.alloc (.cells #[.int .i64 e.op, .int .i64 e.num, .slice p e.args.length c] 26)) := (Ext.refl w).alloc _
  go_enter Tryd.func26, Tryd.ntmps26
  go_wp2_with fail
  refine (HS.out _ hE0).mono ?_
  rintro e' w1 ⟨rfl, hE⟩
  go_wp2_with fail
  go_ret
  exact ⟨rfl, hE0.trans hE⟩
end Go.Proofs.YthpccmmdkbjjhaaDoor
