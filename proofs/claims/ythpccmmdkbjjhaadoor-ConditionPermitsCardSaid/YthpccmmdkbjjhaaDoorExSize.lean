/-
  The size, the kind and the uses of an expression, of the reference and of the program.
  Conditions: as each theorem states.
-/
import Derived.Test.YthpccmmdkbjjhaaDoorExOps
namespace Go.Proofs.YthpccmmdkbjjhaaDoor
open Go.RowKit


set_option maxHeartbeats 1000000 in
theorem rsize_any : ∀ (e : Ex) (v : Value) (w : World), ExAt w v e → e.nodes ≤ 1000000 →
    Calls Tryd.prog 115 #[v] w fun e' w' => e' = .returned (.tuple #[.int .i64 (e.nodes : Nat), .int .i64 (e.depth : Nat)]) ∧ Ext w w' := by
  refine Ex.ind (P := fun e => ∀ (v : Value) (w : World), ExAt w v e → e.nodes ≤ 1000000 →
    Calls Tryd.prog 115 #[v] w fun e' w' => e' = .returned (.tuple #[.int .i64 (e.nodes : Nat), .int .i64 (e.depth : Nat)]) ∧ Ext w w') ?_
  intro op num xs ih v w hv h1
  have HI := hide ih
  obtain ⟨p, c, rfl, hc, hl, hat⟩ := hv.all_
  simp only [Ex.op, Ex.num, Ex.args] at hc hl hat ⊢
  have HAT := hide hat
  clear ih hv hat
  have hnl : Ex.nodesL xs ≤ 1000000 := by simp only [Ex.nodes] at h1; omega
  have HNT := hide (fun i (hi : i < xs.length) => Ex.nodesL_take xs hi)
  have HDT := hide (fun i (hi : i < xs.length) => Ex.depthL_take xs hi)
  have HNL := hide (fun i => Nat.le_trans (Ex.nodesL_take_le xs i) hnl)
  have HDL : Hid (∀ i, Ex.depthL (xs.take i) ≤ 1000001) := fun i => by
    have h2 := Ex.depth_le (.mk op num (xs.take i))
    have h3 := HNL.out i
    simp only [Ex.depth, Ex.nodes] at h2
    omega
  have HE : Hid (Ex.nodes (.mk op num xs) = 1 + Ex.nodesL xs ∧ Ex.depth (.mk op num xs) = Ex.depthL xs + 1) := by constructor <;> simp only [Ex.nodes, Ex.depth]
  clear h1
  have hE0 : Ext w (w.alloc (.cells #[.int .i64 op, .int .i64 num, .slice p xs.length c] 26)) := (Ext.refl w).alloc _
  have HB := hide (fun w1 => xbox w op num (.slice p xs.length c) (w1 := w1))
  go_enter Tryd.func115, Tryd.ntmps115
  go_wp2_with fail
  obtain ⟨w1, hw1⟩ : ∃ w1, w.alloc (.cells #[.int .i64 op, .int .i64 num, .slice p xs.length c] 26) = w1 := ⟨_, rfl⟩
  rw [hw1] at hE0 HB
  rw [hw1]
  clear hw1
  go_loopw [4, 5, 6] (fun n m x V => ∃ (i : Nat), i ≤ xs.length ∧ x = .int .i64 i ∧ n = .int .i64 ((1 + Ex.nodesL (xs.take i) : Nat) : Int) ∧ m = .int .i64 ((Ex.depthL (xs.take i) : Nat) : Int) ∧ Ext w1 V) (fun _ _ x _ => xs.length - (intOf x).toNat)
  case atStart => exact ⟨0, by omega, rfl, rfl, rfl, Ext.refl _⟩
  case round =>
    obtain ⟨i, hi, rfl, rfl, rfl, hE⟩ := hrel
    obtain ⟨c0, c1, c2, hz⟩ := HB.out _ hE
    have hb0 := HNL.out i
    have hb1 := HDL.out i
    by_cases hlt : i < xs.length
    · obtain ⟨b, o, rfl, hb, hat⟩ := HAT.out (by omega)
      obtain ⟨q, d, ⟨x0, x1, x2⟩, hx⟩ := hat i hlt
      replace x0 := x0 _ (hE0.trans hE)
      replace x1 := x1 _ (hE0.trans hE)
      replace x2 := x2 _ (hE0.trans hE)
      have hnm := Ex.nodes_mem (mem_getD hlt)
      have HC := hide (fun W hW => HI.out _ (mem_getD hlt) _ W (hx.ext hW) (by omega))
      have hb2 := HNL.out (i + 1)
      have hb3 := HDL.out (i + 1)
      have hn1 := HNT.out i hlt
      have hd1 := HDT.out i hlt
      have hg : xs[i] = xs.getD i default := by rw [List.getD_eq_getElem?_getD, List.getElem?_eq_getElem hlt]; rfl
      rw [hg] at hn1 hd1
      clear hat hx hg
      generalize xs.getD i default = y at x0 x1 x2 HC hn1 hd1 hnm
      generalize y.nodes = yn at HC hn1 hnm
      generalize y.depth = yd at HC hd1
      generalize hq1 : Ex.nodesL (xs.take (i + 1)) = n' at hn1 hb2
      generalize hq2 : Ex.depthL (xs.take (i + 1)) = d' at hd1 hb3
      generalize Ex.nodesL (xs.take i) = n at hn1 hb0 ⊢
      generalize Ex.depthL (xs.take i) = dd at hd1 hb1 ⊢
      have HQ1 := hide (show Ex.nodesL (xs.take (i + 1)) = n + yn by rw [hq1, hn1])
      have HQ2 := hide (show Ex.depthL (xs.take (i + 1)) = max dd yd by rw [hq2, hd1])
      have hyd : yd ≤ 1000001 := by omega
      clear hq1 hq2 hn1 hd1
      go_wp2_with fail
      refine (HC.out _ (hE0.trans hE)).mono ?_
      rintro e' w3 ⟨rfl, hE3⟩
      clear c0 c1 c2 x0 x1 x2
      by_cases hk : dd < yd
      · have HM := hide (show max dd yd = yd by omega)
        go_wp2_with fail
        go_roundw
        case rel => exact ⟨i + 1, by omega, by go_num, by rw [HQ1.out]; go_num, by rw [HQ2.out, HM.out], hE.trans hE3⟩
        case measure => simp [intOf]; omega
      · have HM := hide (show max dd yd = dd by omega)
        go_wp2_with fail
        go_roundw
        case rel => exact ⟨i + 1, by omega, by go_num, by rw [HQ1.out]; go_num, by rw [HQ2.out, HM.out], hE.trans hE3⟩
        case measure => simp [intOf]; omega
    · obtain rfl : i = xs.length := by omega
      rw [List.take_length] at hb0 hb1 ⊢
      obtain ⟨he1, he2⟩ := HE.out
      generalize hr1 : Ex.nodes (.mk op num xs) = r1 at he1
      generalize hr2 : Ex.depth (.mk op num xs) = r2 at he2
      generalize Ex.nodesL xs = n at hb0 he1 ⊢
      generalize Ex.depthL xs = dd at hb1 he2 ⊢
      have HR := hide (And.intro (hr1.trans he1) (hr2.trans he2))
      clear hr1 hr2 he1 he2
      go_wp2_with fail
      go_ret2
      exact ⟨by rw [HR.out.1, HR.out.2]; rfl, hE0.trans hE⟩


set_option maxHeartbeats 1000000 in
theorem psize_any : ∀ (e : Ex) (v : Value) (w : World), ExAt w v e → e.nodes ≤ 1000000 →
    Calls Tryd.prog 124 #[v] w fun e' w' => e' = .returned (.tuple #[.int .i64 (e.nodes : Nat), .int .i64 (e.depth : Nat)]) ∧ Ext w w' := by
  refine Ex.ind (P := fun e => ∀ (v : Value) (w : World), ExAt w v e → e.nodes ≤ 1000000 →
    Calls Tryd.prog 124 #[v] w fun e' w' => e' = .returned (.tuple #[.int .i64 (e.nodes : Nat), .int .i64 (e.depth : Nat)]) ∧ Ext w w') ?_
  intro op num xs ih v w hv h1
  have HI := hide ih
  obtain ⟨p, c, rfl, hc, hl, hat⟩ := hv.all_
  simp only [Ex.op, Ex.num, Ex.args] at hc hl hat ⊢
  have HAT := hide hat
  clear ih hv hat
  have hnl : Ex.nodesL xs ≤ 1000000 := by simp only [Ex.nodes] at h1; omega
  have HNT := hide (fun i (hi : i < xs.length) => Ex.nodesL_take xs hi)
  have HDT := hide (fun i (hi : i < xs.length) => Ex.depthL_take xs hi)
  have HNL := hide (fun i => Nat.le_trans (Ex.nodesL_take_le xs i) hnl)
  have HDL : Hid (∀ i, Ex.depthL (xs.take i) ≤ 1000001) := fun i => by
    have h2 := Ex.depth_le (.mk op num (xs.take i))
    have h3 := HNL.out i
    simp only [Ex.depth, Ex.nodes] at h2
    omega
  have HE : Hid (Ex.nodes (.mk op num xs) = 1 + Ex.nodesL xs ∧ Ex.depth (.mk op num xs) = Ex.depthL xs + 1) := by constructor <;> simp only [Ex.nodes, Ex.depth]
  clear h1
  have hE0 : Ext w (w.alloc (.cells #[.int .i64 op, .int .i64 num, .slice p xs.length c] 26)) := (Ext.refl w).alloc _
  have HB := hide (fun w1 => xbox w op num (.slice p xs.length c) (w1 := w1))
  go_enter Tryd.func124, Tryd.ntmps124
  go_wp2_with fail
  obtain ⟨w1, hw1⟩ : ∃ w1, w.alloc (.cells #[.int .i64 op, .int .i64 num, .slice p xs.length c] 26) = w1 := ⟨_, rfl⟩
  rw [hw1] at hE0 HB
  rw [hw1]
  clear hw1
  go_loopw [4, 5, 13] (fun n m x V => ∃ (i : Nat), i ≤ xs.length ∧ x = .int .i64 i ∧ n = .int .i64 ((1 + Ex.nodesL (xs.take i) : Nat) : Int) ∧ m = .int .i64 ((Ex.depthL (xs.take i) : Nat) : Int) ∧ Ext w1 V) (fun _ _ x _ => xs.length - (intOf x).toNat)
  case atStart => exact ⟨0, by omega, rfl, rfl, rfl, Ext.refl _⟩
  case round =>
    obtain ⟨i, hi, rfl, rfl, rfl, hE⟩ := hrel
    obtain ⟨c0, c1, c2, hz⟩ := HB.out _ hE
    have hb0 := HNL.out i
    have hb1 := HDL.out i
    by_cases hlt : i < xs.length
    · obtain ⟨b, o, rfl, hb, hat⟩ := HAT.out (by omega)
      obtain ⟨q, d, ⟨x0, x1, x2⟩, hx⟩ := hat i hlt
      replace x0 := x0 _ (hE0.trans hE)
      replace x1 := x1 _ (hE0.trans hE)
      replace x2 := x2 _ (hE0.trans hE)
      have hnm := Ex.nodes_mem (mem_getD hlt)
      have HC := hide (fun W hW => HI.out _ (mem_getD hlt) _ W (hx.ext hW) (by omega))
      have hb2 := HNL.out (i + 1)
      have hb3 := HDL.out (i + 1)
      have hn1 := HNT.out i hlt
      have hd1 := HDT.out i hlt
      have hg : xs[i] = xs.getD i default := by rw [List.getD_eq_getElem?_getD, List.getElem?_eq_getElem hlt]; rfl
      rw [hg] at hn1 hd1
      clear hat hx hg
      generalize xs.getD i default = y at x0 x1 x2 HC hn1 hd1 hnm
      generalize y.nodes = yn at HC hn1 hnm
      generalize y.depth = yd at HC hd1
      generalize hq1 : Ex.nodesL (xs.take (i + 1)) = n' at hn1 hb2
      generalize hq2 : Ex.depthL (xs.take (i + 1)) = d' at hd1 hb3
      generalize Ex.nodesL (xs.take i) = n at hn1 hb0 ⊢
      generalize Ex.depthL (xs.take i) = dd at hd1 hb1 ⊢
      have HQ1 := hide (show Ex.nodesL (xs.take (i + 1)) = n + yn by rw [hq1, hn1])
      have HQ2 := hide (show Ex.depthL (xs.take (i + 1)) = max dd yd by rw [hq2, hd1])
      have hyd : yd ≤ 1000001 := by omega
      clear hq1 hq2 hn1 hd1
      go_wp2_with fail
      refine (HC.out _ ((hE0.trans hE).alloc _)).mono ?_
      rintro e' w3 ⟨rfl, hE3⟩
      clear c0 c1 c2 x0 x1 x2
      by_cases hk : dd < yd
      · have HM := hide (show max dd yd = yd by omega)
        go_wp2_with fail
        go_roundw
        case rel => exact ⟨i + 1, by omega, by go_num, by rw [HQ1.out]; go_num, by rw [HQ2.out, HM.out], (hE.alloc _).trans hE3⟩
        case measure => simp [intOf]; omega
      · have HM := hide (show max dd yd = dd by omega)
        go_wp2_with fail
        go_roundw
        case rel => exact ⟨i + 1, by omega, by go_num, by rw [HQ1.out]; go_num, by rw [HQ2.out, HM.out], (hE.alloc _).trans hE3⟩
        case measure => simp [intOf]; omega
    · obtain rfl : i = xs.length := by omega
      rw [List.take_length] at hb0 hb1 ⊢
      obtain ⟨he1, he2⟩ := HE.out
      generalize hr1 : Ex.nodes (.mk op num xs) = r1 at he1
      generalize hr2 : Ex.depth (.mk op num xs) = r2 at he2
      generalize Ex.nodesL xs = n at hb0 he1 ⊢
      generalize Ex.depthL xs = dd at hb1 he2 ⊢
      have HR := hide (And.intro (hr1.trans he1) (hr2.trans he2))
      clear hr1 hr2 he1 he2
      go_wp2_with fail
      go_ret2
      exact ⟨by rw [HR.out.1, HR.out.2]; rfl, hE0.trans hE⟩


set_option maxHeartbeats 1000000 in
theorem ruses_any : ∀ (e : Ex) (v : Value) (w : World), ExAt w v e → 
    Calls Tryd.prog 95 #[v] w fun e' w' => e' = .returned (.int .i64 (usesE e : Nat)) ∧ Ext w w' := by
  refine Ex.ind (P := fun e => ∀ (v : Value) (w : World), ExAt w v e → 
    Calls Tryd.prog 95 #[v] w fun e' w' => e' = .returned (.int .i64 (usesE e : Nat)) ∧ Ext w w') ?_
  intro op num xs ih v w hv
  have HI := hide ih
  obtain ⟨p, c, rfl, hc, hl, hat⟩ := hv.all_
  simp only [Ex.op, Ex.num, Ex.args] at hc hl hat ⊢
  have HAT := hide hat
  clear ih hv hat
  have HT := hide (fun i (hi : i < xs.length) => usesL_take xs hi)
  have HL := hide (fun i => usesL_lt (xs := xs.take i) (fun e _ => usesE_lt e))
  have HE := hide (show usesE (.mk op num xs) = usesL xs ||| useOf op from rfl)
  have hE0 : Ext w (w.alloc (.cells #[.int .i64 op, .int .i64 num, .slice p xs.length c] 26)) := (Ext.refl w).alloc _
  have HB := hide (fun w1 => xbox w op num (.slice p xs.length c) (w1 := w1))
  have HU8 := hide (show useOf op < 8 by unfold useOf; split <;> (try split) <;> (try split) <;> omega)
  rcases (show op = 2 ∨ op = 3 ∨ op = 4 ∨ (op ≠ 2 ∧ op ≠ 3 ∧ op ≠ 4) by omega) with rfl | rfl | rfl | ⟨ha, hb, hd⟩
  · have hu : useOf 2 = 1 := rfl
    rw [hu] at HE
    clear hu HU8
    go_enter Tryd.func95, Tryd.ntmps95
    go_wp2_with fail
    obtain ⟨w1, hw1⟩ : ∃ w1, w.alloc (.cells #[.int .i64 2, .int .i64 num, .slice p xs.length c] 26) = w1 := ⟨_, rfl⟩
    rw [hw1] at hE0 HB
    rw [hw1]
    clear hw1
    go_loopw [3, 4] (fun n x V => ∃ (i : Nat), i ≤ xs.length ∧ x = .int .i64 i ∧ n = .int .i64 ((1 ||| usesL (xs.take i) : Nat) : Int) ∧ Ext w1 V) (fun _ x _ => xs.length - (intOf x).toNat)
    case atStart => exact ⟨0, by omega, rfl, by simp [usesL], Ext.refl _⟩
    case round =>
      obtain ⟨i, hi, rfl, rfl, hE⟩ := hrel
      obtain ⟨c0, c1, c2, hz⟩ := HB.out _ hE
      have hb0 := or_lt8 (show 1 < 8 by omega) (HL.out i)
      by_cases hlt : i < xs.length
      · obtain ⟨b, o, rfl, hb, hat⟩ := HAT.out (by omega)
        obtain ⟨q, d, ⟨x0, x1, x2⟩, hx⟩ := hat i hlt
        replace x0 := x0 _ (hE0.trans hE)
        replace x1 := x1 _ (hE0.trans hE)
        replace x2 := x2 _ (hE0.trans hE)
        have HC := hide (fun W hW => HI.out _ (mem_getD hlt) _ W (hx.ext hW))
        have hn1 := HT.out i hlt
        have hy8 := usesE_lt (xs.getD i default)
        have hg : xs[i] = xs.getD i default := by rw [List.getD_eq_getElem?_getD, List.getElem?_eq_getElem hlt]; rfl
        rw [hg] at hn1
        clear hat hx hg
        have HQ := hide (show 1 ||| usesL (xs.take (i + 1)) = 1 ||| usesL (xs.take i) ||| usesE (xs.getD i default) by rw [hn1, Nat.or_assoc])
        clear hn1
        have hor := i64_or_nat (1 ||| usesL (xs.take i)) (usesE (xs.getD i default)) (by omega) (by omega)
        generalize xs.getD i default = y at x0 x1 x2 HC hy8 HQ hor
        generalize usesE y = yn at HC hy8 HQ hor
        generalize 1 ||| usesL (xs.take i) = n at hb0 HQ hor ⊢
        go_wp2_with fail
        refine (HC.out _ (hE0.trans hE)).mono ?_
        rintro e' w3 ⟨rfl, hE3⟩
        clear c0 c1 c2 x0 x1 x2
        go_wp2_with fail
        go_roundw
        case rel => exact ⟨i + 1, by omega, by go_num, by rw [HQ.out], hE.trans hE3⟩
        case measure => simp [intOf]; omega
      · obtain rfl : i = xs.length := by omega
        rw [List.take_length] at hb0 ⊢
        have hr := HE.out
        rw [Nat.or_comm] at hr
        generalize 1 ||| usesL xs = n at hb0 hr ⊢
        have HR := hide hr
        clear hr
        go_wp2_with fail
        go_ret
        exact ⟨ret_int (by rw [HR.out]), hE0.trans hE⟩
  · have hu : useOf 3 = 2 := rfl
    rw [hu] at HE
    clear hu HU8
    go_enter Tryd.func95, Tryd.ntmps95
    go_wp2_with fail
    obtain ⟨w1, hw1⟩ : ∃ w1, w.alloc (.cells #[.int .i64 3, .int .i64 num, .slice p xs.length c] 26) = w1 := ⟨_, rfl⟩
    rw [hw1] at hE0 HB
    rw [hw1]
    clear hw1
    go_loopw [3, 4] (fun n x V => ∃ (i : Nat), i ≤ xs.length ∧ x = .int .i64 i ∧ n = .int .i64 ((2 ||| usesL (xs.take i) : Nat) : Int) ∧ Ext w1 V) (fun _ x _ => xs.length - (intOf x).toNat)
    case atStart => exact ⟨0, by omega, rfl, by simp [usesL], Ext.refl _⟩
    case round =>
      obtain ⟨i, hi, rfl, rfl, hE⟩ := hrel
      obtain ⟨c0, c1, c2, hz⟩ := HB.out _ hE
      have hb0 := or_lt8 (show 2 < 8 by omega) (HL.out i)
      by_cases hlt : i < xs.length
      · obtain ⟨b, o, rfl, hb, hat⟩ := HAT.out (by omega)
        obtain ⟨q, d, ⟨x0, x1, x2⟩, hx⟩ := hat i hlt
        replace x0 := x0 _ (hE0.trans hE)
        replace x1 := x1 _ (hE0.trans hE)
        replace x2 := x2 _ (hE0.trans hE)
        have HC := hide (fun W hW => HI.out _ (mem_getD hlt) _ W (hx.ext hW))
        have hn1 := HT.out i hlt
        have hy8 := usesE_lt (xs.getD i default)
        have hg : xs[i] = xs.getD i default := by rw [List.getD_eq_getElem?_getD, List.getElem?_eq_getElem hlt]; rfl
        rw [hg] at hn1
        clear hat hx hg
        have HQ := hide (show 2 ||| usesL (xs.take (i + 1)) = 2 ||| usesL (xs.take i) ||| usesE (xs.getD i default) by rw [hn1, Nat.or_assoc])
        clear hn1
        have hor := i64_or_nat (2 ||| usesL (xs.take i)) (usesE (xs.getD i default)) (by omega) (by omega)
        generalize xs.getD i default = y at x0 x1 x2 HC hy8 HQ hor
        generalize usesE y = yn at HC hy8 HQ hor
        generalize 2 ||| usesL (xs.take i) = n at hb0 HQ hor ⊢
        go_wp2_with fail
        refine (HC.out _ (hE0.trans hE)).mono ?_
        rintro e' w3 ⟨rfl, hE3⟩
        clear c0 c1 c2 x0 x1 x2
        go_wp2_with fail
        go_roundw
        case rel => exact ⟨i + 1, by omega, by go_num, by rw [HQ.out], hE.trans hE3⟩
        case measure => simp [intOf]; omega
      · obtain rfl : i = xs.length := by omega
        rw [List.take_length] at hb0 ⊢
        have hr := HE.out
        rw [Nat.or_comm] at hr
        generalize 2 ||| usesL xs = n at hb0 hr ⊢
        have HR := hide hr
        clear hr
        go_wp2_with fail
        go_ret
        exact ⟨ret_int (by rw [HR.out]), hE0.trans hE⟩
  · have hu : useOf 4 = 4 := rfl
    rw [hu] at HE
    clear hu HU8
    go_enter Tryd.func95, Tryd.ntmps95
    go_wp2_with fail
    obtain ⟨w1, hw1⟩ : ∃ w1, w.alloc (.cells #[.int .i64 4, .int .i64 num, .slice p xs.length c] 26) = w1 := ⟨_, rfl⟩
    rw [hw1] at hE0 HB
    rw [hw1]
    clear hw1
    go_loopw [3, 4] (fun n x V => ∃ (i : Nat), i ≤ xs.length ∧ x = .int .i64 i ∧ n = .int .i64 ((4 ||| usesL (xs.take i) : Nat) : Int) ∧ Ext w1 V) (fun _ x _ => xs.length - (intOf x).toNat)
    case atStart => exact ⟨0, by omega, rfl, by simp [usesL], Ext.refl _⟩
    case round =>
      obtain ⟨i, hi, rfl, rfl, hE⟩ := hrel
      obtain ⟨c0, c1, c2, hz⟩ := HB.out _ hE
      have hb0 := or_lt8 (show 4 < 8 by omega) (HL.out i)
      by_cases hlt : i < xs.length
      · obtain ⟨b, o, rfl, hb, hat⟩ := HAT.out (by omega)
        obtain ⟨q, d, ⟨x0, x1, x2⟩, hx⟩ := hat i hlt
        replace x0 := x0 _ (hE0.trans hE)
        replace x1 := x1 _ (hE0.trans hE)
        replace x2 := x2 _ (hE0.trans hE)
        have HC := hide (fun W hW => HI.out _ (mem_getD hlt) _ W (hx.ext hW))
        have hn1 := HT.out i hlt
        have hy8 := usesE_lt (xs.getD i default)
        have hg : xs[i] = xs.getD i default := by rw [List.getD_eq_getElem?_getD, List.getElem?_eq_getElem hlt]; rfl
        rw [hg] at hn1
        clear hat hx hg
        have HQ := hide (show 4 ||| usesL (xs.take (i + 1)) = 4 ||| usesL (xs.take i) ||| usesE (xs.getD i default) by rw [hn1, Nat.or_assoc])
        clear hn1
        have hor := i64_or_nat (4 ||| usesL (xs.take i)) (usesE (xs.getD i default)) (by omega) (by omega)
        generalize xs.getD i default = y at x0 x1 x2 HC hy8 HQ hor
        generalize usesE y = yn at HC hy8 HQ hor
        generalize 4 ||| usesL (xs.take i) = n at hb0 HQ hor ⊢
        go_wp2_with fail
        refine (HC.out _ (hE0.trans hE)).mono ?_
        rintro e' w3 ⟨rfl, hE3⟩
        clear c0 c1 c2 x0 x1 x2
        go_wp2_with fail
        go_roundw
        case rel => exact ⟨i + 1, by omega, by go_num, by rw [HQ.out], hE.trans hE3⟩
        case measure => simp [intOf]; omega
      · obtain rfl : i = xs.length := by omega
        rw [List.take_length] at hb0 ⊢
        have hr := HE.out
        rw [Nat.or_comm] at hr
        generalize 4 ||| usesL xs = n at hb0 hr ⊢
        have HR := hide hr
        clear hr
        go_wp2_with fail
        go_ret
        exact ⟨ret_int (by rw [HR.out]), hE0.trans hE⟩
  · have hu : useOf op = 0 := by unfold useOf; rw [if_neg ha, if_neg hb, if_neg hd]
    have d2 : (op == 2) = false := by simp [ha]
    have d3 : (op == 3) = false := by simp [hb]
    have d4 : (op == 4) = false := by simp [hd]
    clear ha hb hd
    rw [hu] at HE
    clear hu HU8
    go_enter Tryd.func95, Tryd.ntmps95
    go_wp2_with fail
    obtain ⟨w1, hw1⟩ : ∃ w1, w.alloc (.cells #[.int .i64 op, .int .i64 num, .slice p xs.length c] 26) = w1 := ⟨_, rfl⟩
    rw [hw1] at hE0 HB
    rw [hw1]
    clear hw1
    go_loopw [3, 4] (fun n x V => ∃ (i : Nat), i ≤ xs.length ∧ x = .int .i64 i ∧ n = .int .i64 ((0 ||| usesL (xs.take i) : Nat) : Int) ∧ Ext w1 V) (fun _ x _ => xs.length - (intOf x).toNat)
    case atStart => exact ⟨0, by omega, rfl, by simp [usesL], Ext.refl _⟩
    case round =>
      obtain ⟨i, hi, rfl, rfl, hE⟩ := hrel
      obtain ⟨c0, c1, c2, hz⟩ := HB.out _ hE
      have hb0 := or_lt8 (show 0 < 8 by omega) (HL.out i)
      by_cases hlt : i < xs.length
      · obtain ⟨b, o, rfl, hb, hat⟩ := HAT.out (by omega)
        obtain ⟨q, d, ⟨x0, x1, x2⟩, hx⟩ := hat i hlt
        replace x0 := x0 _ (hE0.trans hE)
        replace x1 := x1 _ (hE0.trans hE)
        replace x2 := x2 _ (hE0.trans hE)
        have HC := hide (fun W hW => HI.out _ (mem_getD hlt) _ W (hx.ext hW))
        have hn1 := HT.out i hlt
        have hy8 := usesE_lt (xs.getD i default)
        have hg : xs[i] = xs.getD i default := by rw [List.getD_eq_getElem?_getD, List.getElem?_eq_getElem hlt]; rfl
        rw [hg] at hn1
        clear hat hx hg
        have HQ := hide (show 0 ||| usesL (xs.take (i + 1)) = 0 ||| usesL (xs.take i) ||| usesE (xs.getD i default) by rw [hn1, Nat.or_assoc])
        clear hn1
        have hor := i64_or_nat (0 ||| usesL (xs.take i)) (usesE (xs.getD i default)) (by omega) (by omega)
        generalize xs.getD i default = y at x0 x1 x2 HC hy8 HQ hor
        generalize usesE y = yn at HC hy8 HQ hor
        generalize 0 ||| usesL (xs.take i) = n at hb0 HQ hor ⊢
        go_wp2_with fail
        refine (HC.out _ (hE0.trans hE)).mono ?_
        rintro e' w3 ⟨rfl, hE3⟩
        clear c0 c1 c2 x0 x1 x2
        go_wp2_with fail
        go_roundw
        case rel => exact ⟨i + 1, by omega, by go_num, by rw [HQ.out], hE.trans hE3⟩
        case measure => simp [intOf]; omega
      · obtain rfl : i = xs.length := by omega
        rw [List.take_length] at hb0 ⊢
        have hr := HE.out
        rw [Nat.or_comm] at hr
        generalize 0 ||| usesL xs = n at hb0 hr ⊢
        have HR := hide hr
        clear hr
        go_wp2_with fail
        go_ret
        exact ⟨ret_int (by rw [HR.out]), hE0.trans hE⟩


set_option maxHeartbeats 1000000 in
theorem puses_any : ∀ (e : Ex) (v : Value) (w : World), ExAt w v e → 
    Calls Tryd.prog 113 #[v] w fun e' w' => e' = .returned (.int .i64 (usesE e : Nat)) ∧ Ext w w' := by
  refine Ex.ind (P := fun e => ∀ (v : Value) (w : World), ExAt w v e → 
    Calls Tryd.prog 113 #[v] w fun e' w' => e' = .returned (.int .i64 (usesE e : Nat)) ∧ Ext w w') ?_
  intro op num xs ih v w hv
  have HI := hide ih
  obtain ⟨p, c, rfl, hc, hl, hat⟩ := hv.all_
  simp only [Ex.op, Ex.num, Ex.args] at hc hl hat ⊢
  have HAT := hide hat
  clear ih hv hat
  have HT := hide (fun i (hi : i < xs.length) => usesL_take xs hi)
  have HL := hide (fun i => usesL_lt (xs := xs.take i) (fun e _ => usesE_lt e))
  have HE := hide (show usesE (.mk op num xs) = usesL xs ||| useOf op from rfl)
  have hE0 : Ext w (w.alloc (.cells #[.int .i64 op, .int .i64 num, .slice p xs.length c] 26)) := (Ext.refl w).alloc _
  have HB := hide (fun w1 => xbox w op num (.slice p xs.length c) (w1 := w1))
  have HU8 := hide (show useOf op < 8 by unfold useOf; split <;> (try split) <;> (try split) <;> omega)
  rcases (show op = 2 ∨ op = 3 ∨ op = 4 ∨ (op ≠ 2 ∧ op ≠ 3 ∧ op ≠ 4) by omega) with rfl | rfl | rfl | ⟨ha, hb, hd⟩
  · have hu : useOf 2 = 1 := rfl
    rw [hu] at HE
    clear hu HU8
    go_enter Tryd.func113, Tryd.ntmps113
    go_wp2_with fail
    obtain ⟨w1, hw1⟩ : ∃ w1, w.alloc (.cells #[.int .i64 2, .int .i64 num, .slice p xs.length c] 26) = w1 := ⟨_, rfl⟩
    rw [hw1] at hE0 HB
    rw [hw1]
    clear hw1
    go_loopw [3, 17] (fun n x V => ∃ (i : Nat), i ≤ xs.length ∧ x = .int .i64 i ∧ n = .int .i64 ((1 ||| usesL (xs.take i) : Nat) : Int) ∧ Ext w1 V) (fun _ x _ => xs.length - (intOf x).toNat)
    case atStart => exact ⟨0, by omega, rfl, by simp [usesL], Ext.refl _⟩
    case round =>
      obtain ⟨i, hi, rfl, rfl, hE⟩ := hrel
      obtain ⟨c0, c1, c2, hz⟩ := HB.out _ hE
      have hb0 := or_lt8 (show 1 < 8 by omega) (HL.out i)
      by_cases hlt : i < xs.length
      · obtain ⟨b, o, rfl, hb, hat⟩ := HAT.out (by omega)
        obtain ⟨q, d, ⟨x0, x1, x2⟩, hx⟩ := hat i hlt
        replace x0 := x0 _ (hE0.trans hE)
        replace x1 := x1 _ (hE0.trans hE)
        replace x2 := x2 _ (hE0.trans hE)
        have HC := hide (fun W hW => HI.out _ (mem_getD hlt) _ W (hx.ext hW))
        have hn1 := HT.out i hlt
        have hy8 := usesE_lt (xs.getD i default)
        have hg : xs[i] = xs.getD i default := by rw [List.getD_eq_getElem?_getD, List.getElem?_eq_getElem hlt]; rfl
        rw [hg] at hn1
        clear hat hx hg
        have HQ := hide (show 1 ||| usesL (xs.take (i + 1)) = 1 ||| usesL (xs.take i) ||| usesE (xs.getD i default) by rw [hn1, Nat.or_assoc])
        clear hn1
        have hor := i64_or_nat (1 ||| usesL (xs.take i)) (usesE (xs.getD i default)) (by omega) (by omega)
        generalize xs.getD i default = y at x0 x1 x2 HC hy8 HQ hor
        generalize usesE y = yn at HC hy8 HQ hor
        generalize 1 ||| usesL (xs.take i) = n at hb0 HQ hor ⊢
        go_wp2_with fail
        refine (HC.out _ ((hE0.trans hE).alloc _)).mono ?_
        rintro e' w3 ⟨rfl, hE3⟩
        clear c0 c1 c2 x0 x1 x2
        go_wp2_with fail
        go_roundw
        case rel => exact ⟨i + 1, by omega, by go_num, by rw [HQ.out], (hE.alloc _).trans hE3⟩
        case measure => simp [intOf]; omega
      · obtain rfl : i = xs.length := by omega
        rw [List.take_length] at hb0 ⊢
        have hr := HE.out
        rw [Nat.or_comm] at hr
        generalize 1 ||| usesL xs = n at hb0 hr ⊢
        have HR := hide hr
        clear hr
        go_wp2_with fail
        go_ret
        exact ⟨ret_int (by rw [HR.out]), hE0.trans hE⟩
  · have hu : useOf 3 = 2 := rfl
    rw [hu] at HE
    clear hu HU8
    go_enter Tryd.func113, Tryd.ntmps113
    go_wp2_with fail
    obtain ⟨w1, hw1⟩ : ∃ w1, w.alloc (.cells #[.int .i64 3, .int .i64 num, .slice p xs.length c] 26) = w1 := ⟨_, rfl⟩
    rw [hw1] at hE0 HB
    rw [hw1]
    clear hw1
    go_loopw [3, 17] (fun n x V => ∃ (i : Nat), i ≤ xs.length ∧ x = .int .i64 i ∧ n = .int .i64 ((2 ||| usesL (xs.take i) : Nat) : Int) ∧ Ext w1 V) (fun _ x _ => xs.length - (intOf x).toNat)
    case atStart => exact ⟨0, by omega, rfl, by simp [usesL], Ext.refl _⟩
    case round =>
      obtain ⟨i, hi, rfl, rfl, hE⟩ := hrel
      obtain ⟨c0, c1, c2, hz⟩ := HB.out _ hE
      have hb0 := or_lt8 (show 2 < 8 by omega) (HL.out i)
      by_cases hlt : i < xs.length
      · obtain ⟨b, o, rfl, hb, hat⟩ := HAT.out (by omega)
        obtain ⟨q, d, ⟨x0, x1, x2⟩, hx⟩ := hat i hlt
        replace x0 := x0 _ (hE0.trans hE)
        replace x1 := x1 _ (hE0.trans hE)
        replace x2 := x2 _ (hE0.trans hE)
        have HC := hide (fun W hW => HI.out _ (mem_getD hlt) _ W (hx.ext hW))
        have hn1 := HT.out i hlt
        have hy8 := usesE_lt (xs.getD i default)
        have hg : xs[i] = xs.getD i default := by rw [List.getD_eq_getElem?_getD, List.getElem?_eq_getElem hlt]; rfl
        rw [hg] at hn1
        clear hat hx hg
        have HQ := hide (show 2 ||| usesL (xs.take (i + 1)) = 2 ||| usesL (xs.take i) ||| usesE (xs.getD i default) by rw [hn1, Nat.or_assoc])
        clear hn1
        have hor := i64_or_nat (2 ||| usesL (xs.take i)) (usesE (xs.getD i default)) (by omega) (by omega)
        generalize xs.getD i default = y at x0 x1 x2 HC hy8 HQ hor
        generalize usesE y = yn at HC hy8 HQ hor
        generalize 2 ||| usesL (xs.take i) = n at hb0 HQ hor ⊢
        go_wp2_with fail
        refine (HC.out _ ((hE0.trans hE).alloc _)).mono ?_
        rintro e' w3 ⟨rfl, hE3⟩
        clear c0 c1 c2 x0 x1 x2
        go_wp2_with fail
        go_roundw
        case rel => exact ⟨i + 1, by omega, by go_num, by rw [HQ.out], (hE.alloc _).trans hE3⟩
        case measure => simp [intOf]; omega
      · obtain rfl : i = xs.length := by omega
        rw [List.take_length] at hb0 ⊢
        have hr := HE.out
        rw [Nat.or_comm] at hr
        generalize 2 ||| usesL xs = n at hb0 hr ⊢
        have HR := hide hr
        clear hr
        go_wp2_with fail
        go_ret
        exact ⟨ret_int (by rw [HR.out]), hE0.trans hE⟩
  · have hu : useOf 4 = 4 := rfl
    rw [hu] at HE
    clear hu HU8
    go_enter Tryd.func113, Tryd.ntmps113
    go_wp2_with fail
    obtain ⟨w1, hw1⟩ : ∃ w1, w.alloc (.cells #[.int .i64 4, .int .i64 num, .slice p xs.length c] 26) = w1 := ⟨_, rfl⟩
    rw [hw1] at hE0 HB
    rw [hw1]
    clear hw1
    go_loopw [3, 17] (fun n x V => ∃ (i : Nat), i ≤ xs.length ∧ x = .int .i64 i ∧ n = .int .i64 ((4 ||| usesL (xs.take i) : Nat) : Int) ∧ Ext w1 V) (fun _ x _ => xs.length - (intOf x).toNat)
    case atStart => exact ⟨0, by omega, rfl, by simp [usesL], Ext.refl _⟩
    case round =>
      obtain ⟨i, hi, rfl, rfl, hE⟩ := hrel
      obtain ⟨c0, c1, c2, hz⟩ := HB.out _ hE
      have hb0 := or_lt8 (show 4 < 8 by omega) (HL.out i)
      by_cases hlt : i < xs.length
      · obtain ⟨b, o, rfl, hb, hat⟩ := HAT.out (by omega)
        obtain ⟨q, d, ⟨x0, x1, x2⟩, hx⟩ := hat i hlt
        replace x0 := x0 _ (hE0.trans hE)
        replace x1 := x1 _ (hE0.trans hE)
        replace x2 := x2 _ (hE0.trans hE)
        have HC := hide (fun W hW => HI.out _ (mem_getD hlt) _ W (hx.ext hW))
        have hn1 := HT.out i hlt
        have hy8 := usesE_lt (xs.getD i default)
        have hg : xs[i] = xs.getD i default := by rw [List.getD_eq_getElem?_getD, List.getElem?_eq_getElem hlt]; rfl
        rw [hg] at hn1
        clear hat hx hg
        have HQ := hide (show 4 ||| usesL (xs.take (i + 1)) = 4 ||| usesL (xs.take i) ||| usesE (xs.getD i default) by rw [hn1, Nat.or_assoc])
        clear hn1
        have hor := i64_or_nat (4 ||| usesL (xs.take i)) (usesE (xs.getD i default)) (by omega) (by omega)
        generalize xs.getD i default = y at x0 x1 x2 HC hy8 HQ hor
        generalize usesE y = yn at HC hy8 HQ hor
        generalize 4 ||| usesL (xs.take i) = n at hb0 HQ hor ⊢
        go_wp2_with fail
        refine (HC.out _ ((hE0.trans hE).alloc _)).mono ?_
        rintro e' w3 ⟨rfl, hE3⟩
        clear c0 c1 c2 x0 x1 x2
        go_wp2_with fail
        go_roundw
        case rel => exact ⟨i + 1, by omega, by go_num, by rw [HQ.out], (hE.alloc _).trans hE3⟩
        case measure => simp [intOf]; omega
      · obtain rfl : i = xs.length := by omega
        rw [List.take_length] at hb0 ⊢
        have hr := HE.out
        rw [Nat.or_comm] at hr
        generalize 4 ||| usesL xs = n at hb0 hr ⊢
        have HR := hide hr
        clear hr
        go_wp2_with fail
        go_ret
        exact ⟨ret_int (by rw [HR.out]), hE0.trans hE⟩
  · have hu : useOf op = 0 := by unfold useOf; rw [if_neg ha, if_neg hb, if_neg hd]
    have d2 : (op == 2) = false := by simp [ha]
    have d3 : (op == 3) = false := by simp [hb]
    have d4 : (op == 4) = false := by simp [hd]
    clear ha hb hd
    rw [hu] at HE
    clear hu HU8
    go_enter Tryd.func113, Tryd.ntmps113
    go_wp2_with fail
    obtain ⟨w1, hw1⟩ : ∃ w1, w.alloc (.cells #[.int .i64 op, .int .i64 num, .slice p xs.length c] 26) = w1 := ⟨_, rfl⟩
    rw [hw1] at hE0 HB
    rw [hw1]
    clear hw1
    go_loopw [3, 17] (fun n x V => ∃ (i : Nat), i ≤ xs.length ∧ x = .int .i64 i ∧ n = .int .i64 ((0 ||| usesL (xs.take i) : Nat) : Int) ∧ Ext w1 V) (fun _ x _ => xs.length - (intOf x).toNat)
    case atStart => exact ⟨0, by omega, rfl, by simp [usesL], Ext.refl _⟩
    case round =>
      obtain ⟨i, hi, rfl, rfl, hE⟩ := hrel
      obtain ⟨c0, c1, c2, hz⟩ := HB.out _ hE
      have hb0 := or_lt8 (show 0 < 8 by omega) (HL.out i)
      by_cases hlt : i < xs.length
      · obtain ⟨b, o, rfl, hb, hat⟩ := HAT.out (by omega)
        obtain ⟨q, d, ⟨x0, x1, x2⟩, hx⟩ := hat i hlt
        replace x0 := x0 _ (hE0.trans hE)
        replace x1 := x1 _ (hE0.trans hE)
        replace x2 := x2 _ (hE0.trans hE)
        have HC := hide (fun W hW => HI.out _ (mem_getD hlt) _ W (hx.ext hW))
        have hn1 := HT.out i hlt
        have hy8 := usesE_lt (xs.getD i default)
        have hg : xs[i] = xs.getD i default := by rw [List.getD_eq_getElem?_getD, List.getElem?_eq_getElem hlt]; rfl
        rw [hg] at hn1
        clear hat hx hg
        have HQ := hide (show 0 ||| usesL (xs.take (i + 1)) = 0 ||| usesL (xs.take i) ||| usesE (xs.getD i default) by rw [hn1, Nat.or_assoc])
        clear hn1
        have hor := i64_or_nat (0 ||| usesL (xs.take i)) (usesE (xs.getD i default)) (by omega) (by omega)
        generalize xs.getD i default = y at x0 x1 x2 HC hy8 HQ hor
        generalize usesE y = yn at HC hy8 HQ hor
        generalize 0 ||| usesL (xs.take i) = n at hb0 HQ hor ⊢
        go_wp2_with fail
        refine (HC.out _ ((hE0.trans hE).alloc _)).mono ?_
        rintro e' w3 ⟨rfl, hE3⟩
        clear c0 c1 c2 x0 x1 x2
        go_wp2_with fail
        go_roundw
        case rel => exact ⟨i + 1, by omega, by go_num, by rw [HQ.out], (hE.alloc _).trans hE3⟩
        case measure => simp [intOf]; omega
      · obtain rfl : i = xs.length := by omega
        rw [List.take_length] at hb0 ⊢
        have hr := HE.out
        rw [Nat.or_comm] at hr
        generalize 0 ||| usesL xs = n at hb0 hr ⊢
        have HR := hide hr
        clear hr
        go_wp2_with fail
        go_ret
        exact ⟨ret_int (by rw [HR.out]), hE0.trans hE⟩

end Go.Proofs.YthpccmmdkbjjhaaDoor
