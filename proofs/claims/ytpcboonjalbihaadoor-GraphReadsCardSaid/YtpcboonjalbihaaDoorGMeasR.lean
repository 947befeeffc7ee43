/-
  Inside, Edges (graph, roundtableref03).
  Conditions: none.
-/
import Derived.Test.YtpcboonjalbihaaDoorGMeasQ
namespace Go.Proofs.YtpcboonjalbihaaDoor
open Go.RowKit
attribute [local go_sem] Oper.semAt_some

theorem u64_nat (x : Nat) (h : x < 32) : IntKind.u64.wrap (x : Int) = (x : Int) := by rw [IntKind.wrap_u64]; omega
set_option maxHeartbeats 1000000 in
theorem ones64_any (x : Nat) (hx : x < 32) (w : World) : Calls Tryd.prog 85 #[.int .u64 x] w fun e w' => e = .returned (.int .i64 (cardN x : Nat)) ∧ w' = w := by
  obtain h | h | h | h : x < 8 ∨ (8 ≤ x ∧ x < 16) ∨ (16 ≤ x ∧ x < 24) ∨ (24 ≤ x ∧ x < 32) := by omega
  · obtain rfl | rfl | rfl | rfl | rfl | rfl | rfl | rfl : x = 0 ∨ x = 1 ∨ x = 2 ∨ x = 3 ∨ x = 4 ∨ x = 5 ∨ x = 6 ∨ x = 7 := by omega
    all_goals (go_enter Tryd.func85, Tryd.ntmps85; go_wp2; go_ret; exact ⟨by kernel_rfl, rfl⟩)
  · obtain rfl | rfl | rfl | rfl | rfl | rfl | rfl | rfl : x = 8 ∨ x = 9 ∨ x = 10 ∨ x = 11 ∨ x = 12 ∨ x = 13 ∨ x = 14 ∨ x = 15 := by omega
    all_goals (go_enter Tryd.func85, Tryd.ntmps85; go_wp2; go_ret; exact ⟨by kernel_rfl, rfl⟩)
  · obtain rfl | rfl | rfl | rfl | rfl | rfl | rfl | rfl : x = 16 ∨ x = 17 ∨ x = 18 ∨ x = 19 ∨ x = 20 ∨ x = 21 ∨ x = 22 ∨ x = 23 := by omega
    all_goals (go_enter Tryd.func85, Tryd.ntmps85; go_wp2; go_ret; exact ⟨by kernel_rfl, rfl⟩)
  · obtain rfl | rfl | rfl | rfl | rfl | rfl | rfl | rfl : x = 24 ∨ x = 25 ∨ x = 26 ∨ x = 27 ∨ x = 28 ∨ x = 29 ∨ x = 30 ∨ x = 31 := by omega
    all_goals (go_enter Tryd.func85, Tryd.ntmps85; go_wp2; go_ret; exact ⟨by kernel_rfl, rfl⟩)
theorem ones_any (x : Nat) (hx : x < 32) (w : World) : Calls Tryd.prog 72 #[.int .u64 x] w fun e w' => e = .returned (.int .i64 (cardN x : Nat)) ∧ w' = w := by
  have hw := u64_nat x hx
  have HC := hide (fun W => ones64_any x hx W)
  clear hx
  go_enter Tryd.func72, Tryd.ntmps72
  go_wp2_with (go_at_call 85; refine (HC.out _).mono ?_; rintro e w' ⟨rfl, rfl⟩)
  go_ret
  exact ⟨rfl, rfl⟩
theorem row5 (g : Gr) (p : Nat) (hp : p < 5) (w : World) : (Instr.index 22 (.agg #[.int .i64 g.h0, .int .i64 g.h1, .int .i64 g.h2, .int .i64 g.h3, .int .i64 g.h4]) (.int .i64 (p : Int))).run Tryd.prog w = .ok (.int .i64 (g.h p)) w := idx5 _ _ _ _ _ g.n p hp w
set_option maxRecDepth 16000 in
set_option maxHeartbeats 1000000 in
theorem edges_ok (g : Gr) {n : Nat} (hg : Wf g n) (w : World) : Calls Tryd.prog 39 #[g.v] w (RetV1 (.int .i64 (edG g 5), 0) w) := by
  have HC := hide (fun W => gcheck_any g W)
  rw [wf_chk hg] at HC
  have HO := hide (fun p W => ones_any (g.r p) (hg.lt32 p) W)
  have HCV := hide (fun p => u64_nat (g.r p) (hg.lt32 p))
  have HI := hide (fun p hp W => row5 g p hp W)
  simp only [hg.row] at HI
  have HBD := hide (edG_bd g n hg)
  have HS := hide (fun k => show edG g (k + 1) = edG g k + (cardN (g.r k) : Int) from rfl)
  have HCL := hide (fun k => card_le_all 5 (by decide) _ (hg.lt32 k))
  have H0 := hide (show edG g 0 = - g.n from rfl)
  have HN := hide hg.n_eq
  have hn5 := hg.n5
  generalize g.r = gr at HO HCV HI HS HCL
  generalize edG g = ed at HBD HS H0 ⊢
  clear hg
  go_enter Tryd.func39, Tryd.ntmps39
  go_wp2_with fail
  have HB : Hid (GrBox (w.alloc (gobj g)) w.heap.size g) := gr_new w g
  have HE : Hid (Ext w (w.alloc (gobj g))) := (Ext.refl w).alloc _
  generalize w.alloc (gobj g) = W at HB HE ⊢
  refine (HC.out _).mono ?_
  rintro r w1 ⟨rfl, hE⟩
  have HB := hide (HB.out.ext hE)
  have HE := hide (HE.out.trans hE)
  clear hE
  obtain ⟨c0, c1, c2, c3, c4, c5, z0⟩ := HB.out.cells
  have hgn : -5 ≤ - g.n ∧ - g.n ≤ 5 := by rw [HN.out]; omega
  have h00 := H0.out
  have hneg := IntWalk.wrap64_in (- g.n) ⟨by omega, by omega⟩
  rw [← h00] at hneg
  clear hgn h00
  have HNEG := hide hneg
  clear hneg
  go_wp2_with fail
  rw [← H0.out]
  try rw [HNEG.out]
  clear c0 c1 c2 c3 c4 c5 z0
  go_loop [5, 18] (fun s x => ∃ k : Nat, k ≤ 5 ∧ x = .int .i64 k ∧ s = .int .i64 (ed k)) (fun _ x => 5 - (intOf x).toNat)
  case atStart => exact ⟨0, by omega, rfl, rfl⟩
  case round =>
    obtain ⟨k, hk, rfl, rfl⟩ := hrel
    by_cases hlt : k < 5
    · have hix := HI.out k hlt
      have hcv := HCV.out k
      have hk5 : (k : Int) < 5 := by omega
      have hbd := HBD.out k (by omega)
      have hcl := HCL.out k
      have HC1 := hide (HO.out k)
      have hs := HS.out k
      have hadd : IntKind.i64.wrap (ed k + (cardN (gr k) : Int)) = ed (k + 1) := by rw [hs]; exact IntWalk.i64_in _ ⟨by omega, by omega⟩
      have hadd2 : wrap64 (ed k + (cardN (gr k) : Int)) = ed (k + 1) := by rw [hs]; exact IntWalk.wrap64_in _ ⟨by omega, by omega⟩
      clear hs hbd
      generalize cardN (gr k) = c at HC1 hadd hadd2 hcl
      generalize gr k = x at hix hcv HC1
      generalize ed k = s0 at hadd hadd2 ⊢
      obtain ⟨s1, hs1⟩ : ∃ s1, s1 = ed (k + 1) := ⟨_, rfl⟩
      rw [← hs1] at hadd hadd2
      have HS1 := hide hs1
      clear hs1
      go_wp2_with (go_at_call 72; refine (HC1.out _).mono ?_; rintro e w' ⟨rfl, rfl⟩)
      go_round
      case rel => exact ⟨k + 1, by omega, by go_num, by rw [HS1.out]⟩
      case measure => simp [intOf]; omega
    · obtain rfl : k = 5 := by omega
      go_wp2_with fail
      go_ret2
      exact ⟨rfl, HE.out⟩
set_option maxRecDepth 16000 in
set_option maxHeartbeats 2000000 in
theorem redges_ok (g : Gr) {n : Nat} (hg : Wf g n) (w : World) : Calls Tryd.prog 40 #[g.v] w (RetV1 (.int .i64 (edG g 5), 0) w) := by
  rw [edges_eq hg]
  have HC := hide (fun W => rgcheck_any g W)
  rw [wf_chk hg] at HC
  have HH := hide (fun (x p : Nat) (hx : x < 32) (hp : p ≤ 60) W => rhas_any (x : Int) (p : Int) W (by omega) (by omega) (by omega) (by omega))
  have HS := hide (fun k => show edR g n (k + 1) = edR g n k + cntB (fun q => (k != q) && (g.r k).testBit q) n from rfl)
  have HS0 := hide (show edR g n 0 = 0 from rfl)
  have HU := hide (fun p k => show cntB (fun q => (p != q) && (g.r p).testBit q) (k + 1) = cntB (fun q => (p != q) && (g.r p).testBit q) k + (if ((p != k) && (g.r p).testBit k) then 1 else 0) from rfl)
  have HU0 := hide (fun p => show cntB (fun q => (p != q) && (g.r p).testBit q) 0 = 0 from rfl)
  have HUL := hide (fun p k => cntB_le (fun q => (p != q) && (g.r p).testBit q) k)
  have HSL := hide (fun k => edR_le g n k)
  have HN := hide hg.n_eq
  have HG := hide hg
  have hn5 := hg.n5
  have hcb : ∀ p k, cntB (fun q => (p != q) && (g.r p).testBit q) k = (fun p k => cntB (fun q => (p != q) && (g.r p).testBit q) k) p k := fun _ _ => rfl
  generalize (fun p k => cntB (fun q => (p != q) && (g.r p).testBit q) k) = cb at hcb
  simp only [hcb] at HS HU HU0 HUL
  generalize edR g n = ed at HS HS0 HSL ⊢
  clear hg hcb
  go_enter Tryd.func40, Tryd.ntmps40
  go_wp2_with fail
  have HB : Hid (GrBox (w.alloc (gobj g)) w.heap.size g) := gr_new w g
  have HE : Hid (Ext w (w.alloc (gobj g))) := (Ext.refl w).alloc _
  generalize w.alloc (gobj g) = W at HB HE ⊢
  refine (HC.out _).mono ?_
  rintro r w1 ⟨rfl, hE⟩
  have HB := hide (HB.out.ext hE)
  have HE := hide (HE.out.trans hE)
  clear hE
  go_wp2_with fail
  go_loop [5, 6] (fun s x => ∃ p : Nat, p ≤ n ∧ x = .int .i64 p ∧ s = .int .i64 (ed p : Nat)) (fun _ x => n - (intOf x).toNat)
  case atStart => exact ⟨0, by omega, rfl, by rw [HS0.out]; rfl⟩
  case round =>
    obtain ⟨p, hp, rfl, rfl⟩ := hrel
    obtain ⟨c0, -, -, -, -, -, z0⟩ := HB.out.cells
    rw [HN.out] at c0
    by_cases hlt : p < n
    · go_wp2_with fail
      have HSN := hide (HS.out p)
      have HSP : Hid (ed p ≤ 25) := by
        have h1 := HSL.out p
        have h2 : p * n ≤ 5 * 5 := Nat.mul_le_mul (by omega) hn5
        show _ ≤ _
        omega
      have H00 : Hid (ed p + cb p 0 = ed p) := by show _ = _; rw [HU0.out]; rfl
      go_loop [5, 7] (fun s x => ∃ q : Nat, q ≤ n ∧ x = .int .i64 q ∧ s = .int .i64 (ed p + cb p q : Nat)) (fun _ x => n - (intOf x).toNat)
      case atStart => exact ⟨0, by omega, rfl, by rw [H00.out]⟩
      case round =>
        obtain ⟨q, hq, rfl, rfl⟩ := hrel
        by_cases hqt : q < n
        · have hp5 : (p : Int) < 5 := by omega
          have hq5 : (q : Int) < 5 := by omega
          obtain ⟨r1, -⟩ := HB.out.row (p := p) (by omega)
          rw [HG.out.row] at r1
          have HC2 := hide (HH.out (g.r p) q (HG.out.lt32 p) (by omega))
          rw [has_nat, Int.toNat_natCast] at HC2
          have hu := HU.out p q
          have hul := HUL.out p q
          have hsp := HSP.out
          by_cases hpq : p = q
          · subst hpq
            have HU2 : Hid (cb p (p + 1) = cb p p) := by show _ = _; rw [hu]; simp
            have hd : ((p : Int) != (p : Int)) = false := by simp
            clear hu
            go_wp2_with fail
            go_round
            case rel => exact ⟨p + 1, by omega, by go_num, by rw [HU2.out]; try simp⟩
            case measure => simp [intOf]; omega
          · have hd : ((p : Int) != (q : Int)) = true := by rw [bne_iff_ne]; omega
            have hd2 : (p != q) = true := by rw [bne_iff_ne]; omega
            cases hbit : (g.r p).testBit q with
            | false =>
              rw [hbit] at HC2 hu
              have HU2 : Hid (cb p (q + 1) = cb p q) := by show _ = _; rw [hu]; simp
              clear hu hbit hd2
              go_wp2_with (go_at_call 63; refine (HC2.out _).mono ?_; rintro e w' ⟨rfl, rfl⟩)
              go_round
              case rel => exact ⟨q + 1, by omega, by go_num, by rw [HU2.out]; try simp⟩
              case measure => simp [intOf]; omega
            | true =>
              rw [hbit, hd2] at hu
              rw [hbit] at HC2
              have HU2 : Hid (cb p (q + 1) = cb p q + 1) := by show _ = _; rw [hu]; simp
              clear hu hbit hd2
              go_wp2_with (go_at_call 63; refine (HC2.out _).mono ?_; rintro e w' ⟨rfl, rfl⟩)
              go_round
              case rel => exact ⟨q + 1, by omega, by go_num, by rw [HU2.out]; first | rfl | (congr 1; omega) | congr 1⟩
              case measure => simp [intOf]; omega
        · obtain rfl : q = n := by omega
          go_wp2_with fail
          go_round
          case rel => exact ⟨p + 1, by omega, by go_num, by rw [HSN.out]⟩
          case measure => simp [intOf]; omega
    · obtain rfl : p = n := by omega
      go_wp2_with fail
      go_ret2
      exact ⟨rfl, HE.out⟩
set_option maxRecDepth 16000 in
set_option maxHeartbeats 1000000 in
theorem inside_ok (a b : Gr) {n : Nat} (ha : Wf a n) (hb : Wf b n) (w : World) : Calls Tryd.prog 37 #[a.v, b.v] w (RetV1 (.bool (inG a b), 0) w) := by
  have HB2 := hide (fun W => gboth_any a b W)
  rw [bothS_0 (wf_chk ha) (wf_chk hb) (by rw [ha.n_eq, hb.n_eq])] at HB2
  have HI := hide (fun p hp W => row5 a p hp W)
  simp only [ha.row] at HI
  have HBR := hide hb.row
  have HEND := hide (inG_end (a := a) (b := b))
  have HNO := hide (fun p hp h => inG_no (a := a) (b := b) (p := p) hp h)
  have HAN := hide (fun p => andnot_zero _ (ha.lt32 p) _ (hb.lt32 p))
  generalize inG a b = res at HEND HNO ⊢
  clear ha hb
  go_enter Tryd.func37, Tryd.ntmps37
  go_wp2_with fail
  have HT := hide (Two.mk_ w a b)
  generalize (w.alloc (gobj a)).alloc (gobj b) = W at HT ⊢
  refine (HB2.out _).mono ?_
  rintro e w1 ⟨rfl, hE⟩
  have HT := hide (HT.out.ext_ hE)
  clear hE
  obtain ⟨c0, c1, c2, c3, c4, c5, z0⟩ := HT.out.a.cells
  have z1 := lt_of_heap HT.out.b
  go_wp2_with fail
  clear c0 c1 c2 c3 c4 c5 z0
  go_loop [17] (fun x => ∃ k : Nat, k ≤ 5 ∧ x = .int .i64 k ∧ Hid (∀ j, j < k → a.r j &&& b.r j = a.r j)) (fun x => 5 - (intOf x).toNat)
  case atStart => exact ⟨0, by omega, rfl, fun j hj => by omega⟩
  case round =>
    obtain ⟨k, hk, rfl, HJ⟩ := hrel
    by_cases hlt : k < 5
    · have hix := HI.out k hlt
      have hk5 : (k : Int) < 5 := by omega
      obtain ⟨rb, -⟩ := HT.out.b.row (p := k) hlt
      rw [HBR.out] at rb
      have han := HAN.out k
      by_cases he : a.r k &&& b.r k = a.r k
      · have HJ2 : Hid (∀ j, j < k + 1 → a.r j &&& b.r j = a.r j) := fun j hj => by
          by_cases e : j = k
          · subst e; exact he
          · exact HJ.out j (by omega)
        rw [he] at han
        simp only [beq_self_eq_true, Bool.not_true] at han
        clear he
        go_wp2_with fail
        go_round
        case rel => exact ⟨k + 1, by omega, by go_num, HJ2⟩
        case measure => simp [intOf]; omega
      · have HR := hide (HNO.out k hlt he)
        rw [show (a.r k &&& b.r k == a.r k) = false from beq_eq_false_iff_ne.2 he] at han
        simp only [Bool.not_false] at han
        clear he
        go_wp2_with fail
        go_ret2
        exact ⟨by rw [HR.out]; rfl, HT.out.ext⟩
    · obtain rfl : k = 5 := by omega
      have HR := hide (HEND.out HJ.out)
      go_wp2_with fail
      go_ret2
      exact ⟨by rw [HR.out]; rfl, HT.out.ext⟩
set_option maxRecDepth 16000 in
set_option maxHeartbeats 1000000 in
theorem rwithin_in (a b : Gr) {n : Nat} (ha : Wf a n) (hb : Wf b n) (w : World) : Calls Tryd.prog 71 #[a.v, b.v] w fun e w' => e = .returned (.bool (inG a b)) ∧ Ext w w' := by
  have HBR := hide hb.row
  have HAR := hide ha.row
  have HN := hide ha.n_eq
  have hn5 := ha.n5
  have HEND := hide (inG_n (a := a) (b := b) ha)
  have HNO := hide (fun p hp h => inG_no (a := a) (b := b) (p := p) hp h)
  have HAN := hide (fun p => i64_and_nat (a.r p) (b.r p) (by have := ha.lt32 p; omega) (by have := hb.lt32 p; omega))
  generalize inG a b = res at HEND HNO ⊢
  clear ha hb
  go_enter Tryd.func71, Tryd.ntmps71
  go_wp2_with fail
  have HT := hide (Two.mk_ w a b)
  generalize (w.alloc (gobj a)).alloc (gobj b) = W at HT ⊢
  go_loopw [5] (fun x V => ∃ k : Nat, k ≤ n ∧ x = .int .i64 k ∧ Hid (Two w V a b) ∧ Hid (∀ j, j < k → a.r j &&& b.r j = a.r j)) (fun x _ => n - (intOf x).toNat)
  case atStart => exact ⟨0, by omega, rfl, HT, fun j hj => by omega⟩
  case round =>
    clear HT
    obtain ⟨k, hk, rfl, HT, HJ⟩ := hrel
    obtain ⟨c0, -, -, -, -, -, z0⟩ := HT.out.a.cells
    rw [HN.out] at c0
    by_cases hlt : k < n
    · have hk5 : (k : Int) < 5 := by omega
      have z1 := lt_of_heap HT.out.b
      obtain ⟨ra, -⟩ := HT.out.a.row (p := k) (by omega)
      rw [HAR.out] at ra
      obtain ⟨rb, -⟩ := HT.out.b.row (p := k) (by omega)
      rw [HBR.out] at rb
      have han := HAN.out k
      by_cases he : a.r k &&& b.r k = a.r k
      · have HJ2 : Hid (∀ j, j < k + 1 → a.r j &&& b.r j = a.r j) := fun j hj => by
          by_cases e : j = k
          · subst e; exact he
          · exact HJ.out j (by omega)
        rw [he] at han
        have hd : ((a.r k : Int) != (a.r k : Int)) = false := by simp
        clear he
        go_wp2_with fail
        refine wp_region_ext (by kernel_rfl) (by kernel_rfl) ?_
        repeat (go_big_quiet_step (fail))
        refine wpQuiet_nil ?_
        rintro w9 ⟨⟨_, hE9⟩, rfl⟩
        have HT := hide (HT.out.ext_ hE9)
        clear hE9 ra rb z0 z1 c0
        go_wp2_with fail
        go_roundw
        case rel => exact ⟨k + 1, by omega, by go_num, HT, HJ2⟩
        case measure => simp [intOf]; omega
      · have HR := hide (HNO.out k (by omega) he)
        have hd : (((a.r k &&& b.r k : Nat) : Int) != (a.r k : Int)) = true := by rw [bne_iff_ne]; omega
        clear he
        generalize a.r k &&& b.r k = y at han hd
        go_wp2_with fail
        refine wp_region_ext (by kernel_rfl) (by kernel_rfl) ?_
        repeat (go_big_quiet_step (fail))
        refine wpQuiet_nil ?_
        rintro w9 ⟨⟨_, hE9⟩, rfl⟩
        have HT := hide (HT.out.ext_ hE9)
        clear hE9 ra rb z0 z1 c0
        go_wp2_with fail
        go_ret
        exact ⟨ret_bool HR.out.symm, HT.out.ext⟩
    · obtain rfl : k = n := by omega
      have HR := hide (HEND.out HJ.out)
      go_wp2_with fail
      go_ret
      exact ⟨ret_bool HR.out.symm, HT.out.ext⟩
set_option maxHeartbeats 1000000 in
theorem rinside_ok (a b : Gr) {n : Nat} (ha : Wf a n) (hb : Wf b n) (w : World) : Calls Tryd.prog 38 #[a.v, b.v] w (RetV1 (.bool (inG a b), 0) w) := by
  have HB2 := hide (fun W => rgboth_any a b W)
  rw [bothS_0 (wf_chk ha) (wf_chk hb) (by rw [ha.n_eq, hb.n_eq])] at HB2
  have HW := hide (fun W => rwithin_in a b ha hb W)
  generalize inG a b = res at HW ⊢
  clear ha hb
  go_enter Tryd.func38, Tryd.ntmps38
  go_wp2_with fail
  have HT := hide (Two.mk_ w a b)
  generalize (w.alloc (gobj a)).alloc (gobj b) = W at HT ⊢
  refine (HB2.out _).mono ?_
  rintro e w1 ⟨rfl, hE⟩
  have HT := hide (HT.out.ext_ hE)
  clear hE
  obtain ⟨c0, c1, c2, c3, c4, c5, z0⟩ := HT.out.a.cells
  obtain ⟨d0, d1, d2, d3, d4, d5, z1⟩ := HT.out.b.cells
  go_wp2_with fail
  refine (HW.out _).mono ?_
  rintro e w2 ⟨rfl, hE⟩
  have HT := hide (HT.out.ext_ hE)
  clear hE c0 c1 c2 c3 c4 c5 z0 d0 d1 d2 d3 d4 d5 z1
  go_wp2_with fail
  go_ret2
  exact ⟨rfl, HT.out.ext⟩
set_option maxHeartbeats 1000000 in
theorem inside_any (a b : Gr) (w : World) : Calls Tryd.prog 37 #[a.v, b.v] w (RetV1 (.bool (insideS a b).1, (insideS a b).2) w) := by
  by_cases h0 : bothS a b = 0
  · obtain ⟨n, ha, hb⟩ := bothS_ok h0
    have hs : insideS a b = (inG a b, 0) := by unfold insideS; rw [if_neg (by simp [h0])]
    rw [hs]
    exact inside_ok a b ha hb w
  have HB := hide (fun W => gboth_any a b W)
  have HR := hide (show insideS a b = (false, bothS a b) from if_pos h0)
  generalize insideS a b = res at HR ⊢
  generalize bothS a b = e at HB HR h0
  have hd : (e != 0) = true := by simp [h0]
  clear h0
  go_enter Tryd.func37, Tryd.ntmps37
  go_wp2_with fail
  refine (HB.out _).mono ?_
  rintro r w1 ⟨rfl, hE⟩
  have HE := hide ((((Ext.refl w).alloc _).alloc _).trans hE)
  clear hE
  go_wp2_with fail
  go_ret2
  exact ⟨by rw [HR.out]; rfl, HE.out⟩
set_option maxHeartbeats 1000000 in
theorem rgin_any (a b : Gr) (w : World) : Calls Tryd.prog 38 #[a.v, b.v] w (RetV1 (.bool (insideS a b).1, (insideS a b).2) w) := by
  by_cases h0 : bothS a b = 0
  · obtain ⟨n, ha, hb⟩ := bothS_ok h0
    have hs : insideS a b = (inG a b, 0) := by unfold insideS; rw [if_neg (by simp [h0])]
    rw [hs]
    exact rinside_ok a b ha hb w
  have HB := hide (fun W => rgboth_any a b W)
  have HR := hide (show insideS a b = (false, bothS a b) from if_pos h0)
  generalize insideS a b = res at HR ⊢
  generalize bothS a b = e at HB HR h0
  have hd : (e != 0) = true := by simp [h0]
  clear h0
  go_enter Tryd.func38, Tryd.ntmps38
  go_wp2_with fail
  refine (HB.out _).mono ?_
  rintro r w1 ⟨rfl, hE⟩
  have HE := hide ((((Ext.refl w).alloc _).alloc _).trans hE)
  clear hE
  go_wp2_with fail
  go_ret2
  exact ⟨by rw [HR.out]; rfl, HE.out⟩
set_option maxHeartbeats 1000000 in
theorem edges_any (g : Gr) (w : World) : Calls Tryd.prog 39 #[g.v] w (RetV1 (.int .i64 (edgesS g).1, (edgesS g).2) w) := by
  by_cases h0 : gchk g = 0
  · obtain ⟨n, hg⟩ := wf_of h0
    have hs : edgesS g = (edG g 5, 0) := by unfold edgesS; rw [if_neg (by simp [h0])]
    rw [hs]
    exact edges_ok g hg w
  have HB := hide (fun W => gcheck_any g W)
  have HR := hide (show edgesS g = (0, gchk g) from if_pos h0)
  generalize edgesS g = res at HR ⊢
  generalize gchk g = e at HB HR h0
  have hd : (e != 0) = true := by simp [h0]
  clear h0
  go_enter Tryd.func39, Tryd.ntmps39
  go_wp2_with fail
  refine (HB.out _).mono ?_
  rintro r w1 ⟨rfl, hE⟩
  have HE := hide (((Ext.refl w).alloc _).trans hE)
  clear hE
  go_wp2_with fail
  go_ret2
  exact ⟨by rw [HR.out]; rfl, HE.out⟩
set_option maxHeartbeats 1000000 in
theorem redges_any (g : Gr) (w : World) : Calls Tryd.prog 40 #[g.v] w (RetV1 (.int .i64 (edgesS g).1, (edgesS g).2) w) := by
  by_cases h0 : gchk g = 0
  · obtain ⟨n, hg⟩ := wf_of h0
    have hs : edgesS g = (edG g 5, 0) := by unfold edgesS; rw [if_neg (by simp [h0])]
    rw [hs]
    exact redges_ok g hg w
  have HB := hide (fun W => rgcheck_any g W)
  have HR := hide (show edgesS g = (0, gchk g) from if_pos h0)
  generalize edgesS g = res at HR ⊢
  generalize gchk g = e at HB HR h0
  have hd : (e != 0) = true := by simp [h0]
  clear h0
  go_enter Tryd.func40, Tryd.ntmps40
  go_wp2_with fail
  refine (HB.out _).mono ?_
  rintro r w1 ⟨rfl, hE⟩
  have HE := hide (((Ext.refl w).alloc _).trans hE)
  clear hE
  go_wp2_with fail
  go_ret2
  exact ⟨by rw [HR.out]; rfl, HE.out⟩
end Go.Proofs.YtpcboonjalbihaaDoor
