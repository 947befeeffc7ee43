/-
  The law TopFailuresDefined: the walk.
  Conditions: none.
-/
import Derived.Test.YtnhgdjiljjpgmaaPlayO
namespace Go.Proofs.Ytnhgdjiljjpgmaa
open Go.RowKit
attribute [local go_sem] Oper.semAt_some

def playWB (n : Int) (l : List Rd) : Bool := decide (l.length ≤ 3) && decide (wordE n l = 0)
set_option maxRecDepth 16000 in
theorem playword_any (n : Int) (l : List Rd) (v : Value) (w : World) (hv : Row Rd.cells 7 w v l) : Calls Try.prog 6 #[.int .i64 n, v] w fun e w' => e = .returned (.bool (playWB n l)) ∧ Ext w w' := by
  have HW := hide (fun W (hE : Ext w W) => rrword_any n l v W (hv.ext hE))
  obtain ⟨p, c, rfl, hc, hlen, hat⟩ := hv.rd_all
  clear hv hat
  unfold playWB
  by_cases h3 : l.length ≤ 3
  · rw [decide_eq_true h3, Bool.true_and]
    generalize wordE n l = res at HW ⊢
    have h3I : (l.length : Int) ≤ 3 := by omega
    clear h3
    go_enter Try.func6, Try.ntmps6
    go_wp2_with fail
    refine (HW.out _ (Ext.refl _)).mono ?_
    rintro e w1 ⟨rfl, hE⟩
    go_wp2_with fail
    go_ret
    exact ⟨rfl, hE⟩
  · have h3I : ¬ (l.length : Int) ≤ 3 := by omega
    rw [decide_eq_false h3]
    clear h3
    go_enter Try.func6, Try.ntmps6
    go_wp2_with fail
    go_ret
    exact ⟨rfl, Ext.refl _⟩
theorem play_count : (mdlA 1 3 1).2 = 0 ∧ movesN (mdlA 1 3 1).1 ≤ 4096 ∧ countS (mdlA 1 3 1).1 1 1048576 = (13, 0) := by decide +kernel
set_option maxRecDepth 16000 in
theorem playawake_any (w : World) : Calls Try.prog 5 #[] w fun e w' => e = .returned (.bool true) ∧ Ext w w' := by
  obtain ⟨e1, e2, e3⟩ := play_count
  have C1 := hide (fun W => pcrash_any 3 1 W)
  generalize mdlA 1 3 1 = res at C1 e1 e2 e3
  obtain ⟨A, e⟩ := res
  have e1 : e = 0 := e1
  subst e1
  have C2 := hide (fun W v (hA : AdvRep W v A) => pcount_any A v 1 W hA (by have : movesN A ≤ 4096 := e2; omega))
  rw [show countS A 1 1048576 = (13, 0) from e3] at C2
  clear e2 e3
  go_enter Try.func5, Try.ntmps5
  go_wp2_with fail
  refine (C1.out _).mono ?_
  rintro e w1 ⟨v, rfl, hv, hE⟩
  obtain ⟨sv, rfl, hco, -⟩ := id hv
  obtain ⟨q, c, rfl⟩ := hco.sl
  have R1 := hide hv.rep
  have X1 : Hid (Ext w w1) := by first | exact hE | exact ((Ext.refl w).alloc _).trans hE
  clear hco hv hE
  go_wp2_with fail
  refine (C2.out _ _ (R1.out.ext ((Ext.refl w1).alloc _))).mono ?_
  rintro e w2 ⟨rfl, hE⟩
  have X2 := hide (X1.out.trans (((Ext.refl w1).alloc (.cells #[.int .i64 A.n, .slice q A.st.length c] 29)).trans hE))
  clear hE
  go_wp2_with fail
  go_ret
  exact ⟨rfl, X2.out⟩
/-- What the law knows of kind i. -/
structure KindF (i n f : Nat) (F : FuncId) (A : Adv) : Prop where
  call : ∀ W, Calls Try.prog F #[.int .i64 n, .int .i64 f] W fun e W' => ∃ (q : Option Addr) (c : Nat), e = .returned (.tuple #[.agg #[.int .i64 A.n, .slice q A.st.length c], .int .i64 0]) ∧ AdvRep W' (.agg #[.int .i64 A.n, .slice q A.st.length c]) A ∧ Ext W W'
  mv : movesN A ≤ 4096
  allows : ∀ l, WdN n l → allowsS A l = (wantB i n f l l.length, 0)
theorem kindF {i n f : Nat} {F : FuncId} (hi : i < 4) (hn : n = 2 ∨ n = 3) (hf : f ≤ n) (pF : ∀ n f w, Calls Try.prog F #[.int .i64 n, .int .i64 f] w (RetF (mdlA (i + 1) n f) w)) : ∃ A, KindF i n f F A := by
  obtain ⟨A, FA⟩ := faultA (op := i + 1) (n := n) (f := f) (by omega) (by omega) (by omega) hf
  refine ⟨A, fun W => (pF n f W).mono fun e W' h => ?_, FA.mv, fun l hl => ?_⟩
  · rw [FA.eq] at h
    obtain ⟨v, rfl, hv, hE⟩ := h
    obtain ⟨sv, rfl, hco, -⟩ := id hv
    obtain ⟨q, c, rfl⟩ := hco.sl
    exact ⟨q, c, rfl, hv.rep, hE⟩
  · unfold allowsS
    rw [if_pos FA.chk]
    refine Prod.ext ?_ rfl
    show decide (0 ≤ after A 0 l) = _
    rw [Bool.eq_iff_iff, decide_eq_true_eq, FA.allows, chain_iff (by omega) (by omega) l 0 (Nat.two_pow_pos _) hl.rd, want_iff hi hn hl]
set_option maxRecDepth 16000 in
set_option maxHeartbeats 8000000 in
theorem topfail_law (k : Nat) (u : Value) (l : List Rd) (w : World) (hk : k < 256) (hl : Row Rd.cells 7 w u l) : Calls Try.prog 3 #[.int .u8 k, u] w fun e w' => e = .returned (.bool true) ∧ Ext w w' := by
  obtain ⟨N, hN, hN23⟩ : ∃ N : Nat, 2 + (k : Int) % 2 = N ∧ (N = 2 ∨ N = 3) := ⟨2 + k % 2, by omega, by omega⟩
  obtain ⟨F, hF, hF2⟩ : ∃ F : Nat, (k : Int) / 2 % 3 = F ∧ F ≤ 2 := ⟨k / 2 % 3, by omega, by omega⟩
  have HA := hide (fun W => playawake_any W)
  have HPW := hide (fun W (hE : Ext w W) => playword_any N l u W (hl.ext hE))
  have HNF := hide (And.intro hN hF)
  obtain ⟨p, c, hu, hc, hlen, hat⟩ := hl.rd_all
  have HAT := hide hat
  have HL := hide hl
  subst hu
  clear hat hN hF hc hl
  cases hpw : playWB N l with
  | false =>
    rw [hpw] at HPW
    clear hpw
    go_enter Try.func3, Try.ntmps3
    go_wp2_with fail
    refine (HA.out _).mono ?_
    rintro e w1 ⟨rfl, E1⟩
    have X1 := hide E1
    clear E1
    go_wp2_with fail
    rw [HNF.out.1]
    refine (HPW.out _ X1.out).mono ?_
    rintro e w2 ⟨rfl, E2⟩
    go_wp2_with fail
    go_ret
    exact ⟨rfl, X1.out.trans E2⟩
  | true =>
  have hWD : WdN N l := by
    unfold playWB at hpw
    simp only [Bool.and_eq_true, decide_eq_true_eq] at hpw
    exact wdN_of hpw.2
  have hl3 : l.length ≤ 3 := by
    unfold playWB at hpw
    simp only [Bool.and_eq_true, decide_eq_true_eq] at hpw
    exact hpw.1
  rw [hpw] at HPW
  clear hpw
  obtain ⟨A0, K0⟩ := kindF (i := 0) (f := F) (by omega) hN23 (by omega) pcrash_any
  obtain ⟨A1, K1⟩ := kindF (i := 1) (f := F) (by omega) hN23 (by omega) psend_any
  obtain ⟨A2, K2⟩ := kindF (i := 2) (f := F) (by omega) hN23 (by omega) precv_any
  obtain ⟨A3, K3⟩ := kindF (i := 3) (f := F) (by omega) hN23 (by omega) pomit_any
  have HWD := hide hWD
  have HK0 := hide K0
  have HK1 := hide K1
  have HK2 := hide K2
  have HK3 := hide K3
  clear hWD K0 K1 K2 K3
  go_enter Try.func3, Try.ntmps3
  go_wp2_with fail
  refine (HA.out _).mono ?_
  rintro e w1 ⟨rfl, E1⟩
  have X1 := hide E1
  clear E1
  go_wp2_with fail
  rw [HNF.out.1, HNF.out.2]
  refine (HPW.out _ X1.out).mono ?_
  rintro e w2 ⟨rfl, E2⟩
  have X2 := hide (X1.out.trans E2)
  clear E2
  go_wp2_with fail
  obtain ⟨w3, hw3⟩ : ∃ w3, w2.alloc (.cells #[.func (.func 7) #[] #[], .func (.func 8) #[] #[], .func (.func 9) #[] #[], .func (.func 10) #[] #[]] 25) = w3 := ⟨_, rfl⟩
  have X3 : Hid (Ext w w3) := by show Ext _ _; rw [← hw3]; exact X2.out.alloc _
  have HKB : Hid (w3.heap[w2.heap.size]? = some (.cells #[.func (.func 7) #[] #[], .func (.func 8) #[] #[], .func (.func 9) #[] #[], .func (.func 10) #[] #[]] 25 (0, 0))) := by show _ = _; rw [← hw3]; exact heap_alloc_new w2 _
  rw [hw3]
  clear hw3
  generalize w2.heap.size = kb at HKB ⊢
  have HKI : Hid (∀ i, i < 4 → ∃ (A : Adv) (Fi : FuncId), KindF i N F Fi A ∧ w3.cell? ⟨kb, i, none⟩ = some (.func (.func Fi) #[] #[]) ∧ ∀ args w, (callFunc Fi args).run Try.prog w = .ok (.enter Fi args) w) := fun i hi => by
    obtain rfl | rfl | rfl | rfl : i = 0 ∨ i = 1 ∨ i = 2 ∨ i = 3 := by omega
    · exact ⟨_, _, HK0.out, cells_at HKB.out 0, fun _ _ => by kernel_rfl⟩
    · exact ⟨_, _, HK1.out, cells_at HKB.out 1, fun _ _ => by kernel_rfl⟩
    · exact ⟨_, _, HK2.out, cells_at HKB.out 2, fun _ _ => by kernel_rfl⟩
    · exact ⟨_, _, HK3.out, cells_at HKB.out 3, fun _ _ => by kernel_rfl⟩
  have HKZ := hide (lt_of_heap HKB.out)
  clear HK0 HK1 HK2 HK3 HA HPW
  have HE0 : Hid (Ext w3 w3) := Ext.refl w3
  go_loopw [35] (fun x V => ∃ i : Nat, i ≤ 4 ∧ x = .int .i64 i ∧ Hid (Ext w3 V)) (fun x _ => 4 - (intOf x).toNat)
  case atStart => exact ⟨0, by decide, rfl, HE0⟩
  case round =>
    clear HE0
    obtain ⟨i, hi, rfl, HE⟩ := hrel
    by_cases hlt : i < 4
    · obtain ⟨A, Fi, HK, hcell, hef⟩ := HKI.out i hlt
      have r0 := (HE.out.cell (p := ⟨kb, i, none⟩) HKZ.out).trans hcell
      have rz := Nat.lt_of_lt_of_le HKZ.out HE.out.size
      have hi4 : (i : Int) < 4 := by omega
      have HKC := hide HK.call
      have HAL := hide (fun W (v : Value) (hE : Ext w W) (hA : AdvRep W v A) => pallows_any A v (.slice p l.length c) l W hA (HL.out.ext hE) (by have := HK.mv; omega))
      rw [HK.allows l HWD.out] at HAL
      clear HK hcell
      go_wp2_with fail
      refine (HKC.out _).mono ?_
      rintro e w4 ⟨q4, c4, rfl, R4, E4⟩
      have HE4 := hide (HE.out.trans E4)
      replace R4 := hide R4
      clear E4 r0 rz HE
      go_wp2_with fail
      refine (HAL.out _ _ (X3.out.trans (HE4.out.alloc _)) (R4.out.ext ((Ext.refl w4).alloc _))).mono ?_
      rintro e w5 ⟨rfl, E5⟩
      have HE5 := hide (HE4.out.trans (((Ext.refl w4).alloc (.cells #[.int .i64 A.n, .slice q4 A.st.length c4] 29)).trans E5))
      clear E5 R4 HAL HKC hef
      go_upto_region 15 with fail
      go_wp2_with fail
      obtain ⟨wt, hwt⟩ : ∃ wt, wantB i N F l l.length = wt := ⟨_, rfl⟩
      rw [hwt]
      have HWT := hide hwt
      clear hwt
      obtain ⟨wo, hwo⟩ : ∃ wo, wo = wr := ⟨_, rfl⟩
      subst hwo
      go_loopw [14, 15, 61] (fun ut ub x V => ∃ j : Nat, j ≤ l.length ∧ x = .int .i64 j ∧ ut = .bool (wantB i N F l j) ∧ ub = .int .i64 (befN l j : Nat) ∧ Hid (Ext w3 V)) (fun _ _ x _ => l.length - (intOf x).toNat)
      case atStart => exact ⟨0, Nat.zero_le _, rfl, rfl, rfl, HE5⟩
      case round =>
        clear HE5
        obtain ⟨j, hj, rfl, rfl, rfl, HE6⟩ := hrel
        by_cases hjl : j < l.length
        · obtain ⟨rb, ro, rfl, hrb, hat⟩ := HAT.out (by omega)
          have hx := hat j hjl
          have hm : l.getD j default ∈ l := by rw [List.getD_eq_getElem?_getD, List.getElem?_eq_getElem hjl]; exact List.getElem_mem _
          have hrd := HWD.out.rd _ hm
          have HWS := hide (wantB_succ i N F l j)
          have hbn := Nat.lt_of_lt_of_le (bef_lt HWD.out.rd j hj) (pow32_le (show N ≤ 5 by omega))
          have HBN : Hid (((befN l (j + 1) : Nat) : Int) = (l.getD j default).f) := by
            obtain ⟨o, ho, _⟩ := hrd.f
            show (((l.getD j default).f.toNat : Nat) : Int) = _
            rw [ho]; rfl
          generalize l.getD j default = r at hx hrd HWS HBN
          obtain ⟨wn, hwn⟩ : ∃ wn, wantB i N F l (j + 1) = wn := ⟨_, rfl⟩
          obtain ⟨bn, hbq⟩ : ∃ bn, befN l (j + 1) = bn := ⟨_, rfl⟩
          rw [hwn] at HWS
          rw [hbq] at HBN
          have HWN := hide hwn
          have HBQ := hide hbq
          clear hwn hbq
          generalize befN l j = bj at hbn HWS
          have HPC := hide (fun W => pplayC_any (b := bj) (f := F) hN23 hrd hbn W)
          have HPO := hide (fun sd rc (h : sd = true ∨ rc = true) W => pplayO_any (b := bj) (f := F) h hN23 hrd hbn W)
          obtain ⟨x0, x1, x2, x3, x4, x5, x6⟩ := hx
          have HXE := hide (X3.out.trans HE6.out)
          replace x0 := x0 _ HXE.out
          replace x1 := x1 _ HXE.out
          replace x2 := x2 _ HXE.out
          replace x3 := x3 _ HXE.out
          replace x4 := x4 _ HXE.out
          replace x5 := x5 _ HXE.out
          replace x6 := x6 _ HXE.out
          have hzb := Nat.lt_of_lt_of_le hrb HXE.out.size
          clear hat hm hrd hbn
          go_upto_region 18 with fail
          clear x0 x1 x2 x3 x4 x5 x6 hzb
          have HRB : Hid (RB (wr.alloc (.cells #[.int .i64 r.g.n, .int .i64 r.g.h0, .int .i64 r.g.h1, .int .i64 r.g.h2, .int .i64 r.g.h3, .int .i64 r.g.h4, .int .i64 r.f] 38)) wr.heap.size r) := heap_alloc_new wr _
          have HE7 := hide (HE6.out.alloc (.cells #[.int .i64 r.g.n, .int .i64 r.g.h0, .int .i64 r.g.h1, .int .i64 r.g.h2, .int .i64 r.g.h3, .int .i64 r.g.h4, .int .i64 r.f] 38))
          generalize wr.alloc (.cells #[.int .i64 r.g.n, .int .i64 r.g.h0, .int .i64 r.g.h1, .int .i64 r.g.h2, .int .i64 r.g.h3, .int .i64 r.g.h4, .int .i64 r.f] 38) = V1 at HRB HE7 ⊢
          generalize wr.heap.size = br at HRB ⊢
          have y0 : V1.cell? ⟨br, 0, none⟩ = some (.int .i64 r.g.n) := cells_at HRB.out 0
          have y1 : V1.cell? ⟨br, 1, none⟩ = some (.int .i64 r.g.h0) := cells_at HRB.out 1
          have y2 : V1.cell? ⟨br, 2, none⟩ = some (.int .i64 r.g.h1) := cells_at HRB.out 2
          have y3 : V1.cell? ⟨br, 3, none⟩ = some (.int .i64 r.g.h2) := cells_at HRB.out 3
          have y4 : V1.cell? ⟨br, 4, none⟩ = some (.int .i64 r.g.h3) := cells_at HRB.out 4
          have y5 : V1.cell? ⟨br, 5, none⟩ = some (.int .i64 r.g.h4) := cells_at HRB.out 5
          have y6 : V1.cell? ⟨br, 6, none⟩ = some (.int .i64 r.f) := cells_at HRB.out 6
          have yz := lt_of_heap HRB.out
          cases hw : wantB i N F l j with
          | false =>
            rw [hw] at HWS
            obtain rfl | rfl | rfl | rfl : i = 0 ∨ i = 1 ∨ i = 2 ∨ i = 3 := by omega
            all_goals
              go_wp2_with fail
              go_roundw
              case rel => first
                | exact ⟨j + 1, by omega, by go_num, by rw [HWN.out, HWS.out]; rfl, by rw [HBQ.out, HBN.out], HE7⟩
                | ((repeat apply Exists.intro); exact ⟨⟨j + 1, by omega, by go_num, by rw [HWN.out, HWS.out]; rfl, by rw [HBQ.out, HBN.out], HE7⟩, rfl⟩)
              case measure => simp [intOf]; omega
          | true =>
            rw [hw] at HWS
            obtain rfl | rfl | rfl | rfl : i = 0 ∨ i = 1 ∨ i = 2 ∨ i = 3 := by omega
            · go_wp2_with fail
              refine (HPC.out _).mono ?_
              rintro e V2 ⟨rfl, E2⟩
              have HE8 := hide (HE7.out.trans E2)
              have HRB2 := hide (HRB.out.ext E2)
              clear E2 y0 y1 y2 y3 y4 y5 y6 yz
              have y6 : V2.cell? ⟨br, 6, none⟩ = some (.int .i64 r.f) := cells_at HRB2.out 6
              have yz := lt_of_heap HRB2.out
              go_wp2_with fail
              go_roundw
              case rel => first
                | exact ⟨j + 1, by omega, by go_num, by rw [HWN.out, HWS.out]; rfl, by rw [HBQ.out, HBN.out], HE8⟩
                | ((repeat apply Exists.intro); exact ⟨⟨j + 1, by omega, by go_num, by rw [HWN.out, HWS.out]; rfl, by rw [HBQ.out, HBN.out], HE8⟩, rfl⟩)
              case measure => simp [intOf]; omega
            · go_wp2_with fail
              refine (HPO.out true false (.inl rfl) _).mono ?_
              rintro e V2 ⟨rfl, E2⟩
              have HE8 := hide (HE7.out.trans E2)
              have HRB2 := hide (HRB.out.ext E2)
              clear E2 y0 y1 y2 y3 y4 y5 y6 yz
              have y6 : V2.cell? ⟨br, 6, none⟩ = some (.int .i64 r.f) := cells_at HRB2.out 6
              have yz := lt_of_heap HRB2.out
              go_wp2_with fail
              go_roundw
              case rel => first
                | exact ⟨j + 1, by omega, by go_num, by rw [HWN.out, HWS.out]; rfl, by rw [HBQ.out, HBN.out], HE8⟩
                | ((repeat apply Exists.intro); exact ⟨⟨j + 1, by omega, by go_num, by rw [HWN.out, HWS.out]; rfl, by rw [HBQ.out, HBN.out], HE8⟩, rfl⟩)
              case measure => simp [intOf]; omega
            · go_wp2_with fail
              refine (HPO.out false true (.inr rfl) _).mono ?_
              rintro e V2 ⟨rfl, E2⟩
              have HE8 := hide (HE7.out.trans E2)
              have HRB2 := hide (HRB.out.ext E2)
              clear E2 y0 y1 y2 y3 y4 y5 y6 yz
              have y6 : V2.cell? ⟨br, 6, none⟩ = some (.int .i64 r.f) := cells_at HRB2.out 6
              have yz := lt_of_heap HRB2.out
              go_wp2_with fail
              go_roundw
              case rel => first
                | exact ⟨j + 1, by omega, by go_num, by rw [HWN.out, HWS.out]; rfl, by rw [HBQ.out, HBN.out], HE8⟩
                | ((repeat apply Exists.intro); exact ⟨⟨j + 1, by omega, by go_num, by rw [HWN.out, HWS.out]; rfl, by rw [HBQ.out, HBN.out], HE8⟩, rfl⟩)
              case measure => simp [intOf]; omega
            · go_wp2_with fail
              refine (HPO.out true true (.inl rfl) _).mono ?_
              rintro e V2 ⟨rfl, E2⟩
              have HE8 := hide (HE7.out.trans E2)
              have HRB2 := hide (HRB.out.ext E2)
              clear E2 y0 y1 y2 y3 y4 y5 y6 yz
              have y6 : V2.cell? ⟨br, 6, none⟩ = some (.int .i64 r.f) := cells_at HRB2.out 6
              have yz := lt_of_heap HRB2.out
              go_wp2_with fail
              go_roundw
              case rel => first
                | exact ⟨j + 1, by omega, by go_num, by rw [HWN.out, HWS.out]; rfl, by rw [HBQ.out, HBN.out], HE8⟩
                | ((repeat apply Exists.intro); exact ⟨⟨j + 1, by omega, by go_num, by rw [HWN.out, HWS.out]; rfl, by rw [HBQ.out, HBN.out], HE8⟩, rfl⟩)
              case measure => simp [intOf]; omega
        · obtain rfl : j = l.length := by omega
          rw [HWT.out]
          cases wt
          all_goals
            go_wp2_with fail
            go_roundw
            case rel => exact ⟨i + 1, by omega, by go_num, HE6⟩
            case measure => simp [intOf]; omega
    · obtain rfl : i = 4 := by omega
      go_wp2_with fail
      go_ret
      exact ⟨rfl, X3.out.trans HE.out⟩
end Go.Proofs.Ytnhgdjiljjpgmaa
