/-
  The law TopDivisionsDefined: the walk.
  Conditions: none.
-/
import Derived.Test.YtnhgdjiljjpgmaaDivsL
import Derived.Test.YtnhgdjiljjpgmaaTopFW
namespace Go.Proofs.Ytnhgdjiljjpgmaa
open Go.RowKit
attribute [local go_sem] Oper.semAt_some

/-- An adversary that is returned, without an error. -/
def RetS (A : Adv) (W : World) (e : Ending) (W' : World) : Prop := ∃ (q : Option Addr) (c : Nat), e = .returned (.tuple #[.agg #[.int .i64 A.n, .slice q A.st.length c], .int .i64 0]) ∧ AdvRep W' (.agg #[.int .i64 A.n, .slice q A.st.length c]) A ∧ Ext W W'
theorem RetF.okS {A : Adv} {W : World} {e : Ending} {W' : World} (h : RetF (A, 0) W e W') : RetS A W e W' := by
  obtain ⟨v, rfl, hv, hE⟩ := h
  obtain ⟨sv, rfl, hco, -⟩ := id hv
  obtain ⟨q, c, rfl⟩ := hco.sl
  exact ⟨q, c, rfl, hv.rep, hE⟩
/-- What holds of the pairs before (a, b). -/
def befP (n : Nat) (f : Nat → Nat → Bool) (a b : Nat) : Bool := ((List.range a).all fun a' => (List.range n).all fun b' => f a' b') && (List.range b).all fun b' => f a b'
def befA (n : Nat) (f : Nat → Nat → Bool) (a b : Nat) : Bool := ((List.range a).any fun a' => (List.range n).any fun b' => f a' b') || (List.range b).any fun b' => f a b'
theorem befP_zero (n : Nat) (f : Nat → Nat → Bool) : befP n f 0 0 = true := rfl
theorem befA_zero (n : Nat) (f : Nat → Nat → Bool) : befA n f 0 0 = false := rfl
theorem befP_succ (n : Nat) (f : Nat → Nat → Bool) (a b : Nat) : befP n f a (b + 1) = (befP n f a b && f a b) := by
  unfold befP
  rw [List.range_succ, List.all_append]
  simp [Bool.and_assoc]
theorem befA_succ (n : Nat) (f : Nat → Nat → Bool) (a b : Nat) : befA n f a (b + 1) = (befA n f a b || f a b) := by
  unfold befA
  rw [List.range_succ (n := b), List.any_append]
  simp [Bool.or_assoc]
theorem befP_next (n : Nat) (f : Nat → Nat → Bool) (a : Nat) : befP n f (a + 1) 0 = befP n f a n := by
  unfold befP
  rw [List.range_succ, List.all_append]
  simp
theorem befA_next (n : Nat) (f : Nat → Nat → Bool) (a : Nat) : befA n f (a + 1) 0 = befA n f a n := by
  unfold befA
  rw [List.range_succ (n := a), List.any_append]
  simp
theorem befP_end (n : Nat) (f : Nat → Nat → Bool) : befP n f n 0 = allP n f := by unfold befP allP; simp
theorem andz_table : ((List.range 32).all fun a => (List.range 32).all fun b => decide ((((andNot a b : Nat) : Int) == 0) = insd a b)) = true := by decide +kernel
theorem andz_insd {a b : Nat} (ha : a < 32) (hb : b < 32) : (((andNot a b : Nat) : Int) == 0) = insd a b := by
  have h := andz_table
  rw [List.all_eq_true] at h
  have h := h a (List.mem_range.2 ha)
  rw [List.all_eq_true] at h
  exact of_decide_eq_true (h b (List.mem_range.2 hb))
/-- A split counts once. -/
def bI : Bool → Int
  | true => 1
  | false => 0
set_option maxRecDepth 16000 in
set_option maxHeartbeats 8000000 in
theorem topdiv_law (k : Nat) (u : Value) (l : List Rd) (w : World) (hk : k < 256) (hl : Row Rd.cells 7 w u l) : Calls Try.prog 4 #[.int .u8 k, u] w fun e w' => e = .returned (.bool true) ∧ Ext w w' := by
  obtain ⟨N, hN, hN23⟩ : ∃ N : Nat, 2 + (k : Int) % 2 = N ∧ (N = 2 ∨ N = 3) := ⟨2 + k % 2, by omega, by omega⟩
  obtain ⟨F, hF, hF2⟩ : ∃ F : Nat, (k : Int) / 2 % 3 = F ∧ F ≤ 2 := ⟨k / 2 % 3, by omega, by omega⟩
  have HA := hide (fun W => playawake_any W)
  have HPW := hide (fun W (hE : Ext w W) => playword_any N l u W (hl.ext hE))
  have HNF := hide (And.intro hN hF)
  obtain ⟨p, c, hu, hc, hlen, hat⟩ := hl.rd_all
  have HAT := hide hat
  have HL := hide hl
  subst hu
  clear hat hN hF hc hl
  cases hpw : playWB N l with
  | false =>
    rw [hpw] at HPW
    clear hpw
    go_enter Try.func4, Try.ntmps4
    go_wp2_with fail
    refine (HA.out _).mono ?_
    rintro e w1 ⟨rfl, E1⟩
    have X1 := hide E1
    clear E1
    go_wp2_with fail
    rw [HNF.out.1]
    refine (HPW.out _ X1.out).mono ?_
    rintro e w2 ⟨rfl, E2⟩
    go_wp2_with fail
    go_ret
    exact ⟨rfl, X1.out.trans E2⟩
  | true =>
  have hWD : WdN N l := by
    unfold playWB at hpw
    simp only [Bool.and_eq_true, decide_eq_true_eq] at hpw
    exact wdN_of hpw.2
  have hl3 : l.length ≤ 3 := by
    unfold playWB at hpw
    simp only [Bool.and_eq_true, decide_eq_true_eq] at hpw
    exact hpw.1
  rw [hpw] at HPW
  clear hpw
  obtain ⟨A, FA⟩ := divA (n := N) (k := F) (by omega) (by omega) (by omega)
  obtain ⟨B, FB⟩ := snpA (n := N) (by omega) (by omega)
  have C1 : Hid (∀ W, Calls Try.prog 14 #[.int .i64 N, .int .i64 F] W (RetS A W)) := fun W => (ppartition_any N F W).mono fun e W' h => RetF.okS (by rw [FA.eq] at h; exact h)
  have C2 : Hid (∀ W, Calls Try.prog 15 #[.int .i64 N] W (RetS B W)) := fun W => (psnapshot_any N W).mono fun e W' h => RetF.okS (by rw [FB.eq] at h; exact h)
  have P1 := hide (fun W (v : Value) (hE : Ext w W) (hA : AdvRep W v A) => pallows_any A v (.slice p l.length c) l W hA (HL.out.ext hE) (by have := FA.mv; omega))
  have P2 := hide (fun W (v : Value) (hE : Ext w W) (hA : AdvRep W v B) => pallows_any B v (.slice p l.length c) l W hA (HL.out.ext hE) (by have := FB.mv; omega))
  rw [div_found (by omega) (by omega) FA hWD.rd] at P1
  rw [snp_found (by omega) FB hWD.rd] at P2
  have HWD := hide hWD
  clear hWD FA FB
  go_enter Try.func4, Try.ntmps4
  go_wp2_with fail
  refine (HA.out _).mono ?_
  rintro e w1 ⟨rfl, E1⟩
  have X1 := hide E1
  clear E1
  go_wp2_with fail
  rw [HNF.out.1, HNF.out.2]
  refine (HPW.out _ X1.out).mono ?_
  rintro e w2 ⟨rfl, E2⟩
  have X2 := hide (X1.out.trans E2)
  clear E2
  go_wp2_with fail
  refine (C1.out _).mono ?_
  rintro e w3 ⟨q1, c1, rfl, R1, E3⟩
  have X3 := hide (X2.out.trans E3)
  replace R1 := hide R1
  clear E3
  go_wp2_with fail
  refine (C2.out _).mono ?_
  rintro e w4 ⟨q2, c2, rfl, R2, E4⟩
  have Y4 := ((Ext.refl w3).alloc (.cells #[.int .i64 A.n, .slice q1 A.st.length c1] 29)).trans E4
  have X4 := hide (X3.out.trans Y4)
  have B1 : Hid (w4.heap[w3.heap.size]? = some (.cells #[.int .i64 A.n, .slice q1 A.st.length c1] 29 (0, 0))) := (E4.b.block _ (by simp)).trans (heap_alloc_new w3 _)
  have R1 := hide (R1.out.ext Y4)
  replace R2 := hide R2
  clear E4 Y4
  have b0 : w4.cell? ⟨w3.heap.size, 0, none⟩ = some (.int .i64 A.n) := cells_at B1.out 0
  have b1 : w4.cell? ⟨w3.heap.size, 1, none⟩ = some (.slice q1 A.st.length c1) := cells_at B1.out 1
  have bz := lt_of_heap B1.out
  go_wp2_with fail
  refine (P1.out _ _ (X4.out.trans ((Ext.refl w4).alloc _)) (R1.out.ext ((Ext.refl w4).alloc _))).mono ?_
  rintro e w5 ⟨rfl, E5⟩
  have Y5 := ((Ext.refl w4).alloc (.cells #[.int .i64 B.n, .slice q2 B.st.length c2] 29)).trans E5
  have X5 := hide (X4.out.trans Y5)
  have B2 : Hid (w5.heap[w4.heap.size]? = some (.cells #[.int .i64 B.n, .slice q2 B.st.length c2] 29 (0, 0))) := (E5.b.block _ (by simp)).trans (heap_alloc_new w4 _)
  have R2 := hide (R2.out.ext Y5)
  clear E5 Y5 b0 b1 bz R1 B1
  have b0 : w5.cell? ⟨w4.heap.size, 0, none⟩ = some (.int .i64 B.n) := cells_at B2.out 0
  have b1 : w5.cell? ⟨w4.heap.size, 1, none⟩ = some (.slice q2 B.st.length c2) := cells_at B2.out 1
  have bz := lt_of_heap B2.out
  go_wp2_with fail
  refine (P2.out _ _ X5.out R2.out).mono ?_
  rintro e w6 ⟨rfl, E6⟩
  have X6 := hide (X5.out.trans E6)
  clear E6 b0 b1 bz R2 B2
  go_wp2_with fail
  have HG0 : Hid (allGrp N (l.take 0) = true) := rfl
  have HC0 : Hid (allChn N (l.take 0) = true) := rfl
  have HS0 : Hid ((l.take 0).countP (splB N) = 0) := rfl
  have hsn : ∀ j, j < l.length → l.take (j + 1) = l.take j ++ [l.getD j default] := fun j hj => by
    rw [List.take_succ_eq_append_getElem hj, List.getD_eq_getElem?_getD, List.getElem?_eq_getElem hj]; rfl
  have HGS : Hid (∀ j, j < l.length → allGrp N (l.take (j + 1)) = (allGrp N (l.take j) && allP N (grpB (l.getD j default)))) := fun j hj => by rw [hsn j hj]; unfold allGrp; rw [List.all_append]; simp
  have HCS : Hid (∀ j, j < l.length → allChn N (l.take (j + 1)) = (allChn N (l.take j) && allP N (chnB (l.getD j default)))) := fun j hj => by rw [hsn j hj]; unfold allChn; rw [List.all_append]; simp
  have HSS : Hid (∀ j, j < l.length → (l.take (j + 1)).countP (splB N) = (l.take j).countP (splB N) + if splB N (l.getD j default) = true then 1 else 0) := fun j hj => by rw [hsn j hj, List.countP_append]; simp [List.countP_cons]
  have HGN : Hid (allGrp N (l.take l.length) = allGrp N l) := by show _ = _; rw [List.take_length]
  have HCN : Hid (allChn N (l.take l.length) = allChn N l) := by show _ = _; rw [List.take_length]
  have HSN : Hid ((l.take l.length).countP (splB N) = l.countP (splB N)) := by show _ = _; rw [List.take_length]
  have HSB : Hid (∀ j, (l.take j).countP (splB N) ≤ 3) := fun j => Nat.le_trans List.countP_le_length (by rw [List.length_take]; omega)
  clear hsn
  obtain ⟨Gf, hGf⟩ : ∃ Gf : Nat → Bool, (fun j => allGrp N (l.take j)) = Gf := ⟨_, rfl⟩
  obtain ⟨Cf, hCf⟩ : ∃ Cf : Nat → Bool, (fun j => allChn N (l.take j)) = Cf := ⟨_, rfl⟩
  obtain ⟨Sf, hSf⟩ : ∃ Sf : Nat → Nat, (fun j => (l.take j).countP (splB N)) = Sf := ⟨_, rfl⟩
  have eG : ∀ j, allGrp N (l.take j) = Gf j := fun j => congrFun hGf j
  have eC : ∀ j, allChn N (l.take j) = Cf j := fun j => congrFun hCf j
  have eS : ∀ j, (l.take j).countP (splB N) = Sf j := fun j => congrFun hSf j
  simp only [eG] at HG0 HGS HGN
  simp only [eC] at HC0 HCS HCN
  simp only [eS] at HS0 HSS HSN HSB
  clear hGf hCf hSf eG eC eS
  obtain ⟨dv, hdv⟩ : ∃ dv, (allGrp N l && decide (l.countP (splB N) ≤ F)) = dv := ⟨_, rfl⟩
  obtain ⟨sv, hsv⟩ : ∃ sv, allChn N l = sv := ⟨_, rfl⟩
  have HDV : Hid (dv = (Gf l.length && decide (Sf l.length ≤ F))) := by show _ = _; rw [HGN.out, HSN.out, hdv]
  have HSV : Hid (sv = Cf l.length) := by show _ = _; rw [HCN.out, hsv]
  rw [hdv, hsv]
  clear hdv hsv HGN HCN HSN
  have HE0 : Hid (Ext w6 w6) := Ext.refl w6
  go_loopw [15, 16, 17, 72] (fun ug uc us x V => ∃ j : Nat, j ≤ l.length ∧ x = .int .i64 j ∧ ug = .bool (Gf j) ∧ uc = .bool (Cf j) ∧ us = .int .i64 (Sf j : Nat) ∧ Hid (Ext w6 V)) (fun _ _ _ x _ => l.length - (intOf x).toNat)
  case atStart => exact ⟨0, Nat.zero_le _, rfl, by rw [HG0.out], by rw [HC0.out], by rw [HS0.out]; rfl, HE0⟩
  case round =>
    clear HE0 HG0 HC0 HS0
    obtain ⟨j, hj, rfl, rfl, rfl, rfl, HE⟩ := hrel
    by_cases hjl : j < l.length
    · obtain ⟨rb, ro, rfl, hrb, hat⟩ := HAT.out (by omega)
      have hx := hat j hjl
      have hm : l.getD j default ∈ l := by rw [List.getD_eq_getElem?_getD, List.getElem?_eq_getElem hjl]; exact List.getElem_mem _
      have hrd := HWD.out.rd _ hm
      have hg := hide (HGS.out j hjl)
      have hc := hide (HCS.out j hjl)
      have hs := hide (HSS.out j hjl)
      have hsb := HSB.out j
      generalize l.getD j default = r at hx hrd hg hc hs
      obtain ⟨gn, hgn⟩ : ∃ gn, Gf (j + 1) = gn := ⟨_, rfl⟩
      obtain ⟨cn, hcn⟩ : ∃ cn, Cf (j + 1) = cn := ⟨_, rfl⟩
      obtain ⟨sn, hsn⟩ : ∃ sn, Sf (j + 1) = sn := ⟨_, rfl⟩
      rw [hgn] at hg
      rw [hcn] at hc
      rw [hsn] at hs
      replace hgn := hide hgn
      replace hcn := hide hcn
      replace hsn := hide hsn
      generalize Gf j = G0 at hg ⊢
      generalize Cf j = C0 at hc ⊢
      generalize Sf j = S0 at hs hsb ⊢
      have HGS := hide (gs_of hrd.wf)
      have HPM := hide (fun p q (hp : p < 5) (hq : q < 5) W => pmiss_any HGS.out hp hq W)
      obtain ⟨x0, x1, x2, x3, x4, x5, x6⟩ := hx
      have HXE := hide (X6.out.trans HE.out)
      replace x0 := x0 _ HXE.out
      replace x1 := x1 _ HXE.out
      replace x2 := x2 _ HXE.out
      replace x3 := x3 _ HXE.out
      replace x4 := x4 _ HXE.out
      replace x5 := x5 _ HXE.out
      replace x6 := x6 _ HXE.out
      have hzb := Nat.lt_of_lt_of_le hrb HXE.out.size
      clear hat hm hrd
      go_upto_region 17 with fail
      clear x0 x1 x2 x3 x4 x5 x6 hzb
      have HRB : Hid (RB (wr.alloc (.cells #[.int .i64 r.g.n, .int .i64 r.g.h0, .int .i64 r.g.h1, .int .i64 r.g.h2, .int .i64 r.g.h3, .int .i64 r.g.h4, .int .i64 r.f] 38)) wr.heap.size r) := heap_alloc_new wr _
      have HE7 := hide (HE.out.alloc (.cells #[.int .i64 r.g.n, .int .i64 r.g.h0, .int .i64 r.g.h1, .int .i64 r.g.h2, .int .i64 r.g.h3, .int .i64 r.g.h4, .int .i64 r.f] 38))
      generalize wr.alloc (.cells #[.int .i64 r.g.n, .int .i64 r.g.h0, .int .i64 r.g.h1, .int .i64 r.g.h2, .int .i64 r.g.h3, .int .i64 r.g.h4, .int .i64 r.f] 38) = V1 at HRB HE7 ⊢
      generalize wr.heap.size = br at HRB ⊢
      clear HE HXE
      go_wp2_with fail
      go_loopw [15, 16, 20, 77] (fun ug uc ut x V => ∃ (a : Nat) (gv cv sv : Bool), a ≤ N ∧ x = .int .i64 a ∧ ug = .bool gv ∧ uc = .bool cv ∧ ut = .int .i64 (bI sv) ∧ Hid (gv = (G0 && befP N (grpB r) a 0)) ∧ Hid (cv = (C0 && befP N (chnB r) a 0)) ∧ Hid (sv = befA N (fun a b => !hb r.g a b) a 0) ∧ Hid (Ext V1 V)) (fun _ _ _ x _ => N - (intOf x).toNat)
      case atStart => exact ⟨0, G0, C0, false, Nat.zero_le _, rfl, rfl, rfl, rfl, by show _ = _; rw [befP_zero, Bool.and_true], by show _ = _; rw [befP_zero, Bool.and_true], rfl, Ext.refl V1⟩
      case round =>
        obtain ⟨a, g1, c1', s1, ha, rfl, rfl, rfl, rfl, hg1, hc1, hs1, HEa⟩ := hrel
        by_cases haN : a < N
        · have haI : (a : Int) < (N : Int) := by omega
          go_wp2_with fail
          obtain ⟨wo, hwo⟩ : ∃ wo, wo = wr := ⟨_, rfl⟩
          subst hwo
          go_loopw [15, 16, 20, 81] (fun ug uc ut x V => ∃ (b : Nat) (gv cv sv : Bool), b ≤ N ∧ x = .int .i64 b ∧ ug = .bool gv ∧ uc = .bool cv ∧ ut = .int .i64 (bI sv) ∧ Hid (gv = (G0 && befP N (grpB r) a b)) ∧ Hid (cv = (C0 && befP N (chnB r) a b)) ∧ Hid (sv = befA N (fun a b => !hb r.g a b) a b) ∧ Hid (Ext V1 V)) (fun _ _ _ x _ => N - (intOf x).toNat)
          case atStart => exact ⟨0, g1, c1', s1, Nat.zero_le _, rfl, rfl, rfl, rfl, hg1, hc1, hs1, HEa⟩
          case round =>
            clear hg1 hc1 hs1 HEa
            obtain ⟨b, g2, c2', s2, hb2, rfl, rfl, rfl, rfl, hg2, hc2, hs2, HEb⟩ := hrel
            by_cases hbN : b < N
            · have hbI : (b : Int) < (N : Int) := by omega
              obtain ⟨sa, hsa, hsa32⟩ := HGS.out.2 a (by omega)
              obtain ⟨sc, hsc, hsc32⟩ := HGS.out.2 b (by omega)
              have HRBb := hide (HRB.out.ext HEb.out)
              have ra := HRBb.out.row (p := a) (by omega)
              have rb' := HRBb.out.row (p := b) (by omega)
              rw [hsa] at ra
              rw [hsc] at rb'
              have yz := lt_of_heap HRBb.out
              have ha5 : (a : Int) < 5 := by omega
              have hb5 : (b : Int) < 5 := by omega
              go_upto_region 23 with fail
              refine wp_region_ext (by kernel_rfl) (by kernel_rfl) ?_
              repeat (go_big_quiet_step (fail))
              refine wpQuiet_nil ?_
              rintro V2 ⟨⟨_, E2⟩, rfl⟩
              have HE2 := hide (HEb.out.trans E2)
              have HRB2 := hide (HRBb.out.ext E2)
              clear E2 ra rb' yz HRBb HEb
              have HR2 := HRB2
              have k1 := andNot_run hsa32 hsc32
              have k2 := andNot_run hsc32 hsa32
              have t1 : (((andNot sa sc : Nat) : Int) == 0) = insd sa sc := andz_insd hsa32 hsc32
              have t2 : (((andNot sc sa : Nat) : Int) == 0) = insd sc sa := andz_insd hsc32 hsa32
              have HM := hide (fun W => HPM.out a b (by omega) (by omega) W)
              have HGF : Hid ((g2 && (((!hb r.g a b) == ((sa : Int) != (sc : Int))) && r.f == 0)) = (G0 && befP N (grpB r) a (b + 1))) := by
                show _ = _
                rw [befP_succ]
                conv => rhs; rw [← Bool.and_assoc, ← hg2.out]
                unfold grpB
                rw [hsa, hsc]
              have HCF : Hid ((c2' && ((insd sa sc || insd sc sa) && ((!hb r.g a b || insd sc sa) && r.f == 0))) = (C0 && befP N (chnB r) a (b + 1))) := by
                show _ = _
                rw [befP_succ]
                conv => rhs; rw [← Bool.and_assoc, ← hc2.out]
                unfold chnB
                rw [hsa, hsc]; rfl
              have HSF : Hid ((s2 || !hb r.g a b) = befA N (fun a b => !hb r.g a b) a (b + 1)) := by
                show _ = _
                rw [befA_succ, ← hs2.out]
              generalize hb r.g a b = m at HM HGF HCF HSF
              generalize insd sa sc = i1 at t1 HCF
              generalize insd sc sa = i2 at t2 HCF
              generalize andNot sa sc = m1 at k1 t1
              generalize andNot sc sa = m2 at k2 t2
              generalize hx1 : ((sa : Int) != (sc : Int)) = x1 at HGF
              generalize hf0 : (r.f == 0) = f0 at HGF HCF
              clear hg2 hc2 hs2
              have y0 : V2.cell? ⟨br, 0, none⟩ = some (.int .i64 r.g.n) := cells_at HR2.out 0
              have y1 : V2.cell? ⟨br, 1, none⟩ = some (.int .i64 r.g.h0) := cells_at HR2.out 1
              have y2 : V2.cell? ⟨br, 2, none⟩ = some (.int .i64 r.g.h1) := cells_at HR2.out 2
              have y3 : V2.cell? ⟨br, 3, none⟩ = some (.int .i64 r.g.h2) := cells_at HR2.out 3
              have y4 : V2.cell? ⟨br, 4, none⟩ = some (.int .i64 r.g.h3) := cells_at HR2.out 4
              have y5 : V2.cell? ⟨br, 5, none⟩ = some (.int .i64 r.g.h4) := cells_at HR2.out 5
              have y6 : V2.cell? ⟨br, 6, none⟩ = some (.int .i64 r.f) := cells_at HR2.out 6
              have yz := lt_of_heap HR2.out
              go_wp2_with fail
              refine (HM.out _).mono ?_
              rintro e V3 ⟨rfl, E3⟩
              have HE3 := hide (HE2.out.trans E3)
              have HR3 := hide (HR2.out.ext E3)
              clear E3 y0 y1 y2 y3 y4 y5 y6 yz
              have y0 : V3.cell? ⟨br, 0, none⟩ = some (.int .i64 r.g.n) := cells_at HR3.out 0
              have y1 : V3.cell? ⟨br, 1, none⟩ = some (.int .i64 r.g.h0) := cells_at HR3.out 1
              have y2 : V3.cell? ⟨br, 2, none⟩ = some (.int .i64 r.g.h1) := cells_at HR3.out 2
              have y3 : V3.cell? ⟨br, 3, none⟩ = some (.int .i64 r.g.h2) := cells_at HR3.out 3
              have y4 : V3.cell? ⟨br, 4, none⟩ = some (.int .i64 r.g.h3) := cells_at HR3.out 4
              have y5 : V3.cell? ⟨br, 5, none⟩ = some (.int .i64 r.g.h4) := cells_at HR3.out 5
              have y6 : V3.cell? ⟨br, 6, none⟩ = some (.int .i64 r.f) := cells_at HR3.out 6
              have yz := lt_of_heap HR3.out
              cases m
              all_goals
                cases g2
                case false =>
                  cases c2'
                  case false =>
                    go_wp2_with fail
                    go_roundw
                    case rel =>
                      first
                        | (refine ⟨b + 1, _, _, _, by omega, by go_num, rfl, rfl, ?_, HGF.out, HCF.out, HSF.out, HE3⟩; cases s2 <;> rfl)
                        | ((repeat apply Exists.intro); refine ⟨⟨b + 1, _, _, _, by omega, by go_num, rfl, rfl, ?_, HGF.out, HCF.out, HSF.out, HE3⟩, rfl⟩; cases s2 <;> rfl)
                    case measure => simp [intOf]; omega
                  case true =>
                    cases i1
                    case false =>
                      cases i2
                      case false =>
                        go_wp2_with fail
                        go_roundw
                        case rel =>
                          first
                            | (refine ⟨b + 1, _, _, _, by omega, by go_num, rfl, rfl, ?_, HGF.out, HCF.out, HSF.out, HE3⟩; cases s2 <;> rfl)
                            | ((repeat apply Exists.intro); refine ⟨⟨b + 1, _, _, _, by omega, by go_num, rfl, rfl, ?_, HGF.out, HCF.out, HSF.out, HE3⟩, rfl⟩; cases s2 <;> rfl)
                        case measure => simp [intOf]; omega
                      case true =>
                        go_wp2_with fail
                        refine (HM.out _).mono ?_
                        rintro e V4 ⟨rfl, E4⟩
                        have HE4 := hide (HE3.out.trans E4)
                        have HR4 := hide (HR3.out.ext E4)
                        clear E4 y0 y1 y2 y3 y4 y5 y6 yz
                        have y0 : V4.cell? ⟨br, 0, none⟩ = some (.int .i64 r.g.n) := cells_at HR4.out 0
                        have y1 : V4.cell? ⟨br, 1, none⟩ = some (.int .i64 r.g.h0) := cells_at HR4.out 1
                        have y2 : V4.cell? ⟨br, 2, none⟩ = some (.int .i64 r.g.h1) := cells_at HR4.out 2
                        have y3 : V4.cell? ⟨br, 3, none⟩ = some (.int .i64 r.g.h2) := cells_at HR4.out 3
                        have y4 : V4.cell? ⟨br, 4, none⟩ = some (.int .i64 r.g.h3) := cells_at HR4.out 4
                        have y5 : V4.cell? ⟨br, 5, none⟩ = some (.int .i64 r.g.h4) := cells_at HR4.out 5
                        have y6 : V4.cell? ⟨br, 6, none⟩ = some (.int .i64 r.f) := cells_at HR4.out 6
                        have yz := lt_of_heap HR4.out
                        go_wp2_with fail
                        go_roundw
                        case rel =>
                          first
                            | (refine ⟨b + 1, _, _, _, by omega, by go_num, rfl, rfl, ?_, HGF.out, HCF.out, HSF.out, HE4⟩; cases s2 <;> rfl)
                            | ((repeat apply Exists.intro); refine ⟨⟨b + 1, _, _, _, by omega, by go_num, rfl, rfl, ?_, HGF.out, HCF.out, HSF.out, HE4⟩, rfl⟩; cases s2 <;> rfl)
                        case measure => simp [intOf]; omega
                    case true =>
                      cases i2
                      all_goals
                        go_wp2_with fail
                        refine (HM.out _).mono ?_
                        rintro e V4 ⟨rfl, E4⟩
                        have HE4 := hide (HE3.out.trans E4)
                        have HR4 := hide (HR3.out.ext E4)
                        clear E4 y0 y1 y2 y3 y4 y5 y6 yz
                        have y0 : V4.cell? ⟨br, 0, none⟩ = some (.int .i64 r.g.n) := cells_at HR4.out 0
                        have y1 : V4.cell? ⟨br, 1, none⟩ = some (.int .i64 r.g.h0) := cells_at HR4.out 1
                        have y2 : V4.cell? ⟨br, 2, none⟩ = some (.int .i64 r.g.h1) := cells_at HR4.out 2
                        have y3 : V4.cell? ⟨br, 3, none⟩ = some (.int .i64 r.g.h2) := cells_at HR4.out 3
                        have y4 : V4.cell? ⟨br, 4, none⟩ = some (.int .i64 r.g.h3) := cells_at HR4.out 4
                        have y5 : V4.cell? ⟨br, 5, none⟩ = some (.int .i64 r.g.h4) := cells_at HR4.out 5
                        have y6 : V4.cell? ⟨br, 6, none⟩ = some (.int .i64 r.f) := cells_at HR4.out 6
                        have yz := lt_of_heap HR4.out
                        go_wp2_with fail
                        go_roundw
                        case rel =>
                          first
                            | (refine ⟨b + 1, _, _, _, by omega, by go_num, rfl, rfl, ?_, HGF.out, HCF.out, HSF.out, HE4⟩; cases s2 <;> rfl)
                            | ((repeat apply Exists.intro); refine ⟨⟨b + 1, _, _, _, by omega, by go_num, rfl, rfl, ?_, HGF.out, HCF.out, HSF.out, HE4⟩, rfl⟩; cases s2 <;> rfl)
                        case measure => simp [intOf]; omega
                case true =>
                  cases x1
                  all_goals
                    go_wp2_with fail
                    refine (HM.out _).mono ?_
                    rintro e V4 ⟨rfl, E4⟩
                    have HE4 := hide (HE3.out.trans E4)
                    have HR4 := hide (HR3.out.ext E4)
                    clear E4 y0 y1 y2 y3 y4 y5 y6 yz
                    have y0 : V4.cell? ⟨br, 0, none⟩ = some (.int .i64 r.g.n) := cells_at HR4.out 0
                    have y1 : V4.cell? ⟨br, 1, none⟩ = some (.int .i64 r.g.h0) := cells_at HR4.out 1
                    have y2 : V4.cell? ⟨br, 2, none⟩ = some (.int .i64 r.g.h1) := cells_at HR4.out 2
                    have y3 : V4.cell? ⟨br, 3, none⟩ = some (.int .i64 r.g.h2) := cells_at HR4.out 3
                    have y4 : V4.cell? ⟨br, 4, none⟩ = some (.int .i64 r.g.h3) := cells_at HR4.out 4
                    have y5 : V4.cell? ⟨br, 5, none⟩ = some (.int .i64 r.g.h4) := cells_at HR4.out 5
                    have y6 : V4.cell? ⟨br, 6, none⟩ = some (.int .i64 r.f) := cells_at HR4.out 6
                    have yz := lt_of_heap HR4.out
                    cases c2'
                    case false =>
                      go_wp2_with fail
                      go_roundw
                      case rel =>
                        first
                          | (refine ⟨b + 1, _, _, _, by omega, by go_num, rfl, rfl, ?_, HGF.out, HCF.out, HSF.out, HE4⟩; cases s2 <;> rfl)
                          | ((repeat apply Exists.intro); refine ⟨⟨b + 1, _, _, _, by omega, by go_num, rfl, rfl, ?_, HGF.out, HCF.out, HSF.out, HE4⟩, rfl⟩; cases s2 <;> rfl)
                      case measure => simp [intOf]; omega
                    case true =>
                      cases i1
                      case false =>
                        cases i2
                        case false =>
                          go_wp2_with fail
                          go_roundw
                          case rel =>
                            first
                              | (refine ⟨b + 1, _, _, _, by omega, by go_num, rfl, rfl, ?_, HGF.out, HCF.out, HSF.out, HE4⟩; cases s2 <;> rfl)
                              | ((repeat apply Exists.intro); refine ⟨⟨b + 1, _, _, _, by omega, by go_num, rfl, rfl, ?_, HGF.out, HCF.out, HSF.out, HE4⟩, rfl⟩; cases s2 <;> rfl)
                          case measure => simp [intOf]; omega
                        case true =>
                          go_wp2_with fail
                          refine (HM.out _).mono ?_
                          rintro e V5 ⟨rfl, E5⟩
                          have HE5 := hide (HE4.out.trans E5)
                          have HR5 := hide (HR4.out.ext E5)
                          clear E5 y0 y1 y2 y3 y4 y5 y6 yz
                          have y0 : V5.cell? ⟨br, 0, none⟩ = some (.int .i64 r.g.n) := cells_at HR5.out 0
                          have y1 : V5.cell? ⟨br, 1, none⟩ = some (.int .i64 r.g.h0) := cells_at HR5.out 1
                          have y2 : V5.cell? ⟨br, 2, none⟩ = some (.int .i64 r.g.h1) := cells_at HR5.out 2
                          have y3 : V5.cell? ⟨br, 3, none⟩ = some (.int .i64 r.g.h2) := cells_at HR5.out 3
                          have y4 : V5.cell? ⟨br, 4, none⟩ = some (.int .i64 r.g.h3) := cells_at HR5.out 4
                          have y5 : V5.cell? ⟨br, 5, none⟩ = some (.int .i64 r.g.h4) := cells_at HR5.out 5
                          have y6 : V5.cell? ⟨br, 6, none⟩ = some (.int .i64 r.f) := cells_at HR5.out 6
                          have yz := lt_of_heap HR5.out
                          go_wp2_with fail
                          go_roundw
                          case rel =>
                            first
                              | (refine ⟨b + 1, _, _, _, by omega, by go_num, rfl, rfl, ?_, HGF.out, HCF.out, HSF.out, HE5⟩; cases s2 <;> rfl)
                              | ((repeat apply Exists.intro); refine ⟨⟨b + 1, _, _, _, by omega, by go_num, rfl, rfl, ?_, HGF.out, HCF.out, HSF.out, HE5⟩, rfl⟩; cases s2 <;> rfl)
                          case measure => simp [intOf]; omega
                      case true =>
                        cases i2
                        all_goals
                          go_wp2_with fail
                          refine (HM.out _).mono ?_
                          rintro e V5 ⟨rfl, E5⟩
                          have HE5 := hide (HE4.out.trans E5)
                          have HR5 := hide (HR4.out.ext E5)
                          clear E5 y0 y1 y2 y3 y4 y5 y6 yz
                          have y0 : V5.cell? ⟨br, 0, none⟩ = some (.int .i64 r.g.n) := cells_at HR5.out 0
                          have y1 : V5.cell? ⟨br, 1, none⟩ = some (.int .i64 r.g.h0) := cells_at HR5.out 1
                          have y2 : V5.cell? ⟨br, 2, none⟩ = some (.int .i64 r.g.h1) := cells_at HR5.out 2
                          have y3 : V5.cell? ⟨br, 3, none⟩ = some (.int .i64 r.g.h2) := cells_at HR5.out 3
                          have y4 : V5.cell? ⟨br, 4, none⟩ = some (.int .i64 r.g.h3) := cells_at HR5.out 4
                          have y5 : V5.cell? ⟨br, 5, none⟩ = some (.int .i64 r.g.h4) := cells_at HR5.out 5
                          have y6 : V5.cell? ⟨br, 6, none⟩ = some (.int .i64 r.f) := cells_at HR5.out 6
                          have yz := lt_of_heap HR5.out
                          go_wp2_with fail
                          go_roundw
                          case rel =>
                            first
                              | (refine ⟨b + 1, _, _, _, by omega, by go_num, rfl, rfl, ?_, HGF.out, HCF.out, HSF.out, HE5⟩; cases s2 <;> rfl)
                              | ((repeat apply Exists.intro); refine ⟨⟨b + 1, _, _, _, by omega, by go_num, rfl, rfl, ?_, HGF.out, HCF.out, HSF.out, HE5⟩, rfl⟩; cases s2 <;> rfl)
                          case measure => simp [intOf]; omega
            · obtain rfl : b = N := by omega
              have h1 : Hid (g2 = (G0 && befP b (grpB r) (a + 1) 0)) := by show _ = _; rw [befP_next]; exact hg2
              have h2 : Hid (c2' = (C0 && befP b (chnB r) (a + 1) 0)) := by show _ = _; rw [befP_next]; exact hc2
              have h3 : Hid (s2 = befA b (fun a b => !hb r.g a b) (a + 1) 0) := by show _ = _; rw [befA_next]; exact hs2
              go_wp2_with fail
              go_roundw
              case rel => first
                | exact ⟨a + 1, g2, c2', s2, by omega, by go_num, rfl, rfl, rfl, h1, h2, h3, HEb⟩
                | ((repeat apply Exists.intro); exact ⟨⟨a + 1, g2, c2', s2, by omega, by go_num, rfl, rfl, rfl, h1, h2, h3, HEb⟩, rfl⟩)
              case measure => simp [intOf]; omega
        · obtain rfl : a = N := by omega
          have h1 : Hid (gn = g1) := by show _ = _; rw [hg.out, hg1.out, befP_end]
          have h2 : Hid (cn = c1') := by show _ = _; rw [hc.out, hc1.out, befP_end]
          have h3 : Hid (((sn : Nat) : Int) = (S0 : Int) + bI s1) := by
            show _ = _
            rw [hs.out, hs1.out]
            have : befA a (fun a b => !hb r.g a b) a 0 = splB a r := by unfold befA splB; simp
            rw [this]
            cases splB a r <;> simp [bI]
          have hE := hide (HE7.out.trans HEa.out)
          have hS1 : (S0 : Int) + bI s1 ≤ 4 := by cases s1 <;> simp [bI] <;> omega
          have hS2 : 0 ≤ (S0 : Int) + bI s1 := by cases s1 <;> simp [bI] <;> omega
          go_wp2_with fail
          go_roundw
          case rel => first
            | exact ⟨j + 1, by omega, by go_num, by rw [hgn.out, h1.out], by rw [hcn.out, h2.out], by rw [hsn.out, h3.out], hE⟩
            | ((repeat apply Exists.intro); exact ⟨⟨j + 1, by omega, by go_num, by rw [hgn.out, h1.out], by rw [hcn.out, h2.out], by rw [hsn.out, h3.out], hE⟩, rfl⟩)
          case measure => simp [intOf]; omega
    · obtain rfl : j = l.length := by omega
      have hF : decide ((Sf l.length : Int) ≤ (F : Int)) = decide (Sf l.length ≤ F) := decide_eq_decide.2 (by omega)
      have HD := hide (HDV.out)
      have HSVV := hide (HSV.out)
      generalize Gf l.length = ge at HD ⊢
      generalize Cf l.length = ce at HSVV ⊢
      generalize Sf l.length = se at hF HD ⊢
      generalize hF3 : decide (se ≤ F) = de at hF HD
      have hd2 : dv = (ge && de) := HD.out
      have hs2 : sv = ce := HSVV.out
      clear HD HSVV HDV HSV
      subst hd2 hs2
      cases ge <;> cases de <;> cases sv
      all_goals
        go_wp2_with fail
        go_ret
        exact ⟨rfl, X6.out.trans HE.out⟩
end Go.Proofs.Ytnhgdjiljjpgmaa
