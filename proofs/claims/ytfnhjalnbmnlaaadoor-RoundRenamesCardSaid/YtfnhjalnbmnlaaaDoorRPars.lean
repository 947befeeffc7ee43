/-
  The reference's Parse of a graph.
  Conditions: as the theorem states.
-/
import Derived.Test.YtfnhjalnbmnlaaaDoorRTxt
import Derived.Test.YtfnhjalnbmnlaaaDoorSplP
namespace Go.Proofs.YtfnhjalnbmnlaaaDoor
open Go.RowKit
attribute [local go_sem] Oper.semAt_some

theorem GrBox.setN {W : World} {b : Nat} {g : Gr} (h : GrBox W b g) (x : Int) : GrBox (W.setCell ⟨b, 0, none⟩ (.int .i64 x)) b (g.setN x) := heap_set (j := 0) h (.int .i64 x)
theorem okS_cases {c : UInt8} : okS c = true → c ≠ 32 → 48 ≤ c.toNat ∧ c.toNat < 53 := by
  intro h hc
  unfold okS okC at h
  simp only [Bool.or_eq_true, beq_iff_eq, Bool.and_eq_true, decide_eq_true_eq] at h
  exact h.resolve_left hc
theorem okS_lo {c : UInt8} (h : c.toNat < 48) (hc : c ≠ 32) : okS c = false := by
  unfold okS okC
  simp [hc]; omega
theorem okS_hi {c : UInt8} (h : 53 ≤ c.toNat) (hc : c ≠ 32) : okS c = false := by
  unfold okS okC
  simp [hc]; omega
theorem cand_row_lt {P : List (List UInt8)} (h : ∀ x ∈ P, ∀ c ∈ x, okC c = true) (p : Nat) : rowB (P.getD p []) < 2 ^ 5 := by
  rcases Nat.lt_or_ge p P.length with h1 | h1
  · rw [List.getD_eq_getElem?_getD, List.getElem?_eq_getElem h1]
    exact rowB_lt _ (h _ (List.getElem_mem h1))
  · rw [List.getD_eq_getElem?_getD, List.getElem?_eq_none h1]; decide
set_option maxRecDepth 16000 in
set_option maxHeartbeats 4000000 in
theorem rparse_any (s : ByteArray) (hs : s.size ≤ 1000000) (w : World) : Calls Tryd.prog 95 #[.string s] w (RetG (parseS s.data.toList) w) := by
  have HBAD := hide (fun c hc h => parse_bad (l := s.data.toList) (c := c) hc h)
  have HLNG := hide (fun i h => parse_long (l := s.data.toList) (i := i) h)
  have HEND : Hid ((spl s.data.toList).length ≤ 5 → (∀ c ∈ s.data.toList, okS c = true) → (gchk (candG (spl s.data.toList)) ≠ 0 → parseS s.data.toList = (gz0, 4)) ∧
      (gchk (candG (spl s.data.toList)) = 0 → wrt (candG (spl s.data.toList)) ≠ s.data.toList → parseS s.data.toList = (gz0, 4)) ∧ (gchk (candG (spl s.data.toList)) = 0 → wrt (candG (spl s.data.toList)) = s.data.toList → parseS s.data.toList = (candG (spl s.data.toList), 0))) := fun h5 hall => by
    have ha := all_ok hall
    rw [← split_eq] at h5 ⊢
    exact ⟨fun h => parseS_chk (by omega) ha h, fun h h2 => parseS_txt (by omega) ha h h2, fun h h2 => parseS_ok (by omega) ha h h2⟩
  have HC := hide (fun g W => rgcheck_any g W)
  have HTX := hide (fun (g : Gr) n (hg : Wf g n) W => rtext_any g hg W)
  have HSZ : Hid (s.data.toList.length = s.size) := Array.length_toList
  have HGET := hide (fun i (h : i < s.size) => show s.data.toList[i]'(by rw [HSZ.out]; exact h) = s[i] from rfl)
  have HTK := hide (fun i (h : i < s.size) => show s.data.toList.take (i + 1) = s.data.toList.take i ++ [s[i]] from List.take_succ_eq_append_getElem (by rw [HSZ.out]; exact h))
  have HMEM := hide (fun i (h : i < s.size) => show s[i] ∈ s.data.toList from by rw [← HGET.out i h]; exact List.getElem_mem _)
  have HALL : Hid (s.data.toList.take s.size = s.data.toList) := List.take_of_length_le (by rw [HSZ.out]; exact Nat.le_refl _)
  generalize hres : parseS s.data.toList = res at HBAD HLNG HEND ⊢
  clear hres HGET
  go_enter Tryd.func95, Tryd.ntmps95
  go_upto_region 2 with fail
  have HB2 : Hid (GrBox ((w.alloc gobj0).alloc (gobj ⟨1, 0, 0, 0, 0, 0⟩)) w.heap.size gz0) := (gr_new w gz0).alloc _
  have HB4 : Hid (GrBox ((w.alloc gobj0).alloc (gobj ⟨1, 0, 0, 0, 0, 0⟩)) (w.heap.size + 1) ⟨1, 0, 0, 0, 0, 0⟩) := by
    have := gr_new (w.alloc gobj0) ⟨1, 0, 0, 0, 0, 0⟩
    rw [World.size_alloc] at this
    exact this
  have HE : Hid (Ext w ((w.alloc gobj0).alloc (gobj ⟨1, 0, 0, 0, 0, 0⟩))) := ((Ext.refl w).alloc _).alloc _
  have HZ : Hid (w.heap.size ≤ w.heap.size ∧ w.heap.size < w.heap.size + 1) := ⟨Nat.le_refl _, Nat.lt_succ_self _⟩
  change Code.wp _ _ _ _ ((w.alloc gobj0).alloc (gobj ⟨1, 0, 0, 0, 0, 0⟩))
  generalize (w.alloc gobj0).alloc (gobj ⟨1, 0, 0, 0, 0, 0⟩) = W at HB2 HB4 HE ⊢
  generalize hb4 : w.heap.size + 1 = b4 at HB4 HZ ⊢
  generalize hb2 : w.heap.size = b2 at HB2 HZ hb4 ⊢
  have hw2 : w.heap.size ≤ b2 := by omega
  have h24 : b2 < b4 := by omega
  clear hb4 hb2 HZ
  have HCN := hide (fun i => cand_n (spl (s.data.toList.take i)))
  have HSP := hide (fun i (h : i < s.size) (hc : s[i] = 32) => show (spl (s.data.toList.take (i + 1))).length = (spl (s.data.toList.take i)).length + 1 ∧ ((spl (s.data.toList.take i)).length < 5 → candG (spl (s.data.toList.take (i + 1))) = (candG (spl (s.data.toList.take i))).setN ((spl (s.data.toList.take i)).length + 1)) from by
    rw [HTK.out i h, hc]
    exact ⟨by rw [spl_snoc_sp, List.length_append]; rfl, fun h5 => cand_sp h5⟩)
  have HCH := hide (fun i (h : i < s.size) (hc : s[i] ≠ 32) (h5 : (spl (s.data.toList.take i)).length ≤ 5) => show (spl (s.data.toList.take (i + 1))).length = (spl (s.data.toList.take i)).length ∧ ∃ r : Nat, (∀ p, ((∀ c ∈ s.data.toList.take i, okS c = true) → p = r → r < 32)) ∧ (candG (spl (s.data.toList.take i))).h ((spl (s.data.toList.take i)).length - 1) = (r : Int) ∧
      candG (spl (s.data.toList.take (i + 1))) = (candG (spl (s.data.toList.take i))).set ((spl (s.data.toList.take i)).length - 1) ((r ||| 2 ^ (s[i].toNat - 48) : Nat) : Int) from by
    rw [HTK.out i h]
    obtain ⟨h1, h2, h3⟩ := cand_ch (l := s.data.toList.take i) hc h5
    refine ⟨h2, _, fun p hall hp => ?_, h3, h1⟩
    exact cand_row_lt (fun x hx c hcx => by
      obtain ⟨k1, k2⟩ := spl_in hx hcx
      have := hall c k1
      unfold okS at this
      rw [Bool.or_eq_true, beq_iff_eq] at this
      exact this.resolve_left k2) _)
  have HK1 := hide (fun i => show 1 ≤ (spl (s.data.toList.take i)).length from by rw [spl_len]; omega)
  have HALN := hide (fun i (h : i < s.size) (hok : okS s[i] = true) (hj : ∀ c ∈ s.data.toList.take i, okS c = true) => show ∀ c ∈ s.data.toList.take (i + 1), okS c = true from by
    rw [HTK.out i h]
    intro c hc
    rcases List.mem_append.1 hc with h1 | h1
    · exact hj c h1
    · rw [List.mem_singleton.1 h1]; exact hok)
  have HB4 : Hid (GrBox W b4 (candG (spl (s.data.toList.take 0)))) := by rw [List.take_zero, cand_nil]; exact HB4
  have HK0 : Hid ((spl (s.data.toList.take 0)).length ≤ 5) := by show _ ≤ _; rw [List.take_zero]; decide
  have HFIN : Hid ((spl (s.data.toList.take s.size)).length ≤ 5 → (∀ c ∈ s.data.toList.take s.size, okS c = true) → (gchk (candG (spl (s.data.toList.take s.size))) ≠ 0 → res = (gz0, 4)) ∧
      (gchk (candG (spl (s.data.toList.take s.size))) = 0 → wrt (candG (spl (s.data.toList.take s.size))) ≠ s.data.toList → res = (gz0, 4)) ∧ (gchk (candG (spl (s.data.toList.take s.size))) = 0 → wrt (candG (spl (s.data.toList.take s.size))) = s.data.toList → res = (candG (spl (s.data.toList.take s.size)), 0))) := by
    rw [HALL.out]; exact HEND.out
  clear HEND HALL HTK HSZ
  obtain ⟨cg, hcg⟩ : ∃ cg : Nat → Gr, cg = fun i => candG (spl (s.data.toList.take i)) := ⟨_, rfl⟩
  obtain ⟨K, hK⟩ : ∃ K : Nat → Nat, K = fun i => (spl (s.data.toList.take i)).length := ⟨_, rfl⟩
  replace HCN : Hid (∀ i, (cg i).n = (K i : Int)) := by rw [hcg, hK]; exact HCN
  replace HSP : Hid (∀ i (h : i < s.size), s[i] = 32 → K (i + 1) = K i + 1 ∧ (K i < 5 → cg (i + 1) = (cg i).setN ((K i : Int) + 1))) := by rw [hcg, hK]; exact HSP
  replace HCH : Hid (∀ i (h : i < s.size), s[i] ≠ 32 → K i ≤ 5 → K (i + 1) = K i ∧ ∃ r : Nat, (∀ p, ((∀ c ∈ s.data.toList.take i, okS c = true) → p = r → r < 32)) ∧ (cg i).h (K i - 1) = (r : Int) ∧ cg (i + 1) = (cg i).set (K i - 1) ((r ||| 2 ^ (s[i].toNat - 48) : Nat) : Int)) := by rw [hcg, hK]; exact HCH
  replace HK1 : Hid (∀ i, 1 ≤ K i) := by rw [hK]; exact HK1
  replace HK0 : Hid (K 0 ≤ 5) := by rw [hK]; exact HK0
  replace HB4 : Hid (GrBox W b4 (cg 0)) := by rw [hcg]; exact HB4
  replace HLNG : Hid (∀ i, 5 < K i → res = (gz0, 4)) := by rw [hK]; exact HLNG
  replace HFIN : Hid (K s.size ≤ 5 → (∀ c ∈ s.data.toList.take s.size, okS c = true) → (gchk (cg s.size) ≠ 0 → res = (gz0, 4)) ∧ (gchk (cg s.size) = 0 → wrt (cg s.size) ≠ s.data.toList → res = (gz0, 4)) ∧ (gchk (cg s.size) = 0 → wrt (cg s.size) = s.data.toList → res = (cg s.size, 0))) := by rw [hcg, hK]; exact HFIN
  clear hcg hK
  go_wp2_with fail
  go_loopw [5, 6] (fun x _ V => ∃ i : Nat, i ≤ s.size ∧ x = .int .i64 i ∧ Hid (K i ≤ 5) ∧ Hid (∀ c ∈ s.data.toList.take i, okS c = true) ∧ Hid (Ext w V) ∧ Hid (GrBox V b2 gz0) ∧ Hid (GrBox V b4 (cg i))) (fun x _ _ => s.size - (intOf x).toNat)
  case atStart => exact ⟨0, by omega, rfl, HK0, fun c hc => by simp at hc, HE, HB2, HB4⟩
  case round =>
    clear HE HB2 HB4 HK0
    obtain ⟨i, hi, rfl, HKI, HJ, HE, HB2, HB4⟩ := hrel
    by_cases hlt : i < s.size
    · have HS1 := hide (HSP.out i hlt)
      have HC1 := hide (fun h => HCH.out i hlt h HKI.out)
      have HA1 := hide (fun h => HALN.out i hlt h HJ.out)
      have HM1 := hide (HMEM.out i hlt)
      go_upto_region 6 with fail
      generalize s[i] = c at HS1 HC1 HA1 HM1 ⊢
      have hn := HCN.out i
      obtain ⟨d0, -, -, -, -, -, dz⟩ := HB4.out.cells
      obtain ⟨f0, -, -, -, -, -⟩ := HB4.out.frozen
      rw [hn] at d0
      clear hn
      have hk1 := HK1.out i
      have hk5 := HKI.out
      obtain ⟨e0, e1, e2, e3, e4, e5, ez⟩ := HB2.out.cells
      obtain ⟨g0, g1, g2, g3, g4, g5⟩ := HB2.out.frozen
      by_cases hc : c = 32
      · obtain ⟨hs1, hs2⟩ := HS1.out hc
        have HOK : Hid (okS c = true) := by show _ = _; rw [hc]; decide
        have hcn : ((c.toNat : Int) == 32) = true := by rw [hc]; decide
        clear hc HC1
        generalize c.toNat = cn at hcn
        have hw1 : wrap64 ((K i : Int) + 1) = (K i : Int) + 1 := by unfold wrap64; omega
        go_upto_region 8 with fail
        clear hw1 d0 f0 dz e0 e1 e2 e3 e4 e5 ez g0 g1 g2 g3 g4 g5
        have HNEW := hide (HB4.out.setN ((K i : Int) + 1))
        have HE := hide (HE.out.setCell (p := ⟨b4, 0, none⟩) (by show w.heap.size ≤ b4; omega) (.int .i64 ((K i : Int) + 1)))
        have HB2 : Hid (GrBox (wr.setCell ⟨b4, 0, none⟩ (.int .i64 ((K i : Int) + 1))) b2 gz0) := (Below.heap_setCell _ _ _ _ (by show b2 ≠ b4; omega)).trans HB2.out
        generalize wr.setCell ⟨b4, 0, none⟩ (.int .i64 ((K i : Int) + 1)) = V at HNEW HE HB2 ⊢
        have d0 : V.cell? ⟨b4, 0, none⟩ = some (.int .i64 ((K i : Int) + 1)) := HNEW.out.cells.1
        have dz := lt_of_heap HNEW.out
        by_cases h5 : K i = 5
        · have HR := hide (HLNG.out (i + 1) (by omega))
          have hgt : (5 : Int) < (K i : Int) + 1 := by omega
          have HS := hide (And.intro hs1 hs2)
          obtain ⟨e0, e1, e2, e3, e4, e5, ez⟩ := HB2.out.cells
          obtain ⟨g0, g1, g2, g3, g4, g5⟩ := HB2.out.frozen
          have H5 := hide h5
          clear hs1 hs2 HS1 h5
          go_wp2_with fail
          exact bodyPost_ret (v := .tuple #[gz0.v, .int .i64 4]) (results_gr2 rfl _ rfl rfl (HB2.out.store gz0)) rfl ⟨by rw [HR.out], HE.out.gstore (by omega) gz0⟩
        · have hgt : ¬ (5 : Int) < (K i : Int) + 1 := by omega
          have HR := hide (hs2 (by omega))
          have HKN : Hid (K (i + 1) ≤ 5) := by show _ ≤ _; omega
          have HJN := hide (HA1.out HOK.out)
          have H5 := hide h5
          clear hs1 hs2 HS1 h5
          go_wp2_with fail
          go_roundw
          case rel => exact ⟨i + 1, by omega, by go_num, HKN, HJN, HE, HB2, by show GrBox _ _ _; rw [HR.out]; exact HNEW.out⟩
          case measure => simp [intOf]; omega
      · have hcn : ((c.toNat : Int) == 32) = false := by
          rw [beq_eq_false_iff_ne]
          intro h
          exact hc (UInt8.toNat_inj.1 (by show c.toNat = 32; omega))
        by_cases h1 : c.toNat < 48
        · have HR := hide (HBAD.out c HM1.out (okS_lo h1 hc))
          have h1b : (c.toNat : Int) < 48 := by omega
          have HC := hide hc
          clear hc h1 HS1 HC1 HA1
          generalize c.toNat = cn at hcn h1b
          go_wp2_with fail
          exact bodyPost_ret (v := .tuple #[gz0.v, .int .i64 4]) (results_gr2 rfl _ rfl rfl (HB2.out.store gz0)) rfl ⟨by rw [HR.out], HE.out.gstore (by omega) gz0⟩
        by_cases h2 : 53 ≤ c.toNat
        · have HR := hide (HBAD.out c HM1.out (okS_hi h2 hc))
          have h1b : (53 : Int) ≤ c.toNat := by omega
          have h1c : ¬ (c.toNat : Int) < 48 := by omega
          have HC := hide hc
          clear hc h1 h2 HS1 HC1 HA1
          generalize c.toNat = cn at hcn h1b h1c
          go_wp2_with fail
          exact bodyPost_ret (v := .tuple #[gz0.v, .int .i64 4]) (results_gr2 rfl _ rfl rfl (HB2.out.store gz0)) rfl ⟨by rw [HR.out], HE.out.gstore (by omega) gz0⟩
        obtain ⟨hk, r, hr, hrow, hset⟩ := HC1.out hc
        have HOK : Hid (okS c = true) := by
          show _ = _
          unfold okS okC
          simp; omega
        have hr32 := hr r HJ.out rfl
        have HSET := hide hset
        have HKE := hide hk
        obtain ⟨v, hv⟩ : ∃ v, c.toNat = 48 + v := ⟨c.toNat - 48, by omega⟩
        rw [hv, Nat.add_sub_cancel_left] at HSET
        rw [hv] at hcn h1 h2 ⊢
        have hv5 : v < 5 := by omega
        have HC := hide hc
        obtain ⟨k, hkk⟩ : ∃ k, K i = k + 1 := ⟨K i - 1, by omega⟩
        have HKK := hide hkk
        rw [hkk, Nat.add_sub_cancel] at hrow HSET
        rw [hkk] at d0 hk5
        clear hc hk hr hset hv HS1 HC1 hkk hk1
        obtain ⟨rg, fg⟩ := HB4.out.row (p := k) (by omega)
        rw [hrow] at rg
        have HNEW := hide (HB4.out.set (p := k) (by omega) ((r ||| 2 ^ v : Nat) : Int))
        rw [← HSET.out] at HNEW
        have HE2 := hide (HE.out.setCell (p := ⟨b4, 1 + k, none⟩) (by show w.heap.size ≤ b4; omega) (.int .i64 ((r ||| 2 ^ v : Nat) : Int)))
        have HB22 : Hid (GrBox (wr.setCell ⟨b4, 1 + k, none⟩ (.int .i64 ((r ||| 2 ^ v : Nat) : Int))) b2 gz0) := (Below.heap_setCell _ _ _ _ (by show b2 ≠ b4; omega)).trans HB2.out
        have hcn2 : ((48 + v : Nat) : Int) = 48 + (v : Int) := by omega
        rw [hcn2] at hcn ⊢
        have hlo : decide (48 + (v : Int) < 48) = false := by simp; omega
        have hhi : decide (53 ≤ 48 + (v : Int)) = false := by simp; omega
        have hsub : IntKind.u8.wrap (48 + (v : Int) - 48) = (v : Int) := by
          obtain rfl | rfl | rfl | rfl | rfl : v = 0 ∨ v = 1 ∨ v = 2 ∨ v = 3 ∨ v = 4 := by omega
          all_goals rfl
        have hsub2 := (u8_small v hv5).1
        have hv5I : (v : Int) < 5 := by omega
        have hsh := pow_shl v hv5
        have hor := i64_or_nat r (2 ^ v) (Nat.lt_of_lt_of_le hr32 (by decide)) (Nat.lt_of_le_of_lt (pow2_32 (show v ≤ 5 by omega)) (by decide))
        have hk0 : wrap64 (((k + 1 : Nat) : Int) - 1) = (k : Int) := by unfold wrap64; omega
        have hkI : (k : Int) < 5 := by omega
        have HVV := hide hv5
        clear h1 h2 hcn2 hrow hr32 e0 e1 e2 e3 e4 e5 ez g0 g1 g2 g3 g4 g5 hv5
        generalize 2 ^ v = y at hsh hor HNEW HE2 HB22 HSET
        generalize r ||| y = ry at hor HNEW HE2 HB22 HSET
        have HKN : Hid (K (i + 1) ≤ 5) := by show _ ≤ _; rw [HKE.out]; exact HKI.out
        have HJN := hide (HA1.out HOK.out)
        go_wp2_with fail
        go_roundw
        case rel => exact ⟨i + 1, by omega, by go_num, HKN, HJN, HE2, HB22, HNEW⟩
        case measure => simp [intOf]; omega
    · obtain rfl : i = s.size := by omega
      obtain ⟨F1, F2, F3⟩ := HFIN.out HKI.out HJ.out
      generalize cg s.size = cand at HB4 F1 F2 F3
      have HR1 := hide F1
      have HR2 := hide F2
      have HR3 := hide F3
      have HWF := hide (wf_of (g := cand))
      have HCC := hide (HC.out cand)
      have HTC := hide (HTX.out cand)
      clear F1 F2 F3 HC HTX HFIN HSP HCH HALN HLNG HBAD HMEM HK1 HCN HKI
      generalize gchk cand = e at HR1 HR2 HR3 HWF HCC
      obtain ⟨a0, a1, a2, a3, a4, a5, az⟩ := HB4.out.cells
      go_wp2_with fail
      refine (HCC.out _).mono ?_
      rintro x V ⟨rfl, hE⟩
      have HE := hide (HE.out.trans hE)
      have HB2 := hide (HB2.out.ext hE)
      have HB4 := hide (HB4.out.ext hE)
      clear hE a0 a1 a2 a3 a4 a5 az
      by_cases he : e = 0
      case neg =>
        have hd : (e != 0) = true := by simp [he]
        have HR := hide (HR1.out he)
        obtain ⟨e0, e1, e2, e3, e4, e5, ez⟩ := HB2.out.cells
        obtain ⟨g0, g1, g2, g3, g4, g5⟩ := HB2.out.frozen
        have H0 := hide he
        clear he
        go_wp2_with fail
        exact bodyPost_ret (v := .tuple #[gz0.v, .int .i64 4]) (results_gr2 rfl _ rfl rfl (HB2.out.store gz0)) rfl ⟨by rw [HR.out], HE.out.gstore (by omega) gz0⟩
      case pos =>
      subst he
      obtain ⟨n, hn⟩ := HWF.out (by trivial)
      have HT2 := hide (HTC.out n hn)
      have HS2 : Hid (wrt cand ≠ s.data.toList → res = (gz0, 4)) := fun h => HR2.out (by trivial) h
      have HS3 : Hid (wrt cand = s.data.toList → res = (cand, 0)) := fun h => HR3.out (by trivial) h
      clear hn HTC HWF HR1 HR2 HR3
      generalize wrt cand = wt at HT2 HS2 HS3
      obtain ⟨a0, a1, a2, a3, a4, a5, az⟩ := HB4.out.cells
      go_wp2_with fail
      refine (HT2.out _).mono ?_
      rintro x V2 ⟨rfl, hE⟩
      have HE := hide (HE.out.trans hE)
      have HB2 := hide (HB2.out.ext hE)
      have HB4 := hide (HB4.out.ext hE)
      clear hE a0 a1 a2 a3 a4 a5 az
      obtain ⟨e0, e1, e2, e3, e4, e5, ez⟩ := HB2.out.cells
      obtain ⟨g0, g1, g2, g3, g4, g5⟩ := HB2.out.frozen
      by_cases hw : wt = s.data.toList
      · have hbs : (⟨wt.toArray⟩ : ByteArray) = s := by rw [hw]
        have HR := hide (HS3.out hw)
        rw [hbs]
        obtain ⟨a0, a1, a2, a3, a4, a5, az⟩ := HB4.out.cells
        clear hw hbs
        go_wp2_with fail
        exact bodyPost_ret (v := .tuple #[cand.v, .int .i64 0]) (results_gr2 rfl _ rfl rfl (HB2.out.store cand)) rfl ⟨by rw [HR.out], HE.out.gstore (by omega) cand⟩
      · have hbs : (⟨wt.toArray⟩ : ByteArray) ≠ s := fun h => hw (by rw [← h])
        have HR := hide (HS2.out hw)
        generalize (⟨wt.toArray⟩ : ByteArray) = wb at hbs ⊢
        have hd : (wb.toList == s.toList) = false := beq_eq_false_iff_ne.2 (fun h => hbs (by
          rw [ByteArray.toList_eq, ByteArray.toList_eq] at h
          exact Go.WideShapes.bytes_inj h))
        clear hw hbs
        go_wp2_with fail
        exact bodyPost_ret (v := .tuple #[gz0.v, .int .i64 4]) (results_gr2 rfl _ rfl rfl (HB2.out.store gz0)) rfl ⟨by rw [HR.out], HE.out.gstore (by omega) gz0⟩
end Go.Proofs.YtfnhjalnbmnlaaaDoor
