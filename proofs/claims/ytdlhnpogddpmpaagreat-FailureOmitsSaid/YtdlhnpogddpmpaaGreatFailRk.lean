/-
  The reference's layer 17: edges of Partition; Partition.
  Conditions: at most five processes.
-/
import Derived.Test.YtdlhnpogddpmpaaGreatFailRG
import Derived.Test.YtdlhnpogddpmpaaGreatFailOA
namespace Go.Proofs.YtdlhnpogddpmpaaGreat
open Go.RowKit
attribute [local go_sem] Oper.semAt_some

theorem divs_len {n num key : Nat} (hn : n ≤ 5) : (divsB ⟨5, n, num⟩ key).length ≤ 1073741824 := by
  rw [divsB_eq]
  have h := divF_len n num key (everyB n 5) (everyB n 5).length
  rw [List.take_length] at h
  have := (everyB_ok hn 5).1
  omega
set_option maxRecDepth 16000 in
set_option maxHeartbeats 8000000 in
theorem redges5_any {n num key : Nat} (hn : n ≤ 5) (hb : key ≤ 1000) (hnum : num ≤ 1000) (w : World) :
    Calls Tryz.prog 93 #[.agg #[.int .i64 5, .int .i64 n, .int .i64 num], .int .i64 key] w fun e w' => ∃ v, e = .returned v ∧ Own stpC 8 w' w.heap.size 129 v (sortR (divsB ⟨5, n, num⟩ key)) ∧ Ext w w' := by
  have HC := hide (fun W => rdivisions_any (num := num) hn hnum hb W)
  have HLB0 : Hid ((divsB ⟨5, n, num⟩ key).length ≤ 1073741824) := divs_len hn
  generalize (divsB ⟨5, n, num⟩ key) = L at HC HLB0 ⊢
  generalize hln : L.length = ln at HLB0
  have HLN := hide hln
  have HLB := hide HLB0.out
  obtain ⟨SL, hSL⟩ : ∃ SL : Nat → List Stp17, SL = fun i => sortR (L.take i) := ⟨_, rfl⟩
  have HS0 : Hid (SL 0 = []) := by rw [hSL]; rfl
  have HSS : Hid (∀ i s, L[i]? = some s → SL (i + 1) = insR s (SL i)) := fun i s h => by rw [hSL]; exact sortR_take h
  have HSP : Hid (∀ i, (SL i).Pairwise Le17) := fun i => by rw [hSL]; exact sortR_pw _
  have HSL : Hid (∀ i, i ≤ ln → (SL i).length = i) := fun i hi => by rw [hSL]; show (sortR (L.take i)).length = i; rw [(sortR_perm _).length_eq, List.length_take, hln]; omega
  have HSA : Hid (SL ln = sortR L) := by rw [hSL]; show sortR (L.take ln) = _; rw [List.take_of_length_le (by omega)]
  clear hSL hln HLB0
  generalize sortR L = res at HSA ⊢
  go_enter Tryz.func93, Tryz.ntmps93
  go_wp2_with fail
  refine (HC.out _).mono ?_
  rintro e w2 ⟨v, rfl, hL, hE2⟩
  obtain ⟨lq, lc, rfl⟩ := hL.sl
  rw [HLN.out] at hL ⊢
  have HL := hide hL
  have HE2 := hide hE2
  have HSZW : Hid (w.heap.size ≤ w2.heap.size) := by have := hE2.size; show _ ≤ _; simp at this; omega
  clear hL hE2
  go_upto_region 7 with fail
  go_loopw [6, 7, 8, 9] (fun uo vi _ _ V => ∃ (i : Nat) (q : Option Addr) (c : Nat), i ≤ ln ∧ vi = .int .i64 i ∧ uo = .slice q i c ∧ Hid (Ext w2 V) ∧ Hid (Own stpC 8 V w2.heap.size 129 uo (SL i))) (fun _ vi _ _ _ => ln - (intOf vi).toNat)
  case atStart => exact ⟨0, none, 0, Nat.zero_le _, rfl, rfl, Ext.refl _, by rw [HS0.out]; exact Own.nil _ _ _ (fun _ => rfl)⟩
  case round =>
    obtain ⟨i, oq, oc, hi, rfl, rfl, HE, HO⟩ := hrel
    by_cases hlt : i < ln
    · obtain ⟨s, hs⟩ : ∃ s, L[i]? = some s := ⟨_, List.getElem?_eq_getElem (by rw [HLN.out]; exact hlt)⟩
      obtain ⟨gl, rfl, -, -⟩ := own_eaddr HL.out (i := i) (by rw [HLN.out]; exact hlt)
      have HS := hide hs
      have HSN : Hid (SL (i + 1) = insR s (SL i)) := HSS.out i s hs
      have HSLN : Hid ((SL i).length = i) := HSL.out i hi
      have HPW := hide (HSP.out i)
      have hli : (i : Int) < (ln : Int) := by omega
      have hlbi : ln ≤ 1073741824 := HLB.out
      have HROW := hide (HO.out.row (by rw [HSLN.out]; omega))
      clear hs
      go_upto_region 10 with fail
      obtain ⟨wq, hwq⟩ : ∃ wq, wq = wr := ⟨_, rfl⟩
      subst hwq
      go_loopw [8] (fun vk V => ∃ k : Nat, vk = .int .i64 k ∧ k ≤ i ∧ Hid (∀ j x, k ≤ j → (SL i)[j]? = some x → 0 < rcmp x.1 s.1) ∧ Hid (Ext wq V)) (fun vk _ => (intOf vk).toNat)
      case atStart => exact ⟨i, rfl, Nat.le_refl _, fun j x h1 h2 => (by rw [List.getElem?_eq_none (by rw [HSLN.out]; exact h1)] at h2; cases h2), Ext.refl _⟩
      case round =>
        obtain ⟨k, rfl, hk, HK, HEX⟩ := hrel
        rcases Nat.eq_zero_or_pos k with hk0 | hk0
        · have d2 : decide (0 < k) = false := decide_eq_false (by omega)
          have HK0 := hide hk0
          have hform : (oq = none ∧ oc = 0 ∧ SL i = []) ∨ ∃ b3, oq = some ⟨b3, 0, none⟩ ∧ i ≤ oc := by
            rcases HO.out.form with ⟨h1, h2⟩ | ⟨b3, c3, h1, _, _, h2, _⟩
            · injection h1 with e1 e2 e3
              exact .inl ⟨e1, e3, h2⟩
            · injection h1 with e1 e2 e3
              exact .inr ⟨b3, e1, by rw [HSLN.out] at h2; omega⟩
          rcases hform with ⟨rfl, rfl, hL0⟩ | ⟨b3, rfl, hco⟩
          · have HLN0 := hide hL0
            obtain rfl : i = 0 := by have := HSLN.out; rw [hL0] at this; simpa using this.symm
            subst hk0
            clear hL0
            go_upto_region 10 with fail
            refine wp_region_ext (by kernel_rfl) (by kernel_rfl) ?_
            repeat (go_big_quiet_step (fail))
            refine wpQuiet_nil ?_
            rintro w5 ⟨⟨_, hE5⟩, rfl⟩
            have HX5 := hide (HE.out.trans (HEX.out.trans hE5))
            have HR5 := hide (HROW.out.ext (HEX.out.trans hE5))
            clear d2 hE5 HO HROW
            have HINS : Hid (SL (0 + 1) = (SL 0).take 0 ++ [s] ++ (SL 0).drop 0) := by show _ = _; rw [HSN.out, HLN0.out]; rfl
            have HRT := hide (row_take17 HR5.out (k := 0) (by rw [HSLN.out]; omega))
            have HRD := hide (show Row stpC 8 w5 (.slice none 0 0) ((SL 0).drop 0) from HLN0.out ▸ Row.nil _ _ _)
            have HTL : Hid (((SL 0).take 0).length = 0) := by show _ = _; rw [List.length_take, HSLN.out]; omega
            have HDL : Hid (((SL 0).drop 0).length = 0 - 0) := by show _ = _; rw [List.length_drop, HSLN.out]
            have hbnd : ln ≤ 1073741824 := HLB.out
            go_upto_region 14 with (at_builtin; refine wpList_appendN rfl (.tmp 46) (.tmp 49) 125 rfl w5.heap.size 129 (stpV default) 8 64 Tryz.underlying125 edge_info17 rfl (by decide) _ ([] : List Stp17) _ ((SL 0).take 0) rfl (Own.nil w5 _ _ (fun _ => rfl)) rfl HRT.out stp_one17 (by rw [HTL.out]; simp only [List.length_nil]; omega) (by decide) (Nat.le_refl _) ?_; intro v6 w6 hown6 hg6)
            have HE6 := hide ((Ext.refl w5).grown hg6 (fun k hk => by cases hk))
            have hown6' : Own stpC 8 w6 w5.heap.size 129 v6 ((SL 0).take 0) := hown6
            obtain ⟨p6, c6, hv6⟩ := hown6'.sl
            subst hv6
            have HO6 := hide hown6'
            clear hown6 hg6 hown6'
            obtain ⟨k0, k1, k2, k3, k4, k5, k6, k7, kz⟩ := own_edge (HL.out.ext (HX5.out.trans HE6.out)) HS.out
            have hz6 : w5.heap.size ≤ w6.heap.size := HE6.out.size
            have HNW : Hid (∀ t u, (stpC s)[t]? = some u → (w6.alloc (.cells #[.int .i64 s.1.g.n, .int .i64 s.1.g.h0, .int .i64 s.1.g.h1, .int .i64 s.1.g.h2, .int .i64 s.1.g.h3, .int .i64 s.1.g.h4, .int .i64 s.1.f, .int .i64 (s.2 : Nat)] 129)).cell? ⟨w6.heap.size, t, none⟩ = some u) := edge_new w6 s
            go_upto_region 15 with (at_builtin; refine wpList_append1 rfl (.tmp 51) (.tmp 56) 125 rfl w5.heap.size 129 (stpV default) 8 64 Tryz.underlying125 edge_info17 rfl (by decide) _ ((SL 0).take 0) s w6.heap.size rfl (HO6.out.alloc _) rfl HNW.out (stp_one17 s) (by rw [HTL.out]; omega) (by decide) (by simp only [World.size_alloc]; omega) ?_; intro v7 w7 hown7 hg7 hf7; have HOW7 := hide hown7; have HGW7 := hide hg7; clear hown7 hg7 hf7 k0 k1 k2 k3 k4 k5 k6 k7 kz)
            have HE7 := hide ((HE6.out.alloc (.cells #[.int .i64 s.1.g.n, .int .i64 s.1.g.h0, .int .i64 s.1.g.h1, .int .i64 s.1.g.h2, .int .i64 s.1.g.h3, .int .i64 s.1.g.h4, .int .i64 s.1.f, .int .i64 (s.2 : Nat)] 129)).grown HGW7.out (fun k hk => HO6.out.block_ge k hk))
            obtain ⟨p7, c7, hv7⟩ := HOW7.out.sl
            have HO7 : Hid (Own stpC 8 w7 w5.heap.size 129 v7 ((SL 0).take 0 ++ [s])) := HOW7.out
            clear HOW7 HGW7 HNW
            subst hv7
            have hz7 : w5.heap.size ≤ w7.heap.size := HE7.out.size
            have HLN7 : Hid (((SL 0).take 0 ++ [s]).length = 0 + 1) := by show _ = _; rw [List.length_append, HTL.out]; rfl
            go_wp2_with (at_builtin; refine wpList_appendN rfl (.tmp 58) (.tmp 61) 125 rfl w5.heap.size 129 (stpV default) 8 64 Tryz.underlying125 edge_info17 rfl (by decide) _ _ _ ((SL 0).drop 0) rfl HO7.out rfl (HRD.out.ext HE7.out) stp_one17 (by rw [HLN7.out, HDL.out]; omega) (by decide) (by omega) ?_; intro v8 w8 hown8 hg8; have HOW8 := hide hown8; have HGW8 := hide hg8; clear hown8 hg8)
            have HE8 : Hid (Ext w5 w8) := HE7.out.grown HGW8.out (fun k hk => HO7.out.block_ge k hk)
            have hown8 : Own stpC 8 w8 w5.heap.size 129 v8 (SL (0 + 1)) := by rw [HINS.out]; exact HOW8.out
            obtain ⟨p8, c8, hv8⟩ := hown8.sl
            rw [HSL.out (0 + 1) (by omega)] at hv8
            have HOW9 := hide (hown8.mono HX5.out.size)
            have HE9 := hide (HX5.out.trans HE8.out)
            clear hown8 HOW8 HGW8
            subst hv8
            go_roundw
            case rel => first
              | exact ⟨0 + 1, p8, c8, by omega, by go_num, rfl, HE9, HOW9.out⟩
              | ((repeat apply Exists.intro); exact ⟨⟨0 + 1, p8, c8, by omega, by go_num, rfl, HE9, HOW9.out⟩, rfl⟩)
            case measure => simp [intOf]; omega
          · have hkc : k ≤ oc := by omega
            clear hk0 hco
            go_upto_region 10 with fail
            refine wp_region_ext (by kernel_rfl) (by kernel_rfl) ?_
            repeat (go_big_quiet_step (fail))
            refine wpQuiet_nil ?_
            rintro w5 ⟨⟨_, hE5⟩, rfl⟩
            have HX5 := hide (HE.out.trans (HEX.out.trans hE5))
            have HR5 := hide (HROW.out.ext (HEX.out.trans hE5))
            clear d2 hE5 HO HROW
            have HINS : Hid (SL (i + 1) = (SL i).take k ++ [s] ++ (SL i).drop k) := by show _ = _; rw [HSN.out]; exact insK s (SL i) k HPW.out (by rw [HSLN.out]; exact hk) HK.out fun y h0 _ => absurd h0 (by have := HK0.out; omega)
            have HRT := hide (row_take17 HR5.out (k := k) (by rw [HSLN.out]; omega))
            have HRD := hide (row_drop0 HR5.out (k := k) (by rw [HSLN.out]; omega))
            have HTL : Hid (((SL i).take k).length = k) := by show _ = _; rw [List.length_take, HSLN.out]; omega
            have HDL : Hid (((SL i).drop k).length = i - k) := by show _ = _; rw [List.length_drop, HSLN.out]
            have hbnd : ln ≤ 1073741824 := HLB.out
            go_upto_region 14 with (at_builtin; refine wpList_appendN rfl (.tmp 46) (.tmp 49) 125 rfl w5.heap.size 129 (stpV default) 8 64 Tryz.underlying125 edge_info17 rfl (by decide) _ ([] : List Stp17) _ ((SL i).take k) rfl (Own.nil w5 _ _ (fun _ => rfl)) rfl HRT.out stp_one17 (by rw [HTL.out]; simp only [List.length_nil]; omega) (by decide) (Nat.le_refl _) ?_; intro v6 w6 hown6 hg6)
            have HE6 := hide ((Ext.refl w5).grown hg6 (fun k hk => by cases hk))
            have hown6' : Own stpC 8 w6 w5.heap.size 129 v6 ((SL i).take k) := hown6
            obtain ⟨p6, c6, hv6⟩ := hown6'.sl
            subst hv6
            have HO6 := hide hown6'
            clear hown6 hg6 hown6'
            obtain ⟨k0, k1, k2, k3, k4, k5, k6, k7, kz⟩ := own_edge (HL.out.ext (HX5.out.trans HE6.out)) HS.out
            have hz6 : w5.heap.size ≤ w6.heap.size := HE6.out.size
            have HNW : Hid (∀ t u, (stpC s)[t]? = some u → (w6.alloc (.cells #[.int .i64 s.1.g.n, .int .i64 s.1.g.h0, .int .i64 s.1.g.h1, .int .i64 s.1.g.h2, .int .i64 s.1.g.h3, .int .i64 s.1.g.h4, .int .i64 s.1.f, .int .i64 (s.2 : Nat)] 129)).cell? ⟨w6.heap.size, t, none⟩ = some u) := edge_new w6 s
            go_upto_region 15 with (at_builtin; refine wpList_append1 rfl (.tmp 51) (.tmp 56) 125 rfl w5.heap.size 129 (stpV default) 8 64 Tryz.underlying125 edge_info17 rfl (by decide) _ ((SL i).take k) s w6.heap.size rfl (HO6.out.alloc _) rfl HNW.out (stp_one17 s) (by rw [HTL.out]; omega) (by decide) (by simp only [World.size_alloc]; omega) ?_; intro v7 w7 hown7 hg7 hf7; have HOW7 := hide hown7; have HGW7 := hide hg7; clear hown7 hg7 hf7 k0 k1 k2 k3 k4 k5 k6 k7 kz)
            have HE7 := hide ((HE6.out.alloc (.cells #[.int .i64 s.1.g.n, .int .i64 s.1.g.h0, .int .i64 s.1.g.h1, .int .i64 s.1.g.h2, .int .i64 s.1.g.h3, .int .i64 s.1.g.h4, .int .i64 s.1.f, .int .i64 (s.2 : Nat)] 129)).grown HGW7.out (fun k hk => HO6.out.block_ge k hk))
            obtain ⟨p7, c7, hv7⟩ := HOW7.out.sl
            have HO7 : Hid (Own stpC 8 w7 w5.heap.size 129 v7 ((SL i).take k ++ [s])) := HOW7.out
            clear HOW7 HGW7 HNW
            subst hv7
            have hz7 : w5.heap.size ≤ w7.heap.size := HE7.out.size
            have HLN7 : Hid (((SL i).take k ++ [s]).length = k + 1) := by show _ = _; rw [List.length_append, HTL.out]; rfl
            go_wp2_with (at_builtin; refine wpList_appendN rfl (.tmp 58) (.tmp 61) 125 rfl w5.heap.size 129 (stpV default) 8 64 Tryz.underlying125 edge_info17 rfl (by decide) _ _ _ ((SL i).drop k) rfl HO7.out rfl (HRD.out.ext HE7.out) stp_one17 (by rw [HLN7.out, HDL.out]; omega) (by decide) (by omega) ?_; intro v8 w8 hown8 hg8; have HOW8 := hide hown8; have HGW8 := hide hg8; clear hown8 hg8)
            have HE8 : Hid (Ext w5 w8) := HE7.out.grown HGW8.out (fun k hk => HO7.out.block_ge k hk)
            have hown8 : Own stpC 8 w8 w5.heap.size 129 v8 (SL (i + 1)) := by rw [HINS.out]; exact HOW8.out
            obtain ⟨p8, c8, hv8⟩ := hown8.sl
            rw [HSL.out (i + 1) (by omega)] at hv8
            have HOW9 := hide (hown8.mono HX5.out.size)
            have HE9 := hide (HX5.out.trans HE8.out)
            clear hown8 HOW8 HGW8
            subst hv8
            go_roundw
            case rel => first
              | exact ⟨i + 1, p8, c8, by omega, by go_num, rfl, HE9, HOW9.out⟩
              | ((repeat apply Exists.intro); exact ⟨⟨i + 1, p8, c8, by omega, by go_num, rfl, HE9, HOW9.out⟩, rfl⟩)
            case measure => simp [intOf]; omega
        · obtain ⟨m, hm⟩ : ∃ m, k = m + 1 := ⟨k - 1, by omega⟩
          obtain ⟨b3, rfl, -, hco⟩ := own_eaddr HO.out (i := m) (by rw [HSLN.out]; omega)
          rw [HSLN.out] at hco
          obtain ⟨x, hx⟩ : ∃ x, (SL i)[m]? = some x := ⟨_, List.getElem?_eq_getElem (by rw [HSLN.out]; omega)⟩
          have HOx := HO.out.ext HEX.out
          obtain ⟨x0, x1, x2, x3, x4, x5, x6, -, xz⟩ := own_edge HOx hx
          obtain ⟨y0, y1, y2, y3, y4, y5, y6, -, yz⟩ := own_edge (HL.out.ext (HE.out.trans HEX.out)) HS.out
          have HKM : Hid (0 < rcmp x.1 s.1 → ∀ j y, m ≤ j → (SL i)[j]? = some y → 0 < rcmp y.1 s.1) := fun hp j y h1 h2 => by
            rcases Nat.eq_or_lt_of_le h1 with h3 | h1
            · rw [← h3, hx] at h2; cases h2; exact hp
            · exact HK.out j y (by omega) h2
          have HNM : Hid (¬ 0 < rcmp x.1 s.1 → SL (i + 1) = (SL i).take k ++ [s] ++ (SL i).drop k) := fun hp => by
            rw [HSN.out]
            refine insK s (SL i) k HPW.out (by rw [HSLN.out]; exact hk) HK.out fun y _ hy => ?_
            rw [show k - 1 = m by omega, hx] at hy
            cases hy; exact hp
          have HCMP : Hid (∀ W, Calls Tryz.prog 109 #[.agg #[.int .i64 x.1.g.n, .int .i64 x.1.g.h0, .int .i64 x.1.g.h1, .int .i64 x.1.g.h2, .int .i64 x.1.g.h3, .int .i64 x.1.g.h4, .int .i64 x.1.f], .agg #[.int .i64 s.1.g.n, .int .i64 s.1.g.h0, .int .i64 s.1.g.h1, .int .i64 s.1.g.h2, .int .i64 s.1.g.h3, .int .i64 s.1.g.h4, .int .i64 s.1.f]] W fun e w' => e = .returned (.int .i64 (rcmp x.1 s.1)) ∧ Ext W w') := fun W => rrcompare_any x.1 s.1 W
          generalize rcmp x.1 s.1 = rc at HCMP HKM HNM
          have d2 : decide (0 < k) = true := decide_eq_true (by omega)
          have hwr : IntKind.i64.wrap ((k : Int) - 1) = (m : Int) := by
            rw [show (k : Int) - 1 = (m : Int) by omega]
            exact IntWalk.i64_in _ (by omega)
          have hmi : (m : Int) < (i : Int) := by omega
          have hmk : m < k := by omega
          have hkc : k ≤ oc := by omega
          have hkI : (k : Int) ≤ 1073741824 := by omega
          clear hm hx HOx
          go_upto_region 10 with fail
          refine wp_region_ext (by kernel_rfl) (by kernel_rfl) ?_
          repeat (go_big_quiet_step ((go_at_call 109; exact Calls.ext_of (HCMP.out _))))
          refine wpQuiet_nil ?_
          rintro w5 ⟨⟨_, hE5⟩, rfl⟩
          have HX5 := hide (HE.out.trans (HEX.out.trans hE5))
          have HR5 := hide (HROW.out.ext (HEX.out.trans hE5))
          have HEX5 := hide (HEX.out.trans hE5)
          clear x0 x1 x2 x3 x4 x5 x6 xz y0 y1 y2 y3 y4 y5 y6 yz d2 hE5
          by_cases hrc : 0 < rc
          · have hd : decide (0 < rc) = true := decide_eq_true hrc
            have HKN := hide (HKM.out hrc)
            clear HNM
            go_wp2_with fail
            go_roundw
            case rel => first
              | exact ⟨m, by go_num, by omega, HKN, HEX5.out⟩
              | ((repeat apply Exists.intro); exact ⟨⟨m, by go_num, by omega, HKN, HEX5.out⟩, rfl⟩)
            case measure => simp [intOf]; omega
          · have hd : decide (0 < rc) = false := decide_eq_false hrc
            have HIN := hide (HNM.out hrc)
            have hrc2 : rc ≤ 0 := by omega
            clear HKM HNM HK hwr HO HROW
            have HINS : Hid (SL (i + 1) = (SL i).take k ++ [s] ++ (SL i).drop k) := HIN.out
            have HRT := hide (row_take17 HR5.out (k := k) (by rw [HSLN.out]; omega))
            have HRD := hide (row_drop0 HR5.out (k := k) (by rw [HSLN.out]; omega))
            have HTL : Hid (((SL i).take k).length = k) := by show _ = _; rw [List.length_take, HSLN.out]; omega
            have HDL : Hid (((SL i).drop k).length = i - k) := by show _ = _; rw [List.length_drop, HSLN.out]
            have hbnd : ln ≤ 1073741824 := HLB.out
            go_upto_region 14 with (at_builtin; refine wpList_appendN rfl (.tmp 46) (.tmp 49) 125 rfl w5.heap.size 129 (stpV default) 8 64 Tryz.underlying125 edge_info17 rfl (by decide) _ ([] : List Stp17) _ ((SL i).take k) rfl (Own.nil w5 _ _ (fun _ => rfl)) rfl HRT.out stp_one17 (by rw [HTL.out]; simp only [List.length_nil]; omega) (by decide) (Nat.le_refl _) ?_; intro v6 w6 hown6 hg6)
            have HE6 := hide ((Ext.refl w5).grown hg6 (fun k hk => by cases hk))
            have hown6' : Own stpC 8 w6 w5.heap.size 129 v6 ((SL i).take k) := hown6
            obtain ⟨p6, c6, hv6⟩ := hown6'.sl
            subst hv6
            have HO6 := hide hown6'
            clear hown6 hg6 hown6'
            obtain ⟨k0, k1, k2, k3, k4, k5, k6, k7, kz⟩ := own_edge (HL.out.ext (HX5.out.trans HE6.out)) HS.out
            have hz6 : w5.heap.size ≤ w6.heap.size := HE6.out.size
            have HNW : Hid (∀ t u, (stpC s)[t]? = some u → (w6.alloc (.cells #[.int .i64 s.1.g.n, .int .i64 s.1.g.h0, .int .i64 s.1.g.h1, .int .i64 s.1.g.h2, .int .i64 s.1.g.h3, .int .i64 s.1.g.h4, .int .i64 s.1.f, .int .i64 (s.2 : Nat)] 129)).cell? ⟨w6.heap.size, t, none⟩ = some u) := edge_new w6 s
            go_upto_region 15 with (at_builtin; refine wpList_append1 rfl (.tmp 51) (.tmp 56) 125 rfl w5.heap.size 129 (stpV default) 8 64 Tryz.underlying125 edge_info17 rfl (by decide) _ ((SL i).take k) s w6.heap.size rfl (HO6.out.alloc _) rfl HNW.out (stp_one17 s) (by rw [HTL.out]; omega) (by decide) (by simp only [World.size_alloc]; omega) ?_; intro v7 w7 hown7 hg7 hf7; have HOW7 := hide hown7; have HGW7 := hide hg7; clear hown7 hg7 hf7 k0 k1 k2 k3 k4 k5 k6 k7 kz)
            have HE7 := hide ((HE6.out.alloc (.cells #[.int .i64 s.1.g.n, .int .i64 s.1.g.h0, .int .i64 s.1.g.h1, .int .i64 s.1.g.h2, .int .i64 s.1.g.h3, .int .i64 s.1.g.h4, .int .i64 s.1.f, .int .i64 (s.2 : Nat)] 129)).grown HGW7.out (fun k hk => HO6.out.block_ge k hk))
            obtain ⟨p7, c7, hv7⟩ := HOW7.out.sl
            have HO7 : Hid (Own stpC 8 w7 w5.heap.size 129 v7 ((SL i).take k ++ [s])) := HOW7.out
            clear HOW7 HGW7 HNW
            subst hv7
            have hz7 : w5.heap.size ≤ w7.heap.size := HE7.out.size
            have HLN7 : Hid (((SL i).take k ++ [s]).length = k + 1) := by show _ = _; rw [List.length_append, HTL.out]; rfl
            go_wp2_with (at_builtin; refine wpList_appendN rfl (.tmp 58) (.tmp 61) 125 rfl w5.heap.size 129 (stpV default) 8 64 Tryz.underlying125 edge_info17 rfl (by decide) _ _ _ ((SL i).drop k) rfl HO7.out rfl (HRD.out.ext HE7.out) stp_one17 (by rw [HLN7.out, HDL.out]; omega) (by decide) (by omega) ?_; intro v8 w8 hown8 hg8; have HOW8 := hide hown8; have HGW8 := hide hg8; clear hown8 hg8)
            have HE8 : Hid (Ext w5 w8) := HE7.out.grown HGW8.out (fun k hk => HO7.out.block_ge k hk)
            have hown8 : Own stpC 8 w8 w5.heap.size 129 v8 (SL (i + 1)) := by rw [HINS.out]; exact HOW8.out
            obtain ⟨p8, c8, hv8⟩ := hown8.sl
            rw [HSL.out (i + 1) (by omega)] at hv8
            have HOW9 := hide (hown8.mono HX5.out.size)
            have HE9 := hide (HX5.out.trans HE8.out)
            clear hown8 HOW8 HGW8
            subst hv8
            go_roundw
            case rel => first
              | exact ⟨i + 1, p8, c8, by omega, by go_num, rfl, HE9, HOW9.out⟩
              | ((repeat apply Exists.intro); exact ⟨⟨i + 1, p8, c8, by omega, by go_num, rfl, HE9, HOW9.out⟩, rfl⟩)
            case measure => simp [intOf]; omega
    · have hil : i = ln := by omega
      have HFIN : Hid (Own stpC 8 wr w.heap.size 129 (.slice oq i oc) res) := by show Own _ _ _ _ _ _ _; rw [← HSA.out, ← hil]; exact HO.out.mono HSZW.out
      have HEF := hide (HE2.out.trans HE.out)
      clear hil
      have hnli : ¬ ((i : Int) < (ln : Int)) := by omega
      go_wp2_with fail
      go_ret
      exact ⟨_, rfl, HFIN.out, ((Ext.refl w).alloc _).trans HEF.out⟩
theorem divs_mem {n num key : Nat} {s : Stp17} (hk : key ≤ num) (h : s ∈ edgesB ⟨5, n, num⟩ key) : s.2 ≤ num := by
  unfold edgesB at h
  rw [if_pos rfl, sortR_mem, divsB_eq] at h
  obtain ⟨g, -, hs⟩ := List.mem_flatMap.1 h
  unfold divF at hs
  by_cases hc : (!dividedB n g || (!(g.h 0 == (fullN n : Nat)) && key == num)) = true
  · rw [if_pos hc] at hs; cases hs
  · rw [if_neg hc, List.mem_singleton] at hs
    subst hs
    show (if (g.h 0 == (fullN n : Nat)) = true then key else key + 1) ≤ num
    by_cases he : (g.h 0 == (fullN n : Nat)) = true
    · rw [if_pos he]; exact hk
    · rw [if_neg he]
      by_cases hu : key = num
      · exfalso
        apply hc
        have he2 : (g.h 0 == (fullN n : Nat)) = false := by simpa using he
        rw [he2, hu]; simp
      · omega
theorem ref_ask5 {n num : Nat} (hn : n ≤ 5) (hnum : num ≤ 6) : RAsk 5 n num (edgesB ⟨5, n, num⟩) (fun key => key ≤ num) where
  call := fun key W hk => by
    have h := redges5_any (num := num) (key := key) hn (by omega) (by omega) W
    have e : edgesB ⟨5, n, num⟩ key = sortR (divsB ⟨5, n, num⟩ key) := by unfold edgesB; rw [if_pos rfl]
    rw [e]
    exact h
  zero := Nat.zero_le _
  next := fun key hk s hs => divs_mem hk hs
  few := fun key hk => by omega
  len := fun key hk => by
    unfold edgesB
    rw [if_pos rfl, (sortR_perm _).length_eq]
    exact divs_len hn
end Go.Proofs.YtdlhnpogddpmpaaGreat
