/-
  The reference's layer 17: divisions.
  Conditions: at most five processes.
-/
import Derived.Test.YtdlhnpogddpmpaaGreatFailRE
namespace Go.Proofs.YtdlhnpogddpmpaaGreat
open Go.RowKit
attribute [local go_sem] Oper.semAt_some

theorem and_table : ((List.range 32).all fun a => (List.range 32).all fun b => decide (bits .and .i64 (a : Int) (b : Int) = ((a &&& b : Nat) : Int)) && decide (bits .andNot .i64 (a : Int) (b : Int) = ((a - (a &&& b) : Nat) : Int))) = true := by decide +kernel
theorem and_run {a b : Nat} (ha : a < 32) (hb : b < 32) : bits .and .i64 (a : Int) (b : Int) = ((a &&& b : Nat) : Int) := by
  have h := and_table
  rw [List.all_eq_true] at h
  have h := h a (List.mem_range.2 ha)
  rw [List.all_eq_true] at h
  have h := h b (List.mem_range.2 hb)
  rw [Bool.and_eq_true] at h
  exact of_decide_eq_true h.1
def joinQ (op : Nat) (g : Gr) (set q : Nat) : Bool := (op == 5 && set != (g.h q).toNat && (set &&& (g.h q).toNat) != 0) || (op == 6 && !insd set (g.h q).toNat && !insd (g.h q).toNat set)
theorem joinsB_eq (op : Nat) (g : Gr) (p set : Nat) : ((∀ q, q < p → joinQ op g set q = false) → joinsB op g p set = true) ∧ (∀ q, q < p → joinQ op g set q = true → joinsB op g p set = false) := by
  refine ⟨fun h => ?_, fun q hq h => ?_⟩
  · unfold joinsB
    rw [List.all_eq_true]
    intro q hq
    have := h q (List.mem_range.1 hq)
    unfold joinQ at this
    rw [this]; rfl
  · cases hj : joinsB op g p set with
    | false => rfl
    | true =>
      unfold joinsB at hj
      rw [List.all_eq_true] at hj
      have := hj q (List.mem_range.2 hq)
      unfold joinQ at h
      rw [h] at this
      cases this
set_option maxHeartbeats 2000000 in
theorem rjoins_any {op p set : Nat} {g : Gr} (hop : op = 5 ∨ op = 6) (hp : p < 5) (hs : set < 32) (hg : ∀ q, q < 5 → ∃ s : Nat, g.h q = (s : Int) ∧ s < 32) (w : World) :
    Calls Tryz.prog 136 #[g.v, .int .i64 p, .int .i64 set, .int .i64 op] w fun e w' => e = .returned (.bool (joinsB op g p set)) ∧ Ext w w' := by
  have HV := hide (joinsB_eq op g p set)
  obtain ⟨w1, hw1⟩ : ∃ w1, w.alloc (.cells #[.int .i64 g.n, .int .i64 g.h0, .int .i64 g.h1, .int .i64 g.h2, .int .i64 g.h3, .int .i64 g.h4] 37) = w1 := ⟨_, rfl⟩
  have HE0 : Hid (Ext w w1) := by show Ext _ _; rw [← hw1]; exact (Ext.refl w).alloc _
  have HG : Hid (GrBox w1 w.heap.size g) := by show _ = _; rw [← hw1]; exact heap_alloc_new w _
  have HW := hide hw1
  have HGH := hide hg
  clear hw1 hg
  generalize joinsB op g p set = res at HV ⊢
  go_enter Tryz.func136, Tryz.ntmps136
  go_wp2_with fail
  rw [HW.out]
  go_loopw [9, 10] (fun v _ wr => ∃ q : Nat, q ≤ p ∧ v = .int .i64 q ∧ Hid (Ext w1 wr) ∧ Hid (∀ z, z < q → joinQ op g set z = false)) (fun v _ _ => p - (intOf v).toNat)
  case atStart => exact ⟨0, Nat.zero_le _, rfl, Ext.refl _, fun z hz => absurd hz (Nat.not_lt_zero z)⟩
  case round =>
    obtain ⟨q, hq, rfl, HE, HL⟩ := hrel
    by_cases hlt : q < p
    · obtain ⟨b, hb, hb32⟩ := HGH.out q (by omega)
      have htb : (g.h q).toNat = b := by rw [hb]; rfl
      have hGB : GrBox wr w.heap.size g := (HE.out.b.block _ (lt_of_heap HG.out)).trans HG.out
      obtain ⟨y0, -⟩ := hGB.row (p := q) (by omega)
      have gz := lt_of_heap hGB
      rw [hb] at y0
      have hq5 : (q : Int) < 5 := by omega
      have hand := and_run hs hb32
      have HSB := hide (fun W => rinsd_any hs hb32 W)
      have HBS := hide (fun W => rinsd_any hb32 hs W)
      clear hb hGB
      rcases hop with rfl | rfl
      · by_cases he : set = b
        · have HQ : Hid (joinQ 5 g set q = false) := by show _ = _; unfold joinQ; rw [htb, he]; simp
          have HLQ : Hid (∀ z, z < q + 1 → joinQ 5 g set z = false) := fun z hz => by
            rcases Nat.lt_succ_iff_lt_or_eq.1 hz with h | rfl
            · exact HL.out z h
            · exact HQ.out
          have hd : ((set : Int) == (b : Int)) = true := by rw [he]; simp
          have hd2 : (set == b) = true := by rw [he]; simp
          have hd3 : ((set : Int) != (b : Int)) = false := by rw [bne, hd]; rfl
          subst he
          clear htb
          go_wp2_with fail
          go_roundw
          case rel => first
            | exact ⟨q + 1, by omega, by go_num, HE, HLQ⟩
            | ((repeat apply Exists.intro); exact ⟨⟨q + 1, by omega, by go_num, HE, HLQ⟩, rfl⟩)
          case measure => simp [intOf]; omega
        · have hd : ((set : Int) == (b : Int)) = false := by rw [beq_eq_false_iff_ne]; omega
          have hd2 : (set == b) = false := by rw [beq_eq_false_iff_ne]; exact he
          have hd3 : ((set : Int) != (b : Int)) = true := by rw [bne, hd]; rfl
          by_cases ha : set &&& b = 0
          · have HQ : Hid (joinQ 5 g set q = false) := by show _ = _; unfold joinQ; rw [htb, ha]; simp
            have HLQ : Hid (∀ z, z < q + 1 → joinQ 5 g set z = false) := fun z hz => by
              rcases Nat.lt_succ_iff_lt_or_eq.1 hz with h | rfl
              · exact HL.out z h
              · exact HQ.out
            rw [ha] at hand
            clear htb
            go_wp2_with fail
            go_roundw
            case rel => first
              | exact ⟨q + 1, by omega, by go_num, HE, HLQ⟩
              | ((repeat apply Exists.intro); exact ⟨⟨q + 1, by omega, by go_num, HE, HLQ⟩, rfl⟩)
            case measure => simp [intOf]; omega
          · have HQ : Hid (joinQ 5 g set q = true) := by show _ = _; unfold joinQ; rw [htb]; simp [he, ha]
            have ha1 : (((set &&& b : Nat) : Int) == 0) = false := by rw [beq_eq_false_iff_ne]; omega
            have ha2 : ((set &&& b) == 0) = false := by rw [beq_eq_false_iff_ne]; exact ha
            have ha3 : (((set &&& b : Nat) : Int) != 0) = true := by rw [bne, ha1]; rfl
            clear htb
            generalize set &&& b = an at hand ha ha1 ha2 ha3
            go_wp2_with fail
            go_ret
            exact ⟨ret_bool (HV.out.2 q hlt HQ.out).symm, HE0.out.trans HE.out⟩
      · cases h1 : insd set b with
        | true =>
          have HQ : Hid (joinQ 6 g set q = false) := by show _ = _; unfold joinQ; rw [htb, h1]; simp
          have HLQ : Hid (∀ z, z < q + 1 → joinQ 6 g set z = false) := fun z hz => by
            rcases Nat.lt_succ_iff_lt_or_eq.1 hz with h | rfl
            · exact HL.out z h
            · exact HQ.out
          unfold insd at h1
          rw [h1] at HSB
          clear htb h1
          go_wp2_with (go_at_call 68; refine (HSB.out _).mono ?_; rintro e w' ⟨rfl, rfl⟩)
          go_roundw
          case rel => first
            | exact ⟨q + 1, by omega, by go_num, HE, HLQ⟩
            | ((repeat apply Exists.intro); exact ⟨⟨q + 1, by omega, by go_num, HE, HLQ⟩, rfl⟩)
          case measure => simp [intOf]; omega
        | false =>
          cases h2 : insd b set with
          | true =>
            have HQ : Hid (joinQ 6 g set q = false) := by show _ = _; unfold joinQ; rw [htb, h1, h2]; simp
            have HLQ : Hid (∀ z, z < q + 1 → joinQ 6 g set z = false) := fun z hz => by
              rcases Nat.lt_succ_iff_lt_or_eq.1 hz with h | rfl
              · exact HL.out z h
              · exact HQ.out
            unfold insd at h1 h2
            rw [h1] at HSB
            rw [h2] at HBS
            clear htb h1 h2
            go_wp2_with (go_at_call 68; (first | with_reducible refine (HSB.out _).mono ?_ | with_reducible refine (HBS.out _).mono ?_); rintro e w' ⟨rfl, rfl⟩)
            go_roundw
            case rel => first
              | exact ⟨q + 1, by omega, by go_num, HE, HLQ⟩
              | ((repeat apply Exists.intro); exact ⟨⟨q + 1, by omega, by go_num, HE, HLQ⟩, rfl⟩)
            case measure => simp [intOf]; omega
          | false =>
            have HQ : Hid (joinQ 6 g set q = true) := by show _ = _; unfold joinQ; rw [htb, h1, h2]; simp
            unfold insd at h1 h2
            rw [h1] at HSB
            rw [h2] at HBS
            clear htb h1 h2
            go_wp2_with (go_at_call 68; (first | with_reducible refine (HSB.out _).mono ?_ | with_reducible refine (HBS.out _).mono ?_); rintro e w' ⟨rfl, rfl⟩)
            go_ret
            exact ⟨ret_bool (HV.out.2 q hlt HQ.out).symm, HE0.out.trans HE.out⟩
    · obtain rfl : q = p := by omega
      have HF := hide (HV.out.1 HL.out)
      clear HV
      go_wp2_with fail
      go_ret
      exact ⟨ret_bool HF.out.symm, HE0.out.trans HE.out⟩
end Go.Proofs.YtdlhnpogddpmpaaGreat

namespace Go.Proofs.YtdlhnpogddpmpaaGreat
open Go.RowKit
attribute [local go_sem] Oper.semAt_some

set_option maxRecDepth 16000 in
set_option maxHeartbeats 4000000 in
theorem revery_any {op n : Nat} (hop : op = 5 ∨ op = 6) (hn : n ≤ 5) (w : World) :
    Calls Tryz.prog 124 #[.int .i64 n, .int .i64 op] w fun e w' => ∃ v, e = .returned v ∧ Own Gr.cells 6 w' w.heap.size 37 v (everyB n op) ∧ Ext w w' := by
  have HFULL := hide (fun W => rfulln_any hn W)
  obtain ⟨ok, hok⟩ : ∃ ok : Gr → Nat → Nat → Bool, ok = fun g p s => bit s p && joinsB op g p s := ⟨_, rfl⟩
  have HOK : Hid (∀ g p s, ok g p s = (bit s p && joinsB op g p s)) := fun g p s => by rw [hok]
  have HRES : Hid (everyB n op = grL n ok n) := by show _ = _; rw [← rowsG_eq, hok]; rfl
  obtain ⟨lst, hlst⟩ : ∃ lst, grL n ok = lst := ⟨_, rfl⟩
  have HLSU : Hid (∀ p, lst (p + 1) = growG n ok p (lst p)) := fun p => by rw [← hlst, grL_succ]
  have HLFW : Hid (∀ p, p ≤ 5 → (lst p).length ≤ 33554432) := fun p hp => by rw [← hlst]; exact grL_few ok hn hp
  have HLGS : Hid (∀ p, p ≤ n → ∀ g ∈ lst p, GS n g) := by rw [← hlst]; exact grL_gs ok hn
  have HL0 : Hid (lst 0 = [gzn n]) := by rw [← hlst]; rfl
  have hpow := pow32_le hn
  have HFN : Hid (fullN n + 1 = 2 ^ n) := by show fullN n + 1 = _; have := Nat.two_pow_pos n; unfold fullN; omega
  rw [hlst] at HRES
  clear hlst hok
  generalize hN2 : 2 ^ n = N2 at HFN hpow
  have HN2 := hide hN2
  clear hN2
  generalize everyB n op = res at HRES ⊢
  go_enter Tryz.func124, Tryz.ntmps124
  go_wp2_with fail
  obtain ⟨W0, hW0⟩ : ∃ W0, w.alloc (.cells #[.int .i64 n, .int .i64 0, .int .i64 0, .int .i64 0, .int .i64 0, .int .i64 0] 37) = W0 := ⟨_, rfl⟩
  have HOW0 : Hid (Own Gr.cells 6 W0 w.heap.size 37 (.slice (some ⟨w.heap.size, 0, none⟩) 1 1) (lst 0)) := by
    rw [HL0.out]
    exact ⟨fun _ => rfl, rfl, .inr ⟨w.heap.size, 1, _, rfl, Nat.le_refl _, by rw [← hW0]; exact heap_alloc_new _ _, Nat.le_refl _, by unfold maxLen; omega, rfl, rfl⟩⟩
  have HEW0 : Hid (Ext w W0) := by show Ext _ _; rw [← hW0]; exact (Ext.refl _).alloc _
  rw [hW0]
  clear hW0
  go_loopw [5, 6] (fun ul vp V => ∃ (p : Nat) (q : Option Addr) (c : Nat), p ≤ n ∧ vp = .int .i64 p ∧ ul = .slice q (lst p).length c ∧ Hid (Ext w V) ∧ Hid (Own Gr.cells 6 V w.heap.size 37 ul (lst p))) (fun _ vp _ => n - (intOf vp).toNat)
  case atStart => exact ⟨0, some ⟨w.heap.size, 0, none⟩, 1, Nat.zero_le _, rfl, by rw [HL0.out]; rfl, HEW0.out, HOW0.out⟩
  case round =>
    clear HOW0 HEW0 W0
    obtain ⟨p, lq, lc, hp, rfl, rfl, HE, HOL⟩ := hrel
    obtain ⟨V0, hV0⟩ : ∃ V0, V0 = wr := ⟨_, rfl⟩
    subst hV0
    by_cases hlt : p < n
    · obtain ⟨L, hL⟩ : ∃ L, lst p = L := ⟨_, rfl⟩
      have HLF : Hid (L.length ≤ 33554432) := by show _ ≤ _; rw [← hL]; exact HLFW.out p (by omega)
      have HLNX : Hid (lst (p + 1) = growG n ok p L) := by show _ = _; rw [HLSU.out, hL]
      have HLG : Hid (∀ g ∈ L, GS n g) := by show ∀ g ∈ L, _; rw [← hL]; exact HLGS.out p (by omega)
      have HNF : Hid ((lst (p + 1)).length ≤ 33554432) := HLFW.out (p + 1) (by omega)
      rw [hL] at HOL ⊢
      obtain ⟨nx, hnx⟩ : ∃ nx, grN (fun g s => ok g p s) n p L = nx := ⟨_, rfl⟩
      have HN0 : Hid (nx 0 = []) := by rw [← hnx]; rfl
      have HNS : Hid (∀ i g, L[i]? = some g → nx (i + 1) = nx i ++ grF (ok g p) p g N2) := fun i g h => by rw [← hnx, grN_succ h, HN2.out]
      have HNA : Hid (nx L.length = lst (p + 1)) := by show _ = _; rw [HLNX.out, ← hnx]; exact grN_all ok n p L
      have HNL : Hid (∀ i, i < L.length → (nx i).length + N2 ≤ L.length * N2) := fun i hi => by
        rw [← hnx, ← HN2.out]
        have h1 := grN_len (fun g s => ok g p s) n p L i
        rw [Nat.min_eq_left (by omega)] at h1
        calc _ ≤ i * 2 ^ n + 2 ^ n := Nat.add_le_add_right h1 _
          _ = (i + 1) * 2 ^ n := by rw [Nat.succ_mul]
          _ ≤ L.length * 2 ^ n := Nat.mul_le_mul_right _ hi
      clear hL hnx HLNX
      generalize hln : L.length = ln at HOL HLF HNA HNL ⊢
      have HLN := hide hln
      clear hln
      go_upto_region 7 with fail
      go_loopw [7, 8] (fun un vi V => ∃ (i : Nat) (q : Option Addr) (c : Nat), i ≤ ln ∧ vi = .int .i64 i ∧ un = .slice q (nx i).length c ∧ Hid (Ext V0 V) ∧ Hid (Own Gr.cells 6 V V0.heap.size 37 un (nx i))) (fun _ vi _ => ln - (intOf vi).toNat)
      case atStart => exact ⟨0, none, 0, Nat.zero_le _, rfl, by rw [HN0.out]; rfl, Ext.refl _, by rw [HN0.out]; exact Own.nil _ _ _ (fun _ => rfl)⟩
      case round =>
        obtain ⟨i, nq, nc, hi, rfl, rfl, HE1, HON⟩ := hrel
        obtain ⟨V1, hV1⟩ : ∃ V1, V1 = wr := ⟨_, rfl⟩
        subst hV1
        by_cases hlti : i < ln
        · obtain ⟨g, hg⟩ : ∃ g, L[i]? = some g := ⟨_, List.getElem?_eq_getElem (by rw [HLN.out]; exact hlti)⟩
          obtain ⟨gl, rfl⟩ : ∃ gl, lq = some ⟨gl, 0, none⟩ := own_addr HOL.out (i := i) (by rw [HLN.out]; exact hlti)
          have HG := hide hg
          obtain ⟨ac, hac⟩ : ∃ ac, nx i = ac := ⟨_, rfl⟩
          have HACL : Hid (ac.length + N2 ≤ ln * N2) := by show _ ≤ _; rw [← hac]; exact HNL.out i hlti
          have HNS1 : Hid (nx (i + 1) = ac ++ grF (ok g p) p g (N2)) := by show _ = _; rw [← hac]; exact HNS.out i g hg
          rw [hac] at HON ⊢
          have HYES := hide (fun s (h : ok g p s = true) => grF_yes (p := p) (g := g) h)
          have HNOS := hide (fun s (h : ok g p s = false) => grF_no (p := p) (g := g) h)
          have HFL := hide (grF_len (ok g p) p g)
          have HF0 : Hid (grF (ok g p) p g 0 = []) := rfl
          have HOKG : Hid (∀ s, ok g p s = (bit s p && joinsB op g p s)) := HOK.out g p
          have HGS := hide (HLG.out g (List.mem_of_getElem? hg))
          generalize grF (ok g p) p g = fs at HNS1 HYES HNOS HFL HF0
          generalize ok g p = okg at HYES HNOS HOKG
          clear hg hac
          have hli : (i : Int) < (ln : Int) := by omega
          go_upto_region 10 with fail
          go_loopw [7, 9] (fun un vs V => ∃ (s : Nat) (q : Option Addr) (c : Nat), s ≤ N2 ∧ vs = .int .i64 s ∧ un = .slice q (ac ++ fs s).length c ∧ Hid (Ext V0 V) ∧ Hid (Own Gr.cells 6 V V0.heap.size 37 un (ac ++ fs s))) (fun _ vs _ => N2 - (intOf vs).toNat)
          case atStart => exact ⟨0, nq, nc, Nat.zero_le _, rfl, by rw [HF0.out, List.append_nil], HE1.out, by rw [HF0.out, List.append_nil]; exact HON.out⟩
          case round =>
            clear HON HE1 V1
            obtain ⟨s, sq, sc, hs, rfl, rfl, HE1, HON⟩ := hrel
            have hfn := HFN.out
            generalize hm : (ac ++ fs s).length = m at HON ⊢
            have HM := hide hm
            clear hm
            by_cases hlts : s < N2
            · have hd : decide ((s : Int) ≤ ((fullN n : Nat) : Int)) = true := decide_eq_true (by omega)
              have hd2 : decide (s ≤ fullN n) = true := decide_eq_true (by omega)
              clear hfn
              go_wp2_with (go_at_call 110; refine (HFULL.out _).mono ?_; rintro e w' ⟨rfl, rfl⟩)
              have HB := hide (fun W => rhasb_any (s := s) (p := p) (by omega) (by omega) W)
              have HJ := hide (fun W => rjoins_any (op := op) (p := p) (set := s) (g := g) hop (by omega) (by omega) HGS.out.2 W)
              cases hbit : bit s p with
              | false =>
                rw [hbit] at HB
                have HFS : Hid (fs (s + 1) = fs s) := HNOS.out s (by rw [HOKG.out]; simp [hbit])
                clear hbit
                go_wp2_with (go_at_call 97; refine (HB.out _).mono ?_; rintro e w' ⟨rfl, rfl⟩)
                go_roundw
                case rel => first
                  | exact ⟨s + 1, sq, sc, by omega, by go_num, by rw [HFS.out, HM.out], HE1, by rw [HFS.out]; exact HON.out⟩
                  | ((repeat apply Exists.intro); exact ⟨⟨s + 1, sq, sc, by omega, by go_num, by rw [HFS.out, HM.out], HE1, by rw [HFS.out]; exact HON.out⟩, rfl⟩)
                case measure => simp [intOf]; omega
              | true =>
                rw [hbit] at HB
                have HOL1 := hide (HOL.out.ext HE1.out)
                obtain ⟨g0, g1, g2, g3, g4, g5, gz⟩ := own_gr HOL1.out HG.out
                go_wp2_with (go_at_call 97; refine (HB.out _).mono ?_; rintro e w' ⟨rfl, rfl⟩)
                refine (HJ.out _).mono ?_
                rintro e w2 ⟨rfl, hE2⟩
                have HE2 := hide (HE1.out.trans hE2)
                have HON2 := hide (HON.out.ext hE2)
                have HOL2 := hide (HOL.out.ext HE2.out)
                clear hE2
                cases hj : joinsB op g p s with
                | false =>
                  have HFS : Hid (fs (s + 1) = fs s) := HNOS.out s (by rw [HOKG.out]; simp [hbit, hj])
                  clear hbit hj g0 g1 g2 g3 g4 g5 gz
                  go_wp2_with fail
                  go_roundw
                  case rel => first
                    | exact ⟨s + 1, sq, sc, by omega, by go_num, by rw [HFS.out, HM.out], HE2, by rw [HFS.out]; exact HON2.out⟩
                    | ((repeat apply Exists.intro); exact ⟨⟨s + 1, sq, sc, by omega, by go_num, by rw [HFS.out, HM.out], HE2, by rw [HFS.out]; exact HON2.out⟩, rfl⟩)
                  case measure => simp [intOf]; omega
                | true =>
                  have HFS : Hid (fs (s + 1) = fs s ++ [g.set p (s : Int)]) := HYES.out s (by rw [HOKG.out, hbit, hj]; rfl)
                  have HSL : Hid ((fs s).length ≤ s) := HFL.out s
                  clear hbit hj g0 g1 g2 g3 g4 g5 gz
                  obtain ⟨g0, g1, g2, g3, g4, g5, gz⟩ := own_gr HOL2.out HG.out
                  go_upto_region 14 with fail
                  obtain ⟨V3, hV3⟩ : ∃ V3, w2.alloc (.cells #[.int .i64 g.n, .int .i64 g.h0, .int .i64 g.h1, .int .i64 g.h2, .int .i64 g.h3, .int .i64 g.h4] 37) = V3 := ⟨_, rfl⟩
                  obtain ⟨gb, hgb⟩ : ∃ gb, w2.heap.size = gb := ⟨_, rfl⟩
                  have hE3 : Ext w2 V3 := by rw [← hV3]; exact (Ext.refl _).alloc _
                  have HGB : Hid (GrBox V3 gb g) := by show _ = _; rw [← hV3, ← hgb]; exact heap_alloc_new _ _
                  have hgbz : V0.heap.size ≤ gb := by rw [← hgb]; exact HE2.out.size
                  have hon3 := HON2.out.ext hE3
                  have hne : ∀ k, (Value.slice sq m sc).ownBlock = some k → k ≠ gb := fun k hk => by
                    have := (HON2.out.2.lt k hk).2
                    omega
                  have HE3 := hide (HE2.out.trans hE3)
                  have HON3 := hide hon3
                  have HNE := hide hne
                  rw [hgb, hV3]
                  clear hV3 hgb hE3 hon3 hne g0 g1 g2 g3 g4 g5 gz
                  have hp5 : (p : Int) < 5 := by omega
                  obtain ⟨h0, hf⟩ := HGB.out.row (p := p) (by omega)
                  have hz := lt_of_heap HGB.out
                  go_upto_region 15 with fail
                  obtain ⟨V4, hV4⟩ : ∃ V4, V3.setCell ⟨gb, 1 + p, none⟩ (.int .i64 s) = V4 := ⟨_, rfl⟩
                  have HGB4 : Hid (GrBox V4 gb (g.set p (s : Int))) := by show _ = _; rw [← hV4]; exact HGB.out.set (by omega) _
                  have HE4 : Hid (Ext V0 V4) := by show Ext _ _; rw [← hV4]; exact HE3.out.setCell (p := ⟨gb, 1 + p, none⟩) hgbz _
                  have HON4 : Hid (Own Gr.cells 6 V4 V0.heap.size 37 (.slice sq m sc) (ac ++ fs s)) := by show Own _ _ _ _ _ _ _; rw [← hV4]; exact HON3.out.setNe (a := ⟨gb, 1 + p, none⟩) (fun k hk => HNE.out k hk) _
                  rw [hV4]
                  clear hV4 h0 hf hz HGB HE3 HON3 HNE hgbz
                  obtain ⟨g0, g1, g2, g3, g4, g5, gz⟩ := HGB4.out.cells
                  generalize hgs : g.set p (s : Int) = gs at HFS HGB4 g0 g1 g2 g3 g4 g5 gz
                  have HNEW := hide (gr_new17 V4 gs)
                  clear hgs
                  go_wp2_with (at_builtin; refine wpList_append1 rfl (.tmp 52) (.tmp 54) 149 rfl V0.heap.size 37 (gzn 0).v 6 48 Tryz.underlying149 gr_info17 rfl (by decide) _ (ac ++ fs s) gs V4.heap.size rfl (HON4.out.alloc _) rfl HNEW.out (gr_one17 gs) (by rw [List.length_append]; have h1 := HSL.out; have h2 := HACL.out; have h3 := HLF.out; have h4 : ln * N2 ≤ 33554432 * 32 := Nat.mul_le_mul h3 hpow; omega) (by decide) (by simp only [World.size_alloc]; have := HE4.out.size; omega) ?_; intro v' W6 hown' hg6 hf6; rw [HM.out] at hf6; obtain ⟨g6, c6, rfl, hgf6⟩ := hf6; have HOW := hide hown'; have HGW := hide hg6; clear hown' hg6 hgf6 g0 g1 g2 g3 g4 g5 gz)
                  have HE6 : Hid (Ext V0 W6) := (HE4.out.alloc _).grown HGW.out (fun k hk => HON4.out.block_ge k hk)
                  have HLE : Hid (m + 1 = (ac ++ fs (s + 1)).length) := by
                    show _ = _
                    rw [HFS.out, ← HM.out]; simp [Nat.add_assoc]
                  have HOW6 : Hid (Own Gr.cells 6 W6 V0.heap.size 37 (.slice (some ⟨g6, 0, none⟩) (m + 1) c6) (ac ++ fs (s + 1))) := by show Own _ _ _ _ _ _ _; rw [HFS.out, ← List.append_assoc]; exact HOW.out
                  go_roundw
                  case rel => first
                    | exact ⟨s + 1, some ⟨g6, 0, none⟩, c6, by omega, by go_num, by rw [← HLE.out], HE6, HOW6.out⟩
                    | ((repeat apply Exists.intro); exact ⟨⟨s + 1, some ⟨g6, 0, none⟩, c6, by omega, by go_num, by rw [← HLE.out], HE6, HOW6.out⟩, rfl⟩)
                  case measure => simp [intOf]; omega
            · have hsn : s = N2 := by omega
              subst hsn
              have hd : decide ((s : Int) ≤ ((fullN n : Nat) : Int)) = false := decide_eq_false (by omega)
              have hd2 : decide (s ≤ fullN n) = false := decide_eq_false (by omega)
              have HM1 : Hid ((nx (i + 1)).length = m) := by show _ = _; rw [HNS1.out, HM.out]
              have HON1 : Hid (Own Gr.cells 6 wr V0.heap.size 37 (.slice sq m sc) (nx (i + 1))) := by show Own _ _ _ _ _ _ _; rw [HNS1.out]; exact HON.out
              clear hfn
              have hlnb : ln ≤ 33554432 := HLF.out
              go_wp2_with (go_at_call 110; refine (HFULL.out _).mono ?_; rintro e w' ⟨rfl, rfl⟩)
              go_roundw
              case rel => first
                | exact ⟨i + 1, sq, sc, by omega, by go_num, by rw [HM1.out], HE1, HON1.out⟩
                | ((repeat apply Exists.intro); exact ⟨⟨i + 1, sq, sc, by omega, by go_num, by rw [HM1.out], HE1, HON1.out⟩, rfl⟩)
              case measure => simp [intOf]; omega
        · have hil : i = ln := by omega
          subst hil
          have HM1 : Hid ((nx i).length = (lst (p + 1)).length) := by show _ = _; rw [HNA.out]
          have HON1 : Hid (Own Gr.cells 6 V1 w.heap.size 37 (.slice nq (nx i).length nc) (lst (p + 1))) := by show Own _ _ _ _ _ _ _; rw [← HNA.out]; exact HON.out.mono HE.out.size
          have HEE := hide (HE.out.trans HE1.out)
          generalize (nx i).length = m at HM1 HON1 ⊢
          go_wp2_with fail
          go_roundw
          case rel => first
            | exact ⟨p + 1, nq, nc, by omega, by go_num, by rw [← HM1.out], HEE, HON1.out⟩
            | ((repeat apply Exists.intro); exact ⟨⟨p + 1, nq, nc, by omega, by go_num, by rw [← HM1.out], HEE, HON1.out⟩, rfl⟩)
          case measure => simp [intOf]; omega
    · have hpn : p = n := by omega
      subst hpn
      have HFIN : Hid (Own Gr.cells 6 V0 w.heap.size 37 (.slice lq (lst p).length lc) res) := by show Own _ _ _ _ _ _ _; rw [HRES.out]; exact HOL.out
      generalize (lst p).length = m at HFIN ⊢
      go_wp2_with fail
      go_ret
      exact ⟨_, rfl, HFIN.out, HE.out⟩
end Go.Proofs.YtdlhnpogddpmpaaGreat

namespace Go.Proofs.YtdlhnpogddpmpaaGreat
open Go.RowKit
attribute [local go_sem] Oper.semAt_some

def divQ (g : Gr) (p q : Nat) : Bool := bit (g.h p).toNat q && g.h p != g.h q
theorem dividedB_eq (n : Nat) (g : Gr) : ((∀ p, p < n → ∀ q, q < n → divQ g p q = false) → dividedB n g = true) ∧ (∀ p q, p < n → q < n → divQ g p q = true → dividedB n g = false) := by
  refine ⟨fun h => ?_, fun p q hp hq h => ?_⟩
  · unfold dividedB
    rw [List.all_eq_true]
    intro p hp
    rw [List.all_eq_true]
    intro q hq
    have := h p (List.mem_range.1 hp) q (List.mem_range.1 hq)
    unfold divQ at this
    rw [this]; rfl
  · cases hj : dividedB n g with
    | false => rfl
    | true =>
      unfold dividedB at hj
      rw [List.all_eq_true] at hj
      have := hj p (List.mem_range.2 hp)
      rw [List.all_eq_true] at this
      have := this q (List.mem_range.2 hq)
      unfold divQ at h
      rw [h] at this
      cases this
set_option maxRecDepth 16000 in
set_option maxHeartbeats 2000000 in
theorem rdivided_any {n : Nat} {g : Gr} (hn : n ≤ 5) (hg : GS n g) (w : World) :
    Calls Tryz.prog 125 #[g.v] w fun e w' => e = .returned (.bool (dividedB n g)) ∧ Ext w w' := by
  have HV := hide (dividedB_eq n g)
  obtain ⟨w1, hw1⟩ : ∃ w1, w.alloc (.cells #[.int .i64 g.n, .int .i64 g.h0, .int .i64 g.h1, .int .i64 g.h2, .int .i64 g.h3, .int .i64 g.h4] 37) = w1 := ⟨_, rfl⟩
  have HE0 : Hid (Ext w w1) := by show Ext _ _; rw [← hw1]; exact (Ext.refl w).alloc _
  have HG : Hid (GrBox w1 w.heap.size g) := by show _ = _; rw [← hw1]; exact heap_alloc_new w _
  have HW := hide hw1
  have HGH := hide hg.2
  have HGN := hide hg.1
  clear hw1 hg
  generalize dividedB n g = res at HV ⊢
  go_enter Tryz.func125, Tryz.ntmps125
  go_wp2_with fail
  rw [HW.out]
  go_loopw [3, 4] (fun v _ wr => ∃ p : Nat, p ≤ n ∧ v = .int .i64 p ∧ Hid (Ext w1 wr) ∧ Hid (∀ z, z < p → ∀ y, y < n → divQ g z y = false)) (fun v _ _ => n - (intOf v).toNat)
  case atStart => exact ⟨0, Nat.zero_le _, rfl, Ext.refl _, fun z hz => absurd hz (Nat.not_lt_zero z)⟩
  case round =>
    obtain ⟨p, hp, rfl, HE, HL⟩ := hrel
    have hgn := HGN.out
    have hGB0 : GrBox wr w.heap.size g := (HE.out.b.block _ (lt_of_heap HG.out)).trans HG.out
    obtain ⟨g0, -⟩ := GrBox.cells hGB0
    have gz := lt_of_heap hGB0
    rw [hgn] at g0
    clear hGB0 hgn
    by_cases hlt : p < n
    · obtain ⟨sp, hsp, hsp32⟩ := HGH.out p (by omega)
      have HSP := hide hsp
      have hp5 : (p : Int) < 5 := by omega
      clear hsp
      go_upto_region 5 with fail
      obtain ⟨V0, hV0⟩ : ∃ V0, V0 = wr := ⟨_, rfl⟩
      subst hV0
      clear g0 gz
      go_loopw [4] (fun v wr => ∃ q : Nat, q ≤ n ∧ v = .int .i64 q ∧ Hid (Ext w1 wr) ∧ Hid (∀ y, y < q → divQ g p y = false)) (fun v _ => n - (intOf v).toNat)
      case atStart => exact ⟨0, Nat.zero_le _, rfl, HE, fun z hz => absurd hz (Nat.not_lt_zero z)⟩
      case round =>
        obtain ⟨q, hq, rfl, HE1, HL1⟩ := hrel
        have hgn := HGN.out
        have hGB0 : GrBox wr w.heap.size g := (HE1.out.b.block _ (lt_of_heap HG.out)).trans HG.out
        obtain ⟨g0, -⟩ := GrBox.cells hGB0
        have gz := lt_of_heap hGB0
        rw [hgn] at g0
        by_cases hltq : q < n
        · obtain ⟨sq, hsq, hsq32⟩ := HGH.out q (by omega)
          obtain ⟨y0, -⟩ := hGB0.row (p := p) (by omega)
          obtain ⟨x0, -⟩ := hGB0.row (p := q) (by omega)
          rw [HSP.out] at y0
          rw [hsq] at x0
          have htp : (g.h p).toNat = sp := by rw [HSP.out]; rfl
          have hq5 : (q : Int) < 5 := by omega
          have HB := hide (fun W => rhasb_any (s := sp) (p := q) hsp32 (by omega) W)
          clear hGB0 hgn
          cases hbit : bit sp q with
          | false =>
            rw [hbit] at HB
            have HQ : Hid (divQ g p q = false) := by show _ = _; unfold divQ; rw [htp, hbit]; rfl
            have HLQ : Hid (∀ z, z < q + 1 → divQ g p z = false) := fun z hz => by
              rcases Nat.lt_succ_iff_lt_or_eq.1 hz with h | rfl
              · exact HL1.out z h
              · exact HQ.out
            clear htp hbit hsq
            go_upto_region 7 with fail
            refine wp_region_ext (by kernel_rfl) (by kernel_rfl) ?_
            repeat (go_big_quiet_step ((go_at_call 97; exact Calls.ext_same (HB.out _))))
            refine wpQuiet_nil ?_
            rintro w9 ⟨⟨_, hE9⟩, rfl⟩
            have HE9 := hide (HE1.out.trans hE9)
            clear hE9 y0 x0 gz g0
            obtain ⟨g0, -⟩ := GrBox.cells ((HE9.out.b.block _ (lt_of_heap HG.out)).trans HG.out)
            have gz := lt_of_heap ((HE9.out.b.block _ (lt_of_heap HG.out)).trans HG.out)
            rw [HGN.out] at g0
            go_wp2_with fail
            go_roundw
            case rel => first
              | exact ⟨q + 1, by omega, by go_num, HE9, HLQ⟩
              | ((repeat apply Exists.intro); exact ⟨⟨q + 1, by omega, by go_num, HE9, HLQ⟩, rfl⟩)
            case measure => simp [intOf]; omega
          | true =>
            rw [hbit] at HB
            by_cases he : sp = sq
            · subst he
              have hd3 : ((sp : Int) != (sp : Int)) = false := by simp
              have HQ : Hid (divQ g p q = false) := by show _ = _; unfold divQ; rw [htp, hbit, HSP.out, hsq, hd3]; rfl
              have HLQ : Hid (∀ z, z < q + 1 → divQ g p z = false) := fun z hz => by
                rcases Nat.lt_succ_iff_lt_or_eq.1 hz with h | rfl
                · exact HL1.out z h
                · exact HQ.out
              clear htp hbit hsq
              go_upto_region 7 with fail
              refine wp_region_ext (by kernel_rfl) (by kernel_rfl) ?_
              repeat (go_big_quiet_step ((go_at_call 97; exact Calls.ext_same (HB.out _))))
              refine wpQuiet_nil ?_
              rintro w9 ⟨⟨_, hE9⟩, rfl⟩
              have HE9 := hide (HE1.out.trans hE9)
              clear hE9 y0 x0 gz g0
              obtain ⟨g0, -⟩ := GrBox.cells ((HE9.out.b.block _ (lt_of_heap HG.out)).trans HG.out)
              have gz := lt_of_heap ((HE9.out.b.block _ (lt_of_heap HG.out)).trans HG.out)
              rw [HGN.out] at g0
              go_wp2_with fail
              go_roundw
              case rel => first
                | exact ⟨q + 1, by omega, by go_num, HE9, HLQ⟩
                | ((repeat apply Exists.intro); exact ⟨⟨q + 1, by omega, by go_num, HE9, HLQ⟩, rfl⟩)
              case measure => simp [intOf]; omega
            · have hd : ((sp : Int) == (sq : Int)) = false := by rw [beq_eq_false_iff_ne]; omega
              have hd2 : (sp == sq) = false := by rw [beq_eq_false_iff_ne]; exact he
              have hd3 : ((sp : Int) != (sq : Int)) = true := by rw [bne, hd]; rfl
              have HQ : Hid (divQ g p q = true) := by show _ = _; unfold divQ; rw [htp, hbit, HSP.out, hsq, hd3]; rfl
              clear htp hbit hsq
              go_upto_region 7 with fail
              refine wp_region_ext (by kernel_rfl) (by kernel_rfl) ?_
              repeat (go_big_quiet_step ((go_at_call 97; exact Calls.ext_same (HB.out _))))
              refine wpQuiet_nil ?_
              rintro w9 ⟨⟨_, hE9⟩, rfl⟩
              have HE9 := hide (HE1.out.trans hE9)
              clear hE9 y0 x0 gz g0
              obtain ⟨g0, -⟩ := GrBox.cells ((HE9.out.b.block _ (lt_of_heap HG.out)).trans HG.out)
              have gz := lt_of_heap ((HE9.out.b.block _ (lt_of_heap HG.out)).trans HG.out)
              go_wp2_with fail
              go_ret
              exact ⟨ret_bool (HV.out.2 p q hlt hltq HQ.out).symm, HE0.out.trans HE9.out⟩
        · obtain rfl : q = n := by omega
          have HLP : Hid (∀ z, z < p + 1 → ∀ y, y < q → divQ g z y = false) := fun z hz => by
            rcases Nat.lt_succ_iff_lt_or_eq.1 hz with h | rfl
            · exact HL.out z h
            · exact HL1.out
          clear hGB0 hgn
          go_wp2_with fail
          go_roundw
          case rel => first
            | exact ⟨p + 1, by omega, by go_num, HE1, HLP⟩
            | ((repeat apply Exists.intro); exact ⟨⟨p + 1, by omega, by go_num, HE1, HLP⟩, rfl⟩)
          case measure => simp [intOf]; omega
    · obtain rfl : p = n := by omega
      have HF := hide (HV.out.1 HL.out)
      clear HV
      go_wp2_with fail
      go_ret
      exact ⟨ret_bool HF.out.symm, HE0.out.trans HE.out⟩
end Go.Proofs.YtdlhnpogddpmpaaGreat

namespace Go.Proofs.YtdlhnpogddpmpaaGreat
open Go.RowKit
attribute [local go_sem] Oper.semAt_some

def divF (n num used : Nat) (g : Gr) : List Stp17 := if (!dividedB n g || (!(g.h 0 == (fullN n : Nat)) && used == num)) = true then [] else [(⟨g, 0⟩, if (g.h 0 == (fullN n : Nat)) = true then used else used + 1)]
theorem divsB_eq (n num used : Nat) : divsB ⟨5, n, num⟩ used = (everyB n 5).flatMap (divF n num used) := rfl
theorem everyB_ok {n : Nat} (hn : n ≤ 5) (op : Nat) : (everyB n op).length ≤ 33554432 ∧ ∀ g ∈ everyB n op, GS n g := by
  have e : everyB n op = grL n (fun g p s => bit s p && joinsB op g p s) n := by rw [← rowsG_eq]; rfl
  rw [e]
  exact ⟨grL_few _ hn hn, grL_gs _ hn n (Nat.le_refl _)⟩
theorem divF_len (n num used : Nat) (L : List Gr) (i : Nat) : ((L.take i).flatMap (divF n num used)).length ≤ L.length := by
  have h : ∀ l : List Gr, (l.flatMap (divF n num used)).length ≤ l.length := fun l => by
    induction l with
    | nil => exact Nat.le_refl _
    | cons g l ih =>
      rw [List.flatMap_cons, List.length_append, List.length_cons]
      have : (divF n num used g).length ≤ 1 := by unfold divF; split <;> simp
      omega
  exact Nat.le_trans (h _) (by rw [List.length_take]; omega)
set_option maxRecDepth 16000 in
set_option maxHeartbeats 4000000 in
theorem rdivisions_any {n num used : Nat} (hn : n ≤ 5) (_hnum : num ≤ 1000) (hused : used ≤ 1000) (w : World) :
    Calls Tryz.prog 107 #[.agg #[.int .i64 5, .int .i64 n, .int .i64 num], .int .i64 used] w fun e w' => ∃ v, e = .returned v ∧ Own stpC 8 w' w.heap.size 129 v (divsB ⟨5, n, num⟩ used) ∧ Ext w w' := by
  have HFULL := hide (fun W => rfulln_any hn W)
  have HEV := hide (fun W => revery_any (op := 5) (n := n) (.inl rfl) hn W)
  have HDV := hide (fun g (hg : GS n g) W => rdivided_any hn hg W)
  obtain ⟨w1, hw1⟩ : ∃ w1, w.alloc (.cells #[.int .i64 5, .int .i64 n, .int .i64 num] 101) = w1 := ⟨_, rfl⟩
  have HE0 : Hid (Ext w w1) := by show Ext _ _; rw [← hw1]; exact (Ext.refl w).alloc _
  have HR : Hid (w1.heap[w.heap.size]? = some (.cells #[.int .i64 5, .int .i64 n, .int .i64 num] 101 (0, 0))) := by show _ = _; rw [← hw1]; exact heap_alloc_new w _
  have HZ1 : Hid (w1.heap.size = w.heap.size + 1) := by show _ = _; rw [← hw1]; simp
  have HW := hide hw1
  clear hw1
  obtain ⟨hlen, hgs⟩ := everyB_ok hn 5
  have HGS := hide hgs
  have HF := hide (fun i => divF_len n num used (everyB n 5) i)
  rw [divsB_eq]
  generalize everyB n 5 = L at HEV hlen HGS HF ⊢
  clear hgs
  obtain ⟨F, hF⟩ : ∃ F, divF n num used = F := ⟨_, rfl⟩
  have HFF := hide hF
  rw [hF] at HF ⊢
  clear hF
  obtain ⟨res, hres⟩ : ∃ res, L.flatMap F = res := ⟨_, rfl⟩
  rw [hres]
  have HRES := hide hres
  clear hres
  go_enter Tryz.func107, Tryz.ntmps107
  go_wp2_with fail
  rw [HW.out]
  refine (HEV.out _).mono ?_
  rintro e V0 ⟨v, rfl, hL, hE0⟩
  obtain ⟨lq, lc, rfl⟩ := hL.sl
  have HE1 := hide hE0
  have HL := hide hL
  have HV0 : Hid (w.heap.size + 1 ≤ V0.heap.size) := by show _ ≤ _; have := hE0.size; have := HZ1.out; omega
  have HLB := hide hlen
  clear hL hE0 hlen
  obtain ⟨nx, hnx⟩ : ∃ nx : Nat → List Stp17, nx = fun i => (L.take i).flatMap F := ⟨_, rfl⟩
  have HN0 : Hid (nx 0 = []) := by rw [hnx]; rfl
  have HNS : Hid (∀ i g, L[i]? = some g → nx (i + 1) = nx i ++ F g) := fun i g h => by rw [hnx]; show (L.take (i + 1)).flatMap F = (L.take i).flatMap F ++ F g; rw [List.take_add_one, h, Option.toList_some, List.flatMap_append]; simp
  have HNA : Hid (nx L.length = res) := by show _ = _; rw [← HRES.out, hnx]; show (L.take L.length).flatMap F = _; rw [List.take_length]
  have HNL : Hid (∀ i, (nx i).length ≤ L.length) := fun i => by rw [hnx]; exact HF.out i
  clear hnx HF
  generalize hln : L.length = ln at HL HLB HNA HNL ⊢
  have HLN := hide hln
  clear hln
  go_upto_region 4 with fail
  go_loopw [5, 7, 8, 9] (fun uo vi _ _ V => ∃ (i : Nat) (q : Option Addr) (c : Nat), i ≤ ln ∧ vi = .int .i64 i ∧ uo = .slice q (nx i).length c ∧ Hid (Ext V0 V) ∧ Hid (Own stpC 8 V V0.heap.size 129 uo (nx i))) (fun _ vi _ _ _ => ln - (intOf vi).toNat)
  case atStart => exact ⟨0, none, 0, Nat.zero_le _, rfl, by rw [HN0.out]; rfl, Ext.refl _, by rw [HN0.out]; exact Own.nil _ _ _ (fun _ => rfl)⟩
  case round =>
    obtain ⟨i, oq, oc, hi, rfl, rfl, HE, HO⟩ := hrel
    by_cases hlt : i < ln
    · obtain ⟨g, hg⟩ : ∃ g, L[i]? = some g := ⟨_, List.getElem?_eq_getElem (by rw [HLN.out]; exact hlt)⟩
      obtain ⟨gl, rfl⟩ : ∃ gl, lq = some ⟨gl, 0, none⟩ := own_addr HL.out (i := i) (by rw [HLN.out]; exact hlt)
      have HG := hide hg
      have hGSg := HGS.out g (List.mem_of_getElem? hg)
      have HDG0 := hide (fun W => HDV.out g hGSg W)
      have HN1a : Hid (nx (i + 1) = nx i ++ divF n num used g) := by show _ = _; rw [HNS.out i g hg, HFF.out]
      obtain ⟨r0, r1, rz⟩ := cells_rule (((HE1.out.trans HE.out).b.block _ (lt_of_heap HR.out)).trans HR.out)
      have r2 : wr.cell? ⟨w.heap.size, 2, none⟩ = some (.int .i64 num) := cells_at (((HE1.out.trans HE.out).b.block _ (lt_of_heap HR.out)).trans HR.out) 2
      obtain ⟨g0, g1, g2, g3, g4, g5, gz⟩ := own_gr (HL.out.ext HE.out) hg
      have hli : (i : Int) < (ln : Int) := by omega
      have HNLI := hide (HNL.out i)
      generalize hm : (nx i).length = m at HO HNLI ⊢
      have HM := hide hm
      have hlnb : ln ≤ 33554432 := HLB.out
      clear hg hm hGSg
      cases hdv : dividedB n g with
      | false =>
        have HDG : Hid (∀ W, Calls Tryz.prog 125 #[g.v] W fun e w' => e = .returned (.bool false) ∧ Ext W w') := by have := HDG0.out; rwa [hdv] at this
        have HN1 : Hid (nx (i + 1) = nx i) := by show _ = _; rw [HN1a.out]; unfold divF; rw [if_pos (by rw [hdv]; rfl), List.append_nil]
        clear hdv HDG0
        go_upto_region 6 with fail
        refine wp_region_ext (by kernel_rfl) (by kernel_rfl) ?_
        repeat (go_big_quiet_step ((go_at_call 110; exact Calls.ext_same (HFULL.out _))))
        refine wpQuiet_nil ?_
        rintro w9 ⟨⟨_, hE9⟩, rfl⟩
        have HE9 := hide (HE.out.trans hE9)
        have HO9 := hide (HO.out.ext hE9)
        clear hE9 r0 r1 r2 rz g0 g1 g2 g3 g4 g5 gz
        obtain ⟨r0, r1, rz⟩ := cells_rule ((((HE1.out.trans HE9.out)).b.block _ (lt_of_heap HR.out)).trans HR.out)
        have r2 : w9.cell? ⟨w.heap.size, 2, none⟩ = some (.int .i64 num) := cells_at (((HE1.out.trans HE9.out).b.block _ (lt_of_heap HR.out)).trans HR.out) 2
        obtain ⟨g0, g1, g2, g3, g4, g5, gz⟩ := own_gr (HL.out.ext HE9.out) HG.out
        go_upto_region 7 with fail
        go_wp2_with (go_at_call 125; refine (HDG.out _).mono ?_; rintro e w2 ⟨rfl, hE2⟩; have HE2 := hide (HE9.out.trans hE2); have HO2 := hide (HO9.out.ext hE2); clear hE2 r0 r1 r2 rz g0 g1 g2 g3 g4 g5 gz; obtain ⟨r0, r1, rz⟩ := cells_rule (((HE1.out.trans HE2.out).b.block _ (lt_of_heap HR.out)).trans HR.out); have r2 : w2.cell? ⟨w.heap.size, 2, none⟩ = some (.int .i64 num) := cells_at (((HE1.out.trans HE2.out).b.block _ (lt_of_heap HR.out)).trans HR.out) 2; obtain ⟨g0, g1, g2, g3, g4, g5, gz⟩ := own_gr (HL.out.ext HE2.out) HG.out)
        go_roundw
        case rel => first
          | exact ⟨i + 1, oq, oc, by omega, by go_num, by rw [HN1.out, HM.out], HE2, by rw [HN1.out]; exact HO2.out⟩
          | ((repeat apply Exists.intro); exact ⟨⟨i + 1, oq, oc, by omega, by go_num, by rw [HN1.out, HM.out], HE2, by rw [HN1.out]; exact HO2.out⟩, rfl⟩)
        case measure => simp [intOf]; omega
      | true =>
        have HDG : Hid (∀ W, Calls Tryz.prog 125 #[g.v] W fun e w' => e = .returned (.bool true) ∧ Ext W w') := by have := HDG0.out; rwa [hdv] at this
        have HDVT := hide hdv
        clear hdv HDG0
        by_cases hc : g.h0 = ((fullN n : Nat) : Int)
        · have HN1 : Hid (nx (i + 1) = nx i ++ [((⟨g, 0⟩ : Rd), used)]) := by
            show _ = _
            have e : (g.h 0 == ((fullN n : Nat) : Int)) = true := by rw [show g.h 0 = g.h0 from rfl, hc]; simp
            rw [HN1a.out]; unfold divF; rw [if_neg (by rw [HDVT.out, e]; simp), if_pos e]
          have hd : (g.h0 == ((fullN n : Nat) : Int)) = true := by rw [hc]; simp
          clear hc
          generalize ((fullN n : Nat) : Int) = fln at hd HFULL
          go_upto_region 6 with fail
          refine wp_region_ext (by kernel_rfl) (by kernel_rfl) ?_
          repeat (go_big_quiet_step ((go_at_call 110; exact Calls.ext_same (HFULL.out _))))
          refine wpQuiet_nil ?_
          rintro w9 ⟨⟨_, hE9⟩, rfl⟩
          have HE9 := hide (HE.out.trans hE9)
          have HO9 := hide (HO.out.ext hE9)
          clear hE9 r0 r1 r2 rz g0 g1 g2 g3 g4 g5 gz
          obtain ⟨r0, r1, rz⟩ := cells_rule ((((HE1.out.trans HE9.out)).b.block _ (lt_of_heap HR.out)).trans HR.out)
          have r2 : w9.cell? ⟨w.heap.size, 2, none⟩ = some (.int .i64 num) := cells_at (((HE1.out.trans HE9.out).b.block _ (lt_of_heap HR.out)).trans HR.out) 2
          obtain ⟨g0, g1, g2, g3, g4, g5, gz⟩ := own_gr (HL.out.ext HE9.out) HG.out
          go_upto_region 7 with fail
          go_upto_region 11 with (go_at_call 125; refine (HDG.out _).mono ?_; rintro e w2 ⟨rfl, hE2⟩; have HE2 := hide (HE9.out.trans hE2); have HO2 := hide (HO9.out.ext hE2); clear hE2 r0 r1 r2 rz g0 g1 g2 g3 g4 g5 gz; obtain ⟨r0, r1, rz⟩ := cells_rule (((HE1.out.trans HE2.out).b.block _ (lt_of_heap HR.out)).trans HR.out); have r2 : w2.cell? ⟨w.heap.size, 2, none⟩ = some (.int .i64 num) := cells_at (((HE1.out.trans HE2.out).b.block _ (lt_of_heap HR.out)).trans HR.out) 2; obtain ⟨g0, g1, g2, g3, g4, g5, gz⟩ := own_gr (HL.out.ext HE2.out) HG.out)
          have HNEW : Hid (∀ t u, (stpC ((⟨g, 0⟩, used) : Stp17))[t]? = some u → (w2.alloc (.cells #[.int .i64 g.n, .int .i64 g.h0, .int .i64 g.h1, .int .i64 g.h2, .int .i64 g.h3, .int .i64 g.h4, .int .i64 0, .int .i64 used] 129)).cell? ⟨w2.heap.size, t, none⟩ = some u) := by
            have h := edge_new w2 ((⟨g, 0⟩, used) : Stp17)
            exact h
          go_wp2_with (at_builtin; refine wpList_append1 rfl (.tmp 50) (.tmp 58) 125 rfl V0.heap.size 129 (stpV default) 8 64 Tryz.underlying125 edge_info17 rfl (by decide) _ (nx i) ((⟨g, 0⟩, used) : Stp17) w2.heap.size rfl (HO2.out.alloc _) rfl HNEW.out (stp_one17 _) (by have h1 := HNLI.out; rw [HM.out]; omega) (by decide) (by simp only [World.size_alloc]; have := HE2.out.size; omega) ?_; intro v' W6 hown' hg6 hf6; rw [HM.out] at hf6; obtain ⟨g6, c6, rfl, hgf6⟩ := hf6; have HOW := hide hown'; have HGW := hide hg6; clear hown' hg6 hgf6 g0 g1 g2 g3 g4 g5 gz r0 r1 r2 rz)
          have HE6 : Hid (Ext V0 W6) := (HE2.out.alloc _).grown HGW.out (fun k hk => HO2.out.block_ge k hk)
          have HLE : Hid (m + 1 = (nx (i + 1)).length) := by
            show _ = _
            rw [HN1.out, ← HM.out]; simp
          have HOW6 : Hid (Own stpC 8 W6 V0.heap.size 129 (.slice (some ⟨g6, 0, none⟩) (m + 1) c6) (nx (i + 1))) := by show Own _ _ _ _ _ _ _; rw [HN1.out]; exact HOW.out
          go_roundw
          case rel => first
            | exact ⟨i + 1, some ⟨g6, 0, none⟩, c6, by omega, by go_num, by rw [← HLE.out], HE6, HOW6.out⟩
            | ((repeat apply Exists.intro); exact ⟨⟨i + 1, some ⟨g6, 0, none⟩, c6, by omega, by go_num, by rw [← HLE.out], HE6, HOW6.out⟩, rfl⟩)
          case measure => simp [intOf]; omega
        · have hd : (g.h0 == ((fullN n : Nat) : Int)) = false := by rw [beq_eq_false_iff_ne]; exact hc
          have e : (g.h 0 == ((fullN n : Nat) : Int)) = false := hd
          by_cases hu : used = num
          · have HN1 : Hid (nx (i + 1) = nx i) := by show _ = _; rw [HN1a.out]; unfold divF; rw [if_pos (by rw [HDVT.out, e, hu]; simp), List.append_nil]
            have hd4 : ((used : Int) == (num : Int)) = true := by rw [hu]; simp
            have hd5 : (used == num) = true := by rw [hu]; simp
            clear hc e hu
            generalize ((fullN n : Nat) : Int) = fln at hd HFULL
            go_upto_region 6 with fail
            refine wp_region_ext (by kernel_rfl) (by kernel_rfl) ?_
            repeat (go_big_quiet_step ((go_at_call 110; exact Calls.ext_same (HFULL.out _))))
            refine wpQuiet_nil ?_
            rintro w9 ⟨⟨_, hE9⟩, rfl⟩
            have HE9 := hide (HE.out.trans hE9)
            have HO9 := hide (HO.out.ext hE9)
            clear hE9 r0 r1 r2 rz g0 g1 g2 g3 g4 g5 gz
            obtain ⟨r0, r1, rz⟩ := cells_rule ((((HE1.out.trans HE9.out)).b.block _ (lt_of_heap HR.out)).trans HR.out)
            have r2 : w9.cell? ⟨w.heap.size, 2, none⟩ = some (.int .i64 num) := cells_at (((HE1.out.trans HE9.out).b.block _ (lt_of_heap HR.out)).trans HR.out) 2
            obtain ⟨g0, g1, g2, g3, g4, g5, gz⟩ := own_gr (HL.out.ext HE9.out) HG.out
            go_upto_region 7 with fail
            go_wp2_with (go_at_call 125; refine (HDG.out _).mono ?_; rintro e w2 ⟨rfl, hE2⟩; have HE2 := hide (HE9.out.trans hE2); have HO2 := hide (HO9.out.ext hE2); clear hE2 r0 r1 r2 rz g0 g1 g2 g3 g4 g5 gz; obtain ⟨r0, r1, rz⟩ := cells_rule (((HE1.out.trans HE2.out).b.block _ (lt_of_heap HR.out)).trans HR.out); have r2 : w2.cell? ⟨w.heap.size, 2, none⟩ = some (.int .i64 num) := cells_at (((HE1.out.trans HE2.out).b.block _ (lt_of_heap HR.out)).trans HR.out) 2; obtain ⟨g0, g1, g2, g3, g4, g5, gz⟩ := own_gr (HL.out.ext HE2.out) HG.out)
            go_roundw
            case rel => first
              | exact ⟨i + 1, oq, oc, by omega, by go_num, by rw [HN1.out, HM.out], HE2, by rw [HN1.out]; exact HO2.out⟩
              | ((repeat apply Exists.intro); exact ⟨⟨i + 1, oq, oc, by omega, by go_num, by rw [HN1.out, HM.out], HE2, by rw [HN1.out]; exact HO2.out⟩, rfl⟩)
            case measure => simp [intOf]; omega
          · have HN1 : Hid (nx (i + 1) = nx i ++ [((⟨g, 0⟩ : Rd), used + 1)]) := by
              show _ = _
              have hu2 : (used == num) = false := by rw [beq_eq_false_iff_ne]; exact hu
              rw [HN1a.out]; unfold divF; rw [if_neg (by rw [HDVT.out, e, hu2]; simp), if_neg (by rw [e]; simp)]
            have hd4 : ((used : Int) == (num : Int)) = false := by rw [beq_eq_false_iff_ne]; omega
            have hd5 : (used == num) = false := by rw [beq_eq_false_iff_ne]; exact hu
            clear hc e hu
            generalize ((fullN n : Nat) : Int) = fln at hd HFULL
            go_upto_region 6 with fail
            refine wp_region_ext (by kernel_rfl) (by kernel_rfl) ?_
            repeat (go_big_quiet_step ((go_at_call 110; exact Calls.ext_same (HFULL.out _))))
            refine wpQuiet_nil ?_
            rintro w9 ⟨⟨_, hE9⟩, rfl⟩
            have HE9 := hide (HE.out.trans hE9)
            have HO9 := hide (HO.out.ext hE9)
            clear hE9 r0 r1 r2 rz g0 g1 g2 g3 g4 g5 gz
            obtain ⟨r0, r1, rz⟩ := cells_rule ((((HE1.out.trans HE9.out)).b.block _ (lt_of_heap HR.out)).trans HR.out)
            have r2 : w9.cell? ⟨w.heap.size, 2, none⟩ = some (.int .i64 num) := cells_at (((HE1.out.trans HE9.out).b.block _ (lt_of_heap HR.out)).trans HR.out) 2
            obtain ⟨g0, g1, g2, g3, g4, g5, gz⟩ := own_gr (HL.out.ext HE9.out) HG.out
            go_upto_region 7 with fail
            go_upto_region 11 with (go_at_call 125; refine (HDG.out _).mono ?_; rintro e w2 ⟨rfl, hE2⟩; have HE2 := hide (HE9.out.trans hE2); have HO2 := hide (HO9.out.ext hE2); clear hE2 r0 r1 r2 rz g0 g1 g2 g3 g4 g5 gz; obtain ⟨r0, r1, rz⟩ := cells_rule (((HE1.out.trans HE2.out).b.block _ (lt_of_heap HR.out)).trans HR.out); have r2 : w2.cell? ⟨w.heap.size, 2, none⟩ = some (.int .i64 num) := cells_at (((HE1.out.trans HE2.out).b.block _ (lt_of_heap HR.out)).trans HR.out) 2; obtain ⟨g0, g1, g2, g3, g4, g5, gz⟩ := own_gr (HL.out.ext HE2.out) HG.out)
            have HNEW : Hid (∀ t u, (stpC ((⟨g, 0⟩, used + 1) : Stp17))[t]? = some u → (w2.alloc (.cells #[.int .i64 g.n, .int .i64 g.h0, .int .i64 g.h1, .int .i64 g.h2, .int .i64 g.h3, .int .i64 g.h4, .int .i64 0, .int .i64 ((used : Int) + 1)] 129)).cell? ⟨w2.heap.size, t, none⟩ = some u) := by
              have h := edge_new w2 ((⟨g, 0⟩, used + 1) : Stp17)
              rw [show (((((⟨g, 0⟩, used + 1) : Stp17)).2 : Nat) : Int) = (used : Int) + 1 from by show ((used + 1 : Nat) : Int) = _; omega] at h
              exact h
            go_wp2_with (at_builtin; refine wpList_append1 rfl (.tmp 50) (.tmp 58) 125 rfl V0.heap.size 129 (stpV default) 8 64 Tryz.underlying125 edge_info17 rfl (by decide) _ (nx i) ((⟨g, 0⟩, used + 1) : Stp17) w2.heap.size rfl (HO2.out.alloc _) rfl HNEW.out (stp_one17 _) (by have h1 := HNLI.out; rw [HM.out]; omega) (by decide) (by simp only [World.size_alloc]; have := HE2.out.size; omega) ?_; intro v' W6 hown' hg6 hf6; rw [HM.out] at hf6; obtain ⟨g6, c6, rfl, hgf6⟩ := hf6; have HOW := hide hown'; have HGW := hide hg6; clear hown' hg6 hgf6 g0 g1 g2 g3 g4 g5 gz r0 r1 r2 rz)
            have HE6 : Hid (Ext V0 W6) := (HE2.out.alloc _).grown HGW.out (fun k hk => HO2.out.block_ge k hk)
            have HLE : Hid (m + 1 = (nx (i + 1)).length) := by
              show _ = _
              rw [HN1.out, ← HM.out]; simp
            have HOW6 : Hid (Own stpC 8 W6 V0.heap.size 129 (.slice (some ⟨g6, 0, none⟩) (m + 1) c6) (nx (i + 1))) := by show Own _ _ _ _ _ _ _; rw [HN1.out]; exact HOW.out
            go_roundw
            case rel => first
              | exact ⟨i + 1, some ⟨g6, 0, none⟩, c6, by omega, by go_num, by rw [← HLE.out], HE6, HOW6.out⟩
              | ((repeat apply Exists.intro); exact ⟨⟨i + 1, some ⟨g6, 0, none⟩, c6, by omega, by go_num, by rw [← HLE.out], HE6, HOW6.out⟩, rfl⟩)
            case measure => simp [intOf]; omega
    · have hil : i = ln := by omega
      subst hil
      have HFIN : Hid (Own stpC 8 wr w.heap.size 129 (.slice oq (nx i).length oc) res) := by show Own _ _ _ _ _ _ _; rw [← HNA.out]; exact HO.out.mono (by have := HV0.out; omega)
      have HEE := hide (HE0.out.trans (HE1.out.trans HE.out))
      generalize (nx i).length = m at HFIN ⊢
      go_wp2_with fail
      go_ret
      exact ⟨.slice oq m oc, rfl, HFIN.out, HEE.out⟩
end Go.Proofs.YtdlhnpogddpmpaaGreat
