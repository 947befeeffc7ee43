/-
  The reference's layer 17: edges of a rule for faulty processes.
  Conditions: at most five processes; sets of them.
-/
import Derived.Test.YtdlhnpogddpmpaaGreatFailRA
namespace Go.Proofs.YtdlhnpogddpmpaaGreat
open Go.RowKit
attribute [local go_sem] Oper.semAt_some

theorem inside_table : ((List.range 32).all fun a => (List.range 32).all fun b => decide (inside ((a : Nat) : Int) ((b : Nat) : Int) = (a &&& b == a))) = true := by decide +kernel
theorem inside_nat {a b : Nat} (ha : a < 32) (hb : b < 32) : inside (a : Int) (b : Int) = (a &&& b == a) := by
  have h := inside_table
  rw [List.all_eq_true] at h
  have h := h a (List.mem_range.2 ha)
  rw [List.all_eq_true] at h
  exact of_decide_eq_true (h b (List.mem_range.2 hb))
theorem rinsd_any {a b : Nat} (ha : a < 32) (hb : b < 32) (w : World) : Calls Tryz.prog 68 #[.int .i64 a, .int .i64 b] w fun e w' => e = .returned (.bool (a &&& b == a)) ∧ w' = w := by
  have h := rinside_any (a : Int) (b : Int) w (by omega) (by omega) (by omega) (by omega)
  rwa [inside_nat ha hb] at h
theorem edge_info17 : (Tryz.prog.info? 129).map (fun i => (i.zero, i.size, i.bytes)) = some (some (stpV default), 8, 64) := by kernel_rfl
theorem stp_one17 (s : Stp17) : ∀ u ∈ stpC s, u.oneCell' = true := by
  intro u hu
  simp only [stpC, List.mem_cons, List.not_mem_nil, or_false] at hu
  rcases hu with rfl | rfl | rfl | rfl | rfl | rfl | rfl | rfl <;> rfl
theorem edge_new (W : World) (s : Stp17) : ∀ j u, (stpC s)[j]? = some u → (W.alloc (.cells #[.int .i64 s.1.g.n, .int .i64 s.1.g.h0, .int .i64 s.1.g.h1, .int .i64 s.1.g.h2, .int .i64 s.1.g.h3, .int .i64 s.1.g.h4, .int .i64 s.1.f, .int .i64 (s.2 : Nat)] 129)).cell? ⟨W.heap.size, j, none⟩ = some u := fun j u h => by
  rw [cell_of_row _ _ _ _ _ _ (heap_alloc_new W _), ← h, ← List.getElem?_toArray]; rfl
/-- The graphs' blocks are as they were. -/
def KGr (W W' : World) : Prop := ∀ (k : Nat) (cs : Array Value) (fr : Nat × Nat), W.heap[k]? = some (.cells cs 37 fr) → W'.heap[k]? = some (.cells cs 37 fr)
theorem KGr.refl (W : World) : KGr W W := fun _ _ _ h => h
theorem KGr.trans {W W' W'' : World} (h : KGr W W') (k : KGr W' W'') : KGr W W'' := fun b cs fr hb => k b cs fr (h b cs fr hb)
theorem KGr.of_ext {W W' : World} (h : Ext W W') : KGr W W' := fun b _cs _fr hb => (h.b.block b (lt_of_heap hb)).trans hb
theorem KGr.grown {α : Type} {enc : α → List Value} {size base : Nat} {W W' : World} {v : Value} {l : List α} {e : TypeId} (ho : Own enc size W base e v l) (he : e ≠ 37) (hg : W.grownBy W' v.ownBlock) : KGr W W' := fun b cs fr hb => by
  refine (hg.block b (lt_of_heap hb) fun h => ?_).trans hb
  obtain ⟨cs2, fr2, hh⟩ := ho.typed b h.symm
  rw [hh] at hb
  injection hb with hb
  injection hb with _ hb
  exact he hb
theorem KGr.own {W W' : World} {base : Nat} {v : Value} {l : List Gr} (h : KGr W W') (ho : Own Gr.cells 6 W base 37 v l) : Own Gr.cells 6 W' base 37 v l :=
  ho.of_block fun k hk => by
    obtain ⟨cs, fr, hh⟩ := ho.typed k hk
    rw [h k cs fr hh, hh]
def mkS (o : Nat) (g : Gr) : Stp17 := (⟨g, (o : Nat)⟩, o)
def fltF (r : Rul) (b o : Nat) : List Stp17 := if (b &&& o == b) && decide (sizeN o ≤ r.num) then (graphsB r b o).map (mkS o) else []
theorem faultsB_eq (r : Rul) (b : Nat) : faultsB r b = (List.range (2 ^ r.n)).flatMap (fltF r b) := rfl
theorem graphsB_few {r : Rul} {b o : Nat} (hn : r.n ≤ 5) : (graphsB r b o).length ≤ 33554432 :=
  Nat.le_trans (List.length_filter_le _ _) (by rw [rowsG_eq]; exact grL_few _ hn hn)
theorem flt_len {r : Rul} {b : Nat} (hn : r.n ≤ 5) : ∀ k, ((List.range k).flatMap (fltF r b)).length ≤ k * 33554432
  | 0 => by simp
  | k + 1 => by
    rw [List.range_succ, List.flatMap_append, List.length_append, Nat.succ_mul]
    have h1 := flt_len (r := r) (b := b) hn k
    have h2 : (fltF r b k).length ≤ 33554432 := by
      unfold fltF
      split
      · rw [List.length_map]; exact graphsB_few hn
      · simp
    simp only [List.flatMap_cons, List.flatMap_nil, List.append_nil]
    omega
set_option maxRecDepth 16000 in
set_option maxHeartbeats 4000000 in
theorem rfaults_any {op n num b : Nat} (hop : 1 ≤ op ∧ op ≤ 4) (hn : n ≤ 5) (hb : b < 32) (_hnum : num ≤ 1000) (w : World) :
    Calls Tryz.prog 108 #[.agg #[.int .i64 op, .int .i64 n, .int .i64 num], .int .i64 b] w fun e w' => ∃ v, e = .returned v ∧ Own stpC 8 w' w.heap.size 129 v (faultsB ⟨op, n, num⟩ b) ∧ Ext w w' := by
  have HFULL := hide (fun W => rfulln_any hn W)
  have HIN := hide (fun o (ho : o < 32) W => rinsd_any hb ho W)
  have HSZ := hide (fun o (ho : o < 32) W => rsize17_any (s := o) ho W)
  have HGR := hide (fun o (ho : o < 32) W => rgraphs_any (num := num) hop hn hb ho W)
  obtain ⟨w1, hw1⟩ : ∃ w1, w.alloc (.cells #[.int .i64 op, .int .i64 n, .int .i64 num] 101) = w1 := ⟨_, rfl⟩
  have HE0 : Hid (Ext w w1) := by show Ext _ _; rw [← hw1]; exact (Ext.refl w).alloc _
  have HR : Hid (w1.heap[w.heap.size]? = some (.cells #[.int .i64 op, .int .i64 n, .int .i64 num] 101 (0, 0))) := by show _ = _; rw [← hw1]; exact heap_alloc_new w _
  have HZ1 : Hid (w1.heap.size = w.heap.size + 1) := by show _ = _; rw [← hw1]; simp
  have HW := hide hw1
  clear hw1
  obtain ⟨fa, hfa⟩ : ∃ fa : Nat → List Stp17, fa = fun k => (List.range k).flatMap (fltF ⟨op, n, num⟩ b) := ⟨_, rfl⟩
  have HF0 : Hid (fa 0 = []) := by rw [hfa]; rfl
  have HFS : Hid (∀ o, fa (o + 1) = fa o ++ fltF ⟨op, n, num⟩ b o) := fun o => by rw [hfa]; show (List.range (o + 1)).flatMap _ = (List.range o).flatMap _ ++ _; rw [List.range_succ, List.flatMap_append]; simp
  have HFL : Hid (∀ o, (fa o).length ≤ o * 33554432) := fun o => by rw [hfa]; exact flt_len hn o
  have HFA : Hid (fa (2 ^ n) = faultsB ⟨op, n, num⟩ b) := by rw [hfa]; rfl
  have hpow := pow32_le hn
  have HFN : Hid (fullN n + 1 = 2 ^ n) := by show fullN n + 1 = _; have := Nat.two_pow_pos n; unfold fullN; omega
  generalize hN2 : 2 ^ n = N2 at HFN hpow HFA
  clear hN2 hfa
  obtain ⟨res, hres⟩ : ∃ res, faultsB ⟨op, n, num⟩ b = res := ⟨_, rfl⟩
  rw [hres] at HFA
  rw [hres]
  clear hres
  go_enter Tryz.func108, Tryz.ntmps108
  go_wp2_with fail
  rw [HW.out]
  clear hb
  go_loopw [5, 6] (fun uo vo V => ∃ (o : Nat) (q : Option Addr) (c : Nat), o ≤ N2 ∧ vo = .int .i64 o ∧ uo = .slice q (fa o).length c ∧ Hid (Ext w1 V) ∧ Hid (Own stpC 8 V w1.heap.size 129 uo (fa o))) (fun _ vo _ => N2 - (intOf vo).toNat)
  case atStart => exact ⟨0, none, 0, Nat.zero_le _, rfl, by rw [HF0.out]; rfl, Ext.refl _, by rw [HF0.out]; exact Own.nil _ _ _ (fun _ => rfl)⟩
  case round =>
    obtain ⟨o, oq, oc, ho, rfl, rfl, HE, HO⟩ := hrel
    have hRB := (HE.out.b.block _ (lt_of_heap HR.out)).trans HR.out
    obtain ⟨r0, r1, rz⟩ := cells_rule hRB
    have r2 : wr.cell? ⟨w.heap.size, 2, none⟩ = some (.int .i64 num) := cells_at hRB 2
    have hfn := HFN.out
    generalize hm : (fa o).length = m at HO ⊢
    have HM := hide hm
    clear hm hRB
    by_cases hlt : o < N2
    · have hd : decide ((o : Int) ≤ ((fullN n : Nat) : Int)) = true := decide_eq_true (by omega)
      have hd2 : decide (o ≤ fullN n) = true := decide_eq_true (by omega)
      have HI := hide (fun W => HIN.out o (by omega) W)
      have HS := hide (fun W => HSZ.out o (by omega) W)
      clear hfn
      go_upto_region 5 with (go_at_call 110; refine (HFULL.out _).mono ?_; rintro e w' ⟨rfl, rfl⟩)
      cases hio : (b &&& o == b) with
      | false =>
        have HF1 : Hid (fa (o + 1) = fa o) := by show _ = _; rw [HFS.out, fltF, hio]; simp
        rw [hio] at HI
        clear hio
        refine wp_region_ext (by kernel_rfl) (by kernel_rfl) ?_
        repeat (go_big_quiet_step (first | (go_at_call 68; exact Calls.ext_same (HI.out _)) | (go_at_call 126; exact Calls.ext_of (HS.out _))))
        refine wpQuiet_nil ?_
        rintro w9 ⟨⟨_, hE9⟩, rfl⟩
        have HE9 := hide (HE.out.trans hE9)
        have HO9 := hide (HO.out.ext hE9)
        clear hE9 r0 r1 r2 rz
        go_wp2_with fail
        go_roundw
        case rel => first
          | exact ⟨o + 1, oq, oc, by omega, by go_num, by rw [HF1.out, HM.out], HE9, by rw [HF1.out]; exact HO9.out⟩
          | ((repeat apply Exists.intro); exact ⟨⟨o + 1, oq, oc, by omega, by go_num, by rw [HF1.out, HM.out], HE9, by rw [HF1.out]; exact HO9.out⟩, rfl⟩)
        case measure => simp [intOf]; omega
      | true =>
        rw [hio] at HI
        by_cases hsz : num < sizeN o
        · have hd3 : decide ((num : Int) < ((sizeN o : Nat) : Int)) = true := decide_eq_true (by omega)
          have hd4 : decide (num < sizeN o) = true := decide_eq_true hsz
          have HF1 : Hid (fa (o + 1) = fa o) := by show _ = _; rw [HFS.out, fltF, if_neg (by simp; omega)]; simp
          clear hio hsz
          refine wp_region_ext (by kernel_rfl) (by kernel_rfl) ?_
          repeat (go_big_quiet_step (first | (go_at_call 68; exact Calls.ext_same (HI.out _)) | (go_at_call 126; exact Calls.ext_of (HS.out _))))
          refine wpQuiet_nil ?_
          rintro w9 ⟨⟨_, hE9⟩, rfl⟩
          have HE9 := hide (HE.out.trans hE9)
          have HO9 := hide (HO.out.ext hE9)
          clear hE9 r0 r1 r2 rz
          go_wp2_with fail
          go_roundw
          case rel => first
            | exact ⟨o + 1, oq, oc, by omega, by go_num, by rw [HF1.out, HM.out], HE9, by rw [HF1.out]; exact HO9.out⟩
            | ((repeat apply Exists.intro); exact ⟨⟨o + 1, oq, oc, by omega, by go_num, by rw [HF1.out, HM.out], HE9, by rw [HF1.out]; exact HO9.out⟩, rfl⟩)
          case measure => simp [intOf]; omega
        · have hd3 : decide ((num : Int) < ((sizeN o : Nat) : Int)) = false := decide_eq_false (by omega)
          have hd4 : decide (num < sizeN o) = false := decide_eq_false hsz
          have HF1 : Hid (fa (o + 1) = fa o ++ (graphsB ⟨op, n, num⟩ b o).map (mkS o)) := by show _ = _; rw [HFS.out, fltF, if_pos (by simp at hio; simp [hio]; omega)]
          clear hio hsz
          refine wp_region_ext (by kernel_rfl) (by kernel_rfl) ?_
          repeat (go_big_quiet_step (first | (go_at_call 68; exact Calls.ext_same (HI.out _)) | (go_at_call 126; exact Calls.ext_of (HS.out _))))
          refine wpQuiet_nil ?_
          rintro w9 ⟨⟨_, hE9⟩, rfl⟩
          have HE9 := hide (HE.out.trans hE9)
          have HO9 := hide (HO.out.ext hE9)
          clear hE9 r0 r1 r2 rz
          have hRB := (HE9.out.b.block _ (lt_of_heap HR.out)).trans HR.out
          obtain ⟨r0, r1, rz⟩ := cells_rule hRB
          have r2 : w9.cell? ⟨w.heap.size, 2, none⟩ = some (.int .i64 num) := cells_at hRB 2
          clear hRB
          go_wp2_with fail
          refine (HGR.out o (by omega) _).mono ?_
          rintro e V0 ⟨v, rfl, hL, hE0⟩
          obtain ⟨lq, lc, rfl⟩ := hL.sl
          have HE1 := hide (HE9.out.trans hE0)
          have HO1 := hide (HO9.out.ext hE0)
          have HL := hide hL
          obtain ⟨L, hLL⟩ : ∃ L, graphsB ⟨op, n, num⟩ b o = L := ⟨_, rfl⟩
          have HLB : Hid (L.length ≤ 33554432) := by show _ ≤ _; rw [← hLL]; exact graphsB_few hn
          rw [hLL] at HL HF1 ⊢
          have HOL : Hid (m ≤ 32 * 33554432) := by
            show _ ≤ _
            rw [← HM.out]
            exact Nat.le_trans (HFL.out o) (Nat.mul_le_mul_right _ (by omega))
          have HMS : Hid (∀ s : Stp17, mkS o s.1.g = mkS o s.1.g) := fun _ => rfl
          clear hLL hL hE0 r0 r1 r2 rz HMS
          generalize hln : L.length = ln at HL HLB ⊢
          have HLN := hide hln
          clear hln
          go_upto_region 8 with fail
          go_loopw [5, 8] (fun uo vi V => ∃ (i : Nat) (q : Option Addr) (c : Nat), i ≤ ln ∧ vi = .int .i64 i ∧ uo = .slice q (m + i) c ∧ Hid (Ext w1 V) ∧ Hid (KGr V0 V) ∧ Hid (Own stpC 8 V w1.heap.size 129 uo (fa o ++ (L.take i).map (mkS o)))) (fun _ vi _ => ln - (intOf vi).toNat)
          case atStart => exact ⟨0, oq, oc, Nat.zero_le _, rfl, rfl, HE1.out, KGr.refl _, by show Own _ _ _ _ _ _ _; simpa using HO1.out⟩
          case round =>
            clear HE9 HO9 HO1 HE1
            obtain ⟨i, nq, nc, hi, rfl, rfl, HE2, HK2, HO2⟩ := hrel
            by_cases hlti : i < ln
            · obtain ⟨g, hg⟩ : ∃ g, L[i]? = some g := ⟨_, List.getElem?_eq_getElem (by rw [HLN.out]; exact hlti)⟩
              obtain ⟨gl, rfl⟩ : ∃ gl, lq = some ⟨gl, 0, none⟩ := own_addr HL.out (i := i) (by rw [HLN.out]; exact hlti)
              obtain ⟨g0, g1, g2, g3, g4, g5, gz⟩ := own_gr (HK2.out.own HL.out) hg
              have hli : (i : Int) < (ln : Int) := by omega
              have HT : Hid ((fa o ++ (L.take (i + 1)).map (mkS o)) = (fa o ++ (L.take i).map (mkS o)) ++ [mkS o g]) := by show _ = _; rw [List.take_add_one, hg, Option.toList_some, List.map_append, List.append_assoc]; rfl
              have HLE : Hid ((fa o ++ (L.take i).map (mkS o)).length = m + i) := by show _ = _; rw [List.length_append, HM.out, List.length_map, List.length_take, HLN.out]; omega
              have hlb : ln ≤ 33554432 := HLB.out
              have hmb : m ≤ 32 * 33554432 := HOL.out
              have HNEW : Hid (∀ t u, (stpC (mkS o g))[t]? = some u → (wr.alloc (.cells #[.int .i64 g.n, .int .i64 g.h0, .int .i64 g.h1, .int .i64 g.h2, .int .i64 g.h3, .int .i64 g.h4, .int .i64 (o : Nat), .int .i64 (o : Nat)] 129)).cell? ⟨wr.heap.size, t, none⟩ = some u) := edge_new wr (mkS o g)
              clear hg
              go_wp2_with (at_builtin; refine wpList_append1 rfl (.tmp 37) (.tmp 46) 125 rfl w1.heap.size 129 (stpV default) 8 64 Tryz.underlying125 edge_info17 rfl (by decide) _ (fa o ++ (L.take i).map (mkS o)) (mkS o g) wr.heap.size rfl (HO2.out.alloc _) rfl HNEW.out (stp_one17 _) (by rw [HLE.out]; omega) (by decide) (by simp only [World.size_alloc]; have := HE2.out.size; omega) ?_; intro v' W6 hown' hg6 hf6; rw [HLE.out] at hf6; obtain ⟨g6, c6, rfl, hgf6⟩ := hf6; have HOW := hide hown'; have HGW := hide hg6; clear hown' hg6 hgf6 g0 g1 g2 g3 g4 g5 gz)
              have HE6 : Hid (Ext w1 W6) := (HE2.out.alloc _).grown HGW.out (fun k hk => HO2.out.block_ge k hk)
              have HK6 : Hid (KGr V0 W6) := HK2.out.trans ((KGr.of_ext ((Ext.refl wr).alloc _)).trans (KGr.grown (HO2.out.alloc _) (by decide) HGW.out))
              have HO6 : Hid (Own stpC 8 W6 w1.heap.size 129 (.slice (some ⟨g6, 0, none⟩) (m + (i + 1)) c6) (fa o ++ (L.take (i + 1)).map (mkS o))) := by show Own _ _ _ _ _ _ _; rw [HT.out]; exact HOW.out
              go_roundw
              case rel => first
                | exact ⟨i + 1, some ⟨g6, 0, none⟩, c6, by omega, by go_num, rfl, HE6, HK6, HO6.out⟩
                | ((repeat apply Exists.intro); exact ⟨⟨i + 1, some ⟨g6, 0, none⟩, c6, by omega, by go_num, rfl, HE6, HK6, HO6.out⟩, rfl⟩)
              case measure => simp [intOf]; omega
            · have hil : i = ln := by omega
              subst hil
              have HLA : Hid ((fa (o + 1)).length = m + i) := by show _ = _; rw [HF1.out, List.length_append, HM.out, List.length_map, HLN.out]
              have HO6 : Hid (Own stpC 8 wr w1.heap.size 129 (.slice nq (m + i) nc) (fa (o + 1))) := by show Own _ _ _ _ _ _ _; rw [HF1.out]; have := HO2.out; rwa [List.take_of_length_le (by rw [HLN.out]; exact Nat.le_refl _)] at this
              go_wp2_with fail
              go_roundw
              case rel => first
                | exact ⟨o + 1, nq, nc, by omega, by go_num, by rw [HLA.out], HE2, HO6.out⟩
                | ((repeat apply Exists.intro); exact ⟨⟨o + 1, nq, nc, by omega, by go_num, by rw [HLA.out], HE2, HO6.out⟩, rfl⟩)
              case measure => simp [intOf]; omega
    · have hon : o = N2 := by omega
      subst hon
      have hd : decide ((o : Int) ≤ ((fullN n : Nat) : Int)) = false := decide_eq_false (by omega)
      have hd2 : decide (o ≤ fullN n) = false := decide_eq_false (by omega)
      have HFIN : Hid (Own stpC 8 wr w.heap.size 129 (.slice oq m oc) res) := by show Own _ _ _ _ _ _ _; rw [← HFA.out]; exact HO.out.mono HE0.out.size
      clear hfn
      go_wp2_with (go_at_call 110; refine (HFULL.out _).mono ?_; rintro e w' ⟨rfl, rfl⟩)
      go_ret
      exact ⟨_, rfl, HFIN.out, HE0.out.trans HE.out⟩
end Go.Proofs.YtdlhnpogddpmpaaGreat

namespace Go.Proofs.YtdlhnpogddpmpaaGreat
open Go.RowKit
attribute [local go_sem] Oper.semAt_some

theorem insK (e : Stp17) : ∀ (out : List Stp17) (k : Nat), out.Pairwise Le17 → k ≤ out.length → (∀ j x, k ≤ j → out[j]? = some x → 0 < rcmp x.1 e.1) → (∀ x, 0 < k → out[k - 1]? = some x → ¬ 0 < rcmp x.1 e.1) → insR e out = out.take k ++ [e] ++ out.drop k
  | [], k, _, hk, _, _ => by
    have : k = 0 := by simpa using hk
    subst this; rfl
  | x :: l, 0, _, _, h1, _ => by
    unfold insR
    rw [if_pos (h1 0 x (Nat.le_refl _) rfl)]; rfl
  | x :: l, k + 1, hp, hk, h1, h2 => by
    have hp' := List.pairwise_cons.1 hp
    have hx : ¬ 0 < rcmp x.1 e.1 := by
      cases k with
      | zero => exact h2 x (by omega) rfl
      | succ k =>
        have hkl : k < l.length := by simp at hk; omega
        have hy := h2 l[k] (by omega) (by show (x :: l)[k + 1]? = _; rw [List.getElem?_cons_succ, List.getElem?_eq_getElem hkl])
        have hxy := hp'.1 l[k] (List.getElem_mem hkl)
        have hye : Le17 l[k] e := by unfold Le17; omega
        have := le17_trans hxy hye
        unfold Le17 at this
        omega
    unfold insR
    rw [if_neg hx, insK e l k hp'.2 (by simpa using hk) (fun j y hj hy => h1 (j + 1) y (by omega) (by rw [List.getElem?_cons_succ]; exact hy)) (fun y hk0 hy => h2 y (by omega) (by
      obtain ⟨m, rfl⟩ : ∃ m, k = m + 1 := ⟨k - 1, by omega⟩
      show (x :: l)[m + 1]? = _
      rw [List.getElem?_cons_succ]; exact hy))]
    rfl
theorem sortR_take {L : List Stp17} {i : Nat} {s : Stp17} (h : L[i]? = some s) : sortR (L.take (i + 1)) = insR s (sortR (L.take i)) := by
  unfold sortR
  rw [List.take_add_one, h, Option.toList_some, List.foldl_append]; rfl
theorem row_take17 {α : Type} {enc : α → List Value} {size : Nat} {w : World} {p : Option Addr} {n c : Nat} {l : List α} (h : Row enc size w (.slice p n c) l) {k : Nat} (hk : k ≤ l.length) : Row enc size w (.slice p k c) (l.take k) := by
  obtain ⟨p', c', hv, h1, ⟨h2, h3⟩, h4⟩ := h
  injection hv with e1 _ e3
  subst e1 e3
  refine ⟨_, c, by rw [List.length_take, Nat.min_eq_left hk], by rw [List.length_take]; omega, ⟨h2, by rw [List.length_take]; omega⟩, fun hp => ?_⟩
  rw [List.length_take] at hp
  obtain ⟨b, o, he, hb, hc⟩ := h4 (by omega)
  refine ⟨b, o, he, hb, fun i x hx j u hu => hc i x ?_ j u hu⟩
  rw [List.getElem?_take] at hx
  split at hx
  · exact hx
  · cases hx
theorem row_drop17 {α : Type} {enc : α → List Value} {size : Nat} {w : World} {b o n c : Nat} {l : List α} (h : Row enc size w (.slice (some ⟨b, o, none⟩) n c) l) {k : Nat} (hk : k ≤ l.length) : Row enc size w (.slice (if c = k then some ⟨b, o, none⟩ else some ⟨b, o + k * size, none⟩) (n - k) (c - k)) (l.drop k) := by
  obtain ⟨p', c', hv, h1, ⟨h2, h3⟩, h4⟩ := h
  injection hv with e1 e2 e3
  subst e1 e2 e3
  refine ⟨_, c - k, by rw [List.length_drop], by rw [List.length_drop]; omega, ⟨by omega, by rw [List.length_drop]; omega⟩, fun hp => ?_⟩
  rw [List.length_drop] at hp
  obtain ⟨b', o', he, hb, hc⟩ := h4 (by omega)
  injection he with he
  injection he with e1 e2
  subst e1 e2
  rw [if_neg (show ¬ c = k by omega)]
  refine ⟨b, o + k * size, rfl, hb, fun i x hx j u hu => ?_⟩
  rw [List.getElem?_drop] at hx
  have := hc (k + i) x hx j u hu
  rw [Nat.add_mul, ← Nat.add_assoc] at this
  exact this
theorem row_drop0 {α : Type} {enc : α → List Value} {size : Nat} {w : World} {b n c : Nat} {l : List α} (h : Row enc size w (.slice (some ⟨b, 0, none⟩) n c) l) {k : Nat} (hk : k ≤ l.length) : Row enc size w (.slice (if c = k then some ⟨b, 0, none⟩ else some ⟨b, k * size, none⟩) (n - k) (c - k)) (l.drop k) := by
  have := row_drop17 h hk
  rwa [Nat.zero_add] at this
theorem own_edge {w : World} {base gl n c : Nat} {l : List Stp17} (h : Own stpC 8 w base 129 (.slice (some ⟨gl, 0, none⟩) n c) l) {i : Nat} {s : Stp17} (hi : l[i]? = some s) :
    w.cell? ⟨gl, i * 8, none⟩ = some (.int .i64 s.1.g.n) ∧ w.cell? ⟨gl, i * 8 + 1, none⟩ = some (.int .i64 s.1.g.h0) ∧ w.cell? ⟨gl, i * 8 + 2, none⟩ = some (.int .i64 s.1.g.h1) ∧ w.cell? ⟨gl, i * 8 + 3, none⟩ = some (.int .i64 s.1.g.h2) ∧
      w.cell? ⟨gl, i * 8 + 4, none⟩ = some (.int .i64 s.1.g.h3) ∧ w.cell? ⟨gl, i * 8 + 5, none⟩ = some (.int .i64 s.1.g.h4) ∧ w.cell? ⟨gl, i * 8 + 6, none⟩ = some (.int .i64 s.1.f) ∧ w.cell? ⟨gl, i * 8 + 7, none⟩ = some (.int .i64 (s.2 : Nat)) ∧ gl < w.heap.size :=
  ⟨own_at h hi (j := 0) rfl, own_at h hi (j := 1) rfl, own_at h hi (j := 2) rfl, own_at h hi (j := 3) rfl, own_at h hi (j := 4) rfl, own_at h hi (j := 5) rfl, own_at h hi (j := 6) rfl, own_at h hi (j := 7) rfl, (h.2.lt gl rfl).2⟩
theorem own_eaddr {w : World} {base n c : Nat} {q : Option Addr} {l : List Stp17} (h : Own stpC 8 w base 129 (.slice q n c) l) {i : Nat} (hi : i < l.length) : ∃ gl, q = some ⟨gl, 0, none⟩ ∧ n = l.length ∧ l.length ≤ c := by
  rcases h.form with ⟨-, h0⟩ | ⟨g, c', h1, -, -, h2, -⟩
  · rw [h0] at hi; exact absurd hi (Nat.not_lt_zero _)
  · injection h1 with h1 h3 h4; exact ⟨g, h1, h3, by omega⟩
theorem faults_len {r : Rul} {b : Nat} (hn : r.n ≤ 5) : (faultsB r b).length ≤ 1073741824 := by
  rw [faultsB_eq]
  have h1 := flt_len (r := r) (b := b) hn (2 ^ r.n)
  have h2 : 2 ^ r.n * 33554432 ≤ 32 * 33554432 := Nat.mul_le_mul_right _ (pow32_le hn)
  omega
set_option maxRecDepth 16000 in
set_option maxHeartbeats 8000000 in
theorem redgesF_any {op n num key : Nat} (hop : 1 ≤ op ∧ op ≤ 4) (hn : n ≤ 5) (hb : key < 32) (hnum : num ≤ 1000) (w : World) :
    Calls Tryz.prog 93 #[.agg #[.int .i64 op, .int .i64 n, .int .i64 num], .int .i64 key] w fun e w' => ∃ v, e = .returned v ∧ Own stpC 8 w' w.heap.size 129 v (sortR (faultsB ⟨op, n, num⟩ key)) ∧ Ext w w' := by
  have HC := hide (fun W => rfaults_any (num := num) hop hn hb hnum W)
  have HLB0 : Hid ((faultsB ⟨op, n, num⟩ key).length ≤ 1073741824) := faults_len hn
  have hd : ((op : Int) == 5) = false := by rw [beq_eq_false_iff_ne]; omega
  have hd2 : (op == 5) = false := by rw [beq_eq_false_iff_ne]; omega
  generalize (faultsB ⟨op, n, num⟩ key) = L at HC HLB0 ⊢
  generalize hln : L.length = ln at HLB0
  have HLN := hide hln
  have HLB := hide HLB0.out
  obtain ⟨SL, hSL⟩ : ∃ SL : Nat → List Stp17, SL = fun i => sortR (L.take i) := ⟨_, rfl⟩
  have HS0 : Hid (SL 0 = []) := by rw [hSL]; rfl
  have HSS : Hid (∀ i s, L[i]? = some s → SL (i + 1) = insR s (SL i)) := fun i s h => by rw [hSL]; exact sortR_take h
  have HSP : Hid (∀ i, (SL i).Pairwise Le17) := fun i => by rw [hSL]; exact sortR_pw _
  have HSL : Hid (∀ i, i ≤ ln → (SL i).length = i) := fun i hi => by rw [hSL]; show (sortR (L.take i)).length = i; rw [(sortR_perm _).length_eq, List.length_take, hln]; omega
  have HSA : Hid (SL ln = sortR L) := by rw [hSL]; show sortR (L.take ln) = _; rw [List.take_of_length_le (by omega)]
  clear hSL hln HLB0
  generalize sortR L = res at HSA ⊢
  go_enter Tryz.func93, Tryz.ntmps93
  go_wp2_with fail
  refine (HC.out _).mono ?_
  rintro e w2 ⟨v, rfl, hL, hE2⟩
  obtain ⟨lq, lc, rfl⟩ := hL.sl
  rw [HLN.out] at hL ⊢
  have HL := hide hL
  have HE2 := hide hE2
  have HSZW : Hid (w.heap.size ≤ w2.heap.size) := by have := hE2.size; show _ ≤ _; simp at this; omega
  clear hL hE2
  go_upto_region 7 with fail
  go_loopw [6, 7, 8, 9] (fun uo vi _ _ V => ∃ (i : Nat) (q : Option Addr) (c : Nat), i ≤ ln ∧ vi = .int .i64 i ∧ uo = .slice q i c ∧ Hid (Ext w2 V) ∧ Hid (Own stpC 8 V w2.heap.size 129 uo (SL i))) (fun _ vi _ _ _ => ln - (intOf vi).toNat)
  case atStart => exact ⟨0, none, 0, Nat.zero_le _, rfl, rfl, Ext.refl _, by rw [HS0.out]; exact Own.nil _ _ _ (fun _ => rfl)⟩
  case round =>
    obtain ⟨i, oq, oc, hi, rfl, rfl, HE, HO⟩ := hrel
    by_cases hlt : i < ln
    · obtain ⟨s, hs⟩ : ∃ s, L[i]? = some s := ⟨_, List.getElem?_eq_getElem (by rw [HLN.out]; exact hlt)⟩
      obtain ⟨gl, rfl, -, -⟩ := own_eaddr HL.out (i := i) (by rw [HLN.out]; exact hlt)
      have HS := hide hs
      have HSN : Hid (SL (i + 1) = insR s (SL i)) := HSS.out i s hs
      have HSLN : Hid ((SL i).length = i) := HSL.out i hi
      have HPW := hide (HSP.out i)
      have hli : (i : Int) < (ln : Int) := by omega
      have hlbi : ln ≤ 1073741824 := HLB.out
      have HROW := hide (HO.out.row (by rw [HSLN.out]; omega))
      clear hs
      go_upto_region 10 with fail
      obtain ⟨wq, hwq⟩ : ∃ wq, wq = wr := ⟨_, rfl⟩
      subst hwq
      go_loopw [8] (fun vk V => ∃ k : Nat, vk = .int .i64 k ∧ k ≤ i ∧ Hid (∀ j x, k ≤ j → (SL i)[j]? = some x → 0 < rcmp x.1 s.1) ∧ Hid (Ext wq V)) (fun vk _ => (intOf vk).toNat)
      case atStart => exact ⟨i, rfl, Nat.le_refl _, fun j x h1 h2 => (by rw [List.getElem?_eq_none (by rw [HSLN.out]; exact h1)] at h2; cases h2), Ext.refl _⟩
      case round =>
        obtain ⟨k, rfl, hk, HK, HEX⟩ := hrel
        rcases Nat.eq_zero_or_pos k with hk0 | hk0
        · have d2 : decide (0 < k) = false := decide_eq_false (by omega)
          have HK0 := hide hk0
          have hform : (oq = none ∧ oc = 0 ∧ SL i = []) ∨ ∃ b3, oq = some ⟨b3, 0, none⟩ ∧ i ≤ oc := by
            rcases HO.out.form with ⟨h1, h2⟩ | ⟨b3, c3, h1, _, _, h2, _⟩
            · injection h1 with e1 e2 e3
              exact .inl ⟨e1, e3, h2⟩
            · injection h1 with e1 e2 e3
              exact .inr ⟨b3, e1, by rw [HSLN.out] at h2; omega⟩
          rcases hform with ⟨rfl, rfl, hL0⟩ | ⟨b3, rfl, hco⟩
          · have HLN0 := hide hL0
            obtain rfl : i = 0 := by have := HSLN.out; rw [hL0] at this; simpa using this.symm
            subst hk0
            clear hL0
            go_upto_region 10 with fail
            refine wp_region_ext (by kernel_rfl) (by kernel_rfl) ?_
            repeat (go_big_quiet_step (fail))
            refine wpQuiet_nil ?_
            rintro w5 ⟨⟨_, hE5⟩, rfl⟩
            have HX5 := hide (HE.out.trans (HEX.out.trans hE5))
            have HR5 := hide (HROW.out.ext (HEX.out.trans hE5))
            clear d2 hE5 HO HROW
            have HINS : Hid (SL (0 + 1) = (SL 0).take 0 ++ [s] ++ (SL 0).drop 0) := by show _ = _; rw [HSN.out, HLN0.out]; rfl
            have HRT := hide (row_take17 HR5.out (k := 0) (by rw [HSLN.out]; omega))
            have HRD := hide (show Row stpC 8 w5 (.slice none 0 0) ((SL 0).drop 0) from HLN0.out ▸ Row.nil _ _ _)
            have HTL : Hid (((SL 0).take 0).length = 0) := by show _ = _; rw [List.length_take, HSLN.out]; omega
            have HDL : Hid (((SL 0).drop 0).length = 0 - 0) := by show _ = _; rw [List.length_drop, HSLN.out]
            have hbnd : ln ≤ 1073741824 := HLB.out
            go_upto_region 14 with (at_builtin; refine wpList_appendN rfl (.tmp 46) (.tmp 49) 125 rfl w5.heap.size 129 (stpV default) 8 64 Tryz.underlying125 edge_info17 rfl (by decide) _ ([] : List Stp17) _ ((SL 0).take 0) rfl (Own.nil w5 _ _ (fun _ => rfl)) rfl HRT.out stp_one17 (by rw [HTL.out]; simp only [List.length_nil]; omega) (by decide) (Nat.le_refl _) ?_; intro v6 w6 hown6 hg6)
            have HE6 := hide ((Ext.refl w5).grown hg6 (fun k hk => by cases hk))
            have hown6' : Own stpC 8 w6 w5.heap.size 129 v6 ((SL 0).take 0) := hown6
            obtain ⟨p6, c6, hv6⟩ := hown6'.sl
            subst hv6
            have HO6 := hide hown6'
            clear hown6 hg6 hown6'
            obtain ⟨k0, k1, k2, k3, k4, k5, k6, k7, kz⟩ := own_edge (HL.out.ext (HX5.out.trans HE6.out)) HS.out
            have hz6 : w5.heap.size ≤ w6.heap.size := HE6.out.size
            have HNW : Hid (∀ t u, (stpC s)[t]? = some u → (w6.alloc (.cells #[.int .i64 s.1.g.n, .int .i64 s.1.g.h0, .int .i64 s.1.g.h1, .int .i64 s.1.g.h2, .int .i64 s.1.g.h3, .int .i64 s.1.g.h4, .int .i64 s.1.f, .int .i64 (s.2 : Nat)] 129)).cell? ⟨w6.heap.size, t, none⟩ = some u) := edge_new w6 s
            go_upto_region 15 with (at_builtin; refine wpList_append1 rfl (.tmp 51) (.tmp 56) 125 rfl w5.heap.size 129 (stpV default) 8 64 Tryz.underlying125 edge_info17 rfl (by decide) _ ((SL 0).take 0) s w6.heap.size rfl (HO6.out.alloc _) rfl HNW.out (stp_one17 s) (by rw [HTL.out]; omega) (by decide) (by simp only [World.size_alloc]; omega) ?_; intro v7 w7 hown7 hg7 hf7; have HOW7 := hide hown7; have HGW7 := hide hg7; clear hown7 hg7 hf7 k0 k1 k2 k3 k4 k5 k6 k7 kz)
            have HE7 := hide ((HE6.out.alloc (.cells #[.int .i64 s.1.g.n, .int .i64 s.1.g.h0, .int .i64 s.1.g.h1, .int .i64 s.1.g.h2, .int .i64 s.1.g.h3, .int .i64 s.1.g.h4, .int .i64 s.1.f, .int .i64 (s.2 : Nat)] 129)).grown HGW7.out (fun k hk => HO6.out.block_ge k hk))
            obtain ⟨p7, c7, hv7⟩ := HOW7.out.sl
            have HO7 : Hid (Own stpC 8 w7 w5.heap.size 129 v7 ((SL 0).take 0 ++ [s])) := HOW7.out
            clear HOW7 HGW7 HNW
            subst hv7
            have hz7 : w5.heap.size ≤ w7.heap.size := HE7.out.size
            have HLN7 : Hid (((SL 0).take 0 ++ [s]).length = 0 + 1) := by show _ = _; rw [List.length_append, HTL.out]; rfl
            go_wp2_with (at_builtin; refine wpList_appendN rfl (.tmp 58) (.tmp 61) 125 rfl w5.heap.size 129 (stpV default) 8 64 Tryz.underlying125 edge_info17 rfl (by decide) _ _ _ ((SL 0).drop 0) rfl HO7.out rfl (HRD.out.ext HE7.out) stp_one17 (by rw [HLN7.out, HDL.out]; omega) (by decide) (by omega) ?_; intro v8 w8 hown8 hg8; have HOW8 := hide hown8; have HGW8 := hide hg8; clear hown8 hg8)
            have HE8 : Hid (Ext w5 w8) := HE7.out.grown HGW8.out (fun k hk => HO7.out.block_ge k hk)
            have hown8 : Own stpC 8 w8 w5.heap.size 129 v8 (SL (0 + 1)) := by rw [HINS.out]; exact HOW8.out
            obtain ⟨p8, c8, hv8⟩ := hown8.sl
            rw [HSL.out (0 + 1) (by omega)] at hv8
            have HOW9 := hide (hown8.mono HX5.out.size)
            have HE9 := hide (HX5.out.trans HE8.out)
            clear hown8 HOW8 HGW8
            subst hv8
            go_roundw
            case rel => first
              | exact ⟨0 + 1, p8, c8, by omega, by go_num, rfl, HE9, HOW9.out⟩
              | ((repeat apply Exists.intro); exact ⟨⟨0 + 1, p8, c8, by omega, by go_num, rfl, HE9, HOW9.out⟩, rfl⟩)
            case measure => simp [intOf]; omega
          · have hkc : k ≤ oc := by omega
            clear hk0 hco
            go_upto_region 10 with fail
            refine wp_region_ext (by kernel_rfl) (by kernel_rfl) ?_
            repeat (go_big_quiet_step (fail))
            refine wpQuiet_nil ?_
            rintro w5 ⟨⟨_, hE5⟩, rfl⟩
            have HX5 := hide (HE.out.trans (HEX.out.trans hE5))
            have HR5 := hide (HROW.out.ext (HEX.out.trans hE5))
            clear d2 hE5 HO HROW
            have HINS : Hid (SL (i + 1) = (SL i).take k ++ [s] ++ (SL i).drop k) := by show _ = _; rw [HSN.out]; exact insK s (SL i) k HPW.out (by rw [HSLN.out]; exact hk) HK.out fun y h0 _ => absurd h0 (by have := HK0.out; omega)
            have HRT := hide (row_take17 HR5.out (k := k) (by rw [HSLN.out]; omega))
            have HRD := hide (row_drop0 HR5.out (k := k) (by rw [HSLN.out]; omega))
            have HTL : Hid (((SL i).take k).length = k) := by show _ = _; rw [List.length_take, HSLN.out]; omega
            have HDL : Hid (((SL i).drop k).length = i - k) := by show _ = _; rw [List.length_drop, HSLN.out]
            have hbnd : ln ≤ 1073741824 := HLB.out
            go_upto_region 14 with (at_builtin; refine wpList_appendN rfl (.tmp 46) (.tmp 49) 125 rfl w5.heap.size 129 (stpV default) 8 64 Tryz.underlying125 edge_info17 rfl (by decide) _ ([] : List Stp17) _ ((SL i).take k) rfl (Own.nil w5 _ _ (fun _ => rfl)) rfl HRT.out stp_one17 (by rw [HTL.out]; simp only [List.length_nil]; omega) (by decide) (Nat.le_refl _) ?_; intro v6 w6 hown6 hg6)
            have HE6 := hide ((Ext.refl w5).grown hg6 (fun k hk => by cases hk))
            have hown6' : Own stpC 8 w6 w5.heap.size 129 v6 ((SL i).take k) := hown6
            obtain ⟨p6, c6, hv6⟩ := hown6'.sl
            subst hv6
            have HO6 := hide hown6'
            clear hown6 hg6 hown6'
            obtain ⟨k0, k1, k2, k3, k4, k5, k6, k7, kz⟩ := own_edge (HL.out.ext (HX5.out.trans HE6.out)) HS.out
            have hz6 : w5.heap.size ≤ w6.heap.size := HE6.out.size
            have HNW : Hid (∀ t u, (stpC s)[t]? = some u → (w6.alloc (.cells #[.int .i64 s.1.g.n, .int .i64 s.1.g.h0, .int .i64 s.1.g.h1, .int .i64 s.1.g.h2, .int .i64 s.1.g.h3, .int .i64 s.1.g.h4, .int .i64 s.1.f, .int .i64 (s.2 : Nat)] 129)).cell? ⟨w6.heap.size, t, none⟩ = some u) := edge_new w6 s
            go_upto_region 15 with (at_builtin; refine wpList_append1 rfl (.tmp 51) (.tmp 56) 125 rfl w5.heap.size 129 (stpV default) 8 64 Tryz.underlying125 edge_info17 rfl (by decide) _ ((SL i).take k) s w6.heap.size rfl (HO6.out.alloc _) rfl HNW.out (stp_one17 s) (by rw [HTL.out]; omega) (by decide) (by simp only [World.size_alloc]; omega) ?_; intro v7 w7 hown7 hg7 hf7; have HOW7 := hide hown7; have HGW7 := hide hg7; clear hown7 hg7 hf7 k0 k1 k2 k3 k4 k5 k6 k7 kz)
            have HE7 := hide ((HE6.out.alloc (.cells #[.int .i64 s.1.g.n, .int .i64 s.1.g.h0, .int .i64 s.1.g.h1, .int .i64 s.1.g.h2, .int .i64 s.1.g.h3, .int .i64 s.1.g.h4, .int .i64 s.1.f, .int .i64 (s.2 : Nat)] 129)).grown HGW7.out (fun k hk => HO6.out.block_ge k hk))
            obtain ⟨p7, c7, hv7⟩ := HOW7.out.sl
            have HO7 : Hid (Own stpC 8 w7 w5.heap.size 129 v7 ((SL i).take k ++ [s])) := HOW7.out
            clear HOW7 HGW7 HNW
            subst hv7
            have hz7 : w5.heap.size ≤ w7.heap.size := HE7.out.size
            have HLN7 : Hid (((SL i).take k ++ [s]).length = k + 1) := by show _ = _; rw [List.length_append, HTL.out]; rfl
            go_wp2_with (at_builtin; refine wpList_appendN rfl (.tmp 58) (.tmp 61) 125 rfl w5.heap.size 129 (stpV default) 8 64 Tryz.underlying125 edge_info17 rfl (by decide) _ _ _ ((SL i).drop k) rfl HO7.out rfl (HRD.out.ext HE7.out) stp_one17 (by rw [HLN7.out, HDL.out]; omega) (by decide) (by omega) ?_; intro v8 w8 hown8 hg8; have HOW8 := hide hown8; have HGW8 := hide hg8; clear hown8 hg8)
            have HE8 : Hid (Ext w5 w8) := HE7.out.grown HGW8.out (fun k hk => HO7.out.block_ge k hk)
            have hown8 : Own stpC 8 w8 w5.heap.size 129 v8 (SL (i + 1)) := by rw [HINS.out]; exact HOW8.out
            obtain ⟨p8, c8, hv8⟩ := hown8.sl
            rw [HSL.out (i + 1) (by omega)] at hv8
            have HOW9 := hide (hown8.mono HX5.out.size)
            have HE9 := hide (HX5.out.trans HE8.out)
            clear hown8 HOW8 HGW8
            subst hv8
            go_roundw
            case rel => first
              | exact ⟨i + 1, p8, c8, by omega, by go_num, rfl, HE9, HOW9.out⟩
              | ((repeat apply Exists.intro); exact ⟨⟨i + 1, p8, c8, by omega, by go_num, rfl, HE9, HOW9.out⟩, rfl⟩)
            case measure => simp [intOf]; omega
        · obtain ⟨m, hm⟩ : ∃ m, k = m + 1 := ⟨k - 1, by omega⟩
          obtain ⟨b3, rfl, -, hco⟩ := own_eaddr HO.out (i := m) (by rw [HSLN.out]; omega)
          rw [HSLN.out] at hco
          obtain ⟨x, hx⟩ : ∃ x, (SL i)[m]? = some x := ⟨_, List.getElem?_eq_getElem (by rw [HSLN.out]; omega)⟩
          have HOx := HO.out.ext HEX.out
          obtain ⟨x0, x1, x2, x3, x4, x5, x6, -, xz⟩ := own_edge HOx hx
          obtain ⟨y0, y1, y2, y3, y4, y5, y6, -, yz⟩ := own_edge (HL.out.ext (HE.out.trans HEX.out)) HS.out
          have HKM : Hid (0 < rcmp x.1 s.1 → ∀ j y, m ≤ j → (SL i)[j]? = some y → 0 < rcmp y.1 s.1) := fun hp j y h1 h2 => by
            rcases Nat.eq_or_lt_of_le h1 with h3 | h1
            · rw [← h3, hx] at h2; cases h2; exact hp
            · exact HK.out j y (by omega) h2
          have HNM : Hid (¬ 0 < rcmp x.1 s.1 → SL (i + 1) = (SL i).take k ++ [s] ++ (SL i).drop k) := fun hp => by
            rw [HSN.out]
            refine insK s (SL i) k HPW.out (by rw [HSLN.out]; exact hk) HK.out fun y _ hy => ?_
            rw [show k - 1 = m by omega, hx] at hy
            cases hy; exact hp
          have HCMP : Hid (∀ W, Calls Tryz.prog 109 #[.agg #[.int .i64 x.1.g.n, .int .i64 x.1.g.h0, .int .i64 x.1.g.h1, .int .i64 x.1.g.h2, .int .i64 x.1.g.h3, .int .i64 x.1.g.h4, .int .i64 x.1.f], .agg #[.int .i64 s.1.g.n, .int .i64 s.1.g.h0, .int .i64 s.1.g.h1, .int .i64 s.1.g.h2, .int .i64 s.1.g.h3, .int .i64 s.1.g.h4, .int .i64 s.1.f]] W fun e w' => e = .returned (.int .i64 (rcmp x.1 s.1)) ∧ Ext W w') := fun W => rrcompare_any x.1 s.1 W
          generalize rcmp x.1 s.1 = rc at HCMP HKM HNM
          have d2 : decide (0 < k) = true := decide_eq_true (by omega)
          have hwr : IntKind.i64.wrap ((k : Int) - 1) = (m : Int) := by
            rw [show (k : Int) - 1 = (m : Int) by omega]
            exact IntWalk.i64_in _ (by omega)
          have hmi : (m : Int) < (i : Int) := by omega
          have hmk : m < k := by omega
          have hkc : k ≤ oc := by omega
          have hkI : (k : Int) ≤ 1073741824 := by omega
          clear hm hx HOx
          go_upto_region 10 with fail
          refine wp_region_ext (by kernel_rfl) (by kernel_rfl) ?_
          repeat (go_big_quiet_step ((go_at_call 109; exact Calls.ext_of (HCMP.out _))))
          refine wpQuiet_nil ?_
          rintro w5 ⟨⟨_, hE5⟩, rfl⟩
          have HX5 := hide (HE.out.trans (HEX.out.trans hE5))
          have HR5 := hide (HROW.out.ext (HEX.out.trans hE5))
          have HEX5 := hide (HEX.out.trans hE5)
          clear x0 x1 x2 x3 x4 x5 x6 xz y0 y1 y2 y3 y4 y5 y6 yz d2 hE5
          by_cases hrc : 0 < rc
          · have hd : decide (0 < rc) = true := decide_eq_true hrc
            have HKN := hide (HKM.out hrc)
            clear HNM
            go_wp2_with fail
            go_roundw
            case rel => first
              | exact ⟨m, by go_num, by omega, HKN, HEX5.out⟩
              | ((repeat apply Exists.intro); exact ⟨⟨m, by go_num, by omega, HKN, HEX5.out⟩, rfl⟩)
            case measure => simp [intOf]; omega
          · have hd : decide (0 < rc) = false := decide_eq_false hrc
            have HIN := hide (HNM.out hrc)
            have hrc2 : rc ≤ 0 := by omega
            clear HKM HNM HK hwr HO HROW
            have HINS : Hid (SL (i + 1) = (SL i).take k ++ [s] ++ (SL i).drop k) := HIN.out
            have HRT := hide (row_take17 HR5.out (k := k) (by rw [HSLN.out]; omega))
            have HRD := hide (row_drop0 HR5.out (k := k) (by rw [HSLN.out]; omega))
            have HTL : Hid (((SL i).take k).length = k) := by show _ = _; rw [List.length_take, HSLN.out]; omega
            have HDL : Hid (((SL i).drop k).length = i - k) := by show _ = _; rw [List.length_drop, HSLN.out]
            have hbnd : ln ≤ 1073741824 := HLB.out
            go_upto_region 14 with (at_builtin; refine wpList_appendN rfl (.tmp 46) (.tmp 49) 125 rfl w5.heap.size 129 (stpV default) 8 64 Tryz.underlying125 edge_info17 rfl (by decide) _ ([] : List Stp17) _ ((SL i).take k) rfl (Own.nil w5 _ _ (fun _ => rfl)) rfl HRT.out stp_one17 (by rw [HTL.out]; simp only [List.length_nil]; omega) (by decide) (Nat.le_refl _) ?_; intro v6 w6 hown6 hg6)
            have HE6 := hide ((Ext.refl w5).grown hg6 (fun k hk => by cases hk))
            have hown6' : Own stpC 8 w6 w5.heap.size 129 v6 ((SL i).take k) := hown6
            obtain ⟨p6, c6, hv6⟩ := hown6'.sl
            subst hv6
            have HO6 := hide hown6'
            clear hown6 hg6 hown6'
            obtain ⟨k0, k1, k2, k3, k4, k5, k6, k7, kz⟩ := own_edge (HL.out.ext (HX5.out.trans HE6.out)) HS.out
            have hz6 : w5.heap.size ≤ w6.heap.size := HE6.out.size
            have HNW : Hid (∀ t u, (stpC s)[t]? = some u → (w6.alloc (.cells #[.int .i64 s.1.g.n, .int .i64 s.1.g.h0, .int .i64 s.1.g.h1, .int .i64 s.1.g.h2, .int .i64 s.1.g.h3, .int .i64 s.1.g.h4, .int .i64 s.1.f, .int .i64 (s.2 : Nat)] 129)).cell? ⟨w6.heap.size, t, none⟩ = some u) := edge_new w6 s
            go_upto_region 15 with (at_builtin; refine wpList_append1 rfl (.tmp 51) (.tmp 56) 125 rfl w5.heap.size 129 (stpV default) 8 64 Tryz.underlying125 edge_info17 rfl (by decide) _ ((SL i).take k) s w6.heap.size rfl (HO6.out.alloc _) rfl HNW.out (stp_one17 s) (by rw [HTL.out]; omega) (by decide) (by simp only [World.size_alloc]; omega) ?_; intro v7 w7 hown7 hg7 hf7; have HOW7 := hide hown7; have HGW7 := hide hg7; clear hown7 hg7 hf7 k0 k1 k2 k3 k4 k5 k6 k7 kz)
            have HE7 := hide ((HE6.out.alloc (.cells #[.int .i64 s.1.g.n, .int .i64 s.1.g.h0, .int .i64 s.1.g.h1, .int .i64 s.1.g.h2, .int .i64 s.1.g.h3, .int .i64 s.1.g.h4, .int .i64 s.1.f, .int .i64 (s.2 : Nat)] 129)).grown HGW7.out (fun k hk => HO6.out.block_ge k hk))
            obtain ⟨p7, c7, hv7⟩ := HOW7.out.sl
            have HO7 : Hid (Own stpC 8 w7 w5.heap.size 129 v7 ((SL i).take k ++ [s])) := HOW7.out
            clear HOW7 HGW7 HNW
            subst hv7
            have hz7 : w5.heap.size ≤ w7.heap.size := HE7.out.size
            have HLN7 : Hid (((SL i).take k ++ [s]).length = k + 1) := by show _ = _; rw [List.length_append, HTL.out]; rfl
            go_wp2_with (at_builtin; refine wpList_appendN rfl (.tmp 58) (.tmp 61) 125 rfl w5.heap.size 129 (stpV default) 8 64 Tryz.underlying125 edge_info17 rfl (by decide) _ _ _ ((SL i).drop k) rfl HO7.out rfl (HRD.out.ext HE7.out) stp_one17 (by rw [HLN7.out, HDL.out]; omega) (by decide) (by omega) ?_; intro v8 w8 hown8 hg8; have HOW8 := hide hown8; have HGW8 := hide hg8; clear hown8 hg8)
            have HE8 : Hid (Ext w5 w8) := HE7.out.grown HGW8.out (fun k hk => HO7.out.block_ge k hk)
            have hown8 : Own stpC 8 w8 w5.heap.size 129 v8 (SL (i + 1)) := by rw [HINS.out]; exact HOW8.out
            obtain ⟨p8, c8, hv8⟩ := hown8.sl
            rw [HSL.out (i + 1) (by omega)] at hv8
            have HOW9 := hide (hown8.mono HX5.out.size)
            have HE9 := hide (HX5.out.trans HE8.out)
            clear hown8 HOW8 HGW8
            subst hv8
            go_roundw
            case rel => first
              | exact ⟨i + 1, p8, c8, by omega, by go_num, rfl, HE9, HOW9.out⟩
              | ((repeat apply Exists.intro); exact ⟨⟨i + 1, p8, c8, by omega, by go_num, rfl, HE9, HOW9.out⟩, rfl⟩)
            case measure => simp [intOf]; omega
    · have hil : i = ln := by omega
      have HFIN : Hid (Own stpC 8 wr w.heap.size 129 (.slice oq i oc) res) := by show Own _ _ _ _ _ _ _; rw [← HSA.out, ← hil]; exact HO.out.mono HSZW.out
      have HEF := hide (HE2.out.trans HE.out)
      clear hil
      have hnli : ¬ ((i : Int) < (ln : Int)) := by omega
      go_wp2_with fail
      go_ret
      exact ⟨_, rfl, HFIN.out, ((Ext.refl w).alloc _).trans HEF.out⟩
end Go.Proofs.YtdlhnpogddpmpaaGreat
