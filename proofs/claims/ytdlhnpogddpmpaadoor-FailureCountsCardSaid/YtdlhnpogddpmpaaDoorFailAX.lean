/-
  The law of layer 17: the reference's Few.
  Conditions: none.
-/
import Derived.Test.YtdlhnpogddpmpaaDoorFailY
import Derived.Test.YtdlhnpogddpmpaaDoorAdvRef3
import Derived.Test.YtdlhnpogddpmpaaDoorSameR
namespace Go.Proofs.YtdlhnpogddpmpaaDoor
open Go.RowKit
attribute [local go_sem] Oper.semAt_some

set_option maxHeartbeats 1000000 in
theorem rsame02_any (a b : List Int) (u v : Value) (w : World) (ha : Row icells 1 w u a) (hb : Row icells 1 w v b) :
    Calls Tryd.prog 34 #[u, v] w fun e w' => e = .returned (.bool (decide (a = b))) ∧ Ext w w' := by
  obtain ⟨p, c, rfl, hc, hl, hat⟩ := ha.int_all
  obtain ⟨q, d, rfl, hd, hm, hat2⟩ := hb.int_all
  have HA := hide hat
  have HB := hide hat2
  clear ha hb hat hat2
  by_cases hlen : a.length = b.length
  · have H1 := hide (fun i => list_ne_at (a := a) (b := b) (i := i) (d := 0))
    have H2 := hide (list_eq_of (a := a) (b := b) (d := 0) hlen)
    have hlen' := hlen.symm
    clear hlen
    generalize decide (a = b) = res at H1 H2 ⊢
    generalize b.length = lb at *
    generalize a.length = la at *
    subst hlen'
    generalize hfa : a.getD = fa at *
    generalize hfb : b.getD = fb at *
    clear hfa hfb
    go_enter Tryd.func34, Tryd.ntmps34
    go_wp2_with fail
    go_loopw [5] (fun x wr => ∃ i : Nat, i ≤ lb ∧ x = .int .i64 i ∧ Hid (∀ j, j < i → fa j 0 = fb j 0) ∧ Hid (Ext w wr)) (fun x _ => lb - (intOf x).toNat)
    case atStart => exact ⟨0, by omega, rfl, fun j hj => absurd hj (Nat.not_lt_zero j), Ext.refl _⟩
    case round =>
      obtain ⟨i, hi, rfl, HJ, HE⟩ := hrel
      by_cases hlt : i < lb
      · obtain ⟨b1, o1, rfl, hb1, hat⟩ := HA.out (by omega)
        obtain ⟨b2, o2, rfl, hb2, hat2⟩ := HB.out (by omega)
        have x0 := hat i hlt wr HE.out
        have y0 := hat2 i hlt wr HE.out
        have xz : b1 < wr.heap.size := Nat.lt_of_lt_of_le hb1 HE.out.size
        have yz : b2 < wr.heap.size := Nat.lt_of_lt_of_le hb2 HE.out.size
        have hli : (i : Int) < (lb : Int) := by omega
        clear hat hat2
        generalize hx : fa i 0 = x at x0
        generalize hy : fb i 0 = y at y0
        by_cases he : x = y
        · have HJ1 : Hid (∀ j, j < i + 1 → fa j 0 = fb j 0) := fun j hj => by
            rcases Nat.lt_succ_iff_lt_or_eq.1 hj with h | rfl
            · exact HJ.out j h
            · rw [hx, hy, he]
          subst he
          have hd3 : (x != x) = false := by simp
          clear hx hy
          go_upto_region 6 with fail
          refine wp_region_ext (by kernel_rfl) (by kernel_rfl) ?_
          repeat (go_big_quiet_step (fail))
          refine wpQuiet_nil ?_
          rintro w9 ⟨⟨_, hE9⟩, rfl⟩
          have HE9 := hide (HE.out.trans hE9)
          clear hE9 x0 y0 xz yz
          go_wp2_with fail
          go_roundw
          case rel => first
            | exact ⟨i + 1, by omega, by go_num, HJ1, HE9⟩
            | ((repeat apply Exists.intro); exact ⟨⟨i + 1, by omega, by go_num, HJ1, HE9⟩, rfl⟩)
          case measure => simp [intOf]; omega
        · have hd : (x == y) = false := by rw [beq_eq_false_iff_ne]; exact he
          have hd3 : (x != y) = true := by rw [bne, hd]; rfl
          have HR := hide (H1.out i hlt (by rw [hx, hy]; exact he))
          clear hx hy
          go_upto_region 6 with fail
          refine wp_region_ext (by kernel_rfl) (by kernel_rfl) ?_
          repeat (go_big_quiet_step (fail))
          refine wpQuiet_nil ?_
          rintro w9 ⟨⟨_, hE9⟩, rfl⟩
          have HE9 := hide (HE.out.trans hE9)
          clear hE9 x0 y0 xz yz
          go_wp2_with fail
          go_ret
          exact ⟨ret_bool HR.out.symm, HE9.out⟩
      · have hil : i = lb := by omega
        subst hil
        have HR := hide (H2.out HJ.out)
        go_wp2_with fail
        go_ret
        exact ⟨ret_bool HR.out.symm, HE.out⟩
  · have hne : decide (a = b) = false := decide_eq_false fun e => hlen (by rw [e])
    rw [hne]
    have hd2 : ((a.length : Int) == (b.length : Int)) = false := by rw [beq_eq_false_iff_ne]; omega
    have hd3 : (a.length == b.length) = false := by rw [beq_eq_false_iff_ne]; exact hlen
    clear hne HA HB
    generalize b.length = lb at *
    generalize a.length = la at *
    go_enter Tryd.func34, Tryd.ntmps34
    go_wp2_with fail
    all_goals first
      | (go_ret; exact ⟨rfl, Ext.refl _⟩)
      | trace_state
set_option maxHeartbeats 1000000 in
theorem moves17_any (A : Adv) (v : Value) (w : World) (hA : AdvRep w v A) (h0 : 0 < A.L) (hL : A.L ≤ 64) :
    Calls Tryd.prog 35 #[v] w fun e w' => ∃ u, e = .returned u ∧ Own icells 1 w' w.heap.size 3 u ((List.range A.L).map fun s => (A.len s : Int)) ∧ Ext w w' := by
  obtain ⟨p, c, rfl, hc, hl, hat⟩ := hA.all_
  obtain ⟨b, o, rfl, hb, hat⟩ := hat h0
  have HAT := hide hat
  clear hat hA
  obtain ⟨w1, hw1⟩ : ∃ w1, w.alloc (.cells #[.int .i64 A.n, .slice (some ⟨b, o, none⟩) A.L c] 24) = w1 := ⟨_, rfl⟩
  have HE0 : Hid (Ext w w1) := by show Ext _ _; rw [← hw1]; exact (Ext.refl w).alloc _
  have HW := hide hw1
  clear hw1 hat
  obtain ⟨et, het⟩ : ∃ et : Nat → List Int, et = fun s => (List.range s).map fun s => (A.len s : Int) := ⟨_, rfl⟩
  have HT0 : Hid (et 0 = []) := by rw [het]; rfl
  have HTS : Hid (∀ s, et (s + 1) = et s ++ [(A.len s : Int)]) := fun s => by rw [het]; show (List.range (s + 1)).map _ = _; rw [List.range_succ, List.map_append]; rfl
  have HTL : Hid (∀ s, (et s).length = s) := fun s => by rw [het]; show ((List.range s).map _).length = _; rw [List.length_map, List.length_range]
  rw [show ((List.range A.L).map fun s => (A.len s : Int)) = et A.L by rw [het]]
  clear het
  go_enter Tryd.func35, Tryd.ntmps35
  go_wp2_with fail
  rw [HW.out]
  go_loopw [3, 5, 9] (fun u _ x wr => ∃ (s : Nat) (q : Option Addr) (d : Nat), s ≤ A.L ∧ x = .int .i64 s ∧ u = .slice q s d ∧ Hid (Own icells 1 wr w1.heap.size 3 u (et s)) ∧ Hid (Ext w1 wr)) (fun _ _ x _ => A.L - (intOf x).toNat)
  case atStart => exact ⟨0, none, 0, by omega, rfl, rfl, by rw [HT0.out]; exact Own.nil _ _ _ (fun _ => rfl), Ext.refl _⟩
  case round =>
    obtain ⟨s, oq, od, hs, rfl, rfl, HO, HE⟩ := hrel
    by_cases hlt : s < A.L
    · obtain ⟨q, d, hc, hd, hls, -, -⟩ := HAT.out s hlt
      have x0 := hc wr (HE0.out.trans HE.out)
      have xz : b < wr.heap.size := Nat.lt_of_lt_of_le hb (HE0.out.trans HE.out).size
      have HLN := hide (HTL.out s)
      have HS1 := hide (HTS.out s)
      have hsl : (s : Int) < (A.L : Int) := by omega
      clear hc
      generalize A.len s = k at x0 hd hls HS1
      go_wp2_with (at_builtin; refine wpList_append1 rfl (.tmp 13) (.tmp 16) 70 rfl w1.heap.size 3 (.int .i64 0) 1 8 Tryd.underlying70 int_info rfl (by decide) _ (et s) (k : Int) wr.heap.size rfl (HO.out.alloc _) rfl (cell_new1 _ _ _) (int_one _) (by rw [HLN.out]; omega) (by decide) (by simp only [World.size_alloc]; have := HE.out.size; omega) ?_; intro v' W6 hown' hg6 hf6; rw [HLN.out] at hf6; obtain ⟨g6, c6, rfl, hgf6⟩ := hf6; have HOW := hide hown'; have HGW := hide hg6; clear hown' hg6 hgf6 x0 xz)
      have HE6 : Hid (Ext w1 W6) := (HE.out.alloc _).grown HGW.out (fun k hk => HO.out.block_ge k hk)
      have HO6 : Hid (Own icells 1 W6 w1.heap.size 3 (.slice (some ⟨g6, 0, none⟩) (s + 1) c6) (et (s + 1))) := by show Own _ _ _ _ _ _ _; rw [HS1.out]; exact HOW.out
      go_roundw
      case rel => first
        | exact ⟨s + 1, some ⟨g6, 0, none⟩, c6, by omega, by go_num, rfl, HO6, HE6⟩
        | ((repeat apply Exists.intro); exact ⟨⟨s + 1, some ⟨g6, 0, none⟩, c6, by omega, by go_num, rfl, HO6, HE6⟩, rfl⟩)
      case measure => simp [intOf]; omega
    · have hil : s = A.L := by omega
      subst hil
      go_wp2_with fail
      go_ret
      refine ⟨.slice oq A.L od, ?_, HO.out.mono HE0.out.size, HE0.out.trans HE.out⟩
      first
        | rfl
        | (simp; done)
end Go.Proofs.YtdlhnpogddpmpaaDoor

namespace Go.Proofs.YtdlhnpogddpmpaaDoor
open Go.RowKit
attribute [local go_sem] Oper.semAt_some

theorem ex_crash : (mdlA 1 2 1).2 = 0 ∧ (mdlA 1 2 1).1.L = 3 ∧ (mdlA 1 2 1).1.len 0 = 5 ∧ (mdlA 1 2 1).1.mv 0 0 = ⟨⟨⟨2, 1, 2, 0, 0, 0⟩, 1⟩, 1⟩ := by decide +kernel
theorem ex_send : (mdlA 2 2 1).2 = 0 ∧ (mdlA 2 2 1).1.L = 3 ∧ (mdlA 2 2 1).1.len 0 = 3 ∧ ((List.range (mdlA 2 2 1).1.L).map fun s => ((mdlA 2 2 1).1.len s : Int)) = [3, 2, 2] ∧ (mdlA 2 2 1).1.mv 0 0 = ⟨⟨⟨2, 1, 3, 0, 0, 0⟩, 2⟩, 1⟩ ∧ (mdlA 2 2 1).1.mv 0 1 = ⟨⟨⟨2, 3, 2, 0, 0, 0⟩, 1⟩, 2⟩ := by decide +kernel
theorem ex_part : (partA 3 1).2 = 0 ∧ (partA 3 1).1.L = 2 ∧ ((List.range (partA 3 1).1.L).map fun s => ((partA 3 1).1.len s : Int)) = [5, 1] := by decide +kernel
theorem ex_snap : (snapA 2).2 = 0 ∧ (snapA 2).1.L = 1 ∧ ((List.range (snapA 2).1.L).map fun s => ((snapA 2).1.len s : Int)) = [3] := by decide +kernel
theorem MvAt.now {w W : World} {b k : Nat} {m : Mv} (h : MvAt w b k m) (hE : Ext w W) : W.cell? ⟨b, k, none⟩ = some (.int .i64 m.r.g.n) ∧ W.cell? ⟨b, k + 1, none⟩ = some (.int .i64 m.r.g.h0) ∧ W.cell? ⟨b, k + 2, none⟩ = some (.int .i64 m.r.g.h1) ∧ W.cell? ⟨b, k + 3, none⟩ = some (.int .i64 m.r.g.h2) ∧
    W.cell? ⟨b, k + 4, none⟩ = some (.int .i64 m.r.g.h3) ∧ W.cell? ⟨b, k + 5, none⟩ = some (.int .i64 m.r.g.h4) ∧ W.cell? ⟨b, k + 6, none⟩ = some (.int .i64 m.r.f) ∧ W.cell? ⟨b, k + 7, none⟩ = some (.int .i64 m.to) :=
  ⟨h.1 W hE, h.2.1 W hE, h.2.2.1 W hE, h.2.2.2.1 W hE, h.2.2.2.2.1 W hE, h.2.2.2.2.2.1 W hE, h.2.2.2.2.2.2.1 W hE, h.2.2.2.2.2.2.2 W hE⟩
theorem g17_any (a b : Int) (w : World) : Calls Tryd.prog 33 #[.int .i64 a, .int .i64 b] w fun e w' => e = .returned (Gr.v ⟨2, a, b, 0, 0, 0⟩) ∧ Ext w w' := by
  go_enter Tryd.func33, Tryd.ntmps33
  go_wp2_with fail
  exact bodyPost_ret (results_gr rfl _ rfl (gr_fresh w ⟨2, a, b, 0, 0, 0⟩)) rfl ⟨rfl, (Ext.refl w).alloc _⟩
set_option maxRecDepth 16000 in
set_option maxHeartbeats 4000000 in
theorem awake17_any (w : World) : Calls Tryd.prog 10 #[] w fun e w' => e = .returned (.bool true) ∧ Ext w w' := by
  obtain ⟨c2, cL, cl0, cm⟩ := ex_crash
  obtain ⟨s2, sL, sl0, sM, sm0, sm1⟩ := ex_send
  obtain ⟨p2, pL, pM⟩ := ex_part
  obtain ⟨n2, nL, nM⟩ := ex_snap
  have HC := hide (fun W => pcrash_any 2 1 W)
  have HS := hide (fun W => psend_any 2 1 W)
  have HP := hide (fun W => ppartition_any 3 1 W)
  have HN := hide (fun W => psnapshot_any 2 W)
  generalize mdlA 1 2 1 = rc at HC c2 cL cl0 cm
  generalize mdlA 2 2 1 = rs at HS s2 sL sl0 sM sm0 sm1
  generalize partA 3 1 = rp at HP p2 pL pM
  generalize snapA 2 = rn at HN n2 nL nM
  obtain ⟨ca, ce⟩ := rc
  obtain ⟨sa, se⟩ := rs
  obtain ⟨pa, pe⟩ := rp
  obtain ⟨na, ne⟩ := rn
  dsimp only at c2 cL cl0 cm s2 sL sl0 sM sm0 sm1 p2 pL pM n2 nL nM
  subst c2 s2 p2 n2
  have HMS := hide (fun (v : Value) (W : World) (h : AdvRep W v sa) => moves17_any sa v W h (by omega) (by omega))
  have HMP := hide (fun (v : Value) (W : World) (h : AdvRep W v pa) => moves17_any pa v W h (by omega) (by omega))
  have HMN := hide (fun (v : Value) (W : World) (h : AdvRep W v na) => moves17_any na v W h (by omega) (by omega))
  rw [sM] at HMS
  rw [pM] at HMP
  rw [nM] at HMN
  clear sM pM nM
  go_enter Tryd.func10, Tryd.ntmps10
  go_wp2_with fail
  refine (HC.out _).mono ?_
  rintro e w1 ⟨v, rfl, hv, hE⟩
  have hr := hv.rep
  obtain ⟨cp, cc, rfl, h1, -, hat⟩ := hr.all_
  rw [cL] at hat hr ⊢
  obtain ⟨cb, co, rfl, hcz, hat⟩ := hat (by omega)
  have HcA := hide hat
  have HcR := hide hr
  have HcE := hide hE
  clear hat hr hE hv h1
  go_wp2_with fail
  refine (HS.out _).mono ?_
  rintro e w2 ⟨v, rfl, hv, hE⟩
  have hr := hv.rep
  obtain ⟨sp, sc, rfl, h1, -, hat⟩ := hr.all_
  rw [sL] at hat hr ⊢
  obtain ⟨sb, so, rfl, hsz, hat⟩ := hat (by omega)
  have HsA := hide hat
  have HsR := hide hr
  have HsE := hide hE
  clear hat hr hE hv h1
  go_wp2_with fail
  refine (HP.out _).mono ?_
  rintro e w3 ⟨v, rfl, hv, hE⟩
  have hr := hv.rep
  obtain ⟨pp, pc, rfl, h1, -, hat⟩ := hr.all_
  rw [pL] at hat hr ⊢
  obtain ⟨pb, po, rfl, hpz, hat⟩ := hat (by omega)
  have HpA := hide hat
  have HpR := hide hr
  have HpE := hide hE
  clear hat hr hE hv h1
  go_wp2_with fail
  refine (HN.out _).mono ?_
  rintro e w4 ⟨v, rfl, hv, hE⟩
  have hr := hv.rep
  obtain ⟨np, nc, rfl, h1, -, hat⟩ := hr.all_
  rw [nL] at hat hr ⊢
  obtain ⟨nb, no, rfl, hnz, hat⟩ := hat (by omega)
  have HnA := hide hat
  have HnR := hide hr
  have HnE := hide hE
  clear hat hr hE hv h1
  go_wp2_with fail
  obtain ⟨W5, hW5⟩ : ∃ W5, w4.alloc (.cells #[.int .i64 na.n, .slice (some ⟨nb, no, none⟩) 1 nc] 24) = W5 := ⟨_, rfl⟩
  have hE45 : Ext w4 W5 := by rw [← hW5]; exact (Ext.refl w4).alloc _
  have hE35 : Ext w3 W5 := ((Ext.refl w3).alloc _).trans (HnE.out.trans hE45)
  have hE25 : Ext w2 W5 := ((Ext.refl w2).alloc _).trans (HpE.out.trans hE35)
  have hE15 : Ext w1 W5 := ((Ext.refl w1).alloc _).trans (HsE.out.trans hE25)
  have hE05 : Ext w W5 := HcE.out.trans hE15
  have hcB : W5.heap[w1.heap.size]? = some (.cells #[.int .i64 ca.n, .slice (some ⟨cb, co, none⟩) 3 cc] 24 (0, 0)) := ((HsE.out.trans hE25).b.block _ (by simp)).trans (heap_alloc_new w1 _)
  have hsB : W5.heap[w2.heap.size]? = some (.cells #[.int .i64 sa.n, .slice (some ⟨sb, so, none⟩) 3 sc] 24 (0, 0)) := ((HpE.out.trans hE35).b.block _ (by simp)).trans (heap_alloc_new w2 _)
  have hpB : W5.heap[w3.heap.size]? = some (.cells #[.int .i64 pa.n, .slice (some ⟨pb, po, none⟩) 2 pc] 24 (0, 0)) := ((HnE.out.trans hE45).b.block _ (by simp)).trans (heap_alloc_new w3 _)
  have hnB : W5.heap[w4.heap.size]? = some (.cells #[.int .i64 na.n, .slice (some ⟨nb, no, none⟩) 1 nc] 24 (0, 0)) := by rw [← hW5]; exact heap_alloc_new w4 _
  rw [hW5]
  have HCB := hide hcB
  have HSB := hide hsB
  have HPB := hide hpB
  have HNB := hide hnB
  have HE05 := hide hE05
  have HE25 := hide hE25
  have HSR5 := hide (HsR.out.ext hE25)
  have HPR5 := hide (HpR.out.ext hE35)
  have HNR5 := hide (HnR.out.ext hE45)
  obtain ⟨cq, cd, hc0, hcd, -, -, hcm⟩ := HcA.out 0 (by omega)
  rw [cl0] at hc0 hcm hcd
  obtain ⟨c2, co2, rfl, hc2z, hcm⟩ := hcm (by omega)
  have hcm := hcm 0 (by omega)
  rw [cm] at hcm
  have HC0 := hide (fun W (hE : Ext W5 W) => hc0 W (hE15.trans hE))
  have HCM := hide hcm
  have HGF := hide (fun a b W => g17_any a b W)
  have c1 : W5.cell? ⟨w1.heap.size, 1, none⟩ = some (.slice (some ⟨cb, co, none⟩) 3 cc) := cells_at hcB 1
  have cz := lt_of_heap hcB
  have c3 := hc0 W5 hE15
  have c3z : cb < W5.heap.size := Nat.lt_of_lt_of_le hcz hE15.size
  have c2z : c2 < W5.heap.size := Nat.lt_of_lt_of_le hc2z hE15.size
  obtain ⟨x0, x1, x2, x3, x4, x5, x6, x7⟩ := hcm.now hE15
  simp only [Nat.zero_mul, Nat.add_zero] at x0 x1 x2 x3 x4 x5 x6 x7 c3
  have hq1 := neq_move 2 1 2 0 0 0 1 1 2 1 2 0 0 0 1 1
  simp only [show meq ⟨⟨⟨2, 1, 2, 0, 0, 0⟩, 1⟩, 1⟩ ⟨⟨⟨2, 1, 2, 0, 0, 0⟩, 1⟩, 1⟩ = true from by decide, Bool.not_true] at hq1
  clear hE45 hE35 hE25 hE15 hE05 hcB hsB hpB hnB hW5 hcm hc0
  refine wp_region_ext (by kernel_rfl) (by kernel_rfl) ?_
  repeat (go_big_quiet_step ((go_at_call 33; exact Calls.ext_of (HGF.out _ _ _))))
  refine wpQuiet_nil ?_
  rintro W6 ⟨⟨_, hE6⟩, rfl⟩
  obtain ⟨W7, hW7⟩ : ∃ W7, W7 = W6 := ⟨_, rfl⟩
  subst hW7
  have HE6 : Hid (Ext W5 W7) := hE6
  clear hE6 x0 x1 x2 x3 x4 x5 x6 x7 c1 c3 cz c3z c2z hq1
  go_wp2_with fail
  obtain ⟨sq, sd, hs0, hsd, -, -, hsm⟩ := HsA.out 0 (by omega)
  rw [sl0] at hs0 hsm hsd
  obtain ⟨s2, so2, rfl, hs2z, hsm⟩ := hsm (by omega)
  have hsm0 := hsm 0 (by omega)
  have hsm1 := hsm 1 (by omega)
  rw [sm0] at hsm0
  rw [sm1] at hsm1
  simp only [Nat.zero_mul, Nat.add_zero, Nat.one_mul] at hsm0 hsm1 hs0
  have HS0 := hide (fun W (hE : Ext W5 W) => hs0 W (HE25.out.trans hE))
  have HSM0 := hide (fun W (hE : Ext W5 W) => hsm0.now (HE25.out.trans hE))
  have HSM1 := hide (fun W (hE : Ext W5 W) => hsm1.now (HE25.out.trans hE))
  have HSZ : Hid (sb < W5.heap.size) := Nat.lt_of_lt_of_le hsz HE25.out.size
  have HS2Z : Hid (s2 < W5.heap.size) := Nat.lt_of_lt_of_le hs2z HE25.out.size
  have HSB7 : Hid (W7.heap[w2.heap.size]? = some (.cells #[.int .i64 sa.n, .slice (some ⟨sb, so, none⟩) 3 sc] 24 (0, 0))) := (HE6.out.b.block _ (lt_of_heap HSB.out)).trans HSB.out
  have HSR7 := hide (HSR5.out.ext HE6.out)
  have hq1 := neq_move 2 1 3 0 0 0 2 1 2 1 3 0 0 0 2 1
  have hq2 := neq_move 2 3 2 0 0 0 1 2 2 3 2 0 0 0 1 2
  simp only [show meq ⟨⟨⟨2, 1, 3, 0, 0, 0⟩, 2⟩, 1⟩ ⟨⟨⟨2, 1, 3, 0, 0, 0⟩, 2⟩, 1⟩ = true from by decide, Bool.not_true] at hq1
  simp only [show meq ⟨⟨⟨2, 3, 2, 0, 0, 0⟩, 1⟩, 2⟩ ⟨⟨⟨2, 3, 2, 0, 0, 0⟩, 1⟩, 2⟩ = true from by decide, Bool.not_true] at hq2
  have HQ0 := hide hq1
  have HQ1 := hide hq2
  clear hq1 hq2 hs0 hsm hsm0 hsm1
  refine wp_region_heldAll (fun V => Ext W7 V) (by kernel_rfl) ?_
  intro Wd hWd
  have hR : Ext W7 Wd := by rw [hWd]; exact (Ext.refl W7).drew
  clear hWd
  refine wpAnyT_take (i := 0) (.agg #[.int .i64 sa.n, .slice (some ⟨sb, so, none⟩) 3 sc]) rfl (by kernel_rfl) (by kernel_rfl) (by kernel_rfl) (by simp [Region.wanted]) (fun V hV => by
    have s0 : V.cell? ⟨w2.heap.size, 0, none⟩ = some (.int .i64 sa.n) := cells_at ((hV.b.block _ (lt_of_heap HSB7.out)).trans HSB7.out) 0
    have s1 : V.cell? ⟨w2.heap.size, 1, none⟩ = some (.slice (some ⟨sb, so, none⟩) 3 sc) := cells_at ((hV.b.block _ (lt_of_heap HSB7.out)).trans HSB7.out) 1
    have sz := lt_of_heap ((hV.b.block _ (lt_of_heap HSB7.out)).trans HSB7.out)
    go_simp) hR ?_
  try simp only [Act.put, List.getElem_toArray, List.getElem_cons_zero, List.setIfInBounds_toArray, List.set_cons_zero, List.set_cons_succ]
  refine wpAnyT_two (i := 1) (j := 2) (by kernel_rfl) rfl rfl (fun K hK => ?_) (fun K hK => ?_)
  · go_wp2_with fail
    refine (HMS.out _ _ (HSR7.out.ext hR)).mono ?_
    rintro e Wm ⟨u, rfl, hown, hEm⟩
    go_wp2_with fail
    have hR0 := hR
    have hR := hR.trans hEm
    refine ⟨rfl, hK _ _ (fun _ => hR) ?_⟩
    clear hK K
    try simp only [Act.put, List.getElem_toArray, List.getElem_cons_zero, List.getElem_cons_succ, List.setIfInBounds_toArray, List.set_cons_zero, List.set_cons_succ]
    refine wpAnyT_one (i := 2) rfl (by kernel_rfl) (fun K hK => ?_)
    go_wp2_with fail
    have hnew := heap_alloc_new Wm (.cells #[.int .i64 3, .int .i64 2, .int .i64 2] 3)
    obtain ⟨gb, hgb⟩ : ∃ gb, Wm.heap.size = gb := ⟨_, rfl⟩
    obtain ⟨Wb, hWb⟩ : ∃ Wb, Wm.alloc (.cells #[.int .i64 3, .int .i64 2, .int .i64 2] 3) = Wb := ⟨_, rfl⟩
    have hEb : Ext Wm Wb := by rw [← hWb]; exact (Ext.refl _).alloc _
    rw [hgb, hWb] at hnew
    rw [hgb, hWb]
    clear hgb hWb
    have hR1 := hR
    have hR := hR.trans hEb
    refine ⟨rfl, hK _ _ hR ?_⟩
    clear hK K
    try simp only [Act.put, List.getElem_toArray, List.getElem_cons_zero, List.getElem_cons_succ, List.setIfInBounds_toArray, List.set_cons_zero, List.set_cons_succ]
    have hru : Row icells 1 Wb u [3, 2, 2] := (hown.row (by decide)).ext hEb
    have hrb : Row icells 1 Wb (.slice (some ⟨gb, 0, none⟩) 3 3) [3, 2, 2] := Own.row (base := 0) (e := 3) ⟨fun _ => rfl, rfl, .inr ⟨gb, 3, _, rfl, Nat.zero_le _, hnew, Nat.le_refl _, by unfold maxLen; omega, rfl, rfl⟩⟩ (by decide)
    refine wpAnyT_one (i := 3) rfl (by kernel_rfl) (fun K hK => ?_)
    go_wp2_with fail
    refine (rsame02_any [3, 2, 2] [3, 2, 2] _ _ _ hru hrb).mono ?_
    rintro e Ws ⟨rfl, hEs⟩
    go_wp2_with fail
    have hR := hR.trans hEs
    refine ⟨rfl, hK _ _ hR ?_⟩
    clear hK K hru hrb hEs
    try simp only [Act.put, List.getElem_toArray, List.getElem_cons_zero, List.getElem_cons_succ, List.setIfInBounds_toArray, List.set_cons_zero, List.set_cons_succ]
    refine wpAnyT_take (i := 4) (.bool false) rfl (by kernel_rfl) (by kernel_rfl) (by kernel_rfl) (by simp [Region.wanted]) (fun V hV => by
      go_simp) hR ?_
    try simp only [Act.put, List.getElem_toArray, List.getElem_cons_zero, List.getElem_cons_succ, List.setIfInBounds_toArray, List.set_cons_zero, List.set_cons_succ]
    refine wpAnyT_take (i := 5) (.bool false) rfl (by kernel_rfl) (by kernel_rfl) (by kernel_rfl) (by simp [Region.wanted]) (fun V hV => by
      go_simp) hR ?_
    try simp only [Act.put, List.getElem_toArray, List.getElem_cons_zero, List.getElem_cons_succ, List.setIfInBounds_toArray, List.set_cons_zero, List.set_cons_succ]
    refine wpAnyT_take (i := 6) (.pointer (some ⟨w2.heap.size, 1, none⟩)) rfl (by kernel_rfl) (by kernel_rfl) (by kernel_rfl) (by simp [Region.wanted, yielded]) (fun V hV => by
      go_simp) hR ?_
    try simp only [Act.put, List.getElem_toArray, List.getElem_cons_zero, List.getElem_cons_succ, List.setIfInBounds_toArray, List.set_cons_zero, List.set_cons_succ]
    refine wpAnyT_take (i := 7) (.slice (some ⟨sb, so, none⟩) 3 sc) rfl (by kernel_rfl) (by kernel_rfl) (by kernel_rfl) (by simp [Region.wanted, yielded]) (fun V hV => by
      have s0 : V.cell? ⟨w2.heap.size, 0, none⟩ = some (.int .i64 sa.n) := cells_at ((hV.b.block _ (lt_of_heap HSB7.out)).trans HSB7.out) 0
      have s1 : V.cell? ⟨w2.heap.size, 1, none⟩ = some (.slice (some ⟨sb, so, none⟩) 3 sc) := cells_at ((hV.b.block _ (lt_of_heap HSB7.out)).trans HSB7.out) 1
      have sz := lt_of_heap ((hV.b.block _ (lt_of_heap HSB7.out)).trans HSB7.out)
      go_simp) hR ?_
    try simp only [Act.put, List.getElem_toArray, List.getElem_cons_zero, List.getElem_cons_succ, List.setIfInBounds_toArray, List.set_cons_zero, List.set_cons_succ]
    refine wpAnyT_take (i := 8) (.pointer (some ⟨sb, so, none⟩)) rfl (by kernel_rfl) (by kernel_rfl) (by kernel_rfl) (by simp [Region.wanted, yielded]) (fun V hV => by
      go_simp) hR ?_
    try simp only [Act.put, List.getElem_toArray, List.getElem_cons_zero, List.getElem_cons_succ, List.setIfInBounds_toArray, List.set_cons_zero, List.set_cons_succ]
    refine wpAnyT_take (i := 9) (.slice (some ⟨s2, so2, none⟩) 3 sd) rfl (by kernel_rfl) (by kernel_rfl) (by kernel_rfl) (by simp [Region.wanted, yielded]) (fun V hV => by
      have t0 := HS0.out V (HE6.out.trans hV)
      have tz : sb < V.heap.size := Nat.lt_of_lt_of_le HSZ.out (HE6.out.trans hV).size
      go_simp) hR ?_
    try simp only [Act.put, List.getElem_toArray, List.getElem_cons_zero, List.getElem_cons_succ, List.setIfInBounds_toArray, List.set_cons_zero, List.set_cons_succ]
    refine wpAnyT_take (i := 10) (.pointer (some ⟨s2, so2, none⟩)) rfl (by kernel_rfl) (by kernel_rfl) (by kernel_rfl) (by simp [Region.wanted, yielded]) (fun V hV => by
      go_simp) hR ?_
    try simp only [Act.put, List.getElem_toArray, List.getElem_cons_zero, List.getElem_cons_succ, List.setIfInBounds_toArray, List.set_cons_zero, List.set_cons_succ]
    refine wpAnyT_take (i := 11) (.agg #[.int .i64 2, .int .i64 1, .int .i64 3, .int .i64 0, .int .i64 0, .int .i64 0, .int .i64 2, .int .i64 1]) rfl (by kernel_rfl) (by kernel_rfl) (by kernel_rfl) (by simp [Region.wanted, yielded]) (fun V hV => by
      obtain ⟨x0, x1, x2, x3, x4, x5, x6, x7⟩ := HSM0.out V (HE6.out.trans hV)
      have xz : s2 < V.heap.size := Nat.lt_of_lt_of_le HS2Z.out (HE6.out.trans hV).size
      go_simp) hR ?_
    try simp only [Act.put, List.getElem_toArray, List.getElem_cons_zero, List.getElem_cons_succ, List.setIfInBounds_toArray, List.set_cons_zero, List.set_cons_succ]
    refine wpAnyT_one (i := 12) rfl (by kernel_rfl) (fun K hK => ?_)
    go_wp2_with fail
    refine (HGF.out _ _ _).mono ?_
    rintro e Wg0 ⟨rfl, hEg⟩
    go_wp2_with fail
    have hR := hR.trans hEg
    refine ⟨rfl, hK _ _ hR ?_⟩
    clear hK K hEg
    try simp only [Act.put, List.getElem_toArray, List.getElem_cons_zero, List.getElem_cons_succ, List.setIfInBounds_toArray, List.set_cons_zero, List.set_cons_succ]
    refine wpAnyT_take (i := 13) (.agg #[.int .i64 2, .int .i64 1, .int .i64 3, .int .i64 0, .int .i64 0, .int .i64 0, .int .i64 2]) rfl (by kernel_rfl) (by kernel_rfl) (by kernel_rfl) (by simp [Region.wanted, yielded]) (fun V hV => by
      go_simp) hR ?_
    try simp only [Act.put, List.getElem_toArray, List.getElem_cons_zero, List.getElem_cons_succ, List.setIfInBounds_toArray, List.set_cons_zero, List.set_cons_succ]
    refine wpAnyT_take (i := 14) (.agg #[.int .i64 2, .int .i64 1, .int .i64 3, .int .i64 0, .int .i64 0, .int .i64 0, .int .i64 2, .int .i64 1]) rfl (by kernel_rfl) (by kernel_rfl) (by kernel_rfl) (by simp [Region.wanted, yielded]) (fun V hV => by
      go_simp) hR ?_
    try simp only [Act.put, List.getElem_toArray, List.getElem_cons_zero, List.getElem_cons_succ, List.setIfInBounds_toArray, List.set_cons_zero, List.set_cons_succ]
    refine wpAnyT_take (i := 15) (.bool false) rfl (by kernel_rfl) (by kernel_rfl) (by kernel_rfl) (by simp [Region.wanted, yielded]) (fun V hV => by
      have ha : (Op.equalIn 9997 30 (.agg #[.int .i64 1, .int .i64 3, .int .i64 0, .int .i64 0, .int .i64 0]) (.agg #[.int .i64 1, .int .i64 3, .int .i64 0, .int .i64 0, .int .i64 0])).run Tryd.prog V = .ok true V := eq_arr5 9995 1 3 0 0 0 1 3 0 0 0 V
      go_simp) hR ?_
    try simp only [Act.put, List.getElem_toArray, List.getElem_cons_zero, List.getElem_cons_succ, List.setIfInBounds_toArray, List.set_cons_zero, List.set_cons_succ]
    refine wpAnyT_take (i := 16) (.bool false) rfl (by kernel_rfl) (by kernel_rfl) (by kernel_rfl) (by simp [Region.wanted]) (fun V hV => by
      go_simp) hR ?_
    try simp only [Act.put, List.getElem_toArray, List.getElem_cons_zero, List.getElem_cons_succ, List.setIfInBounds_toArray, List.set_cons_zero, List.set_cons_succ]
    refine wpAnyT_take (i := 17) (.bool false) rfl (by kernel_rfl) (by kernel_rfl) (by kernel_rfl) (by simp [Region.wanted]) (fun V hV => by
      go_simp) hR ?_
    try simp only [Act.put, List.getElem_toArray, List.getElem_cons_zero, List.getElem_cons_succ, List.setIfInBounds_toArray, List.set_cons_zero, List.set_cons_succ]
    refine wpAnyT_take (i := 18) (.pointer (some ⟨w2.heap.size, 1, none⟩)) rfl (by kernel_rfl) (by kernel_rfl) (by kernel_rfl) (by simp [Region.wanted, yielded]) (fun V hV => by
      go_simp) hR ?_
    try simp only [Act.put, List.getElem_toArray, List.getElem_cons_zero, List.getElem_cons_succ, List.setIfInBounds_toArray, List.set_cons_zero, List.set_cons_succ]
    refine wpAnyT_take (i := 19) (.slice (some ⟨sb, so, none⟩) 3 sc) rfl (by kernel_rfl) (by kernel_rfl) (by kernel_rfl) (by simp [Region.wanted, yielded]) (fun V hV => by
      have s0 : V.cell? ⟨w2.heap.size, 0, none⟩ = some (.int .i64 sa.n) := cells_at ((hV.b.block _ (lt_of_heap HSB7.out)).trans HSB7.out) 0
      have s1 : V.cell? ⟨w2.heap.size, 1, none⟩ = some (.slice (some ⟨sb, so, none⟩) 3 sc) := cells_at ((hV.b.block _ (lt_of_heap HSB7.out)).trans HSB7.out) 1
      have sz := lt_of_heap ((hV.b.block _ (lt_of_heap HSB7.out)).trans HSB7.out)
      go_simp) hR ?_
    try simp only [Act.put, List.getElem_toArray, List.getElem_cons_zero, List.getElem_cons_succ, List.setIfInBounds_toArray, List.set_cons_zero, List.set_cons_succ]
    refine wpAnyT_take (i := 20) (.pointer (some ⟨sb, so, none⟩)) rfl (by kernel_rfl) (by kernel_rfl) (by kernel_rfl) (by simp [Region.wanted, yielded]) (fun V hV => by
      go_simp) hR ?_
    try simp only [Act.put, List.getElem_toArray, List.getElem_cons_zero, List.getElem_cons_succ, List.setIfInBounds_toArray, List.set_cons_zero, List.set_cons_succ]
    refine wpAnyT_take (i := 21) (.slice (some ⟨s2, so2, none⟩) 3 sd) rfl (by kernel_rfl) (by kernel_rfl) (by kernel_rfl) (by simp [Region.wanted, yielded]) (fun V hV => by
      have t0 := HS0.out V (HE6.out.trans hV)
      have tz : sb < V.heap.size := Nat.lt_of_lt_of_le HSZ.out (HE6.out.trans hV).size
      go_simp) hR ?_
    try simp only [Act.put, List.getElem_toArray, List.getElem_cons_zero, List.getElem_cons_succ, List.setIfInBounds_toArray, List.set_cons_zero, List.set_cons_succ]
    refine wpAnyT_take (i := 22) (.pointer (some ⟨s2, so2 + 8, none⟩)) rfl (by kernel_rfl) (by kernel_rfl) (by kernel_rfl) (by simp [Region.wanted, yielded]) (fun V hV => by
      go_simp) hR ?_
    try simp only [Act.put, List.getElem_toArray, List.getElem_cons_zero, List.getElem_cons_succ, List.setIfInBounds_toArray, List.set_cons_zero, List.set_cons_succ]
    refine wpAnyT_take (i := 23) (.agg #[.int .i64 2, .int .i64 3, .int .i64 2, .int .i64 0, .int .i64 0, .int .i64 0, .int .i64 1, .int .i64 2]) rfl (by kernel_rfl) (by kernel_rfl) (by kernel_rfl) (by simp [Region.wanted, yielded]) (fun V hV => by
      obtain ⟨x0, x1, x2, x3, x4, x5, x6, x7⟩ := HSM1.out V (HE6.out.trans hV)
      have xz : s2 < V.heap.size := Nat.lt_of_lt_of_le HS2Z.out (HE6.out.trans hV).size
      go_simp) hR ?_
    try simp only [Act.put, List.getElem_toArray, List.getElem_cons_zero, List.getElem_cons_succ, List.setIfInBounds_toArray, List.set_cons_zero, List.set_cons_succ]
    refine wpAnyT_one (i := 24) rfl (by kernel_rfl) (fun K hK => ?_)
    go_wp2_with fail
    refine (HGF.out _ _ _).mono ?_
    rintro e Wg1 ⟨rfl, hEg⟩
    go_wp2_with fail
    have hR := hR.trans hEg
    refine ⟨rfl, hK _ _ hR ?_⟩
    clear hK K hEg
    try simp only [Act.put, List.getElem_toArray, List.getElem_cons_zero, List.getElem_cons_succ, List.setIfInBounds_toArray, List.set_cons_zero, List.set_cons_succ]
    refine wpAnyT_take (i := 25) (.agg #[.int .i64 2, .int .i64 3, .int .i64 2, .int .i64 0, .int .i64 0, .int .i64 0, .int .i64 1]) rfl (by kernel_rfl) (by kernel_rfl) (by kernel_rfl) (by simp [Region.wanted, yielded]) (fun V hV => by
      go_simp) hR ?_
    try simp only [Act.put, List.getElem_toArray, List.getElem_cons_zero, List.getElem_cons_succ, List.setIfInBounds_toArray, List.set_cons_zero, List.set_cons_succ]
    refine wpAnyT_take (i := 26) (.agg #[.int .i64 2, .int .i64 3, .int .i64 2, .int .i64 0, .int .i64 0, .int .i64 0, .int .i64 1, .int .i64 2]) rfl (by kernel_rfl) (by kernel_rfl) (by kernel_rfl) (by simp [Region.wanted, yielded]) (fun V hV => by
      go_simp) hR ?_
    try simp only [Act.put, List.getElem_toArray, List.getElem_cons_zero, List.getElem_cons_succ, List.setIfInBounds_toArray, List.set_cons_zero, List.set_cons_succ]
    refine wpAnyT_take (i := 27) (.bool false) rfl (by kernel_rfl) (by kernel_rfl) (by kernel_rfl) (by simp [Region.wanted, yielded]) (fun V hV => by
      have ha : (Op.equalIn 9997 30 (.agg #[.int .i64 3, .int .i64 2, .int .i64 0, .int .i64 0, .int .i64 0]) (.agg #[.int .i64 3, .int .i64 2, .int .i64 0, .int .i64 0, .int .i64 0])).run Tryd.prog V = .ok true V := eq_arr5 9995 3 2 0 0 0 3 2 0 0 0 V
      go_simp) hR ?_
    try simp only [Act.put, List.getElem_toArray, List.getElem_cons_zero, List.getElem_cons_succ, List.setIfInBounds_toArray, List.set_cons_zero, List.set_cons_succ]
    refine wpAnyT_take (i := 28) (.bool false) rfl (by kernel_rfl) (by kernel_rfl) (by kernel_rfl) (by simp [Region.wanted]) (fun V hV => by
      go_simp) hR ?_
    try simp only [Act.put, List.getElem_toArray, List.getElem_cons_zero, List.getElem_cons_succ, List.setIfInBounds_toArray, List.set_cons_zero, List.set_cons_succ]
    refine wpAnyT_done (by kernel_rfl) ?_ _
    have HE8 := hide (HE6.out.trans hR)
    clear hR
    have hpB8 := (HE8.out.b.block _ (lt_of_heap HPB.out)).trans HPB.out
    have p0 : Wg1.cell? ⟨w3.heap.size, 0, none⟩ = some (.int .i64 pa.n) := cells_at hpB8 0
    have p1 : Wg1.cell? ⟨w3.heap.size, 1, none⟩ = some (.slice (some ⟨pb, po, none⟩) 2 pc) := cells_at hpB8 1
    have pz := lt_of_heap hpB8
    clear hpB8
    go_wp2_with fail
    refine (HMP.out _ _ (HPR5.out.ext HE8.out)).mono ?_
    rintro e Wp ⟨up, rfl, hown5, hEp⟩
    have HE9 := hide (HE8.out.trans hEp)
    have HUP := hide (hown5.row (by decide))
    clear hown5 hEp p0 p1 pz
    go_wp2_with fail
    have hnew5 := heap_alloc_new Wp (.cells #[.int .i64 5, .int .i64 1] 3)
    have hr5 : Row icells 1 (Wp.alloc (.cells #[.int .i64 5, .int .i64 1] 3)) (.slice (some ⟨Wp.heap.size, 0, none⟩) 2 2) [5, 1] := Own.row (base := 0) (e := 3) ⟨fun _ => rfl, rfl, .inr ⟨Wp.heap.size, 2, _, rfl, Nat.zero_le _, hnew5, Nat.le_refl _, by unfold maxLen; omega, rfl, rfl⟩⟩ (by decide)
    refine (rsame02_any [5, 1] [5, 1] _ _ _ (HUP.out.ext ((Ext.refl Wp).alloc _)) hr5).mono ?_
    rintro e Wq ⟨rfl, hEq⟩
    have HEA := hide ((HE9.out.alloc (.cells #[.int .i64 5, .int .i64 1] 3)).trans hEq)
    clear hEq hr5 hnew5
    have hnB8 := (HEA.out.b.block _ (lt_of_heap HNB.out)).trans HNB.out
    have n0 : Wq.cell? ⟨w4.heap.size, 0, none⟩ = some (.int .i64 na.n) := cells_at hnB8 0
    have n1 : Wq.cell? ⟨w4.heap.size, 1, none⟩ = some (.slice (some ⟨nb, no, none⟩) 1 nc) := cells_at hnB8 1
    have nz := lt_of_heap hnB8
    clear hnB8
    go_wp2_with fail
    refine (HMN.out _ _ (HNR5.out.ext HEA.out)).mono ?_
    rintro e Wr ⟨un, rfl, hown6, hEr⟩
    have HEB := hide (HEA.out.trans hEr)
    have HUN := hide (hown6.row (by decide))
    clear hown6 hEr n0 n1 nz
    go_wp2_with fail
    have hnew6 := heap_alloc_new Wr (.cells #[.int .i64 3] 3)
    have hr6 : Row icells 1 (Wr.alloc (.cells #[.int .i64 3] 3)) (.slice (some ⟨Wr.heap.size, 0, none⟩) 1 1) [3] := Own.row (base := 0) (e := 3) ⟨fun _ => rfl, rfl, .inr ⟨Wr.heap.size, 1, _, rfl, Nat.zero_le _, hnew6, Nat.le_refl _, by unfold maxLen; omega, rfl, rfl⟩⟩ (by decide)
    refine (rsame02_any [3] [3] _ _ _ (HUN.out.ext ((Ext.refl Wr).alloc _)) hr6).mono ?_
    rintro e Wt ⟨rfl, hEt⟩
    have HEC := hide (HE05.out.trans ((HEB.out.alloc (.cells #[.int .i64 3] 3)).trans hEt))
    clear hEt hr6 hnew6
    go_wp2_with fail
    go_ret
    exact ⟨rfl, HEC.out⟩
  · go_wp2_with fail
    have hnew := heap_alloc_new Wd (.cells #[.int .i64 3, .int .i64 2, .int .i64 2] 3)
    obtain ⟨gb, hgb⟩ : ∃ gb, Wd.heap.size = gb := ⟨_, rfl⟩
    obtain ⟨Wb, hWb⟩ : ∃ Wb, Wd.alloc (.cells #[.int .i64 3, .int .i64 2, .int .i64 2] 3) = Wb := ⟨_, rfl⟩
    have hEb : Ext Wd Wb := by rw [← hWb]; exact (Ext.refl _).alloc _
    rw [hgb, hWb] at hnew
    rw [hgb, hWb]
    clear hgb hWb
    have hR1 := hR
    have hR := hR.trans hEb
    refine ⟨rfl, hK _ _ (fun _ => hR) ?_⟩
    clear hK K
    try simp only [Act.put, List.getElem_toArray, List.getElem_cons_zero, List.getElem_cons_succ, List.setIfInBounds_toArray, List.set_cons_zero, List.set_cons_succ]
    refine wpAnyT_one (i := 1) rfl (by kernel_rfl) (fun K hK => ?_)
    go_wp2_with fail
    refine (HMS.out _ _ (HSR7.out.ext hR)).mono ?_
    rintro e Wm ⟨u, rfl, hown, hEm⟩
    go_wp2_with fail
    have hR0 := hR
    have hR := hR.trans hEm
    refine ⟨rfl, hK _ _ hR ?_⟩
    clear hK K
    try simp only [Act.put, List.getElem_toArray, List.getElem_cons_zero, List.getElem_cons_succ, List.setIfInBounds_toArray, List.set_cons_zero, List.set_cons_succ]
    have hru : Row icells 1 Wm u [3, 2, 2] := hown.row (by decide)
    have hrb : Row icells 1 Wm (.slice (some ⟨gb, 0, none⟩) 3 3) [3, 2, 2] := Own.row (base := 0) (e := 3) ⟨fun _ => rfl, rfl, .inr ⟨gb, 3, _, rfl, Nat.zero_le _, (hEm.b.block _ (lt_of_heap hnew)).trans hnew, Nat.le_refl _, by unfold maxLen; omega, rfl, rfl⟩⟩ (by decide)
    refine wpAnyT_one (i := 3) rfl (by kernel_rfl) (fun K hK => ?_)
    go_wp2_with fail
    refine (rsame02_any [3, 2, 2] [3, 2, 2] _ _ _ hru hrb).mono ?_
    rintro e Ws ⟨rfl, hEs⟩
    go_wp2_with fail
    have hR := hR.trans hEs
    refine ⟨rfl, hK _ _ hR ?_⟩
    clear hK K hru hrb hEs
    try simp only [Act.put, List.getElem_toArray, List.getElem_cons_zero, List.getElem_cons_succ, List.setIfInBounds_toArray, List.set_cons_zero, List.set_cons_succ]
    refine wpAnyT_take (i := 4) (.bool false) rfl (by kernel_rfl) (by kernel_rfl) (by kernel_rfl) (by simp [Region.wanted]) (fun V hV => by
      go_simp) hR ?_
    try simp only [Act.put, List.getElem_toArray, List.getElem_cons_zero, List.getElem_cons_succ, List.setIfInBounds_toArray, List.set_cons_zero, List.set_cons_succ]
    refine wpAnyT_take (i := 5) (.bool false) rfl (by kernel_rfl) (by kernel_rfl) (by kernel_rfl) (by simp [Region.wanted]) (fun V hV => by
      go_simp) hR ?_
    try simp only [Act.put, List.getElem_toArray, List.getElem_cons_zero, List.getElem_cons_succ, List.setIfInBounds_toArray, List.set_cons_zero, List.set_cons_succ]
    refine wpAnyT_take (i := 6) (.pointer (some ⟨w2.heap.size, 1, none⟩)) rfl (by kernel_rfl) (by kernel_rfl) (by kernel_rfl) (by simp [Region.wanted, yielded]) (fun V hV => by
      go_simp) hR ?_
    try simp only [Act.put, List.getElem_toArray, List.getElem_cons_zero, List.getElem_cons_succ, List.setIfInBounds_toArray, List.set_cons_zero, List.set_cons_succ]
    refine wpAnyT_take (i := 7) (.slice (some ⟨sb, so, none⟩) 3 sc) rfl (by kernel_rfl) (by kernel_rfl) (by kernel_rfl) (by simp [Region.wanted, yielded]) (fun V hV => by
      have s0 : V.cell? ⟨w2.heap.size, 0, none⟩ = some (.int .i64 sa.n) := cells_at ((hV.b.block _ (lt_of_heap HSB7.out)).trans HSB7.out) 0
      have s1 : V.cell? ⟨w2.heap.size, 1, none⟩ = some (.slice (some ⟨sb, so, none⟩) 3 sc) := cells_at ((hV.b.block _ (lt_of_heap HSB7.out)).trans HSB7.out) 1
      have sz := lt_of_heap ((hV.b.block _ (lt_of_heap HSB7.out)).trans HSB7.out)
      go_simp) hR ?_
    try simp only [Act.put, List.getElem_toArray, List.getElem_cons_zero, List.getElem_cons_succ, List.setIfInBounds_toArray, List.set_cons_zero, List.set_cons_succ]
    refine wpAnyT_take (i := 8) (.pointer (some ⟨sb, so, none⟩)) rfl (by kernel_rfl) (by kernel_rfl) (by kernel_rfl) (by simp [Region.wanted, yielded]) (fun V hV => by
      go_simp) hR ?_
    try simp only [Act.put, List.getElem_toArray, List.getElem_cons_zero, List.getElem_cons_succ, List.setIfInBounds_toArray, List.set_cons_zero, List.set_cons_succ]
    refine wpAnyT_take (i := 9) (.slice (some ⟨s2, so2, none⟩) 3 sd) rfl (by kernel_rfl) (by kernel_rfl) (by kernel_rfl) (by simp [Region.wanted, yielded]) (fun V hV => by
      have t0 := HS0.out V (HE6.out.trans hV)
      have tz : sb < V.heap.size := Nat.lt_of_lt_of_le HSZ.out (HE6.out.trans hV).size
      go_simp) hR ?_
    try simp only [Act.put, List.getElem_toArray, List.getElem_cons_zero, List.getElem_cons_succ, List.setIfInBounds_toArray, List.set_cons_zero, List.set_cons_succ]
    refine wpAnyT_take (i := 10) (.pointer (some ⟨s2, so2, none⟩)) rfl (by kernel_rfl) (by kernel_rfl) (by kernel_rfl) (by simp [Region.wanted, yielded]) (fun V hV => by
      go_simp) hR ?_
    try simp only [Act.put, List.getElem_toArray, List.getElem_cons_zero, List.getElem_cons_succ, List.setIfInBounds_toArray, List.set_cons_zero, List.set_cons_succ]
    refine wpAnyT_take (i := 11) (.agg #[.int .i64 2, .int .i64 1, .int .i64 3, .int .i64 0, .int .i64 0, .int .i64 0, .int .i64 2, .int .i64 1]) rfl (by kernel_rfl) (by kernel_rfl) (by kernel_rfl) (by simp [Region.wanted, yielded]) (fun V hV => by
      obtain ⟨x0, x1, x2, x3, x4, x5, x6, x7⟩ := HSM0.out V (HE6.out.trans hV)
      have xz : s2 < V.heap.size := Nat.lt_of_lt_of_le HS2Z.out (HE6.out.trans hV).size
      go_simp) hR ?_
    try simp only [Act.put, List.getElem_toArray, List.getElem_cons_zero, List.getElem_cons_succ, List.setIfInBounds_toArray, List.set_cons_zero, List.set_cons_succ]
    refine wpAnyT_one (i := 12) rfl (by kernel_rfl) (fun K hK => ?_)
    go_wp2_with fail
    refine (HGF.out _ _ _).mono ?_
    rintro e Wg0 ⟨rfl, hEg⟩
    go_wp2_with fail
    have hR := hR.trans hEg
    refine ⟨rfl, hK _ _ hR ?_⟩
    clear hK K hEg
    try simp only [Act.put, List.getElem_toArray, List.getElem_cons_zero, List.getElem_cons_succ, List.setIfInBounds_toArray, List.set_cons_zero, List.set_cons_succ]
    refine wpAnyT_take (i := 13) (.agg #[.int .i64 2, .int .i64 1, .int .i64 3, .int .i64 0, .int .i64 0, .int .i64 0, .int .i64 2]) rfl (by kernel_rfl) (by kernel_rfl) (by kernel_rfl) (by simp [Region.wanted, yielded]) (fun V hV => by
      go_simp) hR ?_
    try simp only [Act.put, List.getElem_toArray, List.getElem_cons_zero, List.getElem_cons_succ, List.setIfInBounds_toArray, List.set_cons_zero, List.set_cons_succ]
    refine wpAnyT_take (i := 14) (.agg #[.int .i64 2, .int .i64 1, .int .i64 3, .int .i64 0, .int .i64 0, .int .i64 0, .int .i64 2, .int .i64 1]) rfl (by kernel_rfl) (by kernel_rfl) (by kernel_rfl) (by simp [Region.wanted, yielded]) (fun V hV => by
      go_simp) hR ?_
    try simp only [Act.put, List.getElem_toArray, List.getElem_cons_zero, List.getElem_cons_succ, List.setIfInBounds_toArray, List.set_cons_zero, List.set_cons_succ]
    refine wpAnyT_take (i := 15) (.bool false) rfl (by kernel_rfl) (by kernel_rfl) (by kernel_rfl) (by simp [Region.wanted, yielded]) (fun V hV => by
      have ha : (Op.equalIn 9997 30 (.agg #[.int .i64 1, .int .i64 3, .int .i64 0, .int .i64 0, .int .i64 0]) (.agg #[.int .i64 1, .int .i64 3, .int .i64 0, .int .i64 0, .int .i64 0])).run Tryd.prog V = .ok true V := eq_arr5 9995 1 3 0 0 0 1 3 0 0 0 V
      go_simp) hR ?_
    try simp only [Act.put, List.getElem_toArray, List.getElem_cons_zero, List.getElem_cons_succ, List.setIfInBounds_toArray, List.set_cons_zero, List.set_cons_succ]
    refine wpAnyT_take (i := 16) (.bool false) rfl (by kernel_rfl) (by kernel_rfl) (by kernel_rfl) (by simp [Region.wanted]) (fun V hV => by
      go_simp) hR ?_
    try simp only [Act.put, List.getElem_toArray, List.getElem_cons_zero, List.getElem_cons_succ, List.setIfInBounds_toArray, List.set_cons_zero, List.set_cons_succ]
    refine wpAnyT_take (i := 17) (.bool false) rfl (by kernel_rfl) (by kernel_rfl) (by kernel_rfl) (by simp [Region.wanted]) (fun V hV => by
      go_simp) hR ?_
    try simp only [Act.put, List.getElem_toArray, List.getElem_cons_zero, List.getElem_cons_succ, List.setIfInBounds_toArray, List.set_cons_zero, List.set_cons_succ]
    refine wpAnyT_take (i := 18) (.pointer (some ⟨w2.heap.size, 1, none⟩)) rfl (by kernel_rfl) (by kernel_rfl) (by kernel_rfl) (by simp [Region.wanted, yielded]) (fun V hV => by
      go_simp) hR ?_
    try simp only [Act.put, List.getElem_toArray, List.getElem_cons_zero, List.getElem_cons_succ, List.setIfInBounds_toArray, List.set_cons_zero, List.set_cons_succ]
    refine wpAnyT_take (i := 19) (.slice (some ⟨sb, so, none⟩) 3 sc) rfl (by kernel_rfl) (by kernel_rfl) (by kernel_rfl) (by simp [Region.wanted, yielded]) (fun V hV => by
      have s0 : V.cell? ⟨w2.heap.size, 0, none⟩ = some (.int .i64 sa.n) := cells_at ((hV.b.block _ (lt_of_heap HSB7.out)).trans HSB7.out) 0
      have s1 : V.cell? ⟨w2.heap.size, 1, none⟩ = some (.slice (some ⟨sb, so, none⟩) 3 sc) := cells_at ((hV.b.block _ (lt_of_heap HSB7.out)).trans HSB7.out) 1
      have sz := lt_of_heap ((hV.b.block _ (lt_of_heap HSB7.out)).trans HSB7.out)
      go_simp) hR ?_
    try simp only [Act.put, List.getElem_toArray, List.getElem_cons_zero, List.getElem_cons_succ, List.setIfInBounds_toArray, List.set_cons_zero, List.set_cons_succ]
    refine wpAnyT_take (i := 20) (.pointer (some ⟨sb, so, none⟩)) rfl (by kernel_rfl) (by kernel_rfl) (by kernel_rfl) (by simp [Region.wanted, yielded]) (fun V hV => by
      go_simp) hR ?_
    try simp only [Act.put, List.getElem_toArray, List.getElem_cons_zero, List.getElem_cons_succ, List.setIfInBounds_toArray, List.set_cons_zero, List.set_cons_succ]
    refine wpAnyT_take (i := 21) (.slice (some ⟨s2, so2, none⟩) 3 sd) rfl (by kernel_rfl) (by kernel_rfl) (by kernel_rfl) (by simp [Region.wanted, yielded]) (fun V hV => by
      have t0 := HS0.out V (HE6.out.trans hV)
      have tz : sb < V.heap.size := Nat.lt_of_lt_of_le HSZ.out (HE6.out.trans hV).size
      go_simp) hR ?_
    try simp only [Act.put, List.getElem_toArray, List.getElem_cons_zero, List.getElem_cons_succ, List.setIfInBounds_toArray, List.set_cons_zero, List.set_cons_succ]
    refine wpAnyT_take (i := 22) (.pointer (some ⟨s2, so2 + 8, none⟩)) rfl (by kernel_rfl) (by kernel_rfl) (by kernel_rfl) (by simp [Region.wanted, yielded]) (fun V hV => by
      go_simp) hR ?_
    try simp only [Act.put, List.getElem_toArray, List.getElem_cons_zero, List.getElem_cons_succ, List.setIfInBounds_toArray, List.set_cons_zero, List.set_cons_succ]
    refine wpAnyT_take (i := 23) (.agg #[.int .i64 2, .int .i64 3, .int .i64 2, .int .i64 0, .int .i64 0, .int .i64 0, .int .i64 1, .int .i64 2]) rfl (by kernel_rfl) (by kernel_rfl) (by kernel_rfl) (by simp [Region.wanted, yielded]) (fun V hV => by
      obtain ⟨x0, x1, x2, x3, x4, x5, x6, x7⟩ := HSM1.out V (HE6.out.trans hV)
      have xz : s2 < V.heap.size := Nat.lt_of_lt_of_le HS2Z.out (HE6.out.trans hV).size
      go_simp) hR ?_
    try simp only [Act.put, List.getElem_toArray, List.getElem_cons_zero, List.getElem_cons_succ, List.setIfInBounds_toArray, List.set_cons_zero, List.set_cons_succ]
    refine wpAnyT_one (i := 24) rfl (by kernel_rfl) (fun K hK => ?_)
    go_wp2_with fail
    refine (HGF.out _ _ _).mono ?_
    rintro e Wg1 ⟨rfl, hEg⟩
    go_wp2_with fail
    have hR := hR.trans hEg
    refine ⟨rfl, hK _ _ hR ?_⟩
    clear hK K hEg
    try simp only [Act.put, List.getElem_toArray, List.getElem_cons_zero, List.getElem_cons_succ, List.setIfInBounds_toArray, List.set_cons_zero, List.set_cons_succ]
    refine wpAnyT_take (i := 25) (.agg #[.int .i64 2, .int .i64 3, .int .i64 2, .int .i64 0, .int .i64 0, .int .i64 0, .int .i64 1]) rfl (by kernel_rfl) (by kernel_rfl) (by kernel_rfl) (by simp [Region.wanted, yielded]) (fun V hV => by
      go_simp) hR ?_
    try simp only [Act.put, List.getElem_toArray, List.getElem_cons_zero, List.getElem_cons_succ, List.setIfInBounds_toArray, List.set_cons_zero, List.set_cons_succ]
    refine wpAnyT_take (i := 26) (.agg #[.int .i64 2, .int .i64 3, .int .i64 2, .int .i64 0, .int .i64 0, .int .i64 0, .int .i64 1, .int .i64 2]) rfl (by kernel_rfl) (by kernel_rfl) (by kernel_rfl) (by simp [Region.wanted, yielded]) (fun V hV => by
      go_simp) hR ?_
    try simp only [Act.put, List.getElem_toArray, List.getElem_cons_zero, List.getElem_cons_succ, List.setIfInBounds_toArray, List.set_cons_zero, List.set_cons_succ]
    refine wpAnyT_take (i := 27) (.bool false) rfl (by kernel_rfl) (by kernel_rfl) (by kernel_rfl) (by simp [Region.wanted, yielded]) (fun V hV => by
      have ha : (Op.equalIn 9997 30 (.agg #[.int .i64 3, .int .i64 2, .int .i64 0, .int .i64 0, .int .i64 0]) (.agg #[.int .i64 3, .int .i64 2, .int .i64 0, .int .i64 0, .int .i64 0])).run Tryd.prog V = .ok true V := eq_arr5 9995 3 2 0 0 0 3 2 0 0 0 V
      go_simp) hR ?_
    try simp only [Act.put, List.getElem_toArray, List.getElem_cons_zero, List.getElem_cons_succ, List.setIfInBounds_toArray, List.set_cons_zero, List.set_cons_succ]
    refine wpAnyT_take (i := 28) (.bool false) rfl (by kernel_rfl) (by kernel_rfl) (by kernel_rfl) (by simp [Region.wanted]) (fun V hV => by
      go_simp) hR ?_
    try simp only [Act.put, List.getElem_toArray, List.getElem_cons_zero, List.getElem_cons_succ, List.setIfInBounds_toArray, List.set_cons_zero, List.set_cons_succ]
    refine wpAnyT_done (by kernel_rfl) ?_ _
    have HE8 := hide (HE6.out.trans hR)
    clear hR
    have hpB8 := (HE8.out.b.block _ (lt_of_heap HPB.out)).trans HPB.out
    have p0 : Wg1.cell? ⟨w3.heap.size, 0, none⟩ = some (.int .i64 pa.n) := cells_at hpB8 0
    have p1 : Wg1.cell? ⟨w3.heap.size, 1, none⟩ = some (.slice (some ⟨pb, po, none⟩) 2 pc) := cells_at hpB8 1
    have pz := lt_of_heap hpB8
    clear hpB8
    go_wp2_with fail
    refine (HMP.out _ _ (HPR5.out.ext HE8.out)).mono ?_
    rintro e Wp ⟨up, rfl, hown5, hEp⟩
    have HE9 := hide (HE8.out.trans hEp)
    have HUP := hide (hown5.row (by decide))
    clear hown5 hEp p0 p1 pz
    go_wp2_with fail
    have hnew5 := heap_alloc_new Wp (.cells #[.int .i64 5, .int .i64 1] 3)
    have hr5 : Row icells 1 (Wp.alloc (.cells #[.int .i64 5, .int .i64 1] 3)) (.slice (some ⟨Wp.heap.size, 0, none⟩) 2 2) [5, 1] := Own.row (base := 0) (e := 3) ⟨fun _ => rfl, rfl, .inr ⟨Wp.heap.size, 2, _, rfl, Nat.zero_le _, hnew5, Nat.le_refl _, by unfold maxLen; omega, rfl, rfl⟩⟩ (by decide)
    refine (rsame02_any [5, 1] [5, 1] _ _ _ (HUP.out.ext ((Ext.refl Wp).alloc _)) hr5).mono ?_
    rintro e Wq ⟨rfl, hEq⟩
    have HEA := hide ((HE9.out.alloc (.cells #[.int .i64 5, .int .i64 1] 3)).trans hEq)
    clear hEq hr5 hnew5
    have hnB8 := (HEA.out.b.block _ (lt_of_heap HNB.out)).trans HNB.out
    have n0 : Wq.cell? ⟨w4.heap.size, 0, none⟩ = some (.int .i64 na.n) := cells_at hnB8 0
    have n1 : Wq.cell? ⟨w4.heap.size, 1, none⟩ = some (.slice (some ⟨nb, no, none⟩) 1 nc) := cells_at hnB8 1
    have nz := lt_of_heap hnB8
    clear hnB8
    go_wp2_with fail
    refine (HMN.out _ _ (HNR5.out.ext HEA.out)).mono ?_
    rintro e Wr ⟨un, rfl, hown6, hEr⟩
    have HEB := hide (HEA.out.trans hEr)
    have HUN := hide (hown6.row (by decide))
    clear hown6 hEr n0 n1 nz
    go_wp2_with fail
    have hnew6 := heap_alloc_new Wr (.cells #[.int .i64 3] 3)
    have hr6 : Row icells 1 (Wr.alloc (.cells #[.int .i64 3] 3)) (.slice (some ⟨Wr.heap.size, 0, none⟩) 1 1) [3] := Own.row (base := 0) (e := 3) ⟨fun _ => rfl, rfl, .inr ⟨Wr.heap.size, 1, _, rfl, Nat.zero_le _, hnew6, Nat.le_refl _, by unfold maxLen; omega, rfl, rfl⟩⟩ (by decide)
    refine (rsame02_any [3] [3] _ _ _ (HUN.out.ext ((Ext.refl Wr).alloc _)) hr6).mono ?_
    rintro e Wt ⟨rfl, hEt⟩
    have HEC := hide (HE05.out.trans ((HEB.out.alloc (.cells #[.int .i64 3] 3)).trans hEt))
    clear hEt hr6 hnew6
    go_wp2_with fail
    go_ret
    exact ⟨rfl, HEC.out⟩
end Go.Proofs.YtdlhnpogddpmpaaDoor

namespace Go.Proofs.YtdlhnpogddpmpaaDoor
open Go.RowKit
attribute [local go_sem] Oper.semAt_some

def few17 (n f : Int) : Bool := decide (n ≤ 3) || (n == 4 && decide (f ≤ 1)) || decide (5 < n)
end Go.Proofs.YtdlhnpogddpmpaaDoor
