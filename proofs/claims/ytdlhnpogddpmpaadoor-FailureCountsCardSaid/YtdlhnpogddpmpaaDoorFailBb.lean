/-
  The program's layer 17 (failure): Receive and Omit.
  Conditions: as each theorem states.
-/
import Derived.Test.YtdlhnpogddpmpaaDoorFailOb
namespace Go.Proofs.YtdlhnpogddpmpaaDoor
open Go.RowKit
attribute [local go_sem] Oper.semAt_some
theorem enters_pomit1 : ∀ args w, (callFunc 25 args).run Tryd.prog w = .ok (.enter 25 args) w := fun _ _ => by kernel_rfl
set_option maxRecDepth 16000 in
set_option maxHeartbeats 1000000 in
theorem pomit1_any {n f p b o nb : Nat} (hn : n ≤ 5) (hp : p < n) (ho : o < 2 ^ n) (V : World) (hN : NBox V nb n) :
    Calls Tryd.prog 25 #[.int .i64 p, .int .i64 b, .int .i64 o, .pointer (some ⟨nb, 0, none⟩)] V (RowOk V ((omitM n f).rows p b o)) := by
  have h32 := pow32_le hn
  have hp5 : p < 5 := by omega
  have hbit := bit_run (x := o) (p := p) (by omega) hp5
  have hpw := pow_run hp5
  have hp64 : (p : Int) < 64 := by omega
  have c0 := hN.cell
  have z0 := lt_of_heap hN
  have hf := full_lt32 hn
  have h1 := andNot_run hf (show o < 32 by omega)
  have hp32 := pow5_lt hp5
  have hA := andNot_lt hf (show o < 32 by omega)
  have h3 := or_run hA hp32
  have HF := hide (pfull_any n hn)
  have HLT : Hid (2 ^ p < 32 ∧ fullN n < 32 ∧ andNot (fullN n) o ||| 2 ^ p < 32) := ⟨hp32, hf, Nat.or_lt_two_pow (n := 5) hA hp32⟩
  have HR : Hid ((omitM n f).rows p b o = if bit o p = true then betwL (2 ^ p) (fullN n) else betwL (andNot (fullN n) o ||| 2 ^ p) (fullN n)) := rfl
  obtain ⟨x, hx⟩ : ∃ x, 2 ^ p = x := ⟨_, rfl⟩
  rw [hx] at HLT hpw HR h3 hp32
  clear hx
  cases hc : bit o p with
  | true =>
    rw [hc] at hbit HR
    have HR := hide (HR.out.trans (if_pos rfl))
    clear hc
    go_enter Tryd.func25, Tryd.ntmps25
    go_upto_region 2 with fail
    refine wp_region_still_tail 4 (by kernel_rfl) (by kernel_rfl) ?_
    simp only [List.take_succ_cons, List.take_zero, List.drop_succ_cons, List.drop_zero]
    repeat (first | still_step | still_call (HF.out _))
    refine wpStill_nil ?_
    change wpList _ _ _ _ _ V.drew
    have HE : Hid (Ext V V.drew) := (Ext.refl V).drew
    clear c0 z0
    generalize V.drew = V1 at HE ⊢
    go_wp2_with fail
    refine (pbetween_any x (fullN n) V1).mono ?_
    rintro e V2 ⟨rfl, g1, g2, g3⟩
    have hsz := HE.out.size
    go_wp2_with fail
    go_ret
    exact ⟨_, _, _, _, rfl, g1, g2, hsz, by omega, HR.out.symm, HLT.out.1, HLT.out.2.1, HE.out.trans g3⟩
  | false =>
    rw [hc] at hbit HR
    have HR := hide (HR.out.trans (if_neg (by decide)))
    clear hc
    go_enter Tryd.func25, Tryd.ntmps25
    go_upto_region 3 with fail
    refine wp_region_still_tail 9 (by kernel_rfl) (by kernel_rfl) ?_
    simp only [List.take_succ_cons, List.take_zero, List.drop_succ_cons, List.drop_zero]
    repeat (first | still_step | still_call (HF.out _))
    refine wpStill_nil ?_
    change wpList _ _ _ _ _ V.drew
    have HE : Hid (Ext V V.drew) := (Ext.refl V).drew
    clear c0 z0
    generalize V.drew = V1 at HE ⊢
    go_wp2_with fail
    refine (pbetween_any (andNot (fullN n) o ||| x) (fullN n) V1).mono ?_
    rintro e V2 ⟨rfl, g1, g2, g3⟩
    have hsz := HE.out.size
    go_wp2_with fail
    go_ret
    exact ⟨_, _, _, _, rfl, g1, g2, hsz, by omega, HR.out.symm, HLT.out.2.2, HLT.out.2.1, HE.out.trans g3⟩
theorem enters_pomit21 : ∀ args w, (callFunc 28 args).run Tryd.prog w = .ok (.enter 28 args) w := fun _ _ => by kernel_rfl
theorem enters_pomit2 : ∀ args w, (callFunc 26 args).run Tryd.prog w = .ok (.enter 26 args) w := fun _ _ => by kernel_rfl
set_option maxRecDepth 16000 in
set_option maxHeartbeats 1000000 in
theorem pomit21_any {n x b bg nb fb : Nat} {g : Gr} (hn : n ≤ 5) (hx : x < n) (hb : b < 32) (hg : GS n g) (w : World) (hB : GrBox w bg g) (hN : NBox w nb n) (hF : NBox w fb b) :
    Calls Tryd.prog 28 #[.int .i64 x, .pointer (some ⟨bg, 0, none⟩), .pointer (some ⟨nb, 0, none⟩), .pointer (some ⟨fb, 0, none⟩)] w fun e w' => e = .returned (.bool (decide (andNot (andNot (unheardN g n x ||| andNot (fullN n) (g.h x).toNat) b) (2 ^ x) ≠ 0))) ∧ Ext w w' := by
  have hU := (unheard_bit (g := g) (n := n) (x := x) (i := 0) hn (by decide)).1
  have HU := hide (fun W => punheard_any hn (show x < 5 by omega) hg W)
  obtain ⟨s, hs, hs32⟩ := hg.2 x (by omega)
  obtain ⟨g0, g1, g2, g3, g4, g5, zg⟩ := hB.cells
  obtain ⟨r0, -⟩ := hB.row (p := x) (by omega)
  have HB := hide hB
  rw [hs] at r0
  have c0 := hN.cell
  have z0 := lt_of_heap hN
  have HN := hide hN
  have HFB := hide hF
  have d0 := hF.cell
  have y0 := lt_of_heap hF
  have hx5 : (x : Int) < 5 := by omega
  have hx64 : (x : Int) < 64 := by omega
  have hf := full_lt32 hn
  have HF := hide (pfull_any n hn)
  have hpw := pow_run (p := x) (by omega)
  have hp32 := pow5_lt (p := x) (by omega)
  have k1 := andNot_run hf hs32
  have l1 := andNot_lt hf hs32
  have k2 := or_run hU l1
  have l2 : unheardN g n x ||| andNot (fullN n) s < 32 := Nat.or_lt_two_pow (n := 5) hU l1
  have k3 := andNot_run l2 hb
  have l3 := andNot_lt l2 hb
  have k4 := andNot_run l3 hp32
  rw [show (g.h x).toNat = s by rw [hs]; rfl]
  have HX : Hid (decide (andNot (andNot (unheardN g n x ||| andNot (fullN n) s) b) (2 ^ x) ≠ 0) = (((andNot (andNot (unheardN g n x ||| andNot (fullN n) s) b) (2 ^ x) : Nat) : Int) != 0)) := by
    show _ = _
    by_cases h : andNot (andNot (unheardN g n x ||| andNot (fullN n) s) b) (2 ^ x) = 0 <;> simp [h]
  rw [HX.out]
  clear HX hU l1 l2 l3 hf hs32 hb hp32 hs
  generalize andNot (andNot (unheardN g n x ||| andNot (fullN n) s) b) (2 ^ x) = m4 at k4 ⊢
  generalize andNot (unheardN g n x ||| andNot (fullN n) s) b = m3 at k3 k4
  generalize unheardN g n x ||| andNot (fullN n) s = m2 at k2 k3
  generalize andNot (fullN n) s = m1 at k1 k2
  generalize unheardN g n x = u at HU k2
  generalize 2 ^ x = px at hpw k4
  clear hg hB hN hF hx hn
  go_enter Tryd.func28, Tryd.ntmps28
  go_upto_region 1 with fail
  refine wp_region_ext (by kernel_rfl) (by kernel_rfl) ?_
  repeat (go_big_quiet_step (first | (go_at_call 14; exact Calls.ext_same (HF.out _)) | (go_at_call 29; exact Calls.ext_of (HU.out _))))
  refine wpQuiet_nil ?_
  rintro w9 ⟨⟨_, hE9⟩, rfl⟩
  go_wp2_with fail
  go_ret
  exact ⟨rfl, hE9⟩
set_option maxRecDepth 16000 in
set_option maxHeartbeats 1000000 in
theorem pomit2_any {n f b o nb : Nat} {g : Gr} (hn : n ≤ 5) (hb : b < 2 ^ n) (ho : o < 2 ^ n) (hg : GS n g) (V : World) (hN : NBox V nb n) :
    Calls Tryd.prog 26 #[g.v, .int .i64 b, .int .i64 o, .pointer (some ⟨nb, 0, none⟩)] V fun e w' => e = .returned (.bool ((omitM n f).fits g b o)) ∧ Ext V w' := by
  have h32 := pow32_le hn
  have HK := hide (fun W bg x (hx : x < n) (h : GrBox W bg g) (hN : NBox W nb n) (fb : Nat) (hF : NBox W fb b) => pomit21_any hn hx (show b < 32 by omega) hg W h hN hF)
  obtain ⟨W1, hW1⟩ : ∃ W1, (V.alloc (.cells #[.int .i64 g.n, .int .i64 g.h0, .int .i64 g.h1, .int .i64 g.h2, .int .i64 g.h3, .int .i64 g.h4] 32)).alloc (.cells #[.int .i64 b] 3) = W1 := ⟨_, rfl⟩
  have HE1 : Hid (Ext V W1) := by show Ext _ _; rw [← hW1]; exact ((Ext.refl V).alloc _).alloc _
  have HG1 : Hid (GrBox W1 V.heap.size g) := by show _ = _; rw [← hW1, Below.heap_alloc _ _ _ (by simp)]; exact heap_alloc_new V _
  have HF1 : Hid (NBox W1 (V.heap.size + 1) b) := by
    show _ = _
    rw [← hW1]
    have := heap_alloc_new (V.alloc (.cells #[.int .i64 g.n, .int .i64 g.h0, .int .i64 g.h1, .int .i64 g.h2, .int .i64 g.h3, .int .i64 g.h4] 32)) (.cells #[.int .i64 b] 3)
    rwa [World.size_alloc] at this
  have HW1 := hide hW1
  have HC := hide (fun W (hE : Ext W1 W) => peach_any (fb := #[.pointer (some ⟨V.heap.size, 0, none⟩), .pointer (some ⟨nb, 0, none⟩), .pointer (some ⟨V.heap.size + 1, 0, none⟩)]) (ok := fun x => decide (andNot (andNot (unheardN g n x ||| andNot (fullN n) (g.h x).toNat) b) (2 ^ x) ≠ 0)) W hn (show b < 32 by omega) (show o < 32 by omega) enters_pomit21 fun x V' hx hE' => HK.out V' V.heap.size x hx ((hE.trans hE').b.block _ (lt_of_heap HG1.out) |>.trans HG1.out) (hN.ext (HE1.out.trans (hE.trans hE'))) _ (HF1.out.ext (hE.trans hE')))
  have HR : Hid ((omitM n f).fits g b o = eachN n b o fun x => decide (andNot (andNot (unheardN g n x ||| andNot (fullN n) (g.h x).toNat) b) (2 ^ x) ≠ 0)) := rfl
  rw [HR.out]
  generalize (eachN n b o fun x => decide (andNot (andNot (unheardN g n x ||| andNot (fullN n) (g.h x).toNat) b) (2 ^ x) ≠ 0)) = res at HC ⊢
  have c0 := hN.cell
  have z0 := lt_of_heap hN
  clear HR HK hg hN hW1 h32 ho hb hn
  go_enter Tryd.func26, Tryd.ntmps26
  go_wp2_with fail
  rw [HW1.out]
  refine (HC.out W1 (Ext.refl _)).mono ?_
  rintro e w2 ⟨rfl, hE⟩
  go_wp2_with fail
  go_ret
  exact ⟨rfl, HE1.out.trans hE⟩
theorem omit_ask {n f b o nb : Nat} (hn : n ≤ 5) (hb : b < 2 ^ n) (ho : o < 2 ^ n) :
    MAsk n f b o 25 26 #[.pointer (some ⟨nb, 0, none⟩)] #[.pointer (some ⟨nb, 0, none⟩)] (fun p => (omitM n f).rows p b o) (fun g => (omitM n f).fits g b o) (fun W => NBox W nb n) where
  n5 := hn
  er := enters_pomit1
  ef := enters_pomit2
  rows := fun _p V hp hN => pomit1_any hn hp ho V hN
  fit := fun _g V hg hN => pomit2_any hn hb ho hg V hN
theorem pomit_any (n f : Int) (w : World) : Calls Tryd.prog 8 #[.int .i64 n, .int .i64 f] w (RetF (mdlA 4 n f) w) := by
  have HC := hide (fun (W : World) (hN : NBox W w.heap.size n) => pof_any (op := 4) (by omega) (f := f) W hN (fun m _ hm b o hb ho => omit_ask (f := f.toNat) hm hb ho) fun m k b => omit_ne m k b)
  generalize mdlA 4 n f = res at HC ⊢
  obtain ⟨w2, hw2⟩ : ∃ w2, (w.alloc (.cells #[.int .i64 n] 3)).alloc (.cells #[.int .i64 0, .slice none 0 0] 24) = w2 := ⟨_, rfl⟩
  have HE : Hid (Ext w w2) := by show Ext _ _; rw [← hw2]; exact ((Ext.refl w).alloc _).alloc _
  have HN : Hid (NBox w2 w.heap.size n) := by show _ = _; rw [← hw2, Below.heap_alloc _ _ _ (by simp)]; exact heap_alloc_new w _
  have HP : Hid (w2.heap[w.heap.size + 1]? = some (.cells #[.int .i64 0, .slice none 0 0] 24 (0, 0))) := by
    show _ = _
    rw [← hw2]
    have := heap_alloc_new (w.alloc (.cells #[.int .i64 n] 3)) (.cells #[.int .i64 0, .slice none 0 0] 24)
    rwa [World.size_alloc] at this
  have HW := hide hw2
  clear hw2
  go_enter Tryd.func8, Tryd.ntmps8
  go_wp2_with fail
  rw [HW.out]
  refine (HC.out w2 HN.out).mono ?_
  rintro e w3 ⟨v, rfl, hv, hE3⟩
  obtain ⟨sv, rfl, hco, -⟩ := id hv
  obtain ⟨sq, sc, rfl⟩ := hco.sl
  clear hco
  have hp3 := (hE3.b.block _ (lt_of_heap HP.out)).trans HP.out
  have a0 : w3.cell? ⟨w.heap.size + 1, 0, none⟩ = some (.int .i64 0) := cells_at hp3 0
  have a1 : w3.cell? ⟨w.heap.size + 1, 1, none⟩ = some (.slice none 0 0) := cells_at hp3 1
  have af : w3.frozen? ⟨w.heap.size + 1, 0, none⟩ = false := frozen_of hp3
  have af1 : w3.frozen? ⟨w.heap.size + 1, 1, none⟩ = false := frozen_of hp3
  have az := lt_of_heap hp3
  have HP3 := hide hp3
  have HV := hide hv
  have HE3 := hide (HE.out.trans hE3)
  have HZ2 : Hid (w.heap.size ≤ w2.heap.size) := HE.out.size
  clear hp3 hv hE3
  go_wp2_with fail
  exact bodyPost_ret (results_adv1 rfl rfl rfl (heap_set (heap_set HP3.out _) _)) rfl ⟨_, rfl, (HV.out.stored2 HP3.out).mono HZ2.out, (HE3.out.setCell (p := ⟨w.heap.size + 1, 0, none⟩) (by show w.heap.size ≤ w.heap.size + 1; omega) _).setCell (p := ⟨w.heap.size + 1, 1, none⟩) (by show w.heap.size ≤ w.heap.size + 1; omega) _⟩
end Go.Proofs.YtdlhnpogddpmpaaDoor
