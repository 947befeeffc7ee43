/-
  The program's layer 17 (failure): Receive and Omit.
  Conditions: as each theorem states.
-/
import Derived.Test.YtnhgdjiljjpgmaaFailOb
namespace Go.Proofs.Ytnhgdjiljjpgmaa
open Go.RowKit
attribute [local go_sem] Oper.semAt_some
theorem enters_precv1 : ∀ args w, (callFunc 29 args).run Try.prog w = .ok (.enter 29 args) w := fun _ _ => by kernel_rfl
set_option maxRecDepth 16000 in
set_option maxHeartbeats 1000000 in
theorem precv1_any {n f p b o nb : Nat} (hn : n ≤ 5) (hp : p < n) (ho : o < 2 ^ n) (V : World) (hN : NBox V nb n) :
    Calls Try.prog 29 #[.int .i64 p, .int .i64 b, .int .i64 o, .pointer (some ⟨nb, 0, none⟩)] V (RowOk V ((recvM n f).rows p b o)) := by
  have h32 := pow32_le hn
  have hp5 : p < 5 := by omega
  have hbit := bit_run (x := o) (p := p) (by omega) hp5
  have hpw := pow_run hp5
  have hp64 : (p : Int) < 64 := by omega
  have c0 := hN.cell
  have z0 := lt_of_heap hN
  have hf := full_lt32 hn
  have h1 := andNot_run hf (show o < 32 by omega)
  have hp32 := pow5_lt hp5
  have hA := andNot_lt hf (show o < 32 by omega)
  have h3 := or_run hA hp32
  have HF := hide (pfull_any n hn)
  have HLT : Hid (2 ^ p < 32 ∧ fullN n < 32 ∧ andNot (fullN n) o ||| 2 ^ p < 32) := ⟨hp32, hf, Nat.or_lt_two_pow (n := 5) hA hp32⟩
  have HR : Hid ((recvM n f).rows p b o = if bit o p = true then betwL (2 ^ p) (fullN n) else betwL (fullN n) (fullN n)) := rfl
  obtain ⟨x, hx⟩ : ∃ x, 2 ^ p = x := ⟨_, rfl⟩
  rw [hx] at HLT hpw HR h3 hp32
  clear hx
  cases hc : bit o p with
  | true =>
    rw [hc] at hbit HR
    have HR := hide (HR.out.trans (if_pos rfl))
    clear hc
    go_enter Try.func29, Try.ntmps29
    go_upto_region 2 with fail
    refine wp_region_still_tail 4 (by kernel_rfl) (by kernel_rfl) ?_
    simp only [List.take_succ_cons, List.take_zero, List.drop_succ_cons, List.drop_zero]
    repeat (first | still_step | still_call (HF.out _))
    refine wpStill_nil ?_
    change wpList _ _ _ _ _ V.drew
    have HE : Hid (Ext V V.drew) := (Ext.refl V).drew
    clear c0 z0
    generalize V.drew = V1 at HE ⊢
    go_wp2_with fail
    refine (pbetween_any x (fullN n) V1).mono ?_
    rintro e V2 ⟨rfl, g1, g2, g3⟩
    have hsz := HE.out.size
    go_wp2_with fail
    go_ret
    exact ⟨_, _, _, _, rfl, g1, g2, hsz, by omega, HR.out.symm, HLT.out.1, HLT.out.2.1, HE.out.trans g3⟩
  | false =>
    rw [hc] at hbit HR
    have HR := hide (HR.out.trans (if_neg (by decide)))
    clear hc
    go_enter Try.func29, Try.ntmps29
    go_upto_region 3 with fail
    refine wp_region_still_tail 4 (by kernel_rfl) (by kernel_rfl) ?_
    simp only [List.take_succ_cons, List.take_zero, List.drop_succ_cons, List.drop_zero]
    repeat (first | still_step | still_call (HF.out _))
    refine wpStill_nil ?_
    change wpList _ _ _ _ _ V.drew
    have HE : Hid (Ext V V.drew) := (Ext.refl V).drew
    clear c0 z0
    generalize V.drew = V1 at HE ⊢
    go_wp2_with fail
    refine (pbetween_any (fullN n) (fullN n) V1).mono ?_
    rintro e V2 ⟨rfl, g1, g2, g3⟩
    have hsz := HE.out.size
    go_wp2_with fail
    go_ret
    exact ⟨_, _, _, _, rfl, g1, g2, hsz, by omega, HR.out.symm, HLT.out.2.1, HLT.out.2.1, HE.out.trans g3⟩
theorem enters_pomit1 : ∀ args w, (callFunc 32 args).run Try.prog w = .ok (.enter 32 args) w := fun _ _ => by kernel_rfl
set_option maxRecDepth 16000 in
set_option maxHeartbeats 1000000 in
theorem pomit1_any {n f p b o nb : Nat} (hn : n ≤ 5) (hp : p < n) (ho : o < 2 ^ n) (V : World) (hN : NBox V nb n) :
    Calls Try.prog 32 #[.int .i64 p, .int .i64 b, .int .i64 o, .pointer (some ⟨nb, 0, none⟩)] V (RowOk V ((omitM n f).rows p b o)) := by
  have h32 := pow32_le hn
  have hp5 : p < 5 := by omega
  have hbit := bit_run (x := o) (p := p) (by omega) hp5
  have hpw := pow_run hp5
  have hp64 : (p : Int) < 64 := by omega
  have c0 := hN.cell
  have z0 := lt_of_heap hN
  have hf := full_lt32 hn
  have h1 := andNot_run hf (show o < 32 by omega)
  have hp32 := pow5_lt hp5
  have hA := andNot_lt hf (show o < 32 by omega)
  have h3 := or_run hA hp32
  have HF := hide (pfull_any n hn)
  have HLT : Hid (2 ^ p < 32 ∧ fullN n < 32 ∧ andNot (fullN n) o ||| 2 ^ p < 32) := ⟨hp32, hf, Nat.or_lt_two_pow (n := 5) hA hp32⟩
  have HR : Hid ((omitM n f).rows p b o = if bit o p = true then betwL (2 ^ p) (fullN n) else betwL (andNot (fullN n) o ||| 2 ^ p) (fullN n)) := rfl
  obtain ⟨x, hx⟩ : ∃ x, 2 ^ p = x := ⟨_, rfl⟩
  rw [hx] at HLT hpw HR h3 hp32
  clear hx
  cases hc : bit o p with
  | true =>
    rw [hc] at hbit HR
    have HR := hide (HR.out.trans (if_pos rfl))
    clear hc
    go_enter Try.func32, Try.ntmps32
    go_upto_region 2 with fail
    refine wp_region_still_tail 4 (by kernel_rfl) (by kernel_rfl) ?_
    simp only [List.take_succ_cons, List.take_zero, List.drop_succ_cons, List.drop_zero]
    repeat (first | still_step | still_call (HF.out _))
    refine wpStill_nil ?_
    change wpList _ _ _ _ _ V.drew
    have HE : Hid (Ext V V.drew) := (Ext.refl V).drew
    clear c0 z0
    generalize V.drew = V1 at HE ⊢
    go_wp2_with fail
    refine (pbetween_any x (fullN n) V1).mono ?_
    rintro e V2 ⟨rfl, g1, g2, g3⟩
    have hsz := HE.out.size
    go_wp2_with fail
    go_ret
    exact ⟨_, _, _, _, rfl, g1, g2, hsz, by omega, HR.out.symm, HLT.out.1, HLT.out.2.1, HE.out.trans g3⟩
  | false =>
    rw [hc] at hbit HR
    have HR := hide (HR.out.trans (if_neg (by decide)))
    clear hc
    go_enter Try.func32, Try.ntmps32
    go_upto_region 3 with fail
    refine wp_region_still_tail 9 (by kernel_rfl) (by kernel_rfl) ?_
    simp only [List.take_succ_cons, List.take_zero, List.drop_succ_cons, List.drop_zero]
    repeat (first | still_step | still_call (HF.out _))
    refine wpStill_nil ?_
    change wpList _ _ _ _ _ V.drew
    have HE : Hid (Ext V V.drew) := (Ext.refl V).drew
    clear c0 z0
    generalize V.drew = V1 at HE ⊢
    go_wp2_with fail
    refine (pbetween_any (andNot (fullN n) o ||| x) (fullN n) V1).mono ?_
    rintro e V2 ⟨rfl, g1, g2, g3⟩
    have hsz := HE.out.size
    go_wp2_with fail
    go_ret
    exact ⟨_, _, _, _, rfl, g1, g2, hsz, by omega, HR.out.symm, HLT.out.2.2, HLT.out.2.1, HE.out.trans g3⟩
theorem enters_precv21 : ∀ args w, (callFunc 31 args).run Try.prog w = .ok (.enter 31 args) w := fun _ _ => by kernel_rfl
theorem enters_precv2 : ∀ args w, (callFunc 30 args).run Try.prog w = .ok (.enter 30 args) w := fun _ _ => by kernel_rfl
set_option maxRecDepth 16000 in
set_option maxHeartbeats 1000000 in
theorem precv21_any {n x bg nb : Nat} {g : Gr} (hn : n ≤ 5) (hx : x < n) (hg : GS n g) (w : World) (hB : GrBox w bg g) (hN : NBox w nb n) :
    Calls Try.prog 31 #[.int .i64 x, .pointer (some ⟨bg, 0, none⟩), .pointer (some ⟨nb, 0, none⟩)] w fun e w' => e = .returned (.bool (decide ((g.h x).toNat ≠ fullN n))) ∧ Ext w w' := by
  obtain ⟨s, hs, hs32⟩ := hg.2 x (by omega)
  obtain ⟨r0, -⟩ := hB.row (p := x) (by omega)
  rw [hs] at r0 ⊢
  have gz := lt_of_heap hB
  have c0 := hN.cell
  have z0 := lt_of_heap hN
  have hx5 : (x : Int) < 5 := by omega
  have HF := hide (pfull_any n hn)
  have HX : Hid (decide (((s : Int)).toNat ≠ fullN n) = (((s : Nat) : Int) != ((fullN n : Nat) : Int))) := by
    show _ = _
    rw [Int.toNat_natCast]
    by_cases h : s = fullN n
    · simp [h]
    · rw [decide_eq_true h]
      have : ((s : Nat) : Int) ≠ ((fullN n : Nat) : Int) := by omega
      simp [this]
  rw [HX.out]
  clear hg hB hN HX hx hn hs hs32
  generalize fullN n = u at HF ⊢
  go_enter Try.func31, Try.ntmps31
  go_upto_region 1 with fail
  refine wp_region_ext (by kernel_rfl) (by kernel_rfl) ?_
  repeat (go_big_quiet_step (first | (go_at_call 22; exact Calls.ext_same (HF.out _))))
  refine wpQuiet_nil ?_
  rintro w9 ⟨⟨_, hE9⟩, rfl⟩
  go_wp2_with fail
  go_ret
  exact ⟨rfl, hE9⟩
theorem enters_pomit21 : ∀ args w, (callFunc 34 args).run Try.prog w = .ok (.enter 34 args) w := fun _ _ => by kernel_rfl
theorem enters_pomit2 : ∀ args w, (callFunc 33 args).run Try.prog w = .ok (.enter 33 args) w := fun _ _ => by kernel_rfl
set_option maxRecDepth 16000 in
set_option maxHeartbeats 1000000 in
theorem pomit21_any {n x b bg nb fb : Nat} {g : Gr} (hn : n ≤ 5) (hx : x < n) (hb : b < 32) (hg : GS n g) (w : World) (hB : GrBox w bg g) (hN : NBox w nb n) (hF : NBox w fb b) :
    Calls Try.prog 34 #[.int .i64 x, .pointer (some ⟨bg, 0, none⟩), .pointer (some ⟨nb, 0, none⟩), .pointer (some ⟨fb, 0, none⟩)] w fun e w' => e = .returned (.bool (decide (andNot (andNot (unheardN g n x ||| andNot (fullN n) (g.h x).toNat) b) (2 ^ x) ≠ 0))) ∧ Ext w w' := by
  have hU := (unheard_bit (g := g) (n := n) (x := x) (i := 0) hn (by decide)).1
  have HU := hide (fun W => punheard_any hn (show x < 5 by omega) hg W)
  obtain ⟨s, hs, hs32⟩ := hg.2 x (by omega)
  obtain ⟨g0, g1, g2, g3, g4, g5, zg⟩ := hB.cells
  obtain ⟨r0, -⟩ := hB.row (p := x) (by omega)
  have HB := hide hB
  rw [hs] at r0
  have c0 := hN.cell
  have z0 := lt_of_heap hN
  have HN := hide hN
  have HFB := hide hF
  have d0 := hF.cell
  have y0 := lt_of_heap hF
  have hx5 : (x : Int) < 5 := by omega
  have hx64 : (x : Int) < 64 := by omega
  have hf := full_lt32 hn
  have HF := hide (pfull_any n hn)
  have hpw := pow_run (p := x) (by omega)
  have hp32 := pow5_lt (p := x) (by omega)
  have k1 := andNot_run hf hs32
  have l1 := andNot_lt hf hs32
  have k2 := or_run hU l1
  have l2 : unheardN g n x ||| andNot (fullN n) s < 32 := Nat.or_lt_two_pow (n := 5) hU l1
  have k3 := andNot_run l2 hb
  have l3 := andNot_lt l2 hb
  have k4 := andNot_run l3 hp32
  rw [show (g.h x).toNat = s by rw [hs]; rfl]
  have HX : Hid (decide (andNot (andNot (unheardN g n x ||| andNot (fullN n) s) b) (2 ^ x) ≠ 0) = (((andNot (andNot (unheardN g n x ||| andNot (fullN n) s) b) (2 ^ x) : Nat) : Int) != 0)) := by
    show _ = _
    by_cases h : andNot (andNot (unheardN g n x ||| andNot (fullN n) s) b) (2 ^ x) = 0 <;> simp [h]
  rw [HX.out]
  clear HX hU l1 l2 l3 hf hs32 hb hp32 hs
  generalize andNot (andNot (unheardN g n x ||| andNot (fullN n) s) b) (2 ^ x) = m4 at k4 ⊢
  generalize andNot (unheardN g n x ||| andNot (fullN n) s) b = m3 at k3 k4
  generalize unheardN g n x ||| andNot (fullN n) s = m2 at k2 k3
  generalize andNot (fullN n) s = m1 at k1 k2
  generalize unheardN g n x = u at HU k2
  generalize 2 ^ x = px at hpw k4
  clear hg hB hN hF hx hn
  go_enter Try.func34, Try.ntmps34
  go_upto_region 1 with fail
  refine wp_region_ext (by kernel_rfl) (by kernel_rfl) ?_
  repeat (go_big_quiet_step (first | (go_at_call 22; exact Calls.ext_same (HF.out _)) | (go_at_call 28; exact Calls.ext_of (HU.out _))))
  refine wpQuiet_nil ?_
  rintro w9 ⟨⟨_, hE9⟩, rfl⟩
  go_wp2_with fail
  go_ret
  exact ⟨rfl, hE9⟩
set_option maxRecDepth 16000 in
set_option maxHeartbeats 1000000 in
theorem precv2_any {n f b o nb : Nat} {g : Gr} (hn : n ≤ 5) (hb : b < 2 ^ n) (ho : o < 2 ^ n) (hg : GS n g) (V : World) (hN : NBox V nb n) :
    Calls Try.prog 30 #[g.v, .int .i64 b, .int .i64 o, .pointer (some ⟨nb, 0, none⟩)] V fun e w' => e = .returned (.bool ((recvM n f).fits g b o)) ∧ Ext V w' := by
  have h32 := pow32_le hn
  have HK := hide (fun W bg x (hx : x < n) (h : GrBox W bg g) (hN : NBox W nb n) => precv21_any hn hx hg W h hN)
  obtain ⟨W1, hW1⟩ : ∃ W1, V.alloc (.cells #[.int .i64 g.n, .int .i64 g.h0, .int .i64 g.h1, .int .i64 g.h2, .int .i64 g.h3, .int .i64 g.h4] 36) = W1 := ⟨_, rfl⟩
  have HE1 : Hid (Ext V W1) := by show Ext _ _; rw [← hW1]; exact (Ext.refl V).alloc _
  have HG1 : Hid (GrBox W1 V.heap.size g) := by show _ = _; rw [← hW1]; exact heap_alloc_new V _
  have HW1 := hide hW1
  have HC := hide (fun W (hE : Ext W1 W) => peach_any (fb := #[.pointer (some ⟨V.heap.size, 0, none⟩), .pointer (some ⟨nb, 0, none⟩)]) (ok := fun x => decide ((g.h x).toNat ≠ fullN n)) W hn (show b < 32 by omega) (show o < 32 by omega) enters_precv21 fun x V' hx hE' => HK.out V' V.heap.size x hx ((hE.trans hE').b.block _ (lt_of_heap HG1.out) |>.trans HG1.out) (hN.ext (HE1.out.trans (hE.trans hE'))))
  have HR : Hid ((recvM n f).fits g b o = eachN n b o fun x => decide ((g.h x).toNat ≠ fullN n)) := rfl
  rw [HR.out]
  generalize (eachN n b o fun x => decide ((g.h x).toNat ≠ fullN n)) = res at HC ⊢
  have c0 := hN.cell
  have z0 := lt_of_heap hN
  clear HR HK hg hN hW1 h32 ho hb hn
  go_enter Try.func30, Try.ntmps30
  go_wp2_with fail
  rw [HW1.out]
  refine (HC.out W1 (Ext.refl _)).mono ?_
  rintro e w2 ⟨rfl, hE⟩
  go_wp2_with fail
  go_ret
  exact ⟨rfl, HE1.out.trans hE⟩
set_option maxRecDepth 16000 in
set_option maxHeartbeats 1000000 in
theorem pomit2_any {n f b o nb : Nat} {g : Gr} (hn : n ≤ 5) (hb : b < 2 ^ n) (ho : o < 2 ^ n) (hg : GS n g) (V : World) (hN : NBox V nb n) :
    Calls Try.prog 33 #[g.v, .int .i64 b, .int .i64 o, .pointer (some ⟨nb, 0, none⟩)] V fun e w' => e = .returned (.bool ((omitM n f).fits g b o)) ∧ Ext V w' := by
  have h32 := pow32_le hn
  have HK := hide (fun W bg x (hx : x < n) (h : GrBox W bg g) (hN : NBox W nb n) (fb : Nat) (hF : NBox W fb b) => pomit21_any hn hx (show b < 32 by omega) hg W h hN hF)
  obtain ⟨W1, hW1⟩ : ∃ W1, (V.alloc (.cells #[.int .i64 g.n, .int .i64 g.h0, .int .i64 g.h1, .int .i64 g.h2, .int .i64 g.h3, .int .i64 g.h4] 36)).alloc (.cells #[.int .i64 b] 3) = W1 := ⟨_, rfl⟩
  have HE1 : Hid (Ext V W1) := by show Ext _ _; rw [← hW1]; exact ((Ext.refl V).alloc _).alloc _
  have HG1 : Hid (GrBox W1 V.heap.size g) := by show _ = _; rw [← hW1, Below.heap_alloc _ _ _ (by simp)]; exact heap_alloc_new V _
  have HF1 : Hid (NBox W1 (V.heap.size + 1) b) := by
    show _ = _
    rw [← hW1]
    have := heap_alloc_new (V.alloc (.cells #[.int .i64 g.n, .int .i64 g.h0, .int .i64 g.h1, .int .i64 g.h2, .int .i64 g.h3, .int .i64 g.h4] 36)) (.cells #[.int .i64 b] 3)
    rwa [World.size_alloc] at this
  have HW1 := hide hW1
  have HC := hide (fun W (hE : Ext W1 W) => peach_any (fb := #[.pointer (some ⟨V.heap.size, 0, none⟩), .pointer (some ⟨nb, 0, none⟩), .pointer (some ⟨V.heap.size + 1, 0, none⟩)]) (ok := fun x => decide (andNot (andNot (unheardN g n x ||| andNot (fullN n) (g.h x).toNat) b) (2 ^ x) ≠ 0)) W hn (show b < 32 by omega) (show o < 32 by omega) enters_pomit21 fun x V' hx hE' => HK.out V' V.heap.size x hx ((hE.trans hE').b.block _ (lt_of_heap HG1.out) |>.trans HG1.out) (hN.ext (HE1.out.trans (hE.trans hE'))) _ (HF1.out.ext (hE.trans hE')))
  have HR : Hid ((omitM n f).fits g b o = eachN n b o fun x => decide (andNot (andNot (unheardN g n x ||| andNot (fullN n) (g.h x).toNat) b) (2 ^ x) ≠ 0)) := rfl
  rw [HR.out]
  generalize (eachN n b o fun x => decide (andNot (andNot (unheardN g n x ||| andNot (fullN n) (g.h x).toNat) b) (2 ^ x) ≠ 0)) = res at HC ⊢
  have c0 := hN.cell
  have z0 := lt_of_heap hN
  clear HR HK hg hN hW1 h32 ho hb hn
  go_enter Try.func33, Try.ntmps33
  go_wp2_with fail
  rw [HW1.out]
  refine (HC.out W1 (Ext.refl _)).mono ?_
  rintro e w2 ⟨rfl, hE⟩
  go_wp2_with fail
  go_ret
  exact ⟨rfl, HE1.out.trans hE⟩
/-- What the closures of Receive answer. -/
theorem recv_ask {n f b o nb : Nat} (hn : n ≤ 5) (hb : b < 2 ^ n) (ho : o < 2 ^ n) :
    MAsk n f b o 29 30 #[.pointer (some ⟨nb, 0, none⟩)] #[.pointer (some ⟨nb, 0, none⟩)] (fun p => (recvM n f).rows p b o) (fun g => (recvM n f).fits g b o) (fun W => NBox W nb n) where
  n5 := hn
  er := enters_precv1
  ef := enters_precv2
  rows := fun _p V hp hN => precv1_any hn hp ho V hN
  fit := fun _g V hg hN => precv2_any hn hb ho hg V hN
theorem omit_ask {n f b o nb : Nat} (hn : n ≤ 5) (hb : b < 2 ^ n) (ho : o < 2 ^ n) :
    MAsk n f b o 32 33 #[.pointer (some ⟨nb, 0, none⟩)] #[.pointer (some ⟨nb, 0, none⟩)] (fun p => (omitM n f).rows p b o) (fun g => (omitM n f).fits g b o) (fun W => NBox W nb n) where
  n5 := hn
  er := enters_pomit1
  ef := enters_pomit2
  rows := fun _p V hp hN => pomit1_any hn hp ho V hN
  fit := fun _g V hg hN => pomit2_any hn hb ho hg V hN
theorem precv_any (n f : Int) (w : World) : Calls Try.prog 9 #[.int .i64 n, .int .i64 f] w (RetF (mdlA 3 n f) w) := by
  have HC := hide (fun (W : World) (hN : NBox W w.heap.size n) => pof_any (op := 3) (by omega) (f := f) W hN (fun m _ hm b o hb ho => recv_ask (f := f.toNat) hm hb ho) fun m k b => recv_ne m k b)
  generalize mdlA 3 n f = res at HC ⊢
  obtain ⟨w2, hw2⟩ : ∃ w2, (w.alloc (.cells #[.int .i64 n] 3)).alloc (.cells #[.int .i64 0, .slice none 0 0] 29) = w2 := ⟨_, rfl⟩
  have HE : Hid (Ext w w2) := by show Ext _ _; rw [← hw2]; exact ((Ext.refl w).alloc _).alloc _
  have HN : Hid (NBox w2 w.heap.size n) := by show _ = _; rw [← hw2, Below.heap_alloc _ _ _ (by simp)]; exact heap_alloc_new w _
  have HP : Hid (w2.heap[w.heap.size + 1]? = some (.cells #[.int .i64 0, .slice none 0 0] 29 (0, 0))) := by
    show _ = _
    rw [← hw2]
    have := heap_alloc_new (w.alloc (.cells #[.int .i64 n] 3)) (.cells #[.int .i64 0, .slice none 0 0] 29)
    rwa [World.size_alloc] at this
  have HW := hide hw2
  clear hw2
  go_enter Try.func9, Try.ntmps9
  go_wp2_with fail
  rw [HW.out]
  refine (HC.out w2 HN.out).mono ?_
  rintro e w3 ⟨v, rfl, hv, hE3⟩
  obtain ⟨sv, rfl, hco, -⟩ := id hv
  obtain ⟨sq, sc, rfl⟩ := hco.sl
  clear hco
  have hp3 := (hE3.b.block _ (lt_of_heap HP.out)).trans HP.out
  have a0 : w3.cell? ⟨w.heap.size + 1, 0, none⟩ = some (.int .i64 0) := cells_at hp3 0
  have a1 : w3.cell? ⟨w.heap.size + 1, 1, none⟩ = some (.slice none 0 0) := cells_at hp3 1
  have af : w3.frozen? ⟨w.heap.size + 1, 0, none⟩ = false := frozen_of hp3
  have af1 : w3.frozen? ⟨w.heap.size + 1, 1, none⟩ = false := frozen_of hp3
  have az := lt_of_heap hp3
  have HP3 := hide hp3
  have HV := hide hv
  have HE3 := hide (HE.out.trans hE3)
  have HZ2 : Hid (w.heap.size ≤ w2.heap.size) := HE.out.size
  clear hp3 hv hE3
  go_wp2_with fail
  exact bodyPost_ret (results_adv1 rfl rfl rfl (heap_set (heap_set HP3.out _) _)) rfl ⟨_, rfl, (HV.out.stored2 HP3.out).mono HZ2.out, (HE3.out.setCell (p := ⟨w.heap.size + 1, 0, none⟩) (by show w.heap.size ≤ w.heap.size + 1; omega) _).setCell (p := ⟨w.heap.size + 1, 1, none⟩) (by show w.heap.size ≤ w.heap.size + 1; omega) _⟩
theorem pomit_any (n f : Int) (w : World) : Calls Try.prog 10 #[.int .i64 n, .int .i64 f] w (RetF (mdlA 4 n f) w) := by
  have HC := hide (fun (W : World) (hN : NBox W w.heap.size n) => pof_any (op := 4) (by omega) (f := f) W hN (fun m _ hm b o hb ho => omit_ask (f := f.toNat) hm hb ho) fun m k b => omit_ne m k b)
  generalize mdlA 4 n f = res at HC ⊢
  obtain ⟨w2, hw2⟩ : ∃ w2, (w.alloc (.cells #[.int .i64 n] 3)).alloc (.cells #[.int .i64 0, .slice none 0 0] 29) = w2 := ⟨_, rfl⟩
  have HE : Hid (Ext w w2) := by show Ext _ _; rw [← hw2]; exact ((Ext.refl w).alloc _).alloc _
  have HN : Hid (NBox w2 w.heap.size n) := by show _ = _; rw [← hw2, Below.heap_alloc _ _ _ (by simp)]; exact heap_alloc_new w _
  have HP : Hid (w2.heap[w.heap.size + 1]? = some (.cells #[.int .i64 0, .slice none 0 0] 29 (0, 0))) := by
    show _ = _
    rw [← hw2]
    have := heap_alloc_new (w.alloc (.cells #[.int .i64 n] 3)) (.cells #[.int .i64 0, .slice none 0 0] 29)
    rwa [World.size_alloc] at this
  have HW := hide hw2
  clear hw2
  go_enter Try.func10, Try.ntmps10
  go_wp2_with fail
  rw [HW.out]
  refine (HC.out w2 HN.out).mono ?_
  rintro e w3 ⟨v, rfl, hv, hE3⟩
  obtain ⟨sv, rfl, hco, -⟩ := id hv
  obtain ⟨sq, sc, rfl⟩ := hco.sl
  clear hco
  have hp3 := (hE3.b.block _ (lt_of_heap HP.out)).trans HP.out
  have a0 : w3.cell? ⟨w.heap.size + 1, 0, none⟩ = some (.int .i64 0) := cells_at hp3 0
  have a1 : w3.cell? ⟨w.heap.size + 1, 1, none⟩ = some (.slice none 0 0) := cells_at hp3 1
  have af : w3.frozen? ⟨w.heap.size + 1, 0, none⟩ = false := frozen_of hp3
  have af1 : w3.frozen? ⟨w.heap.size + 1, 1, none⟩ = false := frozen_of hp3
  have az := lt_of_heap hp3
  have HP3 := hide hp3
  have HV := hide hv
  have HE3 := hide (HE.out.trans hE3)
  have HZ2 : Hid (w.heap.size ≤ w2.heap.size) := HE.out.size
  clear hp3 hv hE3
  go_wp2_with fail
  exact bodyPost_ret (results_adv1 rfl rfl rfl (heap_set (heap_set HP3.out _) _)) rfl ⟨_, rfl, (HV.out.stored2 HP3.out).mono HZ2.out, (HE3.out.setCell (p := ⟨w.heap.size + 1, 0, none⟩) (by show w.heap.size ≤ w.heap.size + 1; omega) _).setCell (p := ⟨w.heap.size + 1, 1, none⟩) (by show w.heap.size ≤ w.heap.size + 1; omega) _⟩
end Go.Proofs.Ytnhgdjiljjpgmaa
