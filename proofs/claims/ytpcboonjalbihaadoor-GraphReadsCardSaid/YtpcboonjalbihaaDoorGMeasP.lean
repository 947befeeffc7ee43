/-
  Kernel, Roots, Inside, Edges, Nonsplit (graph, roundtableref03).
  Conditions: the table of math/bits lies in the heap (Tz), where products are made.
-/
import Derived.Test.YtpcboonjalbihaaDoorGMeas
import Derived.Test.YtpcboonjalbihaaDoorEq
import Derived.Deep.CutRange
namespace Go.Proofs.YtpcboonjalbihaaDoor
open Go.RowKit
attribute [local go_sem] Oper.semAt_some

theorem full_nat (n : Nat) : ((2 : Int) ^ ((n : Int)).toNat - 1) = ((2 ^ n - 1 : Nat) : Int) := by
  have := Nat.two_pow_pos n
  rw [Int.toNat_natCast, Int.natCast_sub (by omega)]; simp
set_option maxRecDepth 8000 in
set_option maxHeartbeats 1000000 in
theorem kernel_in (g : Gr) {n : Nat} (hg : Wf g n) (w : World) : Calls Tryd.prog 70 #[g.v] w fun e w' => e = .returned (.int .i64 (kerG g : Nat)) ∧ Ext w w' := by
  have hn5 := hg.n5
  have HF := hide (fun W => full_any (n : Int) W (by omega) (by omega))
  simp only [full_nat] at HF
  have HN := hide hg.n_eq
  have HG := hide hg
  have hk : kerG g = interG g.r n n := by unfold kerG; rw [hg.toNat]
  rw [hk]
  have HL := hide (fun k => interG_lt g.r n k)
  have HI := hide (fun k => show interG g.r n (k + 1) = interG g.r n k &&& g.r k from rfl)
  have HI0 := hide (show interG g.r n 0 = 2 ^ n - 1 from rfl)
  have HP := hide (pow2_32 hn5)
  generalize hi : interG g.r n = ig at HL HI HI0 ⊢
  clear hg hk hi
  go_enter Tryd.func70, Tryd.ntmps70
  go_wp2_with fail
  have HB : Hid (GrBox (w.alloc (gobj g)) w.heap.size g) := gr_new w g
  have HE : Hid (Ext w (w.alloc (gobj g))) := (Ext.refl w).alloc _
  generalize w.alloc (gobj g) = W at HB HE ⊢
  rw [HN.out]
  refine (HF.out _).mono ?_
  rintro e w' ⟨rfl, rfl⟩
  rw [← HI0.out]
  obtain ⟨c0, -, -, -, -, -, z0⟩ := HB.out.cells
  rw [HN.out] at c0
  go_wp2_with fail
  go_loop [3, 10] (fun o x => ∃ k : Nat, k ≤ n ∧ x = .int .i64 k ∧ o = .int .i64 (ig k : Nat)) (fun _ x => n - (intOf x).toNat)
  case atStart => exact ⟨0, by omega, rfl, rfl⟩
  case round =>
    obtain ⟨k, hk, rfl, rfl⟩ := hrel
    by_cases hlt : k < n
    · have hk5 : (k : Int) < 5 := by omega
      obtain ⟨rg, -⟩ := HB.out.row (p := k) (by omega)
      rw [HG.out.row] at rg
      have hil := HL.out k
      have hp32 := HP.out
      have hand := i64_and_nat (ig k) (g.r k) (by omega) (by have := HG.out.lt32 k; omega)
      rw [← HI.out k] at hand
      have hil2 := HL.out (k + 1)
      clear hil hil2 hp32
      go_wp2_with fail
      go_round
      case rel => exact ⟨k + 1, by omega, by go_num, rfl⟩
      case measure => simp [intOf]; omega
    · obtain rfl : k = n := by omega
      go_wp2_with fail
      go_ret
      exact ⟨rfl, HE.out⟩
set_option maxRecDepth 8000 in
set_option maxHeartbeats 1000000 in
theorem rcommon_in (g : Gr) {n : Nat} (hg : Wf g n) (w : World) : Calls Tryd.prog 73 #[g.v] w fun e w' => e = .returned (.int .i64 (kerG g : Nat)) ∧ Ext w w' := by
  have hn5 := hg.n5
  have HF := hide (fun W => rfull_any (n : Int) W (by omega) (by omega))
  simp only [full_nat] at HF
  have HN := hide hg.n_eq
  have HG := hide hg
  have hk : kerG g = interG g.r n n := by unfold kerG; rw [hg.toNat]
  rw [hk]
  have HL := hide (fun k => interG_lt g.r n k)
  have HI := hide (fun k => show interG g.r n (k + 1) = interG g.r n k &&& g.r k from rfl)
  have HI0 := hide (show interG g.r n 0 = 2 ^ n - 1 from rfl)
  have HP := hide (pow2_32 hn5)
  generalize hi : interG g.r n = ig at HL HI HI0 ⊢
  clear hg hk hi
  go_enter Tryd.func73, Tryd.ntmps73
  go_wp2_with fail
  have HB : Hid (GrBox (w.alloc (gobj g)) w.heap.size g) := gr_new w g
  have HE : Hid (Ext w (w.alloc (gobj g))) := (Ext.refl w).alloc _
  generalize w.alloc (gobj g) = W at HB HE ⊢
  rw [HN.out]
  refine (HF.out _).mono ?_
  rintro e w' ⟨rfl, rfl⟩
  rw [← HI0.out]
  obtain ⟨c0, -, -, -, -, -, z0⟩ := HB.out.cells
  rw [HN.out] at c0
  go_wp2_with fail
  go_loop [3, 4] (fun o x => ∃ k : Nat, k ≤ n ∧ x = .int .i64 k ∧ o = .int .i64 (ig k : Nat)) (fun _ x => n - (intOf x).toNat)
  case atStart => exact ⟨0, by omega, rfl, rfl⟩
  case round =>
    obtain ⟨k, hk, rfl, rfl⟩ := hrel
    by_cases hlt : k < n
    · have hk5 : (k : Int) < 5 := by omega
      obtain ⟨rg, -⟩ := HB.out.row (p := k) (by omega)
      rw [HG.out.row] at rg
      have hil := HL.out k
      have hp32 := HP.out
      have hand := i64_and_nat (ig k) (g.r k) (by omega) (by have := HG.out.lt32 k; omega)
      rw [← HI.out k] at hand
      have hil2 := HL.out (k + 1)
      clear hil hil2 hp32
      go_wp2_with fail
      go_round
      case rel => exact ⟨k + 1, by omega, by go_num, rfl⟩
      case measure => simp [intOf]; omega
    · obtain rfl : k = n := by omega
      go_wp2_with fail
      go_ret
      exact ⟨rfl, HE.out⟩
def kernelS (g : Gr) : Int × Int := if gchk g ≠ 0 then (0, gchk g) else ((kerG g : Nat), 0)
def rootsS (g : Gr) : Int × Int := if gchk g ≠ 0 then (0, gchk g) else ((rootsG g : Nat), 0)
def edgesS (g : Gr) : Int × Int := if gchk g ≠ 0 then (0, gchk g) else (edG g 5, 0)
def nonsplitS (g : Gr) : Bool × Int := if gchk g ≠ 0 then (false, gchk g) else (nsG g, 0)
def insideS (a b : Gr) : Bool × Int := if bothS a b ≠ 0 then (false, bothS a b) else (inG a b, 0)
set_option maxHeartbeats 1000000 in
theorem kernel_ok (g : Gr) {n : Nat} (hg : Wf g n) (w : World) : Calls Tryd.prog 35 #[g.v] w (RetV1 (.int .i64 (kerG g : Nat), 0) w) := by
  have HC := hide (fun W => gcheck_any g W)
  rw [wf_chk hg] at HC
  have HK := hide (fun W => kernel_in g hg W)
  clear hg
  go_enter Tryd.func35, Tryd.ntmps35
  go_wp2_with fail
  have HB : Hid (GrBox (w.alloc (gobj g)) w.heap.size g) := gr_new w g
  have HE : Hid (Ext w (w.alloc (gobj g))) := (Ext.refl w).alloc _
  generalize w.alloc (gobj g) = W at HB HE ⊢
  refine (HC.out _).mono ?_
  rintro r w1 ⟨rfl, hE⟩
  have HB := hide (HB.out.ext hE)
  have HE := hide (HE.out.trans hE)
  clear hE
  obtain ⟨c0, c1, c2, c3, c4, c5, z0⟩ := HB.out.cells
  go_wp2_with fail
  refine (HK.out _).mono ?_
  rintro r w2 ⟨rfl, hE⟩
  have HE := hide (HE.out.trans hE)
  clear hE c0 c1 c2 c3 c4 c5 z0
  go_wp2_with fail
  go_ret2
  exact ⟨rfl, HE.out⟩
set_option maxHeartbeats 1000000 in
theorem rkernel_ok (g : Gr) {n : Nat} (hg : Wf g n) (w : World) : Calls Tryd.prog 41 #[g.v] w (RetV1 (.int .i64 (kerG g : Nat), 0) w) := by
  have HC := hide (fun W => rgcheck_any g W)
  rw [wf_chk hg] at HC
  have HK := hide (fun W => rcommon_in g hg W)
  clear hg
  go_enter Tryd.func41, Tryd.ntmps41
  go_wp2_with fail
  have HB : Hid (GrBox (w.alloc (gobj g)) w.heap.size g) := gr_new w g
  have HE : Hid (Ext w (w.alloc (gobj g))) := (Ext.refl w).alloc _
  generalize w.alloc (gobj g) = W at HB HE ⊢
  refine (HC.out _).mono ?_
  rintro r w1 ⟨rfl, hE⟩
  have HB := hide (HB.out.ext hE)
  have HE := hide (HE.out.trans hE)
  clear hE
  obtain ⟨c0, c1, c2, c3, c4, c5, z0⟩ := HB.out.cells
  go_wp2_with fail
  refine (HK.out _).mono ?_
  rintro r w2 ⟨rfl, hE⟩
  have HE := hide (HE.out.trans hE)
  clear hE c0 c1 c2 c3 c4 c5 z0
  go_wp2_with fail
  go_ret2
  exact ⟨rfl, HE.out⟩
set_option maxHeartbeats 1000000 in
theorem kernel_any (g : Gr) (w : World) : Calls Tryd.prog 35 #[g.v] w (RetV1 (.int .i64 (kernelS g).1, (kernelS g).2) w) := by
  by_cases h0 : gchk g = 0
  · obtain ⟨n, hg⟩ := wf_of h0
    have hs : kernelS g = (((kerG g : Nat) : Int), 0) := by unfold kernelS; rw [if_neg (by simp [h0])]
    rw [hs]
    exact kernel_ok g hg w
  have HB := hide (fun W => gcheck_any g W)
  have HR := hide (show kernelS g = (0, gchk g) from if_pos h0)
  generalize kernelS g = res at HR ⊢
  generalize gchk g = e at HB HR h0
  have hd : (e != 0) = true := by simp [h0]
  clear h0
  go_enter Tryd.func35, Tryd.ntmps35
  go_wp2_with fail
  refine (HB.out _).mono ?_
  rintro r w1 ⟨rfl, hE⟩
  have HE := hide (((Ext.refl w).alloc _).trans hE)
  clear hE
  go_wp2_with fail
  go_ret2
  exact ⟨by rw [HR.out]; rfl, HE.out⟩
set_option maxHeartbeats 1000000 in
theorem rkernel_any (g : Gr) (w : World) : Calls Tryd.prog 41 #[g.v] w (RetV1 (.int .i64 (kernelS g).1, (kernelS g).2) w) := by
  by_cases h0 : gchk g = 0
  · obtain ⟨n, hg⟩ := wf_of h0
    have hs : kernelS g = (((kerG g : Nat) : Int), 0) := by unfold kernelS; rw [if_neg (by simp [h0])]
    rw [hs]
    exact rkernel_ok g hg w
  have HB := hide (fun W => rgcheck_any g W)
  have HR := hide (show kernelS g = (0, gchk g) from if_pos h0)
  generalize kernelS g = res at HR ⊢
  generalize gchk g = e at HB HR h0
  have hd : (e != 0) = true := by simp [h0]
  clear h0
  go_enter Tryd.func41, Tryd.ntmps41
  go_wp2_with fail
  refine (HB.out _).mono ?_
  rintro r w1 ⟨rfl, hE⟩
  have HE := hide (((Ext.refl w).alloc _).trans hE)
  clear hE
  go_wp2_with fail
  go_ret2
  exact ⟨by rw [HR.out]; rfl, HE.out⟩
theorem GrBox.inj {V : World} {b : Nat} {g g' : Gr} (h : GrBox V b g) (h' : GrBox V b g') : g = g' := by
  obtain ⟨a0, a1, a2, a3, a4, a5, -⟩ := h.cells
  obtain ⟨b0, b1, b2, b3, b4, b5, -⟩ := h'.cells
  rw [a0] at b0; rw [a1] at b1; rw [a2] at b2; rw [a3] at b3; rw [a4] at b4; rw [a5] at b5
  simp only [Option.some.injEq, Value.int.injEq, true_and] at b0 b1 b2 b3 b4 b5
  exact Gr.ext_ b0 b1 b2 b3 b4 b5
theorem GrBox.gstore_other {V : World} {b b' : Nat} {g r : Gr} (h : GrBox V b g) (hne : b ≠ b') : GrBox (gstore V b' r) b g := by
  show (gstore V b' r).heap[b]? = _
  rw [Below.heap_setCell _ _ _ _ hne, Below.heap_setCell _ _ _ _ hne, Below.heap_setCell _ _ _ _ hne, Below.heap_setCell _ _ _ _ hne, Below.heap_setCell _ _ _ _ hne, Below.heap_setCell _ _ _ _ hne]
  exact h
/-- The graph in a block. -/
noncomputable def grOf (V : World) (b : Nat) : Gr := open Classical in if h : ∃ g, GrBox V b g then Classical.choose h else gz0
theorem GrBox.grOf {V : World} {b : Nat} {g : Gr} (h : GrBox V b g) : grOf V b = g := by
  have he : ∃ g, GrBox V b g := ⟨g, h⟩
  unfold Go.Proofs.YtpcboonjalbihaaDoor.grOf
  rw [dif_pos he]
  exact (Classical.choose_spec he).inj h
def szG (g : Gr) : Nat := cardN (g.r 0) + cardN (g.r 1) + cardN (g.r 2) + cardN (g.r 3) + cardN (g.r 4)
theorem card_mono : ∀ s, s < 32 → ∀ t, t < 32 → s &&& t = s → cardN s ≤ cardN t ∧ (cardN s = cardN t → s = t) := by decide +kernel
theorem sz_lt {a b : Gr} {n : Nat} (ha : Wf a n) (hb : Wf b n) (hm : ∀ p, a.r p &&& b.r p = a.r p) (hne : a ≠ b) : szG a < szG b ∧ szG b ≤ 25 := by
  have k := fun p => card_mono _ (ha.lt32 p) _ (hb.lt32 p) (hm p)
  have l := fun p => card_le_all 5 (by decide) _ (hb.lt32 p)
  have k0 := k 0; have k1 := k 1; have k2 := k 2; have k3 := k 3; have k4 := k 4
  have l0 := l 0; have l1 := l 1; have l2 := l 2; have l3 := l 3; have l4 := l 4
  refine ⟨?_, by unfold szG; omega⟩
  rcases Nat.lt_or_ge (szG a) (szG b) with h | h
  · exact h
  · exfalso
    unfold szG at h
    have hn5 := ha.n5
    refine hne (wf_ext ha hb fun p q hp _ => ?_)
    have : a.r p = b.r p := by
      obtain rfl | rfl | rfl | rfl | rfl : p = 0 ∨ p = 1 ∨ p = 2 ∨ p = 3 ∨ p = 4 := by omega
      · exact k0.2 (by omega)
      · exact k1.2 (by omega)
      · exact k2.2 (by omega)
      · exact k3.2 (by omega)
      · exact k4.2 (by omega)
    rw [this]
theorem pw_mono' {g : Gr} {n : Nat} (h : Wf g n) (k p : Nat) : (pwG g k).r p &&& (pwG g (k + 1)).r p = (pwG g k).r p := by
  rcases Nat.lt_or_ge p n with hp | hp
  · exact pw_mono h hp k
  · rw [(pw_wf h k).out p hp]; simp
set_option maxRecDepth 16000 in
set_option maxHeartbeats 4000000 in
theorem roots_ok (g : Gr) {n : Nat} (hg : Wf g n) (w : World) (hT : Tz w) : Calls Tryd.prog 34 #[g.v] w (RetV1 (.int .i64 (rootsG g : Nat), 0) w) := by
  have HC := hide (fun W => gcheck_any g W)
  rw [wf_chk hg] at HC
  have HP := hide (fun k W (hE : Ext w W) => product_any (pwG g k) g (pw_wf hg k) hg W (hT.ext hE))
  have HK := hide (fun k W => kernel_in (pwG g k) (pw_wf hg k) W)
  have HR := hide (fun k (hk : k ≤ n) he => show kerG (pwG g k) = rootsG g from by rw [pw_end hg hk he]; unfold rootsG; rw [hg.toNat])
  have HLT := hide (fun k (he : pwG g (k + 1) ≠ pwG g k) => pw_lt (k := k) hg he)
  have HSZ := hide (fun k (he : pwG g (k + 1) ≠ pwG g k) => sz_lt (pw_wf hg k) (pw_wf hg (k + 1)) (pw_mono' hg k) (fun e => he e.symm))
  have HP1 := hide (fun k => show compG (pwG g k) g = pwG g (k + 1) from rfl)
  have HP0 := hide (show pwG g 0 = g from rfl)
  simp only [HP1.out] at HP
  generalize pwG g = pw at HP HK HR HLT HSZ HP0
  clear HP1 hg hT
  go_enter Tryd.func34, Tryd.ntmps34
  go_wp2_with fail
  have HB : Hid (GrBox (w.alloc (gobj g)) w.heap.size g) := gr_new w g
  have HE : Hid (Ext w (w.alloc (gobj g))) := (Ext.refl w).alloc _
  generalize w.alloc (gobj g) = W at HB HE ⊢
  refine (HC.out _).mono ?_
  rintro r w1 ⟨rfl, hE⟩
  have HB := hide (HB.out.ext hE)
  have HE := hide (HE.out.trans hE)
  clear hE
  obtain ⟨c0, c1, c2, c3, c4, c5, z0⟩ := HB.out.cells
  go_wp2_with fail
  clear c0 c1 c2 c3 c4 c5 z0
  have HZ := hide (lt_of_heap HB.out)
  have HB5 : Hid (GrBox (w1.alloc (gobj g)) w1.heap.size (pw 0)) := by show GrBox _ _ _; rw [HP0.out]; exact gr_new w1 g
  have HB := hide (HB.out.alloc (gobj g))
  have HE := hide (HE.out.alloc (gobj g))
  have hP := HP.out 0 (w1.alloc (gobj g)) HE.out
  rw [HP0.out] at hP
  generalize w1.alloc (gobj g) = w2 at HB HB5 HE hP ⊢
  refine hP.mono ?_
  clear hP
  rintro r w3 ⟨rfl, hE⟩
  have HB := hide (HB.out.ext hE)
  have HB5 := hide (HB5.out.ext hE)
  have HE := hide (HE.out.trans hE)
  clear hE
  have HZ5 : Hid (w1.heap.size < w3.heap.size) := lt_of_heap HB5.out
  generalize w1.heap.size = b5 at *
  go_wp2_with fail
  have HB6 : Hid (GrBox (w3.alloc (gobj (pw 1))) w3.heap.size (pw (0 + 1))) := gr_new w3 (pw 1)
  have HB := hide (HB.out.alloc (gobj (pw 1)))
  have HB5 := hide (HB5.out.alloc (gobj (pw 1)))
  have HE := hide (HE.out.alloc (gobj (pw 1)))
  generalize w3.alloc (gobj (pw 1)) = w4 at HB HB5 HB6 HE ⊢
  go_loopw [6] (fun x V => ∃ k b6 : Nat, k ≤ n ∧ b5 < b6 ∧ x = .pointer (some ⟨b6, 0, none⟩) ∧ Hid (GrBox V w.heap.size g) ∧ Hid (GrBox V b5 (pw k)) ∧ Hid (GrBox V b6 (pw (k + 1))) ∧ Hid (Ext w V)) (fun _ V => 25 - szG (grOf V b5))
  case atStart => exact ⟨0, w3.heap.size, by omega, HZ5.out, rfl, HB, HB5, HB6, HE⟩
  case round =>
    clear HB HB5 HB6 HE
    obtain ⟨k, b6, hk, h56, rfl, HB, HB5, HB6, HE⟩ := hrel
    obtain ⟨c0, c1, c2, c3, c4, c5, z0⟩ := HB5.out.cells
    obtain ⟨d0, d1, d2, d3, d4, d5, z1⟩ := HB6.out.cells
    have heq := neq_graph (pw (k + 1)).n (pw (k + 1)).h0 (pw (k + 1)).h1 (pw (k + 1)).h2 (pw (k + 1)).h3 (pw (k + 1)).h4 (pw k).n (pw k).h0 (pw k).h1 (pw k).h2 (pw k).h3 (pw k).h4
    have hq : geq (pw (k + 1)) (pw k) = true ↔ pw (k + 1) = pw k := geq_iff
    have heq' : ∀ W, (binOp .neq 24 (pw (k + 1)).v (pw k).v).run Tryd.prog W = .ok (.bool (!geq (pw (k + 1)) (pw k))) W := heq
    clear heq
    by_cases he : pw (k + 1) = pw k
    · rw [hq.2 he] at heq'
      have HR2 := hide (HR.out k hk he)
      clear hq he
      go_wp2_with fail
      refine (HK.out k _).mono ?_
      rintro r w9 ⟨rfl, hE⟩
      have HE := hide (HE.out.trans hE)
      clear hE heq' c0 c1 c2 c3 c4 c5 z0 d0 d1 d2 d3 d4 d5 z1
      go_wp2_with fail
      go_ret2
      exact ⟨by rw [HR2.out]; rfl, HE.out⟩
    · have hf : geq (pw (k + 1)) (pw k) = false := by
        cases h : geq (pw (k + 1)) (pw k) with
        | false => rfl
        | true => exact absurd (hq.1 h) he
      rw [hf] at heq'
      have HLT2 := hide (HLT.out k he)
      have HSZ2 := hide (HSZ.out k he)
      have HQ5 := hide HB5.out.grOf
      obtain ⟨f0, f1, f2, f3, f4, f5⟩ := HB5.out.frozen
      clear hq hf he
      go_upto_region 9 with fail
      clear heq' c0 c1 c2 c3 c4 c5 z0 d0 d1 d2 d3 d4 d5 z1 f0 f1 f2 f3 f4 f5
      have HB := hide (HB.out.gstore_other (r := pw (k + 1)) (b' := b5) (by have := HZ.out; omega))
      have HB6 := hide (HB6.out.gstore_other (r := pw (k + 1)) (b' := b5) (by omega))
      have HB5 := hide (HB5.out.store (pw (k + 1)))
      have HE := hide (HE.out.gstore (b := b5) (by have := HZ.out; omega) (pw (k + 1)))
      obtain ⟨V2, hV2⟩ : ∃ V2, V2 = gstore wr b5 (pw (k + 1)) := ⟨_, rfl⟩
      change Code.wp _ _ _ _ (gstore wr b5 (pw (k + 1)))
      with_reducible rw [← hV2] at HB HB5 HB6 HE ⊢
      clear hV2
      obtain ⟨c0, c1, c2, c3, c4, c5, z0⟩ := HB5.out.cells
      obtain ⟨d0, d1, d2, d3, d4, d5, z1⟩ := HB6.out.cells
      obtain ⟨e0, e1, e2, e3, e4, e5, z2⟩ := HB.out.cells
      go_wp2_with fail
      clear c0 c1 c2 c3 c4 c5 z0 d0 d1 d2 d3 d4 d5 e0 e1 e2 e3 e4 e5 z2
      have HB := hide (HB.out.alloc (gobj (pw (k + 1))))
      have HB5 := hide (HB5.out.alloc (gobj (pw (k + 1))))
      have HN6 : Hid (GrBox (V2.alloc (gobj (pw (k + 1)))) V2.heap.size (pw (k + 1))) := gr_new V2 (pw (k + 1))
      have HE := hide (HE.out.alloc (gobj (pw (k + 1))))
      have HV2 : Hid (b5 < V2.heap.size) := by show b5 < _; omega
      clear z1
      generalize V2.alloc (gobj (pw (k + 1))) = V3 at HB HB5 HN6 HE ⊢
      generalize V2.heap.size = b7 at HN6 HV2 ⊢
      refine (HP.out (k + 1) V3 HE.out).mono ?_
      rintro r V4 ⟨rfl, hE⟩
      have HB := hide (HB.out.ext hE)
      have HB5 := hide (HB5.out.ext hE)
      have HN6 := hide (HN6.out.ext hE)
      have HE := hide (HE.out.trans hE)
      clear hE
      obtain ⟨d0, d1, d2, d3, d4, d5, z1⟩ := HN6.out.cells
      obtain ⟨f0, f1, f2, f3, f4, f5⟩ := HN6.out.frozen
      go_wp2_with fail
      clear d0 d1 d2 d3 d4 d5 z1 f0 f1 f2 f3 f4 f5
      have hv2 := HV2.out
      have hz5 := HZ.out
      have HB5' := HB5.out.gstore_other (r := pw (k + 1 + 1)) (b' := b7) (by omega)
      go_roundw
      case rel => exact ⟨k + 1, b7, by have := HLT2.out; omega, hv2, rfl, HB.out.gstore_other (by omega), HB5', HN6.out.store _, HE.out.gstore (by omega) _⟩
      case measure =>
        have h1 := HSZ2.out
        have h2 := HQ5.out
        have h3 := HB5'.grOf
        rw [h2, h3]
        omega
end Go.Proofs.YtpcboonjalbihaaDoor
