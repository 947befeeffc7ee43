/-
  The reference's checks of conditions (roundtableref13.Cond, given).
  Conditions: as each theorem states.
-/
import Derived.Test.YthpccmmdkbjjhaaDoorCond2
namespace Go.Proofs.YthpccmmdkbjjhaaDoor
open Go.RowKit

theorem and_int {a u : Nat} (ha : a < 8) (hu : u < 8) : bits .and .i64 (a : Int) (u : Int) = ((a &&& u : Nat) : Int) := i64_and_nat a u (by omega) (by omega)
theorem rkind_err {e : Ex} : (kindE e.op).1 ≠ 1 ↔ (arity e.op < 0 ∨ kindOf e.op ≠ 1) := by
  unfold kindE
  by_cases h : arity e.op < 0
  · rw [if_pos h]; simp [h]
  · rw [if_neg h]; simp [h]
set_option maxHeartbeats 1000000 in
theorem rcond_any (e : Ex) (uses : Nat) (v : Value) (w : World) (hv : ExAt w v e) (hn : e.nodes ≤ 100000) (hu8 : uses < 8) :
    Calls Tryd.prog 63 #[v, .int .i64 uses] w fun e' w' => e' = .returned (.int .i64 (condS e uses)) ∧ Ext w w' := by
  have HC := hide (fun W (hW : Ext w W) => rexcheck_any e 0 v W (hv.ext hW) hn)
  have HK := hide (fun W (hW : Ext w W) => rkind_any e v W (hv.ext hW))
  have HU := hide (fun W (hW : Ext w W) => ruses_any e v W (hv.ext hW))
  have hul := usesE_lt e
  have hand := and_int hul hu8
  have HAN := hide hand
  clear hand
  have HEK := hide (fun h => exchk_kind (e := e) h)
  obtain ⟨p, c, rfl, hc, hl⟩ := hv.form
  clear hv
  have hE0 : Ext w (w.alloc (.cells #[.int .i64 e.op, .int .i64 e.num, .slice p e.args.length c] 26)) := (Ext.refl w).alloc _
  have HB := hide (fun w1 => xbox w e.op e.num (.slice p e.args.length c) (w1 := w1))
  generalize hres : condS e uses = res
  unfold condS at hres
  by_cases hx : exchk e 0 ≠ 0
  · rw [if_pos hx] at hres
    have HR := hide hres
    have hd : (exchk e 0 != 0) = true := by simp [hx]
    clear hres hx HEK HK HU HAN
    generalize exchk e 0 = k at HC HR hd
    go_enter Tryd.func63, Tryd.ntmps63
    go_wp2_with fail
    refine (HC.out _ hE0).mono ?_
    rintro e' w1 ⟨rfl, hE1⟩
    go_wp2_with fail
    go_ret
    exact ⟨ret_int HR.out, hE0.trans hE1⟩
  rw [if_neg hx] at hres
  have hx0 : exchk e 0 = 0 := by simpa using hx
  have hke := HEK.out hx0
  rw [hke] at HK
  rw [hx0] at HC
  clear hx hx0 hke HEK
  generalize kindOf e.op = kd at HK hres
  by_cases hk : kd ≠ 1
  · rw [if_pos hk] at hres
    have HR := hide hres
    have hd : (kd != 1) = true := by simp [hk]
    clear hres hk HU HAN
    go_enter Tryd.func63, Tryd.ntmps63
    go_wp2_with fail
    refine (HC.out _ hE0).mono ?_
    rintro e' w1 ⟨rfl, hE1⟩
    obtain ⟨c0, c1, c2, hz⟩ := HB.out _ hE1
    go_wp2_with fail
    refine (HK.out _ (hE0.trans hE1)).mono ?_
    rintro e' w2 ⟨rfl, hE2⟩
    go_wp2_with fail
    go_ret
    exact ⟨ret_int HR.out, (hE0.trans hE1).trans hE2⟩
  rw [if_neg hk] at hres
  obtain rfl : kd = 1 := by simpa using hk
  clear hk
  have HR1 := hide (fun h : usesE e &&& uses ≠ usesE e => (if_pos h).symm.trans hres)
  have HR2 := hide (fun h : usesE e &&& uses = usesE e => (if_neg (fun h2 => h2 h)).symm.trans hres)
  clear hres
  generalize usesE e &&& uses = au at HAN HR1 HR2
  generalize usesE e = ue at HU HAN hul HR1 HR2
  have HPRE : True := trivial
  go_enter Tryd.func63, Tryd.ntmps63
  go_wp2_with fail
  refine (HC.out _ hE0).mono ?_
  rintro e' w1 ⟨rfl, hE1⟩
  obtain ⟨c0, c1, c2, hz⟩ := HB.out _ hE1
  go_wp2_with fail
  refine (HK.out _ (hE0.trans hE1)).mono ?_
  rintro e' w2 ⟨rfl, hE2⟩
  have hE2 := hE1.trans hE2
  clear c0 c1 c2 hz
  obtain ⟨c0, c1, c2, hz⟩ := HB.out _ hE2
  go_wp2_with fail
  have han := HAN.out
  by_cases hau : au = ue
  · have hd : ((au : Int) != (ue : Int)) = false := by simp [hau]
    have HR := hide (HR2.out hau)
    clear hau
    refine wp_region_ext (by kernel_rfl) (by kernel_rfl) ?_
    repeat (go_big_quiet_step ((go_at_call 95; exact Calls.ext_of (HU.out _ (by simp [go_sem, hE0.trans hE2])))))
    refine wpQuiet_nil ?_
    rintro w9 ⟨⟨_, hE9⟩, rfl⟩
    clear han
    go_wp2_with fail
    go_ret
    exact ⟨ret_int HR.out, (hE0.trans hE2).trans hE9⟩
  · have hd : ((au : Int) != (ue : Int)) = true := by rw [bne_iff_ne]; omega
    have HR := hide (HR1.out hau)
    clear hau
    refine wp_region_ext (by kernel_rfl) (by kernel_rfl) ?_
    repeat (go_big_quiet_step ((go_at_call 95; exact Calls.ext_of (HU.out _ (by simp [go_sem, hE0.trans hE2])))))
    refine wpQuiet_nil ?_
    rintro w9 ⟨⟨_, hE9⟩, rfl⟩
    clear han
    go_wp2_with fail
    go_ret
    exact ⟨ret_int HR.out, (hE0.trans hE2).trans hE9⟩
theorem rgiven_any (e : Ex) (uses : Nat) (v : Value) (w : World) (hv : ExAt w v e) (hn : e.nodes ≤ 100000) (hu8 : uses < 8) :
    Calls Tryd.prog 50 #[v, .int .i64 uses] w fun e' w' => e' = .returned (.int .i64 (givenS e uses)) ∧ Ext w w' := by
  have HA := hide (fun W (hW : Ext w W) => rabsent_any e v W (hv.ext hW))
  have HC := hide (fun W (hW : Ext w W) => rcond_any e uses v W (hv.ext hW) hn hu8)
  obtain ⟨p, c, rfl, hc, hl⟩ := hv.form
  clear hv
  have hE0 : Ext w (w.alloc (.cells #[.int .i64 e.op, .int .i64 e.num, .slice p e.args.length c] 26)) := (Ext.refl w).alloc _
  have HB := hide (fun w1 => xbox w e.op e.num (.slice p e.args.length c) (w1 := w1))
  unfold givenS
  cases ha : absentE e with
  | true =>
    rw [ha] at HA
    rw [if_pos rfl]
    clear ha HC
    go_enter Tryd.func50, Tryd.ntmps50
    go_wp2_with fail
    refine (HA.out _ hE0).mono ?_
    rintro e' w1 ⟨rfl, hE1⟩
    go_wp2_with fail
    go_ret
    exact ⟨rfl, hE0.trans hE1⟩
  | false =>
    rw [ha] at HA
    rw [if_neg (by decide)]
    clear ha
    go_enter Tryd.func50, Tryd.ntmps50
    go_wp2_with fail
    refine (HA.out _ hE0).mono ?_
    rintro e' w1 ⟨rfl, hE1⟩
    obtain ⟨c0, c1, c2, hz⟩ := HB.out _ hE1
    go_wp2_with fail
    refine (HC.out _ (hE0.trans hE1)).mono ?_
    rintro e' w2 ⟨rfl, hE2⟩
    go_wp2_with fail
    go_ret
    exact ⟨rfl, (hE0.trans hE1).trans hE2⟩
end Go.Proofs.YthpccmmdkbjjhaaDoor
