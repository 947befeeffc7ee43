/-
  The reference's checks of tasks (roundtableref11): vector, one, Check, fewVectors, Few.
  Conditions: as each theorem states.
-/
import Derived.Test.YtdgapihlgddnjaaDoorTaskA
import Derived.Test.YtdgapihlgddnjaaDoorHas11
namespace Go.Proofs.YtdgapihlgddnjaaDoor
open Go.RowKit
attribute [local go_sem] Oper.semAt_some

set_option maxHeartbeats 1000000 in
theorem rvector_any (v : List Int) (n m : Int) (u : Value) (w : World) (hv : Row icells 1 w u v) :
    Calls Tryd.prog 99 #[u, .int .i64 n, .int .i64 m] w fun e w' => e = .returned (.int .i64 (vecE v n m)) ∧ Ext w w' := by
  obtain ⟨p, c, rfl, hc, hl, hat⟩ := hv.int_all
  have HA := hide hat
  clear hv hat
  by_cases hn : (v.length : Int) = n
  case neg =>
    have HR : Hid (vecE v n m = 15) := if_pos hn
    have hd : ((v.length : Int) != n) = true := by simp [hn]
    clear hn
    go_enter Tryd.func99, Tryd.ntmps99
    go_wp2_with fail
    go_ret
    exact ⟨ret_int HR.out.symm, Ext.refl _⟩
  subst hn
  have H1 : Hid (∀ i, i < v.length → vecBad m (v.getD i 0) = true → vecE v v.length m = 2) := fun i hi hb => by
    unfold vecE
    rw [if_neg (fun k => k rfl), if_pos]
    rw [List.any_eq_true]
    refine ⟨v.getD i 0, ?_, hb⟩
    rw [List.getD_eq_getElem?_getD, List.getElem?_eq_getElem hi]
    exact List.getElem_mem hi
  have H2 : Hid ((∀ i, i < v.length → vecBad m (v.getD i 0) = false) → vecE v v.length m = 0) := fun h => by
    unfold vecE
    rw [if_neg (fun k => k rfl), if_neg]
    intro hb
    obtain ⟨x, hx, hb⟩ := List.any_eq_true.1 hb
    obtain ⟨i, hi, rfl⟩ := List.getElem_of_mem hx
    have := h i hi
    rw [List.getD_eq_getElem?_getD, List.getElem?_eq_getElem hi] at this
    rw [show (some v[i]).getD 0 = v[i] from rfl, hb] at this
    cases this
  have hd : ((v.length : Int) != (v.length : Int)) = false := by simp
  generalize vecE v v.length m = res at H1 H2 ⊢
  go_enter Tryd.func99, Tryd.ntmps99
  go_wp2_with fail
  clear hd
  go_loopw [7] (fun x wr => ∃ i : Nat, i ≤ v.length ∧ x = .int .i64 i ∧ Hid (∀ j, j < i → vecBad m (v.getD j 0) = false) ∧ Hid (Ext w wr)) (fun x _ => v.length - (intOf x).toNat)
  case atStart => exact ⟨0, by omega, rfl, fun j hj => by omega, Ext.refl _⟩
  case round =>
    obtain ⟨i, hi, rfl, HJ, HE⟩ := hrel
    by_cases hlt : i < v.length
    · obtain ⟨b, o, rfl, hb, hat⟩ := HA.out (by omega)
      have hx := hat i hlt wr HE.out
      have hbz := Nat.lt_of_lt_of_le hb HE.out.size
      have HF := hide (H1.out i hlt)
      have HN : Hid (vecBad m (v.getD i 0) = false → ∀ j, j < i + 1 → vecBad m (v.getD j 0) = false) := fun h j hj => by
        by_cases e : j = i
        · subst e; exact h
        · exact HJ.out j (by omega)
      clear hat
      generalize v.getD i 0 = y at hx HF HN
      cases h1 : decide (y < 0)
      · cases h2 : decide (m ≤ y)
        · have HR := hide (HN.out (by unfold vecBad; rw [h1, h2]; rfl))
          go_wp2_with fail
          go_roundw
          case rel => exact ⟨i + 1, by omega, by go_num, HR.out, HE.out⟩
          case measure => simp [intOf]; omega
        · have HR := hide (HF.out (by unfold vecBad; rw [h2]; simp))
          go_wp2_with fail
          go_ret
          exact ⟨ret_int HR.out.symm, HE.out⟩
      · have HR := hide (HF.out (by unfold vecBad; rw [h1]; rfl))
        go_wp2_with fail
        go_ret
        exact ⟨ret_int HR.out.symm, HE.out⟩
    · obtain rfl : i = v.length := by omega
      have HR := hide (H2.out HJ.out)
      go_wp2_with fail
      go_ret
      exact ⟨ret_int HR.out.symm, HE.out⟩
/-- What few vectors are. -/
def fewVs (l : List (List Int)) : Bool := decide (l.length ≤ 30) && l.all fun v => decide (v.length ≤ 10)
set_option maxHeartbeats 1000000 in
theorem rfewVs_any (l : List (List Int)) (u : Value) (w : World) (hl : Rows2 icells 1 w u l) :
    Calls Tryd.prog 52 #[u, .int .i64 30] w fun e w' => e = .returned (.bool (fewVs l)) ∧ Ext w w' := by
  obtain ⟨p, c, rfl, hc, hlen, hat⟩ := hl.sl_all
  have HA := hide hat
  clear hl hat
  by_cases hn : 30 < l.length
  case pos =>
    have HR : Hid (fewVs l = false) := by
      show _ = _
      unfold fewVs
      rw [decide_eq_false (by omega)]; rfl
    have hd : decide ((30 : Int) < (l.length : Int)) = true := by rw [decide_eq_true_iff]; omega
    have hd' : decide (30 < l.length) = true := by rw [decide_eq_true_iff]; omega
    clear hn
    go_enter Tryd.func52, Tryd.ntmps52
    go_wp2_with fail
    go_ret
    exact ⟨ret_bool HR.out.symm, Ext.refl _⟩
  have H0 : Hid (fewVs l = l.all fun v => decide (v.length ≤ 10)) := by
    show _ = _
    unfold fewVs
    rw [decide_eq_true (by omega), Bool.true_and]
  have H1 : Hid (∀ i, i < l.length → decide ((10 : Int) < ((l.getD i []).length : Int)) = true → fewVs l = false) := fun i hi hb => by
    rw [H0.out, List.all_eq_false]
    rw [List.getD_eq_getElem?_getD, List.getElem?_eq_getElem hi, decide_eq_true_iff] at hb
    exact ⟨_, List.getElem_mem hi, by
      have hb : (10 : Int) < (l[i].length : Int) := hb
      simp; omega⟩
  have H2 : Hid ((∀ i, i < l.length → decide ((10 : Int) < ((l.getD i []).length : Int)) = false) → fewVs l = true) := fun h => by
    rw [H0.out, List.all_eq_true]
    intro x hx
    obtain ⟨i, hi, rfl⟩ := List.getElem_of_mem hx
    have := h i hi
    rw [List.getD_eq_getElem?_getD, List.getElem?_eq_getElem hi, decide_eq_false_iff_not] at this
    have this : ¬ (10 : Int) < (l[i].length : Int) := this
    simp; omega
  have hd : decide ((30 : Int) < (l.length : Int)) = false := by rw [decide_eq_false_iff_not]; omega
  have hd' : decide (30 < l.length) = false := by rw [decide_eq_false_iff_not]; omega
  clear hn H0
  generalize fewVs l = res at H1 H2 ⊢
  go_enter Tryd.func52, Tryd.ntmps52
  go_wp2_with fail
  clear hd hd'
  go_loopw [5] (fun x wr => ∃ i : Nat, i ≤ l.length ∧ x = .int .i64 i ∧ Hid (∀ j, j < i → decide ((10 : Int) < ((l.getD j []).length : Int)) = false) ∧ Hid (Ext w wr)) (fun x _ => l.length - (intOf x).toNat)
  case atStart => exact ⟨0, by omega, rfl, fun j hj => by omega, Ext.refl _⟩
  case round =>
    obtain ⟨i, hi, rfl, HJ, HE⟩ := hrel
    by_cases hlt : i < l.length
    · obtain ⟨b, o, rfl, hb, hat⟩ := HA.out (by omega)
      obtain ⟨q, d, hx, -, hlx⟩ := hat i hlt
      replace hx := hx _ HE.out
      have hbz := Nat.lt_of_lt_of_le hb HE.out.size
      have HF := hide (H1.out i hlt)
      have HN : Hid (decide ((10 : Int) < ((l.getD i []).length : Int)) = false → ∀ j, j < i + 1 → decide ((10 : Int) < ((l.getD j []).length : Int)) = false) := fun h j hj => by
        by_cases e : j = i
        · subst e; exact h
        · exact HJ.out j (by omega)
      clear hat
      generalize (l.getD i []).length = y at hx HF HN hlx
      by_cases hy : 10 < y
      · have h1 : decide ((10 : Int) < (y : Int)) = true := by rw [decide_eq_true_iff]; omega
        have h1' : decide (10 < y) = true := by rw [decide_eq_true_iff]; omega
        have HR := hide (HF.out h1)
        clear hy
        go_wp2_with fail
        go_ret
        exact ⟨ret_bool HR.out.symm, HE.out⟩
      · have h1 : decide ((10 : Int) < (y : Int)) = false := by rw [decide_eq_false_iff_not]; omega
        have h1' : decide (10 < y) = false := by rw [decide_eq_false_iff_not]; omega
        have HR := hide (HN.out h1)
        clear hy
        go_wp2_with fail
        go_roundw
        case rel => exact ⟨i + 1, by omega, by go_num, HR.out, HE.out⟩
        case measure => simp [intOf]; omega
    · obtain rfl : i = l.length := by omega
      have HR := hide (H2.out HJ.out)
      go_wp2_with fail
      go_ret
      exact ⟨ret_bool HR.out.symm, HE.out⟩
/-- A small case, a small task. -/
def fewC (c : Cs) : Bool := decide (c.inp.length ≤ 10) && (fewVs c.out && fewVs c.calm)
def fewT (T : Tk) : Bool := decide (T.cs.length ≤ 30) && T.cs.all fewC
set_option maxRecDepth 16000 in
set_option maxHeartbeats 4000000 in
theorem rone_any (T : Tk) (i : Nat) (p : Option Addr) (c : Nat) (w : World) (hv : TkRep w (.agg #[.int .i64 T.n, .int .i64 T.ins, .int .i64 T.outs, .slice p T.cs.length c]) T) (hi : i < T.cs.length) :
    Calls Tryd.prog 53 #[.agg #[.int .i64 T.n, .int .i64 T.ins, .int .i64 T.outs, .slice p T.cs.length c], .int .i64 i] w fun e w' => e = .returned (.int .i64 (inE T i)) ∧ Ext w w' := by
  obtain ⟨p', c', e0, hc, hl, hat⟩ := hv.all_
  have e2 : Value.slice p T.cs.length c = .slice p' T.cs.length c' := by
    injection e0 with e
    have := congrArg (fun a : Array Value => a[3]?) e
    simpa using this
  injection e2 with e3 _ e4
  subst e3 e4
  clear e0 hv
  obtain ⟨b, o, rfl, hb, hat⟩ := hat (by omega)
  obtain ⟨q0, k0, q1, k1, q2, k2, hC⟩ := hat i hi
  have HPV : Hid (∀ k, i = k + 1 → ∃ q d m, (∀ W, Ext w W → W.cell? ⟨b, o + k * 3, none⟩ = some (.slice q m d)) ∧ ∀ W, Ext w W → Calls Tryd.prog 48 #[.slice q m d, .slice q0 (T.cs.getD i default).inp.length k0] W fun e w' => e = .returned (.int .i64 (ordL (T.cs.getD k default).inp (T.cs.getD i default).inp)) ∧ Ext W w') := fun k hk => by
    obtain ⟨r0, l0, r1, l1, r2, l2, hD⟩ := hat k (by omega)
    exact ⟨r0, l0, _, hD.c0, fun W hW => rorder_any _ _ _ _ W (hD.r0.ext hW) (hC.r0.ext hW)⟩
  have HI : Hid (inE T i = if vecE (T.cs.getD i default).inp T.n T.ins ≠ 0 then vecE (T.cs.getD i default).inp T.n T.ins
    else if (decide (0 < i) && decide (0 ≤ ordL (T.cs.getD (i - 1) default).inp (T.cs.getD i default).inp)) = true then 14 else csE T.n T.outs (T.cs.getD i default)) := rfl
  obtain ⟨n, ins, outs, cs⟩ := T
  dsimp only at *
  generalize inE ⟨n, ins, outs, cs⟩ i = res at HI ⊢
  have hil : cs.length ≤ 17592186044416 := hl
  generalize hx : cs.getD i default = x at *
  have HX := hide hC
  have HBZ := hide hb
  have h1 := hC.r1
  have h2 := hC.r2
  have HE1 : Hid (∀ i, i < x.out.length → (∀ j, j < i → outE n outs x.out j = 0) → outE n outs x.out i ≠ 0 → ¬ (x.out.length < 1 ∨ 1024 < x.out.length) → csE n outs x = outE n outs x.out i) := fun i hi hj he hb => by
    have := firstErr_at (f := outE n outs x.out) hi hj he
    unfold csE
    rw [if_neg hb, this, if_pos he]
  have HE2 : Hid ((∀ j, j < x.out.length → outE n outs x.out j = 0) → ∀ i, i < x.calm.length → (∀ j, j < i → calmE x.out x.calm j = 0) → calmE x.out x.calm i ≠ 0 → ¬ (x.out.length < 1 ∨ 1024 < x.out.length) → csE n outs x = calmE x.out x.calm i) := fun h0 i hi hj he hb => by
    unfold csE
    rw [if_neg hb, firstErr_end h0, if_neg (fun k => k rfl), firstErr_at hi hj he]
  have HE3 : Hid ((∀ j, j < x.out.length → outE n outs x.out j = 0) → (∀ j, j < x.calm.length → calmE x.out x.calm j = 0) → ¬ (x.out.length < 1 ∨ 1024 < x.out.length) → csE n outs x = 0) := fun h0 h1 hb => by
    unfold csE
    rw [if_neg hb, firstErr_end h0, if_neg (fun k => k rfl), firstErr_end h1]
  have HE0 : Hid (x.out.length < 1 ∨ 1024 < x.out.length → csE n outs x = 5) := fun h => if_pos h
  have HO : Hid (∀ i, outE n outs x.out i = if vecE (x.out.getD i []) n outs ≠ 0 then vecE (x.out.getD i []) n outs else if unord x.out i = true then 14 else 0) := fun i => rfl
  have HCA : Hid (∀ i, calmE x.out x.calm i = if decide (x.calm.getD i [] ∈ x.out) = false then 6 else if unord x.calm i = true then 14 else 0) := fun i => rfl
  generalize csE n outs x = ce at HE0 HE1 HE2 HE3 HI
  generalize outE n outs x.out = oe at HE1 HE2 HE3 HO
  generalize calmE x.out x.calm = cle at HE2 HE3 HCA
  have HV := hide (fun W (hW : Ext w W) => rvector_any x.inp n ins _ W (hC.r0.ext hW))
  generalize vecE x.inp n ins = ve at HV HI
  obtain ⟨bad, hbad⟩ : ∃ bad, (decide (0 < i) && decide (0 ≤ ordL (cs.getD (i - 1) default).inp x.inp)) = bad := ⟨_, rfl⟩
  have HBAD := hide hbad
  have HI : Hid (res = if ve ≠ 0 then ve else if bad = true then 14 else ce) := by rw [← hbad]; exact HI.out
  have x0 := hC.c0 _ (Ext.refl w)
  have x1 := hC.c1 _ (Ext.refl w)
  have x2 := hC.c2 _ (Ext.refl w)
  have HCSX := hide hC
  clear hat hx hC hb hbad hl
  have hbz := HBZ.out
  obtain ⟨w2, hw2⟩ : ∃ w2, (w.alloc (.cells #[.int .i64 n, .int .i64 ins, .int .i64 outs, .slice (some ⟨b, o, none⟩) cs.length c] 24)).alloc (.cells #[.slice q0 x.inp.length k0, .slice q1 x.out.length k1, .slice q2 x.calm.length k2] 53) = w2 := ⟨_, rfl⟩
  have HE : Hid (Ext w w2) := by show Ext _ _; rw [← hw2]; exact ((Ext.refl w).alloc _).alloc _
  have HT : Hid (TBox w2 w.heap.size (.int .i64 n) (.int .i64 ins) (.int .i64 outs) (.slice (some ⟨b, o, none⟩) cs.length c)) := by
    show _ = _
    rw [← hw2]; exact (Below.heap_alloc _ _ _ (by simp)).trans (heap_alloc_new w _)
  have HC : Hid (CBox w2 (w.heap.size + 1) (.slice q0 x.inp.length k0) (.slice q1 x.out.length k1) (.slice q2 x.calm.length k2)) := by
    show _ = _
    rw [← hw2]; have := heap_alloc_new (w.alloc (.cells #[.int .i64 n, .int .i64 ins, .int .i64 outs, .slice (some ⟨b, o, none⟩) cs.length c] 24)) (.cells #[.slice q0 x.inp.length k0, .slice q1 x.out.length k1, .slice q2 x.calm.length k2] 53)
    rwa [World.size_alloc] at this
  have HW2 := hide hw2
  have hiz : (i : Int) < (cs.length : Int) := by omega
  clear hw2
  go_enter Tryd.func53, Tryd.ntmps53
  go_wp2_with fail
  rw [HW2.out]
  refine (HV.out _ HE.out).mono ?_
  rintro e W1 ⟨rfl, hE1⟩
  have HE1x := hide hE1
  have HEW := hide (HE.out.trans hE1)
  clear hE1 x0 x1 x2 hbz
  by_cases hv0 : ve = 0
  case neg =>
    have hd : (ve != 0) = true := by simp [hv0]
    have HR2 := hide (HI.out.trans (if_pos hv0))
    clear hv0
    go_wp2_with fail
    go_ret
    exact ⟨ret_int HR2.out.symm, HEW.out⟩
  case pos =>
  have hd : (ve != 0) = false := by simp [hv0]
  have HI := hide (HI.out.trans (if_neg (fun k => k hv0)))
  clear hv0
  go_upto_region 5 with fail
  clear hd
  go_cut [39] from 25 to 39 (fun x V => x = .bool bad ∧ Hid (Ext w2 V))
  case first =>
    obtain ⟨c0, c1, c2, -, -, z1⟩ := (HC.out.ext HE1x.out).cells
    obtain ⟨t0, t1, t2, t3⟩ := (HT.out.ext HE1x.out).cells
    have z0 := lt_of_heap (HT.out.ext HE1x.out)
    by_cases hi0 : i = 0
    · subst hi0
      have hbb : bad = false := by rw [← HBAD.out]; rfl
      subst hbb
      have hdz : decide ((0 : Int) < ((0 : Nat) : Int)) = false := rfl
      refine wp_region_ext (by kernel_rfl) (by kernel_rfl) ?_
      repeat (go_big_quiet_step (fail))
      refine wpQuiet_nil ?_
      rintro w9 ⟨⟨_, hE9⟩, rfl⟩
      go_wp2_with fail
      go_meet
      exact ⟨rfl, HE1x.out.trans hE9⟩
    · obtain ⟨k, rfl⟩ : ∃ k, i = k + 1 := ⟨i - 1, by omega⟩
      obtain ⟨r0, d0, m0, hpx, hpc⟩ := HPV.out k rfl
      have HPC := hide hpc
      have HPX := hide hpx
      have hbb : decide (0 ≤ ordL (cs.getD k default).inp x.inp) = bad := by rw [← HBAD.out, show k + 1 - 1 = k by omega, show decide (0 < k + 1) = true by simp, Bool.true_and]
      clear hpc hpx HPV HBAD
      generalize ordL (cs.getD k default).inp x.inp = cc at HPC hbb
      have hk0 : (0 : Int) ≤ (k : Int) + 1 := by omega
      have hk1 : ((k : Int) + 1).toNat = k + 1 := by omega
      have hk3 : IntKind.i64.wrap ((k : Int) + 1 - 1) = (k : Int) := by rw [Int.add_sub_cancel]; exact IntWalk.i64_in _ (by omega)
      have hk4 : (k : Int) < (cs.length : Int) := by omega
      have hdz : decide ((0 : Int) < (k : Int) + 1) = true := by rw [decide_eq_true_iff]; omega
      have hpx := HPX.out _ HEW.out
      have hbz := Nat.lt_of_lt_of_le HBZ.out HEW.out.size
      subst hbb
      refine wp_region_ext (by kernel_rfl) (by kernel_rfl) ?_
      repeat (go_big_quiet_step ((go_at_call 48; exact Calls.ext_of (HPC.out _ (by simp [go_sem, HEW.out])))))
      refine wpQuiet_nil ?_
      rintro w9 ⟨⟨_, hE9⟩, rfl⟩
      go_wp2_with fail
      go_meet
      exact ⟨rfl, HE1x.out.trans hE9⟩
  case rest =>
    obtain ⟨rfl, HE2x⟩ := hcut
    obtain ⟨W3, rfl⟩ : ∃ W3, W3 = wc := ⟨_, rfl⟩
    obtain ⟨c0, c1, c2, -, -, z1⟩ := (HC.out.ext HE2x.out).cells
    cases bad with
    | true =>
      have HR := hide (HI.out.trans (if_pos rfl))
      go_wp2_with fail
      go_ret
      exact ⟨ret_int HR.out.symm, HE.out.trans HE2x.out⟩
    | false =>
    have HI := hide (HI.out.trans (if_neg (by decide)))
    clear HBAD HPV
    by_cases hb1 : x.out.length < 1
    · have HR := hide (HI.out.trans (HE0.out (.inl hb1)))
      have hd : decide ((x.out.length : Int) < 1) = true := by rw [decide_eq_true_iff]; omega
      have hd' : decide (x.out.length < 1) = true := by rw [decide_eq_true_iff]; omega
      go_wp2_with fail
      go_ret
      exact ⟨ret_int HR.out.symm, HE.out.trans HE2x.out⟩
    by_cases hb2 : 1024 < x.out.length
    · have HR := hide (HI.out.trans (HE0.out (.inr hb2)))
      have hd : decide ((x.out.length : Int) < 1) = false := by rw [decide_eq_false_iff_not]; omega
      have hd' : decide (x.out.length < 1) = false := by rw [decide_eq_false_iff_not]; omega
      have hd2 : decide ((1024 : Int) < (x.out.length : Int)) = true := by rw [decide_eq_true_iff]; omega
      have hd2' : decide (1024 < x.out.length) = true := by rw [decide_eq_true_iff]; omega
      go_wp2_with fail
      go_ret
      exact ⟨ret_int HR.out.symm, HE.out.trans HE2x.out⟩
    have HBD : Hid (¬ (x.out.length < 1 ∨ 1024 < x.out.length)) := fun h => h.elim hb1 hb2
    have HF1 := hide (fun i hi hj he => HI.out.trans (HE1.out i hi hj he HBD.out))
    have HF2 := hide (fun h0 i hi hj he => HI.out.trans (HE2.out h0 i hi hj he HBD.out))
    have HF3 := hide (fun h0 h1 => HI.out.trans (HE3.out h0 h1 HBD.out))
    have hd : decide ((x.out.length : Int) < 1) = false := by rw [decide_eq_false_iff_not]; omega
    have hd' : decide (x.out.length < 1) = false := by rw [decide_eq_false_iff_not]; omega
    have hd2 : decide ((1024 : Int) < (x.out.length : Int)) = false := by rw [decide_eq_false_iff_not]; omega
    have hd2' : decide (1024 < x.out.length) = false := by rw [decide_eq_false_iff_not]; omega
    have HH := hide (fun y v W (hW : Ext w W) (hy : Row icells 1 W v y) => rhasv_any x.out y _ v W (h1.ext hW) hy)
    obtain ⟨pa, ca, ea, -, hla, hata⟩ := h1.sl_all
    injection ea with ea1 _ ea2
    subst ea1 ea2
    obtain ⟨pb, cb, eb, -, hlb, hatb⟩ := h2.sl_all
    injection eb with eb1 _ eb2
    subst eb1 eb2
    have HA := hide hata
    have HB := hide hatb
    clear hata hatb h1 h2 hb1 hb2 HE0 HE1 HE2 HE3 HBD
    go_wp2_with fail
    clear hd hd' hd2 hd2' c0 c1 c2 z1
    go_loopw [7] (fun x7 wr => ∃ i : Nat, i ≤ x.out.length ∧ x7 = .int .i64 i ∧ Hid (∀ j, j < i → oe j = 0) ∧ Hid (Ext w2 wr)) (fun x7 _ => x.out.length - (intOf x7).toNat)
    case atStart => exact ⟨0, by omega, rfl, fun j hj => by omega, HE2x.out⟩
    case round =>
      obtain ⟨j, hj, rfl, HJ, HEr⟩ := hrel
      obtain ⟨c0, c1, c2, -, -, z1⟩ := (HC.out.ext HEr.out).cells
      by_cases hlt : j < x.out.length
      case neg =>
        obtain rfl : j = x.out.length := by omega
        have HF2 := hide (HF2.out HJ.out)
        have HF3 := hide (HF3.out HJ.out)
        go_wp2_with fail
        clear c0 c1 c2 z1
        go_loopw [9] (fun x9 wr => ∃ i : Nat, i ≤ x.calm.length ∧ x9 = .int .i64 i ∧ Hid (∀ j, j < i → cle j = 0) ∧ Hid (Ext w2 wr)) (fun x9 _ => x.calm.length - (intOf x9).toNat)
        case atStart => exact ⟨0, by omega, rfl, fun j hj => by omega, HEr.out⟩
        case round =>
          clear HEr HJ
          obtain ⟨j, hj, rfl, HJ, HEr⟩ := hrel
          obtain ⟨c0, c1, c2, -, -, z1⟩ := (HC.out.ext HEr.out).cells
          by_cases hlt : j < x.calm.length
          case neg =>
            obtain rfl : j = x.calm.length := by omega
            have HR := hide (HF3.out HJ.out)
            go_wp2_with fail
            go_ret
            exact ⟨ret_int HR.out.symm, HE.out.trans HEr.out⟩
          case pos =>
          obtain ⟨b1, o1, rfl, hb1, hat⟩ := HB.out (by omega)
          obtain ⟨q, d, hx, hrow, hlx⟩ := hat j hlt
          have HPV : Hid (∀ k, j = k + 1 → ∃ q0 d0 m, (∀ W, Ext w W → W.cell? ⟨b1, o1 + k, none⟩ = some (.slice q0 m d0)) ∧ ∀ W, Ext w W → Calls Tryd.prog 48 #[.slice q0 m d0, .slice q (x.calm.getD j []).length d] W fun e w' => e = .returned (.int .i64 (ordL (x.calm.getD k []) (x.calm.getD j []))) ∧ Ext W w') := fun k hk => by
            obtain ⟨r0, l0, hD, hDr, _⟩ := hat k (by omega)
            exact ⟨r0, l0, _, hD, fun W hW => rorder_any _ _ _ _ W (hDr.ext hW) (hrow.ext hW)⟩
          have HXX := hide hx
          replace hx := hx _ (HE.out.trans HEr.out)
          have hbz := Nat.lt_of_lt_of_le hb1 (HE.out.trans HEr.out).size
          have HBZ1 := hide hb1
          have HV := hide (fun W (hW : Ext w W) => HH.out (x.calm.getD j []) _ W hW (hrow.ext hW))
          have HOI := hide (HCA.out j)
          have HR := hide (fun he => HF2.out j hlt HJ.out he)
          have HN : Hid (cle j = 0 → ∀ k, k < j + 1 → cle k = 0) := fun h k hk => by
            by_cases e : k = j
            · subst e; exact h
            · exact HJ.out k (by omega)
          have HUN : Hid (unord x.calm j = (decide (0 < j) && decide (0 ≤ ordL (x.calm.getD (j - 1) []) (x.calm.getD j [])))) := rfl
          clear hat hrow hb1
          generalize decide (x.calm.getD j [] ∈ x.out) = ve2 at HV HOI
          generalize hxl : (x.calm.getD j []).length = lx at hx HV hlx HPV HXX
          generalize cle j = oi at HOI HR HN
          generalize unord x.calm j = un at HOI HUN
          clear hxl
          have hjz : (j : Int) < (x.calm.length : Int) := by omega
          go_upto_region 20 with fail
          refine wp_region_ext (by kernel_rfl) (by kernel_rfl) ?_
          repeat (go_big_quiet_step ((go_at_call 100; exact Calls.ext_of (HV.out _ (by simp [go_sem, HE.out.trans HEr.out])))))
          refine wpQuiet_nil ?_
          rintro w9 ⟨⟨_, hE9⟩, rfl⟩
          have HE4 := hide (HEr.out.trans hE9)
          clear hE9 hx hbz c0 c1 c2 z1
          cases ve2 with
          | false =>
            have HOI2 := hide (HOI.out.trans (if_pos rfl))
            have HR2 := hide (HR.out (by rw [HOI2.out]; decide))
            go_wp2_with fail
            go_ret
            exact ⟨ret_int (by rw [HR2.out, HOI2.out]), HE.out.trans HE4.out⟩
          | true =>
          have HOI := hide (HOI.out.trans (if_neg (by decide)))
          go_upto_region 22 with fail
          go_cut [119] from 103 to 119 (fun x V => x = .bool un ∧ Hid (Ext w2 V))
          case first =>
            obtain ⟨c0, c1, c2, -, -, z1⟩ := (HC.out.ext HE4.out).cells
            by_cases hi0 : j = 0
            · subst hi0
              have hbb : un = false := by rw [HUN.out]; rfl
              subst hbb
              have hdz : decide ((0 : Int) < ((0 : Nat) : Int)) = false := rfl
              refine wp_region_ext (by kernel_rfl) (by kernel_rfl) ?_
              repeat (go_big_quiet_step (fail))
              refine wpQuiet_nil ?_
              rintro w9 ⟨⟨_, hE9⟩, rfl⟩
              go_wp2_with fail
              go_meet
              exact ⟨rfl, HE4.out.trans hE9⟩
            · obtain ⟨k, rfl⟩ : ∃ k, j = k + 1 := ⟨j - 1, by omega⟩
              obtain ⟨r0, d0, m0, hpx, hpc⟩ := HPV.out k rfl
              have HPC := hide hpc
              have HPX := hide hpx
              have hbb : decide (0 ≤ ordL (x.calm.getD k []) (x.calm.getD (k + 1) [])) = un := by rw [HUN.out, show k + 1 - 1 = k by omega, show decide (0 < k + 1) = true by simp, Bool.true_and]
              clear hpc hpx HPV HUN
              generalize ordL (x.calm.getD k []) (x.calm.getD (k + 1) []) = cc at HPC hbb
              have hk0 : (0 : Int) ≤ (k : Int) + 1 := by omega
              have hk1 : ((k : Int) + 1).toNat = k + 1 := by omega
              have hk3 : IntKind.i64.wrap ((k : Int) + 1 - 1) = (k : Int) := by rw [Int.add_sub_cancel]; exact IntWalk.i64_in _ (by omega)
              have hk4 : (k : Int) < (x.calm.length : Int) := by omega
              have hdz : decide ((0 : Int) < (k : Int) + 1) = true := by rw [decide_eq_true_iff]; omega
              have hpx := HPX.out _ (HE.out.trans HE4.out)
              have hxx := HXX.out _ (HE.out.trans HE4.out)
              have hbz := Nat.lt_of_lt_of_le HBZ1.out (HE.out.trans HE4.out).size
              subst hbb
              refine wp_region_ext (by kernel_rfl) (by kernel_rfl) ?_
              repeat (go_big_quiet_step ((go_at_call 48; exact Calls.ext_of (HPC.out _ (by simp [go_sem, HE.out.trans HE4.out])))))
              refine wpQuiet_nil ?_
              rintro w9 ⟨⟨_, hE9⟩, rfl⟩
              go_wp2_with fail
              go_meet
              exact ⟨rfl, HE4.out.trans hE9⟩
          case rest =>
            obtain ⟨rfl, HE5⟩ := hcut
            obtain ⟨W4, rfl⟩ : ∃ W4, W4 = wc := ⟨_, rfl⟩
            cases un with
            | true =>
              have HR2 := hide (HR.out (by rw [HOI.out]; decide))
              go_wp2_with fail
              go_ret
              exact ⟨ret_int (by rw [HR2.out, HOI.out]; rfl), HE.out.trans HE5.out⟩
            | false =>
              have HRN := hide (HN.out HOI.out)
              go_wp2_with fail
              go_roundw
              case rel => exact ⟨j + 1, by omega, by go_num, HRN.out, HE5.out⟩
              case measure => simp [intOf]; omega
      case pos =>
      obtain ⟨b1, o1, rfl, hb1, hat⟩ := HA.out (by omega)
      obtain ⟨q, d, hx, hrow, hlx⟩ := hat j hlt
      have HPV : Hid (∀ k, j = k + 1 → ∃ q0 d0 m, (∀ W, Ext w W → W.cell? ⟨b1, o1 + k, none⟩ = some (.slice q0 m d0)) ∧ ∀ W, Ext w W → Calls Tryd.prog 48 #[.slice q0 m d0, .slice q (x.out.getD j []).length d] W fun e w' => e = .returned (.int .i64 (ordL (x.out.getD k []) (x.out.getD j []))) ∧ Ext W w') := fun k hk => by
        obtain ⟨r0, l0, hD, hDr, _⟩ := hat k (by omega)
        exact ⟨r0, l0, _, hD, fun W hW => rorder_any _ _ _ _ W (hDr.ext hW) (hrow.ext hW)⟩
      have HXX := hide hx
      replace hx := hx _ (HE.out.trans HEr.out)
      have hbz := Nat.lt_of_lt_of_le hb1 (HE.out.trans HEr.out).size
      have HBZ1 := hide hb1
      obtain ⟨t0, t1, t2, t3⟩ := (HT.out.ext HEr.out).cells
      have z0 := lt_of_heap (HT.out.ext HEr.out)
      have HV := hide (fun W (hW : Ext w W) => rvector_any (x.out.getD j []) n outs _ W (hrow.ext hW))
      have HOI := hide (HO.out j)
      have HR := hide (fun he => HF1.out j hlt HJ.out he)
      have HN : Hid (oe j = 0 → ∀ k, k < j + 1 → oe k = 0) := fun h k hk => by
        by_cases e : k = j
        · subst e; exact h
        · exact HJ.out k (by omega)
      have HUN : Hid (unord x.out j = (decide (0 < j) && decide (0 ≤ ordL (x.out.getD (j - 1) []) (x.out.getD j [])))) := rfl
      clear hat hrow hb1
      generalize vecE (x.out.getD j []) n outs = ve2 at HV HOI
      generalize hxl : (x.out.getD j []).length = lx at hx HV hlx HPV HXX
      generalize oe j = oi at HOI HR HN
      generalize unord x.out j = un at HOI HUN
      clear hxl
      have hjz : (j : Int) < (x.out.length : Int) := by omega
      go_upto_region 12 with fail
      refine wp_region_ext (by kernel_rfl) (by kernel_rfl) ?_
      repeat (go_big_quiet_step ((go_at_call 99; exact Calls.ext_of (HV.out _ (by simp [go_sem, HE.out.trans HEr.out])))))
      refine wpQuiet_nil ?_
      rintro w9 ⟨⟨_, hE9⟩, rfl⟩
      have HE4 := hide (HEr.out.trans hE9)
      clear hE9 hx hbz c0 c1 c2 z1 t0 t1 t2 t3 z0
      by_cases hv0 : ve2 = 0
      case neg =>
        have hd : (ve2 != 0) = true := by simp [hv0]
        have HOI2 := hide (HOI.out.trans (if_pos hv0))
        have HR2 := hide (HR.out (by rw [HOI2.out]; exact hv0))
        clear hv0
        go_wp2_with fail
        go_ret
        exact ⟨ret_int (by rw [HR2.out, HOI2.out]), HE.out.trans HE4.out⟩
      case pos =>
      have hd : (ve2 != 0) = false := by simp [hv0]
      have HOI := hide (HOI.out.trans (if_neg (fun k => k hv0)))
      clear hv0
      go_upto_region 15 with fail
      clear hd
      go_cut [86] from 70 to 86 (fun x V => x = .bool un ∧ Hid (Ext w2 V))
      case first =>
        obtain ⟨c0, c1, c2, -, -, z1⟩ := (HC.out.ext HE4.out).cells
        by_cases hi0 : j = 0
        · subst hi0
          have hbb : un = false := by rw [HUN.out]; rfl
          subst hbb
          have hdz : decide ((0 : Int) < ((0 : Nat) : Int)) = false := rfl
          refine wp_region_ext (by kernel_rfl) (by kernel_rfl) ?_
          repeat (go_big_quiet_step (fail))
          refine wpQuiet_nil ?_
          rintro w9 ⟨⟨_, hE9⟩, rfl⟩
          go_wp2_with fail
          go_meet
          exact ⟨rfl, HE4.out.trans hE9⟩
        · obtain ⟨k, rfl⟩ : ∃ k, j = k + 1 := ⟨j - 1, by omega⟩
          obtain ⟨r0, d0, m0, hpx, hpc⟩ := HPV.out k rfl
          have HPC := hide hpc
          have HPX := hide hpx
          have hbb : decide (0 ≤ ordL (x.out.getD k []) (x.out.getD (k + 1) [])) = un := by rw [HUN.out, show k + 1 - 1 = k by omega, show decide (0 < k + 1) = true by simp, Bool.true_and]
          clear hpc hpx HPV HUN
          generalize ordL (x.out.getD k []) (x.out.getD (k + 1) []) = cc at HPC hbb
          have hk0 : (0 : Int) ≤ (k : Int) + 1 := by omega
          have hk1 : ((k : Int) + 1).toNat = k + 1 := by omega
          have hk3 : IntKind.i64.wrap ((k : Int) + 1 - 1) = (k : Int) := by rw [Int.add_sub_cancel]; exact IntWalk.i64_in _ (by omega)
          have hk4 : (k : Int) < (x.out.length : Int) := by omega
          have hdz : decide ((0 : Int) < (k : Int) + 1) = true := by rw [decide_eq_true_iff]; omega
          have hpx := HPX.out _ (HE.out.trans HE4.out)
          have hxx := HXX.out _ (HE.out.trans HE4.out)
          have hbz := Nat.lt_of_lt_of_le HBZ1.out (HE.out.trans HE4.out).size
          subst hbb
          refine wp_region_ext (by kernel_rfl) (by kernel_rfl) ?_
          repeat (go_big_quiet_step ((go_at_call 48; exact Calls.ext_of (HPC.out _ (by simp [go_sem, HE.out.trans HE4.out])))))
          refine wpQuiet_nil ?_
          rintro w9 ⟨⟨_, hE9⟩, rfl⟩
          go_wp2_with fail
          go_meet
          exact ⟨rfl, HE4.out.trans hE9⟩
      case rest =>
        obtain ⟨rfl, HE5⟩ := hcut
        obtain ⟨W4, rfl⟩ : ∃ W4, W4 = wc := ⟨_, rfl⟩
        cases un with
        | true =>
          have HR2 := hide (HR.out (by rw [HOI.out]; decide))
          go_wp2_with fail
          go_ret
          exact ⟨ret_int (by rw [HR2.out, HOI.out]; rfl), HE.out.trans HE5.out⟩
        | false =>
          have HRN := hide (HN.out HOI.out)
          go_wp2_with fail
          go_roundw
          case rel => exact ⟨j + 1, by omega, by go_num, HRN.out, HE5.out⟩
          case measure => simp [intOf]; omega
set_option maxRecDepth 16000 in
set_option maxHeartbeats 2000000 in
theorem rtcheck_bad (T : Tk) (p : Option Addr) (c : Nat) (w : World) (hb : T.n < 1 ∨ 5 < T.n ∨ T.ins < 1 ∨ 8 < T.ins ∨ T.outs < 1 ∨ 8 < T.outs) :
    Calls Tryd.prog 13 #[.agg #[.int .i64 T.n, .int .i64 T.ins, .int .i64 T.outs, .slice p T.cs.length c]] w fun e w' => e = .returned (.int .i64 2) ∧ Ext w w' := by
  obtain ⟨n, ins, outs, cs⟩ := T
  dsimp only at *
  have HE : Hid (Ext w (w.alloc (.cells #[.int .i64 n, .int .i64 ins, .int .i64 outs, .slice p cs.length c] 24))) := (Ext.refl w).alloc _
  have HB := hide hb
  clear hb
  cases h1 : decide (n < 1)
  case true =>
    go_enter Tryd.func13, Tryd.ntmps13
    go_wp2_with fail
    go_ret
    exact ⟨rfl, HE.out⟩
  cases h2 : decide (5 < n)
  case true =>
    go_enter Tryd.func13, Tryd.ntmps13
    go_wp2_with fail
    go_ret
    exact ⟨rfl, HE.out⟩
  cases h3 : decide (ins < 1)
  case true =>
    go_enter Tryd.func13, Tryd.ntmps13
    go_wp2_with fail
    go_ret
    exact ⟨rfl, HE.out⟩
  cases h4 : decide (8 < ins)
  case true =>
    go_enter Tryd.func13, Tryd.ntmps13
    go_wp2_with fail
    go_ret
    exact ⟨rfl, HE.out⟩
  cases h5 : decide (outs < 1)
  case true =>
    go_enter Tryd.func13, Tryd.ntmps13
    go_wp2_with fail
    go_ret
    exact ⟨rfl, HE.out⟩
  cases h6 : decide (8 < outs)
  case true =>
    go_enter Tryd.func13, Tryd.ntmps13
    go_wp2_with fail
    go_ret
    exact ⟨rfl, HE.out⟩
  simp only [decide_eq_false_iff_not] at h1 h2 h3 h4 h5 h6
  have := HB.out
  omega
set_option maxRecDepth 16000 in
set_option maxHeartbeats 2000000 in
theorem rtcheck_any (T : Tk) (v : Value) (w : World) (hv : TkRep w v T) :
    Calls Tryd.prog 13 #[v] w fun e w' => e = .returned (.int .i64 (tkE T)) ∧ Ext w w' := by
  have hv0 := hv
  obtain ⟨p, c, rfl, hc, hl, -⟩ := hv.all_
  by_cases hb : T.n < 1 ∨ 5 < T.n ∨ T.ins < 1 ∨ 8 < T.ins ∨ T.outs < 1 ∨ 8 < T.outs
  · have e : tkE T = 2 := if_pos hb
    rw [e]
    exact rtcheck_bad T p c w hb
  have HON := hide (fun i W (hW : Ext w W) hi => rone_any T i p c W (hv0.ext hW) hi)
  have HR0 : Hid (tkE T = if T.cs.length < 1 ∨ 1024 < T.cs.length then 5 else firstErr (inE T) T.cs.length) := if_neg hb
  have HE1 : Hid (¬ (T.cs.length < 1 ∨ 1024 < T.cs.length) → ∀ i, i < T.cs.length → (∀ j, j < i → inE T j = 0) → inE T i ≠ 0 → tkE T = inE T i) := fun hb i hi hj he => by
    rw [HR0.out, if_neg hb]; exact firstErr_at hi hj he
  have HE2 : Hid (¬ (T.cs.length < 1 ∨ 1024 < T.cs.length) → (∀ i, i < T.cs.length → inE T i = 0) → tkE T = 0) := fun hb h => by
    rw [HR0.out, if_neg hb]; exact firstErr_end h
  have HE0 : Hid (T.cs.length < 1 ∨ 1024 < T.cs.length → tkE T = 5) := fun h => by rw [HR0.out, if_pos h]
  obtain ⟨n, ins, outs, cs⟩ := T
  dsimp only at *
  generalize tkE ⟨n, ins, outs, cs⟩ = res at HE0 HE1 HE2 ⊢
  generalize inE ⟨n, ins, outs, cs⟩ = ie at HE1 HE2 HON
  have h1 : decide (n < 1) = false := by rw [decide_eq_false_iff_not]; omega
  have h2 : decide (5 < n) = false := by rw [decide_eq_false_iff_not]; omega
  have h3 : decide (ins < 1) = false := by rw [decide_eq_false_iff_not]; omega
  have h4 : decide (8 < ins) = false := by rw [decide_eq_false_iff_not]; omega
  have h5 : decide (outs < 1) = false := by rw [decide_eq_false_iff_not]; omega
  have h6 : decide (8 < outs) = false := by rw [decide_eq_false_iff_not]; omega
  clear hb HR0 hv hv0
  have HE : Hid (Ext w (w.alloc (.cells #[.int .i64 n, .int .i64 ins, .int .i64 outs, .slice p cs.length c] 24))) := (Ext.refl w).alloc _
  have HT : Hid (TBox (w.alloc (.cells #[.int .i64 n, .int .i64 ins, .int .i64 outs, .slice p cs.length c] 24)) w.heap.size (.int .i64 n) (.int .i64 ins) (.int .i64 outs) (.slice p cs.length c)) := heap_alloc_new w _
  generalize hw2 : w.alloc (.cells #[.int .i64 n, .int .i64 ins, .int .i64 outs, .slice p cs.length c] 24) = w2 at HE HT
  have HW2 := hide hw2
  clear hw2
  by_cases hb1 : cs.length < 1
  · have HR := hide (HE0.out (.inl hb1))
    have hd : decide ((cs.length : Int) < 1) = true := by rw [decide_eq_true_iff]; omega
    have hd' : decide (cs.length < 1) = true := by rw [decide_eq_true_iff]; omega
    go_enter Tryd.func13, Tryd.ntmps13
    go_wp2_with fail
    rw [HW2.out]
    go_ret
    exact ⟨ret_int HR.out.symm, HE.out⟩
  by_cases hb2 : 1024 < cs.length
  · have HR := hide (HE0.out (.inr hb2))
    have hd : decide ((cs.length : Int) < 1) = false := by rw [decide_eq_false_iff_not]; omega
    have hd' : decide (cs.length < 1) = false := by rw [decide_eq_false_iff_not]; omega
    have hd2 : decide ((1024 : Int) < (cs.length : Int)) = true := by rw [decide_eq_true_iff]; omega
    have hd2' : decide (1024 < cs.length) = true := by rw [decide_eq_true_iff]; omega
    go_enter Tryd.func13, Tryd.ntmps13
    go_wp2_with fail
    rw [HW2.out]
    go_ret
    exact ⟨ret_int HR.out.symm, HE.out⟩
  have HBD : Hid (¬ (cs.length < 1 ∨ 1024 < cs.length)) := fun h => h.elim hb1 hb2
  have HE1 := hide (HE1.out HBD.out)
  have HE2 := hide (HE2.out HBD.out)
  have hd : decide ((cs.length : Int) < 1) = false := by rw [decide_eq_false_iff_not]; omega
  have hd' : decide (cs.length < 1) = false := by rw [decide_eq_false_iff_not]; omega
  have hd2 : decide ((1024 : Int) < (cs.length : Int)) = false := by rw [decide_eq_false_iff_not]; omega
  have hd2' : decide (1024 < cs.length) = false := by rw [decide_eq_false_iff_not]; omega
  go_enter Tryd.func13, Tryd.ntmps13
  go_wp2_with fail
  rw [HW2.out]
  clear hd hd' hd2 hd2' h1 h2 h3 h4 h5 h6 HE0 HBD
  go_loopw [3] (fun x wr => ∃ i : Nat, i ≤ cs.length ∧ x = .int .i64 i ∧ Hid (∀ j, j < i → ie j = 0) ∧ Hid (Ext w2 wr)) (fun x _ => cs.length - (intOf x).toNat)
  case atStart => exact ⟨0, by omega, rfl, fun j hj => by omega, Ext.refl _⟩
  case round =>
    obtain ⟨i, hi, rfl, HJ, HEr⟩ := hrel
    obtain ⟨t0, t1, t2, t3⟩ := (HT.out.ext HEr.out).cells
    have z0 := lt_of_heap (HT.out.ext HEr.out)
    by_cases hlt : i < cs.length
    case neg =>
      obtain rfl : i = cs.length := by omega
      have HR := hide (HE2.out HJ.out)
      go_wp2_with fail
      go_ret
      exact ⟨ret_int HR.out.symm, HE.out.trans HEr.out⟩
    case pos =>
    have HOI := hide (HON.out i wr (HE.out.trans HEr.out) hlt)
    have HR := hide (fun he => HE1.out i hlt HJ.out he)
    have HN : Hid (ie i = 0 → ∀ j, j < i + 1 → ie j = 0) := fun h j hj => by
      by_cases e : j = i
      · subst e; exact h
      · exact HJ.out j (by omega)
    generalize ie i = oi at HOI HR HN
    go_wp2_with fail
    refine HOI.out.mono ?_
    rintro e W1 ⟨rfl, hE1⟩
    have HE4 := hide (HEr.out.trans hE1)
    clear hE1 t0 t1 t2 t3 z0
    by_cases hv0 : oi = 0
    · have hd : (oi != 0) = false := by simp [hv0]
      have HRN := hide (HN.out hv0)
      clear hv0
      go_wp2_with fail
      go_roundw
      case rel => exact ⟨i + 1, by omega, by go_num, HRN.out, HE4.out⟩
      case measure => simp [intOf]; omega
    · have hd : (oi != 0) = true := by simp [hv0]
      have HR2 := hide (HR.out hv0)
      clear hv0
      go_wp2_with fail
      go_ret
      exact ⟨ret_int HR2.out.symm, HE.out.trans HE4.out⟩
set_option maxRecDepth 16000 in
set_option maxHeartbeats 2000000 in
theorem rfewT_any (T : Tk) (v : Value) (w : World) (hv : TkRep w v T) :
    Calls Tryd.prog 12 #[v] w fun e w' => e = .returned (.bool (fewT T)) ∧ Ext w w' := by
  obtain ⟨p, c, rfl, hc, hl, hat⟩ := hv.all_
  have HA := hide hat
  have HE : Hid (Ext w (w.alloc (.cells #[.int .i64 T.n, .int .i64 T.ins, .int .i64 T.outs, .slice p T.cs.length c] 24))) := (Ext.refl w).alloc _
  have HT : Hid (TBox (w.alloc (.cells #[.int .i64 T.n, .int .i64 T.ins, .int .i64 T.outs, .slice p T.cs.length c] 24)) w.heap.size (.int .i64 T.n) (.int .i64 T.ins) (.int .i64 T.outs) (.slice p T.cs.length c)) := heap_alloc_new w _
  generalize hw2 : w.alloc (.cells #[.int .i64 T.n, .int .i64 T.ins, .int .i64 T.outs, .slice p T.cs.length c] 24) = w2 at HE HT
  have HW2 := hide hw2
  clear hw2 hv hat
  by_cases hb2 : 30 < T.cs.length
  · have HR : Hid (fewT T = false) := by
      show _ = _
      unfold fewT
      rw [decide_eq_false (by omega)]; rfl
    have hd2 : decide ((30 : Int) < (T.cs.length : Int)) = true := by rw [decide_eq_true_iff]; omega
    have hd2' : decide (30 < T.cs.length) = true := by rw [decide_eq_true_iff]; omega
    go_enter Tryd.func12, Tryd.ntmps12
    go_wp2_with fail
    rw [HW2.out]
    go_ret
    exact ⟨ret_bool HR.out.symm, HE.out⟩
  have H0 : Hid (fewT T = T.cs.all fewC) := by
    show _ = _
    unfold fewT
    rw [decide_eq_true (by omega), Bool.true_and]
  have H1 : Hid (∀ i, i < T.cs.length → fewC (T.cs.getD i default) = false → fewT T = false) := fun i hi hb => by
    rw [H0.out, List.all_eq_false]
    rw [List.getD_eq_getElem?_getD, List.getElem?_eq_getElem hi] at hb
    exact ⟨_, List.getElem_mem hi, by
      have hb : fewC T.cs[i] = false := hb
      simp [hb]⟩
  have H2 : Hid ((∀ i, i < T.cs.length → fewC (T.cs.getD i default) = true) → fewT T = true) := fun h => by
    rw [H0.out, List.all_eq_true]
    intro x hx
    obtain ⟨i, hi, rfl⟩ := List.getElem_of_mem hx
    have := h i hi
    rw [List.getD_eq_getElem?_getD, List.getElem?_eq_getElem hi] at this
    exact this
  have hd2 : decide ((30 : Int) < (T.cs.length : Int)) = false := by rw [decide_eq_false_iff_not]; omega
  have hd2' : decide (30 < T.cs.length) = false := by rw [decide_eq_false_iff_not]; omega
  clear H0
  generalize fewT T = res at H1 H2 ⊢
  go_enter Tryd.func12, Tryd.ntmps12
  go_wp2_with fail
  rw [HW2.out]
  clear hd2 hd2'
  go_loopw [3] (fun x wr => ∃ i : Nat, i ≤ T.cs.length ∧ x = .int .i64 i ∧ Hid (∀ j, j < i → fewC (T.cs.getD j default) = true) ∧ Hid (Ext w2 wr)) (fun x _ => T.cs.length - (intOf x).toNat)
  case atStart => exact ⟨0, by omega, rfl, fun j hj => by omega, Ext.refl _⟩
  case round =>
    obtain ⟨i, hi, rfl, HJ, HEr⟩ := hrel
    obtain ⟨t0, t1, t2, t3⟩ := (HT.out.ext HEr.out).cells
    have z0 := lt_of_heap (HT.out.ext HEr.out)
    by_cases hlt : i < T.cs.length
    case neg =>
      obtain rfl : i = T.cs.length := by omega
      have HR := hide (H2.out HJ.out)
      go_wp2_with fail
      go_ret
      exact ⟨ret_bool HR.out.symm, HE.out.trans HEr.out⟩
    case pos =>
    obtain ⟨b, o, rfl, hb, hat⟩ := HA.out (by omega)
    obtain ⟨q0, k0, q1, k1, q2, k2, hC⟩ := hat i hlt
    have x0 := hC.c0 _ (HE.out.trans HEr.out)
    have x1 := hC.c1 _ (HE.out.trans HEr.out)
    have x2 := hC.c2 _ (HE.out.trans HEr.out)
    have hbz := Nat.lt_of_lt_of_le hb (HE.out.trans HEr.out).size
    have HF := hide (H1.out i hlt)
    have HN : Hid (fewC (T.cs.getD i default) = true → ∀ j, j < i + 1 → fewC (T.cs.getD j default) = true) := fun h j hj => by
      by_cases e : j = i
      · subst e; exact h
      · exact HJ.out j (by omega)
    have HV1 := hide (fun W (hW : Ext w W) => rfewVs_any _ _ W (hC.r1.ext hW))
    have HV2 := hide (fun W (hW : Ext w W) => rfewVs_any _ _ W (hC.r2.ext hW))
    have HDF : Hid (fewC (T.cs.getD i default) = (decide ((T.cs.getD i default).inp.length ≤ 10) && (fewVs (T.cs.getD i default).out && fewVs (T.cs.getD i default).calm))) := rfl
    clear hat hC hb
    generalize fewC (T.cs.getD i default) = fc at HF HN HDF
    generalize fewVs (T.cs.getD i default).out = f1 at HV1 HDF
    generalize fewVs (T.cs.getD i default).calm = f2 at HV2 HDF
    generalize (T.cs.getD i default).inp.length = l0 at *
    generalize (T.cs.getD i default).out.length = l1 at *
    generalize (T.cs.getD i default).calm.length = l2 at *
    go_upto_region 7 with fail
    obtain ⟨w3, hw3⟩ : ∃ w3, wr.alloc (.cells #[.slice q0 l0 k0, .slice q1 l1 k1, .slice q2 l2 k2] 53) = w3 := ⟨_, rfl⟩
    have HC3 : Hid (CBox w3 wr.heap.size (.slice q0 l0 k0) (.slice q1 l1 k1) (.slice q2 l2 k2)) := by show _ = _; rw [← hw3]; exact heap_alloc_new wr _
    have HE3 : Hid (Ext w2 w3) := by show Ext _ _; rw [← hw3]; exact HEr.out.alloc _
    rw [hw3]
    clear hw3 x0 x1 x2 hbz t0 t1 t2 t3 z0
    generalize wr.heap.size = cb at HC3 ⊢
    obtain ⟨c0, c1, c2, -, -, z1⟩ := HC3.out.cells
    by_cases h10 : 10 < l0
    · have hd : decide ((10 : Int) < (l0 : Int)) = true := by rw [decide_eq_true_iff]; omega
      have hd' : decide (10 < l0) = true := by rw [decide_eq_true_iff]; omega
      have HR := hide (HF.out (by rw [HDF.out, decide_eq_false (by omega)]; rfl))
      clear h10
      go_wp2_with fail
      go_ret
      exact ⟨ret_bool HR.out.symm, HE.out.trans HE3.out⟩
    have hd : decide ((10 : Int) < (l0 : Int)) = false := by rw [decide_eq_false_iff_not]; omega
    have hd' : decide (10 < l0) = false := by rw [decide_eq_false_iff_not]; omega
    have HDF : Hid (fc = (f1 && f2)) := by
      show _ = _
      rw [HDF.out, decide_eq_true (by omega), Bool.true_and]
    clear h10
    go_wp2_with fail
    refine (HV1.out _ (HE.out.trans HE3.out)).mono ?_
    rintro e W1 ⟨rfl, hE1⟩
    have HE4 := hide (HE3.out.trans hE1)
    have HC4 := hide (HC3.out.ext hE1)
    clear hE1 c0 c1 c2 z1
    cases f1 with
    | false =>
      have HR := hide (HF.out (by rw [HDF.out]; rfl))
      go_wp2_with fail
      go_ret
      exact ⟨ret_bool HR.out.symm, HE.out.trans HE4.out⟩
    | true =>
    obtain ⟨c0, c1, c2, -, -, z1⟩ := HC4.out.cells
    go_wp2_with fail
    refine (HV2.out _ (HE.out.trans HE4.out)).mono ?_
    rintro e W5 ⟨rfl, hE1⟩
    have HE5 := hide (HE4.out.trans hE1)
    clear hE1 c0 c1 c2 z1
    cases f2 with
    | false =>
      have HR := hide (HF.out (by rw [HDF.out]; rfl))
      go_wp2_with fail
      go_ret
      exact ⟨ret_bool HR.out.symm, HE.out.trans HE5.out⟩
    | true =>
      have HR := hide (HN.out (by rw [HDF.out]; rfl))
      go_wp2_with fail
      go_roundw
      case rel => exact ⟨i + 1, by omega, by go_num, HR.out, HE5.out⟩
      case measure => simp [intOf]; omega
end Go.Proofs.YtdgapihlgddnjaaDoor
