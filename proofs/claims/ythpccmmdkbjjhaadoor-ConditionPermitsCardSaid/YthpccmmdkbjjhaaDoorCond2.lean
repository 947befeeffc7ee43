/-
  The checks of conditions (condition.checker, inputs, allow, outputs, graphs; roundtableref13.Cond, given).
  Conditions: as each theorem states.
-/
import Derived.Test.YthpccmmdkbjjhaaDoorCond
namespace Go.Proofs.YthpccmmdkbjjhaaDoor
open Go.RowKit

theorem checker_any (uses : Int) (opt : Bool) (w : World) : Calls Tryd.prog 90 #[.int .i64 uses, .bool opt] w fun e w' =>
    e = .returned (.func (.func 111) #[] #[P0 (w.heap.size + 1), P0 w.heap.size]) ∧ w' = (w.alloc (.cells #[.int .i64 uses] 3)).alloc (.cells #[.bool opt] 4) := by
  go_enter Tryd.func90, Tryd.ntmps90
  go_wp2
  go_ret
  exact ⟨rfl, rfl⟩

set_option maxHeartbeats 1000000 in
theorem chk_any (e : Ex) (uses : Nat) (opt : Bool) (b1 b2 : Nat) (v : Value) (w : World) (hT : Tab w) (hv : ExAt w v e) (hn : e.nodes ≤ 100000) (hu8 : uses < 8) (h1 : w.cell? ⟨b1, 0, none⟩ = some (.bool opt)) (h2 : w.cell? ⟨b2, 0, none⟩ = some (.int .i64 uses)) (hb1 : b1 < w.heap.size) (hb2 : b2 < w.heap.size) :
    Calls Tryd.prog 111 #[v, P0 b1, P0 b2] w fun e' w' => e' = .returned (.int .i64 (if opt = true then givenS e uses else condS e uses)) ∧ Ext w w' := by
  have HA := hide (fun W (hW : Ext w W) => absent_any e v W (hv.ext hW))
  have HC := hide (fun W (hW : Ext w W) => pexcheck_any e 0 v W (hT.ext hW) (hv.ext hW) hn)
  have HK := hide (fun W (hW : Ext w W) => pkind_any e v W (hT.ext hW) (hv.ext hW))
  have HU := hide (fun W (hW : Ext w W) => puses_any e v W (hv.ext hW))
  have hul := usesE_lt e
  have hmk := mask_eq hul hu8
  have HMK := hide hmk
  clear hmk
  have HEK := hide (fun h => exchk_kind (e := e) h)
  obtain ⟨p, c, rfl, hc, hl⟩ := hv.form
  clear hv hT
  have hE0 : Ext w (w.alloc (.cells #[.int .i64 e.op, .int .i64 e.num, .slice p e.args.length c] 26)) := (Ext.refl w).alloc _
  have HB := hide (fun w1 => xbox w e.op e.num (.slice p e.args.length c) (w1 := w1))
  have HO := hide (fun W (hW : Ext w W) => And.intro ((hW.cell (p := ⟨b1, 0, none⟩) hb1).trans h1) ((hW.cell (p := ⟨b2, 0, none⟩) hb2).trans h2))
  generalize hres : (if opt = true then givenS e uses else condS e uses) = res
  unfold givenS at hres
  have rest : ∀ (op : Bool), op = opt → (opt = true → absentE e = false) → condS e uses = res → Calls Tryd.prog 111 #[.agg #[.int .i64 e.op, .int .i64 e.num, .slice p e.args.length c], P0 b1, P0 b2] w fun e' w' => e' = .returned (.int .i64 res) ∧ Ext w w' := by
    intro op hop hab hcs
    unfold condS at hcs
    by_cases hx : exchk e 0 ≠ 0
    · rw [if_pos hx] at hcs
      have HR := hide hcs
      have hd : (exchk e 0 != 0) = true := by simp [hx]
      clear hcs hx HEK HK HU HMK hres
      generalize exchk e 0 = k at HC HR hd
      cases opt with
      | false =>
        clear hab HA hop
        go_enter Tryd.func111, Tryd.ntmps111
        go_wp2_with fail
        refine (HC.out _ hE0).mono ?_
        rintro e' w1 ⟨rfl, hE1⟩
        go_wp2_with fail
        go_ret
        exact ⟨ret_int HR.out, hE0.trans hE1⟩
      | true =>
        have hab := hab rfl
        rw [hab] at HA
        clear hab hop
        go_enter Tryd.func111, Tryd.ntmps111
        go_wp2_with fail
        refine (HA.out _ hE0).mono ?_
        rintro e' w1 ⟨rfl, hE1⟩
        obtain ⟨c0, c1, c2, hz⟩ := HB.out _ hE1
        go_wp2_with fail
        refine (HC.out _ (hE0.trans hE1)).mono ?_
        rintro e' w2 ⟨rfl, hE2⟩
        go_wp2_with fail
        go_ret
        exact ⟨ret_int HR.out, (hE0.trans hE1).trans hE2⟩
    rw [if_neg hx] at hcs
    have hx0 : exchk e 0 = 0 := by simpa using hx
    have hke := HEK.out hx0
    rw [hke] at HK
    rw [hx0] at HC
    clear hx hx0 hke HEK hres
    generalize kindOf e.op = kd at HK hcs
    have fin : ∀ (w1 : World), Ext (w.alloc (.cells #[.int .i64 e.op, .int .i64 e.num, .slice p e.args.length c] 26)) w1 → True := fun _ _ => trivial
    clear fin
    by_cases hk : kd ≠ 1
    · rw [if_pos hk] at hcs
      have HR := hide hcs
      have hd : (kd != 1) = true := by simp [hk]
      clear hcs hk HU HMK
      cases opt with
      | false =>
        clear hab HA hop
        go_enter Tryd.func111, Tryd.ntmps111
        go_wp2_with fail
        refine (HC.out _ hE0).mono ?_
        rintro e' w1 ⟨rfl, hE1⟩
        obtain ⟨c0, c1, c2, hz⟩ := HB.out _ hE1
        go_wp2_with fail
        refine (HK.out _ (hE0.trans hE1)).mono ?_
        rintro e' w2 ⟨rfl, hE2⟩
        go_wp2_with fail
        go_ret
        exact ⟨ret_int HR.out, (hE0.trans hE1).trans hE2⟩
      | true =>
        have hab := hab rfl
        rw [hab] at HA
        clear hab hop
        go_enter Tryd.func111, Tryd.ntmps111
        go_wp2_with fail
        refine (HA.out _ hE0).mono ?_
        rintro e' w1 ⟨rfl, hE1⟩
        obtain ⟨c0, c1, c2, hz⟩ := HB.out _ hE1
        go_wp2_with fail
        refine (HC.out _ (hE0.trans hE1)).mono ?_
        rintro e' w2 ⟨rfl, hE2⟩
        have hE2 := hE1.trans hE2
        clear c0 c1 c2 hz
        obtain ⟨c0, c1, c2, hz⟩ := HB.out _ hE2
        go_wp2_with fail
        refine (HK.out _ (hE0.trans hE2)).mono ?_
        rintro e' w3 ⟨rfl, hE3⟩
        go_wp2_with fail
        go_ret
        exact ⟨ret_int HR.out, (hE0.trans hE2).trans hE3⟩
    rw [if_neg hk] at hcs
    obtain rfl : kd = 1 := by simpa using hk
    have hml : usesE e &&& uses ≠ usesE e ↔ ¬ (usesE e &&& uses = usesE e) := Iff.rfl
    have HR : Hid (∀ b : Bool, decide (usesE e &&& uses = usesE e) = b → (if b = true then (0 : Int) else 11) = res) := fun b hb => by
      rw [← hcs]
      by_cases h : usesE e &&& uses = usesE e
      · rw [decide_eq_true h] at hb; subst hb; rw [if_pos rfl, if_neg (fun h2 => h2 h)]
      · rw [decide_eq_false h] at hb; subst hb; rw [if_neg (by decide), if_pos h]
    clear hk hcs hml
    generalize decide (usesE e &&& uses = usesE e) = bb at HMK HR
    have HR := hide (HR.out bb rfl)
    generalize usesE e = ue at HU HMK hul
    cases opt with
    | false =>
      clear hab HA hop
      go_enter Tryd.func111, Tryd.ntmps111
      go_wp2_with fail
      refine (HC.out _ hE0).mono ?_
      rintro e' w1 ⟨rfl, hE1⟩
      obtain ⟨c0, c1, c2, hz⟩ := HB.out _ hE1
      go_wp2_with fail
      refine (HK.out _ (hE0.trans hE1)).mono ?_
      rintro e' w2 ⟨rfl, hE2⟩
      have hE2 := hE1.trans hE2
      clear c0 c1 c2 hz
      obtain ⟨c0, c1, c2, hz⟩ := HB.out _ hE2
      obtain ⟨-, o2⟩ := HO.out _ (hE0.trans hE2)
      have hb2' : b2 < w2.heap.size := Nat.lt_of_lt_of_le hb2 (hE0.trans hE2).size
      have hmk := HMK.out
      go_wp2_with fail
      refine wp_region_ext (by kernel_rfl) (by kernel_rfl) ?_
      repeat (go_big_quiet_step ((go_at_call 113; exact Calls.ext_of (HU.out _ (by simp [go_sem, hE0.trans hE2])))))
      refine wpQuiet_nil ?_
      rintro w9 ⟨⟨_, hE9⟩, rfl⟩
      clear hmk
      cases bb
      · go_wp2_with fail
        go_ret
        exact ⟨ret_int HR.out, (hE0.trans hE2).trans hE9⟩
      · go_wp2_with fail
        go_ret
        exact ⟨ret_int HR.out, (hE0.trans hE2).trans hE9⟩
    | true =>
      have hab := hab rfl
      rw [hab] at HA
      clear hab hop
      go_enter Tryd.func111, Tryd.ntmps111
      go_wp2_with fail
      refine (HA.out _ hE0).mono ?_
      rintro e' w1 ⟨rfl, hE1⟩
      obtain ⟨c0, c1, c2, hz⟩ := HB.out _ hE1
      go_wp2_with fail
      refine (HC.out _ (hE0.trans hE1)).mono ?_
      rintro e' w2 ⟨rfl, hE2⟩
      have hE1 := hE1.trans hE2
      clear c0 c1 c2 hz hE2
      obtain ⟨c0, c1, c2, hz⟩ := HB.out _ hE1
      go_wp2_with fail
      refine (HK.out _ (hE0.trans hE1)).mono ?_
      rintro e' w2 ⟨rfl, hE2⟩
      have hE2 := hE1.trans hE2
      clear c0 c1 c2 hz
      obtain ⟨c0, c1, c2, hz⟩ := HB.out _ hE2
      obtain ⟨-, o2⟩ := HO.out _ (hE0.trans hE2)
      have hb2' : b2 < w2.heap.size := Nat.lt_of_lt_of_le hb2 (hE0.trans hE2).size
      have hmk := HMK.out
      go_wp2_with fail
      refine wp_region_ext (by kernel_rfl) (by kernel_rfl) ?_
      repeat (go_big_quiet_step ((go_at_call 113; exact Calls.ext_of (HU.out _ (by simp [go_sem, hE0.trans hE2])))))
      refine wpQuiet_nil ?_
      rintro w9 ⟨⟨_, hE9⟩, rfl⟩
      clear hmk
      cases bb
      · go_wp2_with fail
        go_ret
        exact ⟨ret_int HR.out, (hE0.trans hE2).trans hE9⟩
      · go_wp2_with fail
        go_ret
        exact ⟨ret_int HR.out, (hE0.trans hE2).trans hE9⟩
  cases opt with
  | false =>
    rw [if_neg (by decide)] at hres
    exact rest false rfl (fun h => by cases h) hres
  | true =>
    rw [if_pos rfl] at hres
    cases hab : absentE e with
    | false =>
      rw [hab, if_neg (by decide)] at hres
      exact rest true rfl (fun _ => hab) hres
    | true =>
      rw [hab, if_pos rfl] at hres
      have HR := hide hres
      rw [hab] at HA
      clear hres hab rest HC HK HU HMK HEK
      go_enter Tryd.func111, Tryd.ntmps111
      go_wp2_with fail
      refine (HA.out _ hE0).mono ?_
      rintro e' w1 ⟨rfl, hE1⟩
      go_wp2_with fail
      go_ret
      exact ⟨ret_int HR.out, hE0.trans hE1⟩


set_option maxRecDepth 8000 in
theorem cinputs_any (e : Ex) (v : Value) (w : World) (hT : Tab w) (hv : ExAt w v e) (hn : e.nodes ≤ 100000) :
    Calls Tryd.prog 45 #[v] w fun e' w' => e' = .returned (.int .i64 (givenS e 1)) ∧ Ext w w' := by
  have HC := hide (fun W b1 b2 (hW : Ext w W) h1 h2 h3 h4 => chk_any e 1 true b1 b2 v W (hT.ext hW) (hv.ext hW) hn (by decide) h1 h2 h3 h4)
  obtain ⟨p, c, rfl, hc, hl⟩ := hv.form
  clear hv hT
  have hE0 : Ext w (w.alloc (.cells #[.int .i64 e.op, .int .i64 e.num, .slice p e.args.length c] 26)) := (Ext.refl w).alloc _
  have HB := hide (fun w1 => xbox w e.op e.num (.slice p e.args.length c) (w1 := w1))
  go_enter Tryd.func45, Tryd.ntmps45
  go_wp2_with fail
  obtain ⟨w2, hw2⟩ : ∃ w2, w.alloc (.cells #[.int .i64 e.op, .int .i64 e.num, .slice p e.args.length c] 26) = w2 := ⟨_, rfl⟩
  rw [hw2] at hE0 HB ⊢
  clear hw2
  refine wp_region_heldAll (fun V => Ext w2 V) (by kernel_rfl) ?_
  intro W2 hW2
  have hR2 : Ext w2 W2 := by rw [hW2]; exact (Ext.refl w2).drew
  clear hW2
  refine wpAnyT_take (i := 1) (.agg #[.int .i64 e.op, .int .i64 e.num, .slice p e.args.length c]) rfl (by kernel_rfl) (by kernel_rfl) (by kernel_rfl) (by simp [Region.wanted]) (fun V hV => by
    obtain ⟨c0, c1, c2, -⟩ := HB.out V hV
    go_simp) hR2 ?_
  try simp only [Act.put, List.getElem_toArray, List.getElem_cons_zero, List.getElem_cons_succ, List.setIfInBounds_toArray, List.set_cons_zero, List.set_cons_succ]
  refine wpAnyT_one (i := 0) rfl (by kernel_rfl) (fun K hK => ?_)
  go_wp2_with fail
  refine (checker_any _ _ W2).mono ?_
  rintro e' w3 ⟨rfl, hw3⟩
  have hR3 : Ext W2 w3 := by rw [hw3]; exact ((Ext.refl W2).alloc _).alloc _
  have ha := (cell_new1 (W2.alloc (.cells #[.int .i64 1] 3)) (.bool true) 4 0 _ rfl)
  rw [World.size_alloc] at ha
  have hb : w3.cell? ⟨W2.heap.size + 1, 0, none⟩ = some (.bool true) := by rw [hw3]; exact ha
  have hc3 : w3.cell? ⟨W2.heap.size, 0, none⟩ = some (.int .i64 1) := by rw [hw3]; simp [go_sem]
  have hz3 : W2.heap.size + 1 < w3.heap.size := by rw [hw3]; simp
  clear hw3 ha
  have hR := hR2.trans hR3
  generalize W2.heap.size = g at hb hc3 hz3 ⊢
  have HC3 := hide (HC.out w3 (g + 1) g (hE0.trans hR) hb hc3 hz3 (by omega))
  clear hb hc3
  go_wp2_with fail
  refine ⟨rfl, hK _ _ hR ?_⟩
  clear hK K
  try simp only [Act.put, List.getElem_toArray, List.getElem_cons_zero, List.getElem_cons_succ, List.setIfInBounds_toArray, List.set_cons_zero, List.set_cons_succ]
  refine wpAnyT_one (i := 2) rfl (by kernel_rfl) (fun K hK => ?_)
  go_wp2_with fail
  refine HC3.out.mono ?_
  rintro e' w4 ⟨rfl, hE4⟩
  have hR4 := hR.trans hE4
  go_wp2_with fail
  refine ⟨rfl, hK _ _ hR4 ?_⟩
  clear hK K
  refine wpAnyT_take (i := 3) (.int .i64 (givenS e 1)) rfl (by kernel_rfl) (by kernel_rfl) (by kernel_rfl) (by simp [Region.wanted]) (fun V hV => by go_simp) hR4 ?_
  try simp only [Act.put, List.getElem_toArray, List.getElem_cons_zero, List.getElem_cons_succ, List.setIfInBounds_toArray, List.set_cons_zero, List.set_cons_succ]
  refine wpAnyT_done (by kernel_rfl) ?_ _
  go_wp2_with fail
  go_ret
  exact ⟨rfl, hE0.trans hR4⟩

set_option maxRecDepth 8000 in
theorem callow_any (e : Ex) (v : Value) (w : World) (hT : Tab w) (hv : ExAt w v e) (hn : e.nodes ≤ 100000) :
    Calls Tryd.prog 59 #[v] w fun e' w' => e' = .returned (.int .i64 (condS e 3)) ∧ Ext w w' := by
  have HC := hide (fun W b1 b2 (hW : Ext w W) h1 h2 h3 h4 => chk_any e 3 false b1 b2 v W (hT.ext hW) (hv.ext hW) hn (by decide) h1 h2 h3 h4)
  obtain ⟨p, c, rfl, hc, hl⟩ := hv.form
  clear hv hT
  have hE0 : Ext w (w.alloc (.cells #[.int .i64 e.op, .int .i64 e.num, .slice p e.args.length c] 26)) := (Ext.refl w).alloc _
  have HB := hide (fun w1 => xbox w e.op e.num (.slice p e.args.length c) (w1 := w1))
  go_enter Tryd.func59, Tryd.ntmps59
  go_wp2_with fail
  obtain ⟨w2, hw2⟩ : ∃ w2, w.alloc (.cells #[.int .i64 e.op, .int .i64 e.num, .slice p e.args.length c] 26) = w2 := ⟨_, rfl⟩
  rw [hw2] at hE0 HB ⊢
  clear hw2
  refine wp_region_heldAll (fun V => Ext w2 V) (by kernel_rfl) ?_
  intro W2 hW2
  have hR2 : Ext w2 W2 := by rw [hW2]; exact (Ext.refl w2).drew
  clear hW2
  refine wpAnyT_take (i := 1) (.agg #[.int .i64 e.op, .int .i64 e.num, .slice p e.args.length c]) rfl (by kernel_rfl) (by kernel_rfl) (by kernel_rfl) (by simp [Region.wanted]) (fun V hV => by
    obtain ⟨c0, c1, c2, -⟩ := HB.out V hV
    go_simp) hR2 ?_
  try simp only [Act.put, List.getElem_toArray, List.getElem_cons_zero, List.getElem_cons_succ, List.setIfInBounds_toArray, List.set_cons_zero, List.set_cons_succ]
  refine wpAnyT_one (i := 0) rfl (by kernel_rfl) (fun K hK => ?_)
  go_wp2_with fail
  refine (checker_any _ _ W2).mono ?_
  rintro e' w3 ⟨rfl, hw3⟩
  have hR3 : Ext W2 w3 := by rw [hw3]; exact ((Ext.refl W2).alloc _).alloc _
  have ha := (cell_new1 (W2.alloc (.cells #[.int .i64 3] 3)) (.bool false) 4 0 _ rfl)
  rw [World.size_alloc] at ha
  have hb : w3.cell? ⟨W2.heap.size + 1, 0, none⟩ = some (.bool false) := by rw [hw3]; exact ha
  have hc3 : w3.cell? ⟨W2.heap.size, 0, none⟩ = some (.int .i64 3) := by rw [hw3]; simp [go_sem]
  have hz3 : W2.heap.size + 1 < w3.heap.size := by rw [hw3]; simp
  clear hw3 ha
  have hR := hR2.trans hR3
  generalize W2.heap.size = g at hb hc3 hz3 ⊢
  have HC3 := hide (HC.out w3 (g + 1) g (hE0.trans hR) hb hc3 hz3 (by omega))
  clear hb hc3
  go_wp2_with fail
  refine ⟨rfl, hK _ _ hR ?_⟩
  clear hK K
  try simp only [Act.put, List.getElem_toArray, List.getElem_cons_zero, List.getElem_cons_succ, List.setIfInBounds_toArray, List.set_cons_zero, List.set_cons_succ]
  refine wpAnyT_one (i := 2) rfl (by kernel_rfl) (fun K hK => ?_)
  go_wp2_with fail
  refine HC3.out.mono ?_
  rintro e' w4 ⟨rfl, hE4⟩
  have hR4 := hR.trans hE4
  go_wp2_with fail
  refine ⟨rfl, hK _ _ hR4 ?_⟩
  clear hK K
  refine wpAnyT_take (i := 3) (.int .i64 (condS e 3)) rfl (by kernel_rfl) (by kernel_rfl) (by kernel_rfl) (by simp [Region.wanted]) (fun V hV => by go_simp) hR4 ?_
  try simp only [Act.put, List.getElem_toArray, List.getElem_cons_zero, List.getElem_cons_succ, List.setIfInBounds_toArray, List.set_cons_zero, List.set_cons_succ]
  refine wpAnyT_done (by kernel_rfl) ?_ _
  go_wp2_with fail
  go_ret
  exact ⟨rfl, hE0.trans hR4⟩

set_option maxRecDepth 8000 in
theorem coutputs_any (e : Ex) (v : Value) (w : World) (hT : Tab w) (hv : ExAt w v e) (hn : e.nodes ≤ 100000) :
    Calls Tryd.prog 55 #[v] w fun e' w' => e' = .returned (.int .i64 (givenS e 3)) ∧ Ext w w' := by
  have HC := hide (fun W b1 b2 (hW : Ext w W) h1 h2 h3 h4 => chk_any e 3 true b1 b2 v W (hT.ext hW) (hv.ext hW) hn (by decide) h1 h2 h3 h4)
  obtain ⟨p, c, rfl, hc, hl⟩ := hv.form
  clear hv hT
  have hE0 : Ext w (w.alloc (.cells #[.int .i64 e.op, .int .i64 e.num, .slice p e.args.length c] 26)) := (Ext.refl w).alloc _
  have HB := hide (fun w1 => xbox w e.op e.num (.slice p e.args.length c) (w1 := w1))
  go_enter Tryd.func55, Tryd.ntmps55
  go_wp2_with fail
  obtain ⟨w2, hw2⟩ : ∃ w2, w.alloc (.cells #[.int .i64 e.op, .int .i64 e.num, .slice p e.args.length c] 26) = w2 := ⟨_, rfl⟩
  rw [hw2] at hE0 HB ⊢
  clear hw2
  refine wp_region_heldAll (fun V => Ext w2 V) (by kernel_rfl) ?_
  intro W2 hW2
  have hR2 : Ext w2 W2 := by rw [hW2]; exact (Ext.refl w2).drew
  clear hW2
  refine wpAnyT_take (i := 1) (.agg #[.int .i64 e.op, .int .i64 e.num, .slice p e.args.length c]) rfl (by kernel_rfl) (by kernel_rfl) (by kernel_rfl) (by simp [Region.wanted]) (fun V hV => by
    obtain ⟨c0, c1, c2, -⟩ := HB.out V hV
    go_simp) hR2 ?_
  try simp only [Act.put, List.getElem_toArray, List.getElem_cons_zero, List.getElem_cons_succ, List.setIfInBounds_toArray, List.set_cons_zero, List.set_cons_succ]
  refine wpAnyT_one (i := 0) rfl (by kernel_rfl) (fun K hK => ?_)
  go_wp2_with fail
  refine (checker_any _ _ W2).mono ?_
  rintro e' w3 ⟨rfl, hw3⟩
  have hR3 : Ext W2 w3 := by rw [hw3]; exact ((Ext.refl W2).alloc _).alloc _
  have ha := (cell_new1 (W2.alloc (.cells #[.int .i64 3] 3)) (.bool true) 4 0 _ rfl)
  rw [World.size_alloc] at ha
  have hb : w3.cell? ⟨W2.heap.size + 1, 0, none⟩ = some (.bool true) := by rw [hw3]; exact ha
  have hc3 : w3.cell? ⟨W2.heap.size, 0, none⟩ = some (.int .i64 3) := by rw [hw3]; simp [go_sem]
  have hz3 : W2.heap.size + 1 < w3.heap.size := by rw [hw3]; simp
  clear hw3 ha
  have hR := hR2.trans hR3
  generalize W2.heap.size = g at hb hc3 hz3 ⊢
  have HC3 := hide (HC.out w3 (g + 1) g (hE0.trans hR) hb hc3 hz3 (by omega))
  clear hb hc3
  go_wp2_with fail
  refine ⟨rfl, hK _ _ hR ?_⟩
  clear hK K
  try simp only [Act.put, List.getElem_toArray, List.getElem_cons_zero, List.getElem_cons_succ, List.setIfInBounds_toArray, List.set_cons_zero, List.set_cons_succ]
  refine wpAnyT_one (i := 2) rfl (by kernel_rfl) (fun K hK => ?_)
  go_wp2_with fail
  refine HC3.out.mono ?_
  rintro e' w4 ⟨rfl, hE4⟩
  have hR4 := hR.trans hE4
  go_wp2_with fail
  refine ⟨rfl, hK _ _ hR4 ?_⟩
  clear hK K
  refine wpAnyT_take (i := 3) (.int .i64 (givenS e 3)) rfl (by kernel_rfl) (by kernel_rfl) (by kernel_rfl) (by simp [Region.wanted]) (fun V hV => by go_simp) hR4 ?_
  try simp only [Act.put, List.getElem_toArray, List.getElem_cons_zero, List.getElem_cons_succ, List.setIfInBounds_toArray, List.set_cons_zero, List.set_cons_succ]
  refine wpAnyT_done (by kernel_rfl) ?_ _
  go_wp2_with fail
  go_ret
  exact ⟨rfl, hE0.trans hR4⟩

set_option maxRecDepth 8000 in
theorem cgraphs_any (e : Ex) (v : Value) (w : World) (hT : Tab w) (hv : ExAt w v e) (hn : e.nodes ≤ 100000) :
    Calls Tryd.prog 64 #[v] w fun e' w' => e' = .returned (.int .i64 (condS e 4)) ∧ Ext w w' := by
  have HC := hide (fun W b1 b2 (hW : Ext w W) h1 h2 h3 h4 => chk_any e 4 false b1 b2 v W (hT.ext hW) (hv.ext hW) hn (by decide) h1 h2 h3 h4)
  obtain ⟨p, c, rfl, hc, hl⟩ := hv.form
  clear hv hT
  have hE0 : Ext w (w.alloc (.cells #[.int .i64 e.op, .int .i64 e.num, .slice p e.args.length c] 26)) := (Ext.refl w).alloc _
  have HB := hide (fun w1 => xbox w e.op e.num (.slice p e.args.length c) (w1 := w1))
  go_enter Tryd.func64, Tryd.ntmps64
  go_wp2_with fail
  obtain ⟨w2, hw2⟩ : ∃ w2, w.alloc (.cells #[.int .i64 e.op, .int .i64 e.num, .slice p e.args.length c] 26) = w2 := ⟨_, rfl⟩
  rw [hw2] at hE0 HB ⊢
  clear hw2
  refine wp_region_heldAll (fun V => Ext w2 V) (by kernel_rfl) ?_
  intro W2 hW2
  have hR2 : Ext w2 W2 := by rw [hW2]; exact (Ext.refl w2).drew
  clear hW2
  refine wpAnyT_take (i := 1) (.agg #[.int .i64 e.op, .int .i64 e.num, .slice p e.args.length c]) rfl (by kernel_rfl) (by kernel_rfl) (by kernel_rfl) (by simp [Region.wanted]) (fun V hV => by
    obtain ⟨c0, c1, c2, -⟩ := HB.out V hV
    go_simp) hR2 ?_
  try simp only [Act.put, List.getElem_toArray, List.getElem_cons_zero, List.getElem_cons_succ, List.setIfInBounds_toArray, List.set_cons_zero, List.set_cons_succ]
  refine wpAnyT_one (i := 0) rfl (by kernel_rfl) (fun K hK => ?_)
  go_wp2_with fail
  refine (checker_any _ _ W2).mono ?_
  rintro e' w3 ⟨rfl, hw3⟩
  have hR3 : Ext W2 w3 := by rw [hw3]; exact ((Ext.refl W2).alloc _).alloc _
  have ha := (cell_new1 (W2.alloc (.cells #[.int .i64 4] 3)) (.bool false) 4 0 _ rfl)
  rw [World.size_alloc] at ha
  have hb : w3.cell? ⟨W2.heap.size + 1, 0, none⟩ = some (.bool false) := by rw [hw3]; exact ha
  have hc3 : w3.cell? ⟨W2.heap.size, 0, none⟩ = some (.int .i64 4) := by rw [hw3]; simp [go_sem]
  have hz3 : W2.heap.size + 1 < w3.heap.size := by rw [hw3]; simp
  clear hw3 ha
  have hR := hR2.trans hR3
  generalize W2.heap.size = g at hb hc3 hz3 ⊢
  have HC3 := hide (HC.out w3 (g + 1) g (hE0.trans hR) hb hc3 hz3 (by omega))
  clear hb hc3
  go_wp2_with fail
  refine ⟨rfl, hK _ _ hR ?_⟩
  clear hK K
  try simp only [Act.put, List.getElem_toArray, List.getElem_cons_zero, List.getElem_cons_succ, List.setIfInBounds_toArray, List.set_cons_zero, List.set_cons_succ]
  refine wpAnyT_one (i := 2) rfl (by kernel_rfl) (fun K hK => ?_)
  go_wp2_with fail
  refine HC3.out.mono ?_
  rintro e' w4 ⟨rfl, hE4⟩
  have hR4 := hR.trans hE4
  go_wp2_with fail
  refine ⟨rfl, hK _ _ hR4 ?_⟩
  clear hK K
  refine wpAnyT_take (i := 3) (.int .i64 (condS e 4)) rfl (by kernel_rfl) (by kernel_rfl) (by kernel_rfl) (by simp [Region.wanted]) (fun V hV => by go_simp) hR4 ?_
  try simp only [Act.put, List.getElem_toArray, List.getElem_cons_zero, List.getElem_cons_succ, List.setIfInBounds_toArray, List.set_cons_zero, List.set_cons_succ]
  refine wpAnyT_done (by kernel_rfl) ?_ _
  go_wp2_with fail
  go_ret
  exact ⟨rfl, hE0.trans hR4⟩
end Go.Proofs.YthpccmmdkbjjhaaDoor
