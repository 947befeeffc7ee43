/-
  The closures that choose the vectors (condition.Inputs$1, Outputs$2).
  Conditions: as each theorem states.
-/
import Derived.Test.YthkididgbaamcaaGreatDoorExE
namespace Go.Proofs.YthkididgbaamcaaGreatDoor
open Go.RowKit

def sizeB (v : Int) : Bool := decide (v < 1) || decide (8 < v)
theorem sizefn_any (x : Int) (W : World) : Calls Tryz.prog 62 #[.int .i64 x] W fun e w' => e = .returned (.bool (sizeB x)) ∧ w' = W := by
  unfold sizeB
  by_cases h1 : x < 1 <;> by_cases h2 : 8 < x
  all_goals
    go_enter Tryz.func62, Tryz.ntmps62
    go_wp2
    go_ret
    simp [h1, h2]
def sizesS (n : Int) (l : List Int) : Int := if n < 1 ∨ 5 < n ∨ l.any sizeB = true then 2 else 0
theorem sizes_any (n : Int) (l : List Int) (v : Value) (w : World) (hl : Row icells 1 w v l) :
    Calls Tryz.prog 22 #[.int .i64 n, v] w fun e w' => e = .returned (.int .i64 (sizesS n l)) ∧ Ext w w' := by
  have HC := hide (contains_size sizeB sizefn_any l v w hl)
  obtain ⟨p, c, rfl, -⟩ := hl.int_all
  clear hl
  generalize hres : sizesS n l = res
  unfold sizesS at hres
  generalize l.any sizeB = b at HC hres
  by_cases h1 : n < 1
  · rw [if_pos (.inl h1)] at hres
    have HR := hide hres
    clear hres
    go_enter Tryz.func22, Tryz.ntmps22
    go_wp2_with fail
    go_ret
    exact ⟨ret_int HR.out, Ext.refl _⟩
  by_cases h2 : 5 < n
  · rw [if_pos (.inr (.inl h2))] at hres
    have HR := hide hres
    clear hres
    go_enter Tryz.func22, Tryz.ntmps22
    go_wp2_with fail
    go_ret
    exact ⟨ret_int HR.out, Ext.refl _⟩
  cases b
  · rw [if_neg (by simp [h1, h2])] at hres
    have HR := hide hres
    clear hres
    go_enter Tryz.func22, Tryz.ntmps22
    go_wp2_with fail
    refine HC.out.mono ?_
    rintro e w1 ⟨rfl, hE⟩
    go_wp2_with fail
    go_ret
    exact ⟨ret_int HR.out, hE⟩
  · rw [if_pos (by simp)] at hres
    have HR := hide hres
    clear hres
    go_enter Tryz.func22, Tryz.ntmps22
    go_wp2_with fail
    refine HC.out.mono ?_
    rintro e w1 ⟨rfl, hE⟩
    go_wp2_with fail
    go_ret
    exact ⟨ret_int HR.out, hE⟩
theorem sizesS_one (n v : Int) : sizesS n [v] = if n < 1 ∨ 5 < n ∨ v < 1 ∨ 8 < v then 2 else 0 := by
  unfold sizesS sizeB
  simp only [List.any_cons, List.any_nil, Bool.or_false, Bool.or_eq_true, decide_eq_true_eq]
/-- The error of a condition that may use what a mask says. -/
def condS (e : Ex) (uses : Nat) : Int := if exchk e 0 ≠ 0 then exchk e 0 else if kindOf e.op ≠ 1 then 9 else if usesE e &&& uses ≠ usesE e then 11 else 0
def givenS (e : Ex) (uses : Nat) : Int := if absentE e = true then 0 else condS e uses
theorem mask_table : ((List.range 8).all fun a => (List.range 8).all fun u => (bits .andNot .i64 ((a : Nat) : Int) ((u : Nat) : Int) != 0) == !(decide (a &&& u = a))) = true := by kernel_rfl
theorem mask_eq {a u : Nat} (ha : a < 8) (hu : u < 8) : (bits .andNot .i64 (a : Int) (u : Int) != 0) = !(decide (a &&& u = a)) := by
  have h := mask_table
  rw [List.all_eq_true] at h
  have h := h a (List.mem_range.2 ha)
  rw [List.all_eq_true] at h
  have h := h u (List.mem_range.2 hu)
  simpa using h
theorem exchk_kind {e : Ex} (h : exchk e 0 = 0) : kindE e.op = (kindOf e.op, 0) := by
  have h1 := (exchk_zero (n := 0) h).2
  obtain ⟨o, n, xs⟩ := e
  have h2 := nodesE_zero h1
  unfold kindE
  rw [if_neg]
  show ¬ arity o < 0
  have := h2.2.2.1
  omega
end Go.Proofs.YthkididgbaamcaaGreatDoor

namespace Go.Proofs.YthkididgbaamcaaGreatDoor
open Go.RowKit

theorem checker_any (uses : Int) (opt : Bool) (w : World) : Calls Tryz.prog 63 #[.int .i64 uses, .bool opt] w fun e w' =>
    e = .returned (.func (.func 94) #[] #[P0 (w.heap.size + 1), P0 w.heap.size]) ∧ w' = (w.alloc (.cells #[.int .i64 uses] 3)).alloc (.cells #[.bool opt] 4) := by
  go_enter Tryz.func63, Tryz.ntmps63
  go_wp2
  go_ret
  exact ⟨rfl, rfl⟩

set_option maxHeartbeats 1000000 in
theorem chk_any (e : Ex) (uses : Nat) (opt : Bool) (b1 b2 : Nat) (v : Value) (w : World) (hT : Tab w) (hv : ExAt w v e) (hn : e.nodes ≤ 100000) (hu8 : uses < 8) (h1 : w.cell? ⟨b1, 0, none⟩ = some (.bool opt)) (h2 : w.cell? ⟨b2, 0, none⟩ = some (.int .i64 uses)) (hb1 : b1 < w.heap.size) (hb2 : b2 < w.heap.size) :
    Calls Tryz.prog 94 #[v, P0 b1, P0 b2] w fun e' w' => e' = .returned (.int .i64 (if opt = true then givenS e uses else condS e uses)) ∧ Ext w w' := by
  have HA := hide (fun W (hW : Ext w W) => absent_any e v W (hv.ext hW))
  have HC := hide (fun W (hW : Ext w W) => pexcheck_any e 0 v W (hT.ext hW) (hv.ext hW) hn)
  have HK := hide (fun W (hW : Ext w W) => pkind_any e v W (hT.ext hW) (hv.ext hW))
  have HU := hide (fun W (hW : Ext w W) => puses_any e v W (hv.ext hW))
  have hul := usesE_lt e
  have hmk := mask_eq hul hu8
  have HMK := hide hmk
  clear hmk
  have HEK := hide (fun h => exchk_kind (e := e) h)
  obtain ⟨p, c, rfl, hc, hl⟩ := hv.form
  clear hv hT
  have hE0 : Ext w (w.alloc (.cells #[.int .i64 e.op, .int .i64 e.num, .slice p e.args.length c] 25)) := (Ext.refl w).alloc _
  have HB := hide (fun w1 => xbox w e.op e.num (.slice p e.args.length c) (w1 := w1))
  have HO := hide (fun W (hW : Ext w W) => And.intro ((hW.cell (p := ⟨b1, 0, none⟩) hb1).trans h1) ((hW.cell (p := ⟨b2, 0, none⟩) hb2).trans h2))
  generalize hres : (if opt = true then givenS e uses else condS e uses) = res
  unfold givenS at hres
  have rest : ∀ (op : Bool), op = opt → (opt = true → absentE e = false) → condS e uses = res → Calls Tryz.prog 94 #[.agg #[.int .i64 e.op, .int .i64 e.num, .slice p e.args.length c], P0 b1, P0 b2] w fun e' w' => e' = .returned (.int .i64 res) ∧ Ext w w' := by
    intro op hop hab hcs
    unfold condS at hcs
    by_cases hx : exchk e 0 ≠ 0
    · rw [if_pos hx] at hcs
      have HR := hide hcs
      have hd : (exchk e 0 != 0) = true := by simp [hx]
      clear hcs hx HEK HK HU HMK hres
      generalize exchk e 0 = k at HC HR hd
      cases opt with
      | false =>
        clear hab HA hop
        go_enter Tryz.func94, Tryz.ntmps94
        go_wp2_with fail
        refine (HC.out _ hE0).mono ?_
        rintro e' w1 ⟨rfl, hE1⟩
        go_wp2_with fail
        go_ret
        exact ⟨ret_int HR.out, hE0.trans hE1⟩
      | true =>
        have hab := hab rfl
        rw [hab] at HA
        clear hab hop
        go_enter Tryz.func94, Tryz.ntmps94
        go_wp2_with fail
        refine (HA.out _ hE0).mono ?_
        rintro e' w1 ⟨rfl, hE1⟩
        obtain ⟨c0, c1, c2, hz⟩ := HB.out _ hE1
        go_wp2_with fail
        refine (HC.out _ (hE0.trans hE1)).mono ?_
        rintro e' w2 ⟨rfl, hE2⟩
        go_wp2_with fail
        go_ret
        exact ⟨ret_int HR.out, (hE0.trans hE1).trans hE2⟩
    rw [if_neg hx] at hcs
    have hx0 : exchk e 0 = 0 := by simpa using hx
    have hke := HEK.out hx0
    rw [hke] at HK
    rw [hx0] at HC
    clear hx hx0 hke HEK hres
    generalize kindOf e.op = kd at HK hcs
    have fin : ∀ (w1 : World), Ext (w.alloc (.cells #[.int .i64 e.op, .int .i64 e.num, .slice p e.args.length c] 25)) w1 → True := fun _ _ => trivial
    clear fin
    by_cases hk : kd ≠ 1
    · rw [if_pos hk] at hcs
      have HR := hide hcs
      have hd : (kd != 1) = true := by simp [hk]
      clear hcs hk HU HMK
      cases opt with
      | false =>
        clear hab HA hop
        go_enter Tryz.func94, Tryz.ntmps94
        go_wp2_with fail
        refine (HC.out _ hE0).mono ?_
        rintro e' w1 ⟨rfl, hE1⟩
        obtain ⟨c0, c1, c2, hz⟩ := HB.out _ hE1
        go_wp2_with fail
        refine (HK.out _ (hE0.trans hE1)).mono ?_
        rintro e' w2 ⟨rfl, hE2⟩
        go_wp2_with fail
        go_ret
        exact ⟨ret_int HR.out, (hE0.trans hE1).trans hE2⟩
      | true =>
        have hab := hab rfl
        rw [hab] at HA
        clear hab hop
        go_enter Tryz.func94, Tryz.ntmps94
        go_wp2_with fail
        refine (HA.out _ hE0).mono ?_
        rintro e' w1 ⟨rfl, hE1⟩
        obtain ⟨c0, c1, c2, hz⟩ := HB.out _ hE1
        go_wp2_with fail
        refine (HC.out _ (hE0.trans hE1)).mono ?_
        rintro e' w2 ⟨rfl, hE2⟩
        have hE2 := hE1.trans hE2
        clear c0 c1 c2 hz
        obtain ⟨c0, c1, c2, hz⟩ := HB.out _ hE2
        go_wp2_with fail
        refine (HK.out _ (hE0.trans hE2)).mono ?_
        rintro e' w3 ⟨rfl, hE3⟩
        go_wp2_with fail
        go_ret
        exact ⟨ret_int HR.out, (hE0.trans hE2).trans hE3⟩
    rw [if_neg hk] at hcs
    obtain rfl : kd = 1 := by simpa using hk
    have hml : usesE e &&& uses ≠ usesE e ↔ ¬ (usesE e &&& uses = usesE e) := Iff.rfl
    have HR : Hid (∀ b : Bool, decide (usesE e &&& uses = usesE e) = b → (if b = true then (0 : Int) else 11) = res) := fun b hb => by
      rw [← hcs]
      by_cases h : usesE e &&& uses = usesE e
      · rw [decide_eq_true h] at hb; subst hb; rw [if_pos rfl, if_neg (fun h2 => h2 h)]
      · rw [decide_eq_false h] at hb; subst hb; rw [if_neg (by decide), if_pos h]
    clear hk hcs hml
    generalize decide (usesE e &&& uses = usesE e) = bb at HMK HR
    have HR := hide (HR.out bb rfl)
    generalize usesE e = ue at HU HMK hul
    cases opt with
    | false =>
      clear hab HA hop
      go_enter Tryz.func94, Tryz.ntmps94
      go_wp2_with fail
      refine (HC.out _ hE0).mono ?_
      rintro e' w1 ⟨rfl, hE1⟩
      obtain ⟨c0, c1, c2, hz⟩ := HB.out _ hE1
      go_wp2_with fail
      refine (HK.out _ (hE0.trans hE1)).mono ?_
      rintro e' w2 ⟨rfl, hE2⟩
      have hE2 := hE1.trans hE2
      clear c0 c1 c2 hz
      obtain ⟨c0, c1, c2, hz⟩ := HB.out _ hE2
      obtain ⟨-, o2⟩ := HO.out _ (hE0.trans hE2)
      have hb2' : b2 < w2.heap.size := Nat.lt_of_lt_of_le hb2 (hE0.trans hE2).size
      have hmk := HMK.out
      go_wp2_with fail
      refine wp_region_ext (by kernel_rfl) (by kernel_rfl) ?_
      repeat (go_big_quiet_step ((go_at_call 97; exact Calls.ext_of (HU.out _ (by simp [go_sem, hE0.trans hE2])))))
      refine wpQuiet_nil ?_
      rintro w9 ⟨⟨_, hE9⟩, rfl⟩
      clear hmk
      cases bb
      · go_wp2_with fail
        go_ret
        exact ⟨ret_int HR.out, (hE0.trans hE2).trans hE9⟩
      · go_wp2_with fail
        go_ret
        exact ⟨ret_int HR.out, (hE0.trans hE2).trans hE9⟩
    | true =>
      have hab := hab rfl
      rw [hab] at HA
      clear hab hop
      go_enter Tryz.func94, Tryz.ntmps94
      go_wp2_with fail
      refine (HA.out _ hE0).mono ?_
      rintro e' w1 ⟨rfl, hE1⟩
      obtain ⟨c0, c1, c2, hz⟩ := HB.out _ hE1
      go_wp2_with fail
      refine (HC.out _ (hE0.trans hE1)).mono ?_
      rintro e' w2 ⟨rfl, hE2⟩
      have hE1 := hE1.trans hE2
      clear c0 c1 c2 hz hE2
      obtain ⟨c0, c1, c2, hz⟩ := HB.out _ hE1
      go_wp2_with fail
      refine (HK.out _ (hE0.trans hE1)).mono ?_
      rintro e' w2 ⟨rfl, hE2⟩
      have hE2 := hE1.trans hE2
      clear c0 c1 c2 hz
      obtain ⟨c0, c1, c2, hz⟩ := HB.out _ hE2
      obtain ⟨-, o2⟩ := HO.out _ (hE0.trans hE2)
      have hb2' : b2 < w2.heap.size := Nat.lt_of_lt_of_le hb2 (hE0.trans hE2).size
      have hmk := HMK.out
      go_wp2_with fail
      refine wp_region_ext (by kernel_rfl) (by kernel_rfl) ?_
      repeat (go_big_quiet_step ((go_at_call 97; exact Calls.ext_of (HU.out _ (by simp [go_sem, hE0.trans hE2])))))
      refine wpQuiet_nil ?_
      rintro w9 ⟨⟨_, hE9⟩, rfl⟩
      clear hmk
      cases bb
      · go_wp2_with fail
        go_ret
        exact ⟨ret_int HR.out, (hE0.trans hE2).trans hE9⟩
      · go_wp2_with fail
        go_ret
        exact ⟨ret_int HR.out, (hE0.trans hE2).trans hE9⟩
  cases opt with
  | false =>
    rw [if_neg (by decide)] at hres
    exact rest false rfl (fun h => by cases h) hres
  | true =>
    rw [if_pos rfl] at hres
    cases hab : absentE e with
    | false =>
      rw [hab, if_neg (by decide)] at hres
      exact rest true rfl (fun _ => hab) hres
    | true =>
      rw [hab, if_pos rfl] at hres
      have HR := hide hres
      rw [hab] at HA
      clear hres hab rest HC HK HU HMK HEK
      go_enter Tryz.func94, Tryz.ntmps94
      go_wp2_with fail
      refine (HA.out _ hE0).mono ?_
      rintro e' w1 ⟨rfl, hE1⟩
      go_wp2_with fail
      go_ret
      exact ⟨ret_int HR.out, hE0.trans hE1⟩


set_option maxRecDepth 8000 in
theorem cinputs_any (e : Ex) (v : Value) (w : World) (hT : Tab w) (hv : ExAt w v e) (hn : e.nodes ≤ 100000) :
    Calls Tryz.prog 24 #[v] w fun e' w' => e' = .returned (.int .i64 (givenS e 1)) ∧ Ext w w' := by
  have HC := hide (fun W b1 b2 (hW : Ext w W) h1 h2 h3 h4 => chk_any e 1 true b1 b2 v W (hT.ext hW) (hv.ext hW) hn (by decide) h1 h2 h3 h4)
  obtain ⟨p, c, rfl, hc, hl⟩ := hv.form
  clear hv hT
  have hE0 : Ext w (w.alloc (.cells #[.int .i64 e.op, .int .i64 e.num, .slice p e.args.length c] 25)) := (Ext.refl w).alloc _
  have HB := hide (fun w1 => xbox w e.op e.num (.slice p e.args.length c) (w1 := w1))
  go_enter Tryz.func24, Tryz.ntmps24
  go_wp2_with fail
  obtain ⟨w2, hw2⟩ : ∃ w2, w.alloc (.cells #[.int .i64 e.op, .int .i64 e.num, .slice p e.args.length c] 25) = w2 := ⟨_, rfl⟩
  rw [hw2] at hE0 HB ⊢
  clear hw2
  refine wp_region_heldAll (fun V => Ext w2 V) (by kernel_rfl) ?_
  intro W2 hW2
  have hR2 : Ext w2 W2 := by rw [hW2]; exact (Ext.refl w2).drew
  clear hW2
  refine wpAnyT_take (i := 1) (.agg #[.int .i64 e.op, .int .i64 e.num, .slice p e.args.length c]) rfl (by kernel_rfl) (by kernel_rfl) (by kernel_rfl) (by simp [Region.wanted]) (fun V hV => by
    obtain ⟨c0, c1, c2, -⟩ := HB.out V hV
    go_simp) hR2 ?_
  try simp only [Act.put, List.getElem_toArray, List.getElem_cons_zero, List.getElem_cons_succ, List.setIfInBounds_toArray, List.set_cons_zero, List.set_cons_succ]
  refine wpAnyT_one (i := 0) rfl (by kernel_rfl) (fun K hK => ?_)
  go_wp2_with fail
  refine (checker_any _ _ W2).mono ?_
  rintro e' w3 ⟨rfl, hw3⟩
  have hR3 : Ext W2 w3 := by rw [hw3]; exact ((Ext.refl W2).alloc _).alloc _
  have ha := (cell_new1 (W2.alloc (.cells #[.int .i64 1] 3)) (.bool true) 4 0 _ rfl)
  rw [World.size_alloc] at ha
  have hb : w3.cell? ⟨W2.heap.size + 1, 0, none⟩ = some (.bool true) := by rw [hw3]; exact ha
  have hc3 : w3.cell? ⟨W2.heap.size, 0, none⟩ = some (.int .i64 1) := by rw [hw3]; simp [go_sem]
  have hz3 : W2.heap.size + 1 < w3.heap.size := by rw [hw3]; simp
  clear hw3 ha
  have hR := hR2.trans hR3
  generalize W2.heap.size = g at hb hc3 hz3 ⊢
  have HC3 := hide (HC.out w3 (g + 1) g (hE0.trans hR) hb hc3 hz3 (by omega))
  clear hb hc3
  go_wp2_with fail
  refine ⟨rfl, hK _ _ hR ?_⟩
  clear hK K
  try simp only [Act.put, List.getElem_toArray, List.getElem_cons_zero, List.getElem_cons_succ, List.setIfInBounds_toArray, List.set_cons_zero, List.set_cons_succ]
  refine wpAnyT_one (i := 2) rfl (by kernel_rfl) (fun K hK => ?_)
  go_wp2_with fail
  refine HC3.out.mono ?_
  rintro e' w4 ⟨rfl, hE4⟩
  have hR4 := hR.trans hE4
  go_wp2_with fail
  refine ⟨rfl, hK _ _ hR4 ?_⟩
  clear hK K
  refine wpAnyT_take (i := 3) (.int .i64 (givenS e 1)) rfl (by kernel_rfl) (by kernel_rfl) (by kernel_rfl) (by simp [Region.wanted]) (fun V hV => by go_simp) hR4 ?_
  try simp only [Act.put, List.getElem_toArray, List.getElem_cons_zero, List.getElem_cons_succ, List.setIfInBounds_toArray, List.set_cons_zero, List.set_cons_succ]
  refine wpAnyT_done (by kernel_rfl) ?_ _
  go_wp2_with fail
  go_ret
  exact ⟨rfl, hE0.trans hR4⟩

set_option maxRecDepth 8000 in
theorem callow_any (e : Ex) (v : Value) (w : World) (hT : Tab w) (hv : ExAt w v e) (hn : e.nodes ≤ 100000) :
    Calls Tryz.prog 26 #[v] w fun e' w' => e' = .returned (.int .i64 (condS e 3)) ∧ Ext w w' := by
  have HC := hide (fun W b1 b2 (hW : Ext w W) h1 h2 h3 h4 => chk_any e 3 false b1 b2 v W (hT.ext hW) (hv.ext hW) hn (by decide) h1 h2 h3 h4)
  obtain ⟨p, c, rfl, hc, hl⟩ := hv.form
  clear hv hT
  have hE0 : Ext w (w.alloc (.cells #[.int .i64 e.op, .int .i64 e.num, .slice p e.args.length c] 25)) := (Ext.refl w).alloc _
  have HB := hide (fun w1 => xbox w e.op e.num (.slice p e.args.length c) (w1 := w1))
  go_enter Tryz.func26, Tryz.ntmps26
  go_wp2_with fail
  obtain ⟨w2, hw2⟩ : ∃ w2, w.alloc (.cells #[.int .i64 e.op, .int .i64 e.num, .slice p e.args.length c] 25) = w2 := ⟨_, rfl⟩
  rw [hw2] at hE0 HB ⊢
  clear hw2
  refine wp_region_heldAll (fun V => Ext w2 V) (by kernel_rfl) ?_
  intro W2 hW2
  have hR2 : Ext w2 W2 := by rw [hW2]; exact (Ext.refl w2).drew
  clear hW2
  refine wpAnyT_take (i := 1) (.agg #[.int .i64 e.op, .int .i64 e.num, .slice p e.args.length c]) rfl (by kernel_rfl) (by kernel_rfl) (by kernel_rfl) (by simp [Region.wanted]) (fun V hV => by
    obtain ⟨c0, c1, c2, -⟩ := HB.out V hV
    go_simp) hR2 ?_
  try simp only [Act.put, List.getElem_toArray, List.getElem_cons_zero, List.getElem_cons_succ, List.setIfInBounds_toArray, List.set_cons_zero, List.set_cons_succ]
  refine wpAnyT_one (i := 0) rfl (by kernel_rfl) (fun K hK => ?_)
  go_wp2_with fail
  refine (checker_any _ _ W2).mono ?_
  rintro e' w3 ⟨rfl, hw3⟩
  have hR3 : Ext W2 w3 := by rw [hw3]; exact ((Ext.refl W2).alloc _).alloc _
  have ha := (cell_new1 (W2.alloc (.cells #[.int .i64 3] 3)) (.bool false) 4 0 _ rfl)
  rw [World.size_alloc] at ha
  have hb : w3.cell? ⟨W2.heap.size + 1, 0, none⟩ = some (.bool false) := by rw [hw3]; exact ha
  have hc3 : w3.cell? ⟨W2.heap.size, 0, none⟩ = some (.int .i64 3) := by rw [hw3]; simp [go_sem]
  have hz3 : W2.heap.size + 1 < w3.heap.size := by rw [hw3]; simp
  clear hw3 ha
  have hR := hR2.trans hR3
  generalize W2.heap.size = g at hb hc3 hz3 ⊢
  have HC3 := hide (HC.out w3 (g + 1) g (hE0.trans hR) hb hc3 hz3 (by omega))
  clear hb hc3
  go_wp2_with fail
  refine ⟨rfl, hK _ _ hR ?_⟩
  clear hK K
  try simp only [Act.put, List.getElem_toArray, List.getElem_cons_zero, List.getElem_cons_succ, List.setIfInBounds_toArray, List.set_cons_zero, List.set_cons_succ]
  refine wpAnyT_one (i := 2) rfl (by kernel_rfl) (fun K hK => ?_)
  go_wp2_with fail
  refine HC3.out.mono ?_
  rintro e' w4 ⟨rfl, hE4⟩
  have hR4 := hR.trans hE4
  go_wp2_with fail
  refine ⟨rfl, hK _ _ hR4 ?_⟩
  clear hK K
  refine wpAnyT_take (i := 3) (.int .i64 (condS e 3)) rfl (by kernel_rfl) (by kernel_rfl) (by kernel_rfl) (by simp [Region.wanted]) (fun V hV => by go_simp) hR4 ?_
  try simp only [Act.put, List.getElem_toArray, List.getElem_cons_zero, List.getElem_cons_succ, List.setIfInBounds_toArray, List.set_cons_zero, List.set_cons_succ]
  refine wpAnyT_done (by kernel_rfl) ?_ _
  go_wp2_with fail
  go_ret
  exact ⟨rfl, hE0.trans hR4⟩

set_option maxRecDepth 8000 in
theorem coutputs_any (e : Ex) (v : Value) (w : World) (hT : Tab w) (hv : ExAt w v e) (hn : e.nodes ≤ 100000) :
    Calls Tryz.prog 28 #[v] w fun e' w' => e' = .returned (.int .i64 (givenS e 3)) ∧ Ext w w' := by
  have HC := hide (fun W b1 b2 (hW : Ext w W) h1 h2 h3 h4 => chk_any e 3 true b1 b2 v W (hT.ext hW) (hv.ext hW) hn (by decide) h1 h2 h3 h4)
  obtain ⟨p, c, rfl, hc, hl⟩ := hv.form
  clear hv hT
  have hE0 : Ext w (w.alloc (.cells #[.int .i64 e.op, .int .i64 e.num, .slice p e.args.length c] 25)) := (Ext.refl w).alloc _
  have HB := hide (fun w1 => xbox w e.op e.num (.slice p e.args.length c) (w1 := w1))
  go_enter Tryz.func28, Tryz.ntmps28
  go_wp2_with fail
  obtain ⟨w2, hw2⟩ : ∃ w2, w.alloc (.cells #[.int .i64 e.op, .int .i64 e.num, .slice p e.args.length c] 25) = w2 := ⟨_, rfl⟩
  rw [hw2] at hE0 HB ⊢
  clear hw2
  refine wp_region_heldAll (fun V => Ext w2 V) (by kernel_rfl) ?_
  intro W2 hW2
  have hR2 : Ext w2 W2 := by rw [hW2]; exact (Ext.refl w2).drew
  clear hW2
  refine wpAnyT_take (i := 1) (.agg #[.int .i64 e.op, .int .i64 e.num, .slice p e.args.length c]) rfl (by kernel_rfl) (by kernel_rfl) (by kernel_rfl) (by simp [Region.wanted]) (fun V hV => by
    obtain ⟨c0, c1, c2, -⟩ := HB.out V hV
    go_simp) hR2 ?_
  try simp only [Act.put, List.getElem_toArray, List.getElem_cons_zero, List.getElem_cons_succ, List.setIfInBounds_toArray, List.set_cons_zero, List.set_cons_succ]
  refine wpAnyT_one (i := 0) rfl (by kernel_rfl) (fun K hK => ?_)
  go_wp2_with fail
  refine (checker_any _ _ W2).mono ?_
  rintro e' w3 ⟨rfl, hw3⟩
  have hR3 : Ext W2 w3 := by rw [hw3]; exact ((Ext.refl W2).alloc _).alloc _
  have ha := (cell_new1 (W2.alloc (.cells #[.int .i64 3] 3)) (.bool true) 4 0 _ rfl)
  rw [World.size_alloc] at ha
  have hb : w3.cell? ⟨W2.heap.size + 1, 0, none⟩ = some (.bool true) := by rw [hw3]; exact ha
  have hc3 : w3.cell? ⟨W2.heap.size, 0, none⟩ = some (.int .i64 3) := by rw [hw3]; simp [go_sem]
  have hz3 : W2.heap.size + 1 < w3.heap.size := by rw [hw3]; simp
  clear hw3 ha
  have hR := hR2.trans hR3
  generalize W2.heap.size = g at hb hc3 hz3 ⊢
  have HC3 := hide (HC.out w3 (g + 1) g (hE0.trans hR) hb hc3 hz3 (by omega))
  clear hb hc3
  go_wp2_with fail
  refine ⟨rfl, hK _ _ hR ?_⟩
  clear hK K
  try simp only [Act.put, List.getElem_toArray, List.getElem_cons_zero, List.getElem_cons_succ, List.setIfInBounds_toArray, List.set_cons_zero, List.set_cons_succ]
  refine wpAnyT_one (i := 2) rfl (by kernel_rfl) (fun K hK => ?_)
  go_wp2_with fail
  refine HC3.out.mono ?_
  rintro e' w4 ⟨rfl, hE4⟩
  have hR4 := hR.trans hE4
  go_wp2_with fail
  refine ⟨rfl, hK _ _ hR4 ?_⟩
  clear hK K
  refine wpAnyT_take (i := 3) (.int .i64 (givenS e 3)) rfl (by kernel_rfl) (by kernel_rfl) (by kernel_rfl) (by simp [Region.wanted]) (fun V hV => by go_simp) hR4 ?_
  try simp only [Act.put, List.getElem_toArray, List.getElem_cons_zero, List.getElem_cons_succ, List.setIfInBounds_toArray, List.set_cons_zero, List.set_cons_succ]
  refine wpAnyT_done (by kernel_rfl) ?_ _
  go_wp2_with fail
  go_ret
  exact ⟨rfl, hE0.trans hR4⟩

end Go.Proofs.YthkididgbaamcaaGreatDoor

namespace Go.Proofs.YthkididgbaamcaaGreatDoor
open Go.RowKit

theorem and_int {a u : Nat} (ha : a < 8) (hu : u < 8) : bits .and .i64 (a : Int) (u : Int) = ((a &&& u : Nat) : Int) := i64_and_nat a u (by omega) (by omega)
theorem rkind_err {e : Ex} : (kindE e.op).1 ≠ 1 ↔ (arity e.op < 0 ∨ kindOf e.op ≠ 1) := by
  unfold kindE
  by_cases h : arity e.op < 0
  · rw [if_pos h]; simp [h]
  · rw [if_neg h]; simp [h]
set_option maxHeartbeats 1000000 in
theorem rcond_any (e : Ex) (uses : Nat) (v : Value) (w : World) (hv : ExAt w v e) (hn : e.nodes ≤ 100000) (hu8 : uses < 8) :
    Calls Tryz.prog 6 #[v, .int .i64 uses] w fun e' w' => e' = .returned (.int .i64 (condS e uses)) ∧ Ext w w' := by
  have HC := hide (fun W (hW : Ext w W) => rexcheck_any e 0 v W (hv.ext hW) hn)
  have HK := hide (fun W (hW : Ext w W) => rkind_any e v W (hv.ext hW))
  have HU := hide (fun W (hW : Ext w W) => ruses_any e v W (hv.ext hW))
  have hul := usesE_lt e
  have hand := and_int hul hu8
  have HAN := hide hand
  clear hand
  have HEK := hide (fun h => exchk_kind (e := e) h)
  obtain ⟨p, c, rfl, hc, hl⟩ := hv.form
  clear hv
  have hE0 : Ext w (w.alloc (.cells #[.int .i64 e.op, .int .i64 e.num, .slice p e.args.length c] 25)) := (Ext.refl w).alloc _
  have HB := hide (fun w1 => xbox w e.op e.num (.slice p e.args.length c) (w1 := w1))
  generalize hres : condS e uses = res
  unfold condS at hres
  by_cases hx : exchk e 0 ≠ 0
  · rw [if_pos hx] at hres
    have HR := hide hres
    have hd : (exchk e 0 != 0) = true := by simp [hx]
    clear hres hx HEK HK HU HAN
    generalize exchk e 0 = k at HC HR hd
    go_enter Tryz.func6, Tryz.ntmps6
    go_wp2_with fail
    refine (HC.out _ hE0).mono ?_
    rintro e' w1 ⟨rfl, hE1⟩
    go_wp2_with fail
    go_ret
    exact ⟨ret_int HR.out, hE0.trans hE1⟩
  rw [if_neg hx] at hres
  have hx0 : exchk e 0 = 0 := by simpa using hx
  have hke := HEK.out hx0
  rw [hke] at HK
  rw [hx0] at HC
  clear hx hx0 hke HEK
  generalize kindOf e.op = kd at HK hres
  by_cases hk : kd ≠ 1
  · rw [if_pos hk] at hres
    have HR := hide hres
    have hd : (kd != 1) = true := by simp [hk]
    clear hres hk HU HAN
    go_enter Tryz.func6, Tryz.ntmps6
    go_wp2_with fail
    refine (HC.out _ hE0).mono ?_
    rintro e' w1 ⟨rfl, hE1⟩
    obtain ⟨c0, c1, c2, hz⟩ := HB.out _ hE1
    go_wp2_with fail
    refine (HK.out _ (hE0.trans hE1)).mono ?_
    rintro e' w2 ⟨rfl, hE2⟩
    go_wp2_with fail
    go_ret
    exact ⟨ret_int HR.out, (hE0.trans hE1).trans hE2⟩
  rw [if_neg hk] at hres
  obtain rfl : kd = 1 := by simpa using hk
  clear hk
  have HR1 := hide (fun h : usesE e &&& uses ≠ usesE e => (if_pos h).symm.trans hres)
  have HR2 := hide (fun h : usesE e &&& uses = usesE e => (if_neg (fun h2 => h2 h)).symm.trans hres)
  clear hres
  generalize usesE e &&& uses = au at HAN HR1 HR2
  generalize usesE e = ue at HU HAN hul HR1 HR2
  have HPRE : True := trivial
  go_enter Tryz.func6, Tryz.ntmps6
  go_wp2_with fail
  refine (HC.out _ hE0).mono ?_
  rintro e' w1 ⟨rfl, hE1⟩
  obtain ⟨c0, c1, c2, hz⟩ := HB.out _ hE1
  go_wp2_with fail
  refine (HK.out _ (hE0.trans hE1)).mono ?_
  rintro e' w2 ⟨rfl, hE2⟩
  have hE2 := hE1.trans hE2
  clear c0 c1 c2 hz
  obtain ⟨c0, c1, c2, hz⟩ := HB.out _ hE2
  go_wp2_with fail
  have han := HAN.out
  by_cases hau : au = ue
  · have hd : ((au : Int) != (ue : Int)) = false := by simp [hau]
    have HR := hide (HR2.out hau)
    clear hau
    refine wp_region_ext (by kernel_rfl) (by kernel_rfl) ?_
    repeat (go_big_quiet_step ((go_at_call 21; exact Calls.ext_of (HU.out _ (by simp [go_sem, hE0.trans hE2])))))
    refine wpQuiet_nil ?_
    rintro w9 ⟨⟨_, hE9⟩, rfl⟩
    clear han
    go_wp2_with fail
    go_ret
    exact ⟨ret_int HR.out, (hE0.trans hE2).trans hE9⟩
  · have hd : ((au : Int) != (ue : Int)) = true := by rw [bne_iff_ne]; omega
    have HR := hide (HR1.out hau)
    clear hau
    refine wp_region_ext (by kernel_rfl) (by kernel_rfl) ?_
    repeat (go_big_quiet_step ((go_at_call 21; exact Calls.ext_of (HU.out _ (by simp [go_sem, hE0.trans hE2])))))
    refine wpQuiet_nil ?_
    rintro w9 ⟨⟨_, hE9⟩, rfl⟩
    clear han
    go_wp2_with fail
    go_ret
    exact ⟨ret_int HR.out, (hE0.trans hE2).trans hE9⟩
end Go.Proofs.YthkididgbaamcaaGreatDoor

namespace Go.Proofs.YthkididgbaamcaaGreatDoor
open Go.RowKit

def holdsB (s : Sc) (e : Ex) : Bool := absentE e || truthB s e
set_option maxHeartbeats 1000000 in
theorem holds_any (s : Sc) (hs : s.ok) (e : Ex) (v u : Value) (w : World) (hT : Tab w) (hv : ExAt w v e) (hn : e.nodes ≤ 100000) (hu : ScAt w u s []) :
    Calls Tryz.prog 66 #[v, u] w fun e' w' => e' = .returned (.bool (holdsB s e)) ∧ Ext w w' := by
  have HA := hide (fun W (hW : Ext w W) => absent_any e v W (hv.ext hW))
  have HE := hide (fun W (hW : Ext w W) => ptruth_ex s hs e v u W (hT.ext hW) (hv.ext hW) hn (hu.ext hW))
  obtain ⟨p, c, rfl, hc, hl⟩ := hv.form
  obtain ⟨si, so, sv, rfl, hi, ho, hvv⟩ := hu
  obtain ⟨qi, ci, rfl, -⟩ := hi.int_all
  obtain ⟨qo, co, rfl, -⟩ := ho.int_all
  obtain ⟨qv, cv, rfl, -⟩ := hvv.int_all
  clear hv hi ho hvv hs hn hT
  obtain ⟨w2, hw2⟩ : ∃ w2, (w.alloc (.cells #[.int .i64 e.op, .int .i64 e.num, .slice p e.args.length c] 25)).alloc (.cells #[.int .i64 s.n, .slice qi s.inp.length ci, .slice qo s.out.length co, .int .i64 s.h.h0, .int .i64 s.h.h1, .int .i64 s.h.h2, .int .i64 s.h.h3, .int .i64 s.h.h4, .slice qv 0 cv] 65) = w2 := ⟨_, rfl⟩
  have hE0 : Ext w w2 := by rw [← hw2]; exact ((Ext.refl w).alloc _).alloc _
  have HBX := hide (fun V (hE : Ext w2 V) => xbox3 (g := w.heap.size) (V := V) (by rw [← hw2]; exact (Below.heap_alloc _ _ _ (by simp)).trans (heap_alloc_new w _)) hE)
  have HBS := hide (fun V (hE : Ext w2 V) => sbox9 (g := w.heap.size + 1) (V := V) (by rw [← hw2]; have := heap_alloc_new (w.alloc (.cells #[.int .i64 e.op, .int .i64 e.num, .slice p e.args.length c] 25)) (.cells #[.int .i64 s.n, .slice qi s.inp.length ci, .slice qo s.out.length co, .int .i64 s.h.h0, .int .i64 s.h.h1, .int .i64 s.h.h2, .int .i64 s.h.h3, .int .i64 s.h.h4, .slice qv 0 cv] 65); rwa [World.size_alloc] at this) hE)
  have HW2 := hide hw2
  clear hw2
  unfold holdsB
  generalize truthB s e = tb at HE ⊢
  cases ha : absentE e with
  | true =>
    rw [ha] at HA
    clear ha HE
    go_enter Tryz.func66, Tryz.ntmps66
    go_wp2_with fail
    rw [HW2.out]
    refine (HA.out _ hE0).mono ?_
    rintro e' w3 ⟨rfl, hE3⟩
    go_wp2_with fail
    go_ret
    exact ⟨rfl, hE0.trans hE3⟩
  | false =>
    rw [ha] at HA
    rw [Bool.false_or]
    clear ha
    go_enter Tryz.func66, Tryz.ntmps66
    go_wp2_with fail
    rw [HW2.out]
    refine (HA.out _ hE0).mono ?_
    rintro e' w3 ⟨rfl, hE3⟩
    obtain ⟨c0, c1, c2, hz⟩ := HBX.out _ hE3
    obtain ⟨d0, d1, d2, d3, d4, d5, d6, d7, d8, hzs⟩ := HBS.out _ hE3
    go_wp2_with fail
    refine (HE.out _ (hE0.trans hE3)).mono ?_
    rintro e' w4 ⟨rfl, hE4⟩
    go_wp2_with fail
    go_ret
    exact ⟨rfl, (hE0.trans hE3).trans hE4⟩
end Go.Proofs.YthkididgbaamcaaGreatDoor

namespace Go.Proofs.YthkididgbaamcaaGreatDoor
open Go.RowKit

abbrev gz : Gr := ⟨0, 0, 0, 0, 0, 0⟩
/-- The block of an expression's three cells. -/
def ExBox (w : World) (b : Nat) (e : Ex) : Prop := ∃ p c, w.heap[b]? = some (.cells #[.int .i64 e.op, .int .i64 e.num, .slice p e.args.length c] 25 (0, 0)) ∧ ExAt w (.agg #[.int .i64 e.op, .int .i64 e.num, .slice p e.args.length c]) e
theorem ExBox.ext {w W : World} {b : Nat} {e : Ex} (h : ExBox w b e) (hE : Ext w W) : ExBox W b e := by
  obtain ⟨p, c, h1, h2⟩ := h
  exact ⟨p, c, (hE.b.block _ (lt_of_heap h1)).trans h1, h2.ext hE⟩
theorem IBox.at_ {w : World} {b : Nat} {t : TypeId} {v : Value} (h : w.heap[b]? = some (.cells #[v] t (0, 0))) : w.cell? ⟨b, 0, none⟩ = some v ∧ b < w.heap.size := ⟨by rw [cell_of_row _ _ _ _ _ _ h]; rfl, lt_of_heap h⟩
set_option maxHeartbeats 1000000 in
theorem inok_any (n : Nat) (e : Ex) (l : List Int) (bc bn : Nat) (u : Value) (w : World) (hT : Tab w) (hb : ExBox w bc e) (hn : w.heap[bn]? = some (.cells #[.int .i64 n] 3 (0, 0))) (hl : Row icells 1 w u l) (hs : Sc.ok ⟨n, l, [], gz⟩) (hno : e.nodes ≤ 100000) :
    Calls Tryz.prog 65 #[u, P0 bc, P0 bn] w fun e' w' => e' = .returned (.bool (holdsB ⟨n, l, [], gz⟩ e)) ∧ Ext w w' := by
  obtain ⟨p, c, hbl, hv⟩ := hb
  have HH := hide (holds_any ⟨n, l, [], gz⟩ hs e _ (.agg #[.int .i64 n, u, .slice none 0 0, .int .i64 0, .int .i64 0, .int .i64 0, .int .i64 0, .int .i64 0, .slice none 0 0]) w hT hv hno ⟨_, _, _, rfl, hl, Row.nil _ _ _, Row.nil _ _ _⟩)
  obtain ⟨c0, c1, c2, hz⟩ := xbox3 hbl (Ext.refl w)
  obtain ⟨d0, hz2⟩ := IBox.at_ hn
  obtain ⟨q, k, rfl, -⟩ := hl.int_all
  clear hbl hv hn hl hs hT
  generalize holdsB ⟨n, l, [], gz⟩ e = res at HH ⊢
  go_enter Tryz.func65, Tryz.ntmps65
  go_wp2_with fail
  refine HH.out.mono ?_
  rintro e' w1 ⟨rfl, hE1⟩
  go_wp2_with fail
  go_ret
  exact ⟨rfl, hE1⟩
set_option maxHeartbeats 1000000 in
theorem outok_any (n : Nat) (e : Ex) (li l : List Int) (bc bn bi : Nat) (u ui : Value) (w : World) (hT : Tab w) (hb : ExBox w bc e) (hn : w.heap[bn]? = some (.cells #[.int .i64 n] 3 (0, 0))) (hi : w.heap[bi]? = some (.cells #[ui] 45 (0, 0)))
    (hli : Row icells 1 w ui li) (hl : Row icells 1 w u l) (hs : Sc.ok ⟨n, li, l, gz⟩) (hno : e.nodes ≤ 100000) :
    Calls Tryz.prog 68 #[u, P0 bc, P0 bn, P0 bi] w fun e' w' => e' = .returned (.bool (holdsB ⟨n, li, l, gz⟩ e)) ∧ Ext w w' := by
  obtain ⟨p, c, hbl, hv⟩ := hb
  have HH := hide (holds_any ⟨n, li, l, gz⟩ hs e _ (.agg #[.int .i64 n, ui, u, .int .i64 0, .int .i64 0, .int .i64 0, .int .i64 0, .int .i64 0, .slice none 0 0]) w hT hv hno ⟨_, _, _, rfl, hli, hl, Row.nil _ _ _⟩)
  obtain ⟨c0, c1, c2, hz⟩ := xbox3 hbl (Ext.refl w)
  obtain ⟨d0, hz2⟩ := IBox.at_ hn
  obtain ⟨d1, hz3⟩ := IBox.at_ hi
  obtain ⟨q, k, rfl, -⟩ := hl.int_all
  obtain ⟨qi, ki, rfl, -⟩ := hli.int_all
  clear hbl hv hn hl hs hT hi hli
  generalize holdsB ⟨n, li, l, gz⟩ e = res at HH ⊢
  go_enter Tryz.func68, Tryz.ntmps68
  go_wp2_with fail
  refine HH.out.mono ?_
  rintro e' w1 ⟨rfl, hE1⟩
  go_wp2_with fail
  go_ret
  exact ⟨rfl, hE1⟩
end Go.Proofs.YthkididgbaamcaaGreatDoor
