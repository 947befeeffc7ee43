/-
  The error of a node, of the reference and of the program.
  Conditions: as each theorem states.
-/
import Derived.Test.YthpccmmdkbjjhaaDoorExOps
namespace Go.Proofs.YthpccmmdkbjjhaaDoor
open Go.RowKit

theorem any_false {α : Type} [Inhabited α] {xs : List α} {f : α → Bool} (h : ∀ j, j < xs.length → f (xs.getD j default) = false) : xs.any f = false := by
  rw [List.any_eq_false]
  intro x hx
  obtain ⟨j, hj, rfl⟩ := List.getElem_of_mem hx
  have := h j hj
  rw [List.getD_eq_getElem?_getD, List.getElem?_eq_getElem hj] at this
  simpa using this
theorem any_true {α : Type} [Inhabited α] {xs : List α} {f : α → Bool} {j : Nat} (hj : j < xs.length) (h : f (xs.getD j default) = true) : xs.any f = true :=
  List.any_eq_true.2 ⟨_, mem_getD hj, h⟩

theorem nodeErr_mk (op num : Int) (xs : List Ex) (vars : Int) : nodeErr (.mk op num xs) vars = if arity op < 0 then 1 else if (xs.length : Int) ≠ arity op then 15
    else if op = 1 ∧ (num < 0 ∨ vars ≤ num) then 10 else if op = 0 ∧ (num < -1048576 ∨ 1048576 < num) then 2
    else if 1 < op ∧ num ≠ 0 then 3 else if xs.any (badArg op) then 9 else 0 := rfl

set_option maxHeartbeats 1000000 in
theorem rnode_any (e : Ex) (vars : Int) (v : Value) (w : World) (hv : ExAt w v e) :
    Calls Tryd.prog 133 #[v, .int .i64 vars] w fun e' w' => e' = .returned (.int .i64 (nodeErr e vars)) ∧ Ext w w' := by
  obtain ⟨op, num, xs⟩ := e
  obtain ⟨p, c, rfl, hc, hl, hat⟩ := hv.all_
  simp only [Ex.op, Ex.num, Ex.args] at hc hl hat ⊢
  have HAT := hide hat
  clear hv hat
  generalize hres : nodeErr (.mk op num xs) vars = res
  rw [nodeErr_mk] at hres
  have HA := hide (rarity_any op)
  have hE0 : Ext w (w.alloc (.cells #[.int .i64 op, .int .i64 num, .slice p xs.length c] 26)) := (Ext.refl w).alloc _
  have HB := hide (fun w1 => xbox w op num (.slice p xs.length c) (w1 := w1))
  have hop : 0 ≤ arity op → 0 ≤ op ∧ op ≤ 15 := fun h => by
    have h1 := knownB_arity op
    rw [decide_eq_true h] at h1
    simp only [knownB, Bool.and_eq_true, decide_eq_true_eq] at h1
    omega
  have HOP := hide hop
  clear hop
  obtain ⟨a, ha⟩ : ∃ a, arity op = a := ⟨_, rfl⟩
  rw [ha] at HA HOP hres
  clear ha
  by_cases h1 : a < 0
  · rw [if_pos h1] at hres
    have HR := hide hres
    clear hres
    go_enter Tryd.func133, Tryd.ntmps133
    go_wp2_with fail
    refine (HA.out _).mono ?_
    rintro e' w1 ⟨rfl, rfl⟩
    go_wp2_with fail
    go_ret
    exact ⟨ret_int HR.out, hE0⟩
  rw [if_neg h1] at hres
  by_cases h2 : (xs.length : Int) ≠ a
  · rw [if_pos h2] at hres
    have HR := hide hres
    clear hres
    have d2 : ((xs.length : Int) != a) = true := by simp [h2]
    clear h2
    go_enter Tryd.func133, Tryd.ntmps133
    go_wp2_with fail
    refine (HA.out _).mono ?_
    rintro e' w1 ⟨rfl, rfl⟩
    go_wp2_with fail
    go_ret
    exact ⟨ret_int HR.out, hE0⟩
  rw [if_neg h2] at hres
  have h2' : (xs.length : Int) = a := by omega
  subst h2'
  have hop := HOP.out (by omega)
  clear h2 h1 HOP
  by_cases h3 : op = 1 ∧ (num < 0 ∨ vars ≤ num)
  · rw [if_pos h3] at hres
    have HR := hide hres
    clear hres
    obtain ⟨rfl, h3⟩ := h3
    by_cases h4 : num < 0
    · go_enter Tryd.func133, Tryd.ntmps133
      go_wp2_with fail
      refine (HA.out _).mono ?_
      rintro e' w1 ⟨rfl, rfl⟩
      go_wp2_with fail
      go_ret
      exact ⟨ret_int HR.out, hE0⟩
    · have h5 : vars ≤ num := by omega
      go_enter Tryd.func133, Tryd.ntmps133
      go_wp2_with fail
      refine (HA.out _).mono ?_
      rintro e' w1 ⟨rfl, rfl⟩
      go_wp2_with fail
      go_ret
      exact ⟨ret_int HR.out, hE0⟩
  rw [if_neg h3] at hres
  by_cases h4 : op = 0 ∧ (num < -1048576 ∨ 1048576 < num)
  · rw [if_pos h4] at hres
    have HR := hide hres
    clear hres h3
    obtain ⟨rfl, h4⟩ := h4
    by_cases h5 : num < -1048576
    · go_enter Tryd.func133, Tryd.ntmps133
      go_wp2_with fail
      refine (HA.out _).mono ?_
      rintro e' w1 ⟨rfl, rfl⟩
      go_wp2_with fail
      go_ret
      exact ⟨ret_int HR.out, hE0⟩
    · have h5 : 1048576 < num := by omega
      go_enter Tryd.func133, Tryd.ntmps133
      go_wp2_with fail
      refine (HA.out _).mono ?_
      rintro e' w1 ⟨rfl, rfl⟩
      go_wp2_with fail
      go_ret
      exact ⟨ret_int HR.out, hE0⟩
  rw [if_neg h4] at hres
  by_cases h5 : 1 < op ∧ num ≠ 0
  · rw [if_pos h5] at hres
    have HR := hide hres
    clear hres h3 h4
    have d1 : (op == 1) = false := by rw [beq_eq_false_iff_ne]; omega
    have d2 : (op == 0) = false := by rw [beq_eq_false_iff_ne]; omega
    have d3 : (op != 1) = true := by rw [bne_iff_ne]; omega
    have d4 : (op != 0) = true := by rw [bne_iff_ne]; omega
    have d5 : (num != 0) = true := by rw [bne_iff_ne]; omega
    clear h5
    go_enter Tryd.func133, Tryd.ntmps133
    go_wp2_with fail
    refine (HA.out _).mono ?_
    rintro e' w1 ⟨rfl, rfl⟩
    go_wp2_with fail
    go_ret
    exact ⟨ret_int HR.out, hE0⟩
  rw [if_neg h5] at hres
  have HR := hide hres
  clear hres
  have HT : Hid (∀ i, i < xs.length → badArg op (xs.getD i default) = true → 9 = res) := fun i hi h => by
    have h7 := HR.out
    rw [any_true hi h] at h7
    exact h7
  have HF : Hid ((∀ i, i < xs.length → badArg op (xs.getD i default) = false) → 0 = res) := fun h => by
    have h7 := HR.out
    rw [any_false h] at h7
    exact h7
  clear HR
  have HAK := hide (rargkind_any op)
  have HBA := hide (fun y => show badArg op y = (decide (0 ≤ arity y.op) && decide (kindOf y.op ≠ argKind op)) from rfl)
  have hcase : (op = 1 ∧ ¬ num < 0 ∧ ¬ vars ≤ num) ∨ (op = 0 ∧ ¬ num < -1048576 ∧ ¬ 1048576 < num) ∨ (op ≠ 0 ∧ op ≠ 1 ∧ num = 0) := by omega
  clear h3 h4 h5
  rcases (show (op = 1 ∧ ¬ num < 0 ∧ ¬ vars ≤ num) ∨ (op = 0 ∧ ¬ num < -1048576 ∧ ¬ 1048576 < num) ∨ (op ≠ 0 ∧ op ≠ 1 ∧ num = 0) from hcase) with ⟨rfl, h7, h8⟩ | ⟨rfl, h7, h8⟩ | ⟨h6, h7, h8⟩
  · go_enter Tryd.func133, Tryd.ntmps133
    go_wp2_with fail
    refine (HA.out _).mono ?_
    rintro e' w1 ⟨rfl, hw1⟩
    rw [← hw1] at hE0 HB
    clear hw1
    obtain ⟨c0, c1, c2, hz⟩ := HB.out _ (Ext.refl w1)
    go_wp2_with fail
    clear c0 c1 c2 hz
    go_loopw [6] (fun x V => ∃ (i : Nat), i ≤ xs.length ∧ x = .int .i64 i ∧ (∀ j, j < i → badArg 1 (xs.getD j default) = false) ∧ Ext w1 V) (fun x _ => xs.length - (intOf x).toNat)
    case atStart => exact ⟨0, by omega, rfl, fun j hj => by omega, Ext.refl _⟩
    case round =>
      obtain ⟨i, hi, rfl, hj, hE⟩ := hrel
      have HJ := hide hj
      clear hj
      obtain ⟨c0, c1, c2, hz⟩ := HB.out _ hE
      by_cases hlt : i < xs.length
      · obtain ⟨b, o, rfl, hb, hat⟩ := HAT.out (by omega)
        obtain ⟨q, d, ⟨x0, x1, x2⟩, hx⟩ := hat i hlt
        replace x0 := x0 _ (hE0.trans hE)
        replace x1 := x1 _ (hE0.trans hE)
        replace x2 := x2 _ (hE0.trans hE)
        have HTI := hide (HT.out i hlt)
        have HN : Hid (badArg 1 (xs.getD i default) = false → ∀ j, j < i + 1 → badArg 1 (xs.getD j default) = false) := fun h j hj => by
          by_cases e : j = i
          · subst e; exact h
          · exact HJ.out j (by omega)
        clear hat hx HJ
        have HBY := hide (HBA.out (xs.getD i default))
        generalize xs.getD i default = y at x0 x1 x2 HTI HN HBY
        generalize badArg 1 y = bb at HTI HN HBY
        obtain ⟨yo, hyo⟩ : ∃ yo, y.op = yo := ⟨_, rfl⟩
        rw [hyo] at x0 HBY
        clear hyo
        have HYA := hide (rarity_any yo)
        have HYK := hide (rkindof_any yo)
        go_wp2_with fail
        clear x0 x1 x2
        cases hg : decide (0 ≤ arity yo) with
        | false =>
          have hb := HBY.out
          rw [hg, Bool.false_and] at hb
          have HR := hide (HN.out hb)
          clear hb HBY HN HTI
          obtain ⟨ya, hya⟩ : ∃ ya, arity yo = ya := ⟨_, rfl⟩
          simp only [hya] at HYA hg
          clear hya
          refine wp_region_ext (by kernel_rfl) (by kernel_rfl) ?_
          repeat (go_big_quiet_step ((first | (go_at_call 117; exact Calls.ext_same (HYA.out _)) | (go_at_call 100; exact Calls.ext_same (HYK.out _)) | (go_at_call 141; exact Calls.ext_same (HAK.out _)))))
          refine wpQuiet_nil ?_
          rintro w9 ⟨⟨_, hE9⟩, rfl⟩
          go_wp2_with fail
          go_roundw
          case rel => exact ⟨i + 1, by omega, by go_num, HR.out, (hE.alloc _).trans hE9⟩
          case measure => simp [intOf]; omega
        | true =>
          have hb := HBY.out
          rw [hg, Bool.true_and] at hb
          have hkk : (kindOf yo != argKind 1) = bb := by rw [hb]; rw [Bool.eq_iff_iff]; simp
          clear hb HBY
          obtain ⟨ya, hya⟩ : ∃ ya, arity yo = ya := ⟨_, rfl⟩
          simp only [hya] at HYA hg
          clear hya
          generalize kindOf yo = yk at HYK hkk
          generalize argKind 1 = ok at HAK hkk
          refine wp_region_ext (by kernel_rfl) (by kernel_rfl) ?_
          repeat (go_big_quiet_step ((first | (go_at_call 117; exact Calls.ext_same (HYA.out _)) | (go_at_call 100; exact Calls.ext_same (HYK.out _)) | (go_at_call 141; exact Calls.ext_same (HAK.out _)))))
          refine wpQuiet_nil ?_
          rintro w9 ⟨⟨_, hE9⟩, rfl⟩
          clear hkk
          cases bb
          · have HR := hide (HN.out rfl)
            go_wp2_with fail
            go_roundw
            case rel => exact ⟨i + 1, by omega, by go_num, HR.out, (hE.alloc _).trans hE9⟩
            case measure => simp [intOf]; omega
          · have HR := hide (HTI.out rfl)
            go_wp2_with fail
            go_ret
            exact ⟨ret_int HR.out, ((hE0.trans hE).alloc _).trans hE9⟩
      · obtain rfl : i = xs.length := by omega
        have HR := hide (HF.out HJ.out)
        go_wp2_with fail
        go_ret
        exact ⟨ret_int HR.out, hE0.trans hE⟩
  · go_enter Tryd.func133, Tryd.ntmps133
    go_wp2_with fail
    refine (HA.out _).mono ?_
    rintro e' w1 ⟨rfl, hw1⟩
    rw [← hw1] at hE0 HB
    clear hw1
    obtain ⟨c0, c1, c2, hz⟩ := HB.out _ (Ext.refl w1)
    go_wp2_with fail
    clear c0 c1 c2 hz
    go_loopw [6] (fun x V => ∃ (i : Nat), i ≤ xs.length ∧ x = .int .i64 i ∧ (∀ j, j < i → badArg 0 (xs.getD j default) = false) ∧ Ext w1 V) (fun x _ => xs.length - (intOf x).toNat)
    case atStart => exact ⟨0, by omega, rfl, fun j hj => by omega, Ext.refl _⟩
    case round =>
      obtain ⟨i, hi, rfl, hj, hE⟩ := hrel
      have HJ := hide hj
      clear hj
      obtain ⟨c0, c1, c2, hz⟩ := HB.out _ hE
      by_cases hlt : i < xs.length
      · obtain ⟨b, o, rfl, hb, hat⟩ := HAT.out (by omega)
        obtain ⟨q, d, ⟨x0, x1, x2⟩, hx⟩ := hat i hlt
        replace x0 := x0 _ (hE0.trans hE)
        replace x1 := x1 _ (hE0.trans hE)
        replace x2 := x2 _ (hE0.trans hE)
        have HTI := hide (HT.out i hlt)
        have HN : Hid (badArg 0 (xs.getD i default) = false → ∀ j, j < i + 1 → badArg 0 (xs.getD j default) = false) := fun h j hj => by
          by_cases e : j = i
          · subst e; exact h
          · exact HJ.out j (by omega)
        clear hat hx HJ
        have HBY := hide (HBA.out (xs.getD i default))
        generalize xs.getD i default = y at x0 x1 x2 HTI HN HBY
        generalize badArg 0 y = bb at HTI HN HBY
        obtain ⟨yo, hyo⟩ : ∃ yo, y.op = yo := ⟨_, rfl⟩
        rw [hyo] at x0 HBY
        clear hyo
        have HYA := hide (rarity_any yo)
        have HYK := hide (rkindof_any yo)
        go_wp2_with fail
        clear x0 x1 x2
        cases hg : decide (0 ≤ arity yo) with
        | false =>
          have hb := HBY.out
          rw [hg, Bool.false_and] at hb
          have HR := hide (HN.out hb)
          clear hb HBY HN HTI
          obtain ⟨ya, hya⟩ : ∃ ya, arity yo = ya := ⟨_, rfl⟩
          simp only [hya] at HYA hg
          clear hya
          refine wp_region_ext (by kernel_rfl) (by kernel_rfl) ?_
          repeat (go_big_quiet_step ((first | (go_at_call 117; exact Calls.ext_same (HYA.out _)) | (go_at_call 100; exact Calls.ext_same (HYK.out _)) | (go_at_call 141; exact Calls.ext_same (HAK.out _)))))
          refine wpQuiet_nil ?_
          rintro w9 ⟨⟨_, hE9⟩, rfl⟩
          go_wp2_with fail
          go_roundw
          case rel => exact ⟨i + 1, by omega, by go_num, HR.out, (hE.alloc _).trans hE9⟩
          case measure => simp [intOf]; omega
        | true =>
          have hb := HBY.out
          rw [hg, Bool.true_and] at hb
          have hkk : (kindOf yo != argKind 0) = bb := by rw [hb]; rw [Bool.eq_iff_iff]; simp
          clear hb HBY
          obtain ⟨ya, hya⟩ : ∃ ya, arity yo = ya := ⟨_, rfl⟩
          simp only [hya] at HYA hg
          clear hya
          generalize kindOf yo = yk at HYK hkk
          generalize argKind 0 = ok at HAK hkk
          refine wp_region_ext (by kernel_rfl) (by kernel_rfl) ?_
          repeat (go_big_quiet_step ((first | (go_at_call 117; exact Calls.ext_same (HYA.out _)) | (go_at_call 100; exact Calls.ext_same (HYK.out _)) | (go_at_call 141; exact Calls.ext_same (HAK.out _)))))
          refine wpQuiet_nil ?_
          rintro w9 ⟨⟨_, hE9⟩, rfl⟩
          clear hkk
          cases bb
          · have HR := hide (HN.out rfl)
            go_wp2_with fail
            go_roundw
            case rel => exact ⟨i + 1, by omega, by go_num, HR.out, (hE.alloc _).trans hE9⟩
            case measure => simp [intOf]; omega
          · have HR := hide (HTI.out rfl)
            go_wp2_with fail
            go_ret
            exact ⟨ret_int HR.out, ((hE0.trans hE).alloc _).trans hE9⟩
      · obtain rfl : i = xs.length := by omega
        have HR := hide (HF.out HJ.out)
        go_wp2_with fail
        go_ret
        exact ⟨ret_int HR.out, hE0.trans hE⟩
  · have d0 : (op == 1) = false := by rw [beq_eq_false_iff_ne]; omega
    have d1 : (op == 0) = false := by rw [beq_eq_false_iff_ne]; omega
    have d2 : (op != 1) = true := by rw [bne_iff_ne]; omega
    have d3 : (op != 0) = true := by rw [bne_iff_ne]; omega
    have d4 : (num != 0) = false := by rw [h8]; rfl
    clear h6 h7 h8
    go_enter Tryd.func133, Tryd.ntmps133
    go_wp2_with fail
    refine (HA.out _).mono ?_
    rintro e' w1 ⟨rfl, hw1⟩
    rw [← hw1] at hE0 HB
    clear hw1
    obtain ⟨c0, c1, c2, hz⟩ := HB.out _ (Ext.refl w1)
    go_wp2_with fail
    clear c0 c1 c2 hz
    go_loopw [6] (fun x V => ∃ (i : Nat), i ≤ xs.length ∧ x = .int .i64 i ∧ (∀ j, j < i → badArg op (xs.getD j default) = false) ∧ Ext w1 V) (fun x _ => xs.length - (intOf x).toNat)
    case atStart => exact ⟨0, by omega, rfl, fun j hj => by omega, Ext.refl _⟩
    case round =>
      obtain ⟨i, hi, rfl, hj, hE⟩ := hrel
      have HJ := hide hj
      clear hj
      obtain ⟨c0, c1, c2, hz⟩ := HB.out _ hE
      by_cases hlt : i < xs.length
      · obtain ⟨b, o, rfl, hb, hat⟩ := HAT.out (by omega)
        obtain ⟨q, d, ⟨x0, x1, x2⟩, hx⟩ := hat i hlt
        replace x0 := x0 _ (hE0.trans hE)
        replace x1 := x1 _ (hE0.trans hE)
        replace x2 := x2 _ (hE0.trans hE)
        have HTI := hide (HT.out i hlt)
        have HN : Hid (badArg op (xs.getD i default) = false → ∀ j, j < i + 1 → badArg op (xs.getD j default) = false) := fun h j hj => by
          by_cases e : j = i
          · subst e; exact h
          · exact HJ.out j (by omega)
        clear hat hx HJ
        have HBY := hide (HBA.out (xs.getD i default))
        generalize xs.getD i default = y at x0 x1 x2 HTI HN HBY
        generalize badArg op y = bb at HTI HN HBY
        obtain ⟨yo, hyo⟩ : ∃ yo, y.op = yo := ⟨_, rfl⟩
        rw [hyo] at x0 HBY
        clear hyo
        have HYA := hide (rarity_any yo)
        have HYK := hide (rkindof_any yo)
        go_wp2_with fail
        clear x0 x1 x2
        cases hg : decide (0 ≤ arity yo) with
        | false =>
          have hb := HBY.out
          rw [hg, Bool.false_and] at hb
          have HR := hide (HN.out hb)
          clear hb HBY HN HTI
          obtain ⟨ya, hya⟩ : ∃ ya, arity yo = ya := ⟨_, rfl⟩
          simp only [hya] at HYA hg
          clear hya
          refine wp_region_ext (by kernel_rfl) (by kernel_rfl) ?_
          repeat (go_big_quiet_step ((first | (go_at_call 117; exact Calls.ext_same (HYA.out _)) | (go_at_call 100; exact Calls.ext_same (HYK.out _)) | (go_at_call 141; exact Calls.ext_same (HAK.out _)))))
          refine wpQuiet_nil ?_
          rintro w9 ⟨⟨_, hE9⟩, rfl⟩
          go_wp2_with fail
          go_roundw
          case rel => exact ⟨i + 1, by omega, by go_num, HR.out, (hE.alloc _).trans hE9⟩
          case measure => simp [intOf]; omega
        | true =>
          have hb := HBY.out
          rw [hg, Bool.true_and] at hb
          have hkk : (kindOf yo != argKind op) = bb := by rw [hb]; rw [Bool.eq_iff_iff]; simp
          clear hb HBY
          obtain ⟨ya, hya⟩ : ∃ ya, arity yo = ya := ⟨_, rfl⟩
          simp only [hya] at HYA hg
          clear hya
          generalize kindOf yo = yk at HYK hkk
          generalize argKind op = ok at HAK hkk
          refine wp_region_ext (by kernel_rfl) (by kernel_rfl) ?_
          repeat (go_big_quiet_step ((first | (go_at_call 117; exact Calls.ext_same (HYA.out _)) | (go_at_call 100; exact Calls.ext_same (HYK.out _)) | (go_at_call 141; exact Calls.ext_same (HAK.out _)))))
          refine wpQuiet_nil ?_
          rintro w9 ⟨⟨_, hE9⟩, rfl⟩
          clear hkk
          cases bb
          · have HR := hide (HN.out rfl)
            go_wp2_with fail
            go_roundw
            case rel => exact ⟨i + 1, by omega, by go_num, HR.out, (hE.alloc _).trans hE9⟩
            case measure => simp [intOf]; omega
          · have HR := hide (HTI.out rfl)
            go_wp2_with fail
            go_ret
            exact ⟨ret_int HR.out, ((hE0.trans hE).alloc _).trans hE9⟩
      · obtain rfl : i = xs.length := by omega
        have HR := hide (HF.out HJ.out)
        go_wp2_with fail
        go_ret
        exact ⟨ret_int HR.out, hE0.trans hE⟩
end Go.Proofs.YthpccmmdkbjjhaaDoor
