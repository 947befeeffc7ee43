/-
  The check and the kind of an expression, of the reference and of the program.
  Conditions: as each theorem states.
-/
import Derived.Test.YthkididgbaamcaaGreatDoorExA
namespace Go.Proofs.YthkididgbaamcaaGreatDoor
open Go.RowKit

theorem any_false {α : Type} [Inhabited α] {xs : List α} {f : α → Bool} (h : ∀ j, j < xs.length → f (xs.getD j default) = false) : xs.any f = false := by
  rw [List.any_eq_false]
  intro x hx
  obtain ⟨j, hj, rfl⟩ := List.getElem_of_mem hx
  have := h j hj
  rw [List.getD_eq_getElem?_getD, List.getElem?_eq_getElem hj] at this
  simpa using this
theorem any_true {α : Type} [Inhabited α] {xs : List α} {f : α → Bool} {j : Nat} (hj : j < xs.length) (h : f (xs.getD j default) = true) : xs.any f = true :=
  List.any_eq_true.2 ⟨_, mem_getD hj, h⟩

theorem nodeErr_mk (op num : Int) (xs : List Ex) (vars : Int) : nodeErr (.mk op num xs) vars = if arity op < 0 then 1 else if (xs.length : Int) ≠ arity op then 15
    else if op = 1 ∧ (num < 0 ∨ vars ≤ num) then 10 else if op = 0 ∧ (num < -1048576 ∨ 1048576 < num) then 2
    else if 1 < op ∧ num ≠ 0 then 3 else if xs.any (badArg op) then 9 else 0 := rfl

set_option maxHeartbeats 1000000 in
theorem rnode_any (e : Ex) (vars : Int) (v : Value) (w : World) (hv : ExAt w v e) :
    Calls Tryz.prog 91 #[v, .int .i64 vars] w fun e' w' => e' = .returned (.int .i64 (nodeErr e vars)) ∧ Ext w w' := by
  obtain ⟨op, num, xs⟩ := e
  obtain ⟨p, c, rfl, hc, hl, hat⟩ := hv.all_
  simp only [Ex.op, Ex.num, Ex.args] at hc hl hat ⊢
  have HAT := hide hat
  clear hv hat
  generalize hres : nodeErr (.mk op num xs) vars = res
  rw [nodeErr_mk] at hres
  have HA := hide (rarity_any op)
  have hE0 : Ext w (w.alloc (.cells #[.int .i64 op, .int .i64 num, .slice p xs.length c] 25)) := (Ext.refl w).alloc _
  have HB := hide (fun w1 => xbox w op num (.slice p xs.length c) (w1 := w1))
  have hop : 0 ≤ arity op → 0 ≤ op ∧ op ≤ 15 := fun h => by
    have h1 := knownB_arity op
    rw [decide_eq_true h] at h1
    simp only [knownB, Bool.and_eq_true, decide_eq_true_eq] at h1
    omega
  have HOP := hide hop
  clear hop
  obtain ⟨a, ha⟩ : ∃ a, arity op = a := ⟨_, rfl⟩
  rw [ha] at HA HOP hres
  clear ha
  by_cases h1 : a < 0
  · rw [if_pos h1] at hres
    have HR := hide hres
    clear hres
    go_enter Tryz.func91, Tryz.ntmps91
    go_wp2_with fail
    refine (HA.out _).mono ?_
    rintro e' w1 ⟨rfl, rfl⟩
    go_wp2_with fail
    go_ret
    exact ⟨ret_int HR.out, hE0⟩
  rw [if_neg h1] at hres
  by_cases h2 : (xs.length : Int) ≠ a
  · rw [if_pos h2] at hres
    have HR := hide hres
    clear hres
    have d2 : ((xs.length : Int) != a) = true := by simp [h2]
    clear h2
    go_enter Tryz.func91, Tryz.ntmps91
    go_wp2_with fail
    refine (HA.out _).mono ?_
    rintro e' w1 ⟨rfl, rfl⟩
    go_wp2_with fail
    go_ret
    exact ⟨ret_int HR.out, hE0⟩
  rw [if_neg h2] at hres
  have h2' : (xs.length : Int) = a := by omega
  subst h2'
  have hop := HOP.out (by omega)
  clear h2 h1 HOP
  by_cases h3 : op = 1 ∧ (num < 0 ∨ vars ≤ num)
  · rw [if_pos h3] at hres
    have HR := hide hres
    clear hres
    obtain ⟨rfl, h3⟩ := h3
    by_cases h4 : num < 0
    · go_enter Tryz.func91, Tryz.ntmps91
      go_wp2_with fail
      refine (HA.out _).mono ?_
      rintro e' w1 ⟨rfl, rfl⟩
      go_wp2_with fail
      go_ret
      exact ⟨ret_int HR.out, hE0⟩
    · have h5 : vars ≤ num := by omega
      go_enter Tryz.func91, Tryz.ntmps91
      go_wp2_with fail
      refine (HA.out _).mono ?_
      rintro e' w1 ⟨rfl, rfl⟩
      go_wp2_with fail
      go_ret
      exact ⟨ret_int HR.out, hE0⟩
  rw [if_neg h3] at hres
  by_cases h4 : op = 0 ∧ (num < -1048576 ∨ 1048576 < num)
  · rw [if_pos h4] at hres
    have HR := hide hres
    clear hres h3
    obtain ⟨rfl, h4⟩ := h4
    by_cases h5 : num < -1048576
    · go_enter Tryz.func91, Tryz.ntmps91
      go_wp2_with fail
      refine (HA.out _).mono ?_
      rintro e' w1 ⟨rfl, rfl⟩
      go_wp2_with fail
      go_ret
      exact ⟨ret_int HR.out, hE0⟩
    · have h5 : 1048576 < num := by omega
      go_enter Tryz.func91, Tryz.ntmps91
      go_wp2_with fail
      refine (HA.out _).mono ?_
      rintro e' w1 ⟨rfl, rfl⟩
      go_wp2_with fail
      go_ret
      exact ⟨ret_int HR.out, hE0⟩
  rw [if_neg h4] at hres
  by_cases h5 : 1 < op ∧ num ≠ 0
  · rw [if_pos h5] at hres
    have HR := hide hres
    clear hres h3 h4
    have d1 : (op == 1) = false := by rw [beq_eq_false_iff_ne]; omega
    have d2 : (op == 0) = false := by rw [beq_eq_false_iff_ne]; omega
    have d3 : (op != 1) = true := by rw [bne_iff_ne]; omega
    have d4 : (op != 0) = true := by rw [bne_iff_ne]; omega
    have d5 : (num != 0) = true := by rw [bne_iff_ne]; omega
    clear h5
    go_enter Tryz.func91, Tryz.ntmps91
    go_wp2_with fail
    refine (HA.out _).mono ?_
    rintro e' w1 ⟨rfl, rfl⟩
    go_wp2_with fail
    go_ret
    exact ⟨ret_int HR.out, hE0⟩
  rw [if_neg h5] at hres
  have HR := hide hres
  clear hres
  have HT : Hid (∀ i, i < xs.length → badArg op (xs.getD i default) = true → 9 = res) := fun i hi h => by
    have h7 := HR.out
    rw [any_true hi h] at h7
    exact h7
  have HF : Hid ((∀ i, i < xs.length → badArg op (xs.getD i default) = false) → 0 = res) := fun h => by
    have h7 := HR.out
    rw [any_false h] at h7
    exact h7
  clear HR
  have HAK := hide (rargkind_any op)
  have HBA := hide (fun y => show badArg op y = (decide (0 ≤ arity y.op) && decide (kindOf y.op ≠ argKind op)) from rfl)
  have hcase : (op = 1 ∧ ¬ num < 0 ∧ ¬ vars ≤ num) ∨ (op = 0 ∧ ¬ num < -1048576 ∧ ¬ 1048576 < num) ∨ (op ≠ 0 ∧ op ≠ 1 ∧ num = 0) := by omega
  clear h3 h4 h5
  rcases (show (op = 1 ∧ ¬ num < 0 ∧ ¬ vars ≤ num) ∨ (op = 0 ∧ ¬ num < -1048576 ∧ ¬ 1048576 < num) ∨ (op ≠ 0 ∧ op ≠ 1 ∧ num = 0) from hcase) with ⟨rfl, h7, h8⟩ | ⟨rfl, h7, h8⟩ | ⟨h6, h7, h8⟩
  · go_enter Tryz.func91, Tryz.ntmps91
    go_wp2_with fail
    refine (HA.out _).mono ?_
    rintro e' w1 ⟨rfl, hw1⟩
    rw [← hw1] at hE0 HB
    clear hw1
    obtain ⟨c0, c1, c2, hz⟩ := HB.out _ (Ext.refl w1)
    go_wp2_with fail
    clear c0 c1 c2 hz
    go_loopw [6] (fun x V => ∃ (i : Nat), i ≤ xs.length ∧ x = .int .i64 i ∧ (∀ j, j < i → badArg 1 (xs.getD j default) = false) ∧ Ext w1 V) (fun x _ => xs.length - (intOf x).toNat)
    case atStart => exact ⟨0, by omega, rfl, fun j hj => by omega, Ext.refl _⟩
    case round =>
      obtain ⟨i, hi, rfl, hj, hE⟩ := hrel
      have HJ := hide hj
      clear hj
      obtain ⟨c0, c1, c2, hz⟩ := HB.out _ hE
      by_cases hlt : i < xs.length
      · obtain ⟨b, o, rfl, hb, hat⟩ := HAT.out (by omega)
        obtain ⟨q, d, ⟨x0, x1, x2⟩, hx⟩ := hat i hlt
        replace x0 := x0 _ (hE0.trans hE)
        replace x1 := x1 _ (hE0.trans hE)
        replace x2 := x2 _ (hE0.trans hE)
        have HTI := hide (HT.out i hlt)
        have HN : Hid (badArg 1 (xs.getD i default) = false → ∀ j, j < i + 1 → badArg 1 (xs.getD j default) = false) := fun h j hj => by
          by_cases e : j = i
          · subst e; exact h
          · exact HJ.out j (by omega)
        clear hat hx HJ
        have HBY := hide (HBA.out (xs.getD i default))
        generalize xs.getD i default = y at x0 x1 x2 HTI HN HBY
        generalize badArg 1 y = bb at HTI HN HBY
        obtain ⟨yo, hyo⟩ : ∃ yo, y.op = yo := ⟨_, rfl⟩
        rw [hyo] at x0 HBY
        clear hyo
        have HYA := hide (rarity_any yo)
        have HYK := hide (rkindof_any yo)
        go_wp2_with fail
        clear x0 x1 x2
        cases hg : decide (0 ≤ arity yo) with
        | false =>
          have hb := HBY.out
          rw [hg, Bool.false_and] at hb
          have HR := hide (HN.out hb)
          clear hb HBY HN HTI
          obtain ⟨ya, hya⟩ : ∃ ya, arity yo = ya := ⟨_, rfl⟩
          simp only [hya] at HYA hg
          clear hya
          refine wp_region_ext (by kernel_rfl) (by kernel_rfl) ?_
          repeat (go_big_quiet_step ((first | (go_at_call 59; exact Calls.ext_same (HYA.out _)) | (go_at_call 60; exact Calls.ext_same (HYK.out _)) | (go_at_call 120; exact Calls.ext_same (HAK.out _)))))
          refine wpQuiet_nil ?_
          rintro w9 ⟨⟨_, hE9⟩, rfl⟩
          go_wp2_with fail
          go_roundw
          case rel => exact ⟨i + 1, by omega, by go_num, HR.out, (hE.alloc _).trans hE9⟩
          case measure => simp [intOf]; omega
        | true =>
          have hb := HBY.out
          rw [hg, Bool.true_and] at hb
          have hkk : (kindOf yo != argKind 1) = bb := by rw [hb]; rw [Bool.eq_iff_iff]; simp
          clear hb HBY
          obtain ⟨ya, hya⟩ : ∃ ya, arity yo = ya := ⟨_, rfl⟩
          simp only [hya] at HYA hg
          clear hya
          generalize kindOf yo = yk at HYK hkk
          generalize argKind 1 = ok at HAK hkk
          refine wp_region_ext (by kernel_rfl) (by kernel_rfl) ?_
          repeat (go_big_quiet_step ((first | (go_at_call 59; exact Calls.ext_same (HYA.out _)) | (go_at_call 60; exact Calls.ext_same (HYK.out _)) | (go_at_call 120; exact Calls.ext_same (HAK.out _)))))
          refine wpQuiet_nil ?_
          rintro w9 ⟨⟨_, hE9⟩, rfl⟩
          clear hkk
          cases bb
          · have HR := hide (HN.out rfl)
            go_wp2_with fail
            go_roundw
            case rel => exact ⟨i + 1, by omega, by go_num, HR.out, (hE.alloc _).trans hE9⟩
            case measure => simp [intOf]; omega
          · have HR := hide (HTI.out rfl)
            go_wp2_with fail
            go_ret
            exact ⟨ret_int HR.out, ((hE0.trans hE).alloc _).trans hE9⟩
      · obtain rfl : i = xs.length := by omega
        have HR := hide (HF.out HJ.out)
        go_wp2_with fail
        go_ret
        exact ⟨ret_int HR.out, hE0.trans hE⟩
  · go_enter Tryz.func91, Tryz.ntmps91
    go_wp2_with fail
    refine (HA.out _).mono ?_
    rintro e' w1 ⟨rfl, hw1⟩
    rw [← hw1] at hE0 HB
    clear hw1
    obtain ⟨c0, c1, c2, hz⟩ := HB.out _ (Ext.refl w1)
    go_wp2_with fail
    clear c0 c1 c2 hz
    go_loopw [6] (fun x V => ∃ (i : Nat), i ≤ xs.length ∧ x = .int .i64 i ∧ (∀ j, j < i → badArg 0 (xs.getD j default) = false) ∧ Ext w1 V) (fun x _ => xs.length - (intOf x).toNat)
    case atStart => exact ⟨0, by omega, rfl, fun j hj => by omega, Ext.refl _⟩
    case round =>
      obtain ⟨i, hi, rfl, hj, hE⟩ := hrel
      have HJ := hide hj
      clear hj
      obtain ⟨c0, c1, c2, hz⟩ := HB.out _ hE
      by_cases hlt : i < xs.length
      · obtain ⟨b, o, rfl, hb, hat⟩ := HAT.out (by omega)
        obtain ⟨q, d, ⟨x0, x1, x2⟩, hx⟩ := hat i hlt
        replace x0 := x0 _ (hE0.trans hE)
        replace x1 := x1 _ (hE0.trans hE)
        replace x2 := x2 _ (hE0.trans hE)
        have HTI := hide (HT.out i hlt)
        have HN : Hid (badArg 0 (xs.getD i default) = false → ∀ j, j < i + 1 → badArg 0 (xs.getD j default) = false) := fun h j hj => by
          by_cases e : j = i
          · subst e; exact h
          · exact HJ.out j (by omega)
        clear hat hx HJ
        have HBY := hide (HBA.out (xs.getD i default))
        generalize xs.getD i default = y at x0 x1 x2 HTI HN HBY
        generalize badArg 0 y = bb at HTI HN HBY
        obtain ⟨yo, hyo⟩ : ∃ yo, y.op = yo := ⟨_, rfl⟩
        rw [hyo] at x0 HBY
        clear hyo
        have HYA := hide (rarity_any yo)
        have HYK := hide (rkindof_any yo)
        go_wp2_with fail
        clear x0 x1 x2
        cases hg : decide (0 ≤ arity yo) with
        | false =>
          have hb := HBY.out
          rw [hg, Bool.false_and] at hb
          have HR := hide (HN.out hb)
          clear hb HBY HN HTI
          obtain ⟨ya, hya⟩ : ∃ ya, arity yo = ya := ⟨_, rfl⟩
          simp only [hya] at HYA hg
          clear hya
          refine wp_region_ext (by kernel_rfl) (by kernel_rfl) ?_
          repeat (go_big_quiet_step ((first | (go_at_call 59; exact Calls.ext_same (HYA.out _)) | (go_at_call 60; exact Calls.ext_same (HYK.out _)) | (go_at_call 120; exact Calls.ext_same (HAK.out _)))))
          refine wpQuiet_nil ?_
          rintro w9 ⟨⟨_, hE9⟩, rfl⟩
          go_wp2_with fail
          go_roundw
          case rel => exact ⟨i + 1, by omega, by go_num, HR.out, (hE.alloc _).trans hE9⟩
          case measure => simp [intOf]; omega
        | true =>
          have hb := HBY.out
          rw [hg, Bool.true_and] at hb
          have hkk : (kindOf yo != argKind 0) = bb := by rw [hb]; rw [Bool.eq_iff_iff]; simp
          clear hb HBY
          obtain ⟨ya, hya⟩ : ∃ ya, arity yo = ya := ⟨_, rfl⟩
          simp only [hya] at HYA hg
          clear hya
          generalize kindOf yo = yk at HYK hkk
          generalize argKind 0 = ok at HAK hkk
          refine wp_region_ext (by kernel_rfl) (by kernel_rfl) ?_
          repeat (go_big_quiet_step ((first | (go_at_call 59; exact Calls.ext_same (HYA.out _)) | (go_at_call 60; exact Calls.ext_same (HYK.out _)) | (go_at_call 120; exact Calls.ext_same (HAK.out _)))))
          refine wpQuiet_nil ?_
          rintro w9 ⟨⟨_, hE9⟩, rfl⟩
          clear hkk
          cases bb
          · have HR := hide (HN.out rfl)
            go_wp2_with fail
            go_roundw
            case rel => exact ⟨i + 1, by omega, by go_num, HR.out, (hE.alloc _).trans hE9⟩
            case measure => simp [intOf]; omega
          · have HR := hide (HTI.out rfl)
            go_wp2_with fail
            go_ret
            exact ⟨ret_int HR.out, ((hE0.trans hE).alloc _).trans hE9⟩
      · obtain rfl : i = xs.length := by omega
        have HR := hide (HF.out HJ.out)
        go_wp2_with fail
        go_ret
        exact ⟨ret_int HR.out, hE0.trans hE⟩
  · have d0 : (op == 1) = false := by rw [beq_eq_false_iff_ne]; omega
    have d1 : (op == 0) = false := by rw [beq_eq_false_iff_ne]; omega
    have d2 : (op != 1) = true := by rw [bne_iff_ne]; omega
    have d3 : (op != 0) = true := by rw [bne_iff_ne]; omega
    have d4 : (num != 0) = false := by rw [h8]; rfl
    clear h6 h7 h8
    go_enter Tryz.func91, Tryz.ntmps91
    go_wp2_with fail
    refine (HA.out _).mono ?_
    rintro e' w1 ⟨rfl, hw1⟩
    rw [← hw1] at hE0 HB
    clear hw1
    obtain ⟨c0, c1, c2, hz⟩ := HB.out _ (Ext.refl w1)
    go_wp2_with fail
    clear c0 c1 c2 hz
    go_loopw [6] (fun x V => ∃ (i : Nat), i ≤ xs.length ∧ x = .int .i64 i ∧ (∀ j, j < i → badArg op (xs.getD j default) = false) ∧ Ext w1 V) (fun x _ => xs.length - (intOf x).toNat)
    case atStart => exact ⟨0, by omega, rfl, fun j hj => by omega, Ext.refl _⟩
    case round =>
      obtain ⟨i, hi, rfl, hj, hE⟩ := hrel
      have HJ := hide hj
      clear hj
      obtain ⟨c0, c1, c2, hz⟩ := HB.out _ hE
      by_cases hlt : i < xs.length
      · obtain ⟨b, o, rfl, hb, hat⟩ := HAT.out (by omega)
        obtain ⟨q, d, ⟨x0, x1, x2⟩, hx⟩ := hat i hlt
        replace x0 := x0 _ (hE0.trans hE)
        replace x1 := x1 _ (hE0.trans hE)
        replace x2 := x2 _ (hE0.trans hE)
        have HTI := hide (HT.out i hlt)
        have HN : Hid (badArg op (xs.getD i default) = false → ∀ j, j < i + 1 → badArg op (xs.getD j default) = false) := fun h j hj => by
          by_cases e : j = i
          · subst e; exact h
          · exact HJ.out j (by omega)
        clear hat hx HJ
        have HBY := hide (HBA.out (xs.getD i default))
        generalize xs.getD i default = y at x0 x1 x2 HTI HN HBY
        generalize badArg op y = bb at HTI HN HBY
        obtain ⟨yo, hyo⟩ : ∃ yo, y.op = yo := ⟨_, rfl⟩
        rw [hyo] at x0 HBY
        clear hyo
        have HYA := hide (rarity_any yo)
        have HYK := hide (rkindof_any yo)
        go_wp2_with fail
        clear x0 x1 x2
        cases hg : decide (0 ≤ arity yo) with
        | false =>
          have hb := HBY.out
          rw [hg, Bool.false_and] at hb
          have HR := hide (HN.out hb)
          clear hb HBY HN HTI
          obtain ⟨ya, hya⟩ : ∃ ya, arity yo = ya := ⟨_, rfl⟩
          simp only [hya] at HYA hg
          clear hya
          refine wp_region_ext (by kernel_rfl) (by kernel_rfl) ?_
          repeat (go_big_quiet_step ((first | (go_at_call 59; exact Calls.ext_same (HYA.out _)) | (go_at_call 60; exact Calls.ext_same (HYK.out _)) | (go_at_call 120; exact Calls.ext_same (HAK.out _)))))
          refine wpQuiet_nil ?_
          rintro w9 ⟨⟨_, hE9⟩, rfl⟩
          go_wp2_with fail
          go_roundw
          case rel => exact ⟨i + 1, by omega, by go_num, HR.out, (hE.alloc _).trans hE9⟩
          case measure => simp [intOf]; omega
        | true =>
          have hb := HBY.out
          rw [hg, Bool.true_and] at hb
          have hkk : (kindOf yo != argKind op) = bb := by rw [hb]; rw [Bool.eq_iff_iff]; simp
          clear hb HBY
          obtain ⟨ya, hya⟩ : ∃ ya, arity yo = ya := ⟨_, rfl⟩
          simp only [hya] at HYA hg
          clear hya
          generalize kindOf yo = yk at HYK hkk
          generalize argKind op = ok at HAK hkk
          refine wp_region_ext (by kernel_rfl) (by kernel_rfl) ?_
          repeat (go_big_quiet_step ((first | (go_at_call 59; exact Calls.ext_same (HYA.out _)) | (go_at_call 60; exact Calls.ext_same (HYK.out _)) | (go_at_call 120; exact Calls.ext_same (HAK.out _)))))
          refine wpQuiet_nil ?_
          rintro w9 ⟨⟨_, hE9⟩, rfl⟩
          clear hkk
          cases bb
          · have HR := hide (HN.out rfl)
            go_wp2_with fail
            go_roundw
            case rel => exact ⟨i + 1, by omega, by go_num, HR.out, (hE.alloc _).trans hE9⟩
            case measure => simp [intOf]; omega
          · have HR := hide (HTI.out rfl)
            go_wp2_with fail
            go_ret
            exact ⟨ret_int HR.out, ((hE0.trans hE).alloc _).trans hE9⟩
      · obtain rfl : i = xs.length := by omega
        have HR := hide (HF.out HJ.out)
        go_wp2_with fail
        go_ret
        exact ⟨ret_int HR.out, hE0.trans hE⟩
end Go.Proofs.YthkididgbaamcaaGreatDoor

namespace Go.Proofs.YthkididgbaamcaaGreatDoor

/-- A scene without variables. -/
structure Sc where
  n : Nat
  inp : List Int
  out : List Int
  h : Gr
def flag (b : Bool) : Int := if b = true then 1 else 0
def atS (l : List Int) (p n : Int) : Int := if p < 0 ∨ n ≤ p ∨ (l.length : Int) ≤ p then -1 else l.getD p.toNat 0
def procS (n : Nat) (a : Int) : Bool := decide (0 ≤ a) && decide (a < n)
def bitS (s : Sc) (a b : Int) : Bool := procS s.n a && procS s.n b && has (s.h.h a.toNat) b.toNat
def twoS (s : Sc) (op a b : Int) : Int :=
  if op = 4 then flag (bitS s a b) else if op = 5 then a + b else if op = 6 then a - b else if op = 7 then flag (a == b) else if op = 8 then flag (decide (a < b))
  else if op = 9 then flag (decide (a ≤ b)) else if op = 10 then a * b else flag (decide (0 < a + b))
def oneS (s : Sc) (op a : Int) : Int := if op = 2 then atS s.inp a s.n else if op = 3 then atS s.out a s.n else 1 - a
def quantS (n : Nat) (op k : Int) : Int := if op = 13 then flag (k == (n : Int)) else if op = 14 then flag (decide (0 < k)) else k
def cntTo (f : Nat → Int) : Nat → Int
  | 0 => 0
  | p + 1 => cntTo f p + f p
def valE (s : Sc) : Ex → List Int → Int
  | .mk op num [], vars => if op = 0 then num else if op = 1 then vars.getD num.toNat 0 else 0
  | .mk op num [a], vars => if op = 0 then num else if op = 1 then vars.getD num.toNat 0 else
      if isQ op = true then quantS s.n op (cntTo (fun p => valE s a (vars ++ [(p : Int)])) s.n) else oneS s op (valE s a vars)
  | .mk op _ (a :: b :: _), vars => twoS s op (valE s a vars) (valE s b vars)

theorem nodesEL_mem : ∀ {xs : List Ex} {v : Int}, nodesEL xs v = 0 → ∀ x ∈ xs, nodesE x v = 0
  | [], _, _, x, hx => by cases hx
  | y :: xs, v, h, x, hx => by
    simp only [nodesEL] at h
    by_cases h1 : nodesE y v = 0
    · rw [if_neg (fun h2 => h2 h1)] at h
      rcases List.mem_cons.1 hx with rfl | hx
      · exact h1
      · exact nodesEL_mem h x hx
    · rw [if_pos h1] at h; exact absurd h h1
theorem nodesE_zero {op num : Int} {xs : List Ex} {v : Int} (h : nodesE (.mk op num xs) v = 0) :
    0 ≤ op ∧ op ≤ 15 ∧ (xs.length : Int) = arity op ∧ (op = 1 → 0 ≤ num ∧ num < v) ∧ (op = 0 → -1048576 ≤ num ∧ num ≤ 1048576) ∧ (∀ x ∈ xs, nodesE x (innerV op v) = 0 ∧ kindOf x.op = argKind op) := by
  have hm : nodesE (.mk op num xs) v = if nodeErr (.mk op num xs) v ≠ 0 then nodeErr (.mk op num xs) v else nodesEL xs (innerV op v) := rfl
  rw [hm] at h
  by_cases h1 : nodeErr (.mk op num xs) v ≠ 0
  · rw [if_pos h1] at h; exact absurd h h1
  rw [if_neg h1] at h
  have hn : nodeErr (.mk op num xs) v = 0 := by simpa using h1
  rw [nodeErr_mk] at hn
  by_cases a1 : arity op < 0
  · rw [if_pos a1] at hn; omega
  rw [if_neg a1] at hn
  by_cases a2 : (xs.length : Int) ≠ arity op
  · rw [if_pos a2] at hn; omega
  rw [if_neg a2] at hn
  by_cases a3 : op = 1 ∧ (num < 0 ∨ v ≤ num)
  · rw [if_pos a3] at hn; omega
  rw [if_neg a3] at hn
  by_cases a4 : op = 0 ∧ (num < -1048576 ∨ 1048576 < num)
  · rw [if_pos a4] at hn; omega
  rw [if_neg a4] at hn
  by_cases a5 : 1 < op ∧ num ≠ 0
  · rw [if_pos a5] at hn; omega
  rw [if_neg a5] at hn
  by_cases a6 : xs.any (badArg op) = true
  · rw [if_pos a6] at hn; omega
  have hkn := knownB_arity op
  rw [decide_eq_true (by omega)] at hkn
  have hop : 0 ≤ op ∧ op < 16 := by simpa only [knownB, Bool.and_eq_true, decide_eq_true_eq] using hkn
  refine ⟨hop.1, by omega, by omega, by omega, by omega, fun x hx => ⟨nodesEL_mem h x hx, ?_⟩⟩
  have hb : badArg op x = false := by
    cases hb : badArg op x
    · rfl
    · exact absurd (List.any_eq_true.2 ⟨x, hx, hb⟩) a6
  have hz := nodesEL_mem h x hx
  have ha : 0 ≤ arity x.op := by
    obtain ⟨o, n, ys⟩ := x
    show 0 ≤ arity o
    rcases Int.lt_or_le (arity o) 0 with h7 | h7
    · have hm2 : nodesE (.mk o n ys) (innerV op v) = if nodeErr (.mk o n ys) (innerV op v) ≠ 0 then nodeErr (.mk o n ys) (innerV op v) else nodesEL ys (innerV o (innerV op v)) := rfl
      have hn2 : nodeErr (.mk o n ys) (innerV op v) = 1 := by rw [nodeErr_mk, if_pos h7]
      rw [hm2, hn2, if_pos (by decide)] at hz
      omega
    · exact h7
  unfold badArg at hb
  rw [decide_eq_true ha, Bool.true_and, decide_eq_false_iff_not] at hb
  exact Decidable.byContradiction hb
theorem flag_bd (b : Bool) : 0 ≤ flag b ∧ flag b ≤ 1 := by cases b <;> simp [flag]
theorem arity_one {op : Int} (h0 : 0 ≤ op) (h1 : op ≤ 15) (h : arity op = 1) : op = 2 ∨ op = 3 ∨ op = 12 ∨ op = 13 ∨ op = 14 ∨ op = 15 := by
  unfold arity at h
  rw [if_neg (by omega)] at h
  by_cases h2 : op = 0 ∨ op = 1
  · rw [if_pos h2] at h; omega
  rw [if_neg h2] at h
  by_cases h3 : op = 2 ∨ op = 3 ∨ op = 12 ∨ 13 ≤ op
  · omega
  · rw [if_neg h3] at h; omega
theorem arity_two {op : Int} (h0 : 0 ≤ op) (h1 : op ≤ 15) (h : arity op = 2) : 4 ≤ op ∧ op ≤ 11 := by
  unfold arity at h
  rw [if_neg (by omega)] at h
  by_cases h2 : op = 0 ∨ op = 1
  · rw [if_pos h2] at h; omega
  rw [if_neg h2] at h
  by_cases h3 : op = 2 ∨ op = 3 ∨ op = 12 ∨ 13 ≤ op
  · rw [if_pos h3] at h; omega
  · omega
theorem arity_zero {op : Int} (h0 : 0 ≤ op) (h1 : op ≤ 15) (h : arity op = 0) : op = 0 ∨ op = 1 := by
  unfold arity at h
  rw [if_neg (by omega)] at h
  by_cases h2 : op = 0 ∨ op = 1
  · exact h2
  rw [if_neg h2] at h
  split at h <;> omega
theorem arity_cases {op : Int} (h0 : 0 ≤ op) (h1 : op ≤ 15) : arity op = 0 ∨ arity op = 1 ∨ arity op = 2 := by
  unfold arity
  rw [if_neg (by omega)]
  split
  · exact .inl rfl
  · split
    · exact .inr (.inl rfl)
    · exact .inr (.inr rfl)
def Sc.ok (s : Sc) : Prop := 1 ≤ s.n ∧ s.n ≤ 5 ∧ (∀ x ∈ s.inp, -1048576 ≤ x ∧ x ≤ 1048576) ∧ (∀ x ∈ s.out, -1048576 ≤ x ∧ x ≤ 1048576) ∧ (∀ k, k < 5 → 0 ≤ s.h.h k ∧ s.h.h k ≤ 1048576)
theorem atS_bd {l : List Int} (h : ∀ x ∈ l, -1048576 ≤ x ∧ x ≤ 1048576) (p n : Int) : -1048576 ≤ atS l p n ∧ atS l p n ≤ 1048576 := by
  unfold atS
  split
  · omega
  · rename_i h1
    have hlt : p.toNat < l.length := by omega
    rw [List.getD_eq_getElem?_getD, List.getElem?_eq_getElem hlt]
    exact h _ (List.getElem_mem hlt)
theorem cntTo_bd {f : Nat → Int} {n : Nat} (h : ∀ p, p < n → 0 ≤ f p ∧ f p ≤ 1) : 0 ≤ cntTo f n ∧ cntTo f n ≤ n := by
  induction n with
  | zero => simp [cntTo]
  | succ n ih =>
    have h1 := ih fun p hp => h p (by omega)
    have h2 := h n (by omega)
    simp only [cntTo]
    omega
theorem mul01 {a b : Int} (ha : 0 ≤ a ∧ a ≤ 1) (hb : 0 ≤ b ∧ b ≤ 1) : 0 ≤ a * b ∧ a * b ≤ 1 := by
  rcases (show a = 0 ∨ a = 1 by omega) with rfl | rfl
  · simp
  · simpa using hb
/-- The value of a well-formed expression: small; a truth value, if it is a condition. -/
theorem val_bd (s : Sc) (hs : s.ok) : ∀ (e : Ex) (vars : List Int), (∀ x ∈ vars, 0 ≤ x ∧ x ≤ 1048576) → nodesE e vars.length = 0 →
    (-(e.nodes * 1048576 : Int) ≤ valE s e vars ∧ valE s e vars ≤ e.nodes * 1048576) ∧ (kindOf e.op = 1 → 0 ≤ valE s e vars ∧ valE s e vars ≤ 1) := by
  refine Ex.ind (P := fun e => ∀ (vars : List Int), (∀ x ∈ vars, 0 ≤ x ∧ x ≤ 1048576) → nodesE e vars.length = 0 →
    (-(e.nodes * 1048576 : Int) ≤ valE s e vars ∧ valE s e vars ≤ e.nodes * 1048576) ∧ (kindOf e.op = 1 → 0 ≤ valE s e vars ∧ valE s e vars ≤ 1)) ?_
  intro op num xs ih vars hv h
  obtain ⟨h0, h1, hl, hvar, hcon, hx⟩ := nodesE_zero h
  obtain ⟨s1, s2, s3, s4, s5⟩ := hs
  show _ ∧ (kindOf op = 1 → _)
  rcases arity_cases h0 h1 with ha | ha | ha
  · have hop := arity_zero h0 h1 ha
    obtain rfl : xs = [] := List.eq_nil_of_length_eq_zero (by omega)
    simp only [valE, Ex.nodes, Ex.nodesL]
    rcases hop with rfl | rfl
    · rw [if_pos rfl]
      have := hcon rfl
      exact ⟨by omega, fun hk => by simp [kindOf] at hk⟩
    · rw [if_neg (by decide), if_pos rfl]
      have hb := hvar rfl
      have hlt : num.toNat < vars.length := by omega
      rw [List.getD_eq_getElem?_getD, List.getElem?_eq_getElem hlt]
      have := hv _ (List.getElem_mem hlt)
      exact ⟨by simp only [Option.getD_some]; omega, fun hk => by simp [kindOf] at hk⟩
  · obtain ⟨a, rfl⟩ : ∃ a, xs = [a] := List.length_eq_one_iff.1 (by omega)
    obtain ⟨hz, hka⟩ := hx a (by simp)
    have hop := arity_one h0 h1 ha
    simp only [valE, Ex.nodes, Ex.nodesL]
    rw [if_neg (by omega), if_neg (by omega)]
    by_cases hq : isQ op = true
    · rw [if_pos hq]
      have hq' : op = 13 ∨ op = 14 ∨ op = 15 := by simp only [isQ, Bool.or_eq_true, beq_iff_eq] at hq; omega
      have hi : innerV op (vars.length : Int) = ((vars.length + 1 : Nat) : Int) := by unfold innerV; rw [if_pos hq]; omega
      rw [hi] at hz
      have hc := cntTo_bd (f := fun p => valE s a (vars ++ [(p : Int)])) (n := s.n) (fun p hp => by
        have := ih a (by simp) (vars ++ [(p : Int)]) (fun x hx => by
          rcases List.mem_append.1 hx with h2 | h2
          · exact hv x h2
          · simp only [List.mem_singleton] at h2; omega) (by rw [List.length_append]; exact hz)
        exact this.2 (by rw [hka]; unfold argKind; rw [if_pos (by omega)]))
      unfold quantS
      rcases hq' with rfl | rfl | rfl
      · rw [if_pos rfl]
        have := flag_bd (cntTo (fun p => valE s a (vars ++ [(p : Int)])) s.n == (s.n : Int))
        exact ⟨by omega, fun _ => this⟩
      · rw [if_neg (by decide), if_pos rfl]
        have := flag_bd (decide (0 < cntTo (fun p => valE s a (vars ++ [(p : Int)])) s.n))
        exact ⟨by omega, fun _ => this⟩
      · rw [if_neg (by decide), if_neg (by decide)]
        exact ⟨by omega, fun hk => by simp [kindOf] at hk⟩
    · rw [if_neg hq]
      have hi : innerV op (vars.length : Int) = vars.length := by unfold innerV; rw [if_neg hq]
      rw [hi] at hz
      have hv1 := ih a (by simp) vars hv hz
      unfold oneS
      rcases hop with rfl | rfl | rfl | rfl | rfl | rfl
      · rw [if_pos rfl]
        have := atS_bd s3 (valE s a vars) s.n
        exact ⟨by omega, fun hk => by simp [kindOf] at hk⟩
      · rw [if_neg (by decide), if_pos rfl]
        have := atS_bd s4 (valE s a vars) s.n
        exact ⟨by omega, fun hk => by simp [kindOf] at hk⟩
      · rw [if_neg (by decide), if_neg (by decide)]
        have := hv1.2 (by rw [hka]; rfl)
        exact ⟨by omega, fun _ => by omega⟩
      all_goals exact absurd rfl hq
  · obtain ⟨a, b, rfl⟩ : ∃ a b, xs = [a, b] := by
      match xs, hl with
      | [], hl => rw [ha] at hl; simp at hl
      | [_], hl => rw [ha] at hl; simp at hl
      | [a, b], _ => exact ⟨a, b, rfl⟩
      | _ :: _ :: _ :: _, hl => rw [ha] at hl; simp at hl; omega
    obtain ⟨hz, hka⟩ := hx a (by simp)
    obtain ⟨hz2, hkb⟩ := hx b (by simp)
    have hop := arity_two h0 h1 ha
    have hq : ¬ isQ op = true := by simp only [isQ, Bool.or_eq_true, beq_iff_eq]; omega
    have hi : innerV op (vars.length : Int) = vars.length := by unfold innerV; rw [if_neg hq]
    rw [hi] at hz hz2
    have hv1 := ih a (by simp) vars hv hz
    have hv2 := ih b (by simp) vars hv hz2
    simp only [valE, Ex.nodes, Ex.nodesL]
    have hp1 := a.nodes_pos
    have hp2 := b.nodes_pos
    generalize valE s a vars = x at *
    generalize valE s b vars = y at *
    unfold twoS
    rcases (show op = 4 ∨ op = 5 ∨ op = 6 ∨ op = 7 ∨ op = 8 ∨ op = 9 ∨ op = 10 ∨ op = 11 by omega) with rfl | rfl | rfl | rfl | rfl | rfl | rfl | rfl
    · rw [if_pos rfl]; have := flag_bd (bitS s x y); exact ⟨by omega, fun _ => this⟩
    · rw [if_neg (by decide), if_pos rfl]; exact ⟨by omega, fun hk => by simp [kindOf] at hk⟩
    · rw [if_neg (by decide), if_neg (by decide), if_pos rfl]; exact ⟨by omega, fun hk => by simp [kindOf] at hk⟩
    · rw [if_neg (by decide), if_neg (by decide), if_neg (by decide), if_pos rfl]; have := flag_bd (x == y); exact ⟨by omega, fun _ => this⟩
    · rw [if_neg (by decide), if_neg (by decide), if_neg (by decide), if_neg (by decide), if_pos rfl]; have := flag_bd (decide (x < y)); exact ⟨by omega, fun _ => this⟩
    · rw [if_neg (by decide), if_neg (by decide), if_neg (by decide), if_neg (by decide), if_neg (by decide), if_pos rfl]; have := flag_bd (decide (x ≤ y)); exact ⟨by omega, fun _ => this⟩
    · rw [if_neg (by decide), if_neg (by decide), if_neg (by decide), if_neg (by decide), if_neg (by decide), if_neg (by decide), if_pos rfl]
      have := mul01 (hv1.2 (by rw [hka]; rfl)) (hv2.2 (by rw [hkb]; rfl))
      exact ⟨by omega, fun _ => this⟩
    · rw [if_neg (by decide), if_neg (by decide), if_neg (by decide), if_neg (by decide), if_neg (by decide), if_neg (by decide), if_neg (by decide)]; have := flag_bd (decide (0 < x + y)); exact ⟨by omega, fun _ => this⟩
end Go.Proofs.YthkididgbaamcaaGreatDoor

namespace Go.Proofs.YthkididgbaamcaaGreatDoor
open Go.RowKit

theorem Tab.get {w : World} (h : Tab w) {op : Int} (h0 : 0 ≤ op) (h1 : op < 16) : ∃ k : Nat, op = k ∧ k < 16 ∧ w.cell? ⟨0, k * 3, none⟩ = some (.int .i64 (kindOf op)) ∧ w.cell? ⟨0, k * 3 + 1, none⟩ = some (.int .i64 (arity op)) ∧
    w.cell? ⟨0, k * 3 + 2, none⟩ = some (.int .i64 (if arity op = 0 then 0 else argKind op)) := by
  obtain ⟨k, rfl⟩ := Int.eq_ofNat_of_zero_le h0
  exact ⟨k, rfl, by omega, h.2 k (by omega) 0 (by omega), h.2 k (by omega) 1 (by omega), h.2 k (by omega) 2 (by omega)⟩

set_option maxHeartbeats 2000000 in
theorem pnode_any (e : Ex) (vars : Int) (v : Value) (w : World) (hT : Tab w) (hv : ExAt w v e) :
    Calls Tryz.prog 148 #[v, .int .i64 vars] w fun e' w' => e' = .returned (.int .i64 (nodeErr e vars)) ∧ Ext w w' := by
  obtain ⟨op, num, xs⟩ := e
  obtain ⟨p, c, rfl, hc, hl, hat⟩ := hv.all_
  simp only [Ex.op, Ex.num, Ex.args] at hc hl hat ⊢
  have HAT := hide hat
  clear hv hat
  generalize hres : nodeErr (.mk op num xs) vars = res
  rw [nodeErr_mk] at hres
  have HK := hide (known_any op)
  have HTB := hide (fun W (hW : Ext w W) => hT.ext hW)
  have hE0 : Ext w (w.alloc (.cells #[.int .i64 op, .int .i64 num, .slice p xs.length c] 25)) := (Ext.refl w).alloc _
  have HB := hide (fun w1 => xbox w op num (.slice p xs.length c) (w1 := w1))
  clear hT
  cases hkn : knownB op with
  | false =>
    rw [hkn] at HK
    have h1 : arity op < 0 := by have := knownB_arity op; rw [hkn] at this; have := of_decide_eq_false this.symm; omega
    rw [if_pos h1] at hres
    have HR := hide hres
    clear hres h1 hkn
    go_enter Tryz.func148, Tryz.ntmps148
    go_wp2_with fail
    refine (HK.out _).mono ?_
    rintro e' w1 ⟨rfl, rfl⟩
    go_wp2_with fail
    go_ret
    exact ⟨ret_int HR.out, hE0⟩
  | true =>
    rw [hkn] at HK
    have hop : 0 ≤ op ∧ op < 16 := by simpa only [knownB, Bool.and_eq_true, decide_eq_true_eq] using hkn
    have ha0 : 0 ≤ arity op := by have := knownB_arity op; rw [hkn] at this; exact of_decide_eq_true this.symm
    rw [if_neg (by omega)] at hres
    clear hkn
    have HTG := hide (fun W (hW : Ext w W) => (HTB.out W hW).get hop.1 hop.2)
    obtain ⟨k, hk, hk16, -⟩ := HTG.out w (Ext.refl w)
    have HTK : Hid (∀ W, Ext w W → W.cell? ⟨0, k * 3, none⟩ = some (.int .i64 (kindOf op)) ∧ W.cell? ⟨0, k * 3 + 1, none⟩ = some (.int .i64 (arity op)) ∧ W.cell? ⟨0, k * 3 + 2, none⟩ = some (.int .i64 (if arity op = 0 then 0 else argKind op))) := fun W hW => by
      obtain ⟨k', hk', _, h⟩ := HTG.out W hW
      obtain rfl : k' = k := by omega
      exact h
    clear HTG
    have hw0 : 0 < w.heap.size := (HTB.out w (Ext.refl w)).1
    obtain ⟨a, ha⟩ : ∃ a, arity op = a := ⟨_, rfl⟩
    obtain ⟨ak, hak⟩ : ∃ ak, argKind op = ak := ⟨_, rfl⟩
    have HBA := hide (fun y => show badArg op y = (decide (0 ≤ arity y.op) && decide (kindOf y.op ≠ argKind op)) from rfl)
    generalize hbo : badArg op = bo at HBA hres
    clear hbo
    rw [ha] at hres ha0 HTK
    rw [hak] at HTK HBA
    generalize kindOf op = kk at HTK
    clear ha hak
    by_cases h2 : (xs.length : Int) ≠ a
    · rw [if_pos h2] at hres
      have HR := hide hres
      subst hk
      have d2 : ((xs.length : Int) != a) = true := by simp [h2]
      clear h2 hres
      go_enter Tryz.func148, Tryz.ntmps148
      go_wp2_with fail
      refine (HK.out _).mono ?_
      rintro e' w1 ⟨rfl, hw1⟩
      rw [← hw1] at hE0 HB
      clear hw1
      obtain ⟨c0, c1, c2, hz⟩ := HB.out _ (Ext.refl w1)
      obtain ⟨t0, t1, t2⟩ := HTK.out w1 hE0
      have hz0 : 0 < w1.heap.size := by omega
      go_wp2_with fail
      refine wp_region_ext (by kernel_rfl) (by kernel_rfl) ?_
      repeat (go_big_quiet_step (fail))
      refine wpQuiet_nil ?_
      rintro w9 ⟨⟨_, hE9⟩, rfl⟩
      go_wp2_with fail
      go_ret
      exact ⟨ret_int HR.out, hE0.trans hE9⟩
    rw [if_neg h2] at hres
    have h2' : (xs.length : Int) = a := by omega
    subst h2'
    clear h2
    have hk0 : 0 ≤ k := Nat.zero_le k
    by_cases h3 : op = 1 ∧ (num < 0 ∨ vars ≤ num)
    · rw [if_pos h3] at hres
      have HR := hide hres
      clear hres
      obtain ⟨rfl, h3⟩ := h3
      obtain rfl : k = 1 := by omega
      clear hk
      by_cases h4 : num < 0
      · skip
        go_enter Tryz.func148, Tryz.ntmps148
        go_wp2_with fail
        refine (HK.out _).mono ?_
        rintro e' w1 ⟨rfl, hw1⟩
        rw [← hw1] at hE0 HB
        clear hw1
        obtain ⟨c0, c1, c2, hz⟩ := HB.out _ (Ext.refl w1)
        obtain ⟨t0, t1, t2⟩ := HTK.out w1 hE0
        try simp only [Nat.reduceMul, Nat.reduceAdd] at t0 t1 t2
        have hz0 : 0 < w1.heap.size := by omega
        go_wp2_with fail
        refine wp_region_ext (by kernel_rfl) (by kernel_rfl) ?_
        repeat (go_big_quiet_step (fail))
        refine wpQuiet_nil ?_
        rintro w2 ⟨⟨_, hE2⟩, rfl⟩
        clear c0 c1 c2 t0 t1 t2 hz hz0
        have hEr := hE0.trans hE2
        obtain ⟨c0, c1, c2, hz⟩ := HB.out _ hE2
        go_wp2_with fail
        go_ret
        exact ⟨ret_int HR.out, hEr⟩
      · have h5 : vars ≤ num := by omega
        go_enter Tryz.func148, Tryz.ntmps148
        go_wp2_with fail
        refine (HK.out _).mono ?_
        rintro e' w1 ⟨rfl, hw1⟩
        rw [← hw1] at hE0 HB
        clear hw1
        obtain ⟨c0, c1, c2, hz⟩ := HB.out _ (Ext.refl w1)
        obtain ⟨t0, t1, t2⟩ := HTK.out w1 hE0
        try simp only [Nat.reduceMul, Nat.reduceAdd] at t0 t1 t2
        have hz0 : 0 < w1.heap.size := by omega
        go_wp2_with fail
        refine wp_region_ext (by kernel_rfl) (by kernel_rfl) ?_
        repeat (go_big_quiet_step (fail))
        refine wpQuiet_nil ?_
        rintro w2 ⟨⟨_, hE2⟩, rfl⟩
        clear c0 c1 c2 t0 t1 t2 hz hz0
        have hEr := hE0.trans hE2
        obtain ⟨c0, c1, c2, hz⟩ := HB.out _ hE2
        go_wp2_with fail
        go_ret
        exact ⟨ret_int HR.out, hEr⟩
    rw [if_neg h3] at hres
    by_cases h4 : op = 0 ∧ (num < -1048576 ∨ 1048576 < num)
    · rw [if_pos h4] at hres
      have HR := hide hres
      clear hres h3
      obtain ⟨rfl, h4⟩ := h4
      obtain rfl : k = 0 := by omega
      clear hk
      have HSM := hide (small_any num)
      have hsm : smallB num = false := by
        unfold smallB
        rcases h4 with h | h
        · rw [decide_eq_false (by omega), Bool.false_and]
        · rw [decide_eq_false (p := num ≤ 1048576) (by omega), Bool.and_false]
      rw [hsm] at HSM
      clear hsm h4
      go_enter Tryz.func148, Tryz.ntmps148
      go_wp2_with fail
      refine (HK.out _).mono ?_
      rintro e' w1 ⟨rfl, hw1⟩
      rw [← hw1] at hE0 HB
      clear hw1
      obtain ⟨c0, c1, c2, hz⟩ := HB.out _ (Ext.refl w1)
      obtain ⟨t0, t1, t2⟩ := HTK.out w1 hE0
      try simp only [Nat.reduceMul, Nat.reduceAdd] at t0 t1 t2
      have hz0 : 0 < w1.heap.size := by omega
      go_wp2_with fail
      refine wp_region_ext (by kernel_rfl) (by kernel_rfl) ?_
      repeat (go_big_quiet_step (fail))
      refine wpQuiet_nil ?_
      rintro w2 ⟨⟨_, hE2⟩, rfl⟩
      clear c0 c1 c2 t0 t1 t2 hz hz0
      have hEr := hE0.trans hE2
      obtain ⟨c0, c1, c2, hz⟩ := HB.out _ hE2
      go_wp2_with fail
      refine (HSM.out _).mono ?_
      rintro e' w3 ⟨rfl, hw3⟩
      have hE3 := hE2.trans (show Ext w2 w3 by rw [hw3]; exact Ext.refl _)
      clear hw3
      clear c0 c1 c2 hz
      have hEr := hE0.trans hE3
      obtain ⟨c0, c1, c2, hz⟩ := HB.out _ hE3
      go_wp2_with fail
      go_ret
      exact ⟨ret_int HR.out, hEr⟩
    rw [if_neg h4] at hres
    by_cases h5 : 1 < op ∧ num ≠ 0
    · rw [if_pos h5] at hres
      have HR := hide hres
      clear hres h3 h4
      subst hk
      have d1 : ((k : Int) == 1) = false := by rw [beq_eq_false_iff_ne]; omega
      have d2 : ((k : Int) == 0) = false := by rw [beq_eq_false_iff_ne]; omega
      have d3 : decide (1 < (k : Int)) = true := decide_eq_true h5.1
      have d5 : (num != 0) = true := by rw [bne_iff_ne]; omega
      clear h5
      go_enter Tryz.func148, Tryz.ntmps148
      go_wp2_with fail
      refine (HK.out _).mono ?_
      rintro e' w1 ⟨rfl, hw1⟩
      rw [← hw1] at hE0 HB
      clear hw1
      obtain ⟨c0, c1, c2, hz⟩ := HB.out _ (Ext.refl w1)
      obtain ⟨t0, t1, t2⟩ := HTK.out w1 hE0
      try simp only [Nat.reduceMul, Nat.reduceAdd] at t0 t1 t2
      have hz0 : 0 < w1.heap.size := by omega
      go_wp2_with fail
      refine wp_region_ext (by kernel_rfl) (by kernel_rfl) ?_
      repeat (go_big_quiet_step (fail))
      refine wpQuiet_nil ?_
      rintro w2 ⟨⟨_, hE2⟩, rfl⟩
      clear c0 c1 c2 t0 t1 t2 hz hz0
      have hEr := hE0.trans hE2
      obtain ⟨c0, c1, c2, hz⟩ := HB.out _ hE2
      go_wp2_with fail
      go_ret
      exact ⟨ret_int HR.out, hEr⟩
    rw [if_neg h5] at hres
    have HR := hide hres
    clear hres
    have HT : Hid (∀ i, i < xs.length → bo (xs.getD i default) = true → 9 = res) := fun i hi h => by
      have h7 := HR.out
      rw [any_true hi h] at h7
      exact h7
    have HF : Hid ((∀ i, i < xs.length → bo (xs.getD i default) = false) → 0 = res) := fun h => by
      have h7 := HR.out
      rw [any_false h] at h7
      exact h7
    clear HR
    have hcase : (op = 1 ∧ ¬ num < 0 ∧ ¬ vars ≤ num) ∨ (op = 0 ∧ ¬ num < -1048576 ∧ ¬ 1048576 < num) ∨ (1 < op ∧ num = 0) := by omega
    clear h3 h4 h5
    rcases hcase with ⟨rfl, h7, h8⟩ | ⟨rfl, h7, h8⟩ | ⟨h6, h7⟩
    · obtain rfl : k = 1 := by omega
      clear hk
      go_enter Tryz.func148, Tryz.ntmps148
      go_wp2_with fail
      refine (HK.out _).mono ?_
      rintro e' w1 ⟨rfl, hw1⟩
      rw [← hw1] at hE0 HB
      clear hw1
      obtain ⟨c0, c1, c2, hz⟩ := HB.out _ (Ext.refl w1)
      obtain ⟨t0, t1, t2⟩ := HTK.out w1 hE0
      try simp only [Nat.reduceMul, Nat.reduceAdd] at t0 t1 t2
      have hz0 : 0 < w1.heap.size := by omega
      go_wp2_with fail
      refine wp_region_ext (by kernel_rfl) (by kernel_rfl) ?_
      repeat (go_big_quiet_step (fail))
      refine wpQuiet_nil ?_
      rintro w2 ⟨⟨_, hE2⟩, rfl⟩
      clear c0 c1 c2 t0 t1 t2 hz hz0
      have hEr := hE0.trans hE2
      obtain ⟨c0, c1, c2, hz⟩ := HB.out _ hE2
      go_wp2_with fail
      clear c0 c1 c2 hz
      obtain ⟨wa, hwa⟩ : ∃ wa : World, wa = w2 := ⟨_, rfl⟩
      have hEa : Ext wa w2 := by rw [hwa]; exact Ext.refl _
      have hEb : Ext w1 wa := by rw [hwa]; exact hE2
      clear hwa
      go_loopw [59] (fun x V => ∃ (i : Nat), i ≤ xs.length ∧ x = .int .i64 i ∧ (∀ j, j < i → bo (xs.getD j default) = false) ∧ Ext wa V) (fun x _ => xs.length - (intOf x).toNat)
      case atStart => exact ⟨0, by omega, rfl, fun j hj => by omega, hEa⟩
      case round =>
        clear hEa hEr
        obtain ⟨i, hi, rfl, hj, hE⟩ := hrel
        have HJ := hide hj
        clear hj
        have hE1 := hEb.trans hE
        have hEr := hE0.trans hE1
        obtain ⟨c0, c1, c2, hz⟩ := HB.out _ hE1
        by_cases hlt : i < xs.length
        · obtain ⟨b, o, rfl, hb, hat⟩ := HAT.out (by omega)
          obtain ⟨q, d, ⟨x0, x1, x2⟩, hx⟩ := hat i hlt
          replace x0 := x0 _ hEr
          replace x1 := x1 _ hEr
          replace x2 := x2 _ hEr
          have HTI := hide (HT.out i hlt)
          have HN : Hid (bo (xs.getD i default) = false → ∀ j, j < i + 1 → bo (xs.getD j default) = false) := fun h j hj => by
            by_cases e : j = i
            · subst e; exact h
            · exact HJ.out j (by omega)
          clear hat hx HJ
          have HBY := hide (HBA.out (xs.getD i default))
          generalize xs.getD i default = y at x0 x1 x2 HTI HN HBY
          generalize bo y = bb at HTI HN HBY
          obtain ⟨yo, hyo⟩ : ∃ yo, y.op = yo := ⟨_, rfl⟩
          rw [hyo] at x0 HBY
          clear hyo
          rw [← knownB_arity] at HBY
          have HYK := hide (known_any yo)
          obtain ⟨t0, t1, t2⟩ := HTK.out wr hEr
          try simp only [Nat.reduceMul, Nat.reduceAdd] at t0 t1 t2
          rw [if_neg (by omega)] at t2
          have HTY := hide (fun h => (HTB.out wr hEr).get (op := yo) (And.left h) (And.right h))
          have hz0 : 0 < wr.heap.size := by omega
          cases hg : knownB yo with
          | false =>
            have hb := HBY.out
            rw [hg, Bool.false_and] at hb
            rw [hg] at HYK
            have HR := hide (HN.out hb)
            clear hb HBY HN HTI hg HTY
            go_wp2_with fail
            clear x0 x1 x2
            refine wp_region_ext (by kernel_rfl) (by kernel_rfl) ?_
            repeat (go_big_quiet_step ((go_at_call 123; exact Calls.ext_same (HYK.out _))))
            refine wpQuiet_nil ?_
            rintro w9 ⟨⟨_, hE9⟩, rfl⟩
            go_wp2_with fail
            go_roundw
            case rel => exact ⟨i + 1, by omega, by go_num, HR.out, (hE.alloc _).trans hE9⟩
            case measure => simp [intOf]; omega
          | true =>
            have hb := HBY.out
            rw [hg, Bool.true_and] at hb
            have hkk : (kindOf yo != ak) = bb := by rw [hb]; rw [Bool.eq_iff_iff]; simp
            rw [hg] at HYK
            have hy16 : 0 ≤ yo ∧ yo < 16 := by simpa only [knownB, Bool.and_eq_true, decide_eq_true_eq] using hg
            obtain ⟨m, hm, hm16, s0, -, -⟩ := HTY.out hy16
            generalize kindOf yo = yk at s0 hkk
            subst hm
            clear hb HBY hg HTY hy16
            go_wp2_with fail
            clear x0 x1 x2
            refine wp_region_ext (by kernel_rfl) (by kernel_rfl) ?_
            repeat (go_big_quiet_step ((go_at_call 123; exact Calls.ext_same (HYK.out _))))
            refine wpQuiet_nil ?_
            rintro w9 ⟨⟨_, hE9⟩, rfl⟩
            clear hkk s0
            cases bb
            · have HR := hide (HN.out rfl)
              go_wp2_with fail
              go_roundw
              case rel => exact ⟨i + 1, by omega, by go_num, HR.out, (hE.alloc _).trans hE9⟩
              case measure => simp [intOf]; omega
            · have HR := hide (HTI.out rfl)
              go_wp2_with fail
              go_ret
              exact ⟨ret_int HR.out, (hEr.alloc _).trans hE9⟩
        · obtain rfl : i = xs.length := by omega
          have HR := hide (HF.out HJ.out)
          go_wp2_with fail
          go_ret
          exact ⟨ret_int HR.out, hEr⟩
    · obtain rfl : k = 0 := by omega
      clear hk
      have HSM := hide (small_any num)
      have hsm : smallB num = true := by unfold smallB; rw [decide_eq_true (by omega), decide_eq_true (p := num ≤ 1048576) (by omega)]; rfl
      rw [hsm] at HSM
      clear hsm h7 h8
      go_enter Tryz.func148, Tryz.ntmps148
      go_wp2_with fail
      refine (HK.out _).mono ?_
      rintro e' w1 ⟨rfl, hw1⟩
      rw [← hw1] at hE0 HB
      clear hw1
      obtain ⟨c0, c1, c2, hz⟩ := HB.out _ (Ext.refl w1)
      obtain ⟨t0, t1, t2⟩ := HTK.out w1 hE0
      try simp only [Nat.reduceMul, Nat.reduceAdd] at t0 t1 t2
      have hz0 : 0 < w1.heap.size := by omega
      go_wp2_with fail
      refine wp_region_ext (by kernel_rfl) (by kernel_rfl) ?_
      repeat (go_big_quiet_step (fail))
      refine wpQuiet_nil ?_
      rintro w2 ⟨⟨_, hE2⟩, rfl⟩
      clear c0 c1 c2 t0 t1 t2 hz hz0
      have hEr := hE0.trans hE2
      obtain ⟨c0, c1, c2, hz⟩ := HB.out _ hE2
      go_wp2_with fail
      refine (HSM.out _).mono ?_
      rintro e' w3 ⟨rfl, hw3⟩
      have hE3 := hE2.trans (show Ext w2 w3 by rw [hw3]; exact Ext.refl _)
      clear hw3
      clear c0 c1 c2 hz
      have hEr := hE0.trans hE3
      obtain ⟨c0, c1, c2, hz⟩ := HB.out _ hE3
      go_wp2_with fail
      clear c0 c1 c2 hz
      obtain ⟨wa, hwa⟩ : ∃ wa : World, wa = w3 := ⟨_, rfl⟩
      have hEa : Ext wa w3 := by rw [hwa]; exact Ext.refl _
      have hEb : Ext w1 wa := by rw [hwa]; exact hE3
      clear hwa
      go_loopw [59] (fun x V => ∃ (i : Nat), i ≤ xs.length ∧ x = .int .i64 i ∧ (∀ j, j < i → bo (xs.getD j default) = false) ∧ Ext wa V) (fun x _ => xs.length - (intOf x).toNat)
      case atStart => exact ⟨0, by omega, rfl, fun j hj => by omega, hEa⟩
      case round =>
        clear hEa hEr
        obtain ⟨i, hi, rfl, hj, hE⟩ := hrel
        have HJ := hide hj
        clear hj
        have hE1 := hEb.trans hE
        have hEr := hE0.trans hE1
        obtain ⟨c0, c1, c2, hz⟩ := HB.out _ hE1
        by_cases hlt : i < xs.length
        · obtain ⟨b, o, rfl, hb, hat⟩ := HAT.out (by omega)
          obtain ⟨q, d, ⟨x0, x1, x2⟩, hx⟩ := hat i hlt
          replace x0 := x0 _ hEr
          replace x1 := x1 _ hEr
          replace x2 := x2 _ hEr
          have HTI := hide (HT.out i hlt)
          have HN : Hid (bo (xs.getD i default) = false → ∀ j, j < i + 1 → bo (xs.getD j default) = false) := fun h j hj => by
            by_cases e : j = i
            · subst e; exact h
            · exact HJ.out j (by omega)
          clear hat hx HJ
          have HBY := hide (HBA.out (xs.getD i default))
          generalize xs.getD i default = y at x0 x1 x2 HTI HN HBY
          generalize bo y = bb at HTI HN HBY
          obtain ⟨yo, hyo⟩ : ∃ yo, y.op = yo := ⟨_, rfl⟩
          rw [hyo] at x0 HBY
          clear hyo
          rw [← knownB_arity] at HBY
          have HYK := hide (known_any yo)
          obtain ⟨t0, t1, t2⟩ := HTK.out wr hEr
          try simp only [Nat.reduceMul, Nat.reduceAdd] at t0 t1 t2
          rw [if_neg (by omega)] at t2
          have HTY := hide (fun h => (HTB.out wr hEr).get (op := yo) (And.left h) (And.right h))
          have hz0 : 0 < wr.heap.size := by omega
          cases hg : knownB yo with
          | false =>
            have hb := HBY.out
            rw [hg, Bool.false_and] at hb
            rw [hg] at HYK
            have HR := hide (HN.out hb)
            clear hb HBY HN HTI hg HTY
            go_wp2_with fail
            clear x0 x1 x2
            refine wp_region_ext (by kernel_rfl) (by kernel_rfl) ?_
            repeat (go_big_quiet_step ((go_at_call 123; exact Calls.ext_same (HYK.out _))))
            refine wpQuiet_nil ?_
            rintro w9 ⟨⟨_, hE9⟩, rfl⟩
            go_wp2_with fail
            go_roundw
            case rel => exact ⟨i + 1, by omega, by go_num, HR.out, (hE.alloc _).trans hE9⟩
            case measure => simp [intOf]; omega
          | true =>
            have hb := HBY.out
            rw [hg, Bool.true_and] at hb
            have hkk : (kindOf yo != ak) = bb := by rw [hb]; rw [Bool.eq_iff_iff]; simp
            rw [hg] at HYK
            have hy16 : 0 ≤ yo ∧ yo < 16 := by simpa only [knownB, Bool.and_eq_true, decide_eq_true_eq] using hg
            obtain ⟨m, hm, hm16, s0, -, -⟩ := HTY.out hy16
            generalize kindOf yo = yk at s0 hkk
            subst hm
            clear hb HBY hg HTY hy16
            go_wp2_with fail
            clear x0 x1 x2
            refine wp_region_ext (by kernel_rfl) (by kernel_rfl) ?_
            repeat (go_big_quiet_step ((go_at_call 123; exact Calls.ext_same (HYK.out _))))
            refine wpQuiet_nil ?_
            rintro w9 ⟨⟨_, hE9⟩, rfl⟩
            clear hkk s0
            cases bb
            · have HR := hide (HN.out rfl)
              go_wp2_with fail
              go_roundw
              case rel => exact ⟨i + 1, by omega, by go_num, HR.out, (hE.alloc _).trans hE9⟩
              case measure => simp [intOf]; omega
            · have HR := hide (HTI.out rfl)
              go_wp2_with fail
              go_ret
              exact ⟨ret_int HR.out, (hEr.alloc _).trans hE9⟩
        · obtain rfl : i = xs.length := by omega
          have HR := hide (HF.out HJ.out)
          go_wp2_with fail
          go_ret
          exact ⟨ret_int HR.out, hEr⟩
    · subst hk
      have d1 : ((k : Int) == 1) = false := by rw [beq_eq_false_iff_ne]; omega
      have d2 : ((k : Int) == 0) = false := by rw [beq_eq_false_iff_ne]; omega
      have d3 : decide (1 < (k : Int)) = true := decide_eq_true h6
      have d5 : (num != 0) = false := by rw [h7]; rfl
      clear h6 h7
      go_enter Tryz.func148, Tryz.ntmps148
      go_wp2_with fail
      refine (HK.out _).mono ?_
      rintro e' w1 ⟨rfl, hw1⟩
      rw [← hw1] at hE0 HB
      clear hw1
      obtain ⟨c0, c1, c2, hz⟩ := HB.out _ (Ext.refl w1)
      obtain ⟨t0, t1, t2⟩ := HTK.out w1 hE0
      try simp only [Nat.reduceMul, Nat.reduceAdd] at t0 t1 t2
      have hz0 : 0 < w1.heap.size := by omega
      go_wp2_with fail
      refine wp_region_ext (by kernel_rfl) (by kernel_rfl) ?_
      repeat (go_big_quiet_step (fail))
      refine wpQuiet_nil ?_
      rintro w2 ⟨⟨_, hE2⟩, rfl⟩
      clear c0 c1 c2 t0 t1 t2 hz hz0
      have hEr := hE0.trans hE2
      obtain ⟨c0, c1, c2, hz⟩ := HB.out _ hE2
      go_wp2_with fail
      clear c0 c1 c2 hz
      obtain ⟨wa, hwa⟩ : ∃ wa : World, wa = w2 := ⟨_, rfl⟩
      have hEa : Ext wa w2 := by rw [hwa]; exact Ext.refl _
      have hEb : Ext w1 wa := by rw [hwa]; exact hE2
      clear hwa
      go_loopw [59] (fun x V => ∃ (i : Nat), i ≤ xs.length ∧ x = .int .i64 i ∧ (∀ j, j < i → bo (xs.getD j default) = false) ∧ Ext wa V) (fun x _ => xs.length - (intOf x).toNat)
      case atStart => exact ⟨0, by omega, rfl, fun j hj => by omega, hEa⟩
      case round =>
        clear hEa hEr
        obtain ⟨i, hi, rfl, hj, hE⟩ := hrel
        have HJ := hide hj
        clear hj
        have hE1 := hEb.trans hE
        have hEr := hE0.trans hE1
        obtain ⟨c0, c1, c2, hz⟩ := HB.out _ hE1
        by_cases hlt : i < xs.length
        · obtain ⟨b, o, rfl, hb, hat⟩ := HAT.out (by omega)
          obtain ⟨q, d, ⟨x0, x1, x2⟩, hx⟩ := hat i hlt
          replace x0 := x0 _ hEr
          replace x1 := x1 _ hEr
          replace x2 := x2 _ hEr
          have HTI := hide (HT.out i hlt)
          have HN : Hid (bo (xs.getD i default) = false → ∀ j, j < i + 1 → bo (xs.getD j default) = false) := fun h j hj => by
            by_cases e : j = i
            · subst e; exact h
            · exact HJ.out j (by omega)
          clear hat hx HJ
          have HBY := hide (HBA.out (xs.getD i default))
          generalize xs.getD i default = y at x0 x1 x2 HTI HN HBY
          generalize bo y = bb at HTI HN HBY
          obtain ⟨yo, hyo⟩ : ∃ yo, y.op = yo := ⟨_, rfl⟩
          rw [hyo] at x0 HBY
          clear hyo
          rw [← knownB_arity] at HBY
          have HYK := hide (known_any yo)
          obtain ⟨t0, t1, t2⟩ := HTK.out wr hEr
          try simp only [Nat.reduceMul, Nat.reduceAdd] at t0 t1 t2
          rw [if_neg (by omega)] at t2
          have HTY := hide (fun h => (HTB.out wr hEr).get (op := yo) (And.left h) (And.right h))
          have hz0 : 0 < wr.heap.size := by omega
          cases hg : knownB yo with
          | false =>
            have hb := HBY.out
            rw [hg, Bool.false_and] at hb
            rw [hg] at HYK
            have HR := hide (HN.out hb)
            clear hb HBY HN HTI hg HTY
            go_wp2_with fail
            clear x0 x1 x2
            refine wp_region_ext (by kernel_rfl) (by kernel_rfl) ?_
            repeat (go_big_quiet_step ((go_at_call 123; exact Calls.ext_same (HYK.out _))))
            refine wpQuiet_nil ?_
            rintro w9 ⟨⟨_, hE9⟩, rfl⟩
            go_wp2_with fail
            go_roundw
            case rel => exact ⟨i + 1, by omega, by go_num, HR.out, (hE.alloc _).trans hE9⟩
            case measure => simp [intOf]; omega
          | true =>
            have hb := HBY.out
            rw [hg, Bool.true_and] at hb
            have hkk : (kindOf yo != ak) = bb := by rw [hb]; rw [Bool.eq_iff_iff]; simp
            rw [hg] at HYK
            have hy16 : 0 ≤ yo ∧ yo < 16 := by simpa only [knownB, Bool.and_eq_true, decide_eq_true_eq] using hg
            obtain ⟨m, hm, hm16, s0, -, -⟩ := HTY.out hy16
            generalize kindOf yo = yk at s0 hkk
            subst hm
            clear hb HBY hg HTY hy16
            go_wp2_with fail
            clear x0 x1 x2
            refine wp_region_ext (by kernel_rfl) (by kernel_rfl) ?_
            repeat (go_big_quiet_step ((go_at_call 123; exact Calls.ext_same (HYK.out _))))
            refine wpQuiet_nil ?_
            rintro w9 ⟨⟨_, hE9⟩, rfl⟩
            clear hkk s0
            cases bb
            · have HR := hide (HN.out rfl)
              go_wp2_with fail
              go_roundw
              case rel => exact ⟨i + 1, by omega, by go_num, HR.out, (hE.alloc _).trans hE9⟩
              case measure => simp [intOf]; omega
            · have HR := hide (HTI.out rfl)
              go_wp2_with fail
              go_ret
              exact ⟨ret_int HR.out, (hEr.alloc _).trans hE9⟩
        · obtain rfl : i = xs.length := by omega
          have HR := hide (HF.out HJ.out)
          go_wp2_with fail
          go_ret
          exact ⟨ret_int HR.out, hEr⟩
end Go.Proofs.YthkididgbaamcaaGreatDoor

namespace Go.Proofs.YthkididgbaamcaaGreatDoor
open Go.RowKit


set_option maxHeartbeats 1000000 in
theorem rsize_any : ∀ (e : Ex) (v : Value) (w : World), ExAt w v e → e.nodes ≤ 1000000 →
    Calls Tryz.prog 57 #[v] w fun e' w' => e' = .returned (.tuple #[.int .i64 (e.nodes : Nat), .int .i64 (e.depth : Nat)]) ∧ Ext w w' := by
  refine Ex.ind (P := fun e => ∀ (v : Value) (w : World), ExAt w v e → e.nodes ≤ 1000000 →
    Calls Tryz.prog 57 #[v] w fun e' w' => e' = .returned (.tuple #[.int .i64 (e.nodes : Nat), .int .i64 (e.depth : Nat)]) ∧ Ext w w') ?_
  intro op num xs ih v w hv h1
  have HI := hide ih
  obtain ⟨p, c, rfl, hc, hl, hat⟩ := hv.all_
  simp only [Ex.op, Ex.num, Ex.args] at hc hl hat ⊢
  have HAT := hide hat
  clear ih hv hat
  have hnl : Ex.nodesL xs ≤ 1000000 := by simp only [Ex.nodes] at h1; omega
  have HNT := hide (fun i (hi : i < xs.length) => Ex.nodesL_take xs hi)
  have HDT := hide (fun i (hi : i < xs.length) => Ex.depthL_take xs hi)
  have HNL := hide (fun i => Nat.le_trans (Ex.nodesL_take_le xs i) hnl)
  have HDL : Hid (∀ i, Ex.depthL (xs.take i) ≤ 1000001) := fun i => by
    have h2 := Ex.depth_le (.mk op num (xs.take i))
    have h3 := HNL.out i
    simp only [Ex.depth, Ex.nodes] at h2
    omega
  have HE : Hid (Ex.nodes (.mk op num xs) = 1 + Ex.nodesL xs ∧ Ex.depth (.mk op num xs) = Ex.depthL xs + 1) := by constructor <;> simp only [Ex.nodes, Ex.depth]
  clear h1
  have hE0 : Ext w (w.alloc (.cells #[.int .i64 op, .int .i64 num, .slice p xs.length c] 25)) := (Ext.refl w).alloc _
  have HB := hide (fun w1 => xbox w op num (.slice p xs.length c) (w1 := w1))
  go_enter Tryz.func57, Tryz.ntmps57
  go_wp2_with fail
  obtain ⟨w1, hw1⟩ : ∃ w1, w.alloc (.cells #[.int .i64 op, .int .i64 num, .slice p xs.length c] 25) = w1 := ⟨_, rfl⟩
  rw [hw1] at hE0 HB
  rw [hw1]
  clear hw1
  go_loopw [4, 5, 6] (fun n m x V => ∃ (i : Nat), i ≤ xs.length ∧ x = .int .i64 i ∧ n = .int .i64 ((1 + Ex.nodesL (xs.take i) : Nat) : Int) ∧ m = .int .i64 ((Ex.depthL (xs.take i) : Nat) : Int) ∧ Ext w1 V) (fun _ _ x _ => xs.length - (intOf x).toNat)
  case atStart => exact ⟨0, by omega, rfl, rfl, rfl, Ext.refl _⟩
  case round =>
    obtain ⟨i, hi, rfl, rfl, rfl, hE⟩ := hrel
    obtain ⟨c0, c1, c2, hz⟩ := HB.out _ hE
    have hb0 := HNL.out i
    have hb1 := HDL.out i
    by_cases hlt : i < xs.length
    · obtain ⟨b, o, rfl, hb, hat⟩ := HAT.out (by omega)
      obtain ⟨q, d, ⟨x0, x1, x2⟩, hx⟩ := hat i hlt
      replace x0 := x0 _ (hE0.trans hE)
      replace x1 := x1 _ (hE0.trans hE)
      replace x2 := x2 _ (hE0.trans hE)
      have hnm := Ex.nodes_mem (mem_getD hlt)
      have HC := hide (fun W hW => HI.out _ (mem_getD hlt) _ W (hx.ext hW) (by omega))
      have hb2 := HNL.out (i + 1)
      have hb3 := HDL.out (i + 1)
      have hn1 := HNT.out i hlt
      have hd1 := HDT.out i hlt
      have hg : xs[i] = xs.getD i default := by rw [List.getD_eq_getElem?_getD, List.getElem?_eq_getElem hlt]; rfl
      rw [hg] at hn1 hd1
      clear hat hx hg
      generalize xs.getD i default = y at x0 x1 x2 HC hn1 hd1 hnm
      generalize y.nodes = yn at HC hn1 hnm
      generalize y.depth = yd at HC hd1
      generalize hq1 : Ex.nodesL (xs.take (i + 1)) = n' at hn1 hb2
      generalize hq2 : Ex.depthL (xs.take (i + 1)) = d' at hd1 hb3
      generalize Ex.nodesL (xs.take i) = n at hn1 hb0 ⊢
      generalize Ex.depthL (xs.take i) = dd at hd1 hb1 ⊢
      have HQ1 := hide (show Ex.nodesL (xs.take (i + 1)) = n + yn by rw [hq1, hn1])
      have HQ2 := hide (show Ex.depthL (xs.take (i + 1)) = max dd yd by rw [hq2, hd1])
      have hyd : yd ≤ 1000001 := by omega
      clear hq1 hq2 hn1 hd1
      go_wp2_with fail
      refine (HC.out _ (hE0.trans hE)).mono ?_
      rintro e' w3 ⟨rfl, hE3⟩
      clear c0 c1 c2 x0 x1 x2
      by_cases hk : dd < yd
      · have HM := hide (show max dd yd = yd by omega)
        go_wp2_with fail
        go_roundw
        case rel => exact ⟨i + 1, by omega, by go_num, by rw [HQ1.out]; go_num, by rw [HQ2.out, HM.out], hE.trans hE3⟩
        case measure => simp [intOf]; omega
      · have HM := hide (show max dd yd = dd by omega)
        go_wp2_with fail
        go_roundw
        case rel => exact ⟨i + 1, by omega, by go_num, by rw [HQ1.out]; go_num, by rw [HQ2.out, HM.out], hE.trans hE3⟩
        case measure => simp [intOf]; omega
    · obtain rfl : i = xs.length := by omega
      rw [List.take_length] at hb0 hb1 ⊢
      obtain ⟨he1, he2⟩ := HE.out
      generalize hr1 : Ex.nodes (.mk op num xs) = r1 at he1
      generalize hr2 : Ex.depth (.mk op num xs) = r2 at he2
      generalize Ex.nodesL xs = n at hb0 he1 ⊢
      generalize Ex.depthL xs = dd at hb1 he2 ⊢
      have HR := hide (And.intro (hr1.trans he1) (hr2.trans he2))
      clear hr1 hr2 he1 he2
      go_wp2_with fail
      go_ret2
      exact ⟨by rw [HR.out.1, HR.out.2]; rfl, hE0.trans hE⟩


set_option maxHeartbeats 1000000 in
theorem psize_any : ∀ (e : Ex) (v : Value) (w : World), ExAt w v e → e.nodes ≤ 1000000 →
    Calls Tryz.prog 121 #[v] w fun e' w' => e' = .returned (.tuple #[.int .i64 (e.nodes : Nat), .int .i64 (e.depth : Nat)]) ∧ Ext w w' := by
  refine Ex.ind (P := fun e => ∀ (v : Value) (w : World), ExAt w v e → e.nodes ≤ 1000000 →
    Calls Tryz.prog 121 #[v] w fun e' w' => e' = .returned (.tuple #[.int .i64 (e.nodes : Nat), .int .i64 (e.depth : Nat)]) ∧ Ext w w') ?_
  intro op num xs ih v w hv h1
  have HI := hide ih
  obtain ⟨p, c, rfl, hc, hl, hat⟩ := hv.all_
  simp only [Ex.op, Ex.num, Ex.args] at hc hl hat ⊢
  have HAT := hide hat
  clear ih hv hat
  have hnl : Ex.nodesL xs ≤ 1000000 := by simp only [Ex.nodes] at h1; omega
  have HNT := hide (fun i (hi : i < xs.length) => Ex.nodesL_take xs hi)
  have HDT := hide (fun i (hi : i < xs.length) => Ex.depthL_take xs hi)
  have HNL := hide (fun i => Nat.le_trans (Ex.nodesL_take_le xs i) hnl)
  have HDL : Hid (∀ i, Ex.depthL (xs.take i) ≤ 1000001) := fun i => by
    have h2 := Ex.depth_le (.mk op num (xs.take i))
    have h3 := HNL.out i
    simp only [Ex.depth, Ex.nodes] at h2
    omega
  have HE : Hid (Ex.nodes (.mk op num xs) = 1 + Ex.nodesL xs ∧ Ex.depth (.mk op num xs) = Ex.depthL xs + 1) := by constructor <;> simp only [Ex.nodes, Ex.depth]
  clear h1
  have hE0 : Ext w (w.alloc (.cells #[.int .i64 op, .int .i64 num, .slice p xs.length c] 25)) := (Ext.refl w).alloc _
  have HB := hide (fun w1 => xbox w op num (.slice p xs.length c) (w1 := w1))
  go_enter Tryz.func121, Tryz.ntmps121
  go_wp2_with fail
  obtain ⟨w1, hw1⟩ : ∃ w1, w.alloc (.cells #[.int .i64 op, .int .i64 num, .slice p xs.length c] 25) = w1 := ⟨_, rfl⟩
  rw [hw1] at hE0 HB
  rw [hw1]
  clear hw1
  go_loopw [4, 5, 13] (fun n m x V => ∃ (i : Nat), i ≤ xs.length ∧ x = .int .i64 i ∧ n = .int .i64 ((1 + Ex.nodesL (xs.take i) : Nat) : Int) ∧ m = .int .i64 ((Ex.depthL (xs.take i) : Nat) : Int) ∧ Ext w1 V) (fun _ _ x _ => xs.length - (intOf x).toNat)
  case atStart => exact ⟨0, by omega, rfl, rfl, rfl, Ext.refl _⟩
  case round =>
    obtain ⟨i, hi, rfl, rfl, rfl, hE⟩ := hrel
    obtain ⟨c0, c1, c2, hz⟩ := HB.out _ hE
    have hb0 := HNL.out i
    have hb1 := HDL.out i
    by_cases hlt : i < xs.length
    · obtain ⟨b, o, rfl, hb, hat⟩ := HAT.out (by omega)
      obtain ⟨q, d, ⟨x0, x1, x2⟩, hx⟩ := hat i hlt
      replace x0 := x0 _ (hE0.trans hE)
      replace x1 := x1 _ (hE0.trans hE)
      replace x2 := x2 _ (hE0.trans hE)
      have hnm := Ex.nodes_mem (mem_getD hlt)
      have HC := hide (fun W hW => HI.out _ (mem_getD hlt) _ W (hx.ext hW) (by omega))
      have hb2 := HNL.out (i + 1)
      have hb3 := HDL.out (i + 1)
      have hn1 := HNT.out i hlt
      have hd1 := HDT.out i hlt
      have hg : xs[i] = xs.getD i default := by rw [List.getD_eq_getElem?_getD, List.getElem?_eq_getElem hlt]; rfl
      rw [hg] at hn1 hd1
      clear hat hx hg
      generalize xs.getD i default = y at x0 x1 x2 HC hn1 hd1 hnm
      generalize y.nodes = yn at HC hn1 hnm
      generalize y.depth = yd at HC hd1
      generalize hq1 : Ex.nodesL (xs.take (i + 1)) = n' at hn1 hb2
      generalize hq2 : Ex.depthL (xs.take (i + 1)) = d' at hd1 hb3
      generalize Ex.nodesL (xs.take i) = n at hn1 hb0 ⊢
      generalize Ex.depthL (xs.take i) = dd at hd1 hb1 ⊢
      have HQ1 := hide (show Ex.nodesL (xs.take (i + 1)) = n + yn by rw [hq1, hn1])
      have HQ2 := hide (show Ex.depthL (xs.take (i + 1)) = max dd yd by rw [hq2, hd1])
      have hyd : yd ≤ 1000001 := by omega
      clear hq1 hq2 hn1 hd1
      go_wp2_with fail
      refine (HC.out _ ((hE0.trans hE).alloc _)).mono ?_
      rintro e' w3 ⟨rfl, hE3⟩
      clear c0 c1 c2 x0 x1 x2
      by_cases hk : dd < yd
      · have HM := hide (show max dd yd = yd by omega)
        go_wp2_with fail
        go_roundw
        case rel => exact ⟨i + 1, by omega, by go_num, by rw [HQ1.out]; go_num, by rw [HQ2.out, HM.out], (hE.alloc _).trans hE3⟩
        case measure => simp [intOf]; omega
      · have HM := hide (show max dd yd = dd by omega)
        go_wp2_with fail
        go_roundw
        case rel => exact ⟨i + 1, by omega, by go_num, by rw [HQ1.out]; go_num, by rw [HQ2.out, HM.out], (hE.alloc _).trans hE3⟩
        case measure => simp [intOf]; omega
    · obtain rfl : i = xs.length := by omega
      rw [List.take_length] at hb0 hb1 ⊢
      obtain ⟨he1, he2⟩ := HE.out
      generalize hr1 : Ex.nodes (.mk op num xs) = r1 at he1
      generalize hr2 : Ex.depth (.mk op num xs) = r2 at he2
      generalize Ex.nodesL xs = n at hb0 he1 ⊢
      generalize Ex.depthL xs = dd at hb1 he2 ⊢
      have HR := hide (And.intro (hr1.trans he1) (hr2.trans he2))
      clear hr1 hr2 he1 he2
      go_wp2_with fail
      go_ret2
      exact ⟨by rw [HR.out.1, HR.out.2]; rfl, hE0.trans hE⟩


set_option maxHeartbeats 1000000 in
theorem ruses_any : ∀ (e : Ex) (v : Value) (w : World), ExAt w v e → 
    Calls Tryz.prog 21 #[v] w fun e' w' => e' = .returned (.int .i64 (usesE e : Nat)) ∧ Ext w w' := by
  refine Ex.ind (P := fun e => ∀ (v : Value) (w : World), ExAt w v e → 
    Calls Tryz.prog 21 #[v] w fun e' w' => e' = .returned (.int .i64 (usesE e : Nat)) ∧ Ext w w') ?_
  intro op num xs ih v w hv
  have HI := hide ih
  obtain ⟨p, c, rfl, hc, hl, hat⟩ := hv.all_
  simp only [Ex.op, Ex.num, Ex.args] at hc hl hat ⊢
  have HAT := hide hat
  clear ih hv hat
  have HT := hide (fun i (hi : i < xs.length) => usesL_take xs hi)
  have HL := hide (fun i => usesL_lt (xs := xs.take i) (fun e _ => usesE_lt e))
  have HE := hide (show usesE (.mk op num xs) = usesL xs ||| useOf op from rfl)
  have hE0 : Ext w (w.alloc (.cells #[.int .i64 op, .int .i64 num, .slice p xs.length c] 25)) := (Ext.refl w).alloc _
  have HB := hide (fun w1 => xbox w op num (.slice p xs.length c) (w1 := w1))
  have HU8 := hide (show useOf op < 8 by unfold useOf; split <;> (try split) <;> (try split) <;> omega)
  rcases (show op = 2 ∨ op = 3 ∨ op = 4 ∨ (op ≠ 2 ∧ op ≠ 3 ∧ op ≠ 4) by omega) with rfl | rfl | rfl | ⟨ha, hb, hd⟩
  · have hu : useOf 2 = 1 := rfl
    rw [hu] at HE
    clear hu HU8
    go_enter Tryz.func21, Tryz.ntmps21
    go_wp2_with fail
    obtain ⟨w1, hw1⟩ : ∃ w1, w.alloc (.cells #[.int .i64 2, .int .i64 num, .slice p xs.length c] 25) = w1 := ⟨_, rfl⟩
    rw [hw1] at hE0 HB
    rw [hw1]
    clear hw1
    go_loopw [3, 4] (fun n x V => ∃ (i : Nat), i ≤ xs.length ∧ x = .int .i64 i ∧ n = .int .i64 ((1 ||| usesL (xs.take i) : Nat) : Int) ∧ Ext w1 V) (fun _ x _ => xs.length - (intOf x).toNat)
    case atStart => exact ⟨0, by omega, rfl, by simp [usesL], Ext.refl _⟩
    case round =>
      obtain ⟨i, hi, rfl, rfl, hE⟩ := hrel
      obtain ⟨c0, c1, c2, hz⟩ := HB.out _ hE
      have hb0 := or_lt8 (show 1 < 8 by omega) (HL.out i)
      by_cases hlt : i < xs.length
      · obtain ⟨b, o, rfl, hb, hat⟩ := HAT.out (by omega)
        obtain ⟨q, d, ⟨x0, x1, x2⟩, hx⟩ := hat i hlt
        replace x0 := x0 _ (hE0.trans hE)
        replace x1 := x1 _ (hE0.trans hE)
        replace x2 := x2 _ (hE0.trans hE)
        have HC := hide (fun W hW => HI.out _ (mem_getD hlt) _ W (hx.ext hW))
        have hn1 := HT.out i hlt
        have hy8 := usesE_lt (xs.getD i default)
        have hg : xs[i] = xs.getD i default := by rw [List.getD_eq_getElem?_getD, List.getElem?_eq_getElem hlt]; rfl
        rw [hg] at hn1
        clear hat hx hg
        have HQ := hide (show 1 ||| usesL (xs.take (i + 1)) = 1 ||| usesL (xs.take i) ||| usesE (xs.getD i default) by rw [hn1, Nat.or_assoc])
        clear hn1
        have hor := i64_or_nat (1 ||| usesL (xs.take i)) (usesE (xs.getD i default)) (by omega) (by omega)
        generalize xs.getD i default = y at x0 x1 x2 HC hy8 HQ hor
        generalize usesE y = yn at HC hy8 HQ hor
        generalize 1 ||| usesL (xs.take i) = n at hb0 HQ hor ⊢
        go_wp2_with fail
        refine (HC.out _ (hE0.trans hE)).mono ?_
        rintro e' w3 ⟨rfl, hE3⟩
        clear c0 c1 c2 x0 x1 x2
        go_wp2_with fail
        go_roundw
        case rel => exact ⟨i + 1, by omega, by go_num, by rw [HQ.out], hE.trans hE3⟩
        case measure => simp [intOf]; omega
      · obtain rfl : i = xs.length := by omega
        rw [List.take_length] at hb0 ⊢
        have hr := HE.out
        rw [Nat.or_comm] at hr
        generalize 1 ||| usesL xs = n at hb0 hr ⊢
        have HR := hide hr
        clear hr
        go_wp2_with fail
        go_ret
        exact ⟨ret_int (by rw [HR.out]), hE0.trans hE⟩
  · have hu : useOf 3 = 2 := rfl
    rw [hu] at HE
    clear hu HU8
    go_enter Tryz.func21, Tryz.ntmps21
    go_wp2_with fail
    obtain ⟨w1, hw1⟩ : ∃ w1, w.alloc (.cells #[.int .i64 3, .int .i64 num, .slice p xs.length c] 25) = w1 := ⟨_, rfl⟩
    rw [hw1] at hE0 HB
    rw [hw1]
    clear hw1
    go_loopw [3, 4] (fun n x V => ∃ (i : Nat), i ≤ xs.length ∧ x = .int .i64 i ∧ n = .int .i64 ((2 ||| usesL (xs.take i) : Nat) : Int) ∧ Ext w1 V) (fun _ x _ => xs.length - (intOf x).toNat)
    case atStart => exact ⟨0, by omega, rfl, by simp [usesL], Ext.refl _⟩
    case round =>
      obtain ⟨i, hi, rfl, rfl, hE⟩ := hrel
      obtain ⟨c0, c1, c2, hz⟩ := HB.out _ hE
      have hb0 := or_lt8 (show 2 < 8 by omega) (HL.out i)
      by_cases hlt : i < xs.length
      · obtain ⟨b, o, rfl, hb, hat⟩ := HAT.out (by omega)
        obtain ⟨q, d, ⟨x0, x1, x2⟩, hx⟩ := hat i hlt
        replace x0 := x0 _ (hE0.trans hE)
        replace x1 := x1 _ (hE0.trans hE)
        replace x2 := x2 _ (hE0.trans hE)
        have HC := hide (fun W hW => HI.out _ (mem_getD hlt) _ W (hx.ext hW))
        have hn1 := HT.out i hlt
        have hy8 := usesE_lt (xs.getD i default)
        have hg : xs[i] = xs.getD i default := by rw [List.getD_eq_getElem?_getD, List.getElem?_eq_getElem hlt]; rfl
        rw [hg] at hn1
        clear hat hx hg
        have HQ := hide (show 2 ||| usesL (xs.take (i + 1)) = 2 ||| usesL (xs.take i) ||| usesE (xs.getD i default) by rw [hn1, Nat.or_assoc])
        clear hn1
        have hor := i64_or_nat (2 ||| usesL (xs.take i)) (usesE (xs.getD i default)) (by omega) (by omega)
        generalize xs.getD i default = y at x0 x1 x2 HC hy8 HQ hor
        generalize usesE y = yn at HC hy8 HQ hor
        generalize 2 ||| usesL (xs.take i) = n at hb0 HQ hor ⊢
        go_wp2_with fail
        refine (HC.out _ (hE0.trans hE)).mono ?_
        rintro e' w3 ⟨rfl, hE3⟩
        clear c0 c1 c2 x0 x1 x2
        go_wp2_with fail
        go_roundw
        case rel => exact ⟨i + 1, by omega, by go_num, by rw [HQ.out], hE.trans hE3⟩
        case measure => simp [intOf]; omega
      · obtain rfl : i = xs.length := by omega
        rw [List.take_length] at hb0 ⊢
        have hr := HE.out
        rw [Nat.or_comm] at hr
        generalize 2 ||| usesL xs = n at hb0 hr ⊢
        have HR := hide hr
        clear hr
        go_wp2_with fail
        go_ret
        exact ⟨ret_int (by rw [HR.out]), hE0.trans hE⟩
  · have hu : useOf 4 = 4 := rfl
    rw [hu] at HE
    clear hu HU8
    go_enter Tryz.func21, Tryz.ntmps21
    go_wp2_with fail
    obtain ⟨w1, hw1⟩ : ∃ w1, w.alloc (.cells #[.int .i64 4, .int .i64 num, .slice p xs.length c] 25) = w1 := ⟨_, rfl⟩
    rw [hw1] at hE0 HB
    rw [hw1]
    clear hw1
    go_loopw [3, 4] (fun n x V => ∃ (i : Nat), i ≤ xs.length ∧ x = .int .i64 i ∧ n = .int .i64 ((4 ||| usesL (xs.take i) : Nat) : Int) ∧ Ext w1 V) (fun _ x _ => xs.length - (intOf x).toNat)
    case atStart => exact ⟨0, by omega, rfl, by simp [usesL], Ext.refl _⟩
    case round =>
      obtain ⟨i, hi, rfl, rfl, hE⟩ := hrel
      obtain ⟨c0, c1, c2, hz⟩ := HB.out _ hE
      have hb0 := or_lt8 (show 4 < 8 by omega) (HL.out i)
      by_cases hlt : i < xs.length
      · obtain ⟨b, o, rfl, hb, hat⟩ := HAT.out (by omega)
        obtain ⟨q, d, ⟨x0, x1, x2⟩, hx⟩ := hat i hlt
        replace x0 := x0 _ (hE0.trans hE)
        replace x1 := x1 _ (hE0.trans hE)
        replace x2 := x2 _ (hE0.trans hE)
        have HC := hide (fun W hW => HI.out _ (mem_getD hlt) _ W (hx.ext hW))
        have hn1 := HT.out i hlt
        have hy8 := usesE_lt (xs.getD i default)
        have hg : xs[i] = xs.getD i default := by rw [List.getD_eq_getElem?_getD, List.getElem?_eq_getElem hlt]; rfl
        rw [hg] at hn1
        clear hat hx hg
        have HQ := hide (show 4 ||| usesL (xs.take (i + 1)) = 4 ||| usesL (xs.take i) ||| usesE (xs.getD i default) by rw [hn1, Nat.or_assoc])
        clear hn1
        have hor := i64_or_nat (4 ||| usesL (xs.take i)) (usesE (xs.getD i default)) (by omega) (by omega)
        generalize xs.getD i default = y at x0 x1 x2 HC hy8 HQ hor
        generalize usesE y = yn at HC hy8 HQ hor
        generalize 4 ||| usesL (xs.take i) = n at hb0 HQ hor ⊢
        go_wp2_with fail
        refine (HC.out _ (hE0.trans hE)).mono ?_
        rintro e' w3 ⟨rfl, hE3⟩
        clear c0 c1 c2 x0 x1 x2
        go_wp2_with fail
        go_roundw
        case rel => exact ⟨i + 1, by omega, by go_num, by rw [HQ.out], hE.trans hE3⟩
        case measure => simp [intOf]; omega
      · obtain rfl : i = xs.length := by omega
        rw [List.take_length] at hb0 ⊢
        have hr := HE.out
        rw [Nat.or_comm] at hr
        generalize 4 ||| usesL xs = n at hb0 hr ⊢
        have HR := hide hr
        clear hr
        go_wp2_with fail
        go_ret
        exact ⟨ret_int (by rw [HR.out]), hE0.trans hE⟩
  · have hu : useOf op = 0 := by unfold useOf; rw [if_neg ha, if_neg hb, if_neg hd]
    have d2 : (op == 2) = false := by simp [ha]
    have d3 : (op == 3) = false := by simp [hb]
    have d4 : (op == 4) = false := by simp [hd]
    clear ha hb hd
    rw [hu] at HE
    clear hu HU8
    go_enter Tryz.func21, Tryz.ntmps21
    go_wp2_with fail
    obtain ⟨w1, hw1⟩ : ∃ w1, w.alloc (.cells #[.int .i64 op, .int .i64 num, .slice p xs.length c] 25) = w1 := ⟨_, rfl⟩
    rw [hw1] at hE0 HB
    rw [hw1]
    clear hw1
    go_loopw [3, 4] (fun n x V => ∃ (i : Nat), i ≤ xs.length ∧ x = .int .i64 i ∧ n = .int .i64 ((0 ||| usesL (xs.take i) : Nat) : Int) ∧ Ext w1 V) (fun _ x _ => xs.length - (intOf x).toNat)
    case atStart => exact ⟨0, by omega, rfl, by simp [usesL], Ext.refl _⟩
    case round =>
      obtain ⟨i, hi, rfl, rfl, hE⟩ := hrel
      obtain ⟨c0, c1, c2, hz⟩ := HB.out _ hE
      have hb0 := or_lt8 (show 0 < 8 by omega) (HL.out i)
      by_cases hlt : i < xs.length
      · obtain ⟨b, o, rfl, hb, hat⟩ := HAT.out (by omega)
        obtain ⟨q, d, ⟨x0, x1, x2⟩, hx⟩ := hat i hlt
        replace x0 := x0 _ (hE0.trans hE)
        replace x1 := x1 _ (hE0.trans hE)
        replace x2 := x2 _ (hE0.trans hE)
        have HC := hide (fun W hW => HI.out _ (mem_getD hlt) _ W (hx.ext hW))
        have hn1 := HT.out i hlt
        have hy8 := usesE_lt (xs.getD i default)
        have hg : xs[i] = xs.getD i default := by rw [List.getD_eq_getElem?_getD, List.getElem?_eq_getElem hlt]; rfl
        rw [hg] at hn1
        clear hat hx hg
        have HQ := hide (show 0 ||| usesL (xs.take (i + 1)) = 0 ||| usesL (xs.take i) ||| usesE (xs.getD i default) by rw [hn1, Nat.or_assoc])
        clear hn1
        have hor := i64_or_nat (0 ||| usesL (xs.take i)) (usesE (xs.getD i default)) (by omega) (by omega)
        generalize xs.getD i default = y at x0 x1 x2 HC hy8 HQ hor
        generalize usesE y = yn at HC hy8 HQ hor
        generalize 0 ||| usesL (xs.take i) = n at hb0 HQ hor ⊢
        go_wp2_with fail
        refine (HC.out _ (hE0.trans hE)).mono ?_
        rintro e' w3 ⟨rfl, hE3⟩
        clear c0 c1 c2 x0 x1 x2
        go_wp2_with fail
        go_roundw
        case rel => exact ⟨i + 1, by omega, by go_num, by rw [HQ.out], hE.trans hE3⟩
        case measure => simp [intOf]; omega
      · obtain rfl : i = xs.length := by omega
        rw [List.take_length] at hb0 ⊢
        have hr := HE.out
        rw [Nat.or_comm] at hr
        generalize 0 ||| usesL xs = n at hb0 hr ⊢
        have HR := hide hr
        clear hr
        go_wp2_with fail
        go_ret
        exact ⟨ret_int (by rw [HR.out]), hE0.trans hE⟩


set_option maxHeartbeats 1000000 in
theorem puses_any : ∀ (e : Ex) (v : Value) (w : World), ExAt w v e → 
    Calls Tryz.prog 97 #[v] w fun e' w' => e' = .returned (.int .i64 (usesE e : Nat)) ∧ Ext w w' := by
  refine Ex.ind (P := fun e => ∀ (v : Value) (w : World), ExAt w v e → 
    Calls Tryz.prog 97 #[v] w fun e' w' => e' = .returned (.int .i64 (usesE e : Nat)) ∧ Ext w w') ?_
  intro op num xs ih v w hv
  have HI := hide ih
  obtain ⟨p, c, rfl, hc, hl, hat⟩ := hv.all_
  simp only [Ex.op, Ex.num, Ex.args] at hc hl hat ⊢
  have HAT := hide hat
  clear ih hv hat
  have HT := hide (fun i (hi : i < xs.length) => usesL_take xs hi)
  have HL := hide (fun i => usesL_lt (xs := xs.take i) (fun e _ => usesE_lt e))
  have HE := hide (show usesE (.mk op num xs) = usesL xs ||| useOf op from rfl)
  have hE0 : Ext w (w.alloc (.cells #[.int .i64 op, .int .i64 num, .slice p xs.length c] 25)) := (Ext.refl w).alloc _
  have HB := hide (fun w1 => xbox w op num (.slice p xs.length c) (w1 := w1))
  have HU8 := hide (show useOf op < 8 by unfold useOf; split <;> (try split) <;> (try split) <;> omega)
  rcases (show op = 2 ∨ op = 3 ∨ op = 4 ∨ (op ≠ 2 ∧ op ≠ 3 ∧ op ≠ 4) by omega) with rfl | rfl | rfl | ⟨ha, hb, hd⟩
  · have hu : useOf 2 = 1 := rfl
    rw [hu] at HE
    clear hu HU8
    go_enter Tryz.func97, Tryz.ntmps97
    go_wp2_with fail
    obtain ⟨w1, hw1⟩ : ∃ w1, w.alloc (.cells #[.int .i64 2, .int .i64 num, .slice p xs.length c] 25) = w1 := ⟨_, rfl⟩
    rw [hw1] at hE0 HB
    rw [hw1]
    clear hw1
    go_loopw [3, 17] (fun n x V => ∃ (i : Nat), i ≤ xs.length ∧ x = .int .i64 i ∧ n = .int .i64 ((1 ||| usesL (xs.take i) : Nat) : Int) ∧ Ext w1 V) (fun _ x _ => xs.length - (intOf x).toNat)
    case atStart => exact ⟨0, by omega, rfl, by simp [usesL], Ext.refl _⟩
    case round =>
      obtain ⟨i, hi, rfl, rfl, hE⟩ := hrel
      obtain ⟨c0, c1, c2, hz⟩ := HB.out _ hE
      have hb0 := or_lt8 (show 1 < 8 by omega) (HL.out i)
      by_cases hlt : i < xs.length
      · obtain ⟨b, o, rfl, hb, hat⟩ := HAT.out (by omega)
        obtain ⟨q, d, ⟨x0, x1, x2⟩, hx⟩ := hat i hlt
        replace x0 := x0 _ (hE0.trans hE)
        replace x1 := x1 _ (hE0.trans hE)
        replace x2 := x2 _ (hE0.trans hE)
        have HC := hide (fun W hW => HI.out _ (mem_getD hlt) _ W (hx.ext hW))
        have hn1 := HT.out i hlt
        have hy8 := usesE_lt (xs.getD i default)
        have hg : xs[i] = xs.getD i default := by rw [List.getD_eq_getElem?_getD, List.getElem?_eq_getElem hlt]; rfl
        rw [hg] at hn1
        clear hat hx hg
        have HQ := hide (show 1 ||| usesL (xs.take (i + 1)) = 1 ||| usesL (xs.take i) ||| usesE (xs.getD i default) by rw [hn1, Nat.or_assoc])
        clear hn1
        have hor := i64_or_nat (1 ||| usesL (xs.take i)) (usesE (xs.getD i default)) (by omega) (by omega)
        generalize xs.getD i default = y at x0 x1 x2 HC hy8 HQ hor
        generalize usesE y = yn at HC hy8 HQ hor
        generalize 1 ||| usesL (xs.take i) = n at hb0 HQ hor ⊢
        go_wp2_with fail
        refine (HC.out _ ((hE0.trans hE).alloc _)).mono ?_
        rintro e' w3 ⟨rfl, hE3⟩
        clear c0 c1 c2 x0 x1 x2
        go_wp2_with fail
        go_roundw
        case rel => exact ⟨i + 1, by omega, by go_num, by rw [HQ.out], (hE.alloc _).trans hE3⟩
        case measure => simp [intOf]; omega
      · obtain rfl : i = xs.length := by omega
        rw [List.take_length] at hb0 ⊢
        have hr := HE.out
        rw [Nat.or_comm] at hr
        generalize 1 ||| usesL xs = n at hb0 hr ⊢
        have HR := hide hr
        clear hr
        go_wp2_with fail
        go_ret
        exact ⟨ret_int (by rw [HR.out]), hE0.trans hE⟩
  · have hu : useOf 3 = 2 := rfl
    rw [hu] at HE
    clear hu HU8
    go_enter Tryz.func97, Tryz.ntmps97
    go_wp2_with fail
    obtain ⟨w1, hw1⟩ : ∃ w1, w.alloc (.cells #[.int .i64 3, .int .i64 num, .slice p xs.length c] 25) = w1 := ⟨_, rfl⟩
    rw [hw1] at hE0 HB
    rw [hw1]
    clear hw1
    go_loopw [3, 17] (fun n x V => ∃ (i : Nat), i ≤ xs.length ∧ x = .int .i64 i ∧ n = .int .i64 ((2 ||| usesL (xs.take i) : Nat) : Int) ∧ Ext w1 V) (fun _ x _ => xs.length - (intOf x).toNat)
    case atStart => exact ⟨0, by omega, rfl, by simp [usesL], Ext.refl _⟩
    case round =>
      obtain ⟨i, hi, rfl, rfl, hE⟩ := hrel
      obtain ⟨c0, c1, c2, hz⟩ := HB.out _ hE
      have hb0 := or_lt8 (show 2 < 8 by omega) (HL.out i)
      by_cases hlt : i < xs.length
      · obtain ⟨b, o, rfl, hb, hat⟩ := HAT.out (by omega)
        obtain ⟨q, d, ⟨x0, x1, x2⟩, hx⟩ := hat i hlt
        replace x0 := x0 _ (hE0.trans hE)
        replace x1 := x1 _ (hE0.trans hE)
        replace x2 := x2 _ (hE0.trans hE)
        have HC := hide (fun W hW => HI.out _ (mem_getD hlt) _ W (hx.ext hW))
        have hn1 := HT.out i hlt
        have hy8 := usesE_lt (xs.getD i default)
        have hg : xs[i] = xs.getD i default := by rw [List.getD_eq_getElem?_getD, List.getElem?_eq_getElem hlt]; rfl
        rw [hg] at hn1
        clear hat hx hg
        have HQ := hide (show 2 ||| usesL (xs.take (i + 1)) = 2 ||| usesL (xs.take i) ||| usesE (xs.getD i default) by rw [hn1, Nat.or_assoc])
        clear hn1
        have hor := i64_or_nat (2 ||| usesL (xs.take i)) (usesE (xs.getD i default)) (by omega) (by omega)
        generalize xs.getD i default = y at x0 x1 x2 HC hy8 HQ hor
        generalize usesE y = yn at HC hy8 HQ hor
        generalize 2 ||| usesL (xs.take i) = n at hb0 HQ hor ⊢
        go_wp2_with fail
        refine (HC.out _ ((hE0.trans hE).alloc _)).mono ?_
        rintro e' w3 ⟨rfl, hE3⟩
        clear c0 c1 c2 x0 x1 x2
        go_wp2_with fail
        go_roundw
        case rel => exact ⟨i + 1, by omega, by go_num, by rw [HQ.out], (hE.alloc _).trans hE3⟩
        case measure => simp [intOf]; omega
      · obtain rfl : i = xs.length := by omega
        rw [List.take_length] at hb0 ⊢
        have hr := HE.out
        rw [Nat.or_comm] at hr
        generalize 2 ||| usesL xs = n at hb0 hr ⊢
        have HR := hide hr
        clear hr
        go_wp2_with fail
        go_ret
        exact ⟨ret_int (by rw [HR.out]), hE0.trans hE⟩
  · have hu : useOf 4 = 4 := rfl
    rw [hu] at HE
    clear hu HU8
    go_enter Tryz.func97, Tryz.ntmps97
    go_wp2_with fail
    obtain ⟨w1, hw1⟩ : ∃ w1, w.alloc (.cells #[.int .i64 4, .int .i64 num, .slice p xs.length c] 25) = w1 := ⟨_, rfl⟩
    rw [hw1] at hE0 HB
    rw [hw1]
    clear hw1
    go_loopw [3, 17] (fun n x V => ∃ (i : Nat), i ≤ xs.length ∧ x = .int .i64 i ∧ n = .int .i64 ((4 ||| usesL (xs.take i) : Nat) : Int) ∧ Ext w1 V) (fun _ x _ => xs.length - (intOf x).toNat)
    case atStart => exact ⟨0, by omega, rfl, by simp [usesL], Ext.refl _⟩
    case round =>
      obtain ⟨i, hi, rfl, rfl, hE⟩ := hrel
      obtain ⟨c0, c1, c2, hz⟩ := HB.out _ hE
      have hb0 := or_lt8 (show 4 < 8 by omega) (HL.out i)
      by_cases hlt : i < xs.length
      · obtain ⟨b, o, rfl, hb, hat⟩ := HAT.out (by omega)
        obtain ⟨q, d, ⟨x0, x1, x2⟩, hx⟩ := hat i hlt
        replace x0 := x0 _ (hE0.trans hE)
        replace x1 := x1 _ (hE0.trans hE)
        replace x2 := x2 _ (hE0.trans hE)
        have HC := hide (fun W hW => HI.out _ (mem_getD hlt) _ W (hx.ext hW))
        have hn1 := HT.out i hlt
        have hy8 := usesE_lt (xs.getD i default)
        have hg : xs[i] = xs.getD i default := by rw [List.getD_eq_getElem?_getD, List.getElem?_eq_getElem hlt]; rfl
        rw [hg] at hn1
        clear hat hx hg
        have HQ := hide (show 4 ||| usesL (xs.take (i + 1)) = 4 ||| usesL (xs.take i) ||| usesE (xs.getD i default) by rw [hn1, Nat.or_assoc])
        clear hn1
        have hor := i64_or_nat (4 ||| usesL (xs.take i)) (usesE (xs.getD i default)) (by omega) (by omega)
        generalize xs.getD i default = y at x0 x1 x2 HC hy8 HQ hor
        generalize usesE y = yn at HC hy8 HQ hor
        generalize 4 ||| usesL (xs.take i) = n at hb0 HQ hor ⊢
        go_wp2_with fail
        refine (HC.out _ ((hE0.trans hE).alloc _)).mono ?_
        rintro e' w3 ⟨rfl, hE3⟩
        clear c0 c1 c2 x0 x1 x2
        go_wp2_with fail
        go_roundw
        case rel => exact ⟨i + 1, by omega, by go_num, by rw [HQ.out], (hE.alloc _).trans hE3⟩
        case measure => simp [intOf]; omega
      · obtain rfl : i = xs.length := by omega
        rw [List.take_length] at hb0 ⊢
        have hr := HE.out
        rw [Nat.or_comm] at hr
        generalize 4 ||| usesL xs = n at hb0 hr ⊢
        have HR := hide hr
        clear hr
        go_wp2_with fail
        go_ret
        exact ⟨ret_int (by rw [HR.out]), hE0.trans hE⟩
  · have hu : useOf op = 0 := by unfold useOf; rw [if_neg ha, if_neg hb, if_neg hd]
    have d2 : (op == 2) = false := by simp [ha]
    have d3 : (op == 3) = false := by simp [hb]
    have d4 : (op == 4) = false := by simp [hd]
    clear ha hb hd
    rw [hu] at HE
    clear hu HU8
    go_enter Tryz.func97, Tryz.ntmps97
    go_wp2_with fail
    obtain ⟨w1, hw1⟩ : ∃ w1, w.alloc (.cells #[.int .i64 op, .int .i64 num, .slice p xs.length c] 25) = w1 := ⟨_, rfl⟩
    rw [hw1] at hE0 HB
    rw [hw1]
    clear hw1
    go_loopw [3, 17] (fun n x V => ∃ (i : Nat), i ≤ xs.length ∧ x = .int .i64 i ∧ n = .int .i64 ((0 ||| usesL (xs.take i) : Nat) : Int) ∧ Ext w1 V) (fun _ x _ => xs.length - (intOf x).toNat)
    case atStart => exact ⟨0, by omega, rfl, by simp [usesL], Ext.refl _⟩
    case round =>
      obtain ⟨i, hi, rfl, rfl, hE⟩ := hrel
      obtain ⟨c0, c1, c2, hz⟩ := HB.out _ hE
      have hb0 := or_lt8 (show 0 < 8 by omega) (HL.out i)
      by_cases hlt : i < xs.length
      · obtain ⟨b, o, rfl, hb, hat⟩ := HAT.out (by omega)
        obtain ⟨q, d, ⟨x0, x1, x2⟩, hx⟩ := hat i hlt
        replace x0 := x0 _ (hE0.trans hE)
        replace x1 := x1 _ (hE0.trans hE)
        replace x2 := x2 _ (hE0.trans hE)
        have HC := hide (fun W hW => HI.out _ (mem_getD hlt) _ W (hx.ext hW))
        have hn1 := HT.out i hlt
        have hy8 := usesE_lt (xs.getD i default)
        have hg : xs[i] = xs.getD i default := by rw [List.getD_eq_getElem?_getD, List.getElem?_eq_getElem hlt]; rfl
        rw [hg] at hn1
        clear hat hx hg
        have HQ := hide (show 0 ||| usesL (xs.take (i + 1)) = 0 ||| usesL (xs.take i) ||| usesE (xs.getD i default) by rw [hn1, Nat.or_assoc])
        clear hn1
        have hor := i64_or_nat (0 ||| usesL (xs.take i)) (usesE (xs.getD i default)) (by omega) (by omega)
        generalize xs.getD i default = y at x0 x1 x2 HC hy8 HQ hor
        generalize usesE y = yn at HC hy8 HQ hor
        generalize 0 ||| usesL (xs.take i) = n at hb0 HQ hor ⊢
        go_wp2_with fail
        refine (HC.out _ ((hE0.trans hE).alloc _)).mono ?_
        rintro e' w3 ⟨rfl, hE3⟩
        clear c0 c1 c2 x0 x1 x2
        go_wp2_with fail
        go_roundw
        case rel => exact ⟨i + 1, by omega, by go_num, by rw [HQ.out], (hE.alloc _).trans hE3⟩
        case measure => simp [intOf]; omega
      · obtain rfl : i = xs.length := by omega
        rw [List.take_length] at hb0 ⊢
        have hr := HE.out
        rw [Nat.or_comm] at hr
        generalize 0 ||| usesL xs = n at hb0 hr ⊢
        have HR := hide hr
        clear hr
        go_wp2_with fail
        go_ret
        exact ⟨ret_int (by rw [HR.out]), hE0.trans hE⟩

end Go.Proofs.YthkididgbaamcaaGreatDoor

namespace Go.Proofs.YthkididgbaamcaaGreatDoor
open Go.RowKit

theorem rinner_any (e : Ex) (vars : Int) (v : Value) (w : World) (hv : ExAt w v e) (h : -1000000 ≤ vars) (h' : vars ≤ 1000000) :
    Calls Tryz.prog 92 #[v, .int .i64 vars] w fun e' w' => e' = .returned (.int .i64 (innerV e.op vars)) ∧ Ext w w' := by
  obtain ⟨p, c, rfl, hc, hl⟩ := hv.form
  clear hv
  unfold innerV
  have HQ := hide (quant_any e.op)
  have hE0 : Ext w (w.alloc (.cells #[.int .i64 e.op, .int .i64 e.num, .slice p e.args.length c] 25)) := (Ext.refl w).alloc _
  cases hq : isQ e.op
  all_goals
    rw [hq] at HQ
    clear hq
    go_enter Tryz.func92, Tryz.ntmps92
    go_wp2_with fail
    refine (HQ.out _).mono ?_
    rintro e' w1 ⟨rfl, rfl⟩
    go_wp2_with fail
    go_ret
    exact ⟨by simp, hE0⟩
theorem innerV_bd (op vars : Int) : vars ≤ innerV op vars ∧ innerV op vars ≤ vars + 1 := by unfold innerV; split <;> omega
theorem nodesE_mk (op num : Int) (xs : List Ex) (vars : Int) : nodesE (.mk op num xs) vars = if nodeErr (.mk op num xs) vars ≠ 0 then nodeErr (.mk op num xs) vars else nodesEL xs (innerV op vars) := rfl

set_option maxHeartbeats 1000000 in
theorem rnodes_any : ∀ (e : Ex) (vars : Int) (v : Value) (w : World), ExAt w v e → 0 ≤ vars → vars + e.nodes ≤ 1000000 →
    Calls Tryz.prog 58 #[v, .int .i64 vars] w fun e' w' => e' = .returned (.int .i64 (nodesE e vars)) ∧ Ext w w' := by
  refine Ex.ind (P := fun e => ∀ (vars : Int) (v : Value) (w : World), ExAt w v e → 0 ≤ vars → vars + e.nodes ≤ 1000000 →
    Calls Tryz.prog 58 #[v, .int .i64 vars] w fun e' w' => e' = .returned (.int .i64 (nodesE e vars)) ∧ Ext w w') ?_
  intro op num xs ih vars v w hv h0 h1
  have HI := hide ih
  have HNO := hide (fun W (hW : Ext w W) => rnode_any (.mk op num xs) vars v W (hv.ext hW))
  have HIN := hide (fun W (hW : Ext w W) => rinner_any (.mk op num xs) vars v W (hv.ext hW) (by omega) (by omega))
  obtain ⟨p, c, rfl, hc, hl, hat⟩ := hv.all_
  simp only [Ex.op, Ex.num, Ex.args] at hc hl hat ⊢
  have HAT := hide hat
  clear ih hv hat
  have hnl : vars + 1 + Ex.nodesL xs ≤ 1000000 := by simp only [Ex.nodes] at h1; omega
  have hib := innerV_bd op vars
  generalize hres : nodesE (.mk op num xs) vars = res
  rw [nodesE_mk] at hres
  clear h1
  have hE0 : Ext w (w.alloc (.cells #[.int .i64 op, .int .i64 num, .slice p xs.length c] 25)) := (Ext.refl w).alloc _
  have HB := hide (fun w1 => xbox w op num (.slice p xs.length c) (w1 := w1))
  generalize nodeErr (.mk op num xs) vars = ne at HNO hres
  by_cases hne : ne ≠ 0
  · rw [if_pos hne] at hres
    have HR := hide hres
    have hd : (ne != 0) = true := by simp [hne]
    clear hres hne
    go_enter Tryz.func58, Tryz.ntmps58
    go_wp2_with fail
    refine (HNO.out _ hE0).mono ?_
    rintro e' w1 ⟨rfl, hE1⟩
    obtain ⟨c0, c1, c2, hz⟩ := HB.out _ hE1
    go_wp2_with fail
    go_ret
    exact ⟨ret_int HR.out, hE0.trans hE1⟩
  rw [if_neg hne] at hres
  have HR := hide hres
  have hd : (ne != 0) = false := by simpa using hne
  clear hres hne
  simp only [Ex.op] at HIN
  generalize innerV op vars = iv at HIN HR hib
  go_enter Tryz.func58, Tryz.ntmps58
  go_wp2_with fail
  refine (HNO.out _ hE0).mono ?_
  rintro e' w1 ⟨rfl, hE1⟩
  obtain ⟨c0, c1, c2, hz⟩ := HB.out _ hE1
  go_wp2_with fail
  clear c0 c1 c2 hz
  obtain ⟨wa, hwa⟩ : ∃ wa : World, wa = w1 := ⟨_, rfl⟩
  have hEa : Ext wa w1 := by rw [hwa]; exact Ext.refl _
  rw [← hwa] at hE1
  clear hwa
  go_loopw [6] (fun x V => ∃ (i : Nat), i ≤ xs.length ∧ x = .int .i64 i ∧ Hid (nodesEL (xs.drop i) iv = res) ∧ Ext wa V) (fun x _ => xs.length - (intOf x).toNat)
  case atStart => exact ⟨0, by omega, rfl, HR, hEa⟩
  case round =>
    clear hEa
    obtain ⟨i, hi, rfl, hr, hE⟩ := hrel
    have hE1r := hE1.trans hE
    have hEr := hE0.trans hE1r
    obtain ⟨c0, c1, c2, hz⟩ := HB.out _ hE1r
    by_cases hlt : i < xs.length
    · obtain ⟨b, o, rfl, hb, hat⟩ := HAT.out (by omega)
      obtain ⟨q, d, ⟨x0, x1, x2⟩, hx⟩ := hat i hlt
      have hbr : b < wr.heap.size := Nat.lt_of_lt_of_le hb hEr.size
      replace x0 := x0 _ hEr
      replace x1 := x1 _ hEr
      replace x2 := x2 _ hEr
      have hnm := Ex.nodes_mem (mem_getD hlt)
      have HC := hide (fun W hW => HI.out _ (mem_getD hlt) iv _ W (hx.ext hW) (by omega) (by omega))
      have hr2 := hr.out
      rw [drop_getD hlt] at hr2
      simp only [nodesEL] at hr2
      have HN := hide (fun h : nodesE (xs.getD i default) iv = 0 => (if_neg (fun h2 => h2 h)).symm.trans hr2)
      have HX := hide (fun h : nodesE (xs.getD i default) iv ≠ 0 => (if_pos h).symm.trans hr2)
      clear hat hx hr hr2 hnm
      generalize nodesE (xs.getD i default) iv = m at HC HN HX
      generalize xs.getD i default = y at x0 x1 x2 HC
      go_wp2_with fail
      refine wp_region_ext (by kernel_rfl) (by kernel_rfl) ?_
      repeat (go_big_quiet_step ((first | (go_at_call 92; exact Calls.ext_of (HIN.out _ (by simp [go_sem, hEr]))) | (go_at_call 58; exact Calls.ext_of (HC.out _ (by simp [go_sem, hEr]))))))
      refine wpQuiet_nil ?_
      rintro w9 ⟨⟨_, hE9⟩, rfl⟩
      clear c0 c1 c2 x0 x1 x2
      by_cases hm : m = 0
      · have hd2 : (m != 0) = false := by simp [hm]
        have HR2 := hide (HN.out hm)
        clear hm
        go_wp2_with fail
        go_roundw
        case rel => exact ⟨i + 1, by omega, by go_num, HR2, hE.trans hE9⟩
        case measure => simp [intOf]; omega
      · have hd2 : (m != 0) = true := by simp [hm]
        have HR2 := hide (HX.out hm)
        clear hm
        go_wp2_with fail
        go_ret
        exact ⟨ret_int HR2.out, (hE0.trans hE1).trans (hE.trans hE9)⟩
    · have hr2 := hr.out
      rw [List.drop_of_length_le (by omega)] at hr2
      have HR2 := hide (show 0 = res from hr2)
      clear hr hr2
      obtain rfl : i = xs.length := by omega
      go_wp2_with fail
      go_ret
      exact ⟨ret_int HR2.out, hEr⟩

set_option maxHeartbeats 1000000 in
theorem pnodes_any : ∀ (e : Ex) (vars : Int) (v : Value) (w : World), Tab w → ExAt w v e → 0 ≤ vars → vars + e.nodes ≤ 1000000 →
    Calls Tryz.prog 122 #[v, .int .i64 vars] w fun e' w' => e' = .returned (.int .i64 (nodesE e vars)) ∧ Ext w w' := by
  refine Ex.ind (P := fun e => ∀ (vars : Int) (v : Value) (w : World), Tab w → ExAt w v e → 0 ≤ vars → vars + e.nodes ≤ 1000000 →
    Calls Tryz.prog 122 #[v, .int .i64 vars] w fun e' w' => e' = .returned (.int .i64 (nodesE e vars)) ∧ Ext w w') ?_
  intro op num xs ih vars v w hT hv h0 h1
  have HI := hide ih
  have HNO := hide (fun W (hW : Ext w W) => pnode_any (.mk op num xs) vars v W (hT.ext hW) (hv.ext hW))
  have HTB := hide (fun W (hW : Ext w W) => hT.ext hW)
  have HQ := hide (quantifies_any op)
  clear hT
  obtain ⟨p, c, rfl, hc, hl, hat⟩ := hv.all_
  simp only [Ex.op, Ex.num, Ex.args] at hc hl hat ⊢
  have HAT := hide hat
  clear ih hv hat
  have hnl : vars + 1 + Ex.nodesL xs ≤ 1000000 := by simp only [Ex.nodes] at h1; omega
  have hib := innerV_bd op vars
  generalize hres : nodesE (.mk op num xs) vars = res
  rw [nodesE_mk] at hres
  clear h1
  have hE0 : Ext w (w.alloc (.cells #[.int .i64 op, .int .i64 num, .slice p xs.length c] 25)) := (Ext.refl w).alloc _
  have HB := hide (fun w1 => xbox w op num (.slice p xs.length c) (w1 := w1))
  generalize nodeErr (.mk op num xs) vars = ne at HNO hres
  by_cases hne : ne ≠ 0
  · rw [if_pos hne] at hres
    have HR := hide hres
    have hd : (ne != 0) = true := by simp [hne]
    clear hres hne
    go_enter Tryz.func122, Tryz.ntmps122
    go_wp2_with fail
    refine (HNO.out _ hE0).mono ?_
    rintro e' w1 ⟨rfl, hE1⟩
    obtain ⟨c0, c1, c2, hz⟩ := HB.out _ hE1
    go_wp2_with fail
    go_ret
    exact ⟨ret_int HR.out, hE0.trans hE1⟩
  rw [if_neg hne] at hres
  have HR := hide hres
  have hd : (ne != 0) = false := by simpa using hne
  clear hres hne
  have HIV := hide (show innerV op vars = (if isQ op = true then vars + 1 else vars) from rfl)
  generalize hq : isQ op = b at HQ HIV
  clear hq
  generalize innerV op vars = iv at HR hib HIV
  cases b with
  | false =>
    obtain rfl : iv = vars := HIV.out
    clear HIV
    go_enter Tryz.func122, Tryz.ntmps122
    go_wp2_with fail
    refine (HNO.out _ hE0).mono ?_
    rintro e' w0 ⟨rfl, hE1⟩
    obtain ⟨c0, c1, c2, hz⟩ := HB.out _ hE1
    go_wp2_with fail
    refine (HQ.out _).mono ?_
    rintro e' w1 ⟨rfl, hw1⟩
    have hE1 := hE1.trans (show Ext w0 w1 by rw [hw1]; exact Ext.refl _)
    clear hw1 c0 c1 c2 hz
    obtain ⟨c0, c1, c2, hz⟩ := HB.out _ hE1
    go_wp2_with fail
    clear c0 c1 c2 hz
    obtain ⟨wa, hwa⟩ : ∃ wa : World, wa = w1 := ⟨_, rfl⟩
    have hEa : Ext wa w1 := by rw [hwa]; exact Ext.refl _
    rw [← hwa] at hE1
    clear hwa
    go_loopw [23] (fun x V => ∃ (i : Nat), i ≤ xs.length ∧ x = .int .i64 i ∧ Hid (nodesEL (xs.drop i) iv = res) ∧ Ext wa V) (fun x _ => xs.length - (intOf x).toNat)
    case atStart => exact ⟨0, by omega, rfl, HR, hEa⟩
    case round =>
      clear hEa
      obtain ⟨i, hi, rfl, hr, hE⟩ := hrel
      have hE1r := hE1.trans hE
      have hEr := hE0.trans hE1r
      obtain ⟨c0, c1, c2, hz⟩ := HB.out _ hE1r
      by_cases hlt : i < xs.length
      · obtain ⟨b, o, rfl, hb, hat⟩ := HAT.out (by omega)
        obtain ⟨q, d, ⟨x0, x1, x2⟩, hx⟩ := hat i hlt
        have hbr : b < wr.heap.size := Nat.lt_of_lt_of_le hb hEr.size
        replace x0 := x0 _ hEr
        replace x1 := x1 _ hEr
        replace x2 := x2 _ hEr
        have hnm := Ex.nodes_mem (mem_getD hlt)
        have HC := hide (fun W hW => HI.out _ (mem_getD hlt) iv _ W (HTB.out W hW) (hx.ext hW) (by omega) (by omega))
        have hr2 := hr.out
        rw [drop_getD hlt] at hr2
        simp only [nodesEL] at hr2
        have HN := hide (fun h : nodesE (xs.getD i default) iv = 0 => (if_neg (fun h2 => h2 h)).symm.trans hr2)
        have HX := hide (fun h : nodesE (xs.getD i default) iv ≠ 0 => (if_pos h).symm.trans hr2)
        clear hat hx hr hr2 hnm
        generalize nodesE (xs.getD i default) iv = m at HC HN HX
        generalize xs.getD i default = y at x0 x1 x2 HC
        go_wp2_with fail
        refine (HC.out _ (hEr.alloc _)).mono ?_
        rintro e' w9 ⟨rfl, hE9⟩
        clear c0 c1 c2 x0 x1 x2
        by_cases hm : m = 0
        · have hd2 : (m != 0) = false := by simp [hm]
          have HR2 := hide (HN.out hm)
          clear hm
          go_wp2_with fail
          go_roundw
          case rel => exact ⟨i + 1, by omega, by go_num, HR2, (hE.alloc _).trans hE9⟩
          case measure => simp [intOf]; omega
        · have hd2 : (m != 0) = true := by simp [hm]
          have HR2 := hide (HX.out hm)
          clear hm
          go_wp2_with fail
          go_ret
          exact ⟨ret_int HR2.out, (hE0.trans hE1).trans ((hE.alloc _).trans hE9)⟩
      · have hr2 := hr.out
        rw [List.drop_of_length_le (by omega)] at hr2
        have HR2 := hide (show 0 = res from hr2)
        clear hr hr2
        obtain rfl : i = xs.length := by omega
        go_wp2_with fail
        go_ret
        exact ⟨ret_int HR2.out, hEr⟩
  | true =>
    obtain rfl : iv = vars + 1 := HIV.out
    clear HIV
    go_enter Tryz.func122, Tryz.ntmps122
    go_wp2_with fail
    refine (HNO.out _ hE0).mono ?_
    rintro e' w0 ⟨rfl, hE1⟩
    obtain ⟨c0, c1, c2, hz⟩ := HB.out _ hE1
    go_wp2_with fail
    refine (HQ.out _).mono ?_
    rintro e' w1 ⟨rfl, hw1⟩
    have hE1 := hE1.trans (show Ext w0 w1 by rw [hw1]; exact Ext.refl _)
    clear hw1 c0 c1 c2 hz
    obtain ⟨c0, c1, c2, hz⟩ := HB.out _ hE1
    go_wp2_with fail
    clear c0 c1 c2 hz
    obtain ⟨wa, hwa⟩ : ∃ wa : World, wa = w1 := ⟨_, rfl⟩
    have hEa : Ext wa w1 := by rw [hwa]; exact Ext.refl _
    rw [← hwa] at hE1
    clear hwa
    go_loopw [23] (fun x V => ∃ (i : Nat), i ≤ xs.length ∧ x = .int .i64 i ∧ Hid (nodesEL (xs.drop i) (vars + 1) = res) ∧ Ext wa V) (fun x _ => xs.length - (intOf x).toNat)
    case atStart => exact ⟨0, by omega, rfl, HR, hEa⟩
    case round =>
      clear hEa
      obtain ⟨i, hi, rfl, hr, hE⟩ := hrel
      have hE1r := hE1.trans hE
      have hEr := hE0.trans hE1r
      obtain ⟨c0, c1, c2, hz⟩ := HB.out _ hE1r
      by_cases hlt : i < xs.length
      · obtain ⟨b, o, rfl, hb, hat⟩ := HAT.out (by omega)
        obtain ⟨q, d, ⟨x0, x1, x2⟩, hx⟩ := hat i hlt
        have hbr : b < wr.heap.size := Nat.lt_of_lt_of_le hb hEr.size
        replace x0 := x0 _ hEr
        replace x1 := x1 _ hEr
        replace x2 := x2 _ hEr
        have hnm := Ex.nodes_mem (mem_getD hlt)
        have HC := hide (fun W hW => HI.out _ (mem_getD hlt) (vars + 1) _ W (HTB.out W hW) (hx.ext hW) (by omega) (by omega))
        have hr2 := hr.out
        rw [drop_getD hlt] at hr2
        simp only [nodesEL] at hr2
        have HN := hide (fun h : nodesE (xs.getD i default) (vars + 1) = 0 => (if_neg (fun h2 => h2 h)).symm.trans hr2)
        have HX := hide (fun h : nodesE (xs.getD i default) (vars + 1) ≠ 0 => (if_pos h).symm.trans hr2)
        clear hat hx hr hr2 hnm
        generalize nodesE (xs.getD i default) (vars + 1) = m at HC HN HX
        generalize xs.getD i default = y at x0 x1 x2 HC
        go_wp2_with fail
        refine (HC.out _ (hEr.alloc _)).mono ?_
        rintro e' w9 ⟨rfl, hE9⟩
        clear c0 c1 c2 x0 x1 x2
        by_cases hm : m = 0
        · have hd2 : (m != 0) = false := by simp [hm]
          have HR2 := hide (HN.out hm)
          clear hm
          go_wp2_with fail
          go_roundw
          case rel => exact ⟨i + 1, by omega, by go_num, HR2, (hE.alloc _).trans hE9⟩
          case measure => simp [intOf]; omega
        · have hd2 : (m != 0) = true := by simp [hm]
          have HR2 := hide (HX.out hm)
          clear hm
          go_wp2_with fail
          go_ret
          exact ⟨ret_int HR2.out, (hE0.trans hE1).trans ((hE.alloc _).trans hE9)⟩
      · have hr2 := hr.out
        rw [List.drop_of_length_le (by omega)] at hr2
        have HR2 := hide (show 0 = res from hr2)
        clear hr hr2
        obtain rfl : i = xs.length := by omega
        go_wp2_with fail
        go_ret
        exact ⟨ret_int HR2.out, hEr⟩

set_option maxHeartbeats 1000000 in
theorem rexcheck_any (e : Ex) (vars : Int) (v : Value) (w : World) (hv : ExAt w v e) (hn : e.nodes ≤ 100000) :
    Calls Tryz.prog 19 #[v, .int .i64 vars] w fun e' w' => e' = .returned (.int .i64 (exchk e vars)) ∧ Ext w w' := by
  have HS := hide (fun W (hW : Ext w W) => rsize_any e v W (hv.ext hW) (by omega))
  have HNO := hide (fun W (hW : Ext w W) h0 h1 => rnodes_any e vars v W (hv.ext hW) h0 h1)
  have hd := Ex.depth_le e
  obtain ⟨p, c, rfl, hc, hl⟩ := hv.form
  clear hv
  have hE0 : Ext w (w.alloc (.cells #[.int .i64 e.op, .int .i64 e.num, .slice p e.args.length c] 25)) := (Ext.refl w).alloc _
  have HB := hide (fun w1 => xbox w e.op e.num (.slice p e.args.length c) (w1 := w1))
  generalize hres : exchk e vars = res
  unfold exchk at hres
  by_cases h1 : vars < 0 ∨ 24 < vars
  · rw [if_pos h1] at hres
    have HR := hide hres
    clear hres
    rcases h1 with h1 | h1
    · go_enter Tryz.func19, Tryz.ntmps19
      go_wp2_with fail
      go_ret
      exact ⟨ret_int HR.out, hE0⟩
    · have h2 : ¬ vars < 0 := by omega
      go_enter Tryz.func19, Tryz.ntmps19
      go_wp2_with fail
      go_ret
      exact ⟨ret_int HR.out, hE0⟩
  rw [if_neg h1] at hres
  have d1 : ¬ vars < 0 := by omega
  have d2 : ¬ 24 < vars := by omega
  have hno := fun W hW => HNO.out W hW (by omega) (by omega)
  have HNP := hide hno
  clear hno h1 HNO
  generalize e.nodes = n at *
  generalize e.depth = dd at *
  generalize nodesE e vars = m at *
  by_cases h3 : 128 < n
  · rw [if_pos h3] at hres
    have HR := hide hres
    clear hres
    go_enter Tryz.func19, Tryz.ntmps19
    go_wp2_with fail
    refine (HS.out _ hE0).mono ?_
    rintro e' w1 ⟨rfl, hE⟩
    go_wp2_with fail
    go_ret
    exact ⟨ret_int HR.out, hE0.trans hE⟩
  rw [if_neg h3] at hres
  by_cases h4 : 24 < dd
  · rw [if_pos h4] at hres
    have HR := hide hres
    clear hres
    go_enter Tryz.func19, Tryz.ntmps19
    go_wp2_with fail
    refine (HS.out _ hE0).mono ?_
    rintro e' w1 ⟨rfl, hE⟩
    go_wp2_with fail
    go_ret
    exact ⟨ret_int HR.out, hE0.trans hE⟩
  rw [if_neg h4] at hres
  have HR := hide hres
  clear hres
  go_enter Tryz.func19, Tryz.ntmps19
  go_wp2_with fail
  refine (HS.out _ hE0).mono ?_
  rintro e' w1 ⟨rfl, hE⟩
  obtain ⟨c0, c1, c2, hz⟩ := HB.out _ hE
  go_wp2_with fail
  refine (HNP.out _ (hE0.trans hE)).mono ?_
  rintro e' w2 ⟨rfl, hE2⟩
  go_wp2_with fail
  go_ret
  exact ⟨ret_int HR.out, (hE0.trans hE).trans hE2⟩

set_option maxHeartbeats 1000000 in
theorem pexcheck_any (e : Ex) (vars : Int) (v : Value) (w : World) (hT : Tab w) (hv : ExAt w v e) (hn : e.nodes ≤ 100000) :
    Calls Tryz.prog 95 #[v, .int .i64 vars] w fun e' w' => e' = .returned (.int .i64 (exchk e vars)) ∧ Ext w w' := by
  have HS := hide (fun W (hW : Ext w W) => psize_any e v W (hv.ext hW) (by omega))
  have HNO := hide (fun W (hW : Ext w W) h0 h1 => pnodes_any e vars v W (hT.ext hW) (hv.ext hW) h0 h1)
  have hd := Ex.depth_le e
  obtain ⟨p, c, rfl, hc, hl⟩ := hv.form
  clear hv hT
  have hE0 : Ext w (w.alloc (.cells #[.int .i64 e.op, .int .i64 e.num, .slice p e.args.length c] 25)) := (Ext.refl w).alloc _
  have HB := hide (fun w1 => xbox w e.op e.num (.slice p e.args.length c) (w1 := w1))
  generalize hres : exchk e vars = res
  unfold exchk at hres
  by_cases h1 : vars < 0 ∨ 24 < vars
  · rw [if_pos h1] at hres
    have HR := hide hres
    clear hres
    rcases h1 with h1 | h1
    · go_enter Tryz.func95, Tryz.ntmps95
      go_wp2_with fail
      go_ret
      exact ⟨ret_int HR.out, hE0⟩
    · have h2 : ¬ vars < 0 := by omega
      go_enter Tryz.func95, Tryz.ntmps95
      go_wp2_with fail
      go_ret
      exact ⟨ret_int HR.out, hE0⟩
  rw [if_neg h1] at hres
  have d1 : ¬ vars < 0 := by omega
  have d2 : ¬ 24 < vars := by omega
  have hno := fun W hW => HNO.out W hW (by omega) (by omega)
  have HNP := hide hno
  clear hno h1 HNO
  generalize e.nodes = n at *
  generalize e.depth = dd at *
  generalize nodesE e vars = m at *
  by_cases h3 : 128 < n
  · rw [if_pos h3] at hres
    have HR := hide hres
    clear hres
    go_enter Tryz.func95, Tryz.ntmps95
    go_wp2_with fail
    refine (HS.out _ hE0).mono ?_
    rintro e' w1 ⟨rfl, hE⟩
    go_wp2_with fail
    go_ret
    exact ⟨ret_int HR.out, hE0.trans hE⟩
  rw [if_neg h3] at hres
  by_cases h4 : 24 < dd
  · rw [if_pos h4] at hres
    have HR := hide hres
    clear hres
    go_enter Tryz.func95, Tryz.ntmps95
    go_wp2_with fail
    refine (HS.out _ hE0).mono ?_
    rintro e' w1 ⟨rfl, hE⟩
    go_wp2_with fail
    go_ret
    exact ⟨ret_int HR.out, hE0.trans hE⟩
  rw [if_neg h4] at hres
  have HR := hide hres
  clear hres
  go_enter Tryz.func95, Tryz.ntmps95
  go_wp2_with fail
  refine (HS.out _ hE0).mono ?_
  rintro e' w1 ⟨rfl, hE⟩
  obtain ⟨c0, c1, c2, hz⟩ := HB.out _ hE
  go_wp2_with fail
  refine (HNP.out _ (hE0.trans hE)).mono ?_
  rintro e' w2 ⟨rfl, hE2⟩
  go_wp2_with fail
  go_ret
  exact ⟨ret_int HR.out, (hE0.trans hE).trans hE2⟩

/-- The kind, or an error. -/
def kindE (op : Int) : Int × Int := if arity op < 0 then (0, 1) else (kindOf op, 0)
theorem rkind_any (e : Ex) (v : Value) (w : World) (hv : ExAt w v e) :
    Calls Tryz.prog 20 #[v] w fun e' w' => e' = .returned (.tuple #[.int .i64 (kindE e.op).1, .int .i64 (kindE e.op).2]) ∧ Ext w w' := by
  obtain ⟨p, c, rfl, hc, hl⟩ := hv.form
  clear hv
  have hE0 : Ext w (w.alloc (.cells #[.int .i64 e.op, .int .i64 e.num, .slice p e.args.length c] 25)) := (Ext.refl w).alloc _
  have HA := hide (rarity_any e.op)
  have HK := hide (rkindof_any e.op)
  unfold kindE
  by_cases h : arity e.op < 0
  · rw [if_pos h]
    generalize arity e.op = a at *
    go_enter Tryz.func20, Tryz.ntmps20
    go_wp2_with fail
    refine (HA.out _).mono ?_
    rintro e' w1 ⟨rfl, rfl⟩
    go_wp2_with fail
    go_ret2
    exact ⟨rfl, hE0⟩
  · rw [if_neg h]
    generalize arity e.op = a at *
    generalize kindOf e.op = k at *
    go_enter Tryz.func20, Tryz.ntmps20
    go_wp2_with fail
    refine (HA.out _).mono ?_
    rintro e' w1 ⟨rfl, rfl⟩
    go_wp2_with fail
    refine (HK.out _).mono ?_
    rintro e' w1 ⟨rfl, rfl⟩
    go_wp2_with fail
    go_ret2
    exact ⟨rfl, hE0⟩
theorem pkind_any (e : Ex) (v : Value) (w : World) (hT : Tab w) (hv : ExAt w v e) :
    Calls Tryz.prog 96 #[v] w fun e' w' => e' = .returned (.tuple #[.int .i64 (kindE e.op).1, .int .i64 (kindE e.op).2]) ∧ Ext w w' := by
  obtain ⟨p, c, rfl, hc, hl⟩ := hv.form
  clear hv
  generalize e.op = op
  generalize e.num = num
  have hE0 : Ext w (w.alloc (.cells #[.int .i64 op, .int .i64 num, .slice p e.args.length c] 25)) := (Ext.refl w).alloc _
  have HA := hide (known_any op)
  unfold kindE
  cases hk : knownB op with
  | false =>
    have h1 : arity op < 0 := by have := knownB_arity op; rw [hk] at this; have := of_decide_eq_false this.symm; omega
    rw [if_pos h1]
    rw [hk] at HA
    clear h1 hk
    go_enter Tryz.func96, Tryz.ntmps96
    go_wp2_with fail
    refine (HA.out _).mono ?_
    rintro e' w1 ⟨rfl, rfl⟩
    go_wp2_with fail
    go_ret2
    exact ⟨rfl, hE0⟩
  | true =>
    have h1 : 0 ≤ arity op := by have := knownB_arity op; rw [hk] at this; exact of_decide_eq_true this.symm
    have hop : 0 ≤ op ∧ op < 16 := by simpa only [knownB, Bool.and_eq_true, decide_eq_true_eq] using hk
    rw [if_neg (by omega)]
    rw [hk] at HA
    obtain ⟨m, hm, hm16, s0, -, -⟩ := (hT.ext hE0).get hop.1 hop.2
    have hz0 := (hT.ext hE0).1
    generalize kindOf op = k at s0 ⊢
    subst hm
    clear h1 hk hT hop
    go_enter Tryz.func96, Tryz.ntmps96
    go_wp2_with fail
    refine (HA.out _).mono ?_
    rintro e' w1 ⟨rfl, hw1⟩
    go_wp2_with fail
    go_ret2
    exact ⟨rfl, by first | exact hE0 | (rw [hw1]; exact hE0)⟩
end Go.Proofs.YthkididgbaamcaaGreatDoor
