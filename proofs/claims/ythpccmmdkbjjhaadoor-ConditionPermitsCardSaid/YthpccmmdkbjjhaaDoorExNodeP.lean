/-
  The error of a node, of the program.
  Conditions: as each theorem states.
-/
import Derived.Test.YthpccmmdkbjjhaaDoorExNode
namespace Go.Proofs.YthpccmmdkbjjhaaDoor
open Go.RowKit

theorem Tab.get {w : World} (h : Tab w) {op : Int} (h0 : 0 ≤ op) (h1 : op < 16) : ∃ k : Nat, op = k ∧ k < 16 ∧ w.cell? ⟨0, k * 3, none⟩ = some (.int .i64 (kindOf op)) ∧ w.cell? ⟨0, k * 3 + 1, none⟩ = some (.int .i64 (arity op)) ∧
    w.cell? ⟨0, k * 3 + 2, none⟩ = some (.int .i64 (if arity op = 0 then 0 else argKind op)) := by
  obtain ⟨k, rfl⟩ := Int.eq_ofNat_of_zero_le h0
  exact ⟨k, rfl, by omega, h.2 k (by omega) 0 (by omega), h.2 k (by omega) 1 (by omega), h.2 k (by omega) 2 (by omega)⟩

set_option maxHeartbeats 2000000 in
theorem pnode_any (e : Ex) (vars : Int) (v : Value) (w : World) (hT : Tab w) (hv : ExAt w v e) :
    Calls Tryd.prog 139 #[v, .int .i64 vars] w fun e' w' => e' = .returned (.int .i64 (nodeErr e vars)) ∧ Ext w w' := by
  obtain ⟨op, num, xs⟩ := e
  obtain ⟨p, c, rfl, hc, hl, hat⟩ := hv.all_
  simp only [Ex.op, Ex.num, Ex.args] at hc hl hat ⊢
  have HAT := hide hat
  clear hv hat
  generalize hres : nodeErr (.mk op num xs) vars = res
  rw [nodeErr_mk] at hres
  have HK := hide (known_any op)
  have HTB := hide (fun W (hW : Ext w W) => hT.ext hW)
  have hE0 : Ext w (w.alloc (.cells #[.int .i64 op, .int .i64 num, .slice p xs.length c] 26)) := (Ext.refl w).alloc _
  have HB := hide (fun w1 => xbox w op num (.slice p xs.length c) (w1 := w1))
  clear hT
  cases hkn : knownB op with
  | false =>
    rw [hkn] at HK
    have h1 : arity op < 0 := by have := knownB_arity op; rw [hkn] at this; have := of_decide_eq_false this.symm; omega
    rw [if_pos h1] at hres
    have HR := hide hres
    clear hres h1 hkn
    go_enter Tryd.func139, Tryd.ntmps139
    go_wp2_with fail
    refine (HK.out _).mono ?_
    rintro e' w1 ⟨rfl, rfl⟩
    go_wp2_with fail
    go_ret
    exact ⟨ret_int HR.out, hE0⟩
  | true =>
    rw [hkn] at HK
    have hop : 0 ≤ op ∧ op < 16 := by simpa only [knownB, Bool.and_eq_true, decide_eq_true_eq] using hkn
    have ha0 : 0 ≤ arity op := by have := knownB_arity op; rw [hkn] at this; exact of_decide_eq_true this.symm
    rw [if_neg (by omega)] at hres
    clear hkn
    have HTG := hide (fun W (hW : Ext w W) => (HTB.out W hW).get hop.1 hop.2)
    obtain ⟨k, hk, hk16, -⟩ := HTG.out w (Ext.refl w)
    have HTK : Hid (∀ W, Ext w W → W.cell? ⟨0, k * 3, none⟩ = some (.int .i64 (kindOf op)) ∧ W.cell? ⟨0, k * 3 + 1, none⟩ = some (.int .i64 (arity op)) ∧ W.cell? ⟨0, k * 3 + 2, none⟩ = some (.int .i64 (if arity op = 0 then 0 else argKind op))) := fun W hW => by
      obtain ⟨k', hk', _, h⟩ := HTG.out W hW
      obtain rfl : k' = k := by omega
      exact h
    clear HTG
    have hw0 : 0 < w.heap.size := (HTB.out w (Ext.refl w)).1
    obtain ⟨a, ha⟩ : ∃ a, arity op = a := ⟨_, rfl⟩
    obtain ⟨ak, hak⟩ : ∃ ak, argKind op = ak := ⟨_, rfl⟩
    have HBA := hide (fun y => show badArg op y = (decide (0 ≤ arity y.op) && decide (kindOf y.op ≠ argKind op)) from rfl)
    generalize hbo : badArg op = bo at HBA hres
    clear hbo
    rw [ha] at hres ha0 HTK
    rw [hak] at HTK HBA
    generalize kindOf op = kk at HTK
    clear ha hak
    by_cases h2 : (xs.length : Int) ≠ a
    · rw [if_pos h2] at hres
      have HR := hide hres
      subst hk
      have d2 : ((xs.length : Int) != a) = true := by simp [h2]
      clear h2 hres
      go_enter Tryd.func139, Tryd.ntmps139
      go_wp2_with fail
      refine (HK.out _).mono ?_
      rintro e' w1 ⟨rfl, hw1⟩
      rw [← hw1] at hE0 HB
      clear hw1
      obtain ⟨c0, c1, c2, hz⟩ := HB.out _ (Ext.refl w1)
      obtain ⟨t0, t1, t2⟩ := HTK.out w1 hE0
      have hz0 : 0 < w1.heap.size := by omega
      go_wp2_with fail
      refine wp_region_ext (by kernel_rfl) (by kernel_rfl) ?_
      repeat (go_big_quiet_step (fail))
      refine wpQuiet_nil ?_
      rintro w9 ⟨⟨_, hE9⟩, rfl⟩
      go_wp2_with fail
      go_ret
      exact ⟨ret_int HR.out, hE0.trans hE9⟩
    rw [if_neg h2] at hres
    have h2' : (xs.length : Int) = a := by omega
    subst h2'
    clear h2
    have hk0 : 0 ≤ k := Nat.zero_le k
    by_cases h3 : op = 1 ∧ (num < 0 ∨ vars ≤ num)
    · rw [if_pos h3] at hres
      have HR := hide hres
      clear hres
      obtain ⟨rfl, h3⟩ := h3
      obtain rfl : k = 1 := by omega
      clear hk
      by_cases h4 : num < 0
      · skip
        go_enter Tryd.func139, Tryd.ntmps139
        go_wp2_with fail
        refine (HK.out _).mono ?_
        rintro e' w1 ⟨rfl, hw1⟩
        rw [← hw1] at hE0 HB
        clear hw1
        obtain ⟨c0, c1, c2, hz⟩ := HB.out _ (Ext.refl w1)
        obtain ⟨t0, t1, t2⟩ := HTK.out w1 hE0
        try simp only [Nat.reduceMul, Nat.reduceAdd] at t0 t1 t2
        have hz0 : 0 < w1.heap.size := by omega
        go_wp2_with fail
        refine wp_region_ext (by kernel_rfl) (by kernel_rfl) ?_
        repeat (go_big_quiet_step (fail))
        refine wpQuiet_nil ?_
        rintro w2 ⟨⟨_, hE2⟩, rfl⟩
        clear c0 c1 c2 t0 t1 t2 hz hz0
        have hEr := hE0.trans hE2
        obtain ⟨c0, c1, c2, hz⟩ := HB.out _ hE2
        go_wp2_with fail
        go_ret
        exact ⟨ret_int HR.out, hEr⟩
      · have h5 : vars ≤ num := by omega
        go_enter Tryd.func139, Tryd.ntmps139
        go_wp2_with fail
        refine (HK.out _).mono ?_
        rintro e' w1 ⟨rfl, hw1⟩
        rw [← hw1] at hE0 HB
        clear hw1
        obtain ⟨c0, c1, c2, hz⟩ := HB.out _ (Ext.refl w1)
        obtain ⟨t0, t1, t2⟩ := HTK.out w1 hE0
        try simp only [Nat.reduceMul, Nat.reduceAdd] at t0 t1 t2
        have hz0 : 0 < w1.heap.size := by omega
        go_wp2_with fail
        refine wp_region_ext (by kernel_rfl) (by kernel_rfl) ?_
        repeat (go_big_quiet_step (fail))
        refine wpQuiet_nil ?_
        rintro w2 ⟨⟨_, hE2⟩, rfl⟩
        clear c0 c1 c2 t0 t1 t2 hz hz0
        have hEr := hE0.trans hE2
        obtain ⟨c0, c1, c2, hz⟩ := HB.out _ hE2
        go_wp2_with fail
        go_ret
        exact ⟨ret_int HR.out, hEr⟩
    rw [if_neg h3] at hres
    by_cases h4 : op = 0 ∧ (num < -1048576 ∨ 1048576 < num)
    · rw [if_pos h4] at hres
      have HR := hide hres
      clear hres h3
      obtain ⟨rfl, h4⟩ := h4
      obtain rfl : k = 0 := by omega
      clear hk
      have HSM := hide (small_any num)
      have hsm : smallB num = false := by
        unfold smallB
        rcases h4 with h | h
        · rw [decide_eq_false (by omega), Bool.false_and]
        · rw [decide_eq_false (p := num ≤ 1048576) (by omega), Bool.and_false]
      rw [hsm] at HSM
      clear hsm h4
      go_enter Tryd.func139, Tryd.ntmps139
      go_wp2_with fail
      refine (HK.out _).mono ?_
      rintro e' w1 ⟨rfl, hw1⟩
      rw [← hw1] at hE0 HB
      clear hw1
      obtain ⟨c0, c1, c2, hz⟩ := HB.out _ (Ext.refl w1)
      obtain ⟨t0, t1, t2⟩ := HTK.out w1 hE0
      try simp only [Nat.reduceMul, Nat.reduceAdd] at t0 t1 t2
      have hz0 : 0 < w1.heap.size := by omega
      go_wp2_with fail
      refine wp_region_ext (by kernel_rfl) (by kernel_rfl) ?_
      repeat (go_big_quiet_step (fail))
      refine wpQuiet_nil ?_
      rintro w2 ⟨⟨_, hE2⟩, rfl⟩
      clear c0 c1 c2 t0 t1 t2 hz hz0
      have hEr := hE0.trans hE2
      obtain ⟨c0, c1, c2, hz⟩ := HB.out _ hE2
      go_wp2_with fail
      refine (HSM.out _).mono ?_
      rintro e' w3 ⟨rfl, hw3⟩
      have hE3 := hE2.trans (show Ext w2 w3 by rw [hw3]; exact Ext.refl _)
      clear hw3
      clear c0 c1 c2 hz
      have hEr := hE0.trans hE3
      obtain ⟨c0, c1, c2, hz⟩ := HB.out _ hE3
      go_wp2_with fail
      go_ret
      exact ⟨ret_int HR.out, hEr⟩
    rw [if_neg h4] at hres
    by_cases h5 : 1 < op ∧ num ≠ 0
    · rw [if_pos h5] at hres
      have HR := hide hres
      clear hres h3 h4
      subst hk
      have d1 : ((k : Int) == 1) = false := by rw [beq_eq_false_iff_ne]; omega
      have d2 : ((k : Int) == 0) = false := by rw [beq_eq_false_iff_ne]; omega
      have d3 : decide (1 < (k : Int)) = true := decide_eq_true h5.1
      have d5 : (num != 0) = true := by rw [bne_iff_ne]; omega
      clear h5
      go_enter Tryd.func139, Tryd.ntmps139
      go_wp2_with fail
      refine (HK.out _).mono ?_
      rintro e' w1 ⟨rfl, hw1⟩
      rw [← hw1] at hE0 HB
      clear hw1
      obtain ⟨c0, c1, c2, hz⟩ := HB.out _ (Ext.refl w1)
      obtain ⟨t0, t1, t2⟩ := HTK.out w1 hE0
      try simp only [Nat.reduceMul, Nat.reduceAdd] at t0 t1 t2
      have hz0 : 0 < w1.heap.size := by omega
      go_wp2_with fail
      refine wp_region_ext (by kernel_rfl) (by kernel_rfl) ?_
      repeat (go_big_quiet_step (fail))
      refine wpQuiet_nil ?_
      rintro w2 ⟨⟨_, hE2⟩, rfl⟩
      clear c0 c1 c2 t0 t1 t2 hz hz0
      have hEr := hE0.trans hE2
      obtain ⟨c0, c1, c2, hz⟩ := HB.out _ hE2
      go_wp2_with fail
      go_ret
      exact ⟨ret_int HR.out, hEr⟩
    rw [if_neg h5] at hres
    have HR := hide hres
    clear hres
    have HT : Hid (∀ i, i < xs.length → bo (xs.getD i default) = true → 9 = res) := fun i hi h => by
      have h7 := HR.out
      rw [any_true hi h] at h7
      exact h7
    have HF : Hid ((∀ i, i < xs.length → bo (xs.getD i default) = false) → 0 = res) := fun h => by
      have h7 := HR.out
      rw [any_false h] at h7
      exact h7
    clear HR
    have hcase : (op = 1 ∧ ¬ num < 0 ∧ ¬ vars ≤ num) ∨ (op = 0 ∧ ¬ num < -1048576 ∧ ¬ 1048576 < num) ∨ (1 < op ∧ num = 0) := by omega
    clear h3 h4 h5
    rcases hcase with ⟨rfl, h7, h8⟩ | ⟨rfl, h7, h8⟩ | ⟨h6, h7⟩
    · obtain rfl : k = 1 := by omega
      clear hk
      go_enter Tryd.func139, Tryd.ntmps139
      go_wp2_with fail
      refine (HK.out _).mono ?_
      rintro e' w1 ⟨rfl, hw1⟩
      rw [← hw1] at hE0 HB
      clear hw1
      obtain ⟨c0, c1, c2, hz⟩ := HB.out _ (Ext.refl w1)
      obtain ⟨t0, t1, t2⟩ := HTK.out w1 hE0
      try simp only [Nat.reduceMul, Nat.reduceAdd] at t0 t1 t2
      have hz0 : 0 < w1.heap.size := by omega
      go_wp2_with fail
      refine wp_region_ext (by kernel_rfl) (by kernel_rfl) ?_
      repeat (go_big_quiet_step (fail))
      refine wpQuiet_nil ?_
      rintro w2 ⟨⟨_, hE2⟩, rfl⟩
      clear c0 c1 c2 t0 t1 t2 hz hz0
      have hEr := hE0.trans hE2
      obtain ⟨c0, c1, c2, hz⟩ := HB.out _ hE2
      go_wp2_with fail
      clear c0 c1 c2 hz
      obtain ⟨wa, hwa⟩ : ∃ wa : World, wa = w2 := ⟨_, rfl⟩
      have hEa : Ext wa w2 := by rw [hwa]; exact Ext.refl _
      have hEb : Ext w1 wa := by rw [hwa]; exact hE2
      clear hwa
      go_loopw [59] (fun x V => ∃ (i : Nat), i ≤ xs.length ∧ x = .int .i64 i ∧ (∀ j, j < i → bo (xs.getD j default) = false) ∧ Ext wa V) (fun x _ => xs.length - (intOf x).toNat)
      case atStart => exact ⟨0, by omega, rfl, fun j hj => by omega, hEa⟩
      case round =>
        clear hEa hEr
        obtain ⟨i, hi, rfl, hj, hE⟩ := hrel
        have HJ := hide hj
        clear hj
        have hE1 := hEb.trans hE
        have hEr := hE0.trans hE1
        obtain ⟨c0, c1, c2, hz⟩ := HB.out _ hE1
        by_cases hlt : i < xs.length
        · obtain ⟨b, o, rfl, hb, hat⟩ := HAT.out (by omega)
          obtain ⟨q, d, ⟨x0, x1, x2⟩, hx⟩ := hat i hlt
          replace x0 := x0 _ hEr
          replace x1 := x1 _ hEr
          replace x2 := x2 _ hEr
          have HTI := hide (HT.out i hlt)
          have HN : Hid (bo (xs.getD i default) = false → ∀ j, j < i + 1 → bo (xs.getD j default) = false) := fun h j hj => by
            by_cases e : j = i
            · subst e; exact h
            · exact HJ.out j (by omega)
          clear hat hx HJ
          have HBY := hide (HBA.out (xs.getD i default))
          generalize xs.getD i default = y at x0 x1 x2 HTI HN HBY
          generalize bo y = bb at HTI HN HBY
          obtain ⟨yo, hyo⟩ : ∃ yo, y.op = yo := ⟨_, rfl⟩
          rw [hyo] at x0 HBY
          clear hyo
          rw [← knownB_arity] at HBY
          have HYK := hide (known_any yo)
          obtain ⟨t0, t1, t2⟩ := HTK.out wr hEr
          try simp only [Nat.reduceMul, Nat.reduceAdd] at t0 t1 t2
          rw [if_neg (by omega)] at t2
          have HTY := hide (fun h => (HTB.out wr hEr).get (op := yo) (And.left h) (And.right h))
          have hz0 : 0 < wr.heap.size := by omega
          cases hg : knownB yo with
          | false =>
            have hb := HBY.out
            rw [hg, Bool.false_and] at hb
            rw [hg] at HYK
            have HR := hide (HN.out hb)
            clear hb HBY HN HTI hg HTY
            go_wp2_with fail
            clear x0 x1 x2
            refine wp_region_ext (by kernel_rfl) (by kernel_rfl) ?_
            repeat (go_big_quiet_step ((go_at_call 132; exact Calls.ext_same (HYK.out _))))
            refine wpQuiet_nil ?_
            rintro w9 ⟨⟨_, hE9⟩, rfl⟩
            go_wp2_with fail
            go_roundw
            case rel => exact ⟨i + 1, by omega, by go_num, HR.out, (hE.alloc _).trans hE9⟩
            case measure => simp [intOf]; omega
          | true =>
            have hb := HBY.out
            rw [hg, Bool.true_and] at hb
            have hkk : (kindOf yo != ak) = bb := by rw [hb]; rw [Bool.eq_iff_iff]; simp
            rw [hg] at HYK
            have hy16 : 0 ≤ yo ∧ yo < 16 := by simpa only [knownB, Bool.and_eq_true, decide_eq_true_eq] using hg
            obtain ⟨m, hm, hm16, s0, -, -⟩ := HTY.out hy16
            generalize kindOf yo = yk at s0 hkk
            subst hm
            clear hb HBY hg HTY hy16
            go_wp2_with fail
            clear x0 x1 x2
            refine wp_region_ext (by kernel_rfl) (by kernel_rfl) ?_
            repeat (go_big_quiet_step ((go_at_call 132; exact Calls.ext_same (HYK.out _))))
            refine wpQuiet_nil ?_
            rintro w9 ⟨⟨_, hE9⟩, rfl⟩
            clear hkk s0
            cases bb
            · have HR := hide (HN.out rfl)
              go_wp2_with fail
              go_roundw
              case rel => exact ⟨i + 1, by omega, by go_num, HR.out, (hE.alloc _).trans hE9⟩
              case measure => simp [intOf]; omega
            · have HR := hide (HTI.out rfl)
              go_wp2_with fail
              go_ret
              exact ⟨ret_int HR.out, (hEr.alloc _).trans hE9⟩
        · obtain rfl : i = xs.length := by omega
          have HR := hide (HF.out HJ.out)
          go_wp2_with fail
          go_ret
          exact ⟨ret_int HR.out, hEr⟩
    · obtain rfl : k = 0 := by omega
      clear hk
      have HSM := hide (small_any num)
      have hsm : smallB num = true := by unfold smallB; rw [decide_eq_true (by omega), decide_eq_true (p := num ≤ 1048576) (by omega)]; rfl
      rw [hsm] at HSM
      clear hsm h7 h8
      go_enter Tryd.func139, Tryd.ntmps139
      go_wp2_with fail
      refine (HK.out _).mono ?_
      rintro e' w1 ⟨rfl, hw1⟩
      rw [← hw1] at hE0 HB
      clear hw1
      obtain ⟨c0, c1, c2, hz⟩ := HB.out _ (Ext.refl w1)
      obtain ⟨t0, t1, t2⟩ := HTK.out w1 hE0
      try simp only [Nat.reduceMul, Nat.reduceAdd] at t0 t1 t2
      have hz0 : 0 < w1.heap.size := by omega
      go_wp2_with fail
      refine wp_region_ext (by kernel_rfl) (by kernel_rfl) ?_
      repeat (go_big_quiet_step (fail))
      refine wpQuiet_nil ?_
      rintro w2 ⟨⟨_, hE2⟩, rfl⟩
      clear c0 c1 c2 t0 t1 t2 hz hz0
      have hEr := hE0.trans hE2
      obtain ⟨c0, c1, c2, hz⟩ := HB.out _ hE2
      go_wp2_with fail
      refine (HSM.out _).mono ?_
      rintro e' w3 ⟨rfl, hw3⟩
      have hE3 := hE2.trans (show Ext w2 w3 by rw [hw3]; exact Ext.refl _)
      clear hw3
      clear c0 c1 c2 hz
      have hEr := hE0.trans hE3
      obtain ⟨c0, c1, c2, hz⟩ := HB.out _ hE3
      go_wp2_with fail
      clear c0 c1 c2 hz
      obtain ⟨wa, hwa⟩ : ∃ wa : World, wa = w3 := ⟨_, rfl⟩
      have hEa : Ext wa w3 := by rw [hwa]; exact Ext.refl _
      have hEb : Ext w1 wa := by rw [hwa]; exact hE3
      clear hwa
      go_loopw [59] (fun x V => ∃ (i : Nat), i ≤ xs.length ∧ x = .int .i64 i ∧ (∀ j, j < i → bo (xs.getD j default) = false) ∧ Ext wa V) (fun x _ => xs.length - (intOf x).toNat)
      case atStart => exact ⟨0, by omega, rfl, fun j hj => by omega, hEa⟩
      case round =>
        clear hEa hEr
        obtain ⟨i, hi, rfl, hj, hE⟩ := hrel
        have HJ := hide hj
        clear hj
        have hE1 := hEb.trans hE
        have hEr := hE0.trans hE1
        obtain ⟨c0, c1, c2, hz⟩ := HB.out _ hE1
        by_cases hlt : i < xs.length
        · obtain ⟨b, o, rfl, hb, hat⟩ := HAT.out (by omega)
          obtain ⟨q, d, ⟨x0, x1, x2⟩, hx⟩ := hat i hlt
          replace x0 := x0 _ hEr
          replace x1 := x1 _ hEr
          replace x2 := x2 _ hEr
          have HTI := hide (HT.out i hlt)
          have HN : Hid (bo (xs.getD i default) = false → ∀ j, j < i + 1 → bo (xs.getD j default) = false) := fun h j hj => by
            by_cases e : j = i
            · subst e; exact h
            · exact HJ.out j (by omega)
          clear hat hx HJ
          have HBY := hide (HBA.out (xs.getD i default))
          generalize xs.getD i default = y at x0 x1 x2 HTI HN HBY
          generalize bo y = bb at HTI HN HBY
          obtain ⟨yo, hyo⟩ : ∃ yo, y.op = yo := ⟨_, rfl⟩
          rw [hyo] at x0 HBY
          clear hyo
          rw [← knownB_arity] at HBY
          have HYK := hide (known_any yo)
          obtain ⟨t0, t1, t2⟩ := HTK.out wr hEr
          try simp only [Nat.reduceMul, Nat.reduceAdd] at t0 t1 t2
          rw [if_neg (by omega)] at t2
          have HTY := hide (fun h => (HTB.out wr hEr).get (op := yo) (And.left h) (And.right h))
          have hz0 : 0 < wr.heap.size := by omega
          cases hg : knownB yo with
          | false =>
            have hb := HBY.out
            rw [hg, Bool.false_and] at hb
            rw [hg] at HYK
            have HR := hide (HN.out hb)
            clear hb HBY HN HTI hg HTY
            go_wp2_with fail
            clear x0 x1 x2
            refine wp_region_ext (by kernel_rfl) (by kernel_rfl) ?_
            repeat (go_big_quiet_step ((go_at_call 132; exact Calls.ext_same (HYK.out _))))
            refine wpQuiet_nil ?_
            rintro w9 ⟨⟨_, hE9⟩, rfl⟩
            go_wp2_with fail
            go_roundw
            case rel => exact ⟨i + 1, by omega, by go_num, HR.out, (hE.alloc _).trans hE9⟩
            case measure => simp [intOf]; omega
          | true =>
            have hb := HBY.out
            rw [hg, Bool.true_and] at hb
            have hkk : (kindOf yo != ak) = bb := by rw [hb]; rw [Bool.eq_iff_iff]; simp
            rw [hg] at HYK
            have hy16 : 0 ≤ yo ∧ yo < 16 := by simpa only [knownB, Bool.and_eq_true, decide_eq_true_eq] using hg
            obtain ⟨m, hm, hm16, s0, -, -⟩ := HTY.out hy16
            generalize kindOf yo = yk at s0 hkk
            subst hm
            clear hb HBY hg HTY hy16
            go_wp2_with fail
            clear x0 x1 x2
            refine wp_region_ext (by kernel_rfl) (by kernel_rfl) ?_
            repeat (go_big_quiet_step ((go_at_call 132; exact Calls.ext_same (HYK.out _))))
            refine wpQuiet_nil ?_
            rintro w9 ⟨⟨_, hE9⟩, rfl⟩
            clear hkk s0
            cases bb
            · have HR := hide (HN.out rfl)
              go_wp2_with fail
              go_roundw
              case rel => exact ⟨i + 1, by omega, by go_num, HR.out, (hE.alloc _).trans hE9⟩
              case measure => simp [intOf]; omega
            · have HR := hide (HTI.out rfl)
              go_wp2_with fail
              go_ret
              exact ⟨ret_int HR.out, (hEr.alloc _).trans hE9⟩
        · obtain rfl : i = xs.length := by omega
          have HR := hide (HF.out HJ.out)
          go_wp2_with fail
          go_ret
          exact ⟨ret_int HR.out, hEr⟩
    · subst hk
      have d1 : ((k : Int) == 1) = false := by rw [beq_eq_false_iff_ne]; omega
      have d2 : ((k : Int) == 0) = false := by rw [beq_eq_false_iff_ne]; omega
      have d3 : decide (1 < (k : Int)) = true := decide_eq_true h6
      have d5 : (num != 0) = false := by rw [h7]; rfl
      clear h6 h7
      go_enter Tryd.func139, Tryd.ntmps139
      go_wp2_with fail
      refine (HK.out _).mono ?_
      rintro e' w1 ⟨rfl, hw1⟩
      rw [← hw1] at hE0 HB
      clear hw1
      obtain ⟨c0, c1, c2, hz⟩ := HB.out _ (Ext.refl w1)
      obtain ⟨t0, t1, t2⟩ := HTK.out w1 hE0
      try simp only [Nat.reduceMul, Nat.reduceAdd] at t0 t1 t2
      have hz0 : 0 < w1.heap.size := by omega
      go_wp2_with fail
      refine wp_region_ext (by kernel_rfl) (by kernel_rfl) ?_
      repeat (go_big_quiet_step (fail))
      refine wpQuiet_nil ?_
      rintro w2 ⟨⟨_, hE2⟩, rfl⟩
      clear c0 c1 c2 t0 t1 t2 hz hz0
      have hEr := hE0.trans hE2
      obtain ⟨c0, c1, c2, hz⟩ := HB.out _ hE2
      go_wp2_with fail
      clear c0 c1 c2 hz
      obtain ⟨wa, hwa⟩ : ∃ wa : World, wa = w2 := ⟨_, rfl⟩
      have hEa : Ext wa w2 := by rw [hwa]; exact Ext.refl _
      have hEb : Ext w1 wa := by rw [hwa]; exact hE2
      clear hwa
      go_loopw [59] (fun x V => ∃ (i : Nat), i ≤ xs.length ∧ x = .int .i64 i ∧ (∀ j, j < i → bo (xs.getD j default) = false) ∧ Ext wa V) (fun x _ => xs.length - (intOf x).toNat)
      case atStart => exact ⟨0, by omega, rfl, fun j hj => by omega, hEa⟩
      case round =>
        clear hEa hEr
        obtain ⟨i, hi, rfl, hj, hE⟩ := hrel
        have HJ := hide hj
        clear hj
        have hE1 := hEb.trans hE
        have hEr := hE0.trans hE1
        obtain ⟨c0, c1, c2, hz⟩ := HB.out _ hE1
        by_cases hlt : i < xs.length
        · obtain ⟨b, o, rfl, hb, hat⟩ := HAT.out (by omega)
          obtain ⟨q, d, ⟨x0, x1, x2⟩, hx⟩ := hat i hlt
          replace x0 := x0 _ hEr
          replace x1 := x1 _ hEr
          replace x2 := x2 _ hEr
          have HTI := hide (HT.out i hlt)
          have HN : Hid (bo (xs.getD i default) = false → ∀ j, j < i + 1 → bo (xs.getD j default) = false) := fun h j hj => by
            by_cases e : j = i
            · subst e; exact h
            · exact HJ.out j (by omega)
          clear hat hx HJ
          have HBY := hide (HBA.out (xs.getD i default))
          generalize xs.getD i default = y at x0 x1 x2 HTI HN HBY
          generalize bo y = bb at HTI HN HBY
          obtain ⟨yo, hyo⟩ : ∃ yo, y.op = yo := ⟨_, rfl⟩
          rw [hyo] at x0 HBY
          clear hyo
          rw [← knownB_arity] at HBY
          have HYK := hide (known_any yo)
          obtain ⟨t0, t1, t2⟩ := HTK.out wr hEr
          try simp only [Nat.reduceMul, Nat.reduceAdd] at t0 t1 t2
          rw [if_neg (by omega)] at t2
          have HTY := hide (fun h => (HTB.out wr hEr).get (op := yo) (And.left h) (And.right h))
          have hz0 : 0 < wr.heap.size := by omega
          cases hg : knownB yo with
          | false =>
            have hb := HBY.out
            rw [hg, Bool.false_and] at hb
            rw [hg] at HYK
            have HR := hide (HN.out hb)
            clear hb HBY HN HTI hg HTY
            go_wp2_with fail
            clear x0 x1 x2
            refine wp_region_ext (by kernel_rfl) (by kernel_rfl) ?_
            repeat (go_big_quiet_step ((go_at_call 132; exact Calls.ext_same (HYK.out _))))
            refine wpQuiet_nil ?_
            rintro w9 ⟨⟨_, hE9⟩, rfl⟩
            go_wp2_with fail
            go_roundw
            case rel => exact ⟨i + 1, by omega, by go_num, HR.out, (hE.alloc _).trans hE9⟩
            case measure => simp [intOf]; omega
          | true =>
            have hb := HBY.out
            rw [hg, Bool.true_and] at hb
            have hkk : (kindOf yo != ak) = bb := by rw [hb]; rw [Bool.eq_iff_iff]; simp
            rw [hg] at HYK
            have hy16 : 0 ≤ yo ∧ yo < 16 := by simpa only [knownB, Bool.and_eq_true, decide_eq_true_eq] using hg
            obtain ⟨m, hm, hm16, s0, -, -⟩ := HTY.out hy16
            generalize kindOf yo = yk at s0 hkk
            subst hm
            clear hb HBY hg HTY hy16
            go_wp2_with fail
            clear x0 x1 x2
            refine wp_region_ext (by kernel_rfl) (by kernel_rfl) ?_
            repeat (go_big_quiet_step ((go_at_call 132; exact Calls.ext_same (HYK.out _))))
            refine wpQuiet_nil ?_
            rintro w9 ⟨⟨_, hE9⟩, rfl⟩
            clear hkk s0
            cases bb
            · have HR := hide (HN.out rfl)
              go_wp2_with fail
              go_roundw
              case rel => exact ⟨i + 1, by omega, by go_num, HR.out, (hE.alloc _).trans hE9⟩
              case measure => simp [intOf]; omega
            · have HR := hide (HTI.out rfl)
              go_wp2_with fail
              go_ret
              exact ⟨ret_int HR.out, (hEr.alloc _).trans hE9⟩
        · obtain rfl : i = xs.length := by omega
          have HR := hide (HF.out HJ.out)
          go_wp2_with fail
          go_ret
          exact ⟨ret_int HR.out, hEr⟩
end Go.Proofs.YthpccmmdkbjjhaaDoor
