/-
  The law of chapter 20 that simulations prove inclusion: the walk.
  Conditions: none.
-/
import Derived.Test.YtmkmgimmlohamaaIncC
import Derived.Test.YtmkmgimmlohamaaFewW
import Derived.Test.YtmkmgimmlohamaaWordsQ
import Derived.Test.YtmkmgimmlohamaaStateP
import Derived.Test.YtmkmgimmlohamaaWordsA
namespace Go.Proofs.Ytmkmgimmlohamaa
open Go.RowKit
attribute [local go_sem] Oper.semAt_some

theorem words_two {B : Adv} (h : achk B = 0) : wordsS B 2 = ([], 17) ∨ (wordsS B 2 = (fromS B 2 0, 0) ∧ (fromS B 2 0).length ≤ 4096) := by
  unfold wordsS rdsErr
  rw [if_pos h, if_pos (by decide)]
  by_cases h2 : 4096 < cnt B 4096 (2 : Int).toNat 0
  · rw [if_pos h2]; exact .inl rfl
  · rw [if_neg h2]
    have := cnt_len B (lim := 4096) (by decide) 2 0
    rw [show (2 : Int).toNat = 2 from rfl] at h2
    exact .inr ⟨rfl, by omega⟩
open Classical in
set_option maxRecDepth 100000 in
set_option maxHeartbeats 8000000 in
theorem inclusionProves_law (A : Adv) (u : Value) (B : Adv) (v : Value) (pv : Value) (prs : List (Int × Int)) (w : World) (hA : AdvRep w u A) (hB : AdvRep w v B) (hP : Row pcells 2 w pv prs) :
    Calls Try.prog 9 #[u, v, pv] w fun e w' => e = .returned (.bool true) ∧ Ext w w' := by
  have HA := hide hA
  have HB := hide hB
  have HP := hide hP
  obtain ⟨p, c, rfl, -⟩ := hA.all_
  obtain ⟨q, d, rfl, -⟩ := hB.all_
  obtain ⟨ps, pk, rfl, -, hpl, -⟩ := hP.pr_all
  clear hA hB hP
  have HN := hide (TwoBox.new A B p c q d w)
  have HE := hide (((Ext.refl w).alloc (.cells #[.int .i64 A.n, .slice p A.L c] 24)).alloc (.cells #[.int .i64 B.n, .slice q B.L d] 24))
  obtain ⟨W1, hW1⟩ : ∃ W1, (w.alloc (.cells #[.int .i64 A.n, .slice p A.L c] 24)).alloc (.cells #[.int .i64 B.n, .slice q B.L d] 24) = W1 := ⟨_, rfl⟩
  rw [hW1] at HN HE
  have HW1 := hide hW1
  clear hW1
  go_enter Try.func9, Try.ntmps9
  obtain ⟨z, hz⟩ : ∃ z, w.heap.size = z := ⟨_, rfl⟩
  rw [hz] at HN
  go_wp2_with fail
  rw [HW1.out]
  clear HW1
  have AW : ∀ W, Ext w W → Hid (Calls Try.prog 11 #[] W fun e w' => e = .returned (.bool true) ∧ Ext w w') := fun W hW => (awake20 W).mono fun _ _ h => ⟨h.1, hW.trans h.2⟩
  have HAW := hide AW
  clear AW hz
  refine (rfew2_any A B _ _ W1 (HA.out.ext HE.out) (HB.out.ext HE.out)).mono ?_
  rintro e W2 ⟨rfl, hX⟩
  replace HN := hide (HN.out.ext hX)
  replace HE := hide (HE.out.trans hX)
  clear hX
  clear W1
  by_cases hab : (afew A && afew B) = true
  case neg =>
    rw [Bool.not_eq_true] at hab
    rw [hab]
    go_wp2_with fail
    refine (HAW.out _ HE.out).mono ?_
    rintro e W3 ⟨rfl, hX⟩
    go_wp2_with fail
    go_ret
    exact ⟨rfl, hX⟩
  rw [hab]
  have hm : movesN A ≤ 4611686018427387904 ∧ movesN B ≤ 4611686018427387904 := by
    rw [Bool.and_eq_true] at hab
    exact ⟨afew_moves hab.1, afew_moves hab.2⟩
  have HM := hide hm
  clear hab hm
  by_cases hlen : 100 < prs.length
  · have hd : decide ((100 : Int) < (prs.length : Int)) = true := decide_eq_true (by omega)
    clear hlen
    go_wp2_with fail
    refine (HAW.out _ HE.out).mono ?_
    rintro e W3 ⟨rfl, hX⟩
    go_wp2_with fail
    go_ret
    exact ⟨rfl, hX⟩
  have hd : decide ((100 : Int) < (prs.length : Int)) = false := decide_eq_false (by omega)
  clear hlen
  obtain ⟨z0, a0, a1, z1, b0, b1⟩ := HN.out.cells
  go_wp2_with fail
  refine (rfewwords_any B _ 2 W2 (HB.out.ext HE.out)).mono ?_
  rintro e W3 ⟨rfl, hX⟩
  replace HN := hide (HN.out.ext hX)
  replace HE := hide (HE.out.trans hX)
  clear hX z0 a0 a1 z1 b0 b1 hd
  clear W2
  cases hfw : fewW B 2 with
  | false =>
    go_wp2_with fail
    refine (HAW.out _ HE.out).mono ?_
    rintro e W3 ⟨rfl, hX⟩
    go_wp2_with fail
    go_ret
    exact ⟨rfl, hX⟩
  | true =>
  clear hfw
  obtain ⟨z0, a0, a1, z1, b0, b1⟩ := HN.out.cells
  go_wp2_with fail
  refine (verify_any A B prs _ _ (.slice ps prs.length pk) W3 (HA.out.ext HE.out) (HB.out.ext HE.out) (HP.out.ext HE.out) HM.out.1 HM.out.2).mono ?_
  rintro e W4 ⟨rfl, hX⟩
  replace HN := hide (HN.out.ext hX)
  replace HE := hide (HE.out.trans hX)
  clear hX z0 a0 a1 z1 b0 b1
  clear W3
  by_cases hv : verS A B prs = 0
  case neg =>
    have hd : (verS A B prs != 0) = true := by simp [hv]
    clear hv
    generalize verS A B prs = res at hd ⊢
    go_wp2_with fail
    refine (HAW.out _ HE.out).mono ?_
    rintro e W3 ⟨rfl, hX⟩
    go_wp2_with fail
    go_ret
    exact ⟨rfl, hX⟩
  have HV := hide hv
  rw [hv]
  have HB0 := hide (verS_zero hv).1
  clear hv
  obtain ⟨z0, a0, a1, z1, b0, b1⟩ := HN.out.cells
  go_wp2_with fail
  refine (pwords_any B _ 2 W4 (HB.out.ext HE.out) HM.out.2).mono ?_
  rintro e W5 ⟨uw, rfl, hC, hX⟩
  replace HN := hide (HN.out.ext hX)
  replace HE := hide (HE.out.trans hX)
  clear hX z0 a0 a1 z1 b0 b1
  rcases words_two (bothI_zero HB0.out).2.1 with hw | ⟨hw, hwl⟩
  · rw [hw]
    clear hC
    clear W4
    go_wp2_with fail
    refine (HAW.out _ HE.out).mono ?_
    rintro e W3 ⟨rfl, hX⟩
    go_wp2_with fail
    go_ret
    exact ⟨rfl, hX⟩
  rw [hw] at hC ⊢
  clear hw
  have HLP : Hid (0 < B.L) := by have := (achk_zero (bothI_zero HB0.out).2.1).2.2.1; exact this
  have HWA : Hid (∀ x, x ∈ fromS B 2 0 → 0 ≤ after A 0 x) := fun x hx => (sim_sound HV.out x (words_after (bothI_zero HB0.out).2.1 2 0 HLP.out x hx)).1
  dsimp only at hC
  generalize fromS B 2 0 = ws at hC HWA hwl
  have HR1 := hide (hC.rows2 (by omega))
  obtain ⟨q2, d2, rfl⟩ := hC.sl
  clear hC
  clear W4
  have HAL : Hid (∀ V ux l, Ext w V → Row Rd.cells 7 V ux l → 0 ≤ after A 0 l → Calls Try.prog 27 #[.agg #[.int .i64 A.n, .slice p A.L c], ux] V fun e w' => e = .returned (.tuple #[.bool true, .int .i64 0]) ∧ Ext V w') := fun V ux l hV hl h0 => by
    have := pallows_any A _ ux l V (HA.out.ext hV) hl HM.out.1
    unfold allowsS at this
    rw [if_pos (bothI_zero HB0.out).1, decide_eq_true h0] at this
    exact this
  go_upto_region 8 with fail
  go_wp2_with fail
  obtain ⟨wa, hwa⟩ : ∃ wa : World, wa = W5 := ⟨_, rfl⟩
  have hE3 : Ext wa W5 := by rw [hwa]; exact Ext.refl _
  rw [← hwa] at HE HR1 HN
  clear hwa
  go_loopw [47] (fun x V => ∃ i : Nat, i ≤ ws.length ∧ x = .int .i64 i ∧ Ext wa V) (fun x _ => ws.length - (intOf x).toNat)
  case atStart => exact ⟨0, by omega, rfl, hE3⟩
  case round =>
    clear hE3
    obtain ⟨i, hi, rfl, hE3⟩ := hrel
    have hEr := HE.out.trans hE3
    obtain ⟨z0, a0, a1, z1, b0, b1⟩ := (HN.out.ext hE3).cells
    by_cases hlt : i < ws.length
    · obtain ⟨q2', d2', hv, _, _, hat⟩ := HR1.out.sl_all
      injection hv with e1 e2 e3
      subst e1 e3
      clear e2
      obtain ⟨b, o, rfl, hb, hat⟩ := hat (by omega)
      obtain ⟨qx, dx, hcx, hrx, _⟩ := hat i hlt
      replace hcx := hcx _ hE3
      have hmem : ws.getD i [] ∈ ws := by rw [List.getD_eq_getElem?_getD, List.getElem?_eq_getElem hlt]; exact List.getElem_mem hlt
      have HX1 := hide (HWA.out _ hmem)
      have hbz : b < wr.heap.size := Nat.lt_of_lt_of_le hb hE3.size
      clear hmem hat
      generalize ws.getD i [] = X at hcx hrx HX1
      have HRX := hide (hrx.ext hE3)
      clear hrx
      go_wp2_with fail
      refine (HAL.out _ _ X hEr HRX.out HX1.out).mono ?_
      rintro e W6 ⟨rfl, hX⟩
      have hE6 := hE3.trans hX
      clear z0 a0 a1 z1 b0 b1 hcx hX hEr hbz
      go_wp2_with fail
      go_roundw
      case rel => exact ⟨i + 1, by omega, by go_num, hE6⟩
      case measure => simp [intOf]; omega
    · obtain rfl : i = ws.length := by omega
      have hI : Inc A B := fun u hu => (sim_sound HV.out u hu).1
      have HI := hide hI
      clear hI hlt
      go_wp2_with fail
      refine ((pincludes_any A B _ _ wr (HA.out.ext hEr) (HB.out.ext hEr) HM.out.1 HM.out.2).mono fun _ _ h => inc_told HB0.out h).mono ?_
      rintro e W6 ⟨x, word, rfl, hX, -, -⟩
      rw [decide_eq_true HI.out]
      have hE6 := hEr.trans hX
      clear z0 a0 a1 z1 b0 b1 hX
      go_wp2_with fail
      refine (HAW.out _ hE6).mono ?_
      rintro e W7 ⟨rfl, hX⟩
      go_wp2_with fail
      go_ret
      exact ⟨rfl, hX⟩
end Go.Proofs.Ytmkmgimmlohamaa
