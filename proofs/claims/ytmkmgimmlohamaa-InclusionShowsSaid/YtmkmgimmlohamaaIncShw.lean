/-
  The law of chapter 20 that shows what inclusion means: the walk.
  Conditions: none.
-/
import Derived.Test.YtmkmgimmlohamaaIncC
import Derived.Test.YtmkmgimmlohamaaStateP
namespace Go.Proofs.Ytmkmgimmlohamaa
open Go.RowKit
attribute [local go_sem] Oper.semAt_some

theorem Row.cut {w : World} {p : Option Addr} {n c : Nat} {xs : List Rd} (h : Row Rd.cells 7 w (.slice p n c) xs) {m : Nat} (hm : m ≤ xs.length) : Row Rd.cells 7 w (.slice p m c) (xs.take m) := by
  obtain ⟨p', c', hv, h1, h2, h3⟩ := h
  injection hv with e1 e2 e3
  subst e1 e2 e3
  have hl : (xs.take m).length = m := by rw [List.length_take]; omega
  refine ⟨p, c, by rw [hl], by rw [hl]; omega, by rw [hl]; omega, fun hp => ?_⟩
  rw [hl] at hp
  obtain ⟨b, o, h4, h5, h6⟩ := h3 (by omega)
  refine ⟨b, o, h4, h5, fun i x hx => h6 i x ?_⟩
  have hi : i < m := by
    rcases Nat.lt_or_ge i m with h | h
    · exact h
    · rw [List.getElem?_eq_none (by rw [hl]; exact h)] at hx; cases hx
  rwa [List.getElem?_take_of_lt hi] at hx
/-- What Simulation returns, told by inclusion. -/
theorem sim_told {A B : Adv} (h0 : bothI A B = 0) {w : World} {en : Ending} {w' : World} (h : RetSm A B w en w') :
    (Inc A B ∧ ∃ x l, en = .returned (.tuple #[x, .bool true, .int .i64 0]) ∧ Ext w w' ∧ Row pcells 2 w' x l ∧ verS A B l = 0) ∨ (¬ Inc A B ∧ en = .returned (.tuple #[.slice none 0 0, .bool false, .int .i64 0]) ∧ Ext w w') := by
  obtain ⟨x, b, rfl, hE, (⟨h, _⟩ | ⟨_, rfl, rfl, u, hu⟩ | ⟨_, rfl, hn, l, hr, _, hp, hm⟩)⟩ := h
  · exact absurd h0 h
  · exact .inr ⟨fun k => inc_lack.1 k u hu, by rw [h0], hE⟩
  · have hI := inc_lack.2 hn
    exact .inl ⟨hI, x, l, by rw [h0], hE, hr, sim_least h0 hI hp hm⟩
open Classical in
set_option maxRecDepth 100000 in
set_option maxHeartbeats 8000000 in
theorem inclusionShows_law (A : Adv) (u : Value) (B : Adv) (v : Value) (w : World) (hA : AdvRep w u A) (hB : AdvRep w v B) :
    Calls Try.prog 8 #[u, v] w fun e w' => e = .returned (.bool true) ∧ Ext w w' := by
  have HA := hide hA
  have HB := hide hB
  obtain ⟨p, c, rfl, -⟩ := hA.all_
  obtain ⟨q, d, rfl, -⟩ := hB.all_
  clear hA hB
  have HN := hide (TwoBox.new A B p c q d w)
  have HE := hide (((Ext.refl w).alloc (.cells #[.int .i64 A.n, .slice p A.L c] 24)).alloc (.cells #[.int .i64 B.n, .slice q B.L d] 24))
  obtain ⟨W1, hW1⟩ : ∃ W1, (w.alloc (.cells #[.int .i64 A.n, .slice p A.L c] 24)).alloc (.cells #[.int .i64 B.n, .slice q B.L d] 24) = W1 := ⟨_, rfl⟩
  rw [hW1] at HN HE
  have HW1 := hide hW1
  clear hW1
  go_enter Try.func8, Try.ntmps8
  obtain ⟨z, hz⟩ : ∃ z, w.heap.size = z := ⟨_, rfl⟩
  rw [hz] at HN
  go_wp2_with fail
  rw [HW1.out]
  clear HW1
  have AW : ∀ W, Ext w W → Hid (Calls Try.prog 11 #[] W fun e w' => e = .returned (.bool true) ∧ Ext w w') := fun W hW => (awake20 W).mono fun _ _ h => ⟨h.1, hW.trans h.2⟩
  have HAW := hide AW
  clear AW hz
  refine (rfew2_any A B _ _ W1 (HA.out.ext HE.out) (HB.out.ext HE.out)).mono ?_
  rintro e W2 ⟨rfl, hX⟩
  replace HN := hide (HN.out.ext hX)
  replace HE := hide (HE.out.trans hX)
  clear hX
  clear W1
  by_cases hab : (afew A && afew B) = true
  case neg =>
    rw [Bool.not_eq_true] at hab
    rw [hab]
    go_wp2_with fail
    refine (HAW.out _ HE.out).mono ?_
    rintro e W3 ⟨rfl, hX⟩
    go_wp2_with fail
    go_ret
    exact ⟨rfl, hX⟩
  rw [hab]
  have hm : movesN A ≤ 4611686018427387904 ∧ movesN B ≤ 4611686018427387904 ∧ A.L ≤ 8 ∧ B.L ≤ 8 ∧ movesN B ≤ 40 := by
    rw [Bool.and_eq_true] at hab
    exact ⟨afew_moves hab.1, afew_moves hab.2, (afew_parts hab.1).1, (afew_parts hab.2).1, (afew_parts hab.2).2⟩
  have HM := hide hm
  clear hab hm
  obtain ⟨z0, a0, a1, z1, b0, b1⟩ := HN.out.cells
  go_wp2_with fail
  refine (rboth_any A B _ _ W2 (HA.out.ext HE.out) (HB.out.ext HE.out)).mono ?_
  rintro e W3 ⟨rfl, hX⟩
  replace HN := hide (HN.out.ext hX)
  replace HE := hide (HE.out.trans hX)
  clear hX z0 a0 a1 z1 b0 b1
  clear W2
  by_cases hb0 : bothI A B = 0
  case neg =>
    have hd : (bothI A B != 0) = true := by simp [hb0]
    clear hb0
    generalize bothI A B = res at hd ⊢
    go_wp2_with fail
    refine (HAW.out _ HE.out).mono ?_
    rintro e W3 ⟨rfl, hX⟩
    go_wp2_with fail
    go_ret
    exact ⟨rfl, hX⟩
  have HB0 := hide hb0
  rw [hb0]
  clear hb0
  obtain ⟨z0, a0, a1, z1, b0, b1⟩ := HN.out.cells
  go_wp2_with fail
  refine ((pincludes_any A B _ _ W3 (HA.out.ext HE.out) (HB.out.ext HE.out) HM.out.1 HM.out.2.1).mono fun _ _ h => inc_told HB0.out h).mono ?_
  rintro e W4 ⟨x, word, rfl, hX, hr, hf⟩
  replace HN := hide (HN.out.ext hX)
  replace HE := hide (HE.out.trans hX)
  have HR := hide hr
  have HF := hide hf
  clear hX hr hf z0 a0 a1 z1 b0 b1
  clear W3
  obtain ⟨z0, a0, a1, z1, b0, b1⟩ := HN.out.cells
  go_wp2_with fail
  refine ((psim_any A B _ _ W4 (HA.out.ext HE.out) (HB.out.ext HE.out) HM.out.1 HM.out.2.1).mono fun _ _ h => sim_told HB0.out h).mono ?_
  rintro e W5 (⟨hI, y, l, rfl, hX, hy, hv⟩ | ⟨hI, rfl, hX⟩)
  · replace HN := hide (HN.out.ext hX)
    replace HE := hide (HE.out.trans hX)
    have HY := hide hy
    have HV := hide hv
    have HI := hide hI
    rcases HF.out with ⟨_, rfl, rfl⟩ | ⟨hn, _⟩
    case inr => exact absurd hI hn
    rw [decide_eq_true hI]
    clear hX hy hv hI HR HF z0 a0 a1 z1 b0 b1
    clear W4
    obtain ⟨z0, a0, a1, z1, b0, b1⟩ := HN.out.cells
    go_wp2_with fail
    refine (extra_any A B 2 _ _ W5 (HA.out.ext HE.out) (HB.out.ext HE.out) HM.out.1 HM.out.2.1).mono ?_
    rintro e W6 ⟨he, hX⟩
    rw [show extraS A B 2 = (0, 0) from by rw [show (2 : Int) = ((2 : Nat) : Int) from rfl, extra_few HB0.out HM.out.2.2.2.2 (by decide), inc_extra HB0.out HI.out]; rfl] at he
    subst he
    replace HN := hide (HN.out.ext hX)
    replace HE := hide (HE.out.trans hX)
    replace HY := hide (HY.out.ext hX)
    clear hX z0 a0 a1 z1 b0 b1
    clear W5
    obtain ⟨z0, a0, a1, z1, b0, b1⟩ := HN.out.cells
    go_wp2_with fail
    refine (verify_any A B l _ _ y W6 (HA.out.ext HE.out) (HB.out.ext HE.out) HY.out HM.out.1 HM.out.2.1).mono ?_
    rintro e W7 ⟨rfl, hX⟩
    rw [HV.out]
    replace HE := hide (HE.out.trans hX)
    clear hX z0 a0 a1 z1 b0 b1 HN HY
    clear W6
    go_wp2_with fail
    refine (HAW.out _ HE.out).mono ?_
    rintro e W8 ⟨rfl, hX⟩
    go_wp2_with fail
    go_ret
    exact ⟨rfl, hX⟩
  · replace HN := hide (HN.out.ext hX)
    replace HE := hide (HE.out.trans hX)
    replace HR := hide (HR.out.ext hX)
    rcases HF.out with ⟨hn, _⟩ | ⟨_, hl, hle⟩
    case inl => exact absurd hn hI
    rw [decide_eq_false hI]
    have HLK := hide hl
    have HLE := hide hle
    obtain ⟨hl1, hl2⟩ := lack_len HB0.out HM.out.2.2.1 HM.out.2.2.2.1 hl hle
    obtain ⟨xb, xo, xc, rfl⟩ := row_ne HR.out (List.length_pos_iff.1 hl1)
    have HBG := hide (lack_begins hl)
    clear hX hI hl hle HF z0 a0 a1 z1 b0 b1
    clear W4
    obtain ⟨z0, a0, a1, z1, b0, b1⟩ := HN.out.cells
    have dz : ((word.length : Int) == 0) = false := by rw [beq_eq_false_iff_ne]; omega
    have d64 : decide ((64 : Int) < (word.length : Int)) = false := decide_eq_false (by omega)
    go_wp2_with fail
    clear dz d64
    have HAL : Hid (∀ C cu V ux l, AdvRep w cu C → movesN C ≤ 4611686018427387904 → achk C = 0 → Ext w V → Row Rd.cells 7 V ux l → Calls Try.prog 27 #[cu, ux] V fun e w' => e = .returned (.tuple #[.bool (decide (0 ≤ after C 0 l)), .int .i64 0]) ∧ Ext V w') := fun C cu V ux l hC hM hK hV hl => by
      have := pallows_any C _ ux l V (hC.ext hV) hl hM
      unfold allowsS at this
      rw [if_pos hK] at this
      exact this
    have HX1 := hide (HAL.out B _ W5 _ word HB.out HM.out.2.1 (bothI_zero HB0.out).2.1 HE.out HR.out)
    rw [decide_eq_true HBG.out.1] at HX1
    refine HX1.out.mono ?_
    rintro e W6 ⟨rfl, hX⟩
    replace HN := hide (HN.out.ext hX)
    replace HE := hide (HE.out.trans hX)
    replace HR := hide (HR.out.ext hX)
    clear hX HX1 z0 a0 a1 z1 b0 b1
    clear W5
    obtain ⟨z0, a0, a1, z1, b0, b1⟩ := HN.out.cells
    go_wp2_with fail
    have HX1 := hide (HAL.out A _ W6 _ word HA.out HM.out.1 (bothI_zero HB0.out).1 HE.out HR.out)
    rw [decide_eq_false (show ¬ 0 ≤ after A 0 word by have := HBG.out.2.1; omega)] at HX1
    refine HX1.out.mono ?_
    rintro e W7 ⟨rfl, hX⟩
    replace HN := hide (HN.out.ext hX)
    replace HE := hide (HE.out.trans hX)
    replace HR := hide (HR.out.ext hX)
    clear hX HX1 z0 a0 a1 z1 b0 b1
    clear W6
    obtain ⟨m, hm⟩ : ∃ m, word.length = m + 1 := ⟨word.length - 1, by omega⟩
    have HX1 := hide (fun V (hV : Ext W7 V) => HAL.out A _ V _ (word.take (word.length - 1)) HA.out HM.out.1 (bothI_zero HB0.out).1 (HE.out.trans hV) ((HR.out.ext hV).cut (Nat.sub_le _ _)))
    rw [decide_eq_true HBG.out.2.2, hm, Nat.add_sub_cancel] at HX1
    have hxc : m + 1 ≤ xc ∧ xc ≤ 9223372036854775807 := by
      obtain ⟨_, _, e, h1, h2, _⟩ := HR.out
      injection e with e1 e2 e3
      subst e3
      rw [← hm]
      exact ⟨h1, h2.1⟩
    have HMM := hide hm
    have hm64 : m + 1 ≤ 64 := by omega
    obtain ⟨hxc1, hxc2⟩ := hxc
    go_upto_region 14 with fail
    clear hm hl1 hl2
    have ca : ∀ V, Ext W7 V → V.cell? ⟨z, 0, none⟩ = some (.int .i64 A.n) ∧ V.cell? ⟨z, 1, none⟩ = some (.slice p A.L c) ∧ z < V.heap.size := fun V hV => by
      obtain ⟨z0, a0, a1, z1, b0, b1⟩ := (HN.out.ext hV).cells
      exact ⟨a0, a1, z0⟩
    have h1 := fun V hV => (ca V hV).1
    have h2 := fun V hV => (ca V hV).2.1
    have h3 := fun V hV => (ca V hV).2.2
    clear ca
    refine wp_region_ext (by kernel_rfl) (by kernel_rfl) ?_
    repeat (go_big_quiet_step ((go_at_call 27; exact Calls.ext_of (HX1.out _ (ExtOf.h _)))))
    refine wpQuiet_nil ?_
    rintro W8 ⟨⟨_, hX⟩, rfl⟩
    replace HN := hide (HN.out.ext hX)
    replace HE := hide (HE.out.trans hX)
    clear h1 h2 h3 hX HX1 HR
    go_wp2_with fail
    have hk3 : ∃ k3 : Nat, min ((m : Int) + 1) 3 = (k3 : Int) ∧ k3 ≤ m + 1 ∧ k3 ≤ 3 := ⟨min (m + 1) 3, by omega, by omega, by omega⟩
    obtain ⟨k3, hk3, hk4, hk5⟩ := hk3
    rw [hk3]
    clear hk3
    obtain ⟨Wa, hwa⟩ : ∃ wa : World, wa = W8 := ⟨_, rfl⟩
    have hE3 : Ext Wa W8 := by rw [hwa]; exact Ext.refl _
    rw [← hwa] at HE HN
    clear hwa
    go_loopw [143] (fun x V => ∃ i : Nat, i ≤ k3 ∧ x = .int .i64 i ∧ Ext Wa V) (fun x _ => k3 - (intOf x).toNat)
    case atStart => exact ⟨0, by omega, rfl, hE3⟩
    case round =>
      clear hE3
      obtain ⟨i, hi, rfl, hE3⟩ := hrel
      have hEr := HE.out.trans hE3
      obtain ⟨z0, a0, a1, z1, b0, b1⟩ := (HN.out.ext hE3).cells
      by_cases hlt : i < k3
      · have hx1 := extra_few (A := A) HB0.out HM.out.2.2.2.2 (k := i) (by omega)
        rw [(extra_least HB0.out HLK.out HLE.out i).1 (by rw [HMM.out]; omega)] at hx1
        have HX1 := hide hx1
        have hx2 := extra_few (A := A) HB0.out HM.out.2.2.2.2 (k := i + 1) (by omega)
        rw [show (((i + 1 : Nat)) : Int) = (i : Int) + 1 by omega] at hx2
        have HX2 := hide hx2
        have HZ := hide (extra_least HB0.out HLK.out HLE.out (i + 1))
        clear hx1 hx2
        go_wp2_with fail
        refine (extra_any A B i _ _ wr (HA.out.ext hEr) (HB.out.ext hEr) HM.out.1 HM.out.2.1).mono ?_
        rintro e W9 ⟨he, hX⟩
        rw [HX1.out] at he
        subst he
        have hE9 := hE3.trans hX
        have hEr9 := hEr.trans hX
        clear hX hEr z0 a0 a1 z1 b0 b1 HX1
        obtain ⟨z0, a0, a1, z1, b0, b1⟩ := (HN.out.ext hE9).cells
        go_wp2_with fail
        refine (extra_any A B ((i : Int) + 1) _ _ W9 (HA.out.ext hEr9) (HB.out.ext hEr9) HM.out.1 HM.out.2.1).mono ?_
        rintro e W10 ⟨he, hX⟩
        rw [HX2.out] at he
        subst he
        have hE10 := hE9.trans hX
        clear hX hEr9 hE9 z0 a0 a1 z1 b0 b1 HX2
        obtain ⟨n, hn⟩ : ∃ n, exN A B (i + 1) (0, 0) = n := ⟨_, rfl⟩
        rw [hn] at HZ ⊢
        clear hn
        dsimp only
        by_cases hi1 : i = m
        · have hp := HZ.out.2 (by rw [HMM.out, hi1])
          have dn : decide (0 < n) = true := decide_eq_true hp
          have de : ((i : Int) + 1 == (m : Int) + 1) = true := by rw [beq_iff_eq]; omega
          clear hp
          clear hi1
          go_wp2_with fail
          go_roundw
          case rel => exact ⟨i + 1, by omega, by go_num, hE10⟩
          case measure => simp [intOf]; omega
        · have hp := HZ.out.1 (by rw [HMM.out]; omega)
          subst hp
          have de : ((i : Int) + 1 == (m : Int) + 1) = false := by rw [beq_eq_false_iff_ne]; omega
          clear hi1
          go_wp2_with fail
          go_roundw
          case rel => exact ⟨i + 1, by omega, by go_num, hE10⟩
          case measure => simp [intOf]; omega
      · clear z0 a0 a1 z1 b0 b1
        go_wp2_with fail
        refine (HAW.out _ hEr).mono ?_
        rintro e W9 ⟨rfl, hX⟩
        go_wp2_with fail
        go_ret
        exact ⟨rfl, hX⟩
end Go.Proofs.Ytmkmgimmlohamaa
