/-
  The law of chapter 20 on Verify: the walk.
  Conditions: none.
-/
import Derived.Test.YtmkmgimmlohamaaRVer
namespace Go.Proofs.Ytmkmgimmlohamaa
open Go.RowKit
attribute [local go_sem] Oper.semAt_some

open Classical in
set_option maxRecDepth 100000 in
set_option maxHeartbeats 8000000 in
theorem inclusionVerifies_law (A : Adv) (u : Value) (B : Adv) (v : Value) (pv : Value) (prs : List (Int × Int)) (w : World) (hA : AdvRep w u A) (hB : AdvRep w v B) (hP : Row pcells 2 w pv prs) :
    Calls Try.prog 5 #[u, v, pv] w fun e w' => e = .returned (.bool true) ∧ Ext w w' := by
  have HA := hide hA
  have HB := hide hB
  have HP := hide hP
  obtain ⟨ps, pk, rfl, -, hpl, -⟩ := hP.pr_all
  obtain ⟨p, c, rfl, -⟩ := hA.all_
  obtain ⟨q, d, rfl, -⟩ := hB.all_
  clear hA hB hP
  have HN := hide (TwoBox.new A B p c q d w)
  have HE := hide (((Ext.refl w).alloc (.cells #[.int .i64 A.n, .slice p A.L c] 24)).alloc (.cells #[.int .i64 B.n, .slice q B.L d] 24))
  obtain ⟨W1, hW1⟩ : ∃ W1, (w.alloc (.cells #[.int .i64 A.n, .slice p A.L c] 24)).alloc (.cells #[.int .i64 B.n, .slice q B.L d] 24) = W1 := ⟨_, rfl⟩
  rw [hW1] at HN HE
  have HW1 := hide hW1
  clear hW1
  go_enter Try.func5, Try.ntmps5
  obtain ⟨z, hz⟩ : ∃ z, w.heap.size = z := ⟨_, rfl⟩
  rw [hz] at HN
  go_wp2_with fail
  rw [HW1.out]
  clear HW1
  have AW : ∀ W, Ext w W → Hid (Calls Try.prog 11 #[] W fun e w' => e = .returned (.bool true) ∧ Ext w w') := fun W hW => (awake20 W).mono fun _ _ h => ⟨h.1, hW.trans h.2⟩
  have HAW := hide AW
  clear AW hz
  refine (rfew2_any A B _ _ W1 (HA.out.ext HE.out) (HB.out.ext HE.out)).mono ?_
  rintro e W2 ⟨rfl, hX⟩
  replace HN := hide (HN.out.ext hX)
  replace HE := hide (HE.out.trans hX)
  clear hX
  clear W1
  by_cases hab : (afew A && afew B) = true
  case neg =>
    rw [Bool.not_eq_true] at hab
    rw [hab]
    go_wp2_with fail
    refine (HAW.out _ HE.out).mono ?_
    rintro e W3 ⟨rfl, hX⟩
    go_wp2_with fail
    go_ret
    exact ⟨rfl, hX⟩
  rw [hab]
  have hm : movesN A ≤ 4611686018427387904 ∧ movesN B ≤ 4611686018427387904 := by
    rw [Bool.and_eq_true] at hab
    exact ⟨afew_moves hab.1, afew_moves hab.2⟩
  have HM := hide hm
  have HAB := hide hab
  clear hab hm
  have hcase : (100 < prs.length ∧ prs.length ≤ 65536) ∨ ¬ (100 < prs.length ∧ prs.length ≤ 65536) := Classical.em _
  rcases hcase with ⟨hl1, hl2⟩ | hl
  · have d1 : decide ((100 : Int) < (prs.length : Int)) = true := decide_eq_true (by omega)
    have d2 : decide ((prs.length : Int) ≤ 65536) = true := decide_eq_true (by omega)
    clear hl1 hl2
    go_wp2_with fail
    refine (HAW.out _ HE.out).mono ?_
    rintro e W3 ⟨rfl, hX⟩
    go_wp2_with fail
    go_ret
    exact ⟨rfl, hX⟩
  have HV := hide (fun V (hV : Ext W2 V) => verify_any A B prs _ _ (.slice ps prs.length pk) V (HA.out.ext (HE.out.trans hV)) (HB.out.ext (HE.out.trans hV)) (HP.out.ext (HE.out.trans hV)) HM.out.1 HM.out.2)
  have HR := hide (fun V (hV : Ext W2 V) => rverify_any A B prs _ _ (.slice ps prs.length pk) V (HA.out.ext (HE.out.trans hV)) (HB.out.ext (HE.out.trans hV)) (HP.out.ext (HE.out.trans hV)))
  have HK := hide (fun V => awake20 V)
  generalize verS A B prs = res at HV HR
  have heq : (res == res) = true := by simp
  have HGO : Hid (∀ b : Bool, decide ((100 : Int) < (prs.length : Int)) = b → (b = true → decide ((prs.length : Int) ≤ 65536) = false)) := fun b hb ht => by
    subst hb
    exact decide_eq_false (by have := of_decide_eq_true ht; omega)
  have h0 : ∀ W, Ext W2 W → W.cell? ⟨z, 0, none⟩ = some (.int .i64 A.n) := fun W hW => (HN.out.ext hW).cells.2.1
  have h1 : ∀ W, Ext W2 W → W.cell? ⟨z, 1, none⟩ = some (.slice p A.L c) := fun W hW => (HN.out.ext hW).cells.2.2.1
  have h2 : ∀ W, Ext W2 W → z < W.heap.size := fun W hW => (HN.out.ext hW).cells.1
  have h3 : ∀ W, Ext W2 W → W.cell? ⟨z + 1, 0, none⟩ = some (.int .i64 B.n) := fun W hW => (HN.out.ext hW).cells.2.2.2.2.1
  have h4 : ∀ W, Ext W2 W → W.cell? ⟨z + 1, 1, none⟩ = some (.slice q B.L d) := fun W hW => (HN.out.ext hW).cells.2.2.2.2.2
  have h5 : ∀ W, Ext W2 W → z + 1 < W.heap.size := fun W hW => (HN.out.ext hW).cells.2.2.2.1
  cases d1 : decide ((100 : Int) < (prs.length : Int)) with
  | false =>
    clear HGO hl
    go_wp2_with fail
    refine wp_region_ext (by kernel_rfl) (by kernel_rfl) ?_
    repeat (go_big_quiet_step ((first | (go_at_call 11; exact Calls.ext_of (HK.out _)) | (go_at_call 20; exact Calls.ext_of (HV.out _ (ExtOf.h _))) | (go_at_call 21; exact Calls.ext_of (HR.out _ (ExtOf.h _))))))
    refine wpQuiet_nil ?_
    rintro w9 ⟨⟨_, hE9⟩, rfl⟩
    have HF := hide (HE.out.trans hE9)
    clear h0 h1 h2 h3 h4 h5 hE9
    go_wp2_with fail
    go_ret
    exact ⟨rfl, HF.out⟩
  | true =>
    have d2 := HGO.out _ d1 rfl
    clear HGO hl
    go_wp2_with fail
    refine wp_region_ext (by kernel_rfl) (by kernel_rfl) ?_
    repeat (go_big_quiet_step ((first | (go_at_call 11; exact Calls.ext_of (HK.out _)) | (go_at_call 20; exact Calls.ext_of (HV.out _ (ExtOf.h _))) | (go_at_call 21; exact Calls.ext_of (HR.out _ (ExtOf.h _))))))
    refine wpQuiet_nil ?_
    rintro w9 ⟨⟨_, hE9⟩, rfl⟩
    have HF := hide (HE.out.trans hE9)
    clear h0 h1 h2 h3 h4 h5 hE9
    go_wp2_with fail
    go_ret
    exact ⟨rfl, HF.out⟩
end Go.Proofs.Ytmkmgimmlohamaa
