/-
  'AdversaryKeeps' holds for every input: a trimmed adversary is well-formed, has the same words and as many states as are reachable, and is trimmed already.
  Conditions: none.
-/
import Derived.Test.YtjgkgcjmcpgiaaaGood
import Derived.Test.YtjgkgcjmcpgiaaaOpen
import Derived.ProofKit
namespace Go.Proofs.Ytjgkgcjmcpgiaaa
open Go.RowKit
attribute [local go_sem] Oper.semAt_some

/-- A box of an adversary, in a later world. -/
theorem box_at {W V : World} {g : Nat} {n : Int} {sv : Value} (hb : W.heap[g]? = some (.cells #[.int .i64 n, sv] 24 (0, 0))) (hE : Ext W V) :
    V.heap[g]? = some (.cells #[.int .i64 n, sv] 24 (0, 0)) ∧ V.cell? ⟨g, 0, none⟩ = some (.int .i64 n) ∧ V.cell? ⟨g, 1, none⟩ = some sv := by
  have h := (hE.b.block _ (lt_of_heap hb)).trans hb
  exact ⟨h, by rw [cell_of_row _ _ _ _ _ _ h]; rfl, by rw [cell_of_row _ _ _ _ _ _ h]; rfl⟩

set_option maxRecDepth 8000 in
set_option maxHeartbeats 4000000 in
theorem keeps_law (A : Adv) (v : Value) (k : Int) (w : World) (hA : AdvRep w v A) :
    Calls Try.prog 6 #[v, .int .i64 k] w fun e w' => e = .returned (.bool true) ∧ Ext w w' := by
  have HF := hide (fun W (hE : Ext w W) => good_any A v k W (hA.ext hE))
  have HT := hide (fun W (hE : Ext w W) h => ptrim_any A v W (hA.ext hE) h)
  have HR := hide (fun W (hE : Ext w W) h => reachable_any A v W (hA.ext hE) h)
  have HW := hide (fun W (hE : Ext w W) h => pwords_any A v k W (hA.ext hE) h)
  have HO := hide (fun W (hE : Ext w W) h => oblivious_any A v W (hA.ext hE) h)
  obtain ⟨p, c, rfl, hc, hL, hat⟩ := hA.all_
  clear hA hat
  have hE0 : Ext w (w.alloc (.cells #[.int .i64 A.n, .slice p A.L c] 24)) := (Ext.refl w).alloc _
  have HB := hide (fun w1 => abox2 w A.n (.slice p A.L c) (w1 := w1))
  cases hf : goodB A k with
  | false =>
    rw [hf] at HF
    clear hf HT HR HW HO
    go_enter Try.func6, Try.ntmps6
    go_wp2_with fail
    refine (HF.out _ hE0).mono ?_
    rintro e w1 ⟨rfl, hE⟩
    go_wp2_with fail
    refine (awake_any w1).mono ?_
    rintro e w2 ⟨rfl, hE2⟩
    go_wp2_with fail
    go_ret
    exact ⟨rfl, (hE0.trans hE).trans hE2⟩
  | true =>
    rw [hf] at HF
    obtain ⟨hM, h0, K, rfl, hK, hl⟩ := good_facts hf
    have hT0 := trim_ok h0
    have hTM : movesN (trimA A) ≤ 4611686018427387904 := by have := trim_movesN A; omega
    have hM' : movesN A ≤ 4611686018427387904 := by omega
    have hw0 := trim_words0 h0 K
    have eT : trimS A = (trimA A, 0) := by unfold trimS; rw [if_pos h0]
    have eT2 : trimS (trimA A) = (trimA A, 0) := by unfold trimS; rw [if_pos hT0, trim_trim h0]
    have eW : wordsS A K = (fromS A K 0, 0) := words_ok h0 hK hl
    have eW2 : wordsS (trimA A) K = (fromS A K 0, 0) := by rw [words_ok hT0 hK (by rw [hw0]; exact hl), hw0]
    have eO : oblS A = (oblB A, 0) := by unfold oblS; rw [if_pos h0]
    have eO2 : oblS (trimA A) = (oblB A, 0) := by unfold oblS; rw [if_pos hT0, trim_obl h0]
    have eR : reachS A = reachP A A.L := by unfold reachS; rw [if_pos h0]
    have HRL := hide (show (reachP A A.L).length = (trimA A).st.length by have := trim_L A; rw [reachP_num, ← this]; rfl)
    have HTL := hide (show (trimA A).st.length ≤ 17592186044416 by have := (achk_zero hT0).2.2.2.1; have e : (trimA A).L = (trimA A).st.length := rfl; omega)
    have HLN := hide (show (fromS A K 0).length ≤ 17592186044416 by omega)
    have h1 := fun W hE => HT.out W hE hM'
    rw [eT] at h1
    have HT := hide h1
    have h2 := fun W hE => HR.out W hE hM'
    rw [eR, h0] at h2
    have HR := hide h2
    have h3 := fun W hE => HW.out W hE hM'
    rw [eW] at h3
    have HW := hide h3
    have h4 := fun W hE => HO.out W hE hM'
    rw [eO] at h4
    have HO := hide h4
    have h5 := fun W u (hu : AdvRep W u (trimA A)) => ptrim_any (trimA A) u W hu hTM
    rw [eT2] at h5
    have HT2 := hide h5
    have h6 := fun W u (hu : AdvRep W u (trimA A)) => pwords_any (trimA A) u K W hu hTM
    rw [eW2] at h6
    have HW2 := hide h6
    have h7 := fun W u (hu : AdvRep W u (trimA A)) => oblivious_any (trimA A) u W hu hTM
    rw [eO2] at h7
    have HO2 := hide h7
    have h8 := fun W u (hu : AdvRep W u (trimA A)) => check_any (trimA A) u W hu hTM
    rw [hT0] at h8
    have HC2 := hide h8
    clear h1 h2 h3 h4 h5 h6 h7 h8 eT eT2 eW eW2 eO eO2 eR hw0 hT0 hTM hM hM' hf hl h0
    generalize trimA A = T at HT HT2 HW2 HO2 HC2 HRL HTL
    generalize fromS A K 0 = ws at HW HW2 HLN
    generalize oblB A = ob at HO HO2
    generalize reachP A A.L = rs at HR HRL
    obtain ⟨tn, tst⟩ := T
    dsimp only at HT HT2 HR HW HW2 HO HO2 HRL HTL
    go_enter Try.func6, Try.ntmps6
    go_wp2_with fail
    refine (HF.out _ hE0).mono ?_
    rintro e w1 ⟨rfl, hE⟩
    obtain ⟨c0, c1, hz⟩ := HB.out _ hE
    go_wp2_with fail
    refine (HT.out _ (hE0.trans hE)).mono ?_
    rintro e w4 ⟨u3, rfl, hT1, hE2⟩
    have hE := hE.trans hE2
    clear c0 c1 hE2
    have hA1 := hT1.rep HTL.out
    obtain ⟨qq, rfl, hCC⟩ := hT1
    obtain ⟨q3, d3, rfl⟩ := hCC.slice
    dsimp only at hA1 hCC
    have HA1 := hide hA1
    obtain ⟨c0, c1, hz⟩ := HB.out _ hE
    clear hCC hA1
    go_wp2_with fail
    obtain ⟨v4, hv4⟩ : ∃ v4, w4.alloc (.cells #[.int .i64 tn, .slice q3 tst.length d3] 24) = v4 := ⟨_, rfl⟩
    have hX4 : Ext w4 v4 := by rw [← hv4]; exact (Ext.refl _).alloc _
    have HB4 := hide (show v4.heap[w4.heap.size]? = some (.cells #[.int .i64 tn, .slice q3 tst.length d3] 24 (0, 0)) by rw [← hv4]; exact heap_alloc_new _ _)
    obtain ⟨g4, hg4⟩ : ∃ g4, w4.heap.size = g4 := ⟨_, rfl⟩
    rw [hv4]
    rw [hg4] at HB4 ⊢
    have hE := hE.trans hX4
    have HA1 := hide (HA1.out.ext hX4)
    clear hv4 hg4 hX4 hz c0 c1
    refine (HT2.out _ _ HA1.out).mono ?_
    rintro e w5 ⟨u4, rfl, hT2, hE2⟩
    have hE := hE.trans hE2
    have HA1 := hide (HA1.out.ext hE2)
    have HB4 := hide (box_at HB4.out hE2).1
    clear hE2
    have hA2 := hT2.rep HTL.out
    obtain ⟨qq, rfl, hCC⟩ := hT2
    obtain ⟨q5, d5, rfl⟩ := hCC.slice
    dsimp only at hA2 hCC
    have HA2 := hide hA2
    obtain ⟨c0, c1, hz⟩ := HB.out _ hE
    clear hCC hA2
    go_wp2_with fail
    obtain ⟨v5, hv5⟩ : ∃ v5, w5.alloc (.cells #[.int .i64 tn, .slice q5 tst.length d5] 24) = v5 := ⟨_, rfl⟩
    have hX5 : Ext w5 v5 := by rw [← hv5]; exact (Ext.refl _).alloc _
    have HB5 := hide (show v5.heap[w5.heap.size]? = some (.cells #[.int .i64 tn, .slice q5 tst.length d5] 24 (0, 0)) by rw [← hv5]; exact heap_alloc_new _ _)
    obtain ⟨g5, hg5⟩ : ∃ g5, w5.heap.size = g5 := ⟨_, rfl⟩
    rw [hv5]
    rw [hg5] at HB5 ⊢
    have hE := hE.trans hX5
    have HA1 := hide (HA1.out.ext hX5)
    have HA2 := hide (HA2.out.ext hX5)
    have HB4 := hide (box_at HB4.out hX5).1
    clear hv5 hg5 hX5 hz c0 c1
    refine (HR.out _ (hE0.trans hE)).mono ?_
    rintro e w6 ⟨u6, rfl, hO, hE2⟩
    have hE := hE.trans hE2
    have HA1 := hide (HA1.out.ext hE2)
    have HA2 := hide (HA2.out.ext hE2)
    have HB4 := hide (box_at HB4.out hE2).1
    have HB5 := hide (box_at HB5.out hE2).1
    have hRow := hO.row (by have := HRL.out; have := HTL.out; omega)
    obtain ⟨q6, d6, rfl, -⟩ := hRow
    rw [HRL.out]
    obtain ⟨c0, c1, hz⟩ := HB.out _ hE
    clear hE2 hO
    go_wp2_with fail
    refine (HW.out _ (hE0.trans hE)).mono ?_
    rintro e w7 ⟨u7, rfl, hO, hE2⟩
    have hE := hE.trans hE2
    have HA1 := hide (HA1.out.ext hE2)
    have HA2 := hide (HA2.out.ext hE2)
    have HB4 := hide (box_at HB4.out hE2).1
    have HB5 := hide (box_at HB5.out hE2).1
    have HR1 := hide (hO.rows2 HLN.out)
    obtain ⟨q7, d7, rfl⟩ := hO.slice
    clear c0 c1 hE2 hO hz
    obtain ⟨-, k40, k41⟩ := box_at HB4.out (Ext.refl _)
    go_wp2_with fail
    refine (HW2.out _ _ HA1.out).mono ?_
    rintro e w8 ⟨u8, rfl, hO, hE2⟩
    have hE := hE.trans hE2
    have HA1 := hide (HA1.out.ext hE2)
    have HA2 := hide (HA2.out.ext hE2)
    have HB4 := hide (box_at HB4.out hE2).1
    have HB5 := hide (box_at HB5.out hE2).1
    have HR1 := hide (HR1.out.ext hE2)
    have HR2 := hide (hO.rows2 HLN.out)
    obtain ⟨q8, d8, rfl⟩ := hO.slice
    clear k40 k41 hE2 hO
    obtain ⟨c0, c1, hz⟩ := HB.out _ hE
    go_wp2_with fail
    refine (HO.out _ (hE0.trans hE)).mono ?_
    rintro e w9 ⟨rfl, hE2⟩
    have hE := hE.trans hE2
    have HA1 := hide (HA1.out.ext hE2)
    have HA2 := hide (HA2.out.ext hE2)
    have HB4 := hide (box_at HB4.out hE2).1
    have HB5 := hide (box_at HB5.out hE2).1
    have HR1 := hide (HR1.out.ext hE2)
    have HR2 := hide (HR2.out.ext hE2)
    clear c0 c1 hE2 hz
    obtain ⟨-, k40, k41⟩ := box_at HB4.out (Ext.refl _)
    go_wp2_with fail
    refine (HO2.out _ _ HA1.out).mono ?_
    rintro e w10 ⟨rfl, hE2⟩
    have hE := hE.trans hE2
    have HA1 := hide (HA1.out.ext hE2)
    have HA2 := hide (HA2.out.ext hE2)
    have HB4 := hide (box_at HB4.out hE2).1
    have HB5 := hide (box_at HB5.out hE2).1
    have HR1 := hide (HR1.out.ext hE2)
    have HR2 := hide (HR2.out.ext hE2)
    clear k40 k41 hE2
    obtain ⟨-, k40, k41⟩ := box_at HB4.out (Ext.refl _)
    go_wp2_with fail
    refine (HC2.out _ _ HA1.out).mono ?_
    rintro e w11 ⟨rfl, hE2⟩
    have hE := hE.trans hE2
    have HA1 := hide (HA1.out.ext hE2)
    have HA2 := hide (HA2.out.ext hE2)
    have HB4 := hide (box_at HB4.out hE2).1
    have HB5 := hide (box_at HB5.out hE2).1
    have HR1 := hide (HR1.out.ext hE2)
    have HR2 := hide (HR2.out.ext hE2)
    clear k40 k41 hE2
    obtain ⟨-, k40, k41⟩ := box_at HB4.out (Ext.refl _)
    obtain ⟨-, k50, k51⟩ := box_at HB5.out (Ext.refl _)
    go_wp2_with fail
    refine (rsame_adv ⟨tn, tst⟩ ⟨tn, tst⟩ _ _ w11 HA1.out HA2.out).mono ?_
    rintro e w12 ⟨he, hE2⟩
    rw [show advEq ⟨tn, tst⟩ ⟨tn, tst⟩ = true from decide_eq_true ⟨rfl, rfl⟩] at he
    subst he
    have hE := hE.trans hE2
    have HB4 := hide (box_at HB4.out hE2).1
    have HR1 := hide (HR1.out.ext hE2)
    have HR2 := hide (HR2.out.ext hE2)
    clear k40 k41 k50 k51 hE2 HA1 HA2 HB5
    obtain ⟨-, k40, k41⟩ := box_at HB4.out (Ext.refl _)
    go_wp2_with fail
    refine (rsamewords_any ws ws _ _ w12 HR1.out HR2.out).mono ?_
    rintro e w13 ⟨he, hE2⟩
    rw [show decide (ws = ws) = true from decide_eq_true rfl] at he
    subst he
    have hE := hE.trans hE2
    clear k40 k41 hE2 HR1 HR2 HB4
    go_wp2_with fail
    refine (awake_any w13).mono ?_
    rintro e w14 ⟨rfl, hE2⟩
    go_wp2_with fail
    go_ret
    exact ⟨rfl, (hE0.trans hE).trans hE2⟩
end Go.Proofs.Ytjgkgcjmcpgiaaa

namespace Go.Proofs.Ytjgkgcjmcpgiaaa
open Go.ChangeShapes Go.WideShapes Go.ChangeAt Go.RowKit

set_option maxRecDepth 100000 in
theorem adversaryKeeps_lifted (os : Os) (started : os.Started) (H : Type) (enc : TypeId × Value → H) :
    ReturnsInHanded {} Try.checked os 6 .any (Rows.adversaryKeepsSpec.pre6 enc Try.prog Try.f6 Rows.adversaryKeepsRow.domain false) (Rows.adversaryKeepsSpec.post enc Try.prog Try.f6 false true false false) := by
  refine returnsInHanded_of_change_sized (C := Try.checked) ownKnob_none started (by kernel_rfl) Try.func6
    (ChangeSpec.witness6 (enc := enc) (C := Try.checked) false ⟨#[], #[.agg #[.int .i64 0, .slice none 0 0], .int .i64 0], []⟩ 8 (by kernel_rfl) (by kernel_rfl) (by kernel_rfl) (by kernel_rfl)) ?_
  intro W base args ds gs before hval0 hW hcnd hsz _
  have hval : ∀ (j : Nat) t v, Try.f6.params[j]? = some t → args[j]? = some v → Value.okWide Try.prog W .any base t v := hval0
  have hW' := hW
  obtain ⟨p, q, hA0, hV, rfl, hfz, hnd⟩ := hW
  have hA : DataW.TrodAll enc Try.prog W 0 (fun _ => true) true Try.f6.params.toList args.toList ds p := hA0
  have hA' := hA
  rw [Try.params6] at hA hval
  obtain ⟨v0, v1, d0, d1, p0, p1, rfl, rfl, rfl, h0, h1⟩ := trodAll_two hA
  obtain ⟨rfl, rfl⟩ := trodVars_none hV
  have hl0 : Light 24 d0 := Light.each hsz (j := 0) rfl rfl
  obtain ⟨A, hAdv⟩ := open_adv (hval 0 _ v0 rfl rfl) h0 hl0
  obtain ⟨s1, rfl, rfl, rfl, _⟩ := open_int Try.underlying3 (hval 1 _ v1 rfl rfl) h1
  have hlt := hW'.lt
  have hcall := keeps_law A v0 s1 W hAdv
  refine hcall.mono fun e W' ⟨he, hE⟩ => ?_
  subst he
  exact ⟨_, rfl, post_of_below (pv := []) hW' (fun _ _ _ => trodAll_mk1 (shut_bool Try.underlying4 _)) (fun sp hs => keep_all hE (by decide +kernel) hA' (fun x hx => hlt x (List.mem_append_left _ hx)) sp (fun x hx => hs x (List.mem_append_left _ hx))) (fun _ _ => rfl) rfl hE.b (ok_one (by kernel_rfl) rfl (okWide_bool_mk Try.underlying4 _))⟩

theorem adversaryKeeps_holds : Rows.AdversaryKeepsSaid :=
  OpenClaim.holds_of_wide 6 Try.f6 rfl rfl rfl rfl rfl rfl rfl ⟨rfl, rfl, rfl, rfl, rfl⟩ rfl rfl rfl rfl rfl (by kernel_rfl) Try.func6 (by kernel_rfl)
    (of_decide_eq_true (by kernel_rfl)) (by unfold Func.isWrapper; first | (rw [if_pos (by decide +kernel)]; kernel_rfl) | (rw [if_neg (by decide +kernel)]; exact ⟨rfl, rfl⟩))
    (fun os started H enc _ => adversaryKeeps_lifted os started H enc)
#print axioms adversaryKeeps_holds
end Go.Proofs.Ytjgkgcjmcpgiaaa
