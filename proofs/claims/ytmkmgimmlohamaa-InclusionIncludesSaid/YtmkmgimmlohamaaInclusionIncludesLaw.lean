/-
  The law of chapter 20 on Includes and Simulation.
  Conditions: none.
-/
import Derived.Test.YtmkmgimmlohamaaIncInc
import Derived.Test.YtmkmgimmlohamaaOpen
import Derived.ProofKit
namespace Go.Proofs.Ytmkmgimmlohamaa
open Go.ChangeShapes Go.WideShapes Go.ChangeAt Go.RowKit

set_option maxRecDepth 100000 in
theorem inclusionIncludes_lifted (os : Os) (started : os.Started) (H : Type) (enc : TypeId × Value → H) :
    ReturnsInHanded {} Try.checked os 3 .any (Rows.inclusionIncludesSpec.pre6 enc Try.prog Try.f3 Rows.inclusionIncludesRow.domain false) (Rows.inclusionIncludesSpec.post enc Try.prog Try.f3 false true false false) := by
  refine returnsInHanded_of_change_sized (C := Try.checked) ownKnob_none started (by kernel_rfl) Try.func3
    (ChangeSpec.witness6 (enc := enc) (C := Try.checked) false ⟨#[], #[.agg #[.int .i64 0, .slice none 0 0], .agg #[.int .i64 0, .slice none 0 0]], []⟩ 8 (by kernel_rfl) (by kernel_rfl) (by kernel_rfl) (by kernel_rfl)) ?_
  intro W base args ds gs before hval0 hW hcnd hsz _
  have hval : ∀ (j : Nat) t v, Try.f3.params[j]? = some t → args[j]? = some v → Value.okWide Try.prog W .any base t v := hval0
  have hW' := hW
  obtain ⟨p, q, hA0, hV, rfl, hfz, hnd⟩ := hW
  have hA : DataW.TrodAll enc Try.prog W 0 (fun _ => true) true Try.f3.params.toList args.toList ds p := hA0
  have hA' := hA
  rw [Try.params3] at hA hval
  obtain ⟨v0, v1, d0, d1, p0, p1, rfl, rfl, rfl, h0, h1⟩ := trodAll_two hA
  obtain ⟨rfl, rfl⟩ := trodVars_none hV
  have hl0 : Light 24 d0 := Light.each hsz (j := 0) rfl rfl
  obtain ⟨A0, hAdv0⟩ := open_adv (hval 0 _ v0 rfl rfl) h0 hl0
  have hl1 : Light 24 d1 := Light.each hsz (j := 1) rfl rfl
  obtain ⟨A1, hAdv1⟩ := open_adv (hval 1 _ v1 rfl rfl) h1 hl1
  have hlt := hW'.lt
  have hcall := inclusionIncludes_law A0 v0 A1 v1 W hAdv0 hAdv1
  refine hcall.mono fun e W' ⟨he, hE⟩ => ?_
  subst he
  exact ⟨_, rfl, post_of_below (pv := []) hW' (fun _ _ _ => trodAll_mk1 (shut_bool Try.underlying4 _)) (fun sp hs => keep_all hE (by decide +kernel) hA' (fun x hx => hlt x (List.mem_append_left _ hx)) sp (fun x hx => hs x (List.mem_append_left _ hx))) (fun _ _ => rfl) rfl hE.b (ok_one (by kernel_rfl) rfl (okWide_bool_mk Try.underlying4 _))⟩

theorem inclusionIncludes_holds : Rows.InclusionIncludesSaid :=
  OpenClaim.holds_of_wide 3 Try.f3 rfl rfl rfl rfl rfl rfl rfl ⟨rfl, rfl, rfl, rfl, rfl⟩ rfl rfl rfl rfl rfl (by kernel_rfl) Try.func3 (by kernel_rfl)
    (of_decide_eq_true (by kernel_rfl)) (by unfold Func.isWrapper; first | (rw [if_pos (by decide +kernel)]; kernel_rfl) | (rw [if_neg (by decide +kernel)]; exact ⟨rfl, rfl⟩))
    (fun os started H enc _ => inclusionIncludes_lifted os started H enc)
#print axioms inclusionIncludes_holds
end Go.Proofs.Ytmkmgimmlohamaa
