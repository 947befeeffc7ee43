/-
  A renamed word is permitted exactly if the word is.
  Conditions: none.
-/
import Derived.Test.YtdlhnpogddpmpaaGreatRenLaw17
import Derived.Test.YtdlhnpogddpmpaaGreatOpenB
import Derived.ProofKit
namespace Go.Proofs.YtdlhnpogddpmpaaGreat
open Go.ChangeShapes Go.WideShapes Go.ChangeAt Go.RowKit

set_option maxRecDepth 100000 in
theorem failureRenames_lifted (os : Os) (started : os.Started) (H : Type) (enc : TypeId × Value → H) :
    ReturnsInHanded {} Tryz.checked os 6 .any (Rows.failureRenamesSpec.pre6 enc Tryz.prog Tryz.f6 Rows.failureRenamesRow.domain false) (Rows.failureRenamesSpec.post enc Tryz.prog Tryz.f6 false true false false) := by
  refine returnsInHanded_of_change_sized (C := Tryz.checked) ownKnob_none started (by kernel_rfl) Tryz.func6
    (ChangeSpec.witness6 (enc := enc) (C := Tryz.checked) false ⟨#[], #[.int .u8 0, .slice none 0 0, .slice none 0 0], []⟩ 8 (by kernel_rfl) (by kernel_rfl) (by kernel_rfl) (by kernel_rfl)) ?_
  intro W base args ds gs before hval0 hW hcnd hsz _
  have hval : ∀ (j : Nat) t v, Tryz.f6.params[j]? = some t → args[j]? = some v → Value.okWide Tryz.prog W .any base t v := hval0
  have hW' := hW
  obtain ⟨p, q, hA0, hV, rfl, hfz, hnd⟩ := hW
  have hA : DataW.TrodAll enc Tryz.prog W 0 (fun _ => true) true Tryz.f6.params.toList args.toList ds p := hA0
  have hA' := hA
  rw [Tryz.params6] at hA hval
  obtain ⟨v0, v1, v2, d0, d1, d2, p0, p1, p2, rfl, rfl, rfl, h0, h1, h2⟩ := trodAll_three hA
  obtain ⟨rfl, rfl⟩ := trodVars_none hV
  obtain ⟨s0, rfl, hs0⟩ := open_u8 (hval 0 _ v0 rfl rfl) h0
  have hl1 : Light 48 d1 := Light.each hsz (j := 1) rfl rfl
  obtain ⟨l1, hRow1⟩ := open_ints_ (hval 1 _ v1 rfl rfl) h1 hl1
  have hl2 : Light 33 d2 := Light.each hsz (j := 2) rfl rfl
  obtain ⟨qa2, qn2, qc2, rfl⟩ := okWide_slice Tryz.underlying33 (hval 2 _ v2 rfl rfl)
  obtain ⟨l2, hRow2⟩ := open_rds h2 rfl hl2
  have hlt := hW'.lt
  have hcall := failureRenames_law s0 v1 l1 _ l2 W hs0 hRow1 hRow2
  refine hcall.mono fun e W' ⟨he, hE⟩ => ?_
  subst he
  exact ⟨_, rfl, post_of_below (pv := []) hW' (fun _ _ _ => trodAll_mk1 (shut_bool Tryz.underlying4 _)) (fun sp hs => keep_all hE (by decide +kernel) hA' (fun x hx => hlt x (List.mem_append_left _ hx)) sp (fun x hx => hs x (List.mem_append_left _ hx))) (fun _ _ => rfl) rfl hE.b (ok_one (by kernel_rfl) rfl (okWide_bool_mk Tryz.underlying4 _))⟩

theorem failureRenames_holds : Rows.FailureRenamesSaid :=
  OpenClaim.holds_of_wide 6 Tryz.f6 rfl rfl rfl rfl rfl rfl rfl ⟨rfl, rfl, rfl, rfl, rfl⟩ rfl rfl rfl rfl rfl (by kernel_rfl) Tryz.func6 (by kernel_rfl)
    (of_decide_eq_true (by kernel_rfl)) (by unfold Func.isWrapper; first | (rw [if_pos (by decide +kernel)]; kernel_rfl) | (rw [if_neg (by decide +kernel)]; exact ⟨rfl, rfl⟩))
    (fun os started H enc _ => failureRenames_lifted os started H enc)
#print axioms failureRenames_holds
end Go.Proofs.YtdlhnpogddpmpaaGreat
