/-
  'AdversaryContinues' holds for every input: the words with one round less are the beginnings of the words; the state of a word is that of its last step.
  Conditions: none.
-/
import Derived.Test.YtjgkgcjmcpgiaaaContinues
import Derived.Test.YtjgkgcjmcpgiaaaOpen
import Derived.ProofKit
namespace Go.Proofs.Ytjgkgcjmcpgiaaa
open Go.ChangeShapes Go.WideShapes Go.ChangeAt Go.RowKit

set_option maxRecDepth 100000 in
theorem adversaryContinues_lifted (os : Os) (started : os.Started) (H : Type) (enc : TypeId × Value → H) :
    ReturnsInHanded {} Try.checked os 9 .any (Rows.adversaryContinuesSpec.pre6 enc Try.prog Try.f9 Rows.adversaryContinuesRow.domain false) (Rows.adversaryContinuesSpec.post enc Try.prog Try.f9 false true false false) := by
  refine returnsInHanded_of_change_sized (C := Try.checked) ownKnob_none started (by kernel_rfl) Try.func9
    (ChangeSpec.witness6 (enc := enc) (C := Try.checked) false ⟨#[], #[.agg #[.int .i64 0, .slice none 0 0], .int .i64 0], []⟩ 8 (by kernel_rfl) (by kernel_rfl) (by kernel_rfl) (by kernel_rfl)) ?_
  intro W base args ds gs before hval0 hW hcnd hsz _
  have hval : ∀ (j : Nat) t v, Try.f9.params[j]? = some t → args[j]? = some v → Value.okWide Try.prog W .any base t v := hval0
  have hW' := hW
  obtain ⟨p, q, hA0, hV, rfl, hfz, hnd⟩ := hW
  have hA : DataW.TrodAll enc Try.prog W 0 (fun _ => true) true Try.f9.params.toList args.toList ds p := hA0
  have hA' := hA
  rw [Try.params9] at hA hval
  obtain ⟨v0, v1, d0, d1, p0, p1, rfl, rfl, rfl, h0, h1⟩ := trodAll_two hA
  obtain ⟨rfl, rfl⟩ := trodVars_none hV
  have hl0 : Light 24 d0 := Light.each hsz (j := 0) rfl rfl
  obtain ⟨A, hAdv⟩ := open_adv (hval 0 _ v0 rfl rfl) h0 hl0
  obtain ⟨s1, rfl, rfl, rfl, _⟩ := open_int Try.underlying3 (hval 1 _ v1 rfl rfl) h1
  have hlt := hW'.lt
  have hcall := continues_law A v0 s1 W hAdv
  refine hcall.mono fun e W' ⟨he, hE⟩ => ?_
  subst he
  exact ⟨_, rfl, post_of_below (pv := []) hW' (fun _ _ _ => trodAll_mk1 (shut_bool Try.underlying4 _)) (fun sp hs => keep_all hE (by decide +kernel) hA' (fun x hx => hlt x (List.mem_append_left _ hx)) sp (fun x hx => hs x (List.mem_append_left _ hx))) (fun _ _ => rfl) rfl hE.b (ok_one (by kernel_rfl) rfl (okWide_bool_mk Try.underlying4 _))⟩

theorem adversaryContinues_holds : Rows.AdversaryContinuesSaid :=
  OpenClaim.holds_of_wide 9 Try.f9 rfl rfl rfl rfl rfl rfl rfl ⟨rfl, rfl, rfl, rfl, rfl⟩ rfl rfl rfl rfl rfl (by kernel_rfl) Try.func9 (by kernel_rfl)
    (of_decide_eq_true (by kernel_rfl)) (by unfold Func.isWrapper; first | (rw [if_pos (by decide +kernel)]; kernel_rfl) | (rw [if_neg (by decide +kernel)]; exact ⟨rfl, rfl⟩))
    (fun os started H enc _ => adversaryContinues_lifted os started H enc)
#print axioms adversaryContinues_holds
end Go.Proofs.Ytjgkgcjmcpgiaaa
