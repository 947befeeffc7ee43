/-
  A word is permitted by Partition exactly if nobody is faulty, in each round two processes hear each other exactly if they hear the same processes, and in at most k rounds somebody does not hear everybody; and by Snapshot exactly if in each round what processes hear can be compared, and contains what those hear whom they hear.
  Conditions: none.
-/
import Derived.Test.YtnhgdjiljjpgmaaTopDW
import Derived.Test.YtnhgdjiljjpgmaaOpenB
import Derived.ProofKit
namespace Go.Proofs.Ytnhgdjiljjpgmaa
open Go.ChangeShapes Go.WideShapes Go.ChangeAt Go.RowKit

set_option maxRecDepth 100000 in
theorem topDivisionsDefined_lifted (os : Os) (started : os.Started) (H : Type) (enc : TypeId × Value → H) :
    ReturnsInHanded {} Try.checked os 4 .any (Rows.topDivisionsDefinedSpec.pre6 enc Try.prog Try.f4 Rows.topDivisionsDefinedRow.domain false) (Rows.topDivisionsDefinedSpec.post enc Try.prog Try.f4 false true false false) := by
  refine returnsInHanded_of_change_sized (C := Try.checked) ownKnob_none started (by kernel_rfl) Try.func4
    (ChangeSpec.witness6 (enc := enc) (C := Try.checked) false ⟨#[], #[.int .u8 0, .slice none 0 0], []⟩ 8 (by kernel_rfl) (by kernel_rfl) (by kernel_rfl) (by kernel_rfl)) ?_
  intro W base args ds gs before hval0 hW hcnd hsz _
  have hval : ∀ (j : Nat) t v, Try.f4.params[j]? = some t → args[j]? = some v → Value.okWide Try.prog W .any base t v := hval0
  have hW' := hW
  obtain ⟨p, q, hA0, hV, rfl, hfz, hnd⟩ := hW
  have hA : DataW.TrodAll enc Try.prog W 0 (fun _ => true) true Try.f4.params.toList args.toList ds p := hA0
  have hA' := hA
  rw [Try.params4] at hA hval
  obtain ⟨v0, v1, d0, d1, p0, p1, rfl, rfl, rfl, h0, h1⟩ := trodAll_two hA
  obtain ⟨rfl, rfl⟩ := trodVars_none hV
  obtain ⟨s0, rfl, hs0⟩ := open_u8 (hval 0 _ v0 rfl rfl) h0
  have hl1 : Light 22 d1 := Light.each hsz (j := 1) rfl rfl
  obtain ⟨qa1, qn1, qc1, rfl⟩ := okWide_slice Try.underlying22 (hval 1 _ v1 rfl rfl)
  obtain ⟨l1, hRow1⟩ := open_rds h1 rfl hl1
  have hlt := hW'.lt
  have hcall := topdiv_law s0 _ l1 W hs0 hRow1
  refine hcall.mono fun e W' ⟨he, hE⟩ => ?_
  subst he
  exact ⟨_, rfl, post_of_below (pv := []) hW' (fun _ _ _ => trodAll_mk1 (shut_bool Try.underlying4 _)) (fun sp hs => keep_all hE (by decide +kernel) hA' (fun x hx => hlt x (List.mem_append_left _ hx)) sp (fun x hx => hs x (List.mem_append_left _ hx))) (fun _ _ => rfl) rfl hE.b (ok_one (by kernel_rfl) rfl (okWide_bool_mk Try.underlying4 _))⟩

theorem topDivisionsDefined_holds : Rows.TopDivisionsDefinedSaid :=
  OpenClaim.holds_of_wide 4 Try.f4 rfl rfl rfl rfl rfl rfl rfl ⟨rfl, rfl, rfl, rfl, rfl⟩ rfl rfl rfl rfl rfl (by kernel_rfl) Try.func4 (by kernel_rfl)
    (of_decide_eq_true (by kernel_rfl)) (by unfold Func.isWrapper; first | (rw [if_pos (by decide +kernel)]; kernel_rfl) | (rw [if_neg (by decide +kernel)]; exact ⟨rfl, rfl⟩))
    (fun os started H enc _ => topDivisionsDefined_lifted os started H enc)
#print axioms topDivisionsDefined_holds
end Go.Proofs.Ytnhgdjiljjpgmaa
