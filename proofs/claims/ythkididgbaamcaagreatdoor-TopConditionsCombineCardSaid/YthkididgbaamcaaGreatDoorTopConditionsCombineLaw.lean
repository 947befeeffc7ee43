/-
  'TopConditionsCombine' holds for every input, its table tied to the program's text.
  Conditions: none.
-/
import Derived.Test.YthkididgbaamcaaGreatDoorMeetW
import Derived.Test.YthkididgbaamcaaGreatDoorOpenT
import Derived.Test.YthkididgbaamcaaGreatDoorCards
import Derived.Test.YthkididgbaamcaaGreatDoorTie
namespace Go.Proofs.YthkididgbaamcaaGreatDoor
open Go.ChangeShapes Go.WideShapes Go.ChangeAt Go.RowKit

set_option maxRecDepth 100000 in
theorem topConditionsCombine_lifted (os : Os) (started : os.Started) (H : Type) (enc : TypeId × Value → H) :
    ReturnsInHanded {} Tryz.checked os 3 .any (fun w args => (Rows.topConditionsCombineSpec.pre enc Tryz.prog Tryz.f3 [] false w args ∧ laidMetH Tryz.prog laidV w) ∧ sizedMet enc Tryz.prog Tryz.f3 (OpenSpec.ofChange Rows.topConditionsCombineSpec) false w args)
      (Rows.topConditionsCombineSpec.post enc Tryz.prog Tryz.f3 false true false false) := by
  refine returnsInHanded_of_change_and (C := Tryz.checked) (X := fun w _ => laidMetH Tryz.prog laidV w) (fun _ _ _ hh h => h.of_heap hh) ownKnob_none started (by kernel_rfl) Tryz.func3
    (ChangeSpec.witness_shaped (enc := enc) (C := Tryz.checked) (os := os) (X := fun w _ => laidMetH Tryz.prog laidV w) false (World.doorLaid Tryz.prog 400 os) #[.int .u8 0, .agg #[.int .u8 0, .int .u8 0], .agg #[.int .i64 0, .int .i64 0, .slice none 0 0, .int .i64 0, .int .i64 0, .slice none 0 0]] 8 rfl (World.shaped_of_RefB (by kernel_rfl) (by kernel_rfl)) (by kernel_rfl) (by kernel_rfl) (by kernel_rfl) (door_met os _)) ?_
  intro W base args ds gs before hval0 hW _ hsz hL _
  have hval : ∀ (j : Nat) t v, Tryz.f3.params[j]? = some t → args[j]? = some v → Value.okWide Tryz.prog W .any base t v := hval0
  have hW' := hW
  obtain ⟨p, q, hA0, hV, rfl, hfz, hnd⟩ := hW
  have hA : DataW.TrodAll enc Tryz.prog W 0 (fun _ => true) true Tryz.f3.params.toList args.toList ds p := hA0
  have hA' := hA
  rw [Tryz.params3] at hA hval
  obtain ⟨v0, v1, v2, d0, d1, d2, p0, p1, p2, rfl, rfl, rfl, h0, h1, h2⟩ := trodAll_three hA
  obtain ⟨rfl, rfl⟩ := trodVars_none hV
  obtain ⟨a0, rfl, hpa0⟩ := open_byte (hval 0 _ v0 rfl rfl) h0
  obtain ⟨a1, b1, rfl, hpa1, hpb1⟩ := open_pair (hval 1 _ v1 rfl rfl) h1
  have hl2 : Light 26 d2 := Light.each hsz (j := 2) rfl rfl
  obtain ⟨x2, y2, xp2, xc2, yp2, yc2, rfl, hx2, hy2⟩ := open_exprs (hval 2 _ v2 rfl rfl) h2 hl2
  have hlt := hW'.lt
  simp only [List.append_nil] at hW' hlt
  refine (combine_law a0 a1 b1 hpa0 hpa1 hpb1 x2 y2 xp2 xc2 yp2 yc2 W (tab_laid hL) hx2 hy2).mono fun e W' ⟨he, hE⟩ => ?_
  subst he
  exact ⟨_, rfl, post_of_below (pv := []) hW' (fun _ _ _ => trodAll_mk1 (shut_bool Tryz.underlying4 _)) (fun sp hs => keep_all hE (by decide +kernel) hA' hlt sp hs) (fun _ _ => rfl) (by simp) hE.b (ok_one (by kernel_rfl) rfl (okWide_bool_mk Tryz.underlying4 _))⟩

theorem topConditionsCombine_row : Rows.TopConditionsCombineSaid :=
  OpenClaim.holds_of_wide 3 Tryz.f3 rfl rfl rfl rfl rfl rfl rfl ⟨rfl, rfl, rfl, rfl, rfl⟩ rfl rfl rfl rfl rfl (by kernel_rfl) Tryz.func3 (by kernel_rfl)
    (of_decide_eq_true (by kernel_rfl)) (by unfold Func.isWrapper; first | (rw [if_pos (by decide +kernel)]; kernel_rfl) | (rw [if_neg (by decide +kernel)]; exact ⟨rfl, rfl⟩))
    (fun os started H enc _ => topConditionsCombine_lifted os started H enc)
theorem topConditionsCombine_holds : Rows.TopConditionsCombineCardSaid :=
  Claim7.holds_tied_plain_at .later [] [.data] true Rows.topConditionsCombineCard.stood.harness false
    topConditionsCombine_row (fun _ h => by cases h) (by kernel_rfl) (fun _ h => by cases h) topConditionsCombine_row_tie rfl ⟨rfl, rfl⟩ (by kernel_rfl) rfl
    (fun f fn hf hfn => by
      obtain rfl : f = 3 := Option.some.inj ((show Tryz.prog.funcNamed "roundtable/roundtabletop.TopConditionsCombine" = some 3 by kernel_rfl).symm.trans hf) |>.symm
      obtain rfl : fn = Tryz.f3 := (Option.some.inj (Tryz.func3.symm.trans hfn)).symm
      exact ⟨by kernel_rfl, fun j t ht => by
        rw [Tryz.params3] at ht
        have hm : t ∈ [5, 22, 26] := by simpa using Array.mem_of_getElem? ht
        have hall : ([5, 22, 26].all fun u => !Tryz.prog.wantsStandIn u) = true := by kernel_rfl
        exact (show Tryz.prog.wantsStandIn t = false by simpa using List.all_eq_true.1 hall t hm)⟩)
    (by kernel_rfl)
#print axioms topConditionsCombine_holds
end Go.Proofs.YthkididgbaamcaaGreatDoor
