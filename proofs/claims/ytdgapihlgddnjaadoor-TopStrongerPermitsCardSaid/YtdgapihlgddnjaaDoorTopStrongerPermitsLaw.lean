/-
  'TopStrongerPermits' holds for every input, its table tied to the program's text.
  Conditions: none.
-/
import Derived.Test.YtdgapihlgddnjaaDoorTop07E
import Derived.Test.YtdgapihlgddnjaaDoorOpenT
import Derived.Test.YtdgapihlgddnjaaDoorCards
import Derived.Test.YtdgapihlgddnjaaDoorTie
namespace Go.Proofs.YtdgapihlgddnjaaDoor
open Go.ChangeShapes Go.WideShapes Go.ChangeAt Go.RowKit

set_option maxRecDepth 100000 in
theorem topStrongerPermits_lifted (os : Os) (started : os.Started) (H : Type) (enc : TypeId × Value → H) :
    ReturnsInHanded {} Tryd.checked os 4 .any (fun w args => (Rows.topStrongerPermitsSpec.pre enc Tryd.prog Tryd.f4 [] false w args ∧ laidMetH Tryd.prog laidV w) ∧ sizedMet enc Tryd.prog Tryd.f4 (OpenSpec.ofChange Rows.topStrongerPermitsSpec) false w args)
      (Rows.topStrongerPermitsSpec.post enc Tryd.prog Tryd.f4 false true false false) := by
  refine returnsInHanded_of_change_and (C := Tryd.checked) (X := fun w _ => laidMetH Tryd.prog laidV w) (fun _ _ _ hh h => h.of_heap hh) ownKnob_none started (by kernel_rfl) Tryd.func4
    (ChangeSpec.witness_shaped (enc := enc) (C := Tryd.checked) (os := os) (X := fun w _ => laidMetH Tryd.prog laidV w) false (World.doorLaid Tryd.prog 400 os) #[.agg #[.int .i64 0, .int .i64 0, .int .i64 0, .slice none 0 0], .agg #[.int .i64 0, .int .i64 0, .int .i64 0, .slice none 0 0], .agg #[.int .u8 0, .int .u8 0]] 8 rfl (World.shaped_of_RefB (by kernel_rfl) (by kernel_rfl)) (by kernel_rfl) (by kernel_rfl) (by kernel_rfl) (door_met os _)) ?_
  intro W base args ds gs before hval0 hW _ hsz hL _
  have hval : ∀ (j : Nat) t v, Tryd.f4.params[j]? = some t → args[j]? = some v → Value.okWide Tryd.prog W .any base t v := hval0
  have hW' := hW
  obtain ⟨p, q, hA0, hV, rfl, hfz, hnd⟩ := hW
  have hA : DataW.TrodAll enc Tryd.prog W 0 (fun _ => true) true Tryd.f4.params.toList args.toList ds p := hA0
  have hA' := hA
  rw [Tryd.params4] at hA hval
  obtain ⟨v0, v1, v2, d0, d1, d2, p0, p1, p2, rfl, rfl, rfl, h0, h1, h2⟩ := trodAll_three hA
  obtain ⟨rfl, rfl⟩ := trodVars_none hV
  have hl0 : Light 24 d0 := Light.each hsz (j := 0) rfl rfl
  obtain ⟨e0, he0⟩ := open_task (hval 0 _ v0 rfl rfl) h0 hl0
  have hl1 : Light 24 d1 := Light.each hsz (j := 1) rfl rfl
  obtain ⟨e1, he1⟩ := open_task (hval 1 _ v1 rfl rfl) h1 hl1
  obtain ⟨a2, b2, rfl, hpa2, hpb2⟩ := open_pair (hval 2 _ v2 rfl rfl) h2
  have hlt := hW'.lt
  simp only [List.append_nil] at hW' hlt
  refine (topstr_law e0 e1 v0 v1 a2 b2 W (tab_laid hL) he0 he1 hpa2 hpb2).mono fun e W' ⟨he, hE⟩ => ?_
  subst he
  exact ⟨_, rfl, post_of_below (pv := []) hW' (fun _ _ _ => trodAll_mk1 (shut_bool Tryd.underlying4 _)) (fun sp hs => keep_all hE (by decide +kernel) hA' hlt sp hs) (fun _ _ => rfl) (by simp) hE.b (ok_one (by kernel_rfl) rfl (okWide_bool_mk Tryd.underlying4 _))⟩

theorem topStrongerPermits_row : Rows.TopStrongerPermitsSaid :=
  OpenClaim.holds_of_wide 4 Tryd.f4 rfl rfl rfl rfl rfl rfl rfl ⟨rfl, rfl, rfl, rfl, rfl⟩ rfl rfl rfl rfl rfl (by kernel_rfl) Tryd.func4 (by kernel_rfl)
    (of_decide_eq_true (by kernel_rfl)) (by unfold Func.isWrapper; first | (rw [if_pos (by decide +kernel)]; kernel_rfl) | (rw [if_neg (by decide +kernel)]; exact ⟨rfl, rfl⟩))
    (fun os started H enc _ => topStrongerPermits_lifted os started H enc)
theorem topStrongerPermits_holds : Rows.TopStrongerPermitsCardSaid :=
  Claim7.holds_tied_plain_at .later [] [.data] true Rows.topStrongerPermitsCard.stood.harness false
    topStrongerPermits_row (fun _ h => by cases h) (by kernel_rfl) (fun _ h => by cases h) topStrongerPermits_row_tie rfl ⟨rfl, rfl⟩ (by kernel_rfl) rfl
    (fun f fn hf hfn => by
      obtain rfl : f = 4 := Option.some.inj ((show Tryd.prog.funcNamed "roundtable/roundtabletop.TopStrongerPermits" = some 4 by kernel_rfl).symm.trans hf) |>.symm
      obtain rfl : fn = Tryd.f4 := (Option.some.inj (Tryd.func4.symm.trans hfn)).symm
      exact ⟨by kernel_rfl, fun j t ht => by
        rw [Tryd.params4] at ht
        have hm : t ∈ [24, 24, 40] := by simpa using Array.mem_of_getElem? ht
        have hall : ([24, 24, 40].all fun u => !Tryd.prog.wantsStandIn u) = true := by kernel_rfl
        exact (show Tryd.prog.wantsStandIn t = false by simpa using List.all_eq_true.1 hall t hm)⟩)
    (by kernel_rfl)
#print axioms topStrongerPermits_holds
end Go.Proofs.YtdgapihlgddnjaaDoor
