/-
  'RoundJoins' holds for every input, its tables tied to the program's text.
  Conditions: none.
-/
import Derived.Test.YtfnhjalnbmnlaaaDoorLwRJoins
import Derived.Test.YtfnhjalnbmnlaaaDoorLift03
import Derived.Test.YtfnhjalnbmnlaaaDoorCards
import Derived.Test.YtfnhjalnbmnlaaaDoorTie
namespace Go.Proofs.YtfnhjalnbmnlaaaDoor
open Go.ChangeShapes Go.WideShapes Go.ChangeAt Go.RowKit

set_option maxRecDepth 100000 in
theorem roundJoins_lifted (os : Os) (started : os.Started) (H : Type) (enc : TypeId × Value → H) :
    ReturnsInHanded {} Tryd.checked os 6 .any (fun w args => (Rows.roundJoinsSpec.pre enc Tryd.prog Tryd.f6 [] false w args ∧ laidMetH Tryd.prog laidV w) ∧ sizedMet enc Tryd.prog Tryd.f6 (OpenSpec.ofChange Rows.roundJoinsSpec) false w args)
      (Rows.roundJoinsSpec.post enc Tryd.prog Tryd.f6 false true false false) := by
  refine handed_both (C := Tryd.checked) (X := fun w _ => laidMetH Tryd.prog laidV w) (fun _ _ _ hh h => h.of_heap hh) ownKnob_none started (by kernel_rfl) Tryd.func6
    (ChangeSpec.witness_shaped (enc := enc) (C := Tryd.checked) (os := os) (X := fun w _ => laidMetH Tryd.prog laidV w) false (World.laidAll Tryd.prog os laidV) #[.int .i64 0, .slice none 0 0, .int .u8 0] 8 (World.laidAll_os _ _ _)
      (World.shaped_of_ZipB (by kernel_rfl) (by kernel_rfl)) (by kernel_rfl) (by kernel_rfl) (by kernel_rfl) (all_met os _)) ?_
  intro W base args ds gs before hval0 hW _ hsz hL hsh _
  have hval : ∀ (j : Nat) t v, Tryd.f6.params[j]? = some t → args[j]? = some v → Value.okWide Tryd.prog W .any base t v := hval0
  have hW' := hW
  obtain ⟨p, q, hA0, hV, rfl, hfz, hnd⟩ := hW
  have hA : DataW.TrodAll enc Tryd.prog W 0 (fun _ => true) true Tryd.f6.params.toList args.toList ds p := hA0
  have hA' := hA
  rw [Tryd.params6] at hA hval
  obtain ⟨v0, v1, v2, d0, d1, d2, p0, p1, p2, rfl, rfl, rfl, h0, h1, h2⟩ := trodAll_three hA
  obtain ⟨rfl, rfl⟩ := trodVars_none hV
  obtain ⟨n0, rfl, rfl, -⟩ := open_int Tryd.underlying3 (hval 0 _ v0 rfl rfl) h0
  have hl1 : Light 35 d1 := Light.each hsz (j := 1) rfl rfl
  obtain ⟨qa1, qn1, qc1, rfl⟩ := okWide_slice Tryd.underlying35 (hval 1 _ v1 rfl rfl)
  obtain ⟨l1, hr1⟩ := open_rds h1 rfl hl1
  obtain ⟨n2, rfl, rfl, -, hb2⟩ := open_int Tryd.underlying5 (hval 2 _ v2 rfl rfl) h2
  have hc2 : 0 ≤ n2 ∧ n2 < 256 := by
    have h1 : (decide ((0 : Int) ≤ n2) && decide (n2 ≤ 255)) = true := hb2
    rw [Bool.and_eq_true, decide_eq_true_iff, decide_eq_true_iff] at h1
    omega
  have hlt := hW'.lt
  simp only [List.append_nil] at hW' hlt
  refine (rjoins_law n0 l1 _ n2 hc2.1 hc2.2 W hr1 (tz_laid hL) (ml_shaped hsh)).mono fun e W' ⟨he, hE⟩ => ?_
  subst he
  exact ⟨_, rfl, post_of_below (pv := []) hW' (fun _ _ _ => trodAll_mk1 (shut_bool Tryd.underlying4 _)) (fun sp hs => keep_all hE (by decide +kernel) hA' hlt sp hs) (fun _ _ => rfl) (by simp) hE.b (ok_one (by kernel_rfl) rfl (okWide_bool_mk Tryd.underlying4 _))⟩

theorem roundJoins_row : Rows.RoundJoinsSaid :=
  OpenClaim.holds_of_wide 6 Tryd.f6 rfl rfl rfl rfl rfl rfl rfl ⟨rfl, rfl, rfl, rfl, rfl⟩ rfl rfl rfl rfl rfl (by kernel_rfl) Tryd.func6 (by kernel_rfl)
    (of_decide_eq_true (by kernel_rfl)) (by unfold Func.isWrapper; first | (rw [if_pos (by decide +kernel)]; kernel_rfl) | (rw [if_neg (by decide +kernel)]; exact ⟨rfl, rfl⟩))
    (fun os started H enc _ => roundJoins_lifted os started H enc)
theorem roundJoins_holds : Rows.RoundJoinsCardSaid :=
  Claim7.holds_tied_plain_at .later [] [.data, .data, .data, .pinned] true Rows.roundJoinsCard.stood.harness false
    roundJoins_row (fun _ h => by cases h) (by kernel_rfl) (fun _ h => by cases h) roundJoins_row_tie rfl ⟨rfl, rfl⟩ (by kernel_rfl) rfl
    (fun f fn hf hfn => by
      obtain rfl : f = 6 := Option.some.inj ((show Tryd.prog.funcNamed "roundtable/roundtablelaw15.RoundJoins" = some 6 by kernel_rfl).symm.trans hf) |>.symm
      obtain rfl : fn = Tryd.f6 := (Option.some.inj (Tryd.func6.symm.trans hfn)).symm
      exact ⟨by kernel_rfl, fun j t ht => by
        rw [Tryd.params6] at ht
        have hm : t ∈ [3, 35, 5] := by simpa using Array.mem_of_getElem? ht
        have hall : ([3, 35, 5].all fun u => !Tryd.prog.wantsStandIn u) = true := by kernel_rfl
        exact (show Tryd.prog.wantsStandIn t = false by simpa using List.all_eq_true.1 hall t hm)⟩)
    (by kernel_rfl)
#print axioms roundJoins_holds
end Go.Proofs.YtfnhjalnbmnlaaaDoor
