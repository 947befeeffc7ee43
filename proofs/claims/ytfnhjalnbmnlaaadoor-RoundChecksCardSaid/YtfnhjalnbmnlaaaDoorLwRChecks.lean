/-
  The walk of 'RoundChecks'.
  Conditions: the tables lie in the heap (Tz, Ml).
-/
import Derived.Test.YtfnhjalnbmnlaaaDoorAw15
namespace Go.Proofs.YtfnhjalnbmnlaaaDoor
open Go.RowKit
attribute [local go_sem] Oper.semAt_some

set_option maxRecDepth 100000 in
set_option maxHeartbeats 8000000 in
theorem rchecks_law (a b : Rd) (w : World) (hT : Tz w) (hM : Ml w) : Calls Tryd.prog 9 #[a.v, b.v] w fun e w' => e = .returned (.bool true) ∧ Ext w w' := by
  have HAW := hide (fun W (hE : Ext w W) => awake_any W (hT.ext hE) (Ml.ext hM hE))
  have HC1 := hide (fun W => rcheck_any a W)
  have HC2 := hide (fun W => rrcheck_any a W)
  have HC3 := hide (fun W => rcompare_any a b W)
  have HC4 := hide (fun W => rrcompare_any a b W)
  clear hT hM
  generalize rchk a = x at HC1 HC2
  generalize rcmp a b = y at HC3 HC4
  go_enter Tryd.func9, Tryd.ntmps9
  go_upto_region 1 with fail
  have HBa : Hid (RdBox ((w.alloc (robj a)).alloc (robj b)) w.heap.size a) := (rd_new w a).alloc _
  have HBb : Hid (RdBox ((w.alloc (robj a)).alloc (robj b)) (w.heap.size + 1) b) := by
    have := rd_new (w.alloc (robj a)) b
    rwa [World.size_alloc] at this
  have HE : Hid (Ext w ((w.alloc (robj a)).alloc (robj b))) := ((Ext.refl w).alloc _).alloc _
  generalize (w.alloc (robj a)).alloc (robj b) = W at HBa HBb HE ⊢
  refine wp_region_ext (by kernel_rfl) (by kernel_rfl) ?_
  obtain ⟨c0, c1, c2, c3, c4, c5, c6, cz⟩ := HBa.out.cells
  obtain ⟨d0, d1, d2, d3, d4, d5, d6, dz⟩ := HBb.out.cells
  repeat (go_big_quiet_step ((first | (go_at_call 36; exact Calls.ext_of (HC1.out _)) | (go_at_call 37; exact Calls.ext_of (HC2.out _)) | (go_at_call 38; exact Calls.ext_of (HC3.out _)) | (go_at_call 39; exact Calls.ext_of (HC4.out _)) | (go_at_call 11; exact Calls.ext_of (HAW.out _ (HE.out.trans (ExtOf.h _)))))))
  refine wpQuiet_nil ?_
  rintro w9 ⟨⟨_, hE9⟩, rfl⟩
  have HE := hide (HE.out.trans hE9)
  clear hE9 c0 c1 c2 c3 c4 c5 c6 cz d0 d1 d2 d3 d4 d5 d6 dz
  go_wp2_with fail
  go_ret
  exact ⟨rfl, HE.out⟩
end Go.Proofs.YtfnhjalnbmnlaaaDoor
