/-
  The walk of 'RoundPermutes'.
  Conditions: the tables lie in the heap (Tz, Ml).
-/
import Derived.Test.YtfnhjalnbmnlaaaDoorAw15
import Derived.Test.YtfnhjalnbmnlaaaDoorRdFew
namespace Go.Proofs.YtfnhjalnbmnlaaaDoor
open Go.RowKit
attribute [local go_sem] Oper.semAt_some

set_option maxRecDepth 100000 in
set_option maxHeartbeats 8000000 in
theorem rpermutes_law (r : Rd) (l : List Int) (u : Value) (w : World) (hu : Row icells 1 w u l) (hT : Tz w) (hM : Ml w) : Calls Tryd.prog 3 #[r.v, u] w fun e w' => e = .returned (.bool true) ∧ Ext w w' := by
  have HAW := hide (fun W (hE : Ext w W) => awake_any W (hT.ext hE) (Ml.ext hM hE))
  have HP1 := hide (fun W (hE : Ext w W) => rdpermute_any r l u W (hu.ext hE))
  have HP2 := hide (fun W (hE : Ext w W) => rrdpermute_any r l u W (hu.ext hE))
  clear hT hM
  obtain ⟨p, c, rfl, hc, hlen, -⟩ := hu.int_all
  generalize rpermS r l = res at HP1 HP2
  obtain ⟨q, e⟩ := res
  have heq := eql_rd q q
  rw [decide_eq_true (rfl : q = q)] at heq
  have HEQ := hide heq
  clear hu heq
  go_enter Tryd.func3, Tryd.ntmps3
  go_upto_region 1 with fail
  have HBa : Hid (RdBox (w.alloc (robj r)) w.heap.size r) := rd_new w r
  have HE : Hid (Ext w (w.alloc (robj r))) := (Ext.refl w).alloc _
  generalize w.alloc (robj r) = W at HBa HE ⊢
  generalize w.heap.size = b0 at HBa ⊢
  by_cases h20 : (20 : Int) < (l.length : Int)
  case pos =>
    go_wp2_with fail
    refine (HAW.out _ HE.out).mono ?_
    rintro e w1 ⟨rfl, hE⟩
    have HE := hide (HE.out.trans hE)
    clear hE
    go_wp2_with fail
    go_ret
    exact ⟨rfl, HE.out⟩
  case neg =>
  obtain ⟨c0, c1, c2, c3, c4, c5, c6, cz⟩ := HBa.out.cells
  go_wp2_with fail
  clear c0 c1 c2 c3 c4 c5 c6 cz
  refine (HP1.out _ HE.out).mono ?_
  rintro e1 w1 ⟨rfl, hE⟩
  have HE := hide (HE.out.trans hE)
  have HBa := hide (HBa.out.ext hE)
  clear hE
  go_upto_region 4 with fail
  have HB5 : Hid (RdBox (w1.alloc (robj q)) w1.heap.size q) := rd_new w1 q
  have HE := hide (HE.out.alloc (robj q))
  have HBa := hide (HBa.out.alloc (robj q))
  change Code.wp _ _ _ _ (w1.alloc (robj q))
  generalize w1.alloc (robj q) = W2 at HB5 HE HBa ⊢
  generalize w1.heap.size = b5 at HB5 ⊢
  obtain ⟨c0, c1, c2, c3, c4, c5, c6, cz⟩ := HBa.out.cells
  go_wp2_with fail
  clear c0 c1 c2 c3 c4 c5 c6 cz
  refine (HP2.out _ HE.out).mono ?_
  rintro e1 w3 ⟨rfl, hE⟩
  have HE := hide (HE.out.trans hE)
  have HB5 := hide (HB5.out.ext hE)
  clear hE HBa
  go_upto_region 5 with fail
  have HB7 : Hid (RdBox (w3.alloc (robj q)) w3.heap.size q) := rd_new w3 q
  have HE := hide (HE.out.alloc (robj q))
  have HB5 := hide (HB5.out.alloc (robj q))
  change Code.wp _ _ _ _ (w3.alloc (robj q))
  generalize w3.alloc (robj q) = W4 at HB5 HB7 HE ⊢
  generalize w3.heap.size = b7 at HB7 ⊢
  obtain ⟨c0, c1, c2, c3, c4, c5, c6, cz⟩ := HB5.out.cells
  obtain ⟨d0, d1, d2, d3, d4, d5, d6, dz⟩ := HB7.out.cells
  have heq := HEQ.out
  go_wp2_with fail
  clear c0 c1 c2 c3 c4 c5 c6 cz d0 d1 d2 d3 d4 d5 d6 dz
  refine (HAW.out _ HE.out).mono ?_
  rintro e1 w5 ⟨rfl, hE⟩
  have HE := hide (HE.out.trans hE)
  clear hE
  go_wp2_with fail
  go_ret
  exact ⟨rfl, HE.out⟩
end Go.Proofs.YtfnhjalnbmnlaaaDoor
