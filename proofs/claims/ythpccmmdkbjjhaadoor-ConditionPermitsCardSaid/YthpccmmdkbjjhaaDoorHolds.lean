/-
  Whether a condition, which may be absent, holds (condition.holds, Inputs$1, Outputs$2; roundtableref13.Holds).
  Conditions: as each theorem states.
-/
import Derived.Test.YthpccmmdkbjjhaaDoorCond3
namespace Go.Proofs.YthpccmmdkbjjhaaDoor
open Go.RowKit

def holdsB (s : Sc) (e : Ex) : Bool := absentE e || truthB s e
set_option maxHeartbeats 1000000 in
theorem holds_any (s : Sc) (hs : s.ok) (e : Ex) (v u : Value) (w : World) (hT : Tab w) (hv : ExAt w v e) (hn : e.nodes ≤ 100000) (hu : ScAt w u s []) :
    Calls Tryd.prog 48 #[v, u] w fun e' w' => e' = .returned (.bool (holdsB s e)) ∧ Ext w w' := by
  have HA := hide (fun W (hW : Ext w W) => absent_any e v W (hv.ext hW))
  have HE := hide (fun W (hW : Ext w W) => ptruth_ex s hs e v u W (hT.ext hW) (hv.ext hW) hn (hu.ext hW))
  obtain ⟨p, c, rfl, hc, hl⟩ := hv.form
  obtain ⟨si, so, sv, rfl, hi, ho, hvv⟩ := hu
  obtain ⟨qi, ci, rfl, -⟩ := hi.int_all
  obtain ⟨qo, co, rfl, -⟩ := ho.int_all
  obtain ⟨qv, cv, rfl, -⟩ := hvv.int_all
  clear hv hi ho hvv hs hn hT
  obtain ⟨w2, hw2⟩ : ∃ w2, (w.alloc (.cells #[.int .i64 e.op, .int .i64 e.num, .slice p e.args.length c] 26)).alloc (.cells #[.int .i64 s.n, .slice qi s.inp.length ci, .slice qo s.out.length co, .int .i64 s.h.h0, .int .i64 s.h.h1, .int .i64 s.h.h2, .int .i64 s.h.h3, .int .i64 s.h.h4, .slice qv 0 cv] 80) = w2 := ⟨_, rfl⟩
  have hE0 : Ext w w2 := by rw [← hw2]; exact ((Ext.refl w).alloc _).alloc _
  have HBX := hide (fun V (hE : Ext w2 V) => xbox3 (g := w.heap.size) (V := V) (by rw [← hw2]; exact (Below.heap_alloc _ _ _ (by simp)).trans (heap_alloc_new w _)) hE)
  have HBS := hide (fun V (hE : Ext w2 V) => sbox9 (g := w.heap.size + 1) (V := V) (by rw [← hw2]; have := heap_alloc_new (w.alloc (.cells #[.int .i64 e.op, .int .i64 e.num, .slice p e.args.length c] 26)) (.cells #[.int .i64 s.n, .slice qi s.inp.length ci, .slice qo s.out.length co, .int .i64 s.h.h0, .int .i64 s.h.h1, .int .i64 s.h.h2, .int .i64 s.h.h3, .int .i64 s.h.h4, .slice qv 0 cv] 80); rwa [World.size_alloc] at this) hE)
  have HW2 := hide hw2
  clear hw2
  unfold holdsB
  generalize truthB s e = tb at HE ⊢
  cases ha : absentE e with
  | true =>
    rw [ha] at HA
    clear ha HE
    go_enter Tryd.func48, Tryd.ntmps48
    go_wp2_with fail
    rw [HW2.out]
    refine (HA.out _ hE0).mono ?_
    rintro e' w3 ⟨rfl, hE3⟩
    go_wp2_with fail
    go_ret
    exact ⟨rfl, hE0.trans hE3⟩
  | false =>
    rw [ha] at HA
    rw [Bool.false_or]
    clear ha
    go_enter Tryd.func48, Tryd.ntmps48
    go_wp2_with fail
    rw [HW2.out]
    refine (HA.out _ hE0).mono ?_
    rintro e' w3 ⟨rfl, hE3⟩
    obtain ⟨c0, c1, c2, hz⟩ := HBX.out _ hE3
    obtain ⟨d0, d1, d2, d3, d4, d5, d6, d7, d8, hzs⟩ := HBS.out _ hE3
    go_wp2_with fail
    refine (HE.out _ (hE0.trans hE3)).mono ?_
    rintro e' w4 ⟨rfl, hE4⟩
    go_wp2_with fail
    go_ret
    exact ⟨rfl, (hE0.trans hE3).trans hE4⟩
set_option maxHeartbeats 1000000 in
theorem rholds_any (s : Sc) (hs : s.ok) (hz : s.h = ⟨0, 0, 0, 0, 0, 0⟩) (e : Ex) (v vi vo : Value) (w : World) (hv : ExAt w v e) (hn : e.nodes ≤ 100000) (hi : Row icells 1 w vi s.inp) (ho : Row icells 1 w vo s.out) :
    Calls Tryd.prog 51 #[v, .int .i64 s.n, vi, vo] w fun e' w' => e' = .returned (.bool (holdsB s e)) ∧ Ext w w' := by
  have HA := hide (fun W (hW : Ext w W) => rabsent_any e v W (hv.ext hW))
  have HE := hide (fun W (hW : Ext w W) u hu => rtruth_ex s hs e v u W (hv.ext hW) hn hu)
  have HSC := hide (fun W (hW : Ext w W) => (show ScAt W (.agg #[.int .i64 s.n, vi, vo, .int .i64 0, .int .i64 0, .int .i64 0, .int .i64 0, .int .i64 0, .slice none 0 0]) s [] from ⟨vi, vo, .slice none 0 0, by rw [hz], hi.ext hW, ho.ext hW, Row.nil _ _ _⟩))
  obtain ⟨p, c, rfl, hc, hl⟩ := hv.form
  obtain ⟨qi, ci, rfl, -⟩ := hi.int_all
  obtain ⟨qo, co, rfl, -⟩ := ho.int_all
  clear hv hi ho hs hn hz
  have hE0 : Ext w (w.alloc (.cells #[.int .i64 e.op, .int .i64 e.num, .slice p e.args.length c] 26)) := (Ext.refl w).alloc _
  have HB := hide (fun w1 => xbox w e.op e.num (.slice p e.args.length c) (w1 := w1))
  unfold holdsB
  generalize truthB s e = tb at HE ⊢
  cases ha : absentE e with
  | true =>
    rw [ha] at HA
    clear ha HE
    go_enter Tryd.func51, Tryd.ntmps51
    go_wp2_with fail
    refine (HA.out _ hE0).mono ?_
    rintro e' w3 ⟨rfl, hE3⟩
    go_wp2_with fail
    go_ret
    exact ⟨rfl, hE0.trans hE3⟩
  | false =>
    rw [ha] at HA
    rw [Bool.false_or]
    clear ha
    go_enter Tryd.func51, Tryd.ntmps51
    go_wp2_with fail
    refine (HA.out _ hE0).mono ?_
    rintro e' w3 ⟨rfl, hE3⟩
    obtain ⟨c0, c1, c2, hz⟩ := HB.out _ hE3
    go_wp2_with fail
    refine (HE.out _ (hE0.trans hE3) _ (HSC.out _ (hE0.trans hE3))).mono ?_
    rintro e' w4 ⟨rfl, hE4⟩
    go_wp2_with fail
    go_ret
    exact ⟨rfl, (hE0.trans hE3).trans hE4⟩
end Go.Proofs.YthpccmmdkbjjhaaDoor
