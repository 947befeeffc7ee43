/-
  The reference's evaluation of expressions (roundtableref07.count, Value).
  Conditions: as each theorem states.
-/
import Derived.Test.YthpccmmdkbjjhaaDoorExRef
import Derived.Test.YthpccmmdkbjjhaaDoorSeqO
namespace Go.Proofs.YthpccmmdkbjjhaaDoor
open Go.RowKit

/-- The box of a scene, in a later world. -/
theorem sbox9 {W V : World} {g : Nat} {t : TypeId} {v0 v1 v2 v3 v4 v5 v6 v7 v8 : Value} (hb : W.heap[g]? = some (.cells #[v0, v1, v2, v3, v4, v5, v6, v7, v8] t (0, 0))) (hE : Ext W V) :
    V.cell? ⟨g, 0, none⟩ = some v0 ∧ V.cell? ⟨g, 1, none⟩ = some v1 ∧ V.cell? ⟨g, 2, none⟩ = some v2 ∧ V.cell? ⟨g, 3, none⟩ = some v3 ∧ V.cell? ⟨g, 4, none⟩ = some v4 ∧ V.cell? ⟨g, 5, none⟩ = some v5 ∧
    V.cell? ⟨g, 6, none⟩ = some v6 ∧ V.cell? ⟨g, 7, none⟩ = some v7 ∧ V.cell? ⟨g, 8, none⟩ = some v8 ∧ g < V.heap.size := by
  have h := (hE.b.block _ (lt_of_heap hb)).trans hb
  refine ⟨?_, ?_, ?_, ?_, ?_, ?_, ?_, ?_, ?_, lt_of_heap h⟩ <;> (rw [cell_of_row _ _ _ _ _ _ h]; rfl)
theorem xbox3 {W V : World} {g : Nat} {t : TypeId} {v0 v1 v2 : Value} (hb : W.heap[g]? = some (.cells #[v0, v1, v2] t (0, 0))) (hE : Ext W V) :
    V.cell? ⟨g, 0, none⟩ = some v0 ∧ V.cell? ⟨g, 1, none⟩ = some v1 ∧ V.cell? ⟨g, 2, none⟩ = some v2 ∧ g < V.heap.size := by
  have h := (hE.b.block _ (lt_of_heap hb)).trans hb
  refine ⟨?_, ?_, ?_, lt_of_heap h⟩ <;> (rw [cell_of_row _ _ _ _ _ _ h]; rfl)

theorem Ext.appended' {α : Type} {enc : α → List Value} {size : Nat} {w W W' : World} {base : Nat} {e : TypeId} {v : Value} {l : List α} {o : Obj} (hE : Ext w W) (h : Own enc size W base e v l) (hg : (W.alloc o).grownBy W' v.ownBlock) (hb : w.heap.size ≤ base) : Ext w W' :=
  (hE.alloc o).grown hg (fun k hk => Nat.le_trans hb (h.block_ge k hk))

set_option maxHeartbeats 1000000 in
theorem rcnt_any (op num : Int) (a : Ex) (s : Sc) (vars : List Int) (f : Nat → Int) (v u : Value) (w : World) (hs : s.ok) (hv : ExAt w v (.mk op num [a])) (hu : ScAt w u s vars) (hvl : vars.length ≤ 1000) (hf : ∀ p, p < s.n → 0 ≤ f p ∧ f p ≤ 1)
    (H : ∀ p : Nat, p < s.n → ∀ W u' va, Ext w W → ExAt W va a → ScAt W u' s (vars ++ [(p : Int)]) → Calls Tryd.prog 120 #[va, u'] W fun e' w' => e' = .returned (.int .i64 (f p)) ∧ Ext W w') :
    Calls Tryd.prog 136 #[v, u] w fun e' w' => e' = .returned (.int .i64 (cntTo f s.n)) ∧ Ext w w' := by
  obtain ⟨p, c, rfl, hc, hl, hat⟩ := hv.all_
  simp only [Ex.op, Ex.num, Ex.args, List.length_cons, List.length_nil] at hc hl hat ⊢
  obtain ⟨b, o, rfl, hb, hat⟩ := hat (by omega)
  obtain ⟨q, d, hxc, hxa⟩ := hat 0 (by omega)
  rw [Nat.zero_mul, Nat.add_zero] at hxc
  simp only [List.getD_cons_zero] at hxc hxa
  have HXC := hide hxc
  have HXA := hide hxa
  clear hxc hxa hv
  clear hat
  obtain ⟨si, so, sv, rfl, hi, ho, hvv⟩ := hu
  have HI := hide hi
  have HO := hide ho
  have HV := hide hvv
  obtain ⟨qi, ci, rfl, -⟩ := hi.int_all
  obtain ⟨qo, co, rfl, -⟩ := ho.int_all
  obtain ⟨qv, cv, rfl, -⟩ := hvv.int_all
  clear hi ho hvv
  obtain ⟨s1, s2, -, -, -⟩ := hs
  have HH := hide H
  have HF := hide hf
  clear H hf
  generalize hsn : s.n = sn at *
  have HSN := hide hsn
  clear hsn
  go_enter Tryd.func136, Tryd.ntmps136
  go_wp2_with fail
  obtain ⟨w2, hw2⟩ : ∃ w2, (w.alloc (.cells #[.int .i64 op, .int .i64 num, .slice (some ⟨b, o, none⟩) 1 c] 26)).alloc (.cells #[.int .i64 sn, .slice qi s.inp.length ci, .slice qo s.out.length co, .int .i64 s.h.h0, .int .i64 s.h.h1, .int .i64 s.h.h2, .int .i64 s.h.h3, .int .i64 s.h.h4, .slice qv vars.length cv] 107) = w2 := ⟨_, rfl⟩
  have hE0 : Ext w w2 := by rw [← hw2]; exact ((Ext.refl w).alloc _).alloc _
  have HBX := hide (fun V (hE : Ext w2 V) => xbox3 (g := w.heap.size) (V := V) (by rw [← hw2]; exact (Below.heap_alloc _ _ _ (by simp)).trans (heap_alloc_new w _)) hE)
  have HBS := hide (fun V (hE : Ext w2 V) => sbox9 (g := w.heap.size + 1) (V := V) (by rw [← hw2]; have := heap_alloc_new (w.alloc (.cells #[.int .i64 op, .int .i64 num, .slice (some ⟨b, o, none⟩) 1 c] 26)) (.cells #[.int .i64 sn, .slice qi s.inp.length ci, .slice qo s.out.length co, .int .i64 s.h.h0, .int .i64 s.h.h1, .int .i64 s.h.h2, .int .i64 s.h.h3, .int .i64 s.h.h4, .slice qv vars.length cv] 107); rwa [World.size_alloc] at this) hE)
  rw [hw2]
  clear hw2
  go_loopw [5, 6] (fun n x V => ∃ (k : Nat), k ≤ sn ∧ x = .int .i64 k ∧ n = .int .i64 (cntTo f k) ∧ Ext w2 V) (fun _ x _ => sn - (intOf x).toNat)
  case atStart => exact ⟨0, by omega, rfl, rfl, Ext.refl _⟩
  case round =>
    obtain ⟨k, hk, rfl, rfl, hE⟩ := hrel
    have hEr := hE0.trans hE
    have hfb := cntTo_bd (f := f) (n := k) (fun p hp => HF.out p (by omega))
    obtain ⟨c0, c1, c2, hz⟩ := HBX.out _ hE
    obtain ⟨d0, d1, d2, d3, d4, d5, d6, d7, d8, hzs⟩ := HBS.out _ hE
    by_cases hlt : k < sn
    · have HV2 := hide (HV.out.ext hEr)
      have hN := HF.out k hlt
      have HN := hide (show cntTo f (k + 1) = cntTo f k + f k from rfl)
      generalize cntTo f k = ck at hfb HN ⊢
      have hW0 : Ext wr (wr.alloc (.cells #[.int .i64 sn, .slice qi s.inp.length ci, .slice qo s.out.length co, .int .i64 s.h.h0, .int .i64 s.h.h1, .int .i64 s.h.h2, .int .i64 s.h.h3, .int .i64 s.h.h4, .slice qv vars.length cv] 107)) := (Ext.refl wr).alloc _
      have tok : True := trivial
      go_wp2_with (first
        | (at_builtin
           have _t := tok
           refine wpList_appendN rfl (.tmp 15) (.tmp 17) 38 rfl (wr.heap.size + 1) 3 (.int .i64 0) 1 8 Tryd.underlying38 int_info rfl (by decide) _ ([] : List Int) _ vars rfl (Own.empty (fun _ => rfl) (Nat.le_refl _) (by have := heap_alloc_new (wr.alloc (.cells #[.int .i64 sn, .slice qi s.inp.length ci, .slice qo s.out.length co, .int .i64 s.h.h0, .int .i64 s.h.h1, .int .i64 s.h.h2, .int .i64 s.h.h3, .int .i64 s.h.h4, .slice qv vars.length cv] 107)) (.cells #[] 3); rwa [World.size_alloc] at this)) rfl (HV2.out.ext (((Ext.refl wr).alloc _).alloc _)) int_one (by simp; omega) (by decide) (by simp) ?_
           intro v' w' hown' hg
           clear tok
           have hE5 : Ext (wr.alloc (.cells #[.int .i64 sn, .slice qi s.inp.length ci, .slice qo s.out.length co, .int .i64 s.h.h0, .int .i64 s.h.h1, .int .i64 s.h.h2, .int .i64 s.h.h3, .int .i64 s.h.h4, .slice qv vars.length cv] 107)) w' := ((Ext.refl _).alloc _).grown hg (fun k hk => by cases hk; simp)
           rw [List.nil_append] at hown')
        | (at_builtin
           refine wpList_append1 rfl (.tmp 18) (.tmp 20) 38 rfl (wr.heap.size + 1) 3 (.int .i64 0) 1 8 Tryd.underlying38 int_info rfl (by decide) _ vars (k : Int) w'.heap.size rfl (hown'.alloc _) rfl (cell_new1 _ _ _) (int_one _) (by omega) (by decide) (by have := hE5.size; simp at this ⊢; omega) ?_
           intro v'' w'' hown'' hg' hform
           have hE6 : Ext (wr.alloc (.cells #[.int .i64 sn, .slice qi s.inp.length ci, .slice qo s.out.length co, .int .i64 s.h.h0, .int .i64 s.h.h1, .int .i64 s.h.h2, .int .i64 s.h.h3, .int .i64 s.h.h4, .slice qv vars.length cv] 107)) w'' := hE5.appended' hown' hg' (by simp)
           have hblk := (hE6.b.block _ (by simp)).trans (heap_alloc_new wr _)
           have hcz := cell_of_row w'' wr.heap.size 8 _ _ _ hblk
           have hfz := frozen_of (j := 8) hblk
           obtain ⟨g', c', rfl, -⟩ := hform
           clear hown' hg' hE5))
      have hr9 := hown''.set_other (a := ⟨wr.heap.size, 8, none⟩) (by simp) (.slice (some ⟨g', 0, none⟩) (vars.length + 1) c')
      have hb9 := heap_set (j := 8) hblk (.slice (some ⟨g', 0, none⟩) (vars.length + 1) c')
      have hE9 : Ext wr (w''.setCell ⟨wr.heap.size, 8, none⟩ (.slice (some ⟨g', 0, none⟩) (vars.length + 1) c')) := (hW0.trans hE6).setCell (by simp) _
      clear hown'' hblk hcz hfz hE6 hW0
      generalize w''.setCell ⟨wr.heap.size, 8, none⟩ (.slice (some ⟨g', 0, none⟩) (vars.length + 1) c') = w3 at hr9 hb9 hE9 ⊢
      clear c0 c1 c2 hz d0 d1 d2 d3 d4 d5 d6 d7 d8 hzs
      have hE3 := hE.trans hE9
      have hEr3 := hE0.trans hE3
      obtain ⟨c0, c1, c2, hz⟩ := HBX.out _ hE3
      obtain ⟨y0, y1, y2, y3, y4, y5, y6, y7, y8, hy⟩ := sbox9 hb9 (Ext.refl _)
      have HR9 := hide (hr9.row (by simp; omega))
      obtain ⟨x0, x1, x2⟩ := HXC.out
      have x0 := x0 _ hEr3
      have x1 := x1 _ hEr3
      have x2 := x2 _ hEr3
      have hb3 : b < w3.heap.size := Nat.lt_of_lt_of_le hb hEr3.size
      have HC := hide (fun W (hW : Ext w3 W) => HH.out k hlt W (.agg #[.int .i64 sn, .slice qi s.inp.length ci, .slice qo s.out.length co, .int .i64 s.h.h0, .int .i64 s.h.h1, .int .i64 s.h.h2, .int .i64 s.h.h3, .int .i64 s.h.h4, .slice (some ⟨g', 0, none⟩) (vars.length + 1) c']) _ (hEr3.trans hW) (HXA.out.ext (hEr3.trans hW)) ⟨_, _, _, by rw [HSN.out], HI.out.ext (hEr3.trans hW), HO.out.ext (hEr3.trans hW), HR9.out.ext hW⟩)
      clear hr9 hb9
      generalize f k = fk at HC HN hN
      refine wp_region_ext (by kernel_rfl) (by kernel_rfl) ?_
      repeat (go_big_quiet_step ((go_at_call 120; exact Calls.ext_of (HC.out _ (by simp [go_sem])))))
      refine wpQuiet_nil ?_
      rintro w9 ⟨⟨_, hE10⟩, rfl⟩
      clear x0 x1 x2 c0 c1 c2 y0 y1 y2 y3 y4 y5 y6 y7 y8
      go_wp2_with fail
      go_roundw
      case rel => exact ⟨k + 1, by omega, by go_num, by rw [HN.out], hE3.trans hE10⟩
      case measure => simp [intOf]; omega
    · obtain rfl : k = sn := by omega
      generalize hck : cntTo f k = ck at hfb ⊢
      have HCK := hide hck
      clear hck
      go_wp2_with fail
      go_ret
      exact ⟨ret_int HCK.out.symm, hEr⟩
end Go.Proofs.YthpccmmdkbjjhaaDoor
