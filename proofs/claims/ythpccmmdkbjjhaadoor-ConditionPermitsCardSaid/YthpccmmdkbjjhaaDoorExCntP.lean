/-
  The program's count over the processes (expr.evaluator$3).
  Conditions: as each theorem states.
-/
import Derived.Test.YthpccmmdkbjjhaaDoorExEnv
import Derived.ArgAppend
import Derived.IntWalk
namespace Go.Proofs.YthpccmmdkbjjhaaDoor
open Go.RowKit

theorem icells_flat (l : List Int) : (l.flatMap icells).length = l.length := by
  induction l with
  | nil => rfl
  | cons x l ih => rw [List.flatMap_cons, List.length_append, ih]; simp; omega
theorem icells_at (l : List Int) (j : Nat) (u : Value) (h : (l.flatMap icells)[j]? = some u) : j < l.length ∧ u = .int .i64 (l.getD j 0) := by
  have hj : j < l.length := by
    rcases Nat.lt_or_ge j (l.flatMap icells).length with h1 | h1
    · rwa [icells_flat] at h1
    · rw [List.getElem?_eq_none h1] at h; cases h
  have h2 := flat_get (enc := icells) (size := 1) (fun _ => rfl) l j 0 _ (List.getElem?_eq_getElem hj) (by omega)
  rw [Nat.mul_one, Nat.add_zero, h] at h2
  refine ⟨hj, ?_⟩
  rw [List.getD_eq_getElem?_getD, List.getElem?_eq_getElem hj]
  simpa using h2
/-- append of a number to a full slice of numbers. -/
theorem wpList_append_full {P : Program} (w : World) {ops : Array Oper} {rest : List Oper} {o : Oper} {a : Act} {Q : Exit → Act → World → Prop} (hg : o.guard = none) (s x : Operand) (t : TypeId)
    (hop : o.op = Op.call { callee := Callee.builtin Builtin.append, args := #[s, x], argTypes := #[t, t] }) (e : TypeId) (ht : P.underlying t = some (.slice e)) (hi : (P.info? e).map (fun i => (i.zero, i.size, i.bytes)) = some (some (.int .i64 0), 1, 8))
    (q : Option Addr) (l : List Int) (c : Nat) (y : Int) (g : Nat) (hs : a.eval s = .slice q l.length l.length) (hl : Row icells 1 w (.slice q l.length c) l) (hx : a.eval x = .slice (some ⟨g, 0, none⟩) 1 1)
    (hnew : w.cell? ⟨g, 0, none⟩ = some (.int .i64 y)) (hlen : l.length ≤ 100000)
    (hK : ∀ v' w', Own icells 1 w' w.heap.size e v' (l ++ [y]) → w.grownBy w' none → wpList P ops Q rest (a.put o.dst v') w') : wpList P ops Q (o :: rest) a w := by
  cases hq : P.info? e with
  | none => rw [hq] at hi; cases hi
  | some i =>
    rw [hq] at hi
    simp only [Option.map_some, Option.some.injEq, Prod.mk.injEq] at hi
    obtain ⟨hz, hsize, hby⟩ := hi
    obtain ⟨p', c', hv, hc, _, hat⟩ := hl.int_all
    injection hv with e1 e2 e3
    subst e1 e3
    refine wpList_append_grows w hg s x t hop e i (.int .i64 0) 1 8 ht hq hz hsize hby rfl (by decide) q l.length l.length (l.flatMap icells) hs (fun h => ?_) (by rw [icells_flat, Nat.mul_one]) (fun b hb j u hu => ?_) ⟨g, 0, none⟩ 1 1 [.int .i64 y] hx rfl (fun j u hu => ?_) (by simp [Value.oneCell']) (by omega) (by unfold maxLen; omega) (by omega) (fun v' w' h1 h2 => ?_)
    · rcases Nat.eq_zero_or_pos l.length with h0 | h0
      · exact ⟨h0, h0⟩
      · obtain ⟨b, o', h3, _⟩ := hat h0
        rw [h3] at h; cases h
    · obtain ⟨hj, rfl⟩ := icells_at l j u hu
      obtain ⟨b', o', h3, _, h5⟩ := hat (by omega)
      rw [h3] at hb
      cases hb
      have := h5 j hj w (Ext.refl w)
      have hadd : (⟨b', o', none⟩ : Addr).add j = ⟨b', o' + j, none⟩ := by unfold Addr.add; split <;> simp_all
      rw [hadd]
      exact this
    · cases j with
      | zero => simp only [List.getElem?_cons_zero, Option.some.injEq] at hu; subst hu; rw [add_lit]; exact hnew
      | succ j => simp at hu
    · refine hK v' w' ⟨fun _ => rfl, ?_⟩ h2
      rw [List.length_append, List.flatMap_append]
      simpa using h1

set_option maxRecDepth 8000 in
set_option maxHeartbeats 400000 in
theorem pcnt_any (s : Sc) (hs : s.ok) (g : Nat) (a : Ex) (vars : List Int) (f : Nat → Int) (v u : Value) (w : World) (hg : EvEnv w g s) (hv : ExAt w v a) (hu : Row icells 1 w u vars) (hvl : vars.length ≤ 1000) (hf : ∀ p, p < s.n → 0 ≤ f p ∧ f p ≤ 1)
    (H : ∀ p : Nat, p < s.n → ∀ W va vv, Ext w W → ExAt W va a → Row icells 1 W vv (vars ++ [(p : Int)]) → Calls Tryd.prog 129 #[va, vv, P0 (g + 4), P0 g, P0 (g + 3), P0 (g + 2), P0 (g + 1)] W fun e' w' => e' = .returned (.int .i64 (f p)) ∧ Ext W w') :
    Calls Tryd.prog 128 #[v, u, P0 g, P0 (g + 3)] w fun e' w' => e' = .returned (.int .i64 (cntTo f s.n)) ∧ Ext w w' := by
  have HA := hide hv
  have HU := hide hu
  obtain ⟨p, c, rfl, hc, hl⟩ := hv.form
  obtain ⟨qv, cv, rfl, hcv, -⟩ := hu.int_all
  obtain ⟨s1, s2, -, -, -⟩ := hs
  have HH := hide H
  have HF := hide hf
  have HEV := hide (fun V (hV : Ext w V) => (hg.ext hV).cells)
  obtain ⟨si, so, -, -, hn0, -⟩ := hg.scene
  have hgz : g + 4 < w.heap.size := hg.cells.2.2.2.2
  have hg0 : g < w.heap.size := by omega
  clear H hf hv hu hg
  generalize hsn : s.n = sn at *
  have HSN := hide hsn
  clear hsn
  have hE0 : Ext w (w.alloc (.cells #[.int .i64 a.op, .int .i64 a.num, .slice p a.args.length c] 26)) := (Ext.refl w).alloc _
  have HB := hide (fun w1 => xbox w a.op a.num (.slice p a.args.length c) (w1 := w1))
  go_enter Tryd.func128, Tryd.ntmps128
  go_wp2_with fail
  clear hn0
  obtain ⟨w2, hw2⟩ : ∃ w2, w.alloc (.cells #[.int .i64 a.op, .int .i64 a.num, .slice p a.args.length c] 26) = w2 := ⟨_, rfl⟩
  rw [hw2] at hE0 HB ⊢
  clear hw2
  go_loopw [7, 11] (fun n x V => ∃ (k : Nat), k ≤ sn ∧ x = .int .i64 k ∧ n = .int .i64 (cntTo f k) ∧ Ext w2 V) (fun _ x _ => sn - (intOf x).toNat)
  case atStart => exact ⟨0, by omega, rfl, rfl, Ext.refl _⟩
  case round =>
    obtain ⟨k, hk, rfl, rfl, hE⟩ := hrel
    have hEr := hE0.trans hE
    have hfb := cntTo_bd (f := f) (n := k) (fun p hp => HF.out p (by omega))
    by_cases hlt : k < sn
    · have hN := HF.out k hlt
      have HN := hide (show cntTo f (k + 1) = cntTo f k + f k from rfl)
      have HC := hide (fun W va vv hW h1 h2 => HH.out k hlt W va vv hW h1 h2)
      generalize cntTo f k = ck at hfb HN ⊢
      generalize f k = fk at HC HN hN
      go_wp2_with fail
      refine wp_region_heldAll (fun V => Ext wr V) (by kernel_rfl) ?_
      intro W2 hW2
      have hE2 : Ext wr W2 := by rw [hW2]; exact (Ext.refl wr).drew
      clear hW2
      refine wpAnyT_take (i := 0) (.int .i64 ck) rfl (by kernel_rfl) (by kernel_rfl) (by kernel_rfl) (by simp [Region.wanted]) (fun V hV => by go_simp) hE2 ?_
      refine wpAnyT_take (i := 1) (.func (.func 129) #[] #[P0 (g + 4), P0 g, P0 (g + 3), P0 (g + 2), P0 (g + 1)]) rfl (by kernel_rfl) (by kernel_rfl) (by kernel_rfl) (by simp [Region.wanted]) (fun V hV => by
        have hc := (HEV.out V (hEr.trans hV)).2.2.1
        go_simp) hE2 ?_
      refine wpAnyT_take (i := 2) (.agg #[.int .i64 a.op, .int .i64 a.num, .slice p a.args.length c]) rfl (by kernel_rfl) (by kernel_rfl) (by kernel_rfl) (by simp [Region.wanted]) (fun V hV => by
        obtain ⟨c0, c1, c2, -⟩ := HB.out V (hE.trans hV)
        go_simp) hE2 ?_
      refine wpAnyT_take (i := 3) (.slice qv vars.length cv) rfl (by kernel_rfl) (by kernel_rfl) (by kernel_rfl) (by simp [Region.wanted]) (fun V hV => by go_simp) hE2 ?_
      refine wpAnyT_take (i := 4) (.slice qv vars.length cv) rfl (by kernel_rfl) (by kernel_rfl) (by kernel_rfl) (by simp [Region.wanted]) (fun V hV => by go_simp) hE2 ?_
      refine wpAnyT_take (i := 5) (.int .i64 (vars.length : Nat)) rfl (by kernel_rfl) (by kernel_rfl) (by kernel_rfl) (by simp [Region.wanted]) (fun V hV => by go_simp) hE2 ?_
      refine wpAnyT_take (i := 6) (.slice qv vars.length cv) rfl (by kernel_rfl) (by kernel_rfl) (by kernel_rfl) (by simp [Region.wanted]) (fun V hV => by go_simp) hE2 ?_
      refine wpAnyT_take (i := 7) (.int .i64 (vars.length : Nat)) rfl (by kernel_rfl) (by kernel_rfl) (by kernel_rfl) (by simp [Region.wanted]) (fun V hV => by go_simp) hE2 ?_
      refine wpAnyT_take (i := 8) (.slice qv vars.length vars.length) rfl (by kernel_rfl) (by kernel_rfl) (by kernel_rfl) (by simp [Region.wanted]) (fun V hV => by go_simp) hE2 ?_
      refine wpAnyT_take (i := 9) (.int .i64 k) rfl (by kernel_rfl) (by kernel_rfl) (by kernel_rfl) (by simp [Region.wanted]) (fun V hV => by go_simp) hE2 ?_
      simp only [Act.put, List.setIfInBounds_toArray]
      refine wpAnyT_one (i := 10) rfl (by kernel_rfl) (fun K hK => ?_)
      go_wp2_with fail
      refine ⟨rfl, hK _ _ (hE2.alloc _) ?_⟩
      clear hK K
      have hE3 : Ext wr (W2.alloc (.cells #[.int .i64 k] 3)) := hE2.alloc _
      have hc3 : (W2.alloc (.cells #[.int .i64 k] 3)).cell? ⟨W2.heap.size, 0, none⟩ = some (.int .i64 k) := by simp [go_sem]
      generalize W2.alloc (.cells #[.int .i64 k] 3) = W3 at hE3 hc3 ⊢
      generalize W2.heap.size = gb at hc3 ⊢
      have HU3 := hide (HU.out.ext (hEr.trans hE3))
      refine wpAnyT_one (i := 11) rfl (by kernel_rfl) (fun K hK => ?_)
      refine wpList_append_full W3 rfl (.tmp 22) (.tmp 24) 38 rfl 3 Tryd.underlying38 int_info qv vars cv (k : Int) gb rfl HU3.out rfl hc3 (by omega) ?_
      intro v' w' hown hgrow
      have hE4 : Ext wr w' := hE3.grown hgrow (fun k hk => by cases hk)
      have hrow := hown.row (by simp; omega)
      obtain ⟨q4, c4, hv4, -⟩ := hrow.int_all
      rw [List.length_append, List.length_singleton] at hv4
      subst hv4
      have HRW := hide hrow
      clear hown hgrow hc3 hrow
      refine ⟨rfl, hK _ _ hE4 ?_⟩
      clear hK K HU3
      simp only [Act.put, List.setIfInBounds_toArray]
      refine wpAnyT_one (i := 12) rfl (by kernel_rfl) (fun K hK => ?_)
      go_wp2_with fail
      refine (HC.out w' _ _ (hEr.trans hE4) (HA.out.ext (hEr.trans hE4)) HRW.out).mono ?_
      rintro e' w5 ⟨rfl, hE5⟩
      have hE5 := hE4.trans hE5
      go_wp2_with fail
      refine ⟨rfl, hK _ _ hE5 ?_⟩
      clear hK K
      try simp only [Act.put, List.setIfInBounds_toArray, List.set_cons_zero, List.set_cons_succ]
      refine wpAnyT_take (i := 13) (.int .i64 (ck + fk)) rfl (by kernel_rfl) (by kernel_rfl) (by kernel_rfl) (by simp [Region.wanted]) (fun V hV => by
        go_simp
        exact IntWalk.i64_in _ (by omega)) hE5 ?_
      refine wpAnyT_take (i := 14) (.int .i64 (ck + fk)) rfl (by kernel_rfl) (by kernel_rfl) (by kernel_rfl) (by simp [Region.wanted]) (fun V hV => by go_simp) hE5 ?_
      simp only [Act.put, List.setIfInBounds_toArray]
      refine wpAnyT_done (by kernel_rfl) ?_ _
      go_wp2_with fail
      go_roundw
      case rel => exact ⟨k + 1, by omega, by go_num, by rw [HN.out], hE.trans hE5⟩
      case measure => simp [intOf]; omega
    · obtain rfl : k = sn := by omega
      generalize hck : cntTo f k = ck at hfb ⊢
      have HCK := hide hck
      clear hck
      go_wp2_with fail
      go_ret
      exact ⟨ret_int HCK.out.symm, hEr⟩
end Go.Proofs.YthpccmmdkbjjhaaDoor
