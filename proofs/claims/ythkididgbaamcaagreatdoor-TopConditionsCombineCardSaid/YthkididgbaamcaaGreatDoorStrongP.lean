/-
  The program's layer 14 (relate): pair, find, vectors, agrees.
  Conditions: as each theorem states.
-/
import Derived.Test.YthkididgbaamcaaGreatDoorStrong
namespace Go.Proofs.YthkididgbaamcaaGreatDoor
open Go.RowKit
attribute [local go_sem] Oper.semAt_some

theorem Rows2.nil {α : Type} (enc : α → List Value) (size : Nat) (w : World) : Rows2 enc size w (.slice none 0 0) [] := ⟨[], rfl, Row.nil _ _ _, fun i v xs h => by simp at h⟩
theorem firstAt_lt {P : Nat → Bool} : ∀ {n : Nat}, 0 ≤ firstAt P n → (firstAt P n).toNat < n
  | 0, h => by simp [firstAt] at h
  | n + 1, h => by
    have ih := firstAt_lt (P := P) (n := n)
    simp only [firstAt] at h ⊢
    split
    · split
      · simp
      · rename_i h1 h2
        rw [if_pos h1, if_neg h2] at h; omega
    · rename_i h1
      rw [if_neg h1] at h
      have := ih h; omega
/-- A case as a value. -/
def CaseVal (w : World) (v : Value) (c : Cs) : Prop := ∃ q0 k0 q1 k1 q2 k2, v = .agg #[.slice q0 c.inp.length k0, .slice q1 c.out.length k1, .slice q2 c.calm.length k2] ∧ Row icells 1 w (.slice q0 c.inp.length k0) c.inp ∧ Rows2 icells 1 w (.slice q1 c.out.length k1) c.out ∧ Rows2 icells 1 w (.slice q2 c.calm.length k2) c.calm
theorem CaseVal.ext {w W : World} {v : Value} {c : Cs} (h : CaseVal w v c) (hE : Ext w W) : CaseVal W v c := by
  obtain ⟨q0, k0, q1, k1, q2, k2, h0, h1, h2, h3⟩ := h
  exact ⟨q0, k0, q1, k1, q2, k2, h0, h1.ext hE, h2.ext hE, h3.ext hE⟩
theorem CaseVal.zero (w : World) : CaseVal w (.agg #[.slice none 0 0, .slice none 0 0, .slice none 0 0]) default :=
  ⟨none, 0, none, 0, none, 0, rfl, Row.nil _ _ _, Rows2.nil _ _ _, Rows2.nil _ _ _⟩
set_option maxHeartbeats 1000000 in
theorem idxC_g (P : Cs → Bool) (fid : Nat) (lb : Array Value) (T : Tk) (_n _i0 _o0 : Value) (p : Option Addr) (c : Nat) (w : World) (hv : TkRep w (.agg #[.int .i64 T.n, .int .i64 T.ins, .int .i64 T.outs, .slice p T.cs.length c]) T)
    (ef : ∀ args w, (callFunc fid args).run Tryz.prog w = .ok (.enter fid args) w)
    (hF : ∀ i v W, i < T.cs.length → Ext w W → CaseVal W v (T.cs.getD i default) → Calls Tryz.prog fid (#[v] ++ lb) W fun e w' => e = .returned (.bool (P (T.cs.getD i default))) ∧ Ext W w') :
    Calls Tryz.prog 77 #[.slice p T.cs.length c, .func (.func fid) #[] lb] w fun e w' => e = .returned (.int .i64 (firstAt (fun i => P (T.cs.getD i default)) T.cs.length)) ∧ Ext w w' := by
  have HC := hide hF
  obtain ⟨p', c', e0, hc, hlen, hat⟩ := hv.all_
  have e2 : Value.slice p T.cs.length c = .slice p' T.cs.length c' := by
    injection e0 with e
    have := congrArg (fun a : Array Value => a[3]?) e
    simpa using this
  injection e2 with e3 _ e4
  subst e3 e4
  have HA := hide hat
  clear hv hat hF e0
  have H1 := hide (fun k hk => firstAt_at (P := fun i => P (T.cs.getD i default)) (n := T.cs.length) (k := k) hk)
  have H2 := hide (firstAt_none (P := fun i => P (T.cs.getD i default)) (n := T.cs.length))
  generalize firstAt (fun i => P (T.cs.getD i default)) T.cs.length = res at H1 H2 ⊢
  generalize T.cs.length = n at *
  generalize hf : T.cs.getD = f at *
  clear hf
  go_enter Tryz.func77, Tryz.ntmps77
  go_wp2_with fail
  go_loopw [8] (fun x wr => ∃ i : Nat, i ≤ n ∧ x = .int .i64 i ∧ Hid (∀ j, j < i → P (f j default) = false) ∧ Hid (Ext w wr)) (fun x _ => n - (intOf x).toNat)
  case atStart => exact ⟨0, by omega, rfl, fun j hj => by omega, Ext.refl _⟩
  case round =>
    obtain ⟨i, hi, rfl, HJ, HE⟩ := hrel
    by_cases hlt : i < n
    · obtain ⟨b, o, rfl, hb, hat⟩ := HA.out (by omega)
      obtain ⟨q0, k0, q1, k1, q2, k2, hC⟩ := hat i hlt
      have x0 := hC.c0 _ HE.out
      have x1 := hC.c1 _ HE.out
      have x2 := hC.c2 _ HE.out
      have hbz := Nat.lt_of_lt_of_le hb HE.out.size
      have HF := hide (H1.out i hlt HJ.out)
      have HN : Hid (P (f i default) = false → ∀ j, j < i + 1 → P (f j default) = false) := fun h j hj => by
        by_cases e : j = i
        · subst e; exact h
        · exact HJ.out j (by omega)
      have HC2 := hide (HC.out i _ wr hlt HE.out ⟨q0, k0, q1, k1, q2, k2, rfl, hC.r0.ext HE.out, hC.r1.ext HE.out, hC.r2.ext HE.out⟩)
      clear hat hC
      generalize P (f i default) = r at HF HN HC2
      generalize (f i default).inp.length = l0 at x0 HC2
      generalize (f i default).out.length = l1 at x1 HC2
      generalize (f i default).calm.length = l2 at x2 HC2
      go_wp2_with fail
      refine HC2.out.mono ?_
      rintro e w2 ⟨rfl, hw2⟩
      have HE2 := hide (HE.out.trans hw2)
      clear hw2 x0 x1 x2
      cases r
      · have HR := hide (HN.out rfl)
        go_wp2_with fail
        go_roundw
        case rel => exact ⟨i + 1, by omega, by go_num, HR.out, HE2.out⟩
        case measure => simp [intOf]; omega
      · have HR := hide (HF.out rfl)
        go_wp2_with fail
        go_ret
        exact ⟨ret_int HR.out.symm, HE2.out⟩
    · obtain rfl : i = n := by omega
      have HR := hide (H2.out HJ.out)
      go_wp2_with fail
      go_ret
      exact ⟨ret_int HR.out.symm, HE.out⟩
theorem pfind1_any (c : Cs) (x : List Int) (v u : Value) (b : Nat) (w : World) (hc : CaseVal w v c) (hx : Row icells 1 w u x) (hb : SBox w b u) :
    Calls Tryz.prog 78 #[v, .pointer (some ⟨b, 0, none⟩)] w fun e w' => e = .returned (.bool (decide (c.inp = x))) ∧ Ext w w' := by
  obtain ⟨q0, k0, q1, k1, q2, k2, rfl, h0, -, -⟩ := hc
  obtain ⟨w2, hw2⟩ : ∃ w2, w.alloc (.cells #[.slice q0 c.inp.length k0, .slice q1 c.out.length k1, .slice q2 c.calm.length k2] 60) = w2 := ⟨_, rfl⟩
  have HE : Hid (Ext w w2) := by show Ext _ _; rw [← hw2]; exact (Ext.refl w).alloc _
  have HC := hide (seq_any c.inp x _ u w2 (h0.ext HE.out) (hx.ext HE.out))
  have k0' : w.cell? ⟨b, 0, none⟩ = some u := decl_cells hb 0
  have hz := lt_of_heap hb
  have HW2 := hide hw2
  obtain ⟨q, d, rfl, -⟩ := hx.int_all
  clear h0 hx hb hw2
  go_enter Tryz.func78, Tryz.ntmps78
  go_wp2_with fail
  rw [HW2.out]
  refine HC.out.mono ?_
  rintro e w1 ⟨rfl, hE1⟩
  go_wp2_with fail
  go_ret
  exact ⟨rfl, HE.out.trans hE1⟩
theorem enters_pfind1 : ∀ args w, (callFunc 78 args).run Tryz.prog w = .ok (.enter 78 args) w := fun _ _ => by kernel_rfl
theorem leave_case {fn : Func} {R : Ending → World → Prop} {t : Act} {a b : Tmp} {W : World} {g : Nat} {u0 u1 u2 v : Value} (h : fn.results = #[.cell a 60, .tmp b]) (hd : t.defers = []) (ha : t.tmps.getD a undef = .pointer (some ⟨g, 0, none⟩))
    (hb : t.tmps.getD b undef = v) (hC : CBox W g u0 u1 u2) (hR : R (.returned (.tuple #[.agg #[u0, u1, u2], v])) W) : bodyPost Tryz.prog fn R .ret t W := by
  obtain ⟨h0, h1, h2, -⟩ := hC.cells
  refine bodyPost_ret ?_ hd hR
  rw [Array.getD_eq_getD_getElem?] at ha hb
  simp [results, h, ha, hb, go_sem, h0, h1, h2]
set_option maxRecDepth 16000 in
set_option maxHeartbeats 2000000 in
/-- The case of a task with an input. -/
theorem pfind_any (T : Tk) (x : List Int) (v u : Value) (w : World) (hv : TkRep w v T) (hx : Row icells 1 w u x) :
    Calls Tryz.prog 44 #[v, u] w fun e w' => ∃ c y, e = .returned (.tuple #[y, .bool (decide (0 ≤ fnd T x))]) ∧ (0 ≤ fnd T x → c = T.cs.getD (fnd T x).toNat default) ∧ CaseVal w' y c ∧ Ext w w' := by
  obtain ⟨p, c, rfl, hcl, hl, hat⟩ := hv.all_
  obtain ⟨w2, hw2⟩ : ∃ w2, ((w.alloc (.cells #[.int .i64 T.n, .int .i64 T.ins, .int .i64 T.outs, .slice p T.cs.length c] 33)).alloc (.cells #[u] 45)).alloc (.cells #[.slice none 0 0, .slice none 0 0, .slice none 0 0] 60) = w2 := ⟨_, rfl⟩
  have HE : Hid (Ext w w2) := by show Ext _ _; rw [← hw2]; exact (((Ext.refl w).alloc _).alloc _).alloc _
  have HT : Hid (TBox w2 w.heap.size (.int .i64 T.n) (.int .i64 T.ins) (.int .i64 T.outs) (.slice p T.cs.length c)) := by
    show _ = _
    rw [← hw2, Below.heap_alloc _ _ _ (by simp; omega), Below.heap_alloc _ _ _ (by simp)]
    exact heap_alloc_new w _
  have HS : Hid (SBox w2 (w.heap.size + 1) u) := by show _ = _; rw [← hw2]; exact at3_1 _ _ _ _ _ _ _
  have HB : Hid (CBox w2 (w.heap.size + 1 + 1) (.slice none 0 0) (.slice none 0 0) (.slice none 0 0)) := by show _ = _; rw [← hw2]; exact at3_2 _ _ _ _ _ _ _
  have HW2 := hide hw2
  have HA := hide hat
  have HI := hide (idxC_g (fun c => decide (c.inp = x)) 78 #[.pointer (some ⟨w.heap.size + 1, 0, none⟩)] T (.int .i64 0) (.int .i64 0) (.int .i64 0) p c w2 (hv.ext HE.out) enters_pfind1
    (fun i v W _ hW hv => pfind1_any _ x v u _ W hv (hx.ext (HE.out.trans hW)) (HS.out.ext hW)))
  have HFD : Hid (firstAt (fun i => decide ((T.cs.getD i default).inp = x)) T.cs.length = fnd T x) := rfl
  rw [HFD.out] at HI
  have HLT : Hid (0 ≤ fnd T x → (fnd T x).toNat < T.cs.length) := fun h => firstAt_lt h
  obtain ⟨t0, t1, t2, t3⟩ := HT.out.cells
  have z0 := lt_of_heap HT.out
  obtain ⟨qx, kx, rfl, -⟩ := hx.int_all
  clear hv hx hw2 hat HFD
  generalize fnd T x = k at HI HLT ⊢
  go_enter Tryz.func44, Tryz.ntmps44
  go_wp2_with fail
  rw [HW2.out]
  go_wp2_with fail
  refine HI.out.mono ?_
  rintro e W1 ⟨rfl, hE1⟩
  have HE1 := hide hE1
  have HB1 := hide (HB.out.ext hE1)
  obtain ⟨t0, t1, t2, t3⟩ := (HT.out.ext hE1).cells
  have z0 := lt_of_heap (HT.out.ext hE1)
  obtain ⟨b0, b1, b2, f1, f2, bz⟩ := HB1.out.cells
  have f0 : W1.frozen? ⟨w.heap.size + 1 + 1, 0, none⟩ = false := frozen_of HB1.out
  clear hE1
  by_cases h0 : 0 ≤ k
  · have hd : decide (k < 0) = false := decide_eq_false (by omega)
    have hlt := HLT.out h0
    obtain ⟨m, rfl⟩ : ∃ m : Nat, k = m := ⟨k.toNat, by omega⟩
    rw [Int.toNat_natCast] at hlt
    obtain ⟨b, o, rfl, hb, hat⟩ := HA.out (by omega)
    obtain ⟨q0, k0, q1, k1, q2, k2, hC⟩ := hat m hlt
    have x0 := hC.c0 _ (HE.out.trans HE1.out)
    have x1 := hC.c1 _ (HE.out.trans HE1.out)
    have x2 := hC.c2 _ (HE.out.trans HE1.out)
    have hbz := Nat.lt_of_lt_of_le hb (HE.out.trans HE1.out).size
    have HR : Hid (∀ V, Ext w V → CaseVal V (.agg #[.slice q0 (T.cs.getD m default).inp.length k0, .slice q1 (T.cs.getD m default).out.length k1, .slice q2 (T.cs.getD m default).calm.length k2]) (T.cs.getD m default)) := fun V hV => ⟨q0, k0, q1, k1, q2, k2, rfl, hC.r0.ext hV, hC.r1.ext hV, hC.r2.ext hV⟩
    clear hat hC h0
    generalize (T.cs.getD m default).inp.length = l0 at x0 HR
    generalize (T.cs.getD m default).out.length = l1 at x1 HR
    generalize (T.cs.getD m default).calm.length = l2 at x2 HR
    go_wp2_with fail
    have hfin := ext_store3 (HE.out.trans HE1.out) (show w.heap.size ≤ w.heap.size + 1 + 1 by omega) (.slice q0 l0 k0) (.slice q1 l1 k1) (.slice q2 l2 k2)
    exact leave_case (v := .bool true) rfl rfl rfl rfl (HB1.out.store _ _ _) ⟨T.cs.getD m default, _, by rw [show decide ((0 : Int) ≤ (m : Int)) = true by simp], fun _ => by rw [Int.toNat_natCast], HR.out _ hfin, hfin⟩
  · have hd : decide (k < 0) = true := decide_eq_true (by omega)
    have HN := hide h0
    clear h0
    go_wp2_with fail
    have hfin := ext_store3 (HE.out.trans HE1.out) (show w.heap.size ≤ w.heap.size + 1 + 1 by omega) (.slice none 0 0) (.slice none 0 0) (.slice none 0 0)
    exact leave_case (v := .bool false) rfl rfl rfl rfl (HB1.out.store _ _ _) ⟨default, _, by rw [show decide (0 ≤ k) = false from decide_eq_false (by have := HN.out; omega)], fun h => by have := HN.out; omega, CaseVal.zero _, hfin⟩
/-- The vectors of a case for no faulty processes. -/
theorem pcalm_fix (c : Cs) (q0 : Option Addr) (l0 k0 : Nat) (q1 : Option Addr) (k1 : Nat) (q2 : Option Addr) (k2 : Nat) (w : World)
    (h1 : Rows2 icells 1 w (.slice q1 c.out.length k1) c.out) (h2 : Rows2 icells 1 w (.slice q2 c.calm.length k2) c.calm) :
    ∃ q k, Rows2 icells 1 w (.slice q (allowedL c 0).length k) (allowedL c 0) ∧ ∀ W, Calls Tryz.prog 46 #[.agg #[.slice q0 l0 k0, .slice q1 c.out.length k1, .slice q2 c.calm.length k2]] W fun e w' => e = .returned (.slice q (allowedL c 0).length k) ∧ Ext W w' := by
  obtain ⟨c1, _, e1, -, hl1, -⟩ := h1.sl_all
  obtain ⟨c2, _, e2, -, hl2, -⟩ := h2.sl_all
  clear e1 e2
  by_cases hc : 0 < c.calm.length
  · have hd2 : decide ((0 : Int) < (c.calm.length : Int)) = true := by rw [decide_eq_true_iff]; omega
    have hd3 : decide (0 < c.calm.length) = true := decide_eq_true hc
    have e : allowedL c 0 = c.calm := if_pos ⟨rfl, hc⟩
    rw [e]
    refine ⟨q2, k2, h2, fun W => ?_⟩
    clear h1 h2 hc e
    go_enter Tryz.func46, Tryz.ntmps46
    go_wp2_with fail
    go_ret
    exact ⟨rfl, (Ext.refl _).alloc _⟩
  · have hd2 : decide ((0 : Int) < (c.calm.length : Int)) = false := by rw [decide_eq_false_iff_not]; omega
    have hd3 : decide (0 < c.calm.length) = false := decide_eq_false hc
    have e : allowedL c 0 = c.out := if_neg (fun h => hc h.2)
    rw [e]
    refine ⟨q1, k1, h1, fun W => ?_⟩
    clear h1 h2 hc e
    go_enter Tryz.func46, Tryz.ntmps46
    go_wp2_with fail
    go_ret
    exact ⟨rfl, (Ext.refl _).alloc _⟩
theorem pvectors_fix (c : Cs) (f : Int) (q0 : Option Addr) (l0 k0 : Nat) (q1 : Option Addr) (k1 : Nat) (q2 : Option Addr) (k2 : Nat) (w : World)
    (h1 : Rows2 icells 1 w (.slice q1 c.out.length k1) c.out) (h2 : Rows2 icells 1 w (.slice q2 c.calm.length k2) c.calm) :
    ∃ q k, Rows2 icells 1 w (.slice q (allowedL c f).length k) (allowedL c f) ∧ ∀ W, Calls Tryz.prog 54 #[.agg #[.slice q0 l0 k0, .slice q1 c.out.length k1, .slice q2 c.calm.length k2], .int .i64 f] W fun e w' => e = .returned (.slice q (allowedL c f).length k) ∧ Ext W w' := by
  by_cases hf : f = 0
  · subst hf
    obtain ⟨q, k, hr, hc⟩ := pcalm_fix c q0 l0 k0 q1 k1 q2 k2 w h1 h2
    have HC := hide hc
    refine ⟨q, k, hr, fun W => ?_⟩
    clear h1 h2 hr hc
    generalize (allowedL c 0).length = n at HC ⊢
    go_enter Tryz.func54, Tryz.ntmps54
    go_wp2_with fail
    refine (HC.out _).mono ?_
    rintro e W1 ⟨rfl, hE1⟩
    go_wp2_with fail
    go_ret
    exact ⟨rfl, ((Ext.refl _).alloc _).trans hE1⟩
  · have hd : (f == 0) = false := by simp [hf]
    have e : allowedL c f = c.out := if_neg (fun h => hf h.1)
    rw [e]
    refine ⟨q1, k1, h1, fun W => ?_⟩
    clear h1 h2 hf e
    go_enter Tryz.func54, Tryz.ntmps54
    go_wp2_with fail
    go_ret
    exact ⟨rfl, (Ext.refl _).alloc _⟩
set_option maxHeartbeats 1000000 in
theorem pagr1_any (v o : List Int) (s : Nat) (u t : Value) (bt bs : Nat) (w : World) (hv : Row icells 1 w u v) (ho : Row icells 1 w t o) (hl : v.length ≤ o.length) (hl5 : v.length ≤ 5) (hs : s < 9223372036854775808) (h1 : SBox w bt u) (h2 : IBox w bs s) :
    Calls Tryz.prog 90 #[t, .pointer (some ⟨bt, 0, none⟩), .pointer (some ⟨bs, 0, none⟩)] w fun e w' => e = .returned (.bool (agreesB v o s)) ∧ Ext w w' := by
  obtain ⟨p, c, rfl, hc, hlv, hat⟩ := hv.int_all
  obtain ⟨q, d, rfl, hd, hlo, hat2⟩ := ho.int_all
  have HA := hide hat
  have HB := hide hat2
  have HN : Hid (∀ p, p < v.length → has (s : Int) p = false → o.getD p 0 ≠ v.getD p 0 → agreesB v o s = false) := fun p hp h1 h2 => agrees_no hp h1 h2
  have HY := hide (agrees_yes (v := v) (o := o) (s := s))
  have HBZ := hide (fun p => bit_zero (s := s) (p := p) hs)
  have HL := hide hl
  have H1 := hide h1
  have H2 := hide h2
  have k0 : w.cell? ⟨bt, 0, none⟩ = some (.slice p v.length c) := decl_cells h1 0
  have z0 := lt_of_heap h1
  clear hv ho hat hat2 hl h1 h2
  generalize agreesB v o s = res at HN HY ⊢
  go_enter Tryz.func90, Tryz.ntmps90
  go_wp2_with fail
  clear k0 z0
  go_loopw [8] (fun x wr => ∃ i : Nat, i ≤ v.length ∧ x = .int .i64 i ∧ Hid (∀ j, j < i → (has (s : Int) j || (o.getD j 0 == v.getD j 0)) = true) ∧ Hid (Ext w wr)) (fun x _ => v.length - (intOf x).toNat)
  case atStart => exact ⟨0, by omega, rfl, fun j hj => by omega, Ext.refl _⟩
  case round =>
    obtain ⟨i, hi, rfl, HJ, HE⟩ := hrel
    by_cases hlt : i < v.length
    · have hlt' : i < o.length := by have := HL.out; omega
      have hi5 : (i : Int) < 64 := by omega
      obtain ⟨b1, o1, rfl, hb1, hat⟩ := HA.out (by omega)
      obtain ⟨b2, o2, rfl, hb2, hat2⟩ := HB.out (by omega)
      have hx := hat i hlt wr HE.out
      have hy := hat2 i hlt' wr HE.out
      have hb1' : b1 < wr.heap.size := Nat.lt_of_lt_of_le hb1 HE.out.size
      have hb2' : b2 < wr.heap.size := Nat.lt_of_lt_of_le hb2 HE.out.size
      have k0 : wr.cell? ⟨bt, 0, none⟩ = some (.slice (some ⟨b1, o1, none⟩) v.length c) := decl_cells (H1.out.ext HE.out) 0
      have k1 : wr.cell? ⟨bs, 0, none⟩ = some (.int .i64 s) := decl_cells (H2.out.ext HE.out) 0
      have z0 := lt_of_heap (H1.out.ext HE.out)
      have z1 := lt_of_heap (H2.out.ext HE.out)
      have hbz := HBZ.out i
      have HNI := hide (HN.out i hlt)
      have HNX : Hid ((has (s : Int) i || (o.getD i 0 == v.getD i 0)) = true → ∀ j, j < i + 1 → (has (s : Int) j || (o.getD j 0 == v.getD j 0)) = true) := fun h j hj => by
        by_cases e : j = i
        · subst e; exact h
        · exact HJ.out j (by omega)
      clear hat hat2
      generalize has (s : Int) i = hb at hbz HNI HNX
      generalize v.getD i 0 = x at hx HNI HNX
      generalize o.getD i 0 = y at hy HNI HNX
      cases hb
      · have hbz' : (bits .and .i64 ((s : Int) / 2 ^ i) 1 == 0) = true := hbz
        clear hbz
        by_cases h0 : y = x
        · have hd1 : (x != y) = false := by simp [h0]
          have HR := hide (HNX.out (by simp [h0]))
          clear h0
          go_wp2_with fail
          refine wp_region_ext (by kernel_rfl) (by kernel_rfl) ?_
          repeat (go_big_quiet_step (fail))
          refine wpQuiet_nil ?_
          rintro w9 ⟨⟨_, hE9⟩, rfl⟩
          go_wp2_with fail
          go_roundw
          case rel => exact ⟨i + 1, by omega, by go_num, HR.out, HE.out.trans hE9⟩
          case measure => simp [intOf]; omega
        · have hd1 : (x != y) = true := by simp [Ne.symm h0]
          have HR := hide (HNI.out rfl h0)
          clear h0
          go_wp2_with fail
          refine wp_region_ext (by kernel_rfl) (by kernel_rfl) ?_
          repeat (go_big_quiet_step (fail))
          refine wpQuiet_nil ?_
          rintro w9 ⟨⟨_, hE9⟩, rfl⟩
          go_wp2_with fail
          go_ret
          exact ⟨ret_bool HR.out.symm, HE.out.trans hE9⟩
      · have hbz' : (bits .and .i64 ((s : Int) / 2 ^ i) 1 == 0) = false := hbz
        clear hbz
        have HR := hide (HNX.out rfl)
        go_wp2_with fail
        refine wp_region_ext (by kernel_rfl) (by kernel_rfl) ?_
        repeat (go_big_quiet_step (fail))
        refine wpQuiet_nil ?_
        rintro w9 ⟨⟨_, hE9⟩, rfl⟩
        go_wp2_with fail
        go_roundw
        case rel => exact ⟨i + 1, by omega, by go_num, HR.out, HE.out.trans hE9⟩
        case measure => simp [intOf]; omega
    · obtain rfl : i = v.length := by omega
      have HR := hide (HY.out HJ.out)
      go_wp2_with fail
      go_ret
      exact ⟨ret_bool HR.out.symm, HE.out⟩
theorem enters_pagr1 : ∀ args w, (callFunc 90 args).run Tryz.prog w = .ok (.enter 90 args) w := fun _ _ => by kernel_rfl
theorem pagrees_any (l : List (List Int)) (v : List Int) (s : Nat) (u t : Value) (w : World) (hl : Rows2 icells 1 w u l) (hv : Row icells 1 w t v) (hlen : ∀ i, i < l.length → v.length ≤ (l.getD i []).length) (hl5 : v.length ≤ 5) (hs : s < 9223372036854775808) :
    Calls Tryz.prog 55 #[u, .int .i64 s, t] w fun e w' => e = .returned (.bool (l.any fun y => agreesB v y s)) ∧ Ext w w' := by
  obtain ⟨w2, hw2⟩ : ∃ w2, (w.alloc (.cells #[.int .i64 s] 3)).alloc (.cells #[t] 45) = w2 := ⟨_, rfl⟩
  have HE : Hid (Ext w w2) := by show Ext _ _; rw [← hw2]; exact ((Ext.refl w).alloc _).alloc _
  have HI : Hid (IBox w2 w.heap.size s) := by show _ = _; rw [← hw2, Below.heap_alloc _ _ _ (by simp)]; exact heap_alloc_new w _
  have HS : Hid (SBox w2 (w.heap.size + 1) t) := by
    show _ = _
    rw [← hw2]
    have := heap_alloc_new (w.alloc (.cells #[.int .i64 s] 3)) (.cells #[t] 45)
    rwa [World.size_alloc] at this
  have HC := hide (containsV_g (fun y => agreesB v y s) 90 #[.pointer (some ⟨w.heap.size + 1, 0, none⟩), .pointer (some ⟨w.heap.size, 0, none⟩)] l u w2 (hl.ext HE.out) enters_pagr1
    (fun i x W hi hW hx => pagr1_any v (l.getD i []) s t x _ _ W (hv.ext (HE.out.trans hW)) hx (hlen i hi) hl5 hs (HS.out.ext hW) (HI.out.ext hW)))
  have HW2 := hide hw2
  obtain ⟨p, c, rfl, -⟩ := hl.sl_all
  obtain ⟨q, d, rfl, -⟩ := hv.int_all
  clear hl hv hw2 hlen
  generalize (l.any fun y => agreesB v y s) = res at HC ⊢
  go_enter Tryz.func55, Tryz.ntmps55
  go_wp2_with fail
  rw [HW2.out]
  go_wp2_with fail
  refine HC.out.mono ?_
  rintro e w1 ⟨rfl, hE1⟩
  go_wp2_with fail
  go_ret
  exact ⟨rfl, HE.out.trans hE1⟩
/-- The error of two tasks. -/
def pairE (S T : Tk) : Int := if tkE S ≠ 0 then tkE S else if tkE T ≠ 0 then tkE T else if S.n ≠ T.n then 22 else 0
set_option maxRecDepth 16000 in
theorem ppair_any (S T : Tk) (v u : Value) (w : World) (hv : TkRep w v S) (hu : TkRep w u T) :
    Calls Tryz.prog 34 #[v, u] w fun e w' => e = .returned (.int .i64 (pairE S T)) ∧ Ext w w' := by
  have HCK := hide (fun W (hW : Ext w W) => tcheck_any S v W (hv.ext hW))
  have HCK2 := hide (fun W (hW : Ext w W) => tcheck_any T u W (hu.ext hW))
  obtain ⟨p, c, rfl, -, -, -⟩ := hv.all_
  obtain ⟨q, d, rfl, -, -, -⟩ := hu.all_
  have HR1 : Hid (tkE S ≠ 0 → pairE S T = tkE S) := fun h => if_pos h
  have HR2 : Hid (tkE S = 0 → tkE T ≠ 0 → pairE S T = tkE T) := fun h h2 => (if_neg (fun k => k h)).trans (if_pos h2)
  have HR3 : Hid (tkE S = 0 → tkE T = 0 → pairE S T = if S.n ≠ T.n then 22 else 0) := fun h h2 => (if_neg (fun k => k h)).trans (if_neg (fun k => k h2))
  generalize pairE S T = res at HR1 HR2 HR3 ⊢
  generalize tkE S = te at HCK HR1 HR2 HR3
  generalize tkE T = tf at HCK2 HR2 HR3
  clear hv hu
  obtain ⟨w2, hw2⟩ : ∃ w2, (w.alloc (.cells #[.int .i64 S.n, .int .i64 S.ins, .int .i64 S.outs, .slice p S.cs.length c] 33)).alloc (.cells #[.int .i64 T.n, .int .i64 T.ins, .int .i64 T.outs, .slice q T.cs.length d] 33) = w2 := ⟨_, rfl⟩
  have HE : Hid (Ext w w2) := by show Ext _ _; rw [← hw2]; exact ((Ext.refl w).alloc _).alloc _
  have HT : Hid (TBox w2 w.heap.size (.int .i64 S.n) (.int .i64 S.ins) (.int .i64 S.outs) (.slice p S.cs.length c)) := by
    show _ = _
    rw [← hw2, Below.heap_alloc _ _ _ (by simp)]
    exact heap_alloc_new w _
  have HU : Hid (TBox w2 (w.heap.size + 1) (.int .i64 T.n) (.int .i64 T.ins) (.int .i64 T.outs) (.slice q T.cs.length d)) := by
    show _ = _
    rw [← hw2]
    have := heap_alloc_new (w.alloc (.cells #[.int .i64 S.n, .int .i64 S.ins, .int .i64 S.outs, .slice p S.cs.length c] 33)) (.cells #[.int .i64 T.n, .int .i64 T.ins, .int .i64 T.outs, .slice q T.cs.length d] 33)
    rwa [World.size_alloc] at this
  have HW2 := hide hw2
  clear hw2
  obtain ⟨t0, t1, t2, t3⟩ := HT.out.cells
  have z0 := lt_of_heap HT.out
  go_enter Tryz.func34, Tryz.ntmps34
  go_wp2_with fail
  rw [HW2.out]
  go_wp2_with fail
  refine (HCK.out _ HE.out).mono ?_
  rintro e W1 ⟨rfl, hE1⟩
  have HE1 := hide hE1
  clear hE1 t0 t1 t2 t3 z0
  by_cases h0 : te = 0
  case neg =>
    have hd : (te != 0) = true := by simp [h0]
    have HR := hide (HR1.out h0)
    clear h0
    go_wp2_with fail
    go_ret
    exact ⟨ret_int HR.out.symm, HE.out.trans HE1.out⟩
  case pos =>
  have hd : (te != 0) = false := by simp [h0]
  have HR2 := hide (HR2.out h0)
  have HR3 := hide (HR3.out h0)
  clear h0
  obtain ⟨t0, t1, t2, t3⟩ := (HU.out.ext HE1.out).cells
  have z0 := lt_of_heap (HU.out.ext HE1.out)
  go_wp2_with fail
  refine (HCK2.out _ (HE.out.trans HE1.out)).mono ?_
  rintro e W2 ⟨rfl, hE2⟩
  have HE2 := hide (HE1.out.trans hE2)
  clear hE2 t0 t1 t2 t3 z0 hd
  by_cases h0 : tf = 0
  case neg =>
    have hd : (tf != 0) = true := by simp [h0]
    have HR := hide (HR2.out h0)
    clear h0
    go_wp2_with fail
    go_ret
    exact ⟨ret_int HR.out.symm, HE.out.trans HE2.out⟩
  case pos =>
  have hd : (tf != 0) = false := by simp [h0]
  have HR3 := hide (HR3.out h0)
  clear h0
  obtain ⟨t0, t1, t2, t3⟩ := (HT.out.ext HE2.out).cells
  have z0 := lt_of_heap (HT.out.ext HE2.out)
  obtain ⟨s0, s1, s2, s3⟩ := (HU.out.ext HE2.out).cells
  have z1 := lt_of_heap (HU.out.ext HE2.out)
  by_cases hn : S.n = T.n
  · have hd2 : (S.n != T.n) = false := by simp [hn]
    have HR := hide (HR3.out.trans (if_neg (fun k => k hn)))
    clear hn
    go_wp2_with fail
    go_ret
    exact ⟨ret_int HR.out.symm, HE.out.trans HE2.out⟩
  · have hd2 : (S.n != T.n) = true := by simp [hn]
    have HR := hide (HR3.out.trans (if_pos hn))
    clear hn
    go_wp2_with fail
    go_ret
    exact ⟨ret_int HR.out.symm, HE.out.trans HE2.out⟩
end Go.Proofs.YthkididgbaamcaaGreatDoor
