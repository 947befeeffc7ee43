/-
  The program's task.Agreement.
  Conditions: as each theorem states.
-/
import Derived.Test.YtdgapihlgddnjaaDoorTaskB
namespace Go.Proofs.YtdgapihlgddnjaaDoor
open Go.RowKit
attribute [local go_sem] Oper.semAt_some

/-- All values are one. -/
def constB (v : List Int) : Bool := !(v.any fun x => x != v.getD 0 0)
theorem pconst1_any (v : List Int) (x : Int) (u : Value) (b : Nat) (w : World) (hv : Row icells 1 w u v) (h0 : 0 < v.length) (hb : SBox w b u) :
    Calls Tryd.prog 98 #[.int .i64 x, .pointer (some ⟨b, 0, none⟩)] w fun e w' => e = .returned (.bool (x != v.getD 0 0)) ∧ Ext w w' := by
  obtain ⟨p, c, rfl, hc, hlv, hat⟩ := hv.int_all
  obtain ⟨b1, o1, rfl, hb1, hat⟩ := hat h0
  have hx := hat 0 h0 w (Ext.refl _)
  have k0 : w.cell? ⟨b, 0, none⟩ = some (.slice (some ⟨b1, o1, none⟩) v.length c) := decl_cells hb 0
  have hz := lt_of_heap hb
  have h0' : (0 : Int) < (v.length : Int) := by omega
  clear hat hv hb
  simp only [Nat.add_zero] at hx
  generalize v.getD 0 0 = y at hx ⊢
  go_enter Tryd.func98, Tryd.ntmps98
  go_wp2_with fail
  go_ret
  exact ⟨rfl, Ext.refl _⟩
theorem enters_pconst1 : ∀ args w, (callFunc 98 args).run Tryd.prog w = .ok (.enter 98 args) w := fun _ _ => by kernel_rfl
theorem pconst_any (v : List Int) (u : Value) (w : World) (hv : Row icells 1 w u v) (h0 : 0 < v.length) :
    Calls Tryd.prog 47 #[u] w fun e w' => e = .returned (.bool (constB v)) ∧ Ext w w' := by
  have HB : Hid (SBox (w.alloc (.cells #[u] 43)) w.heap.size u) := heap_alloc_new w _
  have HE0 : Hid (Ext w (w.alloc (.cells #[u] 43))) := (Ext.refl w).alloc _
  have HC := hide (containsI_g (fun x => x != v.getD 0 0) 98 #[.pointer (some ⟨w.heap.size, 0, none⟩)] v u (w.alloc (.cells #[u] 43)) (hv.ext HE0.out) enters_pconst1 (fun x W hW => pconst1_any v x u _ W (hv.ext (HE0.out.trans hW)) h0 (HB.out.ext hW)))
  have HR : Hid (constB v = !(v.any fun x => x != v.getD 0 0)) := rfl
  obtain ⟨q, d, rfl, -⟩ := hv.int_all
  clear hv
  generalize (v.any fun x => x != v.getD 0 0) = r at HC HR
  go_enter Tryd.func47, Tryd.ntmps47
  go_wp2_with fail
  refine HC.out.mono ?_
  rintro e w1 ⟨rfl, hE1⟩
  go_wp2_with fail
  go_ret
  exact ⟨ret_bool HR.out.symm, HE0.out.trans hE1⟩
/-- All outputs of a task are of one value. -/
def aggB (T : Tk) : Bool := T.cs.all fun c => c.out.all constB
theorem aggB_no {T : Tk} {i m : Nat} (hi : i < T.cs.length) (hm : m < (T.cs.getD i default).out.length) (h : constB ((T.cs.getD i default).out.getD m []) = false) : aggB T = false := by
  unfold aggB
  rw [List.all_eq_false]
  have e : T.cs.getD i default = T.cs[i] := by rw [List.getD_eq_getElem?_getD, List.getElem?_eq_getElem hi]; rfl
  rw [e] at hm h
  refine ⟨T.cs[i], List.getElem_mem hi, ?_⟩
  rw [Bool.not_eq_true, List.all_eq_false]
  have e2 : T.cs[i].out.getD m [] = T.cs[i].out[m] := by rw [List.getD_eq_getElem?_getD, List.getElem?_eq_getElem hm]; rfl
  rw [e2] at h
  exact ⟨_, List.getElem_mem hm, by simp [h]⟩
theorem aggB_yes {T : Tk} (h : ∀ i, i < T.cs.length → ∀ m, m < (T.cs.getD i default).out.length → constB ((T.cs.getD i default).out.getD m []) = true) : aggB T = true := by
  unfold aggB
  rw [List.all_eq_true]
  intro c hc
  obtain ⟨i, hi, rfl⟩ := List.getElem_of_mem hc
  rw [List.all_eq_true]
  intro v hv
  obtain ⟨m, hm, rfl⟩ := List.getElem_of_mem hv
  have e : T.cs.getD i default = T.cs[i] := by rw [List.getD_eq_getElem?_getD, List.getElem?_eq_getElem hi]; rfl
  have := h i hi m (by rw [e]; exact hm)
  rw [e, List.getD_eq_getElem?_getD, List.getElem?_eq_getElem hm] at this
  exact this
def aggS (T : Tk) : Bool × Int := if tkE T ≠ 0 then (false, tkE T) else (aggB T, 0)
set_option maxRecDepth 16000 in
set_option maxHeartbeats 2000000 in
theorem pagreement_any (T : Tk) (v : Value) (w : World) (hv : TkRep w v T) :
    Calls Tryd.prog 9 #[v] w fun e w' => e = .returned (.tuple #[.bool (aggS T).1, .int .i64 (aggS T).2]) ∧ Ext w w' := by
  have HCK := hide (fun W (hW : Ext w W) => tcheck_any T v W (hv.ext hW))
  obtain ⟨p, c, rfl, -, -, hat⟩ := hv.all_
  have HA := hide hat
  have HR1 : Hid (tkE T ≠ 0 → aggS T = (false, tkE T)) := fun h => if_pos h
  have HR2 : Hid (tkE T = 0 → ∀ i, i < T.cs.length → ∀ m, m < (T.cs.getD i default).out.length → constB ((T.cs.getD i default).out.getD m []) = false → aggS T = (false, 0)) := fun h i hi m hm hc => by
    unfold aggS
    rw [if_neg (fun k => k h), aggB_no hi hm hc]
  have HR3 : Hid (tkE T = 0 → (∀ i, i < T.cs.length → ∀ m, m < (T.cs.getD i default).out.length → constB ((T.cs.getD i default).out.getD m []) = true) → aggS T = (true, 0)) := fun h hc => by
    unfold aggS
    rw [if_neg (fun k => k h), aggB_yes hc]
  have HOK := hide (fun h => tk_ok (T := T) h)
  generalize aggS T = res at HR1 HR2 HR3 ⊢
  generalize tkE T = te at HCK HR1 HR2 HR3 HOK
  clear hv hat
  obtain ⟨w2, hw2⟩ : ∃ w2, w.alloc (.cells #[.int .i64 T.n, .int .i64 T.ins, .int .i64 T.outs, .slice p T.cs.length c] 24) = w2 := ⟨_, rfl⟩
  have HE : Hid (Ext w w2) := by show Ext _ _; rw [← hw2]; exact (Ext.refl w).alloc _
  have HT : Hid (TBox w2 w.heap.size (.int .i64 T.n) (.int .i64 T.ins) (.int .i64 T.outs) (.slice p T.cs.length c)) := by
    show _ = _
    rw [← hw2]
    exact heap_alloc_new w _
  have HW2 := hide hw2
  clear hw2
  go_enter Tryd.func9, Tryd.ntmps9
  go_wp2_with fail
  rw [HW2.out]
  refine (HCK.out _ HE.out).mono ?_
  rintro e W1 ⟨rfl, hE1⟩
  have HE1 := hide (HE.out.trans hE1)
  have HT1 := hide (HT.out.ext hE1)
  clear hE1 HCK
  by_cases h0 : te = 0
  case neg =>
    have hd : (te != 0) = true := by simp [h0]
    have HR := hide (HR1.out h0)
    clear h0
    go_wp2_with fail
    go_ret2
    exact ⟨by rw [HR.out]; rfl, HE1.out⟩
  case pos =>
  have hd : (te != 0) = false := by simp [h0]
  have HR2 := hide (HR2.out h0)
  have HR3 := hide (HR3.out h0)
  have HOK := hide (HOK.out h0)
  clear h0 HR1
  have hTl2 : T.cs.length ≤ 1024 := HOK.out.l2
  obtain ⟨t0, t1, t2, t3⟩ := HT1.out.cells
  have z0 := lt_of_heap HT1.out
  go_wp2_with fail
  clear t0 t1 t2 t3 z0
  go_loopw [17] (fun x wr => ∃ i : Nat, i ≤ T.cs.length ∧ x = .int .i64 i ∧ Hid (∀ j, j < i → ∀ m, m < (T.cs.getD j default).out.length → constB ((T.cs.getD j default).out.getD m []) = true) ∧ Hid (Ext W1 wr)) (fun x _ => T.cs.length - (intOf x).toNat)
  case atStart => exact ⟨0, by omega, rfl, fun j hj => by omega, Ext.refl _⟩
  case round =>
    obtain ⟨i, hi, rfl, HJ, HE2⟩ := hrel
    by_cases hlt : i < T.cs.length
    case neg =>
      obtain rfl : i = T.cs.length := by omega
      have HR := hide (HR3.out HJ.out)
      go_wp2_with fail
      go_ret2
      exact ⟨by rw [HR.out]; rfl, HE1.out.trans HE2.out⟩
    case pos =>
    obtain ⟨b, o, rfl, hb, hat⟩ := HA.out (by omega)
    obtain ⟨q0, k0, q1, k1, q2, k2, hC⟩ := hat i hlt
    have HV := hide (HOK.out.at_ i hlt)
    have HFI := hide (HR2.out i hlt)
    have HNX : Hid ((∀ m, m < (T.cs.getD i default).out.length → constB ((T.cs.getD i default).out.getD m []) = true) → ∀ j, j < i + 1 → ∀ m, m < (T.cs.getD j default).out.length → constB ((T.cs.getD j default).out.getD m []) = true) := fun h j hj => by
      by_cases e : j = i
      · subst e; exact h
      · exact HJ.out j (by omega)
    clear hat
    have hW : Ext w wr := HE1.out.trans HE2.out
    have x0 := hC.c0 _ hW
    have x1 := hC.c1 _ hW
    have x2 := hC.c2 _ hW
    have hbz := Nat.lt_of_lt_of_le hb hW.size
    have HLN : Hid (∀ m, m < (T.cs.getD i default).out.length → 0 < ((T.cs.getD i default).out.getD m []).length) := fun m hm => by
      have := (vecE_zero ((csE_zero HV.out.2).2.1 m hm).1).1
      have := HOK.out.n1
      omega
    obtain ⟨_, _, _, -, hll, hat1⟩ := hC.r1.sl_all
    have HA1 := hide hC.r1
    clear hat1 hC hb
    generalize (T.cs.getD i default).inp.length = l0 at x0
    generalize (T.cs.getD i default).calm.length = l2 at x2
    generalize (T.cs.getD i default).out = L at x1 HFI HNX HLN HA1 hll
    have HHW := hide hW
    clear hW
    go_wp2_with fail
    have hEA : Ext wr (wr.alloc (.cells #[.slice q0 l0 k0, .slice q1 L.length k1, .slice q2 l2 k2] 53)) := (Ext.refl _).alloc _
    have HEA := hide hEA
    clear hEA x0 x1 x2 hbz
    generalize wr.alloc (.cells #[.slice q0 l0 k0, .slice q1 L.length k1, .slice q2 l2 k2] 53) = W3 at HEA ⊢
    go_loopw [24] (fun x wr3 => ∃ m : Nat, m ≤ L.length ∧ x = .int .i64 m ∧ Hid (∀ j, j < m → constB (L.getD j []) = true) ∧ Hid (Ext W3 wr3)) (fun x _ => L.length - (intOf x).toNat)
    case atStart => exact ⟨0, by omega, rfl, fun j hj => by omega, Ext.refl _⟩
    case round =>
      obtain ⟨m, hm, rfl, HJ4, HE8⟩ := hrel
      by_cases hml : m < L.length
      case neg =>
        obtain rfl : m = L.length := by omega
        have HR := hide (HNX.out HJ4.out)
        go_wp2_with fail
        go_roundw
        case rel => exact ⟨i + 1, by omega, by go_num, HR.out, HE2.out.trans (HEA.out.trans HE8.out)⟩
        case measure => simp [intOf]; omega
      case pos =>
      have HN4 : Hid (constB (L.getD m []) = true → ∀ j, j < m + 1 → constB (L.getD j []) = true) := fun h j hj => by
        by_cases e : j = m
        · subst e; exact h
        · exact HJ4.out j (by omega)
      have HF4 := hide (HFI.out m hml)
      have HH8 : Hid (Ext w wr) := HHW.out.trans (HEA.out.trans HE8.out)
      obtain ⟨p9, c9, e9, -, -, hat8⟩ := HA1.out.sl_all
      obtain ⟨bv, ov, hpv, hbv, hat9⟩ := hat8 (by omega)
      clear hat8
      injection e9 with e9 _ e10
      subst e9 e10 hpv
      obtain ⟨qe, ke, hce, hre, hle⟩ := hat9 m hml
      replace hce := hce _ HH8.out
      have hbv2 := Nat.lt_of_lt_of_le hbv HH8.out.size
      have HCC := hide (pconst_any (L.getD m []) _ wr (hre.ext HH8.out) (HLN.out m hml))
      generalize constB (L.getD m []) = r at HN4 HF4 HCC
      generalize (L.getD m []).length = yl at hce HCC
      clear hat9 hre hle hbv
      go_wp2_with fail
      refine HCC.out.mono ?_
      rintro e W7 ⟨rfl, hE9⟩
      have HE9 := hide (HE8.out.trans hE9)
      clear hce hbv2 hE9
      cases r with
      | true =>
        have HR := hide (HN4.out rfl)
        go_wp2_with fail
        go_roundw
        case rel => exact ⟨m + 1, by omega, by go_num, HR.out, HE9.out⟩
        case measure => simp [intOf]; omega
      | false =>
        have HR := hide (HF4.out rfl)
        go_wp2_with fail
        go_ret2
        exact ⟨by rw [HR.out]; rfl, HHW.out.trans (HEA.out.trans HE9.out)⟩
end Go.Proofs.YtdgapihlgddnjaaDoor
