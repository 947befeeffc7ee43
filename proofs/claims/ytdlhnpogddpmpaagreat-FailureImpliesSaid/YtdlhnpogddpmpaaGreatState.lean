/-
  The program's state (adversary.state).
  Conditions: as each theorem states.
-/
import Derived.Test.YtdlhnpogddpmpaaGreatSized
namespace Go.Proofs.YtdlhnpogddpmpaaGreat
open Go.RowKit
attribute [local go_sem] Oper.semAt_some

/-- The error of a state's list. -/
def lsErr (n : Int) (L : Nat) (ms : List Mv) : Int := if ms.length = 0 then 19 else firstErr (mvErrAt n L ms) ms.length

set_option maxHeartbeats 4000000 in
theorem state_any (A : Adv) (v u : Value) (ms : List Mv) (w : World) (hA : AdvRep w v A) (hM : Row Mv.cells 8 w u ms) :
    Calls Tryz.prog 49 #[v, u] w fun e w' => e = .returned (.int .i64 (lsErr A.n A.L ms)) ∧ Ext w w' := by
  obtain ⟨p, c, rfl, hc, hl, hat⟩ := hA.all_
  clear hat hA
  obtain ⟨q, d, rfl, hd, hml, hat⟩ := hM.mv_all
  have HAT := hide hat
  clear hat hM
  obtain ⟨f, hf⟩ : ∃ f, mvErrAt A.n A.L ms = f := ⟨_, rfl⟩
  generalize hres : lsErr A.n A.L ms = res
  unfold lsErr at hres
  rw [hf] at hres
  by_cases hz : ms.length = 0
  · rw [if_pos hz] at hres
    have HR := hide hres
    clear hres hf HAT
    rw [hz] at hd hml ⊢
    go_enter Tryz.func49, Tryz.ntmps49
    go_wp2_with fail
    go_ret
    exact ⟨ret_int HR.out, (Ext.refl w).alloc _⟩
  · rw [if_neg hz] at hres
    have HBAD : Hid (∀ i, i < ms.length → (∀ j, j < i → f j = 0) → f i ≠ 0 → f i = res) := fun i hi h1 h2 => by rw [← hres]; exact (firstErr_at hi h1 h2).symm
    have HOK : Hid ((∀ j, j < ms.length → f j = 0) → (0 : Int) = res) := fun h1 => by rw [← hres]; exact (firstErr_end h1).symm
    have HF := hide hf
    clear hres hf
    have hz2 : ((ms.length : Int) == 0) = false := by simp [hz]
    clear hz
    go_enter Tryz.func49, Tryz.ntmps49
    go_wp2_with fail
    obtain ⟨w1, hw1⟩ : ∃ w1, w.alloc (.cells #[.int .i64 A.n, .slice p A.L c] 26) = w1 := ⟨_, rfl⟩
    have hE1 : Ext w w1 := by rw [← hw1]; exact (Ext.refl w).alloc _
    have hb0 : w1.cell? ⟨w.heap.size, 0, none⟩ = some (.int .i64 A.n) := by rw [← hw1]; simp [go_sem]
    have hb1 : w1.cell? ⟨w.heap.size, 1, none⟩ = some (.slice p A.L c) := by rw [← hw1]; simp [go_sem]
    have hsz : w.heap.size < w1.heap.size := by rw [← hw1]; simp
    rw [hw1]
    clear hw1
    go_loopw [13] (fun x wr => ∃ i : Nat, i ≤ ms.length ∧ x = .int .i64 i ∧ (∀ j, j < i → f j = 0) ∧ Ext w1 wr) (fun x _ => ms.length - (intOf x).toNat)
    case atStart => exact ⟨0, by omega, rfl, fun j hj => by omega, Ext.refl _⟩
    case round =>
      obtain ⟨i, hi, rfl, hz, hEr⟩ := hrel
      obtain ⟨hcr, hfr⟩ := hEr.rules
      have hEw := hE1.trans hEr
      have HZ := hide hz
      clear hz
      by_cases hil : i < ms.length
      · obtain ⟨b, o, rfl, hb, hat⟩ := HAT.out (by omega)
        have hx := hat i hil
        have hprev : 0 < i → MvAt w b (o + (i - 1) * 8) (ms.getD (i - 1) default) := fun h0 => hat (i - 1) (by omega)
        have hE : _ = f i := congrFun HF.out i
        clear hat
        unfold mvErrAt at hE
        generalize ms.getD (i - 1) default = pv at hprev hE
        generalize ms.getD i default = m at hx hE
        obtain ⟨⟨⟨n1, a1, b1, c1, d1, e1⟩, f1⟩, t1⟩ := m
        obtain ⟨⟨⟨n2, a2, b2, c2, d2, e2⟩, f2⟩, t2⟩ := pv
        obtain ⟨x0, x1, x2, x3, x4, x5, x6, x7⟩ := hx
        dsimp only at x0 x1 x2 x3 x4 x5 x6 x7 hE
        have hck := fun W => rcheck_any ⟨⟨n1, a1, b1, c1, d1, e1⟩, f1⟩ W
        have hcm := fun W => rcompare_any ⟨⟨n2, a2, b2, c2, d2, e2⟩, f2⟩ ⟨⟨n1, a1, b1, c1, d1, e1⟩, f1⟩ W
        generalize rchk ⟨⟨n1, a1, b1, c1, d1, e1⟩, f1⟩ = ck at hck hE
        generalize rcmp ⟨⟨n2, a2, b2, c2, d2, e2⟩, f2⟩ ⟨⟨n1, a1, b1, c1, d1, e1⟩, f1⟩ = cm at hcm hE
        have HCK := hide hck
        have HCM := hide hcm
        have HP := hide hprev
        clear hck hcm hprev
        have HBADI : Hid (f i ≠ 0 → f i = res) := HBAD.out i hil HZ.out
        have HEI := hide hE
        clear hE
        go_wp2_with fail
        refine (HCK.out _).mono ?_
        rintro e w3 ⟨rfl, hE3⟩
        have hE3w : Ext w1 w3 := (hEr.alloc _).trans hE3
        have hE3v : Ext w w3 := hE1.trans hE3w
        obtain ⟨hc3, hf3⟩ := hE3.rules
        have hz3 : wr.heap.size < w3.heap.size := by have := hE3.size; simp at this; omega
        have hz4 : w.heap.size < w3.heap.size := by have := hE3w.size; omega
        have hbn : w3.cell? ⟨w.heap.size, 0, none⟩ = some (.int .i64 A.n) := by rw [hE3w.cell hsz]; exact hb0
        by_cases h1 : ck = 0
        · by_cases h2 : n1 = A.n
          · have HQ := HEI.out
            rw [if_pos h1, if_pos h2] at HQ
            have HQ := hide HQ
            clear HEI
            have hck : (ck != 0) = false := by simp [h1]
            have hnn : (n1 != A.n) = false := by simp [h2]
            clear h1 h2
            by_cases h3 : 0 < i
            · obtain ⟨y0, y1, y2, y3, y4, y5, y6, y7⟩ := HP.out h3
              dsimp only at y0 y1 y2 y3 y4 y5 y6 y7
              clear y7
              have h1i : (1 : Int) ≤ i := by omega
              have h1d : decide (0 < i) = true := by simp [h3]
              have hsub : IntKind.i64.wrap ((i : Int) - 1) = (i : Int) - 1 := IntWalk.i64_in _ (by omega)
              go_wp2_with fail
              refine wp_region_ext (by kernel_rfl) (by kernel_rfl) ?_
              repeat (go_big_quiet_step ((go_at_call 70; exact Calls.ext_of (HCM.out _))))
              refine wpQuiet_nil ?_
              rintro w2 ⟨⟨_, hE2⟩, rfl⟩
              have hE4 := hE3v.trans hE2
              have hE5 := hE3w.trans hE2
              have hbox : w2.cell? ⟨w.heap.size, 1, none⟩ = some (.slice p A.L c) := by rw [hE5.cell hsz]; exact hb1
              have hto : w2.cell? ⟨wr.heap.size, 7, none⟩ = some (.int .i64 t1) := by rw [hE2.cell hz3, hc3 _ _ (by simp)]; simp [go_sem]
              clear hc3 hf3 hz3 hz4 hE2 y0 y1 y2 y3 y4 y5 y6 hsub x0 x1 x2 x3 x4 x5 x6 x7
              by_cases h4 : 0 ≤ cm
              · have HR := HQ.out
                rw [if_pos ⟨h3, h4⟩] at HR
                have HR2 := hide (HBADI.out (by omega))
                have HR3 := hide HR
                clear HR HQ
                have h4d : decide (0 ≤ cm) = true := by simp [h4]
                go_wp2_with fail
                go_ret
                exact ⟨ret_int (by rw [HR3.out]; exact HR2.out), hE4⟩
              · have HR := HQ.out
                rw [if_neg (fun h => h4 h.2)] at HR
                have HQ := hide HR
                clear HR
                have h4d : decide (0 ≤ cm) = false := decide_eq_false h4
                rcases (by omega : t1 < 0 ∨ (0 ≤ t1 ∧ (A.L : Int) ≤ t1) ∨ (0 ≤ t1 ∧ t1 < (A.L : Int))) with h5 | ⟨h5, h6⟩ | ⟨h5, h6⟩
                · have HR := HQ.out
                  rw [if_pos (.inl h5)] at HR
                  have HR2 := hide (HBADI.out (by omega))
                  have HR3 := hide HR
                  clear HR HQ
                  have h5d : decide (t1 < 0) = true := by simp [h5]
                  go_wp2_with fail
                  go_ret
                  exact ⟨ret_int (by rw [HR3.out]; exact HR2.out), hE4⟩
                · have HR := HQ.out
                  rw [if_pos (.inr h6)] at HR
                  have HR2 := hide (HBADI.out (by omega))
                  have HR3 := hide HR
                  clear HR HQ
                  have h5d : decide (t1 < 0) = false := decide_eq_false (by omega)
                  have h6d : decide ((A.L : Int) ≤ t1) = true := by simp [h6]
                  go_wp2_with fail
                  go_ret
                  exact ⟨ret_int (by rw [HR3.out]; exact HR2.out), hE4⟩
                · have HR := HQ.out
                  rw [if_neg (by omega)] at HR
                  have HR3 := hide HR
                  clear HR HQ
                  have h5d : decide (t1 < 0) = false := decide_eq_false (by omega)
                  have h6d : decide ((A.L : Int) ≤ t1) = false := decide_eq_false (by omega)
                  go_wp2_with fail
                  refine ⟨⟨i + 1, by omega, by simp, fun j hj => ?_, hE5⟩, by simp [intOf]; try omega⟩
                  rcases Nat.lt_or_ge j i with h7 | h7
                  · exact HZ.out j h7
                  · obtain rfl : j = i := by omega
                    exact HR3.out.symm
            · obtain rfl : i = 0 := by omega
              have HQ := HQ.out
              rw [if_neg (fun h => h3 h.1)] at HQ
              have HQ := hide HQ
              clear h3
              go_wp2_with fail
              refine wp_region_ext (by kernel_rfl) (by kernel_rfl) ?_
              repeat (go_big_quiet_step (fail))
              refine wpQuiet_nil ?_
              rintro w2 ⟨⟨_, hE2⟩, rfl⟩
              have hE4 := hE3v.trans hE2
              have hE5 := hE3w.trans hE2
              have hbox : w2.cell? ⟨w.heap.size, 1, none⟩ = some (.slice p A.L c) := by rw [hE5.cell hsz]; exact hb1
              have hto : w2.cell? ⟨wr.heap.size, 7, none⟩ = some (.int .i64 t1) := by rw [hE2.cell hz3, hc3 _ _ (by simp)]; simp [go_sem]
              clear hc3 hf3 hz3 hz4 hE2 x0 x1 x2 x3 x4 x5 x6 x7
              rcases (by omega : t1 < 0 ∨ (0 ≤ t1 ∧ (A.L : Int) ≤ t1) ∨ (0 ≤ t1 ∧ t1 < (A.L : Int))) with h5 | ⟨h5, h6⟩ | ⟨h5, h6⟩
              · have HR := HQ.out
                rw [if_pos (.inl h5)] at HR
                have HR2 := hide (HBADI.out (by omega))
                have HR3 := hide HR
                clear HR HQ
                have h5d : decide (t1 < 0) = true := by simp [h5]
                go_wp2_with fail
                go_ret
                exact ⟨ret_int (by rw [HR3.out]; exact HR2.out), hE4⟩
              · have HR := HQ.out
                rw [if_pos (.inr h6)] at HR
                have HR2 := hide (HBADI.out (by omega))
                have HR3 := hide HR
                clear HR HQ
                have h5d : decide (t1 < 0) = false := decide_eq_false (by omega)
                have h6d : decide ((A.L : Int) ≤ t1) = true := by simp [h6]
                go_wp2_with fail
                go_ret
                exact ⟨ret_int (by rw [HR3.out]; exact HR2.out), hE4⟩
              · have HR := HQ.out
                rw [if_neg (by omega)] at HR
                have HR3 := hide HR
                clear HR HQ
                have h5d : decide (t1 < 0) = false := decide_eq_false (by omega)
                have h6d : decide ((A.L : Int) ≤ t1) = false := decide_eq_false (by omega)
                go_wp2_with fail
                refine ⟨⟨0 + 1, by omega, by simp, fun j hj => ?_, hE5⟩, by simp [intOf]; try omega⟩
                rcases Nat.lt_or_ge j 0 with h7 | h7
                · exact HZ.out j h7
                · obtain rfl : j = 0 := by omega
                  exact HR3.out.symm
          · have HR := HEI.out
            rw [if_pos h1, if_neg h2] at HR
            have HR2 := hide (HBADI.out (by omega))
            have HR3 := hide HR
            clear HR HEI
            have hck : (ck != 0) = false := by simp [h1]
            have hnn : (n1 != A.n) = true := by simp [h2]
            clear h1 h2
            go_wp2_with fail
            go_ret
            exact ⟨ret_int (by rw [HR3.out]; exact HR2.out), hE3v⟩
        · have hck : (ck != 0) = true := by simp [h1]
          have HR := HEI.out
          rw [if_neg h1] at HR
          have HR2 := hide (HBADI.out (by omega))
          have HR3 := hide HR
          clear HR HEI
          go_wp2_with fail
          go_ret
          exact ⟨ret_int (by first | exact HR2.out | (rw [HR3.out]; exact HR2.out)), hE3v⟩
      · go_wp2_with fail
        go_ret
        have hii : i = ms.length := by omega
        subst hii
        exact ⟨ret_int (HOK.out HZ.out), hEw⟩
end Go.Proofs.YtdlhnpogddpmpaaGreat
