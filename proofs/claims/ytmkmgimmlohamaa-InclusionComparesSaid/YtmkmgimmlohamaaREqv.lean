/-
  The reference's Equivalent of law 20; what both sides' Equivalent tells.
  Conditions: as each theorem states.
-/
import Derived.Test.YtmkmgimmlohamaaRFirst
import Derived.Test.YtmkmgimmlohamaaROrd
namespace Go.Proofs.Ytmkmgimmlohamaa
open Go.RowKit
attribute [local go_sem] Oper.semAt_some

/-- What Equivalent tells. -/
def EqT (A B : Adv) (w : World) (en : Ending) (w' : World) : Prop :=
  ∃ x b word, en = .returned (.tuple #[x, .bool b, .int .i64 (bothI A B)]) ∧ Ext w w' ∧ Row Rd.cells 7 w' x word ∧
    ((bothI A B ≠ 0 ∧ b = false ∧ word = []) ∨ (bothI A B = 0 ∧ b = true ∧ word = [] ∧ Inc A B ∧ Inc B A) ∨
      (bothI A B = 0 ∧ b = false ∧ (lackW A B word ∨ lackW B A word) ∧ ∀ u, lackW A B u ∨ lackW B A u → Wle word u))
/-- One word and one answer. -/
theorem eqT_same {A B : Adv} {b c : Bool} {x y : List Rd}
    (h : (bothI A B ≠ 0 ∧ b = false ∧ x = []) ∨ (bothI A B = 0 ∧ b = true ∧ x = [] ∧ Inc A B ∧ Inc B A) ∨ (bothI A B = 0 ∧ b = false ∧ (lackW A B x ∨ lackW B A x) ∧ ∀ u, lackW A B u ∨ lackW B A u → Wle x u))
    (k : (bothI A B ≠ 0 ∧ c = false ∧ y = []) ∨ (bothI A B = 0 ∧ c = true ∧ y = [] ∧ Inc A B ∧ Inc B A) ∨ (bothI A B = 0 ∧ c = false ∧ (lackW A B y ∨ lackW B A y) ∧ ∀ u, lackW A B u ∨ lackW B A u → Wle y u)) : b = c ∧ x = y := by
  rcases h with ⟨h0, rfl, rfl⟩ | ⟨h0, rfl, rfl, h1, h2⟩ | ⟨h0, rfl, h1, h2⟩ <;> rcases k with ⟨k0, rfl, rfl⟩ | ⟨k0, rfl, rfl, k1, k2⟩ | ⟨k0, rfl, k1, k2⟩
  · exact ⟨rfl, rfl⟩
  · exact absurd k0 h0
  · exact absurd k0 h0
  · exact absurd h0 k0
  · exact ⟨rfl, rfl⟩
  · exact (k1.elim (inc_lack.1 h1 y) (inc_lack.1 h2 y)).elim
  · exact absurd h0 k0
  · exact (h1.elim (inc_lack.1 k1 x) (inc_lack.1 k2 x)).elim
  · exact ⟨rfl, least_eq (P := fun u => lackW A B u ∨ lackW B A u) h1 h2 k1 k2⟩
/-- The program's Equivalent. -/
theorem eqT_of {A B : Adv} {w : World} {en : Ending} {w' : World} (h : RetIn dE A B w en w') : EqT A B w en w' := by
  by_cases h0 : bothI A B = 0
  · have hA := (bothI_zero h0).1
    have hB := (bothI_zero h0).2.1
    obtain ⟨x, b, rfl, hE, (⟨k, _⟩ | ⟨_, rfl, word, hr, _, hm, hle⟩ | ⟨_, rfl, rfl, hn⟩)⟩ := h
    · exact absurd h0 k
    · exact ⟨x, false, word, rfl, hE, hr, .inr (.inr ⟨h0, rfl, (markE hA hB word).1 hm, fun u hu => hle u ((markE hA hB u).2 hu)⟩)⟩
    · exact ⟨_, true, [], rfl, hE, Row.nil _ _ _, .inr (.inl ⟨h0, rfl, rfl, inc_lack.2 fun u hu => hn u ((markE hA hB u).2 (.inl hu)), inc_lack.2 fun u hu => hn u ((markE hA hB u).2 (.inr hu))⟩)⟩
  · obtain ⟨x, b, rfl, hE, (⟨_, rfl, rfl⟩ | ⟨k, _⟩ | ⟨k, _⟩)⟩ := h
    · exact ⟨_, false, [], rfl, hE, Row.nil _ _ _, .inl ⟨h0, rfl, rfl⟩⟩
    · exact absurd k h0
    · exact absurd k h0
set_option maxRecDepth 16000 in
set_option maxHeartbeats 4000000 in
theorem requiv_any (A B : Adv) (u v : Value) (w : World) (hA : AdvRep w u A) (hB : AdvRep w v B) :
    Calls Try.prog 19 #[u, v] w (EqT A B w) := by
  have HBO := hide (fun W (hE : Ext w W) => rboth_any A B u v W (hA.ext hE) (hB.ext hE))
  have HFI := hide (fun W (hE : Ext w W) (h : bothI A B = 0) => rfirst_any A B u v W (hA.ext hE) (hB.ext hE) (bothI_zero h).1 (bothI_zero h).2.1)
  have HFJ := hide (fun W (hE : Ext w W) (h : bothI A B = 0) => rfirst_any B A v u W (hB.ext hE) (hA.ext hE) (bothI_zero h).2.1 (bothI_zero h).1)
  have HEQ : Hid (∀ en w', EqT A B w en w' ↔ EqT A B w en w') := fun _ _ => Iff.rfl
  obtain ⟨p, c, rfl, -⟩ := hA.all_
  obtain ⟨q, d, rfl, -⟩ := hB.all_
  clear hA hB
  obtain ⟨bo, hbo⟩ : ∃ bo, bothI A B = bo := ⟨_, rfl⟩
  rw [hbo] at HBO
  have HBOE := hide hbo
  clear hbo
  have HN := hide (TwoBox.new A B p c q d w)
  have HE1 := hide (((Ext.refl w).alloc (.cells #[.int .i64 A.n, .slice p A.L c] 24)).alloc (.cells #[.int .i64 B.n, .slice q B.L d] 24))
  obtain ⟨W1, hW1⟩ : ∃ W1, (w.alloc (.cells #[.int .i64 A.n, .slice p A.L c] 24)).alloc (.cells #[.int .i64 B.n, .slice q B.L d] 24) = W1 := ⟨_, rfl⟩
  rw [hW1] at HN HE1
  have HW1 := hide hW1
  clear hW1
  go_enter Try.func19, Try.ntmps19
  obtain ⟨z, hz⟩ : ∃ z, w.heap.size = z := ⟨_, rfl⟩
  rw [hz] at HN
  go_wp2_with fail
  rw [HW1.out]
  refine (HBO.out W1 HE1.out).mono ?_
  rintro e w2 ⟨rfl, hE2⟩
  have HN2 := hide (HN.out.ext hE2)
  have HE2 := hide (HE1.out.trans hE2)
  clear hE2 HN HE1 HW1 hz
  by_cases hbo : bo = 0
  case neg =>
    have d1 : decide (bo = 0) = false := decide_eq_false hbo
    have hne : (bo != 0) = true := by simpa using hbo
    go_wp2_with fail
    go_ret3
    exact ⟨_, false, [], by rw [HBOE.out]; rfl, HE2.out, Row.nil _ _ _, .inl ⟨by rw [HBOE.out]; exact hbo, rfl, rfl⟩⟩
  subst hbo
  obtain ⟨z0, a0, a1, z1, b0, b1⟩ := HN2.out.cells
  go_wp2_with fail
  refine (HFI.out w2 HE2.out HBOE.out).mono ?_
  rintro e w3 ⟨x, bx, wx, rfl, hE3, hrx, hx⟩
  have HN3 := hide (HN2.out.ext hE3)
  have HE3 := hide (HE2.out.trans hE3)
  have HRX := hide hrx
  have HX := hide hx
  obtain ⟨px, cx, rfl, -⟩ := hrx
  clear hE3 hx z0 a0 a1 z1 b0 b1
  obtain ⟨z0, a0, a1, z1, b0, b1⟩ := HN3.out.cells
  go_wp2_with fail
  refine (HFJ.out w3 HE3.out HBOE.out).mono ?_
  rintro e w4 ⟨y, bY, wy, rfl, hE4, hry, hy⟩
  have HE4 := hide (HE3.out.trans hE4)
  have HRX4 := hide (HRX.out.ext hE4)
  have HRY := hide hry
  have HY := hide hy
  obtain ⟨py, cy, rfl, -⟩ := hry
  clear hE4 hy z0 a0 a1 z1 b0 b1 HN2 HN3 HRX
  have GX : Hid (Hid (Ext w w4) → lackW A B wx → (∀ u, lackW A B u ∨ lackW B A u → Wle wx u) → ∀ W, Ext w4 W → EqT A B w (.returned (.tuple #[.slice px wx.length cx, .bool false, .int .i64 0])) W) := fun hE h1 h2 W hW =>
    ⟨_, false, wx, by rw [HBOE.out], hE.out.trans hW, HRX4.out.ext hW, .inr (.inr ⟨HBOE.out, rfl, .inl h1, h2⟩)⟩
  have GY : Hid (Hid (Ext w w4) → lackW B A wy → (∀ u, lackW A B u ∨ lackW B A u → Wle wy u) → ∀ W, Ext w4 W → EqT A B w (.returned (.tuple #[.slice py wy.length cy, .bool false, .int .i64 0])) W) := fun hE h1 h2 W hW =>
    ⟨_, false, wy, by rw [HBOE.out], hE.out.trans hW, HRY.out.ext hW, .inr (.inr ⟨HBOE.out, rfl, .inr h1, h2⟩)⟩
  have HOR := hide (rorder_any wx wy _ _ w4 HRX4.out HRY.out)
  cases bx with
  | false =>
    have hx : wx = [] ∧ Inc A B := by
      rcases HX.out with ⟨h, _⟩ | ⟨_, h1, h2⟩
      · cases h
      · exact ⟨h1, h2⟩
    have HIX := hide hx.2
    clear hx HX
    cases bY with
    | false =>
      have hy : wy = [] ∧ Inc B A := by
        rcases HY.out with ⟨h, _⟩ | ⟨_, h1, h2⟩
        · cases h
        · exact ⟨h1, h2⟩
      have HIY := hide hy.2
      clear hy HY
      go_wp2_with fail
      go_ret3
      exact ⟨_, true, [], by rw [HBOE.out]; rfl, HE4.out, Row.nil _ _ _, .inr (.inl ⟨HBOE.out, rfl, rfl, HIX.out, HIY.out⟩)⟩
    | true =>
      have hy : lackW B A wy ∧ ∀ u, lackW B A u → Wle wy u := by
        rcases HY.out with ⟨_, h1, h2⟩ | ⟨h, _⟩
        · exact ⟨h1, h2⟩
        · cases h
      have HG := hide (GY.out HE4 hy.1 (fun u hu => hu.elim (fun k => absurd k (inc_lack.1 HIX.out u)) (hy.2 u)) w4 (Ext.refl _))
      clear hy HY
      go_wp2_with fail
      go_ret3
      exact HG.out
  | true =>
    have hx : lackW A B wx ∧ ∀ u, lackW A B u → Wle wx u := by
      rcases HX.out with ⟨_, h1, h2⟩ | ⟨h, _⟩
      · exact ⟨h1, h2⟩
      · cases h
    have HX1 := hide hx
    clear hx HX
    cases bY with
    | false =>
      have hy : wy = [] ∧ Inc B A := by
        rcases HY.out with ⟨h, _⟩ | ⟨_, h1, h2⟩
        · cases h
        · exact ⟨h1, h2⟩
      have HG := hide (GX.out HE4 HX1.out.1 (fun u hu => hu.elim (HX1.out.2 u) (fun k => absurd k (inc_lack.1 hy.2 u))) w4 (Ext.refl _))
      clear hy HY
      go_wp2_with fail
      go_ret3
      exact HG.out
    | true =>
      have hy : lackW B A wy ∧ ∀ u, lackW B A u → Wle wy u := by
        rcases HY.out with ⟨_, h1, h2⟩ | ⟨h, _⟩
        · exact ⟨h1, h2⟩
        · cases h
      have HGX : Hid (Wlt wx wy → ∀ W, Ext w4 W → EqT A B w (.returned (.tuple #[.slice px wx.length cx, .bool false, .int .i64 0])) W) := fun hlt => GX.out HE4 HX1.out.1 (fun u hu => hu.elim (HX1.out.2 u) (fun k => .inl (hlt.trans_le (hy.2 u k))))
      have HGY : Hid (¬ Wlt wx wy → ∀ W, Ext w4 W → EqT A B w (.returned (.tuple #[.slice py wy.length cy, .bool false, .int .i64 0])) W) := fun hlt => GY.out HE4 hy.1 (fun u hu => hu.elim (fun k => (Wle.of_not hlt).trans (HX1.out.2 u k)) (hy.2 u))
      have HWL := hide (wlt_iff wx wy)
      clear hy HY HX1 GX GY
      generalize ordL wx wy = o at HOR HWL
      generalize wx.length = nx at *
      generalize wy.length = ny at *
      by_cases hlt : nx < ny
      · have d1 : decide (nx < ny) = true := decide_eq_true hlt
        have HG := hide (HGX.out (HWL.out.2 (.inl hlt)) w4 (Ext.refl _))
        go_wp2_with fail
        go_ret3
        exact HG.out
      · have d1 : decide (nx < ny) = false := decide_eq_false hlt
        by_cases heq : nx = ny
        · subst heq
          by_cases ho : o < 0
          · have d2 : decide (o < 0) = true := decide_eq_true ho
            have HG := hide (HGX.out (HWL.out.2 (.inr ⟨rfl, ho⟩)))
            go_wp2_with fail
            refine HOR.out.mono ?_
            rintro e w5 ⟨rfl, hE5⟩
            have HE5 := hide hE5
            clear hE5
            go_wp2_with fail
            go_ret3
            exact HG.out _ HE5.out
          · have d2 : decide (o < 0) = false := decide_eq_false ho
            have HG := hide (HGY.out (fun h => by rcases HWL.out.1 h with h | ⟨_, h⟩ <;> omega))
            go_wp2_with fail
            refine HOR.out.mono ?_
            rintro e w5 ⟨rfl, hE5⟩
            have HE5 := hide hE5
            clear hE5
            go_wp2_with fail
            go_ret3
            exact HG.out _ HE5.out
        · have d2 : decide (nx = ny) = false := decide_eq_false heq
          have d3 : (nx == ny) = false := by simpa using heq
          have d4 : ((nx : Int) == (ny : Int)) = false := by simpa using (fun h => heq (by omega))
          have HG := hide (HGY.out (fun h => by rcases HWL.out.1 h with h | ⟨h, _⟩ <;> omega) w4 (Ext.refl _))
          go_wp2_with fail
          go_ret3
          exact HG.out
end Go.Proofs.Ytmkmgimmlohamaa
