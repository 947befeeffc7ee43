/-
  The program's check of an adversary (adversary.Check).
  Conditions: as each theorem states.
-/
import Derived.Test.YtdlhnpogddpmpaaGreatState
import Derived.Test.YtdlhnpogddpmpaaGreatWordA
namespace Go.Proofs.YtdlhnpogddpmpaaGreat
open Go.RowKit
attribute [local go_sem] Oper.semAt_some

theorem small_of {A : Adv} (h : ∀ s, s < A.L → stErr A s = 0) : ∀ s i, s < A.L → i < A.len s → 0 ≤ (A.mv s i).r.f ∧ (A.mv s i).r.f < 32 := by
  intro s i hs hi
  obtain ⟨h1, _, _, h4, h5⟩ := mvErrAt_zero ((stErr_zero (h s hs)).2 i hi)
  obtain ⟨h6, h7⟩ := rchk_zero h1
  obtain ⟨h8, h9, h10, h11⟩ := pchk_zero h7
  have hp := (pow_le32 (n := ((A.st.getD s []).getD i default).r.g.n.toNat) (by omega)).1
  exact ⟨h10, by show ((A.st.getD s []).getD i default).r.f < _; omega⟩
theorem pre_step (A : Adv) {s j : Nat} (hj : j < A.len s) {s' j' : Nat} (h : s < s') : A.pre s j < A.pre s' j' := by
  have h1 : ∀ d, A.pre (s + 1) 0 ≤ A.pre (s + 1 + d) 0 := by
    intro d
    induction d with
    | zero => exact Nat.le_refl _
    | succ d ih =>
      have e := pre_next A (s + 1 + d)
      have e2 : A.pre (s + 1 + d) (A.len (s + 1 + d)) = A.pre (s + 1 + d) 0 + A.len (s + 1 + d) := rfl
      have e3 : s + 1 + (d + 1) = s + 1 + d + 1 := by omega
      rw [e3]; omega
  have h2 := h1 (s' - (s + 1))
  rw [show s + 1 + (s' - (s + 1)) = s' by omega] at h2
  have e1 := pre_next A s
  have e2 : A.pre s (A.len s) = A.pre s 0 + A.len s := rfl
  have e3 : A.pre s j = A.pre s 0 + j := rfl
  have e4 : A.pre s' j' = A.pre s' 0 + j' := rfl
  omega
theorem pre_inj {A : Adv} {s j s' j' : Nat} (_ : s < A.L) (hj : j < A.len s) (_ : s' < A.L) (hj' : j' < A.len s') (h : A.pre s j = A.pre s' j') : s = s' ∧ j = j' := by
  have h1 := fun h => pre_step A hj (s' := s') (j' := j') h
  have h2 := fun h => pre_step A hj' (s' := s) (j' := j) h
  have e : s = s' := by
    rcases Nat.lt_trichotomy s s' with h3 | h3 | h3
    · have := h1 h3; omega
    · exact h3
    · have := h2 h3; omega
  subst e
  have e3 : A.pre s j = A.pre s 0 + j := rfl
  have e4 : A.pre s j' = A.pre s 0 + j' := rfl
  exact ⟨rfl, by omega⟩
/-- The move at (s, j) leads to no round with fewer faulty ones. -/
def growAt (A : Adv) (s j : Nat) : Prop := ∀ k, k < A.len (A.mv s j).to.toNat → inside (A.mv s j).r.f (A.mv (A.mv s j).to.toNat k).r.f = true

set_option maxRecDepth 16000 in
set_option maxHeartbeats 4000000 in
theorem check_any (A : Adv) (v : Value) (w : World) (hA : AdvRep w v A) (hM : movesN A ≤ 4611686018427387904) :
    Calls Tryz.prog 20 #[v] w fun e w' => e = .returned (.int .i64 (achk A)) ∧ Ext w w' := by
  have HSZ := hide (fun W (hE : Ext w W) => sized_any A v W (hA.ext hE) hM)
  have HST := hide (fun W (hE : Ext w W) u s (hR : Row Mv.cells 8 w u (A.st.getD s [])) => state_any A v u (A.st.getD s []) W (hA.ext hE) (hR.ext hE))
  obtain ⟨p, c, rfl, hc, hl, hat⟩ := hA.all_
  have HA := hide hA
  have HAT := hide hat
  clear hA hat
  unfold achk
  generalize hres : (if A.n < 1 ∨ 5 < A.n then (2 : Int) else if A.L < 1 ∨ 256 < A.L ∨ 4096 < movesN A then 5
    else if firstErr (stErr A) A.L = 0 then (if growsB A = true then 0 else 21) else firstErr (stErr A) A.L) = res
  have HR := hide hres
  clear hres
  refine calls_of_wp_m Tryz.func20 rfl ?_
  simp only [Tryz.ntmps20, List.size_toArray, List.length_cons, List.length_nil, Nat.reduceAdd, Nat.reduceSub, Array.replicate_succ, Array.replicate_zero, List.push_toArray, List.append_toArray, List.nil_append, List.cons_append]
  by_cases n1 : A.n < 1
  · have HR0 := HR.out
    rw [if_pos (.inl n1)] at HR0
    have HR := hide HR0
    clear HR0
    have d1 : decide (A.n < 1) = true := by simp [n1]
    go_wp2_with fail
    exact leave_plain_cell rfl rfl rfl (n := 2) (by simp [go_sem]) ⟨ret_int HR.out, (((Ext.refl w).alloc _).alloc _)⟩
  by_cases n2 : 5 < A.n
  · have HR0 := HR.out
    rw [if_pos (.inr n2)] at HR0
    have HR := hide HR0
    clear HR0
    have d1 : decide (A.n < 1) = false := by simp [n1]
    have d2 : decide (5 < A.n) = true := by simp [n2]
    go_wp2_with fail
    exact leave_plain_cell rfl rfl rfl (n := 2) (by simp [go_sem]) ⟨ret_int HR.out, (((Ext.refl w).alloc _).alloc _)⟩
  have HR0 := HR.out
  rw [if_neg (by omega)] at HR0
  have HR := hide HR0
  clear HR0
  have d1 : decide (A.n < 1) = false := by simp [n1]
  have d2 : decide (5 < A.n) = false := by simp [n2]
  go_wp2_with fail
  obtain ⟨w1, hw1⟩ : ∃ w1, ((w.alloc (.cells #[.int .i64 A.n, .slice p A.L c] 26)).alloc (.cells #[.int .i64 0] 27)) = w1 := ⟨_, rfl⟩
  have hE1 : Ext w w1 := by rw [← hw1]; exact (((Ext.refl w).alloc _).alloc _)
  have hB1 : Box w1 (w.heap.size + 1) 27 (.int .i64 0) := by
    rw [← hw1]; have := Box.new (w.alloc (.cells #[.int .i64 A.n, .slice p A.L c] 26)) 27 (.int .i64 0); rwa [World.size_alloc] at this
  have ha0 : w1.cell? ⟨w.heap.size, 0, none⟩ = some (.int .i64 A.n) := by rw [← hw1]; simp [go_sem]
  have ha1 : w1.cell? ⟨w.heap.size, 1, none⟩ = some (.slice p A.L c) := by rw [← hw1]; simp [go_sem]
  have hz1 : w1.heap.size = w.heap.size + 2 := by rw [← hw1]; simp
  rw [hw1]
  clear hw1
  have hl1 : w.heap.size < w1.heap.size := by omega
  have hl2 : w.heap.size + 1 < w1.heap.size := by omega
  generalize hsz : (if A.L < 1 ∨ 256 < A.L ∨ 4096 < movesN A then (5 : Int) else 0) = sz at HSZ
  refine (HSZ.out _ hE1).mono ?_
  rintro e w2 ⟨rfl, hE2⟩
  have hB2 : Box w2 (w.heap.size + 1) 27 (.int .i64 0) := (hE2.b.block _ hl2).trans hB1
  have ha02 : w2.cell? ⟨w.heap.size, 0, none⟩ = some (.int .i64 A.n) := (hE2.cell hl1).trans ha0
  have ha12 : w2.cell? ⟨w.heap.size, 1, none⟩ = some (.slice p A.L c) := (hE2.cell hl1).trans ha1
  have hE2w := hE1.trans hE2
  have hl12 : w.heap.size < w2.heap.size := by have := hE2.size; omega
  have hl22 : w.heap.size + 1 < w2.heap.size := by have := hE2.size; omega
  clear hE1 hE2 hB1 ha0 ha1 hz1 hl1 hl2
  have hfz := hB2.frozen
  have hcz := hB2.cell
  by_cases c1 : A.L < 1 ∨ 256 < A.L ∨ 4096 < movesN A
  · rw [if_pos c1] at hsz
    subst hsz
    have HR0 := HR.out
    rw [if_pos c1] at HR0
    have HR := hide HR0
    clear HR0 c1
    go_wp2_with fail
    exact leave_plain_cell rfl rfl rfl (n := 5) hB2.set.cell ⟨ret_int HR.out, hE2w.setCell (by simp) _⟩
  rw [if_neg c1] at hsz
  subst hsz
  have HR0 := HR.out
  rw [if_neg c1] at HR0
  have HR := hide HR0
  clear HR0
  have hLb : 1 ≤ A.L ∧ A.L ≤ 256 := by omega
  clear c1
  have HBAD : Hid (∀ i, i < A.L → (∀ j, j < i → stErr A j = 0) → stErr A i ≠ 0 → stErr A i = res) := fun i hi h1 h2 => by
    have h3 := firstErr_at hi h1 h2
    have h4 := HR.out
    rw [if_neg (by rw [h3]; exact h2), h3] at h4
    exact h4
  have HGOOD : Hid ((∀ j, j < A.L → stErr A j = 0) → (if growsB A = true then (0 : Int) else 21) = res) := fun h => by
    have h4 := HR.out
    rw [if_pos (firstErr_end h)] at h4
    exact h4
  clear HR
  obtain ⟨f, hf⟩ : ∃ f, stErr A = f := ⟨_, rfl⟩
  have HST2 : Hid (∀ (W : World), Ext w W → ∀ (u : Value) (s : Nat), Row Mv.cells 8 w u (A.st.getD s []) → Calls Tryz.prog 49 #[.agg #[.int .i64 A.n, .slice p A.L c], u] W fun e w' => e = .returned (.int .i64 (f s)) ∧ Ext W w') := by
    rw [← hf]; exact HST.out
  clear HST
  have HF := hide hf
  rw [hf] at HBAD HGOOD
  clear hf
  go_wp2_with fail
  go_loopw [27] (fun x wr => ∃ s : Nat, s ≤ A.L ∧ x = .int .i64 s ∧ (∀ j, j < s → f j = 0) ∧ Ext w2 wr) (fun x _ => A.L - (intOf x).toNat)
  case atStart => exact ⟨0, by omega, rfl, fun j hj => by omega, Ext.refl _⟩
  case round =>
    obtain ⟨s, hs, rfl, hz, hE⟩ := hrel
    have HZ := hide hz
    clear hz
    have hEw := hE2w.trans hE
    have ha0 : wr.cell? ⟨w.heap.size, 0, none⟩ = some (.int .i64 A.n) := (hE.cell hl12).trans ha02
    have ha1 : wr.cell? ⟨w.heap.size, 1, none⟩ = some (.slice p A.L c) := (hE.cell hl12).trans ha12
    have hl1 : w.heap.size < wr.heap.size := by have := hE.size; omega
    have hl2 : w.heap.size + 1 < wr.heap.size := by have := hE.size; omega
    have hB : Box wr (w.heap.size + 1) 27 (.int .i64 0) := (hE.b.block _ hl22).trans hB2
    by_cases hlt : s < A.L
    · obtain ⟨b, o, rfl, hb, hat⟩ := HAT.out (by omega)
      obtain ⟨q, d, hcl, hld, hml, hrow, _⟩ := hat s hlt
      clear hat
      go_wp2_with fail
      refine (HST2.out _ hEw _ s hrow).mono ?_
      rintro e w4 ⟨rfl, hE4⟩
      have hE4w := hEw.trans hE4
      have hB4 : Box w4 (w.heap.size + 1) 27 (.int .i64 0) := (hE4.b.block _ hl2).trans hB
      have hf4 := hB4.frozen
      have hc4 := hB4.cell
      by_cases hfs : f s = 0
      · have hd : (f s != 0) = false := by simp [hfs]
        have HFS := hide hfs
        clear hfs
        go_wp2_with fail
        refine ⟨⟨s + 1, by omega, by simp, fun j hj => ?_, hE.trans hE4⟩, by simp [intOf]; try omega⟩
        rcases Nat.lt_or_ge j s with h7 | h7
        · exact HZ.out j h7
        · obtain rfl : j = s := by omega
          exact HFS.out
      · have hd : (f s != 0) = true := by simp [hfs]
        have HR := hide (HBAD.out s hlt HZ.out hfs)
        clear hfs
        go_wp2_with fail
        exact leave_plain_cell rfl rfl rfl (n := f s) hB4.set.cell ⟨ret_int HR.out, hE4w.setCell (by simp) _⟩
    · obtain rfl : s = A.L := by omega
      go_wp2_with fail
      have hzero : ∀ j, j < A.L → stErr A j = 0 := by rw [HF.out]; exact HZ.out
      have HS := hide (sound_of hzero)
      have HSM := hide (small_of hzero)
      clear hzero
      obtain ⟨w3, hw3⟩ : ∃ w3, wr.alloc (.cells #[.int .i64 A.n, .slice p A.L c] 26) = w3 := ⟨_, rfl⟩
      have hE3 : Ext w w3 := by rw [← hw3]; exact hEw.alloc _
      have hB3 : Box w3 (w.heap.size + 1) 27 (.int .i64 0) := by rw [← hw3]; exact hB.alloc _
      have hS3 : w3.cell? ⟨w.heap.size, 1, none⟩ = some (.slice p A.L c) := by rw [← hw3]; simp [go_sem, hl1, ha1]
      have hT3 : w3.cell? ⟨wr.heap.size, 1, none⟩ = some (.slice p A.L c) := by rw [← hw3]; simp [go_sem]
      have hZ3 : w3.heap.size = wr.heap.size + 1 := by rw [← hw3]; simp
      refine (moves_any A.n _ _ p A.L c rfl).mono ?_
      rintro e W ⟨rfl, hW⟩
      rw [hw3] at hW
      subst hW
      clear hw3
      go_wp2_with fail
      refine wp_range rfl (fun _ _ => rfl) (moves_seq A (.slice p A.L c) w wr.heap.size HA.out) (moveSeq_two A)
        (fun i V => Ext w V ∧ Box V (w.heap.size + 1) 27 (.int .i64 0) ∧ V.cell? ⟨w.heap.size, 1, none⟩ = some (.slice p A.L c) ∧ V.cell? ⟨wr.heap.size, 1, none⟩ = some (.slice p A.L c) ∧
          ∀ s j, s < A.L → j < A.len s → A.pre s j < i → growAt A s j)
        (fun c V => c = .ret ∧ Ext w V ∧ Box V (w.heap.size + 1) 27 (.int .i64 21) ∧ growsB A = false) ?_ ?_ ?_ ?_ ?_ ?_ ?_
      · rintro i V ⟨h1, _, _, h4, _⟩; exact ⟨h1, h4⟩
      · rintro i V V' ⟨h1, h2, h3, h4, h5⟩ hC; exact ⟨h1.chg hC (by omega), h2.chg hC, cell_chg hC h3, cell_chg hC h4, h5⟩
      · rintro c V V' ⟨h0, h1, h2, h3⟩ hC; exact ⟨h0, h1.chg hC (by omega), h2.chg hC, h3⟩
      · exact ⟨hE3, hB3, hS3, hT3, fun s j h1 h2 h3 => by omega⟩
      · rintro l i x V hx ⟨h1, h2, h3, h4, h5⟩ hl hlV
        have H5 := hide h5
        clear h5
        obtain ⟨s, j, hs, hj, hi, rfl⟩ := moveSeq_inv A hx
        clear hx
        have HI := hide hi
        clear hi
        obtain ⟨ht0, ht1, hf0, hf1⟩ := HS.out s hs j hj
        obtain ⟨_, hm32⟩ := HSM.out s j hs hj
        have HFB : Hid (∀ k, k < A.len (A.mv s j).to.toNat → inside (A.mv s j).r.f (A.mv (A.mv s j).to.toNat k).r.f = false → growsB A = false) := fun k h3 h4 => all3_false (L := A.L) (M := A.len) (K := fun s i => A.len (A.mv s i).to.toNat) (P := fun s i k => inside (A.mv s i).r.f (A.mv (A.mv s i).to.toNat k).r.f) hs hj h3 h4
        have HN : Hid ((∀ k, k < A.len (A.mv s j).to.toNat → inside (A.mv s j).r.f (A.mv (A.mv s j).to.toNat k).r.f = true) → ∀ s' j', s' < A.L → j' < A.len s' → A.pre s' j' < i + 1 → growAt A s' j') := fun h s' j' h1 h2 h3 => by
          rcases Nat.lt_or_ge (A.pre s' j') i with h4 | h4
          · exact H5.out s' j' h1 h2 h4
          · obtain ⟨rfl, rfl⟩ := pre_inj h1 h2 hs hj (show A.pre s' j' = A.pre s j by rw [← HI.out]; omega)
            exact h
        clear H5 HI
        generalize A.mv s j = m at ht0 ht1 hf0 hf1 hm32 HFB HN ⊢
        obtain ⟨⟨⟨n1, a1, b1, c1, d1', e1⟩, f1⟩, t1⟩ := m
        dsimp only at ht0 ht1
        obtain ⟨t, rfl⟩ := Int.eq_ofNat_of_zero_le ht0
        dsimp only at hf0 hf1 hm32 HFB HN
        rw [Int.toNat_natCast] at HFB HN
        dsimp only [Mv.v]
        gi_wp2_with fail
        obtain ⟨b, o, rfl, hb, hat⟩ := HAT.out (by omega)
        obtain ⟨q, d, hcl, hld, hml, _, hmv⟩ := hat t (by omega)
        clear hat
        have HMV := hide hmv
        clear hmv
        refine ⟨KF.of_ext ((Ext.refl _).alloc _), fun W2 hC => ?_⟩
        have hm := hC.cells _ _ _ _ (heap_alloc_new V (.cells #[.int .i64 n1, .int .i64 a1, .int .i64 b1, .int .i64 c1, .int .i64 d1', .int .i64 e1, .int .i64 f1, .int .i64 t] 56))
        have h1' := (h1.alloc (.cells #[.int .i64 n1, .int .i64 a1, .int .i64 b1, .int .i64 c1, .int .i64 d1', .int .i64 e1, .int .i64 f1, .int .i64 t] 56)).chg hC (by omega)
        have h2' := (h2.alloc (.cells #[.int .i64 n1, .int .i64 a1, .int .i64 b1, .int .i64 c1, .int .i64 d1', .int .i64 e1, .int .i64 f1, .int .i64 t] 56)).chg hC
        have hl1V : w.heap.size < V.heap.size := by have := h2.lt; omega
        have hl2V : wr.heap.size < V.heap.size := by have := hZ3; omega
        have h3' := cell_chg hC (show (V.alloc (.cells #[.int .i64 n1, .int .i64 a1, .int .i64 b1, .int .i64 c1, .int .i64 d1', .int .i64 e1, .int .i64 f1, .int .i64 t] 56)).cell? ⟨w.heap.size, 1, none⟩ = some (.slice (some ⟨b, o, none⟩) A.L c) by simp [go_sem, hl1V, h3])
        have h4' := cell_chg hC (show (V.alloc (.cells #[.int .i64 n1, .int .i64 a1, .int .i64 b1, .int .i64 c1, .int .i64 d1', .int .i64 e1, .int .i64 f1, .int .i64 t] 56)).cell? ⟨wr.heap.size, 1, none⟩ = some (.slice (some ⟨b, o, none⟩) A.L c) by simp [go_sem, hl2V, h4])
        have hmz : V.heap.size < W2.heap.size := lt_of_heap hm
        have hm6 : ∀ W, Ext W2 W → W.cell? ⟨V.heap.size, 6, none⟩ = some (.int .i64 f1) := fun W hE => by rw [hE.cell hmz, cell_of_row _ _ _ _ _ _ hm]; rfl
        have hm7 : W2.cell? ⟨V.heap.size, 7, none⟩ = some (.int .i64 t) := by rw [cell_of_row _ _ _ _ _ _ hm]; rfl
        clear h1 h2 h3 h4 hm
        have hBz := h2'.lt
        gi_wp2_with fail
        obtain ⟨wo, rfl⟩ : ∃ wo : World, wo = wr := ⟨_, rfl⟩
        gi_loopw [49] (fun x wr => ∃ k : Nat, k ≤ A.len t ∧ x = .int .i64 k ∧ (∀ k', k' < k → inside f1 (A.mv t k').r.f = true) ∧ Ext W2 wr) (fun x _ => A.len t - (intOf x).toNat)
        case atStart => exact ⟨0, by omega, rfl, fun k hk => by omega, Ext.refl _⟩
        case round =>
          obtain ⟨k, hk, rfl, hin, hEk⟩ := hrel
          have HIN := hide hin
          clear hin
          have h1k := h1'.trans hEk
          have hBk : Box wr (w.heap.size + 1) 27 (.int .i64 0) := (hEk.b.block _ hBz).trans h2'
          have hfk := hBk.frozen
          have hzk := hBk.lt
          have hzV : V.heap.size < wr.heap.size := by have := hEk.size; omega
          have hck := hBk.cell
          by_cases hkl : k < A.len t
          · obtain ⟨b2, o2, rfl, hb2, hmv⟩ := HMV.out (by omega)
            obtain ⟨x0, x1, x2, x3, x4, x5, x6, x7⟩ := hmv k hkl
            clear hmv
            obtain ⟨hg0, hg1⟩ := HSM.out t k (by omega) hkl
            have HFB2 := hide (HFB.out k hkl)
            have HIN2 : Hid (inside f1 (A.mv t k).r.f = true → ∀ k', k' < k + 1 → inside f1 (A.mv t k').r.f = true) := fun h k' hk' => by
              rcases Nat.lt_or_ge k' k with h7 | h7
              · exact HIN.out k' h7
              · obtain rfl : k' = k := by omega
                exact h
            generalize A.mv t k = m2 at x0 x1 x2 x3 x4 x5 x6 x7 hg0 hg1 HFB2 HIN2
            obtain ⟨⟨⟨n2, a2, b2', c2, d2', e2⟩, f2⟩, t2⟩ := m2
            dsimp only at x0 x1 x2 x3 x4 x5 x6 x7 hg0 hg1 HFB2 HIN2
            have hand := andnot_inside hf0 hm32 hg0 hg1
            by_cases hins : inside f1 f2 = true
            · have HIN3 := hide (HIN2.out hins)
              rw [hins] at hand
              clear hins HIN2 HFB2
              gi_wp2_with fail
              exact ⟨⟨k + 1, by omega, by simp, HIN3.out, hEk.alloc _⟩, by simp [intOf]; try omega⟩
            · rw [Bool.not_eq_true] at hins
              have HG := hide (HFB2.out hins)
              rw [hins] at hand
              clear hins HIN2 HFB2
              gi_wp2_with fail
              refine ⟨(KF.of_ext hEk).trans ((KF.setCell _ _ _).trans (KF.of_ext ((Ext.refl _).alloc _))), rfl, (h1k.setCell (by simp) _).alloc _, hBk.set.alloc _, HG.out⟩
          · obtain rfl : k = A.len t := by omega
            have h3k : wr.cell? ⟨w.heap.size, 1, none⟩ = some (.slice (some ⟨b, o, none⟩) A.L c) := (hEk.cell (by simp; omega)).trans h3'
            have h4k : wr.cell? ⟨wo.heap.size, 1, none⟩ = some (.slice (some ⟨b, o, none⟩) A.L c) := (hEk.cell (by simp; omega)).trans h4'
            gi_wp2_with fail
            exact ⟨KF.of_ext hEk, h1k, hBk, h3k, h4k, HN.out HIN.out⟩
      · rintro M V ⟨h1, h2, h3, h4, h5⟩ hMl hM
        have hg : growsB A = true := all3_true (L := A.L) (M := A.len) (K := fun s i => A.len (A.mv s i).to.toNat) (P := fun s i k => inside (A.mv s i).r.f (A.mv (A.mv s i).to.toNat k).r.f)
          (fun s hs i hi k hk => h5 s i hs hi (by rw [moveSeq_len]; have := pre_step A hi (s' := A.L) (j' := 0) hs; exact this) k hk)
        have hr := HGOOD.out HZ.out
        rw [if_pos hg] at hr
        have HR := hide hr
        clear hg hr h5
        have hf := h2.frozen
        have hc := h2.cell
        go_wp2_with fail
        refine leave_mark rfl (M := M) ?_ (results_cell1 rfl _ _ _ rfl (errno_load _ 0 _ (cell_putObj (o := .deferred (some [])) ?_ rfl _ h2.set.cell))) ⟨ret_int HR.out, (h1.setCell (by simp) _).putObj (by omega) _⟩
        · rw [Below.heap_setCell _ _ _ _ (by show M ≠ w.heap.size + 1; omega)]; exact hM
        · rw [Below.heap_setCell _ _ _ _ (by show M ≠ w.heap.size + 1; omega)]; exact hM
      · rintro M c V ⟨rfl, h1, h2, h3⟩ hMl hM
        have hr := HGOOD.out HZ.out
        rw [if_neg (by rw [h3]; decide)] at hr
        have HR := hide hr
        clear hr h3
        go_wp2_with fail
        exact leave_mark rfl hM (results_cell1 rfl _ _ _ rfl (errno_load _ 21 _ (cell_putObj hM rfl _ h2.cell))) ⟨ret_int HR.out, h1.putObj (by omega) _⟩
end Go.Proofs.YtdlhnpogddpmpaaGreat
