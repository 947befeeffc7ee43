/-
  Contracts of the reference's checks of adversaries (roundtableref16): grows, Check.
  Conditions: as each theorem states.
-/
import Derived.Test.YtmkmgimmlohamaaAdvRef2
import Derived.Test.YtmkmgimmlohamaaWordA
namespace Go.Proofs.Ytmkmgimmlohamaa
open Go.RowKit

def all3 (L : Nat) (M : Nat → Nat) (K : Nat → Nat → Nat) (P : Nat → Nat → Nat → Bool) : Bool :=
  (List.range L).all fun s => (List.range (M s)).all fun i => (List.range (K s i)).all fun k => P s i k
theorem all3_true {L : Nat} {M : Nat → Nat} {K : Nat → Nat → Nat} {P : Nat → Nat → Nat → Bool} (h : ∀ s, s < L → ∀ i, i < M s → ∀ k, k < K s i → P s i k = true) : all3 L M K P = true := by
  simp only [all3, List.all_eq_true, List.mem_range]; exact h
theorem all3_false {L : Nat} {M : Nat → Nat} {K : Nat → Nat → Nat} {P : Nat → Nat → Nat → Bool} {s i k : Nat} (h1 : s < L) (h2 : i < M s) (h3 : k < K s i) (h : P s i k = false) : all3 L M K P = false := by
  cases hh : all3 L M K P
  · rfl
  · simp only [all3, List.all_eq_true, List.mem_range] at hh
    rw [hh s h1 i h2 k h3] at h
    cases h
def growsB (A : Adv) : Bool := all3 A.L A.len (fun s i => A.len (A.mv s i).to.toNat) (fun s i k => inside (A.mv s i).r.f (A.mv (A.mv s i).to.toNat k).r.f)
/-- Each move leads to a state, and bears a set. -/
def Adv.sound (A : Adv) : Prop := ∀ s, s < A.L → ∀ i, i < A.len s → 0 ≤ (A.mv s i).to ∧ (A.mv s i).to < A.L ∧ 0 ≤ (A.mv s i).r.f ∧ (A.mv s i).r.f ≤ 9223372036854775807

set_option maxHeartbeats 2000000 in
theorem rgrows_any (A : Adv) (v : Value) (w : World) (hA : AdvRep w v A) (hS : A.sound) :
    Calls Try.prog 65 #[v] w fun e w' => e = .returned (.bool (growsB A)) ∧ Ext w w' := by
  obtain ⟨p, c, rfl, hc, hl, hat⟩ := hA.all_
  clear hA
  have HAT := hide hat
  have HS := hide hS
  clear hat hS
  have HF := hide (fun s i k h1 h2 h3 h4 => all3_false (L := A.L) (M := A.len) (K := fun s i => A.len (A.mv s i).to.toNat) (P := fun s i k => inside (A.mv s i).r.f (A.mv (A.mv s i).to.toNat k).r.f) (s := s) (i := i) (k := k) h1 h2 h3 h4)
  have HT := hide (all3_true (L := A.L) (M := A.len) (K := fun s i => A.len (A.mv s i).to.toNat) (P := fun s i k => inside (A.mv s i).r.f (A.mv (A.mv s i).to.toNat k).r.f))
  unfold growsB
  generalize all3 A.L A.len (fun s i => A.len (A.mv s i).to.toNat) (fun s i k => inside (A.mv s i).r.f (A.mv (A.mv s i).to.toNat k).r.f) = res at HF HT ⊢
  go_enter Try.func65, Try.ntmps65
  go_wp2
  generalize hw1 : w.alloc (.cells #[.int .i64 A.n, .slice p A.L c] 24) = w1
  have hE1 : Ext w w1 := by rw [← hw1]; exact (Ext.refl w).alloc _
  have hbx : w1.cell? ⟨w.heap.size, 1, none⟩ = some (.slice p A.L c) := by rw [← hw1, cell_new]; rfl
  have hz1 : w.heap.size < w1.heap.size := by rw [← hw1]; simp
  clear hw1
  go_loopw [3, 4, 5, 6] (fun x _ _ _ wr => ∃ s : Nat, s ≤ A.L ∧ x = .int .i64 s ∧ (∀ s', s' < s → ∀ i, i < A.len s' → ∀ k, k < A.len (A.mv s' i).to.toNat → inside (A.mv s' i).r.f (A.mv (A.mv s' i).to.toNat k).r.f = true) ∧ Ext w1 wr) (fun x _ _ _ _ => A.L - (intOf x).toNat)
  case atStart => exact ⟨0, by omega, rfl, fun s' hs' => by omega, Ext.refl _⟩
  case round =>
    obtain ⟨s, hs, rfl, hj, hE⟩ := hrel
    have HJ := hide hj
    clear hj
    have hbr : wr.cell? ⟨w.heap.size, 1, none⟩ = some (.slice p A.L c) := (hE.cell hz1).trans hbx
    have hEr := hE1.trans hE
    have hzr : w.heap.size < wr.heap.size := by have := hE.size; omega
    by_cases hlt : s < A.L
    · obtain ⟨b, o, rfl, hb, hat⟩ := HAT.out (by omega)
      have HA := hide hat
      obtain ⟨q, d, hcl, hld, hml, _, hmv⟩ := hat s hlt
      clear hat
      have HMV := hide hmv
      clear hmv
      have HN : Hid ((∀ i, i < A.len s → ∀ k, k < A.len (A.mv s i).to.toNat → inside (A.mv s i).r.f (A.mv (A.mv s i).to.toNat k).r.f = true) → ∀ s', s' < s + 1 → ∀ i, i < A.len s' → ∀ k, k < A.len (A.mv s' i).to.toNat → inside (A.mv s' i).r.f (A.mv (A.mv s' i).to.toNat k).r.f = true) := fun h s' hs' => by
        by_cases e : s' = s
        · subst e; exact h
        · exact HJ.out s' (by omega)
      go_wp2
      obtain ⟨wo, rfl⟩ : ∃ wo : World, wo = wr := ⟨_, rfl⟩
      go_loopw [4, 5, 6] (fun x _ _ wr => ∃ i : Nat, i ≤ A.len s ∧ x = .int .i64 i ∧ (∀ i', i' < i → ∀ k, k < A.len (A.mv s i').to.toNat → inside (A.mv s i').r.f (A.mv (A.mv s i').to.toNat k).r.f = true) ∧ Ext wo wr) (fun x _ _ _ => A.len s - (intOf x).toNat)
      case atStart => exact ⟨0, by omega, rfl, fun s' hs' => by omega, Ext.refl _⟩
      case round =>
        obtain ⟨i, hi, rfl, hj, hE2⟩ := hrel
        have HJ2 := hide hj
        clear hj
        have hbr2 : wr.cell? ⟨w.heap.size, 1, none⟩ = some (.slice (some ⟨b, o, none⟩) A.L c) := (hE2.cell hzr).trans hbr
        have hEr2 := hEr.trans hE2
        have hzr2 : w.heap.size < wr.heap.size := by have := hE2.size; omega
        by_cases hlt2 : i < A.len s
        · obtain ⟨b2, o2, rfl, hb2, hmv⟩ := HMV.out (by omega)
          obtain ⟨x0, x1, x2, x3, x4, x5, x6, x7⟩ := hmv i hlt2
          clear hmv
          obtain ⟨ht0, ht1, hf0, hf1⟩ := HS.out s hlt i hlt2
          have HN2 : Hid ((∀ k, k < A.len (A.mv s i).to.toNat → inside (A.mv s i).r.f (A.mv (A.mv s i).to.toNat k).r.f = true) → ∀ i', i' < i + 1 → ∀ k, k < A.len (A.mv s i').to.toNat → inside (A.mv s i').r.f (A.mv (A.mv s i').to.toNat k).r.f = true) := fun h i' hi' => by
            by_cases e : i' = i
            · subst e; exact h
            · exact HJ2.out i' (by omega)
          have HF2 := hide (fun k h3 h4 => HF.out s i k hlt hlt2 h3 h4)
          generalize A.mv s i = m at x0 x1 x2 x3 x4 x5 x6 x7 ht0 ht1 hf0 hf1 HN2 HF2
          obtain ⟨⟨⟨n1, a1, b1, c1, d1, e1⟩, f1⟩, t1⟩ := m
          dsimp only at ht0 ht1
          obtain ⟨t, rfl⟩ := Int.eq_ofNat_of_zero_le ht0
          dsimp only at x0 x1 x2 x3 x4 x5 x6 x7 hf0 hf1 HN2 HF2
          rw [Int.toNat_natCast] at HN2 HF2
          obtain ⟨q3, d3, hcl3, hld3, hml3, _, hmv3⟩ := HA.out t (by omega)
          have HMV3 := hide hmv3
          clear hmv3
          have hfs : ∀ k, k < A.len t → 0 ≤ (A.mv t k).r.f ∧ (A.mv t k).r.f ≤ 9223372036854775807 := fun k hk => (HS.out t (by omega) k hk).2.2
          have HFS := hide hfs
          clear hfs
          go_wp2
          have hx1 : ∀ W, Ext (wr.alloc (.cells #[.int .i64 n1, .int .i64 a1, .int .i64 b1, .int .i64 c1, .int .i64 d1, .int .i64 e1, .int .i64 f1, .int .i64 t] 101)) W → W.cell? ⟨wr.heap.size, 6, none⟩ = some (.int .i64 f1) := fun W h => by
            rw [h.cell (by simp), cell_new]; rfl
          have hx2 : ∀ W, Ext (wr.alloc (.cells #[.int .i64 n1, .int .i64 a1, .int .i64 b1, .int .i64 c1, .int .i64 d1, .int .i64 e1, .int .i64 f1, .int .i64 t] 101)) W → W.cell? ⟨wr.heap.size, 7, none⟩ = some (.int .i64 t) := fun W h => by
            rw [h.cell (by simp), cell_new]; rfl
          have hE4 : Ext wr (wr.alloc (.cells #[.int .i64 n1, .int .i64 a1, .int .i64 b1, .int .i64 c1, .int .i64 d1, .int .i64 e1, .int .i64 f1, .int .i64 t] 101)) := (Ext.refl _).alloc _
          have hz4 : wr.heap.size < (wr.alloc (.cells #[.int .i64 n1, .int .i64 a1, .int .i64 b1, .int .i64 c1, .int .i64 d1, .int .i64 e1, .int .i64 f1, .int .i64 t] 101)).heap.size := by simp
          generalize wr.alloc (.cells #[.int .i64 n1, .int .i64 a1, .int .i64 b1, .int .i64 c1, .int .i64 d1, .int .i64 e1, .int .i64 f1, .int .i64 t] 101) = w4 at hx1 hx2 hE4 hz4 ⊢
          obtain ⟨wp, rfl⟩ : ∃ wp : World, wp = wr := ⟨_, rfl⟩
          have hbr4 : w4.cell? ⟨w.heap.size, 1, none⟩ = some (.slice (some ⟨b, o, none⟩) A.L c) := (hE4.cell hzr2).trans hbr2
          go_loopw [6] (fun x wr => ∃ k : Nat, k ≤ A.len t ∧ x = .int .i64 k ∧ (∀ k', k' < k → inside f1 (A.mv t k').r.f = true) ∧ Ext w4 wr) (fun x _ => A.len t - (intOf x).toNat)
          case atStart => exact ⟨0, by omega, rfl, fun s' hs' => by omega, Ext.refl _⟩
          case round =>
            obtain ⟨k, hk, rfl, hj, hE5⟩ := hrel
            have HJ3 := hide hj
            clear hj
            have hbr5 : wr.cell? ⟨w.heap.size, 1, none⟩ = some (.slice (some ⟨b, o, none⟩) A.L c) := (hE5.cell (by dsimp only; omega)).trans hbr4
            have hEr5 : Ext w wr := hEr2.trans (hE4.trans hE5)
            have y1 := hx1 wr hE5
            have y2 := hx2 wr hE5
            have hz5 : w.heap.size < wr.heap.size := by have := hE5.size; omega
            have hz6 : wp.heap.size < wr.heap.size := by have := hE5.size; omega
            clear hx1 hx2 hbr4 hbr2 hbr
            by_cases hlt3 : k < A.len t
            · obtain ⟨b3, o3, rfl, hb3, hmv⟩ := HMV3.out (by omega)
              obtain ⟨_, _, _, _, _, _, z6, _⟩ := hmv k hlt3
              clear hmv
              obtain ⟨g0, g1⟩ := HFS.out k hlt3
              have HN3 : Hid (inside f1 (A.mv t k).r.f = true → ∀ k', k' < k + 1 → inside f1 (A.mv t k').r.f = true) := fun h k' hk' => by
                by_cases e : k' = k
                · subst e; exact h
                · exact HJ3.out k' (by omega)
              have HF3 := hide (HF2.out k hlt3)
              generalize (A.mv t k).r.f = f2 at z6 g0 g1 HN3 HF3
              have hin := fun W => rinside_any f1 f2 W hf0 hf1 g0 g1
              generalize inside f1 f2 = r at hin HN3 HF3
              have HIN := hide hin
              clear hin
              go_wp2_with fail
              refine wp_region_ext (by kernel_rfl) (by kernel_rfl) ?_
              repeat (go_big_quiet_step ((go_at_call 88; exact Calls.ext_same (HIN.out _))))
              refine wpQuiet_nil ?_
              rintro w9 ⟨⟨_, hE9⟩, rfl⟩
              cases r
              · have HR := hide (HF3.out rfl)
                go_wp2
                go_ret
                exact ⟨ret_bool HR.out.symm, hEr5.trans hE9⟩
              · have HR := hide (HN3.out rfl)
                go_wp2
                go_roundw
                case rel => exact ⟨k + 1, by omega, by go_num, HR.out, hE5.trans hE9⟩
                case measure => simp [intOf]; omega
            · obtain rfl : k = A.len t := by omega
              have HR := hide (HN2.out HJ3.out)
              go_wp2
              go_roundw
              case rel => exact ⟨i + 1, by omega, by go_num, HR.out, hE2.trans (hE4.trans hE5)⟩
              case measure => simp [intOf]; omega
        · obtain rfl : i = A.len s := by omega
          have HR := hide (HN.out HJ2.out)
          go_wp2
          go_roundw
          case rel => exact ⟨s + 1, by omega, by go_num, HR.out, hE.trans hE2⟩
          case measure => simp [intOf]; omega
    · obtain rfl : s = A.L := by omega
      have HR := hide (HT.out HJ.out)
      go_wp2
      go_ret
      exact ⟨ret_bool HR.out.symm, hEr⟩

/-- The error of a state. -/
def stErr (A : Adv) (s : Nat) : Int := if A.len s = 0 then 19 else firstErr (mvErrAt A.n A.L (A.st.getD s [])) (A.len s)
/-- The error of an adversary. -/
def achk (A : Adv) : Int :=
  if A.n < 1 ∨ 5 < A.n then 2 else if A.L < 1 ∨ 256 < A.L ∨ 4096 < movesN A then 5
  else if firstErr (stErr A) A.L = 0 then (if growsB A = true then 0 else 21) else firstErr (stErr A) A.L
theorem mvErrAt_zero {n : Int} {L : Nat} {ms : List Mv} {i : Nat} (h : mvErrAt n L ms i = 0) :
    rchk (ms.getD i default).r = 0 ∧ (ms.getD i default).r.g.n = n ∧ (0 < i → rcmp (ms.getD (i - 1) default).r (ms.getD i default).r < 0) ∧ 0 ≤ (ms.getD i default).to ∧ (ms.getD i default).to < L := by
  unfold mvErrAt at h
  by_cases h1 : rchk (ms.getD i default).r = 0
  · rw [if_pos h1] at h
    by_cases h2 : (ms.getD i default).r.g.n = n
    · rw [if_pos h2] at h
      by_cases h3 : 0 < i ∧ 0 ≤ rcmp (ms.getD (i - 1) default).r (ms.getD i default).r
      · rw [if_pos h3] at h; exact absurd h (by decide)
      · rw [if_neg h3] at h
        by_cases h4 : (ms.getD i default).to < 0 ∨ (L : Int) ≤ (ms.getD i default).to
        · rw [if_pos h4] at h; exact absurd h (by decide)
        · exact ⟨h1, h2, fun h0 => by omega, by omega, by omega⟩
    · rw [if_neg h2] at h; exact absurd h (by decide)
  · rw [if_neg h1] at h; exact absurd h h1
theorem stErr_zero {A : Adv} {s : Nat} (h : stErr A s = 0) : A.len s ≠ 0 ∧ ∀ i, i < A.len s → mvErrAt A.n A.L (A.st.getD s []) i = 0 := by
  unfold stErr at h
  by_cases h1 : A.len s = 0
  · rw [if_pos h1] at h; exact absurd h (by decide)
  · rw [if_neg h1] at h; exact ⟨h1, firstErr_zero.1 h⟩
theorem sound_of {A : Adv} (h : ∀ s, s < A.L → stErr A s = 0) : A.sound := by
  intro s hs i hi
  obtain ⟨h1, _, _, h4, h5⟩ := mvErrAt_zero ((stErr_zero (h s hs)).2 i hi)
  obtain ⟨h6, h7⟩ := rchk_zero h1
  obtain ⟨h8, h9, h10, h11⟩ := pchk_zero h7
  have hp := (pow_le32 (n := ((A.st.getD s []).getD i default).r.g.n.toNat) (by omega)).1
  exact ⟨h4, h5, h10, by show ((A.st.getD s []).getD i default).r.f ≤ _; omega⟩

set_option maxHeartbeats 2000000 in
theorem racheck_any (A : Adv) (v : Value) (w : World) (hA : AdvRep w v A) :
    Calls Try.prog 46 #[v] w fun e w' => e = .returned (.int .i64 (achk A)) ∧ Ext w w' := by
  have HM := hide (fun W (hE : Ext w W) (h : A.L ≤ 256) => rmoves_any A v W (hA.ext hE) (by unfold Adv.L at h; omega))
  have HG := hide (fun W (hE : Ext w W) (h : ∀ s, s < A.L → stErr A s = 0) => rgrows_any A v W (hA.ext hE) (sound_of h))
  have HV := hide (fun W (hE : Ext w W) u i (hM : Row Mv.cells 8 w u (A.st.getD i [])) k (hk : k < A.len i) => rmove_any A v u (A.st.getD i []) k W (hA.ext hE) (hM.ext hE) hk)
  obtain ⟨p, c, rfl, hc, hl, hat⟩ := hA.all_
  clear hA
  have HAT := hide hat
  clear hat
  generalize hres : achk A = res
  unfold achk at hres
  by_cases hn : A.n < 1 ∨ 5 < A.n
  · rw [if_pos hn] at hres
    have HR := hide hres
    clear hres
    go_enter Try.func46, Try.ntmps46
    go_wp2
    all_goals (go_ret; exact ⟨ret_int HR.out, (Ext.refl w).alloc _⟩)
  rw [if_neg hn] at hres
  have hn1 : 1 ≤ A.n := by omega
  have hn2 : A.n ≤ 5 := by omega
  clear hn
  by_cases hL : A.L < 1 ∨ 256 < A.L
  · rw [if_pos (by omega)] at hres
    have HR := hide hres
    clear hres
    rcases hL with hL | hL
    · go_enter Try.func46, Try.ntmps46
      go_wp2_with fail
      go_ret
      exact ⟨ret_int HR.out, (Ext.refl w).alloc _⟩
    · have hd : decide (A.L < 1) = false := decide_eq_false (by omega)
      go_enter Try.func46, Try.ntmps46
      go_wp2_with fail
      go_ret
      exact ⟨ret_int HR.out, (Ext.refl w).alloc _⟩
  have hL1 : 1 ≤ A.L := by omega
  have hL2 : A.L ≤ 256 := by omega
  have hHM := fun W hE => HM.out W hE hL2
  have HM := hide hHM
  clear hHM
  by_cases hm : 4096 < movesN A
  · rw [if_pos (by omega)] at hres
    have HR := hide hres
    clear hres hL
    generalize movesN A = m at HM hm
    go_enter Try.func46, Try.ntmps46
    go_wp2_with fail
    refine (HM.out _ ((Ext.refl w).alloc _)).mono ?_
    rintro e w1 ⟨rfl, hE⟩
    go_wp2
    go_ret
    exact ⟨ret_int HR.out, ((Ext.refl w).alloc _).trans hE⟩
  rw [if_neg (by omega)] at hres
  have HRes := hide hres
  clear hres hL
  generalize movesN A = m at HM hm
  have hm' : m ≤ 4096 := by omega
  clear hm
  have HEND : Hid ((∀ s, s < A.L → stErr A s = 0) → (if growsB A = true then 0 else 21) = res) := fun h => by
    have h1 := HRes.out
    rw [if_pos (firstErr_end h)] at h1
    exact h1
  have HERR : Hid (∀ s, s < A.L → (∀ s', s' < s → stErr A s' = 0) → stErr A s ≠ 0 → stErr A s = res) := fun s h1 h2 h3 => by
    have h4 := HRes.out
    rw [firstErr_at h1 h2 h3, if_neg h3] at h4
    exact h4
  clear HRes
  go_enter Try.func46, Try.ntmps46
  go_wp2_with fail
  refine (HM.out _ ((Ext.refl w).alloc _)).mono ?_
  rintro e w1 ⟨rfl, hE1⟩
  have hEw1 : Ext w w1 := ((Ext.refl w).alloc _).trans hE1
  have hz1 : w.heap.size < w1.heap.size := by have := hE1.size; simp at this; omega
  have hb0 : w1.cell? ⟨w.heap.size, 0, none⟩ = some (.int .i64 A.n) := by rw [hE1.cell (by simp), cell_new]; rfl
  have hb1 : w1.cell? ⟨w.heap.size, 1, none⟩ = some (.slice p A.L c) := by rw [hE1.cell (by simp), cell_new]; rfl
  clear hE1
  go_wp2_with fail
  go_loopw [3, 4, 5] (fun x _ _ wr => ∃ s : Nat, s ≤ A.L ∧ x = .int .i64 s ∧ (∀ s', s' < s → stErr A s' = 0) ∧ Ext w1 wr) (fun x _ _ _ => A.L - (intOf x).toNat)
  case atStart => exact ⟨0, by omega, rfl, fun s' hs' => by omega, Ext.refl _⟩
  case round =>
    obtain ⟨s, hs, rfl, hj, hE⟩ := hrel
    have HJ := hide hj
    clear hj
    have hr0 : wr.cell? ⟨w.heap.size, 0, none⟩ = some (.int .i64 A.n) := (hE.cell hz1).trans hb0
    have hr1 : wr.cell? ⟨w.heap.size, 1, none⟩ = some (.slice p A.L c) := (hE.cell hz1).trans hb1
    have hEr := hEw1.trans hE
    have hzr : w.heap.size < wr.heap.size := by have := hE.size; omega
    by_cases hlt : s < A.L
    · obtain ⟨b, o, rfl, hb, hat⟩ := HAT.out (by omega)
      obtain ⟨q, d, hcl, hld, hml, hrow, _⟩ := hat s hlt
      clear hat
      have HE1 := hide (HERR.out s hlt HJ.out)
      have HN : Hid (stErr A s = 0 → ∀ s', s' < s + 1 → stErr A s' = 0) := fun h s' hs' => by
        by_cases e : s' = s
        · subst e; exact h
        · exact HJ.out s' (by omega)
      have HC := hide (fun W hE k hk => HV.out W hE _ s hrow k hk)
      clear hrow
      unfold stErr at HE1 HN
      by_cases h0 : A.len s = 0
      · have hE0 := HE1.out
        rw [if_pos h0] at hE0
        have HR := hide (hE0 (by decide))
        clear hE0
        simp only [h0] at hcl
        clear h0
        go_wp2
        go_ret
        exact ⟨ret_int HR.out, hEr⟩
      · have hE0 := HE1.out
        have hN0 := HN.out
        rw [if_neg h0] at hE0 hN0
        have HE2 : Hid (∀ i, i < A.len s → (∀ i', i' < i → mvErrAt A.n A.L (A.st.getD s []) i' = 0) → mvErrAt A.n A.L (A.st.getD s []) i ≠ 0 → mvErrAt A.n A.L (A.st.getD s []) i = res) := fun i h1 h2 h3 => by
          rw [firstErr_at h1 h2 h3] at hE0
          exact hE0 h3
        have HN2 : Hid ((∀ i, i < A.len s → mvErrAt A.n A.L (A.st.getD s []) i = 0) → ∀ s', s' < s + 1 → stErr A s' = 0) := fun h => hN0 (firstErr_end h)
        clear hE0 hN0 HE1 HN
        have hlb : ((A.len s : Int) == 0) = false := by simp; omega
        generalize A.len s = ls at *
        generalize mvErrAt A.n A.L (A.st.getD s []) = er at *
        go_wp2_with fail
        obtain ⟨wo, rfl⟩ : ∃ wo : World, wo = wr := ⟨_, rfl⟩
        go_loopw [4, 5] (fun x _ wr => ∃ i : Nat, i ≤ ls ∧ x = .int .i64 i ∧ (∀ i', i' < i → er i' = 0) ∧ Ext wo wr) (fun x _ _ => ls - (intOf x).toNat)
        case atStart => exact ⟨0, by omega, rfl, fun s' hs' => by omega, Ext.refl _⟩
        case round =>
          obtain ⟨i, hi, rfl, hj, hE2⟩ := hrel
          have HJ2 := hide hj
          clear hj
          have ht0 : wr.cell? ⟨w.heap.size, 0, none⟩ = some (.int .i64 A.n) := (hE2.cell hzr).trans hr0
          have ht1 : wr.cell? ⟨w.heap.size, 1, none⟩ = some (.slice (some ⟨b, o, none⟩) A.L c) := (hE2.cell hzr).trans hr1
          have hEr2 := hEr.trans hE2
          have hzr2 : w.heap.size < wr.heap.size := by have := hE2.size; omega
          clear hr0 hr1 hb0 hb1
          by_cases hlt2 : i < ls
          · have HE3 := hide (HE2.out i hlt2 HJ2.out)
            have HN3 : Hid (er i = 0 → ∀ i', i' < i + 1 → er i' = 0) := fun h i' hi' => by
              by_cases e : i' = i
              · subst e; exact h
              · exact HJ2.out i' (by omega)
            have HC2 := hide (fun W hE => HC.out W hE i hlt2)
            generalize er i = x at HE3 HN3 HC2
            go_wp2_with fail
            refine wp_region_ext (by kernel_rfl) (by kernel_rfl) ?_
            repeat (go_big_quiet_step ((go_at_call 64; exact Calls.ext_of (HC2.out _ (by simp [go_sem, hEr2])))))
            refine wpQuiet_nil ?_
            rintro w9 ⟨⟨_, hE9⟩, rfl⟩
            by_cases hx : x = 0
            · have hb : (x != 0) = false := by simp [hx]
              have HR := hide (HN3.out hx)
              clear hx
              go_wp2
              go_roundw
              case rel => exact ⟨i + 1, by omega, by go_num, HR.out, hE2.trans hE9⟩
              case measure => simp [intOf]; omega
            · have hb : (x != 0) = true := by simp [hx]
              have HR := hide (HE3.out hx)
              clear hx
              go_wp2
              go_ret
              exact ⟨ret_int HR.out, hEr2.trans hE9⟩
          · obtain rfl : i = ls := by omega
            have HR := hide (HN2.out HJ2.out)
            go_wp2
            go_roundw
            case rel => exact ⟨s + 1, by omega, by go_num, HR.out, hE.trans hE2⟩
            case measure => simp [intOf]; omega
    · obtain rfl : s = A.L := by omega
      have HR := hide (HEND.out HJ.out)
      have HG2 := hide (fun W hE => HG.out W hE HJ.out)
      generalize growsB A = g at HR HG2
      cases g
      · have HR1 : Hid ((21 : Int) = res) := HR.out
        go_wp2_with fail
        refine (HG2.out _ hEr).mono ?_
        rintro e w9 ⟨rfl, hE9⟩
        go_wp2
        go_ret
        exact ⟨ret_int HR1.out, hEr.trans hE9⟩
      · have HR1 : Hid ((0 : Int) = res) := HR.out
        go_wp2_with fail
        refine (HG2.out _ hEr).mono ?_
        rintro e w9 ⟨rfl, hE9⟩
        go_wp2
        go_ret
        exact ⟨ret_int HR1.out, hEr.trans hE9⟩
end Go.Proofs.Ytmkmgimmlohamaa
