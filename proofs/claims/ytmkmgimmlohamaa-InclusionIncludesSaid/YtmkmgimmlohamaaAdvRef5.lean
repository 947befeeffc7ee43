/-
  Contracts of the reference's counts of words (roundtableref16): Number, Count; State, Allows, rounds.
  Conditions: as each theorem states.
-/
import Derived.Test.YtmkmgimmlohamaaAdvRef4
import Derived.Test.YtmkmgimmlohamaaOwned
namespace Go.Proofs.Ytmkmgimmlohamaa
open Go.RowKit

/-- The number of words with k rounds from state s on, cut at lim + 1. -/
def cntStep (A : Adv) (lim : Int) (f : Nat → Int) (s i : Nat) : Int := (List.range i).foldl (fun n j => min (n + f (A.mv s j).to.toNat) (lim + 1)) 0
def cnt (A : Adv) (lim : Int) : Nat → Nat → Int
  | 0, _ => 1
  | k + 1, s => cntStep A lim (cnt A lim k) s (A.len s)
theorem cntStep_succ (A : Adv) (lim : Int) (f : Nat → Int) (s i : Nat) : cntStep A lim f s (i + 1) = min (cntStep A lim f s i + f (A.mv s i).to.toNat) (lim + 1) := by
  unfold cntStep
  rw [List.range_succ, List.foldl_append]
  rfl
theorem cntStep_range {A : Adv} {lim : Int} {f : Nat → Int} {s : Nat} (hl : 0 ≤ lim) (hf : ∀ t, 0 ≤ f t) : ∀ i, 0 ≤ cntStep A lim f s i ∧ cntStep A lim f s i ≤ lim + 1 := by
  intro i
  induction i with
  | zero => simp [cntStep]; omega
  | succ i ih => rw [cntStep_succ]; have := hf (A.mv s i).to.toNat; omega
theorem cnt_range {A : Adv} {lim : Int} (hl : 0 ≤ lim) : ∀ k s, 0 ≤ cnt A lim k s ∧ cnt A lim k s ≤ lim + 1 := by
  intro k
  induction k with
  | zero => intro s; simp only [cnt]; omega
  | succ k ih => intro s; simp only [cnt]; exact cntStep_range hl (fun t => (ih t).1) _
theorem map_range_getD (f : Nat → Int) (n i : Nat) (h : i < n) : ((List.range n).map f).getD i 0 = f i := by
  rw [List.getD_eq_getElem?_getD, List.getElem?_map, List.getElem?_range h]; rfl

set_option maxHeartbeats 2000000 in
theorem rnumber_any (A : Adv) (v : Value) (k lim : Int) (w : World) (hA : AdvRep w v A) (h0 : achk A = 0) (hk0 : 0 ≤ k) (hk1 : k ≤ 100) (hl0 : 0 ≤ lim) (hl1 : lim ≤ 1000000000) :
    Calls Try.prog 49 #[v, .int .i64 k, .int .i64 lim] w fun e w' => e = .returned (.int .i64 (cnt A lim k.toNat 0)) ∧ Ext w w' := by
  obtain ⟨hz1, hz2, hL1, hL2, hz5, hst, _⟩ := achk_zero h0
  have HS := hide (sound_of hst)
  clear hz1 hz2 hz5 hst h0
  obtain ⟨p, c, rfl, hc, hL, hat⟩ := hA.all_
  clear hA
  obtain ⟨b, o, rfl, hb, hat⟩ := hat (by omega)
  have HAT := hide hat
  have HCR := hide (fun k s => cnt_range (A := A) hl0 k s)
  clear hat
  obtain ⟨K, rfl⟩ := Int.eq_ofNat_of_zero_le hk0
  rw [Int.toNat_natCast]
  go_enter Try.func49, Try.ntmps49
  go_wp2_with fail
  have hE1 : Ext w (w.alloc (.cells #[.int .i64 A.n, .slice (some ⟨b, o, none⟩) A.L c] 24)) := (Ext.refl w).alloc _
  have hb1 : ∀ W, Ext (w.alloc (.cells #[.int .i64 A.n, .slice (some ⟨b, o, none⟩) A.L c] 24)) W → W.cell? ⟨w.heap.size, 1, none⟩ = some (.slice (some ⟨b, o, none⟩) A.L c) := fun W h => by rw [h.cell (by simp), cell_new]; rfl
  have HB := hide hb1
  clear hb1
  generalize w.alloc (.cells #[.int .i64 A.n, .slice (some ⟨b, o, none⟩) A.L c] 24) = w1 at hE1 HB ⊢
  go_loopw [7, 8] (fun u x wr => ∃ s : Nat, s ≤ A.L ∧ x = .int .i64 s ∧ Own icells 1 wr w1.heap.size 3 u (List.replicate s 1) ∧ Ext w1 wr) (fun _ x _ => A.L - (intOf x).toNat)
  case atStart => exact ⟨0, by omega, rfl, Own.nil _ _ _ (fun _ => rfl), Ext.refl _⟩
  case round =>
    obtain ⟨s, hs, rfl, hown, hE⟩ := hrel
    have hb1 := HB.out wr hE
    have hzr := hE.size
    by_cases hlt : s < A.L
    · go_wp2_with (at_builtin; refine wpList_append1 rfl (.tmp 21) (.tmp 22) 78 rfl w1.heap.size 3 (.int .i64 0) 1 8 Try.underlying78 int_info rfl (by decide) _ (List.replicate s 1) (1 : Int) wr.heap.size rfl (hown.alloc _) rfl (cell_new1 _ _ _) (by simp [Value.oneCell']) (by rw [List.length_replicate]; omega) (by decide) (by simp; omega) ?_; intro v' w' hown' hg hform)
      have hE2 := hE.appended hown hg
      go_roundw
      case rel => exact ⟨s + 1, by omega, by go_num, by rw [List.replicate_succ']; exact hown', hE2⟩
      case measure => simp [intOf]; omega
    · obtain rfl : s = A.L := by omega
      go_wp2_with fail
      have hE9 := hE1.trans hE
      go_loopw [7, 9, 10, 11, 12, 13] (fun u x _ _ _ _ wr => ∃ k : Nat, k ≤ K ∧ x = .int .i64 k ∧ Own icells 1 wr w1.heap.size 3 u ((List.range A.L).map (cnt A lim k)) ∧ Ext w1 wr) (fun _ x _ _ _ _ _ => K - (intOf x).toNat)
      case atStart => exact ⟨0, by omega, rfl, by rw [show (List.range A.L).map (cnt A lim 0) = List.replicate A.L 1 from List.eq_replicate_iff.2 ⟨by simp, by simp [cnt]⟩]; exact hown, hE⟩
      case round =>
        obtain ⟨k, hk, rfl, hown, hE⟩ := hrel
        have hb1 := HB.out wr hE
        have hzr := hE.size
        by_cases hlt : k < K
        · obtain ⟨q, d, hu, hqd, hql, hqa⟩ := (hown.row (by simp; omega)).int_all
          rw [List.length_map, List.length_range] at hu hqd hqa
          subst hu
          obtain ⟨b3, o3, rfl, hb3, hcnt⟩ := hqa (by omega)
          have HCNT : Hid (∀ i, i < A.L → ∀ W, Ext wr W → W.cell? ⟨b3, o3 + i, none⟩ = some (.int .i64 (cnt A lim k i))) := fun i hi W hE => by
            have := hcnt i hi W hE
            rw [map_range_getD _ _ _ hi] at this
            exact this
          clear hqa hcnt hown hql
          have hEr := hE1.trans hE
          go_wp2_with fail
          obtain ⟨wo, rfl⟩ : ∃ wo : World, wo = wr := ⟨_, rfl⟩
          go_loopw [10, 11, 12, 13] (fun u x _ _ wr => ∃ s : Nat, s ≤ A.L ∧ x = .int .i64 s ∧ Own icells 1 wr wo.heap.size 3 u ((List.range s).map (cnt A lim (k + 1))) ∧ Ext wo wr) (fun _ x _ _ _ => A.L - (intOf x).toNat)
          case atStart => exact ⟨0, by omega, rfl, Own.nil _ _ _ (fun _ => rfl), Ext.refl _⟩
          case round =>
            obtain ⟨s, hs, rfl, hown, hE3⟩ := hrel
            have hb2 := HB.out wr (hE.trans hE3)
            have hEr3 := hEr.trans hE3
            have hzr2 := hE3.size
            by_cases hlt2 : s < A.L
            · obtain ⟨q2, d2, hcl, hld, hml, _, hmv⟩ := HAT.out s hlt2
              have HMV := hide hmv
              clear hmv
              go_wp2_with fail
              go_loop [12, 13] (fun y x => ∃ i : Nat, i ≤ A.len s ∧ x = .int .i64 i ∧ y = .int .i64 (cntStep A lim (cnt A lim k) s i)) (fun _ x => A.len s - (intOf x).toNat)
              case atStart => exact ⟨0, by omega, rfl, rfl⟩
              case round =>
                obtain ⟨i, hi, rfl, rfl⟩ := hrel
                by_cases hlt3 : i < A.len s
                · obtain ⟨b4, o4, rfl, hb4, hmv⟩ := HMV.out (by omega)
                  obtain ⟨_, _, _, _, _, _, _, x7⟩ := hmv i hlt3
                  clear hmv
                  obtain ⟨ht0, ht1, _, _⟩ := HS.out s hlt2 i hlt3
                  have HST := hide (cntStep_succ A lim (cnt A lim k) s i)
                  obtain ⟨hr0, hr1⟩ := cntStep_range (A := A) (f := cnt A lim k) (s := s) hl0 (fun t => (HCR.out k t).1) i
                  generalize (A.mv s i).to = t at x7 ht0 ht1 HST
                  obtain ⟨tn, rfl⟩ := Int.eq_ofNat_of_zero_le ht0
                  rw [Int.toNat_natCast] at HST
                  have htn : tn < A.L := by omega
                  have hy := HCNT.out tn htn wr hE3
                  obtain ⟨hs0, hs1⟩ := HCR.out k tn
                  generalize cntStep A lim (cnt A lim k) s i = x at HST hr0 hr1
                  generalize cnt A lim k tn = z at HST hy hs0 hs1
                  go_wp2_with fail
                  go_round
                  case rel => exact ⟨i + 1, by omega, by go_num, congrArg (Value.int .i64) (by rw [HST.out, Int.min_def]; split <;> split <;> omega)⟩
                  case measure => simp [intOf]; omega
                · obtain rfl : i = A.len s := by omega
                  have HCE : Hid (cntStep A lim (cnt A lim k) s (A.len s) = cnt A lim (k + 1) s) := rfl
                  generalize cntStep A lim (cnt A lim k) s (A.len s) = y at HCE
                  go_wp2_with (at_builtin; refine wpList_append1 rfl (.tmp 63) (.tmp 65) 78 rfl wo.heap.size 3 (.int .i64 0) 1 8 Try.underlying78 int_info rfl (by decide) _ ((List.range s).map (cnt A lim (k + 1))) y wr.heap.size rfl (hown.alloc _) rfl (cell_new1 _ _ _) (by simp [Value.oneCell']) (by rw [List.length_map, List.length_range]; omega) (by decide) (by simp; omega) ?_; intro v' w' hown' hg hform)
                  have hE4 := hE3.appended hown hg
                  go_roundw
                  case rel => exact ⟨s + 1, by omega, by go_num, by rw [List.range_succ, List.map_append, List.map_singleton, ← HCE.out]; exact hown', hE4⟩
                  case measure => simp [intOf]; omega
            · obtain rfl : s = A.L := by omega
              go_wp2_with fail
              go_roundw
              case rel => exact ⟨k + 1, by omega, by go_num, hown.mono hE.size, hE.trans hE3⟩
              case measure => simp [intOf]; omega
        · obtain rfl : k = K := by omega
          obtain ⟨q, d, hu, hqd, hql, hqa⟩ := (hown.row (by simp; omega)).int_all
          rw [List.length_map, List.length_range] at hu hqd hqa
          subst hu
          obtain ⟨b3, o3, rfl, hb3, hcnt⟩ := hqa (by omega)
          have hy : wr.cell? ⟨b3, o3, none⟩ = some (.int .i64 (cnt A lim k 0)) := by
            have := hcnt 0 (by omega) wr (Ext.refl _)
            rw [map_range_getD _ _ _ (by omega)] at this
            exact this
          clear hqa hcnt hown hql
          have hEr := hE1.trans hE
          have hL0 : (0 : Int) < (A.L : Int) := by omega
          go_wp2_with fail
          go_ret
          exact ⟨rfl, hEr⟩

def rdsErr (k : Int) : Int := if k < 0 ∨ 6 < k then 2 else 0
theorem rrounds_any (k : Int) (w : World) : Calls Try.prog 48 #[.int .i64 k] w fun e w' => e = .returned (.int .i64 (rdsErr k)) ∧ w' = w := by
  unfold rdsErr
  rcases (by omega : k < 0 ∨ 6 < k ∨ (0 ≤ k ∧ k ≤ 6)) with h | h | h
  · rw [if_pos (.inl h)]
    go_enter Try.func48, Try.ntmps48; go_wp2; go_ret; exact ⟨rfl, rfl⟩
  · rw [if_pos (.inr h)]
    have hd : decide (k < 0) = false := decide_eq_false (by omega)
    go_enter Try.func48, Try.ntmps48; go_wp2; go_ret; exact ⟨rfl, rfl⟩
  · rw [if_neg (by omega)]
    obtain ⟨h1, h2⟩ := h
    go_enter Try.func48, Try.ntmps48; go_wp2; go_ret; exact ⟨rfl, rfl⟩

/-- What Count returns, at a limit. -/
def countS (A : Adv) (k lim : Int) : Int × Int :=
  if achk A = 0 then (if rdsErr k = 0 then (if lim < cnt A lim k.toNat 0 then (0, 17) else (cnt A lim k.toNat 0, 0)) else (0, rdsErr k)) else (0, achk A)
theorem rdsErr_zero {k : Int} (h : rdsErr k = 0) : 0 ≤ k ∧ k ≤ 6 := by
  unfold rdsErr at h
  by_cases h1 : k < 0 ∨ 6 < k
  · rw [if_pos h1] at h; exact absurd h (by decide)
  · omega

/-- What State and Allows return. -/
def stateS (A : Adv) (l : List Rd) : Int × Int := if achk A = 0 then (if 0 ≤ after A 0 l then (after A 0 l, 0) else (0, 25)) else (0, achk A)
def allowsS (A : Adv) (l : List Rd) : Bool × Int := if achk A = 0 then (decide (0 ≤ after A 0 l), 0) else (false, achk A)
end Go.Proofs.Ytmkmgimmlohamaa
