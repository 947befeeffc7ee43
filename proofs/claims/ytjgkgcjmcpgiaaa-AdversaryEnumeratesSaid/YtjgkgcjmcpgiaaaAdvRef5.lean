/-
  Contracts of the reference's counts of words (roundtableref16): Number, Count; State, Allows, rounds.
  Conditions: as each theorem states.
-/
import Derived.Test.YtjgkgcjmcpgiaaaAdvRef4
import Derived.Test.YtjgkgcjmcpgiaaaOwn
namespace Go.Proofs.Ytjgkgcjmcpgiaaa
open Go.RowKit

/-- The number of words with k rounds from state s on, cut at lim + 1. -/
def cntStep (A : Adv) (lim : Int) (f : Nat → Int) (s i : Nat) : Int := (List.range i).foldl (fun n j => min (n + f (A.mv s j).to.toNat) (lim + 1)) 0
def cnt (A : Adv) (lim : Int) : Nat → Nat → Int
  | 0, _ => 1
  | k + 1, s => cntStep A lim (cnt A lim k) s (A.len s)
theorem cntStep_succ (A : Adv) (lim : Int) (f : Nat → Int) (s i : Nat) : cntStep A lim f s (i + 1) = min (cntStep A lim f s i + f (A.mv s i).to.toNat) (lim + 1) := by
  unfold cntStep
  rw [List.range_succ, List.foldl_append]
  rfl
theorem cntStep_range {A : Adv} {lim : Int} {f : Nat → Int} {s : Nat} (hl : 0 ≤ lim) (hf : ∀ t, 0 ≤ f t) : ∀ i, 0 ≤ cntStep A lim f s i ∧ cntStep A lim f s i ≤ lim + 1 := by
  intro i
  induction i with
  | zero => simp [cntStep]; omega
  | succ i ih => rw [cntStep_succ]; have := hf (A.mv s i).to.toNat; omega
theorem cnt_range {A : Adv} {lim : Int} (hl : 0 ≤ lim) : ∀ k s, 0 ≤ cnt A lim k s ∧ cnt A lim k s ≤ lim + 1 := by
  intro k
  induction k with
  | zero => intro s; simp only [cnt]; omega
  | succ k ih => intro s; simp only [cnt]; exact cntStep_range hl (fun t => (ih t).1) _
theorem map_range_getD (f : Nat → Int) (n i : Nat) (h : i < n) : ((List.range n).map f).getD i 0 = f i := by
  rw [List.getD_eq_getElem?_getD, List.getElem?_map, List.getElem?_range h]; rfl

theorem int_info : (Try.prog.info? 3).map (fun i => (i.zero, i.size, i.bytes)) = some (some (.int .i64 0), 1, 8) := by kernel_rfl
theorem cell_new1 (w : World) (x : Value) (t : TypeId) : ∀ j u, (one x)[j]? = some u → (w.alloc (.cells #[x] t)).cell? ⟨w.heap.size, j, none⟩ = some u := by
  intro j u h
  rw [cell_new]
  cases j with
  | zero => simpa using h
  | succ j => simp at h

set_option maxHeartbeats 2000000 in
theorem rnumber_any (A : Adv) (v : Value) (k lim : Int) (w : World) (hA : AdvRep w v A) (h0 : achk A = 0) (hk0 : 0 ≤ k) (hk1 : k ≤ 100) (hl0 : 0 ≤ lim) (hl1 : lim ≤ 1000000000) :
    Calls Try.prog 48 #[v, .int .i64 k, .int .i64 lim] w fun e w' => e = .returned (.int .i64 (cnt A lim k.toNat 0)) ∧ Ext w w' := by
  obtain ⟨hz1, hz2, hL1, hL2, hz5, hst, _⟩ := achk_zero h0
  have HS := hide (sound_of hst)
  clear hz1 hz2 hz5 hst h0
  obtain ⟨p, c, rfl, hc, hL, hat⟩ := hA.all_
  clear hA
  obtain ⟨b, o, rfl, hb, hat⟩ := hat (by omega)
  have HAT := hide hat
  have HCR := hide (fun k s => cnt_range (A := A) hl0 k s)
  clear hat
  obtain ⟨K, rfl⟩ := Int.eq_ofNat_of_zero_le hk0
  rw [Int.toNat_natCast]
  go_enter Try.func48, Try.ntmps48
  go_wp2_with fail
  have hE1 : Ext w (w.alloc (.cells #[.int .i64 A.n, .slice (some ⟨b, o, none⟩) A.L c] 24)) := (Ext.refl w).alloc _
  have hb1 : ∀ W, Ext (w.alloc (.cells #[.int .i64 A.n, .slice (some ⟨b, o, none⟩) A.L c] 24)) W → W.cell? ⟨w.heap.size, 1, none⟩ = some (.slice (some ⟨b, o, none⟩) A.L c) := fun W h => by rw [h.cell (by simp), cell_new]; rfl
  have HB := hide hb1
  clear hb1
  generalize w.alloc (.cells #[.int .i64 A.n, .slice (some ⟨b, o, none⟩) A.L c] 24) = w1 at hE1 HB ⊢
  go_loopw [7, 8] (fun u x wr => ∃ s : Nat, s ≤ A.L ∧ x = .int .i64 s ∧ Own icells 1 wr w1.heap.size 3 u (List.replicate s 1) ∧ Ext w1 wr) (fun _ x _ => A.L - (intOf x).toNat)
  case atStart => exact ⟨0, by omega, rfl, Own.nil _ _ _ (fun _ => rfl), Ext.refl _⟩
  case round =>
    obtain ⟨s, hs, rfl, hown, hE⟩ := hrel
    have hb1 := HB.out wr hE
    have hzr := hE.size
    by_cases hlt : s < A.L
    · go_wp2_with (at_builtin; refine wpList_append1 rfl (.tmp 21) (.tmp 22) 47 rfl w1.heap.size 3 (.int .i64 0) 1 8 Try.underlying47 int_info rfl (by decide) _ (List.replicate s 1) (1 : Int) wr.heap.size rfl (hown.alloc _) rfl (cell_new1 _ _ _) (by simp [Value.oneCell']) (by rw [List.length_replicate]; omega) (by decide) (by simp; omega) ?_; intro v' w' hown' hg hform)
      have hE2 := hE.appended hown hg
      go_roundw
      case rel => exact ⟨s + 1, by omega, by go_num, by rw [List.replicate_succ']; exact hown', hE2⟩
      case measure => simp [intOf]; omega
    · obtain rfl : s = A.L := by omega
      go_wp2_with fail
      have hE9 := hE1.trans hE
      go_loopw [7, 9, 10, 11, 12, 13] (fun u x _ _ _ _ wr => ∃ k : Nat, k ≤ K ∧ x = .int .i64 k ∧ Own icells 1 wr w1.heap.size 3 u ((List.range A.L).map (cnt A lim k)) ∧ Ext w1 wr) (fun _ x _ _ _ _ _ => K - (intOf x).toNat)
      case atStart => exact ⟨0, by omega, rfl, by rw [show (List.range A.L).map (cnt A lim 0) = List.replicate A.L 1 from List.eq_replicate_iff.2 ⟨by simp, by simp [cnt]⟩]; exact hown, hE⟩
      case round =>
        obtain ⟨k, hk, rfl, hown, hE⟩ := hrel
        have hb1 := HB.out wr hE
        have hzr := hE.size
        by_cases hlt : k < K
        · obtain ⟨q, d, hu, hqd, hql, hqa⟩ := (hown.row (by simp; omega)).int_all
          rw [List.length_map, List.length_range] at hu hqd hqa
          subst hu
          obtain ⟨b3, o3, rfl, hb3, hcnt⟩ := hqa (by omega)
          have HCNT : Hid (∀ i, i < A.L → ∀ W, Ext wr W → W.cell? ⟨b3, o3 + i, none⟩ = some (.int .i64 (cnt A lim k i))) := fun i hi W hE => by
            have := hcnt i hi W hE
            rw [map_range_getD _ _ _ hi] at this
            exact this
          clear hqa hcnt hown hql
          have hEr := hE1.trans hE
          go_wp2_with fail
          obtain ⟨wo, rfl⟩ : ∃ wo : World, wo = wr := ⟨_, rfl⟩
          go_loopw [10, 11, 12, 13] (fun u x _ _ wr => ∃ s : Nat, s ≤ A.L ∧ x = .int .i64 s ∧ Own icells 1 wr wo.heap.size 3 u ((List.range s).map (cnt A lim (k + 1))) ∧ Ext wo wr) (fun _ x _ _ _ => A.L - (intOf x).toNat)
          case atStart => exact ⟨0, by omega, rfl, Own.nil _ _ _ (fun _ => rfl), Ext.refl _⟩
          case round =>
            obtain ⟨s, hs, rfl, hown, hE3⟩ := hrel
            have hb2 := HB.out wr (hE.trans hE3)
            have hEr3 := hEr.trans hE3
            have hzr2 := hE3.size
            by_cases hlt2 : s < A.L
            · obtain ⟨q2, d2, hcl, hld, hml, _, hmv⟩ := HAT.out s hlt2
              have HMV := hide hmv
              clear hmv
              go_wp2_with fail
              go_loop [12, 13] (fun y x => ∃ i : Nat, i ≤ A.len s ∧ x = .int .i64 i ∧ y = .int .i64 (cntStep A lim (cnt A lim k) s i)) (fun _ x => A.len s - (intOf x).toNat)
              case atStart => exact ⟨0, by omega, rfl, rfl⟩
              case round =>
                obtain ⟨i, hi, rfl, rfl⟩ := hrel
                by_cases hlt3 : i < A.len s
                · obtain ⟨b4, o4, rfl, hb4, hmv⟩ := HMV.out (by omega)
                  obtain ⟨_, _, _, _, _, _, _, x7⟩ := hmv i hlt3
                  clear hmv
                  obtain ⟨ht0, ht1, _, _⟩ := HS.out s hlt2 i hlt3
                  have HST := hide (cntStep_succ A lim (cnt A lim k) s i)
                  obtain ⟨hr0, hr1⟩ := cntStep_range (A := A) (f := cnt A lim k) (s := s) hl0 (fun t => (HCR.out k t).1) i
                  generalize (A.mv s i).to = t at x7 ht0 ht1 HST
                  obtain ⟨tn, rfl⟩ := Int.eq_ofNat_of_zero_le ht0
                  rw [Int.toNat_natCast] at HST
                  have htn : tn < A.L := by omega
                  have hy := HCNT.out tn htn wr hE3
                  obtain ⟨hs0, hs1⟩ := HCR.out k tn
                  generalize cntStep A lim (cnt A lim k) s i = x at HST hr0 hr1
                  generalize cnt A lim k tn = z at HST hy hs0 hs1
                  go_wp2_with fail
                  go_round
                  case rel => exact ⟨i + 1, by omega, by go_num, congrArg (Value.int .i64) (by rw [HST.out, Int.min_def]; split <;> split <;> omega)⟩
                  case measure => simp [intOf]; omega
                · obtain rfl : i = A.len s := by omega
                  have HCE : Hid (cntStep A lim (cnt A lim k) s (A.len s) = cnt A lim (k + 1) s) := rfl
                  generalize cntStep A lim (cnt A lim k) s (A.len s) = y at HCE
                  go_wp2_with (at_builtin; refine wpList_append1 rfl (.tmp 63) (.tmp 65) 47 rfl wo.heap.size 3 (.int .i64 0) 1 8 Try.underlying47 int_info rfl (by decide) _ ((List.range s).map (cnt A lim (k + 1))) y wr.heap.size rfl (hown.alloc _) rfl (cell_new1 _ _ _) (by simp [Value.oneCell']) (by rw [List.length_map, List.length_range]; omega) (by decide) (by simp; omega) ?_; intro v' w' hown' hg hform)
                  have hE4 := hE3.appended hown hg
                  go_roundw
                  case rel => exact ⟨s + 1, by omega, by go_num, by rw [List.range_succ, List.map_append, List.map_singleton, ← HCE.out]; exact hown', hE4⟩
                  case measure => simp [intOf]; omega
            · obtain rfl : s = A.L := by omega
              go_wp2_with fail
              go_roundw
              case rel => exact ⟨k + 1, by omega, by go_num, hown.mono hE.size, hE.trans hE3⟩
              case measure => simp [intOf]; omega
        · obtain rfl : k = K := by omega
          obtain ⟨q, d, hu, hqd, hql, hqa⟩ := (hown.row (by simp; omega)).int_all
          rw [List.length_map, List.length_range] at hu hqd hqa
          subst hu
          obtain ⟨b3, o3, rfl, hb3, hcnt⟩ := hqa (by omega)
          have hy : wr.cell? ⟨b3, o3, none⟩ = some (.int .i64 (cnt A lim k 0)) := by
            have := hcnt 0 (by omega) wr (Ext.refl _)
            rw [map_range_getD _ _ _ (by omega)] at this
            exact this
          clear hqa hcnt hown hql
          have hEr := hE1.trans hE
          have hL0 : (0 : Int) < (A.L : Int) := by omega
          go_wp2_with fail
          go_ret
          exact ⟨rfl, hEr⟩

def rdsErr (k : Int) : Int := if k < 0 ∨ 6 < k then 2 else 0
theorem rrounds_any (k : Int) (w : World) : Calls Try.prog 47 #[.int .i64 k] w fun e w' => e = .returned (.int .i64 (rdsErr k)) ∧ w' = w := by
  unfold rdsErr
  rcases (by omega : k < 0 ∨ 6 < k ∨ (0 ≤ k ∧ k ≤ 6)) with h | h | h
  · rw [if_pos (.inl h)]
    go_enter Try.func47, Try.ntmps47; go_wp2; go_ret; exact ⟨rfl, rfl⟩
  · rw [if_pos (.inr h)]
    have hd : decide (k < 0) = false := decide_eq_false (by omega)
    go_enter Try.func47, Try.ntmps47; go_wp2; go_ret; exact ⟨rfl, rfl⟩
  · rw [if_neg (by omega)]
    obtain ⟨h1, h2⟩ := h
    go_enter Try.func47, Try.ntmps47; go_wp2; go_ret; exact ⟨rfl, rfl⟩

/-- What Count returns, at a limit. -/
def countS (A : Adv) (k lim : Int) : Int × Int :=
  if achk A = 0 then (if rdsErr k = 0 then (if lim < cnt A lim k.toNat 0 then (0, 17) else (cnt A lim k.toNat 0, 0)) else (0, rdsErr k)) else (0, achk A)
theorem rdsErr_zero {k : Int} (h : rdsErr k = 0) : 0 ≤ k ∧ k ≤ 6 := by
  unfold rdsErr at h
  by_cases h1 : k < 0 ∨ 6 < k
  · rw [if_pos h1] at h; exact absurd h (by decide)
  · omega

set_option maxHeartbeats 1000000 in
theorem rcount_any (A : Adv) (v : Value) (k : Int) (w : World) (hA : AdvRep w v A) :
    Calls Try.prog 19 #[v, .int .i64 k] w fun e w' => e = .returned (.tuple #[.int .i64 (countS A k 1048576).1, .int .i64 (countS A k 1048576).2]) ∧ Ext w w' := by
  have HC := hide (fun W (hE : Ext w W) => racheck_any A v W (hA.ext hE))
  have HN := hide (fun W (hE : Ext w W) h0 h1 h2 => rnumber_any A v k 1048576 W (hA.ext hE) h0 h1 h2 (by decide) (by decide))
  obtain ⟨p, c, rfl, hc, hl, hat⟩ := hA.all_
  clear hA hat
  generalize hres : countS A k 1048576 = res
  obtain ⟨r1, r2⟩ := res
  unfold countS at hres
  by_cases h1 : achk A = 0
  · rw [if_pos h1] at hres
    have hHC := HC.out
    rw [h1] at hHC
    have HC := hide hHC
    clear hHC
    by_cases h2 : rdsErr k = 0
    · rw [if_pos h2] at hres
      have hr := rdsErr_zero h2
      have HN2 := hide (fun W hE => HN.out W hE h1 hr.1 (by omega))
      have HRD := hide (fun W => (rrounds_any k W))
      rw [h2] at HRD
      clear h1 h2 hr
      generalize cnt A 1048576 k.toNat 0 = x at hres HN2
      by_cases h3 : 1048576 < x
      · rw [if_pos h3] at hres
        have HR := hide hres
        clear hres
        go_enter Try.func19, Try.ntmps19
        go_wp2_with fail
        refine (HC.out _ (by simp [go_sem])).mono ?_
        rintro e w1 ⟨rfl, hE⟩
        have hEw := ((Ext.refl w).alloc _).trans hE
        obtain ⟨hc1, hf1⟩ := hE.rules
        go_wp2_with fail
        refine (HRD.out _).mono ?_
        rintro e w2 ⟨rfl, rfl⟩
        go_wp2_with fail
        refine (HN2.out _ hEw).mono ?_
        rintro e w3 ⟨rfl, hE3⟩
        go_wp2_with fail
        go_ret2
        exact ⟨ret_tup HR.out, hEw.trans hE3⟩
      · rw [if_neg h3] at hres
        have HR := hide hres
        clear hres
        go_enter Try.func19, Try.ntmps19
        go_wp2_with fail
        refine (HC.out _ (by simp [go_sem])).mono ?_
        rintro e w1 ⟨rfl, hE⟩
        have hEw := ((Ext.refl w).alloc _).trans hE
        obtain ⟨hc1, hf1⟩ := hE.rules
        go_wp2_with fail
        refine (HRD.out _).mono ?_
        rintro e w2 ⟨rfl, rfl⟩
        go_wp2_with fail
        refine (HN2.out _ hEw).mono ?_
        rintro e w3 ⟨rfl, hE3⟩
        go_wp2_with fail
        go_ret2
        exact ⟨ret_tup HR.out, hEw.trans hE3⟩
    · rw [if_neg h2] at hres
      have HR := hide hres
      have HRD := hide (fun W => (rrounds_any k W))
      have hb : (rdsErr k != 0) = true := by simp [h2]
      clear hres h1 h2
      generalize rdsErr k = x at *
      go_enter Try.func19, Try.ntmps19
      go_wp2_with fail
      refine (HC.out _ (by simp [go_sem])).mono ?_
      rintro e w1 ⟨rfl, hE⟩
      have hEw := ((Ext.refl w).alloc _).trans hE
      go_wp2_with fail
      refine (HRD.out _).mono ?_
      rintro e w2 ⟨rfl, rfl⟩
      go_wp2_with fail
      go_ret2
      exact ⟨ret_tup HR.out, hEw⟩
  · rw [if_neg h1] at hres
    have HR := hide hres
    have hb : (achk A != 0) = true := by simp [h1]
    clear hres h1
    generalize achk A = ck at *
    go_enter Try.func19, Try.ntmps19
    go_wp2_with fail
    refine (HC.out _ (by simp [go_sem])).mono ?_
    rintro e w1 ⟨rfl, hE⟩
    go_wp2_with fail
    go_ret2
    exact ⟨ret_tup HR.out, ((Ext.refl w).alloc _).trans hE⟩

/-- What State and Allows return. -/
def stateS (A : Adv) (l : List Rd) : Int × Int := if achk A = 0 then (if 0 ≤ after A 0 l then (after A 0 l, 0) else (0, 25)) else (0, achk A)
def allowsS (A : Adv) (l : List Rd) : Bool × Int := if achk A = 0 then (decide (0 ≤ after A 0 l), 0) else (false, achk A)
set_option maxHeartbeats 1000000 in
theorem rstate_any (A : Adv) (v u : Value) (l : List Rd) (w : World) (hA : AdvRep w v A) (hl : Row Rd.cells 7 w u l) :
    Calls Try.prog 14 #[v, u] w fun e w' => e = .returned (.tuple #[.int .i64 (stateS A l).1, .int .i64 (stateS A l).2]) ∧ Ext w w' := by
  have HC := hide (fun W (hE : Ext w W) => racheck_any A v W (hA.ext hE))
  have HN := hide (fun W (hE : Ext w W) h0 h1 => rafter_any A v u 0 l W (hA.ext hE) (hl.ext hE) h0 h1)
  obtain ⟨p, c, rfl, hc, hL, hat⟩ := hA.all_
  clear hA hat
  obtain ⟨q, d, rfl, _, _, hat⟩ := hl.rd_all
  clear hl hat
  generalize hres : stateS A l = res
  obtain ⟨r1, r2⟩ := res
  unfold stateS at hres
  by_cases h1 : achk A = 0
  · rw [if_pos h1] at hres
    have hHC := HC.out
    rw [h1] at hHC
    have HC := hide hHC
    clear hHC
    have HN2 := hide (fun W hE => HN.out W hE h1 (by have := (achk_zero h1).2.2.1; omega))
    rw [show ((0 : Nat) : Int) = 0 from rfl] at HN2
    clear h1
    generalize after A 0 l = x at hres HN2
    by_cases h3 : 0 ≤ x
    · rw [if_pos h3] at hres
      have HR := hide hres
      clear hres
      go_enter Try.func14, Try.ntmps14
      go_wp2_with fail
      refine (HC.out _ (by simp [go_sem])).mono ?_
      rintro e w1 ⟨rfl, hE⟩
      have hEw := ((Ext.refl w).alloc _).trans hE
      obtain ⟨hc1, hf1⟩ := hE.rules
      go_wp2_with fail
      refine (HN2.out _ hEw).mono ?_
      rintro e w3 ⟨rfl, hE3⟩
      go_wp2_with fail
      go_ret2
      exact ⟨ret_tup HR.out, hEw.trans hE3⟩
    · rw [if_neg h3] at hres
      have HR := hide hres
      clear hres
      go_enter Try.func14, Try.ntmps14
      go_wp2_with fail
      refine (HC.out _ (by simp [go_sem])).mono ?_
      rintro e w1 ⟨rfl, hE⟩
      have hEw := ((Ext.refl w).alloc _).trans hE
      obtain ⟨hc1, hf1⟩ := hE.rules
      go_wp2_with fail
      refine (HN2.out _ hEw).mono ?_
      rintro e w3 ⟨rfl, hE3⟩
      go_wp2_with fail
      go_ret2
      exact ⟨ret_tup HR.out, hEw.trans hE3⟩
  · rw [if_neg h1] at hres
    have HR := hide hres
    have hb : (achk A != 0) = true := by simp [h1]
    clear hres h1
    generalize achk A = ck at *
    go_enter Try.func14, Try.ntmps14
    go_wp2_with fail
    refine (HC.out _ (by simp [go_sem])).mono ?_
    rintro e w1 ⟨rfl, hE⟩
    go_wp2_with fail
    go_ret2
    exact ⟨ret_tup HR.out, ((Ext.refl w).alloc _).trans hE⟩
set_option maxHeartbeats 1000000 in
theorem rallows_any (A : Adv) (v u : Value) (l : List Rd) (w : World) (hA : AdvRep w v A) (hl : Row Rd.cells 7 w u l) :
    Calls Try.prog 16 #[v, u] w fun e w' => e = .returned (.tuple #[.bool (allowsS A l).1, .int .i64 (allowsS A l).2]) ∧ Ext w w' := by
  have HC := hide (fun W (hE : Ext w W) => racheck_any A v W (hA.ext hE))
  have HN := hide (fun W (hE : Ext w W) h0 h1 => rafter_any A v u 0 l W (hA.ext hE) (hl.ext hE) h0 h1)
  obtain ⟨p, c, rfl, hc, hL, hat⟩ := hA.all_
  clear hA hat
  obtain ⟨q, d, rfl, _, _, hat⟩ := hl.rd_all
  clear hl hat
  generalize hres : allowsS A l = res
  obtain ⟨r1, r2⟩ := res
  unfold allowsS at hres
  by_cases h1 : achk A = 0
  · rw [if_pos h1] at hres
    have hHC := HC.out
    rw [h1] at hHC
    have HC := hide hHC
    clear hHC
    have HN2 := hide (fun W hE => HN.out W hE h1 (by have := (achk_zero h1).2.2.1; omega))
    rw [show ((0 : Nat) : Int) = 0 from rfl] at HN2
    clear h1
    generalize after A 0 l = x at hres HN2
    have HR := hide hres
    clear hres
    go_enter Try.func16, Try.ntmps16
    go_wp2_with fail
    refine (HC.out _ (by simp [go_sem])).mono ?_
    rintro e w1 ⟨rfl, hE⟩
    have hEw := ((Ext.refl w).alloc _).trans hE
    obtain ⟨hc1, hf1⟩ := hE.rules
    go_wp2_with fail
    refine (HN2.out _ hEw).mono ?_
    rintro e w3 ⟨rfl, hE3⟩
    go_wp2_with fail
    go_ret2
    exact ⟨ret_tupb HR.out, hEw.trans hE3⟩
  · rw [if_neg h1] at hres
    have HR := hide hres
    have hb : (achk A != 0) = true := by simp [h1]
    clear hres h1
    generalize achk A = ck at *
    go_enter Try.func16, Try.ntmps16
    go_wp2_with fail
    refine (HC.out _ (by simp [go_sem])).mono ?_
    rintro e w1 ⟨rfl, hE⟩
    go_wp2_with fail
    go_ret2
    exact ⟨ret_tupb HR.out, ((Ext.refl w).alloc _).trans hE⟩
end Go.Proofs.Ytjgkgcjmcpgiaaa
