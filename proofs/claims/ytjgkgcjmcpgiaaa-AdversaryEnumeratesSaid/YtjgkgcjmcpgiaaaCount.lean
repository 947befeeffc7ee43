/-
  The program's counted, Count; the reference's Words, FewWords.
  Conditions: as each theorem states.
-/
import Derived.Test.YtjgkgcjmcpgiaaaNumber
import Derived.Test.YtjgkgcjmcpgiaaaWordsRef
namespace Go.Proofs.Ytjgkgcjmcpgiaaa
open Go.RowKit
attribute [local go_sem] Oper.semAt_some

/-- The number of words, up to the limit. -/
theorem cnt_len (A : Adv) {lim : Int} (hl : 0 ≤ lim) : ∀ (k s : Nat), cnt A lim k s = min ((fromS A k s).length : Int) (lim + 1) := by
  intro k
  induction k with
  | zero => intro s; simp only [cnt, fromS, List.length_cons, List.length_nil]; omega
  | succ k ih =>
    intro s
    have key : ∀ i, cntStep A lim (cnt A lim k) s i = min ((fromP A k s i).length : Int) (lim + 1) := by
      intro i
      induction i with
      | zero => show (0 : Int) = min ((0 : Nat) : Int) (lim + 1); omega
      | succ i ih2 =>
        rw [cntStep_succ, ih2, ih, fromP_succ, List.length_append, List.length_map]
        omega
    exact key (A.len s)

set_option maxHeartbeats 2000000 in
theorem counted_any (A : Adv) (v : Value) (k lim : Int) (w : World) (hA : AdvRep w v A) (hM : movesN A ≤ 4611686018427387904) (hl0 : 0 ≤ lim) (hl1 : lim ≤ 1000000000) :
    Calls Try.prog 49 #[v, .int .i64 k, .int .i64 lim] w fun e w' => e = .returned (.tuple #[.int .i64 (countS A k lim).1, .int .i64 (countS A k lim).2]) ∧ Ext w w' := by
  have HC := hide (fun W (hE : Ext w W) => check_any A v W (hA.ext hE) hM)
  have HN := hide (fun W K (hE : Ext w W) h0 h1 => number_any A v K lim W (hA.ext hE) h0 h1 hl0 hl1)
  obtain ⟨p, c, rfl, hc, hl, hat⟩ := hA.all_
  clear hA hat
  generalize hres : countS A k lim = res
  obtain ⟨r1, r2⟩ := res
  unfold countS at hres
  by_cases h1 : achk A = 0
  · rw [if_pos h1] at hres
    have hHC := HC.out
    rw [h1] at hHC
    have HC := hide hHC
    clear hHC
    by_cases h2 : rdsErr k = 0
    · rw [if_pos h2] at hres
      have hr := rdsErr_zero h2
      have HN2 := hide (fun W K hE => HN.out W K hE h1)
      clear h1 h2
      obtain ⟨K, rfl⟩ := Int.eq_ofNat_of_zero_le hr.1
      rw [Int.toNat_natCast] at hres
      have hk0 : (0 : Int) ≤ (K : Int) := by omega
      have hk6 : (K : Int) ≤ 6 := by omega
      have HN3 := hide (fun W hE => HN2.out W K hE (by omega))
      clear HN2 hr
      generalize cnt A lim K 0 = x at hres HN3
      by_cases h3 : lim < x
      all_goals
        first | rw [if_pos h3] at hres | rw [if_neg h3] at hres
        have HR := hide hres
        clear hres
        go_enter Try.func49, Try.ntmps49
        go_wp2_with fail
        refine (HC.out _ (by simp [go_sem])).mono ?_
        rintro e w1 ⟨rfl, hE⟩
        have hEw := ((Ext.refl w).alloc _).trans hE
        obtain ⟨hc1, hf1⟩ := hE.rules
        go_wp2_with fail
        refine (HN3.out _ hEw).mono ?_
        rintro e w3 ⟨rfl, hE3⟩
        go_wp2_with fail
        go_ret2
        exact ⟨ret_tup HR.out, hEw.trans hE3⟩
    · rw [if_neg h2] at hres
      have HR := hide hres
      have hb : k < 0 ∨ 6 < k := by
        unfold rdsErr at h2
        by_cases h : k < 0 ∨ 6 < k
        · exact h
        · rw [if_neg h] at h2; exact absurd rfl h2
      have h22 : rdsErr k = 2 := by unfold rdsErr; rw [if_pos hb]
      rw [h22] at HR
      clear hres h1 h2 h22
      rcases hb with hb | hb
      all_goals
        go_enter Try.func49, Try.ntmps49
        go_wp2_with fail
        refine (HC.out _ (by simp [go_sem])).mono ?_
        rintro e w1 ⟨rfl, hE⟩
        have hEw := ((Ext.refl w).alloc _).trans hE
        go_wp2_with fail
        go_ret2
        exact ⟨ret_tup HR.out, hEw⟩
  · rw [if_neg h1] at hres
    have HR := hide hres
    have hb : (achk A != 0) = true := by simp [h1]
    clear hres h1
    generalize achk A = ck at *
    go_enter Try.func49, Try.ntmps49
    go_wp2_with fail
    refine (HC.out _ (by simp [go_sem])).mono ?_
    rintro e w1 ⟨rfl, hE⟩
    go_wp2_with fail
    go_ret2
    exact ⟨ret_tup HR.out, ((Ext.refl w).alloc _).trans hE⟩

theorem pcount_any (A : Adv) (v : Value) (k : Int) (w : World) (hA : AdvRep w v A) (hM : movesN A ≤ 4611686018427387904) :
    Calls Try.prog 18 #[v, .int .i64 k] w fun e w' => e = .returned (.tuple #[.int .i64 (countS A k 1048576).1, .int .i64 (countS A k 1048576).2]) ∧ Ext w w' := by
  have HC := hide (fun W (hE : Ext w W) => counted_any A v k 1048576 W (hA.ext hE) hM (by decide) (by decide))
  obtain ⟨p, c, rfl, hc, hl, hat⟩ := hA.all_
  clear hA hat
  generalize countS A k 1048576 = res at *
  obtain ⟨r1, r2⟩ := res
  go_enter Try.func18, Try.ntmps18
  go_wp2_with fail
  refine (HC.out _ (by simp [go_sem])).mono ?_
  rintro e w1 ⟨rfl, hE⟩
  go_wp2_with fail
  go_ret2
  exact ⟨rfl, ((Ext.refl w).alloc _).trans hE⟩

/-- What Words returns: the list, and the number of the error. -/
def wordsS (A : Adv) (k : Int) : List (List Rd) × Int :=
  if achk A = 0 then (if rdsErr k = 0 then (if 4096 < cnt A 4096 k.toNat 0 then ([], 17) else (fromS A k.toNat 0, 0)) else ([], rdsErr k)) else ([], achk A)

set_option maxHeartbeats 2000000 in
theorem rwords_any (A : Adv) (v : Value) (k : Int) (w : World) (hA : AdvRep w v A) :
    Calls Try.prog 21 #[v, .int .i64 k] w (RetV2 (fun u w' => Coll 25 67 Rd.cells 7 w' w.heap.size u (wordsS A k).1) (wordsS A k).2 w) := by
  have HC := hide (fun W (hE : Ext w W) => racheck_any A v W (hA.ext hE))
  have HN := hide (fun W (hE : Ext w W) h0 h1 h2 => rnumber_any A v k 4096 W (hA.ext hE) h0 h1 h2 (by decide) (by decide))
  have HF := hide (fun W K (hE : Ext w W) h0 h1 h2 h3 => rfrom_any A v h0 K 0 W (hA.ext hE) h1 h2 h3)
  obtain ⟨p, c, rfl, hc, hl, hat⟩ := hA.all_
  clear hA hat
  generalize hres : wordsS A k = res
  obtain ⟨r1, r2⟩ := res
  unfold wordsS at hres
  by_cases h1 : achk A = 0
  · rw [if_pos h1] at hres
    have hHC := HC.out
    rw [h1] at hHC
    have HC := hide hHC
    clear hHC
    by_cases h2 : rdsErr k = 0
    · rw [if_pos h2] at hres
      have hr := rdsErr_zero h2
      have HN2 := hide (fun W hE => HN.out W hE h1 hr.1 (by omega))
      have HRD := hide (fun W => (rrounds_any k W))
      rw [h2] at HRD
      have hL := (achk_zero h1).2.2.1
      obtain ⟨K, rfl⟩ := Int.eq_ofNat_of_zero_le hr.1
      rw [Int.toNat_natCast] at hres HN2
      have HF2 := hide (fun W hE h2 => HF.out W K hE h1 hL h2 (by omega))
      have hcl := cnt_len A (lim := 4096) (by decide) K 0
      have hcnt : ¬ 4096 < cnt A 4096 K 0 → (fromS A K 0).length ≤ 4096 := fun h => by omega
      clear h1 h2 hr HF HN hcl hL
      have HCNT := hide hcnt
      clear hcnt
      generalize cnt A 4096 K 0 = x at hres HN2 HCNT
      by_cases h3 : 4096 < x
      · rw [if_pos h3] at hres
        injection hres with hr1 hr2
        subst hr1 hr2
        go_enter Try.func21, Try.ntmps21
        go_wp2_with fail
        refine (HC.out _ (by simp [go_sem])).mono ?_
        rintro e w1 ⟨rfl, hE⟩
        have hEw := ((Ext.refl w).alloc _).trans hE
        obtain ⟨hc1, hf1⟩ := hE.rules
        go_wp2_with fail
        refine (HRD.out _).mono ?_
        rintro e w2 ⟨rfl, rfl⟩
        go_wp2_with fail
        refine (HN2.out _ hEw).mono ?_
        rintro e w3 ⟨rfl, hE3⟩
        go_wp2_with fail
        go_ret2
        exact ⟨_, rfl, Coll.nil _ _, hEw.trans hE3⟩
      · rw [if_neg h3] at hres
        injection hres with hr1 hr2
        have hb3 : x ≤ 4096 := by omega
        have hlen := HCNT.out h3
        rw [hr1] at HF2 hlen
        subst hr2
        clear hr1
        have HF3 := hide (fun W hE => HF2.out W hE hlen)
        clear HF2 hlen h3 HCNT
        go_enter Try.func21, Try.ntmps21
        go_wp2_with fail
        refine (HC.out _ (by simp [go_sem])).mono ?_
        rintro e w1 ⟨rfl, hE⟩
        have hEw := ((Ext.refl w).alloc _).trans hE
        obtain ⟨hc1, hf1⟩ := hE.rules
        have hz1 : w.heap.size < w1.heap.size := by have := hE.size; simp at this; omega
        go_wp2_with fail
        refine (HRD.out _).mono ?_
        rintro e w2 ⟨rfl, rfl⟩
        go_wp2_with fail
        refine (HN2.out _ hEw).mono ?_
        rintro e w3 ⟨rfl, hE3⟩
        have hEw3 := hEw.trans hE3
        obtain ⟨hc3, hf3⟩ := hE3.rules
        go_wp2_with fail
        refine (HF3.out _ hEw3).mono ?_
        rintro e w4 ⟨u, rfl, hu, hE4⟩
        go_wp2_with fail
        go_ret2
        exact ⟨_, rfl, hu.mono hEw3.size, hEw3.trans hE4⟩
    · rw [if_neg h2] at hres
      have HRD := hide (fun W => (rrounds_any k W))
      have hb : (rdsErr k != 0) = true := by simp [h2]
      injection hres with hr1 hr2
      subst hr1
      clear h1 h2
      generalize rdsErr k = x at *
      subst hr2
      go_enter Try.func21, Try.ntmps21
      go_wp2_with fail
      refine (HC.out _ (by simp [go_sem])).mono ?_
      rintro e w1 ⟨rfl, hE⟩
      have hEw := ((Ext.refl w).alloc _).trans hE
      go_wp2_with fail
      refine (HRD.out _).mono ?_
      rintro e w2 ⟨rfl, rfl⟩
      go_wp2_with fail
      go_ret2
      exact ⟨_, rfl, Coll.nil _ _, hEw⟩
  · rw [if_neg h1] at hres
    have hb : (achk A != 0) = true := by simp [h1]
    injection hres with hr1 hr2
    subst hr1
    clear h1
    generalize achk A = ck at *
    subst hr2
    go_enter Try.func21, Try.ntmps21
    go_wp2_with fail
    refine (HC.out _ (by simp [go_sem])).mono ?_
    rintro e w1 ⟨rfl, hE⟩
    go_wp2_with fail
    go_ret2
    exact ⟨_, rfl, Coll.nil _ _, ((Ext.refl w).alloc _).trans hE⟩
end Go.Proofs.Ytjgkgcjmcpgiaaa
