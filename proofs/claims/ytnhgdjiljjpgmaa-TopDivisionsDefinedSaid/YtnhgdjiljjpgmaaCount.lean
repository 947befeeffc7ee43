/-
  The program's counted, Count; the reference's Words, FewWords.
  Conditions: as each theorem states.
-/
import Derived.Test.YtnhgdjiljjpgmaaNumber
import Derived.Test.YtnhgdjiljjpgmaaWordsRef
namespace Go.Proofs.Ytnhgdjiljjpgmaa
open Go.RowKit
attribute [local go_sem] Oper.semAt_some

/-- The number of words, up to the limit. -/
theorem cnt_len (A : Adv) {lim : Int} (hl : 0 ≤ lim) : ∀ (k s : Nat), cnt A lim k s = min ((fromS A k s).length : Int) (lim + 1) := by
  intro k
  induction k with
  | zero => intro s; simp only [cnt, fromS, List.length_cons, List.length_nil]; omega
  | succ k ih =>
    intro s
    have key : ∀ i, cntStep A lim (cnt A lim k) s i = min ((fromP A k s i).length : Int) (lim + 1) := by
      intro i
      induction i with
      | zero => show (0 : Int) = min ((0 : Nat) : Int) (lim + 1); omega
      | succ i ih2 =>
        rw [cntStep_succ, ih2, ih, fromP_succ, List.length_append, List.length_map]
        omega
    exact key (A.len s)

set_option maxHeartbeats 2000000 in
theorem counted_any (A : Adv) (v : Value) (k lim : Int) (w : World) (hA : AdvRep w v A) (hM : movesN A ≤ 4611686018427387904) (hl0 : 0 ≤ lim) (hl1 : lim ≤ 1000000000) :
    Calls Try.prog 44 #[v, .int .i64 k, .int .i64 lim] w fun e w' => e = .returned (.tuple #[.int .i64 (countS A k lim).1, .int .i64 (countS A k lim).2]) ∧ Ext w w' := by
  have HC := hide (fun W (hE : Ext w W) => check_any A v W (hA.ext hE) hM)
  have HN := hide (fun W K (hE : Ext w W) h0 h1 => number_any A v K lim W (hA.ext hE) h0 h1 hl0 hl1)
  obtain ⟨p, c, rfl, hc, hl, hat⟩ := hA.all_
  clear hA hat
  generalize hres : countS A k lim = res
  obtain ⟨r1, r2⟩ := res
  unfold countS at hres
  by_cases h1 : achk A = 0
  · rw [if_pos h1] at hres
    have hHC := HC.out
    rw [h1] at hHC
    have HC := hide hHC
    clear hHC
    by_cases h2 : rdsErr k = 0
    · rw [if_pos h2] at hres
      have hr := rdsErr_zero h2
      have HN2 := hide (fun W K hE => HN.out W K hE h1)
      clear h1 h2
      obtain ⟨K, rfl⟩ := Int.eq_ofNat_of_zero_le hr.1
      rw [Int.toNat_natCast] at hres
      have hk0 : (0 : Int) ≤ (K : Int) := by omega
      have hk6 : (K : Int) ≤ 6 := by omega
      have HN3 := hide (fun W hE => HN2.out W K hE (by omega))
      clear HN2 hr
      generalize cnt A lim K 0 = x at hres HN3
      by_cases h3 : lim < x
      all_goals
        first | rw [if_pos h3] at hres | rw [if_neg h3] at hres
        have HR := hide hres
        clear hres
        go_enter Try.func44, Try.ntmps44
        go_wp2_with fail
        refine (HC.out _ (by simp [go_sem])).mono ?_
        rintro e w1 ⟨rfl, hE⟩
        have hEw := ((Ext.refl w).alloc _).trans hE
        obtain ⟨hc1, hf1⟩ := hE.rules
        go_wp2_with fail
        refine (HN3.out _ hEw).mono ?_
        rintro e w3 ⟨rfl, hE3⟩
        go_wp2_with fail
        go_ret2
        exact ⟨ret_tup HR.out, hEw.trans hE3⟩
    · rw [if_neg h2] at hres
      have HR := hide hres
      have hb : k < 0 ∨ 6 < k := by
        unfold rdsErr at h2
        by_cases h : k < 0 ∨ 6 < k
        · exact h
        · rw [if_neg h] at h2; exact absurd rfl h2
      have h22 : rdsErr k = 2 := by unfold rdsErr; rw [if_pos hb]
      rw [h22] at HR
      clear hres h1 h2 h22
      rcases hb with hb | hb
      all_goals
        go_enter Try.func44, Try.ntmps44
        go_wp2_with fail
        refine (HC.out _ (by simp [go_sem])).mono ?_
        rintro e w1 ⟨rfl, hE⟩
        have hEw := ((Ext.refl w).alloc _).trans hE
        go_wp2_with fail
        go_ret2
        exact ⟨ret_tup HR.out, hEw⟩
  · rw [if_neg h1] at hres
    have HR := hide hres
    have hb : (achk A != 0) = true := by simp [h1]
    clear hres h1
    generalize achk A = ck at *
    go_enter Try.func44, Try.ntmps44
    go_wp2_with fail
    refine (HC.out _ (by simp [go_sem])).mono ?_
    rintro e w1 ⟨rfl, hE⟩
    go_wp2_with fail
    go_ret2
    exact ⟨ret_tup HR.out, ((Ext.refl w).alloc _).trans hE⟩

theorem pcount_any (A : Adv) (v : Value) (k : Int) (w : World) (hA : AdvRep w v A) (hM : movesN A ≤ 4611686018427387904) :
    Calls Try.prog 17 #[v, .int .i64 k] w fun e w' => e = .returned (.tuple #[.int .i64 (countS A k 1048576).1, .int .i64 (countS A k 1048576).2]) ∧ Ext w w' := by
  have HC := hide (fun W (hE : Ext w W) => counted_any A v k 1048576 W (hA.ext hE) hM (by decide) (by decide))
  obtain ⟨p, c, rfl, hc, hl, hat⟩ := hA.all_
  clear hA hat
  generalize countS A k 1048576 = res at *
  obtain ⟨r1, r2⟩ := res
  go_enter Try.func17, Try.ntmps17
  go_wp2_with fail
  refine (HC.out _ (by simp [go_sem])).mono ?_
  rintro e w1 ⟨rfl, hE⟩
  go_wp2_with fail
  go_ret2
  exact ⟨rfl, ((Ext.refl w).alloc _).trans hE⟩

/-- What Words returns: the list, and the number of the error. -/
def wordsS (A : Adv) (k : Int) : List (List Rd) × Int :=
  if achk A = 0 then (if rdsErr k = 0 then (if 4096 < cnt A 4096 k.toNat 0 then ([], 17) else (fromS A k.toNat 0, 0)) else ([], rdsErr k)) else ([], achk A)

end Go.Proofs.Ytnhgdjiljjpgmaa
