/-
  The program's Oblivious.
  Conditions: as each theorem states.
-/
import Derived.Test.YtjgkgcjmcpgiaaaObl
namespace Go.Proofs.Ytjgkgcjmcpgiaaa
open Go.RowKit
attribute [local go_sem] Oper.semAt_some

/-- In each reachable state the same rounds are permitted. -/
noncomputable def oblB (A : Adv) : Bool := (List.range A.L).all fun s => !reachB A s || rdsEq (A.st.getD 0 []) (A.st.getD s [])
noncomputable def oblS (A : Adv) : Bool × Int := if achk A = 0 then (oblB A, 0) else (false, achk A)
theorem oblB_bad {A : Adv} {s : Nat} (hs : s < A.L) (hr : reachB A s = true) (h : rdsEq (A.st.getD 0 []) (A.st.getD s []) = false) : oblB A = false := by
  unfold oblB
  rw [List.all_eq_false]
  exact ⟨s, by simpa using hs, by rw [hr, h]; decide⟩
theorem oblB_ok {A : Adv} (h : ∀ s, s < A.L → reachB A s = true → rdsEq (A.st.getD 0 []) (A.st.getD s []) = true) : oblB A = true := by
  unfold oblB
  rw [List.all_eq_true]
  intro s hs
  cases hr : reachB A s with
  | false => rfl
  | true => rw [h s (by simpa using hs) hr]; rfl
theorem reachP_mem {A : Adv} {x : Int} {n : Nat} (h : x ∈ reachP A n) : ∃ s : Nat, x = s ∧ s < n ∧ reachB A s = true := by
  simp only [reachP, List.mem_map, List.mem_filter, List.mem_range] at h
  obtain ⟨s, ⟨h1, h2⟩, rfl⟩ := h
  exact ⟨s, rfl, h1, h2⟩
theorem reachP_has {A : Adv} {s n : Nat} (h : s < n) (hr : reachB A s = true) : (s : Int) ∈ reachP A n := by
  simp only [reachP, List.mem_map, List.mem_filter, List.mem_range]
  exact ⟨s, ⟨h, hr⟩, rfl⟩

set_option maxHeartbeats 2000000 in
theorem oblivious_any (A : Adv) (v : Value) (w : World) (hA : AdvRep w v A) (hM : movesN A ≤ 4611686018427387904) :
    Calls Try.prog 27 #[v] w fun e w' => e = .returned (.tuple #[.bool (oblS A).1, .int .i64 (oblS A).2]) ∧ Ext w w' := by
  have HC := hide (fun W (hE : Ext w W) => check_any A v W (hA.ext hE) hM)
  have HX := hide (fun W (hE : Ext w W) h0 => reached_any A v W (hA.ext hE) h0)
  obtain ⟨p, c, rfl, hc, hl, hat⟩ := hA.all_
  have HAT := hide hat
  clear hA hat
  generalize hres : oblS A = res
  obtain ⟨r1, r2⟩ := res
  unfold oblS at hres
  have hE0 : Ext w (w.alloc (.cells #[.int .i64 A.n, .slice p A.L c] 24)) := (Ext.refl w).alloc _
  by_cases h0 : achk A = 0
  · rw [if_pos h0] at hres
    have hHC := HC.out
    rw [h0] at hHC
    have HC := hide hHC
    have HX := hide (fun W hE => HX.out W hE h0)
    have hL := (achk_zero h0).2.2.1
    have hL2 := (achk_zero h0).2.2.2.1
    have HBAD : Hid (∀ s, s < A.L → reachB A s = true → rdsEq (A.st.getD 0 []) (A.st.getD s []) = false → (false, (0 : Int)) = (r1, r2)) := fun s h1 h2 h3 => by rw [oblB_bad h1 h2 h3] at hres; exact hres
    have HOK : Hid ((∀ s, s < A.L → reachB A s = true → rdsEq (A.st.getD 0 []) (A.st.getD s []) = true) → (true, (0 : Int)) = (r1, r2)) := fun h => by rw [oblB_ok h] at hres; exact hres
    clear hHC h0 hres
    go_enter Try.func27, Try.ntmps27
    go_wp2_with fail
    refine (HC.out _ hE0).mono ?_
    rintro e w1 ⟨rfl, hE⟩
    have hE1 := hE0.trans hE
    obtain ⟨hc1, hf1⟩ := hE.rules
    have hb1 : w1.cell? ⟨w.heap.size, 1, none⟩ = some (.slice p A.L c) := by rw [hc1 _ _ (by simp)]; simp [go_sem]
    have hz1 : w.heap.size < w1.heap.size := by have := hE.size; simp at this; omega
    go_wp2_with fail
    refine (HX.out _ hE1).mono ?_
    rintro e w2 ⟨u, rfl, hown, hE2⟩
    obtain ⟨q, d, rfl, hd, hlq, hqat⟩ := (hown.row (by have := reachP_len A A.L; omega)).int_all
    have HQ := hide hqat
    have hE2w := hE1.trans hE2
    have hb2 : ∀ W, Ext w2 W → W.cell? ⟨w.heap.size, 1, none⟩ = some (.slice p A.L c) := fun W hE => (hE.cell (by have := hE2.size; show w.heap.size < _; omega)).trans ((hE2.cell hz1).trans hb1)
    have hz2 : w.heap.size < w2.heap.size := by have := hE2.size; omega
    obtain ⟨b, o, rfl, hb, hAt⟩ := HAT.out (by omega)
    have HA := hide hAt
    clear hown hqat hc1 hf1 hb1 hE hE2 hAt
    go_wp2_with fail
    go_loopw [16] (fun x wr => ∃ i : Nat, i ≤ (reachP A A.L).length ∧ x = .int .i64 i ∧ (∀ j, j < i → rdsEq (A.st.getD 0 []) (A.st.getD ((reachP A A.L).getD j 0).toNat []) = true) ∧ Ext w2 wr) (fun x _ => (reachP A A.L).length - (intOf x).toNat)
    case atStart => exact ⟨0, by omega, rfl, fun j hj => by omega, Ext.refl _⟩
    case round =>
      obtain ⟨i, hi, rfl, hz, hE⟩ := hrel
      have HZ := hide hz
      clear hz
      have hEw := hE2w.trans hE
      by_cases hlt : i < (reachP A A.L).length
      · obtain ⟨b3, o3, rfl, hb3, hq⟩ := HQ.out (by omega)
        have hqi := hq i hlt
        obtain ⟨s, hs, hsL, hsR⟩ := reachP_mem (show (reachP A A.L).getD i 0 ∈ reachP A A.L by rw [List.getD_eq_getElem?_getD, List.getElem?_eq_getElem hlt]; exact List.getElem_mem _)
        have HSI := hide hs
        rw [hs] at hqi
        obtain ⟨qa, da, hca, _, _, hra, _⟩ := HA.out 0 (by omega)
        obtain ⟨qs, ds, hcs, _, _, hrs, _⟩ := HA.out s hsL
        have hEQ := fun W (hE : Ext w W) => eqfunc_any _ _ _ _ W (hra.ext hE) (hrs.ext hE)
        have hB := fun h => HBAD.out s hsL hsR h
        have HG : Hid (rdsEq (A.st.getD 0 []) (A.st.getD s []) = true → ∀ j, j < i + 1 → rdsEq (A.st.getD 0 []) (A.st.getD ((reachP A A.L).getD j 0).toNat []) = true) := fun h j hj => by
          rcases Nat.lt_or_ge j i with h7 | h7
          · exact HZ.out j h7
          · obtain rfl : j = i := by omega
            rw [HSI.out, Int.toNat_natCast]; exact h
        generalize rdsEq (A.st.getD 0 []) (A.st.getD s []) = r at hEQ hB HG
        have HEQ := hide hEQ
        have HBB := hide hB
        clear hq hs hEQ hB hra hrs hsR
        rw [Nat.add_zero] at hca
        have hb9 : ∀ W, Ext wr W → W.cell? ⟨w.heap.size, 1, none⟩ = some (.slice (some ⟨b, o, none⟩) A.L c) := fun W h => hb2 W (hE.trans h)
        have hLd : decide (0 < A.L) = true := by simp; omega
        go_wp2_with fail
        refine wp_region_ext (by kernel_rfl) (by kernel_rfl) ?_
        repeat (go_big_quiet_step ((go_at_call 58; exact Calls.ext_of (HEQ.out _ (by simp [go_sem, hEw])))))
        refine wpQuiet_nil ?_
        rintro w9 ⟨⟨_, hE9⟩, rfl⟩
        clear hb9 hca hcs
        cases r with
        | true =>
          go_wp2_with fail
          exact ⟨⟨i + 1, by omega, by simp, HG.out (by trivial), hE.trans hE9⟩, by simp [intOf]; try omega⟩
        | false =>
          have HR := hide (HBB.out (by trivial))
          clear HBB
          go_wp2_with fail
          go_ret2
          exact ⟨ret_tupb HR.out, hEw.trans hE9⟩
      · obtain rfl : i = (reachP A A.L).length := by omega
        have HR := hide (HOK.out (fun s h1 h2 => by
          obtain ⟨j, hj, he⟩ := List.getElem_of_mem (reachP_has h1 h2)
          have e1 : (reachP A A.L).getD j 0 = (s : Int) := by rw [List.getD_eq_getElem?_getD, List.getElem?_eq_getElem hj, he]; rfl
          have h3 := HZ.out j hj
          rw [e1, Int.toNat_natCast] at h3
          exact h3))
        go_wp2_with fail
        go_ret2
        exact ⟨ret_tupb HR.out, hEw⟩
  · rw [if_neg h0] at hres
    have HR := hide hres
    have hb : (achk A != 0) = true := by simp [h0]
    clear h0 HX hres
    generalize achk A = ck at *
    go_enter Try.func27, Try.ntmps27
    go_wp2_with fail
    refine (HC.out _ hE0).mono ?_
    rintro e w1 ⟨rfl, hE⟩
    go_wp2_with fail
    go_ret2
    exact ⟨ret_tupb HR.out, hE0.trans hE⟩
end Go.Proofs.Ytjgkgcjmcpgiaaa
