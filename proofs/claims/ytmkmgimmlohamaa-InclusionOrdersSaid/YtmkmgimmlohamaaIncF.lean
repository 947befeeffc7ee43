/-
  The small functions of layer 20: lacking, Equivalent's closure, both.
  Conditions: as each theorem states.
-/
import Derived.Test.YtmkmgimmlohamaaIncW
import Derived.Test.YtmkmgimmlohamaaCheck
namespace Go.Proofs.Ytmkmgimmlohamaa
open Go.RowKit
attribute [local go_sem] Oper.semAt_some

theorem lacking_any (e : St) (w : World) : Calls Try.prog 34 #[e.v] w fun en w' => en = .returned (.bool (dI e)) ∧ Ext w w' := by
  have hd : dI e = decide (e.x < 0) := rfl
  rw [hd]
  go_enter Try.func34, Try.ntmps34
  go_wp2_with fail
  go_ret
  exact ⟨rfl, (Ext.refl w).alloc _⟩
theorem differ_any (e : St) (w : World) : Calls Try.prog 40 #[e.v] w fun en w' => en = .returned (.bool (dE e)) ∧ Ext w w' := by
  by_cases hx : e.x < 0
  · have hd : dE e = true := by unfold dE; simp [hx]
    rw [hd]
    go_enter Try.func40, Try.ntmps40
    go_wp2_with fail
    go_ret
    exact ⟨rfl, (Ext.refl w).alloc _⟩
  · have hd : dE e = decide (e.y < 0) := by unfold dE; simp [hx]
    rw [hd]
    go_enter Try.func40, Try.ntmps40
    go_wp2_with fail
    go_ret
    exact ⟨rfl, (Ext.refl w).alloc _⟩
/-- The error of two adversaries. -/
def bothI (A B : Adv) : Int := if achk A ≠ 0 then achk A else if achk B ≠ 0 then achk B else if A.n ≠ B.n then 22 else 0
theorem bothI_zero {A B : Adv} (h : bothI A B = 0) : achk A = 0 ∧ achk B = 0 ∧ A.n = B.n := by
  unfold bothI at h
  by_cases h1 : achk A ≠ 0
  · rw [if_pos h1] at h; exact absurd h h1
  rw [if_neg h1] at h
  by_cases h2 : achk B ≠ 0
  · rw [if_pos h2] at h; exact absurd h h2
  rw [if_neg h2] at h
  by_cases h3 : A.n ≠ B.n
  · rw [if_pos h3] at h; exact absurd h (by decide)
  exact ⟨by simpa using h1, by simpa using h2, by simpa using h3⟩
set_option maxHeartbeats 1000000 in
theorem both_any (A B : Adv) (u v : Value) (w : World) (hA : AdvRep w u A) (hB : AdvRep w v B) (hmA : movesN A ≤ 4611686018427387904) (hmB : movesN B ≤ 4611686018427387904) : Calls Try.prog 32 #[u, v] w fun en w' => en = .returned (.int .i64 (bothI A B)) ∧ Ext w w' := by
  have HA := hide hA
  have HB := hide hB
  obtain ⟨p, c, rfl, -⟩ := hA.all_
  obtain ⟨q, d, rfl, -⟩ := hB.all_
  clear hA hB
  have H1 : Hid (achk A ≠ 0 → bothI A B = achk A) := fun h => if_pos h
  have H2 : Hid (achk A = 0 → achk B ≠ 0 → bothI A B = achk B) := fun h h2 => (if_neg (fun k => k h)).trans (if_pos h2)
  have H3 : Hid (achk A = 0 → achk B = 0 → A.n ≠ B.n → bothI A B = 22) := fun h h2 h3 => (if_neg (fun k => k h)).trans ((if_neg (fun k => k h2)).trans (if_pos h3))
  have H4 : Hid (achk A = 0 → achk B = 0 → A.n = B.n → bothI A B = 0) := fun h h2 h3 => (if_neg (fun k => k h)).trans ((if_neg (fun k => k h2)).trans (if_neg (fun k => k h3)))
  generalize bothI A B = res at H1 H2 H3 H4 ⊢
  have hb1 := lt_of_heap (heap_alloc_new w (.cells #[.int .i64 A.n, .slice p A.L c] 24))
  have ha := heap_alloc_new w (.cells #[.int .i64 A.n, .slice p A.L c] 24)
  have HE1 := hide (((Ext.refl w).alloc (.cells #[.int .i64 A.n, .slice p A.L c] 24)).alloc (.cells #[.int .i64 B.n, .slice q B.L d] 24))
  have hA1 := (Below.heap_alloc (w.alloc (.cells #[.int .i64 A.n, .slice p A.L c] 24)) (.cells #[.int .i64 B.n, .slice q B.L d] 24) _ hb1).trans ha
  have hB1 := heap_alloc_new (w.alloc (.cells #[.int .i64 A.n, .slice p A.L c] 24)) (.cells #[.int .i64 B.n, .slice q B.L d] 24)
  rw [World.size_alloc] at hB1
  have HA1 := hide hA1
  have HB1 := hide hB1
  obtain ⟨W1, hW1⟩ : ∃ W1, (w.alloc (.cells #[.int .i64 A.n, .slice p A.L c] 24)).alloc (.cells #[.int .i64 B.n, .slice q B.L d] 24) = W1 := ⟨_, rfl⟩
  rw [hW1] at HE1 HA1 HB1
  have HW1 := hide hW1
  clear hb1 ha hA1 hB1 hW1
  go_enter Try.func32, Try.ntmps32
  go_wp2_with fail
  rw [HW1.out]
  refine (check_any A _ W1 (HA.out.ext HE1.out) hmA).mono ?_
  rintro e w2 ⟨rfl, hE2⟩
  have HA2 := hide ((hE2.b.block _ (lt_of_heap HA1.out)).trans HA1.out)
  have HB2 := hide ((hE2.b.block _ (lt_of_heap HB1.out)).trans HB1.out)
  have HE2 := hide (HE1.out.trans hE2)
  clear hE2 HA1 HB1 HE1 HW1
  by_cases ha0 : achk A = 0
  case neg =>
    have hd : (achk A != 0) = true := by simp [ha0]
    obtain rfl := H1.out ha0
    clear ha0 H1 H2 H3 H4
    go_wp2_with fail
    go_ret
    exact ⟨rfl, HE2.out⟩
  case pos =>
  have HZ1 := hide ha0
  rw [ha0]
  clear ha0
  have b0 := dcell HB2.out 0
  have b1 := dcell HB2.out 1
  have bz := lt_of_heap HB2.out
  go_wp2_with fail
  refine (check_any B _ w2 (HB.out.ext HE2.out) hmB).mono ?_
  rintro e w3 ⟨rfl, hE3⟩
  have HA3 := hide ((hE3.b.block _ (lt_of_heap HA2.out)).trans HA2.out)
  have HB3 := hide ((hE3.b.block _ (lt_of_heap HB2.out)).trans HB2.out)
  have HE3 := hide (HE2.out.trans hE3)
  clear hE3 HA2 HB2 HE2 b0 b1 bz
  by_cases hb0 : achk B = 0
  case neg =>
    have hd : (achk B != 0) = true := by simp [hb0]
    obtain rfl := H2.out HZ1.out hb0
    clear hb0 H1 H2 H3 H4
    go_wp2_with fail
    go_ret
    exact ⟨rfl, HE3.out⟩
  case pos =>
  have HZ2 := hide hb0
  rw [hb0]
  clear hb0
  have a0 := dcell HA3.out 0
  have az := lt_of_heap HA3.out
  have b0 := dcell HB3.out 0
  have bz := lt_of_heap HB3.out
  by_cases hn : A.n = B.n
  · have hd : (A.n != B.n) = false := by simp [hn]
    obtain rfl := H4.out HZ1.out HZ2.out hn
    clear hn H1 H2 H3 H4
    go_wp2_with fail
    go_ret
    exact ⟨rfl, HE3.out⟩
  · have hd : (A.n != B.n) = true := by simp [hn]
    obtain rfl := H3.out HZ1.out HZ2.out hn
    clear hn H1 H2 H3 H4
    go_wp2_with fail
    go_ret
    exact ⟨rfl, HE3.out⟩
end Go.Proofs.Ytmkmgimmlohamaa
