/-
  The references' Few and Both of law 20.
  Conditions: as each theorem states.
-/
import Derived.Test.YtmkmgimmlohamaaIncU
import Derived.Test.YtmkmgimmlohamaaAdvRef3
namespace Go.Proofs.Ytmkmgimmlohamaa
open Go.RowKit
attribute [local go_sem] Oper.semAt_some

set_option maxRecDepth 16000 in
theorem rfew2_any (A B : Adv) (u v : Value) (w : World) (hA : AdvRep w u A) (hB : AdvRep w v B) :
    Calls Try.prog 10 #[u, v] w fun e w' => e = .returned (.bool (afew A && afew B)) ∧ Ext w w' := by
  have HA := hide hA
  have HB := hide hB
  obtain ⟨p, c, rfl, -⟩ := hA.all_
  obtain ⟨q, d, rfl, -⟩ := hB.all_
  clear hA hB
  have HN := hide (TwoBox.new A B p c q d w)
  have HE1 := hide (((Ext.refl w).alloc (.cells #[.int .i64 A.n, .slice p A.L c] 24)).alloc (.cells #[.int .i64 B.n, .slice q B.L d] 24))
  obtain ⟨W1, hW1⟩ : ∃ W1, (w.alloc (.cells #[.int .i64 A.n, .slice p A.L c] 24)).alloc (.cells #[.int .i64 B.n, .slice q B.L d] 24) = W1 := ⟨_, rfl⟩
  rw [hW1] at HN HE1
  have HW1 := hide hW1
  clear hW1
  go_enter Try.func10, Try.ntmps10
  go_wp2_with fail
  rw [HW1.out]
  refine (rfew_any A _ W1 (HA.out.ext HE1.out)).mono ?_
  rintro e w2 ⟨rfl, hE2⟩
  have HN2 := hide (HN.out.ext hE2)
  have HE2 := hide (HE1.out.trans hE2)
  clear hE2 HN HE1 HW1
  cases hb : afew A with
  | false =>
    go_wp2_with fail
    go_ret
    exact ⟨by rw [hb]; rfl, HE2.out⟩
  | true =>
    obtain ⟨z0, a0, a1, z1, b0, b1⟩ := HN2.out.cells
    go_wp2_with fail
    refine (rfew_any B _ w2 (HB.out.ext HE2.out)).mono ?_
    rintro e w3 ⟨rfl, hE3⟩
    have HE3 := hide (HE2.out.trans hE3)
    clear z0 a0 a1 z1 b0 b1 hE3
    go_wp2_with fail
    go_ret
    exact ⟨by rw [hb]; rfl, HE3.out⟩
set_option maxRecDepth 16000 in
theorem rboth_any (A B : Adv) (u v : Value) (w : World) (hA : AdvRep w u A) (hB : AdvRep w v B) :
    Calls Try.prog 26 #[u, v] w fun e w' => e = .returned (.int .i64 (bothI A B)) ∧ Ext w w' := by
  have HA := hide hA
  have HB := hide hB
  obtain ⟨p, c, rfl, -⟩ := hA.all_
  obtain ⟨q, d, rfl, -⟩ := hB.all_
  clear hA hB
  have HN := hide (TwoBox.new A B p c q d w)
  have HE1 := hide (((Ext.refl w).alloc (.cells #[.int .i64 A.n, .slice p A.L c] 24)).alloc (.cells #[.int .i64 B.n, .slice q B.L d] 24))
  obtain ⟨W1, hW1⟩ : ∃ W1, (w.alloc (.cells #[.int .i64 A.n, .slice p A.L c] 24)).alloc (.cells #[.int .i64 B.n, .slice q B.L d] 24) = W1 := ⟨_, rfl⟩
  rw [hW1] at HN HE1
  have HW1 := hide hW1
  clear hW1
  have H1 : Hid (achk A ≠ 0 → bothI A B = achk A) := fun h => if_pos h
  have H2 : Hid (achk A = 0 → achk B ≠ 0 → bothI A B = achk B) := fun h h2 => (if_neg (fun k => k h)).trans (if_pos h2)
  have H3 : Hid (achk A = 0 → achk B = 0 → A.n ≠ B.n → bothI A B = 22) := fun h h2 h3 => (if_neg (fun k => k h)).trans ((if_neg (fun k => k h2)).trans (if_pos h3))
  have H4 : Hid (achk A = 0 → achk B = 0 → A.n = B.n → bothI A B = 0) := fun h h2 h3 => (if_neg (fun k => k h)).trans ((if_neg (fun k => k h2)).trans (if_neg (fun k => k h3)))
  generalize bothI A B = res at H1 H2 H3 H4 ⊢
  go_enter Try.func26, Try.ntmps26
  go_wp2_with fail
  rw [HW1.out]
  refine (racheck_any A _ W1 (HA.out.ext HE1.out)).mono ?_
  rintro e w2 ⟨rfl, hE2⟩
  have HN2 := hide (HN.out.ext hE2)
  have HE2 := hide (HE1.out.trans hE2)
  clear hE2 HN HE1 HW1
  by_cases ha0 : achk A = 0
  case neg =>
    have hd : (achk A != 0) = true := by simp [ha0]
    obtain rfl := H1.out ha0
    clear ha0 H1 H2 H3 H4
    go_wp2_with fail
    go_ret
    exact ⟨rfl, HE2.out⟩
  case pos =>
  have HZ1 := hide ha0
  rw [ha0]
  clear ha0
  obtain ⟨z0, a0, a1, z1, b0, b1⟩ := HN2.out.cells
  go_wp2_with fail
  refine (racheck_any B _ w2 (HB.out.ext HE2.out)).mono ?_
  rintro e w3 ⟨rfl, hE3⟩
  have HN3 := hide (HN2.out.ext hE3)
  have HE3 := hide (HE2.out.trans hE3)
  clear hE3 HN2 HE2 z0 a0 a1 z1 b0 b1
  by_cases hb0 : achk B = 0
  case neg =>
    have hd : (achk B != 0) = true := by simp [hb0]
    obtain rfl := H2.out HZ1.out hb0
    clear hb0 H1 H2 H3 H4
    go_wp2_with fail
    go_ret
    exact ⟨rfl, HE3.out⟩
  case pos =>
  have HZ2 := hide hb0
  rw [hb0]
  clear hb0
  obtain ⟨z0, a0, a1, z1, b0, b1⟩ := HN3.out.cells
  by_cases hn : A.n = B.n
  · have hd : (A.n != B.n) = false := by simp [hn]
    obtain rfl := H4.out HZ1.out HZ2.out hn
    clear hn H1 H2 H3 H4
    go_wp2_with fail
    go_ret
    exact ⟨rfl, HE3.out⟩
  · have hd : (A.n != B.n) = true := by simp [hn]
    obtain rfl := H3.out HZ1.out HZ2.out hn
    clear hn H1 H2 H3 H4
    go_wp2_with fail
    go_ret
    exact ⟨rfl, HE3.out⟩
end Go.Proofs.Ytmkmgimmlohamaa
