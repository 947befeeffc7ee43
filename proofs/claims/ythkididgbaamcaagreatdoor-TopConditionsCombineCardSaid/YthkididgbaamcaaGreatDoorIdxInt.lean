/-
  slices.ContainsFunc over numbers, at the closures that this seat hands to it.
  Conditions: as each theorem states.
-/
import Derived.Test.YthkididgbaamcaaGreatDoorOwned
namespace Go.Proofs.YthkididgbaamcaaGreatDoor
open Go.RowKit

set_option maxHeartbeats 1000000 in
theorem idx_wide (P : Int → Bool) (hF : ∀ x W, Calls Tryz.prog 99 #[.int .i64 x] W fun e w' => e = .returned (.bool (P x)) ∧ w' = W) (l : List Int) (u : Value) (w : World) (hl : Row icells 1 w u l) :
    Calls Tryz.prog 93 #[u, .func (.func 99) #[] #[]] w fun e w' => e = .returned (.int .i64 (firstAt (fun i => P (l.getD i 0)) l.length)) ∧ Ext w w' := by
  have HC := hide hF
  obtain ⟨p, c, rfl, hc, hlen, hat⟩ := hl.int_all
  have HA := hide hat
  clear hl hat hF
  have H1 := hide (fun k hk => firstAt_at (P := fun i => P (l.getD i 0)) (n := l.length) (k := k) hk)
  have H2 := hide (firstAt_none (P := fun i => P (l.getD i 0)) (n := l.length))
  generalize firstAt (fun i => P (l.getD i 0)) l.length = res at H1 H2 ⊢
  generalize l.length = n at *
  generalize hf : l.getD = f at *
  clear hf
  go_enter Tryz.func93, Tryz.ntmps93
  go_wp2_with fail
  go_loopw [8] (fun x wr => ∃ i : Nat, i ≤ n ∧ x = .int .i64 i ∧ (∀ j, j < i → P (f j 0) = false) ∧ Ext w wr) (fun x _ => n - (intOf x).toNat)
  case atStart => exact ⟨0, by omega, rfl, fun j hj => by omega, Ext.refl _⟩
  case round =>
    obtain ⟨i, hi, rfl, hj, hE⟩ := hrel
    have HJ := hide hj
    clear hj
    by_cases hlt : i < n
    · obtain ⟨b, o, rfl, hb, hat⟩ := HA.out (by omega)
      have hcx := hat i hlt _ hE
      clear hat
      have HF := hide (H1.out i hlt HJ.out)
      have HN : Hid (P (f i 0) = false → ∀ j, j < i + 1 → P (f j 0) = false) := fun h j hj => by
        by_cases e : j = i
        · subst e; exact h
        · exact HJ.out j (by omega)
      have HC2 := hide (HC.out (f i 0) wr)
      generalize P (f i 0) = r at HF HN HC2
      generalize f i 0 = x at hcx HC2
      go_wp2_with fail
      refine HC2.out.mono ?_
      rintro e w2 ⟨rfl, hw2⟩
      have hE2 : Ext w w2 := by rw [hw2]; exact hE
      clear hw2
      cases r
      · have HR := hide (HN.out rfl)
        go_wp2_with fail
        go_roundw
        case rel => exact ⟨i + 1, by omega, by go_num, HR.out, hE2⟩
        case measure => simp [intOf]; omega
      · have HR := hide (HF.out rfl)
        go_wp2_with fail
        go_ret
        exact ⟨ret_int HR.out.symm, hE2⟩
    · obtain rfl : i = n := by omega
      have HR := hide (H2.out HJ.out)
      go_wp2_with fail
      go_ret
      exact ⟨ret_int HR.out.symm, hE⟩
theorem contains_wide (P : Int → Bool) (hF : ∀ x W, Calls Tryz.prog 99 #[.int .i64 x] W fun e w' => e = .returned (.bool (P x)) ∧ w' = W) (l : List Int) (u : Value) (w : World) (hl : Row icells 1 w u l) :
    Calls Tryz.prog 61 #[u, .func (.func 99) #[] #[]] w fun e w' => e = .returned (.bool (l.any P)) ∧ Ext w w' := by
  have HI := hide (idx_wide P hF l u w hl)
  have HD := hide ((firstAt_any (fun i => P (l.getD i 0)) l.length).trans (range_any l 0 P))
  obtain ⟨p, c, rfl, -⟩ := hl.int_all
  clear hl hF
  generalize l.any P = res at HD ⊢
  generalize firstAt (fun i => P (l.getD i 0)) l.length = k at HI HD
  go_enter Tryz.func61, Tryz.ntmps61
  go_wp2_with fail
  refine HI.out.mono ?_
  rintro e w2 ⟨rfl, hE2⟩
  have hd := HD.out
  go_wp2_with fail
  go_ret
  exact ⟨rfl, hE2⟩

set_option maxHeartbeats 1000000 in
theorem idx_size (P : Int → Bool) (hF : ∀ x W, Calls Tryz.prog 62 #[.int .i64 x] W fun e w' => e = .returned (.bool (P x)) ∧ w' = W) (l : List Int) (u : Value) (w : World) (hl : Row icells 1 w u l) :
    Calls Tryz.prog 93 #[u, .func (.func 62) #[] #[]] w fun e w' => e = .returned (.int .i64 (firstAt (fun i => P (l.getD i 0)) l.length)) ∧ Ext w w' := by
  have HC := hide hF
  obtain ⟨p, c, rfl, hc, hlen, hat⟩ := hl.int_all
  have HA := hide hat
  clear hl hat hF
  have H1 := hide (fun k hk => firstAt_at (P := fun i => P (l.getD i 0)) (n := l.length) (k := k) hk)
  have H2 := hide (firstAt_none (P := fun i => P (l.getD i 0)) (n := l.length))
  generalize firstAt (fun i => P (l.getD i 0)) l.length = res at H1 H2 ⊢
  generalize l.length = n at *
  generalize hf : l.getD = f at *
  clear hf
  go_enter Tryz.func93, Tryz.ntmps93
  go_wp2_with fail
  go_loopw [8] (fun x wr => ∃ i : Nat, i ≤ n ∧ x = .int .i64 i ∧ (∀ j, j < i → P (f j 0) = false) ∧ Ext w wr) (fun x _ => n - (intOf x).toNat)
  case atStart => exact ⟨0, by omega, rfl, fun j hj => by omega, Ext.refl _⟩
  case round =>
    obtain ⟨i, hi, rfl, hj, hE⟩ := hrel
    have HJ := hide hj
    clear hj
    by_cases hlt : i < n
    · obtain ⟨b, o, rfl, hb, hat⟩ := HA.out (by omega)
      have hcx := hat i hlt _ hE
      clear hat
      have HF := hide (H1.out i hlt HJ.out)
      have HN : Hid (P (f i 0) = false → ∀ j, j < i + 1 → P (f j 0) = false) := fun h j hj => by
        by_cases e : j = i
        · subst e; exact h
        · exact HJ.out j (by omega)
      have HC2 := hide (HC.out (f i 0) wr)
      generalize P (f i 0) = r at HF HN HC2
      generalize f i 0 = x at hcx HC2
      go_wp2_with fail
      refine HC2.out.mono ?_
      rintro e w2 ⟨rfl, hw2⟩
      have hE2 : Ext w w2 := by rw [hw2]; exact hE
      clear hw2
      cases r
      · have HR := hide (HN.out rfl)
        go_wp2_with fail
        go_roundw
        case rel => exact ⟨i + 1, by omega, by go_num, HR.out, hE2⟩
        case measure => simp [intOf]; omega
      · have HR := hide (HF.out rfl)
        go_wp2_with fail
        go_ret
        exact ⟨ret_int HR.out.symm, hE2⟩
    · obtain rfl : i = n := by omega
      have HR := hide (H2.out HJ.out)
      go_wp2_with fail
      go_ret
      exact ⟨ret_int HR.out.symm, hE⟩
theorem contains_size (P : Int → Bool) (hF : ∀ x W, Calls Tryz.prog 62 #[.int .i64 x] W fun e w' => e = .returned (.bool (P x)) ∧ w' = W) (l : List Int) (u : Value) (w : World) (hl : Row icells 1 w u l) :
    Calls Tryz.prog 61 #[u, .func (.func 62) #[] #[]] w fun e w' => e = .returned (.bool (l.any P)) ∧ Ext w w' := by
  have HI := hide (idx_size P hF l u w hl)
  have HD := hide ((firstAt_any (fun i => P (l.getD i 0)) l.length).trans (range_any l 0 P))
  obtain ⟨p, c, rfl, -⟩ := hl.int_all
  clear hl hF
  generalize l.any P = res at HD ⊢
  generalize firstAt (fun i => P (l.getD i 0)) l.length = k at HI HD
  go_enter Tryz.func61, Tryz.ntmps61
  go_wp2_with fail
  refine HI.out.mono ?_
  rintro e w2 ⟨rfl, hE2⟩
  have hd := HD.out
  go_wp2_with fail
  go_ret
  exact ⟨rfl, hE2⟩

set_option maxHeartbeats 1000000 in
theorem idx_value (P : Int → Bool) (hF : ∀ x W, Calls Tryz.prog 67 #[.int .i64 x] W fun e w' => e = .returned (.bool (P x)) ∧ w' = W) (l : List Int) (u : Value) (w : World) (hl : Row icells 1 w u l) :
    Calls Tryz.prog 93 #[u, .func (.func 67) #[] #[]] w fun e w' => e = .returned (.int .i64 (firstAt (fun i => P (l.getD i 0)) l.length)) ∧ Ext w w' := by
  have HC := hide hF
  obtain ⟨p, c, rfl, hc, hlen, hat⟩ := hl.int_all
  have HA := hide hat
  clear hl hat hF
  have H1 := hide (fun k hk => firstAt_at (P := fun i => P (l.getD i 0)) (n := l.length) (k := k) hk)
  have H2 := hide (firstAt_none (P := fun i => P (l.getD i 0)) (n := l.length))
  generalize firstAt (fun i => P (l.getD i 0)) l.length = res at H1 H2 ⊢
  generalize l.length = n at *
  generalize hf : l.getD = f at *
  clear hf
  go_enter Tryz.func93, Tryz.ntmps93
  go_wp2_with fail
  go_loopw [8] (fun x wr => ∃ i : Nat, i ≤ n ∧ x = .int .i64 i ∧ (∀ j, j < i → P (f j 0) = false) ∧ Ext w wr) (fun x _ => n - (intOf x).toNat)
  case atStart => exact ⟨0, by omega, rfl, fun j hj => by omega, Ext.refl _⟩
  case round =>
    obtain ⟨i, hi, rfl, hj, hE⟩ := hrel
    have HJ := hide hj
    clear hj
    by_cases hlt : i < n
    · obtain ⟨b, o, rfl, hb, hat⟩ := HA.out (by omega)
      have hcx := hat i hlt _ hE
      clear hat
      have HF := hide (H1.out i hlt HJ.out)
      have HN : Hid (P (f i 0) = false → ∀ j, j < i + 1 → P (f j 0) = false) := fun h j hj => by
        by_cases e : j = i
        · subst e; exact h
        · exact HJ.out j (by omega)
      have HC2 := hide (HC.out (f i 0) wr)
      generalize P (f i 0) = r at HF HN HC2
      generalize f i 0 = x at hcx HC2
      go_wp2_with fail
      refine HC2.out.mono ?_
      rintro e w2 ⟨rfl, hw2⟩
      have hE2 : Ext w w2 := by rw [hw2]; exact hE
      clear hw2
      cases r
      · have HR := hide (HN.out rfl)
        go_wp2_with fail
        go_roundw
        case rel => exact ⟨i + 1, by omega, by go_num, HR.out, hE2⟩
        case measure => simp [intOf]; omega
      · have HR := hide (HF.out rfl)
        go_wp2_with fail
        go_ret
        exact ⟨ret_int HR.out.symm, hE2⟩
    · obtain rfl : i = n := by omega
      have HR := hide (H2.out HJ.out)
      go_wp2_with fail
      go_ret
      exact ⟨ret_int HR.out.symm, hE⟩
theorem contains_value (P : Int → Bool) (hF : ∀ x W, Calls Tryz.prog 67 #[.int .i64 x] W fun e w' => e = .returned (.bool (P x)) ∧ w' = W) (l : List Int) (u : Value) (w : World) (hl : Row icells 1 w u l) :
    Calls Tryz.prog 61 #[u, .func (.func 67) #[] #[]] w fun e w' => e = .returned (.bool (l.any P)) ∧ Ext w w' := by
  have HI := hide (idx_value P hF l u w hl)
  have HD := hide ((firstAt_any (fun i => P (l.getD i 0)) l.length).trans (range_any l 0 P))
  obtain ⟨p, c, rfl, -⟩ := hl.int_all
  clear hl hF
  generalize l.any P = res at HD ⊢
  generalize firstAt (fun i => P (l.getD i 0)) l.length = k at HI HD
  go_enter Tryz.func61, Tryz.ntmps61
  go_wp2_with fail
  refine HI.out.mono ?_
  rintro e w2 ⟨rfl, hE2⟩
  have hd := HD.out
  go_wp2_with fail
  go_ret
  exact ⟨rfl, hE2⟩

end Go.Proofs.YthkididgbaamcaaGreatDoor
