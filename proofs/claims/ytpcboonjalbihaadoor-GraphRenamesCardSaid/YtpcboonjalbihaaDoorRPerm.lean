/-
  The reference's check of a permutation.
  Conditions: none.
-/
import Derived.Test.YtpcboonjalbihaaDoorPermQ
namespace Go.Proofs.YtpcboonjalbihaaDoor
open Go.RowKit
attribute [local go_sem] Oper.semAt_some

theorem seenB_true {l : List Int} {i : Nat} {x : Int} (h : ∃ k, k < i ∧ l.getD k 0 = x) : seenB l i x = true := by
  obtain ⟨k, hk, he⟩ := h
  unfold seenB
  exact List.any_eq_true.2 ⟨k, List.mem_range.2 hk, by simpa using he⟩
set_option maxRecDepth 16000 in
set_option maxHeartbeats 1000000 in
theorem rpmcheck_any (l : List Int) (u : Value) (w : World) (hl : Row icells 1 w u l) : Calls Tryd.prog 55 #[u] w fun e w' => e = .returned (.int .i64 (permE l)) ∧ Ext w w' := by
  obtain ⟨p, c, rfl, hc, hlen, hat⟩ := hl.int_all
  have HAT := hide hat
  clear hl hat
  by_cases h0 : l.length < 1 ∨ 5 < l.length
  · rw [permE_bad h0]
    by_cases h1 : l.length < 1
    · have h1' : (l.length : Int) < 1 := by omega
      clear h0 h1
      go_enter Tryd.func55, Tryd.ntmps55
      go_wp2_with fail
      go_ret
      exact ⟨rfl, Ext.refl _⟩
    · have h1' : ¬ (l.length : Int) < 1 := by omega
      have h2' : (5 : Int) < l.length := by omega
      clear h0 h1
      go_enter Tryd.func55, Tryd.ntmps55
      go_wp2_with fail
      go_ret
      exact ⟨rfl, Ext.refl _⟩
  · have HEND := hide (permE_end (l := l) h0)
    have HERR := hide (fun k hk hi he => permE_at (l := l) (k := k) h0 hk hi he)
    have hl5 : l.length ≤ 5 := by omega
    have h1' : ¬ (l.length : Int) < 1 := by omega
    have h2' : ¬ (5 : Int) < l.length := by omega
    have HPA := hide (fun i => show permAt l i = if l.getD i 0 < 0 ∨ (l.length : Int) ≤ l.getD i 0 then 2 else if seenB l i (l.getD i 0) then 7 else 0 from rfl)
    generalize permE l = res at HEND HERR ⊢
    generalize permAt l = pa at HEND HERR HPA
    clear h0
    go_enter Tryd.func55, Tryd.ntmps55
    go_wp2_with fail
    go_loopw [3] (fun x V => ∃ i : Nat, i ≤ l.length ∧ x = .int .i64 i ∧ Hid (Ext w V) ∧ Hid (∀ j, j < i → pa j = 0)) (fun x _ => l.length - (intOf x).toNat)
    case atStart => exact ⟨0, by omega, rfl, Ext.refl _, fun j hj => by omega⟩
    case round =>
      obtain ⟨i, hi, rfl, HE, HJ⟩ := hrel
      by_cases hlt : i < l.length
      · obtain ⟨b, o, rfl, hb, hat⟩ := HAT.out (by omega)
        have hx := hat i hlt _ HE.out
        have hbz : b < wr.heap.size := Nat.lt_of_lt_of_le hb HE.out.size
        have hpa := HPA.out i
        have HER := hide (HERR.out i hlt HJ.out)
        have HX := hide (fun W hE => hat i hlt W hE)
        have HY := hide (fun k (hk : k < l.length) W hE => hat k hk W hE)
        have HS1 := hide (fun k => seenB_succ l k (l.getD i 0))
        have HS2 := hide (fun (h : ∃ k, k < i ∧ l.getD k 0 = l.getD i 0) => seenB_true h)
        generalize l.getD i 0 = x at hx hpa HX HS1 HS2
        clear hat
        by_cases h1 : x < 0
        · have HR : Hid (res = 2) := by
            have h2 : pa i = 2 := by rw [hpa, if_pos (.inl h1)]
            have := HER.out (by rw [h2]; decide)
            rwa [h2] at this
          clear hpa
          go_wp2_with fail
          go_ret
          exact ⟨ret_int HR.out.symm, HE.out⟩
        by_cases h2 : (l.length : Int) ≤ x
        · have HR : Hid (res = 2) := by
            have h2 : pa i = 2 := by rw [hpa, if_pos (.inr h2)]
            have := HER.out (by rw [h2]; decide)
            rwa [h2] at this
          clear hpa
          go_wp2_with fail
          go_ret
          exact ⟨ret_int HR.out.symm, HE.out⟩
        rw [if_neg (by omega)] at hpa
        have HPI := hide hpa
        clear hpa
        go_wp2_with fail
        clear hx hbz
        obtain ⟨wo, rfl⟩ : ∃ wo : World, wo = wr := ⟨_, rfl⟩
        go_loopw [4] (fun y V => ∃ k : Nat, k ≤ i ∧ y = .int .i64 k ∧ Hid (Ext w V) ∧ Hid (seenB l k x = false)) (fun y _ => i - (intOf y).toNat)
        case atStart => exact ⟨0, by omega, rfl, HE, rfl⟩
        case round =>
          clear HE
          obtain ⟨k, hk, rfl, HE, HS⟩ := hrel
          by_cases hkt : k < i
          · have hy := HY.out k (by omega) _ HE.out
            have hx := HX.out _ HE.out
            have hbz : b < wr.heap.size := Nat.lt_of_lt_of_le hb HE.out.size
            have HSK := hide (HS1.out k)
            have HST := hide (fun h => HS2.out ⟨k, hkt, h⟩)
            generalize l.getD k 0 = y at hy HSK HST
            by_cases hyx : y = x
            · have HR : Hid (res = 7) := by
                have h2 : pa i = 7 := by rw [HPI.out, HST.out hyx]; rfl
                have := HER.out (by rw [h2]; decide)
                rwa [h2] at this
              subst hyx
              go_wp2_with fail
              refine wp_region_ext (by kernel_rfl) (by kernel_rfl) ?_
              repeat (go_big_quiet_step (fail))
              refine wpQuiet_nil ?_
              rintro w9 ⟨⟨_, hE9⟩, rfl⟩
              go_wp2_with fail
              go_ret
              exact ⟨ret_int HR.out.symm, HE.out.trans hE9⟩
            · have hd : (y == x) = false := by simp [hyx]
              have HS3 : Hid (seenB l (k + 1) x = false) := by show _ = _; rw [HSK.out, HS.out, hd]; rfl
              clear hyx
              go_wp2_with fail
              refine wp_region_ext (by kernel_rfl) (by kernel_rfl) ?_
              repeat (go_big_quiet_step (fail))
              refine wpQuiet_nil ?_
              rintro w9 ⟨⟨_, hE9⟩, rfl⟩
              have HE9 := hide (HE.out.trans hE9)
              clear hE9
              go_wp2_with fail
              go_roundw
              case rel => exact ⟨k + 1, by omega, by go_num, HE9, HS3⟩
              case measure => simp [intOf]; omega
          · obtain rfl : k = i := by omega
            have HJ2 : Hid (∀ j, j < k + 1 → pa j = 0) := fun j hj => by
              by_cases e : j = k
              · subst e; rw [HPI.out, HS.out]; rfl
              · exact HJ.out j (by omega)
            go_wp2_with fail
            go_roundw
            case rel => exact ⟨k + 1, by omega, by go_num, HE, HJ2⟩
            case measure => simp [intOf]; omega
      · obtain rfl : i = l.length := by omega
        have HR := hide (HEND.out HJ.out)
        go_wp2_with fail
        go_ret
        exact ⟨ret_int HR.out.symm, HE.out⟩
end Go.Proofs.YtpcboonjalbihaaDoor
