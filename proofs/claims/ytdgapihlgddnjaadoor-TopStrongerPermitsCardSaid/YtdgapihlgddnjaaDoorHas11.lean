/-
  Contract of the reference's 'Has' (roundtableref11): whether a vector is in a list.
  Conditions: as each theorem states.
-/
import Derived.Test.YtdgapihlgddnjaaDoorAw13
namespace Go.Proofs.YtdgapihlgddnjaaDoor
open Go.RowKit

theorem contains_at {α : Type} [DecidableEq α] {a : List (List α)} {b : List α} {i : Nat} (hi : i < a.length) (h : a.getD i [] = b) : decide (b ∈ a) = true := by
  rw [decide_eq_true_iff, ← h, List.getD_eq_getElem?_getD, List.getElem?_eq_getElem hi]
  exact List.getElem_mem hi
theorem contains_none {α : Type} [DecidableEq α] {a : List (List α)} {b : List α} (h : ∀ j, j < a.length → a.getD j [] ≠ b) : decide (b ∈ a) = false := by
  rw [decide_eq_false_iff_not]
  intro hm
  obtain ⟨j, hj, he⟩ := List.getElem_of_mem hm
  refine h j hj ?_
  rw [List.getD_eq_getElem?_getD, List.getElem?_eq_getElem hj]; exact he
set_option maxHeartbeats 1000000 in
theorem rhasv_any (a : List (List Int)) (b : List Int) (u v : Value) (w : World) (ha : Rows2 icells 1 w u a) (hb : Row icells 1 w v b) :
    Calls Tryd.prog 100 #[u, v] w fun e w' => e = .returned (.bool (decide (b ∈ a))) ∧ Ext w w' := by
  have HB := hide hb
  obtain ⟨p, c, rfl, hc, hl, hat⟩ := ha.sl_all
  obtain ⟨q, d, rfl, -⟩ := hb.int_all
  have HA := hide hat
  clear ha hb hat
  have H1 := hide (fun i => contains_at (a := a) (b := b) (i := i))
  have H2 := hide (contains_none (a := a) (b := b))
  generalize decide (b ∈ a) = res at H1 H2 ⊢
  generalize a.length = la at *
  generalize hfa : a.getD = fa at *
  clear hfa
  go_enter Tryd.func100, Tryd.ntmps100
  go_wp2_with fail
  go_loopw [5] (fun x wr => ∃ i : Nat, i ≤ la ∧ x = .int .i64 i ∧ (∀ j, j < i → fa j [] ≠ b) ∧ Ext w wr) (fun x _ => la - (intOf x).toNat)
  case atStart => exact ⟨0, by omega, rfl, fun j hj => by omega, Ext.refl _⟩
  case round =>
    obtain ⟨i, hi, rfl, hj, hE⟩ := hrel
    have HJ := hide hj
    clear hj
    by_cases hlt : i < la
    · obtain ⟨b1, o1, rfl, hb1, hat⟩ := HA.out (by omega)
      obtain ⟨q1, d1, hca, hra, hla⟩ := hat i hlt
      have hx := hca wr hE
      have HF := hide (H1.out i hlt)
      have HN : Hid (fa i [] ≠ b → ∀ j, j < i + 1 → fa j [] ≠ b) := fun h j hj => by
        by_cases e : j = i
        · subst e; exact h
        · exact HJ.out j (by omega)
      have HORD := hide (fun W (hW : Ext w W) => rorder_any _ _ _ _ W (hra.ext hW) (HB.out.ext hW))
      clear hat hca hra
      generalize fa i [] = x at hx HF HN HORD hla
      have HQ := hide (ordL_zero (a := x) (b := b))
      have hz1 := hE.size
      have hb1' : b1 < wr.heap.size := by omega
      generalize ordL x b = g at HORD HQ
      clear hz1
      by_cases hg : g = 0
      · have HR := hide (HF.out (HQ.out.1 hg))
        have hd : (g == 0) = true := by simp [hg]
        clear hg
        go_wp2_with fail
        refine (HORD.out _ hE).mono ?_
        rintro r w9 ⟨rfl, hE9⟩
        clear hx
        go_wp2_with fail
        go_ret
        exact ⟨ret_bool HR.out.symm, hE.trans hE9⟩
      · have HR := hide (HN.out (fun h => hg (HQ.out.2 h)))
        have hd : (g == 0) = false := by simp [hg]
        clear hg
        go_wp2_with fail
        refine (HORD.out _ hE).mono ?_
        rintro r w9 ⟨rfl, hE9⟩
        clear hx
        go_wp2_with fail
        go_roundw
        case rel => exact ⟨i + 1, by omega, by go_num, HR.out, hE.trans hE9⟩
        case measure => simp [intOf]; omega
    · obtain rfl : i = la := by omega
      have HR := hide (H2.out HJ.out)
      go_wp2_with fail
      go_ret
      exact ⟨ret_bool HR.out.symm, hE⟩
end Go.Proofs.YtdgapihlgddnjaaDoor
