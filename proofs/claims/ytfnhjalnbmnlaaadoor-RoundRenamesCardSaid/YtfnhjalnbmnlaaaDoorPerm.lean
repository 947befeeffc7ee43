/-
  Checks of permutations (permutation.Check, roundtableref02.Check).
  Conditions: as each theorem states.
-/
import Derived.Test.YtfnhjalnbmnlaaaDoorGSpec
import Derived.Test.YtfnhjalnbmnlaaaDoorOwned
namespace Go.Proofs.YtfnhjalnbmnlaaaDoor
open Go.RowKit
attribute [local go_sem] Oper.semAt_some

/-- Is v among the first i? -/
def seenB (l : List Int) (i : Nat) (v : Int) : Bool := (List.range i).any fun k => l.getD k 0 == v
theorem seenB_zero (l : List Int) (v : Int) : seenB l 0 v = false := rfl
theorem seenB_succ (l : List Int) (i : Nat) (v : Int) : seenB l (i + 1) v = (seenB l i v || l.getD i 0 == v) := by
  unfold seenB; rw [List.range_succ, List.any_append]; simp
def permAt (l : List Int) (i : Nat) : Int := if l.getD i 0 < 0 ∨ (l.length : Int) ≤ l.getD i 0 then 2 else if seenB l i (l.getD i 0) then 7 else 0
def permE (l : List Int) : Int := if l.length < 1 ∨ 5 < l.length then 2 else firstErr (permAt l) l.length
theorem permE_bad {l : List Int} (h : l.length < 1 ∨ 5 < l.length) : permE l = 2 := if_pos h
theorem permE_end {l : List Int} (h : ¬ (l.length < 1 ∨ 5 < l.length)) (hi : ∀ i, i < l.length → permAt l i = 0) : permE l = 0 := by unfold permE; rw [if_neg h]; exact firstErr_end hi
theorem permE_at {l : List Int} {k : Nat} (h : ¬ (l.length < 1 ∨ 5 < l.length)) (hk : k < l.length) (hi : ∀ i, i < k → permAt l i = 0) (he : permAt l k ≠ 0) : permE l = permAt l k := by unfold permE; rw [if_neg h]; exact firstErr_at hk hi he
/-- What a permutation is. -/
structure PermOk (l : List Int) : Prop where
  n1 : 1 ≤ l.length
  n5 : l.length ≤ 5
  bd : ∀ i, i < l.length → 0 ≤ l.getD i 0 ∧ l.getD i 0 < l.length
  inj : ∀ i j, i < l.length → j < i → l.getD j 0 ≠ l.getD i 0
theorem permE_ok {l : List Int} (h : permE l = 0) : PermOk l := by
  unfold permE at h
  by_cases h0 : l.length < 1 ∨ 5 < l.length
  · rw [if_pos h0] at h; omega
  rw [if_neg h0] at h
  have h1 := firstErr_zero.1 h
  refine ⟨by omega, by omega, fun i hi => ?_, fun i j hi hj => ?_⟩
  · have := h1 i hi
    unfold permAt at this
    by_cases h2 : l.getD i 0 < 0 ∨ (l.length : Int) ≤ l.getD i 0
    · rw [if_pos h2] at this; omega
    · omega
  · have := h1 i hi
    unfold permAt at this
    by_cases h2 : l.getD i 0 < 0 ∨ (l.length : Int) ≤ l.getD i 0
    · rw [if_pos h2] at this; omega
    · rw [if_neg h2] at this
      intro he
      have hs : seenB l i (l.getD i 0) = true := by
        unfold seenB; simp only [List.any_eq_true, List.mem_range, beq_iff_eq]; exact ⟨j, hj, he⟩
      rw [if_pos hs] at this
      omega
theorem number_any (n : Nat) (w : World) : Calls Tryd.prog 98 #[.int .i64 n] w fun e w' => e = .returned (.int .i64 (if n < 1 ∨ 5 < n then 2 else 0)) ∧ w' = w := by
  by_cases h1 : n < 1
  · obtain rfl : n = 0 := by omega
    go_enter Tryd.func98, Tryd.ntmps98
    go_wp2
    go_ret
    simp
  · by_cases h2 : 5 < n
    · have h3 : (5 : Int) < n := by omega
      have h4 : ¬ (n : Int) < 1 := by omega
      have HR : Hid ((if n < 1 ∨ 5 < n then (2 : Int) else 0) = 2) := if_pos (.inr h2)
      rw [HR.out]
      clear h1 h2
      go_enter Tryd.func98, Tryd.ntmps98
      go_wp2
      go_ret
      simp
    · have h3 : ¬ (5 : Int) < n := by omega
      have h4 : ¬ (n : Int) < 1 := by omega
      have HR : Hid ((if n < 1 ∨ 5 < n then (2 : Int) else 0) = 0) := if_neg (by omega)
      rw [HR.out]
      clear h1 h2
      go_enter Tryd.func98, Tryd.ntmps98
      go_wp2
      go_ret
      simp
/-- The block of the numbers seen. -/
def SeenBox (l : List Int) (W : World) (b i : Nat) : Prop := W.heap[b]? = some (.cells #[.bool (seenB l i 0), .bool (seenB l i 1), .bool (seenB l i 2), .bool (seenB l i 3), .bool (seenB l i 4)] 132 (0, 0))
theorem SeenBox.at_ {l : List Int} {W : World} {b i : Nat} (h : SeenBox l W b i) {v : Nat} (hv : v < 5) : W.cell? ⟨b, v, none⟩ = some (.bool (seenB l i v)) ∧ W.frozen? ⟨b, v, none⟩ = false := by
  refine ⟨?_, frozen_of h⟩
  rw [cell_of_row _ _ _ _ _ _ h]
  obtain rfl | rfl | rfl | rfl | rfl : v = 0 ∨ v = 1 ∨ v = 2 ∨ v = 3 ∨ v = 4 := by omega
  all_goals rfl
theorem SeenBox.set {l : List Int} {W : World} {b i v : Nat} (h : SeenBox l W b i) (hv : v < 5) (hx : l.getD i 0 = v) : SeenBox l (W.setCell ⟨b, v, none⟩ (.bool true)) b (i + 1) := by
  have := heap_set (j := v) h (.bool true)
  unfold SeenBox
  rw [this]
  congr 2
  simp only [seenB_succ, hx]
  obtain rfl | rfl | rfl | rfl | rfl : v = 0 ∨ v = 1 ∨ v = 2 ∨ v = 3 ∨ v = 4 := by omega
  all_goals simp
set_option maxRecDepth 16000 in
set_option maxHeartbeats 1000000 in
theorem pmcheck_any (l : List Int) (u : Value) (w : World) (hl : Row icells 1 w u l) : Calls Tryd.prog 61 #[u] w fun e w' => e = .returned (.int .i64 (permE l)) ∧ Ext w w' := by
  obtain ⟨p, c, rfl, hc, hlen, hat⟩ := hl.int_all
  have HAT := hide hat
  have HNU := hide (fun W => number_any l.length W)
  clear hl hat
  by_cases h0 : l.length < 1 ∨ 5 < l.length
  · rw [permE_bad h0]
    have HN2 : Hid (∀ W, Calls Tryd.prog 98 #[.int .i64 l.length] W fun e w' => e = .returned (.int .i64 2) ∧ w' = W) := fun W => by
      have := HNU.out W; rwa [if_pos h0] at this
    clear h0
    go_enter Tryd.func61, Tryd.ntmps61
    go_wp2_with (go_at_call 98; refine (HN2.out _).mono ?_; rintro e w' ⟨rfl, rfl⟩)
    go_ret
    exact ⟨rfl, Ext.refl _⟩
  · have HN2 : Hid (∀ W, Calls Tryd.prog 98 #[.int .i64 l.length] W fun e w' => e = .returned (.int .i64 0) ∧ w' = W) := fun W => by
      have := HNU.out W; rwa [if_neg h0] at this
    have HEND := hide (permE_end (l := l) h0)
    have HERR := hide (fun k hk hi he => permE_at (l := l) (k := k) h0 hk hi he)
    have hl5 : l.length ≤ 5 := by omega
    have HPA := hide (fun i => show permAt l i = if l.getD i 0 < 0 ∨ (l.length : Int) ≤ l.getD i 0 then 2 else if seenB l i (l.getD i 0) then 7 else 0 from rfl)
    generalize permE l = res at HEND HERR ⊢
    generalize permAt l = pa at HEND HERR HPA
    clear h0
    go_enter Tryd.func61, Tryd.ntmps61
    go_wp2_with (go_at_call 98; refine (HN2.out _).mono ?_; rintro e w' ⟨rfl, rfl⟩)
    have HB : Hid (SeenBox l (w'.alloc (.cells #[.bool false, .bool false, .bool false, .bool false, .bool false] 132)) w'.heap.size 0) := heap_alloc_new w' _
    have HE : Hid (Ext w' (w'.alloc (.cells #[.bool false, .bool false, .bool false, .bool false, .bool false] 132))) := (Ext.refl w').alloc _
    generalize w'.alloc (.cells #[.bool false, .bool false, .bool false, .bool false, .bool false] 132) = W at HB HE ⊢
    go_loopw [15] (fun x V => ∃ i : Nat, i ≤ l.length ∧ x = .int .i64 i ∧ Hid (Ext w' V) ∧ Hid (SeenBox l V w'.heap.size i) ∧ Hid (∀ j, j < i → pa j = 0)) (fun x _ => l.length - (intOf x).toNat)
    case atStart => exact ⟨0, by omega, rfl, HE, HB, fun j hj => by omega⟩
    case round =>
      clear HB HE
      obtain ⟨i, hi, rfl, HE, HB, HJ⟩ := hrel
      by_cases hlt : i < l.length
      · obtain ⟨b, o, rfl, hb, hat⟩ := HAT.out (by omega)
        have hx := hat i hlt _ HE.out
        have hbz : b < wr.heap.size := Nat.lt_of_lt_of_le hb HE.out.size
        have hpa := HPA.out i
        have HER := hide (HERR.out i hlt HJ.out)
        have HSET := hide (fun (v : Nat) hv (hxv : l.getD i 0 = (v : Int)) => HB.out.set (v := v) hv hxv)
        generalize l.getD i 0 = x at hx hpa HSET
        clear hat
        by_cases h1 : x < 0
        · have HR : Hid (res = 2) := by
            have h2 : pa i = 2 := by rw [hpa, if_pos (.inl h1)]
            have := HER.out (by rw [h2]; decide)
            rwa [h2] at this
          clear hpa
          go_wp2_with fail
          go_ret
          exact ⟨ret_int HR.out.symm, HE.out⟩
        by_cases h2 : (l.length : Int) ≤ x
        · have HR : Hid (res = 2) := by
            have h2 : pa i = 2 := by rw [hpa, if_pos (.inr h2)]
            have := HER.out (by rw [h2]; decide)
            rwa [h2] at this
          clear hpa
          go_wp2_with fail
          go_ret
          exact ⟨ret_int HR.out.symm, HE.out⟩
        obtain ⟨v, rfl⟩ := Int.eq_ofNat_of_zero_le (show 0 ≤ x by omega)
        rw [if_neg (by omega)] at hpa
        have hv5 : (v : Int) < 5 := by omega
        obtain ⟨hs, hf⟩ := HB.out.at_ (v := v) (by omega)
        have hz := lt_of_heap HB.out
        have HSET := hide (HSET.out v (by omega) rfl)
        cases hsb : seenB l i (v : Int) with
        | true =>
          rw [hsb] at hs hpa
          have HR : Hid (res = 7) := by
            have h2 : pa i = 7 := by rw [hpa]; rfl
            have := HER.out (by rw [h2]; decide)
            rwa [h2] at this
          clear hpa hsb
          go_wp2_with fail
          go_ret
          exact ⟨ret_int HR.out.symm, HE.out⟩
        | false =>
          rw [hsb] at hs hpa
          have HJ2 : Hid (∀ j, j < i + 1 → pa j = 0) := fun j hj => by
            by_cases e : j = i
            · subst e; rw [hpa]; rfl
            · exact HJ.out j (by omega)
          have HE2 := hide (HE.out.setCell (p := ⟨w'.heap.size, v, none⟩) (Nat.le_refl _) (.bool true))
          clear hpa hsb
          go_wp2_with fail
          go_roundw
          case rel => exact ⟨i + 1, by omega, by go_num, HE2, HSET, HJ2⟩
          case measure => simp [intOf]; omega
      · obtain rfl : i = l.length := by omega
        have HR := hide (HEND.out HJ.out)
        go_wp2_with fail
        go_ret
        exact ⟨ret_int HR.out.symm, HE.out⟩
end Go.Proofs.YtfnhjalnbmnlaaaDoor
