/-
  slices.Repeat of a list of one.
  Conditions: as each theorem states.
-/
import Derived.Test.YtnhgdjiljjpgmaaMul
import Derived.Laws.CopyOwn
import Derived.Deep.RegionLaw
import Derived.Deep.OwnRows
namespace Go.Proofs.Ytnhgdjiljjpgmaa
open Go.RowKit
attribute [local go_sem] Oper.semAt_some

/-- k ones, and zeros. -/
def onesTo (L k : Nat) : List Value := List.replicate k (.int .i64 1) ++ List.replicate (L - k) (.int .i64 0)
theorem int_size : (Try.prog.info? 3).map (·.size) = some 1 := by kernel_rfl

theorem onesTo_len {L k : Nat} (h : k ≤ L) : (onesTo L k).length = L := by simp [onesTo]; omega
theorem onesTo_copy {L k : Nat} (h : k ≤ L) : (onesTo L k).take k ++ (List.replicate (min k (L - k)) (Value.int .i64 1) ++ (onesTo L k).drop (k + min k (L - k))) = onesTo L (k + min k (L - k)) := by
  have e1 : (onesTo L k).take k = List.replicate k (.int .i64 1) := by simp [onesTo]
  have e2 : (onesTo L k).drop (k + min k (L - k)) = List.replicate (L - (k + min k (L - k))) (.int .i64 0) := by
    unfold onesTo
    rw [List.drop_append, List.drop_eq_nil_of_le (by simp)]
    simp only [List.length_replicate, List.drop_replicate, List.nil_append]
    congr 1; omega
  rw [e1, e2, ← List.append_assoc, List.replicate_append_replicate]
  rfl
theorem onesTo_at {L k j : Nat} (h : j < k) : (onesTo L k)[j]? = some (.int .i64 1) := by
  unfold onesTo; rw [List.getElem?_append_left (by simpa using h)]; simp [h]

set_option maxRecDepth 8000 in
set_option maxHeartbeats 2000000 in
theorem repeat_any (g L : Nat) (w : World) (hg : g < w.heap.size) (hx : w.cell? ⟨g, 0, none⟩ = some (.int .i64 1)) (hL1 : 1 ≤ L) (hL2 : L ≤ 256) :
    Calls Try.prog 83 #[.slice (some ⟨g, 0, none⟩) 1 1, .int .i64 L] w fun e w' => e = .returned (.slice (some ⟨w.heap.size, 0, none⟩) L L) ∧ w'.heap[w.heap.size]? = some (.cells (onesTo L L).toArray 3 (0, 0)) ∧ Ext w w' := by
  have hmk := fun W => run_make_row' (P := Try.prog) 90 3 (.int .i64 0) 8 Try.underlying90 int_info rfl .i64 .i64 L (by omega) (by omega) W
  have hml := fun W => mul_one L W (by omega)
  have d1 : decide ((L : Int) < 0) = false := decide_eq_false (by omega)
  go_enter Try.func83, Try.ntmps83
  go_wp2_with fail
  refine (hml w).mono ?_
  rintro e w1 ⟨rfl, hw⟩
  subst hw
  have hrow : (w1.alloc (.cells (madeCells #[.int .i64 0] L) 3)).heap[w1.heap.size]? = some (.cells (madeCells #[.int .i64 0] L) 3 (0, 0)) := heap_alloc_new w1 _
  have HROW := hide hrow
  have hsz : (madeCells #[Value.int .i64 0] L).size = L := size_madeCells _ _
  clear hrow
  have d2 : decide ((9223372036854775807 : Int) < L) = false := decide_eq_false (by omega)
  have hn1 : [Value.int .i64 1].length = Nat.min 1 L := by show 1 = min 1 L; omega
  have hsrc : ∀ j v, [Value.int .i64 1][j]? = some v → (w1.alloc (.cells (madeCells #[.int .i64 0] L) 3)).cell? ((⟨g, 0, none⟩ : Addr).add j) = some v := fun j v hj => by
    cases j with
    | zero => simp at hj; subst hj; rw [show (⟨g, 0, none⟩ : Addr).add 0 = ⟨g, 0, none⟩ from rfl, cell_alloc_old _ hg]; exact hx
    | succ j => simp at hj
  have hfit : 0 + [Value.int .i64 1].length ≤ (madeCells #[Value.int .i64 0] L).size := by simp [hsz]; omega
  have hone : ∀ v ∈ [Value.int .i64 1], v.oneCell' = true := by simp [Value.oneCell']
  have HN1 := hide hn1
  have HSRC := hide hsrc
  have HFIT := hide hfit
  have HONE := hide hone
  clear hn1 hsrc hfit hone hsz
  go_wp2_with (with_reducible refine wpList_copy_own rfl (.tmp 31) (.tmp 32) 90 90 rfl 3 Try.underlying90 int_size w1.heap.size 0 L L ⟨g, 0, none⟩ 1 1 rfl rfl _ 3 HROW.out [.int .i64 1] HN1.out HSRC.out HFIT.out HONE.out ?_)
  obtain ⟨w3, hw3⟩ : ∃ w3, (w1.alloc (.cells (madeCells #[.int .i64 0] L) 3)).setRow w1.heap.size (Value.int .i64 1 :: (madeCells #[Value.int .i64 0] L).toList.tail).toArray = w3 := ⟨_, rfl⟩
  have hr3 : w3.heap[w1.heap.size]? = some (.cells (onesTo L 1).toArray 3 (0, 0)) := by
    rw [← hw3, setRow_heap _ _ _ _ _ _ HROW.out, toList_madeCells_one]
    obtain ⟨n, rfl⟩ : ∃ n, L = n + 1 := ⟨L - 1, by omega⟩
    simp [onesTo, List.replicate_succ]
  have hE3 : Ext w1 w3 := by rw [← hw3]; exact ⟨below_setRow (((Ext.refl w1).alloc _).b) (Nat.le_refl _) _⟩
  rw [hw3]
  clear hw3 HROW HN1 HSRC HFIT HONE
  go_loopw [8] (fun x wr => ∃ k : Nat, 1 ≤ k ∧ k ≤ L ∧ x = .int .i64 k ∧ wr.heap[w1.heap.size]? = some (.cells (onesTo L k).toArray 3 (0, 0)) ∧ Ext w1 wr) (fun x _ => L - (intOf x).toNat)
  case atStart => exact ⟨1, by omega, by omega, rfl, hr3, hE3⟩
  case round =>
    obtain ⟨k, hk1, hk, rfl, hrow, hE⟩ := hrel
    have HR := hide hrow
    clear hrow hr3 hE3
    by_cases hlt : k < L
    · have hLk : k + min k (L - k) ≤ L := by omega
      go_wp2_with fail
      have HCP := hide (onesTo_copy hk)
      have hcl : (List.replicate (min k (L - k)) (Value.int .i64 1)).length = Nat.min k (L - k) := List.length_replicate
      have hm1 : 1 ≤ min k (L - k) := by omega
      have hm2 : k + min k (L - k) ≤ L := by omega
      have hm3 : min k (L - k) ≤ k := by omega
      have hcl2 : (List.replicate (min k (L - k)) (Value.int .i64 1)).length = min k (L - k) := List.length_replicate
      have HC : Hid ((List.replicate (min k (L - k)) (Value.int .i64 1)).length = Nat.min k (L - k)) := hcl
      clear hcl
      generalize min k (L - k) = m at HCP HC hcl2 hm1 hm2 hm3 hLk
      have hpos : ∀ wx : World, wx.heap[w1.heap.size]? = some (.cells (onesTo L k).toArray 3 (0, 0)) → ∀ j v, (List.replicate m (Value.int .i64 1))[j]? = some v → wx.cell? ((⟨w1.heap.size, 0, none⟩ : Addr).add j) = some v := fun wx hx j v hj => by
        have hjl : j < m := by
          rcases Nat.lt_or_ge j m with h | h
          · exact h
          · rw [List.getElem?_eq_none (by simpa using h)] at hj; cases hj
        have e1 : v = .int .i64 1 := by rw [List.getElem?_replicate, if_pos hjl] at hj; exact (Option.some.inj hj).symm
        rw [add_lit, cell_of_row _ _ _ _ _ _ hx, List.getElem?_toArray, onesTo_at (by omega), e1]
      have hfit : k + (List.replicate m (Value.int .i64 1)).length ≤ (onesTo L k).length := by rw [onesTo_len hk, List.length_replicate]; omega
      have hone : ∀ v ∈ List.replicate m (Value.int .i64 1), v.oneCell' = true := fun v hv => by rw [List.eq_of_mem_replicate hv]; rfl
      have hcl := HC.out
      have HL2 := hide hcl2
      clear HC hcl2
      have HCL := hide hcl
      have HPOS := hide hpos
      have HFIT := hide hfit
      have HONE := hide hone
      have b1 : (0 : Int) ≤ (k : Int) := by omega
      have b2 : (k : Int) ≤ (L : Int) := by omega
      have b3 : (L : Int) ≤ 256 := by omega
      clear hcl hpos hfit hone
      refine wp_region_any (by kernel_rfl) ?_
      change wpAny _ _ _ _ _ _ _ (World.drew _)
      refine wpAny_take (i := 0) (v := .int .i64 k) rfl (by kernel_rfl) (by kernel_rfl) (by kernel_rfl) (fun _ _ _ h => h) (Or.inl ⟨by rfl, fun w => rfl⟩) ?_
      refine wpAny_take (i := 1) (v := .slice (some ⟨w1.heap.size, 0, none⟩) L L) rfl (by kernel_rfl) (by kernel_rfl) (by kernel_rfl) (fun _ _ _ h => h) (Or.inl ⟨by rfl, fun w => rfl⟩) ?_
      refine wpAny_take (i := 2) (v := .int .i64 k) rfl (by kernel_rfl) (by kernel_rfl) (by kernel_rfl) (fun _ _ _ h => h) (Or.inl ⟨by rfl, fun w => rfl⟩) ?_
      refine wpAny_take (i := 4) (v := .slice (some ⟨w1.heap.size, 0, none⟩) L L) rfl (by kernel_rfl) (by kernel_rfl) (by kernel_rfl) (fun _ _ _ h => h) (Or.inl ⟨by rfl, fun w => rfl⟩) ?_
      refine wpAny_take (i := 5) (v := .int .i64 k) rfl (by kernel_rfl) (by kernel_rfl) (by kernel_rfl) (fun _ _ _ h => h) (Or.inl ⟨by rfl, fun w => rfl⟩) ?_
      refine wpAny_take (i := 3) (v := .slice (some ⟨w1.heap.size, k, none⟩) (L - k) (L - k)) rfl (by kernel_rfl) (by kernel_rfl) (by kernel_rfl) (fun _ _ _ h => h) (Or.inl ⟨by rfl, fun w => by go_simp; omega⟩) ?_
      refine wpAny_take (i := 6) (v := .slice (some ⟨w1.heap.size, 0, none⟩) k L) rfl (by kernel_rfl) (by kernel_rfl) (by kernel_rfl) (fun _ _ _ h => h) (Or.inl ⟨by rfl, fun w => by go_simp⟩) ?_
      refine wpAny_ready (rs := [7]) (by kernel_rfl) (by simp) ?_
      refine AllReady.cons rfl (fun K hK => ?_) AllReady.nil
      refine step_copy_splice rfl (.tmp 41) (.tmp 44) 90 90 rfl 3 Try.underlying90 int_size (some ⟨w1.heap.size, k, none⟩) (some ⟨w1.heap.size, 0, none⟩) (L - k) (L - k) k L ?_ ?_ w1.heap.size k (onesTo L k) 3 HR.out (List.replicate m (Value.int .i64 1)) HCL.out (fun _ => ⟨rfl, ⟨w1.heap.size, 0, none⟩, rfl, HPOS.out _ HR.out⟩) HFIT.out HONE.out w1.heap.size w1 hE.drew.b (Nat.le_refl _) ?_
      · go_simp
      · go_simp
      intro w4 hg4 hb4
      refine hK _ _ ?_
      clear hK K
      rw [HL2.out]
      dsimp only [goInt]
      refine wpAny_take (i := 8) (v := .int .i64 (k + m : Nat)) rfl ?_ ?_ ?_ ?_ ?_ ?_
      · kernel_rfl
      · kernel_rfl
      · kernel_rfl
      · exact (fun _ _ _ h => h)
      · refine Or.inl ⟨by simp [Region.wanted], fun w => ?_⟩

        go_simp
        exact Go.IntWalk.i64_in _ (by omega)
      refine wpAny_take (i := 9) (v := .int .i64 (k + m : Nat)) rfl (by kernel_rfl) (by kernel_rfl) (by kernel_rfl) (fun _ _ _ h => h) (Or.inl ⟨by simp [Region.wanted], fun w => by go_simp⟩) ?_
      refine wpAny_done (by kernel_rfl) ?_ _
      go_simp
      go_wp2_with fail
      have hr4 : w4.heap[w1.heap.size]? = some (.cells (onesTo L (k + m)).toArray 3 (0, 0)) := by
        have := hg4.out
        rw [splice, HL2.out, HCP.out] at this
        exact this
      exact ⟨⟨k + m, by omega, by omega, by simp, hr4, ⟨hb4⟩⟩, by simp [intOf]; omega⟩
    · obtain rfl : k = L := by omega
      go_wp2_with fail
      go_ret
      exact ⟨rfl, HR.out, hE⟩
end Go.Proofs.Ytnhgdjiljjpgmaa
