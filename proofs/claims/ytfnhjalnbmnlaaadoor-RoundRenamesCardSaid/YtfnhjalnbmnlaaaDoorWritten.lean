/-
  The text of a graph (graph.written, Format).
  Conditions: the table of math/bits lies in the heap (Tz).
-/
import Derived.Test.YtfnhjalnbmnlaaaDoorText
import Derived.Test.YtfnhjalnbmnlaaaDoorGOps
namespace Go.Proofs.YtfnhjalnbmnlaaaDoor
open Go.RowKit
attribute [local go_sem] Oper.semAt_some

abbrev scell (l : List UInt8) : List Value := [.string ⟨l.toArray⟩]
theorem string_info : (Tryd.prog.info? 9).map (fun i => (i.zero, i.size, i.bytes)) = some (some (.string ⟨#[]⟩), 1, 16) := by kernel_rfl
theorem string_one (x : List UInt8) : ∀ u ∈ scell x, u.oneCell' = true := by intro u hu; simp only [List.mem_singleton] at hu; rw [hu]; rfl
/-- The texts of the first p rows. -/
def partsG (g : Gr) (p : Nat) : List (List UInt8) := (List.range p).map fun i => txt (g.r i)
theorem partsG_succ (g : Gr) (p : Nat) : partsG g (p + 1) = partsG g p ++ [txt (g.r p)] := by unfold partsG; rw [List.range_succ, List.map_append]; rfl
theorem partsG_len (g : Gr) (p : Nat) : (partsG g p).length = p := by simp [partsG]
/-- The text of a graph. -/
def wrt (g : Gr) : List UInt8 := Lib.join (partsG g g.n.toNat) [32]
theorem txt_len (s : Nat) : (txt s).length ≤ 5 := by unfold txt; rw [List.length_map]; exact el_len s
theorem join_len (sep : List UInt8) : ∀ (xs : List (List UInt8)), (∀ x ∈ xs, x.length ≤ 5) → (Lib.join xs sep).length ≤ xs.length * (5 + sep.length)
  | [], _ => by simp [Lib.join_nil]
  | x :: r, h => by
    rw [Lib.join_cons, List.length_append]
    have h1 := h x (by simp)
    have h2 : (Lib.joinTail sep r).length ≤ r.length * (5 + sep.length) := by
      have key : ∀ (r : List (List UInt8)), (∀ y ∈ r, y.length ≤ 5) → (Lib.joinTail sep r).length ≤ r.length * (5 + sep.length) := by
        intro r
        induction r with
        | nil => intro _; simp [Lib.joinTail]
        | cons y r ih =>
          intro hr
          have h3 := ih fun z hz => hr z (by simp [hz])
          have h4 := hr y (by simp)
          unfold Lib.joinTail at h3 ⊢
          rw [List.map_cons, List.flatten_cons, List.length_append, List.length_append, List.length_cons, Nat.succ_mul]
          omega
      exact key r fun y hy => h y (by simp [hy])
    rw [List.length_cons, Nat.succ_mul]; omega
set_option maxRecDepth 8000 in
set_option maxHeartbeats 1000000 in
theorem written_any (g : Gr) {n : Nat} (hg : Wf g n) (w : World) (hT : Tz w) : Calls Tryd.prog 104 #[g.v] w fun e w' => e = .returned (.string ⟨(wrt g).toArray⟩) ∧ Ext w w' := by
  have HX := hide (fun p W (hE : Ext w W) => text_any (g.r p) (hg.lt32 p) W (hT.ext hE))
  have HP := hide (partsG_succ g)
  have HPL := hide (partsG_len g)
  have HP0 := hide (show partsG g 0 = [] from rfl)
  have HWR : Hid (wrt g = Lib.join (partsG g n) [32]) := by show _ = _; unfold wrt; rw [hg.toNat]
  have HJL := hide (join_len [32] (partsG g n) (fun x hx => by obtain ⟨i, _, rfl⟩ := List.mem_map.1 hx; exact txt_len _))
  have HN := hide hg.n_eq
  have HG := hide hg.row
  have hn5 := hg.n5
  have hn1 := hg.n1
  generalize partsG g = pt at HP HPL HP0 HWR HJL
  generalize wrt g = res at HWR ⊢
  clear hg hT
  go_enter Tryd.func104, Tryd.ntmps104
  go_wp2_with fail
  have HB : Hid (GrBox (w.alloc (gobj g)) w.heap.size g) := gr_new w g
  have HE : Hid (Ext w (w.alloc (gobj g))) := (Ext.refl w).alloc _
  have HO : Hid (Own scell 1 (w.alloc (gobj g)) (w.heap.size + 1) 9 (.slice none 0 0) (pt 0)) := by show Own _ _ _ _ _ _ _; rw [HP0.out]; exact Own.nil _ _ _ (fun _ => rfl)
  have HF : Hid (∃ q c, Value.slice none 0 0 = .slice q (pt 0).length c) := ⟨none, 0, by rw [HPL.out]⟩
  generalize w.alloc (gobj g) = W at HB HE HO ⊢
  rw [HN.out]
  go_loopw [3, 7] (fun u x V => ∃ p : Nat, p ≤ n ∧ x = .int .i64 p ∧ Hid (Ext w V) ∧ Hid (GrBox V w.heap.size g) ∧ Hid (Own scell 1 V (w.heap.size + 1) 9 u (pt p)) ∧ ∃ q c, u = .slice q p c) (fun _ x _ => n - (intOf x).toNat)
  case atStart => exact ⟨0, by omega, rfl, HE, HB, HO, none, 0, rfl⟩
  case round =>
    clear HB HE HO HF
    obtain ⟨p, hp, rfl, HE, HB, HO, q, c, rfl⟩ := hrel
    by_cases hlt : p < n
    · have hp5 : (p : Int) < 5 := by omega
      obtain ⟨r1, -⟩ := HB.out.row (p := p) (by omega)
      rw [HG.out] at r1
      have z0 := lt_of_heap HB.out
      go_wp2_with fail
      refine (HX.out p _ HE.out).mono ?_
      rintro e V ⟨rfl, hE⟩
      have HE2 := hide (HE.out.trans hE)
      have HB2 := hide (HB.out.ext hE)
      have HO2 := hide (HO.out.ext hE)
      have HP2 := hide (HP.out p)
      have HPL2 := hide (HPL.out p)
      generalize txt (g.r p) = tx at HP2 ⊢
      clear hE r1 z0
      go_wp2_with (at_builtin; refine wpList_append1 rfl (.tmp 10) (.tmp 16) 88 rfl (w.heap.size + 1) 9 (.string ⟨#[]⟩) 1 16 Tryd.underlying88 string_info rfl (by decide) _ (pt p) tx V.heap.size rfl (HO2.out.alloc _) rfl (cell_new1 _ _ _) (string_one tx) (by have := HPL2.out; omega) (by decide) (by simp only [World.size_alloc]; have := HE2.out.size; omega) ?_; intro v' W6 hown' hg6 hf6; rw [HPL2.out] at hf6; obtain ⟨g7, c7, rfl, -⟩ := hf6)
      have hge : ∀ k, (Value.slice q p c).ownBlock = some k → w.heap.size + 1 ≤ k := HO2.out.block_ge
      have hE6 : Ext w W6 := (HE2.out.alloc _).grown hg6 (fun k hk => by have := hge k hk; omega)
      have hB6 : GrBox W6 w.heap.size g := (hg6.block _ (lt_of_heap (HB2.out.alloc _)) (fun he => by have := hge _ he.symm; omega)).trans (HB2.out.alloc _)
      exact ⟨⟨p + 1, by omega, by go_num, hE6, hB6, by show Own _ _ _ _ _ _ _; rw [HP2.out]; exact hown', _, _, rfl⟩, by simp [intOf]; omega⟩
    · obtain rfl : p = n := by omega
      go_wp2_with fail
      rcases HO.out.form with ⟨_, h0⟩ | ⟨g0, c0, hv, h1, h2, h3, h4⟩
      · have := HPL.out p; rw [h0] at this; simp at this; omega
      rw [HPL.out] at hv h3
      injection hv with e1 _ e2
      subst e1 e2
      have hj := Sstrings_Join g0 0 c ((pt p).map fun l => ⟨l.toArray⟩) ⟨#[32]⟩ wr (fun j x hx => by
        rw [List.getElem?_map] at hx
        cases hy : (pt p)[j]? with
        | none => rw [hy] at hx; cases hx
        | some y =>
          rw [hy] at hx
          injection hx with hx
          subst hx
          have := HO.out.2.cells (g := g0) rfl (j * 1 + 0) (.string ⟨y.toArray⟩) (by rw [flat_get HO.out.1 (pt p) j 0 y hy (by decide)]; rfl)
          rw [add_lit, Nat.mul_one, Nat.add_zero] at this
          rw [Nat.zero_add]; exact this) h2 (by rw [List.length_map, HPL.out]; omega) (by rw [List.length_map, HPL.out]; omega) (by
        rw [List.map_map]
        have h5 := HJL.out
        rw [HPL.out] at h5
        have h6 : p * (5 + ([32] : List UInt8).length) ≤ 5 * 6 := Nat.mul_le_mul hn5 (by decide)
        have h7 : List.map ((fun x : ByteArray => x.data.toList) ∘ fun l : List UInt8 => (⟨l.toArray⟩ : ByteArray)) (pt p) = pt p := by
          rw [show ((fun x : ByteArray => x.data.toList) ∘ fun l : List UInt8 => (⟨l.toArray⟩ : ByteArray)) = id from rfl, List.map_id]
        rw [h7]
        show (Lib.join (pt p) [32]).length ≤ _
        omega)
      rw [List.length_map, HPL.out, List.map_map, show ((fun x : ByteArray => x.data.toList) ∘ fun l : List UInt8 => (⟨l.toArray⟩ : ByteArray)) = id from rfl, List.map_id] at hj
      refine hj.mono ?_
      rintro e V ⟨rfl, hbe⟩
      have HE2 : Hid (Ext w V) := HE.out.trans ⟨hbe⟩
      have HW2 : Hid (res = Lib.join (pt p) (⟨#[32]⟩ : ByteArray).data.toList) := HWR.out
      clear hj hbe
      rw [← HW2.out]
      go_wp2_with fail
      go_ret
      exact ⟨rfl, HE2.out⟩
set_option maxHeartbeats 1000000 in
theorem format_ok (g : Gr) {n : Nat} (hg : Wf g n) (w : World) (hT : Tz w) : Calls Tryd.prog 82 #[g.v] w (RetV1 (.string ⟨(wrt g).toArray⟩, 0) w) := by
  have HC := hide (fun W => gcheck_any g W)
  rw [wf_chk hg] at HC
  have HK := hide (fun W (hE : Ext w W) => written_any g hg W (hT.ext hE))
  clear hg hT
  go_enter Tryd.func82, Tryd.ntmps82
  go_wp2_with fail
  have HB : Hid (GrBox (w.alloc (gobj g)) w.heap.size g) := gr_new w g
  have HE : Hid (Ext w (w.alloc (gobj g))) := (Ext.refl w).alloc _
  generalize w.alloc (gobj g) = W at HB HE ⊢
  refine (HC.out _).mono ?_
  rintro r w1 ⟨rfl, hE⟩
  have HB := hide (HB.out.ext hE)
  have HE := hide (HE.out.trans hE)
  clear hE
  obtain ⟨c0, c1, c2, c3, c4, c5, z0⟩ := HB.out.cells
  go_wp2_with fail
  refine (HK.out _ HE.out).mono ?_
  rintro r w2 ⟨rfl, hE⟩
  have HE := hide (HE.out.trans hE)
  clear hE c0 c1 c2 c3 c4 c5 z0
  go_wp2_with fail
  go_ret2
  exact ⟨rfl, HE.out⟩
end Go.Proofs.YtfnhjalnbmnlaaaDoor
