/-
  The program's steps (adversary.Step, State, Allows).
  Conditions: as each theorem states.
-/
import Derived.Test.YtjgkgcjmcpgiaaaIndex
import Derived.Test.YtjgkgcjmcpgiaaaHeld
import Derived.Test.YtjgkgcjmcpgiaaaAdvRef5
namespace Go.Proofs.Ytjgkgcjmcpgiaaa
open Go.RowKit
attribute [local go_sem] Oper.semAt_some

theorem ents_all (A : Adv) (s : Nat) : ents A s (A.len s) = (A.st.getD s []).map fun m => (m.r, m.to) := by
  apply List.ext_getElem
  · simp [ents, Adv.len]
  · intro i h1 h2
    have h3 : i < (A.st.getD s []).length := by simpa using h2
    simp only [ents, List.getElem_map, List.getElem_range]
    have : A.mv s i = (A.st.getD s [])[i] := by show (A.st.getD s []).getD i default = _; rw [List.getD_eq_getElem?_getD, List.getElem?_eq_getElem h3]; rfl
    rw [this]
theorem alook_find (ms : List Mv) (r : Rd) : alook (ms.map fun m => (m.r, m.to)) r = (ms.find? fun m => req m.r r).map (·.to) := by
  induction ms with
  | nil => rfl
  | cons m ms ih =>
    simp only [List.map_cons, alook, List.find?_cons]
    by_cases h : r = m.r
    · rw [if_pos h, req_iff.2 h.symm]; rfl
    · rw [if_neg h]
      have : req m.r r = false := by cases hh : req m.r r; rfl; exact absurd (req_iff.1 hh).symm h
      rw [this]; exact ih
/-- What the table says is what the list says. -/
theorem alook_to {A : Adv} (h : achk A = 0) {s : Nat} (hs : s < A.L) (r : Rd) : (alook (ents A s (A.len s)) r).isSome = decide (0 ≤ toL (A.st.getD s []) r) ∧ (0 ≤ toL (A.st.getD s []) r → (alook (ents A s (A.len s)) r).getD 0 = toL (A.st.getD s []) r) := by
  rw [ents_all, alook_find]
  have hr := to_range h hs r
  unfold toL at hr ⊢
  cases hf : (A.st.getD s []).find? fun m => req m.r r with
  | none => simp
  | some m =>
    have hi : 0 ≤ m.to := by
      obtain ⟨i, hi, he⟩ := List.getElem_of_mem (List.mem_of_find?_eq_some hf)
      have h1 := (sound_of (achk_zero h).2.2.2.2.2.1 s hs i hi).1
      have : A.mv s i = m := by show (A.st.getD s []).getD i default = _; rw [List.getD_eq_getElem?_getD, List.getElem?_eq_getElem hi]; exact he
      rw [this] at h1; exact h1
    simp [hi]
theorem Tab.ext {W W' : World} {g B : Nat} {A : Adv} (h : Tab W g B A) (hE : Ext W W') : Tab W' g B A :=
  ⟨(hE.b.block _ (lt_of_heap h.1)).trans h.1, fun s hs => (h.2 s hs).of_block (hE.b.block _ (h.2 s hs).lt)⟩
theorem Tab.cell {W : World} {g B : Nat} {A : Adv} (h : Tab W g B A) {s : Nat} (hs : s < A.L) : W.cell? ⟨g, s, none⟩ = some (.map (some (B + s))) := by
  rw [cell_of_row _ _ _ _ _ _ h.1, tcells_at hs]; simp [hs]

set_option maxRecDepth 8000 in
set_option maxHeartbeats 4000000 in
theorem step_any (A : Adv) (v : Value) (s : Int) (r : Rd) (w : World) (hA : AdvRep w v A) (hM : movesN A ≤ 4611686018427387904) :
    Calls Try.prog 33 #[v, .int .i64 s, r.v] w fun e w' => e = .returned (.tuple #[.int .i64 (stepS A s r).1, .int .i64 (stepS A s r).2]) ∧ Ext w w' := by
  have HC := hide (fun W (hE : Ext w W) => check_any A v W (hA.ext hE) hM)
  have HX := hide (fun W (hE : Ext w W) h0 => index_any A v W (hA.ext hE) h0)
  obtain ⟨p, c, rfl, hc, hl, hat⟩ := hA.all_
  clear hA hat
  obtain ⟨⟨n, a, b, c1, d, e1⟩, f⟩ := r
  have HLK := hide (fun W bb l h => look_round ⟨⟨n, a, b, c1, d, e1⟩, f⟩ W bb l h)
  have HTO := hide (fun (h0 : achk A = 0) s (hs : s < A.L) => alook_to h0 hs ⟨⟨n, a, b, c1, d, e1⟩, f⟩)
  unfold stepS
  generalize hres : (if achk A = 0 then (if s < 0 ∨ (A.L : Int) ≤ s then ((0 : Int), (6 : Int)) else if 0 ≤ toL (A.st.getD s.toNat []) ⟨⟨n, a, b, c1, d, e1⟩, f⟩ then (toL (A.st.getD s.toNat []) ⟨⟨n, a, b, c1, d, e1⟩, f⟩, 0) else (0, 25)) else (0, achk A)) = res
  obtain ⟨r1, r2⟩ := res
  dsimp only [Rd.v]
  generalize hk : achk A = ck at hres HC HX HTO
  by_cases h1 : ck = 0
  · subst h1
    rw [if_pos rfl] at hres
    by_cases hs : s < 0
    · rw [if_pos (.inl hs)] at hres
      have HR := hide hres
      clear hres
      have hsd : decide (s < 0) = true := by simp [hs]
      go_enter Try.func33, Try.ntmps33
      go_wp2_with fail
      refine (HC.out _ (((Ext.refl w).alloc _).alloc _)).mono ?_
      rintro e w1 ⟨rfl, hE⟩
      obtain ⟨hc1, hf1⟩ := hE.rules
      go_wp2_with fail
      go_ret2
      exact ⟨ret_tup HR.out, (((Ext.refl w).alloc _).alloc _).trans hE⟩
    · by_cases hs2 : (A.L : Int) ≤ s
      · rw [if_pos (.inr hs2)] at hres
        have HR := hide hres
        clear hres
        have hsd : decide (s < 0) = false := decide_eq_false hs
        have hsd2 : decide ((A.L : Int) ≤ s) = true := by simp [hs2]
        go_enter Try.func33, Try.ntmps33
        go_wp2_with fail
        refine (HC.out _ (((Ext.refl w).alloc _).alloc _)).mono ?_
        rintro e w1 ⟨rfl, hE⟩
        obtain ⟨hc1, hf1⟩ := hE.rules
        go_wp2_with fail
        go_ret2
        exact ⟨ret_tup HR.out, (((Ext.refl w).alloc _).alloc _).trans hE⟩
      · rw [if_neg (by omega)] at hres
        obtain ⟨s, rfl⟩ := Int.eq_ofNat_of_zero_le (show 0 ≤ s by omega)
        rw [Int.toNat_natCast] at hres
        obtain ⟨ht1, ht2⟩ := HTO.out rfl s (by omega)
        have HR := hide hres
        clear hres hs
        have hsd2 : decide ((A.L : Int) ≤ s) = false := decide_eq_false hs2
        generalize toL (A.st.getD s []) ⟨⟨n, a, b, c1, d, e1⟩, f⟩ = to at HR ht1 ht2
        have HTA := hide ht1
        have HTB := hide ht2
        clear ht1 ht2
        go_enter Try.func33, Try.ntmps33
        go_wp2_with fail
        refine (HC.out _ (((Ext.refl w).alloc _).alloc _)).mono ?_
        rintro e w1 ⟨rfl, hE⟩
        obtain ⟨hc1, hf1⟩ := hE.rules
        have hE1 : Ext w w1 := (((Ext.refl w).alloc _).alloc _).trans hE
        have a0 : w1.cell? ⟨w.heap.size, 0, none⟩ = some (.int .i64 A.n) := by rw [hc1 _ _ (by simp; omega)]; simp [go_sem]
        have a1 : w1.cell? ⟨w.heap.size, 1, none⟩ = some (.slice p A.L c) := by rw [hc1 _ _ (by simp; omega)]; simp [go_sem]
        have b0 : w1.cell? ⟨w.heap.size + 1, 0, none⟩ = some (.int .i64 n) := by rw [hc1 _ _ (by simp)]; simp [go_sem]
        have b1 : w1.cell? ⟨w.heap.size + 1, 1, none⟩ = some (.int .i64 a) := by rw [hc1 _ _ (by simp)]; simp [go_sem]
        have b2 : w1.cell? ⟨w.heap.size + 1, 2, none⟩ = some (.int .i64 b) := by rw [hc1 _ _ (by simp)]; simp [go_sem]
        have b3 : w1.cell? ⟨w.heap.size + 1, 3, none⟩ = some (.int .i64 c1) := by rw [hc1 _ _ (by simp)]; simp [go_sem]
        have b4 : w1.cell? ⟨w.heap.size + 1, 4, none⟩ = some (.int .i64 d) := by rw [hc1 _ _ (by simp)]; simp [go_sem]
        have b5 : w1.cell? ⟨w.heap.size + 1, 5, none⟩ = some (.int .i64 e1) := by rw [hc1 _ _ (by simp)]; simp [go_sem]
        have b6 : w1.cell? ⟨w.heap.size + 1, 6, none⟩ = some (.int .i64 f) := by rw [hc1 _ _ (by simp)]; simp [go_sem]
        have hzz : w.heap.size + 1 < w1.heap.size := by have := hE.size; simp at this; omega
        have hzz0 : w.heap.size < w1.heap.size := by omega
        clear hc1 hf1 hE
        go_wp2_with fail
        refine wp_region_heldAll (fun w' => w'.cell? ⟨w.heap.size, 0, none⟩ = some (.int .i64 A.n) ∧ w'.cell? ⟨w.heap.size, 1, none⟩ = some (.slice p A.L c) ∧ w'.cell? ⟨w.heap.size + 1, 0, none⟩ = some (.int .i64 n) ∧ w'.cell? ⟨w.heap.size + 1, 1, none⟩ = some (.int .i64 a) ∧
            w'.cell? ⟨w.heap.size + 1, 2, none⟩ = some (.int .i64 b) ∧ w'.cell? ⟨w.heap.size + 1, 3, none⟩ = some (.int .i64 c1) ∧ w'.cell? ⟨w.heap.size + 1, 4, none⟩ = some (.int .i64 d) ∧ w'.cell? ⟨w.heap.size + 1, 5, none⟩ = some (.int .i64 e1) ∧ w'.cell? ⟨w.heap.size + 1, 6, none⟩ = some (.int .i64 f)) (by kernel_rfl) ?_
        intro w1d hw1d
        have hS := (show w1d.cell? ⟨w.heap.size, 0, none⟩ = some (.int .i64 A.n) ∧ w1d.cell? ⟨w.heap.size, 1, none⟩ = some (.slice p A.L c) ∧ w1d.cell? ⟨w.heap.size + 1, 0, none⟩ = some (.int .i64 n) ∧ w1d.cell? ⟨w.heap.size + 1, 1, none⟩ = some (.int .i64 a) ∧
            w1d.cell? ⟨w.heap.size + 1, 2, none⟩ = some (.int .i64 b) ∧ w1d.cell? ⟨w.heap.size + 1, 3, none⟩ = some (.int .i64 c1) ∧ w1d.cell? ⟨w.heap.size + 1, 4, none⟩ = some (.int .i64 d) ∧ w1d.cell? ⟨w.heap.size + 1, 5, none⟩ = some (.int .i64 e1) ∧ w1d.cell? ⟨w.heap.size + 1, 6, none⟩ = some (.int .i64 f) from by
          rw [hw1d]; exact ⟨a0, a1, b0, b1, b2, b3, b4, b5, b6⟩)
        have hE1d : Ext w1 w1d := by rw [hw1d]; exact (Ext.refl _).drew
        clear hw1d
        refine wpAnyT_take (i := 0) (.agg #[.int .i64 A.n, .slice p A.L c]) rfl (by kernel_rfl) (by kernel_rfl) (by kernel_rfl) (by simp [Region.wanted]) (fun V ⟨v0, v1, _⟩ => by go_simp) hS ?_
        refine wpAnyT_take (i := 2) (.int .i64 s) rfl (by kernel_rfl) (by kernel_rfl) (by kernel_rfl) (by simp [Region.wanted]) (fun V _ => by go_simp) hS ?_
        refine wpAnyT_take (i := 5) (.agg #[.int .i64 n, .int .i64 a, .int .i64 b, .int .i64 c1, .int .i64 d, .int .i64 e1, .int .i64 f]) rfl (by kernel_rfl) (by kernel_rfl) (by kernel_rfl) (by simp [Region.wanted]) (fun V ⟨_, _, v0, v1, v2, v3, v4, v5, v6⟩ => by go_simp) hS ?_
        simp only [Act.put, List.setIfInBounds_toArray, List.set_cons_zero, List.set_cons_succ]
        refine wpAnyT_one (i := 1) rfl (by kernel_rfl) (fun K hK => ?_)
        go_wp2_with fail
        refine (HX.out _ (hE1.trans hE1d) (by trivial)).mono ?_
        rintro e w2 ⟨⟨g, B, rfl, hT⟩, hE2⟩
        have hTC := hT.cell (s := s) (by omega)
        have hLK := HLK.out _ _ _ (hT.2 s (by omega))
        dsimp only [Rd.v] at hLK
        have hE3 := (hE1.trans hE1d).trans hE2
        have hE4 := hE1d.trans hE2
        have hS2 := (show w2.cell? ⟨w.heap.size, 0, none⟩ = some (.int .i64 A.n) ∧ w2.cell? ⟨w.heap.size, 1, none⟩ = some (.slice p A.L c) ∧ w2.cell? ⟨w.heap.size + 1, 0, none⟩ = some (.int .i64 n) ∧ w2.cell? ⟨w.heap.size + 1, 1, none⟩ = some (.int .i64 a) ∧
            w2.cell? ⟨w.heap.size + 1, 2, none⟩ = some (.int .i64 b) ∧ w2.cell? ⟨w.heap.size + 1, 3, none⟩ = some (.int .i64 c1) ∧ w2.cell? ⟨w.heap.size + 1, 4, none⟩ = some (.int .i64 d) ∧ w2.cell? ⟨w.heap.size + 1, 5, none⟩ = some (.int .i64 e1) ∧ w2.cell? ⟨w.heap.size + 1, 6, none⟩ = some (.int .i64 f) from
          ⟨(hE4.cell (p := ⟨w.heap.size, 0, none⟩) hzz0).trans a0, (hE4.cell (p := ⟨w.heap.size, 1, none⟩) hzz0).trans a1, (hE4.cell (p := ⟨w.heap.size + 1, 0, none⟩) hzz).trans b0, (hE4.cell (p := ⟨w.heap.size + 1, 1, none⟩) hzz).trans b1, (hE4.cell (p := ⟨w.heap.size + 1, 2, none⟩) hzz).trans b2,
            (hE4.cell (p := ⟨w.heap.size + 1, 3, none⟩) hzz).trans b3, (hE4.cell (p := ⟨w.heap.size + 1, 4, none⟩) hzz).trans b4, (hE4.cell (p := ⟨w.heap.size + 1, 5, none⟩) hzz).trans b5, (hE4.cell (p := ⟨w.heap.size + 1, 6, none⟩) hzz).trans b6⟩)
        go_wp2_with fail
        refine ⟨rfl, hK _ _ hS2 ?_⟩
        clear hK K
        refine wpAnyT_mono (S' := fun V => V = w2) (fun V hV => by rw [hV]; exact hS2) _ _ _ _ ?_
        have hI : (fun V => V = w2) w2 := rfl
        generalize hal : alook (ents A s (A.len s)) ⟨⟨n, a, b, c1, d, e1⟩, f⟩ = al at hLK
        have HAL := hide hal
        clear hal hS hS2
        refine wpAnyT_take (i := 3) (.pointer (some ⟨g, s, none⟩)) rfl (by kernel_rfl) (by kernel_rfl) (by kernel_rfl) (by simp [Region.wanted]) (fun V _ => by go_simp) hI ?_
        refine wpAnyT_take (i := 4) (.map (some (B + s))) rfl (by kernel_rfl) (by kernel_rfl) (by kernel_rfl) (by simp [Region.wanted]) (fun V hV => by subst hV; go_simp) hI ?_
        refine wpAnyT_take (i := 6) (.tuple #[.int .i64 (al.getD 0), .bool al.isSome]) rfl (by kernel_rfl) (by kernel_rfl) (by kernel_rfl) (by simp [Region.wanted]) (fun V hV => by subst hV; go_simp) hI ?_
        simp only [Act.put, List.setIfInBounds_toArray, List.set_cons_zero, List.set_cons_succ]
        refine wpAnyT_take (i := 7) (.tuple #[.int .i64 (al.getD 0), .bool al.isSome]) rfl (by kernel_rfl) (by kernel_rfl) (by kernel_rfl) (by simp [Region.wanted]) (fun V hV => by go_simp) hI ?_
        refine wpAnyT_take (i := 8) (.int .i64 (al.getD 0)) rfl (by kernel_rfl) (by kernel_rfl) (by kernel_rfl) (by simp [Region.wanted]) (fun V hV => by go_simp) hI ?_
        refine wpAnyT_take (i := 9) (.bool al.isSome) rfl (by kernel_rfl) (by kernel_rfl) (by kernel_rfl) (by simp [Region.wanted]) (fun V hV => by go_simp) hI ?_
        refine wpAnyT_take (i := 10) (.int .i64 (al.getD 0)) rfl (by kernel_rfl) (by kernel_rfl) (by kernel_rfl) (by simp [Region.wanted]) (fun V hV => by go_simp) hI ?_
        refine wpAnyT_take (i := 11) (.bool al.isSome) rfl (by kernel_rfl) (by kernel_rfl) (by kernel_rfl) (by simp [Region.wanted]) (fun V hV => by go_simp) hI ?_
        simp only [Act.put, List.setIfInBounds_toArray, List.set_cons_zero, List.set_cons_succ]
        refine wpAnyT_done (by kernel_rfl) ?_ _
        have h1 := HTA.out
        have h2 := HTB.out
        have HR0 := HR.out
        clear HTA HTB HTO HLK hLK HX HC HR hTC
        rw [HAL.out] at h1 h2
        clear HAL
        cases al with
        | none =>
          have h3 : ¬ 0 ≤ to := by simpa using h1.symm
          rw [if_neg h3] at HR0
          have HR := hide HR0
          clear h1 h2 h3 HR0
          dsimp only [Option.isSome, Option.getD]
          go_wp2_with fail
          go_ret2
          exact ⟨ret_tup HR.out, hE3⟩
        | some x =>
          have h3 : 0 ≤ to := by simpa using h1.symm
          rw [if_pos h3] at HR0
          obtain rfl : x = to := by simpa using h2 h3
          have HR := hide HR0
          clear h1 h2 h3 HR0
          dsimp only [Option.isSome, Option.getD]
          go_wp2_with fail
          go_ret2
          exact ⟨ret_tup HR.out, hE3⟩
  · rw [if_neg h1] at hres
    have HR := hide hres
    clear hres hk
    have hck : (ck != 0) = true := by simp [h1]
    clear h1
    go_enter Try.func33, Try.ntmps33
    go_wp2_with fail
    refine (HC.out _ (((Ext.refl w).alloc _).alloc _)).mono ?_
    rintro e w1 ⟨rfl, hE⟩
    obtain ⟨hc1, hf1⟩ := hE.rules
    go_wp2_with fail
    go_ret2
    exact ⟨ret_tup HR.out, (((Ext.refl w).alloc _).alloc _).trans hE⟩
end Go.Proofs.Ytjgkgcjmcpgiaaa
