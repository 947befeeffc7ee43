/-
  The program's state of a word (adversary.State, Allows).
  Conditions: as each theorem states.
-/
import Derived.Test.YtnhgdjiljjpgmaaIndex
import Derived.Test.YtnhgdjiljjpgmaaHeldA
import Derived.Test.YtnhgdjiljjpgmaaAdvRef3
namespace Go.Proofs.Ytnhgdjiljjpgmaa
open Go.RowKit
attribute [local go_sem] Oper.semAt_some

theorem ents_all (A : Adv) (s : Nat) : ents A s (A.len s) = (A.st.getD s []).map fun m => (m.r, m.to) := by
  apply List.ext_getElem
  · simp [ents, Adv.len]
  · intro i h1 h2
    have h3 : i < (A.st.getD s []).length := by simpa using h2
    simp only [ents, List.getElem_map, List.getElem_range]
    have : A.mv s i = (A.st.getD s [])[i] := by show (A.st.getD s []).getD i default = _; rw [List.getD_eq_getElem?_getD, List.getElem?_eq_getElem h3]; rfl
    rw [this]
theorem alook_find (ms : List Mv) (r : Rd) : alook (ms.map fun m => (m.r, m.to)) r = (ms.find? fun m => req m.r r).map (·.to) := by
  induction ms with
  | nil => rfl
  | cons m ms ih =>
    simp only [List.map_cons, alook, List.find?_cons]
    by_cases h : r = m.r
    · rw [if_pos h, req_iff.2 h.symm]; rfl
    · rw [if_neg h]
      have : req m.r r = false := by cases hh : req m.r r; rfl; exact absurd (req_iff.1 hh).symm h
      rw [this]; exact ih
/-- What the table says is what the list says. -/
theorem alook_to {A : Adv} (h : achk A = 0) {s : Nat} (hs : s < A.L) (r : Rd) : (alook (ents A s (A.len s)) r).isSome = decide (0 ≤ toL (A.st.getD s []) r) ∧ (0 ≤ toL (A.st.getD s []) r → (alook (ents A s (A.len s)) r).getD 0 = toL (A.st.getD s []) r) := by
  rw [ents_all, alook_find]
  have hr := to_range h hs r
  unfold toL at hr ⊢
  cases hf : (A.st.getD s []).find? fun m => req m.r r with
  | none => simp
  | some m =>
    have hi : 0 ≤ m.to := by
      obtain ⟨i, hi, he⟩ := List.getElem_of_mem (List.mem_of_find?_eq_some hf)
      have h1 := (sound_of (achk_zero h).2.2.2.2.2.1 s hs i hi).1
      have : A.mv s i = m := by show (A.st.getD s []).getD i default = _; rw [List.getD_eq_getElem?_getD, List.getElem?_eq_getElem hi]; exact he
      rw [this] at h1; exact h1
    simp [hi]
theorem Tab.ext {W W' : World} {g B : Nat} {A : Adv} (h : Tab W g B A) (hE : Ext W W') : Tab W' g B A :=
  ⟨(hE.b.block _ (lt_of_heap h.1)).trans h.1, fun s hs => (h.2 s hs).of_block (hE.b.block _ (h.2 s hs).lt)⟩
theorem Tab.cell {W : World} {g B : Nat} {A : Adv} (h : Tab W g B A) {s : Nat} (hs : s < A.L) : W.cell? ⟨g, s, none⟩ = some (.map (some (B + s))) := by
  rw [cell_of_row _ _ _ _ _ _ h.1, tcells_at hs]; simp [hs]

end Go.Proofs.Ytnhgdjiljjpgmaa

namespace Go.Proofs.Ytnhgdjiljjpgmaa
open Go.RowKit
attribute [local go_sem] Oper.semAt_some

set_option maxRecDepth 8000 in
set_option maxHeartbeats 4000000 in
theorem pstate_any (A : Adv) (v u : Value) (l : List Rd) (w : World) (hA : AdvRep w v A) (hl : Row Rd.cells 7 w u l) (hM : movesN A ≤ 4611686018427387904) :
    Calls Try.prog 35 #[v, u] w fun e w' => e = .returned (.tuple #[.int .i64 (stateS A l).1, .int .i64 (stateS A l).2]) ∧ Ext w w' := by
  have HC := hide (fun W (hE : Ext w W) => check_any A v W (hA.ext hE) hM)
  have HX := hide (fun W (hE : Ext w W) h0 => index_any A v W (hA.ext hE) h0)
  obtain ⟨p, c, rfl, hc, hL, hat⟩ := hA.all_
  clear hA hat
  obtain ⟨q, d, rfl, hd, hll, hat⟩ := hl.rd_all
  have HAT := hide hat
  clear hl hat
  generalize hres : stateS A l = res
  obtain ⟨r1, r2⟩ := res
  unfold stateS at hres
  by_cases h1 : achk A = 0
  · rw [if_pos h1] at hres
    have H0 := hide h1
    have hHC := HC.out
    rw [h1] at hHC
    have HC := hide hHC
    have HX := hide (fun W hE => HX.out W hE h1)
    have hL1 := (achk_zero h1).2.2.1
    clear hHC h1
    have HBAD : Hid (after A 0 l = -1 → ((0 : Int), (25 : Int)) = (r1, r2)) := fun h => by rw [if_neg (by omega)] at hres; exact hres
    have HGOOD : Hid (∀ x : Nat, after A 0 l = x → ((x : Int), (0 : Int)) = (r1, r2)) := fun x h => by rw [if_pos (by omega), h] at hres; exact hres
    have hr0 : after A (0 : Nat) (l.drop 0) = after A 0 l := rfl
    clear hres
    generalize after A 0 l = res at HBAD HGOOD hr0
    have HR0 := hide hr0
    clear hr0
    go_enter Try.func35, Try.ntmps35
    go_wp2_with fail
    refine (HC.out _ (by simp [go_sem])).mono ?_
    rintro e w1 ⟨rfl, hE⟩
    have hEw := ((Ext.refl w).alloc _).trans hE
    obtain ⟨hc1, hf1⟩ := hE.rules
    go_wp2_with fail
    refine (HX.out _ hEw).mono ?_
    rintro e w2 ⟨⟨g, B, rfl, hT⟩, hE2⟩
    have hE2w := hEw.trans hE2
    have HTC := hide (fun W (hE : Ext w2 W) s (hs : s < A.L) => (hT.ext hE).cell hs)
    have HTL := hide (fun W (hE : Ext w2 W) s (hs : s < A.L) r => look_round r W _ _ ((hT.ext hE).2 s hs))
    clear hT hE hc1 hf1 hEw hE2
    go_wp2_with fail
    go_loopw [8, 22] (fun y x wr => ∃ k cn : Nat, k ≤ l.length ∧ x = .int .i64 k ∧ y = .int .i64 cn ∧ after A cn (l.drop k) = res ∧ cn < A.L ∧ Ext w2 wr) (fun _ x _ => l.length - (intOf x).toNat)
    case atStart => exact ⟨0, 0, by omega, rfl, rfl, HR0.out, by omega, Ext.refl _⟩
    case round =>
      obtain ⟨k, cn, hk, rfl, rfl, hj, hcur, hE⟩ := hrel
      have HJ := hide hj
      have hEr := hE2w.trans hE
      clear hj
      by_cases hlt : k < l.length
      · obtain ⟨b, o, rfl, hb, hat⟩ := HAT.out (by omega)
        obtain ⟨x0, x1, x2, x3, x4, x5, x6⟩ := hat k hlt
        clear hat
        have hjj := HJ.out
        rw [after_step (by omega) hlt, Int.toNat_natCast] at hjj
        have hTT := fun W hE => HTL.out W hE cn hcur (l.getD k default)
        have hal := alook_to H0.out hcur (l.getD k default)
        have hrg := to_range H0.out hcur (l.getD k default)
        generalize toL (A.st.getD cn []) (l.getD k default) = t at hjj hal hrg
        generalize alook (ents A cn (A.len cn)) (l.getD k default) = al at hTT hal
        have HRG := hide hrg
        have HAL := hide hal
        have HJJ := hide hjj
        have hTC := fun W hE => HTC.out W hE cn hcur
        clear hjj hrg hal
        generalize l.getD k default = m at x0 x1 x2 x3 x4 x5 x6 hTT
        obtain ⟨⟨n1, a1, b1, c1, d1, e1⟩, f1⟩ := m
        dsimp only [Rd.v] at x0 x1 x2 x3 x4 x5 x6 hTT
        have hd1 : decide (k < l.length) = true := decide_eq_true hlt
        have m0 : ∀ W, Ext (wr.alloc (.cells #[.int .i64 n1, .int .i64 a1, .int .i64 b1, .int .i64 c1, .int .i64 d1, .int .i64 e1, .int .i64 f1] 38)) W → W.cell? ⟨wr.heap.size, 0, none⟩ = some (.int .i64 n1) := fun W h => by rw [h.cell (by simp), cell_new]; rfl
        have m1 : ∀ W, Ext (wr.alloc (.cells #[.int .i64 n1, .int .i64 a1, .int .i64 b1, .int .i64 c1, .int .i64 d1, .int .i64 e1, .int .i64 f1] 38)) W → W.cell? ⟨wr.heap.size, 1, none⟩ = some (.int .i64 a1) := fun W h => by rw [h.cell (by simp), cell_new]; rfl
        have m2 : ∀ W, Ext (wr.alloc (.cells #[.int .i64 n1, .int .i64 a1, .int .i64 b1, .int .i64 c1, .int .i64 d1, .int .i64 e1, .int .i64 f1] 38)) W → W.cell? ⟨wr.heap.size, 2, none⟩ = some (.int .i64 b1) := fun W h => by rw [h.cell (by simp), cell_new]; rfl
        have m3 : ∀ W, Ext (wr.alloc (.cells #[.int .i64 n1, .int .i64 a1, .int .i64 b1, .int .i64 c1, .int .i64 d1, .int .i64 e1, .int .i64 f1] 38)) W → W.cell? ⟨wr.heap.size, 3, none⟩ = some (.int .i64 c1) := fun W h => by rw [h.cell (by simp), cell_new]; rfl
        have m4 : ∀ W, Ext (wr.alloc (.cells #[.int .i64 n1, .int .i64 a1, .int .i64 b1, .int .i64 c1, .int .i64 d1, .int .i64 e1, .int .i64 f1] 38)) W → W.cell? ⟨wr.heap.size, 4, none⟩ = some (.int .i64 d1) := fun W h => by rw [h.cell (by simp), cell_new]; rfl
        have m5 : ∀ W, Ext (wr.alloc (.cells #[.int .i64 n1, .int .i64 a1, .int .i64 b1, .int .i64 c1, .int .i64 d1, .int .i64 e1, .int .i64 f1] 38)) W → W.cell? ⟨wr.heap.size, 5, none⟩ = some (.int .i64 e1) := fun W h => by rw [h.cell (by simp), cell_new]; rfl
        have m6 : ∀ W, Ext (wr.alloc (.cells #[.int .i64 n1, .int .i64 a1, .int .i64 b1, .int .i64 c1, .int .i64 d1, .int .i64 e1, .int .i64 f1] 38)) W → W.cell? ⟨wr.heap.size, 6, none⟩ = some (.int .i64 f1) := fun W h => by rw [h.cell (by simp), cell_new]; rfl
        have hE4 : Ext wr (wr.alloc (.cells #[.int .i64 n1, .int .i64 a1, .int .i64 b1, .int .i64 c1, .int .i64 d1, .int .i64 e1, .int .i64 f1] 38)) := (Ext.refl _).alloc _
        go_wp2_with fail
        generalize wr.alloc (.cells #[.int .i64 n1, .int .i64 a1, .int .i64 b1, .int .i64 c1, .int .i64 d1, .int .i64 e1, .int .i64 f1] 38) = w4 at m0 m1 m2 m3 m4 m5 m6 hE4 ⊢
        have hE5 := hE.trans hE4
        refine wp_region_ext (by kernel_rfl) (by kernel_rfl) ?_
        repeat (go_big_quiet_step (fail))
        refine wpQuiet_nil ?_
        rintro w9 ⟨⟨_, hE9⟩, rfl⟩
        have hE10 := hE5.trans hE9
        clear m0 m1 m2 m3 m4 m5 m6 x0 x1 x2 x3 x4 x5 x6 hTT hTC
        have hal := HAL.out
        clear HAL
        cases al with
        | none =>
          have h3 : ¬ 0 ≤ t := by simpa using hal.1.symm
          have hm : t = -1 := by have := HRG.out; omega
          have hbad := HJJ.out
          rw [hm, after_neg (by decide)] at hbad
          have HR := hide (HBAD.out hbad.symm)
          clear hal h3 hm hbad
          dsimp only [Option.isSome, Option.getD]
          go_wp2_with fail
          go_ret2
          exact ⟨ret_tup HR.out, hE2w.trans hE10⟩
        | some x =>
          have h3 : 0 ≤ t := by simpa using hal.1.symm
          obtain rfl : x = t := by simpa using hal.2 h3
          obtain ⟨y, rfl⟩ := Int.eq_ofNat_of_zero_le h3
          clear hal h3
          dsimp only [Option.isSome, Option.getD]
          go_wp2_with fail
          refine ⟨⟨k + 1, y, by omega, by simp, rfl, HJJ.out, by have := HRG.out; omega, hE10⟩, by simp [intOf]; try omega⟩
      · obtain rfl : k = l.length := by omega
        have HR := hide (HGOOD.out cn (by have := HJ.out; rw [List.drop_length] at this; exact this.symm))
        go_wp2_with fail
        go_ret2
        exact ⟨ret_tup HR.out, hEr⟩
  · rw [if_neg h1] at hres
    have HR := hide hres
    have hb : (achk A != 0) = true := by simp [h1]
    clear hres h1 HX
    generalize achk A = ck at *
    go_enter Try.func35, Try.ntmps35
    go_wp2_with fail
    refine (HC.out _ (by simp [go_sem])).mono ?_
    rintro e w1 ⟨rfl, hE⟩
    go_wp2_with fail
    go_ret2
    exact ⟨ret_tup HR.out, ((Ext.refl w).alloc _).trans hE⟩

theorem firstErr_ne {f : Nat → Int} {x : Int} (hx : x ≠ 0) (h : ∀ i, f i ≠ x) : ∀ n, firstErr f n ≠ x
  | 0 => fun he => hx he.symm
  | n + 1 => by simp only [firstErr]; split; exact h n; exact firstErr_ne hx h n
theorem gchkAt_ne (g : Gr) (p : Nat) : gchkAt g p ≠ 25 := by
  unfold gchkAt; repeat (first | split | decide)
theorem firstNZ_ne {x : Int} (hx : x ≠ 0) : ∀ l : List Int, (∀ y ∈ l, y ≠ x) → firstNZ l ≠ x
  | [], _ => fun he => hx he.symm
  | y :: l, h => by simp only [firstNZ]; split; exact firstNZ_ne hx l (fun z hz => h z (by simp [hz])); exact h y (by simp)
theorem gchk_ne (g : Gr) : gchk g ≠ 25 := by
  unfold gchk
  split
  · decide
  · refine firstNZ_ne (by decide) _ fun y hy => ?_
    simp only [List.mem_cons, List.not_mem_nil, or_false] at hy
    rcases hy with rfl | rfl | rfl | rfl | rfl <;> exact gchkAt_ne _ _
theorem pchk_ne (n s : Int) : pchk n s ≠ 25 := by
  unfold pchk; repeat (first | split | decide)
theorem rchk_ne (r : Rd) : rchk r ≠ 25 := by
  unfold rchk; split; exact pchk_ne _ _; exact gchk_ne _
theorem mvErrAt_ne (n : Int) (L : Nat) (ms : List Mv) (i : Nat) : mvErrAt n L ms i ≠ 25 := by
  unfold mvErrAt; repeat (first | split | decide | exact rchk_ne _)
theorem stErr_ne (A : Adv) (s : Nat) : stErr A s ≠ 25 := by
  unfold stErr; split; decide; exact firstErr_ne (by decide) (mvErrAt_ne _ _ _) _
theorem achk_ne {A : Adv} : achk A ≠ 25 := by
  unfold achk; repeat (first | split | decide | exact firstErr_ne (by decide) (stErr_ne A) _)

set_option maxHeartbeats 1000000 in
theorem pallows_any (A : Adv) (v u : Value) (l : List Rd) (w : World) (hA : AdvRep w v A) (hl : Row Rd.cells 7 w u l) (hM : movesN A ≤ 4611686018427387904) :
    Calls Try.prog 11 #[v, u] w fun e w' => e = .returned (.tuple #[.bool (allowsS A l).1, .int .i64 (allowsS A l).2]) ∧ Ext w w' := by
  have HN := hide (fun W (hE : Ext w W) => pstate_any A v u l W (hA.ext hE) (hl.ext hE) hM)
  obtain ⟨p, c, rfl, hc, hL, hat⟩ := hA.all_
  clear hA hat
  obtain ⟨q, d, rfl, _, _, hat⟩ := hl.rd_all
  clear hl hat
  generalize hres : allowsS A l = res
  obtain ⟨r1, r2⟩ := res
  generalize hst : stateS A l = st at HN
  obtain ⟨s1, s2⟩ := st
  have hcase : (s2 = 0 ∧ (true, (0 : Int)) = (r1, r2)) ∨ (s2 = 25 ∧ (false, (0 : Int)) = (r1, r2)) ∨ (s2 ≠ 0 ∧ s2 ≠ 25 ∧ (false, s2) = (r1, r2)) := by
    unfold stateS at hst
    unfold allowsS at hres
    by_cases h0 : achk A = 0
    · rw [if_pos h0] at hst hres
      by_cases h1 : 0 ≤ after A 0 l
      · rw [if_pos h1] at hst
        rw [decide_eq_true h1] at hres
        injection hst with _ h2
        exact .inl ⟨h2.symm, hres⟩
      · rw [if_neg h1] at hst
        rw [decide_eq_false h1] at hres
        injection hst with _ h2
        exact .inr (.inl ⟨h2.symm, hres⟩)
    · rw [if_neg h0] at hst hres
      injection hst with _ h2
      subst h2
      exact .inr (.inr ⟨h0, achk_ne, hres⟩)
  have hE0 : Ext w (w.alloc (.cells #[.int .i64 A.n, .slice p A.L c] 29)) := (Ext.refl w).alloc _
  rcases hcase with ⟨rfl, h⟩ | ⟨rfl, h⟩ | ⟨h0, h25, h⟩
  · have HR := hide h
    clear h hres hst
    go_enter Try.func11, Try.ntmps11
    go_wp2_with fail
    refine (HN.out _ hE0).mono ?_
    rintro e w1 ⟨rfl, hE⟩
    go_wp2_with fail
    go_ret2
    exact ⟨ret_tupb HR.out, hE0.trans hE⟩
  · have HR := hide h
    clear h hres hst
    go_enter Try.func11, Try.ntmps11
    go_wp2_with fail
    refine (HN.out _ hE0).mono ?_
    rintro e w1 ⟨rfl, hE⟩
    go_wp2_with fail
    go_ret2
    exact ⟨ret_tupb HR.out, hE0.trans hE⟩
  · have HR := hide h
    have g0 : (s2 == 0) = false := by simp [h0]
    have g25 : (s2 == 25) = false := by simp [h25]
    clear h hres hst h0 h25
    go_enter Try.func11, Try.ntmps11
    go_wp2_with fail
    refine (HN.out _ hE0).mono ?_
    rintro e w1 ⟨rfl, hE⟩
    go_wp2_with fail
    go_ret2
    exact ⟨ret_tupb HR.out, hE0.trans hE⟩
end Go.Proofs.Ytnhgdjiljjpgmaa
