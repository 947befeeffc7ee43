/-
  Contracts of the orders of graphs and rounds (cmp, graph, round, roundtableref03, roundtableref15).
  Conditions: as each theorem states.
-/
import Derived.Test.YtnhgdjiljjpgmaaFound
namespace Go.Proofs.Ytnhgdjiljjpgmaa
open Go.RowKit

def icmp (a b : Int) : Int := if a < b then -1 else if b < a then 1 else 0
def gcmp (a b : Gr) : Int := firstNZ [icmp a.n b.n, icmp a.h0 b.h0, icmp a.h1 b.h1, icmp a.h2 b.h2, icmp a.h3 b.h3, icmp a.h4 b.h4]
def rcmp (a b : Rd) : Int := firstNZ [gcmp a.g b.g, icmp a.f b.f]
theorem icmp_lt {a b : Int} (h : a < b) : icmp a b = -1 := by unfold icmp; rw [if_pos h]
theorem icmp_gt {a b : Int} (h : b < a) : icmp a b = 1 := by unfold icmp; rw [if_neg (by omega), if_pos h]
theorem icmp_self (a : Int) : icmp a a = 0 := by unfold icmp; rw [if_neg (by omega), if_neg (by omega)]
theorem icmp_zero {a b : Int} : icmp a b = 0 ↔ a = b := by unfold icmp; split <;> (try split) <;> omega

theorem isnan_any (n : Int) (w : World) : Calls Try.prog 101 #[.int .i64 n] w fun e w' => e = .returned (.bool false) ∧ w' = w := by
  go_enter Try.func101, Try.ntmps101
  go_wp2
  go_ret
  exact ⟨by simp, rfl⟩
theorem ccmp_any (a b : Int) (w : World) : Calls Try.prog 82 #[.int .i64 a, .int .i64 b] w fun e w' => e = .returned (.int .i64 (icmp a b)) ∧ w' = w := by
  rcases (by omega : a < b ∨ b < a ∨ a = b) with h | h | h
  · rw [icmp_lt h]
    go_enter Try.func82, Try.ntmps82
    go_wp2_with (go_at_call 101; refine (isnan_any _ _).mono ?_; rintro e w1 ⟨rfl, rfl⟩)
    go_ret
    exact ⟨rfl, rfl⟩
  · rw [icmp_gt h]
    go_enter Try.func82, Try.ntmps82
    go_wp2_with (go_at_call 101; refine (isnan_any _ _).mono ?_; rintro e w1 ⟨rfl, rfl⟩)
    go_ret
    exact ⟨rfl, rfl⟩
  · subst h
    rw [icmp_self]
    go_enter Try.func82, Try.ntmps82
    go_wp2_with (go_at_call 101; refine (isnan_any _ _).mono ?_; rintro e w1 ⟨rfl, rfl⟩)
    go_ret
    exact ⟨rfl, rfl⟩

theorem firstNZ_zero {l : List Int} (h : ∀ x ∈ l, x = 0) : firstNZ l = 0 := by
  induction l with
  | nil => rfl
  | cons x l ih => simp only [firstNZ]; rw [if_pos (h x (by simp))]; exact ih fun y hy => h y (by simp [hy])
theorem gcmp_self (g : Gr) : gcmp g g = 0 := by unfold gcmp; simp [icmp_self, firstNZ]
theorem gcmp_first {g g' : Gr} (h : g.n ≠ g'.n) : gcmp g g' = icmp g.n g'.n := by
  unfold gcmp
  simp only [firstNZ]
  rw [if_neg (by rw [icmp_zero]; exact h)]
theorem gcmp_at {g g' : Gr} {k : Nat} (h0 : g.n = g'.n) (hk : k < 5) (hb : ∀ i, i < k → icmp (g.h i) (g'.h i) = 0) (hne : icmp (g.h k) (g'.h k) ≠ 0) : gcmp g g' = icmp (g.h k) (g'.h k) := by
  unfold gcmp
  rw [h0, icmp_self]
  obtain rfl | rfl | rfl | rfl | rfl : k = 0 ∨ k = 1 ∨ k = 2 ∨ k = 3 ∨ k = 4 := by omega
  · simp only [firstNZ, if_true, Gr.h] at hne ⊢; rw [if_neg hne]
  · have := hb 0 (by omega); simp only [Gr.h] at this hne ⊢; simp [firstNZ, this, hne]
  · have a0 := hb 0 (by omega); have a1 := hb 1 (by omega); simp only [Gr.h] at a0 a1 hne ⊢; simp [firstNZ, a0, a1, hne]
  · have a0 := hb 0 (by omega); have a1 := hb 1 (by omega); have a2 := hb 2 (by omega); simp only [Gr.h] at a0 a1 a2 hne ⊢; simp [firstNZ, a0, a1, a2, hne]
  · have a0 := hb 0 (by omega); have a1 := hb 1 (by omega); have a2 := hb 2 (by omega); have a3 := hb 3 (by omega); simp only [Gr.h] at a0 a1 a2 a3 hne ⊢; simp [firstNZ, a0, a1, a2, a3, hne]
theorem gcmp_end {g g' : Gr} (h0 : g.n = g'.n) (hb : ∀ i, i < 5 → icmp (g.h i) (g'.h i) = 0) : gcmp g g' = 0 := by
  unfold gcmp
  have a0 := hb 0 (by omega); have a1 := hb 1 (by omega); have a2 := hb 2 (by omega); have a3 := hb 3 (by omega); have a4 := hb 4 (by omega)
  simp only [Gr.h] at a0 a1 a2 a3 a4
  simp [firstNZ, a0, a1, a2, a3, a4, h0, icmp_self]

set_option maxHeartbeats 1000000 in
theorem gcompare_any (g g' : Gr) (w : World) : Calls Try.prog 81 #[g.v, g'.v] w fun e w' => e = .returned (.int .i64 (gcmp g g')) ∧ Ext w w' := by
  by_cases he : g = g'
  · subst he
    rw [gcmp_self]
    obtain ⟨n, a, b, c, d, e⟩ := g
    dsimp only [Gr.v]
    have heq := eql_graph n a b c d e n a b c d e
    rw [show geq ⟨n, a, b, c, d, e⟩ ⟨n, a, b, c, d, e⟩ = true from geq_iff.2 rfl] at heq
    go_enter Try.func81, Try.ntmps81
    go_wp2
    go_ret
    exact ⟨rfl, ((Ext.refl w).alloc _).alloc _⟩
  · have hg : geq g g' = false := by
      cases h : geq g g'
      · rfl
      · exact absurd (geq_iff.1 h) he
    clear he
    obtain ⟨n, a, b, c, d, e⟩ := g
    obtain ⟨n', a', b', c', d', e'⟩ := g'
    dsimp only [Gr.v]
    have heq := eql_graph n a b c d e n' a' b' c' d' e'
    rw [hg] at heq
    clear hg
    by_cases hn : n = n'
    · have H1 := hide (fun k h1 h2 h3 => gcmp_at (g := ⟨n, a, b, c, d, e⟩) (g' := ⟨n', a', b', c', d', e'⟩) (k := k) hn h1 h2 h3)
      have H2 := hide (gcmp_end (g := ⟨n, a, b, c, d, e⟩) (g' := ⟨n', a', b', c', d', e'⟩) hn)
      have hx := fun k hk => Gr.box_at w n a b c d e 36 k hk
      have hy := fun k hk => Gr.box_at (w.alloc (.cells #[.int .i64 n, .int .i64 a, .int .i64 b, .int .i64 c, .int .i64 d, .int .i64 e] 36)) n' a' b' c' d' e' 36 k hk
      generalize gcmp ⟨n, a, b, c, d, e⟩ ⟨n', a', b', c', d', e'⟩ = res at H1 H2 ⊢
      generalize Gr.h ⟨n, a, b, c, d, e⟩ = p at H1 H2 hx
      generalize Gr.h ⟨n', a', b', c', d', e'⟩ = q at H1 H2 hy
      have hN : (n != n') = false := by simp [hn]
      have HX := hide hx
      have HY := hide hy
      clear hn hx hy
      go_enter Try.func81, Try.ntmps81
      go_wp2
      go_loopw [20, 5, 6] (fun i _ _ wr => ∃ k : Nat, k ≤ 5 ∧ i = .int .i64 k ∧ (∀ j, j < k → icmp (p j) (q j) = 0) ∧ Ext ((w.alloc (.cells #[.int .i64 n, .int .i64 a, .int .i64 b, .int .i64 c, .int .i64 d, .int .i64 e] 36)).alloc (.cells #[.int .i64 n', .int .i64 a', .int .i64 b', .int .i64 c', .int .i64 d', .int .i64 e'] 36)) wr) (fun i _ _ _ => 5 - (intOf i).toNat)
      case atStart => exact ⟨0, by omega, rfl, fun j hj => by omega, Ext.refl _⟩
      case round =>
        obtain ⟨k, hk, rfl, hj, hE⟩ := hrel
        have HJ := hide hj
        clear hj
        have hsz := hE.size
        rw [World.size_alloc, World.size_alloc] at hsz
        have hz1 : w.heap.size < wr.heap.size := by omega
        have hz2 : w.heap.size + 1 < wr.heap.size := by omega
        by_cases hlt : k < 5
        · have hx1 : wr.cell? ⟨w.heap.size, 1 + k, none⟩ = some (.int .i64 (p k)) := by
            rw [hE.cell (by simp; omega), World.cell?_alloc_lt _ _ _ (by simp)]
            exact HX.out k hlt
          have hy1 : wr.cell? ⟨w.heap.size + 1, 1 + k, none⟩ = some (.int .i64 (q k)) := by
            rw [hE.cell (by simp)]
            have := HY.out k hlt
            rw [World.size_alloc] at this
            exact this
          have HH := hide (H1.out k hlt HJ.out)
          have HN : Hid (icmp (p k) (q k) = 0 → ∀ j, j < k + 1 → icmp (p j) (q j) = 0) := fun h0 j hj => by
            by_cases e : j = k
            · subst e; exact h0
            · exact HJ.out j (by omega)
          generalize p k = x at hx1 HH HN
          generalize q k = y at hy1 HH HN
          go_wp2_with fail
          refine wp_region_ext (by kernel_rfl) (by kernel_rfl) ?_
          repeat (go_big_quiet_step ((go_at_call 82; exact Calls.ext_same (ccmp_any x y _))))
          refine wpQuiet_nil ?_
          rintro w2 ⟨⟨_, hE2⟩, rfl⟩
          have hE3 := hE.trans hE2
          clear hE2 hE hx1 hy1
          by_cases h0 : icmp x y = 0
          · have hb : (icmp x y != 0) = false := by simp [h0]
            have H0 := hide h0
            clear h0
            go_wp2
            go_roundw
            case rel => exact ⟨k + 1, by omega, by go_num, HN.out H0.out, hE3⟩
            case measure => simp [intOf]; omega
          · have hb : (icmp x y != 0) = true := by simp [h0]
            have H0 := hide (HH.out h0)
            clear h0
            go_wp2
            go_ret
            exact ⟨ret_int H0.out.symm, (((Ext.refl w).alloc _).alloc _).trans hE3⟩
        · obtain rfl : k = 5 := by omega
          have HR := hide (H2.out HJ.out)
          go_wp2
          go_ret
          exact ⟨ret_int HR.out.symm, (((Ext.refl w).alloc _).alloc _).trans hE⟩
    · rw [gcmp_first hn]
      have hN : (n != n') = true := by simp [hn]
      clear hn
      go_enter Try.func81, Try.ntmps81
      go_wp2_with (go_at_call 82; refine (ccmp_any _ _ _).mono ?_; rintro e w1 ⟨rfl, rfl⟩)
      go_ret
      exact ⟨rfl, ((Ext.refl w).alloc _).alloc _⟩

theorem rcmp_self (r : Rd) : rcmp r r = 0 := by unfold rcmp; simp [gcmp_self, icmp_self, firstNZ]
theorem rcmp_first {r r' : Rd} (h : gcmp r.g r'.g ≠ 0) : rcmp r r' = gcmp r.g r'.g := by unfold rcmp; simp only [firstNZ]; rw [if_neg h]
theorem rcmp_second {r r' : Rd} (h : gcmp r.g r'.g = 0) : rcmp r r' = icmp r.f r'.f := by
  unfold rcmp; simp only [firstNZ]; rw [if_pos h]; split <;> simp [*]
theorem gcmp_zero {g g' : Gr} : gcmp g g' = 0 ↔ g = g' := by
  constructor
  · intro h
    by_cases hn : g.n = g'.n
    · have h0 : ∀ k, k < 5 → icmp (g.h k) (g'.h k) = 0 := by
        intro k
        induction k using Nat.strongRecOn with
        | _ k ih =>
          intro hk
          apply Classical.byContradiction
          intro hne
          rw [gcmp_at hn hk (fun i hi => ih i hi (by omega)) hne] at h
          exact hne h
      obtain ⟨n, a, b, c, d, e⟩ := g
      obtain ⟨n', a', b', c', d', e'⟩ := g'
      have a0 := icmp_zero.1 (h0 0 (by omega)); have a1 := icmp_zero.1 (h0 1 (by omega)); have a2 := icmp_zero.1 (h0 2 (by omega)); have a3 := icmp_zero.1 (h0 3 (by omega)); have a4 := icmp_zero.1 (h0 4 (by omega))
      simp only [Gr.h] at a0 a1 a2 a3 a4 hn
      subst a0 a1 a2 a3 a4 hn
      rfl
    · rw [gcmp_first hn, icmp_zero] at h
      exact absurd h hn
  · rintro rfl; exact gcmp_self g
def rchk (r : Rd) : Int := if gchk r.g = 0 then pchk r.g.n r.f else gchk r.g

theorem rrcheck_any (r : Rd) (w : World) : Calls Try.prog 46 #[r.v] w fun e w' => e = .returned (.int .i64 (rchk r)) ∧ Ext w w' := by
  obtain ⟨⟨n, a, b, c, d, e⟩, f⟩ := r
  unfold rchk
  dsimp only [Rd.v]
  have hc := fun W => rgcheck_any ⟨n, a, b, c, d, e⟩ W
  generalize gchk ⟨n, a, b, c, d, e⟩ = x at hc ⊢
  by_cases h : x = 0
  · subst h
    rw [if_pos rfl]
    have HC := hide hc
    clear hc
    go_enter Try.func46, Try.ntmps46
    go_wp2_with (first | (go_at_call 68; refine (HC.out _).mono ?_; rintro e w1 ⟨rfl, hE⟩; obtain ⟨hc1, hf1⟩ := hE.rules) | (go_at_call 69; refine (rpcheck_any _ _ _).mono ?_; rintro e w1 ⟨rfl, rfl⟩))
    go_ret
    exact ⟨rfl, ((Ext.refl w).alloc _).trans hE⟩
  · rw [if_neg h]
    have hb : (x != 0) = true := by simp [h]
    have HC := hide hc
    clear hc h
    go_enter Try.func46, Try.ntmps46
    go_wp2_with (go_at_call 68; refine (HC.out _).mono ?_; rintro e w1 ⟨rfl, hE⟩)
    go_ret
    exact ⟨rfl, ((Ext.refl w).alloc _).trans hE⟩
theorem rcheck_any (r : Rd) (w : World) : Calls Try.prog 89 #[r.v] w fun e w' => e = .returned (.int .i64 (rchk r)) ∧ Ext w w' := by
  obtain ⟨⟨n, a, b, c, d, e⟩, f⟩ := r
  unfold rchk
  dsimp only [Rd.v]
  have hc := fun W => gcheck_any ⟨n, a, b, c, d, e⟩ W
  generalize gchk ⟨n, a, b, c, d, e⟩ = x at hc ⊢
  by_cases h : x = 0
  · subst h
    rw [if_pos rfl]
    have HC := hide hc
    clear hc
    go_enter Try.func89, Try.ntmps89
    go_wp2_with (first | (go_at_call 104; refine (HC.out _).mono ?_; rintro e w1 ⟨rfl, hE⟩; obtain ⟨hc1, hf1⟩ := hE.rules) | (go_at_call 103; refine (pcheck_any _ _ _).mono ?_; rintro e w1 ⟨rfl, rfl⟩))
    go_ret
    exact ⟨rfl, ((Ext.refl w).alloc _).trans hE⟩
  · rw [if_neg h]
    have hb : (x != 0) = true := by simp [h]
    have HC := hide hc
    clear hc h
    go_enter Try.func89, Try.ntmps89
    go_wp2_with (go_at_call 104; refine (HC.out _).mono ?_; rintro e w1 ⟨rfl, hE⟩)
    go_ret
    exact ⟨rfl, ((Ext.refl w).alloc _).trans hE⟩
theorem rcompare_any (r r' : Rd) (w : World) : Calls Try.prog 60 #[r.v, r'.v] w fun e w' => e = .returned (.int .i64 (rcmp r r')) ∧ Ext w w' := by
  by_cases he : r = r'
  · subst he
    rw [rcmp_self]
    obtain ⟨⟨n, a, b, c, d, e⟩, f⟩ := r
    dsimp only [Rd.v]
    have heq := eql_round n a b c d e f n a b c d e f
    rw [req_iff.2 rfl] at heq
    go_enter Try.func60, Try.ntmps60
    go_wp2
    go_ret
    exact ⟨rfl, ((Ext.refl w).alloc _).alloc _⟩
  · have hr : req r r' = false := by
      cases h : req r r'
      · rfl
      · exact absurd (req_iff.1 h) he
    by_cases hg : r.g = r'.g
    · rw [rcmp_second (gcmp_zero.2 hg)]
      obtain ⟨⟨n, a, b, c, d, e⟩, f⟩ := r
      obtain ⟨⟨n', a', b', c', d', e'⟩, f'⟩ := r'
      dsimp only at hg
      dsimp only [Rd.v]
      have heq := eql_round n a b c d e f n' a' b' c' d' e' f'
      have hgq := neq_graph n a b c d e n' a' b' c' d' e'
      rw [hr] at heq
      rw [geq_iff.2 hg] at hgq
      clear he hr hg
      go_enter Try.func60, Try.ntmps60
      go_wp2_with (go_at_call 82; refine (ccmp_any _ _ _).mono ?_; rintro e w1 ⟨rfl, rfl⟩)
      go_ret
      exact ⟨rfl, ((Ext.refl w).alloc _).alloc _⟩
    · rw [rcmp_first (mt gcmp_zero.1 hg)]
      have hgf : geq r.g r'.g = false := by
        cases h : geq r.g r'.g
        · rfl
        · exact absurd (geq_iff.1 h) hg
      obtain ⟨⟨n, a, b, c, d, e⟩, f⟩ := r
      obtain ⟨⟨n', a', b', c', d', e'⟩, f'⟩ := r'
      dsimp only at hgf
      dsimp only [Rd.v]
      have heq := eql_round n a b c d e f n' a' b' c' d' e' f'
      have hgq := neq_graph n a b c d e n' a' b' c' d' e'
      rw [hr] at heq
      rw [hgf] at hgq
      clear he hr hg hgf
      have HC := hide (fun W => gcompare_any ⟨n, a, b, c, d, e⟩ ⟨n', a', b', c', d', e'⟩ W)
      generalize gcmp ⟨n, a, b, c, d, e⟩ ⟨n', a', b', c', d', e'⟩ = res at HC ⊢
      go_enter Try.func60, Try.ntmps60
      go_wp2_with (go_at_call 81; refine (HC.out _).mono ?_; rintro e w1 ⟨rfl, hE⟩)
      go_ret
      exact ⟨rfl, (((Ext.refl w).alloc _).alloc _).trans hE⟩
/-- Each element of a is one of b. -/
def inside (a b : Int) : Bool := (List.range 5).all fun p => !has a p || has b p
theorem inside_at {a b : Int} {k : Nat} (hk : k < 5) (h1 : has a k = true) (h2 : has b k = false) : inside a b = false := by
  unfold inside
  rw [List.all_eq_false]
  exact ⟨k, by simpa using hk, by simp [h1, h2]⟩
theorem inside_all {a b : Int} (h : ∀ k, k < 5 → (!has a k || has b k) = true) : inside a b = true := by
  unfold inside
  rw [List.all_eq_true]
  exact fun x hx => h x (by simpa using hx)
theorem rinside_any (a b : Int) (w : World) (h0 : 0 ≤ a) (h1 : a ≤ 9223372036854775807) (h2 : 0 ≤ b) (h3 : b ≤ 9223372036854775807) :
    Calls Try.prog 47 #[.int .i64 a, .int .i64 b] w fun e w' => e = .returned (.bool (inside a b)) ∧ w' = w := by
  have H1 := hide (fun k => inside_at (a := a) (b := b) (k := k))
  have H2 := hide (inside_all (a := a) (b := b))
  generalize inside a b = res at H1 H2 ⊢
  go_enter Try.func47, Try.ntmps47
  go_wp2
  go_loop [5] (fun i => ∃ k : Nat, k ≤ 5 ∧ i = .int .i64 k ∧ (∀ j, j < k → (!has a j || has b j) = true)) (fun i => 5 - (intOf i).toNat)
  case atStart => exact ⟨0, by omega, rfl, fun j hj => by omega⟩
  case round =>
    obtain ⟨k, hk, rfl, hj⟩ := hrel
    have HJ := hide hj
    clear hj
    by_cases hlt : k < 5
    · have ca := rhas_any a k w (by omega) (by omega) h0 h1
      have cb := rhas_any b k w (by omega) (by omega) h2 h3
      rw [Int.toNat_natCast] at ca cb
      have HN : Hid ((!has a k || has b k) = true → ∀ j, j < k + 1 → (!has a j || has b j) = true) := fun h0 j hj => by
        by_cases e : j = k
        · subst e; exact h0
        · exact HJ.out j (by omega)
      have HF := hide (H1.out k hlt)
      generalize has a k = x at ca HN HF
      generalize has b k = y at cb HN HF
      have CA := hide ca
      have CB := hide cb
      clear ca cb
      cases x
      · have H0 := hide (HN.out rfl)
        go_wp2_with fail
        refine CA.out.mono ?_
        rintro e w1 ⟨rfl, rfl⟩
        go_wp2
        go_round
        case rel => exact ⟨k + 1, by omega, by go_num, H0.out⟩
        case measure => simp [intOf]; omega
      · cases y
        · have H0 := hide (HF.out rfl rfl)
          go_wp2_with fail
          refine CA.out.mono ?_
          rintro e w1 ⟨rfl, rfl⟩
          go_wp2_with fail
          refine CB.out.mono ?_
          rintro e w1 ⟨rfl, rfl⟩
          go_wp2
          go_ret
          exact ⟨ret_bool H0.out.symm, rfl⟩
        · have H0 := hide (HN.out rfl)
          go_wp2_with fail
          refine CA.out.mono ?_
          rintro e w1 ⟨rfl, rfl⟩
          go_wp2_with fail
          refine CB.out.mono ?_
          rintro e w1 ⟨rfl, rfl⟩
          go_wp2
          go_round
          case rel => exact ⟨k + 1, by omega, by go_num, H0.out⟩
          case measure => simp [intOf]; omega
    · obtain rfl : k = 5 := by omega
      have HR := hide (H2.out HJ.out)
      go_wp2
      go_ret
      exact ⟨ret_bool HR.out.symm, rfl⟩
end Go.Proofs.Ytnhgdjiljjpgmaa
