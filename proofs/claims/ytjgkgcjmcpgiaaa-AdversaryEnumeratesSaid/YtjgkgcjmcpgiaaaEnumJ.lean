/-
  'AdversaryEnumerates' holds for every input: the words that are returned are words, permitted, strictly ascending, and as many as Count says; and a sequence of rounds is permitted exactly if it is among them.
  Conditions: none.
-/
import Derived.Test.YtjgkgcjmcpgiaaaGood
import Derived.Test.YtjgkgcjmcpgiaaaWordJ
import Derived.Test.YtjgkgcjmcpgiaaaOpen
import Derived.ProofKit
namespace Go.Proofs.Ytjgkgcjmcpgiaaa
open Go.RowKit

theorem ordL_at : ∀ {a b : List Rd} {k : Nat}, k < a.length → k < b.length → (∀ j, j < k → rcmp (a.getD j default) (b.getD j default) = 0) → rcmp (a.getD k default) (b.getD k default) ≠ 0 →
    ordL a b = rcmp (a.getD k default) (b.getD k default)
  | [], _, _, h, _, _, _ => by simp at h
  | _ :: _, [], _, _, h, _, _ => by simp at h
  | x :: a, y :: b, 0, _, _, _, h => by
    simp only [List.getD_cons_zero] at h ⊢
    simp only [ordL]
    rw [if_neg h]
  | x :: a, y :: b, k + 1, h1, h2, h3, h4 => by
    have h5 := h3 0 (by omega)
    simp only [List.getD_cons_zero] at h5
    simp only [List.getD_cons_succ] at h4 ⊢
    simp only [ordL]
    rw [if_pos h5]
    exact ordL_at (by simpa using h1) (by simpa using h2) (fun j hj => by have := h3 (j + 1) (by omega); simpa only [List.getD_cons_succ] using this) h4
theorem ordL_end : ∀ {a b : List Rd}, (∀ j, j < a.length → j < b.length → rcmp (a.getD j default) (b.getD j default) = 0) → ordL a b = if a.length < b.length then -1 else if b.length < a.length then 1 else 0
  | [], [], _ => by simp [ordL]
  | [], _ :: _, _ => by simp [ordL]
  | _ :: _, [], _ => by simp [ordL]
  | x :: a, y :: b, h => by
    have h5 := h 0 (by simp) (by simp)
    simp only [List.getD_cons_zero] at h5
    simp only [ordL]
    rw [if_pos h5, ordL_end (fun j h1 h2 => by have := h (j + 1) (by simpa using h1) (by simpa using h2); simpa only [List.getD_cons_succ] using this)]
    simp only [List.length_cons, Nat.add_lt_add_iff_right]

set_option maxHeartbeats 1000000 in
theorem rorder_any (a b : List Rd) (u v : Value) (w : World) (ha : Row Rd.cells 7 w u a) (hb : Row Rd.cells 7 w v b) :
    Calls Try.prog 38 #[u, v] w fun e w' => e = .returned (.int .i64 (ordL a b)) ∧ Ext w w' := by
  obtain ⟨p, c, rfl, hc, hl, hat⟩ := ha.rd_all
  obtain ⟨q, d, rfl, hd, hm, hat2⟩ := hb.rd_all
  have HA := hide hat
  have HB := hide hat2
  clear ha hb hat hat2
  have H1 := hide (fun k => ordL_at (a := a) (b := b) (k := k))
  have H2 := hide (ordL_end (a := a) (b := b))
  generalize ordL a b = res at H1 H2 ⊢
  generalize b.length = lb at *
  generalize a.length = la at *
  generalize hfa : a.getD = fa at *
  generalize hfb : b.getD = fb at *
  clear hfa hfb
  go_enter Try.func38, Try.ntmps38
  go_wp2_with fail
  go_loopw [5] (fun x wr => ∃ i : Nat, i ≤ la ∧ i ≤ lb ∧ x = .int .i64 i ∧ (∀ j, j < i → rcmp (fa j default) (fb j default) = 0) ∧ Ext w wr) (fun x _ => lb - (intOf x).toNat)
  case atStart => exact ⟨0, by omega, by omega, rfl, fun j hj => by omega, Ext.refl _⟩
  case round =>
    obtain ⟨i, hi, hi2, rfl, hj, hE⟩ := hrel
    have HJ := hide hj
    clear hj
    by_cases hlt : i < la
    · by_cases hlt2 : i < lb
      · obtain ⟨b1, o1, rfl, hb1, hat⟩ := HA.out (by omega)
        obtain ⟨b2, o2, rfl, hb2, hat2⟩ := HB.out (by omega)
        obtain ⟨x0, x1, x2, x3, x4, x5, x6⟩ := hat i hlt
        obtain ⟨y0, y1, y2, y3, y4, y5, y6⟩ := hat2 i hlt2
        clear hat hat2
        have HF := hide (H1.out i hlt hlt2 HJ.out)
        have HN : Hid (rcmp (fa i default) (fb i default) = 0 → ∀ j, j < i + 1 → rcmp (fa j default) (fb j default) = 0) := fun h j hj => by
          by_cases e : j = i
          · subst e; exact h
          · exact HJ.out j (by omega)
        have HC := hide (fun W => rrcompare_any (fa i default) (fb i default) W)
        generalize rcmp (fa i default) (fb i default) = cc at HF HN HC
        generalize fa i default = m at x0 x1 x2 x3 x4 x5 x6 HC
        generalize fb i default = m' at y0 y1 y2 y3 y4 y5 y6 HC
        obtain ⟨⟨n, a0, b0, c0, d0, e0⟩, f⟩ := m
        obtain ⟨⟨n', a0', b0', c0', d0', e0'⟩, f'⟩ := m'
        dsimp only at x0 x1 x2 x3 x4 x5 x6 y0 y1 y2 y3 y4 y5 y6
        go_wp2_with fail
        refine wp_region_ext (by kernel_rfl) (by kernel_rfl) ?_
        repeat (go_big_quiet_step ((go_at_call 68; exact Calls.ext_of (HC.out _))))
        refine wpQuiet_nil ?_
        rintro w9 ⟨⟨_, hE9⟩, rfl⟩
        by_cases hcc : cc = 0
        · have hd : (cc != 0) = false := by simp [hcc]
          have HR := hide (HN.out hcc)
          clear hcc
          go_wp2
          go_roundw
          case rel => exact ⟨i + 1, by omega, by omega, by go_num, HR.out, hE.trans hE9⟩
          case measure => simp [intOf]; omega
        · have hd : (cc != 0) = true := by simp [hcc]
          have HR := hide (HF.out hcc)
          clear hcc
          go_wp2
          go_ret
          exact ⟨ret_int HR.out.symm, hE.trans hE9⟩
      · obtain rfl : i = lb := by omega
        have HR := hide (H2.out (fun j h1 h2 => HJ.out j h2))
        have h1 : decide (la < i) = false := decide_eq_false (by omega)
        go_wp2_with fail
        go_ret
        exact ⟨ret_int (by rw [HR.out, if_neg (by omega), if_pos hlt]), hE⟩
    · obtain rfl : i = la := by omega
      have HR := hide (H2.out (fun j h1 h2 => HJ.out j h1))
      by_cases h1 : i < lb
      · go_wp2_with fail
        go_ret
        exact ⟨ret_int (by rw [HR.out, if_pos h1]), hE⟩
      · obtain rfl : i = lb := by omega
        go_wp2_with fail
        go_ret
        exact ⟨ret_int (by rw [HR.out, if_neg (by omega), if_neg (by omega)]), hE⟩

/-- The place of the first of n that P holds for, or -1. -/
def firstAt (P : Nat → Bool) : Nat → Int
  | 0 => -1
  | n + 1 => if firstAt P n = -1 then (if P n then (n : Int) else -1) else firstAt P n
theorem firstAt_none {P : Nat → Bool} {n : Nat} (h : ∀ i, i < n → P i = false) : firstAt P n = -1 := by
  induction n with
  | zero => rfl
  | succ n ih => simp only [firstAt]; rw [if_pos (ih fun i hi => h i (by omega)), h n (by omega)]; rfl
theorem firstAt_at {P : Nat → Bool} {n k : Nat} (hk : k < n) (h : ∀ i, i < k → P i = false) (hp : P k = true) : firstAt P n = k := by
  induction n with
  | zero => omega
  | succ n ih =>
    simp only [firstAt]
    by_cases e : k = n
    · subst e; rw [if_pos (firstAt_none h), if_pos hp]
    · rw [ih (by omega), if_neg (by omega)]
theorem enum_closure (x y : List Rd) (u v : Value) (g : Nat) (w : World) (hx : Row Rd.cells 7 w u x) (hg : w.cell? ⟨g, 0, none⟩ = some v) (hy : Row Rd.cells 7 w v y) :
    Calls Try.prog 40 #[u, .pointer (some ⟨g, 0, none⟩)] w fun e w' => e = .returned (.bool (decide (x = y))) ∧ Ext w w' := by
  have HS := hide (sequal_rd x y u v w hx hy)
  obtain ⟨p, c, rfl, -⟩ := hx.rd_all
  obtain ⟨q, d, rfl, -⟩ := hy.rd_all
  clear hx hy
  generalize decide (x = y) = res at HS ⊢
  go_enter Try.func40, Try.ntmps40
  go_wp2_with fail
  refine HS.out.mono ?_
  rintro e w' ⟨rfl, hE⟩
  go_wp2_with fail
  go_ret
  exact ⟨rfl, hE⟩
set_option maxHeartbeats 1000000 in
theorem indexfunc_any (ws : List (List Rd)) (y : List Rd) (u v : Value) (g : Nat) (w : World) (hws : Rows2 Rd.cells 7 w u ws) (hg : ∀ W, Ext w W → W.cell? ⟨g, 0, none⟩ = some v) (hy : Row Rd.cells 7 w v y) :
    Calls Try.prog 69 #[u, .func (.func 40) #[] #[.pointer (some ⟨g, 0, none⟩)]] w
      fun e w' => e = .returned (.int .i64 (firstAt (fun i => decide (ws.getD i [] = y)) ws.length)) ∧ Ext w w' := by
  have HC := hide (fun W (hE : Ext w W) x u' hx => enum_closure x y u' v g W hx (hg W hE) (hy.ext hE))
  obtain ⟨p, c, rfl, hc, hl, hat⟩ := hws.sl_all
  have HA := hide hat
  clear hws hg hy hat
  have H1 := hide (fun k hk => firstAt_at (P := fun i => decide (ws.getD i [] = y)) (n := ws.length) (k := k) hk)
  have H2 := hide (firstAt_none (P := fun i => decide (ws.getD i [] = y)) (n := ws.length))
  generalize firstAt (fun i => decide (ws.getD i [] = y)) ws.length = res at H1 H2 ⊢
  generalize ws.length = n at *
  generalize hf : ws.getD = f at *
  clear hf
  go_enter Try.func69, Try.ntmps69
  go_wp2_with fail
  go_loopw [8] (fun x wr => ∃ i : Nat, i ≤ n ∧ x = .int .i64 i ∧ (∀ j, j < i → decide (f j [] = y) = false) ∧ Ext w wr) (fun x _ => n - (intOf x).toNat)
  case atStart => exact ⟨0, by omega, rfl, fun j hj => by omega, Ext.refl _⟩
  case round =>
    obtain ⟨i, hi, rfl, hj, hE⟩ := hrel
    have HJ := hide hj
    clear hj
    by_cases hlt : i < n
    · obtain ⟨b, o, rfl, hb, hat⟩ := HA.out (by omega)
      obtain ⟨qx, dx, hcx, hrx, -⟩ := hat i hlt
      replace hcx := hcx _ hE
      have HRX := hide (hrx.ext hE)
      clear hat hrx
      have HF := hide (H1.out i hlt HJ.out)
      have HN : Hid (decide (f i [] = y) = false → ∀ j, j < i + 1 → decide (f j [] = y) = false) := fun h j hj => by
        by_cases e : j = i
        · subst e; exact h
        · exact HJ.out j (by omega)
      have HC2 := hide (HC.out wr hE _ _ HRX.out)
      generalize decide (f i [] = y) = r at HF HN HC2
      generalize (f i []).length = lx at hcx HC2
      go_wp2_with fail
      refine HC2.out.mono ?_
      rintro e w2 ⟨rfl, hE2⟩
      cases r
      · have HR := hide (HN.out rfl)
        go_wp2_with fail
        go_roundw
        case rel => exact ⟨i + 1, by omega, by go_num, HR.out, hE.trans hE2⟩
        case measure => simp [intOf]; omega
      · have HR := hide (HF.out rfl)
        go_wp2_with fail
        go_ret
        exact ⟨ret_int HR.out.symm, hE.trans hE2⟩
    · obtain rfl : i = n := by omega
      have HR := hide (H2.out HJ.out)
      go_wp2_with fail
      go_ret
      exact ⟨ret_int HR.out.symm, hE⟩
theorem contains_of (ws : List (List Rd)) (y : List Rd) : decide (0 ≤ firstAt (fun i => decide (ws.getD i [] = y)) ws.length) = decide (y ∈ ws) := by
  by_cases h : ∃ k, k < ws.length ∧ ws.getD k [] = y
  · obtain ⟨k, hk, he⟩ := h
    have hm : y ∈ ws := by rw [← he, getElem_getD' hk]; exact List.getElem_mem hk
    have hge : firstAt (fun i => decide (ws.getD i [] = y)) ws.length ≠ -1 := by
      intro h0
      have : ∀ n, firstAt (fun i => decide (ws.getD i [] = y)) n = -1 → ∀ i, i < n → decide (ws.getD i [] = y) = false := by
        intro n
        induction n with
        | zero => intro _ i hi; omega
        | succ n ih =>
          intro h i hi
          simp only [firstAt] at h
          by_cases h1 : firstAt (fun i => decide (ws.getD i [] = y)) n = -1
          · rw [if_pos h1] at h
            by_cases e : i = n
            · subst e
              by_cases h2 : decide (ws.getD i [] = y) = true
              · rw [if_pos h2] at h; omega
              · simpa using h2
            · exact ih h1 i (by omega)
          · rw [if_neg h1] at h; exact absurd h h1
      have := this _ h0 k hk
      rw [decide_eq_false_iff_not] at this
      exact this he
    have hlb : ∀ n, -1 ≤ firstAt (fun i => decide (ws.getD i [] = y)) n := by
      intro n
      induction n with
      | zero => simp [firstAt]
      | succ n ih => simp only [firstAt]; split <;> (try split) <;> omega
    have := hlb ws.length
    rw [decide_eq_true hm, decide_eq_true]
    omega
  · have hm : y ∉ ws := by
      intro hy
      obtain ⟨k, hk, he⟩ := List.getElem_of_mem hy
      exact h ⟨k, hk, by rw [getElem_getD' hk]; exact he⟩
    rw [firstAt_none (fun i hi => decide_eq_false fun he => h ⟨i, hi, he⟩), decide_eq_false hm]
    rfl
theorem containsfunc_any (ws : List (List Rd)) (y : List Rd) (u v : Value) (g : Nat) (w : World) (hws : Rows2 Rd.cells 7 w u ws) (hg : ∀ W, Ext w W → W.cell? ⟨g, 0, none⟩ = some v) (hy : Row Rd.cells 7 w v y) :
    Calls Try.prog 39 #[u, .func (.func 40) #[] #[.pointer (some ⟨g, 0, none⟩)]] w
      fun e w' => e = .returned (.bool (decide (y ∈ ws))) ∧ Ext w w' := by
  have HI := hide (indexfunc_any ws y u v g w hws hg hy)
  have HD := hide (contains_of ws y)
  obtain ⟨p, c, rfl, -⟩ := hws.sl_all
  clear hws hg hy
  generalize decide (y ∈ ws) = res at HD ⊢
  generalize firstAt (fun i => decide (ws.getD i [] = y)) ws.length = k at HI HD
  go_enter Try.func39, Try.ntmps39
  go_wp2_with fail
  refine HI.out.mono ?_
  rintro e w2 ⟨rfl, hE2⟩
  have hd := HD.out
  go_wp2_with fail
  go_ret
  exact ⟨rfl, hE2⟩
end Go.Proofs.Ytjgkgcjmcpgiaaa

namespace Go.Proofs.Ytjgkgcjmcpgiaaa
open Go.RowKit
attribute [local go_sem] Oper.semAt_some

theorem inside_zero (f : Int) : inside 0 f = true := inside_all fun k _ => by simp [has]
theorem words_sound {A : Adv} (h : achk A = 0) : ∀ (k s : Nat), s < A.L → ∀ x ∈ fromS A k s,
    (∀ j, j < x.length → rchk (x.getD j default) = 0 ∧ (x.getD j default).g.n = A.n ∧ inside (prevF x j) (x.getD j default).f = true) ∧ (0 < x.length → ∃ i, i < A.len s ∧ x.getD 0 default = (A.mv s i).r)
  | 0, s, _, x, hx => by
    simp only [fromS, List.mem_singleton] at hx
    subst hx
    exact ⟨fun j hj => by simp at hj, fun h => by simp at h⟩
  | k + 1, s, hs, x, hx => by
    obtain ⟨i, hi, y, hy, rfl⟩ := mem_fromS.1 hx
    have ht := mv_to h hs hi
    have ht2 : (A.mv s i).to.toNat < A.L := by omega
    obtain ⟨h1, h2⟩ := words_sound h k _ ht2 y hy
    have hm := mvErrAt_zero ((stErr_zero ((achk_zero h).2.2.2.2.2.1 s hs)).2 i hi)
    have hg := (achk_zero h).2.2.2.2.2.2
    simp only [growsB, all3, List.all_eq_true, List.mem_range] at hg
    refine ⟨fun j hj => ?_, fun _ => ⟨i, hi, rfl⟩⟩
    cases j with
    | zero => exact ⟨hm.1, hm.2.1, inside_zero _⟩
    | succ j =>
      have hj' : j < y.length := by simpa using hj
      obtain ⟨h3, h4, h5⟩ := h1 j hj'
      refine ⟨h3, h4, ?_⟩
      cases j with
      | zero =>
        obtain ⟨i', hi', e⟩ := h2 hj'
        show inside (A.mv s i).r.f (y.getD 0 default).f = true
        rw [e]
        exact hg s hs i hi i' hi'
      | succ j => exact h5
theorem words_word {A : Adv} (h : achk A = 0) {k : Nat} (hk : k ≤ 1024) {x : List Rd} (hx : x ∈ fromS A k 0) : wordE A.n x = 0 := by
  have hz := achk_zero h
  obtain ⟨h1, _⟩ := words_sound h k 0 (by omega) x hx
  have hl := fromS_words A k 0 x hx
  unfold wordE
  rw [if_neg (by omega), if_neg (by omega)]
  refine firstErr_end fun j hj => ?_
  obtain ⟨h3, h4, h5⟩ := h1 j hj
  unfold wErr
  rw [if_neg (fun h => h h3), if_neg (fun h => h h4), if_pos h5]
theorem ebox (w : World) (n : Int) (s u : Value) {w1 : World} (hE : Ext ((w.alloc (.cells #[.int .i64 n, s] 24)).alloc (.cells #[u] 25)) w1) :
    w1.cell? ⟨w.heap.size, 0, none⟩ = some (.int .i64 n) ∧ w1.cell? ⟨w.heap.size, 1, none⟩ = some s ∧ w1.cell? ⟨w.heap.size + 1, 0, none⟩ = some u ∧ w.heap.size + 1 < w1.heap.size := by
  have hs := hE.size
  simp only [World.size_alloc] at hs
  refine ⟨(hE.cell (by simp; omega)).trans (by simp [go_sem]), (hE.cell (by simp; omega)).trans (by simp [go_sem]), (hE.cell (by simp)).trans (by simp [go_sem]), by omega⟩

set_option maxRecDepth 8000 in
set_option maxHeartbeats 1000000 in
theorem enumerates_law (A : Adv) (v u : Value) (y : List Rd) (w : World) (hA : AdvRep w v A) (hu : Row Rd.cells 7 w u y) :
    Calls Try.prog 10 #[v, u] w fun e w' => e = .returned (.bool true) ∧ Ext w w' := by
  have HF := hide (fun W (hE : Ext w W) => good_any A v y.length W (hA.ext hE))
  have HW := hide (fun W (hE : Ext w W) h => pwords_any A v y.length W (hA.ext hE) h)
  have HN := hide (fun W (hE : Ext w W) h => pcount_any A v y.length W (hA.ext hE) h)
  have HS := hide (fun W u l (hE : Ext w W) (hu : Row Rd.cells 7 W u l) h => pallows_any A v u l W (hA.ext hE) hu h)
  have HU := hide hu
  obtain ⟨p, c, rfl, hc, hL, hat⟩ := hA.all_
  obtain ⟨pu, cu, rfl, hcu, hlu, -⟩ := hu.rd_all
  clear hA hat hu
  have hE0 : Ext w ((w.alloc (.cells #[.int .i64 A.n, .slice p A.L c] 24)).alloc (.cells #[.slice pu y.length cu] 25)) := ((Ext.refl w).alloc _).alloc _
  have HB := hide (fun w1 => ebox w A.n (.slice p A.L c) (.slice pu y.length cu) (w1 := w1))
  cases hf : goodB A y.length with
  | false =>
    rw [hf] at HF
    clear hf HW HS HN HU
    go_enter Try.func10, Try.ntmps10
    go_wp2_with fail
    refine (HF.out _ hE0).mono ?_
    rintro e w1 ⟨rfl, hE⟩
    go_wp2_with fail
    refine (awake_any w1).mono ?_
    rintro e w2 ⟨rfl, hE2⟩
    go_wp2_with fail
    go_ret
    exact ⟨rfl, (hE0.trans hE).trans hE2⟩
  | true =>
    rw [hf] at HF
    obtain ⟨hM, h0, K, hKl, hK, hlen⟩ := good_facts hf
    have hM' : movesN A ≤ 4611686018427387904 := by omega
    have hKe : K = y.length := by omega
    subst hKe
    have hLp : 0 < A.L := by have := (achk_zero h0).2.2.1; omega
    have hpos := words_pos h0 y.length 0 hLp
    have hW1 := fun W hE => HW.out W hE hM'
    rw [words_ok h0 hK hlen] at hW1
    have HW1 := hide hW1
    have hN1 := fun W hE => HN.out W hE hM'
    rw [count_ok h0 hK (by omega)] at hN1
    have HN1 := hide hN1
    have HWW := hide (fun x (hx : x ∈ fromS A y.length 0) => words_word h0 (k := y.length) (by omega) hx)
    have HWA : Hid (∀ x, x ∈ fromS A y.length 0 → 0 ≤ after A 0 x) := fun x hx => words_after h0 y.length 0 hLp x hx
    have HWL := hide (fun x (hx : x ∈ fromS A y.length 0) => fromS_words A y.length 0 x hx)
    have HWN := hide (fun i (hi : i + 1 < (fromS A y.length 0).length) => words_next h0 hLp hi)
    have hS1 : ∀ x, allowsS A x = (decide (0 ≤ after A 0 x), 0) := fun x => by unfold allowsS; rw [if_pos h0]
    have hS2 := fun W u l hE hu => HS.out W u l hE hu hM'
    simp only [hS1] at hS2
    have HS2 := hide hS2
    have HI := hide (words_iff h0 y)
    clear hS1 hS2 hN1 hW1 HN HW HS hf hM hM' hLp h0 hKl
    generalize fromS A y.length 0 = ws at HW1 HN1 HWW HWA HWL HWN HI hlen hpos
    go_enter Try.func10, Try.ntmps10
    go_wp2_with fail
    refine (HF.out _ hE0).mono ?_
    rintro e w1 ⟨rfl, hE⟩
    obtain ⟨c0, c1, c2, hz⟩ := HB.out _ hE
    go_wp2_with fail
    refine (HW1.out _ (hE0.trans hE)).mono ?_
    rintro e w2 ⟨u2, rfl, hC, hE2⟩
    have hE := hE.trans hE2
    clear c0 c1 c2 hz hE2
    have HR1 := hide (hC.rows2 (by omega))
    obtain ⟨q2, d2, rfl⟩ := hC.slice
    clear hC
    obtain ⟨c0, c1, c2, hz⟩ := HB.out _ hE
    go_wp2_with fail
    refine (HN1.out _ (hE0.trans hE)).mono ?_
    rintro e w3 ⟨rfl, hE2⟩
    have hE := hE.trans hE2
    have HR1 := hide (HR1.out.ext hE2)
    clear c0 c1 c2 hz hE2
    have dpos : ((ws.length : Int) == 0) = false := by rw [beq_eq_false_iff_ne]; omega
    obtain ⟨c0, c1, c2, hz⟩ := HB.out _ hE
    go_wp2_with fail
    clear c0 c1 c2
    have HE := hide hE
    clear hE
    obtain ⟨wa, hwa⟩ : ∃ wa : World, wa = w3 := ⟨_, rfl⟩
    have hE3 : Ext wa w3 := by rw [hwa]; exact Ext.refl _
    rw [← hwa] at HE HR1
    clear hwa hz
    go_loopw [53] (fun x V => ∃ i : Nat, i ≤ ws.length ∧ x = .int .i64 i ∧ Ext wa V) (fun x _ => ws.length - (intOf x).toNat)
    case atStart => exact ⟨0, by omega, rfl, hE3⟩
    case round =>
      clear hE3
      obtain ⟨i, hi, rfl, hE3⟩ := hrel
      have hEr := HE.out.trans hE3
      obtain ⟨c0, c1, c2, hzr⟩ := HB.out _ hEr
      by_cases hlt : i < ws.length
      · obtain ⟨q2', d2', hv, _, _, hat⟩ := HR1.out.sl_all
        injection hv with e1 e2 e3
        subst e1 e3
        clear e2
        obtain ⟨b, o, rfl, hb, hat⟩ := hat (by omega)
        obtain ⟨qx, dx, hcx, hrx, _⟩ := hat i hlt
        replace hcx := hcx _ hE3
        have hmem : ws.getD i [] ∈ ws := by rw [getElem_getD' hlt]; exact List.getElem_mem hlt
        have hX1 := HWW.out _ hmem
        have hX2 := HWA.out _ hmem
        have hxl := HWL.out _ hmem
        have HPN : Hid (∀ j, i = j + 1 → ordL (ws.getD j []) (ws.getD i []) < 0) := fun j hj => by subst hj; exact HWN.out j hlt
        clear hmem
        generalize ws.getD i [] = X at hcx hrx hX1 hX2 hxl HPN
        rw [hxl] at hcx hrx
        have hAl := fun W hE hu => HS2.out W (.slice qx y.length dx) X hE hu
        rw [decide_eq_true hX2] at hAl
        have HAL := hide hAl
        have hWd := fun W hu => rword_any A.n X (.slice qx y.length dx) W hu
        rw [hX1] at hWd
        have HWD := hide hWd
        have HRX := hide hrx
        have HXL := hide hxl
        clear hAl hWd hX1 hX2 hrx hxl
        cases i with
        | zero =>
          clear hat HPN
          rw [Nat.add_zero] at hcx
          go_wp2_with fail
          refine (HAL.out _ (hE0.trans hEr) (HRX.out.ext hE3)).mono ?_
          rintro e w4 ⟨rfl, hE4⟩
          have hE5 := hE3.trans hE4
          have hEr := HE.out.trans hE5
          clear c0 c1 c2 hzr hcx
          obtain ⟨c0, c1, c2, hzr⟩ := HB.out _ hEr
          go_wp2_with fail
          refine (HWD.out _ (HRX.out.ext hE5)).mono ?_
          rintro e w5 ⟨rfl, hE6⟩
          go_wp2_with fail
          go_roundw
          case rel => exact ⟨1, by omega, rfl, hE5.trans hE6⟩
          case measure => simp [intOf]; omega
        | succ j =>
          obtain ⟨qp, dp, hcp, hrp, _⟩ := hat j (by omega)
          clear hat
          have hOd := HPN.out j rfl
          have HOR := hide (fun W hp hx => rorder_any (ws.getD j []) X (.slice qp (ws.getD j []).length dp) (.slice qx y.length dx) W hp hx)
          generalize ordL (ws.getD j []) X = od at hOd HOR
          generalize (ws.getD j []) = P at hrp hcp HOR
          have HRP := hide hrp
          have HCP := hide hcp
          clear HPN hrp hcp
          have dod : decide (0 ≤ od) = false := decide_eq_false (by omega)
          have dod2 : decide (od ≥ 0) = false := decide_eq_false (by omega)
          clear hOd
          go_wp2_with fail
          refine (HAL.out _ (hE0.trans hEr) (HRX.out.ext hE3)).mono ?_
          rintro e w4 ⟨rfl, hE4⟩
          have hE5 := hE3.trans hE4
          have hEr := HE.out.trans hE5
          clear c0 c1 c2 hzr hcx
          obtain ⟨c0, c1, c2, hzr⟩ := HB.out _ hEr
          go_wp2_with fail
          refine (HWD.out _ (HRX.out.ext hE5)).mono ?_
          rintro e w5 ⟨rfl, hE6⟩
          have hE7 := hE5.trans hE6
          have hcp := HCP.out _ hE7
          clear c0 c1 c2 hzr
          go_wp2_with fail
          refine (HOR.out _ (HRP.out.ext hE7) (HRX.out.ext hE7)).mono ?_
          rintro e w6 ⟨rfl, hE8⟩
          clear hcp
          go_wp2_with fail
          go_roundw
          case rel => exact ⟨j + 1 + 1, by omega, by go_num, hE7.trans hE8⟩
          case measure => simp [intOf]; omega
      · obtain rfl : i = ws.length := by omega
        clear hlt
        have hAl := fun W hE hu => HS2.out W (.slice pu y.length cu) y hE hu
        have HCF := hide (fun W hw hg hy => containsfunc_any ws y (.slice q2 ws.length d2) (.slice pu y.length cu) (w.heap.size + 1) W hw hg hy)
        rw [← decide_eq_decide.2 HI.out] at hAl
        have HAL := hide hAl
        clear hAl
        generalize decide (y ∈ ws) = r at HAL HCF
        go_wp2_with fail
        refine (HAL.out _ (hE0.trans hEr) (HU.out.ext (hE0.trans hEr))).mono ?_
        rintro e w4 ⟨rfl, hE4⟩
        have hE5 := hE3.trans hE4
        have hEr := HE.out.trans hE5
        clear c0 c1 c2 hzr
        go_wp2_with fail
        refine (HCF.out w4 (HR1.out.ext hE5) (fun W hE => (HB.out _ (hEr.trans hE)).2.2.1) (HU.out.ext (hE0.trans hEr))).mono ?_
        rintro e w5 ⟨rfl, hE6⟩
        have drr : (r == r) = true := by simp
        go_wp2_with fail
        refine (awake_any w5).mono ?_
        rintro e w6 ⟨rfl, hE7⟩
        go_wp2_with fail
        go_ret
        exact ⟨rfl, ((hE0.trans hEr).trans hE6).trans hE7⟩
end Go.Proofs.Ytjgkgcjmcpgiaaa

namespace Go.Proofs.Ytjgkgcjmcpgiaaa
open Go.ChangeShapes Go.WideShapes Go.ChangeAt Go.RowKit

set_option maxRecDepth 100000 in
theorem adversaryEnumerates_lifted (os : Os) (started : os.Started) (H : Type) (enc : TypeId × Value → H) :
    ReturnsInHanded {} Try.checked os 10 .any (Rows.adversaryEnumeratesSpec.pre6 enc Try.prog Try.f10 Rows.adversaryEnumeratesRow.domain false) (Rows.adversaryEnumeratesSpec.post enc Try.prog Try.f10 false true false false) := by
  refine returnsInHanded_of_change_sized (C := Try.checked) ownKnob_none started (by kernel_rfl) Try.func10
    (ChangeSpec.witness6 (enc := enc) (C := Try.checked) false ⟨#[], #[.agg #[.int .i64 0, .slice none 0 0], .slice none 0 0], []⟩ 8 (by kernel_rfl) (by kernel_rfl) (by kernel_rfl) (by kernel_rfl)) ?_
  intro W base args ds gs before hval0 hW hcnd hsz _
  have hval : ∀ (j : Nat) t v, Try.f10.params[j]? = some t → args[j]? = some v → Value.okWide Try.prog W .any base t v := hval0
  have hW' := hW
  obtain ⟨p, q, hA0, hV, rfl, hfz, hnd⟩ := hW
  have hA : DataW.TrodAll enc Try.prog W 0 (fun _ => true) true Try.f10.params.toList args.toList ds p := hA0
  have hA' := hA
  rw [Try.params10] at hA hval
  obtain ⟨v0, v1, d0, d1, p0, p1, rfl, rfl, rfl, h0, h1⟩ := trodAll_two hA
  obtain ⟨rfl, rfl⟩ := trodVars_none hV
  have hl0 : Light 24 d0 := Light.each hsz (j := 0) rfl rfl
  obtain ⟨A, hAdv⟩ := open_adv (hval 0 _ v0 rfl rfl) h0 hl0
  have hl1 : Light 25 d1 := Light.each hsz (j := 1) rfl rfl
  obtain ⟨qa1, qn1, qc1, rfl⟩ := okWide_slice Try.underlying25 (hval 1 _ v1 rfl rfl)
  obtain ⟨l1, hRow1⟩ := open_rds h1 rfl hl1
  have hlt := hW'.lt
  have hcall := enumerates_law A v0 _ l1 W hAdv hRow1
  refine hcall.mono fun e W' ⟨he, hE⟩ => ?_
  subst he
  exact ⟨_, rfl, post_of_below (pv := []) hW' (fun _ _ _ => trodAll_mk1 (shut_bool Try.underlying4 _)) (fun sp hs => keep_all hE (by decide +kernel) hA' (fun x hx => hlt x (List.mem_append_left _ hx)) sp (fun x hx => hs x (List.mem_append_left _ hx))) (fun _ _ => rfl) rfl hE.b (ok_one (by kernel_rfl) rfl (okWide_bool_mk Try.underlying4 _))⟩

theorem adversaryEnumerates_holds : Rows.AdversaryEnumeratesSaid :=
  OpenClaim.holds_of_wide 10 Try.f10 rfl rfl rfl rfl rfl rfl rfl ⟨rfl, rfl, rfl, rfl, rfl⟩ rfl rfl rfl rfl rfl (by kernel_rfl) Try.func10 (by kernel_rfl)
    (of_decide_eq_true (by kernel_rfl)) (by unfold Func.isWrapper; first | (rw [if_pos (by decide +kernel)]; kernel_rfl) | (rw [if_neg (by decide +kernel)]; exact ⟨rfl, rfl⟩))
    (fun os started H enc _ => adversaryEnumerates_lifted os started H enc)
#print axioms adversaryEnumerates_holds
end Go.Proofs.Ytjgkgcjmcpgiaaa
