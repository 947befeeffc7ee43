/-
  What is measured of graphs: edges, kernel, roots, nonsplit; products of a graph with itself become stable.
  Conditions: none.
-/
import Derived.Test.YtdlhnpogddpmpaaDoorTzMem
import Derived.StillTailTactics
namespace Go.Proofs.YtdlhnpogddpmpaaDoor
open Go.RowKit
attribute [local go_sem] Oper.semAt_some

/-- A graph and an error are returned. -/
def RetG (x : Gr × Int) (w : World) (e : Ending) (w' : World) : Prop := e = .returned (.tuple #[x.1.v, .int .i64 x.2]) ∧ Ext w w'
/-- A value and an error are returned. -/
def RetV1 (x : Value × Int) (w : World) (e : Ending) (w' : World) : Prop := e = .returned (.tuple #[x.1, .int .i64 x.2]) ∧ Ext w w'
theorem withE_err {e : Int} {g : Gr} (h : e ≠ 0) : withE e g = (gz0, e) := if_pos h
theorem shr1 {x p : Nat} (hx : x < 32) : bits .and .i64 ((x : Int) / 2 ^ p) 1 = ((x >>> p &&& 1 : Nat) : Int) := by
  rw [show ((x : Int) / 2 ^ p) = ((x >>> p : Nat) : Int) by rw [Nat.shiftRight_eq_div_pow]; simp]
  have : x >>> p ≤ x := Nat.shiftRight_le x p
  exact i64_and_nat _ 1 (by omega) (by omega)
theorem shl_bit (c : Bool) (k : Nat) (hk : k ≤ 5) : wrap64 (((if c then 1 else 0 : Nat) : Int) * 2 ^ k) = ((if c then 2 ^ k else 0 : Nat) : Int) := by
  obtain rfl | rfl | rfl | rfl | rfl | rfl : k = 0 ∨ k = 1 ∨ k = 2 ∨ k = 3 ∨ k = 4 ∨ k = 5 := by omega
  all_goals (cases c <;> kernel_rfl)
set_option maxHeartbeats 1000000 in
theorem compose_any (a b : Gr) (w : World) (hT : Tz w) : Calls Tryd.prog 9 #[a.v, b.v] w (RetG (composeS a b) w) := by
  have HB := hide (fun W => gboth_any a b W)
  have HZ := hide (fun h : bothS a b ≠ 0 => show composeS a b = (gz0, bothS a b) from withE_err h)
  have HO := hide (fun h : bothS a b = 0 => show composeS a b = (compG a b, 0) from by unfold composeS; rw [h]; rfl)
  have HW := hide (fun h : bothS a b = 0 => bothS_ok h)
  have HP := hide (fun n W (hE : Ext w W) ha hb => product_any (n := n) a b ha hb W (hT.ext hE))
  generalize composeS a b = res at HZ HO ⊢
  generalize bothS a b = e at HB HZ HO HW
  clear hT
  go_enter Tryd.func9, Tryd.ntmps9
  go_wp2_with fail
  have HT := hide (Three.mk_ w a b)
  refine (HB.out _).mono ?_
  rintro r w1 ⟨rfl, hE⟩
  have HT := hide (HT.out.ext_ hE)
  clear hE
  by_cases he : e = 0
  case neg =>
    have hd : (e != 0) = true := by simp [he]
    have HR := hide (HZ.out he)
    clear he
    obtain ⟨g, hg⟩ := HT.out.c
    obtain ⟨d0, d1, d2, d3, d4, d5, dz⟩ := hg.cells
    obtain ⟨f0, f1, f2, f3, f4, f5⟩ := hg.frozen
    have HG := hide hg
    clear hg
    go_wp2_with fail
    exact bodyPost_ret (v := .tuple #[gz0.v, .int .i64 e]) (results_gr2 rfl _ rfl rfl (HG.out.store gz0)) rfl ⟨by rw [HR.out], HT.out.ext.gstore (by omega) gz0⟩
  case pos =>
  subst he
  obtain ⟨n, hwa, hwb⟩ := HW.out (by trivial)
  have HR := hide (HO.out (by trivial))
  obtain ⟨a0, a1, a2, a3, a4, a5, az⟩ := HT.out.a.cells
  obtain ⟨b0, b1, b2, b3, b4, b5, bz⟩ := HT.out.b.cells
  have HP2 := hide (HP.out n w1 HT.out.ext hwa hwb)
  clear hwa hwb
  go_wp2_with fail
  refine HP2.out.mono ?_
  rintro r w2 ⟨rfl, hE⟩
  have HT := hide (HT.out.ext_ hE)
  clear hE a0 a1 a2 a3 a4 a5 az b0 b1 b2 b3 b4 b5 bz
  obtain ⟨g, hg⟩ := HT.out.c
  obtain ⟨d0, d1, d2, d3, d4, d5, dz⟩ := hg.cells
  obtain ⟨f0, f1, f2, f3, f4, f5⟩ := hg.frozen
  have HG := hide hg
  clear hg
  generalize compG a b = r at *
  go_wp2_with fail
  exact bodyPost_ret (v := .tuple #[r.v, .int .i64 0]) (results_gr2 rfl _ rfl rfl (HG.out.store r)) rfl ⟨by rw [HR.out], HT.out.ext.gstore (by omega) r⟩
end Go.Proofs.YtdlhnpogddpmpaaDoor

namespace Go.Proofs.YtdlhnpogddpmpaaDoor
open Go.RowKit
attribute [local go_sem] Oper.semAt_some

theorem unionR_stop {f : Nat → Nat} {s n : Nat} (hs : s < 2 ^ n) : ∀ k, unionR f s (n + k) = unionR f s n
  | 0 => rfl
  | k + 1 => by
    have h : s.testBit (n + k) = false := Nat.testBit_lt_two_pow (Nat.lt_of_lt_of_le hs (Nat.pow_le_pow_right (by decide) (by omega)))
    rw [show n + (k + 1) = (n + k) + 1 from rfl, unionR, unionR_stop hs k, h]
    simp
theorem unionR_n {f : Nat → Nat} {s n : Nat} (hs : s < 2 ^ n) (h5 : n ≤ 5) : unionR f s 5 = unionR f s n := by
  obtain ⟨k, hk⟩ := Nat.exists_eq_add_of_le h5
  rw [hk]; exact unionR_stop hs k
theorem Gr.set_h (g : Gr) (p : Nat) (x : Int) (hp : p < 5) : (g.set p x).h p = x := by
  obtain rfl | rfl | rfl | rfl | rfl : p = 0 ∨ p = 1 ∨ p = 2 ∨ p = 3 ∨ p = 4 := by omega
  all_goals rfl
theorem mkG_set0 (N : Nat) (f : Nat → Int) (p : Nat) (hp : p < 5) : (mkG N f p).set p 0 = mkG N f p := by
  have := Gr.set_own (mkG N f p) p hp
  rwa [mkG_h _ _ _ _ hp, if_neg (by omega)] at this
/-- Boxes of two graphs, of a third one, and of the graph that is being made. -/
structure Four (w W : World) (a b g : Gr) : Prop extends Three w W a b where
  g : GrBox W (w.heap.size + 1 + 1 + 1) g
theorem Four.ext_ {w W V : World} {a b g : Gr} (h : Four w W a b g) (hE : Ext W V) : Four w V a b g := ⟨h.toThree.ext_ hE, h.g.ext hE⟩
theorem Four.set {w W : World} {a b g : Gr} (h : Four w W a b g) {p : Nat} (hp : p < 5) (x : Int) : Four w (W.setCell ⟨w.heap.size + 1 + 1 + 1, 1 + p, none⟩ (.int .i64 x)) a b (g.set p x) := by
  have hz := lt_of_heap h.g
  refine ⟨⟨⟨h.ext.setCell (by show w.heap.size ≤ w.heap.size + 1 + 1 + 1; omega) _, ?_, ?_⟩, ?_⟩, h.g.set hp x⟩
  · exact (Below.heap_setCell _ _ _ _ (by show w.heap.size ≠ w.heap.size + 1 + 1 + 1; omega)).trans h.a
  · exact (Below.heap_setCell _ _ _ _ (by show w.heap.size + 1 ≠ w.heap.size + 1 + 1 + 1; omega)).trans h.b
  · obtain ⟨c, hc⟩ := h.c
    exact ⟨c, (Below.heap_setCell _ _ _ _ (by show w.heap.size + 1 + 1 ≠ w.heap.size + 1 + 1 + 1; omega)).trans hc⟩
theorem Four.mk_ (w : World) (a b : Gr) (n : Int) : Four w ((((w.alloc (gobj a)).alloc (gobj b)).alloc gobj0).alloc (gobj ⟨n, 0, 0, 0, 0, 0⟩)) a b ⟨n, 0, 0, 0, 0, 0⟩ :=
  ⟨(Three.mk_ w a b).ext_ ((Ext.refl _).alloc _), by
    have := gr_new (((w.alloc (gobj a)).alloc (gobj b)).alloc gobj0) ⟨n, 0, 0, 0, 0, 0⟩
    rwa [World.size_alloc, World.size_alloc, World.size_alloc] at this⟩
end Go.Proofs.YtdlhnpogddpmpaaDoor

namespace Go.Proofs.YtdlhnpogddpmpaaDoor

/-- How many elements a small set has. -/
def cardN (s : Nat) : Nat := (List.range 5).countP fun q => s.testBit q
theorem card_lt : ∀ s, s < 32 → ∀ t, t < 32 → s &&& t = s → s ≠ t → cardN s < cardN t := by decide +kernel
theorem card_le_all : ∀ n, n ≤ 5 → ∀ s, s < 2 ^ n → cardN s ≤ n := by decide +kernel
theorem card_pos : ∀ s, s < 32 → s ≠ 0 → 1 ≤ cardN s := by decide +kernel
/-- The common elements of the first k rows. -/
def interG (f : Nat → Nat) (n : Nat) : Nat → Nat
  | 0 => 2 ^ n - 1
  | k + 1 => interG f n k &&& f k
theorem interG_lt (f : Nat → Nat) (n : Nat) : ∀ k, interG f n k < 2 ^ n
  | 0 => by have := Nat.two_pow_pos n; rw [interG]; omega
  | k + 1 => by rw [interG]; exact Nat.lt_of_le_of_lt Nat.and_le_left (interG_lt f n k)
theorem interG_bit (f : Nat → Nat) (n q : Nat) : ∀ k, (interG f n k).testBit q = true ↔ q < n ∧ ∀ p, p < k → (f p).testBit q = true
  | 0 => by simp [interG, Nat.testBit_two_pow_sub_one]
  | k + 1 => by
    rw [interG, Nat.testBit_and, Bool.and_eq_true, interG_bit f n q k]
    constructor
    · rintro ⟨⟨h1, h2⟩, h3⟩
      refine ⟨h1, fun p hp => ?_⟩
      by_cases e : p = k
      · subst e; exact h3
      · exact h2 p (by omega)
    · rintro ⟨h1, h2⟩
      exact ⟨⟨h1, fun p hp => h2 p (by omega)⟩, h2 k (by omega)⟩
def kerG (g : Gr) : Nat := interG g.r g.n.toNat g.n.toNat
/-- The graph's power k + 1. -/
def pwG (g : Gr) : Nat → Gr
  | 0 => g
  | k + 1 => compG (pwG g k) g
theorem pw_wf {g : Gr} {n : Nat} (h : Wf g n) : ∀ k, Wf (pwG g k) n
  | 0 => h
  | k + 1 => comp_wf (pw_wf h k) h
theorem comp_assoc {a b c : Gr} {n : Nat} (ha : Wf a n) (hb : Wf b n) (hc : Wf c n) : compG (compG a b) c = compG a (compG b c) := by
  have hab := comp_wf ha hb
  have hbc := comp_wf hb hc
  refine wf_ext (comp_wf hab hc) (comp_wf ha hbc) fun p q hp _ => ?_
  rw [Bool.eq_iff_iff, comp_bit hab hc hp, comp_bit ha hbc hp]
  constructor
  · rintro ⟨m, h1, h2⟩
    obtain ⟨l, h3, h4⟩ := (comp_bit ha hb (hc.bit_lt h1).1 q).1 h2
    exact ⟨l, (comp_bit hb hc hp l).2 ⟨m, h1, h3⟩, h4⟩
  · rintro ⟨l, h1, h2⟩
    obtain ⟨m, h3, h4⟩ := (comp_bit hb hc hp l).1 h1
    exact ⟨m, h3, (comp_bit ha hb (hc.bit_lt h3).1 q).2 ⟨l, h4, h2⟩⟩
/-- Power k + 2, the other way round. -/
theorem pw_left {g : Gr} {n : Nat} (h : Wf g n) : ∀ k, pwG g (k + 1) = compG g (pwG g k)
  | 0 => rfl
  | k + 1 => by
    calc compG (pwG g (k + 1)) g = compG (compG g (pwG g k)) g := by rw [pw_left h k]
      _ = compG g (compG (pwG g k) g) := comp_assoc h (pw_wf h k) h
/-- A row of the next power is the union of the rows of this power's row. -/
theorem pw_row {g : Gr} {n : Nat} (h : Wf g n) {p : Nat} (hp : p < n) (k : Nat) : (pwG g (k + 1)).r p = unionR g.r ((pwG g k).r p) 5 := by
  rw [pw_left h k]
  unfold compG
  rw [h.toNat, natG_r _ _ h.n5, if_pos hp]
theorem pw_mono {g : Gr} {n : Nat} (h : Wf g n) {p : Nat} (hp : p < n) (k : Nat) : (pwG g k).r p &&& (pwG g (k + 1)).r p = (pwG g k).r p := by
  refine Nat.eq_of_testBit_eq fun q => ?_
  rw [Nat.testBit_and]
  cases hb : ((pwG g k).r p).testBit q with
  | false => rfl
  | true =>
    have hq := ((pw_wf h k).bit_lt hb).1
    have : ((pwG g (k + 1)).r p).testBit q = true := by
      rw [pw_row h hp, unionR_bit]
      have := h.n5
      exact ⟨q, by omega, hb, h.own q hq⟩
    rw [this]; rfl
theorem row_stable {g : Gr} {n : Nat} (h : Wf g n) {p : Nat} (hp : p < n) : ∀ k, k + 1 ≤ cardN ((pwG g k).r p) ∨ (pwG g (k + 1)).r p = (pwG g k).r p
  | 0 => by
    refine .inl (card_pos _ (h.lt32 p) fun h0 => ?_)
    have := h.own p hp
    rw [show g.r p = 0 from h0] at this
    simp at this
  | k + 1 => by
    rcases row_stable h hp k with h1 | h1
    · by_cases he : (pwG g (k + 1)).r p = (pwG g k).r p
      · exact .inr ((pw_row h hp (k + 1)).trans ((congrArg (unionR g.r · 5) he).trans (pw_row h hp k).symm))
      · left
        have := card_lt _ ((pw_wf h k).lt32 p) _ ((pw_wf h (k + 1)).lt32 p) (pw_mono h hp k) (fun e => he e.symm)
        omega
    · exact .inr ((pw_row h hp (k + 1)).trans ((congrArg (unionR g.r · 5) h1).trans (pw_row h hp k).symm))
theorem pw_stable {g : Gr} {n : Nat} (h : Wf g n) {k : Nat} (hk : n ≤ k) : pwG g (k + 1) = pwG g k := by
  refine wf_ext (pw_wf h _) (pw_wf h _) fun p q hp _ => ?_
  rcases row_stable h hp k with h1 | h1
  · have := card_le_all n h.n5 _ ((pw_wf h k).ltn p); omega
  · rw [h1]
theorem pw_fix {g : Gr} {k : Nat} (h : pwG g (k + 1) = pwG g k) : ∀ j, pwG g (k + j) = pwG g k
  | 0 => rfl
  | j + 1 => by
    show compG (pwG g (k + j)) g = _
    rw [pw_fix h j]; exact h
theorem pw_lt {g : Gr} {n k : Nat} (h : Wf g n) (hne : pwG g (k + 1) ≠ pwG g k) : k < n := by
  rcases Nat.lt_or_ge k n with h1 | h1
  · exact h1
  · exact absurd (pw_stable h h1) hne
theorem pw_end {g : Gr} {n k : Nat} (_h : Wf g n) (hk : k ≤ n) (he : pwG g (k + 1) = pwG g k) : pwG g k = pwG g n := by
  obtain ⟨j, rfl⟩ := Nat.exists_eq_add_of_le hk
  exact (pw_fix he j).symm
def rootsG (g : Gr) : Nat := kerG (pwG g g.n.toNat)
/-- All edges of a are edges of b. -/
def inG (a b : Gr) : Bool := (List.range 5).all fun p => (a.r p &&& b.r p) == a.r p
/-- Any two rows meet. -/
def nsG (g : Gr) : Bool := (List.range g.n.toNat).all fun p => (List.range p).all fun q => (g.r p &&& g.r q) != 0
/-- The edges between different ones. -/
def edG (g : Gr) : Nat → Int
  | 0 => - g.n
  | k + 1 => edG g k + (cardN (g.r k) : Int)
theorem edG_bd (g : Gr) (n : Nat) (h : Wf g n) : ∀ k, k ≤ 5 → -5 ≤ edG g k ∧ edG g k ≤ 5 * k
  | 0, _ => by rw [edG, h.n_eq]; have := h.n5; omega
  | k + 1, hk => by
    have h1 := edG_bd g n h k (by omega)
    have h2 : cardN (g.r k) ≤ 5 := card_le_all 5 (by decide) _ (h.lt32 k)
    rw [edG]; omega
/-- The same, pair by pair. -/
def cntB (P : Nat → Bool) : Nat → Nat
  | 0 => 0
  | k + 1 => cntB P k + if P k then 1 else 0
def rowC (g : Gr) (n p : Nat) : Nat := cntB (fun q => (p != q) && (g.r p).testBit q) n
def edR (g : Gr) (n : Nat) : Nat → Nat
  | 0 => 0
  | k + 1 => edR g n k + rowC g n k
theorem rowC_eq : ∀ n, n ≤ 5 → ∀ p, p < n → ∀ s, s < 2 ^ n → s.testBit p = true → cntB (fun q => (p != q) && s.testBit q) n + 1 = cardN s := by decide +kernel
theorem edR_eq {g : Gr} {n : Nat} (h : Wf g n) : ∀ k, k ≤ n → edG g k = (edR g n k : Int) + k - n
  | 0, _ => by rw [edG, edR, h.n_eq]; omega
  | k + 1, hk => by
    have h1 := edR_eq h k (by omega)
    have h2 := rowC_eq n h.n5 k (by omega) _ (h.lt k (by omega)) (h.own k (by omega))
    rw [edG, edR, h1]
    unfold rowC
    omega
theorem edG_out {g : Gr} {n : Nat} (h : Wf g n) : ∀ k, edG g (n + k) = edG g n
  | 0 => rfl
  | k + 1 => by
    rw [show n + (k + 1) = (n + k) + 1 from rfl, edG, edG_out h k, h.out (n + k) (by omega)]
    show _ + ((cardN 0 : Nat) : Int) = _
    rw [show cardN 0 = 0 by decide]; omega
theorem gedges_eq {g : Gr} {n : Nat} (h : Wf g n) : edG g 5 = (edR g n n : Int) := by
  obtain ⟨k, hk⟩ := Nat.exists_eq_add_of_le h.n5
  rw [hk, edG_out h k, edR_eq h n (Nat.le_refl _)]; omega
theorem cntB_le (P : Nat → Bool) : ∀ k, cntB P k ≤ k
  | 0 => Nat.le_refl _
  | k + 1 => by rw [cntB]; have := cntB_le P k; split <;> omega
theorem edR_le (g : Gr) (n : Nat) : ∀ k, edR g n k ≤ k * n
  | 0 => by simp [edR]
  | k + 1 => by rw [edR, Nat.succ_mul]; have := edR_le g n k; have := cntB_le (fun q => (k != q) && (g.r k).testBit q) n; unfold rowC; omega
theorem inG_end {a b : Gr} (h : ∀ p, p < 5 → a.r p &&& b.r p = a.r p) : inG a b = true := by
  unfold inG; simp only [List.all_eq_true, List.mem_range, beq_iff_eq]; exact h
theorem inG_no {a b : Gr} {p : Nat} (hp : p < 5) (h : a.r p &&& b.r p ≠ a.r p) : inG a b = false := by
  cases hi : inG a b with
  | false => rfl
  | true =>
    unfold inG at hi
    simp only [List.all_eq_true, List.mem_range, beq_iff_eq] at hi
    exact absurd (hi p hp) h
theorem inG_n {a b : Gr} {n : Nat} (ha : Wf a n) (h : ∀ p, p < n → a.r p &&& b.r p = a.r p) : inG a b = true := by
  refine inG_end fun p _ => ?_
  rcases Nat.lt_or_ge p n with h1 | h1
  · exact h p h1
  · rw [ha.out p h1]; simp
theorem nsG_no {g : Gr} {n p q : Nat} (h : Wf g n) (hp : p < n) (hq : q < p) (hz : g.r p &&& g.r q = 0) : nsG g = false := by
  cases hi : nsG g with
  | false => rfl
  | true =>
    unfold nsG at hi
    rw [h.toNat] at hi
    simp only [List.all_eq_true, List.mem_range, bne_iff_ne] at hi
    exact absurd hz (hi p hp q hq)
theorem nsG_end {g : Gr} {n : Nat} (h : Wf g n) (hz : ∀ p, p < n → ∀ q, q < p → g.r p &&& g.r q ≠ 0) : nsG g = true := by
  unfold nsG
  rw [h.toNat]
  simp only [List.all_eq_true, List.mem_range, bne_iff_ne]
  exact hz
theorem andnot_zero : ∀ x, x < 32 → ∀ y, y < 32 → (bits .andNot .i64 ((x : Nat) : Int) ((y : Nat) : Int) != 0) = !((x &&& y) == x) := by decide +kernel
end Go.Proofs.YtdlhnpogddpmpaaDoor
