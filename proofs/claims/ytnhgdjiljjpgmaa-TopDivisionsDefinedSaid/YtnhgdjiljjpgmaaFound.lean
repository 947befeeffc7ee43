/-
  '==' of graphs, rounds and moves: as their cells are.
  Conditions: none.
-/
import Derived.Test.YtnhgdjiljjpgmaaRows
import Derived.WalkKit
import Derived.WalkSpells
import Derived.WalkLawsBesides
import Derived.Deep.QuietTactic
import Derived.BigQuiet
namespace Go.Proofs.Ytnhgdjiljjpgmaa
open Go.RowKit

/-- All that lay in w lies in W as it lay. -/
structure Ext (w W : World) : Prop where
  b : Below w.heap.size w W
@[go_sem] theorem Ext.refl (w : World) : Ext w w := ⟨Below.refl _ _⟩
theorem Ext.trans {a b c : World} (h : Ext a b) (k : Ext b c) : Ext a c := ⟨h.b.trans (k.b.mono h.b.size)⟩
theorem Ext.size {w W : World} (h : Ext w W) : w.heap.size ≤ W.heap.size := h.b.size
@[go_sem] theorem Ext.alloc {w W : World} (h : Ext w W) (o : Obj) : Ext w (W.alloc o) := ⟨h.b.alloc h.b.size o⟩
@[go_sem] theorem Ext.drew {w W : World} (h : Ext w W) : Ext w W.drew := ⟨h.b.drew⟩
@[go_sem] theorem Ext.drewN {w W : World} (h : Ext w W) (n : Nat) : Ext w (W.drewN n) := ⟨⟨h.b.os, h.b.tape, h.b.output, h.b.size, h.b.block⟩⟩
theorem Ext.setCell {w W : World} (h : Ext w W) {p : Addr} (hp : w.heap.size ≤ p.block) (u : Value) : Ext w (W.setCell p u) := ⟨h.b.setCell hp u⟩
theorem Ext.grown {w W W' : World} {row : Option Nat} (h : Ext w W) (hg : W.grownBy W' row) (hr : ∀ k, row = some k → w.heap.size ≤ k) : Ext w W' := ⟨h.b.grown hg h.b.size hr⟩
theorem Ext.cell {w W : World} (h : Ext w W) {p : Addr} (hp : p.block < w.heap.size) : W.cell? p = w.cell? p := h.b.cell hp
theorem Ext.frozen {w W : World} (h : Ext w W) {p : Addr} (hp : p.block < w.heap.size) : W.frozen? p = w.frozen? p := h.b.frozen hp
/-- The rules of a world behind a call: its old cells and marks. -/
theorem Ext.rules {W w1 : World} (h : Ext W w1) : (∀ b o, b < W.heap.size → w1.cell? ⟨b, o, none⟩ = W.cell? ⟨b, o, none⟩) ∧ (∀ b o, b < W.heap.size → w1.frozen? ⟨b, o, none⟩ = W.frozen? ⟨b, o, none⟩) :=
  ⟨fun b o hb => h.cell (p := ⟨b, o, none⟩) hb, fun b o hb => h.frozen (p := ⟨b, o, none⟩) hb⟩

/-- A later world, as one variable. -/
structure ExtOf (W : World) where
  w : World
  h : Ext W w
instance (W : World) : Inhabited (ExtOf W) := ⟨⟨W, Ext.refl _⟩⟩
@[go_sem] theorem ExtOf.cell {W : World} (x : ExtOf W) {b o : Nat} (h : b < W.heap.size) : x.w.cell? ⟨b, o, none⟩ = W.cell? ⟨b, o, none⟩ := x.h.cell (p := ⟨b, o, none⟩) h
@[go_sem] theorem ExtOf.ext {w W : World} (h : Ext w W) (x : ExtOf W) : Ext w x.w := h.trans x.h
theorem wp_region_ext {P : Program} {id : Nat} {Q : Exit → Act → World → Prop} {a : Act} {w : World} {l : List Oper} (hm : P.follows .mixedOrders = true) (hB : Region.lexB .any l.toArray = true)
    (h : wpQuiet P l.toArray (fun w' => ∃ x : ExtOf w, w' = x.w) (fun a' => ∀ w', (∃ x : ExtOf w, w' = x.w) → Q .normal a' w') l a) : (Code.region id l.toArray true).wp P Q a w :=
  wp_region_quiet (C := fun w' => ∃ x : ExtOf w, w' = x.w) hm hB ⟨⟨{ w with drawn := w.drawn + 1 }, ⟨⟨rfl, rfl, rfl, Nat.le_refl _, fun _ _ => rfl⟩⟩⟩, rfl⟩ (by simpa using h)
theorem Calls.ext_of {P : Program} {f : FuncId} {args : Array Value} {w : World} {x : ExtOf w} {v : Value}
    (h : Calls P f args x.w fun e w' => e = .returned v ∧ Ext x.w w') : Calls P f args x.w fun e w'' => e = .returned v ∧ ∃ y : ExtOf w, w'' = y.w :=
  h.mono fun _ w2 ⟨he, m⟩ => ⟨he, ⟨w2, x.h.trans m⟩, rfl⟩
theorem Calls.ext_same {P : Program} {f : FuncId} {args : Array Value} {w : World} {x : ExtOf w} {v : Value}
    (h : Calls P f args x.w fun e w' => e = .returned v ∧ w' = x.w) : Calls P f args x.w fun e w'' => e = .returned v ∧ ∃ y : ExtOf w, w'' = y.w :=
  h.mono fun _ _ ⟨he, m⟩ => ⟨he, x, m⟩

theorem hide {p : Prop} (h : p) : Hid p := h
theorem ret_int {k : IntKind} {a b : Int} (h : a = b) : Ending.returned (.int k a) = .returned (.int k b) := by rw [h]
theorem ret_bool {a b : Bool} (h : a = b) : Ending.returned (.bool a) = .returned (.bool b) := by rw [h]

/-- A graph, a round, a move: flat cells. -/
structure Gr where
  n : Int
  h0 : Int
  h1 : Int
  h2 : Int
  h3 : Int
  h4 : Int
  deriving DecidableEq
structure Rd where
  g : Gr
  f : Int
  deriving DecidableEq
structure Mv where
  r : Rd
  to : Int
  deriving DecidableEq
abbrev I (n : Int) : Value := .int .i64 n
abbrev Gr.cells (g : Gr) : List Value := [.int .i64 g.n, .int .i64 g.h0, .int .i64 g.h1, .int .i64 g.h2, .int .i64 g.h3, .int .i64 g.h4]
abbrev Gr.v (g : Gr) : Value := .agg #[.int .i64 g.n, .int .i64 g.h0, .int .i64 g.h1, .int .i64 g.h2, .int .i64 g.h3, .int .i64 g.h4]
abbrev Rd.cells (r : Rd) : List Value := [.int .i64 r.g.n, .int .i64 r.g.h0, .int .i64 r.g.h1, .int .i64 r.g.h2, .int .i64 r.g.h3, .int .i64 r.g.h4, .int .i64 r.f]
abbrev Rd.v (r : Rd) : Value := .agg #[.int .i64 r.g.n, .int .i64 r.g.h0, .int .i64 r.g.h1, .int .i64 r.g.h2, .int .i64 r.g.h3, .int .i64 r.g.h4, .int .i64 r.f]
abbrev Mv.cells (m : Mv) : List Value := [.int .i64 m.r.g.n, .int .i64 m.r.g.h0, .int .i64 m.r.g.h1, .int .i64 m.r.g.h2, .int .i64 m.r.g.h3, .int .i64 m.r.g.h4, .int .i64 m.r.f, .int .i64 m.to]
abbrev Mv.v (m : Mv) : Value := .agg #[.int .i64 m.r.g.n, .int .i64 m.r.g.h0, .int .i64 m.r.g.h1, .int .i64 m.r.g.h2, .int .i64 m.r.g.h3, .int .i64 m.r.g.h4, .int .i64 m.r.f, .int .i64 m.to]
/-- Row p of a graph. -/
def Gr.h (g : Gr) : Nat → Int
  | 0 => g.h0
  | 1 => g.h1
  | 2 => g.h2
  | 3 => g.h3
  | 4 => g.h4
  | _ => 0
theorem cell_new (w : World) (cs : Array Value) (t : TypeId) (j : Nat) : (w.alloc (.cells cs t)).cell? ⟨w.heap.size, j, none⟩ = cs[j]? := by
  rw [cell_of_row _ _ _ cs t (0, 0) (heap_alloc_new w _)]
/-- Row k of a graph that lies in a block of its own. -/
theorem Gr.row_at (n a b c d e : Int) (k : Nat) (hk : k < 5) : (#[.int .i64 n, .int .i64 a, .int .i64 b, .int .i64 c, .int .i64 d, .int .i64 e] : Array Value)[1 + k]? = some (.int .i64 (Gr.h ⟨n, a, b, c, d, e⟩ k)) := by
  obtain rfl | rfl | rfl | rfl | rfl : k = 0 ∨ k = 1 ∨ k = 2 ∨ k = 3 ∨ k = 4 := by omega
  all_goals rfl
theorem Gr.box_at (w : World) (n a b c d e : Int) (t : TypeId) (k : Nat) (hk : k < 5) :
    (w.alloc (.cells #[.int .i64 n, .int .i64 a, .int .i64 b, .int .i64 c, .int .i64 d, .int .i64 e] t)).cell? ⟨w.heap.size, 1 + k, none⟩ = some (.int .i64 (Gr.h ⟨n, a, b, c, d, e⟩ k)) := by
  rw [cell_new, Gr.row_at n a b c d e k hk]
end Go.Proofs.Ytnhgdjiljjpgmaa

namespace Go.Proofs.Ytnhgdjiljjpgmaa
open Go.RowKit

def procs (n : Int) : Int := if n < 1 ∨ 5 < n then 1 else 0
def pchk (n s : Int) : Int := if n < 1 ∨ 5 < n then 1 else if s < 0 ∨ 2 ^ n.toNat ≤ s then 2 else 0
def has (s : Int) (p : Nat) : Bool := s / 2 ^ p % 2 == 1

theorem pow_le32 {n : Nat} (h : n ≤ 5) : (2 : Int) ^ n ≤ 32 ∧ (1 : Int) ≤ 2 ^ n := by
  obtain rfl | rfl | rfl | rfl | rfl | rfl : n = 0 ∨ n = 1 ∨ n = 2 ∨ n = 3 ∨ n = 4 ∨ n = 5 := by omega
  all_goals decide
theorem pow_pos' (n : Nat) : (1 : Int) ≤ 2 ^ n := by
  have : (0 : Int) < 2 ^ n := Int.pow_pos (by decide)
  omega
theorem pow_mono {a b : Nat} (h : a ≤ b) : (2 : Int) ^ a ≤ 2 ^ b := by
  obtain ⟨k, rfl⟩ := Nat.exists_eq_add_of_le h
  rw [Int.pow_add]
  have h1 := pow_pos' a
  have h2 := pow_pos' k
  calc (2 : Int) ^ a = 2 ^ a * 1 := by omega
    _ ≤ 2 ^ a * 2 ^ k := Int.mul_le_mul_of_nonneg_left h2 (by omega)
theorem pow_le_big {a : Nat} (h : a ≤ 60) : (2 : Int) ^ a ≤ 1152921504606846976 := pow_mono h
theorem div_pow_eq_zero {s : Int} {n : Nat} (h : 0 ≤ s) : s / 2 ^ n = 0 ↔ s < 2 ^ n := by
  have := pow_pos' n
  constructor
  · intro h0
    have := Int.lt_ediv_add_one_mul_self s (show (0 : Int) < 2 ^ n by omega)
    rw [h0] at this; omega
  · intro h0
    exact Int.ediv_eq_zero_of_lt h h0

theorem procs_any (n : Int) (w : World) : Calls Try.prog 112 #[.int .i64 n] w fun e w' => e = .returned (.int .i64 (procs n)) ∧ w' = w := by
  unfold procs
  by_cases h1 : n < 1
  · go_enter Try.func112, Try.ntmps112; go_wp2; go_ret; exact ⟨by simp, rfl⟩
  by_cases h2 : 5 < n
  all_goals (go_enter Try.func112, Try.ntmps112; go_wp2; go_ret; exact ⟨by simp, rfl⟩)

theorem rprocs_any (n : Int) (w : World) : Calls Try.prog 45 #[.int .i64 n] w fun e w' => e = .returned (.int .i64 (procs n)) ∧ w' = w := by
  unfold procs
  by_cases h1 : n < 1
  · go_enter Try.func45, Try.ntmps45; go_wp2; go_ret; exact ⟨by simp, rfl⟩
  by_cases h2 : 5 < n
  all_goals (go_enter Try.func45, Try.ntmps45; go_wp2; go_ret; exact ⟨by simp, rfl⟩)

theorem power_any (n : Int) (w : World) (h0 : 0 ≤ n) (h1 : n ≤ 60) : Calls Try.prog 85 #[.int .i64 n] w fun e w' => e = .returned (.int .i64 (2 ^ n.toNat)) ∧ w' = w := by
  obtain ⟨m, rfl⟩ := Int.eq_ofNat_of_zero_le h0
  go_enter Try.func85, Try.ntmps85
  go_wp2
  go_loop [3, 4] (fun o i => ∃ k : Nat, k ≤ m ∧ i = .int .i64 k ∧ o = .int .i64 (2 ^ k)) (fun _ i => m - (intOf i).toNat)
  case atStart => exact ⟨0, Nat.zero_le _, rfl, rfl⟩
  case round =>
    obtain ⟨k, hk, rfl, rfl⟩ := hrel
    have hp := pow_pos' k
    have hb := pow_le_big (a := k) (by omega)
    by_cases hlt : k < m
    · go_wp2
      go_round
      case rel => exact ⟨k + 1, by omega, by go_num, by rw [Int.pow_succ]⟩
      case measure => simp [intOf]; omega
    · go_wp2
      go_ret
      obtain rfl : k = m := by omega
      exact ⟨by simp, rfl⟩

theorem rhas_any (s p : Int) (w : World) (h0 : 0 ≤ p) (h1 : p ≤ 60) (hs : 0 ≤ s) (hs' : s ≤ 9223372036854775807) : Calls Try.prog 70 #[.int .i64 s, .int .i64 p] w fun e w' => e = .returned (.bool (has s p.toNat)) ∧ w' = w := by
  have hp := pow_pos' p.toNat
  have hq : 0 ≤ s / 2 ^ p.toNat := Int.ediv_nonneg hs (by omega)
  have hr : s / 2 ^ p.toNat ≤ s := Int.ediv_le_self _ hs
  have c := power_any p w h0 h1
  unfold has
  generalize (2 : Int) ^ p.toNat = P at c hp hq hr ⊢
  generalize hd : s / P = d at hq hr ⊢
  have c' := hide c; clear c
  have hd' : s.tdiv P = d := by rw [Int.tdiv_eq_ediv_of_nonneg hs]; exact hd
  have hd1 := hide hd; clear hd
  have hu : d ≤ 9223372036854775807 := by omega
  go_enter Try.func70, Try.ntmps70
  go_wp2_with (go_at_call 85; refine c'.out.mono ?_; rintro e w1 ⟨rfl, rfl⟩)
  go_ret
  exact ⟨rfl, rfl⟩

theorem ofInt_i64 (a : Nat) (ha : a < 9223372036854775808) : (BitVec.ofInt 64 (a : Int)).toNat = a := by
  rw [BitVec.ofInt_natCast, BitVec.toNat_ofNat]; exact Nat.mod_eq_of_lt (by omega)
theorem i64_and_nat (a b : Nat) (ha : a < 9223372036854775808) (hb : b < 9223372036854775808) : bits .and .i64 (a : Int) (b : Int) = ((a &&& b : Nat) : Int) := by
  have hx : a &&& b < 2 ^ 63 := Nat.and_lt_two_pow _ (by omega)
  show IntKind.i64.wrap ((BitVec.ofInt 64 (a : Int) &&& BitVec.ofInt 64 (b : Int)).toNat : Int) = _
  rw [BitVec.toNat_and, ofInt_i64 a ha, ofInt_i64 b hb, IntKind.wrap_i64]
  omega
theorem i64_or_nat (a b : Nat) (ha : a < 9223372036854775808) (hb : b < 9223372036854775808) : bits .or .i64 (a : Int) (b : Int) = ((a ||| b : Nat) : Int) := by
  have hx : a ||| b < 2 ^ 63 := Nat.or_lt_two_pow (by omega) (by omega)
  show IntKind.i64.wrap ((BitVec.ofInt 64 (a : Int) ||| BitVec.ofInt 64 (b : Int)).toNat : Int) = _
  rw [BitVec.toNat_or, ofInt_i64 a ha, ofInt_i64 b hb, IntKind.wrap_i64]
  omega
theorem and_one {x : Int} (h : 0 ≤ x) (h' : x ≤ 9223372036854775807) : bits .and .i64 x 1 = x % 2 := by
  obtain ⟨a, rfl⟩ := Int.eq_ofNat_of_zero_le h
  have := i64_and_nat a 1 (by omega) (by omega)
  rw [show ((1 : Nat) : Int) = 1 from rfl] at this
  rw [this, Nat.and_one_is_mod]
  omega

theorem rfull_any (n : Int) (w : World) (h0 : 0 ≤ n) (h1 : n ≤ 60) : Calls Try.prog 84 #[.int .i64 n] w fun e w' => e = .returned (.int .i64 (2 ^ n.toNat - 1)) ∧ w' = w := by
  have hp := pow_pos' n.toNat
  have hq := pow_le_big (a := n.toNat) (by omega)
  have c := power_any n w h0 h1
  generalize (2 : Int) ^ n.toNat = P at c hp hq ⊢
  have c' := hide c; clear c
  go_enter Try.func84, Try.ntmps84
  go_wp2_with (go_at_call 85; refine c'.out.mono ?_; rintro e w1 ⟨rfl, rfl⟩)
  go_ret
  exact ⟨rfl, rfl⟩

theorem pchk_neg {n s : Int} (h1 : ¬ (n < 1 ∨ 5 < n)) (h : s < 0) : pchk n s = 2 := by unfold pchk; rw [if_neg h1, if_pos (.inl h)]
theorem pchk_big {n s : Int} (h1 : ¬ (n < 1 ∨ 5 < n)) (h : 2 ^ n.toNat ≤ s) : pchk n s = 2 := by unfold pchk; rw [if_neg h1, if_pos (.inr h)]
theorem pchk_ok {n s : Int} (h1 : ¬ (n < 1 ∨ 5 < n)) (h : 0 ≤ s) (h2 : s < 2 ^ n.toNat) : pchk n s = 0 := by unfold pchk; rw [if_neg h1, if_neg (by omega)]
theorem pchk_bad {n s : Int} (h1 : n < 1 ∨ 5 < n) : pchk n s = 1 := by unfold pchk; rw [if_pos h1]

theorem pcheck_any (n s : Int) (w : World) : Calls Try.prog 103 #[.int .i64 n, .int .i64 s] w fun e w' => e = .returned (.int .i64 (pchk n s)) ∧ w' = w := by
  by_cases h : n < 1 ∨ 5 < n
  · have c := procs_any n w
    rw [show procs n = 1 by unfold procs; rw [if_pos h]] at c
    have hp := hide (pchk_bad (s := s) h)
    clear h
    go_enter Try.func103, Try.ntmps103
    go_wp2_with (go_at_call 112; refine c.mono ?_; rintro e w1 ⟨rfl, rfl⟩)
    go_ret
    exact ⟨ret_int hp.out.symm, rfl⟩
  · have c := procs_any n w
    rw [show procs n = 0 by unfold procs; rw [if_neg h]] at c
    have hn0 : 1 ≤ n := by omega
    have hn1 : n ≤ 5 := by omega
    by_cases hs : s < 0
    · have hp := hide (pchk_neg h hs)
      clear h
      go_enter Try.func103, Try.ntmps103
      go_wp2_with (go_at_call 112; refine c.mono ?_; rintro e w1 ⟨rfl, rfl⟩)
      go_ret
      exact ⟨ret_int hp.out.symm, rfl⟩
    · have hs0 : 0 ≤ s := by omega
      by_cases hz : s / 2 ^ n.toNat = 0
      · have hp := hide (pchk_ok h hs0 ((div_pow_eq_zero hs0).1 hz))
        have hb : (s / 2 ^ n.toNat != 0) = false := by simp [hz]
        clear h hz
        go_enter Try.func103, Try.ntmps103
        go_wp2_with (go_at_call 112; refine c.mono ?_; rintro e w1 ⟨rfl, rfl⟩)
        go_ret
        exact ⟨ret_int hp.out.symm, rfl⟩
      · have hp := hide (pchk_big (s := s) h (by have := mt (div_pow_eq_zero (s := s) (n := n.toNat) hs0).2 hz; omega))
        have hb : (s / 2 ^ n.toNat != 0) = true := by simp [hz]
        clear h hz
        go_enter Try.func103, Try.ntmps103
        go_wp2_with (go_at_call 112; refine c.mono ?_; rintro e w1 ⟨rfl, rfl⟩)
        go_ret
        exact ⟨ret_int hp.out.symm, rfl⟩

theorem rpcheck_any (n s : Int) (w : World) : Calls Try.prog 69 #[.int .i64 n, .int .i64 s] w fun e w' => e = .returned (.int .i64 (pchk n s)) ∧ w' = w := by
  by_cases h : n < 1 ∨ 5 < n
  · have c := rprocs_any n w
    rw [show procs n = 1 by unfold procs; rw [if_pos h]] at c
    have hp := hide (pchk_bad (s := s) h)
    clear h
    go_enter Try.func69, Try.ntmps69
    go_wp2_with (go_at_call 45; refine c.mono ?_; rintro e w1 ⟨rfl, rfl⟩)
    go_ret
    exact ⟨ret_int hp.out.symm, rfl⟩
  · have c := rprocs_any n w
    rw [show procs n = 0 by unfold procs; rw [if_neg h]] at c
    have c2 := power_any n w (by omega) (by omega)
    have hP := pow_pos' n.toNat
    by_cases hs : s < 0
    · have hp := hide (pchk_neg h hs)
      clear h
      go_enter Try.func69, Try.ntmps69
      go_wp2_with (go_at_call 45; refine c.mono ?_; rintro e w1 ⟨rfl, rfl⟩)
      go_ret
      exact ⟨ret_int hp.out.symm, rfl⟩
    · have hs0 : 0 ≤ s := by omega
      by_cases hz : 2 ^ n.toNat ≤ s
      · have hp := hide (pchk_big h hz)
        generalize (2 : Int) ^ n.toNat = P at c2 hP hz
        clear h
        go_enter Try.func69, Try.ntmps69
        go_wp2_with (first | (go_at_call 45; refine c.mono ?_; rintro e w1 ⟨rfl, rfl⟩) | (go_at_call 85; refine c2.mono ?_; rintro e w1 ⟨rfl, rfl⟩))
        go_ret
        exact ⟨ret_int hp.out.symm, rfl⟩
      · have hp := hide (pchk_ok h hs0 (by omega))
        generalize (2 : Int) ^ n.toNat = P at c2 hP hz
        clear h
        go_enter Try.func69, Try.ntmps69
        go_wp2_with (first | (go_at_call 45; refine c.mono ?_; rintro e w1 ⟨rfl, rfl⟩) | (go_at_call 85; refine c2.mono ?_; rintro e w1 ⟨rfl, rfl⟩))
        go_ret
        exact ⟨ret_int hp.out.symm, rfl⟩
end Go.Proofs.Ytnhgdjiljjpgmaa

namespace Go.Proofs.Ytnhgdjiljjpgmaa
open Go.RowKit

def firstNZ : List Int → Int
  | [] => 0
  | x :: l => if x = 0 then firstNZ l else x
/-- The error of row p. -/
def gchkAt (g : Gr) (p : Nat) : Int :=
  if g.n ≤ p then (if g.h p = 0 then 0 else 3)
  else if g.h p < 0 ∨ 2 ^ g.n.toNat - 1 < g.h p then 2
  else if has (g.h p) p = true then 0 else 3
def gchk (g : Gr) : Int := if g.n < 1 ∨ 5 < g.n then 2 else firstNZ [gchkAt g 0, gchkAt g 1, gchkAt g 2, gchkAt g 3, gchkAt g 4]

theorem gchk_bad {g : Gr} (h : g.n < 1 ∨ 5 < g.n) : gchk g = 2 := by unfold gchk; rw [if_pos h]
theorem gchk_ok {g : Gr} (h : ¬ (g.n < 1 ∨ 5 < g.n)) (hk : ∀ i, i < 5 → gchkAt g i = 0) : gchk g = 0 := by
  unfold gchk
  rw [if_neg h]
  simp [firstNZ, hk]
theorem gchk_err {g : Gr} {k : Nat} {e : Int} (h : ¬ (g.n < 1 ∨ 5 < g.n)) (hk : k < 5) (hb : ∀ i, i < k → gchkAt g i = 0) (he : gchkAt g k = e) (hne : e ≠ 0) : gchk g = e := by
  unfold gchk
  rw [if_neg h]
  obtain rfl | rfl | rfl | rfl | rfl : k = 0 ∨ k = 1 ∨ k = 2 ∨ k = 3 ∨ k = 4 := by omega
  all_goals simp [firstNZ, hb, he, hne]
theorem gchkAt_out_ok {g : Gr} {k : Nat} (h : g.n ≤ k) (hz : g.h k = 0) : gchkAt g k = 0 := by unfold gchkAt; rw [if_pos h, if_pos hz]
theorem gchkAt_out_bad {g : Gr} {k : Nat} (h : g.n ≤ k) (hz : g.h k ≠ 0) : gchkAt g k = 3 := by unfold gchkAt; rw [if_pos h, if_neg hz]
theorem gchkAt_range {g : Gr} {k : Nat} (h : ¬ g.n ≤ k) (hz : g.h k < 0 ∨ 2 ^ g.n.toNat - 1 < g.h k) : gchkAt g k = 2 := by unfold gchkAt; rw [if_neg h, if_pos hz]
theorem gchkAt_own {g : Gr} {k : Nat} (h : ¬ g.n ≤ k) (hz : ¬ (g.h k < 0 ∨ 2 ^ g.n.toNat - 1 < g.h k)) (hh : has (g.h k) k = false) : gchkAt g k = 3 := by
  unfold gchkAt; rw [if_neg h, if_neg hz, hh]; rfl
theorem gchkAt_ok {g : Gr} {k : Nat} (h : ¬ g.n ≤ k) (hz : ¬ (g.h k < 0 ∨ 2 ^ g.n.toNat - 1 < g.h k)) (hh : has (g.h k) k = true) : gchkAt g k = 0 := by
  unfold gchkAt; rw [if_neg h, if_neg hz, hh]; rfl

theorem idx5 (a b c d e : Int) (n : Int) (k : Nat) (hk : k < 5) (w : World) :
    (Instr.index 34 (.agg #[.int .i64 a, .int .i64 b, .int .i64 c, .int .i64 d, .int .i64 e]) (.int .i64 (k : Int))).run Try.prog w = .ok (.int .i64 (Gr.h ⟨n, a, b, c, d, e⟩ k)) w := by
  obtain rfl | rfl | rfl | rfl | rfl : k = 0 ∨ k = 1 ∨ k = 2 ∨ k = 3 ∨ k = 4 := by omega
  all_goals kernel_rfl

theorem full_any (n : Int) (w : World) (h0 : 0 ≤ n) (h1 : n ≤ 60) : Calls Try.prog 57 #[.int .i64 n] w fun e w' => e = .returned (.int .i64 (2 ^ n.toNat - 1)) ∧ w' = w := by
  have hp := pow_pos' n.toNat
  have hq := pow_le_big (a := n.toNat) (by omega)
  have he : wrap64 (wrap64 (2 ^ n.toNat) - 1) = 2 ^ n.toNat - 1 := by
    rw [IntWalk.wrap64_in (2 ^ n.toNat) ⟨by omega, by omega⟩, IntWalk.wrap64_in _ ⟨by omega, by omega⟩]
  have h2 := hide he
  clear he hp hq
  go_enter Try.func57, Try.ntmps57
  go_wp2
  go_ret
  exact ⟨ret_int h2.out, rfl⟩

theorem gchk_cases (g : Gr) (k : Nat) (hn : g.n ≤ 5) :
    (g.n ≤ k ∧ (g.h k != 0) = false ∧ gchkAt g k = 0) ∨ (g.n ≤ k ∧ (g.h k != 0) = true ∧ gchkAt g k = 3) ∨ (k < g.n ∧ g.h k < 0 ∧ gchkAt g k = 2) ∨ (k < g.n ∧ 0 ≤ g.h k ∧ 2 ^ g.n.toNat - 1 < g.h k ∧ gchkAt g k = 2) ∨
    (k < g.n ∧ 0 ≤ g.h k ∧ g.h k ≤ 2 ^ g.n.toNat - 1 ∧ (bits BinOp.and IntKind.i64 (g.h k / 2 ^ k) 1 == 0) = true ∧ gchkAt g k = 3) ∨
    (k < g.n ∧ 0 ≤ g.h k ∧ g.h k ≤ 2 ^ g.n.toNat - 1 ∧ (bits BinOp.and IntKind.i64 (g.h k / 2 ^ k) 1 == 0) = false ∧ gchkAt g k = 0) := by
  by_cases h1 : g.n ≤ k
  · by_cases h2 : g.h k = 0
    · exact .inl ⟨h1, by simp [h2], gchkAt_out_ok h1 h2⟩
    · exact .inr (.inl ⟨h1, by simp [h2], gchkAt_out_bad h1 h2⟩)
  · by_cases h2 : g.h k < 0
    · exact .inr (.inr (.inl ⟨by omega, h2, gchkAt_range h1 (.inl h2)⟩))
    · by_cases h3 : 2 ^ g.n.toNat - 1 < g.h k
      · exact .inr (.inr (.inr (.inl ⟨by omega, by omega, h3, gchkAt_range h1 (.inr h3)⟩)))
      · have hp := pow_le32 (n := g.n.toNat) (by omega)
        have hq : 0 ≤ g.h k / 2 ^ k := Int.ediv_nonneg (by omega) (by have := pow_pos' k; omega)
        have hr : g.h k / 2 ^ k ≤ g.h k := Int.ediv_le_self _ (by omega)
        have hb : bits BinOp.and IntKind.i64 (g.h k / 2 ^ k) 1 = g.h k / 2 ^ k % 2 := and_one hq (by omega)
        cases h4 : has (g.h k) k
        · refine .inr (.inr (.inr (.inr (.inl ⟨by omega, by omega, by omega, ?_, gchkAt_own h1 (by omega) h4⟩))))
          rw [hb]; unfold has at h4; rw [beq_eq_false_iff_ne] at h4; rw [beq_iff_eq]; omega
        · refine .inr (.inr (.inr (.inr (.inr ⟨by omega, by omega, by omega, ?_, gchkAt_ok h1 (by omega) h4⟩))))
          rw [hb]; unfold has at h4; rw [beq_iff_eq] at h4; rw [beq_eq_false_iff_ne]; omega

set_option maxHeartbeats 1000000 in
theorem gcheck_any (g : Gr) (w : World) : Calls Try.prog 104 #[g.v] w fun e w' => e = .returned (.int .i64 (gchk g)) ∧ Ext w w' := by
  obtain ⟨n, a, b, c, d, e⟩ := g
  dsimp only [Gr.v]
  by_cases h : n < 1 ∨ 5 < n
  · rw [gchk_bad (g := ⟨n, a, b, c, d, e⟩) h]
    go_enter Try.func104, Try.ntmps104
    go_wp2
    all_goals (go_ret; exact ⟨rfl, (Ext.refl w).alloc _⟩)
  · have hn0 : 1 ≤ n := by omega
    have hn1 : n ≤ 5 := by omega
    have hc := fun k => gchk_cases ⟨n, a, b, c, d, e⟩ k hn1
    generalize hres : gchk ⟨n, a, b, c, d, e⟩ = res
    have E : ∀ k e', k < 5 → (∀ i, i < k → gchkAt ⟨n, a, b, c, d, e⟩ i = 0) → gchkAt ⟨n, a, b, c, d, e⟩ k = e' → e' ≠ 0 → e' = res := fun k e' h1 h2 h3 h4 => (gchk_err h h1 h2 h3 h4).symm.trans hres
    have E0 : (∀ i, i < 5 → gchkAt ⟨n, a, b, c, d, e⟩ i = 0) → 0 = res := fun h1 => (gchk_ok h h1).symm.trans hres
    have hix := fun k hk => idx5 a b c d e n k hk
    have hbd := pow_le32 (n := n.toNat) (by omega)
    have hfull := fun w => full_any n w (by omega) (by omega)
    dsimp only at hc
    generalize (2 : Int) ^ n.toNat = P at hc hbd hfull
    generalize gchkAt ⟨n, a, b, c, d, e⟩ = at_ at hc E E0
    generalize Gr.h ⟨n, a, b, c, d, e⟩ = q at hc hix
    have HE := hide E
    have HE0 := hide E0
    have HC := hide hc
    have HX := hide hix
    have HF := hide hfull
    clear h E E0 hres hc hix hfull
    go_enter Try.func104, Try.ntmps104
    go_wp2
    go_loop [15] (fun i => ∃ k : Nat, k ≤ 5 ∧ i = .int .i64 k ∧ ∀ j, j < k → at_ j = 0) (fun i => 5 - (intOf i).toNat)
    case atStart => exact ⟨0, by omega, rfl, fun j hj => by omega⟩
    case round =>
      obtain ⟨k, hk, rfl, hj⟩ := hrel
      have HJ := hide hj
      clear hj
      by_cases hlt : k < 5
      · have hix := HX.out k hlt
        have hc := HC.out k
        have next : at_ k = 0 → ∀ j, j < k + 1 → at_ j = 0 := fun h0 j hj => by
          by_cases e : j = k
          · subst e; exact h0
          · exact HJ.out j (by omega)
        have HN := hide next
        have HEk := hide (HE.out k)
        have hp2 := pow_pos' k
        generalize q k = x at hix hc
        clear next
        rcases hc with ⟨h1, h2, h3⟩ | ⟨h1, h2, h3⟩ | ⟨h1, h2, h3⟩ | ⟨h1, h2, h4, h3⟩ | ⟨h1, h2, h4, h5, h3⟩ | ⟨h1, h2, h4, h5, h3⟩
        all_goals
          have H3 := hide h3
          clear h3
          go_wp2_with (go_at_call 57; refine (HF.out _).mono ?_; rintro e w1 ⟨rfl, rfl⟩)
          first
            | (go_ret; exact ⟨ret_int (HEk.out _ hlt HJ.out H3.out (by decide)), (Ext.refl w).alloc _⟩)
            | (go_round
               case rel => exact ⟨k + 1, by omega, by go_num, HN.out H3.out⟩
               case measure => simp [intOf]; omega)
      · obtain rfl : k = 5 := by omega
        go_wp2
        go_ret
        exact ⟨ret_int (HE0.out HJ.out), (Ext.refl w).alloc _⟩

theorem gchk_cases2 (g : Gr) (k : Nat) :
    (g.n ≤ k ∧ (g.h k != 0) = false ∧ gchkAt g k = 0) ∨ (g.n ≤ k ∧ (g.h k != 0) = true ∧ gchkAt g k = 3) ∨ (k < g.n ∧ g.h k < 0 ∧ gchkAt g k = 2) ∨ (k < g.n ∧ 0 ≤ g.h k ∧ 2 ^ g.n.toNat - 1 < g.h k ∧ gchkAt g k = 2) ∨
    (k < g.n ∧ 0 ≤ g.h k ∧ g.h k ≤ 2 ^ g.n.toNat - 1 ∧ has (g.h k) k = false ∧ gchkAt g k = 3) ∨
    (k < g.n ∧ 0 ≤ g.h k ∧ g.h k ≤ 2 ^ g.n.toNat - 1 ∧ has (g.h k) k = true ∧ gchkAt g k = 0) := by
  by_cases h1 : g.n ≤ k
  · by_cases h2 : g.h k = 0
    · exact .inl ⟨h1, by simp [h2], gchkAt_out_ok h1 h2⟩
    · exact .inr (.inl ⟨h1, by simp [h2], gchkAt_out_bad h1 h2⟩)
  · by_cases h2 : g.h k < 0
    · exact .inr (.inr (.inl ⟨by omega, h2, gchkAt_range h1 (.inl h2)⟩))
    · by_cases h3 : 2 ^ g.n.toNat - 1 < g.h k
      · exact .inr (.inr (.inr (.inl ⟨by omega, by omega, h3, gchkAt_range h1 (.inr h3)⟩)))
      · cases h4 : has (g.h k) k
        · exact .inr (.inr (.inr (.inr (.inl ⟨by omega, by omega, by omega, rfl, gchkAt_own h1 (by omega) h4⟩))))
        · exact .inr (.inr (.inr (.inr (.inr ⟨by omega, by omega, by omega, rfl, gchkAt_ok h1 (by omega) h4⟩))))

set_option maxHeartbeats 1000000 in
theorem rgcheck_any (g : Gr) (w : World) : Calls Try.prog 68 #[g.v] w fun e w' => e = .returned (.int .i64 (gchk g)) ∧ Ext w w' := by
  obtain ⟨n, a, b, c, d, e⟩ := g
  dsimp only [Gr.v]
  by_cases h : n < 1 ∨ 5 < n
  · rw [gchk_bad (g := ⟨n, a, b, c, d, e⟩) h]
    go_enter Try.func68, Try.ntmps68
    go_wp2
    all_goals (go_ret; exact ⟨rfl, (Ext.refl w).alloc _⟩)
  · have hn0 : 1 ≤ n := by omega
    have hn1 : n ≤ 5 := by omega
    have hc := fun k => gchk_cases2 ⟨n, a, b, c, d, e⟩ k
    generalize hres : gchk ⟨n, a, b, c, d, e⟩ = res
    have E : ∀ k e', k < 5 → (∀ i, i < k → gchkAt ⟨n, a, b, c, d, e⟩ i = 0) → gchkAt ⟨n, a, b, c, d, e⟩ k = e' → e' ≠ 0 → e' = res := fun k e' h1 h2 h3 h4 => (gchk_err h h1 h2 h3 h4).symm.trans hres
    have E0 : (∀ i, i < 5 → gchkAt ⟨n, a, b, c, d, e⟩ i = 0) → 0 = res := fun h1 => (gchk_ok h h1).symm.trans hres
    have hix := fun k hk => Gr.box_at w n a b c d e 36 k hk
    have hbd := pow_le32 (n := n.toNat) (by omega)
    have hfull := fun w => rfull_any n w (by omega) (by omega)
    dsimp only at hc
    generalize (2 : Int) ^ n.toNat = P at hc hbd hfull
    generalize gchkAt ⟨n, a, b, c, d, e⟩ = at_ at hc E E0
    generalize Gr.h ⟨n, a, b, c, d, e⟩ = q at hc hix
    have HE := hide E
    have HE0 := hide E0
    have HC := hide hc
    have HX := hide hix
    have HF := hide hfull
    clear h E E0 hres hc hix hfull
    go_enter Try.func68, Try.ntmps68
    go_wp2
    go_loop [3] (fun i => ∃ k : Nat, k ≤ 5 ∧ i = .int .i64 k ∧ ∀ j, j < k → at_ j = 0) (fun i => 5 - (intOf i).toNat)
    case atStart => exact ⟨0, by omega, rfl, fun j hj => by omega⟩
    case round =>
      obtain ⟨k, hk, rfl, hj⟩ := hrel
      have HJ := hide hj
      clear hj
      by_cases hlt : k < 5
      · have hix := HX.out k hlt
        have hc := HC.out k
        have next : at_ k = 0 → ∀ j, j < k + 1 → at_ j = 0 := fun h0 j hj => by
          by_cases e : j = k
          · subst e; exact h0
          · exact HJ.out j (by omega)
        have HN := hide next
        have HEk := hide (HE.out k)
        generalize q k = x at hix hc
        have ch := fun hs hs' w => rhas_any x k w (by omega) (by omega) hs hs'
        rw [Int.toNat_natCast] at ch
        have CH := hide ch
        clear next ch
        rcases hc with ⟨h1, h2, h3⟩ | ⟨h1, h2, h3⟩ | ⟨h1, h2, h3⟩ | ⟨h1, h2, h4, h3⟩ | ⟨h1, h2, h4, h5, h3⟩ | ⟨h1, h2, h4, h5, h3⟩
        all_goals
          have H3 := hide h3
          clear h3
          go_wp2_with (first | (go_at_call 84; refine (HF.out _).mono ?_; rintro e w1 ⟨rfl, rfl⟩) | (go_at_call 70; refine (CH.out (by omega) (by omega) _).mono ?_; rintro e w1 ⟨rfl, rfl⟩))
          first
            | (go_ret; exact ⟨ret_int (HEk.out _ hlt HJ.out H3.out (by decide)), (Ext.refl w).alloc _⟩)
            | (go_round
               case rel => exact ⟨k + 1, by omega, by go_num, HN.out H3.out⟩
               case measure => simp [intOf]; omega)
      · obtain rfl : k = 5 := by omega
        go_wp2
        go_ret
        exact ⟨ret_int (HE0.out HJ.out), (Ext.refl w).alloc _⟩
end Go.Proofs.Ytnhgdjiljjpgmaa

namespace Go.Proofs.Ytnhgdjiljjpgmaa
open Go.RowKit

def geq (g g' : Gr) : Bool := g.n == g'.n && (g.h0 == g'.h0 && (g.h1 == g'.h1 && (g.h2 == g'.h2 && (g.h3 == g'.h3 && g.h4 == g'.h4))))
theorem geq_iff {g g' : Gr} : geq g g' = true ↔ g = g' := by
  obtain ⟨n, a, b, c, d, e⟩ := g
  obtain ⟨n', a', b', c', d', e'⟩ := g'
  simp [geq]
theorem run_ite_ok (b c : Bool) (w : World) (P : Program) (k : Sem Bool) (h : k.run P w = .ok c w) : (if (!b) = true then (pure false : Sem Bool) else k).run P w = .ok (b && c) w := by
  cases b <;> simp [h]

theorem part_int (w : World) (cs : Array Value) (off : Nat) (v : Value) (h : cs[off]? = some v) : (part 3 cs off).run Try.prog w = .ok v w := by
  have h1 : (isAgg 3).run Try.prog w = .ok false w := by kernel_rfl
  simp [part, h1, h]
theorem eq_int (d : Nat) (a b : Int) (w : World) : (Op.equalIn (d + 1) 3 (.int .i64 a) (.int .i64 b)).run Try.prog w = .ok (a == b) w :=
  run_equalIn_int w d 3 .i64 .i64 a b Try.underlying3

theorem eq_arr5 (dd : Nat) (a b c d e a' b' c' d' e' : Int) (w : World) :
    (Op.equalIn (dd + 1 + 1) 34 (.agg #[.int .i64 a, .int .i64 b, .int .i64 c, .int .i64 d, .int .i64 e]) (.agg #[.int .i64 a', .int .i64 b', .int .i64 c', .int .i64 d', .int .i64 e'])).run Try.prog w =
      .ok (a == a' && (b == b' && (c == c' && (d == d' && e == e')))) w := by
  have hs : (sizeOf 3).run Try.prog w = .ok 1 w := by kernel_rfl
  rw [Op.equalIn]
  simp only [Sem.run_bind, run_underlying Try.underlying34, Result.andThen_ok, hs]
  rw [Std.Legacy.Range.forIn_eq_forIn_range']
  simp only [Std.Legacy.Range.size, Nat.sub_zero, Nat.add_one_sub_one, Nat.div_one, Nat.reduceAdd, List.range', List.forIn_cons, List.forIn_nil, Sem.run_bind, Nat.mul_one]
  rw [part_int w _ 0 (.int .i64 a) rfl, Result.andThen_ok, part_int w _ 0 (.int .i64 a') rfl, Result.andThen_ok, eq_int, Result.andThen_ok]
  cases ha : a == a'
  · simp
  simp only [Bool.not_true, Bool.false_eq_true, if_false, Sem.run_pure, Result.andThen_ok, Sem.run_bind, Bool.true_and]
  rw [part_int w _ 1 (.int .i64 b) rfl, Result.andThen_ok, part_int w _ 1 (.int .i64 b') rfl, Result.andThen_ok, eq_int, Result.andThen_ok]
  cases hb : b == b'
  · simp
  simp only [Bool.not_true, Bool.false_eq_true, if_false, Sem.run_pure, Result.andThen_ok, Sem.run_bind, Bool.true_and]
  rw [part_int w _ 2 (.int .i64 c) rfl, Result.andThen_ok, part_int w _ 2 (.int .i64 c') rfl, Result.andThen_ok, eq_int, Result.andThen_ok]
  cases hc : c == c'
  · simp
  simp only [Bool.not_true, Bool.false_eq_true, if_false, Sem.run_pure, Result.andThen_ok, Sem.run_bind, Bool.true_and]
  rw [part_int w _ 3 (.int .i64 d) rfl, Result.andThen_ok, part_int w _ 3 (.int .i64 d') rfl, Result.andThen_ok, eq_int, Result.andThen_ok]
  cases hd : d == d'
  · simp
  simp only [Bool.not_true, Bool.false_eq_true, if_false, Sem.run_pure, Result.andThen_ok, Sem.run_bind, Bool.true_and]
  rw [part_int w _ 4 (.int .i64 e) rfl, Result.andThen_ok, part_int w _ 4 (.int .i64 e') rfl, Result.andThen_ok, eq_int, Result.andThen_ok]
  cases he : e == e'
  · simp
  simp only [Bool.not_true, Bool.false_eq_true, if_false, Sem.run_pure, Result.andThen_ok]
  done

theorem part_agg (w : World) (t : TypeId) (k : Nat) (cs : Array Value) (off : Nat) (h1 : (isAgg t).run Try.prog w = .ok true w) (h2 : (sizeOf t).run Try.prog w = .ok k w) : (part t cs off).run Try.prog w = .ok (.agg (cs.extract off (off + k))) w := by
  simp [part, h1, h2]
/-- '==' of graphs. -/
theorem eq_graph (dd : Nat) (n a b c d e n' a' b' c' d' e' : Int) (w : World) :
    (Op.equalIn (dd + 1 + 1 + 1) 36 (.agg #[.int .i64 n, .int .i64 a, .int .i64 b, .int .i64 c, .int .i64 d, .int .i64 e]) (.agg #[.int .i64 n', .int .i64 a', .int .i64 b', .int .i64 c', .int .i64 d', .int .i64 e'])).run Try.prog w =
      .ok (geq ⟨n, a, b, c, d, e⟩ ⟨n', a', b', c', d', e'⟩) w := by
  rw [run_equalIn_struct w _ _ _ _ (by kernel_rfl) (by kernel_rfl)]
  have h1 := part_agg w 34 5 #[.int .i64 n, .int .i64 a, .int .i64 b, .int .i64 c, .int .i64 d, .int .i64 e] 1 (by kernel_rfl) (by kernel_rfl)
  have h2 := part_agg w 34 5 #[.int .i64 n', .int .i64 a', .int .i64 b', .int .i64 c', .int .i64 d', .int .i64 e'] 1 (by kernel_rfl) (by kernel_rfl)
  have e1 : (#[.int .i64 n, .int .i64 a, .int .i64 b, .int .i64 c, .int .i64 d, .int .i64 e] : Array Value).extract 1 (1 + 5) = #[.int .i64 a, .int .i64 b, .int .i64 c, .int .i64 d, .int .i64 e] := rfl
  have e2 : (#[.int .i64 n', .int .i64 a', .int .i64 b', .int .i64 c', .int .i64 d', .int .i64 e'] : Array Value).extract 1 (1 + 5) = #[.int .i64 a', .int .i64 b', .int .i64 c', .int .i64 d', .int .i64 e'] := rfl
  rw [e1] at h1
  rw [e2] at h2
  simp only [Program.fieldsOf, Try.underlying36, Op.eqFields]
  simp only [ne_eq, String.reduceEq, not_false_eq_true, if_true, Sem.run_bind]
  rw [part_int w _ 0 (.int .i64 n) rfl, Result.andThen_ok, part_int w _ 0 (.int .i64 n') rfl, Result.andThen_ok, eq_int, Result.andThen_ok]
  cases hn : n == n'
  · simp [geq, hn]
  simp only [Bool.not_true, Bool.false_eq_true, if_false, Sem.run_bind, h1, h2, Result.andThen_ok, eq_arr5]
  cases ha : (a == a' && (b == b' && (c == c' && (d == d' && e == e')))) <;> simp [geq, hn, ha]
theorem eql_graph (n a b c d e n' a' b' c' d' e' : Int) (w : World) :
    (binOp .eql 36 (.agg #[.int .i64 n, .int .i64 a, .int .i64 b, .int .i64 c, .int .i64 d, .int .i64 e]) (.agg #[.int .i64 n', .int .i64 a', .int .i64 b', .int .i64 c', .int .i64 d', .int .i64 e'])).run Try.prog w =
      .ok (.bool (geq ⟨n, a, b, c, d, e⟩ ⟨n', a', b', c', d', e'⟩)) w := by
  rw [run_eql_struct, eq_graph 9997]; rfl
theorem neq_graph (n a b c d e n' a' b' c' d' e' : Int) (w : World) :
    (binOp .neq 36 (.agg #[.int .i64 n, .int .i64 a, .int .i64 b, .int .i64 c, .int .i64 d, .int .i64 e]) (.agg #[.int .i64 n', .int .i64 a', .int .i64 b', .int .i64 c', .int .i64 d', .int .i64 e'])).run Try.prog w =
      .ok (.bool (!geq ⟨n, a, b, c, d, e⟩ ⟨n', a', b', c', d', e'⟩)) w := by
  rw [run_neq_struct, eq_graph 9997]; rfl
def req (r r' : Rd) : Bool := geq r.g r'.g && r.f == r'.f
theorem req_iff {r r' : Rd} : req r r' = true ↔ r = r' := by
  obtain ⟨g, f⟩ := r
  obtain ⟨g', f'⟩ := r'
  simp [req, geq_iff]
theorem eq_round (dd : Nat) (n a b c d e f n' a' b' c' d' e' f' : Int) (w : World) :
    (Op.equalIn (dd + 1 + 1 + 1 + 1) 38 (.agg #[.int .i64 n, .int .i64 a, .int .i64 b, .int .i64 c, .int .i64 d, .int .i64 e, .int .i64 f]) (.agg #[.int .i64 n', .int .i64 a', .int .i64 b', .int .i64 c', .int .i64 d', .int .i64 e', .int .i64 f'])).run Try.prog w =
      .ok (req ⟨⟨n, a, b, c, d, e⟩, f⟩ ⟨⟨n', a', b', c', d', e'⟩, f'⟩) w := by
  rw [run_equalIn_struct w _ _ _ _ (by kernel_rfl) (by kernel_rfl)]
  have h1 := part_agg w 36 6 #[.int .i64 n, .int .i64 a, .int .i64 b, .int .i64 c, .int .i64 d, .int .i64 e, .int .i64 f] 0 (by kernel_rfl) (by kernel_rfl)
  have h2 := part_agg w 36 6 #[.int .i64 n', .int .i64 a', .int .i64 b', .int .i64 c', .int .i64 d', .int .i64 e', .int .i64 f'] 0 (by kernel_rfl) (by kernel_rfl)
  have e1 : (#[.int .i64 n, .int .i64 a, .int .i64 b, .int .i64 c, .int .i64 d, .int .i64 e, .int .i64 f] : Array Value).extract 0 (0 + 6) = #[.int .i64 n, .int .i64 a, .int .i64 b, .int .i64 c, .int .i64 d, .int .i64 e] := rfl
  have e2 : (#[.int .i64 n', .int .i64 a', .int .i64 b', .int .i64 c', .int .i64 d', .int .i64 e', .int .i64 f'] : Array Value).extract 0 (0 + 6) = #[.int .i64 n', .int .i64 a', .int .i64 b', .int .i64 c', .int .i64 d', .int .i64 e'] := rfl
  rw [e1] at h1
  rw [e2] at h2
  simp only [Program.fieldsOf, Try.underlying38, Op.eqFields]
  simp only [ne_eq, String.reduceEq, not_false_eq_true, if_true, Sem.run_bind, h1, h2, Result.andThen_ok, eq_graph]
  cases hn : geq ⟨n, a, b, c, d, e⟩ ⟨n', a', b', c', d', e'⟩
  · simp [req, hn]
  simp only [Bool.not_true, Bool.false_eq_true, if_false, Sem.run_bind]
  rw [part_int w _ 6 (.int .i64 f) rfl, Result.andThen_ok, part_int w _ 6 (.int .i64 f') rfl, Result.andThen_ok, eq_int, Result.andThen_ok]
  cases hf : f == f' <;> simp [req, hn, hf]
theorem eql_round (n a b c d e f n' a' b' c' d' e' f' : Int) (w : World) :
    (binOp .eql 38 (.agg #[.int .i64 n, .int .i64 a, .int .i64 b, .int .i64 c, .int .i64 d, .int .i64 e, .int .i64 f]) (.agg #[.int .i64 n', .int .i64 a', .int .i64 b', .int .i64 c', .int .i64 d', .int .i64 e', .int .i64 f'])).run Try.prog w =
      .ok (.bool (req ⟨⟨n, a, b, c, d, e⟩, f⟩ ⟨⟨n', a', b', c', d', e'⟩, f'⟩)) w := by
  rw [run_eql_struct, eq_round 9996]; rfl
theorem neq_round (n a b c d e f n' a' b' c' d' e' f' : Int) (w : World) :
    (binOp .neq 38 (.agg #[.int .i64 n, .int .i64 a, .int .i64 b, .int .i64 c, .int .i64 d, .int .i64 e, .int .i64 f]) (.agg #[.int .i64 n', .int .i64 a', .int .i64 b', .int .i64 c', .int .i64 d', .int .i64 e', .int .i64 f'])).run Try.prog w =
      .ok (.bool (!req ⟨⟨n, a, b, c, d, e⟩, f⟩ ⟨⟨n', a', b', c', d', e'⟩, f'⟩)) w := by
  rw [run_neq_struct, eq_round 9996]; rfl
def meq (r r' : Mv) : Bool := req r.r r'.r && r.to == r'.to
theorem meq_iff {r r' : Mv} : meq r r' = true ↔ r = r' := by
  obtain ⟨g, f⟩ := r
  obtain ⟨g', f'⟩ := r'
  simp [meq, req_iff]
theorem eq_move (dd : Nat) (n a b c d e f t n' a' b' c' d' e' f' t' : Int) (w : World) :
    (Op.equalIn (dd + 1 + 1 + 1 + 1 + 1) 97 (.agg #[.int .i64 n, .int .i64 a, .int .i64 b, .int .i64 c, .int .i64 d, .int .i64 e, .int .i64 f, .int .i64 t]) (.agg #[.int .i64 n', .int .i64 a', .int .i64 b', .int .i64 c', .int .i64 d', .int .i64 e', .int .i64 f', .int .i64 t'])).run Try.prog w =
      .ok (meq ⟨⟨⟨n, a, b, c, d, e⟩, f⟩, t⟩ ⟨⟨⟨n', a', b', c', d', e'⟩, f'⟩, t'⟩) w := by
  rw [run_equalIn_struct w _ _ _ _ (by kernel_rfl) (by kernel_rfl)]
  have h1 := part_agg w 38 7 #[.int .i64 n, .int .i64 a, .int .i64 b, .int .i64 c, .int .i64 d, .int .i64 e, .int .i64 f, .int .i64 t] 0 (by kernel_rfl) (by kernel_rfl)
  have h2 := part_agg w 38 7 #[.int .i64 n', .int .i64 a', .int .i64 b', .int .i64 c', .int .i64 d', .int .i64 e', .int .i64 f', .int .i64 t'] 0 (by kernel_rfl) (by kernel_rfl)
  have e1 : (#[.int .i64 n, .int .i64 a, .int .i64 b, .int .i64 c, .int .i64 d, .int .i64 e, .int .i64 f, .int .i64 t] : Array Value).extract 0 (0 + 7) = #[.int .i64 n, .int .i64 a, .int .i64 b, .int .i64 c, .int .i64 d, .int .i64 e, .int .i64 f] := rfl
  have e2 : (#[.int .i64 n', .int .i64 a', .int .i64 b', .int .i64 c', .int .i64 d', .int .i64 e', .int .i64 f', .int .i64 t'] : Array Value).extract 0 (0 + 7) = #[.int .i64 n', .int .i64 a', .int .i64 b', .int .i64 c', .int .i64 d', .int .i64 e', .int .i64 f'] := rfl
  rw [e1] at h1
  rw [e2] at h2
  simp only [Program.fieldsOf, Try.underlying97, Op.eqFields]
  simp only [ne_eq, String.reduceEq, not_false_eq_true, if_true, Sem.run_bind, h1, h2, Result.andThen_ok, eq_round]
  cases hn : req ⟨⟨n, a, b, c, d, e⟩, f⟩ ⟨⟨n', a', b', c', d', e'⟩, f'⟩
  · simp [meq, hn]
  simp only [Bool.not_true, Bool.false_eq_true, if_false, Sem.run_bind]
  rw [part_int w _ 7 (.int .i64 t) rfl, Result.andThen_ok, part_int w _ 7 (.int .i64 t') rfl, Result.andThen_ok, eq_int, Result.andThen_ok]
  cases hf : t == t' <;> simp [meq, hn, hf]
theorem eql_move (n a b c d e f t n' a' b' c' d' e' f' t' : Int) (w : World) :
    (binOp .eql 97 (.agg #[.int .i64 n, .int .i64 a, .int .i64 b, .int .i64 c, .int .i64 d, .int .i64 e, .int .i64 f, .int .i64 t]) (.agg #[.int .i64 n', .int .i64 a', .int .i64 b', .int .i64 c', .int .i64 d', .int .i64 e', .int .i64 f', .int .i64 t'])).run Try.prog w =
      .ok (.bool (meq ⟨⟨⟨n, a, b, c, d, e⟩, f⟩, t⟩ ⟨⟨⟨n', a', b', c', d', e'⟩, f'⟩, t'⟩)) w := by
  rw [run_eql_struct, eq_move 9995]; rfl
theorem neq_move (n a b c d e f t n' a' b' c' d' e' f' t' : Int) (w : World) :
    (binOp .neq 97 (.agg #[.int .i64 n, .int .i64 a, .int .i64 b, .int .i64 c, .int .i64 d, .int .i64 e, .int .i64 f, .int .i64 t]) (.agg #[.int .i64 n', .int .i64 a', .int .i64 b', .int .i64 c', .int .i64 d', .int .i64 e', .int .i64 f', .int .i64 t'])).run Try.prog w =
      .ok (.bool (!meq ⟨⟨⟨n, a, b, c, d, e⟩, f⟩, t⟩ ⟨⟨⟨n', a', b', c', d', e'⟩, f'⟩, t'⟩)) w := by
  rw [run_neq_struct, eq_move 9995]; rfl
end Go.Proofs.Ytnhgdjiljjpgmaa
