/-
  The ground of this seat's proofs: worlds that only grow, small data as flat cells, regions that draw their order over calls that make memory.
  Conditions: none.
-/
import Derived.Test.YtpcboonjalbihaaDoorRows
import Derived.WalkKit
import Derived.WalkSpells
import Derived.WalkLawsBesides
import Derived.Deep.QuietTactic
import Derived.BigQuiet
namespace Go.Proofs.YtpcboonjalbihaaDoor
open Go.RowKit

/-- All that lay in w lies in W as it lay. -/
structure Ext (w W : World) : Prop where
  b : Below w.heap.size w W
@[go_sem] theorem Ext.refl (w : World) : Ext w w := ⟨Below.refl _ _⟩
theorem Ext.trans {a b c : World} (h : Ext a b) (k : Ext b c) : Ext a c := ⟨h.b.trans (k.b.mono h.b.size)⟩
theorem Ext.size {w W : World} (h : Ext w W) : w.heap.size ≤ W.heap.size := h.b.size
@[go_sem] theorem Ext.alloc {w W : World} (h : Ext w W) (o : Obj) : Ext w (W.alloc o) := ⟨h.b.alloc h.b.size o⟩
@[go_sem] theorem Ext.drew {w W : World} (h : Ext w W) : Ext w W.drew := ⟨h.b.drew⟩
@[go_sem] theorem Ext.drewN {w W : World} (h : Ext w W) (n : Nat) : Ext w (W.drewN n) := ⟨⟨h.b.os, h.b.tape, h.b.output, h.b.size, h.b.block⟩⟩
theorem Ext.setCell {w W : World} (h : Ext w W) {p : Addr} (hp : w.heap.size ≤ p.block) (u : Value) : Ext w (W.setCell p u) := ⟨h.b.setCell hp u⟩
theorem Ext.grown {w W W' : World} {row : Option Nat} (h : Ext w W) (hg : W.grownBy W' row) (hr : ∀ k, row = some k → w.heap.size ≤ k) : Ext w W' := ⟨h.b.grown hg h.b.size hr⟩
theorem Ext.cell {w W : World} (h : Ext w W) {p : Addr} (hp : p.block < w.heap.size) : W.cell? p = w.cell? p := h.b.cell hp
theorem Ext.frozen {w W : World} (h : Ext w W) {p : Addr} (hp : p.block < w.heap.size) : W.frozen? p = w.frozen? p := h.b.frozen hp
/-- The rules of a world behind a call: its old cells and marks. -/
theorem Ext.rules {W w1 : World} (h : Ext W w1) : (∀ b o, b < W.heap.size → w1.cell? ⟨b, o, none⟩ = W.cell? ⟨b, o, none⟩) ∧ (∀ b o, b < W.heap.size → w1.frozen? ⟨b, o, none⟩ = W.frozen? ⟨b, o, none⟩) :=
  ⟨fun b o hb => h.cell (p := ⟨b, o, none⟩) hb, fun b o hb => h.frozen (p := ⟨b, o, none⟩) hb⟩

/-- A later world, as one variable. -/
structure ExtOf (W : World) where
  w : World
  h : Ext W w
instance (W : World) : Inhabited (ExtOf W) := ⟨⟨W, Ext.refl _⟩⟩
@[go_sem] theorem ExtOf.cell {W : World} (x : ExtOf W) {b o : Nat} (h : b < W.heap.size) : x.w.cell? ⟨b, o, none⟩ = W.cell? ⟨b, o, none⟩ := x.h.cell (p := ⟨b, o, none⟩) h
@[go_sem] theorem ExtOf.ext {w W : World} (h : Ext w W) (x : ExtOf W) : Ext w x.w := h.trans x.h
theorem wp_region_ext {P : Program} {id : Nat} {Q : Exit → Act → World → Prop} {a : Act} {w : World} {l : List Oper} (hm : P.follows .mixedOrders = true) (hB : Region.lexB .any l.toArray = true)
    (h : wpQuiet P l.toArray (fun w' => ∃ x : ExtOf w, w' = x.w) (fun a' => ∀ w', (∃ x : ExtOf w, w' = x.w) → Q .normal a' w') l a) : (Code.region id l.toArray true).wp P Q a w :=
  wp_region_quiet (C := fun w' => ∃ x : ExtOf w, w' = x.w) hm hB ⟨⟨{ w with drawn := w.drawn + 1 }, ⟨⟨rfl, rfl, rfl, Nat.le_refl _, fun _ _ => rfl⟩⟩⟩, rfl⟩ (by simpa using h)
theorem Calls.ext_of {P : Program} {f : FuncId} {args : Array Value} {w : World} {x : ExtOf w} {v : Value}
    (h : Calls P f args x.w fun e w' => e = .returned v ∧ Ext x.w w') : Calls P f args x.w fun e w'' => e = .returned v ∧ ∃ y : ExtOf w, w'' = y.w :=
  h.mono fun _ w2 ⟨he, m⟩ => ⟨he, ⟨w2, x.h.trans m⟩, rfl⟩
theorem Calls.ext_same {P : Program} {f : FuncId} {args : Array Value} {w : World} {x : ExtOf w} {v : Value}
    (h : Calls P f args x.w fun e w' => e = .returned v ∧ w' = x.w) : Calls P f args x.w fun e w'' => e = .returned v ∧ ∃ y : ExtOf w, w'' = y.w :=
  h.mono fun _ _ ⟨he, m⟩ => ⟨he, x, m⟩

theorem hide {p : Prop} (h : p) : Hid p := h
theorem ret_int {k : IntKind} {a b : Int} (h : a = b) : Ending.returned (.int k a) = .returned (.int k b) := by rw [h]
theorem ret_bool {a b : Bool} (h : a = b) : Ending.returned (.bool a) = .returned (.bool b) := by rw [h]

/-- A graph, a round, a move: flat cells. -/
structure Gr where
  n : Int
  h0 : Int
  h1 : Int
  h2 : Int
  h3 : Int
  h4 : Int
  deriving DecidableEq
structure Rd where
  g : Gr
  f : Int
  deriving DecidableEq
structure Mv where
  r : Rd
  to : Int
  deriving DecidableEq
abbrev I (n : Int) : Value := .int .i64 n
abbrev Gr.cells (g : Gr) : List Value := [.int .i64 g.n, .int .i64 g.h0, .int .i64 g.h1, .int .i64 g.h2, .int .i64 g.h3, .int .i64 g.h4]
abbrev Gr.v (g : Gr) : Value := .agg #[.int .i64 g.n, .int .i64 g.h0, .int .i64 g.h1, .int .i64 g.h2, .int .i64 g.h3, .int .i64 g.h4]
abbrev Rd.cells (r : Rd) : List Value := [.int .i64 r.g.n, .int .i64 r.g.h0, .int .i64 r.g.h1, .int .i64 r.g.h2, .int .i64 r.g.h3, .int .i64 r.g.h4, .int .i64 r.f]
abbrev Rd.v (r : Rd) : Value := .agg #[.int .i64 r.g.n, .int .i64 r.g.h0, .int .i64 r.g.h1, .int .i64 r.g.h2, .int .i64 r.g.h3, .int .i64 r.g.h4, .int .i64 r.f]
abbrev Mv.cells (m : Mv) : List Value := [.int .i64 m.r.g.n, .int .i64 m.r.g.h0, .int .i64 m.r.g.h1, .int .i64 m.r.g.h2, .int .i64 m.r.g.h3, .int .i64 m.r.g.h4, .int .i64 m.r.f, .int .i64 m.to]
abbrev Mv.v (m : Mv) : Value := .agg #[.int .i64 m.r.g.n, .int .i64 m.r.g.h0, .int .i64 m.r.g.h1, .int .i64 m.r.g.h2, .int .i64 m.r.g.h3, .int .i64 m.r.g.h4, .int .i64 m.r.f, .int .i64 m.to]
/-- Row p of a graph. -/
def Gr.h (g : Gr) : Nat → Int
  | 0 => g.h0
  | 1 => g.h1
  | 2 => g.h2
  | 3 => g.h3
  | 4 => g.h4
  | _ => 0
theorem cell_new (w : World) (cs : Array Value) (t : TypeId) (j : Nat) : (w.alloc (.cells cs t)).cell? ⟨w.heap.size, j, none⟩ = cs[j]? := by
  rw [cell_of_row _ _ _ cs t (0, 0) (heap_alloc_new w _)]
/-- Row k of a graph that lies in a block of its own. -/
theorem Gr.row_at (n a b c d e : Int) (k : Nat) (hk : k < 5) : (#[.int .i64 n, .int .i64 a, .int .i64 b, .int .i64 c, .int .i64 d, .int .i64 e] : Array Value)[1 + k]? = some (.int .i64 (Gr.h ⟨n, a, b, c, d, e⟩ k)) := by
  obtain rfl | rfl | rfl | rfl | rfl : k = 0 ∨ k = 1 ∨ k = 2 ∨ k = 3 ∨ k = 4 := by omega
  all_goals rfl
theorem Gr.box_at (w : World) (n a b c d e : Int) (t : TypeId) (k : Nat) (hk : k < 5) :
    (w.alloc (.cells #[.int .i64 n, .int .i64 a, .int .i64 b, .int .i64 c, .int .i64 d, .int .i64 e] t)).cell? ⟨w.heap.size, 1 + k, none⟩ = some (.int .i64 (Gr.h ⟨n, a, b, c, d, e⟩ k)) := by
  rw [cell_new, Gr.row_at n a b c d e k hk]
end Go.Proofs.YtpcboonjalbihaaDoor
