/-
  Products of graphs (graph.gathered, product, Compose).
  Conditions: the table of math/bits lies in the heap (Tz).
-/
import Derived.Test.YtdlhnpogddpmpaaGreatGSpec
import Derived.Test.YtdlhnpogddpmpaaGreatFound
import Derived.Test.YtdlhnpogddpmpaaGreatOwned
import Derived.Test.YtdlhnpogddpmpaaGreatHeldA
import Derived.Laws.Bits64b
import Derived.Lib.TrailingZeros
import Derived.Maps.OwnIn
namespace Go.Proofs.YtdlhnpogddpmpaaGreat
open Go.RowKit
attribute [local go_sem] Oper.semAt_some

theorem gr_new (w : World) (g : Gr) : GrBox (w.alloc (.cells #[.int .i64 g.n, .int .i64 g.h0, .int .i64 g.h1, .int .i64 g.h2, .int .i64 g.h3, .int .i64 g.h4] 37)) w.heap.size g := heap_alloc_new w _
theorem GrBox.alloc {W : World} {b : Nat} {g : Gr} (h : GrBox W b g) (o : Obj) : GrBox (W.alloc o) b g := (Below.heap_alloc _ _ _ (lt_of_heap h)).trans h
theorem GrBox.gstore_other {V : World} {b b' : Nat} {g r : Gr} (h : GrBox V b g) (hne : b ≠ b') : GrBox (gstore V b' r) b g := by
  show (gstore V b' r).heap[b]? = _
  rw [Below.heap_setCell _ _ _ _ hne, Below.heap_setCell _ _ _ _ hne, Below.heap_setCell _ _ _ _ hne, Below.heap_setCell _ _ _ _ hne, Below.heap_setCell _ _ _ _ hne, Below.heap_setCell _ _ _ _ hne]
  exact h
/-- The graph in a block. -/
noncomputable def grOf (V : World) (b : Nat) : Gr := open Classical in if h : ∃ g, GrBox V b g then Classical.choose h else gz0
/-- Two graphs in boxes of their own. -/
structure Two (w W : World) (a b : Gr) : Prop where
  ext : Ext w W
  a : GrBox W w.heap.size a
  b : GrBox W (w.heap.size + 1) b
theorem Two.mk_ (w : World) (a b : Gr) : Two w ((w.alloc (.cells #[.int .i64 a.n, .int .i64 a.h0, .int .i64 a.h1, .int .i64 a.h2, .int .i64 a.h3, .int .i64 a.h4] 37)).alloc (.cells #[.int .i64 b.n, .int .i64 b.h0, .int .i64 b.h1, .int .i64 b.h2, .int .i64 b.h3, .int .i64 b.h4] 37)) a b :=
  ⟨((Ext.refl w).alloc _).alloc _, (gr_new w a).alloc _, by
    have := gr_new (w.alloc (.cells #[.int .i64 a.n, .int .i64 a.h0, .int .i64 a.h1, .int .i64 a.h2, .int .i64 a.h3, .int .i64 a.h4] 37)) b
    rwa [World.size_alloc] at this⟩
theorem Two.ext_ {w W V : World} {a b : Gr} (h : Two w W a b) (hE : Ext W V) : Two w V a b := ⟨h.ext.trans hE, h.a.ext hE, h.b.ext hE⟩
/-- Two graphs in boxes of their own, and room for a third. -/
structure Three (w W : World) (a b : Gr) : Prop extends Two w W a b where
  c : ∃ g, GrBox W (w.heap.size + 1 + 1) g
abbrev gobj (g : Gr) : Obj := .cells #[.int .i64 g.n, .int .i64 g.h0, .int .i64 g.h1, .int .i64 g.h2, .int .i64 g.h3, .int .i64 g.h4] 37
abbrev gobj0 : Obj := .cells #[.int .i64 0, .int .i64 0, .int .i64 0, .int .i64 0, .int .i64 0, .int .i64 0] 37
theorem Three.mk_ (w : World) (a b : Gr) : Three w (((w.alloc (gobj a)).alloc (gobj b)).alloc gobj0) a b :=
  ⟨⟨(Two.mk_ w a b).ext.alloc _, (Two.mk_ w a b).a.alloc _, (Two.mk_ w a b).b.alloc _⟩, gz0, by
    have := gr_new ((w.alloc (gobj a)).alloc (gobj b)) gz0
    rwa [World.size_alloc, World.size_alloc] at this⟩
theorem Three.ext_ {w W V : World} {a b : Gr} (h : Three w W a b) (hE : Ext W V) : Three w V a b := ⟨h.toTwo.ext_ hE, by obtain ⟨g, hg⟩ := h.c; exact ⟨g, hg.ext hE⟩⟩
/-- A graph in a box of its own, and room for a second. -/
structure One1 (w W : World) (a : Gr) : Prop where
  ext : Ext w W
  a : GrBox W w.heap.size a
  c : ∃ g, GrBox W (w.heap.size + 1) g
theorem One1.mk_ (w : World) (a : Gr) : One1 w ((w.alloc (gobj a)).alloc gobj0) a :=
  ⟨((Ext.refl w).alloc _).alloc _, (gr_new w a).alloc _, gz0, by
    have := gr_new (w.alloc (gobj a)) gz0
    rwa [World.size_alloc] at this⟩
theorem One1.ext_ {w W V : World} {a : Gr} (h : One1 w W a) (hE : Ext W V) : One1 w V a := ⟨h.ext.trans hE, h.a.ext hE, by obtain ⟨g, hg⟩ := h.c; exact ⟨g, hg.ext hE⟩⟩
theorem bothS_a {a b : Gr} (h : gchk a ≠ 0) : bothS a b = gchk a := by unfold bothS; rw [if_pos h]
theorem bothS_b {a b : Gr} (h : gchk a = 0) (h2 : gchk b ≠ 0) : bothS a b = gchk b := by unfold bothS; rw [if_neg (by simp [h]), if_pos h2]
theorem bothS_n {a b : Gr} (h : gchk a = 0) (h2 : gchk b = 0) (h3 : a.n ≠ b.n) : bothS a b = 22 := by unfold bothS; rw [if_neg (by simp [h]), if_neg (by simp [h2]), if_pos h3]
theorem bothS_0 {a b : Gr} (h : gchk a = 0) (h2 : gchk b = 0) (h3 : a.n = b.n) : bothS a b = 0 := by unfold bothS; rw [if_neg (by simp [h]), if_neg (by simp [h2]), if_neg (by simp [h3])]

end Go.Proofs.YtdlhnpogddpmpaaGreat

namespace Go.Proofs.YtdlhnpogddpmpaaGreat
open Go.RowKit

theorem tz_key (x a : Nat) (hx : x < 18446744073709551616) (hx0 : x ≠ 0) (hlow : x &&& (18446744073709551616 - x) = a) :
    IntKind.u64.wrap (bits BinOp.and IntKind.u64 (x : Int) (IntKind.u64.wrap (-(x : Int))) * 285870213051353865) / 288230376151711744 = ((a * 285870213051353865 % 18446744073709551616 / 288230376151711744 : Nat) : Int) := by
  have e1 : IntKind.u64.wrap (-(x : Int)) = ((18446744073709551616 - x : Nat) : Int) := by rw [IntKind.wrap_u64]; omega
  rw [e1, bits_and_u64_nat x _ hx (by omega), hlow, IntKind.wrap_u64]
  omega
end Go.Proofs.YtdlhnpogddpmpaaGreat

namespace Go.Proofs.YtdlhnpogddpmpaaGreat
open Go.RowKit
attribute [local go_sem] Oper.semAt_some

/-- The elements of a set of at most five processes. -/
def el (s : Nat) : List Nat := (List.range 5).filter fun p => s.testBit p
theorem el_next : ∀ x, x < 32 → x ≠ 0 → el x = Lib.ctz 64 x :: el (x &&& (x - 1)) ∧ x &&& (x - 1) < x := by decide +kernel
theorem el_zero : el 0 = [] := by decide
theorem el_lt {s m : Nat} (h : m ∈ el s) : m < 5 ∧ s.testBit m = true := by
  unfold el at h
  simpa using List.mem_filter.1 h
theorem el_len (s : Nat) : (el s).length ≤ 5 := by
  unfold el
  exact Nat.le_trans (List.length_filter_le _ _) (by simp)
abbrev elSeq (s : Nat) : List (Array Value) := (el s).map fun m : Nat => #[.int .i64 (m : Int)]
theorem bits_u64 (a b : Nat) (ha : a < 32) (hb : b < 32) : bits .and .u64 (a : Int) (b : Int) = ((a &&& b : Nat) : Int) := bits_and_u64_nat a b (by omega) (by omega)
def elI (s : Nat) : List Int := (el s).map fun m : Nat => (m : Int)
theorem elI_length (s : Nat) : (elI s).length = (el s).length := List.length_map _
theorem el_take {s i : Nat} (h : i < (el s).length) : ((elI s).take (i + 1)) = (elI s).take i ++ [((el s)[i] : Int)] := by
  rw [List.take_succ_eq_append_getElem (by rw [elI_length]; exact h)]; simp [elI]
end Go.Proofs.YtdlhnpogddpmpaaGreat

namespace Go.Proofs.YtdlhnpogddpmpaaGreat
open Go.RowKit
attribute [local go_sem] Oper.semAt_some

def gatL (f : Nat → Nat) (l : List Nat) : Nat := l.foldl (fun a m => a ||| f m) 0
theorem gatL_snoc (f : Nat → Nat) (l : List Nat) (m : Nat) : gatL f (l ++ [m]) = gatL f l ||| f m := by unfold gatL; rw [List.foldl_append]; rfl
theorem gatL_el (f : Nat → Nat) (s : Nat) : ∀ k, gatL f ((List.range k).filter fun p => s.testBit p) = unionR f s k
  | 0 => rfl
  | k + 1 => by
    rw [List.range_succ, List.filter_append, unionR]
    cases h : s.testBit k with
    | true => simp only [List.filter_cons, h, if_true, List.filter_nil]; rw [gatL_snoc, gatL_el f s k]
    | false => simp only [List.filter_cons, h, Bool.false_eq_true, if_false, List.filter_nil, List.append_nil, Nat.or_zero]; exact gatL_el f s k
theorem gatL_lt {f : Nat → Nat} (h : ∀ m, f m < 32) : ∀ (l : List Nat), gatL f l < 32 := by
  intro l
  unfold gatL
  have key : ∀ (l : List Nat) (a : Nat), a < 2 ^ 5 → l.foldl (fun a m => a ||| f m) a < 2 ^ 5 := by
    intro l
    induction l with
    | nil => intro a ha; exact ha
    | cons m l ih => intro a ha; exact ih _ (Nat.or_lt_two_pow ha (h m))
  exact key l 0 (by decide)
end Go.Proofs.YtdlhnpogddpmpaaGreat
