/-
  Products of graphs (graph.gathered, product, Compose).
  Conditions: the table of math/bits lies in the heap (Tz).
-/
import Derived.Test.YthpccmmdkbjjhaaDoorFound
import Derived.Test.YthpccmmdkbjjhaaDoorOwned
import Derived.Test.YthpccmmdkbjjhaaDoorGBoth
import Derived.Laws.Bits64b
import Derived.Lib.TrailingZeros
import Derived.Maps.OwnIn
namespace Go.Proofs.YthpccmmdkbjjhaaDoor
open Go.RowKit

theorem tz_key (x a : Nat) (hx : x < 18446744073709551616) (hx0 : x ≠ 0) (hlow : x &&& (18446744073709551616 - x) = a) :
    IntKind.u64.wrap (bits BinOp.and IntKind.u64 (x : Int) (IntKind.u64.wrap (-(x : Int))) * 285870213051353865) / 288230376151711744 = ((a * 285870213051353865 % 18446744073709551616 / 288230376151711744 : Nat) : Int) := by
  have e1 : IntKind.u64.wrap (-(x : Int)) = ((18446744073709551616 - x : Nat) : Int) := by rw [IntKind.wrap_u64]; omega
  rw [e1, bits_and_u64_nat x _ hx (by omega), hlow, IntKind.wrap_u64]
  omega
end Go.Proofs.YthpccmmdkbjjhaaDoor

namespace Go.Proofs.YthpccmmdkbjjhaaDoor
open Go.RowKit
attribute [local go_sem] Oper.semAt_some

/-- append of one element that lies in a new block, in a round of a range over a function. -/
theorem wpListIn_append1 {F : Fence} {nF : Nat} {α : Type} {enc : α → List Value} {P : Program} {ops : Array Oper} {rest : List Oper} {o : Oper} {a : Act} {w : World} {Q : Exit → Act → World → Prop} (hgd : o.guard = none) (s x : Operand) (t : TypeId)
    (ho : o.op = .call { callee := .builtin .append, args := #[s, x], argTypes := #[t, t] })
    (base : Nat) (e : TypeId) (z : Value) (size bytes : Nat) (ht : P.underlying t = some (.slice e)) (hi : (P.info? e).map (fun i => (i.zero, i.size, i.bytes)) = some (some z, size, bytes)) (hzs : z.cells.size = size) (hsz : 0 < size)
    (v : Value) (l : List α) (y : α) (g : Nat) (hs : a.eval s = v) (hown : Own enc size w base e v l) (hx : a.eval x = .slice (some ⟨g, 0, none⟩) 1 1)
    (hnew : ∀ j u, (enc y)[j]? = some u → w.cell? ⟨g, j, none⟩ = some u) (h1 : ∀ u ∈ enc y, u.oneCell' = true) (hlen : (l.length + 1) * bytes ≤ 140737488355328) (hb : 0 < bytes) (hbase : base ≤ w.heap.size)
    (h : ∀ v' w', Own enc size w' base e v' (l ++ [y]) → w.grownBy w' v.ownBlock → (∃ g' c', v' = .slice (some ⟨g', 0, none⟩) (l.length + 1) c' ∧ (v.ownBlock = some g' ∨ g' = w.heap.size)) → wpListIn F nF P ops Q rest (a.put o.dst v') w') : wpListIn F nF P ops Q (o :: rest) a w := by
  cases hq : P.info? e with
  | none => rw [hq] at hi; cases hi
  | some i =>
    rw [hq] at hi
    simp only [Option.map_some, Option.some.injEq, Prod.mk.injEq] at hi
    obtain ⟨hz, hsize, hby⟩ := hi
    have hm : l.length + 1 ≤ maxLen := by
      have : (l.length + 1) * 1 ≤ (l.length + 1) * bytes := Nat.mul_le_mul_left _ hb
      unfold maxLen; omega
    refine wpListIn_append_own_at w hgd s x t ho base e i z size bytes ht hq hz hsize hby hzs hsz v l.length (l.flatMap enc) hs hown.2 ⟨g, 0, none⟩ 1 1 (enc y) hx (by rw [hown.1, Nat.one_mul]) (fun j u hu => ?_) h1 hm hlen hbase ?_
    · have := hnew j u hu
      rw [add_lit]
      exact this
    · intro v' w' h2 h3 h4 h6
      have ho' : Own enc size w' base e v' (l ++ [y]) := by
        refine ⟨hown.1, ?_⟩
        rw [List.length_append, List.flatMap_append]
        simpa using h2
      refine h v' w' ho' h3 ?_
      rcases ho'.form with ⟨_, h5⟩ | ⟨g', c', h5, _⟩
      · exact absurd h5 (by simp)
      · rw [List.length_append] at h5
        refine ⟨g', c', h5, ?_⟩
        rw [h5] at h6
        rcases h6 with h6 | h6
        · exact .inl h6.symm
        · exact .inr (by injection h6)
/-- The elements of a set of at most five processes. -/
def el (s : Nat) : List Nat := (List.range 5).filter fun p => s.testBit p
theorem el_next : ∀ x, x < 32 → x ≠ 0 → el x = Lib.ctz 64 x :: el (x &&& (x - 1)) ∧ x &&& (x - 1) < x := by decide +kernel
theorem el_zero : el 0 = [] := by decide
theorem el_lt {s m : Nat} (h : m ∈ el s) : m < 5 ∧ s.testBit m = true := by
  unfold el at h
  simpa using List.mem_filter.1 h
theorem el_len (s : Nat) : (el s).length ≤ 5 := by
  unfold el
  exact Nat.le_trans (List.length_filter_le _ _) (by simp)
abbrev elSeq (s : Nat) : List (Array Value) := (el s).map fun m : Nat => #[.int .i64 (m : Int)]
theorem bits_u64 (a b : Nat) (ha : a < 32) (hb : b < 32) : bits .and .u64 (a : Int) (b : Int) = ((a &&& b : Nat) : Int) := bits_and_u64_nat a b (by omega) (by omega)
def elI (s : Nat) : List Int := (el s).map fun m : Nat => (m : Int)
theorem elI_length (s : Nat) : (elI s).length = (el s).length := List.length_map _
theorem el_take {s i : Nat} (h : i < (el s).length) : ((elI s).take (i + 1)) = (elI s).take i ++ [((el s)[i] : Int)] := by
  rw [List.take_succ_eq_append_getElem (by rw [elI_length]; exact h)]; simp [elI]
end Go.Proofs.YthpccmmdkbjjhaaDoor

namespace Go.Proofs.YthpccmmdkbjjhaaDoor
open Go.RowKit
attribute [local go_sem] Oper.semAt_some

def gatL (f : Nat → Nat) (l : List Nat) : Nat := l.foldl (fun a m => a ||| f m) 0
theorem gatL_snoc (f : Nat → Nat) (l : List Nat) (m : Nat) : gatL f (l ++ [m]) = gatL f l ||| f m := by unfold gatL; rw [List.foldl_append]; rfl
theorem gatL_el (f : Nat → Nat) (s : Nat) : ∀ k, gatL f ((List.range k).filter fun p => s.testBit p) = unionR f s k
  | 0 => rfl
  | k + 1 => by
    rw [List.range_succ, List.filter_append, unionR]
    cases h : s.testBit k with
    | true => simp only [List.filter_cons, h, if_true, List.filter_nil]; rw [gatL_snoc, gatL_el f s k]
    | false => simp only [List.filter_cons, h, Bool.false_eq_true, if_false, List.filter_nil, List.append_nil, Nat.or_zero]; exact gatL_el f s k
theorem gatL_lt {f : Nat → Nat} (h : ∀ m, f m < 32) : ∀ (l : List Nat), gatL f l < 32 := by
  intro l
  unfold gatL
  have key : ∀ (l : List Nat) (a : Nat), a < 2 ^ 5 → l.foldl (fun a m => a ||| f m) a < 2 ^ 5 := by
    intro l
    induction l with
    | nil => intro a ha; exact ha
    | cons m l ih => intro a ha; exact ih _ (Nat.or_lt_two_pow ha (h m))
  exact key l 0 (by decide)
end Go.Proofs.YthpccmmdkbjjhaaDoor
