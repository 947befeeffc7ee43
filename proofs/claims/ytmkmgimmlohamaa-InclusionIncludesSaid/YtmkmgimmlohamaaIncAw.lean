/-
  The law's examples hold (awake of law 20).
  Conditions: none.
-/
import Derived.Test.YtmkmgimmlohamaaIncV
import Derived.Test.YtmkmgimmlohamaaSameR
import Derived.Test.YtmkmgimmlohamaaIncSim
import Derived.Test.YtmkmgimmlohamaaIncX
import Derived.Test.YtmkmgimmlohamaaSame
import Derived.RegionTactic
import Derived.ChangeAlike
namespace Go.Proofs.Ytmkmgimmlohamaa
open Go.RowKit
attribute [local go_sem] Oper.semAt_some

theorem neq_pair (a b a' b' : Int) (w : World) : (binOp .neq 45 (.agg #[.int .i64 a, .int .i64 b]) (.agg #[.int .i64 a', .int .i64 b'])).run Try.prog w = .ok (.bool (!(a == a' && b == b'))) w := by
  rw [run_neq_struct, eq_arr2 9998]; rfl
theorem peq_pair (a b a' b' : Int) (w : World) : (binOp .eql 45 (.agg #[.int .i64 a, .int .i64 b]) (.agg #[.int .i64 a', .int .i64 b'])).run Try.prog w = .ok (.bool (a == a' && b == b')) w := by
  rw [run_eql_struct, eq_arr2 9998]; rfl
set_option maxHeartbeats 1000000 in
theorem sequal_pr (a b : List (Int × Int)) (u v : Value) (w : World) (ha : Row pcells 2 w u a) (hb : Row pcells 2 w v b) :
    Calls Try.prog 17 #[u, v] w fun e w' => e = .returned (.bool (decide (a = b))) ∧ Ext w w' := by
  obtain ⟨p, c, rfl, hc, hl, hat⟩ := ha.pr_all
  obtain ⟨q, d, rfl, hd, hm, hat2⟩ := hb.pr_all
  have HA := hide hat
  have HB := hide hat2
  clear ha hb hat hat2
  by_cases hlen : a.length = b.length
  · have H1 := hide (fun i => list_ne_at (a := a) (b := b) (i := i) (d := default))
    have H2 := hide (list_eq_of (a := a) (b := b) (d := default) hlen)
    have hlen' := hlen.symm
    clear hlen
    generalize decide (a = b) = res at H1 H2 ⊢
    generalize b.length = lb at *
    generalize a.length = la at *
    subst hlen'
    generalize hfa : a.getD = fa at *
    generalize hfb : b.getD = fb at *
    clear hfa hfb
    go_enter Try.func17, Try.ntmps17
    go_wp2_with fail
    go_loopw [13, 5] (fun x _ wr => ∃ i : Nat, i ≤ lb ∧ x = .int .i64 i ∧ (∀ j, j < i → fa j default = fb j default) ∧ Ext w wr) (fun x _ _ => lb - (intOf x).toNat)
    case atStart => exact ⟨0, by omega, rfl, fun j hj => by omega, Ext.refl _⟩
    case round =>
      obtain ⟨i, hi, rfl, hj, hE⟩ := hrel
      have HJ := hide hj
      clear hj
      by_cases hlt : i < lb
      · obtain ⟨b1, o1, rfl, hb1, hat⟩ := HA.out (by omega)
        obtain ⟨b2, o2, rfl, hb2, hat2⟩ := HB.out (by omega)
        have HX := hide (hat i hlt)
        have HY := hide (hat2 i hlt)
        clear hat hat2
        have HF := hide (H1.out i)
        have HN : Hid (fa i default = fb i default → ∀ j, j < i + 1 → fa j default = fb j default) := fun h j hj => by
          by_cases e : j = i
          · subst e; exact h
          · exact HJ.out j (by omega)
        generalize fa i default = m at HX HF HN
        generalize fb i default = m' at HY HF HN
        obtain ⟨m1, m2⟩ := m
        obtain ⟨n1, n2⟩ := m'
        have HQ : Hid ((m1 == n1 && m2 == n2) = true ↔ ((m1, m2) : Int × Int) = (n1, n2)) := by
          show _ ↔ _
          rw [Bool.and_eq_true, beq_iff_eq, beq_iff_eq, Prod.mk.injEq]
        have heq := neq_pair m1 m2 n1 n2
        have hX : ∀ W, Ext w W → W.cell? ⟨b1, o1 + i * 2, none⟩ = some (.int .i64 m1) ∧ W.cell? ⟨b1, o1 + i * 2 + 1, none⟩ = some (.int .i64 m2) := HX.out
        have hY : ∀ W, Ext w W → W.cell? ⟨b2, o2 + i * 2, none⟩ = some (.int .i64 n1) ∧ W.cell? ⟨b2, o2 + i * 2 + 1, none⟩ = some (.int .i64 n2) := HY.out
        have x0 := fun W hW => (hX W hW).1
        have x1 := fun W hW => (hX W hW).2
        have y0 := fun W hW => (hY W hW).1
        have y1 := fun W hW => (hY W hW).2
        clear hX hY HX HY
        generalize (m1 == n1 && m2 == n2) = g at heq HQ
        go_wp2_with fail
        refine wp_region_ext (by kernel_rfl) (by kernel_rfl) ?_
        repeat (go_big_quiet_step (fail))
        refine wpQuiet_nil ?_
        rintro w9 ⟨⟨_, hE9⟩, rfl⟩
        clear heq
        cases g
        · have HR := hide (HF.out hlt (fun h => by have := HQ.out.2 h; cases this))
          go_wp2
          go_ret
          exact ⟨ret_bool HR.out.symm, hE.trans hE9⟩
        · have HR := hide (HN.out (HQ.out.1 rfl))
          go_wp2
          go_roundw
          case rel => exact ⟨i + 1, by omega, by go_num, HR.out, hE.trans hE9⟩
          case measure => simp [intOf]; omega
      · obtain rfl : i = lb := by omega
        have HR := hide (H2.out HJ.out)
        go_wp2_with fail
        go_ret
        exact ⟨ret_bool HR.out.symm, hE⟩
  · have hne : decide (a = b) = false := decide_eq_false (fun h => hlen (by rw [h]))
    rw [hne]
    have hb : ((a.length : Int) != (b.length : Int)) = true := by simp; omega
    clear hlen hne
    go_enter Try.func17, Try.ntmps17
    go_wp2_with fail
    go_ret
    exact ⟨rfl, Ext.refl _⟩
end Go.Proofs.Ytmkmgimmlohamaa

namespace Go.Proofs.Ytmkmgimmlohamaa
open Go.RowKit
attribute [local go_sem] Oper.semAt_some

abbrev lx : Rd := ⟨⟨2, 3, 2, 0, 0, 0⟩, 0⟩
abbrev ly : Rd := ⟨⟨2, 3, 3, 0, 0, 0⟩, 0⟩
def AA : Adv := ⟨2, [[⟨lx, 0⟩, ⟨ly, 0⟩]]⟩
def BB : Adv := ⟨2, [[⟨ly, 1⟩], [⟨lx, 1⟩, ⟨ly, 1⟩]]⟩
theorem letter_any (a b : Int) (w : World) : Calls Try.prog 31 #[.int .i64 a, .int .i64 b] w fun e w' => e = .returned (Rd.v ⟨⟨2, a, b, 0, 0, 0⟩, 0⟩) ∧ Ext w w' := by
  have hb := heap_alloc_new w (.cells #[.int .i64 2, .int .i64 a, .int .i64 b, .int .i64 0, .int .i64 0, .int .i64 0, .int .i64 0] 43)
  have HB := hide hb
  clear hb
  go_enter Try.func31, Try.ntmps31
  go_wp2_with fail
  have hE := (Ext.refl w).alloc (.cells #[.int .i64 2, .int .i64 a, .int .i64 b, .int .i64 0, .int .i64 0, .int .i64 0, .int .i64 0] 43)
  generalize w.alloc (.cells #[.int .i64 2, .int .i64 a, .int .i64 b, .int .i64 0, .int .i64 0, .int .i64 0, .int .i64 0] 43) = W at HB hE ⊢
  have c0 := dcell HB.out 0
  have c1 := dcell HB.out 1
  have c2 := dcell HB.out 2
  have c3 := dcell HB.out 3
  have c4 := dcell HB.out 4
  have c5 := dcell HB.out 5
  have c6 := dcell HB.out 6
  exact bodyPost_ret (v := Rd.v ⟨⟨2, a, b, 0, 0, 0⟩, 0⟩) (by simp [results, Try.f31, go_sem, c0, c1, c2, c3, c4, c5, c6]) rfl ⟨rfl, hE⟩
/-- The blocks of the examples, from b on. -/
structure ExBl (b : Nat) (W : World) : Prop where
  a0 : W.heap[b + 2]? = some (.cells #[.int .i64 2, .int .i64 3, .int .i64 2, .int .i64 0, .int .i64 0, .int .i64 0, .int .i64 0, .int .i64 0, .int .i64 2, .int .i64 3, .int .i64 3, .int .i64 0, .int .i64 0, .int .i64 0, .int .i64 0, .int .i64 0] 101 (0, 0))
  ao : W.heap[b + 3]? = some (.cells #[.slice (some ⟨b + 2, 0, none⟩) 2 2] 89 (0, 0))
  ab : W.heap[b + 4]? = some (.cells #[.int .i64 2, .slice (some ⟨b + 3, 0, none⟩) 1 1] 24 (0, 0))
  b0 : W.heap[b + 5]? = some (.cells #[.int .i64 2, .int .i64 3, .int .i64 3, .int .i64 0, .int .i64 0, .int .i64 0, .int .i64 0, .int .i64 1] 101 (0, 0))
  b1 : W.heap[b + 6]? = some (.cells #[.int .i64 2, .int .i64 3, .int .i64 2, .int .i64 0, .int .i64 0, .int .i64 0, .int .i64 0, .int .i64 1, .int .i64 2, .int .i64 3, .int .i64 3, .int .i64 0, .int .i64 0, .int .i64 0, .int .i64 0, .int .i64 1] 101 (0, 0))
  bo : W.heap[b + 7]? = some (.cells #[.slice (some ⟨b + 5, 0, none⟩) 1 1, .slice (some ⟨b + 6, 0, none⟩) 2 2] 89 (0, 0))
  bb : W.heap[b + 8]? = some (.cells #[.int .i64 2, .slice (some ⟨b + 7, 0, none⟩) 2 2] 24 (0, 0))
theorem ExBl.of {b : Nat} {W W' : World} (h : ExBl b W) (hh : ∀ k, b ≤ k → k ≤ b + 8 → W'.heap[k]? = W.heap[k]?) : ExBl b W' :=
  ⟨(hh _ (by omega) (by omega)).trans h.a0, (hh _ (by omega) (by omega)).trans h.ao, (hh _ (by omega) (by omega)).trans h.ab, (hh _ (by omega) (by omega)).trans h.b0, (hh _ (by omega) (by omega)).trans h.b1, (hh _ (by omega) (by omega)).trans h.bo, (hh _ (by omega) (by omega)).trans h.bb⟩
theorem row_of_cells {α : Type} {enc : α → List Value} {size : Nat} (hs : ∀ x, (enc x).length = size) {W : World} {g : Nat} {e : TypeId} {l : List α} (hg : W.heap[g]? = some (.cells (l.flatMap enc).toArray e (0, 0))) (hl : l.length ≤ 100000) :
    Row enc size W (.slice (some ⟨g, 0, none⟩) l.length l.length) l := by
  refine ⟨_, _, rfl, Nat.le_refl _, by omega, fun _ => ⟨g, 0, rfl, lt_of_heap hg, fun i x hx j u hu => ?_⟩⟩
  have hj : j < size := by
    rcases Nat.lt_or_ge j size with h | h
    · exact h
    · rw [List.getElem?_eq_none (by rw [hs]; exact h)] at hu; cases hu
  rw [Nat.zero_add, cell_of_row _ _ _ _ _ _ hg, List.getElem?_toArray, flat_get hs l i j x hx hj]
  exact hu
theorem rows2_of {α : Type} {enc : α → List Value} {size : Nat} {W : World} {g : Nat} {e : TypeId} {vs : List Value} {xss : List (List α)} (hg : W.heap[g]? = some (.cells vs.toArray e (0, 0))) (hl : vs.length = xss.length) (hl2 : xss.length ≤ 100000)
    (h : ∀ (i : Nat) (v : Value) (xs : List α), vs[i]? = some v → xss[i]? = some xs → Row enc size W v xs) : Rows2 enc size W (.slice (some ⟨g, 0, none⟩) xss.length xss.length) xss := by
  refine ⟨vs, hl, ?_, h⟩
  rw [← hl]
  exact row_of_cells (enc := one) (size := 1) (fun _ => rfl) (by simpa using hg) (by omega)
theorem ExBl.advA {b : Nat} {W : World} (h : ExBl b W) : AdvRep W (.agg #[.int .i64 2, .slice (some ⟨b + 3, 0, none⟩) 1 1]) AA := by
  refine ⟨_, rfl, rows2_of (xss := AA.st) (vs := [.slice (some ⟨b + 2, 0, none⟩) 2 2]) h.ao rfl (by decide) fun i v xs hv hx => ?_⟩
  obtain rfl | hi : i = 0 ∨ 1 ≤ i := by omega
  · simp only [AA, List.getElem?_cons_zero, Option.some.injEq] at hv hx
    subst hv hx
    exact row_of_cells (enc := Mv.cells) (size := 8) (l := [⟨lx, 0⟩, ⟨ly, 0⟩]) (fun _ => rfl) h.a0 (by decide)
  · rw [List.getElem?_eq_none (by show 1 ≤ i; exact hi)] at hx; cases hx
theorem ExBl.advB {b : Nat} {W : World} (h : ExBl b W) : AdvRep W (.agg #[.int .i64 2, .slice (some ⟨b + 7, 0, none⟩) 2 2]) BB := by
  refine ⟨_, rfl, rows2_of (xss := BB.st) (vs := [.slice (some ⟨b + 5, 0, none⟩) 1 1, .slice (some ⟨b + 6, 0, none⟩) 2 2]) h.bo rfl (by decide) fun i v xs hv hx => ?_⟩
  obtain rfl | rfl | hi : i = 0 ∨ i = 1 ∨ 2 ≤ i := by omega
  · simp only [BB, List.getElem?_cons_zero, Option.some.injEq] at hv hx
    subst hv hx
    exact row_of_cells (enc := Mv.cells) (size := 8) (l := [⟨ly, 1⟩]) (fun _ => rfl) h.b0 (by decide)
  · simp only [BB, List.getElem?_cons_zero, List.getElem?_cons_succ, Option.some.injEq] at hv hx
    subst hv hx
    exact row_of_cells (enc := Mv.cells) (size := 8) (l := [⟨lx, 1⟩, ⟨ly, 1⟩]) (fun _ => rfl) h.b1 (by decide)
  · rw [List.getElem?_eq_none (by show 2 ≤ i; exact hi)] at hx; cases hx
theorem exbl_new {w2 : World} {b : Nat} (hb : w2.heap.size = b) : ExBl b ((((((((((w2).alloc (.cells #[.int .i64 2, .int .i64 3, .int .i64 2, .int .i64 0, .int .i64 0, .int .i64 0, .int .i64 0] 43)).alloc (.cells #[.int .i64 2, .int .i64 3, .int .i64 3, .int .i64 0, .int .i64 0, .int .i64 0, .int .i64 0] 43)).alloc (.cells #[.int .i64 2, .int .i64 3, .int .i64 2, .int .i64 0, .int .i64 0, .int .i64 0, .int .i64 0, .int .i64 0, .int .i64 2, .int .i64 3, .int .i64 3, .int .i64 0, .int .i64 0, .int .i64 0, .int .i64 0, .int .i64 0] 101)).alloc (.cells #[.slice (some ⟨b + 2, 0, none⟩) 2 2] 89)).alloc (.cells #[.int .i64 2, .slice (some ⟨b + 3, 0, none⟩) 1 1] 24)).alloc (.cells #[.int .i64 2, .int .i64 3, .int .i64 3, .int .i64 0, .int .i64 0, .int .i64 0, .int .i64 0, .int .i64 1] 101)).alloc (.cells #[.int .i64 2, .int .i64 3, .int .i64 2, .int .i64 0, .int .i64 0, .int .i64 0, .int .i64 0, .int .i64 1, .int .i64 2, .int .i64 3, .int .i64 3, .int .i64 0, .int .i64 0, .int .i64 0, .int .i64 0, .int .i64 1] 101)).alloc (.cells #[.slice (some ⟨b + 5, 0, none⟩) 1 1, .slice (some ⟨b + 6, 0, none⟩) 2 2] 89)).alloc (.cells #[.int .i64 2, .slice (some ⟨b + 7, 0, none⟩) 2 2] 24)) ∧ ((((((((((w2).alloc (.cells #[.int .i64 2, .int .i64 3, .int .i64 2, .int .i64 0, .int .i64 0, .int .i64 0, .int .i64 0] 43)).alloc (.cells #[.int .i64 2, .int .i64 3, .int .i64 3, .int .i64 0, .int .i64 0, .int .i64 0, .int .i64 0] 43)).alloc (.cells #[.int .i64 2, .int .i64 3, .int .i64 2, .int .i64 0, .int .i64 0, .int .i64 0, .int .i64 0, .int .i64 0, .int .i64 2, .int .i64 3, .int .i64 3, .int .i64 0, .int .i64 0, .int .i64 0, .int .i64 0, .int .i64 0] 101)).alloc (.cells #[.slice (some ⟨b + 2, 0, none⟩) 2 2] 89)).alloc (.cells #[.int .i64 2, .slice (some ⟨b + 3, 0, none⟩) 1 1] 24)).alloc (.cells #[.int .i64 2, .int .i64 3, .int .i64 3, .int .i64 0, .int .i64 0, .int .i64 0, .int .i64 0, .int .i64 1] 101)).alloc (.cells #[.int .i64 2, .int .i64 3, .int .i64 2, .int .i64 0, .int .i64 0, .int .i64 0, .int .i64 0, .int .i64 1, .int .i64 2, .int .i64 3, .int .i64 3, .int .i64 0, .int .i64 0, .int .i64 0, .int .i64 0, .int .i64 1] 101)).alloc (.cells #[.slice (some ⟨b + 5, 0, none⟩) 1 1, .slice (some ⟨b + 6, 0, none⟩) 2 2] 89)).alloc (.cells #[.int .i64 2, .slice (some ⟨b + 7, 0, none⟩) 2 2] 24)).heap.size = b + 9 := by
  subst hb
  refine ⟨⟨?_, ?_, ?_, ?_, ?_, ?_, ?_⟩, by simp⟩
  all_goals
    simp only [show ∀ (V : World) o, (V.alloc o).heap = V.heap.push o from fun _ _ => rfl, Array.getElem?_push, Array.size_push]
    repeat (first | rw [if_pos (by omega)] | rw [if_neg (by omega)])
    try simp
set_option maxRecDepth 16000 in
set_option maxHeartbeats 1000000 in
theorem examples_any (w : World) : Calls Try.prog 30 #[] w fun e w' => ∃ u v, e = .returned (.tuple #[u, v]) ∧ AdvRep w' u AA ∧ AdvRep w' v BB ∧ Ext w w' := by
  go_enter Try.func30, Try.ntmps30
  go_wp2_with fail
  have hz := heap_alloc_new w (.cells #[.int .i64 0, .slice none 0 0] 24)
  have hz1 := heap_alloc_new (w.alloc (.cells #[.int .i64 0, .slice none 0 0] 24)) (.cells #[.int .i64 0, .slice none 0 0] 24)
  rw [World.size_alloc] at hz1
  have hz0 := (Below.heap_alloc _ (.cells #[.int .i64 0, .slice none 0 0] 24) _ (lt_of_heap hz)).trans hz
  have hEE := ((Ext.refl w).alloc (.cells #[.int .i64 0, .slice none 0 0] 24)).alloc (.cells #[.int .i64 0, .slice none 0 0] 24)
  have HZ0 := hide hz0
  have HZ1 := hide hz1
  have HEE := hide hEE
  clear hz hz0 hz1 hEE
  refine (letter_any 3 2 _).mono ?_
  rintro e w1 ⟨rfl, hE1⟩
  have HZ0 := hide ((hE1.b.block _ (lt_of_heap HZ0.out)).trans HZ0.out)
  have HZ1 := hide ((hE1.b.block _ (lt_of_heap HZ1.out)).trans HZ1.out)
  have HEE := hide (HEE.out.trans hE1)
  clear hE1
  go_wp2_with fail
  refine (letter_any 3 3 _).mono ?_
  rintro e w2 ⟨rfl, hE2⟩
  have HZ0 := hide ((hE2.b.block _ (lt_of_heap HZ0.out)).trans HZ0.out)
  have HZ1 := hide ((hE2.b.block _ (lt_of_heap HZ1.out)).trans HZ1.out)
  have HEE := hide (HEE.out.trans hE2)
  clear hE2
  go_upto_region 4 with fail
  simp only [Nat.add_assoc, Nat.reduceAdd]
  obtain ⟨b, hb⟩ : ∃ b, w2.heap.size = b := ⟨_, rfl⟩
  rw [hb]
  have HWB : Hid (w.heap.size + 1 < b) := by
    have := lt_of_heap HZ1.out
    show _ < _
    omega
  have hE3 : Ext w2 ((((((((((w2).alloc (.cells #[.int .i64 2, .int .i64 3, .int .i64 2, .int .i64 0, .int .i64 0, .int .i64 0, .int .i64 0] 43)).alloc (.cells #[.int .i64 2, .int .i64 3, .int .i64 3, .int .i64 0, .int .i64 0, .int .i64 0, .int .i64 0] 43)).alloc (.cells #[.int .i64 2, .int .i64 3, .int .i64 2, .int .i64 0, .int .i64 0, .int .i64 0, .int .i64 0, .int .i64 0, .int .i64 2, .int .i64 3, .int .i64 3, .int .i64 0, .int .i64 0, .int .i64 0, .int .i64 0, .int .i64 0] 101)).alloc (.cells #[.slice (some ⟨b + 2, 0, none⟩) 2 2] 89)).alloc (.cells #[.int .i64 2, .slice (some ⟨b + 3, 0, none⟩) 1 1] 24)).alloc (.cells #[.int .i64 2, .int .i64 3, .int .i64 3, .int .i64 0, .int .i64 0, .int .i64 0, .int .i64 0, .int .i64 1] 101)).alloc (.cells #[.int .i64 2, .int .i64 3, .int .i64 2, .int .i64 0, .int .i64 0, .int .i64 0, .int .i64 0, .int .i64 1, .int .i64 2, .int .i64 3, .int .i64 3, .int .i64 0, .int .i64 0, .int .i64 0, .int .i64 0, .int .i64 1] 101)).alloc (.cells #[.slice (some ⟨b + 5, 0, none⟩) 1 1, .slice (some ⟨b + 6, 0, none⟩) 2 2] 89)).alloc (.cells #[.int .i64 2, .slice (some ⟨b + 7, 0, none⟩) 2 2] 24)) := ((((((((((Ext.refl w2)).alloc _).alloc _).alloc _).alloc _).alloc _).alloc _).alloc _).alloc _).alloc _
  have HBL := hide (exbl_new hb)
  have HZ0 := hide ((hE3.b.block _ (lt_of_heap HZ0.out)).trans HZ0.out)
  have HZ1 := hide ((hE3.b.block _ (lt_of_heap HZ1.out)).trans HZ1.out)
  have HEE := hide (HEE.out.trans hE3)
  clear hE3 hb
  generalize (((((((((w2).alloc (.cells #[.int .i64 2, .int .i64 3, .int .i64 2, .int .i64 0, .int .i64 0, .int .i64 0, .int .i64 0] 43)).alloc (.cells #[.int .i64 2, .int .i64 3, .int .i64 3, .int .i64 0, .int .i64 0, .int .i64 0, .int .i64 0] 43)).alloc (.cells #[.int .i64 2, .int .i64 3, .int .i64 2, .int .i64 0, .int .i64 0, .int .i64 0, .int .i64 0, .int .i64 0, .int .i64 2, .int .i64 3, .int .i64 3, .int .i64 0, .int .i64 0, .int .i64 0, .int .i64 0, .int .i64 0] 101)).alloc (.cells #[.slice (some ⟨b + 2, 0, none⟩) 2 2] 89)).alloc (.cells #[.int .i64 2, .slice (some ⟨b + 3, 0, none⟩) 1 1] 24)).alloc (.cells #[.int .i64 2, .int .i64 3, .int .i64 3, .int .i64 0, .int .i64 0, .int .i64 0, .int .i64 0, .int .i64 1] 101)).alloc (.cells #[.int .i64 2, .int .i64 3, .int .i64 2, .int .i64 0, .int .i64 0, .int .i64 0, .int .i64 0, .int .i64 1, .int .i64 2, .int .i64 3, .int .i64 3, .int .i64 0, .int .i64 0, .int .i64 0, .int .i64 0, .int .i64 1] 101)).alloc (.cells #[.slice (some ⟨b + 5, 0, none⟩) 1 1, .slice (some ⟨b + 6, 0, none⟩) 2 2] 89)).alloc (.cells #[.int .i64 2, .slice (some ⟨b + 7, 0, none⟩) 2 2] 24) = V0 at HBL HZ0 HZ1 HEE ⊢
  have hba := HBL.out.1.ab
  have hbb := HBL.out.1.bb
  refine wp_region_heldB (fun Z : World => Z.heap[b + 4]? = V0.heap[b + 4]? ∧ Z.heap[b + 8]? = V0.heap[b + 8]?) (fun j => decide (j = 3)) (by kernel_rfl) ?_
  intro V1 hV1
  have hE1 : Ext V0 V1 := by rw [hV1]; exact (Ext.refl _).drew
  have hSd : V1.heap[b + 4]? = V0.heap[b + 4]? ∧ V1.heap[b + 8]? = V0.heap[b + 8]? := ⟨hE1.b.block _ (lt_of_heap hba), hE1.b.block _ (lt_of_heap hbb)⟩
  have HE1 := hide hE1
  clear hE1 hV1
  refine wpAnyT_takeB (i := 0) (.agg #[.int .i64 2, .slice (some ⟨b + 3, 0, none⟩) 1 1]) rfl (by kernel_rfl) (fun j hj => by obtain rfl := of_decide_eq_true hj; kernel_rfl) (by kernel_rfl) (by kernel_rfl) (by simp [Region.wanted]) (fun Z hZ => by
    have x0 := dcell (hZ.1.trans hba) 0
    have x1 := dcell (hZ.1.trans hba) 1
    have xz := lt_of_heap (hZ.1.trans hba)
    go_simp) hSd ?_
  try simp only [Act.put, List.getElem_toArray, List.setIfInBounds_toArray]
  refine wpAnyT_takeB (i := 1) (.agg #[.int .i64 2, .slice (some ⟨b + 7, 0, none⟩) 2 2]) rfl (by kernel_rfl) (fun j hj => by obtain rfl := of_decide_eq_true hj; kernel_rfl) (by kernel_rfl) (by kernel_rfl) (by simp [Region.wanted]) (fun Z hZ => by
    have x0 := dcell (hZ.2.trans hbb) 0
    have x1 := dcell (hZ.2.trans hbb) 1
    have xz := lt_of_heap (hZ.2.trans hbb)
    go_simp) hSd ?_
  try simp only [Act.put, List.getElem_toArray]
  have hz0 := (HE1.out.b.block _ (lt_of_heap HZ0.out)).trans HZ0.out
  have hz1 := (HE1.out.b.block _ (lt_of_heap HZ1.out)).trans HZ1.out
  have HZ0 := hide hz0
  have HZ1 := hide hz1
  have HEE := hide (HEE.out.trans HE1.out)
  have HX : Hid (ExBl b V1) := HBL.out.1.of fun k _ hk => HE1.out.b.block k (by have := HBL.out.2; omega)
  have HS := hide hSd
  clear hSd hz0 hz1 HBL hba hbb
  have c0 := dcell HZ0.out 0
  have c1 := dcell HZ0.out 1
  have f0 := frozen_row HZ0.out 0
  have f1 := frozen_row HZ0.out 1
  have cz := lt_of_heap HZ0.out
  refine wpAnyT_oneB (i := 2) rfl (by kernel_rfl) (fun KK' hKK' => ?_)
  go_wp2_with fail
  obtain ⟨V2, hV2⟩ : ∃ V, V = ((V1.setCell ⟨w.heap.size, 0, none⟩ (.int .i64 2)).setCell ⟨w.heap.size, 1, none⟩ (.slice (some ⟨b + 3, 0, none⟩) 1 1)) := ⟨_, rfl⟩
  rw [← hV2]
  have hk : ∀ k, k ≠ w.heap.size → V2.heap[k]? = V1.heap[k]? := fun k hk => by rw [hV2, Below.heap_setCell _ _ _ _ hk, Below.heap_setCell _ _ _ _ hk]
  have h20 : V2.heap[w.heap.size]? = some (.cells #[.int .i64 2, .slice (some ⟨b + 3, 0, none⟩) 1 1] 24 (0, 0)) := by
    rw [hV2]
    exact heap_set (heap_set HZ0.out _) _
  have HK2 := hide hk
  have H20 := hide h20
  have HEE2 : Hid (Ext w V2) := by
    show Ext _ _
    rw [hV2]
    exact (HEE.out.setCell (p := ⟨w.heap.size, 0, none⟩) (Nat.le_refl _) _).setCell (p := ⟨w.heap.size, 1, none⟩) (Nat.le_refl _) _
  have HZ12 := hide ((hk (w.heap.size + 1) (by omega)).trans HZ1.out)
  clear hV2 h20 hk c0 c1 f0 f1 cz HEE HZ0
  refine ⟨rfl, hKK' _ _ (fun _ => ⟨(HK2.out _ (by have := HWB.out; omega)).trans HS.out.1, (HK2.out _ (by have := HWB.out; omega)).trans HS.out.2⟩) ?_⟩
  clear hKK' KK'
  try simp only [Act.put, List.getElem_toArray, List.setIfInBounds_toArray]
  have c0 := dcell HZ12.out 0
  have c1 := dcell HZ12.out 1
  have f0 := frozen_row HZ12.out 0
  have f1 := frozen_row HZ12.out 1
  have cz := lt_of_heap HZ12.out
  refine wpAnyT_oneB (i := 3) rfl (by kernel_rfl) (fun KK' hKK' => ?_)
  go_wp2_with fail
  obtain ⟨V3, hV3⟩ : ∃ V, V = ((V2.setCell ⟨w.heap.size + 1, 0, none⟩ (.int .i64 2)).setCell ⟨w.heap.size + 1, 1, none⟩ (.slice (some ⟨b + 7, 0, none⟩) 2 2)) := ⟨_, rfl⟩
  rw [← hV3]
  have hk : ∀ k, k ≠ w.heap.size + 1 → V3.heap[k]? = V2.heap[k]? := fun k hk => by rw [hV3, Below.heap_setCell _ _ _ _ hk, Below.heap_setCell _ _ _ _ hk]
  have h31 : V3.heap[w.heap.size + 1]? = some (.cells #[.int .i64 2, .slice (some ⟨b + 7, 0, none⟩) 2 2] 24 (0, 0)) := by
    rw [hV3]
    exact heap_set (heap_set HZ12.out _) _
  have h30 := (hk w.heap.size (by omega)).trans H20.out
  have HEE3 : Hid (Ext w V3) := by
    show Ext _ _
    rw [hV3]
    exact (HEE2.out.setCell (p := ⟨w.heap.size + 1, 0, none⟩) (by show w.heap.size ≤ w.heap.size + 1; omega) _).setCell (p := ⟨w.heap.size + 1, 1, none⟩) (by show w.heap.size ≤ w.heap.size + 1; omega) _
  have HX3 : Hid (ExBl b V3) := HX.out.of fun k hb _ => (hk k (by have := HWB.out; omega)).trans (HK2.out k (by have := HWB.out; omega))
  have H30 := hide h30
  have H31 := hide h31
  clear hV3 h30 h31 hk c0 c1 f0 f1 cz HEE2 HZ12
  refine ⟨rfl, hKK' _ _ (fun h => by cases h) ?_⟩
  clear hKK' KK'
  refine wpAnyT_done (by kernel_rfl) ?_ _
  have c00 := dcell H30.out 0
  have c01 := dcell H30.out 1
  have c10 := dcell H31.out 0
  have c11 := dcell H31.out 1
  go_wp2_with fail
  exact bodyPost_ret (v := .tuple #[.agg #[.int .i64 2, .slice (some ⟨b + 3, 0, none⟩) 1 1], .agg #[.int .i64 2, .slice (some ⟨b + 7, 0, none⟩) 2 2]]) (by simp [results, Try.f30, go_sem, c00, c01, c10, c11]) rfl ⟨_, _, rfl, HX3.out.advA, HX3.out.advB, HEE3.out⟩
end Go.Proofs.Ytmkmgimmlohamaa

namespace Go.Proofs.Ytmkmgimmlohamaa
open Go.RowKit

theorem verS_zero {A B : Adv} {prs : List (Int × Int)} (h : verS A B prs = 0) : bothI A B = 0 ∧ ¬ 65536 < prs.length ∧ (∀ p ∈ prs, inbB A B p = true) ∧ ((0 : Int), (0 : Int)) ∈ prs ∧ ∀ p ∈ prs, folB A B prs p = true := by
  unfold verS at h
  by_cases h1 : bothI A B ≠ 0
  · rw [if_pos h1] at h; exact absurd h h1
  rw [if_neg h1] at h
  by_cases h2 : 65536 < prs.length
  · rw [if_pos h2] at h; exact absurd h (by decide)
  rw [if_neg h2] at h
  by_cases h3 : prs.all (inbB A B) = false
  · rw [if_pos h3] at h; exact absurd h (by decide)
  rw [if_neg h3] at h
  by_cases h4 : ((0 : Int), (0 : Int)) ∉ prs
  · rw [if_pos h4] at h; exact absurd h (by decide)
  rw [if_neg h4] at h
  by_cases h5 : prs.all (folB A B prs) = false
  · rw [if_pos h5] at h; exact absurd h (by decide)
  exact ⟨by simpa using h1, h2, List.all_eq_true.1 (by simpa using h3), by simpa using h4, List.all_eq_true.1 (by simpa using h5)⟩
theorem inb_of {A B : Adv} {p : Int × Int} (h : inbB A B p = true) : 0 ≤ p.1 ∧ p.1 < B.L ∧ 0 ≤ p.2 ∧ p.2 < A.L := of_decide_eq_true h
theorem sim_from {A B : Adv} (hB : achk B = 0) {prs : List (Int × Int)} (hi : ∀ p ∈ prs, inbB A B p = true) (hf : ∀ p ∈ prs, folB A B prs p = true) :
    ∀ (u : List Rd) (p : Int × Int), p ∈ prs → 0 ≤ after B p.1 u → 0 ≤ after A p.2 u ∧ (after B p.1 u, after A p.2 u) ∈ prs
  | [], p, hp, h => ⟨(inb_of (hi p hp)).2.2.1, hp⟩
  | r :: u, p, hp, h => by
    obtain ⟨h1, h2, h3, h4⟩ := inb_of (hi p hp)
    have eB : after B p.1 (r :: u) = after B (toL (B.st.getD p.1.toNat []) r) u := by simp only [after]; rw [if_neg (by omega)]
    have eA : after A p.2 (r :: u) = after A (toL (A.st.getD p.2.toNat []) r) u := by simp only [after]; rw [if_neg (by omega)]
    rw [eB] at h ⊢
    rw [eA]
    have hx : 0 ≤ toL (B.st.getD p.1.toNat []) r := by
      refine Classical.byContradiction fun hn => ?_
      rw [after_neg (by omega)] at h
      exact hn h
    obtain ⟨m, hm, rfl⟩ := (toL_ge (okM_of hB _) r).1 hx
    have := List.all_eq_true.1 (hf p hp) m hm
    rw [Bool.and_eq_true, decide_eq_true_eq, decide_eq_true_eq] at this
    rw [toL_in (okM_of hB _) hm] at h ⊢
    exact sim_from hB hi hf u _ this.2 h
/-- If a list of pairs is a simulation, the words of B are words of A, and lead to its pairs. -/
theorem sim_sound {A B : Adv} {prs : List (Int × Int)} (h : verS A B prs = 0) (u : List Rd) (hu : 0 ≤ after B 0 u) : 0 ≤ after A 0 u ∧ (after B 0 u, after A 0 u) ∈ prs := by
  obtain ⟨h1, _, h2, h3, h4⟩ := verS_zero h
  exact sim_from (bothI_zero h1).2.1 h2 h4 u (0, 0) h3 hu
theorem sim_lack {A B : Adv} {prs : List (Int × Int)} (h : verS A B prs = 0) (u : List Rd) : ¬ lackW A B u := by
  rintro ⟨v, r, rfl, _, h2, h3⟩
  have := (sim_sound h _ h3).1
  omega
theorem sim_reach {A B : Adv} {prs : List (Int × Int)} (h : verS A B prs = 0) (p : Int × Int) (hp : rchP A B p) : p ∈ prs := by
  obtain ⟨u, _, h2, rfl⟩ := hp
  exact (sim_sound h u h2).2
theorem ab_both : bothI AA BB = 0 := by decide +kernel
theorem ba_both : bothI BB AA = 0 := by decide +kernel
theorem a_moves : movesN AA ≤ 4611686018427387904 := by decide
theorem b_moves : movesN BB ≤ 4611686018427387904 := by decide
theorem ab_ver : verS AA BB [(0, 0), (1, 0)] = 0 := by decide +kernel
theorem ab_ver1 : verS AA BB [(0, 0)] = 18 := by decide +kernel
theorem ba_two : extraS BB AA 2 = (2, 0) := by decide +kernel
theorem ba_one : extraS BB AA 1 = (1, 0) := by decide +kernel
theorem ab_lack (u : List Rd) : ¬ lackW AA BB u := sim_lack ab_ver u
theorem ba_lack : lackW BB AA [lx] := ⟨[], lx, rfl, by decide +kernel, by decide +kernel, by decide +kernel⟩
theorem ba_least (u : List Rd) (h : lackW BB AA u) : Wle [lx] u := by
  obtain ⟨v, r, rfl, h1, h2, h3⟩ := h
  cases v with
  | nil =>
    have h4 : 0 ≤ toL (AA.st.getD 0 []) r := h3
    obtain ⟨m, hm, rfl⟩ := (toL_ge (okM_of (bothI_zero ba_both).2.1 0) r).1 h4
    have hm' : m ∈ [(⟨lx, 0⟩ : Mv), ⟨ly, 0⟩] := hm
    simp only [List.mem_cons, List.not_mem_nil, or_false] at hm'
    rcases hm' with rfl | rfl
    · exact .inr rfl
    · exact absurd h2 (by decide +kernel)
  | cons x v => exact .inl (.inl (by simp))
theorem ab_reach (p : Int × Int) : rchP AA BB p ↔ p ∈ [((0 : Int), (0 : Int)), (1, 0)] := by
  constructor
  · exact sim_reach ab_ver p
  · intro hp
    simp only [List.mem_cons, List.not_mem_nil, or_false] at hp
    rcases hp with rfl | rfl
    · exact ⟨[], by decide, by decide, rfl⟩
    · exact ⟨[ly], by decide +kernel, by decide +kernel, by decide +kernel⟩
theorem ab_pw : [((0 : Int), (0 : Int)), (1, 0)].Pairwise plt := by
  refine List.pairwise_cons.2 ⟨fun x hx => ?_, List.pairwise_cons.2 ⟨fun x hx => (by cases hx), List.Pairwise.nil⟩⟩
  rw [List.mem_singleton.1 hx]
  exact .inl (by decide)
/-- What is returned for the examples. -/
theorem inc_ab {w : World} {en : Ending} {w' : World} (h : RetIn dI AA BB w en w') : en = .returned (.tuple #[.slice none 0 0, .bool true, .int .i64 0]) ∧ Ext w w' := by
  obtain ⟨x, b, rfl, hE, (⟨h, _⟩ | ⟨_, _, word, _, _, hm, _⟩ | ⟨_, rfl, rfl, _⟩)⟩ := h
  · exact absurd ab_both h
  · exact absurd ((markI (bothI_zero ab_both).1 (bothI_zero ab_both).2.1 word).1 hm) (ab_lack word)
  · exact ⟨by rw [ab_both], hE⟩
theorem inc_ba {w : World} {en : Ending} {w' : World} (h : RetIn dI BB AA w en w') : ∃ x, en = .returned (.tuple #[x, .bool false, .int .i64 0]) ∧ Ext w w' ∧ Row Rd.cells 7 w' x [lx] := by
  obtain ⟨x, b, rfl, hE, (⟨h, _⟩ | ⟨_, rfl, word, hr, _, hm, hle⟩ | ⟨_, rfl, rfl, hn⟩)⟩ := h
  · exact absurd ba_both h
  · have e := least_eq (P := markA (actP dI BB AA) (0, 0)) hm hle ((markI (bothI_zero ba_both).1 (bothI_zero ba_both).2.1 _).2 ba_lack) fun u hu => ba_least u ((markI (bothI_zero ba_both).1 (bothI_zero ba_both).2.1 u).1 hu)
    rw [e] at hr
    exact ⟨x, by rw [ba_both], hE, hr⟩
  · exact absurd ((markI (bothI_zero ba_both).1 (bothI_zero ba_both).2.1 _).2 ba_lack) (hn _)
theorem eq_ab {w : World} {en : Ending} {w' : World} (h : RetIn dE AA BB w en w') : ∃ x, en = .returned (.tuple #[x, .bool false, .int .i64 0]) ∧ Ext w w' ∧ Row Rd.cells 7 w' x [lx] := by
  have hm0 : markA (actP dE AA BB) (0, 0) [lx] := (markE (bothI_zero ab_both).1 (bothI_zero ab_both).2.1 _).2 (.inr ba_lack)
  obtain ⟨x, b, rfl, hE, (⟨h, _⟩ | ⟨_, rfl, word, hr, _, hm, hle⟩ | ⟨_, rfl, rfl, hn⟩)⟩ := h
  · exact absurd ab_both h
  · have e := least_eq (P := markA (actP dE AA BB) (0, 0)) hm hle hm0 fun u hu => by
      rcases (markE (bothI_zero ab_both).1 (bothI_zero ab_both).2.1 u).1 hu with k | k
      · exact absurd k (ab_lack u)
      · exact ba_least u k
    rw [e] at hr
    exact ⟨x, by rw [ab_both], hE, hr⟩
  · exact absurd hm0 (hn _)
theorem sim_ab {w : World} {en : Ending} {w' : World} (h : RetSm AA BB w en w') : ∃ x, en = .returned (.tuple #[x, .bool true, .int .i64 0]) ∧ Ext w w' ∧ Row pcells 2 w' x [(0, 0), (1, 0)] := by
  obtain ⟨x, b, rfl, hE, (⟨h, _⟩ | ⟨_, _, _, u, hu⟩ | ⟨_, rfl, _, l, hr, _, hp, hm⟩)⟩ := h
  · exact absurd ab_both h
  · exact absurd hu (ab_lack u)
  · have e : l = [(0, 0), (1, 0)] := plt_unique hp ab_pw fun p => (hm p).trans (ab_reach p)
    rw [e] at hr
    exact ⟨x, by rw [ab_both], hE, hr⟩
theorem Row.take1 {w : World} {x : Value} (h : Row pcells 2 w x [(0, 0), (1, 0)]) : ∃ b o c, x = .slice (some ⟨b, o, none⟩) 2 c ∧ 2 ≤ c ∧ c ≤ 9223372036854775807 ∧ Row pcells 2 w (.slice (some ⟨b, o, none⟩) 1 c) [(0, 0)] := by
  obtain ⟨p, c, rfl, h1, h2, h3⟩ := h
  obtain ⟨b, o, rfl, hb, hc⟩ := h3 (by decide)
  refine ⟨b, o, c, rfl, h1, h2.1, _, _, rfl, by show 1 ≤ c; have : 2 ≤ c := h1; omega, ⟨h2.1, by show 1 ≤ _; omega⟩, fun _ => ⟨b, o, rfl, hb, fun i y hy j u hu => ?_⟩⟩
  obtain rfl | hi : i = 0 ∨ 1 ≤ i := by omega
  · exact hc 0 y hy j u hu
  · rw [List.getElem?_eq_none (by show 1 ≤ i; exact hi)] at hy; cases hy
end Go.Proofs.Ytmkmgimmlohamaa

namespace Go.Proofs.Ytmkmgimmlohamaa
open Go.RowKit
attribute [local go_sem] Oper.semAt_some

theorem add_zero_i : IntKind.i64.wrap ((0 : Int) + 0) = 0 := by decide
set_option maxRecDepth 100000 in
set_option maxHeartbeats 4000000 in
theorem awake20 (w : World) : Calls Try.prog 11 #[] w fun e w' => e = .returned (.bool true) ∧ Ext w w' := by
  go_enter Try.func11, Try.ntmps11
  go_wp2_with fail
  refine (examples_any w).mono ?_
  rintro e w1 ⟨u, v, rfl, hA, hB, hE1⟩
  have HA := hide hA
  have HB := hide hB
  obtain ⟨p, c, rfl, -⟩ := hA.all_
  obtain ⟨q, d, rfl, -⟩ := hB.all_
  have HE := hide hE1
  have HN := hide (TwoBox.new AA BB p c q d w1)
  have hEN := ((Ext.refl w1).alloc (.cells #[.int .i64 AA.n, .slice p AA.L c] 24)).alloc (.cells #[.int .i64 BB.n, .slice q BB.L d] 24)
  have HEN := hide hEN
  clear hA hB hE1 hEN
  go_upto_region 2 with fail
  generalize (w1.alloc (.cells #[.int .i64 AA.n, .slice p AA.L c] 24)).alloc (.cells #[.int .i64 BB.n, .slice q BB.L d] 24) = W at HN HEN ⊢
  obtain ⟨z, hz⟩ : ∃ z, w1.heap.size = z := ⟨_, rfl⟩
  rw [hz] at HN
  rw [hz]
  replace HA := hide (HA.out.ext HEN.out)
  replace HB := hide (HB.out.ext HEN.out)
  replace HE := hide (HE.out.trans HEN.out)
  clear hz HEN w1
  obtain ⟨z0, a0, a1, z1, b0, b1⟩ := HN.out.cells
  go_wp2_with fail
  refine ((pincludes_any AA BB _ _ W HA.out HB.out a_moves b_moves).mono (fun _ _ h => inc_ab h)).mono ?_
  rintro e W1 ⟨rfl, hX⟩
  replace HN := hide (HN.out.ext hX)
  replace HA := hide (HA.out.ext hX)
  replace HB := hide (HB.out.ext hX)
  replace HE := hide (HE.out.trans hX)
  clear hX z0 a0 a1 z1 b0 b1
  clear W
  obtain ⟨z0, a0, a1, z1, b0, b1⟩ := HN.out.cells
  go_wp2_with fail
  refine ((pincludes_any BB AA _ _ W1 HB.out HA.out b_moves a_moves).mono (fun _ _ h => inc_ba h)).mono ?_
  rintro e W2 ⟨x, rfl, hX, hx⟩
  replace HN := hide (HN.out.ext hX)
  replace HA := hide (HA.out.ext hX)
  replace HB := hide (HB.out.ext hX)
  replace HE := hide (HE.out.trans hX)
  have HX := hide hx
  clear hx
  clear hX z0 a0 a1 z1 b0 b1
  clear W1
  obtain ⟨z0, a0, a1, z1, b0, b1⟩ := HN.out.cells
  go_wp2_with fail
  refine ((psim_any AA BB _ _ W2 HA.out HB.out a_moves b_moves).mono (fun _ _ h => sim_ab h)).mono ?_
  rintro e W3 ⟨y, rfl, hX, hy⟩
  replace HN := hide (HN.out.ext hX)
  replace HA := hide (HA.out.ext hX)
  replace HB := hide (HB.out.ext hX)
  replace HE := hide (HE.out.trans hX)
  replace HX := hide (HX.out.ext hX)
  have HY := hide hy
  clear hy
  clear hX z0 a0 a1 z1 b0 b1
  clear W2
  obtain ⟨z0, a0, a1, z1, b0, b1⟩ := HN.out.cells
  go_wp2_with fail
  refine (extra_any BB AA 2 _ _ W3 HB.out HA.out b_moves a_moves).mono ?_
  rintro e W4 ⟨he, hX⟩
  rw [ba_two] at he
  subst he
  replace HN := hide (HN.out.ext hX)
  replace HA := hide (HA.out.ext hX)
  replace HB := hide (HB.out.ext hX)
  replace HE := hide (HE.out.trans hX)
  replace HX := hide (HX.out.ext hX)
  replace HY := hide (HY.out.ext hX)
  clear hX z0 a0 a1 z1 b0 b1
  clear W3
  obtain ⟨z0, a0, a1, z1, b0, b1⟩ := HN.out.cells
  go_wp2_with fail
  refine (extra_any BB AA 1 _ _ W4 HB.out HA.out b_moves a_moves).mono ?_
  rintro e W5 ⟨he, hX⟩
  rw [ba_one] at he
  subst he
  replace HN := hide (HN.out.ext hX)
  replace HA := hide (HA.out.ext hX)
  replace HB := hide (HB.out.ext hX)
  replace HE := hide (HE.out.trans hX)
  replace HX := hide (HX.out.ext hX)
  replace HY := hide (HY.out.ext hX)
  clear hX z0 a0 a1 z1 b0 b1
  clear W4
  go_wp2_with fail
  refine (letter_any 3 2 W5).mono ?_
  rintro e W6 ⟨rfl, hX⟩
  replace HN := hide (HN.out.ext hX)
  replace HA := hide (HA.out.ext hX)
  replace HB := hide (HB.out.ext hX)
  replace HE := hide (HE.out.trans hX)
  replace HX := hide (HX.out.ext hX)
  replace HY := hide (HY.out.ext hX)
  clear hX
  clear W5
  have hX6 := (Ext.refl W6).alloc (.cells (([lx] : List Rd).flatMap Rd.cells).toArray 43)
  have hr6 := row_of_cells (enc := Rd.cells) (size := 7) (l := ([lx] : List Rd)) (fun _ => rfl) (heap_alloc_new W6 (.cells (([lx] : List Rd).flatMap Rd.cells).toArray 43)) (by decide)
  have HC6 := hide (sequal_rd [lx] [lx] x _ _ (HX.out.ext hX6) hr6)
  rw [show decide (([lx] : List Rd) = [lx]) = true from decide_eq_true rfl] at HC6
  have HX6 := hide hX6
  clear hX6 hr6
  go_wp2_with fail
  refine HC6.out.mono ?_
  rintro e W7 ⟨rfl, hX⟩
  replace hX := HX6.out.trans hX
  replace HN := hide (HN.out.ext hX)
  replace HA := hide (HA.out.ext hX)
  replace HB := hide (HB.out.ext hX)
  replace HE := hide (HE.out.trans hX)
  replace HX := hide (HX.out.ext hX)
  replace HY := hide (HY.out.ext hX)
  clear hX HC6 HX6
  have hX7 := (Ext.refl W7).alloc (.cells (([(0, 0), (1, 0)] : List (Int × Int)).flatMap pcells).toArray 45)
  have hr7 := row_of_cells (enc := pcells) (size := 2) (l := ([(0, 0), (1, 0)] : List (Int × Int))) (fun _ => rfl) (heap_alloc_new W7 (.cells (([(0, 0), (1, 0)] : List (Int × Int)).flatMap pcells).toArray 45)) (by decide)
  have HC7 := hide (sequal_pr [(0, 0), (1, 0)] [(0, 0), (1, 0)] y _ _ (HY.out.ext hX7) hr7)
  rw [show decide (([(0, 0), (1, 0)] : List (Int × Int)) = [(0, 0), (1, 0)]) = true from decide_eq_true rfl] at HC7
  have HX7 := hide hX7
  clear hX7 hr7
  go_wp2_with fail
  refine HC7.out.mono ?_
  rintro e W8 ⟨rfl, hX⟩
  replace hX := HX7.out.trans hX
  replace HN := hide (HN.out.ext hX)
  replace HA := hide (HA.out.ext hX)
  replace HB := hide (HB.out.ext hX)
  replace HE := hide (HE.out.trans hX)
  replace HX := hide (HX.out.ext hX)
  replace HY := hide (HY.out.ext hX)
  clear hX HC7 HX7
  obtain ⟨z0, a0, a1, z1, b0, b1⟩ := HN.out.cells
  go_wp2_with fail
  refine ((pequiv_any AA BB _ _ W8 HA.out HB.out a_moves b_moves).mono (fun _ _ h => eq_ab h)).mono ?_
  rintro e W9 ⟨o, rfl, hX, ho⟩
  replace HN := hide (HN.out.ext hX)
  replace HA := hide (HA.out.ext hX)
  replace HB := hide (HB.out.ext hX)
  replace HE := hide (HE.out.trans hX)
  replace HX := hide (HX.out.ext hX)
  replace HY := hide (HY.out.ext hX)
  have HO := hide ho
  clear ho hX z0 a0 a1 z1 b0 b1
  clear W8
  go_upto_region 10 with fail
  have ca : ∀ V, Ext W9 V → V.cell? ⟨z, 0, none⟩ = some (.int .i64 AA.n) ∧ V.cell? ⟨z, 1, none⟩ = some (.slice p AA.L c) ∧ z < V.heap.size ∧ V.cell? ⟨z + 1, 0, none⟩ = some (.int .i64 BB.n) ∧ V.cell? ⟨z + 1, 1, none⟩ = some (.slice q BB.L d) ∧ z + 1 < V.heap.size := fun V hV => by
    obtain ⟨z0, a0, a1, z1, b0, b1⟩ := (HN.out.ext hV).cells
    exact ⟨a0, a1, z0, b0, b1, z1⟩
  obtain ⟨yb, yo, yc, rfl, hy1, hy2, hy3⟩ := HY.out.take1
  have HC1 := hide (fun V (hV : Ext W9 V) => sequal_rd [lx] [lx] o x V (HO.out.ext hV) (HX.out.ext hV))
  have HC2 := hide (fun V (hV : Ext W9 V) => verify_any AA BB [(0, 0), (1, 0)] _ _ (.slice (some ⟨yb, yo, none⟩) 2 yc) V (HA.out.ext hV) (HB.out.ext hV) (HY.out.ext hV) a_moves b_moves)
  have HC3 := hide (fun V (hV : Ext W9 V) => verify_any AA BB [(0, 0)] _ _ (.slice (some ⟨yb, yo, none⟩) 1 yc) V (HA.out.ext hV) (HB.out.ext hV) (hy3.ext hV) a_moves b_moves)
  rw [show decide (([lx] : List Rd) = [lx]) = true from decide_eq_true rfl] at HC1
  rw [ab_ver] at HC2
  rw [ab_ver1] at HC3
  have h1 := fun V hV => (ca V hV).1
  have h2 := fun V hV => (ca V hV).2.1
  have h3 := fun V hV => (ca V hV).2.2.1
  have h4 := fun V hV => (ca V hV).2.2.2.1
  have h5 := fun V hV => (ca V hV).2.2.2.2.1
  have h6 := fun V hV => (ca V hV).2.2.2.2.2
  clear hy3 ca
  refine wp_region_ext (by kernel_rfl) (by kernel_rfl) ?_
  repeat (go_big_quiet_step ((first | (go_at_call 16; exact Calls.ext_of (HC1.out _ (ExtOf.h _))) | (go_at_call 20; first | with_reducible exact Calls.ext_of (HC2.out _ (ExtOf.h _)) | with_reducible exact Calls.ext_of (HC3.out _ (ExtOf.h _))))))
  refine wpQuiet_nil ?_
  rintro w9 ⟨⟨_, hE9⟩, rfl⟩
  have HF := hide (HE.out.trans hE9)
  clear h1 h2 h3 h4 h5 h6 hE9
  go_wp2_with fail
  go_ret
  exact ⟨rfl, HF.out⟩
end Go.Proofs.Ytmkmgimmlohamaa
