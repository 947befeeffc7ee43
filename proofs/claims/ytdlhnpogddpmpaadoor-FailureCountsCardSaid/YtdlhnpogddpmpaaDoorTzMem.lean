/-
  Products of graphs (graph.gathered, product, Compose).
  Conditions: the table of math/bits lies in the heap (Tz).
-/
import Derived.Test.YtdlhnpogddpmpaaDoorGSpec
import Derived.Test.YtdlhnpogddpmpaaDoorFound
import Derived.Test.YtdlhnpogddpmpaaDoorOwned
import Derived.Test.YtdlhnpogddpmpaaDoorHeldA
import Derived.Laws.Bits64b
import Derived.Lib.TrailingZeros
import Derived.Maps.OwnIn
namespace Go.Proofs.YtdlhnpogddpmpaaDoor
open Go.RowKit
attribute [local go_sem] Oper.semAt_some

theorem gr_new (w : World) (g : Gr) : GrBox (w.alloc (.cells #[.int .i64 g.n, .int .i64 g.h0, .int .i64 g.h1, .int .i64 g.h2, .int .i64 g.h3, .int .i64 g.h4] 32)) w.heap.size g := heap_alloc_new w _
theorem GrBox.alloc {W : World} {b : Nat} {g : Gr} (h : GrBox W b g) (o : Obj) : GrBox (W.alloc o) b g := (Below.heap_alloc _ _ _ (lt_of_heap h)).trans h
theorem GrBox.gstore_other {V : World} {b b' : Nat} {g r : Gr} (h : GrBox V b g) (hne : b ≠ b') : GrBox (gstore V b' r) b g := by
  show (gstore V b' r).heap[b]? = _
  rw [Below.heap_setCell _ _ _ _ hne, Below.heap_setCell _ _ _ _ hne, Below.heap_setCell _ _ _ _ hne, Below.heap_setCell _ _ _ _ hne, Below.heap_setCell _ _ _ _ hne, Below.heap_setCell _ _ _ _ hne]
  exact h
/-- The graph in a block. -/
noncomputable def grOf (V : World) (b : Nat) : Gr := open Classical in if h : ∃ g, GrBox V b g then Classical.choose h else gz0
/-- Two graphs in boxes of their own. -/
structure Two (w W : World) (a b : Gr) : Prop where
  ext : Ext w W
  a : GrBox W w.heap.size a
  b : GrBox W (w.heap.size + 1) b
theorem Two.mk_ (w : World) (a b : Gr) : Two w ((w.alloc (.cells #[.int .i64 a.n, .int .i64 a.h0, .int .i64 a.h1, .int .i64 a.h2, .int .i64 a.h3, .int .i64 a.h4] 32)).alloc (.cells #[.int .i64 b.n, .int .i64 b.h0, .int .i64 b.h1, .int .i64 b.h2, .int .i64 b.h3, .int .i64 b.h4] 32)) a b :=
  ⟨((Ext.refl w).alloc _).alloc _, (gr_new w a).alloc _, by
    have := gr_new (w.alloc (.cells #[.int .i64 a.n, .int .i64 a.h0, .int .i64 a.h1, .int .i64 a.h2, .int .i64 a.h3, .int .i64 a.h4] 32)) b
    rwa [World.size_alloc] at this⟩
theorem Two.ext_ {w W V : World} {a b : Gr} (h : Two w W a b) (hE : Ext W V) : Two w V a b := ⟨h.ext.trans hE, h.a.ext hE, h.b.ext hE⟩
/-- Two graphs in boxes of their own, and room for a third. -/
structure Three (w W : World) (a b : Gr) : Prop extends Two w W a b where
  c : ∃ g, GrBox W (w.heap.size + 1 + 1) g
abbrev gobj (g : Gr) : Obj := .cells #[.int .i64 g.n, .int .i64 g.h0, .int .i64 g.h1, .int .i64 g.h2, .int .i64 g.h3, .int .i64 g.h4] 32
abbrev gobj0 : Obj := .cells #[.int .i64 0, .int .i64 0, .int .i64 0, .int .i64 0, .int .i64 0, .int .i64 0] 32
theorem Three.mk_ (w : World) (a b : Gr) : Three w (((w.alloc (gobj a)).alloc (gobj b)).alloc gobj0) a b :=
  ⟨⟨(Two.mk_ w a b).ext.alloc _, (Two.mk_ w a b).a.alloc _, (Two.mk_ w a b).b.alloc _⟩, gz0, by
    have := gr_new ((w.alloc (gobj a)).alloc (gobj b)) gz0
    rwa [World.size_alloc, World.size_alloc] at this⟩
theorem Three.ext_ {w W V : World} {a b : Gr} (h : Three w W a b) (hE : Ext W V) : Three w V a b := ⟨h.toTwo.ext_ hE, by obtain ⟨g, hg⟩ := h.c; exact ⟨g, hg.ext hE⟩⟩
/-- A graph in a box of its own, and room for a second. -/
structure One1 (w W : World) (a : Gr) : Prop where
  ext : Ext w W
  a : GrBox W w.heap.size a
  c : ∃ g, GrBox W (w.heap.size + 1) g
theorem One1.mk_ (w : World) (a : Gr) : One1 w ((w.alloc (gobj a)).alloc gobj0) a :=
  ⟨((Ext.refl w).alloc _).alloc _, (gr_new w a).alloc _, gz0, by
    have := gr_new (w.alloc (gobj a)) gz0
    rwa [World.size_alloc] at this⟩
theorem One1.ext_ {w W V : World} {a : Gr} (h : One1 w W a) (hE : Ext W V) : One1 w V a := ⟨h.ext.trans hE, h.a.ext hE, by obtain ⟨g, hg⟩ := h.c; exact ⟨g, hg.ext hE⟩⟩
theorem bothS_a {a b : Gr} (h : gchk a ≠ 0) : bothS a b = gchk a := by unfold bothS; rw [if_pos h]
theorem bothS_b {a b : Gr} (h : gchk a = 0) (h2 : gchk b ≠ 0) : bothS a b = gchk b := by unfold bothS; rw [if_neg (by simp [h]), if_pos h2]
theorem bothS_n {a b : Gr} (h : gchk a = 0) (h2 : gchk b = 0) (h3 : a.n ≠ b.n) : bothS a b = 22 := by unfold bothS; rw [if_neg (by simp [h]), if_neg (by simp [h2]), if_pos h3]
theorem bothS_0 {a b : Gr} (h : gchk a = 0) (h2 : gchk b = 0) (h3 : a.n = b.n) : bothS a b = 0 := by unfold bothS; rw [if_neg (by simp [h]), if_neg (by simp [h2]), if_neg (by simp [h3])]

set_option maxHeartbeats 1000000 in
theorem gboth_any (a b : Gr) (w : World) : Calls Tryd.prog 30 #[a.v, b.v] w fun e w' => e = .returned (.int .i64 (bothS a b)) ∧ Ext w w' := by
  have HA := hide (fun W => gcheck_any a W)
  have HB := hide (fun W => gcheck_any b W)
  have H1 := hide (bothS_a (a := a) (b := b))
  have H2 := hide (bothS_b (a := a) (b := b))
  have H3 := hide (bothS_n (a := a) (b := b))
  have H4 := hide (bothS_0 (a := a) (b := b))
  generalize bothS a b = res at H1 H2 H3 H4 ⊢
  generalize gchk a = ea at HA H1 H2 H3 H4
  generalize gchk b = eb at HB H2 H3 H4
  go_enter Tryd.func30, Tryd.ntmps30
  go_wp2_with fail
  have HT := hide (Two.mk_ w a b)
  refine (HA.out _).mono ?_
  rintro e w1 ⟨rfl, hE⟩
  have HT := hide (HT.out.ext_ hE)
  clear hE
  by_cases h1 : ea = 0
  case neg =>
    have hd : (ea != 0) = true := by simp [h1]
    have HR := hide (H1.out h1)
    clear h1
    go_wp2_with fail
    go_ret
    exact ⟨ret_int HR.out.symm, HT.out.ext⟩
  case pos =>
  subst h1
  obtain ⟨c0, c1, c2, c3, c4, c5, hz⟩ := HT.out.b.cells
  go_wp2_with fail
  refine (HB.out _).mono ?_
  rintro e w2 ⟨rfl, hE⟩
  clear c0 c1 c2 c3 c4 c5 hz
  have HT := hide (HT.out.ext_ hE)
  clear hE
  by_cases h1 : eb = 0
  case neg =>
    have hd : (eb != 0) = true := by simp [h1]
    have HR := hide (H2.out (by trivial) h1)
    clear h1
    go_wp2_with fail
    go_ret
    exact ⟨ret_int HR.out.symm, HT.out.ext⟩
  case pos =>
  subst h1
  obtain ⟨c0, -⟩ := HT.out.a.cells
  obtain ⟨d0, -⟩ := HT.out.b.cells
  have z0 := lt_of_heap HT.out.a
  have z1 := lt_of_heap HT.out.b
  by_cases h1 : a.n = b.n
  case neg =>
    have hd : (a.n != b.n) = true := by simp [h1]
    have HR := hide (H3.out (by trivial) (by trivial) h1)
    clear h1
    go_wp2_with fail
    go_ret
    exact ⟨ret_int HR.out.symm, HT.out.ext⟩
  case pos =>
    have hd : (a.n != b.n) = false := by simp [h1]
    have HR := hide (H4.out (by trivial) (by trivial) h1)
    clear h1
    go_wp2_with fail
    go_ret
    exact ⟨ret_int HR.out.symm, HT.out.ext⟩
end Go.Proofs.YtdlhnpogddpmpaaDoor

namespace Go.Proofs.YtdlhnpogddpmpaaDoor
open Go.RowKit

/-- The table of math/bits lies in its variable. -/
def Tz (W : World) : Prop := 1 < W.heap.size ∧ ∀ j, j < 64 → W.cell? ⟨1, j, none⟩ = some (.int .u8 (Lib.deBruijn64tab.getD j 0))
theorem Tz.ext {w W : World} (h : Tz w) (hE : Ext w W) : Tz W := ⟨Nat.lt_of_lt_of_le h.1 hE.size, fun j hj => (hE.cell (p := ⟨1, j, none⟩) h.1).trans (h.2 j hj)⟩
theorem tz_key (x a : Nat) (hx : x < 18446744073709551616) (hx0 : x ≠ 0) (hlow : x &&& (18446744073709551616 - x) = a) :
    IntKind.u64.wrap (bits BinOp.and IntKind.u64 (x : Int) (IntKind.u64.wrap (-(x : Int))) * 285870213051353865) / 288230376151711744 = ((a * 285870213051353865 % 18446744073709551616 / 288230376151711744 : Nat) : Int) := by
  have e1 : IntKind.u64.wrap (-(x : Int)) = ((18446744073709551616 - x : Nat) : Int) := by rw [IntKind.wrap_u64]; omega
  rw [e1, bits_and_u64_nat x _ hx (by omega), hlow, IntKind.wrap_u64]
  omega
set_option maxHeartbeats 1000000 in
theorem tz64_core (x k idx : Nat) (w : World) (hx0 : ((x : Int) == 0) = false)
    (key : IntKind.u64.wrap (bits BinOp.and IntKind.u64 (x : Int) (IntKind.u64.wrap (-(x : Int))) * 285870213051353865) / 288230376151711744 = (idx : Int))
    (hi : idx < 64) (hk : k < 64) (hcell : w.cell? ⟨1, idx, none⟩ = some (.int .u8 k)) :
    Calls Tryd.prog 96 #[.int .u64 x] w fun e w' => e = .returned (.int .i64 k) ∧ w' = w := by
  go_enter Tryd.func96, Tryd.ntmps96
  go_wp2_with (simp only [key])
  go_ret
  exact ⟨rfl, rfl⟩
theorem tz64_zero (w : World) : Calls Tryd.prog 96 #[.int .u64 0] w fun e w' => e = .returned (.int .i64 64) ∧ w' = w := by
  go_enter Tryd.func96, Tryd.ntmps96
  go_wp2
  go_ret
  exact ⟨rfl, rfl⟩
theorem tz64_any (x : Nat) (hx : x < 18446744073709551616) (w : World) (hT : Tz w) :
    Calls Tryd.prog 96 #[.int .u64 x] w fun e w' => e = .returned (.int .i64 (Lib.ctz 64 x)) ∧ w' = w := by
  by_cases hx0 : x = 0
  · subst hx0
    exact tz64_zero w
  · obtain ⟨hlow, hk⟩ := Lib.lowest_bit 64 x hx0 hx
    obtain ⟨hi, htab⟩ := Lib.deBruijn64_at _ hk
    have hcell := hT.2 _ hi
    rw [htab] at hcell
    exact tz64_core x _ _ w (by simp; omega) (tz_key x _ hx hx0 hlow) hi hk hcell
theorem tz_any (x : Nat) (hx : x < 18446744073709551616) (w : World) (hT : Tz w) :
    Calls Tryd.prog 94 #[.int .u64 x] w fun e w' => e = .returned (.int .i64 (Lib.ctz 64 x)) ∧ w' = w := by
  have c64 := tz64_any x hx w hT
  have hw : IntKind.u64.wrap (x : Int) = (x : Int) := by rw [IntKind.wrap_u64]; omega
  go_enter Tryd.func94, Tryd.ntmps94
  go_wp2_with (go_at_call 96; refine c64.mono ?_; rintro e w' ⟨rfl, rfl⟩)
  go_ret
  exact ⟨rfl, rfl⟩
end Go.Proofs.YtdlhnpogddpmpaaDoor

namespace Go.Proofs.YtdlhnpogddpmpaaDoor
open Go.RowKit
attribute [local go_sem] Oper.semAt_some

/-- The elements of a set of at most five processes. -/
def el (s : Nat) : List Nat := (List.range 5).filter fun p => s.testBit p
theorem el_next : ∀ x, x < 32 → x ≠ 0 → el x = Lib.ctz 64 x :: el (x &&& (x - 1)) ∧ x &&& (x - 1) < x := by decide +kernel
theorem el_zero : el 0 = [] := by decide
theorem el_lt {s m : Nat} (h : m ∈ el s) : m < 5 ∧ s.testBit m = true := by
  unfold el at h
  simpa using List.mem_filter.1 h
theorem el_len (s : Nat) : (el s).length ≤ 5 := by
  unfold el
  exact Nat.le_trans (List.length_filter_le _ _) (by simp)
abbrev elSeq (s : Nat) : List (Array Value) := (el s).map fun m : Nat => #[.int .i64 (m : Int)]
theorem elements_any (s : Int) (w : World) : Calls Tryd.prog 87 #[.int .i64 s] w fun e w' =>
    e = .returned (.func (.func 93) #[] #[.pointer (some ⟨w.heap.size, 0, none⟩)]) ∧ w' = w.alloc (.cells #[.int .i64 s] 3) := by
  go_enter Tryd.func87, Tryd.ntmps87
  go_wp2
  go_ret
  exact ⟨rfl, rfl⟩
theorem bits_u64 (a b : Nat) (ha : a < 32) (hb : b < 32) : bits .and .u64 (a : Int) (b : Int) = ((a &&& b : Nat) : Int) := bits_and_u64_nat a b (by omega) (by omega)
set_option maxHeartbeats 2000000 in
theorem elements_seq (s : Nat) (hs : s < 32) (w0 : World) (hT : Tz w0) (g : Nat) :
    Seq Tryd.prog 93 #[.pointer (some ⟨g, 0, none⟩)] (fun W => Ext w0 W ∧ W.cell? ⟨g, 0, none⟩ = some (.int .i64 s)) (elSeq s) := by
  intro l J Jx W hD hJ hJx hY h0
  have HD := hide hD
  have HJ := hide hJ
  have HJX := hide hJx
  have HY := hide hY
  have H0 := hide h0
  have HTZ := hide hT
  obtain ⟨hE0, hb0⟩ := HD.out _ _ h0
  clear h0 hD hJ hJx hY hT
  have hcv : IntKind.u64.wrap (s : Int) = (s : Int) := by rw [IntKind.wrap_u64]; omega
  refine callsIn_of_wp Tryd.func93 rfl trivial ?_ rfl
  simp only [Tryd.ntmps93, List.size_toArray, List.length_cons, List.length_nil, Nat.reduceAdd, Nat.reduceSub, Array.replicate_succ, Array.replicate_zero, List.push_toArray, List.append_toArray, List.nil_append, List.cons_append]
  gi_wp2
  gi_loopw [3] (fun x wr => ∃ (i y : Nat), x = .int .u64 y ∧ y < 32 ∧ i ≤ (el s).length ∧ Hid ((el s).drop i = el y) ∧ Hid (J i wr)) (fun x _ => (intOf x).toNat)
  case atStart => exact ⟨0, s, by simp, hs, by omega, by rw [List.drop_zero]; rfl, H0.out⟩
  case round =>
    obtain ⟨i, y, rfl, hy, hi, HL, HJ1⟩ := hrel
    obtain ⟨hE, hb⟩ := HD.out _ _ HJ1.out
    have hj1 := HJ1.out
    by_cases hy0 : y = 0
    · subst hy0
      have hil : i = (el s).length := by
        have h1 : (el s).drop i = [] := HL.out.trans el_zero
        have := List.drop_eq_nil_iff.1 h1
        omega
      have HJE : Hid (J (elSeq s).length wr) := by show J _ _; rw [List.length_map, ← hil]; exact HJ1.out
      clear hil
      gi_wp2_with fail
      exact bodyPost_end (results_none rfl _ _ _) rfl ⟨⟨_, rfl⟩, .inl HJE.out⟩
    · have hd : ((y : Int) != 0) = true := by simp [hy0]
      obtain ⟨hel, hlt⟩ := el_next y hy hy0
      have hsub : IntKind.u64.wrap ((y : Int) - 1) = ((y - 1 : Nat) : Int) := by rw [IntKind.wrap_u64]; omega
      have hand := bits_u64 y (y - 1) hy (by omega)
      have HC := hide (tz_any y (by omega) wr (HTZ.out.ext hE))
      have hx : (elSeq s)[i]? = some #[.int .i64 (Lib.ctz 64 y : Nat)] := by
        have h1 := HL.out.trans hel
        have h2 : (el s)[i]? = some (Lib.ctz 64 y) := by rw [← List.head?_drop, h1]; rfl
        rw [List.getElem?_map, h2]; rfl
      have HN : Hid ((el s).drop (i + 1) = el (y &&& (y - 1))) := by
        have h1 := HL.out.trans hel
        show _ = _
        rw [← List.tail_drop, h1]; rfl
      have HIL : Hid (i + 1 ≤ (el s).length) := by
        have h1 := congrArg List.length (HL.out.trans hel)
        rw [List.length_drop, List.length_cons] at h1
        show _ ≤ _
        omega
      obtain ⟨fn, tmps, assign, body, hy', hR⟩ := HY.out i _ _ hx HJ1.out
      replace hy' : (Instr.yield l #[.int .i64 (Lib.ctz 64 y : Nat)]).run Tryd.prog _ = _ := hy'
      have HR := hide hR
      have HEL := hide hel
      generalize Lib.ctz 64 y = c at hx HC HR hy' HEL
      have HX := hide hx
      have HSUB := hide hsub
      have HAND := hide hand
      clear hR hy0 hel hx hsub hand
      gi_wp2_with fail
      refine ⟨trivial, rfl, (callsIn_wide (n := 0)).2 (HC.out.mono ?_)⟩
      rintro e w1 ⟨rfl, rfl⟩
      clear hb
      gi_wp2_with fail
      refine ⟨rfl, HR.out.mono ?_⟩
      rintro e W' (⟨rfl, hJ'⟩ | ⟨rfl, hJx'⟩)
      · have HJ3 := hide hJ'
        have hsub := HSUB.out
        have hand := HAND.out
        clear hJ' HR hj1 hE hy' HJ1
        gi_wp2_with fail
        exact ⟨⟨i + 1, y &&& (y - 1), by simp, by omega, HIL.out, HN, HJ3⟩, by simp [intOf]; omega⟩
      · have HJ3 := hide hJx'
        clear hJx' HR hj1 hE hy' HJ1
        gi_wp2_with fail
        exact bodyPost_ret (results_none rfl _ _ _) rfl ⟨⟨_, rfl⟩, .inr HJ3.out⟩
theorem every_any (n : Int) (w : World) : Calls Tryd.prog 88 #[.int .i64 n] w fun e w' => e = .returned (.bool true) ∧ w' = w := by
  go_enter Tryd.func88, Tryd.ntmps88
  go_wp2
  go_ret
  exact ⟨rfl, rfl⟩
def elI (s : Nat) : List Int := (el s).map fun m : Nat => (m : Int)
theorem elI_length (s : Nat) : (elI s).length = (el s).length := List.length_map _
theorem el_take {s i : Nat} (h : i < (el s).length) : ((elI s).take (i + 1)) = (elI s).take i ++ [((el s)[i] : Int)] := by
  rw [List.take_succ_eq_append_getElem (by rw [elI_length]; exact h)]; simp [elI]
set_option maxRecDepth 8000 in
set_option maxHeartbeats 2000000 in
theorem collected_any (s : Nat) (hs : s < 32) (gs : Nat) (w : World) (hT : Tz w) (hgs : gs < w.heap.size) (hcs : w.cell? ⟨gs, 0, none⟩ = some (.int .i64 s)) :
    Calls Tryd.prog 86 #[.func (.func 93) #[] #[.pointer (some ⟨gs, 0, none⟩)], .func (.func 88) #[] #[]] w
      (RetV (fun u w' => Own icells 1 w' w.heap.size 3 u (elI s)) w) := by
  have HSEQ := hide (elements_seq s hs w hT gs)
  have HCS := hide hcs
  have HLEN := hide (el_len s)
  clear hcs
  refine calls_of_wp_m Tryd.func86 rfl ?_
  simp only [Tryd.ntmps86, List.size_toArray, List.length_cons, List.length_nil, Nat.reduceAdd, Nat.reduceSub, Array.replicate_succ, Array.replicate_zero, List.push_toArray, List.append_toArray, List.nil_append, List.cons_append]
  go_wp2_with fail
  obtain ⟨w1, hw1⟩ : ∃ w1, (w.alloc (.cells #[.func (.func 88) #[] #[]] 65)).alloc (.cells #[.slice none 0 0] 70) = w1 := ⟨_, rfl⟩
  have hE1 : Ext w w1 := by rw [← hw1]; exact ((Ext.refl w).alloc _).alloc _
  have hz1 : w1.heap.size = w.heap.size + 2 := by rw [← hw1]; simp
  have hb0 : Box w1 w.heap.size 65 (.func (.func 88) #[] #[]) := by rw [← hw1]; exact (Box.new w _ _).alloc _
  have hb1 : Box w1 (w.heap.size + 1) 70 (.slice none 0 0) := by
    rw [← hw1]; have := Box.new (w.alloc (.cells #[.func (.func 88) #[] #[]] 65)) 70 (.slice none 0 0)
    simpa only [World.size_alloc] using this
  rw [hw1]
  clear hw1
  refine wp_range rfl (fun _ _ => rfl) HSEQ.out (fun x hx => by obtain ⟨m, _, rfl⟩ := List.mem_map.1 hx; rfl)
    (fun i V => Ext w V ∧ Box V w.heap.size 65 (.func (.func 88) #[] #[]) ∧ ∃ u, Box V (w.heap.size + 1) 70 u ∧ Own icells 1 V (w.heap.size + 2) 3 u ((elI s).take i))
    (fun _ _ => False) ?_ ?_ ?_ ?_ ?_ ?_ ?_
  · rintro i V ⟨hE, _⟩; exact ⟨hE, (hE.cell (by show gs < _; exact hgs)).trans HCS.out⟩
  · rintro i V V' ⟨hE, h1, u, h2, h3⟩ hC
    exact ⟨hE.chg hC (by omega), h1.chg hC, u, h2.chg hC, h3.chg hC⟩
  · rintro c V V' h; exact h.elim
  · exact ⟨hE1, hb0, _, hb1, Own.nil _ _ _ (fun _ => rfl)⟩
  · rintro l i x V hx ⟨hE, h1, u, h2, h3⟩ hl hlV
    have hil : i < (el s).length := by
      rcases Nat.lt_or_ge i (el s).length with h | h
      · exact h
      · rw [List.getElem?_eq_none (by simpa using h)] at hx; cases hx
    have hxe : x = #[.int .i64 ((el s)[i] : Int)] := by
      rw [List.getElem?_map, List.getElem?_eq_getElem hil] at hx
      simpa using hx.symm
    subst hxe
    have HTK := hide (el_take hil)
    generalize ((el s)[i] : Int) = m at HTK
    have hlen : ((elI s).take i).length ≤ 5 := by rw [List.length_take, elI_length]; have := HLEN.out; omega
    have HLN := hide hlen
    clear hlen
    generalize (elI s).take i = L at h3 HTK HLN
    gi_wp2_with fail
    refine ⟨KF.refl _ _, fun W2 hC => ?_⟩
    have hE := hE.chg hC (by omega)
    have h1 := h1.chg hC
    have h2 := h2.chg hC
    have h3 := h3.chg hC
    have hc1 := h1.cell
    have hc2 := h2.cell
    obtain ⟨q, c, rfl⟩ := h3.sl
    have HE := hide hE
    have HO := hide h3
    have HB := hide (And.intro h1 h2)
    clear hC hE h1 h2 h3 hx hb0 hb1 hE1
    gi_wp2_with fail
    refine ⟨trivial, rfl, CallsIn.inRound l ((callsIn_wide (n := 0)).2 ((every_any m W2).mono ?_))⟩
    rintro e W3 ⟨rfl, rfl⟩
    have hf2 := HB.out.2.frozen
    gi_wp2_with (gi_at_builtin; refine wpListIn_append1 rfl (.tmp 12) (.tmp 14) 70 rfl (w.heap.size + 2) 3 (.int .i64 0) 1 8 Tryd.underlying70 int_info rfl (by decide) _ L m W3.heap.size rfl (HO.out.alloc _) rfl (cell_new1 _ _ _) (int_one m) (by have := HLN.out; omega) (by decide) (by simp only [World.size_alloc]; have := HE.out.size; have := HB.out.2.lt; omega) ?_; intro v' W6 hown' hg6 hf6; have hb6 : Box W6 (w.heap.size + 1) 70 (.slice q L.length c) := (HB.out.2.alloc _).grown hg6 (fun k hk => by have := HO.out.block_ge k hk; omega); have hc6 := hb6.cell; have hz6 := hb6.frozen; have HB6 := hide hb6; clear hb6; obtain ⟨g7, c7, rfl, -⟩ := hf6)
    have hE6 : Ext w W6 := (HE.out.alloc _).grown hg6 (fun k hk => by have := HO.out.block_ge k hk; omega)
    have hk6 : KF w1.heap.size W3 W6 := (KF.of_ext ((Ext.refl W3).alloc _)).trans (KF.grown hg6 (fun k hk => .inr (by
      obtain ⟨cs, fr, hh⟩ := HO.out.typed k hk
      exact ⟨cs, _, fr, (Below.heap_alloc _ _ _ (lt_of_heap hh)).trans hh⟩)))
    have hb6 : Box W6 w.heap.size 65 (.func (.func 88) #[] #[]) := (HB.out.1.alloc _).grown hg6 (fun k hk => by have := HO.out.block_ge k hk; omega)
    refine ⟨hk6.trans (KF.setCell _ _ _), hE6.setCell (by show w.heap.size ≤ w.heap.size + 1; omega) _, hb6.other (by show w.heap.size ≠ w.heap.size + 1; omega), _, HB6.out.set, ?_⟩
    rw [HTK.out]
    exact hown'.setNe (fun k hk => by have := hown'.block_ge k hk; show k ≠ w.heap.size + 1; omega) _
  · rintro M V ⟨hE, h1, u, h2, h3⟩ hMl hM
    have hc2 := h2.cell
    obtain ⟨q, c, rfl⟩ := h3.sl
    rw [List.length_map, ← elI_length, List.take_length] at h3
    have HO := hide h3
    have HE := hide hE
    have HM := hide hM
    clear h1 h2 h3 hE hM
    rw [List.length_map, ← elI_length, List.take_length] at hc2
    go_wp2_with fail
    exact leave_mark rfl HM.out (results_tmp rfl _ _ _) ⟨_, rfl, (HO.out.chg (Chg.putObj (B := w1.heap.size) _ HM.out rfl hMl)).mono (by omega), HE.out.putObj (show w.heap.size ≤ M by omega) _⟩
  · rintro M c V h; exact h.elim
set_option maxHeartbeats 1000000 in
theorem pmembers_any (s : Nat) (hs : s < 32) (w : World) (hT : Tz w) :
    Calls Tryd.prog 78 #[.int .i64 5, .int .i64 s] w (RetV2 (fun u w' => Own icells 1 w' w.heap.size 3 u (elI s)) 0 w) := by
  have HC := hide (fun W => pcheck_any 5 (s : Int) W)
  rw [pchk_ok (n := 5) (by omega) (by omega) (by show (s : Int) < 32; omega)] at HC
  have HL := hide (fun W gs (hE : Ext w W) h1 h2 => collected_any s hs gs W (hT.ext hE) h1 h2)
  have HE := hide (fun W => elements_any (s : Int) W)
  clear hT
  go_enter Tryd.func78, Tryd.ntmps78
  go_wp2_with (go_at_call 79; refine (HC.out _).mono ?_; rintro e w1 ⟨rfl, rfl⟩)
  refine (HE.out _).mono ?_
  rintro e w2 ⟨rfl, hw2⟩
  have hE2 : Ext w1 w2 := by rw [hw2]; exact (Ext.refl w1).alloc _
  have hb : Box w2 w1.heap.size 3 (.int .i64 s) := by rw [hw2]; exact Box.new _ _ _
  have HB := hide hb
  have HE2 := hide hE2
  clear hw2 hb hE2
  go_wp2_with fail
  refine (HL.out _ _ HE2.out HB.out.lt HB.out.cell).mono ?_
  rintro e w3 ⟨u, rfl, hu, hE3⟩
  obtain ⟨q, c, rfl⟩ := hu.sl
  have HU := hide hu
  have HE3 := hide (HE2.out.trans hE3)
  have HZ := hide HE2.out.size
  clear hu hE3
  go_wp2_with fail
  go_ret2
  exact ⟨_, rfl, HU.out.mono HZ.out, HE3.out⟩
theorem members_any (s : Nat) (hs : s < 32) (w : World) (hT : Tz w) :
    Calls Tryd.prog 63 #[.int .i64 s] w (RetV (fun u w' => Own icells 1 w' w.heap.size 3 u (elI s)) w) := by
  have HC := hide (pmembers_any s hs w hT)
  clear hT
  go_enter Tryd.func63, Tryd.ntmps63
  go_wp2_with fail
  refine HC.out.mono ?_
  rintro e w3 ⟨u, rfl, hu, hE3⟩
  obtain ⟨q, c, rfl⟩ := hu.sl
  have HU := hide hu
  have HE3 := hide hE3
  clear hu hE3
  go_wp2_with fail
  go_ret
  exact ⟨_, rfl, HU.out, HE3.out⟩
end Go.Proofs.YtdlhnpogddpmpaaDoor

namespace Go.Proofs.YtdlhnpogddpmpaaDoor
open Go.RowKit
attribute [local go_sem] Oper.semAt_some

def gatL (f : Nat → Nat) (l : List Nat) : Nat := l.foldl (fun a m => a ||| f m) 0
theorem gatL_snoc (f : Nat → Nat) (l : List Nat) (m : Nat) : gatL f (l ++ [m]) = gatL f l ||| f m := by unfold gatL; rw [List.foldl_append]; rfl
theorem gatL_el (f : Nat → Nat) (s : Nat) : ∀ k, gatL f ((List.range k).filter fun p => s.testBit p) = unionR f s k
  | 0 => rfl
  | k + 1 => by
    rw [List.range_succ, List.filter_append, unionR]
    cases h : s.testBit k with
    | true => simp only [List.filter_cons, h, if_true, List.filter_nil]; rw [gatL_snoc, gatL_el f s k]
    | false => simp only [List.filter_cons, h, Bool.false_eq_true, if_false, List.filter_nil, List.append_nil, Nat.or_zero]; exact gatL_el f s k
theorem gatL_lt {f : Nat → Nat} (h : ∀ m, f m < 32) : ∀ (l : List Nat), gatL f l < 32 := by
  intro l
  unfold gatL
  have key : ∀ (l : List Nat) (a : Nat), a < 2 ^ 5 → l.foldl (fun a m => a ||| f m) a < 2 ^ 5 := by
    intro l
    induction l with
    | nil => intro a ha; exact ha
    | cons m l ih => intro a ha; exact ih _ (Nat.or_lt_two_pow ha (h m))
  exact key l 0 (by decide)
set_option maxRecDepth 8000 in
set_option maxHeartbeats 1000000 in
theorem gathered_any (g : Gr) {n : Nat} (hg : Wf g n) (s : Nat) (hs : s < 32) (w : World) (hT : Tz w) :
    Calls Tryd.prog 51 #[g.v, .int .i64 s] w fun e w' => e = .returned (.int .i64 (unionR g.r s 5 : Nat)) ∧ Ext w w' := by
  have HM := hide (fun W (hE : Ext w W) => members_any s hs W (hT.ext hE))
  have HG := hide hg
  have HF := hide (gatL_el g.r s 5)
  have HLT := hide (gatL_lt (f := g.r) hg.lt32)
  clear hg hT
  go_enter Tryd.func51, Tryd.ntmps51
  go_wp2_with fail
  obtain ⟨w1, hw1⟩ : ∃ w1, w.alloc (.cells #[.int .i64 g.n, .int .i64 g.h0, .int .i64 g.h1, .int .i64 g.h2, .int .i64 g.h3, .int .i64 g.h4] 32) = w1 := ⟨_, rfl⟩
  have hE1 : Ext w w1 := by rw [← hw1]; exact (Ext.refl w).alloc _
  have HB : Hid (GrBox w1 w.heap.size g) := by show GrBox _ _ _; rw [← hw1]; exact gr_new w g
  rw [hw1]
  clear hw1
  refine (HM.out w1 hE1).mono ?_
  rintro e w2 ⟨u, rfl, hu, hE2⟩
  have HB := hide (HB.out.ext hE2)
  have HE := hide (hE1.trans hE2)
  obtain ⟨p, c, rfl, -, -, hat⟩ := (hu.row (by rw [elI_length]; have := el_len s; omega)).int_all
  have HAT := hide hat
  clear hat hu hE1 hE2
  go_wp2_with fail
  rw [elI_length] at HAT ⊢
  have HLL := hide (el_len s)
  go_loop [5, 11] (fun o x => ∃ i : Nat, i ≤ (el s).length ∧ x = .int .i64 i ∧ o = .int .i64 (gatL g.r ((el s).take i) : Nat)) (fun _ x => (el s).length - (intOf x).toNat)
  case atStart => exact ⟨0, by omega, rfl, rfl⟩
  case round =>
    obtain ⟨i, hi, rfl, rfl⟩ := hrel
    have hgl := HLT.out ((el s).take i)
    by_cases hlt : i < (el s).length
    · obtain ⟨b, o, rfl, hb, hat⟩ := HAT.out (by omega)
      have hx := hat i hlt w2 (Ext.refl _)
      have hm := el_lt (s := s) (List.getElem_mem hlt)
      have hxe : (elI s).getD i 0 = ((el s)[i] : Int) := by
        unfold elI; rw [List.getD_eq_getElem?_getD, List.getElem?_map, List.getElem?_eq_getElem hlt]; rfl
      have HS := hide (gatL_snoc g.r ((el s).take i) (el s)[i])
      rw [hxe] at hx
      rw [← List.take_succ_eq_append_getElem hlt] at HS
      generalize (el s)[i] = m at hx hm HS
      obtain ⟨hrow, -⟩ := HB.out.row (p := m) hm.1
      have hz := lt_of_heap HB.out
      rw [HG.out.row] at hrow
      have hr32 := HG.out.lt32 m
      have hm5 : (m : Int) < 5 := by have := hm.1; omega
      have hor := i64_or_nat (gatL g.r ((el s).take i)) (g.r m) (by omega) (by omega)
      rw [← HS.out] at hor
      have hi5 : i < 5 := by have := HLL.out; omega
      clear hat hxe hm hi HS
      generalize gatL g.r ((el s).take i) = x0 at *
      go_wp2_with fail
      go_round
      case rel => exact ⟨i + 1, by omega, by go_num, rfl⟩
      case measure => simp [intOf]; omega
    · obtain rfl : i = (el s).length := by omega
      rw [List.take_length]
      have HF' : Hid (gatL g.r (el s) = unionR g.r s 5) := HF.out
      go_wp2_with fail
      go_ret
      exact ⟨ret_int (by rw [HF'.out]), HE.out⟩
set_option maxRecDepth 8000 in
set_option maxHeartbeats 1000000 in
theorem product1_any (a b : Gr) {n : Nat} (ha : Wf a n) (hb : Wf b n) (p : Nat) (hp : p < n) (ba bb : Nat) (w : World) (hT : Tz w) (hba : GrBox w ba a) (hbb : GrBox w bb b) :
    Calls Tryd.prog 50 #[.int .i64 p, .pointer (some ⟨ba, 0, none⟩), .pointer (some ⟨bb, 0, none⟩)] w fun e w' => e = .returned (.int .i64 (unionR a.r (b.r p) 5 : Nat)) ∧ Ext w w' := by
  have HG := hide (fun W (hE : Ext w W) => gathered_any a ha (b.r p) (hb.lt32 p) W (hT.ext hE))
  have hp5 : (p : Int) < 5 := by have := ha.n5; omega
  obtain ⟨hrow, -⟩ := hbb.row (p := p) (by omega)
  rw [hb.row] at hrow
  have z2 := lt_of_heap hbb
  obtain ⟨c0, c1, c2, c3, c4, c5, z1⟩ := hba.cells
  clear ha hb hba hbb hT hp
  generalize b.r p = x at HG hrow ⊢
  go_enter Tryd.func50, Tryd.ntmps50
  go_wp2_with fail
  refine wp_region_ext (by kernel_rfl) (by kernel_rfl) ?_
  repeat (go_big_quiet_step ((go_at_call 51; exact Calls.ext_of (HG.out _ (by simp [go_sem])))))
  refine wpQuiet_nil ?_
  rintro w9 ⟨⟨_, hE9⟩, rfl⟩
  go_wp2_with fail
  go_ret
  exact ⟨rfl, hE9⟩
theorem enters_p1 : ∀ args w, (callFunc 50 args).run Tryd.prog w = .ok (.enter 50 args) w := fun _ _ => by kernel_rfl
set_option maxHeartbeats 1000000 in
theorem product_any (a b : Gr) {n : Nat} (ha : Wf a n) (hb : Wf b n) (w : World) (hT : Tz w) :
    Calls Tryd.prog 31 #[a.v, b.v] w fun e w' => e = .returned (compG a b).v ∧ Ext w w' := by
  have HP := hide (fun p hp ba bb W (hE : Ext w W) h1 h2 => product1_any a b ha hb p hp ba bb W (hT.ext hE) h1 h2)
  have HM := hide (made_any n ha.n5 50)
  have HN := hide ha.n_eq
  have HC : Hid (compG a b = mkG n (fun p => (unionR a.r (b.r p) 5 : Nat)) n) := by show _ = _; unfold compG natG; rw [ha.toNat]
  rw [HC.out]
  generalize hr : mkG n (fun p => (unionR a.r (b.r p) 5 : Nat)) n = r
  have HR := hide hr
  clear ha hb hT hr HC
  go_enter Tryd.func31, Tryd.ntmps31
  go_wp2_with fail
  have HT := hide (Three.mk_ w a b)
  generalize ((w.alloc (gobj a)).alloc (gobj b)).alloc gobj0 = W at HT ⊢
  rw [HN.out]
  refine (HM.out _ _ _ enters_p1 (fun p W hp hE => by exact HP.out p hp _ _ W (HT.out.ext.trans hE) (HT.out.a.ext hE) (HT.out.b.ext hE))).mono ?_
  rintro e w2 ⟨rfl, hE2⟩
  have HT := hide (HT.out.ext_ hE2)
  clear hE2
  rw [HR.out]
  obtain ⟨g, hg⟩ := HT.out.c
  obtain ⟨d0, d1, d2, d3, d4, d5, dz⟩ := hg.cells
  obtain ⟨f0, f1, f2, f3, f4, f5⟩ := hg.frozen
  have HG := hide hg
  clear hg
  go_wp2_with fail
  exact bodyPost_ret (v := r.v) (results_gr rfl _ rfl (HG.out.store r)) rfl ⟨rfl, HT.out.ext.gstore (by omega) r⟩
end Go.Proofs.YtdlhnpogddpmpaaDoor
