/-
  All graphs (roundtableref03.All).
  Conditions: as each theorem states.
-/
import Derived.Test.YthpccmmdkbjjhaaDoorOwned
import Derived.Test.YthpccmmdkbjjhaaDoorFound
import Derived.Deep.CutRange
namespace Go.Proofs.YthpccmmdkbjjhaaDoor
open Go.RowKit

/-- The six cells of a graph at an address, in every later world. -/
def GrAt (w : World) (b k : Nat) (m : Gr) : Prop :=
  (∀ W, Ext w W → W.cell? ⟨b, k, none⟩ = some (.int .i64 m.n)) ∧ (∀ W, Ext w W → W.cell? ⟨b, k + 1, none⟩ = some (.int .i64 m.h0)) ∧
  (∀ W, Ext w W → W.cell? ⟨b, k + 2, none⟩ = some (.int .i64 m.h1)) ∧ (∀ W, Ext w W → W.cell? ⟨b, k + 3, none⟩ = some (.int .i64 m.h2)) ∧
  (∀ W, Ext w W → W.cell? ⟨b, k + 4, none⟩ = some (.int .i64 m.h3)) ∧ (∀ W, Ext w W → W.cell? ⟨b, k + 5, none⟩ = some (.int .i64 m.h4))
theorem Row.gr_all {w : World} {v : Value} {ms : List Gr} (h : Row Gr.cells 6 w v ms) :
    ∃ (p : Option Addr) (c : Nat), v = .slice p ms.length c ∧ ms.length ≤ c ∧ ms.length ≤ 17592186044416 ∧
      (0 < ms.length → ∃ b o, p = some ⟨b, o, none⟩ ∧ b < w.heap.size ∧ ∀ i, i < ms.length → GrAt w b (o + i * 6) (ms.getD i default)) := by
  obtain ⟨p, c, hv, h2, h3, h4⟩ := h
  refine ⟨p, c, hv, h2, by omega, fun hl => ?_⟩
  obtain ⟨b, o, hp, hb, hc⟩ := h4 hl
  refine ⟨b, o, hp, hb, fun i hi => ?_⟩
  have hx : ms[i]? = some (ms.getD i default) := by rw [List.getD_eq_getElem?_getD, List.getElem?_eq_getElem hi]; rfl
  have hj := fun j u hu W (hE : Ext w W) => (hE.cell (p := ⟨b, o + i * 6 + j, none⟩) hb).trans (hc i _ hx j u hu)
  exact ⟨hj 0 _ rfl, hj 1 _ rfl, hj 2 _ rfl, hj 3 _ rfl, hj 4 _ rfl, hj 5 _ rfl⟩
theorem graph_info : (Tryd.prog.info? 70).map (fun i => (i.zero, i.size, i.bytes)) = some (some (Gr.v default), 6, 48) := by kernel_rfl
theorem gr_one (x : Gr) : ∀ u ∈ Gr.cells x, u.oneCell' = true := by intro u hu; simp only [List.mem_cons, List.not_mem_nil, or_false] at hu; rcases hu with rfl | rfl | rfl | rfl | rfl | rfl <;> rfl
theorem own_new_gr (w : World) (r : Gr) : Own Gr.cells 6 (w.alloc (.cells r.cells.toArray 70)) w.heap.size 70 (.slice (some ⟨w.heap.size, 0, none⟩) 1 1) [r] :=
  ⟨fun _ => rfl, rfl, .inr ⟨w.heap.size, 1, r.cells.toArray, rfl, Nat.le_refl _, heap_alloc_new w _, Nat.le_refl _, by unfold maxLen; omega, rfl, rfl⟩⟩
theorem cell_new_gr (w : World) (r : Gr) : ∀ j u, (Gr.cells r)[j]? = some u → (w.alloc (.cells r.cells.toArray 70)).cell? ⟨w.heap.size, j, none⟩ = some u := by
  intro j u h
  rw [cell_new]
  rw [List.getElem?_toArray]; exact h

/-- A graph in a block of its own. -/
def GrBox (W : World) (b : Nat) (g : Gr) : Prop := W.heap[b]? = some (.cells (Gr.cells g).toArray 70 (0, 0))
theorem GrBox.cells {W : World} {b : Nat} {g : Gr} (h : GrBox W b g) : W.cell? ⟨b, 0, none⟩ = some (.int .i64 g.n) ∧ W.cell? ⟨b, 1, none⟩ = some (.int .i64 g.h0) ∧ W.cell? ⟨b, 2, none⟩ = some (.int .i64 g.h1) ∧ W.cell? ⟨b, 3, none⟩ = some (.int .i64 g.h2) ∧
    W.cell? ⟨b, 4, none⟩ = some (.int .i64 g.h3) ∧ W.cell? ⟨b, 5, none⟩ = some (.int .i64 g.h4) ∧ b < W.heap.size := by
  refine ⟨?_, ?_, ?_, ?_, ?_, ?_, lt_of_heap h⟩ <;> (rw [cell_of_row _ _ _ _ _ _ h]; rfl)
theorem GrBox.row {W : World} {b : Nat} {g : Gr} (h : GrBox W b g) {p : Nat} (hp : p < 5) : W.cell? ⟨b, 1 + p, none⟩ = some (.int .i64 (g.h p)) ∧ W.frozen? ⟨b, 1 + p, none⟩ = false :=
  ⟨by rw [cell_of_row _ _ _ _ _ _ h]; exact Gr.row_at _ _ _ _ _ _ _ hp, frozen_of h⟩
/-- Row p replaced. -/
def Gr.set (g : Gr) (p : Nat) (x : Int) : Gr :=
  match p with
  | 0 => { g with h0 := x }
  | 1 => { g with h1 := x }
  | 2 => { g with h2 := x }
  | 3 => { g with h3 := x }
  | 4 => { g with h4 := x }
  | _ => g
theorem Gr.set_set (g : Gr) (p : Nat) (x y : Int) : (g.set p x).set p y = g.set p y := by
  match p with
  | 0 => rfl
  | 1 => rfl
  | 2 => rfl
  | 3 => rfl
  | 4 => rfl
  | _ + 5 => rfl
theorem Gr.set_own (g : Gr) (p : Nat) (hp : p < 5) : g.set p (g.h p) = g := by
  obtain rfl | rfl | rfl | rfl | rfl : p = 0 ∨ p = 1 ∨ p = 2 ∨ p = 3 ∨ p = 4 := by omega
  all_goals rfl
theorem Gr.set_arr (g : Gr) (p : Nat) (x : Int) (hp : p < 5) : (Gr.cells g).toArray.setIfInBounds (1 + p) (.int .i64 x) = (Gr.cells (g.set p x)).toArray := by
  obtain rfl | rfl | rfl | rfl | rfl : p = 0 ∨ p = 1 ∨ p = 2 ∨ p = 3 ∨ p = 4 := by omega
  all_goals rfl
theorem GrBox.set {W : World} {b : Nat} {g : Gr} (h : GrBox W b g) {p : Nat} (hp : p < 5) (x : Int) : GrBox (W.setCell ⟨b, 1 + p, none⟩ (.int .i64 x)) b (g.set p x) := by
  have := heap_set (j := 1 + p) h (.int .i64 x)
  rw [Gr.set_arr _ _ _ hp] at this
  exact this
theorem bit_has {s p : Nat} (hs : s < 9223372036854775808) : (bits .and .i64 ((s : Int) / 2 ^ p) 1 == 1) = has (s : Int) p := by
  unfold has
  have hp := pow_pos' p
  have h0 : 0 ≤ (s : Int) / 2 ^ p := Int.ediv_nonneg (by omega) (by omega)
  have h1 : (s : Int) / 2 ^ p ≤ s := Int.ediv_le_self _ (by omega)
  rw [and_one h0 (by omega)]
theorem Gr.set_list (g : Gr) (p : Nat) (x : Int) (hp : p < 5) : ([.int .i64 g.n, .int .i64 g.h0, .int .i64 g.h1, .int .i64 g.h2, .int .i64 g.h3, .int .i64 g.h4] : List Value).set (1 + p) (.int .i64 x) = Gr.cells (g.set p x) := by
  obtain rfl | rfl | rfl | rfl | rfl : p = 0 ∨ p = 1 ∨ p = 2 ∨ p = 3 ∨ p = 4 := by omega
  all_goals rfl
/-- The sets that hold p, up to s. -/
def setsP (p s : Nat) : List Nat := (List.range s).filter fun i => has (i : Int) p
theorem setsP_yes {p s : Nat} (h : has (s : Int) p = true) : setsP p (s + 1) = setsP p s ++ [s] := by unfold setsP; rw [List.range_succ, List.filter_append]; simp [h]
theorem setsP_no {p s : Nat} (h : has (s : Int) p = false) : setsP p (s + 1) = setsP p s := by unfold setsP; rw [List.range_succ, List.filter_append]; simp [h]
def rowsP (g : Gr) (p s : Nat) : List Gr := (setsP p s).map fun i : Nat => g.set p (i : Int)
theorem rowsP_yes {g : Gr} {p s : Nat} (h : has (s : Int) p = true) : rowsP g p (s + 1) = rowsP g p s ++ [g.set p (s : Int)] := by unfold rowsP; rw [setsP_yes h, List.map_append]; rfl
theorem rowsP_no {g : Gr} {p s : Nat} (h : has (s : Int) p = false) : rowsP g p (s + 1) = rowsP g p s := by unfold rowsP; rw [setsP_no h]
theorem rowsP_len (g : Gr) (p s : Nat) : (rowsP g p s).length ≤ s := by
  unfold rowsP setsP
  rw [List.length_map]
  have := List.length_filter_le (fun i : Nat => has (i : Int) p) (List.range s)
  simpa using this
/-- The first i of the list, with all sets for row p. -/
def flatG (n p : Nat) (L : List Gr) (i : Nat) : List Gr := (L.take i).flatMap fun g => rowsP g p (2 ^ n)
theorem flatG_succ {n p : Nat} {L : List Gr} {i : Nat} (h : i < L.length) : flatG n p L (i + 1) = flatG n p L i ++ rowsP (L.getD i default) p (2 ^ n) := by
  unfold flatG
  rw [List.take_succ_eq_append_getElem h, List.flatMap_append, List.getD_eq_getElem?_getD, List.getElem?_eq_getElem h]
  simp
theorem flatG_len (n p : Nat) (hn : n ≤ 5) (L : List Gr) : ∀ i, (flatG n p L i).length ≤ i * 32 := by
  have h2 : 2 ^ n ≤ 2 ^ 5 := Nat.pow_le_pow_right (by decide) hn
  intro i
  induction i with
  | zero => simp [flatG]
  | succ i ih =>
    rcases Nat.lt_or_ge i L.length with h | h
    · rw [flatG_succ h, List.length_append]
      have := rowsP_len (L.getD i default) p (2 ^ n)
      omega
    · have : flatG n p L (i + 1) = flatG n p L i := by unfold flatG; rw [List.take_of_length_le h, List.take_of_length_le (by omega)]
      rw [this]; omega
/-- The graphs whose first p rows are chosen. -/
def allG (n : Nat) : Nat → List Gr
  | 0 => [⟨n, 0, 0, 0, 0, 0⟩]
  | p + 1 => flatG n p (allG n p) (allG n p).length
theorem sets_table : ((List.range 6).all fun n => (List.range n).all fun p => (setsP p (2 ^ n)).length == 2 ^ (n - 1)) = true := by decide +kernel
theorem setsP_len {n p : Nat} (hn : n ≤ 5) (hp : p < n) : (setsP p (2 ^ n)).length = 2 ^ (n - 1) := by
  have h := sets_table
  rw [List.all_eq_true] at h
  have h := h n (List.mem_range.2 (by omega))
  rw [List.all_eq_true] at h
  have h := h p (List.mem_range.2 hp)
  simpa using h
theorem flatG_full {n p : Nat} (hn : n ≤ 5) (hp : p < n) (L : List Gr) : (flatG n p L L.length).length = L.length * 2 ^ (n - 1) := by
  unfold flatG
  rw [List.take_of_length_le (Nat.le_refl _)]
  induction L with
  | nil => simp
  | cons g L ih =>
    rw [List.flatMap_cons, List.length_append, ih, List.length_cons, Nat.succ_mul]
    unfold rowsP
    rw [List.length_map, setsP_len hn hp]
    omega
theorem allG_len {n : Nat} (hn : n ≤ 5) : ∀ p, p ≤ n → (allG n p).length = (2 ^ (n - 1)) ^ p
  | 0, _ => rfl
  | p + 1, h => by
    show (flatG n p (allG n p) (allG n p).length).length = _
    rw [flatG_full hn (by omega), allG_len hn p (by omega), Nat.pow_succ]
/-- What All returns. -/
def allS (n : Int) : List Gr × Int := if n < 1 ∨ 5 < n then ([], 2) else if n = 5 then ([], 17) else (allG n.toNat n.toNat, 0)
end Go.Proofs.YthpccmmdkbjjhaaDoor

namespace Go.Proofs.YthpccmmdkbjjhaaDoor
open Go.RowKit
attribute [local go_sem] Oper.semAt_some

theorem all_test (n : Int) (w : World) (h : n < 1 ∨ 5 < n) : Calls Tryd.prog 30 #[.int .i64 n] w (RetV2 (fun u w' => Own Gr.cells 6 w' w.heap.size 70 u (allS n).1) (allS n).2 w) := by
  have ha : allS n = ([], 2) := by unfold allS; rw [if_pos h]
  rw [ha]
  by_cases h1 : n < 1
  · go_enter Tryd.func30, Tryd.ntmps30
    go_wp2_with fail
    go_ret2
    exact ⟨_, rfl, Own.nil _ _ _ (fun _ => rfl), Ext.refl _⟩
  · have h2 : 5 < n := by omega
    go_enter Tryd.func30, Tryd.ntmps30
    go_wp2_with fail
    go_ret2
    exact ⟨_, rfl, Own.nil _ _ _ (fun _ => rfl), Ext.refl _⟩
set_option maxRecDepth 16000 in
set_option maxHeartbeats 4000000 in
theorem all_some (N : Nat) (w : World) (h1 : 1 ≤ N) (h4 : N ≤ 4) : Calls Tryd.prog 30 #[.int .i64 N] w (RetV2 (fun u w' => Own Gr.cells 6 w' w.heap.size 70 u (allG N N)) 0 w) := by
  obtain ⟨q, hq, hd⟩ : ∃ q : Nat, wrap64 ((N : Int) * ((N : Int) - 1)) = (q : Int) ∧ decide (4096 < wrap64 (2 ^ min q 64)) = false := by
    refine ⟨N * (N - 1), ?_⟩
    obtain rfl | rfl | rfl | rfl : N = 1 ∨ N = 2 ∨ N = 3 ∨ N = 4 := by omega
    all_goals exact ⟨by kernel_rfl, by kernel_rfl⟩
  obtain ⟨M, hM, hMe⟩ : ∃ M : Nat, wrap64 (2 ^ N) = (M : Int) ∧ M = 2 ^ N := by
    refine ⟨2 ^ N, ?_, rfl⟩
    obtain rfl | rfl | rfl | rfl : N = 1 ∨ N = 2 ∨ N = 3 ∨ N = 4 := by omega
    all_goals kernel_rfl
  have hd1 : decide ((N : Int) < 1) = false := by simp; omega
  have hd2 : decide (5 < (N : Int)) = false := by simp; omega
  have HME := hide hMe
  have HM := hide hM
  clear hMe hM
  go_enter Tryd.func30, Tryd.ntmps30
  go_wp2_with fail
  clear hq hd hd1 hd2
  have H1 : Hid (Ext w (w.alloc (.cells #[.int .i64 N, .int .i64 0, .int .i64 0, .int .i64 0, .int .i64 0, .int .i64 0] 70)) ∧ Own Gr.cells 6 (w.alloc (.cells #[.int .i64 N, .int .i64 0, .int .i64 0, .int .i64 0, .int .i64 0, .int .i64 0] 70)) w.heap.size 70 (.slice (some ⟨w.heap.size, 0, none⟩) 1 1) (allG N 0)) :=
    ⟨(Ext.refl w).alloc _, own_new_gr w ⟨N, 0, 0, 0, 0, 0⟩⟩
  have HGL := hide (fun p (h : p ≤ N) => allG_len (n := N) (by omega) p h)
  go_loopw [4, 28] (fun u x wr => ∃ p : Nat, p ≤ N ∧ x = .int .i64 p ∧ Hid (Own Gr.cells 6 wr w.heap.size 70 u (allG N p)) ∧ (∃ q c, u = .slice q (allG N p).length c) ∧ Hid (Ext w wr)) (fun _ x _ => N - (intOf x).toNat)
  case atStart => exact ⟨0, by omega, rfl, H1.out.2, ⟨_, _, rfl⟩, H1.out.1⟩
  case round =>
    obtain ⟨p, hp, rfl, HO, ⟨q, c, rfl⟩, HE⟩ := hrel
    clear H1
    by_cases hlt : p < N
    · have HLL : Hid ((allG N p).length ≤ 1000000) := by
        show _ ≤ _
        rw [HGL.out p hp]
        exact Nat.le_trans (Nat.pow_le_pow_left (Nat.pow_le_pow_right (by decide) (show N - 1 ≤ 3 by omega)) p) (Nat.le_trans (Nat.pow_le_pow_right (by decide) (show p ≤ 4 by omega)) (by decide))
      have hLL := HLL.out
      have HROW := hide (HO.out.row (by have := HLL.out; omega))
      have HFL := hide (flatG_len N p (by omega) (allG N p))
      have HSUC := hide (fun i h => flatG_succ (n := N) (p := p) (L := allG N p) (i := i) h)
      have HALL : Hid (flatG N p (allG N p) (allG N p).length = allG N (p + 1)) := rfl
      have HF0 : Hid (flatG N p (allG N p) 0 = []) := rfl
      generalize flatG N p (allG N p) = fl at HFL HSUC HALL HF0
      generalize allG N p = L at HO HLL hLL HROW HSUC HALL HF0
      go_wp2_with fail
      obtain ⟨wo, rfl⟩ : ∃ wo : World, wo = wr := ⟨_, rfl⟩
      go_loopw [6, 33] (fun u x wr => ∃ i : Nat, i ≤ L.length ∧ x = .int .i64 i ∧ Hid (Own Gr.cells 6 wr wo.heap.size 70 u (fl i)) ∧ Hid (Ext wo wr)) (fun _ x _ => L.length - (intOf x).toNat)
      case atStart => exact ⟨0, by omega, rfl, by rw [HF0.out]; exact Own.nil _ _ _ (fun _ => rfl), Ext.refl _⟩
      case round =>
        obtain ⟨i, hi, rfl, HO2, HE2⟩ := hrel
        by_cases hlt2 : i < L.length
        · obtain ⟨q', c', hqe, -, -, hat⟩ := (HROW.out.ext HE2.out).gr_all
          injection hqe with hq1 _ hq3
          subst hq1 hq3
          obtain ⟨b1, o1, rfl, hb1, hat⟩ := hat (by omega)
          obtain ⟨x0, x1, x2, x3, x4, x5⟩ := hat i hlt2
          clear hat
          have HSI := hide (HSUC.out i hlt2)
          have HLI := hide (HFL.out i)
          generalize L.getD i default = gg at x0 x1 x2 x3 x4 x5 HSI
          have x0 := x0 wr (Ext.refl _)
          have x1 := x1 wr (Ext.refl _)
          have x2 := x2 wr (Ext.refl _)
          have x3 := x3 wr (Ext.refl _)
          have x4 := x4 wr (Ext.refl _)
          have x5 := x5 wr (Ext.refl _)
          have hM := HM.out
          go_wp2_with fail
          obtain ⟨w8, hw8⟩ : ∃ w8, wr.alloc (.cells #[.int .i64 gg.n, .int .i64 gg.h0, .int .i64 gg.h1, .int .i64 gg.h2, .int .i64 gg.h3, .int .i64 gg.h4] 70) = w8 := ⟨_, rfl⟩
          have HE8 : Hid (Ext wo w8) := by show Ext _ _; rw [← hw8]; exact HE2.out.alloc _
          have HB8 : Hid (w8.heap[wr.heap.size]? = some (.cells (Gr.cells gg).toArray 70 (0, 0))) := by show _ = _; rw [← hw8]; exact heap_alloc_new wr _
          have HO8 : Hid (Own Gr.cells 6 w8 wo.heap.size 70 u6 (fl i)) := by show Own _ _ _ _ _ _ _; rw [← hw8]; exact HO2.out.alloc _
          have HN8 : Hid (∀ k, u6.ownBlock = some k → k ≠ wr.heap.size) := fun k hk => by have := (HO2.out.2.lt k hk).2; omega
          have hz8 : wo.heap.size ≤ wr.heap.size := HE2.out.size
          have hg8 : wr.heap.size < w8.heap.size := by rw [← hw8]; simp
          rw [hw8]
          clear hw8 x0 x1 x2 x3 x4 x5 hM
          generalize wr.heap.size = g8 at HB8 HN8 hz8 hg8 ⊢
          have HM32 : M ≤ 32 := by
            rw [HME.out]; exact Nat.le_trans (Nat.pow_le_pow_right (by decide) (show N ≤ 5 by omega)) (by decide)
          have HR0 : Hid (fl i ++ rowsP gg p 0 = fl i) := by show _ = _; simp [rowsP, setsP]
          clear HO2 HE2 HSUC HF0 HALL
          go_loopw [6, 39] (fun u x V => ∃ s : Nat, s ≤ M ∧ x = .int .i64 s ∧ Hid (Own Gr.cells 6 V wo.heap.size 70 u (fl i ++ rowsP gg p s)) ∧ Hid (Ext wo V) ∧ Hid (∀ k, u.ownBlock = some k → k ≠ g8) ∧ g8 < V.heap.size ∧
            Hid (∃ y, GrBox V g8 (gg.set p y))) (fun _ x _ => M - (intOf x).toNat)
          case atStart => exact ⟨0, by omega, rfl, by rw [HR0.out]; exact HO8.out, HE8.out, HN8.out, hg8, gg.h p, by rw [Gr.set_own _ _ (by omega)]; exact HB8.out⟩
          case round =>
            obtain ⟨s, hs, rfl, HO3, HE3, HN3, hg3, HB3⟩ := hrel
            by_cases hlt3 : s < M
            · obtain ⟨y, hb⟩ := HB3.out
              obtain ⟨hcp, hfp⟩ := hb.row (p := p) (by omega)
              have hbit := bit_has (s := s) (p := p) (by omega)
              have HYS := hide (fun h => rowsP_yes (g := gg) (p := p) (s := s) h)
              have HNO := hide (fun h => rowsP_no (g := gg) (p := p) (s := s) h)
              have HNEW := hide (hb.set (p := p) (by omega) (s : Int))
              rw [Gr.set_set] at HNEW
              have hpI : (p : Int) < 5 := by omega
              have HBO := hide hb
              clear hb HB3
              cases hh : has (s : Int) p with
              | true =>
                rw [hh] at hbit
                have HS := hide (HYS.out hh)
                clear hh HNO HYS
                go_upto_region 18 with fail
                obtain ⟨W1, hW1⟩ : ∃ W1, wr.setCell ⟨g8, 1 + p, none⟩ (.int .i64 (s : Int)) = W1 := ⟨_, rfl⟩
                have hO1 : Own Gr.cells 6 W1 wo.heap.size 70 u6 (fl i ++ rowsP gg p s) := by rw [← hW1]; exact HO3.out.setNe HN3.out _
                have hE1 : Ext wo W1 := by rw [← hW1]; exact HE3.out.setCell (show wo.heap.size ≤ g8 by omega) _
                have hg1 : g8 < W1.heap.size := by rw [← hW1]; simpa [World.setCell] using hg3
                rw [hW1] at HNEW ⊢
                obtain ⟨c0, c1, c2, c3, c4, c5, -⟩ := HNEW.out.cells
                have HO1 := hide hO1
                have HE1 := hide hE1
                clear hW1 hO1 hE1 hcp hfp hbit HO3 HE3 hg3 HBO
                have hLN : (fl i ++ rowsP gg p s).length ≤ 100000000 := by
                  rw [List.length_append]; have := HLI.out; have := rowsP_len gg p s; omega
                have HLN := hide hLN
                clear hLN
                generalize hgx : gg.set p (s : Int) = gx at HNEW HS c0 c1 c2 c3 c4 c5
                have HGX := hide hgx
                clear hgx
                go_wp2_with (at_builtin; refine wpList_append1 rfl (.tmp 51) (.tmp 53) 54 rfl wo.heap.size 70 (Gr.v default) 6 48 Tryd.underlying54 graph_info rfl (by decide) _ (fl i ++ rowsP gg p s) gx W1.heap.size rfl (HO1.out.alloc _) rfl (cell_new_gr _ _) (gr_one _) (by have := HLN.out; omega) (by decide) (by have := HE1.out.size; simp; omega) ?_; intro v2 w2 hown2 hg2 hf2)
                have hz1 := HE1.out.size
                refine ⟨⟨s + 1, by omega, by simp, ?_, (HE1.out.alloc _).grown hg2 HO1.out.block_ge, fun k hk => ?_, ?_, (s : Int), ?_⟩, by simp [intOf]; omega⟩
                · rw [HS.out, ← List.append_assoc]; exact hown2
                · obtain ⟨g', c', rfl, h⟩ := hf2
                  obtain rfl : g' = k := by injection hk
                  rcases h with h | h
                  · exact HN3.out _ h
                  · simp only [World.size_alloc] at h; omega
                · have := hg2.size; simp only [World.size_alloc] at this; omega
                · rw [HGX.out]
                  exact ((hg2.block _ (by simp only [World.size_alloc]; omega) (fun he => HN3.out _ he.symm rfl)).trans (Below.heap_alloc _ _ _ hg1)).trans HNEW.out
              | false =>
                rw [hh] at hbit
                have HS := hide (HNO.out hh)
                clear hh HNO HYS hcp hfp
                go_wp2_with fail
                go_roundw
                case rel => exact ⟨s + 1, by omega, by go_num, by rw [HS.out]; exact HO3.out, HE3.out, HN3.out, hg3, y, HBO.out⟩
                case measure => simp [intOf]; omega
            · obtain rfl : s = M := by omega
              go_wp2_with fail
              go_roundw
              case rel => exact ⟨i + 1, by omega, by go_num, by rw [HSI.out, ← HME.out]; exact HO3.out, HE3.out⟩
              case measure => simp [intOf]; omega
        · obtain rfl : i = L.length := by omega
          go_wp2_with fail
          go_roundw
          case rel => exact ⟨p + 1, by omega, by go_num, by rw [← HALL.out]; exact HO2.out.mono HE.out.size, by have := HO2.out.sl; rwa [HALL.out] at this, HE.out.trans HE2.out⟩
          case measure => simp [intOf]; omega
    · obtain rfl : p = N := by omega
      go_wp2_with fail
      go_ret2
      exact ⟨_, rfl, HO.out, HE.out⟩
theorem all_many (w : World) : Calls Tryd.prog 30 #[.int .i64 5] w (RetV2 (fun u w' => Own Gr.cells 6 w' w.heap.size 70 u []) 17 w) := by
  have hd : decide (4096 < wrap64 (2 ^ 20)) = true := by kernel_rfl
  go_enter Tryd.func30, Tryd.ntmps30
  go_wp2_with fail
  go_ret2
  exact ⟨_, rfl, Own.nil _ _ _ (fun _ => rfl), Ext.refl _⟩
theorem all_any (n : Int) (w : World) : Calls Tryd.prog 30 #[.int .i64 n] w (RetV2 (fun u w' => Own Gr.cells 6 w' w.heap.size 70 u (allS n).1) (allS n).2 w) := by
  by_cases h : n < 1 ∨ 5 < n
  · exact all_test n w h
  by_cases h5 : n = 5
  · subst h5
    exact all_many w
  obtain ⟨N, rfl⟩ := Int.eq_ofNat_of_zero_le (show 0 ≤ n by omega)
  have ha : allS (N : Int) = (allG N N, 0) := by unfold allS; rw [if_neg h, if_neg h5, Int.toNat_natCast]
  rw [ha]
  exact all_some N w (by omega) (by omega)
end Go.Proofs.YthpccmmdkbjjhaaDoor

namespace Go.Proofs.YthpccmmdkbjjhaaDoor
open Go.RowKit
attribute [local go_sem] Oper.semAt_some

set_option maxRecDepth 16000 in
set_option maxHeartbeats 4000000 in
theorem rall_some (N : Nat) (w : World) (h1 : 1 ≤ N) (h5 : N ≤ 5) : Calls Tryd.prog 67 #[.int .i64 N] w (RetV2 (fun u w' => Own Gr.cells 6 w' w.heap.size 70 u (allS N).1) (allS N).2 w) := by
  have HF := hide (fun W => rfull_any (N : Int) W (by omega) (by omega))
  have HHAS := hide (fun (s p : Nat) (hs : s ≤ 32) (hp : p ≤ 5) W => rhas_any (s : Int) (p : Int) W (by omega) (by omega) (by omega) (by omega))
  have HRES : Hid ((N = 5 → allS N = ([], 17)) ∧ (N ≤ 4 → allS N = (allG N N, 0))) := by
    refine ⟨fun h => ?_, fun h => ?_⟩
    · unfold allS; rw [if_neg (by omega), if_pos (by omega)]
    · unfold allS; rw [if_neg (by omega), if_neg (by omega), Int.toNat_natCast]
  generalize allS N = res at HRES ⊢
  obtain ⟨M, hM, hM1⟩ : ∃ M : Nat, M = 2 ^ N ∧ (2 : Int) ^ N - 1 = (M : Int) - 1 := ⟨2 ^ N, rfl, by simp⟩
  have HME := hide hM
  have hM32 : M ≤ 32 := by rw [hM]; exact Nat.le_trans (Nat.pow_le_pow_right (by decide) h5) (by decide)
  have hMp : 1 ≤ M := by rw [hM]; exact Nat.pow_pos (by decide)
  rw [Int.toNat_natCast, hM1] at HF
  clear hM hM1
  have H1 : Hid (Ext w (w.alloc (.cells #[.int .i64 N, .int .i64 0, .int .i64 0, .int .i64 0, .int .i64 0, .int .i64 0] 70)) ∧ Own Gr.cells 6 (w.alloc (.cells #[.int .i64 N, .int .i64 0, .int .i64 0, .int .i64 0, .int .i64 0, .int .i64 0] 70)) w.heap.size 70 (.slice (some ⟨w.heap.size, 0, none⟩) 1 1) (allG N 0)) :=
    ⟨(Ext.refl w).alloc _, own_new_gr w ⟨N, 0, 0, 0, 0, 0⟩⟩
  have HGL := hide (fun p (h : p ≤ N) => allG_len (n := N) (by omega) p h)
  have hd1 : decide ((N : Int) < 1) = false := by simp; omega
  have hd2 : decide (5 < (N : Int)) = false := by simp; omega
  go_enter Tryd.func67, Tryd.ntmps67
  go_wp2_with fail
  clear hd1 hd2
  go_loopw [4, 5] (fun u x wr => ∃ p : Nat, p ≤ N ∧ x = .int .i64 p ∧ Hid (Own Gr.cells 6 wr w.heap.size 70 u (allG N p)) ∧ (∃ q c, u = .slice q (allG N p).length c) ∧ Hid (Ext w wr) ∧ Hid (N ≤ 4 ∨ p ≤ 3)) (fun _ x _ => N - (intOf x).toNat)
  case atStart => exact ⟨0, by omega, rfl, H1.out.2, ⟨_, _, rfl⟩, H1.out.1, .inr (by omega)⟩
  case round =>
    obtain ⟨p, hp, rfl, HO, ⟨q, c, rfl⟩, HE, HNP⟩ := hrel
    clear H1
    by_cases hlt : p < N
    · have hLL : (allG N p).length ≤ 1000000 := by
        rw [HGL.out p hp]
        rcases HNP.out with h | h
        · exact Nat.le_trans (Nat.pow_le_pow_left (Nat.pow_le_pow_right (by decide) (show N - 1 ≤ 3 by omega)) p) (Nat.le_trans (Nat.pow_le_pow_right (by decide) (show p ≤ 5 by omega)) (by decide))
        · exact Nat.le_trans (Nat.pow_le_pow_left (Nat.pow_le_pow_right (by decide) (show N - 1 ≤ 4 by omega)) p) (Nat.le_trans (Nat.pow_le_pow_right (by decide) h) (by decide))
      obtain ⟨Y, hY, hY1, hY2⟩ : ∃ Y : Nat, wrap64 (((allG N p).length : Int) * 2 ^ (N - 1)) = (Y : Int) ∧ (4096 < Y → N = 5) ∧ (¬ 4096 < Y → N ≤ 4 ∨ p + 1 ≤ 3) := by
        have hl := HGL.out p hp
        have hk : 2 ^ (N - 1) ≤ 16 := Nat.le_trans (Nat.pow_le_pow_right (by decide) (show N - 1 ≤ 4 by omega)) (by decide)
        have hb : (allG N p).length * 2 ^ (N - 1) ≤ 1000000 * 16 := Nat.mul_le_mul hLL hk
        refine ⟨(allG N p).length * 2 ^ (N - 1), ?_, fun h => ?_, fun h => ?_⟩
        · have he : (((allG N p).length : Int) * 2 ^ (N - 1)) = (((allG N p).length * 2 ^ (N - 1) : Nat) : Int) := by simp
          rw [he, IntWalk.wrap64_in _ ⟨by omega, by omega⟩]
        · rw [hl, ← Nat.pow_succ] at h
          apply Classical.byContradiction
          intro hn
          have : (2 ^ (N - 1)) ^ (p + 1) ≤ 4096 := Nat.le_trans (Nat.pow_le_pow_left (Nat.pow_le_pow_right (by decide) (show N - 1 ≤ 3 by omega)) _) (Nat.le_trans (Nat.pow_le_pow_right (by decide) (show p + 1 ≤ 4 by omega)) (by decide))
          exact absurd h (Nat.not_lt.2 this)
        · rw [hl, ← Nat.pow_succ] at h
          rcases HNP.out with h4 | h4
          · exact .inl h4
          · rcases Nat.lt_or_ge N 5 with h6 | h6
            · exact .inl (by omega)
            · refine .inr ?_
              obtain rfl : N = 5 := by omega
              rcases Nat.lt_or_ge p 3 with h7 | h7
              · omega
              · obtain rfl : p = 3 := by omega
                exact absurd (by decide) h
      have HROW := hide (HO.out.row (by omega))
      have HFL := hide (flatG_len N p (by omega) (allG N p))
      have HSUC := hide (fun i h => flatG_succ (n := N) (p := p) (L := allG N p) (i := i) h)
      have HALL : Hid (flatG N p (allG N p) (allG N p).length = allG N (p + 1)) := rfl
      have HF0 : Hid (flatG N p (allG N p) 0 = []) := rfl
      generalize flatG N p (allG N p) = fl at HFL HSUC HALL HF0
      generalize allG N p = L at HO hLL HROW HSUC HALL HF0 hY
      by_cases hbig : 4096 < Y
      · have hN := hY1 hbig
        have hd : decide (4096 < (Y : Int)) = true := by simp; omega
        clear hY1 hY2 hbig
        have HN := hide hN
        clear hN
        go_wp2_with fail
        go_ret2
        rw [HRES.out.1 HN.out]
        exact ⟨_, rfl, Own.nil _ _ _ (fun _ => rfl), HE.out⟩
      have HNP2 := hide (hY2 hbig)
      have hd : decide (4096 < (Y : Int)) = false := by simp; omega
      clear hY1 hY2 hbig
      go_wp2_with fail
      clear hd hY
      obtain ⟨wo, rfl⟩ : ∃ wo : World, wo = wr := ⟨_, rfl⟩
      go_loopw [6, 7] (fun u x wr => ∃ i : Nat, i ≤ L.length ∧ x = .int .i64 i ∧ Hid (Own Gr.cells 6 wr wo.heap.size 70 u (fl i)) ∧ Hid (Ext wo wr)) (fun _ x _ => L.length - (intOf x).toNat)
      case atStart => exact ⟨0, by omega, rfl, by rw [HF0.out]; exact Own.nil _ _ _ (fun _ => rfl), Ext.refl _⟩
      case round =>
        obtain ⟨i, hi, rfl, HO2, HE2⟩ := hrel
        by_cases hlt2 : i < L.length
        · go_wp2_with fail
          have HAT : Hid (∀ W, Ext wo W → ∃ b1 o1, q = some ⟨b1, o1, none⟩ ∧ b1 < wo.heap.size ∧ GrAt W b1 (o1 + i * 6) (L.getD i default)) := fun W hW => by
            obtain ⟨q', c', hqe, -, -, hat⟩ := (HROW.out.ext hW).gr_all
            obtain ⟨q2, c2, hqe2, -, -, hat2⟩ := HROW.out.gr_all
            injection hqe with hq1 _ hq3
            injection hqe2 with hq12 _ hq32
            subst hq1 hq3
            obtain ⟨b1, o1, hq, hb1, hat⟩ := hat (by omega)
            obtain ⟨b2, o2, hq2, hb2, -⟩ := hat2 (by omega)
            rw [← hq12, hq] at hq2
            injection hq2 with hq2
            injection hq2 with e1 e2
            exact ⟨b1, o1, hq, by rw [e1]; exact hb2, hat i hlt2⟩
          have HSI := hide (HSUC.out i hlt2)
          have HLI := hide (HFL.out i)
          generalize L.getD i default = gg at HAT HSI
          have HR0 : Hid (fl i ++ rowsP gg p 0 = fl i) := by show _ = _; simp [rowsP, setsP]
          obtain ⟨wm, rfl⟩ : ∃ wm : World, wm = wr := ⟨_, rfl⟩
          go_loopw [6, 8] (fun u x V => ∃ s : Nat, s ≤ M ∧ x = .int .i64 s ∧ Hid (Own Gr.cells 6 V wo.heap.size 70 u (fl i ++ rowsP gg p s)) ∧ Hid (Ext wo V)) (fun _ x _ => M - (intOf x).toNat)
          case atStart => exact ⟨0, by omega, rfl, by rw [HR0.out]; exact HO2.out, HE2.out⟩
          case round =>
            obtain ⟨s, hs, rfl, HO3, HE3⟩ := hrel
            have HFU := hide (HF.out wr)
            by_cases hlt3 : s < M
            · have hdl : decide ((s : Int) ≤ (M : Int) - 1) = true := by simp; omega
              go_wp2_with fail
              refine HFU.out.mono ?_
              rintro e W1 ⟨rfl, rfl⟩
              obtain ⟨b1, o1, hqq, hb1, hgr⟩ := HAT.out W1 HE3.out
              subst hqq
              obtain ⟨x0, x1, x2, x3, x4, x5⟩ := hgr
              have x0 := x0 W1 (Ext.refl _)
              have x1 := x1 W1 (Ext.refl _)
              have x2 := x2 W1 (Ext.refl _)
              have x3 := x3 W1 (Ext.refl _)
              have x4 := x4 W1 (Ext.refl _)
              have x5 := x5 W1 (Ext.refl _)
              have hb1' : b1 < W1.heap.size := Nat.lt_of_lt_of_le hb1 HE3.out.size
              have HHS := hide (HHAS.out s p (by omega) (by omega) W1)
              rw [Int.toNat_natCast] at HHS
              have HYS := hide (fun h => rowsP_yes (g := gg) (p := p) (s := s) h)
              have HNO := hide (fun h => rowsP_no (g := gg) (p := p) (s := s) h)
              have hpI : (p : Int) < 5 := by omega
              clear HFU
              cases hh : has (s : Int) p with
              | true =>
                rw [hh] at HHS
                have HS := hide (HYS.out hh)
                clear hh HNO HYS
                go_wp2_with fail
                refine HHS.out.mono ?_
                rintro e W2 ⟨rfl, rfl⟩
                go_upto_region 18 with fail
                have hb : GrBox (W2.alloc (.cells #[.int .i64 gg.n, .int .i64 gg.h0, .int .i64 gg.h1, .int .i64 gg.h2, .int .i64 gg.h3, .int .i64 gg.h4] 70)) W2.heap.size gg := heap_alloc_new W2 _
                obtain ⟨hcp, hfp⟩ := hb.row (p := p) (by omega)
                have HSL := hide (Gr.set_list gg p (s : Int) (by omega))
                clear x0 x1 x2 x3 x4 x5 hb
                go_upto_region 19 with fail
                rw [HSL.out]
                obtain ⟨W3, hW3⟩ : ∃ W3, W2.alloc (.cells (Gr.cells (gg.set p (s : Int))).toArray 70) = W3 := ⟨_, rfl⟩
                have hb3 : GrBox W3 W2.heap.size (gg.set p (s : Int)) := by rw [← hW3]; exact heap_alloc_new W2 _
                have hE23 : Ext W2 W3 := by rw [← hW3]; exact (Ext.refl _).alloc _
                rw [hW3]
                clear hW3 hcp hfp
                obtain ⟨c0, c1, c2, c3, c4, c5, hz3⟩ := hb3.cells
                have HO1 := hide (HO3.out.ext hE23)
                have HE1 := hide (HE3.out.trans hE23)
                have hLN : (fl i ++ rowsP gg p s).length ≤ 100000000 := by
                  rw [List.length_append]; have := HLI.out; have := rowsP_len gg p s; omega
                have HLN := hide hLN
                clear hLN hb3 hE23
                generalize gg.set p (s : Int) = gx at HS c0 c1 c2 c3 c4 c5
                generalize W2.heap.size = g9 at c0 c1 c2 c3 c4 c5 hz3 ⊢
                go_wp2_with (at_builtin; refine wpList_append1 rfl (.tmp 53) (.tmp 55) 54 rfl wo.heap.size 70 (Gr.v default) 6 48 Tryd.underlying54 graph_info rfl (by decide) _ (fl i ++ rowsP gg p s) gx W3.heap.size rfl (HO1.out.alloc _) rfl (cell_new_gr _ _) (gr_one _) (by have := HLN.out; omega) (by decide) (by have := HE1.out.size; simp; omega) ?_; intro v2 w2 hown2 hg2 hf2)
                have HE4 := hide ((HE1.out.alloc _).grown hg2 HO1.out.block_ge)
                rw [List.append_assoc, ← HS.out] at hown2
                go_roundw
                case rel => exact ⟨s + 1, by omega, by go_num, hown2, HE4.out⟩
                case measure => simp [intOf]; omega
              | false =>
                rw [hh] at HHS
                have HS := hide (HNO.out hh)
                clear hh HNO HYS
                go_wp2_with fail
                refine HHS.out.mono ?_
                rintro e W2 ⟨rfl, rfl⟩
                go_wp2_with fail
                go_roundw
                case rel => exact ⟨s + 1, by omega, by go_num, by rw [HS.out]; exact HO3.out, HE3.out⟩
                case measure => simp [intOf]; omega
            · obtain rfl : s = M := by omega
              have hdl : decide ((s : Int) ≤ (s : Int) - 1) = false := by simp; omega
              go_wp2_with fail
              refine HFU.out.mono ?_
              rintro e W1 ⟨rfl, rfl⟩
              go_wp2_with fail
              go_roundw
              case rel => exact ⟨i + 1, by omega, by go_num, by rw [HSI.out, ← HME.out]; exact HO3.out, HE3.out⟩
              case measure => simp [intOf]; omega
        · obtain rfl : i = L.length := by omega
          go_wp2_with fail
          go_roundw
          case rel => exact ⟨p + 1, by omega, by go_num, by rw [← HALL.out]; exact HO2.out.mono HE.out.size, by have := HO2.out.sl; rwa [HALL.out] at this, HE.out.trans HE2.out, HNP2.out⟩
          case measure => simp [intOf]; omega
    · obtain rfl : N = p := by omega
      have hn4 : N ≤ 4 := by rcases HNP.out with h | h <;> omega
      go_wp2_with fail
      go_ret2
      rw [HRES.out.2 hn4]
      exact ⟨_, rfl, HO.out, HE.out⟩
theorem rall_any (n : Int) (w : World) : Calls Tryd.prog 67 #[.int .i64 n] w (RetV2 (fun u w' => Own Gr.cells 6 w' w.heap.size 70 u (allS n).1) (allS n).2 w) := by
  by_cases h : n < 1 ∨ 5 < n
  · have ha : allS n = ([], 2) := by unfold allS; rw [if_pos h]
    rw [ha]
    by_cases h1 : n < 1
    · go_enter Tryd.func67, Tryd.ntmps67
      go_wp2_with fail
      go_ret2
      exact ⟨_, rfl, Own.nil _ _ _ (fun _ => rfl), Ext.refl _⟩
    · have h2 : 5 < n := by omega
      go_enter Tryd.func67, Tryd.ntmps67
      go_wp2_with fail
      go_ret2
      exact ⟨_, rfl, Own.nil _ _ _ (fun _ => rfl), Ext.refl _⟩
  obtain ⟨N, rfl⟩ := Int.eq_ofNat_of_zero_le (show 0 ≤ n by omega)
  exact rall_some N w (by omega) (by omega)
end Go.Proofs.YthpccmmdkbjjhaaDoor
