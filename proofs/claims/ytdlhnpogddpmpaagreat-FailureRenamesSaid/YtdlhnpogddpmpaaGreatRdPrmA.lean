/-
  Rounds in boxes; the program's round.Permute.
  Conditions: as each theorem states.
-/
import Derived.Test.YtdlhnpogddpmpaaGreatPermQ
import Derived.Test.YtdlhnpogddpmpaaGreatTzMem
import Derived.Test.YtdlhnpogddpmpaaGreatRep
import Derived.Test.YtdlhnpogddpmpaaGreatWordA
import Derived.Deep.CutRange
namespace Go.Proofs.YtdlhnpogddpmpaaGreat
open Go.RowKit
attribute [local go_sem] Oper.semAt_some

abbrev robj (r : Rd) : Obj := .cells #[.int .i64 r.g.n, .int .i64 r.g.h0, .int .i64 r.g.h1, .int .i64 r.g.h2, .int .i64 r.g.h3, .int .i64 r.g.h4, .int .i64 r.f] 39
abbrev robj0 : Obj := .cells #[.int .i64 0, .int .i64 0, .int .i64 0, .int .i64 0, .int .i64 0, .int .i64 0, .int .i64 0] 39
abbrev rz0 : Rd := ⟨⟨0, 0, 0, 0, 0, 0⟩, 0⟩
def RdBox (W : World) (b : Nat) (r : Rd) : Prop := W.heap[b]? = some (robj r)
theorem rd_new (w : World) (r : Rd) : RdBox (w.alloc (robj r)) w.heap.size r := heap_alloc_new w _
theorem RdBox.alloc {W : World} {b : Nat} {r : Rd} (h : RdBox W b r) (o : Obj) : RdBox (W.alloc o) b r := (Below.heap_alloc _ _ _ (lt_of_heap h)).trans h
theorem RdBox.ext {W V : World} {b : Nat} {r : Rd} (h : RdBox W b r) (hE : Ext W V) : RdBox V b r := (hE.b.block _ (lt_of_heap h)).trans h
theorem RdBox.cells {W : World} {b : Nat} {r : Rd} (h : RdBox W b r) : W.cell? ⟨b, 0, none⟩ = some (.int .i64 r.g.n) ∧ W.cell? ⟨b, 1, none⟩ = some (.int .i64 r.g.h0) ∧ W.cell? ⟨b, 2, none⟩ = some (.int .i64 r.g.h1) ∧ W.cell? ⟨b, 3, none⟩ = some (.int .i64 r.g.h2) ∧ W.cell? ⟨b, 4, none⟩ = some (.int .i64 r.g.h3) ∧ W.cell? ⟨b, 5, none⟩ = some (.int .i64 r.g.h4) ∧ W.cell? ⟨b, 6, none⟩ = some (.int .i64 r.f) ∧ b < W.heap.size := by
  have hh : W.heap[b]? = some (robj r) := h
  refine ⟨?_, ?_, ?_, ?_, ?_, ?_, ?_, lt_of_heap hh⟩ <;> (rw [cell_of_row _ _ _ _ _ _ hh]; rfl)
theorem RdBox.frozen {W : World} {b : Nat} {r : Rd} (h : RdBox W b r) : W.frozen? ⟨b, 0, none⟩ = false ∧ W.frozen? ⟨b, 1, none⟩ = false ∧ W.frozen? ⟨b, 2, none⟩ = false ∧ W.frozen? ⟨b, 3, none⟩ = false ∧ W.frozen? ⟨b, 4, none⟩ = false ∧ W.frozen? ⟨b, 5, none⟩ = false ∧ W.frozen? ⟨b, 6, none⟩ = false :=
  ⟨frozen_of h, frozen_of h, frozen_of h, frozen_of h, frozen_of h, frozen_of h, frozen_of h⟩
/-- A round stored over another one, cell by cell. -/
abbrev rstore (W : World) (b : Nat) (r : Rd) : World :=
  ((((((W.setCell ⟨b, 0, none⟩ (.int .i64 r.g.n)).setCell ⟨b, 1, none⟩ (.int .i64 r.g.h0)).setCell ⟨b, 2, none⟩ (.int .i64 r.g.h1)).setCell ⟨b, 3, none⟩ (.int .i64 r.g.h2)).setCell ⟨b, 4, none⟩ (.int .i64 r.g.h3)).setCell ⟨b, 5, none⟩ (.int .i64 r.g.h4)).setCell ⟨b, 6, none⟩ (.int .i64 r.f)
theorem RdBox.store {W : World} {b : Nat} {q : Rd} (h : RdBox W b q) (r : Rd) : RdBox (rstore W b r) b r := by
  have hh : W.heap[b]? = some (robj q) := h
  have h0 : (W.setCell ⟨b, 0, none⟩ (.int .i64 r.g.n)).heap[b]? = some (.cells #[.int .i64 r.g.n, .int .i64 q.g.h0, .int .i64 q.g.h1, .int .i64 q.g.h2, .int .i64 q.g.h3, .int .i64 q.g.h4, .int .i64 q.f] 39) := heap_set (j := 0) hh (.int .i64 r.g.n)
  have h1 : ((W.setCell ⟨b, 0, none⟩ (.int .i64 r.g.n)).setCell ⟨b, 1, none⟩ (.int .i64 r.g.h0)).heap[b]? = some (.cells #[.int .i64 r.g.n, .int .i64 r.g.h0, .int .i64 q.g.h1, .int .i64 q.g.h2, .int .i64 q.g.h3, .int .i64 q.g.h4, .int .i64 q.f] 39) := heap_set (j := 1) h0 (.int .i64 r.g.h0)
  have h2 : (((W.setCell ⟨b, 0, none⟩ (.int .i64 r.g.n)).setCell ⟨b, 1, none⟩ (.int .i64 r.g.h0)).setCell ⟨b, 2, none⟩ (.int .i64 r.g.h1)).heap[b]? = some (.cells #[.int .i64 r.g.n, .int .i64 r.g.h0, .int .i64 r.g.h1, .int .i64 q.g.h2, .int .i64 q.g.h3, .int .i64 q.g.h4, .int .i64 q.f] 39) := heap_set (j := 2) h1 (.int .i64 r.g.h1)
  have h3 : ((((W.setCell ⟨b, 0, none⟩ (.int .i64 r.g.n)).setCell ⟨b, 1, none⟩ (.int .i64 r.g.h0)).setCell ⟨b, 2, none⟩ (.int .i64 r.g.h1)).setCell ⟨b, 3, none⟩ (.int .i64 r.g.h2)).heap[b]? = some (.cells #[.int .i64 r.g.n, .int .i64 r.g.h0, .int .i64 r.g.h1, .int .i64 r.g.h2, .int .i64 q.g.h3, .int .i64 q.g.h4, .int .i64 q.f] 39) := heap_set (j := 3) h2 (.int .i64 r.g.h2)
  have h4 : (((((W.setCell ⟨b, 0, none⟩ (.int .i64 r.g.n)).setCell ⟨b, 1, none⟩ (.int .i64 r.g.h0)).setCell ⟨b, 2, none⟩ (.int .i64 r.g.h1)).setCell ⟨b, 3, none⟩ (.int .i64 r.g.h2)).setCell ⟨b, 4, none⟩ (.int .i64 r.g.h3)).heap[b]? = some (.cells #[.int .i64 r.g.n, .int .i64 r.g.h0, .int .i64 r.g.h1, .int .i64 r.g.h2, .int .i64 r.g.h3, .int .i64 q.g.h4, .int .i64 q.f] 39) := heap_set (j := 4) h3 (.int .i64 r.g.h3)
  have h5 : ((((((W.setCell ⟨b, 0, none⟩ (.int .i64 r.g.n)).setCell ⟨b, 1, none⟩ (.int .i64 r.g.h0)).setCell ⟨b, 2, none⟩ (.int .i64 r.g.h1)).setCell ⟨b, 3, none⟩ (.int .i64 r.g.h2)).setCell ⟨b, 4, none⟩ (.int .i64 r.g.h3)).setCell ⟨b, 5, none⟩ (.int .i64 r.g.h4)).heap[b]? = some (.cells #[.int .i64 r.g.n, .int .i64 r.g.h0, .int .i64 r.g.h1, .int .i64 r.g.h2, .int .i64 r.g.h3, .int .i64 r.g.h4, .int .i64 q.f] 39) := heap_set (j := 5) h4 (.int .i64 r.g.h4)
  have h6 : (((((((W.setCell ⟨b, 0, none⟩ (.int .i64 r.g.n)).setCell ⟨b, 1, none⟩ (.int .i64 r.g.h0)).setCell ⟨b, 2, none⟩ (.int .i64 r.g.h1)).setCell ⟨b, 3, none⟩ (.int .i64 r.g.h2)).setCell ⟨b, 4, none⟩ (.int .i64 r.g.h3)).setCell ⟨b, 5, none⟩ (.int .i64 r.g.h4)).setCell ⟨b, 6, none⟩ (.int .i64 r.f)).heap[b]? = some (.cells #[.int .i64 r.g.n, .int .i64 r.g.h0, .int .i64 r.g.h1, .int .i64 r.g.h2, .int .i64 r.g.h3, .int .i64 r.g.h4, .int .i64 r.f] 39) := heap_set (j := 6) h5 (.int .i64 r.f)
  exact h6
theorem Ext.rstore {w W : World} (h : Ext w W) {b : Nat} (hb : w.heap.size ≤ b) (r : Rd) : Ext w (rstore W b r) :=
  ((((((h.setCell hb _).setCell hb _).setCell hb _).setCell hb _).setCell hb _).setCell hb _).setCell hb _
theorem heap_gstore {V : World} {p b : Nat} (hne : p ≠ b) (r : Gr) : (gstore V b r).heap[p]? = V.heap[p]? := by
  rw [Below.heap_setCell _ _ _ _ hne, Below.heap_setCell _ _ _ _ hne, Below.heap_setCell _ _ _ _ hne, Below.heap_setCell _ _ _ _ hne, Below.heap_setCell _ _ _ _ hne, Below.heap_setCell _ _ _ _ hne]
theorem heap_rstore {V : World} {p b : Nat} (hne : p ≠ b) (r : Rd) : (rstore V b r).heap[p]? = V.heap[p]? := by
  rw [Below.heap_setCell _ _ _ _ hne, Below.heap_setCell _ _ _ _ hne, Below.heap_setCell _ _ _ _ hne, Below.heap_setCell _ _ _ _ hne, Below.heap_setCell _ _ _ _ hne, Below.heap_setCell _ _ _ _ hne, Below.heap_setCell _ _ _ _ hne]
/-- A round as a function's result. -/
theorem results_rd {fn : Func} {a : Tmp} (h : fn.results = #[.cell a 39]) (tmps : Array Value) {w : World} {b : Nat} {r : Rd} (ha : tmps.getD a undef = .pointer (some ⟨b, 0, none⟩)) (hb : RdBox w b r) :
    (results fn tmps).run Tryz.prog w = .ok r.v w := by
  obtain ⟨c0, c1, c2, c3, c4, c5, c6, -⟩ := hb.cells
  rw [Array.getD_eq_getD_getElem?] at ha
  simp [results, h, ha, go_sem, c0, c1, c2, c3, c4, c5, c6]
theorem results_rd2 {fn : Func} {a e : Tmp} (h : fn.results = #[.cell a 39, .tmp e]) (tmps : Array Value) {w : World} {b : Nat} {r : Rd} {x : Value} (ha : tmps.getD a undef = .pointer (some ⟨b, 0, none⟩)) (he : tmps.getD e undef = x) (hb : RdBox w b r) :
    (results fn tmps).run Tryz.prog w = .ok (.tuple #[r.v, x]) w := by
  obtain ⟨c0, c1, c2, c3, c4, c5, c6, -⟩ := hb.cells
  rw [Array.getD_eq_getD_getElem?] at ha he
  simp [results, h, ha, he, go_sem, c0, c1, c2, c3, c4, c5, c6]
theorem rd_info : (Tryz.prog.info? 39).map (fun i => (i.zero, i.size, i.bytes)) = some (some (Rd.v default), 7, 56) := by kernel_rfl
theorem rd_ones (x : Rd) : ∀ u ∈ Rd.cells x, u.oneCell' = true := by intro u hu; simp only [List.mem_cons, List.not_mem_nil, or_false] at hu; rcases hu with rfl | rfl | rfl | rfl | rfl | rfl | rfl <;> rfl
theorem rd_new_cells (w : World) (r : Rd) : ∀ j u, (Rd.cells r)[j]? = some u → (w.alloc (robj r)).cell? ⟨w.heap.size, j, none⟩ = some u := fun j u h => by
  rw [cell_of_row _ _ _ _ _ _ (heap_alloc_new w (robj r))]
  rw [← h, ← List.getElem?_toArray]
def RetR (x : Rd × Int) (w : World) (e : Ending) (w' : World) : Prop := e = .returned (.tuple #[x.1.v, .int .i64 x.2]) ∧ Ext w w'
end Go.Proofs.YtdlhnpogddpmpaaGreat

namespace Go.Proofs.YtdlhnpogddpmpaaGreat
open Go.RowKit
attribute [local go_sem] Oper.semAt_some

theorem permE_of {l : List Int} (h : PermOk l) : permE l = 0 := by
  have := h.n1; have := h.n5
  refine permE_end (by omega) fun i hi => ?_
  unfold permAt
  have hb := h.bd i hi
  rw [if_neg (by omega)]
  cases hs : seenB l i (l.getD i 0) with
  | false => rfl
  | true =>
    obtain ⟨k, hk, he⟩ := List.any_eq_true.1 (show (List.range i).any _ = true from hs)
    exact absurd (by simpa using he) (h.inj i k hi (List.mem_range.1 hk))
/-- A well-formed round of n processes. -/
structure RWf (r : Rd) (n : Nat) : Prop where
  g : Wf r.g n
  f_eq : r.f = (r.f.toNat : Int)
  f_lt : r.f.toNat < 2 ^ n
theorem pow2_int (n : Nat) : ((2 : Int) ^ n) = ((2 ^ n : Nat) : Int) := by simp
theorem rwf_of {r : Rd} (h : rchk r = 0) : ∃ n, RWf r n := by
  obtain ⟨h1, h2⟩ := rchk_zero h
  obtain ⟨n, hn⟩ := wf_of h1
  obtain ⟨-, -, h3, h4⟩ := pchk_zero h2
  rw [hn.toNat, pow2_int] at h4
  exact ⟨n, hn, by omega, by omega⟩
theorem rwf_chk {r : Rd} {n : Nat} (h : RWf r n) : rchk r = 0 := by
  unfold rchk
  rw [if_pos (wf_chk h.g)]
  have h1 := h.g.n1; have h5 := h.g.n5; have hn := h.g.n_eq
  refine pchk_ok (by omega) (by have := h.f_eq; omega) ?_
  rw [h.g.toNat, pow2_int]
  have := h.f_eq; have := h.f_lt; omega
theorem rwf_n {r : Rd} {n m : Nat} (h : RWf r n) (h2 : RWf r m) : n = m := h.g.toNat.symm.trans h2.g.toNat
def permR (r : Rd) (l : List Int) : Rd := ⟨permG r.g l, (imgN l r.f.toNat l.length : Nat)⟩
def rpermS (r : Rd) (l : List Int) : Rd × Int := if rchk r ≠ 0 then (rz0, rchk r) else if permE l ≠ 0 then (rz0, permE l) else if (l.length : Int) ≠ r.g.n then (rz0, 22) else (permR r l, 0)
theorem permR_wf {r : Rd} {l : List Int} (hr : RWf r l.length) (h : PermOk l) : RWf (permR r l) l.length :=
  ⟨perm_wf hr.g h, by simp [permR], by simp only [permR, Int.toNat_natCast]; exact imgN_lt h _ _ (Nat.le_refl _)⟩
theorem rpermS_ok {r : Rd} {l : List Int} (hr : RWf r l.length) (h : PermOk l) : rpermS r l = (permR r l, 0) := by
  unfold rpermS
  rw [if_neg (by rw [rwf_chk hr]; decide), if_neg (by rw [permE_of h]; decide), if_neg (by rw [hr.g.n_eq]; simp)]
theorem rpermS_r {r : Rd} {l : List Int} (h : rchk r ≠ 0) : rpermS r l = (rz0, rchk r) := if_pos h
theorem rpermS_l {r : Rd} {l : List Int} (h : rchk r = 0) (h2 : permE l ≠ 0) : rpermS r l = (rz0, permE l) := by unfold rpermS; rw [if_neg (fun k => k h), if_pos h2]
theorem rpermS_n {r : Rd} {l : List Int} (h : rchk r = 0) (h2 : permE l = 0) (h3 : (l.length : Int) ≠ r.g.n) : rpermS r l = (rz0, 22) := by unfold rpermS; rw [if_neg (fun k => k h), if_neg (fun k => k h2), if_pos h3]
theorem rpermS_0 {r : Rd} {l : List Int} (h : rchk r = 0) (h2 : permE l = 0) (h3 : (l.length : Int) = r.g.n) : rpermS r l = (permR r l, 0) := by unfold rpermS; rw [if_neg (fun k => k h), if_neg (fun k => k h2), if_neg (fun k => k h3)]

theorem n32' {n : Nat} (h : n ≤ 5) {s : Nat} (hs : s < 2 ^ n) : s < 32 := Nat.lt_of_lt_of_le hs (pow2_32 h)
set_option maxRecDepth 16000 in
set_option maxHeartbeats 2000000 in
theorem rdpermute_any (r : Rd) (l : List Int) (u : Value) (w : World) (hu : Row icells 1 w u l) : Calls Tryz.prog 22 #[r.v, u] w (RetR (rpermS r l) w) := by
  have HC := hide (fun W => rcheck_any r W)
  have HU := hide hu
  have HP := hide (fun W (hE : Ext w W) => permute_any r.g l u W (hu.ext hE))
  obtain ⟨p, c, rfl, hc, hlen, -⟩ := hu.int_all
  clear hu
  by_cases h1 : rchk r = 0
  case neg =>
    have HR := hide (rpermS_r (l := l) h1)
    generalize rpermS r l = res at HR ⊢
    generalize rchk r = e at HC HR h1
    have hd : (e != 0) = true := by simp [h1]
    have H1 := hide h1
    clear h1
    go_enter Tryz.func22, Tryz.ntmps22
    go_upto_region 1 with fail
    have HB2 : Hid (RdBox ((w.alloc (robj r)).alloc robj0) w.heap.size r) := (rd_new w r).alloc _
    have HB4 : Hid (RdBox ((w.alloc (robj r)).alloc robj0) (w.heap.size + 1) rz0) := by
      have := rd_new (w.alloc (robj r)) rz0
      rwa [World.size_alloc] at this
    have HE : Hid (Ext w ((w.alloc (robj r)).alloc robj0)) := ((Ext.refl w).alloc _).alloc _
    generalize (w.alloc (robj r)).alloc robj0 = W at HB2 HB4 HE ⊢
    obtain ⟨c0, c1, c2, c3, c4, c5, c6, cz⟩ := HB2.out.cells
    go_wp2_with fail
    clear c0 c1 c2 c3 c4 c5 c6 cz
    refine (HC.out _).mono ?_
    rintro x w1 ⟨rfl, hE⟩
    have HE := hide (HE.out.trans hE)
    have HB4 := hide (HB4.out.ext hE)
    clear hE
    obtain ⟨d0, d1, d2, d3, d4, d5, d6, dz⟩ := HB4.out.cells
    obtain ⟨f0, f1, f2, f3, f4, f5, f6⟩ := HB4.out.frozen
    go_wp2_with fail
    exact bodyPost_ret (v := .tuple #[rz0.v, .int .i64 e]) (results_rd2 rfl _ rfl rfl (HB4.out.store rz0)) rfl ⟨by rw [HR.out], HE.out.rstore (by omega) rz0⟩
  case pos =>
  rw [h1] at HC
  obtain ⟨n, hr⟩ := rwf_of h1
  by_cases h2 : permE l = 0 ∧ (l.length : Int) = r.g.n
  case neg =>
    have HQ : Hid (∃ e, e ≠ 0 ∧ permuteS r.g l = (gz0, e) ∧ rpermS r l = (rz0, e)) := by
      by_cases h3 : permE l = 0
      · have h4 : (l.length : Int) ≠ r.g.n := fun h => h2 ⟨h3, h⟩
        exact ⟨22, by decide, permuteS_n (wf_chk hr.g) h3 h4, rpermS_n h1 h3 h4⟩
      · exact ⟨permE l, h3, permuteS_l (wf_chk hr.g) h3, rpermS_l h1 h3⟩
    obtain ⟨e, he, hp, hr2⟩ := HQ.out
    rw [hp] at HP
    have HR := hide hr2
    have hd : (e != 0) = true := by simp [he]
    have H0 := hide he
    clear h1 h2 hr HQ hp hr2 he
    generalize rpermS r l = res at HR ⊢
    go_enter Tryz.func22, Tryz.ntmps22
    go_upto_region 1 with fail
    have HB2 : Hid (RdBox ((w.alloc (robj r)).alloc robj0) w.heap.size r) := (rd_new w r).alloc _
    have HB4 : Hid (RdBox ((w.alloc (robj r)).alloc robj0) (w.heap.size + 1) rz0) := by
      have := rd_new (w.alloc (robj r)) rz0
      rwa [World.size_alloc] at this
    have HE : Hid (Ext w ((w.alloc (robj r)).alloc robj0)) := ((Ext.refl w).alloc _).alloc _
    generalize (w.alloc (robj r)).alloc robj0 = W at HB2 HB4 HE ⊢
    obtain ⟨c0, c1, c2, c3, c4, c5, c6, cz⟩ := HB2.out.cells
    go_wp2_with fail
    clear c0 c1 c2 c3 c4 c5 c6 cz
    refine (HC.out _).mono ?_
    rintro x w1 ⟨rfl, hE⟩
    have HE := hide (HE.out.trans hE)
    have HB2 := hide (HB2.out.ext hE)
    have HB4 := hide (HB4.out.ext hE)
    clear hE
    obtain ⟨c0, c1, c2, c3, c4, c5, c6, cz⟩ := HB2.out.cells
    go_wp2_with fail
    clear c0 c1 c2 c3 c4 c5 c6 cz
    refine (HP.out _ HE.out).mono ?_
    rintro x w2 ⟨rfl, hE⟩
    have HE := hide ((HE.out.trans hE).alloc (gobj gz0))
    have HB4 := hide ((HB4.out.ext hE).alloc (gobj gz0))
    clear hE
    go_upto_region 5 with fail
    change Code.wp _ _ _ _ (w2.alloc (gobj gz0))
    generalize w2.alloc (gobj gz0) = W2 at HE HB4 ⊢
    obtain ⟨d0, d1, d2, d3, d4, d5, d6, dz⟩ := HB4.out.cells
    obtain ⟨f0, f1, f2, f3, f4, f5, f6⟩ := HB4.out.frozen
    go_wp2_with fail
    exact bodyPost_ret (v := .tuple #[rz0.v, .int .i64 e]) (results_rd2 rfl _ rfl rfl (HB4.out.store rz0)) rfl ⟨by rw [HR.out], HE.out.rstore (by omega) rz0⟩
  case pos =>
  have HR := hide (rpermS_0 h1 h2.1 h2.2)
  have hq := permuteS_0 (wf_chk hr.g) h2.1 h2.2
  have hnl : l.length = n := by have := hr.g.n_eq; have := h2.2; omega
  have hflt := hr.f_lt
  rw [← hnl] at hflt
  have HS := hide (fun W (hE : Ext w W) => set_ok l (permE_ok h2.1) h2.1 r.f.toNat hflt _ W (HU.out.ext hE))
  rw [← hr.f_eq] at HS
  rw [hq] at HP
  have HX : Hid (permR r l = ⟨permG r.g l, (imgN l r.f.toNat l.length : Nat)⟩) := rfl
  generalize permG r.g l = g at HP HX
  generalize imgN l r.f.toNat l.length = f at HS HX
  generalize rpermS r l = res at HR ⊢
  generalize permR r l = q at HR HX
  clear h1 h2 hr hq hflt hnl
  go_enter Tryz.func22, Tryz.ntmps22
  go_upto_region 1 with fail
  have HB2 : Hid (RdBox ((w.alloc (robj r)).alloc robj0) w.heap.size r) := (rd_new w r).alloc _
  have HB4 : Hid (RdBox ((w.alloc (robj r)).alloc robj0) (w.heap.size + 1) rz0) := by
    have := rd_new (w.alloc (robj r)) rz0
    rwa [World.size_alloc] at this
  have HE : Hid (Ext w ((w.alloc (robj r)).alloc robj0)) := ((Ext.refl w).alloc _).alloc _
  generalize (w.alloc (robj r)).alloc robj0 = W at HB2 HB4 HE ⊢
  obtain ⟨c0, c1, c2, c3, c4, c5, c6, cz⟩ := HB2.out.cells
  go_wp2_with fail
  clear c0 c1 c2 c3 c4 c5 c6 cz
  refine (HC.out _).mono ?_
  rintro x w1 ⟨rfl, hE⟩
  have HE := hide (HE.out.trans hE)
  have HB2 := hide (HB2.out.ext hE)
  have HB4 := hide (HB4.out.ext hE)
  clear hE
  obtain ⟨c0, c1, c2, c3, c4, c5, c6, cz⟩ := HB2.out.cells
  go_wp2_with fail
  clear c0 c1 c2 c3 c4 c5 c6 cz
  refine (HP.out _ HE.out).mono ?_
  rintro x w2 ⟨rfl, hE⟩
  have HE := hide ((HE.out.trans hE).alloc (gobj g))
  have HB2 := hide ((HB2.out.ext hE).alloc (gobj g))
  have HB4 := hide ((HB4.out.ext hE).alloc (gobj g))
  have HB7 : Hid (GrBox (w2.alloc (gobj g)) w2.heap.size g) := gr_new w2 g
  clear hE
  go_upto_region 5 with fail
  change Code.wp _ _ _ _ (w2.alloc (gobj g))
  generalize w2.alloc (gobj g) = W2 at HE HB2 HB4 HB7 ⊢
  generalize w2.heap.size = b7 at HB7 ⊢
  obtain ⟨c0, c1, c2, c3, c4, c5, c6, cz⟩ := HB2.out.cells
  go_wp2_with fail
  clear c0 c1 c2 c3 c4 c5 c6 cz
  refine (HS.out _ HE.out).mono ?_
  rintro x w3 ⟨rfl, hE⟩
  have HE := hide (HE.out.trans hE)
  have HB4 := hide (HB4.out.ext hE)
  have HB7 := hide (HB7.out.ext hE)
  clear hE
  obtain ⟨d0, d1, d2, d3, d4, d5, d6, dz⟩ := HB4.out.cells
  obtain ⟨f0, f1, f2, f3, f4, f5, f6⟩ := HB4.out.frozen
  obtain ⟨e0, e1, e2, e3, e4, e5, ez⟩ := HB7.out.cells
  go_wp2_with fail
  have HB := hide (HB4.out.store ⟨g, (f : Nat)⟩)
  have HE2 := hide (HE.out.rstore (b := w.heap.size + 1) (by omega) ⟨g, (f : Nat)⟩)
  change bodyPost _ _ _ _ _ (rstore w3 (w.heap.size + 1) ⟨g, (f : Nat)⟩)
  generalize rstore w3 (w.heap.size + 1) ⟨g, (f : Nat)⟩ = V at HB HE2 ⊢
  rw [← HX.out] at HB
  exact bodyPost_ret (v := .tuple #[q.v, .int .i64 0]) (results_rd2 rfl _ rfl rfl HB.out) rfl ⟨by rw [HR.out], HE2.out⟩
theorem seenB_true {l : List Int} {i : Nat} {x : Int} (h : ∃ k, k < i ∧ l.getD k 0 = x) : seenB l i x = true := by
  obtain ⟨k, hk, he⟩ := h
  unfold seenB
  exact List.any_eq_true.2 ⟨k, List.mem_range.2 hk, by simpa using he⟩
set_option maxRecDepth 16000 in
set_option maxHeartbeats 1000000 in
theorem rpmcheck_any (l : List Int) (u : Value) (w : World) (hl : Row icells 1 w u l) : Calls Tryz.prog 21 #[u] w fun e w' => e = .returned (.int .i64 (permE l)) ∧ Ext w w' := by
  obtain ⟨p, c, rfl, hc, hlen, hat⟩ := hl.int_all
  have HAT := hide hat
  clear hl hat
  by_cases h0 : l.length < 1 ∨ 5 < l.length
  · rw [permE_bad h0]
    by_cases h1 : l.length < 1
    · have h1' : (l.length : Int) < 1 := by omega
      clear h0 h1
      go_enter Tryz.func21, Tryz.ntmps21
      go_wp2_with fail
      go_ret
      exact ⟨rfl, Ext.refl _⟩
    · have h1' : ¬ (l.length : Int) < 1 := by omega
      have h2' : (5 : Int) < l.length := by omega
      clear h0 h1
      go_enter Tryz.func21, Tryz.ntmps21
      go_wp2_with fail
      go_ret
      exact ⟨rfl, Ext.refl _⟩
  · have HEND := hide (permE_end (l := l) h0)
    have HERR := hide (fun k hk hi he => permE_at (l := l) (k := k) h0 hk hi he)
    have hl5 : l.length ≤ 5 := by omega
    have h1' : ¬ (l.length : Int) < 1 := by omega
    have h2' : ¬ (5 : Int) < l.length := by omega
    have HPA := hide (fun i => show permAt l i = if l.getD i 0 < 0 ∨ (l.length : Int) ≤ l.getD i 0 then 2 else if seenB l i (l.getD i 0) then 7 else 0 from rfl)
    generalize permE l = res at HEND HERR ⊢
    generalize permAt l = pa at HEND HERR HPA
    clear h0
    go_enter Tryz.func21, Tryz.ntmps21
    go_wp2_with fail
    go_loopw [3] (fun x V => ∃ i : Nat, i ≤ l.length ∧ x = .int .i64 i ∧ Hid (Ext w V) ∧ Hid (∀ j, j < i → pa j = 0)) (fun x _ => l.length - (intOf x).toNat)
    case atStart => exact ⟨0, by omega, rfl, Ext.refl _, fun j hj => by omega⟩
    case round =>
      obtain ⟨i, hi, rfl, HE, HJ⟩ := hrel
      by_cases hlt : i < l.length
      · obtain ⟨b, o, rfl, hb, hat⟩ := HAT.out (by omega)
        have hx := hat i hlt _ HE.out
        have hbz : b < wr.heap.size := Nat.lt_of_lt_of_le hb HE.out.size
        have hpa := HPA.out i
        have HER := hide (HERR.out i hlt HJ.out)
        have HX := hide (fun W hE => hat i hlt W hE)
        have HY := hide (fun k (hk : k < l.length) W hE => hat k hk W hE)
        have HS1 := hide (fun k => seenB_succ l k (l.getD i 0))
        have HS2 := hide (fun (h : ∃ k, k < i ∧ l.getD k 0 = l.getD i 0) => seenB_true h)
        generalize l.getD i 0 = x at hx hpa HX HS1 HS2
        clear hat
        by_cases h1 : x < 0
        · have HR : Hid (res = 2) := by
            have h2 : pa i = 2 := by rw [hpa, if_pos (.inl h1)]
            have := HER.out (by rw [h2]; decide)
            rwa [h2] at this
          clear hpa
          go_wp2_with fail
          go_ret
          exact ⟨ret_int HR.out.symm, HE.out⟩
        by_cases h2 : (l.length : Int) ≤ x
        · have HR : Hid (res = 2) := by
            have h2 : pa i = 2 := by rw [hpa, if_pos (.inr h2)]
            have := HER.out (by rw [h2]; decide)
            rwa [h2] at this
          clear hpa
          go_wp2_with fail
          go_ret
          exact ⟨ret_int HR.out.symm, HE.out⟩
        rw [if_neg (by omega)] at hpa
        have HPI := hide hpa
        clear hpa
        go_wp2_with fail
        clear hx hbz
        obtain ⟨wo, rfl⟩ : ∃ wo : World, wo = wr := ⟨_, rfl⟩
        go_loopw [4] (fun y V => ∃ k : Nat, k ≤ i ∧ y = .int .i64 k ∧ Hid (Ext w V) ∧ Hid (seenB l k x = false)) (fun y _ => i - (intOf y).toNat)
        case atStart => exact ⟨0, by omega, rfl, HE, rfl⟩
        case round =>
          clear HE
          obtain ⟨k, hk, rfl, HE, HS⟩ := hrel
          by_cases hkt : k < i
          · have hy := HY.out k (by omega) _ HE.out
            have hx := HX.out _ HE.out
            have hbz : b < wr.heap.size := Nat.lt_of_lt_of_le hb HE.out.size
            have HSK := hide (HS1.out k)
            have HST := hide (fun h => HS2.out ⟨k, hkt, h⟩)
            generalize l.getD k 0 = y at hy HSK HST
            by_cases hyx : y = x
            · have HR : Hid (res = 7) := by
                have h2 : pa i = 7 := by rw [HPI.out, HST.out hyx]; rfl
                have := HER.out (by rw [h2]; decide)
                rwa [h2] at this
              subst hyx
              go_wp2_with fail
              refine wp_region_ext (by kernel_rfl) (by kernel_rfl) ?_
              repeat (go_big_quiet_step (fail))
              refine wpQuiet_nil ?_
              rintro w9 ⟨⟨_, hE9⟩, rfl⟩
              go_wp2_with fail
              go_ret
              exact ⟨ret_int HR.out.symm, HE.out.trans hE9⟩
            · have hd : (y == x) = false := by simp [hyx]
              have HS3 : Hid (seenB l (k + 1) x = false) := by show _ = _; rw [HSK.out, HS.out, hd]; rfl
              clear hyx
              go_wp2_with fail
              refine wp_region_ext (by kernel_rfl) (by kernel_rfl) ?_
              repeat (go_big_quiet_step (fail))
              refine wpQuiet_nil ?_
              rintro w9 ⟨⟨_, hE9⟩, rfl⟩
              have HE9 := hide (HE.out.trans hE9)
              clear hE9
              go_wp2_with fail
              go_roundw
              case rel => exact ⟨k + 1, by omega, by go_num, HE9, HS3⟩
              case measure => simp [intOf]; omega
          · obtain rfl : k = i := by omega
            have HJ2 : Hid (∀ j, j < k + 1 → pa j = 0) := fun j hj => by
              by_cases e : j = k
              · subst e; rw [HPI.out, HS.out]; rfl
              · exact HJ.out j (by omega)
            go_wp2_with fail
            go_roundw
            case rel => exact ⟨k + 1, by omega, by go_num, HE, HJ2⟩
            case measure => simp [intOf]; omega
      · obtain rfl : i = l.length := by omega
        have HR := hide (HEND.out HJ.out)
        go_wp2_with fail
        go_ret
        exact ⟨ret_int HR.out.symm, HE.out⟩
end Go.Proofs.YtdlhnpogddpmpaaGreat
