/-
  round.Word: the error of a word.
  Conditions: as each theorem states.
-/
import Derived.Test.YtfnhjalnbmnlaaaDoorCmp
import Derived.Test.YtfnhjalnbmnlaaaDoorOwned
import Derived.Test.YtfnhjalnbmnlaaaDoorRep
import Derived.Test.YtfnhjalnbmnlaaaDoorSeqO
namespace Go.Proofs.YtfnhjalnbmnlaaaDoor
open Go.RowKit
attribute [local go_sem] Oper.semAt_some

theorem results_cell1 {fn : Func} {a : Tmp} {t : TypeId} (h : fn.results = #[.cell a t]) (tmps : Array Value) (P : Program) (w : World) {b : Addr} {v : Value} (ha : tmps.getD a undef = .pointer (some b)) (hl : (loadVar t b).run P w = .ok v w) :
    (results fn tmps).run P w = .ok v w := by
  rw [Array.getD_eq_getD_getElem?] at ha
  have hl' : _ = _ := hl
  simp [go_sem] at hl'
  simp [results, h, ha, go_sem]
  generalize Sem.run P (isAgg t) w = r at hl' ⊢
  rw [hl']
theorem errno_load (b : Addr) (n : Int) (w : World) (h : w.cell? b = some (.int .i64 n)) : (loadVar 29 b).run Tryd.prog w = .ok (.int .i64 n) w := by
  simp [go_sem, h]
/-- The end of this function, with its result in the cell. -/
theorem leave_plain_cell {fn : Func} {R : Ending → World → Prop} {a : Act} {W : World} {b : Nat} {n : Int} {t : Tmp} (h : fn.results = #[.cell t 29]) (hd : a.defers = []) (ha : a.tmps.getD t undef = .pointer (some ⟨b, 0, none⟩)) (hc : W.cell? ⟨b, 0, none⟩ = some (.int .i64 n)) (hR : R (.returned (.int .i64 n)) W) :
    bodyPostM Fence.wide 0 Tryd.prog fn R .ret a W := leave_plain (results_cell1 h _ _ _ ha (errno_load _ _ _ hc)) hd hR

theorem rchk_zero {r : Rd} (h : rchk r = 0) : gchk r.g = 0 ∧ pchk r.g.n r.f = 0 := by
  unfold rchk at h
  by_cases h1 : gchk r.g = 0
  · rw [if_pos h1] at h; exact ⟨h1, h⟩
  · rw [if_neg h1] at h; exact absurd h h1
theorem pchk_zero {n s : Int} (h : pchk n s = 0) : 1 ≤ n ∧ n ≤ 5 ∧ 0 ≤ s ∧ s < 2 ^ n.toNat := by
  unfold pchk at h
  by_cases h1 : n < 1 ∨ 5 < n
  · rw [if_pos h1] at h; exact absurd h (by decide)
  · rw [if_neg h1] at h
    by_cases h2 : s < 0 ∨ 2 ^ n.toNat ≤ s
    · rw [if_pos h2] at h; exact absurd h (by decide)
    · omega
theorem andnot_table : ((List.range 32).all fun a => (List.range 32).all fun b => (bits .andNot .i64 ((a : Nat) : Int) ((b : Nat) : Int) != 0) == !(inside (a : Nat) (b : Nat))) = true := by kernel_rfl
theorem andnot_inside {a b : Int} (h0 : 0 ≤ a) (h1 : a < 32) (h2 : 0 ≤ b) (h3 : b < 32) : (bits .andNot .i64 a b != 0) = !(inside a b) := by
  obtain ⟨x, rfl⟩ := Int.eq_ofNat_of_zero_le h0
  obtain ⟨y, rfl⟩ := Int.eq_ofNat_of_zero_le h2
  have h := andnot_table
  rw [List.all_eq_true] at h
  have h := h x (List.mem_range.2 (by omega))
  rw [List.all_eq_true] at h
  have h := h y (List.mem_range.2 (by omega))
  simpa using h
end Go.Proofs.YtfnhjalnbmnlaaaDoor

namespace Go.Proofs.YtfnhjalnbmnlaaaDoor
open Go.RowKit
attribute [local go_sem] Oper.semAt_some

theorem rdnumber_any (n : Int) (w : World) : Calls Tryd.prog 49 #[.int .i64 n] w fun e w' => e = .returned (.int .i64 (procs n)) ∧ w' = w := by
  unfold procs
  by_cases h1 : n < 1
  · go_enter Tryd.func49, Tryd.ntmps49
    go_wp2
    go_ret
    simp
  · by_cases h2 : 5 < n
    · go_enter Tryd.func49, Tryd.ntmps49
      go_wp2
      go_ret
      simp
    · go_enter Tryd.func49, Tryd.ntmps49
      go_wp2
      go_ret
      simp

/-- The faulty ones of the round before. -/
def prevF (l : List Rd) : Nat → Int
  | 0 => 0
  | i + 1 => (l.getD i default).f
def pairSeq (l : List Rd) : List (Array Value) := (List.range l.length).map fun i => #[.int .i64 (prevF l i), (l.getD i default).v]
theorem pairSeq_len (l : List Rd) : (pairSeq l).length = l.length := by simp [pairSeq]
theorem pairSeq_at (l : List Rd) {i : Nat} (hi : i < l.length) : (pairSeq l)[i]? = some #[.int .i64 (prevF l i), (l.getD i default).v] := by
  simp [pairSeq, List.getElem?_map, List.getElem?_range hi]
theorem pairSeq_inv (l : List Rd) {i : Nat} {x : Array Value} (h : (pairSeq l)[i]? = some x) : i < l.length ∧ x = #[.int .i64 (prevF l i), (l.getD i default).v] := by
  have hi : i < l.length := by
    rcases Nat.lt_or_ge i l.length with h1 | h1
    · exact h1
    · rw [List.getElem?_eq_none (by rw [pairSeq_len]; exact h1)] at h; cases h
  rw [pairSeq_at l hi] at h
  exact ⟨hi, by simpa using h.symm⟩
theorem pairSeq_two (l : List Rd) : ∀ x ∈ pairSeq l, x.size = 2 := by
  intro x hx
  unfold pairSeq at hx
  obtain ⟨i, _, rfl⟩ := List.mem_map.1 hx
  rfl

theorem pairs_any (s : Value) (w : World) (p : Option Addr) (m c : Nat) (hs : s = .slice p m c) : Calls Tryd.prog 50 #[s] w fun e w' =>
    e = .returned (.func (.func 81) #[] #[.pointer (some ⟨w.heap.size, 0, none⟩)]) ∧ w' = w.alloc (.cells #[s] 35) := by
  subst hs
  go_enter Tryd.func50, Tryd.ntmps50
  go_wp2
  go_ret
  exact ⟨rfl, rfl⟩

set_option maxHeartbeats 2000000 in
theorem pairs_seq (l : List Rd) (s : Value) (w0 : World) (g : Nat) (hl : Row Rd.cells 7 w0 s l) :
    SeqO Tryd.prog 81 #[.pointer (some ⟨g, 0, none⟩)] (fun W => W.cell? ⟨g, 0, none⟩ = some s) (fun k => k = g) (fun W => Ext w0 W) (pairSeq l) := by
  intro lp J Jx W hD hJ hJx hY hI hO0 h0
  obtain ⟨p, c, rfl, hc, hlen, hat⟩ := hl.rd_all
  clear hl
  have HAT := hide hat
  have HD := hide hD
  have HJ := hide hJ
  have HJX := hide hJx
  have HY := hide hY
  have HLEN := hide (pairSeq_len l)
  have HO0 := hide hO0
  clear hat hD hJ hJx hY hO0
  have H0 := hide h0
  clear h0
  refine callsIn_of_wp Tryd.func81 rfl trivial ?_ rfl
  simp only [Tryd.ntmps81, List.size_toArray, List.length_cons, List.length_nil, Nat.reduceAdd, Nat.reduceSub, Array.replicate_succ, Array.replicate_zero, List.push_toArray, List.append_toArray, List.nil_append, List.cons_append]
  gi_wp2
  gi_loopw [3, 8] (fun b x wr => ∃ (i : Nat) (O : Nat → Prop), i ≤ l.length ∧ x = .int .i64 i ∧ b = .int .i64 (prevF l i) ∧ Hid (∀ k, O k → k < wr.heap.size) ∧ Hid (J i O wr)) (fun _ x _ => l.length - (intOf x).toNat)
  case atStart => exact ⟨0, _, by omega, rfl, rfl, HO0, H0⟩
  case round =>
    obtain ⟨i, O, hi, rfl, rfl, hO, hj⟩ := hrel
    have hE := HD.out _ _ _ hj.out
    by_cases hlt : i < l.length
    · obtain ⟨b2, o2, rfl, hbb, hm⟩ := HAT.out (by omega)
      obtain ⟨m0, m1, m2, m3, m4, m5, m6⟩ := hm i hlt
      clear hm
      have HF := hide (show prevF l (i + 1) = (l.getD i default).f from rfl)
      have HAt := hide (pairSeq_at l hlt)
      generalize prevF l i = bf at HAt ⊢
      generalize l.getD i default = r at m0 m1 m2 m3 m4 m5 m6 HAt HF
      obtain ⟨⟨n1, a1, b1, c1, d1, e1⟩, f1⟩ := r
      dsimp only at m0 m1 m2 m3 m4 m5 m6 HF
      obtain ⟨nf, hnf⟩ : ∃ nf, nf = f1 := ⟨_, rfl⟩
      rw [← hnf] at m6 HAt HF
      clear hnf
      obtain ⟨O1, hO1⟩ : ∃ O1 : Nat → Prop, O1 = fun k => O k ∨ k = wr.heap.size := ⟨_, rfl⟩
      have hO1' : Hid (∀ k, O1 k → k < wr.heap.size + 1) := fun k hk => by
        rw [hO1] at hk
        rcases hk with h | h
        · have := hO.out k h; omega
        · omega
      have hin : Hid (O1 wr.heap.size) := by rw [hO1]; exact .inr rfl
      have hj2 := HJ.out _ _ O1 _ (wr.alloc (.cells #[.int .i64 n1, .int .i64 a1, .int .i64 b1, .int .i64 c1, .int .i64 d1, .int .i64 e1, .int .i64 nf] 26)) hj.out (Off.of_ext ((Ext.refl wr).alloc _)) (fun k hk => ⟨by rw [hO1] at hk; rcases hk with h | h; exact .inl h; exact .inr (by omega), by have := hO1'.out k hk; simp; omega⟩)
      have HO1 := hide hO1
      clear hO1
      obtain ⟨fn, tmps, assign, body, hy, hR⟩ := HY.out i _ _ _ (by rw [HLEN.out]; exact hlt) HAt.out hj2 (by simpa using hO1'.out)
      replace hy : (Instr.yield lp #[.int .i64 bf, .agg #[.int .i64 n1, .int .i64 a1, .int .i64 b1, .int .i64 c1, .int .i64 d1, .int .i64 e1, .int .i64 nf]]).run Tryd.prog _ = _ := hy
      have HR := hide hR
      clear hR hj2 hj hI
      gi_wp2_with fail
      refine ⟨rfl, HR.out.mono ?_⟩
      rintro e W' ⟨⟨hko, hsz⟩, (⟨rfl, hJ'⟩ | ⟨rfl, hJx'⟩)⟩
      · have HJ3 := hide hJ'
        have hm := (hko _ hin.out).trans (heap_alloc_new wr _)
        have hf6 : W'.cell? ⟨wr.heap.size, 6, none⟩ = some (.int .i64 nf) := by rw [cell_of_row _ _ _ _ _ _ hm]; rfl
        have HSZ : Hid (∀ k, O1 k → k < W'.heap.size) := fun k hk => by have := hO1'.out k hk; simp at hsz; omega
        clear hJ' HR hko hm hsz m0 m1 m2 m3 m4 m5 m6
        gi_wp2_with fail
        exact ⟨⟨i + 1, O1, by omega, by simp, by rw [HF.out], HSZ, HJ3⟩, by simp [intOf]; omega⟩
      · have HJ3 := hide hJx'
        clear hJx' HR
        gi_wp2_with fail
        exact bodyPost_ret (results_none rfl _ _ _) rfl ⟨⟨_, rfl⟩, _, .inr HJ3.out⟩
    · gi_wp2_with fail
      have hs2 : i = l.length := by omega
      subst hs2
      exact bodyPost_end (results_none rfl _ _ _) rfl ⟨⟨_, rfl⟩, _, .inl (by rw [HLEN.out]; exact hj.out)⟩
end Go.Proofs.YtfnhjalnbmnlaaaDoor

namespace Go.Proofs.YtfnhjalnbmnlaaaDoor
open Go.RowKit
attribute [local go_sem] Oper.semAt_some

def wErr (n : Int) (l : List Rd) (i : Nat) : Int :=
  if rchk (l.getD i default) ≠ 0 then rchk (l.getD i default) else if (l.getD i default).g.n ≠ n then 22 else if inside (prevF l i) (l.getD i default).f then 0 else 14
def wordE (n : Int) (l : List Rd) : Int := if n < 1 ∨ 5 < n then 1 else if 1024 < l.length then 5 else firstErr (wErr n l) l.length
theorem rchk_f {r : Rd} (h : rchk r = 0) : 0 ≤ r.f ∧ r.f < 32 := by
  obtain ⟨h6, h7⟩ := rchk_zero h
  obtain ⟨h8, h9, h10, h11⟩ := pchk_zero h7
  have hp := (pow_le32 (n := r.g.n.toNat) (by omega)).1
  exact ⟨h10, by omega⟩
theorem prevF_small {n : Int} {l : List Rd} : ∀ {i : Nat}, (∀ j, j < i → wErr n l j = 0) → 0 ≤ prevF l i ∧ prevF l i < 32
  | 0, _ => by simp [prevF]
  | i + 1, h => by
    have h1 := h i (by omega)
    unfold wErr at h1
    by_cases h2 : rchk (l.getD i default) = 0
    · exact rchk_f h2
    · rw [if_pos h2] at h1; exact absurd h1 h2

set_option maxRecDepth 16000 in
set_option maxHeartbeats 1000000 in
theorem rword_any (n : Int) (l : List Rd) (v : Value) (w : World) (hv : Row Rd.cells 7 w v l) :
    Calls Tryd.prog 21 #[.int .i64 n, v] w fun e w' => e = .returned (.int .i64 (wordE n l)) ∧ Ext w w' := by
  have HV := hide hv
  obtain ⟨p, c, rfl, hc, hlen, -⟩ := hv.rd_all
  clear hv
  unfold wordE
  generalize hres : (if n < 1 ∨ 5 < n then (1 : Int) else if 1024 < l.length then 5 else firstErr (wErr n l) l.length) = res
  have HR := hide hres
  clear hres
  refine calls_of_wp_m Tryd.func21 rfl ?_
  simp only [Tryd.ntmps21, List.size_toArray, List.length_cons, List.length_nil, Nat.reduceAdd, Nat.reduceSub, Array.replicate_succ, Array.replicate_zero, List.push_toArray, List.append_toArray, List.nil_append, List.cons_append]
  have HP := hide (rdnumber_any n)
  by_cases hn : n < 1 ∨ 5 < n
  · have HR0 := HR.out
    have hp : procs n = 1 := by unfold procs; rw [if_pos hn]
    rw [if_pos hn] at HR0
    rw [hp] at HP
    have HR := hide HR0
    clear HR0 hp hn
    go_wp2_with fail
    refine (HP.out _).mono ?_
    rintro e w1 ⟨rfl, hw1⟩
    rw [hw1]
    clear hw1
    go_wp2_with fail
    exact leave_plain_cell rfl rfl rfl (n := 1) (by simp [go_sem]) ⟨ret_int HR.out, (((Ext.refl w).alloc _).alloc _)⟩
  have HR0 := HR.out
  have hp : procs n = 0 := by unfold procs; rw [if_neg hn]
  rw [if_neg hn] at HR0
  rw [hp] at HP
  have HR := hide HR0
  clear HR0 hp hn
  go_wp2_with fail
  obtain ⟨w1, hw1⟩ : ∃ w1, ((w.alloc (.cells #[.int .i64 n] 3)).alloc (.cells #[.int .i64 0] 29)) = w1 := ⟨_, rfl⟩
  have hE1 : Ext w w1 := by rw [← hw1]; exact (((Ext.refl w).alloc _).alloc _)
  have hB1 : Box w1 (w.heap.size + 1) 29 (.int .i64 0) := by
    rw [← hw1]; have := Box.new (w.alloc (.cells #[.int .i64 n] 3)) 29 (.int .i64 0); rwa [World.size_alloc] at this
  have ha0 : w1.cell? ⟨w.heap.size, 0, none⟩ = some (.int .i64 n) := by rw [← hw1]; simp [go_sem]
  have hz1 : w.heap.size + 2 ≤ w1.heap.size := by rw [← hw1]; simp
  rw [hw1]
  clear hw1
  have hl1 : w.heap.size < w1.heap.size := by omega
  have hl2 : w.heap.size + 1 < w1.heap.size := by omega
  refine (HP.out _).mono ?_
  rintro e w1' ⟨rfl, rfl⟩
  have hfz := hB1.frozen
  have hcz := hB1.cell
  by_cases c1 : 1024 < l.length
  · have HR0 := HR.out
    rw [if_pos c1] at HR0
    have HR := hide HR0
    clear HR0
    go_wp2_with fail
    exact leave_plain_cell rfl rfl rfl (n := 5) hB1.set.cell ⟨ret_int HR.out, hE1.setCell (by simp) _⟩
  have HR0 := HR.out
  rw [if_neg c1] at HR0
  have HR := hide HR0
  clear HR0
  go_wp2_with fail
  obtain ⟨w3, hw3⟩ : ∃ w3, w1'.alloc (.cells #[.slice p l.length c] 35) = w3 := ⟨_, rfl⟩
  have hE3 : Ext w w3 := by rw [← hw3]; exact hE1.alloc _
  have hB3 : Box w3 (w.heap.size + 1) 29 (.int .i64 0) := by rw [← hw3]; exact hB1.alloc _
  have hS3 : w3.cell? ⟨w.heap.size, 0, none⟩ = some (.int .i64 n) := by rw [← hw3]; simp [go_sem, hl1, ha0]
  have hT3 : w3.cell? ⟨w1'.heap.size, 0, none⟩ = some (.slice p l.length c) := by rw [← hw3]; simp [go_sem]
  have hZ3 : w1'.heap.size < w3.heap.size := by rw [← hw3]; simp
  refine (pairs_any _ w1' p l.length c rfl).mono ?_
  rintro e W ⟨rfl, hW⟩
  rw [hw3] at hW
  subst hW
  clear hw3
  go_wp2_with fail
  have HB : Hid (∀ i, i < l.length → (∀ j, j < i → wErr n l j = 0) → wErr n l i ≠ 0 → wErr n l i = res) := fun i hi h1 h2 => by
    have h3 := firstErr_at (f := wErr n l) hi h1 h2
    rw [← h3]
    exact HR.out
  refine wp_rangeO rfl (fun _ _ => rfl) (pairs_seq l (.slice p l.length c) w w1'.heap.size HV.out) (pairSeq_two l)
    (fun i O V => Ext w V ∧ Box V (w.heap.size + 1) 29 (.int .i64 0) ∧ V.cell? ⟨w.heap.size, 0, none⟩ = some (.int .i64 n) ∧ (∀ k, O k → w.heap.size + 2 ≤ k) ∧ (∀ j, j < i → wErr n l j = 0))
    (fun c O V => c = .ret ∧ Ext w V ∧ (∀ k, O k → w.heap.size + 2 ≤ k) ∧ ∃ e, Box V (w.heap.size + 1) 29 (.int .i64 e) ∧ e = res) ?_ ?_ ?_ ?_ ?_ ?_ ?_ ?_ ?_
  · rintro i O V h; exact h.1
  · rintro i O O' V V' ⟨h1, h2, h3, h4, h5⟩ hC hG
    have n1 : ¬ O (w.heap.size + 1) := fun h => by have := h4 _ h; omega
    have n0 : ¬ O w.heap.size := fun h => by have := h4 _ h; omega
    refine ⟨h1.offc hC (by omega) (fun k hk => by have := h4 k hk; omega), hC.cells _ _ _ _ h2 n1, cell_offc hC n0 h3, fun k hk => ?_, h5⟩
    have hz := h2.lt
    rcases (hG k hk).1 with h | h
    · exact h4 k h
    · omega
  · rintro c O O' V V' ⟨h0, h1, h4, e, h2, h3⟩ hC hG
    have n1 : ¬ O (w.heap.size + 1) := fun h => by have := h4 _ h; omega
    refine ⟨h0, h1.offc hC (by omega) (fun k hk => by have := h4 k hk; omega), fun k hk => ?_, e, hC.cells _ _ _ _ h2 n1, h3⟩
    have hz := h2.lt
    rcases (hG k hk).1 with h | h
    · exact h4 k h
    · omega
  · rintro W hE; exact (hE.cell (by show w1'.heap.size < _; omega)).trans hT3
  · rintro k rfl; omega
  · exact ⟨hE3, hB3, hS3, fun k hk => by omega, fun j hj => by omega⟩
  · rintro lp i x O V hx ⟨h1, h2, h3, h4, h5⟩ hOV hlp hlV
    have H5 := hide h5
    obtain ⟨hi, rfl⟩ := pairSeq_inv l hx
    have hpf := prevF_small h5
    clear h5 hx
    have HE := hide (HB.out i hi H5.out)
    have HN : Hid (wErr n l i = 0 → ∀ j, j < i + 1 → wErr n l j = 0) := fun h j hj => by
      rcases Nat.lt_or_ge j i with h6 | h6
      · exact H5.out j h6
      · obtain rfl : j = i := by omega
        exact h
    clear H5
    generalize hwe : wErr n l i = we at HE HN
    have HW := hide hwe
    clear hwe
    unfold wErr at HW
    generalize prevF l i = pf at HW hpf ⊢
    have HC := hide (fun W => rcheck_any (l.getD i default) W)
    have HF := hide (fun h : rchk (l.getD i default) = 0 => rchk_f h)
    generalize l.getD i default = r at HW HC HF ⊢
    obtain ⟨⟨n1, a1, b1, c1', d1', e1⟩, f1⟩ := r
    dsimp only [Rd.v] at HW HC HF ⊢
    generalize rchk ⟨⟨n1, a1, b1, c1', d1', e1⟩, f1⟩ = rc at HW HC HF
    gi_wp2_with fail
    have hz1V : w.heap.size + 1 < V.heap.size := h2.lt
    refine ⟨KFO.of_ext ((Ext.refl _).alloc _) hOV, fun W2 hC hKO => ?_⟩
    have hm := hC.cells _ _ _ _ (heap_alloc_new V (.cells #[.int .i64 n1, .int .i64 a1, .int .i64 b1, .int .i64 c1', .int .i64 d1', .int .i64 e1, .int .i64 f1] 26))
    have h1' := (h1.alloc (.cells #[.int .i64 n1, .int .i64 a1, .int .i64 b1, .int .i64 c1', .int .i64 d1', .int .i64 e1, .int .i64 f1] 26)).chg hC (by omega)
    have h2' := (h2.alloc (.cells #[.int .i64 n1, .int .i64 a1, .int .i64 b1, .int .i64 c1', .int .i64 d1', .int .i64 e1, .int .i64 f1] 26)).chg hC
    have h3' := cell_chg hC (show (V.alloc (.cells #[.int .i64 n1, .int .i64 a1, .int .i64 b1, .int .i64 c1', .int .i64 d1', .int .i64 e1, .int .i64 f1] 26)).cell? ⟨w.heap.size, 0, none⟩ = some (.int .i64 n) by simp [go_sem, h3, show w.heap.size < V.heap.size by omega])
    have hOV2 : ∀ k, O k → k < W2.heap.size := fun k hk => by have := hOV k hk; have := hC.size; simp at this; omega
    have hmz : V.heap.size < W2.heap.size := lt_of_heap hm
    have hn1 : ¬ O (w.heap.size + 1) := fun h => by have := h4 _ h; omega
    clear h1 h2 h3
    have g0 : W2.cell? ⟨V.heap.size, 0, none⟩ = some (.int .i64 n1) := by rw [cell_of_row _ _ _ _ _ _ hm]; rfl
    have g1 : W2.cell? ⟨V.heap.size, 1, none⟩ = some (.int .i64 a1) := by rw [cell_of_row _ _ _ _ _ _ hm]; rfl
    have g2 : W2.cell? ⟨V.heap.size, 2, none⟩ = some (.int .i64 b1) := by rw [cell_of_row _ _ _ _ _ _ hm]; rfl
    have g3 : W2.cell? ⟨V.heap.size, 3, none⟩ = some (.int .i64 c1') := by rw [cell_of_row _ _ _ _ _ _ hm]; rfl
    have g4 : W2.cell? ⟨V.heap.size, 4, none⟩ = some (.int .i64 d1') := by rw [cell_of_row _ _ _ _ _ _ hm]; rfl
    have g5 : W2.cell? ⟨V.heap.size, 5, none⟩ = some (.int .i64 e1) := by rw [cell_of_row _ _ _ _ _ _ hm]; rfl
    have g6 : W2.cell? ⟨V.heap.size, 6, none⟩ = some (.int .i64 f1) := by rw [cell_of_row _ _ _ _ _ _ hm]; rfl
    clear hm hC hKO
    gi_wp2_with fail
    refine ⟨trivial, rfl, CallsIn.inRound lp ((callsIn_wide (n := 0)).2 ((HC.out W2).mono ?_))⟩
    rintro e W3 ⟨rfl, hE3⟩
    have h1 := h1'.trans hE3
    have h2 : Box W3 (w.heap.size + 1) 29 (.int .i64 0) := (hE3.b.block _ h2'.lt).trans h2'
    have h3 : W3.cell? ⟨w.heap.size, 0, none⟩ = some (.int .i64 n) := (hE3.cell (by have := h2'.lt; show w.heap.size < _; omega)).trans h3'
    have g0 : W3.cell? ⟨V.heap.size, 0, none⟩ = some (.int .i64 n1) := (hE3.cell hmz).trans g0
    have g6 : W3.cell? ⟨V.heap.size, 6, none⟩ = some (.int .i64 f1) := (hE3.cell hmz).trans g6
    have hK := KFO.of_ext (B := W.heap.size) hE3 hOV2
    clear h1' h2' h3' g1 g2 g3 g4 g5 hE3
    have hfz := h2.frozen
    have hcz := h2.cell
    by_cases hrc : rc = 0
    · have hf := HF.out hrc
      have hd : (rc != 0) = false := by simp [hrc]
      have HW1 := HW.out
      rw [if_neg (by simp [hrc])] at HW1
      have HW2 := hide HW1
      clear HW1 hrc HW
      by_cases hnn : n1 = n
      · have hd2 : (n1 != n) = false := by simp [hnn]
        have HW1 := HW2.out
        rw [if_neg (by simp [hnn])] at HW1
        have HW3 := hide HW1
        clear HW1 HW2 hnn
        have hand := andnot_inside hpf.1 hpf.2 hf.1 hf.2
        by_cases hins : inside pf f1 = true
        · have HW1 := HW3.out
          rw [if_pos hins] at HW1
          rw [hins] at hand
          have HN1 := hide (HN.out HW1.symm)
          clear HW1 HW3 HN HE hins
          gi_wp2_with fail
          exact ⟨hK, h1, h2, h3, h4, HN1.out⟩
        · have HW1 := HW3.out
          rw [if_neg hins] at HW1
          rw [Bool.not_eq_true] at hins
          rw [hins] at hand
          have HE1 := hide (HW1.trans (HE.out (by rw [← HW1]; decide)))
          clear HW1 HW3 HN HE hins
          gi_wp2_with fail
          exact ⟨hK.trans (KFO.setCell _ _ _ hn1), rfl, h1.setCell (by simp) _, h4, _, h2.set, HE1.out⟩
      · have hd2 : (n1 != n) = true := by simp [hnn]
        have HW1 := HW2.out
        rw [if_pos hnn] at HW1
        have HE1 := hide (HW1.trans (HE.out (by rw [← HW1]; decide)))
        clear HW1 HW2 HN HE hnn
        gi_wp2_with fail
        exact ⟨hK.trans (KFO.setCell _ _ _ hn1), rfl, h1.setCell (by simp) _, h4, _, h2.set, HE1.out⟩
    · have hd : (rc != 0) = true := by simp [hrc]
      have HW1 := HW.out
      rw [if_pos hrc] at HW1
      have HE1 := hide (HW1.trans (HE.out (by rw [← HW1]; exact hrc)))
      clear HW1 HW HN HE hrc
      gi_wp2_with fail
      exact ⟨hK.trans (KFO.setCell _ _ _ hn1), rfl, h1.setCell (by simp) _, h4, _, h2.set, HE1.out⟩
  · rintro M O V ⟨h1, h2, h3, h4, h5⟩ hMl hM
    have hr := HR.out
    rw [firstErr_end (fun i hi => h5 i (by rw [pairSeq_len]; exact hi))] at hr
    have HR := hide hr
    clear hr h5 h4
    have hf := h2.frozen
    have hc := h2.cell
    go_wp2_with fail
    refine leave_mark rfl (M := M) ?_ (results_cell1 rfl _ _ _ rfl (errno_load _ 0 _ (cell_putObj (o := .deferred (some [])) ?_ rfl _ h2.set.cell))) ⟨ret_int HR.out, (h1.setCell (by simp) _).putObj (by omega) _⟩
    · rw [Below.heap_setCell _ _ _ _ (by show M ≠ w.heap.size + 1; omega)]; exact hM
    · rw [Below.heap_setCell _ _ _ _ (by show M ≠ w.heap.size + 1; omega)]; exact hM
  · rintro M c O V ⟨rfl, h1, h4, e, h2, h3⟩ hMl hM
    have HR := hide h3
    clear h3 h4
    go_wp2_with fail
    exact leave_mark rfl hM (results_cell1 rfl _ _ _ rfl (errno_load _ e _ (cell_putObj hM rfl _ h2.cell))) ⟨ret_int HR.out, h1.putObj (by omega) _⟩
end Go.Proofs.YtfnhjalnbmnlaaaDoor
