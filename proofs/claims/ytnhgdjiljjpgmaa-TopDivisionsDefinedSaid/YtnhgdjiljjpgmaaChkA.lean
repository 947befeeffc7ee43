/-
  The program's check of an adversary (adversary.Check).
  Conditions: as each theorem states.
-/
import Derived.Test.YtnhgdjiljjpgmaaAdvRef3
import Derived.Test.YtnhgdjiljjpgmaaOwned
import Derived.Test.YtnhgdjiljjpgmaaWordA
namespace Go.Proofs.Ytnhgdjiljjpgmaa
open Go.RowKit
attribute [local go_sem] Oper.semAt_some

def Adv.pre (A : Adv) (s i : Nat) : Nat := ((List.range s).map A.len).sum + i
/-- What the iterator yields: each move, with its state. -/
def moveSeq (A : Adv) : List (Array Value) := (List.range A.L).flatMap fun s => (List.range (A.len s)).map fun i => #[.int .i64 s, (A.mv s i).v]
theorem pre_zero (A : Adv) : A.pre 0 0 = 0 := rfl
theorem pre_next (A : Adv) (s : Nat) : A.pre s (A.len s) = A.pre (s + 1) 0 := by
  unfold Adv.pre; rw [List.range_succ, List.map_append, List.sum_append]; simp
theorem flatMap_len {α : Type} (f : Nat → List α) (n : Nat) : ((List.range n).flatMap f).length = ((List.range n).map fun s => (f s).length).sum := by
  induction n with
  | zero => rfl
  | succ n ih => rw [List.range_succ, List.flatMap_append, List.length_append, ih, List.map_append, List.sum_append]; simp
theorem moveSeq_len (A : Adv) : (moveSeq A).length = A.pre A.L 0 := by
  unfold moveSeq Adv.pre
  rw [flatMap_len]
  simp
theorem moveSeq_at (A : Adv) {s i : Nat} (hs : s < A.L) (hi : i < A.len s) : (moveSeq A)[A.pre s i]? = some #[.int .i64 s, (A.mv s i).v] := by
  unfold moveSeq
  obtain ⟨d, hd⟩ := Nat.exists_eq_add_of_lt hs
  have key : ∀ n, s < n → ((List.range n).flatMap fun s => (List.range (A.len s)).map fun i => #[Value.int .i64 s, (A.mv s i).v])[A.pre s i]? = some #[.int .i64 s, (A.mv s i).v] := by
    intro n
    induction n with
    | zero => intro h; omega
    | succ n ih =>
      intro h
      have hlen : ((List.range n).flatMap fun s => (List.range (A.len s)).map fun i => #[Value.int .i64 s, (A.mv s i).v]).length = A.pre n 0 := by
        rw [flatMap_len]; unfold Adv.pre; simp
      rw [List.range_succ, List.flatMap_append]
      by_cases e : s = n
      · subst e
        have : A.pre s i = A.pre s 0 + i := rfl
        rw [List.getElem?_append_right (by omega), hlen, this, Nat.add_sub_cancel_left]
        simp [List.getElem?_map, List.getElem?_range hi]
      · have h1 := ih (by omega)
        rw [List.getElem?_append_left (by rcases Nat.lt_or_ge (A.pre s i) ((List.range n).flatMap fun s => (List.range (A.len s)).map fun i => #[Value.int .i64 s, (A.mv s i).v]).length with h2 | h2; exact h2; rw [List.getElem?_eq_none h2] at h1; cases h1)]
        exact h1
  exact key A.L hs

theorem moves_any (n : Int) (s : Value) (w : World) (p : Option Addr) (m c : Nat) (hs : s = .slice p m c) : Calls Try.prog 77 #[.agg #[.int .i64 n, s]] w fun e w' =>
    e = .returned (.func (.func 90) #[] #[.pointer (some ⟨w.heap.size, 0, none⟩)]) ∧ w' = w.alloc (.cells #[.int .i64 n, s] 29) := by
  subst hs
  go_enter Try.func77, Try.ntmps77
  go_wp2
  go_ret
  exact ⟨rfl, rfl⟩

set_option maxHeartbeats 2000000 in
theorem moves_seq (A : Adv) (s : Value) (w0 : World) (g : Nat) (hA : AdvRep w0 (.agg #[.int .i64 A.n, s]) A) :
    Seq Try.prog 90 #[.pointer (some ⟨g, 0, none⟩)] (fun W => Ext w0 W ∧ W.cell? ⟨g, 1, none⟩ = some s) (moveSeq A) := by
  intro l J Jx W hD hJ hJx hY h0
  obtain ⟨p, c, hv, hc, hl, hat⟩ := hA.all_
  injection hv with hv
  injection hv with hv
  injection hv with _ hv
  injection hv with hv _
  subst hv
  clear hA
  have HAT := hide hat
  have HD := hide hD
  have HJ := hide hJ
  have HJX := hide hJx
  have HY := hide hY
  have HLEN := hide (moveSeq_len A)
  clear hat hD hJ hJx hY
  have H0 := hide h0
  obtain ⟨hE0, hb0⟩ := HD.out _ _ h0
  clear h0
  refine callsIn_of_wp Try.func90 rfl trivial ?_ rfl
  simp only [Try.ntmps90, List.size_toArray, List.length_cons, List.length_nil, Nat.reduceAdd, Nat.reduceSub, Array.replicate_succ, Array.replicate_zero, List.push_toArray, List.append_toArray, List.nil_append, List.cons_append]
  gi_wp2
  gi_loopw [10] (fun x wr => ∃ s : Nat, s ≤ A.L ∧ x = .int .i64 s ∧ J (A.pre s 0) wr) (fun x _ => A.L - (intOf x).toNat)
  case atStart => exact ⟨0, by omega, rfl, H0.out⟩
  case round =>
    obtain ⟨s, hs, rfl, hj⟩ := hrel
    obtain ⟨hE, hb⟩ := HD.out _ _ hj
    have HJ1 := hide hj
    clear hj
    by_cases hlt : s < A.L
    · obtain ⟨b, o, rfl, hb2, hat⟩ := HAT.out (by omega)
      obtain ⟨q, d, hcl, hld, hml, _, hmv⟩ := hat s hlt
      clear hat
      have HMV := hide hmv
      clear hmv
      gi_wp2_with fail
      gi_loopw [17] (fun x wr => ∃ i : Nat, i ≤ A.len s ∧ x = .int .i64 i ∧ J (A.pre s i) wr) (fun x _ => A.len s - (intOf x).toNat)
      case atStart => exact ⟨0, by omega, rfl, HJ1.out⟩
      case round =>
        clear HJ1
        obtain ⟨i, hi, rfl, hj⟩ := hrel
        obtain ⟨hE2, hb2⟩ := HD.out _ _ hj
        have HJ2 := hide hj
        clear hj
        by_cases hil : i < A.len s
        · obtain ⟨b2, o2, hq, hbb, hm⟩ := HMV.out (by omega)
          obtain ⟨m1, m2, m3, m4, m5, m6, m7, m8⟩ := hm i hil
          clear hm
          subst hq
          have hj2 := HJ.out _ _ (wr.alloc (.cells #[.int .i64 (A.mv s i).r.g.n, .int .i64 (A.mv s i).r.g.h0, .int .i64 (A.mv s i).r.g.h1, .int .i64 (A.mv s i).r.g.h2, .int .i64 (A.mv s i).r.g.h3, .int .i64 (A.mv s i).r.g.h4, .int .i64 (A.mv s i).r.f, .int .i64 (A.mv s i).to] 97)) HJ2.out ((Ext.refl wr).alloc _)
          obtain ⟨fn, tmps, assign, body, hy, hR⟩ := HY.out (A.pre s i) _ _ (moveSeq_at A hlt hil) hj2
          replace hy : (Instr.yield l #[.int .i64 s, .agg #[.int .i64 (A.mv s i).r.g.n, .int .i64 (A.mv s i).r.g.h0, .int .i64 (A.mv s i).r.g.h1, .int .i64 (A.mv s i).r.g.h2, .int .i64 (A.mv s i).r.g.h3, .int .i64 (A.mv s i).r.g.h4, .int .i64 (A.mv s i).r.f, .int .i64 (A.mv s i).to]]).run Try.prog _ = _ := hy
          have HR := hide hR
          clear hR hj2
          gi_wp2_with fail
          refine ⟨rfl, HR.out.mono ?_⟩
          rintro e W' (⟨rfl, hJ'⟩ | ⟨rfl, hJx'⟩)
          · have HJ3 := hide hJ'
            clear hJ' HR
            gi_wp2_with fail
            exact ⟨⟨i + 1, by omega, by simp, HJ3.out⟩, by simp [intOf]; omega⟩
          · have HJ3 := hide hJx'
            clear hJx' HR
            gi_wp2_with fail
            exact bodyPost_ret (results_none rfl _ _ _) rfl ⟨⟨_, rfl⟩, .inr HJ3.out⟩
        · gi_wp2_with fail
          have hil2 : i = A.len s := by omega
          subst hil2
          exact ⟨⟨s + 1, by omega, rfl, by have := HJ2.out; rwa [pre_next] at this⟩, by simp [intOf]; omega⟩
    · gi_wp2_with fail
      have hs2 : s = A.L := by omega
      subst hs2
      exact bodyPost_end (results_none rfl _ _ _) rfl ⟨⟨_, rfl⟩, .inl (by rw [HLEN.out]; exact HJ1.out)⟩
end Go.Proofs.Ytnhgdjiljjpgmaa

namespace Go.Proofs.Ytnhgdjiljjpgmaa
open Go.RowKit
attribute [local go_sem] Oper.semAt_some


theorem pre_moves (A : Adv) : A.pre A.L 0 = movesN A := by
  unfold Adv.pre movesN
  rw [Nat.add_zero]
  congr 1
  apply List.ext_getElem
  · simp [Adv.L]
  · intro i h1 h2
    have hi : i < A.st.length := by simpa using h2
    simp [Adv.len, List.getElem?_eq_getElem hi]

theorem pre_inv (A : Adv) (i : Nat) : ∀ n, i < A.pre n 0 → ∃ s j, s < n ∧ j < A.len s ∧ i = A.pre s j := by
  intro n
  induction n with
  | zero => intro h; simp [Adv.pre] at h
  | succ n ih =>
    intro h
    rcases Nat.lt_or_ge i (A.pre n 0) with h1 | h1
    · obtain ⟨s, j, h2, h3, h4⟩ := ih h1; exact ⟨s, j, by omega, h3, h4⟩
    · rw [← pre_next] at h
      have e : ∀ k, A.pre n k = A.pre n 0 + k := fun k => rfl
      rw [e] at h
      exact ⟨n, i - A.pre n 0, by omega, by omega, by rw [e]; omega⟩
theorem moveSeq_inv (A : Adv) {i : Nat} {x : Array Value} (h : (moveSeq A)[i]? = some x) : ∃ s j, s < A.L ∧ j < A.len s ∧ i = A.pre s j ∧ x = #[.int .i64 s, (A.mv s j).v] := by
  have hlt : i < (moveSeq A).length := by
    rcases Nat.lt_or_ge i (moveSeq A).length with h1 | h1
    · exact h1
    · rw [List.getElem?_eq_none h1] at h; cases h
  rw [moveSeq_len] at hlt
  obtain ⟨s, j, h1, h2, rfl⟩ := pre_inv A i A.L hlt
  rw [moveSeq_at A h1 h2] at h
  exact ⟨s, j, h1, h2, rfl, (Option.some.inj h).symm⟩
theorem moveSeq_two (A : Adv) : ∀ x ∈ moveSeq A, x.size = 2 := by
  intro x hx
  obtain ⟨i, hi⟩ := List.mem_iff_getElem?.1 hx
  obtain ⟨_, _, _, _, _, rfl⟩ := moveSeq_inv A hi
  rfl

set_option maxRecDepth 16000 in
set_option maxHeartbeats 2000000 in
theorem sized_any (A : Adv) (v : Value) (w : World) (hA : AdvRep w v A) (hM : movesN A ≤ 4611686018427387904) :
    Calls Try.prog 75 #[v] w fun e w' => e = .returned (.int .i64 (if A.L < 1 ∨ 256 < A.L ∨ 4096 < movesN A then 5 else 0)) ∧ Ext w w' := by
  obtain ⟨p, c, rfl, hc, hl, hat⟩ := hA.all_
  have HA := hide hA
  clear hA hat
  generalize hres : (if A.L < 1 ∨ 256 < A.L ∨ 4096 < movesN A then (5 : Int) else 0) = res
  have HRES := hide hres
  clear hres
  refine calls_of_wp_m Try.func75 rfl ?_
  simp only [Try.ntmps75, List.size_toArray, List.length_cons, List.length_nil, Nat.reduceAdd, Nat.reduceSub, Array.replicate_succ, Array.replicate_zero, List.push_toArray, List.append_toArray, List.nil_append, List.cons_append]
  go_wp2_with fail
  obtain ⟨w3, hw3⟩ : ∃ w3, (((w.alloc (.cells #[.int .i64 A.n, .slice p A.L c] 29)).alloc (.cells #[.int .i64 0] 3)).alloc (.cells #[.int .i64 A.n, .slice p A.L c] 29)) = w3 := ⟨_, rfl⟩
  have hE3 : Ext w w3 := by rw [← hw3]; exact (((Ext.refl w).alloc _).alloc _).alloc _
  have hB3 : Box w3 (w.heap.size + 1) 3 (.int .i64 0) := by
    rw [← hw3]; have := (Box.new (w.alloc (.cells #[.int .i64 A.n, .slice p A.L c] 29)) 3 (.int .i64 0)).alloc (.cells #[.int .i64 A.n, .slice p A.L c] 29); rwa [World.size_alloc] at this
  have hS3 : w3.cell? ⟨w.heap.size, 1, none⟩ = some (.slice p A.L c) := by rw [← hw3]; simp [go_sem]
  have hT3 : w3.cell? ⟨w.heap.size + 2, 1, none⟩ = some (.slice p A.L c) := by rw [← hw3]; simp [go_sem]
  have hZ3 : w3.heap.size = w.heap.size + 3 := by rw [← hw3]; simp
  refine (moves_any A.n _ _ p A.L c rfl).mono ?_
  rintro e W ⟨rfl, hW⟩
  rw [hw3] at hW
  subst hW
  simp only [World.size_alloc]
  clear hw3
  go_wp2_with fail
  refine wp_range rfl (fun _ _ => rfl) (moves_seq A (.slice p A.L c) w (w.heap.size + 1 + 1) HA.out) (moveSeq_two A)
    (fun i V => Ext w V ∧ Box V (w.heap.size + 1) 3 (.int .i64 i) ∧ V.cell? ⟨w.heap.size, 1, none⟩ = some (.slice p A.L c) ∧ V.cell? ⟨w.heap.size + 2, 1, none⟩ = some (.slice p A.L c)) (fun _ _ => False) ?_ ?_ ?_ ?_ ?_ ?_ ?_
  · rintro i V ⟨h1, _, _, h4⟩; exact ⟨h1, h4⟩
  · rintro i V V' ⟨h1, h2, h3, h4⟩ hC; exact ⟨h1.chg hC (by omega), h2.chg hC, cell_chg hC h3, cell_chg hC h4⟩
  · exact fun _ _ _ h => h.elim
  · exact ⟨hE3, hB3, hS3, hT3⟩
  · rintro l i x V hx ⟨h1, h2, h3, h4⟩ hl hlV
    have hiM : i < movesN A := by
      rw [← pre_moves, ← moveSeq_len]
      rcases Nat.lt_or_ge i (moveSeq A).length with h5 | h5
      · exact h5
      · rw [List.getElem?_eq_none h5] at hx; cases hx
    obtain ⟨s, j, hs, hj, -, rfl⟩ := moveSeq_inv A hx
    clear hx
    refine wpIn_skip ?_
    refine ⟨KF.refl _ _, fun W2 hC => ?_⟩
    have h2' := h2.chg hC
    have hc2 := h2'.cell
    have hf2 := h2'.frozen
    have h3' := cell_chg hC h3
    have h4' := cell_chg hC h4
    have h1' := h1.chg hC (by omega)
    gi_wp2_with fail
    refine ⟨KF.setCell _ _ _, h1'.setCell (by simp) _, h2'.set, ?_, ?_⟩
    · simp [go_sem, h3']
    · simp [go_sem, h4']
  · rintro M V ⟨h1, h2, h3, h4⟩ hMl hM
    rw [moveSeq_len, pre_moves] at h2
    have hc2 := h2.cell
    have h2' := hide h2
    clear h2
    have hfin : ∀ r, r = res → (Ending.returned (.int .i64 r) = .returned (.int .i64 res) ∧ Ext w (V.putObj M (.deferred none))) := fun r hr => ⟨by rw [hr], h1.putObj (by omega) _⟩
    have HFIN := hide hfin
    clear hfin
    have HR := HRES.out
    by_cases c1 : A.L < 1
    · rw [if_pos (.inl c1)] at HR
      have HR := hide HR
      have d1 : decide ((A.L : Int) < 1) = true := by simp; omega
      go_wp2_with fail
      refine leave_mark rfl hM (results_tmp rfl _ _ _) ?_; exact HFIN.out _ HR.out
    · by_cases c2 : 256 < A.L
      · rw [if_pos (.inr (.inl c2))] at HR
        have HR := hide HR
        have d1 : decide ((A.L : Int) < 1) = false := by simp; omega
        have d2 : decide ((256 : Int) < A.L) = true := by simp; omega
        go_wp2_with fail
        refine leave_mark rfl hM (results_tmp rfl _ _ _) ?_; exact HFIN.out _ HR.out
      · have d1 : decide ((A.L : Int) < 1) = false := by simp; omega
        have d2 : decide ((256 : Int) < A.L) = false := by simp; omega
        by_cases c3 : 4096 < movesN A
        · rw [if_pos (.inr (.inr c3))] at HR
          have HR := hide HR
          have d3 : decide ((4096 : Int) < movesN A) = true := by simp; omega
          go_wp2_with fail
          refine leave_mark rfl hM (results_tmp rfl _ _ _) ?_; exact HFIN.out _ HR.out
        · rw [if_neg (by omega)] at HR
          have HR := hide HR
          have d3 : decide ((4096 : Int) < movesN A) = false := by simp; omega
          go_wp2_with fail
          refine leave_mark rfl hM (results_tmp rfl _ _ _) ?_; exact HFIN.out _ HR.out
  · exact fun _ _ _ h => h.elim
end Go.Proofs.Ytnhgdjiljjpgmaa

namespace Go.Proofs.Ytnhgdjiljjpgmaa
open Go.RowKit
attribute [local go_sem] Oper.semAt_some

/-- The error of a state's list. -/
def lsErr (n : Int) (L : Nat) (ms : List Mv) : Int := if ms.length = 0 then 19 else firstErr (mvErrAt n L ms) ms.length

set_option maxHeartbeats 4000000 in
theorem state_any (A : Adv) (v u : Value) (ms : List Mv) (w : World) (hA : AdvRep w v A) (hM : Row Mv.cells 8 w u ms) :
    Calls Try.prog 76 #[v, u] w fun e w' => e = .returned (.int .i64 (lsErr A.n A.L ms)) ∧ Ext w w' := by
  obtain ⟨p, c, rfl, hc, hl, hat⟩ := hA.all_
  clear hat hA
  obtain ⟨q, d, rfl, hd, hml, hat⟩ := hM.mv_all
  have HAT := hide hat
  clear hat hM
  obtain ⟨f, hf⟩ : ∃ f, mvErrAt A.n A.L ms = f := ⟨_, rfl⟩
  generalize hres : lsErr A.n A.L ms = res
  unfold lsErr at hres
  rw [hf] at hres
  by_cases hz : ms.length = 0
  · rw [if_pos hz] at hres
    have HR := hide hres
    clear hres hf HAT
    rw [hz] at hd hml ⊢
    go_enter Try.func76, Try.ntmps76
    go_wp2_with fail
    go_ret
    exact ⟨ret_int HR.out, (Ext.refl w).alloc _⟩
  · rw [if_neg hz] at hres
    have HBAD : Hid (∀ i, i < ms.length → (∀ j, j < i → f j = 0) → f i ≠ 0 → f i = res) := fun i hi h1 h2 => by rw [← hres]; exact (firstErr_at hi h1 h2).symm
    have HOK : Hid ((∀ j, j < ms.length → f j = 0) → (0 : Int) = res) := fun h1 => by rw [← hres]; exact (firstErr_end h1).symm
    have HF := hide hf
    clear hres hf
    have hz2 : ((ms.length : Int) == 0) = false := by simp [hz]
    clear hz
    go_enter Try.func76, Try.ntmps76
    go_wp2_with fail
    obtain ⟨w1, hw1⟩ : ∃ w1, w.alloc (.cells #[.int .i64 A.n, .slice p A.L c] 29) = w1 := ⟨_, rfl⟩
    have hE1 : Ext w w1 := by rw [← hw1]; exact (Ext.refl w).alloc _
    have hb0 : w1.cell? ⟨w.heap.size, 0, none⟩ = some (.int .i64 A.n) := by rw [← hw1]; simp [go_sem]
    have hb1 : w1.cell? ⟨w.heap.size, 1, none⟩ = some (.slice p A.L c) := by rw [← hw1]; simp [go_sem]
    have hsz : w.heap.size < w1.heap.size := by rw [← hw1]; simp
    rw [hw1]
    clear hw1
    go_loopw [13] (fun x wr => ∃ i : Nat, i ≤ ms.length ∧ x = .int .i64 i ∧ (∀ j, j < i → f j = 0) ∧ Ext w1 wr) (fun x _ => ms.length - (intOf x).toNat)
    case atStart => exact ⟨0, by omega, rfl, fun j hj => by omega, Ext.refl _⟩
    case round =>
      obtain ⟨i, hi, rfl, hz, hEr⟩ := hrel
      obtain ⟨hcr, hfr⟩ := hEr.rules
      have hEw := hE1.trans hEr
      have HZ := hide hz
      clear hz
      by_cases hil : i < ms.length
      · obtain ⟨b, o, rfl, hb, hat⟩ := HAT.out (by omega)
        have hx := hat i hil
        have hprev : 0 < i → MvAt w b (o + (i - 1) * 8) (ms.getD (i - 1) default) := fun h0 => hat (i - 1) (by omega)
        have hE : _ = f i := congrFun HF.out i
        clear hat
        unfold mvErrAt at hE
        generalize ms.getD (i - 1) default = pv at hprev hE
        generalize ms.getD i default = m at hx hE
        obtain ⟨⟨⟨n1, a1, b1, c1, d1, e1⟩, f1⟩, t1⟩ := m
        obtain ⟨⟨⟨n2, a2, b2, c2, d2, e2⟩, f2⟩, t2⟩ := pv
        obtain ⟨x0, x1, x2, x3, x4, x5, x6, x7⟩ := hx
        dsimp only at x0 x1 x2 x3 x4 x5 x6 x7 hE
        have hck := fun W => rcheck_any ⟨⟨n1, a1, b1, c1, d1, e1⟩, f1⟩ W
        have hcm := fun W => rcompare_any ⟨⟨n2, a2, b2, c2, d2, e2⟩, f2⟩ ⟨⟨n1, a1, b1, c1, d1, e1⟩, f1⟩ W
        generalize rchk ⟨⟨n1, a1, b1, c1, d1, e1⟩, f1⟩ = ck at hck hE
        generalize rcmp ⟨⟨n2, a2, b2, c2, d2, e2⟩, f2⟩ ⟨⟨n1, a1, b1, c1, d1, e1⟩, f1⟩ = cm at hcm hE
        have HCK := hide hck
        have HCM := hide hcm
        have HP := hide hprev
        clear hck hcm hprev
        have HBADI : Hid (f i ≠ 0 → f i = res) := HBAD.out i hil HZ.out
        have HEI := hide hE
        clear hE
        go_wp2_with fail
        refine (HCK.out _).mono ?_
        rintro e w3 ⟨rfl, hE3⟩
        have hE3w : Ext w1 w3 := (hEr.alloc _).trans hE3
        have hE3v : Ext w w3 := hE1.trans hE3w
        obtain ⟨hc3, hf3⟩ := hE3.rules
        have hz3 : wr.heap.size < w3.heap.size := by have := hE3.size; simp at this; omega
        have hz4 : w.heap.size < w3.heap.size := by have := hE3w.size; omega
        have hbn : w3.cell? ⟨w.heap.size, 0, none⟩ = some (.int .i64 A.n) := by rw [hE3w.cell hsz]; exact hb0
        by_cases h1 : ck = 0
        · by_cases h2 : n1 = A.n
          · have HQ := HEI.out
            rw [if_pos h1, if_pos h2] at HQ
            have HQ := hide HQ
            clear HEI
            have hck : (ck != 0) = false := by simp [h1]
            have hnn : (n1 != A.n) = false := by simp [h2]
            clear h1 h2
            by_cases h3 : 0 < i
            · obtain ⟨y0, y1, y2, y3, y4, y5, y6, y7⟩ := HP.out h3
              dsimp only at y0 y1 y2 y3 y4 y5 y6 y7
              clear y7
              have h1i : (1 : Int) ≤ i := by omega
              have h1d : decide (0 < i) = true := by simp [h3]
              have hsub : IntKind.i64.wrap ((i : Int) - 1) = (i : Int) - 1 := IntWalk.i64_in _ (by omega)
              go_wp2_with fail
              refine wp_region_ext (by kernel_rfl) (by kernel_rfl) ?_
              repeat (go_big_quiet_step ((go_at_call 60; exact Calls.ext_of (HCM.out _))))
              refine wpQuiet_nil ?_
              rintro w2 ⟨⟨_, hE2⟩, rfl⟩
              have hE4 := hE3v.trans hE2
              have hE5 := hE3w.trans hE2
              have hbox : w2.cell? ⟨w.heap.size, 1, none⟩ = some (.slice p A.L c) := by rw [hE5.cell hsz]; exact hb1
              have hto : w2.cell? ⟨wr.heap.size, 7, none⟩ = some (.int .i64 t1) := by rw [hE2.cell hz3, hc3 _ _ (by simp)]; simp [go_sem]
              clear hc3 hf3 hz3 hz4 hE2 y0 y1 y2 y3 y4 y5 y6 hsub x0 x1 x2 x3 x4 x5 x6 x7
              by_cases h4 : 0 ≤ cm
              · have HR := HQ.out
                rw [if_pos ⟨h3, h4⟩] at HR
                have HR2 := hide (HBADI.out (by omega))
                have HR3 := hide HR
                clear HR HQ
                have h4d : decide (0 ≤ cm) = true := by simp [h4]
                go_wp2_with fail
                go_ret
                exact ⟨ret_int (by rw [HR3.out]; exact HR2.out), hE4⟩
              · have HR := HQ.out
                rw [if_neg (fun h => h4 h.2)] at HR
                have HQ := hide HR
                clear HR
                have h4d : decide (0 ≤ cm) = false := decide_eq_false h4
                rcases (by omega : t1 < 0 ∨ (0 ≤ t1 ∧ (A.L : Int) ≤ t1) ∨ (0 ≤ t1 ∧ t1 < (A.L : Int))) with h5 | ⟨h5, h6⟩ | ⟨h5, h6⟩
                · have HR := HQ.out
                  rw [if_pos (.inl h5)] at HR
                  have HR2 := hide (HBADI.out (by omega))
                  have HR3 := hide HR
                  clear HR HQ
                  have h5d : decide (t1 < 0) = true := by simp [h5]
                  go_wp2_with fail
                  go_ret
                  exact ⟨ret_int (by rw [HR3.out]; exact HR2.out), hE4⟩
                · have HR := HQ.out
                  rw [if_pos (.inr h6)] at HR
                  have HR2 := hide (HBADI.out (by omega))
                  have HR3 := hide HR
                  clear HR HQ
                  have h5d : decide (t1 < 0) = false := decide_eq_false (by omega)
                  have h6d : decide ((A.L : Int) ≤ t1) = true := by simp [h6]
                  go_wp2_with fail
                  go_ret
                  exact ⟨ret_int (by rw [HR3.out]; exact HR2.out), hE4⟩
                · have HR := HQ.out
                  rw [if_neg (by omega)] at HR
                  have HR3 := hide HR
                  clear HR HQ
                  have h5d : decide (t1 < 0) = false := decide_eq_false (by omega)
                  have h6d : decide ((A.L : Int) ≤ t1) = false := decide_eq_false (by omega)
                  go_wp2_with fail
                  refine ⟨⟨i + 1, by omega, by simp, fun j hj => ?_, hE5⟩, by simp [intOf]; try omega⟩
                  rcases Nat.lt_or_ge j i with h7 | h7
                  · exact HZ.out j h7
                  · obtain rfl : j = i := by omega
                    exact HR3.out.symm
            · obtain rfl : i = 0 := by omega
              have HQ := HQ.out
              rw [if_neg (fun h => h3 h.1)] at HQ
              have HQ := hide HQ
              clear h3
              go_wp2_with fail
              refine wp_region_ext (by kernel_rfl) (by kernel_rfl) ?_
              repeat (go_big_quiet_step (fail))
              refine wpQuiet_nil ?_
              rintro w2 ⟨⟨_, hE2⟩, rfl⟩
              have hE4 := hE3v.trans hE2
              have hE5 := hE3w.trans hE2
              have hbox : w2.cell? ⟨w.heap.size, 1, none⟩ = some (.slice p A.L c) := by rw [hE5.cell hsz]; exact hb1
              have hto : w2.cell? ⟨wr.heap.size, 7, none⟩ = some (.int .i64 t1) := by rw [hE2.cell hz3, hc3 _ _ (by simp)]; simp [go_sem]
              clear hc3 hf3 hz3 hz4 hE2 x0 x1 x2 x3 x4 x5 x6 x7
              rcases (by omega : t1 < 0 ∨ (0 ≤ t1 ∧ (A.L : Int) ≤ t1) ∨ (0 ≤ t1 ∧ t1 < (A.L : Int))) with h5 | ⟨h5, h6⟩ | ⟨h5, h6⟩
              · have HR := HQ.out
                rw [if_pos (.inl h5)] at HR
                have HR2 := hide (HBADI.out (by omega))
                have HR3 := hide HR
                clear HR HQ
                have h5d : decide (t1 < 0) = true := by simp [h5]
                go_wp2_with fail
                go_ret
                exact ⟨ret_int (by rw [HR3.out]; exact HR2.out), hE4⟩
              · have HR := HQ.out
                rw [if_pos (.inr h6)] at HR
                have HR2 := hide (HBADI.out (by omega))
                have HR3 := hide HR
                clear HR HQ
                have h5d : decide (t1 < 0) = false := decide_eq_false (by omega)
                have h6d : decide ((A.L : Int) ≤ t1) = true := by simp [h6]
                go_wp2_with fail
                go_ret
                exact ⟨ret_int (by rw [HR3.out]; exact HR2.out), hE4⟩
              · have HR := HQ.out
                rw [if_neg (by omega)] at HR
                have HR3 := hide HR
                clear HR HQ
                have h5d : decide (t1 < 0) = false := decide_eq_false (by omega)
                have h6d : decide ((A.L : Int) ≤ t1) = false := decide_eq_false (by omega)
                go_wp2_with fail
                refine ⟨⟨0 + 1, by omega, by simp, fun j hj => ?_, hE5⟩, by simp [intOf]; try omega⟩
                rcases Nat.lt_or_ge j 0 with h7 | h7
                · exact HZ.out j h7
                · obtain rfl : j = 0 := by omega
                  exact HR3.out.symm
          · have HR := HEI.out
            rw [if_pos h1, if_neg h2] at HR
            have HR2 := hide (HBADI.out (by omega))
            have HR3 := hide HR
            clear HR HEI
            have hck : (ck != 0) = false := by simp [h1]
            have hnn : (n1 != A.n) = true := by simp [h2]
            clear h1 h2
            go_wp2_with fail
            go_ret
            exact ⟨ret_int (by rw [HR3.out]; exact HR2.out), hE3v⟩
        · have hck : (ck != 0) = true := by simp [h1]
          have HR := HEI.out
          rw [if_neg h1] at HR
          have HR2 := hide (HBADI.out (by omega))
          have HR3 := hide HR
          clear HR HEI
          go_wp2_with fail
          go_ret
          exact ⟨ret_int (by first | exact HR2.out | (rw [HR3.out]; exact HR2.out)), hE3v⟩
      · go_wp2_with fail
        go_ret
        have hii : i = ms.length := by omega
        subst hii
        exact ⟨ret_int (HOK.out HZ.out), hEw⟩
end Go.Proofs.Ytnhgdjiljjpgmaa

namespace Go.Proofs.Ytnhgdjiljjpgmaa
open Go.RowKit
attribute [local go_sem] Oper.semAt_some

theorem small_of {A : Adv} (h : ∀ s, s < A.L → stErr A s = 0) : ∀ s i, s < A.L → i < A.len s → 0 ≤ (A.mv s i).r.f ∧ (A.mv s i).r.f < 32 := by
  intro s i hs hi
  obtain ⟨h1, _, _, h4, h5⟩ := mvErrAt_zero ((stErr_zero (h s hs)).2 i hi)
  obtain ⟨h6, h7⟩ := rchk_zero h1
  obtain ⟨h8, h9, h10, h11⟩ := pchk_zero h7
  have hp := (pow_le32 (n := ((A.st.getD s []).getD i default).r.g.n.toNat) (by omega)).1
  exact ⟨h10, by show ((A.st.getD s []).getD i default).r.f < _; omega⟩
theorem pre_step (A : Adv) {s j : Nat} (hj : j < A.len s) {s' j' : Nat} (h : s < s') : A.pre s j < A.pre s' j' := by
  have h1 : ∀ d, A.pre (s + 1) 0 ≤ A.pre (s + 1 + d) 0 := by
    intro d
    induction d with
    | zero => exact Nat.le_refl _
    | succ d ih =>
      have e := pre_next A (s + 1 + d)
      have e2 : A.pre (s + 1 + d) (A.len (s + 1 + d)) = A.pre (s + 1 + d) 0 + A.len (s + 1 + d) := rfl
      have e3 : s + 1 + (d + 1) = s + 1 + d + 1 := by omega
      rw [e3]; omega
  have h2 := h1 (s' - (s + 1))
  rw [show s + 1 + (s' - (s + 1)) = s' by omega] at h2
  have e1 := pre_next A s
  have e2 : A.pre s (A.len s) = A.pre s 0 + A.len s := rfl
  have e3 : A.pre s j = A.pre s 0 + j := rfl
  have e4 : A.pre s' j' = A.pre s' 0 + j' := rfl
  omega
theorem pre_inj {A : Adv} {s j s' j' : Nat} (_ : s < A.L) (hj : j < A.len s) (_ : s' < A.L) (hj' : j' < A.len s') (h : A.pre s j = A.pre s' j') : s = s' ∧ j = j' := by
  have h1 := fun h => pre_step A hj (s' := s') (j' := j') h
  have h2 := fun h => pre_step A hj' (s' := s) (j' := j) h
  have e : s = s' := by
    rcases Nat.lt_trichotomy s s' with h3 | h3 | h3
    · have := h1 h3; omega
    · exact h3
    · have := h2 h3; omega
  subst e
  have e3 : A.pre s j = A.pre s 0 + j := rfl
  have e4 : A.pre s j' = A.pre s 0 + j' := rfl
  exact ⟨rfl, by omega⟩
/-- The move at (s, j) leads to no round with fewer faulty ones. -/
def growAt (A : Adv) (s j : Nat) : Prop := ∀ k, k < A.len (A.mv s j).to.toNat → inside (A.mv s j).r.f (A.mv (A.mv s j).to.toNat k).r.f = true

set_option maxRecDepth 16000 in
set_option maxHeartbeats 4000000 in
theorem check_any (A : Adv) (v : Value) (w : World) (hA : AdvRep w v A) (hM : movesN A ≤ 4611686018427387904) :
    Calls Try.prog 51 #[v] w fun e w' => e = .returned (.int .i64 (achk A)) ∧ Ext w w' := by
  have HSZ := hide (fun W (hE : Ext w W) => sized_any A v W (hA.ext hE) hM)
  have HST := hide (fun W (hE : Ext w W) u s (hR : Row Mv.cells 8 w u (A.st.getD s [])) => state_any A v u (A.st.getD s []) W (hA.ext hE) (hR.ext hE))
  obtain ⟨p, c, rfl, hc, hl, hat⟩ := hA.all_
  have HA := hide hA
  have HAT := hide hat
  clear hA hat
  unfold achk
  generalize hres : (if A.n < 1 ∨ 5 < A.n then (2 : Int) else if A.L < 1 ∨ 256 < A.L ∨ 4096 < movesN A then 5
    else if firstErr (stErr A) A.L = 0 then (if growsB A = true then 0 else 21) else firstErr (stErr A) A.L) = res
  have HR := hide hres
  clear hres
  refine calls_of_wp_m Try.func51 rfl ?_
  simp only [Try.ntmps51, List.size_toArray, List.length_cons, List.length_nil, Nat.reduceAdd, Nat.reduceSub, Array.replicate_succ, Array.replicate_zero, List.push_toArray, List.append_toArray, List.nil_append, List.cons_append]
  by_cases n1 : A.n < 1
  · have HR0 := HR.out
    rw [if_pos (.inl n1)] at HR0
    have HR := hide HR0
    clear HR0
    have d1 : decide (A.n < 1) = true := by simp [n1]
    go_wp2_with fail
    exact leave_plain_cell rfl rfl rfl (n := 2) (by simp [go_sem]) ⟨ret_int HR.out, (((Ext.refl w).alloc _).alloc _)⟩
  by_cases n2 : 5 < A.n
  · have HR0 := HR.out
    rw [if_pos (.inr n2)] at HR0
    have HR := hide HR0
    clear HR0
    have d1 : decide (A.n < 1) = false := by simp [n1]
    have d2 : decide (5 < A.n) = true := by simp [n2]
    go_wp2_with fail
    exact leave_plain_cell rfl rfl rfl (n := 2) (by simp [go_sem]) ⟨ret_int HR.out, (((Ext.refl w).alloc _).alloc _)⟩
  have HR0 := HR.out
  rw [if_neg (by omega)] at HR0
  have HR := hide HR0
  clear HR0
  have d1 : decide (A.n < 1) = false := by simp [n1]
  have d2 : decide (5 < A.n) = false := by simp [n2]
  go_wp2_with fail
  obtain ⟨w1, hw1⟩ : ∃ w1, ((w.alloc (.cells #[.int .i64 A.n, .slice p A.L c] 29)).alloc (.cells #[.int .i64 0] 30)) = w1 := ⟨_, rfl⟩
  have hE1 : Ext w w1 := by rw [← hw1]; exact (((Ext.refl w).alloc _).alloc _)
  have hB1 : Box w1 (w.heap.size + 1) 30 (.int .i64 0) := by
    rw [← hw1]; have := Box.new (w.alloc (.cells #[.int .i64 A.n, .slice p A.L c] 29)) 30 (.int .i64 0); rwa [World.size_alloc] at this
  have ha0 : w1.cell? ⟨w.heap.size, 0, none⟩ = some (.int .i64 A.n) := by rw [← hw1]; simp [go_sem]
  have ha1 : w1.cell? ⟨w.heap.size, 1, none⟩ = some (.slice p A.L c) := by rw [← hw1]; simp [go_sem]
  have hz1 : w1.heap.size = w.heap.size + 2 := by rw [← hw1]; simp
  rw [hw1]
  clear hw1
  have hl1 : w.heap.size < w1.heap.size := by omega
  have hl2 : w.heap.size + 1 < w1.heap.size := by omega
  generalize hsz : (if A.L < 1 ∨ 256 < A.L ∨ 4096 < movesN A then (5 : Int) else 0) = sz at HSZ
  refine (HSZ.out _ hE1).mono ?_
  rintro e w2 ⟨rfl, hE2⟩
  have hB2 : Box w2 (w.heap.size + 1) 30 (.int .i64 0) := (hE2.b.block _ hl2).trans hB1
  have ha02 : w2.cell? ⟨w.heap.size, 0, none⟩ = some (.int .i64 A.n) := (hE2.cell hl1).trans ha0
  have ha12 : w2.cell? ⟨w.heap.size, 1, none⟩ = some (.slice p A.L c) := (hE2.cell hl1).trans ha1
  have hE2w := hE1.trans hE2
  have hl12 : w.heap.size < w2.heap.size := by have := hE2.size; omega
  have hl22 : w.heap.size + 1 < w2.heap.size := by have := hE2.size; omega
  clear hE1 hE2 hB1 ha0 ha1 hz1 hl1 hl2
  have hfz := hB2.frozen
  have hcz := hB2.cell
  by_cases c1 : A.L < 1 ∨ 256 < A.L ∨ 4096 < movesN A
  · rw [if_pos c1] at hsz
    subst hsz
    have HR0 := HR.out
    rw [if_pos c1] at HR0
    have HR := hide HR0
    clear HR0 c1
    go_wp2_with fail
    exact leave_plain_cell rfl rfl rfl (n := 5) hB2.set.cell ⟨ret_int HR.out, hE2w.setCell (by simp) _⟩
  rw [if_neg c1] at hsz
  subst hsz
  have HR0 := HR.out
  rw [if_neg c1] at HR0
  have HR := hide HR0
  clear HR0
  have hLb : 1 ≤ A.L ∧ A.L ≤ 256 := by omega
  clear c1
  have HBAD : Hid (∀ i, i < A.L → (∀ j, j < i → stErr A j = 0) → stErr A i ≠ 0 → stErr A i = res) := fun i hi h1 h2 => by
    have h3 := firstErr_at hi h1 h2
    have h4 := HR.out
    rw [if_neg (by rw [h3]; exact h2), h3] at h4
    exact h4
  have HGOOD : Hid ((∀ j, j < A.L → stErr A j = 0) → (if growsB A = true then (0 : Int) else 21) = res) := fun h => by
    have h4 := HR.out
    rw [if_pos (firstErr_end h)] at h4
    exact h4
  clear HR
  obtain ⟨f, hf⟩ : ∃ f, stErr A = f := ⟨_, rfl⟩
  have HST2 : Hid (∀ (W : World), Ext w W → ∀ (u : Value) (s : Nat), Row Mv.cells 8 w u (A.st.getD s []) → Calls Try.prog 76 #[.agg #[.int .i64 A.n, .slice p A.L c], u] W fun e w' => e = .returned (.int .i64 (f s)) ∧ Ext W w') := by
    rw [← hf]; exact HST.out
  clear HST
  have HF := hide hf
  rw [hf] at HBAD HGOOD
  clear hf
  go_wp2_with fail
  go_loopw [27] (fun x wr => ∃ s : Nat, s ≤ A.L ∧ x = .int .i64 s ∧ (∀ j, j < s → f j = 0) ∧ Ext w2 wr) (fun x _ => A.L - (intOf x).toNat)
  case atStart => exact ⟨0, by omega, rfl, fun j hj => by omega, Ext.refl _⟩
  case round =>
    obtain ⟨s, hs, rfl, hz, hE⟩ := hrel
    have HZ := hide hz
    clear hz
    have hEw := hE2w.trans hE
    have ha0 : wr.cell? ⟨w.heap.size, 0, none⟩ = some (.int .i64 A.n) := (hE.cell hl12).trans ha02
    have ha1 : wr.cell? ⟨w.heap.size, 1, none⟩ = some (.slice p A.L c) := (hE.cell hl12).trans ha12
    have hl1 : w.heap.size < wr.heap.size := by have := hE.size; omega
    have hl2 : w.heap.size + 1 < wr.heap.size := by have := hE.size; omega
    have hB : Box wr (w.heap.size + 1) 30 (.int .i64 0) := (hE.b.block _ hl22).trans hB2
    by_cases hlt : s < A.L
    · obtain ⟨b, o, rfl, hb, hat⟩ := HAT.out (by omega)
      obtain ⟨q, d, hcl, hld, hml, hrow, _⟩ := hat s hlt
      clear hat
      go_wp2_with fail
      refine (HST2.out _ hEw _ s hrow).mono ?_
      rintro e w4 ⟨rfl, hE4⟩
      have hE4w := hEw.trans hE4
      have hB4 : Box w4 (w.heap.size + 1) 30 (.int .i64 0) := (hE4.b.block _ hl2).trans hB
      have hf4 := hB4.frozen
      have hc4 := hB4.cell
      by_cases hfs : f s = 0
      · have hd : (f s != 0) = false := by simp [hfs]
        have HFS := hide hfs
        clear hfs
        go_wp2_with fail
        refine ⟨⟨s + 1, by omega, by simp, fun j hj => ?_, hE.trans hE4⟩, by simp [intOf]; try omega⟩
        rcases Nat.lt_or_ge j s with h7 | h7
        · exact HZ.out j h7
        · obtain rfl : j = s := by omega
          exact HFS.out
      · have hd : (f s != 0) = true := by simp [hfs]
        have HR := hide (HBAD.out s hlt HZ.out hfs)
        clear hfs
        go_wp2_with fail
        exact leave_plain_cell rfl rfl rfl (n := f s) hB4.set.cell ⟨ret_int HR.out, hE4w.setCell (by simp) _⟩
    · obtain rfl : s = A.L := by omega
      go_wp2_with fail
      have hzero : ∀ j, j < A.L → stErr A j = 0 := by rw [HF.out]; exact HZ.out
      have HS := hide (sound_of hzero)
      have HSM := hide (small_of hzero)
      clear hzero
      obtain ⟨w3, hw3⟩ : ∃ w3, wr.alloc (.cells #[.int .i64 A.n, .slice p A.L c] 29) = w3 := ⟨_, rfl⟩
      have hE3 : Ext w w3 := by rw [← hw3]; exact hEw.alloc _
      have hB3 : Box w3 (w.heap.size + 1) 30 (.int .i64 0) := by rw [← hw3]; exact hB.alloc _
      have hS3 : w3.cell? ⟨w.heap.size, 1, none⟩ = some (.slice p A.L c) := by rw [← hw3]; simp [go_sem, hl1, ha1]
      have hT3 : w3.cell? ⟨wr.heap.size, 1, none⟩ = some (.slice p A.L c) := by rw [← hw3]; simp [go_sem]
      have hZ3 : w3.heap.size = wr.heap.size + 1 := by rw [← hw3]; simp
      refine (moves_any A.n _ _ p A.L c rfl).mono ?_
      rintro e W ⟨rfl, hW⟩
      rw [hw3] at hW
      subst hW
      clear hw3
      go_wp2_with fail
      refine wp_range rfl (fun _ _ => rfl) (moves_seq A (.slice p A.L c) w wr.heap.size HA.out) (moveSeq_two A)
        (fun i V => Ext w V ∧ Box V (w.heap.size + 1) 30 (.int .i64 0) ∧ V.cell? ⟨w.heap.size, 1, none⟩ = some (.slice p A.L c) ∧ V.cell? ⟨wr.heap.size, 1, none⟩ = some (.slice p A.L c) ∧
          ∀ s j, s < A.L → j < A.len s → A.pre s j < i → growAt A s j)
        (fun c V => c = .ret ∧ Ext w V ∧ Box V (w.heap.size + 1) 30 (.int .i64 21) ∧ growsB A = false) ?_ ?_ ?_ ?_ ?_ ?_ ?_
      · rintro i V ⟨h1, _, _, h4, _⟩; exact ⟨h1, h4⟩
      · rintro i V V' ⟨h1, h2, h3, h4, h5⟩ hC; exact ⟨h1.chg hC (by omega), h2.chg hC, cell_chg hC h3, cell_chg hC h4, h5⟩
      · rintro c V V' ⟨h0, h1, h2, h3⟩ hC; exact ⟨h0, h1.chg hC (by omega), h2.chg hC, h3⟩
      · exact ⟨hE3, hB3, hS3, hT3, fun s j h1 h2 h3 => by omega⟩
      · rintro l i x V hx ⟨h1, h2, h3, h4, h5⟩ hl hlV
        have H5 := hide h5
        clear h5
        obtain ⟨s, j, hs, hj, hi, rfl⟩ := moveSeq_inv A hx
        clear hx
        have HI := hide hi
        clear hi
        obtain ⟨ht0, ht1, hf0, hf1⟩ := HS.out s hs j hj
        obtain ⟨_, hm32⟩ := HSM.out s j hs hj
        have HFB : Hid (∀ k, k < A.len (A.mv s j).to.toNat → inside (A.mv s j).r.f (A.mv (A.mv s j).to.toNat k).r.f = false → growsB A = false) := fun k h3 h4 => all3_false (L := A.L) (M := A.len) (K := fun s i => A.len (A.mv s i).to.toNat) (P := fun s i k => inside (A.mv s i).r.f (A.mv (A.mv s i).to.toNat k).r.f) hs hj h3 h4
        have HN : Hid ((∀ k, k < A.len (A.mv s j).to.toNat → inside (A.mv s j).r.f (A.mv (A.mv s j).to.toNat k).r.f = true) → ∀ s' j', s' < A.L → j' < A.len s' → A.pre s' j' < i + 1 → growAt A s' j') := fun h s' j' h1 h2 h3 => by
          rcases Nat.lt_or_ge (A.pre s' j') i with h4 | h4
          · exact H5.out s' j' h1 h2 h4
          · obtain ⟨rfl, rfl⟩ := pre_inj h1 h2 hs hj (show A.pre s' j' = A.pre s j by rw [← HI.out]; omega)
            exact h
        clear H5 HI
        generalize A.mv s j = m at ht0 ht1 hf0 hf1 hm32 HFB HN ⊢
        obtain ⟨⟨⟨n1, a1, b1, c1, d1', e1⟩, f1⟩, t1⟩ := m
        dsimp only at ht0 ht1
        obtain ⟨t, rfl⟩ := Int.eq_ofNat_of_zero_le ht0
        dsimp only at hf0 hf1 hm32 HFB HN
        rw [Int.toNat_natCast] at HFB HN
        dsimp only [Mv.v]
        gi_wp2_with fail
        obtain ⟨b, o, rfl, hb, hat⟩ := HAT.out (by omega)
        obtain ⟨q, d, hcl, hld, hml, _, hmv⟩ := hat t (by omega)
        clear hat
        have HMV := hide hmv
        clear hmv
        refine ⟨KF.of_ext ((Ext.refl _).alloc _), fun W2 hC => ?_⟩
        have hm := hC.cells _ _ _ _ (heap_alloc_new V (.cells #[.int .i64 n1, .int .i64 a1, .int .i64 b1, .int .i64 c1, .int .i64 d1', .int .i64 e1, .int .i64 f1, .int .i64 t] 97))
        have h1' := (h1.alloc (.cells #[.int .i64 n1, .int .i64 a1, .int .i64 b1, .int .i64 c1, .int .i64 d1', .int .i64 e1, .int .i64 f1, .int .i64 t] 97)).chg hC (by omega)
        have h2' := (h2.alloc (.cells #[.int .i64 n1, .int .i64 a1, .int .i64 b1, .int .i64 c1, .int .i64 d1', .int .i64 e1, .int .i64 f1, .int .i64 t] 97)).chg hC
        have hl1V : w.heap.size < V.heap.size := by have := h2.lt; omega
        have hl2V : wr.heap.size < V.heap.size := by have := hZ3; omega
        have h3' := cell_chg hC (show (V.alloc (.cells #[.int .i64 n1, .int .i64 a1, .int .i64 b1, .int .i64 c1, .int .i64 d1', .int .i64 e1, .int .i64 f1, .int .i64 t] 97)).cell? ⟨w.heap.size, 1, none⟩ = some (.slice (some ⟨b, o, none⟩) A.L c) by simp [go_sem, hl1V, h3])
        have h4' := cell_chg hC (show (V.alloc (.cells #[.int .i64 n1, .int .i64 a1, .int .i64 b1, .int .i64 c1, .int .i64 d1', .int .i64 e1, .int .i64 f1, .int .i64 t] 97)).cell? ⟨wr.heap.size, 1, none⟩ = some (.slice (some ⟨b, o, none⟩) A.L c) by simp [go_sem, hl2V, h4])
        have hmz : V.heap.size < W2.heap.size := lt_of_heap hm
        have hm6 : ∀ W, Ext W2 W → W.cell? ⟨V.heap.size, 6, none⟩ = some (.int .i64 f1) := fun W hE => by rw [hE.cell hmz, cell_of_row _ _ _ _ _ _ hm]; rfl
        have hm7 : W2.cell? ⟨V.heap.size, 7, none⟩ = some (.int .i64 t) := by rw [cell_of_row _ _ _ _ _ _ hm]; rfl
        clear h1 h2 h3 h4 hm
        have hBz := h2'.lt
        gi_wp2_with fail
        obtain ⟨wo, rfl⟩ : ∃ wo : World, wo = wr := ⟨_, rfl⟩
        gi_loopw [49] (fun x wr => ∃ k : Nat, k ≤ A.len t ∧ x = .int .i64 k ∧ (∀ k', k' < k → inside f1 (A.mv t k').r.f = true) ∧ Ext W2 wr) (fun x _ => A.len t - (intOf x).toNat)
        case atStart => exact ⟨0, by omega, rfl, fun k hk => by omega, Ext.refl _⟩
        case round =>
          obtain ⟨k, hk, rfl, hin, hEk⟩ := hrel
          have HIN := hide hin
          clear hin
          have h1k := h1'.trans hEk
          have hBk : Box wr (w.heap.size + 1) 30 (.int .i64 0) := (hEk.b.block _ hBz).trans h2'
          have hfk := hBk.frozen
          have hzk := hBk.lt
          have hzV : V.heap.size < wr.heap.size := by have := hEk.size; omega
          have hck := hBk.cell
          by_cases hkl : k < A.len t
          · obtain ⟨b2, o2, rfl, hb2, hmv⟩ := HMV.out (by omega)
            obtain ⟨x0, x1, x2, x3, x4, x5, x6, x7⟩ := hmv k hkl
            clear hmv
            obtain ⟨hg0, hg1⟩ := HSM.out t k (by omega) hkl
            have HFB2 := hide (HFB.out k hkl)
            have HIN2 : Hid (inside f1 (A.mv t k).r.f = true → ∀ k', k' < k + 1 → inside f1 (A.mv t k').r.f = true) := fun h k' hk' => by
              rcases Nat.lt_or_ge k' k with h7 | h7
              · exact HIN.out k' h7
              · obtain rfl : k' = k := by omega
                exact h
            generalize A.mv t k = m2 at x0 x1 x2 x3 x4 x5 x6 x7 hg0 hg1 HFB2 HIN2
            obtain ⟨⟨⟨n2, a2, b2', c2, d2', e2⟩, f2⟩, t2⟩ := m2
            dsimp only at x0 x1 x2 x3 x4 x5 x6 x7 hg0 hg1 HFB2 HIN2
            have hand := andnot_inside hf0 hm32 hg0 hg1
            by_cases hins : inside f1 f2 = true
            · have HIN3 := hide (HIN2.out hins)
              rw [hins] at hand
              clear hins HIN2 HFB2
              gi_wp2_with fail
              exact ⟨⟨k + 1, by omega, by simp, HIN3.out, hEk.alloc _⟩, by simp [intOf]; try omega⟩
            · rw [Bool.not_eq_true] at hins
              have HG := hide (HFB2.out hins)
              rw [hins] at hand
              clear hins HIN2 HFB2
              gi_wp2_with fail
              refine ⟨(KF.of_ext hEk).trans ((KF.setCell _ _ _).trans (KF.of_ext ((Ext.refl _).alloc _))), rfl, (h1k.setCell (by simp) _).alloc _, hBk.set.alloc _, HG.out⟩
          · obtain rfl : k = A.len t := by omega
            have h3k : wr.cell? ⟨w.heap.size, 1, none⟩ = some (.slice (some ⟨b, o, none⟩) A.L c) := (hEk.cell (by simp; omega)).trans h3'
            have h4k : wr.cell? ⟨wo.heap.size, 1, none⟩ = some (.slice (some ⟨b, o, none⟩) A.L c) := (hEk.cell (by simp; omega)).trans h4'
            gi_wp2_with fail
            exact ⟨KF.of_ext hEk, h1k, hBk, h3k, h4k, HN.out HIN.out⟩
      · rintro M V ⟨h1, h2, h3, h4, h5⟩ hMl hM
        have hg : growsB A = true := all3_true (L := A.L) (M := A.len) (K := fun s i => A.len (A.mv s i).to.toNat) (P := fun s i k => inside (A.mv s i).r.f (A.mv (A.mv s i).to.toNat k).r.f)
          (fun s hs i hi k hk => h5 s i hs hi (by rw [moveSeq_len]; have := pre_step A hi (s' := A.L) (j' := 0) hs; exact this) k hk)
        have hr := HGOOD.out HZ.out
        rw [if_pos hg] at hr
        have HR := hide hr
        clear hg hr h5
        have hf := h2.frozen
        have hc := h2.cell
        go_wp2_with fail
        refine leave_mark rfl (M := M) ?_ (results_cell1 rfl _ _ _ rfl (errno_load _ 0 _ (cell_putObj (o := .deferred (some [])) ?_ rfl _ h2.set.cell))) ⟨ret_int HR.out, (h1.setCell (by simp) _).putObj (by omega) _⟩
        · rw [Below.heap_setCell _ _ _ _ (by show M ≠ w.heap.size + 1; omega)]; exact hM
        · rw [Below.heap_setCell _ _ _ _ (by show M ≠ w.heap.size + 1; omega)]; exact hM
      · rintro M c V ⟨rfl, h1, h2, h3⟩ hMl hM
        have hr := HGOOD.out HZ.out
        rw [if_neg (by rw [h3]; decide)] at hr
        have HR := hide hr
        clear hr h3
        go_wp2_with fail
        exact leave_mark rfl hM (results_cell1 rfl _ _ _ rfl (errno_load _ 21 _ (cell_putObj hM rfl _ h2.cell))) ⟨ret_int HR.out, h1.putObj (by omega) _⟩
end Go.Proofs.Ytnhgdjiljjpgmaa
