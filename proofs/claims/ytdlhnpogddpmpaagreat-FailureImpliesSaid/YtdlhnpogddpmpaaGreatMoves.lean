/-
  The iterator over the moves of an adversary (adversary.moves).
  Conditions: as each theorem states.
-/
import Derived.Test.YtdlhnpogddpmpaaGreatAdvRef3
import Derived.Test.YtdlhnpogddpmpaaGreatOwned
namespace Go.Proofs.YtdlhnpogddpmpaaGreat
open Go.RowKit
attribute [local go_sem] Oper.semAt_some

def Adv.pre (A : Adv) (s i : Nat) : Nat := ((List.range s).map A.len).sum + i
/-- What the iterator yields: each move, with its state. -/
def moveSeq (A : Adv) : List (Array Value) := (List.range A.L).flatMap fun s => (List.range (A.len s)).map fun i => #[.int .i64 s, (A.mv s i).v]
theorem pre_zero (A : Adv) : A.pre 0 0 = 0 := rfl
theorem pre_next (A : Adv) (s : Nat) : A.pre s (A.len s) = A.pre (s + 1) 0 := by
  unfold Adv.pre; rw [List.range_succ, List.map_append, List.sum_append]; simp
theorem flatMap_len {α : Type} (f : Nat → List α) (n : Nat) : ((List.range n).flatMap f).length = ((List.range n).map fun s => (f s).length).sum := by
  induction n with
  | zero => rfl
  | succ n ih => rw [List.range_succ, List.flatMap_append, List.length_append, ih, List.map_append, List.sum_append]; simp
theorem moveSeq_len (A : Adv) : (moveSeq A).length = A.pre A.L 0 := by
  unfold moveSeq Adv.pre
  rw [flatMap_len]
  simp
theorem moveSeq_at (A : Adv) {s i : Nat} (hs : s < A.L) (hi : i < A.len s) : (moveSeq A)[A.pre s i]? = some #[.int .i64 s, (A.mv s i).v] := by
  unfold moveSeq
  obtain ⟨d, hd⟩ := Nat.exists_eq_add_of_lt hs
  have key : ∀ n, s < n → ((List.range n).flatMap fun s => (List.range (A.len s)).map fun i => #[Value.int .i64 s, (A.mv s i).v])[A.pre s i]? = some #[.int .i64 s, (A.mv s i).v] := by
    intro n
    induction n with
    | zero => intro h; omega
    | succ n ih =>
      intro h
      have hlen : ((List.range n).flatMap fun s => (List.range (A.len s)).map fun i => #[Value.int .i64 s, (A.mv s i).v]).length = A.pre n 0 := by
        rw [flatMap_len]; unfold Adv.pre; simp
      rw [List.range_succ, List.flatMap_append]
      by_cases e : s = n
      · subst e
        have : A.pre s i = A.pre s 0 + i := rfl
        rw [List.getElem?_append_right (by omega), hlen, this, Nat.add_sub_cancel_left]
        simp [List.getElem?_map, List.getElem?_range hi]
      · have h1 := ih (by omega)
        rw [List.getElem?_append_left (by rcases Nat.lt_or_ge (A.pre s i) ((List.range n).flatMap fun s => (List.range (A.len s)).map fun i => #[Value.int .i64 s, (A.mv s i).v]).length with h2 | h2; exact h2; rw [List.getElem?_eq_none h2] at h1; cases h1)]
        exact h1
  exact key A.L hs

theorem moves_any (n : Int) (s : Value) (w : World) (p : Option Addr) (m c : Nat) (hs : s = .slice p m c) : Calls Tryz.prog 50 #[.agg #[.int .i64 n, s]] w fun e w' =>
    e = .returned (.func (.func 71) #[] #[.pointer (some ⟨w.heap.size, 0, none⟩)]) ∧ w' = w.alloc (.cells #[.int .i64 n, s] 26) := by
  subst hs
  go_enter Tryz.func50, Tryz.ntmps50
  go_wp2
  go_ret
  exact ⟨rfl, rfl⟩

set_option maxHeartbeats 2000000 in
theorem moves_seq (A : Adv) (s : Value) (w0 : World) (g : Nat) (hA : AdvRep w0 (.agg #[.int .i64 A.n, s]) A) :
    Seq Tryz.prog 71 #[.pointer (some ⟨g, 0, none⟩)] (fun W => Ext w0 W ∧ W.cell? ⟨g, 1, none⟩ = some s) (moveSeq A) := by
  intro l J Jx W hD hJ hJx hY h0
  obtain ⟨p, c, hv, hc, hl, hat⟩ := hA.all_
  injection hv with hv
  injection hv with hv
  injection hv with _ hv
  injection hv with hv _
  subst hv
  clear hA
  have HAT := hide hat
  have HD := hide hD
  have HJ := hide hJ
  have HJX := hide hJx
  have HY := hide hY
  have HLEN := hide (moveSeq_len A)
  clear hat hD hJ hJx hY
  have H0 := hide h0
  obtain ⟨hE0, hb0⟩ := HD.out _ _ h0
  clear h0
  refine callsIn_of_wp Tryz.func71 rfl trivial ?_ rfl
  simp only [Tryz.ntmps71, List.size_toArray, List.length_cons, List.length_nil, Nat.reduceAdd, Nat.reduceSub, Array.replicate_succ, Array.replicate_zero, List.push_toArray, List.append_toArray, List.nil_append, List.cons_append]
  gi_wp2
  gi_loopw [10] (fun x wr => ∃ s : Nat, s ≤ A.L ∧ x = .int .i64 s ∧ J (A.pre s 0) wr) (fun x _ => A.L - (intOf x).toNat)
  case atStart => exact ⟨0, by omega, rfl, H0.out⟩
  case round =>
    obtain ⟨s, hs, rfl, hj⟩ := hrel
    obtain ⟨hE, hb⟩ := HD.out _ _ hj
    have HJ1 := hide hj
    clear hj
    by_cases hlt : s < A.L
    · obtain ⟨b, o, rfl, hb2, hat⟩ := HAT.out (by omega)
      obtain ⟨q, d, hcl, hld, hml, _, hmv⟩ := hat s hlt
      clear hat
      have HMV := hide hmv
      clear hmv
      gi_wp2_with fail
      gi_loopw [17] (fun x wr => ∃ i : Nat, i ≤ A.len s ∧ x = .int .i64 i ∧ J (A.pre s i) wr) (fun x _ => A.len s - (intOf x).toNat)
      case atStart => exact ⟨0, by omega, rfl, HJ1.out⟩
      case round =>
        clear HJ1
        obtain ⟨i, hi, rfl, hj⟩ := hrel
        obtain ⟨hE2, hb2⟩ := HD.out _ _ hj
        have HJ2 := hide hj
        clear hj
        by_cases hil : i < A.len s
        · obtain ⟨b2, o2, hq, hbb, hm⟩ := HMV.out (by omega)
          obtain ⟨m1, m2, m3, m4, m5, m6, m7, m8⟩ := hm i hil
          clear hm
          subst hq
          have hj2 := HJ.out _ _ (wr.alloc (.cells #[.int .i64 (A.mv s i).r.g.n, .int .i64 (A.mv s i).r.g.h0, .int .i64 (A.mv s i).r.g.h1, .int .i64 (A.mv s i).r.g.h2, .int .i64 (A.mv s i).r.g.h3, .int .i64 (A.mv s i).r.g.h4, .int .i64 (A.mv s i).r.f, .int .i64 (A.mv s i).to] 56)) HJ2.out ((Ext.refl wr).alloc _)
          obtain ⟨fn, tmps, assign, body, hy, hR⟩ := HY.out (A.pre s i) _ _ (moveSeq_at A hlt hil) hj2
          replace hy : (Instr.yield l #[.int .i64 s, .agg #[.int .i64 (A.mv s i).r.g.n, .int .i64 (A.mv s i).r.g.h0, .int .i64 (A.mv s i).r.g.h1, .int .i64 (A.mv s i).r.g.h2, .int .i64 (A.mv s i).r.g.h3, .int .i64 (A.mv s i).r.g.h4, .int .i64 (A.mv s i).r.f, .int .i64 (A.mv s i).to]]).run Tryz.prog _ = _ := hy
          have HR := hide hR
          clear hR hj2
          gi_wp2_with fail
          refine ⟨rfl, HR.out.mono ?_⟩
          rintro e W' (⟨rfl, hJ'⟩ | ⟨rfl, hJx'⟩)
          · have HJ3 := hide hJ'
            clear hJ' HR
            gi_wp2_with fail
            exact ⟨⟨i + 1, by omega, by simp, HJ3.out⟩, by simp [intOf]; omega⟩
          · have HJ3 := hide hJx'
            clear hJx' HR
            gi_wp2_with fail
            exact bodyPost_ret (results_none rfl _ _ _) rfl ⟨⟨_, rfl⟩, .inr HJ3.out⟩
        · gi_wp2_with fail
          have hil2 : i = A.len s := by omega
          subst hil2
          exact ⟨⟨s + 1, by omega, rfl, by have := HJ2.out; rwa [pre_next] at this⟩, by simp [intOf]; omega⟩
    · gi_wp2_with fail
      have hs2 : s = A.L := by omega
      subst hs2
      exact bodyPost_end (results_none rfl _ _ _) rfl ⟨⟨_, rfl⟩, .inl (by rw [HLEN.out]; exact HJ1.out)⟩
end Go.Proofs.YtdlhnpogddpmpaaGreat
