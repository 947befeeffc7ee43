/-
  The program's Words.
  Conditions: as each theorem states.
-/
import Derived.Test.YtmkmgimmlohamaaWordsP
import Derived.Laws.MakeOwn
import Derived.Laws.EntriesVeiled
namespace Go.Proofs.Ytmkmgimmlohamaa
open Go.RowKit
attribute [local go_sem] Oper.semAt_some

theorem run_make_rowN {P : Program} (t e : TypeId) (i : TypeInfo) (z : Value) (ht : P.underlying t = some (.slice e)) (hi : P.info? e = some i) (hz : i.zero = some z)
    (kl kc : IntKind) (n c : Nat) (hnc : n ≤ c) (hbytes : i.bytes * c ≤ 281474976710656) (h63 : c ≤ 9223372036854775807) (w : World) :
    (Instr.makeSlice t (.int kl (n : Int)) (.int kc (c : Int))).run P w = .ok (.slice (some ⟨w.heap.size, 0, none⟩) n c) (w.alloc (.cells (madeCells z.cells (c * i.size)) e)) := by
  have hb : (i.bytes : Int) * (c : Int) ≤ 281474976710656 := by
    have h : ((i.bytes * c : Nat) : Int) ≤ 281474976710656 := by omega
    rwa [Int.natCast_mul] at h
  have hr := run_make (P := P) w t e i z ht hi hz kl kc n c (by omega) (by omega) hb (by omega)
  simp only [Int.toNat_natCast] at hr
  exact hr
theorem run_make_zero {P : Program} (t e : TypeId) (z : Value) (size bytes : Nat) (ht : P.underlying t = some (.slice e)) (hi : (P.info? e).map (fun i => (i.zero, i.size, i.bytes)) = some (some z, size, bytes))
    (c : Nat) (hbytes : bytes * c ≤ 281474976710656) (h63 : c ≤ 9223372036854775807) (w : World) :
    (Instr.makeSlice t (.int .i64 0) (.int .i64 (c : Int))).run P w = .ok (.slice (some ⟨w.heap.size, 0, none⟩) 0 c) (w.alloc (.cells (madeCells z.cells (c * size)) e)) := by
  cases hq : P.info? e with
  | none => rw [hq] at hi; cases hi
  | some i =>
    rw [hq] at hi
    simp only [Option.map_some, Option.some.injEq, Prod.mk.injEq] at hi
    obtain ⟨hz, rfl, rfl⟩ := hi
    exact run_make_rowN t e i z ht hq hz .i64 .i64 0 c (Nat.zero_le _) hbytes h63 w

set_option maxRecDepth 8000 in
set_option maxHeartbeats 4000000 in
theorem pwords_any (A : Adv) (v : Value) (k : Int) (w : World) (hA : AdvRep w v A) (hM : movesN A ≤ 4611686018427387904) :
    Calls Try.prog 29 #[v, .int .i64 k] w (RetV2 (fun u w' => Coll 27 43 Rd.cells 7 w' w.heap.size u (wordsS A k).1) (wordsS A k).2 w) := by
  have HC := hide (fun W (hE : Ext w W) => counted_any A v k 4096 W (hA.ext hE) hM (by decide) (by decide))
  have HA := hide hA
  obtain ⟨p, c, rfl, hc, hl, hat⟩ := hA.all_
  clear hA hat
  have hE0 : Ext w ((w.alloc (.cells #[.int .i64 A.n, .slice p A.L c] 24)).alloc (.cells #[.int .i64 k] 3)) := ((Ext.refl w).alloc _).alloc _
  by_cases hok : achk A = 0 ∧ rdsErr k = 0 ∧ ¬ 4096 < cnt A 4096 k.toNat 0
  · obtain ⟨h1, h2, h3⟩ := hok
    have hr := rdsErr_zero h2
    obtain ⟨K, rfl⟩ := Int.eq_ofNat_of_zero_le hr.1
    have hws : wordsS A K = (fromS A K 0, 0) := by unfold wordsS; rw [if_pos h1, if_pos h2, if_neg h3]; rfl
    have hcs : countS A K 4096 = (cnt A 4096 K 0, 0) := by unfold countS; rw [if_pos h1, if_pos h2, if_neg h3]; rfl
    rw [Int.toNat_natCast] at h3
    rw [hws]
    rw [hcs] at HC
    have hcl := cnt_len A (lim := 4096) (by decide) K 0
    have hlen : (fromS A K 0).length ≤ 4096 := by omega
    have hL := (achk_zero h1).2.2.1
    have hcr := cnt_range (A := A) (lim := 4096) (by decide) K 0
    have hK6 : K ≤ 6 := by omega
    have HLEN := hide hlen
    have H1 := hide h1
    clear h2 hws hcs hcl hlen h1 hr
    obtain ⟨n, hn⟩ := Int.eq_ofNat_of_zero_le hcr.1
    rw [hn] at HC h3
    have hn4 : n ≤ 4096 := by omega
    clear hn hcr h3
    have hmk := fun W => run_make_zero (P := Try.prog) 61 27 (.slice none 0 0) 1 24 Try.underlying61 rslice_info n (by omega) (by omega) W
    have hmk2 := fun W => run_make_zero (P := Try.prog) 27 43 (Rd.v default) 7 56 Try.underlying27 round_info K (by omega) (by omega) W
    dsimp only at HC
    go_enter Try.func29, Try.ntmps29
    go_wp2_with fail
    refine (HC.out _ hE0).mono ?_
    rintro e w1 ⟨rfl, hE⟩
    have hz0 : w.heap.size + 2 ≤ w1.heap.size := by have := hE.size; simp at this; omega
    have hw10 : w1.heap[w.heap.size]? = some (.cells #[.int .i64 A.n, .slice p A.L c] 24 (0, 0)) := by
      rw [hE.b.block _ (by simp; omega), Below.heap_alloc _ _ _ (by simp)]; exact heap_alloc_new _ _
    have hw11 : Box w1 (w.heap.size + 1) 3 (.int .i64 K) := by
      have := Box.new (w.alloc (.cells #[.int .i64 A.n, .slice p A.L c] 24)) 3 (.int .i64 K)
      rw [World.size_alloc] at this
      exact (hE.b.block _ (by simp)).trans this
    have hEw := hE0.trans hE
    clear hE
    have hb1c := hw11.cell
    go_wp2_with fail
    simp only [Nat.add_assoc, Nat.reduceAdd]
    obtain ⟨W2, hW2⟩ : ∃ W2, ((w1.alloc (.cells (madeCells #[.slice none 0 0] n) 27)).alloc (.cells #[.slice (some ⟨w1.heap.size, 0, none⟩) 0 n] 61)).alloc (.cells #[(.func (.func 51) #[] #[.pointer (some ⟨w.heap.size + 1, 0, none⟩), .pointer (some ⟨w1.heap.size + 1, 0, none⟩), .pointer (some ⟨w.heap.size, 0, none⟩), .pointer (some ⟨w1.heap.size + 2, 0, none⟩)])] 98) = W2 := ⟨_, rfl⟩
    have hE2 : Ext w1 W2 := by rw [← hW2]; exact (((Ext.refl w1).alloc _).alloc _).alloc _
    have hz2 : W2.heap.size = w1.heap.size + 3 := by rw [← hW2]; simp
    have hr2 : W2.heap[w1.heap.size]? = some (.cells (madeCells #[.slice none 0 0] n) 27 (0, 0)) := by
      rw [← hW2, Below.heap_alloc _ _ _ (by simp; omega), Below.heap_alloc _ _ _ (by simp)]; exact heap_alloc_new _ _
    have hbo2 : Box W2 (w1.heap.size + 1) 61 (.slice (some ⟨w1.heap.size, 0, none⟩) 0 n) := by
      rw [← hW2]
      have := Box.new (w1.alloc (.cells (madeCells #[.slice none 0 0] n) 27)) 61 (.slice (some ⟨w1.heap.size, 0, none⟩) 0 n)
      rw [World.size_alloc] at this
      exact this.alloc _
    have hbf2 : Box W2 (w1.heap.size + 2) 98 (.func (.func 51) #[] #[.pointer (some ⟨w.heap.size + 1, 0, none⟩), .pointer (some ⟨w1.heap.size + 1, 0, none⟩), .pointer (some ⟨w.heap.size, 0, none⟩), .pointer (some ⟨w1.heap.size + 2, 0, none⟩)]) := by
      rw [← hW2]
      have := Box.new ((w1.alloc (.cells (madeCells #[.slice none 0 0] n) 27)).alloc (.cells #[.slice (some ⟨w1.heap.size, 0, none⟩) 0 n] 61)) 98 (.func (.func 51) #[] #[.pointer (some ⟨w.heap.size + 1, 0, none⟩), .pointer (some ⟨w1.heap.size + 1, 0, none⟩), .pointer (some ⟨w.heap.size, 0, none⟩), .pointer (some ⟨w1.heap.size + 2, 0, none⟩)])
      rw [World.size_alloc, World.size_alloc] at this
      exact this
    rw [hW2]
    clear hW2
    have hEw2 := hEw.trans hE2
    have hw20 := (hE2.b.block _ (by omega)).trans hw10
    have hw21 : Box W2 (w.heap.size + 1) 3 (.int .i64 K) := (hE2.b.block _ (by omega)).trans hw11
    clear hw10 hw11 hb1c hE2
    refine wp_region_held 2 (fun V => V.cell? ⟨w1.heap.size + 2, 0, none⟩ = some (.func (.func 51) #[] #[.pointer (some ⟨w.heap.size + 1, 0, none⟩), .pointer (some ⟨w1.heap.size + 1, 0, none⟩), .pointer (some ⟨w.heap.size, 0, none⟩), .pointer (some ⟨w1.heap.size + 2, 0, none⟩)]) ∧ V.cell? ⟨w.heap.size + 1, 0, none⟩ = some (.int .i64 K)) (by kernel_rfl) (by kernel_rfl) ?_
    intro W3 hW3
    have HB3 : Hid (∀ k : Nat, W3.heap[k]? = W2.heap[k]?) := fun k => by rw [hW3]; rfl
    have hz3 : W3.heap.size = w1.heap.size + 3 := by rw [hW3]; exact hz2
    have hE3 : Ext w W3 := by rw [hW3]; exact hEw2.drew
    clear hW3
    have HS : Hid (∀ V : World, V.heap[w1.heap.size + 2]? = W3.heap[w1.heap.size + 2]? → V.heap[w.heap.size + 1]? = W3.heap[w.heap.size + 1]? → V.cell? ⟨w1.heap.size + 2, 0, none⟩ = some (.func (.func 51) #[] #[.pointer (some ⟨w.heap.size + 1, 0, none⟩), .pointer (some ⟨w1.heap.size + 1, 0, none⟩), .pointer (some ⟨w.heap.size, 0, none⟩), .pointer (some ⟨w1.heap.size + 2, 0, none⟩)]) ∧ V.cell? ⟨w.heap.size + 1, 0, none⟩ = some (.int .i64 K)) := fun V h1 h2 => by
      have e1 : Box V (w1.heap.size + 2) 98 (.func (.func 51) #[] #[.pointer (some ⟨w.heap.size + 1, 0, none⟩), .pointer (some ⟨w1.heap.size + 1, 0, none⟩), .pointer (some ⟨w.heap.size, 0, none⟩), .pointer (some ⟨w1.heap.size + 2, 0, none⟩)]) := (h1.trans (HB3.out _)).trans hbf2
      have e2 : Box V (w.heap.size + 1) 3 (.int .i64 K) := (h2.trans (HB3.out _)).trans hw21
      exact ⟨e1.cell, e2.cell⟩
    refine ⟨HS.out _ rfl rfl, ?_⟩
    simp only [List.take_succ_cons, List.take_zero, List.drop_succ_cons, List.drop_zero]
    refine wpHead_step (.func (.func 51) #[] #[.pointer (some ⟨w.heap.size + 1, 0, none⟩), .pointer (some ⟨w1.heap.size + 1, 0, none⟩), .pointer (some ⟨w.heap.size, 0, none⟩), .pointer (some ⟨w1.heap.size + 2, 0, none⟩)]) (by simp [Region.wanted]) (fun V ⟨hV, _⟩ => by go_simp) ?_
    refine wpHead_step (.int .i64 K) (by simp [Region.wanted]) (fun V ⟨_, hV⟩ => by go_simp) ?_
    simp only [Act.put, List.setIfInBounds_toArray, List.set_cons_zero, List.set_cons_succ]
    show wpTail _ _ _ _ _ _ _ _ _
    refine wpTail_keep (fun KK hKK => ?_)
    go_wp2_with fail
    have hz0' : w.heap.size + 1 < W3.heap.size := by omega
    refine ⟨rfl, hKK _ _ (HS.out _ (Below.heap_alloc _ _ _ (by omega)) (Below.heap_alloc _ _ _ hz0')) ?_⟩
    clear hKK KK
    obtain ⟨W4, hW4⟩ : ∃ W4, W3.alloc (.cells (madeCells #[.int .i64 (default : Rd).g.n, .int .i64 (default : Rd).g.h0, .int .i64 (default : Rd).g.h1, .int .i64 (default : Rd).g.h2, .int .i64 (default : Rd).g.h3, .int .i64 (default : Rd).g.h4, .int .i64 (default : Rd).f] (K * 7)) 43) = W4 := ⟨_, rfl⟩
    have hr4 : W4.heap[W3.heap.size]? = some (.cells (madeCells #[.int .i64 (default : Rd).g.n, .int .i64 (default : Rd).g.h0, .int .i64 (default : Rd).g.h1, .int .i64 (default : Rd).g.h2, .int .i64 (default : Rd).g.h3, .int .i64 (default : Rd).g.h4, .int .i64 (default : Rd).f] (K * 7)) 43 (0, 0)) := by rw [← hW4]; exact heap_alloc_new _ _
    have hE34 : Ext W3 W4 := by rw [← hW4]; exact (Ext.refl _).alloc _
    have hb4 : ∀ k, k < W3.heap.size → W4.heap[k]? = W2.heap[k]? := fun k hk => (hE34.b.block k hk).trans (HB3.out k)
    have hEw4 := hE3.trans hE34
    rw [hW4]
    rw [hz3] at hr4
    have hEnv : Env A w p c K (w1.heap.size + 3) (w1.heap.size + 1) (w1.heap.size + 2) w.heap.size (w.heap.size + 1) W4 :=
      ⟨hEw4, (hb4 _ (by omega)).trans hw20, (hb4 _ (by omega)).trans hw21, (hb4 _ (by omega)).trans hbf2, by omega⟩
    have hbo4 : Box W4 (w1.heap.size + 1) 61 (.slice (some ⟨w1.heap.size, 0, none⟩) 0 n) := (hb4 _ (by omega)).trans hbo2
    have hC4 : CollA (w1.heap.size + 3) W4 w.heap.size (.slice (some ⟨w1.heap.size, 0, none⟩) 0 n) ([] : List (List Rd)) :=
      ⟨[], rfl, ⟨fun _ => rfl, rfl, .inr ⟨w1.heap.size, n, madeCells #[.slice none 0 0] n, rfl, by omega, (hb4 _ (by omega)).trans hr2, Nat.zero_le _, by unfold maxLen; omega, by simp [made_rep], rfl⟩⟩, fun i v xs h => by simp at h⟩
    have hB4 : Buf W4 (w1.heap.size + 3) K [] := ⟨_, hr4, size_madeCells _ _, fun i x h => by simp at h⟩
    have hcall := wfrom_any A w p c K (w1.heap.size + 3) (w1.heap.size + 1) (w1.heap.size + 2) w.heap.size (w.heap.size + 1) HA.out H1.out (by omega) K 0 [] W4 _ [] (by simp) (by omega) hEnv hbo4 hC4 hB4 (by rw [List.length_nil, Nat.zero_add]; exact HLEN.out)
    have HCALL := hide hcall
    have HENV := hide hEnv
    clear hcall hEnv hbo4 hC4 hB4 hr4 hW4 hb4 hEw4 hE34 hw20 hw21 hbf2 hbo2 hr2 hEw hEw2
    refine wpTail_keep (fun KK hKK => ?_)
    go_wp2_with fail
    refine HCALL.out.mono ?_
    rintro e W5 ⟨rfl, ⟨u5, hbo5, hC5⟩, hB5, hF5, hE5⟩
    have hEnv5 := HENV.out.keep hE5 hF5
    have hS5 := (show W5.cell? ⟨w1.heap.size + 2, 0, none⟩ = some (.func (.func 51) #[] #[.pointer (some ⟨w.heap.size + 1, 0, none⟩), .pointer (some ⟨w1.heap.size + 1, 0, none⟩), .pointer (some ⟨w.heap.size, 0, none⟩), .pointer (some ⟨w1.heap.size + 2, 0, none⟩)]) ∧ W5.cell? ⟨w.heap.size + 1, 0, none⟩ = some (.int .i64 K) from ⟨hEnv5.xf.cell, hEnv5.x1.cell⟩)
    have hb5c := hbo5.cell
    obtain ⟨q5, n5, c5, rfl⟩ := hC5.slice
    have HC5 := hide hC5
    have HE5 := hide hE5
    have HS5 := hide hS5
    clear hbo5 hC5 hB5 hF5 hE5 hEnv5 hS5
    go_wp2_with fail
    refine ⟨rfl, hKK _ _ HS5.out ?_⟩
    clear hKK KK
    refine wpTail_nil ?_
    go_wp2_with fail
    go_ret2
    refine ⟨_, rfl, ?_, HE5.out⟩
    have h9 := HC5.out.coll
    rw [show [] ++ (fromS A K 0).map (([] : List Rd) ++ ·) = fromS A K 0 by simp] at h9
    exact h9
  · have hx : ∃ x : Int, countS A k 4096 = (0, x) ∧ wordsS A k = ([], x) ∧ x ≠ 0 := by
      unfold countS wordsS
      by_cases h1 : achk A = 0
      · by_cases h2 : rdsErr k = 0
        · rw [if_pos h1, if_pos h1, if_pos h2, if_pos h2, if_pos (Classical.not_not.1 fun h => hok ⟨h1, h2, h⟩), if_pos (Classical.not_not.1 fun h => hok ⟨h1, h2, h⟩)]
          exact ⟨17, rfl, rfl, by decide⟩
        · rw [if_pos h1, if_pos h1, if_neg h2, if_neg h2]; exact ⟨_, rfl, rfl, h2⟩
      · rw [if_neg h1, if_neg h1]; exact ⟨_, rfl, rfl, h1⟩
    obtain ⟨x, h1, h2, h3⟩ := hx
    rw [h1] at HC
    rw [h2]
    have hb : (x != 0) = true := by simp [h3]
    clear h1 h2 h3 hok HA
    dsimp only at HC
    go_enter Try.func29, Try.ntmps29
    go_wp2_with fail
    refine (HC.out _ hE0).mono ?_
    rintro e w1 ⟨rfl, hE⟩
    go_wp2_with fail
    go_ret2
    exact ⟨_, rfl, Coll.nil _ _, hE0.trans hE⟩
end Go.Proofs.Ytmkmgimmlohamaa
