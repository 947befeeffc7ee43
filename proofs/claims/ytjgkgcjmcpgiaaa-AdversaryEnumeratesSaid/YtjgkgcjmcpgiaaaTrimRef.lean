/-
  The reference's Trimmed, Trim.
  Conditions: as each theorem states.
-/
import Derived.Test.YtjgkgcjmcpgiaaaWordsQ
import Derived.Test.YtjgkgcjmcpgiaaaSame2
namespace Go.Proofs.Ytjgkgcjmcpgiaaa
open Go.RowKit
attribute [local go_sem] Oper.semAt_some

/-- The new number of a reachable state. -/
noncomputable def numR (A : Adv) (s : Nat) : Nat := ((List.range s).filter (reachB A)).length
theorem numR_yes {A : Adv} {s : Nat} (h : reachB A s = true) : numR A (s + 1) = numR A s + 1 := by unfold numR; rw [List.range_succ, List.filter_append]; simp [h]
theorem numR_no {A : Adv} {s : Nat} (h : reachB A s = false) : numR A (s + 1) = numR A s := by unfold numR; rw [List.range_succ, List.filter_append]; simp [h]
theorem numR_le (A : Adv) (s : Nat) : numR A s ≤ s := by
  have := List.length_filter_le (reachB A) (List.range s)
  simpa [numR] using this
noncomputable def trimMv (A : Adv) (m : Mv) : Mv := ⟨m.r, numR A m.to.toNat⟩
noncomputable def trimSt (A : Adv) (n : Nat) : List (List Mv) := ((List.range n).filter (reachB A)).map fun s => (A.st.getD s []).map (trimMv A)
theorem trimSt_yes {A : Adv} {n : Nat} (h : reachB A n = true) : trimSt A (n + 1) = trimSt A n ++ [(A.st.getD n []).map (trimMv A)] := by unfold trimSt; rw [List.range_succ, List.filter_append]; simp [h]
theorem trimSt_no {A : Adv} {n : Nat} (h : reachB A n = false) : trimSt A (n + 1) = trimSt A n := by unfold trimSt; rw [List.range_succ, List.filter_append]; simp [h]
theorem trimSt_len (A : Adv) (n : Nat) : (trimSt A n).length ≤ n := by unfold trimSt; rw [List.length_map]; exact numR_le A n
/-- The adversary with its reachable states alone. -/
noncomputable def trimA (A : Adv) : Adv := ⟨A.n, trimSt A A.L⟩
/-- What Trim returns. -/
noncomputable def trimS (A : Adv) : Adv × Int := if achk A = 0 then (trimA A, 0) else (⟨0, []⟩, achk A)
theorem trim_snoc (A : Adv) (s i : Nat) (hi : i < A.len s) : ((A.st.getD s []).take (i + 1)).map (trimMv A) = ((A.st.getD s []).take i).map (trimMv A) ++ [trimMv A (A.mv s i)] := by
  have hi' : i < (A.st.getD s []).length := hi
  rw [List.take_succ_eq_append_getElem hi', List.map_append, List.map_singleton]
  congr 3
  exact (getElem_getD' hi').symm

theorem len_le_moves (A : Adv) {s : Nat} (hs : s < A.L) : A.len s ≤ movesN A := by
  rcases Nat.eq_zero_or_pos (A.len s) with h | h
  · omega
  · have h9 := pre_step A (s := s) (j := A.len s - 1) (by omega) (s' := A.L) (j' := 0) hs
    have e1 : A.pre s (A.len s - 1) = A.pre s 0 + (A.len s - 1) := rfl
    rw [pre_moves] at h9
    omega

theorem Coll.of {α : Type} {e1 e2 : TypeId} {enc : α → List Value} {size : Nat} {W W' : World} {base : Nat} {u : Value} {ws : List (List α)} (h : Coll e1 e2 enc size W base u ws) (hs : W.heap.size ≤ W'.heap.size)
    (hb : ∀ (k : Nat) (cs : Array Value) (e : TypeId) (fr : Nat × Nat), W.heap[k]? = some (.cells cs e fr) → (e = e1 ∨ e = e2) → W'.heap[k]? = W.heap[k]?) : Coll e1 e2 enc size W' base u ws := by
  have hty := h.typed
  obtain ⟨vs, h1, h2, h3⟩ := h
  refine ⟨vs, h1, h2.of_block fun k hk => ?_, fun i v xs hv hx => ?_⟩
  · obtain ⟨_, _, hh⟩ := hty k hk
    exact hb _ _ _ _ hh (.inl rfl)
  · have hr := h3 i v xs hv hx
    have key : ∀ (a : Addr) (n c : Nat), v = .slice (some a) n c → W'.heap[a.block]? = W.heap[a.block]? := fun a n c hv => by
      obtain ⟨cs, fr, hh⟩ := hr.2 a n c hv
      exact hb _ _ _ _ hh (.inr rfl)
    refine ⟨hr.1.of_block hs key, fun a n c hv => ?_⟩
    obtain ⟨cs, fr, hh⟩ := hr.2 a n c hv
    exact ⟨cs, fr, (key a n c hv).trans hh⟩
/-- A store to a block of another type. -/
theorem Coll.setOther {α : Type} {e1 e2 : TypeId} {enc : α → List Value} {size : Nat} {W : World} {base : Nat} {u : Value} {ws : List (List α)} (h : Coll e1 e2 enc size W base u ws) {b : Nat} {cs : Array Value} {e : TypeId} {fr : Nat × Nat}
    (hb : W.heap[b]? = some (.cells cs e fr)) (h1 : e ≠ e1) (h2 : e ≠ e2) (o : Nat) (x : Value) : Coll e1 e2 enc size (W.setCell ⟨b, o, none⟩ x) base u ws :=
  h.of (by simp) fun k cs' e' fr' hh he => Below.heap_setCell _ _ _ _ fun hk => by
    subst hk
    rw [hb] at hh
    injection hh with hh
    injection hh with _ hh
    subst hh
    rcases he with he | he
    · exact h1 he
    · exact h2 he
theorem Coll.slice {α : Type} {e1 e2 : TypeId} {enc : α → List Value} {size : Nat} {W : World} {base : Nat} {u : Value} {ws : List (List α)} (h : Coll e1 e2 enc size W base u ws) : ∃ q c, u = .slice q ws.length c := by
  rcases h.form with ⟨h, hn⟩ | ⟨g, c, h, _⟩
  · exact ⟨none, 0, by rw [h, hn]; rfl⟩
  · exact ⟨_, _, h⟩
theorem Coll.adv {W : World} {base : Nat} {u : Value} {A : Adv} (h : Coll 62 69 Mv.cells 8 W base u A.st) (hl : A.st.length ≤ 17592186044416) : AdvRep W (.agg #[.int .i64 A.n, u]) A := ⟨u, rfl, h.rows2 hl⟩
theorem mslice_info : (Try.prog.info? 62).map (fun i => (i.zero, i.size, i.bytes)) = some (some (.slice none 0 0), 1, 24) := by kernel_rfl
theorem move_info : (Try.prog.info? 69).map (fun i => (i.zero, i.size, i.bytes)) = some (some (Mv.v default), 8, 64) := by kernel_rfl
theorem mv_one (x : Mv) : ∀ u ∈ Mv.cells x, u.oneCell' = true := by intro u hu; simp only [List.mem_cons, List.not_mem_nil, or_false] at hu; rcases hu with rfl | rfl | rfl | rfl | rfl | rfl | rfl | rfl <;> rfl

/-- The loop's move, and the new number of its state. -/
def TS (h b t : Nat) (n1 a1 b1 c1 d1 e1 f1 tn nr : Int) (V : World) : Prop := V.cell? ⟨b, t, none⟩ = some (.int .i64 nr) ∧ V.cell? ⟨h, 0, none⟩ = some (.int .i64 n1) ∧ V.cell? ⟨h, 1, none⟩ = some (.int .i64 a1) ∧ V.cell? ⟨h, 2, none⟩ = some (.int .i64 b1) ∧
  V.cell? ⟨h, 3, none⟩ = some (.int .i64 c1) ∧ V.cell? ⟨h, 4, none⟩ = some (.int .i64 d1) ∧ V.cell? ⟨h, 5, none⟩ = some (.int .i64 e1) ∧ V.cell? ⟨h, 6, none⟩ = some (.int .i64 f1) ∧ V.cell? ⟨h, 7, none⟩ = some (.int .i64 tn)
theorem TS.of {h b t : Nat} {n1 a1 b1 c1 d1 e1 f1 tn nr : Int} {V V' : World} (hT : TS h b t n1 a1 b1 c1 d1 e1 f1 tn nr V) (h1 : V'.heap[h]? = V.heap[h]?) (h2 : V'.heap[b]? = V.heap[b]?) : TS h b t n1 a1 b1 c1 d1 e1 f1 tn nr V' := by
  obtain ⟨x, x0, x1, x2, x3, x4, x5, x6, x7⟩ := hT
  have k : ∀ j, V'.cell? ⟨h, j, none⟩ = V.cell? ⟨h, j, none⟩ := fun j => World.cell?_of_block (a := ⟨h, j, none⟩) h1
  exact ⟨(World.cell?_of_block (a := ⟨b, t, none⟩) h2).trans x, (k 0).trans x0, (k 1).trans x1, (k 2).trans x2, (k 3).trans x3, (k 4).trans x4, (k 5).trans x5, (k 6).trans x6, (k 7).trans x7⟩

set_option maxRecDepth 8000 in
set_option maxHeartbeats 4000000 in
theorem rtrimmed_any (A : Adv) (v : Value) (w : World) (hA : AdvRep w v A) (h0 : achk A = 0) :
    Calls Try.prog 56 #[v] w (RetV (fun u w' => ∃ q, u = .agg #[.int .i64 A.n, q] ∧ Coll 62 69 Mv.cells 8 w' w.heap.size q (trimSt A A.L)) w) := by
  have HR := hide (fun W (hE : Ext w W) => rreached_any A v W (hA.ext hE) h0)
  obtain ⟨p, c, rfl, hc, hl, hat⟩ := hA.all_
  have HAT := hide hat
  clear hA hat
  obtain ⟨hn1, hn2, hL1, hL2, hmv, hst, _⟩ := achk_zero h0
  have HS := hide (sound_of hst)
  have H0 := hide h0
  have HMN := hide hmv
  clear hst h0 hn1 hn2 hmv
  have hmk := fun W => run_make_row' (P := Try.prog) 47 3 (.int .i64 0) 8 Try.underlying47 int_info rfl .i64 .i64 A.L (by omega) (by omega) W
  have hE0 : Ext w ((w.alloc (.cells #[.int .i64 A.n, .slice p A.L c] 24)).alloc (.cells #[.int .i64 0, .slice none 0 0] 24)) := ((Ext.refl w).alloc _).alloc _
  go_enter Try.func56, Try.ntmps56
  go_wp2_with fail
  refine (HR.out _ hE0).mono ?_
  rintro e w1 ⟨⟨gr, rfl, hgr, hrow⟩, hE⟩
  have hz0 : w.heap.size + 2 ≤ w1.heap.size := by have := hE.size; simp at this; omega
  have ha1 : w1.cell? ⟨w.heap.size, 1, none⟩ = some (.slice p A.L c) := by
    rw [hE.cell (p := ⟨w.heap.size, 1, none⟩) (by simp; omega), cell_alloc_old _ (by simp), cell_new]; rfl
  have ha0 : w1.cell? ⟨w.heap.size, 0, none⟩ = some (.int .i64 A.n) := by
    rw [hE.cell (p := ⟨w.heap.size, 0, none⟩) (by simp; omega), cell_alloc_old _ (by simp), cell_new]; rfl
  have hb1 : w1.heap[w.heap.size + 1]? = some (.cells #[.int .i64 0, .slice none 0 0] 24 (0, 0)) := by
    rw [hE.b.block _ (by simp)]
    have := heap_alloc_new (w.alloc (.cells #[.int .i64 A.n, .slice p A.L c] 24)) (.cells #[.int .i64 0, .slice none 0 0] 24)
    rwa [World.size_alloc] at this
  have hEw := hE0.trans hE
  clear hE HR hE0
  have hrl := lt_of_heap hrow
  go_wp2_with fail
  obtain ⟨w2, hw2⟩ : ∃ w2, w1.alloc (.cells (madeCells #[.int .i64 0] A.L) 3) = w2 := ⟨_, rfl⟩
  have hE2 : Ext w1 w2 := by rw [← hw2]; exact (Ext.refl _).alloc _
  have hn2 : w2.heap[w1.heap.size]? = some (.cells (crow (fun _ => 0) A.L) 3 (0, 0)) := by rw [← hw2, crow_zero, ← made_rep]; exact heap_alloc_new _ _
  have hz2 : w2.heap.size = w1.heap.size + 1 := by rw [← hw2]; simp
  rw [hw2]
  clear hw2
  have hE2w := hEw.trans hE2
  go_loopw [5, 6] (fun y x wr => ∃ k : Nat, k ≤ A.L ∧ x = .int .i64 k ∧ y = .int .i64 (numR A k) ∧ Ext w1 wr ∧ wr.heap[w1.heap.size]? = some (.cells (crow (fun s => if s < k then numR A s else 0) A.L) 3 (0, 0))) (fun _ x _ => A.L - (intOf x).toNat)
  case atStart => exact ⟨0, by omega, rfl, rfl, hE2, by rw [hn2]; congr 2⟩
  case round =>
    clear hE2 hn2 hE2w hz2 w2
    obtain ⟨k, hk, rfl, rfl, hE, hn⟩ := hrel
    have HN := hide hn
    clear hn
    have hnk := numR_le A k
    by_cases hlt : k < A.L
    · have hrk : wr.cell? ⟨gr, k, none⟩ = some (.bool (reachB A k)) := by rw [hE.cell (p := ⟨gr, k, none⟩) hrl, cell_of_row _ _ _ _ _ _ hrow, bcells_at _ hlt]
      have hnc : wr.cell? ⟨w1.heap.size, k, none⟩ = some (.int .i64 0) := by rw [cell_of_row _ _ _ _ _ _ HN.out, crow_at hlt]; simp
      have hnf : wr.frozen? ⟨w1.heap.size, k, none⟩ = false := frozen_row HN.out _
      have HY := hide (fun h => numR_yes (A := A) (s := k) h)
      have HO := hide (fun h => numR_no (A := A) (s := k) h)
      have hnew : (wr.setCell ⟨w1.heap.size, k, none⟩ (.int .i64 (numR A k))).heap[w1.heap.size]? = some (.cells (crow (fun s => if s < k + 1 then numR A s else 0) A.L) 3 (0, 0)) := by
        rw [row_set HN.out]
        have := crow_set (f := fun s => if s < k then (numR A s : Int) else 0) (g := fun s => if s < k + 1 then (numR A s : Int) else 0) hlt (fun t _ hne => by
          by_cases h : t < k
          · rw [if_pos h, if_pos (by omega)]
          · rw [if_neg h, if_neg (by omega)])
        rw [if_pos (Nat.lt_succ_self k)] at this
        rw [this]
      have HNEW := hide hnew
      clear hnew
      generalize reachB A k = r at hrk HY HO
      cases r with
      | true =>
        go_wp2_with fail
        exact ⟨⟨k + 1, by omega, by simp, by rw [HY.out rfl]; simp, hE.setCell (Nat.le_refl _) _, HNEW.out⟩, by simp [intOf]; omega⟩
      | false =>
        go_wp2_with fail
        exact ⟨⟨k + 1, by omega, by simp, by rw [HO.out rfl], hE.setCell (Nat.le_refl _) _, HNEW.out⟩, by simp [intOf]; omega⟩
    · obtain rfl : k = A.L := by omega
      have hcn : crow (fun s => if s < A.L then (numR A s : Int) else 0) A.L = crow (fun s => (numR A s : Int)) A.L := crow_congr fun t ht => if_pos ht
      have hn := HN.out
      rw [hcn] at hn
      have ha1r := (hE.cell (p := ⟨w.heap.size, 1, none⟩) (by show w.heap.size < _; omega)).trans ha1
      have ha0r := (hE.cell (p := ⟨w.heap.size, 0, none⟩) (by show w.heap.size < _; omega)).trans ha0
      have hbr := (hE.b.block _ (by omega)).trans hb1
      have hrr := (hE.b.block _ hrl).trans hrow
      have hEr := hEw.trans hE
      have hzr := hE.size
      clear hcn HN hE ha1 ha0 hb1 hrow hnk hlt hk
      have HRR := hide hrr
      have HNN := hide hn
      have HBB := hide hbr
      clear hrr hn hbr
      generalize numR A A.L = nn
      go_wp2_with fail
      obtain ⟨w8, hw8⟩ : ∃ w8, wr.alloc (.cells #[.int .i64 A.n, .slice none 0 0] 24) = w8 := ⟨_, rfl⟩
      have hE8 : Ext wr w8 := by rw [← hw8]; exact (Ext.refl _).alloc _
      have h8 : w8.heap[wr.heap.size]? = some (.cells #[.int .i64 A.n, .slice none 0 0] 24 (0, 0)) := by rw [← hw8]; exact heap_alloc_new _ _
      rw [hw8]
      clear hw8
      obtain ⟨wa, rfl⟩ : ∃ wa : World, wa = wr := ⟨_, rfl⟩
      go_loopw [8] (fun x V => ∃ (k : Nat) (q : Value), k ≤ A.L ∧ x = .int .i64 k ∧ Ext wa V ∧ V.heap[wa.heap.size]? = some (.cells #[.int .i64 A.n, q] 24 (0, 0)) ∧ Coll 62 69 Mv.cells 8 V wa.heap.size q (trimSt A k)) (fun x _ => A.L - (intOf x).toNat)
      case atStart => exact ⟨0, .slice none 0 0, by omega, rfl, hE8, h8, Coll.nil _ _⟩
      case round =>
        clear hE8 h8 w8
        obtain ⟨k, q, hk, rfl, hE, h8, hC⟩ := hrel
        have HC := hide hC
        have HE8 := hide h8
        clear hC h8
        by_cases hlt : k < A.L
        · have hrk : wr.cell? ⟨gr, k, none⟩ = some (.bool (reachB A k)) := by rw [hE.cell (p := ⟨gr, k, none⟩) (lt_of_heap HRR.out), cell_of_row _ _ _ _ _ _ HRR.out, bcells_at _ hlt]
          have HY := hide (fun h => trimSt_yes (A := A) (n := k) h)
          have HO := hide (fun h => trimSt_no (A := A) (n := k) h)
          generalize reachB A k = r at hrk HY HO
          cases r with
          | false =>
            go_wp2_with fail
            have hC := HC.out
            rw [← HO.out rfl] at hC
            exact ⟨⟨k + 1, q, by omega, by simp, hE, HE8.out, hC⟩, by simp [intOf]; omega⟩
          | true =>
            obtain ⟨b, o, rfl, hb, hat⟩ := HAT.out (by omega)
            obtain ⟨qs, ds, hcs, _, hls, _, hmv⟩ := hat k hlt
            have HMV := hide hmv
            clear hat hmv HO
            have hEw2 := hEr.trans hE
            have ha1o := (hE.cell (p := ⟨w.heap.size, 1, none⟩) (by show w.heap.size < _; omega)).trans ha1r
            go_wp2_with fail
            obtain ⟨wo, rfl⟩ : ∃ wo : World, wo = wr := ⟨_, rfl⟩
            go_loopw [9, 10] (fun y x V => ∃ i : Nat, i ≤ A.len k ∧ x = .int .i64 i ∧ Own Mv.cells 8 V wo.heap.size 69 y (((A.st.getD k []).take i).map (trimMv A)) ∧ Ext wo V) (fun _ x _ => A.len k - (intOf x).toNat)
            case atStart => exact ⟨0, by omega, rfl, Own.nil _ _ _ (fun _ => rfl), Ext.refl _⟩
            case round =>
              obtain ⟨i, hi, rfl, hown, hE3⟩ := hrel
              have HOWN := hide hown
              clear hown
              have hzr3 := hE3.size
              have ha1i := (hE3.cell (p := ⟨w.heap.size, 1, none⟩) (by show w.heap.size < _; have := hE.size; omega)).trans ha1o
              have hEw3 := hEw2.trans hE3
              by_cases hli : i < A.len k
              · obtain ⟨b4, o4, rfl, hb4, hmv⟩ := HMV.out (by omega)
                obtain ⟨x0, x1, x2, x3, x4, x5, x6, x7⟩ := hmv i hli
                obtain ⟨ht0, ht1, _, _⟩ := HS.out k hlt i hli
                have h0 := x0 _ hEw3
                have h1 := x1 _ hEw3
                have h2 := x2 _ hEw3
                have h3 := x3 _ hEw3
                have h4 := x4 _ hEw3
                have h5 := x5 _ hEw3
                have h6 := x6 _ hEw3
                have h7 := x7 _ hEw3
                have HSN := hide (trim_snoc A k i hli)
                obtain ⟨⟨⟨⟨n1, a1, b1, c1, d1, e1⟩, f1⟩, t1⟩, hm⟩ : ∃ m, A.mv k i = m := ⟨_, rfl⟩
                rw [hm] at h0 h1 h2 h3 h4 h5 h6 h7 ht0 ht1 HSN
                dsimp only at h0 h1 h2 h3 h4 h5 h6 h7 ht0 ht1
                obtain ⟨tn, rfl⟩ := Int.eq_ofNat_of_zero_le ht0
                have htm : trimMv A ⟨⟨⟨n1, a1, b1, c1, d1, e1⟩, f1⟩, tn⟩ = ⟨⟨⟨n1, a1, b1, c1, d1, e1⟩, f1⟩, numR A tn⟩ := rfl
                rw [htm] at HSN
                have hll : (((A.st.getD k []).take i).map (trimMv A)).length ≤ 4096 := by
                  have h1 := len_le_moves A hlt
                  have h2 := HMN.out
                  rw [List.length_map, List.length_take]; omega
                have HLL := hide hll
                have hnum : wr.cell? ⟨w1.heap.size, tn, none⟩ = some (.int .i64 (numR A tn)) := by
                  rw [(hE.trans hE3).cell (p := ⟨w1.heap.size, tn, none⟩) (lt_of_heap HNN.out), cell_of_row _ _ _ _ _ _ HNN.out, crow_at (by omega)]
                have hzN := lt_of_heap HNN.out
                generalize numR A tn = nr at hnum HSN
                clear x0 x1 x2 x3 x4 x5 x6 x7 hm hmv htm hll
                go_wp2_with fail
                obtain ⟨W1, hW1⟩ : ∃ W1, wr.alloc (.cells #[.int .i64 n1, .int .i64 a1, .int .i64 b1, .int .i64 c1, .int .i64 d1, .int .i64 e1, .int .i64 f1, .int .i64 tn] 69) = W1 := ⟨_, rfl⟩
                have hE1 : Ext wr W1 := by rw [← hW1]; exact (Ext.refl _).alloc _
                have hm1 : W1.heap[wr.heap.size]? = some (.cells #[.int .i64 n1, .int .i64 a1, .int .i64 b1, .int .i64 c1, .int .i64 d1, .int .i64 e1, .int .i64 f1, .int .i64 tn] 69 (0, 0)) := by rw [← hW1]; exact heap_alloc_new _ _
                rw [hW1]
                clear hW1 h0 h1 h2 h3 h4 h5 h6 h7
                refine wp_region_held 9 (TS wr.heap.size w1.heap.size tn n1 a1 b1 c1 d1 e1 f1 tn nr) (by kernel_rfl) (by kernel_rfl) ?_
                intro W2 hW2
                have hE2 : Ext wr W2 := by rw [hW2]; exact hE1.drew
                have hm2 : W2.heap[wr.heap.size]? = some (.cells #[.int .i64 n1, .int .i64 a1, .int .i64 b1, .int .i64 c1, .int .i64 d1, .int .i64 e1, .int .i64 f1, .int .i64 tn] 69 (0, 0)) := by rw [hW2]; exact hm1
                clear hW2 hE1 hm1 W1
                have hT2 : TS wr.heap.size w1.heap.size tn n1 a1 b1 c1 d1 e1 f1 tn nr W2 := by
                  refine ⟨(hE2.cell (p := ⟨w1.heap.size, tn, none⟩) (by have := (hE.trans hE3).size; show w1.heap.size < _; omega)).trans hnum, ?_, ?_, ?_, ?_, ?_, ?_, ?_, ?_⟩
                  all_goals (rw [cell_of_row _ _ _ _ _ _ hm2]; rfl)
                refine ⟨hT2, ?_⟩
                have HT2 := hide hT2
                have hlm := lt_of_heap hm2
                clear hm2 hT2 hnum
                simp only [List.take_succ_cons, List.take_zero, List.drop_succ_cons, List.drop_zero]
                refine wpHead_step u9 (by simp [Region.wanted]) (fun V _ => by go_simp) ?_
                refine wpHead_step (.pointer (some ⟨wr.heap.size, 0, none⟩)) (by simp [Region.wanted]) (fun V _ => by go_simp) ?_
                refine wpHead_step (.agg #[.int .i64 n1, .int .i64 a1, .int .i64 b1, .int .i64 c1, .int .i64 d1, .int .i64 e1, .int .i64 f1]) (by simp [Region.wanted]) (fun V ⟨_, v0, v1, v2, v3, v4, v5, v6, _⟩ => by go_simp) ?_
                refine wpHead_step (.slice (some ⟨w1.heap.size, 0, none⟩) A.L A.L) (by simp [Region.wanted]) (fun V _ => by go_simp) ?_
                refine wpHead_step (.pointer (some ⟨wr.heap.size, 7, none⟩)) (by simp [Region.wanted]) (fun V _ => by go_simp) ?_
                refine wpHead_step (.int .i64 tn) (by simp [Region.wanted]) (fun V ⟨_, _, _, _, _, _, _, _, hV⟩ => by go_simp) ?_
                refine wpHead_step (.pointer (some ⟨w1.heap.size, tn, none⟩)) (by simp [Region.wanted]) (fun V _ => by go_simp) ?_
                refine wpHead_step (.int .i64 nr) (by simp [Region.wanted]) (fun V ⟨hV, _⟩ => by go_simp) ?_
                refine wpHead_step (.agg #[.int .i64 n1, .int .i64 a1, .int .i64 b1, .int .i64 c1, .int .i64 d1, .int .i64 e1, .int .i64 f1, .int .i64 nr]) (by simp [Region.wanted]) (fun V _ => by go_simp) ?_
                simp only [Act.put, List.setIfInBounds_toArray, List.set_cons_zero, List.set_cons_succ]
                show wpTail _ _ _ _ _ _ _ _ _
                refine wpTail_keep (fun KK hKK => ?_)
                go_wp2_with fail
                have hzz : w1.heap.size < wr.heap.size := by have := (hE.trans hE3).size; omega
                refine ⟨rfl, hKK _ _ (HT2.out.of (Below.heap_alloc _ _ _ hlm) (Below.heap_alloc _ _ _ (by omega))) ?_⟩
                clear hKK KK
                have HO3 := hide ((HOWN.out.ext hE2).alloc (.cells #[.int .i64 n1, .int .i64 a1, .int .i64 b1, .int .i64 c1, .int .i64 d1, .int .i64 e1, .int .i64 f1, .int .i64 nr] 69))
                have HX3 : Hid (∀ j u, (Mv.cells ⟨⟨⟨n1, a1, b1, c1, d1, e1⟩, f1⟩, nr⟩)[j]? = some u → (W2.alloc (.cells #[.int .i64 n1, .int .i64 a1, .int .i64 b1, .int .i64 c1, .int .i64 d1, .int .i64 e1, .int .i64 f1, .int .i64 nr] 69)).cell? ⟨W2.heap.size, j, none⟩ = some u) := fun j u hj => by rw [cell_new, List.getElem?_toArray]; exact hj
                have hszw : wo.heap.size ≤ W2.heap.size := Nat.le_trans hzr3 hE2.size
                refine wpTail_keep (fun KK hKK => ?_)
                go_wp2_with (at_builtin; refine wpList_append1 rfl (.tmp 65) (.tmp 74) 62 rfl wo.heap.size 69 (Mv.v default) 8 64 Try.underlying62 move_info rfl (by decide) u9 (((A.st.getD k []).take i).map (trimMv A)) ⟨⟨⟨n1, a1, b1, c1, d1, e1⟩, f1⟩, nr⟩ W2.heap.size rfl HO3.out rfl HX3.out (mv_one _) (by have := HLL.out; omega) (by decide) (by simp; omega) ?_; intro v' W4 hO4 hg4 hf4)
                have hlt4 := HOWN.out.2.lt
                have hT4 := HT2.out.of (V' := W4) ((hg4.block _ (by simp; omega) (fun he => by have := hlt4 _ he.symm; omega)).trans (Below.heap_alloc _ _ _ hlm)) ((hg4.block _ (by simp; omega) (fun he => by have := hlt4 _ he.symm; have := (lt_of_heap HNN.out); have := hE.size; omega)).trans (Below.heap_alloc _ _ _ (by omega)))
                refine ⟨rfl, hKK _ _ hT4 ?_⟩
                clear hKK KK
                have HO4 := hide hO4
                have HG4 := hide hg4
                have HT4 := hide hT4
                have HE2 := hide hE2
                clear hO4 hg4 hf4 hT4 hlt4
                refine wpTail_keep (fun KK hKK => ?_)
                go_wp2_with fail
                refine ⟨rfl, hKK _ _ HT4.out ?_⟩
                clear hKK KK
                refine wpTail_nil ?_
                go_wp2_with fail
                have hO4 := HO4.out
                rw [← HSN.out] at hO4
                exact ⟨⟨i + 1, by omega, by simp, hO4, (Ext.trans hE3 HE2.out).appended (HOWN.out.ext HE2.out) HG4.out⟩, by simp [intOf]; omega⟩
              · obtain rfl : i = A.len k := by omega
                have htk : (A.st.getD k []).take (A.len k) = A.st.getD k [] := List.take_length
                have hown := HOWN.out
                rw [htk] at hown
                have hll : ((A.st.getD k []).map (trimMv A)).length ≤ 4096 := by
                  have h1 := len_le_moves A hlt
                  have h2 := HMN.out
                  rw [List.length_map]; exact Nat.le_trans h1 h2
                obtain ⟨ms, hms⟩ : ∃ ms, (A.st.getD k []).map (trimMv A) = ms := ⟨_, rfl⟩
                rw [hms] at hown hll
                have HMS := hide hms
                clear hms
                have hRE := hown.rowE (by omega)
                have hC := HC.out.ext hE3
                obtain ⟨qy, cy, rfl, _⟩ := hRE.1
                obtain ⟨qq, cq, rfl⟩ := hC.slice
                have h8r : wr.heap[wa.heap.size]? = some (.cells #[.int .i64 A.n, .slice qq (trimSt A k).length cq] 24 (0, 0)) := (hE3.b.block _ (lt_of_heap HE8.out)).trans HE8.out
                have h81 : wr.cell? ⟨wa.heap.size, 1, none⟩ = some (.slice qq (trimSt A k).length cq) := by rw [cell_of_row _ _ _ _ _ _ h8r]; rfl
                have HH8 := hide h8r
                have HRE := hide hRE
                have HC5 := hide (hC.ext ((Ext.refl wr).alloc (.cells #[.slice qy ms.length cy] 62)))
                have HRE5 := hide (hRE.ext ((Ext.refl wr).alloc (.cells #[.slice qy ms.length cy] 62)))
                have HX5 := hide (cell_new1 wr (.slice qy ms.length cy) 62)
                have hkl := trimSt_len A k
                clear HC HOWN hown htk hll hRE hC h8r
                have H8K : Hid (∀ W5, (wr.alloc (.cells #[.slice qy ms.length cy] 62)).grownBy W5 (Value.slice qq (trimSt A k).length cq).ownBlock → W5.heap[wa.heap.size]? = some (.cells #[.int .i64 A.n, .slice qq (trimSt A k).length cq] 24 (0, 0))) := fun W5 hg5 => by
                  have h1 : (wr.alloc (.cells #[.slice qy ms.length cy] 62)).heap[wa.heap.size]? = _ := (Below.heap_alloc _ _ _ (lt_of_heap HH8.out)).trans HH8.out
                  refine (hg5.block _ (lt_of_heap h1) (fun he => ?_)).trans h1
                  obtain ⟨cur, fr, h'⟩ := HC5.out.typed _ he.symm
                  rw [h1] at h'
                  injection h' with h'
                  injection h' with _ h'
                  exact absurd h' (by decide)
                have hwaw : wa.heap.size ≤ wr.heap.size := by have := hE.size; omega
                go_wp2_with (at_builtin; refine wpList_push rfl (.tmp 77) (.tmp 79) 22 rfl wa.heap.size 62 69 8 (by decide) Try.underlying22 mslice_info _ (trimSt A k) _ ms wr.heap.size rfl HC5.out rfl HX5.out HRE5.out (by omega) (by simp; omega) ?_; intro v' W5 hC5 hg5 hf5; obtain ⟨g', c', rfl, _⟩ := hf5; have hk5 := H8K.out _ hg5; have h5c := cell_of_row W5 wa.heap.size 1 _ _ _ hk5; have h5f := frozen_row hk5 1; have HK5 := hide hk5; have HC6 := hide hC5; have HG5 := hide hg5; clear hC5 hg5 hk5)
                have hC6 := HC6.out.setOther HK5.out (by decide) (by decide) 1 (.slice (some ⟨g', 0, none⟩) ((trimSt A k).length + 1) c')
                have hy := HY.out (by trivial)
                rw [HMS.out] at hy
                rw [← hy] at hC6
                have hE5 : Ext wa W5 := ((hE.trans hE3).alloc (.cells #[.slice qy ms.length cy] 62)).grown HG5.out HC5.out.block_ge
                refine ⟨⟨k + 1, _, by omega, by simp, hE5.setCell (Nat.le_refl _) _, ?_, hC6⟩, by simp [intOf]; omega⟩
                rw [row_set HK5.out]; rfl
        · obtain rfl : k = A.L := by omega
          obtain ⟨qq, cq, rfl⟩ := HC.out.slice
          have h80 : wr.cell? ⟨wa.heap.size, 0, none⟩ = some (.int .i64 A.n) := by rw [cell_of_row _ _ _ _ _ _ HE8.out]; rfl
          have h81 : wr.cell? ⟨wa.heap.size, 1, none⟩ = some (.slice qq (trimSt A A.L).length cq) := by rw [cell_of_row _ _ _ _ _ _ HE8.out]; rfl
          have hb2 := (hE.b.block _ (lt_of_heap HBB.out)).trans HBB.out
          have hb20 : wr.cell? ⟨w.heap.size + 1, 0, none⟩ = some (.int .i64 0) := by rw [cell_of_row _ _ _ _ _ _ hb2]; rfl
          have hb21 : wr.cell? ⟨w.heap.size + 1, 1, none⟩ = some (.slice none 0 0) := by rw [cell_of_row _ _ _ _ _ _ hb2]; rfl
          have hb2f := frozen_row hb2
          have hb2f0 := hb2f 0
          have hb2f1 := hb2f 1
          have HB2 := hide hb2
          have hEE := hEr.trans hE
          have hwaw : w.heap.size ≤ wa.heap.size := hEr.size
          clear hb2 hb2f
          go_wp2_with fail
          have c0 : ((wr.setCell ⟨w.heap.size + 1, 0, none⟩ (.int .i64 A.n)).setCell ⟨w.heap.size + 1, 1, none⟩ (.slice qq (trimSt A A.L).length cq)).cell? ⟨w.heap.size + 1, 0, none⟩ = some (.int .i64 A.n) := by
            rw [cell_of_row _ _ _ _ _ _ (row_set (row_set HB2.out 0 _) 1 _)]; rfl
          have c1 : ((wr.setCell ⟨w.heap.size + 1, 0, none⟩ (.int .i64 A.n)).setCell ⟨w.heap.size + 1, 1, none⟩ (.slice qq (trimSt A A.L).length cq)).cell? ⟨w.heap.size + 1, 1, none⟩ = some (.slice qq (trimSt A A.L).length cq) := by
            rw [cell_of_row _ _ _ _ _ _ (row_set (row_set HB2.out 0 _) 1 _)]; rfl
          have hC9 := ((HC.out.mono hwaw).setOther HB2.out (by decide) (by decide) 0 (.int .i64 A.n)).setOther (row_set HB2.out 0 _) (by decide) (by decide) 1 (.slice qq (trimSt A A.L).length cq)
          have hE9 := (hEE.setCell (p := ⟨w.heap.size + 1, 0, none⟩) (by simp) (.int .i64 A.n)).setCell (p := ⟨w.heap.size + 1, 1, none⟩) (by simp) (.slice qq (trimSt A A.L).length cq)
          generalize (wr.setCell ⟨w.heap.size + 1, 0, none⟩ (.int .i64 A.n)).setCell ⟨w.heap.size + 1, 1, none⟩ (.slice qq (trimSt A A.L).length cq) = W9 at c0 c1 hC9 hE9 ⊢
          exact bodyPost_ret (v := .agg #[.int .i64 A.n, .slice qq (trimSt A A.L).length cq]) (by simp [results, Try.f56, go_sem, c0, c1]) rfl ⟨_, rfl, ⟨_, rfl, hC9⟩, hE9⟩
end Go.Proofs.Ytjgkgcjmcpgiaaa
